/-
  The functions of this seat, as the evaluator gives them: printed by a program; each tied to its function by the kernel.
  Blocks of numbers; calls that leave what was there.
  Layer 5, and what it asks of layer 2: tasks, what passes on, which instructions may be.
  Layer 5, and what it asks of layer 2: which instructions may be; what concerns registers alone.
  Layer 5: what concerns registers alone.
  Layer 5: the document's answer, for what concerns registers alone; the chapter's example.
  Layer 5: closes, forks, joins.
  Layer 5: children.
  What a proof holds of memory, as a list of parts that lie apart: blocks, slices; a rule for each primitive.
  Ranges over functions, over parts: a loop's record, marks, yields.
  Arguments that are programs: functions, their instructions.
-/
import Derived.Test.YtgkfbagclkjilaaGreatDoorPRows2
set_option maxRecDepth 100000
set_option linter.unusedVariables false
set_option linter.unusedSimpArgs false
namespace Go.Proofs.YtgkfbagclkjilaaGreatDoor
open Go Go.Ev
abbrev ltFu0 : Array Value := #[(.int .i64 (0 : Int)), (.int .i64 (0 : Int)), (.int .i64 (0 : Int)), (.int .i64 (0 : Int)), (.int .i64 (0 : Int)), (.int .i64 (0 : Int)), (.int .i64 (0 : Int)), (.int .i64 (0 : Int)), (.int .i64 (0 : Int)), (.int .i64 (0 : Int)), (.int .i64 (0 : Int)), (.int .i64 (0 : Int)), (.int .i64 (0 : Int)), (.int .i64 (0 : Int)), (.int .i64 (0 : Int)), (.int .i64 (0 : Int)), (.int .i64 (0 : Int)), (.int .i64 (0 : Int)), (.int .i64 (0 : Int))]
abbrev ltFu1 : Array Value := #[(.int .i64 (0 : Int)), (.int .i64 (0 : Int)), (.int .i64 (0 : Int)), (.int .i64 (0 : Int)), (.int .i64 (0 : Int)), (.int .i64 (0 : Int)), (.int .i64 (0 : Int)), (.int .i64 (0 : Int)), (.int .i64 (0 : Int)), (.int .i64 (0 : Int)), (.int .i64 (0 : Int)), (.int .i64 (0 : Int)), (.int .i64 (0 : Int)), (.int .i64 (0 : Int)), (.int .i64 (0 : Int)), (.int .i64 (0 : Int)), (.int .i64 (0 : Int)), (.int .i64 (0 : Int)), (.int .i64 (0 : Int)), (.slice none 0 0), (.int .i64 (0 : Int)), (.int .i64 (0 : Int)), (.slice none 0 0), (.slice none 0 0), (.int .i64 (0 : Int)), (.int .i64 (0 : Int)), (.int .i64 (0 : Int))]
def fits_Fits_b (fits_all : Array Value → Sl → Bool → World → ((Int × Int) → World → Prop) → Prop) (p_0 : Array Value) (l_1 : Sl) (w : World) (k : (Int × Int) → World → Prop) : Prop :=
 newC w p_0 24 fun a1 w2 =>
 ldA 1 w2 a1 fun cs3 =>
 fits_all cs3 l_1 false w2 fun x4 w5 =>
 (k ((x4.1, x4.2).1, (x4.1, x4.2).2) w5)
theorem e_fits_Fits (fits_all : Array Value → Sl → Bool → World → ((Int × Int) → World → Prop) → Prop) (x : KT [.ag, .s]) (w : World) (k : KT [(.i .i64), (.i .i64)] → World → Prop) : evFn Go.Proofs.Tryz.prog (orcOf [(n_fits_all, (fun args w c => unL [.ag, .s, .b] args fun x => fits_all x.1 x.2.1 x.2.2 w fun r w => c (packV (valL [(.i .i64), (.i .i64)] r)) w))]) 54 [] Go.Proofs.Tryz.f9 [(.i .i64), (.i .i64)] (valL [.ag, .s] x) w k = fits_Fits_b fits_all x.1 x.2 w k := by kernel_rfl
def fits_Fits (p_0 : Array Value) (l_1 : Sl) (w : World) (k : (Int × Int) → World → Prop) : Prop := fits_Fits_b fits_all p_0 l_1 w k
def d_fits_Fits : Dec := fun args w c => unL [.ag, .s] args fun x => fits_Fits x.1 x.2 w fun r w => c (packV (valL [(.i .i64), (.i .i64)] r)) w
theorem s_fits_Fits : Sound Go.Proofs.Tryz.prog n_fits_Fits d_fits_Fits :=
 sound_of (mask := 54) (h := []) (ds := [(n_fits_all, d_fits_all)]) mixed Go.Proofs.Tryz.func9 ⟨s_fits_all, trivial⟩
 [.ag, .s] [(.i .i64), (.i .i64)] (by kernel_rfl) (fun x w k => fits_Fits x.1 x.2 w k) (fun x w k => e_fits_Fits fits_all x w k)
def fits_Quiet_b (fits_all : Array Value → Sl → Bool → World → ((Int × Int) → World → Prop) → Prop) (p_0 : Array Value) (l_1 : Sl) (w : World) (k : (Int × Int) → World → Prop) : Prop :=
 newC w p_0 24 fun a1 w2 =>
 ldA 1 w2 a1 fun cs3 =>
 fits_all cs3 l_1 true w2 fun x4 w5 =>
 (k ((x4.1, x4.2).1, (x4.1, x4.2).2) w5)
theorem e_fits_Quiet (fits_all : Array Value → Sl → Bool → World → ((Int × Int) → World → Prop) → Prop) (x : KT [.ag, .s]) (w : World) (k : KT [(.i .i64), (.i .i64)] → World → Prop) : evFn Go.Proofs.Tryz.prog (orcOf [(n_fits_all, (fun args w c => unL [.ag, .s, .b] args fun x => fits_all x.1 x.2.1 x.2.2 w fun r w => c (packV (valL [(.i .i64), (.i .i64)] r)) w))]) 54 [] Go.Proofs.Tryz.f11 [(.i .i64), (.i .i64)] (valL [.ag, .s] x) w k = fits_Quiet_b fits_all x.1 x.2 w k := by kernel_rfl
def fits_Quiet (p_0 : Array Value) (l_1 : Sl) (w : World) (k : (Int × Int) → World → Prop) : Prop := fits_Quiet_b fits_all p_0 l_1 w k
def d_fits_Quiet : Dec := fun args w c => unL [.ag, .s] args fun x => fits_Quiet x.1 x.2 w fun r w => c (packV (valL [(.i .i64), (.i .i64)] r)) w
theorem s_fits_Quiet : Sound Go.Proofs.Tryz.prog n_fits_Quiet d_fits_Quiet :=
 sound_of (mask := 54) (h := []) (ds := [(n_fits_all, d_fits_all)]) mixed Go.Proofs.Tryz.func11 ⟨s_fits_all, trivial⟩
 [.ag, .s] [(.i .i64), (.i .i64)] (by kernel_rfl) (fun x w k => fits_Quiet x.1 x.2 w k) (fun x w k => e_fits_Quiet fits_all x w k)
def pelotonlaw08_awake_b (fits_Fits : Array Value → Sl → World → ((Int × Int) → World → Prop) → Prop) (fits_Quiet : Array Value → Sl → World → ((Int × Int) → World → Prop) → Prop)  (w : World) (k : (Bool) → World → Prop) : Prop :=
 spl #[(.int .i64 (0 : Int)), (.int .i64 (0 : Int)), (.int .i64 (0 : Int)), (.int .i64 (0 : Int)), (.int .i64 (0 : Int)), (.int .i64 (0 : Int)), (.int .i64 (0 : Int)), (.int .i64 (0 : Int)), (.int .i64 (0 : Int)), (.int .i64 (0 : Int)), (.int .i64 (0 : Int)), (.int .i64 (0 : Int)), (.int .i64 (0 : Int)), (.int .i64 (0 : Int)), (.int .i64 (0 : Int))] 0 5 #[(.int .i64 (8 : Int)), (.int .i64 (1 : Int)), (.int .i64 (0 : Int)), (.int .i64 (0 : Int)), (.int .i64 (1 : Int))] fun cs1 =>
 spl cs1 5 5 #[(.int .i64 (9 : Int)), (.int .i64 (0 : Int)), (.int .i64 (1 : Int)), (.int .i64 (0 : Int)), (.int .i64 (0 : Int))] fun cs2 =>
 spl cs2 10 5 #[(.int .i64 (16 : Int)), (.int .i64 (0 : Int)), (.int .i64 (0 : Int)), (.int .i64 (0 : Int)), (.int .i64 (0 : Int))] fun cs3 =>
 newC w cs3 42 fun a4 w5 =>
 spl #[(.int .i64 (0 : Int)), (.int .i64 (0 : Int)), (.int .i64 (0 : Int)), (.int .i64 (0 : Int)), (.int .i64 (0 : Int))] 0 5 #[(.int .i64 (16 : Int)), (.int .i64 (0 : Int)), (.int .i64 (0 : Int)), (.int .i64 (0 : Int)), (.int .i64 (0 : Int))] fun cs6 =>
 newC w5 cs6 42 fun a7 w8 =>
 spl #[(.int .i64 (0 : Int)), (.slice none 0 0), (.int .i64 (0 : Int)), (.slice none 0 0)] 0 2 #[(.int .i64 (0 : Int)), (.slice (some a4) 3 3)] fun cs9 =>
 spl cs9 2 2 #[(.int .i64 (0 : Int)), (.slice (some a7) 1 1)] fun cs10 =>
 newC w8 cs10 45 fun a11 w12 =>
 newC w12 #[(.slice none 0 0)] 24 fun a13 w14 =>
 stA 1 w14 a13 #[(.slice (some a11) 2 2)] fun w15 =>
 spl #[(.int .i64 (0 : Int)), (.int .i64 (0 : Int)), (.int .i64 (0 : Int)), (.int .i64 (0 : Int)), (.int .i64 (0 : Int)), (.int .i64 (0 : Int)), (.string (ByteArray.mk #[]))] 0 7 #[(.int .i64 (-(1 : Int))), (.int .i64 (0 : Int)), (.int .i64 (0 : Int)), (.int .i64 (4 : Int)), (.int .i64 (0 : Int)), (.int .i64 (0 : Int)), (.string (ByteArray.mk #[]))] fun cs16 =>
 newC w15 cs16 40 fun a17 w18 =>
 ldA 1 w18 a13 fun cs19 =>
 fits_Fits cs19 (Sl.mk (some a17) 1 1) w18 fun x20 w21 =>
 ldA 1 w21 a13 fun cs22 =>
 fits_Quiet cs22 (Sl.mk (some a17) 1 1) w21 fun x23 w24 =>
 ldA 1 w24 a13 fun cs25 =>
 spl #[(.int .i64 (0 : Int)), (.int .i64 (0 : Int)), (.int .i64 (0 : Int)), (.int .i64 (0 : Int)), (.int .i64 (0 : Int)), (.int .i64 (0 : Int)), (.string (ByteArray.mk #[])), (.int .i64 (0 : Int)), (.int .i64 (0 : Int)), (.int .i64 (0 : Int)), (.int .i64 (0 : Int)), (.int .i64 (0 : Int)), (.int .i64 (0 : Int)), (.string (ByteArray.mk #[]))] 0 7 #[(.int .i64 (-(1 : Int))), (.int .i64 (0 : Int)), (.int .i64 (0 : Int)), (.int .i64 (1 : Int)), (.int .i64 (0 : Int)), (.int .i64 (1 : Int)), (.string (ByteArray.mk #[]))] fun cs26 =>
 spl cs26 7 7 #[(.int .i64 (0 : Int)), (.int .i64 (0 : Int)), (.int .i64 (1 : Int)), (.int .i64 (0 : Int)), (.int .i64 (0 : Int)), (.int .i64 (0 : Int)), (.string (ByteArray.mk #[]))] fun cs27 =>
 newC w24 cs27 40 fun a28 w29 =>
 fits_Quiet cs25 (Sl.mk (some a28) 2 2) w29 fun x30 w31 =>
 (k ((((x20.1, x20.2).2 == (0 : Int)) && ((x23.1, x23.2).2 == (25 : Int))) && ((x30.1, x30.2).2 == (0 : Int))) w31)
theorem e_pelotonlaw08_awake (fits_Fits : Array Value → Sl → World → ((Int × Int) → World → Prop) → Prop) (fits_Quiet : Array Value → Sl → World → ((Int × Int) → World → Prop) → Prop) (x : KT []) (w : World) (k : KT [.b] → World → Prop) : evFn Go.Proofs.Tryz.prog (orcOf [(n_fits_Fits, (fun args w c => unL [.ag, .s] args fun x => fits_Fits x.1 x.2 w fun r w => c (packV (valL [(.i .i64), (.i .i64)] r)) w)), (n_fits_Quiet, (fun args w c => unL [.ag, .s] args fun x => fits_Quiet x.1 x.2 w fun r w => c (packV (valL [(.i .i64), (.i .i64)] r)) w))]) 343 [] Go.Proofs.Tryz.f8 [.b] (valL [] x) w k = pelotonlaw08_awake_b fits_Fits fits_Quiet  w k := by kernel_rfl
def pelotonlaw08_awake  (w : World) (k : (Bool) → World → Prop) : Prop := pelotonlaw08_awake_b fits_Fits fits_Quiet  w k
def d_pelotonlaw08_awake : Dec := fun args w c => unL [] args fun x => pelotonlaw08_awake  w fun r w => c (packV (valL [.b] r)) w
theorem s_pelotonlaw08_awake : Sound Go.Proofs.Tryz.prog n_pelotonlaw08_awake d_pelotonlaw08_awake :=
 sound_of (mask := 343) (h := []) (ds := [(n_fits_Fits, d_fits_Fits), (n_fits_Quiet, d_fits_Quiet)]) mixed Go.Proofs.Tryz.func8 ⟨s_fits_Fits, s_fits_Quiet, trivial⟩
 [] [.b] (by kernel_rfl) (fun x w k => pelotonlaw08_awake  w k) (fun x w k => e_pelotonlaw08_awake fits_Fits fits_Quiet x w k)
def pelotonref02_spans (op_0 : Int) (w : World) (k : (Array Value) → World → Prop) : Prop :=
 newC w #[(.int .i64 (0 : Int)), (.int .i64 (0 : Int)), (.int .i64 (0 : Int)), (.int .i64 (0 : Int)), (.int .i64 (0 : Int)), (.int .i64 (0 : Int)), (.int .i64 (0 : Int)), (.int .i64 (0 : Int))] 55 fun a1 w2 =>
 iteB (op_0 == (0 : Int)) (
 stA 8 w2 a1 #[(.int .i64 (0 : Int)), (.int .i64 (7 : Int)), (.int .i64 (0 : Int)), (.int .i64 (0 : Int)), (.int .i64 (0 : Int)), (.int .i64 (0 : Int)), (.int .i64 (-(2147483648 : Int))), (.int .i64 (2147483647 : Int))] fun w3 =>
 ldA 8 w3 a1 fun cs4 =>
 (k cs4 w3)) (
 joinP (S := Bool) (fun J5 =>
 iteB (op_0 == (1 : Int)) (
 (J5 (op_0 == (1 : Int)) w2)) (
 (J5 (op_0 == (9 : Int)) w2))) fun b6 w7 =>
 iteB b6 (
 stA 8 w7 a1 #[(.int .i64 (0 : Int)), (.int .i64 (7 : Int)), (.int .i64 (0 : Int)), (.int .i64 (7 : Int)), (.int .i64 (0 : Int)), (.int .i64 (0 : Int)), (.int .i64 (0 : Int)), (.int .i64 (0 : Int))] fun w8 =>
 ldA 8 w8 a1 fun cs9 =>
 (k cs9 w8)) (
 joinP (S := Bool) (fun J10 =>
 iteB (op_0 == (2 : Int)) (
 (J10 (op_0 == (2 : Int)) w7)) (
 iteB (op_0 == (3 : Int)) (
 (J10 (op_0 == (3 : Int)) w7)) (
 iteB (op_0 == (4 : Int)) (
 (J10 (op_0 == (4 : Int)) w7)) (
 iteB (op_0 == (5 : Int)) (
 (J10 (op_0 == (5 : Int)) w7)) (
 (J10 (op_0 == (10 : Int)) w7)))))) fun b11 w12 =>
 iteB b11 (
 stA 8 w12 a1 #[(.int .i64 (0 : Int)), (.int .i64 (7 : Int)), (.int .i64 (0 : Int)), (.int .i64 (7 : Int)), (.int .i64 (0 : Int)), (.int .i64 (7 : Int)), (.int .i64 (0 : Int)), (.int .i64 (0 : Int))] fun w13 =>
 ldA 8 w13 a1 fun cs14 =>
 (k cs14 w13)) (
 iteB (op_0 == (6 : Int)) (
 stA 8 w12 a1 #[(.int .i64 (0 : Int)), (.int .i64 (0 : Int)), (.int .i64 (0 : Int)), (.int .i64 (0 : Int)), (.int .i64 (0 : Int)), (.int .i64 (0 : Int)), (.int .i64 (0 : Int)), (.int .i64 (127 : Int))] fun w15 =>
 ldA 8 w15 a1 fun cs16 =>
 (k cs16 w15)) (
 iteB (op_0 == (7 : Int)) (
 stA 8 w12 a1 #[(.int .i64 (0 : Int)), (.int .i64 (7 : Int)), (.int .i64 (0 : Int)), (.int .i64 (0 : Int)), (.int .i64 (0 : Int)), (.int .i64 (0 : Int)), (.int .i64 (0 : Int)), (.int .i64 (127 : Int))] fun w17 =>
 ldA 8 w17 a1 fun cs18 =>
 (k cs18 w17)) (
 iteB (op_0 == (8 : Int)) (
 stA 8 w12 a1 #[(.int .i64 (0 : Int)), (.int .i64 (7 : Int)), (.int .i64 (0 : Int)), (.int .i64 (0 : Int)), (.int .i64 (0 : Int)), (.int .i64 (0 : Int)), (.int .i64 (0 : Int)), (.int .i64 (31 : Int))] fun w19 =>
 ldA 8 w19 a1 fun cs20 =>
 (k cs20 w19)) (
 iteB (op_0 == (11 : Int)) (
 stA 8 w12 a1 #[(.int .i64 (0 : Int)), (.int .i64 (0 : Int)), (.int .i64 (0 : Int)), (.int .i64 (0 : Int)), (.int .i64 (0 : Int)), (.int .i64 (0 : Int)), (.int .i64 (0 : Int)), (.int .i64 (65535 : Int))] fun w21 =>
 ldA 8 w21 a1 fun cs22 =>
 (k cs22 w21)) (
 joinP (S := Bool) (fun J23 =>
 iteB (op_0 == (12 : Int)) (
 (J23 (op_0 == (12 : Int)) w12)) (
 iteB (op_0 == (15 : Int)) (
 (J23 (op_0 == (15 : Int)) w12)) (
 (J23 (op_0 == (16 : Int)) w12)))) fun b24 w25 =>
 iteB b24 (
 stA 8 w25 a1 #[(.int .i64 (0 : Int)), (.int .i64 (7 : Int)), (.int .i64 (0 : Int)), (.int .i64 (0 : Int)), (.int .i64 (0 : Int)), (.int .i64 (0 : Int)), (.int .i64 (0 : Int)), (.int .i64 (0 : Int))] fun w26 =>
 ldA 8 w26 a1 fun cs27 =>
 (k cs27 w26)) (
 stA 8 w25 a1 #[(.int .i64 (0 : Int)), (.int .i64 (0 : Int)), (.int .i64 (0 : Int)), (.int .i64 (0 : Int)), (.int .i64 (0 : Int)), (.int .i64 (0 : Int)), (.int .i64 (0 : Int)), (.int .i64 (0 : Int))] fun w28 =>
 ldA 8 w28 a1 fun cs29 =>
 (k cs29 w28)))))))))
def d_pelotonref02_spans : Dec := fun args w c => unL [(.i .i64)] args fun x => pelotonref02_spans x w fun r w => c (packV (valL [.ag] r)) w
theorem s_pelotonref02_spans : Sound Go.Proofs.Tryz.prog n_pelotonref02_spans d_pelotonref02_spans :=
 sound_of (mask := 623072281149) (h := [(8, [(9, .b)]), (13, [(15, .b)]), (36, [(39, .b)])]) (ds := []) mixed Go.Proofs.Tryz.func124 trivial
 [(.i .i64)] [.ag] (by kernel_rfl) (fun x w k => pelotonref02_spans x w k) (fun x w k => by kernel_rfl)
def pelotonref02_Check_b (pelotonref02_spans : Int → World → ((Array Value) → World → Prop) → Prop) (i_0 : Array Value) (w : World) (k : (Int) → World → Prop) : Prop :=
 newC w i_0 42 fun a1 w2 =>
 joinP (S := Bool) (fun J3 =>
 ldI .i64 w2 (Addr.add a1 0) fun i4 =>
 iteB (decide (i4 < (0 : Int))) (
 (J3 true w2)) (
 ldI .i64 w2 (Addr.add a1 0) fun i5 =>
 (J3 (decide (i5 > (16 : Int))) w2))) fun b6 w7 =>
 iteB b6 (
 (k (13 : Int) w7)) (
 ldI .i64 w7 (Addr.add a1 0) fun i8 =>
 pelotonref02_spans i8 w7 fun cs9 w10 =>
 newC w10 #[(.int .i64 (0 : Int)), (.int .i64 (0 : Int)), (.int .i64 (0 : Int)), (.int .i64 (0 : Int)), (.int .i64 (0 : Int)), (.int .i64 (0 : Int)), (.int .i64 (0 : Int)), (.int .i64 (0 : Int))] 55 fun a11 w12 =>
 stA 8 w12 a11 cs9 fun w13 =>
 ldI .i64 w13 (Addr.add a1 1) fun i14 =>
 ldI .i64 w13 (Addr.add a1 2) fun i15 =>
 ldI .i64 w13 (Addr.add a1 3) fun i16 =>
 ldI .i64 w13 (Addr.add a1 4) fun i17 =>
 newC w13 #[(.int .i64 (0 : Int)), (.int .i64 (0 : Int)), (.int .i64 (0 : Int)), (.int .i64 (0 : Int))] 164 fun a18 w19 =>
 stA 4 w19 a18 #[(.int .i64 i14), (.int .i64 i15), (.int .i64 i16), (.int .i64 i17)] fun w20 =>
 loopP (S := Int) (fun C21 i22 w23 =>
 iteB (decide (i22 < (4 : Int))) (
 joinP (S := Bool) (fun J24 =>
 drew w23 fun w25 =>
 ixP a18 4 i22 1 fun a26 =>
 ldI .i64 w25 a26 fun i27 =>
 ixP a11 8 (IntKind.wrap .i64 ((2 : Int) * i22)) 1 fun a28 =>
 ldI .i64 w25 a28 fun i29 =>
 iteB (decide (i27 < i29)) (
 (J24 true w25)) (
 ixP a18 4 i22 1 fun a30 =>
 ldI .i64 w25 a30 fun i31 =>
 ixP a11 8 (IntKind.wrap .i64 ((IntKind.wrap .i64 ((2 : Int) * i22)) + (1 : Int))) 1 fun a32 =>
 ldI .i64 w25 a32 fun i33 =>
 (J24 (decide (i31 > i33)) w25))) fun b34 w35 =>
 iteB b34 (
 (k (10 : Int) w35)) (
 (C21 (IntKind.wrap .i64 (i22 + (1 : Int))) w35))) (
 (k (0 : Int) w23))) (0 : Int) w20)
theorem e_pelotonref02_Check (pelotonref02_spans : Int → World → ((Array Value) → World → Prop) → Prop) (x : KT [.ag]) (w : World) (k : KT [(.i .i64)] → World → Prop) : evFn Go.Proofs.Tryz.prog (orcOf [(n_pelotonref02_spans, (fun args w c => unL [(.i .i64)] args fun x => pelotonref02_spans x w fun r w => c (packV (valL [.ag] r)) w))]) 281475110936638 [(1, [(13, .b)]), (8, [(5, (.i .i64))]), (12, [(48, .b)])] Go.Proofs.Tryz.f99 [(.i .i64)] (valL [.ag] x) w k = pelotonref02_Check_b pelotonref02_spans x w k := by kernel_rfl
def pelotonref02_Check (i_0 : Array Value) (w : World) (k : (Int) → World → Prop) : Prop := pelotonref02_Check_b pelotonref02_spans i_0 w k
def d_pelotonref02_Check : Dec := fun args w c => unL [.ag] args fun x => pelotonref02_Check x w fun r w => c (packV (valL [(.i .i64)] r)) w
theorem s_pelotonref02_Check : Sound Go.Proofs.Tryz.prog n_pelotonref02_Check d_pelotonref02_Check :=
 sound_of (mask := 281475110936638) (h := [(1, [(13, .b)]), (8, [(5, (.i .i64))]), (12, [(48, .b)])]) (ds := [(n_pelotonref02_spans, d_pelotonref02_spans)]) mixed Go.Proofs.Tryz.func99 ⟨s_pelotonref02_spans, trivial⟩
 [.ag] [(.i .i64)] (by kernel_rfl) (fun x w k => pelotonref02_Check x w k) (fun x w k => e_pelotonref02_Check pelotonref02_spans x w k)
def pelotonref04_shape_b (pelotonref02_Check : Array Value → World → ((Int) → World → Prop) → Prop) (f_0 : Array Value) (w : World) (k : (Int × Int) → World → Prop) : Prop :=
 newC w f_0 45 fun a1 w2 =>
 joinP (S := Bool) (fun J3 =>
 ldI .i64 w2 (Addr.add a1 0) fun i4 =>
 iteB (decide (i4 < (0 : Int))) (
 (J3 true w2)) (
 ldI .i64 w2 (Addr.add a1 0) fun i5 =>
 (J3 (decide (i5 > (255 : Int))) w2))) fun b6 w7 =>
 iteB b6 (
 (k ((-(1 : Int)), (10 : Int)) w7)) (
 joinP (S := Bool) (fun J8 =>
 ldS w7 (Addr.add a1 1) fun s9 =>
 iteB (decide (((s9.n : Nat) : Int) < (1 : Int))) (
 (J8 true w7)) (
 ldS w7 (Addr.add a1 1) fun s10 =>
 (J8 (decide (((s10.n : Nat) : Int) > (128 : Int))) w7))) fun b11 w12 =>
 iteB b11 (
 (k ((-(1 : Int)), (12 : Int)) w12)) (
 loopP (S := Int) (fun C13 i14 w15 =>
 ldS w15 (Addr.add a1 1) fun s16 =>
 iteB (decide (i14 < ((s16.n : Nat) : Int))) (
 ldS w15 (Addr.add a1 1) fun s17 =>
 ixS s17 i14 5 fun a18 =>
 ldA 5 w15 a18 fun cs19 =>
 pelotonref02_Check cs19 w15 fun i20 w21 =>
 iteB (i20 != (0 : Int)) (
 (k (i14, i20) w21)) (
 (C13 (IntKind.wrap .i64 (i14 + (1 : Int))) w21))) (
 (k ((0 : Int), (0 : Int)) w15))) (0 : Int) w12))
theorem e_pelotonref04_shape (pelotonref02_Check : Array Value → World → ((Int) → World → Prop) → Prop) (x : KT [.ag]) (w : World) (k : KT [(.i .i64), (.i .i64)] → World → Prop) : evFn Go.Proofs.Tryz.prog (orcOf [(n_pelotonref02_Check, (fun args w c => unL [.ag] args fun x => pelotonref02_Check x w fun r w => c (packV (valL [(.i .i64)] r)) w))]) 275154739262 [(1, [(13, .b)]), (4, [(23, .b)]), (9, [(4, (.i .i64))])] Go.Proofs.Tryz.f64 [(.i .i64), (.i .i64)] (valL [.ag] x) w k = pelotonref04_shape_b pelotonref02_Check x w k := by kernel_rfl
def pelotonref04_shape (f_0 : Array Value) (w : World) (k : (Int × Int) → World → Prop) : Prop := pelotonref04_shape_b pelotonref02_Check f_0 w k
def d_pelotonref04_shape : Dec := fun args w c => unL [.ag] args fun x => pelotonref04_shape x w fun r w => c (packV (valL [(.i .i64), (.i .i64)] r)) w
theorem s_pelotonref04_shape : Sound Go.Proofs.Tryz.prog n_pelotonref04_shape d_pelotonref04_shape :=
 sound_of (mask := 275154739262) (h := [(1, [(13, .b)]), (4, [(23, .b)]), (9, [(4, (.i .i64))])]) (ds := [(n_pelotonref02_Check, d_pelotonref02_Check)]) mixed Go.Proofs.Tryz.func64 ⟨s_pelotonref02_Check, trivial⟩
 [.ag] [(.i .i64), (.i .i64)] (by kernel_rfl) (fun x w k => pelotonref04_shape x w k) (fun x w k => e_pelotonref04_shape pelotonref02_Check x w k)
def pelotonref04_Depths (code_0 : Sl) (w : World) (k : (Sl) → World → Prop) : Prop :=
 loopP (S := (Sl × (Int × Int))) (fun C1 x2 w3 =>
 iteB (decide (x2.2.2 < ((code_0.n : Nat) : Int))) (
 newC w3 #[(.int .i64 x2.2.1)] 3 fun a4 w5 =>
 bApp Go.Proofs.Tryz.prog #[96, 96] 96 [(.slice x2.1.a x2.1.n x2.1.c), (.slice (some a4) 1 1)] w5 fun s6 w7 =>
 ixS code_0 x2.2.2 5 fun a8 =>
 ldI .i64 w7 (Addr.add a8 0) fun i9 =>
 joinP (S := Int) (fun J10 =>
 iteB (i9 == (11 : Int)) (
 (J10 (IntKind.wrap .i64 (x2.2.1 + (1 : Int))) w7)) (
 (J10 x2.2.1 w7))) fun i11 w12 =>
 ixS code_0 x2.2.2 5 fun a13 =>
 ldI .i64 w12 (Addr.add a13 0) fun i14 =>
 iteB (i14 == (12 : Int)) (
 (C1 (s6, ((IntKind.wrap .i64 (i11 - (1 : Int))), (IntKind.wrap .i64 (x2.2.2 + (1 : Int))))) w12)) (
 (C1 (s6, (i11, (IntKind.wrap .i64 (x2.2.2 + (1 : Int))))) w12))) (
 (k x2.1 w3))) ((Sl.mk none 0 0), ((0 : Int), (0 : Int))) w
def d_pelotonref04_Depths : Dec := fun args w c => unL [.s] args fun x => pelotonref04_Depths x w fun r w => c (packV (valL [.s] r)) w
theorem s_pelotonref04_Depths : Sound Go.Proofs.Tryz.prog n_pelotonref04_Depths d_pelotonref04_Depths :=
 sound_of (mask := 538968637) (h := [(5, [(3, .s), (4, (.i .i64)), (5, (.i .i64))]), (11, [(4, (.i .i64))])]) (ds := []) mixed Go.Proofs.Tryz.func65 trivial
 [.s] [.s] (by kernel_rfl) (fun x w k => pelotonref04_Depths x w k) (fun x w k => by kernel_rfl)
def pelotonref04_Behind (code_0 : Sl) (i_1 : Int) (w : World) (k : (Sl) → World → Prop) : Prop :=
 ixS code_0 i_1 5 fun a1 =>
 ldI .i64 w (Addr.add a1 0) fun i2 =>
 joinP (S := Sl) (fun J3 =>
 iteB ((i2 == (6 : Int)) || (i2 == (7 : Int))) (
 ixS code_0 i_1 5 fun a4 =>
 ldI .i64 w (Addr.add a4 4) fun i5 =>
 newC w #[(.int .i64 i5)] 3 fun a6 w7 =>
 bApp Go.Proofs.Tryz.prog #[96, 96] 96 [(.slice none 0 0), (.slice (some a6) 1 1)] w7 fun s8 w9 =>
 (J3 s8 w9)) (
 (J3 (Sl.mk none 0 0) w))) fun s10 w11 =>
 joinP (S := Sl) (fun J12 =>
 iteB (((i2 != (6 : Int)) && (i2 != (16 : Int))) && (i2 != (15 : Int))) (
 newC w11 #[(.int .i64 (IntKind.wrap .i64 (i_1 + (1 : Int))))] 3 fun a13 w14 =>
 bApp Go.Proofs.Tryz.prog #[96, 96] 96 [(.slice s10.a s10.n s10.c), (.slice (some a13) 1 1)] w14 fun s15 w16 =>
 (J12 s15 w16)) (
 (J12 s10 w11))) fun s17 w18 =>
 loopP (S := (Sl × Int)) (fun C19 x20 w21 =>
 iteB (decide (x20.2 < ((s17.n : Nat) : Int))) (
 joinP (S := Bool) (fun J22 =>
 ixS s17 x20.2 1 fun a23 =>
 ldI .i64 w21 a23 fun i24 =>
 iteB (decide (i24 ≥ (0 : Int))) (
 ixS s17 x20.2 1 fun a25 =>
 ldI .i64 w21 a25 fun i26 =>
 (J22 (decide (i26 < ((code_0.n : Nat) : Int))) w21)) (
 (J22 false w21))) fun b27 w28 =>
 iteB b27 (
 ixS s17 x20.2 1 fun a29 =>
 ldI .i64 w28 a29 fun i30 =>
 newC w28 #[(.int .i64 i30)] 3 fun a31 w32 =>
 bApp Go.Proofs.Tryz.prog #[96, 96] 96 [(.slice x20.1.a x20.1.n x20.1.c), (.slice (some a31) 1 1)] w32 fun s33 w34 =>
 (C19 (s33, (IntKind.wrap .i64 (x20.2 + (1 : Int)))) w34)) (
 (C19 (x20.1, (IntKind.wrap .i64 (x20.2 + (1 : Int)))) w28))) (
 (k x20.1 w21))) ((Sl.mk none 0 0), (0 : Int)) w18
def d_pelotonref04_Behind : Dec := fun args w c => unL [.s, (.i .i64)] args fun x => pelotonref04_Behind x.1 x.2 w fun r w => c (packV (valL [.s] r)) w
theorem s_pelotonref04_Behind : Sound Go.Proofs.Tryz.prog n_pelotonref04_Behind d_pelotonref04_Behind :=
 sound_of (mask := 4611756524611043827) (h := [(4, [(5, .s)]), (7, [(5, .s)]), (12, [(7, .s), (8, (.i .i64))]), (16, [(62, .b)])]) (ds := []) mixed Go.Proofs.Tryz.func125 trivial
 [.s, (.i .i64)] [.s] (by kernel_rfl) (fun x w k => pelotonref04_Behind x.1 x.2 w k) (fun x w k => by kernel_rfl)
def pelotonref04_without_b (pelotonref04_Behind : Sl → Int → World → ((Sl) → World → Prop) → Prop) (code_0 : Sl) (h_1 : Int) (w : World) (k : (Sl) → World → Prop) : Prop :=
 mkSl Go.Proofs.Tryz.prog 152 (.int .i64 ((code_0.n : Nat) : Int)) (.int .i64 ((code_0.n : Nat) : Int)) w fun s1 w2 =>
 iteB (((code_0.n : Nat) : Int) == (0 : Int)) (
 (k s1 w2)) (
 ixS s1 (0 : Int) 1 fun a3 =>
 stC w2 a3 (.bool true) fun w4 =>
 newC w4 #[(.int .i64 (0 : Int))] 3 fun a5 w6 =>
 loopP (S := Sl) (fun C7 s8 w9 =>
 iteB (decide (((s8.n : Nat) : Int) > (0 : Int))) (
 ixS s8 (IntKind.wrap .i64 (((s8.n : Nat) : Int) - (1 : Int))) 1 fun a10 =>
 ldI .i64 w9 a10 fun i11 =>
 slS s8 1 (0 : Int) (IntKind.wrap .i64 (((s8.n : Nat) : Int) - (1 : Int))) fun s12 =>
 joinP (S := Bool) (fun J13 =>
 ixS code_0 i11 5 fun a14 =>
 ldI .i64 w9 (Addr.add a14 0) fun i15 =>
 iteB (i15 == (8 : Int)) (
 ixS code_0 i11 5 fun a16 =>
 ldI .i64 w9 (Addr.add a16 1) fun i17 =>
 (J13 (i17 == h_1) w9)) (
 (J13 false w9))) fun b18 w19 =>
 iteB b18 (
 (C7 s12 w19)) (
 pelotonref04_Behind code_0 i11 w19 fun s20 w21 =>
 loopP (S := (Sl × Int)) (fun C22 x23 w24 =>
 iteB (decide (x23.2 < ((s20.n : Nat) : Int))) (
 ixS s20 x23.2 1 fun a25 =>
 ldI .i64 w24 a25 fun i26 =>
 ixS s1 i26 1 fun a27 =>
 ldB w24 a27 fun b28 =>
 iteB (!b28) (
 ixS s20 x23.2 1 fun a29 =>
 ldI .i64 w24 a29 fun i30 =>
 ixS s1 i30 1 fun a31 =>
 stC w24 a31 (.bool true) fun w32 =>
 ixS s20 x23.2 1 fun a33 =>
 ldI .i64 w32 a33 fun i34 =>
 newC w32 #[(.int .i64 i34)] 3 fun a35 w36 =>
 bApp Go.Proofs.Tryz.prog #[96, 96] 96 [(.slice x23.1.a x23.1.n x23.1.c), (.slice (some a35) 1 1)] w36 fun s37 w38 =>
 (C22 (s37, (IntKind.wrap .i64 (x23.2 + (1 : Int)))) w38)) (
 (C22 (x23.1, (IntKind.wrap .i64 (x23.2 + (1 : Int)))) w24))) (
 (C7 x23.1 w24))) (s12, (0 : Int)) w21)) (
 (k s1 w9))) (Sl.mk (some a5) 1 1) w6)
theorem e_pelotonref04_without (pelotonref04_Behind : Sl → Int → World → ((Sl) → World → Prop) → Prop) (x : KT [.s, (.i .i64)]) (w : World) (k : KT [.s] → World → Prop) : evFn Go.Proofs.Tryz.prog (orcOf [(n_pelotonref04_Behind, (fun args w c => unL [.s, (.i .i64)] args fun x => pelotonref04_Behind x.1 x.2 w fun r w => c (packV (valL [.s] r)) w))]) 36929798419419005939 [(8, [(6, .s)]), (14, [(48, .b)]), (19, [(6, .s), (9, (.i .i64))])] Go.Proofs.Tryz.f100 [.s] (valL [.s, (.i .i64)] x) w k = pelotonref04_without_b pelotonref04_Behind x.1 x.2 w k := by kernel_rfl
def pelotonref04_without (code_0 : Sl) (h_1 : Int) (w : World) (k : (Sl) → World → Prop) : Prop := pelotonref04_without_b pelotonref04_Behind code_0 h_1 w k
def d_pelotonref04_without : Dec := fun args w c => unL [.s, (.i .i64)] args fun x => pelotonref04_without x.1 x.2 w fun r w => c (packV (valL [.s] r)) w
theorem s_pelotonref04_without : Sound Go.Proofs.Tryz.prog n_pelotonref04_without d_pelotonref04_without :=
 sound_of (mask := 36929798419419005939) (h := [(8, [(6, .s)]), (14, [(48, .b)]), (19, [(6, .s), (9, (.i .i64))])]) (ds := [(n_pelotonref04_Behind, d_pelotonref04_Behind)]) mixed Go.Proofs.Tryz.func100 ⟨s_pelotonref04_Behind, trivial⟩
 [.s, (.i .i64)] [.s] (by kernel_rfl) (fun x w k => pelotonref04_without x.1 x.2 w k) (fun x w k => e_pelotonref04_without pelotonref04_Behind x w k)
def pelotonref04_bit (n_0 : Int) (h_1 : Int) (w : World) (k : (Bool) → World → Prop) : Prop :=
 shrI .i64 n_0 (IntKind.wrap .u64 h_1) fun i1 =>
 (k ((andI .i64 i1 (1 : Int)) == (1 : Int)) w)
def d_pelotonref04_bit : Dec := fun args w c => unL [(.i .i64), (.i .i64)] args fun x => pelotonref04_bit x.1 x.2 w fun r w => c (packV (valL [.b] r)) w
theorem s_pelotonref04_bit : Sound Go.Proofs.Tryz.prog n_pelotonref04_bit d_pelotonref04_bit :=
 sound_of (mask := 19) (h := []) (ds := []) mixed Go.Proofs.Tryz.func101 trivial
 [(.i .i64), (.i .i64)] [.b] (by kernel_rfl) (fun x w k => pelotonref04_bit x.1 x.2 w k) (fun x w k => by kernel_rfl)
def pelotonref04_Held_b (pelotonref04_without : Sl → Int → World → ((Sl) → World → Prop) → Prop) (pelotonref04_bit : Int → Int → World → ((Bool) → World → Prop) → Prop) (f_0 : Array Value) (w : World) (k : (Sl) → World → Prop) : Prop :=
 newC w f_0 45 fun a1 w2 =>
 ldS w2 (Addr.add a1 1) fun s3 =>
 mkSl Go.Proofs.Tryz.prog 96 (.int .i64 ((s3.n : Nat) : Int)) (.int .i64 ((s3.n : Nat) : Int)) w2 fun s4 w5 =>
 loopP (S := Int) (fun C6 i7 w8 =>
 iteB (decide (i7 < (8 : Int))) (
 ldS w8 (Addr.add a1 1) fun s9 =>
 pelotonref04_without s9 i7 w8 fun s10 w11 =>
 loopP (S := Int) (fun C12 i13 w14 =>
 iteB (decide (i13 < ((s10.n : Nat) : Int))) (
 joinP (S := Bool) (fun J15 =>
 ldI .i64 w14 (Addr.add a1 0) fun i16 =>
 pelotonref04_bit i16 i7 w14 fun b17 w18 =>
 iteB b17 (
 (J15 true w18)) (
 ixS s10 i13 1 fun a19 =>
 ldB w18 a19 fun b20 =>
 (J15 (!b20) w18))) fun b21 w22 =>
 iteB b21 (
 ixS s4 i13 1 fun a23 =>
 ldI .i64 w22 a23 fun i24 =>
 shlI .i64 (1 : Int) (IntKind.wrap .u64 i7) fun i25 =>
 ixS s4 i13 1 fun a26 =>
 stC w22 a26 (.int .i64 (IntKind.wrap .i64 (i24 + i25))) fun w27 =>
 (C12 (IntKind.wrap .i64 (i13 + (1 : Int))) w27)) (
 (C12 (IntKind.wrap .i64 (i13 + (1 : Int))) w22))) (
 (C6 (IntKind.wrap .i64 (i7 + (1 : Int))) w14))) (0 : Int) w11) (
 (k s4 w8))) (0 : Int) w5
theorem e_pelotonref04_Held (pelotonref04_without : Sl → Int → World → ((Sl) → World → Prop) → Prop) (pelotonref04_bit : Int → Int → World → ((Bool) → World → Prop) → Prop) (x : KT [.ag]) (w : World) (k : KT [.s] → World → Prop) : evFn Go.Proofs.Tryz.prog (orcOf [(n_pelotonref04_without, (fun args w c => unL [.s, (.i .i64)] args fun x => pelotonref04_without x.1 x.2 w fun r w => c (packV (valL [.s] r)) w)), (n_pelotonref04_bit, (fun args w c => unL [(.i .i64), (.i .i64)] args fun x => pelotonref04_bit x.1 x.2 w fun r w => c (packV (valL [.b] r)) w))]) 34363936894 [(4, [(4, (.i .i64))]), (11, [(6, (.i .i64))]), (15, [(35, .b)])] Go.Proofs.Tryz.f66 [.s] (valL [.ag] x) w k = pelotonref04_Held_b pelotonref04_without pelotonref04_bit x w k := by kernel_rfl
def pelotonref04_Held (f_0 : Array Value) (w : World) (k : (Sl) → World → Prop) : Prop := pelotonref04_Held_b pelotonref04_without pelotonref04_bit f_0 w k
def d_pelotonref04_Held : Dec := fun args w c => unL [.ag] args fun x => pelotonref04_Held x w fun r w => c (packV (valL [.s] r)) w
theorem s_pelotonref04_Held : Sound Go.Proofs.Tryz.prog n_pelotonref04_Held d_pelotonref04_Held :=
 sound_of (mask := 34363936894) (h := [(4, [(4, (.i .i64))]), (11, [(6, (.i .i64))]), (15, [(35, .b)])]) (ds := [(n_pelotonref04_without, d_pelotonref04_without), (n_pelotonref04_bit, d_pelotonref04_bit)]) mixed Go.Proofs.Tryz.func66 ⟨s_pelotonref04_without, s_pelotonref04_bit, trivial⟩
 [.ag] [.s] (by kernel_rfl) (fun x w k => pelotonref04_Held x w k) (fun x w k => e_pelotonref04_Held pelotonref04_without pelotonref04_bit x w k)
def pelotonref04_wrong_b (pelotonref04_bit : Int → Int → World → ((Bool) → World → Prop) → Prop) (p_0 : Array Value) (f_1 : Array Value) (i_2 : Int) (depths_3 : Sl) (held_4 : Sl) (w : World) (k : (Int) → World → Prop) : Prop :=
 newC w p_0 24 fun a1 w2 =>
 newC w2 f_1 45 fun a3 w4 =>
 ldS w4 (Addr.add a3 1) fun s5 =>
 ixS s5 i_2 5 fun a6 =>
 ldA 5 w4 a6 fun cs7 =>
 newC w4 #[(.int .i64 (0 : Int)), (.int .i64 (0 : Int)), (.int .i64 (0 : Int)), (.int .i64 (0 : Int)), (.int .i64 (0 : Int))] 42 fun a8 w9 =>
 stA 5 w9 a8 cs7 fun w10 =>
 joinP (S := Bool) (fun J11 =>
 ldI .i64 w10 (Addr.add a8 0) fun i12 =>
 iteB (i12 == (6 : Int)) (
 (J11 true w10)) (
 ldI .i64 w10 (Addr.add a8 0) fun i13 =>
 (J11 (i13 == (7 : Int)) w10))) fun b14 w15 =>
 joinP (S := Bool) (fun J16 =>
 iteB b14 (
 ldI .i64 w15 (Addr.add a8 4) fun i17 =>
 ldS w15 (Addr.add a3 1) fun s18 =>
 iteB (decide (i17 ≥ ((s18.n : Nat) : Int))) (
 (J16 true w15)) (
 ldI .i64 w15 (Addr.add a8 0) fun i19 =>
 iteB (i19 == (8 : Int)) (
 ldI .i64 w15 (Addr.add a8 4) fun i20 =>
 ldS w15 (Addr.add a1 0) fun s21 =>
 (J16 (decide (i20 ≥ ((s21.n : Nat) : Int))) w15)) (
 (J16 false w15)))) (
 ldI .i64 w15 (Addr.add a8 0) fun i22 =>
 iteB (i22 == (8 : Int)) (
 ldI .i64 w15 (Addr.add a8 4) fun i23 =>
 ldS w15 (Addr.add a1 0) fun s24 =>
 (J16 (decide (i23 ≥ ((s24.n : Nat) : Int))) w15)) (
 (J16 false w15)))) fun b25 w26 =>
 iteB b25 (
 (k (10 : Int) w26)) (
 joinP (S := Bool) (fun J27 =>
 ldS w26 (Addr.add a3 1) fun s28 =>
 iteB (i_2 == (IntKind.wrap .i64 (((s28.n : Nat) : Int) - (1 : Int)))) (
 ldI .i64 w26 (Addr.add a8 0) fun i29 =>
 iteB (i29 != (6 : Int)) (
 ldI .i64 w26 (Addr.add a8 0) fun i30 =>
 iteB (i30 != (16 : Int)) (
 ldI .i64 w26 (Addr.add a8 0) fun i31 =>
 (J27 (i31 != (15 : Int)) w26)) (
 (J27 false w26))) (
 (J27 false w26))) (
 (J27 false w26))) fun b32 w33 =>
 iteB b32 (
 (k (11 : Int) w33)) (
 joinP (S := Bool) (fun J34 =>
 drew w33 fun w35 =>
 ldI .i64 w35 (Addr.add a8 0) fun i36 =>
 iteB (i36 == (12 : Int)) (
 ixS depths_3 i_2 1 fun a37 =>
 ldI .i64 w35 a37 fun i38 =>
 iteB (decide (i38 < (1 : Int))) (
 (J34 true w35)) (
 ldI .i64 w35 (Addr.add a8 0) fun i39 =>
 iteB (i39 == (16 : Int)) (
 ixS depths_3 i_2 1 fun a40 =>
 ldI .i64 w35 a40 fun i41 =>
 iteB (i41 != (0 : Int)) (
 (J34 true w35)) (
 iteB b14 (
 ldI .i64 w35 (Addr.add a8 4) fun i42 =>
 ixS depths_3 i42 1 fun a43 =>
 ldI .i64 w35 a43 fun i44 =>
 ixS depths_3 i_2 1 fun a45 =>
 ldI .i64 w35 a45 fun i46 =>
 (J34 (i44 != i46) w35)) (
 (J34 false w35)))) (
 iteB b14 (
 ldI .i64 w35 (Addr.add a8 4) fun i47 =>
 ixS depths_3 i47 1 fun a48 =>
 ldI .i64 w35 a48 fun i49 =>
 ixS depths_3 i_2 1 fun a50 =>
 ldI .i64 w35 a50 fun i51 =>
 (J34 (i49 != i51) w35)) (
 (J34 false w35))))) (
 ldI .i64 w35 (Addr.add a8 0) fun i52 =>
 iteB (i52 == (13 : Int)) (
 ixS depths_3 i_2 1 fun a53 =>
 ldI .i64 w35 a53 fun i54 =>
 iteB (decide (i54 < (1 : Int))) (
 (J34 true w35)) (
 ldI .i64 w35 (Addr.add a8 0) fun i55 =>
 iteB (i55 == (16 : Int)) (
 ixS depths_3 i_2 1 fun a56 =>
 ldI .i64 w35 a56 fun i57 =>
 iteB (i57 != (0 : Int)) (
 (J34 true w35)) (
 iteB b14 (
 ldI .i64 w35 (Addr.add a8 4) fun i58 =>
 ixS depths_3 i58 1 fun a59 =>
 ldI .i64 w35 a59 fun i60 =>
 ixS depths_3 i_2 1 fun a61 =>
 ldI .i64 w35 a61 fun i62 =>
 (J34 (i60 != i62) w35)) (
 (J34 false w35)))) (
 iteB b14 (
 ldI .i64 w35 (Addr.add a8 4) fun i63 =>
 ixS depths_3 i63 1 fun a64 =>
 ldI .i64 w35 a64 fun i65 =>
 ixS depths_3 i_2 1 fun a66 =>
 ldI .i64 w35 a66 fun i67 =>
 (J34 (i65 != i67) w35)) (
 (J34 false w35))))) (
 ldI .i64 w35 (Addr.add a8 0) fun i68 =>
 iteB (i68 == (16 : Int)) (
 ixS depths_3 i_2 1 fun a69 =>
 ldI .i64 w35 a69 fun i70 =>
 iteB (i70 != (0 : Int)) (
 (J34 true w35)) (
 iteB b14 (
 ldI .i64 w35 (Addr.add a8 4) fun i71 =>
 ixS depths_3 i71 1 fun a72 =>
 ldI .i64 w35 a72 fun i73 =>
 ixS depths_3 i_2 1 fun a74 =>
 ldI .i64 w35 a74 fun i75 =>
 (J34 (i73 != i75) w35)) (
 (J34 false w35)))) (
 iteB b14 (
 ldI .i64 w35 (Addr.add a8 4) fun i76 =>
 ixS depths_3 i76 1 fun a77 =>
 ldI .i64 w35 a77 fun i78 =>
 ixS depths_3 i_2 1 fun a79 =>
 ldI .i64 w35 a79 fun i80 =>
 (J34 (i78 != i80) w35)) (
 (J34 false w35)))))) fun b81 w82 =>
 iteB b81 (
 (k (15 : Int) w82)) (
 joinP (S := Bool) (fun J83 =>
 drew w82 fun w84 =>
 ldI .i64 w84 (Addr.add a8 0) fun i85 =>
 iteB (i85 == (9 : Int)) (
 ixS held_4 i_2 1 fun a86 =>
 ldI .i64 w84 a86 fun i87 =>
 ldI .i64 w84 (Addr.add a8 2) fun i88 =>
 pelotonref04_bit i87 i88 w84 fun b89 w90 =>
 iteB (!b89) (
 (J83 true w90)) (
 ldI .i64 w90 (Addr.add a8 0) fun i91 =>
 iteB (i91 == (10 : Int)) (
 ixS held_4 i_2 1 fun a92 =>
 ldI .i64 w90 a92 fun i93 =>
 ldI .i64 w90 (Addr.add a8 3) fun i94 =>
 pelotonref04_bit i93 i94 w90 fun b95 w96 =>
 (J83 (!b95) w96)) (
 (J83 false w90)))) (
 ldI .i64 w84 (Addr.add a8 0) fun i97 =>
 iteB (i97 == (10 : Int)) (
 ixS held_4 i_2 1 fun a98 =>
 ldI .i64 w84 a98 fun i99 =>
 ldI .i64 w84 (Addr.add a8 3) fun i100 =>
 pelotonref04_bit i99 i100 w84 fun b101 w102 =>
 (J83 (!b101) w102)) (
 (J83 false w84)))) fun b103 w104 =>
 iteB b103 (
 (k (16 : Int) w104)) (
 loopP (S := Int) (fun C105 i106 w107 =>
 iteB (decide (i106 < (8 : Int))) (
 joinP (S := Bool) (fun J108 =>
 ldI .i64 w107 (Addr.add a8 0) fun i109 =>
 iteB (i109 == (8 : Int)) (
 ldS w107 (Addr.add a1 0) fun s110 =>
 ldI .i64 w107 (Addr.add a8 4) fun i111 =>
 ixS s110 i111 2 fun a112 =>
 ldI .i64 w107 (Addr.add a112 0) fun i113 =>
 pelotonref04_bit i113 i106 w107 fun b114 w115 =>
 iteB b114 (
 ixS held_4 i_2 1 fun a116 =>
 ldI .i64 w115 a116 fun i117 =>
 pelotonref04_bit i117 i106 w115 fun b118 w119 =>
 (J108 (!b118) w119)) (
 (J108 false w115))) (
 (J108 false w107))) fun b120 w121 =>
 iteB b120 (
 (k (16 : Int) w121)) (
 (C105 (IntKind.wrap .i64 (i106 + (1 : Int))) w121))) (
 (k (0 : Int) w107))) (0 : Int) w104))))
theorem e_pelotonref04_wrong (pelotonref04_bit : Int → Int → World → ((Bool) → World → Prop) → Prop) (x : KT [.ag, .ag, (.i .i64), .s, .s]) (w : World) (k : KT [(.i .i64)] → World → Prop) : evFn Go.Proofs.Tryz.prog (orcOf [(n_pelotonref04_bit, (fun args w c => unL [(.i .i64), (.i .i64)] args fun x => pelotonref04_bit x.1 x.2 w fun r w => c (packV (valL [.b] r)) w))]) 93536108273669226631594124426802203716368015047804 [(2, [(12, .b)]), (3, [(48, .b)]), (6, [(69, .b)]), (9, [(111, .b)]), (12, [(139, .b)]), (17, [(13, (.i .i64))]), (21, [(166, .b)])] Go.Proofs.Tryz.f67 [(.i .i64)] (valL [.ag, .ag, (.i .i64), .s, .s] x) w k = pelotonref04_wrong_b pelotonref04_bit x.1 x.2.1 x.2.2.1 x.2.2.2.1 x.2.2.2.2 w k := by kernel_rfl
def pelotonref04_wrong (p_0 : Array Value) (f_1 : Array Value) (i_2 : Int) (depths_3 : Sl) (held_4 : Sl) (w : World) (k : (Int) → World → Prop) : Prop := pelotonref04_wrong_b pelotonref04_bit p_0 f_1 i_2 depths_3 held_4 w k
def d_pelotonref04_wrong : Dec := fun args w c => unL [.ag, .ag, (.i .i64), .s, .s] args fun x => pelotonref04_wrong x.1 x.2.1 x.2.2.1 x.2.2.2.1 x.2.2.2.2 w fun r w => c (packV (valL [(.i .i64)] r)) w
theorem s_pelotonref04_wrong : Sound Go.Proofs.Tryz.prog n_pelotonref04_wrong d_pelotonref04_wrong :=
 sound_of (mask := 93536108273669226631594124426802203716368015047804) (h := [(2, [(12, .b)]), (3, [(48, .b)]), (6, [(69, .b)]), (9, [(111, .b)]), (12, [(139, .b)]), (17, [(13, (.i .i64))]), (21, [(166, .b)])]) (ds := [(n_pelotonref04_bit, d_pelotonref04_bit)]) mixed Go.Proofs.Tryz.func67 ⟨s_pelotonref04_bit, trivial⟩
 [.ag, .ag, (.i .i64), .s, .s] [(.i .i64)] (by kernel_rfl) (fun x w k => pelotonref04_wrong x.1 x.2.1 x.2.2.1 x.2.2.2.1 x.2.2.2.2 w k) (fun x w k => e_pelotonref04_wrong pelotonref04_bit x w k)
def pelotonref04_Program_b (pelotonref04_shape : Array Value → World → ((Int × Int) → World → Prop) → Prop) (pelotonref04_Depths : Sl → World → ((Sl) → World → Prop) → Prop) (pelotonref04_Held : Array Value → World → ((Sl) → World → Prop) → Prop) (pelotonref04_wrong : Array Value → Array Value → Int → Sl → Sl → World → ((Int) → World → Prop) → Prop) (p_0 : Array Value) (w : World) (k : (Array Value) → World → Prop) : Prop :=
 newC w p_0 24 fun a1 w2 =>
 newC w2 #[(.int .i64 (0 : Int)), (.int .i64 (0 : Int)), (.int .i64 (0 : Int))] 92 fun a3 w4 =>
 joinP (S := Bool) (fun J5 =>
 ldS w4 (Addr.add a1 0) fun s6 =>
 iteB (decide (((s6.n : Nat) : Int) < (1 : Int))) (
 (J5 true w4)) (
 ldS w4 (Addr.add a1 0) fun s7 =>
 (J5 (decide (((s7.n : Nat) : Int) > (32 : Int))) w4))) fun b8 w9 =>
 iteB b8 (
 stA 3 w9 a3 #[(.int .i64 (-(1 : Int))), (.int .i64 (-(1 : Int))), (.int .i64 (12 : Int))] fun w10 =>
 ldA 3 w10 a3 fun cs11 =>
 (k cs11 w10)) (
 joinP (S := Unit) (fun J12 =>
 loopP (S := Int) (fun C13 i14 w15 =>
 ldS w15 (Addr.add a1 0) fun s16 =>
 iteB (decide (i14 < ((s16.n : Nat) : Int))) (
 ldS w15 (Addr.add a1 0) fun s17 =>
 ixS s17 i14 2 fun a18 =>
 ldA 2 w15 a18 fun cs19 =>
 pelotonref04_shape cs19 w15 fun x20 w21 =>
 iteB ((x20.1, x20.2).2 != (0 : Int)) (
 stA 3 w21 a3 #[(.int .i64 i14), (.int .i64 (x20.1, x20.2).1), (.int .i64 (x20.1, x20.2).2)] fun w22 =>
 ldA 3 w22 a3 fun cs23 =>
 (k cs23 w22)) (
 (C13 (IntKind.wrap .i64 (i14 + (1 : Int))) w21))) (
 (J12 () w15))) (0 : Int) w9) fun u24 w25 =>
 ldS w25 (Addr.add a1 0) fun s26 =>
 ixS s26 (0 : Int) 2 fun a27 =>
 ldI .i64 w25 (Addr.add a27 0) fun i28 =>
 iteB (i28 != (0 : Int)) (
 stA 3 w25 a3 #[(.int .i64 (0 : Int)), (.int .i64 (-(1 : Int))), (.int .i64 (16 : Int))] fun w29 =>
 ldA 3 w29 a3 fun cs30 =>
 (k cs30 w29)) (
 loopP (S := Int) (fun C31 i32 w33 =>
 ldS w33 (Addr.add a1 0) fun s34 =>
 iteB (decide (i32 < ((s34.n : Nat) : Int))) (
 ldS w33 (Addr.add a1 0) fun s35 =>
 ixS s35 i32 2 fun a36 =>
 ldA 2 w33 a36 fun cs37 =>
 newC w33 #[(.int .i64 (0 : Int)), (.slice none 0 0)] 45 fun a38 w39 =>
 stA 2 w39 a38 cs37 fun w40 =>
 ldS w40 (Addr.add a38 1) fun s41 =>
 pelotonref04_Depths s41 w40 fun s42 w43 =>
 ldA 2 w43 a38 fun cs44 =>
 pelotonref04_Held cs44 w43 fun s45 w46 =>
 loopP (S := Int) (fun C47 i48 w49 =>
 ldS w49 (Addr.add a38 1) fun s50 =>
 iteB (decide (i48 < ((s50.n : Nat) : Int))) (
 ldA 1 w49 a1 fun cs51 =>
 ldA 2 w49 a38 fun cs52 =>
 pelotonref04_wrong cs51 cs52 i48 s42 s45 w49 fun i53 w54 =>
 iteB (i53 != (0 : Int)) (
 stA 3 w54 a3 #[(.int .i64 i32), (.int .i64 i48), (.int .i64 i53)] fun w55 =>
 ldA 3 w55 a3 fun cs56 =>
 (k cs56 w55)) (
 (C47 (IntKind.wrap .i64 (i48 + (1 : Int))) w54))) (
 (C31 (IntKind.wrap .i64 (i32 + (1 : Int))) w49))) (0 : Int) w46) (
 stA 3 w33 a3 #[(.int .i64 (0 : Int)), (.int .i64 (0 : Int)), (.int .i64 (0 : Int))] fun w57 =>
 ldA 3 w57 a3 fun cs58 =>
 (k cs58 w57))) (0 : Int) w25))
theorem e_pelotonref04_Program (pelotonref04_shape : Array Value → World → ((Int × Int) → World → Prop) → Prop) (pelotonref04_Depths : Sl → World → ((Sl) → World → Prop) → Prop) (pelotonref04_Held : Array Value → World → ((Sl) → World → Prop) → Prop) (pelotonref04_wrong : Array Value → Array Value → Int → Sl → Sl → World → ((Int) → World → Prop) → Prop) (x : KT [.ag]) (w : World) (k : KT [.ag] → World → Prop) : evFn Go.Proofs.Tryz.prog (orcOf [(n_pelotonref04_shape, (fun args w c => unL [.ag] args fun x => pelotonref04_shape x w fun r w => c (packV (valL [(.i .i64), (.i .i64)] r)) w)), (n_pelotonref04_Depths, (fun args w c => unL [.s] args fun x => pelotonref04_Depths x w fun r w => c (packV (valL [.s] r)) w)), (n_pelotonref04_Held, (fun args w c => unL [.ag] args fun x => pelotonref04_Held x w fun r w => c (packV (valL [.s] r)) w)), (n_pelotonref04_wrong, (fun args w c => unL [.ag, .ag, (.i .i64), .s, .s] args fun x => pelotonref04_wrong x.1 x.2.1 x.2.2.1 x.2.2.2.1 x.2.2.2.2 w fun r w => c (packV (valL [(.i .i64)] r)) w))]) 9680851363067366280794110 [(1, [(21, .b)]), (5, []), (6, [(3, (.i .i64))]), (20, [(6, (.i .i64))]), (29, [(10, (.i .i64))])] Go.Proofs.Tryz.f38 [.ag] (valL [.ag] x) w k = pelotonref04_Program_b pelotonref04_shape pelotonref04_Depths pelotonref04_Held pelotonref04_wrong x w k := by kernel_rfl
def pelotonref04_Program (p_0 : Array Value) (w : World) (k : (Array Value) → World → Prop) : Prop := pelotonref04_Program_b pelotonref04_shape pelotonref04_Depths pelotonref04_Held pelotonref04_wrong p_0 w k
def d_pelotonref04_Program : Dec := fun args w c => unL [.ag] args fun x => pelotonref04_Program x w fun r w => c (packV (valL [.ag] r)) w
theorem s_pelotonref04_Program : Sound Go.Proofs.Tryz.prog n_pelotonref04_Program d_pelotonref04_Program :=
 sound_of (mask := 9680851363067366280794110) (h := [(1, [(21, .b)]), (5, []), (6, [(3, (.i .i64))]), (20, [(6, (.i .i64))]), (29, [(10, (.i .i64))])]) (ds := [(n_pelotonref04_shape, d_pelotonref04_shape), (n_pelotonref04_Depths, d_pelotonref04_Depths), (n_pelotonref04_Held, d_pelotonref04_Held), (n_pelotonref04_wrong, d_pelotonref04_wrong)]) mixed Go.Proofs.Tryz.func38 ⟨s_pelotonref04_shape, s_pelotonref04_Depths, s_pelotonref04_Held, s_pelotonref04_wrong, trivial⟩
 [.ag] [.ag] (by kernel_rfl) (fun x w k => pelotonref04_Program x w k) (fun x w k => e_pelotonref04_Program pelotonref04_shape pelotonref04_Depths pelotonref04_Held pelotonref04_wrong x w k)
def pelotonref04_Accepts_b (pelotonref04_Program : Array Value → World → ((Array Value) → World → Prop) → Prop) (p_0 : Array Value) (w : World) (k : (Bool) → World → Prop) : Prop :=
 newC w p_0 24 fun a1 w2 =>
 ldA 1 w2 a1 fun cs3 =>
 pelotonref04_Program cs3 w2 fun cs4 w5 =>
 ptA cs4 2 fun v6 =>
 toI .i64 v6 fun i7 =>
 (k (i7 == (0 : Int)) w5)
theorem e_pelotonref04_Accepts (pelotonref04_Program : Array Value → World → ((Array Value) → World → Prop) → Prop) (x : KT [.ag]) (w : World) (k : KT [.b] → World → Prop) : evFn Go.Proofs.Tryz.prog (orcOf [(n_pelotonref04_Program, (fun args w c => unL [.ag] args fun x => pelotonref04_Program x w fun r w => c (packV (valL [.ag] r)) w))]) 6 [] Go.Proofs.Tryz.f20 [.b] (valL [.ag] x) w k = pelotonref04_Accepts_b pelotonref04_Program x w k := by kernel_rfl
def pelotonref04_Accepts (p_0 : Array Value) (w : World) (k : (Bool) → World → Prop) : Prop := pelotonref04_Accepts_b pelotonref04_Program p_0 w k
def d_pelotonref04_Accepts : Dec := fun args w c => unL [.ag] args fun x => pelotonref04_Accepts x w fun r w => c (packV (valL [.b] r)) w
theorem s_pelotonref04_Accepts : Sound Go.Proofs.Tryz.prog n_pelotonref04_Accepts d_pelotonref04_Accepts :=
 sound_of (mask := 6) (h := []) (ds := [(n_pelotonref04_Program, d_pelotonref04_Program)]) mixed Go.Proofs.Tryz.func20 ⟨s_pelotonref04_Program, trivial⟩
 [.ag] [.b] (by kernel_rfl) (fun x w k => pelotonref04_Accepts x w k) (fun x w k => e_pelotonref04_Accepts pelotonref04_Program x w k)
def pelotonref07_Within (l_0 : Sl) (i_1 : Int) (of_2 : Int) (w : World) (k : (Bool) → World → Prop) : Prop :=
 loopP (S := (Int × Int)) (fun C1 x2 w3 =>
 iteB (((decide (x2.2 ≤ ((l_0.n : Nat) : Int))) && (decide (x2.1 ≥ (0 : Int)))) && (decide (x2.1 < ((l_0.n : Nat) : Int)))) (
 iteB (x2.1 == of_2) (
 (k true w3)) (
 ixS l_0 x2.1 7 fun a4 =>
 ldI .i64 w3 (Addr.add a4 0) fun i5 =>
 (C1 (i5, (IntKind.wrap .i64 (x2.2 + (1 : Int)))) w3))) (
 (k false w3))) (i_1, (0 : Int)) w
def d_pelotonref07_Within : Dec := fun args w c => unL [.s, (.i .i64), (.i .i64)] args fun x => pelotonref07_Within x.1 x.2.1 x.2.2 w fun r w => c (packV (valL [.b] r)) w
theorem s_pelotonref07_Within : Sound Go.Proofs.Tryz.prog n_pelotonref07_Within d_pelotonref07_Within :=
 sound_of (mask := 69206215) (h := [(3, [(1, (.i .i64)), (7, (.i .i64))])]) (ds := []) mixed Go.Proofs.Tryz.func68 trivial
 [.s, (.i .i64), (.i .i64)] [.b] (by kernel_rfl) (fun x w k => pelotonref07_Within x.1 x.2.1 x.2.2 w k) (fun x w k => by kernel_rfl)
def pelotonref07_binary (s_0 : ByteArray) (w : World) (k : (Bool) → World → Prop) : Prop :=
 loopP (S := Int) (fun C1 i2 w3 =>
 iteB (decide (i2 < (((ByteArray.size s_0) : Nat) : Int))) (
 joinP (S := Bool) (fun J4 =>
 ixStr s_0 i2 fun i5 =>
 iteB (i5 != (48 : Int)) (
 ixStr s_0 i2 fun i6 =>
 (J4 (i6 != (49 : Int)) w3)) (
 (J4 false w3))) fun b7 w8 =>
 iteB b7 (
 (k false w8)) (
 (C1 (IntKind.wrap .i64 (i2 + (1 : Int))) w8))) (
 (k true w3))) (0 : Int) w
def d_pelotonref07_binary : Dec := fun args w c => unL [.str] args fun x => pelotonref07_binary x w fun r w => c (packV (valL [.b] r)) w
theorem s_pelotonref07_binary : Sound Go.Proofs.Tryz.prog n_pelotonref07_binary d_pelotonref07_binary :=
 sound_of (mask := 524429) (h := [(3, [(3, (.i .i64))]), (7, [(19, .b)])]) (ds := []) mixed Go.Proofs.Tryz.func69 trivial
 [.str] [.b] (by kernel_rfl) (fun x w k => pelotonref07_binary x w k) (fun x w k => by kernel_rfl)
def pelotonref07_Came (r_0 : Array Value) (w : World) (k : (Bool) → World → Prop) : Prop :=
 newC w r_0 40 fun a1 w2 =>
 ldI .i64 w2 (Addr.add a1 3) fun i3 =>
 (k (decide (i3 ≥ (2 : Int))) w2)
def d_pelotonref07_Came : Dec := fun args w c => unL [.ag] args fun x => pelotonref07_Came x w fun r w => c (packV (valL [.b] r)) w
theorem s_pelotonref07_Came : Sound Go.Proofs.Tryz.prog n_pelotonref07_Came d_pelotonref07_Came :=
 sound_of (mask := 6) (h := []) (ds := []) mixed Go.Proofs.Tryz.func70 trivial
 [.ag] [.b] (by kernel_rfl) (fun x w k => pelotonref07_Came x w k) (fun x w k => by kernel_rfl)
def pelotonref07_right_b (pelotonref07_Within : Sl → Int → Int → World → ((Bool) → World → Prop) → Prop) (pelotonref07_binary : ByteArray → World → ((Bool) → World → Prop) → Prop) (pelotonref07_Came : Array Value → World → ((Bool) → World → Prop) → Prop) (l_0 : Sl) (i_1 : Int) (w : World) (k : (Int) → World → Prop) : Prop :=
 ixS l_0 i_1 7 fun a1 =>
 ldA 7 w a1 fun cs2 =>
 newC w #[(.int .i64 (0 : Int)), (.int .i64 (0 : Int)), (.int .i64 (0 : Int)), (.int .i64 (0 : Int)), (.int .i64 (0 : Int)), (.int .i64 (0 : Int)), (.string (ByteArray.mk #[]))] 40 fun a3 w4 =>
 stA 7 w4 a3 cs2 fun w5 =>
 joinP (S := Bool) (fun J6 =>
 iteB (i_1 == (0 : Int)) (
 ldI .i64 w5 (Addr.add a3 0) fun i7 =>
 iteB (i7 != (-(1 : Int))) (
 (J6 true w5)) (
 iteB (decide (i_1 > (0 : Int))) (
 ldI .i64 w5 (Addr.add a3 0) fun i8 =>
 iteB (decide (i8 < (0 : Int))) (
 (J6 true w5)) (
 ldI .i64 w5 (Addr.add a3 0) fun i9 =>
 iteB (decide (i9 ≥ i_1)) (
 (J6 true w5)) (
 ldI .i64 w5 (Addr.add a3 0) fun i10 =>
 pelotonref07_Within l_0 (IntKind.wrap .i64 (i_1 - (1 : Int))) i10 w5 fun b11 w12 =>
 (J6 (!b11) w12)))) (
 (J6 false w5)))) (
 iteB (decide (i_1 > (0 : Int))) (
 ldI .i64 w5 (Addr.add a3 0) fun i13 =>
 iteB (decide (i13 < (0 : Int))) (
 (J6 true w5)) (
 ldI .i64 w5 (Addr.add a3 0) fun i14 =>
 iteB (decide (i14 ≥ i_1)) (
 (J6 true w5)) (
 ldI .i64 w5 (Addr.add a3 0) fun i15 =>
 pelotonref07_Within l_0 (IntKind.wrap .i64 (i_1 - (1 : Int))) i15 w5 fun b16 w17 =>
 (J6 (!b16) w17)))) (
 (J6 false w5)))) fun b18 w19 =>
 iteB b18 (
 (k (11 : Int) w19)) (
 joinP (S := Bool) (fun J20 =>
 ldI .i64 w19 (Addr.add a3 1) fun i21 =>
 iteB (decide (i21 < (0 : Int))) (
 (J20 true w19)) (
 iteB (i_1 == (0 : Int)) (
 ldI .i64 w19 (Addr.add a3 1) fun i22 =>
 iteB (i22 != (0 : Int)) (
 (J20 true w19)) (
 ldI .i64 w19 (Addr.add a3 2) fun i23 =>
 iteB (decide (i23 < (0 : Int))) (
 (J20 true w19)) (
 ldI .i64 w19 (Addr.add a3 2) fun i24 =>
 iteB (decide (i24 > (31 : Int))) (
 (J20 true w19)) (
 ldI .i64 w19 (Addr.add a3 3) fun i25 =>
 iteB (decide (i25 < (0 : Int))) (
 (J20 true w19)) (
 ldI .i64 w19 (Addr.add a3 3) fun i26 =>
 iteB (decide (i26 > (4 : Int))) (
 (J20 true w19)) (
 ldI .i64 w19 (Addr.add a3 5) fun i27 =>
 iteB (decide (i27 < (0 : Int))) (
 (J20 true w19)) (
 ldI .i64 w19 (Addr.add a3 5) fun i28 =>
 (J20 (decide (i28 > (1048576 : Int))) w19)))))))) (
 ldI .i64 w19 (Addr.add a3 2) fun i29 =>
 iteB (decide (i29 < (0 : Int))) (
 (J20 true w19)) (
 ldI .i64 w19 (Addr.add a3 2) fun i30 =>
 iteB (decide (i30 > (31 : Int))) (
 (J20 true w19)) (
 ldI .i64 w19 (Addr.add a3 3) fun i31 =>
 iteB (decide (i31 < (0 : Int))) (
 (J20 true w19)) (
 ldI .i64 w19 (Addr.add a3 3) fun i32 =>
 iteB (decide (i32 > (4 : Int))) (
 (J20 true w19)) (
 ldI .i64 w19 (Addr.add a3 5) fun i33 =>
 iteB (decide (i33 < (0 : Int))) (
 (J20 true w19)) (
 ldI .i64 w19 (Addr.add a3 5) fun i34 =>
 (J20 (decide (i34 > (1048576 : Int))) w19))))))))) fun b35 w36 =>
 iteB b35 (
 (k (10 : Int) w36)) (
 ldStr w36 (Addr.add a3 6) fun t37 =>
 pelotonref07_binary t37 w36 fun b38 w39 =>
 iteB (!b38) (
 (k (11 : Int) w39)) (
 joinP (S := Bool) (fun J40 =>
 ldI .i64 w39 (Addr.add a3 4) fun i41 =>
 iteB (i41 != (0 : Int)) (
 ldI .i64 w39 (Addr.add a3 3) fun i42 =>
 iteB (i42 != (2 : Int)) (
 ldI .i64 w39 (Addr.add a3 3) fun i43 =>
 iteB (i43 != (3 : Int)) (
 (J40 true w39)) (
 ldI .i64 w39 (Addr.add a3 3) fun i44 =>
 iteB (i44 == (0 : Int)) (
 ldI .i64 w39 (Addr.add a3 5) fun i45 =>
 iteB (i45 != (0 : Int)) (
 (J40 true w39)) (
 ldStr w39 (Addr.add a3 6) fun t46 =>
 (J40 (!(strEqB t46 (ByteArray.mk #[]))) w39))) (
 (J40 false w39)))) (
 ldI .i64 w39 (Addr.add a3 3) fun i47 =>
 iteB (i47 == (0 : Int)) (
 ldI .i64 w39 (Addr.add a3 5) fun i48 =>
 iteB (i48 != (0 : Int)) (
 (J40 true w39)) (
 ldStr w39 (Addr.add a3 6) fun t49 =>
 (J40 (!(strEqB t49 (ByteArray.mk #[]))) w39))) (
 (J40 false w39)))) (
 ldI .i64 w39 (Addr.add a3 3) fun i50 =>
 iteB (i50 == (0 : Int)) (
 ldI .i64 w39 (Addr.add a3 5) fun i51 =>
 iteB (i51 != (0 : Int)) (
 (J40 true w39)) (
 ldStr w39 (Addr.add a3 6) fun t52 =>
 (J40 (!(strEqB t52 (ByteArray.mk #[]))) w39))) (
 (J40 false w39)))) fun b53 w54 =>
 iteB b53 (
 (k (19 : Int) w54)) (
 joinP (S := Bool) (fun J55 =>
 iteB (decide (i_1 > (0 : Int))) (
 ldI .i64 w54 (Addr.add a3 0) fun i56 =>
 ixS l_0 i56 7 fun a57 =>
 ldI .i64 w54 (Addr.add a57 3) fun i58 =>
 iteB (i58 == (0 : Int)) (
 (J55 true w54)) (
 ldI .i64 w54 (Addr.add a3 0) fun i59 =>
 ixS l_0 i59 7 fun a60 =>
 ldA 7 w54 a60 fun cs61 =>
 pelotonref07_Came cs61 w54 fun b62 w63 =>
 iteB b62 (
 ldA 7 w63 a3 fun cs64 =>
 pelotonref07_Came cs64 w63 fun b65 w66 =>
 (J55 (!b65) w66)) (
 (J55 false w63)))) (
 (J55 false w54))) fun b67 w68 =>
 iteB b67 (
 (k (19 : Int) w68)) (
 (k (0 : Int) w68))))))
theorem e_pelotonref07_right (pelotonref07_Within : Sl → Int → Int → World → ((Bool) → World → Prop) → Prop) (pelotonref07_binary : ByteArray → World → ((Bool) → World → Prop) → Prop) (pelotonref07_Came : Array Value → World → ((Bool) → World → Prop) → Prop) (x : KT [.s, (.i .i64)]) (w : World) (k : KT [(.i .i64)] → World → Prop) : evFn Go.Proofs.Tryz.prog (orcOf [(n_pelotonref07_Within, (fun args w c => unL [.s, (.i .i64), (.i .i64)] args fun x => pelotonref07_Within x.1 x.2.1 x.2.2 w fun r w => c (packV (valL [.b] r)) w)), (n_pelotonref07_binary, (fun args w c => unL [.str] args fun x => pelotonref07_binary x w fun r w => c (packV (valL [.b] r)) w)), (n_pelotonref07_Came, (fun args w c => unL [.ag] args fun x => pelotonref07_Came x w fun r w => c (packV (valL [.b] r)) w))]) 348449164496228502932761845927999357059123 [(2, [(40, .b)]), (5, [(82, .b)]), (11, [(114, .b)]), (14, [(138, .b)])] Go.Proofs.Tryz.f39 [(.i .i64)] (valL [.s, (.i .i64)] x) w k = pelotonref07_right_b pelotonref07_Within pelotonref07_binary pelotonref07_Came x.1 x.2 w k := by kernel_rfl
def pelotonref07_right (l_0 : Sl) (i_1 : Int) (w : World) (k : (Int) → World → Prop) : Prop := pelotonref07_right_b pelotonref07_Within pelotonref07_binary pelotonref07_Came l_0 i_1 w k
def d_pelotonref07_right : Dec := fun args w c => unL [.s, (.i .i64)] args fun x => pelotonref07_right x.1 x.2 w fun r w => c (packV (valL [(.i .i64)] r)) w
theorem s_pelotonref07_right : Sound Go.Proofs.Tryz.prog n_pelotonref07_right d_pelotonref07_right :=
 sound_of (mask := 348449164496228502932761845927999357059123) (h := [(2, [(40, .b)]), (5, [(82, .b)]), (11, [(114, .b)]), (14, [(138, .b)])]) (ds := [(n_pelotonref07_Within, d_pelotonref07_Within), (n_pelotonref07_binary, d_pelotonref07_binary), (n_pelotonref07_Came, d_pelotonref07_Came)]) mixed Go.Proofs.Tryz.func39 ⟨s_pelotonref07_Within, s_pelotonref07_binary, s_pelotonref07_Came, trivial⟩
 [.s, (.i .i64)] [(.i .i64)] (by kernel_rfl) (fun x w k => pelotonref07_right x.1 x.2 w k) (fun x w k => e_pelotonref07_right pelotonref07_Within pelotonref07_binary pelotonref07_Came x w k)
def pelotonref07_Check_b (pelotonref07_right : Sl → Int → World → ((Int) → World → Prop) → Prop) (l_0 : Sl) (w : World) (k : (Int) → World → Prop) : Prop :=
 iteB (((l_0.n : Nat) : Int) == (0 : Int)) (
 (k (17 : Int) w)) (
 loopP (S := Int) (fun C1 i2 w3 =>
 iteB (decide (i2 < ((l_0.n : Nat) : Int))) (
 pelotonref07_right l_0 i2 w3 fun i4 w5 =>
 iteB (i4 != (0 : Int)) (
 (k i4 w5)) (
 (C1 (IntKind.wrap .i64 (i2 + (1 : Int))) w5))) (
 (k (0 : Int) w3))) (0 : Int) w)
theorem e_pelotonref07_Check (pelotonref07_right : Sl → Int → World → ((Int) → World → Prop) → Prop) (x : KT [.s]) (w : World) (k : KT [(.i .i64)] → World → Prop) : evFn Go.Proofs.Tryz.prog (orcOf [(n_pelotonref07_right, (fun args w c => unL [.s, (.i .i64)] args fun x => pelotonref07_right x.1 x.2 w fun r w => c (packV (valL [(.i .i64)] r)) w))]) 264349 [(6, [(3, (.i .i64))])] Go.Proofs.Tryz.f21 [(.i .i64)] (valL [.s] x) w k = pelotonref07_Check_b pelotonref07_right x w k := by kernel_rfl
def pelotonref07_Check (l_0 : Sl) (w : World) (k : (Int) → World → Prop) : Prop := pelotonref07_Check_b pelotonref07_right l_0 w k
def d_pelotonref07_Check : Dec := fun args w c => unL [.s] args fun x => pelotonref07_Check x w fun r w => c (packV (valL [(.i .i64)] r)) w
theorem s_pelotonref07_Check : Sound Go.Proofs.Tryz.prog n_pelotonref07_Check d_pelotonref07_Check :=
 sound_of (mask := 264349) (h := [(6, [(3, (.i .i64))])]) (ds := [(n_pelotonref07_right, d_pelotonref07_right)]) mixed Go.Proofs.Tryz.func21 ⟨s_pelotonref07_right, trivial⟩
 [.s] [(.i .i64)] (by kernel_rfl) (fun x w k => pelotonref07_Check x w k) (fun x w k => e_pelotonref07_Check pelotonref07_right x w k)
def pelotonref05_Root  (w : World) (k : (Array Value) → World → Prop) : Prop :=
 newC w ltFu0 57 fun a1 w2 =>
 spl ltFu0 10 8 #[(.int .i64 (-(1 : Int))), (.int .i64 (-(1 : Int))), (.int .i64 (-(1 : Int))), (.int .i64 (-(1 : Int))), (.int .i64 (-(1 : Int))), (.int .i64 (-(1 : Int))), (.int .i64 (-(1 : Int))), (.int .i64 (-(1 : Int)))] fun cs3 =>
 stA 19 w2 a1 cs3 fun w4 =>
 ldA 19 w4 a1 fun cs5 =>
 (k cs5 w4)
def d_pelotonref05_Root : Dec := fun args w c => unL [] args fun x => pelotonref05_Root  w fun r w => c (packV (valL [.ag] r)) w
theorem s_pelotonref05_Root : Sound Go.Proofs.Tryz.prog n_pelotonref05_Root d_pelotonref05_Root :=
 sound_of (mask := 1) (h := []) (ds := []) mixed Go.Proofs.Tryz.func22 trivial
 [] [.ag] (by kernel_rfl) (fun x w k => pelotonref05_Root  w k) (fun x w k => by kernel_rfl)
def pelotonref07_Kids (l_0 : Sl) (i_1 : Int) (w : World) (k : (Sl) → World → Prop) : Prop :=
 loopP (S := (Sl × Int)) (fun C1 x2 w3 =>
 iteB (decide (x2.2 < ((l_0.n : Nat) : Int))) (
 ixS l_0 x2.2 7 fun a4 =>
 ldI .i64 w3 (Addr.add a4 0) fun i5 =>
 iteB (i5 == i_1) (
 newC w3 #[(.int .i64 x2.2)] 3 fun a6 w7 =>
 bApp Go.Proofs.Tryz.prog #[96, 96] 96 [(.slice x2.1.a x2.1.n x2.1.c), (.slice (some a6) 1 1)] w7 fun s8 w9 =>
 (C1 (s8, (IntKind.wrap .i64 (x2.2 + (1 : Int)))) w9)) (
 (C1 (x2.1, (IntKind.wrap .i64 (x2.2 + (1 : Int)))) w3))) (
 (k x2.1 w3))) ((Sl.mk none 0 0), (0 : Int)) w
def d_pelotonref07_Kids : Dec := fun args w c => unL [.s, (.i .i64)] args fun x => pelotonref07_Kids x.1 x.2 w fun r w => c (packV (valL [.s] r)) w
theorem s_pelotonref07_Kids : Sound Go.Proofs.Tryz.prog n_pelotonref07_Kids d_pelotonref07_Kids :=
 sound_of (mask := 525427) (h := [(4, [(5, .s), (6, (.i .i64))])]) (ds := []) mixed Go.Proofs.Tryz.func40 trivial
 [.s, (.i .i64)] [.s] (by kernel_rfl) (fun x w k => pelotonref07_Kids x.1 x.2 w k) (fun x w k => by kernel_rfl)
def pelotonref08_Book_scope (b_0 : Option Addr) (around_1 : Int) (w : World) (k : (Int) → World → Prop) : Prop :=
 nn b_0 fun a1 =>
 ldS w (Addr.add a1 3) fun s2 =>
 spl #[(.int .i64 (0 : Int)), (.bool false)] 0 2 #[(.int .i64 around_1), (.bool false)] fun cs3 =>
 newC w cs3 50 fun a4 w5 =>
 bApp Go.Proofs.Tryz.prog #[51, 51] 51 [(.slice s2.a s2.n s2.c), (.slice (some a4) 1 1)] w5 fun s6 w7 =>
 nn b_0 fun a8 =>
 stC w7 (Addr.add a8 3) (.slice s6.a s6.n s6.c) fun w9 =>
 nn b_0 fun a10 =>
 ldS w9 (Addr.add a10 3) fun s11 =>
 (k (IntKind.wrap .i64 (((s11.n : Nat) : Int) - (1 : Int))) w9)
def d_pelotonref08_Book_scope : Dec := fun args w c => unL [.p, (.i .i64)] args fun x => pelotonref08_Book_scope x.1 x.2 w fun r w => c (packV (valL [(.i .i64)] r)) w
theorem s_pelotonref08_Book_scope : Sound Go.Proofs.Tryz.prog n_pelotonref08_Book_scope d_pelotonref08_Book_scope :=
 sound_of (mask := 19) (h := []) (ds := []) mixed Go.Proofs.Tryz.func41 trivial
 [.p, (.i .i64)] [(.i .i64)] (by kernel_rfl) (fun x w k => pelotonref08_Book_scope x.1 x.2 w k) (fun x w k => by kernel_rfl)
def pelotonref05_Task_With (t_0 : Array Value) (a_1 : Int) (v_2 : Int) (w : World) (k : (Array Value) → World → Prop) : Prop :=
 newC w t_0 57 fun a1 w2 =>
 newC w2 ltFu0 57 fun a3 w4 =>
 ixP (Addr.add a1 2) 8 a_1 1 fun a5 =>
 stC w4 a5 (.int .i64 v_2) fun w6 =>
 ldA 19 w6 a1 fun cs7 =>
 stA 19 w6 a3 cs7 fun w8 =>
 ldA 19 w8 a3 fun cs9 =>
 (k cs9 w8)
def d_pelotonref05_Task_With : Dec := fun args w c => unL [.ag, (.i .i64), (.i .i64)] args fun x => pelotonref05_Task_With x.1 x.2.1 x.2.2 w fun r w => c (packV (valL [.ag] r)) w
theorem s_pelotonref05_Task_With : Sound Go.Proofs.Tryz.prog n_pelotonref05_Task_With d_pelotonref05_Task_With :=
 sound_of (mask := 78) (h := []) (ds := []) mixed Go.Proofs.Tryz.func102 trivial
 [.ag, (.i .i64), (.i .i64)] [.ag] (by kernel_rfl) (fun x w k => pelotonref05_Task_With x.1 x.2.1 x.2.2 w k) (fun x w k => by kernel_rfl)
def pelotonref05_Task_To (t_0 : Array Value) (pc_1 : Int) (w : World) (k : (Array Value) → World → Prop) : Prop :=
 newC w t_0 57 fun a1 w2 =>
 newC w2 ltFu0 57 fun a3 w4 =>
 stC w4 (Addr.add a1 1) (.int .i64 pc_1) fun w5 =>
 ldI .i64 w5 (Addr.add a1 18) fun i6 =>
 stC w5 (Addr.add a1 18) (.int .i64 (IntKind.wrap .i64 (i6 + (1 : Int)))) fun w7 =>
 ldA 19 w7 a1 fun cs8 =>
 stA 19 w7 a3 cs8 fun w9 =>
 ldA 19 w9 a3 fun cs10 =>
 (k cs10 w9)
def d_pelotonref05_Task_To : Dec := fun args w c => unL [.ag, (.i .i64)] args fun x => pelotonref05_Task_To x.1 x.2 w fun r w => c (packV (valL [.ag] r)) w
theorem s_pelotonref05_Task_To : Sound Go.Proofs.Tryz.prog n_pelotonref05_Task_To d_pelotonref05_Task_To :=
 sound_of (mask := 22) (h := []) (ds := []) mixed Go.Proofs.Tryz.func103 trivial
 [.ag, (.i .i64)] [.ag] (by kernel_rfl) (fun x w k => pelotonref05_Task_To x.1 x.2 w k) (fun x w k => by kernel_rfl)
def pelotonref05_Task_On_b (pelotonref05_Task_To : Array Value → Int → World → ((Array Value) → World → Prop) → Prop) (t_0 : Array Value) (w : World) (k : (Array Value) → World → Prop) : Prop :=
 newC w t_0 57 fun a1 w2 =>
 newC w2 ltFu0 57 fun a3 w4 =>
 ldA 19 w4 a1 fun cs5 =>
 ldI .i64 w4 (Addr.add a1 1) fun i6 =>
 pelotonref05_Task_To cs5 (IntKind.wrap .i64 (i6 + (1 : Int))) w4 fun cs7 w8 =>
 stA 19 w8 a3 cs7 fun w9 =>
 ldA 19 w9 a3 fun cs10 =>
 (k cs10 w9)
theorem e_pelotonref05_Task_On (pelotonref05_Task_To : Array Value → Int → World → ((Array Value) → World → Prop) → Prop) (x : KT [.ag]) (w : World) (k : KT [.ag] → World → Prop) : evFn Go.Proofs.Tryz.prog (orcOf [(n_pelotonref05_Task_To, (fun args w c => unL [.ag, (.i .i64)] args fun x => pelotonref05_Task_To x.1 x.2 w fun r w => c (packV (valL [.ag] r)) w))]) 6 [] Go.Proofs.Tryz.f75 [.ag] (valL [.ag] x) w k = pelotonref05_Task_On_b pelotonref05_Task_To x w k := by kernel_rfl
def pelotonref05_Task_On (t_0 : Array Value) (w : World) (k : (Array Value) → World → Prop) : Prop := pelotonref05_Task_On_b pelotonref05_Task_To t_0 w k
def d_pelotonref05_Task_On : Dec := fun args w c => unL [.ag] args fun x => pelotonref05_Task_On x w fun r w => c (packV (valL [.ag] r)) w
theorem s_pelotonref05_Task_On : Sound Go.Proofs.Tryz.prog n_pelotonref05_Task_On d_pelotonref05_Task_On :=
 sound_of (mask := 6) (h := []) (ds := [(n_pelotonref05_Task_To, d_pelotonref05_Task_To)]) mixed Go.Proofs.Tryz.func75 ⟨s_pelotonref05_Task_To, trivial⟩
 [.ag] [.ag] (by kernel_rfl) (fun x w k => pelotonref05_Task_On x w k) (fun x w k => e_pelotonref05_Task_On pelotonref05_Task_To x w k)
def pelotonref05_Task_Plain_b (pelotonref02_Check : Array Value → World → ((Int) → World → Prop) → Prop) (pelotonref05_Task_With : Array Value → Int → Int → World → ((Array Value) → World → Prop) → Prop) (pelotonref05_Task_On : Array Value → World → ((Array Value) → World → Prop) → Prop) (pelotonref05_Task_To : Array Value → Int → World → ((Array Value) → World → Prop) → Prop) (t_0 : Array Value) (i_1 : Array Value) (w : World) (k : (Array Value × Bool) → World → Prop) : Prop :=
 newC w t_0 57 fun a1 w2 =>
 newC w2 i_1 42 fun a3 w4 =>
 newC w4 ltFu0 57 fun a5 w6 =>
 ldA 5 w6 a3 fun cs7 =>
 pelotonref02_Check cs7 w6 fun i8 w9 =>
 iteB (i8 != (0 : Int)) (
 ldA 19 w9 a1 fun cs10 =>
 stA 19 w9 a5 cs10 fun w11 =>
 ldA 19 w11 a5 fun cs12 =>
 (k (cs12, false) w11)) (
 ldA 8 w9 (Addr.add a1 2) fun cs13 =>
 newC w9 #[(.int .i64 (0 : Int)), (.int .i64 (0 : Int)), (.int .i64 (0 : Int)), (.int .i64 (0 : Int)), (.int .i64 (0 : Int)), (.int .i64 (0 : Int)), (.int .i64 (0 : Int)), (.int .i64 (0 : Int))] 54 fun a14 w15 =>
 stA 8 w15 a14 cs13 fun w16 =>
 ldI .i64 w16 (Addr.add a3 0) fun i17 =>
 iteB (i17 == (0 : Int)) (
 ldA 19 w16 a1 fun cs18 =>
 ldI .i64 w16 (Addr.add a3 1) fun i19 =>
 ldI .i64 w16 (Addr.add a3 4) fun i20 =>
 pelotonref05_Task_With cs18 i19 i20 w16 fun cs21 w22 =>
 pelotonref05_Task_On cs21 w22 fun cs23 w24 =>
 stA 19 w24 a5 cs23 fun w25 =>
 ldA 19 w25 a5 fun cs26 =>
 (k (cs26, true) w25)) (
 iteB (i17 == (1 : Int)) (
 drew w16 fun w27 =>
 ldA 19 w27 a1 fun cs28 =>
 ldI .i64 w27 (Addr.add a3 1) fun i29 =>
 ldI .i64 w27 (Addr.add a3 2) fun i30 =>
 ixP a14 8 i30 1 fun a31 =>
 ldI .i64 w27 a31 fun i32 =>
 pelotonref05_Task_With cs28 i29 i32 w27 fun cs33 w34 =>
 pelotonref05_Task_On cs33 w34 fun cs35 w36 =>
 stA 19 w36 a5 cs35 fun w37 =>
 ldA 19 w37 a5 fun cs38 =>
 (k (cs38, true) w37)) (
 iteB (i17 == (2 : Int)) (
 drew w16 fun w39 =>
 ldA 19 w39 a1 fun cs40 =>
 ldI .i64 w39 (Addr.add a3 1) fun i41 =>
 ldI .i64 w39 (Addr.add a3 2) fun i42 =>
 ixP a14 8 i42 1 fun a43 =>
 ldI .i64 w39 a43 fun i44 =>
 ldI .i64 w39 (Addr.add a3 3) fun i45 =>
 ixP a14 8 i45 1 fun a46 =>
 ldI .i64 w39 a46 fun i47 =>
 pelotonref05_Task_With cs40 i41 (IntKind.wrap .i64 (i44 + i47)) w39 fun cs48 w49 =>
 pelotonref05_Task_On cs48 w49 fun cs50 w51 =>
 stA 19 w51 a5 cs50 fun w52 =>
 ldA 19 w52 a5 fun cs53 =>
 (k (cs53, true) w52)) (
 iteB (i17 == (3 : Int)) (
 drew w16 fun w54 =>
 ldA 19 w54 a1 fun cs55 =>
 ldI .i64 w54 (Addr.add a3 1) fun i56 =>
 ldI .i64 w54 (Addr.add a3 2) fun i57 =>
 ixP a14 8 i57 1 fun a58 =>
 ldI .i64 w54 a58 fun i59 =>
 ldI .i64 w54 (Addr.add a3 3) fun i60 =>
 ixP a14 8 i60 1 fun a61 =>
 ldI .i64 w54 a61 fun i62 =>
 pelotonref05_Task_With cs55 i56 (IntKind.wrap .i64 (i59 - i62)) w54 fun cs63 w64 =>
 pelotonref05_Task_On cs63 w64 fun cs65 w66 =>
 stA 19 w66 a5 cs65 fun w67 =>
 ldA 19 w67 a5 fun cs68 =>
 (k (cs68, true) w67)) (
 iteB (i17 == (4 : Int)) (
 drew w16 fun w69 =>
 ldA 19 w69 a1 fun cs70 =>
 ldI .i64 w69 (Addr.add a3 1) fun i71 =>
 ldI .i64 w69 (Addr.add a3 2) fun i72 =>
 ixP a14 8 i72 1 fun a73 =>
 ldI .i64 w69 a73 fun i74 =>
 ldI .i64 w69 (Addr.add a3 3) fun i75 =>
 ixP a14 8 i75 1 fun a76 =>
 ldI .i64 w69 a76 fun i77 =>
 pelotonref05_Task_With cs70 i71 (IntKind.wrap .i64 (i74 * i77)) w69 fun cs78 w79 =>
 pelotonref05_Task_On cs78 w79 fun cs80 w81 =>
 stA 19 w81 a5 cs80 fun w82 =>
 ldA 19 w82 a5 fun cs83 =>
 (k (cs83, true) w82)) (
 iteB (i17 == (5 : Int)) (
 drew w16 fun w84 =>
 ldI .i64 w84 (Addr.add a3 2) fun i85 =>
 ixP a14 8 i85 1 fun a86 =>
 ldI .i64 w84 a86 fun i87 =>
 ldI .i64 w84 (Addr.add a3 3) fun i88 =>
 ixP a14 8 i88 1 fun a89 =>
 ldI .i64 w84 a89 fun i90 =>
 iteB (decide (i87 < i90)) (
 ldA 19 w84 a1 fun cs91 =>
 ldI .i64 w84 (Addr.add a3 1) fun i92 =>
 pelotonref05_Task_With cs91 i92 (1 : Int) w84 fun cs93 w94 =>
 pelotonref05_Task_On cs93 w94 fun cs95 w96 =>
 stA 19 w96 a5 cs95 fun w97 =>
 ldA 19 w97 a5 fun cs98 =>
 (k (cs98, true) w97)) (
 ldA 19 w84 a1 fun cs99 =>
 ldI .i64 w84 (Addr.add a3 1) fun i100 =>
 pelotonref05_Task_With cs99 i100 (0 : Int) w84 fun cs101 w102 =>
 pelotonref05_Task_On cs101 w102 fun cs103 w104 =>
 stA 19 w104 a5 cs103 fun w105 =>
 ldA 19 w105 a5 fun cs106 =>
 (k (cs106, true) w105))) (
 iteB (i17 == (6 : Int)) (
 ldA 19 w16 a1 fun cs107 =>
 ldI .i64 w16 (Addr.add a3 4) fun i108 =>
 pelotonref05_Task_To cs107 i108 w16 fun cs109 w110 =>
 stA 19 w110 a5 cs109 fun w111 =>
 ldA 19 w111 a5 fun cs112 =>
 (k (cs112, true) w111)) (
 iteB (i17 == (7 : Int)) (
 ldI .i64 w16 (Addr.add a3 1) fun i113 =>
 ixP a14 8 i113 1 fun a114 =>
 ldI .i64 w16 a114 fun i115 =>
 iteB (i115 != (0 : Int)) (
 ldA 19 w16 a1 fun cs116 =>
 ldI .i64 w16 (Addr.add a3 4) fun i117 =>
 pelotonref05_Task_To cs116 i117 w16 fun cs118 w119 =>
 stA 19 w119 a5 cs118 fun w120 =>
 ldA 19 w120 a5 fun cs121 =>
 (k (cs121, true) w120)) (
 ldA 19 w16 a1 fun cs122 =>
 pelotonref05_Task_On cs122 w16 fun cs123 w124 =>
 stA 19 w124 a5 cs123 fun w125 =>
 ldA 19 w125 a5 fun cs126 =>
 (k (cs126, true) w125))) (
 ldA 19 w16 a1 fun cs127 =>
 stA 19 w16 a5 cs127 fun w128 =>
 ldA 19 w128 a5 fun cs129 =>
 (k (cs129, false) w128))))))))))
theorem e_pelotonref05_Task_Plain (pelotonref02_Check : Array Value → World → ((Int) → World → Prop) → Prop) (pelotonref05_Task_With : Array Value → Int → Int → World → ((Array Value) → World → Prop) → Prop) (pelotonref05_Task_On : Array Value → World → ((Array Value) → World → Prop) → Prop) (pelotonref05_Task_To : Array Value → Int → World → ((Array Value) → World → Prop) → Prop) (x : KT [.ag, .ag]) (w : World) (k : KT [.ag, .b] → World → Prop) : evFn Go.Proofs.Tryz.prog (orcOf [(n_pelotonref02_Check, (fun args w c => unL [.ag] args fun x => pelotonref02_Check x w fun r w => c (packV (valL [(.i .i64)] r)) w)), (n_pelotonref05_Task_With, (fun args w c => unL [.ag, (.i .i64), (.i .i64)] args fun x => pelotonref05_Task_With x.1 x.2.1 x.2.2 w fun r w => c (packV (valL [.ag] r)) w)), (n_pelotonref05_Task_On, (fun args w c => unL [.ag] args fun x => pelotonref05_Task_On x w fun r w => c (packV (valL [.ag] r)) w)), (n_pelotonref05_Task_To, (fun args w c => unL [.ag, (.i .i64)] args fun x => pelotonref05_Task_To x.1 x.2 w fun r w => c (packV (valL [.ag] r)) w))]) 84395116273986469050208169058419324 [] Go.Proofs.Tryz.f71 [.ag, .b] (valL [.ag, .ag] x) w k = pelotonref05_Task_Plain_b pelotonref02_Check pelotonref05_Task_With pelotonref05_Task_On pelotonref05_Task_To x.1 x.2 w k := by kernel_rfl
def pelotonref05_Task_Plain (t_0 : Array Value) (i_1 : Array Value) (w : World) (k : (Array Value × Bool) → World → Prop) : Prop := pelotonref05_Task_Plain_b pelotonref02_Check pelotonref05_Task_With pelotonref05_Task_On pelotonref05_Task_To t_0 i_1 w k
def d_pelotonref05_Task_Plain : Dec := fun args w c => unL [.ag, .ag] args fun x => pelotonref05_Task_Plain x.1 x.2 w fun r w => c (packV (valL [.ag, .b] r)) w
theorem s_pelotonref05_Task_Plain : Sound Go.Proofs.Tryz.prog n_pelotonref05_Task_Plain d_pelotonref05_Task_Plain :=
 sound_of (mask := 84395116273986469050208169058419324) (h := []) (ds := [(n_pelotonref02_Check, d_pelotonref02_Check), (n_pelotonref05_Task_With, d_pelotonref05_Task_With), (n_pelotonref05_Task_On, d_pelotonref05_Task_On), (n_pelotonref05_Task_To, d_pelotonref05_Task_To)]) mixed Go.Proofs.Tryz.func71 ⟨s_pelotonref02_Check, s_pelotonref05_Task_With, s_pelotonref05_Task_On, s_pelotonref05_Task_To, trivial⟩
 [.ag, .ag] [.ag, .b] (by kernel_rfl) (fun x w k => pelotonref05_Task_Plain x.1 x.2 w k) (fun x w k => e_pelotonref05_Task_Plain pelotonref02_Check pelotonref05_Task_With pelotonref05_Task_On pelotonref05_Task_To x w k)
def pelotonref05_Task_Child_b (pelotonref05_Root : World → ((Array Value) → World → Prop) → Prop) (t_0 : Array Value) (n_1 : Int) (needs_2 : Int) (w : World) (k : (Array Value) → World → Prop) : Prop :=
 newC w t_0 57 fun a1 w2 =>
 newC w2 ltFu0 57 fun a3 w4 =>
 pelotonref05_Root  w4 fun cs5 w6 =>
 newC w6 ltFu0 57 fun a7 w8 =>
 stA 19 w8 a7 cs5 fun w9 =>
 stC w9 (Addr.add a7 0) (.int .i64 n_1) fun w10 =>
 ldA 8 w10 (Addr.add a1 2) fun cs11 =>
 stA 8 w10 (Addr.add a7 2) cs11 fun w12 =>
 loopP (S := Int) (fun C13 i14 w15 =>
 iteB (decide (i14 < (8 : Int))) (
 shrI .i64 needs_2 (IntKind.wrap .u64 i14) fun i16 =>
 iteB ((andI .i64 i16 (1 : Int)) == (1 : Int)) (
 ixP (Addr.add a1 10) 8 i14 1 fun a17 =>
 ldI .i64 w15 a17 fun i18 =>
 ixP (Addr.add a7 10) 8 i14 1 fun a19 =>
 stC w15 a19 (.int .i64 i18) fun w20 =>
 (C13 (IntKind.wrap .i64 (i14 + (1 : Int))) w20)) (
 (C13 (IntKind.wrap .i64 (i14 + (1 : Int))) w15))) (
 ldA 19 w15 a7 fun cs21 =>
 stA 19 w15 a3 cs21 fun w22 =>
 ldA 19 w22 a3 fun cs23 =>
 (k cs23 w22))) (0 : Int) w12
theorem e_pelotonref05_Task_Child (pelotonref05_Root : World → ((Array Value) → World → Prop) → Prop) (x : KT [.ag, (.i .i64), (.i .i64)]) (w : World) (k : KT [.ag] → World → Prop) : evFn Go.Proofs.Tryz.prog (orcOf [(n_pelotonref05_Root, (fun args w c => unL [] args fun x => pelotonref05_Root  w fun r w => c (packV (valL [.ag] r)) w))]) 16843214 [(6, [(8, (.i .i64))])] Go.Proofs.Tryz.f72 [.ag] (valL [.ag, (.i .i64), (.i .i64)] x) w k = pelotonref05_Task_Child_b pelotonref05_Root x.1 x.2.1 x.2.2 w k := by kernel_rfl
def pelotonref05_Task_Child (t_0 : Array Value) (n_1 : Int) (needs_2 : Int) (w : World) (k : (Array Value) → World → Prop) : Prop := pelotonref05_Task_Child_b pelotonref05_Root t_0 n_1 needs_2 w k
def d_pelotonref05_Task_Child : Dec := fun args w c => unL [.ag, (.i .i64), (.i .i64)] args fun x => pelotonref05_Task_Child x.1 x.2.1 x.2.2 w fun r w => c (packV (valL [.ag] r)) w
theorem s_pelotonref05_Task_Child : Sound Go.Proofs.Tryz.prog n_pelotonref05_Task_Child d_pelotonref05_Task_Child :=
 sound_of (mask := 16843214) (h := [(6, [(8, (.i .i64))])]) (ds := [(n_pelotonref05_Root, d_pelotonref05_Root)]) mixed Go.Proofs.Tryz.func72 ⟨s_pelotonref05_Root, trivial⟩
 [.ag, (.i .i64), (.i .i64)] [.ag] (by kernel_rfl) (fun x w k => pelotonref05_Task_Child x.1 x.2.1 x.2.2 w k) (fun x w k => e_pelotonref05_Task_Child pelotonref05_Root x w k)
def pelotonref05_is_b (pelotonref02_Check : Array Value → World → ((Int) → World → Prop) → Prop) (i_0 : Array Value) (op_1 : Int) (w : World) (k : (Bool) → World → Prop) : Prop :=
 newC w i_0 42 fun a1 w2 =>
 ldI .i64 w2 (Addr.add a1 0) fun i3 =>
 iteB (i3 == op_1) (
 ldA 5 w2 a1 fun cs4 =>
 pelotonref02_Check cs4 w2 fun i5 w6 =>
 (k (i5 == (0 : Int)) w6)) (
 (k false w2))
theorem e_pelotonref05_is (pelotonref02_Check : Array Value → World → ((Int) → World → Prop) → Prop) (x : KT [.ag, (.i .i64)]) (w : World) (k : KT [.b] → World → Prop) : evFn Go.Proofs.Tryz.prog (orcOf [(n_pelotonref02_Check, (fun args w c => unL [.ag] args fun x => pelotonref02_Check x w fun r w => c (packV (valL [(.i .i64)] r)) w))]) 22 [] Go.Proofs.Tryz.f104 [.b] (valL [.ag, (.i .i64)] x) w k = pelotonref05_is_b pelotonref02_Check x.1 x.2 w k := by kernel_rfl
def pelotonref05_is (i_0 : Array Value) (op_1 : Int) (w : World) (k : (Bool) → World → Prop) : Prop := pelotonref05_is_b pelotonref02_Check i_0 op_1 w k
def d_pelotonref05_is : Dec := fun args w c => unL [.ag, (.i .i64)] args fun x => pelotonref05_is x.1 x.2 w fun r w => c (packV (valL [.b] r)) w
theorem s_pelotonref05_is : Sound Go.Proofs.Tryz.prog n_pelotonref05_is d_pelotonref05_is :=
 sound_of (mask := 22) (h := []) (ds := [(n_pelotonref02_Check, d_pelotonref02_Check)]) mixed Go.Proofs.Tryz.func104 ⟨s_pelotonref02_Check, trivial⟩
 [.ag, (.i .i64)] [.b] (by kernel_rfl) (fun x w k => pelotonref05_is x.1 x.2 w k) (fun x w k => e_pelotonref05_is pelotonref02_Check x w k)
def pelotonref05_Task_Forked_b (pelotonref05_is : Array Value → Int → World → ((Bool) → World → Prop) → Prop) (pelotonref05_Task_On : Array Value → World → ((Array Value) → World → Prop) → Prop) (t_0 : Array Value) (i_1 : Array Value) (id_2 : Int) (w : World) (k : (Array Value) → World → Prop) : Prop :=
 newC w t_0 57 fun a1 w2 =>
 newC w2 i_1 42 fun a3 w4 =>
 newC w4 ltFu0 57 fun a5 w6 =>
 ldA 5 w6 a3 fun cs7 =>
 pelotonref05_is cs7 (8 : Int) w6 fun b8 w9 =>
 iteB (!b8) (
 ldA 19 w9 a1 fun cs10 =>
 stA 19 w9 a5 cs10 fun w11 =>
 ldA 19 w11 a5 fun cs12 =>
 (k cs12 w11)) (
 ldI .i64 w9 (Addr.add a3 1) fun i13 =>
 ixP (Addr.add a1 10) 8 i13 1 fun a14 =>
 stC w9 a14 (.int .i64 id_2) fun w15 =>
 ldA 19 w15 a1 fun cs16 =>
 pelotonref05_Task_On cs16 w15 fun cs17 w18 =>
 stA 19 w18 a5 cs17 fun w19 =>
 ldA 19 w19 a5 fun cs20 =>
 (k cs20 w19))
theorem e_pelotonref05_Task_Forked (pelotonref05_is : Array Value → Int → World → ((Bool) → World → Prop) → Prop) (pelotonref05_Task_On : Array Value → World → ((Array Value) → World → Prop) → Prop) (x : KT [.ag, .ag, (.i .i64)]) (w : World) (k : KT [.ag] → World → Prop) : evFn Go.Proofs.Tryz.prog (orcOf [(n_pelotonref05_is, (fun args w c => unL [.ag, (.i .i64)] args fun x => pelotonref05_is x.1 x.2 w fun r w => c (packV (valL [.b] r)) w)), (n_pelotonref05_Task_On, (fun args w c => unL [.ag] args fun x => pelotonref05_Task_On x w fun r w => c (packV (valL [.ag] r)) w))]) 604 [] Go.Proofs.Tryz.f73 [.ag] (valL [.ag, .ag, (.i .i64)] x) w k = pelotonref05_Task_Forked_b pelotonref05_is pelotonref05_Task_On x.1 x.2.1 x.2.2 w k := by kernel_rfl
def pelotonref05_Task_Forked (t_0 : Array Value) (i_1 : Array Value) (id_2 : Int) (w : World) (k : (Array Value) → World → Prop) : Prop := pelotonref05_Task_Forked_b pelotonref05_is pelotonref05_Task_On t_0 i_1 id_2 w k
def d_pelotonref05_Task_Forked : Dec := fun args w c => unL [.ag, .ag, (.i .i64)] args fun x => pelotonref05_Task_Forked x.1 x.2.1 x.2.2 w fun r w => c (packV (valL [.ag] r)) w
theorem s_pelotonref05_Task_Forked : Sound Go.Proofs.Tryz.prog n_pelotonref05_Task_Forked d_pelotonref05_Task_Forked :=
 sound_of (mask := 604) (h := []) (ds := [(n_pelotonref05_is, d_pelotonref05_is), (n_pelotonref05_Task_On, d_pelotonref05_Task_On)]) mixed Go.Proofs.Tryz.func73 ⟨s_pelotonref05_is, s_pelotonref05_Task_On, trivial⟩
 [.ag, .ag, (.i .i64)] [.ag] (by kernel_rfl) (fun x w k => pelotonref05_Task_Forked x.1 x.2.1 x.2.2 w k) (fun x w k => e_pelotonref05_Task_Forked pelotonref05_is pelotonref05_Task_On x w k)
def pelotonref05_Task_Joined_b (pelotonref05_is : Array Value → Int → World → ((Bool) → World → Prop) → Prop) (pelotonref05_Task_With : Array Value → Int → Int → World → ((Array Value) → World → Prop) → Prop) (pelotonref05_Task_On : Array Value → World → ((Array Value) → World → Prop) → Prop) (pelotonref05_Task_To : Array Value → Int → World → ((Array Value) → World → Prop) → Prop) (t_0 : Array Value) (i_1 : Array Value) (kind_2 : Int) (v_3 : Int) (w : World) (k : (Array Value × Int × Bool) → World → Prop) : Prop :=
 newC w t_0 57 fun a1 w2 =>
 newC w2 i_1 42 fun a3 w4 =>
 newC w4 ltFu0 57 fun a5 w6 =>
 iteB (((kind_2 != (2 : Int)) && (kind_2 != (3 : Int))) && (kind_2 != (4 : Int))) (
 ldA 19 w6 a1 fun cs7 =>
 stA 19 w6 a5 cs7 fun w8 =>
 ldA 19 w8 a5 fun cs9 =>
 (k (cs9, ((0 : Int), false)) w8)) (
 joinP (S := Int) (fun J10 =>
 iteB (kind_2 == (4 : Int)) (
 (J10 (0 : Int) w6)) (
 (J10 v_3 w6))) fun i11 w12 =>
 ldA 5 w12 a3 fun cs13 =>
 pelotonref05_is cs13 (10 : Int) w12 fun b14 w15 =>
 iteB b14 (
 drew w15 fun w16 =>
 ldA 19 w16 a1 fun cs17 =>
 ldI .i64 w16 (Addr.add a3 1) fun i18 =>
 ldI .i64 w16 (Addr.add a3 2) fun i19 =>
 pelotonref05_Task_With cs17 i18 i11 w16 fun cs20 w21 =>
 samec 1 (Addr.add a3 2) w16 w21 (
 pelotonref05_Task_With cs20 i19 (IntKind.wrap .i64 (kind_2 - (2 : Int))) w21 fun cs22 w23 =>
 pelotonref05_Task_On cs22 w23 fun cs24 w25 =>
 stA 19 w25 a5 cs24 fun w26 =>
 ldA 19 w26 a5 fun cs27 =>
 (k (cs27, ((0 : Int), false)) w26))) (
 ldA 5 w15 a3 fun cs28 =>
 pelotonref05_is cs28 (9 : Int) w15 fun b29 w30 =>
 iteB (!b29) (
 ldA 19 w30 a1 fun cs31 =>
 stA 19 w30 a5 cs31 fun w32 =>
 ldA 19 w32 a5 fun cs33 =>
 (k (cs33, ((0 : Int), false)) w32)) (
 iteB (kind_2 == (2 : Int)) (
 ldA 19 w30 a1 fun cs34 =>
 ldI .i64 w30 (Addr.add a3 1) fun i35 =>
 pelotonref05_Task_With cs34 i35 i11 w30 fun cs36 w37 =>
 pelotonref05_Task_On cs36 w37 fun cs38 w39 =>
 stA 19 w39 a5 cs38 fun w40 =>
 ldA 19 w40 a5 fun cs41 =>
 (k (cs41, ((0 : Int), false)) w40)) (
 iteB (kind_2 == (4 : Int)) (
 ldA 19 w30 a1 fun cs42 =>
 ldI .i64 w30 (Addr.add a1 1) fun i43 =>
 pelotonref05_Task_To cs42 i43 w30 fun cs44 w45 =>
 stA 19 w45 a5 cs44 fun w46 =>
 ldA 19 w46 a5 fun cs47 =>
 (k (cs47, ((-(1 : Int)), true)) w46)) (
 ldA 19 w30 a1 fun cs48 =>
 ldI .i64 w30 (Addr.add a1 1) fun i49 =>
 pelotonref05_Task_To cs48 i49 w30 fun cs50 w51 =>
 stA 19 w51 a5 cs50 fun w52 =>
 ldA 19 w52 a5 fun cs53 =>
 (k (cs53, (i11, true)) w52))))))
theorem e_pelotonref05_Task_Joined (pelotonref05_is : Array Value → Int → World → ((Bool) → World → Prop) → Prop) (pelotonref05_Task_With : Array Value → Int → Int → World → ((Array Value) → World → Prop) → Prop) (pelotonref05_Task_On : Array Value → World → ((Array Value) → World → Prop) → Prop) (pelotonref05_Task_To : Array Value → Int → World → ((Array Value) → World → Prop) → Prop) (x : KT [.ag, .ag, (.i .i64), (.i .i64)]) (w : World) (k : KT [.ag, (.i .i64), .b] → World → Prop) : evFn Go.Proofs.Tryz.prog (orcOf [(n_pelotonref05_is, (fun args w c => unL [.ag, (.i .i64)] args fun x => pelotonref05_is x.1 x.2 w fun r w => c (packV (valL [.b] r)) w)), (n_pelotonref05_Task_With, (fun args w c => unL [.ag, (.i .i64), (.i .i64)] args fun x => pelotonref05_Task_With x.1 x.2.1 x.2.2 w fun r w => c (packV (valL [.ag] r)) w)), (n_pelotonref05_Task_On, (fun args w c => unL [.ag] args fun x => pelotonref05_Task_On x w fun r w => c (packV (valL [.ag] r)) w)), (n_pelotonref05_Task_To, (fun args w c => unL [.ag, (.i .i64)] args fun x => pelotonref05_Task_To x.1 x.2 w fun r w => c (packV (valL [.ag] r)) w))]) 1130847752161084 [(5, [(3, (.i .i64))])] Go.Proofs.Tryz.f74 [.ag, (.i .i64), .b] (valL [.ag, .ag, (.i .i64), (.i .i64)] x) w k = pelotonref05_Task_Joined_b pelotonref05_is pelotonref05_Task_With pelotonref05_Task_On pelotonref05_Task_To x.1 x.2.1 x.2.2.1 x.2.2.2 w k := by kernel_rfl
def pelotonref05_Task_Joined (t_0 : Array Value) (i_1 : Array Value) (kind_2 : Int) (v_3 : Int) (w : World) (k : (Array Value × Int × Bool) → World → Prop) : Prop := pelotonref05_Task_Joined_b pelotonref05_is pelotonref05_Task_With pelotonref05_Task_On pelotonref05_Task_To t_0 i_1 kind_2 v_3 w k
def d_pelotonref05_Task_Joined : Dec := fun args w c => unL [.ag, .ag, (.i .i64), (.i .i64)] args fun x => pelotonref05_Task_Joined x.1 x.2.1 x.2.2.1 x.2.2.2 w fun r w => c (packV (valL [.ag, (.i .i64), .b] r)) w
theorem s_pelotonref05_Task_Joined : Sound Go.Proofs.Tryz.prog n_pelotonref05_Task_Joined d_pelotonref05_Task_Joined :=
 sound_of (mask := 1130847752161084) (h := [(5, [(3, (.i .i64))])]) (ds := [(n_pelotonref05_is, d_pelotonref05_is), (n_pelotonref05_Task_With, d_pelotonref05_Task_With), (n_pelotonref05_Task_On, d_pelotonref05_Task_On), (n_pelotonref05_Task_To, d_pelotonref05_Task_To)]) mixed Go.Proofs.Tryz.func74 ⟨s_pelotonref05_is, s_pelotonref05_Task_With, s_pelotonref05_Task_On, s_pelotonref05_Task_To, trivial⟩
 [.ag, .ag, (.i .i64), (.i .i64)] [.ag, (.i .i64), .b] (by kernel_rfl) (fun x w k => pelotonref05_Task_Joined x.1 x.2.1 x.2.2.1 x.2.2.2 w k) (fun x w k => e_pelotonref05_Task_Joined pelotonref05_is pelotonref05_Task_With pelotonref05_Task_On pelotonref05_Task_To x w k)
def pelotonref05_Task_Closed_b (pelotonref05_is : Array Value → Int → World → ((Bool) → World → Prop) → Prop) (pelotonref05_Task_With : Array Value → Int → Int → World → ((Array Value) → World → Prop) → Prop) (pelotonref05_Task_On : Array Value → World → ((Array Value) → World → Prop) → Prop) (t_0 : Array Value) (i_1 : Array Value) (asked_2 : Bool) (w : World) (k : (Array Value) → World → Prop) : Prop :=
 newC w t_0 57 fun a1 w2 =>
 newC w2 i_1 42 fun a3 w4 =>
 newC w4 ltFu0 57 fun a5 w6 =>
 ldA 5 w6 a3 fun cs7 =>
 pelotonref05_is cs7 (12 : Int) w6 fun b8 w9 =>
 iteB (!b8) (
 ldA 19 w9 a1 fun cs10 =>
 stA 19 w9 a5 cs10 fun w11 =>
 ldA 19 w11 a5 fun cs12 =>
 (k cs12 w11)) (
 iteB asked_2 (
 ldA 19 w9 a1 fun cs13 =>
 ldI .i64 w9 (Addr.add a3 1) fun i14 =>
 pelotonref05_Task_With cs13 i14 (1 : Int) w9 fun cs15 w16 =>
 pelotonref05_Task_On cs15 w16 fun cs17 w18 =>
 stA 19 w18 a5 cs17 fun w19 =>
 ldA 19 w19 a5 fun cs20 =>
 (k cs20 w19)) (
 ldA 19 w9 a1 fun cs21 =>
 ldI .i64 w9 (Addr.add a3 1) fun i22 =>
 pelotonref05_Task_With cs21 i22 (0 : Int) w9 fun cs23 w24 =>
 pelotonref05_Task_On cs23 w24 fun cs25 w26 =>
 stA 19 w26 a5 cs25 fun w27 =>
 ldA 19 w27 a5 fun cs28 =>
 (k cs28 w27)))
theorem e_pelotonref05_Task_Closed (pelotonref05_is : Array Value → Int → World → ((Bool) → World → Prop) → Prop) (pelotonref05_Task_With : Array Value → Int → Int → World → ((Array Value) → World → Prop) → Prop) (pelotonref05_Task_On : Array Value → World → ((Array Value) → World → Prop) → Prop) (x : KT [.ag, .ag, .b]) (w : World) (k : KT [.ag] → World → Prop) : evFn Go.Proofs.Tryz.prog (orcOf [(n_pelotonref05_is, (fun args w c => unL [.ag, (.i .i64)] args fun x => pelotonref05_is x.1 x.2 w fun r w => c (packV (valL [.b] r)) w)), (n_pelotonref05_Task_With, (fun args w c => unL [.ag, (.i .i64), (.i .i64)] args fun x => pelotonref05_Task_With x.1 x.2.1 x.2.2 w fun r w => c (packV (valL [.ag] r)) w)), (n_pelotonref05_Task_On, (fun args w c => unL [.ag] args fun x => pelotonref05_Task_On x w fun r w => c (packV (valL [.ag] r)) w))]) 2652 [] Go.Proofs.Tryz.f76 [.ag] (valL [.ag, .ag, .b] x) w k = pelotonref05_Task_Closed_b pelotonref05_is pelotonref05_Task_With pelotonref05_Task_On x.1 x.2.1 x.2.2 w k := by kernel_rfl
def pelotonref05_Task_Closed (t_0 : Array Value) (i_1 : Array Value) (asked_2 : Bool) (w : World) (k : (Array Value) → World → Prop) : Prop := pelotonref05_Task_Closed_b pelotonref05_is pelotonref05_Task_With pelotonref05_Task_On t_0 i_1 asked_2 w k
def d_pelotonref05_Task_Closed : Dec := fun args w c => unL [.ag, .ag, .b] args fun x => pelotonref05_Task_Closed x.1 x.2.1 x.2.2 w fun r w => c (packV (valL [.ag] r)) w
theorem s_pelotonref05_Task_Closed : Sound Go.Proofs.Tryz.prog n_pelotonref05_Task_Closed d_pelotonref05_Task_Closed :=
 sound_of (mask := 2652) (h := []) (ds := [(n_pelotonref05_is, d_pelotonref05_is), (n_pelotonref05_Task_With, d_pelotonref05_Task_With), (n_pelotonref05_Task_On, d_pelotonref05_Task_On)]) mixed Go.Proofs.Tryz.func76 ⟨s_pelotonref05_is, s_pelotonref05_Task_With, s_pelotonref05_Task_On, trivial⟩
 [.ag, .ag, .b] [.ag] (by kernel_rfl) (fun x w k => pelotonref05_Task_Closed x.1 x.2.1 x.2.2 w k) (fun x w k => e_pelotonref05_Task_Closed pelotonref05_is pelotonref05_Task_With pelotonref05_Task_On x w k)
def pelotonref08_Book_step_b (pelotonref05_Task_Plain : Array Value → Array Value → World → ((Array Value × Bool) → World → Prop) → Prop) (pelotonref05_Task_Child : Array Value → Int → Int → World → ((Array Value) → World → Prop) → Prop) (pelotonref05_Task_Forked : Array Value → Array Value → Int → World → ((Array Value) → World → Prop) → Prop) (pelotonref07_Came : Array Value → World → ((Bool) → World → Prop) → Prop) (pelotonref05_Task_Joined : Array Value → Array Value → Int → Int → World → ((Array Value × Int × Bool) → World → Prop) → Prop) (pelotonref08_Book_scope : Option Addr → Int → World → ((Int) → World → Prop) → Prop) (pelotonref05_Task_On : Array Value → World → ((Array Value) → World → Prop) → Prop) (pelotonref05_Task_Closed : Array Value → Array Value → Bool → World → ((Array Value) → World → Prop) → Prop) (b_0 : Option Addr) (x_1 : Option Addr) (row_2 : Int) (w : World) (k : (Bool) → World → Prop) : Prop :=
 drew w fun w1 =>
 nn b_0 fun a2 =>
 ldS w1 (Addr.add (Addr.add a2 0) 0) fun s3 =>
 nn x_1 fun a4 =>
 ldI .i64 w1 (Addr.add (Addr.add a4 0) 0) fun i5 =>
 ixS s3 i5 2 fun a6 =>
 ldS w1 (Addr.add a6 1) fun s7 =>
 nn x_1 fun a8 =>
 ldI .i64 w1 (Addr.add (Addr.add a8 0) 1) fun i9 =>
 ixS s7 i9 5 fun a10 =>
 ldA 5 w1 a10 fun cs11 =>
 newC w1 #[(.int .i64 (0 : Int)), (.int .i64 (0 : Int)), (.int .i64 (0 : Int)), (.int .i64 (0 : Int)), (.int .i64 (0 : Int))] 42 fun a12 w13 =>
 samec 5 a10 w1 w13 (
 samec 1 (Addr.add (Addr.add a8 0) 1) w1 w13 (
 samec 1 (Addr.add a6 1) w1 w13 (
 samec 1 (Addr.add (Addr.add a4 0) 0) w1 w13 (
 samec 1 (Addr.add (Addr.add a2 0) 0) w1 w13 (
 stA 5 w13 a12 cs11 fun w14 =>
 joinP (S := (Addr × Bool)) (fun J15 =>
 drew w14 fun w16 =>
 nn x_1 fun a17 =>
 ldA 19 w16 (Addr.add a17 0) fun cs18 =>
 ldA 5 w16 a12 fun cs19 =>
 both (
 pelotonref05_Task_Plain cs18 cs19 w16 fun x20 w21 =>
 newC w21 ltFu0 57 fun a22 w23 =>
 samec 5 a12 w16 w23 (
 samec 19 (Addr.add a17 0) w16 w23 (
 stA 19 w23 a22 (x20.1, x20.2).1 fun w24 =>
 (J15 (a22, (x20.1, x20.2).2) w24)))) (
 newC w16 ltFu0 57 fun a25 w26 =>
 samec 5 a12 w16 w26 (
 samec 19 (Addr.add a17 0) w16 w26 (
 pelotonref05_Task_Plain cs18 cs19 w26 fun x27 w28 =>
 stA 19 w28 a25 (x27.1, x27.2).1 fun w29 =>
 (J15 (a25, (x27.1, x27.2).2) w29))))) fun x30 w31 =>
 iteB x30.2 (
 ldA 19 w31 x30.1 fun cs32 =>
 nn x_1 fun a33 =>
 stA 19 w31 (Addr.add a33 0) cs32 fun w34 =>
 (k true w34)) (
 nn x_1 fun a35 =>
 ldS w31 (Addr.add a35 22) fun s36 =>
 ldI .i64 w31 (Addr.add a12 0) fun i37 =>
 iteB (i37 == (8 : Int)) (
 drew w31 fun w38 =>
 nn x_1 fun a39 =>
 ldI .i64 w38 (Addr.add a39 20) fun i40 =>
 nn x_1 fun a41 =>
 ldS w38 (Addr.add a41 19) fun s42 =>
 iteB (decide (i40 ≥ ((s42.n : Nat) : Int))) (
 (k false w38)) (
 drew w38 fun w43 =>
 nn x_1 fun a44 =>
 ldS w43 (Addr.add a44 19) fun s45 =>
 nn x_1 fun a46 =>
 ldI .i64 w43 (Addr.add a46 20) fun i47 =>
 ixS s45 i47 1 fun a48 =>
 ldI .i64 w43 a48 fun i49 =>
 nn x_1 fun a50 =>
 ldI .i64 w43 (Addr.add a50 20) fun i51 =>
 nn x_1 fun a52 =>
 stC w43 (Addr.add a52 20) (.int .i64 (IntKind.wrap .i64 (i51 + (1 : Int)))) fun w53 =>
 drew w53 fun w54 =>
 nn b_0 fun a55 =>
 ldS w54 (Addr.add a55 2) fun s56 =>
 nn x_1 fun a57 =>
 ldA 19 w54 (Addr.add a57 0) fun cs58 =>
 ldI .i64 w54 (Addr.add a12 4) fun i59 =>
 nn b_0 fun a60 =>
 ldS w54 (Addr.add (Addr.add a60 0) 0) fun s61 =>
 ldI .i64 w54 (Addr.add a12 4) fun i62 =>
 ixS s61 i62 2 fun a63 =>
 ldI .i64 w54 (Addr.add a63 0) fun i64 =>
 nn x_1 fun a65 =>
 ldS w54 (Addr.add a65 23) fun s66 =>
 ixS s66 (IntKind.wrap .i64 (((s36.n : Nat) : Int) - (1 : Int))) 1 fun a67 =>
 ldI .i64 w54 a67 fun i68 =>
 nn x_1 fun a69 =>
 ldS w54 (Addr.add a69 22) fun s70 =>
 ixS s70 (IntKind.wrap .i64 (((s36.n : Nat) : Int) - (1 : Int))) 1 fun a71 =>
 ldI .i64 w54 a71 fun i72 =>
 pelotonref05_Task_Child cs58 i59 i64 w54 fun cs73 w74 =>
 samec 1 a71 w54 w74 (
 samec 1 (Addr.add a69 22) w54 w74 (
 samec 1 a67 w54 w74 (
 samec 1 (Addr.add a65 23) w54 w74 (
 samec 1 (Addr.add a55 2) w54 w74 (
 spl #[(.int .i64 (0 : Int)), (.int .i64 (0 : Int)), (.int .i64 (0 : Int)), (.int .i64 (0 : Int)), (.int .i64 (0 : Int)), (.int .i64 (0 : Int)), (.int .i64 (0 : Int)), (.int .i64 (0 : Int)), (.int .i64 (0 : Int)), (.int .i64 (0 : Int)), (.int .i64 (0 : Int)), (.int .i64 (0 : Int)), (.int .i64 (0 : Int)), (.int .i64 (0 : Int)), (.int .i64 (0 : Int)), (.int .i64 (0 : Int)), (.int .i64 (0 : Int)), (.int .i64 (0 : Int)), (.int .i64 (0 : Int)), (.int .i64 (0 : Int)), (.int .i64 (0 : Int))] 0 19 cs73 fun cs75 =>
 samec 1 (Addr.add a55 2) w54 w74 (
 ixS s56 i49 21 fun a76 =>
 stA 21 w74 a76 (Array.setIfInBounds (Array.setIfInBounds cs75 19 (.int .i64 i68)) 20 (.int .i64 i72)) fun w77 =>
 drew w77 fun w78 =>
 nn x_1 fun a79 =>
 ldA 19 w78 (Addr.add a79 0) fun cs80 =>
 ldA 5 w78 a12 fun cs81 =>
 pelotonref05_Task_Forked cs80 cs81 i49 w78 fun cs82 w83 =>
 nn x_1 fun a84 =>
 stA 19 w83 (Addr.add a84 0) cs82 fun w85 =>
 (k true w85))))))))) (
 joinP (S := Bool) (fun J86 =>
 iteB (i37 == (9 : Int)) (
 (J86 (i37 == (9 : Int)) w31)) (
 (J86 (i37 == (10 : Int)) w31))) fun b87 w88 =>
 iteB b87 (
 ldI .i64 w88 (Addr.add a12 2) fun i89 =>
 ldI .i64 w88 (Addr.add a12 0) fun i90 =>
 joinP (S := Int) (fun J91 =>
 iteB (i90 == (10 : Int)) (
 ldI .i64 w88 (Addr.add a12 3) fun i92 =>
 (J91 i92 w88)) (
 (J91 i89 w88))) fun i93 w94 =>
 drew w94 fun w95 =>
 nn b_0 fun a96 =>
 ldS w95 (Addr.add a96 1) fun s97 =>
 nn x_1 fun a98 =>
 ixP (Addr.add (Addr.add a98 0) 10) 8 i93 1 fun a99 =>
 ldI .i64 w95 a99 fun i100 =>
 ixS s97 i100 7 fun a101 =>
 ldA 7 w95 a101 fun cs102 =>
 newC w95 #[(.int .i64 (0 : Int)), (.int .i64 (0 : Int)), (.int .i64 (0 : Int)), (.int .i64 (0 : Int)), (.int .i64 (0 : Int)), (.int .i64 (0 : Int)), (.string (ByteArray.mk #[]))] 40 fun a103 w104 =>
 samec 7 a101 w95 w104 (
 samec 1 a99 w95 w104 (
 samec 1 (Addr.add a96 1) w95 w104 (
 stA 7 w104 a103 cs102 fun w105 =>
 ldA 7 w105 a103 fun cs106 =>
 pelotonref07_Came cs106 w105 fun b107 w108 =>
 iteB (!b107) (
 (k false w108)) (
 joinP (S := (Addr × (Int × Bool))) (fun J109 =>
 drew w108 fun w110 =>
 nn x_1 fun a111 =>
 ldA 19 w110 (Addr.add a111 0) fun cs112 =>
 ldA 5 w110 a12 fun cs113 =>
 ldI .i64 w110 (Addr.add a103 3) fun i114 =>
 ldI .i64 w110 (Addr.add a103 4) fun i115 =>
 both (
 pelotonref05_Task_Joined cs112 cs113 i114 i115 w110 fun x116 w117 =>
 newC w117 ltFu0 57 fun a118 w119 =>
 samec 1 (Addr.add a103 4) w110 w119 (
 samec 1 (Addr.add a103 3) w110 w119 (
 samec 5 a12 w110 w119 (
 samec 19 (Addr.add a111 0) w110 w119 (
 stA 19 w119 a118 (x116.1, (x116.2.1, x116.2.2)).1 fun w120 =>
 (J109 (a118, ((x116.1, (x116.2.1, x116.2.2)).2.1, (x116.1, (x116.2.1, x116.2.2)).2.2)) w120)))))) (
 newC w110 ltFu0 57 fun a121 w122 =>
 samec 1 (Addr.add a103 4) w110 w122 (
 samec 1 (Addr.add a103 3) w110 w122 (
 samec 5 a12 w110 w122 (
 samec 19 (Addr.add a111 0) w110 w122 (
 pelotonref05_Task_Joined cs112 cs113 i114 i115 w122 fun x123 w124 =>
 stA 19 w124 a121 (x123.1, (x123.2.1, x123.2.2)).1 fun w125 =>
 (J109 (a121, ((x123.1, (x123.2.1, x123.2.2)).2.1, (x123.1, (x123.2.1, x123.2.2)).2.2)) w125))))))) fun x126 w127 =>
 ldA 19 w127 x126.1 fun cs128 =>
 nn x_1 fun a129 =>
 stA 19 w127 (Addr.add a129 0) cs128 fun w130 =>
 iteB x126.2.2 (
 nn x_1 fun a131 =>
 stC w130 (Addr.add a131 25) (.int .i64 (3 : Int)) fun w132 =>
 nn x_1 fun a133 =>
 stC w132 (Addr.add a133 26) (.int .i64 x126.2.1) fun w134 =>
 (k true w134)) (
 (k true w130))))))) (
 iteB (i37 == (11 : Int)) (
 nn x_1 fun a135 =>
 ldI .i64 w88 (Addr.add a135 24) fun i136 =>
 nn x_1 fun a137 =>
 stC w88 (Addr.add a137 24) (.int .i64 (IntKind.wrap .i64 (i136 + (1 : Int)))) fun w138 =>
 drew w138 fun w139 =>
 nn x_1 fun a140 =>
 ldS w139 (Addr.add a140 23) fun s141 =>
 nn x_1 fun a142 =>
 ldI .i64 w139 (Addr.add a142 24) fun i143 =>
 newC w139 #[(.int .i64 i143)] 3 fun a144 w145 =>
 samec 1 (Addr.add a140 23) w139 w145 (
 bApp Go.Proofs.Tryz.prog #[96, 96] 96 [(.slice s141.a s141.n s141.c), (.slice (some a144) 1 1)] w145 fun s146 w147 =>
 nn x_1 fun a148 =>
 stC w147 (Addr.add a148 23) (.slice s146.a s146.n s146.c) fun w149 =>
 drew w149 fun w150 =>
 nn x_1 fun a151 =>
 ldS w150 (Addr.add a151 22) fun s152 =>
 nn x_1 fun a153 =>
 ldS w150 (Addr.add a153 22) fun s154 =>
 ixS s154 (IntKind.wrap .i64 (((s36.n : Nat) : Int) - (1 : Int))) 1 fun a155 =>
 ldI .i64 w150 a155 fun i156 =>
 pelotonref08_Book_scope b_0 i156 w150 fun i157 w158 =>
 samec 1 (Addr.add a151 22) w150 w158 (
 newC w158 #[(.int .i64 i157)] 3 fun a159 w160 =>
 samec 1 (Addr.add a151 22) w150 w160 (
 bApp Go.Proofs.Tryz.prog #[96, 96] 96 [(.slice s152.a s152.n s152.c), (.slice (some a159) 1 1)] w160 fun s161 w162 =>
 nn x_1 fun a163 =>
 stC w162 (Addr.add a163 22) (.slice s161.a s161.n s161.c) fun w164 =>
 nn x_1 fun a165 =>
 ldA 19 w164 (Addr.add a165 0) fun cs166 =>
 pelotonref05_Task_On cs166 w164 fun cs167 w168 =>
 nn x_1 fun a169 =>
 stA 19 w168 (Addr.add a169 0) cs167 fun w170 =>
 (k true w170))))) (
 iteB (i37 == (12 : Int)) (
 nn b_0 fun a171 =>
 ldS w88 (Addr.add a171 1) fun s172 =>
 ixS s172 row_2 7 fun a173 =>
 ldStr w88 (Addr.add a173 6) fun t174 =>
 drew w88 fun w175 =>
 nn b_0 fun a176 =>
 ldS w175 (Addr.add a176 3) fun s177 =>
 nn x_1 fun a178 =>
 ldS w175 (Addr.add a178 22) fun s179 =>
 ixS s179 (IntKind.wrap .i64 (((s36.n : Nat) : Int) - (1 : Int))) 1 fun a180 =>
 ldI .i64 w175 a180 fun i181 =>
 ixS s177 i181 2 fun a182 =>
 ldB w175 (Addr.add a182 1) fun b183 =>
 joinP (S := Bool) (fun J184 =>
 nn x_1 fun a185 =>
 ldI .i64 w175 (Addr.add a185 21) fun i186 =>
 iteB (decide (i186 ≥ (((ByteArray.size t174) : Nat) : Int))) (
 (J184 true w175)) (
 nn x_1 fun a187 =>
 ldI .i64 w175 (Addr.add a187 21) fun i188 =>
 ixStr t174 i188 fun i189 =>
 iteB ((i189 == (48 : Int)) && b183) (
 (J184 true w175)) (
 nn b_0 fun a190 =>
 ldB w175 (Addr.add a190 4) fun b191 =>
 iteB b191 (
 nn x_1 fun a192 =>
 ldI .i64 w175 (Addr.add a192 21) fun i193 =>
 ixStr t174 i193 fun i194 =>
 (J184 ((i194 == (49 : Int)) && (!b183)) w175)) (
 (J184 (false && (!b183)) w175))))) fun b195 w196 =>
 iteB b195 (
 (k false w196)) (
 drew w196 fun w197 =>
 nn x_1 fun a198 =>
 ldA 19 w197 (Addr.add a198 0) fun cs199 =>
 ldA 5 w197 a12 fun cs200 =>
 nn x_1 fun a201 =>
 ldI .i64 w197 (Addr.add a201 21) fun i202 =>
 ixStr t174 i202 fun i203 =>
 pelotonref05_Task_Closed cs199 cs200 (i203 == (49 : Int)) w197 fun cs204 w205 =>
 nn x_1 fun a206 =>
 stA 19 w205 (Addr.add a206 0) cs204 fun w207 =>
 nn x_1 fun a208 =>
 ldI .i64 w207 (Addr.add a208 21) fun i209 =>
 nn x_1 fun a210 =>
 stC w207 (Addr.add a210 21) (.int .i64 (IntKind.wrap .i64 (i209 + (1 : Int)))) fun w211 =>
 nn x_1 fun a212 =>
 ldS w211 (Addr.add a212 22) fun s213 =>
 slS s213 1 (0 : Int) (IntKind.wrap .i64 (((s36.n : Nat) : Int) - (1 : Int))) fun s214 =>
 nn x_1 fun a215 =>
 stC w211 (Addr.add a215 22) (.slice s214.a s214.n s214.c) fun w216 =>
 nn x_1 fun a217 =>
 ldS w216 (Addr.add a217 23) fun s218 =>
 slS s218 1 (0 : Int) (IntKind.wrap .i64 (((s36.n : Nat) : Int) - (1 : Int))) fun s219 =>
 nn x_1 fun a220 =>
 stC w216 (Addr.add a220 23) (.slice s219.a s219.n s219.c) fun w221 =>
 (k true w221))) (
 iteB (i37 == (13 : Int)) (
 drew w88 fun w222 =>
 nn b_0 fun a223 =>
 ldS w222 (Addr.add a223 3) fun s224 =>
 nn x_1 fun a225 =>
 ldS w222 (Addr.add a225 22) fun s226 =>
 ixS s226 (IntKind.wrap .i64 (((s36.n : Nat) : Int) - (1 : Int))) 1 fun a227 =>
 ldI .i64 w222 a227 fun i228 =>
 ixS s224 i228 2 fun a229 =>
 stC w222 (Addr.add a229 1) (.bool true) fun w230 =>
 nn x_1 fun a231 =>
 ldA 19 w230 (Addr.add a231 0) fun cs232 =>
 pelotonref05_Task_On cs232 w230 fun cs233 w234 =>
 nn x_1 fun a235 =>
 stA 19 w234 (Addr.add a235 0) cs233 fun w236 =>
 (k true w236)) (
 iteB (i37 == (14 : Int)) (
 nn x_1 fun a237 =>
 ldA 19 w88 (Addr.add a237 0) fun cs238 =>
 pelotonref05_Task_On cs238 w88 fun cs239 w240 =>
 nn x_1 fun a241 =>
 stA 19 w240 (Addr.add a241 0) cs239 fun w242 =>
 (k true w242)) (
 nn x_1 fun a243 =>
 ldA 19 w88 (Addr.add a243 0) fun cs244 =>
 pelotonref05_Task_On cs244 w88 fun cs245 w246 =>
 nn x_1 fun a247 =>
 stA 19 w246 (Addr.add a247 0) cs245 fun w248 =>
 drew w248 fun w249 =>
 ldI .i64 w249 (Addr.add a12 1) fun i250 =>
 nn x_1 fun a251 =>
 ixP (Addr.add (Addr.add a251 0) 2) 8 i250 1 fun a252 =>
 ldI .i64 w249 a252 fun i253 =>
 nn x_1 fun a254 =>
 stC w249 (Addr.add a254 26) (.int .i64 i253) fun w255 =>
 nn x_1 fun a256 =>
 stC w255 (Addr.add a256 25) (.int .i64 (2 : Int)) fun w257 =>
 ldI .i64 w257 (Addr.add a12 0) fun i258 =>
 iteB (i258 == (15 : Int)) (
 nn x_1 fun a259 =>
 stC w257 (Addr.add a259 25) (.int .i64 (3 : Int)) fun w260 =>
 (k true w260)) (
 (k true w257))))))))))))))
theorem e_pelotonref08_Book_step (pelotonref05_Task_Plain : Array Value → Array Value → World → ((Array Value × Bool) → World → Prop) → Prop) (pelotonref05_Task_Child : Array Value → Int → Int → World → ((Array Value) → World → Prop) → Prop) (pelotonref05_Task_Forked : Array Value → Array Value → Int → World → ((Array Value) → World → Prop) → Prop) (pelotonref07_Came : Array Value → World → ((Bool) → World → Prop) → Prop) (pelotonref05_Task_Joined : Array Value → Array Value → Int → Int → World → ((Array Value × Int × Bool) → World → Prop) → Prop) (pelotonref08_Book_scope : Option Addr → Int → World → ((Int) → World → Prop) → Prop) (pelotonref05_Task_On : Array Value → World → ((Array Value) → World → Prop) → Prop) (pelotonref05_Task_Closed : Array Value → Array Value → Bool → World → ((Array Value) → World → Prop) → Prop) (x : KT [.p, .p, (.i .i64)]) (w : World) (k : KT [.b] → World → Prop) : evFn Go.Proofs.Tryz.prog (orcOf [(n_pelotonref05_Task_Plain, (fun args w c => unL [.ag, .ag] args fun x => pelotonref05_Task_Plain x.1 x.2 w fun r w => c (packV (valL [.ag, .b] r)) w)), (n_pelotonref05_Task_Child, (fun args w c => unL [.ag, (.i .i64), (.i .i64)] args fun x => pelotonref05_Task_Child x.1 x.2.1 x.2.2 w fun r w => c (packV (valL [.ag] r)) w)), (n_pelotonref05_Task_Forked, (fun args w c => unL [.ag, .ag, (.i .i64)] args fun x => pelotonref05_Task_Forked x.1 x.2.1 x.2.2 w fun r w => c (packV (valL [.ag] r)) w)), (n_pelotonref07_Came, (fun args w c => unL [.ag] args fun x => pelotonref07_Came x w fun r w => c (packV (valL [.b] r)) w)), (n_pelotonref05_Task_Joined, (fun args w c => unL [.ag, .ag, (.i .i64), (.i .i64)] args fun x => pelotonref05_Task_Joined x.1 x.2.1 x.2.2.1 x.2.2.2 w fun r w => c (packV (valL [.ag, (.i .i64), .b] r)) w)), (n_pelotonref08_Book_scope, (fun args w c => unL [.p, (.i .i64)] args fun x => pelotonref08_Book_scope x.1 x.2 w fun r w => c (packV (valL [(.i .i64)] r)) w)), (n_pelotonref05_Task_On, (fun args w c => unL [.ag] args fun x => pelotonref05_Task_On x w fun r w => c (packV (valL [.ag] r)) w)), (n_pelotonref05_Task_Closed, (fun args w c => unL [.ag, .ag, .b] args fun x => pelotonref05_Task_Closed x.1 x.2.1 x.2.2 w fun r w => c (packV (valL [.ag] r)) w))]) 10086914788730789058819453285648707180906105147357334265732094151243316854874542334926917551824239160346104148760461255 [(2, [(8, .a), (9, .b)]), (20, [(166, .b)]), (25, [(12, (.i .i64))]), (31, [(14, .a), (15, (.i .i64)), (16, .b)]), (47, [(327, .b)])] Go.Proofs.Tryz.f42 [.b] (valL [.p, .p, (.i .i64)] x) w k = pelotonref08_Book_step_b pelotonref05_Task_Plain pelotonref05_Task_Child pelotonref05_Task_Forked pelotonref07_Came pelotonref05_Task_Joined pelotonref08_Book_scope pelotonref05_Task_On pelotonref05_Task_Closed x.1 x.2.1 x.2.2 w k := by kernel_rfl
def pelotonref08_Book_step (b_0 : Option Addr) (x_1 : Option Addr) (row_2 : Int) (w : World) (k : (Bool) → World → Prop) : Prop := pelotonref08_Book_step_b pelotonref05_Task_Plain pelotonref05_Task_Child pelotonref05_Task_Forked pelotonref07_Came pelotonref05_Task_Joined pelotonref08_Book_scope pelotonref05_Task_On pelotonref05_Task_Closed b_0 x_1 row_2 w k
def d_pelotonref08_Book_step : Dec := fun args w c => unL [.p, .p, (.i .i64)] args fun x => pelotonref08_Book_step x.1 x.2.1 x.2.2 w fun r w => c (packV (valL [.b] r)) w
theorem s_pelotonref08_Book_step : Sound Go.Proofs.Tryz.prog n_pelotonref08_Book_step d_pelotonref08_Book_step :=
 sound_of (mask := 10086914788730789058819453285648707180906105147357334265732094151243316854874542334926917551824239160346104148760461255) (h := [(2, [(8, .a), (9, .b)]), (20, [(166, .b)]), (25, [(12, (.i .i64))]), (31, [(14, .a), (15, (.i .i64)), (16, .b)]), (47, [(327, .b)])]) (ds := [(n_pelotonref05_Task_Plain, d_pelotonref05_Task_Plain), (n_pelotonref05_Task_Child, d_pelotonref05_Task_Child), (n_pelotonref05_Task_Forked, d_pelotonref05_Task_Forked), (n_pelotonref07_Came, d_pelotonref07_Came), (n_pelotonref05_Task_Joined, d_pelotonref05_Task_Joined), (n_pelotonref08_Book_scope, d_pelotonref08_Book_scope), (n_pelotonref05_Task_On, d_pelotonref05_Task_On), (n_pelotonref05_Task_Closed, d_pelotonref05_Task_Closed)]) mixed Go.Proofs.Tryz.func42 ⟨s_pelotonref05_Task_Plain, s_pelotonref05_Task_Child, s_pelotonref05_Task_Forked, s_pelotonref07_Came, s_pelotonref05_Task_Joined, s_pelotonref08_Book_scope, s_pelotonref05_Task_On, s_pelotonref05_Task_Closed, trivial⟩
 [.p, .p, (.i .i64)] [.b] (by kernel_rfl) (fun x w k => pelotonref08_Book_step x.1 x.2.1 x.2.2 w k) (fun x w k => e_pelotonref08_Book_step pelotonref05_Task_Plain pelotonref05_Task_Child pelotonref05_Task_Forked pelotonref07_Came pelotonref05_Task_Joined pelotonref08_Book_scope pelotonref05_Task_On pelotonref05_Task_Closed x w k)
def pelotonref08_Book_asked (b_0 : Option Addr) (s_1 : Int) (w : World) (k : (Bool) → World → Prop) : Prop :=
 loopP (S := Int) (fun C1 i2 w3 =>
 iteB (decide (i2 ≥ (0 : Int))) (
 nn b_0 fun a4 =>
 ldS w3 (Addr.add a4 3) fun s5 =>
 ixS s5 i2 2 fun a6 =>
 ldB w3 (Addr.add a6 1) fun b7 =>
 iteB b7 (
 (k true w3)) (
 nn b_0 fun a8 =>
 ldS w3 (Addr.add a8 3) fun s9 =>
 ixS s9 i2 2 fun a10 =>
 ldI .i64 w3 (Addr.add a10 0) fun i11 =>
 (C1 i11 w3))) (
 (k false w3))) s_1 w
def d_pelotonref08_Book_asked : Dec := fun args w c => unL [.p, (.i .i64)] args fun x => pelotonref08_Book_asked x.1 x.2 w fun r w => c (packV (valL [.b] r)) w
theorem s_pelotonref08_Book_asked : Sound Go.Proofs.Tryz.prog n_pelotonref08_Book_asked d_pelotonref08_Book_asked :=
 sound_of (mask := 16467) (h := [(2, [(1, (.i .i64))])]) (ds := []) mixed Go.Proofs.Tryz.func43 trivial
 [.p, (.i .i64)] [.b] (by kernel_rfl) (fun x w k => pelotonref08_Book_asked x.1 x.2 w k) (fun x w k => by kernel_rfl)
def pelotonref02_Point (op_0 : Int) (w : World) (k : (Bool) → World → Prop) : Prop :=
 (k ((((((((op_0 == (6 : Int)) || (op_0 == (7 : Int))) || (op_0 == (8 : Int))) || (op_0 == (9 : Int))) || (op_0 == (10 : Int))) || (op_0 == (11 : Int))) || (op_0 == (12 : Int))) || (op_0 == (14 : Int))) w)
def d_pelotonref02_Point : Dec := fun args w c => unL [(.i .i64)] args fun x => pelotonref02_Point x w fun r w => c (packV (valL [.b] r)) w
theorem s_pelotonref02_Point : Sound Go.Proofs.Tryz.prog n_pelotonref02_Point d_pelotonref02_Point :=
 sound_of (mask := 5) (h := []) (ds := []) mixed Go.Proofs.Tryz.func44 trivial
 [(.i .i64)] [.b] (by kernel_rfl) (fun x w k => pelotonref02_Point x w k) (fun x w k => by kernel_rfl)
def pelotonref08_Book_fits_b (pelotonref07_Kids : Sl → Int → World → ((Sl) → World → Prop) → Prop) (pelotonref08_Book_scope : Option Addr → Int → World → ((Int) → World → Prop) → Prop) (pelotonref08_Book_step : Option Addr → Option Addr → Int → World → ((Bool) → World → Prop) → Prop) (pelotonref08_Book_asked : Option Addr → Int → World → ((Bool) → World → Prop) → Prop) (pelotonref02_Point : Int → World → ((Bool) → World → Prop) → Prop) (b_0 : Option Addr) (row_1 : Int) (w : World) (k : (Bool) → World → Prop) : Prop :=
 nn b_0 fun a1 =>
 ldS w (Addr.add a1 1) fun s2 =>
 ixS s2 row_1 7 fun a3 =>
 ldA 7 w a3 fun cs4 =>
 newC w #[(.int .i64 (0 : Int)), (.int .i64 (0 : Int)), (.int .i64 (0 : Int)), (.int .i64 (0 : Int)), (.int .i64 (0 : Int)), (.int .i64 (0 : Int)), (.string (ByteArray.mk #[]))] 40 fun a5 w6 =>
 stA 7 w6 a5 cs4 fun w7 =>
 nn b_0 fun a8 =>
 ldS w7 (Addr.add a8 2) fun s9 =>
 ixS s9 row_1 21 fun a10 =>
 ldA 21 w7 a10 fun cs11 =>
 newC w7 #[(.int .i64 (0 : Int)), (.int .i64 (0 : Int)), (.int .i64 (0 : Int)), (.int .i64 (0 : Int)), (.int .i64 (0 : Int)), (.int .i64 (0 : Int)), (.int .i64 (0 : Int)), (.int .i64 (0 : Int)), (.int .i64 (0 : Int)), (.int .i64 (0 : Int)), (.int .i64 (0 : Int)), (.int .i64 (0 : Int)), (.int .i64 (0 : Int)), (.int .i64 (0 : Int)), (.int .i64 (0 : Int)), (.int .i64 (0 : Int)), (.int .i64 (0 : Int)), (.int .i64 (0 : Int)), (.int .i64 (0 : Int)), (.int .i64 (0 : Int)), (.int .i64 (0 : Int))] 60 fun a12 w13 =>
 stA 21 w13 a12 cs11 fun w14 =>
 joinP (S := Bool) (fun J15 =>
 ldI .i64 w14 (Addr.add a5 2) fun i16 =>
 ldI .i64 w14 (Addr.add (Addr.add a12 0) 0) fun i17 =>
 iteB (i16 != i17) (
 (J15 true w14)) (
 ldI .i64 w14 (Addr.add a5 1) fun i18 =>
 ldI .i64 w14 (Addr.add a12 19) fun i19 =>
 (J15 (i18 != i19) w14))) fun b20 w21 =>
 iteB b20 (
 (k false w21)) (
 ldI .i64 w21 (Addr.add a5 3) fun i22 =>
 iteB (i22 == (0 : Int)) (
 (k true w21)) (
 joinP (S := (Option Addr)) (fun J23 =>
 drew w21 fun w24 =>
 ldA 19 w24 (Addr.add a12 0) fun cs25 =>
 nn b_0 fun a26 =>
 ldS w24 (Addr.add a26 1) fun s27 =>
 ldI .i64 w24 (Addr.add a12 20) fun i28 =>
 both (
 pelotonref07_Kids s27 row_1 w24 fun s29 w30 =>
 samec 1 (Addr.add a12 20) w24 w30 (
 samec 19 (Addr.add a12 0) w24 w30 (
 both (
 pelotonref08_Book_scope b_0 i28 w30 fun i31 w32 =>
 samec 19 (Addr.add a12 0) w24 w32 (
 both (
 newC w32 #[(.int .i64 i31)] 3 fun a33 w34 =>
 samec 19 (Addr.add a12 0) w24 w34 (
 newC w34 #[(.int .i64 (0 : Int))] 3 fun a35 w36 =>
 samec 1 (Addr.add a12 20) w24 w36 (
 samec 1 (Addr.add a26 1) w24 w36 (
 samec 19 (Addr.add a12 0) w24 w36 (
 spl ltFu1 0 19 cs25 fun cs37 =>
 newC w36 (Array.setIfInBounds (Array.setIfInBounds (Array.setIfInBounds cs37 19 (.slice s29.a s29.n s29.c)) 22 (.slice (some a33) 1 1)) 23 (.slice (some a35) 1 1)) 100 fun a38 w39 =>
 (J23 (some a38) w39)))))) (
 newC w32 #[(.int .i64 (0 : Int))] 3 fun a40 w41 =>
 samec 1 (Addr.add a12 20) w24 w41 (
 samec 1 (Addr.add a26 1) w24 w41 (
 samec 19 (Addr.add a12 0) w24 w41 (
 newC w41 #[(.int .i64 i31)] 3 fun a42 w43 =>
 samec 19 (Addr.add a12 0) w24 w43 (
 spl ltFu1 0 19 cs25 fun cs44 =>
 newC w43 (Array.setIfInBounds (Array.setIfInBounds (Array.setIfInBounds cs44 19 (.slice s29.a s29.n s29.c)) 22 (.slice (some a42) 1 1)) 23 (.slice (some a40) 1 1)) 100 fun a45 w46 =>
 (J23 (some a45) w46)))))))) (
 newC w30 #[(.int .i64 (0 : Int))] 3 fun a47 w48 =>
 samec 1 (Addr.add a12 20) w24 w48 (
 samec 1 (Addr.add a26 1) w24 w48 (
 samec 19 (Addr.add a12 0) w24 w48 (
 pelotonref08_Book_scope b_0 i28 w48 fun i49 w50 =>
 samec 19 (Addr.add a12 0) w24 w50 (
 newC w50 #[(.int .i64 i49)] 3 fun a51 w52 =>
 samec 19 (Addr.add a12 0) w24 w52 (
 spl ltFu1 0 19 cs25 fun cs53 =>
 newC w52 (Array.setIfInBounds (Array.setIfInBounds (Array.setIfInBounds cs53 19 (.slice s29.a s29.n s29.c)) 22 (.slice (some a51) 1 1)) 23 (.slice (some a47) 1 1)) 100 fun a54 w55 =>
 (J23 (some a54) w55)))))))))) (
 newC w24 #[(.int .i64 (0 : Int))] 3 fun a56 w57 =>
 samec 1 (Addr.add a12 20) w24 w57 (
 samec 1 (Addr.add a26 1) w24 w57 (
 samec 19 (Addr.add a12 0) w24 w57 (
 pelotonref07_Kids s27 row_1 w57 fun s58 w59 =>
 samec 1 (Addr.add a12 20) w24 w59 (
 samec 19 (Addr.add a12 0) w24 w59 (
 pelotonref08_Book_scope b_0 i28 w59 fun i60 w61 =>
 samec 19 (Addr.add a12 0) w24 w61 (
 newC w61 #[(.int .i64 i60)] 3 fun a62 w63 =>
 samec 19 (Addr.add a12 0) w24 w63 (
 spl ltFu1 0 19 cs25 fun cs64 =>
 newC w63 (Array.setIfInBounds (Array.setIfInBounds (Array.setIfInBounds cs64 19 (.slice s58.a s58.n s58.c)) 22 (.slice (some a62) 1 1)) 23 (.slice (some a56) 1 1)) 100 fun a65 w66 =>
 (J23 (some a65) w66)))))))))) fun p67 w68 =>
 joinP (S := Unit) (fun J69 =>
 loopP (S := Int) (fun C70 i71 w72 =>
 ldI .i64 w72 (Addr.add a5 5) fun i73 =>
 iteB (decide (i71 < i73)) (
 joinP (S := Bool) (fun J74 =>
 nn p67 fun a75 =>
 ldI .i64 w72 (Addr.add a75 25) fun i76 =>
 iteB (i76 != (0 : Int)) (
 (J74 true w72)) (
 pelotonref08_Book_step b_0 p67 row_1 w72 fun b77 w78 =>
 (J74 (!b77) w78))) fun b79 w80 =>
 iteB b79 (
 (k false w80)) (
 (C70 (IntKind.wrap .i64 (i71 + (1 : Int))) w80))) (
 (J69 () w72))) (0 : Int) w68) fun u81 w82 =>
 joinP (S := Bool) (fun J83 =>
 drew w82 fun w84 =>
 nn p67 fun a85 =>
 ldI .i64 w84 (Addr.add a85 20) fun i86 =>
 nn p67 fun a87 =>
 ldS w84 (Addr.add a87 19) fun s88 =>
 iteB (i86 != ((s88.n : Nat) : Int)) (
 (J83 true w84)) (
 nn p67 fun a89 =>
 ldI .i64 w84 (Addr.add a89 21) fun i90 =>
 ldStr w84 (Addr.add a5 6) fun t91 =>
 (J83 (i90 != (((ByteArray.size t91) : Nat) : Int)) w84))) fun b92 w93 =>
 iteB b92 (
 (k false w93)) (
 ldI .i64 w93 (Addr.add a5 3) fun i94 =>
 joinP (S := Bool) (fun J95 =>
 iteB (i94 == (2 : Int)) (
 (J95 (i94 == (2 : Int)) w93)) (
 (J95 (i94 == (3 : Int)) w93))) fun b96 w97 =>
 iteB b96 (
 drew w97 fun w98 =>
 nn p67 fun a99 =>
 ldI .i64 w98 (Addr.add a99 25) fun i100 =>
 ldI .i64 w98 (Addr.add a5 3) fun i101 =>
 iteB (i100 == i101) (
 nn p67 fun a102 =>
 ldI .i64 w98 (Addr.add a102 26) fun i103 =>
 ldI .i64 w98 (Addr.add a5 4) fun i104 =>
 (k (i103 == i104) w98)) (
 (k false w98))) (
 iteB (i94 == (4 : Int)) (
 joinP (S := Bool) (fun J105 =>
 nn p67 fun a106 =>
 ldI .i64 w97 (Addr.add a106 25) fun i107 =>
 iteB (i107 != (0 : Int)) (
 (J105 true w97)) (
 nn b_0 fun a108 =>
 ldB w97 (Addr.add a108 4) fun b109 =>
 iteB b109 (
 ldI .i64 w97 (Addr.add a12 20) fun i110 =>
 pelotonref08_Book_asked b_0 i110 w97 fun b111 w112 =>
 (J105 (!b111) w112)) (
 (J105 false w97)))) fun b113 w114 =>
 iteB b113 (
 (k false w114)) (
 drew w114 fun w115 =>
 ldI .i64 w115 (Addr.add a5 5) fun i116 =>
 iteB (i116 == (0 : Int)) (
 (k true w115)) (
 nn b_0 fun a117 =>
 ldS w115 (Addr.add (Addr.add a117 0) 0) fun s118 =>
 nn p67 fun a119 =>
 ldI .i64 w115 (Addr.add (Addr.add a119 0) 0) fun i120 =>
 ixS s118 i120 2 fun a121 =>
 ldS w115 (Addr.add a121 1) fun s122 =>
 nn p67 fun a123 =>
 ldI .i64 w115 (Addr.add (Addr.add a123 0) 1) fun i124 =>
 ixS s122 i124 5 fun a125 =>
 ldI .i64 w115 (Addr.add a125 0) fun i126 =>
 pelotonref02_Point i126 w115 fun b127 w128 =>
 (k b127 w128)))) (
 (k true w97))))))
theorem e_pelotonref08_Book_fits (pelotonref07_Kids : Sl → Int → World → ((Sl) → World → Prop) → Prop) (pelotonref08_Book_scope : Option Addr → Int → World → ((Int) → World → Prop) → Prop) (pelotonref08_Book_step : Option Addr → Option Addr → Int → World → ((Bool) → World → Prop) → Prop) (pelotonref08_Book_asked : Option Addr → Int → World → ((Bool) → World → Prop) → Prop) (pelotonref02_Point : Int → World → ((Bool) → World → Prop) → Prop) (x : KT [.p, (.i .i64)]) (w : World) (k : KT [.b] → World → Prop) : evFn Go.Proofs.Tryz.prog (orcOf [(n_pelotonref07_Kids, (fun args w c => unL [.s, (.i .i64)] args fun x => pelotonref07_Kids x.1 x.2 w fun r w => c (packV (valL [.s] r)) w)), (n_pelotonref08_Book_scope, (fun args w c => unL [.p, (.i .i64)] args fun x => pelotonref08_Book_scope x.1 x.2 w fun r w => c (packV (valL [(.i .i64)] r)) w)), (n_pelotonref08_Book_step, (fun args w c => unL [.p, .p, (.i .i64)] args fun x => pelotonref08_Book_step x.1 x.2.1 x.2.2 w fun r w => c (packV (valL [.b] r)) w)), (n_pelotonref08_Book_asked, (fun args w c => unL [.p, (.i .i64)] args fun x => pelotonref08_Book_asked x.1 x.2 w fun r w => c (packV (valL [.b] r)) w)), (n_pelotonref02_Point, (fun args w c => unL [(.i .i64)] args fun x => pelotonref02_Point x w fun r w => c (packV (valL [.b] r)) w))]) 10889056510721837856903996047651688677875 [(3, [(35, .b)]), (9, [(7, .p)]), (11, []), (12, [(8, (.i .i64))]), (16, [(72, .b)]), (20, [(92, .b)]), (26, [(95, .b)]), (32, [(133, .b)])] Go.Proofs.Tryz.f23 [.b] (valL [.p, (.i .i64)] x) w k = pelotonref08_Book_fits_b pelotonref07_Kids pelotonref08_Book_scope pelotonref08_Book_step pelotonref08_Book_asked pelotonref02_Point x.1 x.2 w k := by kernel_rfl
def pelotonref08_Book_fits (b_0 : Option Addr) (row_1 : Int) (w : World) (k : (Bool) → World → Prop) : Prop := pelotonref08_Book_fits_b pelotonref07_Kids pelotonref08_Book_scope pelotonref08_Book_step pelotonref08_Book_asked pelotonref02_Point b_0 row_1 w k
def d_pelotonref08_Book_fits : Dec := fun args w c => unL [.p, (.i .i64)] args fun x => pelotonref08_Book_fits x.1 x.2 w fun r w => c (packV (valL [.b] r)) w
theorem s_pelotonref08_Book_fits : Sound Go.Proofs.Tryz.prog n_pelotonref08_Book_fits d_pelotonref08_Book_fits :=
 sound_of (mask := 10889056510721837856903996047651688677875) (h := [(3, [(35, .b)]), (9, [(7, .p)]), (11, []), (12, [(8, (.i .i64))]), (16, [(72, .b)]), (20, [(92, .b)]), (26, [(95, .b)]), (32, [(133, .b)])]) (ds := [(n_pelotonref07_Kids, d_pelotonref07_Kids), (n_pelotonref08_Book_scope, d_pelotonref08_Book_scope), (n_pelotonref08_Book_step, d_pelotonref08_Book_step), (n_pelotonref08_Book_asked, d_pelotonref08_Book_asked), (n_pelotonref02_Point, d_pelotonref02_Point)]) mixed Go.Proofs.Tryz.func23 ⟨s_pelotonref07_Kids, s_pelotonref08_Book_scope, s_pelotonref08_Book_step, s_pelotonref08_Book_asked, s_pelotonref02_Point, trivial⟩
 [.p, (.i .i64)] [.b] (by kernel_rfl) (fun x w k => pelotonref08_Book_fits x.1 x.2 w k) (fun x w k => e_pelotonref08_Book_fits pelotonref07_Kids pelotonref08_Book_scope pelotonref08_Book_step pelotonref08_Book_asked pelotonref02_Point x w k)
def pelotonref08_Fits_b (pelotonref04_Accepts : Array Value → World → ((Bool) → World → Prop) → Prop) (pelotonref07_Check : Sl → World → ((Int) → World → Prop) → Prop) (pelotonref05_Root : World → ((Array Value) → World → Prop) → Prop) (pelotonref08_Book_fits : Option Addr → Int → World → ((Bool) → World → Prop) → Prop) (p_0 : Array Value) (l_1 : Sl) (quiet_2 : Bool) (w : World) (k : (Int × Int) → World → Prop) : Prop :=
 newC w p_0 24 fun a1 w2 =>
 ldA 1 w2 a1 fun cs3 =>
 pelotonref04_Accepts cs3 w2 fun b4 w5 =>
 iteB (!b4) (
 (k ((0 : Int), (24 : Int)) w5)) (
 pelotonref07_Check l_1 w5 fun i6 w7 =>
 iteB (i6 != (0 : Int)) (
 (k ((0 : Int), i6) w7)) (
 joinP (S := (Option Addr)) (fun J8 =>
 drew w7 fun w9 =>
 ldA 1 w9 a1 fun cs10 =>
 both (
 mkSl Go.Proofs.Tryz.prog 48 (.int .i64 ((l_1.n : Nat) : Int)) (.int .i64 ((l_1.n : Nat) : Int)) w9 fun s11 w12 =>
 samec 1 a1 w9 w12 (
 samec 1 a1 w9 w12 (
 spl #[(.int .i64 (0 : Int)), (.bool false)] 0 2 #[(.int .i64 (-(1 : Int))), (.bool false)] fun cs13 =>
 newC w12 cs13 50 fun a14 w15 =>
 samec 1 a1 w9 w15 (
 spl #[(.slice none 0 0), (.slice none 0 0), (.slice none 0 0), (.slice none 0 0), (.bool false)] 0 1 cs10 fun cs16 =>
 newC w15 (Array.setIfInBounds (Array.setIfInBounds (Array.setIfInBounds (Array.setIfInBounds cs16 1 (.slice l_1.a l_1.n l_1.c)) 2 (.slice s11.a s11.n s11.c)) 3 (.slice (some a14) 1 1)) 4 (.bool quiet_2)) 53 fun a17 w18 =>
 (J8 (some a17) w18))))) (
 samec 1 a1 w9 w9 (
 both (
 mkSl Go.Proofs.Tryz.prog 48 (.int .i64 ((l_1.n : Nat) : Int)) (.int .i64 ((l_1.n : Nat) : Int)) w9 fun s19 w20 =>
 samec 1 a1 w9 w20 (
 spl #[(.int .i64 (0 : Int)), (.bool false)] 0 2 #[(.int .i64 (-(1 : Int))), (.bool false)] fun cs21 =>
 newC w20 cs21 50 fun a22 w23 =>
 samec 1 a1 w9 w23 (
 spl #[(.slice none 0 0), (.slice none 0 0), (.slice none 0 0), (.slice none 0 0), (.bool false)] 0 1 cs10 fun cs24 =>
 newC w23 (Array.setIfInBounds (Array.setIfInBounds (Array.setIfInBounds (Array.setIfInBounds cs24 1 (.slice l_1.a l_1.n l_1.c)) 2 (.slice s19.a s19.n s19.c)) 3 (.slice (some a22) 1 1)) 4 (.bool quiet_2)) 53 fun a25 w26 =>
 (J8 (some a25) w26)))) (
 spl #[(.int .i64 (0 : Int)), (.bool false)] 0 2 #[(.int .i64 (-(1 : Int))), (.bool false)] fun cs27 =>
 newC w9 cs27 50 fun a28 w29 =>
 samec 1 a1 w9 w29 (
 mkSl Go.Proofs.Tryz.prog 48 (.int .i64 ((l_1.n : Nat) : Int)) (.int .i64 ((l_1.n : Nat) : Int)) w29 fun s30 w31 =>
 samec 1 a1 w9 w31 (
 spl #[(.slice none 0 0), (.slice none 0 0), (.slice none 0 0), (.slice none 0 0), (.bool false)] 0 1 cs10 fun cs32 =>
 newC w31 (Array.setIfInBounds (Array.setIfInBounds (Array.setIfInBounds (Array.setIfInBounds cs32 1 (.slice l_1.a l_1.n l_1.c)) 2 (.slice s30.a s30.n s30.c)) 3 (.slice (some a28) 1 1)) 4 (.bool quiet_2)) 53 fun a33 w34 =>
 (J8 (some a33) w34))))))) fun p35 w36 =>
 drew w36 fun w37 =>
 nn p35 fun a38 =>
 ldS w37 (Addr.add a38 2) fun s39 =>
 pelotonref05_Root  w37 fun cs40 w41 =>
 samec 1 (Addr.add a38 2) w37 w41 (
 spl #[(.int .i64 (0 : Int)), (.int .i64 (0 : Int)), (.int .i64 (0 : Int)), (.int .i64 (0 : Int)), (.int .i64 (0 : Int)), (.int .i64 (0 : Int)), (.int .i64 (0 : Int)), (.int .i64 (0 : Int)), (.int .i64 (0 : Int)), (.int .i64 (0 : Int)), (.int .i64 (0 : Int)), (.int .i64 (0 : Int)), (.int .i64 (0 : Int)), (.int .i64 (0 : Int)), (.int .i64 (0 : Int)), (.int .i64 (0 : Int)), (.int .i64 (0 : Int)), (.int .i64 (0 : Int)), (.int .i64 (0 : Int)), (.int .i64 (0 : Int)), (.int .i64 (0 : Int))] 0 19 cs40 fun cs42 =>
 samec 1 (Addr.add a38 2) w37 w41 (
 ixS s39 (0 : Int) 21 fun a43 =>
 stA 21 w41 a43 cs42 fun w44 =>
 loopP (S := Int) (fun C45 i46 w47 =>
 iteB (decide (i46 < ((l_1.n : Nat) : Int))) (
 pelotonref08_Book_fits p35 i46 w47 fun b48 w49 =>
 iteB (!b48) (
 (k (i46, (25 : Int)) w49)) (
 (C45 (IntKind.wrap .i64 (i46 + (1 : Int))) w49))) (
 (k ((0 : Int), (0 : Int)) w47))) (0 : Int) w44))))
theorem e_pelotonref08_Fits (pelotonref04_Accepts : Array Value → World → ((Bool) → World → Prop) → Prop) (pelotonref07_Check : Sl → World → ((Int) → World → Prop) → Prop) (pelotonref05_Root : World → ((Array Value) → World → Prop) → Prop) (pelotonref08_Book_fits : Option Addr → Int → World → ((Bool) → World → Prop) → Prop) (x : KT [.ag, .s, .b]) (w : World) (k : KT [(.i .i64), (.i .i64)] → World → Prop) : evFn Go.Proofs.Tryz.prog (orcOf [(n_pelotonref04_Accepts, (fun args w c => unL [.ag] args fun x => pelotonref04_Accepts x w fun r w => c (packV (valL [.b] r)) w)), (n_pelotonref07_Check, (fun args w c => unL [.s] args fun x => pelotonref07_Check x w fun r w => c (packV (valL [(.i .i64)] r)) w)), (n_pelotonref05_Root, (fun args w c => unL [] args fun x => pelotonref05_Root  w fun r w => c (packV (valL [.ag] r)) w)), (n_pelotonref08_Book_fits, (fun args w c => unL [.p, (.i .i64)] args fun x => pelotonref08_Book_fits x.1 x.2 w fun r w => c (packV (valL [.b] r)) w))]) 35734128043982 [(8, [(9, .p)]), (12, [(10, (.i .i64))])] Go.Proofs.Tryz.f10 [(.i .i64), (.i .i64)] (valL [.ag, .s, .b] x) w k = pelotonref08_Fits_b pelotonref04_Accepts pelotonref07_Check pelotonref05_Root pelotonref08_Book_fits x.1 x.2.1 x.2.2 w k := by kernel_rfl
def pelotonref08_Fits (p_0 : Array Value) (l_1 : Sl) (quiet_2 : Bool) (w : World) (k : (Int × Int) → World → Prop) : Prop := pelotonref08_Fits_b pelotonref04_Accepts pelotonref07_Check pelotonref05_Root pelotonref08_Book_fits p_0 l_1 quiet_2 w k
def d_pelotonref08_Fits : Dec := fun args w c => unL [.ag, .s, .b] args fun x => pelotonref08_Fits x.1 x.2.1 x.2.2 w fun r w => c (packV (valL [(.i .i64), (.i .i64)] r)) w
theorem s_pelotonref08_Fits : Sound Go.Proofs.Tryz.prog n_pelotonref08_Fits d_pelotonref08_Fits :=
 sound_of (mask := 35734128043982) (h := [(8, [(9, .p)]), (12, [(10, (.i .i64))])]) (ds := [(n_pelotonref04_Accepts, d_pelotonref04_Accepts), (n_pelotonref07_Check, d_pelotonref07_Check), (n_pelotonref05_Root, d_pelotonref05_Root), (n_pelotonref08_Book_fits, d_pelotonref08_Book_fits)]) mixed Go.Proofs.Tryz.func10 ⟨s_pelotonref04_Accepts, s_pelotonref07_Check, s_pelotonref05_Root, s_pelotonref08_Book_fits, trivial⟩
 [.ag, .s, .b] [(.i .i64), (.i .i64)] (by kernel_rfl) (fun x w k => pelotonref08_Fits x.1 x.2.1 x.2.2 w k) (fun x w k => e_pelotonref08_Fits pelotonref04_Accepts pelotonref07_Check pelotonref05_Root pelotonref08_Book_fits x w k)
def pelotonlaw08_FitsRows_b (pelotonlaw08_Short : Array Value → Sl → World → ((Bool) → World → Prop) → Prop) (pelotonlaw08_awake : World → ((Bool) → World → Prop) → Prop) (fits_Fits : Array Value → Sl → World → ((Int × Int) → World → Prop) → Prop) (pelotonref08_Fits : Array Value → Sl → Bool → World → ((Int × Int) → World → Prop) → Prop) (p_0 : Array Value) (l_1 : Sl) (w : World) (k : (Bool) → World → Prop) : Prop :=
 newC w p_0 24 fun a1 w2 =>
 ldA 1 w2 a1 fun cs3 =>
 pelotonlaw08_Short cs3 l_1 w2 fun b4 w5 =>
 iteB (!b4) (
 pelotonlaw08_awake  w5 fun b6 w7 =>
 (k b6 w7)) (
 ldA 1 w5 a1 fun cs8 =>
 fits_Fits cs8 l_1 w5 fun x9 w10 =>
 ldA 1 w10 a1 fun cs11 =>
 pelotonref08_Fits cs11 l_1 false w10 fun x12 w13 =>
 iteB (((x9.1, x9.2).1 == (x12.1, x12.2).1) && ((x9.1, x9.2).2 == (x12.1, x12.2).2)) (
 pelotonlaw08_awake  w13 fun b14 w15 =>
 (k b14 w15)) (
 (k false w13)))
theorem e_pelotonlaw08_FitsRows (pelotonlaw08_Short : Array Value → Sl → World → ((Bool) → World → Prop) → Prop) (pelotonlaw08_awake : World → ((Bool) → World → Prop) → Prop) (fits_Fits : Array Value → Sl → World → ((Int × Int) → World → Prop) → Prop) (pelotonref08_Fits : Array Value → Sl → Bool → World → ((Int × Int) → World → Prop) → Prop) (x : KT [.ag, .s]) (w : World) (k : KT [.b] → World → Prop) : evFn Go.Proofs.Tryz.prog (orcOf [(n_pelotonlaw08_Short, (fun args w c => unL [.ag, .s] args fun x => pelotonlaw08_Short x.1 x.2 w fun r w => c (packV (valL [.b] r)) w)), (n_pelotonlaw08_awake, (fun args w c => unL [] args fun x => pelotonlaw08_awake  w fun r w => c (packV (valL [.b] r)) w)), (n_fits_Fits, (fun args w c => unL [.ag, .s] args fun x => fits_Fits x.1 x.2 w fun r w => c (packV (valL [(.i .i64), (.i .i64)] r)) w)), (n_pelotonref08_Fits, (fun args w c => unL [.ag, .s, .b] args fun x => pelotonref08_Fits x.1 x.2.1 x.2.2 w fun r w => c (packV (valL [(.i .i64), (.i .i64)] r)) w))]) 4598 [] Go.Proofs.Tryz.f3 [.b] (valL [.ag, .s] x) w k = pelotonlaw08_FitsRows_b pelotonlaw08_Short pelotonlaw08_awake fits_Fits pelotonref08_Fits x.1 x.2 w k := by kernel_rfl
def pelotonlaw08_FitsRows (p_0 : Array Value) (l_1 : Sl) (w : World) (k : (Bool) → World → Prop) : Prop := pelotonlaw08_FitsRows_b pelotonlaw08_Short pelotonlaw08_awake fits_Fits pelotonref08_Fits p_0 l_1 w k
def d_pelotonlaw08_FitsRows : Dec := fun args w c => unL [.ag, .s] args fun x => pelotonlaw08_FitsRows x.1 x.2 w fun r w => c (packV (valL [.b] r)) w
theorem s_pelotonlaw08_FitsRows : Sound Go.Proofs.Tryz.prog n_pelotonlaw08_FitsRows d_pelotonlaw08_FitsRows :=
 sound_of (mask := 4598) (h := []) (ds := [(n_pelotonlaw08_Short, d_pelotonlaw08_Short), (n_pelotonlaw08_awake, d_pelotonlaw08_awake), (n_fits_Fits, d_fits_Fits), (n_pelotonref08_Fits, d_pelotonref08_Fits)]) mixed Go.Proofs.Tryz.func3 ⟨s_pelotonlaw08_Short, s_pelotonlaw08_awake, s_fits_Fits, s_pelotonref08_Fits, trivial⟩
 [.ag, .s] [.b] (by kernel_rfl) (fun x w k => pelotonlaw08_FitsRows x.1 x.2 w k) (fun x w k => e_pelotonlaw08_FitsRows pelotonlaw08_Short pelotonlaw08_awake fits_Fits pelotonref08_Fits x w k)
end Go.Proofs.YtgkfbagclkjilaaGreatDoor
namespace Go.Ev
open Go
abbrev BI (w : World) (g : Nat) (l : List Int) : Prop := Blk w g (ints l).toArray
abbrev agI (l : List Int) : Array Value := (ints l).toArray
theorem ints_get {l : List Int} {o : Nat} (h : o < l.length) : (agI l)[o]? = some (.int .i64 (l.getD o 0)) := by
  simp [agI, ints, List.getD_eq_getElem?_getD, h]
theorem BI.cell {w : World} {g : Nat} {l : List Int} (h : BI w g l) {o : Nat} (ho : o < l.length) : w.cell? ⟨g, o, none⟩ = some (.int .i64 (l.getD o 0)) := by
  rw [Blk.cell h, ints_get ho]
theorem ldP_I {w : World} {g o : Nat} {l : List Int} {c : Int → Prop} (h : BI w g l) (ho : o < l.length) (hc : c (l.getD o 0)) : ldI .i64 w ⟨g, o, none⟩ c := ldI_i (h.cell ho) hc
theorem ints_set {l : List Int} {o : Nat} {x : Int} : (agI l).setIfInBounds o (.int .i64 x) = agI (l.set o x) := by
  simp [agI, ints, List.map_set]
theorem stC_I {w : World} {g o : Nat} {l : List Int} {x : Int} {c : World → Prop} (h : BI w g l) (ho : o < l.length) (hc : ∀ w', BI w' g (l.set o x) → w'.heap.size = w.heap.size → Only (fun k => k = g) w w' → c w') : stC w ⟨g, o, none⟩ (.int .i64 x) c :=
  stC_i rfl h (by simpa [agI, ints] using ho) fun w' hb hs ho => hc w' (by rw [ints_set] at hb; exact hb) hs ho
theorem blk_eq {w : World} {g : Nat} {a b : Array Value} (h : Blk w g a) (e : ∀ j : Nat, a[j]? = b[j]?) : Blk w g b := by
  have : a = b := by
    obtain ⟨a⟩ := a; obtain ⟨b⟩ := b
    congr 1
    exact List.ext_getElem? fun j => by simpa using e j
  rwa [← this]
theorem stA_I {w : World} {g n : Nat} {l : List Int} {cs : Array Value} {c : World → Prop} (h : Blk w g cs) (hs : cs.size = n) (hl : l.length = n) (hc : ∀ w', BI w' g l → w'.heap.size = w.heap.size → Only (fun k => k = g) w w' → c w') : stA n w ⟨g, 0, none⟩ (agI l) c := by
  refine stA_i h (by simpa [agI, ints] using hl) (by omega) (fun v hv => one_ints v (by simpa [agI] using hv)) fun w' cs' hb hz hk hv ho hs' => hc w' (blk_eq hb fun j => ?_) hs' ho
  by_cases hj : j < n
  · have := hv j hj; rwa [Nat.zero_add] at this
  · rw [Array.getElem?_eq_none (by omega), Array.getElem?_eq_none (by simp [agI, ints]; omega)]
theorem stA_P {w : World} {g n o : Nat} {l l' : List Int} {c : World → Prop} (h : BI w g l) (hl : l'.length = n) (ho : o + n ≤ l.length) (hc : ∀ w', BI w' g (l.take o ++ (l' ++ l.drop (o + n))) → w'.heap.size = w.heap.size → Only (fun k => k = g) w w' → c w') : stA n w ⟨g, o, none⟩ (agI l') c := by
  refine stA_i h (by simpa [agI, ints] using hl) (by simpa [agI, ints] using ho) (fun v hv => one_ints v (by simpa [agI] using hv)) fun w' cs' hb hz hk hv hon hs' => hc w' (blk_eq hb fun j => ?_) hs' hon
  have hz' : cs'.size = l.length := by simpa [agI, ints] using hz
  by_cases h1 : j < o
  · rw [hk j (.inl h1)]
    simp only [agI, ints, List.getElem?_toArray, List.getElem?_map]
    rw [List.getElem?_append_left (by simp; omega), List.getElem?_take_of_lt h1]
  · by_cases h2 : j < o + n
    · have := hv (j - o) (by omega)
      rw [show o + (j - o) = j by omega] at this
      rw [this]
      simp only [agI, ints, List.getElem?_toArray, List.getElem?_map]
      rw [List.getElem?_append_right (by simp; omega), List.getElem?_append_left (by simp; omega)]
      congr 2
      simp; omega
    · rw [hk j (.inr (by omega))]
      simp only [agI, ints, List.getElem?_toArray, List.getElem?_map]
      rw [List.getElem?_append_right (by simp; omega), List.getElem?_append_right (by simp; omega), List.getElem?_drop]
      congr 2
      simp; omega
theorem ldA_I {w : World} {g n : Nat} {l : List Int} {c : Array Value → Prop} (h : BI w g l) (hl : l.length = n) (hc : c (agI l)) : ldA n w ⟨g, 0, none⟩ c := by
  refine ldA_i h (by simp [agI, ints]; omega) ?_
  have : ((agI l).toList.drop 0).take n = ints l := by simp [agI, ints, List.take_of_length_le, hl]
  rw [this]; exact hc
theorem ldA_P {w : World} {g n o : Nat} {l : List Int} {c : Array Value → Prop} (h : BI w g l) (hl : o + n ≤ l.length) (hc : c (agI ((l.drop o).take n))) : ldA n w ⟨g, o, none⟩ c := by
  refine ldA_i h (by simpa [agI, ints] using hl) ?_
  have : ((agI l).toList.drop o).take n = ints ((l.drop o).take n) := by simp [agI, ints, List.map_take, List.map_drop]
  rw [this]; exact hc
theorem ixA_I {l : List Int} {n : Nat} {i : Int} {c : Value → Prop} (h0 : 0 ≤ i) (h1 : i < n) (hl : l.length = n) (hc : c (.int .i64 (l.getD i.toNat 0))) : ixA (agI l) n i c := by
  refine ⟨⟨h0, h1⟩, ?_⟩
  unfold ptA
  rw [ints_get (by omega)]
  exact hc
theorem toI_i {n : Int} {c : Int → Prop} (h : c n) : toI .i64 (.int .i64 n) c := h
theorem samec_B {g o n : Nat} {w w' : World} {cs : Array Value} {c : Prop} (h : Blk w g cs) (h' : Blk w' g cs) (hc : c) : samec n ⟨g, o, none⟩ w w' c :=
  ⟨fun k _ => by rw [add_mk, h.cell, h'.cell], hc⟩
theorem eqOffs_ints : ∀ (os : List Nat) (xs ys : List Int), (∀ o ∈ os, o < xs.length ∧ o < ys.length) → eqOffs (agI xs) (agI ys) (os.map fun o => (o, 0)) = some (os.all fun o => xs.getD o 0 == ys.getD o 0)
  | [], _, _, _ => rfl
  | o :: os, xs, ys, h => by
    have h1 := h o (by simp)
    simp only [List.map_cons, eqOffs, ints_get h1.1, ints_get h1.2, eqC, if_true]
    rw [eqOffs_ints os xs ys fun o ho => h o (by simp [ho])]
    simp
theorem eqA_I {n : Nat} {xs ys : List Int} {c : Bool → Prop} (hx : xs.length = n) (hy : ys.length = n) (hc : c (decide (xs = ys))) : eqA ((List.range n).map fun o => (o, 0)) (agI xs) (agI ys) c := by
  unfold eqA
  rw [eqOffs_ints _ _ _ fun o ho => by simp at ho; omega]
  have e : ((List.range n).all fun o => xs.getD o 0 == ys.getD o 0) = decide (xs = ys) := by
    rw [Bool.eq_iff_iff, decide_eq_true_eq, List.all_eq_true]
    constructor
    · intro h
      apply List.ext_getElem?
      intro j
      by_cases hj : j < n
      · have := h j (by simpa using hj)
        simp only [List.getD_eq_getElem?_getD, beq_iff_eq] at this
        rw [List.getElem?_eq_getElem (by omega), List.getElem?_eq_getElem (by omega)] at this ⊢
        simpa using this
      · rw [List.getElem?_eq_none (by omega), List.getElem?_eq_none (by omega)]
    · rintro rfl o _; simp
  rw [e]; exact hc
theorem getD_set_ne {l : List Int} {i j : Nat} {x d : Int} (h : i ≠ j) : (l.set i x).getD j d = l.getD j d := by
  simp [List.getD_eq_getElem?_getD, List.getElem?_set_ne h]
theorem take_set_self (L : List Value) (n : Nat) (v : Value) : (L.set n v).take n = L.take n := by
  apply List.ext_getElem?
  intro j
  rw [List.getElem?_take, List.getElem?_take]
  split
  · rw [List.getElem?_set_ne (by omega)]
  · rfl
theorem drop_set_lt (L : List Value) (n m : Nat) (v : Value) (h : n < m) : (L.set n v).drop m = L.drop m := by
  apply List.ext_getElem?
  intro j
  rw [List.getElem?_drop, List.getElem?_drop, List.getElem?_set_ne (by omega)]
theorem fold_setL (off : Nat) : ∀ (cs : List Value) (k : Nat) (L : List Value), off + k + cs.length ≤ L.length →
    (cs.zipIdx k).foldl (fun (a : List Value) (x : Value × Nat) => a.set (off + x.2) x.1) L = L.take (off + k) ++ (cs ++ L.drop (off + k + cs.length))
  | [], k, L, h => by simp
  | v :: cs, k, L, h => by
    simp only [List.length_cons] at h
    rw [List.zipIdx_cons, List.foldl_cons, fold_setL off cs (k + 1) _ (by simp; omega)]
    simp only [List.length_cons]
    rw [drop_set_lt _ _ _ _ (by omega), show off + (k + 1) = off + k + 1 by omega, List.take_add_one, take_set_self, List.getElem?_set_self (by omega)]
    rw [show off + k + 1 + cs.length = off + k + (cs.length + 1) by omega]
    simp
theorem fold_toList (off : Nat) : ∀ (l : List (Value × Nat)) (acc : Array Value), (l.foldl (fun (a : Array Value) (x : Value × Nat) => a.setIfInBounds (off + x.2) x.1) acc).toList = l.foldl (fun (a : List Value) (x : Value × Nat) => a.set (off + x.2) x.1) acc.toList
  | [], _ => rfl
  | x :: l, acc => by rw [List.foldl_cons, List.foldl_cons, fold_toList off l]; simp
theorem fold_set (off : Nat) (cs : List Value) (acc : Array Value) (h : off + cs.length ≤ acc.size) :
    (cs.zipIdx 0).foldl (fun (a : Array Value) (x : Value × Nat) => a.setIfInBounds (off + x.2) x.1) acc = (acc.toList.take off ++ (cs ++ acc.toList.drop (off + cs.length))).toArray := by
  have h1 := fold_toList off (cs.zipIdx 0) acc
  rw [fold_setL off cs 0 _ (by simpa using h), Nat.add_zero] at h1
  rw [← h1]
theorem spl_V {acc cs : List Value} {off size : Nat} {c : Array Value → Prop} (r : List Value) (h : cs.length = size) (ho : off + size ≤ acc.length) (hr : acc.take off ++ (cs ++ acc.drop (off + size)) = r) (hc : c r.toArray) : spl acc.toArray off size cs.toArray c := by
  refine ⟨by simp [h], ?_⟩
  have := fold_set off cs acc.toArray (by simp; omega)
  rw [← Array.foldl_toList]
  have e : cs.toArray.zipIdx.toList = cs.zipIdx 0 := by simp
  rw [e]
  have e2 : (fun (cs : Array Value) (x : Value × Nat) => cs.setIfInBounds (off + x.2) x.1) = fun (cs : Array Value) (x : Value × Nat) => match x with | (x, j) => cs.setIfInBounds (off + j) x := by
    funext cs x; cases x; rfl
  rw [e2] at this
  rw [this]
  have e3 : acc.toArray.toList = acc := rfl
  rw [e3, h, hr]; exact hc
theorem spl_i {acc cs : Array Value} {off size : Nat} {c : Array Value → Prop} (r : Array Value) (h : cs.size = size) (hr : cs.zipIdx.foldl (fun cs (x, j) => cs.setIfInBounds (off + j) x) acc = r) (hc : c r) : spl acc off size cs c := by
  subst hr; exact ⟨h, hc⟩
theorem ldV_i {w : World} {a : Addr} {v : Value} {c : Value → Prop} (h : w.cell? a = some v) (hc : c v) : ldV w a c := by
  simp only [ldV, rd, h]; exact hc
theorem ixS_b {g o n c sz : Nat} {i : Int} {k : Addr → Prop} (h0 : 0 ≤ i) (h1 : i < n) (hk : k ⟨g, o + i.toNat * sz, none⟩) : ixS ⟨some ⟨g, o, none⟩, n, c⟩ i sz k := ⟨⟨h0, h1⟩, by rw [add_mk]; exact hk⟩
end Go.Ev
namespace Go.Proofs.YtgkfbagclkjilaaGreatDoor.Fr
open Go Go.Ev Go.Proofs
def fTo (f : List Int) (pc : Int) : List Int := (f.set 1 pc).set 18 (IntKind.i64.wrap ((f.set 1 pc).getD 18 0 + 1))
def fOn (f : List Int) : List Int := fTo f (IntKind.i64.wrap (f.getD 1 0 + 1))
theorem fTo_len {f : List Int} {pc : Int} : (fTo f pc).length = f.length := by simp [fTo]
theorem fOn_len {f : List Int} : (fOn f).length = f.length := fTo_len
abbrev Z (n : Nat) : List Int := List.replicate n 0
theorem to_s {f : List Int} {pc : Int} {w : World} {k : Array Value → World → Prop} (hf : f.length = 19) (hk : ∀ w', Ext w w' → k (agI (fTo f pc)) w') : frame_Frame_to (agI f) pc w k := by
  unfold frame_Frame_to
  refine newC_i fun g1 w1 hg1 hs1 hb1 he1 => newC_i fun g2 w2 hg2 hs2 hb2 he2 => ?_
  have hb1' : BI w2 g1 f := hb1.ext he2
  simp only [add_mk, Nat.zero_add]
  refine stC_I hb1' (by omega) fun w3 hb3 hs3 ho3 => ?_
  refine ldP_I hb3 (by simp; omega) ?_
  refine stC_I hb3 (by simp; omega) fun w4 hb4 hs4 ho4 => ?_
  refine ldA_I hb4 (by simp [hf]) ?_
  have hb2' := (hb2.keep ho3 (by omega)).keep ho4 (by omega)
  refine stA_I hb2' rfl (by simp [hf]) fun w5 hb5 hs5 ho5 => ldA_I hb5 (by simp [hf]) ?_
  exact hk _ ((((he1.trans he2).then ho3 fun g hg => by omega).then ho4 fun g hg => by omega).then ho5 fun g hg => by have := he1.size; omega)
theorem on_s {f : List Int} {w : World} {k : Array Value → World → Prop} (hf : f.length = 19) (hk : ∀ w', Ext w w' → k (agI (fOn f)) w') : frame_Frame_Passed (agI f) w k := by
  unfold frame_Frame_Passed frame_Frame_Passed_b
  refine newC_i fun g1 w1 hg1 hs1 hb1 he1 => newC_i fun g2 w2 hg2 hs2 hb2 he2 => ?_
  have hb1' : BI w2 g1 f := hb1.ext he2
  simp only [add_mk, Nat.zero_add]
  refine ldA_I hb1' hf (ldP_I hb1' (by omega) (to_s hf fun w3 he3 => ?_))
  refine stA_I (hb2.ext he3) rfl (by simp [fTo_len, hf]) fun w5 hb5 hs5 ho5 => ldA_I hb5 (by simp [fTo_len, hf]) ?_
  exact hk _ (((he1.trans he2).trans he3).then ho5 fun g hg => by have := he1.size; omega)
theorem rto_s {f : List Int} {pc : Int} {w : World} {k : Array Value → World → Prop} (hf : f.length = 19) (hk : ∀ w', Ext w w' → k (agI (fTo f pc)) w') : pelotonref05_Task_To (agI f) pc w k := by
  unfold pelotonref05_Task_To
  refine newC_i fun g1 w1 hg1 hs1 hb1 he1 => newC_i fun g2 w2 hg2 hs2 hb2 he2 => ?_
  have hb1' : BI w2 g1 f := hb1.ext he2
  simp only [add_mk, Nat.zero_add]
  refine stC_I hb1' (by omega) fun w3 hb3 hs3 ho3 => ?_
  refine ldP_I hb3 (by simp; omega) ?_
  refine stC_I hb3 (by simp; omega) fun w4 hb4 hs4 ho4 => ?_
  refine ldA_I hb4 (by simp [hf]) ?_
  have hb2' := (hb2.keep ho3 (by omega)).keep ho4 (by omega)
  refine stA_I hb2' rfl (by simp [hf]) fun w5 hb5 hs5 ho5 => ldA_I hb5 (by simp [hf]) ?_
  exact hk _ ((((he1.trans he2).then ho3 fun g hg => by omega).then ho4 fun g hg => by omega).then ho5 fun g hg => by have := he1.size; omega)
theorem ron_s {f : List Int} {w : World} {k : Array Value → World → Prop} (hf : f.length = 19) (hk : ∀ w', Ext w w' → k (agI (fOn f)) w') : pelotonref05_Task_On (agI f) w k := by
  unfold pelotonref05_Task_On pelotonref05_Task_On_b
  refine newC_i fun g1 w1 hg1 hs1 hb1 he1 => newC_i fun g2 w2 hg2 hs2 hb2 he2 => ?_
  have hb1' : BI w2 g1 f := hb1.ext he2
  simp only [add_mk, Nat.zero_add]
  refine ldA_I hb1' hf (ldP_I hb1' (by omega) (rto_s hf fun w3 he3 => ?_))
  refine stA_I (hb2.ext he3) rfl (by simp [fTo_len, hf]) fun w5 hb5 hs5 ho5 => ldA_I hb5 (by simp [fTo_len, hf]) ?_
  exact hk _ (((he1.trans he2).trans he3).then ho5 fun g hg => by have := he1.size; omega)
theorem with_s {f : List Int} {a v : Int} {w : World} {k : Array Value → World → Prop} (hf : f.length = 19) (h0 : 0 ≤ a) (h1 : a < 8) (hk : ∀ w', Ext w w' → k (agI (f.set (2 + a.toNat) v)) w') : pelotonref05_Task_With (agI f) a v w k := by
  unfold pelotonref05_Task_With
  refine newC_i fun g1 w1 hg1 hs1 hb1 he1 => newC_i fun g2 w2 hg2 hs2 hb2 he2 => ?_
  have hb1' : BI w2 g1 f := hb1.ext he2
  simp only [add_mk, Nat.zero_add]
  refine ixP_i h0 (by omega) ?_
  rw [Nat.mul_one]
  refine stC_I hb1' (by omega) fun w3 hb3 hs3 ho3 => ?_
  refine ldA_I hb3 (by simp [hf]) ?_
  refine stA_I (hb2.keep ho3 (by omega)) rfl (by simp [hf]) fun w5 hb5 hs5 ho5 => ldA_I hb5 (by simp [hf]) ?_
  exact hk _ (((he1.trans he2).then ho3 fun g hg => by omega).then ho5 fun g hg => by have := he1.size; omega)
theorem list19 {l : List Int} (h : l.length = 19) : ∃ a b c d e f g h i j k m n o p q r s t, l = [a, b, c, d, e, f, g, h, i, j, k, m, n, o, p, q, r, s, t] := by
  match l, h with
  | [a, b, c, d, e, f, g, h, i, j, k, m, n, o, p, q, r, s, t], _ => exact ⟨a, b, c, d, e, f, g, h, i, j, k, m, n, o, p, q, r, s, t, rfl⟩
def fRoot : List Int := [0, 0, 0, 0, 0, 0, 0, 0, 0, 0, -1, -1, -1, -1, -1, -1, -1, -1, 0]
theorem rroot_s {w : World} {k : Array Value → World → Prop} (hk : ∀ w', Ext w w' → k (agI fRoot) w') : pelotonref05_Root w k := by
  unfold pelotonref05_Root
  refine newC_i fun g1 w1 hg1 hs1 hb1 he1 => spl_i _ rfl rfl ?_
  refine stA_I (l := fRoot) hb1 rfl rfl fun w5 hb5 hs5 ho5 => ldA_I hb5 rfl ?_
  exact hk _ (he1.then ho5 fun g hg => by omega)
theorem rep_succ {i : Nat} (h : i < 8) : (List.replicate 10 (0 : Int) ++ (List.replicate i (-1) ++ List.replicate (9 - i) 0)).set (10 + i) (-1) = List.replicate 10 0 ++ (List.replicate (i + 1) (-1) ++ List.replicate (9 - (i + 1)) 0) := by
  match i, h with
  | 0, _ => rfl
  | 1, _ => rfl
  | 2, _ => rfl
  | 3, _ => rfl
  | 4, _ => rfl
  | 5, _ => rfl
  | 6, _ => rfl
  | 7, _ => rfl
theorem root_s {w : World} {k : Array Value → World → Prop} (hk : ∀ w', Ext w w' → k (agI fRoot) w') : frame_Root w k := by
  unfold frame_Root
  refine newC_i fun g1 w1 hg1 hs1 hb1 he1 => newC_i fun g2 w2 hg2 hs2 hb2 he2 => ?_
  simp only [add_mk, Nat.zero_add]
  have hb2z : BI w2 g2 (List.replicate 10 0 ++ (List.replicate 0 (-1) ++ List.replicate (9 - 0) 0)) := by
    have e : (List.replicate 10 (0 : Int) ++ (List.replicate 0 (-1) ++ List.replicate (9 - 0) 0)) = Z 19 := by decide
    rw [e]; exact hb2
  refine loopP_of (fun (x : Int) w' => ∃ i : Nat, x = i ∧ i ≤ 8 ∧ BI w' g2 (List.replicate 10 0 ++ (List.replicate i (-1) ++ List.replicate (9 - i) 0)) ∧ Only (fun k => k = g2) w2 w') (fun x _ => (8 - x).toNat) ⟨0, rfl, by omega, hb2z, .refl _ _⟩ ?_
  rintro _ w3 ⟨i, rfl, hi, hb3, ho3⟩ C hC
  refine iteB_i (fun hlt => ?_) (fun hge => ?_)
  · have hlt : i < 8 := by have : (i : Int) < 8 := by simpa using hlt
                           omega
    refine ixP_i (by omega) (by omega) ?_
    simp only [Int.toNat_natCast, Nat.mul_one]
    refine stC_I hb3 (by simp; omega) fun w4 hb4 hs4 ho4 => ?_
    have hw : IntKind.i64.wrap ((i : Int) + 1) = ((i + 1 : Nat) : Int) := by rw [wrap_id ⟨by omega, by omega⟩]; simp
    exact hC _ _ ⟨i + 1, hw, by omega, by rw [← rep_succ hlt]; exact hb4, ho3.trans ho4 (fun _ _ h => h) fun _ _ h => h⟩ (by rw [hw]; omega)
  · have hge : i = 8 := by have : ¬ (i : Int) < 8 := by simpa using hge
                           omega
    subst hge
    refine ldA_I (l := fRoot) hb3 rfl ?_
    refine stA_I (l := fRoot) ((hb1.ext he2).keep ho3 (by omega)) rfl rfl fun w5 hb5 hs5 ho5 => ldA_I hb5 rfl ?_
    exact hk _ (((he1.trans he2).then ho3 fun g hg => by have := he1.size; omega).then ho5 fun g hg => by omega)
def kindsT : List Int := [1, 0, 0, 5, 1, 1, 0, 0, 1, 1, 1, 0, 1, 1, 1, 0, 1, 1, 1, 0, 1, 1, 1, 0, 0, 0, 0, 2, 1, 0, 0, 2, 1, 0, 0, 3, 1, 1, 0, 0, 1, 1, 1, 0, 0, 0, 0, 4, 1, 0, 0, 0, 0, 0, 0, 0, 0, 0, 0, 0, 1, 0, 0, 0, 1, 0, 0, 0]
def spanV (k : Int) : Int × Int := if k = 1 then (0, 7) else if k = 2 then (0, 127) else if k = 3 then (0, 31) else if k = 4 then (0, 65535) else if k = 5 then (-2147483648, 2147483647) else (0, 0)
def spanOf (op j : Nat) : Int × Int := spanV (kindsT.getD (4 * op + j) 0)
def inSpan (i : List Int) (j : Nat) : Bool := decide ((spanOf (i.getD 0 0).toNat j).1 ≤ i.getD (j + 1) 0 ∧ i.getD (j + 1) 0 ≤ (spanOf (i.getD 0 0).toNat j).2)
def chk (i : List Int) : Int := if i.getD 0 0 < 0 ∨ i.getD 0 0 ≥ 17 then 13 else if inSpan i 0 && inSpan i 1 && inSpan i 2 && inSpan i 3 then 0 else 10
theorem span_s {x : Int} {w : World} {k : Int × Int → World → Prop} (hk : k (spanV x) w) : code_span x w k := by
  unfold code_span
  unfold spanV at hk
  refine iteB_i (fun h => ?_) (fun h => ?_)
  · rw [if_pos (by simpa using h)] at hk; exact hk
  rw [if_neg (by simpa using h)] at hk
  refine iteB_i (fun h => ?_) (fun h => ?_)
  · rw [if_pos (by simpa using h)] at hk; exact hk
  rw [if_neg (by simpa using h)] at hk
  refine iteB_i (fun h => ?_) (fun h => ?_)
  · rw [if_pos (by simpa using h)] at hk; exact hk
  rw [if_neg (by simpa using h)] at hk
  refine iteB_i (fun h => ?_) (fun h => ?_)
  · rw [if_pos (by simpa using h)] at hk; exact hk
  rw [if_neg (by simpa using h)] at hk
  refine iteB_i (fun h => ?_) (fun h => ?_)
  · rw [if_pos (by simpa using h)] at hk; exact hk
  rw [if_neg (by simpa using h)] at hk
  exact hk
theorem operands_s {op : Int} {w : World} {k : Array Value → World → Prop} (h0 : 0 ≤ op) (h1 : op < 17) (hk : ∀ w', Ext w w' → k (agI ((kindsT.drop (op.toNat * 4)).take 4)) w') : code_operands op w k := by
  unfold code_operands
  refine newC_i fun g1 w1 hg1 hs1 hb1 he1 => ?_
  refine spl_i (agI (kindsT.take 4 ++ Z 64)) rfl rfl ?_
  refine spl_i (agI (kindsT.take 8 ++ Z 60)) rfl rfl ?_
  refine spl_i (agI (kindsT.take 12 ++ Z 56)) rfl rfl ?_
  refine spl_i (agI (kindsT.take 16 ++ Z 52)) rfl rfl ?_
  refine spl_i (agI (kindsT.take 20 ++ Z 48)) rfl rfl ?_
  refine spl_i (agI (kindsT.take 24 ++ Z 44)) rfl rfl ?_
  refine spl_i (agI (kindsT.take 28 ++ Z 40)) rfl rfl ?_
  refine spl_i (agI (kindsT.take 32 ++ Z 36)) rfl rfl ?_
  refine spl_i (agI (kindsT.take 36 ++ Z 32)) rfl rfl ?_
  refine spl_i (agI (kindsT.take 40 ++ Z 28)) rfl rfl ?_
  refine spl_i (agI (kindsT.take 44 ++ Z 24)) rfl rfl ?_
  refine spl_i (agI (kindsT.take 48 ++ Z 20)) rfl rfl ?_
  refine spl_i (agI (kindsT.take 52 ++ Z 16)) rfl rfl ?_
  refine spl_i (agI (kindsT.take 56 ++ Z 12)) rfl rfl ?_
  refine spl_i (agI (kindsT.take 60 ++ Z 8)) rfl rfl ?_
  refine spl_i (agI (kindsT.take 64 ++ Z 4)) rfl rfl ?_
  refine spl_i (agI kindsT) rfl rfl ?_
  refine newC_i fun g2 w2 hg2 hs2 hb2 he2 => ?_
  refine stA_I hb2 rfl rfl fun w3 hb3 hs3 ho3 => ?_
  have hb1' := (hb1.ext he2).keep ho3 (by omega)
  refine ixP_i h0 (by omega) ?_
  rw [Nat.zero_add]
  have hl : kindsT.length = 68 := rfl
  refine ldA_P hb3 (by omega) ?_
  refine stA_I hb1' rfl (by simp [hl]; omega) fun w4 hb4 hs4 ho4 => ldA_I hb4 (by simp [hl]; omega) ?_
  exact hk _ (((he1.trans he2).then ho3 fun g hg => by have := he1.size; omega).then ho4 fun g hg => by omega)
end Go.Proofs.YtgkfbagclkjilaaGreatDoor.Fr
namespace Go.Proofs.YtgkfbagclkjilaaGreatDoor.Fr
open Go Go.Ev Go.Proofs
theorem four {j : Nat} (h : j < 4) : j = 0 ∨ j = 1 ∨ j = 2 ∨ j = 3 := by omega
theorem chk_bad {i : List Int} {j : Nat} (h0 : ¬ (i.getD 0 0 < 0 ∨ i.getD 0 0 ≥ 17)) (hj : j < 4) (hb : inSpan i j = false) : chk i = 10 := by
  unfold chk
  rw [if_neg h0]
  rcases four hj with rfl | rfl | rfl | rfl <;> simp [hb]
theorem chk_good {i : List Int} (h0 : ¬ (i.getD 0 0 < 0 ∨ i.getD 0 0 ≥ 17)) (hb : ∀ j, j < 4 → inSpan i j = true) : chk i = 0 := by
  unfold chk
  rw [if_neg h0]
  simp [hb 0 (by omega), hb 1 (by omega), hb 2 (by omega), hb 3 (by omega)]
theorem kinds_get {op j : Nat} (h : op < 17) (hj : j < 4) : ((kindsT.drop (op * 4)).take 4).getD j 0 = kindsT.getD (4 * op + j) 0 := by
  rw [List.getD_eq_getElem?_getD, List.getElem?_take_of_lt hj, List.getElem?_drop, List.getD_eq_getElem?_getD, Nat.mul_comm]
theorem getD4 {i : List Int} {j : Nat} (hj : j < 4) : [i.getD 1 0, i.getD 2 0, i.getD 3 0, i.getD 4 0].getD j 0 = i.getD (j + 1) 0 := by
  rcases four hj with rfl | rfl | rfl | rfl <;> rfl
theorem check_s {i : List Int} {w : World} {k : Int → World → Prop} (hi : i.length = 5) (hk : ∀ w', Ext w w' → k (chk i) w') : code_Check (agI i) w k := by
  unfold code_Check code_Check_b
  refine newC_i fun g1 w1 hg1 hs1 hb1 he1 => ?_
  have hb1' : BI w1 g1 i := hb1
  simp only [add_mk, Nat.zero_add]
  refine joinP_i (fun b w' => b = decide (i.getD 0 0 < 0 ∨ i.getD 0 0 ≥ 17) ∧ w1 = w') ?_ ?_
  · intro J hJ
    refine ldP_I hb1' (by omega) (iteB_i (fun h => hJ _ _ ⟨?_, rfl⟩) fun h => ?_)
    · simp only [decide_eq_true_eq] at h
      exact (decide_eq_true (.inl h)).symm
    · simp only [decide_eq_false_iff_not] at h
      refine ldP_I hb1' (by omega) (hJ _ _ ⟨?_, rfl⟩)
      rw [decide_eq_decide]; omega
  rintro _ _ ⟨rfl, rfl⟩
  refine iteB_i (fun h => ?_) fun h => ?_
  · have h := of_decide_eq_true h
    have e : chk i = 13 := by unfold chk; rw [if_pos h]
    rw [← e]; exact hk _ he1
  have h := of_decide_eq_false h
  refine ldP_I hb1' (by omega) (operands_s (by omega) (by omega) fun w2 he2 => ?_)
  refine newC_i fun g3 w3 hg3 hs3 hb3 he3 => ?_
  have hl : ((kindsT.drop ((i.getD 0 0).toNat * 4)).take 4).length = 4 := by
    have : kindsT.length = 68 := rfl
    rw [List.length_take, List.length_drop, this]; omega
  refine stA_I hb3 rfl hl fun w4 hb4 hs4 ho4 => ?_
  have he14 : Ext w1 w4 := (he2.trans he3).then ho4 fun g hg => by have := he2.size; omega
  have hb14 : BI w4 g1 i := hb1'.ext he14
  refine ldP_I hb14 (by omega) (ldP_I hb14 (by omega) (ldP_I hb14 (by omega) (ldP_I hb14 (by omega) ?_)))
  refine loopP_of (fun (x : Int × Int) w' => w4 = w' ∧ x.1 = 0 ∧ ∃ j : Nat, x.2 = j ∧ j ≤ 4 ∧ ∀ m, m < j → inSpan i m = true) (fun x _ => (4 - x.2).toNat) ⟨rfl, rfl, 0, rfl, by omega, fun m hm => by omega⟩ ?_
  rintro ⟨out, _⟩ _ ⟨rfl, ho, j, hj, hj4, hall⟩ C hC
  simp only at ho hj; subst ho; subst hj
  refine iteB_i (fun hlt => ?_) fun hge => ?_
  · have hlt : j < 4 := by have : (j : Int) < 4 := by simpa using hlt
                           omega
    refine ixA_I (l := [i.getD 1 0, i.getD 2 0, i.getD 3 0, i.getD 4 0]) (by simp) (by simp; omega) rfl ?_
    rw [Int.toNat_natCast, getD4 hlt]
    refine toI_i (ixP_i (by omega) (by omega) ?_)
    rw [Int.toNat_natCast, Nat.mul_one, Nat.zero_add]
    refine ldP_I hb4 (by omega) ?_
    rw [kinds_get (by omega) hlt]
    refine span_s ?_
    have e : ((decide (i.getD (j + 1) 0 < (spanV (kindsT.getD (4 * (i.getD 0 0).toNat + j) 0)).1)) || (decide (i.getD (j + 1) 0 > (spanV (kindsT.getD (4 * (i.getD 0 0).toNat + j) 0)).2))) = !inSpan i j := by
      unfold inSpan spanOf
      rw [Bool.eq_iff_iff]
      simp only [Bool.or_eq_true, decide_eq_true_eq, Bool.not_eq_true', decide_eq_false_iff_not]
      omega
    rw [e]
    refine iteB_i (fun hb => ?_) fun hb => ?_
    · rw [← chk_bad h hlt (by simpa using hb)]
      exact hk _ (he1.trans he14)
    · have hw : IntKind.i64.wrap ((j : Int) + 1) = ((j + 1 : Nat) : Int) := by rw [wrap_id ⟨by omega, by omega⟩]; simp
      refine hC _ _ ⟨rfl, rfl, j + 1, hw, by omega, fun m hm => ?_⟩ (by simp only [hw]; omega)
      by_cases hmj : m = j
      · subst hmj; simpa using hb
      · exact hall m (by omega)
  · have hge : j = 4 := by have : ¬ (j : Int) < 4 := by simpa using hge
                           omega
    subst hge
    simp only
    rw [← chk_good h hall]
    exact hk _ (he1.trans he14)
def spansT : List (List Int) := [[0, 7, 0, 0, 0, 0, -2147483648, 2147483647], [0, 7, 0, 7, 0, 0, 0, 0], [0, 7, 0, 7, 0, 7, 0, 0], [0, 7, 0, 7, 0, 7, 0, 0], [0, 7, 0, 7, 0, 7, 0, 0], [0, 7, 0, 7, 0, 7, 0, 0],
  [0, 0, 0, 0, 0, 0, 0, 127], [0, 7, 0, 0, 0, 0, 0, 127], [0, 7, 0, 0, 0, 0, 0, 31], [0, 7, 0, 7, 0, 0, 0, 0], [0, 7, 0, 7, 0, 7, 0, 0], [0, 0, 0, 0, 0, 0, 0, 65535], [0, 7, 0, 0, 0, 0, 0, 0], [0, 0, 0, 0, 0, 0, 0, 0], [0, 0, 0, 0, 0, 0, 0, 0], [0, 7, 0, 0, 0, 0, 0, 0], [0, 7, 0, 0, 0, 0, 0, 0]]
theorem spansT_ok : ∀ op, op < 17 → (spansT.getD op []).length = 8 ∧ ∀ j, j < 4 → ((spansT.getD op []).getD (2 * j) 0, (spansT.getD op []).getD (2 * j + 1) 0) = spanOf op j := by decide
theorem op17 {op : Int} (h0 : 0 ≤ op) (h1 : op < 17) : op = 0 ∨ op = 1 ∨ op = 2 ∨ op = 3 ∨ op = 4 ∨ op = 5 ∨ op = 6 ∨ op = 7 ∨ op = 8 ∨ op = 9 ∨ op = 10 ∨ op = 11 ∨ op = 12 ∨ op = 13 ∨ op = 14 ∨ op = 15 ∨ op = 16 := by omega
theorem spans_s {op : Int} {w : World} {k : Array Value → World → Prop} (h0 : 0 ≤ op) (h1 : op < 17) (hk : ∀ w', Ext w w' → k (agI (spansT.getD op.toNat [])) w') : pelotonref02_spans op w k := by
  unfold pelotonref02_spans
  refine newC_i fun g1 w1 hg1 hs1 hb1 he1 => ?_
  have fin : ∀ l : List Int, l.length = 8 → spansT.getD op.toNat [] = l → stA 8 w1 ⟨g1, 0, none⟩ (agI l) fun w3 => ldA 8 w3 ⟨g1, 0, none⟩ fun cs4 => k cs4 w3 := by
    intro l hl e
    refine stA_I hb1 rfl hl fun w2 hb2 hs2 ho2 => ldA_I hb2 hl ?_
    rw [← e]
    exact hk _ (he1.then ho2 fun g hg => by omega)
  rcases op17 h0 h1 with rfl | rfl | rfl | rfl | rfl | rfl | rfl | rfl | rfl | rfl | rfl | rfl | rfl | rfl | rfl | rfl | rfl
  all_goals exact fin _ rfl rfl
theorem rcheck_s {i : List Int} {w : World} {k : Int → World → Prop} (hi : i.length = 5) (hk : ∀ w', Ext w w' → k (chk i) w') : pelotonref02_Check (agI i) w k := by
  unfold pelotonref02_Check pelotonref02_Check_b
  refine newC_i fun g1 w1 hg1 hs1 hb1 he1 => ?_
  have hb1' : BI w1 g1 i := hb1
  simp only [add_mk, Nat.zero_add]
  refine joinP_i (fun b w' => b = decide (i.getD 0 0 < 0 ∨ i.getD 0 0 ≥ 17) ∧ w1 = w') ?_ ?_
  · intro J hJ
    refine ldP_I hb1' (by omega) (iteB_i (fun h => hJ _ _ ⟨?_, rfl⟩) fun h => ?_)
    · simp only [decide_eq_true_eq] at h
      exact (decide_eq_true (.inl h)).symm
    · simp only [decide_eq_false_iff_not] at h
      refine ldP_I hb1' (by omega) (hJ _ _ ⟨?_, rfl⟩)
      rw [decide_eq_decide]; omega
  rintro _ _ ⟨rfl, rfl⟩
  refine iteB_i (fun h => ?_) fun h => ?_
  · have h := of_decide_eq_true h
    have e : chk i = 13 := by unfold chk; rw [if_pos h]
    rw [← e]; exact hk _ he1
  have h := of_decide_eq_false h
  refine ldP_I hb1' (by omega) (spans_s (by omega) (by omega) fun w2 he2 => ?_)
  obtain ⟨hl, hsp⟩ := spansT_ok (i.getD 0 0).toNat (by omega)
  refine newC_i fun g3 w3 hg3 hs3 hb3 he3 => ?_
  refine stA_I hb3 rfl hl fun w4 hb4 hs4 ho4 => ?_
  have he14 : Ext w1 w4 := (he2.trans he3).then ho4 fun g hg => by have := he2.size; omega
  have hb14 : BI w4 g1 i := hb1'.ext he14
  refine ldP_I hb14 (by omega) (ldP_I hb14 (by omega) (ldP_I hb14 (by omega) (ldP_I hb14 (by omega) ?_)))
  refine newC_i fun g5 w5 hg5 hs5 hb5 he5 => ?_
  refine stA_I (l := [i.getD 1 0, i.getD 2 0, i.getD 3 0, i.getD 4 0]) hb5 rfl rfl fun w6 hb6 hs6 ho6 => ?_
  have he46 : Ext w4 w6 := he5.then ho6 fun g hg => by omega
  have hb46 := hb4.ext he46
  refine loopP_of (fun (x : Int) w' => Ext w6 w' ∧ ∃ j : Nat, x = j ∧ j ≤ 4 ∧ ∀ m, m < j → inSpan i m = true) (fun x _ => (4 - x).toNat) ⟨.refl _ _, 0, rfl, by omega, fun m hm => by omega⟩ ?_
  rintro _ w7 ⟨he7, j, rfl, hj4, hall⟩ C hC
  have heall := ((he1.trans he14).trans he46).trans he7
  refine iteB_i (fun hlt => ?_) fun hge => ?_
  · have hlt : j < 4 := by have : (j : Int) < 4 := by simpa using hlt
                           omega
    have hsj := hsp j hlt
    refine joinP_i (fun b w' => b = !inSpan i j ∧ Ext w7 w') ?_ ?_
    · intro J hJ
      refine drew_i fun w8 hh8 he8 => ?_
      have hb8 := (hb6.ext he7).ext he8
      have hb48 := (hb46.ext he7).ext he8
      have hw2 : IntKind.i64.wrap (2 * (j : Int)) = ((2 * j : Nat) : Int) := by rw [wrap_id ⟨by omega, by omega⟩]; simp
      have hw3 : IntKind.i64.wrap (((2 * j : Nat) : Int) + 1) = ((2 * j + 1 : Nat) : Int) := by rw [wrap_id ⟨by omega, by omega⟩]; simp
      rw [hw2, hw3]
      refine ixP_i (by omega) (by omega) ?_
      simp only [Int.toNat_natCast, Nat.mul_one, Nat.zero_add]
      refine ldP_I hb8 (by simpa using hlt) (ixP_i (by omega) (by omega) ?_)
      simp only [Int.toNat_natCast, Nat.mul_one, Nat.zero_add, getD4 hlt]
      refine ldP_I hb48 (by omega) ?_
      have e1 : (spansT.getD (i.getD 0 0).toNat []).getD (2 * j) 0 = (spanOf (i.getD 0 0).toNat j).1 := congrArg (·.1) hsj
      have e2 : (spansT.getD (i.getD 0 0).toNat []).getD (2 * j + 1) 0 = (spanOf (i.getD 0 0).toNat j).2 := congrArg (·.2) hsj
      rw [e1]
      refine iteB_i (fun hb => hJ _ _ ⟨?_, he8⟩) fun hb => ?_
      · have hb := of_decide_eq_true hb
        unfold inSpan
        rw [decide_eq_false (by omega)]; rfl
      · have hb := of_decide_eq_false hb
        refine ixP_i (by omega) (by omega) ?_
        rw [Int.toNat_natCast, Nat.mul_one, Nat.zero_add]
        refine ldP_I hb8 (by simpa using hlt) (ixP_i (by omega) (by omega) ?_)
        simp only [Int.toNat_natCast, Nat.mul_one, Nat.zero_add, getD4 hlt]
        refine ldP_I hb48 (by omega) (hJ _ _ ⟨?_, he8⟩)
        rw [e2]
        unfold inSpan
        rw [Bool.eq_iff_iff]
        simp only [decide_eq_true_eq, Bool.not_eq_true', decide_eq_false_iff_not]
        omega
    · rintro _ w8 ⟨rfl, he8⟩
      refine iteB_i (fun hb => ?_) fun hb => ?_
      · rw [← chk_bad h hlt (by simpa using hb)]
        exact hk _ (heall.trans he8)
      · have hw : IntKind.i64.wrap ((j : Int) + 1) = ((j + 1 : Nat) : Int) := by rw [wrap_id ⟨by omega, by omega⟩]; simp
        refine hC _ _ ⟨he7.trans he8, j + 1, hw, by omega, fun m hm => ?_⟩ (by simp only [hw]; omega)
        by_cases hmj : m = j
        · subst hmj; simpa using hb
        · exact hall m (by omega)
  · have hge : j = 4 := by have : ¬ (j : Int) < 4 := by simpa using hge
                           omega
    subst hge
    rw [← chk_good h hall]
    exact hk _ heall
def isB (i : List Int) (op : Int) : Bool := i.getD 0 0 == op && chk i == 0
theorem may_s {i : List Int} {op : Int} {w : World} {k : Bool → World → Prop} (hi : i.length = 5) (hk : ∀ w', Ext w w' → k (isB i op) w') : frame_may (agI i) op w k := by
  unfold frame_may frame_may_b
  refine newC_i fun g1 w1 hg1 hs1 hb1 he1 => ?_
  have hb1' : BI w1 g1 i := hb1
  simp only [add_mk, Nat.zero_add]
  unfold isB at hk
  refine ldP_I hb1' (by omega) (iteB_i (fun h => ?_) fun h => ?_)
  · refine ldA_I hb1' hi (check_s hi fun w2 he2 => ?_)
    have := hk _ (he1.trans he2)
    rwa [h, Bool.true_and] at this
  · have := hk _ he1
    rwa [h, Bool.false_and] at this
theorem is_s {i : List Int} {op : Int} {w : World} {k : Bool → World → Prop} (hi : i.length = 5) (hk : ∀ w', Ext w w' → k (isB i op) w') : pelotonref05_is (agI i) op w k := by
  unfold pelotonref05_is pelotonref05_is_b
  refine newC_i fun g1 w1 hg1 hs1 hb1 he1 => ?_
  have hb1' : BI w1 g1 i := hb1
  simp only [add_mk, Nat.zero_add]
  unfold isB at hk
  refine ldP_I hb1' (by omega) (iteB_i (fun h => ?_) fun h => ?_)
  · refine ldA_I hb1' hi (rcheck_s hi fun w2 he2 => ?_)
    have := hk _ (he1.trans he2)
    rwa [h, Bool.true_and] at this
  · have := hk _ he1
    rwa [h, Bool.false_and] at this
theorem one_s {b : Bool} {w : World} {k : Int → World → Prop} (hk : k (if b then 1 else 0) w) : frame_one b w k := by
  unfold frame_one
  cases b <;> exact hk
theorem chk_ok {i : List Int} (h : chk i = 0) : 0 ≤ i.getD 0 0 ∧ i.getD 0 0 < 17 ∧ ∀ j, j < 4 → (spanOf (i.getD 0 0).toNat j).1 ≤ i.getD (j + 1) 0 ∧ i.getD (j + 1) 0 ≤ (spanOf (i.getD 0 0).toNat j).2 := by
  unfold chk at h
  split at h
  · cases h
  · rename_i h0
    split at h
    · rename_i h1
      simp only [Bool.and_eq_true] at h1
      refine ⟨by omega, by omega, fun j hj => ?_⟩
      rcases four hj with rfl | rfl | rfl | rfl
      · exact of_decide_eq_true h1.1.1.1
      · exact of_decide_eq_true h1.1.1.2
      · exact of_decide_eq_true h1.1.2
      · exact of_decide_eq_true h1.2
    · cases h
theorem spans_le : ∀ op, op < 17 → ∀ j, j < 3 → 0 ≤ (spanOf op j).1 ∧ (spanOf op j).2 ≤ 7 := by decide
theorem chk_regs {i : List Int} (h : chk i = 0) : (0 ≤ i.getD 1 0 ∧ i.getD 1 0 < 8) ∧ (0 ≤ i.getD 2 0 ∧ i.getD 2 0 < 8) ∧ 0 ≤ i.getD 3 0 ∧ i.getD 3 0 < 8 := by
  obtain ⟨h0, h1, hs⟩ := chk_ok h
  have a := hs 0 (by omega); have b := hs 1 (by omega); have c := hs 2 (by omega)
  have a' := spans_le (i.getD 0 0).toNat (by omega) 0 (by omega)
  have b' := spans_le (i.getD 0 0).toNat (by omega) 1 (by omega)
  have c' := spans_le (i.getD 0 0).toNat (by omega) 2 (by omega)
  simp only [Nat.zero_add, Nat.reduceAdd] at a b c
  omega
end Go.Proofs.YtgkfbagclkjilaaGreatDoor.Fr
namespace Go.Proofs.YtgkfbagclkjilaaGreatDoor.Fr
open Go Go.Ev Go.Proofs
abbrev fR (f : List Int) (r : Int) : Int := f.getD (2 + r.toNat) 0
def sumV (f i : List Int) : Int :=
  if i.getD 0 0 = 0 then i.getD 4 0 else if i.getD 0 0 = 1 then fR f (i.getD 2 0) else if i.getD 0 0 = 2 then IntKind.i64.wrap (fR f (i.getD 2 0) + fR f (i.getD 3 0))
  else if i.getD 0 0 = 3 then IntKind.i64.wrap (fR f (i.getD 2 0) - fR f (i.getD 3 0)) else if i.getD 0 0 = 4 then IntKind.i64.wrap (fR f (i.getD 2 0) * fR f (i.getD 3 0))
  else if fR f (i.getD 2 0) < fR f (i.getD 3 0) then 1 else 0
def fPlain (f i : List Int) : List Int × Bool :=
  if chk i ≠ 0 then (f, false)
  else if i.getD 0 0 = 6 ∨ (i.getD 0 0 = 7 ∧ fR f (i.getD 1 0) ≠ 0) then (fTo f (i.getD 4 0), true)
  else if i.getD 0 0 = 7 then (fOn f, true)
  else if i.getD 0 0 > 5 then (f, false)
  else (fOn (f.set (2 + (i.getD 1 0).toNat) (sumV f i)), true)
theorem fPlain_len {f i : List Int} (hf : f.length = 19) : (fPlain f i).1.length = 19 := by
  unfold fPlain
  split
  · exact hf
  · split
    · simp only [fTo_len, hf]
    · split
      · simp only [fOn_len, hf]
      · split
        · exact hf
        · simp only [fOn_len, List.length_set, hf]
def sumFs (g3 gb gc : Nat) : Array Value := #[.func (.func n_frame_Frame_sums_1) #[] #[.pointer (some ⟨g3, 0, none⟩)], .func (.func n_frame_Frame_sums_2) #[] #[.pointer (some ⟨gb, 0, none⟩)], .func (.func n_frame_Frame_sums_3) #[] #[.pointer (some ⟨gb, 0, none⟩), .pointer (some ⟨gc, 0, none⟩)],
  .func (.func n_frame_Frame_sums_4) #[] #[.pointer (some ⟨gb, 0, none⟩), .pointer (some ⟨gc, 0, none⟩)], .func (.func n_frame_Frame_sums_5) #[] #[.pointer (some ⟨gb, 0, none⟩), .pointer (some ⟨gc, 0, none⟩)], .func (.func n_frame_Frame_sums_6) #[] #[.pointer (some ⟨gb, 0, none⟩), .pointer (some ⟨gc, 0, none⟩)]]
theorem sums_s {f i : List Int} {w : World} {k : Sl → World → Prop} (hf : f.length = 19) (hi : i.length = 5) (hB : 0 ≤ i.getD 2 0 ∧ i.getD 2 0 < 8) (hC : 0 ≤ i.getD 3 0 ∧ i.getD 3 0 < 8)
    (hk : ∀ w' g g3 gb gc, Ext w w' → Blk w' g (sumFs g3 gb gc) → BI w' g3 i → BI w' gb [fR f (i.getD 2 0)] → BI w' gc [fR f (i.getD 3 0)] → k ⟨some ⟨g, 0, none⟩, 6, 6⟩ w') : frame_Frame_sums (agI f) (agI i) w k := by
  unfold frame_Frame_sums
  refine newC_i fun g1 w1 hg1 hs1 hb1 he1 => newC_i fun g2 w2 hg2 hs2 hb2 he2 => ?_
  have hb1' : BI w2 g1 f := hb1.ext he2
  have hb2' : BI w2 g2 i := hb2
  simp only [add_mk, Nat.zero_add]
  refine joinP_i (fun x w' => Ext w2 w' ∧ ∃ gb gc, x = (⟨gb, 0, none⟩, ⟨gc, 0, none⟩) ∧ BI w' gb [fR f (i.getD 2 0)] ∧ BI w' gc [fR f (i.getD 3 0)]) ?_ ?_
  · intro J hJ
    refine drew_i fun w3 hh3 he3 => ?_
    have hb13 : BI w3 g1 f := hb1'.ext he3
    have hb23 : BI w3 g2 i := hb2'.ext he3
    refine ldP_I hb23 (by omega) (ixP_i hB.1 (by omega) (ldP_I hb13 (by omega) ?_))
    refine ldP_I hb23 (by omega) (ixP_i hC.1 (by omega) (ldP_I hb13 (by omega) ?_))
    simp only [Nat.mul_one]
    have st : ∀ {w' : World} {n o : Nat} {c : Prop}, Ext w3 w' → c → samec n ⟨g1, o, none⟩ w3 w' c := fun he hc => samec_B hb13 (hb13.ext he) hc
    have st2 : ∀ {w' : World} {n o : Nat} {c : Prop}, Ext w3 w' → c → samec n ⟨g2, o, none⟩ w3 w' c := fun he hc => samec_B hb23 (hb23.ext he) hc
    refine ⟨?_, ?_⟩
    · refine newC_i fun g4 w4 hg4 hs4 hb4 he4 => st he4 (st2 he4 (st he4 (st2 he4 ?_)))
      refine newC_i fun g5 w5 hg5 hs5 hb5 he5 => ?_
      have he35 := he4.trans he5
      refine st he35 (st2 he35 (st he35 (st2 he35 ?_)))
      refine stC_I (l := [0]) (hb4.ext he5) (by simp) fun w6 hb6 hs6 ho6 => ?_
      have he36 := he35.then ho6 fun g hg => by omega
      refine st he36 (st2 he36 ?_)
      refine stC_I (l := [0]) (hb5.keep ho6 (by omega)) (by simp) fun w7 hb7 hs7 ho7 => ?_
      exact hJ _ _ ⟨he3.trans (he36.then ho7 fun g hg => by omega), g4, g5, rfl, hb6.keep ho7 (by omega), hb7⟩
    · refine newC_i fun g4 w4 hg4 hs4 hb4 he4 => st he4 (st2 he4 (st he4 (st2 he4 ?_)))
      refine newC_i fun g5 w5 hg5 hs5 hb5 he5 => ?_
      have he35 := he4.trans he5
      refine st he35 (st2 he35 (st he35 (st2 he35 ?_)))
      refine stC_I (l := [0]) hb5 (by simp) fun w6 hb6 hs6 ho6 => ?_
      have he36 := he35.then ho6 fun g hg => by omega
      refine st he36 (st2 he36 ?_)
      refine stC_I (l := [0]) ((hb4.ext he5).keep ho6 (by omega)) (by simp) fun w7 hb7 hs7 ho7 => ?_
      exact hJ _ _ ⟨he3.trans (he36.then ho7 fun g hg => by omega), g5, g4, rfl, hb6.keep ho7 (by omega), hb7⟩
  · rintro x w3 ⟨he3, gb, gc, rfl, hbb, hbc⟩
    refine newC_i fun g4 w4 hg4 hs4 hb4 he4 => ?_
    exact hk w4 g4 g2 gb gc (((he1.trans he2).trans he3).trans he4) hb4 ((hb2'.ext he3).ext he4) (hbb.ext he4) (hbc.ext he4)
theorem plain_F {f i : List Int} {w : World} {k : Array Value × Bool → World → Prop} (hf : f.length = 19) (hi : i.length = 5) (hk : ∀ w', Ext w w' → k (agI (fPlain f i).1, (fPlain f i).2) w') : frame_Frame_Plain (agI f) (agI i) w k := by
  unfold frame_Frame_Plain frame_Frame_Plain_b
  refine newC_i fun g1 w1 hg1 hs1 hb1 he1 => newC_i fun g2 w2 hg2 hs2 hb2 he2 => newC_i fun g3 w3 hg3 hs3 hb3 he3 => ?_
  have he13 := (he1.trans he2).trans he3
  have hb1' : BI w3 g1 f := (hb1.ext he2).ext he3
  have hb2' : BI w3 g2 i := hb2.ext he3
  have hsz := he1.size
  simp only [add_mk, Nat.zero_add]
  -- the result's block
  have fin : ∀ (l : List Int) (b : Bool) (w' : World), Ext w3 w' → l.length = 19 → (fPlain f i) = (l, b) → (stA 19 w' ⟨g3, 0, none⟩ (agI l) fun w9 => ldA 19 w9 ⟨g3, 0, none⟩ fun cs => k (cs, b) w9) := by
    intro l b w' he hl e
    refine stA_I (hb3.ext he) rfl hl fun w9 hb9 hs9 ho9 => ldA_I hb9 hl ?_
    have := hk w9 ((he13.trans he).then ho9 fun g hg => by omega)
    rwa [e] at this
  refine ldA_I hb2' hi (check_s hi fun w4 he4 => ?_)
  have hb14 : BI w4 g1 f := hb1'.ext he4
  have hb24 : BI w4 g2 i := hb2'.ext he4
  refine iteB_i (fun h => ldA_I hb14 hf (fin f false w4 he4 hf ?_)) fun h => ?_
  · unfold fPlain; rw [if_pos (by simpa using h)]
  have h : chk i = 0 := by simpa using h
  obtain ⟨hA, hB, hC⟩ := chk_regs h
  obtain ⟨h0, h17, _⟩ := chk_ok h
  refine ldP_I hb24 (by omega) ?_
  refine joinP_i (fun b w' => b = decide (i.getD 0 0 = 6 ∨ (i.getD 0 0 = 7 ∧ fR f (i.getD 1 0) ≠ 0)) ∧ w4 = w') ?_ ?_
  · intro J hJ
    refine iteB_i (fun h6 => ?_) fun h6 => ?_
    · refine hJ _ _ ⟨?_, rfl⟩
      rw [h6]
      exact (decide_eq_true (.inl (by simpa using h6))).symm
    · have h6 : i.getD 0 0 ≠ 6 := by simpa using h6
      refine ldP_I hb24 (by omega) (iteB_i (fun h7 => ?_) fun h7 => ?_)
      · have h7 : i.getD 0 0 = 7 := by simpa using h7
        refine ldP_I hb24 (by omega) (ixP_i hA.1 (by omega) (ldP_I hb14 (by omega) (hJ _ _ ⟨?_, rfl⟩)))
        rw [Nat.mul_one, Bool.eq_iff_iff]
        simp only [bne_iff_ne, decide_eq_true_eq]
        constructor
        · intro hne; exact .inr ⟨h7, hne⟩
        · rintro (h | ⟨_, h⟩)
          · omega
          · exact h
      · have h7 : i.getD 0 0 ≠ 7 := by simpa using h7
        exact hJ _ _ ⟨(decide_eq_false (by omega)).symm, rfl⟩
  rintro _ _ ⟨rfl, rfl⟩
  refine iteB_i (fun h1 => ?_) fun h1 => ?_
  · have h1 := of_decide_eq_true h1
    refine ldA_I hb14 hf (ldP_I hb24 (by omega) (to_s hf fun w5 he5 => fin _ true w5 (he4.trans he5) (by rw [fTo_len, hf]) ?_))
    unfold fPlain; rw [if_neg (by simp [h]), if_pos h1]
  have h1 := of_decide_eq_false h1
  refine ldP_I hb24 (by omega) (iteB_i (fun h7 => ?_) fun h7 => ?_)
  · have h7 : i.getD 0 0 = 7 := by simpa using h7
    refine ldA_I hb14 hf (on_s hf fun w5 he5 => fin _ true w5 (he4.trans he5) (by rw [fOn_len, hf]) ?_)
    unfold fPlain; rw [if_neg (by simp [h]), if_neg h1, if_pos h7]
  have h7 : i.getD 0 0 ≠ 7 := by simpa using h7
  refine ldP_I hb24 (by omega) (iteB_i (fun h5 => ?_) fun h5 => ?_)
  · have h5 : i.getD 0 0 > 5 := by simpa using h5
    refine ldA_I hb14 hf (fin f false w4 he4 hf ?_)
    unfold fPlain; rw [if_neg (by simp [h]), if_neg h1, if_neg h7, if_pos h5]
  have h5 : ¬ i.getD 0 0 > 5 := by simpa using h5
  refine drew_i fun w5 hh5 he5 => ?_
  have hb15 : BI w5 g1 f := hb14.ext he5
  have hb25 : BI w5 g2 i := hb24.ext he5
  refine ldP_I hb25 (by omega) (ldA_I hb15 hf (ldA_I hb25 hi (ldP_I hb25 (by omega) ?_)))
  refine sums_s hf hi hB hC fun w6 g ga gb gc he6 hbg hba hbb hbc => ?_
  have hb16 : BI w6 g1 f := hb15.ext he6
  have hb26 : BI w6 g2 i := hb25.ext he6
  refine samec_B hb25 hb26 (samec_B hb25 hb26 ?_)
  -- the call's result is stored
  have tail : ∀ (v : Value), v = .int .i64 (sumV f i) → (toI .i64 v fun i48 => samec 1 ⟨g2, 1, none⟩ w5 w6 (ixP ⟨g1, 2, none⟩ 8 (i.getD 1 0) 1 fun a49 => stC w6 a49 (.int .i64 i48) fun w50 => ldA 19 w50 ⟨g1, 0, none⟩ fun cs51 =>
      frame_Frame_Passed cs51 w50 fun cs52 w53 => stA 19 w53 ⟨g3, 0, none⟩ cs52 fun w54 => ldA 19 w54 ⟨g3, 0, none⟩ fun cs55 => k (cs55, true) w54)) := by
    rintro _ rfl
    refine toI_i (samec_B hb25 hb26 (ixP_i hA.1 (by omega) ?_))
    rw [Nat.mul_one]
    refine stC_I hb16 (by omega) fun w7 hb7 hs7 ho7 => ?_
    have he7 : Ext w3 w7 ∨ True := .inr trivial
    refine ldA_I hb7 (by simp [hf]) (on_s (by simp [hf]) fun w8 he8 => ?_)
    have hb38 := (((((hb3.ext he4).ext he5).ext he6).keep ho7 (by omega)).ext he8)
    refine stA_I hb38 rfl (by rw [fOn_len]; simp [hf]) fun w9 hb9 hs9 ho9 => ldA_I hb9 (by rw [fOn_len]; simp [hf]) ?_
    have e : fPlain f i = (fOn (f.set (2 + (i.getD 1 0).toNat) (sumV f i)), true) := by
      unfold fPlain; rw [if_neg (by simp [h]), if_neg h1, if_neg h7, if_neg h5]
    have := hk w9 ((((((he13.trans he4).trans he5).trans he6).then ho7 fun g hg => by omega).trans he8).then ho9 fun g hg => by omega)
    rwa [e] at this
  have h6 : i.getD 0 0 ≠ 6 := fun e => h1 (.inl e)
  have hop : i.getD 0 0 = 0 ∨ i.getD 0 0 = 1 ∨ i.getD 0 0 = 2 ∨ i.getD 0 0 = 3 ∨ i.getD 0 0 = 4 ∨ i.getD 0 0 = 5 := by omega
  refine ixS_b h0 (by omega) ?_
  rw [Nat.mul_one, Nat.zero_add]
  have hcell : ∀ n : Nat, w6.cell? ⟨g, n, none⟩ = (sumFs ga gb gc)[n]? := fun n => hbg.cell n
  rcases hop with e | e | e | e | e | e
  all_goals
    rw [e]
    refine ldV_i (by rw [hcell]; rfl) ?_
  · show ldI .i64 w6 (Addr.add ⟨ga, 0, none⟩ 4) _
    rw [add_mk]
    refine ldP_I hba (by omega) (tail _ ?_)
    simp only [sumV, e]; rfl
  · show ldI .i64 w6 ⟨gb, 0, none⟩ _
    refine ldP_I hbb (by simp) (tail _ ?_)
    simp only [sumV, e]; rfl
  · show ldI .i64 w6 ⟨gb, 0, none⟩ fun i1 => ldI .i64 w6 ⟨gc, 0, none⟩ fun i2 => _
    refine ldP_I hbb (by simp) (ldP_I hbc (by simp) (tail _ ?_))
    simp only [sumV, e]; rfl
  · show ldI .i64 w6 ⟨gb, 0, none⟩ fun i1 => ldI .i64 w6 ⟨gc, 0, none⟩ fun i2 => _
    refine ldP_I hbb (by simp) (ldP_I hbc (by simp) (tail _ ?_))
    simp only [sumV, e]; rfl
  · show ldI .i64 w6 ⟨gb, 0, none⟩ fun i1 => ldI .i64 w6 ⟨gc, 0, none⟩ fun i2 => _
    refine ldP_I hbb (by simp) (ldP_I hbc (by simp) (tail _ ?_))
    simp only [sumV, e]; rfl
  · show ldI .i64 w6 ⟨gb, 0, none⟩ fun i1 => ldI .i64 w6 ⟨gc, 0, none⟩ fun i2 => frame_one (decide (i1 < i2)) w6 fun i3 w4 => _
    refine ldP_I hbb (by simp) (ldP_I hbc (by simp) (one_s (tail _ ?_)))
    have e1 : List.getD [fR f (i.getD 2 0)] 0 0 = fR f (i.getD 2 0) := rfl
    have e2 : List.getD [fR f (i.getD 3 0)] 0 0 = fR f (i.getD 3 0) := rfl
    rw [e1, e2]
    simp only [sumV, e]
    by_cases hlt : fR f (i.getD 2 0) < fR f (i.getD 3 0)
    · rw [decide_eq_true hlt, if_pos hlt]; rfl
    · rw [decide_eq_false hlt, if_neg hlt]; rfl
end Go.Proofs.YtgkfbagclkjilaaGreatDoor.Fr
namespace Go.Proofs.YtgkfbagclkjilaaGreatDoor.Fr
open Go Go.Ev Go.Proofs
theorem regs_get {f : List Int} {r : Nat} (hr : r < 8) : ((f.drop 2).take 8).getD r 0 = f.getD (2 + r) 0 := by
  rw [List.getD_eq_getElem?_getD, List.getElem?_take_of_lt hr, List.getElem?_drop, List.getD_eq_getElem?_getD]
theorem regs_len {f : List Int} (hf : f.length = 19) : ((f.drop 2).take 8).length = 8 := by
  rw [List.length_take, List.length_drop, hf]; rfl
theorem rplain_s {f i : List Int} {w : World} {k : Array Value × Bool → World → Prop} (hf : f.length = 19) (hi : i.length = 5) (hk : ∀ w', Ext w w' → k (agI (fPlain f i).1, (fPlain f i).2) w') : pelotonref05_Task_Plain (agI f) (agI i) w k := by
  unfold pelotonref05_Task_Plain pelotonref05_Task_Plain_b
  refine newC_i fun g1 w1 hg1 hs1 hb1 he1 => newC_i fun g2 w2 hg2 hs2 hb2 he2 => newC_i fun g3 w3 hg3 hs3 hb3 he3 => ?_
  have he13 := (he1.trans he2).trans he3
  have hb1' : BI w3 g1 f := (hb1.ext he2).ext he3
  have hb2' : BI w3 g2 i := hb2.ext he3
  have hsz := he1.size
  simp only [add_mk, Nat.zero_add]
  have fin : ∀ (l : List Int) (b : Bool) (w' : World), Ext w3 w' → l.length = 19 → (fPlain f i) = (l, b) → (stA 19 w' ⟨g3, 0, none⟩ (agI l) fun w9 => ldA 19 w9 ⟨g3, 0, none⟩ fun cs => k (cs, b) w9) := by
    intro l b w' he hl e
    refine stA_I (hb3.ext he) rfl hl fun w9 hb9 hs9 ho9 => ldA_I hb9 hl ?_
    have := hk w9 ((he13.trans he).then ho9 fun g hg => by omega)
    rwa [e] at this
  refine ldA_I hb2' hi (rcheck_s hi fun w4 he4 => ?_)
  have hb14 : BI w4 g1 f := hb1'.ext he4
  have hb24 : BI w4 g2 i := hb2'.ext he4
  refine iteB_i (fun h => ldA_I hb14 hf (fin f false w4 he4 hf ?_)) fun h => ?_
  · unfold fPlain; rw [if_pos (by simpa using h)]
  have h : chk i = 0 := by simpa using h
  have hne : ¬ chk i ≠ 0 := by simp [h]
  obtain ⟨hA, hB, hC⟩ := chk_regs h
  obtain ⟨h0, h17, _⟩ := chk_ok h
  have hrl := regs_len hf
  refine ldA_P hb14 (by omega) (newC_i fun g5 w5 hg5 hs5 hb5 he5 => stA_I hb5 rfl hrl fun w6 hb6 hs6 ho6 => ?_)
  have he46 : Ext w4 w6 := he5.then ho6 fun g hg => by omega
  have he36 := he4.trans he46
  have tailOn : ∀ (v : Int) (w' : World), Ext w3 w' → fPlain f i = (fOn (f.set (2 + (i.getD 1 0).toNat) v), true) → (pelotonref05_Task_With (agI f) (i.getD 1 0) v w' fun cs21 w22 => pelotonref05_Task_On cs21 w22 fun cs23 w24 => stA 19 w24 ⟨g3, 0, none⟩ cs23 fun w25 => ldA 19 w25 ⟨g3, 0, none⟩ fun cs26 => k (cs26, true) w25) := by
    intro v w' he e
    refine with_s hf hA.1 hA.2 fun w7 he7 => ron_s (by simp [hf]) fun w8 he8 => fin _ true w8 ((he.trans he7).trans he8) (by rw [fOn_len]; simp [hf]) e
  have reg : ∀ (r : Int) (w' : World) (c : Int → Prop), 0 ≤ r ∧ r < 8 → Ext w6 w' → c (fR f r) → ixP ⟨g5, 0, none⟩ 8 r 1 fun a => ldI .i64 w' a c := by
    intro r w' c hr he hc
    refine ixP_i hr.1 (by omega) (ldP_I (hb6.ext he) (by omega) ?_)
    rw [Nat.mul_one, Nat.zero_add, regs_get (by omega)]
    exact hc
  have hb16 : BI w6 g1 f := hb14.ext he46
  have hb26 : BI w6 g2 i := hb24.ext he46
  have n6 : ∀ {x : Int}, i.getD 0 0 = x → x ≠ 6 → x ≠ 7 → ¬ (i.getD 0 0 = 6 ∨ (i.getD 0 0 = 7 ∧ fR f (i.getD 1 0) ≠ 0)) := fun e h6 h7 => by omega
  have plainE : ∀ {x v : Int}, i.getD 0 0 = x → x ≤ 5 → sumV f i = v → fPlain f i = (fOn (f.set (2 + (i.getD 1 0).toNat) v), true) := by
    intro x v e hx hv
    unfold fPlain
    rw [if_neg hne, if_neg (n6 e (by omega) (by omega)), if_neg (by omega), if_neg (by omega), hv]
  refine ldP_I hb26 (by omega) ?_
  refine iteB_i (fun e => ?_) fun e0 => ?_
  · have e : i.getD 0 0 = 0 := by simpa using e
    refine ldA_I hb16 hf (ldP_I hb26 (by omega) (ldP_I hb26 (by omega) (tailOn _ w6 he36 (plainE e (by decide) ?_))))
    unfold sumV; rw [if_pos e]
  have e0 : i.getD 0 0 ≠ 0 := by simpa using e0
  refine iteB_i (fun e => ?_) fun e1 => ?_
  · have e : i.getD 0 0 = 1 := by simpa using e
    refine drew_i fun w7 hh7 he7 => ?_
    have hb17 : BI w7 g1 f := hb16.ext he7
    have hb27 : BI w7 g2 i := hb26.ext he7
    refine ldA_I hb17 hf (ldP_I hb27 (by omega) (ldP_I hb27 (by omega) (reg _ _ _ hB he7 (tailOn _ w7 (he36.trans he7) (plainE e (by decide) ?_)))))
    unfold sumV; rw [if_neg e0, if_pos e]
  have e1 : i.getD 0 0 ≠ 1 := by simpa using e1
  refine iteB_i (fun e => ?_) fun e2 => ?_
  · have e : i.getD 0 0 = 2 := by simpa using e
    refine drew_i fun w7 hh7 he7 => ?_
    have hb17 : BI w7 g1 f := hb16.ext he7
    have hb27 : BI w7 g2 i := hb26.ext he7
    refine ldA_I hb17 hf (ldP_I hb27 (by omega) (ldP_I hb27 (by omega) (reg _ _ _ hB he7 (ldP_I hb27 (by omega) (reg _ _ _ hC he7 (tailOn _ w7 (he36.trans he7) (plainE e (by decide) ?_)))))))
    unfold sumV; rw [if_neg e0, if_neg e1, if_pos e]
  have e2 : i.getD 0 0 ≠ 2 := by simpa using e2
  refine iteB_i (fun e => ?_) fun e3 => ?_
  · have e : i.getD 0 0 = 3 := by simpa using e
    refine drew_i fun w7 hh7 he7 => ?_
    have hb17 : BI w7 g1 f := hb16.ext he7
    have hb27 : BI w7 g2 i := hb26.ext he7
    refine ldA_I hb17 hf (ldP_I hb27 (by omega) (ldP_I hb27 (by omega) (reg _ _ _ hB he7 (ldP_I hb27 (by omega) (reg _ _ _ hC he7 (tailOn _ w7 (he36.trans he7) (plainE e (by decide) ?_)))))))
    unfold sumV; rw [if_neg e0, if_neg e1, if_neg e2, if_pos e]
  have e3 : i.getD 0 0 ≠ 3 := by simpa using e3
  refine iteB_i (fun e => ?_) fun e4 => ?_
  · have e : i.getD 0 0 = 4 := by simpa using e
    refine drew_i fun w7 hh7 he7 => ?_
    have hb17 : BI w7 g1 f := hb16.ext he7
    have hb27 : BI w7 g2 i := hb26.ext he7
    refine ldA_I hb17 hf (ldP_I hb27 (by omega) (ldP_I hb27 (by omega) (reg _ _ _ hB he7 (ldP_I hb27 (by omega) (reg _ _ _ hC he7 (tailOn _ w7 (he36.trans he7) (plainE e (by decide) ?_)))))))
    unfold sumV; rw [if_neg e0, if_neg e1, if_neg e2, if_neg e3, if_pos e]
  have e4 : i.getD 0 0 ≠ 4 := by simpa using e4
  refine iteB_i (fun e => ?_) fun e5 => ?_
  · have e : i.getD 0 0 = 5 := by simpa using e
    refine drew_i fun w7 hh7 he7 => ?_
    have hb17 : BI w7 g1 f := hb16.ext he7
    have hb27 : BI w7 g2 i := hb26.ext he7
    refine ldP_I hb27 (by omega) (reg _ _ _ hB he7 (ldP_I hb27 (by omega) (reg _ _ _ hC he7 ?_)))
    refine iteB_i (fun hlt => ?_) fun hlt => ?_
    · refine ldA_I hb17 hf (ldP_I hb27 (by omega) (tailOn _ w7 (he36.trans he7) (plainE e (by decide) ?_)))
      unfold sumV; rw [if_neg e0, if_neg e1, if_neg e2, if_neg e3, if_neg e4, if_pos (of_decide_eq_true hlt)]
    · refine ldA_I hb17 hf (ldP_I hb27 (by omega) (tailOn _ w7 (he36.trans he7) (plainE e (by decide) ?_)))
      unfold sumV; rw [if_neg e0, if_neg e1, if_neg e2, if_neg e3, if_neg e4, if_neg (of_decide_eq_false hlt)]
  have e5 : i.getD 0 0 ≠ 5 := by simpa using e5
  refine iteB_i (fun e => ?_) fun e6 => ?_
  · have e : i.getD 0 0 = 6 := by simpa using e
    refine ldA_I hb16 hf (ldP_I hb26 (by omega) (rto_s hf fun w7 he7 => fin _ true w7 (he36.trans he7) (by rw [fTo_len, hf]) ?_))
    unfold fPlain; rw [if_neg hne, if_pos (.inl e)]
  have e6 : i.getD 0 0 ≠ 6 := by simpa using e6
  refine iteB_i (fun e => ?_) fun e7 => ?_
  · have e : i.getD 0 0 = 7 := by simpa using e
    refine ldP_I hb26 (by omega) (reg _ _ _ hA (.refl _ _) ?_)
    refine iteB_i (fun hz => ?_) fun hz => ?_
    · refine ldA_I hb16 hf (ldP_I hb26 (by omega) (rto_s hf fun w7 he7 => fin _ true w7 (he36.trans he7) (by rw [fTo_len, hf]) ?_))
      unfold fPlain; rw [if_neg hne, if_pos (.inr ⟨e, by simpa using hz⟩)]
    · refine ldA_I hb16 hf (ron_s hf fun w7 he7 => fin _ true w7 (he36.trans he7) (by rw [fOn_len, hf]) ?_)
      have hz : fR f (i.getD 1 0) = 0 := by simpa using hz
      unfold fPlain; rw [if_neg hne, if_neg (by rintro (h | ⟨_, h⟩); exact e6 h; exact h hz), if_pos e]
  have e7 : i.getD 0 0 ≠ 7 := by simpa using e7
  refine ldA_I hb16 hf (fin f false w6 he36 hf ?_)
  unfold fPlain; rw [if_neg hne, if_neg (by rintro (h | ⟨h, _⟩); exact e6 h; exact e7 h), if_neg e7, if_pos (by omega)]
end Go.Proofs.YtgkfbagclkjilaaGreatDoor.Fr
namespace Go.Proofs.YtgkfbagclkjilaaGreatDoor.Fr
open Go Go.Ev Go.Proofs
theorem isB_true {i : List Int} {op : Int} (h : isB i op = true) : i.getD 0 0 = op ∧ chk i = 0 := by
  unfold isB at h
  simp only [Bool.and_eq_true, beq_iff_eq] at h
  exact h
def fClosed (f i : List Int) (asked : Bool) : List Int := if isB i 12 then fOn (f.set (2 + (i.getD 1 0).toNat) (if asked then 1 else 0)) else f
def fForked (f i : List Int) (id : Int) : List Int := if isB i 8 then fOn (f.set (10 + (i.getD 1 0).toNat) id) else f
def fJoined (f i : List Int) (kind v : Int) : List Int × Int × Bool :=
  if kind < 2 ∨ kind > 4 ∨ (isB i 9 = false ∧ isB i 10 = false) then (f, 0, false)
  else if isB i 10 then (fOn ((f.set (2 + (i.getD 1 0).toNat) (if kind = 4 then 0 else v)).set (2 + (i.getD 2 0).toNat) (IntKind.i64.wrap (kind - 2))), 0, false)
  else if kind = 2 then (fOn (f.set (2 + (i.getD 1 0).toNat) v), 0, false)
  else (fTo f (f.getD 1 0), if kind = 4 then -1 else v, true)
theorem fClosed_len {f i : List Int} {b : Bool} : (fClosed f i b).length = f.length := by
  unfold fClosed; split
  · rw [fOn_len, List.length_set]
  · rfl
theorem fForked_len {f i : List Int} {b : Int} : (fForked f i b).length = f.length := by
  unfold fForked; split
  · rw [fOn_len, List.length_set]
  · rfl
theorem fJoined_len {f i : List Int} {kind v : Int} : (fJoined f i kind v).1.length = f.length := by
  unfold fJoined
  split
  · rfl
  · split
    · simp only [fOn_len, List.length_set]
    · split
      · simp only [fOn_len, List.length_set]
      · simp only [fTo_len]
theorem closed_s {f i : List Int} {b : Bool} {w : World} {k : Array Value → World → Prop} (hf : f.length = 19) (hi : i.length = 5) (hk : ∀ w', Ext w w' → k (agI (fClosed f i b)) w') : frame_Frame_Closed (agI f) (agI i) b w k := by
  unfold frame_Frame_Closed frame_Frame_Closed_b
  refine newC_i fun g1 w1 hg1 hs1 hb1 he1 => newC_i fun g2 w2 hg2 hs2 hb2 he2 => newC_i fun g3 w3 hg3 hs3 hb3 he3 => ?_
  have he13 := (he1.trans he2).trans he3
  have hb1' : BI w3 g1 f := (hb1.ext he2).ext he3
  have hb2' : BI w3 g2 i := hb2.ext he3
  have hsz := he1.size
  simp only [add_mk, Nat.zero_add]
  refine ldA_I hb1' hf (newC_i fun g4 w4 hg4 hs4 hb4 he4 => stA_I hb4 rfl hf fun w5 hb5 hs5 ho5 => ?_)
  have he35 : Ext w3 w5 := he4.then ho5 fun g hg => by omega
  simp only [add_mk, Nat.zero_add]
  refine ldA_I (hb2'.ext he35) hi (may_s hi fun w6 he6 => ?_)
  have he36 := he35.trans he6
  refine iteB_i (fun h => ?_) fun h => ?_
  · obtain ⟨hA, hB, hC⟩ := chk_regs (isB_true h).2
    refine drew_i fun w7 hh7 he7 => ?_
    have he37 := he36.trans he7
    have hb27 : BI w7 g2 i := hb2'.ext he37
    refine ldP_I hb27 (by omega) (one_s (samec_B hb27 hb27 (ixP_i hA.1 (by omega) ?_)))
    rw [Nat.mul_one]
    refine stC_I ((hb5.ext he6).ext he7) (by omega) fun w8 hb8 hs8 ho8 => ldA_I hb8 (by simp [hf]) (on_s (by simp [hf]) fun w9 he9 => ?_)
    refine stA_I (((hb3.ext he37).keep ho8 (by omega)).ext he9) rfl (by rw [fOn_len]; simp [hf]) fun w10 hb10 hs10 ho10 => ldA_I hb10 (by rw [fOn_len]; simp [hf]) ?_
    have := hk w10 ((((he13.trans he37).then ho8 fun g hg => by omega).trans he9).then ho10 fun g hg => by omega)
    unfold fClosed at this
    rwa [if_pos h] at this
  · refine ldA_I (hb1'.ext he36) hf (stA_I (hb3.ext he36) rfl hf fun w10 hb10 hs10 ho10 => ldA_I hb10 hf ?_)
    have := hk w10 ((he13.trans he36).then ho10 fun g hg => by omega)
    unfold fClosed at this
    rwa [if_neg (by simp [h])] at this
theorem rclosed_s {f i : List Int} {b : Bool} {w : World} {k : Array Value → World → Prop} (hf : f.length = 19) (hi : i.length = 5) (hk : ∀ w', Ext w w' → k (agI (fClosed f i b)) w') : pelotonref05_Task_Closed (agI f) (agI i) b w k := by
  unfold pelotonref05_Task_Closed pelotonref05_Task_Closed_b
  refine newC_i fun g1 w1 hg1 hs1 hb1 he1 => newC_i fun g2 w2 hg2 hs2 hb2 he2 => newC_i fun g3 w3 hg3 hs3 hb3 he3 => ?_
  have he13 := (he1.trans he2).trans he3
  have hb1' : BI w3 g1 f := (hb1.ext he2).ext he3
  have hb2' : BI w3 g2 i := hb2.ext he3
  have hsz := he1.size
  simp only [add_mk, Nat.zero_add]
  have fin : ∀ (l : List Int) (w' : World), Ext w3 w' → l.length = 19 → fClosed f i b = l → (stA 19 w' ⟨g3, 0, none⟩ (agI l) fun w9 => ldA 19 w9 ⟨g3, 0, none⟩ fun cs => k cs w9) := by
    intro l w' he hl e
    refine stA_I (hb3.ext he) rfl hl fun w9 hb9 hs9 ho9 => ldA_I hb9 hl ?_
    have := hk w9 ((he13.trans he).then ho9 fun g hg => by omega)
    rwa [e] at this
  refine ldA_I hb2' hi (is_s hi fun w4 he4 => ?_)
  have hb14 : BI w4 g1 f := hb1'.ext he4
  have hb24 : BI w4 g2 i := hb2'.ext he4
  refine iteB_i (fun h => ldA_I hb14 hf (fin f w4 he4 hf ?_)) fun h => ?_
  · unfold fClosed; rw [if_neg (by simpa using h)]
  have h : isB i 12 = true := by simpa using h
  obtain ⟨hA, hB, hC⟩ := chk_regs (isB_true h).2
  refine iteB_i (fun hb => ?_) fun hb => ?_
  · refine ldA_I hb14 hf (ldP_I hb24 (by omega) (with_s hf hA.1 hA.2 fun w5 he5 => ron_s (by simp [hf]) fun w6 he6 => fin _ w6 ((he4.trans he5).trans he6) (by rw [fOn_len]; simp [hf]) ?_))
    unfold fClosed; rw [if_pos h, hb]; rfl
  · refine ldA_I hb14 hf (ldP_I hb24 (by omega) (with_s hf hA.1 hA.2 fun w5 he5 => ron_s (by simp [hf]) fun w6 he6 => fin _ w6 ((he4.trans he5).trans he6) (by rw [fOn_len]; simp [hf]) ?_))
    unfold fClosed; rw [if_pos h, hb]; rfl
theorem forked_s {f i : List Int} {id : Int} {w : World} {k : Array Value → World → Prop} (hf : f.length = 19) (hi : i.length = 5) (hk : ∀ w', Ext w w' → k (agI (fForked f i id)) w') : frame_Frame_Forked (agI f) (agI i) id w k := by
  unfold frame_Frame_Forked frame_Frame_Forked_b
  refine newC_i fun g1 w1 hg1 hs1 hb1 he1 => newC_i fun g2 w2 hg2 hs2 hb2 he2 => newC_i fun g3 w3 hg3 hs3 hb3 he3 => ?_
  have he13 := (he1.trans he2).trans he3
  have hb1' : BI w3 g1 f := (hb1.ext he2).ext he3
  have hb2' : BI w3 g2 i := hb2.ext he3
  have hsz := he1.size
  simp only [add_mk, Nat.zero_add]
  refine ldA_I hb2' hi (may_s hi fun w4 he4 => ?_)
  have hb14 : BI w4 g1 f := hb1'.ext he4
  have hb24 : BI w4 g2 i := hb2'.ext he4
  refine iteB_i (fun h => ?_) fun h => ?_
  · refine ldA_I hb14 hf (stA_I (hb3.ext he4) rfl hf fun w10 hb10 hs10 ho10 => ldA_I hb10 hf ?_)
    have := hk w10 ((he13.trans he4).then ho10 fun g hg => by omega)
    unfold fForked at this
    rwa [if_neg (by simpa using h)] at this
  · have h : isB i 8 = true := by simpa using h
    obtain ⟨hA, hB, hC⟩ := chk_regs (isB_true h).2
    refine ldP_I hb24 (by omega) (ixP_i hA.1 (by omega) ?_)
    rw [Nat.mul_one]
    refine stC_I hb14 (by omega) fun w8 hb8 hs8 ho8 => ldA_I hb8 (by simp [hf]) (on_s (by simp [hf]) fun w9 he9 => ?_)
    refine stA_I (((hb3.ext he4).keep ho8 (by omega)).ext he9) rfl (by rw [fOn_len]; simp [hf]) fun w10 hb10 hs10 ho10 => ldA_I hb10 (by rw [fOn_len]; simp [hf]) ?_
    have := hk w10 ((((he13.trans he4).then ho8 fun g hg => by omega).trans he9).then ho10 fun g hg => by omega)
    unfold fForked at this
    rwa [if_pos h] at this
theorem rforked_s {f i : List Int} {id : Int} {w : World} {k : Array Value → World → Prop} (hf : f.length = 19) (hi : i.length = 5) (hk : ∀ w', Ext w w' → k (agI (fForked f i id)) w') : pelotonref05_Task_Forked (agI f) (agI i) id w k := by
  unfold pelotonref05_Task_Forked pelotonref05_Task_Forked_b
  refine newC_i fun g1 w1 hg1 hs1 hb1 he1 => newC_i fun g2 w2 hg2 hs2 hb2 he2 => newC_i fun g3 w3 hg3 hs3 hb3 he3 => ?_
  have he13 := (he1.trans he2).trans he3
  have hb1' : BI w3 g1 f := (hb1.ext he2).ext he3
  have hb2' : BI w3 g2 i := hb2.ext he3
  have hsz := he1.size
  simp only [add_mk, Nat.zero_add]
  refine ldA_I hb2' hi (is_s hi fun w4 he4 => ?_)
  have hb14 : BI w4 g1 f := hb1'.ext he4
  have hb24 : BI w4 g2 i := hb2'.ext he4
  refine iteB_i (fun h => ?_) fun h => ?_
  · refine ldA_I hb14 hf (stA_I (hb3.ext he4) rfl hf fun w10 hb10 hs10 ho10 => ldA_I hb10 hf ?_)
    have := hk w10 ((he13.trans he4).then ho10 fun g hg => by omega)
    unfold fForked at this
    rwa [if_neg (by simpa using h)] at this
  · have h : isB i 8 = true := by simpa using h
    obtain ⟨hA, hB, hC⟩ := chk_regs (isB_true h).2
    refine ldP_I hb24 (by omega) (ixP_i hA.1 (by omega) ?_)
    rw [Nat.mul_one]
    refine stC_I hb14 (by omega) fun w8 hb8 hs8 ho8 => ldA_I hb8 (by simp [hf]) (ron_s (by simp [hf]) fun w9 he9 => ?_)
    refine stA_I (((hb3.ext he4).keep ho8 (by omega)).ext he9) rfl (by rw [fOn_len]; simp [hf]) fun w10 hb10 hs10 ho10 => ldA_I hb10 (by rw [fOn_len]; simp [hf]) ?_
    have := hk w10 ((((he13.trans he4).then ho8 fun g hg => by omega).trans he9).then ho10 fun g hg => by omega)
    unfold fForked at this
    rwa [if_pos h] at this
theorem joined_s {f i : List Int} {kind v : Int} {w : World} {k : Array Value × Int × Bool → World → Prop} (hf : f.length = 19) (hi : i.length = 5) (hk : ∀ w', Ext w w' → k (agI (fJoined f i kind v).1, (fJoined f i kind v).2.1, (fJoined f i kind v).2.2) w') : frame_Frame_Joined (agI f) (agI i) kind v w k := by
  unfold frame_Frame_Joined frame_Frame_Joined_b
  refine newC_i fun g1 w1 hg1 hs1 hb1 he1 => newC_i fun g2 w2 hg2 hs2 hb2 he2 => newC_i fun g3 w3 hg3 hs3 hb3 he3 => ?_
  have he13 := (he1.trans he2).trans he3
  have hb1' : BI w3 g1 f := (hb1.ext he2).ext he3
  have hb2' : BI w3 g2 i := hb2.ext he3
  have hsz := he1.size
  simp only [add_mk, Nat.zero_add]
  have fin : ∀ (l : List Int) (a : Int) (b : Bool) (w' : World), Ext w w' → Blk w' g3 (agI (Z 19)) → l.length = 19 → fJoined f i kind v = (l, a, b) → (stA 19 w' ⟨g3, 0, none⟩ (agI l) fun w9 => ldA 19 w9 ⟨g3, 0, none⟩ fun cs => k (cs, (a, b)) w9) := by
    intro l a b w' he hb hl e
    refine stA_I hb rfl hl fun w9 hb9 hs9 ho9 => ldA_I hb9 hl ?_
    have := hk w9 (he.then ho9 fun g hg => by omega)
    rwa [e] at this
  have hb3' : Blk w3 g3 (agI (Z 19)) := hb3
  refine joinP_i (fun x w' => x = decide (kind < 2 ∨ kind > 4 ∨ (isB i 9 = false ∧ isB i 10 = false)) ∧ Ext w3 w') ?_ ?_
  · intro J hJ
    refine iteB_i (fun h => hJ _ _ ⟨?_, .refl _ _⟩) fun h => ?_
    · simp only [Bool.or_eq_true, decide_eq_true_eq] at h
      exact (decide_eq_true (by omega)).symm
    · simp only [Bool.or_eq_false_iff, decide_eq_false_iff_not] at h
      refine ldA_I hb2' hi (may_s hi fun w4 he4 => ?_)
      refine iteB_i (fun h9 => ?_) fun h9 => ?_
      · have h9 : isB i 9 = false := by simpa using h9
        refine ldA_I (hb2'.ext he4) hi (may_s hi fun w5 he5 => hJ _ _ ⟨?_, he4.trans he5⟩)
        rw [Bool.eq_iff_iff]
        simp only [Bool.not_eq_true', decide_eq_true_eq]
        constructor
        · intro h10; exact .inr (.inr ⟨h9, h10⟩)
        · rintro (h' | h' | ⟨_, h'⟩)
          · omega
          · omega
          · exact h'
      · have h9 : isB i 9 = true := by simpa using h9
        refine hJ _ _ ⟨?_, he4⟩
        rw [eq_comm, decide_eq_false_iff_not]
        rintro (h' | h' | ⟨h', _⟩)
        · omega
        · omega
        · rw [h9] at h'; cases h'
  rintro _ w4 ⟨rfl, he4⟩
  have he14 := he13.trans he4
  have hb14 : BI w4 g1 f := hb1'.ext he4
  have hb24 : BI w4 g2 i := hb2'.ext he4
  refine iteB_i (fun h => ?_) fun h => ?_
  · have h := of_decide_eq_true h
    refine ldA_I hb14 hf (fin f 0 false w4 he14 (hb3'.ext he4) hf ?_)
    unfold fJoined; rw [if_pos h]
  have h := of_decide_eq_false h
  have hchk : chk i = 0 ∧ (i.getD 0 0 = 10 ↔ isB i 10 = true) := by
    cases h10 : isB i 10 with
    | true => exact ⟨(isB_true h10).2, fun _ => rfl, fun _ => (isB_true h10).1⟩
    | false =>
      cases h9 : isB i 9 with
      | true => exact ⟨(isB_true h9).2, fun e => (by have := (isB_true h9).1; omega), fun e => by cases e⟩
      | false => exact absurd (.inr (.inr ⟨h9, h10⟩)) h
  obtain ⟨hA, hB, hC⟩ := chk_regs hchk.1
  refine joinP_i (fun x w' => w4 = w' ∧ fJoined f i kind v = (fTo f (f.getD 1 0), x, true)) ?_ ?_
  · intro J hJ
    refine ldP_I hb24 (by omega) (iteB_i (fun h10 => ?_) fun h10 => ?_)
    · have h10 : isB i 10 = true := hchk.2.1 (by simpa using h10)
      refine joinP_i (fun x w' => w4 = w' ∧ x = if kind = 4 then 0 else v) ?_ ?_
      · intro J2 hJ2
        refine iteB_i (fun h4 => hJ2 _ _ ⟨rfl, ?_⟩) fun h4 => hJ2 _ _ ⟨rfl, ?_⟩
        · rw [if_pos (by simpa using h4)]
        · rw [if_neg (by simpa using h4)]
      rintro _ _ ⟨rfl, rfl⟩
      refine drew_i fun w5 hh5 he5 => ?_
      have hb15 : BI w5 g1 f := hb14.ext he5
      have hb25 : BI w5 g2 i := hb24.ext he5
      refine ldP_I hb25 (by omega) (ldP_I hb25 (by omega) (ixP_i hA.1 (by omega) ?_))
      rw [Nat.mul_one]
      refine stC_I hb15 (by omega) fun w6 hb6 hs6 ho6 => samec_B hb25 (hb25.keep ho6 (by omega)) (ixP_i hB.1 (by omega) ?_)
      rw [Nat.mul_one]
      refine stC_I hb6 (by rw [List.length_set]; omega) fun w7 hb7 hs7 ho7 => ldA_I hb7 (by simp [hf]) (on_s (by simp [hf]) fun w8 he8 => ?_)
      refine fin _ 0 false w8 (((((he14.trans he5).then ho6 fun g hg => by omega).then ho7 fun g hg => by omega).trans he8)) (((((hb3'.ext he4).ext he5).keep ho6 (by omega)).keep ho7 (by omega)).ext he8) (by rw [fOn_len]; simp [hf]) ?_
      unfold fJoined; rw [if_neg h, if_pos h10]
    · have h10' : isB i 10 = false := by
        cases h' : isB i 10 with
        | false => rfl
        | true => exact absurd (hchk.2.2 h') (by simpa using h10)
      refine iteB_i (fun h2 => ?_) fun h2 => ?_
      · have h2 : kind = 2 := by simpa using h2
        refine ldP_I hb24 (by omega) (ixP_i hA.1 (by omega) ?_)
        rw [Nat.mul_one]
        refine stC_I hb14 (by omega) fun w6 hb6 hs6 ho6 => ldA_I hb6 (by simp [hf]) (on_s (by simp [hf]) fun w8 he8 => ?_)
        refine fin _ 0 false w8 ((he14.then ho6 fun g hg => by omega).trans he8) (((hb3'.ext he4).keep ho6 (by omega)).ext he8) (by rw [fOn_len]; simp [hf]) ?_
        unfold fJoined; rw [if_neg h, if_neg (by simp [h10']), if_pos h2]
      · have h2 : kind ≠ 2 := by simpa using h2
        refine iteB_i (fun h4 => hJ _ _ ⟨rfl, ?_⟩) fun h4 => hJ _ _ ⟨rfl, ?_⟩
        · unfold fJoined; rw [if_neg h, if_neg (by simp [h10']), if_neg h2, if_pos (by simpa using h4)]
        · unfold fJoined; rw [if_neg h, if_neg (by simp [h10']), if_neg h2, if_neg (by simpa using h4)]
  · rintro x _ ⟨rfl, e⟩
    exact ldA_I hb14 hf (ldP_I hb14 (by omega) (to_s hf fun w5 he5 => fin _ x true w5 (he14.trans he5) ((hb3'.ext he4).ext he5) (by rw [fTo_len, hf]) e))
theorem rjoined_s {f i : List Int} {kind v : Int} {w : World} {k : Array Value × Int × Bool → World → Prop} (hf : f.length = 19) (hi : i.length = 5) (hk : ∀ w', Ext w w' → k (agI (fJoined f i kind v).1, (fJoined f i kind v).2.1, (fJoined f i kind v).2.2) w') : pelotonref05_Task_Joined (agI f) (agI i) kind v w k := by
  unfold pelotonref05_Task_Joined pelotonref05_Task_Joined_b
  refine newC_i fun g1 w1 hg1 hs1 hb1 he1 => newC_i fun g2 w2 hg2 hs2 hb2 he2 => newC_i fun g3 w3 hg3 hs3 hb3 he3 => ?_
  have he13 := (he1.trans he2).trans he3
  have hb1' : BI w3 g1 f := (hb1.ext he2).ext he3
  have hb2' : BI w3 g2 i := hb2.ext he3
  have hsz := he1.size
  simp only [add_mk, Nat.zero_add]
  have fin : ∀ (l : List Int) (a : Int) (b : Bool) (w' : World), Ext w3 w' → l.length = 19 → fJoined f i kind v = (l, a, b) → (stA 19 w' ⟨g3, 0, none⟩ (agI l) fun w9 => ldA 19 w9 ⟨g3, 0, none⟩ fun cs => k (cs, (a, b)) w9) := by
    intro l a b w' he hl e
    refine stA_I (hb3.ext he) rfl hl fun w9 hb9 hs9 ho9 => ldA_I hb9 hl ?_
    have := hk w9 ((he13.trans he).then ho9 fun g hg => by omega)
    rwa [e] at this
  refine iteB_i (fun h => ldA_I hb1' hf (fin f 0 false w3 (.refl _ _) hf ?_)) fun h => ?_
  · simp only [Bool.and_eq_true, bne_iff_ne] at h
    unfold fJoined; rw [if_pos (by omega)]
  have hkind : kind = 2 ∨ kind = 3 ∨ kind = 4 := by
    by_cases h2 : kind = 2
    · exact .inl h2
    · by_cases h3 : kind = 3
      · exact .inr (.inl h3)
      · by_cases h4 : kind = 4
        · exact .inr (.inr h4)
        · simp [h2, h3, h4] at h
  refine joinP_i (fun x w' => w3 = w' ∧ x = if kind = 4 then 0 else v) ?_ ?_
  · intro J2 hJ2
    refine iteB_i (fun h4 => hJ2 _ _ ⟨rfl, ?_⟩) fun h4 => hJ2 _ _ ⟨rfl, ?_⟩
    · rw [if_pos (by simpa using h4)]
    · rw [if_neg (by simpa using h4)]
  rintro _ _ ⟨rfl, rfl⟩
  refine ldA_I hb2' hi (is_s hi fun w4 he4 => iteB_i (fun h10 => ?_) fun h10 => ?_)
  · obtain ⟨hA, hB, hC⟩ := chk_regs (isB_true h10).2
    refine drew_i fun w5 hh5 he5 => ?_
    have hb15 : BI w5 g1 f := (hb1'.ext he4).ext he5
    have hb25 : BI w5 g2 i := (hb2'.ext he4).ext he5
    refine ldA_I hb15 hf (ldP_I hb25 (by omega) (ldP_I hb25 (by omega) (with_s hf hA.1 hA.2 fun w6 he6 => samec_B hb25 (hb25.ext he6) (with_s (by simp [hf]) hB.1 hB.2 fun w7 he7 => ron_s (by simp [hf]) fun w8 he8 => ?_))))
    refine fin _ 0 false w8 ((((he4.trans he5).trans he6).trans he7).trans he8) (by rw [fOn_len]; simp [hf]) ?_
    unfold fJoined; rw [if_neg (by rintro (h' | h' | ⟨_, h'⟩); omega; omega; rw [h10] at h'; cases h'), if_pos h10]
  · refine ldA_I (hb2'.ext he4) hi (is_s hi fun w5 he5 => iteB_i (fun h9 => ?_) fun h9 => ?_)
    · have h9 : isB i 9 = false := by simpa using h9
      refine ldA_I ((hb1'.ext he4).ext he5) hf (fin f 0 false w5 (he4.trans he5) hf ?_)
      unfold fJoined; rw [if_pos (.inr (.inr ⟨h9, h10⟩))]
    have h9 : isB i 9 = true := by simpa using h9
    have hn : ¬ (kind < 2 ∨ kind > 4 ∨ (isB i 9 = false ∧ isB i 10 = false)) := by
      rintro (h' | h' | ⟨h', _⟩)
      · omega
      · omega
      · rw [h9] at h'; cases h'
    obtain ⟨hA, hB, hC⟩ := chk_regs (isB_true h9).2
    have hb15 : BI w5 g1 f := (hb1'.ext he4).ext he5
    have hb25 : BI w5 g2 i := (hb2'.ext he4).ext he5
    have he35 := he4.trans he5
    refine iteB_i (fun h2 => ?_) fun h2 => ?_
    · have h2 : kind = 2 := by simpa using h2
      refine ldA_I hb15 hf (ldP_I hb25 (by omega) (with_s hf hA.1 hA.2 fun w6 he6 => ron_s (by simp [hf]) fun w7 he7 => fin _ 0 false w7 ((he35.trans he6).trans he7) (by rw [fOn_len]; simp [hf]) ?_))
      unfold fJoined; rw [if_neg hn, if_neg (by simp [h10]), if_pos h2, if_neg (by omega)]
    · have h2 : kind ≠ 2 := by simpa using h2
      refine iteB_i (fun h4 => ?_) fun h4 => ?_
      · have h4 : kind = 4 := by simpa using h4
        refine ldA_I hb15 hf (ldP_I hb15 (by omega) (rto_s hf fun w6 he6 => fin _ _ true w6 (he35.trans he6) (by rw [fTo_len, hf]) ?_))
        unfold fJoined; rw [if_neg hn, if_neg (by simp [h10]), if_neg h2, if_pos h4]
      · have h4 : kind ≠ 4 := by simpa using h4
        refine ldA_I hb15 hf (ldP_I hb15 (by omega) (rto_s hf fun w6 he6 => fin _ _ true w6 (he35.trans he6) (by rw [fTo_len, hf]) ?_))
        unfold fJoined; rw [if_neg hn, if_neg (by simp [h10]), if_neg h2, if_neg h4, if_neg h4]
end Go.Proofs.YtgkfbagclkjilaaGreatDoor.Fr
namespace Go.Proofs.YtgkfbagclkjilaaGreatDoor.Fr
open Go Go.Ev Go.Proofs
theorem bv_pow {h : Nat} (hh : h < 63) : bv (shlV .i64 1 (h : Int)) = BitVec.twoPow 64 h := by
  unfold shlV
  have e : min ((h : Int).toNat) IntKind.i64.bits = h := by simp [IntKind.bits]; omega
  rw [e, wrapI, bv_of_toInt, Int.one_mul]
  apply BitVec.eq_of_toNat_eq
  rw [BitVec.toNat_ofInt, BitVec.toNat_twoPow]
  have h2 : (2 ^ h : Nat) < 2 ^ 64 := Nat.pow_lt_pow_right (by omega) (by omega)
  have h3 : ((2 : Int) ^ h) = ((2 ^ h : Nat) : Int) := by simp
  rw [h3, Nat.mod_eq_of_lt h2]
  generalize (2 ^ h : Nat) = m at *
  omega
theorem and_shl {x : Int} {h : Nat} (hh : h < 63) : (andI .i64 x (shlV .i64 1 (h : Int)) != 0) = tb x h := by
  rw [andI_bv, bv_pow hh, BitVec.and_twoPow]
  unfold tb
  cases hb : (bv x).getLsbD h with
  | false => rfl
  | true =>
    simp only [if_true]
    have : (BitVec.twoPow 64 h).toInt ≠ 0 := by
      intro e
      have h1 : BitVec.twoPow 64 h = 0#64 := by
        apply BitVec.eq_of_toInt_eq
        rw [e]; rfl
      have h2 := congrArg (fun b => b.getLsbD h) h1
      simp at h2
      omega
    simpa using this
def fHs (f : List Int) (needs : Int) (n : Nat) : List Int := (List.range n).map fun h => if tb needs h then f.getD (10 + h) 0 else -1
def fChild (f : List Int) (n needs : Int) : List Int := [n, 0] ++ ((f.drop 2).take 8 ++ (fHs f needs 8 ++ [0]))
def fHalf (f : List Int) (n needs : Int) (j : Nat) : List Int := [n, 0] ++ ((f.drop 2).take 8 ++ (fHs f needs j ++ (List.replicate (8 - j) (-1) ++ [0])))
theorem fHs_len {f : List Int} {needs : Int} {n : Nat} : (fHs f needs n).length = n := by simp [fHs]
theorem fHs_succ {f : List Int} {needs : Int} {n : Nat} : fHs f needs (n + 1) = fHs f needs n ++ [if tb needs n then f.getD (10 + n) 0 else -1] := by
  simp [fHs, List.range_succ]
theorem fHalf_len {f : List Int} {n needs : Int} {j : Nat} (hf : f.length = 19) (hj : j ≤ 8) : (fHalf f n needs j).length = 19 := by
  unfold fHalf
  simp only [List.length_append, List.length_cons, List.length_nil, fHs_len, List.length_replicate, regs_len hf]
  omega
theorem fHalf_zero {f : List Int} {n needs : Int} (hf : f.length = 19) : fHalf f n needs 0 = ((fRoot.set 0 n).take 2 ++ ((f.drop 2).take 8 ++ (fRoot.set 0 n).drop (2 + 8))) := rfl
theorem fHalf_yes {f : List Int} {n needs : Int} {j : Nat} (hf : f.length = 19) (hj : j < 8) (hb : tb needs j = true) : (fHalf f n needs j).set (10 + j) (f.getD (10 + j) 0) = fHalf f n needs (j + 1) := by
  unfold fHalf
  have hr := regs_len hf
  have e8 : 8 - j = (8 - (j + 1)) + 1 := by omega
  rw [List.set_append_right _ _ (by simp; omega), List.set_append_right _ _ (by simp [hr]; omega), List.set_append_right _ _ (by simp [hr, fHs_len]; omega)]
  rw [fHs_succ, hb, e8, List.replicate_succ]
  have e0 : 10 + j - 2 - 8 - j = 0 := by omega
  simp [hr, fHs_len, e0]
theorem fHalf_no {f : List Int} {n needs : Int} {j : Nat} (hj : j < 8) (hb : tb needs j = false) : fHalf f n needs j = fHalf f n needs (j + 1) := by
  unfold fHalf
  have e8 : 8 - j = (8 - (j + 1)) + 1 := by omega
  rw [fHs_succ, hb, e8, List.replicate_succ]
  simp
def cellsF (x : Int × Sl) : List Value := [.int .i64 x.1, .slice x.2.a x.2.n x.2.c]
def Funcs (w : World) (s : Sl) (fs : List (Int × Sl)) : Prop := Rws 2 w s (fs.map cellsF)
theorem Funcs.len {w : World} {s : Sl} {fs : List (Int × Sl)} (h : Funcs w s fs) : s.n = fs.length := by have := Rws.len h; simp at this; omega
theorem Funcs.ext {w w' : World} {s : Sl} {fs : List (Int × Sl)} (h : Funcs w s fs) (he : Ext w w') : Funcs w' s fs := Rws.ext h he
theorem ixF {w : World} {s : Sl} {fs : List (Int × Sl)} {i : Int} {x : Int × Sl} {c : Addr → Prop} (h : Funcs w s fs) (h0 : 0 ≤ i) (hi : fs[i.toNat]? = some x)
    (hc : ∀ p : Addr, w.cell? (p.add 0) = some (.int .i64 x.1) → w.cell? (p.add 1) = some (.slice x.2.a x.2.n x.2.c) → c p) : ixS s i 2 c := by
  have hl := Funcs.len h
  have hlt := (List.getElem?_eq_some_iff.1 hi).1
  refine ixR_i h h0 (by omega) fun p e he _ hcell => ?_
  rw [List.getElem?_map, hi] at he
  cases he
  exact hc p (hcell 0 _ rfl) (hcell 1 _ rfl)
theorem fork_N {i : List Int} (h : isB i 8 = true) : 0 ≤ i.getD 4 0 ∧ i.getD 4 0 ≤ 31 := by
  obtain ⟨h8, hc⟩ := isB_true h
  obtain ⟨_, _, hs⟩ := chk_ok hc
  have := hs 3 (by omega)
  rw [h8] at this
  exact this
theorem child_s {f i : List Int} {s : Sl} {fs : List (Int × Sl)} {w : World} {k : Array Value × Int → World → Prop} (hf : f.length = 19) (hi : i.length = 5) (hp : Funcs w s fs)
    (h1 : isB i 8 = false → ∀ w', Ext w w' → k (agI (Z 19), 1) w') (h2 : isB i 8 = true → fs.length ≤ (i.getD 4 0).toNat → ∀ w', Ext w w' → k (agI (Z 19), 17) w')
    (h3 : isB i 8 = true → ∀ x, fs[(i.getD 4 0).toNat]? = some x → ∀ w', Ext w w' → k (agI (fChild f (i.getD 4 0) x.1), 0) w') : frame_Frame_Child (agI f) #[.slice s.a s.n s.c] (agI i) w k := by
  unfold frame_Frame_Child frame_Frame_Child_b
  refine newC_i fun g1 w1 hg1 hs1 hb1 he1 => newC_i fun gp wp hgp hsp hbp hep => newC_i fun g2 w2 hg2 hs2 hb2 he2 => newC_i fun g3 w3 hg3 hs3 hb3 he3 => ?_
  have he13 := ((he1.trans hep).trans he2).trans he3
  have hb1' : BI w3 g1 f := ((hb1.ext hep).ext he2).ext he3
  have hb2' : BI w3 g2 i := hb2.ext he3
  have hbp' : Blk w3 gp #[.slice s.a s.n s.c] := (hbp.ext he2).ext he3
  have hsz := he1.size
  have hln := hp.len
  simp only [add_mk, Nat.zero_add]
  refine ldA_I hb2' hi (may_s hi fun w4 he4 => ?_)
  have hb14 : BI w4 g1 f := hb1'.ext he4
  have hb24 : BI w4 g2 i := hb2'.ext he4
  have hbp4 := hbp'.ext he4
  have he14 := he13.trans he4
  refine iteB_i (fun h => ?_) fun h => ?_
  · refine stA_I (l := Z 19) (hb3.ext he4) rfl rfl fun w5 hb5 hs5 ho5 => ldA_I hb5 rfl ?_
    exact h1 (by simpa using h) _ (he14.then ho5 fun g hg => by omega)
  have h : isB i 8 = true := by simpa using h
  obtain ⟨hN0, hN1⟩ := fork_N h
  refine ldP_I hb24 (by omega) (ldS_i (s := s) (hbp4.cell 0) (iteB_i (fun hge => ?_) fun hlt => ?_))
  · have hge : i.getD 4 0 ≥ s.n := of_decide_eq_true hge
    refine stA_I (l := Z 19) (hb3.ext he4) rfl rfl fun w5 hb5 hs5 ho5 => ldA_I hb5 rfl ?_
    exact h2 h (by omega) _ (he14.then ho5 fun g hg => by omega)
  have hlt : i.getD 4 0 < s.n := by have := of_decide_eq_false hlt; omega
  obtain ⟨x, hx⟩ : ∃ x, fs[(i.getD 4 0).toNat]? = some x := ⟨_, List.getElem?_eq_getElem (by omega)⟩
  refine root_s fun w5 he5 => newC_i fun g6 w6 hg6 hs6 hb6 he6 => ?_
  simp only [add_mk, Nat.zero_add]
  refine stA_I (l := fRoot) hb6 rfl rfl fun w7 hb7 hs7 ho7 => ?_
  have hs5 := he5.size
  have he47 : Ext w4 w7 := (he5.trans he6).then ho7 fun g hg => by omega
  refine drew_i fun w8 hh8 he8 => ?_
  have he48 := he47.trans he8
  have hb18 : BI w8 g1 f := hb14.ext he48
  have hb28 : BI w8 g2 i := hb24.ext he48
  refine ldP_I hb28 (by omega) (ldA_P hb18 (by omega) ?_)
  have hg16 : g1 ≠ g6 := by have := hb14.lt; omega
  refine stC_I (hb7.ext he8) (by decide) fun w9 hb9 hs9 ho9 => samec_B hb18 (hb18.keep ho9 hg16) ?_
  refine stA_P hb9 (regs_len hf) (by rw [List.length_set]; decide) fun w10 hb10 hs10 ho10 => ?_
  rw [← fHalf_zero (needs := x.1) hf] at hb10
  have he10 : Ext w4 w10 := (he48.then ho9 fun g hg => by omega).then ho10 fun g hg => by omega
  refine loopP_of (fun (y : Int) w' => ∃ j : Nat, y = j ∧ j ≤ 8 ∧ Ext w4 w' ∧ BI w' g6 (fHalf f (i.getD 4 0) x.1 j)) (fun y _ => (8 - y).toNat) ⟨0, rfl, by omega, he10, hb10⟩ ?_
  rintro _ w11 ⟨j, rfl, hj, he11, hb11⟩ C hC
  refine iteB_i (fun hlt8 => ?_) fun hge => ?_
  · have hj8 : j < 8 := by have : (j : Int) < 8 := by simpa using hlt8
                           omega
    have hw : IntKind.i64.wrap ((j : Int) + 1) = ((j + 1 : Nat) : Int) := by rw [wrap_id ⟨by omega, by omega⟩]; simp
    refine drew_i fun w12 hh12 he12 => ?_
    have he412 := he11.trans he12
    refine ldS_i (s := s) ((hbp4.ext he412).cell 0) (ldP_I (hb24.ext he412) (by omega) ?_)
    refine ixF (hp.ext (he14.trans he412)) hN0 hx fun p hc0 hc1 => ldI_i hc0 (shlI_i (by omega) ?_)
    rw [and_shl (by omega)]
    refine iteB_i (fun hb => ?_) fun hb => ?_
    · refine ixP_i (by omega) (by omega) (ldP_I (hb14.ext he412) (by simp; omega) (ixP_i (by omega) (by omega) ?_))
      simp only [Int.toNat_natCast, Nat.mul_one]
      have hl := fHalf_len (n := i.getD 4 0) (needs := x.1) hf hj
      refine stC_I (hb11.ext he12) (by omega) fun w13 hb13 hs13 ho13 => ?_
      rw [fHalf_yes hf hj8 hb] at hb13
      exact hC _ _ ⟨j + 1, hw, by omega, he412.then ho13 fun g hg => by omega, hb13⟩ (by rw [hw]; omega)
    · refine hC _ _ ⟨j + 1, hw, by omega, he412, ?_⟩ (by rw [hw]; omega)
      rw [← fHalf_no hj8 hb]
      exact hb11.ext he12
  · have hj8 : j = 8 := by have : ¬ (j : Int) < 8 := by simpa using hge
                           omega
    subst hj8
    have hl := fHalf_len (n := i.getD 4 0) (needs := x.1) hf hj
    refine ldA_I hb11 hl (stA_I ((hb3.ext he4).ext he11) rfl hl fun w12 hb12 hs12 ho12 => ldA_I hb12 hl ?_)
    exact h3 h x hx _ ((he14.trans he11).then ho12 fun g hg => by omega)
theorem rchild_s {f : List Int} {n needs : Int} {w : World} {k : Array Value → World → Prop} (hf : f.length = 19) (hn : InI needs) (hk : ∀ w', Ext w w' → k (agI (fChild f n needs)) w') : pelotonref05_Task_Child (agI f) n needs w k := by
  unfold pelotonref05_Task_Child pelotonref05_Task_Child_b
  refine newC_i fun g1 w1 hg1 hs1 hb1 he1 => newC_i fun g2 w2 hg2 hs2 hb2 he2 => ?_
  have he12 := he1.trans he2
  have hb1' : BI w2 g1 f := hb1.ext he2
  have hsz := he1.size
  simp only [add_mk, Nat.zero_add]
  refine rroot_s fun w5 he5 => newC_i fun g6 w6 hg6 hs6 hb6 he6 => ?_
  simp only [add_mk, Nat.zero_add]
  refine stA_I (l := fRoot) hb6 rfl rfl fun w7 hb7 hs7 ho7 => ?_
  have hs5 := he5.size
  have he27 : Ext w2 w7 := (he5.trans he6).then ho7 fun g hg => by omega
  have hg16 : g1 ≠ g6 := by have := hb1'.lt; omega
  refine stC_I hb7 (by decide) fun w9 hb9 hs9 ho9 => ldA_P ((hb1'.ext he27).keep ho9 hg16) (by omega) ?_
  refine stA_P hb9 (regs_len hf) (by rw [List.length_set]; decide) fun w10 hb10 hs10 ho10 => ?_
  rw [← fHalf_zero (needs := needs) hf] at hb10
  have he10 : Ext w2 w10 := (he27.then ho9 fun g hg => by omega).then ho10 fun g hg => by omega
  refine loopP_of (fun (y : Int) w' => ∃ j : Nat, y = j ∧ j ≤ 8 ∧ Ext w2 w' ∧ BI w' g6 (fHalf f n needs j)) (fun y _ => (8 - y).toNat) ⟨0, rfl, by omega, he10, hb10⟩ ?_
  rintro _ w11 ⟨j, rfl, hj, he11, hb11⟩ C hC
  refine iteB_i (fun hlt8 => ?_) fun hge => ?_
  · have hj8 : j < 8 := by have : (j : Int) < 8 := by simpa using hlt8
                           omega
    have hw : IntKind.i64.wrap ((j : Int) + 1) = ((j + 1 : Nat) : Int) := by rw [wrap_id ⟨by omega, by omega⟩]; simp
    have hu : IntKind.u64.wrap (j : Int) = j := by
      simp only [IntKind.wrap, IntKind.bits, IntKind.signed]
      simp; omega
    rw [hu]
    refine shrI_i (by omega) ?_
    rw [and1 hn (by omega) (by omega), Int.toNat_natCast]
    refine iteB_i (fun hb => ?_) fun hb => ?_
    · refine ixP_i (by omega) (by omega) (ldP_I (hb1'.ext he11) (by simp; omega) (ixP_i (by omega) (by omega) ?_))
      simp only [Int.toNat_natCast, Nat.mul_one]
      have hl := fHalf_len (n := n) (needs := needs) hf hj
      refine stC_I hb11 (by omega) fun w13 hb13 hs13 ho13 => ?_
      rw [fHalf_yes hf hj8 hb] at hb13
      exact hC _ _ ⟨j + 1, hw, by omega, he11.then ho13 fun g hg => by omega, hb13⟩ (by rw [hw]; omega)
    · refine hC _ _ ⟨j + 1, hw, by omega, he11, ?_⟩ (by rw [hw]; omega)
      rw [← fHalf_no hj8 hb]
      exact hb11
  · have hj8 : j = 8 := by have : ¬ (j : Int) < 8 := by simpa using hge
                           omega
    subst hj8
    have hl := fHalf_len (n := n) (needs := needs) hf hj
    refine ldA_I hb11 hl (stA_I (hb2.ext he11) rfl hl fun w12 hb12 hs12 ho12 => ldA_I hb12 hl ?_)
    exact hk _ ((he12.trans he11).then ho12 fun g hg => by omega)
end Go.Proofs.YtgkfbagclkjilaaGreatDoor.Fr
namespace Go.Ev
open Go Go.RowKit
structure HP where
  p : (Nat → Prop) → World → Prop
  lt : ∀ {F w g}, p F w → F g → g < w.heap.size
  keep : ∀ {F w w'}, p F w → (∀ g, F g → w'.heap[g]? = w.heap[g]?) → p F w'
def sepP : List HP → (Nat → Prop) → World → Prop
  | [], F, _ => ∀ g, ¬ F g
  | R :: L, F, w => ∃ F1 F2, R.p F1 w ∧ sepP L F2 w ∧ (∀ g, F1 g → ¬ F2 g) ∧ ∀ g, F g ↔ (F1 g ∨ F2 g)
theorem sepP_lt : ∀ {L : List HP} {F w g}, sepP L F w → F g → g < w.heap.size
  | [], F, w, g, h, hg => (h g hg).elim
  | R :: L, F, w, g, ⟨F1, F2, h1, h2, _, e⟩, hg => by
    rcases (e g).1 hg with hg | hg
    · exact R.lt h1 hg
    · exact sepP_lt h2 hg
theorem sepP_keep : ∀ {L : List HP} {F w w'}, sepP L F w → (∀ g, F g → w'.heap[g]? = w.heap[g]?) → sepP L F w'
  | [], F, w, w', h, _ => h
  | R :: L, F, w, w', ⟨F1, F2, h1, h2, hd, e⟩, hk =>
    ⟨F1, F2, R.keep h1 fun g hg => hk g ((e g).2 (.inl hg)), sepP_keep h2 fun g hg => hk g ((e g).2 (.inr hg)), hd, e⟩
theorem sepP_iff : ∀ {L : List HP} {F G w}, (∀ g, F g ↔ G g) → sepP L F w → sepP L G w
  | [], F, G, w, hfg, h => fun g hg => h g ((hfg g).2 hg)
  | R :: L, F, G, w, hfg, ⟨F1, F2, h1, h2, hd, e⟩ => ⟨F1, F2, h1, h2, hd, fun g => (hfg g).symm.trans (e g)⟩
theorem sepP_swap {R S : HP} {L : List HP} {F w} (h : sepP (R :: S :: L) F w) : sepP (S :: R :: L) F w := by
  obtain ⟨F1, F2, h1, ⟨F3, F4, h3, h4, hd', e'⟩, hd, e⟩ := h
  refine ⟨F3, fun g => F1 g ∨ F4 g, h3, ⟨F1, F4, h1, h4, fun g hg hg4 => hd g hg ((e' g).2 (.inr hg4)), fun g => Iff.rfl⟩, fun g hg hor => ?_, fun g => ?_⟩
  · rcases hor with h | h
    · exact hd g h ((e' g).2 (.inl hg))
    · exact hd' g hg h
  · rw [e, e']; constructor <;> (intro h; rcases h with h | h | h <;> simp [h])
structure St (w0 w : World) (L : List HP) : Prop where
  ext : Ext w0 w
  sep : ∃ F, sepP L F w ∧ ∀ g, F g → w0.heap.size ≤ g
theorem St.nil (w : World) : St w w [] := ⟨.refl _ _, fun _ => False, fun _ h => h, fun _ h => h.elim⟩
theorem St.of_ext {w0 w : World} (h : Ext w0 w) : St w0 w [] := ⟨h, fun _ => False, fun _ h => h, fun _ h => h.elim⟩
theorem St.on {w0 w w' : World} {L : List HP} (h : St w0 w L) (he : Ext w w') : St w0 w' L := by
  obtain ⟨h1, F, h2, h3⟩ := h
  exact ⟨h1.trans he, F, sepP_keep h2 fun g hg => he.block g (sepP_lt h2 hg) fun h => h, h3⟩
theorem St.swap {w0 w : World} {R S : HP} {L : List HP} (h : St w0 w (R :: S :: L)) : St w0 w (S :: R :: L) := by
  obtain ⟨h1, F, h2, h3⟩ := h
  exact ⟨h1, F, sepP_swap h2, h3⟩
theorem St.drop {w0 w : World} {R : HP} {L : List HP} (h : St w0 w (R :: L)) : St w0 w L := by
  obtain ⟨h1, F, ⟨F1, F2, h2, h4, h5, e⟩, h3⟩ := h
  exact ⟨h1, F2, h4, fun g hg => h3 g ((e g).2 (.inr hg))⟩
theorem St.all {w0 w : World} {L : List HP} (h : St w0 w L) : St w0 w [] := St.of_ext h.ext
theorem St.new {w0 w w' : World} {L : List HP} {X : HP} {F' : Nat → Prop} (h : St w0 w L) (he : Ext w w') (hx : X.p F' w') (hf : ∀ g, F' g → w.heap.size ≤ g) : St w0 w' (X :: L) := by
  obtain ⟨h1, F, h2, h3⟩ := h
  refine ⟨h1.trans he, fun g => F' g ∨ F g, ⟨F', F, hx, sepP_keep h2 fun g hg => he.block g (sepP_lt h2 hg) fun h => h, fun g hg hg2 => ?_, fun _ => Iff.rfl⟩, fun g hg => ?_⟩
  · have := hf g hg; have := sepP_lt h2 hg2; omega
  · rcases hg with hg | hg
    · have := hf g hg; have := h1.size; omega
    · exact h3 g hg
theorem St.turn {w0 w w' : World} {L : List HP} {R X : HP} (h : St w0 w (R :: L)) (hx : ∀ F1, R.p F1 w → Only F1 w w' ∧ ∃ F', X.p F' w' ∧ ∀ g, F' g → F1 g ∨ w.heap.size ≤ g) : St w0 w' (X :: L) := by
  obtain ⟨h1, F, ⟨F1, F2, h2, h4, h5, e⟩, h3⟩ := h
  obtain ⟨ho, F', hx, hf⟩ := hx F1 h2
  have hk2 : sepP L F2 w' := sepP_keep h4 fun g hg => ho.block g (sepP_lt h4 hg) fun h => h5 g h hg
  refine ⟨h1.then ho fun g hg => h3 g ((e g).2 (.inl hg)), fun g => F' g ∨ F2 g, ⟨F', F2, hx, hk2, fun g hg hg2 => ?_, fun _ => Iff.rfl⟩, fun g hg => ?_⟩
  · rcases hf g hg with h | h
    · exact h5 g h hg2
    · have := sepP_lt h4 hg2; omega
  · rcases hg with hg | hg
    · rcases hf g hg with h | h
      · exact h3 g ((e g).2 (.inl h))
      · have := h1.size; omega
    · exact h3 g ((e g).2 (.inr hg))
theorem St.look {w0 w : World} {R : HP} {L : List HP} (h : St w0 w (R :: L)) : ∃ F, R.p F w ∧ ∀ g, F g → w0.heap.size ≤ g := by
  obtain ⟨h1, F, ⟨F1, F2, h2, h4, h5, e⟩, h3⟩ := h
  exact ⟨F1, h2, fun g hg => h3 g ((e g).2 (.inl hg))⟩
theorem St.trans {a b c : World} {L : List HP} (h : Ext a b) (k : St b c L) : St a c L := by
  obtain ⟨h1, F, h2, h3⟩ := k
  exact ⟨h.trans h1, F, h2, fun g hg => by have := h3 g hg; have := h.size; omega⟩
theorem St.conv {w0 w : World} {R X : HP} {L : List HP} (h : St w0 w (R :: L)) (hx : ∀ F, R.p F w → X.p F w) : St w0 w (X :: L) := by
  obtain ⟨h1, F, ⟨F1, F2, h2, h4, h5, e⟩, h3⟩ := h
  exact ⟨h1, F, ⟨F1, F2, hx F1 h2, h4, h5, e⟩, h3⟩
class At {α : Type} (L : List HP) (k : α → HP) (x : outParam α) (f : outParam (HP → List HP)) : Prop where
  split : ∃ R, (∀ {F w}, sepP L F w → sepP (k x :: R) F w) ∧ ∀ {X F w}, sepP (X :: R) F w → sepP (f X) F w
instance (priority := high) At.here {α : Type} {L : List HP} {k : α → HP} {x : α} : At (k x :: L) k x (fun X => X :: L) := ⟨⟨L, id, id⟩⟩
instance At.there {α : Type} {L : List HP} {k : α → HP} {x : α} {Y : HP} {f : HP → List HP} [a : At L k x f] : At (Y :: L) k x (fun X => Y :: f X) := by
  constructor
  obtain ⟨R, h1, h2⟩ := a.split
  refine ⟨Y :: R, fun h => sepP_swap ?_, fun h => ?_⟩
  · obtain ⟨F1, F2, k2, k4, k5, e⟩ := h
    exact ⟨F1, F2, k2, h1 k4, k5, e⟩
  · obtain ⟨F1, F2, k2, k4, k5, e⟩ := sepP_swap h
    exact ⟨F1, F2, k2, h2 k4, k5, e⟩
theorem At.out {α : Type} {L : List HP} {k : α → HP} {x : α} {f : HP → List HP} (a : At L k x f) : ∃ R, (∀ {w0 w}, St w0 w L → St w0 w (k x :: R)) ∧ ∀ {X w0 w}, St w0 w (X :: R) → St w0 w (f X) := by
  obtain ⟨R, h1, h2⟩ := a.split
  exact ⟨R, fun ⟨a, F, b, c⟩ => ⟨a, F, h1 b, c⟩, fun ⟨a, F, b, c⟩ => ⟨a, F, h2 b, c⟩⟩
theorem St.look' {α : Type} {w0 w : World} {L : List HP} {k : α → HP} {x : α} {f : HP → List HP} (h : St w0 w L) (a : At L k x f) : ∃ F, (k x).p F w ∧ ∀ g, F g → w0.heap.size ≤ g := by
  obtain ⟨R, h1, h2⟩ := a.out
  exact (h1 h).look
theorem St.turn' {α : Type} {w0 w w' : World} {L : List HP} {k : α → HP} {x : α} {f : HP → List HP} {X : HP} (h : St w0 w L) (a : At L k x f) (hx : ∀ F1, (k x).p F1 w → Only F1 w w' ∧ ∃ F', X.p F' w' ∧ ∀ g, F' g → F1 g ∨ w.heap.size ≤ g) : St w0 w' (f X) := by
  obtain ⟨R, h1, h2⟩ := a.out
  exact h2 ((h1 h).turn hx)
theorem St.conv' {α : Type} {w0 w : World} {L : List HP} {k : α → HP} {x : α} {f : HP → List HP} {X : HP} (h : St w0 w L) (a : At L k x f) (hx : ∀ F, (k x).p F w → X.p F w) : St w0 w (f X) := by
  obtain ⟨R, h1, h2⟩ := a.out
  exact h2 ((h1 h).conv hx)
theorem sepP_front : ∀ {L : List HP} {n : Nat} {X : HP} {F w}, L[n]? = some X → sepP L F w → sepP (X :: L.eraseIdx n) F w
  | [], n, X, F, w, h, _ => by simp at h
  | R :: L, 0, X, F, w, h, hs => by simp at h; subst h; exact hs
  | R :: L, n + 1, X, F, w, h, ⟨F1, F2, h1, h2, h3, h4⟩ => by
    have := sepP_front (L := L) (n := n) (by simpa using h) h2
    exact sepP_swap ⟨F1, F2, h1, this, h3, h4⟩
theorem St.front {w0 w : World} {L : List HP} (h : St w0 w L) (n : Nat) {X : HP} (e : L[n]? = some X) : St w0 w (X :: L.eraseIdx n) := ⟨h.ext, by obtain ⟨F, h1, h2⟩ := h.sep; exact ⟨F, sepP_front e h1, h2⟩⟩
theorem St.rm {w0 w : World} {L : List HP} (h : St w0 w L) (n : Nat) {X : HP} (e : L[n]? = some X) : St w0 w (L.eraseIdx n) := (h.front n e).drop
theorem samec_self {n : Nat} {a : Addr} {w : World} {c : Prop} (hc : c) : samec n a w w c := ⟨fun _ _ => rfl, hc⟩
def blk (g : Nat) (cs : List Value) : HP where
  p F w := (∀ k, F k ↔ k = g) ∧ Blk w g cs.toArray
  lt := fun ⟨e, h⟩ hg => by rw [(e _).1 hg]; exact h.lt
  keep := fun ⟨e, h⟩ hk => ⟨e, by obtain ⟨t, h⟩ := h; exact ⟨t, (hk _ ((e _).2 rfl)).trans h⟩⟩
section
variable {w0 w : World} {L : List HP} {g : Nat} {cs : List Value} {f : HP → List HP}
theorem St.blk (h : St w0 w L) [a : At L (blk g) cs f] : Blk w g cs.toArray := by
  obtain ⟨F, h1, _⟩ := h.look' a
  exact h1.2
theorem newC_h {a : Array Value} {t : TypeId} {c : Addr → World → Prop} (h : St w0 w L) (hc : ∀ g w', St w0 w' (Ev.blk g a.toList :: L) → c ⟨g, 0, none⟩ w') : newC w a t c :=
  newC_i fun g w' hg hs hb he => hc g w' (h.new he (F' := fun k => k = g) ⟨fun _ => Iff.rfl, hb⟩ fun k hk => by omega)
theorem drew_h {c : World → Prop} (h : St w0 w L) (hc : ∀ w', St w0 w' L → c w') : drew w c := drew_i fun w' _ he => hc w' (h.on he)
theorem stC_h {o : Nat} {v : Value} {c : World → Prop} (h : St w0 w L) [a : At L (Ev.blk g) cs f] (h1 : v.oneCell' = true) (ho : o < cs.length) (hc : ∀ w', St w0 w' (f (Ev.blk g (cs.set o v))) → c w') : stC w ⟨g, o, none⟩ v c := by
  refine stC_i h1 h.blk (by simpa using ho) fun w' hb hs hon => hc w' (h.turn' a fun F1 hF => ⟨hon.mono fun k _ hk => (hF.1 k).2 hk, fun k => k = g, ⟨fun _ => Iff.rfl, ?_⟩, fun k hk => .inl ((hF.1 k).2 hk)⟩)
  rw [List.setIfInBounds_toArray] at hb; exact hb
theorem ldI_h {k : IntKind} {o : Nat} {n : Int} {c : Int → Prop} (h : St w0 w L) [a : At L (Ev.blk g) cs f] (hv : cs[o]? = some (.int k n)) (hc : c n) : ldI k w ⟨g, o, none⟩ c := ldI_i (by rw [h.blk.cell]; simpa using hv) hc
theorem ldB_h {o : Nat} {n : Bool} {c : Bool → Prop} (h : St w0 w L) [a : At L (Ev.blk g) cs f] (hv : cs[o]? = some (.bool n)) (hc : c n) : ldB w ⟨g, o, none⟩ c := ldB_i (by rw [h.blk.cell]; simpa using hv) hc
theorem ldP_h {o : Nat} {n : Option Addr} {c : Option Addr → Prop} (h : St w0 w L) [a : At L (Ev.blk g) cs f] (hv : cs[o]? = some (.pointer n)) (hc : c n) : ldP w ⟨g, o, none⟩ c := ldP_i (by rw [h.blk.cell]; simpa using hv) hc
theorem ldS_h {o : Nat} {p : Option Addr} {n m : Nat} {c : Sl → Prop} (h : St w0 w L) [a : At L (Ev.blk g) cs f] (hv : cs[o]? = some (.slice p n m)) (hc : c ⟨p, n, m⟩) : ldS w ⟨g, o, none⟩ c := ldS_i (s := ⟨p, n, m⟩) (by rw [h.blk.cell]; simpa using hv) hc
theorem ldStr_h {o : Nat} {n : ByteArray} {c : ByteArray → Prop} (h : St w0 w L) [a : At L (Ev.blk g) cs f] (hv : cs[o]? = some (.string n)) (hc : c n) : ldStr w ⟨g, o, none⟩ c := by
  have : w.cell? ⟨g, o, none⟩ = some (.string n) := by rw [h.blk.cell]; simpa using hv
  simp [ldStr, rd, this, toStr, hc]
theorem ldM_h {o : Nat} {n : Option Nat} {c : Option Nat → Prop} (h : St w0 w L) [a : At L (Ev.blk g) cs f] (hv : cs[o]? = some (.map n)) (hc : c n) : ldM w ⟨g, o, none⟩ c := by
  have : w.cell? ⟨g, o, none⟩ = some (.map n) := by rw [h.blk.cell]; simpa using hv
  simp [ldM, rd, this, toM, hc]
theorem ldV_h {o : Nat} {v : Value} {c : Value → Prop} (h : St w0 w L) [a : At L (Ev.blk g) cs f] (hv : cs[o]? = some v) (hc : c v) : ldV w ⟨g, o, none⟩ c := ldV_i (by rw [h.blk.cell]; simpa using hv) hc
theorem ldA_h {n o : Nat} {c : Array Value → Prop} (h : St w0 w L) [a : At L (Ev.blk g) cs f] (hl : o + n ≤ cs.length) (hc : c ((cs.drop o).take n).toArray) : ldA n w ⟨g, o, none⟩ c := ldA_i h.blk (by simpa using hl) hc
theorem ldW_h {n : Nat} {c : Array Value → Prop} (h : St w0 w L) [a : At L (Ev.blk g) cs f] (hl : cs.length = n) (hc : c cs.toArray) : ldA n w ⟨g, 0, none⟩ c := by
  refine ldA_h h (by omega) ?_
  rw [List.drop_zero, List.take_of_length_le (by omega)]; exact hc
theorem stA_h {n o : Nat} {vs : Array Value} {c : World → Prop} (h : St w0 w L) [a : At L (Ev.blk g) cs f] (hn : vs.size = n) (hl : o + n ≤ cs.length) (h1 : ∀ v ∈ vs, v.oneCell' = true)
    (hc : ∀ w', St w0 w' (f (Ev.blk g (cs.take o ++ (vs.toList ++ cs.drop (o + n))))) → c w') : stA n w ⟨g, o, none⟩ vs c := by
  refine stA_i h.blk hn (by simpa using hl) h1 fun w' cs' hb hz hk hv hon hs => hc w' (h.turn' a fun F1 hF => ⟨hon.mono fun k _ hk => (hF.1 k).2 hk, fun k => k = g, ⟨fun _ => Iff.rfl, ?_⟩, fun k hk => .inl ((hF.1 k).2 hk)⟩)
  refine blk_eq hb fun j => ?_
  have hz' : cs'.size = cs.length := by simpa using hz
  simp only [List.getElem?_toArray]
  by_cases h1 : j < o
  · rw [hk j (.inl h1)]
    rw [List.getElem?_append_left (by simp; omega), List.getElem?_take_of_lt h1]; simp
  · by_cases h2 : j < o + n
    · have := hv (j - o) (by omega)
      rw [show o + (j - o) = j by omega] at this
      rw [this]
      rw [List.getElem?_append_right (by simp; omega), List.getElem?_append_left (by simp; omega)]
      simp only [List.length_take, Array.getElem?_toList]
      congr 1; omega
    · rw [hk j (.inr (by omega))]
      rw [List.getElem?_append_right (by simp; omega), List.getElem?_append_right (by simp; omega), List.getElem?_drop]
      simp only [List.length_take, List.getElem?_toArray, Array.length_toList]
      congr 1; omega
theorem stW_h {n : Nat} {vs : Array Value} {c : World → Prop} (h : St w0 w L) [a : At L (Ev.blk g) cs f] (hl : cs.length = n) (hn : vs.size = n) (h1 : ∀ v ∈ vs, v.oneCell' = true) (hc : ∀ w', St w0 w' (f (Ev.blk g vs.toList)) → c w') : stA n w ⟨g, 0, none⟩ vs c :=
  stA_h h hn (by omega) h1 fun w' h' => hc w' (by
    have e : cs.take 0 ++ (vs.toList ++ cs.drop (0 + n)) = vs.toList := by simp [List.drop_eq_nil_of_le, hl]
    rwa [e] at h')
theorem samec_h {w0' w' : World} {L' : List HP} {f' : HP → List HP} {n o : Nat} {c : Prop} (h : St w0 w L) (h' : St w0' w' L') [a : At L (Ev.blk g) cs f] [a' : At L' (Ev.blk g) cs f'] (hc : c) : samec n ⟨g, o, none⟩ w w' c := samec_B h.blk h'.blk hc
end
structure OwnS (sz : Nat) (w : World) (s : Sl) (vs : List Value) : Prop where
  len : vs.length = s.n * sz
  cap : s.n ≤ s.c
  max : s.c ≤ 9223372036854775807
  one : ∀ x ∈ vs, x.oneCell' = true
  row : (s.a = none ∧ s.c = 0) ∨ ∃ g off cs, s.a = some ⟨g, off, none⟩ ∧ Blk w g cs ∧ off + s.c * sz ≤ cs.size ∧ ∀ i v, vs[i]? = some v → cs[off + i]? = some v
theorem OwnS.keep {sz : Nat} {w w' : World} {s : Sl} {vs : List Value} (h : OwnS sz w s vs) (hk : ∀ g, s.blk = some g → w'.heap[g]? = w.heap[g]?) : OwnS sz w' s vs := by
  refine ⟨h.len, h.cap, h.max, h.one, h.row.imp id ?_⟩
  rintro ⟨g, off, cs, h1, h2, h3⟩
  refine ⟨g, off, cs, h1, ?_, h3⟩
  obtain ⟨t, h2⟩ := h2
  exact ⟨t, (hk g (by simp [Sl.blk, h1])).trans h2⟩
theorem OwnS.sls {sz : Nat} {w : World} {s : Sl} {vs : List Value} (h : OwnS sz w s vs) : Sls sz w s vs := by
  refine ⟨h.len, fun i v hv => ?_⟩
  rcases h.row with ⟨h1, h2⟩ | ⟨g, off, cs, h1, h3, _, h5⟩
  · have h0 := h.cap
    have h6 : i < vs.length := (List.getElem?_eq_some_iff.1 hv).1
    have h7 := h.len
    have : s.n = 0 := by omega
    have h8 : vs.length = 0 := by rw [h7, this]; simp
    omega
  · exact ⟨_, h1, by rw [add_mk, h3.cell]; exact h5 i v hv⟩
def slc (sz : Nat) (s : Sl) (vs : List Value) : HP where
  p F w := (∀ k, F k ↔ s.blk = some k) ∧ OwnS sz w s vs
  lt := fun ⟨e, h⟩ hg => by
    have hg := (e _).1 hg
    rcases h.row with ⟨h1, _⟩ | ⟨g', off, cs, h1, h3, _⟩
    · simp [Sl.blk, h1] at hg
    · simp [Sl.blk, h1] at hg; subst hg; exact h3.lt
  keep := fun ⟨e, h⟩ hk => ⟨e, h.keep fun g hg => hk g ((e g).2 hg)⟩
section
variable {w0 w : World} {L : List HP} {sz : Nat} {s : Sl} {vs : List Value} {f : HP → List HP}
theorem St.own (h : St w0 w L) [a : At L (slc sz s) vs f] : OwnS sz w s vs := by
  obtain ⟨F, h1, _⟩ := h.look' a
  exact h1.2
theorem St.slen (h : St w0 w L) [a : At L (slc sz s) vs f] : vs.length = s.n * sz := h.own.len
theorem OwnS.nil (sz : Nat) (w : World) : OwnS sz w ⟨none, 0, 0⟩ [] := ⟨by simp, Nat.le_refl _, by simp, by simp, .inl ⟨rfl, rfl⟩⟩
theorem St.nilS (h : St w0 w L) (sz : Nat) : St w0 w (slc sz ⟨none, 0, 0⟩ [] :: L) := by
  exact h.new (.refl _ _) (F' := fun _ => False) ⟨fun k => by simp [Sl.blk], OwnS.nil sz w⟩ fun _ h => h.elim
theorem OwnS.new {g n : Nat} {l : List Value} (hb : Blk w g l.toArray) (hn : l.length = n * sz) (hm : n ≤ 9223372036854775807) (h1 : ∀ x ∈ l, x.oneCell' = true) : OwnS sz w ⟨some ⟨g, 0, none⟩, n, n⟩ l :=
  ⟨hn, Nat.le_refl _, hm, h1, .inr ⟨g, 0, l.toArray, rfl, hb, by simp [hn], fun i v hv => by simpa using hv⟩⟩
theorem St.asS {g n : Nat} {cs : List Value} (h : St w0 w L) [a : At L (Ev.blk g) cs f] (hn : cs.length = n * sz) (hm : n ≤ 9223372036854775807) (h1 : ∀ x ∈ cs, x.oneCell' = true) : St w0 w (f (slc sz ⟨some ⟨g, 0, none⟩, n, n⟩ cs)) :=
  h.conv' a fun F hF => ⟨fun k => by rw [hF.1]; simp [Sl.blk, eq_comm], OwnS.new hF.2 hn hm h1⟩
theorem ixS_h {i : Int} {c : Addr → Prop} (h : St w0 w L) [a : At L (slc sz s) vs f] (hsz : 0 < sz) (h0 : 0 ≤ i) (h1 : i < s.n)
    (hc : ∀ g o, s.blk = some g → (∀ {w' L' f'}, St w0 w' L' → [At L' (slc sz s) vs f'] → ∀ j v, j < sz → vs[i.toNat * sz + j]? = some v → w'.cell? ⟨g, o + j, none⟩ = some v) →
      (∀ {w' : World} {L' : List HP} {vs' : List Value} {f' : HP → List HP} (h' : St w0 w' L') (a' : At L' (slc sz s) vs' f') (j : Nat) (v : Value) (c' : World → Prop), j < sz → v.oneCell' = true →
        (∀ w'', St w0 w'' (f' (slc sz s (vs'.set (i.toNat * sz + j) v))) → c' w'') → stC w' ⟨g, o + j, none⟩ v c') → c ⟨g, o, none⟩) : ixS s i sz c := by
  have ho : OwnS sz w s vs := h.own
  have hi : i.toNat < s.n := by omega
  have hlt : i.toNat * sz + sz ≤ s.n * sz := by
    rw [← Nat.succ_mul]; exact Nat.mul_le_mul_right _ hi
  rcases ho.row with ⟨h2, h3⟩ | ⟨g, off, cs, h2, h3, h4, h5⟩
  · have := ho.cap; omega
  · unfold ixS
    rw [h2]
    refine ⟨⟨h0, h1⟩, ?_⟩
    rw [add_mk]
    refine hc g _ (by simp [Sl.blk, h2]) ?_ ?_
    · intro w' L' f' h' a' j v hj hv
      obtain ⟨p, hp, hcl⟩ := (h'.own (sz := sz) (s := s) (vs := vs)).sls.cell _ v hv
      rw [h2] at hp; cases hp
      rw [add_mk] at hcl
      rw [Nat.add_assoc]; exact hcl
    · intro w' L' vs' f' h' a' j v c' hj hv1 hc'
      have ho' : OwnS sz w' s vs' := h'.own
      rcases ho'.row with ⟨h2', _⟩ | ⟨g', off', cs', h2', h3', h4', h5'⟩
      · rw [h2] at h2'; cases h2'
      · rw [h2] at h2'; cases h2'
        have hc1 := ho'.cap
        have hcsz : s.n * sz ≤ s.c * sz := Nat.mul_le_mul_right _ hc1
        refine stC_i hv1 h3' (by omega) fun w'' hb hs hon => hc' w'' (h'.turn' a' fun F1 hF => ⟨hon.mono fun k _ hk => (hF.1 k).2 (by simp [Sl.blk, h2, hk]), F1, ⟨hF.1, ?_⟩, fun k hk => .inl hk⟩)
        refine ⟨by rw [List.length_set]; exact ho'.len, ho'.cap, ho'.max, fun x hx => ?_, .inr ⟨g, off, _, h2, hb, by simpa using h4', fun k u hk => ?_⟩⟩
        · rcases List.mem_or_eq_of_mem_set hx with hx | rfl
          · exact ho'.one x hx
          · exact hv1
        · by_cases hkj : i.toNat * sz + j = k
          · subst hkj
            have hlt2 : i.toNat * sz + j < vs'.length := by rw [ho'.len]; omega
            rw [List.getElem?_set_self hlt2] at hk
            cases hk
            rw [show off + i.toNat * sz + j = off + (i.toNat * sz + j) by omega, Array.getElem?_setIfInBounds_self, if_pos (by rw [ho'.len] at hlt2; omega)]
          · rw [List.getElem?_set_ne hkj] at hk
            rw [Array.getElem?_setIfInBounds_ne (by omega)]
            exact h5' k u hk
def elInfo (P : Program) (t : TypeId) : Option (Nat × Nat × Option Value) := match P.underlying t with
  | some (.slice e) => (P.info? e).map fun i => (i.size, i.bytes, i.zero)
  | _ => none
structure ElS (P : Program) (t : TypeId) (sz b : Nat) (z : Value) : Prop where
  info : elInfo P t = some (sz, b, some z)
  size : z.cells.size = sz
theorem ElS.out {P : Program} {t : TypeId} {b : Nat} {z : Value} (h : ElS P t sz b z) : ∃ e i, P.underlying t = some (.slice e) ∧ P.info? e = some i ∧ i.size = sz ∧ i.bytes = b ∧ i.zero = some z := by
  have h2 := h.info
  unfold elInfo at h2
  split at h2
  · rename_i e he
    cases hi : P.info? e with
    | none => simp [hi] at h2
    | some i => simp [hi] at h2; exact ⟨e, i, he, hi, h2⟩
  · cases h2
def isSl (P : Program) (t : TypeId) : Bool := match P.underlying t with | some (.slice _) => true | _ => false
theorem isSl_out {P : Program} {t : TypeId} (h : isSl P t = true) : ∃ e, P.underlying t = some (.slice e) := by
  unfold isSl at h
  split at h
  · exact ⟨_, by assumption⟩
  · cases h
theorem firstS_read {P : Program} {x : Sl} {ys : List Value} {n : Nat} (h : Sls sz w x ys) (hn : n ≤ x.n) : (Builtin.firstCells sz n (.slice x.a x.n x.c)).run P w = .ok (ys.take (n * sz)).toArray w := by
  have hlen := h.len
  have hle : n * sz ≤ ys.length := by rw [hlen]; exact Nat.mul_le_mul_right _ hn
  cases ha : x.a with
  | none =>
    have : ys = [] := by
      cases ys with
      | nil => rfl
      | cons v l => obtain ⟨p, hp, _⟩ := h.cell 0 v rfl; rw [ha] at hp; cases hp
    subst this
    rw [List.take_nil]
    exact run_firstCells_none w sz n x.n x.c
  | some p =>
    exact run_firstCells_some w sz n p x.n x.c (ys.take (n * sz)) (by rw [List.length_take]; omega) fun j v hv => by
      rw [List.getElem?_take] at hv
      split at hv
      · obtain ⟨q, hq, hc⟩ := h.cell j v hv
        rw [ha] at hq; cases hq; exact hc
      · cases hv
theorem srcS_of {P : Program} {tx e' : TypeId} (hk : P.underlying tx = some (.slice e')) {x : Sl} {ys : List Value} (h : Sls sz w x ys) (h1 : ∀ v ∈ ys, v.oneCell' = true) : Src P sz tx (.slice x.a x.n x.c) x.n ys w := by
  have e : ys.take (x.n * sz) = ys := List.take_of_length_le (by rw [h.len]; exact Nat.le_refl _)
  refine ⟨.inl ⟨e', hk⟩, fun _ => rfl, ?_, ?_, by rw [h.len], h1⟩
  · have := firstS_read (P := P) h (Nat.le_refl _); rwa [e] at this
  · have := firstS_read (P := P) (h.ext (ext_drew w)) (Nat.le_refl _); rwa [e] at this
theorem OwnS.app {P : Program} {t tx : TypeId} {ty : TypeId} {b : Nat} {z : Value} {x : Sl} {ys : List Value} {c : Sl → World → Prop} (hown : OwnS sz w s vs) (ht : ElS P t sz b z) (hk : isSl P tx = true)
    (hsrc : Sls sz w x ys) (h1 : ∀ v ∈ ys, v.oneCell' = true) (hbytes : (s.n + x.n) * b ≤ 140737488355328) (h63 : s.n + x.n ≤ 9223372036854775807)
    (hc : ∀ s' w', OwnS sz w' s' (vs ++ ys) → Only (fun k => s.blk = some k) w w' → (s'.blk = s.blk ∨ ∃ g, s'.blk = some g ∧ w.heap.size ≤ g) → s'.n = s.n + x.n → c s' w') :
    bApp P #[t, tx] ty [.slice s.a s.n s.c, .slice x.a x.n x.c] w c := by
  obtain ⟨e, i, hte, hi, hsz, hby, hzi⟩ := ht.out
  obtain ⟨e', hk⟩ := isSl_out hk
  have hs := srcS_of (P := P) hk hsrc h1
  have hyl := hsrc.len
  have hlen := hown.len
  have hone : ∀ v ∈ vs ++ ys, v.oneCell' = true := fun v hv => (List.mem_append.1 hv).elim (hown.one v) (h1 v)
  have hmul : (s.n + x.n) * sz = s.n * sz + x.n * sz := Nat.add_mul _ _ _
  unfold bApp
  by_cases hroom : s.n + x.n ≤ s.c
  · rcases hown.row with ⟨h2, h3⟩ | ⟨g, off, cs, h2, h4, h5, h6⟩
    · have hx0 : x.n = 0 := by omega
      have hs0 : s.n = 0 := by omega
      have hys : ys = [] := List.eq_nil_of_length_eq_zero (by rw [hyl, hx0, Nat.zero_mul])
      have hxs : vs = [] := List.eq_nil_of_length_eq_zero (by rw [hlen, hs0, Nat.zero_mul])
      subst hys; subst hxs
      rw [h2, hs0, h3]
      have hr : (Builtin.append_ #[t, tx] ty #[.slice none 0 0, .slice x.a x.n x.c]).run P w = .ok (.slice none 0 0) w := by
        have hk' := hs.cells
        simp only [List.toArray] at hk'
        have hlen := hs.len w
        rw [hx0] at hlen hk' ⊢
        simp [Builtin.append_, run_underlying hte, run_underlying hk, sizeOf, typeInfo, hi, hsz, Builtin.lenOf, Builtin.firstCells] at hk' ⊢
        cases hxa : x.a <;> simp [Builtin.firstCells, hxa, loadCells, loadCellsFrom]
      simp only [List.toArray] at *
      rw [hr]
      show c ⟨none, 0, 0⟩ w
      exact hc _ _ (by simpa using OwnS.nil sz w) (.refl _ _) (.inl (by simp [Sl.blk, h2])) (by rw [hs0, hx0])
    · obtain ⟨ee, h4'⟩ := h4
      have hcap : (s.n + x.n) * sz ≤ s.c * sz := Nat.mul_le_mul_right _ hroom
      have hcell : ∀ j, j < ys.length → (w.cell? ⟨g, off + s.n * i.size + j, none⟩).isSome = true := by
        intro j hj
        rw [hsz, (show Blk w g cs from ⟨ee, h4'⟩).cell]
        have : off + s.n * sz + j < cs.size := by omega
        simp [this]
      have hfro : ∀ j, j < ys.length → w.frozen? ⟨g, off + s.n * i.size + j, none⟩ = false := fun j _ => (show Blk w g cs from ⟨ee, h4'⟩).frozen _
      rw [← hsz] at hs
      have hr := run_append_room_src w t tx ty e i hte hi g off s.n s.c _ x.n ys hs hroom hcell hfro
      obtain ⟨cs', k1, k2, k3, k4, k5, k6⟩ := setCells_blk ys w g (off + s.n * sz) cs h4' (by omega)
      rw [hsz] at hr
      rw [h2]
      simp only [List.toArray] at *
      rw [hr]
      show c ⟨some ⟨g, off, none⟩, s.n + x.n, s.c⟩ _
      refine hc _ _ ⟨by simp; omega, hroom, hown.max, hone, .inr ⟨g, off, cs', rfl, ⟨ee, k1⟩, by rw [k2]; exact h5, fun j v hv => ?_⟩⟩ (k5.mono fun k _ hk => by simp [Sl.blk, h2, hk]) (.inl (by simp [Sl.blk, h2])) rfl
      by_cases hj : j < vs.length
      · rw [List.getElem?_append_left hj] at hv
        rw [k3 _ (by omega)]
        exact h6 j v hv
      · rw [List.getElem?_append_right (by omega)] at hv
        have := k4 _ v hv
        rwa [show off + s.n * sz + (j - vs.length) = off + j by omega] at this
  · have hg : s.c < s.n + x.n := by omega
    have hfit : Builtin.nextslicecap (s.n + x.n) s.c * i.bytes ≤ 281474976710656 := growslice_fits hg (by rw [hby]; exact hbytes)
    have e0 : vs.take (s.n * sz) = vs := List.take_of_length_le (by omega)
    have hold := firstS_read (P := P) (hown.sls.ext (ext_drew w)) (Nat.le_refl _)
    rw [e0] at hold
    rw [← hsz] at hold hs
    have hr := run_append_grow_src w t tx ty e i z hte hi hzi s.a s.n s.c vs hold _ x.n ys hs hg (by omega) hfit
    simp only [List.toArray] at *
    rw [hr]
    have hge := grownCap_ge w (s.n + x.n) s.c e
    have hcm := grownCap_le_maxLen w (s.n + x.n) s.c e (by unfold maxLen; omega)
    unfold maxLen at hcm
    show c ⟨some ⟨w.heap.size, 0, none⟩, s.n + x.n, _⟩ _
    have hzs : z.cells.size = sz := ht.size
    refine hc _ _ ⟨by simp; omega, hge, hcm, hone, .inr ⟨w.heap.size, 0, _, rfl, Blk.new w.drew _ e, ?_, fun j v hv => ?_⟩⟩ (Ext.only ((ext_drew w).trans (ext_alloc _ _))) (.inr ⟨w.heap.size, rfl, Nat.le_refl _⟩) rfl
    · have h9 : (s.n + x.n) * sz ≤ grownCap w (s.n + x.n) s.c e * sz := Nat.mul_le_mul_right _ hge
      rw [Array.size_append, size_zeroCells, hzs, Nat.sub_mul]
      simp only [List.size_toArray, List.length_append]
      omega
    · have hj : j < (vs ++ ys).length := (List.getElem?_eq_some_iff.1 hv).1
      rw [Nat.zero_add, Array.getElem?_append_left (by simpa using hj)]
      simpa using hv
theorem bApp_h {P : Program} {t tx : TypeId} {ty : TypeId} {b : Nat} {z : Value} {x : Sl} {ys : List Value} {c : Sl → World → Prop} (h : St w0 w L) [a : At L (slc sz s) vs f] (ht : ElS P t sz b z) (hk : isSl P tx = true)
    (hsrc : Sls sz w x ys) (h1 : ∀ v ∈ ys, v.oneCell' = true) (hbytes : (s.n + x.n) * b ≤ 140737488355328) (h63 : s.n + x.n ≤ 9223372036854775807)
    (hc : ∀ s' w', St w0 w' (f (slc sz s' (vs ++ ys))) → s'.n = s.n + x.n → c s' w') : bApp P #[t, tx] ty [.slice s.a s.n s.c, .slice x.a x.n x.c] w c :=
  OwnS.app h.own ht hk hsrc h1 hbytes h63 fun s' w' ho hon hb hn => hc s' w' (h.turn' a fun F1 hF => ⟨hon.mono fun k _ hk => (hF.1 k).2 hk, fun k => s'.blk = some k, ⟨fun _ => Iff.rfl, ho⟩, fun k hk => by
    rcases hb with hb | ⟨g, hg, hge⟩
    · exact .inl ((hF.1 k).2 (by rw [← hb]; exact hk))
    · rw [hg] at hk; cases hk; exact .inr hge⟩) hn
theorem OwnS.off {d : Sl} {ys : List Value} {lo : Nat} (h : OwnS sz w s vs) (hy : ys.length = d.n * sz) (hc : d.n ≤ d.c) (hcc : lo + d.c ≤ s.c) (ha : d.a = s.a.map (·.add (lo * sz)) ∨ (d.a = s.a ∧ d.c = 0)) (hv : ∀ i v, ys[i]? = some v → vs[lo * sz + i]? = some v) : OwnS sz w d ys := by
  have hmax := h.max
  have hm : (lo + d.c) * sz ≤ s.c * sz := Nat.mul_le_mul_right _ hcc
  rw [Nat.add_mul] at hm
  refine ⟨hy, hc, by omega, fun x hx => ?_, ?_⟩
  · obtain ⟨i, hi, rfl⟩ := List.getElem_of_mem hx
    have := hv i ys[i] (by simp [hi])
    exact h.one _ (List.mem_of_getElem? this)
  · rcases h.row with ⟨h1, h2⟩ | ⟨g, off, cs, h1, h3, h4, h5⟩
    · refine .inl ⟨?_, by omega⟩
      rcases ha with ha | ⟨ha, _⟩ <;> rw [ha, h1] <;> rfl
    · rcases ha with ha | ⟨ha, hd0⟩
      · exact .inr ⟨g, off + lo * sz, cs, by rw [ha, h1]; simp, h3, by omega, fun i v hi => by rw [Nat.add_assoc]; exact h5 _ _ (hv i v hi)⟩
      · have hy0 : ys = [] := List.eq_nil_of_length_eq_zero (by rw [hy]; have : d.n = 0 := by omega
                                                                rw [this, Nat.zero_mul])
        subst hy0
        exact .inr ⟨g, off, cs, by rw [ha, h1], h3, by rw [hd0, Nat.zero_mul]; omega, fun i v hi => by simp at hi⟩
theorem slL_h {lo : Int} {c : Sl → Prop} (h : St w0 w L) [a : At L (slc sz s) vs f] (h0 : 0 ≤ lo) (h1 : lo ≤ s.n)
    (hc : ∀ d : Sl, d.n = s.n - lo.toNat → St w0 w (f (slc sz d (vs.drop (lo.toNat * sz)))) → c d) : slL s sz lo c := by
  have ho : OwnS sz w s vs := h.own
  have hcap := ho.cap; have hlen := ho.len
  refine ⟨⟨h0, h1⟩, hc _ rfl (h.conv' a fun F hF => ⟨fun k => ?_, ho.off (lo := lo.toNat) (by simp [hlen, Nat.sub_mul]) (by simp; omega) (by simp; omega) ?_ fun i v hi => by simpa using hi⟩)⟩
  · rw [hF.1]
    by_cases hq : s.c = lo.toNat
    · simp [Sl.blk, hq]
    · simp only [Sl.blk, hq, if_false]
      cases s.a with
      | none => simp
      | some p => simp [Addr.add]; split <;> rfl
  · by_cases hq : s.c = lo.toNat
    · right; simp [hq]
    · left; simp [hq]
theorem slS_h {lo hi : Int} {c : Sl → Prop} (h : St w0 w L) [a : At L (slc sz s) vs f] (h0 : 0 ≤ lo) (h1 : lo ≤ hi) (h2 : hi ≤ s.n)
    (hc : ∀ d : Sl, d.n = hi.toNat - lo.toNat → St w0 w (f (slc sz d ((vs.drop (lo.toNat * sz)).take ((hi.toNat - lo.toNat) * sz)))) → c d) : slS s sz lo hi c := by
  have ho : OwnS sz w s vs := h.own
  have hcap := ho.cap; have hlen := ho.len
  have hm : (hi.toNat - lo.toNat) * sz ≤ (s.n - lo.toNat) * sz := Nat.mul_le_mul_right _ (by omega)
  refine ⟨⟨by omega, by omega⟩, ⟨h0, h1⟩, hc _ rfl (h.conv' a fun F hF => ⟨fun k => ?_, ho.off (lo := lo.toNat) ?_ (by simp; omega) (by simp; omega) ?_ fun i v hi => ?_⟩)⟩
  · rw [hF.1]
    by_cases hq : s.c = lo.toNat
    · simp [Sl.blk, hq]
    · simp only [Sl.blk, hq, if_false]
      cases s.a with
      | none => simp
      | some p => simp [Addr.add]; split <;> rfl
  · rw [List.length_take, List.length_drop, hlen, ← Nat.sub_mul]; exact Nat.min_eq_left hm
  · by_cases hq : s.c = lo.toNat
    · right; simp [hq]
    · left; simp [hq]
  · rw [List.getElem?_take] at hi
    split at hi
    · simpa using hi
    · cases hi
theorem mkSl_h {P : Program} {t : TypeId} {b : Nat} {z : Value} {n : Nat} {kl kc : IntKind} {c : Sl → World → Prop} (h : St w0 w L) (ht : ElS P t 1 b z) (hz1 : z.oneCell' = true)
    (hbytes : b * n ≤ 281474976710656) (h63 : n ≤ 9223372036854775807)
    (hc : ∀ s w', St w0 w' (slc 1 s (List.replicate n z) :: L) → s.n = n → c s w') : mkSl P t (.int kl (n : Int)) (.int kc (n : Int)) w c := by
  obtain ⟨e, i, hte, hi, hsz, hby, hzi⟩ := ht.out
  refine mkSl_i (B := w.heap.size) (e := e) ⟨hte, by rw [hi]; simp [hsz, hby, hzi]⟩ hz1 (Nat.le_refl _) hbytes h63 fun s w' ho he h1 h2 h3 h4 => hc s w' (h.new he (F' := fun k => s.blk = some k) ⟨fun _ => Iff.rfl, ?_⟩ fun k hk => ?_) h1
  · refine ⟨by simp [h1], ho.cap, ho.max, ho.one, ho.row.imp id ?_⟩
    rintro ⟨g, off, cs, e1, e2, e3, e4, e5⟩
    exact ⟨g, off, cs, e1, e3, by simpa using e4, e5⟩
  · rw [h3] at hk; cases hk; exact Nat.le_refl _
def sepHP (A : List HP) : HP where
  p := sepP A
  lt := sepP_lt
  keep := sepP_keep
def exHP {α : Type} (X : α → HP) : HP where
  p F w := ∃ a, (X a).p F w
  lt := fun ⟨a, h⟩ hg => (X a).lt h hg
  keep := fun ⟨a, h⟩ hk => ⟨a, (X a).keep h hk⟩
def pureHP (p : Prop) (X : HP) : HP where
  p F w := p ∧ X.p F w
  lt := fun ⟨_, h⟩ hg => X.lt h hg
  keep := fun ⟨a, h⟩ hk => ⟨a, X.keep h hk⟩
theorem sepP_assoc : ∀ {A B : List HP} {F w}, sepP (sepHP A :: B) F w ↔ sepP (A ++ B) F w
  | [], B, F, w => by
    constructor
    · rintro ⟨F1, F2, h1, h2, _, e⟩
      exact sepP_iff (fun g => by rw [e]; exact ⟨.inr, fun h => h.elim (fun h => (h1 g h).elim) id⟩) h2
    · intro h
      exact ⟨fun _ => False, F, fun g hg => hg, h, fun g hg => hg.elim, fun g => by simp⟩
  | R :: A, B, F, w => by
    constructor
    · rintro ⟨F1, F2, ⟨G1, G2, k1, k2, kd, ke⟩, h2, hd, e⟩
      refine ⟨G1, fun g => G2 g ∨ F2 g, k1, sepP_assoc.1 ⟨G2, F2, k2, h2, fun g hg => hd g ((ke g).2 (.inr hg)), fun _ => Iff.rfl⟩, fun g hg hor => ?_, fun g => ?_⟩
      · rcases hor with h | h
        · exact kd g hg h
        · exact hd g ((ke g).2 (.inl hg)) h
      · rw [e, ke, or_assoc]
    · rintro ⟨G1, G2, k1, k2, kd, ke⟩
      obtain ⟨F1, F2, h1, h2, hd, e⟩ := sepP_assoc.2 k2
      refine ⟨fun g => G1 g ∨ F1 g, F2, ⟨G1, F1, k1, h1, fun g hg hf => kd g hg ((e g).2 (.inl hf)), fun _ => Iff.rfl⟩, h2, fun g hg hf => ?_, fun g => ?_⟩
      · rcases hg with h | h
        · exact kd g h ((e g).2 (.inr hf))
        · exact hd g h hf
      · rw [ke, e, or_assoc]
theorem St.open {A B : List HP} (h : St w0 w (sepHP A :: B)) : St w0 w (A ++ B) := ⟨h.ext, by obtain ⟨F, h1, h2⟩ := h.sep; exact ⟨F, sepP_assoc.1 h1, h2⟩⟩
theorem St.shut {A B : List HP} (h : St w0 w (A ++ B)) : St w0 w (sepHP A :: B) := ⟨h.ext, by obtain ⟨F, h1, h2⟩ := h.sep; exact ⟨F, sepP_assoc.2 h1, h2⟩⟩
theorem St.some {α : Type} {X : α → HP} (h : St w0 w (exHP X :: L)) : ∃ a, St w0 w (X a :: L) := by
  obtain ⟨h1, F, ⟨F1, F2, ⟨a, h2⟩, h4⟩, h3⟩ := h
  exact ⟨a, h1, F, ⟨F1, F2, h2, h4⟩, h3⟩
theorem St.ex {α : Type} {X : α → HP} (a : α) (h : St w0 w (X a :: L)) : St w0 w (exHP X :: L) := h.conv fun F hF => ⟨a, hF⟩
theorem St.pure {p : Prop} {X : HP} (h : St w0 w (pureHP p X :: L)) : p ∧ St w0 w (X :: L) := by
  obtain ⟨F, hF, _⟩ := h.look
  exact ⟨hF.1, h.conv fun F hF => hF.2⟩
theorem ints_getD {xs : List Int} {i : Nat} (h : i < xs.length) : (ints xs)[i]? = some (.int .i64 (xs.getD i 0)) := by
  simp [ints, List.getD_eq_getElem?_getD, h]
theorem ixI_h {xs : List Int} {i : Int} {c : Int → Prop} (h : St w0 w L) [a : At L (slc 1 s) (ints xs) f] (h0 : 0 ≤ i) (h1 : i < xs.length) (hc : c (xs.getD i.toNat 0)) : ixS s i 1 fun a => ldI .i64 w a c := by
  have hn : xs.length = s.n := by have := h.slen (sz := 1) (s := s) (vs := ints xs); simpa using this
  refine ixS_h h (by omega) h0 (by omega) fun g o _ hr _ => ldI_i ?_ hc
  have := hr h 0 _ (by omega) (ints_getD (i := i.toNat * 1 + 0) (by omega))
  simpa using this
theorem ixIst_h {xs : List Int} {i : Int} {x : Int} {c : World → Prop} (h : St w0 w L) [a : At L (slc 1 s) (ints xs) f] (h0 : 0 ≤ i) (h1 : i < xs.length) (hc : ∀ w', St w0 w' (f (slc 1 s (ints (xs.set i.toNat x)))) → c w') : ixS s i 1 fun a => stC w a (.int .i64 x) c := by
  have hn : xs.length = s.n := by have := h.slen (sz := 1) (s := s) (vs := ints xs); simpa using this
  refine ixS_h h (by omega) h0 (by omega) fun g o _ _ hs => ?_
  have := hs h a 0 (.int .i64 x) c (by omega) rfl fun w' h' => hc w' (by
    have e : (ints xs).set (i.toNat * 1 + 0) (.int .i64 x) = ints (xs.set i.toNat x) := by simp [ints, List.map_set]
    rwa [e] at h')
  simpa using this
theorem ixE_h {i : Int} {c : Addr → Prop} (h : St w0 w L) [a : At L (slc sz s) vs f] (hsz : 0 < sz) (h0 : 0 ≤ i) (h1 : i < s.n)
    (hc : ∀ g o, (∀ j v, j < sz → vs[i.toNat * sz + j]? = some v → w.cell? ⟨g, o + j, none⟩ = some v) →
      (∀ (j : Nat) (v : Value) (c' : World → Prop), j < sz → v.oneCell' = true → (∀ w'', St w0 w'' (f (slc sz s (vs.set (i.toNat * sz + j) v))) → c' w'') → stC w ⟨g, o + j, none⟩ v c') → c ⟨g, o, none⟩) : ixS s i sz c :=
  ixS_h h hsz h0 h1 fun g o _ hr hs => hc g o (fun j v hj hv => hr h j v hj hv) fun j v c' hj h1 hc' => hs h a j v c' hj h1 hc'
theorem samec_1 {a : Addr} {v : Value} {w' : World} {c : Prop} (h : w.cell? a = some v) (h' : w'.cell? a = some v) (hc : c) : samec 1 a w w' c :=
  ⟨fun k hk => by
    have : k = 0 := by omega
    subst this
    rw [add_zero, h, h'], hc⟩
end
theorem ixR_h {w0 w : World} {L : List HP} {sz : Nat} {s : Sl} {es : List (List Value)} {e : List Value} {i : Int} {c : Addr → Prop} (hR : Rws sz w0 s es) (h : St w0 w L) (h0 : 0 ≤ i) (he : es[i.toNat]? = some e)
    (hc : ∀ p : Addr, (∀ {w' L'}, St w0 w' L' → ∀ {j v}, e[j]? = some v → w'.cell? (p.add j) = some v) → c p) : ixS s i sz c := by
  have hlen := hR.len
  have hlt := (List.getElem?_eq_some_iff.1 he).1
  refine ixR_i hR h0 (by omega) fun p e' he' hl hcell => hc p fun {w' L'} hS {j v} hv => ?_
  rw [he] at he'; cases he'
  exact hS.ext.cell (hcell j v hv)
theorem St.same {α : Type} {w0 w : World} {L : List HP} {k : α → HP} {x : α} {f : HP → List HP} (h : St w0 w L) (a : At L k x f) : St w0 w (f (k x)) := by
  obtain ⟨R, h1, h2⟩ := a.out
  exact h2 (h1 h)
theorem callF_i {orc : Oracle} {id : FuncId} {first captured args : Array Value} {w : World} {c : Value → World → Prop} {d : Dec} (e : ∀ args w c, orc (.func id) args w c = d args.toList w c) (h : d (first ++ args ++ captured).toList w c) : callF orc (.func (.func id) first captured) args w c := by
  show orc (.func id) (first ++ args ++ captured) w c
  rw [e]; exact h
end Go.Ev
namespace Go.Ev
open Go Go.RowKit
def obj (g : Nat) (o : Obj) : HP where
  p F w := (∀ k, F k ↔ k = g) ∧ w.heap[g]? = some o
  lt := fun ⟨e, h⟩ hg => by rw [(e _).1 hg]; exact (Array.getElem?_eq_some_iff.1 h).1
  keep := fun ⟨e, h⟩ hk => ⟨e, (hk _ ((e _).2 rfl)).trans h⟩
def mks (ds : List Nat) : HP where
  p F w := ds.Nodup ∧ (∀ k, F k ↔ k ∈ ds) ∧ ∀ D ∈ ds, w.heap[D]? = some (.deferred (some []))
  lt := fun ⟨_, e, h⟩ hg => (Array.getElem?_eq_some_iff.1 (h _ ((e _).1 hg))).1
  keep := fun ⟨n, e, h⟩ hk => ⟨n, e, fun D hD => (hk _ ((e _).2 hD)).trans (h D hD)⟩
theorem putObj_only (w : World) (g : Nat) (o : Obj) : Only (fun k => k = g) w (w.putObj g o) :=
  ⟨rfl, rfl, rfl, by simp [World.putObj], fun k _ hn => World.putObj_heap_other hn⟩
theorem alloc_ext (w : World) (o : Obj) : Ext w (w.alloc o) :=
  ⟨rfl, rfl, rfl, by show w.heap.size ≤ (w.heap.push o).size; simp, fun k hk _ => by show (w.heap.push o)[k]? = _; rw [Array.getElem?_push_lt hk]; simp [hk]⟩
section
variable {w0 w : World} {L : List HP} {g : Nat} {f : HP → List HP}
theorem obj_at {o : Obj} (h : St w0 w L) [a : At L (Ev.obj g) o f] : w.heap[g]? = some o := by
  obtain ⟨F, h1, _⟩ := h.look' a
  exact h1.2
theorem putObj_h {o : Obj} (o' : Obj) (h : St w0 w L) [a : At L (Ev.obj g) o f] : St w0 (w.putObj g o') (f (Ev.obj g o')) := by
  have hlt := (Array.getElem?_eq_some_iff.1 (obj_at (g := g) (o := o) h)).1
  exact h.turn' a fun F1 hF => ⟨(putObj_only w g o').mono fun k _ hk => (hF.1 k).2 hk, fun k => k = g, ⟨fun _ => Iff.rfl, World.putObj_heap_same hlt⟩, fun k hk => .inl ((hF.1 k).2 hk)⟩
theorem alloc_h (o : Obj) (h : St w0 w L) : St w0 (w.alloc o) (Ev.obj w.heap.size o :: L) :=
  h.new (alloc_ext w o) (F' := fun k => k = w.heap.size) ⟨fun _ => Iff.rfl, World.alloc_heap_new w o⟩ fun k hk => Nat.le_of_eq hk.symm
theorem mks_nil (h : St w0 w L) : St w0 w (mks [] :: L) :=
  h.new (.refl _ _) (F' := fun _ => False) ⟨.nil, fun k => by simp, fun D hD => by cases hD⟩ fun _ h => h.elim
theorem mks_cons {D : Nat} {ds : List Nat} (h : St w0 w (Ev.obj D (.deferred (some [])) :: mks ds :: L)) : St w0 w (mks (D :: ds) :: L) := by
  obtain ⟨h1, F, ⟨F1, F2, ⟨e1, k1⟩, ⟨F3, F4, ⟨n3, e3, k3⟩, h4, d34, e34⟩, d12, e12⟩, h3⟩ := h
  have hn : D ∉ ds := fun hD => d12 D ((e1 D).2 rfl) ((e34 D).2 (.inl ((e3 D).2 hD)))
  refine ⟨h1, F, ⟨fun k => F1 k ∨ F3 k, F4, ⟨List.nodup_cons.2 ⟨hn, n3⟩, fun k => by simp [e1, e3], fun D' hD => ?_⟩, h4, fun k hk h4k => ?_, fun k => ?_⟩, h3⟩
  · rcases List.mem_cons.1 hD with rfl | hD
    · exact k1
    · exact k3 D' hD
  · rcases hk with hk | hk
    · exact d12 k hk ((e34 k).2 (.inr h4k))
    · exact d34 k hk h4k
  · rw [e12, e34]; exact or_assoc.symm
theorem mks_uncons {D : Nat} {ds : List Nat} (h : St w0 w (mks (D :: ds) :: L)) : St w0 w (Ev.obj D (.deferred (some [])) :: mks ds :: L) := by
  obtain ⟨h1, F, ⟨F1, F4, ⟨n, e1, k1⟩, h4, d14, e14⟩, h3⟩ := h
  obtain ⟨hn, n3⟩ := List.nodup_cons.1 n
  refine ⟨h1, F, ⟨fun k => k = D, fun k => k ∈ ds ∨ F4 k, ⟨fun _ => Iff.rfl, k1 D (by simp)⟩, ⟨fun k => k ∈ ds, F4, ⟨n3, fun _ => Iff.rfl, fun D' hD => k1 D' (by simp [hD])⟩, h4, fun k hk h4k => d14 k ((e1 k).2 (by simp [hk])) h4k, fun _ => Iff.rfl⟩, fun k hk hor => ?_, fun k => ?_⟩, h3⟩
  · subst hk
    rcases hor with h | h
    · exact hn h
    · exact d14 k ((e1 k).2 (by simp)) h
  · rw [e14, e1]; simp [or_assoc]
theorem takeP_h : ∀ {ds : List Nat} {w : World} {c : World → Prop}, St w0 w (mks ds :: L) → (∀ w', St w0 w' L → c w') → takeP ds w c
  | [], w, c, h, hc => hc w h.drop
  | D :: ds, w, c, h, hc => by
    have h := mks_uncons h
    refine ⟨obj_at h, takeP_h (St.drop (R := Ev.obj D (.deferred none)) (putObj_h (g := D) (o := .deferred (some [])) (f := fun X => X :: mks ds :: L) (.deferred none) h)) hc⟩
def rY (l : Nat) (R : LoopState → Obj) (kk : List K) (body : KT kk → World → (World → Prop) → Prop) : Nat → Dec := fun n args w1 c =>
  n = l ∧ w1.heap[l]? = some (R .ready) ∧ unL kk args fun y => body y (w1.putObj l (R .busy)) fun w4 => w4.heap[l]? = some (R .busy) ∧ c (.bool true) (w4.putObj l (R .ready))
theorem rangeF_h {I : OrcI} {kk : List K} {gf : FuncId} {first lb : Array Value} {body : KT kk → World → (World → Prop) → Prop} {fin : Nat → World → Prop} (h : St w0 w L)
    (hI : ∀ (l D : Nat) (R : LoopState → Obj) (w1 : World), St w0 w1 (obj l (R .ready) :: obj D (.deferred (some [])) :: L) →
      I gf (rY l R kk body) (first.toList ++ (.func (.yield l) #[] #[] :: lb.toList)) w1 fun _ w5 => w5.heap[l]? = some (R .ready) ∧ fin D (w5.putObj l (R .exhausted))) :
    rangeF I kk (.func (.func gf) first lb) w body fin := by
  intro R hR
  have h1 := alloc_h (R .ready) (alloc_h (.deferred (some [])) h)
  have e : (w.alloc (.deferred (some []))).heap.size = w.heap.size + 1 := by show (w.heap.push _).size = _; simp
  rw [e] at h1
  exact hI _ _ R _ h1
theorem rY_h {l : Nat} {R : LoopState → Obj} {kk : List K} {body : KT kk → World → (World → Prop) → Prop} {args : List Value} {c : Value → World → Prop} (y : KT kk) (hy : ∀ c : KT kk → Prop, c y → unL kk args c)
    (h : St w0 w L) [a : At L (Ev.obj l) (R .ready) f]
    (hb : ∀ w', St w0 w' (f (Ev.obj l (R .busy))) → body y w' fun w4 => w4.heap[l]? = some (R .busy) ∧ c (.bool true) (w4.putObj l (R .ready))) : rY l R kk body l args w c :=
  ⟨rfl, obj_at h, hy _ (hb _ (putObj_h _ h))⟩
theorem rec_h {o o' : Obj} {c : World → Prop} (h : St w0 w L) [a : At L (Ev.obj g) o f] (hc : ∀ w', St w0 w' (f (Ev.obj g o')) → c w') : w.heap[g]? = some o ∧ c (w.putObj g o') :=
  ⟨obj_at h, hc _ (putObj_h _ h)⟩
theorem yield_i {l : List (Nat × Dec)} {Y : Nat → Dec} {n : Nat} {args : Array Value} {c : Value → World → Prop} (h : Y n args.toList w c) : callF (orcY l Y) (.func (.yield n) #[] #[]) args w c := by
  show Y n (#[] ++ args).toList w c
  simpa using h
end
theorem St.join {w0 w w' : World} {L M : List HP} (h : St w0 w L) (k : St w w' M) : St w0 w' (M ++ L) := by
  obtain ⟨e1, FL, hL, bL⟩ := h
  obtain ⟨e2, FM, hM, bM⟩ := k
  refine ⟨e1.trans e2, fun g => FM g ∨ FL g, sepP_assoc.1 ⟨FM, FL, hM, sepP_keep hL fun g hg => e2.block g (sepP_lt hL hg) fun h => h, fun g hg hg2 => ?_, fun _ => Iff.rfl⟩, fun g hg => ?_⟩
  · have := bM g hg; have := sepP_lt hL hg2; omega
  · have := e1.size
    rcases hg with hg | hg
    · have := bM g hg; omega
    · exact bL g hg
theorem rdFrom_c {w : World} {p : Addr} : ∀ (n i : Nat) (e : List Value), e.length = i + n → (∀ j v, e[j]? = some v → w.cell? (p.add j) = some v) → rdFrom w p i n = some (e.drop i)
  | 0, i, e, hl, _ => by rw [List.drop_eq_nil_of_le (by omega)]; rfl
  | n + 1, i, e, hl, h => by
    have hi : i < e.length := by omega
    have h1 := h i e[i] (List.getElem?_eq_getElem hi)
    have h2 := rdFrom_c n (i + 1) e (by omega) h
    rw [List.drop_eq_getElem_cons hi]
    simp [rdFrom, rd, h1, h2]
theorem ldA_c {n : Nat} {w : World} {p : Addr} {e : List Value} {c : Array Value → Prop} (hl : e.length = n) (h : ∀ j v, e[j]? = some v → w.cell? (p.add j) = some v) (hc : c e.toArray) : ldA n w p c := by
  unfold ldA
  rw [rdFrom_c n 0 e (by omega) h]
  exact hc
theorem sepP_perm {L M : List HP} (hp : L.Perm M) : ∀ {F w}, sepP L F w → sepP M F w := by
  induction hp with
  | nil => exact id
  | cons x _ ih => rintro F w ⟨F1, F2, h1, h2, h3, h4⟩; exact ⟨F1, F2, h1, ih h2, h3, h4⟩
  | swap x y l => exact fun h => sepP_swap h
  | trans _ _ ih1 ih2 => exact fun h => ih2 (ih1 h)
theorem St.perm {w0 w : World} {L M : List HP} (h : St w0 w L) (hp : L.Perm M) : St w0 w M := ⟨h.ext, by obtain ⟨F, h1, h2⟩ := h.sep; exact ⟨F, sepP_perm hp h1, h2⟩⟩
theorem perm_front : ∀ {L : List HP} {n : Nat} {X : HP}, L[n]? = some X → L.Perm (X :: L.eraseIdx n)
  | [], n, X, h => by simp at h
  | R :: L, 0, X, h => by simp at h; subst h; exact .refl _
  | R :: L, n + 1, X, h => ((perm_front (L := L) (n := n) (by simpa using h)).cons R).trans (.swap _ _ _)
theorem perm_f (n : Nat) {L M : List HP} {X : HP} (e : L[n]? = some X) (h : (L.eraseIdx n).Perm M) : L.Perm (X :: M) := by
  have := perm_front e
  exact this.trans (h.cons X)
end Go.Ev
namespace Go.Ev
open Go Go.RowKit
structure FnR where
  needs : Int
  sl : Sl
  code : List (List Int)
structure ProgT (P : Program) (ti tc tf ts tp tn : TypeId) : Prop where
  i : ∃ fs, P.underlying ti = some (.struct fs)
  iflat : flatB P 4 ti = true
  ic : P.cellsOf ti = 5
  ib : P.bytesOf ti = 40
  c : P.underlying tc = some (.slice ti)
  f : ∃ f0 f1 : Field, P.underlying tf = some (.struct #[f0, f1]) ∧ f0.type = tn ∧ f0.offset = 0 ∧ f1.type = tc ∧ f1.offset = 1
  n : P.underlying tn = some (.int .i64)
  nc : P.cellsOf tn = 1
  cc : P.cellsOf tc = 1
  fc : P.cellsOf tf = 2
  fb : P.bytesOf tf = 32
  s : P.underlying ts = some (.slice tf)
  sc : P.cellsOf ts = 1
  p : ∃ f0 : Field, P.underlying tp = some (.struct #[f0]) ∧ f0.type = ts ∧ f0.offset = 0
  pc : P.cellsOf tp = 1
section
variable {P : Program} {w : World} {ti tc tf ts tp tn : TypeId}
structure Code5 (w : World) (s : Sl) (l : List (List Int)) : Prop where
  rws : Rws 5 w s (l.map Go.Ev.ints)
  five : ∀ i ∈ l, i.length = 5 ∧ ∀ y ∈ i, InI y
  few : l.length * 40 ≤ reachBytes
theorem Code5.len {s : Sl} {l : List (List Int)} (h : Code5 w s l) : s.n = l.length := by have := h.rws.len; simp at this; omega
theorem Code5.ext {w' : World} {s : Sl} {l : List (List Int)} (h : Code5 w s l) (he : Ext w w') : Code5 w' s l := ⟨h.rws.ext he, h.five, h.few⟩
theorem Rdd.code (T : ProgT P ti tc tf ts tp tn) {cs : List Value} (h : Rdd P w tc cs) : ∃ (s : Sl) (l : List (List Int)), cs = [.slice s.a s.n s.c] ∧ Code5 w s l := by
  obtain ⟨s, es, rfl, hr, hb, h1, h2, hall⟩ := h.slice T.c
  obtain ⟨fs, hti⟩ := T.i
  obtain ⟨l, rfl, hl⟩ := exists_map (f := Go.Ev.ints) (G := fun i : List Int => i.length = 5 ∧ ∀ y ∈ i, InI y) (es := es) fun e he => by
    obtain ⟨xs, hx, hI⟩ := exists_map ((hall e he).flat T.iflat)
    refine ⟨xs, hx, ?_, hI⟩
    have := (hall e he).len (.inr ⟨fs, hti⟩)
    rw [hx, T.ic] at this; simpa using this
  rw [T.ic] at hr
  refine ⟨s, l, rfl, hr, hl, ?_⟩
  rw [T.ib] at hb; simpa using hb
def FnR.cells (x : FnR) : List Value := [.int .i64 x.needs, .slice x.sl.a x.sl.n x.sl.c]
structure Funcs5 (w : World) (s : Sl) (l : List FnR) : Prop where
  rws : Rws 2 w s (l.map FnR.cells)
  code : ∀ x ∈ l, InI x.needs ∧ Code5 w x.sl x.code
  few : l.length * 32 ≤ reachBytes
theorem Funcs5.len {s : Sl} {l : List FnR} (h : Funcs5 w s l) : s.n = l.length := by have := h.rws.len; simp at this; omega
theorem Funcs5.ext {w' : World} {s : Sl} {l : List FnR} (h : Funcs5 w s l) (he : Ext w w') : Funcs5 w' s l := ⟨h.rws.ext he, fun x hx => ⟨(h.code x hx).1, (h.code x hx).2.ext he⟩, h.few⟩
theorem Rdd.func (T : ProgT P ti tc tf ts tp tn) {cs : List Value} (h : Rdd P w tf cs) : ∃ x : FnR, cs = x.cells ∧ InI x.needs ∧ Code5 w x.sl x.code := by
  obtain ⟨f0, f1, hf, e1, e2, e3, e4⟩ := T.f
  obtain ⟨hl, hall⟩ := h.struct hf
  have h0 := hall 0 f0 (by simp)
  have h1 := hall 1 f1 (by simp)
  rw [e1, e2, T.nc] at h0
  rw [e3, e4, T.cc] at h1
  obtain ⟨n, hn, hI⟩ := h0.int T.n
  obtain ⟨s, l, hs, hc⟩ := h1.code T
  refine ⟨⟨n, s, l⟩, ?_, hI, hc⟩
  have hlen : cs.length = 2 := by rw [hl, T.fc]
  match cs, hlen with
  | [a, b], _ => simp at hn hs; simp [FnR.cells, hn, hs]
theorem Rdd.funcs (T : ProgT P ti tc tf ts tp tn) {cs : List Value} (h : Rdd P w ts cs) : ∃ (s : Sl) (l : List FnR), cs = [.slice s.a s.n s.c] ∧ Funcs5 w s l := by
  obtain ⟨s, es, rfl, hr, hb, h1, h2, hall⟩ := h.slice T.s
  obtain ⟨l, rfl, hl⟩ := exists_map (f := FnR.cells) (G := fun x => InI x.needs ∧ Code5 w x.sl x.code) (es := es) fun e he => (hall e he).func T
  rw [T.fc] at hr
  rw [T.fb] at hb
  exact ⟨s, l, rfl, hr, hl, by simpa using hb⟩
theorem Rdd.program (T : ProgT P ti tc tf ts tp tn) {cs : List Value} (h : Rdd P w tp cs) : ∃ (s : Sl) (l : List FnR), cs = [.slice s.a s.n s.c] ∧ Funcs5 w s l := by
  obtain ⟨f0, hf, e1, e2⟩ := T.p
  obtain ⟨hl, hall⟩ := h.struct hf
  have h0 := hall 0 f0 (by simp)
  rw [e1, e2, T.sc] at h0
  have hlen : cs.length = 1 := by rw [hl, T.pc]
  match cs, hlen with
  | [a], _ => exact Rdd.funcs T (by simpa using h0)
theorem Arg.program (T : ProgT P ti tc tf ts tp tn) {v : Value} (h : Arg P w tp v) : ∃ (s : Sl) (l : List FnR), v = .agg #[.slice s.a s.n s.c] ∧ Funcs5 w s l := by
  obtain ⟨f0, hf, e1, e2⟩ := T.p
  obtain ⟨cs, rfl, hr⟩ := h.agg (.inr ⟨_, hf⟩)
  obtain ⟨s, l, hcs, hF⟩ := hr.program T
  refine ⟨s, l, ?_, hF⟩
  congr 1
  exact Array.ext' hcs
end
end Go.Ev
