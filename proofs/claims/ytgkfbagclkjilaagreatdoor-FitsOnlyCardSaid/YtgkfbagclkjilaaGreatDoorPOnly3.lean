/-
  The functions of this seat, as the evaluator gives them: printed by a program; each tied to its function by the kernel.
  Blocks of numbers; calls that leave what was there.
  Layer 5, and what it asks of layer 2: tasks, what passes on, which instructions may be.
  Layer 5, and what it asks of layer 2: which instructions may be; what concerns registers alone.
  Layer 5: what concerns registers alone.
  Layer 5: the document's answer, for what concerns registers alone; the chapter's example.
  Layer 5: closes, forks, joins.
  Layer 5: children.
  What a proof holds of memory, as a list of parts that lie apart: blocks, slices; a rule for each primitive.
  Ranges over functions, over parts: a loop's record, marks, yields.
  Arguments that are programs: functions, their instructions.
  Layer 4: how many scopes are open; rows of numbers.
  Layer 4: what is held: the flow; an instruction is come to.
  Layer 4: what is held: the start.
  Layer 4: what comes behind an instruction, as an iterator.
  Layer 4: what is held: a step of the flow, and that it ends.
  Layer 4: what is held: a pass of the loop's range.
  Layer 4: what is held: the whole.
  Layer 4: the reference's ways.
  Layer 4: the reference: bits; what a handle's ways come to.
  Layer 4: the reference: to which instructions a way leads on which a handle is not forked.
  Layer 4: the reference: without.
  Layer 4: the plain law of what is held: a handle is not held just where a way leads on which it was not forked.
  Layer 4: the reference: what is held.
  Layer 2: which instructions may be: the code's answer and the document's.
  Layer 2: which instructions may be: the document's answer.
  Layer 4: what is wrong with a function by itself.
  Layer 4: the judge's four questions.
  Layer 4: the judge's last question; a function.
  Layer 4: the first fault of a function.
  Layer 4: the first fault of a program.
  Layer 4: the chapter's examples.
  Layer 4: the laws of depths, and of handles that are held.
  Layer 4: rows that are owned; whether a program is accepted; the law of what is never come to.
  Layer 4: the law of functions that need more.
  Layer 4: the document's answer: what is wrong with an instruction.
  Layer 4: the document's answer for programs; the law of programs.
  Layer 4: what it is to be accepted; any way through a function of a program that is.
  Layer 4: the law of ways through a function.
-/
import Derived.Test.YtgkfbagclkjilaaGreatDoorPOnly2
set_option maxRecDepth 100000
set_option linter.unusedVariables false
set_option linter.unusedSimpArgs false
namespace Go.Proofs.YtgkfbagclkjilaaGreatDoor
open Go Go.Ev
def fits_Fits_b (fits_all : Array Value → Sl → Bool → World → ((Int × Int) → World → Prop) → Prop) (p_0 : Array Value) (l_1 : Sl) (w : World) (k : (Int × Int) → World → Prop) : Prop :=
 newC w p_0 24 fun a1 w2 =>
 ldA 1 w2 a1 fun cs3 =>
 fits_all cs3 l_1 false w2 fun x4 w5 =>
 (k ((x4.1, x4.2).1, (x4.1, x4.2).2) w5)
theorem e_fits_Fits (fits_all : Array Value → Sl → Bool → World → ((Int × Int) → World → Prop) → Prop) (x : KT [.ag, .s]) (w : World) (k : KT [(.i .i64), (.i .i64)] → World → Prop) : evFn Go.Proofs.Tryz.prog (orcOf [(n_fits_all, (fun args w c => unL [.ag, .s, .b] args fun x => fits_all x.1 x.2.1 x.2.2 w fun r w => c (packV (valL [(.i .i64), (.i .i64)] r)) w))]) 54 [] Go.Proofs.Tryz.f9 [(.i .i64), (.i .i64)] (valL [.ag, .s] x) w k = fits_Fits_b fits_all x.1 x.2 w k := by kernel_rfl
def fits_Fits (p_0 : Array Value) (l_1 : Sl) (w : World) (k : (Int × Int) → World → Prop) : Prop := fits_Fits_b fits_all p_0 l_1 w k
def d_fits_Fits : Dec := fun args w c => unL [.ag, .s] args fun x => fits_Fits x.1 x.2 w fun r w => c (packV (valL [(.i .i64), (.i .i64)] r)) w
theorem s_fits_Fits : Sound Go.Proofs.Tryz.prog n_fits_Fits d_fits_Fits :=
 sound_of (mask := 54) (h := []) (ds := [(n_fits_all, d_fits_all)]) mixed Go.Proofs.Tryz.func9 ⟨s_fits_all, trivial⟩
 [.ag, .s] [(.i .i64), (.i .i64)] (by kernel_rfl) (fun x w k => fits_Fits x.1 x.2 w k) (fun x w k => e_fits_Fits fits_all x w k)
def fits_Quiet_b (fits_all : Array Value → Sl → Bool → World → ((Int × Int) → World → Prop) → Prop) (p_0 : Array Value) (l_1 : Sl) (w : World) (k : (Int × Int) → World → Prop) : Prop :=
 newC w p_0 24 fun a1 w2 =>
 ldA 1 w2 a1 fun cs3 =>
 fits_all cs3 l_1 true w2 fun x4 w5 =>
 (k ((x4.1, x4.2).1, (x4.1, x4.2).2) w5)
theorem e_fits_Quiet (fits_all : Array Value → Sl → Bool → World → ((Int × Int) → World → Prop) → Prop) (x : KT [.ag, .s]) (w : World) (k : KT [(.i .i64), (.i .i64)] → World → Prop) : evFn Go.Proofs.Tryz.prog (orcOf [(n_fits_all, (fun args w c => unL [.ag, .s, .b] args fun x => fits_all x.1 x.2.1 x.2.2 w fun r w => c (packV (valL [(.i .i64), (.i .i64)] r)) w))]) 54 [] Go.Proofs.Tryz.f11 [(.i .i64), (.i .i64)] (valL [.ag, .s] x) w k = fits_Quiet_b fits_all x.1 x.2 w k := by kernel_rfl
def fits_Quiet (p_0 : Array Value) (l_1 : Sl) (w : World) (k : (Int × Int) → World → Prop) : Prop := fits_Quiet_b fits_all p_0 l_1 w k
def d_fits_Quiet : Dec := fun args w c => unL [.ag, .s] args fun x => fits_Quiet x.1 x.2 w fun r w => c (packV (valL [(.i .i64), (.i .i64)] r)) w
theorem s_fits_Quiet : Sound Go.Proofs.Tryz.prog n_fits_Quiet d_fits_Quiet :=
 sound_of (mask := 54) (h := []) (ds := [(n_fits_all, d_fits_all)]) mixed Go.Proofs.Tryz.func11 ⟨s_fits_all, trivial⟩
 [.ag, .s] [(.i .i64), (.i .i64)] (by kernel_rfl) (fun x w k => fits_Quiet x.1 x.2 w k) (fun x w k => e_fits_Quiet fits_all x w k)
def pelotonlaw08_awake_b (fits_Fits : Array Value → Sl → World → ((Int × Int) → World → Prop) → Prop) (fits_Quiet : Array Value → Sl → World → ((Int × Int) → World → Prop) → Prop)  (w : World) (k : (Bool) → World → Prop) : Prop :=
 spl #[(.int .i64 (0 : Int)), (.int .i64 (0 : Int)), (.int .i64 (0 : Int)), (.int .i64 (0 : Int)), (.int .i64 (0 : Int)), (.int .i64 (0 : Int)), (.int .i64 (0 : Int)), (.int .i64 (0 : Int)), (.int .i64 (0 : Int)), (.int .i64 (0 : Int)), (.int .i64 (0 : Int)), (.int .i64 (0 : Int)), (.int .i64 (0 : Int)), (.int .i64 (0 : Int)), (.int .i64 (0 : Int))] 0 5 #[(.int .i64 (8 : Int)), (.int .i64 (1 : Int)), (.int .i64 (0 : Int)), (.int .i64 (0 : Int)), (.int .i64 (1 : Int))] fun cs1 =>
 spl cs1 5 5 #[(.int .i64 (9 : Int)), (.int .i64 (0 : Int)), (.int .i64 (1 : Int)), (.int .i64 (0 : Int)), (.int .i64 (0 : Int))] fun cs2 =>
 spl cs2 10 5 #[(.int .i64 (16 : Int)), (.int .i64 (0 : Int)), (.int .i64 (0 : Int)), (.int .i64 (0 : Int)), (.int .i64 (0 : Int))] fun cs3 =>
 newC w cs3 42 fun a4 w5 =>
 spl #[(.int .i64 (0 : Int)), (.int .i64 (0 : Int)), (.int .i64 (0 : Int)), (.int .i64 (0 : Int)), (.int .i64 (0 : Int))] 0 5 #[(.int .i64 (16 : Int)), (.int .i64 (0 : Int)), (.int .i64 (0 : Int)), (.int .i64 (0 : Int)), (.int .i64 (0 : Int))] fun cs6 =>
 newC w5 cs6 42 fun a7 w8 =>
 spl #[(.int .i64 (0 : Int)), (.slice none 0 0), (.int .i64 (0 : Int)), (.slice none 0 0)] 0 2 #[(.int .i64 (0 : Int)), (.slice (some a4) 3 3)] fun cs9 =>
 spl cs9 2 2 #[(.int .i64 (0 : Int)), (.slice (some a7) 1 1)] fun cs10 =>
 newC w8 cs10 45 fun a11 w12 =>
 newC w12 #[(.slice none 0 0)] 24 fun a13 w14 =>
 stA 1 w14 a13 #[(.slice (some a11) 2 2)] fun w15 =>
 spl #[(.int .i64 (0 : Int)), (.int .i64 (0 : Int)), (.int .i64 (0 : Int)), (.int .i64 (0 : Int)), (.int .i64 (0 : Int)), (.int .i64 (0 : Int)), (.string (ByteArray.mk #[]))] 0 7 #[(.int .i64 (-(1 : Int))), (.int .i64 (0 : Int)), (.int .i64 (0 : Int)), (.int .i64 (4 : Int)), (.int .i64 (0 : Int)), (.int .i64 (0 : Int)), (.string (ByteArray.mk #[]))] fun cs16 =>
 newC w15 cs16 40 fun a17 w18 =>
 ldA 1 w18 a13 fun cs19 =>
 fits_Fits cs19 (Sl.mk (some a17) 1 1) w18 fun x20 w21 =>
 ldA 1 w21 a13 fun cs22 =>
 fits_Quiet cs22 (Sl.mk (some a17) 1 1) w21 fun x23 w24 =>
 ldA 1 w24 a13 fun cs25 =>
 spl #[(.int .i64 (0 : Int)), (.int .i64 (0 : Int)), (.int .i64 (0 : Int)), (.int .i64 (0 : Int)), (.int .i64 (0 : Int)), (.int .i64 (0 : Int)), (.string (ByteArray.mk #[])), (.int .i64 (0 : Int)), (.int .i64 (0 : Int)), (.int .i64 (0 : Int)), (.int .i64 (0 : Int)), (.int .i64 (0 : Int)), (.int .i64 (0 : Int)), (.string (ByteArray.mk #[]))] 0 7 #[(.int .i64 (-(1 : Int))), (.int .i64 (0 : Int)), (.int .i64 (0 : Int)), (.int .i64 (1 : Int)), (.int .i64 (0 : Int)), (.int .i64 (1 : Int)), (.string (ByteArray.mk #[]))] fun cs26 =>
 spl cs26 7 7 #[(.int .i64 (0 : Int)), (.int .i64 (0 : Int)), (.int .i64 (1 : Int)), (.int .i64 (0 : Int)), (.int .i64 (0 : Int)), (.int .i64 (0 : Int)), (.string (ByteArray.mk #[]))] fun cs27 =>
 newC w24 cs27 40 fun a28 w29 =>
 fits_Quiet cs25 (Sl.mk (some a28) 2 2) w29 fun x30 w31 =>
 (k ((((x20.1, x20.2).2 == (0 : Int)) && ((x23.1, x23.2).2 == (25 : Int))) && ((x30.1, x30.2).2 == (0 : Int))) w31)
theorem e_pelotonlaw08_awake (fits_Fits : Array Value → Sl → World → ((Int × Int) → World → Prop) → Prop) (fits_Quiet : Array Value → Sl → World → ((Int × Int) → World → Prop) → Prop) (x : KT []) (w : World) (k : KT [.b] → World → Prop) : evFn Go.Proofs.Tryz.prog (orcOf [(n_fits_Fits, (fun args w c => unL [.ag, .s] args fun x => fits_Fits x.1 x.2 w fun r w => c (packV (valL [(.i .i64), (.i .i64)] r)) w)), (n_fits_Quiet, (fun args w c => unL [.ag, .s] args fun x => fits_Quiet x.1 x.2 w fun r w => c (packV (valL [(.i .i64), (.i .i64)] r)) w))]) 343 [] Go.Proofs.Tryz.f8 [.b] (valL [] x) w k = pelotonlaw08_awake_b fits_Fits fits_Quiet  w k := by kernel_rfl
def pelotonlaw08_awake  (w : World) (k : (Bool) → World → Prop) : Prop := pelotonlaw08_awake_b fits_Fits fits_Quiet  w k
def d_pelotonlaw08_awake : Dec := fun args w c => unL [] args fun x => pelotonlaw08_awake  w fun r w => c (packV (valL [.b] r)) w
theorem s_pelotonlaw08_awake : Sound Go.Proofs.Tryz.prog n_pelotonlaw08_awake d_pelotonlaw08_awake :=
 sound_of (mask := 343) (h := []) (ds := [(n_fits_Fits, d_fits_Fits), (n_fits_Quiet, d_fits_Quiet)]) mixed Go.Proofs.Tryz.func8 ⟨s_fits_Fits, s_fits_Quiet, trivial⟩
 [] [.b] (by kernel_rfl) (fun x w k => pelotonlaw08_awake  w k) (fun x w k => e_pelotonlaw08_awake fits_Fits fits_Quiet x w k)
def check_Plain (p_0 : Array Value) (w : World) (k : (Bool) → World → Prop) : Prop :=
 newC w p_0 24 fun a1 w2 =>
 ldS w2 (Addr.add a1 0) fun s3 =>
 loopP (S := Int) (fun C4 i5 w6 =>
 iteB (decide (i5 < ((s3.n : Nat) : Int))) (
 ixS s3 i5 2 fun a7 =>
 ldA 2 w6 a7 fun cs8 =>
 newC w6 #[(.int .i64 (0 : Int)), (.slice none 0 0)] 45 fun a9 w10 =>
 stA 2 w10 a9 cs8 fun w11 =>
 ldS w11 (Addr.add a9 1) fun s12 =>
 loopP (S := Int) (fun C13 i14 w15 =>
 iteB (decide (i14 < ((s12.n : Nat) : Int))) (
 ixS s12 i14 5 fun a16 =>
 ldA 5 w15 a16 fun cs17 =>
 newC w15 #[(.int .i64 (0 : Int)), (.int .i64 (0 : Int)), (.int .i64 (0 : Int)), (.int .i64 (0 : Int)), (.int .i64 (0 : Int))] 42 fun a18 w19 =>
 stA 5 w19 a18 cs17 fun w20 =>
 joinP (S := Bool) (fun J21 =>
 ldI .i64 w20 (Addr.add a18 0) fun i22 =>
 iteB (i22 == (13 : Int)) (
 (J21 true w20)) (
 ldI .i64 w20 (Addr.add a18 0) fun i23 =>
 iteB (i23 == (11 : Int)) (
 ldI .i64 w20 (Addr.add a18 4) fun i24 =>
 (J21 (i24 != (0 : Int)) w20)) (
 (J21 false w20)))) fun b25 w26 =>
 iteB b25 (
 (k false w26)) (
 (C13 (IntKind.wrap .i64 (i14 + (1 : Int))) w26))) (
 (C4 (IntKind.wrap .i64 (i5 + (1 : Int))) w15))) (0 : Int) w11) (
 (k true w6))) (0 : Int) w2
def d_check_Plain : Dec := fun args w c => unL [.ag] args fun x => check_Plain x w fun r w => c (packV (valL [.b] r)) w
theorem s_check_Plain : Sound Go.Proofs.Tryz.prog n_check_Plain d_check_Plain :=
 sound_of (mask := 8590430038) (h := [(3, [(10, (.i .i64))]), (10, [(17, (.i .i64))]), (15, [(33, .b)])]) (ds := []) mixed Go.Proofs.Tryz.func14 trivial
 [.ag] [.b] (by kernel_rfl) (fun x w k => check_Plain x w k) (fun x w k => by kernel_rfl)
def table_Done_1_b (table_came : Array Value → World → ((Bool) → World → Prop) → Prop) (r_0 : Array Value) (w : World) (k : (Bool) → World → Prop) : Prop :=
 newC w r_0 40 fun a1 w2 =>
 ldA 7 w2 a1 fun cs3 =>
 table_came cs3 w2 fun b4 w5 =>
 (k (!b4) w5)
theorem e_table_Done_1 (table_came : Array Value → World → ((Bool) → World → Prop) → Prop) (x : KT [.ag]) (w : World) (k : KT [.b] → World → Prop) : evFn Go.Proofs.Tryz.prog (orcOf [(n_table_came, (fun args w c => unL [.ag] args fun x => table_came x w fun r w => c (packV (valL [.b] r)) w))]) 6 [] Go.Proofs.Tryz.f31 [.b] (valL [.ag] x) w k = table_Done_1_b table_came x w k := by kernel_rfl
def table_Done_1 (r_0 : Array Value) (w : World) (k : (Bool) → World → Prop) : Prop := table_Done_1_b table_came r_0 w k
def d_table_Done_1 : Dec := fun args w c => unL [.ag] args fun x => table_Done_1 x w fun r w => c (packV (valL [.b] r)) w
theorem s_table_Done_1 : Sound Go.Proofs.Tryz.prog n_table_Done_1 d_table_Done_1 :=
 sound_of (mask := 6) (h := []) (ds := [(n_table_came, d_table_came)]) mixed Go.Proofs.Tryz.func31 ⟨s_table_came, trivial⟩
 [.ag] [.b] (by kernel_rfl) (fun x w k => table_Done_1 x w k) (fun x w k => e_table_Done_1 table_came x w k)
def slices_IndexFunc___api_Row_api_Row__b (table_Done_1 : Array Value → World → ((Bool) → World → Prop) → Prop) (s_0 : Sl) (f_1 : Value) (w : World) (k : (Int) → World → Prop) : Prop :=
 loopP (S := Int) (fun C1 i2 w3 =>
 iteB (decide (i2 < ((s_0.n : Nat) : Int))) (
 ixS s_0 i2 7 fun a4 =>
 ldA 7 w3 a4 fun cs5 =>
 callF (orcOf [(n_table_Done_1, (fun args w c => unL [.ag] args fun x => table_Done_1 x w fun r w => c (packV (valL [.b] r)) w))]) f_1 #[(.agg cs5)] w3 fun v6 w7 =>
 toB v6 fun b8 =>
 iteB b8 (
 (k i2 w7)) (
 (C1 (IntKind.wrap .i64 (i2 + (1 : Int))) w7))) (
 (k (-(1 : Int)) w3))) (0 : Int) w
theorem e_slices_IndexFunc___api_Row_api_Row_ (table_Done_1 : Array Value → World → ((Bool) → World → Prop) → Prop) (x : KT [.s, .raw]) (w : World) (k : KT [(.i .i64)] → World → Prop) : evFn Go.Proofs.Tryz.prog (orcOf [(n_table_Done_1, (fun args w c => unL [.ag] args fun x => table_Done_1 x w fun r w => c (packV (valL [.b] r)) w))]) 66483 [(3, [(8, (.i .i64))])] Go.Proofs.Tryz.f59 [(.i .i64)] (valL [.s, .raw] x) w k = slices_IndexFunc___api_Row_api_Row__b table_Done_1 x.1 x.2 w k := by kernel_rfl
def slices_IndexFunc___api_Row_api_Row_ (s_0 : Sl) (f_1 : Value) (w : World) (k : (Int) → World → Prop) : Prop := slices_IndexFunc___api_Row_api_Row__b table_Done_1 s_0 f_1 w k
def d_slices_IndexFunc___api_Row_api_Row_ : Dec := fun args w c => unL [.s, .raw] args fun x => slices_IndexFunc___api_Row_api_Row_ x.1 x.2 w fun r w => c (packV (valL [(.i .i64)] r)) w
theorem s_slices_IndexFunc___api_Row_api_Row_ : Sound Go.Proofs.Tryz.prog n_slices_IndexFunc___api_Row_api_Row_ d_slices_IndexFunc___api_Row_api_Row_ :=
 sound_of (mask := 66483) (h := [(3, [(8, (.i .i64))])]) (ds := [(n_table_Done_1, d_table_Done_1)]) mixed Go.Proofs.Tryz.func59 ⟨s_table_Done_1, trivial⟩
 [.s, .raw] [(.i .i64)] (by kernel_rfl) (fun x w k => slices_IndexFunc___api_Row_api_Row_ x.1 x.2 w k) (fun x w k => e_slices_IndexFunc___api_Row_api_Row_ table_Done_1 x w k)
def slices_ContainsFunc___api_Row_api_Row__b (slices_IndexFunc___api_Row_api_Row_ : Sl → Value → World → ((Int) → World → Prop) → Prop) (table_Done_1 : Array Value → World → ((Bool) → World → Prop) → Prop) (s_0 : Sl) (f_1 : Value) (w : World) (k : (Bool) → World → Prop) : Prop :=
 slices_IndexFunc___api_Row_api_Row_ s_0 f_1 w fun i1 w2 =>
 (k (decide (i1 ≥ (0 : Int))) w2)
theorem e_slices_ContainsFunc___api_Row_api_Row_ (slices_IndexFunc___api_Row_api_Row_ : Sl → Value → World → ((Int) → World → Prop) → Prop) (table_Done_1 : Array Value → World → ((Bool) → World → Prop) → Prop) (x : KT [.s, .raw]) (w : World) (k : KT [.b] → World → Prop) : evFn Go.Proofs.Tryz.prog (orcOf [(n_slices_IndexFunc___api_Row_api_Row_, (fun args w c => unL [.s, .raw] args fun x => slices_IndexFunc___api_Row_api_Row_ x.1 x.2 w fun r w => c (packV (valL [(.i .i64)] r)) w)), (n_table_Done_1, (fun args w c => unL [.ag] args fun x => table_Done_1 x w fun r w => c (packV (valL [.b] r)) w))]) 19 [] Go.Proofs.Tryz.f30 [.b] (valL [.s, .raw] x) w k = slices_ContainsFunc___api_Row_api_Row__b slices_IndexFunc___api_Row_api_Row_ table_Done_1 x.1 x.2 w k := by kernel_rfl
def slices_ContainsFunc___api_Row_api_Row_ (s_0 : Sl) (f_1 : Value) (w : World) (k : (Bool) → World → Prop) : Prop := slices_ContainsFunc___api_Row_api_Row__b slices_IndexFunc___api_Row_api_Row_ table_Done_1 s_0 f_1 w k
def d_slices_ContainsFunc___api_Row_api_Row_ : Dec := fun args w c => unL [.s, .raw] args fun x => slices_ContainsFunc___api_Row_api_Row_ x.1 x.2 w fun r w => c (packV (valL [.b] r)) w
theorem s_slices_ContainsFunc___api_Row_api_Row_ : Sound Go.Proofs.Tryz.prog n_slices_ContainsFunc___api_Row_api_Row_ d_slices_ContainsFunc___api_Row_api_Row_ :=
 sound_of (mask := 19) (h := []) (ds := [(n_slices_IndexFunc___api_Row_api_Row_, d_slices_IndexFunc___api_Row_api_Row_), (n_table_Done_1, d_table_Done_1)]) mixed Go.Proofs.Tryz.func30 ⟨s_slices_IndexFunc___api_Row_api_Row_, s_table_Done_1, trivial⟩
 [.s, .raw] [.b] (by kernel_rfl) (fun x w k => slices_ContainsFunc___api_Row_api_Row_ x.1 x.2 w k) (fun x w k => e_slices_ContainsFunc___api_Row_api_Row_ slices_IndexFunc___api_Row_api_Row_ table_Done_1 x w k)
def table_Done_b (slices_ContainsFunc___api_Row_api_Row_ : Sl → Value → World → ((Bool) → World → Prop) → Prop) (l_0 : Sl) (w : World) (k : (Bool) → World → Prop) : Prop :=
 slices_ContainsFunc___api_Row_api_Row_ l_0 (.func (.func n_table_Done_1) #[] #[]) w fun b1 w2 =>
 (k (!b1) w2)
theorem e_table_Done (slices_ContainsFunc___api_Row_api_Row_ : Sl → Value → World → ((Bool) → World → Prop) → Prop) (x : KT [.s]) (w : World) (k : KT [.b] → World → Prop) : evFn Go.Proofs.Tryz.prog (orcOf [(n_slices_ContainsFunc___api_Row_api_Row_, (fun args w c => unL [.s, .raw] args fun x => slices_ContainsFunc___api_Row_api_Row_ x.1 x.2 w fun r w => c (packV (valL [.b] r)) w))]) 5 [] Go.Proofs.Tryz.f15 [.b] (valL [.s] x) w k = table_Done_b slices_ContainsFunc___api_Row_api_Row_ x w k := by kernel_rfl
def table_Done (l_0 : Sl) (w : World) (k : (Bool) → World → Prop) : Prop := table_Done_b slices_ContainsFunc___api_Row_api_Row_ l_0 w k
def d_table_Done : Dec := fun args w c => unL [.s] args fun x => table_Done x w fun r w => c (packV (valL [.b] r)) w
theorem s_table_Done : Sound Go.Proofs.Tryz.prog n_table_Done d_table_Done :=
 sound_of (mask := 5) (h := []) (ds := [(n_slices_ContainsFunc___api_Row_api_Row_, d_slices_ContainsFunc___api_Row_api_Row_)]) mixed Go.Proofs.Tryz.func15 ⟨s_slices_ContainsFunc___api_Row_api_Row_, trivial⟩
 [.s] [.b] (by kernel_rfl) (fun x w k => table_Done x w k) (fun x w k => e_table_Done slices_ContainsFunc___api_Row_api_Row_ x w k)
def pelotonlaw08_steps (l_0 : Sl) (w : World) (k : (Int) → World → Prop) : Prop :=
 loopP (S := (Int × Int)) (fun C1 x2 w3 =>
 iteB (decide (x2.2 < ((l_0.n : Nat) : Int))) (
 ixS l_0 x2.2 7 fun a4 =>
 ldI .i64 w3 (Addr.add a4 5) fun i5 =>
 (C1 ((IntKind.wrap .i64 (x2.1 + i5)), (IntKind.wrap .i64 (x2.2 + (1 : Int)))) w3)) (
 (k x2.1 w3))) ((0 : Int), (0 : Int)) w
def d_pelotonlaw08_steps : Dec := fun args w c => unL [.s] args fun x => pelotonlaw08_steps x w fun r w => c (packV (valL [(.i .i64)] r)) w
theorem s_pelotonlaw08_steps : Sound Go.Proofs.Tryz.prog n_pelotonlaw08_steps d_pelotonlaw08_steps :=
 sound_of (mask := 285) (h := [(4, [(3, (.i .i64)), (4, (.i .i64))])]) (ds := []) mixed Go.Proofs.Tryz.func16 trivial
 [.s] [(.i .i64)] (by kernel_rfl) (fun x w k => pelotonlaw08_steps x w k) (fun x w k => by kernel_rfl)
def pelotonlaw06_Rows (a_0 : Sl) (b_1 : Sl) (w : World) (k : (Bool) → World → Prop) : Prop :=
 iteB (((a_0.n : Nat) : Int) != ((b_1.n : Nat) : Int)) (
 (k false w)) (
 loopP (S := Int) (fun C1 i2 w3 =>
 iteB (decide (i2 < ((a_0.n : Nat) : Int))) (
 drew w3 fun w4 =>
 ixS a_0 i2 7 fun a5 =>
 ldA 7 w4 a5 fun cs6 =>
 ixS b_1 i2 7 fun a7 =>
 ldA 7 w4 a7 fun cs8 =>
 eqA ([(0, 0)] ++ ([(1, 0)] ++ ([(2, 0)] ++ ([(3, 0)] ++ ([(4, 0)] ++ ([(5, 0)] ++ ([(6, 2)] ++ []))))))) cs6 cs8 fun b9 =>
 iteB (!b9) (
 (k false w4)) (
 (C1 (IntKind.wrap .i64 (i2 + (1 : Int))) w4))) (
 (k true w3))) (0 : Int) w)
def d_pelotonlaw06_Rows : Dec := fun args w c => unL [.s, .s] args fun x => pelotonlaw06_Rows x.1 x.2 w fun r w => c (packV (valL [.b] r)) w
theorem s_pelotonlaw06_Rows : Sound Go.Proofs.Tryz.prog n_pelotonlaw06_Rows d_pelotonlaw06_Rows :=
 sound_of (mask := 33571891) (h := [(6, [(5, (.i .i64))])]) (ds := []) mixed Go.Proofs.Tryz.func17 trivial
 [.s, .s] [.b] (by kernel_rfl) (fun x w k => pelotonlaw06_Rows x.1 x.2 w k) (fun x w k => by kernel_rfl)
end Go.Proofs.YtgkfbagclkjilaaGreatDoor
namespace Go.Ev
open Go
abbrev BI (w : World) (g : Nat) (l : List Int) : Prop := Blk w g (ints l).toArray
abbrev agI (l : List Int) : Array Value := (ints l).toArray
theorem ints_get {l : List Int} {o : Nat} (h : o < l.length) : (agI l)[o]? = some (.int .i64 (l.getD o 0)) := by
  simp [agI, ints, List.getD_eq_getElem?_getD, h]
theorem BI.cell {w : World} {g : Nat} {l : List Int} (h : BI w g l) {o : Nat} (ho : o < l.length) : w.cell? ⟨g, o, none⟩ = some (.int .i64 (l.getD o 0)) := by
  rw [Blk.cell h, ints_get ho]
theorem ldP_I {w : World} {g o : Nat} {l : List Int} {c : Int → Prop} (h : BI w g l) (ho : o < l.length) (hc : c (l.getD o 0)) : ldI .i64 w ⟨g, o, none⟩ c := ldI_i (h.cell ho) hc
theorem ints_set {l : List Int} {o : Nat} {x : Int} : (agI l).setIfInBounds o (.int .i64 x) = agI (l.set o x) := by
  simp [agI, ints, List.map_set]
theorem stC_I {w : World} {g o : Nat} {l : List Int} {x : Int} {c : World → Prop} (h : BI w g l) (ho : o < l.length) (hc : ∀ w', BI w' g (l.set o x) → w'.heap.size = w.heap.size → Only (fun k => k = g) w w' → c w') : stC w ⟨g, o, none⟩ (.int .i64 x) c :=
  stC_i rfl h (by simpa [agI, ints] using ho) fun w' hb hs ho => hc w' (by rw [ints_set] at hb; exact hb) hs ho
theorem blk_eq {w : World} {g : Nat} {a b : Array Value} (h : Blk w g a) (e : ∀ j : Nat, a[j]? = b[j]?) : Blk w g b := by
  have : a = b := by
    obtain ⟨a⟩ := a; obtain ⟨b⟩ := b
    congr 1
    exact List.ext_getElem? fun j => by simpa using e j
  rwa [← this]
theorem stA_I {w : World} {g n : Nat} {l : List Int} {cs : Array Value} {c : World → Prop} (h : Blk w g cs) (hs : cs.size = n) (hl : l.length = n) (hc : ∀ w', BI w' g l → w'.heap.size = w.heap.size → Only (fun k => k = g) w w' → c w') : stA n w ⟨g, 0, none⟩ (agI l) c := by
  refine stA_i h (by simpa [agI, ints] using hl) (by omega) (fun v hv => one_ints v (by simpa [agI] using hv)) fun w' cs' hb hz hk hv ho hs' => hc w' (blk_eq hb fun j => ?_) hs' ho
  by_cases hj : j < n
  · have := hv j hj; rwa [Nat.zero_add] at this
  · rw [Array.getElem?_eq_none (by omega), Array.getElem?_eq_none (by simp [agI, ints]; omega)]
theorem stA_P {w : World} {g n o : Nat} {l l' : List Int} {c : World → Prop} (h : BI w g l) (hl : l'.length = n) (ho : o + n ≤ l.length) (hc : ∀ w', BI w' g (l.take o ++ (l' ++ l.drop (o + n))) → w'.heap.size = w.heap.size → Only (fun k => k = g) w w' → c w') : stA n w ⟨g, o, none⟩ (agI l') c := by
  refine stA_i h (by simpa [agI, ints] using hl) (by simpa [agI, ints] using ho) (fun v hv => one_ints v (by simpa [agI] using hv)) fun w' cs' hb hz hk hv hon hs' => hc w' (blk_eq hb fun j => ?_) hs' hon
  have hz' : cs'.size = l.length := by simpa [agI, ints] using hz
  by_cases h1 : j < o
  · rw [hk j (.inl h1)]
    simp only [agI, ints, List.getElem?_toArray, List.getElem?_map]
    rw [List.getElem?_append_left (by simp; omega), List.getElem?_take_of_lt h1]
  · by_cases h2 : j < o + n
    · have := hv (j - o) (by omega)
      rw [show o + (j - o) = j by omega] at this
      rw [this]
      simp only [agI, ints, List.getElem?_toArray, List.getElem?_map]
      rw [List.getElem?_append_right (by simp; omega), List.getElem?_append_left (by simp; omega)]
      congr 2
      simp; omega
    · rw [hk j (.inr (by omega))]
      simp only [agI, ints, List.getElem?_toArray, List.getElem?_map]
      rw [List.getElem?_append_right (by simp; omega), List.getElem?_append_right (by simp; omega), List.getElem?_drop]
      congr 2
      simp; omega
theorem ldA_I {w : World} {g n : Nat} {l : List Int} {c : Array Value → Prop} (h : BI w g l) (hl : l.length = n) (hc : c (agI l)) : ldA n w ⟨g, 0, none⟩ c := by
  refine ldA_i h (by simp [agI, ints]; omega) ?_
  have : ((agI l).toList.drop 0).take n = ints l := by simp [agI, ints, List.take_of_length_le, hl]
  rw [this]; exact hc
theorem ldA_P {w : World} {g n o : Nat} {l : List Int} {c : Array Value → Prop} (h : BI w g l) (hl : o + n ≤ l.length) (hc : c (agI ((l.drop o).take n))) : ldA n w ⟨g, o, none⟩ c := by
  refine ldA_i h (by simpa [agI, ints] using hl) ?_
  have : ((agI l).toList.drop o).take n = ints ((l.drop o).take n) := by simp [agI, ints, List.map_take, List.map_drop]
  rw [this]; exact hc
theorem ixA_I {l : List Int} {n : Nat} {i : Int} {c : Value → Prop} (h0 : 0 ≤ i) (h1 : i < n) (hl : l.length = n) (hc : c (.int .i64 (l.getD i.toNat 0))) : ixA (agI l) n i c := by
  refine ⟨⟨h0, h1⟩, ?_⟩
  unfold ptA
  rw [ints_get (by omega)]
  exact hc
theorem toI_i {n : Int} {c : Int → Prop} (h : c n) : toI .i64 (.int .i64 n) c := h
theorem samec_B {g o n : Nat} {w w' : World} {cs : Array Value} {c : Prop} (h : Blk w g cs) (h' : Blk w' g cs) (hc : c) : samec n ⟨g, o, none⟩ w w' c :=
  ⟨fun k _ => by rw [add_mk, h.cell, h'.cell], hc⟩
theorem eqOffs_ints : ∀ (os : List Nat) (xs ys : List Int), (∀ o ∈ os, o < xs.length ∧ o < ys.length) → eqOffs (agI xs) (agI ys) (os.map fun o => (o, 0)) = some (os.all fun o => xs.getD o 0 == ys.getD o 0)
  | [], _, _, _ => rfl
  | o :: os, xs, ys, h => by
    have h1 := h o (by simp)
    simp only [List.map_cons, eqOffs, ints_get h1.1, ints_get h1.2, eqC, if_true]
    rw [eqOffs_ints os xs ys fun o ho => h o (by simp [ho])]
    simp
theorem eqA_I {n : Nat} {xs ys : List Int} {c : Bool → Prop} (hx : xs.length = n) (hy : ys.length = n) (hc : c (decide (xs = ys))) : eqA ((List.range n).map fun o => (o, 0)) (agI xs) (agI ys) c := by
  unfold eqA
  rw [eqOffs_ints _ _ _ fun o ho => by simp at ho; omega]
  have e : ((List.range n).all fun o => xs.getD o 0 == ys.getD o 0) = decide (xs = ys) := by
    rw [Bool.eq_iff_iff, decide_eq_true_eq, List.all_eq_true]
    constructor
    · intro h
      apply List.ext_getElem?
      intro j
      by_cases hj : j < n
      · have := h j (by simpa using hj)
        simp only [List.getD_eq_getElem?_getD, beq_iff_eq] at this
        rw [List.getElem?_eq_getElem (by omega), List.getElem?_eq_getElem (by omega)] at this ⊢
        simpa using this
      · rw [List.getElem?_eq_none (by omega), List.getElem?_eq_none (by omega)]
    · rintro rfl o _; simp
  rw [e]; exact hc
theorem getD_set_ne {l : List Int} {i j : Nat} {x d : Int} (h : i ≠ j) : (l.set i x).getD j d = l.getD j d := by
  simp [List.getD_eq_getElem?_getD, List.getElem?_set_ne h]
theorem take_set_self (L : List Value) (n : Nat) (v : Value) : (L.set n v).take n = L.take n := by
  apply List.ext_getElem?
  intro j
  rw [List.getElem?_take, List.getElem?_take]
  split
  · rw [List.getElem?_set_ne (by omega)]
  · rfl
theorem drop_set_lt (L : List Value) (n m : Nat) (v : Value) (h : n < m) : (L.set n v).drop m = L.drop m := by
  apply List.ext_getElem?
  intro j
  rw [List.getElem?_drop, List.getElem?_drop, List.getElem?_set_ne (by omega)]
theorem fold_setL (off : Nat) : ∀ (cs : List Value) (k : Nat) (L : List Value), off + k + cs.length ≤ L.length →
    (cs.zipIdx k).foldl (fun (a : List Value) (x : Value × Nat) => a.set (off + x.2) x.1) L = L.take (off + k) ++ (cs ++ L.drop (off + k + cs.length))
  | [], k, L, h => by simp
  | v :: cs, k, L, h => by
    simp only [List.length_cons] at h
    rw [List.zipIdx_cons, List.foldl_cons, fold_setL off cs (k + 1) _ (by simp; omega)]
    simp only [List.length_cons]
    rw [drop_set_lt _ _ _ _ (by omega), show off + (k + 1) = off + k + 1 by omega, List.take_add_one, take_set_self, List.getElem?_set_self (by omega)]
    rw [show off + k + 1 + cs.length = off + k + (cs.length + 1) by omega]
    simp
theorem fold_toList (off : Nat) : ∀ (l : List (Value × Nat)) (acc : Array Value), (l.foldl (fun (a : Array Value) (x : Value × Nat) => a.setIfInBounds (off + x.2) x.1) acc).toList = l.foldl (fun (a : List Value) (x : Value × Nat) => a.set (off + x.2) x.1) acc.toList
  | [], _ => rfl
  | x :: l, acc => by rw [List.foldl_cons, List.foldl_cons, fold_toList off l]; simp
theorem fold_set (off : Nat) (cs : List Value) (acc : Array Value) (h : off + cs.length ≤ acc.size) :
    (cs.zipIdx 0).foldl (fun (a : Array Value) (x : Value × Nat) => a.setIfInBounds (off + x.2) x.1) acc = (acc.toList.take off ++ (cs ++ acc.toList.drop (off + cs.length))).toArray := by
  have h1 := fold_toList off (cs.zipIdx 0) acc
  rw [fold_setL off cs 0 _ (by simpa using h), Nat.add_zero] at h1
  rw [← h1]
theorem spl_V {acc cs : List Value} {off size : Nat} {c : Array Value → Prop} (r : List Value) (h : cs.length = size) (ho : off + size ≤ acc.length) (hr : acc.take off ++ (cs ++ acc.drop (off + size)) = r) (hc : c r.toArray) : spl acc.toArray off size cs.toArray c := by
  refine ⟨by simp [h], ?_⟩
  have := fold_set off cs acc.toArray (by simp; omega)
  rw [← Array.foldl_toList]
  have e : cs.toArray.zipIdx.toList = cs.zipIdx 0 := by simp
  rw [e]
  have e2 : (fun (cs : Array Value) (x : Value × Nat) => cs.setIfInBounds (off + x.2) x.1) = fun (cs : Array Value) (x : Value × Nat) => match x with | (x, j) => cs.setIfInBounds (off + j) x := by
    funext cs x; cases x; rfl
  rw [e2] at this
  rw [this]
  have e3 : acc.toArray.toList = acc := rfl
  rw [e3, h, hr]; exact hc
theorem spl_i {acc cs : Array Value} {off size : Nat} {c : Array Value → Prop} (r : Array Value) (h : cs.size = size) (hr : cs.zipIdx.foldl (fun cs (x, j) => cs.setIfInBounds (off + j) x) acc = r) (hc : c r) : spl acc off size cs c := by
  subst hr; exact ⟨h, hc⟩
theorem ldV_i {w : World} {a : Addr} {v : Value} {c : Value → Prop} (h : w.cell? a = some v) (hc : c v) : ldV w a c := by
  simp only [ldV, rd, h]; exact hc
theorem ixS_b {g o n c sz : Nat} {i : Int} {k : Addr → Prop} (h0 : 0 ≤ i) (h1 : i < n) (hk : k ⟨g, o + i.toNat * sz, none⟩) : ixS ⟨some ⟨g, o, none⟩, n, c⟩ i sz k := ⟨⟨h0, h1⟩, by rw [add_mk]; exact hk⟩
end Go.Ev
namespace Go.Proofs.YtgkfbagclkjilaaGreatDoor.Fr
open Go Go.Ev Go.Proofs
def fTo (f : List Int) (pc : Int) : List Int := (f.set 1 pc).set 18 (IntKind.i64.wrap ((f.set 1 pc).getD 18 0 + 1))
def fOn (f : List Int) : List Int := fTo f (IntKind.i64.wrap (f.getD 1 0 + 1))
theorem fTo_len {f : List Int} {pc : Int} : (fTo f pc).length = f.length := by simp [fTo]
theorem fOn_len {f : List Int} : (fOn f).length = f.length := fTo_len
abbrev Z (n : Nat) : List Int := List.replicate n 0
theorem to_s {f : List Int} {pc : Int} {w : World} {k : Array Value → World → Prop} (hf : f.length = 19) (hk : ∀ w', Ext w w' → k (agI (fTo f pc)) w') : frame_Frame_to (agI f) pc w k := by
  unfold frame_Frame_to
  refine newC_i fun g1 w1 hg1 hs1 hb1 he1 => newC_i fun g2 w2 hg2 hs2 hb2 he2 => ?_
  have hb1' : BI w2 g1 f := hb1.ext he2
  simp only [add_mk, Nat.zero_add]
  refine stC_I hb1' (by omega) fun w3 hb3 hs3 ho3 => ?_
  refine ldP_I hb3 (by simp; omega) ?_
  refine stC_I hb3 (by simp; omega) fun w4 hb4 hs4 ho4 => ?_
  refine ldA_I hb4 (by simp [hf]) ?_
  have hb2' := (hb2.keep ho3 (by omega)).keep ho4 (by omega)
  refine stA_I hb2' rfl (by simp [hf]) fun w5 hb5 hs5 ho5 => ldA_I hb5 (by simp [hf]) ?_
  exact hk _ ((((he1.trans he2).then ho3 fun g hg => by omega).then ho4 fun g hg => by omega).then ho5 fun g hg => by have := he1.size; omega)
theorem on_s {f : List Int} {w : World} {k : Array Value → World → Prop} (hf : f.length = 19) (hk : ∀ w', Ext w w' → k (agI (fOn f)) w') : frame_Frame_Passed (agI f) w k := by
  unfold frame_Frame_Passed frame_Frame_Passed_b
  refine newC_i fun g1 w1 hg1 hs1 hb1 he1 => newC_i fun g2 w2 hg2 hs2 hb2 he2 => ?_
  have hb1' : BI w2 g1 f := hb1.ext he2
  simp only [add_mk, Nat.zero_add]
  refine ldA_I hb1' hf (ldP_I hb1' (by omega) (to_s hf fun w3 he3 => ?_))
  refine stA_I (hb2.ext he3) rfl (by simp [fTo_len, hf]) fun w5 hb5 hs5 ho5 => ldA_I hb5 (by simp [fTo_len, hf]) ?_
  exact hk _ (((he1.trans he2).trans he3).then ho5 fun g hg => by have := he1.size; omega)
theorem list19 {l : List Int} (h : l.length = 19) : ∃ a b c d e f g h i j k m n o p q r s t, l = [a, b, c, d, e, f, g, h, i, j, k, m, n, o, p, q, r, s, t] := by
  match l, h with
  | [a, b, c, d, e, f, g, h, i, j, k, m, n, o, p, q, r, s, t], _ => exact ⟨a, b, c, d, e, f, g, h, i, j, k, m, n, o, p, q, r, s, t, rfl⟩
def fRoot : List Int := [0, 0, 0, 0, 0, 0, 0, 0, 0, 0, -1, -1, -1, -1, -1, -1, -1, -1, 0]
theorem rep_succ {i : Nat} (h : i < 8) : (List.replicate 10 (0 : Int) ++ (List.replicate i (-1) ++ List.replicate (9 - i) 0)).set (10 + i) (-1) = List.replicate 10 0 ++ (List.replicate (i + 1) (-1) ++ List.replicate (9 - (i + 1)) 0) := by
  match i, h with
  | 0, _ => rfl
  | 1, _ => rfl
  | 2, _ => rfl
  | 3, _ => rfl
  | 4, _ => rfl
  | 5, _ => rfl
  | 6, _ => rfl
  | 7, _ => rfl
theorem root_s {w : World} {k : Array Value → World → Prop} (hk : ∀ w', Ext w w' → k (agI fRoot) w') : frame_Root w k := by
  unfold frame_Root
  refine newC_i fun g1 w1 hg1 hs1 hb1 he1 => newC_i fun g2 w2 hg2 hs2 hb2 he2 => ?_
  simp only [add_mk, Nat.zero_add]
  have hb2z : BI w2 g2 (List.replicate 10 0 ++ (List.replicate 0 (-1) ++ List.replicate (9 - 0) 0)) := by
    have e : (List.replicate 10 (0 : Int) ++ (List.replicate 0 (-1) ++ List.replicate (9 - 0) 0)) = Z 19 := by decide
    rw [e]; exact hb2
  refine loopP_of (fun (x : Int) w' => ∃ i : Nat, x = i ∧ i ≤ 8 ∧ BI w' g2 (List.replicate 10 0 ++ (List.replicate i (-1) ++ List.replicate (9 - i) 0)) ∧ Only (fun k => k = g2) w2 w') (fun x _ => (8 - x).toNat) ⟨0, rfl, by omega, hb2z, .refl _ _⟩ ?_
  rintro _ w3 ⟨i, rfl, hi, hb3, ho3⟩ C hC
  refine iteB_i (fun hlt => ?_) (fun hge => ?_)
  · have hlt : i < 8 := by have : (i : Int) < 8 := by simpa using hlt
                           omega
    refine ixP_i (by omega) (by omega) ?_
    simp only [Int.toNat_natCast, Nat.mul_one]
    refine stC_I hb3 (by simp; omega) fun w4 hb4 hs4 ho4 => ?_
    have hw : IntKind.i64.wrap ((i : Int) + 1) = ((i + 1 : Nat) : Int) := by rw [wrap_id ⟨by omega, by omega⟩]; simp
    exact hC _ _ ⟨i + 1, hw, by omega, by rw [← rep_succ hlt]; exact hb4, ho3.trans ho4 (fun _ _ h => h) fun _ _ h => h⟩ (by rw [hw]; omega)
  · have hge : i = 8 := by have : ¬ (i : Int) < 8 := by simpa using hge
                           omega
    subst hge
    refine ldA_I (l := fRoot) hb3 rfl ?_
    refine stA_I (l := fRoot) ((hb1.ext he2).keep ho3 (by omega)) rfl rfl fun w5 hb5 hs5 ho5 => ldA_I hb5 rfl ?_
    exact hk _ (((he1.trans he2).then ho3 fun g hg => by have := he1.size; omega).then ho5 fun g hg => by omega)
def kindsT : List Int := [1, 0, 0, 5, 1, 1, 0, 0, 1, 1, 1, 0, 1, 1, 1, 0, 1, 1, 1, 0, 1, 1, 1, 0, 0, 0, 0, 2, 1, 0, 0, 2, 1, 0, 0, 3, 1, 1, 0, 0, 1, 1, 1, 0, 0, 0, 0, 4, 1, 0, 0, 0, 0, 0, 0, 0, 0, 0, 0, 0, 1, 0, 0, 0, 1, 0, 0, 0]
def spanV (k : Int) : Int × Int := if k = 1 then (0, 7) else if k = 2 then (0, 127) else if k = 3 then (0, 31) else if k = 4 then (0, 65535) else if k = 5 then (-2147483648, 2147483647) else (0, 0)
def spanOf (op j : Nat) : Int × Int := spanV (kindsT.getD (4 * op + j) 0)
def inSpan (i : List Int) (j : Nat) : Bool := decide ((spanOf (i.getD 0 0).toNat j).1 ≤ i.getD (j + 1) 0 ∧ i.getD (j + 1) 0 ≤ (spanOf (i.getD 0 0).toNat j).2)
def chk (i : List Int) : Int := if i.getD 0 0 < 0 ∨ i.getD 0 0 ≥ 17 then 13 else if inSpan i 0 && inSpan i 1 && inSpan i 2 && inSpan i 3 then 0 else 10
theorem span_s {x : Int} {w : World} {k : Int × Int → World → Prop} (hk : k (spanV x) w) : code_span x w k := by
  unfold code_span
  unfold spanV at hk
  refine iteB_i (fun h => ?_) (fun h => ?_)
  · rw [if_pos (by simpa using h)] at hk; exact hk
  rw [if_neg (by simpa using h)] at hk
  refine iteB_i (fun h => ?_) (fun h => ?_)
  · rw [if_pos (by simpa using h)] at hk; exact hk
  rw [if_neg (by simpa using h)] at hk
  refine iteB_i (fun h => ?_) (fun h => ?_)
  · rw [if_pos (by simpa using h)] at hk; exact hk
  rw [if_neg (by simpa using h)] at hk
  refine iteB_i (fun h => ?_) (fun h => ?_)
  · rw [if_pos (by simpa using h)] at hk; exact hk
  rw [if_neg (by simpa using h)] at hk
  refine iteB_i (fun h => ?_) (fun h => ?_)
  · rw [if_pos (by simpa using h)] at hk; exact hk
  rw [if_neg (by simpa using h)] at hk
  exact hk
theorem operands_s {op : Int} {w : World} {k : Array Value → World → Prop} (h0 : 0 ≤ op) (h1 : op < 17) (hk : ∀ w', Ext w w' → k (agI ((kindsT.drop (op.toNat * 4)).take 4)) w') : code_operands op w k := by
  unfold code_operands
  refine newC_i fun g1 w1 hg1 hs1 hb1 he1 => ?_
  refine spl_i (agI (kindsT.take 4 ++ Z 64)) rfl rfl ?_
  refine spl_i (agI (kindsT.take 8 ++ Z 60)) rfl rfl ?_
  refine spl_i (agI (kindsT.take 12 ++ Z 56)) rfl rfl ?_
  refine spl_i (agI (kindsT.take 16 ++ Z 52)) rfl rfl ?_
  refine spl_i (agI (kindsT.take 20 ++ Z 48)) rfl rfl ?_
  refine spl_i (agI (kindsT.take 24 ++ Z 44)) rfl rfl ?_
  refine spl_i (agI (kindsT.take 28 ++ Z 40)) rfl rfl ?_
  refine spl_i (agI (kindsT.take 32 ++ Z 36)) rfl rfl ?_
  refine spl_i (agI (kindsT.take 36 ++ Z 32)) rfl rfl ?_
  refine spl_i (agI (kindsT.take 40 ++ Z 28)) rfl rfl ?_
  refine spl_i (agI (kindsT.take 44 ++ Z 24)) rfl rfl ?_
  refine spl_i (agI (kindsT.take 48 ++ Z 20)) rfl rfl ?_
  refine spl_i (agI (kindsT.take 52 ++ Z 16)) rfl rfl ?_
  refine spl_i (agI (kindsT.take 56 ++ Z 12)) rfl rfl ?_
  refine spl_i (agI (kindsT.take 60 ++ Z 8)) rfl rfl ?_
  refine spl_i (agI (kindsT.take 64 ++ Z 4)) rfl rfl ?_
  refine spl_i (agI kindsT) rfl rfl ?_
  refine newC_i fun g2 w2 hg2 hs2 hb2 he2 => ?_
  refine stA_I hb2 rfl rfl fun w3 hb3 hs3 ho3 => ?_
  have hb1' := (hb1.ext he2).keep ho3 (by omega)
  refine ixP_i h0 (by omega) ?_
  rw [Nat.zero_add]
  have hl : kindsT.length = 68 := rfl
  refine ldA_P hb3 (by omega) ?_
  refine stA_I hb1' rfl (by simp [hl]; omega) fun w4 hb4 hs4 ho4 => ldA_I hb4 (by simp [hl]; omega) ?_
  exact hk _ (((he1.trans he2).then ho3 fun g hg => by have := he1.size; omega).then ho4 fun g hg => by omega)
end Go.Proofs.YtgkfbagclkjilaaGreatDoor.Fr
namespace Go.Proofs.YtgkfbagclkjilaaGreatDoor.Fr
open Go Go.Ev Go.Proofs
theorem four {j : Nat} (h : j < 4) : j = 0 ∨ j = 1 ∨ j = 2 ∨ j = 3 := by omega
theorem chk_bad {i : List Int} {j : Nat} (h0 : ¬ (i.getD 0 0 < 0 ∨ i.getD 0 0 ≥ 17)) (hj : j < 4) (hb : inSpan i j = false) : chk i = 10 := by
  unfold chk
  rw [if_neg h0]
  rcases four hj with rfl | rfl | rfl | rfl <;> simp [hb]
theorem chk_good {i : List Int} (h0 : ¬ (i.getD 0 0 < 0 ∨ i.getD 0 0 ≥ 17)) (hb : ∀ j, j < 4 → inSpan i j = true) : chk i = 0 := by
  unfold chk
  rw [if_neg h0]
  simp [hb 0 (by omega), hb 1 (by omega), hb 2 (by omega), hb 3 (by omega)]
theorem kinds_get {op j : Nat} (h : op < 17) (hj : j < 4) : ((kindsT.drop (op * 4)).take 4).getD j 0 = kindsT.getD (4 * op + j) 0 := by
  rw [List.getD_eq_getElem?_getD, List.getElem?_take_of_lt hj, List.getElem?_drop, List.getD_eq_getElem?_getD, Nat.mul_comm]
theorem getD4 {i : List Int} {j : Nat} (hj : j < 4) : [i.getD 1 0, i.getD 2 0, i.getD 3 0, i.getD 4 0].getD j 0 = i.getD (j + 1) 0 := by
  rcases four hj with rfl | rfl | rfl | rfl <;> rfl
theorem check_s {i : List Int} {w : World} {k : Int → World → Prop} (hi : i.length = 5) (hk : ∀ w', Ext w w' → k (chk i) w') : code_Check (agI i) w k := by
  unfold code_Check code_Check_b
  refine newC_i fun g1 w1 hg1 hs1 hb1 he1 => ?_
  have hb1' : BI w1 g1 i := hb1
  simp only [add_mk, Nat.zero_add]
  refine joinP_i (fun b w' => b = decide (i.getD 0 0 < 0 ∨ i.getD 0 0 ≥ 17) ∧ w1 = w') ?_ ?_
  · intro J hJ
    refine ldP_I hb1' (by omega) (iteB_i (fun h => hJ _ _ ⟨?_, rfl⟩) fun h => ?_)
    · simp only [decide_eq_true_eq] at h
      exact (decide_eq_true (.inl h)).symm
    · simp only [decide_eq_false_iff_not] at h
      refine ldP_I hb1' (by omega) (hJ _ _ ⟨?_, rfl⟩)
      rw [decide_eq_decide]; omega
  rintro _ _ ⟨rfl, rfl⟩
  refine iteB_i (fun h => ?_) fun h => ?_
  · have h := of_decide_eq_true h
    have e : chk i = 13 := by unfold chk; rw [if_pos h]
    rw [← e]; exact hk _ he1
  have h := of_decide_eq_false h
  refine ldP_I hb1' (by omega) (operands_s (by omega) (by omega) fun w2 he2 => ?_)
  refine newC_i fun g3 w3 hg3 hs3 hb3 he3 => ?_
  have hl : ((kindsT.drop ((i.getD 0 0).toNat * 4)).take 4).length = 4 := by
    have : kindsT.length = 68 := rfl
    rw [List.length_take, List.length_drop, this]; omega
  refine stA_I hb3 rfl hl fun w4 hb4 hs4 ho4 => ?_
  have he14 : Ext w1 w4 := (he2.trans he3).then ho4 fun g hg => by have := he2.size; omega
  have hb14 : BI w4 g1 i := hb1'.ext he14
  refine ldP_I hb14 (by omega) (ldP_I hb14 (by omega) (ldP_I hb14 (by omega) (ldP_I hb14 (by omega) ?_)))
  refine loopP_of (fun (x : Int × Int) w' => w4 = w' ∧ x.1 = 0 ∧ ∃ j : Nat, x.2 = j ∧ j ≤ 4 ∧ ∀ m, m < j → inSpan i m = true) (fun x _ => (4 - x.2).toNat) ⟨rfl, rfl, 0, rfl, by omega, fun m hm => by omega⟩ ?_
  rintro ⟨out, _⟩ _ ⟨rfl, ho, j, hj, hj4, hall⟩ C hC
  simp only at ho hj; subst ho; subst hj
  refine iteB_i (fun hlt => ?_) fun hge => ?_
  · have hlt : j < 4 := by have : (j : Int) < 4 := by simpa using hlt
                           omega
    refine ixA_I (l := [i.getD 1 0, i.getD 2 0, i.getD 3 0, i.getD 4 0]) (by simp) (by simp; omega) rfl ?_
    rw [Int.toNat_natCast, getD4 hlt]
    refine toI_i (ixP_i (by omega) (by omega) ?_)
    rw [Int.toNat_natCast, Nat.mul_one, Nat.zero_add]
    refine ldP_I hb4 (by omega) ?_
    rw [kinds_get (by omega) hlt]
    refine span_s ?_
    have e : ((decide (i.getD (j + 1) 0 < (spanV (kindsT.getD (4 * (i.getD 0 0).toNat + j) 0)).1)) || (decide (i.getD (j + 1) 0 > (spanV (kindsT.getD (4 * (i.getD 0 0).toNat + j) 0)).2))) = !inSpan i j := by
      unfold inSpan spanOf
      rw [Bool.eq_iff_iff]
      simp only [Bool.or_eq_true, decide_eq_true_eq, Bool.not_eq_true', decide_eq_false_iff_not]
      omega
    rw [e]
    refine iteB_i (fun hb => ?_) fun hb => ?_
    · rw [← chk_bad h hlt (by simpa using hb)]
      exact hk _ (he1.trans he14)
    · have hw : IntKind.i64.wrap ((j : Int) + 1) = ((j + 1 : Nat) : Int) := by rw [wrap_id ⟨by omega, by omega⟩]; simp
      refine hC _ _ ⟨rfl, rfl, j + 1, hw, by omega, fun m hm => ?_⟩ (by simp only [hw]; omega)
      by_cases hmj : m = j
      · subst hmj; simpa using hb
      · exact hall m (by omega)
  · have hge : j = 4 := by have : ¬ (j : Int) < 4 := by simpa using hge
                           omega
    subst hge
    simp only
    rw [← chk_good h hall]
    exact hk _ (he1.trans he14)
theorem op17 {op : Int} (h0 : 0 ≤ op) (h1 : op < 17) : op = 0 ∨ op = 1 ∨ op = 2 ∨ op = 3 ∨ op = 4 ∨ op = 5 ∨ op = 6 ∨ op = 7 ∨ op = 8 ∨ op = 9 ∨ op = 10 ∨ op = 11 ∨ op = 12 ∨ op = 13 ∨ op = 14 ∨ op = 15 ∨ op = 16 := by omega
def isB (i : List Int) (op : Int) : Bool := i.getD 0 0 == op && chk i == 0
theorem may_s {i : List Int} {op : Int} {w : World} {k : Bool → World → Prop} (hi : i.length = 5) (hk : ∀ w', Ext w w' → k (isB i op) w') : frame_may (agI i) op w k := by
  unfold frame_may frame_may_b
  refine newC_i fun g1 w1 hg1 hs1 hb1 he1 => ?_
  have hb1' : BI w1 g1 i := hb1
  simp only [add_mk, Nat.zero_add]
  unfold isB at hk
  refine ldP_I hb1' (by omega) (iteB_i (fun h => ?_) fun h => ?_)
  · refine ldA_I hb1' hi (check_s hi fun w2 he2 => ?_)
    have := hk _ (he1.trans he2)
    rwa [h, Bool.true_and] at this
  · have := hk _ he1
    rwa [h, Bool.false_and] at this
theorem one_s {b : Bool} {w : World} {k : Int → World → Prop} (hk : k (if b then 1 else 0) w) : frame_one b w k := by
  unfold frame_one
  cases b <;> exact hk
theorem chk_ok {i : List Int} (h : chk i = 0) : 0 ≤ i.getD 0 0 ∧ i.getD 0 0 < 17 ∧ ∀ j, j < 4 → (spanOf (i.getD 0 0).toNat j).1 ≤ i.getD (j + 1) 0 ∧ i.getD (j + 1) 0 ≤ (spanOf (i.getD 0 0).toNat j).2 := by
  unfold chk at h
  split at h
  · cases h
  · rename_i h0
    split at h
    · rename_i h1
      simp only [Bool.and_eq_true] at h1
      refine ⟨by omega, by omega, fun j hj => ?_⟩
      rcases four hj with rfl | rfl | rfl | rfl
      · exact of_decide_eq_true h1.1.1.1
      · exact of_decide_eq_true h1.1.1.2
      · exact of_decide_eq_true h1.1.2
      · exact of_decide_eq_true h1.2
    · cases h
theorem spans_le : ∀ op, op < 17 → ∀ j, j < 3 → 0 ≤ (spanOf op j).1 ∧ (spanOf op j).2 ≤ 7 := by decide
theorem chk_regs {i : List Int} (h : chk i = 0) : (0 ≤ i.getD 1 0 ∧ i.getD 1 0 < 8) ∧ (0 ≤ i.getD 2 0 ∧ i.getD 2 0 < 8) ∧ 0 ≤ i.getD 3 0 ∧ i.getD 3 0 < 8 := by
  obtain ⟨h0, h1, hs⟩ := chk_ok h
  have a := hs 0 (by omega); have b := hs 1 (by omega); have c := hs 2 (by omega)
  have a' := spans_le (i.getD 0 0).toNat (by omega) 0 (by omega)
  have b' := spans_le (i.getD 0 0).toNat (by omega) 1 (by omega)
  have c' := spans_le (i.getD 0 0).toNat (by omega) 2 (by omega)
  simp only [Nat.zero_add, Nat.reduceAdd] at a b c
  omega
end Go.Proofs.YtgkfbagclkjilaaGreatDoor.Fr
namespace Go.Proofs.YtgkfbagclkjilaaGreatDoor.Fr
open Go Go.Ev Go.Proofs
abbrev fR (f : List Int) (r : Int) : Int := f.getD (2 + r.toNat) 0
def sumV (f i : List Int) : Int :=
  if i.getD 0 0 = 0 then i.getD 4 0 else if i.getD 0 0 = 1 then fR f (i.getD 2 0) else if i.getD 0 0 = 2 then IntKind.i64.wrap (fR f (i.getD 2 0) + fR f (i.getD 3 0))
  else if i.getD 0 0 = 3 then IntKind.i64.wrap (fR f (i.getD 2 0) - fR f (i.getD 3 0)) else if i.getD 0 0 = 4 then IntKind.i64.wrap (fR f (i.getD 2 0) * fR f (i.getD 3 0))
  else if fR f (i.getD 2 0) < fR f (i.getD 3 0) then 1 else 0
def fPlain (f i : List Int) : List Int × Bool :=
  if chk i ≠ 0 then (f, false)
  else if i.getD 0 0 = 6 ∨ (i.getD 0 0 = 7 ∧ fR f (i.getD 1 0) ≠ 0) then (fTo f (i.getD 4 0), true)
  else if i.getD 0 0 = 7 then (fOn f, true)
  else if i.getD 0 0 > 5 then (f, false)
  else (fOn (f.set (2 + (i.getD 1 0).toNat) (sumV f i)), true)
theorem fPlain_len {f i : List Int} (hf : f.length = 19) : (fPlain f i).1.length = 19 := by
  unfold fPlain
  split
  · exact hf
  · split
    · simp only [fTo_len, hf]
    · split
      · simp only [fOn_len, hf]
      · split
        · exact hf
        · simp only [fOn_len, List.length_set, hf]
def sumFs (g3 gb gc : Nat) : Array Value := #[.func (.func n_frame_Frame_sums_1) #[] #[.pointer (some ⟨g3, 0, none⟩)], .func (.func n_frame_Frame_sums_2) #[] #[.pointer (some ⟨gb, 0, none⟩)], .func (.func n_frame_Frame_sums_3) #[] #[.pointer (some ⟨gb, 0, none⟩), .pointer (some ⟨gc, 0, none⟩)],
  .func (.func n_frame_Frame_sums_4) #[] #[.pointer (some ⟨gb, 0, none⟩), .pointer (some ⟨gc, 0, none⟩)], .func (.func n_frame_Frame_sums_5) #[] #[.pointer (some ⟨gb, 0, none⟩), .pointer (some ⟨gc, 0, none⟩)], .func (.func n_frame_Frame_sums_6) #[] #[.pointer (some ⟨gb, 0, none⟩), .pointer (some ⟨gc, 0, none⟩)]]
theorem sums_s {f i : List Int} {w : World} {k : Sl → World → Prop} (hf : f.length = 19) (hi : i.length = 5) (hB : 0 ≤ i.getD 2 0 ∧ i.getD 2 0 < 8) (hC : 0 ≤ i.getD 3 0 ∧ i.getD 3 0 < 8)
    (hk : ∀ w' g g3 gb gc, Ext w w' → Blk w' g (sumFs g3 gb gc) → BI w' g3 i → BI w' gb [fR f (i.getD 2 0)] → BI w' gc [fR f (i.getD 3 0)] → k ⟨some ⟨g, 0, none⟩, 6, 6⟩ w') : frame_Frame_sums (agI f) (agI i) w k := by
  unfold frame_Frame_sums
  refine newC_i fun g1 w1 hg1 hs1 hb1 he1 => newC_i fun g2 w2 hg2 hs2 hb2 he2 => ?_
  have hb1' : BI w2 g1 f := hb1.ext he2
  have hb2' : BI w2 g2 i := hb2
  simp only [add_mk, Nat.zero_add]
  refine joinP_i (fun x w' => Ext w2 w' ∧ ∃ gb gc, x = (⟨gb, 0, none⟩, ⟨gc, 0, none⟩) ∧ BI w' gb [fR f (i.getD 2 0)] ∧ BI w' gc [fR f (i.getD 3 0)]) ?_ ?_
  · intro J hJ
    refine drew_i fun w3 hh3 he3 => ?_
    have hb13 : BI w3 g1 f := hb1'.ext he3
    have hb23 : BI w3 g2 i := hb2'.ext he3
    refine ldP_I hb23 (by omega) (ixP_i hB.1 (by omega) (ldP_I hb13 (by omega) ?_))
    refine ldP_I hb23 (by omega) (ixP_i hC.1 (by omega) (ldP_I hb13 (by omega) ?_))
    simp only [Nat.mul_one]
    have st : ∀ {w' : World} {n o : Nat} {c : Prop}, Ext w3 w' → c → samec n ⟨g1, o, none⟩ w3 w' c := fun he hc => samec_B hb13 (hb13.ext he) hc
    have st2 : ∀ {w' : World} {n o : Nat} {c : Prop}, Ext w3 w' → c → samec n ⟨g2, o, none⟩ w3 w' c := fun he hc => samec_B hb23 (hb23.ext he) hc
    refine ⟨?_, ?_⟩
    · refine newC_i fun g4 w4 hg4 hs4 hb4 he4 => st he4 (st2 he4 (st he4 (st2 he4 ?_)))
      refine newC_i fun g5 w5 hg5 hs5 hb5 he5 => ?_
      have he35 := he4.trans he5
      refine st he35 (st2 he35 (st he35 (st2 he35 ?_)))
      refine stC_I (l := [0]) (hb4.ext he5) (by simp) fun w6 hb6 hs6 ho6 => ?_
      have he36 := he35.then ho6 fun g hg => by omega
      refine st he36 (st2 he36 ?_)
      refine stC_I (l := [0]) (hb5.keep ho6 (by omega)) (by simp) fun w7 hb7 hs7 ho7 => ?_
      exact hJ _ _ ⟨he3.trans (he36.then ho7 fun g hg => by omega), g4, g5, rfl, hb6.keep ho7 (by omega), hb7⟩
    · refine newC_i fun g4 w4 hg4 hs4 hb4 he4 => st he4 (st2 he4 (st he4 (st2 he4 ?_)))
      refine newC_i fun g5 w5 hg5 hs5 hb5 he5 => ?_
      have he35 := he4.trans he5
      refine st he35 (st2 he35 (st he35 (st2 he35 ?_)))
      refine stC_I (l := [0]) hb5 (by simp) fun w6 hb6 hs6 ho6 => ?_
      have he36 := he35.then ho6 fun g hg => by omega
      refine st he36 (st2 he36 ?_)
      refine stC_I (l := [0]) ((hb4.ext he5).keep ho6 (by omega)) (by simp) fun w7 hb7 hs7 ho7 => ?_
      exact hJ _ _ ⟨he3.trans (he36.then ho7 fun g hg => by omega), g5, g4, rfl, hb6.keep ho7 (by omega), hb7⟩
  · rintro x w3 ⟨he3, gb, gc, rfl, hbb, hbc⟩
    refine newC_i fun g4 w4 hg4 hs4 hb4 he4 => ?_
    exact hk w4 g4 g2 gb gc (((he1.trans he2).trans he3).trans he4) hb4 ((hb2'.ext he3).ext he4) (hbb.ext he4) (hbc.ext he4)
theorem plain_F {f i : List Int} {w : World} {k : Array Value × Bool → World → Prop} (hf : f.length = 19) (hi : i.length = 5) (hk : ∀ w', Ext w w' → k (agI (fPlain f i).1, (fPlain f i).2) w') : frame_Frame_Plain (agI f) (agI i) w k := by
  unfold frame_Frame_Plain frame_Frame_Plain_b
  refine newC_i fun g1 w1 hg1 hs1 hb1 he1 => newC_i fun g2 w2 hg2 hs2 hb2 he2 => newC_i fun g3 w3 hg3 hs3 hb3 he3 => ?_
  have he13 := (he1.trans he2).trans he3
  have hb1' : BI w3 g1 f := (hb1.ext he2).ext he3
  have hb2' : BI w3 g2 i := hb2.ext he3
  have hsz := he1.size
  simp only [add_mk, Nat.zero_add]
  -- the result's block
  have fin : ∀ (l : List Int) (b : Bool) (w' : World), Ext w3 w' → l.length = 19 → (fPlain f i) = (l, b) → (stA 19 w' ⟨g3, 0, none⟩ (agI l) fun w9 => ldA 19 w9 ⟨g3, 0, none⟩ fun cs => k (cs, b) w9) := by
    intro l b w' he hl e
    refine stA_I (hb3.ext he) rfl hl fun w9 hb9 hs9 ho9 => ldA_I hb9 hl ?_
    have := hk w9 ((he13.trans he).then ho9 fun g hg => by omega)
    rwa [e] at this
  refine ldA_I hb2' hi (check_s hi fun w4 he4 => ?_)
  have hb14 : BI w4 g1 f := hb1'.ext he4
  have hb24 : BI w4 g2 i := hb2'.ext he4
  refine iteB_i (fun h => ldA_I hb14 hf (fin f false w4 he4 hf ?_)) fun h => ?_
  · unfold fPlain; rw [if_pos (by simpa using h)]
  have h : chk i = 0 := by simpa using h
  obtain ⟨hA, hB, hC⟩ := chk_regs h
  obtain ⟨h0, h17, _⟩ := chk_ok h
  refine ldP_I hb24 (by omega) ?_
  refine joinP_i (fun b w' => b = decide (i.getD 0 0 = 6 ∨ (i.getD 0 0 = 7 ∧ fR f (i.getD 1 0) ≠ 0)) ∧ w4 = w') ?_ ?_
  · intro J hJ
    refine iteB_i (fun h6 => ?_) fun h6 => ?_
    · refine hJ _ _ ⟨?_, rfl⟩
      rw [h6]
      exact (decide_eq_true (.inl (by simpa using h6))).symm
    · have h6 : i.getD 0 0 ≠ 6 := by simpa using h6
      refine ldP_I hb24 (by omega) (iteB_i (fun h7 => ?_) fun h7 => ?_)
      · have h7 : i.getD 0 0 = 7 := by simpa using h7
        refine ldP_I hb24 (by omega) (ixP_i hA.1 (by omega) (ldP_I hb14 (by omega) (hJ _ _ ⟨?_, rfl⟩)))
        rw [Nat.mul_one, Bool.eq_iff_iff]
        simp only [bne_iff_ne, decide_eq_true_eq]
        constructor
        · intro hne; exact .inr ⟨h7, hne⟩
        · rintro (h | ⟨_, h⟩)
          · omega
          · exact h
      · have h7 : i.getD 0 0 ≠ 7 := by simpa using h7
        exact hJ _ _ ⟨(decide_eq_false (by omega)).symm, rfl⟩
  rintro _ _ ⟨rfl, rfl⟩
  refine iteB_i (fun h1 => ?_) fun h1 => ?_
  · have h1 := of_decide_eq_true h1
    refine ldA_I hb14 hf (ldP_I hb24 (by omega) (to_s hf fun w5 he5 => fin _ true w5 (he4.trans he5) (by rw [fTo_len, hf]) ?_))
    unfold fPlain; rw [if_neg (by simp [h]), if_pos h1]
  have h1 := of_decide_eq_false h1
  refine ldP_I hb24 (by omega) (iteB_i (fun h7 => ?_) fun h7 => ?_)
  · have h7 : i.getD 0 0 = 7 := by simpa using h7
    refine ldA_I hb14 hf (on_s hf fun w5 he5 => fin _ true w5 (he4.trans he5) (by rw [fOn_len, hf]) ?_)
    unfold fPlain; rw [if_neg (by simp [h]), if_neg h1, if_pos h7]
  have h7 : i.getD 0 0 ≠ 7 := by simpa using h7
  refine ldP_I hb24 (by omega) (iteB_i (fun h5 => ?_) fun h5 => ?_)
  · have h5 : i.getD 0 0 > 5 := by simpa using h5
    refine ldA_I hb14 hf (fin f false w4 he4 hf ?_)
    unfold fPlain; rw [if_neg (by simp [h]), if_neg h1, if_neg h7, if_pos h5]
  have h5 : ¬ i.getD 0 0 > 5 := by simpa using h5
  refine drew_i fun w5 hh5 he5 => ?_
  have hb15 : BI w5 g1 f := hb14.ext he5
  have hb25 : BI w5 g2 i := hb24.ext he5
  refine ldP_I hb25 (by omega) (ldA_I hb15 hf (ldA_I hb25 hi (ldP_I hb25 (by omega) ?_)))
  refine sums_s hf hi hB hC fun w6 g ga gb gc he6 hbg hba hbb hbc => ?_
  have hb16 : BI w6 g1 f := hb15.ext he6
  have hb26 : BI w6 g2 i := hb25.ext he6
  refine samec_B hb25 hb26 (samec_B hb25 hb26 ?_)
  -- the call's result is stored
  have tail : ∀ (v : Value), v = .int .i64 (sumV f i) → (toI .i64 v fun i48 => samec 1 ⟨g2, 1, none⟩ w5 w6 (ixP ⟨g1, 2, none⟩ 8 (i.getD 1 0) 1 fun a49 => stC w6 a49 (.int .i64 i48) fun w50 => ldA 19 w50 ⟨g1, 0, none⟩ fun cs51 =>
      frame_Frame_Passed cs51 w50 fun cs52 w53 => stA 19 w53 ⟨g3, 0, none⟩ cs52 fun w54 => ldA 19 w54 ⟨g3, 0, none⟩ fun cs55 => k (cs55, true) w54)) := by
    rintro _ rfl
    refine toI_i (samec_B hb25 hb26 (ixP_i hA.1 (by omega) ?_))
    rw [Nat.mul_one]
    refine stC_I hb16 (by omega) fun w7 hb7 hs7 ho7 => ?_
    have he7 : Ext w3 w7 ∨ True := .inr trivial
    refine ldA_I hb7 (by simp [hf]) (on_s (by simp [hf]) fun w8 he8 => ?_)
    have hb38 := (((((hb3.ext he4).ext he5).ext he6).keep ho7 (by omega)).ext he8)
    refine stA_I hb38 rfl (by rw [fOn_len]; simp [hf]) fun w9 hb9 hs9 ho9 => ldA_I hb9 (by rw [fOn_len]; simp [hf]) ?_
    have e : fPlain f i = (fOn (f.set (2 + (i.getD 1 0).toNat) (sumV f i)), true) := by
      unfold fPlain; rw [if_neg (by simp [h]), if_neg h1, if_neg h7, if_neg h5]
    have := hk w9 ((((((he13.trans he4).trans he5).trans he6).then ho7 fun g hg => by omega).trans he8).then ho9 fun g hg => by omega)
    rwa [e] at this
  have h6 : i.getD 0 0 ≠ 6 := fun e => h1 (.inl e)
  have hop : i.getD 0 0 = 0 ∨ i.getD 0 0 = 1 ∨ i.getD 0 0 = 2 ∨ i.getD 0 0 = 3 ∨ i.getD 0 0 = 4 ∨ i.getD 0 0 = 5 := by omega
  refine ixS_b h0 (by omega) ?_
  rw [Nat.mul_one, Nat.zero_add]
  have hcell : ∀ n : Nat, w6.cell? ⟨g, n, none⟩ = (sumFs ga gb gc)[n]? := fun n => hbg.cell n
  rcases hop with e | e | e | e | e | e
  all_goals
    rw [e]
    refine ldV_i (by rw [hcell]; rfl) ?_
  · show ldI .i64 w6 (Addr.add ⟨ga, 0, none⟩ 4) _
    rw [add_mk]
    refine ldP_I hba (by omega) (tail _ ?_)
    simp only [sumV, e]; rfl
  · show ldI .i64 w6 ⟨gb, 0, none⟩ _
    refine ldP_I hbb (by simp) (tail _ ?_)
    simp only [sumV, e]; rfl
  · show ldI .i64 w6 ⟨gb, 0, none⟩ fun i1 => ldI .i64 w6 ⟨gc, 0, none⟩ fun i2 => _
    refine ldP_I hbb (by simp) (ldP_I hbc (by simp) (tail _ ?_))
    simp only [sumV, e]; rfl
  · show ldI .i64 w6 ⟨gb, 0, none⟩ fun i1 => ldI .i64 w6 ⟨gc, 0, none⟩ fun i2 => _
    refine ldP_I hbb (by simp) (ldP_I hbc (by simp) (tail _ ?_))
    simp only [sumV, e]; rfl
  · show ldI .i64 w6 ⟨gb, 0, none⟩ fun i1 => ldI .i64 w6 ⟨gc, 0, none⟩ fun i2 => _
    refine ldP_I hbb (by simp) (ldP_I hbc (by simp) (tail _ ?_))
    simp only [sumV, e]; rfl
  · show ldI .i64 w6 ⟨gb, 0, none⟩ fun i1 => ldI .i64 w6 ⟨gc, 0, none⟩ fun i2 => frame_one (decide (i1 < i2)) w6 fun i3 w4 => _
    refine ldP_I hbb (by simp) (ldP_I hbc (by simp) (one_s (tail _ ?_)))
    have e1 : List.getD [fR f (i.getD 2 0)] 0 0 = fR f (i.getD 2 0) := rfl
    have e2 : List.getD [fR f (i.getD 3 0)] 0 0 = fR f (i.getD 3 0) := rfl
    rw [e1, e2]
    simp only [sumV, e]
    by_cases hlt : fR f (i.getD 2 0) < fR f (i.getD 3 0)
    · rw [decide_eq_true hlt, if_pos hlt]; rfl
    · rw [decide_eq_false hlt, if_neg hlt]; rfl
end Go.Proofs.YtgkfbagclkjilaaGreatDoor.Fr
namespace Go.Proofs.YtgkfbagclkjilaaGreatDoor.Fr
open Go Go.Ev Go.Proofs
theorem regs_len {f : List Int} (hf : f.length = 19) : ((f.drop 2).take 8).length = 8 := by
  rw [List.length_take, List.length_drop, hf]; rfl
end Go.Proofs.YtgkfbagclkjilaaGreatDoor.Fr
namespace Go.Proofs.YtgkfbagclkjilaaGreatDoor.Fr
open Go Go.Ev Go.Proofs
theorem isB_true {i : List Int} {op : Int} (h : isB i op = true) : i.getD 0 0 = op ∧ chk i = 0 := by
  unfold isB at h
  simp only [Bool.and_eq_true, beq_iff_eq] at h
  exact h
def fClosed (f i : List Int) (asked : Bool) : List Int := if isB i 12 then fOn (f.set (2 + (i.getD 1 0).toNat) (if asked then 1 else 0)) else f
def fForked (f i : List Int) (id : Int) : List Int := if isB i 8 then fOn (f.set (10 + (i.getD 1 0).toNat) id) else f
def fJoined (f i : List Int) (kind v : Int) : List Int × Int × Bool :=
  if kind < 2 ∨ kind > 4 ∨ (isB i 9 = false ∧ isB i 10 = false) then (f, 0, false)
  else if isB i 10 then (fOn ((f.set (2 + (i.getD 1 0).toNat) (if kind = 4 then 0 else v)).set (2 + (i.getD 2 0).toNat) (IntKind.i64.wrap (kind - 2))), 0, false)
  else if kind = 2 then (fOn (f.set (2 + (i.getD 1 0).toNat) v), 0, false)
  else (fTo f (f.getD 1 0), if kind = 4 then -1 else v, true)
theorem fClosed_len {f i : List Int} {b : Bool} : (fClosed f i b).length = f.length := by
  unfold fClosed; split
  · rw [fOn_len, List.length_set]
  · rfl
theorem fForked_len {f i : List Int} {b : Int} : (fForked f i b).length = f.length := by
  unfold fForked; split
  · rw [fOn_len, List.length_set]
  · rfl
theorem fJoined_len {f i : List Int} {kind v : Int} : (fJoined f i kind v).1.length = f.length := by
  unfold fJoined
  split
  · rfl
  · split
    · simp only [fOn_len, List.length_set]
    · split
      · simp only [fOn_len, List.length_set]
      · simp only [fTo_len]
theorem closed_s {f i : List Int} {b : Bool} {w : World} {k : Array Value → World → Prop} (hf : f.length = 19) (hi : i.length = 5) (hk : ∀ w', Ext w w' → k (agI (fClosed f i b)) w') : frame_Frame_Closed (agI f) (agI i) b w k := by
  unfold frame_Frame_Closed frame_Frame_Closed_b
  refine newC_i fun g1 w1 hg1 hs1 hb1 he1 => newC_i fun g2 w2 hg2 hs2 hb2 he2 => newC_i fun g3 w3 hg3 hs3 hb3 he3 => ?_
  have he13 := (he1.trans he2).trans he3
  have hb1' : BI w3 g1 f := (hb1.ext he2).ext he3
  have hb2' : BI w3 g2 i := hb2.ext he3
  have hsz := he1.size
  simp only [add_mk, Nat.zero_add]
  refine ldA_I hb1' hf (newC_i fun g4 w4 hg4 hs4 hb4 he4 => stA_I hb4 rfl hf fun w5 hb5 hs5 ho5 => ?_)
  have he35 : Ext w3 w5 := he4.then ho5 fun g hg => by omega
  simp only [add_mk, Nat.zero_add]
  refine ldA_I (hb2'.ext he35) hi (may_s hi fun w6 he6 => ?_)
  have he36 := he35.trans he6
  refine iteB_i (fun h => ?_) fun h => ?_
  · obtain ⟨hA, hB, hC⟩ := chk_regs (isB_true h).2
    refine drew_i fun w7 hh7 he7 => ?_
    have he37 := he36.trans he7
    have hb27 : BI w7 g2 i := hb2'.ext he37
    refine ldP_I hb27 (by omega) (one_s (samec_B hb27 hb27 (ixP_i hA.1 (by omega) ?_)))
    rw [Nat.mul_one]
    refine stC_I ((hb5.ext he6).ext he7) (by omega) fun w8 hb8 hs8 ho8 => ldA_I hb8 (by simp [hf]) (on_s (by simp [hf]) fun w9 he9 => ?_)
    refine stA_I (((hb3.ext he37).keep ho8 (by omega)).ext he9) rfl (by rw [fOn_len]; simp [hf]) fun w10 hb10 hs10 ho10 => ldA_I hb10 (by rw [fOn_len]; simp [hf]) ?_
    have := hk w10 ((((he13.trans he37).then ho8 fun g hg => by omega).trans he9).then ho10 fun g hg => by omega)
    unfold fClosed at this
    rwa [if_pos h] at this
  · refine ldA_I (hb1'.ext he36) hf (stA_I (hb3.ext he36) rfl hf fun w10 hb10 hs10 ho10 => ldA_I hb10 hf ?_)
    have := hk w10 ((he13.trans he36).then ho10 fun g hg => by omega)
    unfold fClosed at this
    rwa [if_neg (by simp [h])] at this
theorem forked_s {f i : List Int} {id : Int} {w : World} {k : Array Value → World → Prop} (hf : f.length = 19) (hi : i.length = 5) (hk : ∀ w', Ext w w' → k (agI (fForked f i id)) w') : frame_Frame_Forked (agI f) (agI i) id w k := by
  unfold frame_Frame_Forked frame_Frame_Forked_b
  refine newC_i fun g1 w1 hg1 hs1 hb1 he1 => newC_i fun g2 w2 hg2 hs2 hb2 he2 => newC_i fun g3 w3 hg3 hs3 hb3 he3 => ?_
  have he13 := (he1.trans he2).trans he3
  have hb1' : BI w3 g1 f := (hb1.ext he2).ext he3
  have hb2' : BI w3 g2 i := hb2.ext he3
  have hsz := he1.size
  simp only [add_mk, Nat.zero_add]
  refine ldA_I hb2' hi (may_s hi fun w4 he4 => ?_)
  have hb14 : BI w4 g1 f := hb1'.ext he4
  have hb24 : BI w4 g2 i := hb2'.ext he4
  refine iteB_i (fun h => ?_) fun h => ?_
  · refine ldA_I hb14 hf (stA_I (hb3.ext he4) rfl hf fun w10 hb10 hs10 ho10 => ldA_I hb10 hf ?_)
    have := hk w10 ((he13.trans he4).then ho10 fun g hg => by omega)
    unfold fForked at this
    rwa [if_neg (by simpa using h)] at this
  · have h : isB i 8 = true := by simpa using h
    obtain ⟨hA, hB, hC⟩ := chk_regs (isB_true h).2
    refine ldP_I hb24 (by omega) (ixP_i hA.1 (by omega) ?_)
    rw [Nat.mul_one]
    refine stC_I hb14 (by omega) fun w8 hb8 hs8 ho8 => ldA_I hb8 (by simp [hf]) (on_s (by simp [hf]) fun w9 he9 => ?_)
    refine stA_I (((hb3.ext he4).keep ho8 (by omega)).ext he9) rfl (by rw [fOn_len]; simp [hf]) fun w10 hb10 hs10 ho10 => ldA_I hb10 (by rw [fOn_len]; simp [hf]) ?_
    have := hk w10 ((((he13.trans he4).then ho8 fun g hg => by omega).trans he9).then ho10 fun g hg => by omega)
    unfold fForked at this
    rwa [if_pos h] at this
theorem joined_s {f i : List Int} {kind v : Int} {w : World} {k : Array Value × Int × Bool → World → Prop} (hf : f.length = 19) (hi : i.length = 5) (hk : ∀ w', Ext w w' → k (agI (fJoined f i kind v).1, (fJoined f i kind v).2.1, (fJoined f i kind v).2.2) w') : frame_Frame_Joined (agI f) (agI i) kind v w k := by
  unfold frame_Frame_Joined frame_Frame_Joined_b
  refine newC_i fun g1 w1 hg1 hs1 hb1 he1 => newC_i fun g2 w2 hg2 hs2 hb2 he2 => newC_i fun g3 w3 hg3 hs3 hb3 he3 => ?_
  have he13 := (he1.trans he2).trans he3
  have hb1' : BI w3 g1 f := (hb1.ext he2).ext he3
  have hb2' : BI w3 g2 i := hb2.ext he3
  have hsz := he1.size
  simp only [add_mk, Nat.zero_add]
  have fin : ∀ (l : List Int) (a : Int) (b : Bool) (w' : World), Ext w w' → Blk w' g3 (agI (Z 19)) → l.length = 19 → fJoined f i kind v = (l, a, b) → (stA 19 w' ⟨g3, 0, none⟩ (agI l) fun w9 => ldA 19 w9 ⟨g3, 0, none⟩ fun cs => k (cs, (a, b)) w9) := by
    intro l a b w' he hb hl e
    refine stA_I hb rfl hl fun w9 hb9 hs9 ho9 => ldA_I hb9 hl ?_
    have := hk w9 (he.then ho9 fun g hg => by omega)
    rwa [e] at this
  have hb3' : Blk w3 g3 (agI (Z 19)) := hb3
  refine joinP_i (fun x w' => x = decide (kind < 2 ∨ kind > 4 ∨ (isB i 9 = false ∧ isB i 10 = false)) ∧ Ext w3 w') ?_ ?_
  · intro J hJ
    refine iteB_i (fun h => hJ _ _ ⟨?_, .refl _ _⟩) fun h => ?_
    · simp only [Bool.or_eq_true, decide_eq_true_eq] at h
      exact (decide_eq_true (by omega)).symm
    · simp only [Bool.or_eq_false_iff, decide_eq_false_iff_not] at h
      refine ldA_I hb2' hi (may_s hi fun w4 he4 => ?_)
      refine iteB_i (fun h9 => ?_) fun h9 => ?_
      · have h9 : isB i 9 = false := by simpa using h9
        refine ldA_I (hb2'.ext he4) hi (may_s hi fun w5 he5 => hJ _ _ ⟨?_, he4.trans he5⟩)
        rw [Bool.eq_iff_iff]
        simp only [Bool.not_eq_true', decide_eq_true_eq]
        constructor
        · intro h10; exact .inr (.inr ⟨h9, h10⟩)
        · rintro (h' | h' | ⟨_, h'⟩)
          · omega
          · omega
          · exact h'
      · have h9 : isB i 9 = true := by simpa using h9
        refine hJ _ _ ⟨?_, he4⟩
        rw [eq_comm, decide_eq_false_iff_not]
        rintro (h' | h' | ⟨h', _⟩)
        · omega
        · omega
        · rw [h9] at h'; cases h'
  rintro _ w4 ⟨rfl, he4⟩
  have he14 := he13.trans he4
  have hb14 : BI w4 g1 f := hb1'.ext he4
  have hb24 : BI w4 g2 i := hb2'.ext he4
  refine iteB_i (fun h => ?_) fun h => ?_
  · have h := of_decide_eq_true h
    refine ldA_I hb14 hf (fin f 0 false w4 he14 (hb3'.ext he4) hf ?_)
    unfold fJoined; rw [if_pos h]
  have h := of_decide_eq_false h
  have hchk : chk i = 0 ∧ (i.getD 0 0 = 10 ↔ isB i 10 = true) := by
    cases h10 : isB i 10 with
    | true => exact ⟨(isB_true h10).2, fun _ => rfl, fun _ => (isB_true h10).1⟩
    | false =>
      cases h9 : isB i 9 with
      | true => exact ⟨(isB_true h9).2, fun e => (by have := (isB_true h9).1; omega), fun e => by cases e⟩
      | false => exact absurd (.inr (.inr ⟨h9, h10⟩)) h
  obtain ⟨hA, hB, hC⟩ := chk_regs hchk.1
  refine joinP_i (fun x w' => w4 = w' ∧ fJoined f i kind v = (fTo f (f.getD 1 0), x, true)) ?_ ?_
  · intro J hJ
    refine ldP_I hb24 (by omega) (iteB_i (fun h10 => ?_) fun h10 => ?_)
    · have h10 : isB i 10 = true := hchk.2.1 (by simpa using h10)
      refine joinP_i (fun x w' => w4 = w' ∧ x = if kind = 4 then 0 else v) ?_ ?_
      · intro J2 hJ2
        refine iteB_i (fun h4 => hJ2 _ _ ⟨rfl, ?_⟩) fun h4 => hJ2 _ _ ⟨rfl, ?_⟩
        · rw [if_pos (by simpa using h4)]
        · rw [if_neg (by simpa using h4)]
      rintro _ _ ⟨rfl, rfl⟩
      refine drew_i fun w5 hh5 he5 => ?_
      have hb15 : BI w5 g1 f := hb14.ext he5
      have hb25 : BI w5 g2 i := hb24.ext he5
      refine ldP_I hb25 (by omega) (ldP_I hb25 (by omega) (ixP_i hA.1 (by omega) ?_))
      rw [Nat.mul_one]
      refine stC_I hb15 (by omega) fun w6 hb6 hs6 ho6 => samec_B hb25 (hb25.keep ho6 (by omega)) (ixP_i hB.1 (by omega) ?_)
      rw [Nat.mul_one]
      refine stC_I hb6 (by rw [List.length_set]; omega) fun w7 hb7 hs7 ho7 => ldA_I hb7 (by simp [hf]) (on_s (by simp [hf]) fun w8 he8 => ?_)
      refine fin _ 0 false w8 (((((he14.trans he5).then ho6 fun g hg => by omega).then ho7 fun g hg => by omega).trans he8)) (((((hb3'.ext he4).ext he5).keep ho6 (by omega)).keep ho7 (by omega)).ext he8) (by rw [fOn_len]; simp [hf]) ?_
      unfold fJoined; rw [if_neg h, if_pos h10]
    · have h10' : isB i 10 = false := by
        cases h' : isB i 10 with
        | false => rfl
        | true => exact absurd (hchk.2.2 h') (by simpa using h10)
      refine iteB_i (fun h2 => ?_) fun h2 => ?_
      · have h2 : kind = 2 := by simpa using h2
        refine ldP_I hb24 (by omega) (ixP_i hA.1 (by omega) ?_)
        rw [Nat.mul_one]
        refine stC_I hb14 (by omega) fun w6 hb6 hs6 ho6 => ldA_I hb6 (by simp [hf]) (on_s (by simp [hf]) fun w8 he8 => ?_)
        refine fin _ 0 false w8 ((he14.then ho6 fun g hg => by omega).trans he8) (((hb3'.ext he4).keep ho6 (by omega)).ext he8) (by rw [fOn_len]; simp [hf]) ?_
        unfold fJoined; rw [if_neg h, if_neg (by simp [h10']), if_pos h2]
      · have h2 : kind ≠ 2 := by simpa using h2
        refine iteB_i (fun h4 => hJ _ _ ⟨rfl, ?_⟩) fun h4 => hJ _ _ ⟨rfl, ?_⟩
        · unfold fJoined; rw [if_neg h, if_neg (by simp [h10']), if_neg h2, if_pos (by simpa using h4)]
        · unfold fJoined; rw [if_neg h, if_neg (by simp [h10']), if_neg h2, if_neg (by simpa using h4)]
  · rintro x _ ⟨rfl, e⟩
    exact ldA_I hb14 hf (ldP_I hb14 (by omega) (to_s hf fun w5 he5 => fin _ x true w5 (he14.trans he5) ((hb3'.ext he4).ext he5) (by rw [fTo_len, hf]) e))
end Go.Proofs.YtgkfbagclkjilaaGreatDoor.Fr
namespace Go.Proofs.YtgkfbagclkjilaaGreatDoor.Fr
open Go Go.Ev Go.Proofs
theorem bv_pow {h : Nat} (hh : h < 63) : bv (shlV .i64 1 (h : Int)) = BitVec.twoPow 64 h := by
  unfold shlV
  have e : min ((h : Int).toNat) IntKind.i64.bits = h := by simp [IntKind.bits]; omega
  rw [e, wrapI, bv_of_toInt, Int.one_mul]
  apply BitVec.eq_of_toNat_eq
  rw [BitVec.toNat_ofInt, BitVec.toNat_twoPow]
  have h2 : (2 ^ h : Nat) < 2 ^ 64 := Nat.pow_lt_pow_right (by omega) (by omega)
  have h3 : ((2 : Int) ^ h) = ((2 ^ h : Nat) : Int) := by simp
  rw [h3, Nat.mod_eq_of_lt h2]
  generalize (2 ^ h : Nat) = m at *
  omega
theorem and_shl {x : Int} {h : Nat} (hh : h < 63) : (andI .i64 x (shlV .i64 1 (h : Int)) != 0) = tb x h := by
  rw [andI_bv, bv_pow hh, BitVec.and_twoPow]
  unfold tb
  cases hb : (bv x).getLsbD h with
  | false => rfl
  | true =>
    simp only [if_true]
    have : (BitVec.twoPow 64 h).toInt ≠ 0 := by
      intro e
      have h1 : BitVec.twoPow 64 h = 0#64 := by
        apply BitVec.eq_of_toInt_eq
        rw [e]; rfl
      have h2 := congrArg (fun b => b.getLsbD h) h1
      simp at h2
      omega
    simpa using this
def fHs (f : List Int) (needs : Int) (n : Nat) : List Int := (List.range n).map fun h => if tb needs h then f.getD (10 + h) 0 else -1
def fChild (f : List Int) (n needs : Int) : List Int := [n, 0] ++ ((f.drop 2).take 8 ++ (fHs f needs 8 ++ [0]))
def fHalf (f : List Int) (n needs : Int) (j : Nat) : List Int := [n, 0] ++ ((f.drop 2).take 8 ++ (fHs f needs j ++ (List.replicate (8 - j) (-1) ++ [0])))
theorem fHs_len {f : List Int} {needs : Int} {n : Nat} : (fHs f needs n).length = n := by simp [fHs]
theorem fHs_succ {f : List Int} {needs : Int} {n : Nat} : fHs f needs (n + 1) = fHs f needs n ++ [if tb needs n then f.getD (10 + n) 0 else -1] := by
  simp [fHs, List.range_succ]
theorem fHalf_len {f : List Int} {n needs : Int} {j : Nat} (hf : f.length = 19) (hj : j ≤ 8) : (fHalf f n needs j).length = 19 := by
  unfold fHalf
  simp only [List.length_append, List.length_cons, List.length_nil, fHs_len, List.length_replicate, regs_len hf]
  omega
theorem fHalf_zero {f : List Int} {n needs : Int} (hf : f.length = 19) : fHalf f n needs 0 = ((fRoot.set 0 n).take 2 ++ ((f.drop 2).take 8 ++ (fRoot.set 0 n).drop (2 + 8))) := rfl
theorem fHalf_yes {f : List Int} {n needs : Int} {j : Nat} (hf : f.length = 19) (hj : j < 8) (hb : tb needs j = true) : (fHalf f n needs j).set (10 + j) (f.getD (10 + j) 0) = fHalf f n needs (j + 1) := by
  unfold fHalf
  have hr := regs_len hf
  have e8 : 8 - j = (8 - (j + 1)) + 1 := by omega
  rw [List.set_append_right _ _ (by simp; omega), List.set_append_right _ _ (by simp [hr]; omega), List.set_append_right _ _ (by simp [hr, fHs_len]; omega)]
  rw [fHs_succ, hb, e8, List.replicate_succ]
  have e0 : 10 + j - 2 - 8 - j = 0 := by omega
  simp [hr, fHs_len, e0]
theorem fHalf_no {f : List Int} {n needs : Int} {j : Nat} (hj : j < 8) (hb : tb needs j = false) : fHalf f n needs j = fHalf f n needs (j + 1) := by
  unfold fHalf
  have e8 : 8 - j = (8 - (j + 1)) + 1 := by omega
  rw [fHs_succ, hb, e8, List.replicate_succ]
  simp
def cellsF (x : Int × Sl) : List Value := [.int .i64 x.1, .slice x.2.a x.2.n x.2.c]
def Funcs (w : World) (s : Sl) (fs : List (Int × Sl)) : Prop := Rws 2 w s (fs.map cellsF)
theorem Funcs.len {w : World} {s : Sl} {fs : List (Int × Sl)} (h : Funcs w s fs) : s.n = fs.length := by have := Rws.len h; simp at this; omega
theorem Funcs.ext {w w' : World} {s : Sl} {fs : List (Int × Sl)} (h : Funcs w s fs) (he : Ext w w') : Funcs w' s fs := Rws.ext h he
theorem ixF {w : World} {s : Sl} {fs : List (Int × Sl)} {i : Int} {x : Int × Sl} {c : Addr → Prop} (h : Funcs w s fs) (h0 : 0 ≤ i) (hi : fs[i.toNat]? = some x)
    (hc : ∀ p : Addr, w.cell? (p.add 0) = some (.int .i64 x.1) → w.cell? (p.add 1) = some (.slice x.2.a x.2.n x.2.c) → c p) : ixS s i 2 c := by
  have hl := Funcs.len h
  have hlt := (List.getElem?_eq_some_iff.1 hi).1
  refine ixR_i h h0 (by omega) fun p e he _ hcell => ?_
  rw [List.getElem?_map, hi] at he
  cases he
  exact hc p (hcell 0 _ rfl) (hcell 1 _ rfl)
theorem fork_N {i : List Int} (h : isB i 8 = true) : 0 ≤ i.getD 4 0 ∧ i.getD 4 0 ≤ 31 := by
  obtain ⟨h8, hc⟩ := isB_true h
  obtain ⟨_, _, hs⟩ := chk_ok hc
  have := hs 3 (by omega)
  rw [h8] at this
  exact this
theorem child_s {f i : List Int} {s : Sl} {fs : List (Int × Sl)} {w : World} {k : Array Value × Int → World → Prop} (hf : f.length = 19) (hi : i.length = 5) (hp : Funcs w s fs)
    (h1 : isB i 8 = false → ∀ w', Ext w w' → k (agI (Z 19), 1) w') (h2 : isB i 8 = true → fs.length ≤ (i.getD 4 0).toNat → ∀ w', Ext w w' → k (agI (Z 19), 17) w')
    (h3 : isB i 8 = true → ∀ x, fs[(i.getD 4 0).toNat]? = some x → ∀ w', Ext w w' → k (agI (fChild f (i.getD 4 0) x.1), 0) w') : frame_Frame_Child (agI f) #[.slice s.a s.n s.c] (agI i) w k := by
  unfold frame_Frame_Child frame_Frame_Child_b
  refine newC_i fun g1 w1 hg1 hs1 hb1 he1 => newC_i fun gp wp hgp hsp hbp hep => newC_i fun g2 w2 hg2 hs2 hb2 he2 => newC_i fun g3 w3 hg3 hs3 hb3 he3 => ?_
  have he13 := ((he1.trans hep).trans he2).trans he3
  have hb1' : BI w3 g1 f := ((hb1.ext hep).ext he2).ext he3
  have hb2' : BI w3 g2 i := hb2.ext he3
  have hbp' : Blk w3 gp #[.slice s.a s.n s.c] := (hbp.ext he2).ext he3
  have hsz := he1.size
  have hln := hp.len
  simp only [add_mk, Nat.zero_add]
  refine ldA_I hb2' hi (may_s hi fun w4 he4 => ?_)
  have hb14 : BI w4 g1 f := hb1'.ext he4
  have hb24 : BI w4 g2 i := hb2'.ext he4
  have hbp4 := hbp'.ext he4
  have he14 := he13.trans he4
  refine iteB_i (fun h => ?_) fun h => ?_
  · refine stA_I (l := Z 19) (hb3.ext he4) rfl rfl fun w5 hb5 hs5 ho5 => ldA_I hb5 rfl ?_
    exact h1 (by simpa using h) _ (he14.then ho5 fun g hg => by omega)
  have h : isB i 8 = true := by simpa using h
  obtain ⟨hN0, hN1⟩ := fork_N h
  refine ldP_I hb24 (by omega) (ldS_i (s := s) (hbp4.cell 0) (iteB_i (fun hge => ?_) fun hlt => ?_))
  · have hge : i.getD 4 0 ≥ s.n := of_decide_eq_true hge
    refine stA_I (l := Z 19) (hb3.ext he4) rfl rfl fun w5 hb5 hs5 ho5 => ldA_I hb5 rfl ?_
    exact h2 h (by omega) _ (he14.then ho5 fun g hg => by omega)
  have hlt : i.getD 4 0 < s.n := by have := of_decide_eq_false hlt; omega
  obtain ⟨x, hx⟩ : ∃ x, fs[(i.getD 4 0).toNat]? = some x := ⟨_, List.getElem?_eq_getElem (by omega)⟩
  refine root_s fun w5 he5 => newC_i fun g6 w6 hg6 hs6 hb6 he6 => ?_
  simp only [add_mk, Nat.zero_add]
  refine stA_I (l := fRoot) hb6 rfl rfl fun w7 hb7 hs7 ho7 => ?_
  have hs5 := he5.size
  have he47 : Ext w4 w7 := (he5.trans he6).then ho7 fun g hg => by omega
  refine drew_i fun w8 hh8 he8 => ?_
  have he48 := he47.trans he8
  have hb18 : BI w8 g1 f := hb14.ext he48
  have hb28 : BI w8 g2 i := hb24.ext he48
  refine ldP_I hb28 (by omega) (ldA_P hb18 (by omega) ?_)
  have hg16 : g1 ≠ g6 := by have := hb14.lt; omega
  refine stC_I (hb7.ext he8) (by decide) fun w9 hb9 hs9 ho9 => samec_B hb18 (hb18.keep ho9 hg16) ?_
  refine stA_P hb9 (regs_len hf) (by rw [List.length_set]; decide) fun w10 hb10 hs10 ho10 => ?_
  rw [← fHalf_zero (needs := x.1) hf] at hb10
  have he10 : Ext w4 w10 := (he48.then ho9 fun g hg => by omega).then ho10 fun g hg => by omega
  refine loopP_of (fun (y : Int) w' => ∃ j : Nat, y = j ∧ j ≤ 8 ∧ Ext w4 w' ∧ BI w' g6 (fHalf f (i.getD 4 0) x.1 j)) (fun y _ => (8 - y).toNat) ⟨0, rfl, by omega, he10, hb10⟩ ?_
  rintro _ w11 ⟨j, rfl, hj, he11, hb11⟩ C hC
  refine iteB_i (fun hlt8 => ?_) fun hge => ?_
  · have hj8 : j < 8 := by have : (j : Int) < 8 := by simpa using hlt8
                           omega
    have hw : IntKind.i64.wrap ((j : Int) + 1) = ((j + 1 : Nat) : Int) := by rw [wrap_id ⟨by omega, by omega⟩]; simp
    refine drew_i fun w12 hh12 he12 => ?_
    have he412 := he11.trans he12
    refine ldS_i (s := s) ((hbp4.ext he412).cell 0) (ldP_I (hb24.ext he412) (by omega) ?_)
    refine ixF (hp.ext (he14.trans he412)) hN0 hx fun p hc0 hc1 => ldI_i hc0 (shlI_i (by omega) ?_)
    rw [and_shl (by omega)]
    refine iteB_i (fun hb => ?_) fun hb => ?_
    · refine ixP_i (by omega) (by omega) (ldP_I (hb14.ext he412) (by simp; omega) (ixP_i (by omega) (by omega) ?_))
      simp only [Int.toNat_natCast, Nat.mul_one]
      have hl := fHalf_len (n := i.getD 4 0) (needs := x.1) hf hj
      refine stC_I (hb11.ext he12) (by omega) fun w13 hb13 hs13 ho13 => ?_
      rw [fHalf_yes hf hj8 hb] at hb13
      exact hC _ _ ⟨j + 1, hw, by omega, he412.then ho13 fun g hg => by omega, hb13⟩ (by rw [hw]; omega)
    · refine hC _ _ ⟨j + 1, hw, by omega, he412, ?_⟩ (by rw [hw]; omega)
      rw [← fHalf_no hj8 hb]
      exact hb11.ext he12
  · have hj8 : j = 8 := by have : ¬ (j : Int) < 8 := by simpa using hge
                           omega
    subst hj8
    have hl := fHalf_len (n := i.getD 4 0) (needs := x.1) hf hj
    refine ldA_I hb11 hl (stA_I ((hb3.ext he4).ext he11) rfl hl fun w12 hb12 hs12 ho12 => ldA_I hb12 hl ?_)
    exact h3 h x hx _ ((he14.trans he11).then ho12 fun g hg => by omega)
end Go.Proofs.YtgkfbagclkjilaaGreatDoor.Fr
namespace Go.Ev
open Go Go.RowKit
structure HP where
  p : (Nat → Prop) → World → Prop
  lt : ∀ {F w g}, p F w → F g → g < w.heap.size
  keep : ∀ {F w w'}, p F w → (∀ g, F g → w'.heap[g]? = w.heap[g]?) → p F w'
def sepP : List HP → (Nat → Prop) → World → Prop
  | [], F, _ => ∀ g, ¬ F g
  | R :: L, F, w => ∃ F1 F2, R.p F1 w ∧ sepP L F2 w ∧ (∀ g, F1 g → ¬ F2 g) ∧ ∀ g, F g ↔ (F1 g ∨ F2 g)
theorem sepP_lt : ∀ {L : List HP} {F w g}, sepP L F w → F g → g < w.heap.size
  | [], F, w, g, h, hg => (h g hg).elim
  | R :: L, F, w, g, ⟨F1, F2, h1, h2, _, e⟩, hg => by
    rcases (e g).1 hg with hg | hg
    · exact R.lt h1 hg
    · exact sepP_lt h2 hg
theorem sepP_keep : ∀ {L : List HP} {F w w'}, sepP L F w → (∀ g, F g → w'.heap[g]? = w.heap[g]?) → sepP L F w'
  | [], F, w, w', h, _ => h
  | R :: L, F, w, w', ⟨F1, F2, h1, h2, hd, e⟩, hk =>
    ⟨F1, F2, R.keep h1 fun g hg => hk g ((e g).2 (.inl hg)), sepP_keep h2 fun g hg => hk g ((e g).2 (.inr hg)), hd, e⟩
theorem sepP_iff : ∀ {L : List HP} {F G w}, (∀ g, F g ↔ G g) → sepP L F w → sepP L G w
  | [], F, G, w, hfg, h => fun g hg => h g ((hfg g).2 hg)
  | R :: L, F, G, w, hfg, ⟨F1, F2, h1, h2, hd, e⟩ => ⟨F1, F2, h1, h2, hd, fun g => (hfg g).symm.trans (e g)⟩
theorem sepP_swap {R S : HP} {L : List HP} {F w} (h : sepP (R :: S :: L) F w) : sepP (S :: R :: L) F w := by
  obtain ⟨F1, F2, h1, ⟨F3, F4, h3, h4, hd', e'⟩, hd, e⟩ := h
  refine ⟨F3, fun g => F1 g ∨ F4 g, h3, ⟨F1, F4, h1, h4, fun g hg hg4 => hd g hg ((e' g).2 (.inr hg4)), fun g => Iff.rfl⟩, fun g hg hor => ?_, fun g => ?_⟩
  · rcases hor with h | h
    · exact hd g h ((e' g).2 (.inl hg))
    · exact hd' g hg h
  · rw [e, e']; constructor <;> (intro h; rcases h with h | h | h <;> simp [h])
structure St (w0 w : World) (L : List HP) : Prop where
  ext : Ext w0 w
  sep : ∃ F, sepP L F w ∧ ∀ g, F g → w0.heap.size ≤ g
theorem St.nil (w : World) : St w w [] := ⟨.refl _ _, fun _ => False, fun _ h => h, fun _ h => h.elim⟩
theorem St.of_ext {w0 w : World} (h : Ext w0 w) : St w0 w [] := ⟨h, fun _ => False, fun _ h => h, fun _ h => h.elim⟩
theorem St.on {w0 w w' : World} {L : List HP} (h : St w0 w L) (he : Ext w w') : St w0 w' L := by
  obtain ⟨h1, F, h2, h3⟩ := h
  exact ⟨h1.trans he, F, sepP_keep h2 fun g hg => he.block g (sepP_lt h2 hg) fun h => h, h3⟩
theorem St.swap {w0 w : World} {R S : HP} {L : List HP} (h : St w0 w (R :: S :: L)) : St w0 w (S :: R :: L) := by
  obtain ⟨h1, F, h2, h3⟩ := h
  exact ⟨h1, F, sepP_swap h2, h3⟩
theorem St.drop {w0 w : World} {R : HP} {L : List HP} (h : St w0 w (R :: L)) : St w0 w L := by
  obtain ⟨h1, F, ⟨F1, F2, h2, h4, h5, e⟩, h3⟩ := h
  exact ⟨h1, F2, h4, fun g hg => h3 g ((e g).2 (.inr hg))⟩
theorem St.all {w0 w : World} {L : List HP} (h : St w0 w L) : St w0 w [] := St.of_ext h.ext
theorem St.new {w0 w w' : World} {L : List HP} {X : HP} {F' : Nat → Prop} (h : St w0 w L) (he : Ext w w') (hx : X.p F' w') (hf : ∀ g, F' g → w.heap.size ≤ g) : St w0 w' (X :: L) := by
  obtain ⟨h1, F, h2, h3⟩ := h
  refine ⟨h1.trans he, fun g => F' g ∨ F g, ⟨F', F, hx, sepP_keep h2 fun g hg => he.block g (sepP_lt h2 hg) fun h => h, fun g hg hg2 => ?_, fun _ => Iff.rfl⟩, fun g hg => ?_⟩
  · have := hf g hg; have := sepP_lt h2 hg2; omega
  · rcases hg with hg | hg
    · have := hf g hg; have := h1.size; omega
    · exact h3 g hg
theorem St.turn {w0 w w' : World} {L : List HP} {R X : HP} (h : St w0 w (R :: L)) (hx : ∀ F1, R.p F1 w → Only F1 w w' ∧ ∃ F', X.p F' w' ∧ ∀ g, F' g → F1 g ∨ w.heap.size ≤ g) : St w0 w' (X :: L) := by
  obtain ⟨h1, F, ⟨F1, F2, h2, h4, h5, e⟩, h3⟩ := h
  obtain ⟨ho, F', hx, hf⟩ := hx F1 h2
  have hk2 : sepP L F2 w' := sepP_keep h4 fun g hg => ho.block g (sepP_lt h4 hg) fun h => h5 g h hg
  refine ⟨h1.then ho fun g hg => h3 g ((e g).2 (.inl hg)), fun g => F' g ∨ F2 g, ⟨F', F2, hx, hk2, fun g hg hg2 => ?_, fun _ => Iff.rfl⟩, fun g hg => ?_⟩
  · rcases hf g hg with h | h
    · exact h5 g h hg2
    · have := sepP_lt h4 hg2; omega
  · rcases hg with hg | hg
    · rcases hf g hg with h | h
      · exact h3 g ((e g).2 (.inl h))
      · have := h1.size; omega
    · exact h3 g ((e g).2 (.inr hg))
theorem St.look {w0 w : World} {R : HP} {L : List HP} (h : St w0 w (R :: L)) : ∃ F, R.p F w ∧ ∀ g, F g → w0.heap.size ≤ g := by
  obtain ⟨h1, F, ⟨F1, F2, h2, h4, h5, e⟩, h3⟩ := h
  exact ⟨F1, h2, fun g hg => h3 g ((e g).2 (.inl hg))⟩
theorem St.trans {a b c : World} {L : List HP} (h : Ext a b) (k : St b c L) : St a c L := by
  obtain ⟨h1, F, h2, h3⟩ := k
  exact ⟨h.trans h1, F, h2, fun g hg => by have := h3 g hg; have := h.size; omega⟩
theorem St.conv {w0 w : World} {R X : HP} {L : List HP} (h : St w0 w (R :: L)) (hx : ∀ F, R.p F w → X.p F w) : St w0 w (X :: L) := by
  obtain ⟨h1, F, ⟨F1, F2, h2, h4, h5, e⟩, h3⟩ := h
  exact ⟨h1, F, ⟨F1, F2, hx F1 h2, h4, h5, e⟩, h3⟩
class At {α : Type} (L : List HP) (k : α → HP) (x : outParam α) (f : outParam (HP → List HP)) : Prop where
  split : ∃ R, (∀ {F w}, sepP L F w → sepP (k x :: R) F w) ∧ ∀ {X F w}, sepP (X :: R) F w → sepP (f X) F w
instance (priority := high) At.here {α : Type} {L : List HP} {k : α → HP} {x : α} : At (k x :: L) k x (fun X => X :: L) := ⟨⟨L, id, id⟩⟩
instance At.there {α : Type} {L : List HP} {k : α → HP} {x : α} {Y : HP} {f : HP → List HP} [a : At L k x f] : At (Y :: L) k x (fun X => Y :: f X) := by
  constructor
  obtain ⟨R, h1, h2⟩ := a.split
  refine ⟨Y :: R, fun h => sepP_swap ?_, fun h => ?_⟩
  · obtain ⟨F1, F2, k2, k4, k5, e⟩ := h
    exact ⟨F1, F2, k2, h1 k4, k5, e⟩
  · obtain ⟨F1, F2, k2, k4, k5, e⟩ := sepP_swap h
    exact ⟨F1, F2, k2, h2 k4, k5, e⟩
theorem At.out {α : Type} {L : List HP} {k : α → HP} {x : α} {f : HP → List HP} (a : At L k x f) : ∃ R, (∀ {w0 w}, St w0 w L → St w0 w (k x :: R)) ∧ ∀ {X w0 w}, St w0 w (X :: R) → St w0 w (f X) := by
  obtain ⟨R, h1, h2⟩ := a.split
  exact ⟨R, fun ⟨a, F, b, c⟩ => ⟨a, F, h1 b, c⟩, fun ⟨a, F, b, c⟩ => ⟨a, F, h2 b, c⟩⟩
theorem St.look' {α : Type} {w0 w : World} {L : List HP} {k : α → HP} {x : α} {f : HP → List HP} (h : St w0 w L) (a : At L k x f) : ∃ F, (k x).p F w ∧ ∀ g, F g → w0.heap.size ≤ g := by
  obtain ⟨R, h1, h2⟩ := a.out
  exact (h1 h).look
theorem St.turn' {α : Type} {w0 w w' : World} {L : List HP} {k : α → HP} {x : α} {f : HP → List HP} {X : HP} (h : St w0 w L) (a : At L k x f) (hx : ∀ F1, (k x).p F1 w → Only F1 w w' ∧ ∃ F', X.p F' w' ∧ ∀ g, F' g → F1 g ∨ w.heap.size ≤ g) : St w0 w' (f X) := by
  obtain ⟨R, h1, h2⟩ := a.out
  exact h2 ((h1 h).turn hx)
theorem St.conv' {α : Type} {w0 w : World} {L : List HP} {k : α → HP} {x : α} {f : HP → List HP} {X : HP} (h : St w0 w L) (a : At L k x f) (hx : ∀ F, (k x).p F w → X.p F w) : St w0 w (f X) := by
  obtain ⟨R, h1, h2⟩ := a.out
  exact h2 ((h1 h).conv hx)
theorem sepP_front : ∀ {L : List HP} {n : Nat} {X : HP} {F w}, L[n]? = some X → sepP L F w → sepP (X :: L.eraseIdx n) F w
  | [], n, X, F, w, h, _ => by simp at h
  | R :: L, 0, X, F, w, h, hs => by simp at h; subst h; exact hs
  | R :: L, n + 1, X, F, w, h, ⟨F1, F2, h1, h2, h3, h4⟩ => by
    have := sepP_front (L := L) (n := n) (by simpa using h) h2
    exact sepP_swap ⟨F1, F2, h1, this, h3, h4⟩
theorem St.front {w0 w : World} {L : List HP} (h : St w0 w L) (n : Nat) {X : HP} (e : L[n]? = some X) : St w0 w (X :: L.eraseIdx n) := ⟨h.ext, by obtain ⟨F, h1, h2⟩ := h.sep; exact ⟨F, sepP_front e h1, h2⟩⟩
theorem St.rm {w0 w : World} {L : List HP} (h : St w0 w L) (n : Nat) {X : HP} (e : L[n]? = some X) : St w0 w (L.eraseIdx n) := (h.front n e).drop
theorem samec_self {n : Nat} {a : Addr} {w : World} {c : Prop} (hc : c) : samec n a w w c := ⟨fun _ _ => rfl, hc⟩
def blk (g : Nat) (cs : List Value) : HP where
  p F w := (∀ k, F k ↔ k = g) ∧ Blk w g cs.toArray
  lt := fun ⟨e, h⟩ hg => by rw [(e _).1 hg]; exact h.lt
  keep := fun ⟨e, h⟩ hk => ⟨e, by obtain ⟨t, h⟩ := h; exact ⟨t, (hk _ ((e _).2 rfl)).trans h⟩⟩
section
variable {w0 w : World} {L : List HP} {g : Nat} {cs : List Value} {f : HP → List HP}
theorem St.blk (h : St w0 w L) [a : At L (blk g) cs f] : Blk w g cs.toArray := by
  obtain ⟨F, h1, _⟩ := h.look' a
  exact h1.2
theorem newC_h {a : Array Value} {t : TypeId} {c : Addr → World → Prop} (h : St w0 w L) (hc : ∀ g w', St w0 w' (Ev.blk g a.toList :: L) → c ⟨g, 0, none⟩ w') : newC w a t c :=
  newC_i fun g w' hg hs hb he => hc g w' (h.new he (F' := fun k => k = g) ⟨fun _ => Iff.rfl, hb⟩ fun k hk => by omega)
theorem drew_h {c : World → Prop} (h : St w0 w L) (hc : ∀ w', St w0 w' L → c w') : drew w c := drew_i fun w' _ he => hc w' (h.on he)
theorem stC_h {o : Nat} {v : Value} {c : World → Prop} (h : St w0 w L) [a : At L (Ev.blk g) cs f] (h1 : v.oneCell' = true) (ho : o < cs.length) (hc : ∀ w', St w0 w' (f (Ev.blk g (cs.set o v))) → c w') : stC w ⟨g, o, none⟩ v c := by
  refine stC_i h1 h.blk (by simpa using ho) fun w' hb hs hon => hc w' (h.turn' a fun F1 hF => ⟨hon.mono fun k _ hk => (hF.1 k).2 hk, fun k => k = g, ⟨fun _ => Iff.rfl, ?_⟩, fun k hk => .inl ((hF.1 k).2 hk)⟩)
  rw [List.setIfInBounds_toArray] at hb; exact hb
theorem ldI_h {k : IntKind} {o : Nat} {n : Int} {c : Int → Prop} (h : St w0 w L) [a : At L (Ev.blk g) cs f] (hv : cs[o]? = some (.int k n)) (hc : c n) : ldI k w ⟨g, o, none⟩ c := ldI_i (by rw [h.blk.cell]; simpa using hv) hc
theorem ldB_h {o : Nat} {n : Bool} {c : Bool → Prop} (h : St w0 w L) [a : At L (Ev.blk g) cs f] (hv : cs[o]? = some (.bool n)) (hc : c n) : ldB w ⟨g, o, none⟩ c := ldB_i (by rw [h.blk.cell]; simpa using hv) hc
theorem ldP_h {o : Nat} {n : Option Addr} {c : Option Addr → Prop} (h : St w0 w L) [a : At L (Ev.blk g) cs f] (hv : cs[o]? = some (.pointer n)) (hc : c n) : ldP w ⟨g, o, none⟩ c := ldP_i (by rw [h.blk.cell]; simpa using hv) hc
theorem ldS_h {o : Nat} {p : Option Addr} {n m : Nat} {c : Sl → Prop} (h : St w0 w L) [a : At L (Ev.blk g) cs f] (hv : cs[o]? = some (.slice p n m)) (hc : c ⟨p, n, m⟩) : ldS w ⟨g, o, none⟩ c := ldS_i (s := ⟨p, n, m⟩) (by rw [h.blk.cell]; simpa using hv) hc
theorem ldStr_h {o : Nat} {n : ByteArray} {c : ByteArray → Prop} (h : St w0 w L) [a : At L (Ev.blk g) cs f] (hv : cs[o]? = some (.string n)) (hc : c n) : ldStr w ⟨g, o, none⟩ c := by
  have : w.cell? ⟨g, o, none⟩ = some (.string n) := by rw [h.blk.cell]; simpa using hv
  simp [ldStr, rd, this, toStr, hc]
theorem ldM_h {o : Nat} {n : Option Nat} {c : Option Nat → Prop} (h : St w0 w L) [a : At L (Ev.blk g) cs f] (hv : cs[o]? = some (.map n)) (hc : c n) : ldM w ⟨g, o, none⟩ c := by
  have : w.cell? ⟨g, o, none⟩ = some (.map n) := by rw [h.blk.cell]; simpa using hv
  simp [ldM, rd, this, toM, hc]
theorem ldV_h {o : Nat} {v : Value} {c : Value → Prop} (h : St w0 w L) [a : At L (Ev.blk g) cs f] (hv : cs[o]? = some v) (hc : c v) : ldV w ⟨g, o, none⟩ c := ldV_i (by rw [h.blk.cell]; simpa using hv) hc
theorem ldA_h {n o : Nat} {c : Array Value → Prop} (h : St w0 w L) [a : At L (Ev.blk g) cs f] (hl : o + n ≤ cs.length) (hc : c ((cs.drop o).take n).toArray) : ldA n w ⟨g, o, none⟩ c := ldA_i h.blk (by simpa using hl) hc
theorem ldW_h {n : Nat} {c : Array Value → Prop} (h : St w0 w L) [a : At L (Ev.blk g) cs f] (hl : cs.length = n) (hc : c cs.toArray) : ldA n w ⟨g, 0, none⟩ c := by
  refine ldA_h h (by omega) ?_
  rw [List.drop_zero, List.take_of_length_le (by omega)]; exact hc
theorem stA_h {n o : Nat} {vs : Array Value} {c : World → Prop} (h : St w0 w L) [a : At L (Ev.blk g) cs f] (hn : vs.size = n) (hl : o + n ≤ cs.length) (h1 : ∀ v ∈ vs, v.oneCell' = true)
    (hc : ∀ w', St w0 w' (f (Ev.blk g (cs.take o ++ (vs.toList ++ cs.drop (o + n))))) → c w') : stA n w ⟨g, o, none⟩ vs c := by
  refine stA_i h.blk hn (by simpa using hl) h1 fun w' cs' hb hz hk hv hon hs => hc w' (h.turn' a fun F1 hF => ⟨hon.mono fun k _ hk => (hF.1 k).2 hk, fun k => k = g, ⟨fun _ => Iff.rfl, ?_⟩, fun k hk => .inl ((hF.1 k).2 hk)⟩)
  refine blk_eq hb fun j => ?_
  have hz' : cs'.size = cs.length := by simpa using hz
  simp only [List.getElem?_toArray]
  by_cases h1 : j < o
  · rw [hk j (.inl h1)]
    rw [List.getElem?_append_left (by simp; omega), List.getElem?_take_of_lt h1]; simp
  · by_cases h2 : j < o + n
    · have := hv (j - o) (by omega)
      rw [show o + (j - o) = j by omega] at this
      rw [this]
      rw [List.getElem?_append_right (by simp; omega), List.getElem?_append_left (by simp; omega)]
      simp only [List.length_take, Array.getElem?_toList]
      congr 1; omega
    · rw [hk j (.inr (by omega))]
      rw [List.getElem?_append_right (by simp; omega), List.getElem?_append_right (by simp; omega), List.getElem?_drop]
      simp only [List.length_take, List.getElem?_toArray, Array.length_toList]
      congr 1; omega
theorem stW_h {n : Nat} {vs : Array Value} {c : World → Prop} (h : St w0 w L) [a : At L (Ev.blk g) cs f] (hl : cs.length = n) (hn : vs.size = n) (h1 : ∀ v ∈ vs, v.oneCell' = true) (hc : ∀ w', St w0 w' (f (Ev.blk g vs.toList)) → c w') : stA n w ⟨g, 0, none⟩ vs c :=
  stA_h h hn (by omega) h1 fun w' h' => hc w' (by
    have e : cs.take 0 ++ (vs.toList ++ cs.drop (0 + n)) = vs.toList := by simp [List.drop_eq_nil_of_le, hl]
    rwa [e] at h')
theorem samec_h {w0' w' : World} {L' : List HP} {f' : HP → List HP} {n o : Nat} {c : Prop} (h : St w0 w L) (h' : St w0' w' L') [a : At L (Ev.blk g) cs f] [a' : At L' (Ev.blk g) cs f'] (hc : c) : samec n ⟨g, o, none⟩ w w' c := samec_B h.blk h'.blk hc
end
structure OwnS (sz : Nat) (w : World) (s : Sl) (vs : List Value) : Prop where
  len : vs.length = s.n * sz
  cap : s.n ≤ s.c
  max : s.c ≤ 9223372036854775807
  one : ∀ x ∈ vs, x.oneCell' = true
  row : (s.a = none ∧ s.c = 0) ∨ ∃ g off cs, s.a = some ⟨g, off, none⟩ ∧ Blk w g cs ∧ off + s.c * sz ≤ cs.size ∧ ∀ i v, vs[i]? = some v → cs[off + i]? = some v
theorem OwnS.keep {sz : Nat} {w w' : World} {s : Sl} {vs : List Value} (h : OwnS sz w s vs) (hk : ∀ g, s.blk = some g → w'.heap[g]? = w.heap[g]?) : OwnS sz w' s vs := by
  refine ⟨h.len, h.cap, h.max, h.one, h.row.imp id ?_⟩
  rintro ⟨g, off, cs, h1, h2, h3⟩
  refine ⟨g, off, cs, h1, ?_, h3⟩
  obtain ⟨t, h2⟩ := h2
  exact ⟨t, (hk g (by simp [Sl.blk, h1])).trans h2⟩
theorem OwnS.sls {sz : Nat} {w : World} {s : Sl} {vs : List Value} (h : OwnS sz w s vs) : Sls sz w s vs := by
  refine ⟨h.len, fun i v hv => ?_⟩
  rcases h.row with ⟨h1, h2⟩ | ⟨g, off, cs, h1, h3, _, h5⟩
  · have h0 := h.cap
    have h6 : i < vs.length := (List.getElem?_eq_some_iff.1 hv).1
    have h7 := h.len
    have : s.n = 0 := by omega
    have h8 : vs.length = 0 := by rw [h7, this]; simp
    omega
  · exact ⟨_, h1, by rw [add_mk, h3.cell]; exact h5 i v hv⟩
def slc (sz : Nat) (s : Sl) (vs : List Value) : HP where
  p F w := (∀ k, F k ↔ s.blk = some k) ∧ OwnS sz w s vs
  lt := fun ⟨e, h⟩ hg => by
    have hg := (e _).1 hg
    rcases h.row with ⟨h1, _⟩ | ⟨g', off, cs, h1, h3, _⟩
    · simp [Sl.blk, h1] at hg
    · simp [Sl.blk, h1] at hg; subst hg; exact h3.lt
  keep := fun ⟨e, h⟩ hk => ⟨e, h.keep fun g hg => hk g ((e g).2 hg)⟩
section
variable {w0 w : World} {L : List HP} {sz : Nat} {s : Sl} {vs : List Value} {f : HP → List HP}
theorem St.own (h : St w0 w L) [a : At L (slc sz s) vs f] : OwnS sz w s vs := by
  obtain ⟨F, h1, _⟩ := h.look' a
  exact h1.2
theorem St.slen (h : St w0 w L) [a : At L (slc sz s) vs f] : vs.length = s.n * sz := h.own.len
theorem OwnS.nil (sz : Nat) (w : World) : OwnS sz w ⟨none, 0, 0⟩ [] := ⟨by simp, Nat.le_refl _, by simp, by simp, .inl ⟨rfl, rfl⟩⟩
theorem St.nilS (h : St w0 w L) (sz : Nat) : St w0 w (slc sz ⟨none, 0, 0⟩ [] :: L) := by
  exact h.new (.refl _ _) (F' := fun _ => False) ⟨fun k => by simp [Sl.blk], OwnS.nil sz w⟩ fun _ h => h.elim
theorem OwnS.new {g n : Nat} {l : List Value} (hb : Blk w g l.toArray) (hn : l.length = n * sz) (hm : n ≤ 9223372036854775807) (h1 : ∀ x ∈ l, x.oneCell' = true) : OwnS sz w ⟨some ⟨g, 0, none⟩, n, n⟩ l :=
  ⟨hn, Nat.le_refl _, hm, h1, .inr ⟨g, 0, l.toArray, rfl, hb, by simp [hn], fun i v hv => by simpa using hv⟩⟩
theorem ixS_h {i : Int} {c : Addr → Prop} (h : St w0 w L) [a : At L (slc sz s) vs f] (hsz : 0 < sz) (h0 : 0 ≤ i) (h1 : i < s.n)
    (hc : ∀ g o, s.blk = some g → (∀ {w' L' f'}, St w0 w' L' → [At L' (slc sz s) vs f'] → ∀ j v, j < sz → vs[i.toNat * sz + j]? = some v → w'.cell? ⟨g, o + j, none⟩ = some v) →
      (∀ {w' : World} {L' : List HP} {vs' : List Value} {f' : HP → List HP} (h' : St w0 w' L') (a' : At L' (slc sz s) vs' f') (j : Nat) (v : Value) (c' : World → Prop), j < sz → v.oneCell' = true →
        (∀ w'', St w0 w'' (f' (slc sz s (vs'.set (i.toNat * sz + j) v))) → c' w'') → stC w' ⟨g, o + j, none⟩ v c') → c ⟨g, o, none⟩) : ixS s i sz c := by
  have ho : OwnS sz w s vs := h.own
  have hi : i.toNat < s.n := by omega
  have hlt : i.toNat * sz + sz ≤ s.n * sz := by
    rw [← Nat.succ_mul]; exact Nat.mul_le_mul_right _ hi
  rcases ho.row with ⟨h2, h3⟩ | ⟨g, off, cs, h2, h3, h4, h5⟩
  · have := ho.cap; omega
  · unfold ixS
    rw [h2]
    refine ⟨⟨h0, h1⟩, ?_⟩
    rw [add_mk]
    refine hc g _ (by simp [Sl.blk, h2]) ?_ ?_
    · intro w' L' f' h' a' j v hj hv
      obtain ⟨p, hp, hcl⟩ := (h'.own (sz := sz) (s := s) (vs := vs)).sls.cell _ v hv
      rw [h2] at hp; cases hp
      rw [add_mk] at hcl
      rw [Nat.add_assoc]; exact hcl
    · intro w' L' vs' f' h' a' j v c' hj hv1 hc'
      have ho' : OwnS sz w' s vs' := h'.own
      rcases ho'.row with ⟨h2', _⟩ | ⟨g', off', cs', h2', h3', h4', h5'⟩
      · rw [h2] at h2'; cases h2'
      · rw [h2] at h2'; cases h2'
        have hc1 := ho'.cap
        have hcsz : s.n * sz ≤ s.c * sz := Nat.mul_le_mul_right _ hc1
        refine stC_i hv1 h3' (by omega) fun w'' hb hs hon => hc' w'' (h'.turn' a' fun F1 hF => ⟨hon.mono fun k _ hk => (hF.1 k).2 (by simp [Sl.blk, h2, hk]), F1, ⟨hF.1, ?_⟩, fun k hk => .inl hk⟩)
        refine ⟨by rw [List.length_set]; exact ho'.len, ho'.cap, ho'.max, fun x hx => ?_, .inr ⟨g, off, _, h2, hb, by simpa using h4', fun k u hk => ?_⟩⟩
        · rcases List.mem_or_eq_of_mem_set hx with hx | rfl
          · exact ho'.one x hx
          · exact hv1
        · by_cases hkj : i.toNat * sz + j = k
          · subst hkj
            have hlt2 : i.toNat * sz + j < vs'.length := by rw [ho'.len]; omega
            rw [List.getElem?_set_self hlt2] at hk
            cases hk
            rw [show off + i.toNat * sz + j = off + (i.toNat * sz + j) by omega, Array.getElem?_setIfInBounds_self, if_pos (by rw [ho'.len] at hlt2; omega)]
          · rw [List.getElem?_set_ne hkj] at hk
            rw [Array.getElem?_setIfInBounds_ne (by omega)]
            exact h5' k u hk
def elInfo (P : Program) (t : TypeId) : Option (Nat × Nat × Option Value) := match P.underlying t with
  | some (.slice e) => (P.info? e).map fun i => (i.size, i.bytes, i.zero)
  | _ => none
structure ElS (P : Program) (t : TypeId) (sz b : Nat) (z : Value) : Prop where
  info : elInfo P t = some (sz, b, some z)
  size : z.cells.size = sz
theorem ElS.out {P : Program} {t : TypeId} {b : Nat} {z : Value} (h : ElS P t sz b z) : ∃ e i, P.underlying t = some (.slice e) ∧ P.info? e = some i ∧ i.size = sz ∧ i.bytes = b ∧ i.zero = some z := by
  have h2 := h.info
  unfold elInfo at h2
  split at h2
  · rename_i e he
    cases hi : P.info? e with
    | none => simp [hi] at h2
    | some i => simp [hi] at h2; exact ⟨e, i, he, hi, h2⟩
  · cases h2
def isSl (P : Program) (t : TypeId) : Bool := match P.underlying t with | some (.slice _) => true | _ => false
theorem isSl_out {P : Program} {t : TypeId} (h : isSl P t = true) : ∃ e, P.underlying t = some (.slice e) := by
  unfold isSl at h
  split at h
  · exact ⟨_, by assumption⟩
  · cases h
theorem firstS_read {P : Program} {x : Sl} {ys : List Value} {n : Nat} (h : Sls sz w x ys) (hn : n ≤ x.n) : (Builtin.firstCells sz n (.slice x.a x.n x.c)).run P w = .ok (ys.take (n * sz)).toArray w := by
  have hlen := h.len
  have hle : n * sz ≤ ys.length := by rw [hlen]; exact Nat.mul_le_mul_right _ hn
  cases ha : x.a with
  | none =>
    have : ys = [] := by
      cases ys with
      | nil => rfl
      | cons v l => obtain ⟨p, hp, _⟩ := h.cell 0 v rfl; rw [ha] at hp; cases hp
    subst this
    rw [List.take_nil]
    exact run_firstCells_none w sz n x.n x.c
  | some p =>
    exact run_firstCells_some w sz n p x.n x.c (ys.take (n * sz)) (by rw [List.length_take]; omega) fun j v hv => by
      rw [List.getElem?_take] at hv
      split at hv
      · obtain ⟨q, hq, hc⟩ := h.cell j v hv
        rw [ha] at hq; cases hq; exact hc
      · cases hv
theorem srcS_of {P : Program} {tx e' : TypeId} (hk : P.underlying tx = some (.slice e')) {x : Sl} {ys : List Value} (h : Sls sz w x ys) (h1 : ∀ v ∈ ys, v.oneCell' = true) : Src P sz tx (.slice x.a x.n x.c) x.n ys w := by
  have e : ys.take (x.n * sz) = ys := List.take_of_length_le (by rw [h.len]; exact Nat.le_refl _)
  refine ⟨.inl ⟨e', hk⟩, fun _ => rfl, ?_, ?_, by rw [h.len], h1⟩
  · have := firstS_read (P := P) h (Nat.le_refl _); rwa [e] at this
  · have := firstS_read (P := P) (h.ext (ext_drew w)) (Nat.le_refl _); rwa [e] at this
theorem OwnS.app {P : Program} {t tx : TypeId} {ty : TypeId} {b : Nat} {z : Value} {x : Sl} {ys : List Value} {c : Sl → World → Prop} (hown : OwnS sz w s vs) (ht : ElS P t sz b z) (hk : isSl P tx = true)
    (hsrc : Sls sz w x ys) (h1 : ∀ v ∈ ys, v.oneCell' = true) (hbytes : (s.n + x.n) * b ≤ 140737488355328) (h63 : s.n + x.n ≤ 9223372036854775807)
    (hc : ∀ s' w', OwnS sz w' s' (vs ++ ys) → Only (fun k => s.blk = some k) w w' → (s'.blk = s.blk ∨ ∃ g, s'.blk = some g ∧ w.heap.size ≤ g) → s'.n = s.n + x.n → c s' w') :
    bApp P #[t, tx] ty [.slice s.a s.n s.c, .slice x.a x.n x.c] w c := by
  obtain ⟨e, i, hte, hi, hsz, hby, hzi⟩ := ht.out
  obtain ⟨e', hk⟩ := isSl_out hk
  have hs := srcS_of (P := P) hk hsrc h1
  have hyl := hsrc.len
  have hlen := hown.len
  have hone : ∀ v ∈ vs ++ ys, v.oneCell' = true := fun v hv => (List.mem_append.1 hv).elim (hown.one v) (h1 v)
  have hmul : (s.n + x.n) * sz = s.n * sz + x.n * sz := Nat.add_mul _ _ _
  unfold bApp
  by_cases hroom : s.n + x.n ≤ s.c
  · rcases hown.row with ⟨h2, h3⟩ | ⟨g, off, cs, h2, h4, h5, h6⟩
    · have hx0 : x.n = 0 := by omega
      have hs0 : s.n = 0 := by omega
      have hys : ys = [] := List.eq_nil_of_length_eq_zero (by rw [hyl, hx0, Nat.zero_mul])
      have hxs : vs = [] := List.eq_nil_of_length_eq_zero (by rw [hlen, hs0, Nat.zero_mul])
      subst hys; subst hxs
      rw [h2, hs0, h3]
      have hr : (Builtin.append_ #[t, tx] ty #[.slice none 0 0, .slice x.a x.n x.c]).run P w = .ok (.slice none 0 0) w := by
        have hk' := hs.cells
        simp only [List.toArray] at hk'
        have hlen := hs.len w
        rw [hx0] at hlen hk' ⊢
        simp [Builtin.append_, run_underlying hte, run_underlying hk, sizeOf, typeInfo, hi, hsz, Builtin.lenOf, Builtin.firstCells] at hk' ⊢
        cases hxa : x.a <;> simp [Builtin.firstCells, hxa, loadCells, loadCellsFrom]
      simp only [List.toArray] at *
      rw [hr]
      show c ⟨none, 0, 0⟩ w
      exact hc _ _ (by simpa using OwnS.nil sz w) (.refl _ _) (.inl (by simp [Sl.blk, h2])) (by rw [hs0, hx0])
    · obtain ⟨ee, h4'⟩ := h4
      have hcap : (s.n + x.n) * sz ≤ s.c * sz := Nat.mul_le_mul_right _ hroom
      have hcell : ∀ j, j < ys.length → (w.cell? ⟨g, off + s.n * i.size + j, none⟩).isSome = true := by
        intro j hj
        rw [hsz, (show Blk w g cs from ⟨ee, h4'⟩).cell]
        have : off + s.n * sz + j < cs.size := by omega
        simp [this]
      have hfro : ∀ j, j < ys.length → w.frozen? ⟨g, off + s.n * i.size + j, none⟩ = false := fun j _ => (show Blk w g cs from ⟨ee, h4'⟩).frozen _
      rw [← hsz] at hs
      have hr := run_append_room_src w t tx ty e i hte hi g off s.n s.c _ x.n ys hs hroom hcell hfro
      obtain ⟨cs', k1, k2, k3, k4, k5, k6⟩ := setCells_blk ys w g (off + s.n * sz) cs h4' (by omega)
      rw [hsz] at hr
      rw [h2]
      simp only [List.toArray] at *
      rw [hr]
      show c ⟨some ⟨g, off, none⟩, s.n + x.n, s.c⟩ _
      refine hc _ _ ⟨by simp; omega, hroom, hown.max, hone, .inr ⟨g, off, cs', rfl, ⟨ee, k1⟩, by rw [k2]; exact h5, fun j v hv => ?_⟩⟩ (k5.mono fun k _ hk => by simp [Sl.blk, h2, hk]) (.inl (by simp [Sl.blk, h2])) rfl
      by_cases hj : j < vs.length
      · rw [List.getElem?_append_left hj] at hv
        rw [k3 _ (by omega)]
        exact h6 j v hv
      · rw [List.getElem?_append_right (by omega)] at hv
        have := k4 _ v hv
        rwa [show off + s.n * sz + (j - vs.length) = off + j by omega] at this
  · have hg : s.c < s.n + x.n := by omega
    have hfit : Builtin.nextslicecap (s.n + x.n) s.c * i.bytes ≤ 281474976710656 := growslice_fits hg (by rw [hby]; exact hbytes)
    have e0 : vs.take (s.n * sz) = vs := List.take_of_length_le (by omega)
    have hold := firstS_read (P := P) (hown.sls.ext (ext_drew w)) (Nat.le_refl _)
    rw [e0] at hold
    rw [← hsz] at hold hs
    have hr := run_append_grow_src w t tx ty e i z hte hi hzi s.a s.n s.c vs hold _ x.n ys hs hg (by omega) hfit
    simp only [List.toArray] at *
    rw [hr]
    have hge := grownCap_ge w (s.n + x.n) s.c e
    have hcm := grownCap_le_maxLen w (s.n + x.n) s.c e (by unfold maxLen; omega)
    unfold maxLen at hcm
    show c ⟨some ⟨w.heap.size, 0, none⟩, s.n + x.n, _⟩ _
    have hzs : z.cells.size = sz := ht.size
    refine hc _ _ ⟨by simp; omega, hge, hcm, hone, .inr ⟨w.heap.size, 0, _, rfl, Blk.new w.drew _ e, ?_, fun j v hv => ?_⟩⟩ (Ext.only ((ext_drew w).trans (ext_alloc _ _))) (.inr ⟨w.heap.size, rfl, Nat.le_refl _⟩) rfl
    · have h9 : (s.n + x.n) * sz ≤ grownCap w (s.n + x.n) s.c e * sz := Nat.mul_le_mul_right _ hge
      rw [Array.size_append, size_zeroCells, hzs, Nat.sub_mul]
      simp only [List.size_toArray, List.length_append]
      omega
    · have hj : j < (vs ++ ys).length := (List.getElem?_eq_some_iff.1 hv).1
      rw [Nat.zero_add, Array.getElem?_append_left (by simpa using hj)]
      simpa using hv
theorem bApp_h {P : Program} {t tx : TypeId} {ty : TypeId} {b : Nat} {z : Value} {x : Sl} {ys : List Value} {c : Sl → World → Prop} (h : St w0 w L) [a : At L (slc sz s) vs f] (ht : ElS P t sz b z) (hk : isSl P tx = true)
    (hsrc : Sls sz w x ys) (h1 : ∀ v ∈ ys, v.oneCell' = true) (hbytes : (s.n + x.n) * b ≤ 140737488355328) (h63 : s.n + x.n ≤ 9223372036854775807)
    (hc : ∀ s' w', St w0 w' (f (slc sz s' (vs ++ ys))) → s'.n = s.n + x.n → c s' w') : bApp P #[t, tx] ty [.slice s.a s.n s.c, .slice x.a x.n x.c] w c :=
  OwnS.app h.own ht hk hsrc h1 hbytes h63 fun s' w' ho hon hb hn => hc s' w' (h.turn' a fun F1 hF => ⟨hon.mono fun k _ hk => (hF.1 k).2 hk, fun k => s'.blk = some k, ⟨fun _ => Iff.rfl, ho⟩, fun k hk => by
    rcases hb with hb | ⟨g, hg, hge⟩
    · exact .inl ((hF.1 k).2 (by rw [← hb]; exact hk))
    · rw [hg] at hk; cases hk; exact .inr hge⟩) hn
theorem OwnS.off {d : Sl} {ys : List Value} {lo : Nat} (h : OwnS sz w s vs) (hy : ys.length = d.n * sz) (hc : d.n ≤ d.c) (hcc : lo + d.c ≤ s.c) (ha : d.a = s.a.map (·.add (lo * sz)) ∨ (d.a = s.a ∧ d.c = 0)) (hv : ∀ i v, ys[i]? = some v → vs[lo * sz + i]? = some v) : OwnS sz w d ys := by
  have hmax := h.max
  have hm : (lo + d.c) * sz ≤ s.c * sz := Nat.mul_le_mul_right _ hcc
  rw [Nat.add_mul] at hm
  refine ⟨hy, hc, by omega, fun x hx => ?_, ?_⟩
  · obtain ⟨i, hi, rfl⟩ := List.getElem_of_mem hx
    have := hv i ys[i] (by simp [hi])
    exact h.one _ (List.mem_of_getElem? this)
  · rcases h.row with ⟨h1, h2⟩ | ⟨g, off, cs, h1, h3, h4, h5⟩
    · refine .inl ⟨?_, by omega⟩
      rcases ha with ha | ⟨ha, _⟩ <;> rw [ha, h1] <;> rfl
    · rcases ha with ha | ⟨ha, hd0⟩
      · exact .inr ⟨g, off + lo * sz, cs, by rw [ha, h1]; simp, h3, by omega, fun i v hi => by rw [Nat.add_assoc]; exact h5 _ _ (hv i v hi)⟩
      · have hy0 : ys = [] := List.eq_nil_of_length_eq_zero (by rw [hy]; have : d.n = 0 := by omega
                                                                rw [this, Nat.zero_mul])
        subst hy0
        exact .inr ⟨g, off, cs, by rw [ha, h1], h3, by rw [hd0, Nat.zero_mul]; omega, fun i v hi => by simp at hi⟩
theorem slL_h {lo : Int} {c : Sl → Prop} (h : St w0 w L) [a : At L (slc sz s) vs f] (h0 : 0 ≤ lo) (h1 : lo ≤ s.n)
    (hc : ∀ d : Sl, d.n = s.n - lo.toNat → St w0 w (f (slc sz d (vs.drop (lo.toNat * sz)))) → c d) : slL s sz lo c := by
  have ho : OwnS sz w s vs := h.own
  have hcap := ho.cap; have hlen := ho.len
  refine ⟨⟨h0, h1⟩, hc _ rfl (h.conv' a fun F hF => ⟨fun k => ?_, ho.off (lo := lo.toNat) (by simp [hlen, Nat.sub_mul]) (by simp; omega) (by simp; omega) ?_ fun i v hi => by simpa using hi⟩)⟩
  · rw [hF.1]
    by_cases hq : s.c = lo.toNat
    · simp [Sl.blk, hq]
    · simp only [Sl.blk, hq, if_false]
      cases s.a with
      | none => simp
      | some p => simp [Addr.add]; split <;> rfl
  · by_cases hq : s.c = lo.toNat
    · right; simp [hq]
    · left; simp [hq]
theorem mkSl_h {P : Program} {t : TypeId} {b : Nat} {z : Value} {n : Nat} {kl kc : IntKind} {c : Sl → World → Prop} (h : St w0 w L) (ht : ElS P t 1 b z) (hz1 : z.oneCell' = true)
    (hbytes : b * n ≤ 281474976710656) (h63 : n ≤ 9223372036854775807)
    (hc : ∀ s w', St w0 w' (slc 1 s (List.replicate n z) :: L) → s.n = n → c s w') : mkSl P t (.int kl (n : Int)) (.int kc (n : Int)) w c := by
  obtain ⟨e, i, hte, hi, hsz, hby, hzi⟩ := ht.out
  refine mkSl_i (B := w.heap.size) (e := e) ⟨hte, by rw [hi]; simp [hsz, hby, hzi]⟩ hz1 (Nat.le_refl _) hbytes h63 fun s w' ho he h1 h2 h3 h4 => hc s w' (h.new he (F' := fun k => s.blk = some k) ⟨fun _ => Iff.rfl, ?_⟩ fun k hk => ?_) h1
  · refine ⟨by simp [h1], ho.cap, ho.max, ho.one, ho.row.imp id ?_⟩
    rintro ⟨g, off, cs, e1, e2, e3, e4, e5⟩
    exact ⟨g, off, cs, e1, e3, by simpa using e4, e5⟩
  · rw [h3] at hk; cases hk; exact Nat.le_refl _
def sepHP (A : List HP) : HP where
  p := sepP A
  lt := sepP_lt
  keep := sepP_keep
def exHP {α : Type} (X : α → HP) : HP where
  p F w := ∃ a, (X a).p F w
  lt := fun ⟨a, h⟩ hg => (X a).lt h hg
  keep := fun ⟨a, h⟩ hk => ⟨a, (X a).keep h hk⟩
def pureHP (p : Prop) (X : HP) : HP where
  p F w := p ∧ X.p F w
  lt := fun ⟨_, h⟩ hg => X.lt h hg
  keep := fun ⟨a, h⟩ hk => ⟨a, X.keep h hk⟩
theorem sepP_assoc : ∀ {A B : List HP} {F w}, sepP (sepHP A :: B) F w ↔ sepP (A ++ B) F w
  | [], B, F, w => by
    constructor
    · rintro ⟨F1, F2, h1, h2, _, e⟩
      exact sepP_iff (fun g => by rw [e]; exact ⟨.inr, fun h => h.elim (fun h => (h1 g h).elim) id⟩) h2
    · intro h
      exact ⟨fun _ => False, F, fun g hg => hg, h, fun g hg => hg.elim, fun g => by simp⟩
  | R :: A, B, F, w => by
    constructor
    · rintro ⟨F1, F2, ⟨G1, G2, k1, k2, kd, ke⟩, h2, hd, e⟩
      refine ⟨G1, fun g => G2 g ∨ F2 g, k1, sepP_assoc.1 ⟨G2, F2, k2, h2, fun g hg => hd g ((ke g).2 (.inr hg)), fun _ => Iff.rfl⟩, fun g hg hor => ?_, fun g => ?_⟩
      · rcases hor with h | h
        · exact kd g hg h
        · exact hd g ((ke g).2 (.inl hg)) h
      · rw [e, ke, or_assoc]
    · rintro ⟨G1, G2, k1, k2, kd, ke⟩
      obtain ⟨F1, F2, h1, h2, hd, e⟩ := sepP_assoc.2 k2
      refine ⟨fun g => G1 g ∨ F1 g, F2, ⟨G1, F1, k1, h1, fun g hg hf => kd g hg ((e g).2 (.inl hf)), fun _ => Iff.rfl⟩, h2, fun g hg hf => ?_, fun g => ?_⟩
      · rcases hg with h | h
        · exact kd g h ((e g).2 (.inr hf))
        · exact hd g h hf
      · rw [ke, e, or_assoc]
theorem St.open {A B : List HP} (h : St w0 w (sepHP A :: B)) : St w0 w (A ++ B) := ⟨h.ext, by obtain ⟨F, h1, h2⟩ := h.sep; exact ⟨F, sepP_assoc.1 h1, h2⟩⟩
theorem St.shut {A B : List HP} (h : St w0 w (A ++ B)) : St w0 w (sepHP A :: B) := ⟨h.ext, by obtain ⟨F, h1, h2⟩ := h.sep; exact ⟨F, sepP_assoc.2 h1, h2⟩⟩
theorem St.some {α : Type} {X : α → HP} (h : St w0 w (exHP X :: L)) : ∃ a, St w0 w (X a :: L) := by
  obtain ⟨h1, F, ⟨F1, F2, ⟨a, h2⟩, h4⟩, h3⟩ := h
  exact ⟨a, h1, F, ⟨F1, F2, h2, h4⟩, h3⟩
theorem St.ex {α : Type} {X : α → HP} (a : α) (h : St w0 w (X a :: L)) : St w0 w (exHP X :: L) := h.conv fun F hF => ⟨a, hF⟩
theorem St.pure {p : Prop} {X : HP} (h : St w0 w (pureHP p X :: L)) : p ∧ St w0 w (X :: L) := by
  obtain ⟨F, hF, _⟩ := h.look
  exact ⟨hF.1, h.conv fun F hF => hF.2⟩
theorem St.pur {p : Prop} {X : HP} (hp : p) (h : St w0 w (X :: L)) : St w0 w (pureHP p X :: L) := h.conv fun F hF => ⟨hp, hF⟩
theorem ints_getD {xs : List Int} {i : Nat} (h : i < xs.length) : (ints xs)[i]? = some (.int .i64 (xs.getD i 0)) := by
  simp [ints, List.getD_eq_getElem?_getD, h]
theorem ixI_h {xs : List Int} {i : Int} {c : Int → Prop} (h : St w0 w L) [a : At L (slc 1 s) (ints xs) f] (h0 : 0 ≤ i) (h1 : i < xs.length) (hc : c (xs.getD i.toNat 0)) : ixS s i 1 fun a => ldI .i64 w a c := by
  have hn : xs.length = s.n := by have := h.slen (sz := 1) (s := s) (vs := ints xs); simpa using this
  refine ixS_h h (by omega) h0 (by omega) fun g o _ hr _ => ldI_i ?_ hc
  have := hr h 0 _ (by omega) (ints_getD (i := i.toNat * 1 + 0) (by omega))
  simpa using this
theorem ixIst_h {xs : List Int} {i : Int} {x : Int} {c : World → Prop} (h : St w0 w L) [a : At L (slc 1 s) (ints xs) f] (h0 : 0 ≤ i) (h1 : i < xs.length) (hc : ∀ w', St w0 w' (f (slc 1 s (ints (xs.set i.toNat x)))) → c w') : ixS s i 1 fun a => stC w a (.int .i64 x) c := by
  have hn : xs.length = s.n := by have := h.slen (sz := 1) (s := s) (vs := ints xs); simpa using this
  refine ixS_h h (by omega) h0 (by omega) fun g o _ _ hs => ?_
  have := hs h a 0 (.int .i64 x) c (by omega) rfl fun w' h' => hc w' (by
    have e : (ints xs).set (i.toNat * 1 + 0) (.int .i64 x) = ints (xs.set i.toNat x) := by simp [ints, List.map_set]
    rwa [e] at h')
  simpa using this
theorem samec_1 {a : Addr} {v : Value} {w' : World} {c : Prop} (h : w.cell? a = some v) (h' : w'.cell? a = some v) (hc : c) : samec 1 a w w' c :=
  ⟨fun k hk => by
    have : k = 0 := by omega
    subst this
    rw [add_zero, h, h'], hc⟩
end
theorem ixR_h {w0 w : World} {L : List HP} {sz : Nat} {s : Sl} {es : List (List Value)} {e : List Value} {i : Int} {c : Addr → Prop} (hR : Rws sz w0 s es) (h : St w0 w L) (h0 : 0 ≤ i) (he : es[i.toNat]? = some e)
    (hc : ∀ p : Addr, (∀ {w' L'}, St w0 w' L' → ∀ {j v}, e[j]? = some v → w'.cell? (p.add j) = some v) → c p) : ixS s i sz c := by
  have hlen := hR.len
  have hlt := (List.getElem?_eq_some_iff.1 he).1
  refine ixR_i hR h0 (by omega) fun p e' he' hl hcell => hc p fun {w' L'} hS {j v} hv => ?_
  rw [he] at he'; cases he'
  exact hS.ext.cell (hcell j v hv)
theorem St.same {α : Type} {w0 w : World} {L : List HP} {k : α → HP} {x : α} {f : HP → List HP} (h : St w0 w L) (a : At L k x f) : St w0 w (f (k x)) := by
  obtain ⟨R, h1, h2⟩ := a.out
  exact h2 (h1 h)
theorem callF_i {orc : Oracle} {id : FuncId} {first captured args : Array Value} {w : World} {c : Value → World → Prop} {d : Dec} (e : ∀ args w c, orc (.func id) args w c = d args.toList w c) (h : d (first ++ args ++ captured).toList w c) : callF orc (.func (.func id) first captured) args w c := by
  show orc (.func id) (first ++ args ++ captured) w c
  rw [e]; exact h
end Go.Ev
namespace Go.Ev
open Go Go.RowKit
def obj (g : Nat) (o : Obj) : HP where
  p F w := (∀ k, F k ↔ k = g) ∧ w.heap[g]? = some o
  lt := fun ⟨e, h⟩ hg => by rw [(e _).1 hg]; exact (Array.getElem?_eq_some_iff.1 h).1
  keep := fun ⟨e, h⟩ hk => ⟨e, (hk _ ((e _).2 rfl)).trans h⟩
def mks (ds : List Nat) : HP where
  p F w := ds.Nodup ∧ (∀ k, F k ↔ k ∈ ds) ∧ ∀ D ∈ ds, w.heap[D]? = some (.deferred (some []))
  lt := fun ⟨_, e, h⟩ hg => (Array.getElem?_eq_some_iff.1 (h _ ((e _).1 hg))).1
  keep := fun ⟨n, e, h⟩ hk => ⟨n, e, fun D hD => (hk _ ((e _).2 hD)).trans (h D hD)⟩
theorem putObj_only (w : World) (g : Nat) (o : Obj) : Only (fun k => k = g) w (w.putObj g o) :=
  ⟨rfl, rfl, rfl, by simp [World.putObj], fun k _ hn => World.putObj_heap_other hn⟩
theorem alloc_ext (w : World) (o : Obj) : Ext w (w.alloc o) :=
  ⟨rfl, rfl, rfl, by show w.heap.size ≤ (w.heap.push o).size; simp, fun k hk _ => by show (w.heap.push o)[k]? = _; rw [Array.getElem?_push_lt hk]; simp [hk]⟩
section
variable {w0 w : World} {L : List HP} {g : Nat} {f : HP → List HP}
theorem obj_at {o : Obj} (h : St w0 w L) [a : At L (Ev.obj g) o f] : w.heap[g]? = some o := by
  obtain ⟨F, h1, _⟩ := h.look' a
  exact h1.2
theorem putObj_h {o : Obj} (o' : Obj) (h : St w0 w L) [a : At L (Ev.obj g) o f] : St w0 (w.putObj g o') (f (Ev.obj g o')) := by
  have hlt := (Array.getElem?_eq_some_iff.1 (obj_at (g := g) (o := o) h)).1
  exact h.turn' a fun F1 hF => ⟨(putObj_only w g o').mono fun k _ hk => (hF.1 k).2 hk, fun k => k = g, ⟨fun _ => Iff.rfl, World.putObj_heap_same hlt⟩, fun k hk => .inl ((hF.1 k).2 hk)⟩
theorem alloc_h (o : Obj) (h : St w0 w L) : St w0 (w.alloc o) (Ev.obj w.heap.size o :: L) :=
  h.new (alloc_ext w o) (F' := fun k => k = w.heap.size) ⟨fun _ => Iff.rfl, World.alloc_heap_new w o⟩ fun k hk => Nat.le_of_eq hk.symm
theorem mks_nil (h : St w0 w L) : St w0 w (mks [] :: L) :=
  h.new (.refl _ _) (F' := fun _ => False) ⟨.nil, fun k => by simp, fun D hD => by cases hD⟩ fun _ h => h.elim
theorem mks_cons {D : Nat} {ds : List Nat} (h : St w0 w (Ev.obj D (.deferred (some [])) :: mks ds :: L)) : St w0 w (mks (D :: ds) :: L) := by
  obtain ⟨h1, F, ⟨F1, F2, ⟨e1, k1⟩, ⟨F3, F4, ⟨n3, e3, k3⟩, h4, d34, e34⟩, d12, e12⟩, h3⟩ := h
  have hn : D ∉ ds := fun hD => d12 D ((e1 D).2 rfl) ((e34 D).2 (.inl ((e3 D).2 hD)))
  refine ⟨h1, F, ⟨fun k => F1 k ∨ F3 k, F4, ⟨List.nodup_cons.2 ⟨hn, n3⟩, fun k => by simp [e1, e3], fun D' hD => ?_⟩, h4, fun k hk h4k => ?_, fun k => ?_⟩, h3⟩
  · rcases List.mem_cons.1 hD with rfl | hD
    · exact k1
    · exact k3 D' hD
  · rcases hk with hk | hk
    · exact d12 k hk ((e34 k).2 (.inr h4k))
    · exact d34 k hk h4k
  · rw [e12, e34]; exact or_assoc.symm
theorem mks_uncons {D : Nat} {ds : List Nat} (h : St w0 w (mks (D :: ds) :: L)) : St w0 w (Ev.obj D (.deferred (some [])) :: mks ds :: L) := by
  obtain ⟨h1, F, ⟨F1, F4, ⟨n, e1, k1⟩, h4, d14, e14⟩, h3⟩ := h
  obtain ⟨hn, n3⟩ := List.nodup_cons.1 n
  refine ⟨h1, F, ⟨fun k => k = D, fun k => k ∈ ds ∨ F4 k, ⟨fun _ => Iff.rfl, k1 D (by simp)⟩, ⟨fun k => k ∈ ds, F4, ⟨n3, fun _ => Iff.rfl, fun D' hD => k1 D' (by simp [hD])⟩, h4, fun k hk h4k => d14 k ((e1 k).2 (by simp [hk])) h4k, fun _ => Iff.rfl⟩, fun k hk hor => ?_, fun k => ?_⟩, h3⟩
  · subst hk
    rcases hor with h | h
    · exact hn h
    · exact d14 k ((e1 k).2 (by simp)) h
  · rw [e14, e1]; simp [or_assoc]
theorem takeP_h : ∀ {ds : List Nat} {w : World} {c : World → Prop}, St w0 w (mks ds :: L) → (∀ w', St w0 w' L → c w') → takeP ds w c
  | [], w, c, h, hc => hc w h.drop
  | D :: ds, w, c, h, hc => by
    have h := mks_uncons h
    refine ⟨obj_at h, takeP_h (St.drop (R := Ev.obj D (.deferred none)) (putObj_h (g := D) (o := .deferred (some [])) (f := fun X => X :: mks ds :: L) (.deferred none) h)) hc⟩
def rY (l : Nat) (R : LoopState → Obj) (kk : List K) (body : KT kk → World → (World → Prop) → Prop) : Nat → Dec := fun n args w1 c =>
  n = l ∧ w1.heap[l]? = some (R .ready) ∧ unL kk args fun y => body y (w1.putObj l (R .busy)) fun w4 => w4.heap[l]? = some (R .busy) ∧ c (.bool true) (w4.putObj l (R .ready))
theorem rangeF_h {I : OrcI} {kk : List K} {gf : FuncId} {first lb : Array Value} {body : KT kk → World → (World → Prop) → Prop} {fin : Nat → World → Prop} (h : St w0 w L)
    (hI : ∀ (l D : Nat) (R : LoopState → Obj) (w1 : World), St w0 w1 (obj l (R .ready) :: obj D (.deferred (some [])) :: L) →
      I gf (rY l R kk body) (first.toList ++ (.func (.yield l) #[] #[] :: lb.toList)) w1 fun _ w5 => w5.heap[l]? = some (R .ready) ∧ fin D (w5.putObj l (R .exhausted))) :
    rangeF I kk (.func (.func gf) first lb) w body fin := by
  intro R hR
  have h1 := alloc_h (R .ready) (alloc_h (.deferred (some [])) h)
  have e : (w.alloc (.deferred (some []))).heap.size = w.heap.size + 1 := by show (w.heap.push _).size = _; simp
  rw [e] at h1
  exact hI _ _ R _ h1
theorem rY_h {l : Nat} {R : LoopState → Obj} {kk : List K} {body : KT kk → World → (World → Prop) → Prop} {args : List Value} {c : Value → World → Prop} (y : KT kk) (hy : ∀ c : KT kk → Prop, c y → unL kk args c)
    (h : St w0 w L) [a : At L (Ev.obj l) (R .ready) f]
    (hb : ∀ w', St w0 w' (f (Ev.obj l (R .busy))) → body y w' fun w4 => w4.heap[l]? = some (R .busy) ∧ c (.bool true) (w4.putObj l (R .ready))) : rY l R kk body l args w c :=
  ⟨rfl, obj_at h, hy _ (hb _ (putObj_h _ h))⟩
theorem rec_h {o o' : Obj} {c : World → Prop} (h : St w0 w L) [a : At L (Ev.obj g) o f] (hc : ∀ w', St w0 w' (f (Ev.obj g o')) → c w') : w.heap[g]? = some o ∧ c (w.putObj g o') :=
  ⟨obj_at h, hc _ (putObj_h _ h)⟩
theorem yield_i {l : List (Nat × Dec)} {Y : Nat → Dec} {n : Nat} {args : Array Value} {c : Value → World → Prop} (h : Y n args.toList w c) : callF (orcY l Y) (.func (.yield n) #[] #[]) args w c := by
  show Y n (#[] ++ args).toList w c
  simpa using h
end
theorem St.join {w0 w w' : World} {L M : List HP} (h : St w0 w L) (k : St w w' M) : St w0 w' (M ++ L) := by
  obtain ⟨e1, FL, hL, bL⟩ := h
  obtain ⟨e2, FM, hM, bM⟩ := k
  refine ⟨e1.trans e2, fun g => FM g ∨ FL g, sepP_assoc.1 ⟨FM, FL, hM, sepP_keep hL fun g hg => e2.block g (sepP_lt hL hg) fun h => h, fun g hg hg2 => ?_, fun _ => Iff.rfl⟩, fun g hg => ?_⟩
  · have := bM g hg; have := sepP_lt hL hg2; omega
  · have := e1.size
    rcases hg with hg | hg
    · have := bM g hg; omega
    · exact bL g hg
theorem rdFrom_c {w : World} {p : Addr} : ∀ (n i : Nat) (e : List Value), e.length = i + n → (∀ j v, e[j]? = some v → w.cell? (p.add j) = some v) → rdFrom w p i n = some (e.drop i)
  | 0, i, e, hl, _ => by rw [List.drop_eq_nil_of_le (by omega)]; rfl
  | n + 1, i, e, hl, h => by
    have hi : i < e.length := by omega
    have h1 := h i e[i] (List.getElem?_eq_getElem hi)
    have h2 := rdFrom_c n (i + 1) e (by omega) h
    rw [List.drop_eq_getElem_cons hi]
    simp [rdFrom, rd, h1, h2]
theorem ldA_c {n : Nat} {w : World} {p : Addr} {e : List Value} {c : Array Value → Prop} (hl : e.length = n) (h : ∀ j v, e[j]? = some v → w.cell? (p.add j) = some v) (hc : c e.toArray) : ldA n w p c := by
  unfold ldA
  rw [rdFrom_c n 0 e (by omega) h]
  exact hc
theorem sepP_perm {L M : List HP} (hp : L.Perm M) : ∀ {F w}, sepP L F w → sepP M F w := by
  induction hp with
  | nil => exact id
  | cons x _ ih => rintro F w ⟨F1, F2, h1, h2, h3, h4⟩; exact ⟨F1, F2, h1, ih h2, h3, h4⟩
  | swap x y l => exact fun h => sepP_swap h
  | trans _ _ ih1 ih2 => exact fun h => ih2 (ih1 h)
theorem St.perm {w0 w : World} {L M : List HP} (h : St w0 w L) (hp : L.Perm M) : St w0 w M := ⟨h.ext, by obtain ⟨F, h1, h2⟩ := h.sep; exact ⟨F, sepP_perm hp h1, h2⟩⟩
theorem perm_front : ∀ {L : List HP} {n : Nat} {X : HP}, L[n]? = some X → L.Perm (X :: L.eraseIdx n)
  | [], n, X, h => by simp at h
  | R :: L, 0, X, h => by simp at h; subst h; exact .refl _
  | R :: L, n + 1, X, h => ((perm_front (L := L) (n := n) (by simpa using h)).cons R).trans (.swap _ _ _)
theorem perm_f (n : Nat) {L M : List HP} {X : HP} (e : L[n]? = some X) (h : (L.eraseIdx n).Perm M) : L.Perm (X :: M) := by
  have := perm_front e
  exact this.trans (h.cons X)
end Go.Ev
namespace Go.Ev
open Go Go.RowKit
structure FnR where
  needs : Int
  sl : Sl
  code : List (List Int)
structure ProgT (P : Program) (ti tc tf ts tp tn : TypeId) : Prop where
  i : ∃ fs, P.underlying ti = some (.struct fs)
  iflat : flatB P 4 ti = true
  ic : P.cellsOf ti = 5
  ib : P.bytesOf ti = 40
  c : P.underlying tc = some (.slice ti)
  f : ∃ f0 f1 : Field, P.underlying tf = some (.struct #[f0, f1]) ∧ f0.type = tn ∧ f0.offset = 0 ∧ f1.type = tc ∧ f1.offset = 1
  n : P.underlying tn = some (.int .i64)
  nc : P.cellsOf tn = 1
  cc : P.cellsOf tc = 1
  fc : P.cellsOf tf = 2
  fb : P.bytesOf tf = 32
  s : P.underlying ts = some (.slice tf)
  sc : P.cellsOf ts = 1
  p : ∃ f0 : Field, P.underlying tp = some (.struct #[f0]) ∧ f0.type = ts ∧ f0.offset = 0
  pc : P.cellsOf tp = 1
section
variable {P : Program} {w : World} {ti tc tf ts tp tn : TypeId}
structure Code5 (w : World) (s : Sl) (l : List (List Int)) : Prop where
  rws : Rws 5 w s (l.map Go.Ev.ints)
  five : ∀ i ∈ l, i.length = 5 ∧ ∀ y ∈ i, InI y
  few : l.length * 40 ≤ reachBytes
theorem Code5.len {s : Sl} {l : List (List Int)} (h : Code5 w s l) : s.n = l.length := by have := h.rws.len; simp at this; omega
theorem Code5.ext {w' : World} {s : Sl} {l : List (List Int)} (h : Code5 w s l) (he : Ext w w') : Code5 w' s l := ⟨h.rws.ext he, h.five, h.few⟩
theorem Rdd.code (T : ProgT P ti tc tf ts tp tn) {cs : List Value} (h : Rdd P w tc cs) : ∃ (s : Sl) (l : List (List Int)), cs = [.slice s.a s.n s.c] ∧ Code5 w s l := by
  obtain ⟨s, es, rfl, hr, hb, h1, h2, hall⟩ := h.slice T.c
  obtain ⟨fs, hti⟩ := T.i
  obtain ⟨l, rfl, hl⟩ := exists_map (f := Go.Ev.ints) (G := fun i : List Int => i.length = 5 ∧ ∀ y ∈ i, InI y) (es := es) fun e he => by
    obtain ⟨xs, hx, hI⟩ := exists_map ((hall e he).flat T.iflat)
    refine ⟨xs, hx, ?_, hI⟩
    have := (hall e he).len (.inr ⟨fs, hti⟩)
    rw [hx, T.ic] at this; simpa using this
  rw [T.ic] at hr
  refine ⟨s, l, rfl, hr, hl, ?_⟩
  rw [T.ib] at hb; simpa using hb
def FnR.cells (x : FnR) : List Value := [.int .i64 x.needs, .slice x.sl.a x.sl.n x.sl.c]
structure Funcs5 (w : World) (s : Sl) (l : List FnR) : Prop where
  rws : Rws 2 w s (l.map FnR.cells)
  code : ∀ x ∈ l, InI x.needs ∧ Code5 w x.sl x.code
  few : l.length * 32 ≤ reachBytes
theorem Funcs5.len {s : Sl} {l : List FnR} (h : Funcs5 w s l) : s.n = l.length := by have := h.rws.len; simp at this; omega
theorem Funcs5.ext {w' : World} {s : Sl} {l : List FnR} (h : Funcs5 w s l) (he : Ext w w') : Funcs5 w' s l := ⟨h.rws.ext he, fun x hx => ⟨(h.code x hx).1, (h.code x hx).2.ext he⟩, h.few⟩
theorem Rdd.func (T : ProgT P ti tc tf ts tp tn) {cs : List Value} (h : Rdd P w tf cs) : ∃ x : FnR, cs = x.cells ∧ InI x.needs ∧ Code5 w x.sl x.code := by
  obtain ⟨f0, f1, hf, e1, e2, e3, e4⟩ := T.f
  obtain ⟨hl, hall⟩ := h.struct hf
  have h0 := hall 0 f0 (by simp)
  have h1 := hall 1 f1 (by simp)
  rw [e1, e2, T.nc] at h0
  rw [e3, e4, T.cc] at h1
  obtain ⟨n, hn, hI⟩ := h0.int T.n
  obtain ⟨s, l, hs, hc⟩ := h1.code T
  refine ⟨⟨n, s, l⟩, ?_, hI, hc⟩
  have hlen : cs.length = 2 := by rw [hl, T.fc]
  match cs, hlen with
  | [a, b], _ => simp at hn hs; simp [FnR.cells, hn, hs]
theorem Rdd.funcs (T : ProgT P ti tc tf ts tp tn) {cs : List Value} (h : Rdd P w ts cs) : ∃ (s : Sl) (l : List FnR), cs = [.slice s.a s.n s.c] ∧ Funcs5 w s l := by
  obtain ⟨s, es, rfl, hr, hb, h1, h2, hall⟩ := h.slice T.s
  obtain ⟨l, rfl, hl⟩ := exists_map (f := FnR.cells) (G := fun x => InI x.needs ∧ Code5 w x.sl x.code) (es := es) fun e he => (hall e he).func T
  rw [T.fc] at hr
  rw [T.fb] at hb
  exact ⟨s, l, rfl, hr, hl, by simpa using hb⟩
theorem Rdd.program (T : ProgT P ti tc tf ts tp tn) {cs : List Value} (h : Rdd P w tp cs) : ∃ (s : Sl) (l : List FnR), cs = [.slice s.a s.n s.c] ∧ Funcs5 w s l := by
  obtain ⟨f0, hf, e1, e2⟩ := T.p
  obtain ⟨hl, hall⟩ := h.struct hf
  have h0 := hall 0 f0 (by simp)
  rw [e1, e2, T.sc] at h0
  have hlen : cs.length = 1 := by rw [hl, T.pc]
  match cs, hlen with
  | [a], _ => exact Rdd.funcs T (by simpa using h0)
theorem Arg.program (T : ProgT P ti tc tf ts tp tn) {v : Value} (h : Arg P w tp v) : ∃ (s : Sl) (l : List FnR), v = .agg #[.slice s.a s.n s.c] ∧ Funcs5 w s l := by
  obtain ⟨f0, hf, e1, e2⟩ := T.p
  obtain ⟨cs, rfl, hr⟩ := h.agg (.inr ⟨_, hf⟩)
  obtain ⟨s, l, hcs, hF⟩ := hr.program T
  refine ⟨s, l, ?_, hF⟩
  congr 1
  exact Array.ext' hcs
end
end Go.Ev
namespace Go.Proofs.YtgkfbagclkjilaaGreatDoor.Ck
open Go Go.Ev Go.Proofs
theorem elI {P : Program} {t : TypeId} (h : elInfo P t = some (1, 8, some (.int .i64 0))) : ElS P t 1 8 (.int .i64 0) := ⟨h, rfl⟩
abbrev opI (x : List Int) : Int := x.getD 0 0
def stepD (n : Int) (x : List Int) : Int := if opI x = 11 then IntKind.wrap .i64 (n + 1) else if opI x = 12 then IntKind.wrap .i64 (n - 1) else n
def depths : Int → List (List Int) → List Int
  | _, [] => []
  | n, x :: l => n :: depths (stepD n x) l
theorem depths_length : ∀ (l : List (List Int)) (n : Int), (depths n l).length = l.length
  | [], _ => rfl
  | x :: l, n => by simp [depths, depths_length l]
theorem ixC {w : World} {s : Sl} {l : List (List Int)} {dn rest : List (List Int)} {x : List Int} {i : Int} {c : Addr → Prop} (h : Code5 w s l) (hl : l = dn ++ x :: rest) (hi : i = (dn.length : Int))
    (hc : ∀ p, x.length = 5 → (∀ j v, (Go.Ev.ints x)[j]? = some v → w.cell? (p.add j) = some v) → c p) : ixS s i 5 c := by
  have hn := h.len.symm
  subst hi
  refine ixR_i h.rws (by omega) (by rw [← hn, hl]; simp; omega) fun p e he hle hcell => ?_
  rw [Int.toNat_natCast, hl] at he
  simp at he
  subst he
  exact hc p ((h.five x (by rw [hl]; simp)).1) hcell
theorem ints_get {x : List Int} {j : Nat} (h : j < x.length) : (Go.Ev.ints x)[j]? = some (.int .i64 (x.getD j 0)) := by
  simp [Go.Ev.ints, h]
theorem depths_s {w : World} {s : Sl} {l : List (List Int)} {k : Sl → World → Prop} (hr : Code5 w s l) (hb : 8 * l.length ≤ 281474976710656)
    (hc : ∀ s' w', St w w' [slc 1 s' (Go.Ev.ints (depths 0 l))] → s'.n = l.length → k s' w') : check_Depths s w k := by
  have hl := hr.len.symm
  unfold check_Depths
  refine mkSl_h (n := s.n) (.nil w) (elI (by kernel_rfl)) rfl (by omega) (by omega) fun s1 w2 h n1 => ?_
  refine loopP_of (fun (x : Int × Int) w' => ∃ dn rest acc n, l = dn ++ rest ∧ x = (n, (dn.length : Int)) ∧ depths 0 l = acc ++ depths n rest ∧ acc.length = dn.length ∧ St w w' [slc 1 s1 (Go.Ev.ints acc ++ List.replicate rest.length (.int .i64 0))])
    (fun x _ => ((s.n : Int) - x.2).toNat) ⟨[], l, [], 0, rfl, rfl, rfl, rfl, by simpa [hl, Go.Ev.ints] using h⟩ ?_
  rintro x w5 ⟨dn, rest, acc, n, hlr, rfl, hd, ha, h⟩ C hC
  cases rest with
  | nil =>
    refine iteB_f (by simp only [decide_eq_false_iff_not]; rw [← hl, hlr]; simp) ?_
    refine hc s1 w5 ?_ (n1.trans hl.symm)
    simp [depths] at hd
    rw [hd]; simpa using h
  | cons x rest =>
    have hlen : l.length = dn.length + (rest.length + 1) := by rw [hlr]; simp
    refine iteB_t (by simp only [decide_eq_true_eq]; omega) ?_
    refine ixC (hr.ext h.ext) hlr rfl fun p h5 hcell => ldA_c (by simp [Go.Ev.ints, h5]) hcell ?_
    refine newC_h h fun g w9 h => ?_
    refine stW_h (g := g) h rfl (by simp [Go.Ev.ints, h5]) (by simp [Go.Ev.ints, Value.oneCell']) fun w10 h => ?_
    refine ixS_h (s := s1) (vs := Go.Ev.ints acc ++ List.replicate (rest.length + 1) (.int .i64 0)) h (by omega) (by omega) (by omega) fun g1 o hg1 hrd hwr => ?_
    refine hwr h inferInstance 0 _ _ (by omega) rfl fun w12 h => ?_
    refine ldI_h (g := g) (o := 0) h (by rw [ints_get (by omega)]) ?_
    have hw1 : IntKind.wrap .i64 ((dn.length : Int) + 1) = ((dn ++ [x]).length : Int) := by rw [wrap_id ⟨by omega, by omega⟩]; simp
    have hset : (Go.Ev.ints acc ++ List.replicate (rest.length + 1) (Value.int .i64 0)).set ((dn.length : Int).toNat * 1 + 0) (Value.int .i64 n) = Go.Ev.ints (acc ++ [n]) ++ List.replicate rest.length (Value.int .i64 0) := by
      have e : (dn.length : Int).toNat * 1 + 0 = (Go.Ev.ints acc).length + 0 := by simp [Go.Ev.ints, ha]
      rw [e, List.set_append_right (h := by omega), Nat.add_sub_cancel_left]
      simp [Go.Ev.ints, List.replicate_succ]
    have h : St w w12 [blk g (Go.Ev.ints x).toArray.toList, slc 1 s1 (Go.Ev.ints (acc ++ [n]) ++ List.replicate rest.length (Value.int .i64 0))] := by rw [← hset]; exact h
    have hgo : ∀ n', n' = stepD n x → C (n', IntKind.wrap .i64 ((dn.length : Int) + 1)) w12 := by
      rintro n' rfl
      rw [hw1]
      refine hC _ _ ⟨dn ++ [x], rest, acc ++ [n], stepD n x, by simp [hlr], rfl, by rw [hd]; simp [depths], by simp [ha], ?_⟩ ?_
      · exact h.drop
      · simp; omega
    unfold stepD at hgo
    refine iteB_i (fun hb => ?_) fun hb => ?_
    · simp only [beq_iff_eq] at hb
      exact hgo _ (by rw [if_pos hb])
    · have hb' : ¬ opI x = 11 := by simpa using hb
      refine iteB_i (fun hb2 => ?_) fun hb2 => ?_
      · have hb2' : opI x = 12 := by simpa using hb2
        exact hgo _ (by rw [if_neg hb', if_pos hb2'])
      · have hb2' : ¬ opI x = 12 := by simpa using hb2
        exact hgo _ (by rw [if_neg hb', if_neg hb2'])
end Go.Proofs.YtgkfbagclkjilaaGreatDoor.Ck
namespace Go.Proofs.YtgkfbagclkjilaaGreatDoor.Ck
open Go Go.Ev Go.Proofs
structure Fl where
  held : List Int
  come : List Bool
  todo : List Int
def bls (l : List Bool) : List Value := l.map Value.bool
def Fl.now (F : Fl) (i hv : Int) : Int := andI .i64 (F.held.getD i.toNat 0) hv
def Fl.stay (F : Fl) (i hv : Int) : Bool := F.come.getD i.toNat false && (F.now i hv == F.held.getD i.toNat 0)
def Fl.meet (F : Fl) (i hv : Int) : Fl := if F.stay i hv then F else { held := F.held.set i.toNat (F.now i hv), come := F.come.set i.toNat true, todo := F.todo ++ [i] }
def flowP (g : Nat) (code : Sl) (F : Fl) (p : Sl × Sl × Sl) : List HP :=
  [blk g [.slice code.a code.n code.c, .slice p.1.a p.1.n p.1.c, .slice p.2.1.a p.2.1.n p.2.1.c, .slice p.2.2.a p.2.2.n p.2.2.c], slc 1 p.1 (ints F.held), slc 1 p.2.1 (bls F.come), slc 1 p.2.2 (ints F.todo)]
def flow (g : Nat) (x : Sl × Fl) : HP := exHP fun p => sepHP (flowP g x.1 x.2 p)
section
variable {w0 w : World} {L : List HP} {g : Nat} {code : Sl} {F : Fl}
theorem flow_open {R : List HP} (h : St w0 w (flow g (code, F) :: R)) : ∃ s1 s2 s3 : Sl, St w0 w (blk g [.slice code.a code.n code.c, .slice s1.a s1.n s1.c, .slice s2.a s2.n s2.c, .slice s3.a s3.n s3.c] :: slc 1 s1 (ints F.held) :: slc 1 s2 (bls F.come) :: slc 1 s3 (ints F.todo) :: R) := by
  obtain ⟨p, h⟩ := h.some
  exact ⟨p.1, p.2.1, p.2.2, h.open⟩
theorem flow_shut {R : List HP} {s1 s2 s3 : Sl} (h : St w0 w (blk g [.slice code.a code.n code.c, .slice s1.a s1.n s1.c, .slice s2.a s2.n s2.c, .slice s3.a s3.n s3.c] :: slc 1 s1 (ints F.held) :: slc 1 s2 (bls F.come) :: slc 1 s3 (ints F.todo) :: R)) : St w0 w (flow g (code, F) :: R) :=
  St.ex (X := fun p => sepHP (flowP g code F p)) (s1, s2, s3) (St.shut h)
theorem bls_get {l : List Bool} {i : Nat} (h : i < l.length) : (bls l)[i]? = some (.bool (l.getD i false)) := by simp [bls, h]
theorem ixBl_h {s : Sl} {xs : List Bool} {i : Int} {f : HP → List HP} {c : Bool → Prop} (h : St w0 w L) [a : At L (slc 1 s) (bls xs) f] (h0 : 0 ≤ i) (h1 : i < xs.length) (hc : c (xs.getD i.toNat false)) : ixS s i 1 fun a => ldB w a c := by
  have hn : xs.length = s.n := by have := h.slen (sz := 1) (s := s) (vs := bls xs); simpa [bls] using this
  refine ixS_h h (by omega) h0 (by omega) fun g o _ hr _ => ldB_i ?_ hc
  have := hr h 0 _ (by omega) (bls_get (i := i.toNat * 1 + 0) (by omega))
  simpa using this
theorem ixBlst_h {s : Sl} {xs : List Bool} {i : Int} {x : Bool} {f : HP → List HP} {c : World → Prop} (h : St w0 w L) [a : At L (slc 1 s) (bls xs) f] (h0 : 0 ≤ i) (h1 : i < xs.length) (hc : ∀ w', St w0 w' (f (slc 1 s (bls (xs.set i.toNat x)))) → c w') : ixS s i 1 fun a => stC w a (.bool x) c := by
  have hn : xs.length = s.n := by have := h.slen (sz := 1) (s := s) (vs := bls xs); simpa [bls] using this
  refine ixS_h h (by omega) h0 (by omega) fun g o _ _ hs => ?_
  have := hs h a 0 (.bool x) c (by omega) rfl fun w' h' => hc w' (by
    have e : (bls xs).set (i.toNat * 1 + 0) (.bool x) = bls (xs.set i.toNat x) := by simp [bls, List.map_set]
    rwa [e] at h')
  simpa using this
theorem meet_s {i hv : Int} {f : HP → List HP} {k : Unit → World → Prop} (h : St w0 w L) [a : At L (flow g) (code, F) f] (h0 : 0 ≤ i) (h1 : i < F.held.length) (hl : F.come.length = F.held.length) (hb : (F.todo.length + 1) * 8 ≤ 140737488355328)
    (hc : ∀ w', St w0 w' (f (flow g (code, F.meet i hv))) → k () w') : check_flow_meet (some ⟨g, 0, none⟩) i hv w k := by
  obtain ⟨R, ho, hcl⟩ := a.out
  obtain ⟨s1, s2, s3, hS⟩ := flow_open (ho h)
  unfold check_flow_meet
  refine nn_i (ldS_h (o := 1) hS rfl (ixI_h (s := s1) (xs := F.held) hS h0 h1 ?_))
  have fin : ∀ b, b = F.stay i hv → iteB b (k () w) (
    drew w fun w16 => nn (some ⟨g, 0, none⟩) fun a17 => ldS w16 (Addr.add a17 2) fun s18 => nn (some ⟨g, 0, none⟩) fun a19 => ldS w16 (Addr.add a19 1) fun s20 =>
    ixS s18 i 1 fun a21 => stC w16 a21 (.bool true) fun w22 => ixS s20 i 1 fun a23 => stC w22 a23 (.int .i64 (andI .i64 (F.held.getD i.toNat 0) hv)) fun w24 =>
    nn (some ⟨g, 0, none⟩) fun a25 => ldS w24 (Addr.add a25 3) fun s26 => newC w24 #[(.int .i64 i)] 3 fun a27 w28 =>
    bApp Go.Proofs.Tryz.prog #[96, 96] 96 [(.slice s26.a s26.n s26.c), (.slice (some a27) 1 1)] w28 fun s29 w30 =>
    nn (some ⟨g, 0, none⟩) fun a31 => stC w30 (Addr.add a31 3) (.slice s29.a s29.n s29.c) fun w32 => k () w32) := by
    rintro b rfl
    refine iteB_i (fun hst => ?_) fun hst => ?_
    · have e : F.meet i hv = F := by unfold Fl.meet; rw [if_pos hst]
      have := hc w
      rw [e] at this
      exact this (hcl (ho h))
    · have e : F.meet i hv = { held := F.held.set i.toNat (F.now i hv), come := F.come.set i.toNat true, todo := F.todo ++ [i] } := by unfold Fl.meet; rw [if_neg (by simp [hst])]
      rw [e] at hc
      refine drew_h hS fun w16 hS => nn_i (ldS_h (o := 2) hS rfl (nn_i (ldS_h (o := 1) hS rfl ?_)))
      refine ixBlst_h (s := s2) (xs := F.come) hS h0 (by omega) fun w22 hS => ?_
      refine ixIst_h (s := s1) (xs := F.held) hS h0 h1 fun w24 hS => nn_i (ldS_h (o := 3) hS rfl ?_)
      have hn3 : F.todo.length = s3.n := by have := hS.slen (sz := 1) (s := s3) (vs := ints F.todo); simpa using this
      refine newC_h hS fun gn w28 hS => ?_
      refine bApp_h (s := s3) (vs := ints F.todo) (x := ⟨some ⟨gn, 0, none⟩, 1, 1⟩) (ys := [.int .i64 i]) hS (elI (by kernel_rfl)) (by kernel_rfl) (blk_sls (n := 1) (l := [.int .i64 i]) hS.blk rfl 1) (by simp [Value.oneCell']) (by simp only; omega) (by simp only; omega) fun s6 w7 hS n6 => ?_
      have hS := hS.drop
      refine nn_i (stC_h (g := g) (o := 3) hS rfl (by simp) fun w32 hS => hc w32 (hcl (flow_shut (s1 := s1) (s2 := s2) (s3 := s6) ?_)))
      simpa [ints, Fl.now] using hS
  unfold joinP
  refine nn_i (ldS_h (o := 2) hS rfl (ixBl_h (s := s2) (xs := F.come) hS h0 (by omega) ?_))
  refine iteB_i (fun hcm => ?_) fun hcm => ?_
  · refine nn_i (ldS_h (o := 1) hS rfl (ixI_h (s := s1) (xs := F.held) hS h0 h1 ?_))
    exact fin _ (by unfold Fl.stay Fl.now; rw [hcm, Bool.true_and])
  · exact fin _ (by unfold Fl.stay; rw [hcm, Bool.false_and])
end
end Go.Proofs.YtgkfbagclkjilaaGreatDoor.Ck
namespace Go.Proofs.YtgkfbagclkjilaaGreatDoor.Ck
open Go Go.Ev Go.Proofs
theorem elB {P : Program} {t : TypeId} (h : elInfo P t = some (1, 1, some (.bool false))) : ElS P t 1 1 (.bool false) := ⟨h, rfl⟩
def Fl.start (n : Nat) : Fl := ⟨List.replicate n 0, List.replicate n false, []⟩
theorem ints_rep (n : Nat) : List.replicate n (Value.int .i64 0) = ints (List.replicate n 0) := by simp [ints]
theorem bls_rep (n : Nat) : List.replicate n (Value.bool false) = bls (List.replicate n false) := by simp [bls]
end Go.Proofs.YtgkfbagclkjilaaGreatDoor.Ck
namespace Go.Proofs.YtgkfbagclkjilaaGreatDoor.Ck
open Go Go.Ev Go.Proofs
def isGoes (x : List Int) : Bool := (opI x == 6) || (opI x == 7)
def isEnds (x : List Int) : Bool := (opI x == 16) || (opI x == 15)
def yA (n : Nat) (x : List Int) : Bool := isGoes x && decide (0 ≤ x.getD 4 0 ∧ x.getD 4 0 < n)
def yB (n : Nat) (i : Int) (x : List Int) : Bool := (opI x != 6) && !isEnds x && decide (IntKind.wrap .i64 (i + 1) < n)
def behind (n : Nat) (i : Int) (x : List Int) : List Int := (if yA n x then [x.getD 4 0] else []) ++ (if yB n i x then [IntKind.wrap .i64 (i + 1)] else [])
theorem behind_s {w0 w : World} {Lk : List Int → List HP} {code : Sl} {l : List (List Int)} {i : Int} {x : List Int} {ca ci : Addr} {lo : Nat} {Y : Nat → Dec} {k : Unit → World → Prop}
    (h : St w0 w (Lk [])) (hi0 : 0 ≤ i) (hx : l[i.toNat]? = some x)
    (hcell : ∀ {w ks}, St w0 w (Lk ks) → w.cell? ca = some (.slice code.a code.n code.c) ∧ w.cell? ci = some (.int .i64 i) ∧ Code5 w code l)
    (hy : ∀ {B : HP} {ks : List Int} {z : Int} {w : World} {c : Value → World → Prop}, St w0 w (B :: Lk ks) → ks ++ [z] <+: behind code.n i x → (∀ w', St w0 w' (B :: Lk (ks ++ [z])) → c (.bool true) w') → Y lo [.int .i64 z] w c)
    (hc : ∀ w', St w0 w' (Lk (behind code.n i x)) → k () w') : check_behind_1 Y (.func (.yield lo) #[] #[]) ca ci w k := by
  unfold check_behind_1 check_behind_1_b
  obtain ⟨hs, hi, hcd⟩ := hcell h
  have hil : i.toNat < l.length := (List.getElem?_eq_some_iff.1 hx).1
  have hn := hcd.len
  have hsplit : l = l.take i.toNat ++ x :: l.drop (i.toNat + 1) := by
    obtain ⟨_, e⟩ := List.getElem?_eq_some_iff.1 hx
    rw [← e, List.getElem_cons_drop, List.take_append_drop]
  refine ldS_i (s := code) hs (ldI_i hi (ixC hcd hsplit (by simp; omega) fun p h5 hp => ldA_c (by simp [Go.Ev.ints, h5]) hp ?_))
  refine newC_h h fun g w6 h => ?_
  refine stW_h (g := g) h rfl (by simp [Go.Ev.ints, h5]) (by simp [Go.Ev.ints, Value.oneCell']) fun w7 h => ?_
  have ld : ∀ {w : World} {L : List HP} {o : Nat} {c : Int → Prop}, St w0 w (blk g (Go.Ev.ints x).toArray.toList :: L) → o < 5 → c (x.getD o 0) → ldI .i64 w (Addr.add ⟨g, 0, none⟩ o) c := by
    intro w L o c h ho hc
    have := ldI_h (g := g) (o := o) (k := .i64) (n := x.getD o 0) (c := c) h (by simpa using ints_get (x := x) (j := o) (by omega)) hc
    rw [add_mk, Nat.zero_add]; exact this
  -- the second part
  have part2 : ∀ w20, St w0 w20 (blk g (Go.Ev.ints x).toArray.toList :: Lk (if yA code.n x then [x.getD 4 0] else [])) → iteB false (k () w20) (joinP (S := Bool) (fun J21 =>
      ldI .i64 w20 (Addr.add ⟨g, 0, none⟩ 0) fun i22 =>
      iteB (i22 != (6 : Int)) (
        ldI .i64 w20 (Addr.add ⟨g, 0, none⟩ 0) fun i23 =>
        check_ends i23 w20 fun b24 w25 =>
        iteB (!b24) (
          ldI .i64 w25 ci fun i26 =>
          ldS w25 ca fun s27 =>
          (J21 (decide ((IntKind.wrap .i64 (i26 + (1 : Int))) < ((s27.n : Nat) : Int))) w25)) (
          (J21 false w25))) (
        (J21 false w20))) fun b28 w29 =>
    iteB b28 (
      ldI .i64 w29 ci fun i30 =>
      callF (orcY [(n_check_goes, (fun args w c => unL [(.i .i64)] args fun x => check_goes x w fun r w => c (packV (valL [.b] r)) w)), (n_check_ends, (fun args w c => unL [(.i .i64)] args fun x => check_ends x w fun r w => c (packV (valL [.b] r)) w))] Y) (.func (.yield lo) #[] #[]) #[(.int .i64 (IntKind.wrap .i64 (i30 + (1 : Int))))] w29 fun v31 w32 =>
      toB v31 fun b33 =>
      (k () w32)) (
      (k () w29))) := by
    intro w20 h
    refine iteB_f rfl ?_
    unfold joinP
    obtain ⟨hs, hi, _⟩ := hcell h.drop
    have last : ∀ b, b = yB code.n i x → iteB b (
        ldI .i64 w20 ci fun i30 =>
        callF (orcY [(n_check_goes, (fun args w c => unL [(.i .i64)] args fun x => check_goes x w fun r w => c (packV (valL [.b] r)) w)), (n_check_ends, (fun args w c => unL [(.i .i64)] args fun x => check_ends x w fun r w => c (packV (valL [.b] r)) w))] Y) (.func (.yield lo) #[] #[]) #[(.int .i64 (IntKind.wrap .i64 (i30 + (1 : Int))))] w20 fun v31 w32 =>
        toB v31 fun b33 => (k () w32)) (k () w20) := by
      rintro b rfl
      refine iteB_i (fun hb => ?_) fun hb => ?_
      · refine ldI_i hi (yield_i (hy h ?_ fun w' h => hc w' ?_))
        · unfold behind; rw [if_pos hb]; exact List.prefix_refl _
        · have := h.drop
          unfold behind; rw [if_pos hb]; exact this
      · refine hc w20 ?_
        have e : behind code.n i x = if yA code.n x then [x.getD 4 0] else [] := by unfold behind; rw [hb]; simp
        rw [e]; exact h.drop
    refine ld h (by omega) ?_
    refine iteB_i (fun h6 => ?_) fun h6 => ?_
    · refine ld h (by omega) ?_
      show iteB _ _ _
      refine iteB_i (fun he => ?_) fun he => ?_
      · refine ldI_i hi (ldS_i (s := code) hs (last _ ?_))
        have he' : isEnds x = false := by simpa [isEnds] using he
        have h6' : (opI x != 6) = true := h6
        unfold yB; rw [h6', he']; simp
      · refine last _ ?_
        have he' : isEnds x = true := by
          cases hE : isEnds x with
          | true => rfl
          | false => exact absurd he (by unfold isEnds at hE; simp only [opI] at hE; rw [hE]; simp)
        unfold yB; rw [he']; simp
    · refine last _ ?_
      have h6' : (opI x != 6) = false := h6
      unfold yB; rw [h6']; simp
  unfold joinP
  refine ld h (by omega) ?_
  show iteB _ _ _
  refine iteB_i (fun hg => ?_) fun hg => ?_
  · have hg' : isGoes x = true := hg
    refine ld h (by omega) ?_
    refine iteB_i (fun h4 => ?_) fun h4 => ?_
    · simp only [decide_eq_true_eq] at h4
      obtain ⟨hs, _, _⟩ := hcell h.drop
      refine ld h (by omega) (ldS_i (s := code) hs ?_)
      refine iteB_i (fun h5' => ?_) fun h5' => ?_
      · simp only [decide_eq_true_eq] at h5'
        have hA : yA code.n x = true := by unfold yA; rw [hg', decide_eq_true ⟨h4, h5'⟩]; rfl
        refine ld h (by omega) (yield_i (hy h ?_ fun w' h => ?_))
        · unfold behind; rw [if_pos hA]; exact List.prefix_append _ _
        · refine part2 w' ?_
          rw [if_pos hA]; exact h
      · simp only [decide_eq_false_iff_not] at h5'
        have hA : yA code.n x = false := by unfold yA; rw [hg', decide_eq_false (fun h => h5' h.2)]; rfl
        refine part2 w7 ?_
        rw [hA]; exact h
    · simp only [decide_eq_false_iff_not] at h4
      have hA : yA code.n x = false := by unfold yA; rw [hg', decide_eq_false (fun h => h4 h.1)]; rfl
      refine part2 w7 ?_
      rw [hA]; exact h
  · have hg' : isGoes x = false := hg
    have hA : yA code.n x = false := by unfold yA; rw [hg']; rfl
    refine part2 w7 ?_
    rw [hA]; exact h
end Go.Proofs.YtgkfbagclkjilaaGreatDoor.Ck
namespace Go.Proofs.YtgkfbagclkjilaaGreatDoor.Ck
open Go Go.Ev Go.Proofs
theorem bv_s {m : Nat} (h : m < 2 ^ 63) : (bv (m : Int)).toNat = m := by
  rw [BitVec.toNat_ofInt]; omega
theorem toInt_s {b : BitVec 64} (h : b.toNat < 2 ^ 63) : b.toInt = b.toNat := by
  rw [BitVec.toInt_eq_toNat_cond]; split <;> omega
theorem and_le {a b : Int} (h0 : 0 ≤ a) (h1 : a ≤ 255) : 0 ≤ andI .i64 a b ∧ andI .i64 a b ≤ a := by
  rw [andI_bv]
  have e : (bv a).toNat = a.toNat := by
    have := bv_s (m := a.toNat) (by omega)
    rwa [Int.toNat_of_nonneg h0] at this
  have h2 : (bv a &&& bv b).toNat ≤ a.toNat := by rw [BitVec.toNat_and, e]; exact Nat.and_le_left
  rw [toInt_s (by omega)]
  omega
def hvOf (x : List Int) (h : Int) : Int := if opI x = 8 ∧ 0 ≤ x.getD 1 0 ∧ x.getD 1 0 < 8 then orI .i64 h (shlV .i64 1 (x.getD 1 0)) else h
def Fl.meets (hv : Int) (F : Fl) (zs : List Int) : Fl := zs.foldl (fun F z => F.meet z hv) F
def Fl.step (l : List (List Int)) (F : Fl) : Fl := match F.todo with
  | [] => F
  | i :: t => Fl.meets (hvOf (l.getD i.toNat []) (F.held.getD i.toNat 0)) { F with todo := t } (behind l.length i (l.getD i.toNat []))
structure Fl.OK (n : Nat) (F : Fl) : Prop where
  held : F.held.length = n
  come : F.come.length = n
  bits : ∀ h ∈ F.held, 0 ≤ h ∧ h ≤ 255
  todo : ∀ i ∈ F.todo, 0 ≤ i ∧ i < n
def sumN (l : List Int) : Nat := (l.map Int.toNat).sum
def cntF (l : List Bool) : Nat := (l.map fun b => if b then 0 else 1).sum
def Fl.mu (F : Fl) : Nat := 3 * (sumN F.held + cntF F.come) + F.todo.length
theorem sumN_set : ∀ {l : List Int} {i : Nat} {a : Int}, i < l.length → sumN (l.set i a) + (l.getD i 0).toNat = sumN l + a.toNat
  | [], i, a, h => by simp at h
  | x :: l, 0, a, h => by simp [sumN]; omega
  | x :: l, i + 1, a, h => by
    have := sumN_set (l := l) (i := i) (a := a) (by simpa using h)
    simp [sumN] at this ⊢; omega
theorem cntF_set : ∀ {l : List Bool} {i : Nat}, i < l.length → cntF (l.set i true) + (if l.getD i false then 0 else 1) = cntF l
  | [], i, h => by simp at h
  | x :: l, 0, h => by cases x <;> simp [cntF] <;> omega
  | x :: l, i + 1, h => by
    have := cntF_set (l := l) (i := i) (by simpa using h)
    simp [cntF] at this ⊢; omega
theorem meet_ok {n : Nat} {F : Fl} {i hv : Int} (h : F.OK n) (h0 : 0 ≤ i) (h1 : i < n) : (F.meet i hv).OK n ∧ (F.meet i hv).mu ≤ F.mu := by
  unfold Fl.meet
  split
  · exact ⟨h, Nat.le_refl _⟩
  · rename_i hst
    have hi : i.toNat < F.held.length := by rw [h.held]; omega
    have hic : i.toNat < F.come.length := by rw [h.come]; omega
    have hb := h.bits (F.held.getD i.toNat 0) (by
      have e : F.held.getD i.toNat 0 = F.held[i.toNat] := by simp [hi]
      rw [e]; exact List.getElem_mem hi)
    have ha := and_le (b := hv) hb.1 hb.2
    refine ⟨⟨by simp [h.held], by simp [h.come], fun x hx => ?_, fun z hz => ?_⟩, ?_⟩
    · rcases List.mem_or_eq_of_mem_set hx with hx | rfl
      · exact h.bits x hx
      · unfold Fl.now; omega
    · rcases List.mem_append.1 hz with hz | hz
      · exact h.todo z hz
      · simp at hz; omega
    · have e1 := sumN_set (a := F.now i hv) hi
      have e2 := cntF_set hic
      simp only [Fl.mu, List.length_append, List.length_singleton]
      unfold Fl.stay at hst
      unfold Fl.now at e1 hst ⊢
      cases hcm : F.come.getD i.toNat false with
      | false => rw [hcm] at e2; simp at e2; omega
      | true =>
        rw [hcm] at hst e2
        simp only [Bool.true_and, beq_iff_eq] at hst
        simp at e2
        omega
theorem meets_ok {n : Nat} {hv : Int} : ∀ {zs : List Int} {F : Fl}, F.OK n → (∀ z ∈ zs, 0 ≤ z ∧ z < n) → (Fl.meets hv F zs).OK n ∧ (Fl.meets hv F zs).mu ≤ F.mu
  | [], F, h, _ => ⟨h, Nat.le_refl _⟩
  | z :: zs, F, h, hz => by
    have h1 := meet_ok (hv := hv) h (hz z (by simp)).1 (hz z (by simp)).2
    have h2 := meets_ok (hv := hv) (zs := zs) h1.1 fun y hy => hz y (by simp [hy])
    exact ⟨h2.1, Nat.le_trans h2.2 h1.2⟩
theorem behind_in {n : Nat} {i : Int} {x : List Int} (hn : n ≤ 4294967296) (h0 : 0 ≤ i) (h1 : i < n) : ∀ z ∈ behind n i x, 0 ≤ z ∧ z < n := by
  intro z hz
  have hw : IntKind.wrap .i64 (i + 1) = i + 1 := wrap_id ⟨by omega, by omega⟩
  unfold behind at hz
  rcases List.mem_append.1 hz with hz | hz
  · split at hz
    · rename_i hA
      simp only [List.mem_singleton] at hz; subst hz
      unfold yA at hA
      simp only [Bool.and_eq_true, decide_eq_true_eq] at hA
      exact hA.2
    · cases hz
  · split at hz
    · rename_i hB
      simp only [List.mem_singleton] at hz; subst hz
      unfold yB at hB
      simp only [Bool.and_eq_true, decide_eq_true_eq] at hB
      rw [hw] at hB ⊢
      exact ⟨by omega, hB.2⟩
    · cases hz
theorem step_ok {l : List (List Int)} {F : Fl} (hn : l.length ≤ 4294967296) (h : F.OK l.length) (ht : F.todo ≠ []) : (F.step l).OK l.length ∧ (F.step l).mu < F.mu := by
  unfold Fl.step
  split
  · rename_i e; exact (ht e).elim
  · rename_i i t e
    have hi := h.todo i (by rw [e]; simp)
    have h' : Fl.OK l.length { F with todo := t } := ⟨h.held, h.come, h.bits, fun z hz => h.todo z (by rw [e]; simp [hz])⟩
    have h2 := meets_ok (hv := hvOf (l.getD i.toNat []) (F.held.getD i.toNat 0)) h' (behind_in (x := l.getD i.toNat []) hn hi.1 hi.2)
    refine ⟨h2.1, Nat.lt_of_le_of_lt h2.2 ?_⟩
    simp only [Fl.mu, e, List.length_cons]; omega
end Go.Proofs.YtgkfbagclkjilaaGreatDoor.Ck
namespace Go.Proofs.YtgkfbagclkjilaaGreatDoor.Ck
open Go Go.Ev Go.Proofs
theorem loopP_ghost {G S : Type} {f : (S → World → Prop) → S → World → Prop} (I : G → S → World → Prop) (μ : G → Nat) {g : G} {s : S} {w : World} (h0 : I g s w)
    (h : ∀ g s w, I g s w → ∀ C : S → World → Prop, (∀ g' s' w', I g' s' w' → μ g' < μ g → C s' w') → f C s w) : loopP f s w := by
  have key : ∀ n g s w, μ g ≤ n → I g s w → iterP f (n + 1) s w := by
    intro n
    induction n with
    | zero => intro g s w hn hI; exact h g s w hI _ fun g' s' w' _ hlt => by omega
    | succ n ih => intro g s w hn hI; exact h g s w hI _ fun g' s' w' hI' hlt => ih g' s' w' (by omega) hI'
  exact ⟨_, key _ g s w (Nat.le_refl _) h0⟩
theorem meets_snoc (hv : Int) (F : Fl) (ks : List Int) (z : Int) : F.meets hv (ks ++ [z]) = (F.meets hv ks).meet z hv := by simp [Fl.meets]
theorem orcI_one {n : Nat} {d : (Nat → Dec) → Dec} {Y : Nat → Dec} {args : List Value} {w : World} {c : Value → World → Prop} (h : d Y args w c) : orcI [(n, d)] n Y args w c := by
  unfold orcI
  rw [Nat.beq_refl]
  exact h
theorem it_call {Y : Nat → Dec} {v : Value} {a b : Addr} {w : World} {c : Value → World → Prop} (h : check_behind_1 Y v a b w fun r w => c (.tuple #[]) w) : i_check_behind_1 Y [v, .pointer (some a), .pointer (some b)] w c := h
theorem pass_s {w w' : World} {g gp gh ga : Nat} {s : Sl} {F : Fl} {l : List (List Int)} {x : List Int} {i hv : Int} {nv : Value} {ds : List Nat} {C : Unit × List Nat → World → Prop}
    (hS : St w w' [blk gh [.int .i64 hv], flow g (s, F), blk gp [.pointer (some ⟨g, 0, none⟩)], mks ds, blk ga [nv, .slice s.a s.n s.c]]) (hr : Code5 w s l) (hF : F.OK l.length) (hmu : F.mu ≤ 1000000) (hn : l.length ≤ 1000) (hi0 : 0 ≤ i) (hx : l[i.toNat]? = some x)
    (hc : ∀ D w'', St w w'' [mks (D :: ds), flow g (s, F.meets hv (behind l.length i x)), blk gp [.pointer (some ⟨g, 0, none⟩)], blk ga [nv, .slice s.a s.n s.c]] → C ((), D :: ds) w'') :
    check_behind s i w' fun v149 w150 => rangeF (orcI [(n_check_behind_1, i_check_behind_1)]) [.i .i64] v149 w150 (fun (x151 : Int) w152 C153 => ldP w152 ⟨gp, 0, none⟩ fun p156 => ldI .i64 w152 ⟨gh, 0, none⟩ fun i157 => check_flow_meet p156 x151 i157 w152 fun _u w158 => C153 w158) fun D154 w155 => C ((), D154 :: ds) w155 := by
  have hil : i.toNat < l.length := (List.getElem?_eq_some_iff.1 hx).1
  have hsn := hr.len
  unfold check_behind
  refine newC_h hS fun gc w1 hS => newC_h hS fun gi w2 hS => ?_
  refine rangeF_h hS fun lr D R w3 hS => ?_
  refine orcI_one (it_call (v := .func (.yield lr) #[] #[]) (a := ⟨gc, 0, none⟩) (b := ⟨gi, 0, none⟩) ?_)
  refine behind_s (x := x) (l := l) (code := s) (Lk := fun ks => [obj lr (R .ready), obj D (.deferred (some [])), blk gi [.int .i64 i], blk gc [.slice s.a s.n s.c], blk gh [.int .i64 hv], flow g (s, F.meets hv ks), blk gp [.pointer (some ⟨g, 0, none⟩)], mks ds, blk ga [nv, .slice s.a s.n s.c]])
    hS hi0 hx (fun {w ks} h => ⟨?_, ?_, hr.ext h.ext⟩) (fun {B ks z w c} h hp hcc => ?_) fun w4 h => ?_
  · rw [(h.blk (g := gc) (cs := [.slice s.a s.n s.c])).cell]; rfl
  · rw [(h.blk (g := gi) (cs := [.int .i64 i])).cell]; rfl
  · rw [hsn] at hp
    have hin := behind_in (x := x) (n := l.length) (i := i) (by omega) hi0 (by omega)
    have hpre : ∀ y ∈ ks ++ [z], 0 ≤ y ∧ y < l.length := fun y hy => hin y (hp.subset hy)
    have hz := hpre z (by simp)
    have hks := meets_ok (hv := hv) (zs := ks) hF fun y hy => hpre y (by simp [hy])
    refine rY_h (l := lr) (R := R) (kk := [.i .i64]) z (fun c hc => hc) h fun w5 h => ?_
    refine ldP_h (g := gp) (o := 0) h rfl (ldI_h (g := gh) (o := 0) h rfl ?_)
    have hlen : (F.meets hv ks).todo.length ≤ (F.meets hv ks).mu := by unfold Fl.mu; omega
    have hlen2 := hks.2
    refine meet_s (g := g) (code := s) (F := F.meets hv ks) h hz.1 (by rw [hks.1.held]; exact hz.2) (by rw [hks.1.held, hks.1.come]) (by omega) fun w6 h => ?_
    rw [← meets_snoc] at h
    exact rec_h (g := lr) (o := R .busy) (o' := R .ready) (c := c (.bool true)) h fun w7 h => hcc w7 h
  · have e : behind s.n i x = behind l.length i x := by rw [hsn]
    simp only [e] at h
    refine rec_h (g := lr) (o := R .ready) (o' := R .exhausted) (c := C ((), D :: ds)) h fun w5 h => hc D w5 ?_
    have h := h.perm (M := [obj D (.deferred (some [])), mks ds, flow g (s, F.meets hv (behind l.length i x)), blk gp [.pointer (some ⟨g, 0, none⟩)], blk ga [nv, .slice s.a s.n s.c], obj lr (R .exhausted), blk gi [.int .i64 i], blk gc [.slice s.a s.n s.c], blk gh [.int .i64 hv]]) (by repeat' (first | exact List.Perm.refl _ | refine perm_f 0 rfl ?_ | refine perm_f 1 rfl ?_ | refine perm_f 2 rfl ?_ | refine perm_f 3 rfl ?_ | refine perm_f 4 rfl ?_ | refine perm_f 5 rfl ?_ | refine perm_f 6 rfl ?_ | refine perm_f 7 rfl ?_))
    have h := mks_cons h
    exact ((((h.rm 7 rfl).rm 6 rfl).rm 5 rfl).rm 4 rfl)
end Go.Proofs.YtgkfbagclkjilaaGreatDoor.Ck
namespace Go.Proofs.YtgkfbagclkjilaaGreatDoor.Ck
open Go Go.Ev Go.Proofs
theorem joinP_i {S : Type} {body : (S → World → Prop) → Prop} {rest : S → World → Prop} (Inv : S → World → Prop) (h2 : ∀ J : S → World → Prop, (∀ s w, Inv s w → J s w) → body J) (h1 : ∀ s w, Inv s w → rest s w) : joinP body rest := h2 rest h1
def startL (g gp ga : Nat) (s s1 s2 : Sl) (needs : Int) (n : Nat) : List HP := [blk g [.slice s.a s.n s.c, .slice s1.a s1.n s1.c, .slice s2.a s2.n s2.c, .slice none 0 0], slc 1 s1 (List.replicate n (.int .i64 0)), slc 1 s2 (List.replicate n (.bool false)), blk gp [.pointer (some ⟨g, 0, none⟩)], blk ga [.int .i64 needs, .slice s.a s.n s.c]]
def startI (w : World) (ga : Nat) (s : Sl) (needs : Int) (a : Addr) (w' : World) : Prop := ∃ g gp s1 s2, a = ⟨gp, 0, none⟩ ∧ s1.n = s.n ∧ St w w' (startL g gp ga s s1 s2 needs s.n)
theorem leaf {w w' : World} {g gp ga : Nat} {s s1 s2 : Sl} {needs : Int} {L : List HP} {J : Addr → World → Prop} (hJ : ∀ a w', startI w ga s needs a w' → J a w') (h : St w w' L) (n1 : s1.n = s.n) (hp : L.Perm (startL g gp ga s s1 s2 needs s.n)) : J ⟨gp, 0, none⟩ w' :=
  hJ _ _ ⟨g, gp, s1, s2, rfl, n1, h.perm hp⟩
def Fl0 (n : Nat) : Fl := ⟨List.replicate n 255, List.replicate n false, []⟩
def Fl.steps (l : List (List Int)) : Nat → Fl → Fl
  | 0, F => F
  | m + 1, F => (Fl.steps l m F).step l
def Reached (l : List (List Int)) (needs : Int) (F : Fl) : Prop := F.todo = [] ∧ (l = [] → F = Fl0 0) ∧ (l ≠ [] → ∃ m, F = Fl.steps l m ((Fl0 l.length).meet 0 (andI .i64 needs 255)))
theorem Fl0_ok (n : Nat) : (Fl0 n).OK n := ⟨by simp [Fl0], by simp [Fl0], fun h hh => by simp [Fl0] at hh; omega, fun i hi => by simp [Fl0] at hi⟩
theorem held_s {w : World} {s : Sl} {needs : Int} {l : List (List Int)} {k : Sl → World → Prop} (hr : Code5 w s l) (hn : s.n ≤ 1000)
    (hc : ∀ F s' w', Reached l needs F → St w w' [slc 1 s' (ints F.held)] → k s' w') : check_Held #[.int .i64 needs, .slice s.a s.n s.c] w k := by
  unfold check_Held check_Held_b
  refine newC_h (.nil w) fun ga w2 h0 => ?_
  refine ldS_h (g := ga) (o := 1) h0 rfl ?_
  refine joinP_i (startI w ga s needs) (fun J hJ => ?_) fun a75 w76 hI => ?_
  · refine drew_h h0 fun w5 h => ldS_h (g := ga) (o := 1) h rfl ?_
    have h5 := h
    refine ⟨?_, ?_⟩
    · refine mkSl_h (n := s.n) h (elI (by kernel_rfl)) rfl (by omega) (by omega) fun s1 _ h n1 => samec_h h5 h ?_
      refine ⟨?_, ?_⟩
      · refine mkSl_h (n := s.n) h (elB (by kernel_rfl)) rfl (by omega) (by omega) fun s2 _ h _ => samec_h h5 h ?_
        refine ⟨?_, ?_⟩
        · refine ⟨?_, ?_⟩
          · refine newC_h h fun g _ h => ?_
            refine newC_h h fun gp _ h => samec_h h5 h ?_
            refine stC_h (g := gp) h rfl (by simp) fun _ h => leaf (g := g) (s2 := s2) hJ h n1 ?_
            unfold startL; repeat' (first | exact List.Perm.refl _ | refine perm_f 0 rfl ?_ | refine perm_f 1 rfl ?_ | refine perm_f 2 rfl ?_ | refine perm_f 3 rfl ?_ | refine perm_f 4 rfl ?_ | refine perm_f 5 rfl ?_ | refine perm_f 6 rfl ?_ | refine perm_f 7 rfl ?_)
          · refine newC_h h fun gp _ h => samec_h h5 h ?_
            refine newC_h h fun g _ h => ?_
            refine stC_h (g := gp) h rfl (by simp) fun _ h => leaf (g := g) (s2 := s2) hJ h n1 ?_
            unfold startL; repeat' (first | exact List.Perm.refl _ | refine perm_f 0 rfl ?_ | refine perm_f 1 rfl ?_ | refine perm_f 2 rfl ?_ | refine perm_f 3 rfl ?_ | refine perm_f 4 rfl ?_ | refine perm_f 5 rfl ?_ | refine perm_f 6 rfl ?_ | refine perm_f 7 rfl ?_)
        · refine newC_h h fun gp _ h => samec_h h5 h ?_
          refine newC_h h fun g _ h => ?_
          refine stC_h (g := gp) h rfl (by simp) fun _ h => leaf (g := g) (s2 := s2) hJ h n1 ?_
          unfold startL; repeat' (first | exact List.Perm.refl _ | refine perm_f 0 rfl ?_ | refine perm_f 1 rfl ?_ | refine perm_f 2 rfl ?_ | refine perm_f 3 rfl ?_ | refine perm_f 4 rfl ?_ | refine perm_f 5 rfl ?_ | refine perm_f 6 rfl ?_ | refine perm_f 7 rfl ?_)
      · refine newC_h h fun gp _ h => samec_h h5 h ?_
        refine mkSl_h (n := s.n) h (elB (by kernel_rfl)) rfl (by omega) (by omega) fun s2 _ h _ => samec_h h5 h ?_
        refine newC_h h fun g _ h => ?_
        refine stC_h (g := gp) h rfl (by simp) fun _ h => leaf (g := g) (s2 := s2) hJ h n1 ?_
        unfold startL; repeat' (first | exact List.Perm.refl _ | refine perm_f 0 rfl ?_ | refine perm_f 1 rfl ?_ | refine perm_f 2 rfl ?_ | refine perm_f 3 rfl ?_ | refine perm_f 4 rfl ?_ | refine perm_f 5 rfl ?_ | refine perm_f 6 rfl ?_ | refine perm_f 7 rfl ?_)
    · refine ⟨?_, ?_⟩
      · refine mkSl_h (n := s.n) h (elB (by kernel_rfl)) rfl (by omega) (by omega) fun s2 _ h _ => samec_h h5 h ?_
        refine ⟨?_, ?_⟩
        · refine mkSl_h (n := s.n) h (elI (by kernel_rfl)) rfl (by omega) (by omega) fun s1 _ h n1 => samec_h h5 h ?_
          refine ⟨?_, ?_⟩
          · refine ⟨?_, ?_⟩
            · refine newC_h h fun g _ h => ?_
              refine newC_h h fun gp _ h => samec_h h5 h ?_
              refine stC_h (g := gp) h rfl (by simp) fun _ h => leaf (g := g) (s2 := s2) hJ h n1 ?_
              unfold startL; repeat' (first | exact List.Perm.refl _ | refine perm_f 0 rfl ?_ | refine perm_f 1 rfl ?_ | refine perm_f 2 rfl ?_ | refine perm_f 3 rfl ?_ | refine perm_f 4 rfl ?_ | refine perm_f 5 rfl ?_ | refine perm_f 6 rfl ?_ | refine perm_f 7 rfl ?_)
            · refine newC_h h fun gp _ h => samec_h h5 h ?_
              refine newC_h h fun g _ h => ?_
              refine stC_h (g := gp) h rfl (by simp) fun _ h => leaf (g := g) (s2 := s2) hJ h n1 ?_
              unfold startL; repeat' (first | exact List.Perm.refl _ | refine perm_f 0 rfl ?_ | refine perm_f 1 rfl ?_ | refine perm_f 2 rfl ?_ | refine perm_f 3 rfl ?_ | refine perm_f 4 rfl ?_ | refine perm_f 5 rfl ?_ | refine perm_f 6 rfl ?_ | refine perm_f 7 rfl ?_)
          · refine newC_h h fun gp _ h => samec_h h5 h ?_
            refine newC_h h fun g _ h => ?_
            refine stC_h (g := gp) h rfl (by simp) fun _ h => leaf (g := g) (s2 := s2) hJ h n1 ?_
            unfold startL; repeat' (first | exact List.Perm.refl _ | refine perm_f 0 rfl ?_ | refine perm_f 1 rfl ?_ | refine perm_f 2 rfl ?_ | refine perm_f 3 rfl ?_ | refine perm_f 4 rfl ?_ | refine perm_f 5 rfl ?_ | refine perm_f 6 rfl ?_ | refine perm_f 7 rfl ?_)
        · refine newC_h h fun gp _ h => samec_h h5 h ?_
          refine mkSl_h (n := s.n) h (elI (by kernel_rfl)) rfl (by omega) (by omega) fun s1 _ h n1 => samec_h h5 h ?_
          refine newC_h h fun g _ h => ?_
          refine stC_h (g := gp) h rfl (by simp) fun _ h => leaf (g := g) (s2 := s2) hJ h n1 ?_
          unfold startL; repeat' (first | exact List.Perm.refl _ | refine perm_f 0 rfl ?_ | refine perm_f 1 rfl ?_ | refine perm_f 2 rfl ?_ | refine perm_f 3 rfl ?_ | refine perm_f 4 rfl ?_ | refine perm_f 5 rfl ?_ | refine perm_f 6 rfl ?_ | refine perm_f 7 rfl ?_)
      · refine newC_h h fun gp _ h => samec_h h5 h ?_
        refine ⟨?_, ?_⟩
        · refine mkSl_h (n := s.n) h (elI (by kernel_rfl)) rfl (by omega) (by omega) fun s1 _ h n1 => samec_h h5 h ?_
          refine mkSl_h (n := s.n) h (elB (by kernel_rfl)) rfl (by omega) (by omega) fun s2 _ h _ => samec_h h5 h ?_
          refine newC_h h fun g _ h => ?_
          refine stC_h (g := gp) h rfl (by simp) fun _ h => leaf (g := g) (s2 := s2) hJ h n1 ?_
          unfold startL; repeat' (first | exact List.Perm.refl _ | refine perm_f 0 rfl ?_ | refine perm_f 1 rfl ?_ | refine perm_f 2 rfl ?_ | refine perm_f 3 rfl ?_ | refine perm_f 4 rfl ?_ | refine perm_f 5 rfl ?_ | refine perm_f 6 rfl ?_ | refine perm_f 7 rfl ?_)
        · refine mkSl_h (n := s.n) h (elB (by kernel_rfl)) rfl (by omega) (by omega) fun s2 _ h _ => samec_h h5 h ?_
          refine mkSl_h (n := s.n) h (elI (by kernel_rfl)) rfl (by omega) (by omega) fun s1 _ h n1 => samec_h h5 h ?_
          refine newC_h h fun g _ h => ?_
          refine stC_h (g := gp) h rfl (by simp) fun _ h => leaf (g := g) (s2 := s2) hJ h n1 ?_
          unfold startL; repeat' (first | exact List.Perm.refl _ | refine perm_f 0 rfl ?_ | refine perm_f 1 rfl ?_ | refine perm_f 2 rfl ?_ | refine perm_f 3 rfl ?_ | refine perm_f 4 rfl ?_ | refine perm_f 5 rfl ?_ | refine perm_f 6 rfl ?_ | refine perm_f 7 rfl ?_)
  · obtain ⟨g, gp, s1, s2, rfl, n1, h⟩ := hI
    unfold startL at h
    have hn0 := ints_rep s.n
    simp only [hn0] at h
    refine ldP_h (g := gp) (o := 0) (n := some ⟨g, 0, none⟩) h rfl (nn_i (ldS_h (g := g) (o := 1) h rfl ?_))
    refine joinP_i (fun _ w' => St w w' [blk g [.slice s.a s.n s.c, .slice s1.a s1.n s1.c, .slice s2.a s2.n s2.c, .slice none 0 0], slc 1 s1 (ints (List.replicate s.n 255)), slc 1 s2 (List.replicate s.n (.bool false)), blk gp [.pointer (some ⟨g, 0, none⟩)], blk ga [.int .i64 needs, .slice s.a s.n s.c]]) (fun J hJ => ?_) fun _ w90 h => ?_
    · refine loopP_of (fun (i : Int) w' => ∃ j : Nat, i = j ∧ j ≤ s.n ∧ St w w' [blk g [.slice s.a s.n s.c, .slice s1.a s1.n s1.c, .slice s2.a s2.n s2.c, .slice none 0 0], slc 1 s1 (ints (List.replicate j 255 ++ List.replicate (s.n - j) 0)), slc 1 s2 (List.replicate s.n (.bool false)), blk gp [.pointer (some ⟨g, 0, none⟩)], blk ga [.int .i64 needs, .slice s.a s.n s.c]])
        (fun i _ => ((s.n : Int) - i).toNat) ⟨0, rfl, by omega, by simpa using h⟩ ?_
      rintro i w83 ⟨j, rfl, hj, h⟩ C hC
      refine iteB_i (fun hb => ?_) fun hb => ?_
      · simp only [decide_eq_true_eq] at hb
        refine ldP_h (g := gp) (o := 0) (n := some ⟨g, 0, none⟩) h rfl (nn_i (ldS_h (g := g) (o := 1) h rfl (ixIst_h (s := s1) (xs := List.replicate j 255 ++ List.replicate (s.n - j) 0) h (by omega) (by simp; omega) fun w88 h => ?_)))
        have hw : IntKind.wrap .i64 ((j : Int) + 1) = ((j + 1 : Nat) : Int) := by rw [wrap_id ⟨by omega, by omega⟩]; simp
        rw [hw]
        refine hC _ _ ⟨j + 1, rfl, by omega, ?_⟩ (by omega)
        have e : (List.replicate j (255 : Int) ++ List.replicate (s.n - j) 0).set ((j : Int)).toNat 255 = List.replicate (j + 1) 255 ++ List.replicate (s.n - (j + 1)) 0 := by
          have e1 : s.n - j = (s.n - (j + 1)) + 1 := by omega
          rw [Int.toNat_natCast, List.set_append_right (h := by simp), e1, List.length_replicate, Nat.sub_self, List.replicate_succ (n := s.n - (j + 1)), List.set_cons_zero, List.replicate_succ' (n := j), List.append_assoc]; rfl
        rw [e] at h; exact h
      · simp only [decide_eq_false_iff_not] at hb
        have e : j = s.n := by omega
        subst e
        refine hJ () _ ?_
        simpa using h
    · have hsn := hr.len
      refine iteB_i (fun h0' => ?_) fun h0' => ?_
      · have hz : s.n = 0 := by
          have : (s.n : Int) = 0 := by simpa using h0'
          omega
        have hl : l = [] := List.eq_nil_of_length_eq_zero (by omega)
        refine ldP_h (g := gp) (o := 0) (n := some ⟨g, 0, none⟩) h rfl (nn_i (ldS_h (g := g) (o := 1) h rfl ?_))
        refine hc (Fl0 0) s1 w90 ⟨rfl, fun _ => rfl, fun hne => (hne hl).elim⟩ ?_
        have e : ints (List.replicate s.n 255) = ints (Fl0 0).held := by rw [hz]; rfl
        rw [← e]
        exact (((h.rm 4 rfl).rm 3 rfl).rm 2 rfl).rm 0 rfl
      · have hz : s.n ≠ 0 := by
          have : ¬ (s.n : Int) = 0 := by simpa using h0'
          omega
        have hb0 := bls_rep s.n
        have h := h.nilS 1
        simp only [hb0] at h
        have h : St w w90 [flow g (s, Fl0 s.n), blk gp [.pointer (some ⟨g, 0, none⟩)], blk ga [.int .i64 needs, .slice s.a s.n s.c]] :=
          flow_shut (F := Fl0 s.n) (s1 := s1) (s2 := s2) (s3 := ⟨none, 0, 0⟩) (h.perm (by unfold Fl0; repeat' (first | exact List.Perm.refl _ | refine perm_f 0 rfl ?_ | refine perm_f 1 rfl ?_ | refine perm_f 2 rfl ?_ | refine perm_f 3 rfl ?_ | refine perm_f 4 rfl ?_ | refine perm_f 5 rfl ?_ | refine perm_f 6 rfl ?_ | refine perm_f 7 rfl ?_)))
        refine ldP_h (g := gp) (o := 0) (n := some ⟨g, 0, none⟩) h rfl (ldI_h (g := ga) (o := 0) h rfl ?_)
        refine meet_s (g := g) (code := s) (F := Fl0 s.n) h (by omega) (by simp [Fl0]; omega) (by simp [Fl0]) (by simp [Fl0]) fun w96 h => ?_
        have h := mks_nil h
        have hm0 := meet_ok (hv := andI .i64 needs 255) (i := 0) (Fl0_ok l.length) (by omega) (by omega)
        have hmu0 : (Fl0 l.length).mu ≤ 1000000 := by simp [Fl.mu, Fl0, sumN, cntF]; omega
        refine loopP_ghost (G := Fl) (fun F x w' => F.OK l.length ∧ F.mu ≤ 1000000 ∧ (∃ m, F = Fl.steps l m ((Fl0 l.length).meet 0 (andI .i64 needs 255))) ∧ St w w' [mks x.2, flow g (s, F), blk gp [.pointer (some ⟨g, 0, none⟩)], blk ga [.int .i64 needs, .slice s.a s.n s.c]]) Fl.mu
          (g := (Fl0 s.n).meet 0 (andI .i64 needs 255)) ⟨by rw [hsn]; exact hm0.1, by rw [hsn]; have := hm0.2; omega, ⟨0, by rw [hsn]; rfl⟩, h⟩ ?_
        rintro F x w99 ⟨hF, hmu, ⟨m, hm⟩, h⟩ C hC
        obtain ⟨t1, t2, t3, h⟩ := flow_open h.swap
        refine ldP_h (g := gp) (o := 0) (n := some ⟨g, 0, none⟩) h rfl (nn_i (ldS_h (g := g) (o := 3) h rfl ?_))
        have hn3 : F.todo.length = t3.n := by have := h.slen (sz := 1) (s := t3) (vs := ints F.todo); simpa using this
        refine iteB_i (fun he => ?_) fun he => ?_
        · have he' : (t3.n : Int) = 0 := by simpa using he
          have hnil : F.todo = [] := List.eq_nil_of_length_eq_zero (by omega)
          refine ldP_h (g := gp) (o := 0) (n := some ⟨g, 0, none⟩) h rfl (nn_i (ldS_h (g := g) (o := 1) h rfl ?_))
          refine takeP_h (h.front 4 rfl) fun w' h => hc F t1 w' ⟨hnil, fun hl => ?_, fun _ => ⟨m, hm⟩⟩ ?_
          · rw [hl] at hsn; exact (hz hsn).elim
          · exact ((((h.rm 5 rfl).rm 4 rfl).rm 3 rfl).rm 2 rfl).rm 0 rfl
        · have he' : ¬ (t3.n : Int) = 0 := by simpa using he
          obtain ⟨i, t, hti⟩ : ∃ i t, F.todo = i :: t := by
            cases e : F.todo with
            | nil => rw [e] at hn3; simp at hn3; omega
            | cons i t => exact ⟨i, t, rfl⟩
          have hi := hF.todo i (by rw [hti]; simp)
          have hg0 : F.todo.getD (0 : Int).toNat 0 = i := by rw [hti]; rfl
          refine ldP_h (g := gp) (o := 0) (n := some ⟨g, 0, none⟩) h rfl (nn_i (ldS_h (g := g) (o := 3) h rfl (ixI_h (s := t3) (xs := F.todo) h (by omega) (by omega) ?_)))
          rw [hg0]
          refine drew_h h fun w112 h => ldP_h (g := gp) (o := 0) (n := some ⟨g, 0, none⟩) h rfl (ldP_h (g := gp) (o := 0) (n := some ⟨g, 0, none⟩) h rfl (nn_i (ldS_h (g := g) (o := 3) h rfl ?_)))
          refine slL_h (s := t3) (vs := ints F.todo) h (by omega) (by omega) fun d hd h => nn_i (stC_h (g := g) (o := 3) h rfl (by simp) fun w119 h => ?_)
          refine ldP_h (g := gp) (o := 0) (n := some ⟨g, 0, none⟩) h rfl (nn_i (ldS_h (g := g) (o := 1) h rfl (ixI_h (s := t1) (xs := F.held) h hi.1 (by rw [hF.held]; exact hi.2) ?_)))
          refine newC_h h fun gh w126 h => stC_h (g := gh) (o := 0) h rfl (by simp) fun w127 h => ?_
          have hil : i.toNat < l.length := by omega
          have hx : l[i.toNat]? = some l[i.toNat] := List.getElem?_eq_getElem hil
          have hsplit : l = l.take i.toNat ++ l[i.toNat] :: l.drop (i.toNat + 1) := by rw [List.getElem_cons_drop, List.take_append_drop]
          generalize hxe : l[i.toNat] = x5 at hx hsplit
          refine ldS_h (g := ga) (o := 1) h rfl (ixC (hr.ext h.ext) hsplit (by simp; omega) fun p h5 hp => ldA_c (by simp [Go.Ev.ints, h5]) hp ?_)
          refine newC_h h fun gx w132 h => stW_h (g := gx) h rfl (by simp [Go.Ev.ints, h5]) (by simp [Go.Ev.ints, Value.oneCell']) fun w133 h => ?_
          have ld : ∀ {o : Nat} {c : Int → Prop}, o < 5 → c (x5.getD o 0) → ldI .i64 w133 (Addr.add ⟨gx, 0, none⟩ o) c := by
            intro o c ho hc
            have := ldI_h (g := gx) (o := o) (k := .i64) (n := x5.getD o 0) (c := c) h (by simpa using ints_get (x := x5) (j := o) (by omega)) hc
            rw [add_mk, Nat.zero_add]; exact this
          refine joinP_i (fun b w' => b = decide (opI x5 = 8 ∧ 0 ≤ x5.getD 1 0 ∧ x5.getD 1 0 < 8) ∧ w' = w133) (fun J hJ => ?_) ?_
          · refine ld (by omega) (iteB_i (fun hb => ?_) fun hb => ?_)
            · have hb' : opI x5 = 8 := by simpa using hb
              refine ld (by omega) (iteB_i (fun hb2 => ?_) fun hb2 => ?_)
              · refine ld (by omega) (hJ _ _ ⟨?_, rfl⟩)
                have := of_decide_eq_true hb2
                rw [decide_eq_decide]
                exact ⟨fun h => ⟨hb', this, h⟩, fun h => h.2.2⟩
              · have := of_decide_eq_false hb2
                exact hJ _ _ ⟨(decide_eq_false fun h => this h.2.1).symm, rfl⟩
            · have hb' : ¬ opI x5 = 8 := by simpa using hb
              exact hJ _ _ ⟨(decide_eq_false fun h => hb' h.1).symm, rfl⟩
          rintro b w139 ⟨rfl, rfl⟩
          have e1 : (ints F.todo).drop ((1 : Int).toNat * 1) = ints t := by rw [hti]; rfl
          simp only [e1] at h
          have h : St w w139 [flow g (s, { F with todo := t }), blk gh [.int .i64 (F.held.getD i.toNat 0)], blk gx (Go.Ev.ints x5), blk gp [.pointer (some ⟨g, 0, none⟩)], mks x.2, blk ga [.int .i64 needs, .slice s.a s.n s.c]] :=
            flow_shut (F := { F with todo := t }) (s1 := t1) (s2 := t2) (s3 := d) (h.perm (by repeat' (first | exact List.Perm.refl _ | refine perm_f 0 rfl ?_ | refine perm_f 1 rfl ?_ | refine perm_f 2 rfl ?_ | refine perm_f 3 rfl ?_ | refine perm_f 4 rfl ?_ | refine perm_f 5 rfl ?_ | refine perm_f 6 rfl ?_ | refine perm_f 7 rfl ?_)))
          refine joinP_i (fun _ w' => St w w' [flow g (s, { F with todo := t }), blk gh [.int .i64 (hvOf x5 (F.held.getD i.toNat 0))], blk gx (Go.Ev.ints x5), blk gp [.pointer (some ⟨g, 0, none⟩)], mks x.2, blk ga [.int .i64 needs, .slice s.a s.n s.c]]) (fun J hJ => ?_) fun _ w147 h => ?_
          · refine iteB_i (fun hb => ?_) fun hb => ?_
            · have hb' := of_decide_eq_true hb
              refine drew_h h fun w137 h => ldI_h (g := gh) (o := 0) h rfl ?_
              have ld2 := ldI_h (g := gx) (o := 1) (k := .i64) (n := x5.getD 1 0) (c := fun i143 => shlI .i64 1 i143 fun i144 => stC w137 ⟨gh, 0, none⟩ (.int .i64 (orI .i64 (F.held.getD i.toNat 0) i144)) fun w141 => J () w141) h (ints_get (by omega))
              refine ld2 ⟨hb'.2.1, ?_⟩
              refine stC_h (g := gh) (o := 0) h rfl (by simp) fun w141 h => hJ () _ ?_
              unfold hvOf; rw [if_pos hb']; exact h
            · have hb' := of_decide_eq_false hb
              refine hJ () _ ?_
              unfold hvOf; rw [if_neg hb']; exact h
          refine ldS_h (g := ga) (o := 1) h rfl ?_
          have hF1 : Fl.OK l.length { F with todo := t } := ⟨hF.held, hF.come, hF.bits, fun z hz => hF.todo z (by rw [hti]; simp [hz])⟩
          have hm1 : Fl.mu { F with todo := t } ≤ F.mu := by simp only [Fl.mu, hti, List.length_cons]; omega
          have hst : F.step l = Fl.meets (hvOf x5 (F.held.getD i.toNat 0)) { F with todo := t } (behind l.length i x5) := by
            have e : l.getD i.toNat [] = x5 := by simp [hx]
            unfold Fl.step; rw [hti]; simp only [e]
          have hs2 := step_ok (l := l) (by omega) hF (by rw [hti]; simp)
          have h := (h.rm 2 rfl).perm (M := [blk gh [.int .i64 (hvOf x5 (F.held.getD i.toNat 0))], flow g (s, { F with todo := t }), blk gp [.pointer (some ⟨g, 0, none⟩)], mks x.2, blk ga [.int .i64 needs, .slice s.a s.n s.c]]) (by repeat' (first | exact List.Perm.refl _ | refine perm_f 0 rfl ?_ | refine perm_f 1 rfl ?_ | refine perm_f 2 rfl ?_ | refine perm_f 3 rfl ?_ | refine perm_f 4 rfl ?_ | refine perm_f 5 rfl ?_ | refine perm_f 6 rfl ?_ | refine perm_f 7 rfl ?_))
          refine pass_s (g := g) (gp := gp) (gh := gh) (ga := ga) (x := x5) (ds := x.2) h hr hF1 (by omega) (by omega) hi.1 hx fun D w'' h => ?_
          rw [← hst] at h
          exact hC (F.step l) _ _ ⟨hs2.1, by omega, ⟨m + 1, by show F.step l = (Fl.steps l m _).step l; rw [← hm]⟩, h⟩ hs2.2
end Go.Proofs.YtgkfbagclkjilaaGreatDoor.Ck
namespace Go.Proofs.YtgkfbagclkjilaaGreatDoor.Ck
open Go Go.Ev Go.Proofs
end Go.Proofs.YtgkfbagclkjilaaGreatDoor.Ck
namespace Go.Proofs.YtgkfbagclkjilaaGreatDoor.Ck
open Go Go.Ev Go.Proofs
end Go.Proofs.YtgkfbagclkjilaaGreatDoor.Ck
namespace Go.Proofs.YtgkfbagclkjilaaGreatDoor.Ck
open Go Go.Ev Go.Proofs
structure Wy where
  out : List Bool
  todo : List Int
def Wy.see (W : Wy) (z : Int) : Wy := if W.out.getD z.toNat false then W else ⟨W.out.set z.toNat true, W.todo ++ [z]⟩
def Wy.sees (W : Wy) (zs : List Int) : Wy := zs.foldl Wy.see W
def forks (x : List Int) (h : Int) : Bool := (opI x == 8) && (x.getD 1 0 == h)
def Wy.step (l : List (List Int)) (h : Int) (W : Wy) : Wy := match W.todo.getLast? with
  | none => W
  | some i => if forks (l.getD i.toNat []) h then { W with todo := W.todo.dropLast } else Wy.sees { W with todo := W.todo.dropLast } (behind l.length i (l.getD i.toNat []))
structure Wy.OK (n : Nat) (W : Wy) : Prop where
  out : W.out.length = n
  todo : ∀ i ∈ W.todo, 0 ≤ i ∧ i < n
def Wy.mu (W : Wy) : Nat := 2 * cntF W.out + W.todo.length
theorem see_ok {n : Nat} {W : Wy} {z : Int} (h : W.OK n) (h0 : 0 ≤ z) (h1 : z < n) : (W.see z).OK n ∧ (W.see z).mu ≤ W.mu := by
  unfold Wy.see
  split
  · exact ⟨h, Nat.le_refl _⟩
  · rename_i hz
    have hi : z.toNat < W.out.length := by rw [h.out]; omega
    refine ⟨⟨by simp [h.out], fun y hy => ?_⟩, ?_⟩
    · rcases List.mem_append.1 hy with hy | hy
      · exact h.todo y hy
      · simp at hy; omega
    · have e := cntF_set hi
      have hz' : W.out.getD z.toNat false = false := by simpa using hz
      rw [hz'] at e
      simp only [Wy.mu, List.length_append, List.length_singleton]
      simp at e; omega
theorem sees_ok {n : Nat} : ∀ {zs : List Int} {W : Wy}, W.OK n → (∀ z ∈ zs, 0 ≤ z ∧ z < n) → (W.sees zs).OK n ∧ (W.sees zs).mu ≤ W.mu
  | [], W, h, _ => ⟨h, Nat.le_refl _⟩
  | z :: zs, W, h, hz => by
    have h1 := see_ok h (hz z (by simp)).1 (hz z (by simp)).2
    have h2 := sees_ok (zs := zs) h1.1 fun y hy => hz y (by simp [hy])
    exact ⟨h2.1, Nat.le_trans h2.2 h1.2⟩
end Go.Proofs.YtgkfbagclkjilaaGreatDoor.Ck
namespace Go.Proofs.YtgkfbagclkjilaaGreatDoor.Ck
open Go Go.Ev Go.Proofs
def W0 (n : Nat) : Wy := ⟨(List.replicate n false).set 0 true, [0]⟩
def Wy.steps (l : List (List Int)) (h : Int) : Nat → Wy → Wy
  | 0, W => W
  | m + 1, W => (Wy.steps l h m W).step l h
theorem W0_ok {n : Nat} (h : 0 < n) : (W0 n).OK n := ⟨by simp [W0], fun i hi => by simp [W0] at hi; omega⟩
end Go.Proofs.YtgkfbagclkjilaaGreatDoor.Ck
namespace Go.Proofs.YtgkfbagclkjilaaGreatDoor.Ck
open Go Go.Ev Go.Proofs
inductive Way (l : List (List Int)) (h : Int) : Int → Prop
  | zero : Way l h 0
  | next {i z : Int} : Way l h i → forks (l.getD i.toNat []) h = false → z ∈ behind l.length i (l.getD i.toNat []) → Way l h z
theorem tb_and (x y : Int) {i : Nat} (h : i < 64) : tb (andI .i64 x y) i = (tb x i && tb y i) := by
  unfold tb; rw [andI_bv, bv_of_toInt]; simp
theorem tb_or (x y : Int) {i : Nat} (h : i < 64) : tb (orI .i64 x y) i = (tb x i || tb y i) := by
  unfold tb; rw [orI_bv, bv_of_toInt]; simp
theorem tb_shl {a : Int} {h : Nat} (h0 : 0 ≤ a) (h1 : a < 8) (hh : h < 8) : tb (shlV .i64 1 a) h = decide (a = (h : Int)) := by
  have key : ∀ a : Nat, a < 8 → ∀ h : Nat, h < 8 → tb (shlV .i64 1 (a : Int)) h = decide (a = h) := by decide
  have := key a.toNat (by omega) h hh
  rw [Int.toNat_of_nonneg h0] at this
  rw [this, decide_eq_decide]; omega
theorem tb255 {h : Nat} (hh : h < 8) : tb 255 h = true := by
  have key : ∀ h : Nat, h < 8 → tb 255 h = true := by decide
  exact key h hh
theorem tb_hv {x : List Int} {v : Int} {h : Nat} (hh : h < 8) : tb (hvOf x v) h = (tb v h || forks x h) := by
  unfold hvOf forks
  by_cases ho : opI x = 8
  · by_cases ha : 0 ≤ x.getD 1 0 ∧ x.getD 1 0 < 8
    · rw [if_pos ⟨ho, ha⟩, tb_or _ _ (by omega), tb_shl ha.1 ha.2 hh]
      congr 1
      have e8 : (opI x == 8) = true := by simpa using ho
      rw [e8, Bool.true_and]; rfl
    · rw [if_neg (fun q => ha q.2)]
      have : (x.getD 1 0 == (h : Int)) = false := by
        rw [beq_eq_false_iff_ne]; intro e; exact ha ⟨by omega, by omega⟩
      rw [this]; simp
  · rw [if_neg (fun q => ho q.1)]
    have : (opI x == 8) = false := by simpa using ho
    rw [this]; simp
def rs (f : Nat → Bool) : Nat → Int
  | 0 => 0
  | h + 1 => rs f h + if f h then 2 ^ h else 0
theorem rs_congr {f g : Nat → Bool} : ∀ {n : Nat}, (∀ h, h < n → f h = g h) → rs f n = rs g n
  | 0, _ => rfl
  | n + 1, hfg => by simp only [rs]; rw [rs_congr (n := n) fun h hh => hfg h (by omega), hfg n (by omega)]
theorem rs_tb {v : Int} (h0 : 0 ≤ v) (h1 : v ≤ 255) : rs (tb v) 8 = v := by
  have key : ∀ n : Fin 256, rs (tb ((n.val : Nat) : Int)) 8 = ((n.val : Nat) : Int) := by decide
  have := key ⟨v.toNat, by omega⟩
  simp only at this
  rwa [Int.toNat_of_nonneg h0] at this
theorem tb_rs {f : Nat → Bool} {h : Nat} (hh : h < 8) : tb (rs f 8) h = f h := by
  have key : ∀ a b c d e f g i : Bool, ∀ h : Nat, h < 8 → tb (rs (fun n => ([a, b, c, d, e, f, g, i].getD n false)) 8) h = ([a, b, c, d, e, f, g, i].getD h false) := by decide
  have := key (f 0) (f 1) (f 2) (f 3) (f 4) (f 5) (f 6) (f 7) h hh
  rw [show rs f 8 = rs (fun n => ([f 0, f 1, f 2, f 3, f 4, f 5, f 6, f 7].getD n false)) 8 from rs_congr fun h hh => by
    match h, hh with
    | 0, _ => rfl
    | 1, _ => rfl
    | 2, _ => rfl
    | 3, _ => rfl
    | 4, _ => rfl
    | 5, _ => rfl
    | 6, _ => rfl
    | 7, _ => rfl, this]
  match h, hh with
    | 0, _ => rfl
    | 1, _ => rfl
    | 2, _ => rfl
    | 3, _ => rfl
    | 4, _ => rfl
    | 5, _ => rfl
    | 6, _ => rfl
    | 7, _ => rfl
open Classical in
noncomputable def heldB (l : List (List Int)) (needs i : Int) (h : Nat) : Bool := tb needs h || !decide (Way l h i)
noncomputable def heldL (l : List (List Int)) (needs : Int) : List Int := (List.range l.length).map fun (i : Nat) => rs (heldB l needs (i : Int)) 8
theorem heldL_len (l : List (List Int)) (needs : Int) : (heldL l needs).length = l.length := by simp [heldL]
theorem heldL_get {l : List (List Int)} {needs : Int} {i : Nat} (h : i < l.length) : (heldL l needs).getD i 0 = rs (heldB l needs i) 8 := by
  simp [heldL, h]
theorem heldB_iff {l : List (List Int)} {needs i : Int} {h : Nat} : heldB l needs i h = true ↔ (tb needs h = true ∨ ¬ Way l h i) := by
  unfold heldB; simp
section
variable {n : Nat} {F : Fl} {z hv : Int}
theorem meet_mono (hF : F.OK n) (h0 : 0 ≤ z) (h1 : z < n) {j h : Nat} (hh : h < 8) :
    (F.come.getD j false = true → (F.meet z hv).come.getD j false = true) ∧ (tb (F.held.getD j 0) h = false → tb ((F.meet z hv).held.getD j 0) h = false) ∧ (∀ y ∈ F.todo, y ∈ (F.meet z hv).todo) := by
  unfold Fl.meet
  split
  · exact ⟨id, id, fun _ h => h⟩
  · have hz : z.toNat < F.held.length := by rw [hF.held]; omega
    have hzc : z.toNat < F.come.length := by rw [hF.come]; omega
    refine ⟨fun hc => ?_, fun hb => ?_, fun y hy => List.mem_append_left _ hy⟩
    · simp only [List.getD_eq_getElem?_getD, List.getElem?_set]
      split
      · simp [hzc]
      · simpa using hc
    · simp only [List.getD_eq_getElem?_getD, List.getElem?_set]
      split
      · rename_i e
        subst e
        simp only [hz, ↓reduceIte, Option.getD_some]
        unfold Fl.now; rw [tb_and _ _ (by omega), hb]; rfl
      · simpa using hb
theorem meet_same (hF : F.OK n) (h0 : 0 ≤ z) (h1 : z < n) {j : Nat} :
    ((F.meet z hv).held.getD j 0 = F.held.getD j 0 ∧ (F.meet z hv).come.getD j false = F.come.getD j false) ∨ (j : Int) ∈ (F.meet z hv).todo := by
  unfold Fl.meet
  split
  · exact .inl ⟨rfl, rfl⟩
  · by_cases e : z.toNat = j
    · right
      have : (j : Int) = z := by omega
      rw [this]; simp
    · left
      simp [List.getD_eq_getElem?_getD, List.getElem?_set, e]
theorem meet_post (hF : F.OK n) (h0 : 0 ≤ z) (h1 : z < n) {h : Nat} (hh : h < 8) :
    (F.meet z hv).come.getD z.toNat false = true ∧ (tb hv h = false → tb ((F.meet z hv).held.getD z.toNat 0) h = false) := by
  have hz : z.toNat < F.held.length := by rw [hF.held]; omega
  have hzc : z.toNat < F.come.length := by rw [hF.come]; omega
  unfold Fl.meet
  split
  · rename_i hs
    unfold Fl.stay at hs
    simp only [Bool.and_eq_true, beq_iff_eq] at hs
    refine ⟨hs.1, fun hb => ?_⟩
    rw [← hs.2]; unfold Fl.now; rw [tb_and _ _ (by omega), hb, Bool.and_false]
  · refine ⟨by simp [List.getD_eq_getElem?_getD, hzc], fun hb => ?_⟩
    simp only [List.getD_eq_getElem?_getD, List.getElem?_set, hz, ↓reduceIte, Option.getD_some]
    unfold Fl.now; rw [tb_and _ _ (by omega), hb, Bool.and_false]
theorem meet_sound (hF : F.OK n) (h0 : 0 ≤ z) (h1 : z < n) {j h : Nat} (hh : h < 8) (hb : tb ((F.meet z hv).held.getD j 0) h = false) : tb (F.held.getD j 0) h = false ∨ ((j : Int) = z ∧ tb hv h = false) := by
  have hz : z.toNat < F.held.length := by rw [hF.held]; omega
  unfold Fl.meet at hb
  split at hb
  · exact .inl hb
  · by_cases e : z.toNat = j
    · subst e
      simp only [List.getD_eq_getElem?_getD, List.getElem?_set, hz, ↓reduceIte, Option.getD_some] at hb
      unfold Fl.now at hb
      rw [tb_and _ _ (by omega)] at hb
      simp only [Bool.and_eq_false_iff] at hb
      rcases hb with hb | hb
      · exact .inl hb
      · exact .inr ⟨by omega, hb⟩
    · left
      simpa [List.getD_eq_getElem?_getD, List.getElem?_set, e] using hb
end
theorem meets_mono {n : Nat} {hv : Int} {j h : Nat} (hh : h < 8) : ∀ {zs : List Int} {F : Fl}, F.OK n → (∀ z ∈ zs, 0 ≤ z ∧ z < n) →
    (F.come.getD j false = true → (F.meets hv zs).come.getD j false = true) ∧ (tb (F.held.getD j 0) h = false → tb ((F.meets hv zs).held.getD j 0) h = false) ∧ (∀ y ∈ F.todo, y ∈ (F.meets hv zs).todo)
  | [], F, _, _ => ⟨id, id, fun _ h => h⟩
  | z :: zs, F, hF, hz => by
    have hz0 := hz z (by simp)
    have h1 := meet_mono (hv := hv) hF hz0.1 hz0.2 (j := j) hh
    have h2 := meets_mono (hv := hv) (j := j) hh (zs := zs) (meet_ok (hv := hv) hF hz0.1 hz0.2).1 fun y hy => hz y (by simp [hy])
    exact ⟨fun q => h2.1 (h1.1 q), fun q => h2.2.1 (h1.2.1 q), fun y hy => h2.2.2 y (h1.2.2 y hy)⟩
theorem meets_same {n : Nat} {hv : Int} {j : Nat} : ∀ {zs : List Int} {F : Fl}, F.OK n → (∀ z ∈ zs, 0 ≤ z ∧ z < n) →
    ((F.meets hv zs).held.getD j 0 = F.held.getD j 0 ∧ (F.meets hv zs).come.getD j false = F.come.getD j false) ∨ (j : Int) ∈ (F.meets hv zs).todo
  | [], F, _, _ => .inl ⟨rfl, rfl⟩
  | z :: zs, F, hF, hz => by
    have hz0 := hz z (by simp)
    have hok := (meet_ok (hv := hv) hF hz0.1 hz0.2).1
    have hzs : ∀ y ∈ zs, 0 ≤ y ∧ y < n := fun y hy => hz y (by simp [hy])
    rcases meet_same (hv := hv) hF hz0.1 hz0.2 (j := j) with h1 | h1
    · rcases meets_same (hv := hv) (j := j) (zs := zs) hok hzs with h2 | h2
      · exact .inl ⟨h2.1.trans h1.1, h2.2.trans h1.2⟩
      · exact .inr h2
    · exact .inr ((meets_mono (h := 0) (j := j) (by omega) (zs := zs) hok hzs).2.2 _ h1)
theorem meets_post {n : Nat} {hv : Int} {h : Nat} (hh : h < 8) : ∀ {zs : List Int} {F : Fl}, F.OK n → (∀ z ∈ zs, 0 ≤ z ∧ z < n) → ∀ z ∈ zs,
    (F.meets hv zs).come.getD z.toNat false = true ∧ (tb hv h = false → tb ((F.meets hv zs).held.getD z.toNat 0) h = false)
  | [], F, _, _ => fun z hz => by cases hz
  | z :: zs, F, hF, hz => by
    have hz0 := hz z (by simp)
    have hok := (meet_ok (hv := hv) hF hz0.1 hz0.2).1
    have hzs : ∀ y ∈ zs, 0 ≤ y ∧ y < n := fun y hy => hz y (by simp [hy])
    intro y hy
    rcases List.mem_cons.1 hy with rfl | hy
    · have h1 := meet_post (hv := hv) hF hz0.1 hz0.2 hh
      have h2 := meets_mono (hv := hv) (j := y.toNat) hh (zs := zs) hok hzs
      exact ⟨h2.1 h1.1, fun q => h2.2.1 (h1.2 q)⟩
    · exact meets_post (hv := hv) hh (zs := zs) hok hzs y hy
theorem meets_sound {n : Nat} {hv : Int} {j h : Nat} (hh : h < 8) : ∀ {zs : List Int} {F : Fl}, F.OK n → (∀ z ∈ zs, 0 ≤ z ∧ z < n) → tb ((F.meets hv zs).held.getD j 0) h = false →
    tb (F.held.getD j 0) h = false ∨ ((j : Int) ∈ zs ∧ tb hv h = false)
  | [], F, _, _ => fun h => .inl h
  | z :: zs, F, hF, hz => by
    have hz0 := hz z (by simp)
    have hok := (meet_ok (hv := hv) hF hz0.1 hz0.2).1
    have hzs : ∀ y ∈ zs, 0 ≤ y ∧ y < n := fun y hy => hz y (by simp [hy])
    intro hb
    rcases meets_sound (hv := hv) (j := j) hh (zs := zs) hok hzs hb with h1 | h1
    · rcases meet_sound (hv := hv) hF hz0.1 hz0.2 hh h1 with h2 | h2
      · exact .inl h2
      · exact .inr ⟨by simp [h2.1], h2.2⟩
    · exact .inr ⟨by simp [h1.1], h1.2⟩
structure FI (l : List (List Int)) (needs : Int) (F : Fl) : Prop where
  ok : F.OK l.length
  c0 : F.come.getD 0 false = true
  b0 : ∀ h : Nat, h < 8 → tb needs h = false → tb (F.held.getD 0 0) h = false
  sound : ∀ i h : Nat, i < l.length → h < 8 → tb (F.held.getD i 0) h = false → tb needs h = false ∧ Way l h i
  clos : ∀ i : Nat, i < l.length → F.come.getD i false = true → (i : Int) ∈ F.todo ∨ ∀ z ∈ behind l.length i (l.getD i []), F.come.getD z.toNat false = true ∧ ∀ h : Nat, h < 8 → tb (hvOf (l.getD i []) (F.held.getD i 0)) h = false → tb (F.held.getD z.toNat 0) h = false
theorem FI.start {l : List (List Int)} {needs : Int} (hl : 0 < l.length) : FI l needs ((Fl0 l.length).meet 0 (andI .i64 needs 255)) := by
  have h0 := Fl0_ok l.length
  have hok := (meet_ok (hv := andI .i64 needs 255) (i := 0) h0 (by omega) (by omega)).1
  have e : (Fl0 l.length).meet 0 (andI .i64 needs 255) = ⟨(List.replicate l.length 255).set 0 (andI .i64 255 (andI .i64 needs 255)), (List.replicate l.length false).set 0 true, [0]⟩ := by
    have hs : (Fl0 l.length).stay 0 (andI .i64 needs 255) = false := by simp [Fl.stay, Fl0, hl]
    unfold Fl.meet; rw [hs]
    simp [Fl0, Fl.now, hl]
  have hhe : ∀ i : Nat, i < l.length → ((Fl0 l.length).meet 0 (andI .i64 needs 255)).held.getD i 0 = if i = 0 then andI .i64 255 (andI .i64 needs 255) else 255 := by
    intro i hi
    rw [e]; simp only [List.getD_eq_getElem?_getD, List.getElem?_set]
    by_cases hz : i = 0
    · subst hz; simp [hl]
    · have : ¬ 0 = i := fun q => hz q.symm
      simp [hz, this, hi]
  refine ⟨hok, by rw [e]; simp [hl], fun h hh hb => ?_, fun i h hi hh hb => ?_, fun i hi hc => ?_⟩
  · rw [hhe 0 hl, if_pos rfl, tb_and _ _ (by omega), tb_and _ _ (by omega), hb]; simp
  · rw [hhe i hi] at hb
    split at hb
    · rename_i hz; subst hz
      rw [tb_and _ _ (by omega), tb_and _ _ (by omega), tb255 hh] at hb
      exact ⟨by simpa using hb, .zero⟩
    · rw [tb255 hh] at hb; cases hb
  · left
    rw [e] at hc ⊢
    simp only [List.getD_eq_getElem?_getD, List.getElem?_set] at hc
    by_cases hz : i = 0
    · subst hz; simp
    · have : ¬ 0 = i := fun q => hz q.symm
      simp [this, hi] at hc
theorem FI.step {l : List (List Int)} {needs : Int} {F : Fl} (hn : l.length ≤ 4294967296) (h : FI l needs F) : FI l needs (F.step l) := by
  unfold Fl.step
  cases ht : F.todo with
  | nil => exact h
  | cons i t =>
    have hi := h.ok.todo i (by rw [ht]; simp)
    have hok : Fl.OK l.length { F with todo := t } := ⟨h.ok.held, h.ok.come, h.ok.bits, fun z hz => h.ok.todo z (by rw [ht]; simp [hz])⟩
    have hzs := behind_in (x := l.getD i.toNat []) hn hi.1 hi.2
    have hin : i.toNat < l.length := by omega
    have hii : ((i.toNat : Nat) : Int) = i := Int.toNat_of_nonneg hi.1
    refine ⟨(meets_ok hok hzs).1, (meets_mono (h := 0) (by omega) hok hzs).1 h.c0, fun h' hh hb => (meets_mono hh hok hzs).2.1 (h.b0 h' hh hb), fun j h' hj hh hb => ?_, fun j hj hc => ?_⟩
    · rcases meets_sound hh hok hzs hb with h1 | ⟨hjz, h1⟩
      · exact h.sound j h' hj hh h1
      · rw [tb_hv hh] at h1
        simp only [Bool.or_eq_false_iff] at h1
        have := h.sound i.toNat h' hin hh h1.1
        rw [hii] at this
        exact ⟨this.1, this.2.next h1.2 hjz⟩
    · rcases meets_same (j := j) (hv := hvOf (l.getD i.toNat []) (F.held.getD i.toNat 0)) hok hzs with ⟨h1, h2⟩ | h1
      · rw [h2] at hc
        rw [h1]
        by_cases hji : j = i.toNat
        · subst hji
          right
          intro z hz
          rw [hii] at hz
          exact ⟨(meets_post (h := 0) (by omega) hok hzs z hz).1, fun h' hh hb => (meets_post hh hok hzs z hz).2 hb⟩
        · rcases h.clos j hj hc with h3 | h3
          · left
            rw [ht] at h3
            rcases List.mem_cons.1 h3 with h3 | h3
            · omega
            · exact (meets_mono (h := 0) (j := 0) (by omega) hok hzs).2.2 _ h3
          · right
            intro z hz
            exact ⟨(meets_mono (h := 0) (by omega) hok hzs).1 (h3 z hz).1, fun h' hh hb => (meets_mono hh hok hzs).2.1 ((h3 z hz).2 h' hh hb)⟩
      · exact .inl h1
theorem FI.steps {l : List (List Int)} {needs : Int} (hn : l.length ≤ 4294967296) {F : Fl} (h : FI l needs F) : ∀ m, FI l needs (Fl.steps l m F)
  | 0 => h
  | m + 1 => (FI.steps hn h m).step hn
theorem FI.way {l : List (List Int)} {needs : Int} {F : Fl} (hn : l.length ≤ 4294967296) (hl : 0 < l.length) (h : FI l needs F) (ht : F.todo = []) {h' : Nat} (hh : h' < 8) (hb : tb needs h' = false) {i : Int} (hw : Way l h' i) :
    (0 ≤ i ∧ i < l.length) ∧ F.come.getD i.toNat false = true ∧ tb (F.held.getD i.toNat 0) h' = false := by
  induction hw with
  | zero => exact ⟨⟨by omega, by omega⟩, h.c0, h.b0 h' hh hb⟩
  | @next i z hw hf hz ih =>
    obtain ⟨hi, hc, hbi⟩ := ih
    have hin : i.toNat < l.length := by omega
    have hii : ((i.toNat : Nat) : Int) = i := Int.toNat_of_nonneg hi.1
    have := behind_in (x := l.getD i.toNat []) hn hi.1 hi.2 z hz
    rcases h.clos i.toNat hin hc with h3 | h3
    · rw [ht] at h3; cases h3
    · rw [hii] at h3
      have h4 := h3 z hz
      refine ⟨this, h4.1, h4.2 h' hh ?_⟩
      rw [tb_hv hh, hbi, hf]; rfl
theorem held_law {l : List (List Int)} {needs : Int} {F : Fl} (hn : l.length ≤ 4294967296) (hR : Reached l needs F) : F.held = heldL l needs := by
  by_cases hl : l = []
  · subst hl
    rw [hR.2.1 rfl]; simp [Fl0, heldL]
  · obtain ⟨m, hm⟩ := hR.2.2 hl
    have hpos : 0 < l.length := List.length_pos_iff.2 hl
    have hI : FI l needs F := by rw [hm]; exact (FI.start hpos).steps hn m
    refine List.ext_getElem (by rw [hI.ok.held, heldL_len]) fun i h1 h2 => ?_
    have hi : i < l.length := by rw [hI.ok.held] at h1; exact h1
    have e1 : F.held[i] = F.held.getD i 0 := by simp [h1]
    have e2 : (heldL l needs)[i] = rs (heldB l needs i) 8 := by rw [← heldL_get hi]; simp [h2]
    have hbb := hI.ok.bits F.held[i] (List.getElem_mem h1)
    rw [e2, ← rs_tb hbb.1 hbb.2]
    refine rs_congr fun h hh => ?_
    rw [e1]
    cases hb : heldB l needs i h with
    | true =>
      cases hb2 : tb (F.held.getD i 0) h with
      | true => rfl
      | false =>
        have := hI.sound i h hi hh hb2
        rcases heldB_iff.1 hb with h3 | h3
        · rw [this.1] at h3; cases h3
        · exact (h3 this.2).elim
    | false =>
      have hn1 : ¬ (tb needs h = true ∨ ¬ Way l h i) := by rw [← heldB_iff, hb]; simp
      have hn2 : tb needs h = false := by
        cases q : tb needs h with
        | true => exact (hn1 (.inl q)).elim
        | false => rfl
      have hw : Way l h i := Classical.byContradiction fun q => hn1 (.inr q)
      have := (hI.way hn hpos hR.1 hh hn2 hw).2.2
      rwa [Int.toNat_natCast] at this
structure WI (l : List (List Int)) (h : Int) (W : Wy) : Prop where
  ok : W.OK l.length
  c0 : W.out.getD 0 false = true
  tout : ∀ y ∈ W.todo, W.out.getD y.toNat false = true
  sound : ∀ i : Nat, i < l.length → W.out.getD i false = true → Way l h i
  clos : ∀ i : Nat, i < l.length → W.out.getD i false = true → (i : Int) ∈ W.todo ∨ forks (l.getD i []) h = true ∨ ∀ z ∈ behind l.length i (l.getD i []), W.out.getD z.toNat false = true
theorem see_all {n : Nat} {W : Wy} {z : Int} (hW : W.OK n) (h0 : 0 ≤ z) (h1 : z < n) (j : Nat) :
    (W.out.getD j false = true → (W.see z).out.getD j false = true) ∧ (∀ y ∈ W.todo, y ∈ (W.see z).todo) ∧ ((W.see z).out.getD j false = true → W.out.getD j false = true ∨ ((j : Int) = z ∧ (j : Int) ∈ (W.see z).todo)) ∧ (W.see z).out.getD z.toNat false = true := by
  have hz : z.toNat < W.out.length := by rw [hW.out]; omega
  unfold Wy.see
  split
  · rename_i hs; exact ⟨id, fun _ h => h, fun h => .inl h, hs⟩
  · refine ⟨fun h => ?_, fun y hy => List.mem_append_left _ hy, fun h => ?_, by simp [hz]⟩
    · simp only [List.getD_eq_getElem?_getD, List.getElem?_set]
      split
      · simp [hz]
      · simpa using h
    · by_cases e : z.toNat = j
      · right
        have : (j : Int) = z := by omega
        exact ⟨this, by rw [this]; simp⟩
      · left
        simpa [List.getD_eq_getElem?_getD, List.getElem?_set, e] using h
theorem sees_all {n : Nat} (j : Nat) : ∀ {zs : List Int} {W : Wy}, W.OK n → (∀ z ∈ zs, 0 ≤ z ∧ z < n) →
    (W.out.getD j false = true → (W.sees zs).out.getD j false = true) ∧ (∀ y ∈ W.todo, y ∈ (W.sees zs).todo) ∧ ((W.sees zs).out.getD j false = true → W.out.getD j false = true ∨ ((j : Int) ∈ zs ∧ (j : Int) ∈ (W.sees zs).todo)) ∧ (∀ z ∈ zs, (W.sees zs).out.getD z.toNat false = true)
  | [], W, _, _ => ⟨id, fun _ h => h, fun h => .inl h, fun z hz => by cases hz⟩
  | z :: zs, W, hW, hz => by
    have hz0 := hz z (by simp)
    have hok := (see_ok hW hz0.1 hz0.2).1
    have hzs : ∀ y ∈ zs, 0 ≤ y ∧ y < n := fun y hy => hz y (by simp [hy])
    have h1 := see_all hW hz0.1 hz0.2 j
    have h2 := sees_all j (zs := zs) hok hzs
    refine ⟨fun q => h2.1 (h1.1 q), fun y hy => h2.2.1 y (h1.2.1 y hy), fun q => ?_, fun y hy => ?_⟩
    · rcases h2.2.2.1 q with q | q
      · rcases h1.2.2.1 q with q | q
        · exact .inl q
        · exact .inr ⟨by rw [q.1]; simp, h2.2.1 _ q.2⟩
      · exact .inr ⟨by simp [q.1], q.2⟩
    · rcases List.mem_cons.1 hy with rfl | hy
      · exact (sees_all y.toNat (zs := zs) hok hzs).1 h1.2.2.2
      · exact h2.2.2.2 y hy
theorem sees_todo : ∀ {zs : List Int} {W : Wy}, ∀ y ∈ (W.sees zs).todo, y ∈ W.todo ∨ y ∈ zs
  | [], W, y, hy => .inl hy
  | z :: zs, W, y, hy => by
    rcases sees_todo (zs := zs) (W := W.see z) y hy with h | h
    · unfold Wy.see at h
      split at h
      · exact .inl h
      · rcases List.mem_append.1 h with h | h
        · exact .inl h
        · simp at h; exact .inr (by simp [h])
    · exact .inr (by simp [h])
theorem WI.start {l : List (List Int)} {h : Int} (hl : 0 < l.length) : WI l h (W0 l.length) := by
  refine ⟨W0_ok hl, by simp [W0, hl], fun y hy => by simp [W0] at hy; subst hy; simp [W0, hl], fun i hi hb => ?_, fun i hi hb => .inl ?_⟩
  · by_cases hz : i = 0
    · subst hz; exact .zero
    · have : ¬ 0 = i := fun q => hz q.symm
      simp [W0, List.getD_eq_getElem?_getD, List.getElem?_set, this, hi] at hb
  · by_cases hz : i = 0
    · subst hz; simp [W0]
    · have : ¬ 0 = i := fun q => hz q.symm
      simp [W0, List.getD_eq_getElem?_getD, List.getElem?_set, this, hi] at hb
theorem WI.step {l : List (List Int)} {h : Int} {W : Wy} (hn : l.length ≤ 4294967296) (hW : WI l h W) : WI l h (W.step l h) := by
  unfold Wy.step
  cases hg : W.todo.getLast? with
  | none => exact hW
  | some i =>
    have ht : W.todo ≠ [] := by intro e; rw [e] at hg; cases hg
    have hgl : W.todo.getLast ht = i := by rw [List.getLast?_eq_some_getLast ht] at hg; simpa using hg
    have hi := hW.ok.todo i (hgl ▸ List.getLast_mem ht)
    have hsplit : ∀ y ∈ W.todo, y = i ∨ y ∈ W.todo.dropLast := by
      intro y hy
      rw [← List.dropLast_concat_getLast ht, hgl] at hy
      rcases List.mem_append.1 hy with hy | hy
      · exact .inr hy
      · exact .inl (by simpa using hy)
    have hok : Wy.OK l.length { W with todo := W.todo.dropLast } := ⟨hW.ok.out, fun z hz => hW.ok.todo z (List.dropLast_subset _ hz)⟩
    have hin : i.toNat < l.length := by omega
    have hii : ((i.toNat : Nat) : Int) = i := Int.toNat_of_nonneg hi.1
    simp only
    split
    · rename_i hf
      refine ⟨hok, hW.c0, fun y hy => hW.tout y (List.dropLast_subset _ hy), hW.sound, fun j hj hc => ?_⟩
      rcases hW.clos j hj hc with h1 | h1
      · rcases hsplit _ h1 with h2 | h2
        · right; left
          have : j = i.toNat := by omega
          rw [this]; exact hf
        · exact .inl h2
      · exact .inr h1
    · rename_i hf
      have hzs := behind_in (x := l.getD i.toNat []) hn hi.1 hi.2
      have hf' : forks (l.getD i.toNat []) h = false := by simpa using hf
      have hout := hW.tout i (hgl ▸ List.getLast_mem ht)
      have hwi : Way l h i := by have := hW.sound i.toNat hin hout; rwa [hii] at this
      refine ⟨(sees_ok hok hzs).1, (sees_all 0 hok hzs).1 hW.c0, fun y hy => ?_, fun j hj hb => ?_, fun j hj hc => ?_⟩
      · rcases sees_todo y hy with hy | hy
        · exact (sees_all _ hok hzs).1 (hW.tout y (List.dropLast_subset _ hy))
        · exact (sees_all 0 hok hzs).2.2.2 y hy
      · rcases (sees_all j hok hzs).2.2.1 hb with h1 | h1
        · exact hW.sound j hj h1
        · exact hwi.next hf' h1.1
      · rcases (sees_all j hok hzs).2.2.1 hc with h1 | h1
        · rcases hW.clos j hj h1 with h2 | h2 | h2
          · rcases hsplit _ h2 with h3 | h3
            · right; right
              have : j = i.toNat := by omega
              rw [this, hii]
              exact (sees_all j hok hzs).2.2.2
            · exact .inl ((sees_all j hok hzs).2.1 _ h3)
          · exact .inr (.inl h2)
          · exact .inr (.inr fun z hz => (sees_all z.toNat hok hzs).1 (h2 z hz))
        · exact .inl h1.2
theorem WI.steps {l : List (List Int)} {h : Int} (hn : l.length ≤ 4294967296) {W : Wy} (hW : WI l h W) : ∀ m, WI l h (Wy.steps l h m W)
  | 0 => hW
  | m + 1 => (WI.steps hn hW m).step hn
end Go.Proofs.YtgkfbagclkjilaaGreatDoor.Ck
namespace Go.Proofs.YtgkfbagclkjilaaGreatDoor.Ck
open Go Go.Ev Go.Proofs
theorem heldL_s {w : World} {s : Sl} {needs : Int} {l : List (List Int)} {k : Sl → World → Prop} (hr : Code5 w s l) (hn : l.length ≤ 1000)
    (hc : ∀ s' w', St w w' [slc 1 s' (ints (heldL l needs))] → s'.n = l.length → k s' w') : check_Held #[.int .i64 needs, .slice s.a s.n s.c] w k := by
  have hsn := hr.len
  refine held_s hr (by omega) fun F s' w' hR h => ?_
  rw [held_law (by omega) hR] at h
  have hl : (heldL l needs).length = s'.n := by have := h.slen (sz := 1) (s := s') (vs := ints (heldL l needs)); simpa using this
  exact hc s' w' h (by rw [← hl, heldL_len])
end Go.Proofs.YtgkfbagclkjilaaGreatDoor.Ck
namespace Go.Proofs.YtgkfbagclkjilaaGreatDoor.Ck
open Go Go.Ev Go.Proofs
def kflat : List Int := [1, 0, 0, 5,  1, 1, 0, 0,  1, 1, 1, 0,  1, 1, 1, 0,  1, 1, 1, 0,  1, 1, 1, 0,  0, 0, 0, 2,  1, 0, 0, 2,  1, 0, 0, 3,  1, 1, 0, 0,  1, 1, 1, 0,  0, 0, 0, 4,  1, 0, 0, 0,  0, 0, 0, 0,  0, 0, 0, 0,  1, 0, 0, 0,  1, 0, 0, 0]
def kinds (op : Int) : List Int := (kflat.drop (op.toNat * 4)).take 4
theorem one_agI (l : List Int) : ∀ v ∈ agI l, v.oneCell' = true := by
  intro v hv
  exact one_ints v (by simpa [agI] using hv)
theorem operands_s {w : World} {op : Int} {k : Array Value → World → Prop} (h0 : 0 ≤ op) (h1 : op < 17) (hc : ∀ w', St w w' [] → k (agI (kinds op)) w') : code_operands op w k := by
  unfold code_operands
  refine newC_h (.nil w) fun g1 w2 h => ?_
  iterate 16 refine ⟨rfl, ?_⟩
  refine spl_i (agI kflat) rfl (by kernel_rfl) ?_
  refine newC_h h fun g2 w21 h => ?_
  refine stW_h (g := g2) h rfl (by kernel_rfl) (one_agI _) fun w22 h => ?_
  refine ixP_i h0 (by omega) ?_
  refine ldA_h (g := g2) h (by simp [ints, kflat]; omega) ?_
  have e : (List.take 4 (List.drop (0 + op.toNat * 4) (agI kflat).toList)) = ints (kinds op) := by
    simp [kinds, ints, agI, List.map_take, List.map_drop]
  rw [e]
  have hl : (kinds op).length = 4 := by simp [kinds, kflat]; omega
  refine stW_h (g := g1) h rfl (by simp [ints, hl]) (one_agI _) fun w25 h => ?_
  refine ldW_h (g := g1) h (by simp [ints, hl]) ?_
  exact hc _ h.all
def spanOf (kd : Int) : Int × Int := cond (kd == 1) (0, 7) (cond (kd == 2) (0, 127) (cond (kd == 3) (0, 31) (cond (kd == 4) (0, 65535) (cond (kd == 5) (-2147483648, 2147483647) (0, 0)))))
theorem span_s {w : World} {kd : Int} {k : Int × Int → World → Prop} (hc : k (spanOf kd) w) : code_span kd w k := by
  unfold code_span
  unfold spanOf at hc
  revert hc
  cases (kd == 1) <;> cases (kd == 2) <;> cases (kd == 3) <;> cases (kd == 4) <;> cases (kd == 5) <;> exact id
def fit (x ks : List Int) (j : Nat) : Bool := !(decide (x.getD (j + 1) 0 < (spanOf (ks.getD j 0)).1) || decide (x.getD (j + 1) 0 > (spanOf (ks.getD j 0)).2))
def fits (x ks : List Int) : Bool := (List.range 4).all (fit x ks)
def chk (x : List Int) : Int := if opI x < 0 ∨ 17 ≤ opI x then 13 else if fits x (kinds (opI x)) then 0 else 10
theorem fits_all {x ks : List Int} (h : ∀ j, j < 4 → fit x ks j = true) : fits x ks = true := by
  unfold fits; rw [List.all_eq_true]; intro j hj; exact h j (by simpa using hj)
theorem fits_not {x ks : List Int} {j : Nat} (hj : j < 4) (h : fit x ks j = false) : fits x ks = false := by
  unfold fits; rw [List.all_eq_false]; exact ⟨j, by simpa using hj, by simp [h]⟩
theorem ccheck_s {w : World} {x : List Int} {k : Int → World → Prop} (h5 : x.length = 5) (hc : ∀ w', St w w' [] → k (chk x) w') : code_Check (agI x) w k := by
  obtain ⟨o, a, b, c, n, rfl⟩ : ∃ o a b c n, x = [o, a, b, c, n] := by
    match x, h5 with
    | [o, a, b, c, n], _ => exact ⟨o, a, b, c, n, rfl⟩
  unfold code_Check code_Check_b
  refine newC_h (.nil w) fun g1 w2 h => ?_
  refine joinP_i (fun b w' => b = decide (o < 0 ∨ 17 ≤ o) ∧ w' = w2) (fun J hJ => ?_) ?_
  · refine ldI_h (g := g1) (o := 0) h rfl (iteB_i (fun hb => ?_) fun hb => ?_)
    · have := of_decide_eq_true hb
      exact hJ _ _ ⟨(decide_eq_true (.inl this)).symm, rfl⟩
    · have := of_decide_eq_false hb
      refine ldI_h (g := g1) (o := 0) h rfl (hJ _ _ ⟨?_, rfl⟩)
      rw [decide_eq_decide]; omega
  rintro b1 w7 ⟨rfl, rfl⟩
  refine iteB_i (fun hb => ?_) fun hb => ?_
  · have := of_decide_eq_true hb
    have e : chk [o, a, b, c, n] = 13 := if_pos this
    have := hc w7 h.all
    rwa [e] at this
  · have hno := of_decide_eq_false hb
    have e : chk [o, a, b, c, n] = if fits [o, a, b, c, n] (kinds o) then 0 else 10 := if_neg hno
    rw [e] at hc
    have hl : (kinds o).length = 4 := by simp [kinds, kflat]; omega
    refine ldI_h (g := g1) (o := 0) h rfl ?_
    refine operands_s (by omega) (by omega) fun w10 h2 => ?_
    have h := h.on h2.ext
    refine newC_h h fun g2 w12 h => ?_
    refine stW_h (g := g2) h rfl (by simp [ints, hl]) (one_agI _) fun w13 h => ?_
    refine ldI_h (g := g1) (o := 1) h rfl (ldI_h (g := g1) (o := 2) h rfl (ldI_h (g := g1) (o := 3) h rfl (ldI_h (g := g1) (o := 4) h rfl ?_)))
    refine loopP_of (fun (y : Int × Int) w' => ∃ j : Nat, y = (0, (j : Int)) ∧ j ≤ 4 ∧ (∀ i, i < j → fit [o, a, b, c, n] (kinds o) i = true) ∧ w' = w13) (fun y _ => (4 - y.2).toNat) ⟨0, rfl, by omega, fun i hi => by omega, rfl⟩ ?_
    rintro _ _ ⟨j, rfl, hj4, hfit, rfl⟩ C hC
    refine iteB_i (fun hb => ?_) fun hb => ?_
    · have hj : j < 4 := by have := of_decide_eq_true hb; dsimp only at this; omega
      have hw2 : IntKind.wrap .i64 ((j : Int) + 1) = ((j + 1 : Nat) : Int) := by rw [wrap_id ⟨by omega, by omega⟩]; simp
      refine ixA_I (l := [a, b, c, n]) (by dsimp only; omega) (by dsimp only; omega) rfl (toI_i ?_)
      refine ixP_i (by dsimp only; omega) (by dsimp only; omega) ?_
      refine ldI_h (g := g2) (o := 0 + (j : Int).toNat * 1) (n := (kinds o).getD j 0) h (by rw [show 0 + (j : Int).toNat * 1 = j by omega]; exact ints_getD (by omega)) ?_
      refine span_s ?_
      have ef : [a, b, c, n].getD (j : Int).toNat 0 = [o, a, b, c, n].getD (j + 1) 0 := by rw [Int.toNat_natCast]; rfl
      dsimp only
      rw [ef]
      have ed : (decide ([o, a, b, c, n].getD (j + 1) 0 < (spanOf ((kinds o).getD j 0)).1) || decide ([o, a, b, c, n].getD (j + 1) 0 > (spanOf ((kinds o).getD j 0)).2)) = !(fit [o, a, b, c, n] (kinds o) j) := by unfold fit; rw [Bool.not_not]
      rw [ed]
      refine iteB_i (fun hb => ?_) fun hb => ?_
      · have hf : fit [o, a, b, c, n] (kinds o) j = false := by simpa using hb
        have := hc _ h.all
        rw [fits_not hj hf] at this; exact this
      · have hf : fit [o, a, b, c, n] (kinds o) j = true := by simpa using hb
        rw [hw2]
        refine hC _ _ ⟨j + 1, rfl, hj, fun i hi => ?_, rfl⟩ (by dsimp only; omega)
        by_cases e : i = j
        · rw [e]; exact hf
        · exact hfit i (by omega)
    · have hj : j = 4 := by have := of_decide_eq_false hb; dsimp only at this; omega
      subst hj
      have := hc _ h.all
      rw [fits_all hfit] at this; exact this
end Go.Proofs.YtgkfbagclkjilaaGreatDoor.Ck
namespace Go.Proofs.YtgkfbagclkjilaaGreatDoor.Ck
open Go Go.Ev Go.Proofs
end Go.Proofs.YtgkfbagclkjilaaGreatDoor.Ck
namespace Go.Proofs.YtgkfbagclkjilaaGreatDoor.Ck
open Go Go.Ev Go.Proofs
def firstBad : Nat → List (List Int) → Int × Int
  | _, [] => (0, 0)
  | i, x :: l => if chk x != 0 then ((i : Int), chk x) else firstBad (i + 1) l
def shapeF (needs : Int) (l : List (List Int)) : Int × Int :=
  if decide (needs < 0) || decide (needs > 255) then (-1, 10) else if decide (l.length < 1) || decide (l.length > 128) then (-1, 12) else firstBad 0 l
theorem firstBad_step {l dn rest : List (List Int)} {x : List Int} (hl : l = dn ++ x :: rest) (hd : firstBad 0 l = firstBad dn.length (x :: rest)) (hx : (chk x != 0) = false) : firstBad 0 l = firstBad (dn ++ [x]).length rest := by
  rw [hd]; simp [firstBad, hx]
theorem shape_s {w : World} {s : Sl} {needs : Int} {l : List (List Int)} {k : Int × Int → World → Prop} (hr : Code5 w s l)
    (hc : ∀ w', St w w' [] → k (shapeF needs l) w') : check_shape #[.int .i64 needs, .slice s.a s.n s.c] w k := by
  have hsn := hr.len
  unfold check_shape check_shape_b
  refine newC_h (.nil w) fun g w2 h => ?_
  refine joinP_i (fun b w' => b = (decide (needs < 0) || decide (needs > 255)) ∧ w' = w2) (fun J hJ => ?_) ?_
  · refine ldI_h (g := g) (o := 0) h rfl (iteB_i (fun hb => ?_) fun hb => ?_)
    · exact hJ _ _ ⟨by rw [hb]; rfl, rfl⟩
    · refine ldI_h (g := g) (o := 0) h rfl (hJ _ _ ⟨by rw [hb]; rfl, rfl⟩)
  rintro b1 w7 ⟨rfl, rfl⟩
  unfold shapeF at hc
  refine iteB_i (fun hb => ?_) fun hb => ?_
  · rw [hb] at hc; exact hc _ h.all
  · rw [hb] at hc
    refine joinP_i (fun b w' => b = (decide (l.length < 1) || decide (l.length > 128)) ∧ w' = w7) (fun J hJ => ?_) ?_
    · have e1 : decide (((s.n : Nat) : Int) < 1) = decide (l.length < 1) := by rw [decide_eq_decide]; omega
      have e2 : decide (((s.n : Nat) : Int) > 128) = decide (l.length > 128) := by rw [decide_eq_decide]; omega
      refine ldS_h (g := g) (o := 1) h rfl (iteB_i (fun hb => ?_) fun hb => ?_)
      · exact hJ _ _ ⟨by rw [← e1]; dsimp only at hb; rw [hb]; rfl, rfl⟩
      · refine ldS_h (g := g) (o := 1) h rfl (hJ _ _ ⟨by rw [← e1, ← e2]; dsimp only at hb; rw [hb]; rfl, rfl⟩)
    rintro b2 w12 ⟨rfl, rfl⟩
    refine iteB_i (fun hb2 => ?_) fun hb2 => ?_
    · rw [hb2] at hc; exact hc _ h.all
    · rw [hb2] at hc
      have hl128 : l.length ≤ 128 := by
        rw [Bool.or_eq_false_iff] at hb2; have := of_decide_eq_false hb2.2; omega
      refine ldS_h (g := g) (o := 1) h rfl ?_
      refine loopP_of (fun (i : Int) w' => ∃ dn rest, l = dn ++ rest ∧ i = (dn.length : Int) ∧ firstBad 0 l = firstBad dn.length rest ∧ St w w' []) (fun i _ => ((s.n : Int) - i).toNat) ⟨[], l, rfl, rfl, rfl, h.all⟩ ?_
      rintro _ w16 ⟨dn, rest, hl, rfl, hd, h⟩ C hC
      cases rest with
      | nil =>
        refine iteB_f (by simp only [decide_eq_false_iff_not]; rw [hsn, hl]; simp) ?_
        rw [hd] at hc; exact hc _ h
      | cons x rest =>
        have hlen : l.length = dn.length + (rest.length + 1) := by rw [hl]; simp
        have hw1 : IntKind.wrap .i64 ((dn.length : Int) + 1) = ((dn ++ [x]).length : Int) := by rw [wrap_id ⟨by omega, by omega⟩]; simp
        refine iteB_t (by simp only [decide_eq_true_eq]; omega) ?_
        refine ixC (hr.ext h.ext) hl rfl fun p h5 hcell => ldA_c (by simp [Go.Ev.ints, h5]) hcell ?_
        refine newC_h h fun g2 w20 h => stW_h (g := g2) h rfl (by simp [Go.Ev.ints, h5]) (one_agI _) fun w21 h => ldW_h (g := g2) h (by simp [Go.Ev.ints, h5]) ?_
        refine ccheck_s h5 fun w24 h2 => ?_
        have h := h.all.on h2.ext
        refine iteB_i (fun hb3 => ?_) fun hb3 => ?_
        · have e : firstBad dn.length (x :: rest) = ((dn.length : Int), chk x) := by unfold firstBad; rw [hb3]; rfl
          rw [hd, e] at hc
          exact hc _ h
        · rw [hw1]
          exact hC _ _ ⟨dn ++ [x], rest, by rw [hl]; simp, rfl, firstBad_step hl hd hb3, h⟩ (by simp; omega)
def placesE (nf n : Nat) (x : List Int) : Int := if (isGoes x && decide (x.getD 4 0 ≥ n)) || ((opI x == 8) && decide (x.getD 4 0 ≥ nf)) then 10 else 0
def lastE (n : Nat) (i : Nat) (x : List Int) : Int := if ((i : Int) == (n : Int) - 1) && (opI x != 6) && !isEnds x then 11 else 0
def scopesOk (D : List Int) (i : Nat) (x : List Int) : Bool :=
  if (opI x == 12) || (opI x == 13) then decide (D.getD i 0 ≥ 1) else if opI x == 16 then D.getD i 0 == 0 else if isGoes x then D.getD (x.getD 4 0).toNat 0 == D.getD i 0 else true
def subBits (a b : Int) : Bool := (List.range 8).all fun h => !tb a h || tb b h
def needsOf (P : List FnR) (i : Int) : Int := (P.map FnR.needs).getD i.toNat 0
def handlesOk (P : List FnR) (hv : Int) (x : List Int) : Bool :=
  if opI x == 9 then tb hv (x.getD 2 0).toNat else if opI x == 10 then tb hv (x.getD 3 0).toNat else if opI x == 8 then subBits (needsOf P (x.getD 4 0)) hv else true
def askE (P : List FnR) (n : Nat) (D H : List Int) (i : Nat) (x : List Int) : Nat → Int
  | 0 => placesE P.length n x
  | 1 => lastE n i x
  | 2 => if scopesOk D i x then 0 else 15
  | _ => if handlesOk P (H.getD i 0) x then 0 else 16
def wrongF (P : List FnR) (n : Nat) (D H : List Int) (i : Nat) (x : List Int) : Int :=
  if askE P n D H i x 0 != 0 then askE P n D H i x 0 else if askE P n D H i x 1 != 0 then askE P n D H i x 1 else if askE P n D H i x 2 != 0 then askE P n D H i x 2 else askE P n D H i x 3
def funcFault (P : List FnR) (n : Nat) (D H : List Int) : Nat → List (List Int) → Option (Int × Int)
  | _, [] => none
  | i, x :: l => if wrongF P n D H i x != 0 then some ((i : Int), wrongF P n D H i x) else funcFault P n D H (i + 1) l
noncomputable def fault1 (P : List FnR) (f : FnR) : Option (Int × Int) := funcFault P f.code.length (depths 0 f.code) (heldL f.code f.needs) 0 f.code
noncomputable def faults (P : List FnR) : Nat → List FnR → Option (Int × Int × Int)
  | _, [] => none
  | k, f :: l => match fault1 P f with
    | some (i, e) => some ((k : Int), i, e)
    | none => faults P (k + 1) l
def shapes : Nat → List FnR → Option (Int × Int × Int)
  | _, [] => none
  | k, f :: l => if (shapeF f.needs f.code).2 != 0 then some ((k : Int), (shapeF f.needs f.code).1, (shapeF f.needs f.code).2) else shapes (k + 1) l
noncomputable def progF (P : List FnR) : Int × Int × Int :=
  if decide (P.length < 1) || decide (P.length > 32) then (-1, -1, 12) else match shapes 0 P with
    | some x => x
    | none => if needsOf P 0 != 0 then (0, -1, 16) else match faults P 0 P with
      | some x => x
      | none => (0, 0, 0)
end Go.Proofs.YtgkfbagclkjilaaGreatDoor.Ck
namespace Go.Proofs.YtgkfbagclkjilaaGreatDoor.Ck
open Go Go.Ev Go.Proofs
theorem ixC_h {w0 w : World} {L : List HP} {s : Sl} {l : List (List Int)} {x : List Int} {i : Int} {c : Addr → Prop} (hr : Code5 w0 s l) (h : St w0 w L) (h0 : 0 ≤ i) (hx : l[i.toNat]? = some x)
    (hc : ∀ p : Addr, x.length = 5 → (∀ {w' L'}, St w0 w' L' → ∀ {j v}, (Go.Ev.ints x)[j]? = some v → w'.cell? (p.add j) = some v) → c p) : ixS s i 5 c :=
  ixR_h (e := Go.Ev.ints x) hr.rws h h0 (by rw [List.getElem?_map, hx]; rfl) fun p hp => hc p ((hr.five x (List.mem_of_getElem? hx)).1) hp
theorem samec_e {n : Nat} {a : Addr} {e : List Value} {w w' : World} {c : Prop} (he : n ≤ e.length) (h : ∀ {j v}, e[j]? = some v → w.cell? (a.add j) = some v) (h' : ∀ {j v}, e[j]? = some v → w'.cell? (a.add j) = some v) (hc : c) : samec n a w w' c :=
  ⟨fun k hk => by rw [h (List.getElem?_eq_getElem (by omega)), h' (List.getElem?_eq_getElem (by omega))], hc⟩
theorem chk0 {x : List Int} (h : chk x = 0) : 0 ≤ opI x ∧ opI x < 17 ∧ (isGoes x = true → 0 ≤ x.getD 4 0 ∧ x.getD 4 0 ≤ 127) ∧ (opI x = 8 → 0 ≤ x.getD 4 0 ∧ x.getD 4 0 ≤ 31 ∧ 0 ≤ x.getD 1 0 ∧ x.getD 1 0 ≤ 7) ∧ (opI x = 9 → 0 ≤ x.getD 2 0 ∧ x.getD 2 0 ≤ 7) ∧ (opI x = 10 → 0 ≤ x.getD 3 0 ∧ x.getD 3 0 ≤ 7) := by
  unfold chk at h
  split at h
  · cases h
  · rename_i hno
    split at h
    · rename_i hf
      unfold fits at hf
      rw [List.all_eq_true] at hf
      have f0 := hf 0 (by decide)
      have f1 := hf 1 (by decide)
      have f2 := hf 2 (by decide)
      have f3 := hf 3 (by decide)
      refine ⟨by omega, by omega, fun hg => ?_, fun ho => ?_, fun ho => ?_, fun ho => ?_⟩
      · have : opI x = 6 ∨ opI x = 7 := by unfold isGoes at hg; simpa using hg
        unfold fit at f3
        rcases this with ho | ho <;> rw [ho] at f3 <;> simp [kinds, kflat, spanOf] at f3 ⊢ <;> omega
      · unfold fit at f3 f0
        rw [ho] at f3 f0; simp [kinds, kflat, spanOf] at f3 f0 ⊢; omega
      · unfold fit at f1
        rw [ho] at f1; simp [kinds, kflat, spanOf] at f1 ⊢; omega
      · unfold fit at f2
        rw [ho] at f2; simp [kinds, kflat, spanOf] at f2 ⊢; omega
    · cases h
section
variable {w0 w : World} {gj : Nat} {ps s sd sh : Sl} {P : List FnR} {l : List (List Int)} {D H : List Int} {R : List HP} {i : Nat} {x : List Int} {k : Int → World → Prop}
theorem places_s (h : St w0 w (blk gj [.slice ps.a ps.n ps.c, .slice s.a s.n s.c, .slice sd.a sd.n sd.c, .slice sh.a sh.n sh.c] :: R)) (hr : Code5 w0 s l) (hx : l[i]? = some x) (hpn : ps.n = P.length)
    (hc : ∀ w', St w0 w' (blk gj [.slice ps.a ps.n ps.c, .slice s.a s.n s.c, .slice sd.a sd.n sd.c, .slice sh.a sh.n sh.c] :: R) → k (placesE P.length l.length x) w') : check_judge_places (some ⟨gj, 0, none⟩) (i : Int) w k := by
  have hsn := hr.len
  unfold check_judge_places check_judge_places_b
  refine nn_i (ldS_h (g := gj) (o := 1) h rfl (ixC_h hr h (by omega) hx fun p h5 hp => ldA_c (by simp [Go.Ev.ints, h5]) (fun j v => hp h) ?_))
  refine newC_h h fun g w6 h => stW_h (g := g) h rfl (by simp [Go.Ev.ints, h5]) (one_agI _) fun w7 h => ?_
  have h : St w0 w7 (blk g (ints x) :: blk gj [.slice ps.a ps.n ps.c, .slice s.a s.n s.c, .slice sd.a sd.n sd.c, .slice sh.a sh.n sh.c] :: R) := h
  refine joinP_i (fun b w' => b = ((isGoes x && decide (x.getD 4 0 ≥ l.length)) || ((opI x == 8) && decide (x.getD 4 0 ≥ P.length))) ∧ St w0 w' (blk g (ints x) :: blk gj [.slice ps.a ps.n ps.c, .slice s.a s.n s.c, .slice sd.a sd.n sd.c, .slice sh.a sh.n sh.c] :: R)) (fun J hJ => ?_) ?_
  · refine drew_h h fun w9 h => ldI_h (g := g) (o := 0) h (ints_get (by omega)) ?_
    have second : (isGoes x && decide (x.getD 4 0 ≥ l.length)) = false → ldI .i64 w9 (Addr.add ⟨g, 0, none⟩ 0) fun i16 =>
        iteB (i16 == (8 : Int)) (
          ldI .i64 w9 (Addr.add ⟨g, 0, none⟩ 4) fun i17 =>
          nn (some ⟨gj, 0, none⟩) fun a18 =>
          ldS w9 (Addr.add (Addr.add a18 0) 0) fun s19 =>
          (J (decide (i17 ≥ ((s19.n : Nat) : Int))) w9)) (
          (J false w9)) := by
      intro ha
      refine ldI_h (g := g) (o := 0) h (ints_get (by omega)) (iteB_i (fun hb => ?_) fun hb => ?_)
      · refine ldI_h (g := g) (o := 4) h (ints_get (by omega)) (nn_i (ldS_h (g := gj) (o := 0) h rfl (hJ _ _ ⟨?_, h⟩)))
        have hb' : (opI x == 8) = true := hb
        dsimp only; rw [ha, hb', hpn]; rfl
      · refine hJ _ _ ⟨?_, h⟩
        have hb' : (opI x == 8) = false := hb
        rw [ha, hb']; rfl
    show iteB _ _ _
    refine iteB_i (fun hg => ?_) fun hg => ?_
    · have hg' : isGoes x = true := hg
      refine ldI_h (g := g) (o := 4) h (ints_get (by omega)) (nn_i (ldS_h (g := gj) (o := 1) h rfl (iteB_i (fun hb => ?_) fun hb => ?_)))
      · refine hJ _ _ ⟨?_, h⟩
        dsimp only at hb
        rw [hsn] at hb
        rw [hg', hb]; rfl
      · dsimp only at hb
        rw [hsn] at hb
        exact second (by rw [hg', hb]; rfl)
    · have hg' : isGoes x = false := hg
      exact second (by rw [hg']; rfl)
  rintro b w25 ⟨rfl, h⟩
  unfold placesE at hc
  refine iteB_i (fun hb => ?_) fun hb => ?_
  · rw [hb] at hc; exact hc _ h.drop
  · rw [hb] at hc; exact hc _ h.drop
theorem last_s (h : St w0 w (blk gj [.slice ps.a ps.n ps.c, .slice s.a s.n s.c, .slice sd.a sd.n sd.c, .slice sh.a sh.n sh.c] :: R)) (hr : Code5 w0 s l) (hx : l[i]? = some x) (hn : l.length ≤ 1000)
    (hc : ∀ w', St w0 w' (blk gj [.slice ps.a ps.n ps.c, .slice s.a s.n s.c, .slice sd.a sd.n sd.c, .slice sh.a sh.n sh.c] :: R) → k (lastE l.length i x) w') : check_judge_last (some ⟨gj, 0, none⟩) (i : Int) w k := by
  have hsn := hr.len
  unfold check_judge_last check_judge_last_b
  refine nn_i (ldS_h (g := gj) (o := 1) h rfl (ixC_h hr h (by omega) hx fun p h5 hp => ldI_i (hp h (ints_get (by omega))) ?_))
  refine joinP_i (fun b w' => b = (((i : Int) == (l.length : Int) - 1) && (opI x != 6) && !isEnds x) ∧ w' = w) (fun J hJ => ?_) ?_
  · refine nn_i (ldS_h (g := gj) (o := 1) h rfl ?_)
    have hw : IntKind.wrap .i64 (((s.n : Nat) : Int) - 1) = (l.length : Int) - 1 := by rw [hsn, wrap_id ⟨by omega, by omega⟩]
    dsimp only
    rw [hw]
    refine iteB_i (fun hb => ?_) fun hb => ?_
    · exact hJ _ _ ⟨by have hb' : ((i : Int) == (l.length : Int) - 1 && (opI x != 6)) = true := hb
                       rw [hb']; rfl, rfl⟩
    · exact hJ _ _ ⟨by have hb' : ((i : Int) == (l.length : Int) - 1 && (opI x != 6)) = false := hb
                       rw [hb']; rfl, rfl⟩
  rintro b w25 ⟨rfl, rfl⟩
  unfold lastE at hc
  refine iteB_i (fun hb => ?_) fun hb => ?_
  · rw [hb] at hc; exact hc _ h
  · rw [hb] at hc; exact hc _ h
theorem scopes_s (h : St w0 w (blk gj [.slice ps.a ps.n ps.c, .slice s.a s.n s.c, .slice sd.a sd.n sd.c, .slice sh.a sh.n sh.c] :: slc 1 sd (ints D) :: R)) (hr : Code5 w0 s l) (hx : l[i]? = some x) (hn : l.length ≤ 1000) (hD : D.length = l.length)
    (h0 : isGoes x = true → 0 ≤ x.getD 4 0 ∧ x.getD 4 0 < l.length)
    (hc : ∀ w', St w0 w' (blk gj [.slice ps.a ps.n ps.c, .slice s.a s.n s.c, .slice sd.a sd.n sd.c, .slice sh.a sh.n sh.c] :: slc 1 sd (ints D) :: R) → k (if scopesOk D i x then 0 else 15) w') : check_judge_scopes (some ⟨gj, 0, none⟩) (i : Int) w k := by
  have hsn := hr.len
  have hil : i < l.length := (List.getElem?_eq_some_iff.1 hx).1
  unfold check_judge_scopes
  refine drew_h h fun w1 h => ?_
  refine nn_i (ldS_h (g := gj) (o := 1) h rfl (ixC_h hr h (by omega) hx fun p h5 hp => ldA_c (by simp [Go.Ev.ints, h5]) (fun j v => hp h) ?_))
  refine nn_i (ldS_h (g := gj) (o := 2) h rfl ?_)
  have hdn : D.length = sd.n := by have := h.slen (sz := 1) (s := sd) (vs := ints D); simpa using this
  refine ixS_h (s := sd) (vs := ints D) h (by omega) (by omega) (by omega) fun gd od _ hrd _ => ?_
  have hget : (ints D)[((i : Nat) : Int).toNat * 1 + 0]? = some (.int .i64 (D.getD i 0)) := by
    rw [show ((i : Nat) : Int).toNat * 1 + 0 = i by omega]; exact ints_getD (by omega)
  refine ldI_i (hrd h 0 _ (by omega) hget) ?_
  have h1 := h
  refine newC_h h fun g w11 h => ?_
  refine samec_1 (hrd h1 0 _ (by omega) hget) (hrd h 0 _ (by omega) hget) ?_
  refine samec_h h1 h ?_
  refine samec_e (e := ints x) (by simp [Go.Ev.ints, h5]) (fun {j v} => hp h1) (fun {j v} => hp h) ?_
  refine samec_h h1 h ?_
  refine stW_h (g := g) h rfl (by simp [Go.Ev.ints, h5]) (one_agI _) fun w12 h => ?_
  refine samec_1 (hrd h1 0 _ (by omega) hget) (hrd h 0 _ (by omega) hget) ?_
  refine samec_h h1 h ?_
  have h : St w0 w12 (blk g (ints x) :: blk gj [.slice ps.a ps.n ps.c, .slice s.a s.n s.c, .slice sd.a sd.n sd.c, .slice sh.a sh.n sh.c] :: slc 1 sd (ints D) :: R) := h
  refine ldI_h (g := g) (o := 0) h (ints_get (by omega)) ?_
  refine joinP_i (fun b w' => b = ((opI x == 12) || (opI x == 13)) ∧ w' = w12) (fun J hJ => ?_) ?_
  · refine iteB_i (fun hb => ?_) fun hb => ?_
    · have hb' : (opI x == 12) = true := hb
      exact hJ _ _ ⟨by rw [hb']; rfl, rfl⟩
    · have hb' : (opI x == 12) = false := hb
      exact hJ _ _ ⟨by rw [hb']; rfl, rfl⟩
  rintro b15 w16 ⟨rfl, rfl⟩
  refine joinP_i (fun b w' => b = scopesOk D i x ∧ St w0 w' (blk g (ints x) :: blk gj [.slice ps.a ps.n ps.c, .slice s.a s.n s.c, .slice sd.a sd.n sd.c, .slice sh.a sh.n sh.c] :: slc 1 sd (ints D) :: R)) (fun J hJ => ?_) ?_
  · unfold scopesOk at hJ
    refine iteB_i (fun hb => ?_) fun hb => ?_
    · rw [if_pos hb] at hJ; exact hJ _ _ ⟨rfl, h⟩
    · rw [if_neg (by rw [hb]; simp)] at hJ
      refine iteB_i (fun hb2 => ?_) fun hb2 => ?_
      · have hb' : (opI x == 16) = true := hb2
        rw [if_pos hb'] at hJ; exact hJ _ _ ⟨rfl, h⟩
      · have hb' : (opI x == 16) = false := hb2
        rw [if_neg (by rw [hb']; simp)] at hJ
        refine joinP_i (fun b w' => b = isGoes x ∧ w' = w16) (fun J2 hJ2 => ?_) ?_
        · refine iteB_i (fun hb => ?_) fun hb => ?_
          · have hb' : (opI x == 6) = true := hb
            exact hJ2 _ _ ⟨by unfold isGoes; rw [hb']; rfl, rfl⟩
          · have hb' : (opI x == 6) = false := hb
            exact hJ2 _ _ ⟨by unfold isGoes; rw [hb']; rfl, rfl⟩
        rintro b19 w20 ⟨rfl, rfl⟩
        refine iteB_i (fun hg => ?_) fun hg => ?_
        · rw [if_pos hg] at hJ
          have hN := h0 hg
          refine drew_h h fun w21 h => nn_i (ldS_h (g := gj) (o := 2) h rfl (ldI_h (g := g) (o := 4) h (ints_get (by omega)) ?_))
          refine ixI_h (s := sd) (xs := D) h hN.1 (by omega) ?_
          exact hJ _ _ ⟨rfl, h⟩
        · rw [if_neg (by rw [hg]; simp)] at hJ
          exact hJ _ _ ⟨rfl, h⟩
  rintro b27 w28 ⟨rfl, h⟩
  refine iteB_i (fun hb => ?_) fun hb => ?_
  · have hb' : scopesOk D i x = false := by simpa using hb
    rw [hb'] at hc; exact hc _ h.drop
  · have hb' : scopesOk D i x = true := by simpa using hb
    rw [hb'] at hc; exact hc _ h.drop
end
end Go.Proofs.YtgkfbagclkjilaaGreatDoor.Ck
namespace Go.Proofs.YtgkfbagclkjilaaGreatDoor.Ck
open Go Go.Ev Go.Proofs
theorem andNot_le {a b : Int} (h0 : 0 ≤ a) (h1 : a ≤ 255) : 0 ≤ andNotI .i64 a b ∧ andNotI .i64 a b ≤ a := by
  rw [andNotI_bv]
  have e : (bv a).toNat = a.toNat := by
    have := bv_s (m := a.toNat) (by omega)
    rwa [Int.toNat_of_nonneg h0] at this
  have h2 : (bv a &&& ~~~ bv b).toNat ≤ a.toNat := by rw [BitVec.toNat_and, e]; exact Nat.and_le_left
  rw [toInt_s (by omega)]
  omega
theorem tb_zero {h : Nat} (hh : h < 8) : tb 0 h = false := by
  have : ∀ h : Nat, h < 8 → tb 0 h = false := by decide
  exact this h hh
theorem subBits_iff {a b : Int} : subBits a b = true ↔ ∀ h : Nat, h < 8 → tb a h = true → tb b h = true := by
  unfold subBits
  rw [List.all_eq_true]
  refine ⟨fun q h hh ha => ?_, fun q h hh => ?_⟩
  · have := q h (by simpa using hh)
    rw [ha] at this; simpa using this
  · have := q h (by simpa using hh)
    cases ha : tb a h with
    | false => rfl
    | true => rw [this ha]; rfl
theorem andNot_sub {a b : Int} (h0 : 0 ≤ a) (h1 : a ≤ 255) : (andNotI .i64 a b != 0) = !subBits a b := by
  have hb := andNot_le (b := b) h0 h1
  cases hs : subBits a b with
  | true =>
    have hs' := subBits_iff.1 hs
    have e : andNotI .i64 a b = 0 := by
      rw [← rs_tb (v := andNotI .i64 a b) hb.1 (by omega), ← rs_tb (v := 0) (by omega) (by omega)]
      refine rs_congr fun h hh => ?_
      rw [tb_andNot _ _ (by omega), tb_zero hh]
      cases ha : tb a h with
      | false => rfl
      | true => rw [hs' h hh ha]; rfl
    rw [e]; rfl
  | false =>
    have : andNotI .i64 a b ≠ 0 := by
      intro e
      have : subBits a b = true := subBits_iff.2 fun h hh ha => by
        have h2 := tb_andNot a b (i := h) (by omega)
        rw [e, tb_zero hh, ha] at h2
        simpa using h2.symm
      rw [this] at hs; cases hs
    simpa using this
theorem sub_shl {a b : Int} (h0 : 0 ≤ a) (h1 : a < 8) : subBits (shlV .i64 1 a) b = tb b a.toNat := by
  cases ht : tb b a.toNat with
  | true =>
    refine subBits_iff.2 fun h hh ha => ?_
    rw [tb_shl h0 h1 hh] at ha
    have := of_decide_eq_true ha
    have : h = a.toNat := by omega
    rw [this]; exact ht
  | false =>
    cases hs : subBits (shlV .i64 1 a) b with
    | false => rfl
    | true =>
      have := subBits_iff.1 hs a.toNat (by omega) (by rw [tb_shl h0 h1 (by omega)]; exact decide_eq_true (by omega))
      rw [this] at ht; cases ht
theorem shl_small {a : Int} (h0 : 0 ≤ a) (h1 : a < 8) : 0 ≤ shlV .i64 1 a ∧ shlV .i64 1 a ≤ 255 := by
  have e : ∀ m : Nat, m < 8 → 0 ≤ shlV .i64 1 (m : Int) ∧ shlV .i64 1 (m : Int) ≤ 255 := by decide
  have := e a.toNat (by omega)
  rwa [Int.toNat_of_nonneg h0] at this
theorem sub_zero {b : Int} : subBits 0 b = true := subBits_iff.2 fun h hh ha => by rw [tb_zero hh] at ha; cases ha
section
variable {w0 w : World} {gj : Nat} {ps s sd sh : Sl} {P : List FnR} {l : List (List Int)} {D H : List Int} {R : List HP} {i : Nat} {x : List Int} {k : Int → World → Prop}
theorem needs_get {P : List FnR} {n : Int} {f : FnR} (h : P[n.toNat]? = some f) : needsOf P n = f.needs := by simp [needsOf, h]
theorem handles_s (h : St w0 w (blk gj [.slice ps.a ps.n ps.c, .slice s.a s.n s.c, .slice sd.a sd.n sd.c, .slice sh.a sh.n sh.c] :: slc 1 sd (ints D) :: slc 1 sh (ints H) :: R)) (hr : Code5 w0 s l) (hF : Funcs5 w0 ps P) (hx : l[i]? = some x) (hn : l.length ≤ 1000) (hH : H.length = l.length)
    (hok : chk x = 0) (hpl : placesE P.length l.length x = 0) (hP : ∀ f ∈ P, 0 ≤ f.needs ∧ f.needs ≤ 255)
    (hc : ∀ w', St w0 w' (blk gj [.slice ps.a ps.n ps.c, .slice s.a s.n s.c, .slice sd.a sd.n sd.c, .slice sh.a sh.n sh.c] :: slc 1 sd (ints D) :: slc 1 sh (ints H) :: R) → k (if handlesOk P (H.getD i 0) x then 0 else 16) w') : check_judge_handles (some ⟨gj, 0, none⟩) (i : Int) w k := by
  have hsn := hr.len
  have hpn := hF.len
  have hil : i < l.length := (List.getElem?_eq_some_iff.1 hx).1
  obtain ⟨_, _, _, hk8, hk9, hk10⟩ := chk0 hok
  unfold check_judge_handles
  refine nn_i (ldS_h (g := gj) (o := 1) h rfl (ixC_h hr h (by omega) hx fun p h5 hp => ldA_c (by simp [Go.Ev.ints, h5]) (fun j v => hp h) ?_))
  refine newC_h h fun g w6 h => stW_h (g := g) h rfl (by simp [Go.Ev.ints, h5]) (one_agI _) fun w7 h => ?_
  have h : St w0 w7 (blk g (ints x) :: blk gj [.slice ps.a ps.n ps.c, .slice s.a s.n s.c, .slice sd.a sd.n sd.c, .slice sh.a sh.n sh.c] :: slc 1 sd (ints D) :: slc 1 sh (ints H) :: R) := h
  refine ldI_h (g := g) (o := 0) h (ints_get (by omega)) ?_
  refine joinP_i (fun n w' => (andNotI .i64 n (H.getD i 0) != 0) = !(handlesOk P (H.getD i 0) x) ∧ St w0 w' (blk g (ints x) :: blk gj [.slice ps.a ps.n ps.c, .slice s.a s.n s.c, .slice sd.a sd.n sd.c, .slice sh.a sh.n sh.c] :: slc 1 sd (ints D) :: slc 1 sh (ints H) :: R)) (fun J hJ => ?_) ?_
  · unfold handlesOk at hJ
    refine iteB_i (fun hb => ?_) fun hb => ?_
    · have hb' : (opI x == 9) = true := hb
      have hB := hk9 (by simpa using hb')
      rw [if_pos hb'] at hJ
      refine ldI_h (g := g) (o := 2) h (ints_get (by omega)) ⟨hB.1, hJ _ _ ⟨?_, h⟩⟩
      have := shl_small (a := x.getD 2 0) hB.1 (by omega)
      rw [andNot_sub this.1 this.2, sub_shl hB.1 (by omega)]
    · have hb' : (opI x == 9) = false := hb
      rw [if_neg (by rw [hb']; simp)] at hJ
      refine iteB_i (fun hb => ?_) fun hb => ?_
      · have hb' : (opI x == 10) = true := hb
        have hB := hk10 (by simpa using hb')
        rw [if_pos hb'] at hJ
        refine ldI_h (g := g) (o := 3) h (ints_get (by omega)) ⟨hB.1, hJ _ _ ⟨?_, h⟩⟩
        have := shl_small (a := x.getD 3 0) hB.1 (by omega)
        rw [andNot_sub this.1 this.2, sub_shl hB.1 (by omega)]
      · have hb' : (opI x == 10) = false := hb
        rw [if_neg (by rw [hb']; simp)] at hJ
        refine iteB_i (fun hb => ?_) fun hb => ?_
        · have hb' : (opI x == 8) = true := hb
          have hB := hk8 (by simpa using hb')
          have hlt : x.getD 4 0 < P.length := by
            unfold placesE at hpl
            rw [hb'] at hpl
            by_cases q : x.getD 4 0 ≥ P.length
            · rw [decide_eq_true q] at hpl; simp at hpl
            · omega
          rw [if_pos hb'] at hJ
          have hf : P[(x.getD 4 0).toNat]? = some P[(x.getD 4 0).toNat] := List.getElem?_eq_getElem (by omega)
          have hb2 := hP _ (List.mem_of_getElem? hf)
          refine drew_h h fun w14 h => nn_i (ldS_h (g := gj) (o := 0) h rfl (ldI_h (g := g) (o := 4) h (ints_get (by omega)) ?_))
          refine ixR_h (e := FnR.cells P[(x.getD 4 0).toNat]) hF.rws h (by omega) (by rw [List.getElem?_map, hf]; rfl) fun p hp2 => ldI_i (hp2 h rfl) ?_
          refine hJ _ _ ⟨?_, h⟩
          rw [andNot_sub hb2.1 hb2.2, needs_get hf]
        · have hb' : (opI x == 8) = false := hb
          rw [if_neg (by rw [hb']; simp)] at hJ
          refine hJ _ _ ⟨?_, h⟩
          rw [andNot_sub (by omega) (by omega), sub_zero]
  rintro n w21 ⟨hnn, h⟩
  refine nn_i (ldS_h (g := gj) (o := 3) h rfl (ixI_h (s := sh) (xs := H) h (by omega) (by omega) ?_))
  rw [Int.toNat_natCast, hnn]
  refine iteB_i (fun hb => ?_) fun hb => ?_
  · have hb' : handlesOk P (H.getD i 0) x = false := by simpa using hb
    rw [hb'] at hc; exact hc _ h.drop
  · have hb' : handlesOk P (H.getD i 0) x = true := by simpa using hb
    rw [hb'] at hc; exact hc _ h.drop
end
end Go.Proofs.YtgkfbagclkjilaaGreatDoor.Ck
namespace Go.Proofs.YtgkfbagclkjilaaGreatDoor.Ck
open Go Go.Ev Go.Proofs
theorem st_cast {w0 w : World} {L M : List HP} (h : St w0 w L) (e : L = M) : St w0 w M := e ▸ h
section
variable {P : List FnR} {n : Nat} {D H : List Int} {i : Nat} {x : List Int}
theorem wrong_at {j : Nat} (hj : j < 4) (h0 : ∀ j', j' < j → askE P n D H i x j' = 0) (h1 : (askE P n D H i x j != 0) = true) : wrongF P n D H i x = askE P n D H i x j := by
  unfold wrongF
  match j, hj with
  | 0, _ => rw [if_pos h1]
  | 1, _ => rw [h0 0 (by omega)]; simp [h1]
  | 2, _ => rw [h0 0 (by omega), h0 1 (by omega)]; simp [h1]
  | 3, _ => rw [h0 0 (by omega), h0 1 (by omega), h0 2 (by omega)]; simp
theorem wrong_none (h0 : ∀ j', j' < 4 → askE P n D H i x j' = 0) : wrongF P n D H i x = 0 := by
  unfold wrongF
  rw [h0 0 (by omega), h0 1 (by omega), h0 2 (by omega), h0 3 (by omega)]; simp
end
def faultL (kk : Nat) : Option (Int × Int) → List Int
  | none => [0, 0, 0]
  | some (i, e) => [(kk : Int), i, e]
def judL (gj gk gf gr : Nat) (ps s sd sh : Sl) (D H : List Int) (asks : List Value) (nv : Int) : List HP :=
  [blk gj [.slice ps.a ps.n ps.c, .slice s.a s.n s.c, .slice sd.a sd.n sd.c, .slice sh.a sh.n sh.c], slc 1 sd (ints D), slc 1 sh (ints H), blk gk asks, blk gf [.int .i64 nv, .slice s.a s.n s.c], blk gr (ints [0, 0, 0])]
def asksL (gj : Nat) : List Value := [.func (.func n_check_judge_places) #[.pointer (some ⟨gj, 0, none⟩)] #[], .func (.func n_check_judge_last) #[.pointer (some ⟨gj, 0, none⟩)] #[], .func (.func n_check_judge_scopes) #[.pointer (some ⟨gj, 0, none⟩)] #[], .func (.func n_check_judge_handles) #[.pointer (some ⟨gj, 0, none⟩)] #[]]
theorem callF_2 {orc : Oracle} {id : FuncId} {a b : Value} {w : World} {c : Value → World → Prop} {d : Dec} (e : ∀ args w c, orc (.func id) args w c = d args.toList w c) (h : d [a, b] w c) : callF orc (.func (.func id) #[a] #[]) #[b] w c :=
  callF_i e h
theorem ask_places {a : Addr} {i : Int} {w : World} {c : Value → World → Prop} (h : check_judge_places (some a) i w fun r w => c (.int .i64 r) w) : d_check_judge_places [.pointer (some a), .int .i64 i] w c := h
theorem ask_last {a : Addr} {i : Int} {w : World} {c : Value → World → Prop} (h : check_judge_last (some a) i w fun r w => c (.int .i64 r) w) : d_check_judge_last [.pointer (some a), .int .i64 i] w c := h
theorem ask_scopes {a : Addr} {i : Int} {w : World} {c : Value → World → Prop} (h : check_judge_scopes (some a) i w fun r w => c (.int .i64 r) w) : d_check_judge_scopes [.pointer (some a), .int .i64 i] w c := h
theorem ask_handles {a : Addr} {i : Int} {w : World} {c : Value → World → Prop} (h : check_judge_handles (some a) i w fun r w => c (.int .i64 r) w) : d_check_judge_handles [.pointer (some a), .int .i64 i] w c := h
theorem function_s {w : World} {ps : Sl} {P : List FnR} {kk : Nat} {f : FnR} {k : Array Value → World → Prop} (hF : Funcs5 w ps P) (hk : P[kk]? = some f) (hok : ∀ x ∈ f.code, chk x = 0) (hlen : f.code.length ≤ 128)
    (hP : ∀ f ∈ P, 0 ≤ f.needs ∧ f.needs ≤ 255) (hc : ∀ w', St w w' [] → k (agI (faultL kk (fault1 P f))) w') : check_function #[.slice ps.a ps.n ps.c] (kk : Int) w k := by
  have hcd := (hF.code f (List.mem_of_getElem? hk)).2
  have hsn := hcd.len
  have hpn := hF.len
  unfold check_function check_function_b
  refine newC_h (.nil w) fun g1 w2 h => newC_h h fun g3 w4 h => ldS_h (g := g1) (o := 0) h rfl ?_
  refine ixR_h (e := FnR.cells f) hF.rws h (by omega) (by rw [List.getElem?_map, Int.toNat_natCast, hk]; rfl) fun p hp => ldA_c (e := FnR.cells f) rfl (fun j v => hp h) ?_
  refine newC_h h fun g8 w9 h => stW_h (g := g8) h rfl rfl (by intro v hv; simp [FnR.cells] at hv; rcases hv with rfl | rfl <;> rfl) fun w10 h => drew_h h fun w11 h => ?_
  have h : St w w11 [blk g8 [.int .i64 f.needs, .slice f.sl.a f.sl.n f.sl.c], blk g3 (ints [0, 0, 0]), blk g1 [.slice ps.a ps.n ps.c]] := h
  refine ldW_h (g := g1) h rfl (ldS_h (g := g8) (o := 1) h rfl (ldS_h (g := g8) (o := 1) h rfl (ldW_h (g := g8) h rfl ?_)))
  have h11 := h
  refine depths_s (hcd.ext h.ext) (by omega) fun sd w17 h2 nd => ?_
  have h := h.join h2
  simp only [List.cons_append, List.nil_append] at h
  refine samec_h h11 h (samec_h h11 h (samec_h h11 h ?_))
  have h17 := h
  refine heldL_s (needs := f.needs) (hcd.ext h.ext) (by omega) fun sh w19 h3 nh => ?_
  have h := h.join h3
  simp only [List.cons_append, List.nil_append] at h
  refine samec_h h11 h (samec_h h11 h ?_)
  refine ⟨rfl, ?_⟩
  refine newC_h h fun gj w22 h => newC_h h fun gk w24 h => ?_
  have h : St w w24 (judL gj gk g8 g3 ps f.sl sd sh (depths 0 f.code) (heldL f.code f.needs) (asksL gj) f.needs) := by
    refine St.perm (st_cast (M := [blk gk (asksL gj), blk gj [.slice ps.a ps.n ps.c, .slice f.sl.a f.sl.n f.sl.c, .slice sd.a sd.n sd.c, .slice sh.a sh.n sh.c], slc 1 sh (ints (heldL f.code f.needs)), slc 1 sd (ints (depths 0 f.code)), blk g8 [.int .i64 f.needs, .slice f.sl.a f.sl.n f.sl.c], blk g3 (ints [0, 0, 0])]) (h.rm 6 rfl) (by kernel_rfl)) ?_
    unfold judL; repeat' (first | exact List.Perm.refl _ | refine perm_f 0 rfl ?_ | refine perm_f 1 rfl ?_ | refine perm_f 2 rfl ?_ | refine perm_f 3 rfl ?_ | refine perm_f 4 rfl ?_ | refine perm_f 5 rfl ?_ | refine perm_f 6 rfl ?_ | refine perm_f 7 rfl ?_)
  unfold judL at h
  refine ldS_h (g := g8) (o := 1) h rfl ?_
  have hDl : (depths 0 f.code).length = f.code.length := depths_length _ _
  have hHl : (heldL f.code f.needs).length = f.code.length := heldL_len _ _
  unfold fault1 at hc
  generalize depths 0 f.code = D at h hc hDl
  generalize heldL f.code f.needs = H at h hc hHl
  refine loopP_of (fun (i : Int) w' => ∃ dn rest, f.code = dn ++ rest ∧ i = (dn.length : Int) ∧ funcFault P f.code.length D H 0 f.code = funcFault P f.code.length D H dn.length rest ∧ St w w' (judL gj gk g8 g3 ps f.sl sd sh D H (asksL gj) f.needs)) (fun i _ => ((f.sl.n : Int) - i).toNat) ⟨[], f.code, rfl, rfl, rfl, h⟩ ?_
  rintro _ w28 ⟨dn, rest, hl, rfl, hd, h⟩ C hC
  cases rest with
  | nil =>
    refine iteB_f (by simp only [decide_eq_false_iff_not]; rw [hsn, hl]; simp) ?_
    unfold judL at h
    refine stW_h (g := g3) h rfl rfl (one_agI [0, 0, 0]) fun w39 h => ldW_h (g := g3) h rfl ?_
    rw [hd] at hc
    exact hc _ h.all
  | cons x rest =>
    have hlen2 : f.code.length = dn.length + (rest.length + 1) := by rw [hl]; simp
    have hw1 : IntKind.wrap .i64 ((dn.length : Int) + 1) = ((dn ++ [x]).length : Int) := by rw [wrap_id ⟨by omega, by omega⟩]; simp
    have hx : f.code[dn.length]? = some x := by rw [hl]; simp
    have hcx := hok x (by rw [hl]; simp)
    refine iteB_t (by simp only [decide_eq_true_eq]; omega) ?_
    refine loopP_of (fun (i : Int) w' => ∃ j : Nat, i = (j : Int) ∧ j ≤ 4 ∧ (∀ j', j' < j → askE P f.code.length D H dn.length x j' = 0) ∧ St w w' (judL gj gk g8 g3 ps f.sl sd sh D H (asksL gj) f.needs)) (fun i _ => (4 - i).toNat) ⟨0, rfl, by omega, fun j hj => by omega, h⟩ ?_
    rintro _ w31 ⟨j, rfl, hj4, hz, h⟩ C2 hC2
    refine iteB_i (fun hb => ?_) fun hb => ?_
    · have hj : j < 4 := by have := of_decide_eq_true hb; omega
      have hw2 : IntKind.wrap .i64 ((j : Int) + 1) = ((j + 1 : Nat) : Int) := by rw [wrap_id ⟨by omega, by omega⟩]; simp
      refine ixS_b (by omega) (by omega) ?_
      have fin : ∀ w35, St w w35 (judL gj gk g8 g3 ps f.sl sd sh D H (asksL gj) f.needs) → iteB (askE P f.code.length D H dn.length x j != (0 : Int)) (
            stA 3 w35 ⟨g3, 0, none⟩ #[(.int .i64 (kk : Int)), (.int .i64 (dn.length : Int)), (.int .i64 (askE P f.code.length D H dn.length x j))] fun w37 =>
            ldA 3 w37 ⟨g3, 0, none⟩ fun cs38 =>
            (k cs38 w37)) (
            (C2 (IntKind.wrap .i64 ((j : Int) + (1 : Int))) w35)) := by
        intro w35 h
        refine iteB_i (fun hb => ?_) fun hb => ?_
        · unfold judL at h
          refine stW_h (g := g3) (vs := agI [(kk : Int), (dn.length : Int), askE P f.code.length D H dn.length x j]) h rfl rfl (one_agI _) fun w37 h => ldW_h (g := g3) h rfl ?_
          have hwr := wrong_at hj hz hb
          have e : funcFault P f.code.length D H dn.length (x :: rest) = some ((dn.length : Int), askE P f.code.length D H dn.length x j) := by
            unfold funcFault; rw [hwr, if_pos hb]
          rw [hd, e] at hc
          exact hc _ h.all
        · rw [hw2]
          refine hC2 _ _ ⟨j + 1, rfl, hj, fun j' hj' => ?_, h⟩ (by omega)
          by_cases q : j' = j
          · rw [q]; simpa using hb
          · exact hz j' (by omega)
      unfold judL at h
      match j, hj, hz, fin with
      | 0, _, hz, fin =>
        refine ldV_h (g := gk) (o := 0) h rfl (callF_2 (d := d_check_judge_places) (fun _ _ _ => rfl) (ask_places ?_))
        exact places_s h (hcd) hx hpn fun w35 h => fin w35 h
      | 1, _, hz, fin =>
        refine ldV_h (g := gk) (o := 1) h rfl (callF_2 (d := d_check_judge_last) (fun _ _ _ => rfl) (ask_last ?_))
        exact last_s h hcd hx (by omega) fun w35 h => fin w35 h
      | 2, _, hz, fin =>
        have hp0 : placesE P.length f.code.length x = 0 := hz 0 (by omega)
        refine ldV_h (g := gk) (o := 2) h rfl (callF_2 (d := d_check_judge_scopes) (fun _ _ _ => rfl) (ask_scopes ?_))
        refine scopes_s h hcd hx (by omega) hDl (fun hg => ⟨((chk0 hcx).2.2.1 hg).1, ?_⟩) fun w35 h => fin w35 h
        unfold placesE at hp0
        rw [hg] at hp0
        by_cases q : x.getD 4 0 ≥ f.code.length
        · rw [decide_eq_true q] at hp0; simp at hp0
        · omega
      | 3, _, hz, fin =>
        have hp0 : placesE P.length f.code.length x = 0 := hz 0 (by omega)
        refine ldV_h (g := gk) (o := 3) h rfl (callF_2 (d := d_check_judge_handles) (fun _ _ _ => rfl) (ask_handles ?_))
        exact handles_s h hcd hF hx (by omega) hHl hcx hp0 hP fun w35 h => fin w35 h
    · have hj : j = 4 := by have := of_decide_eq_false hb; omega
      subst hj
      rw [hw1]
      refine hC _ _ ⟨dn ++ [x], rest, by rw [hl]; simp, rfl, ?_, h⟩ (by simp; omega)
      rw [hd]
      have e : (wrongF P f.code.length D H dn.length x != 0) = false := by rw [wrong_none hz]; rfl
      simp [funcFault, e]
end Go.Proofs.YtgkfbagclkjilaaGreatDoor.Ck
namespace Go.Proofs.YtgkfbagclkjilaaGreatDoor.Ck
open Go Go.Ev Go.Proofs
def tri (x : Int × Int × Int) : List Int := [x.1, x.2.1, x.2.2]
theorem firstBad_zero : ∀ {l : List (List Int)} {i : Nat}, (firstBad i l).2 = 0 → ∀ x ∈ l, chk x = 0
  | [], _, _, x, hx => by cases hx
  | y :: l, i, h, x, hx => by
    unfold firstBad at h
    split at h
    · rename_i hb
      simp only at h
      rw [h] at hb; cases hb
    · rename_i hb
      rcases List.mem_cons.1 hx with rfl | hx
      · simpa using hb
      · exact firstBad_zero h x hx
theorem shape_zero {needs : Int} {l : List (List Int)} (h : (shapeF needs l).2 = 0) : 0 ≤ needs ∧ needs ≤ 255 ∧ 1 ≤ l.length ∧ l.length ≤ 128 ∧ ∀ x ∈ l, chk x = 0 := by
  unfold shapeF at h
  split at h
  · cases h
  · rename_i h1
    split at h
    · cases h
    · rename_i h2
      simp only [Bool.or_eq_true, decide_eq_true_eq, not_or] at h1 h2
      exact ⟨by omega, by omega, by omega, by omega, firstBad_zero h⟩
theorem shapes_none : ∀ {l : List FnR} {k : Nat}, shapes k l = none → ∀ f ∈ l, (shapeF f.needs f.code).2 = 0
  | [], _, _, f, hf => by cases hf
  | g :: l, k, h, f, hf => by
    unfold shapes at h
    split at h
    · cases h
    · rename_i hb
      rcases List.mem_cons.1 hf with rfl | hf
      · simpa using hb
      · exact shapes_none h f hf
theorem funcFault_some {P : List FnR} {n : Nat} {D H : List Int} : ∀ {l : List (List Int)} {i : Nat} {a e : Int}, funcFault P n D H i l = some (a, e) → e ≠ 0
  | [], _, _, _, h => by cases h
  | x :: l, i, a, e, h => by
    unfold funcFault at h
    split at h
    · rename_i hb
      cases h
      simpa using hb
    · exact funcFault_some h
theorem program_s {w : World} {ps : Sl} {P : List FnR} {k : Array Value → World → Prop} (hF : Funcs5 w ps P)
    (hc : ∀ w', St w w' [] → k (agI (tri (progF P))) w') : check_Program #[.slice ps.a ps.n ps.c] w k := by
  have hpn := hF.len
  unfold check_Program check_Program_b
  refine newC_h (.nil w) fun g1 w2 h => newC_h h fun g3 w4 h => ?_
  have h : St w w4 [blk g3 (ints [0, 0, 0]), blk g1 [.slice ps.a ps.n ps.c]] := h
  have e1 : decide (((ps.n : Nat) : Int) < 1) = decide (P.length < 1) := by rw [decide_eq_decide]; omega
  have e2 : decide (((ps.n : Nat) : Int) > 32) = decide (P.length > 32) := by rw [decide_eq_decide]; omega
  refine joinP_i (fun b w' => b = (decide (P.length < 1) || decide (P.length > 32)) ∧ w' = w4) (fun J hJ => ?_) ?_
  · refine ldS_h (g := g1) (o := 0) h rfl (iteB_i (fun hb => ?_) fun hb => ?_)
    · exact hJ _ _ ⟨by rw [← e1]; dsimp only at hb; rw [hb]; rfl, rfl⟩
    · refine ldS_h (g := g1) (o := 0) h rfl (hJ _ _ ⟨by rw [← e1, ← e2]; dsimp only at hb; rw [hb]; rfl, rfl⟩)
  rintro b8 w9 ⟨rfl, rfl⟩
  unfold progF at hc
  refine iteB_i (fun hb => ?_) fun hb => ?_
  · rw [hb] at hc
    refine stW_h (g := g3) (vs := agI [-1, -1, 12]) h rfl rfl (one_agI _) fun w10 h => ldW_h (g := g3) h rfl ?_
    exact hc _ h.all
  · rw [hb] at hc
    rw [Bool.or_eq_false_iff] at hb
    have hl1 := of_decide_eq_false hb.1
    have hl2 := of_decide_eq_false hb.2
    refine ldS_h (g := g1) (o := 0) h rfl ?_
    refine joinP_i (fun _ w' => shapes 0 P = none ∧ St w w' [blk g3 (ints [0, 0, 0]), blk g1 [.slice ps.a ps.n ps.c]]) (fun J hJ => ?_) ?_
    · refine loopP_of (fun (i : Int) w' => ∃ dn rest, P = dn ++ rest ∧ i = (dn.length : Int) ∧ shapes 0 P = shapes dn.length rest ∧ St w w' [blk g3 (ints [0, 0, 0]), blk g1 [.slice ps.a ps.n ps.c]]) (fun i _ => ((ps.n : Int) - i).toNat) ⟨[], P, rfl, rfl, rfl, h⟩ ?_
      rintro _ w16 ⟨dn, rest, hl, rfl, hd, h⟩ C hC
      cases rest with
      | nil =>
        refine iteB_f (by simp only [decide_eq_false_iff_not]; rw [hpn, hl]; simp) ?_
        exact hJ _ _ ⟨by rw [hd]; rfl, h⟩
      | cons f rest =>
        have hlen2 : P.length = dn.length + (rest.length + 1) := by rw [hl]; simp
        have hw1 : IntKind.wrap .i64 ((dn.length : Int) + 1) = ((dn ++ [f]).length : Int) := by rw [wrap_id ⟨by omega, by omega⟩]; simp
        have hx : P[dn.length]? = some f := by rw [hl]; simp
        have hcd := (hF.code f (List.mem_of_getElem? hx)).2
        refine iteB_t (by simp only [decide_eq_true_eq]; omega) ?_
        refine ixR_h (e := FnR.cells f) hF.rws h (by omega) (by rw [List.getElem?_map, Int.toNat_natCast, hx]; rfl) fun p hp => ldA_c (e := FnR.cells f) rfl (fun j v => hp h) ?_
        refine newC_h h fun g8 w9 h => stW_h (g := g8) h rfl rfl (by intro v hv; simp [FnR.cells] at hv; rcases hv with rfl | rfl <;> rfl) fun w10 h => ldW_h (g := g8) h rfl ?_
        refine shape_s (needs := f.needs) (s := f.sl) (l := f.code) (hcd.ext h.ext) fun w24 h2 => ?_
        have h := h.drop.on h2.ext
        refine iteB_i (fun hb3 => ?_) fun hb3 => ?_
        · refine stW_h (g := g3) (vs := agI [(dn.length : Int), (shapeF f.needs f.code).1, (shapeF f.needs f.code).2]) h rfl rfl (one_agI _) fun w25 h => ldW_h (g := g3) h rfl ?_
          have e : shapes 0 P = some ((dn.length : Int), (shapeF f.needs f.code).1, (shapeF f.needs f.code).2) := by rw [hd]; unfold shapes; rw [if_pos hb3]
          rw [e] at hc
          exact hc _ h.all
        · rw [hw1]
          refine hC _ _ ⟨dn ++ [f], rest, by rw [hl]; simp, rfl, ?_, h⟩ (by simp; omega)
          have hb3' : ((shapeF f.needs f.code).2 != 0) = false := hb3
          rw [hd]; simp [shapes, hb3']
    rintro _ w28 ⟨hsh, h⟩
    rw [hsh] at hc
    have hall := shapes_none hsh
    have h0 : P[0]? = some P[0] := List.getElem?_eq_getElem (by omega)
    refine ldS_h (g := g1) (o := 0) h rfl ?_
    refine ixR_h (e := FnR.cells P[0]) hF.rws h (by omega) (by rw [List.getElem?_map]; simp [h0]) fun p hp => ldI_i (hp h rfl) ?_
    have hn0 : needsOf P 0 = P[0].needs := needs_get (n := 0) h0
    rw [← hn0]
    refine iteB_i (fun hb => ?_) fun hb => ?_
    · refine stW_h (g := g3) (vs := agI [0, -1, 16]) h rfl rfl (one_agI _) fun w32 h => ldW_h (g := g3) h rfl ?_
      dsimp only at hc
      rw [if_neg (by simp), if_pos hb] at hc
      exact hc _ h.all
    · dsimp only at hc
      rw [if_neg (by simp), if_neg (by rw [hb]; simp)] at hc
      refine ldS_h (g := g1) (o := 0) h rfl ?_
      refine loopP_of (fun (i : Int) w' => ∃ dn rest, P = dn ++ rest ∧ i = (dn.length : Int) ∧ faults P 0 P = faults P dn.length rest ∧ St w w' [blk g3 (ints [0, 0, 0]), blk g1 [.slice ps.a ps.n ps.c]]) (fun i _ => ((ps.n : Int) - i).toNat) ⟨[], P, rfl, rfl, rfl, h⟩ ?_
      rintro _ w37 ⟨dn, rest, hl, rfl, hd, h⟩ C hC
      cases rest with
      | nil =>
        refine iteB_f (by simp only [decide_eq_false_iff_not]; rw [hpn, hl]; simp) ?_
        refine stW_h (g := g3) (vs := agI [0, 0, 0]) h rfl rfl (one_agI _) fun w49 h => ldW_h (g := g3) h rfl ?_
        have e : faults P 0 P = none := by rw [hd]; rfl
        rw [e] at hc
        exact hc _ h.all
      | cons f rest =>
        have hlen2 : P.length = dn.length + (rest.length + 1) := by rw [hl]; simp
        have hw1 : IntKind.wrap .i64 ((dn.length : Int) + 1) = ((dn ++ [f]).length : Int) := by rw [wrap_id ⟨by omega, by omega⟩]; simp
        have hx : P[dn.length]? = some f := by rw [hl]; simp
        have hsf := shape_zero (hall f (List.mem_of_getElem? hx))
        refine iteB_t (by simp only [decide_eq_true_eq]; omega) ?_
        refine ldW_h (g := g1) h rfl ?_
        refine function_s (ps := ps) (P := P) (f := f) (hF.ext h.ext) hx hsf.2.2.2.2 hsf.2.2.2.1 (fun q hq => ⟨(shape_zero (hall q hq)).1, (shape_zero (hall q hq)).2.1⟩) fun w40 h2 => ?_
        have h := h.on h2.ext
        have hfl : (faultL dn.length (fault1 P f)).length = 3 := by cases fault1 P f <;> rfl
        refine newC_h h fun g4 w42 h => stW_h (g := g4) h rfl (by simp [agI, ints, hfl]) (one_agI _) fun w43 h => ldW_h (g := g4) h (by simp [agI, ints, hfl]) ?_
        refine eqA_I (n := 3) hfl (ys := [0, 0, 0]) rfl ?_
        cases hft : fault1 P f with
        | none =>
          refine iteB_f (by simp [faultL]) ?_
          rw [hw1]
          refine hC _ _ ⟨dn ++ [f], rest, by rw [hl]; simp, rfl, ?_, h.drop⟩ (by simp; omega)
          rw [hd]; simp [faults, hft]
        | some q =>
          obtain ⟨i, e⟩ := q
          have hne := funcFault_some hft
          refine iteB_t (by simp [faultL, hne]) ?_
          rw [hft] at h
          refine ldW_h (g := g4) h rfl ?_
          refine stW_h (g := g3) (vs := agI (faultL dn.length (some (i, e)))) h rfl rfl (one_agI _) fun w47 h => ldW_h (g := g3) h rfl ?_
          have e' : faults P 0 P = some ((dn.length : Int), i, e) := by rw [hd]; simp [faults, hft]
          rw [e'] at hc
          exact hc _ h.all
end Go.Proofs.YtgkfbagclkjilaaGreatDoor.Ck
namespace Go.Proofs.YtgkfbagclkjilaaGreatDoor.Ck
open Go Go.Ev Go.Proofs
theorem code_blk {w : World} {g off c : Nat} {flat : List Int} {l : List (List Int)} (hb : Blk w g (agI flat)) (h5 : ∀ x ∈ l, x.length = 5 ∧ ∀ y ∈ x, InI y)
    (hfl : ∀ i, i < l.length → ∀ j, j < 5 → flat[off + i * 5 + j]? = (l.getD i [])[j]?) (few : l.length * 40 ≤ reachBytes) : Code5 w ⟨some ⟨g, off, none⟩, l.length, c⟩ l := by
  refine ⟨⟨by simp, fun i e he => ?_⟩, h5, few⟩
  rw [List.getElem?_map] at he
  cases hx : l[i]? with
  | none => rw [hx] at he; cases he
  | some x =>
    rw [hx] at he
    have he' : e = ints x := by simpa using he.symm
    subst he'
    have hi : i < l.length := (List.getElem?_eq_some_iff.1 hx).1
    have hx5 := (h5 x (List.mem_of_getElem? hx)).1
    refine ⟨by simp [ints, hx5], ⟨g, off, none⟩, rfl, fun j v hv => ?_⟩
    have hj : j < 5 := by have := (List.getElem?_eq_some_iff.1 hv).1; simp [ints, hx5] at this; exact this
    have := hfl i hi j hj
    rw [add_mk, add_mk, hb.cell]
    have e2 : l.getD i [] = x := by simp [hx]
    rw [e2] at this
    simp only [agI, ints, List.getElem?_toArray, List.getElem?_map] at hv ⊢
    rw [this]; exact hv
theorem heldL_eval {l : List (List Int)} {needs : Int} (m : Nat) (hn : l.length ≤ 4294967296) (hl : l ≠ []) (ht : (Fl.steps l m ((Fl0 l.length).meet 0 (andI .i64 needs 255))).todo = []) : heldL l needs = (Fl.steps l m ((Fl0 l.length).meet 0 (andI .i64 needs 255))).held :=
  (held_law hn ⟨ht, fun q => (hl q).elim, fun _ => ⟨m, rfl⟩⟩).symm
end Go.Proofs.YtgkfbagclkjilaaGreatDoor.Ck
namespace Go.Proofs.YtgkfbagclkjilaaGreatDoor.Ck
open Go Go.Ev Go.Proofs
theorem progT : ProgT Tryz.prog 42 43 45 22 24 3 := ⟨⟨_, Tryz.underlying42⟩, by kernel_rfl, by kernel_rfl, by kernel_rfl, Tryz.underlying43, ⟨_, _, Tryz.underlying45, rfl, rfl, rfl, rfl⟩, Tryz.underlying3, by kernel_rfl, by kernel_rfl, by kernel_rfl, by kernel_rfl, Tryz.underlying22, by kernel_rfl, ⟨_, Tryz.underlying24, rfl, rfl⟩, by kernel_rfl⟩
end Go.Proofs.YtgkfbagclkjilaaGreatDoor.Ck
namespace Go.Proofs.YtgkfbagclkjilaaGreatDoor.Ck
open Go Go.Ev Go.Proofs
theorem flat_len {A : Type} {sz : Nat} : ∀ {es : List (List A)}, (∀ e ∈ es, e.length = sz) → es.flatten.length = es.length * sz
  | [], _ => by simp
  | e :: es, h => by
    have := flat_len (es := es) fun x hx => h x (by simp [hx])
    have he := h e (by simp)
    simp only [List.flatten_cons, List.length_append, List.length_cons, Nat.add_mul, Nat.one_mul]; omega
theorem flat_get {A : Type} {sz : Nat} : ∀ {es : List (List A)}, (∀ e ∈ es, e.length = sz) → ∀ {i j : Nat} {e : List A}, es[i]? = some e → j < sz → es.flatten[i * sz + j]? = e[j]?
  | [], _, i, j, e, he, _ => by simp at he
  | x :: es, h, 0, j, e, he, hj => by
    have hx := h x (by simp)
    simp at he; subst he
    rw [List.flatten_cons, Nat.zero_mul, Nat.zero_add, List.getElem?_append_left (by omega)]
  | x :: es, h, i + 1, j, e, he, hj => by
    have hx := h x (by simp)
    rw [List.flatten_cons, List.getElem?_append_right (by rw [hx, Nat.add_mul]; omega), hx, Nat.add_mul, Nat.one_mul]
    rw [show i * sz + sz + j - sz = i * sz + j by omega]
    exact flat_get (fun y hy => h y (by simp [hy])) (by simpa using he) hj
theorem flat_set {A : Type} {sz : Nat} : ∀ {es : List (List A)}, (∀ e ∈ es, e.length = sz) → ∀ {i j : Nat} {e : List A} {v : A}, es[i]? = some e → j < sz → es.flatten.set (i * sz + j) v = (es.set i (e.set j v)).flatten
  | [], _, i, j, e, v, he, _ => by simp at he
  | x :: es, h, 0, j, e, v, he, hj => by
    have hx := h x (by simp)
    simp at he; subst he
    rw [List.flatten_cons, Nat.zero_mul, Nat.zero_add, List.set_append_left (h := by omega)]; rfl
  | x :: es, h, i + 1, j, e, v, he, hj => by
    have hx := h x (by simp)
    rw [List.flatten_cons, List.set_append_right (h := by rw [hx, Nat.add_mul]; omega), hx, Nat.add_mul, Nat.one_mul]
    rw [show i * sz + sz + j - sz = i * sz + j by omega, flat_set (fun y hy => h y (by simp [hy])) (by simpa using he) hj]; rfl
theorem adr_add (p : Addr) (a b : Nat) : (p.add a).add b = p.add (a + b) := by
  by_cases ha : a = 0
  · subst ha; simp [Addr.add]
  · by_cases hb : b = 0
    · subst hb; simp [Addr.add]
    · have : a + b ≠ 0 := by omega
      simp [Addr.add, ha, hb, this, Nat.add_assoc]
theorem sls_rws {sz : Nat} {w : World} {s : Sl} {es : List (List Value)} (h : Sls sz w s es.flatten) (hsz : 0 < sz) (hall : ∀ e ∈ es, e.length = sz) : Rws sz w s es := by
  have hl : es.length * sz = s.n * sz := by rw [← flat_len hall]; exact h.len
  refine ⟨Nat.eq_of_mul_eq_mul_right hsz hl, fun i e he => ?_⟩
  have hlen := hall e (List.mem_of_getElem? he)
  refine ⟨hlen, ?_⟩
  have h0 := flat_get hall he hsz
  obtain ⟨p, hp, _⟩ := h.cell (i * sz + 0) e[0] (by rw [h0]; exact List.getElem?_eq_getElem (by omega))
  refine ⟨p, hp, fun j v hv => ?_⟩
  have hj : j < sz := by have := (List.getElem?_eq_some_iff.1 hv).1; omega
  obtain ⟨p', hp', hc⟩ := h.cell (i * sz + j) v (by rw [flat_get hall he hj]; exact hv)
  rw [hp] at hp'; cases hp'
  rw [adr_add]; exact hc
structure Few (P : List FnR) : Prop where
  n : P.length ≤ 40
  c : ∀ f ∈ P, f.code.length ≤ 140
theorem few_s {w : World} {ps : Sl} {P : List FnR} {k : Bool → World → Prop} (hF : Funcs5 w ps P) (hc : ∀ b w', St w w' [] → (b = true → Few P) → k b w') : pelotonlaw02_Few #[.slice ps.a ps.n ps.c] w k := by
  have hpn := hF.len
  unfold pelotonlaw02_Few
  refine newC_h (.nil w) fun g1 w2 h => ?_
  refine loopP_of (fun (i : Int) w' => ∃ dn rest, P = dn ++ rest ∧ i = (dn.length : Int) ∧ dn.length ≤ 41 ∧ (∀ f ∈ dn, f.code.length ≤ 140) ∧ St w w' [blk g1 [.slice ps.a ps.n ps.c]]) (fun i _ => (41 - i).toNat) ⟨[], P, rfl, rfl, by simp, by simp, h⟩ ?_
  rintro _ w5 ⟨dn, rest, hl, rfl, h41, hd, h⟩ C hC
  refine ldS_h (g := g1) (o := 0) h rfl (iteB_i (fun hb => ?_) fun hb => ?_)
  · simp only [Bool.and_eq_true, decide_eq_true_eq] at hb
    have hlt : dn.length < P.length := by omega
    obtain ⟨f, rest, rfl⟩ : ∃ f r, rest = f :: r := by
      cases rest with
      | nil => rw [hl] at hlt; simp at hlt
      | cons f r => exact ⟨f, r, rfl⟩
    have hx : P[dn.length]? = some f := by rw [hl]; simp
    have hcd := (hF.code f (List.mem_of_getElem? hx)).2
    have hcl := hcd.len
    refine ldS_h (g := g1) (o := 0) h rfl ?_
    refine ixR_h (e := FnR.cells f) hF.rws h (by omega) (by rw [List.getElem?_map, Int.toNat_natCast, hx]; rfl) fun p hp => ldS_i (s := f.sl) (hp h rfl) (iteB_i (fun hb2 => ?_) fun hb2 => ?_)
    · exact hc _ _ h.all fun q => by cases q
    · have hle : f.code.length ≤ 140 := by have := of_decide_eq_false hb2; omega
      have hw1 : IntKind.wrap .i64 ((dn.length : Int) + 1) = ((dn ++ [f]).length : Int) := by rw [wrap_id ⟨by omega, by omega⟩]; simp
      rw [hw1]
      refine hC _ _ ⟨dn ++ [f], rest, by rw [hl]; simp, rfl, by simp; omega, fun q hq => ?_, h⟩ (by simp; omega)
      rcases List.mem_append.1 hq with hq | hq
      · exact hd q hq
      · simp at hq; rw [hq]; exact hle
  · refine ldS_h (g := g1) (o := 0) h rfl (hc _ _ h.all fun q => ?_)
    have hle : P.length ≤ 40 := by have := of_decide_eq_true q; dsimp only at this; omega
    refine ⟨hle, fun f hf => ?_⟩
    cases rest with
    | nil => rw [hl] at hf; simp at hf; exact hd f hf
    | cons g r =>
      have h1 : dn.length < P.length := by rw [hl]; simp
      exfalso
      dsimp only at hb
      rw [decide_eq_true (by omega), decide_eq_true (by omega)] at hb
      cases hb
theorem accepts_s {w : World} {ps : Sl} {P : List FnR} {k : Bool → World → Prop} (hF : Funcs5 w ps P) (hc : ∀ w', St w w' [] → k (decide (tri (progF P) = [0, 0, 0])) w') : check_Accepts #[.slice ps.a ps.n ps.c] w k := by
  unfold check_Accepts check_Accepts_b
  refine newC_h (.nil w) fun g w2 h => ldW_h (g := g) h rfl (program_s (hF.ext h.ext) fun w' h2 => ?_)
  have h := h.on h2.ext
  exact eqA_I (n := 3) (xs := tri (progF P)) (ys := [0, 0, 0]) rfl rfl (hc w' h.all)
def ret : List Int := [16, 0, 0, 0, 0]
end Go.Proofs.YtgkfbagclkjilaaGreatDoor.Ck
namespace Go.Proofs.YtgkfbagclkjilaaGreatDoor.Ck
open Go Go.Ev Go.Proofs
theorem faults_some {P : List FnR} : ∀ {l : List FnR} {k : Nat} {a i e : Int}, faults P k l = some (a, i, e) → ∃ m f, l[m]? = some f ∧ a = ((k + m : Nat) : Int) ∧ fault1 P f = some (i, e)
  | [], _, _, _, _, h => by cases h
  | f :: l, k, a, i, e, h => by
    unfold faults at h
    split at h
    · rename_i i' e' he
      cases h
      exact ⟨0, f, rfl, rfl, he⟩
    · obtain ⟨m, g, h1, h2, h3⟩ := faults_some h
      exact ⟨m + 1, g, by simpa using h1, by rw [h2]; congr 1; omega, h3⟩
section
variable {P : List FnR} {n : Nat} {D H : List Int} {i : Nat} {x : List Int}
end
end Go.Proofs.YtgkfbagclkjilaaGreatDoor.Ck
namespace Go.Proofs.YtgkfbagclkjilaaGreatDoor.Ck
open Go Go.Ev Go.Proofs
def placesB (nf n : Nat) (x : List Int) : Bool := (isGoes x && decide (x.getD 4 0 ≥ n)) || ((opI x == 8) && decide (x.getD 4 0 ≥ nf))
def lastB (n : Nat) (i : Nat) (x : List Int) : Bool := ((i : Int) == (n : Int) - 1) && (opI x != 6) && !isEnds x
section
variable {P : List FnR} {n : Nat} {D H : List Int} {i : Nat} {x : List Int}
theorem wrong_1 (h : placesB P.length n x = true) : wrongF P n D H i x = 10 := by
  have e : askE P n D H i x 0 = 10 := if_pos h
  unfold wrongF; rw [e]; rfl
theorem ask0 (h : placesB P.length n x = false) : askE P n D H i x 0 = 0 := if_neg (by unfold placesB at h; rw [h]; simp)
theorem wrong_2 (h : placesB P.length n x = false) (h2 : lastB n i x = true) : wrongF P n D H i x = 11 := by
  have e : askE P n D H i x 1 = 11 := if_pos h2
  unfold wrongF; rw [ask0 h, e]; rfl
theorem ask1 (h2 : lastB n i x = false) : askE P n D H i x 1 = 0 := if_neg (by unfold lastB at h2; rw [h2]; simp)
theorem wrong_3 (h : placesB P.length n x = false) (h2 : lastB n i x = false) (h3 : scopesOk D i x = false) : wrongF P n D H i x = 15 := by
  have e : askE P n D H i x 2 = 15 := if_neg (by rw [h3]; simp)
  unfold wrongF; rw [ask0 h, ask1 h2, e]; rfl
theorem wrong_4 (h : placesB P.length n x = false) (h2 : lastB n i x = false) (h3 : scopesOk D i x = true) : wrongF P n D H i x = if handlesOk P (H.getD i 0) x then 0 else 16 := by
  have e : askE P n D H i x 2 = 0 := if_pos h3
  unfold wrongF; rw [ask0 h, ask1 h2, e]; rfl
theorem places_in (h : placesB P.length n x = false) : (isGoes x = true → x.getD 4 0 < n) ∧ (opI x = 8 → x.getD 4 0 < P.length) := by
  unfold placesB at h
  rw [Bool.or_eq_false_iff] at h
  refine ⟨fun hg => ?_, fun ho => ?_⟩
  · have := h.1
    rw [hg, Bool.true_and] at this
    have := of_decide_eq_false this
    omega
  · have := h.2
    rw [show (opI x == 8) = true by simpa using ho, Bool.true_and] at this
    have := of_decide_eq_false this
    omega
end
end Go.Proofs.YtgkfbagclkjilaaGreatDoor.Ck
namespace Go.Proofs.YtgkfbagclkjilaaGreatDoor.Ck
open Go Go.Ev Go.Proofs
def plainI (x : List Int) : Bool := !((opI x == 13) || ((opI x == 11) && (x.getD 4 0 != 0)))
def plainF (P : List FnR) : Bool := P.all fun f => f.code.all plainI
theorem plain_bit {w0 w : World} {g : Nat} {x : List Int} {R : List HP} {k : Bool → World → Prop} (h : St w0 w (blk g (ints x) :: R)) (h5 : x.length = 5) (hc : ∀ b, b = !plainI x → k b w) : joinP (S := Bool) (fun J21 =>
            ldI .i64 w (Addr.add ⟨g, 0, none⟩ 0) fun i22 =>
            iteB (i22 == (13 : Int)) (
              (J21 true w)) (
              ldI .i64 w (Addr.add ⟨g, 0, none⟩ 0) fun i23 =>
              iteB (i23 == (11 : Int)) (
                ldI .i64 w (Addr.add ⟨g, 0, none⟩ 4) fun i24 =>
                (J21 (i24 != (0 : Int)) w)) (
                (J21 false w)))) k := by
  unfold plainI at hc
  refine joinP_d ?_
  refine ldI_h (g := g) (o := 0) h (ints_get (by omega)) (iteB_i (fun hb => ?_) fun hb => ?_)
  · have hb' : (opI x == 13) = true := hb
    exact hc _ (by rw [hb']; rfl)
  · have hb' : (opI x == 13) = false := hb
    rw [hb'] at hc
    refine ldI_h (g := g) (o := 0) h (ints_get (by omega)) (iteB_i (fun hb => ?_) fun hb => ?_)
    · have hb' : (opI x == 11) = true := hb
      rw [hb'] at hc
      exact ldI_h (g := g) (o := 4) h (ints_get (by omega)) (hc _ (by simp))
    · have hb' : (opI x == 11) = false := hb
      rw [hb'] at hc
      exact hc _ rfl
theorem plain_s {w : World} {ps : Sl} {P : List FnR} {k : Bool → World → Prop} (hF : Funcs5 w ps P) (hfew : Few P) (hc : ∀ w', St w w' [] → k (plainF P) w') : check_Plain #[.slice ps.a ps.n ps.c] w k := by
  have hpn := hF.len
  have hfn := hfew.n
  unfold check_Plain
  refine newC_h (.nil w) fun g1 w2 h => ldS_h (g := g1) (o := 0) h rfl ?_
  refine loopP_of (fun (i : Int) w' => ∃ dn rest, P = dn ++ rest ∧ i = (dn.length : Int) ∧ plainF P = plainF rest ∧ St w w' []) (fun i _ => ((P.length : Int) - i).toNat) ⟨[], P, rfl, rfl, rfl, h.all⟩ ?_
  rintro _ w6 ⟨dn, rest, hl, rfl, hd, h⟩ C hC
  cases rest with
  | nil =>
    refine iteB_f (by simp only [decide_eq_false_iff_not]; rw [hpn, hl]; simp) ?_
    rw [hd] at hc; exact hc _ h
  | cons f rest =>
    have hlen2 : P.length = dn.length + (rest.length + 1) := by rw [hl]; simp
    have hw1 : IntKind.wrap .i64 ((dn.length : Int) + 1) = ((dn ++ [f]).length : Int) := by rw [wrap_id ⟨by omega, by omega⟩]; simp
    have hx : P[dn.length]? = some f := by rw [hl]; simp
    have hmem := List.mem_of_getElem? hx
    have hcd := (hF.code f hmem).2
    have hcl := hcd.len
    have hfc := hfew.c f hmem
    refine iteB_t (by simp only [decide_eq_true_eq]; omega) ?_
    refine ixR_h (e := FnR.cells f) hF.rws h (by omega) (by rw [List.getElem?_map, Int.toNat_natCast, hx]; rfl) fun p hp => ldA_c (e := FnR.cells f) rfl (fun j v => hp h) ?_
    refine newC_h h fun g8 w9 h => stW_h (g := g8) h rfl rfl (by intro v hv; simp [FnR.cells] at hv; rcases hv with rfl | rfl <;> rfl) fun w10 h => ldS_h (g := g8) (o := 1) h rfl ?_
    refine loopP_of (fun (i : Int) w' => ∃ dn2 rest2, f.code = dn2 ++ rest2 ∧ i = (dn2.length : Int) ∧ f.code.all plainI = rest2.all plainI ∧ St w w' []) (fun i _ => ((f.code.length : Int) - i).toNat) ⟨[], f.code, rfl, rfl, rfl, h.all⟩ ?_
    rintro _ w15 ⟨dn2, rest2, hl2, rfl, hd2, h⟩ C2 hC2
    cases rest2 with
    | nil =>
      refine iteB_f (by simp only [decide_eq_false_iff_not]; rw [hcl, hl2]; simp) ?_
      rw [hw1]
      refine hC _ _ ⟨dn ++ [f], rest, by rw [hl]; simp, rfl, ?_, h⟩ (by simp; omega)
      rw [hd]; unfold plainF; rw [List.all_cons, hd2]; simp
    | cons x rest2 =>
      have hlen3 : f.code.length = dn2.length + (rest2.length + 1) := by rw [hl2]; simp
      have hw3 : IntKind.wrap .i64 ((dn2.length : Int) + 1) = ((dn2 ++ [x]).length : Int) := by rw [wrap_id ⟨by omega, by omega⟩]; simp
      have hx2 : f.code[dn2.length]? = some x := by rw [hl2]; simp
      refine iteB_t (by simp only [decide_eq_true_eq]; omega) ?_
      refine ixC_h hcd h (by omega) hx2 fun p h5 hp => ldA_c (by simp [Go.Ev.ints, h5]) (fun j v => hp h) ?_
      refine newC_h h fun g w6 h => stW_h (g := g) h rfl (by simp [Go.Ev.ints, h5]) (one_agI _) fun w7 h => ?_
      refine plain_bit h h5 fun b hb => ?_
      subst hb
      refine iteB_i (fun hb => ?_) fun hb => ?_
      · have hb' : plainI x = false := by simpa using hb
        have e : plainF (f :: rest) = false := by unfold plainF; rw [List.all_cons, hd2, List.all_cons, hb']; rfl
        rw [hd, e] at hc; exact hc _ h.all
      · have hb' : plainI x = true := by simpa using hb
        rw [hw3]
        refine hC2 _ _ ⟨dn2 ++ [x], rest2, by rw [hl2]; simp, rfl, ?_, h.all⟩ (by simp; omega)
        rw [hd2, List.all_cons, hb']; rfl
theorem shapes_pos : ∀ {l : List FnR} {k : Nat} {x : Int × Int × Int}, shapes k l = some x → x.2.2 ≠ 0
  | [], _, _, h => by cases h
  | f :: l, k, x, h => by
    unfold shapes at h
    split at h
    · rename_i hb; cases h; simpa using hb
    · exact shapes_pos h
theorem progF_zero (P : List FnR) : decide (tri (progF P) = [0, 0, 0]) = ((progF P).2.2 == 0) := by
  rw [Bool.eq_iff_iff, decide_eq_true_eq, beq_iff_eq]
  constructor
  · intro h; unfold tri at h; simp at h; exact h.2.2
  · intro h
    unfold progF at h ⊢
    split
    · rename_i hq; rw [if_pos hq] at h; simp at h
    · rename_i hq
      rw [if_neg hq] at h
      cases hs : shapes 0 P with
      | some x => rw [hs] at h; exact (shapes_pos hs h).elim
      | none =>
        rw [hs] at h
        simp only at h ⊢
        split
        · rename_i hq2; rw [if_pos hq2] at h; simp at h
        · rename_i hq2
          rw [if_neg hq2] at h
          cases hf : faults P 0 P with
          | none => rfl
          | some x =>
            obtain ⟨a, i, e⟩ := x
            rw [hf] at h
            simp only at h
            obtain ⟨m, f, _, _, hfl⟩ := faults_some hf
            exact (funcFault_some hfl h).elim
end Go.Proofs.YtgkfbagclkjilaaGreatDoor.Ck
namespace Go.Proofs.YtgkfbagclkjilaaGreatDoor.Ck
open Go Go.Ev Go.Proofs
structure Acc (P : List FnR) (f : FnR) : Prop where
  n0 : 0 ≤ f.needs
  n1 : f.needs ≤ 255
  l0 : 1 ≤ f.code.length
  l1 : f.code.length ≤ 128
  ok : ∀ x ∈ f.code, chk x = 0
  good : ∀ i x, f.code[i]? = some x → wrongF P f.code.length (depths 0 f.code) (heldL f.code f.needs) i x = 0
structure Accs (P : List FnR) : Prop where
  n0 : 1 ≤ P.length
  n1 : P.length ≤ 32
  root : needsOf P 0 = 0
  all : ∀ f ∈ P, Acc P f
theorem funcFault_none {P : List FnR} {n : Nat} {D H : List Int} : ∀ {l : List (List Int)} {i : Nat}, funcFault P n D H i l = none ↔ ∀ j x, l[j]? = some x → wrongF P n D H (i + j) x = 0
  | [], i => by simp [funcFault]
  | y :: l, i => by
    unfold funcFault
    split
    · rename_i hb
      refine ⟨fun h => (by cases h), fun h => ?_⟩
      have := h 0 y rfl
      rw [Nat.add_zero] at this
      rw [this] at hb; cases hb
    · rename_i hb
      rw [funcFault_none]
      refine ⟨fun h j x hx => ?_, fun h j x hx => ?_⟩
      · cases j with
        | zero => simp at hx; subst hx; simpa using hb
        | succ j => rw [show i + (j + 1) = i + 1 + j by omega]; exact h j x (by simpa using hx)
      · rw [show i + 1 + j = i + (j + 1) by omega]; exact h (j + 1) x (by simpa using hx)
theorem faults_none {P : List FnR} : ∀ {l : List FnR} {k : Nat}, faults P k l = none ↔ ∀ f ∈ l, fault1 P f = none
  | [], k => by simp [faults]
  | g :: l, k => by
    unfold faults
    cases h : fault1 P g with
    | some q =>
      obtain ⟨i, e⟩ := q
      simp only
      exact ⟨fun h => (by cases h), fun h2 => (by have := h2 g (by simp); rw [h] at this; cases this)⟩
    | none =>
      simp only
      rw [faults_none]
      refine ⟨fun h2 f hf => ?_, fun h2 f hf => h2 f (by simp [hf])⟩
      rcases List.mem_cons.1 hf with rfl | hf
      · exact h
      · exact h2 f hf
theorem firstBad_of : ∀ {l : List (List Int)} {i : Nat}, (∀ x ∈ l, chk x = 0) → (firstBad i l).2 = 0
  | [], _, _ => rfl
  | y :: l, i, h => by
    unfold firstBad
    rw [if_neg (by rw [h y (by simp)]; simp)]
    exact firstBad_of fun x hx => h x (by simp [hx])
theorem shapes_of : ∀ {l : List FnR} {k : Nat}, (∀ f ∈ l, (shapeF f.needs f.code).2 = 0) → shapes k l = none
  | [], _, _ => rfl
  | y :: l, k, h => by
    unfold shapes
    rw [if_neg (by rw [h y (by simp)]; simp)]
    exact shapes_of fun x hx => h x (by simp [hx])
theorem accs_iff {P : List FnR} : (progF P).2.2 = 0 ↔ Accs P := by
  constructor
  · intro h
    unfold progF at h
    split at h
    · exfalso; dsimp only at h; omega
    · rename_i hno
      simp only [Bool.or_eq_true, decide_eq_true_eq, not_or] at hno
      cases hs : shapes 0 P with
      | some x => rw [hs] at h; exact (shapes_pos hs h).elim
      | none =>
        rw [hs] at h
        simp only at h
        split at h
        · exfalso; dsimp only at h; omega
        · rename_i hn0
          cases hf : faults P 0 P with
          | some x =>
            obtain ⟨a, i, e⟩ := x
            rw [hf] at h
            simp only at h
            obtain ⟨m, f, _, _, hfl⟩ := faults_some hf
            exact (funcFault_some hfl h).elim
          | none =>
            refine ⟨by omega, by omega, by simpa using hn0, fun f hm => ?_⟩
            obtain ⟨a, b, c, d, e⟩ := shape_zero (shapes_none hs f hm)
            refine ⟨a, b, c, d, e, fun i x hx => ?_⟩
            have h1 := faults_none.1 hf f hm
            unfold fault1 at h1
            have := funcFault_none.1 h1 i x hx
            rwa [Nat.zero_add] at this
  · intro h
    have hs : shapes 0 P = none := shapes_of fun f hf => by
      have := h.all f hf
      have hn0 := this.n0; have hn1 := this.n1; have hl0 := this.l0; have hl1 := this.l1
      unfold shapeF
      rw [if_neg (by simp only [Bool.or_eq_true, decide_eq_true_eq]; omega), if_neg (by simp only [Bool.or_eq_true, decide_eq_true_eq]; omega)]
      exact firstBad_of this.ok
    have hf : faults P 0 P = none := faults_none.2 fun f hf => by
      unfold fault1
      exact funcFault_none.2 fun j x hx => by rw [Nat.zero_add]; exact (h.all f hf).good j x hx
    have hn0 := h.n0; have hn1 := h.n1
    unfold progF
    rw [if_neg (by simp only [Bool.or_eq_true, decide_eq_true_eq]; omega), hs]
    simp only
    rw [if_neg (by rw [h.root]; simp), hf]
structure Good (P : List FnR) (n : Nat) (D H : List Int) (i : Nat) (x : List Int) : Prop where
  places : placesB P.length n x = false
  last : lastB n i x = false
  scopes : scopesOk D i x = true
  handles : handlesOk P (H.getD i 0) x = true
theorem good_iff {P : List FnR} {n : Nat} {D H : List Int} {i : Nat} {x : List Int} : wrongF P n D H i x = 0 ↔ Good P n D H i x := by
  constructor
  · intro h
    cases h1 : placesB P.length n x with
    | true => rw [wrong_1 h1] at h; cases h
    | false =>
      cases h2 : lastB n i x with
      | true => rw [wrong_2 h1 h2] at h; cases h
      | false =>
        cases h3 : scopesOk D i x with
        | false => rw [wrong_3 h1 h2 h3] at h; cases h
        | true =>
          cases h4 : handlesOk P (H.getD i 0) x with
          | false => rw [wrong_4 h1 h2 h3, h4] at h; simp at h
          | true => exact ⟨h1, h2, h3, h4⟩
  · rintro ⟨h1, h2, h3, h4⟩
    rw [wrong_4 h1 h2 h3, h4]; rfl
theorem depths_step : ∀ {l : List (List Int)} {n : Int} {i : Nat}, i + 1 < l.length → (depths n l).getD (i + 1) 0 = stepD ((depths n l).getD i 0) (l.getD i [])
  | [], _, _, h => by simp at h
  | [x], _, i, h => by simp at h
  | x :: y :: l, n, 0, _ => by simp [depths]
  | x :: y :: l, n, i + 1, h => by
    have := depths_step (l := y :: l) (n := stepD n x) (i := i) (by simpa using h)
    simp only [depths, List.getD_cons_succ] at this ⊢
    exact this
structure Walk (P : List FnR) (f : FnR) (hv op at' : Int) : Prop where
  a0 : 0 ≤ at'
  a1 : at' < f.code.length
  inI : InI hv
  bits : ∀ h : Nat, h < 8 → tb hv h = false → tb f.needs h = false ∧ Way f.code h at'
  open' : op = (depths 0 f.code).getD at'.toNat 0
section
variable {P : List FnR} {f : FnR} {hv op at' : Int} {x : List Int}
theorem walk_good (hA : Acc P f) (hW : Walk P f hv op at') (hx : f.code[at'.toNat]? = some x) : Good P f.code.length (depths 0 f.code) (heldL f.code f.needs) at'.toNat x := good_iff.1 (hA.good _ _ hx)
theorem walk_held (hW : Walk P f hv op at') {h : Nat} (hh : h < 8) (ht : tb ((heldL f.code f.needs).getD at'.toNat 0) h = true) : tb hv h = true := by
  have h0 := hW.a0; have h1 := hW.a1
  rw [heldL_get (by omega), tb_rs hh, Int.toNat_of_nonneg h0] at ht
  cases q : tb hv h with
  | true => rfl
  | false =>
    obtain ⟨b1, b2⟩ := hW.bits h hh q
    rcases heldB_iff.1 ht with r | r
    · rw [b1] at r; cases r
    · exact (r b2).elim
theorem walk_to (hn : f.code.length ≤ 128) (hW : Walk P f hv op at') (hx : f.code[at'.toNat]? = some x) {z : Int} {hv' op' : Int} (hz : z ∈ behind f.code.length at' x) (hI : InI hv')
    (hb : ∀ h : Nat, h < 8 → tb hv' h = false → tb hv h = false ∧ forks x h = false) (ho : op' = (depths 0 f.code).getD z.toNat 0) : Walk P f hv' op' z := by
  have h0 := hW.a0; have h1 := hW.a1
  have hin := behind_in (x := x) (n := f.code.length) (i := at') (by omega) h0 h1 z hz
  have hg : f.code.getD at'.toNat [] = x := by simp [hx]
  refine ⟨hin.1, hin.2, hI, fun h hh ht => ?_, ho⟩
  obtain ⟨b1, b2⟩ := hb h hh ht
  obtain ⟨c1, c2⟩ := hW.bits h hh b1
  exact ⟨c1, c2.next (by rw [hg]; exact b2) (by rw [hg]; exact hz)⟩
theorem behind_next (hA : Acc P f) (hW : Walk P f hv op at') (hx : f.code[at'.toNat]? = some x) (h6 : opI x ≠ 6) (h15 : opI x ≠ 15) (h16 : opI x ≠ 16) : at' + 1 ∈ behind f.code.length at' x ∧ at' + 1 < f.code.length := by
  have h0 := hW.a0; have h1 := hW.a1; have hl := hA.l1
  have hg := walk_good hA hW hx
  have he : isEnds x = false := by unfold isEnds; rw [show (opI x == 16) = false by simpa using h16, show (opI x == 15) = false by simpa using h15]; rfl
  have h6' : (opI x != 6) = true := by simpa using h6
  have hlt : at' + 1 < f.code.length := by
    have := hg.last
    unfold lastB at this
    rw [he, h6'] at this
    simp only [Bool.and_true, Bool.not_false, beq_eq_false_iff_ne, ne_eq] at this
    omega
  have hw : IntKind.wrap .i64 (at' + 1) = at' + 1 := wrap_id ⟨by omega, by omega⟩
  refine ⟨?_, hlt⟩
  unfold behind
  have hB : yB f.code.length at' x = true := by unfold yB; rw [he, h6', hw, decide_eq_true hlt]; rfl
  rw [if_pos hB, hw]; simp
theorem behind_goes (hA : Acc P f) (hW : Walk P f hv op at') (hx : f.code[at'.toNat]? = some x) (hgo : isGoes x = true) : x.getD 4 0 ∈ behind f.code.length at' x := by
  have hg := walk_good hA hW hx
  have h1 := (places_in hg.places).1 hgo
  have h2 := (chk0 (hA.ok x (List.mem_of_getElem? hx))).2.2.1 hgo
  unfold behind
  have hB : yA f.code.length x = true := by unfold yA; rw [hgo, decide_eq_true ⟨h2.1, h1⟩]; rfl
  rw [if_pos hB]; simp
theorem depth_next (hW : Walk P f hv op at') (hx : f.code[at'.toNat]? = some x) (hlt : at' + 1 < f.code.length) : (depths 0 f.code).getD (at' + 1).toNat 0 = stepD op x := by
  have h0 := hW.a0
  have e : (at' + 1).toNat = at'.toNat + 1 := by omega
  have hg : f.code.getD at'.toNat [] = x := by simp [hx]
  rw [e, depths_step (by omega), hg, ← hW.open']
theorem forks_not {h : Int} (h8 : opI x ≠ 8) : forks x h = false := by
  unfold forks; rw [show (opI x == 8) = false by simpa using h8]; rfl
theorem walk_next (hA : Acc P f) (hW : Walk P f hv op at') (hx : f.code[at'.toNat]? = some x) (h6 : opI x ≠ 6) (h15 : opI x ≠ 15) (h16 : opI x ≠ 16) (h8 : opI x ≠ 8) : Walk P f hv (stepD op x) (at' + 1) := by
  obtain ⟨hz, hlt⟩ := behind_next hA hW hx h6 h15 h16
  exact walk_to hA.l1 hW hx hz hW.inI (fun h hh ht => ⟨ht, forks_not h8⟩) (depth_next hW hx hlt).symm
theorem walk_goes (hA : Acc P f) (hW : Walk P f hv op at') (hx : f.code[at'.toNat]? = some x) (hgo : isGoes x = true) : Walk P f hv op (x.getD 4 0) := by
  have hg := walk_good hA hW hx
  have ho : opI x = 6 ∨ opI x = 7 := by unfold isGoes at hgo; simpa using hgo
  have h8 : opI x ≠ 8 := by omega
  refine walk_to hA.l1 hW hx (behind_goes hA hW hx hgo) hW.inI (fun h hh ht => ⟨ht, forks_not h8⟩) ?_
  have := hg.scopes
  unfold scopesOk at this
  rw [if_neg (by rcases ho with ho | ho <;> rw [ho] <;> decide), if_neg (by rcases ho with ho | ho <;> rw [ho] <;> decide), if_pos hgo] at this
  rw [hW.open']
  exact (by simpa using this : _ = _).symm
end
end Go.Proofs.YtgkfbagclkjilaaGreatDoor.Ck
namespace Go.Proofs.YtgkfbagclkjilaaGreatDoor.Ck
open Go Go.Ev Go.Proofs
theorem inI_or (x y : Int) : InI (orI .i64 x y) := by rw [orI_bv]; exact inI_toInt _
theorem walk_start {P : List FnR} {f : FnR} (hA : Acc P f) (hN : InI f.needs) : Walk P f f.needs 0 0 := by
  have := hA.l0
  refine ⟨by omega, by omega, hN, fun h hh ht => ⟨ht, .zero⟩, ?_⟩
  cases hc : f.code with
  | nil => rw [hc] at this; simp at this
  | cons x l => rfl
end Go.Proofs.YtgkfbagclkjilaaGreatDoor.Ck
