/-
  The functions of this seat, as the evaluator gives them: printed by a program; each tied to its function by the kernel.
-/
import Derived.Test.YtkcakjckpbldoaaProg
import Derived.Test.YtkcakjckpbldoaaEvH
import Derived.KernelRfl
set_option maxRecDepth 100000
set_option linter.unusedVariables false
namespace Go.Proofs.Ytkcakjckpbldoaa
open Go Go.Ev
theorem mixed : Go.Proofs.Try.prog.follows .mixedOrders = true := by kernel_rfl

/-- peloton/pelotonlaw05.usual -/
def pelotonlaw05_usual (f_0 : Array Value) (w : World) (k : (Bool) → World → Prop) : Prop :=
  newC w f_0 48 fun a1 w2 =>
  ldI .i64 w2 (Addr.add a1 1) fun i3 =>
  iteB (decide (i3 ≥ (0 : Int))) (
    ldI .i64 w2 (Addr.add a1 1) fun i4 =>
    iteB (decide (i4 < (2147483648 : Int))) (
      ldI .i64 w2 (Addr.add a1 18) fun i5 =>
      iteB (decide (i5 ≥ (0 : Int))) (
        ldI .i64 w2 (Addr.add a1 18) fun i6 =>
        (k (decide (i6 < (2147483648 : Int))) w2)) (
        (k false w2))) (
      (k false w2))) (
    (k false w2))
def d24 : Dec := fun args w c => unL [.ag] args fun x => pelotonlaw05_usual x w fun r w => c (packV (valL [.b] r)) w
theorem s24 : Sound Go.Proofs.Try.prog 24 d24 :=
  sound_of (mask := 6) (h := []) (ds := []) mixed Go.Proofs.Try.func24 trivial
    [.ag] [.b] (by kernel_rfl) (fun x w k => pelotonlaw05_usual x w k) (fun x w k => by kernel_rfl)

/-- peloton/frame.Root -/
def frame_Root  (w : World) (k : (Array Value) → World → Prop) : Prop :=
  newC w #[(.int .i64 (0 : Int)), (.int .i64 (0 : Int)), (.int .i64 (0 : Int)), (.int .i64 (0 : Int)), (.int .i64 (0 : Int)), (.int .i64 (0 : Int)), (.int .i64 (0 : Int)), (.int .i64 (0 : Int)), (.int .i64 (0 : Int)), (.int .i64 (0 : Int)), (.int .i64 (0 : Int)), (.int .i64 (0 : Int)), (.int .i64 (0 : Int)), (.int .i64 (0 : Int)), (.int .i64 (0 : Int)), (.int .i64 (0 : Int)), (.int .i64 (0 : Int)), (.int .i64 (0 : Int)), (.int .i64 (0 : Int))] 48 fun a1 w2 =>
  newC w2 #[(.int .i64 (0 : Int)), (.int .i64 (0 : Int)), (.int .i64 (0 : Int)), (.int .i64 (0 : Int)), (.int .i64 (0 : Int)), (.int .i64 (0 : Int)), (.int .i64 (0 : Int)), (.int .i64 (0 : Int)), (.int .i64 (0 : Int)), (.int .i64 (0 : Int)), (.int .i64 (0 : Int)), (.int .i64 (0 : Int)), (.int .i64 (0 : Int)), (.int .i64 (0 : Int)), (.int .i64 (0 : Int)), (.int .i64 (0 : Int)), (.int .i64 (0 : Int)), (.int .i64 (0 : Int)), (.int .i64 (0 : Int))] 48 fun a3 w4 =>
  loopP (S := Int) (fun C5 i6 w7 =>
    iteB (decide (i6 < (8 : Int))) (
      ixP (Addr.add a3 10) 8 i6 1 fun a8 =>
      stC w7 a8 (.int .i64 (-(1 : Int))) fun w9 =>
      (C5 (IntKind.wrap .i64 (i6 + (1 : Int))) w9)) (
      ldA 19 w7 a3 fun cs10 =>
      stA 19 w7 a1 cs10 fun w11 =>
      ldA 19 w11 a1 fun cs12 =>
      (k cs12 w11))) (0 : Int) w4
def d30 : Dec := fun args w c => unL [] args fun x => frame_Root  w fun r w => c (packV (valL [.ag] r)) w
theorem s30 : Sound Go.Proofs.Try.prog 30 d30 :=
  sound_of (mask := 31) (h := [(4, [(3, (.i .i64))])]) (ds := []) mixed Go.Proofs.Try.func30 trivial
    [] [.ag] (by kernel_rfl) (fun x w k => frame_Root  w k) (fun x w k => by kernel_rfl)

/-- peloton/code.operands -/
def code_operands (op_0 : Int) (w : World) (k : (Array Value) → World → Prop) : Prop :=
  newC w #[(.int .i64 (0 : Int)), (.int .i64 (0 : Int)), (.int .i64 (0 : Int)), (.int .i64 (0 : Int))] 106 fun a1 w2 =>
  spl #[(.int .i64 (0 : Int)), (.int .i64 (0 : Int)), (.int .i64 (0 : Int)), (.int .i64 (0 : Int)), (.int .i64 (0 : Int)), (.int .i64 (0 : Int)), (.int .i64 (0 : Int)), (.int .i64 (0 : Int)), (.int .i64 (0 : Int)), (.int .i64 (0 : Int)), (.int .i64 (0 : Int)), (.int .i64 (0 : Int)), (.int .i64 (0 : Int)), (.int .i64 (0 : Int)), (.int .i64 (0 : Int)), (.int .i64 (0 : Int)), (.int .i64 (0 : Int)), (.int .i64 (0 : Int)), (.int .i64 (0 : Int)), (.int .i64 (0 : Int)), (.int .i64 (0 : Int)), (.int .i64 (0 : Int)), (.int .i64 (0 : Int)), (.int .i64 (0 : Int)), (.int .i64 (0 : Int)), (.int .i64 (0 : Int)), (.int .i64 (0 : Int)), (.int .i64 (0 : Int)), (.int .i64 (0 : Int)), (.int .i64 (0 : Int)), (.int .i64 (0 : Int)), (.int .i64 (0 : Int)), (.int .i64 (0 : Int)), (.int .i64 (0 : Int)), (.int .i64 (0 : Int)), (.int .i64 (0 : Int)), (.int .i64 (0 : Int)), (.int .i64 (0 : Int)), (.int .i64 (0 : Int)), (.int .i64 (0 : Int)), (.int .i64 (0 : Int)), (.int .i64 (0 : Int)), (.int .i64 (0 : Int)), (.int .i64 (0 : Int)), (.int .i64 (0 : Int)), (.int .i64 (0 : Int)), (.int .i64 (0 : Int)), (.int .i64 (0 : Int)), (.int .i64 (0 : Int)), (.int .i64 (0 : Int)), (.int .i64 (0 : Int)), (.int .i64 (0 : Int)), (.int .i64 (0 : Int)), (.int .i64 (0 : Int)), (.int .i64 (0 : Int)), (.int .i64 (0 : Int)), (.int .i64 (0 : Int)), (.int .i64 (0 : Int)), (.int .i64 (0 : Int)), (.int .i64 (0 : Int)), (.int .i64 (0 : Int)), (.int .i64 (0 : Int)), (.int .i64 (0 : Int)), (.int .i64 (0 : Int)), (.int .i64 (0 : Int)), (.int .i64 (0 : Int)), (.int .i64 (0 : Int)), (.int .i64 (0 : Int))] 0 4 #[(.int .i64 (1 : Int)), (.int .i64 (0 : Int)), (.int .i64 (0 : Int)), (.int .i64 (5 : Int))] fun cs3 =>
  spl cs3 4 4 #[(.int .i64 (1 : Int)), (.int .i64 (1 : Int)), (.int .i64 (0 : Int)), (.int .i64 (0 : Int))] fun cs4 =>
  spl cs4 8 4 #[(.int .i64 (1 : Int)), (.int .i64 (1 : Int)), (.int .i64 (1 : Int)), (.int .i64 (0 : Int))] fun cs5 =>
  spl cs5 12 4 #[(.int .i64 (1 : Int)), (.int .i64 (1 : Int)), (.int .i64 (1 : Int)), (.int .i64 (0 : Int))] fun cs6 =>
  spl cs6 16 4 #[(.int .i64 (1 : Int)), (.int .i64 (1 : Int)), (.int .i64 (1 : Int)), (.int .i64 (0 : Int))] fun cs7 =>
  spl cs7 20 4 #[(.int .i64 (1 : Int)), (.int .i64 (1 : Int)), (.int .i64 (1 : Int)), (.int .i64 (0 : Int))] fun cs8 =>
  spl cs8 24 4 #[(.int .i64 (0 : Int)), (.int .i64 (0 : Int)), (.int .i64 (0 : Int)), (.int .i64 (2 : Int))] fun cs9 =>
  spl cs9 28 4 #[(.int .i64 (1 : Int)), (.int .i64 (0 : Int)), (.int .i64 (0 : Int)), (.int .i64 (2 : Int))] fun cs10 =>
  spl cs10 32 4 #[(.int .i64 (1 : Int)), (.int .i64 (0 : Int)), (.int .i64 (0 : Int)), (.int .i64 (3 : Int))] fun cs11 =>
  spl cs11 36 4 #[(.int .i64 (1 : Int)), (.int .i64 (1 : Int)), (.int .i64 (0 : Int)), (.int .i64 (0 : Int))] fun cs12 =>
  spl cs12 40 4 #[(.int .i64 (1 : Int)), (.int .i64 (1 : Int)), (.int .i64 (1 : Int)), (.int .i64 (0 : Int))] fun cs13 =>
  spl cs13 44 4 #[(.int .i64 (0 : Int)), (.int .i64 (0 : Int)), (.int .i64 (0 : Int)), (.int .i64 (4 : Int))] fun cs14 =>
  spl cs14 48 4 #[(.int .i64 (1 : Int)), (.int .i64 (0 : Int)), (.int .i64 (0 : Int)), (.int .i64 (0 : Int))] fun cs15 =>
  spl cs15 52 4 #[(.int .i64 (0 : Int)), (.int .i64 (0 : Int)), (.int .i64 (0 : Int)), (.int .i64 (0 : Int))] fun cs16 =>
  spl cs16 56 4 #[(.int .i64 (0 : Int)), (.int .i64 (0 : Int)), (.int .i64 (0 : Int)), (.int .i64 (0 : Int))] fun cs17 =>
  spl cs17 60 4 #[(.int .i64 (1 : Int)), (.int .i64 (0 : Int)), (.int .i64 (0 : Int)), (.int .i64 (0 : Int))] fun cs18 =>
  spl cs18 64 4 #[(.int .i64 (1 : Int)), (.int .i64 (0 : Int)), (.int .i64 (0 : Int)), (.int .i64 (0 : Int))] fun cs19 =>
  newC w2 #[(.int .i64 (0 : Int)), (.int .i64 (0 : Int)), (.int .i64 (0 : Int)), (.int .i64 (0 : Int)), (.int .i64 (0 : Int)), (.int .i64 (0 : Int)), (.int .i64 (0 : Int)), (.int .i64 (0 : Int)), (.int .i64 (0 : Int)), (.int .i64 (0 : Int)), (.int .i64 (0 : Int)), (.int .i64 (0 : Int)), (.int .i64 (0 : Int)), (.int .i64 (0 : Int)), (.int .i64 (0 : Int)), (.int .i64 (0 : Int)), (.int .i64 (0 : Int)), (.int .i64 (0 : Int)), (.int .i64 (0 : Int)), (.int .i64 (0 : Int)), (.int .i64 (0 : Int)), (.int .i64 (0 : Int)), (.int .i64 (0 : Int)), (.int .i64 (0 : Int)), (.int .i64 (0 : Int)), (.int .i64 (0 : Int)), (.int .i64 (0 : Int)), (.int .i64 (0 : Int)), (.int .i64 (0 : Int)), (.int .i64 (0 : Int)), (.int .i64 (0 : Int)), (.int .i64 (0 : Int)), (.int .i64 (0 : Int)), (.int .i64 (0 : Int)), (.int .i64 (0 : Int)), (.int .i64 (0 : Int)), (.int .i64 (0 : Int)), (.int .i64 (0 : Int)), (.int .i64 (0 : Int)), (.int .i64 (0 : Int)), (.int .i64 (0 : Int)), (.int .i64 (0 : Int)), (.int .i64 (0 : Int)), (.int .i64 (0 : Int)), (.int .i64 (0 : Int)), (.int .i64 (0 : Int)), (.int .i64 (0 : Int)), (.int .i64 (0 : Int)), (.int .i64 (0 : Int)), (.int .i64 (0 : Int)), (.int .i64 (0 : Int)), (.int .i64 (0 : Int)), (.int .i64 (0 : Int)), (.int .i64 (0 : Int)), (.int .i64 (0 : Int)), (.int .i64 (0 : Int)), (.int .i64 (0 : Int)), (.int .i64 (0 : Int)), (.int .i64 (0 : Int)), (.int .i64 (0 : Int)), (.int .i64 (0 : Int)), (.int .i64 (0 : Int)), (.int .i64 (0 : Int)), (.int .i64 (0 : Int)), (.int .i64 (0 : Int)), (.int .i64 (0 : Int)), (.int .i64 (0 : Int)), (.int .i64 (0 : Int))] 111 fun a20 w21 =>
  stA 68 w21 a20 cs19 fun w22 =>
  ixP a20 17 op_0 4 fun a23 =>
  ldA 4 w22 a23 fun cs24 =>
  stA 4 w22 a1 cs24 fun w25 =>
  ldA 4 w25 a1 fun cs26 =>
  (k cs26 w25)
def d55 : Dec := fun args w c => unL [(.i .i64)] args fun x => code_operands x w fun r w => c (packV (valL [.ag] r)) w
theorem s55 : Sound Go.Proofs.Try.prog 55 d55 :=
  sound_of (mask := 13) (h := []) (ds := []) mixed Go.Proofs.Try.func55 trivial
    [(.i .i64)] [.ag] (by kernel_rfl) (fun x w k => code_operands x w k) (fun x w k => by kernel_rfl)

/-- peloton/code.span -/
def code_span (kind_0 : Int) (w : World) (k : (Int × Int) → World → Prop) : Prop :=
  iteB (kind_0 == (1 : Int)) (
    (k ((0 : Int), (7 : Int)) w)) (
    iteB (kind_0 == (2 : Int)) (
      (k ((0 : Int), (127 : Int)) w)) (
      iteB (kind_0 == (3 : Int)) (
        (k ((0 : Int), (31 : Int)) w)) (
        iteB (kind_0 == (4 : Int)) (
          (k ((0 : Int), (65535 : Int)) w)) (
          iteB (kind_0 == (5 : Int)) (
            (k ((-(2147483648 : Int)), (2147483647 : Int)) w)) (
            (k ((0 : Int), (0 : Int)) w))))))
def d56 : Dec := fun args w c => unL [(.i .i64)] args fun x => code_span x w fun r w => c (packV (valL [(.i .i64), (.i .i64)] r)) w
theorem s56 : Sound Go.Proofs.Try.prog 56 d56 :=
  sound_of (mask := 10941) (h := []) (ds := []) mixed Go.Proofs.Try.func56 trivial
    [(.i .i64)] [(.i .i64), (.i .i64)] (by kernel_rfl) (fun x w k => code_span x w k) (fun x w k => by kernel_rfl)

/-- peloton/code.Check -/
def code_Check (i_0 : Array Value) (w : World) (k : (Int) → World → Prop) : Prop :=
  newC w i_0 50 fun a1 w2 =>
  joinP (S := Bool) (fun J3 =>
    ldI .i64 w2 (Addr.add a1 0) fun i4 =>
    iteB (decide (i4 < (0 : Int))) (
      (J3 true w2)) (
      ldI .i64 w2 (Addr.add a1 0) fun i5 =>
      (J3 (decide (i5 ≥ (17 : Int))) w2))) fun b6 w7 =>
  iteB b6 (
    (k (13 : Int) w7)) (
    ldI .i64 w7 (Addr.add a1 0) fun i8 =>
    code_operands i8 w7 fun cs9 w10 =>
    newC w10 #[(.int .i64 (0 : Int)), (.int .i64 (0 : Int)), (.int .i64 (0 : Int)), (.int .i64 (0 : Int))] 106 fun a11 w12 =>
    stA 4 w12 a11 cs9 fun w13 =>
    ldI .i64 w13 (Addr.add a1 1) fun i14 =>
    ldI .i64 w13 (Addr.add a1 2) fun i15 =>
    ldI .i64 w13 (Addr.add a1 3) fun i16 =>
    ldI .i64 w13 (Addr.add a1 4) fun i17 =>
    loopP (S := (Int × Int)) (fun C18 x19 w20 =>
      iteB (decide (x19.2 < (4 : Int))) (
        ixA #[(.int .i64 i14), (.int .i64 i15), (.int .i64 i16), (.int .i64 i17)] 4 x19.2 fun v21 =>
        toI .i64 v21 fun i22 =>
        ixP a11 4 x19.2 1 fun a23 =>
        ldI .i64 w20 a23 fun i24 =>
        code_span i24 w20 fun x25 w26 =>
        iteB ((decide (i22 < x25.1)) || (decide (i22 > x25.2))) (
          (k (10 : Int) w26)) (
          (C18 (x19.1, (IntKind.wrap .i64 (x19.2 + (1 : Int)))) w26))) (
        (k x19.1 w20))) ((0 : Int), (0 : Int)) w13)
def d46 : Dec := fun args w c => unL [.ag] args fun x => code_Check x w fun r w => c (packV (valL [(.i .i64)] r)) w
theorem s46 : Sound Go.Proofs.Try.prog 46 d46 :=
  sound_of (mask := 140739367469566) (h := [(1, [(16, .b)]), (8, [(4, (.i .i64)), (29, (.i .i64))])]) (ds := [(55, d55), (56, d56)]) mixed Go.Proofs.Try.func46 ⟨s55, s56, trivial⟩
    [.ag] [(.i .i64)] (by kernel_rfl) (fun x w k => code_Check x w k) (fun x w k => by kernel_rfl)

/-- (peloton/frame.Frame).to -/
def frame_Frame_to (f_0 : Array Value) (pc_1 : Int) (w : World) (k : (Array Value) → World → Prop) : Prop :=
  newC w f_0 48 fun a1 w2 =>
  newC w2 #[(.int .i64 (0 : Int)), (.int .i64 (0 : Int)), (.int .i64 (0 : Int)), (.int .i64 (0 : Int)), (.int .i64 (0 : Int)), (.int .i64 (0 : Int)), (.int .i64 (0 : Int)), (.int .i64 (0 : Int)), (.int .i64 (0 : Int)), (.int .i64 (0 : Int)), (.int .i64 (0 : Int)), (.int .i64 (0 : Int)), (.int .i64 (0 : Int)), (.int .i64 (0 : Int)), (.int .i64 (0 : Int)), (.int .i64 (0 : Int)), (.int .i64 (0 : Int)), (.int .i64 (0 : Int)), (.int .i64 (0 : Int))] 48 fun a3 w4 =>
  stC w4 (Addr.add a1 1) (.int .i64 pc_1) fun w5 =>
  ldI .i64 w5 (Addr.add a1 18) fun i6 =>
  stC w5 (Addr.add a1 18) (.int .i64 (IntKind.wrap .i64 (i6 + (1 : Int)))) fun w7 =>
  ldA 19 w7 a1 fun cs8 =>
  stA 19 w7 a3 cs8 fun w9 =>
  ldA 19 w9 a3 fun cs10 =>
  (k cs10 w9)
def d47 : Dec := fun args w c => unL [.ag, (.i .i64)] args fun x => frame_Frame_to x.1 x.2 w fun r w => c (packV (valL [.ag] r)) w
theorem s47 : Sound Go.Proofs.Try.prog 47 d47 :=
  sound_of (mask := 22) (h := []) (ds := []) mixed Go.Proofs.Try.func47 trivial
    [.ag, (.i .i64)] [.ag] (by kernel_rfl) (fun x w k => frame_Frame_to x.1 x.2 w k) (fun x w k => by kernel_rfl)

/-- (peloton/frame.Frame).Passed -/
def frame_Frame_Passed (f_0 : Array Value) (w : World) (k : (Array Value) → World → Prop) : Prop :=
  newC w f_0 48 fun a1 w2 =>
  newC w2 #[(.int .i64 (0 : Int)), (.int .i64 (0 : Int)), (.int .i64 (0 : Int)), (.int .i64 (0 : Int)), (.int .i64 (0 : Int)), (.int .i64 (0 : Int)), (.int .i64 (0 : Int)), (.int .i64 (0 : Int)), (.int .i64 (0 : Int)), (.int .i64 (0 : Int)), (.int .i64 (0 : Int)), (.int .i64 (0 : Int)), (.int .i64 (0 : Int)), (.int .i64 (0 : Int)), (.int .i64 (0 : Int)), (.int .i64 (0 : Int)), (.int .i64 (0 : Int)), (.int .i64 (0 : Int)), (.int .i64 (0 : Int))] 48 fun a3 w4 =>
  ldA 19 w4 a1 fun cs5 =>
  ldI .i64 w4 (Addr.add a1 1) fun i6 =>
  frame_Frame_to cs5 (IntKind.wrap .i64 (i6 + (1 : Int))) w4 fun cs7 w8 =>
  stA 19 w8 a3 cs7 fun w9 =>
  ldA 19 w9 a3 fun cs10 =>
  (k cs10 w9)
def d34 : Dec := fun args w c => unL [.ag] args fun x => frame_Frame_Passed x w fun r w => c (packV (valL [.ag] r)) w
theorem s34 : Sound Go.Proofs.Try.prog 34 d34 :=
  sound_of (mask := 6) (h := []) (ds := [(47, d47)]) mixed Go.Proofs.Try.func34 ⟨s47, trivial⟩
    [.ag] [.ag] (by kernel_rfl) (fun x w k => frame_Frame_Passed x w k) (fun x w k => by kernel_rfl)

/-- (peloton/frame.Frame).sums -/
def frame_Frame_sums (f_0 : Array Value) (i_1 : Array Value) (w : World) (k : (Sl) → World → Prop) : Prop :=
  newC w f_0 48 fun a1 w2 =>
  newC w2 i_1 50 fun a3 w4 =>
  joinP (S := (Addr × Addr)) (fun J5 =>
    drew w4 fun w6 =>
    ldI .i64 w6 (Addr.add a3 2) fun i7 =>
    ixP (Addr.add a1 2) 8 i7 1 fun a8 =>
    ldI .i64 w6 a8 fun i9 =>
    ldI .i64 w6 (Addr.add a3 3) fun i10 =>
    ixP (Addr.add a1 2) 8 i10 1 fun a11 =>
    ldI .i64 w6 a11 fun i12 =>
    both (
      newC w6 #[(.int .i64 (0 : Int))] 2 fun a13 w14 =>
      samec 1 a11 w6 w14 (
      samec 1 (Addr.add a3 3) w6 w14 (
      samec 1 a8 w6 w14 (
      samec 1 (Addr.add a3 2) w6 w14 (
      newC w14 #[(.int .i64 (0 : Int))] 2 fun a15 w16 =>
      samec 1 a11 w6 w16 (
      samec 1 (Addr.add a3 3) w6 w16 (
      samec 1 a8 w6 w16 (
      samec 1 (Addr.add a3 2) w6 w16 (
      stC w16 a13 (.int .i64 i9) fun w17 =>
      samec 1 a11 w6 w17 (
      samec 1 (Addr.add a3 3) w6 w17 (
      stC w17 a15 (.int .i64 i12) fun w18 =>
      (J5 (a13, a15) w18)))))))))))) (
      newC w6 #[(.int .i64 (0 : Int))] 2 fun a19 w20 =>
      samec 1 a11 w6 w20 (
      samec 1 (Addr.add a3 3) w6 w20 (
      samec 1 a8 w6 w20 (
      samec 1 (Addr.add a3 2) w6 w20 (
      newC w20 #[(.int .i64 (0 : Int))] 2 fun a21 w22 =>
      samec 1 a11 w6 w22 (
      samec 1 (Addr.add a3 3) w6 w22 (
      samec 1 a8 w6 w22 (
      samec 1 (Addr.add a3 2) w6 w22 (
      stC w22 a21 (.int .i64 i9) fun w23 =>
      samec 1 a11 w6 w23 (
      samec 1 (Addr.add a3 3) w6 w23 (
      stC w23 a19 (.int .i64 i12) fun w24 =>
      (J5 (a21, a19) w24))))))))))))) fun x25 w26 =>
  newC w26 #[(.func (.func 57) #[] #[(.pointer (some a3))]), (.func (.func 58) #[] #[(.pointer (some x25.1))]), (.func (.func 59) #[] #[(.pointer (some x25.1)), (.pointer (some x25.2))]), (.func (.func 60) #[] #[(.pointer (some x25.1)), (.pointer (some x25.2))]), (.func (.func 61) #[] #[(.pointer (some x25.1)), (.pointer (some x25.2))]), (.func (.func 62) #[] #[(.pointer (some x25.1)), (.pointer (some x25.2))])] 39 fun a27 w28 =>
  (k (Sl.mk (some a27) 6 6) w28)
def d48 : Dec := fun args w c => unL [.ag, .ag] args fun x => frame_Frame_sums x.1 x.2 w fun r w => c (packV (valL [.s] r)) w
theorem s48 : Sound Go.Proofs.Try.prog 48 d48 :=
  sound_of (mask := 124) (h := [(1, [(5, .a), (6, .a)])]) (ds := []) mixed Go.Proofs.Try.func48 trivial
    [.ag, .ag] [.s] (by kernel_rfl) (fun x w k => frame_Frame_sums x.1 x.2 w k) (fun x w k => by kernel_rfl)

/-- (peloton/frame.Frame).sums$1 -/
def frame_Frame_sums_1 (_0 : Addr) (w : World) (k : (Int) → World → Prop) : Prop :=
  ldI .i64 w (Addr.add _0 4) fun i1 =>
  (k i1 w)
def d57 : Dec := fun args w c => unL [.a] args fun x => frame_Frame_sums_1 x w fun r w => c (packV (valL [(.i .i64)] r)) w
theorem s57 : Sound Go.Proofs.Try.prog 57 d57 :=
  sound_of (mask := 3) (h := []) (ds := []) mixed Go.Proofs.Try.func57 trivial
    [.a] [(.i .i64)] (by kernel_rfl) (fun x w k => frame_Frame_sums_1 x w k) (fun x w k => by kernel_rfl)

/-- (peloton/frame.Frame).sums$2 -/
def frame_Frame_sums_2 (_0 : Addr) (w : World) (k : (Int) → World → Prop) : Prop :=
  ldI .i64 w _0 fun i1 =>
  (k i1 w)
def d58 : Dec := fun args w c => unL [.a] args fun x => frame_Frame_sums_2 x w fun r w => c (packV (valL [(.i .i64)] r)) w
theorem s58 : Sound Go.Proofs.Try.prog 58 d58 :=
  sound_of (mask := 3) (h := []) (ds := []) mixed Go.Proofs.Try.func58 trivial
    [.a] [(.i .i64)] (by kernel_rfl) (fun x w k => frame_Frame_sums_2 x w k) (fun x w k => by kernel_rfl)

/-- (peloton/frame.Frame).sums$3 -/
def frame_Frame_sums_3 (_0 : Addr) (_1 : Addr) (w : World) (k : (Int) → World → Prop) : Prop :=
  ldI .i64 w _0 fun i1 =>
  ldI .i64 w _1 fun i2 =>
  (k (IntKind.wrap .i64 (i1 + i2)) w)
def d59 : Dec := fun args w c => unL [.a, .a] args fun x => frame_Frame_sums_3 x.1 x.2 w fun r w => c (packV (valL [(.i .i64)] r)) w
theorem s59 : Sound Go.Proofs.Try.prog 59 d59 :=
  sound_of (mask := 7) (h := []) (ds := []) mixed Go.Proofs.Try.func59 trivial
    [.a, .a] [(.i .i64)] (by kernel_rfl) (fun x w k => frame_Frame_sums_3 x.1 x.2 w k) (fun x w k => by kernel_rfl)

/-- (peloton/frame.Frame).sums$4 -/
def frame_Frame_sums_4 (_0 : Addr) (_1 : Addr) (w : World) (k : (Int) → World → Prop) : Prop :=
  ldI .i64 w _0 fun i1 =>
  ldI .i64 w _1 fun i2 =>
  (k (IntKind.wrap .i64 (i1 - i2)) w)
def d60 : Dec := fun args w c => unL [.a, .a] args fun x => frame_Frame_sums_4 x.1 x.2 w fun r w => c (packV (valL [(.i .i64)] r)) w
theorem s60 : Sound Go.Proofs.Try.prog 60 d60 :=
  sound_of (mask := 7) (h := []) (ds := []) mixed Go.Proofs.Try.func60 trivial
    [.a, .a] [(.i .i64)] (by kernel_rfl) (fun x w k => frame_Frame_sums_4 x.1 x.2 w k) (fun x w k => by kernel_rfl)

/-- (peloton/frame.Frame).sums$5 -/
def frame_Frame_sums_5 (_0 : Addr) (_1 : Addr) (w : World) (k : (Int) → World → Prop) : Prop :=
  ldI .i64 w _0 fun i1 =>
  ldI .i64 w _1 fun i2 =>
  (k (IntKind.wrap .i64 (i1 * i2)) w)
def d61 : Dec := fun args w c => unL [.a, .a] args fun x => frame_Frame_sums_5 x.1 x.2 w fun r w => c (packV (valL [(.i .i64)] r)) w
theorem s61 : Sound Go.Proofs.Try.prog 61 d61 :=
  sound_of (mask := 7) (h := []) (ds := []) mixed Go.Proofs.Try.func61 trivial
    [.a, .a] [(.i .i64)] (by kernel_rfl) (fun x w k => frame_Frame_sums_5 x.1 x.2 w k) (fun x w k => by kernel_rfl)

/-- peloton/frame.one -/
def frame_one (is_0 : Bool) (w : World) (k : (Int) → World → Prop) : Prop :=
  iteB is_0 (
    (k (1 : Int) w)) (
    (k (0 : Int) w))
def d52 : Dec := fun args w c => unL [.b] args fun x => frame_one x w fun r w => c (packV (valL [(.i .i64)] r)) w
theorem s52 : Sound Go.Proofs.Try.prog 52 d52 :=
  sound_of (mask := 13) (h := []) (ds := []) mixed Go.Proofs.Try.func52 trivial
    [.b] [(.i .i64)] (by kernel_rfl) (fun x w k => frame_one x w k) (fun x w k => by kernel_rfl)

/-- (peloton/frame.Frame).sums$6 -/
def frame_Frame_sums_6 (_0 : Addr) (_1 : Addr) (w : World) (k : (Int) → World → Prop) : Prop :=
  ldI .i64 w _0 fun i1 =>
  ldI .i64 w _1 fun i2 =>
  frame_one (decide (i1 < i2)) w fun i3 w4 =>
  (k i3 w4)
def d62 : Dec := fun args w c => unL [.a, .a] args fun x => frame_Frame_sums_6 x.1 x.2 w fun r w => c (packV (valL [(.i .i64)] r)) w
theorem s62 : Sound Go.Proofs.Try.prog 62 d62 :=
  sound_of (mask := 7) (h := []) (ds := [(52, d52)]) mixed Go.Proofs.Try.func62 ⟨s52, trivial⟩
    [.a, .a] [(.i .i64)] (by kernel_rfl) (fun x w k => frame_Frame_sums_6 x.1 x.2 w k) (fun x w k => by kernel_rfl)

/-- (peloton/frame.Frame).Plain -/
def frame_Frame_Plain (f_0 : Array Value) (i_1 : Array Value) (w : World) (k : (Array Value × Bool) → World → Prop) : Prop :=
  newC w f_0 48 fun a1 w2 =>
  newC w2 i_1 50 fun a3 w4 =>
  newC w4 #[(.int .i64 (0 : Int)), (.int .i64 (0 : Int)), (.int .i64 (0 : Int)), (.int .i64 (0 : Int)), (.int .i64 (0 : Int)), (.int .i64 (0 : Int)), (.int .i64 (0 : Int)), (.int .i64 (0 : Int)), (.int .i64 (0 : Int)), (.int .i64 (0 : Int)), (.int .i64 (0 : Int)), (.int .i64 (0 : Int)), (.int .i64 (0 : Int)), (.int .i64 (0 : Int)), (.int .i64 (0 : Int)), (.int .i64 (0 : Int)), (.int .i64 (0 : Int)), (.int .i64 (0 : Int)), (.int .i64 (0 : Int))] 48 fun a5 w6 =>
  ldA 5 w6 a3 fun cs7 =>
  code_Check cs7 w6 fun i8 w9 =>
  iteB (i8 != (0 : Int)) (
    ldA 19 w9 a1 fun cs10 =>
    stA 19 w9 a5 cs10 fun w11 =>
    ldA 19 w11 a5 fun cs12 =>
    (k (cs12, false) w11)) (
    ldI .i64 w9 (Addr.add a3 0) fun i13 =>
    joinP (S := Bool) (fun J14 =>
      iteB (i13 == (6 : Int)) (
        (J14 (i13 == (6 : Int)) w9)) (
        ldI .i64 w9 (Addr.add a3 0) fun i15 =>
        iteB (i15 == (7 : Int)) (
          ldI .i64 w9 (Addr.add a3 1) fun i16 =>
          ixP (Addr.add a1 2) 8 i16 1 fun a17 =>
          ldI .i64 w9 a17 fun i18 =>
          (J14 (i18 != (0 : Int)) w9)) (
          (J14 false w9)))) fun b19 w20 =>
    iteB b19 (
      ldA 19 w20 a1 fun cs21 =>
      ldI .i64 w20 (Addr.add a3 4) fun i22 =>
      frame_Frame_to cs21 i22 w20 fun cs23 w24 =>
      stA 19 w24 a5 cs23 fun w25 =>
      ldA 19 w25 a5 fun cs26 =>
      (k (cs26, true) w25)) (
      ldI .i64 w20 (Addr.add a3 0) fun i27 =>
      iteB (i27 == (7 : Int)) (
        ldA 19 w20 a1 fun cs28 =>
        frame_Frame_Passed cs28 w20 fun cs29 w30 =>
        stA 19 w30 a5 cs29 fun w31 =>
        ldA 19 w31 a5 fun cs32 =>
        (k (cs32, true) w31)) (
        ldI .i64 w20 (Addr.add a3 0) fun i33 =>
        iteB (decide (i33 > (5 : Int))) (
          ldA 19 w20 a1 fun cs34 =>
          stA 19 w20 a5 cs34 fun w35 =>
          ldA 19 w35 a5 fun cs36 =>
          (k (cs36, false) w35)) (
          drew w20 fun w37 =>
          ldI .i64 w37 (Addr.add a3 1) fun i38 =>
          ldA 19 w37 a1 fun cs39 =>
          ldA 5 w37 a3 fun cs40 =>
          ldI .i64 w37 (Addr.add a3 0) fun i41 =>
          frame_Frame_sums cs39 cs40 w37 fun s42 w43 =>
          samec 1 (Addr.add a3 0) w37 w43 (
          samec 1 (Addr.add a3 1) w37 w43 (
          ixS s42 i41 1 fun a44 =>
          ldV w43 a44 fun v45 =>
          callF (orcOf [(46, d46), (47, d47), (34, d34), (48, d48), (57, d57), (58, d58), (59, d59), (60, d60), (61, d61), (62, d62)]) v45 #[] w43 fun v46 w47 =>
          toI .i64 v46 fun i48 =>
          samec 1 (Addr.add a3 1) w37 w47 (
          ixP (Addr.add a1 2) 8 i38 1 fun a49 =>
          stC w47 a49 (.int .i64 i48) fun w50 =>
          ldA 19 w50 a1 fun cs51 =>
          frame_Frame_Passed cs51 w50 fun cs52 w53 =>
          stA 19 w53 a5 cs52 fun w54 =>
          ldA 19 w54 a5 fun cs55 =>
          (k (cs55, true) w54))))))))
def d26 : Dec := fun args w c => unL [.ag, .ag] args fun x => frame_Frame_Plain x.1 x.2 w fun r w => c (packV (valL [.ag, .b] r)) w
theorem s26 : Sound Go.Proofs.Try.prog 26 d26 :=
  sound_of (mask := 34896610620) (h := [(6, [(10, .b)])]) (ds := [(46, d46), (47, d47), (34, d34), (48, d48), (57, d57), (58, d58), (59, d59), (60, d60), (61, d61), (62, d62)]) mixed Go.Proofs.Try.func26 ⟨s46, s47, s34, s48, s57, s58, s59, s60, s61, s62, trivial⟩
    [.ag, .ag] [.ag, .b] (by kernel_rfl) (fun x w k => frame_Frame_Plain x.1 x.2 w k) (fun x w k => by kernel_rfl)

/-- peloton/pelotonlaw05.awake -/
def pelotonlaw05_awake  (w : World) (k : (Bool) → World → Prop) : Prop :=
  frame_Root  w fun cs1 w2 =>
  frame_Frame_Plain cs1 #[(.int .i64 (0 : Int)), (.int .i64 (1 : Int)), (.int .i64 (0 : Int)), (.int .i64 (0 : Int)), (.int .i64 (7 : Int))] w2 fun x3 w4 =>
  newC w4 #[(.int .i64 (0 : Int)), (.int .i64 (0 : Int)), (.int .i64 (0 : Int)), (.int .i64 (0 : Int)), (.int .i64 (0 : Int)), (.int .i64 (0 : Int)), (.int .i64 (0 : Int)), (.int .i64 (0 : Int)), (.int .i64 (0 : Int)), (.int .i64 (0 : Int)), (.int .i64 (0 : Int)), (.int .i64 (0 : Int)), (.int .i64 (0 : Int)), (.int .i64 (0 : Int)), (.int .i64 (0 : Int)), (.int .i64 (0 : Int)), (.int .i64 (0 : Int)), (.int .i64 (0 : Int)), (.int .i64 (0 : Int))] 48 fun a5 w6 =>
  stA 19 w6 a5 x3.1 fun w7 =>
  ldA 19 w7 a5 fun cs8 =>
  frame_Frame_Plain cs8 #[(.int .i64 (2 : Int)), (.int .i64 (2 : Int)), (.int .i64 (1 : Int)), (.int .i64 (1 : Int)), (.int .i64 (0 : Int))] w7 fun x9 w10 =>
  stA 19 w10 a5 x9.1 fun w11 =>
  ldA 19 w11 a5 fun cs12 =>
  frame_Frame_Plain cs12 #[(.int .i64 (6 : Int)), (.int .i64 (0 : Int)), (.int .i64 (0 : Int)), (.int .i64 (0 : Int)), (.int .i64 (0 : Int))] w11 fun x13 w14 =>
  stA 19 w14 a5 x13.1 fun w15 =>
  iteB ((x3.2 && x9.2) && x13.2) (
    ldI .i64 w15 (Addr.add (Addr.add a5 2) 2) fun i16 =>
    iteB (i16 == (14 : Int)) (
      ldI .i64 w15 (Addr.add a5 1) fun i17 =>
      iteB (i17 == (0 : Int)) (
        ldI .i64 w15 (Addr.add a5 18) fun i18 =>
        iteB (i18 == (3 : Int)) (
          ldI .i64 w15 (Addr.add (Addr.add a5 10) 7) fun i19 =>
          (k (i19 == (-(1 : Int))) w15)) (
          (k false w15))) (
        (k false w15))) (
      (k false w15))) (
    (k false w15))
def d25 : Dec := fun args w c => unL [] args fun x => pelotonlaw05_awake  w fun r w => c (packV (valL [.b] r)) w
theorem s25 : Sound Go.Proofs.Try.prog 25 d25 :=
  sound_of (mask := 31) (h := []) (ds := [(30, d30), (26, d26)]) mixed Go.Proofs.Try.func25 ⟨s30, s26, trivial⟩
    [] [.b] (by kernel_rfl) (fun x w k => pelotonlaw05_awake  w k) (fun x w k => by kernel_rfl)

/-- peloton/pelotonlaw05.plain -/
def pelotonlaw05_plain (f_0 : Array Value) (w : World) (k : (Array Value) → World → Prop) : Prop :=
  newC w f_0 48 fun a1 w2 =>
  newC w2 #[(.int .i64 (0 : Int)), (.int .i64 (0 : Int)), (.int .i64 (0 : Int)), (.int .i64 (0 : Int)), (.int .i64 (0 : Int)), (.int .i64 (0 : Int)), (.int .i64 (0 : Int)), (.int .i64 (0 : Int)), (.int .i64 (0 : Int)), (.int .i64 (0 : Int)), (.int .i64 (0 : Int)), (.int .i64 (0 : Int)), (.int .i64 (0 : Int)), (.int .i64 (0 : Int)), (.int .i64 (0 : Int)), (.int .i64 (0 : Int)), (.int .i64 (0 : Int)), (.int .i64 (0 : Int)), (.int .i64 (0 : Int))] 54 fun a3 w4 =>
  ldI .i64 w4 (Addr.add a1 0) fun i5 =>
  ldI .i64 w4 (Addr.add a1 1) fun i6 =>
  ldA 8 w4 (Addr.add a1 2) fun cs7 =>
  ldA 8 w4 (Addr.add a1 10) fun cs8 =>
  ldI .i64 w4 (Addr.add a1 18) fun i9 =>
  spl #[(.int .i64 i5), (.int .i64 i6), (.int .i64 (0 : Int)), (.int .i64 (0 : Int)), (.int .i64 (0 : Int)), (.int .i64 (0 : Int)), (.int .i64 (0 : Int)), (.int .i64 (0 : Int)), (.int .i64 (0 : Int)), (.int .i64 (0 : Int)), (.int .i64 (0 : Int)), (.int .i64 (0 : Int)), (.int .i64 (0 : Int)), (.int .i64 (0 : Int)), (.int .i64 (0 : Int)), (.int .i64 (0 : Int)), (.int .i64 (0 : Int)), (.int .i64 (0 : Int)), (.int .i64 (0 : Int))] 2 8 cs7 fun cs10 =>
  spl cs10 10 8 cs8 fun cs11 =>
  stA 19 w4 a3 (Array.setIfInBounds cs11 18 (.int .i64 i9)) fun w12 =>
  ldA 19 w12 a3 fun cs13 =>
  (k cs13 w12)
def d27 : Dec := fun args w c => unL [.ag] args fun x => pelotonlaw05_plain x w fun r w => c (packV (valL [.ag] r)) w
theorem s27 : Sound Go.Proofs.Try.prog 27 d27 :=
  sound_of (mask := 6) (h := []) (ds := []) mixed Go.Proofs.Try.func27 trivial
    [.ag] [.ag] (by kernel_rfl) (fun x w k => pelotonlaw05_plain x w k) (fun x w k => by kernel_rfl)

/-- peloton/pelotonref02.spans -/
def pelotonref02_spans (op_0 : Int) (w : World) (k : (Array Value) → World → Prop) : Prop :=
  newC w #[(.int .i64 (0 : Int)), (.int .i64 (0 : Int)), (.int .i64 (0 : Int)), (.int .i64 (0 : Int)), (.int .i64 (0 : Int)), (.int .i64 (0 : Int)), (.int .i64 (0 : Int)), (.int .i64 (0 : Int))] 46 fun a1 w2 =>
  iteB (op_0 == (0 : Int)) (
    stA 8 w2 a1 #[(.int .i64 (0 : Int)), (.int .i64 (7 : Int)), (.int .i64 (0 : Int)), (.int .i64 (0 : Int)), (.int .i64 (0 : Int)), (.int .i64 (0 : Int)), (.int .i64 (-(2147483648 : Int))), (.int .i64 (2147483647 : Int))] fun w3 =>
    ldA 8 w3 a1 fun cs4 =>
    (k cs4 w3)) (
    joinP (S := Bool) (fun J5 =>
      iteB (op_0 == (1 : Int)) (
        (J5 (op_0 == (1 : Int)) w2)) (
        (J5 (op_0 == (9 : Int)) w2))) fun b6 w7 =>
    iteB b6 (
      stA 8 w7 a1 #[(.int .i64 (0 : Int)), (.int .i64 (7 : Int)), (.int .i64 (0 : Int)), (.int .i64 (7 : Int)), (.int .i64 (0 : Int)), (.int .i64 (0 : Int)), (.int .i64 (0 : Int)), (.int .i64 (0 : Int))] fun w8 =>
      ldA 8 w8 a1 fun cs9 =>
      (k cs9 w8)) (
      joinP (S := Bool) (fun J10 =>
        iteB (op_0 == (2 : Int)) (
          (J10 (op_0 == (2 : Int)) w7)) (
          iteB (op_0 == (3 : Int)) (
            (J10 (op_0 == (3 : Int)) w7)) (
            iteB (op_0 == (4 : Int)) (
              (J10 (op_0 == (4 : Int)) w7)) (
              iteB (op_0 == (5 : Int)) (
                (J10 (op_0 == (5 : Int)) w7)) (
                (J10 (op_0 == (10 : Int)) w7)))))) fun b11 w12 =>
      iteB b11 (
        stA 8 w12 a1 #[(.int .i64 (0 : Int)), (.int .i64 (7 : Int)), (.int .i64 (0 : Int)), (.int .i64 (7 : Int)), (.int .i64 (0 : Int)), (.int .i64 (7 : Int)), (.int .i64 (0 : Int)), (.int .i64 (0 : Int))] fun w13 =>
        ldA 8 w13 a1 fun cs14 =>
        (k cs14 w13)) (
        iteB (op_0 == (6 : Int)) (
          stA 8 w12 a1 #[(.int .i64 (0 : Int)), (.int .i64 (0 : Int)), (.int .i64 (0 : Int)), (.int .i64 (0 : Int)), (.int .i64 (0 : Int)), (.int .i64 (0 : Int)), (.int .i64 (0 : Int)), (.int .i64 (127 : Int))] fun w15 =>
          ldA 8 w15 a1 fun cs16 =>
          (k cs16 w15)) (
          iteB (op_0 == (7 : Int)) (
            stA 8 w12 a1 #[(.int .i64 (0 : Int)), (.int .i64 (7 : Int)), (.int .i64 (0 : Int)), (.int .i64 (0 : Int)), (.int .i64 (0 : Int)), (.int .i64 (0 : Int)), (.int .i64 (0 : Int)), (.int .i64 (127 : Int))] fun w17 =>
            ldA 8 w17 a1 fun cs18 =>
            (k cs18 w17)) (
            iteB (op_0 == (8 : Int)) (
              stA 8 w12 a1 #[(.int .i64 (0 : Int)), (.int .i64 (7 : Int)), (.int .i64 (0 : Int)), (.int .i64 (0 : Int)), (.int .i64 (0 : Int)), (.int .i64 (0 : Int)), (.int .i64 (0 : Int)), (.int .i64 (31 : Int))] fun w19 =>
              ldA 8 w19 a1 fun cs20 =>
              (k cs20 w19)) (
              iteB (op_0 == (11 : Int)) (
                stA 8 w12 a1 #[(.int .i64 (0 : Int)), (.int .i64 (0 : Int)), (.int .i64 (0 : Int)), (.int .i64 (0 : Int)), (.int .i64 (0 : Int)), (.int .i64 (0 : Int)), (.int .i64 (0 : Int)), (.int .i64 (65535 : Int))] fun w21 =>
                ldA 8 w21 a1 fun cs22 =>
                (k cs22 w21)) (
                joinP (S := Bool) (fun J23 =>
                  iteB (op_0 == (12 : Int)) (
                    (J23 (op_0 == (12 : Int)) w12)) (
                    iteB (op_0 == (15 : Int)) (
                      (J23 (op_0 == (15 : Int)) w12)) (
                      (J23 (op_0 == (16 : Int)) w12)))) fun b24 w25 =>
                iteB b24 (
                  stA 8 w25 a1 #[(.int .i64 (0 : Int)), (.int .i64 (7 : Int)), (.int .i64 (0 : Int)), (.int .i64 (0 : Int)), (.int .i64 (0 : Int)), (.int .i64 (0 : Int)), (.int .i64 (0 : Int)), (.int .i64 (0 : Int))] fun w26 =>
                  ldA 8 w26 a1 fun cs27 =>
                  (k cs27 w26)) (
                  stA 8 w25 a1 #[(.int .i64 (0 : Int)), (.int .i64 (0 : Int)), (.int .i64 (0 : Int)), (.int .i64 (0 : Int)), (.int .i64 (0 : Int)), (.int .i64 (0 : Int)), (.int .i64 (0 : Int)), (.int .i64 (0 : Int))] fun w28 =>
                  ldA 8 w28 a1 fun cs29 =>
                  (k cs29 w28)))))))))
def d54 : Dec := fun args w c => unL [(.i .i64)] args fun x => pelotonref02_spans x w fun r w => c (packV (valL [.ag] r)) w
theorem s54 : Sound Go.Proofs.Try.prog 54 d54 :=
  sound_of (mask := 623072281149) (h := [(8, [(9, .b)]), (13, [(15, .b)]), (36, [(39, .b)])]) (ds := []) mixed Go.Proofs.Try.func54 trivial
    [(.i .i64)] [.ag] (by kernel_rfl) (fun x w k => pelotonref02_spans x w k) (fun x w k => by kernel_rfl)

/-- peloton/pelotonref02.Check -/
def pelotonref02_Check (i_0 : Array Value) (w : World) (k : (Int) → World → Prop) : Prop :=
  newC w i_0 50 fun a1 w2 =>
  joinP (S := Bool) (fun J3 =>
    ldI .i64 w2 (Addr.add a1 0) fun i4 =>
    iteB (decide (i4 < (0 : Int))) (
      (J3 true w2)) (
      ldI .i64 w2 (Addr.add a1 0) fun i5 =>
      (J3 (decide (i5 > (16 : Int))) w2))) fun b6 w7 =>
  iteB b6 (
    (k (13 : Int) w7)) (
    ldI .i64 w7 (Addr.add a1 0) fun i8 =>
    pelotonref02_spans i8 w7 fun cs9 w10 =>
    newC w10 #[(.int .i64 (0 : Int)), (.int .i64 (0 : Int)), (.int .i64 (0 : Int)), (.int .i64 (0 : Int)), (.int .i64 (0 : Int)), (.int .i64 (0 : Int)), (.int .i64 (0 : Int)), (.int .i64 (0 : Int))] 46 fun a11 w12 =>
    stA 8 w12 a11 cs9 fun w13 =>
    ldI .i64 w13 (Addr.add a1 1) fun i14 =>
    ldI .i64 w13 (Addr.add a1 2) fun i15 =>
    ldI .i64 w13 (Addr.add a1 3) fun i16 =>
    ldI .i64 w13 (Addr.add a1 4) fun i17 =>
    newC w13 #[(.int .i64 (0 : Int)), (.int .i64 (0 : Int)), (.int .i64 (0 : Int)), (.int .i64 (0 : Int))] 106 fun a18 w19 =>
    stA 4 w19 a18 #[(.int .i64 i14), (.int .i64 i15), (.int .i64 i16), (.int .i64 i17)] fun w20 =>
    loopP (S := Int) (fun C21 i22 w23 =>
      iteB (decide (i22 < (4 : Int))) (
        joinP (S := Bool) (fun J24 =>
          drew w23 fun w25 =>
          ixP a18 4 i22 1 fun a26 =>
          ldI .i64 w25 a26 fun i27 =>
          ixP a11 8 (IntKind.wrap .i64 ((2 : Int) * i22)) 1 fun a28 =>
          ldI .i64 w25 a28 fun i29 =>
          iteB (decide (i27 < i29)) (
            (J24 true w25)) (
            ixP a18 4 i22 1 fun a30 =>
            ldI .i64 w25 a30 fun i31 =>
            ixP a11 8 (IntKind.wrap .i64 ((IntKind.wrap .i64 ((2 : Int) * i22)) + (1 : Int))) 1 fun a32 =>
            ldI .i64 w25 a32 fun i33 =>
            (J24 (decide (i31 > i33)) w25))) fun b34 w35 =>
        iteB b34 (
          (k (10 : Int) w35)) (
          (C21 (IntKind.wrap .i64 (i22 + (1 : Int))) w35))) (
        (k (0 : Int) w23))) (0 : Int) w20)
def d42 : Dec := fun args w c => unL [.ag] args fun x => pelotonref02_Check x w fun r w => c (packV (valL [(.i .i64)] r)) w
theorem s42 : Sound Go.Proofs.Try.prog 42 d42 :=
  sound_of (mask := 281475110936638) (h := [(1, [(13, .b)]), (8, [(5, (.i .i64))]), (12, [(48, .b)])]) (ds := [(54, d54)]) mixed Go.Proofs.Try.func42 ⟨s54, trivial⟩
    [.ag] [(.i .i64)] (by kernel_rfl) (fun x w k => pelotonref02_Check x w k) (fun x w k => by kernel_rfl)

/-- (peloton/pelotonref05.Task).With -/
def pelotonref05_Task_With (t_0 : Array Value) (a_1 : Int) (v_2 : Int) (w : World) (k : (Array Value) → World → Prop) : Prop :=
  newC w t_0 54 fun a1 w2 =>
  newC w2 #[(.int .i64 (0 : Int)), (.int .i64 (0 : Int)), (.int .i64 (0 : Int)), (.int .i64 (0 : Int)), (.int .i64 (0 : Int)), (.int .i64 (0 : Int)), (.int .i64 (0 : Int)), (.int .i64 (0 : Int)), (.int .i64 (0 : Int)), (.int .i64 (0 : Int)), (.int .i64 (0 : Int)), (.int .i64 (0 : Int)), (.int .i64 (0 : Int)), (.int .i64 (0 : Int)), (.int .i64 (0 : Int)), (.int .i64 (0 : Int)), (.int .i64 (0 : Int)), (.int .i64 (0 : Int)), (.int .i64 (0 : Int))] 54 fun a3 w4 =>
  ixP (Addr.add a1 2) 8 a_1 1 fun a5 =>
  stC w4 a5 (.int .i64 v_2) fun w6 =>
  ldA 19 w6 a1 fun cs7 =>
  stA 19 w6 a3 cs7 fun w8 =>
  ldA 19 w8 a3 fun cs9 =>
  (k cs9 w8)
def d49 : Dec := fun args w c => unL [.ag, (.i .i64), (.i .i64)] args fun x => pelotonref05_Task_With x.1 x.2.1 x.2.2 w fun r w => c (packV (valL [.ag] r)) w
theorem s49 : Sound Go.Proofs.Try.prog 49 d49 :=
  sound_of (mask := 78) (h := []) (ds := []) mixed Go.Proofs.Try.func49 trivial
    [.ag, (.i .i64), (.i .i64)] [.ag] (by kernel_rfl) (fun x w k => pelotonref05_Task_With x.1 x.2.1 x.2.2 w k) (fun x w k => by kernel_rfl)

/-- (peloton/pelotonref05.Task).To -/
def pelotonref05_Task_To (t_0 : Array Value) (pc_1 : Int) (w : World) (k : (Array Value) → World → Prop) : Prop :=
  newC w t_0 54 fun a1 w2 =>
  newC w2 #[(.int .i64 (0 : Int)), (.int .i64 (0 : Int)), (.int .i64 (0 : Int)), (.int .i64 (0 : Int)), (.int .i64 (0 : Int)), (.int .i64 (0 : Int)), (.int .i64 (0 : Int)), (.int .i64 (0 : Int)), (.int .i64 (0 : Int)), (.int .i64 (0 : Int)), (.int .i64 (0 : Int)), (.int .i64 (0 : Int)), (.int .i64 (0 : Int)), (.int .i64 (0 : Int)), (.int .i64 (0 : Int)), (.int .i64 (0 : Int)), (.int .i64 (0 : Int)), (.int .i64 (0 : Int)), (.int .i64 (0 : Int))] 54 fun a3 w4 =>
  stC w4 (Addr.add a1 1) (.int .i64 pc_1) fun w5 =>
  ldI .i64 w5 (Addr.add a1 18) fun i6 =>
  stC w5 (Addr.add a1 18) (.int .i64 (IntKind.wrap .i64 (i6 + (1 : Int)))) fun w7 =>
  ldA 19 w7 a1 fun cs8 =>
  stA 19 w7 a3 cs8 fun w9 =>
  ldA 19 w9 a3 fun cs10 =>
  (k cs10 w9)
def d50 : Dec := fun args w c => unL [.ag, (.i .i64)] args fun x => pelotonref05_Task_To x.1 x.2 w fun r w => c (packV (valL [.ag] r)) w
theorem s50 : Sound Go.Proofs.Try.prog 50 d50 :=
  sound_of (mask := 22) (h := []) (ds := []) mixed Go.Proofs.Try.func50 trivial
    [.ag, (.i .i64)] [.ag] (by kernel_rfl) (fun x w k => pelotonref05_Task_To x.1 x.2 w k) (fun x w k => by kernel_rfl)

/-- (peloton/pelotonref05.Task).On -/
def pelotonref05_Task_On (t_0 : Array Value) (w : World) (k : (Array Value) → World → Prop) : Prop :=
  newC w t_0 54 fun a1 w2 =>
  newC w2 #[(.int .i64 (0 : Int)), (.int .i64 (0 : Int)), (.int .i64 (0 : Int)), (.int .i64 (0 : Int)), (.int .i64 (0 : Int)), (.int .i64 (0 : Int)), (.int .i64 (0 : Int)), (.int .i64 (0 : Int)), (.int .i64 (0 : Int)), (.int .i64 (0 : Int)), (.int .i64 (0 : Int)), (.int .i64 (0 : Int)), (.int .i64 (0 : Int)), (.int .i64 (0 : Int)), (.int .i64 (0 : Int)), (.int .i64 (0 : Int)), (.int .i64 (0 : Int)), (.int .i64 (0 : Int)), (.int .i64 (0 : Int))] 54 fun a3 w4 =>
  ldA 19 w4 a1 fun cs5 =>
  ldI .i64 w4 (Addr.add a1 1) fun i6 =>
  pelotonref05_Task_To cs5 (IntKind.wrap .i64 (i6 + (1 : Int))) w4 fun cs7 w8 =>
  stA 19 w8 a3 cs7 fun w9 =>
  ldA 19 w9 a3 fun cs10 =>
  (k cs10 w9)
def d35 : Dec := fun args w c => unL [.ag] args fun x => pelotonref05_Task_On x w fun r w => c (packV (valL [.ag] r)) w
theorem s35 : Sound Go.Proofs.Try.prog 35 d35 :=
  sound_of (mask := 6) (h := []) (ds := [(50, d50)]) mixed Go.Proofs.Try.func35 ⟨s50, trivial⟩
    [.ag] [.ag] (by kernel_rfl) (fun x w k => pelotonref05_Task_On x w k) (fun x w k => by kernel_rfl)

/-- (peloton/pelotonref05.Task).Plain -/
def pelotonref05_Task_Plain (t_0 : Array Value) (i_1 : Array Value) (w : World) (k : (Array Value × Bool) → World → Prop) : Prop :=
  newC w t_0 54 fun a1 w2 =>
  newC w2 i_1 50 fun a3 w4 =>
  newC w4 #[(.int .i64 (0 : Int)), (.int .i64 (0 : Int)), (.int .i64 (0 : Int)), (.int .i64 (0 : Int)), (.int .i64 (0 : Int)), (.int .i64 (0 : Int)), (.int .i64 (0 : Int)), (.int .i64 (0 : Int)), (.int .i64 (0 : Int)), (.int .i64 (0 : Int)), (.int .i64 (0 : Int)), (.int .i64 (0 : Int)), (.int .i64 (0 : Int)), (.int .i64 (0 : Int)), (.int .i64 (0 : Int)), (.int .i64 (0 : Int)), (.int .i64 (0 : Int)), (.int .i64 (0 : Int)), (.int .i64 (0 : Int))] 54 fun a5 w6 =>
  ldA 5 w6 a3 fun cs7 =>
  pelotonref02_Check cs7 w6 fun i8 w9 =>
  iteB (i8 != (0 : Int)) (
    ldA 19 w9 a1 fun cs10 =>
    stA 19 w9 a5 cs10 fun w11 =>
    ldA 19 w11 a5 fun cs12 =>
    (k (cs12, false) w11)) (
    ldA 8 w9 (Addr.add a1 2) fun cs13 =>
    newC w9 #[(.int .i64 (0 : Int)), (.int .i64 (0 : Int)), (.int .i64 (0 : Int)), (.int .i64 (0 : Int)), (.int .i64 (0 : Int)), (.int .i64 (0 : Int)), (.int .i64 (0 : Int)), (.int .i64 (0 : Int))] 45 fun a14 w15 =>
    stA 8 w15 a14 cs13 fun w16 =>
    ldI .i64 w16 (Addr.add a3 0) fun i17 =>
    iteB (i17 == (0 : Int)) (
      ldA 19 w16 a1 fun cs18 =>
      ldI .i64 w16 (Addr.add a3 1) fun i19 =>
      ldI .i64 w16 (Addr.add a3 4) fun i20 =>
      pelotonref05_Task_With cs18 i19 i20 w16 fun cs21 w22 =>
      pelotonref05_Task_On cs21 w22 fun cs23 w24 =>
      stA 19 w24 a5 cs23 fun w25 =>
      ldA 19 w25 a5 fun cs26 =>
      (k (cs26, true) w25)) (
      iteB (i17 == (1 : Int)) (
        drew w16 fun w27 =>
        ldA 19 w27 a1 fun cs28 =>
        ldI .i64 w27 (Addr.add a3 1) fun i29 =>
        ldI .i64 w27 (Addr.add a3 2) fun i30 =>
        ixP a14 8 i30 1 fun a31 =>
        ldI .i64 w27 a31 fun i32 =>
        pelotonref05_Task_With cs28 i29 i32 w27 fun cs33 w34 =>
        pelotonref05_Task_On cs33 w34 fun cs35 w36 =>
        stA 19 w36 a5 cs35 fun w37 =>
        ldA 19 w37 a5 fun cs38 =>
        (k (cs38, true) w37)) (
        iteB (i17 == (2 : Int)) (
          drew w16 fun w39 =>
          ldA 19 w39 a1 fun cs40 =>
          ldI .i64 w39 (Addr.add a3 1) fun i41 =>
          ldI .i64 w39 (Addr.add a3 2) fun i42 =>
          ixP a14 8 i42 1 fun a43 =>
          ldI .i64 w39 a43 fun i44 =>
          ldI .i64 w39 (Addr.add a3 3) fun i45 =>
          ixP a14 8 i45 1 fun a46 =>
          ldI .i64 w39 a46 fun i47 =>
          pelotonref05_Task_With cs40 i41 (IntKind.wrap .i64 (i44 + i47)) w39 fun cs48 w49 =>
          pelotonref05_Task_On cs48 w49 fun cs50 w51 =>
          stA 19 w51 a5 cs50 fun w52 =>
          ldA 19 w52 a5 fun cs53 =>
          (k (cs53, true) w52)) (
          iteB (i17 == (3 : Int)) (
            drew w16 fun w54 =>
            ldA 19 w54 a1 fun cs55 =>
            ldI .i64 w54 (Addr.add a3 1) fun i56 =>
            ldI .i64 w54 (Addr.add a3 2) fun i57 =>
            ixP a14 8 i57 1 fun a58 =>
            ldI .i64 w54 a58 fun i59 =>
            ldI .i64 w54 (Addr.add a3 3) fun i60 =>
            ixP a14 8 i60 1 fun a61 =>
            ldI .i64 w54 a61 fun i62 =>
            pelotonref05_Task_With cs55 i56 (IntKind.wrap .i64 (i59 - i62)) w54 fun cs63 w64 =>
            pelotonref05_Task_On cs63 w64 fun cs65 w66 =>
            stA 19 w66 a5 cs65 fun w67 =>
            ldA 19 w67 a5 fun cs68 =>
            (k (cs68, true) w67)) (
            iteB (i17 == (4 : Int)) (
              drew w16 fun w69 =>
              ldA 19 w69 a1 fun cs70 =>
              ldI .i64 w69 (Addr.add a3 1) fun i71 =>
              ldI .i64 w69 (Addr.add a3 2) fun i72 =>
              ixP a14 8 i72 1 fun a73 =>
              ldI .i64 w69 a73 fun i74 =>
              ldI .i64 w69 (Addr.add a3 3) fun i75 =>
              ixP a14 8 i75 1 fun a76 =>
              ldI .i64 w69 a76 fun i77 =>
              pelotonref05_Task_With cs70 i71 (IntKind.wrap .i64 (i74 * i77)) w69 fun cs78 w79 =>
              pelotonref05_Task_On cs78 w79 fun cs80 w81 =>
              stA 19 w81 a5 cs80 fun w82 =>
              ldA 19 w82 a5 fun cs83 =>
              (k (cs83, true) w82)) (
              iteB (i17 == (5 : Int)) (
                drew w16 fun w84 =>
                ldI .i64 w84 (Addr.add a3 2) fun i85 =>
                ixP a14 8 i85 1 fun a86 =>
                ldI .i64 w84 a86 fun i87 =>
                ldI .i64 w84 (Addr.add a3 3) fun i88 =>
                ixP a14 8 i88 1 fun a89 =>
                ldI .i64 w84 a89 fun i90 =>
                iteB (decide (i87 < i90)) (
                  ldA 19 w84 a1 fun cs91 =>
                  ldI .i64 w84 (Addr.add a3 1) fun i92 =>
                  pelotonref05_Task_With cs91 i92 (1 : Int) w84 fun cs93 w94 =>
                  pelotonref05_Task_On cs93 w94 fun cs95 w96 =>
                  stA 19 w96 a5 cs95 fun w97 =>
                  ldA 19 w97 a5 fun cs98 =>
                  (k (cs98, true) w97)) (
                  ldA 19 w84 a1 fun cs99 =>
                  ldI .i64 w84 (Addr.add a3 1) fun i100 =>
                  pelotonref05_Task_With cs99 i100 (0 : Int) w84 fun cs101 w102 =>
                  pelotonref05_Task_On cs101 w102 fun cs103 w104 =>
                  stA 19 w104 a5 cs103 fun w105 =>
                  ldA 19 w105 a5 fun cs106 =>
                  (k (cs106, true) w105))) (
                iteB (i17 == (6 : Int)) (
                  ldA 19 w16 a1 fun cs107 =>
                  ldI .i64 w16 (Addr.add a3 4) fun i108 =>
                  pelotonref05_Task_To cs107 i108 w16 fun cs109 w110 =>
                  stA 19 w110 a5 cs109 fun w111 =>
                  ldA 19 w111 a5 fun cs112 =>
                  (k (cs112, true) w111)) (
                  iteB (i17 == (7 : Int)) (
                    ldI .i64 w16 (Addr.add a3 1) fun i113 =>
                    ixP a14 8 i113 1 fun a114 =>
                    ldI .i64 w16 a114 fun i115 =>
                    iteB (i115 != (0 : Int)) (
                      ldA 19 w16 a1 fun cs116 =>
                      ldI .i64 w16 (Addr.add a3 4) fun i117 =>
                      pelotonref05_Task_To cs116 i117 w16 fun cs118 w119 =>
                      stA 19 w119 a5 cs118 fun w120 =>
                      ldA 19 w120 a5 fun cs121 =>
                      (k (cs121, true) w120)) (
                      ldA 19 w16 a1 fun cs122 =>
                      pelotonref05_Task_On cs122 w16 fun cs123 w124 =>
                      stA 19 w124 a5 cs123 fun w125 =>
                      ldA 19 w125 a5 fun cs126 =>
                      (k (cs126, true) w125))) (
                    ldA 19 w16 a1 fun cs127 =>
                    stA 19 w16 a5 cs127 fun w128 =>
                    ldA 19 w128 a5 fun cs129 =>
                    (k (cs129, false) w128))))))))))
def d28 : Dec := fun args w c => unL [.ag, .ag] args fun x => pelotonref05_Task_Plain x.1 x.2 w fun r w => c (packV (valL [.ag, .b] r)) w
theorem s28 : Sound Go.Proofs.Try.prog 28 d28 :=
  sound_of (mask := 84395116273986469050208169058419324) (h := []) (ds := [(42, d42), (49, d49), (35, d35), (50, d50)]) mixed Go.Proofs.Try.func28 ⟨s42, s49, s35, s50, trivial⟩
    [.ag, .ag] [.ag, .b] (by kernel_rfl) (fun x w k => pelotonref05_Task_Plain x.1 x.2 w k) (fun x w k => by kernel_rfl)

/-- peloton/pelotonlaw05.Same -/
def pelotonlaw05_Same (f_0 : Array Value) (t_1 : Array Value) (w : World) (k : (Bool) → World → Prop) : Prop :=
  newC w f_0 48 fun a1 w2 =>
  newC w2 t_1 54 fun a3 w4 =>
  ldI .i64 w4 (Addr.add a1 0) fun i5 =>
  ldI .i64 w4 (Addr.add a3 0) fun i6 =>
  iteB (i5 == i6) (
    ldI .i64 w4 (Addr.add a1 1) fun i7 =>
    ldI .i64 w4 (Addr.add a3 1) fun i8 =>
    iteB (i7 == i8) (
      ldA 8 w4 (Addr.add a1 2) fun cs9 =>
      ldA 8 w4 (Addr.add a3 2) fun cs10 =>
      eqA [(0, 0), (1, 0), (2, 0), (3, 0), (4, 0), (5, 0), (6, 0), (7, 0)] cs9 cs10 fun b11 =>
      iteB b11 (
        ldA 8 w4 (Addr.add a1 10) fun cs12 =>
        ldA 8 w4 (Addr.add a3 10) fun cs13 =>
        eqA [(0, 0), (1, 0), (2, 0), (3, 0), (4, 0), (5, 0), (6, 0), (7, 0)] cs12 cs13 fun b14 =>
        iteB b14 (
          ldI .i64 w4 (Addr.add a1 18) fun i15 =>
          ldI .i64 w4 (Addr.add a3 18) fun i16 =>
          (k (i15 == i16) w4)) (
          (k false w4))) (
        (k false w4))) (
      (k false w4))) (
    (k false w4))
def d29 : Dec := fun args w c => unL [.ag, .ag] args fun x => pelotonlaw05_Same x.1 x.2 w fun r w => c (packV (valL [.b] r)) w
theorem s29 : Sound Go.Proofs.Try.prog 29 d29 :=
  sound_of (mask := 28) (h := []) (ds := []) mixed Go.Proofs.Try.func29 trivial
    [.ag, .ag] [.b] (by kernel_rfl) (fun x w k => pelotonlaw05_Same x.1 x.2 w k) (fun x w k => by kernel_rfl)

/-- peloton/pelotonref05.Root -/
def pelotonref05_Root  (w : World) (k : (Array Value) → World → Prop) : Prop :=
  newC w #[(.int .i64 (0 : Int)), (.int .i64 (0 : Int)), (.int .i64 (0 : Int)), (.int .i64 (0 : Int)), (.int .i64 (0 : Int)), (.int .i64 (0 : Int)), (.int .i64 (0 : Int)), (.int .i64 (0 : Int)), (.int .i64 (0 : Int)), (.int .i64 (0 : Int)), (.int .i64 (0 : Int)), (.int .i64 (0 : Int)), (.int .i64 (0 : Int)), (.int .i64 (0 : Int)), (.int .i64 (0 : Int)), (.int .i64 (0 : Int)), (.int .i64 (0 : Int)), (.int .i64 (0 : Int)), (.int .i64 (0 : Int))] 54 fun a1 w2 =>
  spl #[(.int .i64 (0 : Int)), (.int .i64 (0 : Int)), (.int .i64 (0 : Int)), (.int .i64 (0 : Int)), (.int .i64 (0 : Int)), (.int .i64 (0 : Int)), (.int .i64 (0 : Int)), (.int .i64 (0 : Int)), (.int .i64 (0 : Int)), (.int .i64 (0 : Int)), (.int .i64 (0 : Int)), (.int .i64 (0 : Int)), (.int .i64 (0 : Int)), (.int .i64 (0 : Int)), (.int .i64 (0 : Int)), (.int .i64 (0 : Int)), (.int .i64 (0 : Int)), (.int .i64 (0 : Int)), (.int .i64 (0 : Int))] 10 8 #[(.int .i64 (-(1 : Int))), (.int .i64 (-(1 : Int))), (.int .i64 (-(1 : Int))), (.int .i64 (-(1 : Int))), (.int .i64 (-(1 : Int))), (.int .i64 (-(1 : Int))), (.int .i64 (-(1 : Int))), (.int .i64 (-(1 : Int)))] fun cs3 =>
  stA 19 w2 a1 cs3 fun w4 =>
  ldA 19 w4 a1 fun cs5 =>
  (k cs5 w4)
def d31 : Dec := fun args w c => unL [] args fun x => pelotonref05_Root  w fun r w => c (packV (valL [.ag] r)) w
theorem s31 : Sound Go.Proofs.Try.prog 31 d31 :=
  sound_of (mask := 1) (h := []) (ds := []) mixed Go.Proofs.Try.func31 trivial
    [] [.ag] (by kernel_rfl) (fun x w k => pelotonref05_Root  w k) (fun x w k => by kernel_rfl)

/-- peloton/pelotonlaw05.FramePlain -/
def pelotonlaw05_FramePlain (f_0 : Array Value) (i_1 : Array Value) (w : World) (k : (Bool) → World → Prop) : Prop :=
  newC w f_0 48 fun a1 w2 =>
  newC w2 i_1 50 fun a3 w4 =>
  ldA 19 w4 a1 fun cs5 =>
  pelotonlaw05_usual cs5 w4 fun b6 w7 =>
  iteB (!b6) (
    pelotonlaw05_awake  w7 fun b8 w9 =>
    (k b8 w9)) (
    ldA 19 w7 a1 fun cs10 =>
    ldA 5 w7 a3 fun cs11 =>
    frame_Frame_Plain cs10 cs11 w7 fun x12 w13 =>
    newC w13 #[(.int .i64 (0 : Int)), (.int .i64 (0 : Int)), (.int .i64 (0 : Int)), (.int .i64 (0 : Int)), (.int .i64 (0 : Int)), (.int .i64 (0 : Int)), (.int .i64 (0 : Int)), (.int .i64 (0 : Int)), (.int .i64 (0 : Int)), (.int .i64 (0 : Int)), (.int .i64 (0 : Int)), (.int .i64 (0 : Int)), (.int .i64 (0 : Int)), (.int .i64 (0 : Int)), (.int .i64 (0 : Int)), (.int .i64 (0 : Int)), (.int .i64 (0 : Int)), (.int .i64 (0 : Int)), (.int .i64 (0 : Int))] 48 fun a14 w15 =>
    stA 19 w15 a14 x12.1 fun w16 =>
    joinP (S := (Addr × Bool)) (fun J17 =>
      drew w16 fun w18 =>
      ldA 19 w18 a1 fun cs19 =>
      ldA 5 w18 a3 fun cs20 =>
      both (
        pelotonlaw05_plain cs19 w18 fun cs21 w22 =>
        samec 5 a3 w18 w22 (
        both (
          pelotonref05_Task_Plain cs21 cs20 w22 fun x23 w24 =>
          newC w24 #[(.int .i64 (0 : Int)), (.int .i64 (0 : Int)), (.int .i64 (0 : Int)), (.int .i64 (0 : Int)), (.int .i64 (0 : Int)), (.int .i64 (0 : Int)), (.int .i64 (0 : Int)), (.int .i64 (0 : Int)), (.int .i64 (0 : Int)), (.int .i64 (0 : Int)), (.int .i64 (0 : Int)), (.int .i64 (0 : Int)), (.int .i64 (0 : Int)), (.int .i64 (0 : Int)), (.int .i64 (0 : Int)), (.int .i64 (0 : Int)), (.int .i64 (0 : Int)), (.int .i64 (0 : Int)), (.int .i64 (0 : Int))] 54 fun a25 w26 =>
          samec 5 a3 w18 w26 (
          samec 19 a1 w18 w26 (
          stA 19 w26 a25 x23.1 fun w27 =>
          (J17 (a25, x23.2) w27)))) (
          newC w22 #[(.int .i64 (0 : Int)), (.int .i64 (0 : Int)), (.int .i64 (0 : Int)), (.int .i64 (0 : Int)), (.int .i64 (0 : Int)), (.int .i64 (0 : Int)), (.int .i64 (0 : Int)), (.int .i64 (0 : Int)), (.int .i64 (0 : Int)), (.int .i64 (0 : Int)), (.int .i64 (0 : Int)), (.int .i64 (0 : Int)), (.int .i64 (0 : Int)), (.int .i64 (0 : Int)), (.int .i64 (0 : Int)), (.int .i64 (0 : Int)), (.int .i64 (0 : Int)), (.int .i64 (0 : Int)), (.int .i64 (0 : Int))] 54 fun a28 w29 =>
          samec 5 a3 w18 w29 (
          samec 19 a1 w18 w29 (
          pelotonref05_Task_Plain cs21 cs20 w29 fun x30 w31 =>
          stA 19 w31 a28 x30.1 fun w32 =>
          (J17 (a28, x30.2) w32)))))) (
        newC w18 #[(.int .i64 (0 : Int)), (.int .i64 (0 : Int)), (.int .i64 (0 : Int)), (.int .i64 (0 : Int)), (.int .i64 (0 : Int)), (.int .i64 (0 : Int)), (.int .i64 (0 : Int)), (.int .i64 (0 : Int)), (.int .i64 (0 : Int)), (.int .i64 (0 : Int)), (.int .i64 (0 : Int)), (.int .i64 (0 : Int)), (.int .i64 (0 : Int)), (.int .i64 (0 : Int)), (.int .i64 (0 : Int)), (.int .i64 (0 : Int)), (.int .i64 (0 : Int)), (.int .i64 (0 : Int)), (.int .i64 (0 : Int))] 54 fun a33 w34 =>
        samec 5 a3 w18 w34 (
        samec 19 a1 w18 w34 (
        pelotonlaw05_plain cs19 w34 fun cs35 w36 =>
        samec 5 a3 w18 w36 (
        pelotonref05_Task_Plain cs35 cs20 w36 fun x37 w38 =>
        stA 19 w38 a33 x37.1 fun w39 =>
        (J17 (a33, x37.2) w39)))))) fun x40 w41 =>
    iteB (x12.2 == x40.2) (
      ldA 19 w41 a14 fun cs42 =>
      ldA 19 w41 x40.1 fun cs43 =>
      pelotonlaw05_Same cs42 cs43 w41 fun b44 w45 =>
      iteB b44 (
        frame_Root  w45 fun cs46 w47 =>
        pelotonref05_Root  w47 fun cs48 w49 =>
        pelotonlaw05_Same cs46 cs48 w49 fun b50 w51 =>
        iteB b50 (
          pelotonlaw05_awake  w51 fun b52 w53 =>
          (k b52 w53)) (
          (k false w51))) (
        (k false w45))) (
      (k false w41)))
def d7 : Dec := fun args w c => unL [.ag, .ag] args fun x => pelotonlaw05_FramePlain x.1 x.2 w fun r w => c (packV (valL [.b] r)) w
theorem s7 : Sound Go.Proofs.Try.prog 7 d7 :=
  sound_of (mask := 2556) (h := [(5, [(7, .a), (8, .b)])]) (ds := [(24, d24), (25, d25), (26, d26), (27, d27), (28, d28), (29, d29), (30, d30), (31, d31)]) mixed Go.Proofs.Try.func7 ⟨s24, s25, s26, s27, s28, s29, s30, s31, trivial⟩
    [.ag, .ag] [.b] (by kernel_rfl) (fun x w k => pelotonlaw05_FramePlain x.1 x.2 w k) (fun x w k => by kernel_rfl)

/-- peloton/pelotonlaw05.FrameRing -/
def pelotonlaw05_FrameRing (a_0 : Int) (b_1 : Int) (c_2 : Int) (w : World) (k : (Bool) → World → Prop) : Prop :=
  frame_Root  w fun cs1 w2 =>
  newC w2 #[(.int .i64 (0 : Int)), (.int .i64 (0 : Int)), (.int .i64 (0 : Int)), (.int .i64 (0 : Int)), (.int .i64 (0 : Int)), (.int .i64 (0 : Int)), (.int .i64 (0 : Int)), (.int .i64 (0 : Int)), (.int .i64 (0 : Int)), (.int .i64 (0 : Int)), (.int .i64 (0 : Int)), (.int .i64 (0 : Int)), (.int .i64 (0 : Int)), (.int .i64 (0 : Int)), (.int .i64 (0 : Int)), (.int .i64 (0 : Int)), (.int .i64 (0 : Int)), (.int .i64 (0 : Int)), (.int .i64 (0 : Int))] 48 fun a3 w4 =>
  stA 19 w4 a3 cs1 fun w5 =>
  stC w5 (Addr.add (Addr.add a3 2) 0) (.int .i64 a_0) fun w6 =>
  stC w6 (Addr.add (Addr.add a3 2) 1) (.int .i64 b_1) fun w7 =>
  stC w7 (Addr.add (Addr.add a3 2) 2) (.int .i64 c_2) fun w8 =>
  spl #[(.int .i64 (0 : Int)), (.int .i64 (0 : Int)), (.int .i64 (0 : Int)), (.int .i64 (0 : Int)), (.int .i64 (0 : Int)), (.int .i64 (0 : Int)), (.int .i64 (0 : Int)), (.int .i64 (0 : Int)), (.int .i64 (0 : Int)), (.int .i64 (0 : Int)), (.int .i64 (0 : Int)), (.int .i64 (0 : Int)), (.int .i64 (0 : Int)), (.int .i64 (0 : Int)), (.int .i64 (0 : Int)), (.int .i64 (0 : Int)), (.int .i64 (0 : Int)), (.int .i64 (0 : Int)), (.int .i64 (0 : Int)), (.int .i64 (0 : Int))] 0 5 #[(.int .i64 (2 : Int)), (.int .i64 (3 : Int)), (.int .i64 (0 : Int)), (.int .i64 (1 : Int)), (.int .i64 (0 : Int))] fun cs9 =>
  spl cs9 5 5 #[(.int .i64 (2 : Int)), (.int .i64 (4 : Int)), (.int .i64 (1 : Int)), (.int .i64 (0 : Int)), (.int .i64 (0 : Int))] fun cs10 =>
  spl cs10 10 5 #[(.int .i64 (3 : Int)), (.int .i64 (5 : Int)), (.int .i64 (3 : Int)), (.int .i64 (1 : Int)), (.int .i64 (0 : Int))] fun cs11 =>
  spl cs11 15 5 #[(.int .i64 (4 : Int)), (.int .i64 (6 : Int)), (.int .i64 (3 : Int)), (.int .i64 (2 : Int)), (.int .i64 (0 : Int))] fun cs12 =>
  newC w8 cs12 50 fun a13 w14 =>
  joinP (S := Unit) (fun J15 =>
    loopP (S := Int) (fun C16 i17 w18 =>
      iteB (decide (i17 < ((4 : Nat) : Int))) (
        joinP (S := (Addr × Bool)) (fun J19 =>
          drew w18 fun w20 =>
          ldA 19 w20 a3 fun cs21 =>
          ixS (Sl.mk (some a13) 4 4) i17 5 fun a22 =>
          ldA 5 w20 a22 fun cs23 =>
          both (
            frame_Frame_Plain cs21 cs23 w20 fun x24 w25 =>
            newC w25 #[(.int .i64 (0 : Int)), (.int .i64 (0 : Int)), (.int .i64 (0 : Int)), (.int .i64 (0 : Int)), (.int .i64 (0 : Int)), (.int .i64 (0 : Int)), (.int .i64 (0 : Int)), (.int .i64 (0 : Int)), (.int .i64 (0 : Int)), (.int .i64 (0 : Int)), (.int .i64 (0 : Int)), (.int .i64 (0 : Int)), (.int .i64 (0 : Int)), (.int .i64 (0 : Int)), (.int .i64 (0 : Int)), (.int .i64 (0 : Int)), (.int .i64 (0 : Int)), (.int .i64 (0 : Int)), (.int .i64 (0 : Int))] 48 fun a26 w27 =>
            samec 5 a22 w20 w27 (
            samec 19 a3 w20 w27 (
            stA 19 w27 a26 x24.1 fun w28 =>
            (J19 (a26, x24.2) w28)))) (
            newC w20 #[(.int .i64 (0 : Int)), (.int .i64 (0 : Int)), (.int .i64 (0 : Int)), (.int .i64 (0 : Int)), (.int .i64 (0 : Int)), (.int .i64 (0 : Int)), (.int .i64 (0 : Int)), (.int .i64 (0 : Int)), (.int .i64 (0 : Int)), (.int .i64 (0 : Int)), (.int .i64 (0 : Int)), (.int .i64 (0 : Int)), (.int .i64 (0 : Int)), (.int .i64 (0 : Int)), (.int .i64 (0 : Int)), (.int .i64 (0 : Int)), (.int .i64 (0 : Int)), (.int .i64 (0 : Int)), (.int .i64 (0 : Int))] 48 fun a29 w30 =>
            samec 5 a22 w20 w30 (
            samec 19 a3 w20 w30 (
            frame_Frame_Plain cs21 cs23 w30 fun x31 w32 =>
            stA 19 w32 a29 x31.1 fun w33 =>
            (J19 (a29, x31.2) w33))))) fun x34 w35 =>
        iteB (!x34.2) (
          (k false w35)) (
          ldA 19 w35 x34.1 fun cs36 =>
          stA 19 w35 a3 cs36 fun w37 =>
          (C16 (IntKind.wrap .i64 (i17 + (1 : Int))) w37))) (
        (J15 () w18))) (0 : Int) w14) fun u38 w39 =>
  joinP (S := Bool) (fun J40 =>
    ldI .i64 w39 (Addr.add (Addr.add a3 2) 3) fun i41 =>
    ldI .i64 w39 (Addr.add (Addr.add a3 2) 4) fun i42 =>
    iteB (i41 != i42) (
      (J40 true w39)) (
      ldI .i64 w39 (Addr.add (Addr.add a3 2) 5) fun i43 =>
      (J40 (i43 != a_0) w39))) fun b44 w45 =>
  iteB b44 (
    (k false w45)) (
    spl #[(.int .i64 (0 : Int)), (.int .i64 (0 : Int)), (.int .i64 (0 : Int)), (.int .i64 (0 : Int)), (.int .i64 (0 : Int)), (.int .i64 (0 : Int)), (.int .i64 (0 : Int)), (.int .i64 (0 : Int)), (.int .i64 (0 : Int)), (.int .i64 (0 : Int)), (.int .i64 (0 : Int)), (.int .i64 (0 : Int)), (.int .i64 (0 : Int)), (.int .i64 (0 : Int)), (.int .i64 (0 : Int))] 0 5 #[(.int .i64 (4 : Int)), (.int .i64 (3 : Int)), (.int .i64 (0 : Int)), (.int .i64 (2 : Int)), (.int .i64 (0 : Int))] fun cs46 =>
    spl cs46 5 5 #[(.int .i64 (4 : Int)), (.int .i64 (4 : Int)), (.int .i64 (2 : Int)), (.int .i64 (1 : Int)), (.int .i64 (0 : Int))] fun cs47 =>
    spl cs47 10 5 #[(.int .i64 (2 : Int)), (.int .i64 (3 : Int)), (.int .i64 (3 : Int)), (.int .i64 (4 : Int)), (.int .i64 (0 : Int))] fun cs48 =>
    newC w45 cs48 50 fun a49 w50 =>
    loopP (S := Int) (fun C51 i52 w53 =>
      iteB (decide (i52 < ((3 : Nat) : Int))) (
        joinP (S := (Addr × Bool)) (fun J54 =>
          drew w53 fun w55 =>
          ldA 19 w55 a3 fun cs56 =>
          ixS (Sl.mk (some a49) 3 3) i52 5 fun a57 =>
          ldA 5 w55 a57 fun cs58 =>
          both (
            frame_Frame_Plain cs56 cs58 w55 fun x59 w60 =>
            newC w60 #[(.int .i64 (0 : Int)), (.int .i64 (0 : Int)), (.int .i64 (0 : Int)), (.int .i64 (0 : Int)), (.int .i64 (0 : Int)), (.int .i64 (0 : Int)), (.int .i64 (0 : Int)), (.int .i64 (0 : Int)), (.int .i64 (0 : Int)), (.int .i64 (0 : Int)), (.int .i64 (0 : Int)), (.int .i64 (0 : Int)), (.int .i64 (0 : Int)), (.int .i64 (0 : Int)), (.int .i64 (0 : Int)), (.int .i64 (0 : Int)), (.int .i64 (0 : Int)), (.int .i64 (0 : Int)), (.int .i64 (0 : Int))] 48 fun a61 w62 =>
            samec 5 a57 w55 w62 (
            samec 19 a3 w55 w62 (
            stA 19 w62 a61 x59.1 fun w63 =>
            (J54 (a61, x59.2) w63)))) (
            newC w55 #[(.int .i64 (0 : Int)), (.int .i64 (0 : Int)), (.int .i64 (0 : Int)), (.int .i64 (0 : Int)), (.int .i64 (0 : Int)), (.int .i64 (0 : Int)), (.int .i64 (0 : Int)), (.int .i64 (0 : Int)), (.int .i64 (0 : Int)), (.int .i64 (0 : Int)), (.int .i64 (0 : Int)), (.int .i64 (0 : Int)), (.int .i64 (0 : Int)), (.int .i64 (0 : Int)), (.int .i64 (0 : Int)), (.int .i64 (0 : Int)), (.int .i64 (0 : Int)), (.int .i64 (0 : Int)), (.int .i64 (0 : Int))] 48 fun a64 w65 =>
            samec 5 a57 w55 w65 (
            samec 19 a3 w55 w65 (
            frame_Frame_Plain cs56 cs58 w65 fun x66 w67 =>
            stA 19 w67 a64 x66.1 fun w68 =>
            (J54 (a64, x66.2) w68))))) fun x69 w70 =>
        iteB (!x69.2) (
          (k false w70)) (
          ldA 19 w70 x69.1 fun cs71 =>
          stA 19 w70 a3 cs71 fun w72 =>
          (C51 (IntKind.wrap .i64 (i52 + (1 : Int))) w72))) (
        ldI .i64 w53 (Addr.add (Addr.add a3 2) 3) fun i73 =>
        ldI .i64 w53 (Addr.add (Addr.add a3 2) 6) fun i74 =>
        iteB (i73 == i74) (
          ldI .i64 w53 (Addr.add a3 18) fun i75 =>
          iteB (i75 == (7 : Int)) (
            ldI .i64 w53 (Addr.add a3 1) fun i76 =>
            iteB (i76 == (7 : Int)) (
              pelotonlaw05_awake  w53 fun b77 w78 =>
              (k b77 w78)) (
              (k false w53))) (
            (k false w53))) (
          (k false w53)))) (0 : Int) w50)
def d8 : Dec := fun args w c => unL [(.i .i64), (.i .i64), (.i .i64)] args fun x => pelotonlaw05_FrameRing x.1 x.2.1 x.2.2 w fun r w => c (packV (valL [.b] r)) w
theorem s8 : Sound Go.Proofs.Try.prog 8 d8 :=
  sound_of (mask := 9672591760364523904630727) (h := [(7, []), (8, [(9, (.i .i64))]), (12, [(10, .a), (11, .b)]), (18, [(62, .b)]), (24, [(13, (.i .i64))]), (28, [(14, .a), (15, .b)])]) (ds := [(30, d30), (26, d26), (25, d25)]) mixed Go.Proofs.Try.func8 ⟨s30, s26, s25, trivial⟩
    [(.i .i64), (.i .i64), (.i .i64)] [.b] (by kernel_rfl) (fun x w k => pelotonlaw05_FrameRing x.1 x.2.1 x.2.2 w k) (fun x w k => by kernel_rfl)

/-- peloton/pelotonlaw05.FrameLess -/
def pelotonlaw05_FrameLess (a_0 : Int) (b_1 : Int) (c_2 : Int) (w : World) (k : (Bool) → World → Prop) : Prop :=
  frame_Root  w fun cs1 w2 =>
  newC w2 #[(.int .i64 (0 : Int)), (.int .i64 (0 : Int)), (.int .i64 (0 : Int)), (.int .i64 (0 : Int)), (.int .i64 (0 : Int)), (.int .i64 (0 : Int)), (.int .i64 (0 : Int)), (.int .i64 (0 : Int)), (.int .i64 (0 : Int)), (.int .i64 (0 : Int)), (.int .i64 (0 : Int)), (.int .i64 (0 : Int)), (.int .i64 (0 : Int)), (.int .i64 (0 : Int)), (.int .i64 (0 : Int)), (.int .i64 (0 : Int)), (.int .i64 (0 : Int)), (.int .i64 (0 : Int)), (.int .i64 (0 : Int))] 48 fun a3 w4 =>
  stA 19 w4 a3 cs1 fun w5 =>
  stC w5 (Addr.add (Addr.add a3 2) 0) (.int .i64 a_0) fun w6 =>
  stC w6 (Addr.add (Addr.add a3 2) 1) (.int .i64 b_1) fun w7 =>
  stC w7 (Addr.add (Addr.add a3 2) 2) (.int .i64 c_2) fun w8 =>
  ldA 19 w8 a3 fun cs9 =>
  frame_Frame_Plain cs9 #[(.int .i64 (5 : Int)), (.int .i64 (3 : Int)), (.int .i64 (0 : Int)), (.int .i64 (1 : Int)), (.int .i64 (0 : Int))] w8 fun x10 w11 =>
  newC w11 #[(.int .i64 (0 : Int)), (.int .i64 (0 : Int)), (.int .i64 (0 : Int)), (.int .i64 (0 : Int)), (.int .i64 (0 : Int)), (.int .i64 (0 : Int)), (.int .i64 (0 : Int)), (.int .i64 (0 : Int)), (.int .i64 (0 : Int)), (.int .i64 (0 : Int)), (.int .i64 (0 : Int)), (.int .i64 (0 : Int)), (.int .i64 (0 : Int)), (.int .i64 (0 : Int)), (.int .i64 (0 : Int)), (.int .i64 (0 : Int)), (.int .i64 (0 : Int)), (.int .i64 (0 : Int)), (.int .i64 (0 : Int))] 48 fun a12 w13 =>
  stA 19 w13 a12 x10.1 fun w14 =>
  ldA 19 w14 a3 fun cs15 =>
  frame_Frame_Plain cs15 #[(.int .i64 (5 : Int)), (.int .i64 (3 : Int)), (.int .i64 (1 : Int)), (.int .i64 (0 : Int)), (.int .i64 (0 : Int))] w14 fun x16 w17 =>
  newC w17 #[(.int .i64 (0 : Int)), (.int .i64 (0 : Int)), (.int .i64 (0 : Int)), (.int .i64 (0 : Int)), (.int .i64 (0 : Int)), (.int .i64 (0 : Int)), (.int .i64 (0 : Int)), (.int .i64 (0 : Int)), (.int .i64 (0 : Int)), (.int .i64 (0 : Int)), (.int .i64 (0 : Int)), (.int .i64 (0 : Int)), (.int .i64 (0 : Int)), (.int .i64 (0 : Int)), (.int .i64 (0 : Int)), (.int .i64 (0 : Int)), (.int .i64 (0 : Int)), (.int .i64 (0 : Int)), (.int .i64 (0 : Int))] 48 fun a18 w19 =>
  stA 19 w19 a18 x16.1 fun w20 =>
  ldA 19 w20 a3 fun cs21 =>
  frame_Frame_Plain cs21 #[(.int .i64 (5 : Int)), (.int .i64 (3 : Int)), (.int .i64 (1 : Int)), (.int .i64 (2 : Int)), (.int .i64 (0 : Int))] w20 fun x22 w23 =>
  newC w23 #[(.int .i64 (0 : Int)), (.int .i64 (0 : Int)), (.int .i64 (0 : Int)), (.int .i64 (0 : Int)), (.int .i64 (0 : Int)), (.int .i64 (0 : Int)), (.int .i64 (0 : Int)), (.int .i64 (0 : Int)), (.int .i64 (0 : Int)), (.int .i64 (0 : Int)), (.int .i64 (0 : Int)), (.int .i64 (0 : Int)), (.int .i64 (0 : Int)), (.int .i64 (0 : Int)), (.int .i64 (0 : Int)), (.int .i64 (0 : Int)), (.int .i64 (0 : Int)), (.int .i64 (0 : Int)), (.int .i64 (0 : Int))] 48 fun a24 w25 =>
  stA 19 w25 a24 x22.1 fun w26 =>
  ldA 19 w26 a3 fun cs27 =>
  frame_Frame_Plain cs27 #[(.int .i64 (5 : Int)), (.int .i64 (3 : Int)), (.int .i64 (0 : Int)), (.int .i64 (2 : Int)), (.int .i64 (0 : Int))] w26 fun x28 w29 =>
  newC w29 #[(.int .i64 (0 : Int)), (.int .i64 (0 : Int)), (.int .i64 (0 : Int)), (.int .i64 (0 : Int)), (.int .i64 (0 : Int)), (.int .i64 (0 : Int)), (.int .i64 (0 : Int)), (.int .i64 (0 : Int)), (.int .i64 (0 : Int)), (.int .i64 (0 : Int)), (.int .i64 (0 : Int)), (.int .i64 (0 : Int)), (.int .i64 (0 : Int)), (.int .i64 (0 : Int)), (.int .i64 (0 : Int)), (.int .i64 (0 : Int)), (.int .i64 (0 : Int)), (.int .i64 (0 : Int)), (.int .i64 (0 : Int))] 48 fun a30 w31 =>
  stA 19 w31 a30 x28.1 fun w32 =>
  joinP (S := Bool) (fun J33 =>
    iteB ((((!x10.2) || (!x16.2)) || (!x22.2)) || (!x28.2)) (
      (J33 true w32)) (
      ldI .i64 w32 (Addr.add (Addr.add a12 2) 3) fun i34 =>
      iteB (decide (i34 < (0 : Int))) (
        (J33 true w32)) (
        ldI .i64 w32 (Addr.add (Addr.add a18 2) 3) fun i35 =>
        iteB (decide (i35 < (0 : Int))) (
          (J33 true w32)) (
          ldI .i64 w32 (Addr.add (Addr.add a12 2) 3) fun i36 =>
          ldI .i64 w32 (Addr.add (Addr.add a18 2) 3) fun i37 =>
          iteB (!(((IntKind.wrap .i64 (i36 + i37)) == (1 : Int)) == (a_0 != b_1))) (
            (J33 true w32)) (
            ldI .i64 w32 (Addr.add (Addr.add a12 2) 3) fun i38 =>
            ldI .i64 w32 (Addr.add (Addr.add a18 2) 3) fun i39 =>
            (J33 (decide ((IntKind.wrap .i64 (i38 + i39)) > (1 : Int))) w32)))))) fun b40 w41 =>
  iteB b40 (
    (k false w41)) (
    ldI .i64 w41 (Addr.add (Addr.add a12 2) 3) fun i42 =>
    ldI .i64 w41 (Addr.add (Addr.add a24 2) 3) fun i43 =>
    iteB ((IntKind.wrap .i64 (i42 * i43)) == (0 : Int)) (
      pelotonlaw05_awake  w41 fun b44 w45 =>
      (k b44 w45)) (
      ldI .i64 w41 (Addr.add (Addr.add a30 2) 3) fun i46 =>
      iteB (i46 == (1 : Int)) (
        pelotonlaw05_awake  w41 fun b47 w48 =>
        (k b47 w48)) (
        (k false w41))))
def d9 : Dec := fun args w c => unL [(.i .i64), (.i .i64), (.i .i64)] args fun x => pelotonlaw05_FrameLess x.1 x.2.1 x.2.2 w fun r w => c (packV (valL [.b] r)) w
theorem s9 : Sound Go.Proofs.Try.prog 9 d9 :=
  sound_of (mask := 633825300114114700748351668167) (h := [(9, [(99, .b)])]) (ds := [(30, d30), (26, d26), (25, d25)]) mixed Go.Proofs.Try.func9 ⟨s30, s26, s25, trivial⟩
    [(.i .i64), (.i .i64), (.i .i64)] [.b] (by kernel_rfl) (fun x w k => pelotonlaw05_FrameLess x.1 x.2.1 x.2.2 w k) (fun x w k => by kernel_rfl)

/-- peloton/frame.may -/
def frame_may (i_0 : Array Value) (op_1 : Int) (w : World) (k : (Bool) → World → Prop) : Prop :=
  newC w i_0 50 fun a1 w2 =>
  ldI .i64 w2 (Addr.add a1 0) fun i3 =>
  iteB (i3 == op_1) (
    ldA 5 w2 a1 fun cs4 =>
    code_Check cs4 w2 fun i5 w6 =>
    (k (i5 == (0 : Int)) w6)) (
    (k false w2))
def d51 : Dec := fun args w c => unL [.ag, (.i .i64)] args fun x => frame_may x.1 x.2 w fun r w => c (packV (valL [.b] r)) w
theorem s51 : Sound Go.Proofs.Try.prog 51 d51 :=
  sound_of (mask := 22) (h := []) (ds := [(46, d46)]) mixed Go.Proofs.Try.func51 ⟨s46, trivial⟩
    [.ag, (.i .i64)] [.b] (by kernel_rfl) (fun x w k => frame_may x.1 x.2 w k) (fun x w k => by kernel_rfl)

/-- (peloton/frame.Frame).Closed -/
def frame_Frame_Closed (f_0 : Array Value) (i_1 : Array Value) (asked_2 : Bool) (w : World) (k : (Array Value) → World → Prop) : Prop :=
  newC w f_0 48 fun a1 w2 =>
  newC w2 i_1 50 fun a3 w4 =>
  newC w4 #[(.int .i64 (0 : Int)), (.int .i64 (0 : Int)), (.int .i64 (0 : Int)), (.int .i64 (0 : Int)), (.int .i64 (0 : Int)), (.int .i64 (0 : Int)), (.int .i64 (0 : Int)), (.int .i64 (0 : Int)), (.int .i64 (0 : Int)), (.int .i64 (0 : Int)), (.int .i64 (0 : Int)), (.int .i64 (0 : Int)), (.int .i64 (0 : Int)), (.int .i64 (0 : Int)), (.int .i64 (0 : Int)), (.int .i64 (0 : Int)), (.int .i64 (0 : Int)), (.int .i64 (0 : Int)), (.int .i64 (0 : Int))] 48 fun a5 w6 =>
  ldA 19 w6 a1 fun cs7 =>
  newC w6 #[(.int .i64 (0 : Int)), (.int .i64 (0 : Int)), (.int .i64 (0 : Int)), (.int .i64 (0 : Int)), (.int .i64 (0 : Int)), (.int .i64 (0 : Int)), (.int .i64 (0 : Int)), (.int .i64 (0 : Int)), (.int .i64 (0 : Int)), (.int .i64 (0 : Int)), (.int .i64 (0 : Int)), (.int .i64 (0 : Int)), (.int .i64 (0 : Int)), (.int .i64 (0 : Int)), (.int .i64 (0 : Int)), (.int .i64 (0 : Int)), (.int .i64 (0 : Int)), (.int .i64 (0 : Int)), (.int .i64 (0 : Int))] 48 fun a8 w9 =>
  stA 19 w9 a8 cs7 fun w10 =>
  ldA 5 w10 a3 fun cs11 =>
  frame_may cs11 (12 : Int) w10 fun b12 w13 =>
  iteB b12 (
    drew w13 fun w14 =>
    ldI .i64 w14 (Addr.add a3 1) fun i15 =>
    frame_one asked_2 w14 fun i16 w17 =>
    samec 1 (Addr.add a3 1) w14 w17 (
    ixP (Addr.add a8 2) 8 i15 1 fun a18 =>
    stC w17 a18 (.int .i64 i16) fun w19 =>
    ldA 19 w19 a8 fun cs20 =>
    frame_Frame_Passed cs20 w19 fun cs21 w22 =>
    stA 19 w22 a5 cs21 fun w23 =>
    ldA 19 w23 a5 fun cs24 =>
    (k cs24 w23))) (
    ldA 19 w13 a1 fun cs25 =>
    stA 19 w13 a5 cs25 fun w26 =>
    ldA 19 w26 a5 fun cs27 =>
    (k cs27 w26))
def d32 : Dec := fun args w c => unL [.ag, .ag, .b] args fun x => frame_Frame_Closed x.1 x.2.1 x.2.2 w fun r w => c (packV (valL [.ag] r)) w
theorem s32 : Sound Go.Proofs.Try.prog 32 d32 :=
  sound_of (mask := 1244) (h := []) (ds := [(51, d51), (52, d52), (34, d34)]) mixed Go.Proofs.Try.func32 ⟨s51, s52, s34, trivial⟩
    [.ag, .ag, .b] [.ag] (by kernel_rfl) (fun x w k => frame_Frame_Closed x.1 x.2.1 x.2.2 w k) (fun x w k => by kernel_rfl)

/-- peloton/pelotonref05.is -/
def pelotonref05_is (i_0 : Array Value) (op_1 : Int) (w : World) (k : (Bool) → World → Prop) : Prop :=
  newC w i_0 50 fun a1 w2 =>
  ldI .i64 w2 (Addr.add a1 0) fun i3 =>
  iteB (i3 == op_1) (
    ldA 5 w2 a1 fun cs4 =>
    pelotonref02_Check cs4 w2 fun i5 w6 =>
    (k (i5 == (0 : Int)) w6)) (
    (k false w2))
def d53 : Dec := fun args w c => unL [.ag, (.i .i64)] args fun x => pelotonref05_is x.1 x.2 w fun r w => c (packV (valL [.b] r)) w
theorem s53 : Sound Go.Proofs.Try.prog 53 d53 :=
  sound_of (mask := 22) (h := []) (ds := [(42, d42)]) mixed Go.Proofs.Try.func53 ⟨s42, trivial⟩
    [.ag, (.i .i64)] [.b] (by kernel_rfl) (fun x w k => pelotonref05_is x.1 x.2 w k) (fun x w k => by kernel_rfl)

/-- (peloton/pelotonref05.Task).Closed -/
def pelotonref05_Task_Closed (t_0 : Array Value) (i_1 : Array Value) (asked_2 : Bool) (w : World) (k : (Array Value) → World → Prop) : Prop :=
  newC w t_0 54 fun a1 w2 =>
  newC w2 i_1 50 fun a3 w4 =>
  newC w4 #[(.int .i64 (0 : Int)), (.int .i64 (0 : Int)), (.int .i64 (0 : Int)), (.int .i64 (0 : Int)), (.int .i64 (0 : Int)), (.int .i64 (0 : Int)), (.int .i64 (0 : Int)), (.int .i64 (0 : Int)), (.int .i64 (0 : Int)), (.int .i64 (0 : Int)), (.int .i64 (0 : Int)), (.int .i64 (0 : Int)), (.int .i64 (0 : Int)), (.int .i64 (0 : Int)), (.int .i64 (0 : Int)), (.int .i64 (0 : Int)), (.int .i64 (0 : Int)), (.int .i64 (0 : Int)), (.int .i64 (0 : Int))] 54 fun a5 w6 =>
  ldA 5 w6 a3 fun cs7 =>
  pelotonref05_is cs7 (12 : Int) w6 fun b8 w9 =>
  iteB (!b8) (
    ldA 19 w9 a1 fun cs10 =>
    stA 19 w9 a5 cs10 fun w11 =>
    ldA 19 w11 a5 fun cs12 =>
    (k cs12 w11)) (
    iteB asked_2 (
      ldA 19 w9 a1 fun cs13 =>
      ldI .i64 w9 (Addr.add a3 1) fun i14 =>
      pelotonref05_Task_With cs13 i14 (1 : Int) w9 fun cs15 w16 =>
      pelotonref05_Task_On cs15 w16 fun cs17 w18 =>
      stA 19 w18 a5 cs17 fun w19 =>
      ldA 19 w19 a5 fun cs20 =>
      (k cs20 w19)) (
      ldA 19 w9 a1 fun cs21 =>
      ldI .i64 w9 (Addr.add a3 1) fun i22 =>
      pelotonref05_Task_With cs21 i22 (0 : Int) w9 fun cs23 w24 =>
      pelotonref05_Task_On cs23 w24 fun cs25 w26 =>
      stA 19 w26 a5 cs25 fun w27 =>
      ldA 19 w27 a5 fun cs28 =>
      (k cs28 w27)))
def d33 : Dec := fun args w c => unL [.ag, .ag, .b] args fun x => pelotonref05_Task_Closed x.1 x.2.1 x.2.2 w fun r w => c (packV (valL [.ag] r)) w
theorem s33 : Sound Go.Proofs.Try.prog 33 d33 :=
  sound_of (mask := 2652) (h := []) (ds := [(53, d53), (49, d49), (35, d35)]) mixed Go.Proofs.Try.func33 ⟨s53, s49, s35, trivial⟩
    [.ag, .ag, .b] [.ag] (by kernel_rfl) (fun x w k => pelotonref05_Task_Closed x.1 x.2.1 x.2.2 w k) (fun x w k => by kernel_rfl)

/-- peloton/pelotonlaw05.FramePasses -/
def pelotonlaw05_FramePasses (f_0 : Array Value) (i_1 : Array Value) (asked_2 : Bool) (w : World) (k : (Bool) → World → Prop) : Prop :=
  newC w f_0 48 fun a1 w2 =>
  newC w2 i_1 50 fun a3 w4 =>
  ldA 19 w4 a1 fun cs5 =>
  pelotonlaw05_usual cs5 w4 fun b6 w7 =>
  iteB (!b6) (
    pelotonlaw05_awake  w7 fun b8 w9 =>
    (k b8 w9)) (
    drew w7 fun w10 =>
    ldA 19 w10 a1 fun cs11 =>
    ldA 5 w10 a3 fun cs12 =>
    ldA 19 w10 a1 fun cs13 =>
    ldA 5 w10 a3 fun cs14 =>
    frame_Frame_Closed cs11 cs12 asked_2 w10 fun cs15 w16 =>
    samec 5 a3 w10 w16 (
    samec 19 a1 w10 w16 (
    pelotonlaw05_plain cs13 w16 fun cs17 w18 =>
    samec 5 a3 w10 w18 (
    pelotonref05_Task_Closed cs17 cs14 asked_2 w18 fun cs19 w20 =>
    pelotonlaw05_Same cs15 cs19 w20 fun b21 w22 =>
    iteB b21 (
      ldA 19 w22 a1 fun cs23 =>
      ldA 19 w22 a1 fun cs24 =>
      frame_Frame_Passed cs23 w22 fun cs25 w26 =>
      samec 19 a1 w22 w26 (
      pelotonlaw05_plain cs24 w26 fun cs27 w28 =>
      pelotonref05_Task_On cs27 w28 fun cs29 w30 =>
      pelotonlaw05_Same cs25 cs29 w30 fun b31 w32 =>
      iteB b31 (
        pelotonlaw05_awake  w32 fun b33 w34 =>
        (k b33 w34)) (
        (k false w32)))) (
      (k false w22))))))
def d10 : Dec := fun args w c => unL [.ag, .ag, .b] args fun x => pelotonlaw05_FramePasses x.1 x.2.1 x.2.2 w fun r w => c (packV (valL [.b] r)) w
theorem s10 : Sound Go.Proofs.Try.prog 10 d10 :=
  sound_of (mask := 604) (h := []) (ds := [(24, d24), (25, d25), (32, d32), (27, d27), (33, d33), (29, d29), (34, d34), (35, d35)]) mixed Go.Proofs.Try.func10 ⟨s24, s25, s32, s27, s33, s29, s34, s35, trivial⟩
    [.ag, .ag, .b] [.b] (by kernel_rfl) (fun x w k => pelotonlaw05_FramePasses x.1 x.2.1 x.2.2 w k) (fun x w k => by kernel_rfl)

/-- (peloton/frame.Frame).Child -/
def frame_Frame_Child (f_0 : Array Value) (p_1 : Array Value) (i_2 : Array Value) (w : World) (k : (Array Value × Int) → World → Prop) : Prop :=
  newC w f_0 48 fun a1 w2 =>
  newC w2 p_1 75 fun a3 w4 =>
  newC w4 i_2 50 fun a5 w6 =>
  newC w6 #[(.int .i64 (0 : Int)), (.int .i64 (0 : Int)), (.int .i64 (0 : Int)), (.int .i64 (0 : Int)), (.int .i64 (0 : Int)), (.int .i64 (0 : Int)), (.int .i64 (0 : Int)), (.int .i64 (0 : Int)), (.int .i64 (0 : Int)), (.int .i64 (0 : Int)), (.int .i64 (0 : Int)), (.int .i64 (0 : Int)), (.int .i64 (0 : Int)), (.int .i64 (0 : Int)), (.int .i64 (0 : Int)), (.int .i64 (0 : Int)), (.int .i64 (0 : Int)), (.int .i64 (0 : Int)), (.int .i64 (0 : Int))] 48 fun a7 w8 =>
  ldA 5 w8 a5 fun cs9 =>
  frame_may cs9 (8 : Int) w8 fun b10 w11 =>
  iteB (!b10) (
    stA 19 w11 a7 #[(.int .i64 (0 : Int)), (.int .i64 (0 : Int)), (.int .i64 (0 : Int)), (.int .i64 (0 : Int)), (.int .i64 (0 : Int)), (.int .i64 (0 : Int)), (.int .i64 (0 : Int)), (.int .i64 (0 : Int)), (.int .i64 (0 : Int)), (.int .i64 (0 : Int)), (.int .i64 (0 : Int)), (.int .i64 (0 : Int)), (.int .i64 (0 : Int)), (.int .i64 (0 : Int)), (.int .i64 (0 : Int)), (.int .i64 (0 : Int)), (.int .i64 (0 : Int)), (.int .i64 (0 : Int)), (.int .i64 (0 : Int))] fun w12 =>
    ldA 19 w12 a7 fun cs13 =>
    (k (cs13, (1 : Int)) w12)) (
    ldI .i64 w11 (Addr.add a5 4) fun i14 =>
    ldS w11 (Addr.add a3 0) fun s15 =>
    iteB (decide (i14 ≥ ((s15.n : Nat) : Int))) (
      stA 19 w11 a7 #[(.int .i64 (0 : Int)), (.int .i64 (0 : Int)), (.int .i64 (0 : Int)), (.int .i64 (0 : Int)), (.int .i64 (0 : Int)), (.int .i64 (0 : Int)), (.int .i64 (0 : Int)), (.int .i64 (0 : Int)), (.int .i64 (0 : Int)), (.int .i64 (0 : Int)), (.int .i64 (0 : Int)), (.int .i64 (0 : Int)), (.int .i64 (0 : Int)), (.int .i64 (0 : Int)), (.int .i64 (0 : Int)), (.int .i64 (0 : Int)), (.int .i64 (0 : Int)), (.int .i64 (0 : Int)), (.int .i64 (0 : Int))] fun w16 =>
      ldA 19 w16 a7 fun cs17 =>
      (k (cs17, (17 : Int)) w16)) (
      frame_Root  w11 fun cs18 w19 =>
      newC w19 #[(.int .i64 (0 : Int)), (.int .i64 (0 : Int)), (.int .i64 (0 : Int)), (.int .i64 (0 : Int)), (.int .i64 (0 : Int)), (.int .i64 (0 : Int)), (.int .i64 (0 : Int)), (.int .i64 (0 : Int)), (.int .i64 (0 : Int)), (.int .i64 (0 : Int)), (.int .i64 (0 : Int)), (.int .i64 (0 : Int)), (.int .i64 (0 : Int)), (.int .i64 (0 : Int)), (.int .i64 (0 : Int)), (.int .i64 (0 : Int)), (.int .i64 (0 : Int)), (.int .i64 (0 : Int)), (.int .i64 (0 : Int))] 48 fun a20 w21 =>
      stA 19 w21 a20 cs18 fun w22 =>
      drew w22 fun w23 =>
      ldI .i64 w23 (Addr.add a5 4) fun i24 =>
      ldA 8 w23 (Addr.add a1 2) fun cs25 =>
      stC w23 (Addr.add a20 0) (.int .i64 i24) fun w26 =>
      samec 8 (Addr.add a1 2) w23 w26 (
      stA 8 w26 (Addr.add a20 2) cs25 fun w27 =>
      loopP (S := Int) (fun C28 i29 w30 =>
        iteB (decide (i29 < (8 : Int))) (
          drew w30 fun w31 =>
          ldS w31 (Addr.add a3 0) fun s32 =>
          ldI .i64 w31 (Addr.add a5 4) fun i33 =>
          ixS s32 i33 2 fun a34 =>
          ldI .i64 w31 (Addr.add a34 0) fun i35 =>
          shlI .i64 (1 : Int) i29 fun i36 =>
          iteB ((andI .i64 i35 i36) != (0 : Int)) (
            ixP (Addr.add a1 10) 8 i29 1 fun a37 =>
            ldI .i64 w31 a37 fun i38 =>
            ixP (Addr.add a20 10) 8 i29 1 fun a39 =>
            stC w31 a39 (.int .i64 i38) fun w40 =>
            (C28 (IntKind.wrap .i64 (i29 + (1 : Int))) w40)) (
            (C28 (IntKind.wrap .i64 (i29 + (1 : Int))) w31))) (
          ldA 19 w30 a20 fun cs41 =>
          stA 19 w30 a7 cs41 fun w42 =>
          ldA 19 w42 a7 fun cs43 =>
          (k (cs43, (0 : Int)) w42))) (0 : Int) w27)))
def d36 : Dec := fun args w c => unL [.ag, .ag, .ag] args fun x => frame_Frame_Child x.1 x.2.1 x.2.2 w fun r w => c (packV (valL [.ag, (.i .i64)] r)) w
theorem s36 : Sound Go.Proofs.Try.prog 36 d36 :=
  sound_of (mask := 2199829091320) (h := [(11, [(28, (.i .i64))])]) (ds := [(51, d51), (30, d30)]) mixed Go.Proofs.Try.func36 ⟨s51, s30, trivial⟩
    [.ag, .ag, .ag] [.ag, (.i .i64)] (by kernel_rfl) (fun x w k => frame_Frame_Child x.1 x.2.1 x.2.2 w k) (fun x w k => by kernel_rfl)

/-- peloton/pelotonlaw05.FrameBlind -/
def pelotonlaw05_FrameBlind (f_0 : Array Value) (i_1 : Array Value) (x_2 : Array Value) (w : World) (k : (Bool) → World → Prop) : Prop :=
  newC w f_0 48 fun a1 w2 =>
  newC w2 i_1 50 fun a3 w4 =>
  newC w4 x_2 68 fun a5 w6 =>
  ldA 19 w6 a1 fun cs7 =>
  pelotonlaw05_usual cs7 w6 fun b8 w9 =>
  iteB (!b8) (
    pelotonlaw05_awake  w9 fun b10 w11 =>
    (k b10 w11)) (
    ldA 19 w9 a1 fun cs12 =>
    newC w9 #[(.int .i64 (0 : Int)), (.int .i64 (0 : Int)), (.int .i64 (0 : Int)), (.int .i64 (0 : Int)), (.int .i64 (0 : Int)), (.int .i64 (0 : Int)), (.int .i64 (0 : Int)), (.int .i64 (0 : Int)), (.int .i64 (0 : Int)), (.int .i64 (0 : Int)), (.int .i64 (0 : Int)), (.int .i64 (0 : Int)), (.int .i64 (0 : Int)), (.int .i64 (0 : Int)), (.int .i64 (0 : Int)), (.int .i64 (0 : Int)), (.int .i64 (0 : Int)), (.int .i64 (0 : Int)), (.int .i64 (0 : Int))] 48 fun a13 w14 =>
    stA 19 w14 a13 cs12 fun w15 =>
    ldA 8 w15 (Addr.add a5 0) fun cs16 =>
    stA 8 w15 (Addr.add a13 10) cs16 fun w17 =>
    ldA 19 w17 a1 fun cs18 =>
    ldA 5 w17 a3 fun cs19 =>
    frame_Frame_Plain cs18 cs19 w17 fun x20 w21 =>
    newC w21 #[(.int .i64 (0 : Int)), (.int .i64 (0 : Int)), (.int .i64 (0 : Int)), (.int .i64 (0 : Int)), (.int .i64 (0 : Int)), (.int .i64 (0 : Int)), (.int .i64 (0 : Int)), (.int .i64 (0 : Int)), (.int .i64 (0 : Int)), (.int .i64 (0 : Int)), (.int .i64 (0 : Int)), (.int .i64 (0 : Int)), (.int .i64 (0 : Int)), (.int .i64 (0 : Int)), (.int .i64 (0 : Int)), (.int .i64 (0 : Int)), (.int .i64 (0 : Int)), (.int .i64 (0 : Int)), (.int .i64 (0 : Int))] 48 fun a22 w23 =>
    stA 19 w23 a22 x20.1 fun w24 =>
    ldA 19 w24 a13 fun cs25 =>
    ldA 5 w24 a3 fun cs26 =>
    frame_Frame_Plain cs25 cs26 w24 fun x27 w28 =>
    newC w28 #[(.int .i64 (0 : Int)), (.int .i64 (0 : Int)), (.int .i64 (0 : Int)), (.int .i64 (0 : Int)), (.int .i64 (0 : Int)), (.int .i64 (0 : Int)), (.int .i64 (0 : Int)), (.int .i64 (0 : Int)), (.int .i64 (0 : Int)), (.int .i64 (0 : Int)), (.int .i64 (0 : Int)), (.int .i64 (0 : Int)), (.int .i64 (0 : Int)), (.int .i64 (0 : Int)), (.int .i64 (0 : Int)), (.int .i64 (0 : Int)), (.int .i64 (0 : Int)), (.int .i64 (0 : Int)), (.int .i64 (0 : Int))] 48 fun a29 w30 =>
    stA 19 w30 a29 x27.1 fun w31 =>
    joinP (S := Bool) (fun J32 =>
      iteB (!(x20.2 == x27.2)) (
        (J32 true w31)) (
        ldA 8 w31 (Addr.add a22 2) fun cs33 =>
        ldA 8 w31 (Addr.add a29 2) fun cs34 =>
        eqA [(0, 0), (1, 0), (2, 0), (3, 0), (4, 0), (5, 0), (6, 0), (7, 0)] cs33 cs34 fun b35 =>
        iteB (!b35) (
          (J32 true w31)) (
          ldI .i64 w31 (Addr.add a22 1) fun i36 =>
          ldI .i64 w31 (Addr.add a29 1) fun i37 =>
          iteB (i36 != i37) (
            (J32 true w31)) (
            ldA 8 w31 (Addr.add a22 10) fun cs38 =>
            ldA 8 w31 (Addr.add a1 10) fun cs39 =>
            eqA [(0, 0), (1, 0), (2, 0), (3, 0), (4, 0), (5, 0), (6, 0), (7, 0)] cs38 cs39 fun b40 =>
            iteB (!b40) (
              (J32 true w31)) (
              ldA 8 w31 (Addr.add a29 10) fun cs41 =>
              ldA 8 w31 (Addr.add a5 0) fun cs42 =>
              eqA [(0, 0), (1, 0), (2, 0), (3, 0), (4, 0), (5, 0), (6, 0), (7, 0)] cs41 cs42 fun b43 =>
              (J32 (!b43) w31)))))) fun b44 w45 =>
    iteB b44 (
      (k false w45)) (
      ldA 19 w45 a1 fun cs46 =>
      ldI .i64 w45 (Addr.add a5 8) fun i47 =>
      spl #[(.int .i64 (0 : Int)), (.slice none 0 0), (.int .i64 (0 : Int)), (.slice none 0 0)] 0 2 #[(.int .i64 (0 : Int)), (.slice none 0 0)] fun cs48 =>
      spl cs48 2 2 #[(.int .i64 i47), (.slice none 0 0)] fun cs49 =>
      newC w45 cs49 72 fun a50 w51 =>
      frame_Frame_Child cs46 #[(.slice (some a50) 2 2)] #[(.int .i64 (8 : Int)), (.int .i64 (0 : Int)), (.int .i64 (0 : Int)), (.int .i64 (0 : Int)), (.int .i64 (1 : Int))] w51 fun x52 w53 =>
      newC w53 #[(.int .i64 (0 : Int)), (.int .i64 (0 : Int)), (.int .i64 (0 : Int)), (.int .i64 (0 : Int)), (.int .i64 (0 : Int)), (.int .i64 (0 : Int)), (.int .i64 (0 : Int)), (.int .i64 (0 : Int)), (.int .i64 (0 : Int)), (.int .i64 (0 : Int)), (.int .i64 (0 : Int)), (.int .i64 (0 : Int)), (.int .i64 (0 : Int)), (.int .i64 (0 : Int)), (.int .i64 (0 : Int)), (.int .i64 (0 : Int)), (.int .i64 (0 : Int)), (.int .i64 (0 : Int)), (.int .i64 (0 : Int))] 48 fun a54 w55 =>
      stA 19 w55 a54 x52.1 fun w56 =>
      joinP (S := Bool) (fun J57 =>
        iteB (x52.2 != (0 : Int)) (
          (J57 true w56)) (
          ldA 8 w56 (Addr.add a54 2) fun cs58 =>
          ldA 8 w56 (Addr.add a1 2) fun cs59 =>
          eqA [(0, 0), (1, 0), (2, 0), (3, 0), (4, 0), (5, 0), (6, 0), (7, 0)] cs58 cs59 fun b60 =>
          iteB (!b60) (
            (J57 true w56)) (
            ldI .i64 w56 (Addr.add a54 1) fun i61 =>
            iteB (i61 != (0 : Int)) (
              (J57 true w56)) (
              ldI .i64 w56 (Addr.add a54 18) fun i62 =>
              iteB (i62 != (0 : Int)) (
                (J57 true w56)) (
                ldI .i64 w56 (Addr.add a54 0) fun i63 =>
                (J57 (i63 != (1 : Int)) w56)))))) fun b64 w65 =>
      iteB b64 (
        (k false w65)) (
        loopP (S := Int) (fun C66 i67 w68 =>
          iteB (decide (i67 < (8 : Int))) (
            joinP (S := Bool) (fun J69 =>
              drew w68 fun w70 =>
              ixP (Addr.add a54 10) 8 i67 1 fun a71 =>
              ldI .i64 w70 a71 fun i72 =>
              ixP (Addr.add a1 10) 8 i67 1 fun a73 =>
              ldI .i64 w70 a73 fun i74 =>
              iteB (i72 != i74) (
                ixP (Addr.add a54 10) 8 i67 1 fun a75 =>
                ldI .i64 w70 a75 fun i76 =>
                (J69 (i76 != (-(1 : Int))) w70)) (
                (J69 false w70))) fun b77 w78 =>
            iteB b77 (
              (k false w78)) (
              (C66 (IntKind.wrap .i64 (i67 + (1 : Int))) w78))) (
            pelotonlaw05_awake  w68 fun b79 w80 =>
            (k b79 w80))) (0 : Int) w65)))
def d11 : Dec := fun args w c => unL [.ag, .ag, .ag] args fun x => pelotonlaw05_FrameBlind x.1 x.2.1 x.2.2 w fun r w => c (packV (valL [.b] r)) w
theorem s11 : Sound Go.Proofs.Try.prog 11 d11 :=
  sound_of (mask := 2658468668075834064995117235012009976) (h := [(8, [(65, .b)]), (12, [(101, .b)]), (17, [(14, (.i .i64))]), (21, [(121, .b)])]) (ds := [(24, d24), (25, d25), (26, d26), (36, d36)]) mixed Go.Proofs.Try.func11 ⟨s24, s25, s26, s36, trivial⟩
    [.ag, .ag, .ag] [.b] (by kernel_rfl) (fun x w k => pelotonlaw05_FrameBlind x.1 x.2.1 x.2.2 w k) (fun x w k => by kernel_rfl)

/-- (peloton/frame.Frame).Joined -/
def frame_Frame_Joined (f_0 : Array Value) (i_1 : Array Value) (kind_2 : Int) (v_3 : Int) (w : World) (k : (Array Value × Int × Bool) → World → Prop) : Prop :=
  newC w f_0 48 fun a1 w2 =>
  newC w2 i_1 50 fun a3 w4 =>
  newC w4 #[(.int .i64 (0 : Int)), (.int .i64 (0 : Int)), (.int .i64 (0 : Int)), (.int .i64 (0 : Int)), (.int .i64 (0 : Int)), (.int .i64 (0 : Int)), (.int .i64 (0 : Int)), (.int .i64 (0 : Int)), (.int .i64 (0 : Int)), (.int .i64 (0 : Int)), (.int .i64 (0 : Int)), (.int .i64 (0 : Int)), (.int .i64 (0 : Int)), (.int .i64 (0 : Int)), (.int .i64 (0 : Int)), (.int .i64 (0 : Int)), (.int .i64 (0 : Int)), (.int .i64 (0 : Int)), (.int .i64 (0 : Int))] 48 fun a5 w6 =>
  joinP (S := Bool) (fun J7 =>
    iteB ((decide (kind_2 < (2 : Int))) || (decide (kind_2 > (4 : Int)))) (
      (J7 true w6)) (
      ldA 5 w6 a3 fun cs8 =>
      frame_may cs8 (9 : Int) w6 fun b9 w10 =>
      iteB (!b9) (
        ldA 5 w10 a3 fun cs11 =>
        frame_may cs11 (10 : Int) w10 fun b12 w13 =>
        (J7 (!b12) w13)) (
        (J7 false w10)))) fun b14 w15 =>
  iteB b14 (
    ldA 19 w15 a1 fun cs16 =>
    stA 19 w15 a5 cs16 fun w17 =>
    ldA 19 w17 a5 fun cs18 =>
    (k (cs18, ((0 : Int), false)) w17)) (
    joinP (S := Int) (fun J19 =>
      ldI .i64 w15 (Addr.add a3 0) fun i20 =>
      iteB (i20 == (10 : Int)) (
        joinP (S := Int) (fun J21 =>
          iteB (kind_2 == (4 : Int)) (
            (J21 (0 : Int) w15)) (
            (J21 v_3 w15))) fun i22 w23 =>
        drew w23 fun w24 =>
        ldI .i64 w24 (Addr.add a3 1) fun i25 =>
        ldI .i64 w24 (Addr.add a3 2) fun i26 =>
        ixP (Addr.add a1 2) 8 i25 1 fun a27 =>
        stC w24 a27 (.int .i64 i22) fun w28 =>
        samec 1 (Addr.add a3 2) w24 w28 (
        ixP (Addr.add a1 2) 8 i26 1 fun a29 =>
        stC w28 a29 (.int .i64 (IntKind.wrap .i64 (kind_2 - (2 : Int)))) fun w30 =>
        ldA 19 w30 a1 fun cs31 =>
        frame_Frame_Passed cs31 w30 fun cs32 w33 =>
        stA 19 w33 a5 cs32 fun w34 =>
        ldA 19 w34 a5 fun cs35 =>
        (k (cs35, ((0 : Int), false)) w34))) (
        iteB (kind_2 == (2 : Int)) (
          ldI .i64 w15 (Addr.add a3 1) fun i36 =>
          ixP (Addr.add a1 2) 8 i36 1 fun a37 =>
          stC w15 a37 (.int .i64 v_3) fun w38 =>
          ldA 19 w38 a1 fun cs39 =>
          frame_Frame_Passed cs39 w38 fun cs40 w41 =>
          stA 19 w41 a5 cs40 fun w42 =>
          ldA 19 w42 a5 fun cs43 =>
          (k (cs43, ((0 : Int), false)) w42)) (
          iteB (kind_2 == (4 : Int)) (
            (J19 (-(1 : Int)) w15)) (
            (J19 v_3 w15))))) fun i44 w45 =>
    ldA 19 w45 a1 fun cs46 =>
    ldI .i64 w45 (Addr.add a1 1) fun i47 =>
    frame_Frame_to cs46 i47 w45 fun cs48 w49 =>
    stA 19 w49 a5 cs48 fun w50 =>
    ldA 19 w50 a5 fun cs51 =>
    (k (cs51, (i44, true)) w50))
def d37 : Dec := fun args w c => unL [.ag, .ag, (.i .i64), (.i .i64)] args fun x => frame_Frame_Joined x.1 x.2.1 x.2.2.1 x.2.2.2 w fun r w => c (packV (valL [.ag, (.i .i64), .b] r)) w
theorem s37 : Sound Go.Proofs.Try.prog 37 d37 :=
  sound_of (mask := 588746065724) (h := [(1, [(26, .b)]), (5, [(3, (.i .i64))]), (16, [(3, (.i .i64))])]) (ds := [(51, d51), (34, d34), (47, d47)]) mixed Go.Proofs.Try.func37 ⟨s51, s34, s47, trivial⟩
    [.ag, .ag, (.i .i64), (.i .i64)] [.ag, (.i .i64), .b] (by kernel_rfl) (fun x w k => frame_Frame_Joined x.1 x.2.1 x.2.2.1 x.2.2.2 w k) (fun x w k => by kernel_rfl)

/-- (peloton/pelotonref05.Task).Joined -/
def pelotonref05_Task_Joined (t_0 : Array Value) (i_1 : Array Value) (kind_2 : Int) (v_3 : Int) (w : World) (k : (Array Value × Int × Bool) → World → Prop) : Prop :=
  newC w t_0 54 fun a1 w2 =>
  newC w2 i_1 50 fun a3 w4 =>
  newC w4 #[(.int .i64 (0 : Int)), (.int .i64 (0 : Int)), (.int .i64 (0 : Int)), (.int .i64 (0 : Int)), (.int .i64 (0 : Int)), (.int .i64 (0 : Int)), (.int .i64 (0 : Int)), (.int .i64 (0 : Int)), (.int .i64 (0 : Int)), (.int .i64 (0 : Int)), (.int .i64 (0 : Int)), (.int .i64 (0 : Int)), (.int .i64 (0 : Int)), (.int .i64 (0 : Int)), (.int .i64 (0 : Int)), (.int .i64 (0 : Int)), (.int .i64 (0 : Int)), (.int .i64 (0 : Int)), (.int .i64 (0 : Int))] 54 fun a5 w6 =>
  iteB (((kind_2 != (2 : Int)) && (kind_2 != (3 : Int))) && (kind_2 != (4 : Int))) (
    ldA 19 w6 a1 fun cs7 =>
    stA 19 w6 a5 cs7 fun w8 =>
    ldA 19 w8 a5 fun cs9 =>
    (k (cs9, ((0 : Int), false)) w8)) (
    joinP (S := Int) (fun J10 =>
      iteB (kind_2 == (4 : Int)) (
        (J10 (0 : Int) w6)) (
        (J10 v_3 w6))) fun i11 w12 =>
    ldA 5 w12 a3 fun cs13 =>
    pelotonref05_is cs13 (10 : Int) w12 fun b14 w15 =>
    iteB b14 (
      drew w15 fun w16 =>
      ldA 19 w16 a1 fun cs17 =>
      ldI .i64 w16 (Addr.add a3 1) fun i18 =>
      ldI .i64 w16 (Addr.add a3 2) fun i19 =>
      pelotonref05_Task_With cs17 i18 i11 w16 fun cs20 w21 =>
      samec 1 (Addr.add a3 2) w16 w21 (
      pelotonref05_Task_With cs20 i19 (IntKind.wrap .i64 (kind_2 - (2 : Int))) w21 fun cs22 w23 =>
      pelotonref05_Task_On cs22 w23 fun cs24 w25 =>
      stA 19 w25 a5 cs24 fun w26 =>
      ldA 19 w26 a5 fun cs27 =>
      (k (cs27, ((0 : Int), false)) w26))) (
      ldA 5 w15 a3 fun cs28 =>
      pelotonref05_is cs28 (9 : Int) w15 fun b29 w30 =>
      iteB (!b29) (
        ldA 19 w30 a1 fun cs31 =>
        stA 19 w30 a5 cs31 fun w32 =>
        ldA 19 w32 a5 fun cs33 =>
        (k (cs33, ((0 : Int), false)) w32)) (
        iteB (kind_2 == (2 : Int)) (
          ldA 19 w30 a1 fun cs34 =>
          ldI .i64 w30 (Addr.add a3 1) fun i35 =>
          pelotonref05_Task_With cs34 i35 i11 w30 fun cs36 w37 =>
          pelotonref05_Task_On cs36 w37 fun cs38 w39 =>
          stA 19 w39 a5 cs38 fun w40 =>
          ldA 19 w40 a5 fun cs41 =>
          (k (cs41, ((0 : Int), false)) w40)) (
          iteB (kind_2 == (4 : Int)) (
            ldA 19 w30 a1 fun cs42 =>
            ldI .i64 w30 (Addr.add a1 1) fun i43 =>
            pelotonref05_Task_To cs42 i43 w30 fun cs44 w45 =>
            stA 19 w45 a5 cs44 fun w46 =>
            ldA 19 w46 a5 fun cs47 =>
            (k (cs47, ((-(1 : Int)), true)) w46)) (
            ldA 19 w30 a1 fun cs48 =>
            ldI .i64 w30 (Addr.add a1 1) fun i49 =>
            pelotonref05_Task_To cs48 i49 w30 fun cs50 w51 =>
            stA 19 w51 a5 cs50 fun w52 =>
            ldA 19 w52 a5 fun cs53 =>
            (k (cs53, (i11, true)) w52))))))
def d38 : Dec := fun args w c => unL [.ag, .ag, (.i .i64), (.i .i64)] args fun x => pelotonref05_Task_Joined x.1 x.2.1 x.2.2.1 x.2.2.2 w fun r w => c (packV (valL [.ag, (.i .i64), .b] r)) w
theorem s38 : Sound Go.Proofs.Try.prog 38 d38 :=
  sound_of (mask := 1130847752161084) (h := [(5, [(3, (.i .i64))])]) (ds := [(53, d53), (49, d49), (35, d35), (50, d50)]) mixed Go.Proofs.Try.func38 ⟨s53, s49, s35, s50, trivial⟩
    [.ag, .ag, (.i .i64), (.i .i64)] [.ag, (.i .i64), .b] (by kernel_rfl) (fun x w k => pelotonref05_Task_Joined x.1 x.2.1 x.2.2.1 x.2.2.2 w k) (fun x w k => by kernel_rfl)

/-- peloton/pelotonlaw05.FrameJoins -/
def pelotonlaw05_FrameJoins (f_0 : Array Value) (x_1 : Array Value) (w : World) (k : (Bool) → World → Prop) : Prop :=
  newC w f_0 48 fun a1 w2 =>
  newC w2 x_1 78 fun a3 w4 =>
  ldA 19 w4 a1 fun cs5 =>
  pelotonlaw05_usual cs5 w4 fun b6 w7 =>
  iteB (!b6) (
    pelotonlaw05_awake  w7 fun b8 w9 =>
    (k b8 w9)) (
    ldA 19 w7 a1 fun cs10 =>
    ldA 5 w7 (Addr.add a3 0) fun cs11 =>
    ldI .i64 w7 (Addr.add a3 5) fun i12 =>
    ldI .i64 w7 (Addr.add a3 6) fun i13 =>
    frame_Frame_Joined cs10 cs11 i12 i13 w7 fun x14 w15 =>
    newC w15 #[(.int .i64 (0 : Int)), (.int .i64 (0 : Int)), (.int .i64 (0 : Int)), (.int .i64 (0 : Int)), (.int .i64 (0 : Int)), (.int .i64 (0 : Int)), (.int .i64 (0 : Int)), (.int .i64 (0 : Int)), (.int .i64 (0 : Int)), (.int .i64 (0 : Int)), (.int .i64 (0 : Int)), (.int .i64 (0 : Int)), (.int .i64 (0 : Int)), (.int .i64 (0 : Int)), (.int .i64 (0 : Int)), (.int .i64 (0 : Int)), (.int .i64 (0 : Int)), (.int .i64 (0 : Int)), (.int .i64 (0 : Int))] 48 fun a16 w17 =>
    stA 19 w17 a16 x14.1 fun w18 =>
    joinP (S := (Addr × (Int × Bool))) (fun J19 =>
      drew w18 fun w20 =>
      ldA 19 w20 a1 fun cs21 =>
      ldA 5 w20 (Addr.add a3 0) fun cs22 =>
      ldI .i64 w20 (Addr.add a3 5) fun i23 =>
      ldI .i64 w20 (Addr.add a3 6) fun i24 =>
      both (
        pelotonlaw05_plain cs21 w20 fun cs25 w26 =>
        samec 1 (Addr.add a3 6) w20 w26 (
        samec 1 (Addr.add a3 5) w20 w26 (
        samec 5 (Addr.add a3 0) w20 w26 (
        both (
          pelotonref05_Task_Joined cs25 cs22 i23 i24 w26 fun x27 w28 =>
          newC w28 #[(.int .i64 (0 : Int)), (.int .i64 (0 : Int)), (.int .i64 (0 : Int)), (.int .i64 (0 : Int)), (.int .i64 (0 : Int)), (.int .i64 (0 : Int)), (.int .i64 (0 : Int)), (.int .i64 (0 : Int)), (.int .i64 (0 : Int)), (.int .i64 (0 : Int)), (.int .i64 (0 : Int)), (.int .i64 (0 : Int)), (.int .i64 (0 : Int)), (.int .i64 (0 : Int)), (.int .i64 (0 : Int)), (.int .i64 (0 : Int)), (.int .i64 (0 : Int)), (.int .i64 (0 : Int)), (.int .i64 (0 : Int))] 54 fun a29 w30 =>
          samec 1 (Addr.add a3 6) w20 w30 (
          samec 1 (Addr.add a3 5) w20 w30 (
          samec 5 (Addr.add a3 0) w20 w30 (
          samec 19 a1 w20 w30 (
          stA 19 w30 a29 x27.1 fun w31 =>
          (J19 (a29, (x27.2.1, x27.2.2)) w31)))))) (
          newC w26 #[(.int .i64 (0 : Int)), (.int .i64 (0 : Int)), (.int .i64 (0 : Int)), (.int .i64 (0 : Int)), (.int .i64 (0 : Int)), (.int .i64 (0 : Int)), (.int .i64 (0 : Int)), (.int .i64 (0 : Int)), (.int .i64 (0 : Int)), (.int .i64 (0 : Int)), (.int .i64 (0 : Int)), (.int .i64 (0 : Int)), (.int .i64 (0 : Int)), (.int .i64 (0 : Int)), (.int .i64 (0 : Int)), (.int .i64 (0 : Int)), (.int .i64 (0 : Int)), (.int .i64 (0 : Int)), (.int .i64 (0 : Int))] 54 fun a32 w33 =>
          samec 1 (Addr.add a3 6) w20 w33 (
          samec 1 (Addr.add a3 5) w20 w33 (
          samec 5 (Addr.add a3 0) w20 w33 (
          samec 19 a1 w20 w33 (
          pelotonref05_Task_Joined cs25 cs22 i23 i24 w33 fun x34 w35 =>
          stA 19 w35 a32 x34.1 fun w36 =>
          (J19 (a32, (x34.2.1, x34.2.2)) w36)))))))))) (
        newC w20 #[(.int .i64 (0 : Int)), (.int .i64 (0 : Int)), (.int .i64 (0 : Int)), (.int .i64 (0 : Int)), (.int .i64 (0 : Int)), (.int .i64 (0 : Int)), (.int .i64 (0 : Int)), (.int .i64 (0 : Int)), (.int .i64 (0 : Int)), (.int .i64 (0 : Int)), (.int .i64 (0 : Int)), (.int .i64 (0 : Int)), (.int .i64 (0 : Int)), (.int .i64 (0 : Int)), (.int .i64 (0 : Int)), (.int .i64 (0 : Int)), (.int .i64 (0 : Int)), (.int .i64 (0 : Int)), (.int .i64 (0 : Int))] 54 fun a37 w38 =>
        samec 1 (Addr.add a3 6) w20 w38 (
        samec 1 (Addr.add a3 5) w20 w38 (
        samec 5 (Addr.add a3 0) w20 w38 (
        samec 19 a1 w20 w38 (
        pelotonlaw05_plain cs21 w38 fun cs39 w40 =>
        samec 1 (Addr.add a3 6) w20 w40 (
        samec 1 (Addr.add a3 5) w20 w40 (
        samec 5 (Addr.add a3 0) w20 w40 (
        pelotonref05_Task_Joined cs39 cs22 i23 i24 w40 fun x41 w42 =>
        stA 19 w42 a37 x41.1 fun w43 =>
        (J19 (a37, (x41.2.1, x41.2.2)) w43)))))))))) fun x44 w45 =>
    ldA 19 w45 a16 fun cs46 =>
    ldA 19 w45 x44.1 fun cs47 =>
    pelotonlaw05_Same cs46 cs47 w45 fun b48 w49 =>
    iteB ((b48 && (x14.2.1 == x44.2.1)) && (x14.2.2 == x44.2.2)) (
      pelotonlaw05_awake  w49 fun b50 w51 =>
      (k b50 w51)) (
      (k false w49)))
def d12 : Dec := fun args w c => unL [.ag, .ag] args fun x => pelotonlaw05_FrameJoins x.1 x.2 w fun r w => c (packV (valL [.b] r)) w
theorem s12 : Sound Go.Proofs.Try.prog 12 d12 :=
  sound_of (mask := 10236) (h := [(5, [(8, .a), (9, (.i .i64)), (10, .b)])]) (ds := [(24, d24), (25, d25), (37, d37), (27, d27), (38, d38), (29, d29)]) mixed Go.Proofs.Try.func12 ⟨s24, s25, s37, s27, s38, s29, trivial⟩
    [.ag, .ag] [.b] (by kernel_rfl) (fun x w k => pelotonlaw05_FrameJoins x.1 x.2 w k) (fun x w k => by kernel_rfl)

/-- peloton/pelotonlaw02.Few -/
def pelotonlaw02_Few (p_0 : Array Value) (w : World) (k : (Bool) → World → Prop) : Prop :=
  newC w p_0 75 fun a1 w2 =>
  loopP (S := Int) (fun C3 i4 w5 =>
    ldS w5 (Addr.add a1 0) fun s6 =>
    iteB ((decide (i4 < ((s6.n : Nat) : Int))) && (decide (i4 < (41 : Int)))) (
      ldS w5 (Addr.add a1 0) fun s7 =>
      ixS s7 i4 2 fun a8 =>
      ldS w5 (Addr.add a8 1) fun s9 =>
      iteB (decide (((s9.n : Nat) : Int) > (140 : Int))) (
        (k false w5)) (
        (C3 (IntKind.wrap .i64 (i4 + (1 : Int))) w5))) (
      ldS w5 (Addr.add a1 0) fun s10 =>
      (k (decide (((s10.n : Nat) : Int) ≤ (40 : Int))) w5))) (0 : Int) w2
def d39 : Dec := fun args w c => unL [.ag] args fun x => pelotonlaw02_Few x w fun r w => c (packV (valL [.b] r)) w
theorem s39 : Sound Go.Proofs.Try.prog 39 d39 :=
  sound_of (mask := 4198414) (h := [(3, [(3, (.i .i64))])]) (ds := []) mixed Go.Proofs.Try.func39 trivial
    [.ag] [.b] (by kernel_rfl) (fun x w k => pelotonlaw02_Few x w k) (fun x w k => by kernel_rfl)

/-- (peloton/frame.Frame).Forked -/
def frame_Frame_Forked (f_0 : Array Value) (i_1 : Array Value) (id_2 : Int) (w : World) (k : (Array Value) → World → Prop) : Prop :=
  newC w f_0 48 fun a1 w2 =>
  newC w2 i_1 50 fun a3 w4 =>
  newC w4 #[(.int .i64 (0 : Int)), (.int .i64 (0 : Int)), (.int .i64 (0 : Int)), (.int .i64 (0 : Int)), (.int .i64 (0 : Int)), (.int .i64 (0 : Int)), (.int .i64 (0 : Int)), (.int .i64 (0 : Int)), (.int .i64 (0 : Int)), (.int .i64 (0 : Int)), (.int .i64 (0 : Int)), (.int .i64 (0 : Int)), (.int .i64 (0 : Int)), (.int .i64 (0 : Int)), (.int .i64 (0 : Int)), (.int .i64 (0 : Int)), (.int .i64 (0 : Int)), (.int .i64 (0 : Int)), (.int .i64 (0 : Int))] 48 fun a5 w6 =>
  ldA 5 w6 a3 fun cs7 =>
  frame_may cs7 (8 : Int) w6 fun b8 w9 =>
  iteB (!b8) (
    ldA 19 w9 a1 fun cs10 =>
    stA 19 w9 a5 cs10 fun w11 =>
    ldA 19 w11 a5 fun cs12 =>
    (k cs12 w11)) (
    ldI .i64 w9 (Addr.add a3 1) fun i13 =>
    ixP (Addr.add a1 10) 8 i13 1 fun a14 =>
    stC w9 a14 (.int .i64 id_2) fun w15 =>
    ldA 19 w15 a1 fun cs16 =>
    frame_Frame_Passed cs16 w15 fun cs17 w18 =>
    stA 19 w18 a5 cs17 fun w19 =>
    ldA 19 w19 a5 fun cs20 =>
    (k cs20 w19))
def d40 : Dec := fun args w c => unL [.ag, .ag, (.i .i64)] args fun x => frame_Frame_Forked x.1 x.2.1 x.2.2 w fun r w => c (packV (valL [.ag] r)) w
theorem s40 : Sound Go.Proofs.Try.prog 40 d40 :=
  sound_of (mask := 604) (h := []) (ds := [(51, d51), (34, d34)]) mixed Go.Proofs.Try.func40 ⟨s51, s34, trivial⟩
    [.ag, .ag, (.i .i64)] [.ag] (by kernel_rfl) (fun x w k => frame_Frame_Forked x.1 x.2.1 x.2.2 w k) (fun x w k => by kernel_rfl)

/-- (peloton/pelotonref05.Task).Forked -/
def pelotonref05_Task_Forked (t_0 : Array Value) (i_1 : Array Value) (id_2 : Int) (w : World) (k : (Array Value) → World → Prop) : Prop :=
  newC w t_0 54 fun a1 w2 =>
  newC w2 i_1 50 fun a3 w4 =>
  newC w4 #[(.int .i64 (0 : Int)), (.int .i64 (0 : Int)), (.int .i64 (0 : Int)), (.int .i64 (0 : Int)), (.int .i64 (0 : Int)), (.int .i64 (0 : Int)), (.int .i64 (0 : Int)), (.int .i64 (0 : Int)), (.int .i64 (0 : Int)), (.int .i64 (0 : Int)), (.int .i64 (0 : Int)), (.int .i64 (0 : Int)), (.int .i64 (0 : Int)), (.int .i64 (0 : Int)), (.int .i64 (0 : Int)), (.int .i64 (0 : Int)), (.int .i64 (0 : Int)), (.int .i64 (0 : Int)), (.int .i64 (0 : Int))] 54 fun a5 w6 =>
  ldA 5 w6 a3 fun cs7 =>
  pelotonref05_is cs7 (8 : Int) w6 fun b8 w9 =>
  iteB (!b8) (
    ldA 19 w9 a1 fun cs10 =>
    stA 19 w9 a5 cs10 fun w11 =>
    ldA 19 w11 a5 fun cs12 =>
    (k cs12 w11)) (
    ldI .i64 w9 (Addr.add a3 1) fun i13 =>
    ixP (Addr.add a1 10) 8 i13 1 fun a14 =>
    stC w9 a14 (.int .i64 id_2) fun w15 =>
    ldA 19 w15 a1 fun cs16 =>
    pelotonref05_Task_On cs16 w15 fun cs17 w18 =>
    stA 19 w18 a5 cs17 fun w19 =>
    ldA 19 w19 a5 fun cs20 =>
    (k cs20 w19))
def d41 : Dec := fun args w c => unL [.ag, .ag, (.i .i64)] args fun x => pelotonref05_Task_Forked x.1 x.2.1 x.2.2 w fun r w => c (packV (valL [.ag] r)) w
theorem s41 : Sound Go.Proofs.Try.prog 41 d41 :=
  sound_of (mask := 604) (h := []) (ds := [(53, d53), (35, d35)]) mixed Go.Proofs.Try.func41 ⟨s53, s35, trivial⟩
    [.ag, .ag, (.i .i64)] [.ag] (by kernel_rfl) (fun x w k => pelotonref05_Task_Forked x.1 x.2.1 x.2.2 w k) (fun x w k => by kernel_rfl)

/-- (peloton/pelotonref05.Task).Child -/
def pelotonref05_Task_Child (t_0 : Array Value) (n_1 : Int) (needs_2 : Int) (w : World) (k : (Array Value) → World → Prop) : Prop :=
  newC w t_0 54 fun a1 w2 =>
  newC w2 #[(.int .i64 (0 : Int)), (.int .i64 (0 : Int)), (.int .i64 (0 : Int)), (.int .i64 (0 : Int)), (.int .i64 (0 : Int)), (.int .i64 (0 : Int)), (.int .i64 (0 : Int)), (.int .i64 (0 : Int)), (.int .i64 (0 : Int)), (.int .i64 (0 : Int)), (.int .i64 (0 : Int)), (.int .i64 (0 : Int)), (.int .i64 (0 : Int)), (.int .i64 (0 : Int)), (.int .i64 (0 : Int)), (.int .i64 (0 : Int)), (.int .i64 (0 : Int)), (.int .i64 (0 : Int)), (.int .i64 (0 : Int))] 54 fun a3 w4 =>
  pelotonref05_Root  w4 fun cs5 w6 =>
  newC w6 #[(.int .i64 (0 : Int)), (.int .i64 (0 : Int)), (.int .i64 (0 : Int)), (.int .i64 (0 : Int)), (.int .i64 (0 : Int)), (.int .i64 (0 : Int)), (.int .i64 (0 : Int)), (.int .i64 (0 : Int)), (.int .i64 (0 : Int)), (.int .i64 (0 : Int)), (.int .i64 (0 : Int)), (.int .i64 (0 : Int)), (.int .i64 (0 : Int)), (.int .i64 (0 : Int)), (.int .i64 (0 : Int)), (.int .i64 (0 : Int)), (.int .i64 (0 : Int)), (.int .i64 (0 : Int)), (.int .i64 (0 : Int))] 54 fun a7 w8 =>
  stA 19 w8 a7 cs5 fun w9 =>
  stC w9 (Addr.add a7 0) (.int .i64 n_1) fun w10 =>
  ldA 8 w10 (Addr.add a1 2) fun cs11 =>
  stA 8 w10 (Addr.add a7 2) cs11 fun w12 =>
  loopP (S := Int) (fun C13 i14 w15 =>
    iteB (decide (i14 < (8 : Int))) (
      shrI .i64 needs_2 (IntKind.wrap .u64 i14) fun i16 =>
      iteB ((andI .i64 i16 (1 : Int)) == (1 : Int)) (
        ixP (Addr.add a1 10) 8 i14 1 fun a17 =>
        ldI .i64 w15 a17 fun i18 =>
        ixP (Addr.add a7 10) 8 i14 1 fun a19 =>
        stC w15 a19 (.int .i64 i18) fun w20 =>
        (C13 (IntKind.wrap .i64 (i14 + (1 : Int))) w20)) (
        (C13 (IntKind.wrap .i64 (i14 + (1 : Int))) w15))) (
      ldA 19 w15 a7 fun cs21 =>
      stA 19 w15 a3 cs21 fun w22 =>
      ldA 19 w22 a3 fun cs23 =>
      (k cs23 w22))) (0 : Int) w12
def d43 : Dec := fun args w c => unL [.ag, (.i .i64), (.i .i64)] args fun x => pelotonref05_Task_Child x.1 x.2.1 x.2.2 w fun r w => c (packV (valL [.ag] r)) w
theorem s43 : Sound Go.Proofs.Try.prog 43 d43 :=
  sound_of (mask := 16843214) (h := [(6, [(8, (.i .i64))])]) (ds := [(31, d31)]) mixed Go.Proofs.Try.func43 ⟨s31, trivial⟩
    [.ag, (.i .i64), (.i .i64)] [.ag] (by kernel_rfl) (fun x w k => pelotonref05_Task_Child x.1 x.2.1 x.2.2 w k) (fun x w k => by kernel_rfl)

/-- peloton/pelotonlaw05.FrameForks -/
def pelotonlaw05_FrameForks (f_0 : Array Value) (p_1 : Array Value) (x_2 : Array Value) (w : World) (k : (Bool) → World → Prop) : Prop :=
  newC w f_0 48 fun a1 w2 =>
  newC w2 p_1 75 fun a3 w4 =>
  newC w4 x_2 85 fun a5 w6 =>
  joinP (S := Bool) (fun J7 =>
    ldA 19 w6 a1 fun cs8 =>
    pelotonlaw05_usual cs8 w6 fun b9 w10 =>
    iteB (!b9) (
      (J7 true w10)) (
      ldA 1 w10 a3 fun cs11 =>
      pelotonlaw02_Few cs11 w10 fun b12 w13 =>
      (J7 (!b12) w13))) fun b14 w15 =>
  iteB b14 (
    pelotonlaw05_awake  w15 fun b16 w17 =>
    (k b16 w17)) (
    ldA 19 w15 a1 fun cs18 =>
    ldA 1 w15 a3 fun cs19 =>
    ldA 5 w15 (Addr.add a5 0) fun cs20 =>
    frame_Frame_Child cs18 cs19 cs20 w15 fun x21 w22 =>
    newC w22 #[(.int .i64 (0 : Int)), (.int .i64 (0 : Int)), (.int .i64 (0 : Int)), (.int .i64 (0 : Int)), (.int .i64 (0 : Int)), (.int .i64 (0 : Int)), (.int .i64 (0 : Int)), (.int .i64 (0 : Int)), (.int .i64 (0 : Int)), (.int .i64 (0 : Int)), (.int .i64 (0 : Int)), (.int .i64 (0 : Int)), (.int .i64 (0 : Int)), (.int .i64 (0 : Int)), (.int .i64 (0 : Int)), (.int .i64 (0 : Int)), (.int .i64 (0 : Int)), (.int .i64 (0 : Int)), (.int .i64 (0 : Int))] 48 fun a23 w24 =>
    stA 19 w24 a23 x21.1 fun w25 =>
    drew w25 fun w26 =>
    ldA 19 w26 a1 fun cs27 =>
    ldA 5 w26 (Addr.add a5 0) fun cs28 =>
    ldI .i64 w26 (Addr.add a5 5) fun i29 =>
    ldA 19 w26 a1 fun cs30 =>
    ldA 5 w26 (Addr.add a5 0) fun cs31 =>
    ldI .i64 w26 (Addr.add a5 5) fun i32 =>
    frame_Frame_Forked cs27 cs28 i29 w26 fun cs33 w34 =>
    samec 1 (Addr.add a5 5) w26 w34 (
    samec 5 (Addr.add a5 0) w26 w34 (
    samec 19 a1 w26 w34 (
    pelotonlaw05_plain cs30 w34 fun cs35 w36 =>
    samec 1 (Addr.add a5 5) w26 w36 (
    samec 5 (Addr.add a5 0) w26 w36 (
    pelotonref05_Task_Forked cs35 cs31 i32 w36 fun cs37 w38 =>
    pelotonlaw05_Same cs33 cs37 w38 fun b39 w40 =>
    iteB (!b39) (
      (k false w40)) (
      joinP (S := Bool) (fun J41 =>
        ldI .i64 w40 (Addr.add (Addr.add a5 0) 0) fun i42 =>
        iteB (i42 != (8 : Int)) (
          (J41 true w40)) (
          ldA 5 w40 (Addr.add a5 0) fun cs43 =>
          pelotonref02_Check cs43 w40 fun i44 w45 =>
          (J41 (i44 != (0 : Int)) w45))) fun b46 w47 =>
      iteB b46 (
        iteB (x21.2 == (1 : Int)) (
          pelotonlaw05_awake  w47 fun b48 w49 =>
          (k b48 w49)) (
          (k false w47))) (
        ldI .i64 w47 (Addr.add (Addr.add a5 0) 4) fun i50 =>
        ldS w47 (Addr.add a3 0) fun s51 =>
        iteB (decide (i50 ≥ ((s51.n : Nat) : Int))) (
          iteB (x21.2 == (17 : Int)) (
            pelotonlaw05_awake  w47 fun b52 w53 =>
            (k b52 w53)) (
            (k false w47))) (
          drew w47 fun w54 =>
          iteB (x21.2 == (0 : Int)) (
            ldA 19 w54 a23 fun cs55 =>
            ldA 19 w54 a1 fun cs56 =>
            ldI .i64 w54 (Addr.add (Addr.add a5 0) 4) fun i57 =>
            ldS w54 (Addr.add a3 0) fun s58 =>
            ldI .i64 w54 (Addr.add (Addr.add a5 0) 4) fun i59 =>
            ixS s58 i59 2 fun a60 =>
            ldI .i64 w54 (Addr.add a60 0) fun i61 =>
            pelotonlaw05_plain cs56 w54 fun cs62 w63 =>
            samec 1 (Addr.add a60 0) w54 w63 (
            samec 1 (Addr.add (Addr.add a5 0) 4) w54 w63 (
            samec 1 (Addr.add a3 0) w54 w63 (
            samec 1 (Addr.add (Addr.add a5 0) 4) w54 w63 (
            samec 19 a23 w54 w63 (
            pelotonref05_Task_Child cs62 i57 i61 w63 fun cs64 w65 =>
            samec 19 a23 w54 w65 (
            pelotonlaw05_Same cs55 cs64 w65 fun b66 w67 =>
            iteB b66 (
              pelotonlaw05_awake  w67 fun b68 w69 =>
              (k b68 w69)) (
              (k false w67))))))))) (
            (k false w54)))))))))))
def d13 : Dec := fun args w c => unL [.ag, .ag, .ag] args fun x => pelotonlaw05_FrameForks x.1 x.2.1 x.2.2 w fun r w => c (packV (valL [.b] r)) w
theorem s13 : Sound Go.Proofs.Try.prog 13 d13 :=
  sound_of (mask := 4612813017845924344) (h := [(1, [(16, .b)]), (8, [(50, .b)])]) (ds := [(24, d24), (39, d39), (25, d25), (36, d36), (40, d40), (27, d27), (41, d41), (29, d29), (42, d42), (43, d43)]) mixed Go.Proofs.Try.func13 ⟨s24, s39, s25, s36, s40, s27, s41, s29, s42, s43, trivial⟩
    [.ag, .ag, .ag] [.b] (by kernel_rfl) (fun x w k => pelotonlaw05_FrameForks x.1 x.2.1 x.2.2 w k) (fun x w k => by kernel_rfl)

/-- peloton/pelotonlaw05.turned -/
def pelotonlaw05_turned (f_0 : Array Value) (g_1 : Array Value) (w : World) (k : (Int × Int) → World → Prop) : Prop :=
  newC w f_0 48 fun a1 w2 =>
  newC w2 g_1 48 fun a3 w4 =>
  loopP (S := (Int × (Int × Int))) (fun C5 x6 w7 =>
    iteB (decide (x6.2.2 < (8 : Int))) (
      drew w7 fun w8 =>
      ixP (Addr.add a1 2) 8 x6.2.2 1 fun a9 =>
      ldI .i64 w8 a9 fun i10 =>
      ixP (Addr.add a3 2) 8 x6.2.2 1 fun a11 =>
      ldI .i64 w8 a11 fun i12 =>
      joinP (S := Int) (fun J13 =>
        iteB (i10 != i12) (
          (J13 (IntKind.wrap .i64 (x6.1 + (1 : Int))) w8)) (
          (J13 x6.1 w8))) fun i14 w15 =>
      drew w15 fun w16 =>
      ixP (Addr.add a1 10) 8 x6.2.2 1 fun a17 =>
      ldI .i64 w16 a17 fun i18 =>
      ixP (Addr.add a3 10) 8 x6.2.2 1 fun a19 =>
      ldI .i64 w16 a19 fun i20 =>
      iteB (i18 != i20) (
        (C5 (i14, ((IntKind.wrap .i64 (x6.2.1 + (1 : Int))), (IntKind.wrap .i64 (x6.2.2 + (1 : Int))))) w16)) (
        (C5 (i14, (x6.2.1, (IntKind.wrap .i64 (x6.2.2 + (1 : Int))))) w16))) (
      (k (x6.1, x6.2.1) w7))) ((0 : Int), ((0 : Int), (0 : Int))) w4
def d44 : Dec := fun args w c => unL [.ag, .ag] args fun x => pelotonlaw05_turned x.1 x.2 w fun r w => c (packV (valL [(.i .i64), (.i .i64)] r)) w
theorem s44 : Sound Go.Proofs.Try.prog 44 d44 :=
  sound_of (mask := 4297065980) (h := [(5, [(6, (.i .i64)), (7, (.i .i64)), (8, (.i .i64))]), (10, [(6, (.i .i64))])]) (ds := []) mixed Go.Proofs.Try.func44 trivial
    [.ag, .ag] [(.i .i64), (.i .i64)] (by kernel_rfl) (fun x w k => pelotonlaw05_turned x.1 x.2 w k) (fun x w k => by kernel_rfl)

/-- peloton/pelotonlaw05.FrameSteps -/
def pelotonlaw05_FrameSteps (f_0 : Array Value) (x_1 : Array Value) (w : World) (k : (Bool) → World → Prop) : Prop :=
  newC w f_0 48 fun a1 w2 =>
  newC w2 x_1 78 fun a3 w4 =>
  ldA 19 w4 a1 fun cs5 =>
  pelotonlaw05_usual cs5 w4 fun b6 w7 =>
  iteB (!b6) (
    pelotonlaw05_awake  w7 fun b8 w9 =>
    (k b8 w9)) (
    ldA 19 w7 a1 fun cs10 =>
    ldA 5 w7 (Addr.add a3 0) fun cs11 =>
    frame_Frame_Plain cs10 cs11 w7 fun x12 w13 =>
    newC w13 #[(.int .i64 (0 : Int)), (.int .i64 (0 : Int)), (.int .i64 (0 : Int)), (.int .i64 (0 : Int)), (.int .i64 (0 : Int)), (.int .i64 (0 : Int)), (.int .i64 (0 : Int)), (.int .i64 (0 : Int)), (.int .i64 (0 : Int)), (.int .i64 (0 : Int)), (.int .i64 (0 : Int)), (.int .i64 (0 : Int)), (.int .i64 (0 : Int)), (.int .i64 (0 : Int)), (.int .i64 (0 : Int)), (.int .i64 (0 : Int)), (.int .i64 (0 : Int)), (.int .i64 (0 : Int)), (.int .i64 (0 : Int))] 48 fun a14 w15 =>
    stA 19 w15 a14 x12.1 fun w16 =>
    ldA 19 w16 a1 fun cs17 =>
    ldA 5 w16 (Addr.add a3 0) fun cs18 =>
    ldI .i64 w16 (Addr.add a3 5) fun i19 =>
    ldI .i64 w16 (Addr.add a3 6) fun i20 =>
    frame_Frame_Joined cs17 cs18 i19 i20 w16 fun x21 w22 =>
    newC w22 #[(.int .i64 (0 : Int)), (.int .i64 (0 : Int)), (.int .i64 (0 : Int)), (.int .i64 (0 : Int)), (.int .i64 (0 : Int)), (.int .i64 (0 : Int)), (.int .i64 (0 : Int)), (.int .i64 (0 : Int)), (.int .i64 (0 : Int)), (.int .i64 (0 : Int)), (.int .i64 (0 : Int)), (.int .i64 (0 : Int)), (.int .i64 (0 : Int)), (.int .i64 (0 : Int)), (.int .i64 (0 : Int)), (.int .i64 (0 : Int)), (.int .i64 (0 : Int)), (.int .i64 (0 : Int)), (.int .i64 (0 : Int))] 48 fun a23 w24 =>
    stA 19 w24 a23 x21.1 fun w25 =>
    joinP (S := Addr) (fun J26 =>
      drew w25 fun w27 =>
      ldA 19 w27 a14 fun cs28 =>
      ldA 19 w27 a23 fun cs29 =>
      ldA 19 w27 a1 fun cs30 =>
      ldA 5 w27 (Addr.add a3 0) fun cs31 =>
      ldI .i64 w27 (Addr.add a3 6) fun i32 =>
      ldA 19 w27 a1 fun cs33 =>
      ldA 5 w27 (Addr.add a3 0) fun cs34 =>
      ldI .i64 w27 (Addr.add a3 5) fun i35 =>
      both (
        frame_Frame_Closed cs30 cs31 (decide (i32 > (0 : Int))) w27 fun cs36 w37 =>
        samec 1 (Addr.add a3 5) w27 w37 (
        samec 5 (Addr.add a3 0) w27 w37 (
        samec 19 a1 w27 w37 (
        samec 19 a23 w27 w37 (
        samec 19 a14 w27 w37 (
        both (
          frame_Frame_Forked cs33 cs34 i35 w37 fun cs38 w39 =>
          samec 19 a23 w27 w39 (
          samec 19 a14 w27 w39 (
          both (
            spl #[(.int .i64 (0 : Int)), (.int .i64 (0 : Int)), (.int .i64 (0 : Int)), (.int .i64 (0 : Int)), (.int .i64 (0 : Int)), (.int .i64 (0 : Int)), (.int .i64 (0 : Int)), (.int .i64 (0 : Int)), (.int .i64 (0 : Int)), (.int .i64 (0 : Int)), (.int .i64 (0 : Int)), (.int .i64 (0 : Int)), (.int .i64 (0 : Int)), (.int .i64 (0 : Int)), (.int .i64 (0 : Int)), (.int .i64 (0 : Int)), (.int .i64 (0 : Int)), (.int .i64 (0 : Int)), (.int .i64 (0 : Int)), (.int .i64 (0 : Int)), (.int .i64 (0 : Int)), (.int .i64 (0 : Int)), (.int .i64 (0 : Int)), (.int .i64 (0 : Int)), (.int .i64 (0 : Int)), (.int .i64 (0 : Int)), (.int .i64 (0 : Int)), (.int .i64 (0 : Int)), (.int .i64 (0 : Int)), (.int .i64 (0 : Int)), (.int .i64 (0 : Int)), (.int .i64 (0 : Int)), (.int .i64 (0 : Int)), (.int .i64 (0 : Int)), (.int .i64 (0 : Int)), (.int .i64 (0 : Int)), (.int .i64 (0 : Int)), (.int .i64 (0 : Int)), (.int .i64 (0 : Int)), (.int .i64 (0 : Int)), (.int .i64 (0 : Int)), (.int .i64 (0 : Int)), (.int .i64 (0 : Int)), (.int .i64 (0 : Int)), (.int .i64 (0 : Int)), (.int .i64 (0 : Int)), (.int .i64 (0 : Int)), (.int .i64 (0 : Int)), (.int .i64 (0 : Int)), (.int .i64 (0 : Int)), (.int .i64 (0 : Int)), (.int .i64 (0 : Int)), (.int .i64 (0 : Int)), (.int .i64 (0 : Int)), (.int .i64 (0 : Int)), (.int .i64 (0 : Int)), (.int .i64 (0 : Int)), (.int .i64 (0 : Int)), (.int .i64 (0 : Int)), (.int .i64 (0 : Int)), (.int .i64 (0 : Int)), (.int .i64 (0 : Int)), (.int .i64 (0 : Int)), (.int .i64 (0 : Int)), (.int .i64 (0 : Int)), (.int .i64 (0 : Int)), (.int .i64 (0 : Int)), (.int .i64 (0 : Int)), (.int .i64 (0 : Int)), (.int .i64 (0 : Int)), (.int .i64 (0 : Int)), (.int .i64 (0 : Int)), (.int .i64 (0 : Int)), (.int .i64 (0 : Int)), (.int .i64 (0 : Int)), (.int .i64 (0 : Int))] 0 19 cs28 fun cs40 =>
            spl cs40 19 19 cs29 fun cs41 =>
            spl cs41 38 19 cs36 fun cs42 =>
            spl cs42 57 19 cs38 fun cs43 =>
            newC w39 #[(.int .i64 (0 : Int)), (.int .i64 (0 : Int)), (.int .i64 (0 : Int)), (.int .i64 (0 : Int)), (.int .i64 (0 : Int)), (.int .i64 (0 : Int)), (.int .i64 (0 : Int)), (.int .i64 (0 : Int)), (.int .i64 (0 : Int)), (.int .i64 (0 : Int)), (.int .i64 (0 : Int)), (.int .i64 (0 : Int)), (.int .i64 (0 : Int)), (.int .i64 (0 : Int)), (.int .i64 (0 : Int)), (.int .i64 (0 : Int)), (.int .i64 (0 : Int)), (.int .i64 (0 : Int)), (.int .i64 (0 : Int)), (.int .i64 (0 : Int)), (.int .i64 (0 : Int)), (.int .i64 (0 : Int)), (.int .i64 (0 : Int)), (.int .i64 (0 : Int)), (.int .i64 (0 : Int)), (.int .i64 (0 : Int)), (.int .i64 (0 : Int)), (.int .i64 (0 : Int)), (.int .i64 (0 : Int)), (.int .i64 (0 : Int)), (.int .i64 (0 : Int)), (.int .i64 (0 : Int)), (.int .i64 (0 : Int)), (.int .i64 (0 : Int)), (.int .i64 (0 : Int)), (.int .i64 (0 : Int)), (.int .i64 (0 : Int)), (.int .i64 (0 : Int)), (.int .i64 (0 : Int)), (.int .i64 (0 : Int)), (.int .i64 (0 : Int)), (.int .i64 (0 : Int)), (.int .i64 (0 : Int)), (.int .i64 (0 : Int)), (.int .i64 (0 : Int)), (.int .i64 (0 : Int)), (.int .i64 (0 : Int)), (.int .i64 (0 : Int)), (.int .i64 (0 : Int)), (.int .i64 (0 : Int)), (.int .i64 (0 : Int)), (.int .i64 (0 : Int)), (.int .i64 (0 : Int)), (.int .i64 (0 : Int)), (.int .i64 (0 : Int)), (.int .i64 (0 : Int)), (.int .i64 (0 : Int)), (.int .i64 (0 : Int)), (.int .i64 (0 : Int)), (.int .i64 (0 : Int)), (.int .i64 (0 : Int)), (.int .i64 (0 : Int)), (.int .i64 (0 : Int)), (.int .i64 (0 : Int)), (.int .i64 (0 : Int)), (.int .i64 (0 : Int)), (.int .i64 (0 : Int)), (.int .i64 (0 : Int)), (.int .i64 (0 : Int)), (.int .i64 (0 : Int)), (.int .i64 (0 : Int)), (.int .i64 (0 : Int)), (.int .i64 (0 : Int)), (.int .i64 (0 : Int)), (.int .i64 (0 : Int)), (.int .i64 (0 : Int))] 92 fun a44 w45 =>
            samec 1 (Addr.add a3 5) w27 w45 (
            samec 5 (Addr.add a3 0) w27 w45 (
            samec 19 a1 w27 w45 (
            samec 1 (Addr.add a3 6) w27 w45 (
            samec 5 (Addr.add a3 0) w27 w45 (
            samec 19 a1 w27 w45 (
            samec 19 a23 w27 w45 (
            samec 19 a14 w27 w45 (
            stA 76 w45 a44 cs43 fun w46 =>
            (J26 a44 w46)))))))))) (
            newC w39 #[(.int .i64 (0 : Int)), (.int .i64 (0 : Int)), (.int .i64 (0 : Int)), (.int .i64 (0 : Int)), (.int .i64 (0 : Int)), (.int .i64 (0 : Int)), (.int .i64 (0 : Int)), (.int .i64 (0 : Int)), (.int .i64 (0 : Int)), (.int .i64 (0 : Int)), (.int .i64 (0 : Int)), (.int .i64 (0 : Int)), (.int .i64 (0 : Int)), (.int .i64 (0 : Int)), (.int .i64 (0 : Int)), (.int .i64 (0 : Int)), (.int .i64 (0 : Int)), (.int .i64 (0 : Int)), (.int .i64 (0 : Int)), (.int .i64 (0 : Int)), (.int .i64 (0 : Int)), (.int .i64 (0 : Int)), (.int .i64 (0 : Int)), (.int .i64 (0 : Int)), (.int .i64 (0 : Int)), (.int .i64 (0 : Int)), (.int .i64 (0 : Int)), (.int .i64 (0 : Int)), (.int .i64 (0 : Int)), (.int .i64 (0 : Int)), (.int .i64 (0 : Int)), (.int .i64 (0 : Int)), (.int .i64 (0 : Int)), (.int .i64 (0 : Int)), (.int .i64 (0 : Int)), (.int .i64 (0 : Int)), (.int .i64 (0 : Int)), (.int .i64 (0 : Int)), (.int .i64 (0 : Int)), (.int .i64 (0 : Int)), (.int .i64 (0 : Int)), (.int .i64 (0 : Int)), (.int .i64 (0 : Int)), (.int .i64 (0 : Int)), (.int .i64 (0 : Int)), (.int .i64 (0 : Int)), (.int .i64 (0 : Int)), (.int .i64 (0 : Int)), (.int .i64 (0 : Int)), (.int .i64 (0 : Int)), (.int .i64 (0 : Int)), (.int .i64 (0 : Int)), (.int .i64 (0 : Int)), (.int .i64 (0 : Int)), (.int .i64 (0 : Int)), (.int .i64 (0 : Int)), (.int .i64 (0 : Int)), (.int .i64 (0 : Int)), (.int .i64 (0 : Int)), (.int .i64 (0 : Int)), (.int .i64 (0 : Int)), (.int .i64 (0 : Int)), (.int .i64 (0 : Int)), (.int .i64 (0 : Int)), (.int .i64 (0 : Int)), (.int .i64 (0 : Int)), (.int .i64 (0 : Int)), (.int .i64 (0 : Int)), (.int .i64 (0 : Int)), (.int .i64 (0 : Int)), (.int .i64 (0 : Int)), (.int .i64 (0 : Int)), (.int .i64 (0 : Int)), (.int .i64 (0 : Int)), (.int .i64 (0 : Int)), (.int .i64 (0 : Int))] 92 fun a47 w48 =>
            samec 1 (Addr.add a3 5) w27 w48 (
            samec 5 (Addr.add a3 0) w27 w48 (
            samec 19 a1 w27 w48 (
            samec 1 (Addr.add a3 6) w27 w48 (
            samec 5 (Addr.add a3 0) w27 w48 (
            samec 19 a1 w27 w48 (
            samec 19 a23 w27 w48 (
            samec 19 a14 w27 w48 (
            spl #[(.int .i64 (0 : Int)), (.int .i64 (0 : Int)), (.int .i64 (0 : Int)), (.int .i64 (0 : Int)), (.int .i64 (0 : Int)), (.int .i64 (0 : Int)), (.int .i64 (0 : Int)), (.int .i64 (0 : Int)), (.int .i64 (0 : Int)), (.int .i64 (0 : Int)), (.int .i64 (0 : Int)), (.int .i64 (0 : Int)), (.int .i64 (0 : Int)), (.int .i64 (0 : Int)), (.int .i64 (0 : Int)), (.int .i64 (0 : Int)), (.int .i64 (0 : Int)), (.int .i64 (0 : Int)), (.int .i64 (0 : Int)), (.int .i64 (0 : Int)), (.int .i64 (0 : Int)), (.int .i64 (0 : Int)), (.int .i64 (0 : Int)), (.int .i64 (0 : Int)), (.int .i64 (0 : Int)), (.int .i64 (0 : Int)), (.int .i64 (0 : Int)), (.int .i64 (0 : Int)), (.int .i64 (0 : Int)), (.int .i64 (0 : Int)), (.int .i64 (0 : Int)), (.int .i64 (0 : Int)), (.int .i64 (0 : Int)), (.int .i64 (0 : Int)), (.int .i64 (0 : Int)), (.int .i64 (0 : Int)), (.int .i64 (0 : Int)), (.int .i64 (0 : Int)), (.int .i64 (0 : Int)), (.int .i64 (0 : Int)), (.int .i64 (0 : Int)), (.int .i64 (0 : Int)), (.int .i64 (0 : Int)), (.int .i64 (0 : Int)), (.int .i64 (0 : Int)), (.int .i64 (0 : Int)), (.int .i64 (0 : Int)), (.int .i64 (0 : Int)), (.int .i64 (0 : Int)), (.int .i64 (0 : Int)), (.int .i64 (0 : Int)), (.int .i64 (0 : Int)), (.int .i64 (0 : Int)), (.int .i64 (0 : Int)), (.int .i64 (0 : Int)), (.int .i64 (0 : Int)), (.int .i64 (0 : Int)), (.int .i64 (0 : Int)), (.int .i64 (0 : Int)), (.int .i64 (0 : Int)), (.int .i64 (0 : Int)), (.int .i64 (0 : Int)), (.int .i64 (0 : Int)), (.int .i64 (0 : Int)), (.int .i64 (0 : Int)), (.int .i64 (0 : Int)), (.int .i64 (0 : Int)), (.int .i64 (0 : Int)), (.int .i64 (0 : Int)), (.int .i64 (0 : Int)), (.int .i64 (0 : Int)), (.int .i64 (0 : Int)), (.int .i64 (0 : Int)), (.int .i64 (0 : Int)), (.int .i64 (0 : Int)), (.int .i64 (0 : Int))] 0 19 cs28 fun cs49 =>
            spl cs49 19 19 cs29 fun cs50 =>
            spl cs50 38 19 cs36 fun cs51 =>
            spl cs51 57 19 cs38 fun cs52 =>
            stA 76 w48 a47 cs52 fun w53 =>
            (J26 a47 w53))))))))))))) (
          newC w37 #[(.int .i64 (0 : Int)), (.int .i64 (0 : Int)), (.int .i64 (0 : Int)), (.int .i64 (0 : Int)), (.int .i64 (0 : Int)), (.int .i64 (0 : Int)), (.int .i64 (0 : Int)), (.int .i64 (0 : Int)), (.int .i64 (0 : Int)), (.int .i64 (0 : Int)), (.int .i64 (0 : Int)), (.int .i64 (0 : Int)), (.int .i64 (0 : Int)), (.int .i64 (0 : Int)), (.int .i64 (0 : Int)), (.int .i64 (0 : Int)), (.int .i64 (0 : Int)), (.int .i64 (0 : Int)), (.int .i64 (0 : Int)), (.int .i64 (0 : Int)), (.int .i64 (0 : Int)), (.int .i64 (0 : Int)), (.int .i64 (0 : Int)), (.int .i64 (0 : Int)), (.int .i64 (0 : Int)), (.int .i64 (0 : Int)), (.int .i64 (0 : Int)), (.int .i64 (0 : Int)), (.int .i64 (0 : Int)), (.int .i64 (0 : Int)), (.int .i64 (0 : Int)), (.int .i64 (0 : Int)), (.int .i64 (0 : Int)), (.int .i64 (0 : Int)), (.int .i64 (0 : Int)), (.int .i64 (0 : Int)), (.int .i64 (0 : Int)), (.int .i64 (0 : Int)), (.int .i64 (0 : Int)), (.int .i64 (0 : Int)), (.int .i64 (0 : Int)), (.int .i64 (0 : Int)), (.int .i64 (0 : Int)), (.int .i64 (0 : Int)), (.int .i64 (0 : Int)), (.int .i64 (0 : Int)), (.int .i64 (0 : Int)), (.int .i64 (0 : Int)), (.int .i64 (0 : Int)), (.int .i64 (0 : Int)), (.int .i64 (0 : Int)), (.int .i64 (0 : Int)), (.int .i64 (0 : Int)), (.int .i64 (0 : Int)), (.int .i64 (0 : Int)), (.int .i64 (0 : Int)), (.int .i64 (0 : Int)), (.int .i64 (0 : Int)), (.int .i64 (0 : Int)), (.int .i64 (0 : Int)), (.int .i64 (0 : Int)), (.int .i64 (0 : Int)), (.int .i64 (0 : Int)), (.int .i64 (0 : Int)), (.int .i64 (0 : Int)), (.int .i64 (0 : Int)), (.int .i64 (0 : Int)), (.int .i64 (0 : Int)), (.int .i64 (0 : Int)), (.int .i64 (0 : Int)), (.int .i64 (0 : Int)), (.int .i64 (0 : Int)), (.int .i64 (0 : Int)), (.int .i64 (0 : Int)), (.int .i64 (0 : Int)), (.int .i64 (0 : Int))] 92 fun a54 w55 =>
          samec 1 (Addr.add a3 5) w27 w55 (
          samec 5 (Addr.add a3 0) w27 w55 (
          samec 19 a1 w27 w55 (
          samec 1 (Addr.add a3 6) w27 w55 (
          samec 5 (Addr.add a3 0) w27 w55 (
          samec 19 a1 w27 w55 (
          samec 19 a23 w27 w55 (
          samec 19 a14 w27 w55 (
          frame_Frame_Forked cs33 cs34 i35 w55 fun cs56 w57 =>
          samec 19 a23 w27 w57 (
          samec 19 a14 w27 w57 (
          spl #[(.int .i64 (0 : Int)), (.int .i64 (0 : Int)), (.int .i64 (0 : Int)), (.int .i64 (0 : Int)), (.int .i64 (0 : Int)), (.int .i64 (0 : Int)), (.int .i64 (0 : Int)), (.int .i64 (0 : Int)), (.int .i64 (0 : Int)), (.int .i64 (0 : Int)), (.int .i64 (0 : Int)), (.int .i64 (0 : Int)), (.int .i64 (0 : Int)), (.int .i64 (0 : Int)), (.int .i64 (0 : Int)), (.int .i64 (0 : Int)), (.int .i64 (0 : Int)), (.int .i64 (0 : Int)), (.int .i64 (0 : Int)), (.int .i64 (0 : Int)), (.int .i64 (0 : Int)), (.int .i64 (0 : Int)), (.int .i64 (0 : Int)), (.int .i64 (0 : Int)), (.int .i64 (0 : Int)), (.int .i64 (0 : Int)), (.int .i64 (0 : Int)), (.int .i64 (0 : Int)), (.int .i64 (0 : Int)), (.int .i64 (0 : Int)), (.int .i64 (0 : Int)), (.int .i64 (0 : Int)), (.int .i64 (0 : Int)), (.int .i64 (0 : Int)), (.int .i64 (0 : Int)), (.int .i64 (0 : Int)), (.int .i64 (0 : Int)), (.int .i64 (0 : Int)), (.int .i64 (0 : Int)), (.int .i64 (0 : Int)), (.int .i64 (0 : Int)), (.int .i64 (0 : Int)), (.int .i64 (0 : Int)), (.int .i64 (0 : Int)), (.int .i64 (0 : Int)), (.int .i64 (0 : Int)), (.int .i64 (0 : Int)), (.int .i64 (0 : Int)), (.int .i64 (0 : Int)), (.int .i64 (0 : Int)), (.int .i64 (0 : Int)), (.int .i64 (0 : Int)), (.int .i64 (0 : Int)), (.int .i64 (0 : Int)), (.int .i64 (0 : Int)), (.int .i64 (0 : Int)), (.int .i64 (0 : Int)), (.int .i64 (0 : Int)), (.int .i64 (0 : Int)), (.int .i64 (0 : Int)), (.int .i64 (0 : Int)), (.int .i64 (0 : Int)), (.int .i64 (0 : Int)), (.int .i64 (0 : Int)), (.int .i64 (0 : Int)), (.int .i64 (0 : Int)), (.int .i64 (0 : Int)), (.int .i64 (0 : Int)), (.int .i64 (0 : Int)), (.int .i64 (0 : Int)), (.int .i64 (0 : Int)), (.int .i64 (0 : Int)), (.int .i64 (0 : Int)), (.int .i64 (0 : Int)), (.int .i64 (0 : Int)), (.int .i64 (0 : Int))] 0 19 cs28 fun cs58 =>
          spl cs58 19 19 cs29 fun cs59 =>
          spl cs59 38 19 cs36 fun cs60 =>
          spl cs60 57 19 cs56 fun cs61 =>
          stA 76 w57 a54 cs61 fun w62 =>
          (J26 a54 w62)))))))))))))))))) (
        newC w27 #[(.int .i64 (0 : Int)), (.int .i64 (0 : Int)), (.int .i64 (0 : Int)), (.int .i64 (0 : Int)), (.int .i64 (0 : Int)), (.int .i64 (0 : Int)), (.int .i64 (0 : Int)), (.int .i64 (0 : Int)), (.int .i64 (0 : Int)), (.int .i64 (0 : Int)), (.int .i64 (0 : Int)), (.int .i64 (0 : Int)), (.int .i64 (0 : Int)), (.int .i64 (0 : Int)), (.int .i64 (0 : Int)), (.int .i64 (0 : Int)), (.int .i64 (0 : Int)), (.int .i64 (0 : Int)), (.int .i64 (0 : Int)), (.int .i64 (0 : Int)), (.int .i64 (0 : Int)), (.int .i64 (0 : Int)), (.int .i64 (0 : Int)), (.int .i64 (0 : Int)), (.int .i64 (0 : Int)), (.int .i64 (0 : Int)), (.int .i64 (0 : Int)), (.int .i64 (0 : Int)), (.int .i64 (0 : Int)), (.int .i64 (0 : Int)), (.int .i64 (0 : Int)), (.int .i64 (0 : Int)), (.int .i64 (0 : Int)), (.int .i64 (0 : Int)), (.int .i64 (0 : Int)), (.int .i64 (0 : Int)), (.int .i64 (0 : Int)), (.int .i64 (0 : Int)), (.int .i64 (0 : Int)), (.int .i64 (0 : Int)), (.int .i64 (0 : Int)), (.int .i64 (0 : Int)), (.int .i64 (0 : Int)), (.int .i64 (0 : Int)), (.int .i64 (0 : Int)), (.int .i64 (0 : Int)), (.int .i64 (0 : Int)), (.int .i64 (0 : Int)), (.int .i64 (0 : Int)), (.int .i64 (0 : Int)), (.int .i64 (0 : Int)), (.int .i64 (0 : Int)), (.int .i64 (0 : Int)), (.int .i64 (0 : Int)), (.int .i64 (0 : Int)), (.int .i64 (0 : Int)), (.int .i64 (0 : Int)), (.int .i64 (0 : Int)), (.int .i64 (0 : Int)), (.int .i64 (0 : Int)), (.int .i64 (0 : Int)), (.int .i64 (0 : Int)), (.int .i64 (0 : Int)), (.int .i64 (0 : Int)), (.int .i64 (0 : Int)), (.int .i64 (0 : Int)), (.int .i64 (0 : Int)), (.int .i64 (0 : Int)), (.int .i64 (0 : Int)), (.int .i64 (0 : Int)), (.int .i64 (0 : Int)), (.int .i64 (0 : Int)), (.int .i64 (0 : Int)), (.int .i64 (0 : Int)), (.int .i64 (0 : Int)), (.int .i64 (0 : Int))] 92 fun a63 w64 =>
        samec 1 (Addr.add a3 5) w27 w64 (
        samec 5 (Addr.add a3 0) w27 w64 (
        samec 19 a1 w27 w64 (
        samec 1 (Addr.add a3 6) w27 w64 (
        samec 5 (Addr.add a3 0) w27 w64 (
        samec 19 a1 w27 w64 (
        samec 19 a23 w27 w64 (
        samec 19 a14 w27 w64 (
        frame_Frame_Closed cs30 cs31 (decide (i32 > (0 : Int))) w64 fun cs65 w66 =>
        samec 1 (Addr.add a3 5) w27 w66 (
        samec 5 (Addr.add a3 0) w27 w66 (
        samec 19 a1 w27 w66 (
        samec 19 a23 w27 w66 (
        samec 19 a14 w27 w66 (
        frame_Frame_Forked cs33 cs34 i35 w66 fun cs67 w68 =>
        samec 19 a23 w27 w68 (
        samec 19 a14 w27 w68 (
        spl #[(.int .i64 (0 : Int)), (.int .i64 (0 : Int)), (.int .i64 (0 : Int)), (.int .i64 (0 : Int)), (.int .i64 (0 : Int)), (.int .i64 (0 : Int)), (.int .i64 (0 : Int)), (.int .i64 (0 : Int)), (.int .i64 (0 : Int)), (.int .i64 (0 : Int)), (.int .i64 (0 : Int)), (.int .i64 (0 : Int)), (.int .i64 (0 : Int)), (.int .i64 (0 : Int)), (.int .i64 (0 : Int)), (.int .i64 (0 : Int)), (.int .i64 (0 : Int)), (.int .i64 (0 : Int)), (.int .i64 (0 : Int)), (.int .i64 (0 : Int)), (.int .i64 (0 : Int)), (.int .i64 (0 : Int)), (.int .i64 (0 : Int)), (.int .i64 (0 : Int)), (.int .i64 (0 : Int)), (.int .i64 (0 : Int)), (.int .i64 (0 : Int)), (.int .i64 (0 : Int)), (.int .i64 (0 : Int)), (.int .i64 (0 : Int)), (.int .i64 (0 : Int)), (.int .i64 (0 : Int)), (.int .i64 (0 : Int)), (.int .i64 (0 : Int)), (.int .i64 (0 : Int)), (.int .i64 (0 : Int)), (.int .i64 (0 : Int)), (.int .i64 (0 : Int)), (.int .i64 (0 : Int)), (.int .i64 (0 : Int)), (.int .i64 (0 : Int)), (.int .i64 (0 : Int)), (.int .i64 (0 : Int)), (.int .i64 (0 : Int)), (.int .i64 (0 : Int)), (.int .i64 (0 : Int)), (.int .i64 (0 : Int)), (.int .i64 (0 : Int)), (.int .i64 (0 : Int)), (.int .i64 (0 : Int)), (.int .i64 (0 : Int)), (.int .i64 (0 : Int)), (.int .i64 (0 : Int)), (.int .i64 (0 : Int)), (.int .i64 (0 : Int)), (.int .i64 (0 : Int)), (.int .i64 (0 : Int)), (.int .i64 (0 : Int)), (.int .i64 (0 : Int)), (.int .i64 (0 : Int)), (.int .i64 (0 : Int)), (.int .i64 (0 : Int)), (.int .i64 (0 : Int)), (.int .i64 (0 : Int)), (.int .i64 (0 : Int)), (.int .i64 (0 : Int)), (.int .i64 (0 : Int)), (.int .i64 (0 : Int)), (.int .i64 (0 : Int)), (.int .i64 (0 : Int)), (.int .i64 (0 : Int)), (.int .i64 (0 : Int)), (.int .i64 (0 : Int)), (.int .i64 (0 : Int)), (.int .i64 (0 : Int)), (.int .i64 (0 : Int))] 0 19 cs28 fun cs69 =>
        spl cs69 19 19 cs29 fun cs70 =>
        spl cs70 38 19 cs65 fun cs71 =>
        spl cs71 57 19 cs67 fun cs72 =>
        stA 76 w68 a63 cs72 fun w73 =>
        (J26 a63 w73)))))))))))))))))) fun a74 w75 =>
    loopP (S := (Int × Int)) (fun C76 x77 w78 =>
      iteB (decide (x77.2 < (4 : Int))) (
        ixP a74 4 x77.2 19 fun a79 =>
        ldA 19 w78 a79 fun cs80 =>
        newC w78 #[(.int .i64 (0 : Int)), (.int .i64 (0 : Int)), (.int .i64 (0 : Int)), (.int .i64 (0 : Int)), (.int .i64 (0 : Int)), (.int .i64 (0 : Int)), (.int .i64 (0 : Int)), (.int .i64 (0 : Int)), (.int .i64 (0 : Int)), (.int .i64 (0 : Int)), (.int .i64 (0 : Int)), (.int .i64 (0 : Int)), (.int .i64 (0 : Int)), (.int .i64 (0 : Int)), (.int .i64 (0 : Int)), (.int .i64 (0 : Int)), (.int .i64 (0 : Int)), (.int .i64 (0 : Int)), (.int .i64 (0 : Int))] 48 fun a81 w82 =>
        stA 19 w82 a81 cs80 fun w83 =>
        ldA 19 w83 a81 fun cs84 =>
        ldA 19 w83 a1 fun cs85 =>
        eqA ([(0, 0)] ++ ([(1, 0)] ++ ([(2, 0), (3, 0), (4, 0), (5, 0), (6, 0), (7, 0), (8, 0), (9, 0)] ++ ([(10, 0), (11, 0), (12, 0), (13, 0), (14, 0), (15, 0), (16, 0), (17, 0)] ++ ([(18, 0)] ++ []))))) cs84 cs85 fun b86 =>
        iteB b86 (
          (C76 (x77.1, (IntKind.wrap .i64 (x77.2 + (1 : Int)))) w83)) (
          ldA 19 w83 a1 fun cs87 =>
          ldA 19 w83 a81 fun cs88 =>
          pelotonlaw05_turned cs87 cs88 w83 fun x89 w90 =>
          ldI .i64 w90 (Addr.add (Addr.add a3 0) 0) fun i91 =>
          joinP (S := Int) (fun J92 =>
            iteB (i91 == (10 : Int)) (
              (J92 (2 : Int) w90)) (
              (J92 (1 : Int) w90))) fun i93 w94 =>
          joinP (S := Bool) (fun J95 =>
            ldI .i64 w94 (Addr.add a81 0) fun i96 =>
            ldI .i64 w94 (Addr.add a1 0) fun i97 =>
            iteB (i96 != i97) (
              (J95 ((((true || (decide (x89.1 > i93))) || (decide (x89.2 > (1 : Int)))) || ((decide (x89.1 > (0 : Int))) && (decide (x89.2 > (0 : Int))))) || (!((decide (x89.2 > (0 : Int))) == ((x89.2 == (1 : Int)) && (x77.2 == (3 : Int)))))) w94)) (
              ldI .i64 w94 (Addr.add a81 18) fun i98 =>
              ldI .i64 w94 (Addr.add a1 18) fun i99 =>
              (J95 (((((i98 != (IntKind.wrap .i64 (i99 + (1 : Int)))) || (decide (x89.1 > i93))) || (decide (x89.2 > (1 : Int)))) || ((decide (x89.1 > (0 : Int))) && (decide (x89.2 > (0 : Int))))) || (!((decide (x89.2 > (0 : Int))) == ((x89.2 == (1 : Int)) && (x77.2 == (3 : Int)))))) w94))) fun b100 w101 =>
          iteB b100 (
            (k false w101)) (
            (C76 ((IntKind.wrap .i64 (x77.1 + (1 : Int))), (IntKind.wrap .i64 (x77.2 + (1 : Int)))) w101)))) (
        iteB (decide (x77.1 ≤ (1 : Int))) (
          pelotonlaw05_awake  w78 fun b102 w103 =>
          (k b102 w103)) (
          (k false w78)))) ((0 : Int), (0 : Int)) w75)
def d14 : Dec := fun args w c => unL [.ag, .ag] args fun x => pelotonlaw05_FrameSteps x.1 x.2 w fun r w => c (packV (valL [.b] r)) w
theorem s14 : Sound Go.Proofs.Try.prog 14 d14 :=
  sound_of (mask := 332306998946380120991006929212538044) (h := [(6, [(10, .a)]), (10, [(11, (.i .i64)), (12, (.i .i64))]), (21, [(16, (.i .i64))]), (23, [(118, .b)])]) (ds := [(24, d24), (25, d25), (26, d26), (37, d37), (32, d32), (40, d40), (44, d44)]) mixed Go.Proofs.Try.func14 ⟨s24, s25, s26, s37, s32, s40, s44, trivial⟩
    [.ag, .ag] [.b] (by kernel_rfl) (fun x w k => pelotonlaw05_FrameSteps x.1 x.2 w k) (fun x w k => by kernel_rfl)

end Go.Proofs.Ytkcakjckpbldoaa
