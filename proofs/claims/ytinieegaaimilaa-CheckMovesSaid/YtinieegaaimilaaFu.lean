/-
  The functions of this seat, as the evaluator gives them: printed by a program; each tied to its function by the kernel.
-/
import Derived.Test.YtinieegaaimilaaProg
import Derived.Test.YtinieegaaimilaaEvR
import Derived.KernelRfl
set_option maxRecDepth 100000
set_option linter.unusedVariables false
namespace Go.Proofs.Ytinieegaaimilaa
open Go Go.Ev
theorem mixed : Go.Proofs.Try.prog.follows .mixedOrders = true := by kernel_rfl

abbrev n_pelotonlaw04_CheckDepths : Nat := 3
abbrev n_pelotonlaw04_CheckHeld : Nat := 4
abbrev n_pelotonlaw04_CheckNeeds : Nat := 5
abbrev n_pelotonlaw04_CheckDead : Nat := 6
abbrev n_pelotonlaw04_CheckHolds : Nat := 7
abbrev n_pelotonlaw04_CheckPrograms : Nat := 8
abbrev n_pelotonlaw04_CheckMoves : Nat := 9
abbrev n_pelotonlaw04_awake : Nat := 10
abbrev n_pelotonlaw04_ints : Nat := 11
abbrev n_check_Depths : Nat := 12
abbrev n_pelotonref04_Depths : Nat := 13
abbrev n_check_Held : Nat := 14
abbrev n_pelotonref04_Held : Nat := 15
abbrev n_pelotonlaw02_Few : Nat := 16
abbrev n_check_Program : Nat := 17
abbrev n_check_Accepts : Nat := 18
abbrev n_pelotonref04_Program : Nat := 19
abbrev n_check_Plain : Nat := 20
abbrev n_pelotonref04_Plain : Nat := 21
abbrev n_pelotonlaw04_moved : Nat := 22
abbrev n_pelotonlaw04_one : Nat := 23
abbrev n_check_flow_meet : Nat := 24
abbrev n_check_behind : Nat := 25
abbrev n_pelotonref04_without : Nat := 26
abbrev n_pelotonref04_bit : Nat := 27
abbrev n_check_shape : Nat := 28
abbrev n_check_function : Nat := 29
abbrev n_pelotonref04_shape : Nat := 30
abbrev n_pelotonref04_wrong : Nat := 31
abbrev n_check_behind_1 : Nat := 32
abbrev n_check_goes : Nat := 33
abbrev n_check_ends : Nat := 34
abbrev n_pelotonref04_Behind : Nat := 35
abbrev n_code_Check : Nat := 36
abbrev n_check_judge_places : Nat := 37
abbrev n_check_judge_last : Nat := 38
abbrev n_check_judge_scopes : Nat := 39
abbrev n_check_judge_handles : Nat := 40
abbrev n_pelotonref02_Check : Nat := 41
abbrev n_code_operands : Nat := 42
abbrev n_code_span : Nat := 43
abbrev n_pelotonref02_spans : Nat := 44

/-- peloton/pelotonlaw04.one -/
def pelotonlaw04_one (code_0 : Sl) (w : World) (k : (Array Value) → World → Prop) : Prop :=
  newC w #[(.slice none 0 0)] 34 fun a1 w2 =>
  spl #[(.int .i64 (0 : Int)), (.slice none 0 0)] 0 2 #[(.int .i64 (0 : Int)), (.slice code_0.a code_0.n code_0.c)] fun cs3 =>
  newC w2 cs3 29 fun a4 w5 =>
  stA 1 w5 a1 #[(.slice (some a4) 1 1)] fun w6 =>
  ldA 1 w6 a1 fun cs7 =>
  (k cs7 w6)
def d_pelotonlaw04_one : Dec := fun args w c => unL [.s] args fun x => pelotonlaw04_one x w fun r w => c (packV (valL [.ag] r)) w
theorem s_pelotonlaw04_one : Sound Go.Proofs.Try.prog n_pelotonlaw04_one d_pelotonlaw04_one :=
  sound_of (mask := 5) (h := []) (ds := []) mixed Go.Proofs.Try.func23 trivial
    [.s] [.ag] (by kernel_rfl) (fun x w k => pelotonlaw04_one x w k) (fun x w k => by kernel_rfl)

/-- peloton/code.operands -/
def code_operands (op_0 : Int) (w : World) (k : (Array Value) → World → Prop) : Prop :=
  newC w #[(.int .i64 (0 : Int)), (.int .i64 (0 : Int)), (.int .i64 (0 : Int)), (.int .i64 (0 : Int))] 72 fun a1 w2 =>
  spl #[(.int .i64 (0 : Int)), (.int .i64 (0 : Int)), (.int .i64 (0 : Int)), (.int .i64 (0 : Int)), (.int .i64 (0 : Int)), (.int .i64 (0 : Int)), (.int .i64 (0 : Int)), (.int .i64 (0 : Int)), (.int .i64 (0 : Int)), (.int .i64 (0 : Int)), (.int .i64 (0 : Int)), (.int .i64 (0 : Int)), (.int .i64 (0 : Int)), (.int .i64 (0 : Int)), (.int .i64 (0 : Int)), (.int .i64 (0 : Int)), (.int .i64 (0 : Int)), (.int .i64 (0 : Int)), (.int .i64 (0 : Int)), (.int .i64 (0 : Int)), (.int .i64 (0 : Int)), (.int .i64 (0 : Int)), (.int .i64 (0 : Int)), (.int .i64 (0 : Int)), (.int .i64 (0 : Int)), (.int .i64 (0 : Int)), (.int .i64 (0 : Int)), (.int .i64 (0 : Int)), (.int .i64 (0 : Int)), (.int .i64 (0 : Int)), (.int .i64 (0 : Int)), (.int .i64 (0 : Int)), (.int .i64 (0 : Int)), (.int .i64 (0 : Int)), (.int .i64 (0 : Int)), (.int .i64 (0 : Int)), (.int .i64 (0 : Int)), (.int .i64 (0 : Int)), (.int .i64 (0 : Int)), (.int .i64 (0 : Int)), (.int .i64 (0 : Int)), (.int .i64 (0 : Int)), (.int .i64 (0 : Int)), (.int .i64 (0 : Int)), (.int .i64 (0 : Int)), (.int .i64 (0 : Int)), (.int .i64 (0 : Int)), (.int .i64 (0 : Int)), (.int .i64 (0 : Int)), (.int .i64 (0 : Int)), (.int .i64 (0 : Int)), (.int .i64 (0 : Int)), (.int .i64 (0 : Int)), (.int .i64 (0 : Int)), (.int .i64 (0 : Int)), (.int .i64 (0 : Int)), (.int .i64 (0 : Int)), (.int .i64 (0 : Int)), (.int .i64 (0 : Int)), (.int .i64 (0 : Int)), (.int .i64 (0 : Int)), (.int .i64 (0 : Int)), (.int .i64 (0 : Int)), (.int .i64 (0 : Int)), (.int .i64 (0 : Int)), (.int .i64 (0 : Int)), (.int .i64 (0 : Int)), (.int .i64 (0 : Int))] 0 4 #[(.int .i64 (1 : Int)), (.int .i64 (0 : Int)), (.int .i64 (0 : Int)), (.int .i64 (5 : Int))] fun cs3 =>
  spl cs3 4 4 #[(.int .i64 (1 : Int)), (.int .i64 (1 : Int)), (.int .i64 (0 : Int)), (.int .i64 (0 : Int))] fun cs4 =>
  spl cs4 8 4 #[(.int .i64 (1 : Int)), (.int .i64 (1 : Int)), (.int .i64 (1 : Int)), (.int .i64 (0 : Int))] fun cs5 =>
  spl cs5 12 4 #[(.int .i64 (1 : Int)), (.int .i64 (1 : Int)), (.int .i64 (1 : Int)), (.int .i64 (0 : Int))] fun cs6 =>
  spl cs6 16 4 #[(.int .i64 (1 : Int)), (.int .i64 (1 : Int)), (.int .i64 (1 : Int)), (.int .i64 (0 : Int))] fun cs7 =>
  spl cs7 20 4 #[(.int .i64 (1 : Int)), (.int .i64 (1 : Int)), (.int .i64 (1 : Int)), (.int .i64 (0 : Int))] fun cs8 =>
  spl cs8 24 4 #[(.int .i64 (0 : Int)), (.int .i64 (0 : Int)), (.int .i64 (0 : Int)), (.int .i64 (2 : Int))] fun cs9 =>
  spl cs9 28 4 #[(.int .i64 (1 : Int)), (.int .i64 (0 : Int)), (.int .i64 (0 : Int)), (.int .i64 (2 : Int))] fun cs10 =>
  spl cs10 32 4 #[(.int .i64 (1 : Int)), (.int .i64 (0 : Int)), (.int .i64 (0 : Int)), (.int .i64 (3 : Int))] fun cs11 =>
  spl cs11 36 4 #[(.int .i64 (1 : Int)), (.int .i64 (1 : Int)), (.int .i64 (0 : Int)), (.int .i64 (0 : Int))] fun cs12 =>
  spl cs12 40 4 #[(.int .i64 (1 : Int)), (.int .i64 (1 : Int)), (.int .i64 (1 : Int)), (.int .i64 (0 : Int))] fun cs13 =>
  spl cs13 44 4 #[(.int .i64 (0 : Int)), (.int .i64 (0 : Int)), (.int .i64 (0 : Int)), (.int .i64 (4 : Int))] fun cs14 =>
  spl cs14 48 4 #[(.int .i64 (1 : Int)), (.int .i64 (0 : Int)), (.int .i64 (0 : Int)), (.int .i64 (0 : Int))] fun cs15 =>
  spl cs15 52 4 #[(.int .i64 (0 : Int)), (.int .i64 (0 : Int)), (.int .i64 (0 : Int)), (.int .i64 (0 : Int))] fun cs16 =>
  spl cs16 56 4 #[(.int .i64 (0 : Int)), (.int .i64 (0 : Int)), (.int .i64 (0 : Int)), (.int .i64 (0 : Int))] fun cs17 =>
  spl cs17 60 4 #[(.int .i64 (1 : Int)), (.int .i64 (0 : Int)), (.int .i64 (0 : Int)), (.int .i64 (0 : Int))] fun cs18 =>
  spl cs18 64 4 #[(.int .i64 (1 : Int)), (.int .i64 (0 : Int)), (.int .i64 (0 : Int)), (.int .i64 (0 : Int))] fun cs19 =>
  newC w2 #[(.int .i64 (0 : Int)), (.int .i64 (0 : Int)), (.int .i64 (0 : Int)), (.int .i64 (0 : Int)), (.int .i64 (0 : Int)), (.int .i64 (0 : Int)), (.int .i64 (0 : Int)), (.int .i64 (0 : Int)), (.int .i64 (0 : Int)), (.int .i64 (0 : Int)), (.int .i64 (0 : Int)), (.int .i64 (0 : Int)), (.int .i64 (0 : Int)), (.int .i64 (0 : Int)), (.int .i64 (0 : Int)), (.int .i64 (0 : Int)), (.int .i64 (0 : Int)), (.int .i64 (0 : Int)), (.int .i64 (0 : Int)), (.int .i64 (0 : Int)), (.int .i64 (0 : Int)), (.int .i64 (0 : Int)), (.int .i64 (0 : Int)), (.int .i64 (0 : Int)), (.int .i64 (0 : Int)), (.int .i64 (0 : Int)), (.int .i64 (0 : Int)), (.int .i64 (0 : Int)), (.int .i64 (0 : Int)), (.int .i64 (0 : Int)), (.int .i64 (0 : Int)), (.int .i64 (0 : Int)), (.int .i64 (0 : Int)), (.int .i64 (0 : Int)), (.int .i64 (0 : Int)), (.int .i64 (0 : Int)), (.int .i64 (0 : Int)), (.int .i64 (0 : Int)), (.int .i64 (0 : Int)), (.int .i64 (0 : Int)), (.int .i64 (0 : Int)), (.int .i64 (0 : Int)), (.int .i64 (0 : Int)), (.int .i64 (0 : Int)), (.int .i64 (0 : Int)), (.int .i64 (0 : Int)), (.int .i64 (0 : Int)), (.int .i64 (0 : Int)), (.int .i64 (0 : Int)), (.int .i64 (0 : Int)), (.int .i64 (0 : Int)), (.int .i64 (0 : Int)), (.int .i64 (0 : Int)), (.int .i64 (0 : Int)), (.int .i64 (0 : Int)), (.int .i64 (0 : Int)), (.int .i64 (0 : Int)), (.int .i64 (0 : Int)), (.int .i64 (0 : Int)), (.int .i64 (0 : Int)), (.int .i64 (0 : Int)), (.int .i64 (0 : Int)), (.int .i64 (0 : Int)), (.int .i64 (0 : Int)), (.int .i64 (0 : Int)), (.int .i64 (0 : Int)), (.int .i64 (0 : Int)), (.int .i64 (0 : Int))] 78 fun a20 w21 =>
  stA 68 w21 a20 cs19 fun w22 =>
  ixP a20 17 op_0 4 fun a23 =>
  ldA 4 w22 a23 fun cs24 =>
  stA 4 w22 a1 cs24 fun w25 =>
  ldA 4 w25 a1 fun cs26 =>
  (k cs26 w25)
def d_code_operands : Dec := fun args w c => unL [(.i .i64)] args fun x => code_operands x w fun r w => c (packV (valL [.ag] r)) w
theorem s_code_operands : Sound Go.Proofs.Try.prog n_code_operands d_code_operands :=
  sound_of (mask := 13) (h := []) (ds := []) mixed Go.Proofs.Try.func42 trivial
    [(.i .i64)] [.ag] (by kernel_rfl) (fun x w k => code_operands x w k) (fun x w k => by kernel_rfl)

/-- peloton/code.span -/
def code_span (kind_0 : Int) (w : World) (k : (Int × Int) → World → Prop) : Prop :=
  iteB (kind_0 == (1 : Int)) (
    (k ((0 : Int), (7 : Int)) w)) (
    iteB (kind_0 == (2 : Int)) (
      (k ((0 : Int), (127 : Int)) w)) (
      iteB (kind_0 == (3 : Int)) (
        (k ((0 : Int), (31 : Int)) w)) (
        iteB (kind_0 == (4 : Int)) (
          (k ((0 : Int), (65535 : Int)) w)) (
          iteB (kind_0 == (5 : Int)) (
            (k ((-(2147483648 : Int)), (2147483647 : Int)) w)) (
            (k ((0 : Int), (0 : Int)) w))))))
def d_code_span : Dec := fun args w c => unL [(.i .i64)] args fun x => code_span x w fun r w => c (packV (valL [(.i .i64), (.i .i64)] r)) w
theorem s_code_span : Sound Go.Proofs.Try.prog n_code_span d_code_span :=
  sound_of (mask := 10941) (h := []) (ds := []) mixed Go.Proofs.Try.func43 trivial
    [(.i .i64)] [(.i .i64), (.i .i64)] (by kernel_rfl) (fun x w k => code_span x w k) (fun x w k => by kernel_rfl)

/-- peloton/code.Check -/
def code_Check_b (code_operands : Int → World → ((Array Value) → World → Prop) → Prop) (code_span : Int → World → ((Int × Int) → World → Prop) → Prop) (i_0 : Array Value) (w : World) (k : (Int) → World → Prop) : Prop :=
  newC w i_0 42 fun a1 w2 =>
  joinP (S := Bool) (fun J3 =>
    ldI .i64 w2 (Addr.add a1 0) fun i4 =>
    iteB (decide (i4 < (0 : Int))) (
      (J3 true w2)) (
      ldI .i64 w2 (Addr.add a1 0) fun i5 =>
      (J3 (decide (i5 ≥ (17 : Int))) w2))) fun b6 w7 =>
  iteB b6 (
    (k (13 : Int) w7)) (
    ldI .i64 w7 (Addr.add a1 0) fun i8 =>
    code_operands i8 w7 fun cs9 w10 =>
    newC w10 #[(.int .i64 (0 : Int)), (.int .i64 (0 : Int)), (.int .i64 (0 : Int)), (.int .i64 (0 : Int))] 72 fun a11 w12 =>
    stA 4 w12 a11 cs9 fun w13 =>
    ldI .i64 w13 (Addr.add a1 1) fun i14 =>
    ldI .i64 w13 (Addr.add a1 2) fun i15 =>
    ldI .i64 w13 (Addr.add a1 3) fun i16 =>
    ldI .i64 w13 (Addr.add a1 4) fun i17 =>
    loopP (S := (Int × Int)) (fun C18 x19 w20 =>
      iteB (decide (x19.2 < (4 : Int))) (
        ixA #[(.int .i64 i14), (.int .i64 i15), (.int .i64 i16), (.int .i64 i17)] 4 x19.2 fun v21 =>
        toI .i64 v21 fun i22 =>
        ixP a11 4 x19.2 1 fun a23 =>
        ldI .i64 w20 a23 fun i24 =>
        code_span i24 w20 fun x25 w26 =>
        iteB ((decide (i22 < (x25.1, x25.2).1)) || (decide (i22 > (x25.1, x25.2).2))) (
          (k (10 : Int) w26)) (
          (C18 (x19.1, (IntKind.wrap .i64 (x19.2 + (1 : Int)))) w26))) (
        (k x19.1 w20))) ((0 : Int), (0 : Int)) w13)
theorem e_code_Check (code_operands : Int → World → ((Array Value) → World → Prop) → Prop) (code_span : Int → World → ((Int × Int) → World → Prop) → Prop) (x : KT [.ag]) (w : World) (k : KT [(.i .i64)] → World → Prop) : evFn Go.Proofs.Try.prog (orcOf [(n_code_operands, (fun args w c => unL [(.i .i64)] args fun x => code_operands x w fun r w => c (packV (valL [.ag] r)) w)), (n_code_span, (fun args w c => unL [(.i .i64)] args fun x => code_span x w fun r w => c (packV (valL [(.i .i64), (.i .i64)] r)) w))]) 140739367469566 [(1, [(16, .b)]), (8, [(4, (.i .i64)), (29, (.i .i64))])] Go.Proofs.Try.f36 [(.i .i64)] (valL [.ag] x) w k = code_Check_b code_operands code_span x w k := by kernel_rfl
def code_Check (i_0 : Array Value) (w : World) (k : (Int) → World → Prop) : Prop := code_Check_b code_operands code_span i_0 w k
def d_code_Check : Dec := fun args w c => unL [.ag] args fun x => code_Check x w fun r w => c (packV (valL [(.i .i64)] r)) w
theorem s_code_Check : Sound Go.Proofs.Try.prog n_code_Check d_code_Check :=
  sound_of (mask := 140739367469566) (h := [(1, [(16, .b)]), (8, [(4, (.i .i64)), (29, (.i .i64))])]) (ds := [(n_code_operands, d_code_operands), (n_code_span, d_code_span)]) mixed Go.Proofs.Try.func36 ⟨s_code_operands, s_code_span, trivial⟩
    [.ag] [(.i .i64)] (by kernel_rfl) (fun x w k => code_Check x w k) (fun x w k => e_code_Check code_operands code_span x w k)

/-- peloton/check.shape -/
def check_shape_b (code_Check : Array Value → World → ((Int) → World → Prop) → Prop) (f_0 : Array Value) (w : World) (k : (Int × Int) → World → Prop) : Prop :=
  newC w f_0 29 fun a1 w2 =>
  joinP (S := Bool) (fun J3 =>
    ldI .i64 w2 (Addr.add a1 0) fun i4 =>
    iteB (decide (i4 < (0 : Int))) (
      (J3 true w2)) (
      ldI .i64 w2 (Addr.add a1 0) fun i5 =>
      (J3 (decide (i5 > (255 : Int))) w2))) fun b6 w7 =>
  iteB b6 (
    (k ((-(1 : Int)), (10 : Int)) w7)) (
    joinP (S := Bool) (fun J8 =>
      ldS w7 (Addr.add a1 1) fun s9 =>
      iteB (decide (((s9.n : Nat) : Int) < (1 : Int))) (
        (J8 true w7)) (
        ldS w7 (Addr.add a1 1) fun s10 =>
        (J8 (decide (((s10.n : Nat) : Int) > (128 : Int))) w7))) fun b11 w12 =>
    iteB b11 (
      (k ((-(1 : Int)), (12 : Int)) w12)) (
      ldS w12 (Addr.add a1 1) fun s13 =>
      loopP (S := Int) (fun C14 i15 w16 =>
        iteB (decide (i15 < ((s13.n : Nat) : Int))) (
          ixS s13 i15 5 fun a17 =>
          ldA 5 w16 a17 fun cs18 =>
          newC w16 #[(.int .i64 (0 : Int)), (.int .i64 (0 : Int)), (.int .i64 (0 : Int)), (.int .i64 (0 : Int)), (.int .i64 (0 : Int))] 42 fun a19 w20 =>
          stA 5 w20 a19 cs18 fun w21 =>
          ldA 5 w21 a19 fun cs22 =>
          code_Check cs22 w21 fun i23 w24 =>
          iteB (i23 != (0 : Int)) (
            (k (i15, i23) w24)) (
            (C14 (IntKind.wrap .i64 (i15 + (1 : Int))) w24))) (
          (k ((0 : Int), (0 : Int)) w16))) (0 : Int) w12))
theorem e_check_shape (code_Check : Array Value → World → ((Int) → World → Prop) → Prop) (x : KT [.ag]) (w : World) (k : KT [(.i .i64), (.i .i64)] → World → Prop) : evFn Go.Proofs.Try.prog (orcOf [(n_code_Check, (fun args w c => unL [.ag] args fun x => code_Check x w fun r w => c (packV (valL [(.i .i64)] r)) w))]) 69742903422 [(1, [(14, .b)]), (4, [(24, .b)]), (9, [(28, (.i .i64))])] Go.Proofs.Try.f28 [(.i .i64), (.i .i64)] (valL [.ag] x) w k = check_shape_b code_Check x w k := by kernel_rfl
def check_shape (f_0 : Array Value) (w : World) (k : (Int × Int) → World → Prop) : Prop := check_shape_b code_Check f_0 w k
def d_check_shape : Dec := fun args w c => unL [.ag] args fun x => check_shape x w fun r w => c (packV (valL [(.i .i64), (.i .i64)] r)) w
theorem s_check_shape : Sound Go.Proofs.Try.prog n_check_shape d_check_shape :=
  sound_of (mask := 69742903422) (h := [(1, [(14, .b)]), (4, [(24, .b)]), (9, [(28, (.i .i64))])]) (ds := [(n_code_Check, d_code_Check)]) mixed Go.Proofs.Try.func28 ⟨s_code_Check, trivial⟩
    [.ag] [(.i .i64), (.i .i64)] (by kernel_rfl) (fun x w k => check_shape x w k) (fun x w k => e_check_shape code_Check x w k)

/-- peloton/check.Depths -/
def check_Depths (code_0 : Sl) (w : World) (k : (Sl) → World → Prop) : Prop :=
  mkSl Go.Proofs.Try.prog 25 (.int .i64 ((code_0.n : Nat) : Int)) (.int .i64 ((code_0.n : Nat) : Int)) w fun s1 w2 =>
  loopP (S := (Int × Int)) (fun C3 x4 w5 =>
    iteB (decide (x4.2 < ((code_0.n : Nat) : Int))) (
      ixS code_0 x4.2 5 fun a6 =>
      ldA 5 w5 a6 fun cs7 =>
      newC w5 #[(.int .i64 (0 : Int)), (.int .i64 (0 : Int)), (.int .i64 (0 : Int)), (.int .i64 (0 : Int)), (.int .i64 (0 : Int))] 42 fun a8 w9 =>
      stA 5 w9 a8 cs7 fun w10 =>
      ixS s1 x4.2 1 fun a11 =>
      stC w10 a11 (.int .i64 x4.1) fun w12 =>
      ldI .i64 w12 (Addr.add a8 0) fun i13 =>
      iteB (i13 == (11 : Int)) (
        (C3 ((IntKind.wrap .i64 (x4.1 + (1 : Int))), (IntKind.wrap .i64 (x4.2 + (1 : Int)))) w12)) (
        iteB (i13 == (12 : Int)) (
          (C3 ((IntKind.wrap .i64 (x4.1 - (1 : Int))), (IntKind.wrap .i64 (x4.2 + (1 : Int)))) w12)) (
          (C3 (x4.1, (IntKind.wrap .i64 (x4.2 + (1 : Int)))) w12)))) (
      (k s1 w5))) ((0 : Int), (0 : Int)) w2
def d_check_Depths : Dec := fun args w c => unL [.s] args fun x => check_Depths x w fun r w => c (packV (valL [.s] r)) w
theorem s_check_Depths : Sound Go.Proofs.Try.prog n_check_Depths d_check_Depths :=
  sound_of (mask := 146816125) (h := [(5, [(4, (.i .i64)), (12, (.i .i64))])]) (ds := []) mixed Go.Proofs.Try.func12 trivial
    [.s] [.s] (by kernel_rfl) (fun x w k => check_Depths x w k) (fun x w k => by kernel_rfl)

/-- (*peloton/check.flow).meet -/
def check_flow_meet (w_0 : Option Addr) (i_1 : Int) (have_2 : Int) (w : World) (k : Unit → World → Prop) : Prop :=
  nn w_0 fun a1 =>
  ldS w (Addr.add a1 1) fun s2 =>
  ixS s2 i_1 1 fun a3 =>
  ldI .i64 w a3 fun i4 =>
  joinP (S := Bool) (fun J5 =>
    nn w_0 fun a6 =>
    ldS w (Addr.add a6 2) fun s7 =>
    ixS s7 i_1 1 fun a8 =>
    ldB w a8 fun b9 =>
    iteB b9 (
      nn w_0 fun a10 =>
      ldS w (Addr.add a10 1) fun s11 =>
      ixS s11 i_1 1 fun a12 =>
      ldI .i64 w a12 fun i13 =>
      (J5 ((andI .i64 i4 have_2) == i13) w)) (
      (J5 false w))) fun b14 w15 =>
  iteB b14 (
    (k () w15)) (
    drew w15 fun w16 =>
    nn w_0 fun a17 =>
    ldS w16 (Addr.add a17 2) fun s18 =>
    nn w_0 fun a19 =>
    ldS w16 (Addr.add a19 1) fun s20 =>
    ixS s18 i_1 1 fun a21 =>
    stC w16 a21 (.bool true) fun w22 =>
    ixS s20 i_1 1 fun a23 =>
    stC w22 a23 (.int .i64 (andI .i64 i4 have_2)) fun w24 =>
    nn w_0 fun a25 =>
    ldS w24 (Addr.add a25 3) fun s26 =>
    newC w24 #[(.int .i64 i_1)] 3 fun a27 w28 =>
    bApp Go.Proofs.Try.prog #[25, 25] 25 [(.slice s26.a s26.n s26.c), (.slice (some a27) 1 1)] w28 fun s29 w30 =>
    nn w_0 fun a31 =>
    stC w30 (Addr.add a31 3) (.slice s29.a s29.n s29.c) fun w32 =>
    (k () w32))
def d_check_flow_meet : Dec := fun args w c => unL [.p, (.i .i64), (.i .i64)] args fun x => check_flow_meet x.1 x.2.1 x.2.2 w fun r w => c (packV (valL [] r)) w
theorem s_check_flow_meet : Sound Go.Proofs.Try.prog n_check_flow_meet d_check_flow_meet :=
  sound_of (mask := 8589934659) (h := [(1, [(33, .b)])]) (ds := []) mixed Go.Proofs.Try.func24 trivial
    [.p, (.i .i64), (.i .i64)] [] (by kernel_rfl) (fun x w k => check_flow_meet x.1 x.2.1 x.2.2 w k) (fun x w k => by kernel_rfl)

/-- peloton/check.behind -/
def check_behind (l_0 : Sl) (i_1 : Int) (w : World) (k : (Value) → World → Prop) : Prop :=
  newC w #[(.slice l_0.a l_0.n l_0.c)] 22 fun a1 w2 =>
  newC w2 #[(.int .i64 i_1)] 3 fun a3 w4 =>
  (k (.func (.func n_check_behind_1) #[] #[(.pointer (some a1)), (.pointer (some a3))]) w4)
def d_check_behind : Dec := fun args w c => unL [.s, (.i .i64)] args fun x => check_behind x.1 x.2 w fun r w => c (packV (valL [.raw] r)) w
theorem s_check_behind : Sound Go.Proofs.Try.prog n_check_behind d_check_behind :=
  sound_of (mask := 28) (h := []) (ds := []) mixed Go.Proofs.Try.func25 trivial
    [.s, (.i .i64)] [.raw] (by kernel_rfl) (fun x w k => check_behind x.1 x.2 w k) (fun x w k => by kernel_rfl)

/-- peloton/check.goes -/
def check_goes (op_0 : Int) (w : World) (k : (Bool) → World → Prop) : Prop :=
  (k ((op_0 == (6 : Int)) || (op_0 == (7 : Int))) w)
def d_check_goes : Dec := fun args w c => unL [(.i .i64)] args fun x => check_goes x w fun r w => c (packV (valL [.b] r)) w
theorem s_check_goes : Sound Go.Proofs.Try.prog n_check_goes d_check_goes :=
  sound_of (mask := 5) (h := []) (ds := []) mixed Go.Proofs.Try.func33 trivial
    [(.i .i64)] [.b] (by kernel_rfl) (fun x w k => check_goes x w k) (fun x w k => by kernel_rfl)

/-- peloton/check.ends -/
def check_ends (op_0 : Int) (w : World) (k : (Bool) → World → Prop) : Prop :=
  (k ((op_0 == (16 : Int)) || (op_0 == (15 : Int))) w)
def d_check_ends : Dec := fun args w c => unL [(.i .i64)] args fun x => check_ends x w fun r w => c (packV (valL [.b] r)) w
theorem s_check_ends : Sound Go.Proofs.Try.prog n_check_ends d_check_ends :=
  sound_of (mask := 5) (h := []) (ds := []) mixed Go.Proofs.Try.func34 trivial
    [(.i .i64)] [.b] (by kernel_rfl) (fun x w k => check_ends x w k) (fun x w k => by kernel_rfl)

/-- peloton/check.behind$1 -/
def check_behind_1_b (Y : Nat → Dec) (check_goes : Int → World → ((Bool) → World → Prop) → Prop) (check_ends : Int → World → ((Bool) → World → Prop) → Prop) (yield_0 : Value) (_1 : Addr) (_2 : Addr) (w : World) (k : Unit → World → Prop) : Prop :=
  ldS w _1 fun s1 =>
  ldI .i64 w _2 fun i2 =>
  ixS s1 i2 5 fun a3 =>
  ldA 5 w a3 fun cs4 =>
  newC w #[(.int .i64 (0 : Int)), (.int .i64 (0 : Int)), (.int .i64 (0 : Int)), (.int .i64 (0 : Int)), (.int .i64 (0 : Int))] 42 fun a5 w6 =>
  stA 5 w6 a5 cs4 fun w7 =>
  joinP (S := Bool) (fun J8 =>
    ldI .i64 w7 (Addr.add a5 0) fun i9 =>
    check_goes i9 w7 fun b10 w11 =>
    iteB b10 (
      ldI .i64 w11 (Addr.add a5 4) fun i12 =>
      iteB (decide (i12 ≥ (0 : Int))) (
        ldI .i64 w11 (Addr.add a5 4) fun i13 =>
        ldS w11 _1 fun s14 =>
        iteB (decide (i13 < ((s14.n : Nat) : Int))) (
          ldI .i64 w11 (Addr.add a5 4) fun i15 =>
          callF (orcY [(n_check_goes, (fun args w c => unL [(.i .i64)] args fun x => check_goes x w fun r w => c (packV (valL [.b] r)) w)), (n_check_ends, (fun args w c => unL [(.i .i64)] args fun x => check_ends x w fun r w => c (packV (valL [.b] r)) w))] Y) yield_0 #[(.int .i64 i15)] w11 fun v16 w17 =>
          toB v16 fun b18 =>
          (J8 (!b18) w17)) (
          (J8 false w11))) (
        (J8 false w11))) (
      (J8 false w11))) fun b19 w20 =>
  iteB b19 (
    (k () w20)) (
    joinP (S := Bool) (fun J21 =>
      ldI .i64 w20 (Addr.add a5 0) fun i22 =>
      iteB (i22 != (6 : Int)) (
        ldI .i64 w20 (Addr.add a5 0) fun i23 =>
        check_ends i23 w20 fun b24 w25 =>
        iteB (!b24) (
          ldI .i64 w25 _2 fun i26 =>
          ldS w25 _1 fun s27 =>
          (J21 (decide ((IntKind.wrap .i64 (i26 + (1 : Int))) < ((s27.n : Nat) : Int))) w25)) (
          (J21 false w25))) (
        (J21 false w20))) fun b28 w29 =>
    iteB b28 (
      ldI .i64 w29 _2 fun i30 =>
      callF (orcY [(n_check_goes, (fun args w c => unL [(.i .i64)] args fun x => check_goes x w fun r w => c (packV (valL [.b] r)) w)), (n_check_ends, (fun args w c => unL [(.i .i64)] args fun x => check_ends x w fun r w => c (packV (valL [.b] r)) w))] Y) yield_0 #[(.int .i64 (IntKind.wrap .i64 (i30 + (1 : Int))))] w29 fun v31 w32 =>
      toB v31 fun b33 =>
      (k () w32)) (
      (k () w29)))
theorem e_check_behind_1 (Y : Nat → Dec) (check_goes : Int → World → ((Bool) → World → Prop) → Prop) (check_ends : Int → World → ((Bool) → World → Prop) → Prop) (x : KT [.raw, .a, .a]) (w : World) (k : KT [] → World → Prop) : evFn Go.Proofs.Try.prog (orcY [(n_check_goes, (fun args w c => unL [(.i .i64)] args fun x => check_goes x w fun r w => c (packV (valL [.b] r)) w)), (n_check_ends, (fun args w c => unL [(.i .i64)] args fun x => check_ends x w fun r w => c (packV (valL [.b] r)) w))] Y) 70369817919511 [(1, [(30, .b)]), (3, [(46, .b)])] Go.Proofs.Try.f32 [] (valL [.raw, .a, .a] x) w k = check_behind_1_b Y check_goes check_ends x.1 x.2.1 x.2.2 w k := by kernel_rfl
def check_behind_1 (Y : Nat → Dec) (yield_0 : Value) (_1 : Addr) (_2 : Addr) (w : World) (k : Unit → World → Prop) : Prop := check_behind_1_b Y check_goes check_ends yield_0 _1 _2 w k
def i_check_behind_1 (Y : Nat → Dec) : Dec := fun args w c => unL [.raw, .a, .a] args fun x => check_behind_1 Y x.1 x.2.1 x.2.2 w fun r w => c (packV (valL [] r)) w
theorem s_check_behind_1 : SoundI Go.Proofs.Try.prog n_check_behind_1 i_check_behind_1 := fun Y hY =>
  sound_orc (mask := 70369817919511) (h := [(1, [(30, .b)]), (3, [(46, .b)])]) mixed Go.Proofs.Try.func32 (orcY_ok (l := [(n_check_goes, d_check_goes), (n_check_ends, d_check_ends)]) ⟨s_check_goes, s_check_ends, trivial⟩ hY)
    [.raw, .a, .a] [] (by kernel_rfl) (fun x w k => check_behind_1 Y x.1 x.2.1 x.2.2 w k) (fun x w k => e_check_behind_1 Y check_goes check_ends x w k)

/-- peloton/check.Held -/
def check_Held_b (I : OrcI) (check_flow_meet : Option Addr → Int → Int → World → (Unit → World → Prop) → Prop) (check_behind : Sl → Int → World → ((Value) → World → Prop) → Prop) (f_0 : Array Value) (w : World) (k : (Sl) → World → Prop) : Prop :=
  newC w f_0 29 fun a1 w2 =>
  ldS w2 (Addr.add a1 1) fun s3 =>
  joinP (S := Addr) (fun J4 =>
    drew w2 fun w5 =>
    ldS w5 (Addr.add a1 1) fun s6 =>
    both (
      mkSl Go.Proofs.Try.prog 25 (.int .i64 ((s3.n : Nat) : Int)) (.int .i64 ((s3.n : Nat) : Int)) w5 fun s7 w8 =>
      samec 1 (Addr.add a1 1) w5 w8 (
      both (
        mkSl Go.Proofs.Try.prog 44 (.int .i64 ((s3.n : Nat) : Int)) (.int .i64 ((s3.n : Nat) : Int)) w8 fun s9 w10 =>
        samec 1 (Addr.add a1 1) w5 w10 (
        both (
          both (
            newC w10 #[(.slice s6.a s6.n s6.c), (.slice s7.a s7.n s7.c), (.slice s9.a s9.n s9.c), (.slice none 0 0)] 53 fun a11 w12 =>
            newC w12 #[(.pointer none)] 51 fun a13 w14 =>
            samec 1 (Addr.add a1 1) w5 w14 (
            stC w14 a13 (.pointer (some a11)) fun w15 =>
            (J4 a13 w15))) (
            newC w10 #[(.pointer none)] 51 fun a16 w17 =>
            samec 1 (Addr.add a1 1) w5 w17 (
            newC w17 #[(.slice s6.a s6.n s6.c), (.slice s7.a s7.n s7.c), (.slice s9.a s9.n s9.c), (.slice none 0 0)] 53 fun a18 w19 =>
            stC w19 a16 (.pointer (some a18)) fun w20 =>
            (J4 a16 w20)))) (
          newC w10 #[(.pointer none)] 51 fun a21 w22 =>
          samec 1 (Addr.add a1 1) w5 w22 (
          newC w22 #[(.slice s6.a s6.n s6.c), (.slice s7.a s7.n s7.c), (.slice s9.a s9.n s9.c), (.slice none 0 0)] 53 fun a23 w24 =>
          stC w24 a21 (.pointer (some a23)) fun w25 =>
          (J4 a21 w25))))) (
        newC w8 #[(.pointer none)] 51 fun a26 w27 =>
        samec 1 (Addr.add a1 1) w5 w27 (
        mkSl Go.Proofs.Try.prog 44 (.int .i64 ((s3.n : Nat) : Int)) (.int .i64 ((s3.n : Nat) : Int)) w27 fun s28 w29 =>
        samec 1 (Addr.add a1 1) w5 w29 (
        newC w29 #[(.slice s6.a s6.n s6.c), (.slice s7.a s7.n s7.c), (.slice s28.a s28.n s28.c), (.slice none 0 0)] 53 fun a30 w31 =>
        stC w31 a26 (.pointer (some a30)) fun w32 =>
        (J4 a26 w32)))))) (
      both (
        mkSl Go.Proofs.Try.prog 44 (.int .i64 ((s3.n : Nat) : Int)) (.int .i64 ((s3.n : Nat) : Int)) w5 fun s33 w34 =>
        samec 1 (Addr.add a1 1) w5 w34 (
        both (
          mkSl Go.Proofs.Try.prog 25 (.int .i64 ((s3.n : Nat) : Int)) (.int .i64 ((s3.n : Nat) : Int)) w34 fun s35 w36 =>
          samec 1 (Addr.add a1 1) w5 w36 (
          both (
            both (
              newC w36 #[(.slice s6.a s6.n s6.c), (.slice s35.a s35.n s35.c), (.slice s33.a s33.n s33.c), (.slice none 0 0)] 53 fun a37 w38 =>
              newC w38 #[(.pointer none)] 51 fun a39 w40 =>
              samec 1 (Addr.add a1 1) w5 w40 (
              stC w40 a39 (.pointer (some a37)) fun w41 =>
              (J4 a39 w41))) (
              newC w36 #[(.pointer none)] 51 fun a42 w43 =>
              samec 1 (Addr.add a1 1) w5 w43 (
              newC w43 #[(.slice s6.a s6.n s6.c), (.slice s35.a s35.n s35.c), (.slice s33.a s33.n s33.c), (.slice none 0 0)] 53 fun a44 w45 =>
              stC w45 a42 (.pointer (some a44)) fun w46 =>
              (J4 a42 w46)))) (
            newC w36 #[(.pointer none)] 51 fun a47 w48 =>
            samec 1 (Addr.add a1 1) w5 w48 (
            newC w48 #[(.slice s6.a s6.n s6.c), (.slice s35.a s35.n s35.c), (.slice s33.a s33.n s33.c), (.slice none 0 0)] 53 fun a49 w50 =>
            stC w50 a47 (.pointer (some a49)) fun w51 =>
            (J4 a47 w51))))) (
          newC w34 #[(.pointer none)] 51 fun a52 w53 =>
          samec 1 (Addr.add a1 1) w5 w53 (
          mkSl Go.Proofs.Try.prog 25 (.int .i64 ((s3.n : Nat) : Int)) (.int .i64 ((s3.n : Nat) : Int)) w53 fun s54 w55 =>
          samec 1 (Addr.add a1 1) w5 w55 (
          newC w55 #[(.slice s6.a s6.n s6.c), (.slice s54.a s54.n s54.c), (.slice s33.a s33.n s33.c), (.slice none 0 0)] 53 fun a56 w57 =>
          stC w57 a52 (.pointer (some a56)) fun w58 =>
          (J4 a52 w58)))))) (
        newC w5 #[(.pointer none)] 51 fun a59 w60 =>
        samec 1 (Addr.add a1 1) w5 w60 (
        both (
          mkSl Go.Proofs.Try.prog 25 (.int .i64 ((s3.n : Nat) : Int)) (.int .i64 ((s3.n : Nat) : Int)) w60 fun s61 w62 =>
          samec 1 (Addr.add a1 1) w5 w62 (
          mkSl Go.Proofs.Try.prog 44 (.int .i64 ((s3.n : Nat) : Int)) (.int .i64 ((s3.n : Nat) : Int)) w62 fun s63 w64 =>
          samec 1 (Addr.add a1 1) w5 w64 (
          newC w64 #[(.slice s6.a s6.n s6.c), (.slice s61.a s61.n s61.c), (.slice s63.a s63.n s63.c), (.slice none 0 0)] 53 fun a65 w66 =>
          stC w66 a59 (.pointer (some a65)) fun w67 =>
          (J4 a59 w67)))) (
          mkSl Go.Proofs.Try.prog 44 (.int .i64 ((s3.n : Nat) : Int)) (.int .i64 ((s3.n : Nat) : Int)) w60 fun s68 w69 =>
          samec 1 (Addr.add a1 1) w5 w69 (
          mkSl Go.Proofs.Try.prog 25 (.int .i64 ((s3.n : Nat) : Int)) (.int .i64 ((s3.n : Nat) : Int)) w69 fun s70 w71 =>
          samec 1 (Addr.add a1 1) w5 w71 (
          newC w71 #[(.slice s6.a s6.n s6.c), (.slice s70.a s70.n s70.c), (.slice s68.a s68.n s68.c), (.slice none 0 0)] 53 fun a72 w73 =>
          stC w73 a59 (.pointer (some a72)) fun w74 =>
          (J4 a59 w74)))))))) fun a75 w76 =>
  ldP w76 a75 fun p77 =>
  nn p77 fun a78 =>
  ldS w76 (Addr.add a78 1) fun s79 =>
  joinP (S := Unit) (fun J80 =>
    loopP (S := Int) (fun C81 i82 w83 =>
      iteB (decide (i82 < ((s79.n : Nat) : Int))) (
        ldP w83 a75 fun p84 =>
        nn p84 fun a85 =>
        ldS w83 (Addr.add a85 1) fun s86 =>
        ixS s86 i82 1 fun a87 =>
        stC w83 a87 (.int .i64 (255 : Int)) fun w88 =>
        (C81 (IntKind.wrap .i64 (i82 + (1 : Int))) w88)) (
        (J80 () w83))) (0 : Int) w76) fun u89 w90 =>
  iteB (((s3.n : Nat) : Int) == (0 : Int)) (
    ldP w90 a75 fun p91 =>
    nn p91 fun a92 =>
    ldS w90 (Addr.add a92 1) fun s93 =>
    (k s93 w90)) (
    ldP w90 a75 fun p94 =>
    ldI .i64 w90 (Addr.add a1 0) fun i95 =>
    check_flow_meet p94 (0 : Int) (andI .i64 i95 (255 : Int)) w90 fun _u w96 =>
    loopP (S := (Unit × List Nat)) (fun C97 x98 w99 =>
      ldP w99 a75 fun p100 =>
      nn p100 fun a101 =>
      ldS w99 (Addr.add a101 3) fun s102 =>
      iteB (((s102.n : Nat) : Int) == (0 : Int)) (
        ldP w99 a75 fun p103 =>
        nn p103 fun a104 =>
        ldS w99 (Addr.add a104 1) fun s105 =>
        takeP x98.2 w99 fun w106 =>
        (k s105 w106)) (
        ldP w99 a75 fun p107 =>
        nn p107 fun a108 =>
        ldS w99 (Addr.add a108 3) fun s109 =>
        ixS s109 (0 : Int) 1 fun a110 =>
        ldI .i64 w99 a110 fun i111 =>
        drew w99 fun w112 =>
        ldP w112 a75 fun p113 =>
        ldP w112 a75 fun p114 =>
        nn p114 fun a115 =>
        ldS w112 (Addr.add a115 3) fun s116 =>
        slL s116 1 (1 : Int) fun s117 =>
        nn p113 fun a118 =>
        stC w112 (Addr.add a118 3) (.slice s117.a s117.n s117.c) fun w119 =>
        ldP w119 a75 fun p120 =>
        nn p120 fun a121 =>
        ldS w119 (Addr.add a121 1) fun s122 =>
        ixS s122 i111 1 fun a123 =>
        ldI .i64 w119 a123 fun i124 =>
        newC w119 #[(.int .i64 (0 : Int))] 3 fun a125 w126 =>
        stC w126 a125 (.int .i64 i124) fun w127 =>
        ldS w127 (Addr.add a1 1) fun s128 =>
        ixS s128 i111 5 fun a129 =>
        ldA 5 w127 a129 fun cs130 =>
        newC w127 #[(.int .i64 (0 : Int)), (.int .i64 (0 : Int)), (.int .i64 (0 : Int)), (.int .i64 (0 : Int)), (.int .i64 (0 : Int))] 42 fun a131 w132 =>
        stA 5 w132 a131 cs130 fun w133 =>
        joinP (S := Bool) (fun J134 =>
          ldI .i64 w133 (Addr.add a131 0) fun i135 =>
          iteB (i135 == (8 : Int)) (
            ldI .i64 w133 (Addr.add a131 1) fun i136 =>
            iteB (decide (i136 ≥ (0 : Int))) (
              ldI .i64 w133 (Addr.add a131 1) fun i137 =>
              (J134 (decide (i137 < (8 : Int))) w133)) (
              (J134 false w133))) (
            (J134 false w133))) fun b138 w139 =>
        joinP (S := Unit) (fun J140 =>
          iteB b138 (
            drew w139 fun w141 =>
            ldI .i64 w141 a125 fun i142 =>
            ldI .i64 w141 (Addr.add a131 1) fun i143 =>
            shlI .i64 (1 : Int) i143 fun i144 =>
            stC w141 a125 (.int .i64 (orI .i64 i142 i144)) fun w145 =>
            (J140 () w145)) (
            (J140 () w139))) fun u146 w147 =>
        ldS w147 (Addr.add a1 1) fun s148 =>
        check_behind s148 i111 w147 fun v149 w150 =>
        rangeF I [(.i .i64)] v149 w150 (fun (x151 : Int) w152 C153 =>
          ldP w152 a75 fun p156 =>
          ldI .i64 w152 a125 fun i157 =>
          check_flow_meet p156 x151 i157 w152 fun _u w158 =>
          (C153 w158)) fun D154 w155 =>
        (C97 ((), (D154 :: x98.2)) w155))) ((), []) w96)
theorem e_check_Held (I : OrcI) (check_flow_meet : Option Addr → Int → Int → World → (Unit → World → Prop) → Prop) (check_behind : Sl → Int → World → ((Value) → World → Prop) → Prop) (x : KT [.ag]) (w : World) (k : KT [.s] → World → Prop) : evFn2 Go.Proofs.Try.prog (orcOf [(n_check_flow_meet, (fun args w c => unL [.p, (.i .i64), (.i .i64)] args fun x => check_flow_meet x.1 x.2.1 x.2.2 w fun r w => c (packV (valL [] r)) w)), (n_check_behind, (fun args w c => unL [.s, (.i .i64)] args fun x => check_behind x.1 x.2 w fun r w => c (packV (valL [.raw] r)) w))]) I 60886842892212147944375827038718 [(1, []), (3, [(4, .a)]), (5, []), (6, [(26, (.i .i64))]), (24, [(95, .b)]), (25, []), (29, [(105, (.i .i64))])] Go.Proofs.Try.f14 [.s] (valL [.ag] x) w k = check_Held_b I check_flow_meet check_behind x w k := by kernel_rfl
def check_Held (f_0 : Array Value) (w : World) (k : (Sl) → World → Prop) : Prop := check_Held_b (orcI [(n_check_behind_1, i_check_behind_1)]) check_flow_meet check_behind f_0 w k
def d_check_Held : Dec := fun args w c => unL [.ag] args fun x => check_Held x w fun r w => c (packV (valL [.s] r)) w
theorem s_check_Held : Sound Go.Proofs.Try.prog n_check_Held d_check_Held :=
  sound_of2 (mask := 60886842892212147944375827038718) (h := [(1, []), (3, [(4, .a)]), (5, []), (6, [(26, (.i .i64))]), (24, [(95, .b)]), (25, []), (29, [(105, (.i .i64))])]) mixed Go.Proofs.Try.func14 (orc_ok (l := [(n_check_flow_meet, d_check_flow_meet), (n_check_behind, d_check_behind)]) ⟨s_check_flow_meet, s_check_behind, trivial⟩) (orcI_ok (l := [(n_check_behind_1, i_check_behind_1)]) ⟨s_check_behind_1, trivial⟩)
    [.ag] [.s] (by kernel_rfl) (fun x w k => check_Held x w k) (fun x w k => e_check_Held (orcI [(n_check_behind_1, i_check_behind_1)]) check_flow_meet check_behind x w k)

/-- (*peloton/check.judge).places -/
def check_judge_places_b (check_goes : Int → World → ((Bool) → World → Prop) → Prop) (j_0 : Option Addr) (i_1 : Int) (w : World) (k : (Int) → World → Prop) : Prop :=
  nn j_0 fun a1 =>
  ldS w (Addr.add a1 1) fun s2 =>
  ixS s2 i_1 5 fun a3 =>
  ldA 5 w a3 fun cs4 =>
  newC w #[(.int .i64 (0 : Int)), (.int .i64 (0 : Int)), (.int .i64 (0 : Int)), (.int .i64 (0 : Int)), (.int .i64 (0 : Int))] 42 fun a5 w6 =>
  stA 5 w6 a5 cs4 fun w7 =>
  joinP (S := Bool) (fun J8 =>
    drew w7 fun w9 =>
    ldI .i64 w9 (Addr.add a5 0) fun i10 =>
    check_goes i10 w9 fun b11 w12 =>
    iteB b11 (
      ldI .i64 w12 (Addr.add a5 4) fun i13 =>
      nn j_0 fun a14 =>
      ldS w12 (Addr.add a14 1) fun s15 =>
      iteB (decide (i13 ≥ ((s15.n : Nat) : Int))) (
        (J8 true w12)) (
        ldI .i64 w12 (Addr.add a5 0) fun i16 =>
        iteB (i16 == (8 : Int)) (
          ldI .i64 w12 (Addr.add a5 4) fun i17 =>
          nn j_0 fun a18 =>
          ldS w12 (Addr.add (Addr.add a18 0) 0) fun s19 =>
          (J8 (decide (i17 ≥ ((s19.n : Nat) : Int))) w12)) (
          (J8 false w12)))) (
      ldI .i64 w12 (Addr.add a5 0) fun i20 =>
      iteB (i20 == (8 : Int)) (
        ldI .i64 w12 (Addr.add a5 4) fun i21 =>
        nn j_0 fun a22 =>
        ldS w12 (Addr.add (Addr.add a22 0) 0) fun s23 =>
        (J8 (decide (i21 ≥ ((s23.n : Nat) : Int))) w12)) (
        (J8 false w12)))) fun b24 w25 =>
  iteB b24 (
    (k (10 : Int) w25)) (
    (k (0 : Int) w25))
theorem e_check_judge_places (check_goes : Int → World → ((Bool) → World → Prop) → Prop) (x : KT [.p, (.i .i64)]) (w : World) (k : KT [(.i .i64)] → World → Prop) : evFn Go.Proofs.Try.prog (orcOf [(n_check_goes, (fun args w c => unL [(.i .i64)] args fun x => check_goes x w fun r w => c (packV (valL [.b] r)) w))]) 2199023255603 [(2, [(41, .b)])] Go.Proofs.Try.f37 [(.i .i64)] (valL [.p, (.i .i64)] x) w k = check_judge_places_b check_goes x.1 x.2 w k := by kernel_rfl
def check_judge_places (j_0 : Option Addr) (i_1 : Int) (w : World) (k : (Int) → World → Prop) : Prop := check_judge_places_b check_goes j_0 i_1 w k
def d_check_judge_places : Dec := fun args w c => unL [.p, (.i .i64)] args fun x => check_judge_places x.1 x.2 w fun r w => c (packV (valL [(.i .i64)] r)) w
theorem s_check_judge_places : Sound Go.Proofs.Try.prog n_check_judge_places d_check_judge_places :=
  sound_of (mask := 2199023255603) (h := [(2, [(41, .b)])]) (ds := [(n_check_goes, d_check_goes)]) mixed Go.Proofs.Try.func37 ⟨s_check_goes, trivial⟩
    [.p, (.i .i64)] [(.i .i64)] (by kernel_rfl) (fun x w k => check_judge_places x.1 x.2 w k) (fun x w k => e_check_judge_places check_goes x w k)

/-- (*peloton/check.judge).last -/
def check_judge_last_b (check_ends : Int → World → ((Bool) → World → Prop) → Prop) (j_0 : Option Addr) (i_1 : Int) (w : World) (k : (Int) → World → Prop) : Prop :=
  nn j_0 fun a1 =>
  ldS w (Addr.add a1 1) fun s2 =>
  ixS s2 i_1 5 fun a3 =>
  ldI .i64 w (Addr.add a3 0) fun i4 =>
  joinP (S := Bool) (fun J5 =>
    nn j_0 fun a6 =>
    ldS w (Addr.add a6 1) fun s7 =>
    iteB ((i_1 == (IntKind.wrap .i64 (((s7.n : Nat) : Int) - (1 : Int)))) && (i4 != (6 : Int))) (
      check_ends i4 w fun b8 w9 =>
      (J5 (!b8) w9)) (
      (J5 false w))) fun b10 w11 =>
  iteB b10 (
    (k (11 : Int) w11)) (
    (k (0 : Int) w11))
theorem e_check_judge_last (check_ends : Int → World → ((Bool) → World → Prop) → Prop) (x : KT [.p, (.i .i64)]) (w : World) (k : KT [(.i .i64)] → World → Prop) : evFn Go.Proofs.Try.prog (orcOf [(n_check_ends, (fun args w c => unL [(.i .i64)] args fun x => check_ends x w fun r w => c (packV (valL [.b] r)) w))]) 1073741875 [(2, [(30, .b)])] Go.Proofs.Try.f38 [(.i .i64)] (valL [.p, (.i .i64)] x) w k = check_judge_last_b check_ends x.1 x.2 w k := by kernel_rfl
def check_judge_last (j_0 : Option Addr) (i_1 : Int) (w : World) (k : (Int) → World → Prop) : Prop := check_judge_last_b check_ends j_0 i_1 w k
def d_check_judge_last : Dec := fun args w c => unL [.p, (.i .i64)] args fun x => check_judge_last x.1 x.2 w fun r w => c (packV (valL [(.i .i64)] r)) w
theorem s_check_judge_last : Sound Go.Proofs.Try.prog n_check_judge_last d_check_judge_last :=
  sound_of (mask := 1073741875) (h := [(2, [(30, .b)])]) (ds := [(n_check_ends, d_check_ends)]) mixed Go.Proofs.Try.func38 ⟨s_check_ends, trivial⟩
    [.p, (.i .i64)] [(.i .i64)] (by kernel_rfl) (fun x w k => check_judge_last x.1 x.2 w k) (fun x w k => e_check_judge_last check_ends x w k)

/-- (*peloton/check.judge).scopes -/
def check_judge_scopes (j_0 : Option Addr) (i_1 : Int) (w : World) (k : (Int) → World → Prop) : Prop :=
  drew w fun w1 =>
  nn j_0 fun a2 =>
  ldS w1 (Addr.add a2 1) fun s3 =>
  ixS s3 i_1 5 fun a4 =>
  ldA 5 w1 a4 fun cs5 =>
  nn j_0 fun a6 =>
  ldS w1 (Addr.add a6 2) fun s7 =>
  ixS s7 i_1 1 fun a8 =>
  ldI .i64 w1 a8 fun i9 =>
  newC w1 #[(.int .i64 (0 : Int)), (.int .i64 (0 : Int)), (.int .i64 (0 : Int)), (.int .i64 (0 : Int)), (.int .i64 (0 : Int))] 42 fun a10 w11 =>
  samec 1 a8 w1 w11 (
  samec 1 (Addr.add a6 2) w1 w11 (
  samec 5 a4 w1 w11 (
  samec 1 (Addr.add a2 1) w1 w11 (
  stA 5 w11 a10 cs5 fun w12 =>
  samec 1 a8 w1 w12 (
  samec 1 (Addr.add a6 2) w1 w12 (
  ldI .i64 w12 (Addr.add a10 0) fun i13 =>
  joinP (S := Bool) (fun J14 =>
    iteB (i13 == (12 : Int)) (
      (J14 (i13 == (12 : Int)) w12)) (
      (J14 (i13 == (13 : Int)) w12))) fun b15 w16 =>
  joinP (S := Bool) (fun J17 =>
    iteB b15 (
      (J17 (decide (i9 ≥ (1 : Int))) w16)) (
      iteB (i13 == (16 : Int)) (
        (J17 (i9 == (0 : Int)) w16)) (
        joinP (S := Bool) (fun J18 =>
          iteB (i13 == (6 : Int)) (
            (J18 (i13 == (6 : Int)) w16)) (
            (J18 (i13 == (7 : Int)) w16))) fun b19 w20 =>
        iteB b19 (
          drew w20 fun w21 =>
          nn j_0 fun a22 =>
          ldS w21 (Addr.add a22 2) fun s23 =>
          ldI .i64 w21 (Addr.add a10 4) fun i24 =>
          ixS s23 i24 1 fun a25 =>
          ldI .i64 w21 a25 fun i26 =>
          (J17 (i26 == i9) w21)) (
          (J17 true w20))))) fun b27 w28 =>
  iteB (!b27) (
    (k (15 : Int) w28)) (
    (k (0 : Int) w28))))))))
def d_check_judge_scopes : Dec := fun args w c => unL [.p, (.i .i64)] args fun x => check_judge_scopes x.1 x.2 w fun r w => c (packV (valL [(.i .i64)] r)) w
theorem s_check_judge_scopes : Sound Go.Proofs.Try.prog n_check_judge_scopes d_check_judge_scopes :=
  sound_of (mask := 140746640326899) (h := [(6, [(24, .b)]), (8, [(7, .b)]), (14, [(33, .b)])]) (ds := []) mixed Go.Proofs.Try.func39 trivial
    [.p, (.i .i64)] [(.i .i64)] (by kernel_rfl) (fun x w k => check_judge_scopes x.1 x.2 w k) (fun x w k => by kernel_rfl)

/-- (*peloton/check.judge).handles -/
def check_judge_handles (j_0 : Option Addr) (i_1 : Int) (w : World) (k : (Int) → World → Prop) : Prop :=
  nn j_0 fun a1 =>
  ldS w (Addr.add a1 1) fun s2 =>
  ixS s2 i_1 5 fun a3 =>
  ldA 5 w a3 fun cs4 =>
  newC w #[(.int .i64 (0 : Int)), (.int .i64 (0 : Int)), (.int .i64 (0 : Int)), (.int .i64 (0 : Int)), (.int .i64 (0 : Int))] 42 fun a5 w6 =>
  stA 5 w6 a5 cs4 fun w7 =>
  ldI .i64 w7 (Addr.add a5 0) fun i8 =>
  joinP (S := Int) (fun J9 =>
    iteB (i8 == (9 : Int)) (
      ldI .i64 w7 (Addr.add a5 2) fun i10 =>
      shlI .i64 (1 : Int) i10 fun i11 =>
      (J9 i11 w7)) (
      iteB (i8 == (10 : Int)) (
        ldI .i64 w7 (Addr.add a5 3) fun i12 =>
        shlI .i64 (1 : Int) i12 fun i13 =>
        (J9 i13 w7)) (
        iteB (i8 == (8 : Int)) (
          drew w7 fun w14 =>
          nn j_0 fun a15 =>
          ldS w14 (Addr.add (Addr.add a15 0) 0) fun s16 =>
          ldI .i64 w14 (Addr.add a5 4) fun i17 =>
          ixS s16 i17 2 fun a18 =>
          ldI .i64 w14 (Addr.add a18 0) fun i19 =>
          (J9 i19 w14)) (
          (J9 (0 : Int) w7))))) fun i20 w21 =>
  nn j_0 fun a22 =>
  ldS w21 (Addr.add a22 3) fun s23 =>
  ixS s23 i_1 1 fun a24 =>
  ldI .i64 w21 a24 fun i25 =>
  iteB ((andNotI .i64 i20 i25) != (0 : Int)) (
    (k (16 : Int) w21)) (
    (k (0 : Int) w21))
def d_check_judge_handles : Dec := fun args w c => unL [.p, (.i .i64)] args fun x => check_judge_handles x.1 x.2 w fun r w => c (packV (valL [(.i .i64)] r)) w
theorem s_check_judge_handles : Sound Go.Proofs.Try.prog n_check_judge_handles d_check_judge_handles :=
  sound_of (mask := 140737557659763) (h := [(6, [(6, (.i .i64))])]) (ds := []) mixed Go.Proofs.Try.func40 trivial
    [.p, (.i .i64)] [(.i .i64)] (by kernel_rfl) (fun x w k => check_judge_handles x.1 x.2 w k) (fun x w k => by kernel_rfl)

/-- peloton/check.function -/
def check_function_b (check_Depths : Sl → World → ((Sl) → World → Prop) → Prop) (check_Held : Array Value → World → ((Sl) → World → Prop) → Prop) (check_judge_places : Option Addr → Int → World → ((Int) → World → Prop) → Prop) (check_judge_last : Option Addr → Int → World → ((Int) → World → Prop) → Prop) (check_judge_scopes : Option Addr → Int → World → ((Int) → World → Prop) → Prop) (check_judge_handles : Option Addr → Int → World → ((Int) → World → Prop) → Prop) (p_0 : Array Value) (k_1 : Int) (w : World) (k : (Array Value) → World → Prop) : Prop :=
  newC w p_0 34 fun a1 w2 =>
  newC w2 #[(.int .i64 (0 : Int)), (.int .i64 (0 : Int)), (.int .i64 (0 : Int))] 38 fun a3 w4 =>
  ldS w4 (Addr.add a1 0) fun s5 =>
  ixS s5 k_1 2 fun a6 =>
  ldA 2 w4 a6 fun cs7 =>
  newC w4 #[(.int .i64 (0 : Int)), (.slice none 0 0)] 29 fun a8 w9 =>
  stA 2 w9 a8 cs7 fun w10 =>
  drew w10 fun w11 =>
  ldA 1 w11 a1 fun cs12 =>
  ldS w11 (Addr.add a8 1) fun s13 =>
  ldS w11 (Addr.add a8 1) fun s14 =>
  ldA 2 w11 a8 fun cs15 =>
  check_Depths s14 w11 fun s16 w17 =>
  samec 2 a8 w11 w17 (
  samec 1 (Addr.add a8 1) w11 w17 (
  samec 1 a1 w11 w17 (
  check_Held cs15 w17 fun s18 w19 =>
  samec 1 (Addr.add a8 1) w11 w19 (
  samec 1 a1 w11 w19 (
  spl #[(.slice none 0 0), (.slice none 0 0), (.slice none 0 0), (.slice none 0 0)] 0 1 cs12 fun cs20 =>
  newC w19 (Array.setIfInBounds (Array.setIfInBounds (Array.setIfInBounds cs20 1 (.slice s13.a s13.n s13.c)) 2 (.slice s16.a s16.n s16.c)) 3 (.slice s18.a s18.n s18.c)) 69 fun a21 w22 =>
  newC w22 #[(.func (.func n_check_judge_places) #[(.pointer (some a21))] #[]), (.func (.func n_check_judge_last) #[(.pointer (some a21))] #[]), (.func (.func n_check_judge_scopes) #[(.pointer (some a21))] #[]), (.func (.func n_check_judge_handles) #[(.pointer (some a21))] #[])] 70 fun a23 w24 =>
  ldS w24 (Addr.add a8 1) fun s25 =>
  loopP (S := Int) (fun C26 i27 w28 =>
    iteB (decide (i27 < ((s25.n : Nat) : Int))) (
      loopP (S := Int) (fun C29 i30 w31 =>
        iteB (decide (i30 < ((4 : Nat) : Int))) (
          ixS (Sl.mk (some a23) 4 4) i30 1 fun a32 =>
          ldV w31 a32 fun v33 =>
          callF (orcOf [(n_check_Depths, (fun args w c => unL [.s] args fun x => check_Depths x w fun r w => c (packV (valL [.s] r)) w)), (n_check_Held, (fun args w c => unL [.ag] args fun x => check_Held x w fun r w => c (packV (valL [.s] r)) w)), (n_check_judge_places, (fun args w c => unL [.p, (.i .i64)] args fun x => check_judge_places x.1 x.2 w fun r w => c (packV (valL [(.i .i64)] r)) w)), (n_check_judge_last, (fun args w c => unL [.p, (.i .i64)] args fun x => check_judge_last x.1 x.2 w fun r w => c (packV (valL [(.i .i64)] r)) w)), (n_check_judge_scopes, (fun args w c => unL [.p, (.i .i64)] args fun x => check_judge_scopes x.1 x.2 w fun r w => c (packV (valL [(.i .i64)] r)) w)), (n_check_judge_handles, (fun args w c => unL [.p, (.i .i64)] args fun x => check_judge_handles x.1 x.2 w fun r w => c (packV (valL [(.i .i64)] r)) w))]) v33 #[(.int .i64 i27)] w31 fun v34 w35 =>
          toI .i64 v34 fun i36 =>
          iteB (i36 != (0 : Int)) (
            stA 3 w35 a3 #[(.int .i64 k_1), (.int .i64 i27), (.int .i64 i36)] fun w37 =>
            ldA 3 w37 a3 fun cs38 =>
            (k cs38 w37)) (
            (C29 (IntKind.wrap .i64 (i30 + (1 : Int))) w35))) (
          (C26 (IntKind.wrap .i64 (i27 + (1 : Int))) w31))) (0 : Int) w28) (
      stA 3 w28 a3 #[(.int .i64 (0 : Int)), (.int .i64 (0 : Int)), (.int .i64 (0 : Int))] fun w39 =>
      ldA 3 w39 a3 fun cs40 =>
      (k cs40 w39))) (0 : Int) w24)))))
theorem e_check_function (check_Depths : Sl → World → ((Sl) → World → Prop) → Prop) (check_Held : Array Value → World → ((Sl) → World → Prop) → Prop) (check_judge_places : Option Addr → Int → World → ((Int) → World → Prop) → Prop) (check_judge_last : Option Addr → Int → World → ((Int) → World → Prop) → Prop) (check_judge_scopes : Option Addr → Int → World → ((Int) → World → Prop) → Prop) (check_judge_handles : Option Addr → Int → World → ((Int) → World → Prop) → Prop) (x : KT [.ag, (.i .i64)]) (w : World) (k : KT [.ag] → World → Prop) : evFn Go.Proofs.Try.prog (orcOf [(n_check_Depths, (fun args w c => unL [.s] args fun x => check_Depths x w fun r w => c (packV (valL [.s] r)) w)), (n_check_Held, (fun args w c => unL [.ag] args fun x => check_Held x w fun r w => c (packV (valL [.s] r)) w)), (n_check_judge_places, (fun args w c => unL [.p, (.i .i64)] args fun x => check_judge_places x.1 x.2 w fun r w => c (packV (valL [(.i .i64)] r)) w)), (n_check_judge_last, (fun args w c => unL [.p, (.i .i64)] args fun x => check_judge_last x.1 x.2 w fun r w => c (packV (valL [(.i .i64)] r)) w)), (n_check_judge_scopes, (fun args w c => unL [.p, (.i .i64)] args fun x => check_judge_scopes x.1 x.2 w fun r w => c (packV (valL [(.i .i64)] r)) w)), (n_check_judge_handles, (fun args w c => unL [.p, (.i .i64)] args fun x => check_judge_handles x.1 x.2 w fun r w => c (packV (valL [(.i .i64)] r)) w))]) 4571494470389238 [(6, [(39, (.i .i64))]), (13, [(44, (.i .i64))])] Go.Proofs.Try.f29 [.ag] (valL [.ag, (.i .i64)] x) w k = check_function_b check_Depths check_Held check_judge_places check_judge_last check_judge_scopes check_judge_handles x.1 x.2 w k := by kernel_rfl
def check_function (p_0 : Array Value) (k_1 : Int) (w : World) (k : (Array Value) → World → Prop) : Prop := check_function_b check_Depths check_Held check_judge_places check_judge_last check_judge_scopes check_judge_handles p_0 k_1 w k
def d_check_function : Dec := fun args w c => unL [.ag, (.i .i64)] args fun x => check_function x.1 x.2 w fun r w => c (packV (valL [.ag] r)) w
theorem s_check_function : Sound Go.Proofs.Try.prog n_check_function d_check_function :=
  sound_of (mask := 4571494470389238) (h := [(6, [(39, (.i .i64))]), (13, [(44, (.i .i64))])]) (ds := [(n_check_Depths, d_check_Depths), (n_check_Held, d_check_Held), (n_check_judge_places, d_check_judge_places), (n_check_judge_last, d_check_judge_last), (n_check_judge_scopes, d_check_judge_scopes), (n_check_judge_handles, d_check_judge_handles)]) mixed Go.Proofs.Try.func29 ⟨s_check_Depths, s_check_Held, s_check_judge_places, s_check_judge_last, s_check_judge_scopes, s_check_judge_handles, trivial⟩
    [.ag, (.i .i64)] [.ag] (by kernel_rfl) (fun x w k => check_function x.1 x.2 w k) (fun x w k => e_check_function check_Depths check_Held check_judge_places check_judge_last check_judge_scopes check_judge_handles x w k)

/-- peloton/check.Program -/
def check_Program_b (check_shape : Array Value → World → ((Int × Int) → World → Prop) → Prop) (check_function : Array Value → Int → World → ((Array Value) → World → Prop) → Prop) (p_0 : Array Value) (w : World) (k : (Array Value) → World → Prop) : Prop :=
  newC w p_0 34 fun a1 w2 =>
  newC w2 #[(.int .i64 (0 : Int)), (.int .i64 (0 : Int)), (.int .i64 (0 : Int))] 38 fun a3 w4 =>
  joinP (S := Bool) (fun J5 =>
    ldS w4 (Addr.add a1 0) fun s6 =>
    iteB (decide (((s6.n : Nat) : Int) < (1 : Int))) (
      (J5 true w4)) (
      ldS w4 (Addr.add a1 0) fun s7 =>
      (J5 (decide (((s7.n : Nat) : Int) > (32 : Int))) w4))) fun b8 w9 =>
  iteB b8 (
    stA 3 w9 a3 #[(.int .i64 (-(1 : Int))), (.int .i64 (-(1 : Int))), (.int .i64 (12 : Int))] fun w10 =>
    ldA 3 w10 a3 fun cs11 =>
    (k cs11 w10)) (
    ldS w9 (Addr.add a1 0) fun s12 =>
    joinP (S := Unit) (fun J13 =>
      loopP (S := Int) (fun C14 i15 w16 =>
        iteB (decide (i15 < ((s12.n : Nat) : Int))) (
          ixS s12 i15 2 fun a17 =>
          ldA 2 w16 a17 fun cs18 =>
          newC w16 #[(.int .i64 (0 : Int)), (.slice none 0 0)] 29 fun a19 w20 =>
          stA 2 w20 a19 cs18 fun w21 =>
          ldA 2 w21 a19 fun cs22 =>
          check_shape cs22 w21 fun x23 w24 =>
          iteB ((x23.1, x23.2).2 != (0 : Int)) (
            stA 3 w24 a3 #[(.int .i64 i15), (.int .i64 (x23.1, x23.2).1), (.int .i64 (x23.1, x23.2).2)] fun w25 =>
            ldA 3 w25 a3 fun cs26 =>
            (k cs26 w25)) (
            (C14 (IntKind.wrap .i64 (i15 + (1 : Int))) w24))) (
          (J13 () w16))) (0 : Int) w9) fun u27 w28 =>
    ldS w28 (Addr.add a1 0) fun s29 =>
    ixS s29 (0 : Int) 2 fun a30 =>
    ldI .i64 w28 (Addr.add a30 0) fun i31 =>
    iteB (i31 != (0 : Int)) (
      stA 3 w28 a3 #[(.int .i64 (0 : Int)), (.int .i64 (-(1 : Int))), (.int .i64 (16 : Int))] fun w32 =>
      ldA 3 w32 a3 fun cs33 =>
      (k cs33 w32)) (
      ldS w28 (Addr.add a1 0) fun s34 =>
      loopP (S := Int) (fun C35 i36 w37 =>
        iteB (decide (i36 < ((s34.n : Nat) : Int))) (
          ldA 1 w37 a1 fun cs38 =>
          check_function cs38 i36 w37 fun cs39 w40 =>
          newC w40 #[(.int .i64 (0 : Int)), (.int .i64 (0 : Int)), (.int .i64 (0 : Int))] 38 fun a41 w42 =>
          stA 3 w42 a41 cs39 fun w43 =>
          ldA 3 w43 a41 fun cs44 =>
          eqA ([(0, 0)] ++ ([(1, 0)] ++ ([(2, 0)] ++ []))) cs44 #[(.int .i64 (0 : Int)), (.int .i64 (0 : Int)), (.int .i64 (0 : Int))] fun b45 =>
          iteB (!b45) (
            ldA 3 w43 a41 fun cs46 =>
            stA 3 w43 a3 cs46 fun w47 =>
            ldA 3 w47 a3 fun cs48 =>
            (k cs48 w47)) (
            (C35 (IntKind.wrap .i64 (i36 + (1 : Int))) w43))) (
          stA 3 w37 a3 #[(.int .i64 (0 : Int)), (.int .i64 (0 : Int)), (.int .i64 (0 : Int))] fun w49 =>
          ldA 3 w49 a3 fun cs50 =>
          (k cs50 w49))) (0 : Int) w28))
theorem e_check_Program (check_shape : Array Value → World → ((Int × Int) → World → Prop) → Prop) (check_function : Array Value → Int → World → ((Array Value) → World → Prop) → Prop) (x : KT [.ag]) (w : World) (k : KT [.ag] → World → Prop) : evFn Go.Proofs.Try.prog (orcOf [(n_check_shape, (fun args w c => unL [.ag] args fun x => check_shape x w fun r w => c (packV (valL [(.i .i64), (.i .i64)] r)) w)), (n_check_function, (fun args w c => unL [.ag, (.i .i64)] args fun x => check_function x.1 x.2 w fun r w => c (packV (valL [.ag] r)) w))]) 292206227409338878 [(1, [(18, .b)]), (5, []), (6, [(23, (.i .i64))]), (21, [(50, (.i .i64))])] Go.Proofs.Try.f17 [.ag] (valL [.ag] x) w k = check_Program_b check_shape check_function x w k := by kernel_rfl
def check_Program (p_0 : Array Value) (w : World) (k : (Array Value) → World → Prop) : Prop := check_Program_b check_shape check_function p_0 w k
def d_check_Program : Dec := fun args w c => unL [.ag] args fun x => check_Program x w fun r w => c (packV (valL [.ag] r)) w
theorem s_check_Program : Sound Go.Proofs.Try.prog n_check_Program d_check_Program :=
  sound_of (mask := 292206227409338878) (h := [(1, [(18, .b)]), (5, []), (6, [(23, (.i .i64))]), (21, [(50, (.i .i64))])]) (ds := [(n_check_shape, d_check_shape), (n_check_function, d_check_function)]) mixed Go.Proofs.Try.func17 ⟨s_check_shape, s_check_function, trivial⟩
    [.ag] [.ag] (by kernel_rfl) (fun x w k => check_Program x w k) (fun x w k => e_check_Program check_shape check_function x w k)

/-- peloton/pelotonlaw04.awake -/
def pelotonlaw04_awake_b (pelotonlaw04_one : Sl → World → ((Array Value) → World → Prop) → Prop) (check_Program : Array Value → World → ((Array Value) → World → Prop) → Prop)  (w : World) (k : (Bool) → World → Prop) : Prop :=
  spl #[(.int .i64 (0 : Int)), (.int .i64 (0 : Int)), (.int .i64 (0 : Int)), (.int .i64 (0 : Int)), (.int .i64 (0 : Int)), (.int .i64 (0 : Int)), (.int .i64 (0 : Int)), (.int .i64 (0 : Int)), (.int .i64 (0 : Int)), (.int .i64 (0 : Int)), (.int .i64 (0 : Int)), (.int .i64 (0 : Int)), (.int .i64 (0 : Int)), (.int .i64 (0 : Int)), (.int .i64 (0 : Int))] 0 5 #[(.int .i64 (8 : Int)), (.int .i64 (1 : Int)), (.int .i64 (0 : Int)), (.int .i64 (0 : Int)), (.int .i64 (0 : Int))] fun cs1 =>
  spl cs1 5 5 #[(.int .i64 (9 : Int)), (.int .i64 (0 : Int)), (.int .i64 (1 : Int)), (.int .i64 (0 : Int)), (.int .i64 (0 : Int))] fun cs2 =>
  spl cs2 10 5 #[(.int .i64 (16 : Int)), (.int .i64 (0 : Int)), (.int .i64 (0 : Int)), (.int .i64 (0 : Int)), (.int .i64 (0 : Int))] fun cs3 =>
  newC w cs3 42 fun a4 w5 =>
  pelotonlaw04_one (Sl.mk (some a4) 3 3) w5 fun cs6 w7 =>
  check_Program cs6 w7 fun cs8 w9 =>
  newC w9 #[(.int .i64 (0 : Int)), (.int .i64 (0 : Int)), (.int .i64 (0 : Int))] 38 fun a10 w11 =>
  stA 3 w11 a10 cs8 fun w12 =>
  slL (Sl.mk (some a4) 3 3) 5 (1 : Int) fun s13 =>
  pelotonlaw04_one s13 w12 fun cs14 w15 =>
  check_Program cs14 w15 fun cs16 w17 =>
  newC w17 #[(.int .i64 (0 : Int)), (.int .i64 (0 : Int)), (.int .i64 (0 : Int))] 38 fun a18 w19 =>
  stA 3 w19 a18 cs16 fun w20 =>
  spl #[(.int .i64 (0 : Int)), (.int .i64 (0 : Int)), (.int .i64 (0 : Int)), (.int .i64 (0 : Int)), (.int .i64 (0 : Int)), (.int .i64 (0 : Int)), (.int .i64 (0 : Int)), (.int .i64 (0 : Int)), (.int .i64 (0 : Int)), (.int .i64 (0 : Int))] 0 5 #[(.int .i64 (11 : Int)), (.int .i64 (0 : Int)), (.int .i64 (0 : Int)), (.int .i64 (0 : Int)), (.int .i64 (0 : Int))] fun cs21 =>
  spl cs21 5 5 #[(.int .i64 (16 : Int)), (.int .i64 (0 : Int)), (.int .i64 (0 : Int)), (.int .i64 (0 : Int)), (.int .i64 (0 : Int))] fun cs22 =>
  newC w20 cs22 42 fun a23 w24 =>
  pelotonlaw04_one (Sl.mk (some a23) 2 2) w24 fun cs25 w26 =>
  check_Program cs25 w26 fun cs27 w28 =>
  newC w28 #[(.int .i64 (0 : Int)), (.int .i64 (0 : Int)), (.int .i64 (0 : Int))] 38 fun a29 w30 =>
  stA 3 w30 a29 cs27 fun w31 =>
  ldA 3 w31 a10 fun cs32 =>
  eqA ([(0, 0)] ++ ([(1, 0)] ++ ([(2, 0)] ++ []))) cs32 #[(.int .i64 (0 : Int)), (.int .i64 (0 : Int)), (.int .i64 (0 : Int))] fun b33 =>
  iteB b33 (
    ldA 3 w31 a18 fun cs34 =>
    eqA ([(0, 0)] ++ ([(1, 0)] ++ ([(2, 0)] ++ []))) cs34 #[(.int .i64 (0 : Int)), (.int .i64 (0 : Int)), (.int .i64 (16 : Int))] fun b35 =>
    iteB b35 (
      ldA 3 w31 a29 fun cs36 =>
      eqA ([(0, 0)] ++ ([(1, 0)] ++ ([(2, 0)] ++ []))) cs36 #[(.int .i64 (0 : Int)), (.int .i64 (1 : Int)), (.int .i64 (15 : Int))] fun b37 =>
      (k b37 w31)) (
      (k false w31))) (
    (k false w31))
theorem e_pelotonlaw04_awake (pelotonlaw04_one : Sl → World → ((Array Value) → World → Prop) → Prop) (check_Program : Array Value → World → ((Array Value) → World → Prop) → Prop) (x : KT []) (w : World) (k : KT [.b] → World → Prop) : evFn Go.Proofs.Try.prog (orcOf [(n_pelotonlaw04_one, (fun args w c => unL [.s] args fun x => pelotonlaw04_one x w fun r w => c (packV (valL [.ag] r)) w)), (n_check_Program, (fun args w c => unL [.ag] args fun x => check_Program x w fun r w => c (packV (valL [.ag] r)) w))]) 31 [] Go.Proofs.Try.f10 [.b] (valL [] x) w k = pelotonlaw04_awake_b pelotonlaw04_one check_Program  w k := by kernel_rfl
def pelotonlaw04_awake  (w : World) (k : (Bool) → World → Prop) : Prop := pelotonlaw04_awake_b pelotonlaw04_one check_Program  w k
def d_pelotonlaw04_awake : Dec := fun args w c => unL [] args fun x => pelotonlaw04_awake  w fun r w => c (packV (valL [.b] r)) w
theorem s_pelotonlaw04_awake : Sound Go.Proofs.Try.prog n_pelotonlaw04_awake d_pelotonlaw04_awake :=
  sound_of (mask := 31) (h := []) (ds := [(n_pelotonlaw04_one, d_pelotonlaw04_one), (n_check_Program, d_check_Program)]) mixed Go.Proofs.Try.func10 ⟨s_pelotonlaw04_one, s_check_Program, trivial⟩
    [] [.b] (by kernel_rfl) (fun x w k => pelotonlaw04_awake  w k) (fun x w k => e_pelotonlaw04_awake pelotonlaw04_one check_Program x w k)

/-- peloton/pelotonref04.Depths -/
def pelotonref04_Depths (code_0 : Sl) (w : World) (k : (Sl) → World → Prop) : Prop :=
  loopP (S := (Sl × (Int × Int))) (fun C1 x2 w3 =>
    iteB (decide (x2.2.2 < ((code_0.n : Nat) : Int))) (
      newC w3 #[(.int .i64 x2.2.1)] 3 fun a4 w5 =>
      bApp Go.Proofs.Try.prog #[25, 25] 25 [(.slice x2.1.a x2.1.n x2.1.c), (.slice (some a4) 1 1)] w5 fun s6 w7 =>
      ixS code_0 x2.2.2 5 fun a8 =>
      ldI .i64 w7 (Addr.add a8 0) fun i9 =>
      joinP (S := Int) (fun J10 =>
        iteB (i9 == (11 : Int)) (
          (J10 (IntKind.wrap .i64 (x2.2.1 + (1 : Int))) w7)) (
          (J10 x2.2.1 w7))) fun i11 w12 =>
      ixS code_0 x2.2.2 5 fun a13 =>
      ldI .i64 w12 (Addr.add a13 0) fun i14 =>
      iteB (i14 == (12 : Int)) (
        (C1 (s6, ((IntKind.wrap .i64 (i11 - (1 : Int))), (IntKind.wrap .i64 (x2.2.2 + (1 : Int))))) w12)) (
        (C1 (s6, (i11, (IntKind.wrap .i64 (x2.2.2 + (1 : Int))))) w12))) (
      (k x2.1 w3))) ((Sl.mk none 0 0), ((0 : Int), (0 : Int))) w
def d_pelotonref04_Depths : Dec := fun args w c => unL [.s] args fun x => pelotonref04_Depths x w fun r w => c (packV (valL [.s] r)) w
theorem s_pelotonref04_Depths : Sound Go.Proofs.Try.prog n_pelotonref04_Depths d_pelotonref04_Depths :=
  sound_of (mask := 538968637) (h := [(5, [(3, .s), (4, (.i .i64)), (5, (.i .i64))]), (11, [(4, (.i .i64))])]) (ds := []) mixed Go.Proofs.Try.func13 trivial
    [.s] [.s] (by kernel_rfl) (fun x w k => pelotonref04_Depths x w k) (fun x w k => by kernel_rfl)

/-- peloton/pelotonlaw04.ints -/
def pelotonlaw04_ints (a_0 : Sl) (b_1 : Sl) (w : World) (k : (Bool) → World → Prop) : Prop :=
  iteB (((a_0.n : Nat) : Int) != ((b_1.n : Nat) : Int)) (
    (k false w)) (
    loopP (S := Int) (fun C1 i2 w3 =>
      iteB (decide (i2 < ((a_0.n : Nat) : Int))) (
        drew w3 fun w4 =>
        ixS a_0 i2 1 fun a5 =>
        ldI .i64 w4 a5 fun i6 =>
        ixS b_1 i2 1 fun a7 =>
        ldI .i64 w4 a7 fun i8 =>
        iteB (i6 != i8) (
          (k false w4)) (
          (C1 (IntKind.wrap .i64 (i2 + (1 : Int))) w4))) (
        (k true w3))) (0 : Int) w)
def d_pelotonlaw04_ints : Dec := fun args w c => unL [.s, .s] args fun x => pelotonlaw04_ints x.1 x.2 w fun r w => c (packV (valL [.b] r)) w
theorem s_pelotonlaw04_ints : Sound Go.Proofs.Try.prog n_pelotonlaw04_ints d_pelotonlaw04_ints :=
  sound_of (mask := 33571891) (h := [(6, [(5, (.i .i64))])]) (ds := []) mixed Go.Proofs.Try.func11 trivial
    [.s, .s] [.b] (by kernel_rfl) (fun x w k => pelotonlaw04_ints x.1 x.2 w k) (fun x w k => by kernel_rfl)

/-- peloton/pelotonlaw04.CheckDepths -/
def pelotonlaw04_CheckDepths_b (pelotonlaw04_awake : World → ((Bool) → World → Prop) → Prop) (check_Depths : Sl → World → ((Sl) → World → Prop) → Prop) (pelotonref04_Depths : Sl → World → ((Sl) → World → Prop) → Prop) (pelotonlaw04_ints : Sl → Sl → World → ((Bool) → World → Prop) → Prop) (l_0 : Sl) (w : World) (k : (Bool) → World → Prop) : Prop :=
  iteB (decide (((l_0.n : Nat) : Int) > (300 : Int))) (
    pelotonlaw04_awake  w fun b1 w2 =>
    (k b1 w2)) (
    check_Depths l_0 w fun s3 w4 =>
    pelotonref04_Depths l_0 w4 fun s5 w6 =>
    pelotonlaw04_ints s3 s5 w6 fun b7 w8 =>
    iteB b7 (
      pelotonlaw04_awake  w8 fun b9 w10 =>
      (k b9 w10)) (
      (k false w8)))
theorem e_pelotonlaw04_CheckDepths (pelotonlaw04_awake : World → ((Bool) → World → Prop) → Prop) (check_Depths : Sl → World → ((Sl) → World → Prop) → Prop) (pelotonref04_Depths : Sl → World → ((Sl) → World → Prop) → Prop) (pelotonlaw04_ints : Sl → Sl → World → ((Bool) → World → Prop) → Prop) (x : KT [.s]) (w : World) (k : KT [.b] → World → Prop) : evFn Go.Proofs.Try.prog (orcOf [(n_pelotonlaw04_awake, (fun args w c => unL [] args fun x => pelotonlaw04_awake  w fun r w => c (packV (valL [.b] r)) w)), (n_check_Depths, (fun args w c => unL [.s] args fun x => check_Depths x w fun r w => c (packV (valL [.s] r)) w)), (n_pelotonref04_Depths, (fun args w c => unL [.s] args fun x => pelotonref04_Depths x w fun r w => c (packV (valL [.s] r)) w)), (n_pelotonlaw04_ints, (fun args w c => unL [.s, .s] args fun x => pelotonlaw04_ints x.1 x.2 w fun r w => c (packV (valL [.b] r)) w))]) 37 [] Go.Proofs.Try.f3 [.b] (valL [.s] x) w k = pelotonlaw04_CheckDepths_b pelotonlaw04_awake check_Depths pelotonref04_Depths pelotonlaw04_ints x w k := by kernel_rfl
def pelotonlaw04_CheckDepths (l_0 : Sl) (w : World) (k : (Bool) → World → Prop) : Prop := pelotonlaw04_CheckDepths_b pelotonlaw04_awake check_Depths pelotonref04_Depths pelotonlaw04_ints l_0 w k
def d_pelotonlaw04_CheckDepths : Dec := fun args w c => unL [.s] args fun x => pelotonlaw04_CheckDepths x w fun r w => c (packV (valL [.b] r)) w
theorem s_pelotonlaw04_CheckDepths : Sound Go.Proofs.Try.prog n_pelotonlaw04_CheckDepths d_pelotonlaw04_CheckDepths :=
  sound_of (mask := 37) (h := []) (ds := [(n_pelotonlaw04_awake, d_pelotonlaw04_awake), (n_check_Depths, d_check_Depths), (n_pelotonref04_Depths, d_pelotonref04_Depths), (n_pelotonlaw04_ints, d_pelotonlaw04_ints)]) mixed Go.Proofs.Try.func3 ⟨s_pelotonlaw04_awake, s_check_Depths, s_pelotonref04_Depths, s_pelotonlaw04_ints, trivial⟩
    [.s] [.b] (by kernel_rfl) (fun x w k => pelotonlaw04_CheckDepths x w k) (fun x w k => e_pelotonlaw04_CheckDepths pelotonlaw04_awake check_Depths pelotonref04_Depths pelotonlaw04_ints x w k)

/-- peloton/pelotonref04.Behind -/
def pelotonref04_Behind (code_0 : Sl) (i_1 : Int) (w : World) (k : (Sl) → World → Prop) : Prop :=
  ixS code_0 i_1 5 fun a1 =>
  ldI .i64 w (Addr.add a1 0) fun i2 =>
  joinP (S := Sl) (fun J3 =>
    iteB ((i2 == (6 : Int)) || (i2 == (7 : Int))) (
      ixS code_0 i_1 5 fun a4 =>
      ldI .i64 w (Addr.add a4 4) fun i5 =>
      newC w #[(.int .i64 i5)] 3 fun a6 w7 =>
      bApp Go.Proofs.Try.prog #[25, 25] 25 [(.slice none 0 0), (.slice (some a6) 1 1)] w7 fun s8 w9 =>
      (J3 s8 w9)) (
      (J3 (Sl.mk none 0 0) w))) fun s10 w11 =>
  joinP (S := Sl) (fun J12 =>
    iteB (((i2 != (6 : Int)) && (i2 != (16 : Int))) && (i2 != (15 : Int))) (
      newC w11 #[(.int .i64 (IntKind.wrap .i64 (i_1 + (1 : Int))))] 3 fun a13 w14 =>
      bApp Go.Proofs.Try.prog #[25, 25] 25 [(.slice s10.a s10.n s10.c), (.slice (some a13) 1 1)] w14 fun s15 w16 =>
      (J12 s15 w16)) (
      (J12 s10 w11))) fun s17 w18 =>
  loopP (S := (Sl × Int)) (fun C19 x20 w21 =>
    iteB (decide (x20.2 < ((s17.n : Nat) : Int))) (
      joinP (S := Bool) (fun J22 =>
        ixS s17 x20.2 1 fun a23 =>
        ldI .i64 w21 a23 fun i24 =>
        iteB (decide (i24 ≥ (0 : Int))) (
          ixS s17 x20.2 1 fun a25 =>
          ldI .i64 w21 a25 fun i26 =>
          (J22 (decide (i26 < ((code_0.n : Nat) : Int))) w21)) (
          (J22 false w21))) fun b27 w28 =>
      iteB b27 (
        ixS s17 x20.2 1 fun a29 =>
        ldI .i64 w28 a29 fun i30 =>
        newC w28 #[(.int .i64 i30)] 3 fun a31 w32 =>
        bApp Go.Proofs.Try.prog #[25, 25] 25 [(.slice x20.1.a x20.1.n x20.1.c), (.slice (some a31) 1 1)] w32 fun s33 w34 =>
        (C19 (s33, (IntKind.wrap .i64 (x20.2 + (1 : Int)))) w34)) (
        (C19 (x20.1, (IntKind.wrap .i64 (x20.2 + (1 : Int)))) w28))) (
      (k x20.1 w21))) ((Sl.mk none 0 0), (0 : Int)) w18
def d_pelotonref04_Behind : Dec := fun args w c => unL [.s, (.i .i64)] args fun x => pelotonref04_Behind x.1 x.2 w fun r w => c (packV (valL [.s] r)) w
theorem s_pelotonref04_Behind : Sound Go.Proofs.Try.prog n_pelotonref04_Behind d_pelotonref04_Behind :=
  sound_of (mask := 4611756524611043827) (h := [(4, [(5, .s)]), (7, [(5, .s)]), (12, [(7, .s), (8, (.i .i64))]), (16, [(62, .b)])]) (ds := []) mixed Go.Proofs.Try.func35 trivial
    [.s, (.i .i64)] [.s] (by kernel_rfl) (fun x w k => pelotonref04_Behind x.1 x.2 w k) (fun x w k => by kernel_rfl)

/-- peloton/pelotonref04.without -/
def pelotonref04_without_b (pelotonref04_Behind : Sl → Int → World → ((Sl) → World → Prop) → Prop) (code_0 : Sl) (h_1 : Int) (w : World) (k : (Sl) → World → Prop) : Prop :=
  mkSl Go.Proofs.Try.prog 44 (.int .i64 ((code_0.n : Nat) : Int)) (.int .i64 ((code_0.n : Nat) : Int)) w fun s1 w2 =>
  iteB (((code_0.n : Nat) : Int) == (0 : Int)) (
    (k s1 w2)) (
    ixS s1 (0 : Int) 1 fun a3 =>
    stC w2 a3 (.bool true) fun w4 =>
    newC w4 #[(.int .i64 (0 : Int))] 3 fun a5 w6 =>
    loopP (S := Sl) (fun C7 s8 w9 =>
      iteB (decide (((s8.n : Nat) : Int) > (0 : Int))) (
        ixS s8 (IntKind.wrap .i64 (((s8.n : Nat) : Int) - (1 : Int))) 1 fun a10 =>
        ldI .i64 w9 a10 fun i11 =>
        slS s8 1 (0 : Int) (IntKind.wrap .i64 (((s8.n : Nat) : Int) - (1 : Int))) fun s12 =>
        joinP (S := Bool) (fun J13 =>
          ixS code_0 i11 5 fun a14 =>
          ldI .i64 w9 (Addr.add a14 0) fun i15 =>
          iteB (i15 == (8 : Int)) (
            ixS code_0 i11 5 fun a16 =>
            ldI .i64 w9 (Addr.add a16 1) fun i17 =>
            (J13 (i17 == h_1) w9)) (
            (J13 false w9))) fun b18 w19 =>
        iteB b18 (
          (C7 s12 w19)) (
          pelotonref04_Behind code_0 i11 w19 fun s20 w21 =>
          loopP (S := (Sl × Int)) (fun C22 x23 w24 =>
            iteB (decide (x23.2 < ((s20.n : Nat) : Int))) (
              ixS s20 x23.2 1 fun a25 =>
              ldI .i64 w24 a25 fun i26 =>
              ixS s1 i26 1 fun a27 =>
              ldB w24 a27 fun b28 =>
              iteB (!b28) (
                ixS s20 x23.2 1 fun a29 =>
                ldI .i64 w24 a29 fun i30 =>
                ixS s1 i30 1 fun a31 =>
                stC w24 a31 (.bool true) fun w32 =>
                ixS s20 x23.2 1 fun a33 =>
                ldI .i64 w32 a33 fun i34 =>
                newC w32 #[(.int .i64 i34)] 3 fun a35 w36 =>
                bApp Go.Proofs.Try.prog #[25, 25] 25 [(.slice x23.1.a x23.1.n x23.1.c), (.slice (some a35) 1 1)] w36 fun s37 w38 =>
                (C22 (s37, (IntKind.wrap .i64 (x23.2 + (1 : Int)))) w38)) (
                (C22 (x23.1, (IntKind.wrap .i64 (x23.2 + (1 : Int)))) w24))) (
              (C7 x23.1 w24))) (s12, (0 : Int)) w21)) (
        (k s1 w9))) (Sl.mk (some a5) 1 1) w6)
theorem e_pelotonref04_without (pelotonref04_Behind : Sl → Int → World → ((Sl) → World → Prop) → Prop) (x : KT [.s, (.i .i64)]) (w : World) (k : KT [.s] → World → Prop) : evFn Go.Proofs.Try.prog (orcOf [(n_pelotonref04_Behind, (fun args w c => unL [.s, (.i .i64)] args fun x => pelotonref04_Behind x.1 x.2 w fun r w => c (packV (valL [.s] r)) w))]) 36929798419419005939 [(8, [(6, .s)]), (14, [(48, .b)]), (19, [(6, .s), (9, (.i .i64))])] Go.Proofs.Try.f26 [.s] (valL [.s, (.i .i64)] x) w k = pelotonref04_without_b pelotonref04_Behind x.1 x.2 w k := by kernel_rfl
def pelotonref04_without (code_0 : Sl) (h_1 : Int) (w : World) (k : (Sl) → World → Prop) : Prop := pelotonref04_without_b pelotonref04_Behind code_0 h_1 w k
def d_pelotonref04_without : Dec := fun args w c => unL [.s, (.i .i64)] args fun x => pelotonref04_without x.1 x.2 w fun r w => c (packV (valL [.s] r)) w
theorem s_pelotonref04_without : Sound Go.Proofs.Try.prog n_pelotonref04_without d_pelotonref04_without :=
  sound_of (mask := 36929798419419005939) (h := [(8, [(6, .s)]), (14, [(48, .b)]), (19, [(6, .s), (9, (.i .i64))])]) (ds := [(n_pelotonref04_Behind, d_pelotonref04_Behind)]) mixed Go.Proofs.Try.func26 ⟨s_pelotonref04_Behind, trivial⟩
    [.s, (.i .i64)] [.s] (by kernel_rfl) (fun x w k => pelotonref04_without x.1 x.2 w k) (fun x w k => e_pelotonref04_without pelotonref04_Behind x w k)

/-- peloton/pelotonref04.bit -/
def pelotonref04_bit (n_0 : Int) (h_1 : Int) (w : World) (k : (Bool) → World → Prop) : Prop :=
  shrI .i64 n_0 (IntKind.wrap .u64 h_1) fun i1 =>
  (k ((andI .i64 i1 (1 : Int)) == (1 : Int)) w)
def d_pelotonref04_bit : Dec := fun args w c => unL [(.i .i64), (.i .i64)] args fun x => pelotonref04_bit x.1 x.2 w fun r w => c (packV (valL [.b] r)) w
theorem s_pelotonref04_bit : Sound Go.Proofs.Try.prog n_pelotonref04_bit d_pelotonref04_bit :=
  sound_of (mask := 19) (h := []) (ds := []) mixed Go.Proofs.Try.func27 trivial
    [(.i .i64), (.i .i64)] [.b] (by kernel_rfl) (fun x w k => pelotonref04_bit x.1 x.2 w k) (fun x w k => by kernel_rfl)

/-- peloton/pelotonref04.Held -/
def pelotonref04_Held_b (pelotonref04_without : Sl → Int → World → ((Sl) → World → Prop) → Prop) (pelotonref04_bit : Int → Int → World → ((Bool) → World → Prop) → Prop) (f_0 : Array Value) (w : World) (k : (Sl) → World → Prop) : Prop :=
  newC w f_0 29 fun a1 w2 =>
  ldS w2 (Addr.add a1 1) fun s3 =>
  mkSl Go.Proofs.Try.prog 25 (.int .i64 ((s3.n : Nat) : Int)) (.int .i64 ((s3.n : Nat) : Int)) w2 fun s4 w5 =>
  loopP (S := Int) (fun C6 i7 w8 =>
    iteB (decide (i7 < (8 : Int))) (
      ldS w8 (Addr.add a1 1) fun s9 =>
      pelotonref04_without s9 i7 w8 fun s10 w11 =>
      loopP (S := Int) (fun C12 i13 w14 =>
        iteB (decide (i13 < ((s10.n : Nat) : Int))) (
          joinP (S := Bool) (fun J15 =>
            ldI .i64 w14 (Addr.add a1 0) fun i16 =>
            pelotonref04_bit i16 i7 w14 fun b17 w18 =>
            iteB b17 (
              (J15 true w18)) (
              ixS s10 i13 1 fun a19 =>
              ldB w18 a19 fun b20 =>
              (J15 (!b20) w18))) fun b21 w22 =>
          iteB b21 (
            ixS s4 i13 1 fun a23 =>
            ldI .i64 w22 a23 fun i24 =>
            shlI .i64 (1 : Int) (IntKind.wrap .u64 i7) fun i25 =>
            ixS s4 i13 1 fun a26 =>
            stC w22 a26 (.int .i64 (IntKind.wrap .i64 (i24 + i25))) fun w27 =>
            (C12 (IntKind.wrap .i64 (i13 + (1 : Int))) w27)) (
            (C12 (IntKind.wrap .i64 (i13 + (1 : Int))) w22))) (
          (C6 (IntKind.wrap .i64 (i7 + (1 : Int))) w14))) (0 : Int) w11) (
      (k s4 w8))) (0 : Int) w5
theorem e_pelotonref04_Held (pelotonref04_without : Sl → Int → World → ((Sl) → World → Prop) → Prop) (pelotonref04_bit : Int → Int → World → ((Bool) → World → Prop) → Prop) (x : KT [.ag]) (w : World) (k : KT [.s] → World → Prop) : evFn Go.Proofs.Try.prog (orcOf [(n_pelotonref04_without, (fun args w c => unL [.s, (.i .i64)] args fun x => pelotonref04_without x.1 x.2 w fun r w => c (packV (valL [.s] r)) w)), (n_pelotonref04_bit, (fun args w c => unL [(.i .i64), (.i .i64)] args fun x => pelotonref04_bit x.1 x.2 w fun r w => c (packV (valL [.b] r)) w))]) 34363936894 [(4, [(4, (.i .i64))]), (11, [(6, (.i .i64))]), (15, [(35, .b)])] Go.Proofs.Try.f15 [.s] (valL [.ag] x) w k = pelotonref04_Held_b pelotonref04_without pelotonref04_bit x w k := by kernel_rfl
def pelotonref04_Held (f_0 : Array Value) (w : World) (k : (Sl) → World → Prop) : Prop := pelotonref04_Held_b pelotonref04_without pelotonref04_bit f_0 w k
def d_pelotonref04_Held : Dec := fun args w c => unL [.ag] args fun x => pelotonref04_Held x w fun r w => c (packV (valL [.s] r)) w
theorem s_pelotonref04_Held : Sound Go.Proofs.Try.prog n_pelotonref04_Held d_pelotonref04_Held :=
  sound_of (mask := 34363936894) (h := [(4, [(4, (.i .i64))]), (11, [(6, (.i .i64))]), (15, [(35, .b)])]) (ds := [(n_pelotonref04_without, d_pelotonref04_without), (n_pelotonref04_bit, d_pelotonref04_bit)]) mixed Go.Proofs.Try.func15 ⟨s_pelotonref04_without, s_pelotonref04_bit, trivial⟩
    [.ag] [.s] (by kernel_rfl) (fun x w k => pelotonref04_Held x w k) (fun x w k => e_pelotonref04_Held pelotonref04_without pelotonref04_bit x w k)

/-- peloton/pelotonlaw04.CheckHeld -/
def pelotonlaw04_CheckHeld_b (pelotonlaw04_awake : World → ((Bool) → World → Prop) → Prop) (check_Held : Array Value → World → ((Sl) → World → Prop) → Prop) (pelotonref04_Held : Array Value → World → ((Sl) → World → Prop) → Prop) (pelotonlaw04_ints : Sl → Sl → World → ((Bool) → World → Prop) → Prop) (f_0 : Array Value) (w : World) (k : (Bool) → World → Prop) : Prop :=
  newC w f_0 29 fun a1 w2 =>
  ldS w2 (Addr.add a1 1) fun s3 =>
  iteB (decide (((s3.n : Nat) : Int) > (140 : Int))) (
    pelotonlaw04_awake  w2 fun b4 w5 =>
    (k b4 w5)) (
    drew w2 fun w6 =>
    ldA 2 w6 a1 fun cs7 =>
    ldA 2 w6 a1 fun cs8 =>
    check_Held cs7 w6 fun s9 w10 =>
    samec 2 a1 w6 w10 (
    pelotonref04_Held cs8 w10 fun s11 w12 =>
    pelotonlaw04_ints s9 s11 w12 fun b13 w14 =>
    iteB b13 (
      pelotonlaw04_awake  w14 fun b15 w16 =>
      (k b15 w16)) (
      (k false w14))))
theorem e_pelotonlaw04_CheckHeld (pelotonlaw04_awake : World → ((Bool) → World → Prop) → Prop) (check_Held : Array Value → World → ((Sl) → World → Prop) → Prop) (pelotonref04_Held : Array Value → World → ((Sl) → World → Prop) → Prop) (pelotonlaw04_ints : Sl → Sl → World → ((Bool) → World → Prop) → Prop) (x : KT [.ag]) (w : World) (k : KT [.b] → World → Prop) : evFn Go.Proofs.Try.prog (orcOf [(n_pelotonlaw04_awake, (fun args w c => unL [] args fun x => pelotonlaw04_awake  w fun r w => c (packV (valL [.b] r)) w)), (n_check_Held, (fun args w c => unL [.ag] args fun x => check_Held x w fun r w => c (packV (valL [.s] r)) w)), (n_pelotonref04_Held, (fun args w c => unL [.ag] args fun x => pelotonref04_Held x w fun r w => c (packV (valL [.s] r)) w)), (n_pelotonlaw04_ints, (fun args w c => unL [.s, .s] args fun x => pelotonlaw04_ints x.1 x.2 w fun r w => c (packV (valL [.b] r)) w))]) 70 [] Go.Proofs.Try.f4 [.b] (valL [.ag] x) w k = pelotonlaw04_CheckHeld_b pelotonlaw04_awake check_Held pelotonref04_Held pelotonlaw04_ints x w k := by kernel_rfl
def pelotonlaw04_CheckHeld (f_0 : Array Value) (w : World) (k : (Bool) → World → Prop) : Prop := pelotonlaw04_CheckHeld_b pelotonlaw04_awake check_Held pelotonref04_Held pelotonlaw04_ints f_0 w k
def d_pelotonlaw04_CheckHeld : Dec := fun args w c => unL [.ag] args fun x => pelotonlaw04_CheckHeld x w fun r w => c (packV (valL [.b] r)) w
theorem s_pelotonlaw04_CheckHeld : Sound Go.Proofs.Try.prog n_pelotonlaw04_CheckHeld d_pelotonlaw04_CheckHeld :=
  sound_of (mask := 70) (h := []) (ds := [(n_pelotonlaw04_awake, d_pelotonlaw04_awake), (n_check_Held, d_check_Held), (n_pelotonref04_Held, d_pelotonref04_Held), (n_pelotonlaw04_ints, d_pelotonlaw04_ints)]) mixed Go.Proofs.Try.func4 ⟨s_pelotonlaw04_awake, s_check_Held, s_pelotonref04_Held, s_pelotonlaw04_ints, trivial⟩
    [.ag] [.b] (by kernel_rfl) (fun x w k => pelotonlaw04_CheckHeld x w k) (fun x w k => e_pelotonlaw04_CheckHeld pelotonlaw04_awake check_Held pelotonref04_Held pelotonlaw04_ints x w k)

/-- peloton/pelotonlaw02.Few -/
def pelotonlaw02_Few (p_0 : Array Value) (w : World) (k : (Bool) → World → Prop) : Prop :=
  newC w p_0 34 fun a1 w2 =>
  loopP (S := Int) (fun C3 i4 w5 =>
    ldS w5 (Addr.add a1 0) fun s6 =>
    iteB ((decide (i4 < ((s6.n : Nat) : Int))) && (decide (i4 < (41 : Int)))) (
      ldS w5 (Addr.add a1 0) fun s7 =>
      ixS s7 i4 2 fun a8 =>
      ldS w5 (Addr.add a8 1) fun s9 =>
      iteB (decide (((s9.n : Nat) : Int) > (140 : Int))) (
        (k false w5)) (
        (C3 (IntKind.wrap .i64 (i4 + (1 : Int))) w5))) (
      ldS w5 (Addr.add a1 0) fun s10 =>
      (k (decide (((s10.n : Nat) : Int) ≤ (40 : Int))) w5))) (0 : Int) w2
def d_pelotonlaw02_Few : Dec := fun args w c => unL [.ag] args fun x => pelotonlaw02_Few x w fun r w => c (packV (valL [.b] r)) w
theorem s_pelotonlaw02_Few : Sound Go.Proofs.Try.prog n_pelotonlaw02_Few d_pelotonlaw02_Few :=
  sound_of (mask := 4198414) (h := [(3, [(3, (.i .i64))])]) (ds := []) mixed Go.Proofs.Try.func16 trivial
    [.ag] [.b] (by kernel_rfl) (fun x w k => pelotonlaw02_Few x w k) (fun x w k => by kernel_rfl)

/-- peloton/pelotonlaw04.CheckNeeds -/
def pelotonlaw04_CheckNeeds_b (pelotonlaw02_Few : Array Value → World → ((Bool) → World → Prop) → Prop) (pelotonlaw04_awake : World → ((Bool) → World → Prop) → Prop) (check_Held : Array Value → World → ((Sl) → World → Prop) → Prop) (check_Program : Array Value → World → ((Array Value) → World → Prop) → Prop) (p_0 : Array Value) (k_1 : Int) (w : World) (k : (Bool) → World → Prop) : Prop :=
  newC w p_0 34 fun a1 w2 =>
  joinP (S := Bool) (fun J3 =>
    ldA 1 w2 a1 fun cs4 =>
    pelotonlaw02_Few cs4 w2 fun b5 w6 =>
    iteB ((!b5) || (decide (k_1 < (1 : Int)))) (
      (J3 true w6)) (
      ldS w6 (Addr.add a1 0) fun s7 =>
      (J3 (decide (k_1 ≥ ((s7.n : Nat) : Int))) w6))) fun b8 w9 =>
  iteB b8 (
    pelotonlaw04_awake  w9 fun b10 w11 =>
    (k b10 w11)) (
    newC w9 #[(.slice none 0 0)] 34 fun a12 w13 =>
    ldS w13 (Addr.add a12 0) fun s14 =>
    ldS w13 (Addr.add a1 0) fun s15 =>
    bApp Go.Proofs.Try.prog #[32, 32] 32 [(.slice s14.a s14.n s14.c), (.slice s15.a s15.n s15.c)] w13 fun s16 w17 =>
    stC w17 (Addr.add a12 0) (.slice s16.a s16.n s16.c) fun w18 =>
    drew w18 fun w19 =>
    ldS w19 (Addr.add a12 0) fun s20 =>
    ldS w19 (Addr.add a1 0) fun s21 =>
    ixS s21 k_1 2 fun a22 =>
    ldS w19 (Addr.add a22 1) fun s23 =>
    samec 1 (Addr.add a12 0) w19 w19 (
    ixS s20 k_1 2 fun a24 =>
    stA 2 w19 a24 #[(.int .i64 (255 : Int)), (.slice s23.a s23.n s23.c)] fun w25 =>
    ldS w25 (Addr.add a1 0) fun s26 =>
    ixS s26 k_1 2 fun a27 =>
    ldA 2 w25 a27 fun cs28 =>
    check_Held cs28 w25 fun s29 w30 =>
    ldS w30 (Addr.add a12 0) fun s31 =>
    ixS s31 k_1 2 fun a32 =>
    ldA 2 w30 a32 fun cs33 =>
    check_Held cs33 w30 fun s34 w35 =>
    joinP (S := Bool) (fun J36 =>
      iteB (((s29.n : Nat) : Int) != ((s34.n : Nat) : Int)) (
        (J36 true w35)) (
        ldS w35 (Addr.add a1 0) fun s37 =>
        ixS s37 k_1 2 fun a38 =>
        ldS w35 (Addr.add a38 1) fun s39 =>
        (J36 (((s29.n : Nat) : Int) != ((s39.n : Nat) : Int)) w35))) fun b40 w41 =>
    iteB b40 (
      (k false w41)) (
      joinP (S := Unit) (fun J42 =>
        loopP (S := Int) (fun C43 i44 w45 =>
          iteB (decide (i44 < ((s29.n : Nat) : Int))) (
            joinP (S := Bool) (fun J46 =>
              drew w45 fun w47 =>
              ixS s34 i44 1 fun a48 =>
              ldI .i64 w47 a48 fun i49 =>
              iteB (i49 != (255 : Int)) (
                (J46 true w47)) (
                ixS s29 i44 1 fun a50 =>
                ldI .i64 w47 a50 fun i51 =>
                ixS s34 i44 1 fun a52 =>
                ldI .i64 w47 a52 fun i53 =>
                (J46 ((andNotI .i64 i51 i53) != (0 : Int)) w47))) fun b54 w55 =>
            iteB b54 (
              (k false w55)) (
              (C43 (IntKind.wrap .i64 (i44 + (1 : Int))) w55))) (
            (J42 () w45))) (0 : Int) w41) fun u56 w57 =>
      ldA 1 w57 a12 fun cs58 =>
      check_Program cs58 w57 fun cs59 w60 =>
      newC w60 #[(.int .i64 (0 : Int)), (.int .i64 (0 : Int)), (.int .i64 (0 : Int))] 38 fun a61 w62 =>
      stA 3 w62 a61 cs59 fun w63 =>
      ldI .i64 w63 (Addr.add a61 0) fun i64 =>
      iteB (i64 != k_1) (
        pelotonlaw04_awake  w63 fun b65 w66 =>
        (k b65 w66)) (
        ldI .i64 w63 (Addr.add a61 2) fun i67 =>
        iteB (i67 != (16 : Int)) (
          pelotonlaw04_awake  w63 fun b68 w69 =>
          (k b68 w69)) (
          (k false w63))))))
theorem e_pelotonlaw04_CheckNeeds (pelotonlaw02_Few : Array Value → World → ((Bool) → World → Prop) → Prop) (pelotonlaw04_awake : World → ((Bool) → World → Prop) → Prop) (check_Held : Array Value → World → ((Sl) → World → Prop) → Prop) (check_Program : Array Value → World → ((Array Value) → World → Prop) → Prop) (x : KT [.ag, (.i .i64)]) (w : World) (k : KT [.b] → World → Prop) : evFn Go.Proofs.Try.prog (orcOf [(n_pelotonlaw02_Few, (fun args w c => unL [.ag] args fun x => pelotonlaw02_Few x w fun r w => c (packV (valL [.b] r)) w)), (n_pelotonlaw04_awake, (fun args w c => unL [] args fun x => pelotonlaw04_awake  w fun r w => c (packV (valL [.b] r)) w)), (n_check_Held, (fun args w c => unL [.ag] args fun x => check_Held x w fun r w => c (packV (valL [.s] r)) w)), (n_check_Program, (fun args w c => unL [.ag] args fun x => check_Program x w fun r w => c (packV (valL [.ag] r)) w))]) 9903540384340594395193541622 [(1, [(23, .b)]), (9, [(70, .b)]), (13, []), (14, [(8, (.i .i64))]), (18, [(93, .b)])] Go.Proofs.Try.f5 [.b] (valL [.ag, (.i .i64)] x) w k = pelotonlaw04_CheckNeeds_b pelotonlaw02_Few pelotonlaw04_awake check_Held check_Program x.1 x.2 w k := by kernel_rfl
def pelotonlaw04_CheckNeeds (p_0 : Array Value) (k_1 : Int) (w : World) (k : (Bool) → World → Prop) : Prop := pelotonlaw04_CheckNeeds_b pelotonlaw02_Few pelotonlaw04_awake check_Held check_Program p_0 k_1 w k
def d_pelotonlaw04_CheckNeeds : Dec := fun args w c => unL [.ag, (.i .i64)] args fun x => pelotonlaw04_CheckNeeds x.1 x.2 w fun r w => c (packV (valL [.b] r)) w
theorem s_pelotonlaw04_CheckNeeds : Sound Go.Proofs.Try.prog n_pelotonlaw04_CheckNeeds d_pelotonlaw04_CheckNeeds :=
  sound_of (mask := 9903540384340594395193541622) (h := [(1, [(23, .b)]), (9, [(70, .b)]), (13, []), (14, [(8, (.i .i64))]), (18, [(93, .b)])]) (ds := [(n_pelotonlaw02_Few, d_pelotonlaw02_Few), (n_pelotonlaw04_awake, d_pelotonlaw04_awake), (n_check_Held, d_check_Held), (n_check_Program, d_check_Program)]) mixed Go.Proofs.Try.func5 ⟨s_pelotonlaw02_Few, s_pelotonlaw04_awake, s_check_Held, s_check_Program, trivial⟩
    [.ag, (.i .i64)] [.b] (by kernel_rfl) (fun x w k => pelotonlaw04_CheckNeeds x.1 x.2 w k) (fun x w k => e_pelotonlaw04_CheckNeeds pelotonlaw02_Few pelotonlaw04_awake check_Held check_Program x w k)

/-- peloton/pelotonlaw04.CheckDead -/
def pelotonlaw04_CheckDead_b (pelotonlaw04_awake : World → ((Bool) → World → Prop) → Prop) (check_Held : Array Value → World → ((Sl) → World → Prop) → Prop) (needs_0 : Int) (l_1 : Sl) (w : World) (k : (Bool) → World → Prop) : Prop :=
  iteB (decide (((l_1.n : Nat) : Int) > (140 : Int))) (
    pelotonlaw04_awake  w fun b1 w2 =>
    (k b1 w2)) (
    spl #[(.int .i64 (0 : Int)), (.int .i64 (0 : Int)), (.int .i64 (0 : Int)), (.int .i64 (0 : Int)), (.int .i64 (0 : Int))] 0 5 #[(.int .i64 (16 : Int)), (.int .i64 (0 : Int)), (.int .i64 (0 : Int)), (.int .i64 (0 : Int)), (.int .i64 (0 : Int))] fun cs3 =>
    newC w cs3 42 fun a4 w5 =>
    bApp Go.Proofs.Try.prog #[22, 22] 22 [(.slice (some a4) 1 1), (.slice l_1.a l_1.n l_1.c)] w5 fun s6 w7 =>
    check_Held #[(.int .i64 needs_0), (.slice s6.a s6.n s6.c)] w7 fun s8 w9 =>
    joinP (S := Bool) (fun J10 =>
      iteB (((s8.n : Nat) : Int) != ((s6.n : Nat) : Int)) (
        (J10 true w9)) (
        ixS s8 (0 : Int) 1 fun a11 =>
        ldI .i64 w9 a11 fun i12 =>
        (J10 (i12 != (andI .i64 needs_0 (255 : Int))) w9))) fun b13 w14 =>
    iteB b13 (
      (k false w14)) (
      loopP (S := Int) (fun C15 i16 w17 =>
        iteB (decide (i16 < ((s8.n : Nat) : Int))) (
          ixS s8 i16 1 fun a18 =>
          ldI .i64 w17 a18 fun i19 =>
          iteB (i19 != (255 : Int)) (
            (k false w17)) (
            (C15 (IntKind.wrap .i64 (i16 + (1 : Int))) w17))) (
          pelotonlaw04_awake  w17 fun b20 w21 =>
          (k b20 w21))) (1 : Int) w14))
theorem e_pelotonlaw04_CheckDead (pelotonlaw04_awake : World → ((Bool) → World → Prop) → Prop) (check_Held : Array Value → World → ((Sl) → World → Prop) → Prop) (x : KT [(.i .i64), .s]) (w : World) (k : KT [.b] → World → Prop) : evFn Go.Proofs.Try.prog (orcOf [(n_pelotonlaw04_awake, (fun args w c => unL [] args fun x => pelotonlaw04_awake  w fun r w => c (packV (valL [.b] r)) w)), (n_check_Held, (fun args w c => unL [.ag] args fun x => check_Held x w fun r w => c (packV (valL [.s] r)) w))]) 17738214933747 [(7, [(33, .b)]), (12, [(7, (.i .i64))])] Go.Proofs.Try.f6 [.b] (valL [(.i .i64), .s] x) w k = pelotonlaw04_CheckDead_b pelotonlaw04_awake check_Held x.1 x.2 w k := by kernel_rfl
def pelotonlaw04_CheckDead (needs_0 : Int) (l_1 : Sl) (w : World) (k : (Bool) → World → Prop) : Prop := pelotonlaw04_CheckDead_b pelotonlaw04_awake check_Held needs_0 l_1 w k
def d_pelotonlaw04_CheckDead : Dec := fun args w c => unL [(.i .i64), .s] args fun x => pelotonlaw04_CheckDead x.1 x.2 w fun r w => c (packV (valL [.b] r)) w
theorem s_pelotonlaw04_CheckDead : Sound Go.Proofs.Try.prog n_pelotonlaw04_CheckDead d_pelotonlaw04_CheckDead :=
  sound_of (mask := 17738214933747) (h := [(7, [(33, .b)]), (12, [(7, (.i .i64))])]) (ds := [(n_pelotonlaw04_awake, d_pelotonlaw04_awake), (n_check_Held, d_check_Held)]) mixed Go.Proofs.Try.func6 ⟨s_pelotonlaw04_awake, s_check_Held, trivial⟩
    [(.i .i64), .s] [.b] (by kernel_rfl) (fun x w k => pelotonlaw04_CheckDead x.1 x.2 w k) (fun x w k => e_pelotonlaw04_CheckDead pelotonlaw04_awake check_Held x w k)

/-- peloton/check.Accepts -/
def check_Accepts_b (check_Program : Array Value → World → ((Array Value) → World → Prop) → Prop) (p_0 : Array Value) (w : World) (k : (Bool) → World → Prop) : Prop :=
  newC w p_0 34 fun a1 w2 =>
  ldA 1 w2 a1 fun cs3 =>
  check_Program cs3 w2 fun cs4 w5 =>
  eqA ([(0, 0)] ++ ([(1, 0)] ++ ([(2, 0)] ++ []))) cs4 #[(.int .i64 (0 : Int)), (.int .i64 (0 : Int)), (.int .i64 (0 : Int))] fun b6 =>
  (k b6 w5)
theorem e_check_Accepts (check_Program : Array Value → World → ((Array Value) → World → Prop) → Prop) (x : KT [.ag]) (w : World) (k : KT [.b] → World → Prop) : evFn Go.Proofs.Try.prog (orcOf [(n_check_Program, (fun args w c => unL [.ag] args fun x => check_Program x w fun r w => c (packV (valL [.ag] r)) w))]) 6 [] Go.Proofs.Try.f18 [.b] (valL [.ag] x) w k = check_Accepts_b check_Program x w k := by kernel_rfl
def check_Accepts (p_0 : Array Value) (w : World) (k : (Bool) → World → Prop) : Prop := check_Accepts_b check_Program p_0 w k
def d_check_Accepts : Dec := fun args w c => unL [.ag] args fun x => check_Accepts x w fun r w => c (packV (valL [.b] r)) w
theorem s_check_Accepts : Sound Go.Proofs.Try.prog n_check_Accepts d_check_Accepts :=
  sound_of (mask := 6) (h := []) (ds := [(n_check_Program, d_check_Program)]) mixed Go.Proofs.Try.func18 ⟨s_check_Program, trivial⟩
    [.ag] [.b] (by kernel_rfl) (fun x w k => check_Accepts x w k) (fun x w k => e_check_Accepts check_Program x w k)

/-- peloton/pelotonlaw04.CheckHolds -/
def pelotonlaw04_CheckHolds_b (pelotonlaw02_Few : Array Value → World → ((Bool) → World → Prop) → Prop) (check_Accepts : Array Value → World → ((Bool) → World → Prop) → Prop) (pelotonlaw04_awake : World → ((Bool) → World → Prop) → Prop) (p_0 : Array Value) (k_1 : Int) (l_2 : Sl) (w : World) (k : (Bool) → World → Prop) : Prop :=
  newC w p_0 34 fun a1 w2 =>
  joinP (S := Bool) (fun J3 =>
    ldA 1 w2 a1 fun cs4 =>
    pelotonlaw02_Few cs4 w2 fun b5 w6 =>
    iteB ((!b5) || (decide (((l_2.n : Nat) : Int) > (300 : Int)))) (
      (J3 true w6)) (
      ldA 1 w6 a1 fun cs7 =>
      check_Accepts cs7 w6 fun b8 w9 =>
      iteB ((!b8) || (decide (k_1 < (0 : Int)))) (
        (J3 true w9)) (
        ldS w9 (Addr.add a1 0) fun s10 =>
        (J3 (decide (k_1 ≥ ((s10.n : Nat) : Int))) w9)))) fun b11 w12 =>
  iteB b11 (
    pelotonlaw04_awake  w12 fun b13 w14 =>
    (k b13 w14)) (
    ldS w12 (Addr.add a1 0) fun s15 =>
    ixS s15 k_1 2 fun a16 =>
    ldA 2 w12 a16 fun cs17 =>
    newC w12 #[(.int .i64 (0 : Int)), (.slice none 0 0)] 29 fun a18 w19 =>
    stA 2 w19 a18 cs17 fun w20 =>
    ldI .i64 w20 (Addr.add a18 0) fun i21 =>
    loopP (S := (Int × (Int × (Int × Int)))) (fun C22 x23 w24 =>
      iteB (decide (x23.2.2.2 < ((l_2.n : Nat) : Int))) (
        joinP (S := Bool) (fun J25 =>
          iteB (decide (x23.2.2.1 < (0 : Int))) (
            (J25 true w24)) (
            ldS w24 (Addr.add a18 1) fun s26 =>
            (J25 (decide (x23.2.2.1 ≥ ((s26.n : Nat) : Int))) w24))) fun b27 w28 =>
        iteB b27 (
          (k false w28)) (
          ldS w28 (Addr.add a18 1) fun s29 =>
          ixS s29 x23.2.2.1 5 fun a30 =>
          ldA 5 w28 a30 fun cs31 =>
          newC w28 #[(.int .i64 (0 : Int)), (.int .i64 (0 : Int)), (.int .i64 (0 : Int)), (.int .i64 (0 : Int)), (.int .i64 (0 : Int))] 42 fun a32 w33 =>
          stA 5 w33 a32 cs31 fun w34 =>
          ldI .i64 w34 (Addr.add a32 0) fun i35 =>
          iteB (i35 == (16 : Int)) (
            iteB (x23.2.1 == (0 : Int)) (
              pelotonlaw04_awake  w34 fun b36 w37 =>
              (k b36 w37)) (
              (k false w34))) (
            iteB (i35 == (15 : Int)) (
              pelotonlaw04_awake  w34 fun b38 w39 =>
              (k b38 w39)) (
              iteB (i35 == (6 : Int)) (
                ldI .i64 w34 (Addr.add a32 4) fun i40 =>
                (C22 (x23.1, (x23.2.1, (i40, (IntKind.wrap .i64 (x23.2.2.2 + (1 : Int)))))) w34)) (
                iteB (i35 == (7 : Int)) (
                  ixS l_2 x23.2.2.2 1 fun a41 =>
                  ldB w34 a41 fun b42 =>
                  iteB b42 (
                    ldI .i64 w34 (Addr.add a32 4) fun i43 =>
                    (C22 (x23.1, (x23.2.1, (i43, (IntKind.wrap .i64 (x23.2.2.2 + (1 : Int)))))) w34)) (
                    (C22 (x23.1, (x23.2.1, ((IntKind.wrap .i64 (x23.2.2.1 + (1 : Int))), (IntKind.wrap .i64 (x23.2.2.2 + (1 : Int)))))) w34))) (
                  iteB (i35 == (11 : Int)) (
                    (C22 (x23.1, ((IntKind.wrap .i64 (x23.2.1 + (1 : Int))), ((IntKind.wrap .i64 (x23.2.2.1 + (1 : Int))), (IntKind.wrap .i64 (x23.2.2.2 + (1 : Int)))))) w34)) (
                    joinP (S := Bool) (fun J44 =>
                      iteB (i35 == (12 : Int)) (
                        (J44 (i35 == (12 : Int)) w34)) (
                        (J44 (i35 == (13 : Int)) w34))) fun b45 w46 =>
                    iteB b45 (
                      iteB (decide (x23.2.1 < (1 : Int))) (
                        (k false w46)) (
                        ldI .i64 w46 (Addr.add a32 0) fun i47 =>
                        iteB (i47 == (12 : Int)) (
                          (C22 (x23.1, ((IntKind.wrap .i64 (x23.2.1 - (1 : Int))), ((IntKind.wrap .i64 (x23.2.2.1 + (1 : Int))), (IntKind.wrap .i64 (x23.2.2.2 + (1 : Int)))))) w46)) (
                          (C22 (x23.1, (x23.2.1, ((IntKind.wrap .i64 (x23.2.2.1 + (1 : Int))), (IntKind.wrap .i64 (x23.2.2.2 + (1 : Int)))))) w46)))) (
                      iteB (i35 == (8 : Int)) (
                        joinP (S := Bool) (fun J48 =>
                          ldI .i64 w46 (Addr.add a32 4) fun i49 =>
                          iteB (decide (i49 < (0 : Int))) (
                            (J48 true w46)) (
                            ldI .i64 w46 (Addr.add a32 4) fun i50 =>
                            ldS w46 (Addr.add a1 0) fun s51 =>
                            iteB (decide (i50 ≥ ((s51.n : Nat) : Int))) (
                              (J48 true w46)) (
                              ldI .i64 w46 (Addr.add a32 1) fun i52 =>
                              iteB (decide (i52 < (0 : Int))) (
                                (J48 true w46)) (
                                ldI .i64 w46 (Addr.add a32 1) fun i53 =>
                                iteB (decide (i53 > (7 : Int))) (
                                  (J48 true w46)) (
                                  ldS w46 (Addr.add a1 0) fun s54 =>
                                  ldI .i64 w46 (Addr.add a32 4) fun i55 =>
                                  ixS s54 i55 2 fun a56 =>
                                  ldI .i64 w46 (Addr.add a56 0) fun i57 =>
                                  (J48 ((andNotI .i64 i57 x23.1) != (0 : Int)) w46)))))) fun b58 w59 =>
                        iteB b58 (
                          (k false w59)) (
                          ldI .i64 w59 (Addr.add a32 1) fun i60 =>
                          shlI .i64 (1 : Int) (IntKind.wrap .u64 i60) fun i61 =>
                          (C22 ((orI .i64 x23.1 i61), (x23.2.1, ((IntKind.wrap .i64 (x23.2.2.1 + (1 : Int))), (IntKind.wrap .i64 (x23.2.2.2 + (1 : Int)))))) w59))) (
                        iteB (i35 == (9 : Int)) (
                          joinP (S := Bool) (fun J62 =>
                            ldI .i64 w46 (Addr.add a32 2) fun i63 =>
                            iteB (decide (i63 < (0 : Int))) (
                              (J62 true w46)) (
                              ldI .i64 w46 (Addr.add a32 2) fun i64 =>
                              iteB (decide (i64 > (7 : Int))) (
                                (J62 true w46)) (
                                ldI .i64 w46 (Addr.add a32 2) fun i65 =>
                                shrI .i64 x23.1 (IntKind.wrap .u64 i65) fun i66 =>
                                (J62 ((andI .i64 i66 (1 : Int)) == (0 : Int)) w46)))) fun b67 w68 =>
                          iteB b67 (
                            (k false w68)) (
                            (C22 (x23.1, (x23.2.1, ((IntKind.wrap .i64 (x23.2.2.1 + (1 : Int))), (IntKind.wrap .i64 (x23.2.2.2 + (1 : Int)))))) w68))) (
                          iteB (i35 == (10 : Int)) (
                            joinP (S := Bool) (fun J69 =>
                              ldI .i64 w46 (Addr.add a32 3) fun i70 =>
                              iteB (decide (i70 < (0 : Int))) (
                                (J69 true w46)) (
                                ldI .i64 w46 (Addr.add a32 3) fun i71 =>
                                iteB (decide (i71 > (7 : Int))) (
                                  (J69 true w46)) (
                                  ldI .i64 w46 (Addr.add a32 3) fun i72 =>
                                  shrI .i64 x23.1 (IntKind.wrap .u64 i72) fun i73 =>
                                  (J69 ((andI .i64 i73 (1 : Int)) == (0 : Int)) w46)))) fun b74 w75 =>
                            iteB b74 (
                              (k false w75)) (
                              (C22 (x23.1, (x23.2.1, ((IntKind.wrap .i64 (x23.2.2.1 + (1 : Int))), (IntKind.wrap .i64 (x23.2.2.2 + (1 : Int)))))) w75))) (
                            (C22 (x23.1, (x23.2.1, ((IntKind.wrap .i64 (x23.2.2.1 + (1 : Int))), (IntKind.wrap .i64 (x23.2.2.2 + (1 : Int)))))) w46)))))))))))) (
        iteB (decide (x23.2.2.1 ≥ (0 : Int))) (
          ldS w24 (Addr.add a18 1) fun s76 =>
          iteB (decide (x23.2.2.1 < ((s76.n : Nat) : Int))) (
            pelotonlaw04_awake  w24 fun b77 w78 =>
            (k b77 w78)) (
            (k false w24))) (
          (k false w24)))) (i21, ((0 : Int), ((0 : Int), (0 : Int)))) w20)
theorem e_pelotonlaw04_CheckHolds (pelotonlaw02_Few : Array Value → World → ((Bool) → World → Prop) → Prop) (check_Accepts : Array Value → World → ((Bool) → World → Prop) → Prop) (pelotonlaw04_awake : World → ((Bool) → World → Prop) → Prop) (x : KT [.ag, (.i .i64), .s]) (w : World) (k : KT [.b] → World → Prop) : evFn Go.Proofs.Try.prog (orcOf [(n_pelotonlaw02_Few, (fun args w c => unL [.ag] args fun x => pelotonlaw02_Few x w fun r w => c (packV (valL [.b] r)) w)), (n_check_Accepts, (fun args w c => unL [.ag] args fun x => check_Accepts x w fun r w => c (packV (valL [.b] r)) w)), (n_pelotonlaw04_awake, (fun args w c => unL [] args fun x => pelotonlaw04_awake  w fun r w => c (packV (valL [.b] r)) w))]) 12260034479095602629288472880270466704069807310880382926 [(1, [(36, .b)]), (10, [(8, (.i .i64)), (9, (.i .i64)), (10, (.i .i64)), (11, (.i .i64))]), (14, [(59, .b)]), (39, [(95, .b)]), (50, [(139, .b)]), (56, [(164, .b)]), (61, [(183, .b)])] Go.Proofs.Try.f7 [.b] (valL [.ag, (.i .i64), .s] x) w k = pelotonlaw04_CheckHolds_b pelotonlaw02_Few check_Accepts pelotonlaw04_awake x.1 x.2.1 x.2.2 w k := by kernel_rfl
def pelotonlaw04_CheckHolds (p_0 : Array Value) (k_1 : Int) (l_2 : Sl) (w : World) (k : (Bool) → World → Prop) : Prop := pelotonlaw04_CheckHolds_b pelotonlaw02_Few check_Accepts pelotonlaw04_awake p_0 k_1 l_2 w k
def d_pelotonlaw04_CheckHolds : Dec := fun args w c => unL [.ag, (.i .i64), .s] args fun x => pelotonlaw04_CheckHolds x.1 x.2.1 x.2.2 w fun r w => c (packV (valL [.b] r)) w
theorem s_pelotonlaw04_CheckHolds : Sound Go.Proofs.Try.prog n_pelotonlaw04_CheckHolds d_pelotonlaw04_CheckHolds :=
  sound_of (mask := 12260034479095602629288472880270466704069807310880382926) (h := [(1, [(36, .b)]), (10, [(8, (.i .i64)), (9, (.i .i64)), (10, (.i .i64)), (11, (.i .i64))]), (14, [(59, .b)]), (39, [(95, .b)]), (50, [(139, .b)]), (56, [(164, .b)]), (61, [(183, .b)])]) (ds := [(n_pelotonlaw02_Few, d_pelotonlaw02_Few), (n_check_Accepts, d_check_Accepts), (n_pelotonlaw04_awake, d_pelotonlaw04_awake)]) mixed Go.Proofs.Try.func7 ⟨s_pelotonlaw02_Few, s_check_Accepts, s_pelotonlaw04_awake, trivial⟩
    [.ag, (.i .i64), .s] [.b] (by kernel_rfl) (fun x w k => pelotonlaw04_CheckHolds x.1 x.2.1 x.2.2 w k) (fun x w k => e_pelotonlaw04_CheckHolds pelotonlaw02_Few check_Accepts pelotonlaw04_awake x w k)

/-- peloton/pelotonref02.spans -/
def pelotonref02_spans (op_0 : Int) (w : World) (k : (Array Value) → World → Prop) : Prop :=
  newC w #[(.int .i64 (0 : Int)), (.int .i64 (0 : Int)), (.int .i64 (0 : Int)), (.int .i64 (0 : Int)), (.int .i64 (0 : Int)), (.int .i64 (0 : Int)), (.int .i64 (0 : Int)), (.int .i64 (0 : Int))] 76 fun a1 w2 =>
  iteB (op_0 == (0 : Int)) (
    stA 8 w2 a1 #[(.int .i64 (0 : Int)), (.int .i64 (7 : Int)), (.int .i64 (0 : Int)), (.int .i64 (0 : Int)), (.int .i64 (0 : Int)), (.int .i64 (0 : Int)), (.int .i64 (-(2147483648 : Int))), (.int .i64 (2147483647 : Int))] fun w3 =>
    ldA 8 w3 a1 fun cs4 =>
    (k cs4 w3)) (
    joinP (S := Bool) (fun J5 =>
      iteB (op_0 == (1 : Int)) (
        (J5 (op_0 == (1 : Int)) w2)) (
        (J5 (op_0 == (9 : Int)) w2))) fun b6 w7 =>
    iteB b6 (
      stA 8 w7 a1 #[(.int .i64 (0 : Int)), (.int .i64 (7 : Int)), (.int .i64 (0 : Int)), (.int .i64 (7 : Int)), (.int .i64 (0 : Int)), (.int .i64 (0 : Int)), (.int .i64 (0 : Int)), (.int .i64 (0 : Int))] fun w8 =>
      ldA 8 w8 a1 fun cs9 =>
      (k cs9 w8)) (
      joinP (S := Bool) (fun J10 =>
        iteB (op_0 == (2 : Int)) (
          (J10 (op_0 == (2 : Int)) w7)) (
          iteB (op_0 == (3 : Int)) (
            (J10 (op_0 == (3 : Int)) w7)) (
            iteB (op_0 == (4 : Int)) (
              (J10 (op_0 == (4 : Int)) w7)) (
              iteB (op_0 == (5 : Int)) (
                (J10 (op_0 == (5 : Int)) w7)) (
                (J10 (op_0 == (10 : Int)) w7)))))) fun b11 w12 =>
      iteB b11 (
        stA 8 w12 a1 #[(.int .i64 (0 : Int)), (.int .i64 (7 : Int)), (.int .i64 (0 : Int)), (.int .i64 (7 : Int)), (.int .i64 (0 : Int)), (.int .i64 (7 : Int)), (.int .i64 (0 : Int)), (.int .i64 (0 : Int))] fun w13 =>
        ldA 8 w13 a1 fun cs14 =>
        (k cs14 w13)) (
        iteB (op_0 == (6 : Int)) (
          stA 8 w12 a1 #[(.int .i64 (0 : Int)), (.int .i64 (0 : Int)), (.int .i64 (0 : Int)), (.int .i64 (0 : Int)), (.int .i64 (0 : Int)), (.int .i64 (0 : Int)), (.int .i64 (0 : Int)), (.int .i64 (127 : Int))] fun w15 =>
          ldA 8 w15 a1 fun cs16 =>
          (k cs16 w15)) (
          iteB (op_0 == (7 : Int)) (
            stA 8 w12 a1 #[(.int .i64 (0 : Int)), (.int .i64 (7 : Int)), (.int .i64 (0 : Int)), (.int .i64 (0 : Int)), (.int .i64 (0 : Int)), (.int .i64 (0 : Int)), (.int .i64 (0 : Int)), (.int .i64 (127 : Int))] fun w17 =>
            ldA 8 w17 a1 fun cs18 =>
            (k cs18 w17)) (
            iteB (op_0 == (8 : Int)) (
              stA 8 w12 a1 #[(.int .i64 (0 : Int)), (.int .i64 (7 : Int)), (.int .i64 (0 : Int)), (.int .i64 (0 : Int)), (.int .i64 (0 : Int)), (.int .i64 (0 : Int)), (.int .i64 (0 : Int)), (.int .i64 (31 : Int))] fun w19 =>
              ldA 8 w19 a1 fun cs20 =>
              (k cs20 w19)) (
              iteB (op_0 == (11 : Int)) (
                stA 8 w12 a1 #[(.int .i64 (0 : Int)), (.int .i64 (0 : Int)), (.int .i64 (0 : Int)), (.int .i64 (0 : Int)), (.int .i64 (0 : Int)), (.int .i64 (0 : Int)), (.int .i64 (0 : Int)), (.int .i64 (65535 : Int))] fun w21 =>
                ldA 8 w21 a1 fun cs22 =>
                (k cs22 w21)) (
                joinP (S := Bool) (fun J23 =>
                  iteB (op_0 == (12 : Int)) (
                    (J23 (op_0 == (12 : Int)) w12)) (
                    iteB (op_0 == (15 : Int)) (
                      (J23 (op_0 == (15 : Int)) w12)) (
                      (J23 (op_0 == (16 : Int)) w12)))) fun b24 w25 =>
                iteB b24 (
                  stA 8 w25 a1 #[(.int .i64 (0 : Int)), (.int .i64 (7 : Int)), (.int .i64 (0 : Int)), (.int .i64 (0 : Int)), (.int .i64 (0 : Int)), (.int .i64 (0 : Int)), (.int .i64 (0 : Int)), (.int .i64 (0 : Int))] fun w26 =>
                  ldA 8 w26 a1 fun cs27 =>
                  (k cs27 w26)) (
                  stA 8 w25 a1 #[(.int .i64 (0 : Int)), (.int .i64 (0 : Int)), (.int .i64 (0 : Int)), (.int .i64 (0 : Int)), (.int .i64 (0 : Int)), (.int .i64 (0 : Int)), (.int .i64 (0 : Int)), (.int .i64 (0 : Int))] fun w28 =>
                  ldA 8 w28 a1 fun cs29 =>
                  (k cs29 w28)))))))))
def d_pelotonref02_spans : Dec := fun args w c => unL [(.i .i64)] args fun x => pelotonref02_spans x w fun r w => c (packV (valL [.ag] r)) w
theorem s_pelotonref02_spans : Sound Go.Proofs.Try.prog n_pelotonref02_spans d_pelotonref02_spans :=
  sound_of (mask := 623072281149) (h := [(8, [(9, .b)]), (13, [(15, .b)]), (36, [(39, .b)])]) (ds := []) mixed Go.Proofs.Try.func44 trivial
    [(.i .i64)] [.ag] (by kernel_rfl) (fun x w k => pelotonref02_spans x w k) (fun x w k => by kernel_rfl)

/-- peloton/pelotonref02.Check -/
def pelotonref02_Check_b (pelotonref02_spans : Int → World → ((Array Value) → World → Prop) → Prop) (i_0 : Array Value) (w : World) (k : (Int) → World → Prop) : Prop :=
  newC w i_0 42 fun a1 w2 =>
  joinP (S := Bool) (fun J3 =>
    ldI .i64 w2 (Addr.add a1 0) fun i4 =>
    iteB (decide (i4 < (0 : Int))) (
      (J3 true w2)) (
      ldI .i64 w2 (Addr.add a1 0) fun i5 =>
      (J3 (decide (i5 > (16 : Int))) w2))) fun b6 w7 =>
  iteB b6 (
    (k (13 : Int) w7)) (
    ldI .i64 w7 (Addr.add a1 0) fun i8 =>
    pelotonref02_spans i8 w7 fun cs9 w10 =>
    newC w10 #[(.int .i64 (0 : Int)), (.int .i64 (0 : Int)), (.int .i64 (0 : Int)), (.int .i64 (0 : Int)), (.int .i64 (0 : Int)), (.int .i64 (0 : Int)), (.int .i64 (0 : Int)), (.int .i64 (0 : Int))] 76 fun a11 w12 =>
    stA 8 w12 a11 cs9 fun w13 =>
    ldI .i64 w13 (Addr.add a1 1) fun i14 =>
    ldI .i64 w13 (Addr.add a1 2) fun i15 =>
    ldI .i64 w13 (Addr.add a1 3) fun i16 =>
    ldI .i64 w13 (Addr.add a1 4) fun i17 =>
    newC w13 #[(.int .i64 (0 : Int)), (.int .i64 (0 : Int)), (.int .i64 (0 : Int)), (.int .i64 (0 : Int))] 72 fun a18 w19 =>
    stA 4 w19 a18 #[(.int .i64 i14), (.int .i64 i15), (.int .i64 i16), (.int .i64 i17)] fun w20 =>
    loopP (S := Int) (fun C21 i22 w23 =>
      iteB (decide (i22 < (4 : Int))) (
        joinP (S := Bool) (fun J24 =>
          drew w23 fun w25 =>
          ixP a18 4 i22 1 fun a26 =>
          ldI .i64 w25 a26 fun i27 =>
          ixP a11 8 (IntKind.wrap .i64 ((2 : Int) * i22)) 1 fun a28 =>
          ldI .i64 w25 a28 fun i29 =>
          iteB (decide (i27 < i29)) (
            (J24 true w25)) (
            ixP a18 4 i22 1 fun a30 =>
            ldI .i64 w25 a30 fun i31 =>
            ixP a11 8 (IntKind.wrap .i64 ((IntKind.wrap .i64 ((2 : Int) * i22)) + (1 : Int))) 1 fun a32 =>
            ldI .i64 w25 a32 fun i33 =>
            (J24 (decide (i31 > i33)) w25))) fun b34 w35 =>
        iteB b34 (
          (k (10 : Int) w35)) (
          (C21 (IntKind.wrap .i64 (i22 + (1 : Int))) w35))) (
        (k (0 : Int) w23))) (0 : Int) w20)
theorem e_pelotonref02_Check (pelotonref02_spans : Int → World → ((Array Value) → World → Prop) → Prop) (x : KT [.ag]) (w : World) (k : KT [(.i .i64)] → World → Prop) : evFn Go.Proofs.Try.prog (orcOf [(n_pelotonref02_spans, (fun args w c => unL [(.i .i64)] args fun x => pelotonref02_spans x w fun r w => c (packV (valL [.ag] r)) w))]) 281475110936638 [(1, [(13, .b)]), (8, [(5, (.i .i64))]), (12, [(48, .b)])] Go.Proofs.Try.f41 [(.i .i64)] (valL [.ag] x) w k = pelotonref02_Check_b pelotonref02_spans x w k := by kernel_rfl
def pelotonref02_Check (i_0 : Array Value) (w : World) (k : (Int) → World → Prop) : Prop := pelotonref02_Check_b pelotonref02_spans i_0 w k
def d_pelotonref02_Check : Dec := fun args w c => unL [.ag] args fun x => pelotonref02_Check x w fun r w => c (packV (valL [(.i .i64)] r)) w
theorem s_pelotonref02_Check : Sound Go.Proofs.Try.prog n_pelotonref02_Check d_pelotonref02_Check :=
  sound_of (mask := 281475110936638) (h := [(1, [(13, .b)]), (8, [(5, (.i .i64))]), (12, [(48, .b)])]) (ds := [(n_pelotonref02_spans, d_pelotonref02_spans)]) mixed Go.Proofs.Try.func41 ⟨s_pelotonref02_spans, trivial⟩
    [.ag] [(.i .i64)] (by kernel_rfl) (fun x w k => pelotonref02_Check x w k) (fun x w k => e_pelotonref02_Check pelotonref02_spans x w k)

/-- peloton/pelotonref04.shape -/
def pelotonref04_shape_b (pelotonref02_Check : Array Value → World → ((Int) → World → Prop) → Prop) (f_0 : Array Value) (w : World) (k : (Int × Int) → World → Prop) : Prop :=
  newC w f_0 29 fun a1 w2 =>
  joinP (S := Bool) (fun J3 =>
    ldI .i64 w2 (Addr.add a1 0) fun i4 =>
    iteB (decide (i4 < (0 : Int))) (
      (J3 true w2)) (
      ldI .i64 w2 (Addr.add a1 0) fun i5 =>
      (J3 (decide (i5 > (255 : Int))) w2))) fun b6 w7 =>
  iteB b6 (
    (k ((-(1 : Int)), (10 : Int)) w7)) (
    joinP (S := Bool) (fun J8 =>
      ldS w7 (Addr.add a1 1) fun s9 =>
      iteB (decide (((s9.n : Nat) : Int) < (1 : Int))) (
        (J8 true w7)) (
        ldS w7 (Addr.add a1 1) fun s10 =>
        (J8 (decide (((s10.n : Nat) : Int) > (128 : Int))) w7))) fun b11 w12 =>
    iteB b11 (
      (k ((-(1 : Int)), (12 : Int)) w12)) (
      loopP (S := Int) (fun C13 i14 w15 =>
        ldS w15 (Addr.add a1 1) fun s16 =>
        iteB (decide (i14 < ((s16.n : Nat) : Int))) (
          ldS w15 (Addr.add a1 1) fun s17 =>
          ixS s17 i14 5 fun a18 =>
          ldA 5 w15 a18 fun cs19 =>
          pelotonref02_Check cs19 w15 fun i20 w21 =>
          iteB (i20 != (0 : Int)) (
            (k (i14, i20) w21)) (
            (C13 (IntKind.wrap .i64 (i14 + (1 : Int))) w21))) (
          (k ((0 : Int), (0 : Int)) w15))) (0 : Int) w12))
theorem e_pelotonref04_shape (pelotonref02_Check : Array Value → World → ((Int) → World → Prop) → Prop) (x : KT [.ag]) (w : World) (k : KT [(.i .i64), (.i .i64)] → World → Prop) : evFn Go.Proofs.Try.prog (orcOf [(n_pelotonref02_Check, (fun args w c => unL [.ag] args fun x => pelotonref02_Check x w fun r w => c (packV (valL [(.i .i64)] r)) w))]) 275154739262 [(1, [(13, .b)]), (4, [(23, .b)]), (9, [(4, (.i .i64))])] Go.Proofs.Try.f30 [(.i .i64), (.i .i64)] (valL [.ag] x) w k = pelotonref04_shape_b pelotonref02_Check x w k := by kernel_rfl
def pelotonref04_shape (f_0 : Array Value) (w : World) (k : (Int × Int) → World → Prop) : Prop := pelotonref04_shape_b pelotonref02_Check f_0 w k
def d_pelotonref04_shape : Dec := fun args w c => unL [.ag] args fun x => pelotonref04_shape x w fun r w => c (packV (valL [(.i .i64), (.i .i64)] r)) w
theorem s_pelotonref04_shape : Sound Go.Proofs.Try.prog n_pelotonref04_shape d_pelotonref04_shape :=
  sound_of (mask := 275154739262) (h := [(1, [(13, .b)]), (4, [(23, .b)]), (9, [(4, (.i .i64))])]) (ds := [(n_pelotonref02_Check, d_pelotonref02_Check)]) mixed Go.Proofs.Try.func30 ⟨s_pelotonref02_Check, trivial⟩
    [.ag] [(.i .i64), (.i .i64)] (by kernel_rfl) (fun x w k => pelotonref04_shape x w k) (fun x w k => e_pelotonref04_shape pelotonref02_Check x w k)

/-- peloton/pelotonref04.wrong -/
def pelotonref04_wrong_b (pelotonref04_bit : Int → Int → World → ((Bool) → World → Prop) → Prop) (p_0 : Array Value) (f_1 : Array Value) (i_2 : Int) (depths_3 : Sl) (held_4 : Sl) (w : World) (k : (Int) → World → Prop) : Prop :=
  newC w p_0 34 fun a1 w2 =>
  newC w2 f_1 29 fun a3 w4 =>
  ldS w4 (Addr.add a3 1) fun s5 =>
  ixS s5 i_2 5 fun a6 =>
  ldA 5 w4 a6 fun cs7 =>
  newC w4 #[(.int .i64 (0 : Int)), (.int .i64 (0 : Int)), (.int .i64 (0 : Int)), (.int .i64 (0 : Int)), (.int .i64 (0 : Int))] 42 fun a8 w9 =>
  stA 5 w9 a8 cs7 fun w10 =>
  joinP (S := Bool) (fun J11 =>
    ldI .i64 w10 (Addr.add a8 0) fun i12 =>
    iteB (i12 == (6 : Int)) (
      (J11 true w10)) (
      ldI .i64 w10 (Addr.add a8 0) fun i13 =>
      (J11 (i13 == (7 : Int)) w10))) fun b14 w15 =>
  joinP (S := Bool) (fun J16 =>
    iteB b14 (
      ldI .i64 w15 (Addr.add a8 4) fun i17 =>
      ldS w15 (Addr.add a3 1) fun s18 =>
      iteB (decide (i17 ≥ ((s18.n : Nat) : Int))) (
        (J16 true w15)) (
        ldI .i64 w15 (Addr.add a8 0) fun i19 =>
        iteB (i19 == (8 : Int)) (
          ldI .i64 w15 (Addr.add a8 4) fun i20 =>
          ldS w15 (Addr.add a1 0) fun s21 =>
          (J16 (decide (i20 ≥ ((s21.n : Nat) : Int))) w15)) (
          (J16 false w15)))) (
      ldI .i64 w15 (Addr.add a8 0) fun i22 =>
      iteB (i22 == (8 : Int)) (
        ldI .i64 w15 (Addr.add a8 4) fun i23 =>
        ldS w15 (Addr.add a1 0) fun s24 =>
        (J16 (decide (i23 ≥ ((s24.n : Nat) : Int))) w15)) (
        (J16 false w15)))) fun b25 w26 =>
  iteB b25 (
    (k (10 : Int) w26)) (
    joinP (S := Bool) (fun J27 =>
      ldS w26 (Addr.add a3 1) fun s28 =>
      iteB (i_2 == (IntKind.wrap .i64 (((s28.n : Nat) : Int) - (1 : Int)))) (
        ldI .i64 w26 (Addr.add a8 0) fun i29 =>
        iteB (i29 != (6 : Int)) (
          ldI .i64 w26 (Addr.add a8 0) fun i30 =>
          iteB (i30 != (16 : Int)) (
            ldI .i64 w26 (Addr.add a8 0) fun i31 =>
            (J27 (i31 != (15 : Int)) w26)) (
            (J27 false w26))) (
          (J27 false w26))) (
        (J27 false w26))) fun b32 w33 =>
    iteB b32 (
      (k (11 : Int) w33)) (
      joinP (S := Bool) (fun J34 =>
        drew w33 fun w35 =>
        ldI .i64 w35 (Addr.add a8 0) fun i36 =>
        iteB (i36 == (12 : Int)) (
          ixS depths_3 i_2 1 fun a37 =>
          ldI .i64 w35 a37 fun i38 =>
          iteB (decide (i38 < (1 : Int))) (
            (J34 true w35)) (
            ldI .i64 w35 (Addr.add a8 0) fun i39 =>
            iteB (i39 == (16 : Int)) (
              ixS depths_3 i_2 1 fun a40 =>
              ldI .i64 w35 a40 fun i41 =>
              iteB (i41 != (0 : Int)) (
                (J34 true w35)) (
                iteB b14 (
                  ldI .i64 w35 (Addr.add a8 4) fun i42 =>
                  ixS depths_3 i42 1 fun a43 =>
                  ldI .i64 w35 a43 fun i44 =>
                  ixS depths_3 i_2 1 fun a45 =>
                  ldI .i64 w35 a45 fun i46 =>
                  (J34 (i44 != i46) w35)) (
                  (J34 false w35)))) (
              iteB b14 (
                ldI .i64 w35 (Addr.add a8 4) fun i47 =>
                ixS depths_3 i47 1 fun a48 =>
                ldI .i64 w35 a48 fun i49 =>
                ixS depths_3 i_2 1 fun a50 =>
                ldI .i64 w35 a50 fun i51 =>
                (J34 (i49 != i51) w35)) (
                (J34 false w35))))) (
          ldI .i64 w35 (Addr.add a8 0) fun i52 =>
          iteB (i52 == (13 : Int)) (
            ixS depths_3 i_2 1 fun a53 =>
            ldI .i64 w35 a53 fun i54 =>
            iteB (decide (i54 < (1 : Int))) (
              (J34 true w35)) (
              ldI .i64 w35 (Addr.add a8 0) fun i55 =>
              iteB (i55 == (16 : Int)) (
                ixS depths_3 i_2 1 fun a56 =>
                ldI .i64 w35 a56 fun i57 =>
                iteB (i57 != (0 : Int)) (
                  (J34 true w35)) (
                  iteB b14 (
                    ldI .i64 w35 (Addr.add a8 4) fun i58 =>
                    ixS depths_3 i58 1 fun a59 =>
                    ldI .i64 w35 a59 fun i60 =>
                    ixS depths_3 i_2 1 fun a61 =>
                    ldI .i64 w35 a61 fun i62 =>
                    (J34 (i60 != i62) w35)) (
                    (J34 false w35)))) (
                iteB b14 (
                  ldI .i64 w35 (Addr.add a8 4) fun i63 =>
                  ixS depths_3 i63 1 fun a64 =>
                  ldI .i64 w35 a64 fun i65 =>
                  ixS depths_3 i_2 1 fun a66 =>
                  ldI .i64 w35 a66 fun i67 =>
                  (J34 (i65 != i67) w35)) (
                  (J34 false w35))))) (
            ldI .i64 w35 (Addr.add a8 0) fun i68 =>
            iteB (i68 == (16 : Int)) (
              ixS depths_3 i_2 1 fun a69 =>
              ldI .i64 w35 a69 fun i70 =>
              iteB (i70 != (0 : Int)) (
                (J34 true w35)) (
                iteB b14 (
                  ldI .i64 w35 (Addr.add a8 4) fun i71 =>
                  ixS depths_3 i71 1 fun a72 =>
                  ldI .i64 w35 a72 fun i73 =>
                  ixS depths_3 i_2 1 fun a74 =>
                  ldI .i64 w35 a74 fun i75 =>
                  (J34 (i73 != i75) w35)) (
                  (J34 false w35)))) (
              iteB b14 (
                ldI .i64 w35 (Addr.add a8 4) fun i76 =>
                ixS depths_3 i76 1 fun a77 =>
                ldI .i64 w35 a77 fun i78 =>
                ixS depths_3 i_2 1 fun a79 =>
                ldI .i64 w35 a79 fun i80 =>
                (J34 (i78 != i80) w35)) (
                (J34 false w35)))))) fun b81 w82 =>
      iteB b81 (
        (k (15 : Int) w82)) (
        joinP (S := Bool) (fun J83 =>
          drew w82 fun w84 =>
          ldI .i64 w84 (Addr.add a8 0) fun i85 =>
          iteB (i85 == (9 : Int)) (
            ixS held_4 i_2 1 fun a86 =>
            ldI .i64 w84 a86 fun i87 =>
            ldI .i64 w84 (Addr.add a8 2) fun i88 =>
            pelotonref04_bit i87 i88 w84 fun b89 w90 =>
            iteB (!b89) (
              (J83 true w90)) (
              ldI .i64 w90 (Addr.add a8 0) fun i91 =>
              iteB (i91 == (10 : Int)) (
                ixS held_4 i_2 1 fun a92 =>
                ldI .i64 w90 a92 fun i93 =>
                ldI .i64 w90 (Addr.add a8 3) fun i94 =>
                pelotonref04_bit i93 i94 w90 fun b95 w96 =>
                (J83 (!b95) w96)) (
                (J83 false w90)))) (
            ldI .i64 w84 (Addr.add a8 0) fun i97 =>
            iteB (i97 == (10 : Int)) (
              ixS held_4 i_2 1 fun a98 =>
              ldI .i64 w84 a98 fun i99 =>
              ldI .i64 w84 (Addr.add a8 3) fun i100 =>
              pelotonref04_bit i99 i100 w84 fun b101 w102 =>
              (J83 (!b101) w102)) (
              (J83 false w84)))) fun b103 w104 =>
        iteB b103 (
          (k (16 : Int) w104)) (
          loopP (S := Int) (fun C105 i106 w107 =>
            iteB (decide (i106 < (8 : Int))) (
              joinP (S := Bool) (fun J108 =>
                ldI .i64 w107 (Addr.add a8 0) fun i109 =>
                iteB (i109 == (8 : Int)) (
                  ldS w107 (Addr.add a1 0) fun s110 =>
                  ldI .i64 w107 (Addr.add a8 4) fun i111 =>
                  ixS s110 i111 2 fun a112 =>
                  ldI .i64 w107 (Addr.add a112 0) fun i113 =>
                  pelotonref04_bit i113 i106 w107 fun b114 w115 =>
                  iteB b114 (
                    ixS held_4 i_2 1 fun a116 =>
                    ldI .i64 w115 a116 fun i117 =>
                    pelotonref04_bit i117 i106 w115 fun b118 w119 =>
                    (J108 (!b118) w119)) (
                    (J108 false w115))) (
                  (J108 false w107))) fun b120 w121 =>
              iteB b120 (
                (k (16 : Int) w121)) (
                (C105 (IntKind.wrap .i64 (i106 + (1 : Int))) w121))) (
              (k (0 : Int) w107))) (0 : Int) w104))))
theorem e_pelotonref04_wrong (pelotonref04_bit : Int → Int → World → ((Bool) → World → Prop) → Prop) (x : KT [.ag, .ag, (.i .i64), .s, .s]) (w : World) (k : KT [(.i .i64)] → World → Prop) : evFn Go.Proofs.Try.prog (orcOf [(n_pelotonref04_bit, (fun args w c => unL [(.i .i64), (.i .i64)] args fun x => pelotonref04_bit x.1 x.2 w fun r w => c (packV (valL [.b] r)) w))]) 93536108273669226631594124426802203716368015047804 [(2, [(12, .b)]), (3, [(48, .b)]), (6, [(69, .b)]), (9, [(111, .b)]), (12, [(139, .b)]), (17, [(13, (.i .i64))]), (21, [(166, .b)])] Go.Proofs.Try.f31 [(.i .i64)] (valL [.ag, .ag, (.i .i64), .s, .s] x) w k = pelotonref04_wrong_b pelotonref04_bit x.1 x.2.1 x.2.2.1 x.2.2.2.1 x.2.2.2.2 w k := by kernel_rfl
def pelotonref04_wrong (p_0 : Array Value) (f_1 : Array Value) (i_2 : Int) (depths_3 : Sl) (held_4 : Sl) (w : World) (k : (Int) → World → Prop) : Prop := pelotonref04_wrong_b pelotonref04_bit p_0 f_1 i_2 depths_3 held_4 w k
def d_pelotonref04_wrong : Dec := fun args w c => unL [.ag, .ag, (.i .i64), .s, .s] args fun x => pelotonref04_wrong x.1 x.2.1 x.2.2.1 x.2.2.2.1 x.2.2.2.2 w fun r w => c (packV (valL [(.i .i64)] r)) w
theorem s_pelotonref04_wrong : Sound Go.Proofs.Try.prog n_pelotonref04_wrong d_pelotonref04_wrong :=
  sound_of (mask := 93536108273669226631594124426802203716368015047804) (h := [(2, [(12, .b)]), (3, [(48, .b)]), (6, [(69, .b)]), (9, [(111, .b)]), (12, [(139, .b)]), (17, [(13, (.i .i64))]), (21, [(166, .b)])]) (ds := [(n_pelotonref04_bit, d_pelotonref04_bit)]) mixed Go.Proofs.Try.func31 ⟨s_pelotonref04_bit, trivial⟩
    [.ag, .ag, (.i .i64), .s, .s] [(.i .i64)] (by kernel_rfl) (fun x w k => pelotonref04_wrong x.1 x.2.1 x.2.2.1 x.2.2.2.1 x.2.2.2.2 w k) (fun x w k => e_pelotonref04_wrong pelotonref04_bit x w k)

/-- peloton/pelotonref04.Program -/
def pelotonref04_Program_b (pelotonref04_shape : Array Value → World → ((Int × Int) → World → Prop) → Prop) (pelotonref04_Depths : Sl → World → ((Sl) → World → Prop) → Prop) (pelotonref04_Held : Array Value → World → ((Sl) → World → Prop) → Prop) (pelotonref04_wrong : Array Value → Array Value → Int → Sl → Sl → World → ((Int) → World → Prop) → Prop) (p_0 : Array Value) (w : World) (k : (Array Value) → World → Prop) : Prop :=
  newC w p_0 34 fun a1 w2 =>
  newC w2 #[(.int .i64 (0 : Int)), (.int .i64 (0 : Int)), (.int .i64 (0 : Int))] 47 fun a3 w4 =>
  joinP (S := Bool) (fun J5 =>
    ldS w4 (Addr.add a1 0) fun s6 =>
    iteB (decide (((s6.n : Nat) : Int) < (1 : Int))) (
      (J5 true w4)) (
      ldS w4 (Addr.add a1 0) fun s7 =>
      (J5 (decide (((s7.n : Nat) : Int) > (32 : Int))) w4))) fun b8 w9 =>
  iteB b8 (
    stA 3 w9 a3 #[(.int .i64 (-(1 : Int))), (.int .i64 (-(1 : Int))), (.int .i64 (12 : Int))] fun w10 =>
    ldA 3 w10 a3 fun cs11 =>
    (k cs11 w10)) (
    joinP (S := Unit) (fun J12 =>
      loopP (S := Int) (fun C13 i14 w15 =>
        ldS w15 (Addr.add a1 0) fun s16 =>
        iteB (decide (i14 < ((s16.n : Nat) : Int))) (
          ldS w15 (Addr.add a1 0) fun s17 =>
          ixS s17 i14 2 fun a18 =>
          ldA 2 w15 a18 fun cs19 =>
          pelotonref04_shape cs19 w15 fun x20 w21 =>
          iteB ((x20.1, x20.2).2 != (0 : Int)) (
            stA 3 w21 a3 #[(.int .i64 i14), (.int .i64 (x20.1, x20.2).1), (.int .i64 (x20.1, x20.2).2)] fun w22 =>
            ldA 3 w22 a3 fun cs23 =>
            (k cs23 w22)) (
            (C13 (IntKind.wrap .i64 (i14 + (1 : Int))) w21))) (
          (J12 () w15))) (0 : Int) w9) fun u24 w25 =>
    ldS w25 (Addr.add a1 0) fun s26 =>
    ixS s26 (0 : Int) 2 fun a27 =>
    ldI .i64 w25 (Addr.add a27 0) fun i28 =>
    iteB (i28 != (0 : Int)) (
      stA 3 w25 a3 #[(.int .i64 (0 : Int)), (.int .i64 (-(1 : Int))), (.int .i64 (16 : Int))] fun w29 =>
      ldA 3 w29 a3 fun cs30 =>
      (k cs30 w29)) (
      loopP (S := Int) (fun C31 i32 w33 =>
        ldS w33 (Addr.add a1 0) fun s34 =>
        iteB (decide (i32 < ((s34.n : Nat) : Int))) (
          ldS w33 (Addr.add a1 0) fun s35 =>
          ixS s35 i32 2 fun a36 =>
          ldA 2 w33 a36 fun cs37 =>
          newC w33 #[(.int .i64 (0 : Int)), (.slice none 0 0)] 29 fun a38 w39 =>
          stA 2 w39 a38 cs37 fun w40 =>
          ldS w40 (Addr.add a38 1) fun s41 =>
          pelotonref04_Depths s41 w40 fun s42 w43 =>
          ldA 2 w43 a38 fun cs44 =>
          pelotonref04_Held cs44 w43 fun s45 w46 =>
          loopP (S := Int) (fun C47 i48 w49 =>
            ldS w49 (Addr.add a38 1) fun s50 =>
            iteB (decide (i48 < ((s50.n : Nat) : Int))) (
              ldA 1 w49 a1 fun cs51 =>
              ldA 2 w49 a38 fun cs52 =>
              pelotonref04_wrong cs51 cs52 i48 s42 s45 w49 fun i53 w54 =>
              iteB (i53 != (0 : Int)) (
                stA 3 w54 a3 #[(.int .i64 i32), (.int .i64 i48), (.int .i64 i53)] fun w55 =>
                ldA 3 w55 a3 fun cs56 =>
                (k cs56 w55)) (
                (C47 (IntKind.wrap .i64 (i48 + (1 : Int))) w54))) (
              (C31 (IntKind.wrap .i64 (i32 + (1 : Int))) w49))) (0 : Int) w46) (
          stA 3 w33 a3 #[(.int .i64 (0 : Int)), (.int .i64 (0 : Int)), (.int .i64 (0 : Int))] fun w57 =>
          ldA 3 w57 a3 fun cs58 =>
          (k cs58 w57))) (0 : Int) w25))
theorem e_pelotonref04_Program (pelotonref04_shape : Array Value → World → ((Int × Int) → World → Prop) → Prop) (pelotonref04_Depths : Sl → World → ((Sl) → World → Prop) → Prop) (pelotonref04_Held : Array Value → World → ((Sl) → World → Prop) → Prop) (pelotonref04_wrong : Array Value → Array Value → Int → Sl → Sl → World → ((Int) → World → Prop) → Prop) (x : KT [.ag]) (w : World) (k : KT [.ag] → World → Prop) : evFn Go.Proofs.Try.prog (orcOf [(n_pelotonref04_shape, (fun args w c => unL [.ag] args fun x => pelotonref04_shape x w fun r w => c (packV (valL [(.i .i64), (.i .i64)] r)) w)), (n_pelotonref04_Depths, (fun args w c => unL [.s] args fun x => pelotonref04_Depths x w fun r w => c (packV (valL [.s] r)) w)), (n_pelotonref04_Held, (fun args w c => unL [.ag] args fun x => pelotonref04_Held x w fun r w => c (packV (valL [.s] r)) w)), (n_pelotonref04_wrong, (fun args w c => unL [.ag, .ag, (.i .i64), .s, .s] args fun x => pelotonref04_wrong x.1 x.2.1 x.2.2.1 x.2.2.2.1 x.2.2.2.2 w fun r w => c (packV (valL [(.i .i64)] r)) w))]) 9680851363067366280794110 [(1, [(21, .b)]), (5, []), (6, [(3, (.i .i64))]), (20, [(6, (.i .i64))]), (29, [(10, (.i .i64))])] Go.Proofs.Try.f19 [.ag] (valL [.ag] x) w k = pelotonref04_Program_b pelotonref04_shape pelotonref04_Depths pelotonref04_Held pelotonref04_wrong x w k := by kernel_rfl
def pelotonref04_Program (p_0 : Array Value) (w : World) (k : (Array Value) → World → Prop) : Prop := pelotonref04_Program_b pelotonref04_shape pelotonref04_Depths pelotonref04_Held pelotonref04_wrong p_0 w k
def d_pelotonref04_Program : Dec := fun args w c => unL [.ag] args fun x => pelotonref04_Program x w fun r w => c (packV (valL [.ag] r)) w
theorem s_pelotonref04_Program : Sound Go.Proofs.Try.prog n_pelotonref04_Program d_pelotonref04_Program :=
  sound_of (mask := 9680851363067366280794110) (h := [(1, [(21, .b)]), (5, []), (6, [(3, (.i .i64))]), (20, [(6, (.i .i64))]), (29, [(10, (.i .i64))])]) (ds := [(n_pelotonref04_shape, d_pelotonref04_shape), (n_pelotonref04_Depths, d_pelotonref04_Depths), (n_pelotonref04_Held, d_pelotonref04_Held), (n_pelotonref04_wrong, d_pelotonref04_wrong)]) mixed Go.Proofs.Try.func19 ⟨s_pelotonref04_shape, s_pelotonref04_Depths, s_pelotonref04_Held, s_pelotonref04_wrong, trivial⟩
    [.ag] [.ag] (by kernel_rfl) (fun x w k => pelotonref04_Program x w k) (fun x w k => e_pelotonref04_Program pelotonref04_shape pelotonref04_Depths pelotonref04_Held pelotonref04_wrong x w k)

/-- peloton/check.Plain -/
def check_Plain (p_0 : Array Value) (w : World) (k : (Bool) → World → Prop) : Prop :=
  newC w p_0 34 fun a1 w2 =>
  ldS w2 (Addr.add a1 0) fun s3 =>
  loopP (S := Int) (fun C4 i5 w6 =>
    iteB (decide (i5 < ((s3.n : Nat) : Int))) (
      ixS s3 i5 2 fun a7 =>
      ldA 2 w6 a7 fun cs8 =>
      newC w6 #[(.int .i64 (0 : Int)), (.slice none 0 0)] 29 fun a9 w10 =>
      stA 2 w10 a9 cs8 fun w11 =>
      ldS w11 (Addr.add a9 1) fun s12 =>
      loopP (S := Int) (fun C13 i14 w15 =>
        iteB (decide (i14 < ((s12.n : Nat) : Int))) (
          ixS s12 i14 5 fun a16 =>
          ldA 5 w15 a16 fun cs17 =>
          newC w15 #[(.int .i64 (0 : Int)), (.int .i64 (0 : Int)), (.int .i64 (0 : Int)), (.int .i64 (0 : Int)), (.int .i64 (0 : Int))] 42 fun a18 w19 =>
          stA 5 w19 a18 cs17 fun w20 =>
          joinP (S := Bool) (fun J21 =>
            ldI .i64 w20 (Addr.add a18 0) fun i22 =>
            iteB (i22 == (13 : Int)) (
              (J21 true w20)) (
              ldI .i64 w20 (Addr.add a18 0) fun i23 =>
              iteB (i23 == (11 : Int)) (
                ldI .i64 w20 (Addr.add a18 4) fun i24 =>
                (J21 (i24 != (0 : Int)) w20)) (
                (J21 false w20)))) fun b25 w26 =>
          iteB b25 (
            (k false w26)) (
            (C13 (IntKind.wrap .i64 (i14 + (1 : Int))) w26))) (
          (C4 (IntKind.wrap .i64 (i5 + (1 : Int))) w15))) (0 : Int) w11) (
      (k true w6))) (0 : Int) w2
def d_check_Plain : Dec := fun args w c => unL [.ag] args fun x => check_Plain x w fun r w => c (packV (valL [.b] r)) w
theorem s_check_Plain : Sound Go.Proofs.Try.prog n_check_Plain d_check_Plain :=
  sound_of (mask := 8590430038) (h := [(3, [(10, (.i .i64))]), (10, [(17, (.i .i64))]), (15, [(33, .b)])]) (ds := []) mixed Go.Proofs.Try.func20 trivial
    [.ag] [.b] (by kernel_rfl) (fun x w k => check_Plain x w k) (fun x w k => by kernel_rfl)

/-- peloton/pelotonref04.Plain -/
def pelotonref04_Plain (p_0 : Array Value) (w : World) (k : (Bool) → World → Prop) : Prop :=
  newC w p_0 34 fun a1 w2 =>
  loopP (S := Int) (fun C3 i4 w5 =>
    ldS w5 (Addr.add a1 0) fun s6 =>
    iteB (decide (i4 < ((s6.n : Nat) : Int))) (
      loopP (S := Int) (fun C7 i8 w9 =>
        ldS w9 (Addr.add a1 0) fun s10 =>
        ixS s10 i4 2 fun a11 =>
        ldS w9 (Addr.add a11 1) fun s12 =>
        iteB (decide (i8 < ((s12.n : Nat) : Int))) (
          ldS w9 (Addr.add a1 0) fun s13 =>
          ixS s13 i4 2 fun a14 =>
          ldS w9 (Addr.add a14 1) fun s15 =>
          ixS s15 i8 5 fun a16 =>
          ldA 5 w9 a16 fun cs17 =>
          newC w9 #[(.int .i64 (0 : Int)), (.int .i64 (0 : Int)), (.int .i64 (0 : Int)), (.int .i64 (0 : Int)), (.int .i64 (0 : Int))] 42 fun a18 w19 =>
          stA 5 w19 a18 cs17 fun w20 =>
          joinP (S := Bool) (fun J21 =>
            ldI .i64 w20 (Addr.add a18 0) fun i22 =>
            iteB (i22 == (13 : Int)) (
              (J21 true w20)) (
              ldI .i64 w20 (Addr.add a18 0) fun i23 =>
              iteB (i23 == (11 : Int)) (
                ldI .i64 w20 (Addr.add a18 4) fun i24 =>
                (J21 (i24 != (0 : Int)) w20)) (
                (J21 false w20)))) fun b25 w26 =>
          iteB b25 (
            (k false w26)) (
            (C7 (IntKind.wrap .i64 (i8 + (1 : Int))) w26))) (
          (C3 (IntKind.wrap .i64 (i4 + (1 : Int))) w9))) (0 : Int) w5) (
      (k true w5))) (0 : Int) w2
def d_pelotonref04_Plain : Dec := fun args w c => unL [.ag] args fun x => pelotonref04_Plain x w fun r w => c (packV (valL [.b] r)) w
theorem s_pelotonref04_Plain : Sound Go.Proofs.Try.prog n_pelotonref04_Plain d_pelotonref04_Plain :=
  sound_of (mask := 35184374187070) (h := [(3, [(3, (.i .i64))]), (9, [(4, (.i .i64))]), (14, [(45, .b)])]) (ds := []) mixed Go.Proofs.Try.func21 trivial
    [.ag] [.b] (by kernel_rfl) (fun x w k => pelotonref04_Plain x w k) (fun x w k => by kernel_rfl)

/-- peloton/pelotonlaw04.CheckPrograms -/
def pelotonlaw04_CheckPrograms_b (pelotonlaw02_Few : Array Value → World → ((Bool) → World → Prop) → Prop) (pelotonlaw04_awake : World → ((Bool) → World → Prop) → Prop) (check_Program : Array Value → World → ((Array Value) → World → Prop) → Prop) (pelotonref04_Program : Array Value → World → ((Array Value) → World → Prop) → Prop) (check_Accepts : Array Value → World → ((Bool) → World → Prop) → Prop) (check_Plain : Array Value → World → ((Bool) → World → Prop) → Prop) (pelotonref04_Plain : Array Value → World → ((Bool) → World → Prop) → Prop) (p_0 : Array Value) (w : World) (k : (Bool) → World → Prop) : Prop :=
  newC w p_0 34 fun a1 w2 =>
  ldA 1 w2 a1 fun cs3 =>
  pelotonlaw02_Few cs3 w2 fun b4 w5 =>
  iteB (!b4) (
    pelotonlaw04_awake  w5 fun b6 w7 =>
    (k b6 w7)) (
    ldA 1 w5 a1 fun cs8 =>
    check_Program cs8 w5 fun cs9 w10 =>
    newC w10 #[(.int .i64 (0 : Int)), (.int .i64 (0 : Int)), (.int .i64 (0 : Int))] 38 fun a11 w12 =>
    stA 3 w12 a11 cs9 fun w13 =>
    ldA 1 w13 a1 fun cs14 =>
    pelotonref04_Program cs14 w13 fun cs15 w16 =>
    newC w16 #[(.int .i64 (0 : Int)), (.int .i64 (0 : Int)), (.int .i64 (0 : Int))] 47 fun a17 w18 =>
    stA 3 w18 a17 cs15 fun w19 =>
    drew w19 fun w20 =>
    ldI .i64 w20 (Addr.add a11 0) fun i21 =>
    ldI .i64 w20 (Addr.add a17 0) fun i22 =>
    iteB (i21 == i22) (
      ldI .i64 w20 (Addr.add a11 1) fun i23 =>
      ldI .i64 w20 (Addr.add a17 1) fun i24 =>
      iteB (i23 == i24) (
        ldI .i64 w20 (Addr.add a11 2) fun i25 =>
        ldI .i64 w20 (Addr.add a17 2) fun i26 =>
        iteB (i25 == i26) (
          ldA 1 w20 a1 fun cs27 =>
          ldI .i64 w20 (Addr.add a17 2) fun i28 =>
          check_Accepts cs27 w20 fun b29 w30 =>
          samec 1 (Addr.add a17 2) w20 w30 (
          iteB (b29 == (i28 == (0 : Int))) (
            ldA 1 w30 a1 fun cs31 =>
            ldA 1 w30 a1 fun cs32 =>
            check_Plain cs31 w30 fun b33 w34 =>
            samec 1 a1 w30 w34 (
            pelotonref04_Plain cs32 w34 fun b35 w36 =>
            iteB (b33 == b35) (
              pelotonlaw04_awake  w36 fun b37 w38 =>
              (k b37 w38)) (
              (k false w36)))) (
            (k false w30)))) (
          (k false w20))) (
        (k false w20))) (
      (k false w20)))
theorem e_pelotonlaw04_CheckPrograms (pelotonlaw02_Few : Array Value → World → ((Bool) → World → Prop) → Prop) (pelotonlaw04_awake : World → ((Bool) → World → Prop) → Prop) (check_Program : Array Value → World → ((Array Value) → World → Prop) → Prop) (pelotonref04_Program : Array Value → World → ((Array Value) → World → Prop) → Prop) (check_Accepts : Array Value → World → ((Bool) → World → Prop) → Prop) (check_Plain : Array Value → World → ((Bool) → World → Prop) → Prop) (pelotonref04_Plain : Array Value → World → ((Bool) → World → Prop) → Prop) (x : KT [.ag]) (w : World) (k : KT [.b] → World → Prop) : evFn Go.Proofs.Try.prog (orcOf [(n_pelotonlaw02_Few, (fun args w c => unL [.ag] args fun x => pelotonlaw02_Few x w fun r w => c (packV (valL [.b] r)) w)), (n_pelotonlaw04_awake, (fun args w c => unL [] args fun x => pelotonlaw04_awake  w fun r w => c (packV (valL [.b] r)) w)), (n_check_Program, (fun args w c => unL [.ag] args fun x => check_Program x w fun r w => c (packV (valL [.ag] r)) w)), (n_pelotonref04_Program, (fun args w c => unL [.ag] args fun x => pelotonref04_Program x w fun r w => c (packV (valL [.ag] r)) w)), (n_check_Accepts, (fun args w c => unL [.ag] args fun x => check_Accepts x w fun r w => c (packV (valL [.b] r)) w)), (n_check_Plain, (fun args w c => unL [.ag] args fun x => check_Plain x w fun r w => c (packV (valL [.b] r)) w)), (n_pelotonref04_Plain, (fun args w c => unL [.ag] args fun x => pelotonref04_Plain x w fun r w => c (packV (valL [.b] r)) w))]) 158 [] Go.Proofs.Try.f8 [.b] (valL [.ag] x) w k = pelotonlaw04_CheckPrograms_b pelotonlaw02_Few pelotonlaw04_awake check_Program pelotonref04_Program check_Accepts check_Plain pelotonref04_Plain x w k := by kernel_rfl
def pelotonlaw04_CheckPrograms (p_0 : Array Value) (w : World) (k : (Bool) → World → Prop) : Prop := pelotonlaw04_CheckPrograms_b pelotonlaw02_Few pelotonlaw04_awake check_Program pelotonref04_Program check_Accepts check_Plain pelotonref04_Plain p_0 w k
def d_pelotonlaw04_CheckPrograms : Dec := fun args w c => unL [.ag] args fun x => pelotonlaw04_CheckPrograms x w fun r w => c (packV (valL [.b] r)) w
theorem s_pelotonlaw04_CheckPrograms : Sound Go.Proofs.Try.prog n_pelotonlaw04_CheckPrograms d_pelotonlaw04_CheckPrograms :=
  sound_of (mask := 158) (h := []) (ds := [(n_pelotonlaw02_Few, d_pelotonlaw02_Few), (n_pelotonlaw04_awake, d_pelotonlaw04_awake), (n_check_Program, d_check_Program), (n_pelotonref04_Program, d_pelotonref04_Program), (n_check_Accepts, d_check_Accepts), (n_check_Plain, d_check_Plain), (n_pelotonref04_Plain, d_pelotonref04_Plain)]) mixed Go.Proofs.Try.func8 ⟨s_pelotonlaw02_Few, s_pelotonlaw04_awake, s_check_Program, s_pelotonref04_Program, s_check_Accepts, s_check_Plain, s_pelotonref04_Plain, trivial⟩
    [.ag] [.b] (by kernel_rfl) (fun x w k => pelotonlaw04_CheckPrograms x w k) (fun x w k => e_pelotonlaw04_CheckPrograms pelotonlaw02_Few pelotonlaw04_awake check_Program pelotonref04_Program check_Accepts check_Plain pelotonref04_Plain x w k)

/-- peloton/pelotonlaw04.moved -/
def pelotonlaw04_moved (f_0 : Array Value) (w : World) (k : (Array Value) → World → Prop) : Prop :=
  newC w f_0 29 fun a1 w2 =>
  newC w2 #[(.int .i64 (0 : Int)), (.slice none 0 0)] 29 fun a3 w4 =>
  ldI .i64 w4 (Addr.add a1 0) fun i5 =>
  spl #[(.int .i64 (0 : Int)), (.int .i64 (0 : Int)), (.int .i64 (0 : Int)), (.int .i64 (0 : Int)), (.int .i64 (0 : Int))] 0 5 #[(.int .i64 (14 : Int)), (.int .i64 (0 : Int)), (.int .i64 (0 : Int)), (.int .i64 (0 : Int)), (.int .i64 (0 : Int))] fun cs6 =>
  newC w4 cs6 42 fun a7 w8 =>
  newC w8 #[(.int .i64 (0 : Int)), (.slice none 0 0)] 29 fun a9 w10 =>
  stA 2 w10 a9 #[(.int .i64 i5), (.slice (some a7) 1 1)] fun w11 =>
  loopP (S := Int) (fun C12 i13 w14 =>
    ldS w14 (Addr.add a1 1) fun s15 =>
    iteB (decide (i13 < ((s15.n : Nat) : Int))) (
      ldS w14 (Addr.add a1 1) fun s16 =>
      ixS s16 i13 5 fun a17 =>
      ldA 5 w14 a17 fun cs18 =>
      newC w14 #[(.int .i64 (0 : Int)), (.int .i64 (0 : Int)), (.int .i64 (0 : Int)), (.int .i64 (0 : Int)), (.int .i64 (0 : Int))] 42 fun a19 w20 =>
      stA 5 w20 a19 cs18 fun w21 =>
      joinP (S := Bool) (fun J22 =>
        ldI .i64 w21 (Addr.add a19 0) fun i23 =>
        iteB (i23 == (6 : Int)) (
          (J22 true w21)) (
          ldI .i64 w21 (Addr.add a19 0) fun i24 =>
          (J22 (i24 == (7 : Int)) w21))) fun b25 w26 =>
      joinP (S := Unit) (fun J27 =>
        iteB b25 (
          ldI .i64 w26 (Addr.add a19 4) fun i28 =>
          stC w26 (Addr.add a19 4) (.int .i64 (IntKind.wrap .i64 (i28 + (1 : Int)))) fun w29 =>
          (J27 () w29)) (
          (J27 () w26))) fun u30 w31 =>
      ldS w31 (Addr.add a9 1) fun s32 =>
      ldA 5 w31 a19 fun cs33 =>
      spl #[(.int .i64 (0 : Int)), (.int .i64 (0 : Int)), (.int .i64 (0 : Int)), (.int .i64 (0 : Int)), (.int .i64 (0 : Int))] 0 5 cs33 fun cs34 =>
      newC w31 cs34 42 fun a35 w36 =>
      bApp Go.Proofs.Try.prog #[22, 22] 22 [(.slice s32.a s32.n s32.c), (.slice (some a35) 1 1)] w36 fun s37 w38 =>
      stC w38 (Addr.add a9 1) (.slice s37.a s37.n s37.c) fun w39 =>
      (C12 (IntKind.wrap .i64 (i13 + (1 : Int))) w39)) (
      ldA 2 w14 a9 fun cs40 =>
      stA 2 w14 a3 cs40 fun w41 =>
      ldA 2 w41 a3 fun cs42 =>
      (k cs42 w41))) (0 : Int) w11
def d_pelotonlaw04_moved : Dec := fun args w c => unL [.ag] args fun x => pelotonlaw04_moved x w fun r w => c (packV (valL [.ag] r)) w
theorem s_pelotonlaw04_moved : Sound Go.Proofs.Try.prog n_pelotonlaw04_moved d_pelotonlaw04_moved :=
  sound_of (mask := 1073774654) (h := [(4, [(4, (.i .i64))]), (9, [(30, .b)]), (10, [])]) (ds := []) mixed Go.Proofs.Try.func22 trivial
    [.ag] [.ag] (by kernel_rfl) (fun x w k => pelotonlaw04_moved x w k) (fun x w k => by kernel_rfl)

/-- peloton/pelotonlaw04.CheckMoves -/
def pelotonlaw04_CheckMoves_b (pelotonlaw02_Few : Array Value → World → ((Bool) → World → Prop) → Prop) (pelotonlaw04_awake : World → ((Bool) → World → Prop) → Prop) (pelotonlaw04_moved : Array Value → World → ((Array Value) → World → Prop) → Prop) (check_Accepts : Array Value → World → ((Bool) → World → Prop) → Prop) (check_Plain : Array Value → World → ((Bool) → World → Prop) → Prop) (p_0 : Array Value) (k_1 : Int) (w : World) (k : (Bool) → World → Prop) : Prop :=
  newC w p_0 34 fun a1 w2 =>
  joinP (S := Bool) (fun J3 =>
    ldA 1 w2 a1 fun cs4 =>
    pelotonlaw02_Few cs4 w2 fun b5 w6 =>
    iteB ((!b5) || (decide (k_1 < (0 : Int)))) (
      (J3 true w6)) (
      ldS w6 (Addr.add a1 0) fun s7 =>
      iteB (decide (k_1 ≥ ((s7.n : Nat) : Int))) (
        (J3 true w6)) (
        ldS w6 (Addr.add a1 0) fun s8 =>
        ixS s8 k_1 2 fun a9 =>
        ldS w6 (Addr.add a9 1) fun s10 =>
        iteB (decide (((s10.n : Nat) : Int) < (1 : Int))) (
          (J3 true w6)) (
          ldS w6 (Addr.add a1 0) fun s11 =>
          ixS s11 k_1 2 fun a12 =>
          ldS w6 (Addr.add a12 1) fun s13 =>
          (J3 (decide (((s13.n : Nat) : Int) > (126 : Int))) w6))))) fun b14 w15 =>
  iteB b14 (
    pelotonlaw04_awake  w15 fun b16 w17 =>
    (k b16 w17)) (
    joinP (S := Unit) (fun J18 =>
      loopP (S := Int) (fun C19 i20 w21 =>
        ldS w21 (Addr.add a1 0) fun s22 =>
        ixS s22 k_1 2 fun a23 =>
        ldS w21 (Addr.add a23 1) fun s24 =>
        iteB (decide (i20 < ((s24.n : Nat) : Int))) (
          ldS w21 (Addr.add a1 0) fun s25 =>
          ixS s25 k_1 2 fun a26 =>
          ldS w21 (Addr.add a26 1) fun s27 =>
          ixS s27 i20 5 fun a28 =>
          ldA 5 w21 a28 fun cs29 =>
          newC w21 #[(.int .i64 (0 : Int)), (.int .i64 (0 : Int)), (.int .i64 (0 : Int)), (.int .i64 (0 : Int)), (.int .i64 (0 : Int))] 42 fun a30 w31 =>
          stA 5 w31 a30 cs29 fun w32 =>
          joinP (S := Bool) (fun J33 =>
            ldI .i64 w32 (Addr.add a30 0) fun i34 =>
            iteB (i34 == (6 : Int)) (
              ldI .i64 w32 (Addr.add a30 4) fun i35 =>
              iteB (decide (i35 < (0 : Int))) (
                (J33 true w32)) (
                ldI .i64 w32 (Addr.add a30 4) fun i36 =>
                (J33 (decide (i36 > (126 : Int))) w32))) (
              ldI .i64 w32 (Addr.add a30 0) fun i37 =>
              iteB (i37 == (7 : Int)) (
                ldI .i64 w32 (Addr.add a30 4) fun i38 =>
                iteB (decide (i38 < (0 : Int))) (
                  (J33 true w32)) (
                  ldI .i64 w32 (Addr.add a30 4) fun i39 =>
                  (J33 (decide (i39 > (126 : Int))) w32))) (
                (J33 false w32)))) fun b40 w41 =>
          iteB b40 (
            pelotonlaw04_awake  w41 fun b42 w43 =>
            (k b42 w43)) (
            (C19 (IntKind.wrap .i64 (i20 + (1 : Int))) w41))) (
          (J18 () w21))) (0 : Int) w15) fun u44 w45 =>
    newC w45 #[(.slice none 0 0)] 34 fun a46 w47 =>
    ldS w47 (Addr.add a46 0) fun s48 =>
    ldS w47 (Addr.add a1 0) fun s49 =>
    bApp Go.Proofs.Try.prog #[32, 32] 32 [(.slice s48.a s48.n s48.c), (.slice s49.a s49.n s49.c)] w47 fun s50 w51 =>
    stC w51 (Addr.add a46 0) (.slice s50.a s50.n s50.c) fun w52 =>
    drew w52 fun w53 =>
    ldS w53 (Addr.add a46 0) fun s54 =>
    ldS w53 (Addr.add a1 0) fun s55 =>
    ixS s55 k_1 2 fun a56 =>
    ldA 2 w53 a56 fun cs57 =>
    pelotonlaw04_moved cs57 w53 fun cs58 w59 =>
    samec 1 (Addr.add a46 0) w53 w59 (
    ixS s54 k_1 2 fun a60 =>
    stA 2 w59 a60 cs58 fun w61 =>
    drew w61 fun w62 =>
    ldA 1 w62 a1 fun cs63 =>
    ldA 1 w62 a46 fun cs64 =>
    check_Accepts cs63 w62 fun b65 w66 =>
    samec 1 a46 w62 w66 (
    check_Accepts cs64 w66 fun b67 w68 =>
    iteB (b65 == b67) (
      ldA 1 w68 a1 fun cs69 =>
      ldA 1 w68 a46 fun cs70 =>
      check_Plain cs69 w68 fun b71 w72 =>
      samec 1 a46 w68 w72 (
      check_Plain cs70 w72 fun b73 w74 =>
      iteB (b71 == b73) (
        pelotonlaw04_awake  w74 fun b75 w76 =>
        (k b75 w76)) (
        (k false w74)))) (
      (k false w68)))))
theorem e_pelotonlaw04_CheckMoves (pelotonlaw02_Few : Array Value → World → ((Bool) → World → Prop) → Prop) (pelotonlaw04_awake : World → ((Bool) → World → Prop) → Prop) (pelotonlaw04_moved : Array Value → World → ((Array Value) → World → Prop) → Prop) (check_Accepts : Array Value → World → ((Bool) → World → Prop) → Prop) (check_Plain : Array Value → World → ((Bool) → World → Prop) → Prop) (x : KT [.ag, (.i .i64)]) (w : World) (k : KT [.b] → World → Prop) : evFn Go.Proofs.Try.prog (orcOf [(n_pelotonlaw02_Few, (fun args w c => unL [.ag] args fun x => pelotonlaw02_Few x w fun r w => c (packV (valL [.b] r)) w)), (n_pelotonlaw04_awake, (fun args w c => unL [] args fun x => pelotonlaw04_awake  w fun r w => c (packV (valL [.b] r)) w)), (n_pelotonlaw04_moved, (fun args w c => unL [.ag] args fun x => pelotonlaw04_moved x w fun r w => c (packV (valL [.ag] r)) w)), (n_check_Accepts, (fun args w c => unL [.ag] args fun x => check_Accepts x w fun r w => c (packV (valL [.b] r)) w)), (n_check_Plain, (fun args w c => unL [.ag] args fun x => check_Plain x w fun r w => c (packV (valL [.b] r)) w))]) 1208925821868628011647222 [(1, [(41, .b)]), (5, []), (6, [(5, (.i .i64))]), (11, [(80, .b)])] Go.Proofs.Try.f9 [.b] (valL [.ag, (.i .i64)] x) w k = pelotonlaw04_CheckMoves_b pelotonlaw02_Few pelotonlaw04_awake pelotonlaw04_moved check_Accepts check_Plain x.1 x.2 w k := by kernel_rfl
def pelotonlaw04_CheckMoves (p_0 : Array Value) (k_1 : Int) (w : World) (k : (Bool) → World → Prop) : Prop := pelotonlaw04_CheckMoves_b pelotonlaw02_Few pelotonlaw04_awake pelotonlaw04_moved check_Accepts check_Plain p_0 k_1 w k
def d_pelotonlaw04_CheckMoves : Dec := fun args w c => unL [.ag, (.i .i64)] args fun x => pelotonlaw04_CheckMoves x.1 x.2 w fun r w => c (packV (valL [.b] r)) w
theorem s_pelotonlaw04_CheckMoves : Sound Go.Proofs.Try.prog n_pelotonlaw04_CheckMoves d_pelotonlaw04_CheckMoves :=
  sound_of (mask := 1208925821868628011647222) (h := [(1, [(41, .b)]), (5, []), (6, [(5, (.i .i64))]), (11, [(80, .b)])]) (ds := [(n_pelotonlaw02_Few, d_pelotonlaw02_Few), (n_pelotonlaw04_awake, d_pelotonlaw04_awake), (n_pelotonlaw04_moved, d_pelotonlaw04_moved), (n_check_Accepts, d_check_Accepts), (n_check_Plain, d_check_Plain)]) mixed Go.Proofs.Try.func9 ⟨s_pelotonlaw02_Few, s_pelotonlaw04_awake, s_pelotonlaw04_moved, s_check_Accepts, s_check_Plain, trivial⟩
    [.ag, (.i .i64)] [.b] (by kernel_rfl) (fun x w k => pelotonlaw04_CheckMoves x.1 x.2 w k) (fun x w k => e_pelotonlaw04_CheckMoves pelotonlaw02_Few pelotonlaw04_awake pelotonlaw04_moved check_Accepts check_Plain x w k)

end Go.Proofs.Ytinieegaaimilaa
