/-
  The functions of this seat, as the evaluator gives them: printed by a program; each tied to its function by the kernel.
-/
import Derived.Test.YtgkfbagclkjilaaProg
import Derived.Test.YtgkfbagclkjilaaEvR
import Derived.Test.YtgkfbagclkjilaaEvX
import Derived.Test.YtgkfbagclkjilaaEvT
import Derived.KernelRfl
set_option maxRecDepth 100000
set_option linter.unusedVariables false
namespace Go.Proofs.Ytgkfbagclkjilaa
open Go Go.Ev
theorem mixed : Go.Proofs.Try.prog.follows .mixedOrders = true := by kernel_rfl

abbrev n_pelotonlaw06_SerialRuns : Nat := 3
abbrev n_pelotonlaw06_SerialFuel : Nat := 4
abbrev n_pelotonlaw06_SerialTwice : Nat := 5
abbrev n_pelotonlaw06_SerialScopes : Nat := 6
abbrev n_pelotonlaw06_SerialPlain : Nat := 7
abbrev n_pelotonlaw06_small : Nat := 8
abbrev n_pelotonlaw02_Few : Nat := 9
abbrev n_pelotonlaw06_awake : Nat := 10
abbrev n_serial_Run : Nat := 11
abbrev n_pelotonref06_Run : Nat := 12
abbrev n_pelotonlaw06_Rows : Nat := 13
abbrev n_check_Accepts : Nat := 14
abbrev n_pelotonlaw06_with : Nat := 15
abbrev n_check_Plain : Nat := 16
abbrev n_serial_Run_1 : Nat := 17
abbrev n_serial_Run_2 : Nat := 18
abbrev n_serial_scope_within : Nat := 19
abbrev n_serial_machine_step : Nat := 20
abbrev n_frame_Root : Nat := 21
abbrev n_pelotonref04_Accepts : Nat := 22
abbrev n_pelotonref06_Machine_add : Nat := 23
abbrev n_pelotonref05_Root : Nat := 24
abbrev n_pelotonref06_Machine_step : Nat := 25
abbrev n_check_Program : Nat := 26
abbrev n_frame_Frame_Next : Nat := 27
abbrev n_code_Point : Nat := 28
abbrev n_serial_scope_cancelled : Nat := 29
abbrev n_serial_machine_end : Nat := 30
abbrev n_serial_deep : Nat := 31
abbrev n_frame_Frame_Plain : Nat := 32
abbrev n_serial_machine_fork : Nat := 33
abbrev n_serial_machine_join : Nat := 34
abbrev n_serial_machine_open : Nat := 35
abbrev n_serial_machine_close : Nat := 36
abbrev n_serial_machine_cancel : Nat := 37
abbrev n_serial_machine_pass : Nat := 38
abbrev n_serial_machine_leave : Nat := 39
abbrev n_pelotonref04_Program : Nat := 40
abbrev n_pelotonref06_Machine_top : Nat := 41
abbrev n_pelotonref02_Point : Nat := 42
abbrev n_pelotonref06_Machine_ends : Nat := 43
abbrev n_pelotonref05_Task_Plain : Nat := 44
abbrev n_pelotonref05_Task_Child : Nat := 45
abbrev n_pelotonref06_Machine_cancelled : Nat := 46
abbrev n_pelotonref05_Task_Joined : Nat := 47
abbrev n_pelotonref05_Task_On : Nat := 48
abbrev n_pelotonref05_Task_Closed : Nat := 49
abbrev n_check_shape : Nat := 50
abbrev n_check_function : Nat := 51
abbrev n_code_Check : Nat := 52
abbrev n_frame_Frame_to : Nat := 53
abbrev n_frame_Frame_Passed : Nat := 54
abbrev n_frame_Frame_sums : Nat := 55
abbrev n_frame_Frame_Child : Nat := 56
abbrev n_frame_Frame_Forked : Nat := 57
abbrev n_frame_Frame_Joined : Nat := 58
abbrev n_frame_Frame_Closed : Nat := 59
abbrev n_pelotonref04_shape : Nat := 60
abbrev n_pelotonref04_Depths : Nat := 61
abbrev n_pelotonref04_Held : Nat := 62
abbrev n_pelotonref04_wrong : Nat := 63
abbrev n_pelotonref05_Task_Forked : Nat := 64
abbrev n_pelotonref02_Check : Nat := 65
abbrev n_pelotonref05_Task_With : Nat := 66
abbrev n_pelotonref05_Task_To : Nat := 67
abbrev n_pelotonref05_is : Nat := 68
abbrev n_check_Depths : Nat := 69
abbrev n_check_Held : Nat := 70
abbrev n_check_judge_places : Nat := 71
abbrev n_check_judge_last : Nat := 72
abbrev n_check_judge_scopes : Nat := 73
abbrev n_check_judge_handles : Nat := 74
abbrev n_code_operands : Nat := 75
abbrev n_code_span : Nat := 76
abbrev n_frame_Frame_sums_1 : Nat := 77
abbrev n_frame_Frame_sums_2 : Nat := 78
abbrev n_frame_Frame_sums_3 : Nat := 79
abbrev n_frame_Frame_sums_4 : Nat := 80
abbrev n_frame_Frame_sums_5 : Nat := 81
abbrev n_frame_Frame_sums_6 : Nat := 82
abbrev n_frame_one : Nat := 83
abbrev n_frame_may : Nat := 84
abbrev n_pelotonref04_without : Nat := 85
abbrev n_pelotonref04_bit : Nat := 86
abbrev n_pelotonref02_spans : Nat := 87
abbrev n_check_flow_meet : Nat := 88
abbrev n_check_behind : Nat := 89
abbrev n_check_goes : Nat := 90
abbrev n_check_ends : Nat := 91
abbrev n_pelotonref04_Behind : Nat := 92
abbrev n_check_behind_1 : Nat := 93

/-- peloton/pelotonlaw02.Few -/
def pelotonlaw02_Few (p_0 : Array Value) (w : World) (k : (Bool) → World → Prop) : Prop :=
  newC w p_0 24 fun a1 w2 =>
  loopP (S := Int) (fun C3 i4 w5 =>
    ldS w5 (Addr.add a1 0) fun s6 =>
    iteB ((decide (i4 < ((s6.n : Nat) : Int))) && (decide (i4 < (41 : Int)))) (
      ldS w5 (Addr.add a1 0) fun s7 =>
      ixS s7 i4 2 fun a8 =>
      ldS w5 (Addr.add a8 1) fun s9 =>
      iteB (decide (((s9.n : Nat) : Int) > (140 : Int))) (
        (k false w5)) (
        (C3 (IntKind.wrap .i64 (i4 + (1 : Int))) w5))) (
      ldS w5 (Addr.add a1 0) fun s10 =>
      (k (decide (((s10.n : Nat) : Int) ≤ (40 : Int))) w5))) (0 : Int) w2
def d_pelotonlaw02_Few : Dec := fun args w c => unL [.ag] args fun x => pelotonlaw02_Few x w fun r w => c (packV (valL [.b] r)) w
theorem s_pelotonlaw02_Few : Sound Go.Proofs.Try.prog n_pelotonlaw02_Few d_pelotonlaw02_Few :=
  sound_of (mask := 4198414) (h := [(3, [(3, (.i .i64))])]) (ds := []) mixed Go.Proofs.Try.func9 trivial
    [.ag] [.b] (by kernel_rfl) (fun x w k => pelotonlaw02_Few x w k) (fun x w k => by kernel_rfl)

/-- peloton/pelotonlaw06.small -/
def pelotonlaw06_small_b (pelotonlaw02_Few : Array Value → World → ((Bool) → World → Prop) → Prop) (p_0 : Array Value) (fuel_1 : Int) (w : World) (k : (Bool) → World → Prop) : Prop :=
  newC w p_0 24 fun a1 w2 =>
  ldA 1 w2 a1 fun cs3 =>
  pelotonlaw02_Few cs3 w2 fun b4 w5 =>
  (k (b4 && (decide (fuel_1 ≤ (3000 : Int)))) w5)
theorem e_pelotonlaw06_small (pelotonlaw02_Few : Array Value → World → ((Bool) → World → Prop) → Prop) (x : KT [.ag, (.i .i64)]) (w : World) (k : KT [.b] → World → Prop) : evFn Go.Proofs.Try.prog (orcOf [(n_pelotonlaw02_Few, (fun args w c => unL [.ag] args fun x => pelotonlaw02_Few x w fun r w => c (packV (valL [.b] r)) w))]) 22 [] Go.Proofs.Try.f8 [.b] (valL [.ag, (.i .i64)] x) w k = pelotonlaw06_small_b pelotonlaw02_Few x.1 x.2 w k := by kernel_rfl
def pelotonlaw06_small (p_0 : Array Value) (fuel_1 : Int) (w : World) (k : (Bool) → World → Prop) : Prop := pelotonlaw06_small_b pelotonlaw02_Few p_0 fuel_1 w k
def d_pelotonlaw06_small : Dec := fun args w c => unL [.ag, (.i .i64)] args fun x => pelotonlaw06_small x.1 x.2 w fun r w => c (packV (valL [.b] r)) w
theorem s_pelotonlaw06_small : Sound Go.Proofs.Try.prog n_pelotonlaw06_small d_pelotonlaw06_small :=
  sound_of (mask := 22) (h := []) (ds := [(n_pelotonlaw02_Few, d_pelotonlaw02_Few)]) mixed Go.Proofs.Try.func8 ⟨s_pelotonlaw02_Few, trivial⟩
    [.ag, (.i .i64)] [.b] (by kernel_rfl) (fun x w k => pelotonlaw06_small x.1 x.2 w k) (fun x w k => e_pelotonlaw06_small pelotonlaw02_Few x w k)

/-- peloton/code.operands -/
def code_operands (op_0 : Int) (w : World) (k : (Array Value) → World → Prop) : Prop :=
  newC w #[(.int .i64 (0 : Int)), (.int .i64 (0 : Int)), (.int .i64 (0 : Int)), (.int .i64 (0 : Int))] 128 fun a1 w2 =>
  spl #[(.int .i64 (0 : Int)), (.int .i64 (0 : Int)), (.int .i64 (0 : Int)), (.int .i64 (0 : Int)), (.int .i64 (0 : Int)), (.int .i64 (0 : Int)), (.int .i64 (0 : Int)), (.int .i64 (0 : Int)), (.int .i64 (0 : Int)), (.int .i64 (0 : Int)), (.int .i64 (0 : Int)), (.int .i64 (0 : Int)), (.int .i64 (0 : Int)), (.int .i64 (0 : Int)), (.int .i64 (0 : Int)), (.int .i64 (0 : Int)), (.int .i64 (0 : Int)), (.int .i64 (0 : Int)), (.int .i64 (0 : Int)), (.int .i64 (0 : Int)), (.int .i64 (0 : Int)), (.int .i64 (0 : Int)), (.int .i64 (0 : Int)), (.int .i64 (0 : Int)), (.int .i64 (0 : Int)), (.int .i64 (0 : Int)), (.int .i64 (0 : Int)), (.int .i64 (0 : Int)), (.int .i64 (0 : Int)), (.int .i64 (0 : Int)), (.int .i64 (0 : Int)), (.int .i64 (0 : Int)), (.int .i64 (0 : Int)), (.int .i64 (0 : Int)), (.int .i64 (0 : Int)), (.int .i64 (0 : Int)), (.int .i64 (0 : Int)), (.int .i64 (0 : Int)), (.int .i64 (0 : Int)), (.int .i64 (0 : Int)), (.int .i64 (0 : Int)), (.int .i64 (0 : Int)), (.int .i64 (0 : Int)), (.int .i64 (0 : Int)), (.int .i64 (0 : Int)), (.int .i64 (0 : Int)), (.int .i64 (0 : Int)), (.int .i64 (0 : Int)), (.int .i64 (0 : Int)), (.int .i64 (0 : Int)), (.int .i64 (0 : Int)), (.int .i64 (0 : Int)), (.int .i64 (0 : Int)), (.int .i64 (0 : Int)), (.int .i64 (0 : Int)), (.int .i64 (0 : Int)), (.int .i64 (0 : Int)), (.int .i64 (0 : Int)), (.int .i64 (0 : Int)), (.int .i64 (0 : Int)), (.int .i64 (0 : Int)), (.int .i64 (0 : Int)), (.int .i64 (0 : Int)), (.int .i64 (0 : Int)), (.int .i64 (0 : Int)), (.int .i64 (0 : Int)), (.int .i64 (0 : Int)), (.int .i64 (0 : Int))] 0 4 #[(.int .i64 (1 : Int)), (.int .i64 (0 : Int)), (.int .i64 (0 : Int)), (.int .i64 (5 : Int))] fun cs3 =>
  spl cs3 4 4 #[(.int .i64 (1 : Int)), (.int .i64 (1 : Int)), (.int .i64 (0 : Int)), (.int .i64 (0 : Int))] fun cs4 =>
  spl cs4 8 4 #[(.int .i64 (1 : Int)), (.int .i64 (1 : Int)), (.int .i64 (1 : Int)), (.int .i64 (0 : Int))] fun cs5 =>
  spl cs5 12 4 #[(.int .i64 (1 : Int)), (.int .i64 (1 : Int)), (.int .i64 (1 : Int)), (.int .i64 (0 : Int))] fun cs6 =>
  spl cs6 16 4 #[(.int .i64 (1 : Int)), (.int .i64 (1 : Int)), (.int .i64 (1 : Int)), (.int .i64 (0 : Int))] fun cs7 =>
  spl cs7 20 4 #[(.int .i64 (1 : Int)), (.int .i64 (1 : Int)), (.int .i64 (1 : Int)), (.int .i64 (0 : Int))] fun cs8 =>
  spl cs8 24 4 #[(.int .i64 (0 : Int)), (.int .i64 (0 : Int)), (.int .i64 (0 : Int)), (.int .i64 (2 : Int))] fun cs9 =>
  spl cs9 28 4 #[(.int .i64 (1 : Int)), (.int .i64 (0 : Int)), (.int .i64 (0 : Int)), (.int .i64 (2 : Int))] fun cs10 =>
  spl cs10 32 4 #[(.int .i64 (1 : Int)), (.int .i64 (0 : Int)), (.int .i64 (0 : Int)), (.int .i64 (3 : Int))] fun cs11 =>
  spl cs11 36 4 #[(.int .i64 (1 : Int)), (.int .i64 (1 : Int)), (.int .i64 (0 : Int)), (.int .i64 (0 : Int))] fun cs12 =>
  spl cs12 40 4 #[(.int .i64 (1 : Int)), (.int .i64 (1 : Int)), (.int .i64 (1 : Int)), (.int .i64 (0 : Int))] fun cs13 =>
  spl cs13 44 4 #[(.int .i64 (0 : Int)), (.int .i64 (0 : Int)), (.int .i64 (0 : Int)), (.int .i64 (4 : Int))] fun cs14 =>
  spl cs14 48 4 #[(.int .i64 (1 : Int)), (.int .i64 (0 : Int)), (.int .i64 (0 : Int)), (.int .i64 (0 : Int))] fun cs15 =>
  spl cs15 52 4 #[(.int .i64 (0 : Int)), (.int .i64 (0 : Int)), (.int .i64 (0 : Int)), (.int .i64 (0 : Int))] fun cs16 =>
  spl cs16 56 4 #[(.int .i64 (0 : Int)), (.int .i64 (0 : Int)), (.int .i64 (0 : Int)), (.int .i64 (0 : Int))] fun cs17 =>
  spl cs17 60 4 #[(.int .i64 (1 : Int)), (.int .i64 (0 : Int)), (.int .i64 (0 : Int)), (.int .i64 (0 : Int))] fun cs18 =>
  spl cs18 64 4 #[(.int .i64 (1 : Int)), (.int .i64 (0 : Int)), (.int .i64 (0 : Int)), (.int .i64 (0 : Int))] fun cs19 =>
  newC w2 #[(.int .i64 (0 : Int)), (.int .i64 (0 : Int)), (.int .i64 (0 : Int)), (.int .i64 (0 : Int)), (.int .i64 (0 : Int)), (.int .i64 (0 : Int)), (.int .i64 (0 : Int)), (.int .i64 (0 : Int)), (.int .i64 (0 : Int)), (.int .i64 (0 : Int)), (.int .i64 (0 : Int)), (.int .i64 (0 : Int)), (.int .i64 (0 : Int)), (.int .i64 (0 : Int)), (.int .i64 (0 : Int)), (.int .i64 (0 : Int)), (.int .i64 (0 : Int)), (.int .i64 (0 : Int)), (.int .i64 (0 : Int)), (.int .i64 (0 : Int)), (.int .i64 (0 : Int)), (.int .i64 (0 : Int)), (.int .i64 (0 : Int)), (.int .i64 (0 : Int)), (.int .i64 (0 : Int)), (.int .i64 (0 : Int)), (.int .i64 (0 : Int)), (.int .i64 (0 : Int)), (.int .i64 (0 : Int)), (.int .i64 (0 : Int)), (.int .i64 (0 : Int)), (.int .i64 (0 : Int)), (.int .i64 (0 : Int)), (.int .i64 (0 : Int)), (.int .i64 (0 : Int)), (.int .i64 (0 : Int)), (.int .i64 (0 : Int)), (.int .i64 (0 : Int)), (.int .i64 (0 : Int)), (.int .i64 (0 : Int)), (.int .i64 (0 : Int)), (.int .i64 (0 : Int)), (.int .i64 (0 : Int)), (.int .i64 (0 : Int)), (.int .i64 (0 : Int)), (.int .i64 (0 : Int)), (.int .i64 (0 : Int)), (.int .i64 (0 : Int)), (.int .i64 (0 : Int)), (.int .i64 (0 : Int)), (.int .i64 (0 : Int)), (.int .i64 (0 : Int)), (.int .i64 (0 : Int)), (.int .i64 (0 : Int)), (.int .i64 (0 : Int)), (.int .i64 (0 : Int)), (.int .i64 (0 : Int)), (.int .i64 (0 : Int)), (.int .i64 (0 : Int)), (.int .i64 (0 : Int)), (.int .i64 (0 : Int)), (.int .i64 (0 : Int)), (.int .i64 (0 : Int)), (.int .i64 (0 : Int)), (.int .i64 (0 : Int)), (.int .i64 (0 : Int)), (.int .i64 (0 : Int)), (.int .i64 (0 : Int))] 144 fun a20 w21 =>
  stA 68 w21 a20 cs19 fun w22 =>
  ixP a20 17 op_0 4 fun a23 =>
  ldA 4 w22 a23 fun cs24 =>
  stA 4 w22 a1 cs24 fun w25 =>
  ldA 4 w25 a1 fun cs26 =>
  (k cs26 w25)
def d_code_operands : Dec := fun args w c => unL [(.i .i64)] args fun x => code_operands x w fun r w => c (packV (valL [.ag] r)) w
theorem s_code_operands : Sound Go.Proofs.Try.prog n_code_operands d_code_operands :=
  sound_of (mask := 13) (h := []) (ds := []) mixed Go.Proofs.Try.func75 trivial
    [(.i .i64)] [.ag] (by kernel_rfl) (fun x w k => code_operands x w k) (fun x w k => by kernel_rfl)

/-- peloton/code.span -/
def code_span (kind_0 : Int) (w : World) (k : (Int × Int) → World → Prop) : Prop :=
  iteB (kind_0 == (1 : Int)) (
    (k ((0 : Int), (7 : Int)) w)) (
    iteB (kind_0 == (2 : Int)) (
      (k ((0 : Int), (127 : Int)) w)) (
      iteB (kind_0 == (3 : Int)) (
        (k ((0 : Int), (31 : Int)) w)) (
        iteB (kind_0 == (4 : Int)) (
          (k ((0 : Int), (65535 : Int)) w)) (
          iteB (kind_0 == (5 : Int)) (
            (k ((-(2147483648 : Int)), (2147483647 : Int)) w)) (
            (k ((0 : Int), (0 : Int)) w))))))
def d_code_span : Dec := fun args w c => unL [(.i .i64)] args fun x => code_span x w fun r w => c (packV (valL [(.i .i64), (.i .i64)] r)) w
theorem s_code_span : Sound Go.Proofs.Try.prog n_code_span d_code_span :=
  sound_of (mask := 10941) (h := []) (ds := []) mixed Go.Proofs.Try.func76 trivial
    [(.i .i64)] [(.i .i64), (.i .i64)] (by kernel_rfl) (fun x w k => code_span x w k) (fun x w k => by kernel_rfl)

/-- peloton/code.Check -/
def code_Check_b (code_operands : Int → World → ((Array Value) → World → Prop) → Prop) (code_span : Int → World → ((Int × Int) → World → Prop) → Prop) (i_0 : Array Value) (w : World) (k : (Int) → World → Prop) : Prop :=
  newC w i_0 43 fun a1 w2 =>
  joinP (S := Bool) (fun J3 =>
    ldI .i64 w2 (Addr.add a1 0) fun i4 =>
    iteB (decide (i4 < (0 : Int))) (
      (J3 true w2)) (
      ldI .i64 w2 (Addr.add a1 0) fun i5 =>
      (J3 (decide (i5 ≥ (17 : Int))) w2))) fun b6 w7 =>
  iteB b6 (
    (k (13 : Int) w7)) (
    ldI .i64 w7 (Addr.add a1 0) fun i8 =>
    code_operands i8 w7 fun cs9 w10 =>
    newC w10 #[(.int .i64 (0 : Int)), (.int .i64 (0 : Int)), (.int .i64 (0 : Int)), (.int .i64 (0 : Int))] 128 fun a11 w12 =>
    stA 4 w12 a11 cs9 fun w13 =>
    ldI .i64 w13 (Addr.add a1 1) fun i14 =>
    ldI .i64 w13 (Addr.add a1 2) fun i15 =>
    ldI .i64 w13 (Addr.add a1 3) fun i16 =>
    ldI .i64 w13 (Addr.add a1 4) fun i17 =>
    loopP (S := (Int × Int)) (fun C18 x19 w20 =>
      iteB (decide (x19.2 < (4 : Int))) (
        ixA #[(.int .i64 i14), (.int .i64 i15), (.int .i64 i16), (.int .i64 i17)] 4 x19.2 fun v21 =>
        toI .i64 v21 fun i22 =>
        ixP a11 4 x19.2 1 fun a23 =>
        ldI .i64 w20 a23 fun i24 =>
        code_span i24 w20 fun x25 w26 =>
        iteB ((decide (i22 < (x25.1, x25.2).1)) || (decide (i22 > (x25.1, x25.2).2))) (
          (k (10 : Int) w26)) (
          (C18 (x19.1, (IntKind.wrap .i64 (x19.2 + (1 : Int)))) w26))) (
        (k x19.1 w20))) ((0 : Int), (0 : Int)) w13)
theorem e_code_Check (code_operands : Int → World → ((Array Value) → World → Prop) → Prop) (code_span : Int → World → ((Int × Int) → World → Prop) → Prop) (x : KT [.ag]) (w : World) (k : KT [(.i .i64)] → World → Prop) : evFn Go.Proofs.Try.prog (orcOf [(n_code_operands, (fun args w c => unL [(.i .i64)] args fun x => code_operands x w fun r w => c (packV (valL [.ag] r)) w)), (n_code_span, (fun args w c => unL [(.i .i64)] args fun x => code_span x w fun r w => c (packV (valL [(.i .i64), (.i .i64)] r)) w))]) 140739367469566 [(1, [(16, .b)]), (8, [(4, (.i .i64)), (29, (.i .i64))])] Go.Proofs.Try.f52 [(.i .i64)] (valL [.ag] x) w k = code_Check_b code_operands code_span x w k := by kernel_rfl
def code_Check (i_0 : Array Value) (w : World) (k : (Int) → World → Prop) : Prop := code_Check_b code_operands code_span i_0 w k
def d_code_Check : Dec := fun args w c => unL [.ag] args fun x => code_Check x w fun r w => c (packV (valL [(.i .i64)] r)) w
theorem s_code_Check : Sound Go.Proofs.Try.prog n_code_Check d_code_Check :=
  sound_of (mask := 140739367469566) (h := [(1, [(16, .b)]), (8, [(4, (.i .i64)), (29, (.i .i64))])]) (ds := [(n_code_operands, d_code_operands), (n_code_span, d_code_span)]) mixed Go.Proofs.Try.func52 ⟨s_code_operands, s_code_span, trivial⟩
    [.ag] [(.i .i64)] (by kernel_rfl) (fun x w k => code_Check x w k) (fun x w k => e_code_Check code_operands code_span x w k)

/-- peloton/check.shape -/
def check_shape_b (code_Check : Array Value → World → ((Int) → World → Prop) → Prop) (f_0 : Array Value) (w : World) (k : (Int × Int) → World → Prop) : Prop :=
  newC w f_0 40 fun a1 w2 =>
  joinP (S := Bool) (fun J3 =>
    ldI .i64 w2 (Addr.add a1 0) fun i4 =>
    iteB (decide (i4 < (0 : Int))) (
      (J3 true w2)) (
      ldI .i64 w2 (Addr.add a1 0) fun i5 =>
      (J3 (decide (i5 > (255 : Int))) w2))) fun b6 w7 =>
  iteB b6 (
    (k ((-(1 : Int)), (10 : Int)) w7)) (
    joinP (S := Bool) (fun J8 =>
      ldS w7 (Addr.add a1 1) fun s9 =>
      iteB (decide (((s9.n : Nat) : Int) < (1 : Int))) (
        (J8 true w7)) (
        ldS w7 (Addr.add a1 1) fun s10 =>
        (J8 (decide (((s10.n : Nat) : Int) > (128 : Int))) w7))) fun b11 w12 =>
    iteB b11 (
      (k ((-(1 : Int)), (12 : Int)) w12)) (
      ldS w12 (Addr.add a1 1) fun s13 =>
      loopP (S := Int) (fun C14 i15 w16 =>
        iteB (decide (i15 < ((s13.n : Nat) : Int))) (
          ixS s13 i15 5 fun a17 =>
          ldA 5 w16 a17 fun cs18 =>
          newC w16 #[(.int .i64 (0 : Int)), (.int .i64 (0 : Int)), (.int .i64 (0 : Int)), (.int .i64 (0 : Int)), (.int .i64 (0 : Int))] 43 fun a19 w20 =>
          stA 5 w20 a19 cs18 fun w21 =>
          ldA 5 w21 a19 fun cs22 =>
          code_Check cs22 w21 fun i23 w24 =>
          iteB (i23 != (0 : Int)) (
            (k (i15, i23) w24)) (
            (C14 (IntKind.wrap .i64 (i15 + (1 : Int))) w24))) (
          (k ((0 : Int), (0 : Int)) w16))) (0 : Int) w12))
theorem e_check_shape (code_Check : Array Value → World → ((Int) → World → Prop) → Prop) (x : KT [.ag]) (w : World) (k : KT [(.i .i64), (.i .i64)] → World → Prop) : evFn Go.Proofs.Try.prog (orcOf [(n_code_Check, (fun args w c => unL [.ag] args fun x => code_Check x w fun r w => c (packV (valL [(.i .i64)] r)) w))]) 69742903422 [(1, [(14, .b)]), (4, [(24, .b)]), (9, [(28, (.i .i64))])] Go.Proofs.Try.f50 [(.i .i64), (.i .i64)] (valL [.ag] x) w k = check_shape_b code_Check x w k := by kernel_rfl
def check_shape (f_0 : Array Value) (w : World) (k : (Int × Int) → World → Prop) : Prop := check_shape_b code_Check f_0 w k
def d_check_shape : Dec := fun args w c => unL [.ag] args fun x => check_shape x w fun r w => c (packV (valL [(.i .i64), (.i .i64)] r)) w
theorem s_check_shape : Sound Go.Proofs.Try.prog n_check_shape d_check_shape :=
  sound_of (mask := 69742903422) (h := [(1, [(14, .b)]), (4, [(24, .b)]), (9, [(28, (.i .i64))])]) (ds := [(n_code_Check, d_code_Check)]) mixed Go.Proofs.Try.func50 ⟨s_code_Check, trivial⟩
    [.ag] [(.i .i64), (.i .i64)] (by kernel_rfl) (fun x w k => check_shape x w k) (fun x w k => e_check_shape code_Check x w k)

/-- peloton/check.Depths -/
def check_Depths (code_0 : Sl) (w : World) (k : (Sl) → World → Prop) : Prop :=
  mkSl Go.Proofs.Try.prog 88 (.int .i64 ((code_0.n : Nat) : Int)) (.int .i64 ((code_0.n : Nat) : Int)) w fun s1 w2 =>
  loopP (S := (Int × Int)) (fun C3 x4 w5 =>
    iteB (decide (x4.2 < ((code_0.n : Nat) : Int))) (
      ixS code_0 x4.2 5 fun a6 =>
      ldA 5 w5 a6 fun cs7 =>
      newC w5 #[(.int .i64 (0 : Int)), (.int .i64 (0 : Int)), (.int .i64 (0 : Int)), (.int .i64 (0 : Int)), (.int .i64 (0 : Int))] 43 fun a8 w9 =>
      stA 5 w9 a8 cs7 fun w10 =>
      ixS s1 x4.2 1 fun a11 =>
      stC w10 a11 (.int .i64 x4.1) fun w12 =>
      ldI .i64 w12 (Addr.add a8 0) fun i13 =>
      iteB (i13 == (11 : Int)) (
        (C3 ((IntKind.wrap .i64 (x4.1 + (1 : Int))), (IntKind.wrap .i64 (x4.2 + (1 : Int)))) w12)) (
        iteB (i13 == (12 : Int)) (
          (C3 ((IntKind.wrap .i64 (x4.1 - (1 : Int))), (IntKind.wrap .i64 (x4.2 + (1 : Int)))) w12)) (
          (C3 (x4.1, (IntKind.wrap .i64 (x4.2 + (1 : Int)))) w12)))) (
      (k s1 w5))) ((0 : Int), (0 : Int)) w2
def d_check_Depths : Dec := fun args w c => unL [.s] args fun x => check_Depths x w fun r w => c (packV (valL [.s] r)) w
theorem s_check_Depths : Sound Go.Proofs.Try.prog n_check_Depths d_check_Depths :=
  sound_of (mask := 146816125) (h := [(5, [(4, (.i .i64)), (12, (.i .i64))])]) (ds := []) mixed Go.Proofs.Try.func69 trivial
    [.s] [.s] (by kernel_rfl) (fun x w k => check_Depths x w k) (fun x w k => by kernel_rfl)

/-- (*peloton/check.flow).meet -/
def check_flow_meet (w_0 : Option Addr) (i_1 : Int) (have_2 : Int) (w : World) (k : Unit → World → Prop) : Prop :=
  nn w_0 fun a1 =>
  ldS w (Addr.add a1 1) fun s2 =>
  ixS s2 i_1 1 fun a3 =>
  ldI .i64 w a3 fun i4 =>
  joinP (S := Bool) (fun J5 =>
    nn w_0 fun a6 =>
    ldS w (Addr.add a6 2) fun s7 =>
    ixS s7 i_1 1 fun a8 =>
    ldB w a8 fun b9 =>
    iteB b9 (
      nn w_0 fun a10 =>
      ldS w (Addr.add a10 1) fun s11 =>
      ixS s11 i_1 1 fun a12 =>
      ldI .i64 w a12 fun i13 =>
      (J5 ((andI .i64 i4 have_2) == i13) w)) (
      (J5 false w))) fun b14 w15 =>
  iteB b14 (
    (k () w15)) (
    drew w15 fun w16 =>
    nn w_0 fun a17 =>
    ldS w16 (Addr.add a17 2) fun s18 =>
    nn w_0 fun a19 =>
    ldS w16 (Addr.add a19 1) fun s20 =>
    ixS s18 i_1 1 fun a21 =>
    stC w16 a21 (.bool true) fun w22 =>
    ixS s20 i_1 1 fun a23 =>
    stC w22 a23 (.int .i64 (andI .i64 i4 have_2)) fun w24 =>
    nn w_0 fun a25 =>
    ldS w24 (Addr.add a25 3) fun s26 =>
    newC w24 #[(.int .i64 i_1)] 3 fun a27 w28 =>
    bApp Go.Proofs.Try.prog #[88, 88] 88 [(.slice s26.a s26.n s26.c), (.slice (some a27) 1 1)] w28 fun s29 w30 =>
    nn w_0 fun a31 =>
    stC w30 (Addr.add a31 3) (.slice s29.a s29.n s29.c) fun w32 =>
    (k () w32))
def d_check_flow_meet : Dec := fun args w c => unL [.p, (.i .i64), (.i .i64)] args fun x => check_flow_meet x.1 x.2.1 x.2.2 w fun r w => c (packV (valL [] r)) w
theorem s_check_flow_meet : Sound Go.Proofs.Try.prog n_check_flow_meet d_check_flow_meet :=
  sound_of (mask := 8589934659) (h := [(1, [(33, .b)])]) (ds := []) mixed Go.Proofs.Try.func88 trivial
    [.p, (.i .i64), (.i .i64)] [] (by kernel_rfl) (fun x w k => check_flow_meet x.1 x.2.1 x.2.2 w k) (fun x w k => by kernel_rfl)

/-- peloton/check.behind -/
def check_behind (l_0 : Sl) (i_1 : Int) (w : World) (k : (Value) → World → Prop) : Prop :=
  newC w #[(.slice l_0.a l_0.n l_0.c)] 38 fun a1 w2 =>
  newC w2 #[(.int .i64 i_1)] 3 fun a3 w4 =>
  (k (.func (.func n_check_behind_1) #[] #[(.pointer (some a1)), (.pointer (some a3))]) w4)
def d_check_behind : Dec := fun args w c => unL [.s, (.i .i64)] args fun x => check_behind x.1 x.2 w fun r w => c (packV (valL [.raw] r)) w
theorem s_check_behind : Sound Go.Proofs.Try.prog n_check_behind d_check_behind :=
  sound_of (mask := 28) (h := []) (ds := []) mixed Go.Proofs.Try.func89 trivial
    [.s, (.i .i64)] [.raw] (by kernel_rfl) (fun x w k => check_behind x.1 x.2 w k) (fun x w k => by kernel_rfl)

/-- peloton/check.goes -/
def check_goes (op_0 : Int) (w : World) (k : (Bool) → World → Prop) : Prop :=
  (k ((op_0 == (6 : Int)) || (op_0 == (7 : Int))) w)
def d_check_goes : Dec := fun args w c => unL [(.i .i64)] args fun x => check_goes x w fun r w => c (packV (valL [.b] r)) w
theorem s_check_goes : Sound Go.Proofs.Try.prog n_check_goes d_check_goes :=
  sound_of (mask := 5) (h := []) (ds := []) mixed Go.Proofs.Try.func90 trivial
    [(.i .i64)] [.b] (by kernel_rfl) (fun x w k => check_goes x w k) (fun x w k => by kernel_rfl)

/-- peloton/check.ends -/
def check_ends (op_0 : Int) (w : World) (k : (Bool) → World → Prop) : Prop :=
  (k ((op_0 == (16 : Int)) || (op_0 == (15 : Int))) w)
def d_check_ends : Dec := fun args w c => unL [(.i .i64)] args fun x => check_ends x w fun r w => c (packV (valL [.b] r)) w
theorem s_check_ends : Sound Go.Proofs.Try.prog n_check_ends d_check_ends :=
  sound_of (mask := 5) (h := []) (ds := []) mixed Go.Proofs.Try.func91 trivial
    [(.i .i64)] [.b] (by kernel_rfl) (fun x w k => check_ends x w k) (fun x w k => by kernel_rfl)

/-- peloton/check.behind$1 -/
def check_behind_1_b (Y : Nat → Dec) (check_goes : Int → World → ((Bool) → World → Prop) → Prop) (check_ends : Int → World → ((Bool) → World → Prop) → Prop) (yield_0 : Value) (_1 : Addr) (_2 : Addr) (w : World) (k : Unit → World → Prop) : Prop :=
  ldS w _1 fun s1 =>
  ldI .i64 w _2 fun i2 =>
  ixS s1 i2 5 fun a3 =>
  ldA 5 w a3 fun cs4 =>
  newC w #[(.int .i64 (0 : Int)), (.int .i64 (0 : Int)), (.int .i64 (0 : Int)), (.int .i64 (0 : Int)), (.int .i64 (0 : Int))] 43 fun a5 w6 =>
  stA 5 w6 a5 cs4 fun w7 =>
  joinP (S := Bool) (fun J8 =>
    ldI .i64 w7 (Addr.add a5 0) fun i9 =>
    check_goes i9 w7 fun b10 w11 =>
    iteB b10 (
      ldI .i64 w11 (Addr.add a5 4) fun i12 =>
      iteB (decide (i12 ≥ (0 : Int))) (
        ldI .i64 w11 (Addr.add a5 4) fun i13 =>
        ldS w11 _1 fun s14 =>
        iteB (decide (i13 < ((s14.n : Nat) : Int))) (
          ldI .i64 w11 (Addr.add a5 4) fun i15 =>
          callF (orcY [(n_check_goes, (fun args w c => unL [(.i .i64)] args fun x => check_goes x w fun r w => c (packV (valL [.b] r)) w)), (n_check_ends, (fun args w c => unL [(.i .i64)] args fun x => check_ends x w fun r w => c (packV (valL [.b] r)) w))] Y) yield_0 #[(.int .i64 i15)] w11 fun v16 w17 =>
          toB v16 fun b18 =>
          (J8 (!b18) w17)) (
          (J8 false w11))) (
        (J8 false w11))) (
      (J8 false w11))) fun b19 w20 =>
  iteB b19 (
    (k () w20)) (
    joinP (S := Bool) (fun J21 =>
      ldI .i64 w20 (Addr.add a5 0) fun i22 =>
      iteB (i22 != (6 : Int)) (
        ldI .i64 w20 (Addr.add a5 0) fun i23 =>
        check_ends i23 w20 fun b24 w25 =>
        iteB (!b24) (
          ldI .i64 w25 _2 fun i26 =>
          ldS w25 _1 fun s27 =>
          (J21 (decide ((IntKind.wrap .i64 (i26 + (1 : Int))) < ((s27.n : Nat) : Int))) w25)) (
          (J21 false w25))) (
        (J21 false w20))) fun b28 w29 =>
    iteB b28 (
      ldI .i64 w29 _2 fun i30 =>
      callF (orcY [(n_check_goes, (fun args w c => unL [(.i .i64)] args fun x => check_goes x w fun r w => c (packV (valL [.b] r)) w)), (n_check_ends, (fun args w c => unL [(.i .i64)] args fun x => check_ends x w fun r w => c (packV (valL [.b] r)) w))] Y) yield_0 #[(.int .i64 (IntKind.wrap .i64 (i30 + (1 : Int))))] w29 fun v31 w32 =>
      toB v31 fun b33 =>
      (k () w32)) (
      (k () w29)))
theorem e_check_behind_1 (Y : Nat → Dec) (check_goes : Int → World → ((Bool) → World → Prop) → Prop) (check_ends : Int → World → ((Bool) → World → Prop) → Prop) (x : KT [.raw, .a, .a]) (w : World) (k : KT [] → World → Prop) : evFn Go.Proofs.Try.prog (orcY [(n_check_goes, (fun args w c => unL [(.i .i64)] args fun x => check_goes x w fun r w => c (packV (valL [.b] r)) w)), (n_check_ends, (fun args w c => unL [(.i .i64)] args fun x => check_ends x w fun r w => c (packV (valL [.b] r)) w))] Y) 70369817919511 [(1, [(30, .b)]), (3, [(46, .b)])] Go.Proofs.Try.f93 [] (valL [.raw, .a, .a] x) w k = check_behind_1_b Y check_goes check_ends x.1 x.2.1 x.2.2 w k := by kernel_rfl
def check_behind_1 (Y : Nat → Dec) (yield_0 : Value) (_1 : Addr) (_2 : Addr) (w : World) (k : Unit → World → Prop) : Prop := check_behind_1_b Y check_goes check_ends yield_0 _1 _2 w k
def i_check_behind_1 (Y : Nat → Dec) : Dec := fun args w c => unL [.raw, .a, .a] args fun x => check_behind_1 Y x.1 x.2.1 x.2.2 w fun r w => c (packV (valL [] r)) w
theorem s_check_behind_1 : SoundI Go.Proofs.Try.prog n_check_behind_1 i_check_behind_1 := fun Y hY =>
  sound_orc (mask := 70369817919511) (h := [(1, [(30, .b)]), (3, [(46, .b)])]) mixed Go.Proofs.Try.func93 (orcY_ok (l := [(n_check_goes, d_check_goes), (n_check_ends, d_check_ends)]) ⟨s_check_goes, s_check_ends, trivial⟩ hY)
    [.raw, .a, .a] [] (by kernel_rfl) (fun x w k => check_behind_1 Y x.1 x.2.1 x.2.2 w k) (fun x w k => e_check_behind_1 Y check_goes check_ends x w k)

/-- peloton/check.Held -/
def check_Held_b (I : OrcI) (check_flow_meet : Option Addr → Int → Int → World → (Unit → World → Prop) → Prop) (check_behind : Sl → Int → World → ((Value) → World → Prop) → Prop) (f_0 : Array Value) (w : World) (k : (Sl) → World → Prop) : Prop :=
  newC w f_0 40 fun a1 w2 =>
  ldS w2 (Addr.add a1 1) fun s3 =>
  joinP (S := Addr) (fun J4 =>
    drew w2 fun w5 =>
    ldS w5 (Addr.add a1 1) fun s6 =>
    both (
      mkSl Go.Proofs.Try.prog 88 (.int .i64 ((s3.n : Nat) : Int)) (.int .i64 ((s3.n : Nat) : Int)) w5 fun s7 w8 =>
      samec 1 (Addr.add a1 1) w5 w8 (
      both (
        mkSl Go.Proofs.Try.prog 133 (.int .i64 ((s3.n : Nat) : Int)) (.int .i64 ((s3.n : Nat) : Int)) w8 fun s9 w10 =>
        samec 1 (Addr.add a1 1) w5 w10 (
        both (
          both (
            newC w10 #[(.slice s6.a s6.n s6.c), (.slice s7.a s7.n s7.c), (.slice s9.a s9.n s9.c), (.slice none 0 0)] 139 fun a11 w12 =>
            newC w12 #[(.pointer none)] 137 fun a13 w14 =>
            samec 1 (Addr.add a1 1) w5 w14 (
            stC w14 a13 (.pointer (some a11)) fun w15 =>
            (J4 a13 w15))) (
            newC w10 #[(.pointer none)] 137 fun a16 w17 =>
            samec 1 (Addr.add a1 1) w5 w17 (
            newC w17 #[(.slice s6.a s6.n s6.c), (.slice s7.a s7.n s7.c), (.slice s9.a s9.n s9.c), (.slice none 0 0)] 139 fun a18 w19 =>
            stC w19 a16 (.pointer (some a18)) fun w20 =>
            (J4 a16 w20)))) (
          newC w10 #[(.pointer none)] 137 fun a21 w22 =>
          samec 1 (Addr.add a1 1) w5 w22 (
          newC w22 #[(.slice s6.a s6.n s6.c), (.slice s7.a s7.n s7.c), (.slice s9.a s9.n s9.c), (.slice none 0 0)] 139 fun a23 w24 =>
          stC w24 a21 (.pointer (some a23)) fun w25 =>
          (J4 a21 w25))))) (
        newC w8 #[(.pointer none)] 137 fun a26 w27 =>
        samec 1 (Addr.add a1 1) w5 w27 (
        mkSl Go.Proofs.Try.prog 133 (.int .i64 ((s3.n : Nat) : Int)) (.int .i64 ((s3.n : Nat) : Int)) w27 fun s28 w29 =>
        samec 1 (Addr.add a1 1) w5 w29 (
        newC w29 #[(.slice s6.a s6.n s6.c), (.slice s7.a s7.n s7.c), (.slice s28.a s28.n s28.c), (.slice none 0 0)] 139 fun a30 w31 =>
        stC w31 a26 (.pointer (some a30)) fun w32 =>
        (J4 a26 w32)))))) (
      both (
        mkSl Go.Proofs.Try.prog 133 (.int .i64 ((s3.n : Nat) : Int)) (.int .i64 ((s3.n : Nat) : Int)) w5 fun s33 w34 =>
        samec 1 (Addr.add a1 1) w5 w34 (
        both (
          mkSl Go.Proofs.Try.prog 88 (.int .i64 ((s3.n : Nat) : Int)) (.int .i64 ((s3.n : Nat) : Int)) w34 fun s35 w36 =>
          samec 1 (Addr.add a1 1) w5 w36 (
          both (
            both (
              newC w36 #[(.slice s6.a s6.n s6.c), (.slice s35.a s35.n s35.c), (.slice s33.a s33.n s33.c), (.slice none 0 0)] 139 fun a37 w38 =>
              newC w38 #[(.pointer none)] 137 fun a39 w40 =>
              samec 1 (Addr.add a1 1) w5 w40 (
              stC w40 a39 (.pointer (some a37)) fun w41 =>
              (J4 a39 w41))) (
              newC w36 #[(.pointer none)] 137 fun a42 w43 =>
              samec 1 (Addr.add a1 1) w5 w43 (
              newC w43 #[(.slice s6.a s6.n s6.c), (.slice s35.a s35.n s35.c), (.slice s33.a s33.n s33.c), (.slice none 0 0)] 139 fun a44 w45 =>
              stC w45 a42 (.pointer (some a44)) fun w46 =>
              (J4 a42 w46)))) (
            newC w36 #[(.pointer none)] 137 fun a47 w48 =>
            samec 1 (Addr.add a1 1) w5 w48 (
            newC w48 #[(.slice s6.a s6.n s6.c), (.slice s35.a s35.n s35.c), (.slice s33.a s33.n s33.c), (.slice none 0 0)] 139 fun a49 w50 =>
            stC w50 a47 (.pointer (some a49)) fun w51 =>
            (J4 a47 w51))))) (
          newC w34 #[(.pointer none)] 137 fun a52 w53 =>
          samec 1 (Addr.add a1 1) w5 w53 (
          mkSl Go.Proofs.Try.prog 88 (.int .i64 ((s3.n : Nat) : Int)) (.int .i64 ((s3.n : Nat) : Int)) w53 fun s54 w55 =>
          samec 1 (Addr.add a1 1) w5 w55 (
          newC w55 #[(.slice s6.a s6.n s6.c), (.slice s54.a s54.n s54.c), (.slice s33.a s33.n s33.c), (.slice none 0 0)] 139 fun a56 w57 =>
          stC w57 a52 (.pointer (some a56)) fun w58 =>
          (J4 a52 w58)))))) (
        newC w5 #[(.pointer none)] 137 fun a59 w60 =>
        samec 1 (Addr.add a1 1) w5 w60 (
        both (
          mkSl Go.Proofs.Try.prog 88 (.int .i64 ((s3.n : Nat) : Int)) (.int .i64 ((s3.n : Nat) : Int)) w60 fun s61 w62 =>
          samec 1 (Addr.add a1 1) w5 w62 (
          mkSl Go.Proofs.Try.prog 133 (.int .i64 ((s3.n : Nat) : Int)) (.int .i64 ((s3.n : Nat) : Int)) w62 fun s63 w64 =>
          samec 1 (Addr.add a1 1) w5 w64 (
          newC w64 #[(.slice s6.a s6.n s6.c), (.slice s61.a s61.n s61.c), (.slice s63.a s63.n s63.c), (.slice none 0 0)] 139 fun a65 w66 =>
          stC w66 a59 (.pointer (some a65)) fun w67 =>
          (J4 a59 w67)))) (
          mkSl Go.Proofs.Try.prog 133 (.int .i64 ((s3.n : Nat) : Int)) (.int .i64 ((s3.n : Nat) : Int)) w60 fun s68 w69 =>
          samec 1 (Addr.add a1 1) w5 w69 (
          mkSl Go.Proofs.Try.prog 88 (.int .i64 ((s3.n : Nat) : Int)) (.int .i64 ((s3.n : Nat) : Int)) w69 fun s70 w71 =>
          samec 1 (Addr.add a1 1) w5 w71 (
          newC w71 #[(.slice s6.a s6.n s6.c), (.slice s70.a s70.n s70.c), (.slice s68.a s68.n s68.c), (.slice none 0 0)] 139 fun a72 w73 =>
          stC w73 a59 (.pointer (some a72)) fun w74 =>
          (J4 a59 w74)))))))) fun a75 w76 =>
  ldP w76 a75 fun p77 =>
  nn p77 fun a78 =>
  ldS w76 (Addr.add a78 1) fun s79 =>
  joinP (S := Unit) (fun J80 =>
    loopP (S := Int) (fun C81 i82 w83 =>
      iteB (decide (i82 < ((s79.n : Nat) : Int))) (
        ldP w83 a75 fun p84 =>
        nn p84 fun a85 =>
        ldS w83 (Addr.add a85 1) fun s86 =>
        ixS s86 i82 1 fun a87 =>
        stC w83 a87 (.int .i64 (255 : Int)) fun w88 =>
        (C81 (IntKind.wrap .i64 (i82 + (1 : Int))) w88)) (
        (J80 () w83))) (0 : Int) w76) fun u89 w90 =>
  iteB (((s3.n : Nat) : Int) == (0 : Int)) (
    ldP w90 a75 fun p91 =>
    nn p91 fun a92 =>
    ldS w90 (Addr.add a92 1) fun s93 =>
    (k s93 w90)) (
    ldP w90 a75 fun p94 =>
    ldI .i64 w90 (Addr.add a1 0) fun i95 =>
    check_flow_meet p94 (0 : Int) (andI .i64 i95 (255 : Int)) w90 fun _u w96 =>
    loopP (S := (Unit × List Nat)) (fun C97 x98 w99 =>
      ldP w99 a75 fun p100 =>
      nn p100 fun a101 =>
      ldS w99 (Addr.add a101 3) fun s102 =>
      iteB (((s102.n : Nat) : Int) == (0 : Int)) (
        ldP w99 a75 fun p103 =>
        nn p103 fun a104 =>
        ldS w99 (Addr.add a104 1) fun s105 =>
        takeP x98.2 w99 fun w106 =>
        (k s105 w106)) (
        ldP w99 a75 fun p107 =>
        nn p107 fun a108 =>
        ldS w99 (Addr.add a108 3) fun s109 =>
        ixS s109 (0 : Int) 1 fun a110 =>
        ldI .i64 w99 a110 fun i111 =>
        drew w99 fun w112 =>
        ldP w112 a75 fun p113 =>
        ldP w112 a75 fun p114 =>
        nn p114 fun a115 =>
        ldS w112 (Addr.add a115 3) fun s116 =>
        slL s116 1 (1 : Int) fun s117 =>
        nn p113 fun a118 =>
        stC w112 (Addr.add a118 3) (.slice s117.a s117.n s117.c) fun w119 =>
        ldP w119 a75 fun p120 =>
        nn p120 fun a121 =>
        ldS w119 (Addr.add a121 1) fun s122 =>
        ixS s122 i111 1 fun a123 =>
        ldI .i64 w119 a123 fun i124 =>
        newC w119 #[(.int .i64 (0 : Int))] 3 fun a125 w126 =>
        stC w126 a125 (.int .i64 i124) fun w127 =>
        ldS w127 (Addr.add a1 1) fun s128 =>
        ixS s128 i111 5 fun a129 =>
        ldA 5 w127 a129 fun cs130 =>
        newC w127 #[(.int .i64 (0 : Int)), (.int .i64 (0 : Int)), (.int .i64 (0 : Int)), (.int .i64 (0 : Int)), (.int .i64 (0 : Int))] 43 fun a131 w132 =>
        stA 5 w132 a131 cs130 fun w133 =>
        joinP (S := Bool) (fun J134 =>
          ldI .i64 w133 (Addr.add a131 0) fun i135 =>
          iteB (i135 == (8 : Int)) (
            ldI .i64 w133 (Addr.add a131 1) fun i136 =>
            iteB (decide (i136 ≥ (0 : Int))) (
              ldI .i64 w133 (Addr.add a131 1) fun i137 =>
              (J134 (decide (i137 < (8 : Int))) w133)) (
              (J134 false w133))) (
            (J134 false w133))) fun b138 w139 =>
        joinP (S := Unit) (fun J140 =>
          iteB b138 (
            drew w139 fun w141 =>
            ldI .i64 w141 a125 fun i142 =>
            ldI .i64 w141 (Addr.add a131 1) fun i143 =>
            shlI .i64 (1 : Int) i143 fun i144 =>
            stC w141 a125 (.int .i64 (orI .i64 i142 i144)) fun w145 =>
            (J140 () w145)) (
            (J140 () w139))) fun u146 w147 =>
        ldS w147 (Addr.add a1 1) fun s148 =>
        check_behind s148 i111 w147 fun v149 w150 =>
        rangeF I [(.i .i64)] v149 w150 (fun (x151 : Int) w152 C153 =>
          ldP w152 a75 fun p156 =>
          ldI .i64 w152 a125 fun i157 =>
          check_flow_meet p156 x151 i157 w152 fun _u w158 =>
          (C153 w158)) fun D154 w155 =>
        (C97 ((), (D154 :: x98.2)) w155))) ((), []) w96)
theorem e_check_Held (I : OrcI) (check_flow_meet : Option Addr → Int → Int → World → (Unit → World → Prop) → Prop) (check_behind : Sl → Int → World → ((Value) → World → Prop) → Prop) (x : KT [.ag]) (w : World) (k : KT [.s] → World → Prop) : evFn2 Go.Proofs.Try.prog (orcOf [(n_check_flow_meet, (fun args w c => unL [.p, (.i .i64), (.i .i64)] args fun x => check_flow_meet x.1 x.2.1 x.2.2 w fun r w => c (packV (valL [] r)) w)), (n_check_behind, (fun args w c => unL [.s, (.i .i64)] args fun x => check_behind x.1 x.2 w fun r w => c (packV (valL [.raw] r)) w))]) I 60886842892212147944375827038718 [(1, []), (3, [(4, .a)]), (5, []), (6, [(26, (.i .i64))]), (24, [(95, .b)]), (25, []), (29, [(105, (.i .i64))])] Go.Proofs.Try.f70 [.s] (valL [.ag] x) w k = check_Held_b I check_flow_meet check_behind x w k := by kernel_rfl
def check_Held (f_0 : Array Value) (w : World) (k : (Sl) → World → Prop) : Prop := check_Held_b (orcI [(n_check_behind_1, i_check_behind_1)]) check_flow_meet check_behind f_0 w k
def d_check_Held : Dec := fun args w c => unL [.ag] args fun x => check_Held x w fun r w => c (packV (valL [.s] r)) w
theorem s_check_Held : Sound Go.Proofs.Try.prog n_check_Held d_check_Held :=
  sound_of2 (mask := 60886842892212147944375827038718) (h := [(1, []), (3, [(4, .a)]), (5, []), (6, [(26, (.i .i64))]), (24, [(95, .b)]), (25, []), (29, [(105, (.i .i64))])]) mixed Go.Proofs.Try.func70 (orc_ok (l := [(n_check_flow_meet, d_check_flow_meet), (n_check_behind, d_check_behind)]) ⟨s_check_flow_meet, s_check_behind, trivial⟩) (orcI_ok (l := [(n_check_behind_1, i_check_behind_1)]) ⟨s_check_behind_1, trivial⟩)
    [.ag] [.s] (by kernel_rfl) (fun x w k => check_Held x w k) (fun x w k => e_check_Held (orcI [(n_check_behind_1, i_check_behind_1)]) check_flow_meet check_behind x w k)

/-- (*peloton/check.judge).places -/
def check_judge_places_b (check_goes : Int → World → ((Bool) → World → Prop) → Prop) (j_0 : Option Addr) (i_1 : Int) (w : World) (k : (Int) → World → Prop) : Prop :=
  nn j_0 fun a1 =>
  ldS w (Addr.add a1 1) fun s2 =>
  ixS s2 i_1 5 fun a3 =>
  ldA 5 w a3 fun cs4 =>
  newC w #[(.int .i64 (0 : Int)), (.int .i64 (0 : Int)), (.int .i64 (0 : Int)), (.int .i64 (0 : Int)), (.int .i64 (0 : Int))] 43 fun a5 w6 =>
  stA 5 w6 a5 cs4 fun w7 =>
  joinP (S := Bool) (fun J8 =>
    drew w7 fun w9 =>
    ldI .i64 w9 (Addr.add a5 0) fun i10 =>
    check_goes i10 w9 fun b11 w12 =>
    iteB b11 (
      ldI .i64 w12 (Addr.add a5 4) fun i13 =>
      nn j_0 fun a14 =>
      ldS w12 (Addr.add a14 1) fun s15 =>
      iteB (decide (i13 ≥ ((s15.n : Nat) : Int))) (
        (J8 true w12)) (
        ldI .i64 w12 (Addr.add a5 0) fun i16 =>
        iteB (i16 == (8 : Int)) (
          ldI .i64 w12 (Addr.add a5 4) fun i17 =>
          nn j_0 fun a18 =>
          ldS w12 (Addr.add (Addr.add a18 0) 0) fun s19 =>
          (J8 (decide (i17 ≥ ((s19.n : Nat) : Int))) w12)) (
          (J8 false w12)))) (
      ldI .i64 w12 (Addr.add a5 0) fun i20 =>
      iteB (i20 == (8 : Int)) (
        ldI .i64 w12 (Addr.add a5 4) fun i21 =>
        nn j_0 fun a22 =>
        ldS w12 (Addr.add (Addr.add a22 0) 0) fun s23 =>
        (J8 (decide (i21 ≥ ((s23.n : Nat) : Int))) w12)) (
        (J8 false w12)))) fun b24 w25 =>
  iteB b24 (
    (k (10 : Int) w25)) (
    (k (0 : Int) w25))
theorem e_check_judge_places (check_goes : Int → World → ((Bool) → World → Prop) → Prop) (x : KT [.p, (.i .i64)]) (w : World) (k : KT [(.i .i64)] → World → Prop) : evFn Go.Proofs.Try.prog (orcOf [(n_check_goes, (fun args w c => unL [(.i .i64)] args fun x => check_goes x w fun r w => c (packV (valL [.b] r)) w))]) 2199023255603 [(2, [(41, .b)])] Go.Proofs.Try.f71 [(.i .i64)] (valL [.p, (.i .i64)] x) w k = check_judge_places_b check_goes x.1 x.2 w k := by kernel_rfl
def check_judge_places (j_0 : Option Addr) (i_1 : Int) (w : World) (k : (Int) → World → Prop) : Prop := check_judge_places_b check_goes j_0 i_1 w k
def d_check_judge_places : Dec := fun args w c => unL [.p, (.i .i64)] args fun x => check_judge_places x.1 x.2 w fun r w => c (packV (valL [(.i .i64)] r)) w
theorem s_check_judge_places : Sound Go.Proofs.Try.prog n_check_judge_places d_check_judge_places :=
  sound_of (mask := 2199023255603) (h := [(2, [(41, .b)])]) (ds := [(n_check_goes, d_check_goes)]) mixed Go.Proofs.Try.func71 ⟨s_check_goes, trivial⟩
    [.p, (.i .i64)] [(.i .i64)] (by kernel_rfl) (fun x w k => check_judge_places x.1 x.2 w k) (fun x w k => e_check_judge_places check_goes x w k)

/-- (*peloton/check.judge).last -/
def check_judge_last_b (check_ends : Int → World → ((Bool) → World → Prop) → Prop) (j_0 : Option Addr) (i_1 : Int) (w : World) (k : (Int) → World → Prop) : Prop :=
  nn j_0 fun a1 =>
  ldS w (Addr.add a1 1) fun s2 =>
  ixS s2 i_1 5 fun a3 =>
  ldI .i64 w (Addr.add a3 0) fun i4 =>
  joinP (S := Bool) (fun J5 =>
    nn j_0 fun a6 =>
    ldS w (Addr.add a6 1) fun s7 =>
    iteB ((i_1 == (IntKind.wrap .i64 (((s7.n : Nat) : Int) - (1 : Int)))) && (i4 != (6 : Int))) (
      check_ends i4 w fun b8 w9 =>
      (J5 (!b8) w9)) (
      (J5 false w))) fun b10 w11 =>
  iteB b10 (
    (k (11 : Int) w11)) (
    (k (0 : Int) w11))
theorem e_check_judge_last (check_ends : Int → World → ((Bool) → World → Prop) → Prop) (x : KT [.p, (.i .i64)]) (w : World) (k : KT [(.i .i64)] → World → Prop) : evFn Go.Proofs.Try.prog (orcOf [(n_check_ends, (fun args w c => unL [(.i .i64)] args fun x => check_ends x w fun r w => c (packV (valL [.b] r)) w))]) 1073741875 [(2, [(30, .b)])] Go.Proofs.Try.f72 [(.i .i64)] (valL [.p, (.i .i64)] x) w k = check_judge_last_b check_ends x.1 x.2 w k := by kernel_rfl
def check_judge_last (j_0 : Option Addr) (i_1 : Int) (w : World) (k : (Int) → World → Prop) : Prop := check_judge_last_b check_ends j_0 i_1 w k
def d_check_judge_last : Dec := fun args w c => unL [.p, (.i .i64)] args fun x => check_judge_last x.1 x.2 w fun r w => c (packV (valL [(.i .i64)] r)) w
theorem s_check_judge_last : Sound Go.Proofs.Try.prog n_check_judge_last d_check_judge_last :=
  sound_of (mask := 1073741875) (h := [(2, [(30, .b)])]) (ds := [(n_check_ends, d_check_ends)]) mixed Go.Proofs.Try.func72 ⟨s_check_ends, trivial⟩
    [.p, (.i .i64)] [(.i .i64)] (by kernel_rfl) (fun x w k => check_judge_last x.1 x.2 w k) (fun x w k => e_check_judge_last check_ends x w k)

/-- (*peloton/check.judge).scopes -/
def check_judge_scopes (j_0 : Option Addr) (i_1 : Int) (w : World) (k : (Int) → World → Prop) : Prop :=
  drew w fun w1 =>
  nn j_0 fun a2 =>
  ldS w1 (Addr.add a2 1) fun s3 =>
  ixS s3 i_1 5 fun a4 =>
  ldA 5 w1 a4 fun cs5 =>
  nn j_0 fun a6 =>
  ldS w1 (Addr.add a6 2) fun s7 =>
  ixS s7 i_1 1 fun a8 =>
  ldI .i64 w1 a8 fun i9 =>
  newC w1 #[(.int .i64 (0 : Int)), (.int .i64 (0 : Int)), (.int .i64 (0 : Int)), (.int .i64 (0 : Int)), (.int .i64 (0 : Int))] 43 fun a10 w11 =>
  samec 1 a8 w1 w11 (
  samec 1 (Addr.add a6 2) w1 w11 (
  samec 5 a4 w1 w11 (
  samec 1 (Addr.add a2 1) w1 w11 (
  stA 5 w11 a10 cs5 fun w12 =>
  samec 1 a8 w1 w12 (
  samec 1 (Addr.add a6 2) w1 w12 (
  ldI .i64 w12 (Addr.add a10 0) fun i13 =>
  joinP (S := Bool) (fun J14 =>
    iteB (i13 == (12 : Int)) (
      (J14 (i13 == (12 : Int)) w12)) (
      (J14 (i13 == (13 : Int)) w12))) fun b15 w16 =>
  joinP (S := Bool) (fun J17 =>
    iteB b15 (
      (J17 (decide (i9 ≥ (1 : Int))) w16)) (
      iteB (i13 == (16 : Int)) (
        (J17 (i9 == (0 : Int)) w16)) (
        joinP (S := Bool) (fun J18 =>
          iteB (i13 == (6 : Int)) (
            (J18 (i13 == (6 : Int)) w16)) (
            (J18 (i13 == (7 : Int)) w16))) fun b19 w20 =>
        iteB b19 (
          drew w20 fun w21 =>
          nn j_0 fun a22 =>
          ldS w21 (Addr.add a22 2) fun s23 =>
          ldI .i64 w21 (Addr.add a10 4) fun i24 =>
          ixS s23 i24 1 fun a25 =>
          ldI .i64 w21 a25 fun i26 =>
          (J17 (i26 == i9) w21)) (
          (J17 true w20))))) fun b27 w28 =>
  iteB (!b27) (
    (k (15 : Int) w28)) (
    (k (0 : Int) w28))))))))
def d_check_judge_scopes : Dec := fun args w c => unL [.p, (.i .i64)] args fun x => check_judge_scopes x.1 x.2 w fun r w => c (packV (valL [(.i .i64)] r)) w
theorem s_check_judge_scopes : Sound Go.Proofs.Try.prog n_check_judge_scopes d_check_judge_scopes :=
  sound_of (mask := 140746640326899) (h := [(6, [(24, .b)]), (8, [(7, .b)]), (14, [(33, .b)])]) (ds := []) mixed Go.Proofs.Try.func73 trivial
    [.p, (.i .i64)] [(.i .i64)] (by kernel_rfl) (fun x w k => check_judge_scopes x.1 x.2 w k) (fun x w k => by kernel_rfl)

/-- (*peloton/check.judge).handles -/
def check_judge_handles (j_0 : Option Addr) (i_1 : Int) (w : World) (k : (Int) → World → Prop) : Prop :=
  nn j_0 fun a1 =>
  ldS w (Addr.add a1 1) fun s2 =>
  ixS s2 i_1 5 fun a3 =>
  ldA 5 w a3 fun cs4 =>
  newC w #[(.int .i64 (0 : Int)), (.int .i64 (0 : Int)), (.int .i64 (0 : Int)), (.int .i64 (0 : Int)), (.int .i64 (0 : Int))] 43 fun a5 w6 =>
  stA 5 w6 a5 cs4 fun w7 =>
  ldI .i64 w7 (Addr.add a5 0) fun i8 =>
  joinP (S := Int) (fun J9 =>
    iteB (i8 == (9 : Int)) (
      ldI .i64 w7 (Addr.add a5 2) fun i10 =>
      shlI .i64 (1 : Int) i10 fun i11 =>
      (J9 i11 w7)) (
      iteB (i8 == (10 : Int)) (
        ldI .i64 w7 (Addr.add a5 3) fun i12 =>
        shlI .i64 (1 : Int) i12 fun i13 =>
        (J9 i13 w7)) (
        iteB (i8 == (8 : Int)) (
          drew w7 fun w14 =>
          nn j_0 fun a15 =>
          ldS w14 (Addr.add (Addr.add a15 0) 0) fun s16 =>
          ldI .i64 w14 (Addr.add a5 4) fun i17 =>
          ixS s16 i17 2 fun a18 =>
          ldI .i64 w14 (Addr.add a18 0) fun i19 =>
          (J9 i19 w14)) (
          (J9 (0 : Int) w7))))) fun i20 w21 =>
  nn j_0 fun a22 =>
  ldS w21 (Addr.add a22 3) fun s23 =>
  ixS s23 i_1 1 fun a24 =>
  ldI .i64 w21 a24 fun i25 =>
  iteB ((andNotI .i64 i20 i25) != (0 : Int)) (
    (k (16 : Int) w21)) (
    (k (0 : Int) w21))
def d_check_judge_handles : Dec := fun args w c => unL [.p, (.i .i64)] args fun x => check_judge_handles x.1 x.2 w fun r w => c (packV (valL [(.i .i64)] r)) w
theorem s_check_judge_handles : Sound Go.Proofs.Try.prog n_check_judge_handles d_check_judge_handles :=
  sound_of (mask := 140737557659763) (h := [(6, [(6, (.i .i64))])]) (ds := []) mixed Go.Proofs.Try.func74 trivial
    [.p, (.i .i64)] [(.i .i64)] (by kernel_rfl) (fun x w k => check_judge_handles x.1 x.2 w k) (fun x w k => by kernel_rfl)

/-- peloton/check.function -/
def check_function_b (check_Depths : Sl → World → ((Sl) → World → Prop) → Prop) (check_Held : Array Value → World → ((Sl) → World → Prop) → Prop) (check_judge_places : Option Addr → Int → World → ((Int) → World → Prop) → Prop) (check_judge_last : Option Addr → Int → World → ((Int) → World → Prop) → Prop) (check_judge_scopes : Option Addr → Int → World → ((Int) → World → Prop) → Prop) (check_judge_handles : Option Addr → Int → World → ((Int) → World → Prop) → Prop) (p_0 : Array Value) (k_1 : Int) (w : World) (k : (Array Value) → World → Prop) : Prop :=
  newC w p_0 24 fun a1 w2 =>
  newC w2 #[(.int .i64 (0 : Int)), (.int .i64 (0 : Int)), (.int .i64 (0 : Int))] 72 fun a3 w4 =>
  ldS w4 (Addr.add a1 0) fun s5 =>
  ixS s5 k_1 2 fun a6 =>
  ldA 2 w4 a6 fun cs7 =>
  newC w4 #[(.int .i64 (0 : Int)), (.slice none 0 0)] 40 fun a8 w9 =>
  stA 2 w9 a8 cs7 fun w10 =>
  drew w10 fun w11 =>
  ldA 1 w11 a1 fun cs12 =>
  ldS w11 (Addr.add a8 1) fun s13 =>
  ldS w11 (Addr.add a8 1) fun s14 =>
  ldA 2 w11 a8 fun cs15 =>
  check_Depths s14 w11 fun s16 w17 =>
  samec 2 a8 w11 w17 (
  samec 1 (Addr.add a8 1) w11 w17 (
  samec 1 a1 w11 w17 (
  check_Held cs15 w17 fun s18 w19 =>
  samec 1 (Addr.add a8 1) w11 w19 (
  samec 1 a1 w11 w19 (
  spl #[(.slice none 0 0), (.slice none 0 0), (.slice none 0 0), (.slice none 0 0)] 0 1 cs12 fun cs20 =>
  newC w19 (Array.setIfInBounds (Array.setIfInBounds (Array.setIfInBounds cs20 1 (.slice s13.a s13.n s13.c)) 2 (.slice s16.a s16.n s16.c)) 3 (.slice s18.a s18.n s18.c)) 125 fun a21 w22 =>
  newC w22 #[(.func (.func n_check_judge_places) #[(.pointer (some a21))] #[]), (.func (.func n_check_judge_last) #[(.pointer (some a21))] #[]), (.func (.func n_check_judge_scopes) #[(.pointer (some a21))] #[]), (.func (.func n_check_judge_handles) #[(.pointer (some a21))] #[])] 126 fun a23 w24 =>
  ldS w24 (Addr.add a8 1) fun s25 =>
  loopP (S := Int) (fun C26 i27 w28 =>
    iteB (decide (i27 < ((s25.n : Nat) : Int))) (
      loopP (S := Int) (fun C29 i30 w31 =>
        iteB (decide (i30 < ((4 : Nat) : Int))) (
          ixS (Sl.mk (some a23) 4 4) i30 1 fun a32 =>
          ldV w31 a32 fun v33 =>
          callF (orcOf [(n_check_Depths, (fun args w c => unL [.s] args fun x => check_Depths x w fun r w => c (packV (valL [.s] r)) w)), (n_check_Held, (fun args w c => unL [.ag] args fun x => check_Held x w fun r w => c (packV (valL [.s] r)) w)), (n_check_judge_places, (fun args w c => unL [.p, (.i .i64)] args fun x => check_judge_places x.1 x.2 w fun r w => c (packV (valL [(.i .i64)] r)) w)), (n_check_judge_last, (fun args w c => unL [.p, (.i .i64)] args fun x => check_judge_last x.1 x.2 w fun r w => c (packV (valL [(.i .i64)] r)) w)), (n_check_judge_scopes, (fun args w c => unL [.p, (.i .i64)] args fun x => check_judge_scopes x.1 x.2 w fun r w => c (packV (valL [(.i .i64)] r)) w)), (n_check_judge_handles, (fun args w c => unL [.p, (.i .i64)] args fun x => check_judge_handles x.1 x.2 w fun r w => c (packV (valL [(.i .i64)] r)) w))]) v33 #[(.int .i64 i27)] w31 fun v34 w35 =>
          toI .i64 v34 fun i36 =>
          iteB (i36 != (0 : Int)) (
            stA 3 w35 a3 #[(.int .i64 k_1), (.int .i64 i27), (.int .i64 i36)] fun w37 =>
            ldA 3 w37 a3 fun cs38 =>
            (k cs38 w37)) (
            (C29 (IntKind.wrap .i64 (i30 + (1 : Int))) w35))) (
          (C26 (IntKind.wrap .i64 (i27 + (1 : Int))) w31))) (0 : Int) w28) (
      stA 3 w28 a3 #[(.int .i64 (0 : Int)), (.int .i64 (0 : Int)), (.int .i64 (0 : Int))] fun w39 =>
      ldA 3 w39 a3 fun cs40 =>
      (k cs40 w39))) (0 : Int) w24)))))
theorem e_check_function (check_Depths : Sl → World → ((Sl) → World → Prop) → Prop) (check_Held : Array Value → World → ((Sl) → World → Prop) → Prop) (check_judge_places : Option Addr → Int → World → ((Int) → World → Prop) → Prop) (check_judge_last : Option Addr → Int → World → ((Int) → World → Prop) → Prop) (check_judge_scopes : Option Addr → Int → World → ((Int) → World → Prop) → Prop) (check_judge_handles : Option Addr → Int → World → ((Int) → World → Prop) → Prop) (x : KT [.ag, (.i .i64)]) (w : World) (k : KT [.ag] → World → Prop) : evFn Go.Proofs.Try.prog (orcOf [(n_check_Depths, (fun args w c => unL [.s] args fun x => check_Depths x w fun r w => c (packV (valL [.s] r)) w)), (n_check_Held, (fun args w c => unL [.ag] args fun x => check_Held x w fun r w => c (packV (valL [.s] r)) w)), (n_check_judge_places, (fun args w c => unL [.p, (.i .i64)] args fun x => check_judge_places x.1 x.2 w fun r w => c (packV (valL [(.i .i64)] r)) w)), (n_check_judge_last, (fun args w c => unL [.p, (.i .i64)] args fun x => check_judge_last x.1 x.2 w fun r w => c (packV (valL [(.i .i64)] r)) w)), (n_check_judge_scopes, (fun args w c => unL [.p, (.i .i64)] args fun x => check_judge_scopes x.1 x.2 w fun r w => c (packV (valL [(.i .i64)] r)) w)), (n_check_judge_handles, (fun args w c => unL [.p, (.i .i64)] args fun x => check_judge_handles x.1 x.2 w fun r w => c (packV (valL [(.i .i64)] r)) w))]) 4571494470389238 [(6, [(39, (.i .i64))]), (13, [(44, (.i .i64))])] Go.Proofs.Try.f51 [.ag] (valL [.ag, (.i .i64)] x) w k = check_function_b check_Depths check_Held check_judge_places check_judge_last check_judge_scopes check_judge_handles x.1 x.2 w k := by kernel_rfl
def check_function (p_0 : Array Value) (k_1 : Int) (w : World) (k : (Array Value) → World → Prop) : Prop := check_function_b check_Depths check_Held check_judge_places check_judge_last check_judge_scopes check_judge_handles p_0 k_1 w k
def d_check_function : Dec := fun args w c => unL [.ag, (.i .i64)] args fun x => check_function x.1 x.2 w fun r w => c (packV (valL [.ag] r)) w
theorem s_check_function : Sound Go.Proofs.Try.prog n_check_function d_check_function :=
  sound_of (mask := 4571494470389238) (h := [(6, [(39, (.i .i64))]), (13, [(44, (.i .i64))])]) (ds := [(n_check_Depths, d_check_Depths), (n_check_Held, d_check_Held), (n_check_judge_places, d_check_judge_places), (n_check_judge_last, d_check_judge_last), (n_check_judge_scopes, d_check_judge_scopes), (n_check_judge_handles, d_check_judge_handles)]) mixed Go.Proofs.Try.func51 ⟨s_check_Depths, s_check_Held, s_check_judge_places, s_check_judge_last, s_check_judge_scopes, s_check_judge_handles, trivial⟩
    [.ag, (.i .i64)] [.ag] (by kernel_rfl) (fun x w k => check_function x.1 x.2 w k) (fun x w k => e_check_function check_Depths check_Held check_judge_places check_judge_last check_judge_scopes check_judge_handles x w k)

/-- peloton/check.Program -/
def check_Program_b (check_shape : Array Value → World → ((Int × Int) → World → Prop) → Prop) (check_function : Array Value → Int → World → ((Array Value) → World → Prop) → Prop) (p_0 : Array Value) (w : World) (k : (Array Value) → World → Prop) : Prop :=
  newC w p_0 24 fun a1 w2 =>
  newC w2 #[(.int .i64 (0 : Int)), (.int .i64 (0 : Int)), (.int .i64 (0 : Int))] 72 fun a3 w4 =>
  joinP (S := Bool) (fun J5 =>
    ldS w4 (Addr.add a1 0) fun s6 =>
    iteB (decide (((s6.n : Nat) : Int) < (1 : Int))) (
      (J5 true w4)) (
      ldS w4 (Addr.add a1 0) fun s7 =>
      (J5 (decide (((s7.n : Nat) : Int) > (32 : Int))) w4))) fun b8 w9 =>
  iteB b8 (
    stA 3 w9 a3 #[(.int .i64 (-(1 : Int))), (.int .i64 (-(1 : Int))), (.int .i64 (12 : Int))] fun w10 =>
    ldA 3 w10 a3 fun cs11 =>
    (k cs11 w10)) (
    ldS w9 (Addr.add a1 0) fun s12 =>
    joinP (S := Unit) (fun J13 =>
      loopP (S := Int) (fun C14 i15 w16 =>
        iteB (decide (i15 < ((s12.n : Nat) : Int))) (
          ixS s12 i15 2 fun a17 =>
          ldA 2 w16 a17 fun cs18 =>
          newC w16 #[(.int .i64 (0 : Int)), (.slice none 0 0)] 40 fun a19 w20 =>
          stA 2 w20 a19 cs18 fun w21 =>
          ldA 2 w21 a19 fun cs22 =>
          check_shape cs22 w21 fun x23 w24 =>
          iteB ((x23.1, x23.2).2 != (0 : Int)) (
            stA 3 w24 a3 #[(.int .i64 i15), (.int .i64 (x23.1, x23.2).1), (.int .i64 (x23.1, x23.2).2)] fun w25 =>
            ldA 3 w25 a3 fun cs26 =>
            (k cs26 w25)) (
            (C14 (IntKind.wrap .i64 (i15 + (1 : Int))) w24))) (
          (J13 () w16))) (0 : Int) w9) fun u27 w28 =>
    ldS w28 (Addr.add a1 0) fun s29 =>
    ixS s29 (0 : Int) 2 fun a30 =>
    ldI .i64 w28 (Addr.add a30 0) fun i31 =>
    iteB (i31 != (0 : Int)) (
      stA 3 w28 a3 #[(.int .i64 (0 : Int)), (.int .i64 (-(1 : Int))), (.int .i64 (16 : Int))] fun w32 =>
      ldA 3 w32 a3 fun cs33 =>
      (k cs33 w32)) (
      ldS w28 (Addr.add a1 0) fun s34 =>
      loopP (S := Int) (fun C35 i36 w37 =>
        iteB (decide (i36 < ((s34.n : Nat) : Int))) (
          ldA 1 w37 a1 fun cs38 =>
          check_function cs38 i36 w37 fun cs39 w40 =>
          newC w40 #[(.int .i64 (0 : Int)), (.int .i64 (0 : Int)), (.int .i64 (0 : Int))] 72 fun a41 w42 =>
          stA 3 w42 a41 cs39 fun w43 =>
          ldA 3 w43 a41 fun cs44 =>
          eqA ([(0, 0)] ++ ([(1, 0)] ++ ([(2, 0)] ++ []))) cs44 #[(.int .i64 (0 : Int)), (.int .i64 (0 : Int)), (.int .i64 (0 : Int))] fun b45 =>
          iteB (!b45) (
            ldA 3 w43 a41 fun cs46 =>
            stA 3 w43 a3 cs46 fun w47 =>
            ldA 3 w47 a3 fun cs48 =>
            (k cs48 w47)) (
            (C35 (IntKind.wrap .i64 (i36 + (1 : Int))) w43))) (
          stA 3 w37 a3 #[(.int .i64 (0 : Int)), (.int .i64 (0 : Int)), (.int .i64 (0 : Int))] fun w49 =>
          ldA 3 w49 a3 fun cs50 =>
          (k cs50 w49))) (0 : Int) w28))
theorem e_check_Program (check_shape : Array Value → World → ((Int × Int) → World → Prop) → Prop) (check_function : Array Value → Int → World → ((Array Value) → World → Prop) → Prop) (x : KT [.ag]) (w : World) (k : KT [.ag] → World → Prop) : evFn Go.Proofs.Try.prog (orcOf [(n_check_shape, (fun args w c => unL [.ag] args fun x => check_shape x w fun r w => c (packV (valL [(.i .i64), (.i .i64)] r)) w)), (n_check_function, (fun args w c => unL [.ag, (.i .i64)] args fun x => check_function x.1 x.2 w fun r w => c (packV (valL [.ag] r)) w))]) 292206227409338878 [(1, [(18, .b)]), (5, []), (6, [(23, (.i .i64))]), (21, [(50, (.i .i64))])] Go.Proofs.Try.f26 [.ag] (valL [.ag] x) w k = check_Program_b check_shape check_function x w k := by kernel_rfl
def check_Program (p_0 : Array Value) (w : World) (k : (Array Value) → World → Prop) : Prop := check_Program_b check_shape check_function p_0 w k
def d_check_Program : Dec := fun args w c => unL [.ag] args fun x => check_Program x w fun r w => c (packV (valL [.ag] r)) w
theorem s_check_Program : Sound Go.Proofs.Try.prog n_check_Program d_check_Program :=
  sound_of (mask := 292206227409338878) (h := [(1, [(18, .b)]), (5, []), (6, [(23, (.i .i64))]), (21, [(50, (.i .i64))])]) (ds := [(n_check_shape, d_check_shape), (n_check_function, d_check_function)]) mixed Go.Proofs.Try.func26 ⟨s_check_shape, s_check_function, trivial⟩
    [.ag] [.ag] (by kernel_rfl) (fun x w k => check_Program x w k) (fun x w k => e_check_Program check_shape check_function x w k)

/-- peloton/check.Accepts -/
def check_Accepts_b (check_Program : Array Value → World → ((Array Value) → World → Prop) → Prop) (p_0 : Array Value) (w : World) (k : (Bool) → World → Prop) : Prop :=
  newC w p_0 24 fun a1 w2 =>
  ldA 1 w2 a1 fun cs3 =>
  check_Program cs3 w2 fun cs4 w5 =>
  eqA ([(0, 0)] ++ ([(1, 0)] ++ ([(2, 0)] ++ []))) cs4 #[(.int .i64 (0 : Int)), (.int .i64 (0 : Int)), (.int .i64 (0 : Int))] fun b6 =>
  (k b6 w5)
theorem e_check_Accepts (check_Program : Array Value → World → ((Array Value) → World → Prop) → Prop) (x : KT [.ag]) (w : World) (k : KT [.b] → World → Prop) : evFn Go.Proofs.Try.prog (orcOf [(n_check_Program, (fun args w c => unL [.ag] args fun x => check_Program x w fun r w => c (packV (valL [.ag] r)) w))]) 6 [] Go.Proofs.Try.f14 [.b] (valL [.ag] x) w k = check_Accepts_b check_Program x w k := by kernel_rfl
def check_Accepts (p_0 : Array Value) (w : World) (k : (Bool) → World → Prop) : Prop := check_Accepts_b check_Program p_0 w k
def d_check_Accepts : Dec := fun args w c => unL [.ag] args fun x => check_Accepts x w fun r w => c (packV (valL [.b] r)) w
theorem s_check_Accepts : Sound Go.Proofs.Try.prog n_check_Accepts d_check_Accepts :=
  sound_of (mask := 6) (h := []) (ds := [(n_check_Program, d_check_Program)]) mixed Go.Proofs.Try.func14 ⟨s_check_Program, trivial⟩
    [.ag] [.b] (by kernel_rfl) (fun x w k => check_Accepts x w k) (fun x w k => e_check_Accepts check_Program x w k)

/-- peloton/frame.Root -/
def frame_Root  (w : World) (k : (Array Value) → World → Prop) : Prop :=
  newC w #[(.int .i64 (0 : Int)), (.int .i64 (0 : Int)), (.int .i64 (0 : Int)), (.int .i64 (0 : Int)), (.int .i64 (0 : Int)), (.int .i64 (0 : Int)), (.int .i64 (0 : Int)), (.int .i64 (0 : Int)), (.int .i64 (0 : Int)), (.int .i64 (0 : Int)), (.int .i64 (0 : Int)), (.int .i64 (0 : Int)), (.int .i64 (0 : Int)), (.int .i64 (0 : Int)), (.int .i64 (0 : Int)), (.int .i64 (0 : Int)), (.int .i64 (0 : Int)), (.int .i64 (0 : Int)), (.int .i64 (0 : Int))] 54 fun a1 w2 =>
  newC w2 #[(.int .i64 (0 : Int)), (.int .i64 (0 : Int)), (.int .i64 (0 : Int)), (.int .i64 (0 : Int)), (.int .i64 (0 : Int)), (.int .i64 (0 : Int)), (.int .i64 (0 : Int)), (.int .i64 (0 : Int)), (.int .i64 (0 : Int)), (.int .i64 (0 : Int)), (.int .i64 (0 : Int)), (.int .i64 (0 : Int)), (.int .i64 (0 : Int)), (.int .i64 (0 : Int)), (.int .i64 (0 : Int)), (.int .i64 (0 : Int)), (.int .i64 (0 : Int)), (.int .i64 (0 : Int)), (.int .i64 (0 : Int))] 54 fun a3 w4 =>
  loopP (S := Int) (fun C5 i6 w7 =>
    iteB (decide (i6 < (8 : Int))) (
      ixP (Addr.add a3 10) 8 i6 1 fun a8 =>
      stC w7 a8 (.int .i64 (-(1 : Int))) fun w9 =>
      (C5 (IntKind.wrap .i64 (i6 + (1 : Int))) w9)) (
      ldA 19 w7 a3 fun cs10 =>
      stA 19 w7 a1 cs10 fun w11 =>
      ldA 19 w11 a1 fun cs12 =>
      (k cs12 w11))) (0 : Int) w4
def d_frame_Root : Dec := fun args w c => unL [] args fun x => frame_Root  w fun r w => c (packV (valL [.ag] r)) w
theorem s_frame_Root : Sound Go.Proofs.Try.prog n_frame_Root d_frame_Root :=
  sound_of (mask := 31) (h := [(4, [(3, (.i .i64))])]) (ds := []) mixed Go.Proofs.Try.func21 trivial
    [] [.ag] (by kernel_rfl) (fun x w k => frame_Root  w k) (fun x w k => by kernel_rfl)

/-- peloton/pelotonlaw06.Rows -/
def pelotonlaw06_Rows (a_0 : Sl) (b_1 : Sl) (w : World) (k : (Bool) → World → Prop) : Prop :=
  iteB (((a_0.n : Nat) : Int) != ((b_1.n : Nat) : Int)) (
    (k false w)) (
    loopP (S := Int) (fun C1 i2 w3 =>
      iteB (decide (i2 < ((a_0.n : Nat) : Int))) (
        drew w3 fun w4 =>
        ixS a_0 i2 7 fun a5 =>
        ldA 7 w4 a5 fun cs6 =>
        ixS b_1 i2 7 fun a7 =>
        ldA 7 w4 a7 fun cs8 =>
        eqA ([(0, 0)] ++ ([(1, 0)] ++ ([(2, 0)] ++ ([(3, 0)] ++ ([(4, 0)] ++ ([(5, 0)] ++ ([(6, 2)] ++ []))))))) cs6 cs8 fun b9 =>
        iteB (!b9) (
          (k false w4)) (
          (C1 (IntKind.wrap .i64 (i2 + (1 : Int))) w4))) (
        (k true w3))) (0 : Int) w)
def d_pelotonlaw06_Rows : Dec := fun args w c => unL [.s, .s] args fun x => pelotonlaw06_Rows x.1 x.2 w fun r w => c (packV (valL [.b] r)) w
theorem s_pelotonlaw06_Rows : Sound Go.Proofs.Try.prog n_pelotonlaw06_Rows d_pelotonlaw06_Rows :=
  sound_of (mask := 33571891) (h := [(6, [(5, (.i .i64))])]) (ds := []) mixed Go.Proofs.Try.func13 trivial
    [.s, .s] [.b] (by kernel_rfl) (fun x w k => pelotonlaw06_Rows x.1 x.2 w k) (fun x w k => by kernel_rfl)

/-- peloton/pelotonref02.spans -/
def pelotonref02_spans (op_0 : Int) (w : World) (k : (Array Value) → World → Prop) : Prop :=
  newC w #[(.int .i64 (0 : Int)), (.int .i64 (0 : Int)), (.int .i64 (0 : Int)), (.int .i64 (0 : Int)), (.int .i64 (0 : Int)), (.int .i64 (0 : Int)), (.int .i64 (0 : Int)), (.int .i64 (0 : Int))] 52 fun a1 w2 =>
  iteB (op_0 == (0 : Int)) (
    stA 8 w2 a1 #[(.int .i64 (0 : Int)), (.int .i64 (7 : Int)), (.int .i64 (0 : Int)), (.int .i64 (0 : Int)), (.int .i64 (0 : Int)), (.int .i64 (0 : Int)), (.int .i64 (-(2147483648 : Int))), (.int .i64 (2147483647 : Int))] fun w3 =>
    ldA 8 w3 a1 fun cs4 =>
    (k cs4 w3)) (
    joinP (S := Bool) (fun J5 =>
      iteB (op_0 == (1 : Int)) (
        (J5 (op_0 == (1 : Int)) w2)) (
        (J5 (op_0 == (9 : Int)) w2))) fun b6 w7 =>
    iteB b6 (
      stA 8 w7 a1 #[(.int .i64 (0 : Int)), (.int .i64 (7 : Int)), (.int .i64 (0 : Int)), (.int .i64 (7 : Int)), (.int .i64 (0 : Int)), (.int .i64 (0 : Int)), (.int .i64 (0 : Int)), (.int .i64 (0 : Int))] fun w8 =>
      ldA 8 w8 a1 fun cs9 =>
      (k cs9 w8)) (
      joinP (S := Bool) (fun J10 =>
        iteB (op_0 == (2 : Int)) (
          (J10 (op_0 == (2 : Int)) w7)) (
          iteB (op_0 == (3 : Int)) (
            (J10 (op_0 == (3 : Int)) w7)) (
            iteB (op_0 == (4 : Int)) (
              (J10 (op_0 == (4 : Int)) w7)) (
              iteB (op_0 == (5 : Int)) (
                (J10 (op_0 == (5 : Int)) w7)) (
                (J10 (op_0 == (10 : Int)) w7)))))) fun b11 w12 =>
      iteB b11 (
        stA 8 w12 a1 #[(.int .i64 (0 : Int)), (.int .i64 (7 : Int)), (.int .i64 (0 : Int)), (.int .i64 (7 : Int)), (.int .i64 (0 : Int)), (.int .i64 (7 : Int)), (.int .i64 (0 : Int)), (.int .i64 (0 : Int))] fun w13 =>
        ldA 8 w13 a1 fun cs14 =>
        (k cs14 w13)) (
        iteB (op_0 == (6 : Int)) (
          stA 8 w12 a1 #[(.int .i64 (0 : Int)), (.int .i64 (0 : Int)), (.int .i64 (0 : Int)), (.int .i64 (0 : Int)), (.int .i64 (0 : Int)), (.int .i64 (0 : Int)), (.int .i64 (0 : Int)), (.int .i64 (127 : Int))] fun w15 =>
          ldA 8 w15 a1 fun cs16 =>
          (k cs16 w15)) (
          iteB (op_0 == (7 : Int)) (
            stA 8 w12 a1 #[(.int .i64 (0 : Int)), (.int .i64 (7 : Int)), (.int .i64 (0 : Int)), (.int .i64 (0 : Int)), (.int .i64 (0 : Int)), (.int .i64 (0 : Int)), (.int .i64 (0 : Int)), (.int .i64 (127 : Int))] fun w17 =>
            ldA 8 w17 a1 fun cs18 =>
            (k cs18 w17)) (
            iteB (op_0 == (8 : Int)) (
              stA 8 w12 a1 #[(.int .i64 (0 : Int)), (.int .i64 (7 : Int)), (.int .i64 (0 : Int)), (.int .i64 (0 : Int)), (.int .i64 (0 : Int)), (.int .i64 (0 : Int)), (.int .i64 (0 : Int)), (.int .i64 (31 : Int))] fun w19 =>
              ldA 8 w19 a1 fun cs20 =>
              (k cs20 w19)) (
              iteB (op_0 == (11 : Int)) (
                stA 8 w12 a1 #[(.int .i64 (0 : Int)), (.int .i64 (0 : Int)), (.int .i64 (0 : Int)), (.int .i64 (0 : Int)), (.int .i64 (0 : Int)), (.int .i64 (0 : Int)), (.int .i64 (0 : Int)), (.int .i64 (65535 : Int))] fun w21 =>
                ldA 8 w21 a1 fun cs22 =>
                (k cs22 w21)) (
                joinP (S := Bool) (fun J23 =>
                  iteB (op_0 == (12 : Int)) (
                    (J23 (op_0 == (12 : Int)) w12)) (
                    iteB (op_0 == (15 : Int)) (
                      (J23 (op_0 == (15 : Int)) w12)) (
                      (J23 (op_0 == (16 : Int)) w12)))) fun b24 w25 =>
                iteB b24 (
                  stA 8 w25 a1 #[(.int .i64 (0 : Int)), (.int .i64 (7 : Int)), (.int .i64 (0 : Int)), (.int .i64 (0 : Int)), (.int .i64 (0 : Int)), (.int .i64 (0 : Int)), (.int .i64 (0 : Int)), (.int .i64 (0 : Int))] fun w26 =>
                  ldA 8 w26 a1 fun cs27 =>
                  (k cs27 w26)) (
                  stA 8 w25 a1 #[(.int .i64 (0 : Int)), (.int .i64 (0 : Int)), (.int .i64 (0 : Int)), (.int .i64 (0 : Int)), (.int .i64 (0 : Int)), (.int .i64 (0 : Int)), (.int .i64 (0 : Int)), (.int .i64 (0 : Int))] fun w28 =>
                  ldA 8 w28 a1 fun cs29 =>
                  (k cs29 w28)))))))))
def d_pelotonref02_spans : Dec := fun args w c => unL [(.i .i64)] args fun x => pelotonref02_spans x w fun r w => c (packV (valL [.ag] r)) w
theorem s_pelotonref02_spans : Sound Go.Proofs.Try.prog n_pelotonref02_spans d_pelotonref02_spans :=
  sound_of (mask := 623072281149) (h := [(8, [(9, .b)]), (13, [(15, .b)]), (36, [(39, .b)])]) (ds := []) mixed Go.Proofs.Try.func87 trivial
    [(.i .i64)] [.ag] (by kernel_rfl) (fun x w k => pelotonref02_spans x w k) (fun x w k => by kernel_rfl)

/-- peloton/pelotonref02.Check -/
def pelotonref02_Check_b (pelotonref02_spans : Int → World → ((Array Value) → World → Prop) → Prop) (i_0 : Array Value) (w : World) (k : (Int) → World → Prop) : Prop :=
  newC w i_0 43 fun a1 w2 =>
  joinP (S := Bool) (fun J3 =>
    ldI .i64 w2 (Addr.add a1 0) fun i4 =>
    iteB (decide (i4 < (0 : Int))) (
      (J3 true w2)) (
      ldI .i64 w2 (Addr.add a1 0) fun i5 =>
      (J3 (decide (i5 > (16 : Int))) w2))) fun b6 w7 =>
  iteB b6 (
    (k (13 : Int) w7)) (
    ldI .i64 w7 (Addr.add a1 0) fun i8 =>
    pelotonref02_spans i8 w7 fun cs9 w10 =>
    newC w10 #[(.int .i64 (0 : Int)), (.int .i64 (0 : Int)), (.int .i64 (0 : Int)), (.int .i64 (0 : Int)), (.int .i64 (0 : Int)), (.int .i64 (0 : Int)), (.int .i64 (0 : Int)), (.int .i64 (0 : Int))] 52 fun a11 w12 =>
    stA 8 w12 a11 cs9 fun w13 =>
    ldI .i64 w13 (Addr.add a1 1) fun i14 =>
    ldI .i64 w13 (Addr.add a1 2) fun i15 =>
    ldI .i64 w13 (Addr.add a1 3) fun i16 =>
    ldI .i64 w13 (Addr.add a1 4) fun i17 =>
    newC w13 #[(.int .i64 (0 : Int)), (.int .i64 (0 : Int)), (.int .i64 (0 : Int)), (.int .i64 (0 : Int))] 128 fun a18 w19 =>
    stA 4 w19 a18 #[(.int .i64 i14), (.int .i64 i15), (.int .i64 i16), (.int .i64 i17)] fun w20 =>
    loopP (S := Int) (fun C21 i22 w23 =>
      iteB (decide (i22 < (4 : Int))) (
        joinP (S := Bool) (fun J24 =>
          drew w23 fun w25 =>
          ixP a18 4 i22 1 fun a26 =>
          ldI .i64 w25 a26 fun i27 =>
          ixP a11 8 (IntKind.wrap .i64 ((2 : Int) * i22)) 1 fun a28 =>
          ldI .i64 w25 a28 fun i29 =>
          iteB (decide (i27 < i29)) (
            (J24 true w25)) (
            ixP a18 4 i22 1 fun a30 =>
            ldI .i64 w25 a30 fun i31 =>
            ixP a11 8 (IntKind.wrap .i64 ((IntKind.wrap .i64 ((2 : Int) * i22)) + (1 : Int))) 1 fun a32 =>
            ldI .i64 w25 a32 fun i33 =>
            (J24 (decide (i31 > i33)) w25))) fun b34 w35 =>
        iteB b34 (
          (k (10 : Int) w35)) (
          (C21 (IntKind.wrap .i64 (i22 + (1 : Int))) w35))) (
        (k (0 : Int) w23))) (0 : Int) w20)
theorem e_pelotonref02_Check (pelotonref02_spans : Int → World → ((Array Value) → World → Prop) → Prop) (x : KT [.ag]) (w : World) (k : KT [(.i .i64)] → World → Prop) : evFn Go.Proofs.Try.prog (orcOf [(n_pelotonref02_spans, (fun args w c => unL [(.i .i64)] args fun x => pelotonref02_spans x w fun r w => c (packV (valL [.ag] r)) w))]) 281475110936638 [(1, [(13, .b)]), (8, [(5, (.i .i64))]), (12, [(48, .b)])] Go.Proofs.Try.f65 [(.i .i64)] (valL [.ag] x) w k = pelotonref02_Check_b pelotonref02_spans x w k := by kernel_rfl
def pelotonref02_Check (i_0 : Array Value) (w : World) (k : (Int) → World → Prop) : Prop := pelotonref02_Check_b pelotonref02_spans i_0 w k
def d_pelotonref02_Check : Dec := fun args w c => unL [.ag] args fun x => pelotonref02_Check x w fun r w => c (packV (valL [(.i .i64)] r)) w
theorem s_pelotonref02_Check : Sound Go.Proofs.Try.prog n_pelotonref02_Check d_pelotonref02_Check :=
  sound_of (mask := 281475110936638) (h := [(1, [(13, .b)]), (8, [(5, (.i .i64))]), (12, [(48, .b)])]) (ds := [(n_pelotonref02_spans, d_pelotonref02_spans)]) mixed Go.Proofs.Try.func65 ⟨s_pelotonref02_spans, trivial⟩
    [.ag] [(.i .i64)] (by kernel_rfl) (fun x w k => pelotonref02_Check x w k) (fun x w k => e_pelotonref02_Check pelotonref02_spans x w k)

/-- peloton/pelotonref04.shape -/
def pelotonref04_shape_b (pelotonref02_Check : Array Value → World → ((Int) → World → Prop) → Prop) (f_0 : Array Value) (w : World) (k : (Int × Int) → World → Prop) : Prop :=
  newC w f_0 40 fun a1 w2 =>
  joinP (S := Bool) (fun J3 =>
    ldI .i64 w2 (Addr.add a1 0) fun i4 =>
    iteB (decide (i4 < (0 : Int))) (
      (J3 true w2)) (
      ldI .i64 w2 (Addr.add a1 0) fun i5 =>
      (J3 (decide (i5 > (255 : Int))) w2))) fun b6 w7 =>
  iteB b6 (
    (k ((-(1 : Int)), (10 : Int)) w7)) (
    joinP (S := Bool) (fun J8 =>
      ldS w7 (Addr.add a1 1) fun s9 =>
      iteB (decide (((s9.n : Nat) : Int) < (1 : Int))) (
        (J8 true w7)) (
        ldS w7 (Addr.add a1 1) fun s10 =>
        (J8 (decide (((s10.n : Nat) : Int) > (128 : Int))) w7))) fun b11 w12 =>
    iteB b11 (
      (k ((-(1 : Int)), (12 : Int)) w12)) (
      loopP (S := Int) (fun C13 i14 w15 =>
        ldS w15 (Addr.add a1 1) fun s16 =>
        iteB (decide (i14 < ((s16.n : Nat) : Int))) (
          ldS w15 (Addr.add a1 1) fun s17 =>
          ixS s17 i14 5 fun a18 =>
          ldA 5 w15 a18 fun cs19 =>
          pelotonref02_Check cs19 w15 fun i20 w21 =>
          iteB (i20 != (0 : Int)) (
            (k (i14, i20) w21)) (
            (C13 (IntKind.wrap .i64 (i14 + (1 : Int))) w21))) (
          (k ((0 : Int), (0 : Int)) w15))) (0 : Int) w12))
theorem e_pelotonref04_shape (pelotonref02_Check : Array Value → World → ((Int) → World → Prop) → Prop) (x : KT [.ag]) (w : World) (k : KT [(.i .i64), (.i .i64)] → World → Prop) : evFn Go.Proofs.Try.prog (orcOf [(n_pelotonref02_Check, (fun args w c => unL [.ag] args fun x => pelotonref02_Check x w fun r w => c (packV (valL [(.i .i64)] r)) w))]) 275154739262 [(1, [(13, .b)]), (4, [(23, .b)]), (9, [(4, (.i .i64))])] Go.Proofs.Try.f60 [(.i .i64), (.i .i64)] (valL [.ag] x) w k = pelotonref04_shape_b pelotonref02_Check x w k := by kernel_rfl
def pelotonref04_shape (f_0 : Array Value) (w : World) (k : (Int × Int) → World → Prop) : Prop := pelotonref04_shape_b pelotonref02_Check f_0 w k
def d_pelotonref04_shape : Dec := fun args w c => unL [.ag] args fun x => pelotonref04_shape x w fun r w => c (packV (valL [(.i .i64), (.i .i64)] r)) w
theorem s_pelotonref04_shape : Sound Go.Proofs.Try.prog n_pelotonref04_shape d_pelotonref04_shape :=
  sound_of (mask := 275154739262) (h := [(1, [(13, .b)]), (4, [(23, .b)]), (9, [(4, (.i .i64))])]) (ds := [(n_pelotonref02_Check, d_pelotonref02_Check)]) mixed Go.Proofs.Try.func60 ⟨s_pelotonref02_Check, trivial⟩
    [.ag] [(.i .i64), (.i .i64)] (by kernel_rfl) (fun x w k => pelotonref04_shape x w k) (fun x w k => e_pelotonref04_shape pelotonref02_Check x w k)

/-- peloton/pelotonref04.Depths -/
def pelotonref04_Depths (code_0 : Sl) (w : World) (k : (Sl) → World → Prop) : Prop :=
  loopP (S := (Sl × (Int × Int))) (fun C1 x2 w3 =>
    iteB (decide (x2.2.2 < ((code_0.n : Nat) : Int))) (
      newC w3 #[(.int .i64 x2.2.1)] 3 fun a4 w5 =>
      bApp Go.Proofs.Try.prog #[88, 88] 88 [(.slice x2.1.a x2.1.n x2.1.c), (.slice (some a4) 1 1)] w5 fun s6 w7 =>
      ixS code_0 x2.2.2 5 fun a8 =>
      ldI .i64 w7 (Addr.add a8 0) fun i9 =>
      joinP (S := Int) (fun J10 =>
        iteB (i9 == (11 : Int)) (
          (J10 (IntKind.wrap .i64 (x2.2.1 + (1 : Int))) w7)) (
          (J10 x2.2.1 w7))) fun i11 w12 =>
      ixS code_0 x2.2.2 5 fun a13 =>
      ldI .i64 w12 (Addr.add a13 0) fun i14 =>
      iteB (i14 == (12 : Int)) (
        (C1 (s6, ((IntKind.wrap .i64 (i11 - (1 : Int))), (IntKind.wrap .i64 (x2.2.2 + (1 : Int))))) w12)) (
        (C1 (s6, (i11, (IntKind.wrap .i64 (x2.2.2 + (1 : Int))))) w12))) (
      (k x2.1 w3))) ((Sl.mk none 0 0), ((0 : Int), (0 : Int))) w
def d_pelotonref04_Depths : Dec := fun args w c => unL [.s] args fun x => pelotonref04_Depths x w fun r w => c (packV (valL [.s] r)) w
theorem s_pelotonref04_Depths : Sound Go.Proofs.Try.prog n_pelotonref04_Depths d_pelotonref04_Depths :=
  sound_of (mask := 538968637) (h := [(5, [(3, .s), (4, (.i .i64)), (5, (.i .i64))]), (11, [(4, (.i .i64))])]) (ds := []) mixed Go.Proofs.Try.func61 trivial
    [.s] [.s] (by kernel_rfl) (fun x w k => pelotonref04_Depths x w k) (fun x w k => by kernel_rfl)

/-- peloton/pelotonref04.Behind -/
def pelotonref04_Behind (code_0 : Sl) (i_1 : Int) (w : World) (k : (Sl) → World → Prop) : Prop :=
  ixS code_0 i_1 5 fun a1 =>
  ldI .i64 w (Addr.add a1 0) fun i2 =>
  joinP (S := Sl) (fun J3 =>
    iteB ((i2 == (6 : Int)) || (i2 == (7 : Int))) (
      ixS code_0 i_1 5 fun a4 =>
      ldI .i64 w (Addr.add a4 4) fun i5 =>
      newC w #[(.int .i64 i5)] 3 fun a6 w7 =>
      bApp Go.Proofs.Try.prog #[88, 88] 88 [(.slice none 0 0), (.slice (some a6) 1 1)] w7 fun s8 w9 =>
      (J3 s8 w9)) (
      (J3 (Sl.mk none 0 0) w))) fun s10 w11 =>
  joinP (S := Sl) (fun J12 =>
    iteB (((i2 != (6 : Int)) && (i2 != (16 : Int))) && (i2 != (15 : Int))) (
      newC w11 #[(.int .i64 (IntKind.wrap .i64 (i_1 + (1 : Int))))] 3 fun a13 w14 =>
      bApp Go.Proofs.Try.prog #[88, 88] 88 [(.slice s10.a s10.n s10.c), (.slice (some a13) 1 1)] w14 fun s15 w16 =>
      (J12 s15 w16)) (
      (J12 s10 w11))) fun s17 w18 =>
  loopP (S := (Sl × Int)) (fun C19 x20 w21 =>
    iteB (decide (x20.2 < ((s17.n : Nat) : Int))) (
      joinP (S := Bool) (fun J22 =>
        ixS s17 x20.2 1 fun a23 =>
        ldI .i64 w21 a23 fun i24 =>
        iteB (decide (i24 ≥ (0 : Int))) (
          ixS s17 x20.2 1 fun a25 =>
          ldI .i64 w21 a25 fun i26 =>
          (J22 (decide (i26 < ((code_0.n : Nat) : Int))) w21)) (
          (J22 false w21))) fun b27 w28 =>
      iteB b27 (
        ixS s17 x20.2 1 fun a29 =>
        ldI .i64 w28 a29 fun i30 =>
        newC w28 #[(.int .i64 i30)] 3 fun a31 w32 =>
        bApp Go.Proofs.Try.prog #[88, 88] 88 [(.slice x20.1.a x20.1.n x20.1.c), (.slice (some a31) 1 1)] w32 fun s33 w34 =>
        (C19 (s33, (IntKind.wrap .i64 (x20.2 + (1 : Int)))) w34)) (
        (C19 (x20.1, (IntKind.wrap .i64 (x20.2 + (1 : Int)))) w28))) (
      (k x20.1 w21))) ((Sl.mk none 0 0), (0 : Int)) w18
def d_pelotonref04_Behind : Dec := fun args w c => unL [.s, (.i .i64)] args fun x => pelotonref04_Behind x.1 x.2 w fun r w => c (packV (valL [.s] r)) w
theorem s_pelotonref04_Behind : Sound Go.Proofs.Try.prog n_pelotonref04_Behind d_pelotonref04_Behind :=
  sound_of (mask := 4611756524611043827) (h := [(4, [(5, .s)]), (7, [(5, .s)]), (12, [(7, .s), (8, (.i .i64))]), (16, [(62, .b)])]) (ds := []) mixed Go.Proofs.Try.func92 trivial
    [.s, (.i .i64)] [.s] (by kernel_rfl) (fun x w k => pelotonref04_Behind x.1 x.2 w k) (fun x w k => by kernel_rfl)

/-- peloton/pelotonref04.without -/
def pelotonref04_without_b (pelotonref04_Behind : Sl → Int → World → ((Sl) → World → Prop) → Prop) (code_0 : Sl) (h_1 : Int) (w : World) (k : (Sl) → World → Prop) : Prop :=
  mkSl Go.Proofs.Try.prog 133 (.int .i64 ((code_0.n : Nat) : Int)) (.int .i64 ((code_0.n : Nat) : Int)) w fun s1 w2 =>
  iteB (((code_0.n : Nat) : Int) == (0 : Int)) (
    (k s1 w2)) (
    ixS s1 (0 : Int) 1 fun a3 =>
    stC w2 a3 (.bool true) fun w4 =>
    newC w4 #[(.int .i64 (0 : Int))] 3 fun a5 w6 =>
    loopP (S := Sl) (fun C7 s8 w9 =>
      iteB (decide (((s8.n : Nat) : Int) > (0 : Int))) (
        ixS s8 (IntKind.wrap .i64 (((s8.n : Nat) : Int) - (1 : Int))) 1 fun a10 =>
        ldI .i64 w9 a10 fun i11 =>
        slS s8 1 (0 : Int) (IntKind.wrap .i64 (((s8.n : Nat) : Int) - (1 : Int))) fun s12 =>
        joinP (S := Bool) (fun J13 =>
          ixS code_0 i11 5 fun a14 =>
          ldI .i64 w9 (Addr.add a14 0) fun i15 =>
          iteB (i15 == (8 : Int)) (
            ixS code_0 i11 5 fun a16 =>
            ldI .i64 w9 (Addr.add a16 1) fun i17 =>
            (J13 (i17 == h_1) w9)) (
            (J13 false w9))) fun b18 w19 =>
        iteB b18 (
          (C7 s12 w19)) (
          pelotonref04_Behind code_0 i11 w19 fun s20 w21 =>
          loopP (S := (Sl × Int)) (fun C22 x23 w24 =>
            iteB (decide (x23.2 < ((s20.n : Nat) : Int))) (
              ixS s20 x23.2 1 fun a25 =>
              ldI .i64 w24 a25 fun i26 =>
              ixS s1 i26 1 fun a27 =>
              ldB w24 a27 fun b28 =>
              iteB (!b28) (
                ixS s20 x23.2 1 fun a29 =>
                ldI .i64 w24 a29 fun i30 =>
                ixS s1 i30 1 fun a31 =>
                stC w24 a31 (.bool true) fun w32 =>
                ixS s20 x23.2 1 fun a33 =>
                ldI .i64 w32 a33 fun i34 =>
                newC w32 #[(.int .i64 i34)] 3 fun a35 w36 =>
                bApp Go.Proofs.Try.prog #[88, 88] 88 [(.slice x23.1.a x23.1.n x23.1.c), (.slice (some a35) 1 1)] w36 fun s37 w38 =>
                (C22 (s37, (IntKind.wrap .i64 (x23.2 + (1 : Int)))) w38)) (
                (C22 (x23.1, (IntKind.wrap .i64 (x23.2 + (1 : Int)))) w24))) (
              (C7 x23.1 w24))) (s12, (0 : Int)) w21)) (
        (k s1 w9))) (Sl.mk (some a5) 1 1) w6)
theorem e_pelotonref04_without (pelotonref04_Behind : Sl → Int → World → ((Sl) → World → Prop) → Prop) (x : KT [.s, (.i .i64)]) (w : World) (k : KT [.s] → World → Prop) : evFn Go.Proofs.Try.prog (orcOf [(n_pelotonref04_Behind, (fun args w c => unL [.s, (.i .i64)] args fun x => pelotonref04_Behind x.1 x.2 w fun r w => c (packV (valL [.s] r)) w))]) 36929798419419005939 [(8, [(6, .s)]), (14, [(48, .b)]), (19, [(6, .s), (9, (.i .i64))])] Go.Proofs.Try.f85 [.s] (valL [.s, (.i .i64)] x) w k = pelotonref04_without_b pelotonref04_Behind x.1 x.2 w k := by kernel_rfl
def pelotonref04_without (code_0 : Sl) (h_1 : Int) (w : World) (k : (Sl) → World → Prop) : Prop := pelotonref04_without_b pelotonref04_Behind code_0 h_1 w k
def d_pelotonref04_without : Dec := fun args w c => unL [.s, (.i .i64)] args fun x => pelotonref04_without x.1 x.2 w fun r w => c (packV (valL [.s] r)) w
theorem s_pelotonref04_without : Sound Go.Proofs.Try.prog n_pelotonref04_without d_pelotonref04_without :=
  sound_of (mask := 36929798419419005939) (h := [(8, [(6, .s)]), (14, [(48, .b)]), (19, [(6, .s), (9, (.i .i64))])]) (ds := [(n_pelotonref04_Behind, d_pelotonref04_Behind)]) mixed Go.Proofs.Try.func85 ⟨s_pelotonref04_Behind, trivial⟩
    [.s, (.i .i64)] [.s] (by kernel_rfl) (fun x w k => pelotonref04_without x.1 x.2 w k) (fun x w k => e_pelotonref04_without pelotonref04_Behind x w k)

/-- peloton/pelotonref04.bit -/
def pelotonref04_bit (n_0 : Int) (h_1 : Int) (w : World) (k : (Bool) → World → Prop) : Prop :=
  shrI .i64 n_0 (IntKind.wrap .u64 h_1) fun i1 =>
  (k ((andI .i64 i1 (1 : Int)) == (1 : Int)) w)
def d_pelotonref04_bit : Dec := fun args w c => unL [(.i .i64), (.i .i64)] args fun x => pelotonref04_bit x.1 x.2 w fun r w => c (packV (valL [.b] r)) w
theorem s_pelotonref04_bit : Sound Go.Proofs.Try.prog n_pelotonref04_bit d_pelotonref04_bit :=
  sound_of (mask := 19) (h := []) (ds := []) mixed Go.Proofs.Try.func86 trivial
    [(.i .i64), (.i .i64)] [.b] (by kernel_rfl) (fun x w k => pelotonref04_bit x.1 x.2 w k) (fun x w k => by kernel_rfl)

/-- peloton/pelotonref04.Held -/
def pelotonref04_Held_b (pelotonref04_without : Sl → Int → World → ((Sl) → World → Prop) → Prop) (pelotonref04_bit : Int → Int → World → ((Bool) → World → Prop) → Prop) (f_0 : Array Value) (w : World) (k : (Sl) → World → Prop) : Prop :=
  newC w f_0 40 fun a1 w2 =>
  ldS w2 (Addr.add a1 1) fun s3 =>
  mkSl Go.Proofs.Try.prog 88 (.int .i64 ((s3.n : Nat) : Int)) (.int .i64 ((s3.n : Nat) : Int)) w2 fun s4 w5 =>
  loopP (S := Int) (fun C6 i7 w8 =>
    iteB (decide (i7 < (8 : Int))) (
      ldS w8 (Addr.add a1 1) fun s9 =>
      pelotonref04_without s9 i7 w8 fun s10 w11 =>
      loopP (S := Int) (fun C12 i13 w14 =>
        iteB (decide (i13 < ((s10.n : Nat) : Int))) (
          joinP (S := Bool) (fun J15 =>
            ldI .i64 w14 (Addr.add a1 0) fun i16 =>
            pelotonref04_bit i16 i7 w14 fun b17 w18 =>
            iteB b17 (
              (J15 true w18)) (
              ixS s10 i13 1 fun a19 =>
              ldB w18 a19 fun b20 =>
              (J15 (!b20) w18))) fun b21 w22 =>
          iteB b21 (
            ixS s4 i13 1 fun a23 =>
            ldI .i64 w22 a23 fun i24 =>
            shlI .i64 (1 : Int) (IntKind.wrap .u64 i7) fun i25 =>
            ixS s4 i13 1 fun a26 =>
            stC w22 a26 (.int .i64 (IntKind.wrap .i64 (i24 + i25))) fun w27 =>
            (C12 (IntKind.wrap .i64 (i13 + (1 : Int))) w27)) (
            (C12 (IntKind.wrap .i64 (i13 + (1 : Int))) w22))) (
          (C6 (IntKind.wrap .i64 (i7 + (1 : Int))) w14))) (0 : Int) w11) (
      (k s4 w8))) (0 : Int) w5
theorem e_pelotonref04_Held (pelotonref04_without : Sl → Int → World → ((Sl) → World → Prop) → Prop) (pelotonref04_bit : Int → Int → World → ((Bool) → World → Prop) → Prop) (x : KT [.ag]) (w : World) (k : KT [.s] → World → Prop) : evFn Go.Proofs.Try.prog (orcOf [(n_pelotonref04_without, (fun args w c => unL [.s, (.i .i64)] args fun x => pelotonref04_without x.1 x.2 w fun r w => c (packV (valL [.s] r)) w)), (n_pelotonref04_bit, (fun args w c => unL [(.i .i64), (.i .i64)] args fun x => pelotonref04_bit x.1 x.2 w fun r w => c (packV (valL [.b] r)) w))]) 34363936894 [(4, [(4, (.i .i64))]), (11, [(6, (.i .i64))]), (15, [(35, .b)])] Go.Proofs.Try.f62 [.s] (valL [.ag] x) w k = pelotonref04_Held_b pelotonref04_without pelotonref04_bit x w k := by kernel_rfl
def pelotonref04_Held (f_0 : Array Value) (w : World) (k : (Sl) → World → Prop) : Prop := pelotonref04_Held_b pelotonref04_without pelotonref04_bit f_0 w k
def d_pelotonref04_Held : Dec := fun args w c => unL [.ag] args fun x => pelotonref04_Held x w fun r w => c (packV (valL [.s] r)) w
theorem s_pelotonref04_Held : Sound Go.Proofs.Try.prog n_pelotonref04_Held d_pelotonref04_Held :=
  sound_of (mask := 34363936894) (h := [(4, [(4, (.i .i64))]), (11, [(6, (.i .i64))]), (15, [(35, .b)])]) (ds := [(n_pelotonref04_without, d_pelotonref04_without), (n_pelotonref04_bit, d_pelotonref04_bit)]) mixed Go.Proofs.Try.func62 ⟨s_pelotonref04_without, s_pelotonref04_bit, trivial⟩
    [.ag] [.s] (by kernel_rfl) (fun x w k => pelotonref04_Held x w k) (fun x w k => e_pelotonref04_Held pelotonref04_without pelotonref04_bit x w k)

/-- peloton/pelotonref04.wrong -/
def pelotonref04_wrong_b (pelotonref04_bit : Int → Int → World → ((Bool) → World → Prop) → Prop) (p_0 : Array Value) (f_1 : Array Value) (i_2 : Int) (depths_3 : Sl) (held_4 : Sl) (w : World) (k : (Int) → World → Prop) : Prop :=
  newC w p_0 24 fun a1 w2 =>
  newC w2 f_1 40 fun a3 w4 =>
  ldS w4 (Addr.add a3 1) fun s5 =>
  ixS s5 i_2 5 fun a6 =>
  ldA 5 w4 a6 fun cs7 =>
  newC w4 #[(.int .i64 (0 : Int)), (.int .i64 (0 : Int)), (.int .i64 (0 : Int)), (.int .i64 (0 : Int)), (.int .i64 (0 : Int))] 43 fun a8 w9 =>
  stA 5 w9 a8 cs7 fun w10 =>
  joinP (S := Bool) (fun J11 =>
    ldI .i64 w10 (Addr.add a8 0) fun i12 =>
    iteB (i12 == (6 : Int)) (
      (J11 true w10)) (
      ldI .i64 w10 (Addr.add a8 0) fun i13 =>
      (J11 (i13 == (7 : Int)) w10))) fun b14 w15 =>
  joinP (S := Bool) (fun J16 =>
    iteB b14 (
      ldI .i64 w15 (Addr.add a8 4) fun i17 =>
      ldS w15 (Addr.add a3 1) fun s18 =>
      iteB (decide (i17 ≥ ((s18.n : Nat) : Int))) (
        (J16 true w15)) (
        ldI .i64 w15 (Addr.add a8 0) fun i19 =>
        iteB (i19 == (8 : Int)) (
          ldI .i64 w15 (Addr.add a8 4) fun i20 =>
          ldS w15 (Addr.add a1 0) fun s21 =>
          (J16 (decide (i20 ≥ ((s21.n : Nat) : Int))) w15)) (
          (J16 false w15)))) (
      ldI .i64 w15 (Addr.add a8 0) fun i22 =>
      iteB (i22 == (8 : Int)) (
        ldI .i64 w15 (Addr.add a8 4) fun i23 =>
        ldS w15 (Addr.add a1 0) fun s24 =>
        (J16 (decide (i23 ≥ ((s24.n : Nat) : Int))) w15)) (
        (J16 false w15)))) fun b25 w26 =>
  iteB b25 (
    (k (10 : Int) w26)) (
    joinP (S := Bool) (fun J27 =>
      ldS w26 (Addr.add a3 1) fun s28 =>
      iteB (i_2 == (IntKind.wrap .i64 (((s28.n : Nat) : Int) - (1 : Int)))) (
        ldI .i64 w26 (Addr.add a8 0) fun i29 =>
        iteB (i29 != (6 : Int)) (
          ldI .i64 w26 (Addr.add a8 0) fun i30 =>
          iteB (i30 != (16 : Int)) (
            ldI .i64 w26 (Addr.add a8 0) fun i31 =>
            (J27 (i31 != (15 : Int)) w26)) (
            (J27 false w26))) (
          (J27 false w26))) (
        (J27 false w26))) fun b32 w33 =>
    iteB b32 (
      (k (11 : Int) w33)) (
      joinP (S := Bool) (fun J34 =>
        drew w33 fun w35 =>
        ldI .i64 w35 (Addr.add a8 0) fun i36 =>
        iteB (i36 == (12 : Int)) (
          ixS depths_3 i_2 1 fun a37 =>
          ldI .i64 w35 a37 fun i38 =>
          iteB (decide (i38 < (1 : Int))) (
            (J34 true w35)) (
            ldI .i64 w35 (Addr.add a8 0) fun i39 =>
            iteB (i39 == (16 : Int)) (
              ixS depths_3 i_2 1 fun a40 =>
              ldI .i64 w35 a40 fun i41 =>
              iteB (i41 != (0 : Int)) (
                (J34 true w35)) (
                iteB b14 (
                  ldI .i64 w35 (Addr.add a8 4) fun i42 =>
                  ixS depths_3 i42 1 fun a43 =>
                  ldI .i64 w35 a43 fun i44 =>
                  ixS depths_3 i_2 1 fun a45 =>
                  ldI .i64 w35 a45 fun i46 =>
                  (J34 (i44 != i46) w35)) (
                  (J34 false w35)))) (
              iteB b14 (
                ldI .i64 w35 (Addr.add a8 4) fun i47 =>
                ixS depths_3 i47 1 fun a48 =>
                ldI .i64 w35 a48 fun i49 =>
                ixS depths_3 i_2 1 fun a50 =>
                ldI .i64 w35 a50 fun i51 =>
                (J34 (i49 != i51) w35)) (
                (J34 false w35))))) (
          ldI .i64 w35 (Addr.add a8 0) fun i52 =>
          iteB (i52 == (13 : Int)) (
            ixS depths_3 i_2 1 fun a53 =>
            ldI .i64 w35 a53 fun i54 =>
            iteB (decide (i54 < (1 : Int))) (
              (J34 true w35)) (
              ldI .i64 w35 (Addr.add a8 0) fun i55 =>
              iteB (i55 == (16 : Int)) (
                ixS depths_3 i_2 1 fun a56 =>
                ldI .i64 w35 a56 fun i57 =>
                iteB (i57 != (0 : Int)) (
                  (J34 true w35)) (
                  iteB b14 (
                    ldI .i64 w35 (Addr.add a8 4) fun i58 =>
                    ixS depths_3 i58 1 fun a59 =>
                    ldI .i64 w35 a59 fun i60 =>
                    ixS depths_3 i_2 1 fun a61 =>
                    ldI .i64 w35 a61 fun i62 =>
                    (J34 (i60 != i62) w35)) (
                    (J34 false w35)))) (
                iteB b14 (
                  ldI .i64 w35 (Addr.add a8 4) fun i63 =>
                  ixS depths_3 i63 1 fun a64 =>
                  ldI .i64 w35 a64 fun i65 =>
                  ixS depths_3 i_2 1 fun a66 =>
                  ldI .i64 w35 a66 fun i67 =>
                  (J34 (i65 != i67) w35)) (
                  (J34 false w35))))) (
            ldI .i64 w35 (Addr.add a8 0) fun i68 =>
            iteB (i68 == (16 : Int)) (
              ixS depths_3 i_2 1 fun a69 =>
              ldI .i64 w35 a69 fun i70 =>
              iteB (i70 != (0 : Int)) (
                (J34 true w35)) (
                iteB b14 (
                  ldI .i64 w35 (Addr.add a8 4) fun i71 =>
                  ixS depths_3 i71 1 fun a72 =>
                  ldI .i64 w35 a72 fun i73 =>
                  ixS depths_3 i_2 1 fun a74 =>
                  ldI .i64 w35 a74 fun i75 =>
                  (J34 (i73 != i75) w35)) (
                  (J34 false w35)))) (
              iteB b14 (
                ldI .i64 w35 (Addr.add a8 4) fun i76 =>
                ixS depths_3 i76 1 fun a77 =>
                ldI .i64 w35 a77 fun i78 =>
                ixS depths_3 i_2 1 fun a79 =>
                ldI .i64 w35 a79 fun i80 =>
                (J34 (i78 != i80) w35)) (
                (J34 false w35)))))) fun b81 w82 =>
      iteB b81 (
        (k (15 : Int) w82)) (
        joinP (S := Bool) (fun J83 =>
          drew w82 fun w84 =>
          ldI .i64 w84 (Addr.add a8 0) fun i85 =>
          iteB (i85 == (9 : Int)) (
            ixS held_4 i_2 1 fun a86 =>
            ldI .i64 w84 a86 fun i87 =>
            ldI .i64 w84 (Addr.add a8 2) fun i88 =>
            pelotonref04_bit i87 i88 w84 fun b89 w90 =>
            iteB (!b89) (
              (J83 true w90)) (
              ldI .i64 w90 (Addr.add a8 0) fun i91 =>
              iteB (i91 == (10 : Int)) (
                ixS held_4 i_2 1 fun a92 =>
                ldI .i64 w90 a92 fun i93 =>
                ldI .i64 w90 (Addr.add a8 3) fun i94 =>
                pelotonref04_bit i93 i94 w90 fun b95 w96 =>
                (J83 (!b95) w96)) (
                (J83 false w90)))) (
            ldI .i64 w84 (Addr.add a8 0) fun i97 =>
            iteB (i97 == (10 : Int)) (
              ixS held_4 i_2 1 fun a98 =>
              ldI .i64 w84 a98 fun i99 =>
              ldI .i64 w84 (Addr.add a8 3) fun i100 =>
              pelotonref04_bit i99 i100 w84 fun b101 w102 =>
              (J83 (!b101) w102)) (
              (J83 false w84)))) fun b103 w104 =>
        iteB b103 (
          (k (16 : Int) w104)) (
          loopP (S := Int) (fun C105 i106 w107 =>
            iteB (decide (i106 < (8 : Int))) (
              joinP (S := Bool) (fun J108 =>
                ldI .i64 w107 (Addr.add a8 0) fun i109 =>
                iteB (i109 == (8 : Int)) (
                  ldS w107 (Addr.add a1 0) fun s110 =>
                  ldI .i64 w107 (Addr.add a8 4) fun i111 =>
                  ixS s110 i111 2 fun a112 =>
                  ldI .i64 w107 (Addr.add a112 0) fun i113 =>
                  pelotonref04_bit i113 i106 w107 fun b114 w115 =>
                  iteB b114 (
                    ixS held_4 i_2 1 fun a116 =>
                    ldI .i64 w115 a116 fun i117 =>
                    pelotonref04_bit i117 i106 w115 fun b118 w119 =>
                    (J108 (!b118) w119)) (
                    (J108 false w115))) (
                  (J108 false w107))) fun b120 w121 =>
              iteB b120 (
                (k (16 : Int) w121)) (
                (C105 (IntKind.wrap .i64 (i106 + (1 : Int))) w121))) (
              (k (0 : Int) w107))) (0 : Int) w104))))
theorem e_pelotonref04_wrong (pelotonref04_bit : Int → Int → World → ((Bool) → World → Prop) → Prop) (x : KT [.ag, .ag, (.i .i64), .s, .s]) (w : World) (k : KT [(.i .i64)] → World → Prop) : evFn Go.Proofs.Try.prog (orcOf [(n_pelotonref04_bit, (fun args w c => unL [(.i .i64), (.i .i64)] args fun x => pelotonref04_bit x.1 x.2 w fun r w => c (packV (valL [.b] r)) w))]) 93536108273669226631594124426802203716368015047804 [(2, [(12, .b)]), (3, [(48, .b)]), (6, [(69, .b)]), (9, [(111, .b)]), (12, [(139, .b)]), (17, [(13, (.i .i64))]), (21, [(166, .b)])] Go.Proofs.Try.f63 [(.i .i64)] (valL [.ag, .ag, (.i .i64), .s, .s] x) w k = pelotonref04_wrong_b pelotonref04_bit x.1 x.2.1 x.2.2.1 x.2.2.2.1 x.2.2.2.2 w k := by kernel_rfl
def pelotonref04_wrong (p_0 : Array Value) (f_1 : Array Value) (i_2 : Int) (depths_3 : Sl) (held_4 : Sl) (w : World) (k : (Int) → World → Prop) : Prop := pelotonref04_wrong_b pelotonref04_bit p_0 f_1 i_2 depths_3 held_4 w k
def d_pelotonref04_wrong : Dec := fun args w c => unL [.ag, .ag, (.i .i64), .s, .s] args fun x => pelotonref04_wrong x.1 x.2.1 x.2.2.1 x.2.2.2.1 x.2.2.2.2 w fun r w => c (packV (valL [(.i .i64)] r)) w
theorem s_pelotonref04_wrong : Sound Go.Proofs.Try.prog n_pelotonref04_wrong d_pelotonref04_wrong :=
  sound_of (mask := 93536108273669226631594124426802203716368015047804) (h := [(2, [(12, .b)]), (3, [(48, .b)]), (6, [(69, .b)]), (9, [(111, .b)]), (12, [(139, .b)]), (17, [(13, (.i .i64))]), (21, [(166, .b)])]) (ds := [(n_pelotonref04_bit, d_pelotonref04_bit)]) mixed Go.Proofs.Try.func63 ⟨s_pelotonref04_bit, trivial⟩
    [.ag, .ag, (.i .i64), .s, .s] [(.i .i64)] (by kernel_rfl) (fun x w k => pelotonref04_wrong x.1 x.2.1 x.2.2.1 x.2.2.2.1 x.2.2.2.2 w k) (fun x w k => e_pelotonref04_wrong pelotonref04_bit x w k)

/-- peloton/pelotonref04.Program -/
def pelotonref04_Program_b (pelotonref04_shape : Array Value → World → ((Int × Int) → World → Prop) → Prop) (pelotonref04_Depths : Sl → World → ((Sl) → World → Prop) → Prop) (pelotonref04_Held : Array Value → World → ((Sl) → World → Prop) → Prop) (pelotonref04_wrong : Array Value → Array Value → Int → Sl → Sl → World → ((Int) → World → Prop) → Prop) (p_0 : Array Value) (w : World) (k : (Array Value) → World → Prop) : Prop :=
  newC w p_0 24 fun a1 w2 =>
  newC w2 #[(.int .i64 (0 : Int)), (.int .i64 (0 : Int)), (.int .i64 (0 : Int))] 83 fun a3 w4 =>
  joinP (S := Bool) (fun J5 =>
    ldS w4 (Addr.add a1 0) fun s6 =>
    iteB (decide (((s6.n : Nat) : Int) < (1 : Int))) (
      (J5 true w4)) (
      ldS w4 (Addr.add a1 0) fun s7 =>
      (J5 (decide (((s7.n : Nat) : Int) > (32 : Int))) w4))) fun b8 w9 =>
  iteB b8 (
    stA 3 w9 a3 #[(.int .i64 (-(1 : Int))), (.int .i64 (-(1 : Int))), (.int .i64 (12 : Int))] fun w10 =>
    ldA 3 w10 a3 fun cs11 =>
    (k cs11 w10)) (
    joinP (S := Unit) (fun J12 =>
      loopP (S := Int) (fun C13 i14 w15 =>
        ldS w15 (Addr.add a1 0) fun s16 =>
        iteB (decide (i14 < ((s16.n : Nat) : Int))) (
          ldS w15 (Addr.add a1 0) fun s17 =>
          ixS s17 i14 2 fun a18 =>
          ldA 2 w15 a18 fun cs19 =>
          pelotonref04_shape cs19 w15 fun x20 w21 =>
          iteB ((x20.1, x20.2).2 != (0 : Int)) (
            stA 3 w21 a3 #[(.int .i64 i14), (.int .i64 (x20.1, x20.2).1), (.int .i64 (x20.1, x20.2).2)] fun w22 =>
            ldA 3 w22 a3 fun cs23 =>
            (k cs23 w22)) (
            (C13 (IntKind.wrap .i64 (i14 + (1 : Int))) w21))) (
          (J12 () w15))) (0 : Int) w9) fun u24 w25 =>
    ldS w25 (Addr.add a1 0) fun s26 =>
    ixS s26 (0 : Int) 2 fun a27 =>
    ldI .i64 w25 (Addr.add a27 0) fun i28 =>
    iteB (i28 != (0 : Int)) (
      stA 3 w25 a3 #[(.int .i64 (0 : Int)), (.int .i64 (-(1 : Int))), (.int .i64 (16 : Int))] fun w29 =>
      ldA 3 w29 a3 fun cs30 =>
      (k cs30 w29)) (
      loopP (S := Int) (fun C31 i32 w33 =>
        ldS w33 (Addr.add a1 0) fun s34 =>
        iteB (decide (i32 < ((s34.n : Nat) : Int))) (
          ldS w33 (Addr.add a1 0) fun s35 =>
          ixS s35 i32 2 fun a36 =>
          ldA 2 w33 a36 fun cs37 =>
          newC w33 #[(.int .i64 (0 : Int)), (.slice none 0 0)] 40 fun a38 w39 =>
          stA 2 w39 a38 cs37 fun w40 =>
          ldS w40 (Addr.add a38 1) fun s41 =>
          pelotonref04_Depths s41 w40 fun s42 w43 =>
          ldA 2 w43 a38 fun cs44 =>
          pelotonref04_Held cs44 w43 fun s45 w46 =>
          loopP (S := Int) (fun C47 i48 w49 =>
            ldS w49 (Addr.add a38 1) fun s50 =>
            iteB (decide (i48 < ((s50.n : Nat) : Int))) (
              ldA 1 w49 a1 fun cs51 =>
              ldA 2 w49 a38 fun cs52 =>
              pelotonref04_wrong cs51 cs52 i48 s42 s45 w49 fun i53 w54 =>
              iteB (i53 != (0 : Int)) (
                stA 3 w54 a3 #[(.int .i64 i32), (.int .i64 i48), (.int .i64 i53)] fun w55 =>
                ldA 3 w55 a3 fun cs56 =>
                (k cs56 w55)) (
                (C47 (IntKind.wrap .i64 (i48 + (1 : Int))) w54))) (
              (C31 (IntKind.wrap .i64 (i32 + (1 : Int))) w49))) (0 : Int) w46) (
          stA 3 w33 a3 #[(.int .i64 (0 : Int)), (.int .i64 (0 : Int)), (.int .i64 (0 : Int))] fun w57 =>
          ldA 3 w57 a3 fun cs58 =>
          (k cs58 w57))) (0 : Int) w25))
theorem e_pelotonref04_Program (pelotonref04_shape : Array Value → World → ((Int × Int) → World → Prop) → Prop) (pelotonref04_Depths : Sl → World → ((Sl) → World → Prop) → Prop) (pelotonref04_Held : Array Value → World → ((Sl) → World → Prop) → Prop) (pelotonref04_wrong : Array Value → Array Value → Int → Sl → Sl → World → ((Int) → World → Prop) → Prop) (x : KT [.ag]) (w : World) (k : KT [.ag] → World → Prop) : evFn Go.Proofs.Try.prog (orcOf [(n_pelotonref04_shape, (fun args w c => unL [.ag] args fun x => pelotonref04_shape x w fun r w => c (packV (valL [(.i .i64), (.i .i64)] r)) w)), (n_pelotonref04_Depths, (fun args w c => unL [.s] args fun x => pelotonref04_Depths x w fun r w => c (packV (valL [.s] r)) w)), (n_pelotonref04_Held, (fun args w c => unL [.ag] args fun x => pelotonref04_Held x w fun r w => c (packV (valL [.s] r)) w)), (n_pelotonref04_wrong, (fun args w c => unL [.ag, .ag, (.i .i64), .s, .s] args fun x => pelotonref04_wrong x.1 x.2.1 x.2.2.1 x.2.2.2.1 x.2.2.2.2 w fun r w => c (packV (valL [(.i .i64)] r)) w))]) 9680851363067366280794110 [(1, [(21, .b)]), (5, []), (6, [(3, (.i .i64))]), (20, [(6, (.i .i64))]), (29, [(10, (.i .i64))])] Go.Proofs.Try.f40 [.ag] (valL [.ag] x) w k = pelotonref04_Program_b pelotonref04_shape pelotonref04_Depths pelotonref04_Held pelotonref04_wrong x w k := by kernel_rfl
def pelotonref04_Program (p_0 : Array Value) (w : World) (k : (Array Value) → World → Prop) : Prop := pelotonref04_Program_b pelotonref04_shape pelotonref04_Depths pelotonref04_Held pelotonref04_wrong p_0 w k
def d_pelotonref04_Program : Dec := fun args w c => unL [.ag] args fun x => pelotonref04_Program x w fun r w => c (packV (valL [.ag] r)) w
theorem s_pelotonref04_Program : Sound Go.Proofs.Try.prog n_pelotonref04_Program d_pelotonref04_Program :=
  sound_of (mask := 9680851363067366280794110) (h := [(1, [(21, .b)]), (5, []), (6, [(3, (.i .i64))]), (20, [(6, (.i .i64))]), (29, [(10, (.i .i64))])]) (ds := [(n_pelotonref04_shape, d_pelotonref04_shape), (n_pelotonref04_Depths, d_pelotonref04_Depths), (n_pelotonref04_Held, d_pelotonref04_Held), (n_pelotonref04_wrong, d_pelotonref04_wrong)]) mixed Go.Proofs.Try.func40 ⟨s_pelotonref04_shape, s_pelotonref04_Depths, s_pelotonref04_Held, s_pelotonref04_wrong, trivial⟩
    [.ag] [.ag] (by kernel_rfl) (fun x w k => pelotonref04_Program x w k) (fun x w k => e_pelotonref04_Program pelotonref04_shape pelotonref04_Depths pelotonref04_Held pelotonref04_wrong x w k)

/-- peloton/pelotonref04.Accepts -/
def pelotonref04_Accepts_b (pelotonref04_Program : Array Value → World → ((Array Value) → World → Prop) → Prop) (p_0 : Array Value) (w : World) (k : (Bool) → World → Prop) : Prop :=
  newC w p_0 24 fun a1 w2 =>
  ldA 1 w2 a1 fun cs3 =>
  pelotonref04_Program cs3 w2 fun cs4 w5 =>
  ptA cs4 2 fun v6 =>
  toI .i64 v6 fun i7 =>
  (k (i7 == (0 : Int)) w5)
theorem e_pelotonref04_Accepts (pelotonref04_Program : Array Value → World → ((Array Value) → World → Prop) → Prop) (x : KT [.ag]) (w : World) (k : KT [.b] → World → Prop) : evFn Go.Proofs.Try.prog (orcOf [(n_pelotonref04_Program, (fun args w c => unL [.ag] args fun x => pelotonref04_Program x w fun r w => c (packV (valL [.ag] r)) w))]) 6 [] Go.Proofs.Try.f22 [.b] (valL [.ag] x) w k = pelotonref04_Accepts_b pelotonref04_Program x w k := by kernel_rfl
def pelotonref04_Accepts (p_0 : Array Value) (w : World) (k : (Bool) → World → Prop) : Prop := pelotonref04_Accepts_b pelotonref04_Program p_0 w k
def d_pelotonref04_Accepts : Dec := fun args w c => unL [.ag] args fun x => pelotonref04_Accepts x w fun r w => c (packV (valL [.b] r)) w
theorem s_pelotonref04_Accepts : Sound Go.Proofs.Try.prog n_pelotonref04_Accepts d_pelotonref04_Accepts :=
  sound_of (mask := 6) (h := []) (ds := [(n_pelotonref04_Program, d_pelotonref04_Program)]) mixed Go.Proofs.Try.func22 ⟨s_pelotonref04_Program, trivial⟩
    [.ag] [.b] (by kernel_rfl) (fun x w k => pelotonref04_Accepts x w k) (fun x w k => e_pelotonref04_Accepts pelotonref04_Program x w k)

/-- peloton/pelotonref05.Root -/
def pelotonref05_Root  (w : World) (k : (Array Value) → World → Prop) : Prop :=
  newC w #[(.int .i64 (0 : Int)), (.int .i64 (0 : Int)), (.int .i64 (0 : Int)), (.int .i64 (0 : Int)), (.int .i64 (0 : Int)), (.int .i64 (0 : Int)), (.int .i64 (0 : Int)), (.int .i64 (0 : Int)), (.int .i64 (0 : Int)), (.int .i64 (0 : Int)), (.int .i64 (0 : Int)), (.int .i64 (0 : Int)), (.int .i64 (0 : Int)), (.int .i64 (0 : Int)), (.int .i64 (0 : Int)), (.int .i64 (0 : Int)), (.int .i64 (0 : Int)), (.int .i64 (0 : Int)), (.int .i64 (0 : Int))] 69 fun a1 w2 =>
  spl #[(.int .i64 (0 : Int)), (.int .i64 (0 : Int)), (.int .i64 (0 : Int)), (.int .i64 (0 : Int)), (.int .i64 (0 : Int)), (.int .i64 (0 : Int)), (.int .i64 (0 : Int)), (.int .i64 (0 : Int)), (.int .i64 (0 : Int)), (.int .i64 (0 : Int)), (.int .i64 (0 : Int)), (.int .i64 (0 : Int)), (.int .i64 (0 : Int)), (.int .i64 (0 : Int)), (.int .i64 (0 : Int)), (.int .i64 (0 : Int)), (.int .i64 (0 : Int)), (.int .i64 (0 : Int)), (.int .i64 (0 : Int))] 10 8 #[(.int .i64 (-(1 : Int))), (.int .i64 (-(1 : Int))), (.int .i64 (-(1 : Int))), (.int .i64 (-(1 : Int))), (.int .i64 (-(1 : Int))), (.int .i64 (-(1 : Int))), (.int .i64 (-(1 : Int))), (.int .i64 (-(1 : Int)))] fun cs3 =>
  stA 19 w2 a1 cs3 fun w4 =>
  ldA 19 w4 a1 fun cs5 =>
  (k cs5 w4)
def d_pelotonref05_Root : Dec := fun args w c => unL [] args fun x => pelotonref05_Root  w fun r w => c (packV (valL [.ag] r)) w
theorem s_pelotonref05_Root : Sound Go.Proofs.Try.prog n_pelotonref05_Root d_pelotonref05_Root :=
  sound_of (mask := 1) (h := []) (ds := []) mixed Go.Proofs.Try.func24 trivial
    [] [.ag] (by kernel_rfl) (fun x w k => pelotonref05_Root  w k) (fun x w k => by kernel_rfl)

/-- (*peloton/pelotonref06.Machine).add -/
def pelotonref06_Machine_add (m_0 : Option Addr) (t_1 : Array Value) (parent_2 : Int) (in_3 : Int) (off_4 : Bool) (nest_5 : Int) (by_6 : Array Value) (w : World) (k : Unit → World → Prop) : Prop :=
  newC w t_1 69 fun a1 w2 =>
  newC w2 by_6 43 fun a3 w4 =>
  nn m_0 fun a5 =>
  ldS w4 (Addr.add a5 2) fun s6 =>
  drew w4 fun w7 =>
  nn m_0 fun a8 =>
  ldS w7 (Addr.add a8 2) fun s9 =>
  ldI .i64 w7 (Addr.add a1 0) fun i10 =>
  samec 1 (Addr.add a8 2) w7 w7 (
  spl #[(.int .i64 (0 : Int)), (.int .i64 (0 : Int)), (.int .i64 (0 : Int)), (.int .i64 (0 : Int)), (.int .i64 (0 : Int)), (.int .i64 (0 : Int)), (.string (ByteArray.mk #[]))] 0 7 #[(.int .i64 parent_2), (.int .i64 in_3), (.int .i64 i10), (.int .i64 (0 : Int)), (.int .i64 (0 : Int)), (.int .i64 (0 : Int)), (.string (ByteArray.mk #[]))] fun cs11 =>
  newC w7 cs11 34 fun a12 w13 =>
  samec 1 (Addr.add a8 2) w7 w13 (
  bApp Go.Proofs.Try.prog #[28, 28] 28 [(.slice s9.a s9.n s9.c), (.slice (some a12) 1 1)] w13 fun s14 w15 =>
  nn m_0 fun a16 =>
  stC w15 (Addr.add a16 2) (.slice s14.a s14.n s14.c) fun w17 =>
  drew w17 fun w18 =>
  nn m_0 fun a19 =>
  ldS w18 (Addr.add a19 1) fun s20 =>
  ldA 19 w18 a1 fun cs21 =>
  ldA 5 w18 a3 fun cs22 =>
  both (
    samec 5 a3 w18 w18 (
    samec 19 a1 w18 w18 (
    samec 1 (Addr.add a19 1) w18 w18 (
    both (
      spl #[(.bool false), (.int .i64 (0 : Int))] 0 2 #[(.bool false), (.int .i64 (IntKind.wrap .i64 (nest_5 + (1 : Int))))] fun cs23 =>
      newC w18 cs23 86 fun a24 w25 =>
      samec 5 a3 w18 w25 (
      samec 19 a1 w18 w25 (
      samec 1 (Addr.add a19 1) w18 w25 (
      newC w25 #[(.int .i64 (0 : Int))] 3 fun a26 w27 =>
      samec 5 a3 w18 w27 (
      samec 19 a1 w18 w27 (
      samec 1 (Addr.add a19 1) w18 w27 (
      spl #[(.int .i64 (0 : Int)), (.int .i64 (0 : Int)), (.int .i64 (0 : Int)), (.int .i64 (0 : Int)), (.int .i64 (0 : Int)), (.int .i64 (0 : Int)), (.int .i64 (0 : Int)), (.int .i64 (0 : Int)), (.int .i64 (0 : Int)), (.int .i64 (0 : Int)), (.int .i64 (0 : Int)), (.int .i64 (0 : Int)), (.int .i64 (0 : Int)), (.int .i64 (0 : Int)), (.int .i64 (0 : Int)), (.int .i64 (0 : Int)), (.int .i64 (0 : Int)), (.int .i64 (0 : Int)), (.int .i64 (0 : Int)), (.int .i64 (0 : Int)), (.slice none 0 0), (.slice none 0 0), (.int .i64 (0 : Int)), (.bool false), (.int .i64 (0 : Int)), (.int .i64 (0 : Int)), (.int .i64 (0 : Int)), (.int .i64 (0 : Int)), (.int .i64 (0 : Int))] 0 19 cs21 fun cs28 =>
      spl (Array.setIfInBounds (Array.setIfInBounds (Array.setIfInBounds (Array.setIfInBounds cs28 19 (.int .i64 ((s6.n : Nat) : Int))) 20 (.slice (some a24) 1 1)) 21 (.slice (some a26) 1 1)) 23 (.bool off_4)) 24 5 cs22 fun cs29 =>
      samec 1 (Addr.add a19 1) w18 w27 (
      spl #[(.int .i64 (0 : Int)), (.int .i64 (0 : Int)), (.int .i64 (0 : Int)), (.int .i64 (0 : Int)), (.int .i64 (0 : Int)), (.int .i64 (0 : Int)), (.int .i64 (0 : Int)), (.int .i64 (0 : Int)), (.int .i64 (0 : Int)), (.int .i64 (0 : Int)), (.int .i64 (0 : Int)), (.int .i64 (0 : Int)), (.int .i64 (0 : Int)), (.int .i64 (0 : Int)), (.int .i64 (0 : Int)), (.int .i64 (0 : Int)), (.int .i64 (0 : Int)), (.int .i64 (0 : Int)), (.int .i64 (0 : Int)), (.int .i64 (0 : Int)), (.slice none 0 0), (.slice none 0 0), (.int .i64 (0 : Int)), (.bool false), (.int .i64 (0 : Int)), (.int .i64 (0 : Int)), (.int .i64 (0 : Int)), (.int .i64 (0 : Int)), (.int .i64 (0 : Int))] 0 29 cs29 fun cs30 =>
      newC w27 cs30 90 fun a31 w32 =>
      samec 1 (Addr.add a19 1) w18 w32 (
      bApp Go.Proofs.Try.prog #[65, 65] 65 [(.slice s20.a s20.n s20.c), (.slice (some a31) 1 1)] w32 fun s33 w34 =>
      nn m_0 fun a35 =>
      stC w34 (Addr.add a35 1) (.slice s33.a s33.n s33.c) fun w36 =>
      (k () w36)))))))))) (
      newC w18 #[(.int .i64 (0 : Int))] 3 fun a37 w38 =>
      samec 5 a3 w18 w38 (
      samec 19 a1 w18 w38 (
      samec 1 (Addr.add a19 1) w18 w38 (
      spl #[(.bool false), (.int .i64 (0 : Int))] 0 2 #[(.bool false), (.int .i64 (IntKind.wrap .i64 (nest_5 + (1 : Int))))] fun cs39 =>
      newC w38 cs39 86 fun a40 w41 =>
      samec 5 a3 w18 w41 (
      samec 19 a1 w18 w41 (
      samec 1 (Addr.add a19 1) w18 w41 (
      spl #[(.int .i64 (0 : Int)), (.int .i64 (0 : Int)), (.int .i64 (0 : Int)), (.int .i64 (0 : Int)), (.int .i64 (0 : Int)), (.int .i64 (0 : Int)), (.int .i64 (0 : Int)), (.int .i64 (0 : Int)), (.int .i64 (0 : Int)), (.int .i64 (0 : Int)), (.int .i64 (0 : Int)), (.int .i64 (0 : Int)), (.int .i64 (0 : Int)), (.int .i64 (0 : Int)), (.int .i64 (0 : Int)), (.int .i64 (0 : Int)), (.int .i64 (0 : Int)), (.int .i64 (0 : Int)), (.int .i64 (0 : Int)), (.int .i64 (0 : Int)), (.slice none 0 0), (.slice none 0 0), (.int .i64 (0 : Int)), (.bool false), (.int .i64 (0 : Int)), (.int .i64 (0 : Int)), (.int .i64 (0 : Int)), (.int .i64 (0 : Int)), (.int .i64 (0 : Int))] 0 19 cs21 fun cs42 =>
      spl (Array.setIfInBounds (Array.setIfInBounds (Array.setIfInBounds (Array.setIfInBounds cs42 19 (.int .i64 ((s6.n : Nat) : Int))) 20 (.slice (some a40) 1 1)) 21 (.slice (some a37) 1 1)) 23 (.bool off_4)) 24 5 cs22 fun cs43 =>
      samec 1 (Addr.add a19 1) w18 w41 (
      spl #[(.int .i64 (0 : Int)), (.int .i64 (0 : Int)), (.int .i64 (0 : Int)), (.int .i64 (0 : Int)), (.int .i64 (0 : Int)), (.int .i64 (0 : Int)), (.int .i64 (0 : Int)), (.int .i64 (0 : Int)), (.int .i64 (0 : Int)), (.int .i64 (0 : Int)), (.int .i64 (0 : Int)), (.int .i64 (0 : Int)), (.int .i64 (0 : Int)), (.int .i64 (0 : Int)), (.int .i64 (0 : Int)), (.int .i64 (0 : Int)), (.int .i64 (0 : Int)), (.int .i64 (0 : Int)), (.int .i64 (0 : Int)), (.int .i64 (0 : Int)), (.slice none 0 0), (.slice none 0 0), (.int .i64 (0 : Int)), (.bool false), (.int .i64 (0 : Int)), (.int .i64 (0 : Int)), (.int .i64 (0 : Int)), (.int .i64 (0 : Int)), (.int .i64 (0 : Int))] 0 29 cs43 fun cs44 =>
      newC w41 cs44 90 fun a45 w46 =>
      samec 1 (Addr.add a19 1) w18 w46 (
      bApp Go.Proofs.Try.prog #[65, 65] 65 [(.slice s20.a s20.n s20.c), (.slice (some a45) 1 1)] w46 fun s47 w48 =>
      nn m_0 fun a49 =>
      stC w48 (Addr.add a49 1) (.slice s47.a s47.n s47.c) fun w50 =>
      (k () w50)))))))))))))) (
    newC w18 #[(.int .i64 (0 : Int))] 3 fun a51 w52 =>
    samec 5 a3 w18 w52 (
    samec 19 a1 w18 w52 (
    samec 1 (Addr.add a19 1) w18 w52 (
    samec 5 a3 w18 w52 (
    samec 19 a1 w18 w52 (
    samec 1 (Addr.add a19 1) w18 w52 (
    spl #[(.bool false), (.int .i64 (0 : Int))] 0 2 #[(.bool false), (.int .i64 (IntKind.wrap .i64 (nest_5 + (1 : Int))))] fun cs53 =>
    newC w52 cs53 86 fun a54 w55 =>
    samec 5 a3 w18 w55 (
    samec 19 a1 w18 w55 (
    samec 1 (Addr.add a19 1) w18 w55 (
    spl #[(.int .i64 (0 : Int)), (.int .i64 (0 : Int)), (.int .i64 (0 : Int)), (.int .i64 (0 : Int)), (.int .i64 (0 : Int)), (.int .i64 (0 : Int)), (.int .i64 (0 : Int)), (.int .i64 (0 : Int)), (.int .i64 (0 : Int)), (.int .i64 (0 : Int)), (.int .i64 (0 : Int)), (.int .i64 (0 : Int)), (.int .i64 (0 : Int)), (.int .i64 (0 : Int)), (.int .i64 (0 : Int)), (.int .i64 (0 : Int)), (.int .i64 (0 : Int)), (.int .i64 (0 : Int)), (.int .i64 (0 : Int)), (.int .i64 (0 : Int)), (.slice none 0 0), (.slice none 0 0), (.int .i64 (0 : Int)), (.bool false), (.int .i64 (0 : Int)), (.int .i64 (0 : Int)), (.int .i64 (0 : Int)), (.int .i64 (0 : Int)), (.int .i64 (0 : Int))] 0 19 cs21 fun cs56 =>
    spl (Array.setIfInBounds (Array.setIfInBounds (Array.setIfInBounds (Array.setIfInBounds cs56 19 (.int .i64 ((s6.n : Nat) : Int))) 20 (.slice (some a54) 1 1)) 21 (.slice (some a51) 1 1)) 23 (.bool off_4)) 24 5 cs22 fun cs57 =>
    samec 1 (Addr.add a19 1) w18 w55 (
    spl #[(.int .i64 (0 : Int)), (.int .i64 (0 : Int)), (.int .i64 (0 : Int)), (.int .i64 (0 : Int)), (.int .i64 (0 : Int)), (.int .i64 (0 : Int)), (.int .i64 (0 : Int)), (.int .i64 (0 : Int)), (.int .i64 (0 : Int)), (.int .i64 (0 : Int)), (.int .i64 (0 : Int)), (.int .i64 (0 : Int)), (.int .i64 (0 : Int)), (.int .i64 (0 : Int)), (.int .i64 (0 : Int)), (.int .i64 (0 : Int)), (.int .i64 (0 : Int)), (.int .i64 (0 : Int)), (.int .i64 (0 : Int)), (.int .i64 (0 : Int)), (.slice none 0 0), (.slice none 0 0), (.int .i64 (0 : Int)), (.bool false), (.int .i64 (0 : Int)), (.int .i64 (0 : Int)), (.int .i64 (0 : Int)), (.int .i64 (0 : Int)), (.int .i64 (0 : Int))] 0 29 cs57 fun cs58 =>
    newC w55 cs58 90 fun a59 w60 =>
    samec 1 (Addr.add a19 1) w18 w60 (
    bApp Go.Proofs.Try.prog #[65, 65] 65 [(.slice s20.a s20.n s20.c), (.slice (some a59) 1 1)] w60 fun s61 w62 =>
    nn m_0 fun a63 =>
    stC w62 (Addr.add a63 1) (.slice s61.a s61.n s61.c) fun w64 =>
    (k () w64)))))))))))))))
def d_pelotonref06_Machine_add : Dec := fun args w c => unL [.p, .ag, (.i .i64), (.i .i64), .b, (.i .i64), .ag] args fun x => pelotonref06_Machine_add x.1 x.2.1 x.2.2.1 x.2.2.2.1 x.2.2.2.2.1 x.2.2.2.2.2.1 x.2.2.2.2.2.2 w fun r w => c (packV (valL [] r)) w
theorem s_pelotonref06_Machine_add : Sound Go.Proofs.Try.prog n_pelotonref06_Machine_add d_pelotonref06_Machine_add :=
  sound_of (mask := 24893) (h := []) (ds := []) mixed Go.Proofs.Try.func23 trivial
    [.p, .ag, (.i .i64), (.i .i64), .b, (.i .i64), .ag] [] (by kernel_rfl) (fun x w k => pelotonref06_Machine_add x.1 x.2.1 x.2.2.1 x.2.2.2.1 x.2.2.2.2.1 x.2.2.2.2.2.1 x.2.2.2.2.2.2 w k) (fun x w k => by kernel_rfl)

/-- (*peloton/pelotonref06.Machine).top -/
def pelotonref06_Machine_top (m_0 : Option Addr) (w : World) (k : (Option Addr) → World → Prop) : Prop :=
  drew w fun w1 =>
  nn m_0 fun a2 =>
  ldS w1 (Addr.add a2 1) fun s3 =>
  nn m_0 fun a4 =>
  ldS w1 (Addr.add a4 1) fun s5 =>
  ixS s3 (IntKind.wrap .i64 (((s5.n : Nat) : Int) - (1 : Int))) 29 fun a6 =>
  (k (some a6) w1)
def d_pelotonref06_Machine_top : Dec := fun args w c => unL [.p] args fun x => pelotonref06_Machine_top x w fun r w => c (packV (valL [.p] r)) w
theorem s_pelotonref06_Machine_top : Sound Go.Proofs.Try.prog n_pelotonref06_Machine_top d_pelotonref06_Machine_top :=
  sound_of (mask := 5) (h := []) (ds := []) mixed Go.Proofs.Try.func41 trivial
    [.p] [.p] (by kernel_rfl) (fun x w k => pelotonref06_Machine_top x w k) (fun x w k => by kernel_rfl)

/-- peloton/pelotonref02.Point -/
def pelotonref02_Point (op_0 : Int) (w : World) (k : (Bool) → World → Prop) : Prop :=
  (k ((((((((op_0 == (6 : Int)) || (op_0 == (7 : Int))) || (op_0 == (8 : Int))) || (op_0 == (9 : Int))) || (op_0 == (10 : Int))) || (op_0 == (11 : Int))) || (op_0 == (12 : Int))) || (op_0 == (14 : Int))) w)
def d_pelotonref02_Point : Dec := fun args w c => unL [(.i .i64)] args fun x => pelotonref02_Point x w fun r w => c (packV (valL [.b] r)) w
theorem s_pelotonref02_Point : Sound Go.Proofs.Try.prog n_pelotonref02_Point d_pelotonref02_Point :=
  sound_of (mask := 5) (h := []) (ds := []) mixed Go.Proofs.Try.func42 trivial
    [(.i .i64)] [.b] (by kernel_rfl) (fun x w k => pelotonref02_Point x w k) (fun x w k => by kernel_rfl)

/-- peloton/pelotonref05.is -/
def pelotonref05_is_b (pelotonref02_Check : Array Value → World → ((Int) → World → Prop) → Prop) (i_0 : Array Value) (op_1 : Int) (w : World) (k : (Bool) → World → Prop) : Prop :=
  newC w i_0 43 fun a1 w2 =>
  ldI .i64 w2 (Addr.add a1 0) fun i3 =>
  iteB (i3 == op_1) (
    ldA 5 w2 a1 fun cs4 =>
    pelotonref02_Check cs4 w2 fun i5 w6 =>
    (k (i5 == (0 : Int)) w6)) (
    (k false w2))
theorem e_pelotonref05_is (pelotonref02_Check : Array Value → World → ((Int) → World → Prop) → Prop) (x : KT [.ag, (.i .i64)]) (w : World) (k : KT [.b] → World → Prop) : evFn Go.Proofs.Try.prog (orcOf [(n_pelotonref02_Check, (fun args w c => unL [.ag] args fun x => pelotonref02_Check x w fun r w => c (packV (valL [(.i .i64)] r)) w))]) 22 [] Go.Proofs.Try.f68 [.b] (valL [.ag, (.i .i64)] x) w k = pelotonref05_is_b pelotonref02_Check x.1 x.2 w k := by kernel_rfl
def pelotonref05_is (i_0 : Array Value) (op_1 : Int) (w : World) (k : (Bool) → World → Prop) : Prop := pelotonref05_is_b pelotonref02_Check i_0 op_1 w k
def d_pelotonref05_is : Dec := fun args w c => unL [.ag, (.i .i64)] args fun x => pelotonref05_is x.1 x.2 w fun r w => c (packV (valL [.b] r)) w
theorem s_pelotonref05_is : Sound Go.Proofs.Try.prog n_pelotonref05_is d_pelotonref05_is :=
  sound_of (mask := 22) (h := []) (ds := [(n_pelotonref02_Check, d_pelotonref02_Check)]) mixed Go.Proofs.Try.func68 ⟨s_pelotonref02_Check, trivial⟩
    [.ag, (.i .i64)] [.b] (by kernel_rfl) (fun x w k => pelotonref05_is x.1 x.2 w k) (fun x w k => e_pelotonref05_is pelotonref02_Check x w k)

/-- (peloton/pelotonref05.Task).To -/
def pelotonref05_Task_To (t_0 : Array Value) (pc_1 : Int) (w : World) (k : (Array Value) → World → Prop) : Prop :=
  newC w t_0 69 fun a1 w2 =>
  newC w2 #[(.int .i64 (0 : Int)), (.int .i64 (0 : Int)), (.int .i64 (0 : Int)), (.int .i64 (0 : Int)), (.int .i64 (0 : Int)), (.int .i64 (0 : Int)), (.int .i64 (0 : Int)), (.int .i64 (0 : Int)), (.int .i64 (0 : Int)), (.int .i64 (0 : Int)), (.int .i64 (0 : Int)), (.int .i64 (0 : Int)), (.int .i64 (0 : Int)), (.int .i64 (0 : Int)), (.int .i64 (0 : Int)), (.int .i64 (0 : Int)), (.int .i64 (0 : Int)), (.int .i64 (0 : Int)), (.int .i64 (0 : Int))] 69 fun a3 w4 =>
  stC w4 (Addr.add a1 1) (.int .i64 pc_1) fun w5 =>
  ldI .i64 w5 (Addr.add a1 18) fun i6 =>
  stC w5 (Addr.add a1 18) (.int .i64 (IntKind.wrap .i64 (i6 + (1 : Int)))) fun w7 =>
  ldA 19 w7 a1 fun cs8 =>
  stA 19 w7 a3 cs8 fun w9 =>
  ldA 19 w9 a3 fun cs10 =>
  (k cs10 w9)
def d_pelotonref05_Task_To : Dec := fun args w c => unL [.ag, (.i .i64)] args fun x => pelotonref05_Task_To x.1 x.2 w fun r w => c (packV (valL [.ag] r)) w
theorem s_pelotonref05_Task_To : Sound Go.Proofs.Try.prog n_pelotonref05_Task_To d_pelotonref05_Task_To :=
  sound_of (mask := 22) (h := []) (ds := []) mixed Go.Proofs.Try.func67 trivial
    [.ag, (.i .i64)] [.ag] (by kernel_rfl) (fun x w k => pelotonref05_Task_To x.1 x.2 w k) (fun x w k => by kernel_rfl)

/-- (peloton/pelotonref05.Task).On -/
def pelotonref05_Task_On_b (pelotonref05_Task_To : Array Value → Int → World → ((Array Value) → World → Prop) → Prop) (t_0 : Array Value) (w : World) (k : (Array Value) → World → Prop) : Prop :=
  newC w t_0 69 fun a1 w2 =>
  newC w2 #[(.int .i64 (0 : Int)), (.int .i64 (0 : Int)), (.int .i64 (0 : Int)), (.int .i64 (0 : Int)), (.int .i64 (0 : Int)), (.int .i64 (0 : Int)), (.int .i64 (0 : Int)), (.int .i64 (0 : Int)), (.int .i64 (0 : Int)), (.int .i64 (0 : Int)), (.int .i64 (0 : Int)), (.int .i64 (0 : Int)), (.int .i64 (0 : Int)), (.int .i64 (0 : Int)), (.int .i64 (0 : Int)), (.int .i64 (0 : Int)), (.int .i64 (0 : Int)), (.int .i64 (0 : Int)), (.int .i64 (0 : Int))] 69 fun a3 w4 =>
  ldA 19 w4 a1 fun cs5 =>
  ldI .i64 w4 (Addr.add a1 1) fun i6 =>
  pelotonref05_Task_To cs5 (IntKind.wrap .i64 (i6 + (1 : Int))) w4 fun cs7 w8 =>
  stA 19 w8 a3 cs7 fun w9 =>
  ldA 19 w9 a3 fun cs10 =>
  (k cs10 w9)
theorem e_pelotonref05_Task_On (pelotonref05_Task_To : Array Value → Int → World → ((Array Value) → World → Prop) → Prop) (x : KT [.ag]) (w : World) (k : KT [.ag] → World → Prop) : evFn Go.Proofs.Try.prog (orcOf [(n_pelotonref05_Task_To, (fun args w c => unL [.ag, (.i .i64)] args fun x => pelotonref05_Task_To x.1 x.2 w fun r w => c (packV (valL [.ag] r)) w))]) 6 [] Go.Proofs.Try.f48 [.ag] (valL [.ag] x) w k = pelotonref05_Task_On_b pelotonref05_Task_To x w k := by kernel_rfl
def pelotonref05_Task_On (t_0 : Array Value) (w : World) (k : (Array Value) → World → Prop) : Prop := pelotonref05_Task_On_b pelotonref05_Task_To t_0 w k
def d_pelotonref05_Task_On : Dec := fun args w c => unL [.ag] args fun x => pelotonref05_Task_On x w fun r w => c (packV (valL [.ag] r)) w
theorem s_pelotonref05_Task_On : Sound Go.Proofs.Try.prog n_pelotonref05_Task_On d_pelotonref05_Task_On :=
  sound_of (mask := 6) (h := []) (ds := [(n_pelotonref05_Task_To, d_pelotonref05_Task_To)]) mixed Go.Proofs.Try.func48 ⟨s_pelotonref05_Task_To, trivial⟩
    [.ag] [.ag] (by kernel_rfl) (fun x w k => pelotonref05_Task_On x w k) (fun x w k => e_pelotonref05_Task_On pelotonref05_Task_To x w k)

/-- (peloton/pelotonref05.Task).Forked -/
def pelotonref05_Task_Forked_b (pelotonref05_is : Array Value → Int → World → ((Bool) → World → Prop) → Prop) (pelotonref05_Task_On : Array Value → World → ((Array Value) → World → Prop) → Prop) (t_0 : Array Value) (i_1 : Array Value) (id_2 : Int) (w : World) (k : (Array Value) → World → Prop) : Prop :=
  newC w t_0 69 fun a1 w2 =>
  newC w2 i_1 43 fun a3 w4 =>
  newC w4 #[(.int .i64 (0 : Int)), (.int .i64 (0 : Int)), (.int .i64 (0 : Int)), (.int .i64 (0 : Int)), (.int .i64 (0 : Int)), (.int .i64 (0 : Int)), (.int .i64 (0 : Int)), (.int .i64 (0 : Int)), (.int .i64 (0 : Int)), (.int .i64 (0 : Int)), (.int .i64 (0 : Int)), (.int .i64 (0 : Int)), (.int .i64 (0 : Int)), (.int .i64 (0 : Int)), (.int .i64 (0 : Int)), (.int .i64 (0 : Int)), (.int .i64 (0 : Int)), (.int .i64 (0 : Int)), (.int .i64 (0 : Int))] 69 fun a5 w6 =>
  ldA 5 w6 a3 fun cs7 =>
  pelotonref05_is cs7 (8 : Int) w6 fun b8 w9 =>
  iteB (!b8) (
    ldA 19 w9 a1 fun cs10 =>
    stA 19 w9 a5 cs10 fun w11 =>
    ldA 19 w11 a5 fun cs12 =>
    (k cs12 w11)) (
    ldI .i64 w9 (Addr.add a3 1) fun i13 =>
    ixP (Addr.add a1 10) 8 i13 1 fun a14 =>
    stC w9 a14 (.int .i64 id_2) fun w15 =>
    ldA 19 w15 a1 fun cs16 =>
    pelotonref05_Task_On cs16 w15 fun cs17 w18 =>
    stA 19 w18 a5 cs17 fun w19 =>
    ldA 19 w19 a5 fun cs20 =>
    (k cs20 w19))
theorem e_pelotonref05_Task_Forked (pelotonref05_is : Array Value → Int → World → ((Bool) → World → Prop) → Prop) (pelotonref05_Task_On : Array Value → World → ((Array Value) → World → Prop) → Prop) (x : KT [.ag, .ag, (.i .i64)]) (w : World) (k : KT [.ag] → World → Prop) : evFn Go.Proofs.Try.prog (orcOf [(n_pelotonref05_is, (fun args w c => unL [.ag, (.i .i64)] args fun x => pelotonref05_is x.1 x.2 w fun r w => c (packV (valL [.b] r)) w)), (n_pelotonref05_Task_On, (fun args w c => unL [.ag] args fun x => pelotonref05_Task_On x w fun r w => c (packV (valL [.ag] r)) w))]) 604 [] Go.Proofs.Try.f64 [.ag] (valL [.ag, .ag, (.i .i64)] x) w k = pelotonref05_Task_Forked_b pelotonref05_is pelotonref05_Task_On x.1 x.2.1 x.2.2 w k := by kernel_rfl
def pelotonref05_Task_Forked (t_0 : Array Value) (i_1 : Array Value) (id_2 : Int) (w : World) (k : (Array Value) → World → Prop) : Prop := pelotonref05_Task_Forked_b pelotonref05_is pelotonref05_Task_On t_0 i_1 id_2 w k
def d_pelotonref05_Task_Forked : Dec := fun args w c => unL [.ag, .ag, (.i .i64)] args fun x => pelotonref05_Task_Forked x.1 x.2.1 x.2.2 w fun r w => c (packV (valL [.ag] r)) w
theorem s_pelotonref05_Task_Forked : Sound Go.Proofs.Try.prog n_pelotonref05_Task_Forked d_pelotonref05_Task_Forked :=
  sound_of (mask := 604) (h := []) (ds := [(n_pelotonref05_is, d_pelotonref05_is), (n_pelotonref05_Task_On, d_pelotonref05_Task_On)]) mixed Go.Proofs.Try.func64 ⟨s_pelotonref05_is, s_pelotonref05_Task_On, trivial⟩
    [.ag, .ag, (.i .i64)] [.ag] (by kernel_rfl) (fun x w k => pelotonref05_Task_Forked x.1 x.2.1 x.2.2 w k) (fun x w k => e_pelotonref05_Task_Forked pelotonref05_is pelotonref05_Task_On x w k)

/-- (*peloton/pelotonref06.Machine).ends -/
def pelotonref06_Machine_ends_b (pelotonref06_Machine_top : Option Addr → World → ((Option Addr) → World → Prop) → Prop) (pelotonref05_Task_Forked : Array Value → Array Value → Int → World → ((Array Value) → World → Prop) → Prop) (m_0 : Option Addr) (kind_1 : Int) (v_2 : Int) (w : World) (k : Unit → World → Prop) : Prop :=
  pelotonref06_Machine_top m_0 w fun p1 w2 =>
  drew w2 fun w3 =>
  nn m_0 fun a4 =>
  ldS w3 (Addr.add a4 2) fun s5 =>
  nn p1 fun a6 =>
  ldI .i64 w3 (Addr.add a6 19) fun i7 =>
  ixS s5 i7 7 fun a8 =>
  stC w3 (Addr.add a8 3) (.int .i64 kind_1) fun w9 =>
  stC w9 (Addr.add a8 4) (.int .i64 v_2) fun w10 =>
  nn p1 fun a11 =>
  ldI .i64 w10 (Addr.add (Addr.add a11 0) 18) fun i12 =>
  stC w10 (Addr.add a8 5) (.int .i64 i12) fun w13 =>
  nn p1 fun a14 =>
  ldI .i64 w13 (Addr.add a14 19) fun i15 =>
  nn p1 fun a16 =>
  ldA 5 w13 (Addr.add a16 24) fun cs17 =>
  newC w13 #[(.int .i64 (0 : Int)), (.int .i64 (0 : Int)), (.int .i64 (0 : Int)), (.int .i64 (0 : Int)), (.int .i64 (0 : Int))] 43 fun a18 w19 =>
  stA 5 w19 a18 cs17 fun w20 =>
  drew w20 fun w21 =>
  nn m_0 fun a22 =>
  ldS w21 (Addr.add a22 1) fun s23 =>
  nn m_0 fun a24 =>
  ldS w21 (Addr.add a24 1) fun s25 =>
  slS s23 29 (0 : Int) (IntKind.wrap .i64 (((s25.n : Nat) : Int) - (1 : Int))) fun s26 =>
  nn m_0 fun a27 =>
  stC w21 (Addr.add a27 1) (.slice s26.a s26.n s26.c) fun w28 =>
  nn m_0 fun a29 =>
  ldS w28 (Addr.add a29 1) fun s30 =>
  iteB (decide (((s30.n : Nat) : Int) > (0 : Int))) (
    drew w28 fun w31 =>
    ldA 5 w31 a18 fun cs32 =>
    pelotonref06_Machine_top m_0 w31 fun p33 w34 =>
    samec 5 a18 w31 w34 (
    pelotonref06_Machine_top m_0 w34 fun p35 w36 =>
    samec 5 a18 w31 w36 (
    nn p35 fun a37 =>
    ldA 19 w36 (Addr.add a37 0) fun cs38 =>
    pelotonref05_Task_Forked cs38 cs32 i15 w36 fun cs39 w40 =>
    nn p33 fun a41 =>
    stA 19 w40 (Addr.add a41 0) cs39 fun w42 =>
    (k () w42)))) (
    (k () w28))
theorem e_pelotonref06_Machine_ends (pelotonref06_Machine_top : Option Addr → World → ((Option Addr) → World → Prop) → Prop) (pelotonref05_Task_Forked : Array Value → Array Value → Int → World → ((Array Value) → World → Prop) → Prop) (x : KT [.p, (.i .i64), (.i .i64)]) (w : World) (k : KT [] → World → Prop) : evFn Go.Proofs.Try.prog (orcOf [(n_pelotonref06_Machine_top, (fun args w c => unL [.p] args fun x => pelotonref06_Machine_top x w fun r w => c (packV (valL [.p] r)) w)), (n_pelotonref05_Task_Forked, (fun args w c => unL [.ag, .ag, (.i .i64)] args fun x => pelotonref05_Task_Forked x.1 x.2.1 x.2.2 w fun r w => c (packV (valL [.ag] r)) w))]) 18446744073709552583 [] Go.Proofs.Try.f43 [] (valL [.p, (.i .i64), (.i .i64)] x) w k = pelotonref06_Machine_ends_b pelotonref06_Machine_top pelotonref05_Task_Forked x.1 x.2.1 x.2.2 w k := by kernel_rfl
def pelotonref06_Machine_ends (m_0 : Option Addr) (kind_1 : Int) (v_2 : Int) (w : World) (k : Unit → World → Prop) : Prop := pelotonref06_Machine_ends_b pelotonref06_Machine_top pelotonref05_Task_Forked m_0 kind_1 v_2 w k
def d_pelotonref06_Machine_ends : Dec := fun args w c => unL [.p, (.i .i64), (.i .i64)] args fun x => pelotonref06_Machine_ends x.1 x.2.1 x.2.2 w fun r w => c (packV (valL [] r)) w
theorem s_pelotonref06_Machine_ends : Sound Go.Proofs.Try.prog n_pelotonref06_Machine_ends d_pelotonref06_Machine_ends :=
  sound_of (mask := 18446744073709552583) (h := []) (ds := [(n_pelotonref06_Machine_top, d_pelotonref06_Machine_top), (n_pelotonref05_Task_Forked, d_pelotonref05_Task_Forked)]) mixed Go.Proofs.Try.func43 ⟨s_pelotonref06_Machine_top, s_pelotonref05_Task_Forked, trivial⟩
    [.p, (.i .i64), (.i .i64)] [] (by kernel_rfl) (fun x w k => pelotonref06_Machine_ends x.1 x.2.1 x.2.2 w k) (fun x w k => e_pelotonref06_Machine_ends pelotonref06_Machine_top pelotonref05_Task_Forked x w k)

/-- (peloton/pelotonref05.Task).With -/
def pelotonref05_Task_With (t_0 : Array Value) (a_1 : Int) (v_2 : Int) (w : World) (k : (Array Value) → World → Prop) : Prop :=
  newC w t_0 69 fun a1 w2 =>
  newC w2 #[(.int .i64 (0 : Int)), (.int .i64 (0 : Int)), (.int .i64 (0 : Int)), (.int .i64 (0 : Int)), (.int .i64 (0 : Int)), (.int .i64 (0 : Int)), (.int .i64 (0 : Int)), (.int .i64 (0 : Int)), (.int .i64 (0 : Int)), (.int .i64 (0 : Int)), (.int .i64 (0 : Int)), (.int .i64 (0 : Int)), (.int .i64 (0 : Int)), (.int .i64 (0 : Int)), (.int .i64 (0 : Int)), (.int .i64 (0 : Int)), (.int .i64 (0 : Int)), (.int .i64 (0 : Int)), (.int .i64 (0 : Int))] 69 fun a3 w4 =>
  ixP (Addr.add a1 2) 8 a_1 1 fun a5 =>
  stC w4 a5 (.int .i64 v_2) fun w6 =>
  ldA 19 w6 a1 fun cs7 =>
  stA 19 w6 a3 cs7 fun w8 =>
  ldA 19 w8 a3 fun cs9 =>
  (k cs9 w8)
def d_pelotonref05_Task_With : Dec := fun args w c => unL [.ag, (.i .i64), (.i .i64)] args fun x => pelotonref05_Task_With x.1 x.2.1 x.2.2 w fun r w => c (packV (valL [.ag] r)) w
theorem s_pelotonref05_Task_With : Sound Go.Proofs.Try.prog n_pelotonref05_Task_With d_pelotonref05_Task_With :=
  sound_of (mask := 78) (h := []) (ds := []) mixed Go.Proofs.Try.func66 trivial
    [.ag, (.i .i64), (.i .i64)] [.ag] (by kernel_rfl) (fun x w k => pelotonref05_Task_With x.1 x.2.1 x.2.2 w k) (fun x w k => by kernel_rfl)

/-- (peloton/pelotonref05.Task).Plain -/
def pelotonref05_Task_Plain_b (pelotonref02_Check : Array Value → World → ((Int) → World → Prop) → Prop) (pelotonref05_Task_With : Array Value → Int → Int → World → ((Array Value) → World → Prop) → Prop) (pelotonref05_Task_On : Array Value → World → ((Array Value) → World → Prop) → Prop) (pelotonref05_Task_To : Array Value → Int → World → ((Array Value) → World → Prop) → Prop) (t_0 : Array Value) (i_1 : Array Value) (w : World) (k : (Array Value × Bool) → World → Prop) : Prop :=
  newC w t_0 69 fun a1 w2 =>
  newC w2 i_1 43 fun a3 w4 =>
  newC w4 #[(.int .i64 (0 : Int)), (.int .i64 (0 : Int)), (.int .i64 (0 : Int)), (.int .i64 (0 : Int)), (.int .i64 (0 : Int)), (.int .i64 (0 : Int)), (.int .i64 (0 : Int)), (.int .i64 (0 : Int)), (.int .i64 (0 : Int)), (.int .i64 (0 : Int)), (.int .i64 (0 : Int)), (.int .i64 (0 : Int)), (.int .i64 (0 : Int)), (.int .i64 (0 : Int)), (.int .i64 (0 : Int)), (.int .i64 (0 : Int)), (.int .i64 (0 : Int)), (.int .i64 (0 : Int)), (.int .i64 (0 : Int))] 69 fun a5 w6 =>
  ldA 5 w6 a3 fun cs7 =>
  pelotonref02_Check cs7 w6 fun i8 w9 =>
  iteB (i8 != (0 : Int)) (
    ldA 19 w9 a1 fun cs10 =>
    stA 19 w9 a5 cs10 fun w11 =>
    ldA 19 w11 a5 fun cs12 =>
    (k (cs12, false) w11)) (
    ldA 8 w9 (Addr.add a1 2) fun cs13 =>
    newC w9 #[(.int .i64 (0 : Int)), (.int .i64 (0 : Int)), (.int .i64 (0 : Int)), (.int .i64 (0 : Int)), (.int .i64 (0 : Int)), (.int .i64 (0 : Int)), (.int .i64 (0 : Int)), (.int .i64 (0 : Int))] 51 fun a14 w15 =>
    stA 8 w15 a14 cs13 fun w16 =>
    ldI .i64 w16 (Addr.add a3 0) fun i17 =>
    iteB (i17 == (0 : Int)) (
      ldA 19 w16 a1 fun cs18 =>
      ldI .i64 w16 (Addr.add a3 1) fun i19 =>
      ldI .i64 w16 (Addr.add a3 4) fun i20 =>
      pelotonref05_Task_With cs18 i19 i20 w16 fun cs21 w22 =>
      pelotonref05_Task_On cs21 w22 fun cs23 w24 =>
      stA 19 w24 a5 cs23 fun w25 =>
      ldA 19 w25 a5 fun cs26 =>
      (k (cs26, true) w25)) (
      iteB (i17 == (1 : Int)) (
        drew w16 fun w27 =>
        ldA 19 w27 a1 fun cs28 =>
        ldI .i64 w27 (Addr.add a3 1) fun i29 =>
        ldI .i64 w27 (Addr.add a3 2) fun i30 =>
        ixP a14 8 i30 1 fun a31 =>
        ldI .i64 w27 a31 fun i32 =>
        pelotonref05_Task_With cs28 i29 i32 w27 fun cs33 w34 =>
        pelotonref05_Task_On cs33 w34 fun cs35 w36 =>
        stA 19 w36 a5 cs35 fun w37 =>
        ldA 19 w37 a5 fun cs38 =>
        (k (cs38, true) w37)) (
        iteB (i17 == (2 : Int)) (
          drew w16 fun w39 =>
          ldA 19 w39 a1 fun cs40 =>
          ldI .i64 w39 (Addr.add a3 1) fun i41 =>
          ldI .i64 w39 (Addr.add a3 2) fun i42 =>
          ixP a14 8 i42 1 fun a43 =>
          ldI .i64 w39 a43 fun i44 =>
          ldI .i64 w39 (Addr.add a3 3) fun i45 =>
          ixP a14 8 i45 1 fun a46 =>
          ldI .i64 w39 a46 fun i47 =>
          pelotonref05_Task_With cs40 i41 (IntKind.wrap .i64 (i44 + i47)) w39 fun cs48 w49 =>
          pelotonref05_Task_On cs48 w49 fun cs50 w51 =>
          stA 19 w51 a5 cs50 fun w52 =>
          ldA 19 w52 a5 fun cs53 =>
          (k (cs53, true) w52)) (
          iteB (i17 == (3 : Int)) (
            drew w16 fun w54 =>
            ldA 19 w54 a1 fun cs55 =>
            ldI .i64 w54 (Addr.add a3 1) fun i56 =>
            ldI .i64 w54 (Addr.add a3 2) fun i57 =>
            ixP a14 8 i57 1 fun a58 =>
            ldI .i64 w54 a58 fun i59 =>
            ldI .i64 w54 (Addr.add a3 3) fun i60 =>
            ixP a14 8 i60 1 fun a61 =>
            ldI .i64 w54 a61 fun i62 =>
            pelotonref05_Task_With cs55 i56 (IntKind.wrap .i64 (i59 - i62)) w54 fun cs63 w64 =>
            pelotonref05_Task_On cs63 w64 fun cs65 w66 =>
            stA 19 w66 a5 cs65 fun w67 =>
            ldA 19 w67 a5 fun cs68 =>
            (k (cs68, true) w67)) (
            iteB (i17 == (4 : Int)) (
              drew w16 fun w69 =>
              ldA 19 w69 a1 fun cs70 =>
              ldI .i64 w69 (Addr.add a3 1) fun i71 =>
              ldI .i64 w69 (Addr.add a3 2) fun i72 =>
              ixP a14 8 i72 1 fun a73 =>
              ldI .i64 w69 a73 fun i74 =>
              ldI .i64 w69 (Addr.add a3 3) fun i75 =>
              ixP a14 8 i75 1 fun a76 =>
              ldI .i64 w69 a76 fun i77 =>
              pelotonref05_Task_With cs70 i71 (IntKind.wrap .i64 (i74 * i77)) w69 fun cs78 w79 =>
              pelotonref05_Task_On cs78 w79 fun cs80 w81 =>
              stA 19 w81 a5 cs80 fun w82 =>
              ldA 19 w82 a5 fun cs83 =>
              (k (cs83, true) w82)) (
              iteB (i17 == (5 : Int)) (
                drew w16 fun w84 =>
                ldI .i64 w84 (Addr.add a3 2) fun i85 =>
                ixP a14 8 i85 1 fun a86 =>
                ldI .i64 w84 a86 fun i87 =>
                ldI .i64 w84 (Addr.add a3 3) fun i88 =>
                ixP a14 8 i88 1 fun a89 =>
                ldI .i64 w84 a89 fun i90 =>
                iteB (decide (i87 < i90)) (
                  ldA 19 w84 a1 fun cs91 =>
                  ldI .i64 w84 (Addr.add a3 1) fun i92 =>
                  pelotonref05_Task_With cs91 i92 (1 : Int) w84 fun cs93 w94 =>
                  pelotonref05_Task_On cs93 w94 fun cs95 w96 =>
                  stA 19 w96 a5 cs95 fun w97 =>
                  ldA 19 w97 a5 fun cs98 =>
                  (k (cs98, true) w97)) (
                  ldA 19 w84 a1 fun cs99 =>
                  ldI .i64 w84 (Addr.add a3 1) fun i100 =>
                  pelotonref05_Task_With cs99 i100 (0 : Int) w84 fun cs101 w102 =>
                  pelotonref05_Task_On cs101 w102 fun cs103 w104 =>
                  stA 19 w104 a5 cs103 fun w105 =>
                  ldA 19 w105 a5 fun cs106 =>
                  (k (cs106, true) w105))) (
                iteB (i17 == (6 : Int)) (
                  ldA 19 w16 a1 fun cs107 =>
                  ldI .i64 w16 (Addr.add a3 4) fun i108 =>
                  pelotonref05_Task_To cs107 i108 w16 fun cs109 w110 =>
                  stA 19 w110 a5 cs109 fun w111 =>
                  ldA 19 w111 a5 fun cs112 =>
                  (k (cs112, true) w111)) (
                  iteB (i17 == (7 : Int)) (
                    ldI .i64 w16 (Addr.add a3 1) fun i113 =>
                    ixP a14 8 i113 1 fun a114 =>
                    ldI .i64 w16 a114 fun i115 =>
                    iteB (i115 != (0 : Int)) (
                      ldA 19 w16 a1 fun cs116 =>
                      ldI .i64 w16 (Addr.add a3 4) fun i117 =>
                      pelotonref05_Task_To cs116 i117 w16 fun cs118 w119 =>
                      stA 19 w119 a5 cs118 fun w120 =>
                      ldA 19 w120 a5 fun cs121 =>
                      (k (cs121, true) w120)) (
                      ldA 19 w16 a1 fun cs122 =>
                      pelotonref05_Task_On cs122 w16 fun cs123 w124 =>
                      stA 19 w124 a5 cs123 fun w125 =>
                      ldA 19 w125 a5 fun cs126 =>
                      (k (cs126, true) w125))) (
                    ldA 19 w16 a1 fun cs127 =>
                    stA 19 w16 a5 cs127 fun w128 =>
                    ldA 19 w128 a5 fun cs129 =>
                    (k (cs129, false) w128))))))))))
theorem e_pelotonref05_Task_Plain (pelotonref02_Check : Array Value → World → ((Int) → World → Prop) → Prop) (pelotonref05_Task_With : Array Value → Int → Int → World → ((Array Value) → World → Prop) → Prop) (pelotonref05_Task_On : Array Value → World → ((Array Value) → World → Prop) → Prop) (pelotonref05_Task_To : Array Value → Int → World → ((Array Value) → World → Prop) → Prop) (x : KT [.ag, .ag]) (w : World) (k : KT [.ag, .b] → World → Prop) : evFn Go.Proofs.Try.prog (orcOf [(n_pelotonref02_Check, (fun args w c => unL [.ag] args fun x => pelotonref02_Check x w fun r w => c (packV (valL [(.i .i64)] r)) w)), (n_pelotonref05_Task_With, (fun args w c => unL [.ag, (.i .i64), (.i .i64)] args fun x => pelotonref05_Task_With x.1 x.2.1 x.2.2 w fun r w => c (packV (valL [.ag] r)) w)), (n_pelotonref05_Task_On, (fun args w c => unL [.ag] args fun x => pelotonref05_Task_On x w fun r w => c (packV (valL [.ag] r)) w)), (n_pelotonref05_Task_To, (fun args w c => unL [.ag, (.i .i64)] args fun x => pelotonref05_Task_To x.1 x.2 w fun r w => c (packV (valL [.ag] r)) w))]) 84395116273986469050208169058419324 [] Go.Proofs.Try.f44 [.ag, .b] (valL [.ag, .ag] x) w k = pelotonref05_Task_Plain_b pelotonref02_Check pelotonref05_Task_With pelotonref05_Task_On pelotonref05_Task_To x.1 x.2 w k := by kernel_rfl
def pelotonref05_Task_Plain (t_0 : Array Value) (i_1 : Array Value) (w : World) (k : (Array Value × Bool) → World → Prop) : Prop := pelotonref05_Task_Plain_b pelotonref02_Check pelotonref05_Task_With pelotonref05_Task_On pelotonref05_Task_To t_0 i_1 w k
def d_pelotonref05_Task_Plain : Dec := fun args w c => unL [.ag, .ag] args fun x => pelotonref05_Task_Plain x.1 x.2 w fun r w => c (packV (valL [.ag, .b] r)) w
theorem s_pelotonref05_Task_Plain : Sound Go.Proofs.Try.prog n_pelotonref05_Task_Plain d_pelotonref05_Task_Plain :=
  sound_of (mask := 84395116273986469050208169058419324) (h := []) (ds := [(n_pelotonref02_Check, d_pelotonref02_Check), (n_pelotonref05_Task_With, d_pelotonref05_Task_With), (n_pelotonref05_Task_On, d_pelotonref05_Task_On), (n_pelotonref05_Task_To, d_pelotonref05_Task_To)]) mixed Go.Proofs.Try.func44 ⟨s_pelotonref02_Check, s_pelotonref05_Task_With, s_pelotonref05_Task_On, s_pelotonref05_Task_To, trivial⟩
    [.ag, .ag] [.ag, .b] (by kernel_rfl) (fun x w k => pelotonref05_Task_Plain x.1 x.2 w k) (fun x w k => e_pelotonref05_Task_Plain pelotonref02_Check pelotonref05_Task_With pelotonref05_Task_On pelotonref05_Task_To x w k)

/-- (peloton/pelotonref05.Task).Child -/
def pelotonref05_Task_Child_b (pelotonref05_Root : World → ((Array Value) → World → Prop) → Prop) (t_0 : Array Value) (n_1 : Int) (needs_2 : Int) (w : World) (k : (Array Value) → World → Prop) : Prop :=
  newC w t_0 69 fun a1 w2 =>
  newC w2 #[(.int .i64 (0 : Int)), (.int .i64 (0 : Int)), (.int .i64 (0 : Int)), (.int .i64 (0 : Int)), (.int .i64 (0 : Int)), (.int .i64 (0 : Int)), (.int .i64 (0 : Int)), (.int .i64 (0 : Int)), (.int .i64 (0 : Int)), (.int .i64 (0 : Int)), (.int .i64 (0 : Int)), (.int .i64 (0 : Int)), (.int .i64 (0 : Int)), (.int .i64 (0 : Int)), (.int .i64 (0 : Int)), (.int .i64 (0 : Int)), (.int .i64 (0 : Int)), (.int .i64 (0 : Int)), (.int .i64 (0 : Int))] 69 fun a3 w4 =>
  pelotonref05_Root  w4 fun cs5 w6 =>
  newC w6 #[(.int .i64 (0 : Int)), (.int .i64 (0 : Int)), (.int .i64 (0 : Int)), (.int .i64 (0 : Int)), (.int .i64 (0 : Int)), (.int .i64 (0 : Int)), (.int .i64 (0 : Int)), (.int .i64 (0 : Int)), (.int .i64 (0 : Int)), (.int .i64 (0 : Int)), (.int .i64 (0 : Int)), (.int .i64 (0 : Int)), (.int .i64 (0 : Int)), (.int .i64 (0 : Int)), (.int .i64 (0 : Int)), (.int .i64 (0 : Int)), (.int .i64 (0 : Int)), (.int .i64 (0 : Int)), (.int .i64 (0 : Int))] 69 fun a7 w8 =>
  stA 19 w8 a7 cs5 fun w9 =>
  stC w9 (Addr.add a7 0) (.int .i64 n_1) fun w10 =>
  ldA 8 w10 (Addr.add a1 2) fun cs11 =>
  stA 8 w10 (Addr.add a7 2) cs11 fun w12 =>
  loopP (S := Int) (fun C13 i14 w15 =>
    iteB (decide (i14 < (8 : Int))) (
      shrI .i64 needs_2 (IntKind.wrap .u64 i14) fun i16 =>
      iteB ((andI .i64 i16 (1 : Int)) == (1 : Int)) (
        ixP (Addr.add a1 10) 8 i14 1 fun a17 =>
        ldI .i64 w15 a17 fun i18 =>
        ixP (Addr.add a7 10) 8 i14 1 fun a19 =>
        stC w15 a19 (.int .i64 i18) fun w20 =>
        (C13 (IntKind.wrap .i64 (i14 + (1 : Int))) w20)) (
        (C13 (IntKind.wrap .i64 (i14 + (1 : Int))) w15))) (
      ldA 19 w15 a7 fun cs21 =>
      stA 19 w15 a3 cs21 fun w22 =>
      ldA 19 w22 a3 fun cs23 =>
      (k cs23 w22))) (0 : Int) w12
theorem e_pelotonref05_Task_Child (pelotonref05_Root : World → ((Array Value) → World → Prop) → Prop) (x : KT [.ag, (.i .i64), (.i .i64)]) (w : World) (k : KT [.ag] → World → Prop) : evFn Go.Proofs.Try.prog (orcOf [(n_pelotonref05_Root, (fun args w c => unL [] args fun x => pelotonref05_Root  w fun r w => c (packV (valL [.ag] r)) w))]) 16843214 [(6, [(8, (.i .i64))])] Go.Proofs.Try.f45 [.ag] (valL [.ag, (.i .i64), (.i .i64)] x) w k = pelotonref05_Task_Child_b pelotonref05_Root x.1 x.2.1 x.2.2 w k := by kernel_rfl
def pelotonref05_Task_Child (t_0 : Array Value) (n_1 : Int) (needs_2 : Int) (w : World) (k : (Array Value) → World → Prop) : Prop := pelotonref05_Task_Child_b pelotonref05_Root t_0 n_1 needs_2 w k
def d_pelotonref05_Task_Child : Dec := fun args w c => unL [.ag, (.i .i64), (.i .i64)] args fun x => pelotonref05_Task_Child x.1 x.2.1 x.2.2 w fun r w => c (packV (valL [.ag] r)) w
theorem s_pelotonref05_Task_Child : Sound Go.Proofs.Try.prog n_pelotonref05_Task_Child d_pelotonref05_Task_Child :=
  sound_of (mask := 16843214) (h := [(6, [(8, (.i .i64))])]) (ds := [(n_pelotonref05_Root, d_pelotonref05_Root)]) mixed Go.Proofs.Try.func45 ⟨s_pelotonref05_Root, trivial⟩
    [.ag, (.i .i64), (.i .i64)] [.ag] (by kernel_rfl) (fun x w k => pelotonref05_Task_Child x.1 x.2.1 x.2.2 w k) (fun x w k => e_pelotonref05_Task_Child pelotonref05_Root x w k)

/-- (*peloton/pelotonref06.Machine).cancelled -/
def pelotonref06_Machine_cancelled_b (pelotonref06_Machine_top : Option Addr → World → ((Option Addr) → World → Prop) → Prop) (m_0 : Option Addr) (w : World) (k : (Bool) → World → Prop) : Prop :=
  pelotonref06_Machine_top m_0 w fun p1 w2 =>
  nn p1 fun a3 =>
  ldB w2 (Addr.add a3 23) fun b4 =>
  iteB b4 (
    (k true w2)) (
    loopP (S := Int) (fun C5 i6 w7 =>
      nn p1 fun a8 =>
      ldS w7 (Addr.add a8 20) fun s9 =>
      iteB (decide (i6 < ((s9.n : Nat) : Int))) (
        nn p1 fun a10 =>
        ldS w7 (Addr.add a10 20) fun s11 =>
        ixS s11 i6 2 fun a12 =>
        ldB w7 (Addr.add a12 0) fun b13 =>
        iteB b13 (
          (k true w7)) (
          (C5 (IntKind.wrap .i64 (i6 + (1 : Int))) w7))) (
        (k false w7))) (0 : Int) w2)
theorem e_pelotonref06_Machine_cancelled (pelotonref06_Machine_top : Option Addr → World → ((Option Addr) → World → Prop) → Prop) (x : KT [.p]) (w : World) (k : KT [.b] → World → Prop) : evFn Go.Proofs.Try.prog (orcOf [(n_pelotonref06_Machine_top, (fun args w c => unL [.p] args fun x => pelotonref06_Machine_top x w fun r w => c (packV (valL [.p] r)) w))]) 134349853 [(7, [(4, (.i .i64))])] Go.Proofs.Try.f46 [.b] (valL [.p] x) w k = pelotonref06_Machine_cancelled_b pelotonref06_Machine_top x w k := by kernel_rfl
def pelotonref06_Machine_cancelled (m_0 : Option Addr) (w : World) (k : (Bool) → World → Prop) : Prop := pelotonref06_Machine_cancelled_b pelotonref06_Machine_top m_0 w k
def d_pelotonref06_Machine_cancelled : Dec := fun args w c => unL [.p] args fun x => pelotonref06_Machine_cancelled x w fun r w => c (packV (valL [.b] r)) w
theorem s_pelotonref06_Machine_cancelled : Sound Go.Proofs.Try.prog n_pelotonref06_Machine_cancelled d_pelotonref06_Machine_cancelled :=
  sound_of (mask := 134349853) (h := [(7, [(4, (.i .i64))])]) (ds := [(n_pelotonref06_Machine_top, d_pelotonref06_Machine_top)]) mixed Go.Proofs.Try.func46 ⟨s_pelotonref06_Machine_top, trivial⟩
    [.p] [.b] (by kernel_rfl) (fun x w k => pelotonref06_Machine_cancelled x w k) (fun x w k => e_pelotonref06_Machine_cancelled pelotonref06_Machine_top x w k)

/-- (peloton/pelotonref05.Task).Joined -/
def pelotonref05_Task_Joined_b (pelotonref05_is : Array Value → Int → World → ((Bool) → World → Prop) → Prop) (pelotonref05_Task_With : Array Value → Int → Int → World → ((Array Value) → World → Prop) → Prop) (pelotonref05_Task_On : Array Value → World → ((Array Value) → World → Prop) → Prop) (pelotonref05_Task_To : Array Value → Int → World → ((Array Value) → World → Prop) → Prop) (t_0 : Array Value) (i_1 : Array Value) (kind_2 : Int) (v_3 : Int) (w : World) (k : (Array Value × Int × Bool) → World → Prop) : Prop :=
  newC w t_0 69 fun a1 w2 =>
  newC w2 i_1 43 fun a3 w4 =>
  newC w4 #[(.int .i64 (0 : Int)), (.int .i64 (0 : Int)), (.int .i64 (0 : Int)), (.int .i64 (0 : Int)), (.int .i64 (0 : Int)), (.int .i64 (0 : Int)), (.int .i64 (0 : Int)), (.int .i64 (0 : Int)), (.int .i64 (0 : Int)), (.int .i64 (0 : Int)), (.int .i64 (0 : Int)), (.int .i64 (0 : Int)), (.int .i64 (0 : Int)), (.int .i64 (0 : Int)), (.int .i64 (0 : Int)), (.int .i64 (0 : Int)), (.int .i64 (0 : Int)), (.int .i64 (0 : Int)), (.int .i64 (0 : Int))] 69 fun a5 w6 =>
  iteB (((kind_2 != (2 : Int)) && (kind_2 != (3 : Int))) && (kind_2 != (4 : Int))) (
    ldA 19 w6 a1 fun cs7 =>
    stA 19 w6 a5 cs7 fun w8 =>
    ldA 19 w8 a5 fun cs9 =>
    (k (cs9, ((0 : Int), false)) w8)) (
    joinP (S := Int) (fun J10 =>
      iteB (kind_2 == (4 : Int)) (
        (J10 (0 : Int) w6)) (
        (J10 v_3 w6))) fun i11 w12 =>
    ldA 5 w12 a3 fun cs13 =>
    pelotonref05_is cs13 (10 : Int) w12 fun b14 w15 =>
    iteB b14 (
      drew w15 fun w16 =>
      ldA 19 w16 a1 fun cs17 =>
      ldI .i64 w16 (Addr.add a3 1) fun i18 =>
      ldI .i64 w16 (Addr.add a3 2) fun i19 =>
      pelotonref05_Task_With cs17 i18 i11 w16 fun cs20 w21 =>
      samec 1 (Addr.add a3 2) w16 w21 (
      pelotonref05_Task_With cs20 i19 (IntKind.wrap .i64 (kind_2 - (2 : Int))) w21 fun cs22 w23 =>
      pelotonref05_Task_On cs22 w23 fun cs24 w25 =>
      stA 19 w25 a5 cs24 fun w26 =>
      ldA 19 w26 a5 fun cs27 =>
      (k (cs27, ((0 : Int), false)) w26))) (
      ldA 5 w15 a3 fun cs28 =>
      pelotonref05_is cs28 (9 : Int) w15 fun b29 w30 =>
      iteB (!b29) (
        ldA 19 w30 a1 fun cs31 =>
        stA 19 w30 a5 cs31 fun w32 =>
        ldA 19 w32 a5 fun cs33 =>
        (k (cs33, ((0 : Int), false)) w32)) (
        iteB (kind_2 == (2 : Int)) (
          ldA 19 w30 a1 fun cs34 =>
          ldI .i64 w30 (Addr.add a3 1) fun i35 =>
          pelotonref05_Task_With cs34 i35 i11 w30 fun cs36 w37 =>
          pelotonref05_Task_On cs36 w37 fun cs38 w39 =>
          stA 19 w39 a5 cs38 fun w40 =>
          ldA 19 w40 a5 fun cs41 =>
          (k (cs41, ((0 : Int), false)) w40)) (
          iteB (kind_2 == (4 : Int)) (
            ldA 19 w30 a1 fun cs42 =>
            ldI .i64 w30 (Addr.add a1 1) fun i43 =>
            pelotonref05_Task_To cs42 i43 w30 fun cs44 w45 =>
            stA 19 w45 a5 cs44 fun w46 =>
            ldA 19 w46 a5 fun cs47 =>
            (k (cs47, ((-(1 : Int)), true)) w46)) (
            ldA 19 w30 a1 fun cs48 =>
            ldI .i64 w30 (Addr.add a1 1) fun i49 =>
            pelotonref05_Task_To cs48 i49 w30 fun cs50 w51 =>
            stA 19 w51 a5 cs50 fun w52 =>
            ldA 19 w52 a5 fun cs53 =>
            (k (cs53, (i11, true)) w52))))))
theorem e_pelotonref05_Task_Joined (pelotonref05_is : Array Value → Int → World → ((Bool) → World → Prop) → Prop) (pelotonref05_Task_With : Array Value → Int → Int → World → ((Array Value) → World → Prop) → Prop) (pelotonref05_Task_On : Array Value → World → ((Array Value) → World → Prop) → Prop) (pelotonref05_Task_To : Array Value → Int → World → ((Array Value) → World → Prop) → Prop) (x : KT [.ag, .ag, (.i .i64), (.i .i64)]) (w : World) (k : KT [.ag, (.i .i64), .b] → World → Prop) : evFn Go.Proofs.Try.prog (orcOf [(n_pelotonref05_is, (fun args w c => unL [.ag, (.i .i64)] args fun x => pelotonref05_is x.1 x.2 w fun r w => c (packV (valL [.b] r)) w)), (n_pelotonref05_Task_With, (fun args w c => unL [.ag, (.i .i64), (.i .i64)] args fun x => pelotonref05_Task_With x.1 x.2.1 x.2.2 w fun r w => c (packV (valL [.ag] r)) w)), (n_pelotonref05_Task_On, (fun args w c => unL [.ag] args fun x => pelotonref05_Task_On x w fun r w => c (packV (valL [.ag] r)) w)), (n_pelotonref05_Task_To, (fun args w c => unL [.ag, (.i .i64)] args fun x => pelotonref05_Task_To x.1 x.2 w fun r w => c (packV (valL [.ag] r)) w))]) 1130847752161084 [(5, [(3, (.i .i64))])] Go.Proofs.Try.f47 [.ag, (.i .i64), .b] (valL [.ag, .ag, (.i .i64), (.i .i64)] x) w k = pelotonref05_Task_Joined_b pelotonref05_is pelotonref05_Task_With pelotonref05_Task_On pelotonref05_Task_To x.1 x.2.1 x.2.2.1 x.2.2.2 w k := by kernel_rfl
def pelotonref05_Task_Joined (t_0 : Array Value) (i_1 : Array Value) (kind_2 : Int) (v_3 : Int) (w : World) (k : (Array Value × Int × Bool) → World → Prop) : Prop := pelotonref05_Task_Joined_b pelotonref05_is pelotonref05_Task_With pelotonref05_Task_On pelotonref05_Task_To t_0 i_1 kind_2 v_3 w k
def d_pelotonref05_Task_Joined : Dec := fun args w c => unL [.ag, .ag, (.i .i64), (.i .i64)] args fun x => pelotonref05_Task_Joined x.1 x.2.1 x.2.2.1 x.2.2.2 w fun r w => c (packV (valL [.ag, (.i .i64), .b] r)) w
theorem s_pelotonref05_Task_Joined : Sound Go.Proofs.Try.prog n_pelotonref05_Task_Joined d_pelotonref05_Task_Joined :=
  sound_of (mask := 1130847752161084) (h := [(5, [(3, (.i .i64))])]) (ds := [(n_pelotonref05_is, d_pelotonref05_is), (n_pelotonref05_Task_With, d_pelotonref05_Task_With), (n_pelotonref05_Task_On, d_pelotonref05_Task_On), (n_pelotonref05_Task_To, d_pelotonref05_Task_To)]) mixed Go.Proofs.Try.func47 ⟨s_pelotonref05_is, s_pelotonref05_Task_With, s_pelotonref05_Task_On, s_pelotonref05_Task_To, trivial⟩
    [.ag, .ag, (.i .i64), (.i .i64)] [.ag, (.i .i64), .b] (by kernel_rfl) (fun x w k => pelotonref05_Task_Joined x.1 x.2.1 x.2.2.1 x.2.2.2 w k) (fun x w k => e_pelotonref05_Task_Joined pelotonref05_is pelotonref05_Task_With pelotonref05_Task_On pelotonref05_Task_To x w k)

/-- (peloton/pelotonref05.Task).Closed -/
def pelotonref05_Task_Closed_b (pelotonref05_is : Array Value → Int → World → ((Bool) → World → Prop) → Prop) (pelotonref05_Task_With : Array Value → Int → Int → World → ((Array Value) → World → Prop) → Prop) (pelotonref05_Task_On : Array Value → World → ((Array Value) → World → Prop) → Prop) (t_0 : Array Value) (i_1 : Array Value) (asked_2 : Bool) (w : World) (k : (Array Value) → World → Prop) : Prop :=
  newC w t_0 69 fun a1 w2 =>
  newC w2 i_1 43 fun a3 w4 =>
  newC w4 #[(.int .i64 (0 : Int)), (.int .i64 (0 : Int)), (.int .i64 (0 : Int)), (.int .i64 (0 : Int)), (.int .i64 (0 : Int)), (.int .i64 (0 : Int)), (.int .i64 (0 : Int)), (.int .i64 (0 : Int)), (.int .i64 (0 : Int)), (.int .i64 (0 : Int)), (.int .i64 (0 : Int)), (.int .i64 (0 : Int)), (.int .i64 (0 : Int)), (.int .i64 (0 : Int)), (.int .i64 (0 : Int)), (.int .i64 (0 : Int)), (.int .i64 (0 : Int)), (.int .i64 (0 : Int)), (.int .i64 (0 : Int))] 69 fun a5 w6 =>
  ldA 5 w6 a3 fun cs7 =>
  pelotonref05_is cs7 (12 : Int) w6 fun b8 w9 =>
  iteB (!b8) (
    ldA 19 w9 a1 fun cs10 =>
    stA 19 w9 a5 cs10 fun w11 =>
    ldA 19 w11 a5 fun cs12 =>
    (k cs12 w11)) (
    iteB asked_2 (
      ldA 19 w9 a1 fun cs13 =>
      ldI .i64 w9 (Addr.add a3 1) fun i14 =>
      pelotonref05_Task_With cs13 i14 (1 : Int) w9 fun cs15 w16 =>
      pelotonref05_Task_On cs15 w16 fun cs17 w18 =>
      stA 19 w18 a5 cs17 fun w19 =>
      ldA 19 w19 a5 fun cs20 =>
      (k cs20 w19)) (
      ldA 19 w9 a1 fun cs21 =>
      ldI .i64 w9 (Addr.add a3 1) fun i22 =>
      pelotonref05_Task_With cs21 i22 (0 : Int) w9 fun cs23 w24 =>
      pelotonref05_Task_On cs23 w24 fun cs25 w26 =>
      stA 19 w26 a5 cs25 fun w27 =>
      ldA 19 w27 a5 fun cs28 =>
      (k cs28 w27)))
theorem e_pelotonref05_Task_Closed (pelotonref05_is : Array Value → Int → World → ((Bool) → World → Prop) → Prop) (pelotonref05_Task_With : Array Value → Int → Int → World → ((Array Value) → World → Prop) → Prop) (pelotonref05_Task_On : Array Value → World → ((Array Value) → World → Prop) → Prop) (x : KT [.ag, .ag, .b]) (w : World) (k : KT [.ag] → World → Prop) : evFn Go.Proofs.Try.prog (orcOf [(n_pelotonref05_is, (fun args w c => unL [.ag, (.i .i64)] args fun x => pelotonref05_is x.1 x.2 w fun r w => c (packV (valL [.b] r)) w)), (n_pelotonref05_Task_With, (fun args w c => unL [.ag, (.i .i64), (.i .i64)] args fun x => pelotonref05_Task_With x.1 x.2.1 x.2.2 w fun r w => c (packV (valL [.ag] r)) w)), (n_pelotonref05_Task_On, (fun args w c => unL [.ag] args fun x => pelotonref05_Task_On x w fun r w => c (packV (valL [.ag] r)) w))]) 2652 [] Go.Proofs.Try.f49 [.ag] (valL [.ag, .ag, .b] x) w k = pelotonref05_Task_Closed_b pelotonref05_is pelotonref05_Task_With pelotonref05_Task_On x.1 x.2.1 x.2.2 w k := by kernel_rfl
def pelotonref05_Task_Closed (t_0 : Array Value) (i_1 : Array Value) (asked_2 : Bool) (w : World) (k : (Array Value) → World → Prop) : Prop := pelotonref05_Task_Closed_b pelotonref05_is pelotonref05_Task_With pelotonref05_Task_On t_0 i_1 asked_2 w k
def d_pelotonref05_Task_Closed : Dec := fun args w c => unL [.ag, .ag, .b] args fun x => pelotonref05_Task_Closed x.1 x.2.1 x.2.2 w fun r w => c (packV (valL [.ag] r)) w
theorem s_pelotonref05_Task_Closed : Sound Go.Proofs.Try.prog n_pelotonref05_Task_Closed d_pelotonref05_Task_Closed :=
  sound_of (mask := 2652) (h := []) (ds := [(n_pelotonref05_is, d_pelotonref05_is), (n_pelotonref05_Task_With, d_pelotonref05_Task_With), (n_pelotonref05_Task_On, d_pelotonref05_Task_On)]) mixed Go.Proofs.Try.func49 ⟨s_pelotonref05_is, s_pelotonref05_Task_With, s_pelotonref05_Task_On, trivial⟩
    [.ag, .ag, .b] [.ag] (by kernel_rfl) (fun x w k => pelotonref05_Task_Closed x.1 x.2.1 x.2.2 w k) (fun x w k => e_pelotonref05_Task_Closed pelotonref05_is pelotonref05_Task_With pelotonref05_Task_On x w k)

/-- (*peloton/pelotonref06.Machine).step -/
def pelotonref06_Machine_step_b (pelotonref06_Machine_top : Option Addr → World → ((Option Addr) → World → Prop) → Prop) (pelotonref02_Point : Int → World → ((Bool) → World → Prop) → Prop) (pelotonref06_Machine_ends : Option Addr → Int → Int → World → (Unit → World → Prop) → Prop) (pelotonref05_Task_Plain : Array Value → Array Value → World → ((Array Value × Bool) → World → Prop) → Prop) (pelotonref05_Task_Child : Array Value → Int → Int → World → ((Array Value) → World → Prop) → Prop) (pelotonref06_Machine_cancelled : Option Addr → World → ((Bool) → World → Prop) → Prop) (pelotonref06_Machine_add : Option Addr → Array Value → Int → Int → Bool → Int → Array Value → World → (Unit → World → Prop) → Prop) (pelotonref05_Task_Joined : Array Value → Array Value → Int → Int → World → ((Array Value × Int × Bool) → World → Prop) → Prop) (pelotonref05_Task_On : Array Value → World → ((Array Value) → World → Prop) → Prop) (pelotonref05_Task_Closed : Array Value → Array Value → Bool → World → ((Array Value) → World → Prop) → Prop) (m_0 : Option Addr) (w : World) (k : Unit → World → Prop) : Prop :=
  pelotonref06_Machine_top m_0 w fun p1 w2 =>
  drew w2 fun w3 =>
  nn m_0 fun a4 =>
  ldS w3 (Addr.add (Addr.add a4 0) 0) fun s5 =>
  nn p1 fun a6 =>
  ldI .i64 w3 (Addr.add (Addr.add a6 0) 0) fun i7 =>
  ixS s5 i7 2 fun a8 =>
  ldS w3 (Addr.add a8 1) fun s9 =>
  nn p1 fun a10 =>
  ldI .i64 w3 (Addr.add (Addr.add a10 0) 1) fun i11 =>
  ixS s9 i11 5 fun a12 =>
  ldA 5 w3 a12 fun cs13 =>
  newC w3 #[(.int .i64 (0 : Int)), (.int .i64 (0 : Int)), (.int .i64 (0 : Int)), (.int .i64 (0 : Int)), (.int .i64 (0 : Int))] 43 fun a14 w15 =>
  samec 5 a12 w3 w15 (
  samec 1 (Addr.add (Addr.add a10 0) 1) w3 w15 (
  samec 1 (Addr.add a8 1) w3 w15 (
  samec 1 (Addr.add (Addr.add a6 0) 0) w3 w15 (
  samec 1 (Addr.add (Addr.add a4 0) 0) w3 w15 (
  stA 5 w15 a14 cs13 fun w16 =>
  joinP (S := Bool) (fun J17 =>
    nn p1 fun a18 =>
    ldB w16 (Addr.add a18 23) fun b19 =>
    iteB b19 (
      nn p1 fun a20 =>
      ldI .i64 w16 (Addr.add (Addr.add a20 0) 18) fun i21 =>
      iteB (i21 == (0 : Int)) (
        (J17 true w16)) (
        ldI .i64 w16 (Addr.add a14 0) fun i22 =>
        pelotonref02_Point i22 w16 fun b23 w24 =>
        (J17 b23 w24))) (
      (J17 false w16))) fun b25 w26 =>
  iteB b25 (
    pelotonref06_Machine_ends m_0 (4 : Int) (0 : Int) w26 fun _u w27 =>
    (k () w27)) (
    drew w26 fun w28 =>
    nn p1 fun a29 =>
    ldS w28 (Addr.add a29 20) fun s30 =>
    nn p1 fun a31 =>
    ldS w28 (Addr.add a31 20) fun s32 =>
    ixS s30 (IntKind.wrap .i64 (((s32.n : Nat) : Int) - (1 : Int))) 2 fun a33 =>
    ldA 2 w28 a33 fun cs34 =>
    newC w28 #[(.bool false), (.int .i64 (0 : Int))] 86 fun a35 w36 =>
    samec 2 a33 w28 w36 (
    samec 1 (Addr.add a31 20) w28 w36 (
    samec 1 (Addr.add a29 20) w28 w36 (
    stA 2 w36 a35 cs34 fun w37 =>
    drew w37 fun w38 =>
    nn m_0 fun a39 =>
    ldI .i64 w38 (Addr.add a39 3) fun i40 =>
    nn m_0 fun a41 =>
    ldI .i64 w38 (Addr.add a41 4) fun i42 =>
    iteB (decide (i40 ≥ i42)) (
      nn m_0 fun a43 =>
      stC w38 (Addr.add a43 5) (.int .i64 (22 : Int)) fun w44 =>
      (k () w44)) (
      joinP (S := Bool) (fun J45 =>
        ldI .i64 w38 (Addr.add a14 0) fun i46 =>
        iteB (i46 == (8 : Int)) (
          ldI .i64 w38 (Addr.add a35 1) fun i47 =>
          (J45 (decide ((IntKind.wrap .i64 (i47 + (1 : Int))) > (32 : Int))) w38)) (
          ldI .i64 w38 (Addr.add a14 0) fun i48 =>
          iteB (i48 == (11 : Int)) (
            ldI .i64 w38 (Addr.add a35 1) fun i49 =>
            (J45 (decide ((IntKind.wrap .i64 (i49 + (1 : Int))) > (32 : Int))) w38)) (
            (J45 false w38)))) fun b50 w51 =>
      iteB b50 (
        nn m_0 fun a52 =>
        stC w51 (Addr.add a52 5) (.int .i64 (23 : Int)) fun w53 =>
        (k () w53)) (
        nn m_0 fun a54 =>
        ldI .i64 w51 (Addr.add a54 3) fun i55 =>
        nn m_0 fun a56 =>
        stC w51 (Addr.add a56 3) (.int .i64 (IntKind.wrap .i64 (i55 + (1 : Int)))) fun w57 =>
        joinP (S := (Addr × Bool)) (fun J58 =>
          drew w57 fun w59 =>
          nn p1 fun a60 =>
          ldA 19 w59 (Addr.add a60 0) fun cs61 =>
          ldA 5 w59 a14 fun cs62 =>
          both (
            pelotonref05_Task_Plain cs61 cs62 w59 fun x63 w64 =>
            newC w64 #[(.int .i64 (0 : Int)), (.int .i64 (0 : Int)), (.int .i64 (0 : Int)), (.int .i64 (0 : Int)), (.int .i64 (0 : Int)), (.int .i64 (0 : Int)), (.int .i64 (0 : Int)), (.int .i64 (0 : Int)), (.int .i64 (0 : Int)), (.int .i64 (0 : Int)), (.int .i64 (0 : Int)), (.int .i64 (0 : Int)), (.int .i64 (0 : Int)), (.int .i64 (0 : Int)), (.int .i64 (0 : Int)), (.int .i64 (0 : Int)), (.int .i64 (0 : Int)), (.int .i64 (0 : Int)), (.int .i64 (0 : Int))] 69 fun a65 w66 =>
            samec 5 a14 w59 w66 (
            samec 19 (Addr.add a60 0) w59 w66 (
            stA 19 w66 a65 (x63.1, x63.2).1 fun w67 =>
            (J58 (a65, (x63.1, x63.2).2) w67)))) (
            newC w59 #[(.int .i64 (0 : Int)), (.int .i64 (0 : Int)), (.int .i64 (0 : Int)), (.int .i64 (0 : Int)), (.int .i64 (0 : Int)), (.int .i64 (0 : Int)), (.int .i64 (0 : Int)), (.int .i64 (0 : Int)), (.int .i64 (0 : Int)), (.int .i64 (0 : Int)), (.int .i64 (0 : Int)), (.int .i64 (0 : Int)), (.int .i64 (0 : Int)), (.int .i64 (0 : Int)), (.int .i64 (0 : Int)), (.int .i64 (0 : Int)), (.int .i64 (0 : Int)), (.int .i64 (0 : Int)), (.int .i64 (0 : Int))] 69 fun a68 w69 =>
            samec 5 a14 w59 w69 (
            samec 19 (Addr.add a60 0) w59 w69 (
            pelotonref05_Task_Plain cs61 cs62 w69 fun x70 w71 =>
            stA 19 w71 a68 (x70.1, x70.2).1 fun w72 =>
            (J58 (a68, (x70.1, x70.2).2) w72))))) fun x73 w74 =>
        iteB x73.2 (
          ldA 19 w74 x73.1 fun cs75 =>
          nn p1 fun a76 =>
          stA 19 w74 (Addr.add a76 0) cs75 fun w77 =>
          (k () w77)) (
          ldI .i64 w74 (Addr.add a14 0) fun i78 =>
          iteB (i78 == (8 : Int)) (
            drew w74 fun w79 =>
            nn p1 fun a80 =>
            ldA 19 w79 (Addr.add a80 0) fun cs81 =>
            ldI .i64 w79 (Addr.add a14 4) fun i82 =>
            nn m_0 fun a83 =>
            ldS w79 (Addr.add (Addr.add a83 0) 0) fun s84 =>
            ldI .i64 w79 (Addr.add a14 4) fun i85 =>
            ixS s84 i85 2 fun a86 =>
            ldI .i64 w79 (Addr.add a86 0) fun i87 =>
            nn p1 fun a88 =>
            ldI .i64 w79 (Addr.add a88 19) fun i89 =>
            nn p1 fun a90 =>
            ldS w79 (Addr.add a90 21) fun s91 =>
            nn p1 fun a92 =>
            ldS w79 (Addr.add a92 21) fun s93 =>
            ixS s91 (IntKind.wrap .i64 (((s93.n : Nat) : Int) - (1 : Int))) 1 fun a94 =>
            ldI .i64 w79 a94 fun i95 =>
            ldI .i64 w79 (Addr.add a35 1) fun i96 =>
            ldA 5 w79 a14 fun cs97 =>
            pelotonref05_Task_Child cs81 i82 i87 w79 fun cs98 w99 =>
            samec 5 a14 w79 w99 (
            samec 1 (Addr.add a35 1) w79 w99 (
            samec 1 a94 w79 w99 (
            samec 1 (Addr.add a92 21) w79 w99 (
            samec 1 (Addr.add a90 21) w79 w99 (
            samec 1 (Addr.add a88 19) w79 w99 (
            pelotonref06_Machine_cancelled m_0 w99 fun b100 w101 =>
            samec 5 a14 w79 w101 (
            samec 1 (Addr.add a35 1) w79 w101 (
            samec 1 a94 w79 w101 (
            samec 1 (Addr.add a92 21) w79 w101 (
            samec 1 (Addr.add a90 21) w79 w101 (
            samec 1 (Addr.add a88 19) w79 w101 (
            pelotonref06_Machine_add m_0 cs98 i89 i95 b100 i96 cs97 w101 fun _u w102 =>
            (k () w102)))))))))))))) (
            joinP (S := Bool) (fun J103 =>
              iteB (i78 == (9 : Int)) (
                (J103 (i78 == (9 : Int)) w74)) (
                (J103 (i78 == (10 : Int)) w74))) fun b104 w105 =>
            iteB b104 (
              drew w105 fun w106 =>
              ldI .i64 w106 (Addr.add a14 2) fun i107 =>
              nn p1 fun a108 =>
              ixP (Addr.add (Addr.add a108 0) 10) 8 i107 1 fun a109 =>
              ldI .i64 w106 a109 fun i110 =>
              ldI .i64 w106 (Addr.add a14 0) fun i111 =>
              joinP (S := Int) (fun J112 =>
                iteB (i111 == (10 : Int)) (
                  drew w106 fun w113 =>
                  ldI .i64 w113 (Addr.add a14 3) fun i114 =>
                  nn p1 fun a115 =>
                  ixP (Addr.add (Addr.add a115 0) 10) 8 i114 1 fun a116 =>
                  ldI .i64 w113 a116 fun i117 =>
                  (J112 i117 w113)) (
                  (J112 i110 w106))) fun i118 w119 =>
              joinP (S := (Addr × (Int × Bool))) (fun J120 =>
                drew w119 fun w121 =>
                nn p1 fun a122 =>
                ldA 19 w121 (Addr.add a122 0) fun cs123 =>
                ldA 5 w121 a14 fun cs124 =>
                nn m_0 fun a125 =>
                ldS w121 (Addr.add a125 2) fun s126 =>
                ixS s126 i118 7 fun a127 =>
                ldI .i64 w121 (Addr.add a127 3) fun i128 =>
                nn m_0 fun a129 =>
                ldS w121 (Addr.add a129 2) fun s130 =>
                ixS s130 i118 7 fun a131 =>
                ldI .i64 w121 (Addr.add a131 4) fun i132 =>
                both (
                  pelotonref05_Task_Joined cs123 cs124 i128 i132 w121 fun x133 w134 =>
                  newC w134 #[(.int .i64 (0 : Int)), (.int .i64 (0 : Int)), (.int .i64 (0 : Int)), (.int .i64 (0 : Int)), (.int .i64 (0 : Int)), (.int .i64 (0 : Int)), (.int .i64 (0 : Int)), (.int .i64 (0 : Int)), (.int .i64 (0 : Int)), (.int .i64 (0 : Int)), (.int .i64 (0 : Int)), (.int .i64 (0 : Int)), (.int .i64 (0 : Int)), (.int .i64 (0 : Int)), (.int .i64 (0 : Int)), (.int .i64 (0 : Int)), (.int .i64 (0 : Int)), (.int .i64 (0 : Int)), (.int .i64 (0 : Int))] 69 fun a135 w136 =>
                  samec 1 (Addr.add a131 4) w121 w136 (
                  samec 1 (Addr.add a129 2) w121 w136 (
                  samec 1 (Addr.add a127 3) w121 w136 (
                  samec 1 (Addr.add a125 2) w121 w136 (
                  samec 5 a14 w121 w136 (
                  samec 19 (Addr.add a122 0) w121 w136 (
                  stA 19 w136 a135 (x133.1, (x133.2.1, x133.2.2)).1 fun w137 =>
                  (J120 (a135, ((x133.1, (x133.2.1, x133.2.2)).2.1, (x133.1, (x133.2.1, x133.2.2)).2.2)) w137)))))))) (
                  newC w121 #[(.int .i64 (0 : Int)), (.int .i64 (0 : Int)), (.int .i64 (0 : Int)), (.int .i64 (0 : Int)), (.int .i64 (0 : Int)), (.int .i64 (0 : Int)), (.int .i64 (0 : Int)), (.int .i64 (0 : Int)), (.int .i64 (0 : Int)), (.int .i64 (0 : Int)), (.int .i64 (0 : Int)), (.int .i64 (0 : Int)), (.int .i64 (0 : Int)), (.int .i64 (0 : Int)), (.int .i64 (0 : Int)), (.int .i64 (0 : Int)), (.int .i64 (0 : Int)), (.int .i64 (0 : Int)), (.int .i64 (0 : Int))] 69 fun a138 w139 =>
                  samec 1 (Addr.add a131 4) w121 w139 (
                  samec 1 (Addr.add a129 2) w121 w139 (
                  samec 1 (Addr.add a127 3) w121 w139 (
                  samec 1 (Addr.add a125 2) w121 w139 (
                  samec 5 a14 w121 w139 (
                  samec 19 (Addr.add a122 0) w121 w139 (
                  pelotonref05_Task_Joined cs123 cs124 i128 i132 w139 fun x140 w141 =>
                  stA 19 w141 a138 (x140.1, (x140.2.1, x140.2.2)).1 fun w142 =>
                  (J120 (a138, ((x140.1, (x140.2.1, x140.2.2)).2.1, (x140.1, (x140.2.1, x140.2.2)).2.2)) w142))))))))) fun x143 w144 =>
              ldA 19 w144 x143.1 fun cs145 =>
              nn p1 fun a146 =>
              stA 19 w144 (Addr.add a146 0) cs145 fun w147 =>
              iteB x143.2.2 (
                pelotonref06_Machine_ends m_0 (3 : Int) x143.2.1 w147 fun _u w148 =>
                (k () w148)) (
                (k () w147))) (
              iteB (i78 == (11 : Int)) (
                nn p1 fun a149 =>
                ldI .i64 w105 (Addr.add a149 22) fun i150 =>
                nn p1 fun a151 =>
                stC w105 (Addr.add a151 22) (.int .i64 (IntKind.wrap .i64 (i150 + (1 : Int)))) fun w152 =>
                drew w152 fun w153 =>
                nn p1 fun a154 =>
                ldS w153 (Addr.add a154 20) fun s155 =>
                ldI .i64 w153 (Addr.add a35 1) fun i156 =>
                samec 1 (Addr.add a154 20) w153 w153 (
                spl #[(.bool false), (.int .i64 (0 : Int))] 0 2 #[(.bool false), (.int .i64 (IntKind.wrap .i64 (i156 + (1 : Int))))] fun cs157 =>
                newC w153 cs157 86 fun a158 w159 =>
                samec 1 (Addr.add a154 20) w153 w159 (
                bApp Go.Proofs.Try.prog #[87, 87] 87 [(.slice s155.a s155.n s155.c), (.slice (some a158) 1 1)] w159 fun s160 w161 =>
                nn p1 fun a162 =>
                stC w161 (Addr.add a162 20) (.slice s160.a s160.n s160.c) fun w163 =>
                drew w163 fun w164 =>
                nn p1 fun a165 =>
                ldS w164 (Addr.add a165 21) fun s166 =>
                nn p1 fun a167 =>
                ldI .i64 w164 (Addr.add a167 22) fun i168 =>
                newC w164 #[(.int .i64 i168)] 3 fun a169 w170 =>
                samec 1 (Addr.add a165 21) w164 w170 (
                bApp Go.Proofs.Try.prog #[88, 88] 88 [(.slice s166.a s166.n s166.c), (.slice (some a169) 1 1)] w170 fun s171 w172 =>
                nn p1 fun a173 =>
                stC w172 (Addr.add a173 21) (.slice s171.a s171.n s171.c) fun w174 =>
                nn p1 fun a175 =>
                ldA 19 w174 (Addr.add a175 0) fun cs176 =>
                pelotonref05_Task_On cs176 w174 fun cs177 w178 =>
                nn p1 fun a179 =>
                stA 19 w178 (Addr.add a179 0) cs177 fun w180 =>
                (k () w180))))) (
                iteB (i78 == (12 : Int)) (
                  ldB w105 (Addr.add a35 0) fun b181 =>
                  joinP (S := ByteArray) (fun J182 =>
                    iteB b181 (
                      (J182 (ByteArray.mk #[49]) w105)) (
                      (J182 (ByteArray.mk #[48]) w105))) fun t183 w184 =>
                  drew w184 fun w185 =>
                  nn m_0 fun a186 =>
                  ldS w185 (Addr.add a186 2) fun s187 =>
                  nn p1 fun a188 =>
                  ldI .i64 w185 (Addr.add a188 19) fun i189 =>
                  nn m_0 fun a190 =>
                  ldS w185 (Addr.add a190 2) fun s191 =>
                  nn p1 fun a192 =>
                  ldI .i64 w185 (Addr.add a192 19) fun i193 =>
                  ixS s191 i193 7 fun a194 =>
                  ldStr w185 (Addr.add a194 6) fun t195 =>
                  ((((((ByteArray.size t195) + (ByteArray.size t183)) : Nat) : Int) ≤ (9223372036854775807 : Int))) ∧ (
                    ixS s187 i189 7 fun a196 =>
                    stC w185 (Addr.add a196 6) (.string (t195 ++ t183)) fun w197 =>
                    drew w197 fun w198 =>
                    nn p1 fun a199 =>
                    ldA 19 w198 (Addr.add a199 0) fun cs200 =>
                    ldA 5 w198 a14 fun cs201 =>
                    ldB w198 (Addr.add a35 0) fun b202 =>
                    pelotonref05_Task_Closed cs200 cs201 b202 w198 fun cs203 w204 =>
                    nn p1 fun a205 =>
                    stA 19 w204 (Addr.add a205 0) cs203 fun w206 =>
                    drew w206 fun w207 =>
                    nn p1 fun a208 =>
                    ldS w207 (Addr.add a208 20) fun s209 =>
                    nn p1 fun a210 =>
                    ldS w207 (Addr.add a210 20) fun s211 =>
                    slS s209 2 (0 : Int) (IntKind.wrap .i64 (((s211.n : Nat) : Int) - (1 : Int))) fun s212 =>
                    nn p1 fun a213 =>
                    stC w207 (Addr.add a213 20) (.slice s212.a s212.n s212.c) fun w214 =>
                    drew w214 fun w215 =>
                    nn p1 fun a216 =>
                    ldS w215 (Addr.add a216 21) fun s217 =>
                    nn p1 fun a218 =>
                    ldS w215 (Addr.add a218 21) fun s219 =>
                    slS s217 1 (0 : Int) (IntKind.wrap .i64 (((s219.n : Nat) : Int) - (1 : Int))) fun s220 =>
                    nn p1 fun a221 =>
                    stC w215 (Addr.add a221 21) (.slice s220.a s220.n s220.c) fun w222 =>
                    (k () w222))) (
                  iteB (i78 == (13 : Int)) (
                    drew w105 fun w223 =>
                    nn p1 fun a224 =>
                    ldS w223 (Addr.add a224 20) fun s225 =>
                    nn p1 fun a226 =>
                    ldS w223 (Addr.add a226 20) fun s227 =>
                    ixS s225 (IntKind.wrap .i64 (((s227.n : Nat) : Int) - (1 : Int))) 2 fun a228 =>
                    stC w223 (Addr.add a228 0) (.bool true) fun w229 =>
                    nn p1 fun a230 =>
                    ldA 19 w229 (Addr.add a230 0) fun cs231 =>
                    pelotonref05_Task_On cs231 w229 fun cs232 w233 =>
                    nn p1 fun a234 =>
                    stA 19 w233 (Addr.add a234 0) cs232 fun w235 =>
                    (k () w235)) (
                    iteB (i78 == (14 : Int)) (
                      nn p1 fun a236 =>
                      ldA 19 w105 (Addr.add a236 0) fun cs237 =>
                      pelotonref05_Task_On cs237 w105 fun cs238 w239 =>
                      nn p1 fun a240 =>
                      stA 19 w239 (Addr.add a240 0) cs238 fun w241 =>
                      (k () w241)) (
                      iteB (i78 == (15 : Int)) (
                        nn p1 fun a242 =>
                        ldA 19 w105 (Addr.add a242 0) fun cs243 =>
                        pelotonref05_Task_On cs243 w105 fun cs244 w245 =>
                        nn p1 fun a246 =>
                        stA 19 w245 (Addr.add a246 0) cs244 fun w247 =>
                        drew w247 fun w248 =>
                        ldI .i64 w248 (Addr.add a14 1) fun i249 =>
                        nn p1 fun a250 =>
                        ixP (Addr.add (Addr.add a250 0) 2) 8 i249 1 fun a251 =>
                        ldI .i64 w248 a251 fun i252 =>
                        pelotonref06_Machine_ends m_0 (3 : Int) i252 w248 fun _u w253 =>
                        (k () w253)) (
                        nn p1 fun a254 =>
                        ldA 19 w105 (Addr.add a254 0) fun cs255 =>
                        pelotonref05_Task_On cs255 w105 fun cs256 w257 =>
                        nn p1 fun a258 =>
                        stA 19 w257 (Addr.add a258 0) cs256 fun w259 =>
                        drew w259 fun w260 =>
                        ldI .i64 w260 (Addr.add a14 1) fun i261 =>
                        nn p1 fun a262 =>
                        ixP (Addr.add (Addr.add a262 0) 2) 8 i261 1 fun a263 =>
                        ldI .i64 w260 a263 fun i264 =>
                        pelotonref06_Machine_ends m_0 (2 : Int) i264 w260 fun _u w265 =>
                        (k () w265))))))))))))))))))))
theorem e_pelotonref06_Machine_step (pelotonref06_Machine_top : Option Addr → World → ((Option Addr) → World → Prop) → Prop) (pelotonref02_Point : Int → World → ((Bool) → World → Prop) → Prop) (pelotonref06_Machine_ends : Option Addr → Int → Int → World → (Unit → World → Prop) → Prop) (pelotonref05_Task_Plain : Array Value → Array Value → World → ((Array Value × Bool) → World → Prop) → Prop) (pelotonref05_Task_Child : Array Value → Int → Int → World → ((Array Value) → World → Prop) → Prop) (pelotonref06_Machine_cancelled : Option Addr → World → ((Bool) → World → Prop) → Prop) (pelotonref06_Machine_add : Option Addr → Array Value → Int → Int → Bool → Int → Array Value → World → (Unit → World → Prop) → Prop) (pelotonref05_Task_Joined : Array Value → Array Value → Int → Int → World → ((Array Value × Int × Bool) → World → Prop) → Prop) (pelotonref05_Task_On : Array Value → World → ((Array Value) → World → Prop) → Prop) (pelotonref05_Task_Closed : Array Value → Array Value → Bool → World → ((Array Value) → World → Prop) → Prop) (x : KT [.p]) (w : World) (k : KT [] → World → Prop) : evFn Go.Proofs.Try.prog (orcOf [(n_pelotonref06_Machine_top, (fun args w c => unL [.p] args fun x => pelotonref06_Machine_top x w fun r w => c (packV (valL [.p] r)) w)), (n_pelotonref02_Point, (fun args w c => unL [(.i .i64)] args fun x => pelotonref02_Point x w fun r w => c (packV (valL [.b] r)) w)), (n_pelotonref06_Machine_ends, (fun args w c => unL [.p, (.i .i64), (.i .i64)] args fun x => pelotonref06_Machine_ends x.1 x.2.1 x.2.2 w fun r w => c (packV (valL [] r)) w)), (n_pelotonref05_Task_Plain, (fun args w c => unL [.ag, .ag] args fun x => pelotonref05_Task_Plain x.1 x.2 w fun r w => c (packV (valL [.ag, .b] r)) w)), (n_pelotonref05_Task_Child, (fun args w c => unL [.ag, (.i .i64), (.i .i64)] args fun x => pelotonref05_Task_Child x.1 x.2.1 x.2.2 w fun r w => c (packV (valL [.ag] r)) w)), (n_pelotonref06_Machine_cancelled, (fun args w c => unL [.p] args fun x => pelotonref06_Machine_cancelled x w fun r w => c (packV (valL [.b] r)) w)), (n_pelotonref06_Machine_add, (fun args w c => unL [.p, .ag, (.i .i64), (.i .i64), .b, (.i .i64), .ag] args fun x => pelotonref06_Machine_add x.1 x.2.1 x.2.2.1 x.2.2.2.1 x.2.2.2.2.1 x.2.2.2.2.2.1 x.2.2.2.2.2.2 w fun r w => c (packV (valL [] r)) w)), (n_pelotonref05_Task_Joined, (fun args w c => unL [.ag, .ag, (.i .i64), (.i .i64)] args fun x => pelotonref05_Task_Joined x.1 x.2.1 x.2.2.1 x.2.2.2 w fun r w => c (packV (valL [.ag, (.i .i64), .b] r)) w)), (n_pelotonref05_Task_On, (fun args w c => unL [.ag] args fun x => pelotonref05_Task_On x w fun r w => c (packV (valL [.ag] r)) w)), (n_pelotonref05_Task_Closed, (fun args w c => unL [.ag, .ag, .b] args fun x => pelotonref05_Task_Closed x.1 x.2.1 x.2.2 w fun r w => c (packV (valL [.ag] r)) w))]) 38516098366449843906098698630667647623111958183186212122643914752360024072003130386721640554001754130854126292989 [(2, [(50, .b)]), (9, [(90, .b)]), (13, [(5, .a), (6, .b)]), (23, [(177, .b)]), (28, [(7, (.i .i64))]), (30, [(8, .a), (9, (.i .i64)), (10, .b)]), (45, [(11, .str)])] Go.Proofs.Try.f25 [] (valL [.p] x) w k = pelotonref06_Machine_step_b pelotonref06_Machine_top pelotonref02_Point pelotonref06_Machine_ends pelotonref05_Task_Plain pelotonref05_Task_Child pelotonref06_Machine_cancelled pelotonref06_Machine_add pelotonref05_Task_Joined pelotonref05_Task_On pelotonref05_Task_Closed x w k := by kernel_rfl
def pelotonref06_Machine_step (m_0 : Option Addr) (w : World) (k : Unit → World → Prop) : Prop := pelotonref06_Machine_step_b pelotonref06_Machine_top pelotonref02_Point pelotonref06_Machine_ends pelotonref05_Task_Plain pelotonref05_Task_Child pelotonref06_Machine_cancelled pelotonref06_Machine_add pelotonref05_Task_Joined pelotonref05_Task_On pelotonref05_Task_Closed m_0 w k
def d_pelotonref06_Machine_step : Dec := fun args w c => unL [.p] args fun x => pelotonref06_Machine_step x w fun r w => c (packV (valL [] r)) w
theorem s_pelotonref06_Machine_step : Sound Go.Proofs.Try.prog n_pelotonref06_Machine_step d_pelotonref06_Machine_step :=
  sound_of (mask := 38516098366449843906098698630667647623111958183186212122643914752360024072003130386721640554001754130854126292989) (h := [(2, [(50, .b)]), (9, [(90, .b)]), (13, [(5, .a), (6, .b)]), (23, [(177, .b)]), (28, [(7, (.i .i64))]), (30, [(8, .a), (9, (.i .i64)), (10, .b)]), (45, [(11, .str)])]) (ds := [(n_pelotonref06_Machine_top, d_pelotonref06_Machine_top), (n_pelotonref02_Point, d_pelotonref02_Point), (n_pelotonref06_Machine_ends, d_pelotonref06_Machine_ends), (n_pelotonref05_Task_Plain, d_pelotonref05_Task_Plain), (n_pelotonref05_Task_Child, d_pelotonref05_Task_Child), (n_pelotonref06_Machine_cancelled, d_pelotonref06_Machine_cancelled), (n_pelotonref06_Machine_add, d_pelotonref06_Machine_add), (n_pelotonref05_Task_Joined, d_pelotonref05_Task_Joined), (n_pelotonref05_Task_On, d_pelotonref05_Task_On), (n_pelotonref05_Task_Closed, d_pelotonref05_Task_Closed)]) mixed Go.Proofs.Try.func25 ⟨s_pelotonref06_Machine_top, s_pelotonref02_Point, s_pelotonref06_Machine_ends, s_pelotonref05_Task_Plain, s_pelotonref05_Task_Child, s_pelotonref06_Machine_cancelled, s_pelotonref06_Machine_add, s_pelotonref05_Task_Joined, s_pelotonref05_Task_On, s_pelotonref05_Task_Closed, trivial⟩
    [.p] [] (by kernel_rfl) (fun x w k => pelotonref06_Machine_step x w k) (fun x w k => e_pelotonref06_Machine_step pelotonref06_Machine_top pelotonref02_Point pelotonref06_Machine_ends pelotonref05_Task_Plain pelotonref05_Task_Child pelotonref06_Machine_cancelled pelotonref06_Machine_add pelotonref05_Task_Joined pelotonref05_Task_On pelotonref05_Task_Closed x w k)

/-- peloton/pelotonref06.Run -/
def pelotonref06_Run_b (pelotonref04_Accepts : Array Value → World → ((Bool) → World → Prop) → Prop) (pelotonref05_Root : World → ((Array Value) → World → Prop) → Prop) (pelotonref06_Machine_add : Option Addr → Array Value → Int → Int → Bool → Int → Array Value → World → (Unit → World → Prop) → Prop) (pelotonref06_Machine_step : Option Addr → World → (Unit → World → Prop) → Prop) (p_0 : Array Value) (fuel_1 : Int) (w : World) (k : (Sl × Int × Int) → World → Prop) : Prop :=
  newC w p_0 24 fun a1 w2 =>
  ldA 1 w2 a1 fun cs3 =>
  pelotonref04_Accepts cs3 w2 fun b4 w5 =>
  iteB (!b4) (
    (k ((Sl.mk none 0 0), ((0 : Int), (24 : Int))) w5)) (
    iteB ((decide (fuel_1 < (0 : Int))) || (decide (fuel_1 > (1048576 : Int)))) (
      (k ((Sl.mk none 0 0), ((0 : Int), (10 : Int))) w5)) (
      ldA 1 w5 a1 fun cs6 =>
      spl #[(.slice none 0 0), (.slice none 0 0), (.slice none 0 0), (.int .i64 (0 : Int)), (.int .i64 (0 : Int)), (.int .i64 (0 : Int))] 0 1 cs6 fun cs7 =>
      newC w5 (Array.setIfInBounds cs7 4 (.int .i64 fuel_1)) 67 fun a8 w9 =>
      pelotonref05_Root  w9 fun cs10 w11 =>
      pelotonref06_Machine_add (some a8) cs10 (-(1 : Int)) (0 : Int) false (0 : Int) #[(.int .i64 (0 : Int)), (.int .i64 (0 : Int)), (.int .i64 (0 : Int)), (.int .i64 (0 : Int)), (.int .i64 (0 : Int))] w11 fun _u w12 =>
      joinP (S := Unit) (fun J13 =>
        loopP (S := Unit) (fun C14 u15 w16 =>
          joinP (S := Bool) (fun J17 =>
            ldS w16 (Addr.add a8 1) fun s18 =>
            iteB (decide (((s18.n : Nat) : Int) > (0 : Int))) (
              ldI .i64 w16 (Addr.add a8 5) fun i19 =>
              (J17 (i19 == (0 : Int)) w16)) (
              (J17 false w16))) fun b20 w21 =>
          iteB b20 (
            pelotonref06_Machine_step (some a8) w21 fun _u w22 =>
            (C14 () w22)) (
            (J13 () w21))) () w12) fun u23 w24 =>
      ldI .i64 w24 (Addr.add a8 5) fun i25 =>
      iteB (i25 != (0 : Int)) (
        drew w24 fun w26 =>
        ldI .i64 w26 (Addr.add a8 5) fun i27 =>
        (k ((Sl.mk none 0 0), ((0 : Int), i27)) w26)) (
        drew w24 fun w28 =>
        ldS w28 (Addr.add a8 2) fun s29 =>
        ldI .i64 w28 (Addr.add a8 3) fun i30 =>
        (k (s29, (i30, (0 : Int))) w28))))
theorem e_pelotonref06_Run (pelotonref04_Accepts : Array Value → World → ((Bool) → World → Prop) → Prop) (pelotonref05_Root : World → ((Array Value) → World → Prop) → Prop) (pelotonref06_Machine_add : Option Addr → Array Value → Int → Int → Bool → Int → Array Value → World → (Unit → World → Prop) → Prop) (pelotonref06_Machine_step : Option Addr → World → (Unit → World → Prop) → Prop) (x : KT [.ag, (.i .i64)]) (w : World) (k : KT [.s, (.i .i64), (.i .i64)] → World → Prop) : evFn Go.Proofs.Try.prog (orcOf [(n_pelotonref04_Accepts, (fun args w c => unL [.ag] args fun x => pelotonref04_Accepts x w fun r w => c (packV (valL [.b] r)) w)), (n_pelotonref05_Root, (fun args w c => unL [] args fun x => pelotonref05_Root  w fun r w => c (packV (valL [.ag] r)) w)), (n_pelotonref06_Machine_add, (fun args w c => unL [.p, .ag, (.i .i64), (.i .i64), .b, (.i .i64), .ag] args fun x => pelotonref06_Machine_add x.1 x.2.1 x.2.2.1 x.2.2.2.1 x.2.2.2.2.1 x.2.2.2.2.2.1 x.2.2.2.2.2.2 w fun r w => c (packV (valL [] r)) w)), (n_pelotonref06_Machine_step, (fun args w c => unL [.p] args fun x => pelotonref06_Machine_step x w fun r w => c (packV (valL [] r)) w))]) 17729625064694 [(9, []), (10, []), (11, [(37, .b)])] Go.Proofs.Try.f12 [.s, (.i .i64), (.i .i64)] (valL [.ag, (.i .i64)] x) w k = pelotonref06_Run_b pelotonref04_Accepts pelotonref05_Root pelotonref06_Machine_add pelotonref06_Machine_step x.1 x.2 w k := by kernel_rfl
def pelotonref06_Run (p_0 : Array Value) (fuel_1 : Int) (w : World) (k : (Sl × Int × Int) → World → Prop) : Prop := pelotonref06_Run_b pelotonref04_Accepts pelotonref05_Root pelotonref06_Machine_add pelotonref06_Machine_step p_0 fuel_1 w k
def d_pelotonref06_Run : Dec := fun args w c => unL [.ag, (.i .i64)] args fun x => pelotonref06_Run x.1 x.2 w fun r w => c (packV (valL [.s, (.i .i64), (.i .i64)] r)) w
theorem s_pelotonref06_Run : Sound Go.Proofs.Try.prog n_pelotonref06_Run d_pelotonref06_Run :=
  sound_of (mask := 17729625064694) (h := [(9, []), (10, []), (11, [(37, .b)])]) (ds := [(n_pelotonref04_Accepts, d_pelotonref04_Accepts), (n_pelotonref05_Root, d_pelotonref05_Root), (n_pelotonref06_Machine_add, d_pelotonref06_Machine_add), (n_pelotonref06_Machine_step, d_pelotonref06_Machine_step)]) mixed Go.Proofs.Try.func12 ⟨s_pelotonref04_Accepts, s_pelotonref05_Root, s_pelotonref06_Machine_add, s_pelotonref06_Machine_step, trivial⟩
    [.ag, (.i .i64)] [.s, (.i .i64), (.i .i64)] (by kernel_rfl) (fun x w k => pelotonref06_Run x.1 x.2 w k) (fun x w k => e_pelotonref06_Run pelotonref04_Accepts pelotonref05_Root pelotonref06_Machine_add pelotonref06_Machine_step x w k)

/-- peloton/pelotonlaw06.with -/
def pelotonlaw06_with (p_0 : Array Value) (code_1 : Sl) (w : World) (k : (Array Value) → World → Prop) : Prop :=
  newC w p_0 24 fun a1 w2 =>
  newC w2 #[(.slice none 0 0)] 24 fun a3 w4 =>
  newC w4 #[(.slice none 0 0)] 24 fun a5 w6 =>
  ldS w6 (Addr.add a5 0) fun s7 =>
  ldS w6 (Addr.add a1 0) fun s8 =>
  bApp Go.Proofs.Try.prog #[22, 22] 22 [(.slice s7.a s7.n s7.c), (.slice s8.a s8.n s8.c)] w6 fun s9 w10 =>
  stC w10 (Addr.add a5 0) (.slice s9.a s9.n s9.c) fun w11 =>
  ldS w11 (Addr.add a5 0) fun s12 =>
  ixS s12 (0 : Int) 2 fun a13 =>
  stA 2 w11 a13 #[(.int .i64 (0 : Int)), (.slice code_1.a code_1.n code_1.c)] fun w14 =>
  ldA 1 w14 a5 fun cs15 =>
  stA 1 w14 a3 cs15 fun w16 =>
  ldA 1 w16 a3 fun cs17 =>
  (k cs17 w16)
def d_pelotonlaw06_with : Dec := fun args w c => unL [.ag, .s] args fun x => pelotonlaw06_with x.1 x.2 w fun r w => c (packV (valL [.ag] r)) w
theorem s_pelotonlaw06_with : Sound Go.Proofs.Try.prog n_pelotonlaw06_with d_pelotonlaw06_with :=
  sound_of (mask := 54) (h := []) (ds := []) mixed Go.Proofs.Try.func15 trivial
    [.ag, .s] [.ag] (by kernel_rfl) (fun x w k => pelotonlaw06_with x.1 x.2 w k) (fun x w k => by kernel_rfl)

/-- peloton/check.Plain -/
def check_Plain (p_0 : Array Value) (w : World) (k : (Bool) → World → Prop) : Prop :=
  newC w p_0 24 fun a1 w2 =>
  ldS w2 (Addr.add a1 0) fun s3 =>
  loopP (S := Int) (fun C4 i5 w6 =>
    iteB (decide (i5 < ((s3.n : Nat) : Int))) (
      ixS s3 i5 2 fun a7 =>
      ldA 2 w6 a7 fun cs8 =>
      newC w6 #[(.int .i64 (0 : Int)), (.slice none 0 0)] 40 fun a9 w10 =>
      stA 2 w10 a9 cs8 fun w11 =>
      ldS w11 (Addr.add a9 1) fun s12 =>
      loopP (S := Int) (fun C13 i14 w15 =>
        iteB (decide (i14 < ((s12.n : Nat) : Int))) (
          ixS s12 i14 5 fun a16 =>
          ldA 5 w15 a16 fun cs17 =>
          newC w15 #[(.int .i64 (0 : Int)), (.int .i64 (0 : Int)), (.int .i64 (0 : Int)), (.int .i64 (0 : Int)), (.int .i64 (0 : Int))] 43 fun a18 w19 =>
          stA 5 w19 a18 cs17 fun w20 =>
          joinP (S := Bool) (fun J21 =>
            ldI .i64 w20 (Addr.add a18 0) fun i22 =>
            iteB (i22 == (13 : Int)) (
              (J21 true w20)) (
              ldI .i64 w20 (Addr.add a18 0) fun i23 =>
              iteB (i23 == (11 : Int)) (
                ldI .i64 w20 (Addr.add a18 4) fun i24 =>
                (J21 (i24 != (0 : Int)) w20)) (
                (J21 false w20)))) fun b25 w26 =>
          iteB b25 (
            (k false w26)) (
            (C13 (IntKind.wrap .i64 (i14 + (1 : Int))) w26))) (
          (C4 (IntKind.wrap .i64 (i5 + (1 : Int))) w15))) (0 : Int) w11) (
      (k true w6))) (0 : Int) w2
def d_check_Plain : Dec := fun args w c => unL [.ag] args fun x => check_Plain x w fun r w => c (packV (valL [.b] r)) w
theorem s_check_Plain : Sound Go.Proofs.Try.prog n_check_Plain d_check_Plain :=
  sound_of (mask := 8590430038) (h := [(3, [(10, (.i .i64))]), (10, [(17, (.i .i64))]), (15, [(33, .b)])]) (ds := []) mixed Go.Proofs.Try.func16 trivial
    [.ag] [.b] (by kernel_rfl) (fun x w k => check_Plain x w k) (fun x w k => by kernel_rfl)

/-- peloton/frame.may -/
def frame_may_b (code_Check : Array Value → World → ((Int) → World → Prop) → Prop) (i_0 : Array Value) (op_1 : Int) (w : World) (k : (Bool) → World → Prop) : Prop :=
  newC w i_0 43 fun a1 w2 =>
  ldI .i64 w2 (Addr.add a1 0) fun i3 =>
  iteB (i3 == op_1) (
    ldA 5 w2 a1 fun cs4 =>
    code_Check cs4 w2 fun i5 w6 =>
    (k (i5 == (0 : Int)) w6)) (
    (k false w2))
theorem e_frame_may (code_Check : Array Value → World → ((Int) → World → Prop) → Prop) (x : KT [.ag, (.i .i64)]) (w : World) (k : KT [.b] → World → Prop) : evFn Go.Proofs.Try.prog (orcOf [(n_code_Check, (fun args w c => unL [.ag] args fun x => code_Check x w fun r w => c (packV (valL [(.i .i64)] r)) w))]) 22 [] Go.Proofs.Try.f84 [.b] (valL [.ag, (.i .i64)] x) w k = frame_may_b code_Check x.1 x.2 w k := by kernel_rfl
def frame_may (i_0 : Array Value) (op_1 : Int) (w : World) (k : (Bool) → World → Prop) : Prop := frame_may_b code_Check i_0 op_1 w k
def d_frame_may : Dec := fun args w c => unL [.ag, (.i .i64)] args fun x => frame_may x.1 x.2 w fun r w => c (packV (valL [.b] r)) w
theorem s_frame_may : Sound Go.Proofs.Try.prog n_frame_may d_frame_may :=
  sound_of (mask := 22) (h := []) (ds := [(n_code_Check, d_code_Check)]) mixed Go.Proofs.Try.func84 ⟨s_code_Check, trivial⟩
    [.ag, (.i .i64)] [.b] (by kernel_rfl) (fun x w k => frame_may x.1 x.2 w k) (fun x w k => e_frame_may code_Check x w k)

/-- (peloton/frame.Frame).to -/
def frame_Frame_to (f_0 : Array Value) (pc_1 : Int) (w : World) (k : (Array Value) → World → Prop) : Prop :=
  newC w f_0 54 fun a1 w2 =>
  newC w2 #[(.int .i64 (0 : Int)), (.int .i64 (0 : Int)), (.int .i64 (0 : Int)), (.int .i64 (0 : Int)), (.int .i64 (0 : Int)), (.int .i64 (0 : Int)), (.int .i64 (0 : Int)), (.int .i64 (0 : Int)), (.int .i64 (0 : Int)), (.int .i64 (0 : Int)), (.int .i64 (0 : Int)), (.int .i64 (0 : Int)), (.int .i64 (0 : Int)), (.int .i64 (0 : Int)), (.int .i64 (0 : Int)), (.int .i64 (0 : Int)), (.int .i64 (0 : Int)), (.int .i64 (0 : Int)), (.int .i64 (0 : Int))] 54 fun a3 w4 =>
  stC w4 (Addr.add a1 1) (.int .i64 pc_1) fun w5 =>
  ldI .i64 w5 (Addr.add a1 18) fun i6 =>
  stC w5 (Addr.add a1 18) (.int .i64 (IntKind.wrap .i64 (i6 + (1 : Int)))) fun w7 =>
  ldA 19 w7 a1 fun cs8 =>
  stA 19 w7 a3 cs8 fun w9 =>
  ldA 19 w9 a3 fun cs10 =>
  (k cs10 w9)
def d_frame_Frame_to : Dec := fun args w c => unL [.ag, (.i .i64)] args fun x => frame_Frame_to x.1 x.2 w fun r w => c (packV (valL [.ag] r)) w
theorem s_frame_Frame_to : Sound Go.Proofs.Try.prog n_frame_Frame_to d_frame_Frame_to :=
  sound_of (mask := 22) (h := []) (ds := []) mixed Go.Proofs.Try.func53 trivial
    [.ag, (.i .i64)] [.ag] (by kernel_rfl) (fun x w k => frame_Frame_to x.1 x.2 w k) (fun x w k => by kernel_rfl)

/-- (peloton/frame.Frame).Passed -/
def frame_Frame_Passed_b (frame_Frame_to : Array Value → Int → World → ((Array Value) → World → Prop) → Prop) (f_0 : Array Value) (w : World) (k : (Array Value) → World → Prop) : Prop :=
  newC w f_0 54 fun a1 w2 =>
  newC w2 #[(.int .i64 (0 : Int)), (.int .i64 (0 : Int)), (.int .i64 (0 : Int)), (.int .i64 (0 : Int)), (.int .i64 (0 : Int)), (.int .i64 (0 : Int)), (.int .i64 (0 : Int)), (.int .i64 (0 : Int)), (.int .i64 (0 : Int)), (.int .i64 (0 : Int)), (.int .i64 (0 : Int)), (.int .i64 (0 : Int)), (.int .i64 (0 : Int)), (.int .i64 (0 : Int)), (.int .i64 (0 : Int)), (.int .i64 (0 : Int)), (.int .i64 (0 : Int)), (.int .i64 (0 : Int)), (.int .i64 (0 : Int))] 54 fun a3 w4 =>
  ldA 19 w4 a1 fun cs5 =>
  ldI .i64 w4 (Addr.add a1 1) fun i6 =>
  frame_Frame_to cs5 (IntKind.wrap .i64 (i6 + (1 : Int))) w4 fun cs7 w8 =>
  stA 19 w8 a3 cs7 fun w9 =>
  ldA 19 w9 a3 fun cs10 =>
  (k cs10 w9)
theorem e_frame_Frame_Passed (frame_Frame_to : Array Value → Int → World → ((Array Value) → World → Prop) → Prop) (x : KT [.ag]) (w : World) (k : KT [.ag] → World → Prop) : evFn Go.Proofs.Try.prog (orcOf [(n_frame_Frame_to, (fun args w c => unL [.ag, (.i .i64)] args fun x => frame_Frame_to x.1 x.2 w fun r w => c (packV (valL [.ag] r)) w))]) 6 [] Go.Proofs.Try.f54 [.ag] (valL [.ag] x) w k = frame_Frame_Passed_b frame_Frame_to x w k := by kernel_rfl
def frame_Frame_Passed (f_0 : Array Value) (w : World) (k : (Array Value) → World → Prop) : Prop := frame_Frame_Passed_b frame_Frame_to f_0 w k
def d_frame_Frame_Passed : Dec := fun args w c => unL [.ag] args fun x => frame_Frame_Passed x w fun r w => c (packV (valL [.ag] r)) w
theorem s_frame_Frame_Passed : Sound Go.Proofs.Try.prog n_frame_Frame_Passed d_frame_Frame_Passed :=
  sound_of (mask := 6) (h := []) (ds := [(n_frame_Frame_to, d_frame_Frame_to)]) mixed Go.Proofs.Try.func54 ⟨s_frame_Frame_to, trivial⟩
    [.ag] [.ag] (by kernel_rfl) (fun x w k => frame_Frame_Passed x w k) (fun x w k => e_frame_Frame_Passed frame_Frame_to x w k)

/-- (peloton/frame.Frame).Joined -/
def frame_Frame_Joined_b (frame_may : Array Value → Int → World → ((Bool) → World → Prop) → Prop) (frame_Frame_Passed : Array Value → World → ((Array Value) → World → Prop) → Prop) (frame_Frame_to : Array Value → Int → World → ((Array Value) → World → Prop) → Prop) (f_0 : Array Value) (i_1 : Array Value) (kind_2 : Int) (v_3 : Int) (w : World) (k : (Array Value × Int × Bool) → World → Prop) : Prop :=
  newC w f_0 54 fun a1 w2 =>
  newC w2 i_1 43 fun a3 w4 =>
  newC w4 #[(.int .i64 (0 : Int)), (.int .i64 (0 : Int)), (.int .i64 (0 : Int)), (.int .i64 (0 : Int)), (.int .i64 (0 : Int)), (.int .i64 (0 : Int)), (.int .i64 (0 : Int)), (.int .i64 (0 : Int)), (.int .i64 (0 : Int)), (.int .i64 (0 : Int)), (.int .i64 (0 : Int)), (.int .i64 (0 : Int)), (.int .i64 (0 : Int)), (.int .i64 (0 : Int)), (.int .i64 (0 : Int)), (.int .i64 (0 : Int)), (.int .i64 (0 : Int)), (.int .i64 (0 : Int)), (.int .i64 (0 : Int))] 54 fun a5 w6 =>
  joinP (S := Bool) (fun J7 =>
    iteB ((decide (kind_2 < (2 : Int))) || (decide (kind_2 > (4 : Int)))) (
      (J7 true w6)) (
      ldA 5 w6 a3 fun cs8 =>
      frame_may cs8 (9 : Int) w6 fun b9 w10 =>
      iteB (!b9) (
        ldA 5 w10 a3 fun cs11 =>
        frame_may cs11 (10 : Int) w10 fun b12 w13 =>
        (J7 (!b12) w13)) (
        (J7 false w10)))) fun b14 w15 =>
  iteB b14 (
    ldA 19 w15 a1 fun cs16 =>
    stA 19 w15 a5 cs16 fun w17 =>
    ldA 19 w17 a5 fun cs18 =>
    (k (cs18, ((0 : Int), false)) w17)) (
    joinP (S := Int) (fun J19 =>
      ldI .i64 w15 (Addr.add a3 0) fun i20 =>
      iteB (i20 == (10 : Int)) (
        joinP (S := Int) (fun J21 =>
          iteB (kind_2 == (4 : Int)) (
            (J21 (0 : Int) w15)) (
            (J21 v_3 w15))) fun i22 w23 =>
        drew w23 fun w24 =>
        ldI .i64 w24 (Addr.add a3 1) fun i25 =>
        ldI .i64 w24 (Addr.add a3 2) fun i26 =>
        ixP (Addr.add a1 2) 8 i25 1 fun a27 =>
        stC w24 a27 (.int .i64 i22) fun w28 =>
        samec 1 (Addr.add a3 2) w24 w28 (
        ixP (Addr.add a1 2) 8 i26 1 fun a29 =>
        stC w28 a29 (.int .i64 (IntKind.wrap .i64 (kind_2 - (2 : Int)))) fun w30 =>
        ldA 19 w30 a1 fun cs31 =>
        frame_Frame_Passed cs31 w30 fun cs32 w33 =>
        stA 19 w33 a5 cs32 fun w34 =>
        ldA 19 w34 a5 fun cs35 =>
        (k (cs35, ((0 : Int), false)) w34))) (
        iteB (kind_2 == (2 : Int)) (
          ldI .i64 w15 (Addr.add a3 1) fun i36 =>
          ixP (Addr.add a1 2) 8 i36 1 fun a37 =>
          stC w15 a37 (.int .i64 v_3) fun w38 =>
          ldA 19 w38 a1 fun cs39 =>
          frame_Frame_Passed cs39 w38 fun cs40 w41 =>
          stA 19 w41 a5 cs40 fun w42 =>
          ldA 19 w42 a5 fun cs43 =>
          (k (cs43, ((0 : Int), false)) w42)) (
          iteB (kind_2 == (4 : Int)) (
            (J19 (-(1 : Int)) w15)) (
            (J19 v_3 w15))))) fun i44 w45 =>
    ldA 19 w45 a1 fun cs46 =>
    ldI .i64 w45 (Addr.add a1 1) fun i47 =>
    frame_Frame_to cs46 i47 w45 fun cs48 w49 =>
    stA 19 w49 a5 cs48 fun w50 =>
    ldA 19 w50 a5 fun cs51 =>
    (k (cs51, (i44, true)) w50))
theorem e_frame_Frame_Joined (frame_may : Array Value → Int → World → ((Bool) → World → Prop) → Prop) (frame_Frame_Passed : Array Value → World → ((Array Value) → World → Prop) → Prop) (frame_Frame_to : Array Value → Int → World → ((Array Value) → World → Prop) → Prop) (x : KT [.ag, .ag, (.i .i64), (.i .i64)]) (w : World) (k : KT [.ag, (.i .i64), .b] → World → Prop) : evFn Go.Proofs.Try.prog (orcOf [(n_frame_may, (fun args w c => unL [.ag, (.i .i64)] args fun x => frame_may x.1 x.2 w fun r w => c (packV (valL [.b] r)) w)), (n_frame_Frame_Passed, (fun args w c => unL [.ag] args fun x => frame_Frame_Passed x w fun r w => c (packV (valL [.ag] r)) w)), (n_frame_Frame_to, (fun args w c => unL [.ag, (.i .i64)] args fun x => frame_Frame_to x.1 x.2 w fun r w => c (packV (valL [.ag] r)) w))]) 588746065724 [(1, [(26, .b)]), (5, [(3, (.i .i64))]), (16, [(3, (.i .i64))])] Go.Proofs.Try.f58 [.ag, (.i .i64), .b] (valL [.ag, .ag, (.i .i64), (.i .i64)] x) w k = frame_Frame_Joined_b frame_may frame_Frame_Passed frame_Frame_to x.1 x.2.1 x.2.2.1 x.2.2.2 w k := by kernel_rfl
def frame_Frame_Joined (f_0 : Array Value) (i_1 : Array Value) (kind_2 : Int) (v_3 : Int) (w : World) (k : (Array Value × Int × Bool) → World → Prop) : Prop := frame_Frame_Joined_b frame_may frame_Frame_Passed frame_Frame_to f_0 i_1 kind_2 v_3 w k
def d_frame_Frame_Joined : Dec := fun args w c => unL [.ag, .ag, (.i .i64), (.i .i64)] args fun x => frame_Frame_Joined x.1 x.2.1 x.2.2.1 x.2.2.2 w fun r w => c (packV (valL [.ag, (.i .i64), .b] r)) w
theorem s_frame_Frame_Joined : Sound Go.Proofs.Try.prog n_frame_Frame_Joined d_frame_Frame_Joined :=
  sound_of (mask := 588746065724) (h := [(1, [(26, .b)]), (5, [(3, (.i .i64))]), (16, [(3, (.i .i64))])]) (ds := [(n_frame_may, d_frame_may), (n_frame_Frame_Passed, d_frame_Frame_Passed), (n_frame_Frame_to, d_frame_Frame_to)]) mixed Go.Proofs.Try.func58 ⟨s_frame_may, s_frame_Frame_Passed, s_frame_Frame_to, trivial⟩
    [.ag, .ag, (.i .i64), (.i .i64)] [.ag, (.i .i64), .b] (by kernel_rfl) (fun x w k => frame_Frame_Joined x.1 x.2.1 x.2.2.1 x.2.2.2 w k) (fun x w k => e_frame_Frame_Joined frame_may frame_Frame_Passed frame_Frame_to x w k)

/-- peloton/frame.one -/
def frame_one (is_0 : Bool) (w : World) (k : (Int) → World → Prop) : Prop :=
  iteB is_0 (
    (k (1 : Int) w)) (
    (k (0 : Int) w))
def d_frame_one : Dec := fun args w c => unL [.b] args fun x => frame_one x w fun r w => c (packV (valL [(.i .i64)] r)) w
theorem s_frame_one : Sound Go.Proofs.Try.prog n_frame_one d_frame_one :=
  sound_of (mask := 13) (h := []) (ds := []) mixed Go.Proofs.Try.func83 trivial
    [.b] [(.i .i64)] (by kernel_rfl) (fun x w k => frame_one x w k) (fun x w k => by kernel_rfl)

/-- (peloton/frame.Frame).Closed -/
def frame_Frame_Closed_b (frame_may : Array Value → Int → World → ((Bool) → World → Prop) → Prop) (frame_one : Bool → World → ((Int) → World → Prop) → Prop) (frame_Frame_Passed : Array Value → World → ((Array Value) → World → Prop) → Prop) (f_0 : Array Value) (i_1 : Array Value) (asked_2 : Bool) (w : World) (k : (Array Value) → World → Prop) : Prop :=
  newC w f_0 54 fun a1 w2 =>
  newC w2 i_1 43 fun a3 w4 =>
  newC w4 #[(.int .i64 (0 : Int)), (.int .i64 (0 : Int)), (.int .i64 (0 : Int)), (.int .i64 (0 : Int)), (.int .i64 (0 : Int)), (.int .i64 (0 : Int)), (.int .i64 (0 : Int)), (.int .i64 (0 : Int)), (.int .i64 (0 : Int)), (.int .i64 (0 : Int)), (.int .i64 (0 : Int)), (.int .i64 (0 : Int)), (.int .i64 (0 : Int)), (.int .i64 (0 : Int)), (.int .i64 (0 : Int)), (.int .i64 (0 : Int)), (.int .i64 (0 : Int)), (.int .i64 (0 : Int)), (.int .i64 (0 : Int))] 54 fun a5 w6 =>
  ldA 19 w6 a1 fun cs7 =>
  newC w6 #[(.int .i64 (0 : Int)), (.int .i64 (0 : Int)), (.int .i64 (0 : Int)), (.int .i64 (0 : Int)), (.int .i64 (0 : Int)), (.int .i64 (0 : Int)), (.int .i64 (0 : Int)), (.int .i64 (0 : Int)), (.int .i64 (0 : Int)), (.int .i64 (0 : Int)), (.int .i64 (0 : Int)), (.int .i64 (0 : Int)), (.int .i64 (0 : Int)), (.int .i64 (0 : Int)), (.int .i64 (0 : Int)), (.int .i64 (0 : Int)), (.int .i64 (0 : Int)), (.int .i64 (0 : Int)), (.int .i64 (0 : Int))] 54 fun a8 w9 =>
  stA 19 w9 a8 cs7 fun w10 =>
  ldA 5 w10 a3 fun cs11 =>
  frame_may cs11 (12 : Int) w10 fun b12 w13 =>
  iteB b12 (
    drew w13 fun w14 =>
    ldI .i64 w14 (Addr.add a3 1) fun i15 =>
    frame_one asked_2 w14 fun i16 w17 =>
    samec 1 (Addr.add a3 1) w14 w17 (
    ixP (Addr.add a8 2) 8 i15 1 fun a18 =>
    stC w17 a18 (.int .i64 i16) fun w19 =>
    ldA 19 w19 a8 fun cs20 =>
    frame_Frame_Passed cs20 w19 fun cs21 w22 =>
    stA 19 w22 a5 cs21 fun w23 =>
    ldA 19 w23 a5 fun cs24 =>
    (k cs24 w23))) (
    ldA 19 w13 a1 fun cs25 =>
    stA 19 w13 a5 cs25 fun w26 =>
    ldA 19 w26 a5 fun cs27 =>
    (k cs27 w26))
theorem e_frame_Frame_Closed (frame_may : Array Value → Int → World → ((Bool) → World → Prop) → Prop) (frame_one : Bool → World → ((Int) → World → Prop) → Prop) (frame_Frame_Passed : Array Value → World → ((Array Value) → World → Prop) → Prop) (x : KT [.ag, .ag, .b]) (w : World) (k : KT [.ag] → World → Prop) : evFn Go.Proofs.Try.prog (orcOf [(n_frame_may, (fun args w c => unL [.ag, (.i .i64)] args fun x => frame_may x.1 x.2 w fun r w => c (packV (valL [.b] r)) w)), (n_frame_one, (fun args w c => unL [.b] args fun x => frame_one x w fun r w => c (packV (valL [(.i .i64)] r)) w)), (n_frame_Frame_Passed, (fun args w c => unL [.ag] args fun x => frame_Frame_Passed x w fun r w => c (packV (valL [.ag] r)) w))]) 1244 [] Go.Proofs.Try.f59 [.ag] (valL [.ag, .ag, .b] x) w k = frame_Frame_Closed_b frame_may frame_one frame_Frame_Passed x.1 x.2.1 x.2.2 w k := by kernel_rfl
def frame_Frame_Closed (f_0 : Array Value) (i_1 : Array Value) (asked_2 : Bool) (w : World) (k : (Array Value) → World → Prop) : Prop := frame_Frame_Closed_b frame_may frame_one frame_Frame_Passed f_0 i_1 asked_2 w k
def d_frame_Frame_Closed : Dec := fun args w c => unL [.ag, .ag, .b] args fun x => frame_Frame_Closed x.1 x.2.1 x.2.2 w fun r w => c (packV (valL [.ag] r)) w
theorem s_frame_Frame_Closed : Sound Go.Proofs.Try.prog n_frame_Frame_Closed d_frame_Frame_Closed :=
  sound_of (mask := 1244) (h := []) (ds := [(n_frame_may, d_frame_may), (n_frame_one, d_frame_one), (n_frame_Frame_Passed, d_frame_Frame_Passed)]) mixed Go.Proofs.Try.func59 ⟨s_frame_may, s_frame_one, s_frame_Frame_Passed, trivial⟩
    [.ag, .ag, .b] [.ag] (by kernel_rfl) (fun x w k => frame_Frame_Closed x.1 x.2.1 x.2.2 w k) (fun x w k => e_frame_Frame_Closed frame_may frame_one frame_Frame_Passed x w k)

/-- (peloton/frame.Frame).Child -/
def frame_Frame_Child_b (frame_may : Array Value → Int → World → ((Bool) → World → Prop) → Prop) (frame_Root : World → ((Array Value) → World → Prop) → Prop) (f_0 : Array Value) (p_1 : Array Value) (i_2 : Array Value) (w : World) (k : (Array Value × Int) → World → Prop) : Prop :=
  newC w f_0 54 fun a1 w2 =>
  newC w2 p_1 24 fun a3 w4 =>
  newC w4 i_2 43 fun a5 w6 =>
  newC w6 #[(.int .i64 (0 : Int)), (.int .i64 (0 : Int)), (.int .i64 (0 : Int)), (.int .i64 (0 : Int)), (.int .i64 (0 : Int)), (.int .i64 (0 : Int)), (.int .i64 (0 : Int)), (.int .i64 (0 : Int)), (.int .i64 (0 : Int)), (.int .i64 (0 : Int)), (.int .i64 (0 : Int)), (.int .i64 (0 : Int)), (.int .i64 (0 : Int)), (.int .i64 (0 : Int)), (.int .i64 (0 : Int)), (.int .i64 (0 : Int)), (.int .i64 (0 : Int)), (.int .i64 (0 : Int)), (.int .i64 (0 : Int))] 54 fun a7 w8 =>
  ldA 5 w8 a5 fun cs9 =>
  frame_may cs9 (8 : Int) w8 fun b10 w11 =>
  iteB (!b10) (
    stA 19 w11 a7 #[(.int .i64 (0 : Int)), (.int .i64 (0 : Int)), (.int .i64 (0 : Int)), (.int .i64 (0 : Int)), (.int .i64 (0 : Int)), (.int .i64 (0 : Int)), (.int .i64 (0 : Int)), (.int .i64 (0 : Int)), (.int .i64 (0 : Int)), (.int .i64 (0 : Int)), (.int .i64 (0 : Int)), (.int .i64 (0 : Int)), (.int .i64 (0 : Int)), (.int .i64 (0 : Int)), (.int .i64 (0 : Int)), (.int .i64 (0 : Int)), (.int .i64 (0 : Int)), (.int .i64 (0 : Int)), (.int .i64 (0 : Int))] fun w12 =>
    ldA 19 w12 a7 fun cs13 =>
    (k (cs13, (1 : Int)) w12)) (
    ldI .i64 w11 (Addr.add a5 4) fun i14 =>
    ldS w11 (Addr.add a3 0) fun s15 =>
    iteB (decide (i14 ≥ ((s15.n : Nat) : Int))) (
      stA 19 w11 a7 #[(.int .i64 (0 : Int)), (.int .i64 (0 : Int)), (.int .i64 (0 : Int)), (.int .i64 (0 : Int)), (.int .i64 (0 : Int)), (.int .i64 (0 : Int)), (.int .i64 (0 : Int)), (.int .i64 (0 : Int)), (.int .i64 (0 : Int)), (.int .i64 (0 : Int)), (.int .i64 (0 : Int)), (.int .i64 (0 : Int)), (.int .i64 (0 : Int)), (.int .i64 (0 : Int)), (.int .i64 (0 : Int)), (.int .i64 (0 : Int)), (.int .i64 (0 : Int)), (.int .i64 (0 : Int)), (.int .i64 (0 : Int))] fun w16 =>
      ldA 19 w16 a7 fun cs17 =>
      (k (cs17, (17 : Int)) w16)) (
      frame_Root  w11 fun cs18 w19 =>
      newC w19 #[(.int .i64 (0 : Int)), (.int .i64 (0 : Int)), (.int .i64 (0 : Int)), (.int .i64 (0 : Int)), (.int .i64 (0 : Int)), (.int .i64 (0 : Int)), (.int .i64 (0 : Int)), (.int .i64 (0 : Int)), (.int .i64 (0 : Int)), (.int .i64 (0 : Int)), (.int .i64 (0 : Int)), (.int .i64 (0 : Int)), (.int .i64 (0 : Int)), (.int .i64 (0 : Int)), (.int .i64 (0 : Int)), (.int .i64 (0 : Int)), (.int .i64 (0 : Int)), (.int .i64 (0 : Int)), (.int .i64 (0 : Int))] 54 fun a20 w21 =>
      stA 19 w21 a20 cs18 fun w22 =>
      drew w22 fun w23 =>
      ldI .i64 w23 (Addr.add a5 4) fun i24 =>
      ldA 8 w23 (Addr.add a1 2) fun cs25 =>
      stC w23 (Addr.add a20 0) (.int .i64 i24) fun w26 =>
      samec 8 (Addr.add a1 2) w23 w26 (
      stA 8 w26 (Addr.add a20 2) cs25 fun w27 =>
      loopP (S := Int) (fun C28 i29 w30 =>
        iteB (decide (i29 < (8 : Int))) (
          drew w30 fun w31 =>
          ldS w31 (Addr.add a3 0) fun s32 =>
          ldI .i64 w31 (Addr.add a5 4) fun i33 =>
          ixS s32 i33 2 fun a34 =>
          ldI .i64 w31 (Addr.add a34 0) fun i35 =>
          shlI .i64 (1 : Int) i29 fun i36 =>
          iteB ((andI .i64 i35 i36) != (0 : Int)) (
            ixP (Addr.add a1 10) 8 i29 1 fun a37 =>
            ldI .i64 w31 a37 fun i38 =>
            ixP (Addr.add a20 10) 8 i29 1 fun a39 =>
            stC w31 a39 (.int .i64 i38) fun w40 =>
            (C28 (IntKind.wrap .i64 (i29 + (1 : Int))) w40)) (
            (C28 (IntKind.wrap .i64 (i29 + (1 : Int))) w31))) (
          ldA 19 w30 a20 fun cs41 =>
          stA 19 w30 a7 cs41 fun w42 =>
          ldA 19 w42 a7 fun cs43 =>
          (k (cs43, (0 : Int)) w42))) (0 : Int) w27)))
theorem e_frame_Frame_Child (frame_may : Array Value → Int → World → ((Bool) → World → Prop) → Prop) (frame_Root : World → ((Array Value) → World → Prop) → Prop) (x : KT [.ag, .ag, .ag]) (w : World) (k : KT [.ag, (.i .i64)] → World → Prop) : evFn Go.Proofs.Try.prog (orcOf [(n_frame_may, (fun args w c => unL [.ag, (.i .i64)] args fun x => frame_may x.1 x.2 w fun r w => c (packV (valL [.b] r)) w)), (n_frame_Root, (fun args w c => unL [] args fun x => frame_Root  w fun r w => c (packV (valL [.ag] r)) w))]) 2199829091320 [(11, [(28, (.i .i64))])] Go.Proofs.Try.f56 [.ag, (.i .i64)] (valL [.ag, .ag, .ag] x) w k = frame_Frame_Child_b frame_may frame_Root x.1 x.2.1 x.2.2 w k := by kernel_rfl
def frame_Frame_Child (f_0 : Array Value) (p_1 : Array Value) (i_2 : Array Value) (w : World) (k : (Array Value × Int) → World → Prop) : Prop := frame_Frame_Child_b frame_may frame_Root f_0 p_1 i_2 w k
def d_frame_Frame_Child : Dec := fun args w c => unL [.ag, .ag, .ag] args fun x => frame_Frame_Child x.1 x.2.1 x.2.2 w fun r w => c (packV (valL [.ag, (.i .i64)] r)) w
theorem s_frame_Frame_Child : Sound Go.Proofs.Try.prog n_frame_Frame_Child d_frame_Frame_Child :=
  sound_of (mask := 2199829091320) (h := [(11, [(28, (.i .i64))])]) (ds := [(n_frame_may, d_frame_may), (n_frame_Root, d_frame_Root)]) mixed Go.Proofs.Try.func56 ⟨s_frame_may, s_frame_Root, trivial⟩
    [.ag, .ag, .ag] [.ag, (.i .i64)] (by kernel_rfl) (fun x w k => frame_Frame_Child x.1 x.2.1 x.2.2 w k) (fun x w k => e_frame_Frame_Child frame_may frame_Root x w k)

/-- (peloton/frame.Frame).Forked -/
def frame_Frame_Forked_b (frame_may : Array Value → Int → World → ((Bool) → World → Prop) → Prop) (frame_Frame_Passed : Array Value → World → ((Array Value) → World → Prop) → Prop) (f_0 : Array Value) (i_1 : Array Value) (id_2 : Int) (w : World) (k : (Array Value) → World → Prop) : Prop :=
  newC w f_0 54 fun a1 w2 =>
  newC w2 i_1 43 fun a3 w4 =>
  newC w4 #[(.int .i64 (0 : Int)), (.int .i64 (0 : Int)), (.int .i64 (0 : Int)), (.int .i64 (0 : Int)), (.int .i64 (0 : Int)), (.int .i64 (0 : Int)), (.int .i64 (0 : Int)), (.int .i64 (0 : Int)), (.int .i64 (0 : Int)), (.int .i64 (0 : Int)), (.int .i64 (0 : Int)), (.int .i64 (0 : Int)), (.int .i64 (0 : Int)), (.int .i64 (0 : Int)), (.int .i64 (0 : Int)), (.int .i64 (0 : Int)), (.int .i64 (0 : Int)), (.int .i64 (0 : Int)), (.int .i64 (0 : Int))] 54 fun a5 w6 =>
  ldA 5 w6 a3 fun cs7 =>
  frame_may cs7 (8 : Int) w6 fun b8 w9 =>
  iteB (!b8) (
    ldA 19 w9 a1 fun cs10 =>
    stA 19 w9 a5 cs10 fun w11 =>
    ldA 19 w11 a5 fun cs12 =>
    (k cs12 w11)) (
    ldI .i64 w9 (Addr.add a3 1) fun i13 =>
    ixP (Addr.add a1 10) 8 i13 1 fun a14 =>
    stC w9 a14 (.int .i64 id_2) fun w15 =>
    ldA 19 w15 a1 fun cs16 =>
    frame_Frame_Passed cs16 w15 fun cs17 w18 =>
    stA 19 w18 a5 cs17 fun w19 =>
    ldA 19 w19 a5 fun cs20 =>
    (k cs20 w19))
theorem e_frame_Frame_Forked (frame_may : Array Value → Int → World → ((Bool) → World → Prop) → Prop) (frame_Frame_Passed : Array Value → World → ((Array Value) → World → Prop) → Prop) (x : KT [.ag, .ag, (.i .i64)]) (w : World) (k : KT [.ag] → World → Prop) : evFn Go.Proofs.Try.prog (orcOf [(n_frame_may, (fun args w c => unL [.ag, (.i .i64)] args fun x => frame_may x.1 x.2 w fun r w => c (packV (valL [.b] r)) w)), (n_frame_Frame_Passed, (fun args w c => unL [.ag] args fun x => frame_Frame_Passed x w fun r w => c (packV (valL [.ag] r)) w))]) 604 [] Go.Proofs.Try.f57 [.ag] (valL [.ag, .ag, (.i .i64)] x) w k = frame_Frame_Forked_b frame_may frame_Frame_Passed x.1 x.2.1 x.2.2 w k := by kernel_rfl
def frame_Frame_Forked (f_0 : Array Value) (i_1 : Array Value) (id_2 : Int) (w : World) (k : (Array Value) → World → Prop) : Prop := frame_Frame_Forked_b frame_may frame_Frame_Passed f_0 i_1 id_2 w k
def d_frame_Frame_Forked : Dec := fun args w c => unL [.ag, .ag, (.i .i64)] args fun x => frame_Frame_Forked x.1 x.2.1 x.2.2 w fun r w => c (packV (valL [.ag] r)) w
theorem s_frame_Frame_Forked : Sound Go.Proofs.Try.prog n_frame_Frame_Forked d_frame_Frame_Forked :=
  sound_of (mask := 604) (h := []) (ds := [(n_frame_may, d_frame_may), (n_frame_Frame_Passed, d_frame_Frame_Passed)]) mixed Go.Proofs.Try.func57 ⟨s_frame_may, s_frame_Frame_Passed, trivial⟩
    [.ag, .ag, (.i .i64)] [.ag] (by kernel_rfl) (fun x w k => frame_Frame_Forked x.1 x.2.1 x.2.2 w k) (fun x w k => e_frame_Frame_Forked frame_may frame_Frame_Passed x w k)

/-- (peloton/frame.Frame).Next -/
def frame_Frame_Next (f_0 : Array Value) (p_1 : Array Value) (w : World) (k : (Array Value × Int) → World → Prop) : Prop :=
  newC w f_0 54 fun a1 w2 =>
  newC w2 p_1 24 fun a3 w4 =>
  newC w4 #[(.int .i64 (0 : Int)), (.int .i64 (0 : Int)), (.int .i64 (0 : Int)), (.int .i64 (0 : Int)), (.int .i64 (0 : Int))] 43 fun a5 w6 =>
  joinP (S := Bool) (fun J7 =>
    ldI .i64 w6 (Addr.add a1 0) fun i8 =>
    iteB (decide (i8 < (0 : Int))) (
      (J7 true w6)) (
      ldI .i64 w6 (Addr.add a1 0) fun i9 =>
      ldS w6 (Addr.add a3 0) fun s10 =>
      (J7 (decide (i9 ≥ ((s10.n : Nat) : Int))) w6))) fun b11 w12 =>
  iteB b11 (
    stA 5 w12 a5 #[(.int .i64 (0 : Int)), (.int .i64 (0 : Int)), (.int .i64 (0 : Int)), (.int .i64 (0 : Int)), (.int .i64 (0 : Int))] fun w13 =>
    ldA 5 w13 a5 fun cs14 =>
    (k (cs14, (17 : Int)) w13)) (
    ldS w12 (Addr.add a3 0) fun s15 =>
    ldI .i64 w12 (Addr.add a1 0) fun i16 =>
    ixS s15 i16 2 fun a17 =>
    ldS w12 (Addr.add a17 1) fun s18 =>
    joinP (S := Bool) (fun J19 =>
      ldI .i64 w12 (Addr.add a1 1) fun i20 =>
      iteB (decide (i20 < (0 : Int))) (
        (J19 true w12)) (
        ldI .i64 w12 (Addr.add a1 1) fun i21 =>
        (J19 (decide (i21 ≥ ((s18.n : Nat) : Int))) w12))) fun b22 w23 =>
    iteB b22 (
      stA 5 w23 a5 #[(.int .i64 (0 : Int)), (.int .i64 (0 : Int)), (.int .i64 (0 : Int)), (.int .i64 (0 : Int)), (.int .i64 (0 : Int))] fun w24 =>
      ldA 5 w24 a5 fun cs25 =>
      (k (cs25, (17 : Int)) w24)) (
      ldI .i64 w23 (Addr.add a1 1) fun i26 =>
      ixS s18 i26 5 fun a27 =>
      ldA 5 w23 a27 fun cs28 =>
      stA 5 w23 a5 cs28 fun w29 =>
      ldA 5 w29 a5 fun cs30 =>
      (k (cs30, (0 : Int)) w29)))
def d_frame_Frame_Next : Dec := fun args w c => unL [.ag, .ag] args fun x => frame_Frame_Next x.1 x.2 w fun r w => c (packV (valL [.ag, (.i .i64)] r)) w
theorem s_frame_Frame_Next : Sound Go.Proofs.Try.prog n_frame_Frame_Next d_frame_Frame_Next :=
  sound_of (mask := 34359869564) (h := [(1, [(17, .b)]), (5, [(35, .b)])]) (ds := []) mixed Go.Proofs.Try.func27 trivial
    [.ag, .ag] [.ag, (.i .i64)] (by kernel_rfl) (fun x w k => frame_Frame_Next x.1 x.2 w k) (fun x w k => by kernel_rfl)

/-- peloton/code.Point -/
def code_Point (op_0 : Int) (w : World) (k : (Bool) → World → Prop) : Prop :=
  joinP (S := Bool) (fun J1 =>
    iteB (op_0 == (6 : Int)) (
      (J1 (op_0 == (6 : Int)) w)) (
      iteB (op_0 == (7 : Int)) (
        (J1 (op_0 == (7 : Int)) w)) (
        iteB (op_0 == (8 : Int)) (
          (J1 (op_0 == (8 : Int)) w)) (
          iteB (op_0 == (9 : Int)) (
            (J1 (op_0 == (9 : Int)) w)) (
            iteB (op_0 == (10 : Int)) (
              (J1 (op_0 == (10 : Int)) w)) (
              iteB (op_0 == (11 : Int)) (
                (J1 (op_0 == (11 : Int)) w)) (
                iteB (op_0 == (12 : Int)) (
                  (J1 (op_0 == (12 : Int)) w)) (
                  (J1 (op_0 == (14 : Int)) w))))))))) fun b2 w3 =>
  iteB b2 (
    (k true w3)) (
    (k false w3))
def d_code_Point : Dec := fun args w c => unL [(.i .i64)] args fun x => code_Point x w fun r w => c (packV (valL [.b] r)) w
theorem s_code_Point : Sound Go.Proofs.Try.prog n_code_Point d_code_Point :=
  sound_of (mask := 29) (h := [(4, [(4, .b)])]) (ds := []) mixed Go.Proofs.Try.func28 trivial
    [(.i .i64)] [.b] (by kernel_rfl) (fun x w k => code_Point x w k) (fun x w k => by kernel_rfl)

/-- (peloton/frame.Frame).sums -/
def frame_Frame_sums (f_0 : Array Value) (i_1 : Array Value) (w : World) (k : (Sl) → World → Prop) : Prop :=
  newC w f_0 54 fun a1 w2 =>
  newC w2 i_1 43 fun a3 w4 =>
  joinP (S := (Addr × Addr)) (fun J5 =>
    drew w4 fun w6 =>
    ldI .i64 w6 (Addr.add a3 2) fun i7 =>
    ixP (Addr.add a1 2) 8 i7 1 fun a8 =>
    ldI .i64 w6 a8 fun i9 =>
    ldI .i64 w6 (Addr.add a3 3) fun i10 =>
    ixP (Addr.add a1 2) 8 i10 1 fun a11 =>
    ldI .i64 w6 a11 fun i12 =>
    both (
      newC w6 #[(.int .i64 (0 : Int))] 2 fun a13 w14 =>
      samec 1 a11 w6 w14 (
      samec 1 (Addr.add a3 3) w6 w14 (
      samec 1 a8 w6 w14 (
      samec 1 (Addr.add a3 2) w6 w14 (
      newC w14 #[(.int .i64 (0 : Int))] 2 fun a15 w16 =>
      samec 1 a11 w6 w16 (
      samec 1 (Addr.add a3 3) w6 w16 (
      samec 1 a8 w6 w16 (
      samec 1 (Addr.add a3 2) w6 w16 (
      stC w16 a13 (.int .i64 i9) fun w17 =>
      samec 1 a11 w6 w17 (
      samec 1 (Addr.add a3 3) w6 w17 (
      stC w17 a15 (.int .i64 i12) fun w18 =>
      (J5 (a13, a15) w18)))))))))))) (
      newC w6 #[(.int .i64 (0 : Int))] 2 fun a19 w20 =>
      samec 1 a11 w6 w20 (
      samec 1 (Addr.add a3 3) w6 w20 (
      samec 1 a8 w6 w20 (
      samec 1 (Addr.add a3 2) w6 w20 (
      newC w20 #[(.int .i64 (0 : Int))] 2 fun a21 w22 =>
      samec 1 a11 w6 w22 (
      samec 1 (Addr.add a3 3) w6 w22 (
      samec 1 a8 w6 w22 (
      samec 1 (Addr.add a3 2) w6 w22 (
      stC w22 a21 (.int .i64 i9) fun w23 =>
      samec 1 a11 w6 w23 (
      samec 1 (Addr.add a3 3) w6 w23 (
      stC w23 a19 (.int .i64 i12) fun w24 =>
      (J5 (a21, a19) w24))))))))))))) fun x25 w26 =>
  newC w26 #[(.func (.func n_frame_Frame_sums_1) #[] #[(.pointer (some a3))]), (.func (.func n_frame_Frame_sums_2) #[] #[(.pointer (some x25.1))]), (.func (.func n_frame_Frame_sums_3) #[] #[(.pointer (some x25.1)), (.pointer (some x25.2))]), (.func (.func n_frame_Frame_sums_4) #[] #[(.pointer (some x25.1)), (.pointer (some x25.2))]), (.func (.func n_frame_Frame_sums_5) #[] #[(.pointer (some x25.1)), (.pointer (some x25.2))]), (.func (.func n_frame_Frame_sums_6) #[] #[(.pointer (some x25.1)), (.pointer (some x25.2))])] 106 fun a27 w28 =>
  (k (Sl.mk (some a27) 6 6) w28)
def d_frame_Frame_sums : Dec := fun args w c => unL [.ag, .ag] args fun x => frame_Frame_sums x.1 x.2 w fun r w => c (packV (valL [.s] r)) w
theorem s_frame_Frame_sums : Sound Go.Proofs.Try.prog n_frame_Frame_sums d_frame_Frame_sums :=
  sound_of (mask := 124) (h := [(1, [(5, .a), (6, .a)])]) (ds := []) mixed Go.Proofs.Try.func55 trivial
    [.ag, .ag] [.s] (by kernel_rfl) (fun x w k => frame_Frame_sums x.1 x.2 w k) (fun x w k => by kernel_rfl)

/-- (peloton/frame.Frame).sums$1 -/
def frame_Frame_sums_1 (_0 : Addr) (w : World) (k : (Int) → World → Prop) : Prop :=
  ldI .i64 w (Addr.add _0 4) fun i1 =>
  (k i1 w)
def d_frame_Frame_sums_1 : Dec := fun args w c => unL [.a] args fun x => frame_Frame_sums_1 x w fun r w => c (packV (valL [(.i .i64)] r)) w
theorem s_frame_Frame_sums_1 : Sound Go.Proofs.Try.prog n_frame_Frame_sums_1 d_frame_Frame_sums_1 :=
  sound_of (mask := 3) (h := []) (ds := []) mixed Go.Proofs.Try.func77 trivial
    [.a] [(.i .i64)] (by kernel_rfl) (fun x w k => frame_Frame_sums_1 x w k) (fun x w k => by kernel_rfl)

/-- (peloton/frame.Frame).sums$2 -/
def frame_Frame_sums_2 (_0 : Addr) (w : World) (k : (Int) → World → Prop) : Prop :=
  ldI .i64 w _0 fun i1 =>
  (k i1 w)
def d_frame_Frame_sums_2 : Dec := fun args w c => unL [.a] args fun x => frame_Frame_sums_2 x w fun r w => c (packV (valL [(.i .i64)] r)) w
theorem s_frame_Frame_sums_2 : Sound Go.Proofs.Try.prog n_frame_Frame_sums_2 d_frame_Frame_sums_2 :=
  sound_of (mask := 3) (h := []) (ds := []) mixed Go.Proofs.Try.func78 trivial
    [.a] [(.i .i64)] (by kernel_rfl) (fun x w k => frame_Frame_sums_2 x w k) (fun x w k => by kernel_rfl)

/-- (peloton/frame.Frame).sums$3 -/
def frame_Frame_sums_3 (_0 : Addr) (_1 : Addr) (w : World) (k : (Int) → World → Prop) : Prop :=
  ldI .i64 w _0 fun i1 =>
  ldI .i64 w _1 fun i2 =>
  (k (IntKind.wrap .i64 (i1 + i2)) w)
def d_frame_Frame_sums_3 : Dec := fun args w c => unL [.a, .a] args fun x => frame_Frame_sums_3 x.1 x.2 w fun r w => c (packV (valL [(.i .i64)] r)) w
theorem s_frame_Frame_sums_3 : Sound Go.Proofs.Try.prog n_frame_Frame_sums_3 d_frame_Frame_sums_3 :=
  sound_of (mask := 7) (h := []) (ds := []) mixed Go.Proofs.Try.func79 trivial
    [.a, .a] [(.i .i64)] (by kernel_rfl) (fun x w k => frame_Frame_sums_3 x.1 x.2 w k) (fun x w k => by kernel_rfl)

/-- (peloton/frame.Frame).sums$4 -/
def frame_Frame_sums_4 (_0 : Addr) (_1 : Addr) (w : World) (k : (Int) → World → Prop) : Prop :=
  ldI .i64 w _0 fun i1 =>
  ldI .i64 w _1 fun i2 =>
  (k (IntKind.wrap .i64 (i1 - i2)) w)
def d_frame_Frame_sums_4 : Dec := fun args w c => unL [.a, .a] args fun x => frame_Frame_sums_4 x.1 x.2 w fun r w => c (packV (valL [(.i .i64)] r)) w
theorem s_frame_Frame_sums_4 : Sound Go.Proofs.Try.prog n_frame_Frame_sums_4 d_frame_Frame_sums_4 :=
  sound_of (mask := 7) (h := []) (ds := []) mixed Go.Proofs.Try.func80 trivial
    [.a, .a] [(.i .i64)] (by kernel_rfl) (fun x w k => frame_Frame_sums_4 x.1 x.2 w k) (fun x w k => by kernel_rfl)

/-- (peloton/frame.Frame).sums$5 -/
def frame_Frame_sums_5 (_0 : Addr) (_1 : Addr) (w : World) (k : (Int) → World → Prop) : Prop :=
  ldI .i64 w _0 fun i1 =>
  ldI .i64 w _1 fun i2 =>
  (k (IntKind.wrap .i64 (i1 * i2)) w)
def d_frame_Frame_sums_5 : Dec := fun args w c => unL [.a, .a] args fun x => frame_Frame_sums_5 x.1 x.2 w fun r w => c (packV (valL [(.i .i64)] r)) w
theorem s_frame_Frame_sums_5 : Sound Go.Proofs.Try.prog n_frame_Frame_sums_5 d_frame_Frame_sums_5 :=
  sound_of (mask := 7) (h := []) (ds := []) mixed Go.Proofs.Try.func81 trivial
    [.a, .a] [(.i .i64)] (by kernel_rfl) (fun x w k => frame_Frame_sums_5 x.1 x.2 w k) (fun x w k => by kernel_rfl)

/-- (peloton/frame.Frame).sums$6 -/
def frame_Frame_sums_6_b (frame_one : Bool → World → ((Int) → World → Prop) → Prop) (_0 : Addr) (_1 : Addr) (w : World) (k : (Int) → World → Prop) : Prop :=
  ldI .i64 w _0 fun i1 =>
  ldI .i64 w _1 fun i2 =>
  frame_one (decide (i1 < i2)) w fun i3 w4 =>
  (k i3 w4)
theorem e_frame_Frame_sums_6 (frame_one : Bool → World → ((Int) → World → Prop) → Prop) (x : KT [.a, .a]) (w : World) (k : KT [(.i .i64)] → World → Prop) : evFn Go.Proofs.Try.prog (orcOf [(n_frame_one, (fun args w c => unL [.b] args fun x => frame_one x w fun r w => c (packV (valL [(.i .i64)] r)) w))]) 7 [] Go.Proofs.Try.f82 [(.i .i64)] (valL [.a, .a] x) w k = frame_Frame_sums_6_b frame_one x.1 x.2 w k := by kernel_rfl
def frame_Frame_sums_6 (_0 : Addr) (_1 : Addr) (w : World) (k : (Int) → World → Prop) : Prop := frame_Frame_sums_6_b frame_one _0 _1 w k
def d_frame_Frame_sums_6 : Dec := fun args w c => unL [.a, .a] args fun x => frame_Frame_sums_6 x.1 x.2 w fun r w => c (packV (valL [(.i .i64)] r)) w
theorem s_frame_Frame_sums_6 : Sound Go.Proofs.Try.prog n_frame_Frame_sums_6 d_frame_Frame_sums_6 :=
  sound_of (mask := 7) (h := []) (ds := [(n_frame_one, d_frame_one)]) mixed Go.Proofs.Try.func82 ⟨s_frame_one, trivial⟩
    [.a, .a] [(.i .i64)] (by kernel_rfl) (fun x w k => frame_Frame_sums_6 x.1 x.2 w k) (fun x w k => e_frame_Frame_sums_6 frame_one x w k)

/-- (peloton/frame.Frame).Plain -/
def frame_Frame_Plain_b (code_Check : Array Value → World → ((Int) → World → Prop) → Prop) (frame_Frame_to : Array Value → Int → World → ((Array Value) → World → Prop) → Prop) (frame_Frame_Passed : Array Value → World → ((Array Value) → World → Prop) → Prop) (frame_Frame_sums : Array Value → Array Value → World → ((Sl) → World → Prop) → Prop) (frame_Frame_sums_1 : Addr → World → ((Int) → World → Prop) → Prop) (frame_Frame_sums_2 : Addr → World → ((Int) → World → Prop) → Prop) (frame_Frame_sums_3 : Addr → Addr → World → ((Int) → World → Prop) → Prop) (frame_Frame_sums_4 : Addr → Addr → World → ((Int) → World → Prop) → Prop) (frame_Frame_sums_5 : Addr → Addr → World → ((Int) → World → Prop) → Prop) (frame_Frame_sums_6 : Addr → Addr → World → ((Int) → World → Prop) → Prop) (f_0 : Array Value) (i_1 : Array Value) (w : World) (k : (Array Value × Bool) → World → Prop) : Prop :=
  newC w f_0 54 fun a1 w2 =>
  newC w2 i_1 43 fun a3 w4 =>
  newC w4 #[(.int .i64 (0 : Int)), (.int .i64 (0 : Int)), (.int .i64 (0 : Int)), (.int .i64 (0 : Int)), (.int .i64 (0 : Int)), (.int .i64 (0 : Int)), (.int .i64 (0 : Int)), (.int .i64 (0 : Int)), (.int .i64 (0 : Int)), (.int .i64 (0 : Int)), (.int .i64 (0 : Int)), (.int .i64 (0 : Int)), (.int .i64 (0 : Int)), (.int .i64 (0 : Int)), (.int .i64 (0 : Int)), (.int .i64 (0 : Int)), (.int .i64 (0 : Int)), (.int .i64 (0 : Int)), (.int .i64 (0 : Int))] 54 fun a5 w6 =>
  ldA 5 w6 a3 fun cs7 =>
  code_Check cs7 w6 fun i8 w9 =>
  iteB (i8 != (0 : Int)) (
    ldA 19 w9 a1 fun cs10 =>
    stA 19 w9 a5 cs10 fun w11 =>
    ldA 19 w11 a5 fun cs12 =>
    (k (cs12, false) w11)) (
    ldI .i64 w9 (Addr.add a3 0) fun i13 =>
    joinP (S := Bool) (fun J14 =>
      iteB (i13 == (6 : Int)) (
        (J14 (i13 == (6 : Int)) w9)) (
        ldI .i64 w9 (Addr.add a3 0) fun i15 =>
        iteB (i15 == (7 : Int)) (
          ldI .i64 w9 (Addr.add a3 1) fun i16 =>
          ixP (Addr.add a1 2) 8 i16 1 fun a17 =>
          ldI .i64 w9 a17 fun i18 =>
          (J14 (i18 != (0 : Int)) w9)) (
          (J14 false w9)))) fun b19 w20 =>
    iteB b19 (
      ldA 19 w20 a1 fun cs21 =>
      ldI .i64 w20 (Addr.add a3 4) fun i22 =>
      frame_Frame_to cs21 i22 w20 fun cs23 w24 =>
      stA 19 w24 a5 cs23 fun w25 =>
      ldA 19 w25 a5 fun cs26 =>
      (k (cs26, true) w25)) (
      ldI .i64 w20 (Addr.add a3 0) fun i27 =>
      iteB (i27 == (7 : Int)) (
        ldA 19 w20 a1 fun cs28 =>
        frame_Frame_Passed cs28 w20 fun cs29 w30 =>
        stA 19 w30 a5 cs29 fun w31 =>
        ldA 19 w31 a5 fun cs32 =>
        (k (cs32, true) w31)) (
        ldI .i64 w20 (Addr.add a3 0) fun i33 =>
        iteB (decide (i33 > (5 : Int))) (
          ldA 19 w20 a1 fun cs34 =>
          stA 19 w20 a5 cs34 fun w35 =>
          ldA 19 w35 a5 fun cs36 =>
          (k (cs36, false) w35)) (
          drew w20 fun w37 =>
          ldI .i64 w37 (Addr.add a3 1) fun i38 =>
          ldA 19 w37 a1 fun cs39 =>
          ldA 5 w37 a3 fun cs40 =>
          ldI .i64 w37 (Addr.add a3 0) fun i41 =>
          frame_Frame_sums cs39 cs40 w37 fun s42 w43 =>
          samec 1 (Addr.add a3 0) w37 w43 (
          samec 1 (Addr.add a3 1) w37 w43 (
          ixS s42 i41 1 fun a44 =>
          ldV w43 a44 fun v45 =>
          callF (orcOf [(n_code_Check, (fun args w c => unL [.ag] args fun x => code_Check x w fun r w => c (packV (valL [(.i .i64)] r)) w)), (n_frame_Frame_to, (fun args w c => unL [.ag, (.i .i64)] args fun x => frame_Frame_to x.1 x.2 w fun r w => c (packV (valL [.ag] r)) w)), (n_frame_Frame_Passed, (fun args w c => unL [.ag] args fun x => frame_Frame_Passed x w fun r w => c (packV (valL [.ag] r)) w)), (n_frame_Frame_sums, (fun args w c => unL [.ag, .ag] args fun x => frame_Frame_sums x.1 x.2 w fun r w => c (packV (valL [.s] r)) w)), (n_frame_Frame_sums_1, (fun args w c => unL [.a] args fun x => frame_Frame_sums_1 x w fun r w => c (packV (valL [(.i .i64)] r)) w)), (n_frame_Frame_sums_2, (fun args w c => unL [.a] args fun x => frame_Frame_sums_2 x w fun r w => c (packV (valL [(.i .i64)] r)) w)), (n_frame_Frame_sums_3, (fun args w c => unL [.a, .a] args fun x => frame_Frame_sums_3 x.1 x.2 w fun r w => c (packV (valL [(.i .i64)] r)) w)), (n_frame_Frame_sums_4, (fun args w c => unL [.a, .a] args fun x => frame_Frame_sums_4 x.1 x.2 w fun r w => c (packV (valL [(.i .i64)] r)) w)), (n_frame_Frame_sums_5, (fun args w c => unL [.a, .a] args fun x => frame_Frame_sums_5 x.1 x.2 w fun r w => c (packV (valL [(.i .i64)] r)) w)), (n_frame_Frame_sums_6, (fun args w c => unL [.a, .a] args fun x => frame_Frame_sums_6 x.1 x.2 w fun r w => c (packV (valL [(.i .i64)] r)) w))]) v45 #[] w43 fun v46 w47 =>
          toI .i64 v46 fun i48 =>
          samec 1 (Addr.add a3 1) w37 w47 (
          ixP (Addr.add a1 2) 8 i38 1 fun a49 =>
          stC w47 a49 (.int .i64 i48) fun w50 =>
          ldA 19 w50 a1 fun cs51 =>
          frame_Frame_Passed cs51 w50 fun cs52 w53 =>
          stA 19 w53 a5 cs52 fun w54 =>
          ldA 19 w54 a5 fun cs55 =>
          (k (cs55, true) w54))))))))
theorem e_frame_Frame_Plain (code_Check : Array Value → World → ((Int) → World → Prop) → Prop) (frame_Frame_to : Array Value → Int → World → ((Array Value) → World → Prop) → Prop) (frame_Frame_Passed : Array Value → World → ((Array Value) → World → Prop) → Prop) (frame_Frame_sums : Array Value → Array Value → World → ((Sl) → World → Prop) → Prop) (frame_Frame_sums_1 : Addr → World → ((Int) → World → Prop) → Prop) (frame_Frame_sums_2 : Addr → World → ((Int) → World → Prop) → Prop) (frame_Frame_sums_3 : Addr → Addr → World → ((Int) → World → Prop) → Prop) (frame_Frame_sums_4 : Addr → Addr → World → ((Int) → World → Prop) → Prop) (frame_Frame_sums_5 : Addr → Addr → World → ((Int) → World → Prop) → Prop) (frame_Frame_sums_6 : Addr → Addr → World → ((Int) → World → Prop) → Prop) (x : KT [.ag, .ag]) (w : World) (k : KT [.ag, .b] → World → Prop) : evFn Go.Proofs.Try.prog (orcOf [(n_code_Check, (fun args w c => unL [.ag] args fun x => code_Check x w fun r w => c (packV (valL [(.i .i64)] r)) w)), (n_frame_Frame_to, (fun args w c => unL [.ag, (.i .i64)] args fun x => frame_Frame_to x.1 x.2 w fun r w => c (packV (valL [.ag] r)) w)), (n_frame_Frame_Passed, (fun args w c => unL [.ag] args fun x => frame_Frame_Passed x w fun r w => c (packV (valL [.ag] r)) w)), (n_frame_Frame_sums, (fun args w c => unL [.ag, .ag] args fun x => frame_Frame_sums x.1 x.2 w fun r w => c (packV (valL [.s] r)) w)), (n_frame_Frame_sums_1, (fun args w c => unL [.a] args fun x => frame_Frame_sums_1 x w fun r w => c (packV (valL [(.i .i64)] r)) w)), (n_frame_Frame_sums_2, (fun args w c => unL [.a] args fun x => frame_Frame_sums_2 x w fun r w => c (packV (valL [(.i .i64)] r)) w)), (n_frame_Frame_sums_3, (fun args w c => unL [.a, .a] args fun x => frame_Frame_sums_3 x.1 x.2 w fun r w => c (packV (valL [(.i .i64)] r)) w)), (n_frame_Frame_sums_4, (fun args w c => unL [.a, .a] args fun x => frame_Frame_sums_4 x.1 x.2 w fun r w => c (packV (valL [(.i .i64)] r)) w)), (n_frame_Frame_sums_5, (fun args w c => unL [.a, .a] args fun x => frame_Frame_sums_5 x.1 x.2 w fun r w => c (packV (valL [(.i .i64)] r)) w)), (n_frame_Frame_sums_6, (fun args w c => unL [.a, .a] args fun x => frame_Frame_sums_6 x.1 x.2 w fun r w => c (packV (valL [(.i .i64)] r)) w))]) 34896610620 [(6, [(10, .b)])] Go.Proofs.Try.f32 [.ag, .b] (valL [.ag, .ag] x) w k = frame_Frame_Plain_b code_Check frame_Frame_to frame_Frame_Passed frame_Frame_sums frame_Frame_sums_1 frame_Frame_sums_2 frame_Frame_sums_3 frame_Frame_sums_4 frame_Frame_sums_5 frame_Frame_sums_6 x.1 x.2 w k := by kernel_rfl
def frame_Frame_Plain (f_0 : Array Value) (i_1 : Array Value) (w : World) (k : (Array Value × Bool) → World → Prop) : Prop := frame_Frame_Plain_b code_Check frame_Frame_to frame_Frame_Passed frame_Frame_sums frame_Frame_sums_1 frame_Frame_sums_2 frame_Frame_sums_3 frame_Frame_sums_4 frame_Frame_sums_5 frame_Frame_sums_6 f_0 i_1 w k
def d_frame_Frame_Plain : Dec := fun args w c => unL [.ag, .ag] args fun x => frame_Frame_Plain x.1 x.2 w fun r w => c (packV (valL [.ag, .b] r)) w
theorem s_frame_Frame_Plain : Sound Go.Proofs.Try.prog n_frame_Frame_Plain d_frame_Frame_Plain :=
  sound_of (mask := 34896610620) (h := [(6, [(10, .b)])]) (ds := [(n_code_Check, d_code_Check), (n_frame_Frame_to, d_frame_Frame_to), (n_frame_Frame_Passed, d_frame_Frame_Passed), (n_frame_Frame_sums, d_frame_Frame_sums), (n_frame_Frame_sums_1, d_frame_Frame_sums_1), (n_frame_Frame_sums_2, d_frame_Frame_sums_2), (n_frame_Frame_sums_3, d_frame_Frame_sums_3), (n_frame_Frame_sums_4, d_frame_Frame_sums_4), (n_frame_Frame_sums_5, d_frame_Frame_sums_5), (n_frame_Frame_sums_6, d_frame_Frame_sums_6)]) mixed Go.Proofs.Try.func32 ⟨s_code_Check, s_frame_Frame_to, s_frame_Frame_Passed, s_frame_Frame_sums, s_frame_Frame_sums_1, s_frame_Frame_sums_2, s_frame_Frame_sums_3, s_frame_Frame_sums_4, s_frame_Frame_sums_5, s_frame_Frame_sums_6, trivial⟩
    [.ag, .ag] [.ag, .b] (by kernel_rfl) (fun x w k => frame_Frame_Plain x.1 x.2 w k) (fun x w k => e_frame_Frame_Plain code_Check frame_Frame_to frame_Frame_Passed frame_Frame_sums frame_Frame_sums_1 frame_Frame_sums_2 frame_Frame_sums_3 frame_Frame_sums_4 frame_Frame_sums_5 frame_Frame_sums_6 x w k)

end Go.Proofs.Ytgkfbagclkjilaa
