/-
  The functions of this seat, as the evaluator gives them: printed by a program; each tied to its function by the kernel.
-/
import Derived.Test.YtheallacpidcmaaProg
import Derived.Test.YtheallacpidcmaaEvR
import Derived.KernelRfl
set_option maxRecDepth 100000
set_option linter.unusedVariables false
namespace Go.Proofs.Ytheallacpidcmaa
open Go Go.Ev
theorem mixed : Go.Proofs.Try.prog.follows .mixedOrders = true := by kernel_rfl

abbrev n_pelotonlaw13_ClockOrders : Nat := 9
abbrev n_pelotonlaw13_ClockOnce : Nat := 10
abbrev n_pelotonlaw13_awake : Nat := 42
abbrev n_clock_New : Nat := 43
abbrev n_clock_Clock_Set : Nat := 44
abbrev n_clock_Clock_Len : Nat := 45
abbrev n_clock_Clock_Advance : Nat := 46
abbrev n_pelotonlaw13_same : Nat := 47
abbrev n_pelotonlaw13_when : Nat := 48
abbrev n_clock_Clock_Now : Nat := 49
abbrev n_pelotonlaw13_do : Nat := 50
abbrev n_pelotonlaw13_is : Nat := 51
abbrev n_pelotonref13_Clock_Copy : Nat := 52
abbrev n_pelotonref13_Clock_Set : Nat := 53
abbrev n_pelotonref13_Clock_Drop : Nat := 54
abbrev n_pelotonref13_Clock_Advance : Nat := 55
abbrev n_clock_Clock_Next : Nat := 57
abbrev n_clock_Clock_Drop : Nat := 58
abbrev n_container_heap_Push : Nat := 83
abbrev n_container_heap_Pop : Nat := 84
abbrev n_pelotonref13_Clock_First : Nat := 85
abbrev n_pelotonref13_Clock_Find : Nat := 86
abbrev n_slices_Clone_clock_due_clock_deadline_ : Nat := 87
abbrev n_container_heap_Remove : Nat := 89
abbrev n_slices_Index_clock_due_clock_deadline_ : Nat := 90
abbrev n_container_heap_up : Nat := 102
abbrev n_container_heap_down : Nat := 103
abbrev n_clock_due_Len : Nat := 144
abbrev n_clock_due_Less : Nat := 145
abbrev n_clock_due_Swap : Nat := 146
abbrev n_clock_due_Pop : Nat := 147
abbrev n_clock_due_Push : Nat := 148

/-- peloton/clock.New -/
def clock_New  (w : World) (k : (Option Addr) → World → Prop) : Prop :=
  mkMap Go.Proofs.Try.prog 135 none w fun p1 w2 =>
  newC w2 #[(.int .i64 (0 : Int)), (.slice none 0 0), (.map p1)] 139 fun a3 w4 =>
  (k (some a3) w4)
def d_clock_New : Dec := fun args w c => unL [] args fun x => clock_New  w fun r w => c (packV (valL [.p] r)) w
theorem s_clock_New : Sound Go.Proofs.Try.prog n_clock_New d_clock_New :=
  sound_of (mask := 1) (h := []) (ds := []) mixed Go.Proofs.Try.func43 trivial
    [] [.p] (by kernel_rfl) (fun x w k => clock_New  w k) (fun x w k => by kernel_rfl)

/-- (peloton/clock.due).Less -/
def clock_due_Less (d_0 : Sl) (i_1 : Int) (j_2 : Int) (w : World) (k : (Bool) → World → Prop) : Prop :=
  drew w fun w1 =>
  ixS d_0 i_1 2 fun a2 =>
  ldI .i64 w1 (Addr.add a2 0) fun i3 =>
  ixS d_0 j_2 2 fun a4 =>
  ldI .i64 w1 (Addr.add a4 0) fun i5 =>
  iteB (decide (i3 < i5)) (
    (k true w1)) (
    ixS d_0 i_1 2 fun a6 =>
    ldI .i64 w1 (Addr.add a6 0) fun i7 =>
    ixS d_0 j_2 2 fun a8 =>
    ldI .i64 w1 (Addr.add a8 0) fun i9 =>
    iteB (i7 == i9) (
      ixS d_0 i_1 2 fun a10 =>
      ldI .i64 w1 (Addr.add a10 1) fun i11 =>
      ixS d_0 j_2 2 fun a12 =>
      ldI .i64 w1 (Addr.add a12 1) fun i13 =>
      (k (decide (i11 < i13)) w1)) (
      (k false w1)))
def d_clock_due_Less : Dec := fun args w c => unL [.s, (.i .i64), (.i .i64)] args fun x => clock_due_Less x.1 x.2.1 x.2.2 w fun r w => c (packV (valL [.b] r)) w
theorem s_clock_due_Less : Sound Go.Proofs.Try.prog n_clock_due_Less d_clock_due_Less :=
  sound_of (mask := 71) (h := []) (ds := []) mixed Go.Proofs.Try.func145 trivial
    [.s, (.i .i64), (.i .i64)] [.b] (by kernel_rfl) (fun x w k => clock_due_Less x.1 x.2.1 x.2.2 w k) (fun x w k => by kernel_rfl)

/-- (peloton/clock.due).Swap -/
def clock_due_Swap (d_0 : Sl) (i_1 : Int) (j_2 : Int) (w : World) (k : Unit → World → Prop) : Prop :=
  drew w fun w1 =>
  ixS d_0 j_2 2 fun a2 =>
  ldA 2 w1 a2 fun cs3 =>
  ixS d_0 i_1 2 fun a4 =>
  ldA 2 w1 a4 fun cs5 =>
  ixS d_0 i_1 2 fun a6 =>
  stA 2 w1 a6 cs3 fun w7 =>
  ixS d_0 j_2 2 fun a8 =>
  stA 2 w7 a8 cs5 fun w9 =>
  (k () w9)
def d_clock_due_Swap : Dec := fun args w c => unL [.s, (.i .i64), (.i .i64)] args fun x => clock_due_Swap x.1 x.2.1 x.2.2 w fun r w => c (packV (valL [] r)) w
theorem s_clock_due_Swap : Sound Go.Proofs.Try.prog n_clock_due_Swap d_clock_due_Swap :=
  sound_of (mask := 0) (h := []) (ds := []) mixed Go.Proofs.Try.func146 trivial
    [.s, (.i .i64), (.i .i64)] [] (by kernel_rfl) (fun x w k => clock_due_Swap x.1 x.2.1 x.2.2 w k) (fun x w k => by kernel_rfl)

/-- container/heap.up -/
def container_heap_up_b (clock_due_Less : Sl → Int → Int → World → ((Bool) → World → Prop) → Prop) (clock_due_Swap : Sl → Int → Int → World → (Unit → World → Prop) → Prop) (h_0 : Value) (j_1 : Int) (w : World) (k : Unit → World → Prop) : Prop :=
  loopP (S := Int) (fun C1 i2 w3 =>
    joinP (S := Bool) (fun J4 =>
      iteB ((divV .i64 (IntKind.wrap .i64 (i2 - (1 : Int))) (2 : Int)) == i2) (
        (J4 true w3)) (
        callM (orcOf [(n_clock_due_Less, (fun args w c => unL [.s, (.i .i64), (.i .i64)] args fun x => clock_due_Less x.1 x.2.1 x.2.2 w fun r w => c (packV (valL [.b] r)) w)), (n_clock_due_Swap, (fun args w c => unL [.s, (.i .i64), (.i .i64)] args fun x => clock_due_Swap x.1 x.2.1 x.2.2 w fun r w => c (packV (valL [] r)) w))]) Go.Proofs.Try.prog h_0 "Less" #[(.int .i64 i2), (.int .i64 (divV .i64 (IntKind.wrap .i64 (i2 - (1 : Int))) (2 : Int)))] w3 fun v5 w6 =>
        toB v5 fun b7 =>
        (J4 (!b7) w6))) fun b8 w9 =>
    iteB b8 (
      (k () w9)) (
      callM (orcOf [(n_clock_due_Less, (fun args w c => unL [.s, (.i .i64), (.i .i64)] args fun x => clock_due_Less x.1 x.2.1 x.2.2 w fun r w => c (packV (valL [.b] r)) w)), (n_clock_due_Swap, (fun args w c => unL [.s, (.i .i64), (.i .i64)] args fun x => clock_due_Swap x.1 x.2.1 x.2.2 w fun r w => c (packV (valL [] r)) w))]) Go.Proofs.Try.prog h_0 "Swap" #[(.int .i64 (divV .i64 (IntKind.wrap .i64 (i2 - (1 : Int))) (2 : Int))), (.int .i64 i2)] w9 fun v10 w11 =>
      unT [] v10 fun (u12 : Unit) =>
      (C1 (divV .i64 (IntKind.wrap .i64 (i2 - (1 : Int))) (2 : Int)) w11))) j_1 w
theorem e_container_heap_up (clock_due_Less : Sl → Int → Int → World → ((Bool) → World → Prop) → Prop) (clock_due_Swap : Sl → Int → Int → World → (Unit → World → Prop) → Prop) (x : KT [.raw, (.i .i64)]) (w : World) (k : KT [] → World → Prop) : evFn Go.Proofs.Try.prog (orcOf [(n_clock_due_Less, (fun args w c => unL [.s, (.i .i64), (.i .i64)] args fun x => clock_due_Less x.1 x.2.1 x.2.2 w fun r w => c (packV (valL [.b] r)) w)), (n_clock_due_Swap, (fun args w c => unL [.s, (.i .i64), (.i .i64)] args fun x => clock_due_Swap x.1 x.2.1 x.2.2 w fun r w => c (packV (valL [] r)) w))]) 131091 [(1, [(1, (.i .i64))]), (4, [(17, .b)])] Go.Proofs.Try.f102 [] (valL [.raw, (.i .i64)] x) w k = container_heap_up_b clock_due_Less clock_due_Swap x.1 x.2 w k := by kernel_rfl
def container_heap_up (h_0 : Value) (j_1 : Int) (w : World) (k : Unit → World → Prop) : Prop := container_heap_up_b clock_due_Less clock_due_Swap h_0 j_1 w k
def d_container_heap_up : Dec := fun args w c => unL [.raw, (.i .i64)] args fun x => container_heap_up x.1 x.2 w fun r w => c (packV (valL [] r)) w
theorem s_container_heap_up : Sound Go.Proofs.Try.prog n_container_heap_up d_container_heap_up :=
  sound_of (mask := 131091) (h := [(1, [(1, (.i .i64))]), (4, [(17, .b)])]) (ds := [(n_clock_due_Less, d_clock_due_Less), (n_clock_due_Swap, d_clock_due_Swap)]) mixed Go.Proofs.Try.func102 ⟨s_clock_due_Less, s_clock_due_Swap, trivial⟩
    [.raw, (.i .i64)] [] (by kernel_rfl) (fun x w k => container_heap_up x.1 x.2 w k) (fun x w k => e_container_heap_up clock_due_Less clock_due_Swap x w k)

/-- (*peloton/clock.due).Push -/
def clock_due_Push (d_0 : Option Addr) (x_1 : Value) (w : World) (k : Unit → World → Prop) : Prop :=
  tyA Go.Proofs.Try.prog x_1 20 144 true w fun v1 w2 =>
  unT [.ag, .b] v1 fun (x3 : Array Value × Bool) =>
  newC w2 #[(.int .i64 (0 : Int)), (.int .i64 (0 : Int))] 144 fun a4 w5 =>
  stA 2 w5 a4 x3.1 fun w6 =>
  iteB x3.2 (
    drew w6 fun w7 =>
    nn d_0 fun a8 =>
    ldS w7 a8 fun s9 =>
    ldA 2 w7 a4 fun cs10 =>
    spl #[(.int .i64 (0 : Int)), (.int .i64 (0 : Int))] 0 2 cs10 fun cs11 =>
    newC w7 cs11 144 fun a12 w13 =>
    samec 1 a8 w7 w13 (
    bApp Go.Proofs.Try.prog #[137, 137] 137 [(.slice s9.a s9.n s9.c), (.slice (some a12) 1 1)] w13 fun s14 w15 =>
    nn d_0 fun a16 =>
    stC w15 a16 (.slice s14.a s14.n s14.c) fun w17 =>
    (k () w17))) (
    (k () w6))
def d_clock_due_Push : Dec := fun args w c => unL [.p, .raw] args fun x => clock_due_Push x.1 x.2 w fun r w => c (packV (valL [] r)) w
theorem s_clock_due_Push : Sound Go.Proofs.Try.prog n_clock_due_Push d_clock_due_Push :=
  sound_of (mask := 2097) (h := []) (ds := []) mixed Go.Proofs.Try.func148 trivial
    [.p, .raw] [] (by kernel_rfl) (fun x w k => clock_due_Push x.1 x.2 w k) (fun x w k => by kernel_rfl)

/-- (peloton/clock.due).Len -/
def clock_due_Len (d_0 : Sl) (w : World) (k : (Int) → World → Prop) : Prop :=
  (k ((d_0.n : Nat) : Int) w)
def d_clock_due_Len : Dec := fun args w c => unL [.s] args fun x => clock_due_Len x w fun r w => c (packV (valL [(.i .i64)] r)) w
theorem s_clock_due_Len : Sound Go.Proofs.Try.prog n_clock_due_Len d_clock_due_Len :=
  sound_of (mask := 5) (h := []) (ds := []) mixed Go.Proofs.Try.func144 trivial
    [.s] [(.i .i64)] (by kernel_rfl) (fun x w k => clock_due_Len x w k) (fun x w k => by kernel_rfl)

/-- container/heap.Push -/
def container_heap_Push_b (container_heap_up : Value → Int → World → (Unit → World → Prop) → Prop) (clock_due_Push : Option Addr → Value → World → (Unit → World → Prop) → Prop) (clock_due_Len : Sl → World → ((Int) → World → Prop) → Prop) (h_0 : Value) (x_1 : Value) (w : World) (k : Unit → World → Prop) : Prop :=
  callM (orcOf [(n_container_heap_up, (fun args w c => unL [.raw, (.i .i64)] args fun x => container_heap_up x.1 x.2 w fun r w => c (packV (valL [] r)) w)), (n_clock_due_Push, (fun args w c => unL [.p, .raw] args fun x => clock_due_Push x.1 x.2 w fun r w => c (packV (valL [] r)) w)), (n_clock_due_Len, (fun args w c => unL [.s] args fun x => clock_due_Len x w fun r w => c (packV (valL [(.i .i64)] r)) w))]) Go.Proofs.Try.prog h_0 "Push" #[x_1] w fun v1 w2 =>
  unT [] v1 fun (u3 : Unit) =>
  callM (orcOf [(n_container_heap_up, (fun args w c => unL [.raw, (.i .i64)] args fun x => container_heap_up x.1 x.2 w fun r w => c (packV (valL [] r)) w)), (n_clock_due_Push, (fun args w c => unL [.p, .raw] args fun x => clock_due_Push x.1 x.2 w fun r w => c (packV (valL [] r)) w)), (n_clock_due_Len, (fun args w c => unL [.s] args fun x => clock_due_Len x w fun r w => c (packV (valL [(.i .i64)] r)) w))]) Go.Proofs.Try.prog h_0 "Len" #[] w2 fun v4 w5 =>
  toI .i64 v4 fun i6 =>
  container_heap_up h_0 (IntKind.wrap .i64 (i6 - (1 : Int))) w5 fun _u w7 =>
  (k () w7)
theorem e_container_heap_Push (container_heap_up : Value → Int → World → (Unit → World → Prop) → Prop) (clock_due_Push : Option Addr → Value → World → (Unit → World → Prop) → Prop) (clock_due_Len : Sl → World → ((Int) → World → Prop) → Prop) (x : KT [.raw, .raw]) (w : World) (k : KT [] → World → Prop) : evFn Go.Proofs.Try.prog (orcOf [(n_container_heap_up, (fun args w c => unL [.raw, (.i .i64)] args fun x => container_heap_up x.1 x.2 w fun r w => c (packV (valL [] r)) w)), (n_clock_due_Push, (fun args w c => unL [.p, .raw] args fun x => clock_due_Push x.1 x.2 w fun r w => c (packV (valL [] r)) w)), (n_clock_due_Len, (fun args w c => unL [.s] args fun x => clock_due_Len x w fun r w => c (packV (valL [(.i .i64)] r)) w))]) 1 [] Go.Proofs.Try.f83 [] (valL [.raw, .raw] x) w k = container_heap_Push_b container_heap_up clock_due_Push clock_due_Len x.1 x.2 w k := by kernel_rfl
def container_heap_Push (h_0 : Value) (x_1 : Value) (w : World) (k : Unit → World → Prop) : Prop := container_heap_Push_b container_heap_up clock_due_Push clock_due_Len h_0 x_1 w k
def d_container_heap_Push : Dec := fun args w c => unL [.raw, .raw] args fun x => container_heap_Push x.1 x.2 w fun r w => c (packV (valL [] r)) w
theorem s_container_heap_Push : Sound Go.Proofs.Try.prog n_container_heap_Push d_container_heap_Push :=
  sound_of (mask := 1) (h := []) (ds := [(n_container_heap_up, d_container_heap_up), (n_clock_due_Push, d_clock_due_Push), (n_clock_due_Len, d_clock_due_Len)]) mixed Go.Proofs.Try.func83 ⟨s_container_heap_up, s_clock_due_Push, s_clock_due_Len, trivial⟩
    [.raw, .raw] [] (by kernel_rfl) (fun x w k => container_heap_Push x.1 x.2 w k) (fun x w k => e_container_heap_Push container_heap_up clock_due_Push clock_due_Len x w k)

/-- (*peloton/clock.Clock).Set -/
def clock_Clock_Set_b (container_heap_Push : Value → Value → World → (Unit → World → Prop) → Prop) (c_0 : Option Addr) (id_1 : Int) (in_2 : Int) (w : World) (k : (Int) → World → Prop) : Prop :=
  iteB (Option.isNone c_0) (
    (k (2 : Int) w)) (
    iteB (((decide (id_1 < (0 : Int))) || (decide (in_2 < (1 : Int)))) || (decide (in_2 > (1099511627776 : Int)))) (
      (k (10 : Int) w)) (
      nn c_0 fun a1 =>
      ldM w (Addr.add a1 2) fun p2 =>
      Go.Ev.look Go.Proofs.Try.prog 135 (.map p2) (.int .i64 id_1) true w fun v3 w4 =>
      unT [(.i .i64), .b] v3 fun (x5 : Int × Bool) =>
      iteB x5.2 (
        (k (18 : Int) w4)) (
        drew w4 fun w6 =>
        nn c_0 fun a7 =>
        ldM w6 (Addr.add a7 2) fun p8 =>
        nn c_0 fun a9 =>
        ldI .i64 w6 (Addr.add a9 0) fun i10 =>
        mapPut Go.Proofs.Try.prog 135 (.map p8) (.int .i64 id_1) (.int .i64 (IntKind.wrap .i64 (i10 + in_2))) w6 fun w11 =>
        drew w11 fun w12 =>
        nn c_0 fun a13 =>
        nn c_0 fun a14 =>
        ldI .i64 w12 (Addr.add a14 0) fun i15 =>
        container_heap_Push (.iface 142 (.pointer (some (Addr.add a13 1)))) (.iface 144 (.agg #[(.int .i64 (IntKind.wrap .i64 (i15 + in_2))), (.int .i64 id_1)])) w12 fun _u w16 =>
        (k (0 : Int) w16))))
theorem e_clock_Clock_Set (container_heap_Push : Value → Value → World → (Unit → World → Prop) → Prop) (x : KT [.p, (.i .i64), (.i .i64)]) (w : World) (k : KT [(.i .i64)] → World → Prop) : evFn Go.Proofs.Try.prog (orcOf [(n_container_heap_Push, (fun args w c => unL [.raw, .raw] args fun x => container_heap_Push x.1 x.2 w fun r w => c (packV (valL [] r)) w))]) 4294972231 [] Go.Proofs.Try.f44 [(.i .i64)] (valL [.p, (.i .i64), (.i .i64)] x) w k = clock_Clock_Set_b container_heap_Push x.1 x.2.1 x.2.2 w k := by kernel_rfl
def clock_Clock_Set (c_0 : Option Addr) (id_1 : Int) (in_2 : Int) (w : World) (k : (Int) → World → Prop) : Prop := clock_Clock_Set_b container_heap_Push c_0 id_1 in_2 w k
def d_clock_Clock_Set : Dec := fun args w c => unL [.p, (.i .i64), (.i .i64)] args fun x => clock_Clock_Set x.1 x.2.1 x.2.2 w fun r w => c (packV (valL [(.i .i64)] r)) w
theorem s_clock_Clock_Set : Sound Go.Proofs.Try.prog n_clock_Clock_Set d_clock_Clock_Set :=
  sound_of (mask := 4294972231) (h := []) (ds := [(n_container_heap_Push, d_container_heap_Push)]) mixed Go.Proofs.Try.func44 ⟨s_container_heap_Push, trivial⟩
    [.p, (.i .i64), (.i .i64)] [(.i .i64)] (by kernel_rfl) (fun x w k => clock_Clock_Set x.1 x.2.1 x.2.2 w k) (fun x w k => e_clock_Clock_Set container_heap_Push x w k)

/-- (*peloton/clock.Clock).Next -/
def clock_Clock_Next (c_0 : Option Addr) (w : World) (k : (Int × Int × Bool) → World → Prop) : Prop :=
  joinP (S := Bool) (fun J1 =>
    iteB (Option.isNone c_0) (
      (J1 true w)) (
      nn c_0 fun a2 =>
      ldS w (Addr.add a2 1) fun s3 =>
      (J1 (((s3.n : Nat) : Int) == (0 : Int)) w))) fun b4 w5 =>
  iteB b4 (
    (k ((0 : Int), ((0 : Int), false)) w5)) (
    drew w5 fun w6 =>
    nn c_0 fun a7 =>
    ldS w6 (Addr.add a7 1) fun s8 =>
    ixS s8 (0 : Int) 2 fun a9 =>
    ldI .i64 w6 (Addr.add a9 0) fun i10 =>
    nn c_0 fun a11 =>
    ldS w6 (Addr.add a11 1) fun s12 =>
    ixS s12 (0 : Int) 2 fun a13 =>
    ldI .i64 w6 (Addr.add a13 1) fun i14 =>
    (k (i10, (i14, true)) w6))
def d_clock_Clock_Next : Dec := fun args w c => unL [.p] args fun x => clock_Clock_Next x w fun r w => c (packV (valL [(.i .i64), (.i .i64), .b] r)) w
theorem s_clock_Clock_Next : Sound Go.Proofs.Try.prog n_clock_Clock_Next d_clock_Clock_Next :=
  sound_of (mask := 16413) (h := [(1, [(14, .b)])]) (ds := []) mixed Go.Proofs.Try.func57 trivial
    [.p] [(.i .i64), (.i .i64), .b] (by kernel_rfl) (fun x w k => clock_Clock_Next x w k) (fun x w k => by kernel_rfl)

/-- container/heap.down -/
def container_heap_down_b (clock_due_Less : Sl → Int → Int → World → ((Bool) → World → Prop) → Prop) (clock_due_Swap : Sl → Int → Int → World → (Unit → World → Prop) → Prop) (h_0 : Value) (i0_1 : Int) (n_2 : Int) (w : World) (k : (Bool) → World → Prop) : Prop :=
  loopP (S := Int) (fun C1 i2 w3 =>
    iteB ((decide ((IntKind.wrap .i64 ((IntKind.wrap .i64 ((2 : Int) * i2)) + (1 : Int))) ≥ n_2)) || (decide ((IntKind.wrap .i64 ((IntKind.wrap .i64 ((2 : Int) * i2)) + (1 : Int))) < (0 : Int)))) (
      (k (decide (i2 > i0_1)) w3)) (
      joinP (S := Bool) (fun J4 =>
        iteB (decide ((IntKind.wrap .i64 ((IntKind.wrap .i64 ((IntKind.wrap .i64 ((2 : Int) * i2)) + (1 : Int))) + (1 : Int))) < n_2)) (
          callM (orcOf [(n_clock_due_Less, (fun args w c => unL [.s, (.i .i64), (.i .i64)] args fun x => clock_due_Less x.1 x.2.1 x.2.2 w fun r w => c (packV (valL [.b] r)) w)), (n_clock_due_Swap, (fun args w c => unL [.s, (.i .i64), (.i .i64)] args fun x => clock_due_Swap x.1 x.2.1 x.2.2 w fun r w => c (packV (valL [] r)) w))]) Go.Proofs.Try.prog h_0 "Less" #[(.int .i64 (IntKind.wrap .i64 ((IntKind.wrap .i64 ((IntKind.wrap .i64 ((2 : Int) * i2)) + (1 : Int))) + (1 : Int)))), (.int .i64 (IntKind.wrap .i64 ((IntKind.wrap .i64 ((2 : Int) * i2)) + (1 : Int))))] w3 fun v5 w6 =>
          toB v5 fun b7 =>
          (J4 b7 w6)) (
          (J4 false w3))) fun b8 w9 =>
      joinP (S := Int) (fun J10 =>
        iteB b8 (
          (J10 (IntKind.wrap .i64 ((IntKind.wrap .i64 ((IntKind.wrap .i64 ((2 : Int) * i2)) + (1 : Int))) + (1 : Int))) w9)) (
          (J10 (IntKind.wrap .i64 ((IntKind.wrap .i64 ((2 : Int) * i2)) + (1 : Int))) w9))) fun i11 w12 =>
      callM (orcOf [(n_clock_due_Less, (fun args w c => unL [.s, (.i .i64), (.i .i64)] args fun x => clock_due_Less x.1 x.2.1 x.2.2 w fun r w => c (packV (valL [.b] r)) w)), (n_clock_due_Swap, (fun args w c => unL [.s, (.i .i64), (.i .i64)] args fun x => clock_due_Swap x.1 x.2.1 x.2.2 w fun r w => c (packV (valL [] r)) w))]) Go.Proofs.Try.prog h_0 "Less" #[(.int .i64 i11), (.int .i64 i2)] w12 fun v13 w14 =>
      toB v13 fun b15 =>
      iteB (!b15) (
        (k (decide (i2 > i0_1)) w14)) (
        callM (orcOf [(n_clock_due_Less, (fun args w c => unL [.s, (.i .i64), (.i .i64)] args fun x => clock_due_Less x.1 x.2.1 x.2.2 w fun r w => c (packV (valL [.b] r)) w)), (n_clock_due_Swap, (fun args w c => unL [.s, (.i .i64), (.i .i64)] args fun x => clock_due_Swap x.1 x.2.1 x.2.2 w fun r w => c (packV (valL [] r)) w))]) Go.Proofs.Try.prog h_0 "Swap" #[(.int .i64 i2), (.int .i64 i11)] w14 fun v16 w17 =>
        unT [] v16 fun (u18 : Unit) =>
        (C1 i11 w17)))) i0_1 w
theorem e_container_heap_down (clock_due_Less : Sl → Int → Int → World → ((Bool) → World → Prop) → Prop) (clock_due_Swap : Sl → Int → Int → World → (Unit → World → Prop) → Prop) (x : KT [.raw, (.i .i64), (.i .i64)]) (w : World) (k : KT [.b] → World → Prop) : evFn Go.Proofs.Try.prog (orcOf [(n_clock_due_Less, (fun args w c => unL [.s, (.i .i64), (.i .i64)] args fun x => clock_due_Less x.1 x.2.1 x.2.2 w fun r w => c (packV (valL [.b] r)) w)), (n_clock_due_Swap, (fun args w c => unL [.s, (.i .i64), (.i .i64)] args fun x => clock_due_Swap x.1 x.2.1 x.2.2 w fun r w => c (packV (valL [] r)) w))]) 558347847623 [(3, [(7, (.i .i64))]), (10, [(33, .b)]), (11, [(9, (.i .i64))])] Go.Proofs.Try.f103 [.b] (valL [.raw, (.i .i64), (.i .i64)] x) w k = container_heap_down_b clock_due_Less clock_due_Swap x.1 x.2.1 x.2.2 w k := by kernel_rfl
def container_heap_down (h_0 : Value) (i0_1 : Int) (n_2 : Int) (w : World) (k : (Bool) → World → Prop) : Prop := container_heap_down_b clock_due_Less clock_due_Swap h_0 i0_1 n_2 w k
def d_container_heap_down : Dec := fun args w c => unL [.raw, (.i .i64), (.i .i64)] args fun x => container_heap_down x.1 x.2.1 x.2.2 w fun r w => c (packV (valL [.b] r)) w
theorem s_container_heap_down : Sound Go.Proofs.Try.prog n_container_heap_down d_container_heap_down :=
  sound_of (mask := 558347847623) (h := [(3, [(7, (.i .i64))]), (10, [(33, .b)]), (11, [(9, (.i .i64))])]) (ds := [(n_clock_due_Less, d_clock_due_Less), (n_clock_due_Swap, d_clock_due_Swap)]) mixed Go.Proofs.Try.func103 ⟨s_clock_due_Less, s_clock_due_Swap, trivial⟩
    [.raw, (.i .i64), (.i .i64)] [.b] (by kernel_rfl) (fun x w k => container_heap_down x.1 x.2.1 x.2.2 w k) (fun x w k => e_container_heap_down clock_due_Less clock_due_Swap x w k)

/-- (*peloton/clock.due).Pop -/
def clock_due_Pop (d_0 : Option Addr) (w : World) (k : (Value) → World → Prop) : Prop :=
  nn d_0 fun a1 =>
  ldS w a1 fun s2 =>
  nn d_0 fun a3 =>
  ldS w a3 fun s4 =>
  ixS s4 (IntKind.wrap .i64 (((s2.n : Nat) : Int) - (1 : Int))) 2 fun a5 =>
  ldA 2 w a5 fun cs6 =>
  newC w #[(.int .i64 (0 : Int)), (.int .i64 (0 : Int))] 144 fun a7 w8 =>
  stA 2 w8 a7 cs6 fun w9 =>
  nn d_0 fun a10 =>
  ldS w9 a10 fun s11 =>
  slS s11 2 (0 : Int) (IntKind.wrap .i64 (((s2.n : Nat) : Int) - (1 : Int))) fun s12 =>
  nn d_0 fun a13 =>
  stC w9 a13 (.slice s12.a s12.n s12.c) fun w14 =>
  ldA 2 w14 a7 fun cs15 =>
  (k (.iface 144 (.agg cs15)) w14)
def d_clock_due_Pop : Dec := fun args w c => unL [.p] args fun x => clock_due_Pop x w fun r w => c (packV (valL [.raw] r)) w
theorem s_clock_due_Pop : Sound Go.Proofs.Try.prog n_clock_due_Pop d_clock_due_Pop :=
  sound_of (mask := 29) (h := []) (ds := []) mixed Go.Proofs.Try.func147 trivial
    [.p] [.raw] (by kernel_rfl) (fun x w k => clock_due_Pop x w k) (fun x w k => by kernel_rfl)

/-- container/heap.Pop -/
def container_heap_Pop_b (container_heap_down : Value → Int → Int → World → ((Bool) → World → Prop) → Prop) (clock_due_Len : Sl → World → ((Int) → World → Prop) → Prop) (clock_due_Swap : Sl → Int → Int → World → (Unit → World → Prop) → Prop) (clock_due_Pop : Option Addr → World → ((Value) → World → Prop) → Prop) (h_0 : Value) (w : World) (k : (Value) → World → Prop) : Prop :=
  callM (orcOf [(n_container_heap_down, (fun args w c => unL [.raw, (.i .i64), (.i .i64)] args fun x => container_heap_down x.1 x.2.1 x.2.2 w fun r w => c (packV (valL [.b] r)) w)), (n_clock_due_Len, (fun args w c => unL [.s] args fun x => clock_due_Len x w fun r w => c (packV (valL [(.i .i64)] r)) w)), (n_clock_due_Swap, (fun args w c => unL [.s, (.i .i64), (.i .i64)] args fun x => clock_due_Swap x.1 x.2.1 x.2.2 w fun r w => c (packV (valL [] r)) w)), (n_clock_due_Pop, (fun args w c => unL [.p] args fun x => clock_due_Pop x w fun r w => c (packV (valL [.raw] r)) w))]) Go.Proofs.Try.prog h_0 "Len" #[] w fun v1 w2 =>
  toI .i64 v1 fun i3 =>
  callM (orcOf [(n_container_heap_down, (fun args w c => unL [.raw, (.i .i64), (.i .i64)] args fun x => container_heap_down x.1 x.2.1 x.2.2 w fun r w => c (packV (valL [.b] r)) w)), (n_clock_due_Len, (fun args w c => unL [.s] args fun x => clock_due_Len x w fun r w => c (packV (valL [(.i .i64)] r)) w)), (n_clock_due_Swap, (fun args w c => unL [.s, (.i .i64), (.i .i64)] args fun x => clock_due_Swap x.1 x.2.1 x.2.2 w fun r w => c (packV (valL [] r)) w)), (n_clock_due_Pop, (fun args w c => unL [.p] args fun x => clock_due_Pop x w fun r w => c (packV (valL [.raw] r)) w))]) Go.Proofs.Try.prog h_0 "Swap" #[(.int .i64 (0 : Int)), (.int .i64 (IntKind.wrap .i64 (i3 - (1 : Int))))] w2 fun v4 w5 =>
  unT [] v4 fun (u6 : Unit) =>
  container_heap_down h_0 (0 : Int) (IntKind.wrap .i64 (i3 - (1 : Int))) w5 fun b7 w8 =>
  callM (orcOf [(n_container_heap_down, (fun args w c => unL [.raw, (.i .i64), (.i .i64)] args fun x => container_heap_down x.1 x.2.1 x.2.2 w fun r w => c (packV (valL [.b] r)) w)), (n_clock_due_Len, (fun args w c => unL [.s] args fun x => clock_due_Len x w fun r w => c (packV (valL [(.i .i64)] r)) w)), (n_clock_due_Swap, (fun args w c => unL [.s, (.i .i64), (.i .i64)] args fun x => clock_due_Swap x.1 x.2.1 x.2.2 w fun r w => c (packV (valL [] r)) w)), (n_clock_due_Pop, (fun args w c => unL [.p] args fun x => clock_due_Pop x w fun r w => c (packV (valL [.raw] r)) w))]) Go.Proofs.Try.prog h_0 "Pop" #[] w8 fun v9 w10 =>
  (k v9 w10)
theorem e_container_heap_Pop (container_heap_down : Value → Int → Int → World → ((Bool) → World → Prop) → Prop) (clock_due_Len : Sl → World → ((Int) → World → Prop) → Prop) (clock_due_Swap : Sl → Int → Int → World → (Unit → World → Prop) → Prop) (clock_due_Pop : Option Addr → World → ((Value) → World → Prop) → Prop) (x : KT [.raw]) (w : World) (k : KT [.raw] → World → Prop) : evFn Go.Proofs.Try.prog (orcOf [(n_container_heap_down, (fun args w c => unL [.raw, (.i .i64), (.i .i64)] args fun x => container_heap_down x.1 x.2.1 x.2.2 w fun r w => c (packV (valL [.b] r)) w)), (n_clock_due_Len, (fun args w c => unL [.s] args fun x => clock_due_Len x w fun r w => c (packV (valL [(.i .i64)] r)) w)), (n_clock_due_Swap, (fun args w c => unL [.s, (.i .i64), (.i .i64)] args fun x => clock_due_Swap x.1 x.2.1 x.2.2 w fun r w => c (packV (valL [] r)) w)), (n_clock_due_Pop, (fun args w c => unL [.p] args fun x => clock_due_Pop x w fun r w => c (packV (valL [.raw] r)) w))]) 13 [] Go.Proofs.Try.f84 [.raw] (valL [.raw] x) w k = container_heap_Pop_b container_heap_down clock_due_Len clock_due_Swap clock_due_Pop x w k := by kernel_rfl
def container_heap_Pop (h_0 : Value) (w : World) (k : (Value) → World → Prop) : Prop := container_heap_Pop_b container_heap_down clock_due_Len clock_due_Swap clock_due_Pop h_0 w k
def d_container_heap_Pop : Dec := fun args w c => unL [.raw] args fun x => container_heap_Pop x w fun r w => c (packV (valL [.raw] r)) w
theorem s_container_heap_Pop : Sound Go.Proofs.Try.prog n_container_heap_Pop d_container_heap_Pop :=
  sound_of (mask := 13) (h := []) (ds := [(n_container_heap_down, d_container_heap_down), (n_clock_due_Len, d_clock_due_Len), (n_clock_due_Swap, d_clock_due_Swap), (n_clock_due_Pop, d_clock_due_Pop)]) mixed Go.Proofs.Try.func84 ⟨s_container_heap_down, s_clock_due_Len, s_clock_due_Swap, s_clock_due_Pop, trivial⟩
    [.raw] [.raw] (by kernel_rfl) (fun x w k => container_heap_Pop x w k) (fun x w k => e_container_heap_Pop container_heap_down clock_due_Len clock_due_Swap clock_due_Pop x w k)

/-- (*peloton/clock.Clock).Advance -/
def clock_Clock_Advance_b (container_heap_Pop : Value → World → ((Value) → World → Prop) → Prop) (c_0 : Option Addr) (n_1 : Int) (w : World) (k : (Sl × Int) → World → Prop) : Prop :=
  iteB (Option.isNone c_0) (
    (k ((Sl.mk none 0 0), (2 : Int)) w)) (
    joinP (S := Bool) (fun J1 =>
      iteB (decide (n_1 < (0 : Int))) (
        (J1 true w)) (
        nn c_0 fun a2 =>
        ldI .i64 w (Addr.add a2 0) fun i3 =>
        (J1 (decide (n_1 > (IntKind.wrap .i64 ((1099511627776 : Int) - i3)))) w))) fun b4 w5 =>
    iteB b4 (
      (k ((Sl.mk none 0 0), (10 : Int)) w5)) (
      nn c_0 fun a6 =>
      ldI .i64 w5 (Addr.add a6 0) fun i7 =>
      nn c_0 fun a8 =>
      stC w5 (Addr.add a8 0) (.int .i64 (IntKind.wrap .i64 (i7 + n_1))) fun w9 =>
      loopP (S := Sl) (fun C10 s11 w12 =>
        joinP (S := Bool) (fun J13 =>
          drew w12 fun w14 =>
          nn c_0 fun a15 =>
          ldS w14 (Addr.add a15 1) fun s16 =>
          iteB (decide (((s16.n : Nat) : Int) > (0 : Int))) (
            nn c_0 fun a17 =>
            ldS w14 (Addr.add a17 1) fun s18 =>
            ixS s18 (0 : Int) 2 fun a19 =>
            ldI .i64 w14 (Addr.add a19 0) fun i20 =>
            nn c_0 fun a21 =>
            ldI .i64 w14 (Addr.add a21 0) fun i22 =>
            (J13 (decide (i20 ≤ i22)) w14)) (
            (J13 false w14))) fun b23 w24 =>
        iteB b23 (
          nn c_0 fun a25 =>
          ldS w24 (Addr.add a25 1) fun s26 =>
          ixS s26 (0 : Int) 2 fun a27 =>
          ldI .i64 w24 (Addr.add a27 1) fun i28 =>
          nn c_0 fun a29 =>
          container_heap_Pop (.iface 142 (.pointer (some (Addr.add a29 1)))) w24 fun v30 w31 =>
          nn c_0 fun a32 =>
          ldM w31 (Addr.add a32 2) fun p33 =>
          bDel Go.Proofs.Try.prog #[135, 3] 0 [(.map p33), (.int .i64 i28)] w31 fun v34 w35 =>
          newC w35 #[(.int .i64 i28)] 3 fun a36 w37 =>
          bApp Go.Proofs.Try.prog #[47, 47] 47 [(.slice s11.a s11.n s11.c), (.slice (some a36) 1 1)] w37 fun s38 w39 =>
          (C10 s38 w39)) (
          (k (s11, (0 : Int)) w24))) (Sl.mk none 0 0) w9))
theorem e_clock_Clock_Advance (container_heap_Pop : Value → World → ((Value) → World → Prop) → Prop) (x : KT [.p, (.i .i64)]) (w : World) (k : KT [.s, (.i .i64)] → World → Prop) : evFn Go.Proofs.Try.prog (orcOf [(n_container_heap_Pop, (fun args w c => unL [.raw] args fun x => container_heap_Pop x w fun r w => c (packV (valL [.raw] r)) w))]) 1125899906845171 [(5, [(11, .b)]), (11, [(6, .s)]), (12, [(50, .b)])] Go.Proofs.Try.f46 [.s, (.i .i64)] (valL [.p, (.i .i64)] x) w k = clock_Clock_Advance_b container_heap_Pop x.1 x.2 w k := by kernel_rfl
def clock_Clock_Advance (c_0 : Option Addr) (n_1 : Int) (w : World) (k : (Sl × Int) → World → Prop) : Prop := clock_Clock_Advance_b container_heap_Pop c_0 n_1 w k
def d_clock_Clock_Advance : Dec := fun args w c => unL [.p, (.i .i64)] args fun x => clock_Clock_Advance x.1 x.2 w fun r w => c (packV (valL [.s, (.i .i64)] r)) w
theorem s_clock_Clock_Advance : Sound Go.Proofs.Try.prog n_clock_Clock_Advance d_clock_Clock_Advance :=
  sound_of (mask := 1125899906845171) (h := [(5, [(11, .b)]), (11, [(6, .s)]), (12, [(50, .b)])]) (ds := [(n_container_heap_Pop, d_container_heap_Pop)]) mixed Go.Proofs.Try.func46 ⟨s_container_heap_Pop, trivial⟩
    [.p, (.i .i64)] [.s, (.i .i64)] (by kernel_rfl) (fun x w k => clock_Clock_Advance x.1 x.2 w k) (fun x w k => e_clock_Clock_Advance container_heap_Pop x w k)

/-- peloton/pelotonlaw13.same -/
def pelotonlaw13_same (a_0 : Sl) (b_1 : Sl) (w : World) (k : (Bool) → World → Prop) : Prop :=
  iteB (((a_0.n : Nat) : Int) != ((b_1.n : Nat) : Int)) (
    (k false w)) (
    loopP (S := Int) (fun C1 i2 w3 =>
      iteB (decide (i2 < ((a_0.n : Nat) : Int))) (
        drew w3 fun w4 =>
        ixS a_0 i2 1 fun a5 =>
        ldI .i64 w4 a5 fun i6 =>
        ixS b_1 i2 1 fun a7 =>
        ldI .i64 w4 a7 fun i8 =>
        iteB (i6 != i8) (
          (k false w4)) (
          (C1 (IntKind.wrap .i64 (i2 + (1 : Int))) w4))) (
        (k true w3))) (0 : Int) w)
def d_pelotonlaw13_same : Dec := fun args w c => unL [.s, .s] args fun x => pelotonlaw13_same x.1 x.2 w fun r w => c (packV (valL [.b] r)) w
theorem s_pelotonlaw13_same : Sound Go.Proofs.Try.prog n_pelotonlaw13_same d_pelotonlaw13_same :=
  sound_of (mask := 33571891) (h := [(6, [(5, (.i .i64))])]) (ds := []) mixed Go.Proofs.Try.func47 trivial
    [.s, .s] [.b] (by kernel_rfl) (fun x w k => pelotonlaw13_same x.1 x.2 w k) (fun x w k => by kernel_rfl)

/-- (*peloton/clock.Clock).Now -/
def clock_Clock_Now (c_0 : Option Addr) (w : World) (k : (Int) → World → Prop) : Prop :=
  iteB (Option.isNone c_0) (
    (k (0 : Int) w)) (
    nn c_0 fun a1 =>
    ldI .i64 w (Addr.add a1 0) fun i2 =>
    (k i2 w))
def d_clock_Clock_Now : Dec := fun args w c => unL [.p] args fun x => clock_Clock_Now x w fun r w => c (packV (valL [(.i .i64)] r)) w
theorem s_clock_Clock_Now : Sound Go.Proofs.Try.prog n_clock_Clock_Now d_clock_Clock_Now :=
  sound_of (mask := 21) (h := []) (ds := []) mixed Go.Proofs.Try.func49 trivial
    [.p] [(.i .i64)] (by kernel_rfl) (fun x w k => clock_Clock_Now x w k) (fun x w k => by kernel_rfl)

/-- (*peloton/clock.Clock).Len -/
def clock_Clock_Len (c_0 : Option Addr) (w : World) (k : (Int) → World → Prop) : Prop :=
  iteB (Option.isNone c_0) (
    (k (0 : Int) w)) (
    nn c_0 fun a1 =>
    ldS w (Addr.add a1 1) fun s2 =>
    (k ((s2.n : Nat) : Int) w))
def d_clock_Clock_Len : Dec := fun args w c => unL [.p] args fun x => clock_Clock_Len x w fun r w => c (packV (valL [(.i .i64)] r)) w
theorem s_clock_Clock_Len : Sound Go.Proofs.Try.prog n_clock_Clock_Len d_clock_Clock_Len :=
  sound_of (mask := 21) (h := []) (ds := []) mixed Go.Proofs.Try.func45 trivial
    [.p] [(.i .i64)] (by kernel_rfl) (fun x w k => clock_Clock_Len x w k) (fun x w k => by kernel_rfl)

/-- peloton/pelotonlaw13.awake -/
def pelotonlaw13_awake_b (clock_New : World → ((Option Addr) → World → Prop) → Prop) (clock_Clock_Set : Option Addr → Int → Int → World → ((Int) → World → Prop) → Prop) (clock_Clock_Next : Option Addr → World → ((Int × Int × Bool) → World → Prop) → Prop) (clock_Clock_Advance : Option Addr → Int → World → ((Sl × Int) → World → Prop) → Prop) (pelotonlaw13_same : Sl → Sl → World → ((Bool) → World → Prop) → Prop) (clock_Clock_Now : Option Addr → World → ((Int) → World → Prop) → Prop) (clock_Clock_Len : Option Addr → World → ((Int) → World → Prop) → Prop)  (w : World) (k : (Bool) → World → Prop) : Prop :=
  clock_New  w fun p1 w2 =>
  joinP (S := Bool) (fun J3 =>
    clock_Clock_Set p1 (4 : Int) (10 : Int) w2 fun i4 w5 =>
    iteB (i4 != (0 : Int)) (
      (J3 true w5)) (
      clock_Clock_Set p1 (2 : Int) (10 : Int) w5 fun i6 w7 =>
      iteB (i6 != (0 : Int)) (
        (J3 true w7)) (
        clock_Clock_Set p1 (9 : Int) (3 : Int) w7 fun i8 w9 =>
        (J3 (i8 != (0 : Int)) w9)))) fun b10 w11 =>
  iteB b10 (
    (k false w11)) (
    clock_Clock_Next p1 w11 fun x12 w13 =>
    clock_Clock_Advance p1 (2 : Int) w13 fun x14 w15 =>
    joinP (S := Bool) (fun J16 =>
      iteB ((((((x12.1, (x12.2.1, x12.2.2)).1 != (3 : Int)) || ((x12.1, (x12.2.1, x12.2.2)).2.1 != (9 : Int))) || (!(x12.1, (x12.2.1, x12.2.2)).2.2)) || (((x14.1.n : Nat) : Int) != (0 : Int))) || ((x14.1, x14.2).2 != (0 : Int))) (
        (J16 true w15)) (
        clock_Clock_Set p1 (1 : Int) (8 : Int) w15 fun i17 w18 =>
        (J16 (i17 != (0 : Int)) w18))) fun b19 w20 =>
    iteB b19 (
      (k false w20)) (
      clock_Clock_Advance p1 (8 : Int) w20 fun x21 w22 =>
      iteB ((x21.1, x21.2).2 == (0 : Int)) (
        newC w22 #[(.int .i64 (9 : Int)), (.int .i64 (1 : Int)), (.int .i64 (2 : Int)), (.int .i64 (4 : Int))] 3 fun a23 w24 =>
        pelotonlaw13_same x21.1 (Sl.mk (some a23) 4 4) w24 fun b25 w26 =>
        iteB b25 (
          clock_Clock_Now p1 w26 fun i27 w28 =>
          iteB (i27 == (10 : Int)) (
            clock_Clock_Len p1 w28 fun i29 w30 =>
            (k (i29 == (0 : Int)) w30)) (
            (k false w28))) (
          (k false w26))) (
        (k false w22))))
theorem e_pelotonlaw13_awake (clock_New : World → ((Option Addr) → World → Prop) → Prop) (clock_Clock_Set : Option Addr → Int → Int → World → ((Int) → World → Prop) → Prop) (clock_Clock_Next : Option Addr → World → ((Int × Int × Bool) → World → Prop) → Prop) (clock_Clock_Advance : Option Addr → Int → World → ((Sl × Int) → World → Prop) → Prop) (pelotonlaw13_same : Sl → Sl → World → ((Bool) → World → Prop) → Prop) (clock_Clock_Now : Option Addr → World → ((Int) → World → Prop) → Prop) (clock_Clock_Len : Option Addr → World → ((Int) → World → Prop) → Prop) (x : KT []) (w : World) (k : KT [.b] → World → Prop) : evFn Go.Proofs.Try.prog (orcOf [(n_clock_New, (fun args w c => unL [] args fun x => clock_New  w fun r w => c (packV (valL [.p] r)) w)), (n_clock_Clock_Set, (fun args w c => unL [.p, (.i .i64), (.i .i64)] args fun x => clock_Clock_Set x.1 x.2.1 x.2.2 w fun r w => c (packV (valL [(.i .i64)] r)) w)), (n_clock_Clock_Next, (fun args w c => unL [.p] args fun x => clock_Clock_Next x w fun r w => c (packV (valL [(.i .i64), (.i .i64), .b] r)) w)), (n_clock_Clock_Advance, (fun args w c => unL [.p, (.i .i64)] args fun x => clock_Clock_Advance x.1 x.2 w fun r w => c (packV (valL [.s, (.i .i64)] r)) w)), (n_pelotonlaw13_same, (fun args w c => unL [.s, .s] args fun x => pelotonlaw13_same x.1 x.2 w fun r w => c (packV (valL [.b] r)) w)), (n_clock_Clock_Now, (fun args w c => unL [.p] args fun x => clock_Clock_Now x w fun r w => c (packV (valL [(.i .i64)] r)) w)), (n_clock_Clock_Len, (fun args w c => unL [.p] args fun x => clock_Clock_Len x w fun r w => c (packV (valL [(.i .i64)] r)) w))]) 72057594040025343 [(2, [(21, .b)]), (7, [(56, .b)])] Go.Proofs.Try.f42 [.b] (valL [] x) w k = pelotonlaw13_awake_b clock_New clock_Clock_Set clock_Clock_Next clock_Clock_Advance pelotonlaw13_same clock_Clock_Now clock_Clock_Len  w k := by kernel_rfl
def pelotonlaw13_awake  (w : World) (k : (Bool) → World → Prop) : Prop := pelotonlaw13_awake_b clock_New clock_Clock_Set clock_Clock_Next clock_Clock_Advance pelotonlaw13_same clock_Clock_Now clock_Clock_Len  w k
def d_pelotonlaw13_awake : Dec := fun args w c => unL [] args fun x => pelotonlaw13_awake  w fun r w => c (packV (valL [.b] r)) w
theorem s_pelotonlaw13_awake : Sound Go.Proofs.Try.prog n_pelotonlaw13_awake d_pelotonlaw13_awake :=
  sound_of (mask := 72057594040025343) (h := [(2, [(21, .b)]), (7, [(56, .b)])]) (ds := [(n_clock_New, d_clock_New), (n_clock_Clock_Set, d_clock_Clock_Set), (n_clock_Clock_Next, d_clock_Clock_Next), (n_clock_Clock_Advance, d_clock_Clock_Advance), (n_pelotonlaw13_same, d_pelotonlaw13_same), (n_clock_Clock_Now, d_clock_Clock_Now), (n_clock_Clock_Len, d_clock_Clock_Len)]) mixed Go.Proofs.Try.func42 ⟨s_clock_New, s_clock_Clock_Set, s_clock_Clock_Next, s_clock_Clock_Advance, s_pelotonlaw13_same, s_clock_Clock_Now, s_clock_Clock_Len, trivial⟩
    [] [.b] (by kernel_rfl) (fun x w k => pelotonlaw13_awake  w k) (fun x w k => e_pelotonlaw13_awake clock_New clock_Clock_Set clock_Clock_Next clock_Clock_Advance pelotonlaw13_same clock_Clock_Now clock_Clock_Len x w k)

/-- peloton/pelotonlaw13.when -/
def pelotonlaw13_when (l_0 : Sl) (id_1 : Int) (w : World) (k : (Int) → World → Prop) : Prop :=
  loopP (S := Int) (fun C1 i2 w3 =>
    iteB (decide (i2 < ((l_0.n : Nat) : Int))) (
      ixS l_0 i2 3 fun a4 =>
      ldI .i64 w3 (Addr.add a4 1) fun i5 =>
      iteB (i5 == id_1) (
        ixS l_0 i2 3 fun a6 =>
        ldI .i64 w3 (Addr.add a6 2) fun i7 =>
        (k i7 w3)) (
        (C1 (IntKind.wrap .i64 (i2 + (1 : Int))) w3))) (
      (k (-(1 : Int)) w3))) (0 : Int) w
def d_pelotonlaw13_when : Dec := fun args w c => unL [.s, (.i .i64)] args fun x => pelotonlaw13_when x.1 x.2 w fun r w => c (packV (valL [(.i .i64)] r)) w
theorem s_pelotonlaw13_when : Sound Go.Proofs.Try.prog n_pelotonlaw13_when d_pelotonlaw13_when :=
  sound_of (mask := 262707) (h := [(3, [(5, (.i .i64))])]) (ds := []) mixed Go.Proofs.Try.func48 trivial
    [.s, (.i .i64)] [(.i .i64)] (by kernel_rfl) (fun x w k => pelotonlaw13_when x.1 x.2 w k) (fun x w k => by kernel_rfl)

/-- peloton/pelotonlaw13.ClockOrders -/
def pelotonlaw13_ClockOrders_b (pelotonlaw13_awake : World → ((Bool) → World → Prop) → Prop) (clock_New : World → ((Option Addr) → World → Prop) → Prop) (clock_Clock_Set : Option Addr → Int → Int → World → ((Int) → World → Prop) → Prop) (clock_Clock_Len : Option Addr → World → ((Int) → World → Prop) → Prop) (clock_Clock_Advance : Option Addr → Int → World → ((Sl × Int) → World → Prop) → Prop) (pelotonlaw13_same : Sl → Sl → World → ((Bool) → World → Prop) → Prop) (pelotonlaw13_when : Sl → Int → World → ((Int) → World → Prop) → Prop) (l_0 : Sl) (w : World) (k : (Bool) → World → Prop) : Prop :=
  iteB (decide (((l_0.n : Nat) : Int) > (60 : Int))) (
    pelotonlaw13_awake  w fun b1 w2 =>
    (k b1 w2)) (
    clock_New  w fun p3 w4 =>
    clock_New  w4 fun p5 w6 =>
    iteB ((Option.isNone p3) || (Option.isNone p5)) (
      (k false w6)) (
      newC w6 #[] 88 fun a7 w8 =>
      joinP (S := Sl) (fun J9 =>
        loopP (S := (Sl × Int)) (fun C10 x11 w12 =>
          iteB (decide (x11.2 < ((l_0.n : Nat) : Int))) (
            drew w12 fun w13 =>
            ixS l_0 x11.2 3 fun a14 =>
            ldI .i64 w13 (Addr.add a14 1) fun i15 =>
            ixS l_0 x11.2 3 fun a16 =>
            ldI .i64 w13 (Addr.add a16 2) fun i17 =>
            clock_Clock_Set p3 i15 i17 w13 fun i18 w19 =>
            iteB (i18 == (0 : Int)) (
              ixS l_0 x11.2 3 fun a20 =>
              ldA 3 w19 a20 fun cs21 =>
              spl #[(.int .i64 (0 : Int)), (.int .i64 (0 : Int)), (.int .i64 (0 : Int))] 0 3 cs21 fun cs22 =>
              newC w19 cs22 88 fun a23 w24 =>
              bApp Go.Proofs.Try.prog #[83, 83] 83 [(.slice x11.1.a x11.1.n x11.1.c), (.slice (some a23) 1 1)] w24 fun s25 w26 =>
              (C10 (s25, (IntKind.wrap .i64 (x11.2 + (1 : Int)))) w26)) (
              (C10 (x11.1, (IntKind.wrap .i64 (x11.2 + (1 : Int)))) w19))) (
            (J9 x11.1 w12))) ((Sl.mk (some a7) 0 0), (0 : Int)) w8) fun s27 w28 =>
      joinP (S := Unit) (fun J29 =>
        loopP (S := Int) (fun C30 i31 w32 =>
          iteB (decide (i31 ≥ (0 : Int))) (
            drew w32 fun w33 =>
            ixS s27 i31 3 fun a34 =>
            ldI .i64 w33 (Addr.add a34 1) fun i35 =>
            ixS s27 i31 3 fun a36 =>
            ldI .i64 w33 (Addr.add a36 2) fun i37 =>
            clock_Clock_Set p5 i35 i37 w33 fun i38 w39 =>
            iteB (i38 != (0 : Int)) (
              (k false w39)) (
              (C30 (IntKind.wrap .i64 (i31 - (1 : Int))) w39))) (
            (J29 () w32))) (IntKind.wrap .i64 (((s27.n : Nat) : Int) - (1 : Int))) w28) fun u40 w41 =>
      joinP (S := Bool) (fun J42 =>
        clock_Clock_Len p3 w41 fun i43 w44 =>
        iteB (i43 != ((s27.n : Nat) : Int)) (
          (J42 true w44)) (
          clock_Clock_Len p5 w44 fun i45 w46 =>
          (J42 (i45 != ((s27.n : Nat) : Int)) w46))) fun b47 w48 =>
      iteB b47 (
        (k false w48)) (
        clock_Clock_Advance p3 (1099511627776 : Int) w48 fun x49 w50 =>
        clock_Clock_Advance p5 (1099511627776 : Int) w50 fun x51 w52 =>
        joinP (S := Bool) (fun J53 =>
          iteB (((x49.1, x49.2).2 != (0 : Int)) || ((x51.1, x51.2).2 != (0 : Int))) (
            (J53 true w52)) (
            pelotonlaw13_same x49.1 x51.1 w52 fun b54 w55 =>
            iteB ((!b54) || (((x49.1.n : Nat) : Int) != ((s27.n : Nat) : Int))) (
              (J53 true w55)) (
              clock_Clock_Len p3 w55 fun i56 w57 =>
              (J53 (i56 != (0 : Int)) w57)))) fun b58 w59 =>
        iteB b58 (
          (k false w59)) (
          loopP (S := Int) (fun C60 i61 w62 =>
            iteB (decide (i61 < ((x49.1.n : Nat) : Int))) (
              ixS x49.1 (IntKind.wrap .i64 (i61 - (1 : Int))) 1 fun a63 =>
              ldI .i64 w62 a63 fun i64 =>
              pelotonlaw13_when s27 i64 w62 fun i65 w66 =>
              ixS x49.1 i61 1 fun a67 =>
              ldI .i64 w66 a67 fun i68 =>
              pelotonlaw13_when s27 i68 w66 fun i69 w70 =>
              joinP (S := Bool) (fun J71 =>
                drew w70 fun w72 =>
                iteB (((decide (i65 < (0 : Int))) || (decide (i69 < (0 : Int)))) || (decide (i65 > i69))) (
                  (J71 true w72)) (
                  iteB (i65 == i69) (
                    ixS x49.1 (IntKind.wrap .i64 (i61 - (1 : Int))) 1 fun a73 =>
                    ldI .i64 w72 a73 fun i74 =>
                    ixS x49.1 i61 1 fun a75 =>
                    ldI .i64 w72 a75 fun i76 =>
                    (J71 (decide (i74 ≥ i76)) w72)) (
                    (J71 false w72)))) fun b77 w78 =>
              iteB b77 (
                (k false w78)) (
                (C60 (IntKind.wrap .i64 (i61 + (1 : Int))) w78))) (
              pelotonlaw13_awake  w62 fun b79 w80 =>
              (k b79 w80))) (1 : Int) w59))))
theorem e_pelotonlaw13_ClockOrders (pelotonlaw13_awake : World → ((Bool) → World → Prop) → Prop) (clock_New : World → ((Option Addr) → World → Prop) → Prop) (clock_Clock_Set : Option Addr → Int → Int → World → ((Int) → World → Prop) → Prop) (clock_Clock_Len : Option Addr → World → ((Int) → World → Prop) → Prop) (clock_Clock_Advance : Option Addr → Int → World → ((Sl × Int) → World → Prop) → Prop) (pelotonlaw13_same : Sl → Sl → World → ((Bool) → World → Prop) → Prop) (pelotonlaw13_when : Sl → Int → World → ((Int) → World → Prop) → Prop) (x : KT [.s]) (w : World) (k : KT [.b] → World → Prop) : evFn Go.Proofs.Try.prog (orcOf [(n_pelotonlaw13_awake, (fun args w c => unL [] args fun x => pelotonlaw13_awake  w fun r w => c (packV (valL [.b] r)) w)), (n_clock_New, (fun args w c => unL [] args fun x => clock_New  w fun r w => c (packV (valL [.p] r)) w)), (n_clock_Clock_Set, (fun args w c => unL [.p, (.i .i64), (.i .i64)] args fun x => clock_Clock_Set x.1 x.2.1 x.2.2 w fun r w => c (packV (valL [(.i .i64)] r)) w)), (n_clock_Clock_Len, (fun args w c => unL [.p] args fun x => clock_Clock_Len x w fun r w => c (packV (valL [(.i .i64)] r)) w)), (n_clock_Clock_Advance, (fun args w c => unL [.p, (.i .i64)] args fun x => clock_Clock_Advance x.1 x.2 w fun r w => c (packV (valL [.s, (.i .i64)] r)) w)), (n_pelotonlaw13_same, (fun args w c => unL [.s, .s] args fun x => pelotonlaw13_same x.1 x.2 w fun r w => c (packV (valL [.b] r)) w)), (n_pelotonlaw13_when, (fun args w c => unL [.s, (.i .i64)] args fun x => pelotonlaw13_when x.1 x.2 w fun r w => c (packV (valL [(.i .i64)] r)) w))]) 93536104789189085203000039773833044552612057350141 [(11, [(5, .s)]), (12, [(5, .s), (6, (.i .i64))]), (21, []), (22, [(7, (.i .i64))]), (30, [(85, .b)]), (35, [(119, .b)]), (40, [(12, (.i .i64))]), (46, [(166, .b)])] Go.Proofs.Try.f9 [.b] (valL [.s] x) w k = pelotonlaw13_ClockOrders_b pelotonlaw13_awake clock_New clock_Clock_Set clock_Clock_Len clock_Clock_Advance pelotonlaw13_same pelotonlaw13_when x w k := by kernel_rfl
def pelotonlaw13_ClockOrders (l_0 : Sl) (w : World) (k : (Bool) → World → Prop) : Prop := pelotonlaw13_ClockOrders_b pelotonlaw13_awake clock_New clock_Clock_Set clock_Clock_Len clock_Clock_Advance pelotonlaw13_same pelotonlaw13_when l_0 w k
def d_pelotonlaw13_ClockOrders : Dec := fun args w c => unL [.s] args fun x => pelotonlaw13_ClockOrders x w fun r w => c (packV (valL [.b] r)) w
theorem s_pelotonlaw13_ClockOrders : Sound Go.Proofs.Try.prog n_pelotonlaw13_ClockOrders d_pelotonlaw13_ClockOrders :=
  sound_of (mask := 93536104789189085203000039773833044552612057350141) (h := [(11, [(5, .s)]), (12, [(5, .s), (6, (.i .i64))]), (21, []), (22, [(7, (.i .i64))]), (30, [(85, .b)]), (35, [(119, .b)]), (40, [(12, (.i .i64))]), (46, [(166, .b)])]) (ds := [(n_pelotonlaw13_awake, d_pelotonlaw13_awake), (n_clock_New, d_clock_New), (n_clock_Clock_Set, d_clock_Clock_Set), (n_clock_Clock_Len, d_clock_Clock_Len), (n_clock_Clock_Advance, d_clock_Clock_Advance), (n_pelotonlaw13_same, d_pelotonlaw13_same), (n_pelotonlaw13_when, d_pelotonlaw13_when)]) mixed Go.Proofs.Try.func9 ⟨s_pelotonlaw13_awake, s_clock_New, s_clock_Clock_Set, s_clock_Clock_Len, s_clock_Clock_Advance, s_pelotonlaw13_same, s_pelotonlaw13_when, trivial⟩
    [.s] [.b] (by kernel_rfl) (fun x w k => pelotonlaw13_ClockOrders x w k) (fun x w k => e_pelotonlaw13_ClockOrders pelotonlaw13_awake clock_New clock_Clock_Set clock_Clock_Len clock_Clock_Advance pelotonlaw13_same pelotonlaw13_when x w k)

/-- slices.Index[peloton/clock.due,peloton/clock.deadline] -/
def slices_Index_clock_due_clock_deadline_ (s_0 : Sl) (v_1 : Array Value) (w : World) (k : (Int) → World → Prop) : Prop :=
  newC w v_1 144 fun a1 w2 =>
  loopP (S := Int) (fun C3 i4 w5 =>
    iteB (decide (i4 < ((s_0.n : Nat) : Int))) (
      drew w5 fun w6 =>
      ldA 2 w6 a1 fun cs7 =>
      ixS s_0 i4 2 fun a8 =>
      ldA 2 w6 a8 fun cs9 =>
      eqA ([(0, 0)] ++ ([(1, 0)] ++ [])) cs7 cs9 fun b10 =>
      iteB b10 (
        (k i4 w6)) (
        (C3 (IntKind.wrap .i64 (i4 + (1 : Int))) w6))) (
      (k (-(1 : Int)) w5))) (0 : Int) w2
def d_slices_Index_clock_due_clock_deadline_ : Dec := fun args w c => unL [.s, .ag] args fun x => slices_Index_clock_due_clock_deadline_ x.1 x.2 w fun r w => c (packV (valL [(.i .i64)] r)) w
theorem s_slices_Index_clock_due_clock_deadline_ : Sound Go.Proofs.Try.prog n_slices_Index_clock_due_clock_deadline_ d_slices_Index_clock_due_clock_deadline_ :=
  sound_of (mask := 66489) (h := [(3, [(8, (.i .i64))])]) (ds := []) mixed Go.Proofs.Try.func90 trivial
    [.s, .ag] [(.i .i64)] (by kernel_rfl) (fun x w k => slices_Index_clock_due_clock_deadline_ x.1 x.2 w k) (fun x w k => by kernel_rfl)

/-- container/heap.Remove -/
def container_heap_Remove_b (container_heap_down : Value → Int → Int → World → ((Bool) → World → Prop) → Prop) (container_heap_up : Value → Int → World → (Unit → World → Prop) → Prop) (clock_due_Len : Sl → World → ((Int) → World → Prop) → Prop) (clock_due_Swap : Sl → Int → Int → World → (Unit → World → Prop) → Prop) (clock_due_Pop : Option Addr → World → ((Value) → World → Prop) → Prop) (h_0 : Value) (i_1 : Int) (w : World) (k : (Value) → World → Prop) : Prop :=
  callM (orcOf [(n_container_heap_down, (fun args w c => unL [.raw, (.i .i64), (.i .i64)] args fun x => container_heap_down x.1 x.2.1 x.2.2 w fun r w => c (packV (valL [.b] r)) w)), (n_container_heap_up, (fun args w c => unL [.raw, (.i .i64)] args fun x => container_heap_up x.1 x.2 w fun r w => c (packV (valL [] r)) w)), (n_clock_due_Len, (fun args w c => unL [.s] args fun x => clock_due_Len x w fun r w => c (packV (valL [(.i .i64)] r)) w)), (n_clock_due_Swap, (fun args w c => unL [.s, (.i .i64), (.i .i64)] args fun x => clock_due_Swap x.1 x.2.1 x.2.2 w fun r w => c (packV (valL [] r)) w)), (n_clock_due_Pop, (fun args w c => unL [.p] args fun x => clock_due_Pop x w fun r w => c (packV (valL [.raw] r)) w))]) Go.Proofs.Try.prog h_0 "Len" #[] w fun v1 w2 =>
  toI .i64 v1 fun i3 =>
  iteB ((IntKind.wrap .i64 (i3 - (1 : Int))) != i_1) (
    callM (orcOf [(n_container_heap_down, (fun args w c => unL [.raw, (.i .i64), (.i .i64)] args fun x => container_heap_down x.1 x.2.1 x.2.2 w fun r w => c (packV (valL [.b] r)) w)), (n_container_heap_up, (fun args w c => unL [.raw, (.i .i64)] args fun x => container_heap_up x.1 x.2 w fun r w => c (packV (valL [] r)) w)), (n_clock_due_Len, (fun args w c => unL [.s] args fun x => clock_due_Len x w fun r w => c (packV (valL [(.i .i64)] r)) w)), (n_clock_due_Swap, (fun args w c => unL [.s, (.i .i64), (.i .i64)] args fun x => clock_due_Swap x.1 x.2.1 x.2.2 w fun r w => c (packV (valL [] r)) w)), (n_clock_due_Pop, (fun args w c => unL [.p] args fun x => clock_due_Pop x w fun r w => c (packV (valL [.raw] r)) w))]) Go.Proofs.Try.prog h_0 "Swap" #[(.int .i64 i_1), (.int .i64 (IntKind.wrap .i64 (i3 - (1 : Int))))] w2 fun v4 w5 =>
    unT [] v4 fun (u6 : Unit) =>
    container_heap_down h_0 i_1 (IntKind.wrap .i64 (i3 - (1 : Int))) w5 fun b7 w8 =>
    iteB (!b7) (
      container_heap_up h_0 i_1 w8 fun _u w9 =>
      callM (orcOf [(n_container_heap_down, (fun args w c => unL [.raw, (.i .i64), (.i .i64)] args fun x => container_heap_down x.1 x.2.1 x.2.2 w fun r w => c (packV (valL [.b] r)) w)), (n_container_heap_up, (fun args w c => unL [.raw, (.i .i64)] args fun x => container_heap_up x.1 x.2 w fun r w => c (packV (valL [] r)) w)), (n_clock_due_Len, (fun args w c => unL [.s] args fun x => clock_due_Len x w fun r w => c (packV (valL [(.i .i64)] r)) w)), (n_clock_due_Swap, (fun args w c => unL [.s, (.i .i64), (.i .i64)] args fun x => clock_due_Swap x.1 x.2.1 x.2.2 w fun r w => c (packV (valL [] r)) w)), (n_clock_due_Pop, (fun args w c => unL [.p] args fun x => clock_due_Pop x w fun r w => c (packV (valL [.raw] r)) w))]) Go.Proofs.Try.prog h_0 "Pop" #[] w9 fun v10 w11 =>
      (k v10 w11)) (
      callM (orcOf [(n_container_heap_down, (fun args w c => unL [.raw, (.i .i64), (.i .i64)] args fun x => container_heap_down x.1 x.2.1 x.2.2 w fun r w => c (packV (valL [.b] r)) w)), (n_container_heap_up, (fun args w c => unL [.raw, (.i .i64)] args fun x => container_heap_up x.1 x.2 w fun r w => c (packV (valL [] r)) w)), (n_clock_due_Len, (fun args w c => unL [.s] args fun x => clock_due_Len x w fun r w => c (packV (valL [(.i .i64)] r)) w)), (n_clock_due_Swap, (fun args w c => unL [.s, (.i .i64), (.i .i64)] args fun x => clock_due_Swap x.1 x.2.1 x.2.2 w fun r w => c (packV (valL [] r)) w)), (n_clock_due_Pop, (fun args w c => unL [.p] args fun x => clock_due_Pop x w fun r w => c (packV (valL [.raw] r)) w))]) Go.Proofs.Try.prog h_0 "Pop" #[] w8 fun v12 w13 =>
      (k v12 w13))) (
    callM (orcOf [(n_container_heap_down, (fun args w c => unL [.raw, (.i .i64), (.i .i64)] args fun x => container_heap_down x.1 x.2.1 x.2.2 w fun r w => c (packV (valL [.b] r)) w)), (n_container_heap_up, (fun args w c => unL [.raw, (.i .i64)] args fun x => container_heap_up x.1 x.2 w fun r w => c (packV (valL [] r)) w)), (n_clock_due_Len, (fun args w c => unL [.s] args fun x => clock_due_Len x w fun r w => c (packV (valL [(.i .i64)] r)) w)), (n_clock_due_Swap, (fun args w c => unL [.s, (.i .i64), (.i .i64)] args fun x => clock_due_Swap x.1 x.2.1 x.2.2 w fun r w => c (packV (valL [] r)) w)), (n_clock_due_Pop, (fun args w c => unL [.p] args fun x => clock_due_Pop x w fun r w => c (packV (valL [.raw] r)) w))]) Go.Proofs.Try.prog h_0 "Pop" #[] w2 fun v14 w15 =>
    (k v14 w15))
theorem e_container_heap_Remove (container_heap_down : Value → Int → Int → World → ((Bool) → World → Prop) → Prop) (container_heap_up : Value → Int → World → (Unit → World → Prop) → Prop) (clock_due_Len : Sl → World → ((Int) → World → Prop) → Prop) (clock_due_Swap : Sl → Int → Int → World → (Unit → World → Prop) → Prop) (clock_due_Pop : Option Addr → World → ((Value) → World → Prop) → Prop) (x : KT [.raw, (.i .i64)]) (w : World) (k : KT [.raw] → World → Prop) : evFn Go.Proofs.Try.prog (orcOf [(n_container_heap_down, (fun args w c => unL [.raw, (.i .i64), (.i .i64)] args fun x => container_heap_down x.1 x.2.1 x.2.2 w fun r w => c (packV (valL [.b] r)) w)), (n_container_heap_up, (fun args w c => unL [.raw, (.i .i64)] args fun x => container_heap_up x.1 x.2 w fun r w => c (packV (valL [] r)) w)), (n_clock_due_Len, (fun args w c => unL [.s] args fun x => clock_due_Len x w fun r w => c (packV (valL [(.i .i64)] r)) w)), (n_clock_due_Swap, (fun args w c => unL [.s, (.i .i64), (.i .i64)] args fun x => clock_due_Swap x.1 x.2.1 x.2.2 w fun r w => c (packV (valL [] r)) w)), (n_clock_due_Pop, (fun args w c => unL [.p] args fun x => clock_due_Pop x w fun r w => c (packV (valL [.raw] r)) w))]) 1050675 [] Go.Proofs.Try.f89 [.raw] (valL [.raw, (.i .i64)] x) w k = container_heap_Remove_b container_heap_down container_heap_up clock_due_Len clock_due_Swap clock_due_Pop x.1 x.2 w k := by kernel_rfl
def container_heap_Remove (h_0 : Value) (i_1 : Int) (w : World) (k : (Value) → World → Prop) : Prop := container_heap_Remove_b container_heap_down container_heap_up clock_due_Len clock_due_Swap clock_due_Pop h_0 i_1 w k
def d_container_heap_Remove : Dec := fun args w c => unL [.raw, (.i .i64)] args fun x => container_heap_Remove x.1 x.2 w fun r w => c (packV (valL [.raw] r)) w
theorem s_container_heap_Remove : Sound Go.Proofs.Try.prog n_container_heap_Remove d_container_heap_Remove :=
  sound_of (mask := 1050675) (h := []) (ds := [(n_container_heap_down, d_container_heap_down), (n_container_heap_up, d_container_heap_up), (n_clock_due_Len, d_clock_due_Len), (n_clock_due_Swap, d_clock_due_Swap), (n_clock_due_Pop, d_clock_due_Pop)]) mixed Go.Proofs.Try.func89 ⟨s_container_heap_down, s_container_heap_up, s_clock_due_Len, s_clock_due_Swap, s_clock_due_Pop, trivial⟩
    [.raw, (.i .i64)] [.raw] (by kernel_rfl) (fun x w k => container_heap_Remove x.1 x.2 w k) (fun x w k => e_container_heap_Remove container_heap_down container_heap_up clock_due_Len clock_due_Swap clock_due_Pop x w k)

/-- (*peloton/clock.Clock).Drop -/
def clock_Clock_Drop_b (slices_Index_clock_due_clock_deadline_ : Sl → Array Value → World → ((Int) → World → Prop) → Prop) (container_heap_Remove : Value → Int → World → ((Value) → World → Prop) → Prop) (c_0 : Option Addr) (id_1 : Int) (w : World) (k : (Bool) → World → Prop) : Prop :=
  iteB (Option.isNone c_0) (
    (k false w)) (
    nn c_0 fun a1 =>
    ldM w (Addr.add a1 2) fun p2 =>
    Go.Ev.look Go.Proofs.Try.prog 135 (.map p2) (.int .i64 id_1) true w fun v3 w4 =>
    unT [(.i .i64), .b] v3 fun (x5 : Int × Bool) =>
    iteB x5.2 (
      nn c_0 fun a6 =>
      ldM w4 (Addr.add a6 2) fun p7 =>
      bDel Go.Proofs.Try.prog #[135, 3] 0 [(.map p7), (.int .i64 id_1)] w4 fun v8 w9 =>
      drew w9 fun w10 =>
      nn c_0 fun a11 =>
      nn c_0 fun a12 =>
      ldS w10 (Addr.add a12 1) fun s13 =>
      samec 1 (Addr.add a12 1) w10 w10 (
      slices_Index_clock_due_clock_deadline_ s13 #[(.int .i64 x5.1), (.int .i64 id_1)] w10 fun i14 w15 =>
      container_heap_Remove (.iface 142 (.pointer (some (Addr.add a11 1)))) i14 w15 fun v16 w17 =>
      (k x5.2 w17))) (
      (k x5.2 w4)))
theorem e_clock_Clock_Drop (slices_Index_clock_due_clock_deadline_ : Sl → Array Value → World → ((Int) → World → Prop) → Prop) (container_heap_Remove : Value → Int → World → ((Value) → World → Prop) → Prop) (x : KT [.p, (.i .i64)]) (w : World) (k : KT [.b] → World → Prop) : evFn Go.Proofs.Try.prog (orcOf [(n_slices_Index_clock_due_clock_deadline_, (fun args w c => unL [.s, .ag] args fun x => slices_Index_clock_due_clock_deadline_ x.1 x.2 w fun r w => c (packV (valL [(.i .i64)] r)) w)), (n_container_heap_Remove, (fun args w c => unL [.raw, (.i .i64)] args fun x => container_heap_Remove x.1 x.2 w fun r w => c (packV (valL [.raw] r)) w))]) 262515 [] Go.Proofs.Try.f58 [.b] (valL [.p, (.i .i64)] x) w k = clock_Clock_Drop_b slices_Index_clock_due_clock_deadline_ container_heap_Remove x.1 x.2 w k := by kernel_rfl
def clock_Clock_Drop (c_0 : Option Addr) (id_1 : Int) (w : World) (k : (Bool) → World → Prop) : Prop := clock_Clock_Drop_b slices_Index_clock_due_clock_deadline_ container_heap_Remove c_0 id_1 w k
def d_clock_Clock_Drop : Dec := fun args w c => unL [.p, (.i .i64)] args fun x => clock_Clock_Drop x.1 x.2 w fun r w => c (packV (valL [.b] r)) w
theorem s_clock_Clock_Drop : Sound Go.Proofs.Try.prog n_clock_Clock_Drop d_clock_Clock_Drop :=
  sound_of (mask := 262515) (h := []) (ds := [(n_slices_Index_clock_due_clock_deadline_, d_slices_Index_clock_due_clock_deadline_), (n_container_heap_Remove, d_container_heap_Remove)]) mixed Go.Proofs.Try.func58 ⟨s_slices_Index_clock_due_clock_deadline_, s_container_heap_Remove, trivial⟩
    [.p, (.i .i64)] [.b] (by kernel_rfl) (fun x w k => clock_Clock_Drop x.1 x.2 w k) (fun x w k => e_clock_Clock_Drop slices_Index_clock_due_clock_deadline_ container_heap_Remove x w k)

/-- peloton/pelotonlaw13.do -/
def pelotonlaw13_do_b (clock_Clock_Set : Option Addr → Int → Int → World → ((Int) → World → Prop) → Prop) (clock_Clock_Drop : Option Addr → Int → World → ((Bool) → World → Prop) → Prop) (clock_Clock_Advance : Option Addr → Int → World → ((Sl × Int) → World → Prop) → Prop) (c_0 : Option Addr) (a_1 : Array Value) (w : World) (k : (Sl × Bool × Int) → World → Prop) : Prop :=
  newC w a_1 88 fun a1 w2 =>
  ldI .i64 w2 (Addr.add a1 0) fun i3 =>
  iteB (i3 == (0 : Int)) (
    ldI .i64 w2 (Addr.add a1 1) fun i4 =>
    ldI .i64 w2 (Addr.add a1 2) fun i5 =>
    clock_Clock_Set c_0 i4 i5 w2 fun i6 w7 =>
    (k ((Sl.mk none 0 0), (false, i6)) w7)) (
    iteB (i3 == (1 : Int)) (
      ldI .i64 w2 (Addr.add a1 1) fun i8 =>
      clock_Clock_Drop c_0 i8 w2 fun b9 w10 =>
      (k ((Sl.mk none 0 0), (b9, (0 : Int))) w10)) (
      iteB (i3 == (2 : Int)) (
        ldI .i64 w2 (Addr.add a1 2) fun i11 =>
        clock_Clock_Advance c_0 i11 w2 fun x12 w13 =>
        (k (x12.1, (false, (x12.1, x12.2).2)) w13)) (
        (k ((Sl.mk none 0 0), (false, (0 : Int))) w2))))
theorem e_pelotonlaw13_do (clock_Clock_Set : Option Addr → Int → Int → World → ((Int) → World → Prop) → Prop) (clock_Clock_Drop : Option Addr → Int → World → ((Bool) → World → Prop) → Prop) (clock_Clock_Advance : Option Addr → Int → World → ((Sl × Int) → World → Prop) → Prop) (x : KT [.p, .ag]) (w : World) (k : KT [.s, .b, (.i .i64)] → World → Prop) : evFn Go.Proofs.Try.prog (orcOf [(n_clock_Clock_Set, (fun args w c => unL [.p, (.i .i64), (.i .i64)] args fun x => clock_Clock_Set x.1 x.2.1 x.2.2 w fun r w => c (packV (valL [(.i .i64)] r)) w)), (n_clock_Clock_Drop, (fun args w c => unL [.p, (.i .i64)] args fun x => clock_Clock_Drop x.1 x.2 w fun r w => c (packV (valL [.b] r)) w)), (n_clock_Clock_Advance, (fun args w c => unL [.p, (.i .i64)] args fun x => clock_Clock_Advance x.1 x.2 w fun r w => c (packV (valL [.s, (.i .i64)] r)) w))]) 34082297 [] Go.Proofs.Try.f50 [.s, .b, (.i .i64)] (valL [.p, .ag] x) w k = pelotonlaw13_do_b clock_Clock_Set clock_Clock_Drop clock_Clock_Advance x.1 x.2 w k := by kernel_rfl
def pelotonlaw13_do (c_0 : Option Addr) (a_1 : Array Value) (w : World) (k : (Sl × Bool × Int) → World → Prop) : Prop := pelotonlaw13_do_b clock_Clock_Set clock_Clock_Drop clock_Clock_Advance c_0 a_1 w k
def d_pelotonlaw13_do : Dec := fun args w c => unL [.p, .ag] args fun x => pelotonlaw13_do x.1 x.2 w fun r w => c (packV (valL [.s, .b, (.i .i64)] r)) w
theorem s_pelotonlaw13_do : Sound Go.Proofs.Try.prog n_pelotonlaw13_do d_pelotonlaw13_do :=
  sound_of (mask := 34082297) (h := []) (ds := [(n_clock_Clock_Set, d_clock_Clock_Set), (n_clock_Clock_Drop, d_clock_Clock_Drop), (n_clock_Clock_Advance, d_clock_Clock_Advance)]) mixed Go.Proofs.Try.func50 ⟨s_clock_Clock_Set, s_clock_Clock_Drop, s_clock_Clock_Advance, trivial⟩
    [.p, .ag] [.s, .b, (.i .i64)] (by kernel_rfl) (fun x w k => pelotonlaw13_do x.1 x.2 w k) (fun x w k => e_pelotonlaw13_do clock_Clock_Set clock_Clock_Drop clock_Clock_Advance x w k)

/-- peloton/pelotonlaw13.ClockOnce -/
def pelotonlaw13_ClockOnce_b (clock_New : World → ((Option Addr) → World → Prop) → Prop) (pelotonlaw13_awake : World → ((Bool) → World → Prop) → Prop) (clock_Clock_Now : Option Addr → World → ((Int) → World → Prop) → Prop) (pelotonlaw13_do : Option Addr → Array Value → World → ((Sl × Bool × Int) → World → Prop) → Prop) (clock_Clock_Len : Option Addr → World → ((Int) → World → Prop) → Prop) (l_0 : Sl) (w : World) (k : (Bool) → World → Prop) : Prop :=
  clock_New  w fun p1 w2 =>
  iteB (Option.isNone p1) (
    (k false w2)) (
    iteB (decide (((l_0.n : Nat) : Int) > (200 : Int))) (
      pelotonlaw13_awake  w2 fun b3 w4 =>
      (k b3 w4)) (
      newC w2 #[(.int .i64 (0 : Int)), (.int .i64 (0 : Int)), (.int .i64 (0 : Int)), (.int .i64 (0 : Int)), (.int .i64 (0 : Int)), (.int .i64 (0 : Int)), (.int .i64 (0 : Int)), (.int .i64 (0 : Int))] 94 fun a5 w6 =>
      stA 8 w6 a5 #[(.int .i64 (0 : Int)), (.int .i64 (0 : Int)), (.int .i64 (0 : Int)), (.int .i64 (0 : Int)), (.int .i64 (0 : Int)), (.int .i64 (0 : Int)), (.int .i64 (0 : Int)), (.int .i64 (0 : Int))] fun w7 =>
      loopP (S := Int) (fun C8 i9 w10 =>
        iteB (decide (i9 < ((l_0.n : Nat) : Int))) (
          ixS l_0 i9 3 fun a11 =>
          ldA 3 w10 a11 fun cs12 =>
          newC w10 #[(.int .i64 (0 : Int)), (.int .i64 (0 : Int)), (.int .i64 (0 : Int))] 88 fun a13 w14 =>
          stA 3 w14 a13 cs12 fun w15 =>
          ldI .i64 w15 (Addr.add a13 1) fun i16 =>
          stC w15 (Addr.add a13 1) (.int .i64 (remV (IntKind.wrap .i64 ((remV i16 (8 : Int)) + (8 : Int))) (8 : Int))) fun w17 =>
          clock_Clock_Now p1 w17 fun i18 w19 =>
          ldA 3 w19 a13 fun cs20 =>
          pelotonlaw13_do p1 cs20 w19 fun x21 w22 =>
          ldI .i64 w22 (Addr.add a13 0) fun i23 =>
          joinP (S := Unit) (fun J24 =>
            iteB (i23 == (0 : Int)) (
              iteB ((x21.1, (x21.2.1, x21.2.2)).2.2 == (0 : Int)) (
                ldI .i64 w22 (Addr.add a13 1) fun i25 =>
                ixP a5 8 i25 1 fun a26 =>
                ldI .i64 w22 a26 fun i27 =>
                iteB (i27 != (0 : Int)) (
                  (k false w22)) (
                  ldI .i64 w22 (Addr.add a13 1) fun i28 =>
                  ldI .i64 w22 (Addr.add a13 2) fun i29 =>
                  ixP a5 8 i28 1 fun a30 =>
                  stC w22 a30 (.int .i64 (IntKind.wrap .i64 (i18 + i29))) fun w31 =>
                  (J24 () w31))) (
                joinP (S := Bool) (fun J32 =>
                  ldI .i64 w22 (Addr.add a13 1) fun i33 =>
                  ixP a5 8 i33 1 fun a34 =>
                  ldI .i64 w22 a34 fun i35 =>
                  iteB (i35 != (0 : Int)) (
                    ldI .i64 w22 (Addr.add a13 2) fun i36 =>
                    iteB (decide (i36 ≥ (1 : Int))) (
                      ldI .i64 w22 (Addr.add a13 2) fun i37 =>
                      (J32 (!(((x21.1, (x21.2.1, x21.2.2)).2.2 == (18 : Int)) == (decide (i37 ≤ (1099511627776 : Int))))) w22)) (
                      (J32 (!(((x21.1, (x21.2.1, x21.2.2)).2.2 == (18 : Int)) == false)) w22))) (
                    (J32 (!(((x21.1, (x21.2.1, x21.2.2)).2.2 == (18 : Int)) == false)) w22))) fun b38 w39 =>
                iteB b38 (
                  (k false w39)) (
                  (J24 () w39)))) (
              iteB (i23 == (1 : Int)) (
                ldI .i64 w22 (Addr.add a13 1) fun i40 =>
                ixP a5 8 i40 1 fun a41 =>
                ldI .i64 w22 a41 fun i42 =>
                iteB (!((x21.1, (x21.2.1, x21.2.2)).2.1 == (i42 != (0 : Int)))) (
                  (k false w22)) (
                  ldI .i64 w22 (Addr.add a13 1) fun i43 =>
                  ixP a5 8 i43 1 fun a44 =>
                  stC w22 a44 (.int .i64 (0 : Int)) fun w45 =>
                  (J24 () w45))) (
                iteB (i23 == (2 : Int)) (
                  joinP (S := Bool) (fun J46 =>
                    drew w22 fun w47 =>
                    iteB ((x21.1, (x21.2.1, x21.2.2)).2.2 == (0 : Int)) (
                      ldI .i64 w47 (Addr.add a13 2) fun i48 =>
                      clock_Clock_Now p1 w47 fun i49 w50 =>
                      samec 1 (Addr.add a13 2) w47 w50 (
                      iteB (i49 != (IntKind.wrap .i64 (i18 + i48))) (
                        (J46 true w50)) (
                        iteB ((x21.1, (x21.2.1, x21.2.2)).2.2 != (0 : Int)) (
                          clock_Clock_Now p1 w50 fun i51 w52 =>
                          (J46 ((i51 != i18) || (((x21.1.n : Nat) : Int) != (0 : Int))) w52)) (
                          (J46 false w50))))) (
                      iteB ((x21.1, (x21.2.1, x21.2.2)).2.2 != (0 : Int)) (
                        clock_Clock_Now p1 w47 fun i53 w54 =>
                        (J46 ((i53 != i18) || (((x21.1.n : Nat) : Int) != (0 : Int))) w54)) (
                        (J46 false w47)))) fun b55 w56 =>
                  iteB b55 (
                    (k false w56)) (
                    loopP (S := Int) (fun C57 i58 w59 =>
                      iteB (decide (i58 < ((x21.1.n : Nat) : Int))) (
                        ixS x21.1 i58 1 fun a60 =>
                        ldI .i64 w59 a60 fun i61 =>
                        joinP (S := Bool) (fun J62 =>
                          drew w59 fun w63 =>
                          iteB ((decide (i61 < (0 : Int))) || (decide (i61 > (7 : Int)))) (
                            (J62 true w63)) (
                            ixP a5 8 i61 1 fun a64 =>
                            ldI .i64 w63 a64 fun i65 =>
                            iteB (i65 == (0 : Int)) (
                              (J62 true w63)) (
                              ixP a5 8 i61 1 fun a66 =>
                              ldI .i64 w63 a66 fun i67 =>
                              clock_Clock_Now p1 w63 fun i68 w69 =>
                              samec 1 a66 w63 w69 (
                              (J62 (decide (i67 > i68)) w69))))) fun b70 w71 =>
                        iteB b70 (
                          (k false w71)) (
                          ixP a5 8 i61 1 fun a72 =>
                          stC w71 a72 (.int .i64 (0 : Int)) fun w73 =>
                          (C57 (IntKind.wrap .i64 (i58 + (1 : Int))) w73))) (
                        (J24 () w59))) (0 : Int) w56)) (
                  (J24 () w22))))) fun u74 w75 =>
          joinP (S := Int) (fun J76 =>
            loopP (S := (Int × Int)) (fun C77 x78 w79 =>
              iteB (decide (x78.2 < (8 : Int))) (
                ixP a5 8 x78.2 1 fun a80 =>
                ldI .i64 w79 a80 fun i81 =>
                iteB (i81 != (0 : Int)) (
                  drew w79 fun w82 =>
                  ixP a5 8 x78.2 1 fun a83 =>
                  ldI .i64 w82 a83 fun i84 =>
                  clock_Clock_Now p1 w82 fun i85 w86 =>
                  samec 1 a83 w82 w86 (
                  iteB (decide (i84 ≤ i85)) (
                    (k false w86)) (
                    (C77 ((IntKind.wrap .i64 (x78.1 + (1 : Int))), (IntKind.wrap .i64 (x78.2 + (1 : Int)))) w86)))) (
                  (C77 (x78.1, (IntKind.wrap .i64 (x78.2 + (1 : Int)))) w79))) (
                (J76 x78.1 w79))) ((0 : Int), (0 : Int)) w75) fun i87 w88 =>
          clock_Clock_Len p1 w88 fun i89 w90 =>
          iteB (i89 != i87) (
            (k false w90)) (
            (C8 (IntKind.wrap .i64 (i9 + (1 : Int))) w90))) (
          pelotonlaw13_awake  w10 fun b91 w92 =>
          (k b91 w92))) (0 : Int) w7))
theorem e_pelotonlaw13_ClockOnce (clock_New : World → ((Option Addr) → World → Prop) → Prop) (pelotonlaw13_awake : World → ((Bool) → World → Prop) → Prop) (clock_Clock_Now : Option Addr → World → ((Int) → World → Prop) → Prop) (pelotonlaw13_do : Option Addr → Array Value → World → ((Sl × Bool × Int) → World → Prop) → Prop) (clock_Clock_Len : Option Addr → World → ((Int) → World → Prop) → Prop) (x : KT [.s]) (w : World) (k : KT [.b] → World → Prop) : evFn Go.Proofs.Try.prog (orcOf [(n_clock_New, (fun args w c => unL [] args fun x => clock_New  w fun r w => c (packV (valL [.p] r)) w)), (n_pelotonlaw13_awake, (fun args w c => unL [] args fun x => pelotonlaw13_awake  w fun r w => c (packV (valL [.b] r)) w)), (n_clock_Clock_Now, (fun args w c => unL [.p] args fun x => clock_Clock_Now x w fun r w => c (packV (valL [(.i .i64)] r)) w)), (n_pelotonlaw13_do, (fun args w c => unL [.p, .ag] args fun x => pelotonlaw13_do x.1 x.2 w fun r w => c (packV (valL [.s, .b, (.i .i64)] r)) w)), (n_clock_Clock_Len, (fun args w c => unL [.p] args fun x => clock_Clock_Len x w fun r w => c (packV (valL [(.i .i64)] r)) w))]) 50895527124097752009076455498899291301133159725432829 [(11, [(5, (.i .i64))]), (20, []), (29, [(83, .b)]), (40, [(123, .b)]), (45, [(11, (.i .i64))]), (50, [(153, .b)]), (57, [(13, (.i .i64))]), (58, [(13, (.i .i64)), (14, (.i .i64))])] Go.Proofs.Try.f10 [.b] (valL [.s] x) w k = pelotonlaw13_ClockOnce_b clock_New pelotonlaw13_awake clock_Clock_Now pelotonlaw13_do clock_Clock_Len x w k := by kernel_rfl
def pelotonlaw13_ClockOnce (l_0 : Sl) (w : World) (k : (Bool) → World → Prop) : Prop := pelotonlaw13_ClockOnce_b clock_New pelotonlaw13_awake clock_Clock_Now pelotonlaw13_do clock_Clock_Len l_0 w k
def d_pelotonlaw13_ClockOnce : Dec := fun args w c => unL [.s] args fun x => pelotonlaw13_ClockOnce x w fun r w => c (packV (valL [.b] r)) w
theorem s_pelotonlaw13_ClockOnce : Sound Go.Proofs.Try.prog n_pelotonlaw13_ClockOnce d_pelotonlaw13_ClockOnce :=
  sound_of (mask := 50895527124097752009076455498899291301133159725432829) (h := [(11, [(5, (.i .i64))]), (20, []), (29, [(83, .b)]), (40, [(123, .b)]), (45, [(11, (.i .i64))]), (50, [(153, .b)]), (57, [(13, (.i .i64))]), (58, [(13, (.i .i64)), (14, (.i .i64))])]) (ds := [(n_clock_New, d_clock_New), (n_pelotonlaw13_awake, d_pelotonlaw13_awake), (n_clock_Clock_Now, d_clock_Clock_Now), (n_pelotonlaw13_do, d_pelotonlaw13_do), (n_clock_Clock_Len, d_clock_Clock_Len)]) mixed Go.Proofs.Try.func10 ⟨s_clock_New, s_pelotonlaw13_awake, s_clock_Clock_Now, s_pelotonlaw13_do, s_clock_Clock_Len, trivial⟩
    [.s] [.b] (by kernel_rfl) (fun x w k => pelotonlaw13_ClockOnce x w k) (fun x w k => e_pelotonlaw13_ClockOnce clock_New pelotonlaw13_awake clock_Clock_Now pelotonlaw13_do clock_Clock_Len x w k)

/-- (*peloton/pelotonref13.Clock).First -/
def pelotonref13_Clock_First (c_0 : Option Addr) (w : World) (k : (Int) → World → Prop) : Prop :=
  loopP (S := (Int × Int)) (fun C1 x2 w3 =>
    nn c_0 fun a4 =>
    ldS w3 (Addr.add a4 1) fun s5 =>
    iteB (decide (x2.2 < ((s5.n : Nat) : Int))) (
      joinP (S := Bool) (fun J6 =>
        drew w3 fun w7 =>
        iteB (decide (x2.1 < (0 : Int))) (
          (J6 true w7)) (
          nn c_0 fun a8 =>
          ldS w7 (Addr.add a8 1) fun s9 =>
          ixS s9 x2.2 2 fun a10 =>
          ldI .i64 w7 (Addr.add a10 0) fun i11 =>
          nn c_0 fun a12 =>
          ldS w7 (Addr.add a12 1) fun s13 =>
          ixS s13 x2.1 2 fun a14 =>
          ldI .i64 w7 (Addr.add a14 0) fun i15 =>
          iteB (decide (i11 < i15)) (
            (J6 true w7)) (
            nn c_0 fun a16 =>
            ldS w7 (Addr.add a16 1) fun s17 =>
            ixS s17 x2.2 2 fun a18 =>
            ldI .i64 w7 (Addr.add a18 0) fun i19 =>
            nn c_0 fun a20 =>
            ldS w7 (Addr.add a20 1) fun s21 =>
            ixS s21 x2.1 2 fun a22 =>
            ldI .i64 w7 (Addr.add a22 0) fun i23 =>
            iteB (i19 == i23) (
              nn c_0 fun a24 =>
              ldS w7 (Addr.add a24 1) fun s25 =>
              ixS s25 x2.2 2 fun a26 =>
              ldI .i64 w7 (Addr.add a26 1) fun i27 =>
              nn c_0 fun a28 =>
              ldS w7 (Addr.add a28 1) fun s29 =>
              ixS s29 x2.1 2 fun a30 =>
              ldI .i64 w7 (Addr.add a30 1) fun i31 =>
              (J6 (decide (i27 < i31)) w7)) (
              (J6 false w7))))) fun b32 w33 =>
      iteB b32 (
        (C1 (x2.2, (IntKind.wrap .i64 (x2.2 + (1 : Int)))) w33)) (
        (C1 (x2.1, (IntKind.wrap .i64 (x2.2 + (1 : Int)))) w33))) (
      (k x2.1 w3))) ((-(1 : Int)), (0 : Int)) w
def d_pelotonref13_Clock_First : Dec := fun args w c => unL [.p] args fun x => pelotonref13_Clock_First x w fun r w => c (packV (valL [(.i .i64)] r)) w
theorem s_pelotonref13_Clock_First : Sound Go.Proofs.Try.prog n_pelotonref13_Clock_First d_pelotonref13_Clock_First :=
  sound_of (mask := 4722366482869645215773) (h := [(4, [(3, (.i .i64)), (4, (.i .i64))]), (8, [(72, .b)])]) (ds := []) mixed Go.Proofs.Try.func85 trivial
    [.p] [(.i .i64)] (by kernel_rfl) (fun x w k => pelotonref13_Clock_First x w k) (fun x w k => by kernel_rfl)

/-- peloton/pelotonlaw13.is -/
def pelotonlaw13_is_b (clock_Clock_Next : Option Addr → World → ((Int × Int × Bool) → World → Prop) → Prop) (pelotonref13_Clock_First : Option Addr → World → ((Int) → World → Prop) → Prop) (clock_Clock_Now : Option Addr → World → ((Int) → World → Prop) → Prop) (clock_Clock_Len : Option Addr → World → ((Int) → World → Prop) → Prop) (c_0 : Option Addr) (r_1 : Option Addr) (w : World) (k : (Bool) → World → Prop) : Prop :=
  clock_Clock_Next c_0 w fun x1 w2 =>
  pelotonref13_Clock_First r_1 w2 fun i3 w4 =>
  joinP (S := Bool) (fun J5 =>
    drew w4 fun w6 =>
    nn r_1 fun a7 =>
    ldI .i64 w6 (Addr.add a7 0) fun i8 =>
    clock_Clock_Now c_0 w6 fun i9 w10 =>
    samec 1 (Addr.add a7 0) w6 w10 (
    iteB (i9 != i8) (
      (J5 (true || (!((x1.1, (x1.2.1, x1.2.2)).2.2 == (decide (i3 ≥ (0 : Int)))))) w10)) (
      nn r_1 fun a11 =>
      ldS w10 (Addr.add a11 1) fun s12 =>
      clock_Clock_Len c_0 w10 fun i13 w14 =>
      samec 1 (Addr.add a11 1) w10 w14 (
      (J5 ((i13 != ((s12.n : Nat) : Int)) || (!((x1.1, (x1.2.1, x1.2.2)).2.2 == (decide (i3 ≥ (0 : Int)))))) w14))))) fun b15 w16 =>
  iteB b15 (
    (k false w16)) (
    iteB (decide (i3 < (0 : Int))) (
      (k (((x1.1, (x1.2.1, x1.2.2)).1 == (0 : Int)) && ((x1.1, (x1.2.1, x1.2.2)).2.1 == (0 : Int))) w16)) (
      nn r_1 fun a17 =>
      ldS w16 (Addr.add a17 1) fun s18 =>
      ixS s18 i3 2 fun a19 =>
      ldI .i64 w16 (Addr.add a19 0) fun i20 =>
      iteB ((x1.1, (x1.2.1, x1.2.2)).1 == i20) (
        nn r_1 fun a21 =>
        ldS w16 (Addr.add a21 1) fun s22 =>
        ixS s22 i3 2 fun a23 =>
        ldI .i64 w16 (Addr.add a23 1) fun i24 =>
        (k ((x1.1, (x1.2.1, x1.2.2)).2.1 == i24) w16)) (
        (k false w16))))
theorem e_pelotonlaw13_is (clock_Clock_Next : Option Addr → World → ((Int × Int × Bool) → World → Prop) → Prop) (pelotonref13_Clock_First : Option Addr → World → ((Int) → World → Prop) → Prop) (clock_Clock_Now : Option Addr → World → ((Int) → World → Prop) → Prop) (clock_Clock_Len : Option Addr → World → ((Int) → World → Prop) → Prop) (x : KT [.p, .p]) (w : World) (k : KT [.b] → World → Prop) : evFn Go.Proofs.Try.prog (orcOf [(n_clock_Clock_Next, (fun args w c => unL [.p] args fun x => clock_Clock_Next x w fun r w => c (packV (valL [(.i .i64), (.i .i64), .b] r)) w)), (n_pelotonref13_Clock_First, (fun args w c => unL [.p] args fun x => pelotonref13_Clock_First x w fun r w => c (packV (valL [(.i .i64)] r)) w)), (n_clock_Clock_Now, (fun args w c => unL [.p] args fun x => clock_Clock_Now x w fun r w => c (packV (valL [(.i .i64)] r)) w)), (n_clock_Clock_Len, (fun args w c => unL [.p] args fun x => clock_Clock_Len x w fun r w => c (packV (valL [(.i .i64)] r)) w))]) 2748779069939 [(3, [(39, .b)])] Go.Proofs.Try.f51 [.b] (valL [.p, .p] x) w k = pelotonlaw13_is_b clock_Clock_Next pelotonref13_Clock_First clock_Clock_Now clock_Clock_Len x.1 x.2 w k := by kernel_rfl
def pelotonlaw13_is (c_0 : Option Addr) (r_1 : Option Addr) (w : World) (k : (Bool) → World → Prop) : Prop := pelotonlaw13_is_b clock_Clock_Next pelotonref13_Clock_First clock_Clock_Now clock_Clock_Len c_0 r_1 w k
def d_pelotonlaw13_is : Dec := fun args w c => unL [.p, .p] args fun x => pelotonlaw13_is x.1 x.2 w fun r w => c (packV (valL [.b] r)) w
theorem s_pelotonlaw13_is : Sound Go.Proofs.Try.prog n_pelotonlaw13_is d_pelotonlaw13_is :=
  sound_of (mask := 2748779069939) (h := [(3, [(39, .b)])]) (ds := [(n_clock_Clock_Next, d_clock_Clock_Next), (n_pelotonref13_Clock_First, d_pelotonref13_Clock_First), (n_clock_Clock_Now, d_clock_Clock_Now), (n_clock_Clock_Len, d_clock_Clock_Len)]) mixed Go.Proofs.Try.func51 ⟨s_clock_Clock_Next, s_pelotonref13_Clock_First, s_clock_Clock_Now, s_clock_Clock_Len, trivial⟩
    [.p, .p] [.b] (by kernel_rfl) (fun x w k => pelotonlaw13_is x.1 x.2 w k) (fun x w k => e_pelotonlaw13_is clock_Clock_Next pelotonref13_Clock_First clock_Clock_Now clock_Clock_Len x w k)

/-- (*peloton/pelotonref13.Clock).Copy -/
def pelotonref13_Clock_Copy (c_0 : Option Addr) (w : World) (k : (Option Addr) → World → Prop) : Prop :=
  drew w fun w1 =>
  nn c_0 fun a2 =>
  ldI .i64 w1 (Addr.add a2 0) fun i3 =>
  nn c_0 fun a4 =>
  ldS w1 (Addr.add a4 1) fun s5 =>
  newC w1 #[] 147 fun a6 w7 =>
  samec 1 (Addr.add a4 1) w1 w7 (
  samec 1 (Addr.add a2 0) w1 w7 (
  bApp Go.Proofs.Try.prog #[98, 98] 98 [(.slice (some a6) 0 0), (.slice s5.a s5.n s5.c)] w7 fun s8 w9 =>
  samec 1 (Addr.add a2 0) w1 w9 (
  newC w9 #[(.int .i64 i3), (.slice s8.a s8.n s8.c)] 100 fun a10 w11 =>
  (k (some a10) w11))))
def d_pelotonref13_Clock_Copy : Dec := fun args w c => unL [.p] args fun x => pelotonref13_Clock_Copy x w fun r w => c (packV (valL [.p] r)) w
theorem s_pelotonref13_Clock_Copy : Sound Go.Proofs.Try.prog n_pelotonref13_Clock_Copy d_pelotonref13_Clock_Copy :=
  sound_of (mask := 5) (h := []) (ds := []) mixed Go.Proofs.Try.func52 trivial
    [.p] [.p] (by kernel_rfl) (fun x w k => pelotonref13_Clock_Copy x w k) (fun x w k => by kernel_rfl)

/-- (*peloton/pelotonref13.Clock).Find -/
def pelotonref13_Clock_Find (c_0 : Option Addr) (id_1 : Int) (w : World) (k : (Int) → World → Prop) : Prop :=
  loopP (S := Int) (fun C1 i2 w3 =>
    nn c_0 fun a4 =>
    ldS w3 (Addr.add a4 1) fun s5 =>
    iteB (decide (i2 < ((s5.n : Nat) : Int))) (
      nn c_0 fun a6 =>
      ldS w3 (Addr.add a6 1) fun s7 =>
      ixS s7 i2 2 fun a8 =>
      ldI .i64 w3 (Addr.add a8 1) fun i9 =>
      iteB (i9 == id_1) (
        (k i2 w3)) (
        (C1 (IntKind.wrap .i64 (i2 + (1 : Int))) w3))) (
      (k (-(1 : Int)) w3))) (0 : Int) w
def d_pelotonref13_Clock_Find : Dec := fun args w c => unL [.p, (.i .i64)] args fun x => pelotonref13_Clock_Find x.1 x.2 w fun r w => c (packV (valL [(.i .i64)] r)) w
theorem s_pelotonref13_Clock_Find : Sound Go.Proofs.Try.prog n_pelotonref13_Clock_Find d_pelotonref13_Clock_Find :=
  sound_of (mask := 16781363) (h := [(3, [(5, (.i .i64))])]) (ds := []) mixed Go.Proofs.Try.func86 trivial
    [.p, (.i .i64)] [(.i .i64)] (by kernel_rfl) (fun x w k => pelotonref13_Clock_Find x.1 x.2 w k) (fun x w k => by kernel_rfl)

/-- (*peloton/pelotonref13.Clock).Set -/
def pelotonref13_Clock_Set_b (pelotonref13_Clock_Find : Option Addr → Int → World → ((Int) → World → Prop) → Prop) (c_0 : Option Addr) (id_1 : Int) (in_2 : Int) (w : World) (k : (Int) → World → Prop) : Prop :=
  iteB (((decide (id_1 < (0 : Int))) || (decide (in_2 < (1 : Int)))) || (decide (in_2 > (1099511627776 : Int)))) (
    (k (10 : Int) w)) (
    pelotonref13_Clock_Find c_0 id_1 w fun i1 w2 =>
    iteB (decide (i1 ≥ (0 : Int))) (
      (k (18 : Int) w2)) (
      drew w2 fun w3 =>
      nn c_0 fun a4 =>
      ldS w3 (Addr.add a4 1) fun s5 =>
      nn c_0 fun a6 =>
      ldI .i64 w3 (Addr.add a6 0) fun i7 =>
      samec 1 (Addr.add a4 1) w3 w3 (
      spl #[(.int .i64 (0 : Int)), (.int .i64 (0 : Int))] 0 2 #[(.int .i64 (IntKind.wrap .i64 (i7 + in_2))), (.int .i64 id_1)] fun cs8 =>
      newC w3 cs8 147 fun a9 w10 =>
      samec 1 (Addr.add a4 1) w3 w10 (
      bApp Go.Proofs.Try.prog #[98, 98] 98 [(.slice s5.a s5.n s5.c), (.slice (some a9) 1 1)] w10 fun s11 w12 =>
      nn c_0 fun a13 =>
      stC w12 (Addr.add a13 1) (.slice s11.a s11.n s11.c) fun w14 =>
      (k (0 : Int) w14)))))
theorem e_pelotonref13_Clock_Set (pelotonref13_Clock_Find : Option Addr → Int → World → ((Int) → World → Prop) → Prop) (x : KT [.p, (.i .i64), (.i .i64)]) (w : World) (k : KT [(.i .i64)] → World → Prop) : evFn Go.Proofs.Try.prog (orcOf [(n_pelotonref13_Clock_Find, (fun args w c => unL [.p, (.i .i64)] args fun x => pelotonref13_Clock_Find x.1 x.2 w fun r w => c (packV (valL [(.i .i64)] r)) w))]) 1114183 [] Go.Proofs.Try.f53 [(.i .i64)] (valL [.p, (.i .i64), (.i .i64)] x) w k = pelotonref13_Clock_Set_b pelotonref13_Clock_Find x.1 x.2.1 x.2.2 w k := by kernel_rfl
def pelotonref13_Clock_Set (c_0 : Option Addr) (id_1 : Int) (in_2 : Int) (w : World) (k : (Int) → World → Prop) : Prop := pelotonref13_Clock_Set_b pelotonref13_Clock_Find c_0 id_1 in_2 w k
def d_pelotonref13_Clock_Set : Dec := fun args w c => unL [.p, (.i .i64), (.i .i64)] args fun x => pelotonref13_Clock_Set x.1 x.2.1 x.2.2 w fun r w => c (packV (valL [(.i .i64)] r)) w
theorem s_pelotonref13_Clock_Set : Sound Go.Proofs.Try.prog n_pelotonref13_Clock_Set d_pelotonref13_Clock_Set :=
  sound_of (mask := 1114183) (h := []) (ds := [(n_pelotonref13_Clock_Find, d_pelotonref13_Clock_Find)]) mixed Go.Proofs.Try.func53 ⟨s_pelotonref13_Clock_Find, trivial⟩
    [.p, (.i .i64), (.i .i64)] [(.i .i64)] (by kernel_rfl) (fun x w k => pelotonref13_Clock_Set x.1 x.2.1 x.2.2 w k) (fun x w k => e_pelotonref13_Clock_Set pelotonref13_Clock_Find x w k)

/-- (*peloton/pelotonref13.Clock).Drop -/
def pelotonref13_Clock_Drop_b (pelotonref13_Clock_Find : Option Addr → Int → World → ((Int) → World → Prop) → Prop) (c_0 : Option Addr) (id_1 : Int) (w : World) (k : (Bool) → World → Prop) : Prop :=
  pelotonref13_Clock_Find c_0 id_1 w fun i1 w2 =>
  iteB (decide (i1 < (0 : Int))) (
    (k false w2)) (
    newC w2 #[] 147 fun a3 w4 =>
    nn c_0 fun a5 =>
    ldS w4 (Addr.add a5 1) fun s6 =>
    slS s6 2 (0 : Int) i1 fun s7 =>
    bApp Go.Proofs.Try.prog #[98, 98] 98 [(.slice (some a3) 0 0), (.slice s7.a s7.n s7.c)] w4 fun s8 w9 =>
    nn c_0 fun a10 =>
    ldS w9 (Addr.add a10 1) fun s11 =>
    slL s11 2 (IntKind.wrap .i64 (i1 + (1 : Int))) fun s12 =>
    bApp Go.Proofs.Try.prog #[98, 98] 98 [(.slice s8.a s8.n s8.c), (.slice s12.a s12.n s12.c)] w9 fun s13 w14 =>
    nn c_0 fun a15 =>
    stC w14 (Addr.add a15 1) (.slice s13.a s13.n s13.c) fun w16 =>
    (k true w16))
theorem e_pelotonref13_Clock_Drop (pelotonref13_Clock_Find : Option Addr → Int → World → ((Int) → World → Prop) → Prop) (x : KT [.p, (.i .i64)]) (w : World) (k : KT [.b] → World → Prop) : evFn Go.Proofs.Try.prog (orcOf [(n_pelotonref13_Clock_Find, (fun args w c => unL [.p, (.i .i64)] args fun x => pelotonref13_Clock_Find x.1 x.2 w fun r w => c (packV (valL [(.i .i64)] r)) w))]) 2163 [] Go.Proofs.Try.f54 [.b] (valL [.p, (.i .i64)] x) w k = pelotonref13_Clock_Drop_b pelotonref13_Clock_Find x.1 x.2 w k := by kernel_rfl
def pelotonref13_Clock_Drop (c_0 : Option Addr) (id_1 : Int) (w : World) (k : (Bool) → World → Prop) : Prop := pelotonref13_Clock_Drop_b pelotonref13_Clock_Find c_0 id_1 w k
def d_pelotonref13_Clock_Drop : Dec := fun args w c => unL [.p, (.i .i64)] args fun x => pelotonref13_Clock_Drop x.1 x.2 w fun r w => c (packV (valL [.b] r)) w
theorem s_pelotonref13_Clock_Drop : Sound Go.Proofs.Try.prog n_pelotonref13_Clock_Drop d_pelotonref13_Clock_Drop :=
  sound_of (mask := 2163) (h := []) (ds := [(n_pelotonref13_Clock_Find, d_pelotonref13_Clock_Find)]) mixed Go.Proofs.Try.func54 ⟨s_pelotonref13_Clock_Find, trivial⟩
    [.p, (.i .i64)] [.b] (by kernel_rfl) (fun x w k => pelotonref13_Clock_Drop x.1 x.2 w k) (fun x w k => e_pelotonref13_Clock_Drop pelotonref13_Clock_Find x w k)

/-- (*peloton/pelotonref13.Clock).Advance -/
def pelotonref13_Clock_Advance_b (pelotonref13_Clock_First : Option Addr → World → ((Int) → World → Prop) → Prop) (pelotonref13_Clock_Drop : Option Addr → Int → World → ((Bool) → World → Prop) → Prop) (c_0 : Option Addr) (n_1 : Int) (w : World) (k : (Sl × Int) → World → Prop) : Prop :=
  joinP (S := Bool) (fun J1 =>
    iteB (decide (n_1 < (0 : Int))) (
      (J1 true w)) (
      nn c_0 fun a2 =>
      ldI .i64 w (Addr.add a2 0) fun i3 =>
      (J1 (decide (n_1 > (IntKind.wrap .i64 ((1099511627776 : Int) - i3)))) w))) fun b4 w5 =>
  iteB b4 (
    (k ((Sl.mk none 0 0), (10 : Int)) w5)) (
    nn c_0 fun a6 =>
    ldI .i64 w5 (Addr.add a6 0) fun i7 =>
    nn c_0 fun a8 =>
    stC w5 (Addr.add a8 0) (.int .i64 (IntKind.wrap .i64 (i7 + n_1))) fun w9 =>
    newC w9 #[] 3 fun a10 w11 =>
    loopP (S := Sl) (fun C12 s13 w14 =>
      joinP (S := Bool) (fun J15 =>
        drew w14 fun w16 =>
        pelotonref13_Clock_First c_0 w16 fun i17 w18 =>
        iteB (decide (i17 ≥ (0 : Int))) (
          nn c_0 fun a19 =>
          ldS w18 (Addr.add a19 1) fun s20 =>
          nn c_0 fun a21 =>
          ldI .i64 w18 (Addr.add a21 0) fun i22 =>
          pelotonref13_Clock_First c_0 w18 fun i23 w24 =>
          samec 1 (Addr.add a21 0) w18 w24 (
          samec 1 (Addr.add a19 1) w18 w24 (
          ixS s20 i23 2 fun a25 =>
          ldI .i64 w24 (Addr.add a25 0) fun i26 =>
          (J15 (decide (i26 ≤ i22)) w24)))) (
          (J15 false w18))) fun b27 w28 =>
      iteB b27 (
        drew w28 fun w29 =>
        nn c_0 fun a30 =>
        ldS w29 (Addr.add a30 1) fun s31 =>
        pelotonref13_Clock_First c_0 w29 fun i32 w33 =>
        samec 1 (Addr.add a30 1) w29 w33 (
        ixS s31 i32 2 fun a34 =>
        ldI .i64 w33 (Addr.add a34 1) fun i35 =>
        pelotonref13_Clock_Drop c_0 i35 w33 fun b36 w37 =>
        newC w37 #[(.int .i64 i35)] 3 fun a38 w39 =>
        bApp Go.Proofs.Try.prog #[47, 47] 47 [(.slice s13.a s13.n s13.c), (.slice (some a38) 1 1)] w39 fun s40 w41 =>
        (C12 s40 w41))) (
        (k (s13, (0 : Int)) w28))) (Sl.mk (some a10) 0 0) w11)
theorem e_pelotonref13_Clock_Advance (pelotonref13_Clock_First : Option Addr → World → ((Int) → World → Prop) → Prop) (pelotonref13_Clock_Drop : Option Addr → Int → World → ((Bool) → World → Prop) → Prop) (x : KT [.p, (.i .i64)]) (w : World) (k : KT [.s, (.i .i64)] → World → Prop) : evFn Go.Proofs.Try.prog (orcOf [(n_pelotonref13_Clock_First, (fun args w c => unL [.p] args fun x => pelotonref13_Clock_First x w fun r w => c (packV (valL [(.i .i64)] r)) w)), (n_pelotonref13_Clock_Drop, (fun args w c => unL [.p, (.i .i64)] args fun x => pelotonref13_Clock_Drop x.1 x.2 w fun r w => c (packV (valL [.b] r)) w))]) 140737488617715 [(1, [(18, .b)]), (7, [(6, .s)]), (8, [(47, .b)])] Go.Proofs.Try.f55 [.s, (.i .i64)] (valL [.p, (.i .i64)] x) w k = pelotonref13_Clock_Advance_b pelotonref13_Clock_First pelotonref13_Clock_Drop x.1 x.2 w k := by kernel_rfl
def pelotonref13_Clock_Advance (c_0 : Option Addr) (n_1 : Int) (w : World) (k : (Sl × Int) → World → Prop) : Prop := pelotonref13_Clock_Advance_b pelotonref13_Clock_First pelotonref13_Clock_Drop c_0 n_1 w k
def d_pelotonref13_Clock_Advance : Dec := fun args w c => unL [.p, (.i .i64)] args fun x => pelotonref13_Clock_Advance x.1 x.2 w fun r w => c (packV (valL [.s, (.i .i64)] r)) w
theorem s_pelotonref13_Clock_Advance : Sound Go.Proofs.Try.prog n_pelotonref13_Clock_Advance d_pelotonref13_Clock_Advance :=
  sound_of (mask := 140737488617715) (h := [(1, [(18, .b)]), (7, [(6, .s)]), (8, [(47, .b)])]) (ds := [(n_pelotonref13_Clock_First, d_pelotonref13_Clock_First), (n_pelotonref13_Clock_Drop, d_pelotonref13_Clock_Drop)]) mixed Go.Proofs.Try.func55 ⟨s_pelotonref13_Clock_First, s_pelotonref13_Clock_Drop, trivial⟩
    [.p, (.i .i64)] [.s, (.i .i64)] (by kernel_rfl) (fun x w k => pelotonref13_Clock_Advance x.1 x.2 w k) (fun x w k => e_pelotonref13_Clock_Advance pelotonref13_Clock_First pelotonref13_Clock_Drop x w k)

/-- slices.Clone[peloton/clock.due,peloton/clock.deadline] -/
def slices_Clone_clock_due_clock_deadline_ (s_0 : Sl) (w : World) (k : (Sl) → World → Prop) : Prop :=
  iteB (Option.isNone s_0.a) (
    (k (Sl.mk none 0 0) w)) (
    newC w #[] 144 fun a1 w2 =>
    bApp Go.Proofs.Try.prog #[137, 137] 137 [(.slice (some a1) 0 0), (.slice s_0.a s_0.n s_0.c)] w2 fun s3 w4 =>
    (k s3 w4))
def d_slices_Clone_clock_due_clock_deadline_ : Dec := fun args w c => unL [.s] args fun x => slices_Clone_clock_due_clock_deadline_ x w fun r w => c (packV (valL [.s] r)) w
theorem s_slices_Clone_clock_due_clock_deadline_ : Sound Go.Proofs.Try.prog n_slices_Clone_clock_due_clock_deadline_ d_slices_Clone_clock_due_clock_deadline_ :=
  sound_of (mask := 21) (h := []) (ds := []) mixed Go.Proofs.Try.func87 trivial
    [.s] [.s] (by kernel_rfl) (fun x w k => slices_Clone_clock_due_clock_deadline_ x w k) (fun x w k => by kernel_rfl)

end Go.Proofs.Ytheallacpidcmaa
