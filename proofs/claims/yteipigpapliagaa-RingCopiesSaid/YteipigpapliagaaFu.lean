/-
  The functions of this seat, as the evaluator gives them: printed by a program; each tied to its function by the kernel.
-/
import Derived.Test.YteipigpapliagaaProg
import Derived.Test.YteipigpapliagaaEvH
import Derived.KernelRfl
set_option maxRecDepth 100000
set_option linter.unusedVariables false
namespace Go.Proofs.Yteipigpapliagaa
open Go Go.Ev
theorem mixed : Go.Proofs.Try.prog.follows .mixedOrders = true := by kernel_rfl

abbrev n_pelotonlaw09_RingPlaces : Nat := 3
abbrev n_pelotonlaw09_RingWords : Nat := 4
abbrev n_pelotonlaw09_RingRounds : Nat := 5
abbrev n_pelotonlaw09_RingNil : Nat := 6
abbrev n_pelotonlaw09_RingCopies : Nat := 7
abbrev n_pelotonlaw09_RingNew : Nat := 8
abbrev n_pelotonlaw09_RingMoves : Nat := 9
abbrev n_ring_Ring_Size : Nat := 10
abbrev n_pelotonref09_Size : Nat := 11
abbrev n_ring_Ring_Place : Nat := 12
abbrev n_pelotonref09_Place : Nat := 13
abbrev n_ring_Ring_Word : Nat := 14
abbrev n_pelotonref09_Word : Nat := 15
abbrev n_ring_Of : Nat := 16
abbrev n_pelotonref09_Of : Nat := 17
abbrev n_pelotonlaw09_awake : Nat := 18
abbrev n_ring_New : Nat := 19
abbrev n_cells_New : Nat := 20
abbrev n_ring_Copy_Step : Nat := 21
abbrev n_ring_Ring_Copy : Nat := 22
abbrev n_cells_Machine_Alloc : Nat := 23
abbrev n_pelotonref09_Begin : Nat := 24
abbrev n_cells_Machine_Store : Nat := 25
abbrev n_pelotonref09_Copy_Step : Nat := 26
abbrev n_cells_Machine_Peek : Nat := 27
abbrev n_cells_Machine_Steps : Nat := 28
abbrev n_cells_Machine_Used : Nat := 29
abbrev n_ring_Ring_right : Nat := 30
abbrev n_pelotonref09_Right : Nat := 31
abbrev n_pelotonref09_power : Nat := 32
abbrev n_ring_Copy_load : Nat := 33
abbrev n_cells_Machine_looks : Nat := 34
abbrev n_cells_some : Nat := 35
abbrev n_cells_Machine_given : Nat := 36
abbrev n_cells_Machine_caller : Nat := 37
abbrev n_cells_Machine_Load : Nat := 38
abbrev n_ring_Copy_store : Nat := 39

/-- (peloton/ring.Ring).right -/
def ring_Ring_right (r_0 : Array Value) (w : World) (k : (Bool) → World → Prop) : Prop :=
  newC w r_0 24 fun a1 w2 =>
  drew w2 fun w3 =>
  ldI .i64 w3 (Addr.add a1 1) fun i4 =>
  iteB (decide (i4 ≥ (0 : Int))) (
    ldI .i64 w3 (Addr.add a1 1) fun i5 =>
    iteB (decide (i5 ≤ (8 : Int))) (
      ldI .i64 w3 (Addr.add a1 0) fun i6 =>
      iteB (decide (i6 ≥ (0 : Int))) (
        ldI .i64 w3 (Addr.add a1 0) fun i7 =>
        ldI .i64 w3 (Addr.add a1 1) fun i8 =>
        shlI .i64 (1 : Int) i8 fun i9 =>
        (k (decide (i7 ≤ (IntKind.wrap .i64 ((1048576 : Int) - i9)))) w3)) (
        (k false w3))) (
      (k false w3))) (
    (k false w3))
def d_ring_Ring_right : Dec := fun args w c => unL [.ag] args fun x => ring_Ring_right x w fun r w => c (packV (valL [.b] r)) w
theorem s_ring_Ring_right : Sound Go.Proofs.Try.prog n_ring_Ring_right d_ring_Ring_right :=
  sound_of (mask := 6) (h := []) (ds := []) mixed Go.Proofs.Try.func30 trivial
    [.ag] [.b] (by kernel_rfl) (fun x w k => ring_Ring_right x w k) (fun x w k => by kernel_rfl)

/-- (peloton/ring.Ring).Size -/
def ring_Ring_Size_b (ring_Ring_right : Array Value → World → ((Bool) → World → Prop) → Prop) (r_0 : Array Value) (w : World) (k : (Int) → World → Prop) : Prop :=
  newC w r_0 24 fun a1 w2 =>
  ldA 2 w2 a1 fun cs3 =>
  ring_Ring_right cs3 w2 fun b4 w5 =>
  iteB (!b4) (
    (k (0 : Int) w5)) (
    ldI .i64 w5 (Addr.add a1 1) fun i6 =>
    shlI .i64 (1 : Int) i6 fun i7 =>
    (k i7 w5))
theorem e_ring_Ring_Size (ring_Ring_right : Array Value → World → ((Bool) → World → Prop) → Prop) (x : KT [.ag]) (w : World) (k : KT [(.i .i64)] → World → Prop) : evFn Go.Proofs.Try.prog (orcOf [(n_ring_Ring_right, (fun args w c => unL [.ag] args fun x => ring_Ring_right x w fun r w => c (packV (valL [.b] r)) w))]) 38 [] Go.Proofs.Try.f10 [(.i .i64)] (valL [.ag] x) w k = ring_Ring_Size_b ring_Ring_right x w k := by kernel_rfl
def ring_Ring_Size (r_0 : Array Value) (w : World) (k : (Int) → World → Prop) : Prop := ring_Ring_Size_b ring_Ring_right r_0 w k
def d_ring_Ring_Size : Dec := fun args w c => unL [.ag] args fun x => ring_Ring_Size x w fun r w => c (packV (valL [(.i .i64)] r)) w
theorem s_ring_Ring_Size : Sound Go.Proofs.Try.prog n_ring_Ring_Size d_ring_Ring_Size :=
  sound_of (mask := 38) (h := []) (ds := [(n_ring_Ring_right, d_ring_Ring_right)]) mixed Go.Proofs.Try.func10 ⟨s_ring_Ring_right, trivial⟩
    [.ag] [(.i .i64)] (by kernel_rfl) (fun x w k => ring_Ring_Size x w k) (fun x w k => e_ring_Ring_Size ring_Ring_right x w k)

/-- peloton/pelotonref09.power -/
def pelotonref09_power (n_0 : Int) (w : World) (k : (Int) → World → Prop) : Prop :=
  loopP (S := (Int × Int)) (fun C1 x2 w3 =>
    iteB (decide (x2.2 < n_0)) (
      (C1 ((IntKind.wrap .i64 ((2 : Int) * x2.1)), (IntKind.wrap .i64 (x2.2 + (1 : Int)))) w3)) (
      (k x2.1 w3))) ((1 : Int), (0 : Int)) w
def d_pelotonref09_power : Dec := fun args w c => unL [(.i .i64)] args fun x => pelotonref09_power x w fun r w => c (packV (valL [(.i .i64)] r)) w
theorem s_pelotonref09_power : Sound Go.Proofs.Try.prog n_pelotonref09_power d_pelotonref09_power :=
  sound_of (mask := 157) (h := [(4, [(3, (.i .i64)), (4, (.i .i64))])]) (ds := []) mixed Go.Proofs.Try.func32 trivial
    [(.i .i64)] [(.i .i64)] (by kernel_rfl) (fun x w k => pelotonref09_power x w k) (fun x w k => by kernel_rfl)

/-- peloton/pelotonref09.Right -/
def pelotonref09_Right_b (pelotonref09_power : Int → World → ((Int) → World → Prop) → Prop) (r_0 : Array Value) (w : World) (k : (Bool) → World → Prop) : Prop :=
  newC w r_0 25 fun a1 w2 =>
  joinP (S := Bool) (fun J3 =>
    ldI .i64 w2 (Addr.add a1 1) fun i4 =>
    iteB (decide (i4 < (0 : Int))) (
      (J3 true w2)) (
      ldI .i64 w2 (Addr.add a1 1) fun i5 =>
      iteB (decide (i5 > (8 : Int))) (
        (J3 true w2)) (
        ldI .i64 w2 (Addr.add a1 0) fun i6 =>
        (J3 (decide (i6 < (0 : Int))) w2)))) fun b7 w8 =>
  iteB b7 (
    (k false w8)) (
    drew w8 fun w9 =>
    ldI .i64 w9 (Addr.add a1 0) fun i10 =>
    ldI .i64 w9 (Addr.add a1 1) fun i11 =>
    pelotonref09_power i11 w9 fun i12 w13 =>
    samec 1 (Addr.add a1 0) w9 w13 (
    (k (decide (i10 ≤ (IntKind.wrap .i64 ((1048576 : Int) - i12)))) w13)))
theorem e_pelotonref09_Right (pelotonref09_power : Int → World → ((Int) → World → Prop) → Prop) (x : KT [.ag]) (w : World) (k : KT [.b] → World → Prop) : evFn Go.Proofs.Try.prog (orcOf [(n_pelotonref09_power, (fun args w c => unL [(.i .i64)] args fun x => pelotonref09_power x w fun r w => c (packV (valL [(.i .i64)] r)) w))]) 32774 [(1, [(15, .b)])] Go.Proofs.Try.f31 [.b] (valL [.ag] x) w k = pelotonref09_Right_b pelotonref09_power x w k := by kernel_rfl
def pelotonref09_Right (r_0 : Array Value) (w : World) (k : (Bool) → World → Prop) : Prop := pelotonref09_Right_b pelotonref09_power r_0 w k
def d_pelotonref09_Right : Dec := fun args w c => unL [.ag] args fun x => pelotonref09_Right x w fun r w => c (packV (valL [.b] r)) w
theorem s_pelotonref09_Right : Sound Go.Proofs.Try.prog n_pelotonref09_Right d_pelotonref09_Right :=
  sound_of (mask := 32774) (h := [(1, [(15, .b)])]) (ds := [(n_pelotonref09_power, d_pelotonref09_power)]) mixed Go.Proofs.Try.func31 ⟨s_pelotonref09_power, trivial⟩
    [.ag] [.b] (by kernel_rfl) (fun x w k => pelotonref09_Right x w k) (fun x w k => e_pelotonref09_Right pelotonref09_power x w k)

/-- peloton/pelotonref09.Size -/
def pelotonref09_Size_b (pelotonref09_Right : Array Value → World → ((Bool) → World → Prop) → Prop) (pelotonref09_power : Int → World → ((Int) → World → Prop) → Prop) (r_0 : Array Value) (w : World) (k : (Int) → World → Prop) : Prop :=
  newC w r_0 25 fun a1 w2 =>
  ldA 2 w2 a1 fun cs3 =>
  pelotonref09_Right cs3 w2 fun b4 w5 =>
  iteB (!b4) (
    (k (0 : Int) w5)) (
    ldI .i64 w5 (Addr.add a1 1) fun i6 =>
    pelotonref09_power i6 w5 fun i7 w8 =>
    (k i7 w8))
theorem e_pelotonref09_Size (pelotonref09_Right : Array Value → World → ((Bool) → World → Prop) → Prop) (pelotonref09_power : Int → World → ((Int) → World → Prop) → Prop) (x : KT [.ag]) (w : World) (k : KT [(.i .i64)] → World → Prop) : evFn Go.Proofs.Try.prog (orcOf [(n_pelotonref09_Right, (fun args w c => unL [.ag] args fun x => pelotonref09_Right x w fun r w => c (packV (valL [.b] r)) w)), (n_pelotonref09_power, (fun args w c => unL [(.i .i64)] args fun x => pelotonref09_power x w fun r w => c (packV (valL [(.i .i64)] r)) w))]) 38 [] Go.Proofs.Try.f11 [(.i .i64)] (valL [.ag] x) w k = pelotonref09_Size_b pelotonref09_Right pelotonref09_power x w k := by kernel_rfl
def pelotonref09_Size (r_0 : Array Value) (w : World) (k : (Int) → World → Prop) : Prop := pelotonref09_Size_b pelotonref09_Right pelotonref09_power r_0 w k
def d_pelotonref09_Size : Dec := fun args w c => unL [.ag] args fun x => pelotonref09_Size x w fun r w => c (packV (valL [(.i .i64)] r)) w
theorem s_pelotonref09_Size : Sound Go.Proofs.Try.prog n_pelotonref09_Size d_pelotonref09_Size :=
  sound_of (mask := 38) (h := []) (ds := [(n_pelotonref09_Right, d_pelotonref09_Right), (n_pelotonref09_power, d_pelotonref09_power)]) mixed Go.Proofs.Try.func11 ⟨s_pelotonref09_Right, s_pelotonref09_power, trivial⟩
    [.ag] [(.i .i64)] (by kernel_rfl) (fun x w k => pelotonref09_Size x w k) (fun x w k => e_pelotonref09_Size pelotonref09_Right pelotonref09_power x w k)

/-- (peloton/ring.Ring).Place -/
def ring_Ring_Place_b (ring_Ring_right : Array Value → World → ((Bool) → World → Prop) → Prop) (ring_Ring_Size : Array Value → World → ((Int) → World → Prop) → Prop) (r_0 : Array Value) (i_1 : Int) (w : World) (k : (Int) → World → Prop) : Prop :=
  newC w r_0 24 fun a1 w2 =>
  ldA 2 w2 a1 fun cs3 =>
  ring_Ring_right cs3 w2 fun b4 w5 =>
  iteB (!b4) (
    (k (-(1 : Int)) w5)) (
    drew w5 fun w6 =>
    ldI .i64 w6 (Addr.add a1 0) fun i7 =>
    ldA 2 w6 a1 fun cs8 =>
    ring_Ring_Size cs8 w6 fun i9 w10 =>
    samec 1 (Addr.add a1 0) w6 w10 (
    (k (IntKind.wrap .i64 (i7 + (andI .i64 i_1 (IntKind.wrap .i64 (i9 - (1 : Int)))))) w10)))
theorem e_ring_Ring_Place (ring_Ring_right : Array Value → World → ((Bool) → World → Prop) → Prop) (ring_Ring_Size : Array Value → World → ((Int) → World → Prop) → Prop) (x : KT [.ag, (.i .i64)]) (w : World) (k : KT [(.i .i64)] → World → Prop) : evFn Go.Proofs.Try.prog (orcOf [(n_ring_Ring_right, (fun args w c => unL [.ag] args fun x => ring_Ring_right x w fun r w => c (packV (valL [.b] r)) w)), (n_ring_Ring_Size, (fun args w c => unL [.ag] args fun x => ring_Ring_Size x w fun r w => c (packV (valL [(.i .i64)] r)) w))]) 150 [] Go.Proofs.Try.f12 [(.i .i64)] (valL [.ag, (.i .i64)] x) w k = ring_Ring_Place_b ring_Ring_right ring_Ring_Size x.1 x.2 w k := by kernel_rfl
def ring_Ring_Place (r_0 : Array Value) (i_1 : Int) (w : World) (k : (Int) → World → Prop) : Prop := ring_Ring_Place_b ring_Ring_right ring_Ring_Size r_0 i_1 w k
def d_ring_Ring_Place : Dec := fun args w c => unL [.ag, (.i .i64)] args fun x => ring_Ring_Place x.1 x.2 w fun r w => c (packV (valL [(.i .i64)] r)) w
theorem s_ring_Ring_Place : Sound Go.Proofs.Try.prog n_ring_Ring_Place d_ring_Ring_Place :=
  sound_of (mask := 150) (h := []) (ds := [(n_ring_Ring_right, d_ring_Ring_right), (n_ring_Ring_Size, d_ring_Ring_Size)]) mixed Go.Proofs.Try.func12 ⟨s_ring_Ring_right, s_ring_Ring_Size, trivial⟩
    [.ag, (.i .i64)] [(.i .i64)] (by kernel_rfl) (fun x w k => ring_Ring_Place x.1 x.2 w k) (fun x w k => e_ring_Ring_Place ring_Ring_right ring_Ring_Size x w k)

/-- peloton/pelotonref09.Place -/
def pelotonref09_Place_b (pelotonref09_Right : Array Value → World → ((Bool) → World → Prop) → Prop) (pelotonref09_Size : Array Value → World → ((Int) → World → Prop) → Prop) (r_0 : Array Value) (i_1 : Int) (w : World) (k : (Int) → World → Prop) : Prop :=
  newC w r_0 25 fun a1 w2 =>
  ldA 2 w2 a1 fun cs3 =>
  pelotonref09_Right cs3 w2 fun b4 w5 =>
  iteB (!b4) (
    (k (-(1 : Int)) w5)) (
    ldA 2 w5 a1 fun cs6 =>
    pelotonref09_Size cs6 w5 fun i7 w8 =>
    drew w8 fun w9 =>
    ldI .i64 w9 (Addr.add a1 0) fun i10 =>
    remI i_1 i7 fun i11 =>
    remI (IntKind.wrap .i64 (i11 + i7)) i7 fun i12 =>
    (k (IntKind.wrap .i64 (i10 + i12)) w9))
theorem e_pelotonref09_Place (pelotonref09_Right : Array Value → World → ((Bool) → World → Prop) → Prop) (pelotonref09_Size : Array Value → World → ((Int) → World → Prop) → Prop) (x : KT [.ag, (.i .i64)]) (w : World) (k : KT [(.i .i64)] → World → Prop) : evFn Go.Proofs.Try.prog (orcOf [(n_pelotonref09_Right, (fun args w c => unL [.ag] args fun x => pelotonref09_Right x w fun r w => c (packV (valL [.b] r)) w)), (n_pelotonref09_Size, (fun args w c => unL [.ag] args fun x => pelotonref09_Size x w fun r w => c (packV (valL [(.i .i64)] r)) w))]) 310 [] Go.Proofs.Try.f13 [(.i .i64)] (valL [.ag, (.i .i64)] x) w k = pelotonref09_Place_b pelotonref09_Right pelotonref09_Size x.1 x.2 w k := by kernel_rfl
def pelotonref09_Place (r_0 : Array Value) (i_1 : Int) (w : World) (k : (Int) → World → Prop) : Prop := pelotonref09_Place_b pelotonref09_Right pelotonref09_Size r_0 i_1 w k
def d_pelotonref09_Place : Dec := fun args w c => unL [.ag, (.i .i64)] args fun x => pelotonref09_Place x.1 x.2 w fun r w => c (packV (valL [(.i .i64)] r)) w
theorem s_pelotonref09_Place : Sound Go.Proofs.Try.prog n_pelotonref09_Place d_pelotonref09_Place :=
  sound_of (mask := 310) (h := []) (ds := [(n_pelotonref09_Right, d_pelotonref09_Right), (n_pelotonref09_Size, d_pelotonref09_Size)]) mixed Go.Proofs.Try.func13 ⟨s_pelotonref09_Right, s_pelotonref09_Size, trivial⟩
    [.ag, (.i .i64)] [(.i .i64)] (by kernel_rfl) (fun x w k => pelotonref09_Place x.1 x.2 w k) (fun x w k => e_pelotonref09_Place pelotonref09_Right pelotonref09_Size x w k)

/-- (peloton/ring.Ring).Word -/
def ring_Ring_Word_b (ring_Ring_right : Array Value → World → ((Bool) → World → Prop) → Prop) (r_0 : Array Value) (w : World) (k : (Int) → World → Prop) : Prop :=
  newC w r_0 24 fun a1 w2 =>
  ldA 2 w2 a1 fun cs3 =>
  ring_Ring_right cs3 w2 fun b4 w5 =>
  iteB (!b4) (
    (k (-(1 : Int)) w5)) (
    ldI .i64 w5 (Addr.add a1 0) fun i6 =>
    ldI .i64 w5 (Addr.add a1 1) fun i7 =>
    (k (orI .i64 (shlV .i64 i6 (4 : Int)) i7) w5))
theorem e_ring_Ring_Word (ring_Ring_right : Array Value → World → ((Bool) → World → Prop) → Prop) (x : KT [.ag]) (w : World) (k : KT [(.i .i64)] → World → Prop) : evFn Go.Proofs.Try.prog (orcOf [(n_ring_Ring_right, (fun args w c => unL [.ag] args fun x => ring_Ring_right x w fun r w => c (packV (valL [.b] r)) w))]) 38 [] Go.Proofs.Try.f14 [(.i .i64)] (valL [.ag] x) w k = ring_Ring_Word_b ring_Ring_right x w k := by kernel_rfl
def ring_Ring_Word (r_0 : Array Value) (w : World) (k : (Int) → World → Prop) : Prop := ring_Ring_Word_b ring_Ring_right r_0 w k
def d_ring_Ring_Word : Dec := fun args w c => unL [.ag] args fun x => ring_Ring_Word x w fun r w => c (packV (valL [(.i .i64)] r)) w
theorem s_ring_Ring_Word : Sound Go.Proofs.Try.prog n_ring_Ring_Word d_ring_Ring_Word :=
  sound_of (mask := 38) (h := []) (ds := [(n_ring_Ring_right, d_ring_Ring_right)]) mixed Go.Proofs.Try.func14 ⟨s_ring_Ring_right, trivial⟩
    [.ag] [(.i .i64)] (by kernel_rfl) (fun x w k => ring_Ring_Word x w k) (fun x w k => e_ring_Ring_Word ring_Ring_right x w k)

/-- peloton/pelotonref09.Word -/
def pelotonref09_Word_b (pelotonref09_Right : Array Value → World → ((Bool) → World → Prop) → Prop) (r_0 : Array Value) (w : World) (k : (Int) → World → Prop) : Prop :=
  newC w r_0 25 fun a1 w2 =>
  ldA 2 w2 a1 fun cs3 =>
  pelotonref09_Right cs3 w2 fun b4 w5 =>
  iteB (!b4) (
    (k (-(1 : Int)) w5)) (
    ldI .i64 w5 (Addr.add a1 0) fun i6 =>
    ldI .i64 w5 (Addr.add a1 1) fun i7 =>
    (k (IntKind.wrap .i64 ((IntKind.wrap .i64 ((16 : Int) * i6)) + i7)) w5))
theorem e_pelotonref09_Word (pelotonref09_Right : Array Value → World → ((Bool) → World → Prop) → Prop) (x : KT [.ag]) (w : World) (k : KT [(.i .i64)] → World → Prop) : evFn Go.Proofs.Try.prog (orcOf [(n_pelotonref09_Right, (fun args w c => unL [.ag] args fun x => pelotonref09_Right x w fun r w => c (packV (valL [.b] r)) w))]) 38 [] Go.Proofs.Try.f15 [(.i .i64)] (valL [.ag] x) w k = pelotonref09_Word_b pelotonref09_Right x w k := by kernel_rfl
def pelotonref09_Word (r_0 : Array Value) (w : World) (k : (Int) → World → Prop) : Prop := pelotonref09_Word_b pelotonref09_Right r_0 w k
def d_pelotonref09_Word : Dec := fun args w c => unL [.ag] args fun x => pelotonref09_Word x w fun r w => c (packV (valL [(.i .i64)] r)) w
theorem s_pelotonref09_Word : Sound Go.Proofs.Try.prog n_pelotonref09_Word d_pelotonref09_Word :=
  sound_of (mask := 38) (h := []) (ds := [(n_pelotonref09_Right, d_pelotonref09_Right)]) mixed Go.Proofs.Try.func15 ⟨s_pelotonref09_Right, trivial⟩
    [.ag] [(.i .i64)] (by kernel_rfl) (fun x w k => pelotonref09_Word x w k) (fun x w k => e_pelotonref09_Word pelotonref09_Right x w k)

/-- peloton/ring.Of -/
def ring_Of_b (ring_Ring_right : Array Value → World → ((Bool) → World → Prop) → Prop) (word_0 : Int) (w : World) (k : (Array Value × Int) → World → Prop) : Prop :=
  newC w #[(.int .i64 (0 : Int)), (.int .i64 (0 : Int))] 24 fun a1 w2 =>
  newC w2 #[(.int .i64 (0 : Int)), (.int .i64 (0 : Int))] 24 fun a3 w4 =>
  stA 2 w4 a3 #[(.int .i64 (shrV .i64 word_0 (4 : Int))), (.int .i64 (andI .i64 word_0 (15 : Int)))] fun w5 =>
  ldA 2 w5 a3 fun cs6 =>
  ring_Ring_right cs6 w5 fun b7 w8 =>
  iteB (!b7) (
    stA 2 w8 a1 #[(.int .i64 (0 : Int)), (.int .i64 (0 : Int))] fun w9 =>
    ldA 2 w9 a1 fun cs10 =>
    (k (cs10, (11 : Int)) w9)) (
    ldA 2 w8 a3 fun cs11 =>
    stA 2 w8 a1 cs11 fun w12 =>
    ldA 2 w12 a1 fun cs13 =>
    (k (cs13, (0 : Int)) w12))
theorem e_ring_Of (ring_Ring_right : Array Value → World → ((Bool) → World → Prop) → Prop) (x : KT [(.i .i64)]) (w : World) (k : KT [.ag, (.i .i64)] → World → Prop) : evFn Go.Proofs.Try.prog (orcOf [(n_ring_Ring_right, (fun args w c => unL [.ag] args fun x => ring_Ring_right x w fun r w => c (packV (valL [.b] r)) w))]) 4125 [] Go.Proofs.Try.f16 [.ag, (.i .i64)] (valL [(.i .i64)] x) w k = ring_Of_b ring_Ring_right x w k := by kernel_rfl
def ring_Of (word_0 : Int) (w : World) (k : (Array Value × Int) → World → Prop) : Prop := ring_Of_b ring_Ring_right word_0 w k
def d_ring_Of : Dec := fun args w c => unL [(.i .i64)] args fun x => ring_Of x w fun r w => c (packV (valL [.ag, (.i .i64)] r)) w
theorem s_ring_Of : Sound Go.Proofs.Try.prog n_ring_Of d_ring_Of :=
  sound_of (mask := 4125) (h := []) (ds := [(n_ring_Ring_right, d_ring_Ring_right)]) mixed Go.Proofs.Try.func16 ⟨s_ring_Ring_right, trivial⟩
    [(.i .i64)] [.ag, (.i .i64)] (by kernel_rfl) (fun x w k => ring_Of x w k) (fun x w k => e_ring_Of ring_Ring_right x w k)

/-- peloton/pelotonref09.Of -/
def pelotonref09_Of_b (pelotonref09_Right : Array Value → World → ((Bool) → World → Prop) → Prop) (word_0 : Int) (w : World) (k : (Array Value × Int) → World → Prop) : Prop :=
  newC w #[(.int .i64 (0 : Int)), (.int .i64 (0 : Int))] 25 fun a1 w2 =>
  iteB (decide (word_0 < (0 : Int))) (
    stA 2 w2 a1 #[(.int .i64 (0 : Int)), (.int .i64 (0 : Int))] fun w3 =>
    ldA 2 w3 a1 fun cs4 =>
    (k (cs4, (11 : Int)) w3)) (
    newC w2 #[(.int .i64 (0 : Int)), (.int .i64 (0 : Int))] 25 fun a5 w6 =>
    stA 2 w6 a5 #[(.int .i64 (divV .i64 word_0 (16 : Int))), (.int .i64 (remV word_0 (16 : Int)))] fun w7 =>
    ldA 2 w7 a5 fun cs8 =>
    pelotonref09_Right cs8 w7 fun b9 w10 =>
    iteB (!b9) (
      stA 2 w10 a1 #[(.int .i64 (0 : Int)), (.int .i64 (0 : Int))] fun w11 =>
      ldA 2 w11 a1 fun cs12 =>
      (k (cs12, (11 : Int)) w11)) (
      ldA 2 w10 a5 fun cs13 =>
      stA 2 w10 a1 cs13 fun w14 =>
      ldA 2 w14 a1 fun cs15 =>
      (k (cs15, (0 : Int)) w14)))
theorem e_pelotonref09_Of (pelotonref09_Right : Array Value → World → ((Bool) → World → Prop) → Prop) (x : KT [(.i .i64)]) (w : World) (k : KT [.ag, (.i .i64)] → World → Prop) : evFn Go.Proofs.Try.prog (orcOf [(n_pelotonref09_Right, (fun args w c => unL [.ag] args fun x => pelotonref09_Right x w fun r w => c (packV (valL [.b] r)) w))]) 32861 [] Go.Proofs.Try.f17 [.ag, (.i .i64)] (valL [(.i .i64)] x) w k = pelotonref09_Of_b pelotonref09_Right x w k := by kernel_rfl
def pelotonref09_Of (word_0 : Int) (w : World) (k : (Array Value × Int) → World → Prop) : Prop := pelotonref09_Of_b pelotonref09_Right word_0 w k
def d_pelotonref09_Of : Dec := fun args w c => unL [(.i .i64)] args fun x => pelotonref09_Of x w fun r w => c (packV (valL [.ag, (.i .i64)] r)) w
theorem s_pelotonref09_Of : Sound Go.Proofs.Try.prog n_pelotonref09_Of d_pelotonref09_Of :=
  sound_of (mask := 32861) (h := []) (ds := [(n_pelotonref09_Right, d_pelotonref09_Right)]) mixed Go.Proofs.Try.func17 ⟨s_pelotonref09_Right, trivial⟩
    [(.i .i64)] [.ag, (.i .i64)] (by kernel_rfl) (fun x w k => pelotonref09_Of x w k) (fun x w k => e_pelotonref09_Of pelotonref09_Right x w k)

/-- peloton/cells.New -/
def cells_New (size_0 : Int) (workers_1 : Int) (w : World) (k : (Option Addr × Int) → World → Prop) : Prop :=
  iteB ((((decide (size_0 < (1 : Int))) || (decide (size_0 > (1048576 : Int)))) || (decide (workers_1 < (1 : Int)))) || (decide (workers_1 > (16 : Int)))) (
    (k (none, (10 : Int)) w)) (
    mkSl Go.Proofs.Try.prog 76 (.int .i64 (IntKind.wrap .i64 (workers_1 + (1 : Int)))) (.int .i64 (IntKind.wrap .i64 (workers_1 + (1 : Int)))) w fun s1 w2 =>
    newC w2 #[(.slice none 0 0), (.int .i64 size_0), (.slice s1.a s1.n s1.c)] 78 fun a3 w4 =>
    (k ((some a3), (0 : Int)) w4))
def d_cells_New : Dec := fun args w c => unL [(.i .i64), (.i .i64)] args fun x => cells_New x.1 x.2 w fun r w => c (packV (valL [.p, (.i .i64)] r)) w
theorem s_cells_New : Sound Go.Proofs.Try.prog n_cells_New d_cells_New :=
  sound_of (mask := 524339) (h := []) (ds := []) mixed Go.Proofs.Try.func20 trivial
    [(.i .i64), (.i .i64)] [.p, (.i .i64)] (by kernel_rfl) (fun x w k => cells_New x.1 x.2 w k) (fun x w k => by kernel_rfl)

/-- (*peloton/cells.Machine).caller -/
def cells_Machine_caller (m_0 : Option Addr) (w_1 : Int) (w : World) (k : (Bool) → World → Prop) : Prop :=
  iteB (decide (w_1 ≥ (0 : Int))) (
    nn m_0 fun a1 =>
    ldS w (Addr.add a1 2) fun s2 =>
    (k (decide (w_1 < ((s2.n : Nat) : Int))) w)) (
    (k false w))
def d_cells_Machine_caller : Dec := fun args w c => unL [.p, (.i .i64)] args fun x => cells_Machine_caller x.1 x.2 w fun r w => c (packV (valL [.b] r)) w
theorem s_cells_Machine_caller : Sound Go.Proofs.Try.prog n_cells_Machine_caller d_cells_Machine_caller :=
  sound_of (mask := 19) (h := []) (ds := []) mixed Go.Proofs.Try.func37 trivial
    [.p, (.i .i64)] [.b] (by kernel_rfl) (fun x w k => cells_Machine_caller x.1 x.2 w k) (fun x w k => by kernel_rfl)

/-- (*peloton/cells.Machine).given -/
def cells_Machine_given (m_0 : Option Addr) (at_1 : Int) (w : World) (k : (Bool) → World → Prop) : Prop :=
  iteB (decide (at_1 ≥ (0 : Int))) (
    nn m_0 fun a1 =>
    ldS w (Addr.add a1 0) fun s2 =>
    (k (decide (at_1 < ((s2.n : Nat) : Int))) w)) (
    (k false w))
def d_cells_Machine_given : Dec := fun args w c => unL [.p, (.i .i64)] args fun x => cells_Machine_given x.1 x.2 w fun r w => c (packV (valL [.b] r)) w
theorem s_cells_Machine_given : Sound Go.Proofs.Try.prog n_cells_Machine_given d_cells_Machine_given :=
  sound_of (mask := 19) (h := []) (ds := []) mixed Go.Proofs.Try.func36 trivial
    [.p, (.i .i64)] [.b] (by kernel_rfl) (fun x w k => cells_Machine_given x.1 x.2 w k) (fun x w k => by kernel_rfl)

/-- peloton/cells.some -/
def cells_some (n_0 : Int) (w : World) (k : (Bool) → World → Prop) : Prop :=
  (k (decide (n_0 ≥ (1 : Int))) w)
def d_cells_some : Dec := fun args w c => unL [(.i .i64)] args fun x => cells_some x w fun r w => c (packV (valL [.b] r)) w
theorem s_cells_some : Sound Go.Proofs.Try.prog n_cells_some d_cells_some :=
  sound_of (mask := 5) (h := []) (ds := []) mixed Go.Proofs.Try.func35 trivial
    [(.i .i64)] [.b] (by kernel_rfl) (fun x w k => cells_some x w k) (fun x w k => by kernel_rfl)

/-- (*peloton/cells.Machine).looks -/
def cells_Machine_looks_b (cells_Machine_caller : Option Addr → Int → World → ((Bool) → World → Prop) → Prop) (cells_Machine_given : Option Addr → Int → World → ((Bool) → World → Prop) → Prop) (cells_some : Int → World → ((Bool) → World → Prop) → Prop) (m_0 : Option Addr) (w_1 : Int) (n_2 : Int) (right_3 : Value) (w : World) (k : (Int) → World → Prop) : Prop :=
  joinP (S := Bool) (fun J1 =>
    cells_Machine_caller m_0 w_1 w fun b2 w3 =>
    iteB (!b2) (
      (J1 true w3)) (
      callF (orcOf [(n_cells_Machine_caller, (fun args w c => unL [.p, (.i .i64)] args fun x => cells_Machine_caller x.1 x.2 w fun r w => c (packV (valL [.b] r)) w)), (n_cells_Machine_given, (fun args w c => unL [.p, (.i .i64)] args fun x => cells_Machine_given x.1 x.2 w fun r w => c (packV (valL [.b] r)) w)), (n_cells_some, (fun args w c => unL [(.i .i64)] args fun x => cells_some x w fun r w => c (packV (valL [.b] r)) w))]) right_3 #[(.int .i64 n_2)] w3 fun v4 w5 =>
      toB v4 fun b6 =>
      (J1 (!b6) w5))) fun b7 w8 =>
  iteB b7 (
    (k (10 : Int) w8)) (
    (k (0 : Int) w8))
theorem e_cells_Machine_looks (cells_Machine_caller : Option Addr → Int → World → ((Bool) → World → Prop) → Prop) (cells_Machine_given : Option Addr → Int → World → ((Bool) → World → Prop) → Prop) (cells_some : Int → World → ((Bool) → World → Prop) → Prop) (x : KT [.p, (.i .i64), (.i .i64), .raw]) (w : World) (k : KT [(.i .i64)] → World → Prop) : evFn Go.Proofs.Try.prog (orcOf [(n_cells_Machine_caller, (fun args w c => unL [.p, (.i .i64)] args fun x => cells_Machine_caller x.1 x.2 w fun r w => c (packV (valL [.b] r)) w)), (n_cells_Machine_given, (fun args w c => unL [.p, (.i .i64)] args fun x => cells_Machine_given x.1 x.2 w fun r w => c (packV (valL [.b] r)) w)), (n_cells_some, (fun args w c => unL [(.i .i64)] args fun x => cells_some x w fun r w => c (packV (valL [.b] r)) w))]) 262415 [(1, [(18, .b)])] Go.Proofs.Try.f34 [(.i .i64)] (valL [.p, (.i .i64), (.i .i64), .raw] x) w k = cells_Machine_looks_b cells_Machine_caller cells_Machine_given cells_some x.1 x.2.1 x.2.2.1 x.2.2.2 w k := by kernel_rfl
def cells_Machine_looks (m_0 : Option Addr) (w_1 : Int) (n_2 : Int) (right_3 : Value) (w : World) (k : (Int) → World → Prop) : Prop := cells_Machine_looks_b cells_Machine_caller cells_Machine_given cells_some m_0 w_1 n_2 right_3 w k
def d_cells_Machine_looks : Dec := fun args w c => unL [.p, (.i .i64), (.i .i64), .raw] args fun x => cells_Machine_looks x.1 x.2.1 x.2.2.1 x.2.2.2 w fun r w => c (packV (valL [(.i .i64)] r)) w
theorem s_cells_Machine_looks : Sound Go.Proofs.Try.prog n_cells_Machine_looks d_cells_Machine_looks :=
  sound_of (mask := 262415) (h := [(1, [(18, .b)])]) (ds := [(n_cells_Machine_caller, d_cells_Machine_caller), (n_cells_Machine_given, d_cells_Machine_given), (n_cells_some, d_cells_some)]) mixed Go.Proofs.Try.func34 ⟨s_cells_Machine_caller, s_cells_Machine_given, s_cells_some, trivial⟩
    [.p, (.i .i64), (.i .i64), .raw] [(.i .i64)] (by kernel_rfl) (fun x w k => cells_Machine_looks x.1 x.2.1 x.2.2.1 x.2.2.2 w k) (fun x w k => e_cells_Machine_looks cells_Machine_caller cells_Machine_given cells_some x w k)

/-- (*peloton/cells.Machine).Alloc -/
def cells_Machine_Alloc_b (cells_Machine_looks : Option Addr → Int → Int → Value → World → ((Int) → World → Prop) → Prop) (m_0 : Option Addr) (w_1 : Int) (n_2 : Int) (w : World) (k : (Int × Int) → World → Prop) : Prop :=
  iteB (Option.isNone m_0) (
    (k ((0 : Int), (2 : Int)) w)) (
    cells_Machine_looks m_0 w_1 n_2 (.func (.func n_cells_some) #[] #[]) w fun i1 w2 =>
    iteB (i1 != (0 : Int)) (
      (k ((0 : Int), i1) w2)) (
      nn m_0 fun a3 =>
      ldS w2 (Addr.add a3 0) fun s4 =>
      nn m_0 fun a5 =>
      ldI .i64 w2 (Addr.add a5 1) fun i6 =>
      iteB (decide (n_2 > (IntKind.wrap .i64 (i6 - ((s4.n : Nat) : Int))))) (
        (k ((0 : Int), (21 : Int)) w2)) (
        nn m_0 fun a7 =>
        ldS w2 (Addr.add a7 2) fun s8 =>
        ixS s8 w_1 1 fun a9 =>
        ldI .i64 w2 a9 fun i10 =>
        ixS s8 w_1 1 fun a11 =>
        stC w2 a11 (.int .i64 (IntKind.wrap .i64 (i10 + (1 : Int)))) fun w12 =>
        nn m_0 fun a13 =>
        ldS w12 (Addr.add a13 0) fun s14 =>
        slS3 s14 1 (0 : Int) ((s4.n : Nat) : Int) ((s4.n : Nat) : Int) fun s15 =>
        bApp Go.Proofs.Try.prog #[61, 3] 61 [(.slice s15.a s15.n s15.c), (.int .i64 n_2)] w12 fun s16 w17 =>
        nn m_0 fun a18 =>
        stC w17 (Addr.add a18 0) (.slice s16.a s16.n s16.c) fun w19 =>
        (k (((s4.n : Nat) : Int), (0 : Int)) w19))))
theorem e_cells_Machine_Alloc (cells_Machine_looks : Option Addr → Int → Int → Value → World → ((Int) → World → Prop) → Prop) (x : KT [.p, (.i .i64), (.i .i64)]) (w : World) (k : KT [(.i .i64), (.i .i64)] → World → Prop) : evFn Go.Proofs.Try.prog (orcOf [(n_cells_Machine_looks, (fun args w c => unL [.p, (.i .i64), (.i .i64), .raw] args fun x => cells_Machine_looks x.1 x.2.1 x.2.2.1 x.2.2.2 w fun r w => c (packV (valL [(.i .i64)] r)) w))]) 2147617735 [] Go.Proofs.Try.f23 [(.i .i64), (.i .i64)] (valL [.p, (.i .i64), (.i .i64)] x) w k = cells_Machine_Alloc_b cells_Machine_looks x.1 x.2.1 x.2.2 w k := by kernel_rfl
def cells_Machine_Alloc (m_0 : Option Addr) (w_1 : Int) (n_2 : Int) (w : World) (k : (Int × Int) → World → Prop) : Prop := cells_Machine_Alloc_b cells_Machine_looks m_0 w_1 n_2 w k
def d_cells_Machine_Alloc : Dec := fun args w c => unL [.p, (.i .i64), (.i .i64)] args fun x => cells_Machine_Alloc x.1 x.2.1 x.2.2 w fun r w => c (packV (valL [(.i .i64), (.i .i64)] r)) w
theorem s_cells_Machine_Alloc : Sound Go.Proofs.Try.prog n_cells_Machine_Alloc d_cells_Machine_Alloc :=
  sound_of (mask := 2147617735) (h := []) (ds := [(n_cells_Machine_looks, d_cells_Machine_looks)]) mixed Go.Proofs.Try.func23 ⟨s_cells_Machine_looks, trivial⟩
    [.p, (.i .i64), (.i .i64)] [(.i .i64), (.i .i64)] (by kernel_rfl) (fun x w k => cells_Machine_Alloc x.1 x.2.1 x.2.2 w k) (fun x w k => e_cells_Machine_Alloc cells_Machine_looks x w k)

/-- peloton/ring.New -/
def ring_New_b (cells_Machine_Alloc : Option Addr → Int → Int → World → ((Int × Int) → World → Prop) → Prop) (m_0 : Option Addr) (w_1 : Int) (log_2 : Int) (w : World) (k : (Array Value × Int) → World → Prop) : Prop :=
  newC w #[(.int .i64 (0 : Int)), (.int .i64 (0 : Int))] 24 fun a1 w2 =>
  iteB (Option.isNone m_0) (
    stA 2 w2 a1 #[(.int .i64 (0 : Int)), (.int .i64 (0 : Int))] fun w3 =>
    ldA 2 w3 a1 fun cs4 =>
    (k (cs4, (2 : Int)) w3)) (
    iteB ((decide (log_2 < (0 : Int))) || (decide (log_2 > (8 : Int)))) (
      stA 2 w2 a1 #[(.int .i64 (0 : Int)), (.int .i64 (0 : Int))] fun w5 =>
      ldA 2 w5 a1 fun cs6 =>
      (k (cs6, (10 : Int)) w5)) (
      shlI .i64 (1 : Int) log_2 fun i7 =>
      cells_Machine_Alloc m_0 w_1 i7 w2 fun x8 w9 =>
      iteB (x8.2 != (0 : Int)) (
        stA 2 w9 a1 #[(.int .i64 (0 : Int)), (.int .i64 (0 : Int))] fun w10 =>
        ldA 2 w10 a1 fun cs11 =>
        (k (cs11, x8.2) w10)) (
        stA 2 w9 a1 #[(.int .i64 x8.1), (.int .i64 log_2)] fun w12 =>
        ldA 2 w12 a1 fun cs13 =>
        (k (cs13, (0 : Int)) w12))))
theorem e_ring_New (cells_Machine_Alloc : Option Addr → Int → Int → World → ((Int × Int) → World → Prop) → Prop) (x : KT [.p, (.i .i64), (.i .i64)]) (w : World) (k : KT [.ag, (.i .i64)] → World → Prop) : evFn Go.Proofs.Try.prog (orcOf [(n_cells_Machine_Alloc, (fun args w c => unL [.p, (.i .i64), (.i .i64)] args fun x => cells_Machine_Alloc x.1 x.2.1 x.2.2 w fun r w => c (packV (valL [(.i .i64), (.i .i64)] r)) w))]) 2147502023 [] Go.Proofs.Try.f19 [.ag, (.i .i64)] (valL [.p, (.i .i64), (.i .i64)] x) w k = ring_New_b cells_Machine_Alloc x.1 x.2.1 x.2.2 w k := by kernel_rfl
def ring_New (m_0 : Option Addr) (w_1 : Int) (log_2 : Int) (w : World) (k : (Array Value × Int) → World → Prop) : Prop := ring_New_b cells_Machine_Alloc m_0 w_1 log_2 w k
def d_ring_New : Dec := fun args w c => unL [.p, (.i .i64), (.i .i64)] args fun x => ring_New x.1 x.2.1 x.2.2 w fun r w => c (packV (valL [.ag, (.i .i64)] r)) w
theorem s_ring_New : Sound Go.Proofs.Try.prog n_ring_New d_ring_New :=
  sound_of (mask := 2147502023) (h := []) (ds := [(n_cells_Machine_Alloc, d_cells_Machine_Alloc)]) mixed Go.Proofs.Try.func19 ⟨s_cells_Machine_Alloc, trivial⟩
    [.p, (.i .i64), (.i .i64)] [.ag, (.i .i64)] (by kernel_rfl) (fun x w k => ring_New x.1 x.2.1 x.2.2 w k) (fun x w k => e_ring_New cells_Machine_Alloc x w k)

/-- (*peloton/cells.Machine).Store -/
def cells_Machine_Store_b (cells_Machine_looks : Option Addr → Int → Int → Value → World → ((Int) → World → Prop) → Prop) (m_0 : Option Addr) (w_1 : Int) (at_2 : Int) (x_3 : Int) (w : World) (k : (Int) → World → Prop) : Prop :=
  iteB (Option.isNone m_0) (
    (k (2 : Int) w)) (
    cells_Machine_looks m_0 w_1 at_2 (.func (.func n_cells_Machine_given) #[(.pointer m_0)] #[]) w fun i1 w2 =>
    iteB (i1 != (0 : Int)) (
      (k i1 w2)) (
      nn m_0 fun a3 =>
      ldS w2 (Addr.add a3 2) fun s4 =>
      ixS s4 w_1 1 fun a5 =>
      ldI .i64 w2 a5 fun i6 =>
      ixS s4 w_1 1 fun a7 =>
      stC w2 a7 (.int .i64 (IntKind.wrap .i64 (i6 + (1 : Int)))) fun w8 =>
      nn m_0 fun a9 =>
      ldS w8 (Addr.add a9 0) fun s10 =>
      ixS s10 at_2 1 fun a11 =>
      stC w8 a11 (.int .i64 x_3) fun w12 =>
      (k (0 : Int) w12)))
theorem e_cells_Machine_Store (cells_Machine_looks : Option Addr → Int → Int → Value → World → ((Int) → World → Prop) → Prop) (x : KT [.p, (.i .i64), (.i .i64), (.i .i64)]) (w : World) (k : KT [(.i .i64)] → World → Prop) : evFn Go.Proofs.Try.prog (orcOf [(n_cells_Machine_looks, (fun args w c => unL [.p, (.i .i64), (.i .i64), .raw] args fun x => cells_Machine_looks x.1 x.2.1 x.2.2.1 x.2.2.2 w fun r w => c (packV (valL [(.i .i64)] r)) w))]) 527119 [] Go.Proofs.Try.f25 [(.i .i64)] (valL [.p, (.i .i64), (.i .i64), (.i .i64)] x) w k = cells_Machine_Store_b cells_Machine_looks x.1 x.2.1 x.2.2.1 x.2.2.2 w k := by kernel_rfl
def cells_Machine_Store (m_0 : Option Addr) (w_1 : Int) (at_2 : Int) (x_3 : Int) (w : World) (k : (Int) → World → Prop) : Prop := cells_Machine_Store_b cells_Machine_looks m_0 w_1 at_2 x_3 w k
def d_cells_Machine_Store : Dec := fun args w c => unL [.p, (.i .i64), (.i .i64), (.i .i64)] args fun x => cells_Machine_Store x.1 x.2.1 x.2.2.1 x.2.2.2 w fun r w => c (packV (valL [(.i .i64)] r)) w
theorem s_cells_Machine_Store : Sound Go.Proofs.Try.prog n_cells_Machine_Store d_cells_Machine_Store :=
  sound_of (mask := 527119) (h := []) (ds := [(n_cells_Machine_looks, d_cells_Machine_looks)]) mixed Go.Proofs.Try.func25 ⟨s_cells_Machine_looks, trivial⟩
    [.p, (.i .i64), (.i .i64), (.i .i64)] [(.i .i64)] (by kernel_rfl) (fun x w k => cells_Machine_Store x.1 x.2.1 x.2.2.1 x.2.2.2 w k) (fun x w k => e_cells_Machine_Store cells_Machine_looks x w k)

/-- (peloton/ring.Ring).Copy -/
def ring_Ring_Copy_b (ring_Ring_right : Array Value → World → ((Bool) → World → Prop) → Prop) (ring_Ring_Size : Array Value → World → ((Int) → World → Prop) → Prop) (r_0 : Array Value) (to_1 : Array Value) (from_2 : Int) (until_3 : Int) (w : World) (k : (Option Addr × Int) → World → Prop) : Prop :=
  newC w r_0 24 fun a1 w2 =>
  newC w2 to_1 24 fun a3 w4 =>
  joinP (S := Bool) (fun J5 =>
    ldA 2 w4 a1 fun cs6 =>
    ring_Ring_right cs6 w4 fun b7 w8 =>
    iteB (!b7) (
      (J5 true w8)) (
      ldA 2 w8 a3 fun cs9 =>
      ring_Ring_right cs9 w8 fun b10 w11 =>
      (J5 (!b10) w11))) fun b12 w13 =>
  iteB b12 (
    (k (none, (1 : Int)) w13)) (
    joinP (S := Bool) (fun J14 =>
      drew w13 fun w15 =>
      iteB (decide (until_3 < from_2)) (
        (J14 true w15)) (
        ldA 2 w15 a1 fun cs16 =>
        ldA 2 w15 a3 fun cs17 =>
        ring_Ring_Size cs16 w15 fun i18 w19 =>
        samec 2 a3 w15 w19 (
        ring_Ring_Size cs17 w19 fun i20 w21 =>
        (J14 (decide ((IntKind.wrap .u64 ((IntKind.wrap .u64 until_3) - (IntKind.wrap .u64 from_2))) > (IntKind.wrap .u64 (minI i18 i20)))) w21)))) fun b22 w23 =>
    iteB b22 (
      (k (none, (10 : Int)) w23)) (
      ldA 2 w23 a1 fun cs24 =>
      ldA 2 w23 a3 fun cs25 =>
      spl #[(.int .i64 (0 : Int)), (.int .i64 (0 : Int)), (.int .i64 (0 : Int)), (.int .i64 (0 : Int)), (.int .i64 (0 : Int)), (.int .i64 (0 : Int)), (.int .i64 (0 : Int)), .nilFunc] 0 2 cs24 fun cs26 =>
      spl cs26 2 2 cs25 fun cs27 =>
      newC w23 (Array.setIfInBounds (Array.setIfInBounds cs27 4 (.int .i64 from_2)) 5 (.int .i64 until_3)) 81 fun a28 w29 =>
      stC w29 (Addr.add a28 7) (.func (.func n_ring_Copy_load) #[(.pointer (some a28))] #[]) fun w30 =>
      (k ((some a28), (0 : Int)) w30)))
theorem e_ring_Ring_Copy (ring_Ring_right : Array Value → World → ((Bool) → World → Prop) → Prop) (ring_Ring_Size : Array Value → World → ((Int) → World → Prop) → Prop) (x : KT [.ag, .ag, (.i .i64), (.i .i64)]) (w : World) (k : KT [.p, (.i .i64)] → World → Prop) : evFn Go.Proofs.Try.prog (orcOf [(n_ring_Ring_right, (fun args w c => unL [.ag] args fun x => ring_Ring_right x w fun r w => c (packV (valL [.b] r)) w)), (n_ring_Ring_Size, (fun args w c => unL [.ag] args fun x => ring_Ring_Size x w fun r w => c (packV (valL [(.i .i64)] r)) w))]) 1052476 [(2, [(11, .b)]), (5, [(20, .b)])] Go.Proofs.Try.f22 [.p, (.i .i64)] (valL [.ag, .ag, (.i .i64), (.i .i64)] x) w k = ring_Ring_Copy_b ring_Ring_right ring_Ring_Size x.1 x.2.1 x.2.2.1 x.2.2.2 w k := by kernel_rfl
def ring_Ring_Copy (r_0 : Array Value) (to_1 : Array Value) (from_2 : Int) (until_3 : Int) (w : World) (k : (Option Addr × Int) → World → Prop) : Prop := ring_Ring_Copy_b ring_Ring_right ring_Ring_Size r_0 to_1 from_2 until_3 w k
def d_ring_Ring_Copy : Dec := fun args w c => unL [.ag, .ag, (.i .i64), (.i .i64)] args fun x => ring_Ring_Copy x.1 x.2.1 x.2.2.1 x.2.2.2 w fun r w => c (packV (valL [.p, (.i .i64)] r)) w
theorem s_ring_Ring_Copy : Sound Go.Proofs.Try.prog n_ring_Ring_Copy d_ring_Ring_Copy :=
  sound_of (mask := 1052476) (h := [(2, [(11, .b)]), (5, [(20, .b)])]) (ds := [(n_ring_Ring_right, d_ring_Ring_right), (n_ring_Ring_Size, d_ring_Ring_Size)]) mixed Go.Proofs.Try.func22 ⟨s_ring_Ring_right, s_ring_Ring_Size, trivial⟩
    [.ag, .ag, (.i .i64), (.i .i64)] [.p, (.i .i64)] (by kernel_rfl) (fun x w k => ring_Ring_Copy x.1 x.2.1 x.2.2.1 x.2.2.2 w k) (fun x w k => e_ring_Ring_Copy ring_Ring_right ring_Ring_Size x w k)

/-- (*peloton/cells.Machine).Load -/
def cells_Machine_Load_b (cells_Machine_looks : Option Addr → Int → Int → Value → World → ((Int) → World → Prop) → Prop) (m_0 : Option Addr) (w_1 : Int) (at_2 : Int) (w : World) (k : (Int × Int) → World → Prop) : Prop :=
  iteB (Option.isNone m_0) (
    (k ((0 : Int), (2 : Int)) w)) (
    cells_Machine_looks m_0 w_1 at_2 (.func (.func n_cells_Machine_given) #[(.pointer m_0)] #[]) w fun i1 w2 =>
    iteB (i1 != (0 : Int)) (
      (k ((0 : Int), i1) w2)) (
      nn m_0 fun a3 =>
      ldS w2 (Addr.add a3 2) fun s4 =>
      ixS s4 w_1 1 fun a5 =>
      ldI .i64 w2 a5 fun i6 =>
      ixS s4 w_1 1 fun a7 =>
      stC w2 a7 (.int .i64 (IntKind.wrap .i64 (i6 + (1 : Int)))) fun w8 =>
      nn m_0 fun a9 =>
      ldS w8 (Addr.add a9 0) fun s10 =>
      ixS s10 at_2 1 fun a11 =>
      ldI .i64 w8 a11 fun i12 =>
      (k (i12, (0 : Int)) w8)))
theorem e_cells_Machine_Load (cells_Machine_looks : Option Addr → Int → Int → Value → World → ((Int) → World → Prop) → Prop) (x : KT [.p, (.i .i64), (.i .i64)]) (w : World) (k : KT [(.i .i64), (.i .i64)] → World → Prop) : evFn Go.Proofs.Try.prog (orcOf [(n_cells_Machine_looks, (fun args w c => unL [.p, (.i .i64), (.i .i64), .raw] args fun x => cells_Machine_looks x.1 x.2.1 x.2.2.1 x.2.2.2 w fun r w => c (packV (valL [(.i .i64)] r)) w))]) 263623 [] Go.Proofs.Try.f38 [(.i .i64), (.i .i64)] (valL [.p, (.i .i64), (.i .i64)] x) w k = cells_Machine_Load_b cells_Machine_looks x.1 x.2.1 x.2.2 w k := by kernel_rfl
def cells_Machine_Load (m_0 : Option Addr) (w_1 : Int) (at_2 : Int) (w : World) (k : (Int × Int) → World → Prop) : Prop := cells_Machine_Load_b cells_Machine_looks m_0 w_1 at_2 w k
def d_cells_Machine_Load : Dec := fun args w c => unL [.p, (.i .i64), (.i .i64)] args fun x => cells_Machine_Load x.1 x.2.1 x.2.2 w fun r w => c (packV (valL [(.i .i64), (.i .i64)] r)) w
theorem s_cells_Machine_Load : Sound Go.Proofs.Try.prog n_cells_Machine_Load d_cells_Machine_Load :=
  sound_of (mask := 263623) (h := []) (ds := [(n_cells_Machine_looks, d_cells_Machine_looks)]) mixed Go.Proofs.Try.func38 ⟨s_cells_Machine_looks, trivial⟩
    [.p, (.i .i64), (.i .i64)] [(.i .i64), (.i .i64)] (by kernel_rfl) (fun x w k => cells_Machine_Load x.1 x.2.1 x.2.2 w k) (fun x w k => e_cells_Machine_Load cells_Machine_looks x w k)

/-- (*peloton/ring.Copy).load -/
def ring_Copy_load_b (ring_Ring_Place : Array Value → Int → World → ((Int) → World → Prop) → Prop) (cells_Machine_Load : Option Addr → Int → Int → World → ((Int × Int) → World → Prop) → Prop) (c_0 : Option Addr) (m_1 : Option Addr) (w_2 : Int) (w : World) (k : (Int) → World → Prop) : Prop :=
  drew w fun w1 =>
  nn c_0 fun a2 =>
  ldA 2 w1 (Addr.add a2 0) fun cs3 =>
  nn c_0 fun a4 =>
  ldI .i64 w1 (Addr.add a4 4) fun i5 =>
  ring_Ring_Place cs3 i5 w1 fun i6 w7 =>
  cells_Machine_Load m_1 w_2 i6 w7 fun x8 w9 =>
  iteB (x8.2 != (0 : Int)) (
    (k x8.2 w9)) (
    nn c_0 fun a10 =>
    stC w9 (Addr.add a10 6) (.int .i64 x8.1) fun w11 =>
    nn c_0 fun a12 =>
    stC w11 (Addr.add a12 7) (.func (.func n_ring_Copy_store) #[(.pointer c_0)] #[]) fun w13 =>
    (k (0 : Int) w13))
theorem e_ring_Copy_load (ring_Ring_Place : Array Value → Int → World → ((Int) → World → Prop) → Prop) (cells_Machine_Load : Option Addr → Int → Int → World → ((Int × Int) → World → Prop) → Prop) (x : KT [.p, .p, (.i .i64)]) (w : World) (k : KT [(.i .i64)] → World → Prop) : evFn Go.Proofs.Try.prog (orcOf [(n_ring_Ring_Place, (fun args w c => unL [.ag, (.i .i64)] args fun x => ring_Ring_Place x.1 x.2 w fun r w => c (packV (valL [(.i .i64)] r)) w)), (n_cells_Machine_Load, (fun args w c => unL [.p, (.i .i64), (.i .i64)] args fun x => cells_Machine_Load x.1 x.2.1 x.2.2 w fun r w => c (packV (valL [(.i .i64), (.i .i64)] r)) w))]) 33554887 [] Go.Proofs.Try.f33 [(.i .i64)] (valL [.p, .p, (.i .i64)] x) w k = ring_Copy_load_b ring_Ring_Place cells_Machine_Load x.1 x.2.1 x.2.2 w k := by kernel_rfl
def ring_Copy_load (c_0 : Option Addr) (m_1 : Option Addr) (w_2 : Int) (w : World) (k : (Int) → World → Prop) : Prop := ring_Copy_load_b ring_Ring_Place cells_Machine_Load c_0 m_1 w_2 w k
def d_ring_Copy_load : Dec := fun args w c => unL [.p, .p, (.i .i64)] args fun x => ring_Copy_load x.1 x.2.1 x.2.2 w fun r w => c (packV (valL [(.i .i64)] r)) w
theorem s_ring_Copy_load : Sound Go.Proofs.Try.prog n_ring_Copy_load d_ring_Copy_load :=
  sound_of (mask := 33554887) (h := []) (ds := [(n_ring_Ring_Place, d_ring_Ring_Place), (n_cells_Machine_Load, d_cells_Machine_Load)]) mixed Go.Proofs.Try.func33 ⟨s_ring_Ring_Place, s_cells_Machine_Load, trivial⟩
    [.p, .p, (.i .i64)] [(.i .i64)] (by kernel_rfl) (fun x w k => ring_Copy_load x.1 x.2.1 x.2.2 w k) (fun x w k => e_ring_Copy_load ring_Ring_Place cells_Machine_Load x w k)

/-- (*peloton/ring.Copy).store -/
def ring_Copy_store_b (ring_Ring_Place : Array Value → Int → World → ((Int) → World → Prop) → Prop) (cells_Machine_Store : Option Addr → Int → Int → Int → World → ((Int) → World → Prop) → Prop) (c_0 : Option Addr) (m_1 : Option Addr) (w_2 : Int) (w : World) (k : (Int) → World → Prop) : Prop :=
  drew w fun w1 =>
  nn c_0 fun a2 =>
  ldA 2 w1 (Addr.add a2 2) fun cs3 =>
  nn c_0 fun a4 =>
  ldI .i64 w1 (Addr.add a4 4) fun i5 =>
  nn c_0 fun a6 =>
  ldI .i64 w1 (Addr.add a6 6) fun i7 =>
  ring_Ring_Place cs3 i5 w1 fun i8 w9 =>
  samec 1 (Addr.add a6 6) w1 w9 (
  cells_Machine_Store m_1 w_2 i8 i7 w9 fun i10 w11 =>
  iteB (i10 != (0 : Int)) (
    (k i10 w11)) (
    nn c_0 fun a12 =>
    ldI .i64 w11 (Addr.add a12 4) fun i13 =>
    nn c_0 fun a14 =>
    stC w11 (Addr.add a14 4) (.int .i64 (IntKind.wrap .i64 (i13 + (1 : Int)))) fun w15 =>
    nn c_0 fun a16 =>
    stC w15 (Addr.add a16 7) (.func (.func n_ring_Copy_load) #[(.pointer c_0)] #[]) fun w17 =>
    (k (0 : Int) w17)))
theorem e_ring_Copy_store (ring_Ring_Place : Array Value → Int → World → ((Int) → World → Prop) → Prop) (cells_Machine_Store : Option Addr → Int → Int → Int → World → ((Int) → World → Prop) → Prop) (x : KT [.p, .p, (.i .i64)]) (w : World) (k : KT [(.i .i64)] → World → Prop) : evFn Go.Proofs.Try.prog (orcOf [(n_ring_Ring_Place, (fun args w c => unL [.ag, (.i .i64)] args fun x => ring_Ring_Place x.1 x.2 w fun r w => c (packV (valL [(.i .i64)] r)) w)), (n_cells_Machine_Store, (fun args w c => unL [.p, (.i .i64), (.i .i64), (.i .i64)] args fun x => cells_Machine_Store x.1 x.2.1 x.2.2.1 x.2.2.2 w fun r w => c (packV (valL [(.i .i64)] r)) w))]) 33554631 [] Go.Proofs.Try.f39 [(.i .i64)] (valL [.p, .p, (.i .i64)] x) w k = ring_Copy_store_b ring_Ring_Place cells_Machine_Store x.1 x.2.1 x.2.2 w k := by kernel_rfl
def ring_Copy_store (c_0 : Option Addr) (m_1 : Option Addr) (w_2 : Int) (w : World) (k : (Int) → World → Prop) : Prop := ring_Copy_store_b ring_Ring_Place cells_Machine_Store c_0 m_1 w_2 w k
def d_ring_Copy_store : Dec := fun args w c => unL [.p, .p, (.i .i64)] args fun x => ring_Copy_store x.1 x.2.1 x.2.2 w fun r w => c (packV (valL [(.i .i64)] r)) w
theorem s_ring_Copy_store : Sound Go.Proofs.Try.prog n_ring_Copy_store d_ring_Copy_store :=
  sound_of (mask := 33554631) (h := []) (ds := [(n_ring_Ring_Place, d_ring_Ring_Place), (n_cells_Machine_Store, d_cells_Machine_Store)]) mixed Go.Proofs.Try.func39 ⟨s_ring_Ring_Place, s_cells_Machine_Store, trivial⟩
    [.p, .p, (.i .i64)] [(.i .i64)] (by kernel_rfl) (fun x w k => ring_Copy_store x.1 x.2.1 x.2.2 w k) (fun x w k => e_ring_Copy_store ring_Ring_Place cells_Machine_Store x w k)

/-- (*peloton/ring.Copy).Step -/
def ring_Copy_Step_b (ring_Copy_load : Option Addr → Option Addr → Int → World → ((Int) → World → Prop) → Prop) (ring_Copy_store : Option Addr → Option Addr → Int → World → ((Int) → World → Prop) → Prop) (c_0 : Option Addr) (m_1 : Option Addr) (w_2 : Int) (w : World) (k : (Bool × Int) → World → Prop) : Prop :=
  iteB ((Option.isNone c_0) || (Option.isNone m_1)) (
    (k (false, (2 : Int)) w)) (
    drew w fun w1 =>
    nn c_0 fun a2 =>
    ldI .i64 w1 (Addr.add a2 4) fun i3 =>
    nn c_0 fun a4 =>
    ldI .i64 w1 (Addr.add a4 5) fun i5 =>
    iteB (i3 == i5) (
      (k (true, (0 : Int)) w1)) (
      nn c_0 fun a6 =>
      ldV w1 (Addr.add a6 7) fun v7 =>
      callF (orcOf [(n_ring_Copy_load, (fun args w c => unL [.p, .p, (.i .i64)] args fun x => ring_Copy_load x.1 x.2.1 x.2.2 w fun r w => c (packV (valL [(.i .i64)] r)) w)), (n_ring_Copy_store, (fun args w c => unL [.p, .p, (.i .i64)] args fun x => ring_Copy_store x.1 x.2.1 x.2.2 w fun r w => c (packV (valL [(.i .i64)] r)) w))]) v7 #[(.pointer m_1), (.int .i64 w_2)] w1 fun v8 w9 =>
      toI .i64 v8 fun i10 =>
      iteB (i10 != (0 : Int)) (
        (k (false, i10) w9)) (
        drew w9 fun w11 =>
        nn c_0 fun a12 =>
        ldI .i64 w11 (Addr.add a12 4) fun i13 =>
        nn c_0 fun a14 =>
        ldI .i64 w11 (Addr.add a14 5) fun i15 =>
        (k ((i13 == i15), (0 : Int)) w11))))
theorem e_ring_Copy_Step (ring_Copy_load : Option Addr → Option Addr → Int → World → ((Int) → World → Prop) → Prop) (ring_Copy_store : Option Addr → Option Addr → Int → World → ((Int) → World → Prop) → Prop) (x : KT [.p, .p, (.i .i64)]) (w : World) (k : KT [.b, (.i .i64)] → World → Prop) : evFn Go.Proofs.Try.prog (orcOf [(n_ring_Copy_load, (fun args w c => unL [.p, .p, (.i .i64)] args fun x => ring_Copy_load x.1 x.2.1 x.2.2 w fun r w => c (packV (valL [(.i .i64)] r)) w)), (n_ring_Copy_store, (fun args w c => unL [.p, .p, (.i .i64)] args fun x => ring_Copy_store x.1 x.2.1 x.2.2 w fun r w => c (packV (valL [(.i .i64)] r)) w))]) 17179935687 [] Go.Proofs.Try.f21 [.b, (.i .i64)] (valL [.p, .p, (.i .i64)] x) w k = ring_Copy_Step_b ring_Copy_load ring_Copy_store x.1 x.2.1 x.2.2 w k := by kernel_rfl
def ring_Copy_Step (c_0 : Option Addr) (m_1 : Option Addr) (w_2 : Int) (w : World) (k : (Bool × Int) → World → Prop) : Prop := ring_Copy_Step_b ring_Copy_load ring_Copy_store c_0 m_1 w_2 w k
def d_ring_Copy_Step : Dec := fun args w c => unL [.p, .p, (.i .i64)] args fun x => ring_Copy_Step x.1 x.2.1 x.2.2 w fun r w => c (packV (valL [.b, (.i .i64)] r)) w
theorem s_ring_Copy_Step : Sound Go.Proofs.Try.prog n_ring_Copy_Step d_ring_Copy_Step :=
  sound_of (mask := 17179935687) (h := []) (ds := [(n_ring_Copy_load, d_ring_Copy_load), (n_ring_Copy_store, d_ring_Copy_store)]) mixed Go.Proofs.Try.func21 ⟨s_ring_Copy_load, s_ring_Copy_store, trivial⟩
    [.p, .p, (.i .i64)] [.b, (.i .i64)] (by kernel_rfl) (fun x w k => ring_Copy_Step x.1 x.2.1 x.2.2 w k) (fun x w k => e_ring_Copy_Step ring_Copy_load ring_Copy_store x w k)

/-- (*peloton/cells.Machine).Peek -/
def cells_Machine_Peek_b (cells_Machine_given : Option Addr → Int → World → ((Bool) → World → Prop) → Prop) (m_0 : Option Addr) (at_1 : Int) (w : World) (k : (Int) → World → Prop) : Prop :=
  joinP (S := Bool) (fun J1 =>
    iteB (Option.isNone m_0) (
      (J1 true w)) (
      cells_Machine_given m_0 at_1 w fun b2 w3 =>
      (J1 (!b2) w3))) fun b4 w5 =>
  iteB b4 (
    (k (0 : Int) w5)) (
    nn m_0 fun a6 =>
    ldS w5 (Addr.add a6 0) fun s7 =>
    ixS s7 at_1 1 fun a8 =>
    ldI .i64 w5 a8 fun i9 =>
    (k i9 w5))
theorem e_cells_Machine_Peek (cells_Machine_given : Option Addr → Int → World → ((Bool) → World → Prop) → Prop) (x : KT [.p, (.i .i64)]) (w : World) (k : KT [(.i .i64)] → World → Prop) : evFn Go.Proofs.Try.prog (orcOf [(n_cells_Machine_given, (fun args w c => unL [.p, (.i .i64)] args fun x => cells_Machine_given x.1 x.2 w fun r w => c (packV (valL [.b] r)) w))]) 4115 [(1, [(12, .b)])] Go.Proofs.Try.f27 [(.i .i64)] (valL [.p, (.i .i64)] x) w k = cells_Machine_Peek_b cells_Machine_given x.1 x.2 w k := by kernel_rfl
def cells_Machine_Peek (m_0 : Option Addr) (at_1 : Int) (w : World) (k : (Int) → World → Prop) : Prop := cells_Machine_Peek_b cells_Machine_given m_0 at_1 w k
def d_cells_Machine_Peek : Dec := fun args w c => unL [.p, (.i .i64)] args fun x => cells_Machine_Peek x.1 x.2 w fun r w => c (packV (valL [(.i .i64)] r)) w
theorem s_cells_Machine_Peek : Sound Go.Proofs.Try.prog n_cells_Machine_Peek d_cells_Machine_Peek :=
  sound_of (mask := 4115) (h := [(1, [(12, .b)])]) (ds := [(n_cells_Machine_given, d_cells_Machine_given)]) mixed Go.Proofs.Try.func27 ⟨s_cells_Machine_given, trivial⟩
    [.p, (.i .i64)] [(.i .i64)] (by kernel_rfl) (fun x w k => cells_Machine_Peek x.1 x.2 w k) (fun x w k => e_cells_Machine_Peek cells_Machine_given x w k)

/-- peloton/pelotonlaw09.awake -/
def pelotonlaw09_awake_b (ring_Of : Int → World → ((Array Value × Int) → World → Prop) → Prop) (cells_New : Int → Int → World → ((Option Addr × Int) → World → Prop) → Prop) (ring_New : Option Addr → Int → Int → World → ((Array Value × Int) → World → Prop) → Prop) (ring_Ring_Size : Array Value → World → ((Int) → World → Prop) → Prop) (ring_Ring_Place : Array Value → Int → World → ((Int) → World → Prop) → Prop) (ring_Ring_Word : Array Value → World → ((Int) → World → Prop) → Prop) (cells_Machine_Store : Option Addr → Int → Int → Int → World → ((Int) → World → Prop) → Prop) (ring_Ring_Copy : Array Value → Array Value → Int → Int → World → ((Option Addr × Int) → World → Prop) → Prop) (ring_Copy_Step : Option Addr → Option Addr → Int → World → ((Bool × Int) → World → Prop) → Prop) (cells_Machine_Peek : Option Addr → Int → World → ((Int) → World → Prop) → Prop)  (w : World) (k : (Bool) → World → Prop) : Prop :=
  ring_Of (82 : Int) w fun x1 w2 =>
  newC w2 #[(.int .i64 (0 : Int)), (.int .i64 (0 : Int))] 24 fun a3 w4 =>
  stA 2 w4 a3 x1.1 fun w5 =>
  ring_Of (9 : Int) w5 fun x6 w7 =>
  newC w7 #[(.int .i64 (0 : Int)), (.int .i64 (0 : Int))] 24 fun a8 w9 =>
  stA 2 w9 a8 x6.1 fun w10 =>
  cells_New (8 : Int) (1 : Int) w10 fun x11 w12 =>
  ring_New x11.1 (0 : Int) (1 : Int) w12 fun x13 w14 =>
  newC w14 #[(.int .i64 (0 : Int)), (.int .i64 (0 : Int))] 24 fun a15 w16 =>
  stA 2 w16 a15 x13.1 fun w17 =>
  ring_New x11.1 (1 : Int) (2 : Int) w17 fun x18 w19 =>
  newC w19 #[(.int .i64 (0 : Int)), (.int .i64 (0 : Int))] 24 fun a20 w21 =>
  stA 2 w21 a20 x18.1 fun w22 =>
  joinP (S := Bool) (fun J23 =>
    iteB (((((x1.2 != (0 : Int)) || (x6.2 != (11 : Int))) || (x11.2 != (0 : Int))) || (x13.2 != (0 : Int))) || (x18.2 != (0 : Int))) (
      (J23 true w22)) (
      ldA 2 w22 a3 fun cs24 =>
      eqA ([(0, 0)] ++ ([(1, 0)] ++ [])) cs24 #[(.int .i64 (5 : Int)), (.int .i64 (2 : Int))] fun b25 =>
      iteB (!b25) (
        (J23 true w22)) (
        ldA 2 w22 a15 fun cs26 =>
        eqA ([(0, 0)] ++ ([(1, 0)] ++ [])) cs26 #[(.int .i64 (0 : Int)), (.int .i64 (1 : Int))] fun b27 =>
        iteB (!b27) (
          (J23 true w22)) (
          ldA 2 w22 a20 fun cs28 =>
          eqA ([(0, 0)] ++ ([(1, 0)] ++ [])) cs28 #[(.int .i64 (2 : Int)), (.int .i64 (2 : Int))] fun b29 =>
          (J23 (!b29) w22))))) fun b30 w31 =>
  iteB b30 (
    (k false w31)) (
    joinP (S := Bool) (fun J32 =>
      ldA 2 w31 a3 fun cs33 =>
      ring_Ring_Size cs33 w31 fun i34 w35 =>
      iteB (i34 != (4 : Int)) (
        (J32 true w35)) (
        ldA 2 w35 a3 fun cs36 =>
        ring_Ring_Place cs36 (6 : Int) w35 fun i37 w38 =>
        iteB (i37 != (7 : Int)) (
          (J32 true w38)) (
          ldA 2 w38 a3 fun cs39 =>
          ring_Ring_Place cs39 (-(1 : Int)) w38 fun i40 w41 =>
          iteB (i40 != (8 : Int)) (
            (J32 true w41)) (
            ldA 2 w41 a3 fun cs42 =>
            ring_Ring_Word cs42 w41 fun i43 w44 =>
            iteB (i43 != (82 : Int)) (
              (J32 true w44)) (
              cells_Machine_Store x11.1 (0 : Int) (1 : Int) (7 : Int) w44 fun i45 w46 =>
              (J32 (i45 != (0 : Int)) w46)))))) fun b47 w48 =>
    iteB b47 (
      (k false w48)) (
      ldA 2 w48 a15 fun cs49 =>
      ldA 2 w48 a20 fun cs50 =>
      ring_Ring_Copy cs49 cs50 (1 : Int) (2 : Int) w48 fun x51 w52 =>
      ring_Copy_Step x51.1 x11.1 (0 : Int) w52 fun x53 w54 =>
      ring_Copy_Step x51.1 x11.1 (0 : Int) w54 fun x55 w56 =>
      iteB (((((x51.2 == (0 : Int)) && (x53.2 == (0 : Int))) && (x55.2 == (0 : Int))) && (!x53.1)) && x55.1) (
        cells_Machine_Peek x11.1 (3 : Int) w56 fun i57 w58 =>
        (k (i57 == (7 : Int)) w58)) (
        (k false w56))))
theorem e_pelotonlaw09_awake (ring_Of : Int → World → ((Array Value × Int) → World → Prop) → Prop) (cells_New : Int → Int → World → ((Option Addr × Int) → World → Prop) → Prop) (ring_New : Option Addr → Int → Int → World → ((Array Value × Int) → World → Prop) → Prop) (ring_Ring_Size : Array Value → World → ((Int) → World → Prop) → Prop) (ring_Ring_Place : Array Value → Int → World → ((Int) → World → Prop) → Prop) (ring_Ring_Word : Array Value → World → ((Int) → World → Prop) → Prop) (cells_Machine_Store : Option Addr → Int → Int → Int → World → ((Int) → World → Prop) → Prop) (ring_Ring_Copy : Array Value → Array Value → Int → Int → World → ((Option Addr × Int) → World → Prop) → Prop) (ring_Copy_Step : Option Addr → Option Addr → Int → World → ((Bool × Int) → World → Prop) → Prop) (cells_Machine_Peek : Option Addr → Int → World → ((Int) → World → Prop) → Prop) (x : KT []) (w : World) (k : KT [.b] → World → Prop) : evFn Go.Proofs.Try.prog (orcOf [(n_ring_Of, (fun args w c => unL [(.i .i64)] args fun x => ring_Of x w fun r w => c (packV (valL [.ag, (.i .i64)] r)) w)), (n_cells_New, (fun args w c => unL [(.i .i64), (.i .i64)] args fun x => cells_New x.1 x.2 w fun r w => c (packV (valL [.p, (.i .i64)] r)) w)), (n_ring_New, (fun args w c => unL [.p, (.i .i64), (.i .i64)] args fun x => ring_New x.1 x.2.1 x.2.2 w fun r w => c (packV (valL [.ag, (.i .i64)] r)) w)), (n_ring_Ring_Size, (fun args w c => unL [.ag] args fun x => ring_Ring_Size x w fun r w => c (packV (valL [(.i .i64)] r)) w)), (n_ring_Ring_Place, (fun args w c => unL [.ag, (.i .i64)] args fun x => ring_Ring_Place x.1 x.2 w fun r w => c (packV (valL [(.i .i64)] r)) w)), (n_ring_Ring_Word, (fun args w c => unL [.ag] args fun x => ring_Ring_Word x w fun r w => c (packV (valL [(.i .i64)] r)) w)), (n_cells_Machine_Store, (fun args w c => unL [.p, (.i .i64), (.i .i64), (.i .i64)] args fun x => cells_Machine_Store x.1 x.2.1 x.2.2.1 x.2.2.2 w fun r w => c (packV (valL [(.i .i64)] r)) w)), (n_ring_Ring_Copy, (fun args w c => unL [.ag, .ag, (.i .i64), (.i .i64)] args fun x => ring_Ring_Copy x.1 x.2.1 x.2.2.1 x.2.2.2 w fun r w => c (packV (valL [.p, (.i .i64)] r)) w)), (n_ring_Copy_Step, (fun args w c => unL [.p, .p, (.i .i64)] args fun x => ring_Copy_Step x.1 x.2.1 x.2.2 w fun r w => c (packV (valL [.b, (.i .i64)] r)) w)), (n_cells_Machine_Peek, (fun args w c => unL [.p, (.i .i64)] args fun x => cells_Machine_Peek x.1 x.2 w fun r w => c (packV (valL [(.i .i64)] r)) w))]) 19807042989749325833208725495 [(6, [(71, .b)]), (9, [(94, .b)])] Go.Proofs.Try.f18 [.b] (valL [] x) w k = pelotonlaw09_awake_b ring_Of cells_New ring_New ring_Ring_Size ring_Ring_Place ring_Ring_Word cells_Machine_Store ring_Ring_Copy ring_Copy_Step cells_Machine_Peek  w k := by kernel_rfl
def pelotonlaw09_awake  (w : World) (k : (Bool) → World → Prop) : Prop := pelotonlaw09_awake_b ring_Of cells_New ring_New ring_Ring_Size ring_Ring_Place ring_Ring_Word cells_Machine_Store ring_Ring_Copy ring_Copy_Step cells_Machine_Peek  w k
def d_pelotonlaw09_awake : Dec := fun args w c => unL [] args fun x => pelotonlaw09_awake  w fun r w => c (packV (valL [.b] r)) w
theorem s_pelotonlaw09_awake : Sound Go.Proofs.Try.prog n_pelotonlaw09_awake d_pelotonlaw09_awake :=
  sound_of (mask := 19807042989749325833208725495) (h := [(6, [(71, .b)]), (9, [(94, .b)])]) (ds := [(n_ring_Of, d_ring_Of), (n_cells_New, d_cells_New), (n_ring_New, d_ring_New), (n_ring_Ring_Size, d_ring_Ring_Size), (n_ring_Ring_Place, d_ring_Ring_Place), (n_ring_Ring_Word, d_ring_Ring_Word), (n_cells_Machine_Store, d_cells_Machine_Store), (n_ring_Ring_Copy, d_ring_Ring_Copy), (n_ring_Copy_Step, d_ring_Copy_Step), (n_cells_Machine_Peek, d_cells_Machine_Peek)]) mixed Go.Proofs.Try.func18 ⟨s_ring_Of, s_cells_New, s_ring_New, s_ring_Ring_Size, s_ring_Ring_Place, s_ring_Ring_Word, s_cells_Machine_Store, s_ring_Ring_Copy, s_ring_Copy_Step, s_cells_Machine_Peek, trivial⟩
    [] [.b] (by kernel_rfl) (fun x w k => pelotonlaw09_awake  w k) (fun x w k => e_pelotonlaw09_awake ring_Of cells_New ring_New ring_Ring_Size ring_Ring_Place ring_Ring_Word cells_Machine_Store ring_Ring_Copy ring_Copy_Step cells_Machine_Peek x w k)

/-- peloton/pelotonlaw09.RingPlaces -/
def pelotonlaw09_RingPlaces_b (ring_Ring_Size : Array Value → World → ((Int) → World → Prop) → Prop) (pelotonref09_Size : Array Value → World → ((Int) → World → Prop) → Prop) (ring_Ring_Place : Array Value → Int → World → ((Int) → World → Prop) → Prop) (pelotonref09_Place : Array Value → Int → World → ((Int) → World → Prop) → Prop) (ring_Ring_Word : Array Value → World → ((Int) → World → Prop) → Prop) (pelotonref09_Word : Array Value → World → ((Int) → World → Prop) → Prop) (ring_Of : Int → World → ((Array Value × Int) → World → Prop) → Prop) (pelotonref09_Of : Int → World → ((Array Value × Int) → World → Prop) → Prop) (pelotonlaw09_awake : World → ((Bool) → World → Prop) → Prop) (s_0 : Array Value) (i_1 : Int) (word_2 : Int) (w : World) (k : (Bool) → World → Prop) : Prop :=
  newC w s_0 23 fun a1 w2 =>
  ldI .i64 w2 (Addr.add a1 0) fun i3 =>
  ldI .i64 w2 (Addr.add a1 1) fun i4 =>
  newC w2 #[(.int .i64 (0 : Int)), (.int .i64 (0 : Int))] 24 fun a5 w6 =>
  stA 2 w6 a5 #[(.int .i64 i3), (.int .i64 i4)] fun w7 =>
  ldI .i64 w7 (Addr.add a1 0) fun i8 =>
  ldI .i64 w7 (Addr.add a1 1) fun i9 =>
  newC w7 #[(.int .i64 (0 : Int)), (.int .i64 (0 : Int))] 25 fun a10 w11 =>
  stA 2 w11 a10 #[(.int .i64 i8), (.int .i64 i9)] fun w12 =>
  joinP (S := Bool) (fun J13 =>
    drew w12 fun w14 =>
    ldA 2 w14 a5 fun cs15 =>
    ldA 2 w14 a10 fun cs16 =>
    ring_Ring_Size cs15 w14 fun i17 w18 =>
    samec 2 a10 w14 w18 (
    pelotonref09_Size cs16 w18 fun i19 w20 =>
    iteB (i17 != i19) (
      (J13 true w20)) (
      ldA 2 w20 a5 fun cs21 =>
      ldA 2 w20 a10 fun cs22 =>
      ring_Ring_Place cs21 i_1 w20 fun i23 w24 =>
      samec 2 a10 w20 w24 (
      pelotonref09_Place cs22 i_1 w24 fun i25 w26 =>
      iteB (i23 != i25) (
        (J13 true w26)) (
        ldA 2 w26 a5 fun cs27 =>
        ldA 2 w26 a10 fun cs28 =>
        ring_Ring_Word cs27 w26 fun i29 w30 =>
        samec 2 a10 w26 w30 (
        pelotonref09_Word cs28 w30 fun i31 w32 =>
        (J13 (i29 != i31) w32))))))) fun b33 w34 =>
  iteB b33 (
    (k false w34)) (
    ring_Of word_2 w34 fun x35 w36 =>
    newC w36 #[(.int .i64 (0 : Int)), (.int .i64 (0 : Int))] 24 fun a37 w38 =>
    stA 2 w38 a37 x35.1 fun w39 =>
    pelotonref09_Of word_2 w39 fun x40 w41 =>
    newC w41 #[(.int .i64 (0 : Int)), (.int .i64 (0 : Int))] 25 fun a42 w43 =>
    stA 2 w43 a42 x40.1 fun w44 =>
    iteB (x35.2 == x40.2) (
      ldI .i64 w44 (Addr.add a37 0) fun i45 =>
      ldI .i64 w44 (Addr.add a42 0) fun i46 =>
      iteB (i45 == i46) (
        ldI .i64 w44 (Addr.add a37 1) fun i47 =>
        ldI .i64 w44 (Addr.add a42 1) fun i48 =>
        iteB (i47 == i48) (
          pelotonlaw09_awake  w44 fun b49 w50 =>
          (k b49 w50)) (
          (k false w44))) (
        (k false w44))) (
      (k false w44)))
theorem e_pelotonlaw09_RingPlaces (ring_Ring_Size : Array Value → World → ((Int) → World → Prop) → Prop) (pelotonref09_Size : Array Value → World → ((Int) → World → Prop) → Prop) (ring_Ring_Place : Array Value → Int → World → ((Int) → World → Prop) → Prop) (pelotonref09_Place : Array Value → Int → World → ((Int) → World → Prop) → Prop) (ring_Ring_Word : Array Value → World → ((Int) → World → Prop) → Prop) (pelotonref09_Word : Array Value → World → ((Int) → World → Prop) → Prop) (ring_Of : Int → World → ((Array Value × Int) → World → Prop) → Prop) (pelotonref09_Of : Int → World → ((Array Value × Int) → World → Prop) → Prop) (pelotonlaw09_awake : World → ((Bool) → World → Prop) → Prop) (x : KT [.ag, (.i .i64), (.i .i64)]) (w : World) (k : KT [.b] → World → Prop) : evFn Go.Proofs.Try.prog (orcOf [(n_ring_Ring_Size, (fun args w c => unL [.ag] args fun x => ring_Ring_Size x w fun r w => c (packV (valL [(.i .i64)] r)) w)), (n_pelotonref09_Size, (fun args w c => unL [.ag] args fun x => pelotonref09_Size x w fun r w => c (packV (valL [(.i .i64)] r)) w)), (n_ring_Ring_Place, (fun args w c => unL [.ag, (.i .i64)] args fun x => ring_Ring_Place x.1 x.2 w fun r w => c (packV (valL [(.i .i64)] r)) w)), (n_pelotonref09_Place, (fun args w c => unL [.ag, (.i .i64)] args fun x => pelotonref09_Place x.1 x.2 w fun r w => c (packV (valL [(.i .i64)] r)) w)), (n_ring_Ring_Word, (fun args w c => unL [.ag] args fun x => ring_Ring_Word x w fun r w => c (packV (valL [(.i .i64)] r)) w)), (n_pelotonref09_Word, (fun args w c => unL [.ag] args fun x => pelotonref09_Word x w fun r w => c (packV (valL [(.i .i64)] r)) w)), (n_ring_Of, (fun args w c => unL [(.i .i64)] args fun x => ring_Of x w fun r w => c (packV (valL [.ag, (.i .i64)] r)) w)), (n_pelotonref09_Of, (fun args w c => unL [(.i .i64)] args fun x => pelotonref09_Of x w fun r w => c (packV (valL [.ag, (.i .i64)] r)) w)), (n_pelotonlaw09_awake, (fun args w c => unL [] args fun x => pelotonlaw09_awake  w fun r w => c (packV (valL [.b] r)) w))]) 8796093030350 [(3, [(43, .b)])] Go.Proofs.Try.f3 [.b] (valL [.ag, (.i .i64), (.i .i64)] x) w k = pelotonlaw09_RingPlaces_b ring_Ring_Size pelotonref09_Size ring_Ring_Place pelotonref09_Place ring_Ring_Word pelotonref09_Word ring_Of pelotonref09_Of pelotonlaw09_awake x.1 x.2.1 x.2.2 w k := by kernel_rfl
def pelotonlaw09_RingPlaces (s_0 : Array Value) (i_1 : Int) (word_2 : Int) (w : World) (k : (Bool) → World → Prop) : Prop := pelotonlaw09_RingPlaces_b ring_Ring_Size pelotonref09_Size ring_Ring_Place pelotonref09_Place ring_Ring_Word pelotonref09_Word ring_Of pelotonref09_Of pelotonlaw09_awake s_0 i_1 word_2 w k
def d_pelotonlaw09_RingPlaces : Dec := fun args w c => unL [.ag, (.i .i64), (.i .i64)] args fun x => pelotonlaw09_RingPlaces x.1 x.2.1 x.2.2 w fun r w => c (packV (valL [.b] r)) w
theorem s_pelotonlaw09_RingPlaces : Sound Go.Proofs.Try.prog n_pelotonlaw09_RingPlaces d_pelotonlaw09_RingPlaces :=
  sound_of (mask := 8796093030350) (h := [(3, [(43, .b)])]) (ds := [(n_ring_Ring_Size, d_ring_Ring_Size), (n_pelotonref09_Size, d_pelotonref09_Size), (n_ring_Ring_Place, d_ring_Ring_Place), (n_pelotonref09_Place, d_pelotonref09_Place), (n_ring_Ring_Word, d_ring_Ring_Word), (n_pelotonref09_Word, d_pelotonref09_Word), (n_ring_Of, d_ring_Of), (n_pelotonref09_Of, d_pelotonref09_Of), (n_pelotonlaw09_awake, d_pelotonlaw09_awake)]) mixed Go.Proofs.Try.func3 ⟨s_ring_Ring_Size, s_pelotonref09_Size, s_ring_Ring_Place, s_pelotonref09_Place, s_ring_Ring_Word, s_pelotonref09_Word, s_ring_Of, s_pelotonref09_Of, s_pelotonlaw09_awake, trivial⟩
    [.ag, (.i .i64), (.i .i64)] [.b] (by kernel_rfl) (fun x w k => pelotonlaw09_RingPlaces x.1 x.2.1 x.2.2 w k) (fun x w k => e_pelotonlaw09_RingPlaces ring_Ring_Size pelotonref09_Size ring_Ring_Place pelotonref09_Place ring_Ring_Word pelotonref09_Word ring_Of pelotonref09_Of pelotonlaw09_awake x w k)

/-- peloton/pelotonlaw09.RingWords -/
def pelotonlaw09_RingWords_b (ring_Of : Int → World → ((Array Value × Int) → World → Prop) → Prop) (ring_Ring_Word : Array Value → World → ((Int) → World → Prop) → Prop) (ring_Ring_Size : Array Value → World → ((Int) → World → Prop) → Prop) (pelotonlaw09_awake : World → ((Bool) → World → Prop) → Prop) (s_0 : Array Value) (word_1 : Int) (w : World) (k : (Bool) → World → Prop) : Prop :=
  newC w s_0 23 fun a1 w2 =>
  ring_Of word_1 w2 fun x3 w4 =>
  newC w4 #[(.int .i64 (0 : Int)), (.int .i64 (0 : Int))] 24 fun a5 w6 =>
  stA 2 w6 a5 x3.1 fun w7 =>
  joinP (S := Unit) (fun J8 =>
    iteB (x3.2 == (0 : Int)) (
      joinP (S := Bool) (fun J9 =>
        ldA 2 w7 a5 fun cs10 =>
        ring_Ring_Word cs10 w7 fun i11 w12 =>
        iteB (i11 != word_1) (
          (J9 true w12)) (
          ldA 2 w12 a5 fun cs13 =>
          ring_Ring_Size cs13 w12 fun i14 w15 =>
          (J9 (decide (i14 < (1 : Int))) w15))) fun b16 w17 =>
      iteB b16 (
        (k false w17)) (
        (J8 () w17))) (
      joinP (S := Unit) (fun J18 =>
        iteB (decide (word_1 ≥ (0 : Int))) (
          newC w7 #[(.int .i64 (0 : Int)), (.int .i64 (0 : Int))] 24 fun a19 w20 =>
          stA 2 w20 a19 #[(.int .i64 (divV .i64 word_1 (16 : Int))), (.int .i64 (remV word_1 (16 : Int)))] fun w21 =>
          joinP (S := Bool) (fun J22 =>
            ldA 2 w21 a19 fun cs23 =>
            ring_Ring_Size cs23 w21 fun i24 w25 =>
            iteB (i24 != (0 : Int)) (
              (J22 true w25)) (
              ldA 2 w25 a19 fun cs26 =>
              ring_Ring_Word cs26 w25 fun i27 w28 =>
              (J22 (i27 != (-(1 : Int))) w28))) fun b29 w30 =>
          iteB b29 (
            (k false w30)) (
            (J18 () w30))) (
          (J18 () w7))) fun u31 w32 =>
      joinP (S := Bool) (fun J33 =>
        iteB (x3.2 != (11 : Int)) (
          (J33 true w32)) (
          ldA 2 w32 a5 fun cs34 =>
          eqA ([(0, 0)] ++ ([(1, 0)] ++ [])) cs34 #[(.int .i64 (0 : Int)), (.int .i64 (0 : Int))] fun b35 =>
          (J33 (!b35) w32))) fun b36 w37 =>
      iteB b36 (
        (k false w37)) (
        (J8 () w37)))) fun u38 w39 =>
  ldI .i64 w39 (Addr.add a1 0) fun i40 =>
  ldI .i64 w39 (Addr.add a1 1) fun i41 =>
  newC w39 #[(.int .i64 (0 : Int)), (.int .i64 (0 : Int))] 24 fun a42 w43 =>
  stA 2 w43 a42 #[(.int .i64 i40), (.int .i64 i41)] fun w44 =>
  ldA 2 w44 a42 fun cs45 =>
  ring_Ring_Word cs45 w44 fun i46 w47 =>
  ring_Of i46 w47 fun x48 w49 =>
  newC w49 #[(.int .i64 (0 : Int)), (.int .i64 (0 : Int))] 24 fun a50 w51 =>
  stA 2 w51 a50 x48.1 fun w52 =>
  ldA 2 w52 a42 fun cs53 =>
  ring_Ring_Size cs53 w52 fun i54 w55 =>
  iteB (i54 == (0 : Int)) (
    iteB (x48.2 == (11 : Int)) (
      pelotonlaw09_awake  w55 fun b56 w57 =>
      (k b56 w57)) (
      (k false w55))) (
    iteB (x48.2 == (0 : Int)) (
      ldA 2 w55 a50 fun cs58 =>
      ldA 2 w55 a42 fun cs59 =>
      eqA ([(0, 0)] ++ ([(1, 0)] ++ [])) cs58 cs59 fun b60 =>
      iteB b60 (
        pelotonlaw09_awake  w55 fun b61 w62 =>
        (k b61 w62)) (
        (k false w55))) (
      (k false w55)))
theorem e_pelotonlaw09_RingWords (ring_Of : Int → World → ((Array Value × Int) → World → Prop) → Prop) (ring_Ring_Word : Array Value → World → ((Int) → World → Prop) → Prop) (ring_Ring_Size : Array Value → World → ((Int) → World → Prop) → Prop) (pelotonlaw09_awake : World → ((Bool) → World → Prop) → Prop) (x : KT [.ag, (.i .i64)]) (w : World) (k : KT [.b] → World → Prop) : evFn Go.Proofs.Try.prog (orcOf [(n_ring_Of, (fun args w c => unL [(.i .i64)] args fun x => ring_Of x w fun r w => c (packV (valL [.ag, (.i .i64)] r)) w)), (n_ring_Ring_Word, (fun args w c => unL [.ag] args fun x => ring_Ring_Word x w fun r w => c (packV (valL [(.i .i64)] r)) w)), (n_ring_Ring_Size, (fun args w c => unL [.ag] args fun x => ring_Ring_Size x w fun r w => c (packV (valL [(.i .i64)] r)) w)), (n_pelotonlaw09_awake, (fun args w c => unL [] args fun x => pelotonlaw09_awake  w fun r w => c (packV (valL [.b] r)) w))]) 4611969692763031542 [(3, []), (4, [(26, .b)]), (8, []), (10, [(41, .b)]), (13, [(48, .b)])] Go.Proofs.Try.f4 [.b] (valL [.ag, (.i .i64)] x) w k = pelotonlaw09_RingWords_b ring_Of ring_Ring_Word ring_Ring_Size pelotonlaw09_awake x.1 x.2 w k := by kernel_rfl
def pelotonlaw09_RingWords (s_0 : Array Value) (word_1 : Int) (w : World) (k : (Bool) → World → Prop) : Prop := pelotonlaw09_RingWords_b ring_Of ring_Ring_Word ring_Ring_Size pelotonlaw09_awake s_0 word_1 w k
def d_pelotonlaw09_RingWords : Dec := fun args w c => unL [.ag, (.i .i64)] args fun x => pelotonlaw09_RingWords x.1 x.2 w fun r w => c (packV (valL [.b] r)) w
theorem s_pelotonlaw09_RingWords : Sound Go.Proofs.Try.prog n_pelotonlaw09_RingWords d_pelotonlaw09_RingWords :=
  sound_of (mask := 4611969692763031542) (h := [(3, []), (4, [(26, .b)]), (8, []), (10, [(41, .b)]), (13, [(48, .b)])]) (ds := [(n_ring_Of, d_ring_Of), (n_ring_Ring_Word, d_ring_Ring_Word), (n_ring_Ring_Size, d_ring_Ring_Size), (n_pelotonlaw09_awake, d_pelotonlaw09_awake)]) mixed Go.Proofs.Try.func4 ⟨s_ring_Of, s_ring_Ring_Word, s_ring_Ring_Size, s_pelotonlaw09_awake, trivial⟩
    [.ag, (.i .i64)] [.b] (by kernel_rfl) (fun x w k => pelotonlaw09_RingWords x.1 x.2 w k) (fun x w k => e_pelotonlaw09_RingWords ring_Of ring_Ring_Word ring_Ring_Size pelotonlaw09_awake x w k)

/-- peloton/pelotonlaw09.RingRounds -/
def pelotonlaw09_RingRounds_b (ring_Ring_Size : Array Value → World → ((Int) → World → Prop) → Prop) (ring_Ring_Place : Array Value → Int → World → ((Int) → World → Prop) → Prop) (pelotonlaw09_awake : World → ((Bool) → World → Prop) → Prop) (s_0 : Array Value) (i_1 : Int) (j_2 : Int) (w : World) (k : (Bool) → World → Prop) : Prop :=
  newC w s_0 23 fun a1 w2 =>
  ldI .i64 w2 (Addr.add a1 0) fun i3 =>
  ldI .i64 w2 (Addr.add a1 1) fun i4 =>
  newC w2 #[(.int .i64 (0 : Int)), (.int .i64 (0 : Int))] 24 fun a5 w6 =>
  stA 2 w6 a5 #[(.int .i64 i3), (.int .i64 i4)] fun w7 =>
  ldA 2 w7 a5 fun cs8 =>
  ring_Ring_Size cs8 w7 fun i9 w10 =>
  iteB ((decide (i9 < (1 : Int))) || (decide (i9 > (256 : Int)))) (
    iteB (i9 == (0 : Int)) (
      ldA 2 w10 a5 fun cs11 =>
      ring_Ring_Place cs11 i_1 w10 fun i12 w13 =>
      iteB (i12 == (-(1 : Int))) (
        pelotonlaw09_awake  w13 fun b14 w15 =>
        (k b14 w15)) (
        (k false w13))) (
      (k false w10))) (
    ldA 2 w10 a5 fun cs16 =>
    ring_Ring_Place cs16 i_1 w10 fun i17 w18 =>
    ldA 2 w18 a5 fun cs19 =>
    ring_Ring_Place cs19 j_2 w18 fun i20 w21 =>
    remI (IntKind.wrap .u64 ((IntKind.wrap .u64 i_1) - (IntKind.wrap .u64 j_2))) (IntKind.wrap .u64 i9) fun i22 =>
    joinP (S := Bool) (fun J23 =>
      ldI .i64 w21 (Addr.add a1 0) fun i24 =>
      iteB (decide (i17 < i24)) (
        (J23 (true || (!((i17 == i20) == (i22 == (0 : Int))))) w21)) (
        ldI .i64 w21 (Addr.add a1 0) fun i25 =>
        iteB (decide ((IntKind.wrap .i64 (i17 - i25)) ≥ i9)) (
          (J23 (true || (!((i17 == i20) == (i22 == (0 : Int))))) w21)) (
          ldI .i64 w21 (Addr.add a1 0) fun i26 =>
          iteB (decide (i20 < i26)) (
            (J23 (true || (!((i17 == i20) == (i22 == (0 : Int))))) w21)) (
            ldI .i64 w21 (Addr.add a1 0) fun i27 =>
            (J23 ((decide ((IntKind.wrap .i64 (i20 - i27)) ≥ i9)) || (!((i17 == i20) == (i22 == (0 : Int))))) w21))))) fun b28 w29 =>
    iteB b28 (
      (k false w29)) (
      drew w29 fun w30 =>
      ldA 2 w30 a5 fun cs31 =>
      ldI .i64 w30 (Addr.add a1 0) fun i32 =>
      ring_Ring_Place cs31 (0 : Int) w30 fun i33 w34 =>
      samec 1 (Addr.add a1 0) w30 w34 (
      iteB (i33 == i32) (
        ldA 2 w34 a5 fun cs35 =>
        ldI .i64 w34 (Addr.add a1 0) fun i36 =>
        ring_Ring_Place cs35 (IntKind.wrap .i64 (i9 - (1 : Int))) w34 fun i37 w38 =>
        samec 1 (Addr.add a1 0) w34 w38 (
        iteB (i37 == (IntKind.wrap .i64 ((IntKind.wrap .i64 (i36 + i9)) - (1 : Int)))) (
          pelotonlaw09_awake  w38 fun b39 w40 =>
          (k b39 w40)) (
          (k false w38)))) (
        (k false w34)))))
theorem e_pelotonlaw09_RingRounds (ring_Ring_Size : Array Value → World → ((Int) → World → Prop) → Prop) (ring_Ring_Place : Array Value → Int → World → ((Int) → World → Prop) → Prop) (pelotonlaw09_awake : World → ((Bool) → World → Prop) → Prop) (x : KT [.ag, (.i .i64), (.i .i64)]) (w : World) (k : KT [.b] → World → Prop) : evFn Go.Proofs.Try.prog (orcOf [(n_ring_Ring_Size, (fun args w c => unL [.ag] args fun x => ring_Ring_Size x w fun r w => c (packV (valL [(.i .i64)] r)) w)), (n_ring_Ring_Place, (fun args w c => unL [.ag, (.i .i64)] args fun x => ring_Ring_Place x.1 x.2 w fun r w => c (packV (valL [(.i .i64)] r)) w)), (n_pelotonlaw09_awake, (fun args w c => unL [] args fun x => pelotonlaw09_awake  w fun r w => c (packV (valL [.b] r)) w))]) 9671406556917033414430670 [(9, [(83, .b)])] Go.Proofs.Try.f5 [.b] (valL [.ag, (.i .i64), (.i .i64)] x) w k = pelotonlaw09_RingRounds_b ring_Ring_Size ring_Ring_Place pelotonlaw09_awake x.1 x.2.1 x.2.2 w k := by kernel_rfl
def pelotonlaw09_RingRounds (s_0 : Array Value) (i_1 : Int) (j_2 : Int) (w : World) (k : (Bool) → World → Prop) : Prop := pelotonlaw09_RingRounds_b ring_Ring_Size ring_Ring_Place pelotonlaw09_awake s_0 i_1 j_2 w k
def d_pelotonlaw09_RingRounds : Dec := fun args w c => unL [.ag, (.i .i64), (.i .i64)] args fun x => pelotonlaw09_RingRounds x.1 x.2.1 x.2.2 w fun r w => c (packV (valL [.b] r)) w
theorem s_pelotonlaw09_RingRounds : Sound Go.Proofs.Try.prog n_pelotonlaw09_RingRounds d_pelotonlaw09_RingRounds :=
  sound_of (mask := 9671406556917033414430670) (h := [(9, [(83, .b)])]) (ds := [(n_ring_Ring_Size, d_ring_Ring_Size), (n_ring_Ring_Place, d_ring_Ring_Place), (n_pelotonlaw09_awake, d_pelotonlaw09_awake)]) mixed Go.Proofs.Try.func5 ⟨s_ring_Ring_Size, s_ring_Ring_Place, s_pelotonlaw09_awake, trivial⟩
    [.ag, (.i .i64), (.i .i64)] [.b] (by kernel_rfl) (fun x w k => pelotonlaw09_RingRounds x.1 x.2.1 x.2.2 w k) (fun x w k => e_pelotonlaw09_RingRounds ring_Ring_Size ring_Ring_Place pelotonlaw09_awake x w k)

/-- peloton/pelotonlaw09.RingNil -/
def pelotonlaw09_RingNil_b (ring_New : Option Addr → Int → Int → World → ((Array Value × Int) → World → Prop) → Prop) (cells_New : Int → Int → World → ((Option Addr × Int) → World → Prop) → Prop) (ring_Copy_Step : Option Addr → Option Addr → Int → World → ((Bool × Int) → World → Prop) → Prop) (ring_Ring_Copy : Array Value → Array Value → Int → Int → World → ((Option Addr × Int) → World → Prop) → Prop) (ring_Ring_Size : Array Value → World → ((Int) → World → Prop) → Prop) (pelotonlaw09_awake : World → ((Bool) → World → Prop) → Prop) (two_0 : Array Value) (span_1 : Array Value) (o_2 : Array Value) (w : World) (k : (Bool) → World → Prop) : Prop :=
  newC w two_0 41 fun a1 w2 =>
  newC w2 span_1 42 fun a3 w4 =>
  newC w4 o_2 44 fun a5 w6 =>
  ldI .i64 w6 (Addr.add a5 0) fun i7 =>
  ldI .i64 w6 (Addr.add a5 1) fun i8 =>
  ring_New none i7 i8 w6 fun x9 w10 =>
  newC w10 #[(.int .i64 (0 : Int)), (.int .i64 (0 : Int))] 24 fun a11 w12 =>
  stA 2 w12 a11 x9.1 fun w13 =>
  cells_New (4 : Int) (1 : Int) w13 fun x14 w15 =>
  ldI .i64 w15 (Addr.add a5 0) fun i16 =>
  ring_Copy_Step none x14.1 i16 w15 fun x17 w18 =>
  joinP (S := Bool) (fun J19 =>
    iteB (x9.2 != (2 : Int)) (
      (J19 (((true || (x14.2 != (0 : Int))) || x17.1) || (x17.2 != (2 : Int))) w18)) (
      ldA 2 w18 a11 fun cs20 =>
      eqA ([(0, 0)] ++ ([(1, 0)] ++ [])) cs20 #[(.int .i64 (0 : Int)), (.int .i64 (0 : Int))] fun b21 =>
      (J19 ((((!b21) || (x14.2 != (0 : Int))) || x17.1) || (x17.2 != (2 : Int))) w18))) fun b22 w23 =>
  iteB b22 (
    (k false w23)) (
    ldI .i64 w23 (Addr.add (Addr.add a1 0) 0) fun i24 =>
    ldI .i64 w23 (Addr.add (Addr.add a1 0) 1) fun i25 =>
    newC w23 #[(.int .i64 (0 : Int)), (.int .i64 (0 : Int))] 24 fun a26 w27 =>
    stA 2 w27 a26 #[(.int .i64 i24), (.int .i64 i25)] fun w28 =>
    ldI .i64 w28 (Addr.add (Addr.add a1 2) 0) fun i29 =>
    ldI .i64 w28 (Addr.add (Addr.add a1 2) 1) fun i30 =>
    newC w28 #[(.int .i64 (0 : Int)), (.int .i64 (0 : Int))] 24 fun a31 w32 =>
    stA 2 w32 a31 #[(.int .i64 i29), (.int .i64 i30)] fun w33 =>
    ldA 2 w33 a26 fun cs34 =>
    ldA 2 w33 a31 fun cs35 =>
    ldI .i64 w33 (Addr.add a3 0) fun i36 =>
    ldI .i64 w33 (Addr.add a3 1) fun i37 =>
    ring_Ring_Copy cs34 cs35 i36 i37 w33 fun x38 w39 =>
    joinP (S := Bool) (fun J40 =>
      ldA 2 w39 a26 fun cs41 =>
      ring_Ring_Size cs41 w39 fun i42 w43 =>
      iteB (i42 == (0 : Int)) (
        (J40 true w43)) (
        ldA 2 w43 a31 fun cs44 =>
        ring_Ring_Size cs44 w43 fun i45 w46 =>
        (J40 (i45 == (0 : Int)) w46))) fun b47 w48 =>
    iteB b47 (
      iteB ((x38.2 == (1 : Int)) && (Option.isNone x38.1)) (
        pelotonlaw09_awake  w48 fun b49 w50 =>
        (k b49 w50)) (
        (k false w48))) (
      ldI .i64 w48 (Addr.add a3 1) fun i51 =>
      ldI .i64 w48 (Addr.add a3 0) fun i52 =>
      iteB (decide (i51 < i52)) (
        iteB ((x38.2 == (10 : Int)) && (Option.isNone x38.1)) (
          pelotonlaw09_awake  w48 fun b53 w54 =>
          (k b53 w54)) (
          (k false w48))) (
        iteB (x38.2 != (0 : Int)) (
          iteB ((x38.2 == (10 : Int)) && (Option.isNone x38.1)) (
            pelotonlaw09_awake  w48 fun b55 w56 =>
            (k b55 w56)) (
            (k false w48))) (
          ldI .i64 w48 (Addr.add a5 0) fun i57 =>
          ring_Copy_Step x38.1 none i57 w48 fun x58 w59 =>
          iteB ((!x58.1) && (x58.2 == (2 : Int))) (
            pelotonlaw09_awake  w59 fun b60 w61 =>
            (k b60 w61)) (
            (k false w59))))))
theorem e_pelotonlaw09_RingNil (ring_New : Option Addr → Int → Int → World → ((Array Value × Int) → World → Prop) → Prop) (cells_New : Int → Int → World → ((Option Addr × Int) → World → Prop) → Prop) (ring_Copy_Step : Option Addr → Option Addr → Int → World → ((Bool × Int) → World → Prop) → Prop) (ring_Ring_Copy : Array Value → Array Value → Int → Int → World → ((Option Addr × Int) → World → Prop) → Prop) (ring_Ring_Size : Array Value → World → ((Int) → World → Prop) → Prop) (pelotonlaw09_awake : World → ((Bool) → World → Prop) → Prop) (x : KT [.ag, .ag, .ag]) (w : World) (k : KT [.b] → World → Prop) : evFn Go.Proofs.Try.prog (orcOf [(n_ring_New, (fun args w c => unL [.p, (.i .i64), (.i .i64)] args fun x => ring_New x.1 x.2.1 x.2.2 w fun r w => c (packV (valL [.ag, (.i .i64)] r)) w)), (n_cells_New, (fun args w c => unL [(.i .i64), (.i .i64)] args fun x => cells_New x.1 x.2 w fun r w => c (packV (valL [.p, (.i .i64)] r)) w)), (n_ring_Copy_Step, (fun args w c => unL [.p, .p, (.i .i64)] args fun x => ring_Copy_Step x.1 x.2.1 x.2.2 w fun r w => c (packV (valL [.b, (.i .i64)] r)) w)), (n_ring_Ring_Copy, (fun args w c => unL [.ag, .ag, (.i .i64), (.i .i64)] args fun x => ring_Ring_Copy x.1 x.2.1 x.2.2.1 x.2.2.2 w fun r w => c (packV (valL [.p, (.i .i64)] r)) w)), (n_ring_Ring_Size, (fun args w c => unL [.ag] args fun x => ring_Ring_Size x w fun r w => c (packV (valL [(.i .i64)] r)) w)), (n_pelotonlaw09_awake, (fun args w c => unL [] args fun x => pelotonlaw09_awake  w fun r w => c (packV (valL [.b] r)) w))]) 2597416157238894517017410558623736 [(5, [(54, .b)]), (11, [(86, .b)])] Go.Proofs.Try.f6 [.b] (valL [.ag, .ag, .ag] x) w k = pelotonlaw09_RingNil_b ring_New cells_New ring_Copy_Step ring_Ring_Copy ring_Ring_Size pelotonlaw09_awake x.1 x.2.1 x.2.2 w k := by kernel_rfl
def pelotonlaw09_RingNil (two_0 : Array Value) (span_1 : Array Value) (o_2 : Array Value) (w : World) (k : (Bool) → World → Prop) : Prop := pelotonlaw09_RingNil_b ring_New cells_New ring_Copy_Step ring_Ring_Copy ring_Ring_Size pelotonlaw09_awake two_0 span_1 o_2 w k
def d_pelotonlaw09_RingNil : Dec := fun args w c => unL [.ag, .ag, .ag] args fun x => pelotonlaw09_RingNil x.1 x.2.1 x.2.2 w fun r w => c (packV (valL [.b] r)) w
theorem s_pelotonlaw09_RingNil : Sound Go.Proofs.Try.prog n_pelotonlaw09_RingNil d_pelotonlaw09_RingNil :=
  sound_of (mask := 2597416157238894517017410558623736) (h := [(5, [(54, .b)]), (11, [(86, .b)])]) (ds := [(n_ring_New, d_ring_New), (n_cells_New, d_cells_New), (n_ring_Copy_Step, d_ring_Copy_Step), (n_ring_Ring_Copy, d_ring_Ring_Copy), (n_ring_Ring_Size, d_ring_Ring_Size), (n_pelotonlaw09_awake, d_pelotonlaw09_awake)]) mixed Go.Proofs.Try.func6 ⟨s_ring_New, s_cells_New, s_ring_Copy_Step, s_ring_Ring_Copy, s_ring_Ring_Size, s_pelotonlaw09_awake, trivial⟩
    [.ag, .ag, .ag] [.b] (by kernel_rfl) (fun x w k => pelotonlaw09_RingNil x.1 x.2.1 x.2.2 w k) (fun x w k => e_pelotonlaw09_RingNil ring_New cells_New ring_Copy_Step ring_Ring_Copy ring_Ring_Size pelotonlaw09_awake x w k)

/-- peloton/pelotonref09.Begin -/
def pelotonref09_Begin_b (pelotonref09_Right : Array Value → World → ((Bool) → World → Prop) → Prop) (pelotonref09_Size : Array Value → World → ((Int) → World → Prop) → Prop) (a_0 : Array Value) (b_1 : Array Value) (from_2 : Int) (until_3 : Int) (w : World) (k : (Option Addr × Int) → World → Prop) : Prop :=
  newC w a_0 25 fun a1 w2 =>
  newC w2 b_1 25 fun a3 w4 =>
  joinP (S := Bool) (fun J5 =>
    ldA 2 w4 a1 fun cs6 =>
    pelotonref09_Right cs6 w4 fun b7 w8 =>
    iteB (!b7) (
      (J5 true w8)) (
      ldA 2 w8 a3 fun cs9 =>
      pelotonref09_Right cs9 w8 fun b10 w11 =>
      (J5 (!b10) w11))) fun b12 w13 =>
  iteB b12 (
    (k (none, (1 : Int)) w13)) (
    iteB (decide (until_3 < from_2)) (
      (k (none, (10 : Int)) w13)) (
      joinP (S := Bool) (fun J14 =>
        ldA 2 w13 a1 fun cs15 =>
        pelotonref09_Size cs15 w13 fun i16 w17 =>
        iteB (decide ((IntKind.wrap .u64 ((IntKind.wrap .u64 until_3) - (IntKind.wrap .u64 from_2))) > (IntKind.wrap .u64 i16))) (
          (J14 true w17)) (
          ldA 2 w17 a3 fun cs18 =>
          pelotonref09_Size cs18 w17 fun i19 w20 =>
          (J14 (decide ((IntKind.wrap .u64 ((IntKind.wrap .u64 until_3) - (IntKind.wrap .u64 from_2))) > (IntKind.wrap .u64 i19))) w20))) fun b21 w22 =>
      iteB b21 (
        (k (none, (10 : Int)) w22)) (
        ldA 2 w22 a1 fun cs23 =>
        ldA 2 w22 a3 fun cs24 =>
        spl #[(.int .i64 (0 : Int)), (.int .i64 (0 : Int)), (.int .i64 (0 : Int)), (.int .i64 (0 : Int)), (.int .i64 (0 : Int)), (.int .i64 (0 : Int)), (.bool false), (.int .i64 (0 : Int))] 0 2 cs23 fun cs25 =>
        spl cs25 2 2 cs24 fun cs26 =>
        newC w22 (Array.setIfInBounds (Array.setIfInBounds cs26 4 (.int .i64 from_2)) 5 (.int .i64 until_3)) 85 fun a27 w28 =>
        (k ((some a27), (0 : Int)) w28))))
theorem e_pelotonref09_Begin (pelotonref09_Right : Array Value → World → ((Bool) → World → Prop) → Prop) (pelotonref09_Size : Array Value → World → ((Int) → World → Prop) → Prop) (x : KT [.ag, .ag, (.i .i64), (.i .i64)]) (w : World) (k : KT [.p, (.i .i64)] → World → Prop) : evFn Go.Proofs.Try.prog (orcOf [(n_pelotonref09_Right, (fun args w c => unL [.ag] args fun x => pelotonref09_Right x w fun r w => c (packV (valL [.b] r)) w)), (n_pelotonref09_Size, (fun args w c => unL [.ag] args fun x => pelotonref09_Size x w fun r w => c (packV (valL [(.i .i64)] r)) w))]) 274880268092 [(1, [(18, .b)]), (8, [(38, .b)])] Go.Proofs.Try.f24 [.p, (.i .i64)] (valL [.ag, .ag, (.i .i64), (.i .i64)] x) w k = pelotonref09_Begin_b pelotonref09_Right pelotonref09_Size x.1 x.2.1 x.2.2.1 x.2.2.2 w k := by kernel_rfl
def pelotonref09_Begin (a_0 : Array Value) (b_1 : Array Value) (from_2 : Int) (until_3 : Int) (w : World) (k : (Option Addr × Int) → World → Prop) : Prop := pelotonref09_Begin_b pelotonref09_Right pelotonref09_Size a_0 b_1 from_2 until_3 w k
def d_pelotonref09_Begin : Dec := fun args w c => unL [.ag, .ag, (.i .i64), (.i .i64)] args fun x => pelotonref09_Begin x.1 x.2.1 x.2.2.1 x.2.2.2 w fun r w => c (packV (valL [.p, (.i .i64)] r)) w
theorem s_pelotonref09_Begin : Sound Go.Proofs.Try.prog n_pelotonref09_Begin d_pelotonref09_Begin :=
  sound_of (mask := 274880268092) (h := [(1, [(18, .b)]), (8, [(38, .b)])]) (ds := [(n_pelotonref09_Right, d_pelotonref09_Right), (n_pelotonref09_Size, d_pelotonref09_Size)]) mixed Go.Proofs.Try.func24 ⟨s_pelotonref09_Right, s_pelotonref09_Size, trivial⟩
    [.ag, .ag, (.i .i64), (.i .i64)] [.p, (.i .i64)] (by kernel_rfl) (fun x w k => pelotonref09_Begin x.1 x.2.1 x.2.2.1 x.2.2.2 w k) (fun x w k => e_pelotonref09_Begin pelotonref09_Right pelotonref09_Size x w k)

/-- (*peloton/pelotonref09.Copy).Step -/
def pelotonref09_Copy_Step_b (pelotonref09_Place : Array Value → Int → World → ((Int) → World → Prop) → Prop) (c_0 : Option Addr) (cells_1 : Sl) (w_2 : Int) (most_3 : Int) (w : World) (k : (Bool × Bool × Int) → World → Prop) : Prop :=
  drew w fun w1 =>
  nn c_0 fun a2 =>
  ldI .i64 w1 (Addr.add a2 4) fun i3 =>
  nn c_0 fun a4 =>
  ldI .i64 w1 (Addr.add a4 5) fun i5 =>
  iteB (i3 == i5) (
    (k (true, (false, (0 : Int))) w1)) (
    drew w1 fun w6 =>
    nn c_0 fun a7 =>
    ldA 2 w6 (Addr.add a7 0) fun cs8 =>
    nn c_0 fun a9 =>
    ldI .i64 w6 (Addr.add a9 4) fun i10 =>
    pelotonref09_Place cs8 i10 w6 fun i11 w12 =>
    nn c_0 fun a13 =>
    ldB w12 (Addr.add a13 6) fun b14 =>
    joinP (S := Int) (fun J15 =>
      iteB b14 (
        drew w12 fun w16 =>
        nn c_0 fun a17 =>
        ldA 2 w16 (Addr.add a17 2) fun cs18 =>
        nn c_0 fun a19 =>
        ldI .i64 w16 (Addr.add a19 4) fun i20 =>
        pelotonref09_Place cs18 i20 w16 fun i21 w22 =>
        (J15 i21 w22)) (
        (J15 i11 w12))) fun i23 w24 =>
    iteB (((decide (w_2 < (0 : Int))) || (decide (w_2 > most_3))) || (decide (i23 ≥ ((cells_1.n : Nat) : Int)))) (
      (k (false, (false, (10 : Int))) w24)) (
      nn c_0 fun a25 =>
      ldB w24 (Addr.add a25 6) fun b26 =>
      iteB (!b26) (
        ixS cells_1 i23 1 fun a27 =>
        ldI .i64 w24 a27 fun i28 =>
        nn c_0 fun a29 =>
        stC w24 (Addr.add a29 7) (.int .i64 i28) fun w30 =>
        nn c_0 fun a31 =>
        stC w30 (Addr.add a31 6) (.bool true) fun w32 =>
        (k (false, (true, (0 : Int))) w32)) (
        nn c_0 fun a33 =>
        ldI .i64 w24 (Addr.add a33 7) fun i34 =>
        ixS cells_1 i23 1 fun a35 =>
        stC w24 a35 (.int .i64 i34) fun w36 =>
        nn c_0 fun a37 =>
        stC w36 (Addr.add a37 6) (.bool false) fun w38 =>
        nn c_0 fun a39 =>
        ldI .i64 w38 (Addr.add a39 4) fun i40 =>
        nn c_0 fun a41 =>
        stC w38 (Addr.add a41 4) (.int .i64 (IntKind.wrap .i64 (i40 + (1 : Int)))) fun w42 =>
        drew w42 fun w43 =>
        nn c_0 fun a44 =>
        ldI .i64 w43 (Addr.add a44 4) fun i45 =>
        nn c_0 fun a46 =>
        ldI .i64 w43 (Addr.add a46 5) fun i47 =>
        (k ((i45 == i47), (true, (0 : Int))) w43))))
theorem e_pelotonref09_Copy_Step (pelotonref09_Place : Array Value → Int → World → ((Int) → World → Prop) → Prop) (x : KT [.p, .s, (.i .i64), (.i .i64)]) (w : World) (k : KT [.b, .b, (.i .i64)] → World → Prop) : evFn Go.Proofs.Try.prog (orcOf [(n_pelotonref09_Place, (fun args w c => unL [.ag, (.i .i64)] args fun x => pelotonref09_Place x.1 x.2 w fun r w => c (packV (valL [(.i .i64)] r)) w))]) 1188950310216797967 [(6, [(11, (.i .i64))])] Go.Proofs.Try.f26 [.b, .b, (.i .i64)] (valL [.p, .s, (.i .i64), (.i .i64)] x) w k = pelotonref09_Copy_Step_b pelotonref09_Place x.1 x.2.1 x.2.2.1 x.2.2.2 w k := by kernel_rfl
def pelotonref09_Copy_Step (c_0 : Option Addr) (cells_1 : Sl) (w_2 : Int) (most_3 : Int) (w : World) (k : (Bool × Bool × Int) → World → Prop) : Prop := pelotonref09_Copy_Step_b pelotonref09_Place c_0 cells_1 w_2 most_3 w k
def d_pelotonref09_Copy_Step : Dec := fun args w c => unL [.p, .s, (.i .i64), (.i .i64)] args fun x => pelotonref09_Copy_Step x.1 x.2.1 x.2.2.1 x.2.2.2 w fun r w => c (packV (valL [.b, .b, (.i .i64)] r)) w
theorem s_pelotonref09_Copy_Step : Sound Go.Proofs.Try.prog n_pelotonref09_Copy_Step d_pelotonref09_Copy_Step :=
  sound_of (mask := 1188950310216797967) (h := [(6, [(11, (.i .i64))])]) (ds := [(n_pelotonref09_Place, d_pelotonref09_Place)]) mixed Go.Proofs.Try.func26 ⟨s_pelotonref09_Place, trivial⟩
    [.p, .s, (.i .i64), (.i .i64)] [.b, .b, (.i .i64)] (by kernel_rfl) (fun x w k => pelotonref09_Copy_Step x.1 x.2.1 x.2.2.1 x.2.2.2 w k) (fun x w k => e_pelotonref09_Copy_Step pelotonref09_Place x w k)

/-- (*peloton/cells.Machine).Steps -/
def cells_Machine_Steps_b (cells_Machine_caller : Option Addr → Int → World → ((Bool) → World → Prop) → Prop) (m_0 : Option Addr) (w_1 : Int) (w : World) (k : (Int) → World → Prop) : Prop :=
  joinP (S := Bool) (fun J1 =>
    iteB (Option.isNone m_0) (
      (J1 true w)) (
      cells_Machine_caller m_0 w_1 w fun b2 w3 =>
      (J1 (!b2) w3))) fun b4 w5 =>
  iteB b4 (
    (k (0 : Int) w5)) (
    nn m_0 fun a6 =>
    ldS w5 (Addr.add a6 2) fun s7 =>
    ixS s7 w_1 1 fun a8 =>
    ldI .i64 w5 a8 fun i9 =>
    (k i9 w5))
theorem e_cells_Machine_Steps (cells_Machine_caller : Option Addr → Int → World → ((Bool) → World → Prop) → Prop) (x : KT [.p, (.i .i64)]) (w : World) (k : KT [(.i .i64)] → World → Prop) : evFn Go.Proofs.Try.prog (orcOf [(n_cells_Machine_caller, (fun args w c => unL [.p, (.i .i64)] args fun x => cells_Machine_caller x.1 x.2 w fun r w => c (packV (valL [.b] r)) w))]) 4115 [(1, [(12, .b)])] Go.Proofs.Try.f28 [(.i .i64)] (valL [.p, (.i .i64)] x) w k = cells_Machine_Steps_b cells_Machine_caller x.1 x.2 w k := by kernel_rfl
def cells_Machine_Steps (m_0 : Option Addr) (w_1 : Int) (w : World) (k : (Int) → World → Prop) : Prop := cells_Machine_Steps_b cells_Machine_caller m_0 w_1 w k
def d_cells_Machine_Steps : Dec := fun args w c => unL [.p, (.i .i64)] args fun x => cells_Machine_Steps x.1 x.2 w fun r w => c (packV (valL [(.i .i64)] r)) w
theorem s_cells_Machine_Steps : Sound Go.Proofs.Try.prog n_cells_Machine_Steps d_cells_Machine_Steps :=
  sound_of (mask := 4115) (h := [(1, [(12, .b)])]) (ds := [(n_cells_Machine_caller, d_cells_Machine_caller)]) mixed Go.Proofs.Try.func28 ⟨s_cells_Machine_caller, trivial⟩
    [.p, (.i .i64)] [(.i .i64)] (by kernel_rfl) (fun x w k => cells_Machine_Steps x.1 x.2 w k) (fun x w k => e_cells_Machine_Steps cells_Machine_caller x w k)

/-- peloton/pelotonlaw09.RingCopies -/
def pelotonlaw09_RingCopies_b (cells_New : Int → Int → World → ((Option Addr × Int) → World → Prop) → Prop) (cells_Machine_Alloc : Option Addr → Int → Int → World → ((Int × Int) → World → Prop) → Prop) (ring_Ring_Copy : Array Value → Array Value → Int → Int → World → ((Option Addr × Int) → World → Prop) → Prop) (pelotonref09_Begin : Array Value → Array Value → Int → Int → World → ((Option Addr × Int) → World → Prop) → Prop) (pelotonlaw09_awake : World → ((Bool) → World → Prop) → Prop) (cells_Machine_Store : Option Addr → Int → Int → Int → World → ((Int) → World → Prop) → Prop) (ring_Copy_Step : Option Addr → Option Addr → Int → World → ((Bool × Int) → World → Prop) → Prop) (pelotonref09_Copy_Step : Option Addr → Sl → Int → Int → World → ((Bool × Bool × Int) → World → Prop) → Prop) (cells_Machine_Peek : Option Addr → Int → World → ((Int) → World → Prop) → Prop) (cells_Machine_Steps : Option Addr → Int → World → ((Int) → World → Prop) → Prop) (two_0 : Array Value) (span_1 : Array Value) (l_2 : Sl) (w : World) (k : (Bool) → World → Prop) : Prop :=
  newC w two_0 41 fun a1 w2 =>
  newC w2 span_1 42 fun a3 w4 =>
  cells_New (40 : Int) (2 : Int) w4 fun x5 w6 =>
  iteB (x5.2 != (0 : Int)) (
    (k false w6)) (
    cells_Machine_Alloc x5.1 (2 : Int) (40 : Int) w6 fun x7 w8 =>
    iteB (x7.2 != (0 : Int)) (
      (k false w8)) (
      ldI .i64 w8 (Addr.add (Addr.add a1 0) 0) fun i9 =>
      ldI .i64 w8 (Addr.add (Addr.add a1 0) 1) fun i10 =>
      newC w8 #[(.int .i64 (0 : Int)), (.int .i64 (0 : Int))] 24 fun a11 w12 =>
      stA 2 w12 a11 #[(.int .i64 i9), (.int .i64 i10)] fun w13 =>
      ldI .i64 w13 (Addr.add (Addr.add a1 2) 0) fun i14 =>
      ldI .i64 w13 (Addr.add (Addr.add a1 2) 1) fun i15 =>
      newC w13 #[(.int .i64 (0 : Int)), (.int .i64 (0 : Int))] 24 fun a16 w17 =>
      stA 2 w17 a16 #[(.int .i64 i14), (.int .i64 i15)] fun w18 =>
      ldA 2 w18 a11 fun cs19 =>
      ldA 2 w18 a16 fun cs20 =>
      ldI .i64 w18 (Addr.add a3 0) fun i21 =>
      ldI .i64 w18 (Addr.add a3 1) fun i22 =>
      ring_Ring_Copy cs19 cs20 i21 i22 w18 fun x23 w24 =>
      ldI .i64 w24 (Addr.add (Addr.add a1 0) 0) fun i25 =>
      ldI .i64 w24 (Addr.add (Addr.add a1 0) 1) fun i26 =>
      ldI .i64 w24 (Addr.add (Addr.add a1 2) 0) fun i27 =>
      ldI .i64 w24 (Addr.add (Addr.add a1 2) 1) fun i28 =>
      ldI .i64 w24 (Addr.add a3 0) fun i29 =>
      ldI .i64 w24 (Addr.add a3 1) fun i30 =>
      pelotonref09_Begin #[(.int .i64 i25), (.int .i64 i26)] #[(.int .i64 i27), (.int .i64 i28)] i29 i30 w24 fun x31 w32 =>
      iteB (x23.2 != x31.2) (
        (k false w32)) (
        iteB ((x31.2 != (0 : Int)) || (decide (((l_2.n : Nat) : Int) > (300 : Int)))) (
          iteB ((x31.2 == (0 : Int)) || (Option.isNone x23.1)) (
            pelotonlaw09_awake  w32 fun b33 w34 =>
            (k b33 w34)) (
            (k false w32))) (
          mkSl Go.Proofs.Try.prog 61 (.int .i64 (40 : Int)) (.int .i64 (40 : Int)) w32 fun s35 w36 =>
          loopP (S := (Int × Int)) (fun C37 x38 w39 =>
            iteB (decide (x38.2 < ((l_2.n : Nat) : Int))) (
              ixS l_2 x38.2 4 fun a40 =>
              ldI .i64 w39 (Addr.add a40 0) fun i41 =>
              joinP (S := Int) (fun J42 =>
                iteB (i41 != (0 : Int)) (
                  ixS l_2 x38.2 4 fun a43 =>
                  ldI .i64 w39 (Addr.add a43 2) fun i44 =>
                  ixS l_2 x38.2 4 fun a45 =>
                  ldI .i64 w39 (Addr.add a45 3) fun i46 =>
                  cells_Machine_Store x5.1 (2 : Int) (remV (IntKind.wrap .i64 ((remV i44 (40 : Int)) + (40 : Int))) (40 : Int)) i46 w39 fun i47 w48 =>
                  iteB (i47 != (0 : Int)) (
                    (k false w48)) (
                    ixS l_2 x38.2 4 fun a49 =>
                    ldI .i64 w48 (Addr.add a49 3) fun i50 =>
                    ixS s35 (remV (IntKind.wrap .i64 ((remV i44 (40 : Int)) + (40 : Int))) (40 : Int)) 1 fun a51 =>
                    stC w48 a51 (.int .i64 i50) fun w52 =>
                    (J42 (IntKind.wrap .i64 (x38.1 + (1 : Int))) w52))) (
                  ixS l_2 x38.2 4 fun a53 =>
                  ldI .i64 w39 (Addr.add a53 1) fun i54 =>
                  ring_Copy_Step x23.1 x5.1 i54 w39 fun x55 w56 =>
                  ixS l_2 x38.2 4 fun a57 =>
                  ldI .i64 w56 (Addr.add a57 1) fun i58 =>
                  pelotonref09_Copy_Step x31.1 s35 i58 (2 : Int) w56 fun x59 w60 =>
                  iteB ((!(x55.1 == x59.1)) || (x55.2 != x59.2.2)) (
                    (k false w60)) (
                    iteB x59.2.1 (
                      (J42 (IntKind.wrap .i64 (x38.1 + (1 : Int))) w60)) (
                      (J42 x38.1 w60))))) fun i61 w62 =>
              joinP (S := Unit) (fun J63 =>
                loopP (S := Int) (fun C64 i65 w66 =>
                  iteB (decide (i65 < (40 : Int))) (
                    drew w66 fun w67 =>
                    ixS s35 i65 1 fun a68 =>
                    ldI .i64 w67 a68 fun i69 =>
                    cells_Machine_Peek x5.1 i65 w67 fun i70 w71 =>
                    samec 1 a68 w67 w71 (
                    iteB (i70 != i69) (
                      (k false w71)) (
                      (C64 (IntKind.wrap .i64 (i65 + (1 : Int))) w71)))) (
                    (J63 () w66))) (0 : Int) w62) fun u72 w73 =>
              cells_Machine_Steps x5.1 (0 : Int) w73 fun i74 w75 =>
              cells_Machine_Steps x5.1 (1 : Int) w75 fun i76 w77 =>
              cells_Machine_Steps x5.1 (2 : Int) w77 fun i78 w79 =>
              iteB ((IntKind.wrap .i64 ((IntKind.wrap .i64 (i74 + i76)) + i78)) != i61) (
                (k false w79)) (
                (C37 (i61, (IntKind.wrap .i64 (x38.2 + (1 : Int)))) w79))) (
              pelotonlaw09_awake  w39 fun b80 w81 =>
              (k b80 w81))) ((1 : Int), (0 : Int)) w36))))
theorem e_pelotonlaw09_RingCopies (cells_New : Int → Int → World → ((Option Addr × Int) → World → Prop) → Prop) (cells_Machine_Alloc : Option Addr → Int → Int → World → ((Int × Int) → World → Prop) → Prop) (ring_Ring_Copy : Array Value → Array Value → Int → Int → World → ((Option Addr × Int) → World → Prop) → Prop) (pelotonref09_Begin : Array Value → Array Value → Int → Int → World → ((Option Addr × Int) → World → Prop) → Prop) (pelotonlaw09_awake : World → ((Bool) → World → Prop) → Prop) (cells_Machine_Store : Option Addr → Int → Int → Int → World → ((Int) → World → Prop) → Prop) (ring_Copy_Step : Option Addr → Option Addr → Int → World → ((Bool × Int) → World → Prop) → Prop) (pelotonref09_Copy_Step : Option Addr → Sl → Int → Int → World → ((Bool × Bool × Int) → World → Prop) → Prop) (cells_Machine_Peek : Option Addr → Int → World → ((Int) → World → Prop) → Prop) (cells_Machine_Steps : Option Addr → Int → World → ((Int) → World → Prop) → Prop) (x : KT [.ag, .ag, .s]) (w : World) (k : KT [.b] → World → Prop) : evFn Go.Proofs.Try.prog (orcOf [(n_cells_New, (fun args w c => unL [(.i .i64), (.i .i64)] args fun x => cells_New x.1 x.2 w fun r w => c (packV (valL [.p, (.i .i64)] r)) w)), (n_cells_Machine_Alloc, (fun args w c => unL [.p, (.i .i64), (.i .i64)] args fun x => cells_Machine_Alloc x.1 x.2.1 x.2.2 w fun r w => c (packV (valL [(.i .i64), (.i .i64)] r)) w)), (n_ring_Ring_Copy, (fun args w c => unL [.ag, .ag, (.i .i64), (.i .i64)] args fun x => ring_Ring_Copy x.1 x.2.1 x.2.2.1 x.2.2.2 w fun r w => c (packV (valL [.p, (.i .i64)] r)) w)), (n_pelotonref09_Begin, (fun args w c => unL [.ag, .ag, (.i .i64), (.i .i64)] args fun x => pelotonref09_Begin x.1 x.2.1 x.2.2.1 x.2.2.2 w fun r w => c (packV (valL [.p, (.i .i64)] r)) w)), (n_pelotonlaw09_awake, (fun args w c => unL [] args fun x => pelotonlaw09_awake  w fun r w => c (packV (valL [.b] r)) w)), (n_cells_Machine_Store, (fun args w c => unL [.p, (.i .i64), (.i .i64), (.i .i64)] args fun x => cells_Machine_Store x.1 x.2.1 x.2.2.1 x.2.2.2 w fun r w => c (packV (valL [(.i .i64)] r)) w)), (n_ring_Copy_Step, (fun args w c => unL [.p, .p, (.i .i64)] args fun x => ring_Copy_Step x.1 x.2.1 x.2.2 w fun r w => c (packV (valL [.b, (.i .i64)] r)) w)), (n_pelotonref09_Copy_Step, (fun args w c => unL [.p, .s, (.i .i64), (.i .i64)] args fun x => pelotonref09_Copy_Step x.1 x.2.1 x.2.2.1 x.2.2.2 w fun r w => c (packV (valL [.b, .b, (.i .i64)] r)) w)), (n_cells_Machine_Peek, (fun args w c => unL [.p, (.i .i64)] args fun x => cells_Machine_Peek x.1 x.2 w fun r w => c (packV (valL [(.i .i64)] r)) w)), (n_cells_Machine_Steps, (fun args w c => unL [.p, (.i .i64)] args fun x => cells_Machine_Steps x.1 x.2 w fun r w => c (packV (valL [(.i .i64)] r)) w))]) 402127248964958691955159526856135507609039665143017788932060 [(23, [(16, (.i .i64)), (17, (.i .i64))]), (28, [(16, (.i .i64))]), (44, []), (45, [(24, (.i .i64))])] Go.Proofs.Try.f7 [.b] (valL [.ag, .ag, .s] x) w k = pelotonlaw09_RingCopies_b cells_New cells_Machine_Alloc ring_Ring_Copy pelotonref09_Begin pelotonlaw09_awake cells_Machine_Store ring_Copy_Step pelotonref09_Copy_Step cells_Machine_Peek cells_Machine_Steps x.1 x.2.1 x.2.2 w k := by kernel_rfl
def pelotonlaw09_RingCopies (two_0 : Array Value) (span_1 : Array Value) (l_2 : Sl) (w : World) (k : (Bool) → World → Prop) : Prop := pelotonlaw09_RingCopies_b cells_New cells_Machine_Alloc ring_Ring_Copy pelotonref09_Begin pelotonlaw09_awake cells_Machine_Store ring_Copy_Step pelotonref09_Copy_Step cells_Machine_Peek cells_Machine_Steps two_0 span_1 l_2 w k
def d_pelotonlaw09_RingCopies : Dec := fun args w c => unL [.ag, .ag, .s] args fun x => pelotonlaw09_RingCopies x.1 x.2.1 x.2.2 w fun r w => c (packV (valL [.b] r)) w
theorem s_pelotonlaw09_RingCopies : Sound Go.Proofs.Try.prog n_pelotonlaw09_RingCopies d_pelotonlaw09_RingCopies :=
  sound_of (mask := 402127248964958691955159526856135507609039665143017788932060) (h := [(23, [(16, (.i .i64)), (17, (.i .i64))]), (28, [(16, (.i .i64))]), (44, []), (45, [(24, (.i .i64))])]) (ds := [(n_cells_New, d_cells_New), (n_cells_Machine_Alloc, d_cells_Machine_Alloc), (n_ring_Ring_Copy, d_ring_Ring_Copy), (n_pelotonref09_Begin, d_pelotonref09_Begin), (n_pelotonlaw09_awake, d_pelotonlaw09_awake), (n_cells_Machine_Store, d_cells_Machine_Store), (n_ring_Copy_Step, d_ring_Copy_Step), (n_pelotonref09_Copy_Step, d_pelotonref09_Copy_Step), (n_cells_Machine_Peek, d_cells_Machine_Peek), (n_cells_Machine_Steps, d_cells_Machine_Steps)]) mixed Go.Proofs.Try.func7 ⟨s_cells_New, s_cells_Machine_Alloc, s_ring_Ring_Copy, s_pelotonref09_Begin, s_pelotonlaw09_awake, s_cells_Machine_Store, s_ring_Copy_Step, s_pelotonref09_Copy_Step, s_cells_Machine_Peek, s_cells_Machine_Steps, trivial⟩
    [.ag, .ag, .s] [.b] (by kernel_rfl) (fun x w k => pelotonlaw09_RingCopies x.1 x.2.1 x.2.2 w k) (fun x w k => e_pelotonlaw09_RingCopies cells_New cells_Machine_Alloc ring_Ring_Copy pelotonref09_Begin pelotonlaw09_awake cells_Machine_Store ring_Copy_Step pelotonref09_Copy_Step cells_Machine_Peek cells_Machine_Steps x w k)

/-- (*peloton/cells.Machine).Used -/
def cells_Machine_Used (m_0 : Option Addr) (w : World) (k : (Int) → World → Prop) : Prop :=
  iteB (Option.isNone m_0) (
    (k (0 : Int) w)) (
    nn m_0 fun a1 =>
    ldS w (Addr.add a1 0) fun s2 =>
    (k ((s2.n : Nat) : Int) w))
def d_cells_Machine_Used : Dec := fun args w c => unL [.p] args fun x => cells_Machine_Used x w fun r w => c (packV (valL [(.i .i64)] r)) w
theorem s_cells_Machine_Used : Sound Go.Proofs.Try.prog n_cells_Machine_Used d_cells_Machine_Used :=
  sound_of (mask := 21) (h := []) (ds := []) mixed Go.Proofs.Try.func29 trivial
    [.p] [(.i .i64)] (by kernel_rfl) (fun x w k => cells_Machine_Used x w k) (fun x w k => by kernel_rfl)

/-- peloton/pelotonlaw09.RingNew -/
def pelotonlaw09_RingNew_b (pelotonlaw09_awake : World → ((Bool) → World → Prop) → Prop) (cells_New : Int → Int → World → ((Option Addr × Int) → World → Prop) → Prop) (ring_New : Option Addr → Int → Int → World → ((Array Value × Int) → World → Prop) → Prop) (pelotonref09_Size : Array Value → World → ((Int) → World → Prop) → Prop) (ring_Ring_Size : Array Value → World → ((Int) → World → Prop) → Prop) (cells_Machine_Used : Option Addr → World → ((Int) → World → Prop) → Prop) (cells_Machine_Steps : Option Addr → Int → World → ((Int) → World → Prop) → Prop) (size_0 : Int) (l_1 : Sl) (w : World) (k : (Bool) → World → Prop) : Prop :=
  iteB (((decide (size_0 < (1 : Int))) || (decide (size_0 > (2000 : Int)))) || (decide (((l_1.n : Nat) : Int) > (100 : Int)))) (
    pelotonlaw09_awake  w fun b1 w2 =>
    (k b1 w2)) (
    cells_New size_0 (3 : Int) w fun x3 w4 =>
    iteB (x3.2 != (0 : Int)) (
      (k false w4)) (
      loopP (S := (Int × (Int × Int))) (fun C5 x6 w7 =>
        iteB (decide (x6.2.2 < ((l_1.n : Nat) : Int))) (
          joinP (S := (Addr × Int)) (fun J8 =>
            drew w7 fun w9 =>
            ixS l_1 x6.2.2 2 fun a10 =>
            ldI .i64 w9 (Addr.add a10 0) fun i11 =>
            ixS l_1 x6.2.2 2 fun a12 =>
            ldI .i64 w9 (Addr.add a12 1) fun i13 =>
            both (
              ring_New x3.1 i11 i13 w9 fun x14 w15 =>
              newC w15 #[(.int .i64 (0 : Int)), (.int .i64 (0 : Int))] 24 fun a16 w17 =>
              samec 1 (Addr.add a12 1) w9 w17 (
              samec 1 (Addr.add a10 0) w9 w17 (
              stA 2 w17 a16 x14.1 fun w18 =>
              (J8 (a16, x14.2) w18)))) (
              newC w9 #[(.int .i64 (0 : Int)), (.int .i64 (0 : Int))] 24 fun a19 w20 =>
              samec 1 (Addr.add a12 1) w9 w20 (
              samec 1 (Addr.add a10 0) w9 w20 (
              ring_New x3.1 i11 i13 w20 fun x21 w22 =>
              stA 2 w22 a19 x21.1 fun w23 =>
              (J8 (a19, x21.2) w23))))) fun x24 w25 =>
          ixS l_1 x6.2.2 2 fun a26 =>
          ldI .i64 w25 (Addr.add a26 1) fun i27 =>
          pelotonref09_Size #[(.int .i64 (0 : Int)), (.int .i64 i27)] w25 fun i28 w29 =>
          joinP (S := Bool) (fun J30 =>
            iteB (i28 == (0 : Int)) (
              (J30 true w29)) (
              ixS l_1 x6.2.2 2 fun a31 =>
              ldI .i64 w29 (Addr.add a31 0) fun i32 =>
              iteB (decide (i32 < (0 : Int))) (
                (J30 true w29)) (
                ixS l_1 x6.2.2 2 fun a33 =>
                ldI .i64 w29 (Addr.add a33 0) fun i34 =>
                (J30 (decide (i34 > (3 : Int))) w29)))) fun b35 w36 =>
          joinP (S := Int) (fun J37 =>
            iteB b35 (
              (J37 (10 : Int) w36)) (
              iteB (decide (i28 > (IntKind.wrap .i64 (size_0 - x6.1)))) (
                (J37 (21 : Int) w36)) (
                (J37 (0 : Int) w36)))) fun i38 w39 =>
          iteB (x24.2 != i38) (
            (k false w39)) (
            joinP (S := (Int × Int)) (fun J40 =>
              iteB (i38 != (0 : Int)) (
                ldA 2 w39 x24.1 fun cs41 =>
                eqA ([(0, 0)] ++ ([(1, 0)] ++ [])) cs41 #[(.int .i64 (0 : Int)), (.int .i64 (0 : Int))] fun b42 =>
                iteB (!b42) (
                  (k false w39)) (
                  (J40 (x6.1, x6.2.1) w39))) (
                joinP (S := Bool) (fun J43 =>
                  drew w39 fun w44 =>
                  ldA 2 w44 x24.1 fun cs45 =>
                  ixS l_1 x6.2.2 2 fun a46 =>
                  ldI .i64 w44 (Addr.add a46 1) fun i47 =>
                  samec 2 x24.1 w44 w44 (
                  eqA ([(0, 0)] ++ ([(1, 0)] ++ [])) cs45 #[(.int .i64 x6.1), (.int .i64 i47)] fun b48 =>
                  iteB (!b48) (
                    (J43 true w44)) (
                    ldA 2 w44 x24.1 fun cs49 =>
                    ring_Ring_Size cs49 w44 fun i50 w51 =>
                    (J43 (i50 != i28) w51)))) fun b52 w53 =>
                iteB b52 (
                  (k false w53)) (
                  (J40 ((IntKind.wrap .i64 (x6.1 + i28)), (IntKind.wrap .i64 (x6.2.1 + (1 : Int)))) w53)))) fun x54 w55 =>
            joinP (S := Bool) (fun J56 =>
              cells_Machine_Used x3.1 w55 fun i57 w58 =>
              iteB (i57 != x54.1) (
                (J56 true w58)) (
                cells_Machine_Steps x3.1 (0 : Int) w58 fun i59 w60 =>
                cells_Machine_Steps x3.1 (1 : Int) w60 fun i61 w62 =>
                cells_Machine_Steps x3.1 (2 : Int) w62 fun i63 w64 =>
                cells_Machine_Steps x3.1 (3 : Int) w64 fun i65 w66 =>
                (J56 ((IntKind.wrap .i64 ((IntKind.wrap .i64 ((IntKind.wrap .i64 (i59 + i61)) + i63)) + i65)) != x54.2) w66))) fun b67 w68 =>
            iteB b67 (
              (k false w68)) (
              (C5 (x54.1, (x54.2, (IntKind.wrap .i64 (x6.2.2 + (1 : Int))))) w68)))) (
          pelotonlaw09_awake  w7 fun b69 w70 =>
          (k b69 w70))) ((0 : Int), ((0 : Int), (0 : Int))) w4))
theorem e_pelotonlaw09_RingNew (pelotonlaw09_awake : World → ((Bool) → World → Prop) → Prop) (cells_New : Int → Int → World → ((Option Addr × Int) → World → Prop) → Prop) (ring_New : Option Addr → Int → Int → World → ((Array Value × Int) → World → Prop) → Prop) (pelotonref09_Size : Array Value → World → ((Int) → World → Prop) → Prop) (ring_Ring_Size : Array Value → World → ((Int) → World → Prop) → Prop) (cells_Machine_Used : Option Addr → World → ((Int) → World → Prop) → Prop) (cells_Machine_Steps : Option Addr → Int → World → ((Int) → World → Prop) → Prop) (x : KT [(.i .i64), .s]) (w : World) (k : KT [.b] → World → Prop) : evFn Go.Proofs.Try.prog (orcOf [(n_pelotonlaw09_awake, (fun args w c => unL [] args fun x => pelotonlaw09_awake  w fun r w => c (packV (valL [.b] r)) w)), (n_cells_New, (fun args w c => unL [(.i .i64), (.i .i64)] args fun x => cells_New x.1 x.2 w fun r w => c (packV (valL [.p, (.i .i64)] r)) w)), (n_ring_New, (fun args w c => unL [.p, (.i .i64), (.i .i64)] args fun x => ring_New x.1 x.2.1 x.2.2 w fun r w => c (packV (valL [.ag, (.i .i64)] r)) w)), (n_pelotonref09_Size, (fun args w c => unL [.ag] args fun x => pelotonref09_Size x w fun r w => c (packV (valL [(.i .i64)] r)) w)), (n_ring_Ring_Size, (fun args w c => unL [.ag] args fun x => ring_Ring_Size x w fun r w => c (packV (valL [(.i .i64)] r)) w)), (n_cells_Machine_Used, (fun args w c => unL [.p] args fun x => cells_Machine_Used x w fun r w => c (packV (valL [(.i .i64)] r)) w)), (n_cells_Machine_Steps, (fun args w c => unL [.p, (.i .i64)] args fun x => cells_Machine_Steps x.1 x.2 w fun r w => c (packV (valL [(.i .i64)] r)) w))]) 1361129548816264978439039388165504778227 [(12, [(7, (.i .i64)), (8, (.i .i64)), (9, (.i .i64))]), (16, [(10, .a), (11, (.i .i64))]), (19, [(78, .b)]), (20, [(12, (.i .i64))]), (29, [(7, (.i .i64)), (8, (.i .i64))]), (33, [(106, .b)]), (38, [(130, .b)])] Go.Proofs.Try.f8 [.b] (valL [(.i .i64), .s] x) w k = pelotonlaw09_RingNew_b pelotonlaw09_awake cells_New ring_New pelotonref09_Size ring_Ring_Size cells_Machine_Used cells_Machine_Steps x.1 x.2 w k := by kernel_rfl
def pelotonlaw09_RingNew (size_0 : Int) (l_1 : Sl) (w : World) (k : (Bool) → World → Prop) : Prop := pelotonlaw09_RingNew_b pelotonlaw09_awake cells_New ring_New pelotonref09_Size ring_Ring_Size cells_Machine_Used cells_Machine_Steps size_0 l_1 w k
def d_pelotonlaw09_RingNew : Dec := fun args w c => unL [(.i .i64), .s] args fun x => pelotonlaw09_RingNew x.1 x.2 w fun r w => c (packV (valL [.b] r)) w
theorem s_pelotonlaw09_RingNew : Sound Go.Proofs.Try.prog n_pelotonlaw09_RingNew d_pelotonlaw09_RingNew :=
  sound_of (mask := 1361129548816264978439039388165504778227) (h := [(12, [(7, (.i .i64)), (8, (.i .i64)), (9, (.i .i64))]), (16, [(10, .a), (11, (.i .i64))]), (19, [(78, .b)]), (20, [(12, (.i .i64))]), (29, [(7, (.i .i64)), (8, (.i .i64))]), (33, [(106, .b)]), (38, [(130, .b)])]) (ds := [(n_pelotonlaw09_awake, d_pelotonlaw09_awake), (n_cells_New, d_cells_New), (n_ring_New, d_ring_New), (n_pelotonref09_Size, d_pelotonref09_Size), (n_ring_Ring_Size, d_ring_Ring_Size), (n_cells_Machine_Used, d_cells_Machine_Used), (n_cells_Machine_Steps, d_cells_Machine_Steps)]) mixed Go.Proofs.Try.func8 ⟨s_pelotonlaw09_awake, s_cells_New, s_ring_New, s_pelotonref09_Size, s_ring_Ring_Size, s_cells_Machine_Used, s_cells_Machine_Steps, trivial⟩
    [(.i .i64), .s] [.b] (by kernel_rfl) (fun x w k => pelotonlaw09_RingNew x.1 x.2 w k) (fun x w k => e_pelotonlaw09_RingNew pelotonlaw09_awake cells_New ring_New pelotonref09_Size ring_Ring_Size cells_Machine_Used cells_Machine_Steps x w k)

/-- peloton/pelotonlaw09.RingMoves -/
def pelotonlaw09_RingMoves_b (pelotonlaw09_awake : World → ((Bool) → World → Prop) → Prop) (cells_New : Int → Int → World → ((Option Addr × Int) → World → Prop) → Prop) (ring_New : Option Addr → Int → Int → World → ((Array Value × Int) → World → Prop) → Prop) (ring_Ring_Copy : Array Value → Array Value → Int → Int → World → ((Option Addr × Int) → World → Prop) → Prop) (ring_Ring_Size : Array Value → World → ((Int) → World → Prop) → Prop) (ring_Ring_Place : Array Value → Int → World → ((Int) → World → Prop) → Prop) (cells_Machine_Store : Option Addr → Int → Int → Int → World → ((Int) → World → Prop) → Prop) (cells_Machine_Steps : Option Addr → Int → World → ((Int) → World → Prop) → Prop) (ring_Copy_Step : Option Addr → Option Addr → Int → World → ((Bool × Int) → World → Prop) → Prop) (cells_Machine_Used : Option Addr → World → ((Int) → World → Prop) → Prop) (cells_Machine_Peek : Option Addr → Int → World → ((Int) → World → Prop) → Prop) (logs_0 : Array Value) (from_1 : Int) (l_2 : Sl) (w : World) (k : (Bool) → World → Prop) : Prop :=
  newC w logs_0 72 fun a1 w2 =>
  joinP (S := Bool) (fun J3 =>
    ldI .i64 w2 (Addr.add a1 0) fun i4 =>
    iteB (decide (i4 < (0 : Int))) (
      (J3 ((true || (decide (((l_2.n : Nat) : Int) > (256 : Int)))) || (decide (from_1 > (IntKind.wrap .i64 ((9223372036854775807 : Int) - ((l_2.n : Nat) : Int)))))) w2)) (
      ldI .i64 w2 (Addr.add a1 0) fun i5 =>
      iteB (decide (i5 > (8 : Int))) (
        (J3 ((true || (decide (((l_2.n : Nat) : Int) > (256 : Int)))) || (decide (from_1 > (IntKind.wrap .i64 ((9223372036854775807 : Int) - ((l_2.n : Nat) : Int)))))) w2)) (
        ldI .i64 w2 (Addr.add a1 1) fun i6 =>
        iteB (decide (i6 < (0 : Int))) (
          (J3 ((true || (decide (((l_2.n : Nat) : Int) > (256 : Int)))) || (decide (from_1 > (IntKind.wrap .i64 ((9223372036854775807 : Int) - ((l_2.n : Nat) : Int)))))) w2)) (
          ldI .i64 w2 (Addr.add a1 1) fun i7 =>
          (J3 (((decide (i7 > (8 : Int))) || (decide (((l_2.n : Nat) : Int) > (256 : Int)))) || (decide (from_1 > (IntKind.wrap .i64 ((9223372036854775807 : Int) - ((l_2.n : Nat) : Int)))))) w2))))) fun b8 w9 =>
  iteB b8 (
    pelotonlaw09_awake  w9 fun b10 w11 =>
    (k b10 w11)) (
    cells_New (520 : Int) (1 : Int) w9 fun x12 w13 =>
    ldI .i64 w13 (Addr.add a1 0) fun i14 =>
    ring_New x12.1 (0 : Int) i14 w13 fun x15 w16 =>
    newC w16 #[(.int .i64 (0 : Int)), (.int .i64 (0 : Int))] 24 fun a17 w18 =>
    stA 2 w18 a17 x15.1 fun w19 =>
    ldI .i64 w19 (Addr.add a1 1) fun i20 =>
    ring_New x12.1 (0 : Int) i20 w19 fun x21 w22 =>
    newC w22 #[(.int .i64 (0 : Int)), (.int .i64 (0 : Int))] 24 fun a23 w24 =>
    stA 2 w24 a23 x21.1 fun w25 =>
    iteB (((x12.2 != (0 : Int)) || (x15.2 != (0 : Int))) || (x21.2 != (0 : Int))) (
      (k false w25)) (
      ldA 2 w25 a17 fun cs26 =>
      ldA 2 w25 a23 fun cs27 =>
      ring_Ring_Copy cs26 cs27 from_1 (IntKind.wrap .i64 (from_1 + ((l_2.n : Nat) : Int))) w25 fun x28 w29 =>
      joinP (S := Bool) (fun J30 =>
        ldA 2 w29 a17 fun cs31 =>
        ring_Ring_Size cs31 w29 fun i32 w33 =>
        iteB (decide (((l_2.n : Nat) : Int) > i32)) (
          (J30 true w33)) (
          ldA 2 w33 a23 fun cs34 =>
          ring_Ring_Size cs34 w33 fun i35 w36 =>
          (J30 (decide (((l_2.n : Nat) : Int) > i35)) w36))) fun b37 w38 =>
      iteB b37 (
        iteB ((x28.2 == (10 : Int)) && (Option.isNone x28.1)) (
          pelotonlaw09_awake  w38 fun b39 w40 =>
          (k b39 w40)) (
          (k false w38))) (
        iteB (x28.2 != (0 : Int)) (
          (k false w38)) (
          joinP (S := Unit) (fun J41 =>
            loopP (S := Int) (fun C42 i43 w44 =>
              iteB (decide (i43 < ((l_2.n : Nat) : Int))) (
                drew w44 fun w45 =>
                ldA 2 w45 a17 fun cs46 =>
                ixS l_2 i43 1 fun a47 =>
                ldI .i64 w45 a47 fun i48 =>
                ring_Ring_Place cs46 (IntKind.wrap .i64 (from_1 + i43)) w45 fun i49 w50 =>
                samec 1 a47 w45 w50 (
                cells_Machine_Store x12.1 (1 : Int) i49 i48 w50 fun i51 w52 =>
                iteB (i51 != (0 : Int)) (
                  (k false w52)) (
                  (C42 (IntKind.wrap .i64 (i43 + (1 : Int))) w52)))) (
                (J41 () w44))) (0 : Int) w38) fun u53 w54 =>
          cells_Machine_Steps x12.1 (0 : Int) w54 fun i55 w56 =>
          joinP (S := Unit) (fun J57 =>
            loopP (S := Int) (fun C58 i59 w60 =>
              iteB (decide (i59 < (IntKind.wrap .i64 ((2 : Int) * ((l_2.n : Nat) : Int))))) (
                ring_Copy_Step x28.1 x12.1 (0 : Int) w60 fun x61 w62 =>
                iteB ((x61.2 != (0 : Int)) || (!(x61.1 == (i59 == (IntKind.wrap .i64 ((IntKind.wrap .i64 ((2 : Int) * ((l_2.n : Nat) : Int))) - (1 : Int))))))) (
                  (k false w62)) (
                  (C58 (IntKind.wrap .i64 (i59 + (1 : Int))) w62))) (
                (J57 () w60))) (0 : Int) w56) fun u63 w64 =>
          ring_Copy_Step x28.1 x12.1 (0 : Int) w64 fun x65 w66 =>
          joinP (S := Bool) (fun J67 =>
            drew w66 fun w68 =>
            iteB ((!x65.1) || (x65.2 != (0 : Int))) (
              (J67 true w68)) (
              cells_Machine_Steps x12.1 (0 : Int) w68 fun i69 w70 =>
              iteB (i69 != (IntKind.wrap .i64 (i55 + (IntKind.wrap .i64 ((2 : Int) * ((l_2.n : Nat) : Int)))))) (
                (J67 true w70)) (
                ldA 2 w70 a17 fun cs71 =>
                ldA 2 w70 a23 fun cs72 =>
                cells_Machine_Used x12.1 w70 fun i73 w74 =>
                samec 2 a23 w70 w74 (
                samec 2 a17 w70 w74 (
                ring_Ring_Size cs71 w74 fun i75 w76 =>
                samec 2 a23 w70 w76 (
                ring_Ring_Size cs72 w76 fun i77 w78 =>
                (J67 (i73 != (IntKind.wrap .i64 (i75 + i77))) w78))))))) fun b79 w80 =>
          iteB b79 (
            (k false w80)) (
            joinP (S := Int) (fun J81 =>
              loopP (S := (Int × Int)) (fun C82 x83 w84 =>
                iteB (decide (x83.2 < ((l_2.n : Nat) : Int))) (
                  joinP (S := Bool) (fun J85 =>
                    drew w84 fun w86 =>
                    ldA 2 w86 a17 fun cs87 =>
                    ixS l_2 x83.2 1 fun a88 =>
                    ldI .i64 w86 a88 fun i89 =>
                    ring_Ring_Place cs87 (IntKind.wrap .i64 (from_1 + x83.2)) w86 fun i90 w91 =>
                    samec 1 a88 w86 w91 (
                    cells_Machine_Peek x12.1 i90 w91 fun i92 w93 =>
                    samec 1 a88 w86 w93 (
                    iteB (i92 != i89) (
                      (J85 true w93)) (
                      ldA 2 w93 a23 fun cs94 =>
                      ixS l_2 x83.2 1 fun a95 =>
                      ldI .i64 w93 a95 fun i96 =>
                      ring_Ring_Place cs94 (IntKind.wrap .i64 (from_1 + x83.2)) w93 fun i97 w98 =>
                      samec 1 a95 w93 w98 (
                      cells_Machine_Peek x12.1 i97 w98 fun i99 w100 =>
                      samec 1 a95 w93 w100 (
                      (J85 (i99 != i96) w100))))))) fun b101 w102 =>
                  iteB b101 (
                    (k false w102)) (
                    ixS l_2 x83.2 1 fun a103 =>
                    ldI .i64 w102 a103 fun i104 =>
                    iteB (i104 != (0 : Int)) (
                      (C82 ((IntKind.wrap .i64 (x83.1 + (2 : Int))), (IntKind.wrap .i64 (x83.2 + (1 : Int)))) w102)) (
                      (C82 (x83.1, (IntKind.wrap .i64 (x83.2 + (1 : Int)))) w102)))) (
                  (J81 x83.1 w84))) ((0 : Int), (0 : Int)) w80) fun i105 w106 =>
            loopP (S := (Int × Int)) (fun C107 x108 w109 =>
              drew w109 fun w110 =>
              ldA 2 w110 a17 fun cs111 =>
              ldA 2 w110 a23 fun cs112 =>
              ring_Ring_Size cs111 w110 fun i113 w114 =>
              samec 2 a23 w110 w114 (
              ring_Ring_Size cs112 w114 fun i115 w116 =>
              iteB (decide (x108.2 < (IntKind.wrap .i64 (i113 + i115)))) (
                cells_Machine_Peek x12.1 x108.2 w116 fun i117 w118 =>
                iteB (i117 != (0 : Int)) (
                  (C107 ((IntKind.wrap .i64 (x108.1 - (1 : Int))), (IntKind.wrap .i64 (x108.2 + (1 : Int)))) w118)) (
                  (C107 (x108.1, (IntKind.wrap .i64 (x108.2 + (1 : Int)))) w118))) (
                iteB (x108.1 == (0 : Int)) (
                  pelotonlaw09_awake  w116 fun b119 w120 =>
                  (k b119 w120)) (
                  (k false w116))))) (i105, (0 : Int)) w106)))))
theorem e_pelotonlaw09_RingMoves (pelotonlaw09_awake : World → ((Bool) → World → Prop) → Prop) (cells_New : Int → Int → World → ((Option Addr × Int) → World → Prop) → Prop) (ring_New : Option Addr → Int → Int → World → ((Array Value × Int) → World → Prop) → Prop) (ring_Ring_Copy : Array Value → Array Value → Int → Int → World → ((Option Addr × Int) → World → Prop) → Prop) (ring_Ring_Size : Array Value → World → ((Int) → World → Prop) → Prop) (ring_Ring_Place : Array Value → Int → World → ((Int) → World → Prop) → Prop) (cells_Machine_Store : Option Addr → Int → Int → Int → World → ((Int) → World → Prop) → Prop) (cells_Machine_Steps : Option Addr → Int → World → ((Int) → World → Prop) → Prop) (ring_Copy_Step : Option Addr → Option Addr → Int → World → ((Bool × Int) → World → Prop) → Prop) (cells_Machine_Used : Option Addr → World → ((Int) → World → Prop) → Prop) (cells_Machine_Peek : Option Addr → Int → World → ((Int) → World → Prop) → Prop) (x : KT [.ag, (.i .i64), .s]) (w : World) (k : KT [.b] → World → Prop) : evFn Go.Proofs.Try.prog (orcOf [(n_pelotonlaw09_awake, (fun args w c => unL [] args fun x => pelotonlaw09_awake  w fun r w => c (packV (valL [.b] r)) w)), (n_cells_New, (fun args w c => unL [(.i .i64), (.i .i64)] args fun x => cells_New x.1 x.2 w fun r w => c (packV (valL [.p, (.i .i64)] r)) w)), (n_ring_New, (fun args w c => unL [.p, (.i .i64), (.i .i64)] args fun x => ring_New x.1 x.2.1 x.2.2 w fun r w => c (packV (valL [.ag, (.i .i64)] r)) w)), (n_ring_Ring_Copy, (fun args w c => unL [.ag, .ag, (.i .i64), (.i .i64)] args fun x => ring_Ring_Copy x.1 x.2.1 x.2.2.1 x.2.2.2 w fun r w => c (packV (valL [.p, (.i .i64)] r)) w)), (n_ring_Ring_Size, (fun args w c => unL [.ag] args fun x => ring_Ring_Size x w fun r w => c (packV (valL [(.i .i64)] r)) w)), (n_ring_Ring_Place, (fun args w c => unL [.ag, (.i .i64)] args fun x => ring_Ring_Place x.1 x.2 w fun r w => c (packV (valL [(.i .i64)] r)) w)), (n_cells_Machine_Store, (fun args w c => unL [.p, (.i .i64), (.i .i64), (.i .i64)] args fun x => cells_Machine_Store x.1 x.2.1 x.2.2.1 x.2.2.2 w fun r w => c (packV (valL [(.i .i64)] r)) w)), (n_cells_Machine_Steps, (fun args w c => unL [.p, (.i .i64)] args fun x => cells_Machine_Steps x.1 x.2 w fun r w => c (packV (valL [(.i .i64)] r)) w)), (n_ring_Copy_Step, (fun args w c => unL [.p, .p, (.i .i64)] args fun x => ring_Copy_Step x.1 x.2.1 x.2.2 w fun r w => c (packV (valL [.b, (.i .i64)] r)) w)), (n_cells_Machine_Used, (fun args w c => unL [.p] args fun x => cells_Machine_Used x w fun r w => c (packV (valL [(.i .i64)] r)) w)), (n_cells_Machine_Peek, (fun args w c => unL [.p, (.i .i64)] args fun x => cells_Machine_Peek x.1 x.2 w fun r w => c (packV (valL [(.i .i64)] r)) w))]) 28712154480888868037571311433646324755648778373158593235867335379849838542 [(1, [(52, .b)]), (11, [(104, .b)]), (18, []), (19, [(14, (.i .i64))]), (29, []), (30, [(16, (.i .i64))]), (40, [(192, .b)]), (45, [(20, (.i .i64))]), (46, [(20, (.i .i64)), (21, (.i .i64))]), (50, [(224, .b)]), (59, [(20, (.i .i64)), (22, (.i .i64))])] Go.Proofs.Try.f9 [.b] (valL [.ag, (.i .i64), .s] x) w k = pelotonlaw09_RingMoves_b pelotonlaw09_awake cells_New ring_New ring_Ring_Copy ring_Ring_Size ring_Ring_Place cells_Machine_Store cells_Machine_Steps ring_Copy_Step cells_Machine_Used cells_Machine_Peek x.1 x.2.1 x.2.2 w k := by kernel_rfl
def pelotonlaw09_RingMoves (logs_0 : Array Value) (from_1 : Int) (l_2 : Sl) (w : World) (k : (Bool) → World → Prop) : Prop := pelotonlaw09_RingMoves_b pelotonlaw09_awake cells_New ring_New ring_Ring_Copy ring_Ring_Size ring_Ring_Place cells_Machine_Store cells_Machine_Steps ring_Copy_Step cells_Machine_Used cells_Machine_Peek logs_0 from_1 l_2 w k
def d_pelotonlaw09_RingMoves : Dec := fun args w c => unL [.ag, (.i .i64), .s] args fun x => pelotonlaw09_RingMoves x.1 x.2.1 x.2.2 w fun r w => c (packV (valL [.b] r)) w
theorem s_pelotonlaw09_RingMoves : Sound Go.Proofs.Try.prog n_pelotonlaw09_RingMoves d_pelotonlaw09_RingMoves :=
  sound_of (mask := 28712154480888868037571311433646324755648778373158593235867335379849838542) (h := [(1, [(52, .b)]), (11, [(104, .b)]), (18, []), (19, [(14, (.i .i64))]), (29, []), (30, [(16, (.i .i64))]), (40, [(192, .b)]), (45, [(20, (.i .i64))]), (46, [(20, (.i .i64)), (21, (.i .i64))]), (50, [(224, .b)]), (59, [(20, (.i .i64)), (22, (.i .i64))])]) (ds := [(n_pelotonlaw09_awake, d_pelotonlaw09_awake), (n_cells_New, d_cells_New), (n_ring_New, d_ring_New), (n_ring_Ring_Copy, d_ring_Ring_Copy), (n_ring_Ring_Size, d_ring_Ring_Size), (n_ring_Ring_Place, d_ring_Ring_Place), (n_cells_Machine_Store, d_cells_Machine_Store), (n_cells_Machine_Steps, d_cells_Machine_Steps), (n_ring_Copy_Step, d_ring_Copy_Step), (n_cells_Machine_Used, d_cells_Machine_Used), (n_cells_Machine_Peek, d_cells_Machine_Peek)]) mixed Go.Proofs.Try.func9 ⟨s_pelotonlaw09_awake, s_cells_New, s_ring_New, s_ring_Ring_Copy, s_ring_Ring_Size, s_ring_Ring_Place, s_cells_Machine_Store, s_cells_Machine_Steps, s_ring_Copy_Step, s_cells_Machine_Used, s_cells_Machine_Peek, trivial⟩
    [.ag, (.i .i64), .s] [.b] (by kernel_rfl) (fun x w k => pelotonlaw09_RingMoves x.1 x.2.1 x.2.2 w k) (fun x w k => e_pelotonlaw09_RingMoves pelotonlaw09_awake cells_New ring_New ring_Ring_Copy ring_Ring_Size ring_Ring_Place cells_Machine_Store cells_Machine_Steps ring_Copy_Step cells_Machine_Used cells_Machine_Peek x w k)

end Go.Proofs.Yteipigpapliagaa
