/-
  The functions of this seat, as the evaluator gives them: printed by a program; each tied to its function by the kernel.
-/
import Derived.Test.YtheallacpidcmaaProg
import Derived.Test.YtheallacpidcmaaEvR
import Derived.KernelRfl
set_option maxRecDepth 100000
set_option linter.unusedVariables false
namespace Go.Proofs.Ytheallacpidcmaa
open Go Go.Ev
theorem mixed : Go.Proofs.Try.prog.follows .mixedOrders = true := by kernel_rfl

abbrev n_pelotonlaw10_DequeGrows : Nat := 3
abbrev n_pelotonlaw10_DequeLets : Nat := 4
abbrev n_pelotonlaw10_DequeAlone : Nat := 5
abbrev n_pelotonlaw10_DequeOnce : Nat := 6
abbrev n_pelotonlaw10_DequeNil : Nat := 7
abbrev n_pelotonlaw10_DequeSteps : Nat := 8
abbrev n_pelotonlaw10_awake : Nat := 14
abbrev n_cells_New : Nat := 15
abbrev n_deque_New : Nat := 16
abbrev n_pelotonlaw10_run : Nat := 17
abbrev n_deque_Deque_Push : Nat := 18
abbrev n_cells_Machine_Used : Nat := 19
abbrev n_deque_Op_Step : Nat := 20
abbrev n_pelotonlaw10_same : Nat := 21
abbrev n_deque_Deque_List : Nat := 22
abbrev n_deque_Op_Got : Nat := 23
abbrev n_deque_Op_Err : Nat := 24
abbrev n_cells_Machine_Clone : Nat := 25
abbrev n_deque_Deque_Steal : Nat := 26
abbrev n_pelotonlaw10_takes : Nat := 27
abbrev n_cells_Machine_Peek : Nat := 28
abbrev n_deque_Deque_Pop : Nat := 29
abbrev n_pelotonlaw10_who : Nat := 30
abbrev n_pelotonlaw10_count : Nat := 31
abbrev n_cells_Machine_Steps : Nat := 32
abbrev n_pelotonlaw10_lies : Nat := 33
abbrev n_deque_Deque_Bottom : Nat := 34
abbrev n_ring_Of : Nat := 35
abbrev n_ring_Ring_Size : Nat := 36
abbrev n_pelotonref10_New : Nat := 37
abbrev n_pelotonref10_Begin : Nat := 38
abbrev n_pelotonref10_Op_Step : Nat := 39
abbrev n_pelotonlaw10_pelotonref10got : Nat := 40
abbrev n_pelotonref10_List : Nat := 41
abbrev n_pelotonlaw10_steals : Nat := 59
abbrev n_cells_Machine_Alloc : Nat := 60
abbrev n_cells_Machine_Store : Nat := 61
abbrev n_deque_Deque_word : Nat := 62
abbrev n_ring_Ring_Word : Nat := 63
abbrev n_deque_Op_pushBottom : Nat := 64
abbrev n_deque_Deque_top : Nat := 65
abbrev n_deque_Deque_bottom : Nat := 66
abbrev n_ring_Ring_Place : Nat := 67
abbrev n_slices_Clone___int64_int64_ : Nat := 68
abbrev n_slices_Clone___int_int_ : Nat := 69
abbrev n_deque_Op_stealTop : Nat := 70
abbrev n_cells_Machine_given : Nat := 71
abbrev n_deque_Op_popBottom : Nat := 72
abbrev n_cells_Machine_caller : Nat := 73
abbrev n_cells_Machine_Load : Nat := 74
abbrev n_ring_Ring_right : Nat := 75
abbrev n_pelotonref09_Size : Nat := 76
abbrev n_pelotonref10_Op_broke : Nat := 77
abbrev n_pelotonref10_Op_push : Nat := 78
abbrev n_pelotonref10_Op_pop : Nat := 79
abbrev n_pelotonref10_Op_steal : Nat := 80
abbrev n_pelotonref09_Of : Nat := 81
abbrev n_pelotonref09_Place : Nat := 82
abbrev n_cells_Machine_looks : Nat := 91
abbrev n_cells_some : Nat := 92
abbrev n_deque_Op_load : Nat := 93
abbrev n_deque_Op_pushTop : Nat := 94
abbrev n_deque_Op_stealBottom : Nat := 95
abbrev n_deque_Op_popRing : Nat := 96
abbrev n_pelotonref09_Right : Nat := 97
abbrev n_pelotonref09_power : Nat := 98
abbrev n_pelotonref09_Begin : Nat := 99
abbrev n_pelotonref09_Copy_Step : Nat := 100
abbrev n_pelotonref09_Word : Nat := 101
abbrev n_deque_Op_pushRing : Nat := 105
abbrev n_deque_Op_stealRing : Nat := 106
abbrev n_deque_Op_popLess : Nat := 107
abbrev n_deque_Op_read : Nat := 108
abbrev n_deque_Op_pushThing : Nat := 109
abbrev n_deque_Op_pushNew : Nat := 110
abbrev n_deque_Op_stealThing : Nat := 111
abbrev n_deque_Op_store : Nat := 112
abbrev n_deque_Op_popTop : Nat := 113
abbrev n_deque_Op_pushDone : Nat := 114
abbrev n_ring_New : Nat := 115
abbrev n_ring_Ring_Copy : Nat := 116
abbrev n_deque_Op_pushCopy : Nat := 117
abbrev n_deque_Op_stealDone : Nat := 118
abbrev n_deque_Op_popThing : Nat := 119
abbrev n_deque_Op_popBack : Nat := 120
abbrev n_ring_Copy_load : Nat := 121
abbrev n_ring_Copy_Step : Nat := 122
abbrev n_deque_Op_pushWord : Nat := 123
abbrev n_cells_Machine_CAS : Nat := 124
abbrev n_deque_Op_popLast : Nat := 125
abbrev n_ring_Copy_store : Nat := 126

/-- peloton/cells.New -/
def cells_New (size_0 : Int) (workers_1 : Int) (w : World) (k : (Option Addr × Int) → World → Prop) : Prop :=
  iteB ((((decide (size_0 < (1 : Int))) || (decide (size_0 > (1048576 : Int)))) || (decide (workers_1 < (1 : Int)))) || (decide (workers_1 > (16 : Int)))) (
    (k (none, (10 : Int)) w)) (
    mkSl Go.Proofs.Try.prog 47 (.int .i64 (IntKind.wrap .i64 (workers_1 + (1 : Int)))) (.int .i64 (IntKind.wrap .i64 (workers_1 + (1 : Int)))) w fun s1 w2 =>
    newC w2 #[(.slice none 0 0), (.int .i64 size_0), (.slice s1.a s1.n s1.c)] 111 fun a3 w4 =>
    (k ((some a3), (0 : Int)) w4))
def d_cells_New : Dec := fun args w c => unL [(.i .i64), (.i .i64)] args fun x => cells_New x.1 x.2 w fun r w => c (packV (valL [.p, (.i .i64)] r)) w
theorem s_cells_New : Sound Go.Proofs.Try.prog n_cells_New d_cells_New :=
  sound_of (mask := 524339) (h := []) (ds := []) mixed Go.Proofs.Try.func15 trivial
    [(.i .i64), (.i .i64)] [.p, (.i .i64)] (by kernel_rfl) (fun x w k => cells_New x.1 x.2 w k) (fun x w k => by kernel_rfl)

/-- (*peloton/cells.Machine).caller -/
def cells_Machine_caller (m_0 : Option Addr) (w_1 : Int) (w : World) (k : (Bool) → World → Prop) : Prop :=
  iteB (decide (w_1 ≥ (0 : Int))) (
    nn m_0 fun a1 =>
    ldS w (Addr.add a1 2) fun s2 =>
    (k (decide (w_1 < ((s2.n : Nat) : Int))) w)) (
    (k false w))
def d_cells_Machine_caller : Dec := fun args w c => unL [.p, (.i .i64)] args fun x => cells_Machine_caller x.1 x.2 w fun r w => c (packV (valL [.b] r)) w
theorem s_cells_Machine_caller : Sound Go.Proofs.Try.prog n_cells_Machine_caller d_cells_Machine_caller :=
  sound_of (mask := 19) (h := []) (ds := []) mixed Go.Proofs.Try.func73 trivial
    [.p, (.i .i64)] [.b] (by kernel_rfl) (fun x w k => cells_Machine_caller x.1 x.2 w k) (fun x w k => by kernel_rfl)

/-- (*peloton/cells.Machine).given -/
def cells_Machine_given (m_0 : Option Addr) (at_1 : Int) (w : World) (k : (Bool) → World → Prop) : Prop :=
  iteB (decide (at_1 ≥ (0 : Int))) (
    nn m_0 fun a1 =>
    ldS w (Addr.add a1 0) fun s2 =>
    (k (decide (at_1 < ((s2.n : Nat) : Int))) w)) (
    (k false w))
def d_cells_Machine_given : Dec := fun args w c => unL [.p, (.i .i64)] args fun x => cells_Machine_given x.1 x.2 w fun r w => c (packV (valL [.b] r)) w
theorem s_cells_Machine_given : Sound Go.Proofs.Try.prog n_cells_Machine_given d_cells_Machine_given :=
  sound_of (mask := 19) (h := []) (ds := []) mixed Go.Proofs.Try.func71 trivial
    [.p, (.i .i64)] [.b] (by kernel_rfl) (fun x w k => cells_Machine_given x.1 x.2 w k) (fun x w k => by kernel_rfl)

/-- peloton/cells.some -/
def cells_some (n_0 : Int) (w : World) (k : (Bool) → World → Prop) : Prop :=
  (k (decide (n_0 ≥ (1 : Int))) w)
def d_cells_some : Dec := fun args w c => unL [(.i .i64)] args fun x => cells_some x w fun r w => c (packV (valL [.b] r)) w
theorem s_cells_some : Sound Go.Proofs.Try.prog n_cells_some d_cells_some :=
  sound_of (mask := 5) (h := []) (ds := []) mixed Go.Proofs.Try.func92 trivial
    [(.i .i64)] [.b] (by kernel_rfl) (fun x w k => cells_some x w k) (fun x w k => by kernel_rfl)

/-- (*peloton/cells.Machine).looks -/
def cells_Machine_looks_b (cells_Machine_caller : Option Addr → Int → World → ((Bool) → World → Prop) → Prop) (cells_Machine_given : Option Addr → Int → World → ((Bool) → World → Prop) → Prop) (cells_some : Int → World → ((Bool) → World → Prop) → Prop) (m_0 : Option Addr) (w_1 : Int) (n_2 : Int) (right_3 : Value) (w : World) (k : (Int) → World → Prop) : Prop :=
  joinP (S := Bool) (fun J1 =>
    cells_Machine_caller m_0 w_1 w fun b2 w3 =>
    iteB (!b2) (
      (J1 true w3)) (
      callF (orcOf [(n_cells_Machine_caller, (fun args w c => unL [.p, (.i .i64)] args fun x => cells_Machine_caller x.1 x.2 w fun r w => c (packV (valL [.b] r)) w)), (n_cells_Machine_given, (fun args w c => unL [.p, (.i .i64)] args fun x => cells_Machine_given x.1 x.2 w fun r w => c (packV (valL [.b] r)) w)), (n_cells_some, (fun args w c => unL [(.i .i64)] args fun x => cells_some x w fun r w => c (packV (valL [.b] r)) w))]) right_3 #[(.int .i64 n_2)] w3 fun v4 w5 =>
      toB v4 fun b6 =>
      (J1 (!b6) w5))) fun b7 w8 =>
  iteB b7 (
    (k (10 : Int) w8)) (
    (k (0 : Int) w8))
theorem e_cells_Machine_looks (cells_Machine_caller : Option Addr → Int → World → ((Bool) → World → Prop) → Prop) (cells_Machine_given : Option Addr → Int → World → ((Bool) → World → Prop) → Prop) (cells_some : Int → World → ((Bool) → World → Prop) → Prop) (x : KT [.p, (.i .i64), (.i .i64), .raw]) (w : World) (k : KT [(.i .i64)] → World → Prop) : evFn Go.Proofs.Try.prog (orcOf [(n_cells_Machine_caller, (fun args w c => unL [.p, (.i .i64)] args fun x => cells_Machine_caller x.1 x.2 w fun r w => c (packV (valL [.b] r)) w)), (n_cells_Machine_given, (fun args w c => unL [.p, (.i .i64)] args fun x => cells_Machine_given x.1 x.2 w fun r w => c (packV (valL [.b] r)) w)), (n_cells_some, (fun args w c => unL [(.i .i64)] args fun x => cells_some x w fun r w => c (packV (valL [.b] r)) w))]) 262415 [(1, [(18, .b)])] Go.Proofs.Try.f91 [(.i .i64)] (valL [.p, (.i .i64), (.i .i64), .raw] x) w k = cells_Machine_looks_b cells_Machine_caller cells_Machine_given cells_some x.1 x.2.1 x.2.2.1 x.2.2.2 w k := by kernel_rfl
def cells_Machine_looks (m_0 : Option Addr) (w_1 : Int) (n_2 : Int) (right_3 : Value) (w : World) (k : (Int) → World → Prop) : Prop := cells_Machine_looks_b cells_Machine_caller cells_Machine_given cells_some m_0 w_1 n_2 right_3 w k
def d_cells_Machine_looks : Dec := fun args w c => unL [.p, (.i .i64), (.i .i64), .raw] args fun x => cells_Machine_looks x.1 x.2.1 x.2.2.1 x.2.2.2 w fun r w => c (packV (valL [(.i .i64)] r)) w
theorem s_cells_Machine_looks : Sound Go.Proofs.Try.prog n_cells_Machine_looks d_cells_Machine_looks :=
  sound_of (mask := 262415) (h := [(1, [(18, .b)])]) (ds := [(n_cells_Machine_caller, d_cells_Machine_caller), (n_cells_Machine_given, d_cells_Machine_given), (n_cells_some, d_cells_some)]) mixed Go.Proofs.Try.func91 ⟨s_cells_Machine_caller, s_cells_Machine_given, s_cells_some, trivial⟩
    [.p, (.i .i64), (.i .i64), .raw] [(.i .i64)] (by kernel_rfl) (fun x w k => cells_Machine_looks x.1 x.2.1 x.2.2.1 x.2.2.2 w k) (fun x w k => e_cells_Machine_looks cells_Machine_caller cells_Machine_given cells_some x w k)

/-- (*peloton/cells.Machine).Alloc -/
def cells_Machine_Alloc_b (cells_Machine_looks : Option Addr → Int → Int → Value → World → ((Int) → World → Prop) → Prop) (m_0 : Option Addr) (w_1 : Int) (n_2 : Int) (w : World) (k : (Int × Int) → World → Prop) : Prop :=
  iteB (Option.isNone m_0) (
    (k ((0 : Int), (2 : Int)) w)) (
    cells_Machine_looks m_0 w_1 n_2 (.func (.func n_cells_some) #[] #[]) w fun i1 w2 =>
    iteB (i1 != (0 : Int)) (
      (k ((0 : Int), i1) w2)) (
      nn m_0 fun a3 =>
      ldS w2 (Addr.add a3 0) fun s4 =>
      nn m_0 fun a5 =>
      ldI .i64 w2 (Addr.add a5 1) fun i6 =>
      iteB (decide (n_2 > (IntKind.wrap .i64 (i6 - ((s4.n : Nat) : Int))))) (
        (k ((0 : Int), (21 : Int)) w2)) (
        nn m_0 fun a7 =>
        ldS w2 (Addr.add a7 2) fun s8 =>
        ixS s8 w_1 1 fun a9 =>
        ldI .i64 w2 a9 fun i10 =>
        ixS s8 w_1 1 fun a11 =>
        stC w2 a11 (.int .i64 (IntKind.wrap .i64 (i10 + (1 : Int)))) fun w12 =>
        nn m_0 fun a13 =>
        ldS w12 (Addr.add a13 0) fun s14 =>
        slS3 s14 1 (0 : Int) ((s4.n : Nat) : Int) ((s4.n : Nat) : Int) fun s15 =>
        bApp Go.Proofs.Try.prog #[23, 3] 23 [(.slice s15.a s15.n s15.c), (.int .i64 n_2)] w12 fun s16 w17 =>
        nn m_0 fun a18 =>
        stC w17 (Addr.add a18 0) (.slice s16.a s16.n s16.c) fun w19 =>
        (k (((s4.n : Nat) : Int), (0 : Int)) w19))))
theorem e_cells_Machine_Alloc (cells_Machine_looks : Option Addr → Int → Int → Value → World → ((Int) → World → Prop) → Prop) (x : KT [.p, (.i .i64), (.i .i64)]) (w : World) (k : KT [(.i .i64), (.i .i64)] → World → Prop) : evFn Go.Proofs.Try.prog (orcOf [(n_cells_Machine_looks, (fun args w c => unL [.p, (.i .i64), (.i .i64), .raw] args fun x => cells_Machine_looks x.1 x.2.1 x.2.2.1 x.2.2.2 w fun r w => c (packV (valL [(.i .i64)] r)) w))]) 2147617735 [] Go.Proofs.Try.f60 [(.i .i64), (.i .i64)] (valL [.p, (.i .i64), (.i .i64)] x) w k = cells_Machine_Alloc_b cells_Machine_looks x.1 x.2.1 x.2.2 w k := by kernel_rfl
def cells_Machine_Alloc (m_0 : Option Addr) (w_1 : Int) (n_2 : Int) (w : World) (k : (Int × Int) → World → Prop) : Prop := cells_Machine_Alloc_b cells_Machine_looks m_0 w_1 n_2 w k
def d_cells_Machine_Alloc : Dec := fun args w c => unL [.p, (.i .i64), (.i .i64)] args fun x => cells_Machine_Alloc x.1 x.2.1 x.2.2 w fun r w => c (packV (valL [(.i .i64), (.i .i64)] r)) w
theorem s_cells_Machine_Alloc : Sound Go.Proofs.Try.prog n_cells_Machine_Alloc d_cells_Machine_Alloc :=
  sound_of (mask := 2147617735) (h := []) (ds := [(n_cells_Machine_looks, d_cells_Machine_looks)]) mixed Go.Proofs.Try.func60 ⟨s_cells_Machine_looks, trivial⟩
    [.p, (.i .i64), (.i .i64)] [(.i .i64), (.i .i64)] (by kernel_rfl) (fun x w k => cells_Machine_Alloc x.1 x.2.1 x.2.2 w k) (fun x w k => e_cells_Machine_Alloc cells_Machine_looks x w k)

/-- (peloton/deque.Deque).word -/
def deque_Deque_word (d_0 : Array Value) (w : World) (k : (Int) → World → Prop) : Prop :=
  newC w d_0 30 fun a1 w2 =>
  ldI .i64 w2 (Addr.add a1 0) fun i3 =>
  (k (IntKind.wrap .i64 (i3 + (2 : Int))) w2)
def d_deque_Deque_word : Dec := fun args w c => unL [.ag] args fun x => deque_Deque_word x w fun r w => c (packV (valL [(.i .i64)] r)) w
theorem s_deque_Deque_word : Sound Go.Proofs.Try.prog n_deque_Deque_word d_deque_Deque_word :=
  sound_of (mask := 6) (h := []) (ds := []) mixed Go.Proofs.Try.func62 trivial
    [.ag] [(.i .i64)] (by kernel_rfl) (fun x w k => deque_Deque_word x w k) (fun x w k => by kernel_rfl)

/-- (peloton/ring.Ring).right -/
def ring_Ring_right (r_0 : Array Value) (w : World) (k : (Bool) → World → Prop) : Prop :=
  newC w r_0 62 fun a1 w2 =>
  drew w2 fun w3 =>
  ldI .i64 w3 (Addr.add a1 1) fun i4 =>
  iteB (decide (i4 ≥ (0 : Int))) (
    ldI .i64 w3 (Addr.add a1 1) fun i5 =>
    iteB (decide (i5 ≤ (8 : Int))) (
      ldI .i64 w3 (Addr.add a1 0) fun i6 =>
      iteB (decide (i6 ≥ (0 : Int))) (
        ldI .i64 w3 (Addr.add a1 0) fun i7 =>
        ldI .i64 w3 (Addr.add a1 1) fun i8 =>
        shlI .i64 (1 : Int) i8 fun i9 =>
        (k (decide (i7 ≤ (IntKind.wrap .i64 ((1048576 : Int) - i9)))) w3)) (
        (k false w3))) (
      (k false w3))) (
    (k false w3))
def d_ring_Ring_right : Dec := fun args w c => unL [.ag] args fun x => ring_Ring_right x w fun r w => c (packV (valL [.b] r)) w
theorem s_ring_Ring_right : Sound Go.Proofs.Try.prog n_ring_Ring_right d_ring_Ring_right :=
  sound_of (mask := 6) (h := []) (ds := []) mixed Go.Proofs.Try.func75 trivial
    [.ag] [.b] (by kernel_rfl) (fun x w k => ring_Ring_right x w k) (fun x w k => by kernel_rfl)

/-- (peloton/ring.Ring).Word -/
def ring_Ring_Word_b (ring_Ring_right : Array Value → World → ((Bool) → World → Prop) → Prop) (r_0 : Array Value) (w : World) (k : (Int) → World → Prop) : Prop :=
  newC w r_0 62 fun a1 w2 =>
  ldA 2 w2 a1 fun cs3 =>
  ring_Ring_right cs3 w2 fun b4 w5 =>
  iteB (!b4) (
    (k (-(1 : Int)) w5)) (
    ldI .i64 w5 (Addr.add a1 0) fun i6 =>
    ldI .i64 w5 (Addr.add a1 1) fun i7 =>
    (k (orI .i64 (shlV .i64 i6 (4 : Int)) i7) w5))
theorem e_ring_Ring_Word (ring_Ring_right : Array Value → World → ((Bool) → World → Prop) → Prop) (x : KT [.ag]) (w : World) (k : KT [(.i .i64)] → World → Prop) : evFn Go.Proofs.Try.prog (orcOf [(n_ring_Ring_right, (fun args w c => unL [.ag] args fun x => ring_Ring_right x w fun r w => c (packV (valL [.b] r)) w))]) 38 [] Go.Proofs.Try.f63 [(.i .i64)] (valL [.ag] x) w k = ring_Ring_Word_b ring_Ring_right x w k := by kernel_rfl
def ring_Ring_Word (r_0 : Array Value) (w : World) (k : (Int) → World → Prop) : Prop := ring_Ring_Word_b ring_Ring_right r_0 w k
def d_ring_Ring_Word : Dec := fun args w c => unL [.ag] args fun x => ring_Ring_Word x w fun r w => c (packV (valL [(.i .i64)] r)) w
theorem s_ring_Ring_Word : Sound Go.Proofs.Try.prog n_ring_Ring_Word d_ring_Ring_Word :=
  sound_of (mask := 38) (h := []) (ds := [(n_ring_Ring_right, d_ring_Ring_right)]) mixed Go.Proofs.Try.func63 ⟨s_ring_Ring_right, trivial⟩
    [.ag] [(.i .i64)] (by kernel_rfl) (fun x w k => ring_Ring_Word x w k) (fun x w k => e_ring_Ring_Word ring_Ring_right x w k)

/-- (*peloton/cells.Machine).Store -/
def cells_Machine_Store_b (cells_Machine_looks : Option Addr → Int → Int → Value → World → ((Int) → World → Prop) → Prop) (m_0 : Option Addr) (w_1 : Int) (at_2 : Int) (x_3 : Int) (w : World) (k : (Int) → World → Prop) : Prop :=
  iteB (Option.isNone m_0) (
    (k (2 : Int) w)) (
    cells_Machine_looks m_0 w_1 at_2 (.func (.func n_cells_Machine_given) #[(.pointer m_0)] #[]) w fun i1 w2 =>
    iteB (i1 != (0 : Int)) (
      (k i1 w2)) (
      nn m_0 fun a3 =>
      ldS w2 (Addr.add a3 2) fun s4 =>
      ixS s4 w_1 1 fun a5 =>
      ldI .i64 w2 a5 fun i6 =>
      ixS s4 w_1 1 fun a7 =>
      stC w2 a7 (.int .i64 (IntKind.wrap .i64 (i6 + (1 : Int)))) fun w8 =>
      nn m_0 fun a9 =>
      ldS w8 (Addr.add a9 0) fun s10 =>
      ixS s10 at_2 1 fun a11 =>
      stC w8 a11 (.int .i64 x_3) fun w12 =>
      (k (0 : Int) w12)))
theorem e_cells_Machine_Store (cells_Machine_looks : Option Addr → Int → Int → Value → World → ((Int) → World → Prop) → Prop) (x : KT [.p, (.i .i64), (.i .i64), (.i .i64)]) (w : World) (k : KT [(.i .i64)] → World → Prop) : evFn Go.Proofs.Try.prog (orcOf [(n_cells_Machine_looks, (fun args w c => unL [.p, (.i .i64), (.i .i64), .raw] args fun x => cells_Machine_looks x.1 x.2.1 x.2.2.1 x.2.2.2 w fun r w => c (packV (valL [(.i .i64)] r)) w))]) 527119 [] Go.Proofs.Try.f61 [(.i .i64)] (valL [.p, (.i .i64), (.i .i64), (.i .i64)] x) w k = cells_Machine_Store_b cells_Machine_looks x.1 x.2.1 x.2.2.1 x.2.2.2 w k := by kernel_rfl
def cells_Machine_Store (m_0 : Option Addr) (w_1 : Int) (at_2 : Int) (x_3 : Int) (w : World) (k : (Int) → World → Prop) : Prop := cells_Machine_Store_b cells_Machine_looks m_0 w_1 at_2 x_3 w k
def d_cells_Machine_Store : Dec := fun args w c => unL [.p, (.i .i64), (.i .i64), (.i .i64)] args fun x => cells_Machine_Store x.1 x.2.1 x.2.2.1 x.2.2.2 w fun r w => c (packV (valL [(.i .i64)] r)) w
theorem s_cells_Machine_Store : Sound Go.Proofs.Try.prog n_cells_Machine_Store d_cells_Machine_Store :=
  sound_of (mask := 527119) (h := []) (ds := [(n_cells_Machine_looks, d_cells_Machine_looks)]) mixed Go.Proofs.Try.func61 ⟨s_cells_Machine_looks, trivial⟩
    [.p, (.i .i64), (.i .i64), (.i .i64)] [(.i .i64)] (by kernel_rfl) (fun x w k => cells_Machine_Store x.1 x.2.1 x.2.2.1 x.2.2.2 w k) (fun x w k => e_cells_Machine_Store cells_Machine_looks x w k)

/-- peloton/deque.New -/
def deque_New_b (cells_Machine_Alloc : Option Addr → Int → Int → World → ((Int × Int) → World → Prop) → Prop) (deque_Deque_word : Array Value → World → ((Int) → World → Prop) → Prop) (ring_Ring_Word : Array Value → World → ((Int) → World → Prop) → Prop) (cells_Machine_Store : Option Addr → Int → Int → Int → World → ((Int) → World → Prop) → Prop) (m_0 : Option Addr) (w_1 : Int) (log_2 : Int) (most_3 : Int) (w : World) (k : (Array Value × Int) → World → Prop) : Prop :=
  newC w #[(.int .i64 (0 : Int)), (.int .i64 (0 : Int))] 30 fun a1 w2 =>
  iteB (Option.isNone m_0) (
    stA 2 w2 a1 #[(.int .i64 (0 : Int)), (.int .i64 (0 : Int))] fun w3 =>
    ldA 2 w3 a1 fun cs4 =>
    (k (cs4, (2 : Int)) w3)) (
    iteB (((decide (log_2 < (0 : Int))) || (decide (most_3 < log_2))) || (decide (most_3 > (8 : Int)))) (
      stA 2 w2 a1 #[(.int .i64 (0 : Int)), (.int .i64 (0 : Int))] fun w5 =>
      ldA 2 w5 a1 fun cs6 =>
      (k (cs6, (10 : Int)) w5)) (
      shlI .i64 (1 : Int) log_2 fun i7 =>
      cells_Machine_Alloc m_0 w_1 (IntKind.wrap .i64 ((3 : Int) + i7)) w2 fun x8 w9 =>
      iteB ((x8.1, x8.2).2 != (0 : Int)) (
        stA 2 w9 a1 #[(.int .i64 (0 : Int)), (.int .i64 (0 : Int))] fun w10 =>
        ldA 2 w10 a1 fun cs11 =>
        (k (cs11, (x8.1, x8.2).2) w10)) (
        newC w9 #[(.int .i64 (0 : Int)), (.int .i64 (0 : Int))] 30 fun a12 w13 =>
        stA 2 w13 a12 #[(.int .i64 (x8.1, x8.2).1), (.int .i64 most_3)] fun w14 =>
        newC w14 #[(.int .i64 (0 : Int)), (.int .i64 (0 : Int))] 62 fun a15 w16 =>
        stA 2 w16 a15 #[(.int .i64 (IntKind.wrap .i64 ((x8.1, x8.2).1 + (3 : Int)))), (.int .i64 log_2)] fun w17 =>
        drew w17 fun w18 =>
        ldA 2 w18 a12 fun cs19 =>
        ldA 2 w18 a15 fun cs20 =>
        deque_Deque_word cs19 w18 fun i21 w22 =>
        samec 2 a15 w18 w22 (
        ring_Ring_Word cs20 w22 fun i23 w24 =>
        cells_Machine_Store m_0 w_1 i21 i23 w24 fun i25 w26 =>
        iteB (i25 != (0 : Int)) (
          stA 2 w26 a1 #[(.int .i64 (0 : Int)), (.int .i64 (0 : Int))] fun w27 =>
          ldA 2 w27 a1 fun cs28 =>
          (k (cs28, i25) w27)) (
          ldA 2 w26 a12 fun cs29 =>
          stA 2 w26 a1 cs29 fun w30 =>
          ldA 2 w30 a1 fun cs31 =>
          (k (cs31, (0 : Int)) w30))))))
theorem e_deque_New (cells_Machine_Alloc : Option Addr → Int → Int → World → ((Int × Int) → World → Prop) → Prop) (deque_Deque_word : Array Value → World → ((Int) → World → Prop) → Prop) (ring_Ring_Word : Array Value → World → ((Int) → World → Prop) → Prop) (cells_Machine_Store : Option Addr → Int → Int → Int → World → ((Int) → World → Prop) → Prop) (x : KT [.p, (.i .i64), (.i .i64), (.i .i64)]) (w : World) (k : KT [.ag, (.i .i64)] → World → Prop) : evFn Go.Proofs.Try.prog (orcOf [(n_cells_Machine_Alloc, (fun args w c => unL [.p, (.i .i64), (.i .i64)] args fun x => cells_Machine_Alloc x.1 x.2.1 x.2.2 w fun r w => c (packV (valL [(.i .i64), (.i .i64)] r)) w)), (n_deque_Deque_word, (fun args w c => unL [.ag] args fun x => deque_Deque_word x w fun r w => c (packV (valL [(.i .i64)] r)) w)), (n_ring_Ring_Word, (fun args w c => unL [.ag] args fun x => ring_Ring_Word x w fun r w => c (packV (valL [(.i .i64)] r)) w)), (n_cells_Machine_Store, (fun args w c => unL [.p, (.i .i64), (.i .i64), (.i .i64)] args fun x => cells_Machine_Store x.1 x.2.1 x.2.2.1 x.2.2.2 w fun r w => c (packV (valL [(.i .i64)] r)) w))]) 1152925902653947663 [] Go.Proofs.Try.f16 [.ag, (.i .i64)] (valL [.p, (.i .i64), (.i .i64), (.i .i64)] x) w k = deque_New_b cells_Machine_Alloc deque_Deque_word ring_Ring_Word cells_Machine_Store x.1 x.2.1 x.2.2.1 x.2.2.2 w k := by kernel_rfl
def deque_New (m_0 : Option Addr) (w_1 : Int) (log_2 : Int) (most_3 : Int) (w : World) (k : (Array Value × Int) → World → Prop) : Prop := deque_New_b cells_Machine_Alloc deque_Deque_word ring_Ring_Word cells_Machine_Store m_0 w_1 log_2 most_3 w k
def d_deque_New : Dec := fun args w c => unL [.p, (.i .i64), (.i .i64), (.i .i64)] args fun x => deque_New x.1 x.2.1 x.2.2.1 x.2.2.2 w fun r w => c (packV (valL [.ag, (.i .i64)] r)) w
theorem s_deque_New : Sound Go.Proofs.Try.prog n_deque_New d_deque_New :=
  sound_of (mask := 1152925902653947663) (h := []) (ds := [(n_cells_Machine_Alloc, d_cells_Machine_Alloc), (n_deque_Deque_word, d_deque_Deque_word), (n_ring_Ring_Word, d_ring_Ring_Word), (n_cells_Machine_Store, d_cells_Machine_Store)]) mixed Go.Proofs.Try.func16 ⟨s_cells_Machine_Alloc, s_deque_Deque_word, s_ring_Ring_Word, s_cells_Machine_Store, trivial⟩
    [.p, (.i .i64), (.i .i64), (.i .i64)] [.ag, (.i .i64)] (by kernel_rfl) (fun x w k => deque_New x.1 x.2.1 x.2.2.1 x.2.2.2 w k) (fun x w k => e_deque_New cells_Machine_Alloc deque_Deque_word ring_Ring_Word cells_Machine_Store x w k)

/-- (*peloton/cells.Machine).Used -/
def cells_Machine_Used (m_0 : Option Addr) (w : World) (k : (Int) → World → Prop) : Prop :=
  iteB (Option.isNone m_0) (
    (k (0 : Int) w)) (
    nn m_0 fun a1 =>
    ldS w (Addr.add a1 0) fun s2 =>
    (k ((s2.n : Nat) : Int) w))
def d_cells_Machine_Used : Dec := fun args w c => unL [.p] args fun x => cells_Machine_Used x w fun r w => c (packV (valL [(.i .i64)] r)) w
theorem s_cells_Machine_Used : Sound Go.Proofs.Try.prog n_cells_Machine_Used d_cells_Machine_Used :=
  sound_of (mask := 21) (h := []) (ds := []) mixed Go.Proofs.Try.func19 trivial
    [.p] [(.i .i64)] (by kernel_rfl) (fun x w k => cells_Machine_Used x w k) (fun x w k => by kernel_rfl)

/-- (peloton/deque.Deque).Push -/
def deque_Deque_Push (d_0 : Array Value) (x_1 : Int) (w : World) (k : (Option Addr) → World → Prop) : Prop :=
  newC w d_0 30 fun a1 w2 =>
  ldA 2 w2 a1 fun cs3 =>
  spl #[(.int .i64 (0 : Int)), (.int .i64 (0 : Int)), (.int .i64 (0 : Int)), (.int .i64 (0 : Int)), (.int .i64 (0 : Int)), (.int .i64 (0 : Int))] 0 2 cs3 fun cs4 =>
  spl #[(.int .i64 (0 : Int)), (.int .i64 (0 : Int)), (.int .i64 (0 : Int)), (.int .i64 (0 : Int)), (.int .i64 (0 : Int)), (.int .i64 (0 : Int)), (.int .i64 (0 : Int)), (.bool false), (.int .i64 (0 : Int)), (.int .i64 (0 : Int)), (.pointer none), .nilFunc, (.int .i64 (0 : Int)), (.int .i64 (0 : Int)), (.int .i64 (0 : Int))] 0 6 cs4 fun cs5 =>
  newC w2 (Array.setIfInBounds (Array.setIfInBounds cs5 6 (.int .i64 x_1)) 11 (.func (.func n_deque_Op_pushBottom) #[] #[])) 122 fun a6 w7 =>
  (k (some a6) w7)
def d_deque_Deque_Push : Dec := fun args w c => unL [.ag, (.i .i64)] args fun x => deque_Deque_Push x.1 x.2 w fun r w => c (packV (valL [.p] r)) w
theorem s_deque_Deque_Push : Sound Go.Proofs.Try.prog n_deque_Deque_Push d_deque_Deque_Push :=
  sound_of (mask := 22) (h := []) (ds := []) mixed Go.Proofs.Try.func18 trivial
    [.ag, (.i .i64)] [.p] (by kernel_rfl) (fun x w k => deque_Deque_Push x.1 x.2 w k) (fun x w k => by kernel_rfl)

/-- (peloton/deque.Deque).bottom -/
def deque_Deque_bottom (d_0 : Array Value) (w : World) (k : (Int) → World → Prop) : Prop :=
  newC w d_0 30 fun a1 w2 =>
  ldI .i64 w2 (Addr.add a1 0) fun i3 =>
  (k (IntKind.wrap .i64 (i3 + (1 : Int))) w2)
def d_deque_Deque_bottom : Dec := fun args w c => unL [.ag] args fun x => deque_Deque_bottom x w fun r w => c (packV (valL [(.i .i64)] r)) w
theorem s_deque_Deque_bottom : Sound Go.Proofs.Try.prog n_deque_Deque_bottom d_deque_Deque_bottom :=
  sound_of (mask := 6) (h := []) (ds := []) mixed Go.Proofs.Try.func66 trivial
    [.ag] [(.i .i64)] (by kernel_rfl) (fun x w k => deque_Deque_bottom x w k) (fun x w k => by kernel_rfl)

/-- (*peloton/cells.Machine).Load -/
def cells_Machine_Load_b (cells_Machine_looks : Option Addr → Int → Int → Value → World → ((Int) → World → Prop) → Prop) (m_0 : Option Addr) (w_1 : Int) (at_2 : Int) (w : World) (k : (Int × Int) → World → Prop) : Prop :=
  iteB (Option.isNone m_0) (
    (k ((0 : Int), (2 : Int)) w)) (
    cells_Machine_looks m_0 w_1 at_2 (.func (.func n_cells_Machine_given) #[(.pointer m_0)] #[]) w fun i1 w2 =>
    iteB (i1 != (0 : Int)) (
      (k ((0 : Int), i1) w2)) (
      nn m_0 fun a3 =>
      ldS w2 (Addr.add a3 2) fun s4 =>
      ixS s4 w_1 1 fun a5 =>
      ldI .i64 w2 a5 fun i6 =>
      ixS s4 w_1 1 fun a7 =>
      stC w2 a7 (.int .i64 (IntKind.wrap .i64 (i6 + (1 : Int)))) fun w8 =>
      nn m_0 fun a9 =>
      ldS w8 (Addr.add a9 0) fun s10 =>
      ixS s10 at_2 1 fun a11 =>
      ldI .i64 w8 a11 fun i12 =>
      (k (i12, (0 : Int)) w8)))
theorem e_cells_Machine_Load (cells_Machine_looks : Option Addr → Int → Int → Value → World → ((Int) → World → Prop) → Prop) (x : KT [.p, (.i .i64), (.i .i64)]) (w : World) (k : KT [(.i .i64), (.i .i64)] → World → Prop) : evFn Go.Proofs.Try.prog (orcOf [(n_cells_Machine_looks, (fun args w c => unL [.p, (.i .i64), (.i .i64), .raw] args fun x => cells_Machine_looks x.1 x.2.1 x.2.2.1 x.2.2.2 w fun r w => c (packV (valL [(.i .i64)] r)) w))]) 263623 [] Go.Proofs.Try.f74 [(.i .i64), (.i .i64)] (valL [.p, (.i .i64), (.i .i64)] x) w k = cells_Machine_Load_b cells_Machine_looks x.1 x.2.1 x.2.2 w k := by kernel_rfl
def cells_Machine_Load (m_0 : Option Addr) (w_1 : Int) (at_2 : Int) (w : World) (k : (Int × Int) → World → Prop) : Prop := cells_Machine_Load_b cells_Machine_looks m_0 w_1 at_2 w k
def d_cells_Machine_Load : Dec := fun args w c => unL [.p, (.i .i64), (.i .i64)] args fun x => cells_Machine_Load x.1 x.2.1 x.2.2 w fun r w => c (packV (valL [(.i .i64), (.i .i64)] r)) w
theorem s_cells_Machine_Load : Sound Go.Proofs.Try.prog n_cells_Machine_Load d_cells_Machine_Load :=
  sound_of (mask := 263623) (h := []) (ds := [(n_cells_Machine_looks, d_cells_Machine_looks)]) mixed Go.Proofs.Try.func74 ⟨s_cells_Machine_looks, trivial⟩
    [.p, (.i .i64), (.i .i64)] [(.i .i64), (.i .i64)] (by kernel_rfl) (fun x w k => cells_Machine_Load x.1 x.2.1 x.2.2 w k) (fun x w k => e_cells_Machine_Load cells_Machine_looks x w k)

/-- (*peloton/deque.Op).load -/
def deque_Op_load_b (cells_Machine_Load : Option Addr → Int → Int → World → ((Int × Int) → World → Prop) → Prop) (o_0 : Option Addr) (m_1 : Option Addr) (w_2 : Int) (at_3 : Int) (to_4 : Option Addr) (next_5 : Value) (w : World) (k : (Int × Int) → World → Prop) : Prop :=
  cells_Machine_Load m_1 w_2 at_3 w fun x1 w2 =>
  nn to_4 fun a3 =>
  stC w2 a3 (.int .i64 (x1.1, x1.2).1) fun w4 =>
  nn o_0 fun a5 =>
  stC w4 (Addr.add a5 11) next_5 fun w6 =>
  (k ((0 : Int), (x1.1, x1.2).2) w6)
theorem e_deque_Op_load (cells_Machine_Load : Option Addr → Int → Int → World → ((Int × Int) → World → Prop) → Prop) (x : KT [.p, .p, (.i .i64), (.i .i64), .p, .raw]) (w : World) (k : KT [(.i .i64), (.i .i64)] → World → Prop) : evFn Go.Proofs.Try.prog (orcOf [(n_cells_Machine_Load, (fun args w c => unL [.p, (.i .i64), (.i .i64)] args fun x => cells_Machine_Load x.1 x.2.1 x.2.2 w fun r w => c (packV (valL [(.i .i64), (.i .i64)] r)) w))]) 61503 [] Go.Proofs.Try.f93 [(.i .i64), (.i .i64)] (valL [.p, .p, (.i .i64), (.i .i64), .p, .raw] x) w k = deque_Op_load_b cells_Machine_Load x.1 x.2.1 x.2.2.1 x.2.2.2.1 x.2.2.2.2.1 x.2.2.2.2.2 w k := by kernel_rfl
def deque_Op_load (o_0 : Option Addr) (m_1 : Option Addr) (w_2 : Int) (at_3 : Int) (to_4 : Option Addr) (next_5 : Value) (w : World) (k : (Int × Int) → World → Prop) : Prop := deque_Op_load_b cells_Machine_Load o_0 m_1 w_2 at_3 to_4 next_5 w k
def d_deque_Op_load : Dec := fun args w c => unL [.p, .p, (.i .i64), (.i .i64), .p, .raw] args fun x => deque_Op_load x.1 x.2.1 x.2.2.1 x.2.2.2.1 x.2.2.2.2.1 x.2.2.2.2.2 w fun r w => c (packV (valL [(.i .i64), (.i .i64)] r)) w
theorem s_deque_Op_load : Sound Go.Proofs.Try.prog n_deque_Op_load d_deque_Op_load :=
  sound_of (mask := 61503) (h := []) (ds := [(n_cells_Machine_Load, d_cells_Machine_Load)]) mixed Go.Proofs.Try.func93 ⟨s_cells_Machine_Load, trivial⟩
    [.p, .p, (.i .i64), (.i .i64), .p, .raw] [(.i .i64), (.i .i64)] (by kernel_rfl) (fun x w k => deque_Op_load x.1 x.2.1 x.2.2.1 x.2.2.2.1 x.2.2.2.2.1 x.2.2.2.2.2 w k) (fun x w k => e_deque_Op_load cells_Machine_Load x w k)

/-- (*peloton/deque.Op).pushBottom -/
def deque_Op_pushBottom_b (deque_Deque_bottom : Array Value → World → ((Int) → World → Prop) → Prop) (deque_Op_load : Option Addr → Option Addr → Int → Int → Option Addr → Value → World → ((Int × Int) → World → Prop) → Prop) (o_0 : Option Addr) (m_1 : Option Addr) (w_2 : Int) (w : World) (k : (Int × Int) → World → Prop) : Prop :=
  drew w fun w1 =>
  nn o_0 fun a2 =>
  ldA 2 w1 (Addr.add (Addr.add a2 0) 0) fun cs3 =>
  nn o_0 fun a4 =>
  deque_Deque_bottom cs3 w1 fun i5 w6 =>
  deque_Op_load o_0 m_1 w_2 i5 (some (Addr.add (Addr.add a4 0) 2)) (.func (.func n_deque_Op_pushTop) #[] #[]) w6 fun x7 w8 =>
  (k ((x7.1, x7.2).1, (x7.1, x7.2).2) w8)
theorem e_deque_Op_pushBottom (deque_Deque_bottom : Array Value → World → ((Int) → World → Prop) → Prop) (deque_Op_load : Option Addr → Option Addr → Int → Int → Option Addr → Value → World → ((Int × Int) → World → Prop) → Prop) (x : KT [.p, .p, (.i .i64)]) (w : World) (k : KT [(.i .i64), (.i .i64)] → World → Prop) : evFn Go.Proofs.Try.prog (orcOf [(n_deque_Deque_bottom, (fun args w c => unL [.ag] args fun x => deque_Deque_bottom x w fun r w => c (packV (valL [(.i .i64)] r)) w)), (n_deque_Op_load, (fun args w c => unL [.p, .p, (.i .i64), (.i .i64), .p, .raw] args fun x => deque_Op_load x.1 x.2.1 x.2.2.1 x.2.2.2.1 x.2.2.2.2.1 x.2.2.2.2.2 w fun r w => c (packV (valL [(.i .i64), (.i .i64)] r)) w))]) 199 [] Go.Proofs.Try.f64 [(.i .i64), (.i .i64)] (valL [.p, .p, (.i .i64)] x) w k = deque_Op_pushBottom_b deque_Deque_bottom deque_Op_load x.1 x.2.1 x.2.2 w k := by kernel_rfl
def deque_Op_pushBottom (o_0 : Option Addr) (m_1 : Option Addr) (w_2 : Int) (w : World) (k : (Int × Int) → World → Prop) : Prop := deque_Op_pushBottom_b deque_Deque_bottom deque_Op_load o_0 m_1 w_2 w k
def d_deque_Op_pushBottom : Dec := fun args w c => unL [.p, .p, (.i .i64)] args fun x => deque_Op_pushBottom x.1 x.2.1 x.2.2 w fun r w => c (packV (valL [(.i .i64), (.i .i64)] r)) w
theorem s_deque_Op_pushBottom : Sound Go.Proofs.Try.prog n_deque_Op_pushBottom d_deque_Op_pushBottom :=
  sound_of (mask := 199) (h := []) (ds := [(n_deque_Deque_bottom, d_deque_Deque_bottom), (n_deque_Op_load, d_deque_Op_load)]) mixed Go.Proofs.Try.func64 ⟨s_deque_Deque_bottom, s_deque_Op_load, trivial⟩
    [.p, .p, (.i .i64)] [(.i .i64), (.i .i64)] (by kernel_rfl) (fun x w k => deque_Op_pushBottom x.1 x.2.1 x.2.2 w k) (fun x w k => e_deque_Op_pushBottom deque_Deque_bottom deque_Op_load x w k)

/-- (peloton/deque.Deque).top -/
def deque_Deque_top (d_0 : Array Value) (w : World) (k : (Int) → World → Prop) : Prop :=
  newC w d_0 30 fun a1 w2 =>
  ldI .i64 w2 (Addr.add a1 0) fun i3 =>
  (k i3 w2)
def d_deque_Deque_top : Dec := fun args w c => unL [.ag] args fun x => deque_Deque_top x w fun r w => c (packV (valL [(.i .i64)] r)) w
theorem s_deque_Deque_top : Sound Go.Proofs.Try.prog n_deque_Deque_top d_deque_Deque_top :=
  sound_of (mask := 6) (h := []) (ds := []) mixed Go.Proofs.Try.func65 trivial
    [.ag] [(.i .i64)] (by kernel_rfl) (fun x w k => deque_Deque_top x w k) (fun x w k => by kernel_rfl)

/-- (*peloton/deque.Op).pushTop -/
def deque_Op_pushTop_b (deque_Deque_top : Array Value → World → ((Int) → World → Prop) → Prop) (deque_Op_load : Option Addr → Option Addr → Int → Int → Option Addr → Value → World → ((Int × Int) → World → Prop) → Prop) (o_0 : Option Addr) (m_1 : Option Addr) (w_2 : Int) (w : World) (k : (Int × Int) → World → Prop) : Prop :=
  drew w fun w1 =>
  nn o_0 fun a2 =>
  ldA 2 w1 (Addr.add (Addr.add a2 0) 0) fun cs3 =>
  nn o_0 fun a4 =>
  deque_Deque_top cs3 w1 fun i5 w6 =>
  deque_Op_load o_0 m_1 w_2 i5 (some (Addr.add (Addr.add a4 0) 3)) (.func (.func n_deque_Op_pushRing) #[] #[]) w6 fun x7 w8 =>
  (k ((x7.1, x7.2).1, (x7.1, x7.2).2) w8)
theorem e_deque_Op_pushTop (deque_Deque_top : Array Value → World → ((Int) → World → Prop) → Prop) (deque_Op_load : Option Addr → Option Addr → Int → Int → Option Addr → Value → World → ((Int × Int) → World → Prop) → Prop) (x : KT [.p, .p, (.i .i64)]) (w : World) (k : KT [(.i .i64), (.i .i64)] → World → Prop) : evFn Go.Proofs.Try.prog (orcOf [(n_deque_Deque_top, (fun args w c => unL [.ag] args fun x => deque_Deque_top x w fun r w => c (packV (valL [(.i .i64)] r)) w)), (n_deque_Op_load, (fun args w c => unL [.p, .p, (.i .i64), (.i .i64), .p, .raw] args fun x => deque_Op_load x.1 x.2.1 x.2.2.1 x.2.2.2.1 x.2.2.2.2.1 x.2.2.2.2.2 w fun r w => c (packV (valL [(.i .i64), (.i .i64)] r)) w))]) 199 [] Go.Proofs.Try.f94 [(.i .i64), (.i .i64)] (valL [.p, .p, (.i .i64)] x) w k = deque_Op_pushTop_b deque_Deque_top deque_Op_load x.1 x.2.1 x.2.2 w k := by kernel_rfl
def deque_Op_pushTop (o_0 : Option Addr) (m_1 : Option Addr) (w_2 : Int) (w : World) (k : (Int × Int) → World → Prop) : Prop := deque_Op_pushTop_b deque_Deque_top deque_Op_load o_0 m_1 w_2 w k
def d_deque_Op_pushTop : Dec := fun args w c => unL [.p, .p, (.i .i64)] args fun x => deque_Op_pushTop x.1 x.2.1 x.2.2 w fun r w => c (packV (valL [(.i .i64), (.i .i64)] r)) w
theorem s_deque_Op_pushTop : Sound Go.Proofs.Try.prog n_deque_Op_pushTop d_deque_Op_pushTop :=
  sound_of (mask := 199) (h := []) (ds := [(n_deque_Deque_top, d_deque_Deque_top), (n_deque_Op_load, d_deque_Op_load)]) mixed Go.Proofs.Try.func94 ⟨s_deque_Deque_top, s_deque_Op_load, trivial⟩
    [.p, .p, (.i .i64)] [(.i .i64), (.i .i64)] (by kernel_rfl) (fun x w k => deque_Op_pushTop x.1 x.2.1 x.2.2 w k) (fun x w k => e_deque_Op_pushTop deque_Deque_top deque_Op_load x w k)

/-- peloton/ring.Of -/
def ring_Of_b (ring_Ring_right : Array Value → World → ((Bool) → World → Prop) → Prop) (word_0 : Int) (w : World) (k : (Array Value × Int) → World → Prop) : Prop :=
  newC w #[(.int .i64 (0 : Int)), (.int .i64 (0 : Int))] 62 fun a1 w2 =>
  newC w2 #[(.int .i64 (0 : Int)), (.int .i64 (0 : Int))] 62 fun a3 w4 =>
  stA 2 w4 a3 #[(.int .i64 (shrV .i64 word_0 (4 : Int))), (.int .i64 (andI .i64 word_0 (15 : Int)))] fun w5 =>
  ldA 2 w5 a3 fun cs6 =>
  ring_Ring_right cs6 w5 fun b7 w8 =>
  iteB (!b7) (
    stA 2 w8 a1 #[(.int .i64 (0 : Int)), (.int .i64 (0 : Int))] fun w9 =>
    ldA 2 w9 a1 fun cs10 =>
    (k (cs10, (11 : Int)) w9)) (
    ldA 2 w8 a3 fun cs11 =>
    stA 2 w8 a1 cs11 fun w12 =>
    ldA 2 w12 a1 fun cs13 =>
    (k (cs13, (0 : Int)) w12))
theorem e_ring_Of (ring_Ring_right : Array Value → World → ((Bool) → World → Prop) → Prop) (x : KT [(.i .i64)]) (w : World) (k : KT [.ag, (.i .i64)] → World → Prop) : evFn Go.Proofs.Try.prog (orcOf [(n_ring_Ring_right, (fun args w c => unL [.ag] args fun x => ring_Ring_right x w fun r w => c (packV (valL [.b] r)) w))]) 4125 [] Go.Proofs.Try.f35 [.ag, (.i .i64)] (valL [(.i .i64)] x) w k = ring_Of_b ring_Ring_right x w k := by kernel_rfl
def ring_Of (word_0 : Int) (w : World) (k : (Array Value × Int) → World → Prop) : Prop := ring_Of_b ring_Ring_right word_0 w k
def d_ring_Of : Dec := fun args w c => unL [(.i .i64)] args fun x => ring_Of x w fun r w => c (packV (valL [.ag, (.i .i64)] r)) w
theorem s_ring_Of : Sound Go.Proofs.Try.prog n_ring_Of d_ring_Of :=
  sound_of (mask := 4125) (h := []) (ds := [(n_ring_Ring_right, d_ring_Ring_right)]) mixed Go.Proofs.Try.func35 ⟨s_ring_Ring_right, trivial⟩
    [(.i .i64)] [.ag, (.i .i64)] (by kernel_rfl) (fun x w k => ring_Of x w k) (fun x w k => e_ring_Of ring_Ring_right x w k)

/-- (*peloton/deque.Op).read -/
def deque_Op_read_b (deque_Deque_word : Array Value → World → ((Int) → World → Prop) → Prop) (cells_Machine_Load : Option Addr → Int → Int → World → ((Int × Int) → World → Prop) → Prop) (ring_Of : Int → World → ((Array Value × Int) → World → Prop) → Prop) (o_0 : Option Addr) (m_1 : Option Addr) (w_2 : Int) (w : World) (k : (Int) → World → Prop) : Prop :=
  nn o_0 fun a1 =>
  ldA 2 w (Addr.add (Addr.add a1 0) 0) fun cs2 =>
  deque_Deque_word cs2 w fun i3 w4 =>
  cells_Machine_Load m_1 w_2 i3 w4 fun x5 w6 =>
  iteB ((x5.1, x5.2).2 != (0 : Int)) (
    (k (x5.1, x5.2).2 w6)) (
    ring_Of (x5.1, x5.2).1 w6 fun x7 w8 =>
    nn o_0 fun a9 =>
    stA 2 w8 (Addr.add (Addr.add a9 0) 4) (x7.1, x7.2).1 fun w10 =>
    (k (x7.1, x7.2).2 w10))
theorem e_deque_Op_read (deque_Deque_word : Array Value → World → ((Int) → World → Prop) → Prop) (cells_Machine_Load : Option Addr → Int → Int → World → ((Int × Int) → World → Prop) → Prop) (ring_Of : Int → World → ((Array Value × Int) → World → Prop) → Prop) (x : KT [.p, .p, (.i .i64)]) (w : World) (k : KT [(.i .i64)] → World → Prop) : evFn Go.Proofs.Try.prog (orcOf [(n_deque_Deque_word, (fun args w c => unL [.ag] args fun x => deque_Deque_word x w fun r w => c (packV (valL [(.i .i64)] r)) w)), (n_cells_Machine_Load, (fun args w c => unL [.p, (.i .i64), (.i .i64)] args fun x => cells_Machine_Load x.1 x.2.1 x.2.2 w fun r w => c (packV (valL [(.i .i64), (.i .i64)] r)) w)), (n_ring_Of, (fun args w c => unL [(.i .i64)] args fun x => ring_Of x w fun r w => c (packV (valL [.ag, (.i .i64)] r)) w))]) 4194759 [] Go.Proofs.Try.f108 [(.i .i64)] (valL [.p, .p, (.i .i64)] x) w k = deque_Op_read_b deque_Deque_word cells_Machine_Load ring_Of x.1 x.2.1 x.2.2 w k := by kernel_rfl
def deque_Op_read (o_0 : Option Addr) (m_1 : Option Addr) (w_2 : Int) (w : World) (k : (Int) → World → Prop) : Prop := deque_Op_read_b deque_Deque_word cells_Machine_Load ring_Of o_0 m_1 w_2 w k
def d_deque_Op_read : Dec := fun args w c => unL [.p, .p, (.i .i64)] args fun x => deque_Op_read x.1 x.2.1 x.2.2 w fun r w => c (packV (valL [(.i .i64)] r)) w
theorem s_deque_Op_read : Sound Go.Proofs.Try.prog n_deque_Op_read d_deque_Op_read :=
  sound_of (mask := 4194759) (h := []) (ds := [(n_deque_Deque_word, d_deque_Deque_word), (n_cells_Machine_Load, d_cells_Machine_Load), (n_ring_Of, d_ring_Of)]) mixed Go.Proofs.Try.func108 ⟨s_deque_Deque_word, s_cells_Machine_Load, s_ring_Of, trivial⟩
    [.p, .p, (.i .i64)] [(.i .i64)] (by kernel_rfl) (fun x w k => deque_Op_read x.1 x.2.1 x.2.2 w k) (fun x w k => e_deque_Op_read deque_Deque_word cells_Machine_Load ring_Of x w k)

/-- (peloton/ring.Ring).Size -/
def ring_Ring_Size_b (ring_Ring_right : Array Value → World → ((Bool) → World → Prop) → Prop) (r_0 : Array Value) (w : World) (k : (Int) → World → Prop) : Prop :=
  newC w r_0 62 fun a1 w2 =>
  ldA 2 w2 a1 fun cs3 =>
  ring_Ring_right cs3 w2 fun b4 w5 =>
  iteB (!b4) (
    (k (0 : Int) w5)) (
    ldI .i64 w5 (Addr.add a1 1) fun i6 =>
    shlI .i64 (1 : Int) i6 fun i7 =>
    (k i7 w5))
theorem e_ring_Ring_Size (ring_Ring_right : Array Value → World → ((Bool) → World → Prop) → Prop) (x : KT [.ag]) (w : World) (k : KT [(.i .i64)] → World → Prop) : evFn Go.Proofs.Try.prog (orcOf [(n_ring_Ring_right, (fun args w c => unL [.ag] args fun x => ring_Ring_right x w fun r w => c (packV (valL [.b] r)) w))]) 38 [] Go.Proofs.Try.f36 [(.i .i64)] (valL [.ag] x) w k = ring_Ring_Size_b ring_Ring_right x w k := by kernel_rfl
def ring_Ring_Size (r_0 : Array Value) (w : World) (k : (Int) → World → Prop) : Prop := ring_Ring_Size_b ring_Ring_right r_0 w k
def d_ring_Ring_Size : Dec := fun args w c => unL [.ag] args fun x => ring_Ring_Size x w fun r w => c (packV (valL [(.i .i64)] r)) w
theorem s_ring_Ring_Size : Sound Go.Proofs.Try.prog n_ring_Ring_Size d_ring_Ring_Size :=
  sound_of (mask := 38) (h := []) (ds := [(n_ring_Ring_right, d_ring_Ring_right)]) mixed Go.Proofs.Try.func36 ⟨s_ring_Ring_right, trivial⟩
    [.ag] [(.i .i64)] (by kernel_rfl) (fun x w k => ring_Ring_Size x w k) (fun x w k => e_ring_Ring_Size ring_Ring_right x w k)

/-- (*peloton/deque.Op).pushRing -/
def deque_Op_pushRing_b (deque_Op_read : Option Addr → Option Addr → Int → World → ((Int) → World → Prop) → Prop) (ring_Ring_Size : Array Value → World → ((Int) → World → Prop) → Prop) (o_0 : Option Addr) (m_1 : Option Addr) (w_2 : Int) (w : World) (k : (Int × Int) → World → Prop) : Prop :=
  deque_Op_read o_0 m_1 w_2 w fun i1 w2 =>
  iteB (i1 != (0 : Int)) (
    (k ((6 : Int), i1) w2)) (
    drew w2 fun w3 =>
    nn o_0 fun a4 =>
    ldI .i64 w3 (Addr.add (Addr.add a4 0) 2) fun i5 =>
    nn o_0 fun a6 =>
    ldI .i64 w3 (Addr.add (Addr.add a6 0) 3) fun i7 =>
    nn o_0 fun a8 =>
    ldA 2 w3 (Addr.add (Addr.add a8 0) 4) fun cs9 =>
    ring_Ring_Size cs9 w3 fun i10 w11 =>
    samec 1 (Addr.add (Addr.add a6 0) 3) w3 w11 (
    samec 1 (Addr.add (Addr.add a4 0) 2) w3 w11 (
    iteB (decide ((IntKind.wrap .i64 (i5 - i7)) < i10)) (
      nn o_0 fun a12 =>
      stC w11 (Addr.add a12 11) (.func (.func n_deque_Op_pushThing) #[] #[]) fun w13 =>
      (k ((0 : Int), (0 : Int)) w13)) (
      drew w11 fun w14 =>
      nn o_0 fun a15 =>
      ldI .i64 w14 (Addr.add (Addr.add (Addr.add a15 0) 4) 1) fun i16 =>
      nn o_0 fun a17 =>
      ldI .i64 w14 (Addr.add (Addr.add (Addr.add a17 0) 0) 1) fun i18 =>
      iteB (decide (i16 ≥ i18)) (
        (k ((4 : Int), (0 : Int)) w14)) (
        nn o_0 fun a19 =>
        stC w14 (Addr.add a19 11) (.func (.func n_deque_Op_pushNew) #[] #[]) fun w20 =>
        (k ((0 : Int), (0 : Int)) w20))))))
theorem e_deque_Op_pushRing (deque_Op_read : Option Addr → Option Addr → Int → World → ((Int) → World → Prop) → Prop) (ring_Ring_Size : Array Value → World → ((Int) → World → Prop) → Prop) (x : KT [.p, .p, (.i .i64)]) (w : World) (k : KT [(.i .i64), (.i .i64)] → World → Prop) : evFn Go.Proofs.Try.prog (orcOf [(n_deque_Op_read, (fun args w c => unL [.p, .p, (.i .i64)] args fun x => deque_Op_read x.1 x.2.1 x.2.2 w fun r w => c (packV (valL [(.i .i64)] r)) w)), (n_ring_Ring_Size, (fun args w c => unL [.ag] args fun x => ring_Ring_Size x w fun r w => c (packV (valL [(.i .i64)] r)) w))]) 2199023796679 [] Go.Proofs.Try.f105 [(.i .i64), (.i .i64)] (valL [.p, .p, (.i .i64)] x) w k = deque_Op_pushRing_b deque_Op_read ring_Ring_Size x.1 x.2.1 x.2.2 w k := by kernel_rfl
def deque_Op_pushRing (o_0 : Option Addr) (m_1 : Option Addr) (w_2 : Int) (w : World) (k : (Int × Int) → World → Prop) : Prop := deque_Op_pushRing_b deque_Op_read ring_Ring_Size o_0 m_1 w_2 w k
def d_deque_Op_pushRing : Dec := fun args w c => unL [.p, .p, (.i .i64)] args fun x => deque_Op_pushRing x.1 x.2.1 x.2.2 w fun r w => c (packV (valL [(.i .i64), (.i .i64)] r)) w
theorem s_deque_Op_pushRing : Sound Go.Proofs.Try.prog n_deque_Op_pushRing d_deque_Op_pushRing :=
  sound_of (mask := 2199023796679) (h := []) (ds := [(n_deque_Op_read, d_deque_Op_read), (n_ring_Ring_Size, d_ring_Ring_Size)]) mixed Go.Proofs.Try.func105 ⟨s_deque_Op_read, s_ring_Ring_Size, trivial⟩
    [.p, .p, (.i .i64)] [(.i .i64), (.i .i64)] (by kernel_rfl) (fun x w k => deque_Op_pushRing x.1 x.2.1 x.2.2 w k) (fun x w k => e_deque_Op_pushRing deque_Op_read ring_Ring_Size x w k)

/-- peloton/ring.New -/
def ring_New_b (cells_Machine_Alloc : Option Addr → Int → Int → World → ((Int × Int) → World → Prop) → Prop) (m_0 : Option Addr) (w_1 : Int) (log_2 : Int) (w : World) (k : (Array Value × Int) → World → Prop) : Prop :=
  newC w #[(.int .i64 (0 : Int)), (.int .i64 (0 : Int))] 62 fun a1 w2 =>
  iteB (Option.isNone m_0) (
    stA 2 w2 a1 #[(.int .i64 (0 : Int)), (.int .i64 (0 : Int))] fun w3 =>
    ldA 2 w3 a1 fun cs4 =>
    (k (cs4, (2 : Int)) w3)) (
    iteB ((decide (log_2 < (0 : Int))) || (decide (log_2 > (8 : Int)))) (
      stA 2 w2 a1 #[(.int .i64 (0 : Int)), (.int .i64 (0 : Int))] fun w5 =>
      ldA 2 w5 a1 fun cs6 =>
      (k (cs6, (10 : Int)) w5)) (
      shlI .i64 (1 : Int) log_2 fun i7 =>
      cells_Machine_Alloc m_0 w_1 i7 w2 fun x8 w9 =>
      iteB ((x8.1, x8.2).2 != (0 : Int)) (
        stA 2 w9 a1 #[(.int .i64 (0 : Int)), (.int .i64 (0 : Int))] fun w10 =>
        ldA 2 w10 a1 fun cs11 =>
        (k (cs11, (x8.1, x8.2).2) w10)) (
        stA 2 w9 a1 #[(.int .i64 (x8.1, x8.2).1), (.int .i64 log_2)] fun w12 =>
        ldA 2 w12 a1 fun cs13 =>
        (k (cs13, (0 : Int)) w12))))
theorem e_ring_New (cells_Machine_Alloc : Option Addr → Int → Int → World → ((Int × Int) → World → Prop) → Prop) (x : KT [.p, (.i .i64), (.i .i64)]) (w : World) (k : KT [.ag, (.i .i64)] → World → Prop) : evFn Go.Proofs.Try.prog (orcOf [(n_cells_Machine_Alloc, (fun args w c => unL [.p, (.i .i64), (.i .i64)] args fun x => cells_Machine_Alloc x.1 x.2.1 x.2.2 w fun r w => c (packV (valL [(.i .i64), (.i .i64)] r)) w))]) 2147502023 [] Go.Proofs.Try.f115 [.ag, (.i .i64)] (valL [.p, (.i .i64), (.i .i64)] x) w k = ring_New_b cells_Machine_Alloc x.1 x.2.1 x.2.2 w k := by kernel_rfl
def ring_New (m_0 : Option Addr) (w_1 : Int) (log_2 : Int) (w : World) (k : (Array Value × Int) → World → Prop) : Prop := ring_New_b cells_Machine_Alloc m_0 w_1 log_2 w k
def d_ring_New : Dec := fun args w c => unL [.p, (.i .i64), (.i .i64)] args fun x => ring_New x.1 x.2.1 x.2.2 w fun r w => c (packV (valL [.ag, (.i .i64)] r)) w
theorem s_ring_New : Sound Go.Proofs.Try.prog n_ring_New d_ring_New :=
  sound_of (mask := 2147502023) (h := []) (ds := [(n_cells_Machine_Alloc, d_cells_Machine_Alloc)]) mixed Go.Proofs.Try.func115 ⟨s_cells_Machine_Alloc, trivial⟩
    [.p, (.i .i64), (.i .i64)] [.ag, (.i .i64)] (by kernel_rfl) (fun x w k => ring_New x.1 x.2.1 x.2.2 w k) (fun x w k => e_ring_New cells_Machine_Alloc x w k)

/-- (peloton/ring.Ring).Copy -/
def ring_Ring_Copy_b (ring_Ring_right : Array Value → World → ((Bool) → World → Prop) → Prop) (ring_Ring_Size : Array Value → World → ((Int) → World → Prop) → Prop) (r_0 : Array Value) (to_1 : Array Value) (from_2 : Int) (until_3 : Int) (w : World) (k : (Option Addr × Int) → World → Prop) : Prop :=
  newC w r_0 62 fun a1 w2 =>
  newC w2 to_1 62 fun a3 w4 =>
  joinP (S := Bool) (fun J5 =>
    ldA 2 w4 a1 fun cs6 =>
    ring_Ring_right cs6 w4 fun b7 w8 =>
    iteB (!b7) (
      (J5 true w8)) (
      ldA 2 w8 a3 fun cs9 =>
      ring_Ring_right cs9 w8 fun b10 w11 =>
      (J5 (!b10) w11))) fun b12 w13 =>
  iteB b12 (
    (k (none, (1 : Int)) w13)) (
    joinP (S := Bool) (fun J14 =>
      drew w13 fun w15 =>
      iteB (decide (until_3 < from_2)) (
        (J14 true w15)) (
        ldA 2 w15 a1 fun cs16 =>
        ldA 2 w15 a3 fun cs17 =>
        ring_Ring_Size cs16 w15 fun i18 w19 =>
        samec 2 a3 w15 w19 (
        ring_Ring_Size cs17 w19 fun i20 w21 =>
        (J14 (decide ((IntKind.wrap .u64 ((IntKind.wrap .u64 until_3) - (IntKind.wrap .u64 from_2))) > (IntKind.wrap .u64 (minI i18 i20)))) w21)))) fun b22 w23 =>
    iteB b22 (
      (k (none, (10 : Int)) w23)) (
      ldA 2 w23 a1 fun cs24 =>
      ldA 2 w23 a3 fun cs25 =>
      spl #[(.int .i64 (0 : Int)), (.int .i64 (0 : Int)), (.int .i64 (0 : Int)), (.int .i64 (0 : Int)), (.int .i64 (0 : Int)), (.int .i64 (0 : Int)), (.int .i64 (0 : Int)), .nilFunc] 0 2 cs24 fun cs26 =>
      spl cs26 2 2 cs25 fun cs27 =>
      newC w23 (Array.setIfInBounds (Array.setIfInBounds cs27 4 (.int .i64 from_2)) 5 (.int .i64 until_3)) 178 fun a28 w29 =>
      stC w29 (Addr.add a28 7) (.func (.func n_ring_Copy_load) #[(.pointer (some a28))] #[]) fun w30 =>
      (k ((some a28), (0 : Int)) w30)))
theorem e_ring_Ring_Copy (ring_Ring_right : Array Value → World → ((Bool) → World → Prop) → Prop) (ring_Ring_Size : Array Value → World → ((Int) → World → Prop) → Prop) (x : KT [.ag, .ag, (.i .i64), (.i .i64)]) (w : World) (k : KT [.p, (.i .i64)] → World → Prop) : evFn Go.Proofs.Try.prog (orcOf [(n_ring_Ring_right, (fun args w c => unL [.ag] args fun x => ring_Ring_right x w fun r w => c (packV (valL [.b] r)) w)), (n_ring_Ring_Size, (fun args w c => unL [.ag] args fun x => ring_Ring_Size x w fun r w => c (packV (valL [(.i .i64)] r)) w))]) 1052476 [(2, [(11, .b)]), (5, [(20, .b)])] Go.Proofs.Try.f116 [.p, (.i .i64)] (valL [.ag, .ag, (.i .i64), (.i .i64)] x) w k = ring_Ring_Copy_b ring_Ring_right ring_Ring_Size x.1 x.2.1 x.2.2.1 x.2.2.2 w k := by kernel_rfl
def ring_Ring_Copy (r_0 : Array Value) (to_1 : Array Value) (from_2 : Int) (until_3 : Int) (w : World) (k : (Option Addr × Int) → World → Prop) : Prop := ring_Ring_Copy_b ring_Ring_right ring_Ring_Size r_0 to_1 from_2 until_3 w k
def d_ring_Ring_Copy : Dec := fun args w c => unL [.ag, .ag, (.i .i64), (.i .i64)] args fun x => ring_Ring_Copy x.1 x.2.1 x.2.2.1 x.2.2.2 w fun r w => c (packV (valL [.p, (.i .i64)] r)) w
theorem s_ring_Ring_Copy : Sound Go.Proofs.Try.prog n_ring_Ring_Copy d_ring_Ring_Copy :=
  sound_of (mask := 1052476) (h := [(2, [(11, .b)]), (5, [(20, .b)])]) (ds := [(n_ring_Ring_right, d_ring_Ring_right), (n_ring_Ring_Size, d_ring_Ring_Size)]) mixed Go.Proofs.Try.func116 ⟨s_ring_Ring_right, s_ring_Ring_Size, trivial⟩
    [.ag, .ag, (.i .i64), (.i .i64)] [.p, (.i .i64)] (by kernel_rfl) (fun x w k => ring_Ring_Copy x.1 x.2.1 x.2.2.1 x.2.2.2 w k) (fun x w k => e_ring_Ring_Copy ring_Ring_right ring_Ring_Size x w k)

/-- (*peloton/deque.Op).pushNew -/
def deque_Op_pushNew_b (ring_New : Option Addr → Int → Int → World → ((Array Value × Int) → World → Prop) → Prop) (ring_Ring_Copy : Array Value → Array Value → Int → Int → World → ((Option Addr × Int) → World → Prop) → Prop) (o_0 : Option Addr) (m_1 : Option Addr) (w_2 : Int) (w : World) (k : (Int × Int) → World → Prop) : Prop :=
  nn o_0 fun a1 =>
  ldI .i64 w (Addr.add (Addr.add (Addr.add a1 0) 4) 1) fun i2 =>
  ring_New m_1 w_2 (IntKind.wrap .i64 (i2 + (1 : Int))) w fun x3 w4 =>
  newC w4 #[(.int .i64 (0 : Int)), (.int .i64 (0 : Int))] 62 fun a5 w6 =>
  stA 2 w6 a5 (x3.1, x3.2).1 fun w7 =>
  iteB ((x3.1, x3.2).2 != (0 : Int)) (
    (k ((6 : Int), (x3.1, x3.2).2) w7)) (
    ldA 2 w7 a5 fun cs8 =>
    nn o_0 fun a9 =>
    stA 2 w7 (Addr.add a9 8) cs8 fun w10 =>
    drew w10 fun w11 =>
    nn o_0 fun a12 =>
    ldA 2 w11 (Addr.add (Addr.add a12 0) 4) fun cs13 =>
    ldA 2 w11 a5 fun cs14 =>
    nn o_0 fun a15 =>
    ldI .i64 w11 (Addr.add (Addr.add a15 0) 3) fun i16 =>
    nn o_0 fun a17 =>
    ldI .i64 w11 (Addr.add (Addr.add a17 0) 2) fun i18 =>
    ring_Ring_Copy cs13 cs14 i16 i18 w11 fun x19 w20 =>
    nn o_0 fun a21 =>
    stC w20 (Addr.add a21 10) (.pointer (x19.1, x19.2).1) fun w22 =>
    nn o_0 fun a23 =>
    stC w22 (Addr.add a23 11) (.func (.func n_deque_Op_pushCopy) #[] #[]) fun w24 =>
    (k ((0 : Int), (x19.1, x19.2).2) w24))
theorem e_deque_Op_pushNew (ring_New : Option Addr → Int → Int → World → ((Array Value × Int) → World → Prop) → Prop) (ring_Ring_Copy : Array Value → Array Value → Int → Int → World → ((Option Addr × Int) → World → Prop) → Prop) (x : KT [.p, .p, (.i .i64)]) (w : World) (k : KT [(.i .i64), (.i .i64)] → World → Prop) : evFn Go.Proofs.Try.prog (orcOf [(n_ring_New, (fun args w c => unL [.p, (.i .i64), (.i .i64)] args fun x => ring_New x.1 x.2.1 x.2.2 w fun r w => c (packV (valL [.ag, (.i .i64)] r)) w)), (n_ring_Ring_Copy, (fun args w c => unL [.ag, .ag, (.i .i64), (.i .i64)] args fun x => ring_Ring_Copy x.1 x.2.1 x.2.2.1 x.2.2.2 w fun r w => c (packV (valL [.p, (.i .i64)] r)) w))]) 16778183 [] Go.Proofs.Try.f110 [(.i .i64), (.i .i64)] (valL [.p, .p, (.i .i64)] x) w k = deque_Op_pushNew_b ring_New ring_Ring_Copy x.1 x.2.1 x.2.2 w k := by kernel_rfl
def deque_Op_pushNew (o_0 : Option Addr) (m_1 : Option Addr) (w_2 : Int) (w : World) (k : (Int × Int) → World → Prop) : Prop := deque_Op_pushNew_b ring_New ring_Ring_Copy o_0 m_1 w_2 w k
def d_deque_Op_pushNew : Dec := fun args w c => unL [.p, .p, (.i .i64)] args fun x => deque_Op_pushNew x.1 x.2.1 x.2.2 w fun r w => c (packV (valL [(.i .i64), (.i .i64)] r)) w
theorem s_deque_Op_pushNew : Sound Go.Proofs.Try.prog n_deque_Op_pushNew d_deque_Op_pushNew :=
  sound_of (mask := 16778183) (h := []) (ds := [(n_ring_New, d_ring_New), (n_ring_Ring_Copy, d_ring_Ring_Copy)]) mixed Go.Proofs.Try.func110 ⟨s_ring_New, s_ring_Ring_Copy, trivial⟩
    [.p, .p, (.i .i64)] [(.i .i64), (.i .i64)] (by kernel_rfl) (fun x w k => deque_Op_pushNew x.1 x.2.1 x.2.2 w k) (fun x w k => e_deque_Op_pushNew ring_New ring_Ring_Copy x w k)

/-- (peloton/ring.Ring).Place -/
def ring_Ring_Place_b (ring_Ring_right : Array Value → World → ((Bool) → World → Prop) → Prop) (ring_Ring_Size : Array Value → World → ((Int) → World → Prop) → Prop) (r_0 : Array Value) (i_1 : Int) (w : World) (k : (Int) → World → Prop) : Prop :=
  newC w r_0 62 fun a1 w2 =>
  ldA 2 w2 a1 fun cs3 =>
  ring_Ring_right cs3 w2 fun b4 w5 =>
  iteB (!b4) (
    (k (-(1 : Int)) w5)) (
    drew w5 fun w6 =>
    ldI .i64 w6 (Addr.add a1 0) fun i7 =>
    ldA 2 w6 a1 fun cs8 =>
    ring_Ring_Size cs8 w6 fun i9 w10 =>
    samec 1 (Addr.add a1 0) w6 w10 (
    (k (IntKind.wrap .i64 (i7 + (andI .i64 i_1 (IntKind.wrap .i64 (i9 - (1 : Int)))))) w10)))
theorem e_ring_Ring_Place (ring_Ring_right : Array Value → World → ((Bool) → World → Prop) → Prop) (ring_Ring_Size : Array Value → World → ((Int) → World → Prop) → Prop) (x : KT [.ag, (.i .i64)]) (w : World) (k : KT [(.i .i64)] → World → Prop) : evFn Go.Proofs.Try.prog (orcOf [(n_ring_Ring_right, (fun args w c => unL [.ag] args fun x => ring_Ring_right x w fun r w => c (packV (valL [.b] r)) w)), (n_ring_Ring_Size, (fun args w c => unL [.ag] args fun x => ring_Ring_Size x w fun r w => c (packV (valL [(.i .i64)] r)) w))]) 150 [] Go.Proofs.Try.f67 [(.i .i64)] (valL [.ag, (.i .i64)] x) w k = ring_Ring_Place_b ring_Ring_right ring_Ring_Size x.1 x.2 w k := by kernel_rfl
def ring_Ring_Place (r_0 : Array Value) (i_1 : Int) (w : World) (k : (Int) → World → Prop) : Prop := ring_Ring_Place_b ring_Ring_right ring_Ring_Size r_0 i_1 w k
def d_ring_Ring_Place : Dec := fun args w c => unL [.ag, (.i .i64)] args fun x => ring_Ring_Place x.1 x.2 w fun r w => c (packV (valL [(.i .i64)] r)) w
theorem s_ring_Ring_Place : Sound Go.Proofs.Try.prog n_ring_Ring_Place d_ring_Ring_Place :=
  sound_of (mask := 150) (h := []) (ds := [(n_ring_Ring_right, d_ring_Ring_right), (n_ring_Ring_Size, d_ring_Ring_Size)]) mixed Go.Proofs.Try.func67 ⟨s_ring_Ring_right, s_ring_Ring_Size, trivial⟩
    [.ag, (.i .i64)] [(.i .i64)] (by kernel_rfl) (fun x w k => ring_Ring_Place x.1 x.2 w k) (fun x w k => e_ring_Ring_Place ring_Ring_right ring_Ring_Size x w k)

/-- (*peloton/ring.Copy).load -/
def ring_Copy_load_b (ring_Ring_Place : Array Value → Int → World → ((Int) → World → Prop) → Prop) (cells_Machine_Load : Option Addr → Int → Int → World → ((Int × Int) → World → Prop) → Prop) (c_0 : Option Addr) (m_1 : Option Addr) (w_2 : Int) (w : World) (k : (Int) → World → Prop) : Prop :=
  drew w fun w1 =>
  nn c_0 fun a2 =>
  ldA 2 w1 (Addr.add a2 0) fun cs3 =>
  nn c_0 fun a4 =>
  ldI .i64 w1 (Addr.add a4 4) fun i5 =>
  ring_Ring_Place cs3 i5 w1 fun i6 w7 =>
  cells_Machine_Load m_1 w_2 i6 w7 fun x8 w9 =>
  iteB ((x8.1, x8.2).2 != (0 : Int)) (
    (k (x8.1, x8.2).2 w9)) (
    nn c_0 fun a10 =>
    stC w9 (Addr.add a10 6) (.int .i64 (x8.1, x8.2).1) fun w11 =>
    nn c_0 fun a12 =>
    stC w11 (Addr.add a12 7) (.func (.func n_ring_Copy_store) #[(.pointer c_0)] #[]) fun w13 =>
    (k (0 : Int) w13))
theorem e_ring_Copy_load (ring_Ring_Place : Array Value → Int → World → ((Int) → World → Prop) → Prop) (cells_Machine_Load : Option Addr → Int → Int → World → ((Int × Int) → World → Prop) → Prop) (x : KT [.p, .p, (.i .i64)]) (w : World) (k : KT [(.i .i64)] → World → Prop) : evFn Go.Proofs.Try.prog (orcOf [(n_ring_Ring_Place, (fun args w c => unL [.ag, (.i .i64)] args fun x => ring_Ring_Place x.1 x.2 w fun r w => c (packV (valL [(.i .i64)] r)) w)), (n_cells_Machine_Load, (fun args w c => unL [.p, (.i .i64), (.i .i64)] args fun x => cells_Machine_Load x.1 x.2.1 x.2.2 w fun r w => c (packV (valL [(.i .i64), (.i .i64)] r)) w))]) 33554887 [] Go.Proofs.Try.f121 [(.i .i64)] (valL [.p, .p, (.i .i64)] x) w k = ring_Copy_load_b ring_Ring_Place cells_Machine_Load x.1 x.2.1 x.2.2 w k := by kernel_rfl
def ring_Copy_load (c_0 : Option Addr) (m_1 : Option Addr) (w_2 : Int) (w : World) (k : (Int) → World → Prop) : Prop := ring_Copy_load_b ring_Ring_Place cells_Machine_Load c_0 m_1 w_2 w k
def d_ring_Copy_load : Dec := fun args w c => unL [.p, .p, (.i .i64)] args fun x => ring_Copy_load x.1 x.2.1 x.2.2 w fun r w => c (packV (valL [(.i .i64)] r)) w
theorem s_ring_Copy_load : Sound Go.Proofs.Try.prog n_ring_Copy_load d_ring_Copy_load :=
  sound_of (mask := 33554887) (h := []) (ds := [(n_ring_Ring_Place, d_ring_Ring_Place), (n_cells_Machine_Load, d_cells_Machine_Load)]) mixed Go.Proofs.Try.func121 ⟨s_ring_Ring_Place, s_cells_Machine_Load, trivial⟩
    [.p, .p, (.i .i64)] [(.i .i64)] (by kernel_rfl) (fun x w k => ring_Copy_load x.1 x.2.1 x.2.2 w k) (fun x w k => e_ring_Copy_load ring_Ring_Place cells_Machine_Load x w k)

/-- (*peloton/ring.Copy).store -/
def ring_Copy_store_b (ring_Ring_Place : Array Value → Int → World → ((Int) → World → Prop) → Prop) (cells_Machine_Store : Option Addr → Int → Int → Int → World → ((Int) → World → Prop) → Prop) (c_0 : Option Addr) (m_1 : Option Addr) (w_2 : Int) (w : World) (k : (Int) → World → Prop) : Prop :=
  drew w fun w1 =>
  nn c_0 fun a2 =>
  ldA 2 w1 (Addr.add a2 2) fun cs3 =>
  nn c_0 fun a4 =>
  ldI .i64 w1 (Addr.add a4 4) fun i5 =>
  nn c_0 fun a6 =>
  ldI .i64 w1 (Addr.add a6 6) fun i7 =>
  ring_Ring_Place cs3 i5 w1 fun i8 w9 =>
  samec 1 (Addr.add a6 6) w1 w9 (
  cells_Machine_Store m_1 w_2 i8 i7 w9 fun i10 w11 =>
  iteB (i10 != (0 : Int)) (
    (k i10 w11)) (
    nn c_0 fun a12 =>
    ldI .i64 w11 (Addr.add a12 4) fun i13 =>
    nn c_0 fun a14 =>
    stC w11 (Addr.add a14 4) (.int .i64 (IntKind.wrap .i64 (i13 + (1 : Int)))) fun w15 =>
    nn c_0 fun a16 =>
    stC w15 (Addr.add a16 7) (.func (.func n_ring_Copy_load) #[(.pointer c_0)] #[]) fun w17 =>
    (k (0 : Int) w17)))
theorem e_ring_Copy_store (ring_Ring_Place : Array Value → Int → World → ((Int) → World → Prop) → Prop) (cells_Machine_Store : Option Addr → Int → Int → Int → World → ((Int) → World → Prop) → Prop) (x : KT [.p, .p, (.i .i64)]) (w : World) (k : KT [(.i .i64)] → World → Prop) : evFn Go.Proofs.Try.prog (orcOf [(n_ring_Ring_Place, (fun args w c => unL [.ag, (.i .i64)] args fun x => ring_Ring_Place x.1 x.2 w fun r w => c (packV (valL [(.i .i64)] r)) w)), (n_cells_Machine_Store, (fun args w c => unL [.p, (.i .i64), (.i .i64), (.i .i64)] args fun x => cells_Machine_Store x.1 x.2.1 x.2.2.1 x.2.2.2 w fun r w => c (packV (valL [(.i .i64)] r)) w))]) 33554631 [] Go.Proofs.Try.f126 [(.i .i64)] (valL [.p, .p, (.i .i64)] x) w k = ring_Copy_store_b ring_Ring_Place cells_Machine_Store x.1 x.2.1 x.2.2 w k := by kernel_rfl
def ring_Copy_store (c_0 : Option Addr) (m_1 : Option Addr) (w_2 : Int) (w : World) (k : (Int) → World → Prop) : Prop := ring_Copy_store_b ring_Ring_Place cells_Machine_Store c_0 m_1 w_2 w k
def d_ring_Copy_store : Dec := fun args w c => unL [.p, .p, (.i .i64)] args fun x => ring_Copy_store x.1 x.2.1 x.2.2 w fun r w => c (packV (valL [(.i .i64)] r)) w
theorem s_ring_Copy_store : Sound Go.Proofs.Try.prog n_ring_Copy_store d_ring_Copy_store :=
  sound_of (mask := 33554631) (h := []) (ds := [(n_ring_Ring_Place, d_ring_Ring_Place), (n_cells_Machine_Store, d_cells_Machine_Store)]) mixed Go.Proofs.Try.func126 ⟨s_ring_Ring_Place, s_cells_Machine_Store, trivial⟩
    [.p, .p, (.i .i64)] [(.i .i64)] (by kernel_rfl) (fun x w k => ring_Copy_store x.1 x.2.1 x.2.2 w k) (fun x w k => e_ring_Copy_store ring_Ring_Place cells_Machine_Store x w k)

/-- (*peloton/ring.Copy).Step -/
def ring_Copy_Step_b (ring_Copy_load : Option Addr → Option Addr → Int → World → ((Int) → World → Prop) → Prop) (ring_Copy_store : Option Addr → Option Addr → Int → World → ((Int) → World → Prop) → Prop) (c_0 : Option Addr) (m_1 : Option Addr) (w_2 : Int) (w : World) (k : (Bool × Int) → World → Prop) : Prop :=
  iteB ((Option.isNone c_0) || (Option.isNone m_1)) (
    (k (false, (2 : Int)) w)) (
    drew w fun w1 =>
    nn c_0 fun a2 =>
    ldI .i64 w1 (Addr.add a2 4) fun i3 =>
    nn c_0 fun a4 =>
    ldI .i64 w1 (Addr.add a4 5) fun i5 =>
    iteB (i3 == i5) (
      (k (true, (0 : Int)) w1)) (
      nn c_0 fun a6 =>
      ldV w1 (Addr.add a6 7) fun v7 =>
      callF (orcOf [(n_ring_Copy_load, (fun args w c => unL [.p, .p, (.i .i64)] args fun x => ring_Copy_load x.1 x.2.1 x.2.2 w fun r w => c (packV (valL [(.i .i64)] r)) w)), (n_ring_Copy_store, (fun args w c => unL [.p, .p, (.i .i64)] args fun x => ring_Copy_store x.1 x.2.1 x.2.2 w fun r w => c (packV (valL [(.i .i64)] r)) w))]) v7 #[(.pointer m_1), (.int .i64 w_2)] w1 fun v8 w9 =>
      toI .i64 v8 fun i10 =>
      iteB (i10 != (0 : Int)) (
        (k (false, i10) w9)) (
        drew w9 fun w11 =>
        nn c_0 fun a12 =>
        ldI .i64 w11 (Addr.add a12 4) fun i13 =>
        nn c_0 fun a14 =>
        ldI .i64 w11 (Addr.add a14 5) fun i15 =>
        (k ((i13 == i15), (0 : Int)) w11))))
theorem e_ring_Copy_Step (ring_Copy_load : Option Addr → Option Addr → Int → World → ((Int) → World → Prop) → Prop) (ring_Copy_store : Option Addr → Option Addr → Int → World → ((Int) → World → Prop) → Prop) (x : KT [.p, .p, (.i .i64)]) (w : World) (k : KT [.b, (.i .i64)] → World → Prop) : evFn Go.Proofs.Try.prog (orcOf [(n_ring_Copy_load, (fun args w c => unL [.p, .p, (.i .i64)] args fun x => ring_Copy_load x.1 x.2.1 x.2.2 w fun r w => c (packV (valL [(.i .i64)] r)) w)), (n_ring_Copy_store, (fun args w c => unL [.p, .p, (.i .i64)] args fun x => ring_Copy_store x.1 x.2.1 x.2.2 w fun r w => c (packV (valL [(.i .i64)] r)) w))]) 17179935687 [] Go.Proofs.Try.f122 [.b, (.i .i64)] (valL [.p, .p, (.i .i64)] x) w k = ring_Copy_Step_b ring_Copy_load ring_Copy_store x.1 x.2.1 x.2.2 w k := by kernel_rfl
def ring_Copy_Step (c_0 : Option Addr) (m_1 : Option Addr) (w_2 : Int) (w : World) (k : (Bool × Int) → World → Prop) : Prop := ring_Copy_Step_b ring_Copy_load ring_Copy_store c_0 m_1 w_2 w k
def d_ring_Copy_Step : Dec := fun args w c => unL [.p, .p, (.i .i64)] args fun x => ring_Copy_Step x.1 x.2.1 x.2.2 w fun r w => c (packV (valL [.b, (.i .i64)] r)) w
theorem s_ring_Copy_Step : Sound Go.Proofs.Try.prog n_ring_Copy_Step d_ring_Copy_Step :=
  sound_of (mask := 17179935687) (h := []) (ds := [(n_ring_Copy_load, d_ring_Copy_load), (n_ring_Copy_store, d_ring_Copy_store)]) mixed Go.Proofs.Try.func122 ⟨s_ring_Copy_load, s_ring_Copy_store, trivial⟩
    [.p, .p, (.i .i64)] [.b, (.i .i64)] (by kernel_rfl) (fun x w k => ring_Copy_Step x.1 x.2.1 x.2.2 w k) (fun x w k => e_ring_Copy_Step ring_Copy_load ring_Copy_store x w k)

/-- (*peloton/deque.Op).pushCopy -/
def deque_Op_pushCopy_b (ring_Copy_Step : Option Addr → Option Addr → Int → World → ((Bool × Int) → World → Prop) → Prop) (o_0 : Option Addr) (m_1 : Option Addr) (w_2 : Int) (w : World) (k : (Int × Int) → World → Prop) : Prop :=
  nn o_0 fun a1 =>
  ldP w (Addr.add a1 10) fun p2 =>
  ring_Copy_Step p2 m_1 w_2 w fun x3 w4 =>
  iteB (x3.1, x3.2).1 (
    nn o_0 fun a5 =>
    stC w4 (Addr.add a5 11) (.func (.func n_deque_Op_pushWord) #[] #[]) fun w6 =>
    (k ((0 : Int), (x3.1, x3.2).2) w6)) (
    (k ((0 : Int), (x3.1, x3.2).2) w4))
theorem e_deque_Op_pushCopy (ring_Copy_Step : Option Addr → Option Addr → Int → World → ((Bool × Int) → World → Prop) → Prop) (x : KT [.p, .p, (.i .i64)]) (w : World) (k : KT [(.i .i64), (.i .i64)] → World → Prop) : evFn Go.Proofs.Try.prog (orcOf [(n_ring_Copy_Step, (fun args w c => unL [.p, .p, (.i .i64)] args fun x => ring_Copy_Step x.1 x.2.1 x.2.2 w fun r w => c (packV (valL [.b, (.i .i64)] r)) w))]) 1049543 [] Go.Proofs.Try.f117 [(.i .i64), (.i .i64)] (valL [.p, .p, (.i .i64)] x) w k = deque_Op_pushCopy_b ring_Copy_Step x.1 x.2.1 x.2.2 w k := by kernel_rfl
def deque_Op_pushCopy (o_0 : Option Addr) (m_1 : Option Addr) (w_2 : Int) (w : World) (k : (Int × Int) → World → Prop) : Prop := deque_Op_pushCopy_b ring_Copy_Step o_0 m_1 w_2 w k
def d_deque_Op_pushCopy : Dec := fun args w c => unL [.p, .p, (.i .i64)] args fun x => deque_Op_pushCopy x.1 x.2.1 x.2.2 w fun r w => c (packV (valL [(.i .i64), (.i .i64)] r)) w
theorem s_deque_Op_pushCopy : Sound Go.Proofs.Try.prog n_deque_Op_pushCopy d_deque_Op_pushCopy :=
  sound_of (mask := 1049543) (h := []) (ds := [(n_ring_Copy_Step, d_ring_Copy_Step)]) mixed Go.Proofs.Try.func117 ⟨s_ring_Copy_Step, trivial⟩
    [.p, .p, (.i .i64)] [(.i .i64), (.i .i64)] (by kernel_rfl) (fun x w k => deque_Op_pushCopy x.1 x.2.1 x.2.2 w k) (fun x w k => e_deque_Op_pushCopy ring_Copy_Step x w k)

/-- (*peloton/deque.Op).store -/
def deque_Op_store_b (cells_Machine_Store : Option Addr → Int → Int → Int → World → ((Int) → World → Prop) → Prop) (o_0 : Option Addr) (m_1 : Option Addr) (w_2 : Int) (at_3 : Int) (x_4 : Int) (next_5 : Value) (w : World) (k : (Int × Int) → World → Prop) : Prop :=
  nn o_0 fun a1 =>
  stC w (Addr.add a1 11) next_5 fun w2 =>
  cells_Machine_Store m_1 w_2 at_3 x_4 w2 fun i3 w4 =>
  (k ((0 : Int), i3) w4)
theorem e_deque_Op_store (cells_Machine_Store : Option Addr → Int → Int → Int → World → ((Int) → World → Prop) → Prop) (x : KT [.p, .p, (.i .i64), (.i .i64), (.i .i64), .raw]) (w : World) (k : KT [(.i .i64), (.i .i64)] → World → Prop) : evFn Go.Proofs.Try.prog (orcOf [(n_cells_Machine_Store, (fun args w c => unL [.p, (.i .i64), (.i .i64), (.i .i64)] args fun x => cells_Machine_Store x.1 x.2.1 x.2.2.1 x.2.2.2 w fun r w => c (packV (valL [(.i .i64)] r)) w))]) 12351 [] Go.Proofs.Try.f112 [(.i .i64), (.i .i64)] (valL [.p, .p, (.i .i64), (.i .i64), (.i .i64), .raw] x) w k = deque_Op_store_b cells_Machine_Store x.1 x.2.1 x.2.2.1 x.2.2.2.1 x.2.2.2.2.1 x.2.2.2.2.2 w k := by kernel_rfl
def deque_Op_store (o_0 : Option Addr) (m_1 : Option Addr) (w_2 : Int) (at_3 : Int) (x_4 : Int) (next_5 : Value) (w : World) (k : (Int × Int) → World → Prop) : Prop := deque_Op_store_b cells_Machine_Store o_0 m_1 w_2 at_3 x_4 next_5 w k
def d_deque_Op_store : Dec := fun args w c => unL [.p, .p, (.i .i64), (.i .i64), (.i .i64), .raw] args fun x => deque_Op_store x.1 x.2.1 x.2.2.1 x.2.2.2.1 x.2.2.2.2.1 x.2.2.2.2.2 w fun r w => c (packV (valL [(.i .i64), (.i .i64)] r)) w
theorem s_deque_Op_store : Sound Go.Proofs.Try.prog n_deque_Op_store d_deque_Op_store :=
  sound_of (mask := 12351) (h := []) (ds := [(n_cells_Machine_Store, d_cells_Machine_Store)]) mixed Go.Proofs.Try.func112 ⟨s_cells_Machine_Store, trivial⟩
    [.p, .p, (.i .i64), (.i .i64), (.i .i64), .raw] [(.i .i64), (.i .i64)] (by kernel_rfl) (fun x w k => deque_Op_store x.1 x.2.1 x.2.2.1 x.2.2.2.1 x.2.2.2.2.1 x.2.2.2.2.2 w k) (fun x w k => e_deque_Op_store cells_Machine_Store x w k)

/-- (*peloton/deque.Op).pushWord -/
def deque_Op_pushWord_b (deque_Deque_word : Array Value → World → ((Int) → World → Prop) → Prop) (ring_Ring_Word : Array Value → World → ((Int) → World → Prop) → Prop) (deque_Op_store : Option Addr → Option Addr → Int → Int → Int → Value → World → ((Int × Int) → World → Prop) → Prop) (o_0 : Option Addr) (m_1 : Option Addr) (w_2 : Int) (w : World) (k : (Int × Int) → World → Prop) : Prop :=
  nn o_0 fun a1 =>
  ldA 2 w (Addr.add a1 8) fun cs2 =>
  nn o_0 fun a3 =>
  stA 2 w (Addr.add (Addr.add a3 0) 4) cs2 fun w4 =>
  drew w4 fun w5 =>
  nn o_0 fun a6 =>
  ldA 2 w5 (Addr.add (Addr.add a6 0) 0) fun cs7 =>
  nn o_0 fun a8 =>
  ldA 2 w5 (Addr.add (Addr.add a8 0) 4) fun cs9 =>
  deque_Deque_word cs7 w5 fun i10 w11 =>
  samec 2 (Addr.add (Addr.add a8 0) 4) w5 w11 (
  ring_Ring_Word cs9 w11 fun i12 w13 =>
  deque_Op_store o_0 m_1 w_2 i10 i12 (.func (.func n_deque_Op_pushThing) #[] #[]) w13 fun x14 w15 =>
  (k ((x14.1, x14.2).1, (x14.1, x14.2).2) w15))
theorem e_deque_Op_pushWord (deque_Deque_word : Array Value → World → ((Int) → World → Prop) → Prop) (ring_Ring_Word : Array Value → World → ((Int) → World → Prop) → Prop) (deque_Op_store : Option Addr → Option Addr → Int → Int → Int → Value → World → ((Int × Int) → World → Prop) → Prop) (x : KT [.p, .p, (.i .i64)]) (w : World) (k : KT [(.i .i64), (.i .i64)] → World → Prop) : evFn Go.Proofs.Try.prog (orcOf [(n_deque_Deque_word, (fun args w c => unL [.ag] args fun x => deque_Deque_word x w fun r w => c (packV (valL [(.i .i64)] r)) w)), (n_ring_Ring_Word, (fun args w c => unL [.ag] args fun x => ring_Ring_Word x w fun r w => c (packV (valL [(.i .i64)] r)) w)), (n_deque_Op_store, (fun args w c => unL [.p, .p, (.i .i64), (.i .i64), (.i .i64), .raw] args fun x => deque_Op_store x.1 x.2.1 x.2.2.1 x.2.2.2.1 x.2.2.2.2.1 x.2.2.2.2.2 w fun r w => c (packV (valL [(.i .i64), (.i .i64)] r)) w))]) 199 [] Go.Proofs.Try.f123 [(.i .i64), (.i .i64)] (valL [.p, .p, (.i .i64)] x) w k = deque_Op_pushWord_b deque_Deque_word ring_Ring_Word deque_Op_store x.1 x.2.1 x.2.2 w k := by kernel_rfl
def deque_Op_pushWord (o_0 : Option Addr) (m_1 : Option Addr) (w_2 : Int) (w : World) (k : (Int × Int) → World → Prop) : Prop := deque_Op_pushWord_b deque_Deque_word ring_Ring_Word deque_Op_store o_0 m_1 w_2 w k
def d_deque_Op_pushWord : Dec := fun args w c => unL [.p, .p, (.i .i64)] args fun x => deque_Op_pushWord x.1 x.2.1 x.2.2 w fun r w => c (packV (valL [(.i .i64), (.i .i64)] r)) w
theorem s_deque_Op_pushWord : Sound Go.Proofs.Try.prog n_deque_Op_pushWord d_deque_Op_pushWord :=
  sound_of (mask := 199) (h := []) (ds := [(n_deque_Deque_word, d_deque_Deque_word), (n_ring_Ring_Word, d_ring_Ring_Word), (n_deque_Op_store, d_deque_Op_store)]) mixed Go.Proofs.Try.func123 ⟨s_deque_Deque_word, s_ring_Ring_Word, s_deque_Op_store, trivial⟩
    [.p, .p, (.i .i64)] [(.i .i64), (.i .i64)] (by kernel_rfl) (fun x w k => deque_Op_pushWord x.1 x.2.1 x.2.2 w k) (fun x w k => e_deque_Op_pushWord deque_Deque_word ring_Ring_Word deque_Op_store x w k)

/-- (*peloton/deque.Op).pushThing -/
def deque_Op_pushThing_b (ring_Ring_Place : Array Value → Int → World → ((Int) → World → Prop) → Prop) (deque_Op_store : Option Addr → Option Addr → Int → Int → Int → Value → World → ((Int × Int) → World → Prop) → Prop) (o_0 : Option Addr) (m_1 : Option Addr) (w_2 : Int) (w : World) (k : (Int × Int) → World → Prop) : Prop :=
  drew w fun w1 =>
  nn o_0 fun a2 =>
  ldA 2 w1 (Addr.add (Addr.add a2 0) 4) fun cs3 =>
  nn o_0 fun a4 =>
  ldI .i64 w1 (Addr.add (Addr.add a4 0) 2) fun i5 =>
  nn o_0 fun a6 =>
  ldI .i64 w1 (Addr.add a6 6) fun i7 =>
  ring_Ring_Place cs3 i5 w1 fun i8 w9 =>
  samec 1 (Addr.add a6 6) w1 w9 (
  deque_Op_store o_0 m_1 w_2 i8 i7 (.func (.func n_deque_Op_pushDone) #[] #[]) w9 fun x10 w11 =>
  (k ((x10.1, x10.2).1, (x10.1, x10.2).2) w11))
theorem e_deque_Op_pushThing (ring_Ring_Place : Array Value → Int → World → ((Int) → World → Prop) → Prop) (deque_Op_store : Option Addr → Option Addr → Int → Int → Int → Value → World → ((Int × Int) → World → Prop) → Prop) (x : KT [.p, .p, (.i .i64)]) (w : World) (k : KT [(.i .i64), (.i .i64)] → World → Prop) : evFn Go.Proofs.Try.prog (orcOf [(n_ring_Ring_Place, (fun args w c => unL [.ag, (.i .i64)] args fun x => ring_Ring_Place x.1 x.2 w fun r w => c (packV (valL [(.i .i64)] r)) w)), (n_deque_Op_store, (fun args w c => unL [.p, .p, (.i .i64), (.i .i64), (.i .i64), .raw] args fun x => deque_Op_store x.1 x.2.1 x.2.2.1 x.2.2.2.1 x.2.2.2.2.1 x.2.2.2.2.2 w fun r w => c (packV (valL [(.i .i64), (.i .i64)] r)) w))]) 199 [] Go.Proofs.Try.f109 [(.i .i64), (.i .i64)] (valL [.p, .p, (.i .i64)] x) w k = deque_Op_pushThing_b ring_Ring_Place deque_Op_store x.1 x.2.1 x.2.2 w k := by kernel_rfl
def deque_Op_pushThing (o_0 : Option Addr) (m_1 : Option Addr) (w_2 : Int) (w : World) (k : (Int × Int) → World → Prop) : Prop := deque_Op_pushThing_b ring_Ring_Place deque_Op_store o_0 m_1 w_2 w k
def d_deque_Op_pushThing : Dec := fun args w c => unL [.p, .p, (.i .i64)] args fun x => deque_Op_pushThing x.1 x.2.1 x.2.2 w fun r w => c (packV (valL [(.i .i64), (.i .i64)] r)) w
theorem s_deque_Op_pushThing : Sound Go.Proofs.Try.prog n_deque_Op_pushThing d_deque_Op_pushThing :=
  sound_of (mask := 199) (h := []) (ds := [(n_ring_Ring_Place, d_ring_Ring_Place), (n_deque_Op_store, d_deque_Op_store)]) mixed Go.Proofs.Try.func109 ⟨s_ring_Ring_Place, s_deque_Op_store, trivial⟩
    [.p, .p, (.i .i64)] [(.i .i64), (.i .i64)] (by kernel_rfl) (fun x w k => deque_Op_pushThing x.1 x.2.1 x.2.2 w k) (fun x w k => e_deque_Op_pushThing ring_Ring_Place deque_Op_store x w k)

/-- (*peloton/deque.Op).pushDone -/
def deque_Op_pushDone_b (deque_Deque_bottom : Array Value → World → ((Int) → World → Prop) → Prop) (cells_Machine_Store : Option Addr → Int → Int → Int → World → ((Int) → World → Prop) → Prop) (o_0 : Option Addr) (m_1 : Option Addr) (w_2 : Int) (w : World) (k : (Int × Int) → World → Prop) : Prop :=
  drew w fun w1 =>
  nn o_0 fun a2 =>
  ldA 2 w1 (Addr.add (Addr.add a2 0) 0) fun cs3 =>
  nn o_0 fun a4 =>
  ldI .i64 w1 (Addr.add (Addr.add a4 0) 2) fun i5 =>
  deque_Deque_bottom cs3 w1 fun i6 w7 =>
  samec 1 (Addr.add (Addr.add a4 0) 2) w1 w7 (
  cells_Machine_Store m_1 w_2 i6 (IntKind.wrap .i64 (i5 + (1 : Int))) w7 fun i8 w9 =>
  (k ((1 : Int), i8) w9))
theorem e_deque_Op_pushDone (deque_Deque_bottom : Array Value → World → ((Int) → World → Prop) → Prop) (cells_Machine_Store : Option Addr → Int → Int → Int → World → ((Int) → World → Prop) → Prop) (x : KT [.p, .p, (.i .i64)]) (w : World) (k : KT [(.i .i64), (.i .i64)] → World → Prop) : evFn Go.Proofs.Try.prog (orcOf [(n_deque_Deque_bottom, (fun args w c => unL [.ag] args fun x => deque_Deque_bottom x w fun r w => c (packV (valL [(.i .i64)] r)) w)), (n_cells_Machine_Store, (fun args w c => unL [.p, (.i .i64), (.i .i64), (.i .i64)] args fun x => cells_Machine_Store x.1 x.2.1 x.2.2.1 x.2.2.2 w fun r w => c (packV (valL [(.i .i64)] r)) w))]) 199 [] Go.Proofs.Try.f114 [(.i .i64), (.i .i64)] (valL [.p, .p, (.i .i64)] x) w k = deque_Op_pushDone_b deque_Deque_bottom cells_Machine_Store x.1 x.2.1 x.2.2 w k := by kernel_rfl
def deque_Op_pushDone (o_0 : Option Addr) (m_1 : Option Addr) (w_2 : Int) (w : World) (k : (Int × Int) → World → Prop) : Prop := deque_Op_pushDone_b deque_Deque_bottom cells_Machine_Store o_0 m_1 w_2 w k
def d_deque_Op_pushDone : Dec := fun args w c => unL [.p, .p, (.i .i64)] args fun x => deque_Op_pushDone x.1 x.2.1 x.2.2 w fun r w => c (packV (valL [(.i .i64), (.i .i64)] r)) w
theorem s_deque_Op_pushDone : Sound Go.Proofs.Try.prog n_deque_Op_pushDone d_deque_Op_pushDone :=
  sound_of (mask := 199) (h := []) (ds := [(n_deque_Deque_bottom, d_deque_Deque_bottom), (n_cells_Machine_Store, d_cells_Machine_Store)]) mixed Go.Proofs.Try.func114 ⟨s_deque_Deque_bottom, s_cells_Machine_Store, trivial⟩
    [.p, .p, (.i .i64)] [(.i .i64), (.i .i64)] (by kernel_rfl) (fun x w k => deque_Op_pushDone x.1 x.2.1 x.2.2 w k) (fun x w k => e_deque_Op_pushDone deque_Deque_bottom cells_Machine_Store x w k)

/-- (*peloton/deque.Op).popBottom -/
def deque_Op_popBottom_b (deque_Deque_bottom : Array Value → World → ((Int) → World → Prop) → Prop) (deque_Op_load : Option Addr → Option Addr → Int → Int → Option Addr → Value → World → ((Int × Int) → World → Prop) → Prop) (o_0 : Option Addr) (m_1 : Option Addr) (w_2 : Int) (w : World) (k : (Int × Int) → World → Prop) : Prop :=
  drew w fun w1 =>
  nn o_0 fun a2 =>
  ldA 2 w1 (Addr.add (Addr.add a2 0) 0) fun cs3 =>
  nn o_0 fun a4 =>
  deque_Deque_bottom cs3 w1 fun i5 w6 =>
  deque_Op_load o_0 m_1 w_2 i5 (some (Addr.add (Addr.add a4 0) 2)) (.func (.func n_deque_Op_popRing) #[] #[]) w6 fun x7 w8 =>
  (k ((x7.1, x7.2).1, (x7.1, x7.2).2) w8)
theorem e_deque_Op_popBottom (deque_Deque_bottom : Array Value → World → ((Int) → World → Prop) → Prop) (deque_Op_load : Option Addr → Option Addr → Int → Int → Option Addr → Value → World → ((Int × Int) → World → Prop) → Prop) (x : KT [.p, .p, (.i .i64)]) (w : World) (k : KT [(.i .i64), (.i .i64)] → World → Prop) : evFn Go.Proofs.Try.prog (orcOf [(n_deque_Deque_bottom, (fun args w c => unL [.ag] args fun x => deque_Deque_bottom x w fun r w => c (packV (valL [(.i .i64)] r)) w)), (n_deque_Op_load, (fun args w c => unL [.p, .p, (.i .i64), (.i .i64), .p, .raw] args fun x => deque_Op_load x.1 x.2.1 x.2.2.1 x.2.2.2.1 x.2.2.2.2.1 x.2.2.2.2.2 w fun r w => c (packV (valL [(.i .i64), (.i .i64)] r)) w))]) 199 [] Go.Proofs.Try.f72 [(.i .i64), (.i .i64)] (valL [.p, .p, (.i .i64)] x) w k = deque_Op_popBottom_b deque_Deque_bottom deque_Op_load x.1 x.2.1 x.2.2 w k := by kernel_rfl
def deque_Op_popBottom (o_0 : Option Addr) (m_1 : Option Addr) (w_2 : Int) (w : World) (k : (Int × Int) → World → Prop) : Prop := deque_Op_popBottom_b deque_Deque_bottom deque_Op_load o_0 m_1 w_2 w k
def d_deque_Op_popBottom : Dec := fun args w c => unL [.p, .p, (.i .i64)] args fun x => deque_Op_popBottom x.1 x.2.1 x.2.2 w fun r w => c (packV (valL [(.i .i64), (.i .i64)] r)) w
theorem s_deque_Op_popBottom : Sound Go.Proofs.Try.prog n_deque_Op_popBottom d_deque_Op_popBottom :=
  sound_of (mask := 199) (h := []) (ds := [(n_deque_Deque_bottom, d_deque_Deque_bottom), (n_deque_Op_load, d_deque_Op_load)]) mixed Go.Proofs.Try.func72 ⟨s_deque_Deque_bottom, s_deque_Op_load, trivial⟩
    [.p, .p, (.i .i64)] [(.i .i64), (.i .i64)] (by kernel_rfl) (fun x w k => deque_Op_popBottom x.1 x.2.1 x.2.2 w k) (fun x w k => e_deque_Op_popBottom deque_Deque_bottom deque_Op_load x w k)

/-- (*peloton/deque.Op).popRing -/
def deque_Op_popRing_b (deque_Op_read : Option Addr → Option Addr → Int → World → ((Int) → World → Prop) → Prop) (o_0 : Option Addr) (m_1 : Option Addr) (w_2 : Int) (w : World) (k : (Int × Int) → World → Prop) : Prop :=
  nn o_0 fun a1 =>
  stC w (Addr.add a1 11) (.func (.func n_deque_Op_popLess) #[] #[]) fun w2 =>
  deque_Op_read o_0 m_1 w_2 w2 fun i3 w4 =>
  (k ((0 : Int), i3) w4)
theorem e_deque_Op_popRing (deque_Op_read : Option Addr → Option Addr → Int → World → ((Int) → World → Prop) → Prop) (x : KT [.p, .p, (.i .i64)]) (w : World) (k : KT [(.i .i64), (.i .i64)] → World → Prop) : evFn Go.Proofs.Try.prog (orcOf [(n_deque_Op_read, (fun args w c => unL [.p, .p, (.i .i64)] args fun x => deque_Op_read x.1 x.2.1 x.2.2 w fun r w => c (packV (valL [(.i .i64)] r)) w))]) 199 [] Go.Proofs.Try.f96 [(.i .i64), (.i .i64)] (valL [.p, .p, (.i .i64)] x) w k = deque_Op_popRing_b deque_Op_read x.1 x.2.1 x.2.2 w k := by kernel_rfl
def deque_Op_popRing (o_0 : Option Addr) (m_1 : Option Addr) (w_2 : Int) (w : World) (k : (Int × Int) → World → Prop) : Prop := deque_Op_popRing_b deque_Op_read o_0 m_1 w_2 w k
def d_deque_Op_popRing : Dec := fun args w c => unL [.p, .p, (.i .i64)] args fun x => deque_Op_popRing x.1 x.2.1 x.2.2 w fun r w => c (packV (valL [(.i .i64), (.i .i64)] r)) w
theorem s_deque_Op_popRing : Sound Go.Proofs.Try.prog n_deque_Op_popRing d_deque_Op_popRing :=
  sound_of (mask := 199) (h := []) (ds := [(n_deque_Op_read, d_deque_Op_read)]) mixed Go.Proofs.Try.func96 ⟨s_deque_Op_read, trivial⟩
    [.p, .p, (.i .i64)] [(.i .i64), (.i .i64)] (by kernel_rfl) (fun x w k => deque_Op_popRing x.1 x.2.1 x.2.2 w k) (fun x w k => e_deque_Op_popRing deque_Op_read x w k)

/-- (*peloton/deque.Op).popLess -/
def deque_Op_popLess_b (deque_Deque_bottom : Array Value → World → ((Int) → World → Prop) → Prop) (deque_Op_store : Option Addr → Option Addr → Int → Int → Int → Value → World → ((Int × Int) → World → Prop) → Prop) (o_0 : Option Addr) (m_1 : Option Addr) (w_2 : Int) (w : World) (k : (Int × Int) → World → Prop) : Prop :=
  drew w fun w1 =>
  nn o_0 fun a2 =>
  ldA 2 w1 (Addr.add (Addr.add a2 0) 0) fun cs3 =>
  nn o_0 fun a4 =>
  ldI .i64 w1 (Addr.add (Addr.add a4 0) 2) fun i5 =>
  deque_Deque_bottom cs3 w1 fun i6 w7 =>
  samec 1 (Addr.add (Addr.add a4 0) 2) w1 w7 (
  deque_Op_store o_0 m_1 w_2 i6 (IntKind.wrap .i64 (i5 - (1 : Int))) (.func (.func n_deque_Op_popTop) #[] #[]) w7 fun x8 w9 =>
  (k ((x8.1, x8.2).1, (x8.1, x8.2).2) w9))
theorem e_deque_Op_popLess (deque_Deque_bottom : Array Value → World → ((Int) → World → Prop) → Prop) (deque_Op_store : Option Addr → Option Addr → Int → Int → Int → Value → World → ((Int × Int) → World → Prop) → Prop) (x : KT [.p, .p, (.i .i64)]) (w : World) (k : KT [(.i .i64), (.i .i64)] → World → Prop) : evFn Go.Proofs.Try.prog (orcOf [(n_deque_Deque_bottom, (fun args w c => unL [.ag] args fun x => deque_Deque_bottom x w fun r w => c (packV (valL [(.i .i64)] r)) w)), (n_deque_Op_store, (fun args w c => unL [.p, .p, (.i .i64), (.i .i64), (.i .i64), .raw] args fun x => deque_Op_store x.1 x.2.1 x.2.2.1 x.2.2.2.1 x.2.2.2.2.1 x.2.2.2.2.2 w fun r w => c (packV (valL [(.i .i64), (.i .i64)] r)) w))]) 199 [] Go.Proofs.Try.f107 [(.i .i64), (.i .i64)] (valL [.p, .p, (.i .i64)] x) w k = deque_Op_popLess_b deque_Deque_bottom deque_Op_store x.1 x.2.1 x.2.2 w k := by kernel_rfl
def deque_Op_popLess (o_0 : Option Addr) (m_1 : Option Addr) (w_2 : Int) (w : World) (k : (Int × Int) → World → Prop) : Prop := deque_Op_popLess_b deque_Deque_bottom deque_Op_store o_0 m_1 w_2 w k
def d_deque_Op_popLess : Dec := fun args w c => unL [.p, .p, (.i .i64)] args fun x => deque_Op_popLess x.1 x.2.1 x.2.2 w fun r w => c (packV (valL [(.i .i64), (.i .i64)] r)) w
theorem s_deque_Op_popLess : Sound Go.Proofs.Try.prog n_deque_Op_popLess d_deque_Op_popLess :=
  sound_of (mask := 199) (h := []) (ds := [(n_deque_Deque_bottom, d_deque_Deque_bottom), (n_deque_Op_store, d_deque_Op_store)]) mixed Go.Proofs.Try.func107 ⟨s_deque_Deque_bottom, s_deque_Op_store, trivial⟩
    [.p, .p, (.i .i64)] [(.i .i64), (.i .i64)] (by kernel_rfl) (fun x w k => deque_Op_popLess x.1 x.2.1 x.2.2 w k) (fun x w k => e_deque_Op_popLess deque_Deque_bottom deque_Op_store x w k)

/-- (*peloton/deque.Op).popTop -/
def deque_Op_popTop_b (deque_Deque_top : Array Value → World → ((Int) → World → Prop) → Prop) (deque_Op_load : Option Addr → Option Addr → Int → Int → Option Addr → Value → World → ((Int × Int) → World → Prop) → Prop) (o_0 : Option Addr) (m_1 : Option Addr) (w_2 : Int) (w : World) (k : (Int × Int) → World → Prop) : Prop :=
  drew w fun w1 =>
  nn o_0 fun a2 =>
  ldA 2 w1 (Addr.add (Addr.add a2 0) 0) fun cs3 =>
  nn o_0 fun a4 =>
  deque_Deque_top cs3 w1 fun i5 w6 =>
  deque_Op_load o_0 m_1 w_2 i5 (some (Addr.add (Addr.add a4 0) 3)) (.func (.func n_deque_Op_popThing) #[] #[]) w6 fun x7 w8 =>
  drew w8 fun w9 =>
  nn o_0 fun a10 =>
  ldI .i64 w9 (Addr.add (Addr.add a10 0) 3) fun i11 =>
  nn o_0 fun a12 =>
  ldI .i64 w9 (Addr.add (Addr.add a12 0) 2) fun i13 =>
  iteB (decide (i11 > (IntKind.wrap .i64 (i13 - (1 : Int))))) (
    nn o_0 fun a14 =>
    stC w9 (Addr.add a14 11) (.func (.func n_deque_Op_popBack) #[] #[]) fun w15 =>
    (k ((x7.1, x7.2).1, (x7.1, x7.2).2) w15)) (
    (k ((x7.1, x7.2).1, (x7.1, x7.2).2) w9))
theorem e_deque_Op_popTop (deque_Deque_top : Array Value → World → ((Int) → World → Prop) → Prop) (deque_Op_load : Option Addr → Option Addr → Int → Int → Option Addr → Value → World → ((Int × Int) → World → Prop) → Prop) (x : KT [.p, .p, (.i .i64)]) (w : World) (k : KT [(.i .i64), (.i .i64)] → World → Prop) : evFn Go.Proofs.Try.prog (orcOf [(n_deque_Deque_top, (fun args w c => unL [.ag] args fun x => deque_Deque_top x w fun r w => c (packV (valL [(.i .i64)] r)) w)), (n_deque_Op_load, (fun args w c => unL [.p, .p, (.i .i64), (.i .i64), .p, .raw] args fun x => deque_Op_load x.1 x.2.1 x.2.2.1 x.2.2.2.1 x.2.2.2.2.1 x.2.2.2.2.2 w fun r w => c (packV (valL [(.i .i64), (.i .i64)] r)) w))]) 274877907911 [] Go.Proofs.Try.f113 [(.i .i64), (.i .i64)] (valL [.p, .p, (.i .i64)] x) w k = deque_Op_popTop_b deque_Deque_top deque_Op_load x.1 x.2.1 x.2.2 w k := by kernel_rfl
def deque_Op_popTop (o_0 : Option Addr) (m_1 : Option Addr) (w_2 : Int) (w : World) (k : (Int × Int) → World → Prop) : Prop := deque_Op_popTop_b deque_Deque_top deque_Op_load o_0 m_1 w_2 w k
def d_deque_Op_popTop : Dec := fun args w c => unL [.p, .p, (.i .i64)] args fun x => deque_Op_popTop x.1 x.2.1 x.2.2 w fun r w => c (packV (valL [(.i .i64), (.i .i64)] r)) w
theorem s_deque_Op_popTop : Sound Go.Proofs.Try.prog n_deque_Op_popTop d_deque_Op_popTop :=
  sound_of (mask := 274877907911) (h := []) (ds := [(n_deque_Deque_top, d_deque_Deque_top), (n_deque_Op_load, d_deque_Op_load)]) mixed Go.Proofs.Try.func113 ⟨s_deque_Deque_top, s_deque_Op_load, trivial⟩
    [.p, .p, (.i .i64)] [(.i .i64), (.i .i64)] (by kernel_rfl) (fun x w k => deque_Op_popTop x.1 x.2.1 x.2.2 w k) (fun x w k => e_deque_Op_popTop deque_Deque_top deque_Op_load x w k)

/-- (*peloton/deque.Op).popThing -/
def deque_Op_popThing_b (ring_Ring_Place : Array Value → Int → World → ((Int) → World → Prop) → Prop) (deque_Op_load : Option Addr → Option Addr → Int → Int → Option Addr → Value → World → ((Int × Int) → World → Prop) → Prop) (o_0 : Option Addr) (m_1 : Option Addr) (w_2 : Int) (w : World) (k : (Int × Int) → World → Prop) : Prop :=
  drew w fun w1 =>
  nn o_0 fun a2 =>
  ldA 2 w1 (Addr.add (Addr.add a2 0) 4) fun cs3 =>
  nn o_0 fun a4 =>
  ldI .i64 w1 (Addr.add (Addr.add a4 0) 2) fun i5 =>
  nn o_0 fun a6 =>
  ring_Ring_Place cs3 (IntKind.wrap .i64 (i5 - (1 : Int))) w1 fun i7 w8 =>
  deque_Op_load o_0 m_1 w_2 i7 (some (Addr.add a6 13)) (.func (.func n_deque_Op_popLast) #[] #[]) w8 fun x9 w10 =>
  drew w10 fun w11 =>
  nn o_0 fun a12 =>
  ldI .i64 w11 (Addr.add (Addr.add a12 0) 3) fun i13 =>
  nn o_0 fun a14 =>
  ldI .i64 w11 (Addr.add (Addr.add a14 0) 2) fun i15 =>
  iteB (decide (i13 < (IntKind.wrap .i64 (i15 - (1 : Int))))) (
    (k ((1 : Int), (x9.1, x9.2).2) w11)) (
    (k ((x9.1, x9.2).1, (x9.1, x9.2).2) w11))
theorem e_deque_Op_popThing (ring_Ring_Place : Array Value → Int → World → ((Int) → World → Prop) → Prop) (deque_Op_load : Option Addr → Option Addr → Int → Int → Option Addr → Value → World → ((Int × Int) → World → Prop) → Prop) (x : KT [.p, .p, (.i .i64)]) (w : World) (k : KT [(.i .i64), (.i .i64)] → World → Prop) : evFn Go.Proofs.Try.prog (orcOf [(n_ring_Ring_Place, (fun args w c => unL [.ag, (.i .i64)] args fun x => ring_Ring_Place x.1 x.2 w fun r w => c (packV (valL [(.i .i64)] r)) w)), (n_deque_Op_load, (fun args w c => unL [.p, .p, (.i .i64), (.i .i64), .p, .raw] args fun x => deque_Op_load x.1 x.2.1 x.2.2.1 x.2.2.2.1 x.2.2.2.2.1 x.2.2.2.2.2 w fun r w => c (packV (valL [(.i .i64), (.i .i64)] r)) w))]) 8796093023175 [] Go.Proofs.Try.f119 [(.i .i64), (.i .i64)] (valL [.p, .p, (.i .i64)] x) w k = deque_Op_popThing_b ring_Ring_Place deque_Op_load x.1 x.2.1 x.2.2 w k := by kernel_rfl
def deque_Op_popThing (o_0 : Option Addr) (m_1 : Option Addr) (w_2 : Int) (w : World) (k : (Int × Int) → World → Prop) : Prop := deque_Op_popThing_b ring_Ring_Place deque_Op_load o_0 m_1 w_2 w k
def d_deque_Op_popThing : Dec := fun args w c => unL [.p, .p, (.i .i64)] args fun x => deque_Op_popThing x.1 x.2.1 x.2.2 w fun r w => c (packV (valL [(.i .i64), (.i .i64)] r)) w
theorem s_deque_Op_popThing : Sound Go.Proofs.Try.prog n_deque_Op_popThing d_deque_Op_popThing :=
  sound_of (mask := 8796093023175) (h := []) (ds := [(n_ring_Ring_Place, d_ring_Ring_Place), (n_deque_Op_load, d_deque_Op_load)]) mixed Go.Proofs.Try.func119 ⟨s_ring_Ring_Place, s_deque_Op_load, trivial⟩
    [.p, .p, (.i .i64)] [(.i .i64), (.i .i64)] (by kernel_rfl) (fun x w k => deque_Op_popThing x.1 x.2.1 x.2.2 w k) (fun x w k => e_deque_Op_popThing ring_Ring_Place deque_Op_load x w k)

/-- (*peloton/cells.Machine).CAS -/
def cells_Machine_CAS_b (cells_Machine_looks : Option Addr → Int → Int → Value → World → ((Int) → World → Prop) → Prop) (m_0 : Option Addr) (w_1 : Int) (at_2 : Int) (old_3 : Int) (x_4 : Int) (w : World) (k : (Bool × Int) → World → Prop) : Prop :=
  iteB (Option.isNone m_0) (
    (k (false, (2 : Int)) w)) (
    cells_Machine_looks m_0 w_1 at_2 (.func (.func n_cells_Machine_given) #[(.pointer m_0)] #[]) w fun i1 w2 =>
    iteB (i1 != (0 : Int)) (
      (k (false, i1) w2)) (
      nn m_0 fun a3 =>
      ldS w2 (Addr.add a3 2) fun s4 =>
      ixS s4 w_1 1 fun a5 =>
      ldI .i64 w2 a5 fun i6 =>
      ixS s4 w_1 1 fun a7 =>
      stC w2 a7 (.int .i64 (IntKind.wrap .i64 (i6 + (1 : Int)))) fun w8 =>
      nn m_0 fun a9 =>
      ldS w8 (Addr.add a9 0) fun s10 =>
      ixS s10 at_2 1 fun a11 =>
      ldI .i64 w8 a11 fun i12 =>
      iteB (i12 != old_3) (
        (k (false, (0 : Int)) w8)) (
        nn m_0 fun a13 =>
        ldS w8 (Addr.add a13 0) fun s14 =>
        ixS s14 at_2 1 fun a15 =>
        stC w8 a15 (.int .i64 x_4) fun w16 =>
        (k (true, (0 : Int)) w16))))
theorem e_cells_Machine_CAS (cells_Machine_looks : Option Addr → Int → Int → Value → World → ((Int) → World → Prop) → Prop) (x : KT [.p, (.i .i64), (.i .i64), (.i .i64), (.i .i64)]) (w : World) (k : KT [.b, (.i .i64)] → World → Prop) : evFn Go.Proofs.Try.prog (orcOf [(n_cells_Machine_looks, (fun args w c => unL [.p, (.i .i64), (.i .i64), .raw] args fun x => cells_Machine_looks x.1 x.2.1 x.2.2.1 x.2.2.2 w fun r w => c (packV (valL [(.i .i64)] r)) w))]) 2199027473439 [] Go.Proofs.Try.f124 [.b, (.i .i64)] (valL [.p, (.i .i64), (.i .i64), (.i .i64), (.i .i64)] x) w k = cells_Machine_CAS_b cells_Machine_looks x.1 x.2.1 x.2.2.1 x.2.2.2.1 x.2.2.2.2 w k := by kernel_rfl
def cells_Machine_CAS (m_0 : Option Addr) (w_1 : Int) (at_2 : Int) (old_3 : Int) (x_4 : Int) (w : World) (k : (Bool × Int) → World → Prop) : Prop := cells_Machine_CAS_b cells_Machine_looks m_0 w_1 at_2 old_3 x_4 w k
def d_cells_Machine_CAS : Dec := fun args w c => unL [.p, (.i .i64), (.i .i64), (.i .i64), (.i .i64)] args fun x => cells_Machine_CAS x.1 x.2.1 x.2.2.1 x.2.2.2.1 x.2.2.2.2 w fun r w => c (packV (valL [.b, (.i .i64)] r)) w
theorem s_cells_Machine_CAS : Sound Go.Proofs.Try.prog n_cells_Machine_CAS d_cells_Machine_CAS :=
  sound_of (mask := 2199027473439) (h := []) (ds := [(n_cells_Machine_looks, d_cells_Machine_looks)]) mixed Go.Proofs.Try.func124 ⟨s_cells_Machine_looks, trivial⟩
    [.p, (.i .i64), (.i .i64), (.i .i64), (.i .i64)] [.b, (.i .i64)] (by kernel_rfl) (fun x w k => cells_Machine_CAS x.1 x.2.1 x.2.2.1 x.2.2.2.1 x.2.2.2.2 w k) (fun x w k => e_cells_Machine_CAS cells_Machine_looks x w k)

/-- (*peloton/deque.Op).popLast -/
def deque_Op_popLast_b (deque_Deque_top : Array Value → World → ((Int) → World → Prop) → Prop) (cells_Machine_CAS : Option Addr → Int → Int → Int → Int → World → ((Bool × Int) → World → Prop) → Prop) (o_0 : Option Addr) (m_1 : Option Addr) (w_2 : Int) (w : World) (k : (Int × Int) → World → Prop) : Prop :=
  drew w fun w1 =>
  nn o_0 fun a2 =>
  ldA 2 w1 (Addr.add (Addr.add a2 0) 0) fun cs3 =>
  nn o_0 fun a4 =>
  ldI .i64 w1 (Addr.add (Addr.add a4 0) 3) fun i5 =>
  nn o_0 fun a6 =>
  ldI .i64 w1 (Addr.add (Addr.add a6 0) 3) fun i7 =>
  deque_Deque_top cs3 w1 fun i8 w9 =>
  samec 1 (Addr.add (Addr.add a6 0) 3) w1 w9 (
  samec 1 (Addr.add (Addr.add a4 0) 3) w1 w9 (
  cells_Machine_CAS m_1 w_2 i8 i5 (IntKind.wrap .i64 (i7 + (1 : Int))) w9 fun x10 w11 =>
  nn o_0 fun a12 =>
  stC w11 (Addr.add a12 7) (.bool (x10.1, x10.2).1) fun w13 =>
  nn o_0 fun a14 =>
  stC w13 (Addr.add a14 11) (.func (.func n_deque_Op_popBack) #[] #[]) fun w15 =>
  (k ((0 : Int), (x10.1, x10.2).2) w15)))
theorem e_deque_Op_popLast (deque_Deque_top : Array Value → World → ((Int) → World → Prop) → Prop) (cells_Machine_CAS : Option Addr → Int → Int → Int → Int → World → ((Bool × Int) → World → Prop) → Prop) (x : KT [.p, .p, (.i .i64)]) (w : World) (k : KT [(.i .i64), (.i .i64)] → World → Prop) : evFn Go.Proofs.Try.prog (orcOf [(n_deque_Deque_top, (fun args w c => unL [.ag] args fun x => deque_Deque_top x w fun r w => c (packV (valL [(.i .i64)] r)) w)), (n_cells_Machine_CAS, (fun args w c => unL [.p, (.i .i64), (.i .i64), (.i .i64), (.i .i64)] args fun x => cells_Machine_CAS x.1 x.2.1 x.2.2.1 x.2.2.2.1 x.2.2.2.2 w fun r w => c (packV (valL [.b, (.i .i64)] r)) w))]) 967 [] Go.Proofs.Try.f125 [(.i .i64), (.i .i64)] (valL [.p, .p, (.i .i64)] x) w k = deque_Op_popLast_b deque_Deque_top cells_Machine_CAS x.1 x.2.1 x.2.2 w k := by kernel_rfl
def deque_Op_popLast (o_0 : Option Addr) (m_1 : Option Addr) (w_2 : Int) (w : World) (k : (Int × Int) → World → Prop) : Prop := deque_Op_popLast_b deque_Deque_top cells_Machine_CAS o_0 m_1 w_2 w k
def d_deque_Op_popLast : Dec := fun args w c => unL [.p, .p, (.i .i64)] args fun x => deque_Op_popLast x.1 x.2.1 x.2.2 w fun r w => c (packV (valL [(.i .i64), (.i .i64)] r)) w
theorem s_deque_Op_popLast : Sound Go.Proofs.Try.prog n_deque_Op_popLast d_deque_Op_popLast :=
  sound_of (mask := 967) (h := []) (ds := [(n_deque_Deque_top, d_deque_Deque_top), (n_cells_Machine_CAS, d_cells_Machine_CAS)]) mixed Go.Proofs.Try.func125 ⟨s_deque_Deque_top, s_cells_Machine_CAS, trivial⟩
    [.p, .p, (.i .i64)] [(.i .i64), (.i .i64)] (by kernel_rfl) (fun x w k => deque_Op_popLast x.1 x.2.1 x.2.2 w k) (fun x w k => e_deque_Op_popLast deque_Deque_top cells_Machine_CAS x w k)

/-- (*peloton/deque.Op).popBack -/
def deque_Op_popBack_b (deque_Deque_bottom : Array Value → World → ((Int) → World → Prop) → Prop) (cells_Machine_Store : Option Addr → Int → Int → Int → World → ((Int) → World → Prop) → Prop) (o_0 : Option Addr) (m_1 : Option Addr) (w_2 : Int) (w : World) (k : (Int × Int) → World → Prop) : Prop :=
  nn o_0 fun a1 =>
  ldB w (Addr.add a1 7) fun b2 =>
  iteB b2 (
    drew w fun w3 =>
    nn o_0 fun a4 =>
    ldA 2 w3 (Addr.add (Addr.add a4 0) 0) fun cs5 =>
    nn o_0 fun a6 =>
    ldI .i64 w3 (Addr.add (Addr.add a6 0) 2) fun i7 =>
    deque_Deque_bottom cs5 w3 fun i8 w9 =>
    samec 1 (Addr.add (Addr.add a6 0) 2) w3 w9 (
    cells_Machine_Store m_1 w_2 i8 i7 w9 fun i10 w11 =>
    (k ((1 : Int), i10) w11))) (
    drew w fun w12 =>
    nn o_0 fun a13 =>
    ldA 2 w12 (Addr.add (Addr.add a13 0) 0) fun cs14 =>
    nn o_0 fun a15 =>
    ldI .i64 w12 (Addr.add (Addr.add a15 0) 2) fun i16 =>
    deque_Deque_bottom cs14 w12 fun i17 w18 =>
    samec 1 (Addr.add (Addr.add a15 0) 2) w12 w18 (
    cells_Machine_Store m_1 w_2 i17 i16 w18 fun i19 w20 =>
    (k ((3 : Int), i19) w20)))
theorem e_deque_Op_popBack (deque_Deque_bottom : Array Value → World → ((Int) → World → Prop) → Prop) (cells_Machine_Store : Option Addr → Int → Int → Int → World → ((Int) → World → Prop) → Prop) (x : KT [.p, .p, (.i .i64)]) (w : World) (k : KT [(.i .i64), (.i .i64)] → World → Prop) : evFn Go.Proofs.Try.prog (orcOf [(n_deque_Deque_bottom, (fun args w c => unL [.ag] args fun x => deque_Deque_bottom x w fun r w => c (packV (valL [(.i .i64)] r)) w)), (n_cells_Machine_Store, (fun args w c => unL [.p, (.i .i64), (.i .i64), (.i .i64)] args fun x => cells_Machine_Store x.1 x.2.1 x.2.2.1 x.2.2.2 w fun r w => c (packV (valL [(.i .i64)] r)) w))]) 4551 [] Go.Proofs.Try.f120 [(.i .i64), (.i .i64)] (valL [.p, .p, (.i .i64)] x) w k = deque_Op_popBack_b deque_Deque_bottom cells_Machine_Store x.1 x.2.1 x.2.2 w k := by kernel_rfl
def deque_Op_popBack (o_0 : Option Addr) (m_1 : Option Addr) (w_2 : Int) (w : World) (k : (Int × Int) → World → Prop) : Prop := deque_Op_popBack_b deque_Deque_bottom cells_Machine_Store o_0 m_1 w_2 w k
def d_deque_Op_popBack : Dec := fun args w c => unL [.p, .p, (.i .i64)] args fun x => deque_Op_popBack x.1 x.2.1 x.2.2 w fun r w => c (packV (valL [(.i .i64), (.i .i64)] r)) w
theorem s_deque_Op_popBack : Sound Go.Proofs.Try.prog n_deque_Op_popBack d_deque_Op_popBack :=
  sound_of (mask := 4551) (h := []) (ds := [(n_deque_Deque_bottom, d_deque_Deque_bottom), (n_cells_Machine_Store, d_cells_Machine_Store)]) mixed Go.Proofs.Try.func120 ⟨s_deque_Deque_bottom, s_cells_Machine_Store, trivial⟩
    [.p, .p, (.i .i64)] [(.i .i64), (.i .i64)] (by kernel_rfl) (fun x w k => deque_Op_popBack x.1 x.2.1 x.2.2 w k) (fun x w k => e_deque_Op_popBack deque_Deque_bottom cells_Machine_Store x w k)

/-- (*peloton/deque.Op).stealTop -/
def deque_Op_stealTop_b (deque_Deque_top : Array Value → World → ((Int) → World → Prop) → Prop) (deque_Op_load : Option Addr → Option Addr → Int → Int → Option Addr → Value → World → ((Int × Int) → World → Prop) → Prop) (o_0 : Option Addr) (m_1 : Option Addr) (w_2 : Int) (w : World) (k : (Int × Int) → World → Prop) : Prop :=
  drew w fun w1 =>
  nn o_0 fun a2 =>
  ldA 2 w1 (Addr.add (Addr.add a2 0) 0) fun cs3 =>
  nn o_0 fun a4 =>
  deque_Deque_top cs3 w1 fun i5 w6 =>
  deque_Op_load o_0 m_1 w_2 i5 (some (Addr.add (Addr.add a4 0) 3)) (.func (.func n_deque_Op_stealBottom) #[] #[]) w6 fun x7 w8 =>
  (k ((x7.1, x7.2).1, (x7.1, x7.2).2) w8)
theorem e_deque_Op_stealTop (deque_Deque_top : Array Value → World → ((Int) → World → Prop) → Prop) (deque_Op_load : Option Addr → Option Addr → Int → Int → Option Addr → Value → World → ((Int × Int) → World → Prop) → Prop) (x : KT [.p, .p, (.i .i64)]) (w : World) (k : KT [(.i .i64), (.i .i64)] → World → Prop) : evFn Go.Proofs.Try.prog (orcOf [(n_deque_Deque_top, (fun args w c => unL [.ag] args fun x => deque_Deque_top x w fun r w => c (packV (valL [(.i .i64)] r)) w)), (n_deque_Op_load, (fun args w c => unL [.p, .p, (.i .i64), (.i .i64), .p, .raw] args fun x => deque_Op_load x.1 x.2.1 x.2.2.1 x.2.2.2.1 x.2.2.2.2.1 x.2.2.2.2.2 w fun r w => c (packV (valL [(.i .i64), (.i .i64)] r)) w))]) 199 [] Go.Proofs.Try.f70 [(.i .i64), (.i .i64)] (valL [.p, .p, (.i .i64)] x) w k = deque_Op_stealTop_b deque_Deque_top deque_Op_load x.1 x.2.1 x.2.2 w k := by kernel_rfl
def deque_Op_stealTop (o_0 : Option Addr) (m_1 : Option Addr) (w_2 : Int) (w : World) (k : (Int × Int) → World → Prop) : Prop := deque_Op_stealTop_b deque_Deque_top deque_Op_load o_0 m_1 w_2 w k
def d_deque_Op_stealTop : Dec := fun args w c => unL [.p, .p, (.i .i64)] args fun x => deque_Op_stealTop x.1 x.2.1 x.2.2 w fun r w => c (packV (valL [(.i .i64), (.i .i64)] r)) w
theorem s_deque_Op_stealTop : Sound Go.Proofs.Try.prog n_deque_Op_stealTop d_deque_Op_stealTop :=
  sound_of (mask := 199) (h := []) (ds := [(n_deque_Deque_top, d_deque_Deque_top), (n_deque_Op_load, d_deque_Op_load)]) mixed Go.Proofs.Try.func70 ⟨s_deque_Deque_top, s_deque_Op_load, trivial⟩
    [.p, .p, (.i .i64)] [(.i .i64), (.i .i64)] (by kernel_rfl) (fun x w k => deque_Op_stealTop x.1 x.2.1 x.2.2 w k) (fun x w k => e_deque_Op_stealTop deque_Deque_top deque_Op_load x w k)

/-- (*peloton/deque.Op).stealBottom -/
def deque_Op_stealBottom_b (deque_Deque_bottom : Array Value → World → ((Int) → World → Prop) → Prop) (deque_Op_load : Option Addr → Option Addr → Int → Int → Option Addr → Value → World → ((Int × Int) → World → Prop) → Prop) (o_0 : Option Addr) (m_1 : Option Addr) (w_2 : Int) (w : World) (k : (Int × Int) → World → Prop) : Prop :=
  drew w fun w1 =>
  nn o_0 fun a2 =>
  ldA 2 w1 (Addr.add (Addr.add a2 0) 0) fun cs3 =>
  nn o_0 fun a4 =>
  deque_Deque_bottom cs3 w1 fun i5 w6 =>
  deque_Op_load o_0 m_1 w_2 i5 (some (Addr.add (Addr.add a4 0) 2)) (.func (.func n_deque_Op_stealRing) #[] #[]) w6 fun x7 w8 =>
  drew w8 fun w9 =>
  nn o_0 fun a10 =>
  ldI .i64 w9 (Addr.add (Addr.add a10 0) 3) fun i11 =>
  nn o_0 fun a12 =>
  ldI .i64 w9 (Addr.add (Addr.add a12 0) 2) fun i13 =>
  iteB (decide (i11 ≥ i13)) (
    (k ((3 : Int), (x7.1, x7.2).2) w9)) (
    (k ((x7.1, x7.2).1, (x7.1, x7.2).2) w9))
theorem e_deque_Op_stealBottom (deque_Deque_bottom : Array Value → World → ((Int) → World → Prop) → Prop) (deque_Op_load : Option Addr → Option Addr → Int → Int → Option Addr → Value → World → ((Int × Int) → World → Prop) → Prop) (x : KT [.p, .p, (.i .i64)]) (w : World) (k : KT [(.i .i64), (.i .i64)] → World → Prop) : evFn Go.Proofs.Try.prog (orcOf [(n_deque_Deque_bottom, (fun args w c => unL [.ag] args fun x => deque_Deque_bottom x w fun r w => c (packV (valL [(.i .i64)] r)) w)), (n_deque_Op_load, (fun args w c => unL [.p, .p, (.i .i64), (.i .i64), .p, .raw] args fun x => deque_Op_load x.1 x.2.1 x.2.2.1 x.2.2.2.1 x.2.2.2.2.1 x.2.2.2.2.2 w fun r w => c (packV (valL [(.i .i64), (.i .i64)] r)) w))]) 137438954439 [] Go.Proofs.Try.f95 [(.i .i64), (.i .i64)] (valL [.p, .p, (.i .i64)] x) w k = deque_Op_stealBottom_b deque_Deque_bottom deque_Op_load x.1 x.2.1 x.2.2 w k := by kernel_rfl
def deque_Op_stealBottom (o_0 : Option Addr) (m_1 : Option Addr) (w_2 : Int) (w : World) (k : (Int × Int) → World → Prop) : Prop := deque_Op_stealBottom_b deque_Deque_bottom deque_Op_load o_0 m_1 w_2 w k
def d_deque_Op_stealBottom : Dec := fun args w c => unL [.p, .p, (.i .i64)] args fun x => deque_Op_stealBottom x.1 x.2.1 x.2.2 w fun r w => c (packV (valL [(.i .i64), (.i .i64)] r)) w
theorem s_deque_Op_stealBottom : Sound Go.Proofs.Try.prog n_deque_Op_stealBottom d_deque_Op_stealBottom :=
  sound_of (mask := 137438954439) (h := []) (ds := [(n_deque_Deque_bottom, d_deque_Deque_bottom), (n_deque_Op_load, d_deque_Op_load)]) mixed Go.Proofs.Try.func95 ⟨s_deque_Deque_bottom, s_deque_Op_load, trivial⟩
    [.p, .p, (.i .i64)] [(.i .i64), (.i .i64)] (by kernel_rfl) (fun x w k => deque_Op_stealBottom x.1 x.2.1 x.2.2 w k) (fun x w k => e_deque_Op_stealBottom deque_Deque_bottom deque_Op_load x w k)

/-- (*peloton/deque.Op).stealRing -/
def deque_Op_stealRing_b (deque_Op_read : Option Addr → Option Addr → Int → World → ((Int) → World → Prop) → Prop) (o_0 : Option Addr) (m_1 : Option Addr) (w_2 : Int) (w : World) (k : (Int × Int) → World → Prop) : Prop :=
  nn o_0 fun a1 =>
  stC w (Addr.add a1 11) (.func (.func n_deque_Op_stealThing) #[] #[]) fun w2 =>
  deque_Op_read o_0 m_1 w_2 w2 fun i3 w4 =>
  (k ((0 : Int), i3) w4)
theorem e_deque_Op_stealRing (deque_Op_read : Option Addr → Option Addr → Int → World → ((Int) → World → Prop) → Prop) (x : KT [.p, .p, (.i .i64)]) (w : World) (k : KT [(.i .i64), (.i .i64)] → World → Prop) : evFn Go.Proofs.Try.prog (orcOf [(n_deque_Op_read, (fun args w c => unL [.p, .p, (.i .i64)] args fun x => deque_Op_read x.1 x.2.1 x.2.2 w fun r w => c (packV (valL [(.i .i64)] r)) w))]) 199 [] Go.Proofs.Try.f106 [(.i .i64), (.i .i64)] (valL [.p, .p, (.i .i64)] x) w k = deque_Op_stealRing_b deque_Op_read x.1 x.2.1 x.2.2 w k := by kernel_rfl
def deque_Op_stealRing (o_0 : Option Addr) (m_1 : Option Addr) (w_2 : Int) (w : World) (k : (Int × Int) → World → Prop) : Prop := deque_Op_stealRing_b deque_Op_read o_0 m_1 w_2 w k
def d_deque_Op_stealRing : Dec := fun args w c => unL [.p, .p, (.i .i64)] args fun x => deque_Op_stealRing x.1 x.2.1 x.2.2 w fun r w => c (packV (valL [(.i .i64), (.i .i64)] r)) w
theorem s_deque_Op_stealRing : Sound Go.Proofs.Try.prog n_deque_Op_stealRing d_deque_Op_stealRing :=
  sound_of (mask := 199) (h := []) (ds := [(n_deque_Op_read, d_deque_Op_read)]) mixed Go.Proofs.Try.func106 ⟨s_deque_Op_read, trivial⟩
    [.p, .p, (.i .i64)] [(.i .i64), (.i .i64)] (by kernel_rfl) (fun x w k => deque_Op_stealRing x.1 x.2.1 x.2.2 w k) (fun x w k => e_deque_Op_stealRing deque_Op_read x w k)

/-- (*peloton/deque.Op).stealThing -/
def deque_Op_stealThing_b (ring_Ring_Place : Array Value → Int → World → ((Int) → World → Prop) → Prop) (deque_Op_load : Option Addr → Option Addr → Int → Int → Option Addr → Value → World → ((Int × Int) → World → Prop) → Prop) (o_0 : Option Addr) (m_1 : Option Addr) (w_2 : Int) (w : World) (k : (Int × Int) → World → Prop) : Prop :=
  drew w fun w1 =>
  nn o_0 fun a2 =>
  ldA 2 w1 (Addr.add (Addr.add a2 0) 4) fun cs3 =>
  nn o_0 fun a4 =>
  ldI .i64 w1 (Addr.add (Addr.add a4 0) 3) fun i5 =>
  nn o_0 fun a6 =>
  ring_Ring_Place cs3 i5 w1 fun i7 w8 =>
  deque_Op_load o_0 m_1 w_2 i7 (some (Addr.add a6 13)) (.func (.func n_deque_Op_stealDone) #[] #[]) w8 fun x9 w10 =>
  (k ((2 : Int), (x9.1, x9.2).2) w10)
theorem e_deque_Op_stealThing (ring_Ring_Place : Array Value → Int → World → ((Int) → World → Prop) → Prop) (deque_Op_load : Option Addr → Option Addr → Int → Int → Option Addr → Value → World → ((Int × Int) → World → Prop) → Prop) (x : KT [.p, .p, (.i .i64)]) (w : World) (k : KT [(.i .i64), (.i .i64)] → World → Prop) : evFn Go.Proofs.Try.prog (orcOf [(n_ring_Ring_Place, (fun args w c => unL [.ag, (.i .i64)] args fun x => ring_Ring_Place x.1 x.2 w fun r w => c (packV (valL [(.i .i64)] r)) w)), (n_deque_Op_load, (fun args w c => unL [.p, .p, (.i .i64), (.i .i64), .p, .raw] args fun x => deque_Op_load x.1 x.2.1 x.2.2.1 x.2.2.2.1 x.2.2.2.2.1 x.2.2.2.2.2 w fun r w => c (packV (valL [(.i .i64), (.i .i64)] r)) w))]) 711 [] Go.Proofs.Try.f111 [(.i .i64), (.i .i64)] (valL [.p, .p, (.i .i64)] x) w k = deque_Op_stealThing_b ring_Ring_Place deque_Op_load x.1 x.2.1 x.2.2 w k := by kernel_rfl
def deque_Op_stealThing (o_0 : Option Addr) (m_1 : Option Addr) (w_2 : Int) (w : World) (k : (Int × Int) → World → Prop) : Prop := deque_Op_stealThing_b ring_Ring_Place deque_Op_load o_0 m_1 w_2 w k
def d_deque_Op_stealThing : Dec := fun args w c => unL [.p, .p, (.i .i64)] args fun x => deque_Op_stealThing x.1 x.2.1 x.2.2 w fun r w => c (packV (valL [(.i .i64), (.i .i64)] r)) w
theorem s_deque_Op_stealThing : Sound Go.Proofs.Try.prog n_deque_Op_stealThing d_deque_Op_stealThing :=
  sound_of (mask := 711) (h := []) (ds := [(n_ring_Ring_Place, d_ring_Ring_Place), (n_deque_Op_load, d_deque_Op_load)]) mixed Go.Proofs.Try.func111 ⟨s_ring_Ring_Place, s_deque_Op_load, trivial⟩
    [.p, .p, (.i .i64)] [(.i .i64), (.i .i64)] (by kernel_rfl) (fun x w k => deque_Op_stealThing x.1 x.2.1 x.2.2 w k) (fun x w k => e_deque_Op_stealThing ring_Ring_Place deque_Op_load x w k)

/-- (*peloton/deque.Op).stealDone -/
def deque_Op_stealDone_b (deque_Deque_top : Array Value → World → ((Int) → World → Prop) → Prop) (cells_Machine_CAS : Option Addr → Int → Int → Int → Int → World → ((Bool × Int) → World → Prop) → Prop) (o_0 : Option Addr) (m_1 : Option Addr) (w_2 : Int) (w : World) (k : (Int × Int) → World → Prop) : Prop :=
  drew w fun w1 =>
  nn o_0 fun a2 =>
  ldA 2 w1 (Addr.add (Addr.add a2 0) 0) fun cs3 =>
  nn o_0 fun a4 =>
  ldI .i64 w1 (Addr.add (Addr.add a4 0) 3) fun i5 =>
  nn o_0 fun a6 =>
  ldI .i64 w1 (Addr.add (Addr.add a6 0) 3) fun i7 =>
  deque_Deque_top cs3 w1 fun i8 w9 =>
  samec 1 (Addr.add (Addr.add a6 0) 3) w1 w9 (
  samec 1 (Addr.add (Addr.add a4 0) 3) w1 w9 (
  cells_Machine_CAS m_1 w_2 i8 i5 (IntKind.wrap .i64 (i7 + (1 : Int))) w9 fun x10 w11 =>
  iteB (!(x10.1, x10.2).1) (
    (k ((5 : Int), (x10.1, x10.2).2) w11)) (
    (k ((1 : Int), (x10.1, x10.2).2) w11))))
theorem e_deque_Op_stealDone (deque_Deque_top : Array Value → World → ((Int) → World → Prop) → Prop) (cells_Machine_CAS : Option Addr → Int → Int → Int → Int → World → ((Bool × Int) → World → Prop) → Prop) (x : KT [.p, .p, (.i .i64)]) (w : World) (k : KT [(.i .i64), (.i .i64)] → World → Prop) : evFn Go.Proofs.Try.prog (orcOf [(n_deque_Deque_top, (fun args w c => unL [.ag] args fun x => deque_Deque_top x w fun r w => c (packV (valL [(.i .i64)] r)) w)), (n_cells_Machine_CAS, (fun args w c => unL [.p, (.i .i64), (.i .i64), (.i .i64), (.i .i64)] args fun x => cells_Machine_CAS x.1 x.2.1 x.2.2.1 x.2.2.2.1 x.2.2.2.2 w fun r w => c (packV (valL [.b, (.i .i64)] r)) w))]) 17179870151 [] Go.Proofs.Try.f118 [(.i .i64), (.i .i64)] (valL [.p, .p, (.i .i64)] x) w k = deque_Op_stealDone_b deque_Deque_top cells_Machine_CAS x.1 x.2.1 x.2.2 w k := by kernel_rfl
def deque_Op_stealDone (o_0 : Option Addr) (m_1 : Option Addr) (w_2 : Int) (w : World) (k : (Int × Int) → World → Prop) : Prop := deque_Op_stealDone_b deque_Deque_top cells_Machine_CAS o_0 m_1 w_2 w k
def d_deque_Op_stealDone : Dec := fun args w c => unL [.p, .p, (.i .i64)] args fun x => deque_Op_stealDone x.1 x.2.1 x.2.2 w fun r w => c (packV (valL [(.i .i64), (.i .i64)] r)) w
theorem s_deque_Op_stealDone : Sound Go.Proofs.Try.prog n_deque_Op_stealDone d_deque_Op_stealDone :=
  sound_of (mask := 17179870151) (h := []) (ds := [(n_deque_Deque_top, d_deque_Deque_top), (n_cells_Machine_CAS, d_cells_Machine_CAS)]) mixed Go.Proofs.Try.func118 ⟨s_deque_Deque_top, s_cells_Machine_CAS, trivial⟩
    [.p, .p, (.i .i64)] [(.i .i64), (.i .i64)] (by kernel_rfl) (fun x w k => deque_Op_stealDone x.1 x.2.1 x.2.2 w k) (fun x w k => e_deque_Op_stealDone deque_Deque_top cells_Machine_CAS x w k)

/-- (*peloton/deque.Op).Step -/
def deque_Op_Step_b (deque_Op_pushBottom : Option Addr → Option Addr → Int → World → ((Int × Int) → World → Prop) → Prop) (deque_Op_pushTop : Option Addr → Option Addr → Int → World → ((Int × Int) → World → Prop) → Prop) (deque_Op_pushRing : Option Addr → Option Addr → Int → World → ((Int × Int) → World → Prop) → Prop) (deque_Op_pushNew : Option Addr → Option Addr → Int → World → ((Int × Int) → World → Prop) → Prop) (deque_Op_pushCopy : Option Addr → Option Addr → Int → World → ((Int × Int) → World → Prop) → Prop) (deque_Op_pushWord : Option Addr → Option Addr → Int → World → ((Int × Int) → World → Prop) → Prop) (deque_Op_pushThing : Option Addr → Option Addr → Int → World → ((Int × Int) → World → Prop) → Prop) (deque_Op_pushDone : Option Addr → Option Addr → Int → World → ((Int × Int) → World → Prop) → Prop) (deque_Op_popBottom : Option Addr → Option Addr → Int → World → ((Int × Int) → World → Prop) → Prop) (deque_Op_popRing : Option Addr → Option Addr → Int → World → ((Int × Int) → World → Prop) → Prop) (deque_Op_popLess : Option Addr → Option Addr → Int → World → ((Int × Int) → World → Prop) → Prop) (deque_Op_popTop : Option Addr → Option Addr → Int → World → ((Int × Int) → World → Prop) → Prop) (deque_Op_popThing : Option Addr → Option Addr → Int → World → ((Int × Int) → World → Prop) → Prop) (deque_Op_popLast : Option Addr → Option Addr → Int → World → ((Int × Int) → World → Prop) → Prop) (deque_Op_popBack : Option Addr → Option Addr → Int → World → ((Int × Int) → World → Prop) → Prop) (deque_Op_stealTop : Option Addr → Option Addr → Int → World → ((Int × Int) → World → Prop) → Prop) (deque_Op_stealBottom : Option Addr → Option Addr → Int → World → ((Int × Int) → World → Prop) → Prop) (deque_Op_stealRing : Option Addr → Option Addr → Int → World → ((Int × Int) → World → Prop) → Prop) (deque_Op_stealThing : Option Addr → Option Addr → Int → World → ((Int × Int) → World → Prop) → Prop) (deque_Op_stealDone : Option Addr → Option Addr → Int → World → ((Int × Int) → World → Prop) → Prop) (o_0 : Option Addr) (m_1 : Option Addr) (w_2 : Int) (w : World) (k : (Int) → World → Prop) : Prop :=
  iteB (Option.isNone o_0) (
    (k (6 : Int) w)) (
    joinP (S := Bool) (fun J1 =>
      nn o_0 fun a2 =>
      ldI .i64 w (Addr.add a2 12) fun i3 =>
      iteB (i3 != (0 : Int)) (
        nn o_0 fun a4 =>
        ldI .i64 w (Addr.add a4 12) fun i5 =>
        (J1 (i5 != (2 : Int)) w)) (
        (J1 false w))) fun b6 w7 =>
    iteB b6 (
      nn o_0 fun a8 =>
      ldI .i64 w7 (Addr.add a8 12) fun i9 =>
      (k i9 w7)) (
      nn o_0 fun a10 =>
      ldV w7 (Addr.add a10 11) fun v11 =>
      callF (orcOf [(n_deque_Op_pushBottom, (fun args w c => unL [.p, .p, (.i .i64)] args fun x => deque_Op_pushBottom x.1 x.2.1 x.2.2 w fun r w => c (packV (valL [(.i .i64), (.i .i64)] r)) w)), (n_deque_Op_pushTop, (fun args w c => unL [.p, .p, (.i .i64)] args fun x => deque_Op_pushTop x.1 x.2.1 x.2.2 w fun r w => c (packV (valL [(.i .i64), (.i .i64)] r)) w)), (n_deque_Op_pushRing, (fun args w c => unL [.p, .p, (.i .i64)] args fun x => deque_Op_pushRing x.1 x.2.1 x.2.2 w fun r w => c (packV (valL [(.i .i64), (.i .i64)] r)) w)), (n_deque_Op_pushNew, (fun args w c => unL [.p, .p, (.i .i64)] args fun x => deque_Op_pushNew x.1 x.2.1 x.2.2 w fun r w => c (packV (valL [(.i .i64), (.i .i64)] r)) w)), (n_deque_Op_pushCopy, (fun args w c => unL [.p, .p, (.i .i64)] args fun x => deque_Op_pushCopy x.1 x.2.1 x.2.2 w fun r w => c (packV (valL [(.i .i64), (.i .i64)] r)) w)), (n_deque_Op_pushWord, (fun args w c => unL [.p, .p, (.i .i64)] args fun x => deque_Op_pushWord x.1 x.2.1 x.2.2 w fun r w => c (packV (valL [(.i .i64), (.i .i64)] r)) w)), (n_deque_Op_pushThing, (fun args w c => unL [.p, .p, (.i .i64)] args fun x => deque_Op_pushThing x.1 x.2.1 x.2.2 w fun r w => c (packV (valL [(.i .i64), (.i .i64)] r)) w)), (n_deque_Op_pushDone, (fun args w c => unL [.p, .p, (.i .i64)] args fun x => deque_Op_pushDone x.1 x.2.1 x.2.2 w fun r w => c (packV (valL [(.i .i64), (.i .i64)] r)) w)), (n_deque_Op_popBottom, (fun args w c => unL [.p, .p, (.i .i64)] args fun x => deque_Op_popBottom x.1 x.2.1 x.2.2 w fun r w => c (packV (valL [(.i .i64), (.i .i64)] r)) w)), (n_deque_Op_popRing, (fun args w c => unL [.p, .p, (.i .i64)] args fun x => deque_Op_popRing x.1 x.2.1 x.2.2 w fun r w => c (packV (valL [(.i .i64), (.i .i64)] r)) w)), (n_deque_Op_popLess, (fun args w c => unL [.p, .p, (.i .i64)] args fun x => deque_Op_popLess x.1 x.2.1 x.2.2 w fun r w => c (packV (valL [(.i .i64), (.i .i64)] r)) w)), (n_deque_Op_popTop, (fun args w c => unL [.p, .p, (.i .i64)] args fun x => deque_Op_popTop x.1 x.2.1 x.2.2 w fun r w => c (packV (valL [(.i .i64), (.i .i64)] r)) w)), (n_deque_Op_popThing, (fun args w c => unL [.p, .p, (.i .i64)] args fun x => deque_Op_popThing x.1 x.2.1 x.2.2 w fun r w => c (packV (valL [(.i .i64), (.i .i64)] r)) w)), (n_deque_Op_popLast, (fun args w c => unL [.p, .p, (.i .i64)] args fun x => deque_Op_popLast x.1 x.2.1 x.2.2 w fun r w => c (packV (valL [(.i .i64), (.i .i64)] r)) w)), (n_deque_Op_popBack, (fun args w c => unL [.p, .p, (.i .i64)] args fun x => deque_Op_popBack x.1 x.2.1 x.2.2 w fun r w => c (packV (valL [(.i .i64), (.i .i64)] r)) w)), (n_deque_Op_stealTop, (fun args w c => unL [.p, .p, (.i .i64)] args fun x => deque_Op_stealTop x.1 x.2.1 x.2.2 w fun r w => c (packV (valL [(.i .i64), (.i .i64)] r)) w)), (n_deque_Op_stealBottom, (fun args w c => unL [.p, .p, (.i .i64)] args fun x => deque_Op_stealBottom x.1 x.2.1 x.2.2 w fun r w => c (packV (valL [(.i .i64), (.i .i64)] r)) w)), (n_deque_Op_stealRing, (fun args w c => unL [.p, .p, (.i .i64)] args fun x => deque_Op_stealRing x.1 x.2.1 x.2.2 w fun r w => c (packV (valL [(.i .i64), (.i .i64)] r)) w)), (n_deque_Op_stealThing, (fun args w c => unL [.p, .p, (.i .i64)] args fun x => deque_Op_stealThing x.1 x.2.1 x.2.2 w fun r w => c (packV (valL [(.i .i64), (.i .i64)] r)) w)), (n_deque_Op_stealDone, (fun args w c => unL [.p, .p, (.i .i64)] args fun x => deque_Op_stealDone x.1 x.2.1 x.2.2 w fun r w => c (packV (valL [(.i .i64), (.i .i64)] r)) w))]) v11 #[(.pointer o_0), (.pointer m_1), (.int .i64 w_2)] w7 fun v12 w13 =>
      unT [(.i .i64), (.i .i64)] v12 fun (x14 : Int × Int) =>
      joinP (S := Int) (fun J15 =>
        iteB (x14.2 != (0 : Int)) (
          (J15 (6 : Int) w13)) (
          (J15 x14.1 w13))) fun i16 w17 =>
      nn o_0 fun a18 =>
      stC w17 (Addr.add a18 12) (.int .i64 i16) fun w19 =>
      nn o_0 fun a20 =>
      stC w19 (Addr.add a20 14) (.int .i64 x14.2) fun w21 =>
      (k i16 w21)))
theorem e_deque_Op_Step (deque_Op_pushBottom : Option Addr → Option Addr → Int → World → ((Int × Int) → World → Prop) → Prop) (deque_Op_pushTop : Option Addr → Option Addr → Int → World → ((Int × Int) → World → Prop) → Prop) (deque_Op_pushRing : Option Addr → Option Addr → Int → World → ((Int × Int) → World → Prop) → Prop) (deque_Op_pushNew : Option Addr → Option Addr → Int → World → ((Int × Int) → World → Prop) → Prop) (deque_Op_pushCopy : Option Addr → Option Addr → Int → World → ((Int × Int) → World → Prop) → Prop) (deque_Op_pushWord : Option Addr → Option Addr → Int → World → ((Int × Int) → World → Prop) → Prop) (deque_Op_pushThing : Option Addr → Option Addr → Int → World → ((Int × Int) → World → Prop) → Prop) (deque_Op_pushDone : Option Addr → Option Addr → Int → World → ((Int × Int) → World → Prop) → Prop) (deque_Op_popBottom : Option Addr → Option Addr → Int → World → ((Int × Int) → World → Prop) → Prop) (deque_Op_popRing : Option Addr → Option Addr → Int → World → ((Int × Int) → World → Prop) → Prop) (deque_Op_popLess : Option Addr → Option Addr → Int → World → ((Int × Int) → World → Prop) → Prop) (deque_Op_popTop : Option Addr → Option Addr → Int → World → ((Int × Int) → World → Prop) → Prop) (deque_Op_popThing : Option Addr → Option Addr → Int → World → ((Int × Int) → World → Prop) → Prop) (deque_Op_popLast : Option Addr → Option Addr → Int → World → ((Int × Int) → World → Prop) → Prop) (deque_Op_popBack : Option Addr → Option Addr → Int → World → ((Int × Int) → World → Prop) → Prop) (deque_Op_stealTop : Option Addr → Option Addr → Int → World → ((Int × Int) → World → Prop) → Prop) (deque_Op_stealBottom : Option Addr → Option Addr → Int → World → ((Int × Int) → World → Prop) → Prop) (deque_Op_stealRing : Option Addr → Option Addr → Int → World → ((Int × Int) → World → Prop) → Prop) (deque_Op_stealThing : Option Addr → Option Addr → Int → World → ((Int × Int) → World → Prop) → Prop) (deque_Op_stealDone : Option Addr → Option Addr → Int → World → ((Int × Int) → World → Prop) → Prop) (x : KT [.p, .p, (.i .i64)]) (w : World) (k : KT [(.i .i64)] → World → Prop) : evFn Go.Proofs.Try.prog (orcOf [(n_deque_Op_pushBottom, (fun args w c => unL [.p, .p, (.i .i64)] args fun x => deque_Op_pushBottom x.1 x.2.1 x.2.2 w fun r w => c (packV (valL [(.i .i64), (.i .i64)] r)) w)), (n_deque_Op_pushTop, (fun args w c => unL [.p, .p, (.i .i64)] args fun x => deque_Op_pushTop x.1 x.2.1 x.2.2 w fun r w => c (packV (valL [(.i .i64), (.i .i64)] r)) w)), (n_deque_Op_pushRing, (fun args w c => unL [.p, .p, (.i .i64)] args fun x => deque_Op_pushRing x.1 x.2.1 x.2.2 w fun r w => c (packV (valL [(.i .i64), (.i .i64)] r)) w)), (n_deque_Op_pushNew, (fun args w c => unL [.p, .p, (.i .i64)] args fun x => deque_Op_pushNew x.1 x.2.1 x.2.2 w fun r w => c (packV (valL [(.i .i64), (.i .i64)] r)) w)), (n_deque_Op_pushCopy, (fun args w c => unL [.p, .p, (.i .i64)] args fun x => deque_Op_pushCopy x.1 x.2.1 x.2.2 w fun r w => c (packV (valL [(.i .i64), (.i .i64)] r)) w)), (n_deque_Op_pushWord, (fun args w c => unL [.p, .p, (.i .i64)] args fun x => deque_Op_pushWord x.1 x.2.1 x.2.2 w fun r w => c (packV (valL [(.i .i64), (.i .i64)] r)) w)), (n_deque_Op_pushThing, (fun args w c => unL [.p, .p, (.i .i64)] args fun x => deque_Op_pushThing x.1 x.2.1 x.2.2 w fun r w => c (packV (valL [(.i .i64), (.i .i64)] r)) w)), (n_deque_Op_pushDone, (fun args w c => unL [.p, .p, (.i .i64)] args fun x => deque_Op_pushDone x.1 x.2.1 x.2.2 w fun r w => c (packV (valL [(.i .i64), (.i .i64)] r)) w)), (n_deque_Op_popBottom, (fun args w c => unL [.p, .p, (.i .i64)] args fun x => deque_Op_popBottom x.1 x.2.1 x.2.2 w fun r w => c (packV (valL [(.i .i64), (.i .i64)] r)) w)), (n_deque_Op_popRing, (fun args w c => unL [.p, .p, (.i .i64)] args fun x => deque_Op_popRing x.1 x.2.1 x.2.2 w fun r w => c (packV (valL [(.i .i64), (.i .i64)] r)) w)), (n_deque_Op_popLess, (fun args w c => unL [.p, .p, (.i .i64)] args fun x => deque_Op_popLess x.1 x.2.1 x.2.2 w fun r w => c (packV (valL [(.i .i64), (.i .i64)] r)) w)), (n_deque_Op_popTop, (fun args w c => unL [.p, .p, (.i .i64)] args fun x => deque_Op_popTop x.1 x.2.1 x.2.2 w fun r w => c (packV (valL [(.i .i64), (.i .i64)] r)) w)), (n_deque_Op_popThing, (fun args w c => unL [.p, .p, (.i .i64)] args fun x => deque_Op_popThing x.1 x.2.1 x.2.2 w fun r w => c (packV (valL [(.i .i64), (.i .i64)] r)) w)), (n_deque_Op_popLast, (fun args w c => unL [.p, .p, (.i .i64)] args fun x => deque_Op_popLast x.1 x.2.1 x.2.2 w fun r w => c (packV (valL [(.i .i64), (.i .i64)] r)) w)), (n_deque_Op_popBack, (fun args w c => unL [.p, .p, (.i .i64)] args fun x => deque_Op_popBack x.1 x.2.1 x.2.2 w fun r w => c (packV (valL [(.i .i64), (.i .i64)] r)) w)), (n_deque_Op_stealTop, (fun args w c => unL [.p, .p, (.i .i64)] args fun x => deque_Op_stealTop x.1 x.2.1 x.2.2 w fun r w => c (packV (valL [(.i .i64), (.i .i64)] r)) w)), (n_deque_Op_stealBottom, (fun args w c => unL [.p, .p, (.i .i64)] args fun x => deque_Op_stealBottom x.1 x.2.1 x.2.2 w fun r w => c (packV (valL [(.i .i64), (.i .i64)] r)) w)), (n_deque_Op_stealRing, (fun args w c => unL [.p, .p, (.i .i64)] args fun x => deque_Op_stealRing x.1 x.2.1 x.2.2 w fun r w => c (packV (valL [(.i .i64), (.i .i64)] r)) w)), (n_deque_Op_stealThing, (fun args w c => unL [.p, .p, (.i .i64)] args fun x => deque_Op_stealThing x.1 x.2.1 x.2.2 w fun r w => c (packV (valL [(.i .i64), (.i .i64)] r)) w)), (n_deque_Op_stealDone, (fun args w c => unL [.p, .p, (.i .i64)] args fun x => deque_Op_stealDone x.1 x.2.1 x.2.2 w fun r w => c (packV (valL [(.i .i64), (.i .i64)] r)) w))]) 2199023260615 [(5, [(12, .b)]), (10, [(7, (.i .i64))])] Go.Proofs.Try.f20 [(.i .i64)] (valL [.p, .p, (.i .i64)] x) w k = deque_Op_Step_b deque_Op_pushBottom deque_Op_pushTop deque_Op_pushRing deque_Op_pushNew deque_Op_pushCopy deque_Op_pushWord deque_Op_pushThing deque_Op_pushDone deque_Op_popBottom deque_Op_popRing deque_Op_popLess deque_Op_popTop deque_Op_popThing deque_Op_popLast deque_Op_popBack deque_Op_stealTop deque_Op_stealBottom deque_Op_stealRing deque_Op_stealThing deque_Op_stealDone x.1 x.2.1 x.2.2 w k := by kernel_rfl
def deque_Op_Step (o_0 : Option Addr) (m_1 : Option Addr) (w_2 : Int) (w : World) (k : (Int) → World → Prop) : Prop := deque_Op_Step_b deque_Op_pushBottom deque_Op_pushTop deque_Op_pushRing deque_Op_pushNew deque_Op_pushCopy deque_Op_pushWord deque_Op_pushThing deque_Op_pushDone deque_Op_popBottom deque_Op_popRing deque_Op_popLess deque_Op_popTop deque_Op_popThing deque_Op_popLast deque_Op_popBack deque_Op_stealTop deque_Op_stealBottom deque_Op_stealRing deque_Op_stealThing deque_Op_stealDone o_0 m_1 w_2 w k
def d_deque_Op_Step : Dec := fun args w c => unL [.p, .p, (.i .i64)] args fun x => deque_Op_Step x.1 x.2.1 x.2.2 w fun r w => c (packV (valL [(.i .i64)] r)) w
theorem s_deque_Op_Step : Sound Go.Proofs.Try.prog n_deque_Op_Step d_deque_Op_Step :=
  sound_of (mask := 2199023260615) (h := [(5, [(12, .b)]), (10, [(7, (.i .i64))])]) (ds := [(n_deque_Op_pushBottom, d_deque_Op_pushBottom), (n_deque_Op_pushTop, d_deque_Op_pushTop), (n_deque_Op_pushRing, d_deque_Op_pushRing), (n_deque_Op_pushNew, d_deque_Op_pushNew), (n_deque_Op_pushCopy, d_deque_Op_pushCopy), (n_deque_Op_pushWord, d_deque_Op_pushWord), (n_deque_Op_pushThing, d_deque_Op_pushThing), (n_deque_Op_pushDone, d_deque_Op_pushDone), (n_deque_Op_popBottom, d_deque_Op_popBottom), (n_deque_Op_popRing, d_deque_Op_popRing), (n_deque_Op_popLess, d_deque_Op_popLess), (n_deque_Op_popTop, d_deque_Op_popTop), (n_deque_Op_popThing, d_deque_Op_popThing), (n_deque_Op_popLast, d_deque_Op_popLast), (n_deque_Op_popBack, d_deque_Op_popBack), (n_deque_Op_stealTop, d_deque_Op_stealTop), (n_deque_Op_stealBottom, d_deque_Op_stealBottom), (n_deque_Op_stealRing, d_deque_Op_stealRing), (n_deque_Op_stealThing, d_deque_Op_stealThing), (n_deque_Op_stealDone, d_deque_Op_stealDone)]) mixed Go.Proofs.Try.func20 ⟨s_deque_Op_pushBottom, s_deque_Op_pushTop, s_deque_Op_pushRing, s_deque_Op_pushNew, s_deque_Op_pushCopy, s_deque_Op_pushWord, s_deque_Op_pushThing, s_deque_Op_pushDone, s_deque_Op_popBottom, s_deque_Op_popRing, s_deque_Op_popLess, s_deque_Op_popTop, s_deque_Op_popThing, s_deque_Op_popLast, s_deque_Op_popBack, s_deque_Op_stealTop, s_deque_Op_stealBottom, s_deque_Op_stealRing, s_deque_Op_stealThing, s_deque_Op_stealDone, trivial⟩
    [.p, .p, (.i .i64)] [(.i .i64)] (by kernel_rfl) (fun x w k => deque_Op_Step x.1 x.2.1 x.2.2 w k) (fun x w k => e_deque_Op_Step deque_Op_pushBottom deque_Op_pushTop deque_Op_pushRing deque_Op_pushNew deque_Op_pushCopy deque_Op_pushWord deque_Op_pushThing deque_Op_pushDone deque_Op_popBottom deque_Op_popRing deque_Op_popLess deque_Op_popTop deque_Op_popThing deque_Op_popLast deque_Op_popBack deque_Op_stealTop deque_Op_stealBottom deque_Op_stealRing deque_Op_stealThing deque_Op_stealDone x w k)

/-- peloton/pelotonlaw10.takes -/
def pelotonlaw10_takes_b (deque_Op_Step : Option Addr → Option Addr → Int → World → ((Int) → World → Prop) → Prop) (m_0 : Option Addr) (o_1 : Option Addr) (n_2 : Int) (w : World) (k : (Int) → World → Prop) : Prop :=
  loopP (S := Int) (fun C1 i2 w3 =>
    iteB (decide (i2 < (IntKind.wrap .i64 (n_2 - (1 : Int))))) (
      deque_Op_Step o_1 m_0 (1 : Int) w3 fun i4 w5 =>
      iteB (i4 != (0 : Int)) (
        (k (-(1 : Int)) w5)) (
        (C1 (IntKind.wrap .i64 (i2 + (1 : Int))) w5))) (
      deque_Op_Step o_1 m_0 (1 : Int) w3 fun i6 w7 =>
      (k i6 w7))) (0 : Int) w
theorem e_pelotonlaw10_takes (deque_Op_Step : Option Addr → Option Addr → Int → World → ((Int) → World → Prop) → Prop) (x : KT [.p, .p, (.i .i64)]) (w : World) (k : KT [(.i .i64)] → World → Prop) : evFn Go.Proofs.Try.prog (orcOf [(n_deque_Op_Step, (fun args w c => unL [.p, .p, (.i .i64)] args fun x => deque_Op_Step x.1 x.2.1 x.2.2 w fun r w => c (packV (valL [(.i .i64)] r)) w))]) 133319 [(3, [(7, (.i .i64))])] Go.Proofs.Try.f27 [(.i .i64)] (valL [.p, .p, (.i .i64)] x) w k = pelotonlaw10_takes_b deque_Op_Step x.1 x.2.1 x.2.2 w k := by kernel_rfl
def pelotonlaw10_takes (m_0 : Option Addr) (o_1 : Option Addr) (n_2 : Int) (w : World) (k : (Int) → World → Prop) : Prop := pelotonlaw10_takes_b deque_Op_Step m_0 o_1 n_2 w k
def d_pelotonlaw10_takes : Dec := fun args w c => unL [.p, .p, (.i .i64)] args fun x => pelotonlaw10_takes x.1 x.2.1 x.2.2 w fun r w => c (packV (valL [(.i .i64)] r)) w
theorem s_pelotonlaw10_takes : Sound Go.Proofs.Try.prog n_pelotonlaw10_takes d_pelotonlaw10_takes :=
  sound_of (mask := 133319) (h := [(3, [(7, (.i .i64))])]) (ds := [(n_deque_Op_Step, d_deque_Op_Step)]) mixed Go.Proofs.Try.func27 ⟨s_deque_Op_Step, trivial⟩
    [.p, .p, (.i .i64)] [(.i .i64)] (by kernel_rfl) (fun x w k => pelotonlaw10_takes x.1 x.2.1 x.2.2 w k) (fun x w k => e_pelotonlaw10_takes deque_Op_Step x w k)

/-- (peloton/deque.Deque).Steal -/
def deque_Deque_Steal (d_0 : Array Value) (w : World) (k : (Option Addr) → World → Prop) : Prop :=
  newC w d_0 30 fun a1 w2 =>
  ldA 2 w2 a1 fun cs3 =>
  spl #[(.int .i64 (0 : Int)), (.int .i64 (0 : Int)), (.int .i64 (0 : Int)), (.int .i64 (0 : Int)), (.int .i64 (0 : Int)), (.int .i64 (0 : Int))] 0 2 cs3 fun cs4 =>
  spl #[(.int .i64 (0 : Int)), (.int .i64 (0 : Int)), (.int .i64 (0 : Int)), (.int .i64 (0 : Int)), (.int .i64 (0 : Int)), (.int .i64 (0 : Int)), (.int .i64 (0 : Int)), (.bool false), (.int .i64 (0 : Int)), (.int .i64 (0 : Int)), (.pointer none), .nilFunc, (.int .i64 (0 : Int)), (.int .i64 (0 : Int)), (.int .i64 (0 : Int))] 0 6 cs4 fun cs5 =>
  newC w2 (Array.setIfInBounds cs5 11 (.func (.func n_deque_Op_stealTop) #[] #[])) 122 fun a6 w7 =>
  (k (some a6) w7)
def d_deque_Deque_Steal : Dec := fun args w c => unL [.ag] args fun x => deque_Deque_Steal x w fun r w => c (packV (valL [.p] r)) w
theorem s_deque_Deque_Steal : Sound Go.Proofs.Try.prog n_deque_Deque_Steal d_deque_Deque_Steal :=
  sound_of (mask := 6) (h := []) (ds := []) mixed Go.Proofs.Try.func26 trivial
    [.ag] [.p] (by kernel_rfl) (fun x w k => deque_Deque_Steal x w k) (fun x w k => by kernel_rfl)

/-- (*peloton/deque.Op).Got -/
def deque_Op_Got (o_0 : Option Addr) (w : World) (k : (Int) → World → Prop) : Prop :=
  joinP (S := Bool) (fun J1 =>
    iteB (Option.isNone o_0) (
      (J1 true w)) (
      nn o_0 fun a2 =>
      ldI .i64 w (Addr.add a2 12) fun i3 =>
      iteB (i3 != (2 : Int)) (
        nn o_0 fun a4 =>
        ldI .i64 w (Addr.add a4 12) fun i5 =>
        (J1 (i5 != (1 : Int)) w)) (
        (J1 false w)))) fun b6 w7 =>
  iteB b6 (
    (k (0 : Int) w7)) (
    nn o_0 fun a8 =>
    ldI .i64 w7 (Addr.add a8 13) fun i9 =>
    (k i9 w7))
def d_deque_Op_Got : Dec := fun args w c => unL [.p] args fun x => deque_Op_Got x w fun r w => c (packV (valL [(.i .i64)] r)) w
theorem s_deque_Op_Got : Sound Go.Proofs.Try.prog n_deque_Op_Got d_deque_Op_Got :=
  sound_of (mask := 262149) (h := [(1, [(18, .b)])]) (ds := []) mixed Go.Proofs.Try.func23 trivial
    [.p] [(.i .i64)] (by kernel_rfl) (fun x w k => deque_Op_Got x w k) (fun x w k => by kernel_rfl)

/-- (*peloton/cells.Machine).Peek -/
def cells_Machine_Peek_b (cells_Machine_given : Option Addr → Int → World → ((Bool) → World → Prop) → Prop) (m_0 : Option Addr) (at_1 : Int) (w : World) (k : (Int) → World → Prop) : Prop :=
  joinP (S := Bool) (fun J1 =>
    iteB (Option.isNone m_0) (
      (J1 true w)) (
      cells_Machine_given m_0 at_1 w fun b2 w3 =>
      (J1 (!b2) w3))) fun b4 w5 =>
  iteB b4 (
    (k (0 : Int) w5)) (
    nn m_0 fun a6 =>
    ldS w5 (Addr.add a6 0) fun s7 =>
    ixS s7 at_1 1 fun a8 =>
    ldI .i64 w5 a8 fun i9 =>
    (k i9 w5))
theorem e_cells_Machine_Peek (cells_Machine_given : Option Addr → Int → World → ((Bool) → World → Prop) → Prop) (x : KT [.p, (.i .i64)]) (w : World) (k : KT [(.i .i64)] → World → Prop) : evFn Go.Proofs.Try.prog (orcOf [(n_cells_Machine_given, (fun args w c => unL [.p, (.i .i64)] args fun x => cells_Machine_given x.1 x.2 w fun r w => c (packV (valL [.b] r)) w))]) 4115 [(1, [(12, .b)])] Go.Proofs.Try.f28 [(.i .i64)] (valL [.p, (.i .i64)] x) w k = cells_Machine_Peek_b cells_Machine_given x.1 x.2 w k := by kernel_rfl
def cells_Machine_Peek (m_0 : Option Addr) (at_1 : Int) (w : World) (k : (Int) → World → Prop) : Prop := cells_Machine_Peek_b cells_Machine_given m_0 at_1 w k
def d_cells_Machine_Peek : Dec := fun args w c => unL [.p, (.i .i64)] args fun x => cells_Machine_Peek x.1 x.2 w fun r w => c (packV (valL [(.i .i64)] r)) w
theorem s_cells_Machine_Peek : Sound Go.Proofs.Try.prog n_cells_Machine_Peek d_cells_Machine_Peek :=
  sound_of (mask := 4115) (h := [(1, [(12, .b)])]) (ds := [(n_cells_Machine_given, d_cells_Machine_given)]) mixed Go.Proofs.Try.func28 ⟨s_cells_Machine_given, trivial⟩
    [.p, (.i .i64)] [(.i .i64)] (by kernel_rfl) (fun x w k => cells_Machine_Peek x.1 x.2 w k) (fun x w k => e_cells_Machine_Peek cells_Machine_given x w k)

/-- (peloton/deque.Deque).List -/
def deque_Deque_List_b (deque_Deque_word : Array Value → World → ((Int) → World → Prop) → Prop) (cells_Machine_Peek : Option Addr → Int → World → ((Int) → World → Prop) → Prop) (ring_Of : Int → World → ((Array Value × Int) → World → Prop) → Prop) (deque_Deque_top : Array Value → World → ((Int) → World → Prop) → Prop) (deque_Deque_bottom : Array Value → World → ((Int) → World → Prop) → Prop) (ring_Ring_Size : Array Value → World → ((Int) → World → Prop) → Prop) (ring_Ring_Place : Array Value → Int → World → ((Int) → World → Prop) → Prop) (d_0 : Array Value) (m_1 : Option Addr) (w : World) (k : (Sl) → World → Prop) : Prop :=
  newC w d_0 30 fun a1 w2 =>
  iteB (Option.isNone m_1) (
    (k (Sl.mk none 0 0) w2)) (
    ldA 2 w2 a1 fun cs3 =>
    deque_Deque_word cs3 w2 fun i4 w5 =>
    cells_Machine_Peek m_1 i4 w5 fun i6 w7 =>
    ring_Of i6 w7 fun x8 w9 =>
    newC w9 #[(.int .i64 (0 : Int)), (.int .i64 (0 : Int))] 62 fun a10 w11 =>
    stA 2 w11 a10 (x8.1, x8.2).1 fun w12 =>
    drew w12 fun w13 =>
    ldA 2 w13 a1 fun cs14 =>
    ldA 2 w13 a1 fun cs15 =>
    deque_Deque_top cs14 w13 fun i16 w17 =>
    samec 2 a1 w13 w17 (
    cells_Machine_Peek m_1 i16 w17 fun i18 w19 =>
    samec 2 a1 w13 w19 (
    deque_Deque_bottom cs15 w19 fun i20 w21 =>
    cells_Machine_Peek m_1 i20 w21 fun i22 w23 =>
    joinP (S := Bool) (fun J24 =>
      iteB (((x8.1, x8.2).2 != (0 : Int)) || (decide (i22 ≤ i18))) (
        (J24 true w23)) (
        ldA 2 w23 a10 fun cs25 =>
        ring_Ring_Size cs25 w23 fun i26 w27 =>
        (J24 (decide ((IntKind.wrap .u64 ((IntKind.wrap .u64 i22) - (IntKind.wrap .u64 i18))) > (IntKind.wrap .u64 i26))) w27))) fun b28 w29 =>
    iteB b28 (
      (k (Sl.mk none 0 0) w29)) (
      mkSl Go.Proofs.Try.prog 23 (.int .i64 (0 : Int)) (.int .i64 (IntKind.wrap .i64 (i22 - i18))) w29 fun s30 w31 =>
      loopP (S := (Sl × Int)) (fun C32 x33 w34 =>
        iteB (decide (x33.2 < i22)) (
          ldA 2 w34 a10 fun cs35 =>
          ring_Ring_Place cs35 x33.2 w34 fun i36 w37 =>
          cells_Machine_Peek m_1 i36 w37 fun i38 w39 =>
          newC w39 #[(.int .i64 i38)] 2 fun a40 w41 =>
          bApp Go.Proofs.Try.prog #[23, 23] 23 [(.slice x33.1.a x33.1.n x33.1.c), (.slice (some a40) 1 1)] w41 fun s42 w43 =>
          (C32 (s42, (IntKind.wrap .i64 (x33.2 + (1 : Int)))) w43)) (
          (k x33.1 w34))) (s30, i18) w31))))
theorem e_deque_Deque_List (deque_Deque_word : Array Value → World → ((Int) → World → Prop) → Prop) (cells_Machine_Peek : Option Addr → Int → World → ((Int) → World → Prop) → Prop) (ring_Of : Int → World → ((Array Value × Int) → World → Prop) → Prop) (deque_Deque_top : Array Value → World → ((Int) → World → Prop) → Prop) (deque_Deque_bottom : Array Value → World → ((Int) → World → Prop) → Prop) (ring_Ring_Size : Array Value → World → ((Int) → World → Prop) → Prop) (ring_Ring_Place : Array Value → Int → World → ((Int) → World → Prop) → Prop) (x : KT [.ag, .p]) (w : World) (k : KT [.s] → World → Prop) : evFn Go.Proofs.Try.prog (orcOf [(n_deque_Deque_word, (fun args w c => unL [.ag] args fun x => deque_Deque_word x w fun r w => c (packV (valL [(.i .i64)] r)) w)), (n_cells_Machine_Peek, (fun args w c => unL [.p, (.i .i64)] args fun x => cells_Machine_Peek x.1 x.2 w fun r w => c (packV (valL [(.i .i64)] r)) w)), (n_ring_Of, (fun args w c => unL [(.i .i64)] args fun x => ring_Of x w fun r w => c (packV (valL [.ag, (.i .i64)] r)) w)), (n_deque_Deque_top, (fun args w c => unL [.ag] args fun x => deque_Deque_top x w fun r w => c (packV (valL [(.i .i64)] r)) w)), (n_deque_Deque_bottom, (fun args w c => unL [.ag] args fun x => deque_Deque_bottom x w fun r w => c (packV (valL [(.i .i64)] r)) w)), (n_ring_Ring_Size, (fun args w c => unL [.ag] args fun x => ring_Ring_Size x w fun r w => c (packV (valL [(.i .i64)] r)) w)), (n_ring_Ring_Place, (fun args w c => unL [.ag, (.i .i64)] args fun x => ring_Ring_Place x.1 x.2 w fun r w => c (packV (valL [(.i .i64)] r)) w))]) 18084767253665782 [(6, [(46, .b)]), (12, [(9, .s), (10, (.i .i64))])] Go.Proofs.Try.f22 [.s] (valL [.ag, .p] x) w k = deque_Deque_List_b deque_Deque_word cells_Machine_Peek ring_Of deque_Deque_top deque_Deque_bottom ring_Ring_Size ring_Ring_Place x.1 x.2 w k := by kernel_rfl
def deque_Deque_List (d_0 : Array Value) (m_1 : Option Addr) (w : World) (k : (Sl) → World → Prop) : Prop := deque_Deque_List_b deque_Deque_word cells_Machine_Peek ring_Of deque_Deque_top deque_Deque_bottom ring_Ring_Size ring_Ring_Place d_0 m_1 w k
def d_deque_Deque_List : Dec := fun args w c => unL [.ag, .p] args fun x => deque_Deque_List x.1 x.2 w fun r w => c (packV (valL [.s] r)) w
theorem s_deque_Deque_List : Sound Go.Proofs.Try.prog n_deque_Deque_List d_deque_Deque_List :=
  sound_of (mask := 18084767253665782) (h := [(6, [(46, .b)]), (12, [(9, .s), (10, (.i .i64))])]) (ds := [(n_deque_Deque_word, d_deque_Deque_word), (n_cells_Machine_Peek, d_cells_Machine_Peek), (n_ring_Of, d_ring_Of), (n_deque_Deque_top, d_deque_Deque_top), (n_deque_Deque_bottom, d_deque_Deque_bottom), (n_ring_Ring_Size, d_ring_Ring_Size), (n_ring_Ring_Place, d_ring_Ring_Place)]) mixed Go.Proofs.Try.func22 ⟨s_deque_Deque_word, s_cells_Machine_Peek, s_ring_Of, s_deque_Deque_top, s_deque_Deque_bottom, s_ring_Ring_Size, s_ring_Ring_Place, trivial⟩
    [.ag, .p] [.s] (by kernel_rfl) (fun x w k => deque_Deque_List x.1 x.2 w k) (fun x w k => e_deque_Deque_List deque_Deque_word cells_Machine_Peek ring_Of deque_Deque_top deque_Deque_bottom ring_Ring_Size ring_Ring_Place x w k)

/-- peloton/pelotonlaw10.steals -/
def pelotonlaw10_steals_b (deque_Deque_Steal : Array Value → World → ((Option Addr) → World → Prop) → Prop) (pelotonlaw10_takes : Option Addr → Option Addr → Int → World → ((Int) → World → Prop) → Prop) (deque_Op_Got : Option Addr → World → ((Int) → World → Prop) → Prop) (deque_Op_Step : Option Addr → Option Addr → Int → World → ((Int) → World → Prop) → Prop) (deque_Deque_List : Array Value → Option Addr → World → ((Sl) → World → Prop) → Prop) (m_0 : Option Addr) (d_1 : Array Value) (w : World) (k : (Bool) → World → Prop) : Prop :=
  newC w d_1 30 fun a1 w2 =>
  ldA 2 w2 a1 fun cs3 =>
  deque_Deque_Steal cs3 w2 fun p4 w5 =>
  joinP (S := Bool) (fun J6 =>
    pelotonlaw10_takes m_0 p4 (4 : Int) w5 fun i7 w8 =>
    iteB (i7 != (2 : Int)) (
      (J6 true w8)) (
      deque_Op_Got p4 w8 fun i9 w10 =>
      iteB (i9 != (5 : Int)) (
        (J6 true w10)) (
        deque_Op_Step p4 m_0 (1 : Int) w10 fun i11 w12 =>
        iteB (i11 != (1 : Int)) (
          (J6 true w12)) (
          deque_Op_Got p4 w12 fun i13 w14 =>
          (J6 (i13 != (5 : Int)) w14))))) fun b15 w16 =>
  iteB b15 (
    (k false w16)) (
    ldA 2 w16 a1 fun cs17 =>
    deque_Deque_List cs17 m_0 w16 fun s18 w19 =>
    iteB (((s18.n : Nat) : Int) == (1 : Int)) (
      ixS s18 (0 : Int) 1 fun a20 =>
      ldI .i64 w19 a20 fun i21 =>
      (k (i21 == (6 : Int)) w19)) (
      (k false w19)))
theorem e_pelotonlaw10_steals (deque_Deque_Steal : Array Value → World → ((Option Addr) → World → Prop) → Prop) (pelotonlaw10_takes : Option Addr → Option Addr → Int → World → ((Int) → World → Prop) → Prop) (deque_Op_Got : Option Addr → World → ((Int) → World → Prop) → Prop) (deque_Op_Step : Option Addr → Option Addr → Int → World → ((Int) → World → Prop) → Prop) (deque_Deque_List : Array Value → Option Addr → World → ((Sl) → World → Prop) → Prop) (x : KT [.p, .ag]) (w : World) (k : KT [.b] → World → Prop) : evFn Go.Proofs.Try.prog (orcOf [(n_deque_Deque_Steal, (fun args w c => unL [.ag] args fun x => deque_Deque_Steal x w fun r w => c (packV (valL [.p] r)) w)), (n_pelotonlaw10_takes, (fun args w c => unL [.p, .p, (.i .i64)] args fun x => pelotonlaw10_takes x.1 x.2.1 x.2.2 w fun r w => c (packV (valL [(.i .i64)] r)) w)), (n_deque_Op_Got, (fun args w c => unL [.p] args fun x => deque_Op_Got x w fun r w => c (packV (valL [(.i .i64)] r)) w)), (n_deque_Op_Step, (fun args w c => unL [.p, .p, (.i .i64)] args fun x => deque_Op_Step x.1 x.2.1 x.2.2 w fun r w => c (packV (valL [(.i .i64)] r)) w)), (n_deque_Deque_List, (fun args w c => unL [.ag, .p] args fun x => deque_Deque_List x.1 x.2 w fun r w => c (packV (valL [.s] r)) w))]) 268435577 [(2, [(28, .b)])] Go.Proofs.Try.f59 [.b] (valL [.p, .ag] x) w k = pelotonlaw10_steals_b deque_Deque_Steal pelotonlaw10_takes deque_Op_Got deque_Op_Step deque_Deque_List x.1 x.2 w k := by kernel_rfl
def pelotonlaw10_steals (m_0 : Option Addr) (d_1 : Array Value) (w : World) (k : (Bool) → World → Prop) : Prop := pelotonlaw10_steals_b deque_Deque_Steal pelotonlaw10_takes deque_Op_Got deque_Op_Step deque_Deque_List m_0 d_1 w k
def d_pelotonlaw10_steals : Dec := fun args w c => unL [.p, .ag] args fun x => pelotonlaw10_steals x.1 x.2 w fun r w => c (packV (valL [.b] r)) w
theorem s_pelotonlaw10_steals : Sound Go.Proofs.Try.prog n_pelotonlaw10_steals d_pelotonlaw10_steals :=
  sound_of (mask := 268435577) (h := [(2, [(28, .b)])]) (ds := [(n_deque_Deque_Steal, d_deque_Deque_Steal), (n_pelotonlaw10_takes, d_pelotonlaw10_takes), (n_deque_Op_Got, d_deque_Op_Got), (n_deque_Op_Step, d_deque_Op_Step), (n_deque_Deque_List, d_deque_Deque_List)]) mixed Go.Proofs.Try.func59 ⟨s_deque_Deque_Steal, s_pelotonlaw10_takes, s_deque_Op_Got, s_deque_Op_Step, s_deque_Deque_List, trivial⟩
    [.p, .ag] [.b] (by kernel_rfl) (fun x w k => pelotonlaw10_steals x.1 x.2 w k) (fun x w k => e_pelotonlaw10_steals deque_Deque_Steal pelotonlaw10_takes deque_Op_Got deque_Op_Step deque_Deque_List x w k)

/-- peloton/pelotonlaw10.awake -/
def pelotonlaw10_awake_b (cells_New : Int → Int → World → ((Option Addr × Int) → World → Prop) → Prop) (deque_New : Option Addr → Int → Int → Int → World → ((Array Value × Int) → World → Prop) → Prop) (cells_Machine_Used : Option Addr → World → ((Int) → World → Prop) → Prop) (deque_Deque_Push : Array Value → Int → World → ((Option Addr) → World → Prop) → Prop) (pelotonlaw10_takes : Option Addr → Option Addr → Int → World → ((Int) → World → Prop) → Prop) (pelotonlaw10_steals : Option Addr → Array Value → World → ((Bool) → World → Prop) → Prop)  (w : World) (k : (Bool) → World → Prop) : Prop :=
  cells_New (16 : Int) (2 : Int) w fun x1 w2 =>
  deque_New (x1.1, x1.2).1 (2 : Int) (0 : Int) (1 : Int) w2 fun x3 w4 =>
  newC w4 #[(.int .i64 (0 : Int)), (.int .i64 (0 : Int))] 30 fun a5 w6 =>
  stA 2 w6 a5 (x3.1, x3.2).1 fun w7 =>
  joinP (S := Bool) (fun J8 =>
    iteB (((x1.1, x1.2).2 != (0 : Int)) || ((x3.1, x3.2).2 != (0 : Int))) (
      (J8 true w7)) (
      ldA 2 w7 a5 fun cs9 =>
      eqA ([(0, 0)] ++ ([(1, 0)] ++ [])) cs9 #[(.int .i64 (0 : Int)), (.int .i64 (1 : Int))] fun b10 =>
      iteB (!b10) (
        (J8 true w7)) (
        cells_Machine_Used (x1.1, x1.2).1 w7 fun i11 w12 =>
        (J8 (i11 != (4 : Int)) w12)))) fun b13 w14 =>
  iteB b13 (
    (k false w14)) (
    ldA 2 w14 a5 fun cs15 =>
    deque_Deque_Push cs15 (5 : Int) w14 fun p16 w17 =>
    pelotonlaw10_takes (x1.1, x1.2).1 p16 (5 : Int) w17 fun i18 w19 =>
    iteB (i18 == (1 : Int)) (
      ldA 2 w19 a5 fun cs20 =>
      deque_Deque_Push cs20 (6 : Int) w19 fun p21 w22 =>
      pelotonlaw10_takes (x1.1, x1.2).1 p21 (9 : Int) w22 fun i23 w24 =>
      iteB (i23 == (1 : Int)) (
        ldA 2 w24 a5 fun cs25 =>
        deque_Deque_Push cs25 (7 : Int) w24 fun p26 w27 =>
        pelotonlaw10_takes (x1.1, x1.2).1 p26 (3 : Int) w27 fun i28 w29 =>
        iteB (i28 == (4 : Int)) (
          ldA 2 w29 a5 fun cs30 =>
          pelotonlaw10_steals (x1.1, x1.2).1 cs30 w29 fun b31 w32 =>
          (k b31 w32)) (
          (k false w29))) (
        (k false w24))) (
      (k false w19)))
theorem e_pelotonlaw10_awake (cells_New : Int → Int → World → ((Option Addr × Int) → World → Prop) → Prop) (deque_New : Option Addr → Int → Int → Int → World → ((Array Value × Int) → World → Prop) → Prop) (cells_Machine_Used : Option Addr → World → ((Int) → World → Prop) → Prop) (deque_Deque_Push : Array Value → Int → World → ((Option Addr) → World → Prop) → Prop) (pelotonlaw10_takes : Option Addr → Option Addr → Int → World → ((Int) → World → Prop) → Prop) (pelotonlaw10_steals : Option Addr → Array Value → World → ((Bool) → World → Prop) → Prop) (x : KT []) (w : World) (k : KT [.b] → World → Prop) : evFn Go.Proofs.Try.prog (orcOf [(n_cells_New, (fun args w c => unL [(.i .i64), (.i .i64)] args fun x => cells_New x.1 x.2 w fun r w => c (packV (valL [.p, (.i .i64)] r)) w)), (n_deque_New, (fun args w c => unL [.p, (.i .i64), (.i .i64), (.i .i64)] args fun x => deque_New x.1 x.2.1 x.2.2.1 x.2.2.2 w fun r w => c (packV (valL [.ag, (.i .i64)] r)) w)), (n_cells_Machine_Used, (fun args w c => unL [.p] args fun x => cells_Machine_Used x w fun r w => c (packV (valL [(.i .i64)] r)) w)), (n_deque_Deque_Push, (fun args w c => unL [.ag, (.i .i64)] args fun x => deque_Deque_Push x.1 x.2 w fun r w => c (packV (valL [.p] r)) w)), (n_pelotonlaw10_takes, (fun args w c => unL [.p, .p, (.i .i64)] args fun x => pelotonlaw10_takes x.1 x.2.1 x.2.2 w fun r w => c (packV (valL [(.i .i64)] r)) w)), (n_pelotonlaw10_steals, (fun args w c => unL [.p, .ag] args fun x => pelotonlaw10_steals x.1 x.2 w fun r w => c (packV (valL [.b] r)) w))]) 536870943 [(3, [(29, .b)])] Go.Proofs.Try.f14 [.b] (valL [] x) w k = pelotonlaw10_awake_b cells_New deque_New cells_Machine_Used deque_Deque_Push pelotonlaw10_takes pelotonlaw10_steals  w k := by kernel_rfl
def pelotonlaw10_awake  (w : World) (k : (Bool) → World → Prop) : Prop := pelotonlaw10_awake_b cells_New deque_New cells_Machine_Used deque_Deque_Push pelotonlaw10_takes pelotonlaw10_steals  w k
def d_pelotonlaw10_awake : Dec := fun args w c => unL [] args fun x => pelotonlaw10_awake  w fun r w => c (packV (valL [.b] r)) w
theorem s_pelotonlaw10_awake : Sound Go.Proofs.Try.prog n_pelotonlaw10_awake d_pelotonlaw10_awake :=
  sound_of (mask := 536870943) (h := [(3, [(29, .b)])]) (ds := [(n_cells_New, d_cells_New), (n_deque_New, d_deque_New), (n_cells_Machine_Used, d_cells_Machine_Used), (n_deque_Deque_Push, d_deque_Deque_Push), (n_pelotonlaw10_takes, d_pelotonlaw10_takes), (n_pelotonlaw10_steals, d_pelotonlaw10_steals)]) mixed Go.Proofs.Try.func14 ⟨s_cells_New, s_deque_New, s_cells_Machine_Used, s_deque_Deque_Push, s_pelotonlaw10_takes, s_pelotonlaw10_steals, trivial⟩
    [] [.b] (by kernel_rfl) (fun x w k => pelotonlaw10_awake  w k) (fun x w k => e_pelotonlaw10_awake cells_New deque_New cells_Machine_Used deque_Deque_Push pelotonlaw10_takes pelotonlaw10_steals x w k)

/-- peloton/pelotonlaw10.run -/
def pelotonlaw10_run_b (deque_Op_Step : Option Addr → Option Addr → Int → World → ((Int) → World → Prop) → Prop) (m_0 : Option Addr) (o_1 : Option Addr) (w_2 : Int) (w : World) (k : (Int) → World → Prop) : Prop :=
  loopP (S := Int) (fun C1 i2 w3 =>
    iteB (decide (i2 < (300 : Int))) (
      deque_Op_Step o_1 m_0 w_2 w3 fun i4 w5 =>
      iteB ((i4 != (0 : Int)) && (i4 != (2 : Int))) (
        (k i4 w5)) (
        (C1 (IntKind.wrap .i64 (i2 + (1 : Int))) w5))) (
      (k (0 : Int) w3))) (0 : Int) w
theorem e_pelotonlaw10_run (deque_Op_Step : Option Addr → Option Addr → Int → World → ((Int) → World → Prop) → Prop) (x : KT [.p, .p, (.i .i64)]) (w : World) (k : KT [(.i .i64)] → World → Prop) : evFn Go.Proofs.Try.prog (orcOf [(n_deque_Op_Step, (fun args w c => unL [.p, .p, (.i .i64)] args fun x => deque_Op_Step x.1 x.2.1 x.2.2 w fun r w => c (packV (valL [(.i .i64)] r)) w))]) 4195783 [(3, [(7, (.i .i64))])] Go.Proofs.Try.f17 [(.i .i64)] (valL [.p, .p, (.i .i64)] x) w k = pelotonlaw10_run_b deque_Op_Step x.1 x.2.1 x.2.2 w k := by kernel_rfl
def pelotonlaw10_run (m_0 : Option Addr) (o_1 : Option Addr) (w_2 : Int) (w : World) (k : (Int) → World → Prop) : Prop := pelotonlaw10_run_b deque_Op_Step m_0 o_1 w_2 w k
def d_pelotonlaw10_run : Dec := fun args w c => unL [.p, .p, (.i .i64)] args fun x => pelotonlaw10_run x.1 x.2.1 x.2.2 w fun r w => c (packV (valL [(.i .i64)] r)) w
theorem s_pelotonlaw10_run : Sound Go.Proofs.Try.prog n_pelotonlaw10_run d_pelotonlaw10_run :=
  sound_of (mask := 4195783) (h := [(3, [(7, (.i .i64))])]) (ds := [(n_deque_Op_Step, d_deque_Op_Step)]) mixed Go.Proofs.Try.func17 ⟨s_deque_Op_Step, trivial⟩
    [.p, .p, (.i .i64)] [(.i .i64)] (by kernel_rfl) (fun x w k => pelotonlaw10_run x.1 x.2.1 x.2.2 w k) (fun x w k => e_pelotonlaw10_run deque_Op_Step x w k)

/-- peloton/pelotonlaw10.same -/
def pelotonlaw10_same (a_0 : Sl) (b_1 : Sl) (w : World) (k : (Bool) → World → Prop) : Prop :=
  iteB (((a_0.n : Nat) : Int) != ((b_1.n : Nat) : Int)) (
    (k false w)) (
    loopP (S := Int) (fun C1 i2 w3 =>
      iteB (decide (i2 < ((a_0.n : Nat) : Int))) (
        drew w3 fun w4 =>
        ixS a_0 i2 1 fun a5 =>
        ldI .i64 w4 a5 fun i6 =>
        ixS b_1 i2 1 fun a7 =>
        ldI .i64 w4 a7 fun i8 =>
        iteB (i6 != i8) (
          (k false w4)) (
          (C1 (IntKind.wrap .i64 (i2 + (1 : Int))) w4))) (
        (k true w3))) (0 : Int) w)
def d_pelotonlaw10_same : Dec := fun args w c => unL [.s, .s] args fun x => pelotonlaw10_same x.1 x.2 w fun r w => c (packV (valL [.b] r)) w
theorem s_pelotonlaw10_same : Sound Go.Proofs.Try.prog n_pelotonlaw10_same d_pelotonlaw10_same :=
  sound_of (mask := 33571891) (h := [(6, [(5, (.i .i64))])]) (ds := []) mixed Go.Proofs.Try.func21 trivial
    [.s, .s] [.b] (by kernel_rfl) (fun x w k => pelotonlaw10_same x.1 x.2 w k) (fun x w k => by kernel_rfl)

/-- (*peloton/deque.Op).Err -/
def deque_Op_Err (o_0 : Option Addr) (w : World) (k : (Int) → World → Prop) : Prop :=
  iteB (Option.isNone o_0) (
    (k (2 : Int) w)) (
    nn o_0 fun a1 =>
    ldI .i64 w (Addr.add a1 14) fun i2 =>
    (k i2 w))
def d_deque_Op_Err : Dec := fun args w c => unL [.p] args fun x => deque_Op_Err x w fun r w => c (packV (valL [(.i .i64)] r)) w
theorem s_deque_Op_Err : Sound Go.Proofs.Try.prog n_deque_Op_Err d_deque_Op_Err :=
  sound_of (mask := 21) (h := []) (ds := []) mixed Go.Proofs.Try.func24 trivial
    [.p] [(.i .i64)] (by kernel_rfl) (fun x w k => deque_Op_Err x w k) (fun x w k => by kernel_rfl)

/-- peloton/pelotonlaw10.DequeGrows -/
def pelotonlaw10_DequeGrows_b (pelotonlaw10_awake : World → ((Bool) → World → Prop) → Prop) (cells_New : Int → Int → World → ((Option Addr × Int) → World → Prop) → Prop) (deque_New : Option Addr → Int → Int → Int → World → ((Array Value × Int) → World → Prop) → Prop) (deque_Deque_Push : Array Value → Int → World → ((Option Addr) → World → Prop) → Prop) (pelotonlaw10_run : Option Addr → Option Addr → Int → World → ((Int) → World → Prop) → Prop) (cells_Machine_Used : Option Addr → World → ((Int) → World → Prop) → Prop) (deque_Op_Step : Option Addr → Option Addr → Int → World → ((Int) → World → Prop) → Prop) (deque_Deque_List : Array Value → Option Addr → World → ((Sl) → World → Prop) → Prop) (pelotonlaw10_same : Sl → Sl → World → ((Bool) → World → Prop) → Prop) (deque_Op_Got : Option Addr → World → ((Int) → World → Prop) → Prop) (deque_Op_Err : Option Addr → World → ((Int) → World → Prop) → Prop) (logs_0 : Array Value) (l_1 : Sl) (x_2 : Int) (w : World) (k : (Bool) → World → Prop) : Prop :=
  newC w logs_0 22 fun a1 w2 =>
  joinP (S := Bool) (fun J3 =>
    ldI .i64 w2 (Addr.add a1 0) fun i4 =>
    iteB (decide (i4 < (0 : Int))) (
      (J3 (true || (decide (((l_1.n : Nat) : Int) < (1 : Int)))) w2)) (
      ldI .i64 w2 (Addr.add a1 1) fun i5 =>
      ldI .i64 w2 (Addr.add a1 0) fun i6 =>
      iteB (decide (i5 < i6)) (
        (J3 (true || (decide (((l_1.n : Nat) : Int) < (1 : Int)))) w2)) (
        ldI .i64 w2 (Addr.add a1 1) fun i7 =>
        (J3 ((decide (i7 > (8 : Int))) || (decide (((l_1.n : Nat) : Int) < (1 : Int)))) w2)))) fun b8 w9 =>
  iteB b8 (
    pelotonlaw10_awake  w9 fun b10 w11 =>
    (k b10 w11)) (
    cells_New (600 : Int) (2 : Int) w9 fun x12 w13 =>
    ldI .i64 w13 (Addr.add a1 0) fun i14 =>
    ldI .i64 w13 (Addr.add a1 1) fun i15 =>
    deque_New (x12.1, x12.2).1 (2 : Int) i14 i15 w13 fun x16 w17 =>
    newC w17 #[(.int .i64 (0 : Int)), (.int .i64 (0 : Int))] 30 fun a18 w19 =>
    stA 2 w19 a18 (x16.1, x16.2).1 fun w20 =>
    iteB (((x12.1, x12.2).2 != (0 : Int)) || ((x16.1, x16.2).2 != (0 : Int))) (
      (k false w20)) (
      joinP (S := Int) (fun J21 =>
        loopP (S := (Int × Int)) (fun C22 x23 w24 =>
          ldI .i64 w24 (Addr.add a1 0) fun i25 =>
          iteB (decide (x23.2 < i25)) (
            (C22 ((IntKind.wrap .i64 ((2 : Int) * x23.1)), (IntKind.wrap .i64 (x23.2 + (1 : Int)))) w24)) (
            (J21 x23.1 w24))) ((1 : Int), (0 : Int)) w20) fun i26 w27 =>
      newC w27 #[] 2 fun a28 w29 =>
      joinP (S := Sl) (fun J30 =>
        loopP (S := (Sl × Int)) (fun C31 x32 w33 =>
          iteB (decide (x32.2 < i26)) (
            remI x32.2 ((l_1.n : Nat) : Int) fun i34 =>
            ixS l_1 i34 1 fun a35 =>
            ldI .i64 w33 a35 fun i36 =>
            newC w33 #[(.int .i64 i36)] 2 fun a37 w38 =>
            bApp Go.Proofs.Try.prog #[23, 23] 23 [(.slice x32.1.a x32.1.n x32.1.c), (.slice (some a37) 1 1)] w38 fun s39 w40 =>
            drew w40 fun w41 =>
            ldA 2 w41 a18 fun cs42 =>
            ixS s39 x32.2 1 fun a43 =>
            ldI .i64 w41 a43 fun i44 =>
            deque_Deque_Push cs42 i44 w41 fun p45 w46 =>
            pelotonlaw10_run (x12.1, x12.2).1 p45 (0 : Int) w46 fun i47 w48 =>
            iteB (i47 != (1 : Int)) (
              (k false w48)) (
              (C31 (s39, (IntKind.wrap .i64 (x32.2 + (1 : Int)))) w48))) (
            (J30 x32.1 w33))) ((Sl.mk (some a28) 0 0), (0 : Int)) w29) fun s49 w50 =>
      cells_Machine_Used (x12.1, x12.2).1 w50 fun i51 w52 =>
      ldA 2 w52 a18 fun cs53 =>
      deque_Deque_Push cs53 x_2 w52 fun p54 w55 =>
      joinP (S := Bool) (fun J56 =>
        iteB (i51 != (IntKind.wrap .i64 ((3 : Int) + i26))) (
          (J56 true w55)) (
          ldI .i64 w55 (Addr.add a1 0) fun i57 =>
          ldI .i64 w55 (Addr.add a1 1) fun i58 =>
          (J56 (i57 == i58) w55))) fun b59 w60 =>
      iteB b59 (
        iteB (i51 == (IntKind.wrap .i64 ((3 : Int) + i26))) (
          deque_Op_Step p54 (x12.1, x12.2).1 (0 : Int) w60 fun i61 w62 =>
          iteB (i61 == (0 : Int)) (
            deque_Op_Step p54 (x12.1, x12.2).1 (0 : Int) w62 fun i63 w64 =>
            iteB (i63 == (0 : Int)) (
              deque_Op_Step p54 (x12.1, x12.2).1 (0 : Int) w64 fun i65 w66 =>
              iteB (i65 == (4 : Int)) (
                deque_Op_Step p54 (x12.1, x12.2).1 (0 : Int) w66 fun i67 w68 =>
                iteB (i67 == (4 : Int)) (
                  ldA 2 w68 a18 fun cs69 =>
                  deque_Deque_List cs69 (x12.1, x12.2).1 w68 fun s70 w71 =>
                  pelotonlaw10_same s70 s49 w71 fun b72 w73 =>
                  iteB b72 (
                    cells_Machine_Used (x12.1, x12.2).1 w73 fun i74 w75 =>
                    iteB (i74 == i51) (
                      pelotonlaw10_awake  w75 fun b76 w77 =>
                      (k b76 w77)) (
                      (k false w75))) (
                    (k false w73))) (
                  (k false w68))) (
                (k false w66))) (
              (k false w64))) (
            (k false w62))) (
          (k false w60))) (
        joinP (S := Unit) (fun J78 =>
          loopP (S := Int) (fun C79 i80 w81 =>
            iteB (decide (i80 < (IntKind.wrap .i64 ((7 : Int) + (IntKind.wrap .i64 ((2 : Int) * i26)))))) (
              joinP (S := Bool) (fun J82 =>
                deque_Op_Step p54 (x12.1, x12.2).1 (0 : Int) w81 fun i83 w84 =>
                iteB (i83 != (0 : Int)) (
                  (J82 true w84)) (
                  ldA 2 w84 a18 fun cs85 =>
                  deque_Deque_List cs85 (x12.1, x12.2).1 w84 fun s86 w87 =>
                  pelotonlaw10_same s86 s49 w87 fun b88 w89 =>
                  iteB (!b88) (
                    (J82 true w89)) (
                    cells_Machine_Used (x12.1, x12.2).1 w89 fun i90 w91 =>
                    (J82 (!((i90 == i51) == (decide (i80 < (4 : Int))))) w91)))) fun b92 w93 =>
              iteB b92 (
                (k false w93)) (
                (C79 (IntKind.wrap .i64 (i80 + (1 : Int))) w93))) (
              (J78 () w81))) (1 : Int) w60) fun u94 w95 =>
        joinP (S := Bool) (fun J96 =>
          deque_Op_Step p54 (x12.1, x12.2).1 (0 : Int) w95 fun i97 w98 =>
          iteB (i97 != (1 : Int)) (
            (J96 true w98)) (
            cells_Machine_Used (x12.1, x12.2).1 w98 fun i99 w100 =>
            (J96 (i99 != (IntKind.wrap .i64 (i51 + (IntKind.wrap .i64 ((2 : Int) * i26))))) w100))) fun b101 w102 =>
        iteB b101 (
          (k false w102)) (
          ldA 2 w102 a18 fun cs103 =>
          deque_Deque_List cs103 (x12.1, x12.2).1 w102 fun s104 w105 =>
          newC w105 #[(.int .i64 x_2)] 2 fun a106 w107 =>
          bApp Go.Proofs.Try.prog #[23, 23] 23 [(.slice s49.a s49.n s49.c), (.slice (some a106) 1 1)] w107 fun s108 w109 =>
          pelotonlaw10_same s104 s108 w109 fun b110 w111 =>
          iteB b110 (
            deque_Op_Got p54 w111 fun i112 w113 =>
            iteB (i112 == (0 : Int)) (
              deque_Op_Err p54 w113 fun i114 w115 =>
              iteB (i114 == (0 : Int)) (
                pelotonlaw10_awake  w115 fun b116 w117 =>
                (k b116 w117)) (
                (k false w115))) (
              (k false w113))) (
            (k false w111))))))
theorem e_pelotonlaw10_DequeGrows (pelotonlaw10_awake : World → ((Bool) → World → Prop) → Prop) (cells_New : Int → Int → World → ((Option Addr × Int) → World → Prop) → Prop) (deque_New : Option Addr → Int → Int → Int → World → ((Array Value × Int) → World → Prop) → Prop) (deque_Deque_Push : Array Value → Int → World → ((Option Addr) → World → Prop) → Prop) (pelotonlaw10_run : Option Addr → Option Addr → Int → World → ((Int) → World → Prop) → Prop) (cells_Machine_Used : Option Addr → World → ((Int) → World → Prop) → Prop) (deque_Op_Step : Option Addr → Option Addr → Int → World → ((Int) → World → Prop) → Prop) (deque_Deque_List : Array Value → Option Addr → World → ((Sl) → World → Prop) → Prop) (pelotonlaw10_same : Sl → Sl → World → ((Bool) → World → Prop) → Prop) (deque_Op_Got : Option Addr → World → ((Int) → World → Prop) → Prop) (deque_Op_Err : Option Addr → World → ((Int) → World → Prop) → Prop) (x : KT [.ag, .s, (.i .i64)]) (w : World) (k : KT [.b] → World → Prop) : evFn Go.Proofs.Try.prog (orcOf [(n_pelotonlaw10_awake, (fun args w c => unL [] args fun x => pelotonlaw10_awake  w fun r w => c (packV (valL [.b] r)) w)), (n_cells_New, (fun args w c => unL [(.i .i64), (.i .i64)] args fun x => cells_New x.1 x.2 w fun r w => c (packV (valL [.p, (.i .i64)] r)) w)), (n_deque_New, (fun args w c => unL [.p, (.i .i64), (.i .i64), (.i .i64)] args fun x => deque_New x.1 x.2.1 x.2.2.1 x.2.2.2 w fun r w => c (packV (valL [.ag, (.i .i64)] r)) w)), (n_deque_Deque_Push, (fun args w c => unL [.ag, (.i .i64)] args fun x => deque_Deque_Push x.1 x.2 w fun r w => c (packV (valL [.p] r)) w)), (n_pelotonlaw10_run, (fun args w c => unL [.p, .p, (.i .i64)] args fun x => pelotonlaw10_run x.1 x.2.1 x.2.2 w fun r w => c (packV (valL [(.i .i64)] r)) w)), (n_cells_Machine_Used, (fun args w c => unL [.p] args fun x => cells_Machine_Used x w fun r w => c (packV (valL [(.i .i64)] r)) w)), (n_deque_Op_Step, (fun args w c => unL [.p, .p, (.i .i64)] args fun x => deque_Op_Step x.1 x.2.1 x.2.2 w fun r w => c (packV (valL [(.i .i64)] r)) w)), (n_deque_Deque_List, (fun args w c => unL [.ag, .p] args fun x => deque_Deque_List x.1 x.2 w fun r w => c (packV (valL [.s] r)) w)), (n_pelotonlaw10_same, (fun args w c => unL [.s, .s] args fun x => pelotonlaw10_same x.1 x.2 w fun r w => c (packV (valL [.b] r)) w)), (n_deque_Op_Got, (fun args w c => unL [.p] args fun x => deque_Op_Got x w fun r w => c (packV (valL [(.i .i64)] r)) w)), (n_deque_Op_Err, (fun args w c => unL [.p] args fun x => deque_Op_Err x w fun r w => c (packV (valL [(.i .i64)] r)) w))]) 3138933991624228780299075095685362291608179096134149734350 [(1, [(37, .b)]), (11, [(11, (.i .i64))]), (12, [(11, (.i .i64)), (12, (.i .i64))]), (20, [(13, .s)]), (21, [(13, .s), (14, (.i .i64))]), (32, [(106, .b)]), (36, []), (37, [(17, (.i .i64))]), (41, [(178, .b)]), (45, [(191, .b)])] Go.Proofs.Try.f3 [.b] (valL [.ag, .s, (.i .i64)] x) w k = pelotonlaw10_DequeGrows_b pelotonlaw10_awake cells_New deque_New deque_Deque_Push pelotonlaw10_run cells_Machine_Used deque_Op_Step deque_Deque_List pelotonlaw10_same deque_Op_Got deque_Op_Err x.1 x.2.1 x.2.2 w k := by kernel_rfl
def pelotonlaw10_DequeGrows (logs_0 : Array Value) (l_1 : Sl) (x_2 : Int) (w : World) (k : (Bool) → World → Prop) : Prop := pelotonlaw10_DequeGrows_b pelotonlaw10_awake cells_New deque_New deque_Deque_Push pelotonlaw10_run cells_Machine_Used deque_Op_Step deque_Deque_List pelotonlaw10_same deque_Op_Got deque_Op_Err logs_0 l_1 x_2 w k
def d_pelotonlaw10_DequeGrows : Dec := fun args w c => unL [.ag, .s, (.i .i64)] args fun x => pelotonlaw10_DequeGrows x.1 x.2.1 x.2.2 w fun r w => c (packV (valL [.b] r)) w
theorem s_pelotonlaw10_DequeGrows : Sound Go.Proofs.Try.prog n_pelotonlaw10_DequeGrows d_pelotonlaw10_DequeGrows :=
  sound_of (mask := 3138933991624228780299075095685362291608179096134149734350) (h := [(1, [(37, .b)]), (11, [(11, (.i .i64))]), (12, [(11, (.i .i64)), (12, (.i .i64))]), (20, [(13, .s)]), (21, [(13, .s), (14, (.i .i64))]), (32, [(106, .b)]), (36, []), (37, [(17, (.i .i64))]), (41, [(178, .b)]), (45, [(191, .b)])]) (ds := [(n_pelotonlaw10_awake, d_pelotonlaw10_awake), (n_cells_New, d_cells_New), (n_deque_New, d_deque_New), (n_deque_Deque_Push, d_deque_Deque_Push), (n_pelotonlaw10_run, d_pelotonlaw10_run), (n_cells_Machine_Used, d_cells_Machine_Used), (n_deque_Op_Step, d_deque_Op_Step), (n_deque_Deque_List, d_deque_Deque_List), (n_pelotonlaw10_same, d_pelotonlaw10_same), (n_deque_Op_Got, d_deque_Op_Got), (n_deque_Op_Err, d_deque_Op_Err)]) mixed Go.Proofs.Try.func3 ⟨s_pelotonlaw10_awake, s_cells_New, s_deque_New, s_deque_Deque_Push, s_pelotonlaw10_run, s_cells_Machine_Used, s_deque_Op_Step, s_deque_Deque_List, s_pelotonlaw10_same, s_deque_Op_Got, s_deque_Op_Err, trivial⟩
    [.ag, .s, (.i .i64)] [.b] (by kernel_rfl) (fun x w k => pelotonlaw10_DequeGrows x.1 x.2.1 x.2.2 w k) (fun x w k => e_pelotonlaw10_DequeGrows pelotonlaw10_awake cells_New deque_New deque_Deque_Push pelotonlaw10_run cells_Machine_Used deque_Op_Step deque_Deque_List pelotonlaw10_same deque_Op_Got deque_Op_Err x w k)

/-- slices.Clone[[]int64,int64] -/
def slices_Clone___int64_int64_ (s_0 : Sl) (w : World) (k : (Sl) → World → Prop) : Prop :=
  iteB (Option.isNone s_0.a) (
    (k (Sl.mk none 0 0) w)) (
    newC w #[] 2 fun a1 w2 =>
    bApp Go.Proofs.Try.prog #[23, 23] 23 [(.slice (some a1) 0 0), (.slice s_0.a s_0.n s_0.c)] w2 fun s3 w4 =>
    (k s3 w4))
def d_slices_Clone___int64_int64_ : Dec := fun args w c => unL [.s] args fun x => slices_Clone___int64_int64_ x w fun r w => c (packV (valL [.s] r)) w
theorem s_slices_Clone___int64_int64_ : Sound Go.Proofs.Try.prog n_slices_Clone___int64_int64_ d_slices_Clone___int64_int64_ :=
  sound_of (mask := 21) (h := []) (ds := []) mixed Go.Proofs.Try.func68 trivial
    [.s] [.s] (by kernel_rfl) (fun x w k => slices_Clone___int64_int64_ x w k) (fun x w k => by kernel_rfl)

/-- slices.Clone[[]int,int] -/
def slices_Clone___int_int_ (s_0 : Sl) (w : World) (k : (Sl) → World → Prop) : Prop :=
  iteB (Option.isNone s_0.a) (
    (k (Sl.mk none 0 0) w)) (
    newC w #[] 3 fun a1 w2 =>
    bApp Go.Proofs.Try.prog #[47, 47] 47 [(.slice (some a1) 0 0), (.slice s_0.a s_0.n s_0.c)] w2 fun s3 w4 =>
    (k s3 w4))
def d_slices_Clone___int_int_ : Dec := fun args w c => unL [.s] args fun x => slices_Clone___int_int_ x w fun r w => c (packV (valL [.s] r)) w
theorem s_slices_Clone___int_int_ : Sound Go.Proofs.Try.prog n_slices_Clone___int_int_ d_slices_Clone___int_int_ :=
  sound_of (mask := 21) (h := []) (ds := []) mixed Go.Proofs.Try.func69 trivial
    [.s] [.s] (by kernel_rfl) (fun x w k => slices_Clone___int_int_ x w k) (fun x w k => by kernel_rfl)

/-- (*peloton/cells.Machine).Clone -/
def cells_Machine_Clone_b (slices_Clone___int64_int64_ : Sl → World → ((Sl) → World → Prop) → Prop) (slices_Clone___int_int_ : Sl → World → ((Sl) → World → Prop) → Prop) (m_0 : Option Addr) (w : World) (k : (Option Addr) → World → Prop) : Prop :=
  iteB (Option.isNone m_0) (
    (k none w)) (
    drew w fun w1 =>
    nn m_0 fun a2 =>
    ldS w1 (Addr.add a2 0) fun s3 =>
    nn m_0 fun a4 =>
    ldI .i64 w1 (Addr.add a4 1) fun i5 =>
    nn m_0 fun a6 =>
    ldS w1 (Addr.add a6 2) fun s7 =>
    slices_Clone___int64_int64_ s3 w1 fun s8 w9 =>
    samec 1 (Addr.add a6 2) w1 w9 (
    samec 1 (Addr.add a4 1) w1 w9 (
    slices_Clone___int_int_ s7 w9 fun s10 w11 =>
    samec 1 (Addr.add a4 1) w1 w11 (
    newC w11 #[(.slice s8.a s8.n s8.c), (.int .i64 i5), (.slice s10.a s10.n s10.c)] 111 fun a12 w13 =>
    (k (some a12) w13)))))
theorem e_cells_Machine_Clone (slices_Clone___int64_int64_ : Sl → World → ((Sl) → World → Prop) → Prop) (slices_Clone___int_int_ : Sl → World → ((Sl) → World → Prop) → Prop) (x : KT [.p]) (w : World) (k : KT [.p] → World → Prop) : evFn Go.Proofs.Try.prog (orcOf [(n_slices_Clone___int64_int64_, (fun args w c => unL [.s] args fun x => slices_Clone___int64_int64_ x w fun r w => c (packV (valL [.s] r)) w)), (n_slices_Clone___int_int_, (fun args w c => unL [.s] args fun x => slices_Clone___int_int_ x w fun r w => c (packV (valL [.s] r)) w))]) 21 [] Go.Proofs.Try.f25 [.p] (valL [.p] x) w k = cells_Machine_Clone_b slices_Clone___int64_int64_ slices_Clone___int_int_ x w k := by kernel_rfl
def cells_Machine_Clone (m_0 : Option Addr) (w : World) (k : (Option Addr) → World → Prop) : Prop := cells_Machine_Clone_b slices_Clone___int64_int64_ slices_Clone___int_int_ m_0 w k
def d_cells_Machine_Clone : Dec := fun args w c => unL [.p] args fun x => cells_Machine_Clone x w fun r w => c (packV (valL [.p] r)) w
theorem s_cells_Machine_Clone : Sound Go.Proofs.Try.prog n_cells_Machine_Clone d_cells_Machine_Clone :=
  sound_of (mask := 21) (h := []) (ds := [(n_slices_Clone___int64_int64_, d_slices_Clone___int64_int64_), (n_slices_Clone___int_int_, d_slices_Clone___int_int_)]) mixed Go.Proofs.Try.func25 ⟨s_slices_Clone___int64_int64_, s_slices_Clone___int_int_, trivial⟩
    [.p] [.p] (by kernel_rfl) (fun x w k => cells_Machine_Clone x w k) (fun x w k => e_cells_Machine_Clone slices_Clone___int64_int64_ slices_Clone___int_int_ x w k)

/-- peloton/pelotonlaw10.DequeLets -/
def pelotonlaw10_DequeLets_b (pelotonlaw10_awake : World → ((Bool) → World → Prop) → Prop) (cells_New : Int → Int → World → ((Option Addr × Int) → World → Prop) → Prop) (deque_New : Option Addr → Int → Int → Int → World → ((Array Value × Int) → World → Prop) → Prop) (deque_Deque_Push : Array Value → Int → World → ((Option Addr) → World → Prop) → Prop) (pelotonlaw10_run : Option Addr → Option Addr → Int → World → ((Int) → World → Prop) → Prop) (cells_Machine_Clone : Option Addr → World → ((Option Addr) → World → Prop) → Prop) (deque_Deque_Steal : Array Value → World → ((Option Addr) → World → Prop) → Prop) (pelotonlaw10_takes : Option Addr → Option Addr → Int → World → ((Int) → World → Prop) → Prop) (deque_Op_Got : Option Addr → World → ((Int) → World → Prop) → Prop) (cells_Machine_Used : Option Addr → World → ((Int) → World → Prop) → Prop) (cells_Machine_Peek : Option Addr → Int → World → ((Int) → World → Prop) → Prop) (deque_Op_Step : Option Addr → Option Addr → Int → World → ((Int) → World → Prop) → Prop) (deque_Deque_List : Array Value → Option Addr → World → ((Sl) → World → Prop) → Prop) (pelotonlaw10_same : Sl → Sl → World → ((Bool) → World → Prop) → Prop) (logs_0 : Array Value) (l_1 : Sl) (w : World) (k : (Bool) → World → Prop) : Prop :=
  newC w logs_0 22 fun a1 w2 =>
  joinP (S := Bool) (fun J3 =>
    ldI .i64 w2 (Addr.add a1 0) fun i4 =>
    iteB (decide (i4 < (0 : Int))) (
      (J3 (true || (decide (((l_1.n : Nat) : Int) > (256 : Int)))) w2)) (
      ldI .i64 w2 (Addr.add a1 1) fun i5 =>
      ldI .i64 w2 (Addr.add a1 0) fun i6 =>
      iteB (decide (i5 < i6)) (
        (J3 (true || (decide (((l_1.n : Nat) : Int) > (256 : Int)))) w2)) (
        ldI .i64 w2 (Addr.add a1 1) fun i7 =>
        (J3 ((decide (i7 > (8 : Int))) || (decide (((l_1.n : Nat) : Int) > (256 : Int)))) w2)))) fun b8 w9 =>
  iteB b8 (
    pelotonlaw10_awake  w9 fun b10 w11 =>
    (k b10 w11)) (
    cells_New (600 : Int) (2 : Int) w9 fun x12 w13 =>
    ldI .i64 w13 (Addr.add a1 0) fun i14 =>
    ldI .i64 w13 (Addr.add a1 1) fun i15 =>
    deque_New (x12.1, x12.2).1 (2 : Int) i14 i15 w13 fun x16 w17 =>
    newC w17 #[(.int .i64 (0 : Int)), (.int .i64 (0 : Int))] 30 fun a18 w19 =>
    stA 2 w19 a18 (x16.1, x16.2).1 fun w20 =>
    iteB (((x12.1, x12.2).2 != (0 : Int)) || ((x16.1, x16.2).2 != (0 : Int))) (
      (k false w20)) (
      newC w20 #[] 2 fun a21 w22 =>
      joinP (S := Sl) (fun J23 =>
        loopP (S := (Sl × Int)) (fun C24 x25 w26 =>
          iteB (decide (x25.2 < ((l_1.n : Nat) : Int))) (
            drew w26 fun w27 =>
            ldA 2 w27 a18 fun cs28 =>
            ixS l_1 x25.2 1 fun a29 =>
            ldI .i64 w27 a29 fun i30 =>
            deque_Deque_Push cs28 i30 w27 fun p31 w32 =>
            pelotonlaw10_run (x12.1, x12.2).1 p31 (0 : Int) w32 fun i33 w34 =>
            iteB (i33 == (1 : Int)) (
              ixS l_1 x25.2 1 fun a35 =>
              ldI .i64 w34 a35 fun i36 =>
              newC w34 #[(.int .i64 i36)] 2 fun a37 w38 =>
              bApp Go.Proofs.Try.prog #[23, 23] 23 [(.slice x25.1.a x25.1.n x25.1.c), (.slice (some a37) 1 1)] w38 fun s39 w40 =>
              (C24 (s39, (IntKind.wrap .i64 (x25.2 + (1 : Int)))) w40)) (
              iteB (i33 != (4 : Int)) (
                (k false w34)) (
                (C24 (x25.1, (IntKind.wrap .i64 (x25.2 + (1 : Int)))) w34)))) (
            (J23 x25.1 w26))) ((Sl.mk (some a21) 0 0), (0 : Int)) w22) fun s41 w42 =>
      cells_Machine_Clone (x12.1, x12.2).1 w42 fun p43 w44 =>
      ldA 2 w44 a18 fun cs45 =>
      deque_Deque_Steal cs45 w44 fun p46 w47 =>
      iteB (((s41.n : Nat) : Int) == (0 : Int)) (
        pelotonlaw10_run (x12.1, x12.2).1 p46 (1 : Int) w47 fun i48 w49 =>
        iteB (i48 == (3 : Int)) (
          pelotonlaw10_awake  w49 fun b50 w51 =>
          (k b50 w51)) (
          (k false w49))) (
        joinP (S := Bool) (fun J52 =>
          drew w47 fun w53 =>
          pelotonlaw10_takes (x12.1, x12.2).1 p46 (4 : Int) w53 fun i54 w55 =>
          iteB (i54 != (2 : Int)) (
            (J52 true w55)) (
            ixS s41 (0 : Int) 1 fun a56 =>
            ldI .i64 w55 a56 fun i57 =>
            deque_Op_Got p46 w55 fun i58 w59 =>
            samec 1 a56 w55 w59 (
            iteB (i58 != i57) (
              (J52 true w59)) (
              cells_Machine_Used (x12.1, x12.2).1 w59 fun i60 w61 =>
              cells_Machine_Used p43 w61 fun i62 w63 =>
              (J52 (i60 != i62) w63))))) fun b64 w65 =>
        iteB b64 (
          (k false w65)) (
          joinP (S := Unit) (fun J66 =>
            loopP (S := Int) (fun C67 i68 w69 =>
              iteB (decide (i68 < (600 : Int))) (
                cells_Machine_Peek (x12.1, x12.2).1 i68 w69 fun i70 w71 =>
                cells_Machine_Peek p43 i68 w71 fun i72 w73 =>
                iteB (i70 != i72) (
                  (k false w73)) (
                  (C67 (IntKind.wrap .i64 (i68 + (1 : Int))) w73))) (
                (J66 () w69))) (0 : Int) w65) fun u74 w75 =>
          ldA 2 w75 a18 fun cs76 =>
          deque_Deque_Steal cs76 w75 fun p77 w78 =>
          joinP (S := Bool) (fun J79 =>
            drew w78 fun w80 =>
            pelotonlaw10_run (x12.1, x12.2).1 p77 (2 : Int) w80 fun i81 w82 =>
            iteB (i81 != (1 : Int)) (
              (J79 true w82)) (
              ixS s41 (0 : Int) 1 fun a83 =>
              ldI .i64 w82 a83 fun i84 =>
              deque_Op_Got p77 w82 fun i85 w86 =>
              samec 1 a83 w82 w86 (
              iteB (i85 != i84) (
                (J79 true w86)) (
                deque_Op_Step p46 (x12.1, x12.2).1 (1 : Int) w86 fun i87 w88 =>
                iteB (i87 != (5 : Int)) (
                  (J79 true w88)) (
                  deque_Op_Got p46 w88 fun i89 w90 =>
                  (J79 (i89 != (0 : Int)) w90)))))) fun b91 w92 =>
          iteB b91 (
            (k false w92)) (
            drew w92 fun w93 =>
            ldA 2 w93 a18 fun cs94 =>
            slL s41 1 (1 : Int) fun s95 =>
            deque_Deque_List cs94 (x12.1, x12.2).1 w93 fun s96 w97 =>
            pelotonlaw10_same s96 s95 w97 fun b98 w99 =>
            iteB b98 (
              pelotonlaw10_awake  w99 fun b100 w101 =>
              (k b100 w101)) (
              (k false w99)))))))
theorem e_pelotonlaw10_DequeLets (pelotonlaw10_awake : World → ((Bool) → World → Prop) → Prop) (cells_New : Int → Int → World → ((Option Addr × Int) → World → Prop) → Prop) (deque_New : Option Addr → Int → Int → Int → World → ((Array Value × Int) → World → Prop) → Prop) (deque_Deque_Push : Array Value → Int → World → ((Option Addr) → World → Prop) → Prop) (pelotonlaw10_run : Option Addr → Option Addr → Int → World → ((Int) → World → Prop) → Prop) (cells_Machine_Clone : Option Addr → World → ((Option Addr) → World → Prop) → Prop) (deque_Deque_Steal : Array Value → World → ((Option Addr) → World → Prop) → Prop) (pelotonlaw10_takes : Option Addr → Option Addr → Int → World → ((Int) → World → Prop) → Prop) (deque_Op_Got : Option Addr → World → ((Int) → World → Prop) → Prop) (cells_Machine_Used : Option Addr → World → ((Int) → World → Prop) → Prop) (cells_Machine_Peek : Option Addr → Int → World → ((Int) → World → Prop) → Prop) (deque_Op_Step : Option Addr → Option Addr → Int → World → ((Int) → World → Prop) → Prop) (deque_Deque_List : Array Value → Option Addr → World → ((Sl) → World → Prop) → Prop) (pelotonlaw10_same : Sl → Sl → World → ((Bool) → World → Prop) → Prop) (x : KT [.ag, .s]) (w : World) (k : KT [.b] → World → Prop) : evFn Go.Proofs.Try.prog (orcOf [(n_pelotonlaw10_awake, (fun args w c => unL [] args fun x => pelotonlaw10_awake  w fun r w => c (packV (valL [.b] r)) w)), (n_cells_New, (fun args w c => unL [(.i .i64), (.i .i64)] args fun x => cells_New x.1 x.2 w fun r w => c (packV (valL [.p, (.i .i64)] r)) w)), (n_deque_New, (fun args w c => unL [.p, (.i .i64), (.i .i64), (.i .i64)] args fun x => deque_New x.1 x.2.1 x.2.2.1 x.2.2.2 w fun r w => c (packV (valL [.ag, (.i .i64)] r)) w)), (n_deque_Deque_Push, (fun args w c => unL [.ag, (.i .i64)] args fun x => deque_Deque_Push x.1 x.2 w fun r w => c (packV (valL [.p] r)) w)), (n_pelotonlaw10_run, (fun args w c => unL [.p, .p, (.i .i64)] args fun x => pelotonlaw10_run x.1 x.2.1 x.2.2 w fun r w => c (packV (valL [(.i .i64)] r)) w)), (n_cells_Machine_Clone, (fun args w c => unL [.p] args fun x => cells_Machine_Clone x w fun r w => c (packV (valL [.p] r)) w)), (n_deque_Deque_Steal, (fun args w c => unL [.ag] args fun x => deque_Deque_Steal x w fun r w => c (packV (valL [.p] r)) w)), (n_pelotonlaw10_takes, (fun args w c => unL [.p, .p, (.i .i64)] args fun x => pelotonlaw10_takes x.1 x.2.1 x.2.2 w fun r w => c (packV (valL [(.i .i64)] r)) w)), (n_deque_Op_Got, (fun args w c => unL [.p] args fun x => deque_Op_Got x w fun r w => c (packV (valL [(.i .i64)] r)) w)), (n_cells_Machine_Used, (fun args w c => unL [.p] args fun x => cells_Machine_Used x w fun r w => c (packV (valL [(.i .i64)] r)) w)), (n_cells_Machine_Peek, (fun args w c => unL [.p, (.i .i64)] args fun x => cells_Machine_Peek x.1 x.2 w fun r w => c (packV (valL [(.i .i64)] r)) w)), (n_deque_Op_Step, (fun args w c => unL [.p, .p, (.i .i64)] args fun x => deque_Op_Step x.1 x.2.1 x.2.2 w fun r w => c (packV (valL [(.i .i64)] r)) w)), (n_deque_Deque_List, (fun args w c => unL [.ag, .p] args fun x => deque_Deque_List x.1 x.2 w fun r w => c (packV (valL [.s] r)) w)), (n_pelotonlaw10_same, (fun args w c => unL [.s, .s] args fun x => pelotonlaw10_same x.1 x.2 w fun r w => c (packV (valL [.b] r)) w))]) 1427247735345101683658198039957938524643196918 [(1, [(35, .b)]), (11, [(9, .s)]), (12, [(9, .s), (10, (.i .i64))]), (29, [(114, .b)]), (33, []), (34, [(14, (.i .i64))]), (43, [(150, .b)])] Go.Proofs.Try.f4 [.b] (valL [.ag, .s] x) w k = pelotonlaw10_DequeLets_b pelotonlaw10_awake cells_New deque_New deque_Deque_Push pelotonlaw10_run cells_Machine_Clone deque_Deque_Steal pelotonlaw10_takes deque_Op_Got cells_Machine_Used cells_Machine_Peek deque_Op_Step deque_Deque_List pelotonlaw10_same x.1 x.2 w k := by kernel_rfl
def pelotonlaw10_DequeLets (logs_0 : Array Value) (l_1 : Sl) (w : World) (k : (Bool) → World → Prop) : Prop := pelotonlaw10_DequeLets_b pelotonlaw10_awake cells_New deque_New deque_Deque_Push pelotonlaw10_run cells_Machine_Clone deque_Deque_Steal pelotonlaw10_takes deque_Op_Got cells_Machine_Used cells_Machine_Peek deque_Op_Step deque_Deque_List pelotonlaw10_same logs_0 l_1 w k
def d_pelotonlaw10_DequeLets : Dec := fun args w c => unL [.ag, .s] args fun x => pelotonlaw10_DequeLets x.1 x.2 w fun r w => c (packV (valL [.b] r)) w
theorem s_pelotonlaw10_DequeLets : Sound Go.Proofs.Try.prog n_pelotonlaw10_DequeLets d_pelotonlaw10_DequeLets :=
  sound_of (mask := 1427247735345101683658198039957938524643196918) (h := [(1, [(35, .b)]), (11, [(9, .s)]), (12, [(9, .s), (10, (.i .i64))]), (29, [(114, .b)]), (33, []), (34, [(14, (.i .i64))]), (43, [(150, .b)])]) (ds := [(n_pelotonlaw10_awake, d_pelotonlaw10_awake), (n_cells_New, d_cells_New), (n_deque_New, d_deque_New), (n_deque_Deque_Push, d_deque_Deque_Push), (n_pelotonlaw10_run, d_pelotonlaw10_run), (n_cells_Machine_Clone, d_cells_Machine_Clone), (n_deque_Deque_Steal, d_deque_Deque_Steal), (n_pelotonlaw10_takes, d_pelotonlaw10_takes), (n_deque_Op_Got, d_deque_Op_Got), (n_cells_Machine_Used, d_cells_Machine_Used), (n_cells_Machine_Peek, d_cells_Machine_Peek), (n_deque_Op_Step, d_deque_Op_Step), (n_deque_Deque_List, d_deque_Deque_List), (n_pelotonlaw10_same, d_pelotonlaw10_same)]) mixed Go.Proofs.Try.func4 ⟨s_pelotonlaw10_awake, s_cells_New, s_deque_New, s_deque_Deque_Push, s_pelotonlaw10_run, s_cells_Machine_Clone, s_deque_Deque_Steal, s_pelotonlaw10_takes, s_deque_Op_Got, s_cells_Machine_Used, s_cells_Machine_Peek, s_deque_Op_Step, s_deque_Deque_List, s_pelotonlaw10_same, trivial⟩
    [.ag, .s] [.b] (by kernel_rfl) (fun x w k => pelotonlaw10_DequeLets x.1 x.2 w k) (fun x w k => e_pelotonlaw10_DequeLets pelotonlaw10_awake cells_New deque_New deque_Deque_Push pelotonlaw10_run cells_Machine_Clone deque_Deque_Steal pelotonlaw10_takes deque_Op_Got cells_Machine_Used cells_Machine_Peek deque_Op_Step deque_Deque_List pelotonlaw10_same x w k)

/-- (peloton/deque.Deque).Pop -/
def deque_Deque_Pop (d_0 : Array Value) (w : World) (k : (Option Addr) → World → Prop) : Prop :=
  newC w d_0 30 fun a1 w2 =>
  ldA 2 w2 a1 fun cs3 =>
  spl #[(.int .i64 (0 : Int)), (.int .i64 (0 : Int)), (.int .i64 (0 : Int)), (.int .i64 (0 : Int)), (.int .i64 (0 : Int)), (.int .i64 (0 : Int))] 0 2 cs3 fun cs4 =>
  spl #[(.int .i64 (0 : Int)), (.int .i64 (0 : Int)), (.int .i64 (0 : Int)), (.int .i64 (0 : Int)), (.int .i64 (0 : Int)), (.int .i64 (0 : Int)), (.int .i64 (0 : Int)), (.bool false), (.int .i64 (0 : Int)), (.int .i64 (0 : Int)), (.pointer none), .nilFunc, (.int .i64 (0 : Int)), (.int .i64 (0 : Int)), (.int .i64 (0 : Int))] 0 6 cs4 fun cs5 =>
  newC w2 (Array.setIfInBounds cs5 11 (.func (.func n_deque_Op_popBottom) #[] #[])) 122 fun a6 w7 =>
  (k (some a6) w7)
def d_deque_Deque_Pop : Dec := fun args w c => unL [.ag] args fun x => deque_Deque_Pop x w fun r w => c (packV (valL [.p] r)) w
theorem s_deque_Deque_Pop : Sound Go.Proofs.Try.prog n_deque_Deque_Pop d_deque_Deque_Pop :=
  sound_of (mask := 6) (h := []) (ds := []) mixed Go.Proofs.Try.func29 trivial
    [.ag] [.p] (by kernel_rfl) (fun x w k => deque_Deque_Pop x w k) (fun x w k => by kernel_rfl)

/-- peloton/pelotonlaw10.DequeAlone -/
def pelotonlaw10_DequeAlone_b (pelotonlaw10_awake : World → ((Bool) → World → Prop) → Prop) (cells_New : Int → Int → World → ((Option Addr × Int) → World → Prop) → Prop) (deque_New : Option Addr → Int → Int → Int → World → ((Array Value × Int) → World → Prop) → Prop) (deque_Deque_Push : Array Value → Int → World → ((Option Addr) → World → Prop) → Prop) (pelotonlaw10_run : Option Addr → Option Addr → Int → World → ((Int) → World → Prop) → Prop) (deque_Deque_Steal : Array Value → World → ((Option Addr) → World → Prop) → Prop) (deque_Deque_Pop : Array Value → World → ((Option Addr) → World → Prop) → Prop) (deque_Op_Got : Option Addr → World → ((Int) → World → Prop) → Prop) (deque_Op_Step : Option Addr → Option Addr → Int → World → ((Int) → World → Prop) → Prop) (deque_Deque_List : Array Value → Option Addr → World → ((Sl) → World → Prop) → Prop) (pelotonlaw10_same : Sl → Sl → World → ((Bool) → World → Prop) → Prop) (logs_0 : Array Value) (l_1 : Sl) (kinds_2 : Sl) (w : World) (k : (Bool) → World → Prop) : Prop :=
  newC w logs_0 22 fun a1 w2 =>
  joinP (S := Bool) (fun J3 =>
    ldI .i64 w2 (Addr.add a1 0) fun i4 =>
    iteB (decide (i4 < (0 : Int))) (
      (J3 (true || (decide (((l_1.n : Nat) : Int) > (300 : Int)))) w2)) (
      ldI .i64 w2 (Addr.add a1 1) fun i5 =>
      ldI .i64 w2 (Addr.add a1 0) fun i6 =>
      iteB (decide (i5 < i6)) (
        (J3 (true || (decide (((l_1.n : Nat) : Int) > (300 : Int)))) w2)) (
        ldI .i64 w2 (Addr.add a1 1) fun i7 =>
        (J3 ((decide (i7 > (8 : Int))) || (decide (((l_1.n : Nat) : Int) > (300 : Int)))) w2)))) fun b8 w9 =>
  iteB b8 (
    pelotonlaw10_awake  w9 fun b10 w11 =>
    (k b10 w11)) (
    cells_New (600 : Int) (2 : Int) w9 fun x12 w13 =>
    ldI .i64 w13 (Addr.add a1 0) fun i14 =>
    ldI .i64 w13 (Addr.add a1 1) fun i15 =>
    deque_New (x12.1, x12.2).1 (2 : Int) i14 i15 w13 fun x16 w17 =>
    newC w17 #[(.int .i64 (0 : Int)), (.int .i64 (0 : Int))] 30 fun a18 w19 =>
    stA 2 w19 a18 (x16.1, x16.2).1 fun w20 =>
    iteB (((x12.1, x12.2).2 != (0 : Int)) || ((x16.1, x16.2).2 != (0 : Int))) (
      (k false w20)) (
      joinP (S := Int) (fun J21 =>
        loopP (S := (Int × Int)) (fun C22 x23 w24 =>
          ldI .i64 w24 (Addr.add a1 1) fun i25 =>
          iteB (decide (x23.2 < i25)) (
            (C22 ((IntKind.wrap .i64 ((2 : Int) * x23.1)), (IntKind.wrap .i64 (x23.2 + (1 : Int)))) w24)) (
            (J21 x23.1 w24))) ((1 : Int), (0 : Int)) w20) fun i26 w27 =>
      newC w27 #[] 2 fun a28 w29 =>
      loopP (S := (Sl × Int)) (fun C30 x31 w32 =>
        iteB ((decide (x31.2 < ((l_1.n : Nat) : Int))) && (decide (x31.2 < ((kinds_2.n : Nat) : Int)))) (
          ixS kinds_2 x31.2 1 fun a33 =>
          ldI .i64 w32 a33 fun i34 =>
          joinP (S := Sl) (fun J35 =>
            iteB ((remV i34 (2 : Int)) == (0 : Int)) (
              drew w32 fun w36 =>
              ldA 2 w36 a18 fun cs37 =>
              ixS l_1 x31.2 1 fun a38 =>
              ldI .i64 w36 a38 fun i39 =>
              deque_Deque_Push cs37 i39 w36 fun p40 w41 =>
              pelotonlaw10_run (x12.1, x12.2).1 p40 (0 : Int) w41 fun i42 w43 =>
              iteB (((x31.1.n : Nat) : Int) == i26) (
                iteB (i42 != (4 : Int)) (
                  (k false w43)) (
                  (J35 x31.1 w43))) (
                iteB (i42 != (1 : Int)) (
                  (k false w43)) (
                  ixS l_1 x31.2 1 fun a44 =>
                  ldI .i64 w43 a44 fun i45 =>
                  newC w43 #[(.int .i64 i45)] 2 fun a46 w47 =>
                  bApp Go.Proofs.Try.prog #[23, 23] 23 [(.slice x31.1.a x31.1.n x31.1.c), (.slice (some a46) 1 1)] w47 fun s48 w49 =>
                  (J35 s48 w49)))) (
              ldA 2 w32 a18 fun cs50 =>
              deque_Deque_Steal cs50 w32 fun p51 w52 =>
              ixS kinds_2 x31.2 1 fun a53 =>
              ldI .i64 w52 a53 fun i54 =>
              joinP (S := ((Option Addr) × (Int × Int))) (fun J55 =>
                iteB ((remV i54 (4 : Int)) == (1 : Int)) (
                  ldA 2 w52 a18 fun cs56 =>
                  deque_Deque_Pop cs56 w52 fun p57 w58 =>
                  (J55 (p57, ((0 : Int), (IntKind.wrap .i64 (((x31.1.n : Nat) : Int) - (1 : Int))))) w58)) (
                  (J55 (p51, ((1 : Int), (0 : Int))) w52))) fun x59 w60 =>
              pelotonlaw10_run (x12.1, x12.2).1 x59.1 x59.2.1 w60 fun i61 w62 =>
              iteB (((x31.1.n : Nat) : Int) == (0 : Int)) (
                joinP (S := Bool) (fun J63 =>
                  iteB (i61 != (3 : Int)) (
                    (J63 true w62)) (
                    deque_Op_Got x59.1 w62 fun i64 w65 =>
                    (J63 (i64 != (0 : Int)) w65))) fun b66 w67 =>
                iteB b66 (
                  (k false w67)) (
                  (J35 x31.1 w67))) (
                joinP (S := Bool) (fun J68 =>
                  drew w62 fun w69 =>
                  iteB (i61 != (1 : Int)) (
                    (J68 true w69)) (
                    ixS x31.1 x59.2.2 1 fun a70 =>
                    ldI .i64 w69 a70 fun i71 =>
                    deque_Op_Got x59.1 w69 fun i72 w73 =>
                    samec 1 a70 w69 w73 (
                    iteB (i72 != i71) (
                      (J68 true w73)) (
                      deque_Op_Step x59.1 (x12.1, x12.2).1 x59.2.1 w73 fun i74 w75 =>
                      iteB (i74 != (1 : Int)) (
                        (J68 true w75)) (
                        ixS x31.1 x59.2.2 1 fun a76 =>
                        ldI .i64 w75 a76 fun i77 =>
                        deque_Op_Got x59.1 w75 fun i78 w79 =>
                        samec 1 a76 w75 w79 (
                        (J68 (i78 != i77) w79))))))) fun b80 w81 =>
                iteB b80 (
                  (k false w81)) (
                  newC w81 #[] 2 fun a82 w83 =>
                  slS x31.1 1 (0 : Int) x59.2.2 fun s84 =>
                  bApp Go.Proofs.Try.prog #[23, 23] 23 [(.slice (some a82) 0 0), (.slice s84.a s84.n s84.c)] w83 fun s85 w86 =>
                  slL x31.1 1 (IntKind.wrap .i64 (x59.2.2 + (1 : Int))) fun s87 =>
                  bApp Go.Proofs.Try.prog #[23, 23] 23 [(.slice s85.a s85.n s85.c), (.slice s87.a s87.n s87.c)] w86 fun s88 w89 =>
                  (J35 s88 w89))))) fun s90 w91 =>
          ldA 2 w91 a18 fun cs92 =>
          deque_Deque_List cs92 (x12.1, x12.2).1 w91 fun s93 w94 =>
          pelotonlaw10_same s93 s90 w94 fun b95 w96 =>
          iteB (!b95) (
            (k false w96)) (
            (C30 (s90, (IntKind.wrap .i64 (x31.2 + (1 : Int)))) w96))) (
          pelotonlaw10_awake  w32 fun b97 w98 =>
          (k b97 w98))) ((Sl.mk (some a28) 0 0), (0 : Int)) w29))
theorem e_pelotonlaw10_DequeAlone (pelotonlaw10_awake : World → ((Bool) → World → Prop) → Prop) (cells_New : Int → Int → World → ((Option Addr × Int) → World → Prop) → Prop) (deque_New : Option Addr → Int → Int → Int → World → ((Array Value × Int) → World → Prop) → Prop) (deque_Deque_Push : Array Value → Int → World → ((Option Addr) → World → Prop) → Prop) (pelotonlaw10_run : Option Addr → Option Addr → Int → World → ((Int) → World → Prop) → Prop) (deque_Deque_Steal : Array Value → World → ((Option Addr) → World → Prop) → Prop) (deque_Deque_Pop : Array Value → World → ((Option Addr) → World → Prop) → Prop) (deque_Op_Got : Option Addr → World → ((Int) → World → Prop) → Prop) (deque_Op_Step : Option Addr → Option Addr → Int → World → ((Int) → World → Prop) → Prop) (deque_Deque_List : Array Value → Option Addr → World → ((Sl) → World → Prop) → Prop) (pelotonlaw10_same : Sl → Sl → World → ((Bool) → World → Prop) → Prop) (x : KT [.ag, .s, .s]) (w : World) (k : KT [.b] → World → Prop) : evFn Go.Proofs.Try.prog (orcOf [(n_pelotonlaw10_awake, (fun args w c => unL [] args fun x => pelotonlaw10_awake  w fun r w => c (packV (valL [.b] r)) w)), (n_cells_New, (fun args w c => unL [(.i .i64), (.i .i64)] args fun x => cells_New x.1 x.2 w fun r w => c (packV (valL [.p, (.i .i64)] r)) w)), (n_deque_New, (fun args w c => unL [.p, (.i .i64), (.i .i64), (.i .i64)] args fun x => deque_New x.1 x.2.1 x.2.2.1 x.2.2.2 w fun r w => c (packV (valL [.ag, (.i .i64)] r)) w)), (n_deque_Deque_Push, (fun args w c => unL [.ag, (.i .i64)] args fun x => deque_Deque_Push x.1 x.2 w fun r w => c (packV (valL [.p] r)) w)), (n_pelotonlaw10_run, (fun args w c => unL [.p, .p, (.i .i64)] args fun x => pelotonlaw10_run x.1 x.2.1 x.2.2 w fun r w => c (packV (valL [(.i .i64)] r)) w)), (n_deque_Deque_Steal, (fun args w c => unL [.ag] args fun x => deque_Deque_Steal x w fun r w => c (packV (valL [.p] r)) w)), (n_deque_Deque_Pop, (fun args w c => unL [.ag] args fun x => deque_Deque_Pop x w fun r w => c (packV (valL [.p] r)) w)), (n_deque_Op_Got, (fun args w c => unL [.p] args fun x => deque_Op_Got x w fun r w => c (packV (valL [(.i .i64)] r)) w)), (n_deque_Op_Step, (fun args w c => unL [.p, .p, (.i .i64)] args fun x => deque_Op_Step x.1 x.2.1 x.2.2 w fun r w => c (packV (valL [(.i .i64)] r)) w)), (n_deque_Deque_List, (fun args w c => unL [.ag, .p] args fun x => deque_Deque_List x.1 x.2 w fun r w => c (packV (valL [.s] r)) w)), (n_pelotonlaw10_same, (fun args w c => unL [.s, .s] args fun x => pelotonlaw10_same x.1 x.2 w fun r w => c (packV (valL [.b] r)) w))]) 3065014465758150597197036826937967281118041538918612942 [(1, [(40, .b)]), (11, [(11, (.i .i64))]), (12, [(11, (.i .i64)), (12, (.i .i64))]), (21, [(13, .s), (14, (.i .i64))]), (26, [(13, .s)]), (41, [(16, .p), (17, (.i .i64)), (18, (.i .i64))]), (48, [(137, .b)]), (51, [(164, .b)])] Go.Proofs.Try.f5 [.b] (valL [.ag, .s, .s] x) w k = pelotonlaw10_DequeAlone_b pelotonlaw10_awake cells_New deque_New deque_Deque_Push pelotonlaw10_run deque_Deque_Steal deque_Deque_Pop deque_Op_Got deque_Op_Step deque_Deque_List pelotonlaw10_same x.1 x.2.1 x.2.2 w k := by kernel_rfl
def pelotonlaw10_DequeAlone (logs_0 : Array Value) (l_1 : Sl) (kinds_2 : Sl) (w : World) (k : (Bool) → World → Prop) : Prop := pelotonlaw10_DequeAlone_b pelotonlaw10_awake cells_New deque_New deque_Deque_Push pelotonlaw10_run deque_Deque_Steal deque_Deque_Pop deque_Op_Got deque_Op_Step deque_Deque_List pelotonlaw10_same logs_0 l_1 kinds_2 w k
def d_pelotonlaw10_DequeAlone : Dec := fun args w c => unL [.ag, .s, .s] args fun x => pelotonlaw10_DequeAlone x.1 x.2.1 x.2.2 w fun r w => c (packV (valL [.b] r)) w
theorem s_pelotonlaw10_DequeAlone : Sound Go.Proofs.Try.prog n_pelotonlaw10_DequeAlone d_pelotonlaw10_DequeAlone :=
  sound_of (mask := 3065014465758150597197036826937967281118041538918612942) (h := [(1, [(40, .b)]), (11, [(11, (.i .i64))]), (12, [(11, (.i .i64)), (12, (.i .i64))]), (21, [(13, .s), (14, (.i .i64))]), (26, [(13, .s)]), (41, [(16, .p), (17, (.i .i64)), (18, (.i .i64))]), (48, [(137, .b)]), (51, [(164, .b)])]) (ds := [(n_pelotonlaw10_awake, d_pelotonlaw10_awake), (n_cells_New, d_cells_New), (n_deque_New, d_deque_New), (n_deque_Deque_Push, d_deque_Deque_Push), (n_pelotonlaw10_run, d_pelotonlaw10_run), (n_deque_Deque_Steal, d_deque_Deque_Steal), (n_deque_Deque_Pop, d_deque_Deque_Pop), (n_deque_Op_Got, d_deque_Op_Got), (n_deque_Op_Step, d_deque_Op_Step), (n_deque_Deque_List, d_deque_Deque_List), (n_pelotonlaw10_same, d_pelotonlaw10_same)]) mixed Go.Proofs.Try.func5 ⟨s_pelotonlaw10_awake, s_cells_New, s_deque_New, s_deque_Deque_Push, s_pelotonlaw10_run, s_deque_Deque_Steal, s_deque_Deque_Pop, s_deque_Op_Got, s_deque_Op_Step, s_deque_Deque_List, s_pelotonlaw10_same, trivial⟩
    [.ag, .s, .s] [.b] (by kernel_rfl) (fun x w k => pelotonlaw10_DequeAlone x.1 x.2.1 x.2.2 w k) (fun x w k => e_pelotonlaw10_DequeAlone pelotonlaw10_awake cells_New deque_New deque_Deque_Push pelotonlaw10_run deque_Deque_Steal deque_Deque_Pop deque_Op_Got deque_Op_Step deque_Deque_List pelotonlaw10_same x w k)

/-- peloton/pelotonlaw10.who -/
def pelotonlaw10_who (t_0 : Array Value) (w : World) (k : (Int) → World → Prop) : Prop :=
  newC w t_0 54 fun a1 w2 =>
  ldI .i64 w2 (Addr.add a1 0) fun i3 =>
  (k (remV (IntKind.wrap .i64 ((remV i3 (4 : Int)) + (4 : Int))) (4 : Int)) w2)
def d_pelotonlaw10_who : Dec := fun args w c => unL [.ag] args fun x => pelotonlaw10_who x w fun r w => c (packV (valL [(.i .i64)] r)) w
theorem s_pelotonlaw10_who : Sound Go.Proofs.Try.prog n_pelotonlaw10_who d_pelotonlaw10_who :=
  sound_of (mask := 6) (h := []) (ds := []) mixed Go.Proofs.Try.func30 trivial
    [.ag] [(.i .i64)] (by kernel_rfl) (fun x w k => pelotonlaw10_who x w k) (fun x w k => by kernel_rfl)

/-- peloton/pelotonlaw10.count -/
def pelotonlaw10_count (in_0 : Sl) (w : World) (k : (Int) → World → Prop) : Prop :=
  loopP (S := (Int × Int)) (fun C1 x2 w3 =>
    iteB (decide (x2.2 < ((in_0.n : Nat) : Int))) (
      ixS in_0 x2.2 1 fun a4 =>
      ldB w3 a4 fun b5 =>
      iteB b5 (
        (C1 ((IntKind.wrap .i64 (x2.1 + (1 : Int))), (IntKind.wrap .i64 (x2.2 + (1 : Int)))) w3)) (
        (C1 (x2.1, (IntKind.wrap .i64 (x2.2 + (1 : Int)))) w3))) (
      (k x2.1 w3))) ((0 : Int), (0 : Int)) w
def d_pelotonlaw10_count : Dec := fun args w c => unL [.s] args fun x => pelotonlaw10_count x w fun r w => c (packV (valL [(.i .i64)] r)) w
theorem s_pelotonlaw10_count : Sound Go.Proofs.Try.prog n_pelotonlaw10_count d_pelotonlaw10_count :=
  sound_of (mask := 16669) (h := [(4, [(3, (.i .i64)), (4, (.i .i64))])]) (ds := []) mixed Go.Proofs.Try.func31 trivial
    [.s] [(.i .i64)] (by kernel_rfl) (fun x w k => pelotonlaw10_count x w k) (fun x w k => by kernel_rfl)

/-- (*peloton/cells.Machine).Steps -/
def cells_Machine_Steps_b (cells_Machine_caller : Option Addr → Int → World → ((Bool) → World → Prop) → Prop) (m_0 : Option Addr) (w_1 : Int) (w : World) (k : (Int) → World → Prop) : Prop :=
  joinP (S := Bool) (fun J1 =>
    iteB (Option.isNone m_0) (
      (J1 true w)) (
      cells_Machine_caller m_0 w_1 w fun b2 w3 =>
      (J1 (!b2) w3))) fun b4 w5 =>
  iteB b4 (
    (k (0 : Int) w5)) (
    nn m_0 fun a6 =>
    ldS w5 (Addr.add a6 2) fun s7 =>
    ixS s7 w_1 1 fun a8 =>
    ldI .i64 w5 a8 fun i9 =>
    (k i9 w5))
theorem e_cells_Machine_Steps (cells_Machine_caller : Option Addr → Int → World → ((Bool) → World → Prop) → Prop) (x : KT [.p, (.i .i64)]) (w : World) (k : KT [(.i .i64)] → World → Prop) : evFn Go.Proofs.Try.prog (orcOf [(n_cells_Machine_caller, (fun args w c => unL [.p, (.i .i64)] args fun x => cells_Machine_caller x.1 x.2 w fun r w => c (packV (valL [.b] r)) w))]) 4115 [(1, [(12, .b)])] Go.Proofs.Try.f32 [(.i .i64)] (valL [.p, (.i .i64)] x) w k = cells_Machine_Steps_b cells_Machine_caller x.1 x.2 w k := by kernel_rfl
def cells_Machine_Steps (m_0 : Option Addr) (w_1 : Int) (w : World) (k : (Int) → World → Prop) : Prop := cells_Machine_Steps_b cells_Machine_caller m_0 w_1 w k
def d_cells_Machine_Steps : Dec := fun args w c => unL [.p, (.i .i64)] args fun x => cells_Machine_Steps x.1 x.2 w fun r w => c (packV (valL [(.i .i64)] r)) w
theorem s_cells_Machine_Steps : Sound Go.Proofs.Try.prog n_cells_Machine_Steps d_cells_Machine_Steps :=
  sound_of (mask := 4115) (h := [(1, [(12, .b)])]) (ds := [(n_cells_Machine_caller, d_cells_Machine_caller)]) mixed Go.Proofs.Try.func32 ⟨s_cells_Machine_caller, trivial⟩
    [.p, (.i .i64)] [(.i .i64)] (by kernel_rfl) (fun x w k => cells_Machine_Steps x.1 x.2 w k) (fun x w k => e_cells_Machine_Steps cells_Machine_caller x w k)

/-- peloton/pelotonlaw10.lies -/
def pelotonlaw10_lies (l_0 : Sl) (in_1 : Sl) (w : World) (k : (Bool) → World → Prop) : Prop :=
  loopP (S := (Int × Int)) (fun C1 x2 w3 =>
    iteB (decide (x2.2 < ((in_1.n : Nat) : Int))) (
      ixS in_1 x2.2 1 fun a4 =>
      ldB w3 a4 fun b5 =>
      iteB b5 (
        joinP (S := Bool) (fun J6 =>
          iteB (decide (x2.1 ≥ ((l_0.n : Nat) : Int))) (
            (J6 true w3)) (
            ixS l_0 x2.1 1 fun a7 =>
            ldI .i64 w3 a7 fun i8 =>
            (J6 (i8 != x2.2) w3))) fun b9 w10 =>
        iteB b9 (
          (k false w10)) (
          (C1 ((IntKind.wrap .i64 (x2.1 + (1 : Int))), (IntKind.wrap .i64 (x2.2 + (1 : Int)))) w10))) (
        (C1 (x2.1, (IntKind.wrap .i64 (x2.2 + (1 : Int)))) w3))) (
      (k (x2.1 == ((l_0.n : Nat) : Int)) w3))) ((0 : Int), (0 : Int)) w
def d_pelotonlaw10_lies : Dec := fun args w c => unL [.s, .s] args fun x => pelotonlaw10_lies x.1 x.2 w fun r w => c (packV (valL [.b] r)) w
theorem s_pelotonlaw10_lies : Sound Go.Proofs.Try.prog n_pelotonlaw10_lies d_pelotonlaw10_lies :=
  sound_of (mask := 268502131) (h := [(4, [(5, (.i .i64)), (6, (.i .i64))]), (10, [(28, .b)])]) (ds := []) mixed Go.Proofs.Try.func33 trivial
    [.s, .s] [.b] (by kernel_rfl) (fun x w k => pelotonlaw10_lies x.1 x.2 w k) (fun x w k => by kernel_rfl)

/-- peloton/pelotonlaw10.DequeOnce -/
def pelotonlaw10_DequeOnce_b (pelotonlaw10_awake : World → ((Bool) → World → Prop) → Prop) (cells_New : Int → Int → World → ((Option Addr × Int) → World → Prop) → Prop) (deque_New : Option Addr → Int → Int → Int → World → ((Array Value × Int) → World → Prop) → Prop) (pelotonlaw10_who : Array Value → World → ((Int) → World → Prop) → Prop) (cells_Machine_Peek : Option Addr → Int → World → ((Int) → World → Prop) → Prop) (deque_Deque_Steal : Array Value → World → ((Option Addr) → World → Prop) → Prop) (deque_Deque_Push : Array Value → Int → World → ((Option Addr) → World → Prop) → Prop) (pelotonlaw10_count : Sl → World → ((Int) → World → Prop) → Prop) (deque_Deque_Pop : Array Value → World → ((Option Addr) → World → Prop) → Prop) (cells_Machine_Steps : Option Addr → Int → World → ((Int) → World → Prop) → Prop) (deque_Op_Step : Option Addr → Option Addr → Int → World → ((Int) → World → Prop) → Prop) (deque_Op_Got : Option Addr → World → ((Int) → World → Prop) → Prop) (deque_Deque_List : Array Value → Option Addr → World → ((Sl) → World → Prop) → Prop) (pelotonlaw10_lies : Sl → Sl → World → ((Bool) → World → Prop) → Prop) (logs_0 : Array Value) (l_1 : Sl) (w : World) (k : (Bool) → World → Prop) : Prop :=
  newC w logs_0 22 fun a1 w2 =>
  joinP (S := Bool) (fun J3 =>
    ldI .i64 w2 (Addr.add a1 0) fun i4 =>
    iteB (decide (i4 < (0 : Int))) (
      (J3 (true || (decide (((l_1.n : Nat) : Int) > (400 : Int)))) w2)) (
      ldI .i64 w2 (Addr.add a1 1) fun i5 =>
      ldI .i64 w2 (Addr.add a1 0) fun i6 =>
      iteB (decide (i5 < i6)) (
        (J3 (true || (decide (((l_1.n : Nat) : Int) > (400 : Int)))) w2)) (
        ldI .i64 w2 (Addr.add a1 1) fun i7 =>
        (J3 ((decide (i7 > (8 : Int))) || (decide (((l_1.n : Nat) : Int) > (400 : Int)))) w2)))) fun b8 w9 =>
  iteB b8 (
    pelotonlaw10_awake  w9 fun b10 w11 =>
    (k b10 w11)) (
    cells_New (600 : Int) (4 : Int) w9 fun x12 w13 =>
    ldI .i64 w13 (Addr.add a1 0) fun i14 =>
    ldI .i64 w13 (Addr.add a1 1) fun i15 =>
    deque_New (x12.1, x12.2).1 (4 : Int) i14 i15 w13 fun x16 w17 =>
    newC w17 #[(.int .i64 (0 : Int)), (.int .i64 (0 : Int))] 30 fun a18 w19 =>
    stA 2 w19 a18 (x16.1, x16.2).1 fun w20 =>
    iteB (((x12.1, x12.2).2 != (0 : Int)) || ((x16.1, x16.2).2 != (0 : Int))) (
      (k false w20)) (
      joinP (S := Int) (fun J21 =>
        loopP (S := (Int × Int)) (fun C22 x23 w24 =>
          ldI .i64 w24 (Addr.add a1 1) fun i25 =>
          iteB (decide (x23.2 < i25)) (
            (C22 ((IntKind.wrap .i64 ((2 : Int) * x23.1)), (IntKind.wrap .i64 (x23.2 + (1 : Int)))) w24)) (
            (J21 x23.1 w24))) ((1 : Int), (0 : Int)) w20) fun i26 w27 =>
      mkSl Go.Proofs.Try.prog 50 (.int .i64 (IntKind.wrap .i64 (((l_1.n : Nat) : Int) + (2 : Int)))) (.int .i64 (IntKind.wrap .i64 (((l_1.n : Nat) : Int) + (2 : Int)))) w27 fun s28 w29 =>
      mkSl Go.Proofs.Try.prog 51 (.int .i64 (4 : Int)) (.int .i64 (4 : Int)) w29 fun s30 w31 =>
      mkSl Go.Proofs.Try.prog 50 (.int .i64 (4 : Int)) (.int .i64 (4 : Int)) w31 fun s32 w33 =>
      mkSl Go.Proofs.Try.prog 23 (.int .i64 (4 : Int)) (.int .i64 (4 : Int)) w33 fun s34 w35 =>
      loopP (S := (Int × (Bool × (Int × Int)))) (fun C36 x37 w38 =>
        iteB (decide (x37.2.2.2 < ((l_1.n : Nat) : Int))) (
          ixS l_1 x37.2.2.2 3 fun a39 =>
          ldA 3 w38 a39 fun cs40 =>
          pelotonlaw10_who cs40 w38 fun i41 w42 =>
          ixS s32 i41 1 fun a43 =>
          ldB w42 a43 fun b44 =>
          joinP (S := (Bool × Int)) (fun J45 =>
            iteB (!b44) (
              ixS s32 i41 1 fun a46 =>
              stC w42 a46 (.bool true) fun w47 =>
              ldI .i64 w47 (Addr.add a18 0) fun i48 =>
              cells_Machine_Peek (x12.1, x12.2).1 i48 w47 fun i49 w50 =>
              ixS s34 i41 1 fun a51 =>
              stC w50 a51 (.int .i64 i49) fun w52 =>
              iteB (decide (i41 > (0 : Int))) (
                ldA 2 w52 a18 fun cs53 =>
                deque_Deque_Steal cs53 w52 fun p54 w55 =>
                ixS s30 i41 1 fun a56 =>
                stC w55 a56 (.pointer p54) fun w57 =>
                (J45 (x37.2.1, x37.2.2.1) w57)) (
                ixS l_1 x37.2.2.2 3 fun a58 =>
                ldI .i64 w52 (Addr.add a58 1) fun i59 =>
                iteB ((remV i59 (2 : Int)) == (0 : Int)) (
                  ldA 2 w52 a18 fun cs60 =>
                  deque_Deque_Push cs60 x37.1 w52 fun p61 w62 =>
                  ixS s30 i41 1 fun a63 =>
                  stC w62 a63 (.pointer p61) fun w64 =>
                  pelotonlaw10_count s28 w64 fun i65 w66 =>
                  (J45 (true, i65) w66)) (
                  ldA 2 w52 a18 fun cs67 =>
                  deque_Deque_Pop cs67 w52 fun p68 w69 =>
                  ixS s30 i41 1 fun a70 =>
                  stC w69 a70 (.pointer p68) fun w71 =>
                  (J45 (false, x37.2.2.1) w71)))) (
              (J45 (x37.2.1, x37.2.2.1) w42))) fun x72 w73 =>
          cells_Machine_Steps (x12.1, x12.2).1 i41 w73 fun i74 w75 =>
          ixS s30 i41 1 fun a76 =>
          ldP w75 a76 fun p77 =>
          deque_Op_Step p77 (x12.1, x12.2).1 i41 w75 fun i78 w79 =>
          cells_Machine_Steps (x12.1, x12.2).1 i41 w79 fun i80 w81 =>
          iteB (i80 != (IntKind.wrap .i64 (i74 + (1 : Int)))) (
            (k false w81)) (
            ixS s30 i41 1 fun a82 =>
            ldP w81 a82 fun p83 =>
            deque_Op_Got p83 w81 fun i84 w85 =>
            iteB (i78 == (0 : Int)) (
              (C36 (x37.1, (x72.1, (x72.2, (IntKind.wrap .i64 (x37.2.2.2 + (1 : Int)))))) w85)) (
              joinP (S := Unit) (fun J86 =>
                iteB (i78 == (2 : Int)) (
                  ixS l_1 x37.2.2.2 3 fun a87 =>
                  ldI .i64 w85 (Addr.add a87 1) fun i88 =>
                  ixS s32 i41 1 fun a89 =>
                  stC w85 a89 (.bool (i88 != (7 : Int))) fun w90 =>
                  (J86 () w90)) (
                  ixS s32 i41 1 fun a91 =>
                  stC w85 a91 (.bool false) fun w92 =>
                  (J86 () w92))) fun u93 w94 =>
              joinP (S := Int) (fun J95 =>
                joinP (S := Bool) (fun J96 =>
                  iteB (i78 == (2 : Int)) (
                    (J96 (i78 == (2 : Int)) w94)) (
                    (J96 (i78 == (3 : Int)) w94))) fun b97 w98 =>
                iteB b97 (
                  joinP (S := Bool) (fun J99 =>
                    iteB (i41 == (0 : Int)) (
                      iteB ((i78 == (2 : Int)) || x72.1) (
                        (J99 true w98)) (
                        pelotonlaw10_count s28 w98 fun i100 w101 =>
                        (J99 (i100 != (0 : Int)) w101))) (
                      (J99 false w98))) fun b102 w103 =>
                  iteB b102 (
                    (k false w103)) (
                    (J95 x37.1 w103))) (
                  iteB (i78 == (4 : Int)) (
                    iteB (((i41 != (0 : Int)) || (!x72.1)) || (x72.2 != i26)) (
                      (k false w98)) (
                      (J95 x37.1 w98))) (
                    iteB (i78 == (5 : Int)) (
                      joinP (S := Bool) (fun J104 =>
                        drew w98 fun w105 =>
                        iteB (i41 == (0 : Int)) (
                          (J104 true w105)) (
                          ldI .i64 w105 (Addr.add a18 0) fun i106 =>
                          ixS s34 i41 1 fun a107 =>
                          ldI .i64 w105 a107 fun i108 =>
                          cells_Machine_Peek (x12.1, x12.2).1 i106 w105 fun i109 w110 =>
                          samec 1 a107 w105 w110 (
                          (J104 (decide (i109 ≤ i108)) w110)))) fun b111 w112 =>
                      iteB b111 (
                        (k false w112)) (
                        (J95 x37.1 w112))) (
                      iteB (i78 == (1 : Int)) (
                        iteB ((i41 == (0 : Int)) && x72.1) (
                          joinP (S := Unit) (fun J113 =>
                            iteB (decide (x72.2 ≥ i26)) (
                              drew w98 fun w114 =>
                              ldI .i64 w114 (Addr.add a18 0) fun i115 =>
                              ixS s34 i41 1 fun a116 =>
                              ldI .i64 w114 a116 fun i117 =>
                              cells_Machine_Peek (x12.1, x12.2).1 i115 w114 fun i118 w119 =>
                              samec 1 a116 w114 w119 (
                              iteB (decide (i118 ≤ i117)) (
                                (k false w119)) (
                                (J113 () w119)))) (
                              (J113 () w98))) fun u120 w121 =>
                          ixS s28 x37.1 1 fun a122 =>
                          stC w121 a122 (.bool true) fun w123 =>
                          (J95 (IntKind.wrap .i64 (x37.1 + (1 : Int))) w123)) (
                          joinP (S := Bool) (fun J124 =>
                            iteB ((decide (i84 < (1 : Int))) || (decide (i84 ≥ x37.1))) (
                              (J124 true w98)) (
                              ixS s28 i84 1 fun a125 =>
                              ldB w98 a125 fun b126 =>
                              (J124 (!b126) w98))) fun b127 w128 =>
                          iteB b127 (
                            (k false w128)) (
                            ixS s28 i84 1 fun a129 =>
                            stC w128 a129 (.bool false) fun w130 =>
                            joinP (S := Bool) (fun J131 =>
                              drew w130 fun w132 =>
                              iteB (i41 == (0 : Int)) (
                                slS s28 1 (0 : Int) i84 fun s133 =>
                                pelotonlaw10_count s28 w132 fun i134 w135 =>
                                pelotonlaw10_count s133 w135 fun i136 w137 =>
                                iteB (i134 != i136) (
                                  (J131 true w137)) (
                                  iteB (decide (i41 > (0 : Int))) (
                                    slS s28 1 (0 : Int) i84 fun s138 =>
                                    pelotonlaw10_count s138 w137 fun i139 w140 =>
                                    (J131 (i139 != (0 : Int)) w140)) (
                                    (J131 false w137)))) (
                                iteB (decide (i41 > (0 : Int))) (
                                  slS s28 1 (0 : Int) i84 fun s141 =>
                                  pelotonlaw10_count s141 w132 fun i142 w143 =>
                                  (J131 (i142 != (0 : Int)) w143)) (
                                  (J131 false w132)))) fun b144 w145 =>
                            iteB b144 (
                              (k false w145)) (
                              (J95 x37.1 w145))))) (
                        (k false w98)))))) fun i146 w147 =>
              joinP (S := Bool) (fun J148 =>
                ixS s32 (0 : Int) 1 fun a149 =>
                ldB w147 a149 fun b150 =>
                iteB (!b150) (
                  ldA 2 w147 a18 fun cs151 =>
                  deque_Deque_List cs151 (x12.1, x12.2).1 w147 fun s152 w153 =>
                  pelotonlaw10_lies s152 s28 w153 fun b154 w155 =>
                  (J148 (!b154) w155)) (
                  (J148 false w147))) fun b156 w157 =>
              iteB b156 (
                (k false w157)) (
                (C36 (i146, (x72.1, (x72.2, (IntKind.wrap .i64 (x37.2.2.2 + (1 : Int)))))) w157))))) (
          pelotonlaw10_awake  w38 fun b158 w159 =>
          (k b158 w159))) ((1 : Int), (false, ((0 : Int), (0 : Int)))) w35))
theorem e_pelotonlaw10_DequeOnce (pelotonlaw10_awake : World → ((Bool) → World → Prop) → Prop) (cells_New : Int → Int → World → ((Option Addr × Int) → World → Prop) → Prop) (deque_New : Option Addr → Int → Int → Int → World → ((Array Value × Int) → World → Prop) → Prop) (pelotonlaw10_who : Array Value → World → ((Int) → World → Prop) → Prop) (cells_Machine_Peek : Option Addr → Int → World → ((Int) → World → Prop) → Prop) (deque_Deque_Steal : Array Value → World → ((Option Addr) → World → Prop) → Prop) (deque_Deque_Push : Array Value → Int → World → ((Option Addr) → World → Prop) → Prop) (pelotonlaw10_count : Sl → World → ((Int) → World → Prop) → Prop) (deque_Deque_Pop : Array Value → World → ((Option Addr) → World → Prop) → Prop) (cells_Machine_Steps : Option Addr → Int → World → ((Int) → World → Prop) → Prop) (deque_Op_Step : Option Addr → Option Addr → Int → World → ((Int) → World → Prop) → Prop) (deque_Op_Got : Option Addr → World → ((Int) → World → Prop) → Prop) (deque_Deque_List : Array Value → Option Addr → World → ((Sl) → World → Prop) → Prop) (pelotonlaw10_lies : Sl → Sl → World → ((Bool) → World → Prop) → Prop) (x : KT [.ag, .s]) (w : World) (k : KT [.b] → World → Prop) : evFn Go.Proofs.Try.prog (orcOf [(n_pelotonlaw10_awake, (fun args w c => unL [] args fun x => pelotonlaw10_awake  w fun r w => c (packV (valL [.b] r)) w)), (n_cells_New, (fun args w c => unL [(.i .i64), (.i .i64)] args fun x => cells_New x.1 x.2 w fun r w => c (packV (valL [.p, (.i .i64)] r)) w)), (n_deque_New, (fun args w c => unL [.p, (.i .i64), (.i .i64), (.i .i64)] args fun x => deque_New x.1 x.2.1 x.2.2.1 x.2.2.2 w fun r w => c (packV (valL [.ag, (.i .i64)] r)) w)), (n_pelotonlaw10_who, (fun args w c => unL [.ag] args fun x => pelotonlaw10_who x w fun r w => c (packV (valL [(.i .i64)] r)) w)), (n_cells_Machine_Peek, (fun args w c => unL [.p, (.i .i64)] args fun x => cells_Machine_Peek x.1 x.2 w fun r w => c (packV (valL [(.i .i64)] r)) w)), (n_deque_Deque_Steal, (fun args w c => unL [.ag] args fun x => deque_Deque_Steal x w fun r w => c (packV (valL [.p] r)) w)), (n_deque_Deque_Push, (fun args w c => unL [.ag, (.i .i64)] args fun x => deque_Deque_Push x.1 x.2 w fun r w => c (packV (valL [.p] r)) w)), (n_pelotonlaw10_count, (fun args w c => unL [.s] args fun x => pelotonlaw10_count x w fun r w => c (packV (valL [(.i .i64)] r)) w)), (n_deque_Deque_Pop, (fun args w c => unL [.ag] args fun x => deque_Deque_Pop x w fun r w => c (packV (valL [.p] r)) w)), (n_cells_Machine_Steps, (fun args w c => unL [.p, (.i .i64)] args fun x => cells_Machine_Steps x.1 x.2 w fun r w => c (packV (valL [(.i .i64)] r)) w)), (n_deque_Op_Step, (fun args w c => unL [.p, .p, (.i .i64)] args fun x => deque_Op_Step x.1 x.2.1 x.2.2 w fun r w => c (packV (valL [(.i .i64)] r)) w)), (n_deque_Op_Got, (fun args w c => unL [.p] args fun x => deque_Op_Got x w fun r w => c (packV (valL [(.i .i64)] r)) w)), (n_deque_Deque_List, (fun args w c => unL [.ag, .p] args fun x => deque_Deque_List x.1 x.2 w fun r w => c (packV (valL [.s] r)) w)), (n_pelotonlaw10_lies, (fun args w c => unL [.s, .s] args fun x => pelotonlaw10_lies x.1 x.2 w fun r w => c (packV (valL [.b] r)) w))]) 248722326609584629963965827864273144233266339847555581020315864422273993576008887828470 [(1, [(42, .b)]), (11, [(9, (.i .i64))]), (12, [(9, (.i .i64)), (10, (.i .i64))]), (27, [(12, (.i .i64)), (16, .b), (17, (.i .i64)), (18, (.i .i64))]), (33, [(16, .b), (17, (.i .i64))]), (54, []), (56, [(12, (.i .i64))]), (58, [(168, .b)]), (61, [(184, .b)]), (71, [(212, .b)]), (79, []), (85, [(250, .b)]), (89, [(275, .b)]), (93, [(287, .b)])] Go.Proofs.Try.f6 [.b] (valL [.ag, .s] x) w k = pelotonlaw10_DequeOnce_b pelotonlaw10_awake cells_New deque_New pelotonlaw10_who cells_Machine_Peek deque_Deque_Steal deque_Deque_Push pelotonlaw10_count deque_Deque_Pop cells_Machine_Steps deque_Op_Step deque_Op_Got deque_Deque_List pelotonlaw10_lies x.1 x.2 w k := by kernel_rfl
def pelotonlaw10_DequeOnce (logs_0 : Array Value) (l_1 : Sl) (w : World) (k : (Bool) → World → Prop) : Prop := pelotonlaw10_DequeOnce_b pelotonlaw10_awake cells_New deque_New pelotonlaw10_who cells_Machine_Peek deque_Deque_Steal deque_Deque_Push pelotonlaw10_count deque_Deque_Pop cells_Machine_Steps deque_Op_Step deque_Op_Got deque_Deque_List pelotonlaw10_lies logs_0 l_1 w k
def d_pelotonlaw10_DequeOnce : Dec := fun args w c => unL [.ag, .s] args fun x => pelotonlaw10_DequeOnce x.1 x.2 w fun r w => c (packV (valL [.b] r)) w
theorem s_pelotonlaw10_DequeOnce : Sound Go.Proofs.Try.prog n_pelotonlaw10_DequeOnce d_pelotonlaw10_DequeOnce :=
  sound_of (mask := 248722326609584629963965827864273144233266339847555581020315864422273993576008887828470) (h := [(1, [(42, .b)]), (11, [(9, (.i .i64))]), (12, [(9, (.i .i64)), (10, (.i .i64))]), (27, [(12, (.i .i64)), (16, .b), (17, (.i .i64)), (18, (.i .i64))]), (33, [(16, .b), (17, (.i .i64))]), (54, []), (56, [(12, (.i .i64))]), (58, [(168, .b)]), (61, [(184, .b)]), (71, [(212, .b)]), (79, []), (85, [(250, .b)]), (89, [(275, .b)]), (93, [(287, .b)])]) (ds := [(n_pelotonlaw10_awake, d_pelotonlaw10_awake), (n_cells_New, d_cells_New), (n_deque_New, d_deque_New), (n_pelotonlaw10_who, d_pelotonlaw10_who), (n_cells_Machine_Peek, d_cells_Machine_Peek), (n_deque_Deque_Steal, d_deque_Deque_Steal), (n_deque_Deque_Push, d_deque_Deque_Push), (n_pelotonlaw10_count, d_pelotonlaw10_count), (n_deque_Deque_Pop, d_deque_Deque_Pop), (n_cells_Machine_Steps, d_cells_Machine_Steps), (n_deque_Op_Step, d_deque_Op_Step), (n_deque_Op_Got, d_deque_Op_Got), (n_deque_Deque_List, d_deque_Deque_List), (n_pelotonlaw10_lies, d_pelotonlaw10_lies)]) mixed Go.Proofs.Try.func6 ⟨s_pelotonlaw10_awake, s_cells_New, s_deque_New, s_pelotonlaw10_who, s_cells_Machine_Peek, s_deque_Deque_Steal, s_deque_Deque_Push, s_pelotonlaw10_count, s_deque_Deque_Pop, s_cells_Machine_Steps, s_deque_Op_Step, s_deque_Op_Got, s_deque_Deque_List, s_pelotonlaw10_lies, trivial⟩
    [.ag, .s] [.b] (by kernel_rfl) (fun x w k => pelotonlaw10_DequeOnce x.1 x.2 w k) (fun x w k => e_pelotonlaw10_DequeOnce pelotonlaw10_awake cells_New deque_New pelotonlaw10_who cells_Machine_Peek deque_Deque_Steal deque_Deque_Push pelotonlaw10_count deque_Deque_Pop cells_Machine_Steps deque_Op_Step deque_Op_Got deque_Deque_List pelotonlaw10_lies x w k)

/-- (peloton/deque.Deque).Bottom -/
def deque_Deque_Bottom_b (deque_Deque_bottom : Array Value → World → ((Int) → World → Prop) → Prop) (cells_Machine_Load : Option Addr → Int → Int → World → ((Int × Int) → World → Prop) → Prop) (d_0 : Array Value) (m_1 : Option Addr) (w_2 : Int) (w : World) (k : (Int × Int) → World → Prop) : Prop :=
  newC w d_0 30 fun a1 w2 =>
  ldA 2 w2 a1 fun cs3 =>
  deque_Deque_bottom cs3 w2 fun i4 w5 =>
  cells_Machine_Load m_1 w_2 i4 w5 fun x6 w7 =>
  (k ((x6.1, x6.2).1, (x6.1, x6.2).2) w7)
theorem e_deque_Deque_Bottom (deque_Deque_bottom : Array Value → World → ((Int) → World → Prop) → Prop) (cells_Machine_Load : Option Addr → Int → Int → World → ((Int × Int) → World → Prop) → Prop) (x : KT [.ag, .p, (.i .i64)]) (w : World) (k : KT [(.i .i64), (.i .i64)] → World → Prop) : evFn Go.Proofs.Try.prog (orcOf [(n_deque_Deque_bottom, (fun args w c => unL [.ag] args fun x => deque_Deque_bottom x w fun r w => c (packV (valL [(.i .i64)] r)) w)), (n_cells_Machine_Load, (fun args w c => unL [.p, (.i .i64), (.i .i64)] args fun x => cells_Machine_Load x.1 x.2.1 x.2.2 w fun r w => c (packV (valL [(.i .i64), (.i .i64)] r)) w))]) 206 [] Go.Proofs.Try.f34 [(.i .i64), (.i .i64)] (valL [.ag, .p, (.i .i64)] x) w k = deque_Deque_Bottom_b deque_Deque_bottom cells_Machine_Load x.1 x.2.1 x.2.2 w k := by kernel_rfl
def deque_Deque_Bottom (d_0 : Array Value) (m_1 : Option Addr) (w_2 : Int) (w : World) (k : (Int × Int) → World → Prop) : Prop := deque_Deque_Bottom_b deque_Deque_bottom cells_Machine_Load d_0 m_1 w_2 w k
def d_deque_Deque_Bottom : Dec := fun args w c => unL [.ag, .p, (.i .i64)] args fun x => deque_Deque_Bottom x.1 x.2.1 x.2.2 w fun r w => c (packV (valL [(.i .i64), (.i .i64)] r)) w
theorem s_deque_Deque_Bottom : Sound Go.Proofs.Try.prog n_deque_Deque_Bottom d_deque_Deque_Bottom :=
  sound_of (mask := 206) (h := []) (ds := [(n_deque_Deque_bottom, d_deque_Deque_bottom), (n_cells_Machine_Load, d_cells_Machine_Load)]) mixed Go.Proofs.Try.func34 ⟨s_deque_Deque_bottom, s_cells_Machine_Load, trivial⟩
    [.ag, .p, (.i .i64)] [(.i .i64), (.i .i64)] (by kernel_rfl) (fun x w k => deque_Deque_Bottom x.1 x.2.1 x.2.2 w k) (fun x w k => e_deque_Deque_Bottom deque_Deque_bottom cells_Machine_Load x w k)

/-- peloton/pelotonlaw10.DequeNil -/
def pelotonlaw10_DequeNil_b (deque_New : Option Addr → Int → Int → Int → World → ((Array Value × Int) → World → Prop) → Prop) (pelotonlaw10_awake : World → ((Bool) → World → Prop) → Prop) (deque_Op_Step : Option Addr → Option Addr → Int → World → ((Int) → World → Prop) → Prop) (deque_Op_Got : Option Addr → World → ((Int) → World → Prop) → Prop) (deque_Op_Err : Option Addr → World → ((Int) → World → Prop) → Prop) (deque_Deque_List : Array Value → Option Addr → World → ((Sl) → World → Prop) → Prop) (deque_Deque_Bottom : Array Value → Option Addr → Int → World → ((Int × Int) → World → Prop) → Prop) (cells_New : Int → Int → World → ((Option Addr × Int) → World → Prop) → Prop) (cells_Machine_Used : Option Addr → World → ((Int) → World → Prop) → Prop) (deque_Deque_Push : Array Value → Int → World → ((Option Addr) → World → Prop) → Prop) (pelotonlaw10_run : Option Addr → Option Addr → Int → World → ((Int) → World → Prop) → Prop) (deque_Deque_Pop : Array Value → World → ((Option Addr) → World → Prop) → Prop) (deque_Deque_Steal : Array Value → World → ((Option Addr) → World → Prop) → Prop) (cells_Machine_Peek : Option Addr → Int → World → ((Int) → World → Prop) → Prop) (ring_Of : Int → World → ((Array Value × Int) → World → Prop) → Prop) (ring_Ring_Size : Array Value → World → ((Int) → World → Prop) → Prop) (logs_0 : Array Value) (l_1 : Sl) (w_2 : Int) (w : World) (k : (Bool) → World → Prop) : Prop :=
  newC w logs_0 22 fun a1 w2 =>
  ldI .i64 w2 (Addr.add a1 0) fun i3 =>
  ldI .i64 w2 (Addr.add a1 1) fun i4 =>
  deque_New none w_2 i3 i4 w2 fun x5 w6 =>
  newC w6 #[(.int .i64 (0 : Int)), (.int .i64 (0 : Int))] 30 fun a7 w8 =>
  stA 2 w8 a7 (x5.1, x5.2).1 fun w9 =>
  iteB (decide (((l_1.n : Nat) : Int) > (100 : Int))) (
    pelotonlaw10_awake  w9 fun b10 w11 =>
    (k b10 w11)) (
    joinP (S := Bool) (fun J12 =>
      iteB ((x5.1, x5.2).2 != (2 : Int)) (
        (J12 true w9)) (
        ldA 2 w9 a7 fun cs13 =>
        eqA ([(0, 0)] ++ ([(1, 0)] ++ [])) cs13 #[(.int .i64 (0 : Int)), (.int .i64 (0 : Int))] fun b14 =>
        iteB (!b14) (
          (J12 true w9)) (
          deque_Op_Step none none w_2 w9 fun i15 w16 =>
          iteB (i15 != (6 : Int)) (
            (J12 true w16)) (
            deque_Op_Got none w16 fun i17 w18 =>
            iteB (i17 != (0 : Int)) (
              (J12 true w18)) (
              deque_Op_Err none w18 fun i19 w20 =>
              iteB (i19 != (2 : Int)) (
                (J12 true w20)) (
                ldA 2 w20 a7 fun cs21 =>
                deque_Deque_List cs21 none w20 fun s22 w23 =>
                (J12 (((s22.n : Nat) : Int) != (0 : Int)) w23))))))) fun b24 w25 =>
    iteB b24 (
      (k false w25)) (
      ldA 2 w25 a7 fun cs26 =>
      deque_Deque_Bottom cs26 none w_2 w25 fun x27 w28 =>
      iteB ((x27.1, x27.2).2 != (2 : Int)) (
        (k false w28)) (
        joinP (S := Bool) (fun J29 =>
          ldI .i64 w28 (Addr.add a1 0) fun i30 =>
          iteB (decide (i30 < (0 : Int))) (
            (J29 true w28)) (
            ldI .i64 w28 (Addr.add a1 1) fun i31 =>
            ldI .i64 w28 (Addr.add a1 0) fun i32 =>
            iteB (decide (i31 < i32)) (
              (J29 true w28)) (
              ldI .i64 w28 (Addr.add a1 1) fun i33 =>
              (J29 (decide (i33 > (8 : Int))) w28)))) fun b34 w35 =>
        iteB b34 (
          cells_New (600 : Int) (2 : Int) w35 fun x36 w37 =>
          ldI .i64 w37 (Addr.add a1 0) fun i38 =>
          ldI .i64 w37 (Addr.add a1 1) fun i39 =>
          deque_New (x36.1, x36.2).1 (2 : Int) i38 i39 w37 fun x40 w41 =>
          newC w41 #[(.int .i64 (0 : Int)), (.int .i64 (0 : Int))] 30 fun a42 w43 =>
          stA 2 w43 a42 (x40.1, x40.2).1 fun w44 =>
          iteB (((x36.1, x36.2).2 == (0 : Int)) && ((x40.1, x40.2).2 == (10 : Int))) (
            ldA 2 w44 a42 fun cs45 =>
            eqA ([(0, 0)] ++ ([(1, 0)] ++ [])) cs45 #[(.int .i64 (0 : Int)), (.int .i64 (0 : Int))] fun b46 =>
            iteB b46 (
              cells_Machine_Used (x36.1, x36.2).1 w44 fun i47 w48 =>
              iteB (i47 == (0 : Int)) (
                pelotonlaw10_awake  w48 fun b49 w50 =>
                (k b49 w50)) (
                (k false w48))) (
              (k false w44))) (
            (k false w44))) (
          cells_New (600 : Int) (2 : Int) w35 fun x51 w52 =>
          ldI .i64 w52 (Addr.add a1 0) fun i53 =>
          ldI .i64 w52 (Addr.add a1 1) fun i54 =>
          deque_New (x51.1, x51.2).1 (2 : Int) i53 i54 w52 fun x55 w56 =>
          stA 2 w56 a7 (x55.1, x55.2).1 fun w57 =>
          iteB (((x51.1, x51.2).2 != (0 : Int)) || ((x55.1, x55.2).2 != (0 : Int))) (
            (k false w57)) (
            joinP (S := Int) (fun J58 =>
              loopP (S := (Int × Int)) (fun C59 x60 w61 =>
                iteB (decide (x60.2 < ((l_1.n : Nat) : Int))) (
                  drew w61 fun w62 =>
                  ldA 2 w62 a7 fun cs63 =>
                  ixS l_1 x60.2 1 fun a64 =>
                  ldI .i64 w62 a64 fun i65 =>
                  deque_Deque_Push cs63 i65 w62 fun p66 w67 =>
                  pelotonlaw10_run (x51.1, x51.2).1 p66 (0 : Int) w67 fun i68 w69 =>
                  iteB (i68 == (1 : Int)) (
                    (C59 ((IntKind.wrap .i64 (x60.1 + (1 : Int))), (IntKind.wrap .i64 (x60.2 + (1 : Int)))) w69)) (
                    (C59 (x60.1, (IntKind.wrap .i64 (x60.2 + (1 : Int)))) w69))) (
                  (J58 x60.1 w61))) ((0 : Int), (0 : Int)) w57) fun i70 w71 =>
            ldA 2 w71 a7 fun cs72 =>
            deque_Deque_Bottom cs72 (x51.1, x51.2).1 w_2 w71 fun x73 w74 =>
            joinP (S := Int) (fun J75 =>
              iteB ((decide (w_2 < (0 : Int))) || (decide (w_2 > (2 : Int)))) (
                (J75 (10 : Int) w74)) (
                (J75 (0 : Int) w74))) fun i76 w77 =>
            joinP (S := Bool) (fun J78 =>
              (J78 ((((x73.1, x73.2).2 != i76) || ((i76 == (0 : Int)) && ((x73.1, x73.2).1 != i70))) || ((i76 != (0 : Int)) && ((x73.1, x73.2).1 != (0 : Int)))) w77)) fun b79 w80 =>
            iteB b79 (
              (k false w80)) (
              ldA 2 w80 a7 fun cs81 =>
              deque_Deque_Pop cs81 w80 fun p82 w83 =>
              ldA 2 w83 a7 fun cs84 =>
              deque_Deque_Steal cs84 w83 fun p85 w86 =>
              joinP (S := Bool) (fun J87 =>
                deque_Op_Step p82 none (0 : Int) w86 fun i88 w89 =>
                iteB (i88 != (6 : Int)) (
                  (J87 true w89)) (
                  deque_Op_Err p82 w89 fun i90 w91 =>
                  iteB (i90 != (2 : Int)) (
                    (J87 true w91)) (
                    deque_Op_Step p85 (x51.1, x51.2).1 (3 : Int) w91 fun i92 w93 =>
                    iteB (i92 != (6 : Int)) (
                      (J87 true w93)) (
                      deque_Op_Err p85 w93 fun i94 w95 =>
                      iteB (i94 != (10 : Int)) (
                        (J87 true w95)) (
                        deque_Op_Got p85 w95 fun i96 w97 =>
                        (J87 (i96 != (0 : Int)) w97)))))) fun b98 w99 =>
              iteB b98 (
                (k false w99)) (
                ldI .i64 w99 (Addr.add a7 0) fun i100 =>
                cells_Machine_Peek (x51.1, x51.2).1 (IntKind.wrap .i64 (i100 + (2 : Int))) w99 fun i101 w102 =>
                ring_Of i101 w102 fun x103 w104 =>
                newC w104 #[(.int .i64 (0 : Int)), (.int .i64 (0 : Int))] 62 fun a105 w106 =>
                stA 2 w106 a105 (x103.1, x103.2).1 fun w107 =>
                deque_Op_Step p82 (x51.1, x51.2).1 (0 : Int) w107 fun i108 w109 =>
                iteB (i108 == (6 : Int)) (
                  deque_Op_Err p82 w109 fun i110 w111 =>
                  iteB (i110 == (2 : Int)) (
                    deque_Op_Step p85 (x51.1, x51.2).1 (0 : Int) w111 fun i112 w113 =>
                    iteB (i112 == (6 : Int)) (
                      ldA 2 w113 a7 fun cs114 =>
                      deque_Deque_List cs114 (x51.1, x51.2).1 w113 fun s115 w116 =>
                      iteB (((s115.n : Nat) : Int) == i70) (
                        ldA 2 w116 a105 fun cs117 =>
                        ring_Ring_Size cs117 w116 fun i118 w119 =>
                        iteB (decide (i118 ≥ i70)) (
                          pelotonlaw10_awake  w119 fun b120 w121 =>
                          (k b120 w121)) (
                          (k false w119))) (
                        (k false w116))) (
                      (k false w113))) (
                    (k false w111))) (
                  (k false w109)))))))))
theorem e_pelotonlaw10_DequeNil (deque_New : Option Addr → Int → Int → Int → World → ((Array Value × Int) → World → Prop) → Prop) (pelotonlaw10_awake : World → ((Bool) → World → Prop) → Prop) (deque_Op_Step : Option Addr → Option Addr → Int → World → ((Int) → World → Prop) → Prop) (deque_Op_Got : Option Addr → World → ((Int) → World → Prop) → Prop) (deque_Op_Err : Option Addr → World → ((Int) → World → Prop) → Prop) (deque_Deque_List : Array Value → Option Addr → World → ((Sl) → World → Prop) → Prop) (deque_Deque_Bottom : Array Value → Option Addr → Int → World → ((Int × Int) → World → Prop) → Prop) (cells_New : Int → Int → World → ((Option Addr × Int) → World → Prop) → Prop) (cells_Machine_Used : Option Addr → World → ((Int) → World → Prop) → Prop) (deque_Deque_Push : Array Value → Int → World → ((Option Addr) → World → Prop) → Prop) (pelotonlaw10_run : Option Addr → Option Addr → Int → World → ((Int) → World → Prop) → Prop) (deque_Deque_Pop : Array Value → World → ((Option Addr) → World → Prop) → Prop) (deque_Deque_Steal : Array Value → World → ((Option Addr) → World → Prop) → Prop) (cells_Machine_Peek : Option Addr → Int → World → ((Int) → World → Prop) → Prop) (ring_Of : Int → World → ((Array Value × Int) → World → Prop) → Prop) (ring_Ring_Size : Array Value → World → ((Int) → World → Prop) → Prop) (x : KT [.ag, .s, (.i .i64)]) (w : World) (k : KT [.b] → World → Prop) : evFn Go.Proofs.Try.prog (orcOf [(n_deque_New, (fun args w c => unL [.p, (.i .i64), (.i .i64), (.i .i64)] args fun x => deque_New x.1 x.2.1 x.2.2.1 x.2.2.2 w fun r w => c (packV (valL [.ag, (.i .i64)] r)) w)), (n_pelotonlaw10_awake, (fun args w c => unL [] args fun x => pelotonlaw10_awake  w fun r w => c (packV (valL [.b] r)) w)), (n_deque_Op_Step, (fun args w c => unL [.p, .p, (.i .i64)] args fun x => deque_Op_Step x.1 x.2.1 x.2.2 w fun r w => c (packV (valL [(.i .i64)] r)) w)), (n_deque_Op_Got, (fun args w c => unL [.p] args fun x => deque_Op_Got x w fun r w => c (packV (valL [(.i .i64)] r)) w)), (n_deque_Op_Err, (fun args w c => unL [.p] args fun x => deque_Op_Err x w fun r w => c (packV (valL [(.i .i64)] r)) w)), (n_deque_Deque_List, (fun args w c => unL [.ag, .p] args fun x => deque_Deque_List x.1 x.2 w fun r w => c (packV (valL [.s] r)) w)), (n_deque_Deque_Bottom, (fun args w c => unL [.ag, .p, (.i .i64)] args fun x => deque_Deque_Bottom x.1 x.2.1 x.2.2 w fun r w => c (packV (valL [(.i .i64), (.i .i64)] r)) w)), (n_cells_New, (fun args w c => unL [(.i .i64), (.i .i64)] args fun x => cells_New x.1 x.2 w fun r w => c (packV (valL [.p, (.i .i64)] r)) w)), (n_cells_Machine_Used, (fun args w c => unL [.p] args fun x => cells_Machine_Used x w fun r w => c (packV (valL [(.i .i64)] r)) w)), (n_deque_Deque_Push, (fun args w c => unL [.ag, (.i .i64)] args fun x => deque_Deque_Push x.1 x.2 w fun r w => c (packV (valL [.p] r)) w)), (n_pelotonlaw10_run, (fun args w c => unL [.p, .p, (.i .i64)] args fun x => pelotonlaw10_run x.1 x.2.1 x.2.2 w fun r w => c (packV (valL [(.i .i64)] r)) w)), (n_deque_Deque_Pop, (fun args w c => unL [.ag] args fun x => deque_Deque_Pop x w fun r w => c (packV (valL [.p] r)) w)), (n_deque_Deque_Steal, (fun args w c => unL [.ag] args fun x => deque_Deque_Steal x w fun r w => c (packV (valL [.p] r)) w)), (n_cells_Machine_Peek, (fun args w c => unL [.p, (.i .i64)] args fun x => cells_Machine_Peek x.1 x.2 w fun r w => c (packV (valL [(.i .i64)] r)) w)), (n_ring_Of, (fun args w c => unL [(.i .i64)] args fun x => ring_Of x w fun r w => c (packV (valL [.ag, (.i .i64)] r)) w)), (n_ring_Ring_Size, (fun args w c => unL [.ag] args fun x => ring_Ring_Size x w fun r w => c (packV (valL [(.i .i64)] r)) w))]) 210624584121752838630857274623290740316168854403770782518064709582 [(6, [(65, .b)]), (13, [(88, .b)]), (25, [(16, (.i .i64))]), (26, [(16, (.i .i64)), (17, (.i .i64))]), (37, [(19, (.i .i64))]), (39, [(189, .b)]), (44, [(217, .b)])] Go.Proofs.Try.f7 [.b] (valL [.ag, .s, (.i .i64)] x) w k = pelotonlaw10_DequeNil_b deque_New pelotonlaw10_awake deque_Op_Step deque_Op_Got deque_Op_Err deque_Deque_List deque_Deque_Bottom cells_New cells_Machine_Used deque_Deque_Push pelotonlaw10_run deque_Deque_Pop deque_Deque_Steal cells_Machine_Peek ring_Of ring_Ring_Size x.1 x.2.1 x.2.2 w k := by kernel_rfl
def pelotonlaw10_DequeNil (logs_0 : Array Value) (l_1 : Sl) (w_2 : Int) (w : World) (k : (Bool) → World → Prop) : Prop := pelotonlaw10_DequeNil_b deque_New pelotonlaw10_awake deque_Op_Step deque_Op_Got deque_Op_Err deque_Deque_List deque_Deque_Bottom cells_New cells_Machine_Used deque_Deque_Push pelotonlaw10_run deque_Deque_Pop deque_Deque_Steal cells_Machine_Peek ring_Of ring_Ring_Size logs_0 l_1 w_2 w k
def d_pelotonlaw10_DequeNil : Dec := fun args w c => unL [.ag, .s, (.i .i64)] args fun x => pelotonlaw10_DequeNil x.1 x.2.1 x.2.2 w fun r w => c (packV (valL [.b] r)) w
theorem s_pelotonlaw10_DequeNil : Sound Go.Proofs.Try.prog n_pelotonlaw10_DequeNil d_pelotonlaw10_DequeNil :=
  sound_of (mask := 210624584121752838630857274623290740316168854403770782518064709582) (h := [(6, [(65, .b)]), (13, [(88, .b)]), (25, [(16, (.i .i64))]), (26, [(16, (.i .i64)), (17, (.i .i64))]), (37, [(19, (.i .i64))]), (39, [(189, .b)]), (44, [(217, .b)])]) (ds := [(n_deque_New, d_deque_New), (n_pelotonlaw10_awake, d_pelotonlaw10_awake), (n_deque_Op_Step, d_deque_Op_Step), (n_deque_Op_Got, d_deque_Op_Got), (n_deque_Op_Err, d_deque_Op_Err), (n_deque_Deque_List, d_deque_Deque_List), (n_deque_Deque_Bottom, d_deque_Deque_Bottom), (n_cells_New, d_cells_New), (n_cells_Machine_Used, d_cells_Machine_Used), (n_deque_Deque_Push, d_deque_Deque_Push), (n_pelotonlaw10_run, d_pelotonlaw10_run), (n_deque_Deque_Pop, d_deque_Deque_Pop), (n_deque_Deque_Steal, d_deque_Deque_Steal), (n_cells_Machine_Peek, d_cells_Machine_Peek), (n_ring_Of, d_ring_Of), (n_ring_Ring_Size, d_ring_Ring_Size)]) mixed Go.Proofs.Try.func7 ⟨s_deque_New, s_pelotonlaw10_awake, s_deque_Op_Step, s_deque_Op_Got, s_deque_Op_Err, s_deque_Deque_List, s_deque_Deque_Bottom, s_cells_New, s_cells_Machine_Used, s_deque_Deque_Push, s_pelotonlaw10_run, s_deque_Deque_Pop, s_deque_Deque_Steal, s_cells_Machine_Peek, s_ring_Of, s_ring_Ring_Size, trivial⟩
    [.ag, .s, (.i .i64)] [.b] (by kernel_rfl) (fun x w k => pelotonlaw10_DequeNil x.1 x.2.1 x.2.2 w k) (fun x w k => e_pelotonlaw10_DequeNil deque_New pelotonlaw10_awake deque_Op_Step deque_Op_Got deque_Op_Err deque_Deque_List deque_Deque_Bottom cells_New cells_Machine_Used deque_Deque_Push pelotonlaw10_run deque_Deque_Pop deque_Deque_Steal cells_Machine_Peek ring_Of ring_Ring_Size x w k)

/-- peloton/pelotonref09.power -/
def pelotonref09_power (n_0 : Int) (w : World) (k : (Int) → World → Prop) : Prop :=
  loopP (S := (Int × Int)) (fun C1 x2 w3 =>
    iteB (decide (x2.2 < n_0)) (
      (C1 ((IntKind.wrap .i64 ((2 : Int) * x2.1)), (IntKind.wrap .i64 (x2.2 + (1 : Int)))) w3)) (
      (k x2.1 w3))) ((1 : Int), (0 : Int)) w
def d_pelotonref09_power : Dec := fun args w c => unL [(.i .i64)] args fun x => pelotonref09_power x w fun r w => c (packV (valL [(.i .i64)] r)) w
theorem s_pelotonref09_power : Sound Go.Proofs.Try.prog n_pelotonref09_power d_pelotonref09_power :=
  sound_of (mask := 157) (h := [(4, [(3, (.i .i64)), (4, (.i .i64))])]) (ds := []) mixed Go.Proofs.Try.func98 trivial
    [(.i .i64)] [(.i .i64)] (by kernel_rfl) (fun x w k => pelotonref09_power x w k) (fun x w k => by kernel_rfl)

/-- peloton/pelotonref09.Right -/
def pelotonref09_Right_b (pelotonref09_power : Int → World → ((Int) → World → Prop) → Prop) (r_0 : Array Value) (w : World) (k : (Bool) → World → Prop) : Prop :=
  newC w r_0 74 fun a1 w2 =>
  joinP (S := Bool) (fun J3 =>
    ldI .i64 w2 (Addr.add a1 1) fun i4 =>
    iteB (decide (i4 < (0 : Int))) (
      (J3 true w2)) (
      ldI .i64 w2 (Addr.add a1 1) fun i5 =>
      iteB (decide (i5 > (8 : Int))) (
        (J3 true w2)) (
        ldI .i64 w2 (Addr.add a1 0) fun i6 =>
        (J3 (decide (i6 < (0 : Int))) w2)))) fun b7 w8 =>
  iteB b7 (
    (k false w8)) (
    drew w8 fun w9 =>
    ldI .i64 w9 (Addr.add a1 0) fun i10 =>
    ldI .i64 w9 (Addr.add a1 1) fun i11 =>
    pelotonref09_power i11 w9 fun i12 w13 =>
    samec 1 (Addr.add a1 0) w9 w13 (
    (k (decide (i10 ≤ (IntKind.wrap .i64 ((1048576 : Int) - i12)))) w13)))
theorem e_pelotonref09_Right (pelotonref09_power : Int → World → ((Int) → World → Prop) → Prop) (x : KT [.ag]) (w : World) (k : KT [.b] → World → Prop) : evFn Go.Proofs.Try.prog (orcOf [(n_pelotonref09_power, (fun args w c => unL [(.i .i64)] args fun x => pelotonref09_power x w fun r w => c (packV (valL [(.i .i64)] r)) w))]) 32774 [(1, [(15, .b)])] Go.Proofs.Try.f97 [.b] (valL [.ag] x) w k = pelotonref09_Right_b pelotonref09_power x w k := by kernel_rfl
def pelotonref09_Right (r_0 : Array Value) (w : World) (k : (Bool) → World → Prop) : Prop := pelotonref09_Right_b pelotonref09_power r_0 w k
def d_pelotonref09_Right : Dec := fun args w c => unL [.ag] args fun x => pelotonref09_Right x w fun r w => c (packV (valL [.b] r)) w
theorem s_pelotonref09_Right : Sound Go.Proofs.Try.prog n_pelotonref09_Right d_pelotonref09_Right :=
  sound_of (mask := 32774) (h := [(1, [(15, .b)])]) (ds := [(n_pelotonref09_power, d_pelotonref09_power)]) mixed Go.Proofs.Try.func97 ⟨s_pelotonref09_power, trivial⟩
    [.ag] [.b] (by kernel_rfl) (fun x w k => pelotonref09_Right x w k) (fun x w k => e_pelotonref09_Right pelotonref09_power x w k)

end Go.Proofs.Ytheallacpidcmaa
