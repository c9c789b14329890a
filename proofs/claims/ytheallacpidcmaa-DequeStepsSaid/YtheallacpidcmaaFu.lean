/-
  The functions of this seat, as the evaluator gives them: printed by a program; each tied to its function by the kernel.
-/
import Derived.Test.YtheallacpidcmaaFu1
import Derived.KernelRfl
set_option maxRecDepth 100000
set_option linter.unusedVariables false
namespace Go.Proofs.Ytheallacpidcmaa
open Go Go.Ev
/-- peloton/pelotonref09.Size -/
def pelotonref09_Size_b (pelotonref09_Right : Array Value → World → ((Bool) → World → Prop) → Prop) (pelotonref09_power : Int → World → ((Int) → World → Prop) → Prop) (r_0 : Array Value) (w : World) (k : (Int) → World → Prop) : Prop :=
  newC w r_0 74 fun a1 w2 =>
  ldA 2 w2 a1 fun cs3 =>
  pelotonref09_Right cs3 w2 fun b4 w5 =>
  iteB (!b4) (
    (k (0 : Int) w5)) (
    ldI .i64 w5 (Addr.add a1 1) fun i6 =>
    pelotonref09_power i6 w5 fun i7 w8 =>
    (k i7 w8))
theorem e_pelotonref09_Size (pelotonref09_Right : Array Value → World → ((Bool) → World → Prop) → Prop) (pelotonref09_power : Int → World → ((Int) → World → Prop) → Prop) (x : KT [.ag]) (w : World) (k : KT [(.i .i64)] → World → Prop) : evFn Go.Proofs.Try.prog (orcOf [(n_pelotonref09_Right, (fun args w c => unL [.ag] args fun x => pelotonref09_Right x w fun r w => c (packV (valL [.b] r)) w)), (n_pelotonref09_power, (fun args w c => unL [(.i .i64)] args fun x => pelotonref09_power x w fun r w => c (packV (valL [(.i .i64)] r)) w))]) 38 [] Go.Proofs.Try.f76 [(.i .i64)] (valL [.ag] x) w k = pelotonref09_Size_b pelotonref09_Right pelotonref09_power x w k := by kernel_rfl
def pelotonref09_Size (r_0 : Array Value) (w : World) (k : (Int) → World → Prop) : Prop := pelotonref09_Size_b pelotonref09_Right pelotonref09_power r_0 w k
def d_pelotonref09_Size : Dec := fun args w c => unL [.ag] args fun x => pelotonref09_Size x w fun r w => c (packV (valL [(.i .i64)] r)) w
theorem s_pelotonref09_Size : Sound Go.Proofs.Try.prog n_pelotonref09_Size d_pelotonref09_Size :=
  sound_of (mask := 38) (h := []) (ds := [(n_pelotonref09_Right, d_pelotonref09_Right), (n_pelotonref09_power, d_pelotonref09_power)]) mixed Go.Proofs.Try.func76 ⟨s_pelotonref09_Right, s_pelotonref09_power, trivial⟩
    [.ag] [(.i .i64)] (by kernel_rfl) (fun x w k => pelotonref09_Size x w k) (fun x w k => e_pelotonref09_Size pelotonref09_Right pelotonref09_power x w k)

/-- peloton/pelotonref10.New -/
def pelotonref10_New_b (pelotonref09_Size : Array Value → World → ((Int) → World → Prop) → Prop) (c_0 : Option Addr) (log_1 : Int) (most_2 : Int) (w : World) (k : (Array Value × Int) → World → Prop) : Prop :=
  newC w #[(.int .i64 (0 : Int)), (.int .i64 (0 : Int))] 69 fun a1 w2 =>
  iteB (((decide (log_1 < (0 : Int))) || (decide (most_2 < log_1))) || (decide (most_2 > (8 : Int)))) (
    stA 2 w2 a1 #[(.int .i64 (0 : Int)), (.int .i64 (0 : Int))] fun w3 =>
    ldA 2 w3 a1 fun cs4 =>
    (k (cs4, (10 : Int)) w3)) (
    pelotonref09_Size #[(.int .i64 (0 : Int)), (.int .i64 log_1)] w2 fun i5 w6 =>
    nn c_0 fun a7 =>
    ldS w6 (Addr.add a7 0) fun s8 =>
    nn c_0 fun a9 =>
    ldI .i64 w6 (Addr.add a9 1) fun i10 =>
    iteB (decide ((IntKind.wrap .i64 ((3 : Int) + i5)) > (IntKind.wrap .i64 (i10 - ((s8.n : Nat) : Int))))) (
      stA 2 w6 a1 #[(.int .i64 (0 : Int)), (.int .i64 (0 : Int))] fun w11 =>
      ldA 2 w11 a1 fun cs12 =>
      (k (cs12, (21 : Int)) w11)) (
      joinP (S := Unit) (fun J13 =>
        loopP (S := Int) (fun C14 i15 w16 =>
          iteB (decide (i15 < (IntKind.wrap .i64 ((3 : Int) + i5)))) (
            nn c_0 fun a17 =>
            ldS w16 (Addr.add a17 0) fun s18 =>
            newC w16 #[(.int .i64 (0 : Int))] 2 fun a19 w20 =>
            bApp Go.Proofs.Try.prog #[23, 23] 23 [(.slice s18.a s18.n s18.c), (.slice (some a19) 1 1)] w20 fun s21 w22 =>
            nn c_0 fun a23 =>
            stC w22 (Addr.add a23 0) (.slice s21.a s21.n s21.c) fun w24 =>
            (C14 (IntKind.wrap .i64 (i15 + (1 : Int))) w24)) (
            (J13 () w16))) (0 : Int) w6) fun u25 w26 =>
      nn c_0 fun a27 =>
      ldS w26 (Addr.add a27 0) fun s28 =>
      ixS s28 (IntKind.wrap .i64 (((s8.n : Nat) : Int) + (2 : Int))) 1 fun a29 =>
      stC w26 a29 (.int .i64 (IntKind.wrap .i64 ((IntKind.wrap .i64 ((16 : Int) * (IntKind.wrap .i64 (((s8.n : Nat) : Int) + (3 : Int))))) + log_1))) fun w30 =>
      nn c_0 fun a31 =>
      ldI .i64 w30 (Addr.add a31 2) fun i32 =>
      nn c_0 fun a33 =>
      stC w30 (Addr.add a33 2) (.int .i64 (IntKind.wrap .i64 (i32 + (2 : Int)))) fun w34 =>
      stA 2 w34 a1 #[(.int .i64 ((s8.n : Nat) : Int)), (.int .i64 most_2)] fun w35 =>
      ldA 2 w35 a1 fun cs36 =>
      (k (cs36, (0 : Int)) w35)))
theorem e_pelotonref10_New (pelotonref09_Size : Array Value → World → ((Int) → World → Prop) → Prop) (x : KT [.p, (.i .i64), (.i .i64)]) (w : World) (k : KT [.ag, (.i .i64)] → World → Prop) : evFn Go.Proofs.Try.prog (orcOf [(n_pelotonref09_Size, (fun args w c => unL [.ag] args fun x => pelotonref09_Size x w fun r w => c (packV (valL [(.i .i64)] r)) w))]) 18141943957447 [(10, []), (11, [(10, (.i .i64))])] Go.Proofs.Try.f37 [.ag, (.i .i64)] (valL [.p, (.i .i64), (.i .i64)] x) w k = pelotonref10_New_b pelotonref09_Size x.1 x.2.1 x.2.2 w k := by kernel_rfl
def pelotonref10_New (c_0 : Option Addr) (log_1 : Int) (most_2 : Int) (w : World) (k : (Array Value × Int) → World → Prop) : Prop := pelotonref10_New_b pelotonref09_Size c_0 log_1 most_2 w k
def d_pelotonref10_New : Dec := fun args w c => unL [.p, (.i .i64), (.i .i64)] args fun x => pelotonref10_New x.1 x.2.1 x.2.2 w fun r w => c (packV (valL [.ag, (.i .i64)] r)) w
theorem s_pelotonref10_New : Sound Go.Proofs.Try.prog n_pelotonref10_New d_pelotonref10_New :=
  sound_of (mask := 18141943957447) (h := [(10, []), (11, [(10, (.i .i64))])]) (ds := [(n_pelotonref09_Size, d_pelotonref09_Size)]) mixed Go.Proofs.Try.func37 ⟨s_pelotonref09_Size, trivial⟩
    [.p, (.i .i64), (.i .i64)] [.ag, (.i .i64)] (by kernel_rfl) (fun x w k => pelotonref10_New x.1 x.2.1 x.2.2 w k) (fun x w k => e_pelotonref10_New pelotonref09_Size x w k)

/-- peloton/pelotonref10.Begin -/
def pelotonref10_Begin (d_0 : Array Value) (kind_1 : Int) (x_2 : Int) (w : World) (k : (Option Addr) → World → Prop) : Prop :=
  newC w d_0 69 fun a1 w2 =>
  ldA 2 w2 a1 fun cs3 =>
  spl #[(.int .i64 (0 : Int)), (.int .i64 (0 : Int)), (.int .i64 (0 : Int)), (.int .i64 (0 : Int)), (.int .i64 (0 : Int)), (.int .i64 (0 : Int)), (.int .i64 (0 : Int)), (.int .i64 (0 : Int)), (.int .i64 (0 : Int)), (.int .i64 (0 : Int)), (.int .i64 (0 : Int)), (.pointer none), (.bool false), (.int .i64 (0 : Int)), (.int .i64 (0 : Int)), (.int .i64 (0 : Int))] 0 2 cs3 fun cs4 =>
  newC w2 (Array.setIfInBounds (Array.setIfInBounds (Array.setIfInBounds cs4 2 (.int .i64 kind_1)) 3 (.int .i64 x_2)) 4 (.int .i64 (1 : Int))) 77 fun a5 w6 =>
  (k (some a5) w6)
def d_pelotonref10_Begin : Dec := fun args w c => unL [.ag, (.i .i64), (.i .i64)] args fun x => pelotonref10_Begin x.1 x.2.1 x.2.2 w fun r w => c (packV (valL [.p] r)) w
theorem s_pelotonref10_Begin : Sound Go.Proofs.Try.prog n_pelotonref10_Begin d_pelotonref10_Begin :=
  sound_of (mask := 78) (h := []) (ds := []) mixed Go.Proofs.Try.func38 trivial
    [.ag, (.i .i64), (.i .i64)] [.p] (by kernel_rfl) (fun x w k => pelotonref10_Begin x.1 x.2.1 x.2.2 w k) (fun x w k => by kernel_rfl)

/-- (*peloton/pelotonref10.Op).broke -/
def pelotonref10_Op_broke (o_0 : Option Addr) (e_1 : Int) (w : World) (k : Unit → World → Prop) : Prop :=
  nn o_0 fun a1 =>
  stC w (Addr.add a1 13) (.int .i64 (6 : Int)) fun w2 =>
  nn o_0 fun a3 =>
  stC w2 (Addr.add a3 15) (.int .i64 e_1) fun w4 =>
  nn o_0 fun a5 =>
  stC w4 (Addr.add a5 14) (.int .i64 (0 : Int)) fun w6 =>
  (k () w6)
def d_pelotonref10_Op_broke : Dec := fun args w c => unL [.p, (.i .i64)] args fun x => pelotonref10_Op_broke x.1 x.2 w fun r w => c (packV (valL [] r)) w
theorem s_pelotonref10_Op_broke : Sound Go.Proofs.Try.prog n_pelotonref10_Op_broke d_pelotonref10_Op_broke :=
  sound_of (mask := 3) (h := []) (ds := []) mixed Go.Proofs.Try.func77 trivial
    [.p, (.i .i64)] [] (by kernel_rfl) (fun x w k => pelotonref10_Op_broke x.1 x.2 w k) (fun x w k => by kernel_rfl)

/-- peloton/pelotonref09.Of -/
def pelotonref09_Of_b (pelotonref09_Right : Array Value → World → ((Bool) → World → Prop) → Prop) (word_0 : Int) (w : World) (k : (Array Value × Int) → World → Prop) : Prop :=
  newC w #[(.int .i64 (0 : Int)), (.int .i64 (0 : Int))] 74 fun a1 w2 =>
  iteB (decide (word_0 < (0 : Int))) (
    stA 2 w2 a1 #[(.int .i64 (0 : Int)), (.int .i64 (0 : Int))] fun w3 =>
    ldA 2 w3 a1 fun cs4 =>
    (k (cs4, (11 : Int)) w3)) (
    newC w2 #[(.int .i64 (0 : Int)), (.int .i64 (0 : Int))] 74 fun a5 w6 =>
    stA 2 w6 a5 #[(.int .i64 (divV .i64 word_0 (16 : Int))), (.int .i64 (remV word_0 (16 : Int)))] fun w7 =>
    ldA 2 w7 a5 fun cs8 =>
    pelotonref09_Right cs8 w7 fun b9 w10 =>
    iteB (!b9) (
      stA 2 w10 a1 #[(.int .i64 (0 : Int)), (.int .i64 (0 : Int))] fun w11 =>
      ldA 2 w11 a1 fun cs12 =>
      (k (cs12, (11 : Int)) w11)) (
      ldA 2 w10 a5 fun cs13 =>
      stA 2 w10 a1 cs13 fun w14 =>
      ldA 2 w14 a1 fun cs15 =>
      (k (cs15, (0 : Int)) w14)))
theorem e_pelotonref09_Of (pelotonref09_Right : Array Value → World → ((Bool) → World → Prop) → Prop) (x : KT [(.i .i64)]) (w : World) (k : KT [.ag, (.i .i64)] → World → Prop) : evFn Go.Proofs.Try.prog (orcOf [(n_pelotonref09_Right, (fun args w c => unL [.ag] args fun x => pelotonref09_Right x w fun r w => c (packV (valL [.b] r)) w))]) 32861 [] Go.Proofs.Try.f81 [.ag, (.i .i64)] (valL [(.i .i64)] x) w k = pelotonref09_Of_b pelotonref09_Right x w k := by kernel_rfl
def pelotonref09_Of (word_0 : Int) (w : World) (k : (Array Value × Int) → World → Prop) : Prop := pelotonref09_Of_b pelotonref09_Right word_0 w k
def d_pelotonref09_Of : Dec := fun args w c => unL [(.i .i64)] args fun x => pelotonref09_Of x w fun r w => c (packV (valL [.ag, (.i .i64)] r)) w
theorem s_pelotonref09_Of : Sound Go.Proofs.Try.prog n_pelotonref09_Of d_pelotonref09_Of :=
  sound_of (mask := 32861) (h := []) (ds := [(n_pelotonref09_Right, d_pelotonref09_Right)]) mixed Go.Proofs.Try.func81 ⟨s_pelotonref09_Right, trivial⟩
    [(.i .i64)] [.ag, (.i .i64)] (by kernel_rfl) (fun x w k => pelotonref09_Of x w k) (fun x w k => e_pelotonref09_Of pelotonref09_Right x w k)

/-- peloton/pelotonref09.Begin -/
def pelotonref09_Begin_b (pelotonref09_Right : Array Value → World → ((Bool) → World → Prop) → Prop) (pelotonref09_Size : Array Value → World → ((Int) → World → Prop) → Prop) (a_0 : Array Value) (b_1 : Array Value) (from_2 : Int) (until_3 : Int) (w : World) (k : (Option Addr × Int) → World → Prop) : Prop :=
  newC w a_0 74 fun a1 w2 =>
  newC w2 b_1 74 fun a3 w4 =>
  joinP (S := Bool) (fun J5 =>
    ldA 2 w4 a1 fun cs6 =>
    pelotonref09_Right cs6 w4 fun b7 w8 =>
    iteB (!b7) (
      (J5 true w8)) (
      ldA 2 w8 a3 fun cs9 =>
      pelotonref09_Right cs9 w8 fun b10 w11 =>
      (J5 (!b10) w11))) fun b12 w13 =>
  iteB b12 (
    (k (none, (1 : Int)) w13)) (
    iteB (decide (until_3 < from_2)) (
      (k (none, (10 : Int)) w13)) (
      joinP (S := Bool) (fun J14 =>
        ldA 2 w13 a1 fun cs15 =>
        pelotonref09_Size cs15 w13 fun i16 w17 =>
        iteB (decide ((IntKind.wrap .u64 ((IntKind.wrap .u64 until_3) - (IntKind.wrap .u64 from_2))) > (IntKind.wrap .u64 i16))) (
          (J14 true w17)) (
          ldA 2 w17 a3 fun cs18 =>
          pelotonref09_Size cs18 w17 fun i19 w20 =>
          (J14 (decide ((IntKind.wrap .u64 ((IntKind.wrap .u64 until_3) - (IntKind.wrap .u64 from_2))) > (IntKind.wrap .u64 i19))) w20))) fun b21 w22 =>
      iteB b21 (
        (k (none, (10 : Int)) w22)) (
        ldA 2 w22 a1 fun cs23 =>
        ldA 2 w22 a3 fun cs24 =>
        spl #[(.int .i64 (0 : Int)), (.int .i64 (0 : Int)), (.int .i64 (0 : Int)), (.int .i64 (0 : Int)), (.int .i64 (0 : Int)), (.int .i64 (0 : Int)), (.bool false), (.int .i64 (0 : Int))] 0 2 cs23 fun cs25 =>
        spl cs25 2 2 cs24 fun cs26 =>
        newC w22 (Array.setIfInBounds (Array.setIfInBounds cs26 4 (.int .i64 from_2)) 5 (.int .i64 until_3)) 171 fun a27 w28 =>
        (k ((some a27), (0 : Int)) w28))))
theorem e_pelotonref09_Begin (pelotonref09_Right : Array Value → World → ((Bool) → World → Prop) → Prop) (pelotonref09_Size : Array Value → World → ((Int) → World → Prop) → Prop) (x : KT [.ag, .ag, (.i .i64), (.i .i64)]) (w : World) (k : KT [.p, (.i .i64)] → World → Prop) : evFn Go.Proofs.Try.prog (orcOf [(n_pelotonref09_Right, (fun args w c => unL [.ag] args fun x => pelotonref09_Right x w fun r w => c (packV (valL [.b] r)) w)), (n_pelotonref09_Size, (fun args w c => unL [.ag] args fun x => pelotonref09_Size x w fun r w => c (packV (valL [(.i .i64)] r)) w))]) 274880268092 [(1, [(18, .b)]), (8, [(38, .b)])] Go.Proofs.Try.f99 [.p, (.i .i64)] (valL [.ag, .ag, (.i .i64), (.i .i64)] x) w k = pelotonref09_Begin_b pelotonref09_Right pelotonref09_Size x.1 x.2.1 x.2.2.1 x.2.2.2 w k := by kernel_rfl
def pelotonref09_Begin (a_0 : Array Value) (b_1 : Array Value) (from_2 : Int) (until_3 : Int) (w : World) (k : (Option Addr × Int) → World → Prop) : Prop := pelotonref09_Begin_b pelotonref09_Right pelotonref09_Size a_0 b_1 from_2 until_3 w k
def d_pelotonref09_Begin : Dec := fun args w c => unL [.ag, .ag, (.i .i64), (.i .i64)] args fun x => pelotonref09_Begin x.1 x.2.1 x.2.2.1 x.2.2.2 w fun r w => c (packV (valL [.p, (.i .i64)] r)) w
theorem s_pelotonref09_Begin : Sound Go.Proofs.Try.prog n_pelotonref09_Begin d_pelotonref09_Begin :=
  sound_of (mask := 274880268092) (h := [(1, [(18, .b)]), (8, [(38, .b)])]) (ds := [(n_pelotonref09_Right, d_pelotonref09_Right), (n_pelotonref09_Size, d_pelotonref09_Size)]) mixed Go.Proofs.Try.func99 ⟨s_pelotonref09_Right, s_pelotonref09_Size, trivial⟩
    [.ag, .ag, (.i .i64), (.i .i64)] [.p, (.i .i64)] (by kernel_rfl) (fun x w k => pelotonref09_Begin x.1 x.2.1 x.2.2.1 x.2.2.2 w k) (fun x w k => e_pelotonref09_Begin pelotonref09_Right pelotonref09_Size x w k)

/-- peloton/pelotonref09.Place -/
def pelotonref09_Place_b (pelotonref09_Right : Array Value → World → ((Bool) → World → Prop) → Prop) (pelotonref09_Size : Array Value → World → ((Int) → World → Prop) → Prop) (r_0 : Array Value) (i_1 : Int) (w : World) (k : (Int) → World → Prop) : Prop :=
  newC w r_0 74 fun a1 w2 =>
  ldA 2 w2 a1 fun cs3 =>
  pelotonref09_Right cs3 w2 fun b4 w5 =>
  iteB (!b4) (
    (k (-(1 : Int)) w5)) (
    ldA 2 w5 a1 fun cs6 =>
    pelotonref09_Size cs6 w5 fun i7 w8 =>
    drew w8 fun w9 =>
    ldI .i64 w9 (Addr.add a1 0) fun i10 =>
    remI i_1 i7 fun i11 =>
    remI (IntKind.wrap .i64 (i11 + i7)) i7 fun i12 =>
    (k (IntKind.wrap .i64 (i10 + i12)) w9))
theorem e_pelotonref09_Place (pelotonref09_Right : Array Value → World → ((Bool) → World → Prop) → Prop) (pelotonref09_Size : Array Value → World → ((Int) → World → Prop) → Prop) (x : KT [.ag, (.i .i64)]) (w : World) (k : KT [(.i .i64)] → World → Prop) : evFn Go.Proofs.Try.prog (orcOf [(n_pelotonref09_Right, (fun args w c => unL [.ag] args fun x => pelotonref09_Right x w fun r w => c (packV (valL [.b] r)) w)), (n_pelotonref09_Size, (fun args w c => unL [.ag] args fun x => pelotonref09_Size x w fun r w => c (packV (valL [(.i .i64)] r)) w))]) 310 [] Go.Proofs.Try.f82 [(.i .i64)] (valL [.ag, (.i .i64)] x) w k = pelotonref09_Place_b pelotonref09_Right pelotonref09_Size x.1 x.2 w k := by kernel_rfl
def pelotonref09_Place (r_0 : Array Value) (i_1 : Int) (w : World) (k : (Int) → World → Prop) : Prop := pelotonref09_Place_b pelotonref09_Right pelotonref09_Size r_0 i_1 w k
def d_pelotonref09_Place : Dec := fun args w c => unL [.ag, (.i .i64)] args fun x => pelotonref09_Place x.1 x.2 w fun r w => c (packV (valL [(.i .i64)] r)) w
theorem s_pelotonref09_Place : Sound Go.Proofs.Try.prog n_pelotonref09_Place d_pelotonref09_Place :=
  sound_of (mask := 310) (h := []) (ds := [(n_pelotonref09_Right, d_pelotonref09_Right), (n_pelotonref09_Size, d_pelotonref09_Size)]) mixed Go.Proofs.Try.func82 ⟨s_pelotonref09_Right, s_pelotonref09_Size, trivial⟩
    [.ag, (.i .i64)] [(.i .i64)] (by kernel_rfl) (fun x w k => pelotonref09_Place x.1 x.2 w k) (fun x w k => e_pelotonref09_Place pelotonref09_Right pelotonref09_Size x w k)

/-- (*peloton/pelotonref09.Copy).Step -/
def pelotonref09_Copy_Step_b (pelotonref09_Place : Array Value → Int → World → ((Int) → World → Prop) → Prop) (c_0 : Option Addr) (cells_1 : Sl) (w_2 : Int) (most_3 : Int) (w : World) (k : (Bool × Bool × Int) → World → Prop) : Prop :=
  drew w fun w1 =>
  nn c_0 fun a2 =>
  ldI .i64 w1 (Addr.add a2 4) fun i3 =>
  nn c_0 fun a4 =>
  ldI .i64 w1 (Addr.add a4 5) fun i5 =>
  iteB (i3 == i5) (
    (k (true, (false, (0 : Int))) w1)) (
    drew w1 fun w6 =>
    nn c_0 fun a7 =>
    ldA 2 w6 (Addr.add a7 0) fun cs8 =>
    nn c_0 fun a9 =>
    ldI .i64 w6 (Addr.add a9 4) fun i10 =>
    pelotonref09_Place cs8 i10 w6 fun i11 w12 =>
    nn c_0 fun a13 =>
    ldB w12 (Addr.add a13 6) fun b14 =>
    joinP (S := Int) (fun J15 =>
      iteB b14 (
        drew w12 fun w16 =>
        nn c_0 fun a17 =>
        ldA 2 w16 (Addr.add a17 2) fun cs18 =>
        nn c_0 fun a19 =>
        ldI .i64 w16 (Addr.add a19 4) fun i20 =>
        pelotonref09_Place cs18 i20 w16 fun i21 w22 =>
        (J15 i21 w22)) (
        (J15 i11 w12))) fun i23 w24 =>
    iteB (((decide (w_2 < (0 : Int))) || (decide (w_2 > most_3))) || (decide (i23 ≥ ((cells_1.n : Nat) : Int)))) (
      (k (false, (false, (10 : Int))) w24)) (
      nn c_0 fun a25 =>
      ldB w24 (Addr.add a25 6) fun b26 =>
      iteB (!b26) (
        ixS cells_1 i23 1 fun a27 =>
        ldI .i64 w24 a27 fun i28 =>
        nn c_0 fun a29 =>
        stC w24 (Addr.add a29 7) (.int .i64 i28) fun w30 =>
        nn c_0 fun a31 =>
        stC w30 (Addr.add a31 6) (.bool true) fun w32 =>
        (k (false, (true, (0 : Int))) w32)) (
        nn c_0 fun a33 =>
        ldI .i64 w24 (Addr.add a33 7) fun i34 =>
        ixS cells_1 i23 1 fun a35 =>
        stC w24 a35 (.int .i64 i34) fun w36 =>
        nn c_0 fun a37 =>
        stC w36 (Addr.add a37 6) (.bool false) fun w38 =>
        nn c_0 fun a39 =>
        ldI .i64 w38 (Addr.add a39 4) fun i40 =>
        nn c_0 fun a41 =>
        stC w38 (Addr.add a41 4) (.int .i64 (IntKind.wrap .i64 (i40 + (1 : Int)))) fun w42 =>
        drew w42 fun w43 =>
        nn c_0 fun a44 =>
        ldI .i64 w43 (Addr.add a44 4) fun i45 =>
        nn c_0 fun a46 =>
        ldI .i64 w43 (Addr.add a46 5) fun i47 =>
        (k ((i45 == i47), (true, (0 : Int))) w43))))
theorem e_pelotonref09_Copy_Step (pelotonref09_Place : Array Value → Int → World → ((Int) → World → Prop) → Prop) (x : KT [.p, .s, (.i .i64), (.i .i64)]) (w : World) (k : KT [.b, .b, (.i .i64)] → World → Prop) : evFn Go.Proofs.Try.prog (orcOf [(n_pelotonref09_Place, (fun args w c => unL [.ag, (.i .i64)] args fun x => pelotonref09_Place x.1 x.2 w fun r w => c (packV (valL [(.i .i64)] r)) w))]) 1188950310216797967 [(6, [(11, (.i .i64))])] Go.Proofs.Try.f100 [.b, .b, (.i .i64)] (valL [.p, .s, (.i .i64), (.i .i64)] x) w k = pelotonref09_Copy_Step_b pelotonref09_Place x.1 x.2.1 x.2.2.1 x.2.2.2 w k := by kernel_rfl
def pelotonref09_Copy_Step (c_0 : Option Addr) (cells_1 : Sl) (w_2 : Int) (most_3 : Int) (w : World) (k : (Bool × Bool × Int) → World → Prop) : Prop := pelotonref09_Copy_Step_b pelotonref09_Place c_0 cells_1 w_2 most_3 w k
def d_pelotonref09_Copy_Step : Dec := fun args w c => unL [.p, .s, (.i .i64), (.i .i64)] args fun x => pelotonref09_Copy_Step x.1 x.2.1 x.2.2.1 x.2.2.2 w fun r w => c (packV (valL [.b, .b, (.i .i64)] r)) w
theorem s_pelotonref09_Copy_Step : Sound Go.Proofs.Try.prog n_pelotonref09_Copy_Step d_pelotonref09_Copy_Step :=
  sound_of (mask := 1188950310216797967) (h := [(6, [(11, (.i .i64))])]) (ds := [(n_pelotonref09_Place, d_pelotonref09_Place)]) mixed Go.Proofs.Try.func100 ⟨s_pelotonref09_Place, trivial⟩
    [.p, .s, (.i .i64), (.i .i64)] [.b, .b, (.i .i64)] (by kernel_rfl) (fun x w k => pelotonref09_Copy_Step x.1 x.2.1 x.2.2.1 x.2.2.2 w k) (fun x w k => e_pelotonref09_Copy_Step pelotonref09_Place x w k)

/-- peloton/pelotonref09.Word -/
def pelotonref09_Word_b (pelotonref09_Right : Array Value → World → ((Bool) → World → Prop) → Prop) (r_0 : Array Value) (w : World) (k : (Int) → World → Prop) : Prop :=
  newC w r_0 74 fun a1 w2 =>
  ldA 2 w2 a1 fun cs3 =>
  pelotonref09_Right cs3 w2 fun b4 w5 =>
  iteB (!b4) (
    (k (-(1 : Int)) w5)) (
    ldI .i64 w5 (Addr.add a1 0) fun i6 =>
    ldI .i64 w5 (Addr.add a1 1) fun i7 =>
    (k (IntKind.wrap .i64 ((IntKind.wrap .i64 ((16 : Int) * i6)) + i7)) w5))
theorem e_pelotonref09_Word (pelotonref09_Right : Array Value → World → ((Bool) → World → Prop) → Prop) (x : KT [.ag]) (w : World) (k : KT [(.i .i64)] → World → Prop) : evFn Go.Proofs.Try.prog (orcOf [(n_pelotonref09_Right, (fun args w c => unL [.ag] args fun x => pelotonref09_Right x w fun r w => c (packV (valL [.b] r)) w))]) 38 [] Go.Proofs.Try.f101 [(.i .i64)] (valL [.ag] x) w k = pelotonref09_Word_b pelotonref09_Right x w k := by kernel_rfl
def pelotonref09_Word (r_0 : Array Value) (w : World) (k : (Int) → World → Prop) : Prop := pelotonref09_Word_b pelotonref09_Right r_0 w k
def d_pelotonref09_Word : Dec := fun args w c => unL [.ag] args fun x => pelotonref09_Word x w fun r w => c (packV (valL [(.i .i64)] r)) w
theorem s_pelotonref09_Word : Sound Go.Proofs.Try.prog n_pelotonref09_Word d_pelotonref09_Word :=
  sound_of (mask := 38) (h := []) (ds := [(n_pelotonref09_Right, d_pelotonref09_Right)]) mixed Go.Proofs.Try.func101 ⟨s_pelotonref09_Right, trivial⟩
    [.ag] [(.i .i64)] (by kernel_rfl) (fun x w k => pelotonref09_Word x w k) (fun x w k => e_pelotonref09_Word pelotonref09_Right x w k)

/-- (*peloton/pelotonref10.Op).push -/
def pelotonref10_Op_push_b (pelotonref09_Of : Int → World → ((Array Value × Int) → World → Prop) → Prop) (pelotonref09_Size : Array Value → World → ((Int) → World → Prop) → Prop) (pelotonref10_Op_broke : Option Addr → Int → World → (Unit → World → Prop) → Prop) (pelotonref09_Begin : Array Value → Array Value → Int → Int → World → ((Option Addr × Int) → World → Prop) → Prop) (pelotonref09_Copy_Step : Option Addr → Sl → Int → Int → World → ((Bool × Bool × Int) → World → Prop) → Prop) (pelotonref09_Word : Array Value → World → ((Int) → World → Prop) → Prop) (pelotonref09_Place : Array Value → Int → World → ((Int) → World → Prop) → Prop) (o_0 : Option Addr) (c_1 : Option Addr) (w : World) (k : Unit → World → Prop) : Prop :=
  nn o_0 fun a1 =>
  ldI .i64 w (Addr.add (Addr.add a1 0) 0) fun i2 =>
  nn o_0 fun a3 =>
  ldI .i64 w (Addr.add a3 4) fun i4 =>
  iteB (i4 == (1 : Int)) (
    nn c_1 fun a5 =>
    ldS w (Addr.add a5 0) fun s6 =>
    ixS s6 (IntKind.wrap .i64 (i2 + (1 : Int))) 1 fun a7 =>
    ldI .i64 w a7 fun i8 =>
    nn o_0 fun a9 =>
    stC w (Addr.add a9 5) (.int .i64 i8) fun w10 =>
    nn o_0 fun a11 =>
    stC w10 (Addr.add a11 4) (.int .i64 (2 : Int)) fun w12 =>
    (k () w12)) (
    iteB (i4 == (2 : Int)) (
      nn c_1 fun a13 =>
      ldS w (Addr.add a13 0) fun s14 =>
      ixS s14 i2 1 fun a15 =>
      ldI .i64 w a15 fun i16 =>
      nn o_0 fun a17 =>
      stC w (Addr.add a17 6) (.int .i64 i16) fun w18 =>
      nn o_0 fun a19 =>
      stC w18 (Addr.add a19 4) (.int .i64 (3 : Int)) fun w20 =>
      (k () w20)) (
      iteB (i4 == (3 : Int)) (
        nn c_1 fun a21 =>
        ldS w (Addr.add a21 0) fun s22 =>
        ixS s22 (IntKind.wrap .i64 (i2 + (2 : Int))) 1 fun a23 =>
        ldI .i64 w a23 fun i24 =>
        pelotonref09_Of i24 w fun x25 w26 =>
        nn o_0 fun a27 =>
        stA 2 w26 (Addr.add a27 7) (x25.1, x25.2).1 fun w28 =>
        nn o_0 fun a29 =>
        stC w28 (Addr.add a29 4) (.int .i64 (4 : Int)) fun w30 =>
        drew w30 fun w31 =>
        nn o_0 fun a32 =>
        ldI .i64 w31 (Addr.add a32 5) fun i33 =>
        nn o_0 fun a34 =>
        ldI .i64 w31 (Addr.add a34 6) fun i35 =>
        nn o_0 fun a36 =>
        ldA 2 w31 (Addr.add a36 7) fun cs37 =>
        pelotonref09_Size cs37 w31 fun i38 w39 =>
        samec 1 (Addr.add a34 6) w31 w39 (
        samec 1 (Addr.add a32 5) w31 w39 (
        iteB (decide ((IntKind.wrap .i64 (i33 - i35)) < i38)) (
          nn o_0 fun a40 =>
          stC w39 (Addr.add a40 4) (.int .i64 (7 : Int)) fun w41 =>
          (k () w41)) (
          drew w39 fun w42 =>
          nn o_0 fun a43 =>
          ldI .i64 w42 (Addr.add (Addr.add a43 7) 1) fun i44 =>
          nn o_0 fun a45 =>
          ldI .i64 w42 (Addr.add (Addr.add a45 0) 1) fun i46 =>
          iteB (decide (i44 ≥ i46)) (
            nn o_0 fun a47 =>
            stC w42 (Addr.add a47 13) (.int .i64 (4 : Int)) fun w48 =>
            (k () w48)) (
            (k () w42)))))) (
        iteB (i4 == (4 : Int)) (
          nn o_0 fun a49 =>
          ldA 2 w (Addr.add a49 7) fun cs50 =>
          pelotonref09_Size cs50 w fun i51 w52 =>
          drew w52 fun w53 =>
          nn c_1 fun a54 =>
          ldI .i64 w53 (Addr.add a54 1) fun i55 =>
          nn c_1 fun a56 =>
          ldS w53 (Addr.add a56 0) fun s57 =>
          iteB (decide ((IntKind.wrap .i64 ((2 : Int) * i51)) > (IntKind.wrap .i64 (i55 - ((s57.n : Nat) : Int))))) (
            nn c_1 fun a58 =>
            ldI .i64 w53 (Addr.add a58 2) fun i59 =>
            nn c_1 fun a60 =>
            stC w53 (Addr.add a60 2) (.int .i64 (IntKind.wrap .i64 (i59 - (1 : Int)))) fun w61 =>
            pelotonref10_Op_broke o_0 (21 : Int) w61 fun _u w62 =>
            (k () w62)) (
            drew w53 fun w63 =>
            nn c_1 fun a64 =>
            ldS w63 (Addr.add a64 0) fun s65 =>
            nn o_0 fun a66 =>
            ldI .i64 w63 (Addr.add (Addr.add a66 7) 1) fun i67 =>
            nn o_0 fun a68 =>
            stA 2 w63 (Addr.add a68 9) #[(.int .i64 ((s65.n : Nat) : Int)), (.int .i64 (IntKind.wrap .i64 (i67 + (1 : Int))))] fun w69 =>
            joinP (S := Unit) (fun J70 =>
              loopP (S := Int) (fun C71 i72 w73 =>
                iteB (decide (i72 < (IntKind.wrap .i64 ((2 : Int) * i51)))) (
                  nn c_1 fun a74 =>
                  ldS w73 (Addr.add a74 0) fun s75 =>
                  newC w73 #[(.int .i64 (0 : Int))] 2 fun a76 w77 =>
                  bApp Go.Proofs.Try.prog #[23, 23] 23 [(.slice s75.a s75.n s75.c), (.slice (some a76) 1 1)] w77 fun s78 w79 =>
                  nn c_1 fun a80 =>
                  stC w79 (Addr.add a80 0) (.slice s78.a s78.n s78.c) fun w81 =>
                  (C71 (IntKind.wrap .i64 (i72 + (1 : Int))) w81)) (
                  (J70 () w73))) (0 : Int) w69) fun u82 w83 =>
            drew w83 fun w84 =>
            nn o_0 fun a85 =>
            ldA 2 w84 (Addr.add a85 7) fun cs86 =>
            nn o_0 fun a87 =>
            ldA 2 w84 (Addr.add a87 9) fun cs88 =>
            nn o_0 fun a89 =>
            ldI .i64 w84 (Addr.add a89 6) fun i90 =>
            nn o_0 fun a91 =>
            ldI .i64 w84 (Addr.add a91 5) fun i92 =>
            pelotonref09_Begin cs86 cs88 i90 i92 w84 fun x93 w94 =>
            nn o_0 fun a95 =>
            stC w94 (Addr.add a95 11) (.pointer (x93.1, x93.2).1) fun w96 =>
            nn o_0 fun a97 =>
            stC w96 (Addr.add a97 4) (.int .i64 (5 : Int)) fun w98 =>
            (k () w98))) (
          iteB (i4 == (5 : Int)) (
            drew w fun w99 =>
            nn o_0 fun a100 =>
            ldP w99 (Addr.add a100 11) fun p101 =>
            nn c_1 fun a102 =>
            ldS w99 (Addr.add a102 0) fun s103 =>
            pelotonref09_Copy_Step p101 s103 (0 : Int) (0 : Int) w99 fun x104 w105 =>
            iteB (x104.1, (x104.2.1, x104.2.2)).1 (
              nn o_0 fun a106 =>
              stC w105 (Addr.add a106 4) (.int .i64 (6 : Int)) fun w107 =>
              (k () w107)) (
              (k () w105))) (
            iteB (i4 == (6 : Int)) (
              drew w fun w108 =>
              nn c_1 fun a109 =>
              ldS w108 (Addr.add a109 0) fun s110 =>
              nn o_0 fun a111 =>
              ldA 2 w108 (Addr.add a111 9) fun cs112 =>
              pelotonref09_Word cs112 w108 fun i113 w114 =>
              samec 1 (Addr.add a109 0) w108 w114 (
              ixS s110 (IntKind.wrap .i64 (i2 + (2 : Int))) 1 fun a115 =>
              stC w114 a115 (.int .i64 i113) fun w116 =>
              nn o_0 fun a117 =>
              ldA 2 w116 (Addr.add a117 9) fun cs118 =>
              nn o_0 fun a119 =>
              stA 2 w116 (Addr.add a119 7) cs118 fun w120 =>
              nn o_0 fun a121 =>
              stC w120 (Addr.add a121 4) (.int .i64 (7 : Int)) fun w122 =>
              (k () w122))) (
              iteB (i4 == (7 : Int)) (
                drew w fun w123 =>
                nn c_1 fun a124 =>
                ldS w123 (Addr.add a124 0) fun s125 =>
                nn o_0 fun a126 =>
                ldA 2 w123 (Addr.add a126 7) fun cs127 =>
                nn o_0 fun a128 =>
                ldI .i64 w123 (Addr.add a128 5) fun i129 =>
                nn o_0 fun a130 =>
                ldI .i64 w123 (Addr.add a130 3) fun i131 =>
                pelotonref09_Place cs127 i129 w123 fun i132 w133 =>
                samec 1 (Addr.add a130 3) w123 w133 (
                samec 1 (Addr.add a124 0) w123 w133 (
                ixS s125 i132 1 fun a134 =>
                stC w133 a134 (.int .i64 i131) fun w135 =>
                nn o_0 fun a136 =>
                stC w135 (Addr.add a136 4) (.int .i64 (8 : Int)) fun w137 =>
                (k () w137)))) (
                iteB (i4 == (8 : Int)) (
                  drew w fun w138 =>
                  nn c_1 fun a139 =>
                  ldS w138 (Addr.add a139 0) fun s140 =>
                  nn o_0 fun a141 =>
                  ldI .i64 w138 (Addr.add a141 5) fun i142 =>
                  ixS s140 (IntKind.wrap .i64 (i2 + (1 : Int))) 1 fun a143 =>
                  stC w138 a143 (.int .i64 (IntKind.wrap .i64 (i142 + (1 : Int)))) fun w144 =>
                  nn o_0 fun a145 =>
                  stC w144 (Addr.add a145 13) (.int .i64 (1 : Int)) fun w146 =>
                  (k () w146)) (
                  (k () w)))))))))
theorem e_pelotonref10_Op_push (pelotonref09_Of : Int → World → ((Array Value × Int) → World → Prop) → Prop) (pelotonref09_Size : Array Value → World → ((Int) → World → Prop) → Prop) (pelotonref10_Op_broke : Option Addr → Int → World → (Unit → World → Prop) → Prop) (pelotonref09_Begin : Array Value → Array Value → Int → Int → World → ((Option Addr × Int) → World → Prop) → Prop) (pelotonref09_Copy_Step : Option Addr → Sl → Int → Int → World → ((Bool × Bool × Int) → World → Prop) → Prop) (pelotonref09_Word : Array Value → World → ((Int) → World → Prop) → Prop) (pelotonref09_Place : Array Value → Int → World → ((Int) → World → Prop) → Prop) (x : KT [.p, .p]) (w : World) (k : KT [] → World → Prop) : evFn Go.Proofs.Try.prog (orcOf [(n_pelotonref09_Of, (fun args w c => unL [(.i .i64)] args fun x => pelotonref09_Of x w fun r w => c (packV (valL [.ag, (.i .i64)] r)) w)), (n_pelotonref09_Size, (fun args w c => unL [.ag] args fun x => pelotonref09_Size x w fun r w => c (packV (valL [(.i .i64)] r)) w)), (n_pelotonref10_Op_broke, (fun args w c => unL [.p, (.i .i64)] args fun x => pelotonref10_Op_broke x.1 x.2 w fun r w => c (packV (valL [] r)) w)), (n_pelotonref09_Begin, (fun args w c => unL [.ag, .ag, (.i .i64), (.i .i64)] args fun x => pelotonref09_Begin x.1 x.2.1 x.2.2.1 x.2.2.2 w fun r w => c (packV (valL [.p, (.i .i64)] r)) w)), (n_pelotonref09_Copy_Step, (fun args w c => unL [.p, .s, (.i .i64), (.i .i64)] args fun x => pelotonref09_Copy_Step x.1 x.2.1 x.2.2.1 x.2.2.2 w fun r w => c (packV (valL [.b, .b, (.i .i64)] r)) w)), (n_pelotonref09_Word, (fun args w c => unL [.ag] args fun x => pelotonref09_Word x w fun r w => c (packV (valL [(.i .i64)] r)) w)), (n_pelotonref09_Place, (fun args w c => unL [.ag, (.i .i64)] args fun x => pelotonref09_Place x.1 x.2 w fun r w => c (packV (valL [(.i .i64)] r)) w))]) 14474012880101220397570489025345238302056270255834158001349234907223302078707 [(30, []), (31, [(6, (.i .i64))])] Go.Proofs.Try.f78 [] (valL [.p, .p] x) w k = pelotonref10_Op_push_b pelotonref09_Of pelotonref09_Size pelotonref10_Op_broke pelotonref09_Begin pelotonref09_Copy_Step pelotonref09_Word pelotonref09_Place x.1 x.2 w k := by kernel_rfl
def pelotonref10_Op_push (o_0 : Option Addr) (c_1 : Option Addr) (w : World) (k : Unit → World → Prop) : Prop := pelotonref10_Op_push_b pelotonref09_Of pelotonref09_Size pelotonref10_Op_broke pelotonref09_Begin pelotonref09_Copy_Step pelotonref09_Word pelotonref09_Place o_0 c_1 w k
def d_pelotonref10_Op_push : Dec := fun args w c => unL [.p, .p] args fun x => pelotonref10_Op_push x.1 x.2 w fun r w => c (packV (valL [] r)) w
theorem s_pelotonref10_Op_push : Sound Go.Proofs.Try.prog n_pelotonref10_Op_push d_pelotonref10_Op_push :=
  sound_of (mask := 14474012880101220397570489025345238302056270255834158001349234907223302078707) (h := [(30, []), (31, [(6, (.i .i64))])]) (ds := [(n_pelotonref09_Of, d_pelotonref09_Of), (n_pelotonref09_Size, d_pelotonref09_Size), (n_pelotonref10_Op_broke, d_pelotonref10_Op_broke), (n_pelotonref09_Begin, d_pelotonref09_Begin), (n_pelotonref09_Copy_Step, d_pelotonref09_Copy_Step), (n_pelotonref09_Word, d_pelotonref09_Word), (n_pelotonref09_Place, d_pelotonref09_Place)]) mixed Go.Proofs.Try.func78 ⟨s_pelotonref09_Of, s_pelotonref09_Size, s_pelotonref10_Op_broke, s_pelotonref09_Begin, s_pelotonref09_Copy_Step, s_pelotonref09_Word, s_pelotonref09_Place, trivial⟩
    [.p, .p] [] (by kernel_rfl) (fun x w k => pelotonref10_Op_push x.1 x.2 w k) (fun x w k => e_pelotonref10_Op_push pelotonref09_Of pelotonref09_Size pelotonref10_Op_broke pelotonref09_Begin pelotonref09_Copy_Step pelotonref09_Word pelotonref09_Place x w k)

/-- (*peloton/pelotonref10.Op).pop -/
def pelotonref10_Op_pop_b (pelotonref09_Of : Int → World → ((Array Value × Int) → World → Prop) → Prop) (pelotonref09_Place : Array Value → Int → World → ((Int) → World → Prop) → Prop) (o_0 : Option Addr) (c_1 : Option Addr) (w : World) (k : Unit → World → Prop) : Prop :=
  nn o_0 fun a1 =>
  ldI .i64 w (Addr.add (Addr.add a1 0) 0) fun i2 =>
  nn o_0 fun a3 =>
  ldI .i64 w (Addr.add a3 4) fun i4 =>
  iteB (i4 == (1 : Int)) (
    nn c_1 fun a5 =>
    ldS w (Addr.add a5 0) fun s6 =>
    ixS s6 (IntKind.wrap .i64 (i2 + (1 : Int))) 1 fun a7 =>
    ldI .i64 w a7 fun i8 =>
    nn o_0 fun a9 =>
    stC w (Addr.add a9 5) (.int .i64 i8) fun w10 =>
    nn o_0 fun a11 =>
    stC w10 (Addr.add a11 4) (.int .i64 (2 : Int)) fun w12 =>
    (k () w12)) (
    iteB (i4 == (2 : Int)) (
      nn c_1 fun a13 =>
      ldS w (Addr.add a13 0) fun s14 =>
      ixS s14 (IntKind.wrap .i64 (i2 + (2 : Int))) 1 fun a15 =>
      ldI .i64 w a15 fun i16 =>
      pelotonref09_Of i16 w fun x17 w18 =>
      nn o_0 fun a19 =>
      stA 2 w18 (Addr.add a19 7) (x17.1, x17.2).1 fun w20 =>
      nn o_0 fun a21 =>
      stC w20 (Addr.add a21 4) (.int .i64 (3 : Int)) fun w22 =>
      (k () w22)) (
      iteB (i4 == (3 : Int)) (
        drew w fun w23 =>
        nn c_1 fun a24 =>
        ldS w23 (Addr.add a24 0) fun s25 =>
        nn o_0 fun a26 =>
        ldI .i64 w23 (Addr.add a26 5) fun i27 =>
        ixS s25 (IntKind.wrap .i64 (i2 + (1 : Int))) 1 fun a28 =>
        stC w23 a28 (.int .i64 (IntKind.wrap .i64 (i27 - (1 : Int)))) fun w29 =>
        nn o_0 fun a30 =>
        stC w29 (Addr.add a30 4) (.int .i64 (4 : Int)) fun w31 =>
        (k () w31)) (
        iteB (i4 == (4 : Int)) (
          nn c_1 fun a32 =>
          ldS w (Addr.add a32 0) fun s33 =>
          ixS s33 i2 1 fun a34 =>
          ldI .i64 w a34 fun i35 =>
          nn o_0 fun a36 =>
          stC w (Addr.add a36 6) (.int .i64 i35) fun w37 =>
          nn o_0 fun a38 =>
          stC w37 (Addr.add a38 4) (.int .i64 (6 : Int)) fun w39 =>
          drew w39 fun w40 =>
          nn o_0 fun a41 =>
          ldI .i64 w40 (Addr.add a41 6) fun i42 =>
          nn o_0 fun a43 =>
          ldI .i64 w40 (Addr.add a43 5) fun i44 =>
          iteB (decide (i42 > (IntKind.wrap .i64 (i44 - (1 : Int))))) (
            nn o_0 fun a45 =>
            stC w40 (Addr.add a45 4) (.int .i64 (5 : Int)) fun w46 =>
            (k () w46)) (
            (k () w40))) (
          iteB (i4 == (5 : Int)) (
            drew w fun w47 =>
            nn c_1 fun a48 =>
            ldS w47 (Addr.add a48 0) fun s49 =>
            nn o_0 fun a50 =>
            ldI .i64 w47 (Addr.add a50 5) fun i51 =>
            ixS s49 (IntKind.wrap .i64 (i2 + (1 : Int))) 1 fun a52 =>
            stC w47 a52 (.int .i64 i51) fun w53 =>
            nn o_0 fun a54 =>
            stC w53 (Addr.add a54 13) (.int .i64 (3 : Int)) fun w55 =>
            (k () w55)) (
            iteB (i4 == (6 : Int)) (
              drew w fun w56 =>
              nn c_1 fun a57 =>
              ldS w56 (Addr.add a57 0) fun s58 =>
              nn o_0 fun a59 =>
              ldA 2 w56 (Addr.add a59 7) fun cs60 =>
              nn o_0 fun a61 =>
              ldI .i64 w56 (Addr.add a61 5) fun i62 =>
              pelotonref09_Place cs60 (IntKind.wrap .i64 (i62 - (1 : Int))) w56 fun i63 w64 =>
              samec 1 (Addr.add a57 0) w56 w64 (
              ixS s58 i63 1 fun a65 =>
              ldI .i64 w64 a65 fun i66 =>
              nn o_0 fun a67 =>
              stC w64 (Addr.add a67 3) (.int .i64 i66) fun w68 =>
              nn o_0 fun a69 =>
              stC w68 (Addr.add a69 4) (.int .i64 (7 : Int)) fun w70 =>
              drew w70 fun w71 =>
              nn o_0 fun a72 =>
              ldI .i64 w71 (Addr.add a72 6) fun i73 =>
              nn o_0 fun a74 =>
              ldI .i64 w71 (Addr.add a74 5) fun i75 =>
              iteB (decide (i73 < (IntKind.wrap .i64 (i75 - (1 : Int))))) (
                nn o_0 fun a76 =>
                stC w71 (Addr.add a76 13) (.int .i64 (1 : Int)) fun w77 =>
                nn o_0 fun a78 =>
                ldI .i64 w77 (Addr.add a78 3) fun i79 =>
                nn o_0 fun a80 =>
                stC w77 (Addr.add a80 14) (.int .i64 i79) fun w81 =>
                (k () w81)) (
                (k () w71)))) (
              iteB (i4 == (7 : Int)) (
                drew w fun w82 =>
                nn c_1 fun a83 =>
                ldS w82 (Addr.add a83 0) fun s84 =>
                ixS s84 i2 1 fun a85 =>
                ldI .i64 w82 a85 fun i86 =>
                nn o_0 fun a87 =>
                ldI .i64 w82 (Addr.add a87 6) fun i88 =>
                iteB (i86 == i88) (
                  drew w82 fun w89 =>
                  nn c_1 fun a90 =>
                  ldS w89 (Addr.add a90 0) fun s91 =>
                  nn o_0 fun a92 =>
                  ldI .i64 w89 (Addr.add a92 6) fun i93 =>
                  ixS s91 i2 1 fun a94 =>
                  stC w89 a94 (.int .i64 (IntKind.wrap .i64 (i93 + (1 : Int)))) fun w95 =>
                  nn o_0 fun a96 =>
                  stC w95 (Addr.add a96 12) (.bool true) fun w97 =>
                  nn o_0 fun a98 =>
                  stC w97 (Addr.add a98 4) (.int .i64 (8 : Int)) fun w99 =>
                  (k () w99)) (
                  nn o_0 fun a100 =>
                  stC w82 (Addr.add a100 4) (.int .i64 (8 : Int)) fun w101 =>
                  (k () w101))) (
                iteB (i4 == (8 : Int)) (
                  drew w fun w102 =>
                  nn c_1 fun a103 =>
                  ldS w102 (Addr.add a103 0) fun s104 =>
                  nn o_0 fun a105 =>
                  ldI .i64 w102 (Addr.add a105 5) fun i106 =>
                  ixS s104 (IntKind.wrap .i64 (i2 + (1 : Int))) 1 fun a107 =>
                  stC w102 a107 (.int .i64 i106) fun w108 =>
                  nn o_0 fun a109 =>
                  stC w108 (Addr.add a109 13) (.int .i64 (3 : Int)) fun w110 =>
                  nn o_0 fun a111 =>
                  ldB w110 (Addr.add a111 12) fun b112 =>
                  iteB b112 (
                    nn o_0 fun a113 =>
                    stC w110 (Addr.add a113 13) (.int .i64 (1 : Int)) fun w114 =>
                    nn o_0 fun a115 =>
                    ldI .i64 w114 (Addr.add a115 3) fun i116 =>
                    nn o_0 fun a117 =>
                    stC w114 (Addr.add a117 14) (.int .i64 i116) fun w118 =>
                    (k () w118)) (
                    (k () w110))) (
                  (k () w)))))))))
theorem e_pelotonref10_Op_pop (pelotonref09_Of : Int → World → ((Array Value × Int) → World → Prop) → Prop) (pelotonref09_Place : Array Value → Int → World → ((Int) → World → Prop) → Prop) (x : KT [.p, .p]) (w : World) (k : KT [] → World → Prop) : evFn Go.Proofs.Try.prog (orcOf [(n_pelotonref09_Of, (fun args w c => unL [(.i .i64)] args fun x => pelotonref09_Of x w fun r w => c (packV (valL [.ag, (.i .i64)] r)) w)), (n_pelotonref09_Place, (fun args w c => unL [.ag, (.i .i64)] args fun x => pelotonref09_Place x.1 x.2 w fun r w => c (packV (valL [(.i .i64)] r)) w))]) 51422115496376494347613344828030091743589253602150920356913171 [] Go.Proofs.Try.f79 [] (valL [.p, .p] x) w k = pelotonref10_Op_pop_b pelotonref09_Of pelotonref09_Place x.1 x.2 w k := by kernel_rfl
def pelotonref10_Op_pop (o_0 : Option Addr) (c_1 : Option Addr) (w : World) (k : Unit → World → Prop) : Prop := pelotonref10_Op_pop_b pelotonref09_Of pelotonref09_Place o_0 c_1 w k
def d_pelotonref10_Op_pop : Dec := fun args w c => unL [.p, .p] args fun x => pelotonref10_Op_pop x.1 x.2 w fun r w => c (packV (valL [] r)) w
theorem s_pelotonref10_Op_pop : Sound Go.Proofs.Try.prog n_pelotonref10_Op_pop d_pelotonref10_Op_pop :=
  sound_of (mask := 51422115496376494347613344828030091743589253602150920356913171) (h := []) (ds := [(n_pelotonref09_Of, d_pelotonref09_Of), (n_pelotonref09_Place, d_pelotonref09_Place)]) mixed Go.Proofs.Try.func79 ⟨s_pelotonref09_Of, s_pelotonref09_Place, trivial⟩
    [.p, .p] [] (by kernel_rfl) (fun x w k => pelotonref10_Op_pop x.1 x.2 w k) (fun x w k => e_pelotonref10_Op_pop pelotonref09_Of pelotonref09_Place x w k)

/-- (*peloton/pelotonref10.Op).steal -/
def pelotonref10_Op_steal_b (pelotonref09_Of : Int → World → ((Array Value × Int) → World → Prop) → Prop) (pelotonref09_Place : Array Value → Int → World → ((Int) → World → Prop) → Prop) (o_0 : Option Addr) (c_1 : Option Addr) (w : World) (k : Unit → World → Prop) : Prop :=
  nn o_0 fun a1 =>
  ldI .i64 w (Addr.add (Addr.add a1 0) 0) fun i2 =>
  nn o_0 fun a3 =>
  ldI .i64 w (Addr.add a3 4) fun i4 =>
  iteB (i4 == (1 : Int)) (
    nn c_1 fun a5 =>
    ldS w (Addr.add a5 0) fun s6 =>
    ixS s6 i2 1 fun a7 =>
    ldI .i64 w a7 fun i8 =>
    nn o_0 fun a9 =>
    stC w (Addr.add a9 6) (.int .i64 i8) fun w10 =>
    nn o_0 fun a11 =>
    stC w10 (Addr.add a11 4) (.int .i64 (2 : Int)) fun w12 =>
    (k () w12)) (
    iteB (i4 == (2 : Int)) (
      nn c_1 fun a13 =>
      ldS w (Addr.add a13 0) fun s14 =>
      ixS s14 (IntKind.wrap .i64 (i2 + (1 : Int))) 1 fun a15 =>
      ldI .i64 w a15 fun i16 =>
      nn o_0 fun a17 =>
      stC w (Addr.add a17 5) (.int .i64 i16) fun w18 =>
      nn o_0 fun a19 =>
      stC w18 (Addr.add a19 4) (.int .i64 (3 : Int)) fun w20 =>
      drew w20 fun w21 =>
      nn o_0 fun a22 =>
      ldI .i64 w21 (Addr.add a22 6) fun i23 =>
      nn o_0 fun a24 =>
      ldI .i64 w21 (Addr.add a24 5) fun i25 =>
      iteB (decide (i23 ≥ i25)) (
        nn o_0 fun a26 =>
        stC w21 (Addr.add a26 13) (.int .i64 (3 : Int)) fun w27 =>
        (k () w27)) (
        (k () w21))) (
      iteB (i4 == (3 : Int)) (
        nn c_1 fun a28 =>
        ldS w (Addr.add a28 0) fun s29 =>
        ixS s29 (IntKind.wrap .i64 (i2 + (2 : Int))) 1 fun a30 =>
        ldI .i64 w a30 fun i31 =>
        pelotonref09_Of i31 w fun x32 w33 =>
        nn o_0 fun a34 =>
        stA 2 w33 (Addr.add a34 7) (x32.1, x32.2).1 fun w35 =>
        nn o_0 fun a36 =>
        stC w35 (Addr.add a36 4) (.int .i64 (4 : Int)) fun w37 =>
        (k () w37)) (
        iteB (i4 == (4 : Int)) (
          drew w fun w38 =>
          nn c_1 fun a39 =>
          ldS w38 (Addr.add a39 0) fun s40 =>
          nn o_0 fun a41 =>
          ldA 2 w38 (Addr.add a41 7) fun cs42 =>
          nn o_0 fun a43 =>
          ldI .i64 w38 (Addr.add a43 6) fun i44 =>
          pelotonref09_Place cs42 i44 w38 fun i45 w46 =>
          samec 1 (Addr.add a39 0) w38 w46 (
          ixS s40 i45 1 fun a47 =>
          ldI .i64 w46 a47 fun i48 =>
          nn o_0 fun a49 =>
          stC w46 (Addr.add a49 14) (.int .i64 i48) fun w50 =>
          nn o_0 fun a51 =>
          stC w50 (Addr.add a51 13) (.int .i64 (2 : Int)) fun w52 =>
          nn o_0 fun a53 =>
          stC w52 (Addr.add a53 4) (.int .i64 (5 : Int)) fun w54 =>
          (k () w54))) (
          iteB (i4 == (5 : Int)) (
            drew w fun w55 =>
            nn c_1 fun a56 =>
            ldS w55 (Addr.add a56 0) fun s57 =>
            ixS s57 i2 1 fun a58 =>
            ldI .i64 w55 a58 fun i59 =>
            nn o_0 fun a60 =>
            ldI .i64 w55 (Addr.add a60 6) fun i61 =>
            iteB (i59 == i61) (
              drew w55 fun w62 =>
              nn c_1 fun a63 =>
              ldS w62 (Addr.add a63 0) fun s64 =>
              nn o_0 fun a65 =>
              ldI .i64 w62 (Addr.add a65 6) fun i66 =>
              ixS s64 i2 1 fun a67 =>
              stC w62 a67 (.int .i64 (IntKind.wrap .i64 (i66 + (1 : Int)))) fun w68 =>
              nn o_0 fun a69 =>
              stC w68 (Addr.add a69 13) (.int .i64 (1 : Int)) fun w70 =>
              (k () w70)) (
              nn o_0 fun a71 =>
              stC w55 (Addr.add a71 13) (.int .i64 (5 : Int)) fun w72 =>
              nn o_0 fun a73 =>
              stC w72 (Addr.add a73 14) (.int .i64 (0 : Int)) fun w74 =>
              (k () w74))) (
            (k () w))))))
theorem e_pelotonref10_Op_steal (pelotonref09_Of : Int → World → ((Array Value × Int) → World → Prop) → Prop) (pelotonref09_Place : Array Value → Int → World → ((Int) → World → Prop) → Prop) (x : KT [.p, .p]) (w : World) (k : KT [] → World → Prop) : evFn Go.Proofs.Try.prog (orcOf [(n_pelotonref09_Of, (fun args w c => unL [(.i .i64)] args fun x => pelotonref09_Of x w fun r w => c (packV (valL [.ag, (.i .i64)] r)) w)), (n_pelotonref09_Place, (fun args w c => unL [.ag, (.i .i64)] args fun x => pelotonref09_Place x.1 x.2 w fun r w => c (packV (valL [(.i .i64)] r)) w))]) 83086890941510183772274131407495187 [] Go.Proofs.Try.f80 [] (valL [.p, .p] x) w k = pelotonref10_Op_steal_b pelotonref09_Of pelotonref09_Place x.1 x.2 w k := by kernel_rfl
def pelotonref10_Op_steal (o_0 : Option Addr) (c_1 : Option Addr) (w : World) (k : Unit → World → Prop) : Prop := pelotonref10_Op_steal_b pelotonref09_Of pelotonref09_Place o_0 c_1 w k
def d_pelotonref10_Op_steal : Dec := fun args w c => unL [.p, .p] args fun x => pelotonref10_Op_steal x.1 x.2 w fun r w => c (packV (valL [] r)) w
theorem s_pelotonref10_Op_steal : Sound Go.Proofs.Try.prog n_pelotonref10_Op_steal d_pelotonref10_Op_steal :=
  sound_of (mask := 83086890941510183772274131407495187) (h := []) (ds := [(n_pelotonref09_Of, d_pelotonref09_Of), (n_pelotonref09_Place, d_pelotonref09_Place)]) mixed Go.Proofs.Try.func80 ⟨s_pelotonref09_Of, s_pelotonref09_Place, trivial⟩
    [.p, .p] [] (by kernel_rfl) (fun x w k => pelotonref10_Op_steal x.1 x.2 w k) (fun x w k => e_pelotonref10_Op_steal pelotonref09_Of pelotonref09_Place x w k)

/-- (*peloton/pelotonref10.Op).Step -/
def pelotonref10_Op_Step_b (pelotonref10_Op_broke : Option Addr → Int → World → (Unit → World → Prop) → Prop) (pelotonref10_Op_push : Option Addr → Option Addr → World → (Unit → World → Prop) → Prop) (pelotonref10_Op_pop : Option Addr → Option Addr → World → (Unit → World → Prop) → Prop) (pelotonref10_Op_steal : Option Addr → Option Addr → World → (Unit → World → Prop) → Prop) (o_0 : Option Addr) (c_1 : Option Addr) (w_2 : Int) (most_3 : Int) (w : World) (k : Unit → World → Prop) : Prop :=
  joinP (S := Bool) (fun J1 =>
    nn o_0 fun a2 =>
    ldI .i64 w (Addr.add a2 13) fun i3 =>
    iteB (i3 != (0 : Int)) (
      nn o_0 fun a4 =>
      ldI .i64 w (Addr.add a4 13) fun i5 =>
      (J1 (i5 != (2 : Int)) w)) (
      (J1 false w))) fun b6 w7 =>
  iteB b6 (
    (k () w7)) (
    iteB ((decide (w_2 < (0 : Int))) || (decide (w_2 > most_3))) (
      pelotonref10_Op_broke o_0 (10 : Int) w7 fun _u w8 =>
      (k () w8)) (
      nn c_1 fun a9 =>
      ldI .i64 w7 (Addr.add a9 2) fun i10 =>
      nn c_1 fun a11 =>
      stC w7 (Addr.add a11 2) (.int .i64 (IntKind.wrap .i64 (i10 + (1 : Int)))) fun w12 =>
      nn o_0 fun a13 =>
      ldI .i64 w12 (Addr.add a13 2) fun i14 =>
      iteB (i14 == (0 : Int)) (
        pelotonref10_Op_push o_0 c_1 w12 fun _u w15 =>
        (k () w15)) (
        nn o_0 fun a16 =>
        ldI .i64 w12 (Addr.add a16 2) fun i17 =>
        iteB (i17 == (1 : Int)) (
          pelotonref10_Op_pop o_0 c_1 w12 fun _u w18 =>
          (k () w18)) (
          pelotonref10_Op_steal o_0 c_1 w12 fun _u w19 =>
          (k () w19)))))
theorem e_pelotonref10_Op_Step (pelotonref10_Op_broke : Option Addr → Int → World → (Unit → World → Prop) → Prop) (pelotonref10_Op_push : Option Addr → Option Addr → World → (Unit → World → Prop) → Prop) (pelotonref10_Op_pop : Option Addr → Option Addr → World → (Unit → World → Prop) → Prop) (pelotonref10_Op_steal : Option Addr → Option Addr → World → (Unit → World → Prop) → Prop) (x : KT [.p, .p, (.i .i64), (.i .i64)]) (w : World) (k : KT [] → World → Prop) : evFn Go.Proofs.Try.prog (orcOf [(n_pelotonref10_Op_broke, (fun args w c => unL [.p, (.i .i64)] args fun x => pelotonref10_Op_broke x.1 x.2 w fun r w => c (packV (valL [] r)) w)), (n_pelotonref10_Op_push, (fun args w c => unL [.p, .p] args fun x => pelotonref10_Op_push x.1 x.2 w fun r w => c (packV (valL [] r)) w)), (n_pelotonref10_Op_pop, (fun args w c => unL [.p, .p] args fun x => pelotonref10_Op_pop x.1 x.2 w fun r w => c (packV (valL [] r)) w)), (n_pelotonref10_Op_steal, (fun args w c => unL [.p, .p] args fun x => pelotonref10_Op_steal x.1 x.2 w fun r w => c (packV (valL [] r)) w))]) 565149044310031 [(0, [(19, .b)])] Go.Proofs.Try.f39 [] (valL [.p, .p, (.i .i64), (.i .i64)] x) w k = pelotonref10_Op_Step_b pelotonref10_Op_broke pelotonref10_Op_push pelotonref10_Op_pop pelotonref10_Op_steal x.1 x.2.1 x.2.2.1 x.2.2.2 w k := by kernel_rfl
def pelotonref10_Op_Step (o_0 : Option Addr) (c_1 : Option Addr) (w_2 : Int) (most_3 : Int) (w : World) (k : Unit → World → Prop) : Prop := pelotonref10_Op_Step_b pelotonref10_Op_broke pelotonref10_Op_push pelotonref10_Op_pop pelotonref10_Op_steal o_0 c_1 w_2 most_3 w k
def d_pelotonref10_Op_Step : Dec := fun args w c => unL [.p, .p, (.i .i64), (.i .i64)] args fun x => pelotonref10_Op_Step x.1 x.2.1 x.2.2.1 x.2.2.2 w fun r w => c (packV (valL [] r)) w
theorem s_pelotonref10_Op_Step : Sound Go.Proofs.Try.prog n_pelotonref10_Op_Step d_pelotonref10_Op_Step :=
  sound_of (mask := 565149044310031) (h := [(0, [(19, .b)])]) (ds := [(n_pelotonref10_Op_broke, d_pelotonref10_Op_broke), (n_pelotonref10_Op_push, d_pelotonref10_Op_push), (n_pelotonref10_Op_pop, d_pelotonref10_Op_pop), (n_pelotonref10_Op_steal, d_pelotonref10_Op_steal)]) mixed Go.Proofs.Try.func39 ⟨s_pelotonref10_Op_broke, s_pelotonref10_Op_push, s_pelotonref10_Op_pop, s_pelotonref10_Op_steal, trivial⟩
    [.p, .p, (.i .i64), (.i .i64)] [] (by kernel_rfl) (fun x w k => pelotonref10_Op_Step x.1 x.2.1 x.2.2.1 x.2.2.2 w k) (fun x w k => e_pelotonref10_Op_Step pelotonref10_Op_broke pelotonref10_Op_push pelotonref10_Op_pop pelotonref10_Op_steal x w k)

/-- peloton/pelotonlaw10.pelotonref10got -/
def pelotonlaw10_pelotonref10got (o_0 : Option Addr) (w : World) (k : (Int) → World → Prop) : Prop :=
  joinP (S := Bool) (fun J1 =>
    nn o_0 fun a2 =>
    ldI .i64 w (Addr.add a2 13) fun i3 =>
    iteB (i3 == (2 : Int)) (
      (J1 true w)) (
      nn o_0 fun a4 =>
      ldI .i64 w (Addr.add a4 13) fun i5 =>
      iteB (i5 == (1 : Int)) (
        nn o_0 fun a6 =>
        ldI .i64 w (Addr.add a6 2) fun i7 =>
        (J1 (i7 != (0 : Int)) w)) (
        (J1 false w)))) fun b8 w9 =>
  iteB b8 (
    nn o_0 fun a10 =>
    ldI .i64 w9 (Addr.add a10 14) fun i11 =>
    (k i11 w9)) (
    (k (0 : Int) w9))
def d_pelotonlaw10_pelotonref10got : Dec := fun args w c => unL [.p] args fun x => pelotonlaw10_pelotonref10got x w fun r w => c (packV (valL [(.i .i64)] r)) w
theorem s_pelotonlaw10_pelotonref10got : Sound Go.Proofs.Try.prog n_pelotonlaw10_pelotonref10got d_pelotonlaw10_pelotonref10got :=
  sound_of (mask := 2097157) (h := [(1, [(21, .b)])]) (ds := []) mixed Go.Proofs.Try.func40 trivial
    [.p] [(.i .i64)] (by kernel_rfl) (fun x w k => pelotonlaw10_pelotonref10got x w k) (fun x w k => by kernel_rfl)

/-- peloton/pelotonref10.List -/
def pelotonref10_List_b (pelotonref09_Of : Int → World → ((Array Value × Int) → World → Prop) → Prop) (pelotonref09_Place : Array Value → Int → World → ((Int) → World → Prop) → Prop) (c_0 : Option Addr) (d_1 : Array Value) (w : World) (k : (Sl) → World → Prop) : Prop :=
  newC w d_1 69 fun a1 w2 =>
  joinP (S := Addr) (fun J3 =>
    drew w2 fun w4 =>
    nn c_0 fun a5 =>
    ldS w4 (Addr.add a5 0) fun s6 =>
    ldI .i64 w4 (Addr.add a1 0) fun i7 =>
    ixS s6 (IntKind.wrap .i64 (i7 + (2 : Int))) 1 fun a8 =>
    ldI .i64 w4 a8 fun i9 =>
    both (
      pelotonref09_Of i9 w4 fun x10 w11 =>
      newC w11 #[(.int .i64 (0 : Int)), (.int .i64 (0 : Int))] 74 fun a12 w13 =>
      samec 1 a8 w4 w13 (
      samec 1 (Addr.add a1 0) w4 w13 (
      samec 1 (Addr.add a5 0) w4 w13 (
      stA 2 w13 a12 (x10.1, x10.2).1 fun w14 =>
      (J3 a12 w14))))) (
      newC w4 #[(.int .i64 (0 : Int)), (.int .i64 (0 : Int))] 74 fun a15 w16 =>
      samec 1 a8 w4 w16 (
      samec 1 (Addr.add a1 0) w4 w16 (
      samec 1 (Addr.add a5 0) w4 w16 (
      pelotonref09_Of i9 w16 fun x17 w18 =>
      stA 2 w18 a15 (x17.1, x17.2).1 fun w19 =>
      (J3 a15 w19)))))) fun a20 w21 =>
  newC w21 #[] 2 fun a22 w23 =>
  drew w23 fun w24 =>
  nn c_0 fun a25 =>
  ldS w24 (Addr.add a25 0) fun s26 =>
  ldI .i64 w24 (Addr.add a1 0) fun i27 =>
  ixS s26 i27 1 fun a28 =>
  ldI .i64 w24 a28 fun i29 =>
  loopP (S := (Sl × Int)) (fun C30 x31 w32 =>
    drew w32 fun w33 =>
    nn c_0 fun a34 =>
    ldS w33 (Addr.add a34 0) fun s35 =>
    ldI .i64 w33 (Addr.add a1 0) fun i36 =>
    ixS s35 (IntKind.wrap .i64 (i36 + (1 : Int))) 1 fun a37 =>
    ldI .i64 w33 a37 fun i38 =>
    iteB (decide (x31.2 < i38)) (
      drew w33 fun w39 =>
      nn c_0 fun a40 =>
      ldS w39 (Addr.add a40 0) fun s41 =>
      ldA 2 w39 a20 fun cs42 =>
      pelotonref09_Place cs42 x31.2 w39 fun i43 w44 =>
      samec 1 (Addr.add a40 0) w39 w44 (
      ixS s41 i43 1 fun a45 =>
      ldI .i64 w44 a45 fun i46 =>
      newC w44 #[(.int .i64 i46)] 2 fun a47 w48 =>
      bApp Go.Proofs.Try.prog #[23, 23] 23 [(.slice x31.1.a x31.1.n x31.1.c), (.slice (some a47) 1 1)] w48 fun s49 w50 =>
      (C30 (s49, (IntKind.wrap .i64 (x31.2 + (1 : Int)))) w50))) (
      (k x31.1 w33))) ((Sl.mk (some a22) 0 0), i29) w24
theorem e_pelotonref10_List (pelotonref09_Of : Int → World → ((Array Value × Int) → World → Prop) → Prop) (pelotonref09_Place : Array Value → Int → World → ((Int) → World → Prop) → Prop) (x : KT [.p, .ag]) (w : World) (k : KT [.s] → World → Prop) : evFn Go.Proofs.Try.prog (orcOf [(n_pelotonref09_Of, (fun args w c => unL [(.i .i64)] args fun x => pelotonref09_Of x w fun r w => c (packV (valL [.ag, (.i .i64)] r)) w)), (n_pelotonref09_Place, (fun args w c => unL [.ag, (.i .i64)] args fun x => pelotonref09_Place x.1 x.2 w fun r w => c (packV (valL [(.i .i64)] r)) w))]) 2199023255993 [(1, [(5, .a)]), (5, [(7, .s), (8, (.i .i64))])] Go.Proofs.Try.f41 [.s] (valL [.p, .ag] x) w k = pelotonref10_List_b pelotonref09_Of pelotonref09_Place x.1 x.2 w k := by kernel_rfl
def pelotonref10_List (c_0 : Option Addr) (d_1 : Array Value) (w : World) (k : (Sl) → World → Prop) : Prop := pelotonref10_List_b pelotonref09_Of pelotonref09_Place c_0 d_1 w k
def d_pelotonref10_List : Dec := fun args w c => unL [.p, .ag] args fun x => pelotonref10_List x.1 x.2 w fun r w => c (packV (valL [.s] r)) w
theorem s_pelotonref10_List : Sound Go.Proofs.Try.prog n_pelotonref10_List d_pelotonref10_List :=
  sound_of (mask := 2199023255993) (h := [(1, [(5, .a)]), (5, [(7, .s), (8, (.i .i64))])]) (ds := [(n_pelotonref09_Of, d_pelotonref09_Of), (n_pelotonref09_Place, d_pelotonref09_Place)]) mixed Go.Proofs.Try.func41 ⟨s_pelotonref09_Of, s_pelotonref09_Place, trivial⟩
    [.p, .ag] [.s] (by kernel_rfl) (fun x w k => pelotonref10_List x.1 x.2 w k) (fun x w k => e_pelotonref10_List pelotonref09_Of pelotonref09_Place x w k)

/-- peloton/pelotonlaw10.DequeSteps -/
def pelotonlaw10_DequeSteps_b (pelotonlaw10_awake : World → ((Bool) → World → Prop) → Prop) (cells_New : Int → Int → World → ((Option Addr × Int) → World → Prop) → Prop) (deque_New : Option Addr → Int → Int → Int → World → ((Array Value × Int) → World → Prop) → Prop) (pelotonref10_New : Option Addr → Int → Int → World → ((Array Value × Int) → World → Prop) → Prop) (pelotonlaw10_who : Array Value → World → ((Int) → World → Prop) → Prop) (deque_Deque_Steal : Array Value → World → ((Option Addr) → World → Prop) → Prop) (pelotonref10_Begin : Array Value → Int → Int → World → ((Option Addr) → World → Prop) → Prop) (deque_Deque_Push : Array Value → Int → World → ((Option Addr) → World → Prop) → Prop) (deque_Deque_Pop : Array Value → World → ((Option Addr) → World → Prop) → Prop) (deque_Op_Step : Option Addr → Option Addr → Int → World → ((Int) → World → Prop) → Prop) (pelotonref10_Op_Step : Option Addr → Option Addr → Int → Int → World → (Unit → World → Prop) → Prop) (deque_Op_Got : Option Addr → World → ((Int) → World → Prop) → Prop) (pelotonlaw10_pelotonref10got : Option Addr → World → ((Int) → World → Prop) → Prop) (deque_Op_Err : Option Addr → World → ((Int) → World → Prop) → Prop) (cells_Machine_Used : Option Addr → World → ((Int) → World → Prop) → Prop) (cells_Machine_Steps : Option Addr → Int → World → ((Int) → World → Prop) → Prop) (deque_Deque_List : Array Value → Option Addr → World → ((Sl) → World → Prop) → Prop) (pelotonref10_List : Option Addr → Array Value → World → ((Sl) → World → Prop) → Prop) (pelotonlaw10_same : Sl → Sl → World → ((Bool) → World → Prop) → Prop) (cells_Machine_Peek : Option Addr → Int → World → ((Int) → World → Prop) → Prop) (size_0 : Int) (logs_1 : Array Value) (l_2 : Sl) (w : World) (k : (Bool) → World → Prop) : Prop :=
  newC w logs_1 22 fun a1 w2 =>
  iteB (((decide (size_0 < (1 : Int))) || (decide (size_0 > (600 : Int)))) || (decide (((l_2.n : Nat) : Int) > (400 : Int)))) (
    pelotonlaw10_awake  w2 fun b3 w4 =>
    (k b3 w4)) (
    cells_New size_0 (4 : Int) w2 fun x5 w6 =>
    iteB ((x5.1, x5.2).2 != (0 : Int)) (
      (k false w6)) (
      newC w6 #[(.slice none 0 0), (.int .i64 size_0), (.int .i64 (0 : Int))] 68 fun a7 w8 =>
      ldI .i64 w8 (Addr.add a1 0) fun i9 =>
      ldI .i64 w8 (Addr.add a1 1) fun i10 =>
      deque_New (x5.1, x5.2).1 (4 : Int) i9 i10 w8 fun x11 w12 =>
      newC w12 #[(.int .i64 (0 : Int)), (.int .i64 (0 : Int))] 30 fun a13 w14 =>
      stA 2 w14 a13 (x11.1, x11.2).1 fun w15 =>
      ldI .i64 w15 (Addr.add a1 0) fun i16 =>
      ldI .i64 w15 (Addr.add a1 1) fun i17 =>
      pelotonref10_New (some a7) i16 i17 w15 fun x18 w19 =>
      newC w19 #[(.int .i64 (0 : Int)), (.int .i64 (0 : Int))] 69 fun a20 w21 =>
      stA 2 w21 a20 (x18.1, x18.2).1 fun w22 =>
      joinP (S := Bool) (fun J23 =>
        iteB ((x11.1, x11.2).2 != (x18.1, x18.2).2) (
          (J23 true w22)) (
          ldI .i64 w22 (Addr.add a13 0) fun i24 =>
          ldI .i64 w22 (Addr.add a20 0) fun i25 =>
          iteB (i24 != i25) (
            (J23 true w22)) (
            ldI .i64 w22 (Addr.add a13 1) fun i26 =>
            ldI .i64 w22 (Addr.add a20 1) fun i27 =>
            (J23 (i26 != i27) w22)))) fun b28 w29 =>
      iteB b28 (
        (k false w29)) (
        iteB ((x18.1, x18.2).2 != (0 : Int)) (
          pelotonlaw10_awake  w29 fun b30 w31 =>
          (k b30 w31)) (
          mkSl Go.Proofs.Try.prog 51 (.int .i64 (4 : Int)) (.int .i64 (4 : Int)) w29 fun s32 w33 =>
          mkSl Go.Proofs.Try.prog 72 (.int .i64 (4 : Int)) (.int .i64 (4 : Int)) w33 fun s34 w35 =>
          loopP (S := Int) (fun C36 i37 w38 =>
            iteB (decide (i37 < ((l_2.n : Nat) : Int))) (
              ixS l_2 i37 3 fun a39 =>
              ldA 3 w38 a39 fun cs40 =>
              pelotonlaw10_who cs40 w38 fun i41 w42 =>
              ixS s34 i41 1 fun a43 =>
              ldP w42 a43 fun p44 =>
              joinP (S := Bool) (fun J45 =>
                iteB (!(Option.isNone p44)) (
                  ixS s34 i41 1 fun a46 =>
                  ldP w42 a46 fun p47 =>
                  nn p47 fun a48 =>
                  ldI .i64 w42 (Addr.add a48 13) fun i49 =>
                  iteB (i49 != (0 : Int)) (
                    ixS s34 i41 1 fun a50 =>
                    ldP w42 a50 fun p51 =>
                    nn p51 fun a52 =>
                    ldI .i64 w42 (Addr.add a52 13) fun i53 =>
                    iteB (i53 != (2 : Int)) (
                      (J45 true w42)) (
                      ixS s34 i41 1 fun a54 =>
                      ldP w42 a54 fun p55 =>
                      nn p55 fun a56 =>
                      ldI .i64 w42 (Addr.add a56 13) fun i57 =>
                      iteB (i57 == (2 : Int)) (
                        ixS l_2 i37 3 fun a58 =>
                        ldI .i64 w42 (Addr.add a58 1) fun i59 =>
                        (J45 (i59 == (7 : Int)) w42)) (
                        (J45 false w42)))) (
                    ixS s34 i41 1 fun a60 =>
                    ldP w42 a60 fun p61 =>
                    nn p61 fun a62 =>
                    ldI .i64 w42 (Addr.add a62 13) fun i63 =>
                    iteB (i63 == (2 : Int)) (
                      ixS l_2 i37 3 fun a64 =>
                      ldI .i64 w42 (Addr.add a64 1) fun i65 =>
                      (J45 (i65 == (7 : Int)) w42)) (
                      (J45 false w42)))) (
                  (J45 (Option.isNone p44) w42))) fun b66 w67 =>
              joinP (S := Unit) (fun J68 =>
                iteB b66 (
                  iteB (decide (i41 > (0 : Int))) (
                    ldA 2 w67 a13 fun cs69 =>
                    deque_Deque_Steal cs69 w67 fun p70 w71 =>
                    ixS s32 i41 1 fun a72 =>
                    stC w71 a72 (.pointer p70) fun w73 =>
                    ldA 2 w73 a20 fun cs74 =>
                    pelotonref10_Begin cs74 (2 : Int) (0 : Int) w73 fun p75 w76 =>
                    ixS s34 i41 1 fun a77 =>
                    stC w76 a77 (.pointer p75) fun w78 =>
                    (J68 () w78)) (
                    ixS l_2 i37 3 fun a79 =>
                    ldI .i64 w67 (Addr.add a79 1) fun i80 =>
                    iteB ((remV i80 (2 : Int)) == (0 : Int)) (
                      drew w67 fun w81 =>
                      ldA 2 w81 a13 fun cs82 =>
                      ixS l_2 i37 3 fun a83 =>
                      ldI .i64 w81 (Addr.add a83 2) fun i84 =>
                      deque_Deque_Push cs82 i84 w81 fun p85 w86 =>
                      ixS s32 i41 1 fun a87 =>
                      stC w86 a87 (.pointer p85) fun w88 =>
                      drew w88 fun w89 =>
                      ldA 2 w89 a20 fun cs90 =>
                      ixS l_2 i37 3 fun a91 =>
                      ldI .i64 w89 (Addr.add a91 2) fun i92 =>
                      pelotonref10_Begin cs90 (0 : Int) i92 w89 fun p93 w94 =>
                      ixS s34 i41 1 fun a95 =>
                      stC w94 a95 (.pointer p93) fun w96 =>
                      (J68 () w96)) (
                      ldA 2 w67 a13 fun cs97 =>
                      deque_Deque_Pop cs97 w67 fun p98 w99 =>
                      ixS s32 i41 1 fun a100 =>
                      stC w99 a100 (.pointer p98) fun w101 =>
                      ldA 2 w101 a20 fun cs102 =>
                      pelotonref10_Begin cs102 (1 : Int) (0 : Int) w101 fun p103 w104 =>
                      ixS s34 i41 1 fun a105 =>
                      stC w104 a105 (.pointer p103) fun w106 =>
                      (J68 () w106)))) (
                  (J68 () w67))) fun u107 w108 =>
              ixS l_2 i37 3 fun a109 =>
              ldI .i64 w108 (Addr.add a109 1) fun i110 =>
              joinP (S := Int) (fun J111 =>
                iteB (i110 == (9 : Int)) (
                  (J111 (-(1 : Int)) w108)) (
                  (J111 i41 w108))) fun i112 w113 =>
              ixS s32 i41 1 fun a114 =>
              ldP w113 a114 fun p115 =>
              deque_Op_Step p115 (x5.1, x5.2).1 i112 w113 fun i116 w117 =>
              ixS s34 i41 1 fun a118 =>
              ldP w117 a118 fun p119 =>
              pelotonref10_Op_Step p119 (some a7) i112 (4 : Int) w117 fun _u w120 =>
              joinP (S := Bool) (fun J121 =>
                drew w120 fun w122 =>
                ixS s34 i41 1 fun a123 =>
                ldP w122 a123 fun p124 =>
                nn p124 fun a125 =>
                ldI .i64 w122 (Addr.add a125 13) fun i126 =>
                iteB (i116 != i126) (
                  (J121 true w122)) (
                  ixS s32 i41 1 fun a127 =>
                  ldP w122 a127 fun p128 =>
                  ixS s34 i41 1 fun a129 =>
                  ldP w122 a129 fun p130 =>
                  deque_Op_Got p128 w122 fun i131 w132 =>
                  samec 1 a129 w122 w132 (
                  pelotonlaw10_pelotonref10got p130 w132 fun i133 w134 =>
                  iteB (i131 != i133) (
                    (J121 true w134)) (
                    ixS s32 i41 1 fun a135 =>
                    ldP w134 a135 fun p136 =>
                    ixS s34 i41 1 fun a137 =>
                    ldP w134 a137 fun p138 =>
                    nn p138 fun a139 =>
                    ldI .i64 w134 (Addr.add a139 15) fun i140 =>
                    deque_Op_Err p136 w134 fun i141 w142 =>
                    samec 1 (Addr.add a139 15) w134 w142 (
                    samec 1 a137 w134 w142 (
                    (J121 (i141 != i140) w142))))))) fun b143 w144 =>
              iteB b143 (
                (k false w144)) (
                joinP (S := Bool) (fun J145 =>
                  drew w144 fun w146 =>
                  ldS w146 (Addr.add a7 0) fun s147 =>
                  cells_Machine_Used (x5.1, x5.2).1 w146 fun i148 w149 =>
                  samec 1 (Addr.add a7 0) w146 w149 (
                  iteB (i148 != ((s147.n : Nat) : Int)) (
                    (J145 true w149)) (
                    ldI .i64 w149 (Addr.add a7 2) fun i150 =>
                    cells_Machine_Steps (x5.1, x5.2).1 (0 : Int) w149 fun i151 w152 =>
                    samec 1 (Addr.add a7 2) w149 w152 (
                    cells_Machine_Steps (x5.1, x5.2).1 (1 : Int) w152 fun i153 w154 =>
                    samec 1 (Addr.add a7 2) w149 w154 (
                    cells_Machine_Steps (x5.1, x5.2).1 (2 : Int) w154 fun i155 w156 =>
                    samec 1 (Addr.add a7 2) w149 w156 (
                    cells_Machine_Steps (x5.1, x5.2).1 (3 : Int) w156 fun i157 w158 =>
                    samec 1 (Addr.add a7 2) w149 w158 (
                    cells_Machine_Steps (x5.1, x5.2).1 (4 : Int) w158 fun i159 w160 =>
                    samec 1 (Addr.add a7 2) w149 w160 (
                    iteB ((IntKind.wrap .i64 ((IntKind.wrap .i64 ((IntKind.wrap .i64 ((IntKind.wrap .i64 (i151 + i153)) + i155)) + i157)) + i159)) != i150) (
                      (J145 true w160)) (
                      ldA 2 w160 a13 fun cs161 =>
                      ldA 2 w160 a20 fun cs162 =>
                      deque_Deque_List cs161 (x5.1, x5.2).1 w160 fun s163 w164 =>
                      samec 2 a20 w160 w164 (
                      pelotonref10_List (some a7) cs162 w164 fun s165 w166 =>
                      pelotonlaw10_same s163 s165 w166 fun b167 w168 =>
                      (J145 (!b167) w168))))))))))) fun b169 w170 =>
                iteB b169 (
                  (k false w170)) (
                  loopP (S := Int) (fun C171 i172 w173 =>
                    ldS w173 (Addr.add a7 0) fun s174 =>
                    iteB (decide (i172 < ((s174.n : Nat) : Int))) (
                      drew w173 fun w175 =>
                      ldS w175 (Addr.add a7 0) fun s176 =>
                      ixS s176 i172 1 fun a177 =>
                      ldI .i64 w175 a177 fun i178 =>
                      cells_Machine_Peek (x5.1, x5.2).1 i172 w175 fun i179 w180 =>
                      samec 1 a177 w175 w180 (
                      samec 1 (Addr.add a7 0) w175 w180 (
                      iteB (i179 != i178) (
                        (k false w180)) (
                        (C171 (IntKind.wrap .i64 (i172 + (1 : Int))) w180))))) (
                      (C36 (IntKind.wrap .i64 (i37 + (1 : Int))) w173))) (0 : Int) w170))) (
              pelotonlaw10_awake  w38 fun b181 w182 =>
              (k b181 w182))) (0 : Int) w35))))
theorem e_pelotonlaw10_DequeSteps (pelotonlaw10_awake : World → ((Bool) → World → Prop) → Prop) (cells_New : Int → Int → World → ((Option Addr × Int) → World → Prop) → Prop) (deque_New : Option Addr → Int → Int → Int → World → ((Array Value × Int) → World → Prop) → Prop) (pelotonref10_New : Option Addr → Int → Int → World → ((Array Value × Int) → World → Prop) → Prop) (pelotonlaw10_who : Array Value → World → ((Int) → World → Prop) → Prop) (deque_Deque_Steal : Array Value → World → ((Option Addr) → World → Prop) → Prop) (pelotonref10_Begin : Array Value → Int → Int → World → ((Option Addr) → World → Prop) → Prop) (deque_Deque_Push : Array Value → Int → World → ((Option Addr) → World → Prop) → Prop) (deque_Deque_Pop : Array Value → World → ((Option Addr) → World → Prop) → Prop) (deque_Op_Step : Option Addr → Option Addr → Int → World → ((Int) → World → Prop) → Prop) (pelotonref10_Op_Step : Option Addr → Option Addr → Int → Int → World → (Unit → World → Prop) → Prop) (deque_Op_Got : Option Addr → World → ((Int) → World → Prop) → Prop) (pelotonlaw10_pelotonref10got : Option Addr → World → ((Int) → World → Prop) → Prop) (deque_Op_Err : Option Addr → World → ((Int) → World → Prop) → Prop) (cells_Machine_Used : Option Addr → World → ((Int) → World → Prop) → Prop) (cells_Machine_Steps : Option Addr → Int → World → ((Int) → World → Prop) → Prop) (deque_Deque_List : Array Value → Option Addr → World → ((Sl) → World → Prop) → Prop) (pelotonref10_List : Option Addr → Array Value → World → ((Sl) → World → Prop) → Prop) (pelotonlaw10_same : Sl → Sl → World → ((Bool) → World → Prop) → Prop) (cells_Machine_Peek : Option Addr → Int → World → ((Int) → World → Prop) → Prop) (x : KT [(.i .i64), .ag, .s]) (w : World) (k : KT [.b] → World → Prop) : evFn Go.Proofs.Try.prog (orcOf [(n_pelotonlaw10_awake, (fun args w c => unL [] args fun x => pelotonlaw10_awake  w fun r w => c (packV (valL [.b] r)) w)), (n_cells_New, (fun args w c => unL [(.i .i64), (.i .i64)] args fun x => cells_New x.1 x.2 w fun r w => c (packV (valL [.p, (.i .i64)] r)) w)), (n_deque_New, (fun args w c => unL [.p, (.i .i64), (.i .i64), (.i .i64)] args fun x => deque_New x.1 x.2.1 x.2.2.1 x.2.2.2 w fun r w => c (packV (valL [.ag, (.i .i64)] r)) w)), (n_pelotonref10_New, (fun args w c => unL [.p, (.i .i64), (.i .i64)] args fun x => pelotonref10_New x.1 x.2.1 x.2.2 w fun r w => c (packV (valL [.ag, (.i .i64)] r)) w)), (n_pelotonlaw10_who, (fun args w c => unL [.ag] args fun x => pelotonlaw10_who x w fun r w => c (packV (valL [(.i .i64)] r)) w)), (n_deque_Deque_Steal, (fun args w c => unL [.ag] args fun x => deque_Deque_Steal x w fun r w => c (packV (valL [.p] r)) w)), (n_pelotonref10_Begin, (fun args w c => unL [.ag, (.i .i64), (.i .i64)] args fun x => pelotonref10_Begin x.1 x.2.1 x.2.2 w fun r w => c (packV (valL [.p] r)) w)), (n_deque_Deque_Push, (fun args w c => unL [.ag, (.i .i64)] args fun x => deque_Deque_Push x.1 x.2 w fun r w => c (packV (valL [.p] r)) w)), (n_deque_Deque_Pop, (fun args w c => unL [.ag] args fun x => deque_Deque_Pop x w fun r w => c (packV (valL [.p] r)) w)), (n_deque_Op_Step, (fun args w c => unL [.p, .p, (.i .i64)] args fun x => deque_Op_Step x.1 x.2.1 x.2.2 w fun r w => c (packV (valL [(.i .i64)] r)) w)), (n_pelotonref10_Op_Step, (fun args w c => unL [.p, .p, (.i .i64), (.i .i64)] args fun x => pelotonref10_Op_Step x.1 x.2.1 x.2.2.1 x.2.2.2 w fun r w => c (packV (valL [] r)) w)), (n_deque_Op_Got, (fun args w c => unL [.p] args fun x => deque_Op_Got x w fun r w => c (packV (valL [(.i .i64)] r)) w)), (n_pelotonlaw10_pelotonref10got, (fun args w c => unL [.p] args fun x => pelotonlaw10_pelotonref10got x w fun r w => c (packV (valL [(.i .i64)] r)) w)), (n_deque_Op_Err, (fun args w c => unL [.p] args fun x => deque_Op_Err x w fun r w => c (packV (valL [(.i .i64)] r)) w)), (n_cells_Machine_Used, (fun args w c => unL [.p] args fun x => cells_Machine_Used x w fun r w => c (packV (valL [(.i .i64)] r)) w)), (n_cells_Machine_Steps, (fun args w c => unL [.p, (.i .i64)] args fun x => cells_Machine_Steps x.1 x.2 w fun r w => c (packV (valL [(.i .i64)] r)) w)), (n_deque_Deque_List, (fun args w c => unL [.ag, .p] args fun x => deque_Deque_List x.1 x.2 w fun r w => c (packV (valL [.s] r)) w)), (n_pelotonref10_List, (fun args w c => unL [.p, .ag] args fun x => pelotonref10_List x.1 x.2 w fun r w => c (packV (valL [.s] r)) w)), (n_pelotonlaw10_same, (fun args w c => unL [.s, .s] args fun x => pelotonlaw10_same x.1 x.2 w fun r w => c (packV (valL [.b] r)) w)), (n_cells_Machine_Peek, (fun args w c => unL [.p, (.i .i64)] args fun x => cells_Machine_Peek x.1 x.2 w fun r w => c (packV (valL [(.i .i64)] r)) w))]) 16298292644972665670818307428417028987459632989778339193934395488510131825070325087529336789 [(11, [(77, .b)]), (21, [(15, (.i .i64))]), (28, [(17, .b)]), (31, []), (44, [(18, (.i .i64))]), (48, [(244, .b)]), (51, [(283, .b)]), (56, [(20, (.i .i64))])] Go.Proofs.Try.f8 [.b] (valL [(.i .i64), .ag, .s] x) w k = pelotonlaw10_DequeSteps_b pelotonlaw10_awake cells_New deque_New pelotonref10_New pelotonlaw10_who deque_Deque_Steal pelotonref10_Begin deque_Deque_Push deque_Deque_Pop deque_Op_Step pelotonref10_Op_Step deque_Op_Got pelotonlaw10_pelotonref10got deque_Op_Err cells_Machine_Used cells_Machine_Steps deque_Deque_List pelotonref10_List pelotonlaw10_same cells_Machine_Peek x.1 x.2.1 x.2.2 w k := by kernel_rfl
def pelotonlaw10_DequeSteps (size_0 : Int) (logs_1 : Array Value) (l_2 : Sl) (w : World) (k : (Bool) → World → Prop) : Prop := pelotonlaw10_DequeSteps_b pelotonlaw10_awake cells_New deque_New pelotonref10_New pelotonlaw10_who deque_Deque_Steal pelotonref10_Begin deque_Deque_Push deque_Deque_Pop deque_Op_Step pelotonref10_Op_Step deque_Op_Got pelotonlaw10_pelotonref10got deque_Op_Err cells_Machine_Used cells_Machine_Steps deque_Deque_List pelotonref10_List pelotonlaw10_same cells_Machine_Peek size_0 logs_1 l_2 w k
def d_pelotonlaw10_DequeSteps : Dec := fun args w c => unL [(.i .i64), .ag, .s] args fun x => pelotonlaw10_DequeSteps x.1 x.2.1 x.2.2 w fun r w => c (packV (valL [.b] r)) w
theorem s_pelotonlaw10_DequeSteps : Sound Go.Proofs.Try.prog n_pelotonlaw10_DequeSteps d_pelotonlaw10_DequeSteps :=
  sound_of (mask := 16298292644972665670818307428417028987459632989778339193934395488510131825070325087529336789) (h := [(11, [(77, .b)]), (21, [(15, (.i .i64))]), (28, [(17, .b)]), (31, []), (44, [(18, (.i .i64))]), (48, [(244, .b)]), (51, [(283, .b)]), (56, [(20, (.i .i64))])]) (ds := [(n_pelotonlaw10_awake, d_pelotonlaw10_awake), (n_cells_New, d_cells_New), (n_deque_New, d_deque_New), (n_pelotonref10_New, d_pelotonref10_New), (n_pelotonlaw10_who, d_pelotonlaw10_who), (n_deque_Deque_Steal, d_deque_Deque_Steal), (n_pelotonref10_Begin, d_pelotonref10_Begin), (n_deque_Deque_Push, d_deque_Deque_Push), (n_deque_Deque_Pop, d_deque_Deque_Pop), (n_deque_Op_Step, d_deque_Op_Step), (n_pelotonref10_Op_Step, d_pelotonref10_Op_Step), (n_deque_Op_Got, d_deque_Op_Got), (n_pelotonlaw10_pelotonref10got, d_pelotonlaw10_pelotonref10got), (n_deque_Op_Err, d_deque_Op_Err), (n_cells_Machine_Used, d_cells_Machine_Used), (n_cells_Machine_Steps, d_cells_Machine_Steps), (n_deque_Deque_List, d_deque_Deque_List), (n_pelotonref10_List, d_pelotonref10_List), (n_pelotonlaw10_same, d_pelotonlaw10_same), (n_cells_Machine_Peek, d_cells_Machine_Peek)]) mixed Go.Proofs.Try.func8 ⟨s_pelotonlaw10_awake, s_cells_New, s_deque_New, s_pelotonref10_New, s_pelotonlaw10_who, s_deque_Deque_Steal, s_pelotonref10_Begin, s_deque_Deque_Push, s_deque_Deque_Pop, s_deque_Op_Step, s_pelotonref10_Op_Step, s_deque_Op_Got, s_pelotonlaw10_pelotonref10got, s_deque_Op_Err, s_cells_Machine_Used, s_cells_Machine_Steps, s_deque_Deque_List, s_pelotonref10_List, s_pelotonlaw10_same, s_cells_Machine_Peek, trivial⟩
    [(.i .i64), .ag, .s] [.b] (by kernel_rfl) (fun x w k => pelotonlaw10_DequeSteps x.1 x.2.1 x.2.2 w k) (fun x w k => e_pelotonlaw10_DequeSteps pelotonlaw10_awake cells_New deque_New pelotonref10_New pelotonlaw10_who deque_Deque_Steal pelotonref10_Begin deque_Deque_Push deque_Deque_Pop deque_Op_Step pelotonref10_Op_Step deque_Op_Got pelotonlaw10_pelotonref10got deque_Op_Err cells_Machine_Used cells_Machine_Steps deque_Deque_List pelotonref10_List pelotonlaw10_same cells_Machine_Peek x w k)

end Go.Proofs.Ytheallacpidcmaa
