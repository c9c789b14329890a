/-
  For every three numbers, FrameRing of package pelotonlaw05 returns true, panics never, and leaves what it was given as it was. Conditions: none.
-/
import Derived.Test.YtkcakjckpbldoaaFd
import Derived.Test.YtkcakjckpbldoaaEvT
import Derived.Test.YtkcakjckpbldoaaRows
set_option linter.unusedSimpArgs false
set_option linter.unusedVariables false
set_option maxRecDepth 100000
namespace Go.Proofs.Ytkcakjckpbldoaa.FrameRing
open Go Go.Ev Go.Proofs Go.Proofs.Ytkcakjckpbldoaa Go.RowKit Go.ChangeShapes Go.WideShapes

theorem wrap_bmod (x : Int) : IntKind.i64.wrap x = x.bmod (2 ^ 64) := by
  rw [wrapI, BitVec.toInt_ofInt]
abbrev zA : Array Value := #[(.int .i64 (0 : Int)), (.int .i64 (0 : Int)), (.int .i64 (0 : Int)), (.int .i64 (0 : Int)), (.int .i64 (0 : Int)), (.int .i64 (0 : Int)), (.int .i64 (0 : Int)), (.int .i64 (0 : Int)), (.int .i64 (0 : Int)), (.int .i64 (0 : Int)), (.int .i64 (0 : Int)), (.int .i64 (0 : Int)), (.int .i64 (0 : Int)), (.int .i64 (0 : Int)), (.int .i64 (0 : Int)), (.int .i64 (0 : Int)), (.int .i64 (0 : Int)), (.int .i64 (0 : Int)), (.int .i64 (0 : Int))]

/-- one step: the instruction that is next in a list is done -/
theorem step_s {g3 gp n j : Nat} {f prog : List Int} {w : World} {rest : Addr × Bool → World → Prop} (hb3 : BI w g3 f) (hbp : BI w gp prog) (hf : f.length = 19) (hp : prog.length = 5 * n) (hj : j < n)
    (h : ∀ w' g, Ext w w' → BI w' g (fPlain f ((prog.drop (5 * j)).take 5)).1 → rest (⟨g, 0, none⟩, (fPlain f ((prog.drop (5 * j)).take 5)).2) w') :
    joinP (S := (Addr × Bool)) (fun J19 =>
          drew w fun w20 =>
          ldA 19 w20 ⟨g3, 0, none⟩ fun cs21 =>
          ixS (Sl.mk (some ⟨gp, 0, none⟩) n n) (j : Int) 5 fun a22 =>
          ldA 5 w20 a22 fun cs23 =>
          both (
            frame_Frame_Plain cs21 cs23 w20 fun x24 w25 =>
            newC w25 zA 48 fun a26 w27 =>
            samec 5 a22 w20 w27 (
            samec 19 ⟨g3, 0, none⟩ w20 w27 (
            stA 19 w27 a26 x24.1 fun w28 =>
            (J19 (a26, x24.2) w28)))) (
            newC w20 zA 48 fun a29 w30 =>
            samec 5 a22 w20 w30 (
            samec 19 ⟨g3, 0, none⟩ w20 w30 (
            frame_Frame_Plain cs21 cs23 w30 fun x31 w32 =>
            stA 19 w32 a29 x31.1 fun w33 =>
            (J19 (a29, x31.2) w33))))) rest := by
  have hi : ((prog.drop (5 * j)).take 5).length = 5 := by rw [List.length_take, List.length_drop]; omega
  have hpl := fPlain_len (f := f) (i := (prog.drop (5 * j)).take 5) hf
  refine joinP_i (fun x w' => ∃ g, x = (⟨g, 0, none⟩, (fPlain f ((prog.drop (5 * j)).take 5)).2) ∧ Ext w w' ∧ BI w' g (fPlain f ((prog.drop (5 * j)).take 5)).1) ?_ ?_
  · intro J hJ
    refine drew_i fun w1 hh1 he1 => ?_
    have hb31 : BI w1 g3 f := hb3.ext he1
    have hbp1 : BI w1 gp prog := hbp.ext he1
    refine ldA_I hb31 hf (ixS_b (by omega) (by omega) ?_)
    have e : 0 + (j : Int).toNat * 5 = 5 * j := by omega
    rw [e]
    refine ldA_P hbp1 (by omega) ⟨?_, ?_⟩
    · refine plain_F hf hi fun w2 he2 => newC_i fun g w3 hg hs3 hb he3 => ?_
      have he13 := he2.trans he3
      refine samec_B hbp1 (hbp1.ext he13) (samec_B hb31 (hb31.ext he13) (stA_I hb rfl hpl fun w4 hb4 hs4 ho4 => hJ _ _ ⟨g, rfl, ?_, hb4⟩))
      exact (he1.trans he13).then ho4 fun g hg => by have := (he1.trans he2).size; omega
    · refine newC_i fun g w3 hg hs3 hb he3 => samec_B hbp1 (hbp1.ext he3) (samec_B hb31 (hb31.ext he3) (plain_F hf hi fun w4 he4 => ?_))
      refine stA_I (hb.ext he4) rfl hpl fun w5 hb5 hs5 ho5 => hJ _ _ ⟨g, rfl, ?_, hb5⟩
      exact ((he1.trans he3).trans he4).then ho5 fun g hg => by have := he1.size; omega
  · rintro _ w' ⟨g, rfl, he, hb⟩
    exact h w' g he hb

/-- the tasks, one behind the other -/
def st1 (a b c : Int) : List (List Int) := [
  [0, 0, a, b, c, 0, 0, 0, 0, 0, -1, -1, -1, -1, -1, -1, -1, -1, 0],
  [0, 1, a, b, c, IntKind.i64.wrap (a + b), 0, 0, 0, 0, -1, -1, -1, -1, -1, -1, -1, -1, 1],
  [0, 2, a, b, c, IntKind.i64.wrap (a + b), IntKind.i64.wrap (b + a), 0, 0, 0, -1, -1, -1, -1, -1, -1, -1, -1, 2],
  [0, 3, a, b, c, IntKind.i64.wrap (a + b), IntKind.i64.wrap (b + a), IntKind.i64.wrap (IntKind.i64.wrap (a + b) - b), 0, 0, -1, -1, -1, -1, -1, -1, -1, -1, 3],
  [0, 4, a, b, c, IntKind.i64.wrap (a + b), IntKind.i64.wrap (b + a), IntKind.i64.wrap (IntKind.i64.wrap (a + b) - b), IntKind.i64.wrap (IntKind.i64.wrap (a + b) * c), 0, -1, -1, -1, -1, -1, -1, -1, -1, 4]]
def st2 (a b c : Int) : List (List Int) := [
  [0, 4, a, b, c, IntKind.i64.wrap (a + b), IntKind.i64.wrap (b + a), IntKind.i64.wrap (IntKind.i64.wrap (a + b) - b), IntKind.i64.wrap (IntKind.i64.wrap (a + b) * c), 0, -1, -1, -1, -1, -1, -1, -1, -1, 4],
  [0, 5, a, b, c, IntKind.i64.wrap (a * c), IntKind.i64.wrap (b + a), IntKind.i64.wrap (IntKind.i64.wrap (a + b) - b), IntKind.i64.wrap (IntKind.i64.wrap (a + b) * c), 0, -1, -1, -1, -1, -1, -1, -1, -1, 5],
  [0, 6, a, b, c, IntKind.i64.wrap (a * c), IntKind.i64.wrap (c * b), IntKind.i64.wrap (IntKind.i64.wrap (a + b) - b), IntKind.i64.wrap (IntKind.i64.wrap (a + b) * c), 0, -1, -1, -1, -1, -1, -1, -1, -1, 6],
  [0, 7, a, b, c, IntKind.i64.wrap (IntKind.i64.wrap (a * c) + IntKind.i64.wrap (c * b)), IntKind.i64.wrap (c * b), IntKind.i64.wrap (IntKind.i64.wrap (a + b) - b), IntKind.i64.wrap (IntKind.i64.wrap (a + b) * c), 0, -1, -1, -1, -1, -1, -1, -1, -1, 7]]
def prog1 : List Int := [2, 3, 0, 1, 0, 2, 4, 1, 0, 0, 3, 5, 3, 1, 0, 4, 6, 3, 2, 0]
def prog2 : List Int := [4, 3, 0, 2, 0, 4, 4, 2, 1, 0, 2, 3, 3, 4, 0]
theorem st1_step {a b c : Int} {j : Nat} (hj : j < 4) : fPlain ((st1 a b c).getD j []) ((prog1.drop (5 * j)).take 5) = ((st1 a b c).getD (j + 1) [], true) := by
  match j, hj with
  | 0, _ => rfl
  | 1, _ => rfl
  | 2, _ => rfl
  | 3, _ => rfl
theorem st2_step {a b c : Int} {j : Nat} (hj : j < 3) : fPlain ((st2 a b c).getD j []) ((prog2.drop (5 * j)).take 5) = ((st2 a b c).getD (j + 1) [], true) := by
  match j, hj with
  | 0, _ => rfl
  | 1, _ => rfl
  | 2, _ => rfl
theorem st1_len {a b c : Int} {j : Nat} (hj : j < 5) : ((st1 a b c).getD j []).length = 19 := by
  match j, hj with
  | 0, _ => rfl
  | 1, _ => rfl
  | 2, _ => rfl
  | 3, _ => rfl
  | 4, _ => rfl
theorem st2_len {a b c : Int} {j : Nat} (hj : j < 4) : ((st2 a b c).getD j []).length = 19 := by
  match j, hj with
  | 0, _ => rfl
  | 1, _ => rfl
  | 2, _ => rfl
  | 3, _ => rfl

theorem ring1 (a b : Int) (ha : InI a) : IntKind.i64.wrap (IntKind.i64.wrap (a + b) - b) = a := by
  rw [wrap_bmod, wrap_bmod, Int.bmod_sub_bmod, Int.add_sub_cancel, ← wrap_bmod, wrap_id ha]
theorem ring2 (a b c : Int) : IntKind.i64.wrap (IntKind.i64.wrap (a * c) + IntKind.i64.wrap (c * b)) = IntKind.i64.wrap (IntKind.i64.wrap (a + b) * c) := by
  rw [wrap_bmod, wrap_bmod, wrap_bmod, wrap_bmod, wrap_bmod, Int.bmod_add_bmod, Int.add_bmod_bmod, Int.bmod_mul_bmod, Int.add_mul, Int.mul_comm c b]

theorem law {a b c : Int} {w : World} {k : Bool → World → Prop} (ha : InI a) (hk : ∀ w', Ext w w' → k true w') : pelotonlaw05_FrameRing a b c w k := by
  unfold pelotonlaw05_FrameRing
  refine root_s fun w1 he1 => newC_i fun g2 w2 hg2 hs2 hb2 he2 => ?_
  have hsz := he1.size
  simp only [add_mk, Nat.zero_add]
  refine stA_I (l := fRoot) hb2 rfl rfl fun w3 hb3 hs3 ho3 => ?_
  refine stC_I hb3 (by decide) fun w4 hb4 hs4 ho4 => stC_I hb4 (by simp [fRoot]) fun w5 hb5 hs5 ho5 => stC_I hb5 (by simp [fRoot]) fun w6 hb6 hs6 ho6 => ?_
  have he6 : Ext w w6 := (((((he1.trans he2).then ho3 fun g hg => by omega).then ho4 fun g hg => by omega).then ho5 fun g hg => by omega).then ho6 fun g hg => by omega)
  have hb6' : BI w6 g2 ((st1 a b c).getD 0 []) := hb6
  refine spl_I (l := Z 20) (l' := [2, 3, 0, 1, 0]) rfl (by decide) (spl_I (l' := [2, 4, 1, 0, 0]) rfl (by decide) (spl_I (l' := [3, 5, 3, 1, 0]) rfl (by decide) (spl_I (l' := [4, 6, 3, 2, 0]) rfl (by decide) ?_)))
  refine newC_i fun g7 w7 hg7 hs7 hb7 he7 => ?_
  have hb7' : BI w7 g7 prog1 := hb7
  refine joinP_i (fun _ w' => Ext w w' ∧ BI w' g2 ((st1 a b c).getD 4 [])) ?_ ?_
  · intro J hJ
    refine loopP_of (fun (x : Int) w' => ∃ j : Nat, x = j ∧ j ≤ 4 ∧ Ext w w' ∧ BI w' g2 ((st1 a b c).getD j []) ∧ BI w' g7 prog1) (fun x _ => (4 - x).toNat) ⟨0, rfl, by omega, he6.trans he7, hb6'.ext he7, hb7'⟩ ?_
    rintro _ w8 ⟨j, rfl, hj, he8, hb8, hbp8⟩ C hC
    refine iteB_i (fun hlt => ?_) fun hge => ?_
    · have hlt : j < 4 := by have : (j : Int) < ((4 : Nat) : Int) := by simpa using hlt
                             omega
      refine step_s (n := 4) hb8 hbp8 (st1_len (by omega)) rfl hlt fun w9 g9 he9 hb9 => ?_
      rw [st1_step hlt] at hb9 ⊢
      refine iteB_f rfl (ldA_I hb9 (st1_len (by omega)) (stA_I (hb8.ext he9) (by simp [ints]; exact st1_len (by omega)) (st1_len (by omega)) fun w10 hb10 hs10 ho10 => ?_))
      have hw : IntKind.i64.wrap ((j : Int) + 1) = ((j + 1 : Nat) : Int) := by rw [wrap_id ⟨by omega, by omega⟩]; simp
      have := he6.size
      exact hC _ _ ⟨j + 1, hw, by omega, (he8.trans he9).then ho10 fun g hg => by omega, hb10, (hbp8.ext he9).keep ho10 (by have := hb6.lt; omega)⟩ (by rw [hw]; omega)
    · have hge : j = 4 := by have : ¬ (j : Int) < ((4 : Nat) : Int) := by simpa using hge
                             omega
      subst hge
      exact hJ _ _ ⟨he8, hb8⟩
  rintro _ w8 ⟨he8, hb8⟩
  refine joinP_i (fun x w' => x = false ∧ w8 = w') ?_ ?_
  · intro J hJ
    refine ldP_I hb8 (by rw [st1_len (by omega)]; decide) (ldP_I hb8 (by rw [st1_len (by omega)]; decide) (iteB_f ?_ (ldP_I hb8 (by rw [st1_len (by omega)]; decide) (hJ _ _ ⟨?_, rfl⟩))))
    · show (IntKind.i64.wrap (a + b) != IntKind.i64.wrap (b + a)) = false
      rw [Int.add_comm a b]; simp
    · show (IntKind.i64.wrap (IntKind.i64.wrap (a + b) - b) != a) = false
      rw [ring1 a b ha]; simp
  rintro _ _ ⟨rfl, rfl⟩
  refine iteB_f rfl ?_
  refine spl_I (l := Z 15) (l' := [4, 3, 0, 2, 0]) rfl (by decide) (spl_I (l' := [4, 4, 2, 1, 0]) rfl (by decide) (spl_I (l' := [2, 3, 3, 4, 0]) rfl (by decide) ?_))
  refine newC_i fun g9 w9 hg9 hs9 hb9 he9 => ?_
  have hb9' : BI w9 g9 prog2 := hb9
  have hb8' : BI w8 g2 ((st2 a b c).getD 0 []) := hb8
  refine loopP_of (fun (x : Int) w' => ∃ j : Nat, x = j ∧ j ≤ 3 ∧ Ext w w' ∧ BI w' g2 ((st2 a b c).getD j []) ∧ BI w' g9 prog2) (fun x _ => (3 - x).toNat) ⟨0, rfl, by omega, he8.trans he9, hb8'.ext he9, hb9'⟩ ?_
  rintro _ w10 ⟨j, rfl, hj, he10, hb10, hbp10⟩ C hC
  refine iteB_i (fun hlt => ?_) fun hge => ?_
  · have hlt : j < 3 := by have : (j : Int) < ((3 : Nat) : Int) := by simpa using hlt
                           omega
    refine step_s (n := 3) hb10 hbp10 (st2_len (by omega)) rfl hlt fun w11 g11 he11 hb11 => ?_
    rw [st2_step hlt] at hb11 ⊢
    refine iteB_f rfl (ldA_I hb11 (st2_len (by omega)) (stA_I (hb10.ext he11) (by simp [ints]; exact st2_len (by omega)) (st2_len (by omega)) fun w12 hb12 hs12 ho12 => ?_))
    have hw : IntKind.i64.wrap ((j : Int) + 1) = ((j + 1 : Nat) : Int) := by rw [wrap_id ⟨by omega, by omega⟩]; simp
    exact hC _ _ ⟨j + 1, hw, by omega, (he10.trans he11).then ho12 fun g hg => by omega, hb12, (hbp10.ext he11).keep ho12 (by have := hb8.lt; omega)⟩ (by rw [hw]; omega)
  · have hge : j = 3 := by have : ¬ (j : Int) < ((3 : Nat) : Int) := by simpa using hge
                           omega
    subst hge
    refine ldP_I hb10 (by rw [st2_len (by omega)]; decide) (ldP_I hb10 (by rw [st2_len (by omega)]; decide) (iteB_t ?_ (ldP_I hb10 (by rw [st2_len (by omega)]; decide) (iteB_t rfl (ldP_I hb10 (by rw [st2_len (by omega)]; decide) (iteB_t rfl ?_))))))
    · show (IntKind.i64.wrap (IntKind.i64.wrap (a * c) + IntKind.i64.wrap (c * b)) == IntKind.i64.wrap (IntKind.i64.wrap (a + b) * c)) = true
      rw [ring2]; simp
    · exact awake5_s fun w' he => hk _ (he10.trans he)

/-! ### the lift -/
theorem own : ownKnob Try.prog.godebug = none := by kernel_rfl
theorem walk (W : World) (args : Array Value) (hA : Args Try.prog W Try.f8.params.toList args.toList) :
    Calls Try.prog 8 args W fun e W' => e = .returned (.bool true) ∧ Below W.heap.size W W' := by
  rw [Try.params8] at hA
  obtain ⟨v0, _, e0, h0, hA⟩ := hA.cons
  obtain ⟨v1, _, rfl, h1, hA⟩ := hA.cons
  obtain ⟨v2, _, rfl, h2, hA⟩ := hA.cons
  obtain rfl := hA.nil
  obtain rfl : args = #[v0, v1, v2] := by cases args; simp_all
  obtain ⟨a, rfl, ha⟩ := h0.int (by kernel_rfl)
  obtain ⟨b, rfl, hb⟩ := h1.int (by kernel_rfl)
  obtain ⟨c, rfl, hc⟩ := h2.int (by kernel_rfl)
  refine (s8.2 _ W (fun v w' => v = .bool true ∧ Below W.heap.size W w') ?_).mono ?_
  · have h := law (a := a) (b := b) (c := c) (k := fun r w' => packV (valL [.b] r) = .bool true ∧ Below W.heap.size W w') ha fun w' he => ⟨rfl, he.below⟩
    exact h
  · rintro e w' ⟨v, rfl, rfl, hb⟩
    exact ⟨rfl, hb⟩

theorem lifted (os : Os) (started : os.Started) (H : Type) (enc : TypeId × Value → H) :
    ReturnsInHanded {} Try.checked os 8 .any (Rows.frameRingSpec.pre6 enc Try.prog Try.f8 Rows.frameRingRow.domain false) (Rows.frameRingSpec.post enc Try.prog Try.f8 false true false false) :=
  law_lifted (C := Try.checked) own started (by kernel_rfl) Try.func8
    (ChangeSpec.witness6 (enc := enc) (C := Try.checked) false ⟨#[], #[.int .i64 0, .int .i64 0, .int .i64 0], []⟩ 8 (by kernel_rfl) (by kernel_rfl) (by kernel_rfl) (by kernel_rfl))
    rfl (by kernel_rfl) (by kernel_rfl) (tb := 4) (by kernel_rfl) (by kernel_rfl)
    (fun ds h => by
      match ds, h with
      | [_, _, _], _ => rfl)
    walk

theorem over : Rows.frameRingRow.holds Try.pinned (OpenSpec.ofChange Rows.frameRingSpec) :=
  OpenClaim.holds_of_wide 8 Try.f8 rfl rfl rfl rfl rfl rfl rfl ⟨rfl, rfl, rfl, rfl, rfl⟩ rfl rfl rfl rfl rfl (by kernel_rfl) Try.func8 (by kernel_rfl)
    (of_decide_eq_true (by kernel_rfl)) (by unfold Func.isWrapper; first | (rw [if_pos (by decide +kernel)]; kernel_rfl) | (rw [if_neg (by decide +kernel)]; exact ⟨rfl, rfl⟩))
    (fun os started H enc _ => lifted os started H enc)

theorem proved : Rows.FrameRingSaid := over
#print axioms proved
end Go.Proofs.Ytkcakjckpbldoaa.FrameRing
