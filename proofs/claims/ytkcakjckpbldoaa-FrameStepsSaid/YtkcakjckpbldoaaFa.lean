/-
  Layer 5, and what it asks of layer 2: tasks, what passes on, which instructions may be.
-/
import Derived.Test.YtkcakjckpbldoaaEvP
import Derived.Test.YtkcakjckpbldoaaFf
set_option linter.unusedSimpArgs false
set_option linter.unusedVariables false
set_option maxRecDepth 100000
namespace Go.Proofs.Ytkcakjckpbldoaa
open Go Go.Ev Go.Proofs

/-- a task that passed to an instruction: Func, PC, R 0..7, H 0..7, Steps -/
def fTo (f : List Int) (pc : Int) : List Int := (f.set 1 pc).set 18 (IntKind.i64.wrap ((f.set 1 pc).getD 18 0 + 1))
def fOn (f : List Int) : List Int := fTo f (IntKind.i64.wrap (f.getD 1 0 + 1))
theorem fTo_len {f : List Int} {pc : Int} : (fTo f pc).length = f.length := by simp [fTo]
theorem fOn_len {f : List Int} : (fOn f).length = f.length := fTo_len
abbrev Z (n : Nat) : List Int := List.replicate n 0

theorem to_s {f : List Int} {pc : Int} {w : World} {k : Array Value → World → Prop} (hf : f.length = 19) (hk : ∀ w', Ext w w' → k (agI (fTo f pc)) w') : frame_Frame_to (agI f) pc w k := by
  unfold frame_Frame_to
  refine newC_i fun g1 w1 hg1 hs1 hb1 he1 => newC_i fun g2 w2 hg2 hs2 hb2 he2 => ?_
  have hb1' : BI w2 g1 f := hb1.ext he2
  simp only [add_mk, Nat.zero_add]
  refine stC_I hb1' (by omega) fun w3 hb3 hs3 ho3 => ?_
  refine ldP_I hb3 (by simp; omega) ?_
  refine stC_I hb3 (by simp; omega) fun w4 hb4 hs4 ho4 => ?_
  refine ldA_I hb4 (by simp [hf]) ?_
  have hb2' := (hb2.keep ho3 (by omega)).keep ho4 (by omega)
  refine stA_I hb2' rfl (by simp [hf]) fun w5 hb5 hs5 ho5 => ldA_I hb5 (by simp [hf]) ?_
  exact hk _ ((((he1.trans he2).then ho3 fun g hg => by omega).then ho4 fun g hg => by omega).then ho5 fun g hg => by have := he1.size; omega)

theorem on_s {f : List Int} {w : World} {k : Array Value → World → Prop} (hf : f.length = 19) (hk : ∀ w', Ext w w' → k (agI (fOn f)) w') : frame_Frame_Passed (agI f) w k := by
  unfold frame_Frame_Passed
  refine newC_i fun g1 w1 hg1 hs1 hb1 he1 => newC_i fun g2 w2 hg2 hs2 hb2 he2 => ?_
  have hb1' : BI w2 g1 f := hb1.ext he2
  simp only [add_mk, Nat.zero_add]
  refine ldA_I hb1' hf (ldP_I hb1' (by omega) (to_s hf fun w3 he3 => ?_))
  refine stA_I (hb2.ext he3) rfl (by simp [fTo_len, hf]) fun w5 hb5 hs5 ho5 => ldA_I hb5 (by simp [fTo_len, hf]) ?_
  exact hk _ (((he1.trans he2).trans he3).then ho5 fun g hg => by have := he1.size; omega)

theorem rto_s {f : List Int} {pc : Int} {w : World} {k : Array Value → World → Prop} (hf : f.length = 19) (hk : ∀ w', Ext w w' → k (agI (fTo f pc)) w') : pelotonref05_Task_To (agI f) pc w k := by
  unfold pelotonref05_Task_To
  refine newC_i fun g1 w1 hg1 hs1 hb1 he1 => newC_i fun g2 w2 hg2 hs2 hb2 he2 => ?_
  have hb1' : BI w2 g1 f := hb1.ext he2
  simp only [add_mk, Nat.zero_add]
  refine stC_I hb1' (by omega) fun w3 hb3 hs3 ho3 => ?_
  refine ldP_I hb3 (by simp; omega) ?_
  refine stC_I hb3 (by simp; omega) fun w4 hb4 hs4 ho4 => ?_
  refine ldA_I hb4 (by simp [hf]) ?_
  have hb2' := (hb2.keep ho3 (by omega)).keep ho4 (by omega)
  refine stA_I hb2' rfl (by simp [hf]) fun w5 hb5 hs5 ho5 => ldA_I hb5 (by simp [hf]) ?_
  exact hk _ ((((he1.trans he2).then ho3 fun g hg => by omega).then ho4 fun g hg => by omega).then ho5 fun g hg => by have := he1.size; omega)

theorem ron_s {f : List Int} {w : World} {k : Array Value → World → Prop} (hf : f.length = 19) (hk : ∀ w', Ext w w' → k (agI (fOn f)) w') : pelotonref05_Task_On (agI f) w k := by
  unfold pelotonref05_Task_On
  refine newC_i fun g1 w1 hg1 hs1 hb1 he1 => newC_i fun g2 w2 hg2 hs2 hb2 he2 => ?_
  have hb1' : BI w2 g1 f := hb1.ext he2
  simp only [add_mk, Nat.zero_add]
  refine ldA_I hb1' hf (ldP_I hb1' (by omega) (rto_s hf fun w3 he3 => ?_))
  refine stA_I (hb2.ext he3) rfl (by simp [fTo_len, hf]) fun w5 hb5 hs5 ho5 => ldA_I hb5 (by simp [fTo_len, hf]) ?_
  exact hk _ (((he1.trans he2).trans he3).then ho5 fun g hg => by have := he1.size; omega)

theorem with_s {f : List Int} {a v : Int} {w : World} {k : Array Value → World → Prop} (hf : f.length = 19) (h0 : 0 ≤ a) (h1 : a < 8) (hk : ∀ w', Ext w w' → k (agI (f.set (2 + a.toNat) v)) w') : pelotonref05_Task_With (agI f) a v w k := by
  unfold pelotonref05_Task_With
  refine newC_i fun g1 w1 hg1 hs1 hb1 he1 => newC_i fun g2 w2 hg2 hs2 hb2 he2 => ?_
  have hb1' : BI w2 g1 f := hb1.ext he2
  simp only [add_mk, Nat.zero_add]
  refine ixP_i h0 (by omega) ?_
  rw [Nat.mul_one]
  refine stC_I hb1' (by omega) fun w3 hb3 hs3 ho3 => ?_
  refine ldA_I hb3 (by simp [hf]) ?_
  refine stA_I (hb2.keep ho3 (by omega)) rfl (by simp [hf]) fun w5 hb5 hs5 ho5 => ldA_I hb5 (by simp [hf]) ?_
  exact hk _ (((he1.trans he2).then ho3 fun g hg => by omega).then ho5 fun g hg => by have := he1.size; omega)

theorem list19 {l : List Int} (h : l.length = 19) : ∃ a b c d e f g h i j k m n o p q r s t, l = [a, b, c, d, e, f, g, h, i, j, k, m, n, o, p, q, r, s, t] := by
  match l, h with
  | [a, b, c, d, e, f, g, h, i, j, k, m, n, o, p, q, r, s, t], _ => exact ⟨a, b, c, d, e, f, g, h, i, j, k, m, n, o, p, q, r, s, t, rfl⟩
theorem plain_s {f : List Int} {w : World} {k : Array Value → World → Prop} (hf : f.length = 19) (hk : ∀ w', Ext w w' → k (agI f) w') : pelotonlaw05_plain (agI f) w k := by
  unfold pelotonlaw05_plain
  refine newC_i fun g1 w1 hg1 hs1 hb1 he1 => newC_i fun g2 w2 hg2 hs2 hb2 he2 => ?_
  have hb1' : BI w2 g1 f := hb1.ext he2
  simp only [add_mk, Nat.zero_add]
  refine ldP_I hb1' (by omega) (ldP_I hb1' (by omega) (ldA_P hb1' (by omega) (ldA_P hb1' (by omega) (ldP_I hb1' (by omega) ?_))))
  refine spl_I (l := [f.getD 0 0, f.getD 1 0] ++ Z 17) (by simp; omega) (by simp) (spl_I (by simp; omega) (by simp; omega) ?_)
  rw [ints_set]
  have e : (List.take 10 (List.take 2 ([f.getD 0 0, f.getD 1 0] ++ Z 17) ++ (List.take 8 (List.drop 2 f) ++ List.drop (2 + 8) ([f.getD 0 0, f.getD 1 0] ++ Z 17))) ++
          (List.take 8 (List.drop 10 f) ++ List.drop (10 + 8) (List.take 2 ([f.getD 0 0, f.getD 1 0] ++ Z 17) ++ (List.take 8 (List.drop 2 f) ++ List.drop (2 + 8) ([f.getD 0 0, f.getD 1 0] ++ Z 17))))).set 18 (f.getD 18 0) = f := by
    obtain ⟨a, b, c, d, e, x5, x6, x7, i, j, x10, m, n, o, p, q, r, s, t, rfl⟩ := list19 hf
    rfl
  rw [e]
  refine stA_I hb2 rfl hf fun w5 hb5 hs5 ho5 => ldA_I hb5 hf ?_
  exact hk _ ((he1.trans he2).then ho5 fun g hg => by have := he1.size; omega)

/-- the first task -/
def fRoot : List Int := [0, 0, 0, 0, 0, 0, 0, 0, 0, 0, -1, -1, -1, -1, -1, -1, -1, -1, 0]
theorem rroot_s {w : World} {k : Array Value → World → Prop} (hk : ∀ w', Ext w w' → k (agI fRoot) w') : pelotonref05_Root w k := by
  unfold pelotonref05_Root
  refine newC_i fun g1 w1 hg1 hs1 hb1 he1 => spl_i _ rfl rfl ?_
  refine stA_I (l := fRoot) hb1 rfl rfl fun w5 hb5 hs5 ho5 => ldA_I hb5 rfl ?_
  exact hk _ (he1.then ho5 fun g hg => by omega)
theorem rep_succ {i : Nat} (h : i < 8) : (List.replicate 10 (0 : Int) ++ (List.replicate i (-1) ++ List.replicate (9 - i) 0)).set (10 + i) (-1) = List.replicate 10 0 ++ (List.replicate (i + 1) (-1) ++ List.replicate (9 - (i + 1)) 0) := by
  match i, h with
  | 0, _ => rfl
  | 1, _ => rfl
  | 2, _ => rfl
  | 3, _ => rfl
  | 4, _ => rfl
  | 5, _ => rfl
  | 6, _ => rfl
  | 7, _ => rfl
theorem root_s {w : World} {k : Array Value → World → Prop} (hk : ∀ w', Ext w w' → k (agI fRoot) w') : frame_Root w k := by
  unfold frame_Root
  refine newC_i fun g1 w1 hg1 hs1 hb1 he1 => newC_i fun g2 w2 hg2 hs2 hb2 he2 => ?_
  simp only [add_mk, Nat.zero_add]
  have hb2z : BI w2 g2 (List.replicate 10 0 ++ (List.replicate 0 (-1) ++ List.replicate (9 - 0) 0)) := by
    have e : (List.replicate 10 (0 : Int) ++ (List.replicate 0 (-1) ++ List.replicate (9 - 0) 0)) = Z 19 := by decide
    rw [e]; exact hb2
  refine loopP_of (fun (x : Int) w' => ∃ i : Nat, x = i ∧ i ≤ 8 ∧ BI w' g2 (List.replicate 10 0 ++ (List.replicate i (-1) ++ List.replicate (9 - i) 0)) ∧ Only (fun k => k = g2) w2 w') (fun x _ => (8 - x).toNat) ⟨0, rfl, by omega, hb2z, .refl _ _⟩ ?_
  rintro _ w3 ⟨i, rfl, hi, hb3, ho3⟩ C hC
  refine iteB_i (fun hlt => ?_) (fun hge => ?_)
  · have hlt : i < 8 := by have : (i : Int) < 8 := by simpa using hlt
                           omega
    refine ixP_i (by omega) (by omega) ?_
    simp only [Int.toNat_natCast, Nat.mul_one]
    refine stC_I hb3 (by simp; omega) fun w4 hb4 hs4 ho4 => ?_
    have hw : IntKind.i64.wrap ((i : Int) + 1) = ((i + 1 : Nat) : Int) := by rw [wrap_id ⟨by omega, by omega⟩]; simp
    exact hC _ _ ⟨i + 1, hw, by omega, by rw [← rep_succ hlt]; exact hb4, ho3.trans ho4 (fun _ _ h => h) fun _ _ h => h⟩ (by rw [hw]; omega)
  · have hge : i = 8 := by have : ¬ (i : Int) < 8 := by simpa using hge
                           omega
    subst hge
    refine ldA_I (l := fRoot) hb3 rfl ?_
    refine stA_I (l := fRoot) ((hb1.ext he2).keep ho3 (by omega)) rfl rfl fun w5 hb5 hs5 ho5 => ldA_I hb5 rfl ?_
    exact hk _ (((he1.trans he2).then ho3 fun g hg => by have := he1.size; omega).then ho5 fun g hg => by omega)

theorem same_s {f : List Int} {w : World} {k : Bool → World → Prop} (hf : f.length = 19) (hk : ∀ w', Ext w w' → k true w') : pelotonlaw05_Same (agI f) (agI f) w k := by
  unfold pelotonlaw05_Same
  refine newC_i fun g1 w1 hg1 hs1 hb1 he1 => newC_i fun g2 w2 hg2 hs2 hb2 he2 => ?_
  have hb1' : BI w2 g1 f := hb1.ext he2
  have hb2' : BI w2 g2 f := hb2
  simp only [add_mk, Nat.zero_add]
  refine ldP_I hb1' (by omega) (ldP_I hb2' (by omega) (iteB_t (by simp) ?_))
  refine ldP_I hb1' (by omega) (ldP_I hb2' (by omega) (iteB_t (by simp) ?_))
  refine ldA_P hb1' (by omega) (ldA_P hb2' (by omega) (eqA_I (n := 8) (by simp; omega) (by simp; omega) (iteB_t (by simp) ?_)))
  refine ldA_P hb1' (by omega) (ldA_P hb2' (by omega) (eqA_I (n := 8) (by simp; omega) (by simp; omega) (iteB_t (by simp) ?_)))
  refine ldP_I hb1' (by omega) (ldP_I hb2' (by omega) ?_)
  rw [beq_self_eq_true]
  exact hk _ (he1.trans he2)

def usualB (f : List Int) : Bool := decide (0 ≤ f.getD 1 0 ∧ f.getD 1 0 < 2147483648 ∧ 0 ≤ f.getD 18 0 ∧ f.getD 18 0 < 2147483648)
theorem usual_s {f : List Int} {w : World} {k : Bool → World → Prop} (hf : f.length = 19) (hk : ∀ w', Ext w w' → k (usualB f) w') : pelotonlaw05_usual (agI f) w k := by
  unfold pelotonlaw05_usual usualB at *
  refine newC_i fun g1 w1 hg1 hs1 hb1 he1 => ?_
  have hb1' : BI w1 g1 f := hb1
  simp only [add_mk, Nat.zero_add]
  have h := hk _ he1
  refine ldP_I hb1' (by omega) (iteB_i (fun h1 => ?_) fun h1 => ?_)
  · refine ldP_I hb1' (by omega) (iteB_i (fun h2 => ?_) fun h2 => ?_)
    · refine ldP_I hb1' (by omega) (iteB_i (fun h3 => ?_) fun h3 => ?_)
      · refine ldP_I hb1' (by omega) ?_
        simp only [decide_eq_true_eq] at h1 h2 h3
        have e : (decide (f.getD 18 0 < 2147483648)) = decide (0 ≤ f.getD 1 0 ∧ f.getD 1 0 < 2147483648 ∧ 0 ≤ f.getD 18 0 ∧ f.getD 18 0 < 2147483648) := by
          rw [decide_eq_decide]; omega
        rw [e]; exact h
      all_goals skip
      simp only [decide_eq_false_iff_not] at h3
      rw [decide_eq_false (by omega)] at h
      exact h
    · simp only [decide_eq_false_iff_not] at h2
      rw [decide_eq_false (by omega)] at h
      exact h
  · simp only [decide_eq_false_iff_not] at h1
    rw [decide_eq_false (by omega)] at h
    exact h

/-! ### which instructions may be -/
/-- the kinds of the four operands, instruction by instruction -/
def kindsT : List Int := [1, 0, 0, 5, 1, 1, 0, 0, 1, 1, 1, 0, 1, 1, 1, 0, 1, 1, 1, 0, 1, 1, 1, 0, 0, 0, 0, 2, 1, 0, 0, 2, 1, 0, 0, 3, 1, 1, 0, 0, 1, 1, 1, 0, 0, 0, 0, 4, 1, 0, 0, 0, 0, 0, 0, 0, 0, 0, 0, 0, 1, 0, 0, 0, 1, 0, 0, 0]
def spanV (k : Int) : Int × Int := if k = 1 then (0, 7) else if k = 2 then (0, 127) else if k = 3 then (0, 31) else if k = 4 then (0, 65535) else if k = 5 then (-2147483648, 2147483647) else (0, 0)
def spanOf (op j : Nat) : Int × Int := spanV (kindsT.getD (4 * op + j) 0)
def inSpan (i : List Int) (j : Nat) : Bool := decide ((spanOf (i.getD 0 0).toNat j).1 ≤ i.getD (j + 1) 0 ∧ i.getD (j + 1) 0 ≤ (spanOf (i.getD 0 0).toNat j).2)
def chk (i : List Int) : Int := if i.getD 0 0 < 0 ∨ i.getD 0 0 ≥ 17 then 13 else if inSpan i 0 && inSpan i 1 && inSpan i 2 && inSpan i 3 then 0 else 10

theorem span_s {x : Int} {w : World} {k : Int × Int → World → Prop} (hk : k (spanV x) w) : code_span x w k := by
  unfold code_span
  unfold spanV at hk
  refine iteB_i (fun h => ?_) (fun h => ?_)
  · rw [if_pos (by simpa using h)] at hk; exact hk
  rw [if_neg (by simpa using h)] at hk
  refine iteB_i (fun h => ?_) (fun h => ?_)
  · rw [if_pos (by simpa using h)] at hk; exact hk
  rw [if_neg (by simpa using h)] at hk
  refine iteB_i (fun h => ?_) (fun h => ?_)
  · rw [if_pos (by simpa using h)] at hk; exact hk
  rw [if_neg (by simpa using h)] at hk
  refine iteB_i (fun h => ?_) (fun h => ?_)
  · rw [if_pos (by simpa using h)] at hk; exact hk
  rw [if_neg (by simpa using h)] at hk
  refine iteB_i (fun h => ?_) (fun h => ?_)
  · rw [if_pos (by simpa using h)] at hk; exact hk
  rw [if_neg (by simpa using h)] at hk
  exact hk

theorem operands_s {op : Int} {w : World} {k : Array Value → World → Prop} (h0 : 0 ≤ op) (h1 : op < 17) (hk : ∀ w', Ext w w' → k (agI ((kindsT.drop (op.toNat * 4)).take 4)) w') : code_operands op w k := by
  unfold code_operands
  refine newC_i fun g1 w1 hg1 hs1 hb1 he1 => ?_
  refine spl_i (agI (kindsT.take 4 ++ Z 64)) rfl rfl ?_
  refine spl_i (agI (kindsT.take 8 ++ Z 60)) rfl rfl ?_
  refine spl_i (agI (kindsT.take 12 ++ Z 56)) rfl rfl ?_
  refine spl_i (agI (kindsT.take 16 ++ Z 52)) rfl rfl ?_
  refine spl_i (agI (kindsT.take 20 ++ Z 48)) rfl rfl ?_
  refine spl_i (agI (kindsT.take 24 ++ Z 44)) rfl rfl ?_
  refine spl_i (agI (kindsT.take 28 ++ Z 40)) rfl rfl ?_
  refine spl_i (agI (kindsT.take 32 ++ Z 36)) rfl rfl ?_
  refine spl_i (agI (kindsT.take 36 ++ Z 32)) rfl rfl ?_
  refine spl_i (agI (kindsT.take 40 ++ Z 28)) rfl rfl ?_
  refine spl_i (agI (kindsT.take 44 ++ Z 24)) rfl rfl ?_
  refine spl_i (agI (kindsT.take 48 ++ Z 20)) rfl rfl ?_
  refine spl_i (agI (kindsT.take 52 ++ Z 16)) rfl rfl ?_
  refine spl_i (agI (kindsT.take 56 ++ Z 12)) rfl rfl ?_
  refine spl_i (agI (kindsT.take 60 ++ Z 8)) rfl rfl ?_
  refine spl_i (agI (kindsT.take 64 ++ Z 4)) rfl rfl ?_
  refine spl_i (agI kindsT) rfl rfl ?_
  refine newC_i fun g2 w2 hg2 hs2 hb2 he2 => ?_
  refine stA_I hb2 rfl rfl fun w3 hb3 hs3 ho3 => ?_
  have hb1' := (hb1.ext he2).keep ho3 (by omega)
  refine ixP_i h0 (by omega) ?_
  rw [Nat.zero_add]
  have hl : kindsT.length = 68 := rfl
  refine ldA_P hb3 (by omega) ?_
  refine stA_I hb1' rfl (by simp [hl]; omega) fun w4 hb4 hs4 ho4 => ldA_I hb4 (by simp [hl]; omega) ?_
  exact hk _ (((he1.trans he2).then ho3 fun g hg => by have := he1.size; omega).then ho4 fun g hg => by omega)

end Go.Proofs.Ytkcakjckpbldoaa
