/-
  Layer 5, and what it asks of layer 2: tasks, what passes on, which instructions may be.
  Layer 5, and what it asks of layer 2: which instructions may be; what concerns registers alone.
  Layer 5: what concerns registers alone.
  Layer 5: the document's answer, for what concerns registers alone; the chapter's example.
  Layer 5: closes, forks, joins.
  Layer 5: children.
-/
import Derived.Test.YtgkfbagclkjilaaFu
import Derived.Test.YtgkfbagclkjilaaEvP
import Derived.Test.YtgkfbagclkjilaaEvT
set_option linter.unusedSimpArgs false
set_option linter.unusedVariables false
set_option maxRecDepth 100000
namespace Go.Proofs.Ytgkfbagclkjilaa.Fr
open Go Go.Ev Go.Proofs

/-- a task that passed to an instruction: Func, PC, R 0..7, H 0..7, Steps -/
def fTo (f : List Int) (pc : Int) : List Int := (f.set 1 pc).set 18 (IntKind.i64.wrap ((f.set 1 pc).getD 18 0 + 1))
def fOn (f : List Int) : List Int := fTo f (IntKind.i64.wrap (f.getD 1 0 + 1))
theorem fTo_len {f : List Int} {pc : Int} : (fTo f pc).length = f.length := by simp [fTo]
theorem fOn_len {f : List Int} : (fOn f).length = f.length := fTo_len
abbrev Z (n : Nat) : List Int := List.replicate n 0

theorem to_s {f : List Int} {pc : Int} {w : World} {k : Array Value → World → Prop} (hf : f.length = 19) (hk : ∀ w', Ext w w' → k (agI (fTo f pc)) w') : frame_Frame_to (agI f) pc w k := by
  unfold frame_Frame_to
  refine newC_i fun g1 w1 hg1 hs1 hb1 he1 => newC_i fun g2 w2 hg2 hs2 hb2 he2 => ?_
  have hb1' : BI w2 g1 f := hb1.ext he2
  simp only [add_mk, Nat.zero_add]
  refine stC_I hb1' (by omega) fun w3 hb3 hs3 ho3 => ?_
  refine ldP_I hb3 (by simp; omega) ?_
  refine stC_I hb3 (by simp; omega) fun w4 hb4 hs4 ho4 => ?_
  refine ldA_I hb4 (by simp [hf]) ?_
  have hb2' := (hb2.keep ho3 (by omega)).keep ho4 (by omega)
  refine stA_I hb2' rfl (by simp [hf]) fun w5 hb5 hs5 ho5 => ldA_I hb5 (by simp [hf]) ?_
  exact hk _ ((((he1.trans he2).then ho3 fun g hg => by omega).then ho4 fun g hg => by omega).then ho5 fun g hg => by have := he1.size; omega)

theorem on_s {f : List Int} {w : World} {k : Array Value → World → Prop} (hf : f.length = 19) (hk : ∀ w', Ext w w' → k (agI (fOn f)) w') : frame_Frame_Passed (agI f) w k := by
  unfold frame_Frame_Passed frame_Frame_Passed_b
  refine newC_i fun g1 w1 hg1 hs1 hb1 he1 => newC_i fun g2 w2 hg2 hs2 hb2 he2 => ?_
  have hb1' : BI w2 g1 f := hb1.ext he2
  simp only [add_mk, Nat.zero_add]
  refine ldA_I hb1' hf (ldP_I hb1' (by omega) (to_s hf fun w3 he3 => ?_))
  refine stA_I (hb2.ext he3) rfl (by simp [fTo_len, hf]) fun w5 hb5 hs5 ho5 => ldA_I hb5 (by simp [fTo_len, hf]) ?_
  exact hk _ (((he1.trans he2).trans he3).then ho5 fun g hg => by have := he1.size; omega)

theorem rto_s {f : List Int} {pc : Int} {w : World} {k : Array Value → World → Prop} (hf : f.length = 19) (hk : ∀ w', Ext w w' → k (agI (fTo f pc)) w') : pelotonref05_Task_To (agI f) pc w k := by
  unfold pelotonref05_Task_To
  refine newC_i fun g1 w1 hg1 hs1 hb1 he1 => newC_i fun g2 w2 hg2 hs2 hb2 he2 => ?_
  have hb1' : BI w2 g1 f := hb1.ext he2
  simp only [add_mk, Nat.zero_add]
  refine stC_I hb1' (by omega) fun w3 hb3 hs3 ho3 => ?_
  refine ldP_I hb3 (by simp; omega) ?_
  refine stC_I hb3 (by simp; omega) fun w4 hb4 hs4 ho4 => ?_
  refine ldA_I hb4 (by simp [hf]) ?_
  have hb2' := (hb2.keep ho3 (by omega)).keep ho4 (by omega)
  refine stA_I hb2' rfl (by simp [hf]) fun w5 hb5 hs5 ho5 => ldA_I hb5 (by simp [hf]) ?_
  exact hk _ ((((he1.trans he2).then ho3 fun g hg => by omega).then ho4 fun g hg => by omega).then ho5 fun g hg => by have := he1.size; omega)

theorem ron_s {f : List Int} {w : World} {k : Array Value → World → Prop} (hf : f.length = 19) (hk : ∀ w', Ext w w' → k (agI (fOn f)) w') : pelotonref05_Task_On (agI f) w k := by
  unfold pelotonref05_Task_On pelotonref05_Task_On_b
  refine newC_i fun g1 w1 hg1 hs1 hb1 he1 => newC_i fun g2 w2 hg2 hs2 hb2 he2 => ?_
  have hb1' : BI w2 g1 f := hb1.ext he2
  simp only [add_mk, Nat.zero_add]
  refine ldA_I hb1' hf (ldP_I hb1' (by omega) (rto_s hf fun w3 he3 => ?_))
  refine stA_I (hb2.ext he3) rfl (by simp [fTo_len, hf]) fun w5 hb5 hs5 ho5 => ldA_I hb5 (by simp [fTo_len, hf]) ?_
  exact hk _ (((he1.trans he2).trans he3).then ho5 fun g hg => by have := he1.size; omega)

theorem with_s {f : List Int} {a v : Int} {w : World} {k : Array Value → World → Prop} (hf : f.length = 19) (h0 : 0 ≤ a) (h1 : a < 8) (hk : ∀ w', Ext w w' → k (agI (f.set (2 + a.toNat) v)) w') : pelotonref05_Task_With (agI f) a v w k := by
  unfold pelotonref05_Task_With
  refine newC_i fun g1 w1 hg1 hs1 hb1 he1 => newC_i fun g2 w2 hg2 hs2 hb2 he2 => ?_
  have hb1' : BI w2 g1 f := hb1.ext he2
  simp only [add_mk, Nat.zero_add]
  refine ixP_i h0 (by omega) ?_
  rw [Nat.mul_one]
  refine stC_I hb1' (by omega) fun w3 hb3 hs3 ho3 => ?_
  refine ldA_I hb3 (by simp [hf]) ?_
  refine stA_I (hb2.keep ho3 (by omega)) rfl (by simp [hf]) fun w5 hb5 hs5 ho5 => ldA_I hb5 (by simp [hf]) ?_
  exact hk _ (((he1.trans he2).then ho3 fun g hg => by omega).then ho5 fun g hg => by have := he1.size; omega)

theorem list19 {l : List Int} (h : l.length = 19) : ∃ a b c d e f g h i j k m n o p q r s t, l = [a, b, c, d, e, f, g, h, i, j, k, m, n, o, p, q, r, s, t] := by
  match l, h with
  | [a, b, c, d, e, f, g, h, i, j, k, m, n, o, p, q, r, s, t], _ => exact ⟨a, b, c, d, e, f, g, h, i, j, k, m, n, o, p, q, r, s, t, rfl⟩
/-- the first task -/
def fRoot : List Int := [0, 0, 0, 0, 0, 0, 0, 0, 0, 0, -1, -1, -1, -1, -1, -1, -1, -1, 0]
theorem rroot_s {w : World} {k : Array Value → World → Prop} (hk : ∀ w', Ext w w' → k (agI fRoot) w') : pelotonref05_Root w k := by
  unfold pelotonref05_Root
  refine newC_i fun g1 w1 hg1 hs1 hb1 he1 => spl_i _ rfl rfl ?_
  refine stA_I (l := fRoot) hb1 rfl rfl fun w5 hb5 hs5 ho5 => ldA_I hb5 rfl ?_
  exact hk _ (he1.then ho5 fun g hg => by omega)
theorem rep_succ {i : Nat} (h : i < 8) : (List.replicate 10 (0 : Int) ++ (List.replicate i (-1) ++ List.replicate (9 - i) 0)).set (10 + i) (-1) = List.replicate 10 0 ++ (List.replicate (i + 1) (-1) ++ List.replicate (9 - (i + 1)) 0) := by
  match i, h with
  | 0, _ => rfl
  | 1, _ => rfl
  | 2, _ => rfl
  | 3, _ => rfl
  | 4, _ => rfl
  | 5, _ => rfl
  | 6, _ => rfl
  | 7, _ => rfl
theorem root_s {w : World} {k : Array Value → World → Prop} (hk : ∀ w', Ext w w' → k (agI fRoot) w') : frame_Root w k := by
  unfold frame_Root
  refine newC_i fun g1 w1 hg1 hs1 hb1 he1 => newC_i fun g2 w2 hg2 hs2 hb2 he2 => ?_
  simp only [add_mk, Nat.zero_add]
  have hb2z : BI w2 g2 (List.replicate 10 0 ++ (List.replicate 0 (-1) ++ List.replicate (9 - 0) 0)) := by
    have e : (List.replicate 10 (0 : Int) ++ (List.replicate 0 (-1) ++ List.replicate (9 - 0) 0)) = Z 19 := by decide
    rw [e]; exact hb2
  refine loopP_of (fun (x : Int) w' => ∃ i : Nat, x = i ∧ i ≤ 8 ∧ BI w' g2 (List.replicate 10 0 ++ (List.replicate i (-1) ++ List.replicate (9 - i) 0)) ∧ Only (fun k => k = g2) w2 w') (fun x _ => (8 - x).toNat) ⟨0, rfl, by omega, hb2z, .refl _ _⟩ ?_
  rintro _ w3 ⟨i, rfl, hi, hb3, ho3⟩ C hC
  refine iteB_i (fun hlt => ?_) (fun hge => ?_)
  · have hlt : i < 8 := by have : (i : Int) < 8 := by simpa using hlt
                           omega
    refine ixP_i (by omega) (by omega) ?_
    simp only [Int.toNat_natCast, Nat.mul_one]
    refine stC_I hb3 (by simp; omega) fun w4 hb4 hs4 ho4 => ?_
    have hw : IntKind.i64.wrap ((i : Int) + 1) = ((i + 1 : Nat) : Int) := by rw [wrap_id ⟨by omega, by omega⟩]; simp
    exact hC _ _ ⟨i + 1, hw, by omega, by rw [← rep_succ hlt]; exact hb4, ho3.trans ho4 (fun _ _ h => h) fun _ _ h => h⟩ (by rw [hw]; omega)
  · have hge : i = 8 := by have : ¬ (i : Int) < 8 := by simpa using hge
                           omega
    subst hge
    refine ldA_I (l := fRoot) hb3 rfl ?_
    refine stA_I (l := fRoot) ((hb1.ext he2).keep ho3 (by omega)) rfl rfl fun w5 hb5 hs5 ho5 => ldA_I hb5 rfl ?_
    exact hk _ (((he1.trans he2).then ho3 fun g hg => by have := he1.size; omega).then ho5 fun g hg => by omega)

def usualB (f : List Int) : Bool := decide (0 ≤ f.getD 1 0 ∧ f.getD 1 0 < 2147483648 ∧ 0 ≤ f.getD 18 0 ∧ f.getD 18 0 < 2147483648)
/-! ### which instructions may be -/
/-- the kinds of the four operands, instruction by instruction -/
def kindsT : List Int := [1, 0, 0, 5, 1, 1, 0, 0, 1, 1, 1, 0, 1, 1, 1, 0, 1, 1, 1, 0, 1, 1, 1, 0, 0, 0, 0, 2, 1, 0, 0, 2, 1, 0, 0, 3, 1, 1, 0, 0, 1, 1, 1, 0, 0, 0, 0, 4, 1, 0, 0, 0, 0, 0, 0, 0, 0, 0, 0, 0, 1, 0, 0, 0, 1, 0, 0, 0]
def spanV (k : Int) : Int × Int := if k = 1 then (0, 7) else if k = 2 then (0, 127) else if k = 3 then (0, 31) else if k = 4 then (0, 65535) else if k = 5 then (-2147483648, 2147483647) else (0, 0)
def spanOf (op j : Nat) : Int × Int := spanV (kindsT.getD (4 * op + j) 0)
def inSpan (i : List Int) (j : Nat) : Bool := decide ((spanOf (i.getD 0 0).toNat j).1 ≤ i.getD (j + 1) 0 ∧ i.getD (j + 1) 0 ≤ (spanOf (i.getD 0 0).toNat j).2)
def chk (i : List Int) : Int := if i.getD 0 0 < 0 ∨ i.getD 0 0 ≥ 17 then 13 else if inSpan i 0 && inSpan i 1 && inSpan i 2 && inSpan i 3 then 0 else 10

theorem span_s {x : Int} {w : World} {k : Int × Int → World → Prop} (hk : k (spanV x) w) : code_span x w k := by
  unfold code_span
  unfold spanV at hk
  refine iteB_i (fun h => ?_) (fun h => ?_)
  · rw [if_pos (by simpa using h)] at hk; exact hk
  rw [if_neg (by simpa using h)] at hk
  refine iteB_i (fun h => ?_) (fun h => ?_)
  · rw [if_pos (by simpa using h)] at hk; exact hk
  rw [if_neg (by simpa using h)] at hk
  refine iteB_i (fun h => ?_) (fun h => ?_)
  · rw [if_pos (by simpa using h)] at hk; exact hk
  rw [if_neg (by simpa using h)] at hk
  refine iteB_i (fun h => ?_) (fun h => ?_)
  · rw [if_pos (by simpa using h)] at hk; exact hk
  rw [if_neg (by simpa using h)] at hk
  refine iteB_i (fun h => ?_) (fun h => ?_)
  · rw [if_pos (by simpa using h)] at hk; exact hk
  rw [if_neg (by simpa using h)] at hk
  exact hk

theorem operands_s {op : Int} {w : World} {k : Array Value → World → Prop} (h0 : 0 ≤ op) (h1 : op < 17) (hk : ∀ w', Ext w w' → k (agI ((kindsT.drop (op.toNat * 4)).take 4)) w') : code_operands op w k := by
  unfold code_operands
  refine newC_i fun g1 w1 hg1 hs1 hb1 he1 => ?_
  refine spl_i (agI (kindsT.take 4 ++ Z 64)) rfl rfl ?_
  refine spl_i (agI (kindsT.take 8 ++ Z 60)) rfl rfl ?_
  refine spl_i (agI (kindsT.take 12 ++ Z 56)) rfl rfl ?_
  refine spl_i (agI (kindsT.take 16 ++ Z 52)) rfl rfl ?_
  refine spl_i (agI (kindsT.take 20 ++ Z 48)) rfl rfl ?_
  refine spl_i (agI (kindsT.take 24 ++ Z 44)) rfl rfl ?_
  refine spl_i (agI (kindsT.take 28 ++ Z 40)) rfl rfl ?_
  refine spl_i (agI (kindsT.take 32 ++ Z 36)) rfl rfl ?_
  refine spl_i (agI (kindsT.take 36 ++ Z 32)) rfl rfl ?_
  refine spl_i (agI (kindsT.take 40 ++ Z 28)) rfl rfl ?_
  refine spl_i (agI (kindsT.take 44 ++ Z 24)) rfl rfl ?_
  refine spl_i (agI (kindsT.take 48 ++ Z 20)) rfl rfl ?_
  refine spl_i (agI (kindsT.take 52 ++ Z 16)) rfl rfl ?_
  refine spl_i (agI (kindsT.take 56 ++ Z 12)) rfl rfl ?_
  refine spl_i (agI (kindsT.take 60 ++ Z 8)) rfl rfl ?_
  refine spl_i (agI (kindsT.take 64 ++ Z 4)) rfl rfl ?_
  refine spl_i (agI kindsT) rfl rfl ?_
  refine newC_i fun g2 w2 hg2 hs2 hb2 he2 => ?_
  refine stA_I hb2 rfl rfl fun w3 hb3 hs3 ho3 => ?_
  have hb1' := (hb1.ext he2).keep ho3 (by omega)
  refine ixP_i h0 (by omega) ?_
  rw [Nat.zero_add]
  have hl : kindsT.length = 68 := rfl
  refine ldA_P hb3 (by omega) ?_
  refine stA_I hb1' rfl (by simp [hl]; omega) fun w4 hb4 hs4 ho4 => ldA_I hb4 (by simp [hl]; omega) ?_
  exact hk _ (((he1.trans he2).then ho3 fun g hg => by have := he1.size; omega).then ho4 fun g hg => by omega)

end Go.Proofs.Ytgkfbagclkjilaa.Fr

namespace Go.Proofs.Ytgkfbagclkjilaa.Fr
open Go Go.Ev Go.Proofs

theorem four {j : Nat} (h : j < 4) : j = 0 ∨ j = 1 ∨ j = 2 ∨ j = 3 := by omega
theorem chk_bad {i : List Int} {j : Nat} (h0 : ¬ (i.getD 0 0 < 0 ∨ i.getD 0 0 ≥ 17)) (hj : j < 4) (hb : inSpan i j = false) : chk i = 10 := by
  unfold chk
  rw [if_neg h0]
  rcases four hj with rfl | rfl | rfl | rfl <;> simp [hb]
theorem chk_good {i : List Int} (h0 : ¬ (i.getD 0 0 < 0 ∨ i.getD 0 0 ≥ 17)) (hb : ∀ j, j < 4 → inSpan i j = true) : chk i = 0 := by
  unfold chk
  rw [if_neg h0]
  simp [hb 0 (by omega), hb 1 (by omega), hb 2 (by omega), hb 3 (by omega)]
theorem kinds_get {op j : Nat} (h : op < 17) (hj : j < 4) : ((kindsT.drop (op * 4)).take 4).getD j 0 = kindsT.getD (4 * op + j) 0 := by
  rw [List.getD_eq_getElem?_getD, List.getElem?_take_of_lt hj, List.getElem?_drop, List.getD_eq_getElem?_getD, Nat.mul_comm]
theorem getD4 {i : List Int} {j : Nat} (hj : j < 4) : [i.getD 1 0, i.getD 2 0, i.getD 3 0, i.getD 4 0].getD j 0 = i.getD (j + 1) 0 := by
  rcases four hj with rfl | rfl | rfl | rfl <;> rfl

theorem check_s {i : List Int} {w : World} {k : Int → World → Prop} (hi : i.length = 5) (hk : ∀ w', Ext w w' → k (chk i) w') : code_Check (agI i) w k := by
  unfold code_Check code_Check_b
  refine newC_i fun g1 w1 hg1 hs1 hb1 he1 => ?_
  have hb1' : BI w1 g1 i := hb1
  simp only [add_mk, Nat.zero_add]
  refine joinP_i (fun b w' => b = decide (i.getD 0 0 < 0 ∨ i.getD 0 0 ≥ 17) ∧ w1 = w') ?_ ?_
  · intro J hJ
    refine ldP_I hb1' (by omega) (iteB_i (fun h => hJ _ _ ⟨?_, rfl⟩) fun h => ?_)
    · simp only [decide_eq_true_eq] at h
      exact (decide_eq_true (.inl h)).symm
    · simp only [decide_eq_false_iff_not] at h
      refine ldP_I hb1' (by omega) (hJ _ _ ⟨?_, rfl⟩)
      rw [decide_eq_decide]; omega
  rintro _ _ ⟨rfl, rfl⟩
  refine iteB_i (fun h => ?_) fun h => ?_
  · have h := of_decide_eq_true h
    have e : chk i = 13 := by unfold chk; rw [if_pos h]
    rw [← e]; exact hk _ he1
  have h := of_decide_eq_false h
  refine ldP_I hb1' (by omega) (operands_s (by omega) (by omega) fun w2 he2 => ?_)
  refine newC_i fun g3 w3 hg3 hs3 hb3 he3 => ?_
  have hl : ((kindsT.drop ((i.getD 0 0).toNat * 4)).take 4).length = 4 := by
    have : kindsT.length = 68 := rfl
    rw [List.length_take, List.length_drop, this]; omega
  refine stA_I hb3 rfl hl fun w4 hb4 hs4 ho4 => ?_
  have he14 : Ext w1 w4 := (he2.trans he3).then ho4 fun g hg => by have := he2.size; omega
  have hb14 : BI w4 g1 i := hb1'.ext he14
  refine ldP_I hb14 (by omega) (ldP_I hb14 (by omega) (ldP_I hb14 (by omega) (ldP_I hb14 (by omega) ?_)))
  refine loopP_of (fun (x : Int × Int) w' => w4 = w' ∧ x.1 = 0 ∧ ∃ j : Nat, x.2 = j ∧ j ≤ 4 ∧ ∀ m, m < j → inSpan i m = true) (fun x _ => (4 - x.2).toNat) ⟨rfl, rfl, 0, rfl, by omega, fun m hm => by omega⟩ ?_
  rintro ⟨out, _⟩ _ ⟨rfl, ho, j, hj, hj4, hall⟩ C hC
  simp only at ho hj; subst ho; subst hj
  refine iteB_i (fun hlt => ?_) fun hge => ?_
  · have hlt : j < 4 := by have : (j : Int) < 4 := by simpa using hlt
                           omega
    refine ixA_I (l := [i.getD 1 0, i.getD 2 0, i.getD 3 0, i.getD 4 0]) (by simp) (by simp; omega) rfl ?_
    rw [Int.toNat_natCast, getD4 hlt]
    refine toI_i (ixP_i (by omega) (by omega) ?_)
    rw [Int.toNat_natCast, Nat.mul_one, Nat.zero_add]
    refine ldP_I hb4 (by omega) ?_
    rw [kinds_get (by omega) hlt]
    refine span_s ?_
    have e : ((decide (i.getD (j + 1) 0 < (spanV (kindsT.getD (4 * (i.getD 0 0).toNat + j) 0)).1)) || (decide (i.getD (j + 1) 0 > (spanV (kindsT.getD (4 * (i.getD 0 0).toNat + j) 0)).2))) = !inSpan i j := by
      unfold inSpan spanOf
      rw [Bool.eq_iff_iff]
      simp only [Bool.or_eq_true, decide_eq_true_eq, Bool.not_eq_true', decide_eq_false_iff_not]
      omega
    rw [e]
    refine iteB_i (fun hb => ?_) fun hb => ?_
    · rw [← chk_bad h hlt (by simpa using hb)]
      exact hk _ (he1.trans he14)
    · have hw : IntKind.i64.wrap ((j : Int) + 1) = ((j + 1 : Nat) : Int) := by rw [wrap_id ⟨by omega, by omega⟩]; simp
      refine hC _ _ ⟨rfl, rfl, j + 1, hw, by omega, fun m hm => ?_⟩ (by simp only [hw]; omega)
      by_cases hmj : m = j
      · subst hmj; simpa using hb
      · exact hall m (by omega)
  · have hge : j = 4 := by have : ¬ (j : Int) < 4 := by simpa using hge
                           omega
    subst hge
    simp only
    rw [← chk_good h hall]
    exact hk _ (he1.trans he14)

/-- the least and the greatest of the four operands, as the document's answer has them -/
def spansT : List (List Int) := [[0, 7, 0, 0, 0, 0, -2147483648, 2147483647], [0, 7, 0, 7, 0, 0, 0, 0], [0, 7, 0, 7, 0, 7, 0, 0], [0, 7, 0, 7, 0, 7, 0, 0], [0, 7, 0, 7, 0, 7, 0, 0], [0, 7, 0, 7, 0, 7, 0, 0],
  [0, 0, 0, 0, 0, 0, 0, 127], [0, 7, 0, 0, 0, 0, 0, 127], [0, 7, 0, 0, 0, 0, 0, 31], [0, 7, 0, 7, 0, 0, 0, 0], [0, 7, 0, 7, 0, 7, 0, 0], [0, 0, 0, 0, 0, 0, 0, 65535], [0, 7, 0, 0, 0, 0, 0, 0], [0, 0, 0, 0, 0, 0, 0, 0], [0, 0, 0, 0, 0, 0, 0, 0], [0, 7, 0, 0, 0, 0, 0, 0], [0, 7, 0, 0, 0, 0, 0, 0]]
theorem spansT_ok : ∀ op, op < 17 → (spansT.getD op []).length = 8 ∧ ∀ j, j < 4 → ((spansT.getD op []).getD (2 * j) 0, (spansT.getD op []).getD (2 * j + 1) 0) = spanOf op j := by decide

theorem op17 {op : Int} (h0 : 0 ≤ op) (h1 : op < 17) : op = 0 ∨ op = 1 ∨ op = 2 ∨ op = 3 ∨ op = 4 ∨ op = 5 ∨ op = 6 ∨ op = 7 ∨ op = 8 ∨ op = 9 ∨ op = 10 ∨ op = 11 ∨ op = 12 ∨ op = 13 ∨ op = 14 ∨ op = 15 ∨ op = 16 := by omega
theorem spans_s {op : Int} {w : World} {k : Array Value → World → Prop} (h0 : 0 ≤ op) (h1 : op < 17) (hk : ∀ w', Ext w w' → k (agI (spansT.getD op.toNat [])) w') : pelotonref02_spans op w k := by
  unfold pelotonref02_spans
  refine newC_i fun g1 w1 hg1 hs1 hb1 he1 => ?_
  have fin : ∀ l : List Int, l.length = 8 → spansT.getD op.toNat [] = l → stA 8 w1 ⟨g1, 0, none⟩ (agI l) fun w3 => ldA 8 w3 ⟨g1, 0, none⟩ fun cs4 => k cs4 w3 := by
    intro l hl e
    refine stA_I hb1 rfl hl fun w2 hb2 hs2 ho2 => ldA_I hb2 hl ?_
    rw [← e]
    exact hk _ (he1.then ho2 fun g hg => by omega)
  rcases op17 h0 h1 with rfl | rfl | rfl | rfl | rfl | rfl | rfl | rfl | rfl | rfl | rfl | rfl | rfl | rfl | rfl | rfl | rfl
  all_goals exact fin _ rfl rfl

theorem rcheck_s {i : List Int} {w : World} {k : Int → World → Prop} (hi : i.length = 5) (hk : ∀ w', Ext w w' → k (chk i) w') : pelotonref02_Check (agI i) w k := by
  unfold pelotonref02_Check pelotonref02_Check_b
  refine newC_i fun g1 w1 hg1 hs1 hb1 he1 => ?_
  have hb1' : BI w1 g1 i := hb1
  simp only [add_mk, Nat.zero_add]
  refine joinP_i (fun b w' => b = decide (i.getD 0 0 < 0 ∨ i.getD 0 0 ≥ 17) ∧ w1 = w') ?_ ?_
  · intro J hJ
    refine ldP_I hb1' (by omega) (iteB_i (fun h => hJ _ _ ⟨?_, rfl⟩) fun h => ?_)
    · simp only [decide_eq_true_eq] at h
      exact (decide_eq_true (.inl h)).symm
    · simp only [decide_eq_false_iff_not] at h
      refine ldP_I hb1' (by omega) (hJ _ _ ⟨?_, rfl⟩)
      rw [decide_eq_decide]; omega
  rintro _ _ ⟨rfl, rfl⟩
  refine iteB_i (fun h => ?_) fun h => ?_
  · have h := of_decide_eq_true h
    have e : chk i = 13 := by unfold chk; rw [if_pos h]
    rw [← e]; exact hk _ he1
  have h := of_decide_eq_false h
  refine ldP_I hb1' (by omega) (spans_s (by omega) (by omega) fun w2 he2 => ?_)
  obtain ⟨hl, hsp⟩ := spansT_ok (i.getD 0 0).toNat (by omega)
  refine newC_i fun g3 w3 hg3 hs3 hb3 he3 => ?_
  refine stA_I hb3 rfl hl fun w4 hb4 hs4 ho4 => ?_
  have he14 : Ext w1 w4 := (he2.trans he3).then ho4 fun g hg => by have := he2.size; omega
  have hb14 : BI w4 g1 i := hb1'.ext he14
  refine ldP_I hb14 (by omega) (ldP_I hb14 (by omega) (ldP_I hb14 (by omega) (ldP_I hb14 (by omega) ?_)))
  refine newC_i fun g5 w5 hg5 hs5 hb5 he5 => ?_
  refine stA_I (l := [i.getD 1 0, i.getD 2 0, i.getD 3 0, i.getD 4 0]) hb5 rfl rfl fun w6 hb6 hs6 ho6 => ?_
  have he46 : Ext w4 w6 := he5.then ho6 fun g hg => by omega
  have hb46 := hb4.ext he46
  refine loopP_of (fun (x : Int) w' => Ext w6 w' ∧ ∃ j : Nat, x = j ∧ j ≤ 4 ∧ ∀ m, m < j → inSpan i m = true) (fun x _ => (4 - x).toNat) ⟨.refl _ _, 0, rfl, by omega, fun m hm => by omega⟩ ?_
  rintro _ w7 ⟨he7, j, rfl, hj4, hall⟩ C hC
  have heall := ((he1.trans he14).trans he46).trans he7
  refine iteB_i (fun hlt => ?_) fun hge => ?_
  · have hlt : j < 4 := by have : (j : Int) < 4 := by simpa using hlt
                           omega
    have hsj := hsp j hlt
    refine joinP_i (fun b w' => b = !inSpan i j ∧ Ext w7 w') ?_ ?_
    · intro J hJ
      refine drew_i fun w8 hh8 he8 => ?_
      have hb8 := (hb6.ext he7).ext he8
      have hb48 := (hb46.ext he7).ext he8
      have hw2 : IntKind.i64.wrap (2 * (j : Int)) = ((2 * j : Nat) : Int) := by rw [wrap_id ⟨by omega, by omega⟩]; simp
      have hw3 : IntKind.i64.wrap (((2 * j : Nat) : Int) + 1) = ((2 * j + 1 : Nat) : Int) := by rw [wrap_id ⟨by omega, by omega⟩]; simp
      rw [hw2, hw3]
      refine ixP_i (by omega) (by omega) ?_
      simp only [Int.toNat_natCast, Nat.mul_one, Nat.zero_add]
      refine ldP_I hb8 (by simpa using hlt) (ixP_i (by omega) (by omega) ?_)
      simp only [Int.toNat_natCast, Nat.mul_one, Nat.zero_add, getD4 hlt]
      refine ldP_I hb48 (by omega) ?_
      have e1 : (spansT.getD (i.getD 0 0).toNat []).getD (2 * j) 0 = (spanOf (i.getD 0 0).toNat j).1 := congrArg (·.1) hsj
      have e2 : (spansT.getD (i.getD 0 0).toNat []).getD (2 * j + 1) 0 = (spanOf (i.getD 0 0).toNat j).2 := congrArg (·.2) hsj
      rw [e1]
      refine iteB_i (fun hb => hJ _ _ ⟨?_, he8⟩) fun hb => ?_
      · have hb := of_decide_eq_true hb
        unfold inSpan
        rw [decide_eq_false (by omega)]; rfl
      · have hb := of_decide_eq_false hb
        refine ixP_i (by omega) (by omega) ?_
        rw [Int.toNat_natCast, Nat.mul_one, Nat.zero_add]
        refine ldP_I hb8 (by simpa using hlt) (ixP_i (by omega) (by omega) ?_)
        simp only [Int.toNat_natCast, Nat.mul_one, Nat.zero_add, getD4 hlt]
        refine ldP_I hb48 (by omega) (hJ _ _ ⟨?_, he8⟩)
        rw [e2]
        unfold inSpan
        rw [Bool.eq_iff_iff]
        simp only [decide_eq_true_eq, Bool.not_eq_true', decide_eq_false_iff_not]
        omega
    · rintro _ w8 ⟨rfl, he8⟩
      refine iteB_i (fun hb => ?_) fun hb => ?_
      · rw [← chk_bad h hlt (by simpa using hb)]
        exact hk _ (heall.trans he8)
      · have hw : IntKind.i64.wrap ((j : Int) + 1) = ((j + 1 : Nat) : Int) := by rw [wrap_id ⟨by omega, by omega⟩]; simp
        refine hC _ _ ⟨he7.trans he8, j + 1, hw, by omega, fun m hm => ?_⟩ (by simp only [hw]; omega)
        by_cases hmj : m = j
        · subst hmj; simpa using hb
        · exact hall m (by omega)
  · have hge : j = 4 := by have : ¬ (j : Int) < 4 := by simpa using hge
                           omega
    subst hge
    rw [← chk_good h hall]
    exact hk _ heall

def isB (i : List Int) (op : Int) : Bool := i.getD 0 0 == op && chk i == 0
theorem may_s {i : List Int} {op : Int} {w : World} {k : Bool → World → Prop} (hi : i.length = 5) (hk : ∀ w', Ext w w' → k (isB i op) w') : frame_may (agI i) op w k := by
  unfold frame_may frame_may_b
  refine newC_i fun g1 w1 hg1 hs1 hb1 he1 => ?_
  have hb1' : BI w1 g1 i := hb1
  simp only [add_mk, Nat.zero_add]
  unfold isB at hk
  refine ldP_I hb1' (by omega) (iteB_i (fun h => ?_) fun h => ?_)
  · refine ldA_I hb1' hi (check_s hi fun w2 he2 => ?_)
    have := hk _ (he1.trans he2)
    rwa [h, Bool.true_and] at this
  · have := hk _ he1
    rwa [h, Bool.false_and] at this
theorem is_s {i : List Int} {op : Int} {w : World} {k : Bool → World → Prop} (hi : i.length = 5) (hk : ∀ w', Ext w w' → k (isB i op) w') : pelotonref05_is (agI i) op w k := by
  unfold pelotonref05_is pelotonref05_is_b
  refine newC_i fun g1 w1 hg1 hs1 hb1 he1 => ?_
  have hb1' : BI w1 g1 i := hb1
  simp only [add_mk, Nat.zero_add]
  unfold isB at hk
  refine ldP_I hb1' (by omega) (iteB_i (fun h => ?_) fun h => ?_)
  · refine ldA_I hb1' hi (rcheck_s hi fun w2 he2 => ?_)
    have := hk _ (he1.trans he2)
    rwa [h, Bool.true_and] at this
  · have := hk _ he1
    rwa [h, Bool.false_and] at this
theorem one_s {b : Bool} {w : World} {k : Int → World → Prop} (hk : k (if b then 1 else 0) w) : frame_one b w k := by
  unfold frame_one
  cases b <;> exact hk

/-- an instruction that may be has operands in their spans -/
theorem chk_ok {i : List Int} (h : chk i = 0) : 0 ≤ i.getD 0 0 ∧ i.getD 0 0 < 17 ∧ ∀ j, j < 4 → (spanOf (i.getD 0 0).toNat j).1 ≤ i.getD (j + 1) 0 ∧ i.getD (j + 1) 0 ≤ (spanOf (i.getD 0 0).toNat j).2 := by
  unfold chk at h
  split at h
  · cases h
  · rename_i h0
    split at h
    · rename_i h1
      simp only [Bool.and_eq_true] at h1
      refine ⟨by omega, by omega, fun j hj => ?_⟩
      rcases four hj with rfl | rfl | rfl | rfl
      · exact of_decide_eq_true h1.1.1.1
      · exact of_decide_eq_true h1.1.1.2
      · exact of_decide_eq_true h1.1.2
      · exact of_decide_eq_true h1.2
    · cases h
theorem spans_le : ∀ op, op < 17 → ∀ j, j < 3 → 0 ≤ (spanOf op j).1 ∧ (spanOf op j).2 ≤ 7 := by decide
/-- A, B and C of an instruction that may be -/
theorem chk_regs {i : List Int} (h : chk i = 0) : (0 ≤ i.getD 1 0 ∧ i.getD 1 0 < 8) ∧ (0 ≤ i.getD 2 0 ∧ i.getD 2 0 < 8) ∧ 0 ≤ i.getD 3 0 ∧ i.getD 3 0 < 8 := by
  obtain ⟨h0, h1, hs⟩ := chk_ok h
  have a := hs 0 (by omega); have b := hs 1 (by omega); have c := hs 2 (by omega)
  have a' := spans_le (i.getD 0 0).toNat (by omega) 0 (by omega)
  have b' := spans_le (i.getD 0 0).toNat (by omega) 1 (by omega)
  have c' := spans_le (i.getD 0 0).toNat (by omega) 2 (by omega)
  simp only [Nat.zero_add, Nat.reduceAdd] at a b c
  omega

end Go.Proofs.Ytgkfbagclkjilaa.Fr

namespace Go.Proofs.Ytgkfbagclkjilaa.Fr
open Go Go.Ev Go.Proofs

/-- register r -/
abbrev fR (f : List Int) (r : Int) : Int := f.getD (2 + r.toNat) 0
def sumV (f i : List Int) : Int :=
  if i.getD 0 0 = 0 then i.getD 4 0 else if i.getD 0 0 = 1 then fR f (i.getD 2 0) else if i.getD 0 0 = 2 then IntKind.i64.wrap (fR f (i.getD 2 0) + fR f (i.getD 3 0))
  else if i.getD 0 0 = 3 then IntKind.i64.wrap (fR f (i.getD 2 0) - fR f (i.getD 3 0)) else if i.getD 0 0 = 4 then IntKind.i64.wrap (fR f (i.getD 2 0) * fR f (i.getD 3 0))
  else if fR f (i.getD 2 0) < fR f (i.getD 3 0) then 1 else 0
def fPlain (f i : List Int) : List Int × Bool :=
  if chk i ≠ 0 then (f, false)
  else if i.getD 0 0 = 6 ∨ (i.getD 0 0 = 7 ∧ fR f (i.getD 1 0) ≠ 0) then (fTo f (i.getD 4 0), true)
  else if i.getD 0 0 = 7 then (fOn f, true)
  else if i.getD 0 0 > 5 then (f, false)
  else (fOn (f.set (2 + (i.getD 1 0).toNat) (sumV f i)), true)
theorem fPlain_len {f i : List Int} (hf : f.length = 19) : (fPlain f i).1.length = 19 := by
  unfold fPlain
  split
  · exact hf
  · split
    · simp only [fTo_len, hf]
    · split
      · simp only [fOn_len, hf]
      · split
        · exact hf
        · simp only [fOn_len, List.length_set, hf]

def sumFs (g3 gb gc : Nat) : Array Value := #[.func (.func n_frame_Frame_sums_1) #[] #[.pointer (some ⟨g3, 0, none⟩)], .func (.func n_frame_Frame_sums_2) #[] #[.pointer (some ⟨gb, 0, none⟩)], .func (.func n_frame_Frame_sums_3) #[] #[.pointer (some ⟨gb, 0, none⟩), .pointer (some ⟨gc, 0, none⟩)],
  .func (.func n_frame_Frame_sums_4) #[] #[.pointer (some ⟨gb, 0, none⟩), .pointer (some ⟨gc, 0, none⟩)], .func (.func n_frame_Frame_sums_5) #[] #[.pointer (some ⟨gb, 0, none⟩), .pointer (some ⟨gc, 0, none⟩)], .func (.func n_frame_Frame_sums_6) #[] #[.pointer (some ⟨gb, 0, none⟩), .pointer (some ⟨gc, 0, none⟩)]]

theorem sums_s {f i : List Int} {w : World} {k : Sl → World → Prop} (hf : f.length = 19) (hi : i.length = 5) (hB : 0 ≤ i.getD 2 0 ∧ i.getD 2 0 < 8) (hC : 0 ≤ i.getD 3 0 ∧ i.getD 3 0 < 8)
    (hk : ∀ w' g g3 gb gc, Ext w w' → Blk w' g (sumFs g3 gb gc) → BI w' g3 i → BI w' gb [fR f (i.getD 2 0)] → BI w' gc [fR f (i.getD 3 0)] → k ⟨some ⟨g, 0, none⟩, 6, 6⟩ w') : frame_Frame_sums (agI f) (agI i) w k := by
  unfold frame_Frame_sums
  refine newC_i fun g1 w1 hg1 hs1 hb1 he1 => newC_i fun g2 w2 hg2 hs2 hb2 he2 => ?_
  have hb1' : BI w2 g1 f := hb1.ext he2
  have hb2' : BI w2 g2 i := hb2
  simp only [add_mk, Nat.zero_add]
  refine joinP_i (fun x w' => Ext w2 w' ∧ ∃ gb gc, x = (⟨gb, 0, none⟩, ⟨gc, 0, none⟩) ∧ BI w' gb [fR f (i.getD 2 0)] ∧ BI w' gc [fR f (i.getD 3 0)]) ?_ ?_
  · intro J hJ
    refine drew_i fun w3 hh3 he3 => ?_
    have hb13 : BI w3 g1 f := hb1'.ext he3
    have hb23 : BI w3 g2 i := hb2'.ext he3
    refine ldP_I hb23 (by omega) (ixP_i hB.1 (by omega) (ldP_I hb13 (by omega) ?_))
    refine ldP_I hb23 (by omega) (ixP_i hC.1 (by omega) (ldP_I hb13 (by omega) ?_))
    simp only [Nat.mul_one]
    have st : ∀ {w' : World} {n o : Nat} {c : Prop}, Ext w3 w' → c → samec n ⟨g1, o, none⟩ w3 w' c := fun he hc => samec_B hb13 (hb13.ext he) hc
    have st2 : ∀ {w' : World} {n o : Nat} {c : Prop}, Ext w3 w' → c → samec n ⟨g2, o, none⟩ w3 w' c := fun he hc => samec_B hb23 (hb23.ext he) hc
    refine ⟨?_, ?_⟩
    · refine newC_i fun g4 w4 hg4 hs4 hb4 he4 => st he4 (st2 he4 (st he4 (st2 he4 ?_)))
      refine newC_i fun g5 w5 hg5 hs5 hb5 he5 => ?_
      have he35 := he4.trans he5
      refine st he35 (st2 he35 (st he35 (st2 he35 ?_)))
      refine stC_I (l := [0]) (hb4.ext he5) (by simp) fun w6 hb6 hs6 ho6 => ?_
      have he36 := he35.then ho6 fun g hg => by omega
      refine st he36 (st2 he36 ?_)
      refine stC_I (l := [0]) (hb5.keep ho6 (by omega)) (by simp) fun w7 hb7 hs7 ho7 => ?_
      exact hJ _ _ ⟨he3.trans (he36.then ho7 fun g hg => by omega), g4, g5, rfl, hb6.keep ho7 (by omega), hb7⟩
    · refine newC_i fun g4 w4 hg4 hs4 hb4 he4 => st he4 (st2 he4 (st he4 (st2 he4 ?_)))
      refine newC_i fun g5 w5 hg5 hs5 hb5 he5 => ?_
      have he35 := he4.trans he5
      refine st he35 (st2 he35 (st he35 (st2 he35 ?_)))
      refine stC_I (l := [0]) hb5 (by simp) fun w6 hb6 hs6 ho6 => ?_
      have he36 := he35.then ho6 fun g hg => by omega
      refine st he36 (st2 he36 ?_)
      refine stC_I (l := [0]) ((hb4.ext he5).keep ho6 (by omega)) (by simp) fun w7 hb7 hs7 ho7 => ?_
      exact hJ _ _ ⟨he3.trans (he36.then ho7 fun g hg => by omega), g5, g4, rfl, hb6.keep ho7 (by omega), hb7⟩
  · rintro x w3 ⟨he3, gb, gc, rfl, hbb, hbc⟩
    refine newC_i fun g4 w4 hg4 hs4 hb4 he4 => ?_
    exact hk w4 g4 g2 gb gc (((he1.trans he2).trans he3).trans he4) hb4 ((hb2'.ext he3).ext he4) (hbb.ext he4) (hbc.ext he4)

theorem plain_F {f i : List Int} {w : World} {k : Array Value × Bool → World → Prop} (hf : f.length = 19) (hi : i.length = 5) (hk : ∀ w', Ext w w' → k (agI (fPlain f i).1, (fPlain f i).2) w') : frame_Frame_Plain (agI f) (agI i) w k := by
  unfold frame_Frame_Plain frame_Frame_Plain_b
  refine newC_i fun g1 w1 hg1 hs1 hb1 he1 => newC_i fun g2 w2 hg2 hs2 hb2 he2 => newC_i fun g3 w3 hg3 hs3 hb3 he3 => ?_
  have he13 := (he1.trans he2).trans he3
  have hb1' : BI w3 g1 f := (hb1.ext he2).ext he3
  have hb2' : BI w3 g2 i := hb2.ext he3
  have hsz := he1.size
  simp only [add_mk, Nat.zero_add]
  -- the result's block
  have fin : ∀ (l : List Int) (b : Bool) (w' : World), Ext w3 w' → l.length = 19 → (fPlain f i) = (l, b) → (stA 19 w' ⟨g3, 0, none⟩ (agI l) fun w9 => ldA 19 w9 ⟨g3, 0, none⟩ fun cs => k (cs, b) w9) := by
    intro l b w' he hl e
    refine stA_I (hb3.ext he) rfl hl fun w9 hb9 hs9 ho9 => ldA_I hb9 hl ?_
    have := hk w9 ((he13.trans he).then ho9 fun g hg => by omega)
    rwa [e] at this
  refine ldA_I hb2' hi (check_s hi fun w4 he4 => ?_)
  have hb14 : BI w4 g1 f := hb1'.ext he4
  have hb24 : BI w4 g2 i := hb2'.ext he4
  refine iteB_i (fun h => ldA_I hb14 hf (fin f false w4 he4 hf ?_)) fun h => ?_
  · unfold fPlain; rw [if_pos (by simpa using h)]
  have h : chk i = 0 := by simpa using h
  obtain ⟨hA, hB, hC⟩ := chk_regs h
  obtain ⟨h0, h17, _⟩ := chk_ok h
  refine ldP_I hb24 (by omega) ?_
  refine joinP_i (fun b w' => b = decide (i.getD 0 0 = 6 ∨ (i.getD 0 0 = 7 ∧ fR f (i.getD 1 0) ≠ 0)) ∧ w4 = w') ?_ ?_
  · intro J hJ
    refine iteB_i (fun h6 => ?_) fun h6 => ?_
    · refine hJ _ _ ⟨?_, rfl⟩
      rw [h6]
      exact (decide_eq_true (.inl (by simpa using h6))).symm
    · have h6 : i.getD 0 0 ≠ 6 := by simpa using h6
      refine ldP_I hb24 (by omega) (iteB_i (fun h7 => ?_) fun h7 => ?_)
      · have h7 : i.getD 0 0 = 7 := by simpa using h7
        refine ldP_I hb24 (by omega) (ixP_i hA.1 (by omega) (ldP_I hb14 (by omega) (hJ _ _ ⟨?_, rfl⟩)))
        rw [Nat.mul_one, Bool.eq_iff_iff]
        simp only [bne_iff_ne, decide_eq_true_eq]
        constructor
        · intro hne; exact .inr ⟨h7, hne⟩
        · rintro (h | ⟨_, h⟩)
          · omega
          · exact h
      · have h7 : i.getD 0 0 ≠ 7 := by simpa using h7
        exact hJ _ _ ⟨(decide_eq_false (by omega)).symm, rfl⟩
  rintro _ _ ⟨rfl, rfl⟩
  refine iteB_i (fun h1 => ?_) fun h1 => ?_
  · have h1 := of_decide_eq_true h1
    refine ldA_I hb14 hf (ldP_I hb24 (by omega) (to_s hf fun w5 he5 => fin _ true w5 (he4.trans he5) (by rw [fTo_len, hf]) ?_))
    unfold fPlain; rw [if_neg (by simp [h]), if_pos h1]
  have h1 := of_decide_eq_false h1
  refine ldP_I hb24 (by omega) (iteB_i (fun h7 => ?_) fun h7 => ?_)
  · have h7 : i.getD 0 0 = 7 := by simpa using h7
    refine ldA_I hb14 hf (on_s hf fun w5 he5 => fin _ true w5 (he4.trans he5) (by rw [fOn_len, hf]) ?_)
    unfold fPlain; rw [if_neg (by simp [h]), if_neg h1, if_pos h7]
  have h7 : i.getD 0 0 ≠ 7 := by simpa using h7
  refine ldP_I hb24 (by omega) (iteB_i (fun h5 => ?_) fun h5 => ?_)
  · have h5 : i.getD 0 0 > 5 := by simpa using h5
    refine ldA_I hb14 hf (fin f false w4 he4 hf ?_)
    unfold fPlain; rw [if_neg (by simp [h]), if_neg h1, if_neg h7, if_pos h5]
  have h5 : ¬ i.getD 0 0 > 5 := by simpa using h5
  refine drew_i fun w5 hh5 he5 => ?_
  have hb15 : BI w5 g1 f := hb14.ext he5
  have hb25 : BI w5 g2 i := hb24.ext he5
  refine ldP_I hb25 (by omega) (ldA_I hb15 hf (ldA_I hb25 hi (ldP_I hb25 (by omega) ?_)))
  refine sums_s hf hi hB hC fun w6 g ga gb gc he6 hbg hba hbb hbc => ?_
  have hb16 : BI w6 g1 f := hb15.ext he6
  have hb26 : BI w6 g2 i := hb25.ext he6
  refine samec_B hb25 hb26 (samec_B hb25 hb26 ?_)
  -- the call's result is stored
  have tail : ∀ (v : Value), v = .int .i64 (sumV f i) → (toI .i64 v fun i48 => samec 1 ⟨g2, 1, none⟩ w5 w6 (ixP ⟨g1, 2, none⟩ 8 (i.getD 1 0) 1 fun a49 => stC w6 a49 (.int .i64 i48) fun w50 => ldA 19 w50 ⟨g1, 0, none⟩ fun cs51 =>
      frame_Frame_Passed cs51 w50 fun cs52 w53 => stA 19 w53 ⟨g3, 0, none⟩ cs52 fun w54 => ldA 19 w54 ⟨g3, 0, none⟩ fun cs55 => k (cs55, true) w54)) := by
    rintro _ rfl
    refine toI_i (samec_B hb25 hb26 (ixP_i hA.1 (by omega) ?_))
    rw [Nat.mul_one]
    refine stC_I hb16 (by omega) fun w7 hb7 hs7 ho7 => ?_
    have he7 : Ext w3 w7 ∨ True := .inr trivial
    refine ldA_I hb7 (by simp [hf]) (on_s (by simp [hf]) fun w8 he8 => ?_)
    have hb38 := (((((hb3.ext he4).ext he5).ext he6).keep ho7 (by omega)).ext he8)
    refine stA_I hb38 rfl (by rw [fOn_len]; simp [hf]) fun w9 hb9 hs9 ho9 => ldA_I hb9 (by rw [fOn_len]; simp [hf]) ?_
    have e : fPlain f i = (fOn (f.set (2 + (i.getD 1 0).toNat) (sumV f i)), true) := by
      unfold fPlain; rw [if_neg (by simp [h]), if_neg h1, if_neg h7, if_neg h5]
    have := hk w9 ((((((he13.trans he4).trans he5).trans he6).then ho7 fun g hg => by omega).trans he8).then ho9 fun g hg => by omega)
    rwa [e] at this
  have h6 : i.getD 0 0 ≠ 6 := fun e => h1 (.inl e)
  have hop : i.getD 0 0 = 0 ∨ i.getD 0 0 = 1 ∨ i.getD 0 0 = 2 ∨ i.getD 0 0 = 3 ∨ i.getD 0 0 = 4 ∨ i.getD 0 0 = 5 := by omega
  refine ixS_b h0 (by omega) ?_
  rw [Nat.mul_one, Nat.zero_add]
  have hcell : ∀ n : Nat, w6.cell? ⟨g, n, none⟩ = (sumFs ga gb gc)[n]? := fun n => hbg.cell n
  rcases hop with e | e | e | e | e | e
  all_goals
    rw [e]
    refine ldV_i (by rw [hcell]; rfl) ?_
  · show ldI .i64 w6 (Addr.add ⟨ga, 0, none⟩ 4) _
    rw [add_mk]
    refine ldP_I hba (by omega) (tail _ ?_)
    simp only [sumV, e]; rfl
  · show ldI .i64 w6 ⟨gb, 0, none⟩ _
    refine ldP_I hbb (by simp) (tail _ ?_)
    simp only [sumV, e]; rfl
  · show ldI .i64 w6 ⟨gb, 0, none⟩ fun i1 => ldI .i64 w6 ⟨gc, 0, none⟩ fun i2 => _
    refine ldP_I hbb (by simp) (ldP_I hbc (by simp) (tail _ ?_))
    simp only [sumV, e]; rfl
  · show ldI .i64 w6 ⟨gb, 0, none⟩ fun i1 => ldI .i64 w6 ⟨gc, 0, none⟩ fun i2 => _
    refine ldP_I hbb (by simp) (ldP_I hbc (by simp) (tail _ ?_))
    simp only [sumV, e]; rfl
  · show ldI .i64 w6 ⟨gb, 0, none⟩ fun i1 => ldI .i64 w6 ⟨gc, 0, none⟩ fun i2 => _
    refine ldP_I hbb (by simp) (ldP_I hbc (by simp) (tail _ ?_))
    simp only [sumV, e]; rfl
  · show ldI .i64 w6 ⟨gb, 0, none⟩ fun i1 => ldI .i64 w6 ⟨gc, 0, none⟩ fun i2 => frame_one (decide (i1 < i2)) w6 fun i3 w4 => _
    refine ldP_I hbb (by simp) (ldP_I hbc (by simp) (one_s (tail _ ?_)))
    have e1 : List.getD [fR f (i.getD 2 0)] 0 0 = fR f (i.getD 2 0) := rfl
    have e2 : List.getD [fR f (i.getD 3 0)] 0 0 = fR f (i.getD 3 0) := rfl
    rw [e1, e2]
    simp only [sumV, e]
    by_cases hlt : fR f (i.getD 2 0) < fR f (i.getD 3 0)
    · rw [decide_eq_true hlt, if_pos hlt]; rfl
    · rw [decide_eq_false hlt, if_neg hlt]; rfl

end Go.Proofs.Ytgkfbagclkjilaa.Fr

namespace Go.Proofs.Ytgkfbagclkjilaa.Fr
open Go Go.Ev Go.Proofs

theorem regs_get {f : List Int} {r : Nat} (hr : r < 8) : ((f.drop 2).take 8).getD r 0 = f.getD (2 + r) 0 := by
  rw [List.getD_eq_getElem?_getD, List.getElem?_take_of_lt hr, List.getElem?_drop, List.getD_eq_getElem?_getD]
theorem regs_len {f : List Int} (hf : f.length = 19) : ((f.drop 2).take 8).length = 8 := by
  rw [List.length_take, List.length_drop, hf]; rfl

theorem rplain_s {f i : List Int} {w : World} {k : Array Value × Bool → World → Prop} (hf : f.length = 19) (hi : i.length = 5) (hk : ∀ w', Ext w w' → k (agI (fPlain f i).1, (fPlain f i).2) w') : pelotonref05_Task_Plain (agI f) (agI i) w k := by
  unfold pelotonref05_Task_Plain pelotonref05_Task_Plain_b
  refine newC_i fun g1 w1 hg1 hs1 hb1 he1 => newC_i fun g2 w2 hg2 hs2 hb2 he2 => newC_i fun g3 w3 hg3 hs3 hb3 he3 => ?_
  have he13 := (he1.trans he2).trans he3
  have hb1' : BI w3 g1 f := (hb1.ext he2).ext he3
  have hb2' : BI w3 g2 i := hb2.ext he3
  have hsz := he1.size
  simp only [add_mk, Nat.zero_add]
  have fin : ∀ (l : List Int) (b : Bool) (w' : World), Ext w3 w' → l.length = 19 → (fPlain f i) = (l, b) → (stA 19 w' ⟨g3, 0, none⟩ (agI l) fun w9 => ldA 19 w9 ⟨g3, 0, none⟩ fun cs => k (cs, b) w9) := by
    intro l b w' he hl e
    refine stA_I (hb3.ext he) rfl hl fun w9 hb9 hs9 ho9 => ldA_I hb9 hl ?_
    have := hk w9 ((he13.trans he).then ho9 fun g hg => by omega)
    rwa [e] at this
  refine ldA_I hb2' hi (rcheck_s hi fun w4 he4 => ?_)
  have hb14 : BI w4 g1 f := hb1'.ext he4
  have hb24 : BI w4 g2 i := hb2'.ext he4
  refine iteB_i (fun h => ldA_I hb14 hf (fin f false w4 he4 hf ?_)) fun h => ?_
  · unfold fPlain; rw [if_pos (by simpa using h)]
  have h : chk i = 0 := by simpa using h
  have hne : ¬ chk i ≠ 0 := by simp [h]
  obtain ⟨hA, hB, hC⟩ := chk_regs h
  obtain ⟨h0, h17, _⟩ := chk_ok h
  have hrl := regs_len hf
  refine ldA_P hb14 (by omega) (newC_i fun g5 w5 hg5 hs5 hb5 he5 => stA_I hb5 rfl hrl fun w6 hb6 hs6 ho6 => ?_)
  have he46 : Ext w4 w6 := he5.then ho6 fun g hg => by omega
  have he36 := he4.trans he46
  have tailOn : ∀ (v : Int) (w' : World), Ext w3 w' → fPlain f i = (fOn (f.set (2 + (i.getD 1 0).toNat) v), true) → (pelotonref05_Task_With (agI f) (i.getD 1 0) v w' fun cs21 w22 => pelotonref05_Task_On cs21 w22 fun cs23 w24 => stA 19 w24 ⟨g3, 0, none⟩ cs23 fun w25 => ldA 19 w25 ⟨g3, 0, none⟩ fun cs26 => k (cs26, true) w25) := by
    intro v w' he e
    refine with_s hf hA.1 hA.2 fun w7 he7 => ron_s (by simp [hf]) fun w8 he8 => fin _ true w8 ((he.trans he7).trans he8) (by rw [fOn_len]; simp [hf]) e
  have reg : ∀ (r : Int) (w' : World) (c : Int → Prop), 0 ≤ r ∧ r < 8 → Ext w6 w' → c (fR f r) → ixP ⟨g5, 0, none⟩ 8 r 1 fun a => ldI .i64 w' a c := by
    intro r w' c hr he hc
    refine ixP_i hr.1 (by omega) (ldP_I (hb6.ext he) (by omega) ?_)
    rw [Nat.mul_one, Nat.zero_add, regs_get (by omega)]
    exact hc
  have hb16 : BI w6 g1 f := hb14.ext he46
  have hb26 : BI w6 g2 i := hb24.ext he46
  have n6 : ∀ {x : Int}, i.getD 0 0 = x → x ≠ 6 → x ≠ 7 → ¬ (i.getD 0 0 = 6 ∨ (i.getD 0 0 = 7 ∧ fR f (i.getD 1 0) ≠ 0)) := fun e h6 h7 => by omega
  have plainE : ∀ {x v : Int}, i.getD 0 0 = x → x ≤ 5 → sumV f i = v → fPlain f i = (fOn (f.set (2 + (i.getD 1 0).toNat) v), true) := by
    intro x v e hx hv
    unfold fPlain
    rw [if_neg hne, if_neg (n6 e (by omega) (by omega)), if_neg (by omega), if_neg (by omega), hv]
  refine ldP_I hb26 (by omega) ?_
  refine iteB_i (fun e => ?_) fun e0 => ?_
  · have e : i.getD 0 0 = 0 := by simpa using e
    refine ldA_I hb16 hf (ldP_I hb26 (by omega) (ldP_I hb26 (by omega) (tailOn _ w6 he36 (plainE e (by decide) ?_))))
    unfold sumV; rw [if_pos e]
  have e0 : i.getD 0 0 ≠ 0 := by simpa using e0
  refine iteB_i (fun e => ?_) fun e1 => ?_
  · have e : i.getD 0 0 = 1 := by simpa using e
    refine drew_i fun w7 hh7 he7 => ?_
    have hb17 : BI w7 g1 f := hb16.ext he7
    have hb27 : BI w7 g2 i := hb26.ext he7
    refine ldA_I hb17 hf (ldP_I hb27 (by omega) (ldP_I hb27 (by omega) (reg _ _ _ hB he7 (tailOn _ w7 (he36.trans he7) (plainE e (by decide) ?_)))))
    unfold sumV; rw [if_neg e0, if_pos e]
  have e1 : i.getD 0 0 ≠ 1 := by simpa using e1
  refine iteB_i (fun e => ?_) fun e2 => ?_
  · have e : i.getD 0 0 = 2 := by simpa using e
    refine drew_i fun w7 hh7 he7 => ?_
    have hb17 : BI w7 g1 f := hb16.ext he7
    have hb27 : BI w7 g2 i := hb26.ext he7
    refine ldA_I hb17 hf (ldP_I hb27 (by omega) (ldP_I hb27 (by omega) (reg _ _ _ hB he7 (ldP_I hb27 (by omega) (reg _ _ _ hC he7 (tailOn _ w7 (he36.trans he7) (plainE e (by decide) ?_)))))))
    unfold sumV; rw [if_neg e0, if_neg e1, if_pos e]
  have e2 : i.getD 0 0 ≠ 2 := by simpa using e2
  refine iteB_i (fun e => ?_) fun e3 => ?_
  · have e : i.getD 0 0 = 3 := by simpa using e
    refine drew_i fun w7 hh7 he7 => ?_
    have hb17 : BI w7 g1 f := hb16.ext he7
    have hb27 : BI w7 g2 i := hb26.ext he7
    refine ldA_I hb17 hf (ldP_I hb27 (by omega) (ldP_I hb27 (by omega) (reg _ _ _ hB he7 (ldP_I hb27 (by omega) (reg _ _ _ hC he7 (tailOn _ w7 (he36.trans he7) (plainE e (by decide) ?_)))))))
    unfold sumV; rw [if_neg e0, if_neg e1, if_neg e2, if_pos e]
  have e3 : i.getD 0 0 ≠ 3 := by simpa using e3
  refine iteB_i (fun e => ?_) fun e4 => ?_
  · have e : i.getD 0 0 = 4 := by simpa using e
    refine drew_i fun w7 hh7 he7 => ?_
    have hb17 : BI w7 g1 f := hb16.ext he7
    have hb27 : BI w7 g2 i := hb26.ext he7
    refine ldA_I hb17 hf (ldP_I hb27 (by omega) (ldP_I hb27 (by omega) (reg _ _ _ hB he7 (ldP_I hb27 (by omega) (reg _ _ _ hC he7 (tailOn _ w7 (he36.trans he7) (plainE e (by decide) ?_)))))))
    unfold sumV; rw [if_neg e0, if_neg e1, if_neg e2, if_neg e3, if_pos e]
  have e4 : i.getD 0 0 ≠ 4 := by simpa using e4
  refine iteB_i (fun e => ?_) fun e5 => ?_
  · have e : i.getD 0 0 = 5 := by simpa using e
    refine drew_i fun w7 hh7 he7 => ?_
    have hb17 : BI w7 g1 f := hb16.ext he7
    have hb27 : BI w7 g2 i := hb26.ext he7
    refine ldP_I hb27 (by omega) (reg _ _ _ hB he7 (ldP_I hb27 (by omega) (reg _ _ _ hC he7 ?_)))
    refine iteB_i (fun hlt => ?_) fun hlt => ?_
    · refine ldA_I hb17 hf (ldP_I hb27 (by omega) (tailOn _ w7 (he36.trans he7) (plainE e (by decide) ?_)))
      unfold sumV; rw [if_neg e0, if_neg e1, if_neg e2, if_neg e3, if_neg e4, if_pos (of_decide_eq_true hlt)]
    · refine ldA_I hb17 hf (ldP_I hb27 (by omega) (tailOn _ w7 (he36.trans he7) (plainE e (by decide) ?_)))
      unfold sumV; rw [if_neg e0, if_neg e1, if_neg e2, if_neg e3, if_neg e4, if_neg (of_decide_eq_false hlt)]
  have e5 : i.getD 0 0 ≠ 5 := by simpa using e5
  refine iteB_i (fun e => ?_) fun e6 => ?_
  · have e : i.getD 0 0 = 6 := by simpa using e
    refine ldA_I hb16 hf (ldP_I hb26 (by omega) (rto_s hf fun w7 he7 => fin _ true w7 (he36.trans he7) (by rw [fTo_len, hf]) ?_))
    unfold fPlain; rw [if_neg hne, if_pos (.inl e)]
  have e6 : i.getD 0 0 ≠ 6 := by simpa using e6
  refine iteB_i (fun e => ?_) fun e7 => ?_
  · have e : i.getD 0 0 = 7 := by simpa using e
    refine ldP_I hb26 (by omega) (reg _ _ _ hA (.refl _ _) ?_)
    refine iteB_i (fun hz => ?_) fun hz => ?_
    · refine ldA_I hb16 hf (ldP_I hb26 (by omega) (rto_s hf fun w7 he7 => fin _ true w7 (he36.trans he7) (by rw [fTo_len, hf]) ?_))
      unfold fPlain; rw [if_neg hne, if_pos (.inr ⟨e, by simpa using hz⟩)]
    · refine ldA_I hb16 hf (ron_s hf fun w7 he7 => fin _ true w7 (he36.trans he7) (by rw [fOn_len, hf]) ?_)
      have hz : fR f (i.getD 1 0) = 0 := by simpa using hz
      unfold fPlain; rw [if_neg hne, if_neg (by rintro (h | ⟨_, h⟩); exact e6 h; exact h hz), if_pos e]
  have e7 : i.getD 0 0 ≠ 7 := by simpa using e7
  refine ldA_I hb16 hf (fin f false w6 he36 hf ?_)
  unfold fPlain; rw [if_neg hne, if_neg (by rintro (h | ⟨h, _⟩); exact e6 h; exact e7 h), if_neg e7, if_pos (by omega)]

end Go.Proofs.Ytgkfbagclkjilaa.Fr

namespace Go.Proofs.Ytgkfbagclkjilaa.Fr
open Go Go.Ev Go.Proofs

theorem isB_true {i : List Int} {op : Int} (h : isB i op = true) : i.getD 0 0 = op ∧ chk i = 0 := by
  unfold isB at h
  simp only [Bool.and_eq_true, beq_iff_eq] at h
  exact h

def fClosed (f i : List Int) (asked : Bool) : List Int := if isB i 12 then fOn (f.set (2 + (i.getD 1 0).toNat) (if asked then 1 else 0)) else f
def fForked (f i : List Int) (id : Int) : List Int := if isB i 8 then fOn (f.set (10 + (i.getD 1 0).toNat) id) else f
def fJoined (f i : List Int) (kind v : Int) : List Int × Int × Bool :=
  if kind < 2 ∨ kind > 4 ∨ (isB i 9 = false ∧ isB i 10 = false) then (f, 0, false)
  else if isB i 10 then (fOn ((f.set (2 + (i.getD 1 0).toNat) (if kind = 4 then 0 else v)).set (2 + (i.getD 2 0).toNat) (IntKind.i64.wrap (kind - 2))), 0, false)
  else if kind = 2 then (fOn (f.set (2 + (i.getD 1 0).toNat) v), 0, false)
  else (fTo f (f.getD 1 0), if kind = 4 then -1 else v, true)
theorem fClosed_len {f i : List Int} {b : Bool} : (fClosed f i b).length = f.length := by
  unfold fClosed; split
  · rw [fOn_len, List.length_set]
  · rfl
theorem fForked_len {f i : List Int} {b : Int} : (fForked f i b).length = f.length := by
  unfold fForked; split
  · rw [fOn_len, List.length_set]
  · rfl
theorem fJoined_len {f i : List Int} {kind v : Int} : (fJoined f i kind v).1.length = f.length := by
  unfold fJoined
  split
  · rfl
  · split
    · simp only [fOn_len, List.length_set]
    · split
      · simp only [fOn_len, List.length_set]
      · simp only [fTo_len]

theorem closed_s {f i : List Int} {b : Bool} {w : World} {k : Array Value → World → Prop} (hf : f.length = 19) (hi : i.length = 5) (hk : ∀ w', Ext w w' → k (agI (fClosed f i b)) w') : frame_Frame_Closed (agI f) (agI i) b w k := by
  unfold frame_Frame_Closed frame_Frame_Closed_b
  refine newC_i fun g1 w1 hg1 hs1 hb1 he1 => newC_i fun g2 w2 hg2 hs2 hb2 he2 => newC_i fun g3 w3 hg3 hs3 hb3 he3 => ?_
  have he13 := (he1.trans he2).trans he3
  have hb1' : BI w3 g1 f := (hb1.ext he2).ext he3
  have hb2' : BI w3 g2 i := hb2.ext he3
  have hsz := he1.size
  simp only [add_mk, Nat.zero_add]
  refine ldA_I hb1' hf (newC_i fun g4 w4 hg4 hs4 hb4 he4 => stA_I hb4 rfl hf fun w5 hb5 hs5 ho5 => ?_)
  have he35 : Ext w3 w5 := he4.then ho5 fun g hg => by omega
  simp only [add_mk, Nat.zero_add]
  refine ldA_I (hb2'.ext he35) hi (may_s hi fun w6 he6 => ?_)
  have he36 := he35.trans he6
  refine iteB_i (fun h => ?_) fun h => ?_
  · obtain ⟨hA, hB, hC⟩ := chk_regs (isB_true h).2
    refine drew_i fun w7 hh7 he7 => ?_
    have he37 := he36.trans he7
    have hb27 : BI w7 g2 i := hb2'.ext he37
    refine ldP_I hb27 (by omega) (one_s (samec_B hb27 hb27 (ixP_i hA.1 (by omega) ?_)))
    rw [Nat.mul_one]
    refine stC_I ((hb5.ext he6).ext he7) (by omega) fun w8 hb8 hs8 ho8 => ldA_I hb8 (by simp [hf]) (on_s (by simp [hf]) fun w9 he9 => ?_)
    refine stA_I (((hb3.ext he37).keep ho8 (by omega)).ext he9) rfl (by rw [fOn_len]; simp [hf]) fun w10 hb10 hs10 ho10 => ldA_I hb10 (by rw [fOn_len]; simp [hf]) ?_
    have := hk w10 ((((he13.trans he37).then ho8 fun g hg => by omega).trans he9).then ho10 fun g hg => by omega)
    unfold fClosed at this
    rwa [if_pos h] at this
  · refine ldA_I (hb1'.ext he36) hf (stA_I (hb3.ext he36) rfl hf fun w10 hb10 hs10 ho10 => ldA_I hb10 hf ?_)
    have := hk w10 ((he13.trans he36).then ho10 fun g hg => by omega)
    unfold fClosed at this
    rwa [if_neg (by simp [h])] at this

theorem rclosed_s {f i : List Int} {b : Bool} {w : World} {k : Array Value → World → Prop} (hf : f.length = 19) (hi : i.length = 5) (hk : ∀ w', Ext w w' → k (agI (fClosed f i b)) w') : pelotonref05_Task_Closed (agI f) (agI i) b w k := by
  unfold pelotonref05_Task_Closed pelotonref05_Task_Closed_b
  refine newC_i fun g1 w1 hg1 hs1 hb1 he1 => newC_i fun g2 w2 hg2 hs2 hb2 he2 => newC_i fun g3 w3 hg3 hs3 hb3 he3 => ?_
  have he13 := (he1.trans he2).trans he3
  have hb1' : BI w3 g1 f := (hb1.ext he2).ext he3
  have hb2' : BI w3 g2 i := hb2.ext he3
  have hsz := he1.size
  simp only [add_mk, Nat.zero_add]
  have fin : ∀ (l : List Int) (w' : World), Ext w3 w' → l.length = 19 → fClosed f i b = l → (stA 19 w' ⟨g3, 0, none⟩ (agI l) fun w9 => ldA 19 w9 ⟨g3, 0, none⟩ fun cs => k cs w9) := by
    intro l w' he hl e
    refine stA_I (hb3.ext he) rfl hl fun w9 hb9 hs9 ho9 => ldA_I hb9 hl ?_
    have := hk w9 ((he13.trans he).then ho9 fun g hg => by omega)
    rwa [e] at this
  refine ldA_I hb2' hi (is_s hi fun w4 he4 => ?_)
  have hb14 : BI w4 g1 f := hb1'.ext he4
  have hb24 : BI w4 g2 i := hb2'.ext he4
  refine iteB_i (fun h => ldA_I hb14 hf (fin f w4 he4 hf ?_)) fun h => ?_
  · unfold fClosed; rw [if_neg (by simpa using h)]
  have h : isB i 12 = true := by simpa using h
  obtain ⟨hA, hB, hC⟩ := chk_regs (isB_true h).2
  refine iteB_i (fun hb => ?_) fun hb => ?_
  · refine ldA_I hb14 hf (ldP_I hb24 (by omega) (with_s hf hA.1 hA.2 fun w5 he5 => ron_s (by simp [hf]) fun w6 he6 => fin _ w6 ((he4.trans he5).trans he6) (by rw [fOn_len]; simp [hf]) ?_))
    unfold fClosed; rw [if_pos h, hb]; rfl
  · refine ldA_I hb14 hf (ldP_I hb24 (by omega) (with_s hf hA.1 hA.2 fun w5 he5 => ron_s (by simp [hf]) fun w6 he6 => fin _ w6 ((he4.trans he5).trans he6) (by rw [fOn_len]; simp [hf]) ?_))
    unfold fClosed; rw [if_pos h, hb]; rfl

theorem forked_s {f i : List Int} {id : Int} {w : World} {k : Array Value → World → Prop} (hf : f.length = 19) (hi : i.length = 5) (hk : ∀ w', Ext w w' → k (agI (fForked f i id)) w') : frame_Frame_Forked (agI f) (agI i) id w k := by
  unfold frame_Frame_Forked frame_Frame_Forked_b
  refine newC_i fun g1 w1 hg1 hs1 hb1 he1 => newC_i fun g2 w2 hg2 hs2 hb2 he2 => newC_i fun g3 w3 hg3 hs3 hb3 he3 => ?_
  have he13 := (he1.trans he2).trans he3
  have hb1' : BI w3 g1 f := (hb1.ext he2).ext he3
  have hb2' : BI w3 g2 i := hb2.ext he3
  have hsz := he1.size
  simp only [add_mk, Nat.zero_add]
  refine ldA_I hb2' hi (may_s hi fun w4 he4 => ?_)
  have hb14 : BI w4 g1 f := hb1'.ext he4
  have hb24 : BI w4 g2 i := hb2'.ext he4
  refine iteB_i (fun h => ?_) fun h => ?_
  · refine ldA_I hb14 hf (stA_I (hb3.ext he4) rfl hf fun w10 hb10 hs10 ho10 => ldA_I hb10 hf ?_)
    have := hk w10 ((he13.trans he4).then ho10 fun g hg => by omega)
    unfold fForked at this
    rwa [if_neg (by simpa using h)] at this
  · have h : isB i 8 = true := by simpa using h
    obtain ⟨hA, hB, hC⟩ := chk_regs (isB_true h).2
    refine ldP_I hb24 (by omega) (ixP_i hA.1 (by omega) ?_)
    rw [Nat.mul_one]
    refine stC_I hb14 (by omega) fun w8 hb8 hs8 ho8 => ldA_I hb8 (by simp [hf]) (on_s (by simp [hf]) fun w9 he9 => ?_)
    refine stA_I (((hb3.ext he4).keep ho8 (by omega)).ext he9) rfl (by rw [fOn_len]; simp [hf]) fun w10 hb10 hs10 ho10 => ldA_I hb10 (by rw [fOn_len]; simp [hf]) ?_
    have := hk w10 ((((he13.trans he4).then ho8 fun g hg => by omega).trans he9).then ho10 fun g hg => by omega)
    unfold fForked at this
    rwa [if_pos h] at this

theorem rforked_s {f i : List Int} {id : Int} {w : World} {k : Array Value → World → Prop} (hf : f.length = 19) (hi : i.length = 5) (hk : ∀ w', Ext w w' → k (agI (fForked f i id)) w') : pelotonref05_Task_Forked (agI f) (agI i) id w k := by
  unfold pelotonref05_Task_Forked pelotonref05_Task_Forked_b
  refine newC_i fun g1 w1 hg1 hs1 hb1 he1 => newC_i fun g2 w2 hg2 hs2 hb2 he2 => newC_i fun g3 w3 hg3 hs3 hb3 he3 => ?_
  have he13 := (he1.trans he2).trans he3
  have hb1' : BI w3 g1 f := (hb1.ext he2).ext he3
  have hb2' : BI w3 g2 i := hb2.ext he3
  have hsz := he1.size
  simp only [add_mk, Nat.zero_add]
  refine ldA_I hb2' hi (is_s hi fun w4 he4 => ?_)
  have hb14 : BI w4 g1 f := hb1'.ext he4
  have hb24 : BI w4 g2 i := hb2'.ext he4
  refine iteB_i (fun h => ?_) fun h => ?_
  · refine ldA_I hb14 hf (stA_I (hb3.ext he4) rfl hf fun w10 hb10 hs10 ho10 => ldA_I hb10 hf ?_)
    have := hk w10 ((he13.trans he4).then ho10 fun g hg => by omega)
    unfold fForked at this
    rwa [if_neg (by simpa using h)] at this
  · have h : isB i 8 = true := by simpa using h
    obtain ⟨hA, hB, hC⟩ := chk_regs (isB_true h).2
    refine ldP_I hb24 (by omega) (ixP_i hA.1 (by omega) ?_)
    rw [Nat.mul_one]
    refine stC_I hb14 (by omega) fun w8 hb8 hs8 ho8 => ldA_I hb8 (by simp [hf]) (ron_s (by simp [hf]) fun w9 he9 => ?_)
    refine stA_I (((hb3.ext he4).keep ho8 (by omega)).ext he9) rfl (by rw [fOn_len]; simp [hf]) fun w10 hb10 hs10 ho10 => ldA_I hb10 (by rw [fOn_len]; simp [hf]) ?_
    have := hk w10 ((((he13.trans he4).then ho8 fun g hg => by omega).trans he9).then ho10 fun g hg => by omega)
    unfold fForked at this
    rwa [if_pos h] at this

theorem joined_s {f i : List Int} {kind v : Int} {w : World} {k : Array Value × Int × Bool → World → Prop} (hf : f.length = 19) (hi : i.length = 5) (hk : ∀ w', Ext w w' → k (agI (fJoined f i kind v).1, (fJoined f i kind v).2.1, (fJoined f i kind v).2.2) w') : frame_Frame_Joined (agI f) (agI i) kind v w k := by
  unfold frame_Frame_Joined frame_Frame_Joined_b
  refine newC_i fun g1 w1 hg1 hs1 hb1 he1 => newC_i fun g2 w2 hg2 hs2 hb2 he2 => newC_i fun g3 w3 hg3 hs3 hb3 he3 => ?_
  have he13 := (he1.trans he2).trans he3
  have hb1' : BI w3 g1 f := (hb1.ext he2).ext he3
  have hb2' : BI w3 g2 i := hb2.ext he3
  have hsz := he1.size
  simp only [add_mk, Nat.zero_add]
  have fin : ∀ (l : List Int) (a : Int) (b : Bool) (w' : World), Ext w w' → Blk w' g3 (agI (Z 19)) → l.length = 19 → fJoined f i kind v = (l, a, b) → (stA 19 w' ⟨g3, 0, none⟩ (agI l) fun w9 => ldA 19 w9 ⟨g3, 0, none⟩ fun cs => k (cs, (a, b)) w9) := by
    intro l a b w' he hb hl e
    refine stA_I hb rfl hl fun w9 hb9 hs9 ho9 => ldA_I hb9 hl ?_
    have := hk w9 (he.then ho9 fun g hg => by omega)
    rwa [e] at this
  have hb3' : Blk w3 g3 (agI (Z 19)) := hb3
  refine joinP_i (fun x w' => x = decide (kind < 2 ∨ kind > 4 ∨ (isB i 9 = false ∧ isB i 10 = false)) ∧ Ext w3 w') ?_ ?_
  · intro J hJ
    refine iteB_i (fun h => hJ _ _ ⟨?_, .refl _ _⟩) fun h => ?_
    · simp only [Bool.or_eq_true, decide_eq_true_eq] at h
      exact (decide_eq_true (by omega)).symm
    · simp only [Bool.or_eq_false_iff, decide_eq_false_iff_not] at h
      refine ldA_I hb2' hi (may_s hi fun w4 he4 => ?_)
      refine iteB_i (fun h9 => ?_) fun h9 => ?_
      · have h9 : isB i 9 = false := by simpa using h9
        refine ldA_I (hb2'.ext he4) hi (may_s hi fun w5 he5 => hJ _ _ ⟨?_, he4.trans he5⟩)
        rw [Bool.eq_iff_iff]
        simp only [Bool.not_eq_true', decide_eq_true_eq]
        constructor
        · intro h10; exact .inr (.inr ⟨h9, h10⟩)
        · rintro (h' | h' | ⟨_, h'⟩)
          · omega
          · omega
          · exact h'
      · have h9 : isB i 9 = true := by simpa using h9
        refine hJ _ _ ⟨?_, he4⟩
        rw [eq_comm, decide_eq_false_iff_not]
        rintro (h' | h' | ⟨h', _⟩)
        · omega
        · omega
        · rw [h9] at h'; cases h'
  rintro _ w4 ⟨rfl, he4⟩
  have he14 := he13.trans he4
  have hb14 : BI w4 g1 f := hb1'.ext he4
  have hb24 : BI w4 g2 i := hb2'.ext he4
  refine iteB_i (fun h => ?_) fun h => ?_
  · have h := of_decide_eq_true h
    refine ldA_I hb14 hf (fin f 0 false w4 he14 (hb3'.ext he4) hf ?_)
    unfold fJoined; rw [if_pos h]
  have h := of_decide_eq_false h
  have hchk : chk i = 0 ∧ (i.getD 0 0 = 10 ↔ isB i 10 = true) := by
    cases h10 : isB i 10 with
    | true => exact ⟨(isB_true h10).2, fun _ => rfl, fun _ => (isB_true h10).1⟩
    | false =>
      cases h9 : isB i 9 with
      | true => exact ⟨(isB_true h9).2, fun e => (by have := (isB_true h9).1; omega), fun e => by cases e⟩
      | false => exact absurd (.inr (.inr ⟨h9, h10⟩)) h
  obtain ⟨hA, hB, hC⟩ := chk_regs hchk.1
  refine joinP_i (fun x w' => w4 = w' ∧ fJoined f i kind v = (fTo f (f.getD 1 0), x, true)) ?_ ?_
  · intro J hJ
    refine ldP_I hb24 (by omega) (iteB_i (fun h10 => ?_) fun h10 => ?_)
    · have h10 : isB i 10 = true := hchk.2.1 (by simpa using h10)
      refine joinP_i (fun x w' => w4 = w' ∧ x = if kind = 4 then 0 else v) ?_ ?_
      · intro J2 hJ2
        refine iteB_i (fun h4 => hJ2 _ _ ⟨rfl, ?_⟩) fun h4 => hJ2 _ _ ⟨rfl, ?_⟩
        · rw [if_pos (by simpa using h4)]
        · rw [if_neg (by simpa using h4)]
      rintro _ _ ⟨rfl, rfl⟩
      refine drew_i fun w5 hh5 he5 => ?_
      have hb15 : BI w5 g1 f := hb14.ext he5
      have hb25 : BI w5 g2 i := hb24.ext he5
      refine ldP_I hb25 (by omega) (ldP_I hb25 (by omega) (ixP_i hA.1 (by omega) ?_))
      rw [Nat.mul_one]
      refine stC_I hb15 (by omega) fun w6 hb6 hs6 ho6 => samec_B hb25 (hb25.keep ho6 (by omega)) (ixP_i hB.1 (by omega) ?_)
      rw [Nat.mul_one]
      refine stC_I hb6 (by rw [List.length_set]; omega) fun w7 hb7 hs7 ho7 => ldA_I hb7 (by simp [hf]) (on_s (by simp [hf]) fun w8 he8 => ?_)
      refine fin _ 0 false w8 (((((he14.trans he5).then ho6 fun g hg => by omega).then ho7 fun g hg => by omega).trans he8)) (((((hb3'.ext he4).ext he5).keep ho6 (by omega)).keep ho7 (by omega)).ext he8) (by rw [fOn_len]; simp [hf]) ?_
      unfold fJoined; rw [if_neg h, if_pos h10]
    · have h10' : isB i 10 = false := by
        cases h' : isB i 10 with
        | false => rfl
        | true => exact absurd (hchk.2.2 h') (by simpa using h10)
      refine iteB_i (fun h2 => ?_) fun h2 => ?_
      · have h2 : kind = 2 := by simpa using h2
        refine ldP_I hb24 (by omega) (ixP_i hA.1 (by omega) ?_)
        rw [Nat.mul_one]
        refine stC_I hb14 (by omega) fun w6 hb6 hs6 ho6 => ldA_I hb6 (by simp [hf]) (on_s (by simp [hf]) fun w8 he8 => ?_)
        refine fin _ 0 false w8 ((he14.then ho6 fun g hg => by omega).trans he8) (((hb3'.ext he4).keep ho6 (by omega)).ext he8) (by rw [fOn_len]; simp [hf]) ?_
        unfold fJoined; rw [if_neg h, if_neg (by simp [h10']), if_pos h2]
      · have h2 : kind ≠ 2 := by simpa using h2
        refine iteB_i (fun h4 => hJ _ _ ⟨rfl, ?_⟩) fun h4 => hJ _ _ ⟨rfl, ?_⟩
        · unfold fJoined; rw [if_neg h, if_neg (by simp [h10']), if_neg h2, if_pos (by simpa using h4)]
        · unfold fJoined; rw [if_neg h, if_neg (by simp [h10']), if_neg h2, if_neg (by simpa using h4)]
  · rintro x _ ⟨rfl, e⟩
    exact ldA_I hb14 hf (ldP_I hb14 (by omega) (to_s hf fun w5 he5 => fin _ x true w5 (he14.trans he5) ((hb3'.ext he4).ext he5) (by rw [fTo_len, hf]) e))

theorem rjoined_s {f i : List Int} {kind v : Int} {w : World} {k : Array Value × Int × Bool → World → Prop} (hf : f.length = 19) (hi : i.length = 5) (hk : ∀ w', Ext w w' → k (agI (fJoined f i kind v).1, (fJoined f i kind v).2.1, (fJoined f i kind v).2.2) w') : pelotonref05_Task_Joined (agI f) (agI i) kind v w k := by
  unfold pelotonref05_Task_Joined pelotonref05_Task_Joined_b
  refine newC_i fun g1 w1 hg1 hs1 hb1 he1 => newC_i fun g2 w2 hg2 hs2 hb2 he2 => newC_i fun g3 w3 hg3 hs3 hb3 he3 => ?_
  have he13 := (he1.trans he2).trans he3
  have hb1' : BI w3 g1 f := (hb1.ext he2).ext he3
  have hb2' : BI w3 g2 i := hb2.ext he3
  have hsz := he1.size
  simp only [add_mk, Nat.zero_add]
  have fin : ∀ (l : List Int) (a : Int) (b : Bool) (w' : World), Ext w3 w' → l.length = 19 → fJoined f i kind v = (l, a, b) → (stA 19 w' ⟨g3, 0, none⟩ (agI l) fun w9 => ldA 19 w9 ⟨g3, 0, none⟩ fun cs => k (cs, (a, b)) w9) := by
    intro l a b w' he hl e
    refine stA_I (hb3.ext he) rfl hl fun w9 hb9 hs9 ho9 => ldA_I hb9 hl ?_
    have := hk w9 ((he13.trans he).then ho9 fun g hg => by omega)
    rwa [e] at this
  refine iteB_i (fun h => ldA_I hb1' hf (fin f 0 false w3 (.refl _ _) hf ?_)) fun h => ?_
  · simp only [Bool.and_eq_true, bne_iff_ne] at h
    unfold fJoined; rw [if_pos (by omega)]
  have hkind : kind = 2 ∨ kind = 3 ∨ kind = 4 := by
    by_cases h2 : kind = 2
    · exact .inl h2
    · by_cases h3 : kind = 3
      · exact .inr (.inl h3)
      · by_cases h4 : kind = 4
        · exact .inr (.inr h4)
        · simp [h2, h3, h4] at h
  refine joinP_i (fun x w' => w3 = w' ∧ x = if kind = 4 then 0 else v) ?_ ?_
  · intro J2 hJ2
    refine iteB_i (fun h4 => hJ2 _ _ ⟨rfl, ?_⟩) fun h4 => hJ2 _ _ ⟨rfl, ?_⟩
    · rw [if_pos (by simpa using h4)]
    · rw [if_neg (by simpa using h4)]
  rintro _ _ ⟨rfl, rfl⟩
  refine ldA_I hb2' hi (is_s hi fun w4 he4 => iteB_i (fun h10 => ?_) fun h10 => ?_)
  · obtain ⟨hA, hB, hC⟩ := chk_regs (isB_true h10).2
    refine drew_i fun w5 hh5 he5 => ?_
    have hb15 : BI w5 g1 f := (hb1'.ext he4).ext he5
    have hb25 : BI w5 g2 i := (hb2'.ext he4).ext he5
    refine ldA_I hb15 hf (ldP_I hb25 (by omega) (ldP_I hb25 (by omega) (with_s hf hA.1 hA.2 fun w6 he6 => samec_B hb25 (hb25.ext he6) (with_s (by simp [hf]) hB.1 hB.2 fun w7 he7 => ron_s (by simp [hf]) fun w8 he8 => ?_))))
    refine fin _ 0 false w8 ((((he4.trans he5).trans he6).trans he7).trans he8) (by rw [fOn_len]; simp [hf]) ?_
    unfold fJoined; rw [if_neg (by rintro (h' | h' | ⟨_, h'⟩); omega; omega; rw [h10] at h'; cases h'), if_pos h10]
  · refine ldA_I (hb2'.ext he4) hi (is_s hi fun w5 he5 => iteB_i (fun h9 => ?_) fun h9 => ?_)
    · have h9 : isB i 9 = false := by simpa using h9
      refine ldA_I ((hb1'.ext he4).ext he5) hf (fin f 0 false w5 (he4.trans he5) hf ?_)
      unfold fJoined; rw [if_pos (.inr (.inr ⟨h9, h10⟩))]
    have h9 : isB i 9 = true := by simpa using h9
    have hn : ¬ (kind < 2 ∨ kind > 4 ∨ (isB i 9 = false ∧ isB i 10 = false)) := by
      rintro (h' | h' | ⟨h', _⟩)
      · omega
      · omega
      · rw [h9] at h'; cases h'
    obtain ⟨hA, hB, hC⟩ := chk_regs (isB_true h9).2
    have hb15 : BI w5 g1 f := (hb1'.ext he4).ext he5
    have hb25 : BI w5 g2 i := (hb2'.ext he4).ext he5
    have he35 := he4.trans he5
    refine iteB_i (fun h2 => ?_) fun h2 => ?_
    · have h2 : kind = 2 := by simpa using h2
      refine ldA_I hb15 hf (ldP_I hb25 (by omega) (with_s hf hA.1 hA.2 fun w6 he6 => ron_s (by simp [hf]) fun w7 he7 => fin _ 0 false w7 ((he35.trans he6).trans he7) (by rw [fOn_len]; simp [hf]) ?_))
      unfold fJoined; rw [if_neg hn, if_neg (by simp [h10]), if_pos h2, if_neg (by omega)]
    · have h2 : kind ≠ 2 := by simpa using h2
      refine iteB_i (fun h4 => ?_) fun h4 => ?_
      · have h4 : kind = 4 := by simpa using h4
        refine ldA_I hb15 hf (ldP_I hb15 (by omega) (rto_s hf fun w6 he6 => fin _ _ true w6 (he35.trans he6) (by rw [fTo_len, hf]) ?_))
        unfold fJoined; rw [if_neg hn, if_neg (by simp [h10]), if_neg h2, if_pos h4]
      · have h4 : kind ≠ 4 := by simpa using h4
        refine ldA_I hb15 hf (ldP_I hb15 (by omega) (rto_s hf fun w6 he6 => fin _ _ true w6 (he35.trans he6) (by rw [fTo_len, hf]) ?_))
        unfold fJoined; rw [if_neg hn, if_neg (by simp [h10]), if_neg h2, if_neg h4, if_neg h4]

end Go.Proofs.Ytgkfbagclkjilaa.Fr

namespace Go.Proofs.Ytgkfbagclkjilaa.Fr
open Go Go.Ev Go.Proofs

theorem bv_pow {h : Nat} (hh : h < 63) : bv (shlV .i64 1 (h : Int)) = BitVec.twoPow 64 h := by
  unfold shlV
  have e : min ((h : Int).toNat) IntKind.i64.bits = h := by simp [IntKind.bits]; omega
  rw [e, wrapI, bv_of_toInt, Int.one_mul]
  apply BitVec.eq_of_toNat_eq
  rw [BitVec.toNat_ofInt, BitVec.toNat_twoPow]
  have h2 : (2 ^ h : Nat) < 2 ^ 64 := Nat.pow_lt_pow_right (by omega) (by omega)
  have h3 : ((2 : Int) ^ h) = ((2 ^ h : Nat) : Int) := by simp
  rw [h3, Nat.mod_eq_of_lt h2]
  generalize (2 ^ h : Nat) = m at *
  omega
theorem and_shl {x : Int} {h : Nat} (hh : h < 63) : (andI .i64 x (shlV .i64 1 (h : Int)) != 0) = tb x h := by
  rw [andI_bv, bv_pow hh, BitVec.and_twoPow]
  unfold tb
  cases hb : (bv x).getLsbD h with
  | false => rfl
  | true =>
    simp only [if_true]
    have : (BitVec.twoPow 64 h).toInt ≠ 0 := by
      intro e
      have h1 : BitVec.twoPow 64 h = 0#64 := by
        apply BitVec.eq_of_toInt_eq
        rw [e]; rfl
      have h2 := congrArg (fun b => b.getLsbD h) h1
      simp at h2
      omega
    simpa using this

/-- a child's handles -/
def fHs (f : List Int) (needs : Int) (n : Nat) : List Int := (List.range n).map fun h => if tb needs h then f.getD (10 + h) 0 else -1
def fChild (f : List Int) (n needs : Int) : List Int := [n, 0] ++ ((f.drop 2).take 8 ++ (fHs f needs 8 ++ [0]))
/-- on the way -/
def fHalf (f : List Int) (n needs : Int) (j : Nat) : List Int := [n, 0] ++ ((f.drop 2).take 8 ++ (fHs f needs j ++ (List.replicate (8 - j) (-1) ++ [0])))
theorem fHs_len {f : List Int} {needs : Int} {n : Nat} : (fHs f needs n).length = n := by simp [fHs]
theorem fHs_succ {f : List Int} {needs : Int} {n : Nat} : fHs f needs (n + 1) = fHs f needs n ++ [if tb needs n then f.getD (10 + n) 0 else -1] := by
  simp [fHs, List.range_succ]
theorem fHalf_len {f : List Int} {n needs : Int} {j : Nat} (hf : f.length = 19) (hj : j ≤ 8) : (fHalf f n needs j).length = 19 := by
  unfold fHalf
  simp only [List.length_append, List.length_cons, List.length_nil, fHs_len, List.length_replicate, regs_len hf]
  omega
theorem fHalf_zero {f : List Int} {n needs : Int} (hf : f.length = 19) : fHalf f n needs 0 = ((fRoot.set 0 n).take 2 ++ ((f.drop 2).take 8 ++ (fRoot.set 0 n).drop (2 + 8))) := rfl
theorem fHalf_eight {f : List Int} {n needs : Int} : fHalf f n needs 8 = fChild f n needs := rfl
theorem fHalf_yes {f : List Int} {n needs : Int} {j : Nat} (hf : f.length = 19) (hj : j < 8) (hb : tb needs j = true) : (fHalf f n needs j).set (10 + j) (f.getD (10 + j) 0) = fHalf f n needs (j + 1) := by
  unfold fHalf
  have hr := regs_len hf
  have e8 : 8 - j = (8 - (j + 1)) + 1 := by omega
  rw [List.set_append_right _ _ (by simp; omega), List.set_append_right _ _ (by simp [hr]; omega), List.set_append_right _ _ (by simp [hr, fHs_len]; omega)]
  rw [fHs_succ, hb, e8, List.replicate_succ]
  have e0 : 10 + j - 2 - 8 - j = 0 := by omega
  simp [hr, fHs_len, e0]
theorem fHalf_no {f : List Int} {n needs : Int} {j : Nat} (hj : j < 8) (hb : tb needs j = false) : fHalf f n needs j = fHalf f n needs (j + 1) := by
  unfold fHalf
  have e8 : 8 - j = (8 - (j + 1)) + 1 := by omega
  rw [fHs_succ, hb, e8, List.replicate_succ]
  simp

/-- functions, as a program's rows -/
def cellsF (x : Int × Sl) : List Value := [.int .i64 x.1, .slice x.2.a x.2.n x.2.c]
def Funcs (w : World) (s : Sl) (fs : List (Int × Sl)) : Prop := Rws 2 w s (fs.map cellsF)
theorem Funcs.len {w : World} {s : Sl} {fs : List (Int × Sl)} (h : Funcs w s fs) : s.n = fs.length := by have := Rws.len h; simp at this; omega
theorem Funcs.ext {w w' : World} {s : Sl} {fs : List (Int × Sl)} (h : Funcs w s fs) (he : Ext w w') : Funcs w' s fs := Rws.ext h he
theorem ixF {w : World} {s : Sl} {fs : List (Int × Sl)} {i : Int} {x : Int × Sl} {c : Addr → Prop} (h : Funcs w s fs) (h0 : 0 ≤ i) (hi : fs[i.toNat]? = some x)
    (hc : ∀ p : Addr, w.cell? (p.add 0) = some (.int .i64 x.1) → w.cell? (p.add 1) = some (.slice x.2.a x.2.n x.2.c) → c p) : ixS s i 2 c := by
  have hl := Funcs.len h
  have hlt := (List.getElem?_eq_some_iff.1 hi).1
  refine ixR_i h h0 (by omega) fun p e he _ hcell => ?_
  rw [List.getElem?_map, hi] at he
  cases he
  exact hc p (hcell 0 _ rfl) (hcell 1 _ rfl)

/-- the spans of a fork's N -/
theorem fork_N {i : List Int} (h : isB i 8 = true) : 0 ≤ i.getD 4 0 ∧ i.getD 4 0 ≤ 31 := by
  obtain ⟨h8, hc⟩ := isB_true h
  obtain ⟨_, _, hs⟩ := chk_ok hc
  have := hs 3 (by omega)
  rw [h8] at this
  exact this

theorem child_s {f i : List Int} {s : Sl} {fs : List (Int × Sl)} {w : World} {k : Array Value × Int → World → Prop} (hf : f.length = 19) (hi : i.length = 5) (hp : Funcs w s fs)
    (h1 : isB i 8 = false → ∀ w', Ext w w' → k (agI (Z 19), 1) w') (h2 : isB i 8 = true → fs.length ≤ (i.getD 4 0).toNat → ∀ w', Ext w w' → k (agI (Z 19), 17) w')
    (h3 : isB i 8 = true → ∀ x, fs[(i.getD 4 0).toNat]? = some x → ∀ w', Ext w w' → k (agI (fChild f (i.getD 4 0) x.1), 0) w') : frame_Frame_Child (agI f) #[.slice s.a s.n s.c] (agI i) w k := by
  unfold frame_Frame_Child frame_Frame_Child_b
  refine newC_i fun g1 w1 hg1 hs1 hb1 he1 => newC_i fun gp wp hgp hsp hbp hep => newC_i fun g2 w2 hg2 hs2 hb2 he2 => newC_i fun g3 w3 hg3 hs3 hb3 he3 => ?_
  have he13 := ((he1.trans hep).trans he2).trans he3
  have hb1' : BI w3 g1 f := ((hb1.ext hep).ext he2).ext he3
  have hb2' : BI w3 g2 i := hb2.ext he3
  have hbp' : Blk w3 gp #[.slice s.a s.n s.c] := (hbp.ext he2).ext he3
  have hsz := he1.size
  have hln := hp.len
  simp only [add_mk, Nat.zero_add]
  refine ldA_I hb2' hi (may_s hi fun w4 he4 => ?_)
  have hb14 : BI w4 g1 f := hb1'.ext he4
  have hb24 : BI w4 g2 i := hb2'.ext he4
  have hbp4 := hbp'.ext he4
  have he14 := he13.trans he4
  refine iteB_i (fun h => ?_) fun h => ?_
  · refine stA_I (l := Z 19) (hb3.ext he4) rfl rfl fun w5 hb5 hs5 ho5 => ldA_I hb5 rfl ?_
    exact h1 (by simpa using h) _ (he14.then ho5 fun g hg => by omega)
  have h : isB i 8 = true := by simpa using h
  obtain ⟨hN0, hN1⟩ := fork_N h
  refine ldP_I hb24 (by omega) (ldS_i (s := s) (hbp4.cell 0) (iteB_i (fun hge => ?_) fun hlt => ?_))
  · have hge : i.getD 4 0 ≥ s.n := of_decide_eq_true hge
    refine stA_I (l := Z 19) (hb3.ext he4) rfl rfl fun w5 hb5 hs5 ho5 => ldA_I hb5 rfl ?_
    exact h2 h (by omega) _ (he14.then ho5 fun g hg => by omega)
  have hlt : i.getD 4 0 < s.n := by have := of_decide_eq_false hlt; omega
  obtain ⟨x, hx⟩ : ∃ x, fs[(i.getD 4 0).toNat]? = some x := ⟨_, List.getElem?_eq_getElem (by omega)⟩
  refine root_s fun w5 he5 => newC_i fun g6 w6 hg6 hs6 hb6 he6 => ?_
  simp only [add_mk, Nat.zero_add]
  refine stA_I (l := fRoot) hb6 rfl rfl fun w7 hb7 hs7 ho7 => ?_
  have hs5 := he5.size
  have he47 : Ext w4 w7 := (he5.trans he6).then ho7 fun g hg => by omega
  refine drew_i fun w8 hh8 he8 => ?_
  have he48 := he47.trans he8
  have hb18 : BI w8 g1 f := hb14.ext he48
  have hb28 : BI w8 g2 i := hb24.ext he48
  refine ldP_I hb28 (by omega) (ldA_P hb18 (by omega) ?_)
  have hg16 : g1 ≠ g6 := by have := hb14.lt; omega
  refine stC_I (hb7.ext he8) (by decide) fun w9 hb9 hs9 ho9 => samec_B hb18 (hb18.keep ho9 hg16) ?_
  refine stA_P hb9 (regs_len hf) (by rw [List.length_set]; decide) fun w10 hb10 hs10 ho10 => ?_
  rw [← fHalf_zero (needs := x.1) hf] at hb10
  have he10 : Ext w4 w10 := (he48.then ho9 fun g hg => by omega).then ho10 fun g hg => by omega
  refine loopP_of (fun (y : Int) w' => ∃ j : Nat, y = j ∧ j ≤ 8 ∧ Ext w4 w' ∧ BI w' g6 (fHalf f (i.getD 4 0) x.1 j)) (fun y _ => (8 - y).toNat) ⟨0, rfl, by omega, he10, hb10⟩ ?_
  rintro _ w11 ⟨j, rfl, hj, he11, hb11⟩ C hC
  refine iteB_i (fun hlt8 => ?_) fun hge => ?_
  · have hj8 : j < 8 := by have : (j : Int) < 8 := by simpa using hlt8
                           omega
    have hw : IntKind.i64.wrap ((j : Int) + 1) = ((j + 1 : Nat) : Int) := by rw [wrap_id ⟨by omega, by omega⟩]; simp
    refine drew_i fun w12 hh12 he12 => ?_
    have he412 := he11.trans he12
    refine ldS_i (s := s) ((hbp4.ext he412).cell 0) (ldP_I (hb24.ext he412) (by omega) ?_)
    refine ixF (hp.ext (he14.trans he412)) hN0 hx fun p hc0 hc1 => ldI_i hc0 (shlI_i (by omega) ?_)
    rw [and_shl (by omega)]
    refine iteB_i (fun hb => ?_) fun hb => ?_
    · refine ixP_i (by omega) (by omega) (ldP_I (hb14.ext he412) (by simp; omega) (ixP_i (by omega) (by omega) ?_))
      simp only [Int.toNat_natCast, Nat.mul_one]
      have hl := fHalf_len (n := i.getD 4 0) (needs := x.1) hf hj
      refine stC_I (hb11.ext he12) (by omega) fun w13 hb13 hs13 ho13 => ?_
      rw [fHalf_yes hf hj8 hb] at hb13
      exact hC _ _ ⟨j + 1, hw, by omega, he412.then ho13 fun g hg => by omega, hb13⟩ (by rw [hw]; omega)
    · refine hC _ _ ⟨j + 1, hw, by omega, he412, ?_⟩ (by rw [hw]; omega)
      rw [← fHalf_no hj8 hb]
      exact hb11.ext he12
  · have hj8 : j = 8 := by have : ¬ (j : Int) < 8 := by simpa using hge
                           omega
    subst hj8
    have hl := fHalf_len (n := i.getD 4 0) (needs := x.1) hf hj
    refine ldA_I hb11 hl (stA_I ((hb3.ext he4).ext he11) rfl hl fun w12 hb12 hs12 ho12 => ldA_I hb12 hl ?_)
    exact h3 h x hx _ ((he14.trans he11).then ho12 fun g hg => by omega)

theorem rchild_s {f : List Int} {n needs : Int} {w : World} {k : Array Value → World → Prop} (hf : f.length = 19) (hn : InI needs) (hk : ∀ w', Ext w w' → k (agI (fChild f n needs)) w') : pelotonref05_Task_Child (agI f) n needs w k := by
  unfold pelotonref05_Task_Child pelotonref05_Task_Child_b
  refine newC_i fun g1 w1 hg1 hs1 hb1 he1 => newC_i fun g2 w2 hg2 hs2 hb2 he2 => ?_
  have he12 := he1.trans he2
  have hb1' : BI w2 g1 f := hb1.ext he2
  have hsz := he1.size
  simp only [add_mk, Nat.zero_add]
  refine rroot_s fun w5 he5 => newC_i fun g6 w6 hg6 hs6 hb6 he6 => ?_
  simp only [add_mk, Nat.zero_add]
  refine stA_I (l := fRoot) hb6 rfl rfl fun w7 hb7 hs7 ho7 => ?_
  have hs5 := he5.size
  have he27 : Ext w2 w7 := (he5.trans he6).then ho7 fun g hg => by omega
  have hg16 : g1 ≠ g6 := by have := hb1'.lt; omega
  refine stC_I hb7 (by decide) fun w9 hb9 hs9 ho9 => ldA_P ((hb1'.ext he27).keep ho9 hg16) (by omega) ?_
  refine stA_P hb9 (regs_len hf) (by rw [List.length_set]; decide) fun w10 hb10 hs10 ho10 => ?_
  rw [← fHalf_zero (needs := needs) hf] at hb10
  have he10 : Ext w2 w10 := (he27.then ho9 fun g hg => by omega).then ho10 fun g hg => by omega
  refine loopP_of (fun (y : Int) w' => ∃ j : Nat, y = j ∧ j ≤ 8 ∧ Ext w2 w' ∧ BI w' g6 (fHalf f n needs j)) (fun y _ => (8 - y).toNat) ⟨0, rfl, by omega, he10, hb10⟩ ?_
  rintro _ w11 ⟨j, rfl, hj, he11, hb11⟩ C hC
  refine iteB_i (fun hlt8 => ?_) fun hge => ?_
  · have hj8 : j < 8 := by have : (j : Int) < 8 := by simpa using hlt8
                           omega
    have hw : IntKind.i64.wrap ((j : Int) + 1) = ((j + 1 : Nat) : Int) := by rw [wrap_id ⟨by omega, by omega⟩]; simp
    have hu : IntKind.u64.wrap (j : Int) = j := by
      simp only [IntKind.wrap, IntKind.bits, IntKind.signed]
      simp; omega
    rw [hu]
    refine shrI_i (by omega) ?_
    rw [and1 hn (by omega) (by omega), Int.toNat_natCast]
    refine iteB_i (fun hb => ?_) fun hb => ?_
    · refine ixP_i (by omega) (by omega) (ldP_I (hb1'.ext he11) (by simp; omega) (ixP_i (by omega) (by omega) ?_))
      simp only [Int.toNat_natCast, Nat.mul_one]
      have hl := fHalf_len (n := n) (needs := needs) hf hj
      refine stC_I hb11 (by omega) fun w13 hb13 hs13 ho13 => ?_
      rw [fHalf_yes hf hj8 hb] at hb13
      exact hC _ _ ⟨j + 1, hw, by omega, he11.then ho13 fun g hg => by omega, hb13⟩ (by rw [hw]; omega)
    · refine hC _ _ ⟨j + 1, hw, by omega, he11, ?_⟩ (by rw [hw]; omega)
      rw [← fHalf_no hj8 hb]
      exact hb11
  · have hj8 : j = 8 := by have : ¬ (j : Int) < 8 := by simpa using hge
                           omega
    subst hj8
    have hl := fHalf_len (n := n) (needs := needs) hf hj
    refine ldA_I hb11 hl (stA_I (hb2.ext he11) rfl hl fun w12 hb12 hs12 ho12 => ldA_I hb12 hl ?_)
    exact hk _ ((he12.trans he11).then ho12 fun g hg => by omega)

end Go.Proofs.Ytgkfbagclkjilaa.Fr
