/-
  Layer 5, and what it asks of layer 2: which instructions may be; what concerns registers alone.
-/
import Derived.Test.YtkcakjckpbldoaaFa
set_option linter.unusedSimpArgs false
set_option linter.unusedVariables false
set_option maxRecDepth 100000
namespace Go.Proofs.Ytkcakjckpbldoaa
open Go Go.Ev Go.Proofs

theorem four {j : Nat} (h : j < 4) : j = 0 ∨ j = 1 ∨ j = 2 ∨ j = 3 := by omega
theorem chk_bad {i : List Int} {j : Nat} (h0 : ¬ (i.getD 0 0 < 0 ∨ i.getD 0 0 ≥ 17)) (hj : j < 4) (hb : inSpan i j = false) : chk i = 10 := by
  unfold chk
  rw [if_neg h0]
  rcases four hj with rfl | rfl | rfl | rfl <;> simp [hb]
theorem chk_good {i : List Int} (h0 : ¬ (i.getD 0 0 < 0 ∨ i.getD 0 0 ≥ 17)) (hb : ∀ j, j < 4 → inSpan i j = true) : chk i = 0 := by
  unfold chk
  rw [if_neg h0]
  simp [hb 0 (by omega), hb 1 (by omega), hb 2 (by omega), hb 3 (by omega)]
theorem kinds_get {op j : Nat} (h : op < 17) (hj : j < 4) : ((kindsT.drop (op * 4)).take 4).getD j 0 = kindsT.getD (4 * op + j) 0 := by
  rw [List.getD_eq_getElem?_getD, List.getElem?_take_of_lt hj, List.getElem?_drop, List.getD_eq_getElem?_getD, Nat.mul_comm]
theorem getD4 {i : List Int} {j : Nat} (hj : j < 4) : [i.getD 1 0, i.getD 2 0, i.getD 3 0, i.getD 4 0].getD j 0 = i.getD (j + 1) 0 := by
  rcases four hj with rfl | rfl | rfl | rfl <;> rfl

theorem check_s {i : List Int} {w : World} {k : Int → World → Prop} (hi : i.length = 5) (hk : ∀ w', Ext w w' → k (chk i) w') : code_Check (agI i) w k := by
  unfold code_Check
  refine newC_i fun g1 w1 hg1 hs1 hb1 he1 => ?_
  have hb1' : BI w1 g1 i := hb1
  simp only [add_mk, Nat.zero_add]
  refine joinP_i (fun b w' => b = decide (i.getD 0 0 < 0 ∨ i.getD 0 0 ≥ 17) ∧ w1 = w') ?_ ?_
  · intro J hJ
    refine ldP_I hb1' (by omega) (iteB_i (fun h => hJ _ _ ⟨?_, rfl⟩) fun h => ?_)
    · simp only [decide_eq_true_eq] at h
      exact (decide_eq_true (.inl h)).symm
    · simp only [decide_eq_false_iff_not] at h
      refine ldP_I hb1' (by omega) (hJ _ _ ⟨?_, rfl⟩)
      rw [decide_eq_decide]; omega
  rintro _ _ ⟨rfl, rfl⟩
  refine iteB_i (fun h => ?_) fun h => ?_
  · have h := of_decide_eq_true h
    have e : chk i = 13 := by unfold chk; rw [if_pos h]
    rw [← e]; exact hk _ he1
  have h := of_decide_eq_false h
  refine ldP_I hb1' (by omega) (operands_s (by omega) (by omega) fun w2 he2 => ?_)
  refine newC_i fun g3 w3 hg3 hs3 hb3 he3 => ?_
  have hl : ((kindsT.drop ((i.getD 0 0).toNat * 4)).take 4).length = 4 := by
    have : kindsT.length = 68 := rfl
    rw [List.length_take, List.length_drop, this]; omega
  refine stA_I hb3 rfl hl fun w4 hb4 hs4 ho4 => ?_
  have he14 : Ext w1 w4 := (he2.trans he3).then ho4 fun g hg => by have := he2.size; omega
  have hb14 : BI w4 g1 i := hb1'.ext he14
  refine ldP_I hb14 (by omega) (ldP_I hb14 (by omega) (ldP_I hb14 (by omega) (ldP_I hb14 (by omega) ?_)))
  refine loopP_of (fun (x : Int × Int) w' => w4 = w' ∧ x.1 = 0 ∧ ∃ j : Nat, x.2 = j ∧ j ≤ 4 ∧ ∀ m, m < j → inSpan i m = true) (fun x _ => (4 - x.2).toNat) ⟨rfl, rfl, 0, rfl, by omega, fun m hm => by omega⟩ ?_
  rintro ⟨out, _⟩ _ ⟨rfl, ho, j, hj, hj4, hall⟩ C hC
  simp only at ho hj; subst ho; subst hj
  refine iteB_i (fun hlt => ?_) fun hge => ?_
  · have hlt : j < 4 := by have : (j : Int) < 4 := by simpa using hlt
                           omega
    refine ixA_I (l := [i.getD 1 0, i.getD 2 0, i.getD 3 0, i.getD 4 0]) (by simp) (by simp; omega) rfl ?_
    rw [Int.toNat_natCast, getD4 hlt]
    refine toI_i (ixP_i (by omega) (by omega) ?_)
    rw [Int.toNat_natCast, Nat.mul_one, Nat.zero_add]
    refine ldP_I hb4 (by omega) ?_
    rw [kinds_get (by omega) hlt]
    refine span_s ?_
    have e : ((decide (i.getD (j + 1) 0 < (spanV (kindsT.getD (4 * (i.getD 0 0).toNat + j) 0)).1)) || (decide (i.getD (j + 1) 0 > (spanV (kindsT.getD (4 * (i.getD 0 0).toNat + j) 0)).2))) = !inSpan i j := by
      unfold inSpan spanOf
      rw [Bool.eq_iff_iff]
      simp only [Bool.or_eq_true, decide_eq_true_eq, Bool.not_eq_true', decide_eq_false_iff_not]
      omega
    rw [e]
    refine iteB_i (fun hb => ?_) fun hb => ?_
    · rw [← chk_bad h hlt (by simpa using hb)]
      exact hk _ (he1.trans he14)
    · have hw : IntKind.i64.wrap ((j : Int) + 1) = ((j + 1 : Nat) : Int) := by rw [wrap_id ⟨by omega, by omega⟩]; simp
      refine hC _ _ ⟨rfl, rfl, j + 1, hw, by omega, fun m hm => ?_⟩ (by simp only [hw]; omega)
      by_cases hmj : m = j
      · subst hmj; simpa using hb
      · exact hall m (by omega)
  · have hge : j = 4 := by have : ¬ (j : Int) < 4 := by simpa using hge
                           omega
    subst hge
    simp only
    rw [← chk_good h hall]
    exact hk _ (he1.trans he14)

/-- the least and the greatest of the four operands, as the document's answer has them -/
def spansT : List (List Int) := [[0, 7, 0, 0, 0, 0, -2147483648, 2147483647], [0, 7, 0, 7, 0, 0, 0, 0], [0, 7, 0, 7, 0, 7, 0, 0], [0, 7, 0, 7, 0, 7, 0, 0], [0, 7, 0, 7, 0, 7, 0, 0], [0, 7, 0, 7, 0, 7, 0, 0],
  [0, 0, 0, 0, 0, 0, 0, 127], [0, 7, 0, 0, 0, 0, 0, 127], [0, 7, 0, 0, 0, 0, 0, 31], [0, 7, 0, 7, 0, 0, 0, 0], [0, 7, 0, 7, 0, 7, 0, 0], [0, 0, 0, 0, 0, 0, 0, 65535], [0, 7, 0, 0, 0, 0, 0, 0], [0, 0, 0, 0, 0, 0, 0, 0], [0, 0, 0, 0, 0, 0, 0, 0], [0, 7, 0, 0, 0, 0, 0, 0], [0, 7, 0, 0, 0, 0, 0, 0]]
theorem spansT_ok : ∀ op, op < 17 → (spansT.getD op []).length = 8 ∧ ∀ j, j < 4 → ((spansT.getD op []).getD (2 * j) 0, (spansT.getD op []).getD (2 * j + 1) 0) = spanOf op j := by decide

theorem op17 {op : Int} (h0 : 0 ≤ op) (h1 : op < 17) : op = 0 ∨ op = 1 ∨ op = 2 ∨ op = 3 ∨ op = 4 ∨ op = 5 ∨ op = 6 ∨ op = 7 ∨ op = 8 ∨ op = 9 ∨ op = 10 ∨ op = 11 ∨ op = 12 ∨ op = 13 ∨ op = 14 ∨ op = 15 ∨ op = 16 := by omega
theorem spans_s {op : Int} {w : World} {k : Array Value → World → Prop} (h0 : 0 ≤ op) (h1 : op < 17) (hk : ∀ w', Ext w w' → k (agI (spansT.getD op.toNat [])) w') : pelotonref02_spans op w k := by
  unfold pelotonref02_spans
  refine newC_i fun g1 w1 hg1 hs1 hb1 he1 => ?_
  have fin : ∀ l : List Int, l.length = 8 → spansT.getD op.toNat [] = l → stA 8 w1 ⟨g1, 0, none⟩ (agI l) fun w3 => ldA 8 w3 ⟨g1, 0, none⟩ fun cs4 => k cs4 w3 := by
    intro l hl e
    refine stA_I hb1 rfl hl fun w2 hb2 hs2 ho2 => ldA_I hb2 hl ?_
    rw [← e]
    exact hk _ (he1.then ho2 fun g hg => by omega)
  rcases op17 h0 h1 with rfl | rfl | rfl | rfl | rfl | rfl | rfl | rfl | rfl | rfl | rfl | rfl | rfl | rfl | rfl | rfl | rfl
  all_goals exact fin _ rfl rfl

theorem rcheck_s {i : List Int} {w : World} {k : Int → World → Prop} (hi : i.length = 5) (hk : ∀ w', Ext w w' → k (chk i) w') : pelotonref02_Check (agI i) w k := by
  unfold pelotonref02_Check
  refine newC_i fun g1 w1 hg1 hs1 hb1 he1 => ?_
  have hb1' : BI w1 g1 i := hb1
  simp only [add_mk, Nat.zero_add]
  refine joinP_i (fun b w' => b = decide (i.getD 0 0 < 0 ∨ i.getD 0 0 ≥ 17) ∧ w1 = w') ?_ ?_
  · intro J hJ
    refine ldP_I hb1' (by omega) (iteB_i (fun h => hJ _ _ ⟨?_, rfl⟩) fun h => ?_)
    · simp only [decide_eq_true_eq] at h
      exact (decide_eq_true (.inl h)).symm
    · simp only [decide_eq_false_iff_not] at h
      refine ldP_I hb1' (by omega) (hJ _ _ ⟨?_, rfl⟩)
      rw [decide_eq_decide]; omega
  rintro _ _ ⟨rfl, rfl⟩
  refine iteB_i (fun h => ?_) fun h => ?_
  · have h := of_decide_eq_true h
    have e : chk i = 13 := by unfold chk; rw [if_pos h]
    rw [← e]; exact hk _ he1
  have h := of_decide_eq_false h
  refine ldP_I hb1' (by omega) (spans_s (by omega) (by omega) fun w2 he2 => ?_)
  obtain ⟨hl, hsp⟩ := spansT_ok (i.getD 0 0).toNat (by omega)
  refine newC_i fun g3 w3 hg3 hs3 hb3 he3 => ?_
  refine stA_I hb3 rfl hl fun w4 hb4 hs4 ho4 => ?_
  have he14 : Ext w1 w4 := (he2.trans he3).then ho4 fun g hg => by have := he2.size; omega
  have hb14 : BI w4 g1 i := hb1'.ext he14
  refine ldP_I hb14 (by omega) (ldP_I hb14 (by omega) (ldP_I hb14 (by omega) (ldP_I hb14 (by omega) ?_)))
  refine newC_i fun g5 w5 hg5 hs5 hb5 he5 => ?_
  refine stA_I (l := [i.getD 1 0, i.getD 2 0, i.getD 3 0, i.getD 4 0]) hb5 rfl rfl fun w6 hb6 hs6 ho6 => ?_
  have he46 : Ext w4 w6 := he5.then ho6 fun g hg => by omega
  have hb46 := hb4.ext he46
  refine loopP_of (fun (x : Int) w' => Ext w6 w' ∧ ∃ j : Nat, x = j ∧ j ≤ 4 ∧ ∀ m, m < j → inSpan i m = true) (fun x _ => (4 - x).toNat) ⟨.refl _ _, 0, rfl, by omega, fun m hm => by omega⟩ ?_
  rintro _ w7 ⟨he7, j, rfl, hj4, hall⟩ C hC
  have heall := ((he1.trans he14).trans he46).trans he7
  refine iteB_i (fun hlt => ?_) fun hge => ?_
  · have hlt : j < 4 := by have : (j : Int) < 4 := by simpa using hlt
                           omega
    have hsj := hsp j hlt
    refine joinP_i (fun b w' => b = !inSpan i j ∧ Ext w7 w') ?_ ?_
    · intro J hJ
      refine drew_i fun w8 hh8 he8 => ?_
      have hb8 := (hb6.ext he7).ext he8
      have hb48 := (hb46.ext he7).ext he8
      have hw2 : IntKind.i64.wrap (2 * (j : Int)) = ((2 * j : Nat) : Int) := by rw [wrap_id ⟨by omega, by omega⟩]; simp
      have hw3 : IntKind.i64.wrap (((2 * j : Nat) : Int) + 1) = ((2 * j + 1 : Nat) : Int) := by rw [wrap_id ⟨by omega, by omega⟩]; simp
      rw [hw2, hw3]
      refine ixP_i (by omega) (by omega) ?_
      simp only [Int.toNat_natCast, Nat.mul_one, Nat.zero_add]
      refine ldP_I hb8 (by simpa using hlt) (ixP_i (by omega) (by omega) ?_)
      simp only [Int.toNat_natCast, Nat.mul_one, Nat.zero_add, getD4 hlt]
      refine ldP_I hb48 (by omega) ?_
      have e1 : (spansT.getD (i.getD 0 0).toNat []).getD (2 * j) 0 = (spanOf (i.getD 0 0).toNat j).1 := congrArg (·.1) hsj
      have e2 : (spansT.getD (i.getD 0 0).toNat []).getD (2 * j + 1) 0 = (spanOf (i.getD 0 0).toNat j).2 := congrArg (·.2) hsj
      rw [e1]
      refine iteB_i (fun hb => hJ _ _ ⟨?_, he8⟩) fun hb => ?_
      · have hb := of_decide_eq_true hb
        unfold inSpan
        rw [decide_eq_false (by omega)]; rfl
      · have hb := of_decide_eq_false hb
        refine ixP_i (by omega) (by omega) ?_
        rw [Int.toNat_natCast, Nat.mul_one, Nat.zero_add]
        refine ldP_I hb8 (by simpa using hlt) (ixP_i (by omega) (by omega) ?_)
        simp only [Int.toNat_natCast, Nat.mul_one, Nat.zero_add, getD4 hlt]
        refine ldP_I hb48 (by omega) (hJ _ _ ⟨?_, he8⟩)
        rw [e2]
        unfold inSpan
        rw [Bool.eq_iff_iff]
        simp only [decide_eq_true_eq, Bool.not_eq_true', decide_eq_false_iff_not]
        omega
    · rintro _ w8 ⟨rfl, he8⟩
      refine iteB_i (fun hb => ?_) fun hb => ?_
      · rw [← chk_bad h hlt (by simpa using hb)]
        exact hk _ (heall.trans he8)
      · have hw : IntKind.i64.wrap ((j : Int) + 1) = ((j + 1 : Nat) : Int) := by rw [wrap_id ⟨by omega, by omega⟩]; simp
        refine hC _ _ ⟨he7.trans he8, j + 1, hw, by omega, fun m hm => ?_⟩ (by simp only [hw]; omega)
        by_cases hmj : m = j
        · subst hmj; simpa using hb
        · exact hall m (by omega)
  · have hge : j = 4 := by have : ¬ (j : Int) < 4 := by simpa using hge
                           omega
    subst hge
    rw [← chk_good h hall]
    exact hk _ heall

def isB (i : List Int) (op : Int) : Bool := i.getD 0 0 == op && chk i == 0
theorem may_s {i : List Int} {op : Int} {w : World} {k : Bool → World → Prop} (hi : i.length = 5) (hk : ∀ w', Ext w w' → k (isB i op) w') : frame_may (agI i) op w k := by
  unfold frame_may
  refine newC_i fun g1 w1 hg1 hs1 hb1 he1 => ?_
  have hb1' : BI w1 g1 i := hb1
  simp only [add_mk, Nat.zero_add]
  unfold isB at hk
  refine ldP_I hb1' (by omega) (iteB_i (fun h => ?_) fun h => ?_)
  · refine ldA_I hb1' hi (check_s hi fun w2 he2 => ?_)
    have := hk _ (he1.trans he2)
    rwa [h, Bool.true_and] at this
  · have := hk _ he1
    rwa [h, Bool.false_and] at this
theorem is_s {i : List Int} {op : Int} {w : World} {k : Bool → World → Prop} (hi : i.length = 5) (hk : ∀ w', Ext w w' → k (isB i op) w') : pelotonref05_is (agI i) op w k := by
  unfold pelotonref05_is
  refine newC_i fun g1 w1 hg1 hs1 hb1 he1 => ?_
  have hb1' : BI w1 g1 i := hb1
  simp only [add_mk, Nat.zero_add]
  unfold isB at hk
  refine ldP_I hb1' (by omega) (iteB_i (fun h => ?_) fun h => ?_)
  · refine ldA_I hb1' hi (rcheck_s hi fun w2 he2 => ?_)
    have := hk _ (he1.trans he2)
    rwa [h, Bool.true_and] at this
  · have := hk _ he1
    rwa [h, Bool.false_and] at this
theorem one_s {b : Bool} {w : World} {k : Int → World → Prop} (hk : k (if b then 1 else 0) w) : frame_one b w k := by
  unfold frame_one
  cases b <;> exact hk

/-- an instruction that may be has operands in their spans -/
theorem chk_ok {i : List Int} (h : chk i = 0) : 0 ≤ i.getD 0 0 ∧ i.getD 0 0 < 17 ∧ ∀ j, j < 4 → (spanOf (i.getD 0 0).toNat j).1 ≤ i.getD (j + 1) 0 ∧ i.getD (j + 1) 0 ≤ (spanOf (i.getD 0 0).toNat j).2 := by
  unfold chk at h
  split at h
  · cases h
  · rename_i h0
    split at h
    · rename_i h1
      simp only [Bool.and_eq_true] at h1
      refine ⟨by omega, by omega, fun j hj => ?_⟩
      rcases four hj with rfl | rfl | rfl | rfl
      · exact of_decide_eq_true h1.1.1.1
      · exact of_decide_eq_true h1.1.1.2
      · exact of_decide_eq_true h1.1.2
      · exact of_decide_eq_true h1.2
    · cases h
theorem spans_le : ∀ op, op < 17 → ∀ j, j < 3 → 0 ≤ (spanOf op j).1 ∧ (spanOf op j).2 ≤ 7 := by decide
/-- A, B and C of an instruction that may be -/
theorem chk_regs {i : List Int} (h : chk i = 0) : (0 ≤ i.getD 1 0 ∧ i.getD 1 0 < 8) ∧ (0 ≤ i.getD 2 0 ∧ i.getD 2 0 < 8) ∧ 0 ≤ i.getD 3 0 ∧ i.getD 3 0 < 8 := by
  obtain ⟨h0, h1, hs⟩ := chk_ok h
  have a := hs 0 (by omega); have b := hs 1 (by omega); have c := hs 2 (by omega)
  have a' := spans_le (i.getD 0 0).toNat (by omega) 0 (by omega)
  have b' := spans_le (i.getD 0 0).toNat (by omega) 1 (by omega)
  have c' := spans_le (i.getD 0 0).toNat (by omega) 2 (by omega)
  simp only [Nat.zero_add, Nat.reduceAdd] at a b c
  omega

end Go.Proofs.Ytkcakjckpbldoaa
