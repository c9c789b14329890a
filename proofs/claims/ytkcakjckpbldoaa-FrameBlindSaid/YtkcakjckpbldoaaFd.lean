/-
  Layer 5: the document's answer, for what concerns registers alone; the chapter's example.
-/
import Derived.Test.YtkcakjckpbldoaaFc
set_option linter.unusedSimpArgs false
set_option linter.unusedVariables false
set_option maxRecDepth 100000
namespace Go.Proofs.Ytkcakjckpbldoaa
open Go Go.Ev Go.Proofs

theorem regs_get {f : List Int} {r : Nat} (hr : r < 8) : ((f.drop 2).take 8).getD r 0 = f.getD (2 + r) 0 := by
  rw [List.getD_eq_getElem?_getD, List.getElem?_take_of_lt hr, List.getElem?_drop, List.getD_eq_getElem?_getD]
theorem regs_len {f : List Int} (hf : f.length = 19) : ((f.drop 2).take 8).length = 8 := by
  rw [List.length_take, List.length_drop, hf]; rfl

theorem rplain_s {f i : List Int} {w : World} {k : Array Value × Bool → World → Prop} (hf : f.length = 19) (hi : i.length = 5) (hk : ∀ w', Ext w w' → k (agI (fPlain f i).1, (fPlain f i).2) w') : pelotonref05_Task_Plain (agI f) (agI i) w k := by
  unfold pelotonref05_Task_Plain
  refine newC_i fun g1 w1 hg1 hs1 hb1 he1 => newC_i fun g2 w2 hg2 hs2 hb2 he2 => newC_i fun g3 w3 hg3 hs3 hb3 he3 => ?_
  have he13 := (he1.trans he2).trans he3
  have hb1' : BI w3 g1 f := (hb1.ext he2).ext he3
  have hb2' : BI w3 g2 i := hb2.ext he3
  have hsz := he1.size
  simp only [add_mk, Nat.zero_add]
  have fin : ∀ (l : List Int) (b : Bool) (w' : World), Ext w3 w' → l.length = 19 → (fPlain f i) = (l, b) → (stA 19 w' ⟨g3, 0, none⟩ (agI l) fun w9 => ldA 19 w9 ⟨g3, 0, none⟩ fun cs => k (cs, b) w9) := by
    intro l b w' he hl e
    refine stA_I (hb3.ext he) rfl hl fun w9 hb9 hs9 ho9 => ldA_I hb9 hl ?_
    have := hk w9 ((he13.trans he).then ho9 fun g hg => by omega)
    rwa [e] at this
  refine ldA_I hb2' hi (rcheck_s hi fun w4 he4 => ?_)
  have hb14 : BI w4 g1 f := hb1'.ext he4
  have hb24 : BI w4 g2 i := hb2'.ext he4
  refine iteB_i (fun h => ldA_I hb14 hf (fin f false w4 he4 hf ?_)) fun h => ?_
  · unfold fPlain; rw [if_pos (by simpa using h)]
  have h : chk i = 0 := by simpa using h
  have hne : ¬ chk i ≠ 0 := by simp [h]
  obtain ⟨hA, hB, hC⟩ := chk_regs h
  obtain ⟨h0, h17, _⟩ := chk_ok h
  have hrl := regs_len hf
  refine ldA_P hb14 (by omega) (newC_i fun g5 w5 hg5 hs5 hb5 he5 => stA_I hb5 rfl hrl fun w6 hb6 hs6 ho6 => ?_)
  have he46 : Ext w4 w6 := he5.then ho6 fun g hg => by omega
  have he36 := he4.trans he46
  have tailOn : ∀ (v : Int) (w' : World), Ext w3 w' → fPlain f i = (fOn (f.set (2 + (i.getD 1 0).toNat) v), true) → (pelotonref05_Task_With (agI f) (i.getD 1 0) v w' fun cs21 w22 => pelotonref05_Task_On cs21 w22 fun cs23 w24 => stA 19 w24 ⟨g3, 0, none⟩ cs23 fun w25 => ldA 19 w25 ⟨g3, 0, none⟩ fun cs26 => k (cs26, true) w25) := by
    intro v w' he e
    refine with_s hf hA.1 hA.2 fun w7 he7 => ron_s (by simp [hf]) fun w8 he8 => fin _ true w8 ((he.trans he7).trans he8) (by rw [fOn_len]; simp [hf]) e
  have reg : ∀ (r : Int) (w' : World) (c : Int → Prop), 0 ≤ r ∧ r < 8 → Ext w6 w' → c (fR f r) → ixP ⟨g5, 0, none⟩ 8 r 1 fun a => ldI .i64 w' a c := by
    intro r w' c hr he hc
    refine ixP_i hr.1 (by omega) (ldP_I (hb6.ext he) (by omega) ?_)
    rw [Nat.mul_one, Nat.zero_add, regs_get (by omega)]
    exact hc
  have hb16 : BI w6 g1 f := hb14.ext he46
  have hb26 : BI w6 g2 i := hb24.ext he46
  have n6 : ∀ {x : Int}, i.getD 0 0 = x → x ≠ 6 → x ≠ 7 → ¬ (i.getD 0 0 = 6 ∨ (i.getD 0 0 = 7 ∧ fR f (i.getD 1 0) ≠ 0)) := fun e h6 h7 => by omega
  have plainE : ∀ {x v : Int}, i.getD 0 0 = x → x ≤ 5 → sumV f i = v → fPlain f i = (fOn (f.set (2 + (i.getD 1 0).toNat) v), true) := by
    intro x v e hx hv
    unfold fPlain
    rw [if_neg hne, if_neg (n6 e (by omega) (by omega)), if_neg (by omega), if_neg (by omega), hv]
  refine ldP_I hb26 (by omega) ?_
  refine iteB_i (fun e => ?_) fun e0 => ?_
  · have e : i.getD 0 0 = 0 := by simpa using e
    refine ldA_I hb16 hf (ldP_I hb26 (by omega) (ldP_I hb26 (by omega) (tailOn _ w6 he36 (plainE e (by decide) ?_))))
    unfold sumV; rw [if_pos e]
  have e0 : i.getD 0 0 ≠ 0 := by simpa using e0
  refine iteB_i (fun e => ?_) fun e1 => ?_
  · have e : i.getD 0 0 = 1 := by simpa using e
    refine drew_i fun w7 hh7 he7 => ?_
    have hb17 : BI w7 g1 f := hb16.ext he7
    have hb27 : BI w7 g2 i := hb26.ext he7
    refine ldA_I hb17 hf (ldP_I hb27 (by omega) (ldP_I hb27 (by omega) (reg _ _ _ hB he7 (tailOn _ w7 (he36.trans he7) (plainE e (by decide) ?_)))))
    unfold sumV; rw [if_neg e0, if_pos e]
  have e1 : i.getD 0 0 ≠ 1 := by simpa using e1
  refine iteB_i (fun e => ?_) fun e2 => ?_
  · have e : i.getD 0 0 = 2 := by simpa using e
    refine drew_i fun w7 hh7 he7 => ?_
    have hb17 : BI w7 g1 f := hb16.ext he7
    have hb27 : BI w7 g2 i := hb26.ext he7
    refine ldA_I hb17 hf (ldP_I hb27 (by omega) (ldP_I hb27 (by omega) (reg _ _ _ hB he7 (ldP_I hb27 (by omega) (reg _ _ _ hC he7 (tailOn _ w7 (he36.trans he7) (plainE e (by decide) ?_)))))))
    unfold sumV; rw [if_neg e0, if_neg e1, if_pos e]
  have e2 : i.getD 0 0 ≠ 2 := by simpa using e2
  refine iteB_i (fun e => ?_) fun e3 => ?_
  · have e : i.getD 0 0 = 3 := by simpa using e
    refine drew_i fun w7 hh7 he7 => ?_
    have hb17 : BI w7 g1 f := hb16.ext he7
    have hb27 : BI w7 g2 i := hb26.ext he7
    refine ldA_I hb17 hf (ldP_I hb27 (by omega) (ldP_I hb27 (by omega) (reg _ _ _ hB he7 (ldP_I hb27 (by omega) (reg _ _ _ hC he7 (tailOn _ w7 (he36.trans he7) (plainE e (by decide) ?_)))))))
    unfold sumV; rw [if_neg e0, if_neg e1, if_neg e2, if_pos e]
  have e3 : i.getD 0 0 ≠ 3 := by simpa using e3
  refine iteB_i (fun e => ?_) fun e4 => ?_
  · have e : i.getD 0 0 = 4 := by simpa using e
    refine drew_i fun w7 hh7 he7 => ?_
    have hb17 : BI w7 g1 f := hb16.ext he7
    have hb27 : BI w7 g2 i := hb26.ext he7
    refine ldA_I hb17 hf (ldP_I hb27 (by omega) (ldP_I hb27 (by omega) (reg _ _ _ hB he7 (ldP_I hb27 (by omega) (reg _ _ _ hC he7 (tailOn _ w7 (he36.trans he7) (plainE e (by decide) ?_)))))))
    unfold sumV; rw [if_neg e0, if_neg e1, if_neg e2, if_neg e3, if_pos e]
  have e4 : i.getD 0 0 ≠ 4 := by simpa using e4
  refine iteB_i (fun e => ?_) fun e5 => ?_
  · have e : i.getD 0 0 = 5 := by simpa using e
    refine drew_i fun w7 hh7 he7 => ?_
    have hb17 : BI w7 g1 f := hb16.ext he7
    have hb27 : BI w7 g2 i := hb26.ext he7
    refine ldP_I hb27 (by omega) (reg _ _ _ hB he7 (ldP_I hb27 (by omega) (reg _ _ _ hC he7 ?_)))
    refine iteB_i (fun hlt => ?_) fun hlt => ?_
    · refine ldA_I hb17 hf (ldP_I hb27 (by omega) (tailOn _ w7 (he36.trans he7) (plainE e (by decide) ?_)))
      unfold sumV; rw [if_neg e0, if_neg e1, if_neg e2, if_neg e3, if_neg e4, if_pos (of_decide_eq_true hlt)]
    · refine ldA_I hb17 hf (ldP_I hb27 (by omega) (tailOn _ w7 (he36.trans he7) (plainE e (by decide) ?_)))
      unfold sumV; rw [if_neg e0, if_neg e1, if_neg e2, if_neg e3, if_neg e4, if_neg (of_decide_eq_false hlt)]
  have e5 : i.getD 0 0 ≠ 5 := by simpa using e5
  refine iteB_i (fun e => ?_) fun e6 => ?_
  · have e : i.getD 0 0 = 6 := by simpa using e
    refine ldA_I hb16 hf (ldP_I hb26 (by omega) (rto_s hf fun w7 he7 => fin _ true w7 (he36.trans he7) (by rw [fTo_len, hf]) ?_))
    unfold fPlain; rw [if_neg hne, if_pos (.inl e)]
  have e6 : i.getD 0 0 ≠ 6 := by simpa using e6
  refine iteB_i (fun e => ?_) fun e7 => ?_
  · have e : i.getD 0 0 = 7 := by simpa using e
    refine ldP_I hb26 (by omega) (reg _ _ _ hA (.refl _ _) ?_)
    refine iteB_i (fun hz => ?_) fun hz => ?_
    · refine ldA_I hb16 hf (ldP_I hb26 (by omega) (rto_s hf fun w7 he7 => fin _ true w7 (he36.trans he7) (by rw [fTo_len, hf]) ?_))
      unfold fPlain; rw [if_neg hne, if_pos (.inr ⟨e, by simpa using hz⟩)]
    · refine ldA_I hb16 hf (ron_s hf fun w7 he7 => fin _ true w7 (he36.trans he7) (by rw [fOn_len, hf]) ?_)
      have hz : fR f (i.getD 1 0) = 0 := by simpa using hz
      unfold fPlain; rw [if_neg hne, if_neg (by rintro (h | ⟨_, h⟩); exact e6 h; exact h hz), if_pos e]
  have e7 : i.getD 0 0 ≠ 7 := by simpa using e7
  refine ldA_I hb16 hf (fin f false w6 he36 hf ?_)
  unfold fPlain; rw [if_neg hne, if_neg (by rintro (h | ⟨h, _⟩); exact e6 h; exact e7 h), if_neg e7, if_pos (by omega)]

/-- the chapter's example -/
theorem awake5_s {w : World} {k : Bool → World → Prop} (hk : ∀ w', Ext w w' → k true w') : pelotonlaw05_awake w k := by
  unfold pelotonlaw05_awake
  refine root_s fun w1 he1 => ?_
  refine plain_F (f := fRoot) (i := [0, 1, 0, 0, 7]) rfl rfl fun w2 he2 => ?_
  have p1 : fPlain fRoot [0, 1, 0, 0, 7] = ([0, 1, 0, 7, 0, 0, 0, 0, 0, 0, -1, -1, -1, -1, -1, -1, -1, -1, 1], true) := by decide
  rw [p1]
  refine newC_i fun g3 w3 hg3 hs3 hb3 he3 => ?_
  simp only [add_mk, Nat.zero_add]
  refine stA_I hb3 rfl rfl fun w4 hb4 hs4 ho4 => ldA_I hb4 rfl ?_
  have p2 : fPlain [0, 1, 0, 7, 0, 0, 0, 0, 0, 0, -1, -1, -1, -1, -1, -1, -1, -1, 1] [2, 2, 1, 1, 0] = ([0, 2, 0, 7, 14, 0, 0, 0, 0, 0, -1, -1, -1, -1, -1, -1, -1, -1, 2], true) := by decide
  refine plain_F (f := [0, 1, 0, 7, 0, 0, 0, 0, 0, 0, -1, -1, -1, -1, -1, -1, -1, -1, 1]) (i := [2, 2, 1, 1, 0]) rfl rfl fun w5 he5 => ?_
  rw [p2]
  refine stA_I (hb4.ext he5) rfl rfl fun w6 hb6 hs6 ho6 => ldA_I hb6 rfl ?_
  refine plain_F (f := [0, 2, 0, 7, 14, 0, 0, 0, 0, 0, -1, -1, -1, -1, -1, -1, -1, -1, 2]) (i := [6, 0, 0, 0, 0]) rfl rfl fun w7 he7 => ?_
  have p3 : fPlain [0, 2, 0, 7, 14, 0, 0, 0, 0, 0, -1, -1, -1, -1, -1, -1, -1, -1, 2] [6, 0, 0, 0, 0] = ([0, 0, 0, 7, 14, 0, 0, 0, 0, 0, -1, -1, -1, -1, -1, -1, -1, -1, 3], true) := by decide
  rw [p3]
  refine stA_I (hb6.ext he7) rfl rfl fun w8 hb8 hs8 ho8 => ?_
  refine iteB_t rfl (ldP_I hb8 (by decide) (iteB_t rfl (ldP_I hb8 (by decide) (iteB_t rfl (ldP_I hb8 (by decide) (iteB_t rfl (ldP_I hb8 (by decide) ?_)))))))
  have h1 := (he1.trans he2).trans he3
  have h2 := h1.size
  have hlow : ∀ g, g = g3 → w.heap.size ≤ g := fun g hg => by have := (he1.trans he2).size; omega
  exact hk _ (((((h1.then ho4 hlow).trans he5).then ho6 hlow).trans he7).then ho8 hlow)

end Go.Proofs.Ytkcakjckpbldoaa
