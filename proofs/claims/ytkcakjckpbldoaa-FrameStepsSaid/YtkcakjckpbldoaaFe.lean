/-
  Layer 5: closes, forks, joins.
-/
import Derived.Test.YtkcakjckpbldoaaFd
set_option linter.unusedSimpArgs false
set_option linter.unusedVariables false
set_option maxRecDepth 100000
namespace Go.Proofs.Ytkcakjckpbldoaa
open Go Go.Ev Go.Proofs

theorem isB_true {i : List Int} {op : Int} (h : isB i op = true) : i.getD 0 0 = op ∧ chk i = 0 := by
  unfold isB at h
  simp only [Bool.and_eq_true, beq_iff_eq] at h
  exact h

def fClosed (f i : List Int) (asked : Bool) : List Int := if isB i 12 then fOn (f.set (2 + (i.getD 1 0).toNat) (if asked then 1 else 0)) else f
def fForked (f i : List Int) (id : Int) : List Int := if isB i 8 then fOn (f.set (10 + (i.getD 1 0).toNat) id) else f
def fJoined (f i : List Int) (kind v : Int) : List Int × Int × Bool :=
  if kind < 2 ∨ kind > 4 ∨ (isB i 9 = false ∧ isB i 10 = false) then (f, 0, false)
  else if isB i 10 then (fOn ((f.set (2 + (i.getD 1 0).toNat) (if kind = 4 then 0 else v)).set (2 + (i.getD 2 0).toNat) (IntKind.i64.wrap (kind - 2))), 0, false)
  else if kind = 2 then (fOn (f.set (2 + (i.getD 1 0).toNat) v), 0, false)
  else (fTo f (f.getD 1 0), if kind = 4 then -1 else v, true)
theorem fClosed_len {f i : List Int} {b : Bool} : (fClosed f i b).length = f.length := by
  unfold fClosed; split
  · rw [fOn_len, List.length_set]
  · rfl
theorem fForked_len {f i : List Int} {b : Int} : (fForked f i b).length = f.length := by
  unfold fForked; split
  · rw [fOn_len, List.length_set]
  · rfl
theorem fJoined_len {f i : List Int} {kind v : Int} : (fJoined f i kind v).1.length = f.length := by
  unfold fJoined
  split
  · rfl
  · split
    · simp only [fOn_len, List.length_set]
    · split
      · simp only [fOn_len, List.length_set]
      · simp only [fTo_len]

theorem closed_s {f i : List Int} {b : Bool} {w : World} {k : Array Value → World → Prop} (hf : f.length = 19) (hi : i.length = 5) (hk : ∀ w', Ext w w' → k (agI (fClosed f i b)) w') : frame_Frame_Closed (agI f) (agI i) b w k := by
  unfold frame_Frame_Closed
  refine newC_i fun g1 w1 hg1 hs1 hb1 he1 => newC_i fun g2 w2 hg2 hs2 hb2 he2 => newC_i fun g3 w3 hg3 hs3 hb3 he3 => ?_
  have he13 := (he1.trans he2).trans he3
  have hb1' : BI w3 g1 f := (hb1.ext he2).ext he3
  have hb2' : BI w3 g2 i := hb2.ext he3
  have hsz := he1.size
  simp only [add_mk, Nat.zero_add]
  refine ldA_I hb1' hf (newC_i fun g4 w4 hg4 hs4 hb4 he4 => stA_I hb4 rfl hf fun w5 hb5 hs5 ho5 => ?_)
  have he35 : Ext w3 w5 := he4.then ho5 fun g hg => by omega
  simp only [add_mk, Nat.zero_add]
  refine ldA_I (hb2'.ext he35) hi (may_s hi fun w6 he6 => ?_)
  have he36 := he35.trans he6
  refine iteB_i (fun h => ?_) fun h => ?_
  · obtain ⟨hA, hB, hC⟩ := chk_regs (isB_true h).2
    refine drew_i fun w7 hh7 he7 => ?_
    have he37 := he36.trans he7
    have hb27 : BI w7 g2 i := hb2'.ext he37
    refine ldP_I hb27 (by omega) (one_s (samec_B hb27 hb27 (ixP_i hA.1 (by omega) ?_)))
    rw [Nat.mul_one]
    refine stC_I ((hb5.ext he6).ext he7) (by omega) fun w8 hb8 hs8 ho8 => ldA_I hb8 (by simp [hf]) (on_s (by simp [hf]) fun w9 he9 => ?_)
    refine stA_I (((hb3.ext he37).keep ho8 (by omega)).ext he9) rfl (by rw [fOn_len]; simp [hf]) fun w10 hb10 hs10 ho10 => ldA_I hb10 (by rw [fOn_len]; simp [hf]) ?_
    have := hk w10 ((((he13.trans he37).then ho8 fun g hg => by omega).trans he9).then ho10 fun g hg => by omega)
    unfold fClosed at this
    rwa [if_pos h] at this
  · refine ldA_I (hb1'.ext he36) hf (stA_I (hb3.ext he36) rfl hf fun w10 hb10 hs10 ho10 => ldA_I hb10 hf ?_)
    have := hk w10 ((he13.trans he36).then ho10 fun g hg => by omega)
    unfold fClosed at this
    rwa [if_neg (by simp [h])] at this

theorem rclosed_s {f i : List Int} {b : Bool} {w : World} {k : Array Value → World → Prop} (hf : f.length = 19) (hi : i.length = 5) (hk : ∀ w', Ext w w' → k (agI (fClosed f i b)) w') : pelotonref05_Task_Closed (agI f) (agI i) b w k := by
  unfold pelotonref05_Task_Closed
  refine newC_i fun g1 w1 hg1 hs1 hb1 he1 => newC_i fun g2 w2 hg2 hs2 hb2 he2 => newC_i fun g3 w3 hg3 hs3 hb3 he3 => ?_
  have he13 := (he1.trans he2).trans he3
  have hb1' : BI w3 g1 f := (hb1.ext he2).ext he3
  have hb2' : BI w3 g2 i := hb2.ext he3
  have hsz := he1.size
  simp only [add_mk, Nat.zero_add]
  have fin : ∀ (l : List Int) (w' : World), Ext w3 w' → l.length = 19 → fClosed f i b = l → (stA 19 w' ⟨g3, 0, none⟩ (agI l) fun w9 => ldA 19 w9 ⟨g3, 0, none⟩ fun cs => k cs w9) := by
    intro l w' he hl e
    refine stA_I (hb3.ext he) rfl hl fun w9 hb9 hs9 ho9 => ldA_I hb9 hl ?_
    have := hk w9 ((he13.trans he).then ho9 fun g hg => by omega)
    rwa [e] at this
  refine ldA_I hb2' hi (is_s hi fun w4 he4 => ?_)
  have hb14 : BI w4 g1 f := hb1'.ext he4
  have hb24 : BI w4 g2 i := hb2'.ext he4
  refine iteB_i (fun h => ldA_I hb14 hf (fin f w4 he4 hf ?_)) fun h => ?_
  · unfold fClosed; rw [if_neg (by simpa using h)]
  have h : isB i 12 = true := by simpa using h
  obtain ⟨hA, hB, hC⟩ := chk_regs (isB_true h).2
  refine iteB_i (fun hb => ?_) fun hb => ?_
  · refine ldA_I hb14 hf (ldP_I hb24 (by omega) (with_s hf hA.1 hA.2 fun w5 he5 => ron_s (by simp [hf]) fun w6 he6 => fin _ w6 ((he4.trans he5).trans he6) (by rw [fOn_len]; simp [hf]) ?_))
    unfold fClosed; rw [if_pos h, hb]; rfl
  · refine ldA_I hb14 hf (ldP_I hb24 (by omega) (with_s hf hA.1 hA.2 fun w5 he5 => ron_s (by simp [hf]) fun w6 he6 => fin _ w6 ((he4.trans he5).trans he6) (by rw [fOn_len]; simp [hf]) ?_))
    unfold fClosed; rw [if_pos h, hb]; rfl

theorem forked_s {f i : List Int} {id : Int} {w : World} {k : Array Value → World → Prop} (hf : f.length = 19) (hi : i.length = 5) (hk : ∀ w', Ext w w' → k (agI (fForked f i id)) w') : frame_Frame_Forked (agI f) (agI i) id w k := by
  unfold frame_Frame_Forked
  refine newC_i fun g1 w1 hg1 hs1 hb1 he1 => newC_i fun g2 w2 hg2 hs2 hb2 he2 => newC_i fun g3 w3 hg3 hs3 hb3 he3 => ?_
  have he13 := (he1.trans he2).trans he3
  have hb1' : BI w3 g1 f := (hb1.ext he2).ext he3
  have hb2' : BI w3 g2 i := hb2.ext he3
  have hsz := he1.size
  simp only [add_mk, Nat.zero_add]
  refine ldA_I hb2' hi (may_s hi fun w4 he4 => ?_)
  have hb14 : BI w4 g1 f := hb1'.ext he4
  have hb24 : BI w4 g2 i := hb2'.ext he4
  refine iteB_i (fun h => ?_) fun h => ?_
  · refine ldA_I hb14 hf (stA_I (hb3.ext he4) rfl hf fun w10 hb10 hs10 ho10 => ldA_I hb10 hf ?_)
    have := hk w10 ((he13.trans he4).then ho10 fun g hg => by omega)
    unfold fForked at this
    rwa [if_neg (by simpa using h)] at this
  · have h : isB i 8 = true := by simpa using h
    obtain ⟨hA, hB, hC⟩ := chk_regs (isB_true h).2
    refine ldP_I hb24 (by omega) (ixP_i hA.1 (by omega) ?_)
    rw [Nat.mul_one]
    refine stC_I hb14 (by omega) fun w8 hb8 hs8 ho8 => ldA_I hb8 (by simp [hf]) (on_s (by simp [hf]) fun w9 he9 => ?_)
    refine stA_I (((hb3.ext he4).keep ho8 (by omega)).ext he9) rfl (by rw [fOn_len]; simp [hf]) fun w10 hb10 hs10 ho10 => ldA_I hb10 (by rw [fOn_len]; simp [hf]) ?_
    have := hk w10 ((((he13.trans he4).then ho8 fun g hg => by omega).trans he9).then ho10 fun g hg => by omega)
    unfold fForked at this
    rwa [if_pos h] at this

theorem rforked_s {f i : List Int} {id : Int} {w : World} {k : Array Value → World → Prop} (hf : f.length = 19) (hi : i.length = 5) (hk : ∀ w', Ext w w' → k (agI (fForked f i id)) w') : pelotonref05_Task_Forked (agI f) (agI i) id w k := by
  unfold pelotonref05_Task_Forked
  refine newC_i fun g1 w1 hg1 hs1 hb1 he1 => newC_i fun g2 w2 hg2 hs2 hb2 he2 => newC_i fun g3 w3 hg3 hs3 hb3 he3 => ?_
  have he13 := (he1.trans he2).trans he3
  have hb1' : BI w3 g1 f := (hb1.ext he2).ext he3
  have hb2' : BI w3 g2 i := hb2.ext he3
  have hsz := he1.size
  simp only [add_mk, Nat.zero_add]
  refine ldA_I hb2' hi (is_s hi fun w4 he4 => ?_)
  have hb14 : BI w4 g1 f := hb1'.ext he4
  have hb24 : BI w4 g2 i := hb2'.ext he4
  refine iteB_i (fun h => ?_) fun h => ?_
  · refine ldA_I hb14 hf (stA_I (hb3.ext he4) rfl hf fun w10 hb10 hs10 ho10 => ldA_I hb10 hf ?_)
    have := hk w10 ((he13.trans he4).then ho10 fun g hg => by omega)
    unfold fForked at this
    rwa [if_neg (by simpa using h)] at this
  · have h : isB i 8 = true := by simpa using h
    obtain ⟨hA, hB, hC⟩ := chk_regs (isB_true h).2
    refine ldP_I hb24 (by omega) (ixP_i hA.1 (by omega) ?_)
    rw [Nat.mul_one]
    refine stC_I hb14 (by omega) fun w8 hb8 hs8 ho8 => ldA_I hb8 (by simp [hf]) (ron_s (by simp [hf]) fun w9 he9 => ?_)
    refine stA_I (((hb3.ext he4).keep ho8 (by omega)).ext he9) rfl (by rw [fOn_len]; simp [hf]) fun w10 hb10 hs10 ho10 => ldA_I hb10 (by rw [fOn_len]; simp [hf]) ?_
    have := hk w10 ((((he13.trans he4).then ho8 fun g hg => by omega).trans he9).then ho10 fun g hg => by omega)
    unfold fForked at this
    rwa [if_pos h] at this

theorem joined_s {f i : List Int} {kind v : Int} {w : World} {k : Array Value × Int × Bool → World → Prop} (hf : f.length = 19) (hi : i.length = 5) (hk : ∀ w', Ext w w' → k (agI (fJoined f i kind v).1, (fJoined f i kind v).2.1, (fJoined f i kind v).2.2) w') : frame_Frame_Joined (agI f) (agI i) kind v w k := by
  unfold frame_Frame_Joined
  refine newC_i fun g1 w1 hg1 hs1 hb1 he1 => newC_i fun g2 w2 hg2 hs2 hb2 he2 => newC_i fun g3 w3 hg3 hs3 hb3 he3 => ?_
  have he13 := (he1.trans he2).trans he3
  have hb1' : BI w3 g1 f := (hb1.ext he2).ext he3
  have hb2' : BI w3 g2 i := hb2.ext he3
  have hsz := he1.size
  simp only [add_mk, Nat.zero_add]
  have fin : ∀ (l : List Int) (a : Int) (b : Bool) (w' : World), Ext w w' → Blk w' g3 (agI (Z 19)) → l.length = 19 → fJoined f i kind v = (l, a, b) → (stA 19 w' ⟨g3, 0, none⟩ (agI l) fun w9 => ldA 19 w9 ⟨g3, 0, none⟩ fun cs => k (cs, (a, b)) w9) := by
    intro l a b w' he hb hl e
    refine stA_I hb rfl hl fun w9 hb9 hs9 ho9 => ldA_I hb9 hl ?_
    have := hk w9 (he.then ho9 fun g hg => by omega)
    rwa [e] at this
  have hb3' : Blk w3 g3 (agI (Z 19)) := hb3
  refine joinP_i (fun x w' => x = decide (kind < 2 ∨ kind > 4 ∨ (isB i 9 = false ∧ isB i 10 = false)) ∧ Ext w3 w') ?_ ?_
  · intro J hJ
    refine iteB_i (fun h => hJ _ _ ⟨?_, .refl _ _⟩) fun h => ?_
    · simp only [Bool.or_eq_true, decide_eq_true_eq] at h
      exact (decide_eq_true (by omega)).symm
    · simp only [Bool.or_eq_false_iff, decide_eq_false_iff_not] at h
      refine ldA_I hb2' hi (may_s hi fun w4 he4 => ?_)
      refine iteB_i (fun h9 => ?_) fun h9 => ?_
      · have h9 : isB i 9 = false := by simpa using h9
        refine ldA_I (hb2'.ext he4) hi (may_s hi fun w5 he5 => hJ _ _ ⟨?_, he4.trans he5⟩)
        rw [Bool.eq_iff_iff]
        simp only [Bool.not_eq_true', decide_eq_true_eq]
        constructor
        · intro h10; exact .inr (.inr ⟨h9, h10⟩)
        · rintro (h' | h' | ⟨_, h'⟩)
          · omega
          · omega
          · exact h'
      · have h9 : isB i 9 = true := by simpa using h9
        refine hJ _ _ ⟨?_, he4⟩
        rw [eq_comm, decide_eq_false_iff_not]
        rintro (h' | h' | ⟨h', _⟩)
        · omega
        · omega
        · rw [h9] at h'; cases h'
  rintro _ w4 ⟨rfl, he4⟩
  have he14 := he13.trans he4
  have hb14 : BI w4 g1 f := hb1'.ext he4
  have hb24 : BI w4 g2 i := hb2'.ext he4
  refine iteB_i (fun h => ?_) fun h => ?_
  · have h := of_decide_eq_true h
    refine ldA_I hb14 hf (fin f 0 false w4 he14 (hb3'.ext he4) hf ?_)
    unfold fJoined; rw [if_pos h]
  have h := of_decide_eq_false h
  have hchk : chk i = 0 ∧ (i.getD 0 0 = 10 ↔ isB i 10 = true) := by
    cases h10 : isB i 10 with
    | true => exact ⟨(isB_true h10).2, fun _ => rfl, fun _ => (isB_true h10).1⟩
    | false =>
      cases h9 : isB i 9 with
      | true => exact ⟨(isB_true h9).2, fun e => (by have := (isB_true h9).1; omega), fun e => by cases e⟩
      | false => exact absurd (.inr (.inr ⟨h9, h10⟩)) h
  obtain ⟨hA, hB, hC⟩ := chk_regs hchk.1
  refine joinP_i (fun x w' => w4 = w' ∧ fJoined f i kind v = (fTo f (f.getD 1 0), x, true)) ?_ ?_
  · intro J hJ
    refine ldP_I hb24 (by omega) (iteB_i (fun h10 => ?_) fun h10 => ?_)
    · have h10 : isB i 10 = true := hchk.2.1 (by simpa using h10)
      refine joinP_i (fun x w' => w4 = w' ∧ x = if kind = 4 then 0 else v) ?_ ?_
      · intro J2 hJ2
        refine iteB_i (fun h4 => hJ2 _ _ ⟨rfl, ?_⟩) fun h4 => hJ2 _ _ ⟨rfl, ?_⟩
        · rw [if_pos (by simpa using h4)]
        · rw [if_neg (by simpa using h4)]
      rintro _ _ ⟨rfl, rfl⟩
      refine drew_i fun w5 hh5 he5 => ?_
      have hb15 : BI w5 g1 f := hb14.ext he5
      have hb25 : BI w5 g2 i := hb24.ext he5
      refine ldP_I hb25 (by omega) (ldP_I hb25 (by omega) (ixP_i hA.1 (by omega) ?_))
      rw [Nat.mul_one]
      refine stC_I hb15 (by omega) fun w6 hb6 hs6 ho6 => samec_B hb25 (hb25.keep ho6 (by omega)) (ixP_i hB.1 (by omega) ?_)
      rw [Nat.mul_one]
      refine stC_I hb6 (by rw [List.length_set]; omega) fun w7 hb7 hs7 ho7 => ldA_I hb7 (by simp [hf]) (on_s (by simp [hf]) fun w8 he8 => ?_)
      refine fin _ 0 false w8 (((((he14.trans he5).then ho6 fun g hg => by omega).then ho7 fun g hg => by omega).trans he8)) (((((hb3'.ext he4).ext he5).keep ho6 (by omega)).keep ho7 (by omega)).ext he8) (by rw [fOn_len]; simp [hf]) ?_
      unfold fJoined; rw [if_neg h, if_pos h10]
    · have h10' : isB i 10 = false := by
        cases h' : isB i 10 with
        | false => rfl
        | true => exact absurd (hchk.2.2 h') (by simpa using h10)
      refine iteB_i (fun h2 => ?_) fun h2 => ?_
      · have h2 : kind = 2 := by simpa using h2
        refine ldP_I hb24 (by omega) (ixP_i hA.1 (by omega) ?_)
        rw [Nat.mul_one]
        refine stC_I hb14 (by omega) fun w6 hb6 hs6 ho6 => ldA_I hb6 (by simp [hf]) (on_s (by simp [hf]) fun w8 he8 => ?_)
        refine fin _ 0 false w8 ((he14.then ho6 fun g hg => by omega).trans he8) (((hb3'.ext he4).keep ho6 (by omega)).ext he8) (by rw [fOn_len]; simp [hf]) ?_
        unfold fJoined; rw [if_neg h, if_neg (by simp [h10']), if_pos h2]
      · have h2 : kind ≠ 2 := by simpa using h2
        refine iteB_i (fun h4 => hJ _ _ ⟨rfl, ?_⟩) fun h4 => hJ _ _ ⟨rfl, ?_⟩
        · unfold fJoined; rw [if_neg h, if_neg (by simp [h10']), if_neg h2, if_pos (by simpa using h4)]
        · unfold fJoined; rw [if_neg h, if_neg (by simp [h10']), if_neg h2, if_neg (by simpa using h4)]
  · rintro x _ ⟨rfl, e⟩
    exact ldA_I hb14 hf (ldP_I hb14 (by omega) (to_s hf fun w5 he5 => fin _ x true w5 (he14.trans he5) ((hb3'.ext he4).ext he5) (by rw [fTo_len, hf]) e))

theorem rjoined_s {f i : List Int} {kind v : Int} {w : World} {k : Array Value × Int × Bool → World → Prop} (hf : f.length = 19) (hi : i.length = 5) (hk : ∀ w', Ext w w' → k (agI (fJoined f i kind v).1, (fJoined f i kind v).2.1, (fJoined f i kind v).2.2) w') : pelotonref05_Task_Joined (agI f) (agI i) kind v w k := by
  unfold pelotonref05_Task_Joined
  refine newC_i fun g1 w1 hg1 hs1 hb1 he1 => newC_i fun g2 w2 hg2 hs2 hb2 he2 => newC_i fun g3 w3 hg3 hs3 hb3 he3 => ?_
  have he13 := (he1.trans he2).trans he3
  have hb1' : BI w3 g1 f := (hb1.ext he2).ext he3
  have hb2' : BI w3 g2 i := hb2.ext he3
  have hsz := he1.size
  simp only [add_mk, Nat.zero_add]
  have fin : ∀ (l : List Int) (a : Int) (b : Bool) (w' : World), Ext w3 w' → l.length = 19 → fJoined f i kind v = (l, a, b) → (stA 19 w' ⟨g3, 0, none⟩ (agI l) fun w9 => ldA 19 w9 ⟨g3, 0, none⟩ fun cs => k (cs, (a, b)) w9) := by
    intro l a b w' he hl e
    refine stA_I (hb3.ext he) rfl hl fun w9 hb9 hs9 ho9 => ldA_I hb9 hl ?_
    have := hk w9 ((he13.trans he).then ho9 fun g hg => by omega)
    rwa [e] at this
  refine iteB_i (fun h => ldA_I hb1' hf (fin f 0 false w3 (.refl _ _) hf ?_)) fun h => ?_
  · simp only [Bool.and_eq_true, bne_iff_ne] at h
    unfold fJoined; rw [if_pos (by omega)]
  have hkind : kind = 2 ∨ kind = 3 ∨ kind = 4 := by
    by_cases h2 : kind = 2
    · exact .inl h2
    · by_cases h3 : kind = 3
      · exact .inr (.inl h3)
      · by_cases h4 : kind = 4
        · exact .inr (.inr h4)
        · simp [h2, h3, h4] at h
  refine joinP_i (fun x w' => w3 = w' ∧ x = if kind = 4 then 0 else v) ?_ ?_
  · intro J2 hJ2
    refine iteB_i (fun h4 => hJ2 _ _ ⟨rfl, ?_⟩) fun h4 => hJ2 _ _ ⟨rfl, ?_⟩
    · rw [if_pos (by simpa using h4)]
    · rw [if_neg (by simpa using h4)]
  rintro _ _ ⟨rfl, rfl⟩
  refine ldA_I hb2' hi (is_s hi fun w4 he4 => iteB_i (fun h10 => ?_) fun h10 => ?_)
  · obtain ⟨hA, hB, hC⟩ := chk_regs (isB_true h10).2
    refine drew_i fun w5 hh5 he5 => ?_
    have hb15 : BI w5 g1 f := (hb1'.ext he4).ext he5
    have hb25 : BI w5 g2 i := (hb2'.ext he4).ext he5
    refine ldA_I hb15 hf (ldP_I hb25 (by omega) (ldP_I hb25 (by omega) (with_s hf hA.1 hA.2 fun w6 he6 => samec_B hb25 (hb25.ext he6) (with_s (by simp [hf]) hB.1 hB.2 fun w7 he7 => ron_s (by simp [hf]) fun w8 he8 => ?_))))
    refine fin _ 0 false w8 ((((he4.trans he5).trans he6).trans he7).trans he8) (by rw [fOn_len]; simp [hf]) ?_
    unfold fJoined; rw [if_neg (by rintro (h' | h' | ⟨_, h'⟩); omega; omega; rw [h10] at h'; cases h'), if_pos h10]
  · refine ldA_I (hb2'.ext he4) hi (is_s hi fun w5 he5 => iteB_i (fun h9 => ?_) fun h9 => ?_)
    · have h9 : isB i 9 = false := by simpa using h9
      refine ldA_I ((hb1'.ext he4).ext he5) hf (fin f 0 false w5 (he4.trans he5) hf ?_)
      unfold fJoined; rw [if_pos (.inr (.inr ⟨h9, h10⟩))]
    have h9 : isB i 9 = true := by simpa using h9
    have hn : ¬ (kind < 2 ∨ kind > 4 ∨ (isB i 9 = false ∧ isB i 10 = false)) := by
      rintro (h' | h' | ⟨h', _⟩)
      · omega
      · omega
      · rw [h9] at h'; cases h'
    obtain ⟨hA, hB, hC⟩ := chk_regs (isB_true h9).2
    have hb15 : BI w5 g1 f := (hb1'.ext he4).ext he5
    have hb25 : BI w5 g2 i := (hb2'.ext he4).ext he5
    have he35 := he4.trans he5
    refine iteB_i (fun h2 => ?_) fun h2 => ?_
    · have h2 : kind = 2 := by simpa using h2
      refine ldA_I hb15 hf (ldP_I hb25 (by omega) (with_s hf hA.1 hA.2 fun w6 he6 => ron_s (by simp [hf]) fun w7 he7 => fin _ 0 false w7 ((he35.trans he6).trans he7) (by rw [fOn_len]; simp [hf]) ?_))
      unfold fJoined; rw [if_neg hn, if_neg (by simp [h10]), if_pos h2, if_neg (by omega)]
    · have h2 : kind ≠ 2 := by simpa using h2
      refine iteB_i (fun h4 => ?_) fun h4 => ?_
      · have h4 : kind = 4 := by simpa using h4
        refine ldA_I hb15 hf (ldP_I hb15 (by omega) (rto_s hf fun w6 he6 => fin _ _ true w6 (he35.trans he6) (by rw [fTo_len, hf]) ?_))
        unfold fJoined; rw [if_neg hn, if_neg (by simp [h10]), if_neg h2, if_pos h4]
      · have h4 : kind ≠ 4 := by simpa using h4
        refine ldA_I hb15 hf (ldP_I hb15 (by omega) (rto_s hf fun w6 he6 => fin _ _ true w6 (he35.trans he6) (by rw [fTo_len, hf]) ?_))
        unfold fJoined; rw [if_neg hn, if_neg (by simp [h10]), if_neg h2, if_neg h4, if_neg h4]

end Go.Proofs.Ytkcakjckpbldoaa
