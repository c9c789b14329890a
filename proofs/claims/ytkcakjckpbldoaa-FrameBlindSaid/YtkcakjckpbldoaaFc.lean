/-
  Layer 5: what concerns registers alone.
-/
import Derived.Test.YtkcakjckpbldoaaFb
set_option linter.unusedSimpArgs false
set_option linter.unusedVariables false
set_option maxRecDepth 100000
namespace Go.Proofs.Ytkcakjckpbldoaa
open Go Go.Ev Go.Proofs

/-- register r -/
abbrev fR (f : List Int) (r : Int) : Int := f.getD (2 + r.toNat) 0
def sumV (f i : List Int) : Int :=
  if i.getD 0 0 = 0 then i.getD 4 0 else if i.getD 0 0 = 1 then fR f (i.getD 2 0) else if i.getD 0 0 = 2 then IntKind.i64.wrap (fR f (i.getD 2 0) + fR f (i.getD 3 0))
  else if i.getD 0 0 = 3 then IntKind.i64.wrap (fR f (i.getD 2 0) - fR f (i.getD 3 0)) else if i.getD 0 0 = 4 then IntKind.i64.wrap (fR f (i.getD 2 0) * fR f (i.getD 3 0))
  else if fR f (i.getD 2 0) < fR f (i.getD 3 0) then 1 else 0
def fPlain (f i : List Int) : List Int × Bool :=
  if chk i ≠ 0 then (f, false)
  else if i.getD 0 0 = 6 ∨ (i.getD 0 0 = 7 ∧ fR f (i.getD 1 0) ≠ 0) then (fTo f (i.getD 4 0), true)
  else if i.getD 0 0 = 7 then (fOn f, true)
  else if i.getD 0 0 > 5 then (f, false)
  else (fOn (f.set (2 + (i.getD 1 0).toNat) (sumV f i)), true)
theorem fPlain_len {f i : List Int} (hf : f.length = 19) : (fPlain f i).1.length = 19 := by
  unfold fPlain
  split
  · exact hf
  · split
    · simp only [fTo_len, hf]
    · split
      · simp only [fOn_len, hf]
      · split
        · exact hf
        · simp only [fOn_len, List.length_set, hf]

def sumFs (g3 gb gc : Nat) : Array Value := #[.func (.func 57) #[] #[.pointer (some ⟨g3, 0, none⟩)], .func (.func 58) #[] #[.pointer (some ⟨gb, 0, none⟩)], .func (.func 59) #[] #[.pointer (some ⟨gb, 0, none⟩), .pointer (some ⟨gc, 0, none⟩)],
  .func (.func 60) #[] #[.pointer (some ⟨gb, 0, none⟩), .pointer (some ⟨gc, 0, none⟩)], .func (.func 61) #[] #[.pointer (some ⟨gb, 0, none⟩), .pointer (some ⟨gc, 0, none⟩)], .func (.func 62) #[] #[.pointer (some ⟨gb, 0, none⟩), .pointer (some ⟨gc, 0, none⟩)]]

theorem sums_s {f i : List Int} {w : World} {k : Sl → World → Prop} (hf : f.length = 19) (hi : i.length = 5) (hB : 0 ≤ i.getD 2 0 ∧ i.getD 2 0 < 8) (hC : 0 ≤ i.getD 3 0 ∧ i.getD 3 0 < 8)
    (hk : ∀ w' g g3 gb gc, Ext w w' → Blk w' g (sumFs g3 gb gc) → BI w' g3 i → BI w' gb [fR f (i.getD 2 0)] → BI w' gc [fR f (i.getD 3 0)] → k ⟨some ⟨g, 0, none⟩, 6, 6⟩ w') : frame_Frame_sums (agI f) (agI i) w k := by
  unfold frame_Frame_sums
  refine newC_i fun g1 w1 hg1 hs1 hb1 he1 => newC_i fun g2 w2 hg2 hs2 hb2 he2 => ?_
  have hb1' : BI w2 g1 f := hb1.ext he2
  have hb2' : BI w2 g2 i := hb2
  simp only [add_mk, Nat.zero_add]
  refine joinP_i (fun x w' => Ext w2 w' ∧ ∃ gb gc, x = (⟨gb, 0, none⟩, ⟨gc, 0, none⟩) ∧ BI w' gb [fR f (i.getD 2 0)] ∧ BI w' gc [fR f (i.getD 3 0)]) ?_ ?_
  · intro J hJ
    refine drew_i fun w3 hh3 he3 => ?_
    have hb13 : BI w3 g1 f := hb1'.ext he3
    have hb23 : BI w3 g2 i := hb2'.ext he3
    refine ldP_I hb23 (by omega) (ixP_i hB.1 (by omega) (ldP_I hb13 (by omega) ?_))
    refine ldP_I hb23 (by omega) (ixP_i hC.1 (by omega) (ldP_I hb13 (by omega) ?_))
    simp only [Nat.mul_one]
    have st : ∀ {w' : World} {n o : Nat} {c : Prop}, Ext w3 w' → c → samec n ⟨g1, o, none⟩ w3 w' c := fun he hc => samec_B hb13 (hb13.ext he) hc
    have st2 : ∀ {w' : World} {n o : Nat} {c : Prop}, Ext w3 w' → c → samec n ⟨g2, o, none⟩ w3 w' c := fun he hc => samec_B hb23 (hb23.ext he) hc
    refine ⟨?_, ?_⟩
    · refine newC_i fun g4 w4 hg4 hs4 hb4 he4 => st he4 (st2 he4 (st he4 (st2 he4 ?_)))
      refine newC_i fun g5 w5 hg5 hs5 hb5 he5 => ?_
      have he35 := he4.trans he5
      refine st he35 (st2 he35 (st he35 (st2 he35 ?_)))
      refine stC_I (l := [0]) (hb4.ext he5) (by simp) fun w6 hb6 hs6 ho6 => ?_
      have he36 := he35.then ho6 fun g hg => by omega
      refine st he36 (st2 he36 ?_)
      refine stC_I (l := [0]) (hb5.keep ho6 (by omega)) (by simp) fun w7 hb7 hs7 ho7 => ?_
      exact hJ _ _ ⟨he3.trans (he36.then ho7 fun g hg => by omega), g4, g5, rfl, hb6.keep ho7 (by omega), hb7⟩
    · refine newC_i fun g4 w4 hg4 hs4 hb4 he4 => st he4 (st2 he4 (st he4 (st2 he4 ?_)))
      refine newC_i fun g5 w5 hg5 hs5 hb5 he5 => ?_
      have he35 := he4.trans he5
      refine st he35 (st2 he35 (st he35 (st2 he35 ?_)))
      refine stC_I (l := [0]) hb5 (by simp) fun w6 hb6 hs6 ho6 => ?_
      have he36 := he35.then ho6 fun g hg => by omega
      refine st he36 (st2 he36 ?_)
      refine stC_I (l := [0]) ((hb4.ext he5).keep ho6 (by omega)) (by simp) fun w7 hb7 hs7 ho7 => ?_
      exact hJ _ _ ⟨he3.trans (he36.then ho7 fun g hg => by omega), g5, g4, rfl, hb6.keep ho7 (by omega), hb7⟩
  · rintro x w3 ⟨he3, gb, gc, rfl, hbb, hbc⟩
    refine newC_i fun g4 w4 hg4 hs4 hb4 he4 => ?_
    exact hk w4 g4 g2 gb gc (((he1.trans he2).trans he3).trans he4) hb4 ((hb2'.ext he3).ext he4) (hbb.ext he4) (hbc.ext he4)

theorem plain_F {f i : List Int} {w : World} {k : Array Value × Bool → World → Prop} (hf : f.length = 19) (hi : i.length = 5) (hk : ∀ w', Ext w w' → k (agI (fPlain f i).1, (fPlain f i).2) w') : frame_Frame_Plain (agI f) (agI i) w k := by
  unfold frame_Frame_Plain
  refine newC_i fun g1 w1 hg1 hs1 hb1 he1 => newC_i fun g2 w2 hg2 hs2 hb2 he2 => newC_i fun g3 w3 hg3 hs3 hb3 he3 => ?_
  have he13 := (he1.trans he2).trans he3
  have hb1' : BI w3 g1 f := (hb1.ext he2).ext he3
  have hb2' : BI w3 g2 i := hb2.ext he3
  have hsz := he1.size
  simp only [add_mk, Nat.zero_add]
  -- the result's block
  have fin : ∀ (l : List Int) (b : Bool) (w' : World), Ext w3 w' → l.length = 19 → (fPlain f i) = (l, b) → (stA 19 w' ⟨g3, 0, none⟩ (agI l) fun w9 => ldA 19 w9 ⟨g3, 0, none⟩ fun cs => k (cs, b) w9) := by
    intro l b w' he hl e
    refine stA_I (hb3.ext he) rfl hl fun w9 hb9 hs9 ho9 => ldA_I hb9 hl ?_
    have := hk w9 ((he13.trans he).then ho9 fun g hg => by omega)
    rwa [e] at this
  refine ldA_I hb2' hi (check_s hi fun w4 he4 => ?_)
  have hb14 : BI w4 g1 f := hb1'.ext he4
  have hb24 : BI w4 g2 i := hb2'.ext he4
  refine iteB_i (fun h => ldA_I hb14 hf (fin f false w4 he4 hf ?_)) fun h => ?_
  · unfold fPlain; rw [if_pos (by simpa using h)]
  have h : chk i = 0 := by simpa using h
  obtain ⟨hA, hB, hC⟩ := chk_regs h
  obtain ⟨h0, h17, _⟩ := chk_ok h
  refine ldP_I hb24 (by omega) ?_
  refine joinP_i (fun b w' => b = decide (i.getD 0 0 = 6 ∨ (i.getD 0 0 = 7 ∧ fR f (i.getD 1 0) ≠ 0)) ∧ w4 = w') ?_ ?_
  · intro J hJ
    refine iteB_i (fun h6 => ?_) fun h6 => ?_
    · refine hJ _ _ ⟨?_, rfl⟩
      rw [h6]
      exact (decide_eq_true (.inl (by simpa using h6))).symm
    · have h6 : i.getD 0 0 ≠ 6 := by simpa using h6
      refine ldP_I hb24 (by omega) (iteB_i (fun h7 => ?_) fun h7 => ?_)
      · have h7 : i.getD 0 0 = 7 := by simpa using h7
        refine ldP_I hb24 (by omega) (ixP_i hA.1 (by omega) (ldP_I hb14 (by omega) (hJ _ _ ⟨?_, rfl⟩)))
        rw [Nat.mul_one, Bool.eq_iff_iff]
        simp only [bne_iff_ne, decide_eq_true_eq]
        constructor
        · intro hne; exact .inr ⟨h7, hne⟩
        · rintro (h | ⟨_, h⟩)
          · omega
          · exact h
      · have h7 : i.getD 0 0 ≠ 7 := by simpa using h7
        exact hJ _ _ ⟨(decide_eq_false (by omega)).symm, rfl⟩
  rintro _ _ ⟨rfl, rfl⟩
  refine iteB_i (fun h1 => ?_) fun h1 => ?_
  · have h1 := of_decide_eq_true h1
    refine ldA_I hb14 hf (ldP_I hb24 (by omega) (to_s hf fun w5 he5 => fin _ true w5 (he4.trans he5) (by rw [fTo_len, hf]) ?_))
    unfold fPlain; rw [if_neg (by simp [h]), if_pos h1]
  have h1 := of_decide_eq_false h1
  refine ldP_I hb24 (by omega) (iteB_i (fun h7 => ?_) fun h7 => ?_)
  · have h7 : i.getD 0 0 = 7 := by simpa using h7
    refine ldA_I hb14 hf (on_s hf fun w5 he5 => fin _ true w5 (he4.trans he5) (by rw [fOn_len, hf]) ?_)
    unfold fPlain; rw [if_neg (by simp [h]), if_neg h1, if_pos h7]
  have h7 : i.getD 0 0 ≠ 7 := by simpa using h7
  refine ldP_I hb24 (by omega) (iteB_i (fun h5 => ?_) fun h5 => ?_)
  · have h5 : i.getD 0 0 > 5 := by simpa using h5
    refine ldA_I hb14 hf (fin f false w4 he4 hf ?_)
    unfold fPlain; rw [if_neg (by simp [h]), if_neg h1, if_neg h7, if_pos h5]
  have h5 : ¬ i.getD 0 0 > 5 := by simpa using h5
  refine drew_i fun w5 hh5 he5 => ?_
  have hb15 : BI w5 g1 f := hb14.ext he5
  have hb25 : BI w5 g2 i := hb24.ext he5
  refine ldP_I hb25 (by omega) (ldA_I hb15 hf (ldA_I hb25 hi (ldP_I hb25 (by omega) ?_)))
  refine sums_s hf hi hB hC fun w6 g ga gb gc he6 hbg hba hbb hbc => ?_
  have hb16 : BI w6 g1 f := hb15.ext he6
  have hb26 : BI w6 g2 i := hb25.ext he6
  refine samec_B hb25 hb26 (samec_B hb25 hb26 ?_)
  -- the call's result is stored
  have tail : ∀ (v : Value), v = .int .i64 (sumV f i) → (toI .i64 v fun i48 => samec 1 ⟨g2, 1, none⟩ w5 w6 (ixP ⟨g1, 2, none⟩ 8 (i.getD 1 0) 1 fun a49 => stC w6 a49 (.int .i64 i48) fun w50 => ldA 19 w50 ⟨g1, 0, none⟩ fun cs51 =>
      frame_Frame_Passed cs51 w50 fun cs52 w53 => stA 19 w53 ⟨g3, 0, none⟩ cs52 fun w54 => ldA 19 w54 ⟨g3, 0, none⟩ fun cs55 => k (cs55, true) w54)) := by
    rintro _ rfl
    refine toI_i (samec_B hb25 hb26 (ixP_i hA.1 (by omega) ?_))
    rw [Nat.mul_one]
    refine stC_I hb16 (by omega) fun w7 hb7 hs7 ho7 => ?_
    have he7 : Ext w3 w7 ∨ True := .inr trivial
    refine ldA_I hb7 (by simp [hf]) (on_s (by simp [hf]) fun w8 he8 => ?_)
    have hb38 := (((((hb3.ext he4).ext he5).ext he6).keep ho7 (by omega)).ext he8)
    refine stA_I hb38 rfl (by rw [fOn_len]; simp [hf]) fun w9 hb9 hs9 ho9 => ldA_I hb9 (by rw [fOn_len]; simp [hf]) ?_
    have e : fPlain f i = (fOn (f.set (2 + (i.getD 1 0).toNat) (sumV f i)), true) := by
      unfold fPlain; rw [if_neg (by simp [h]), if_neg h1, if_neg h7, if_neg h5]
    have := hk w9 ((((((he13.trans he4).trans he5).trans he6).then ho7 fun g hg => by omega).trans he8).then ho9 fun g hg => by omega)
    rwa [e] at this
  have h6 : i.getD 0 0 ≠ 6 := fun e => h1 (.inl e)
  have hop : i.getD 0 0 = 0 ∨ i.getD 0 0 = 1 ∨ i.getD 0 0 = 2 ∨ i.getD 0 0 = 3 ∨ i.getD 0 0 = 4 ∨ i.getD 0 0 = 5 := by omega
  refine ixS_b h0 (by omega) ?_
  rw [Nat.mul_one, Nat.zero_add]
  have hcell : ∀ n : Nat, w6.cell? ⟨g, n, none⟩ = (sumFs ga gb gc)[n]? := fun n => hbg.cell n
  rcases hop with e | e | e | e | e | e
  all_goals
    rw [e]
    refine ldV_i (by rw [hcell]; rfl) ?_
  · show ldI .i64 w6 (Addr.add ⟨ga, 0, none⟩ 4) _
    rw [add_mk]
    refine ldP_I hba (by omega) (tail _ ?_)
    simp only [sumV, e]; rfl
  · show ldI .i64 w6 ⟨gb, 0, none⟩ _
    refine ldP_I hbb (by simp) (tail _ ?_)
    simp only [sumV, e]; rfl
  · show ldI .i64 w6 ⟨gb, 0, none⟩ fun i1 => ldI .i64 w6 ⟨gc, 0, none⟩ fun i2 => _
    refine ldP_I hbb (by simp) (ldP_I hbc (by simp) (tail _ ?_))
    simp only [sumV, e]; rfl
  · show ldI .i64 w6 ⟨gb, 0, none⟩ fun i1 => ldI .i64 w6 ⟨gc, 0, none⟩ fun i2 => _
    refine ldP_I hbb (by simp) (ldP_I hbc (by simp) (tail _ ?_))
    simp only [sumV, e]; rfl
  · show ldI .i64 w6 ⟨gb, 0, none⟩ fun i1 => ldI .i64 w6 ⟨gc, 0, none⟩ fun i2 => _
    refine ldP_I hbb (by simp) (ldP_I hbc (by simp) (tail _ ?_))
    simp only [sumV, e]; rfl
  · show ldI .i64 w6 ⟨gb, 0, none⟩ fun i1 => ldI .i64 w6 ⟨gc, 0, none⟩ fun i2 => frame_one (decide (i1 < i2)) w6 fun i3 w4 => _
    refine ldP_I hbb (by simp) (ldP_I hbc (by simp) (one_s (tail _ ?_)))
    have e1 : List.getD [fR f (i.getD 2 0)] 0 0 = fR f (i.getD 2 0) := rfl
    have e2 : List.getD [fR f (i.getD 3 0)] 0 0 = fR f (i.getD 3 0) := rfl
    rw [e1, e2]
    simp only [sumV, e]
    by_cases hlt : fR f (i.getD 2 0) < fR f (i.getD 3 0)
    · rw [decide_eq_true hlt, if_pos hlt]; rfl
    · rw [decide_eq_false hlt, if_neg hlt]; rfl

end Go.Proofs.Ytkcakjckpbldoaa
