/-
  Layer 9: steps of a copying; the chapter's example.
-/
import Derived.Test.YtheallacpidcmaaRb
set_option linter.unusedSimpArgs false
set_option linter.unusedVariables false
set_option maxRecDepth 100000
namespace Go.Proofs.Ytheallacpidcmaa
open Go Go.Ev Go.Proofs

section
variable {w0 w : World} {L : List HP}

theorem begin_s {a b : Rg} {from_ until_ : Int} {k : Option Addr × Int → World → Prop} (hf : InI from_) (hu : InI until_) (h : St w0 w L)
    (h1 : begE a b from_ until_ = 0 → ∀ g w', St w0 w' (rcpy g (Cp.begin a b from_ until_) :: L) → k (some ⟨g, 0, none⟩, 0) w') (h2 : begE a b from_ until_ ≠ 0 → ∀ w', St w0 w' L → k (none, begE a b from_ until_) w') : pelotonref09_Begin a.ag b.ag from_ until_ w k := by
  unfold pelotonref09_Begin pelotonref09_Begin_b
  refine newC_h h fun g1 w1 hS => newC_h hS fun g2 w2 hS => ?_
  refine joinP_i (fun y w' => y = (!a.right || !b.right) ∧ St w0 w' (blk g2 b.ag.toList :: blk g1 a.ag.toList :: L)) ?_ ?_
  · intro J hJ
    refine ldW_h hS rfl ?_
    refine rright_s (r := a) hS fun w3 hS => ?_
    refine iteB_i (fun h1 => hJ _ _ ⟨by revert h1; cases a.right <;> simp, hS⟩) fun h1 => ?_
    refine ldW_h hS rfl ?_
    refine rright_s (r := b) hS fun w4 hS => hJ _ _ ⟨by revert h1; cases a.right <;> simp, hS⟩
  rintro _ w3 ⟨rfl, hS⟩
  refine iteB_i (fun h3 => ?_) fun h3 => ?_
  · have e : begE a b from_ until_ = 1 := by
      unfold begE
      simp only [Bool.or_eq_true, Bool.not_eq_true'] at h3
      rw [if_pos h3]
    have := h2 (by rw [e]; omega) _ hS.drop.drop
    rwa [e] at this
  simp only [Bool.or_eq_false_iff, Bool.not_eq_false'] at h3
  have sa := size_le a; have sb := size_le b
  have e : begE a b from_ until_ = if until_ < from_ ∨ until_ - from_ > a.size ∨ until_ - from_ > b.size then 10 else 0 := by
    unfold begE
    rw [if_neg (by rw [h3.1, h3.2]; simp)]
  refine iteB_i (fun h4 => ?_) fun h4 => ?_
  · rw [decide_eq_true_eq] at h4
    rw [if_pos (.inl h4)] at e
    have := h2 (by rw [e]; omega) _ hS.drop.drop
    rwa [e] at this
  rw [decide_eq_false_iff_not] at h4
  refine joinP_i (fun y w' => y = decide (until_ < from_ ∨ until_ - from_ > a.size ∨ until_ - from_ > b.size) ∧ St w0 w' (blk g2 b.ag.toList :: blk g1 a.ag.toList :: L)) ?_ ?_
  · intro J hJ
    refine ldW_h hS rfl ?_
    refine rsize_s (r := a) hS fun w5 hS => ?_
    rw [wrapu_sub hu hf (by omega), wrapu (x := a.size) (by omega) (by omega)]
    refine iteB_i (fun h5 => hJ _ _ ⟨?_, hS⟩) fun h5 => ?_
    · rw [decide_eq_true_eq] at h5; rw [decide_eq_true (.inr (.inl h5))]
    rw [decide_eq_false_iff_not] at h5
    refine ldW_h hS rfl ?_
    refine rsize_s (r := b) hS fun w6 hS => hJ _ _ ⟨?_, hS⟩
    rw [wrapu (by omega) (by omega), decide_eq_decide]; omega
  rintro _ w4 ⟨rfl, hS⟩
  refine iteB_i (fun h4 => ?_) fun h4 => ?_
  · rw [decide_eq_true_eq] at h4
    rw [if_pos h4] at e
    have := h2 (by rw [e]; omega) _ hS.drop.drop
    rwa [e] at this
  rw [decide_eq_false_iff_not] at h4
  rw [if_neg h4] at e
  refine ldW_h hS rfl ?_
  refine ldW_h hS rfl ?_
  refine spl_V _ rfl (by simp) rfl ?_
  refine spl_V _ rfl (by simp) rfl ?_
  refine newC_h hS fun g w5 hS => ?_
  exact h1 e g w5 (show St w0 w5 (rcpy g (Cp.begin a b from_ until_) :: L) from hS.swap.drop.swap.drop)

/-- the place that is next -/
def Cp.spot (c : Cp) : Int := if c.loaded then c.b.place c.at_ else c.a.place c.at_
def Cp.next (c : Cp) (x : Int) : Cp := if c.loaded then { c with at_ := IntKind.i64.wrap (c.at_ + 1), loaded := false } else { c with has := x, loaded := true }

theorem step_s {g gc : Nat} {M : Mac} {c : Cp} {wk : Int} {k : Bool × Int → World → Prop} (h : St w0 w (cpy gc c :: mach g M :: L))
    (h0 : c.at_ = c.until_ → ∀ w', St w0 w' (cpy gc c :: mach g M :: L) → k (true, 0) w')
    (h1 : c.at_ ≠ c.until_ → M.can wk c.spot = false → ∀ w', St w0 w' (cpy gc c :: mach g M :: L) → k (false, 10) w')
    (h2 : c.at_ ≠ c.until_ → M.can wk c.spot = true → c.loaded = false → ∀ w', St w0 w' (cpy gc (c.next (M.get c.spot)) :: mach g (M.tick wk) :: L) → k (false, 0) w')
    (h3 : c.at_ ≠ c.until_ → M.can wk c.spot = true → c.loaded = true → ∀ w', St w0 w' (cpy gc (c.next 0) :: mach g ((M.tick wk).put c.spot c.has) :: L) → k ((c.next 0).at_ == c.until_, 0) w') :
    ring_Copy_Step (some ⟨gc, 0, none⟩) (some ⟨g, 0, none⟩) wk w k := by
  unfold ring_Copy_Step ring_Copy_Step_b
  refine iteB_f rfl (drew_h h fun w1 hS => ?_)
  unfold cpy at hS
  refine nn_i (ldI_h hS rfl ?_)
  refine nn_i (ldI_h hS rfl (iteB_i (fun he => h0 (by simpa using he) _ hS) fun hne => ?_))
  have hne : c.at_ ≠ c.until_ := by simpa using hne
  refine nn_i (ldV_h hS rfl ?_)
  cases hl : c.loaded with
  | false =>
    have hsp : c.spot = c.a.place c.at_ := by unfold Cp.spot; rw [hl]; rfl
    rw [hl] at hS
    refine callF_i (d := d_ring_Copy_load) (fun _ _ _ => rfl) ?_
    simp only [d_ring_Copy_load, List.append_toArray, List.cons_append, List.nil_append, List.append_nil, unL, unV, toP, toI, if_true, packV, valL, K.v, toB]
    unfold ring_Copy_load ring_Copy_load_b
    refine drew_h hS fun w2 hS => ?_
    refine nn_i (ldA_h hS (by simp) ?_)
    refine nn_i (ldI_h hS rfl ?_)
    refine place_s (r := c.a) hS fun w3 hS => ?_
    refine load_s (g := g) (M := M) hS (fun hcan w4 hS => ?_) fun hcan => ?_
    · refine iteB_f rfl (nn_i (stC_h hS rfl (by simp) fun w5 hS => nn_i (stC_h hS rfl (by simp) fun w6 hS => ?_)))
      refine iteB_f rfl (drew_h hS fun w7 hS => ?_)
      refine nn_i (ldI_h hS rfl ?_)
      refine nn_i (ldI_h hS rfl ?_)
      have := h2 hne (by rw [hsp]; exact hcan) hl w7 (by
        rw [hsp]
        have e : c.next (M.get (c.a.place c.at_)) = { c with has := M.get (c.a.place c.at_), loaded := true } := by unfold Cp.next; rw [hl]; rfl
        rw [e]; exact hS)
      rwa [show (c.at_ == c.until_) = false by simpa using hne]
    · refine iteB_t rfl (iteB_t rfl (h1 hne (by rw [hsp]; exact hcan) _ ?_))
      unfold cpy; rw [hl]; exact hS
  | true =>
    have hsp : c.spot = c.b.place c.at_ := by unfold Cp.spot; rw [hl]; rfl
    rw [hl] at hS
    refine callF_i (d := d_ring_Copy_store) (fun _ _ _ => rfl) ?_
    simp only [d_ring_Copy_store, List.append_toArray, List.cons_append, List.nil_append, List.append_nil, unL, unV, toP, toI, if_true, packV, valL, K.v, toB]
    unfold ring_Copy_store ring_Copy_store_b
    refine drew_h hS fun w2 hS => ?_
    refine nn_i (ldA_h hS (by simp) ?_)
    refine nn_i (ldI_h hS rfl ?_)
    refine nn_i (ldI_h hS rfl ?_)
    refine place_s (r := c.b) hS fun w3 hS3 => ?_
    refine samec_h hS hS3 ?_
    refine store_s (g := g) (M := M) hS3 (fun hcan w4 hS => ?_) fun hcan => ?_
    · refine iteB_f rfl (nn_i (ldI_h hS rfl ?_))
      refine nn_i (stC_h hS rfl (by simp) fun w5 hS => nn_i (stC_h hS rfl (by simp) fun w6 hS => ?_))
      refine iteB_f rfl (drew_h hS fun w7 hS => ?_)
      refine nn_i (ldI_h hS rfl ?_)
      refine nn_i (ldI_h hS rfl ?_)
      have e : c.next 0 = { c with at_ := IntKind.i64.wrap (c.at_ + 1), loaded := false } := by unfold Cp.next; rw [hl]; rfl
      have := h3 hne (by rw [hsp]; exact hcan) hl w7 (by
        rw [hsp, e]; exact hS)
      rw [e] at this
      exact this
    · refine iteB_t rfl (iteB_t rfl (h1 hne (by rw [hsp]; exact hcan) _ ?_))
      unfold cpy; rw [hl]; exact hS3

/-- the document's step, over a slice of numbers -/
theorem rstep_s {gc : Nat} {s : Sl} {xs : List Int} {c : Cp} {wk most : Int} {k : Bool × Bool × Int → World → Prop} (h : St w0 w (rcpy gc c :: slc 1 s (ints xs) :: L)) (ha : c.a.right = true) (hb : c.b.right = true)
    (h0 : c.at_ = c.until_ → ∀ w', St w0 w' (rcpy gc c :: slc 1 s (ints xs) :: L) → k (true, false, 0) w')
    (h1 : c.at_ ≠ c.until_ → ¬ (0 ≤ wk ∧ wk ≤ most ∧ c.spot < xs.length) → ∀ w', St w0 w' (rcpy gc c :: slc 1 s (ints xs) :: L) → k (false, false, 10) w')
    (h2 : c.at_ ≠ c.until_ → (0 ≤ wk ∧ wk ≤ most ∧ c.spot < xs.length) → c.loaded = false → ∀ w', St w0 w' (rcpy gc (c.next (xs.getD c.spot.toNat 0)) :: slc 1 s (ints xs) :: L) → k (false, true, 0) w')
    (h3 : c.at_ ≠ c.until_ → (0 ≤ wk ∧ wk ≤ most ∧ c.spot < xs.length) → c.loaded = true → ∀ w', St w0 w' (rcpy gc (c.next 0) :: slc 1 s (ints (xs.set c.spot.toNat c.has)) :: L) → k ((c.next 0).at_ == c.until_, true, 0) w') :
    pelotonref09_Copy_Step (some ⟨gc, 0, none⟩) s wk most w k := by
  unfold pelotonref09_Copy_Step pelotonref09_Copy_Step_b
  refine drew_h h fun w1 hS => ?_
  have hlen := slen1 (s := s) (xs := xs) hS
  unfold rcpy at hS
  refine nn_i (ldI_h hS rfl ?_)
  refine nn_i (ldI_h hS rfl (iteB_i (fun he => h0 (by simpa using he) _ hS) fun hne => ?_))
  have hne : c.at_ ≠ c.until_ := by simpa using hne
  refine drew_h hS fun w2 hS => ?_
  refine nn_i (ldA_h hS (by simp) ?_)
  refine nn_i (ldI_h hS rfl ?_)
  refine rplace_s (r := c.a) hS fun w3 hS => ?_
  refine nn_i (ldB_h hS rfl ?_)
  refine joinP_i (fun y w' => y = c.spot ∧ St w0 w' (rcpy gc c :: slc 1 s (ints xs) :: L)) ?_ ?_
  · intro J hJ
    refine iteB_i (fun hl => ?_) fun hl => ?_
    · refine drew_h hS fun w4 hS => ?_
      refine nn_i (ldA_h hS (by simp) ?_)
      refine nn_i (ldI_h hS rfl ?_)
      refine rplace_s (r := c.b) hS fun w5 hS => hJ _ _ ⟨?_, hS⟩
      unfold Cp.spot; rw [hl]; rfl
    · refine hJ _ _ ⟨?_, hS⟩
      unfold Cp.spot; rw [hl]; rfl
  rintro _ w4 ⟨rfl, hS⟩
  have hsp0 : 0 ≤ c.spot := by
    have hra := Rg.right_out ha; have hrb := Rg.right_out hb
    unfold Cp.spot Rg.place
    rw [if_pos ha, if_pos hb]
    have m1 := Int.emod_nonneg c.at_ (show ((c.a.pw : Nat) : Int) ≠ 0 by omega)
    have m2 := Int.emod_nonneg c.at_ (show ((c.b.pw : Nat) : Int) ≠ 0 by omega)
    split <;> omega
  refine iteB_i (fun hb1 => ?_) fun hb1 => ?_
  · simp only [Bool.or_eq_true, decide_eq_true_eq] at hb1
    exact h1 hne (by omega) _ hS
  simp only [Bool.or_eq_false_iff, decide_eq_false_iff_not] at hb1
  have hok : 0 ≤ wk ∧ wk ≤ most ∧ c.spot < xs.length := by omega
  unfold rcpy at hS
  refine nn_i (ldB_h hS rfl (iteB_i (fun hl => ?_) fun hl => ?_))
  · have hl : c.loaded = false := by simpa using hl
    have e : c.next (xs.getD c.spot.toNat 0) = { c with has := xs.getD c.spot.toNat 0, loaded := true } := by unfold Cp.next; rw [hl]; rfl
    refine ixI_h (s := s) (xs := xs) hS hsp0 hok.2.2 (nn_i (stC_h hS rfl (by simp) fun w5 hS => nn_i (stC_h hS rfl (by simp) fun w6 hS => ?_)))
    exact h2 hne hok hl w6 (by rw [e]; exact hS)
  · have hl : c.loaded = true := by simpa using hl
    have e : c.next 0 = { c with at_ := IntKind.i64.wrap (c.at_ + 1), loaded := false } := by unfold Cp.next; rw [hl]; rfl
    refine nn_i (ldI_h hS rfl ?_)
    refine ixIst_h (s := s) (xs := xs) hS hsp0 hok.2.2 fun w5 hS => nn_i (stC_h hS rfl (by simp) fun w6 hS => nn_i (ldI_h hS rfl ?_))
    refine nn_i (stC_h hS rfl (by simp) fun w7 hS => drew_h hS fun w8 hS => nn_i (ldI_h hS rfl ?_))
    refine nn_i (ldI_h hS rfl ?_)
    have := h3 hne hok hl w8 (by rw [e]; exact hS)
    rw [e] at this
    exact this
end
end Go.Proofs.Ytheallacpidcmaa
