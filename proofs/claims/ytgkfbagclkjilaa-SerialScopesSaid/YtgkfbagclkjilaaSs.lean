/-
  Layer 6: the law of scopes: rows, and the law.
-/
import Derived.Test.YtgkfbagclkjilaaSr
set_option linter.unusedSimpArgs false
set_option linter.unusedVariables false
set_option maxRecDepth 100000
namespace Go.Proofs.Ytgkfbagclkjilaa
open Go Go.Ev Go.Proofs
open Go.Proofs.Ytgkfbagclkjilaa.Fr (fTo fOn fPlain fForked fJoined fClosed fChild fRoot fR isB fTo_len fOn_len fPlain_len fForked_len fJoined_len fClosed_len)
open Go.Proofs.Ytgkfbagclkjilaa.Ck (opI Walk Accs needsOf isGoes heldL depths stepD handlesOk subBits scopesOk forks)
section
variable {P : List FnR} {F : Int} {t : Tk} {m mz : Mc} {k : Int} {g : FnR}
theorem goes_id (hA : Accs P) (hN : ∀ g ∈ P, InI g.needs) {r : Res} (hG : Goes P F t m r) : ∀ {m' : Mc}, r = .ok m' → Inv P t m → ∀ j, j < m.rows.length → (m'.rows.getD j r0).inn = (m.rows.getD j r0).inn ∧ (m'.rows.getD j r0).par = (m.rows.getD j r0).par := by
  induction hG with
  | fin h =>
    intro m' e hI j hj; cases e
    obtain ⟨st, kind, v, e, hh⟩ := fin_how hA hI h
    rw [e]
    unfold endRow
    rw [getD_set hI.row]
    split
    · rename_i q; rw [q]; exact ⟨rfl, rfl⟩
    · exact ⟨rfl, rfl⟩
  | bad h => intro m' e; cases e
  | go h hg ih =>
    intro m' e hI j hj
    obtain ⟨hr, _⟩ := go_how hA hI h
    rcases hr with hr | ⟨b, hr, _⟩
    · have := ih e (inv_go hA hI h).1 j (by rw [hr]; exact hj)
      rw [hr] at this; exact this
    · have := ih e (inv_go hA hI h).1 j (by rw [hr, told_len']; exact hj)
      rw [hr] at this
      unfold Mc.told at this
      dsimp only at this
      rw [getD_set hI.row] at this
      split at this
      · rename_i q; rw [q] at this ⊢; exact this
      · exact this
  | forkBad h _ ih => intro m' e; cases e
  | fork h h1 h2 ih1 ih2 =>
    rename_i t m c m1 i m2 r
    intro m' e hI j hj
    obtain ⟨k1, k2⟩ := inv_child hA hN hI h
    obtain ⟨k3, k4⟩ := goes_more hA hN h1 rfl k1
    obtain ⟨k5, k6⟩ := inv_forked hA hI h k3 k4
    obtain ⟨_, _, _, _, _, hc, hrows⟩ := stp_fork h
    have a := ih2 e k5 j (Nat.lt_of_lt_of_le hj k6.1)
    have b := ih1 rfl k1 j (by rw [hrows]; simp; omega)
    have e1 : m1.rows.getD j r0 = m.rows.getD j r0 := by rw [hrows]; simp only [List.getD_eq_getElem?_getD]; rw [List.getElem?_append_left hj]
    rw [e1] at b
    exact ⟨a.1.trans b.1, a.2.trans b.2⟩
structure ScR (A : List Rw) (L : Nat) (k : Int) : Prop where
  l2 : 2 ≤ L
  len : L + 3 ≤ A.length
  kind0 : (A.getD 0 r0).kind = 2
  cl0 : (A.getD 0 r0).cl = [false, true]
  par1 : (A.getD 1 r0).par = 0
  kind1 : (A.getD 1 r0).kind ≠ 4
  o1 : A.getD L r0 = offR 1 k
  o2 : A.getD (L + 1) r0 = offR 2 k
  par4 : (A.getD (L + 2) r0).par = 0
  same : { A.getD (L + 2) r0 with inn := 1 } = A.getD 1 r0
  rest : ∀ j, j < A.length → (1 < j ∧ j < L ∨ L + 2 < j) → (A.getD j r0).par ≠ 0
theorem scopes_rows (hA : Accs P) (hN : ∀ g ∈ P, InI g.needs) (hP : P[0]? = some g) (hgc : g.code = cS k) (hc : ∀ a : Int, a = 0 ∨ a = 1 ∨ a = 2 → Fr.chk [8, a, 0, 0, k] = 0) (hnd : needsOf P k = 0) (hG : Goes P F t0 m0 (.ok mz)) : ∃ L, ScR mz.rows L k := by
  obtain ⟨ma, md, st, v, s, ga, Ia, gd, Id, hmz⟩ := scopes_run hA hN hP hgc hc hnd hG
  have a1 := goes_more hA hN ga rfl Ia
  have d1 := goes_more hA hN gd rfl Id
  have hla : 2 ≤ ma.rows.length := a1.1.1
  have hld : ma.rows.length + 3 ≤ md.rows.length := by have := d1.1.1; simpa using this
  have keepd := goes_keep hA hN gd rfl Id
  have pa := goes_par (b := 2) (lo := 1) hA hN ga rfl Ia (fun j r hj hr => by
    have : j < 2 := (List.getElem?_eq_some_iff.1 hr).1
    omega) (by simp [kidS])
  have pd := goes_par (b := ma.rows.length + 3) (lo := 1) hA hN gd rfl Id (fun j r hj hr => by
    have := (List.getElem?_eq_some_iff.1 hr).1
    simp at this; omega) (by simp [kidS]; omega)
  have ida := goes_id hA hN ga rfl Ia 1 (by simp)
  have hT : TkR 1 (ma.rows.length + 1) (kidS k 1 2 false) (kidS k (ma.rows.length + 2) 1 false) := ⟨by show fS k = shF 1 _ (fS k); kernel_rfl, by show ma.rows.length + 2 = 1 + (ma.rows.length + 1); omega, Nat.le_refl _, rfl, rfl, rfl, fun h hh => by
    have : h = 0 ∨ h = 1 ∨ h = 2 ∨ h = 3 ∨ h = 4 ∨ h = 5 ∨ h = 6 ∨ h = 7 := by omega
    rcases this with rfl | rfl | rfl | rfl | rfl | rfl | rfl | rfl <;> exact .inl rfl⟩
  generalize hB : (ma.rows ++ [offR 1 k, offR 2 k]).set 0 ⟨-1, 0, 0, 0, 0, 0, [false, true]⟩ = B at gd Id keepd pd d1
  have hBl : B.length = ma.rows.length + 2 := by rw [← hB]; simp
  have hM : McR true 1 (ma.rows.length + 1) ⟨[⟨-1, 0, 0, 0, 0, 0, []⟩, kid 1 k], 2⟩ ⟨B ++ [kid 0 k], s⟩ := ⟨by simp [hBl]; omega, fun j hj hl => by
    have hj1 : j = 1 := by simp at hl; omega
    subst hj1
    have e1 : (B ++ [kid 0 k]).getD (1 + (ma.rows.length + 1)) r0 = kid 0 k := by
      rw [show 1 + (ma.rows.length + 1) = B.length by omega]; simp [List.getD_eq_getElem?_getD]
    rw [e1]
    exact ⟨by show (0 : Int) = sh 1 _ 0; unfold sh; rw [if_neg (by omega)], .inr ⟨rfl, rfl⟩, rfl, rfl, rfl, rfl, rfl⟩⟩
  have hR := goes_rel hA hN ga rfl Ia hT hM gd
  have hr1 := hR.row 1 (Nat.le_refl _) (by omega)
  have getz : ∀ j, 1 ≤ j → mz.rows.getD j r0 = md.rows.getD j r0 := fun j hj => by
    rw [hmz]; simp only [List.getD_eq_getElem?_getD]; rw [endRow_ne (by omega)]
  have getd : ∀ j, j < ma.rows.length + 2 → md.rows.getD j r0 = B.getD j r0 := fun j hj => by
    simp only [List.getD_eq_getElem?_getD]
    rw [keepd j (by simp [hBl]; omega) (by simp [kidS]; omega), List.getElem?_append_left (by omega)]
  have getB : ∀ j, 1 ≤ j → B.getD j r0 = (ma.rows ++ [offR 1 k, offR 2 k]).getD j r0 := fun j hj => by
    rw [← hB, getD_set (by simp), if_neg (by omega)]
  have getA : ∀ j, 1 ≤ j → j < ma.rows.length → mz.rows.getD j r0 = ma.rows.getD j r0 := fun j hj hl => by
    rw [getz j hj, getd j (by omega), getB j hj]
    simp only [List.getD_eq_getElem?_getD]; rw [List.getElem?_append_left hl]
  have hl0 : 0 < md.rows.length := by omega
  have hz0 : mz.rows.getD 0 r0 = { md.rows.getD 0 r0 with kind := 2, v := v, steps := st } := by
    rw [hmz, List.getD_eq_getElem?_getD, endRow_at hl0]; rfl
  have hB0 : B.getD 0 r0 = ⟨-1, 0, 0, 0, 0, 0, [false, true]⟩ := by rw [← hB, getD_set (by simp), if_pos rfl]
  have hp1 : (ma.rows.getD 1 r0).par = 0 := ida.2
  have hi1 : (ma.rows.getD 1 r0).inn = 1 := ida.1
  refine ⟨ma.rows.length, hla, by rw [hmz, endRow_len]; exact hld, by rw [hz0], by rw [hz0, getd 0 (by omega), hB0], by rw [getA 1 (by omega) (by omega)]; exact hp1, by rw [getA 1 (by omega) (by omega)]; exact goes_kind hA hN ga rfl Ia rfl, ?_, ?_, ?_, ?_, ?_⟩
  · rw [getz _ (by omega), getd _ (by omega), getB _ (by omega)]
    simp [List.getD_eq_getElem?_getD]
  · rw [getz _ (by omega), getd _ (by omega), getB _ (by omega)]
    simp [List.getD_eq_getElem?_getD]
  · rw [getz _ (by omega)]
    have := hr1.par
    rw [hp1, show 1 + (ma.rows.length + 1) = ma.rows.length + 2 by omega] at this
    rw [this]; unfold sh; rw [if_neg (by omega)]
  · rw [getz _ (by omega), getA 1 (by omega) (by omega)]
    rw [show 1 + (ma.rows.length + 1) = ma.rows.length + 2 by omega] at hr1
    generalize md.rows.getD (ma.rows.length + 2) r0 = y at hr1
    generalize ma.rows.getD 1 r0 = x at hr1 hp1 hi1
    have hpp := hr1.par
    rw [hp1] at hpp
    unfold sh at hpp
    rw [if_neg (by omega)] at hpp
    cases y; cases x
    simp only [Rw.mk.injEq]
    exact ⟨hpp.trans hp1.symm, hi1.symm, hr1.fn, hr1.kind, hr1.v, hr1.steps, hr1.cl⟩
  · intro j hj hjj
    rw [hmz, endRow_len] at hj
    rcases hjj with ⟨q1, q2⟩ | q
    · rw [getA j (by omega) q2]
      have := pa j _ (by omega) (row_at q2)
      omega
    · rw [getz j (by omega)]
      have := pd j _ (by omega) (row_at hj)
      omega
end
theorem heldS (k : Int) : heldL (cS k) 0 = [0, 0, 1, 1, 3, 3, 3, 3, 3, 3, 3, 7] := (Ck.heldL_eval (l := cS k) (needs := 0) 12 (by simp [cS]) (by simp [cS]) (by kernel_rfl)).trans (by kernel_rfl)
theorem accs_S {f0 : FnR} {T : List FnR} {k : Int} {sc : Sl} (hA : Accs (f0 :: T)) (hk1 : 1 ≤ k) (hk2 : k < ((f0 :: T).length : Nat)) (hnd : needsOf (f0 :: T) k = 0) : Accs (⟨0, sc, cS k⟩ :: T) := by
  have hn1 := hA.n1
  refine accs_with (H := [0, 0, 1, 1, 3, 3, 3, 3, 3, 3, 3, 7]) hA rfl (by simp [cS]) (fun x hx => ?_) (heldS k) (by kernel_rfl) fun x hx h8 => ?_
  · simp [cS] at hx
    rcases hx with rfl | rfl | rfl | rfl | rfl | rfl | rfl | rfl | rfl | rfl | rfl | rfl <;> first | decide | exact chk_fork (by omega) (by omega) (by omega)
  · simp [cS] at hx
    rcases hx with rfl | rfl | rfl | rfl | rfl | rfl | rfl | rfl | rfl | rfl | rfl | rfl <;> first | (cases h8; done) | exact ⟨hk2, hnd⟩
/-- the rows whose parent is the first one, up to j -/
def accL (A : List Rw) (L : Nat) (j : Nat) : List Rw := (if 1 < j then [A.getD 1 r0] else []) ++ ((if L < j then [A.getD L r0] else []) ++ ((if L + 1 < j then [A.getD (L + 1) r0] else []) ++ (if L + 2 < j then [A.getD (L + 2) r0] else [])))
theorem accL_step {A : List Rw} {L j : Nat} {k : Int} (h : ScR A L k) (hj : 1 ≤ j) (hl : j < A.length) : accL A L (j + 1) = accL A L j ++ (if (A.getD j r0).par = 0 then [A.getD j r0] else []) := by
  have h2 := h.l2
  have p2 : (A.getD L r0).par = 0 := by rw [h.o1]; rfl
  have p3 : (A.getD (L + 1) r0).par = 0 := by rw [h.o2]; rfl
  unfold accL
  by_cases q1 : j = 1
  · subst q1
    rw [if_pos h.par1, if_pos (by omega), if_neg (by omega), if_neg (by omega), if_neg (by omega), if_neg (by omega), if_neg (by omega), if_neg (by omega), if_neg (by omega)]; rfl
  by_cases q2 : j = L
  · subst q2
    rw [if_pos p2, if_pos (by omega), if_pos (by omega), if_neg (by omega), if_neg (by omega), if_pos (by omega), if_neg (by omega), if_neg (by omega), if_neg (by omega)]; rfl
  by_cases q3 : j = L + 1
  · subst q3
    rw [if_pos p3, if_pos (by omega), if_pos (by omega), if_pos (by omega), if_neg (by omega), if_pos (by omega), if_pos (by omega), if_neg (by omega), if_neg (by omega)]; rfl
  by_cases q4 : j = L + 2
  · subst q4
    rw [if_pos h.par4, if_pos (by omega), if_pos (by omega), if_pos (by omega), if_pos (by omega), if_pos (by omega), if_pos (by omega), if_pos (by omega), if_neg (by omega)]; rfl
  · rw [if_neg (h.rest j hl (by omega)), List.append_nil]
    have e1 : (1 < j + 1) = (1 < j) := by apply propext; omega
    have e2 : (L < j + 1) = (L < j) := by apply propext; omega
    have e3 : (L + 1 < j + 1) = (L + 1 < j) := by apply propext; omega
    have e4 : (L + 2 < j + 1) = (L + 2 < j) := by apply propext; omega
    simp only [e1, e2, e3, e4]
theorem law_scopes {w : World} {ps : Sl} {P : List FnR} {fuel c : Int} {k : Bool → World → Prop} (hF : Funcs5 w ps P) (hcI : InI c) (hc : ∀ w', St w w' [] → k true w') : pelotonlaw06_SerialScopes #[.slice ps.a ps.n ps.c] fuel c w k := by
  have hN : ∀ g ∈ P, InI g.needs := fun g hg => (hF.code g hg).1
  have hpn := hF.len
  unfold pelotonlaw06_SerialScopes pelotonlaw06_SerialScopes_b
  refine newC_h (.nil w) fun g1 w2 h => ?_
  have h : St w w2 [blk g1 [.slice ps.a ps.n ps.c]] := h
  refine joinP_i (fun b w' => St w w' [blk g1 [.slice ps.a ps.n ps.c]] ∧ (b = false → Ck.Few P ∧ fuel ≤ 3000 ∧ Accs P ∧ 1 ≤ c ∧ c < P.length ∧ needsOf P c = 0)) (fun J hJ => ?_) fun b w22 hbw => ?_
  · refine ldW_h (g := g1) h rfl ?_
    refine small_s (hF.ext h.ext) fun b4 w5 h2 hsm => ?_
    have h := h.on h2.ext
    refine iteB_i (fun hb => hJ _ _ ⟨h, fun q => by cases q⟩) fun hb => ?_
    obtain ⟨hfew, hfu⟩ := hsm (by simpa using hb)
    refine ldW_h (g := g1) h rfl ?_
    refine Ck.accepts_s (hF.ext h.ext) fun w11 h2 => ?_
    have h := h.on h2.ext
    rw [Ck.progF_zero]
    refine iteB_i (fun hb => hJ _ _ ⟨h, fun q => by cases q⟩) fun hb => ?_
    rw [Bool.or_eq_false_iff, decide_eq_false_iff_not] at hb
    have hA : Accs P := Ck.accs_iff.1 (by simpa using hb.1)
    have hb1 := hb.2
    refine ldS_h (g := g1) (o := 0 + 0) h rfl (iteB_i (fun hb => hJ _ _ ⟨h, fun q => by cases q⟩) fun hb2 => ?_)
    have hb2 := of_decide_eq_false hb2
    dsimp only at hb2
    obtain ⟨f, hf⟩ : ∃ f, P[c.toNat]? = some f := ⟨_, List.getElem?_eq_getElem (by omega)⟩
    refine ldS_h (g := g1) (o := 0 + 0) h rfl ?_
    refine ixR_h (e := FnR.cells f) hF.rws h (by omega) (by rw [List.getElem?_map, hf]; rfl) fun p hp => ldI_i (hp h rfl) ?_
    refine hJ _ _ ⟨h, fun q => ?_⟩
    have hb3 : f.needs = 0 := by simpa using q
    exact ⟨hfew, hfu, hA, by omega, by omega, by rw [Ck.needs_get hf, hb3]⟩
  obtain ⟨h, hp⟩ := hbw
  refine iteB_i (fun hb => awake_s fun w7 h2 => hc _ (h.on h2.ext).all) fun hb => ?_
  obtain ⟨hfew, hfu, hA, hc1, hc2, hnd⟩ := hp hb
  have hlen := hA.n1
  refine ldW_h (g := g1) h rfl ?_
  refine spl_i (agI ((cS c).flatten.take 5 ++ Fr.Z 55)) rfl (by kernel_rfl) (spl_i (agI ((cS c).flatten.take 10 ++ Fr.Z 50)) rfl (by kernel_rfl) (spl_i (agI ((cS c).flatten.take 15 ++ Fr.Z 45)) rfl (by kernel_rfl) (spl_i (agI ((cS c).flatten.take 20 ++ Fr.Z 40)) rfl (by kernel_rfl) ?_)))
  refine spl_i (agI ((cS c).flatten.take 25 ++ Fr.Z 35)) rfl (by kernel_rfl) (spl_i (agI ((cS c).flatten.take 30 ++ Fr.Z 30)) rfl (by kernel_rfl) (spl_i (agI ((cS c).flatten.take 35 ++ Fr.Z 25)) rfl (by kernel_rfl) (spl_i (agI ((cS c).flatten.take 40 ++ Fr.Z 20)) rfl (by kernel_rfl) ?_)))
  refine spl_i (agI ((cS c).flatten.take 45 ++ Fr.Z 15)) rfl (by kernel_rfl) (spl_i (agI ((cS c).flatten.take 50 ++ Fr.Z 10)) rfl (by kernel_rfl) (spl_i (agI ((cS c).flatten.take 55 ++ Fr.Z 5)) rfl (by kernel_rfl) (spl_i (agI (cS c).flatten) rfl (by kernel_rfl) ?_)))
  refine newC_h h fun g33 w34 h => ?_
  obtain ⟨f0, T, rfl⟩ : ∃ f0 T, P = f0 :: T := by
    cases P with
    | nil => have := hA.n0; simp at this
    | cons f0 T => exact ⟨f0, T, rfl⟩
  simp only [List.length_cons] at hlen
  refine with_s (code := cS c) (hF.ext h.ext) (by omega) fun s' w36 h2 => ?_
  have hcode : ∀ {w' : World}, Blk w' g33 (agI (cS c).flatten) → Code5 w' ⟨some ⟨g33, 0, none⟩, 12, 12⟩ (cS c) := fun hb => flat_rows (l := cS c) hb (by
    intro x hx
    simp [cS] at hx
    rcases hx with rfl | rfl | rfl | rfl | rfl | rfl | rfl | rfl | rfl | rfl | rfl | rfl <;> refine ⟨rfl, fun y hy => ?_⟩ <;> simp at hy <;> rcases hy with rfl | rfl | rfl | rfl <;> first | exact hcI | decide) (by simp [cS])
  have hNT : ∀ g ∈ ((⟨0, ⟨some ⟨g33, 0, none⟩, 12, 12⟩, cS c⟩ : FnR) :: T), InI g.needs := by
    intro g hg
    rcases List.mem_cons.1 hg with rfl | hg
    · exact (by decide : InI 0)
    · exact hN g (by simp [hg])
  have hAT : Accs (⟨0, ⟨some ⟨g33, 0, none⟩, 12, 12⟩, cS c⟩ :: T) := accs_S hA hc1 (by exact_mod_cast hc2) hnd
  have hndT : needsOf ((⟨0, ⟨some ⟨g33, 0, none⟩, 12, 12⟩, cS c⟩ : FnR) :: T) c = 0 := by rw [needs_T (f0 := f0) hc1]; exact hnd
  have h36 := h.join h2
  simp only [List.cons_append, List.nil_append] at h36
  refine newC_h h36 fun g37 w38 h => ?_
  refine stW_h (g := g37) h rfl rfl (by intro v hv; simp at hv; subst hv; rfl) fun w39 h => ?_
  refine ldW_h (g := g37) h rfl ?_
  have hFT : Funcs5 w39 s' ((⟨0, ⟨some ⟨g33, 0, none⟩, 12, 12⟩, cS c⟩ : FnR) :: T) := Ck.funcs_own h (fun x hx => by
    rcases List.mem_cons.1 hx with rfl | hx
    · exact ⟨(by decide : InI 0), hcode (h.blk (g := g33))⟩
    · have := (hF.ext h.ext).code x (by simp [hx]); exact this) (by simp [reachBytes]; omega)
  refine run_s hFT fun s1 r1 n1 e1 w42 h2 hR1 => ?_
  have h := h.join h2
  simp only [List.cons_append, List.nil_append] at h
  have hs1 := rows_n (s := s1) (rs := r1) h
  refine iteB_i (fun hb => ?_) fun hb => ?_
  · have he : e1 ≠ 0 := by simpa using hb
    obtain ⟨rfl, rfl⟩ := hR1.no he
    exact iteB_t (by dsimp only; rw [hs1]; rfl) (awake_s fun w15 h2 => hc _ (h.on h2.ext).all)
  have he : e1 = 0 := by simpa using hb
  obtain ⟨_, hf0', hf1', hG⟩ := hR1.ok he
  simp only [List.length_cons] at hc2
  obtain ⟨L, hS⟩ := scopes_rows (mz := ⟨r1, n1⟩) hAT hNT rfl rfl (fun a ha => chk_fr (chk_fork (by omega) (by omega) (by omega))) hndT hG
  have hsz := goes_sz hAT hNT hG rfl (inv_root hAT hNT) (sz_root hf0' hf1')
  dsimp only at hS hsz ⊢
  have hrl := hsz.2.2.2.1
  have hSl := hS.len; have hS2 := hS.l2
  have getr : ∀ j, j < r1.length → r1[(j : Int).toNat]? = some (r1.getD j r0) := fun j hj => by rw [Int.toNat_natCast]; exact row_at hj
  have h : St w w42 [slc 7 s1 (rowsV r1)] := ((((h.rm 1 rfl).rm 1 rfl).rm 1 rfl).rm 1 rfl)
  refine joinP_i (fun sl w' => St w w' [slc 7 sl (rowsV [r1.getD 1 r0, offR 1 c, offR 2 c, r1.getD (L + 2) r0]), slc 7 s1 (rowsV r1)]) (fun J hJ => ?_) fun s56 w57 h => ?_
  · refine loopP_of (fun (x : Sl × Int) w' => ∃ j : Nat, x.2 = (j : Int) ∧ 1 ≤ j ∧ j ≤ r1.length ∧ St w w' [slc 7 x.1 (rowsV (accL r1 L j)), slc 7 s1 (rowsV r1)]) (fun x _ => (r1.length - x.2).toNat) ⟨1, rfl, by omega, by omega, ?_⟩ ?_
    · have e : accL r1 L 1 = [] := by unfold accL; rw [if_neg (by omega), if_neg (by omega), if_neg (by omega), if_neg (by omega)]; rfl
      rw [e]; exact h.nilS 7
    rintro ⟨sl, _⟩ w46 ⟨j, rfl, hj1, hj2, h⟩ C hC
    dsimp only at h ⊢
    have ew : IntKind.wrap .i64 ((j : Int) + 1) = ((j + 1 : Nat) : Int) := by rw [wrap_id ⟨by omega, by omega⟩]; simp
    refine iteB_i (fun hb => ?_) fun hb => ?_
    · have hlt : j < r1.length := by have := of_decide_eq_true hb; omega
      have hst := accL_step hS hj1 hlt
      refine rowI_h (s := s1) (rs := r1) (r := r1.getD j r0) (j := 0) (i := (j : Int)) h (by omega) (getr j hlt) rfl ?_
      refine iteB_i (fun hb => ?_) fun hb => ?_
      · have hp0 : (r1.getD j r0).par = 0 := by simpa using hb
        rw [if_pos hp0] at hst
        refine rowA_h (s := s1) (rs := r1) (r := r1.getD j r0) (i := (j : Int)) h (by omega) (getr j hlt) ?_
        refine spl_i (rwV (r1.getD j r0)).toArray rfl (by kernel_rfl) ?_
        refine newC_h h fun g52 w53 h2 => ?_
        have h2 : St w w53 (blk g52 (rwV (r1.getD j r0)) :: [slc 7 sl (rowsV (accL r1 L j)), slc 7 s1 (rowsV r1)]) := h2
        have hsn := rows_n (s := sl) (rs := accL r1 L j) h2
        have hal : (accL r1 L j).length ≤ 4 := by unfold accL; repeat' split <;> simp
        refine bApp_h (s := sl) (vs := rowsV (accL r1 L j)) (x := ⟨some ⟨g52, 0, none⟩, 1, 1⟩) (ys := rwV (r1.getD j r0)) h2 elR (by kernel_rfl) (blk_slsN (n := 1) (h2.blk (g := g52)) rfl 1) (by intro v hv; simp [rwV] at hv; rcases hv with rfl | rfl | rfl | rfl | rfl | rfl | rfl <;> rfl) (by simp only; omega) (by simp only; omega) fun s27 w28 h n2 => ?_
        have eR : rowsV (accL r1 L j) ++ rwV (r1.getD j r0) = rowsV (accL r1 L (j + 1)) := by rw [hst]; simp [rowsV]
        rw [eR] at h
        rw [ew]
        exact hC _ _ ⟨j + 1, rfl, by omega, by omega, h.rm 0 rfl⟩ (by dsimp only; omega)
      · have hp0 : (r1.getD j r0).par ≠ 0 := by simpa using hb
        rw [if_neg hp0, List.append_nil] at hst
        rw [ew]
        exact hC _ _ ⟨j + 1, rfl, by omega, by omega, by rw [hst]; exact h⟩ (by dsimp only; omega)
    · have hje : j = r1.length := by have := of_decide_eq_false hb; omega
      refine hJ _ _ ?_
      have e : accL r1 L j = [r1.getD 1 r0, offR 1 c, offR 2 c, r1.getD (L + 2) r0] := by
        unfold accL
        rw [if_pos (by omega), if_pos (by omega), if_pos (by omega), if_pos (by omega), hS.o1, hS.o2]; rfl
      rw [← e]; exact h
  have hn4 := rows_n (s := s56) (rs := [r1.getD 1 r0, offR 1 c, offR 2 c, r1.getD (L + 2) r0]) h
  refine joinP_i (fun b w' => b = false ∧ w' = w57) (fun J hJ => ?_) fun b w64 hbw => ?_
  · refine iteB_f (by rw [hn4]; rfl) ?_
    refine rowT_h (s := s1) (rs := r1) (r := r1.getD 0 r0) (i := ((0 : Nat) : Int)) h (by omega) (getr 0 (by omega)) ?_
    rw [hS.cl0]
    refine iteB_f (by rw [show told [false, true] = ByteArray.mk #[48, 49] from rfl]; simp [strEqB]) ?_
    refine rowI_h (s := s1) (rs := r1) (r := r1.getD 0 r0) (j := 3) (i := ((0 : Nat) : Int)) h (by omega) (getr 0 (by omega)) rfl ?_
    exact hJ _ _ ⟨by rw [hS.kind0]; rfl, rfl⟩
  rw [hbw.1, hbw.2]
  refine iteB_f rfl ?_
  have one : ∀ (r : Rw) (v : Value), v ∈ (rwV r) → v.oneCell' = true := by
    intro r v hv; simp [rwV] at hv; rcases hv with rfl | rfl | rfl | rfl | rfl | rfl | rfl <;> rfl
  refine newC_h h fun g65 w66 h => ?_
  refine stW_h (g := g65) h rfl rfl (by intro v hv; simp at hv; rcases hv with rfl | rfl | rfl | rfl | rfl | rfl | rfl <;> rfl) fun w67 h => ?_
  refine stC_h (g := g65) (o := 0 + 1) (v := .int .i64 1) h rfl (by simp) fun w68 h => ?_
  have h : St w w68 (blk g65 (rwV (offR 1 c)) :: [slc 7 s56 (rowsV [r1.getD 1 r0, offR 1 c, offR 2 c, r1.getD (L + 2) r0]), slc 7 s1 (rowsV r1)]) := h
  refine ldW_h (g := g65) h rfl ?_
  refine newC_h h fun g70 w71 h => ?_
  refine stW_h (g := g70) h rfl rfl (fun v hv => one _ v (by simpa using hv)) fun w72 h => ?_
  refine stC_h (g := g70) (o := 0 + 1) (v := .int .i64 2) h rfl (by simp [rwV]) fun w73 h => ?_
  have h : St w w73 (blk g70 (rwV (offR 2 c)) :: blk g65 (rwV (offR 1 c)) :: [slc 7 s56 (rowsV [r1.getD 1 r0, offR 1 c, offR 2 c, r1.getD (L + 2) r0]), slc 7 s1 (rowsV r1)]) := h
  refine rowA_h (s := s56) (rs := [r1.getD 1 r0, offR 1 c, offR 2 c, r1.getD (L + 2) r0]) (r := r1.getD (L + 2) r0) (i := 3) h (by omega) rfl ?_
  refine newC_h h fun g76 w77 h => ?_
  refine stW_h (g := g76) h rfl rfl (fun v hv => one _ v (by simpa using hv)) fun w78 h => ?_
  refine stC_h (g := g76) (o := 0 + 1) (v := .int .i64 1) h rfl (by simp [rwV]) fun w79 h => ?_
  have h : St w w79 (blk g76 (rwV { r1.getD (L + 2) r0 with inn := 1 }) :: blk g70 (rwV (offR 2 c)) :: blk g65 (rwV (offR 1 c)) :: [slc 7 s56 (rowsV [r1.getD 1 r0, offR 1 c, offR 2 c, r1.getD (L + 2) r0]), slc 7 s1 (rowsV r1)]) := h
  rw [hS.same] at h
  refine drew_h h fun w80 h => ?_
  refine rowI_h (s := s56) (rs := [r1.getD 1 r0, offR 1 c, offR 2 c, r1.getD (L + 2) r0]) (r := r1.getD 1 r0) (j := 3) (i := 0) h (by omega) rfl rfl ?_
  refine iteB_t (by simpa using hS.kind1) ?_
  refine rowA_h (s := s56) (rs := [r1.getD 1 r0, offR 1 c, offR 2 c, r1.getD (L + 2) r0]) (r := offR 1 c) (i := 1) h (by omega) rfl ?_
  refine ldW_h (g := g65) h rfl (eq_rw _ (iteB_t rfl ?_))
  refine rowA_h (s := s56) (rs := [r1.getD 1 r0, offR 1 c, offR 2 c, r1.getD (L + 2) r0]) (r := offR 2 c) (i := 2) h (by omega) rfl ?_
  refine ldW_h (g := g70) h rfl (eq_rw _ (iteB_t rfl ?_))
  refine rowA_h (s := s56) (rs := [r1.getD 1 r0, offR 1 c, offR 2 c, r1.getD (L + 2) r0]) (r := r1.getD 1 r0) (i := 0) h (by omega) rfl ?_
  refine ldW_h (g := g76) h rfl (eq_rw _ (iteB_t rfl ?_))
  exact awake_s fun w36 h2 => hc _ (h.on h2.ext).all
end Go.Proofs.Ytgkfbagclkjilaa
