/-
  Layer 6, in plain terms: how rows grow, steps add up, what more fuel does.
-/
import Derived.Test.YtgkfbagclkjilaaSj
set_option linter.unusedSimpArgs false
set_option linter.unusedVariables false
set_option maxRecDepth 100000
namespace Go.Proofs.Ytgkfbagclkjilaa
open Go Go.Ev Go.Proofs
open Go.Proofs.Ytgkfbagclkjilaa.Fr (fTo fOn fPlain fForked fJoined fClosed fChild fRoot fR isB fTo_len fOn_len fPlain_len fForked_len fJoined_len fClosed_len)
open Go.Proofs.Ytgkfbagclkjilaa.Ck (opI Walk Accs needsOf isGoes heldL depths stepD handlesOk subBits scopesOk forks)

/-- the row of an end -/
def endRow (m : Mc) (row : Nat) (st kind v : Int) : List Rw := m.rows.set row { m.rows.getD row r0 with kind := kind, v := v, steps := st }
section
variable {P : List FnR} {F : Int} {t : Tk} {m : Mc}
theorem fin_how (hA : Accs P) (hI : Inv P t m) {m' : Mc} (h : stp P F t m = .fin m') : ∃ st kind v, m'.rows = endRow m t.row st kind v ∧
    ((t.off = true ∧ kind = 4 ∧ v = 0 ∧ m'.steps = m.steps ∧ st = t.f.getD 18 0) ∨ (m.steps < F ∧ (kind = 2 ∨ kind = 3) ∧ m'.steps = m.steps + 1 ∧ st = IntKind.i64.wrap (t.f.getD 18 0 + 1))) := by
  obtain ⟨g, hv, ha⟩ := hI.at hA
  unfold stp at h
  split at h
  · rename_i hb
    cases h
    exact ⟨_, 4, 0, rfl, .inl ⟨by rw [Bool.and_eq_true] at hb; exact hb.1, rfl, rfl, rfl, rfl⟩⟩
  split at h
  · cases h
  rename_i hF
  split at h
  · cases h
  split at h
  · cases h
  have hlt : m.steps < F := by omega
  unfold act at h
  split at h
  · cases h
  split at h
  · rename_i h910
    split at h
    · rename_i hb
      cases h
      refine ⟨_, 3, _, rfl, .inr ⟨hlt, .inr rfl, rfl, ?_⟩⟩
      revert hb
      unfold Fr.fJoined
      split
      · intro q; cases q
      · split
        · intro q; cases q
        · split
          · intro q; cases q
          · intro _; exact fTo_st hI.len
    · cases h
  split at h
  · cases h
  split at h
  · cases h
  split at h
  · cases h
  split at h
  · cases h
  cases h
  exact ⟨_, _, _, rfl, .inr ⟨hlt, by split; exact .inr rfl; exact .inl rfl, rfl, fTo_st hI.len⟩⟩
theorem go_how (hA : Accs P) (hI : Inv P t m) {t' : Tk} {m' : Mc} (h : stp P F t m = .go t' m') : (m'.rows = m.rows ∨ ∃ b, m'.rows = (m.told t.row b).rows ∧ ∃ x ∈ t.sc, b = x.1) ∧ t'.f.getD 18 0 = IntKind.i64.wrap (t.f.getD 18 0 + 1) ∧ (∀ h : Nat, h < 8 → t'.f.getD (10 + h) 0 = t.f.getD (10 + h) 0)
    ∧ ((∀ x ∈ t'.sc, x.1 = true → ∃ y ∈ t.sc, y.1 = true) ∨ (insAt P t.f).getD 0 0 = 13) := by
  obtain ⟨g, hv, ha⟩ := hI.at hA
  obtain ⟨hp0, hp1⟩ := at_pc ha
  have same : ∀ x ∈ t.sc, x.1 = true → ∃ y ∈ t.sc, y.1 = true := fun x hx h => ⟨x, hx, h⟩
  unfold stp at h
  split at h
  · cases h
  split at h
  · cases h
  split at h
  · cases h
  split at h
  · rename_i hp
    cases h
    refine ⟨.inl rfl, ?_⟩
    rcases plain_keep ha.chk hI.len hp0 hp1 hp with ⟨_, hk⟩ | ⟨_, _, hk⟩ <;> exact ⟨hk.st, hk.hs, .inl same⟩
  unfold act at h
  split at h
  · cases h
  split at h
  · rename_i h910
    obtain ⟨_, _, _, r, hr, hk⟩ := at_join ha h910
    split at h
    · cases h
    · rename_i hb
      cases h
      have hkk : rOf (insAt P t.f) t { m with steps := m.steps + 1 } = r := by unfold rOf; rw [List.getD_eq_getElem?_getD]; dsimp only; rw [hr]; rfl
      have k := joined_keep (f := t.f) (kind := (rOf (insAt P t.f) t { m with steps := m.steps + 1 }).kind) (v := (rOf (insAt P t.f) t { m with steps := m.steps + 1 }).v) ha.chk hI.len hp0 hp1 h910 (by rw [hkk]; exact hk) (by simpa using hb)
      exact ⟨.inl rfl, k.st, k.hs, .inl same⟩
  split at h
  · cases h
    have k := kp_on hI.len hp0 hp1
    refine ⟨.inl rfl, k.st, k.hs, .inl fun x hx hx1 => ?_⟩
    rcases List.mem_cons.1 hx with rfl | hx
    · cases hx1
    · exact ⟨x, hx, hx1⟩
  split at h
  · rename_i h12
    cases h
    have k := closed_keep (b := (t.sc.headD (false, 0)).1) ha.chk hI.len hp0 hp1 h12
    refine ⟨.inr ⟨_, rfl, ?_⟩, k.st, k.hs, .inl fun x hx hx1 => ⟨x, List.mem_of_mem_tail hx, hx1⟩⟩
    cases hs : t.sc with
    | nil => exact (hI.sc hs).elim
    | cons x l => exact ⟨x, by simp, rfl⟩
  split at h
  · rename_i h13
    cases h
    have k := kp_on hI.len hp0 hp1
    exact ⟨.inl rfl, k.st, k.hs, .inr h13⟩
  split at h
  · cases h
    have k := kp_on hI.len hp0 hp1
    exact ⟨.inl rfl, k.st, k.hs, .inl same⟩
  cases h
theorem told_len' {row : Nat} {b : Bool} : (m.told row b).rows.length = m.rows.length := by simp [Mc.told]
theorem endRow_len {row : Nat} {st kind v : Int} : (endRow m row st kind v).length = m.rows.length := by simp [endRow]
theorem told_ne {row j : Nat} {b : Bool} (h : j ≠ row) : (m.told row b).rows[j]? = m.rows[j]? := by simp [Mc.told, List.getElem?_set_ne (Ne.symm h)]
theorem endRow_ne {row j : Nat} {st kind v : Int} (h : j ≠ row) : (endRow m row st kind v)[j]? = m.rows[j]? := by simp [endRow, List.getElem?_set_ne (Ne.symm h)]
theorem told_at {row : Nat} {b : Bool} (h : row < m.rows.length) : (m.told row b).rows[row]? = some { m.rows.getD row r0 with cl := (m.rows.getD row r0).cl ++ [b] } := by simp [Mc.told, h]
theorem endRow_at {row : Nat} {st kind v : Int} (h : row < m.rows.length) : (endRow m row st kind v)[row]? = some { m.rows.getD row r0 with kind := kind, v := v, steps := st } := by simp [endRow, h]
/-- of rows that were there, only its own turns -/
theorem goes_keep (hA : Accs P) (hN : ∀ g ∈ P, InI g.needs) {r : Res} (hG : Goes P F t m r) : ∀ {m' : Mc}, r = .ok m' → Inv P t m → ∀ j, j < m.rows.length → j ≠ t.row → m'.rows[j]? = m.rows[j]? := by
  induction hG with
  | fin h =>
    intro m' e hI j hj hne; cases e
    obtain ⟨st, kind, v, e, _⟩ := fin_how hA hI h
    rw [e, endRow_ne hne]
  | bad h => intro m' e; cases e
  | go h hg ih =>
    intro m' e hI j hj hne
    obtain ⟨hr, _⟩ := go_how hA hI h
    have hl := stp_go h
    rw [ih e (inv_go hA hI h).1 j (by rcases hr with hr | ⟨b, hr, _⟩ <;> rw [hr]; exact hj; rw [told_len']; exact hj) (by rw [hl.2.2.1]; exact hne)]
    rcases hr with hr | ⟨b, hr, _⟩ <;> rw [hr]
    exact told_ne hne
  | forkBad h _ ih => intro m' e; cases e
  | fork h h1 h2 ih1 ih2 =>
    intro m' e hI j hj hne
    obtain ⟨k1, k2⟩ := inv_child hA hN hI h
    obtain ⟨k3, k4⟩ := goes_more hA hN h1 rfl k1
    obtain ⟨k5, k6⟩ := inv_forked hA hI h k3 k4
    obtain ⟨_, _, _, _, _, hc, hrows⟩ := stp_fork h
    rw [ih2 e k5 j (Nat.lt_of_lt_of_le hj k6.1) hne, ih1 rfl k1 j (by rw [hrows]; simp; omega) (by rw [hc]; dsimp only; omega), hrows, List.getElem?_append_left hj]
/-- every new row ends -/
theorem goes_ends (hA : Accs P) (hN : ∀ g ∈ P, InI g.needs) {r : Res} (hG : Goes P F t m r) : ∀ {m' : Mc}, r = .ok m' → Inv P t m → ∀ j, m.rows.length ≤ j → j < m'.rows.length → Ended m'.rows j := by
  induction hG with
  | fin h =>
    intro m' e hI j hj hlt; cases e
    obtain ⟨st, kind, v, e, _⟩ := fin_how hA hI h
    rw [e, endRow_len] at hlt; omega
  | bad h => intro m' e; cases e
  | go h hg ih =>
    intro m' e hI j hj hlt
    obtain ⟨hr, _⟩ := go_how hA hI h
    exact ih e (inv_go hA hI h).1 j (by rcases hr with hr | ⟨b, hr, _⟩ <;> rw [hr]; exact hj; rw [told_len']; exact hj) hlt
  | forkBad h _ ih => intro m' e; cases e
  | fork h h1 h2 ih1 ih2 =>
    rename_i t m c m1 i m2 r
    intro m' e hI j hj hlt
    obtain ⟨k1, k2⟩ := inv_child hA hN hI h
    obtain ⟨k3, k4⟩ := goes_more hA hN h1 rfl k1
    obtain ⟨k5, k6⟩ := inv_forked hA hI h k3 k4
    obtain ⟨_, _, _, _, _, hc, hrows⟩ := stp_fork h
    have hm := goes_more hA hN h2 e k5
    by_cases hj2 : m2.rows.length ≤ j
    · exact ih2 e k5 j hj2 hlt
    · refine hm.1.2 j ?_
      by_cases hj1 : j = m.rows.length
      · rw [hc] at k4; rw [hj1]; exact k4
      · exact ih1 rfl k1 j (by rw [hrows]; simp; omega) (by omega)
/-- whose they are -/
def Par (rows : List Rw) (b : Nat) (lo : Int) : Prop := ∀ j r, b ≤ j → rows[j]? = some r → lo ≤ r.par ∧ r.par < j
theorem Par.end {row b : Nat} {lo st kind v : Int} (h : Par m.rows b lo) (hr : row < m.rows.length) : Par (endRow m row st kind v) b lo := by
  intro j r hj hjr
  by_cases e : j = row
  · subst e; rw [endRow_at hr] at hjr; cases hjr; exact (h j (m.rows.getD j r0) hj (row_at hr) :)
  · rw [endRow_ne e] at hjr; exact h j r hj hjr
theorem Par.told {row b : Nat} {lo : Int} {x : Bool} (h : Par m.rows b lo) (hr : row < m.rows.length) : Par (m.told row x).rows b lo := by
  intro j r hj hjr
  by_cases e : j = row
  · subst e; rw [told_at hr] at hjr; cases hjr; exact (h j (m.rows.getD j r0) hj (row_at hr) :)
  · rw [told_ne e] at hjr; exact h j r hj hjr
theorem goes_par (hA : Accs P) (hN : ∀ g ∈ P, InI g.needs) {b : Nat} {lo : Int} {r : Res} (hG : Goes P F t m r) : ∀ {m' : Mc}, r = .ok m' → Inv P t m → Par m.rows b lo → lo ≤ t.row → Par m'.rows b lo := by
  induction hG with
  | fin h =>
    intro m' e hI hp hlo; cases e
    obtain ⟨st, kind, v, e, _⟩ := fin_how hA hI h
    rw [e]; exact hp.end hI.row
  | bad h => intro m' e; cases e
  | go h hg ih =>
    intro m' e hI hp hlo
    obtain ⟨hr, _⟩ := go_how hA hI h
    refine ih e (inv_go hA hI h).1 ?_ (by rw [(stp_go h).2.2.1]; exact hlo)
    rcases hr with hr | ⟨b, hr, _⟩ <;> rw [hr]
    · exact hp
    · exact hp.told hI.row
  | forkBad h _ ih => intro m' e; cases e
  | fork h h1 h2 ih1 ih2 =>
    rename_i t m c m1 i m2 r
    intro m' e hI hp hlo
    obtain ⟨k1, k2⟩ := inv_child hA hN hI h
    obtain ⟨k3, k4⟩ := goes_more hA hN h1 rfl k1
    obtain ⟨k5, k6⟩ := inv_forked hA hI h k3 k4
    obtain ⟨_, _, _, _, _, hc, hrows⟩ := stp_fork h
    have hrow := hI.row
    refine ih2 e k5 (ih1 rfl k1 ?_ (by rw [hc]; dsimp only; omega)) hlo
    intro j r hj hjr
    rw [hrows] at hjr
    by_cases q : j < m.rows.length
    · rw [List.getElem?_append_left q] at hjr; exact hp j r hj hjr
    · rw [List.getElem?_append_right (by omega)] at hjr
      have hj0 : j = m.rows.length := by
        have := (List.getElem?_eq_some_iff.1 hjr).1
        simp at this; omega
      subst hj0
      simp at hjr
      subst hjr
      exact ⟨hlo, by dsimp only; omega⟩
/-! ### the sum -/
def sumR (rows : List Rw) : Int := (rows.map Rw.steps).sum
theorem sum_set : ∀ {l : List Rw} {i : Nat} {r : Rw}, i < l.length → sumR (l.set i r) = sumR l - (l.getD i r0).steps + r.steps
  | [], i, r, h => by simp at h
  | x :: l, 0, r, h => by simp [sumR]; omega
  | x :: l, i + 1, r, h => by
    have := sum_set (l := l) (i := i) (r := r) (by simpa using h)
    simp only [sumR, List.set_cons_succ, List.map_cons, List.sum_cons, List.getD_cons_succ] at this ⊢
    omega
theorem sum_told {row : Nat} {b : Bool} (h : row < m.rows.length) : sumR (m.told row b).rows = sumR m.rows := by
  unfold Mc.told
  dsimp only
  rw [sum_set h]; dsimp only; omega
theorem goes_sum (hA : Accs P) (hN : ∀ g ∈ P, InI g.needs) {r : Res} (hG : Goes P F t m r) : ∀ {m' : Mc}, r = .ok m' → Inv P t m → (m.rows.getD t.row r0).steps = 0 → 0 ≤ t.f.getD 18 0 → t.f.getD 18 0 ≤ m.steps → m.steps ≤ F → F ≤ 1048576 → sumR m'.rows = sumR m.rows + t.f.getD 18 0 + (m'.steps - m.steps) := by
  induction hG with
  | fin h =>
    intro m' e hI h0 h1 h2 h3 h4; cases e
    obtain ⟨st, kind, v, e, hh⟩ := fin_how hA hI h
    rw [e]
    unfold endRow
    rw [sum_set hI.row, h0]
    rcases hh with ⟨_, _, _, e1, e2⟩ | ⟨_, _, e1, e2⟩
    · rw [e1, e2]; dsimp only; omega
    · rw [e1, e2, wrap_id ⟨by omega, by omega⟩]; dsimp only; omega
  | bad h => intro m' e; cases e
  | go h hg ih =>
    intro m' e hI h0 h1 h2 h3 h4
    obtain ⟨hr, hs, _⟩ := go_how hA hI h
    obtain ⟨g1, g2, g3, _⟩ := stp_go h
    rw [wrap_id ⟨by omega, by omega⟩] at hs
    rcases hr with hr | ⟨b, hr, _⟩
    · have := ih e (inv_go hA hI h).1 (by rw [hr, g3]; exact h0) (by rw [hs]; omega) (by rw [hs]; omega) (by omega) h4
      rw [hr, hs] at this; omega
    · have hst := sum_told (b := b) hI.row
      have := ih e (inv_go hA hI h).1 (by rw [hr, g3, List.getD_eq_getElem?_getD, told_at hI.row]; exact h0) (by rw [hs]; omega) (by rw [hs]; omega) (by omega) h4
      rw [hr, hst, hs] at this; omega
  | forkBad h _ ih => intro m' e; cases e
  | fork h h1 h2 ih1 ih2 =>
    rename_i t m c m1 i m2 r
    intro m' e hI h0 hs1 hs2 hs3 hs4
    obtain ⟨g, hv, ha⟩ := hI.at hA
    obtain ⟨hp0, hp1⟩ := at_pc ha
    obtain ⟨k1, k2⟩ := inv_child hA hN hI h
    obtain ⟨k3, k4⟩ := goes_more hA hN h1 rfl k1
    obtain ⟨k5, k6⟩ := inv_forked hA hI h k3 k4
    have hkp := goes_keep hA hN h1 rfl k1
    obtain ⟨q1, q2, q3, q4, _, hc, hrows⟩ := stp_fork h
    have hrow := hI.row
    have hcf : c.f.getD 18 0 = 0 := by rw [hc]; exact (child_get hI.len).2.2.2.1
    have hcr : c.row = m.rows.length := by rw [hc]
    have hst : sumR m1.rows = sumR m.rows := by rw [hrows]; simp [sumR]
    have a1 := ih1 rfl k1 (by rw [hrows, hcr]; simp [List.getD_eq_getElem?_getD]) (by omega) (by omega) (by omega) hs4
    subst q3
    have hf4 := (forked_get (id := (c.row : Int)) ha.chk q4 hI.len hp0 hp1).2.2.2.1
    rw [wrap_id ⟨by omega, by omega⟩] at hf4
    have hle := h1.le rfl
    have a2 := ih2 e k5 (by
      rw [List.getD_eq_getElem?_getD]
      show (m2.rows[t.row]?.getD r0).steps = 0
      rw [hkp t.row (by rw [hrows]; simp; omega) (by omega), hrows, List.getElem?_append_left hrow, ← List.getD_eq_getElem?_getD]; exact h0) (by dsimp only; rw [hf4]; omega) (by dsimp only; rw [hf4]; omega) (hle.2 (by omega)) hs4
    dsimp only at a2
    rw [hf4] at a2
    omega
/-! ### fuel -/
theorem stp_same {F' : Int} (h : m.steps ≥ F ↔ m.steps ≥ F') : stp P F t m = stp P F' t m := by
  unfold stp
  simp only [h]
theorem goes_enough {F' : Int} {r : Res} (hG : Goes P F t m r) : ∀ {m' : Mc}, r = .ok m' → m'.steps ≤ F' → Goes P F' t m (.ok m') := by
  induction hG with
  | fin h =>
    intro m' e hle; cases e
    have h0 := h
    unfold stp at h
    split at h
    · rename_i hb
      refine .fin ?_
      unfold stp
      rw [if_pos hb]; exact h
    · split at h
      · cases h
      · split at h
        · cases h
        · split at h
          · cases h
          · have := act_steps.1 _ h
            dsimp only at this
            refine .fin ((stp_same ?_).symm.trans h0)
            constructor <;> intro q <;> omega
  | bad h => intro m' e; cases e
  | go h hg ih =>
    intro m' e hle
    have hs := stp_go h
    subst e
    have := hg.le rfl
    exact .go ((stp_same (by constructor <;> intro q <;> omega)).symm.trans h) (ih rfl hle)
  | forkBad h _ ih => intro m' e; cases e
  | fork h h1 h2 ih1 ih2 =>
    intro m' e hle
    have hs := stp_fork h
    subst e
    have a1 := h1.le rfl
    have a2 := h2.le rfl
    exact .fork ((stp_same (by constructor <;> intro q <;> omega)).symm.trans h) (ih1 rfl (by omega)) (ih2 rfl hle)
theorem stp_out {F' : Int} (hne : t.off = false ∨ ¬ (t.off && ((t.f.getD 18 0 == 0) || isPt ((insAt P t.f).getD 0 0))) = true) (h : m.steps ≥ F') : stp P F' t m = .bad 22 := by
  have : ¬ (t.off && ((t.f.getD 18 0 == 0) || isPt ((insAt P t.f).getD 0 0))) = true := by
    rcases hne with q | q
    · rw [q]; simp
    · exact q
  unfold stp
  rw [if_neg this, if_pos h]
theorem stp_not {s : Stp} (h : stp P F t m = s) (hs : ∀ m', s ≠ .fin m') : ¬ (t.off && ((t.f.getD 18 0 == 0) || isPt ((insAt P t.f).getD 0 0))) = true := by
  intro q
  unfold stp at h
  rw [if_pos q] at h
  exact hs _ h.symm
theorem goes_short {F' : Int} {r : Res} (hG : Goes P F t m r) : ∀ {m' : Mc}, r = .ok m' → m.steps ≤ F' → F' < m'.steps → Goes P F' t m (.bad 22) := by
  induction hG with
  | fin h =>
    intro m' e hle hlt; cases e
    unfold stp at h
    split at h
    · cases h; exfalso; revert hlt; show ¬ (F' < Mc.steps _); dsimp only [Mc.fin]; omega
    · rename_i hb
      split at h
      · cases h
      · split at h
        · cases h
        · split at h
          · cases h
          · have := act_steps.1 _ h
            dsimp only at this
            exact .bad (stp_out (.inr hb) (by omega))
  | bad h => intro m' e; cases e
  | go h hg ih =>
    intro m' e hle hlt
    have hs := stp_go h
    rename_i t m t' m2 r
    by_cases q : m.steps ≥ F'
    · exact .bad (stp_out (.inr (stp_not h (by intro _ q; cases q))) q)
    · exact .go ((stp_same (by constructor <;> intro q <;> omega)).symm.trans h) (ih e (by omega) hlt)
  | forkBad h _ ih => intro m' e; cases e
  | fork h h1 h2 ih1 ih2 =>
    intro m' e hle hlt
    have hs := stp_fork h
    rename_i t m c m1 i m2 r
    by_cases q : m.steps ≥ F'
    · exact .bad (stp_out (.inr (stp_not h (by intro _ q; cases q))) q)
    · have hst := (stp_same (P := P) (F := F) (F' := F') (t := t) (m := m) (by constructor <;> intro q <;> omega)).symm.trans h
      have a1 := h1.le rfl
      by_cases q2 : F' < m2.steps
      · exact .forkBad hst (ih1 rfl (by omega) q2)
      · exact .fork hst (goes_enough h1 rfl (by omega)) (ih2 e (by omega) hlt)
theorem goes_deep {F' : Int} {r : Res} (hG : Goes P F t m r) (hF : F ≤ F') : r = .bad 23 → Goes P F' t m (.bad 23) := by
  have key : ∀ {t : Tk} {m : Mc} {s : Stp}, stp P F t m = s → (∀ m', s ≠ .fin m') → s ≠ .bad 22 → stp P F' t m = s := by
    intro t m s h hs h2
    have hn := stp_not h hs
    have hlt : ¬ m.steps ≥ F := fun q => by
      have := stp_out (P := P) (.inr hn) q
      rw [this] at h; exact h2 h.symm
    exact (stp_same (by constructor <;> intro q <;> omega)).symm.trans h
  induction hG with
  | fin h => intro e; cases e
  | bad h => intro e; cases e; exact .bad (key h (by intro _ q; cases q) (by intro q; cases q))
  | go h hg ih => intro e; exact .go (key h (by intro _ q; cases q) (by intro q; cases q)) (ih e)
  | forkBad h hg ih => intro e; cases e; exact .forkBad (key h (by intro _ q; cases q) (by intro q; cases q)) (ih rfl)
  | fork h h1 h2 ih1 ih2 => 
    intro e
    have hs := stp_fork h
    have a1 := h1.le rfl
    exact .fork (key h (by intro _ q; cases q) (by intro q; cases q)) (goes_enough h1 rfl (by have := a1.2 (by omega); omega)) (ih2 e)
theorem goes_some (hoff : t.off = false) {m' : Mc} (hG : Goes P F t m (.ok m')) : m.steps < m'.steps := by
  generalize hr : Res.ok m' = r at hG
  cases hG with
  | fin h =>
    cases hr
    have := stp_fin h
    unfold stp at h
    rw [hoff] at h
    rw [if_neg (by simp)] at h
    split at h
    · cases h
    · split at h
      · cases h
      · split at h
        · cases h
        · have := act_steps.1 _ h; dsimp only at this; omega
  | bad h => cases hr
  | go h hg => have a := stp_go h; subst hr; have b := hg.le rfl; omega
  | forkBad h hg => cases hr
  | fork h h1 h2 => have a := stp_fork h; subst hr; have b := h1.le rfl; have c := h2.le rfl; omega
end
end Go.Proofs.Ytgkfbagclkjilaa
