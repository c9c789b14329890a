/-
  Layer 6, in plain terms: the same task, with its rows elsewhere.
-/
import Derived.Test.YtgkfbagclkjilaaSm
set_option linter.unusedSimpArgs false
set_option linter.unusedVariables false
set_option maxRecDepth 100000
namespace Go.Proofs.Ytgkfbagclkjilaa
open Go Go.Ev Go.Proofs
open Go.Proofs.Ytgkfbagclkjilaa.Fr (fTo fOn fPlain fForked fJoined fClosed fChild fRoot fR isB fTo_len fOn_len fPlain_len fForked_len fJoined_len fClosed_len)
open Go.Proofs.Ytgkfbagclkjilaa.Ck (opI Walk Accs needsOf isGoes heldL depths stepD handlesOk subBits scopesOk forks)

def sh (b d : Nat) (x : Int) : Int := if (b : Int) ≤ x then x + d else x
/-- a frame whose handles are elsewhere -/
def shF (b d : Nat) (f : List Int) : List Int := f.mapIdx fun j x => if 10 ≤ j ∧ j < 18 then sh b d x else x
section
variable {b d : Nat} {f : List Int}
theorem shF_len : (shF b d f).length = f.length := by simp [shF]
theorem shF_set {i : Nat} {v : Int} : shF b d (f.set i v) = (shF b d f).set i (if 10 ≤ i ∧ i < 18 then sh b d v else v) := by
  apply List.ext_getElem?
  intro j
  by_cases e : i = j
  · subst e
    by_cases hl : i < f.length
    · simp [shF, List.getElem?_mapIdx, hl]
    · simp [shF, List.getElem?_mapIdx, hl]
  · simp [shF, List.getElem?_mapIdx, List.getElem?_set_ne e]
theorem shF_low {j : Nat} (h : ¬ (10 ≤ j ∧ j < 18)) : (shF b d f).getD j 0 = f.getD j 0 := by
  simp only [shF, List.getD_eq_getElem?_getD, List.getElem?_mapIdx]
  cases f[j]? with
  | none => rfl
  | some x => simp only [Option.map_some, Option.getD_some]; rw [if_neg h]
theorem shF_hi {j : Nat} (h : 10 ≤ j ∧ j < 18) (hl : j < f.length) : (shF b d f).getD j 0 = sh b d (f.getD j 0) := by
  simp only [shF, List.getD_eq_getElem?_getD, List.getElem?_mapIdx, List.getElem?_eq_getElem hl, Option.map_some, Option.getD_some]
  rw [if_pos h]
theorem shF_to {pc : Int} : shF b d (fTo f pc) = fTo (shF b d f) pc := by
  unfold Fr.fTo
  rw [shF_set, shF_set, if_neg (by omega), if_neg (by omega)]
  have e : ((shF b d f).set 1 pc).getD 18 0 = (f.set 1 pc).getD 18 0 := by
    rw [set_get (by omega), set_get (by omega), shF_low (by omega)]
  rw [e]
theorem shF_on : shF b d (fOn f) = fOn (shF b d f) := by
  unfold Fr.fOn
  rw [shF_to, shF_low (by omega)]
theorem shF_reg {r : Int} {v : Int} (h0 : 0 ≤ r) (h1 : r < 8) : shF b d (f.set (2 + r.toNat) v) = (shF b d f).set (2 + r.toNat) v := by rw [shF_set, if_neg (by omega)]
theorem shF_R {r : Int} (h0 : 0 ≤ r) (h1 : r < 8) : fR (shF b d f) r = fR f r := by unfold Fr.fR; exact shF_low (by omega)
theorem shF_plain {i : List Int} : fPlain (shF b d f) i = (shF b d (fPlain f i).1, (fPlain f i).2) := by
  unfold Fr.fPlain
  by_cases hc : Fr.chk i = 0
  · obtain ⟨⟨a0, a1⟩, ⟨b0, b1⟩, c0, c1⟩ := Fr.chk_regs hc
    have hn : ¬ Fr.chk i ≠ 0 := fun q => q hc
    have es : Fr.sumV (shF b d f) i = Fr.sumV f i := by unfold Fr.sumV; rw [shF_R b0 b1, shF_R c0 c1]
    simp only [if_neg hn, shF_R a0 a1, es]
    split
    · simp only [shF_to]
    · split
      · simp only [shF_on]
      · split
        · rfl
        · simp only [shF_on, shF_reg a0 a1]
  · rw [if_pos hc, if_pos hc]
theorem shF_joined {i : List Int} {kind v : Int} (hc : Fr.chk i = 0) : fJoined (shF b d f) i kind v = (shF b d (fJoined f i kind v).1, (fJoined f i kind v).2) := by
  obtain ⟨⟨a0, a1⟩, ⟨b0, b1⟩, c0, c1⟩ := Fr.chk_regs hc
  unfold Fr.fJoined
  split
  · rfl
  · split
    · simp only [shF_on, shF_reg a0 a1, shF_reg b0 b1]
    · split
      · simp only [shF_on, shF_reg a0 a1]
      · simp only [shF_to, shF_low (show ¬ (10 ≤ 1 ∧ 1 < 18) by omega)]
theorem shF_closed {i : List Int} {x : Bool} (hc : Fr.chk i = 0) : fClosed (shF b d f) i x = shF b d (fClosed f i x) := by
  obtain ⟨⟨a0, a1⟩, _⟩ := Fr.chk_regs hc
  unfold Fr.fClosed
  split
  · rw [shF_on, shF_reg a0 a1]
  · rfl
theorem shF_forked {i : List Int} {id : Int} (hc : Fr.chk i = 0) : fForked (shF b d f) i (sh b d id) = shF b d (fForked f i id) := by
  obtain ⟨⟨a0, a1⟩, _⟩ := Fr.chk_regs hc
  unfold Fr.fForked
  split
  · rw [shF_on, shF_set, if_pos (by omega)]
  · rfl
theorem sh_neg : sh b d (-1) = -1 := by unfold sh; rw [if_neg (by omega)]
theorem shF_child {n needs : Int} (hf : f.length = 19) : fChild (shF b d f) n needs = shF b d (fChild f n needs) := by
  have hl : (shF b d f).length = 19 := by rw [shF_len, hf]
  obtain ⟨p1, p2, p3, p4, p5⟩ := child_get (f := f) (n := n) (needs := needs) hf
  obtain ⟨q1, q2, q3, q4, q5⟩ := child_get (f := shF b d f) (n := n) (needs := needs) hl
  apply List.ext_getElem?
  intro j
  by_cases hj : j < 19
  · have e1 : ∀ l : List Int, l.length = 19 → l[j]? = some (l.getD j 0) := fun l hl => by simp [List.getD_eq_getElem?_getD, hl, hj]
    rw [e1 _ q1, e1 _ (by rw [shF_len, p1])]
    congr 1
    by_cases hh : 10 ≤ j ∧ j < 18
    · obtain ⟨k, rfl⟩ : ∃ k, j = 10 + k := ⟨j - 10, by omega⟩
      rw [q5 k (by omega), shF_hi (f := f) hh (by omega), shF_hi (f := fChild f n needs) hh (by omega), p5 k (by omega)]
      split
      · rfl
      · rw [sh_neg]
    · rw [shF_low hh]
      by_cases h0 : j = 0
      · subst h0; rw [q2, p2]
      by_cases h1 : j = 1
      · subst h1; rw [q3, p3]
      by_cases h18 : j = 18
      · subst h18; rw [q4, p4]
      · have hr : 2 ≤ j ∧ j < 10 := by omega
        have er : ∀ g : List Int, g.length = 19 → (fChild g n needs).getD j 0 = g.getD j 0 := by
          intro g hg
          obtain ⟨x0, x1, x2, x3, x4, x5, x6, x7, x8, x9, x10, x11, x12, x13, x14, x15, x16, x17, x18, rfl⟩ := Fr.list19 hg
          obtain ⟨a, b⟩ := hr
          have : j = 2 ∨ j = 3 ∨ j = 4 ∨ j = 5 ∨ j = 6 ∨ j = 7 ∨ j = 8 ∨ j = 9 := by omega
          rcases this with rfl | rfl | rfl | rfl | rfl | rfl | rfl | rfl <;> rfl
        rw [er _ hl, er _ hf, shF_low hh]
  · rw [List.getElem?_eq_none (by omega), List.getElem?_eq_none (by rw [shF_len, p1]; omega)]
end
/-- a row that is elsewhere -/
structure RwR (e : Bool) (b d j : Nat) (x y : Rw) : Prop where
  par : y.par = sh b d x.par
  inn : y.inn = x.inn ∨ (e = true ∧ j = b)
  fn : y.fn = x.fn
  kind : y.kind = x.kind
  v : y.v = x.v
  steps : y.steps = x.steps
  cl : y.cl = x.cl
structure McR (e : Bool) (b d : Nat) (m n : Mc) : Prop where
  len : n.rows.length = m.rows.length + d
  row : ∀ j, b ≤ j → j < m.rows.length → RwR e b d j (m.rows.getD j r0) (n.rows.getD (j + d) r0)
structure TkR (b d : Nat) (t u : Tk) : Prop where
  f : u.f = shF b d t.f
  row : u.row = t.row + d
  low : b ≤ t.row
  sc : u.sc = t.sc
  op : u.opened = t.opened
  off : u.off = t.off
  lo : ∀ h : Nat, h < 8 → t.f.getD (10 + h) 0 = -1 ∨ (b : Int) ≤ t.f.getD (10 + h) 0
section
variable {e : Bool} {b d : Nat} {P : List FnR} {F : Int} {t u : Tk} {m n : Mc}
theorem getD_set {l : List Rw} {i j : Nat} {r : Rw} (h : i < l.length) : (l.set i r).getD j r0 = if j = i then r else l.getD j r0 := by
  split
  · rename_i q; subst q; simp [List.getD_eq_getElem?_getD, h]
  · rename_i q; simp [List.getD_eq_getElem?_getD, List.getElem?_set_ne (Ne.symm q)]
theorem McR.fin {row : Nat} {kind v : Int} {f g : List Int} {s1 s2 : Int} (h : McR e b d m n) (hr : row < m.rows.length) (hb : b ≤ row) (hs : g.getD 18 0 = f.getD 18 0) : McR e b d ({ m with steps := s1 } |>.fin row f kind v) ({ n with steps := s2 } |>.fin (row + d) g kind v) := by
  refine ⟨by simp [Mc.fin, h.len], fun j hj hl => ?_⟩
  have hl' : j < m.rows.length := by simpa [Mc.fin] using hl
  unfold Mc.fin
  dsimp only
  rw [getD_set hr, getD_set (by rw [h.len]; omega)]
  have hr' := h.row row hb hr
  by_cases q : j = row
  · rw [if_pos q, if_pos (by omega)]
    subst q
    exact ⟨hr'.par, hr'.inn, hr'.fn, rfl, rfl, hs, hr'.cl⟩
  · rw [if_neg q, if_neg (by omega)]
    exact h.row j hj hl'
theorem McR.told {row : Nat} {x : Bool} {s1 s2 : Int} (h : McR e b d m n) (hr : row < m.rows.length) (hb : b ≤ row) : McR e b d ({ m with steps := s1 } |>.told row x) ({ n with steps := s2 } |>.told (row + d) x) := by
  refine ⟨by simp [Mc.told, h.len], fun j hj hl => ?_⟩
  have hl' : j < m.rows.length := by simpa [Mc.told] using hl
  unfold Mc.told
  dsimp only
  rw [getD_set hr, getD_set (by rw [h.len]; omega)]
  have hr' := h.row row hb hr
  by_cases q : j = row
  · rw [if_pos q, if_pos (by omega)]
    subst q
    exact ⟨hr'.par, hr'.inn, hr'.fn, hr'.kind, hr'.v, hr'.steps, by dsimp only; rw [hr'.cl]⟩
  · rw [if_neg q, if_neg (by omega)]
    exact h.row j hj hl'
theorem insAt_sh {f : List Int} : insAt P (shF b d f) = insAt P f := by unfold insAt; rw [shF_low (by omega), shF_low (by omega)]
def StR (e : Bool) (b d : Nat) (s s' : Stp) : Prop := match s, s' with
  | .fin m, .fin n => McR e b d m n
  | .go t m, .go u n => TkR b d t u ∧ McR e b d m n
  | .fork c m i, .fork c' n i' => i' = i ∧ TkR b d c c' ∧ McR e b d m n
  | _, _ => False
theorem act_rel (hA : Accs P) (hI : Inv P t m) (hT : TkR b d t u) (hM : McR e b d m n) {s1 s2 : Int} (hop : 8 ≤ (insAt P t.f).getD 0 0) (hop2 : (insAt P t.f).getD 0 0 ≤ 16) : StR e b d (act P (insAt P t.f) t { m with steps := s1 }) (act P (insAt P t.f) u { n with steps := s2 }) := by
  obtain ⟨g, hv, ha⟩ := hI.at hA
  obtain ⟨hp0, hp1⟩ := at_pc ha
  have hfc := chk_fr ha.chk
  have hlen := hI.len
  have hM' : McR e b d { m with steps := s1 } { n with steps := s2 } := ⟨hM.len, hM.row⟩
  unfold act
  split
  · rename_i h8
    refine ⟨rfl, ⟨?_, ?_, ?_, rfl, rfl, ?_, fun h hh => ?_⟩, ⟨?_, fun j hj hl => ?_⟩⟩
    · rw [hT.f, shF_child hlen]
    · exact hM.len
    · have := hT.low; have := hI.row; dsimp only; omega
    · dsimp only; rw [hT.off, hT.sc]
    · dsimp only
      rw [(child_get hlen).2.2.2.2 h hh]
      split
      · exact hT.lo h hh
      · exact .inl rfl
    · simp [hM.len]; omega
    · dsimp only at hl ⊢
      simp only [List.length_append, List.length_cons, List.length_nil] at hl
      by_cases q : j < m.rows.length
      · have := hM.row j hj q
        have e1 : (m.rows ++ [(⟨t.row, (t.sc.headD (false, 0)).2, (insAt P t.f).getD 4 0, 0, 0, 0, []⟩ : Rw)]).getD j r0 = m.rows.getD j r0 := by simp only [List.getD_eq_getElem?_getD]; rw [List.getElem?_append_left q]
        have e2 : (n.rows ++ [(⟨u.row, (u.sc.headD (false, 0)).2, (insAt P t.f).getD 4 0, 0, 0, 0, []⟩ : Rw)]).getD (j + d) r0 = n.rows.getD (j + d) r0 := by simp only [List.getD_eq_getElem?_getD]; rw [List.getElem?_append_left (by rw [hM.len]; omega)]
        rw [e1, e2]; exact this
      · have hj : j = m.rows.length := by omega
        subst hj
        have e1 : (m.rows ++ [(⟨t.row, (t.sc.headD (false, 0)).2, (insAt P t.f).getD 4 0, 0, 0, 0, []⟩ : Rw)]).getD m.rows.length r0 = ⟨t.row, (t.sc.headD (false, 0)).2, (insAt P t.f).getD 4 0, 0, 0, 0, []⟩ := by simp [List.getD_eq_getElem?_getD]
        have e2 : (n.rows ++ [(⟨u.row, (u.sc.headD (false, 0)).2, (insAt P t.f).getD 4 0, 0, 0, 0, []⟩ : Rw)]).getD (m.rows.length + d) r0 = ⟨u.row, (u.sc.headD (false, 0)).2, (insAt P t.f).getD 4 0, 0, 0, 0, []⟩ := by rw [← hM.len]; simp [List.getD_eq_getElem?_getD]
        rw [e1, e2]
        have hlow := hT.low
        exact ⟨by dsimp only; rw [hT.row]; unfold sh; rw [if_pos (by omega)]; simp, .inl (by dsimp only; rw [hT.sc]), rfl, rfl, rfl, rfl, rfl⟩
  split
  · rename_i h8 h910
    obtain ⟨j0, j1, j2, r, hr, hk⟩ := at_join ha h910
    have hjl := (List.getElem?_eq_some_iff.1 hr).1
    have hb : (b : Int) ≤ t.f.getD (10 + (hOf (insAt P t.f)).toNat) 0 := by
      rcases hT.lo (hOf (insAt P t.f)).toNat (by omega) with q | q
      · omega
      · exact q
    have e1 : (rOf (insAt P t.f) u { n with steps := s2 }).kind = (rOf (insAt P t.f) t { m with steps := s1 }).kind ∧ (rOf (insAt P t.f) u { n with steps := s2 }).v = (rOf (insAt P t.f) t { m with steps := s1 }).v := by
      unfold rOf
      rw [hT.f, shF_hi (by omega) (by omega)]
      have := hM.row _ (by omega) hjl
      have es : (sh b d (t.f.getD (10 + (hOf (insAt P t.f)).toNat) 0)).toNat = (t.f.getD (10 + (hOf (insAt P t.f)).toNat) 0).toNat + d := by unfold sh; rw [if_pos hb]; omega
      rw [es]
      exact ⟨this.kind, this.v⟩
    rw [e1.1, e1.2, hT.f, shF_joined hfc]
    split
    · rw [hT.row]
      exact hM'.fin hI.row hT.low (shF_low (by omega))
    · rename_i hbad
      have hkk : rOf (insAt P t.f) t { m with steps := s1 } = r := by unfold rOf; rw [List.getD_eq_getElem?_getD]; dsimp only; rw [hr]; rfl
      have k := joined_keep (f := t.f) (kind := (rOf (insAt P t.f) t { m with steps := s1 }).kind) (v := (rOf (insAt P t.f) t { m with steps := s1 }).v) ha.chk hI.len hp0 hp1 h910 (by rw [hkk]; exact hk) (by simpa using hbad)
      exact ⟨⟨rfl, hT.row, hT.low, hT.sc, hT.op, hT.off, fun h hh => by dsimp only; rw [k.hs h hh]; exact hT.lo h hh⟩, hM'⟩
  have kon := kp_on hlen hp0 hp1
  split
  · exact ⟨⟨by dsimp only; rw [hT.f, shF_on], hT.row, hT.low, by dsimp only; rw [hT.sc, hT.op], by dsimp only; rw [hT.op], hT.off, fun h hh => by dsimp only; rw [kon.hs h hh]; exact hT.lo h hh⟩, hM'⟩
  split
  · rename_i h12
    have k := closed_keep (b := (t.sc.headD (false, 0)).1) ha.chk hlen hp0 hp1 h12
    refine ⟨⟨by dsimp only; rw [hT.f, hT.sc, shF_closed hfc], hT.row, hT.low, by dsimp only; rw [hT.sc], hT.op, hT.off, fun h hh => by dsimp only; rw [k.hs h hh]; exact hT.lo h hh⟩, ?_⟩
    rw [hT.sc, hT.row]
    exact hM'.told hI.row hT.low
  split
  · exact ⟨⟨by dsimp only; rw [hT.f, shF_on], hT.row, hT.low, by dsimp only; rw [hT.sc], hT.op, hT.off, fun h hh => by dsimp only; rw [kon.hs h hh]; exact hT.lo h hh⟩, hM'⟩
  split
  · exact ⟨⟨by dsimp only; rw [hT.f, shF_on], hT.row, hT.low, hT.sc, hT.op, hT.off, fun h hh => by dsimp only; rw [kon.hs h hh]; exact hT.lo h hh⟩, hM'⟩
  · have hr := Fr.chk_regs hfc
    have e1 : fR (fOn u.f) ((insAt P t.f).getD 1 0) = fR (fOn t.f) ((insAt P t.f).getD 1 0) := by rw [hT.f, ← shF_on, shF_R hr.1.1 hr.1.2]
    rw [e1, hT.row]
    exact hM'.fin hI.row hT.low (by rw [hT.f, ← shF_on, shF_low (by omega)])
theorem stp_rel (hA : Accs P) (hI : Inv P t m) (hT : TkR b d t u) (hM : McR e b d m n) {s s' : Stp} (h : stp P F t m = s) (h' : stp P F u n = s') (hs : ∀ e, s ≠ .bad e) (hs' : ∀ e, s' ≠ .bad e) : StR e b d s s' := by
  obtain ⟨g, hv, ha⟩ := hI.at hA
  obtain ⟨hp0, hp1⟩ := at_pc ha
  have ei : insAt P u.f = insAt P t.f := by rw [hT.f, insAt_sh]
  have e18 : u.f.getD 18 0 = t.f.getD 18 0 := by rw [hT.f, shF_low (by omega)]
  unfold stp at h h'
  rw [hT.off, e18, ei] at h'
  split at h
  · rename_i hc
    rw [if_pos hc] at h'
    subst h; subst h'
    have : McR e b d ({ m with steps := m.steps }.fin t.row t.f 4 0) ({ n with steps := n.steps }.fin (t.row + d) u.f 4 0) := hM.fin hI.row hT.low e18
    rw [hT.row]; exact this
  · rename_i hc
    rw [if_neg hc] at h'
    split at h
    · exact (hs _ h.symm).elim
    split at h'
    · exact (hs' _ h'.symm).elim
    split at h
    · exact (hs _ h.symm).elim
    split at h'
    · exact (hs' _ h'.symm).elim
    rw [hT.f, shF_plain] at h'
    split at h
    · rename_i hp
      rw [if_pos hp] at h'
      subst h; subst h'
      refine ⟨⟨rfl, hT.row, hT.low, hT.sc, hT.op, rfl, fun h hh => ?_⟩, hM.len, hM.row⟩
      dsimp only
      rcases plain_keep ha.chk hI.len hp0 hp1 hp with ⟨_, hk⟩ | ⟨_, _, hk⟩ <;> rw [hk.hs h hh] <;> exact hT.lo h hh
    · rename_i hp
      rw [if_neg hp] at h'
      subst h; subst h'
      have := plain_not ha.chk (by simpa using hp)
      exact act_rel hA hI hT hM this.1 this.2
theorem goes_rel (hA : Accs P) (hN : ∀ g ∈ P, InI g.needs) {r : Res} (hG : Goes P F t m r) : ∀ {u : Tk} {n m' n' : Mc}, r = .ok m' → Inv P t m → TkR b d t u → McR e b d m n → Goes P F u n (.ok n') → McR e b d m' n' := by
  induction hG with
  | fin h =>
    intro u n m' n' er hI hT hM hG'; cases er
    generalize hr : Res.ok n' = r' at hG'
    cases hG' with
    | fin h2 => cases hr; exact stp_rel hA hI hT hM h h2 (by intro e q; cases q) (by intro e q; cases q)
    | bad h2 => cases hr
    | go h2 => exact (stp_rel hA hI hT hM h h2 (by intro e q; cases q) (by intro e q; cases q)).elim
    | forkBad h2 => cases hr
    | fork h2 => exact (stp_rel hA hI hT hM h h2 (by intro e q; cases q) (by intro e q; cases q)).elim
  | bad h => intro u n m' n' er; cases er
  | go h hg ih =>
    intro u n m' n' er hI hT hM hG'
    generalize hr : Res.ok n' = r' at hG'
    cases hG' with
    | fin h2 => exact (stp_rel hA hI hT hM h h2 (by intro e q; cases q) (by intro e q; cases q)).elim
    | bad h2 => cases hr
    | go h2 hg2 =>
      have k := stp_rel hA hI hT hM h h2 (by intro e q; cases q) (by intro e q; cases q)
      subst hr
      exact ih er (inv_go hA hI h).1 k.1 k.2 hg2
    | forkBad h2 => cases hr
    | fork h2 => exact (stp_rel hA hI hT hM h h2 (by intro e q; cases q) (by intro e q; cases q)).elim
  | forkBad h _ ih => intro u n m' n' er; cases er
  | fork h h1 h2 ih1 ih2 =>
    rename_i t m c m1 i m2 r
    intro u n m' n' er hI hT hM hG'
    generalize hr : Res.ok n' = r' at hG'
    cases hG' with
    | fin h3 => exact (stp_rel hA hI hT hM h h3 (by intro e q; cases q) (by intro e q; cases q)).elim
    | bad h3 => cases hr
    | go h3 => exact (stp_rel hA hI hT hM h h3 (by intro e q; cases q) (by intro e q; cases q)).elim
    | forkBad h3 => cases hr
    | fork h3 g1 g2 =>
      rename_i c' n1 i' n2
      subst hr
      obtain ⟨k1, k2⟩ := inv_child hA hN hI h
      obtain ⟨k3, k4⟩ := goes_more hA hN h1 rfl k1
      obtain ⟨k5, k6⟩ := inv_forked hA hI h k3 k4
      obtain ⟨ei, hTc, hMc⟩ := stp_rel hA hI hT hM h h3 (by intro e q; cases q) (by intro e q; cases q)
      obtain ⟨q1, q2, q3, q4, _, hcc, hrows⟩ := stp_fork h
      subst ei
      have hM2 := ih1 rfl k1 hTc hMc g1
      obtain ⟨g, hv, ha⟩ := hI.at hA
      obtain ⟨hp0, hp1⟩ := at_pc ha
      subst q3
      have hlow := hT.low
      have hrow := hI.row
      have ecr : c.row = m.rows.length := by rw [hcc]
      have es : sh b d (c.row : Int) = (c'.row : Int) := by rw [hTc.row]; unfold sh; rw [if_pos (by omega)]; simp
      refine ih2 (u := { u with f := fForked u.f (insAt P t.f) c'.row }) er k5 ⟨?_, hT.row, hT.low, hT.sc, hT.op, hT.off, fun h hh => ?_⟩ hM2 g2
      · dsimp only
        rw [hT.f, ← es, shF_forked (chk_fr ha.chk)]
      · dsimp only
        rw [(forked_get (id := (c.row : Int)) ha.chk q4 hI.len hp0 hp1).2.2.2.2 h hh]
        split
        · exact .inr (by omega)
        · exact hT.lo h hh
end
end Go.Proofs.Ytgkfbagclkjilaa
