/-
  Layer 6: what stays true of a task while it goes on.
-/
import Derived.Test.YtgkfbagclkjilaaSa
set_option linter.unusedSimpArgs false
set_option linter.unusedVariables false
set_option maxRecDepth 100000
namespace Go.Proofs.Ytgkfbagclkjilaa
open Go Go.Ev Go.Proofs
open Go.Proofs.Ytgkfbagclkjilaa.Fr (fTo fOn fPlain fForked fJoined fClosed fChild fRoot fR isB fTo_len fOn_len fPlain_len fForked_len fJoined_len fClosed_len)
open Go.Proofs.Ytgkfbagclkjilaa.Ck (opI Walk Accs needsOf isGoes heldL depths stepD handlesOk subBits scopesOk forks)

def Ended (rows : List Rw) (j : Nat) : Prop := ∃ r, rows[j]? = some r ∧ (r.kind = 2 ∨ r.kind = 3 ∨ r.kind = 4)
/-- rows that are more: those that ended still are -/
def More (a b : List Rw) : Prop := a.length ≤ b.length ∧ ∀ j, Ended a j → Ended b j
theorem More.refl (a : List Rw) : More a a := ⟨Nat.le_refl _, fun _ h => h⟩
theorem More.trans {a b c : List Rw} (h : More a b) (k : More b c) : More a c := ⟨Nat.le_trans h.1 k.1, fun j q => k.2 j (h.2 j q)⟩
theorem More.app (a : List Rw) (r : Rw) : More a (a ++ [r]) := ⟨by simp, fun j ⟨x, hx, hk⟩ => ⟨x, by rw [List.getElem?_append_left (List.getElem?_eq_some_iff.1 hx).1]; exact hx, hk⟩⟩
theorem More.set {a : List Rw} {i : Nat} {r : Rw} (h : i < a.length) (hr : r.kind = (a.getD i r0).kind ∨ r.kind = 2 ∨ r.kind = 3 ∨ r.kind = 4) : More a (a.set i r) := by
  refine ⟨by simp, fun j ⟨x, hx, hk⟩ => ?_⟩
  by_cases e : i = j
  · subst e
    refine ⟨r, by rw [List.getElem?_set_self h], ?_⟩
    rcases hr with hr | hr
    · rw [List.getD_eq_getElem?_getD, hx] at hr
      simp only [Option.getD_some] at hr
      rw [hr]; exact hk
    · exact hr
  · exact ⟨x, by rw [List.getElem?_set_ne e]; exact hx, hk⟩
theorem more_fin {m : Mc} {row : Nat} {f : List Int} {kind v : Int} (h : row < m.rows.length) (hk : kind = 2 ∨ kind = 3 ∨ kind = 4) : More m.rows (m.fin row f kind v).rows := More.set h (.inr hk)
theorem more_told {m : Mc} {row : Nat} {b : Bool} (h : row < m.rows.length) : More m.rows (m.told row b).rows := More.set h (.inl rfl)
theorem ended_fin {m : Mc} {row : Nat} {f : List Int} {kind v : Int} (h : row < m.rows.length) (hk : kind = 2 ∨ kind = 3 ∨ kind = 4) : Ended (m.fin row f kind v).rows row := ⟨_, List.getElem?_set_self h, hk⟩

/-- the handles that are held are rows that ended -/
def Hds (rows : List Rw) (f : List Int) (hv : Int) : Prop := ∀ h : Nat, h < 8 → tb hv h = true → 0 ≤ f.getD (10 + h) 0 ∧ Ended rows (f.getD (10 + h) 0).toNat
theorem Hds.more {a b : List Rw} {f f' : List Int} {hv : Int} (h : Hds a f hv) (hm : More a b) (hs : ∀ h : Nat, h < 8 → f'.getD (10 + h) 0 = f.getD (10 + h) 0) : Hds b f' hv := fun k hk ht => by
  have := h k hk ht
  rw [hs k hk]
  exact ⟨this.1, hm.2 _ this.2⟩
structure Inv (P : List FnR) (t : Tk) (m : Mc) : Prop where
  len : t.f.length = 19
  row : t.row < m.rows.length
  sc : t.sc ≠ []
  nest : t.nest + t.sc.length ≤ 32
  f0 : 0 ≤ t.f.getD 0 0
  fn : ∃ g, P[(t.f.getD 0 0).toNat]? = some g ∧ ∃ hv, Walk P g hv ((t.sc.length : Int) - 1) (t.f.getD 1 0) ∧ Hds m.rows t.f hv
section
variable {P : List FnR} {F : Int} {t : Tk} {m : Mc}
/-- where it is -/
structure At1 (P : List FnR) (t : Tk) (m : Mc) (g : FnR) (hv : Int) (i : List Int) : Prop where
  at0 : P[(t.f.getD 0 0).toNat]? = some g
  acc : Ck.Acc P g
  walk : Walk P g hv ((t.sc.length : Int) - 1) (t.f.getD 1 0)
  hds : Hds m.rows t.f hv
  ins : g.code[(t.f.getD 1 0).toNat]? = some i
  chk : Ck.chk i = 0
  good : Ck.Good P g.code.length (depths 0 g.code) (heldL g.code g.needs) (t.f.getD 1 0).toNat i
theorem Inv.at (hA : Accs P) (h : Inv P t m) : ∃ g hv, At1 P t m g hv (insAt P t.f) := by
  obtain ⟨g, hg, hv, hW, hH⟩ := h.fn
  have hacc := hA.all g (List.mem_of_getElem? hg)
  have h0 := hW.a0; have h1 := hW.a1
  have e : insAt P t.f = g.code.getD (t.f.getD 1 0).toNat [] := by unfold insAt; rw [hg]
  have hlt : (t.f.getD 1 0).toNat < g.code.length := by omega
  have hi : g.code[(t.f.getD 1 0).toNat]? = some (insAt P t.f) := by
    rw [e, List.getD_eq_getElem?_getD (l := g.code), List.getElem?_eq_getElem hlt, Option.getD_some]
  exact ⟨g, hv, hg, hacc, hW, hH, hi, hacc.ok _ (List.mem_of_getElem? hi), Ck.walk_good hacc hW hi⟩
theorem isB_of {i : List Int} {op : Int} (hc : Ck.chk i = 0) (h : i.getD 0 0 = op) : isB i op = true := by unfold Fr.isB; rw [h, chk_fr hc]; simp
theorem isB_no {i : List Int} {op : Int} (h : i.getD 0 0 ≠ op) : isB i op = false := by unfold Fr.isB; rw [beq_eq_false_iff_ne.2 h]; rfl
/-- the plain ones -/
theorem plain_keep {f i : List Int} (hc : Ck.chk i = 0) (hf : f.length = 19) (h0 : 0 ≤ f.getD 1 0) (h1 : f.getD 1 0 < 1000) (hp : (fPlain f i).2 = true) :
    (isGoes i = true ∧ Kp f (fPlain f i).1 (i.getD 4 0)) ∨ (opI i ≤ 7 ∧ opI i ≠ 6 ∧ Kp f (fPlain f i).1 (f.getD 1 0 + 1)) := by
  have hr := Fr.chk_regs (chk_fr hc)
  unfold opI
  revert hp
  unfold Fr.fPlain
  rw [if_neg (by rw [chk_fr hc]; simp)]
  split
  · rename_i hb
    intro _
    exact .inl ⟨by
      rcases hb with hb | hb
      · show ((i.getD 0 0 == 6) || (i.getD 0 0 == 7)) = true; rw [hb]; rfl
      · show ((i.getD 0 0 == 6) || (i.getD 0 0 == 7)) = true; rw [hb.1]; rfl, kp_to hf⟩
  · split
    · rename_i hb
      intro _
      exact .inr ⟨by omega, by omega, kp_on hf h0 h1⟩
    · split
      · intro q; cases q
      · rename_i h6 h7 h5
        intro _
        have hlt : (i.getD 1 0).toNat < 8 := by omega
        refine .inr ⟨by omega, by omega, kp_set (r := (i.getD 1 0).toNat) (v := Fr.sumV f i) hlt ?_⟩
        have := kp_on (f := f.set (2 + (i.getD 1 0).toNat) (Fr.sumV f i)) (by simpa using hf) (by rw [set_get (by omega)]; exact h0) (by rw [set_get (by omega)]; exact h1)
        rwa [set_get (by omega)] at this
theorem plain_not {f i : List Int} (hc : Ck.chk i = 0) (hp : (fPlain f i).2 = false) : 8 ≤ i.getD 0 0 ∧ i.getD 0 0 ≤ 16 := by
  have hk := Ck.chk0 hc
  unfold opI at hk
  revert hp
  unfold Fr.fPlain
  rw [if_neg (by rw [chk_fr hc]; simp)]
  split
  · intro q; cases q
  · split
    · intro q; cases q
    · split
      · rename_i h6 h7 h5
        intro _
        omega
      · intro q; cases q
/-- it goes on to the next one, or to where it leads, with the same handles -/
theorem inv_next {g : FnR} {hv : Int} {i : List Int} {t' : Tk} {m' : Mc} (h : Inv P t m) (ha : At1 P t m g hv i) (h6 : opI i ≠ 6) (h15 : opI i ≠ 15) (h16 : opI i ≠ 16) (h8 : opI i ≠ 8) (hk : Kp t.f t'.f (t.f.getD 1 0 + 1))
    (hrow : t'.row = t.row) (hm : More m.rows m'.rows) (hsc : t'.sc ≠ []) (hnest : t'.nest + t'.sc.length ≤ 32) (hl : ((t'.sc.length : Int) - 1) = stepD ((t.sc.length : Int) - 1) i) : Inv P t' m' := by
  have hlen := h.len
  refine ⟨by rw [hk.len, hlen], by rw [hrow]; exact Nat.lt_of_lt_of_le h.row hm.1, hsc, hnest, by rw [hk.fn]; exact h.f0, g, by rw [hk.fn]; exact ha.at0, hv, ?_, ha.hds.more hm hk.hs⟩
  rw [hl, hk.pc]
  exact Ck.walk_next ha.acc ha.walk ha.ins h6 h15 h16 h8
theorem inv_goes {g : FnR} {hv : Int} {i : List Int} {t' : Tk} {m' : Mc} (h : Inv P t m) (ha : At1 P t m g hv i) (hgo : isGoes i = true) (hk : Kp t.f t'.f (i.getD 4 0))
    (hrow : t'.row = t.row) (hm : More m.rows m'.rows) (hsc : t'.sc = t.sc) (hnest : t'.nest = t.nest) : Inv P t' m' := by
  have hlen := h.len
  refine ⟨by rw [hk.len, hlen], by rw [hrow]; exact Nat.lt_of_lt_of_le h.row hm.1, by rw [hsc]; exact h.sc, by rw [hsc, hnest]; exact h.nest, by rw [hk.fn]; exact h.f0, g, by rw [hk.fn]; exact ha.at0, hv, ?_, ha.hds.more hm hk.hs⟩
  rw [hsc, hk.pc]
  exact Ck.walk_goes ha.acc ha.walk ha.ins hgo
theorem at_pc {g : FnR} {hv : Int} {i : List Int} (ha : At1 P t m g hv i) : 0 ≤ t.f.getD 1 0 ∧ t.f.getD 1 0 < 1000 := by
  have h0 := ha.walk.a0; have h1 := ha.walk.a1; have := ha.acc.l1
  omega
/-- a join's future has ended -/
theorem at_join {g : FnR} {hv : Int} {i : List Int} (ha : At1 P t m g hv i) (h : i.getD 0 0 = 9 ∨ i.getD 0 0 = 10) :
    0 ≤ hOf i ∧ hOf i < 8 ∧ 0 ≤ t.f.getD (10 + (hOf i).toNat) 0 ∧ Ended m.rows (t.f.getD (10 + (hOf i).toNat) 0).toNat := by
  have hr := Fr.chk_regs (chk_fr ha.chk)
  have hg := ha.good.handles
  unfold handlesOk at hg
  unfold opI at hg
  unfold hOf
  rcases h with h | h
  · rw [if_neg (by omega)]
    rw [if_pos (by rw [h]; rfl)] at hg
    have := ha.hds _ (by omega) (Ck.walk_held ha.walk (by omega) hg)
    exact ⟨hr.2.1.1, hr.2.1.2, this⟩
  · rw [if_pos h]
    rw [if_neg (by rw [h]; decide), if_pos (by rw [h]; rfl)] at hg
    have := ha.hds _ (by omega) (Ck.walk_held ha.walk (by omega) hg)
    exact ⟨hr.2.2.1, hr.2.2.2, this⟩
theorem joined_keep {f i : List Int} {kind v : Int} (hc : Ck.chk i = 0) (hf : f.length = 19) (h0 : 0 ≤ f.getD 1 0) (h1 : f.getD 1 0 < 1000) (ho : i.getD 0 0 = 9 ∨ i.getD 0 0 = 10) (hk : kind = 2 ∨ kind = 3 ∨ kind = 4)
    (hb : (fJoined f i kind v).2.2 = false) : Kp f (fJoined f i kind v).1 (f.getD 1 0 + 1) := by
  have hr := Fr.chk_regs (chk_fr hc)
  revert hb
  unfold Fr.fJoined
  rw [if_neg (by rcases ho with ho | ho <;> rw [isB_of hc ho] <;> simp <;> omega)]
  split
  · intro _
    have := kp_on (f := (f.set (2 + (i.getD 1 0).toNat) (if kind = 4 then 0 else v)).set (2 + (i.getD 2 0).toNat) (IntKind.i64.wrap (kind - 2))) (by simpa using hf) (by rw [set_get (by omega), set_get (by omega)]; exact h0) (by rw [set_get (by omega), set_get (by omega)]; exact h1)
    rw [set_get (by omega), set_get (by omega)] at this
    exact kp_set (by omega) (kp_set (by omega) this)
  · split
    · intro _
      have := kp_on (f := (f.set (2 + (i.getD 1 0).toNat) v)) (by simpa using hf) (by rw [set_get (by omega)]; exact h0) (by rw [set_get (by omega)]; exact h1)
      rw [set_get (by omega)] at this
      exact kp_set (by omega) this
    · intro q; cases q
theorem closed_keep {f i : List Int} {b : Bool} (hc : Ck.chk i = 0) (hf : f.length = 19) (h0 : 0 ≤ f.getD 1 0) (h1 : f.getD 1 0 < 1000) (ho : i.getD 0 0 = 12) : Kp f (fClosed f i b) (f.getD 1 0 + 1) := by
  have hr := Fr.chk_regs (chk_fr hc)
  unfold Fr.fClosed
  rw [if_pos (isB_of hc ho)]
  have := kp_on (f := f.set (2 + (i.getD 1 0).toNat) (if b then 1 else 0)) (by simpa using hf) (by rw [set_get (by omega)]; exact h0) (by rw [set_get (by omega)]; exact h1)
  rw [set_get (by omega)] at this
  exact kp_set (by omega) this
theorem at_scopes {g : FnR} {hv : Int} {i : List Int} (ha : At1 P t m g hv i) (h : i.getD 0 0 = 12 ∨ i.getD 0 0 = 13) : 2 ≤ t.sc.length := by
  have hg := ha.good.scopes
  have ho := ha.walk.open'
  unfold scopesOk opI at hg
  rw [if_pos (by rcases h with h | h <;> rw [h] <;> rfl)] at hg
  have := of_decide_eq_true hg
  omega
theorem tail_ne {A : Type} {l : List A} (h : 2 ≤ l.length) : l.tail ≠ [] := by
  match l, h with
  | _ :: _ :: _, _ => simp
theorem inv_go (hA : Accs P) (h : Inv P t m) {t' : Tk} {m' : Mc} (hs : stp P F t m = .go t' m') : Inv P t' m' ∧ More m.rows m'.rows := by
  obtain ⟨g, hv, ha⟩ := h.at hA
  obtain ⟨hp0, hp1⟩ := at_pc ha
  have hn := h.nest
  have hs1 : 1 ≤ t.sc.length := List.length_pos_iff.2 h.sc
  unfold stp at hs
  split at hs
  · cases hs
  split at hs
  · cases hs
  split at hs
  · cases hs
  rename_i hdeep
  split at hs
  · rename_i hp
    cases hs
    refine ⟨?_, More.refl _⟩
    rcases plain_keep ha.chk h.len hp0 hp1 hp with ⟨hgo, hk⟩ | ⟨h7, h6, hk⟩
    · exact inv_goes h ha hgo hk rfl (More.refl _) rfl rfl
    · exact inv_next h ha h6 (by omega) (by omega) (by omega) hk rfl (More.refl _) h.sc hn (by unfold stepD; rw [if_neg (by omega), if_neg (by omega)])
  · rename_i hp
    have hop := plain_not ha.chk (by simpa using hp)
    unfold act at hs
    split at hs
    · cases hs
    split at hs
    · rename_i h8 h910
      obtain ⟨_, _, _, r, hr, hk⟩ := at_join ha h910
      split at hs
      · cases hs
      · rename_i hb
        cases hs
        refine ⟨?_, More.refl _⟩
        have hkk : rOf (insAt P t.f) t { m with steps := m.steps + 1 } = r := by unfold rOf; rw [List.getD_eq_getElem?_getD]; dsimp only; rw [hr]; rfl
        refine inv_next h ha (by unfold opI; omega) (by unfold opI; omega) (by unfold opI; omega) (by unfold opI; omega) ?_ rfl (More.refl _) h.sc hn (by unfold stepD opI; rw [if_neg (by omega), if_neg (by omega)])
        exact joined_keep ha.chk h.len hp0 hp1 h910 (by rw [hkk]; exact hk) (by simpa using hb)
    split at hs
    · rename_i h8 h9 h11
      cases hs
      refine ⟨inv_next h ha (by unfold opI; omega) (by unfold opI; omega) (by unfold opI; omega) (by unfold opI; omega) (kp_on h.len hp0 hp1) rfl (More.refl _) (by simp) (by simp; omega) ?_, More.refl _⟩
      unfold stepD opI; rw [if_pos h11, wrap_id ⟨by omega, by omega⟩]; simp
    split at hs
    · rename_i h8 h9 h11 h12
      cases hs
      have hl := at_scopes ha (.inl h12)
      refine ⟨inv_next h ha (by unfold opI; omega) (by unfold opI; omega) (by unfold opI; omega) (by unfold opI; omega) (closed_keep ha.chk h.len hp0 hp1 h12) rfl (more_told h.row) (tail_ne hl) (by simp; omega) ?_, more_told h.row⟩
      unfold stepD opI; rw [if_neg h11, if_pos h12, wrap_id ⟨by omega, by omega⟩]; simp; omega
    split at hs
    · rename_i h8 h9 h11 h12 h13
      cases hs
      have hl := at_scopes ha (.inr h13)
      refine ⟨inv_next h ha (by unfold opI; omega) (by unfold opI; omega) (by unfold opI; omega) (by unfold opI; omega) (kp_on h.len hp0 hp1) rfl (More.refl _) (by simp) (by simp; omega) ?_, More.refl _⟩
      unfold stepD opI; rw [if_neg h11, if_neg h12]; simp; omega
    split at hs
    · rename_i h8 h9 h11 h12 h13 h14
      cases hs
      refine ⟨inv_next h ha (by unfold opI; omega) (by unfold opI; omega) (by unfold opI; omega) (by unfold opI; omega) (kp_on h.len hp0 hp1) rfl (More.refl _) h.sc hn ?_, More.refl _⟩
      unfold stepD opI; rw [if_neg h11, if_neg h12]
    · cases hs
theorem fin_inv (hA : Accs P) (h : Inv P t m) {m' : Mc} (hs : stp P F t m = .fin m') : More m.rows m'.rows ∧ Ended m'.rows t.row := by
  unfold stp at hs
  split at hs
  · cases hs; exact ⟨more_fin h.row (by omega), ended_fin h.row (by omega)⟩
  split at hs
  · cases hs
  split at hs
  · cases hs
  split at hs
  · cases hs
  unfold act at hs
  split at hs
  · cases hs
  split at hs
  · split at hs
    · cases hs; exact ⟨more_fin (m := { m with steps := m.steps + 1 }) h.row (by omega), ended_fin (m := { m with steps := m.steps + 1 }) h.row (by omega)⟩
    · cases hs
  split at hs
  · cases hs
  split at hs
  · cases hs
  split at hs
  · cases hs
  split at hs
  · cases hs
  cases hs
  exact ⟨more_fin (m := { m with steps := m.steps + 1 }) h.row (by split <;> omega), ended_fin (m := { m with steps := m.steps + 1 }) h.row (by split <;> omega)⟩
theorem child_get {f : List Int} {n needs : Int} (hf : f.length = 19) : (fChild f n needs).length = 19 ∧ (fChild f n needs).getD 0 0 = n ∧ (fChild f n needs).getD 1 0 = 0 ∧ (fChild f n needs).getD 18 0 = 0 ∧ ∀ h : Nat, h < 8 → (fChild f n needs).getD (10 + h) 0 = if tb needs h then f.getD (10 + h) 0 else -1 := by
  obtain ⟨x0, x1, x2, x3, x4, x5, x6, x7, x8, x9, x10, x11, x12, x13, x14, x15, x16, x17, x18, rfl⟩ := Fr.list19 hf
  refine ⟨rfl, rfl, rfl, rfl, fun h hh => ?_⟩
  match h, hh with
  | 0, _ => rfl
  | 1, _ => rfl
  | 2, _ => rfl
  | 3, _ => rfl
  | 4, _ => rfl
  | 5, _ => rfl
  | 6, _ => rfl
  | 7, _ => rfl
theorem at_fork {g : FnR} {hv : Int} {i : List Int} (ha : At1 P t m g hv i) (h : i.getD 0 0 = 8) : ∃ g', P[(i.getD 4 0).toNat]? = some g' ∧ 0 ≤ i.getD 4 0 ∧ needsOf P (i.getD 4 0) = g'.needs ∧ 0 ≤ i.getD 1 0 ∧ i.getD 1 0 < 8 ∧ ∀ k : Nat, k < 8 → tb g'.needs k = true → tb hv k = true := by
  have hpl := (Ck.places_in ha.good.places).2 h
  have hc := (Ck.chk0 ha.chk).2.2.2.1 h
  have hr := Fr.chk_regs (chk_fr ha.chk)
  obtain ⟨g', hg'⟩ : ∃ g', P[(i.getD 4 0).toNat]? = some g' := ⟨_, List.getElem?_eq_getElem (by omega)⟩
  refine ⟨g', hg', hc.1, Ck.needs_get hg', hr.1.1, hr.1.2, fun k hk ht => ?_⟩
  have hh := ha.good.handles
  unfold handlesOk opI at hh
  rw [if_neg (by rw [h]; decide), if_neg (by rw [h]; decide), if_pos (by rw [h]; rfl), Ck.needs_get hg'] at hh
  exact Ck.walk_held ha.walk hk (Ck.subBits_iff.1 hh k hk ht)
theorem inv_child (hA : Accs P) (hI : ∀ g ∈ P, InI g.needs) (h : Inv P t m) {c : Tk} {m1 : Mc} {i : List Int} (hs : stp P F t m = .fork c m1 i) : Inv P c m1 ∧ More m.rows m1.rows := by
  obtain ⟨g, hv, ha⟩ := h.at hA
  obtain ⟨_, _, rfl, h8, hn, rfl, hrows⟩ := stp_fork hs
  obtain ⟨g', hg', h40, hnd, hA0, hA1, hsub⟩ := at_fork ha h8
  obtain ⟨c1, c2, c3, c4, c5⟩ := child_get (f := t.f) (n := (insAt P t.f).getD 4 0) (needs := g'.needs) h.len
  have hm : More m.rows m1.rows := by rw [hrows]; exact More.app _ _
  have hacc := hA.all g' (List.mem_of_getElem? hg')
  rw [hnd]
  refine ⟨⟨c1, by rw [hrows]; simp, by simp, by simp; omega, by dsimp only; rw [c2]; exact h40, g', by dsimp only; rw [c2]; exact hg', g'.needs, by dsimp only; rw [c3]; exact Ck.walk_start hacc (hI g' (List.mem_of_getElem? hg')), fun k hk ht => ?_⟩, hm⟩
  dsimp only
  rw [c5 k hk, if_pos ht]
  have := ha.hds k hk (hsub k hk ht)
  exact ⟨this.1, hm.2 _ this.2⟩
theorem forked_get {f i : List Int} {id : Int} (hc : Ck.chk i = 0) (h8 : i.getD 0 0 = 8) (hf : f.length = 19) (h0 : 0 ≤ f.getD 1 0) (h1 : f.getD 1 0 < 1000) : (fForked f i id).length = 19 ∧ (fForked f i id).getD 0 0 = f.getD 0 0 ∧ (fForked f i id).getD 1 0 = f.getD 1 0 + 1
    ∧ (fForked f i id).getD 18 0 = IntKind.i64.wrap (f.getD 18 0 + 1) ∧ ∀ h : Nat, h < 8 → (fForked f i id).getD (10 + h) 0 = if i.getD 1 0 = h then id else f.getD (10 + h) 0 := by
  have hr := Fr.chk_regs (chk_fr hc)
  unfold Fr.fForked
  rw [if_pos (isB_of hc h8)]
  have k := kp_on (f := f.set (10 + (i.getD 1 0).toNat) id) (by simpa using hf) (by rw [set_get (by omega)]; exact h0) (by rw [set_get (by omega)]; exact h1)
  refine ⟨by rw [k.len, List.length_set, hf], by rw [k.fn, set_get (by omega)], by rw [k.pc, set_get (by omega)], ?_, fun h hh => ?_⟩
  · rw [k.st]
    by_cases e : 10 + (i.getD 1 0).toNat = 18
    · omega
    · rw [set_get e]
  · rw [k.hs h hh]
    split
    · rename_i e
      have : 10 + (i.getD 1 0).toNat = 10 + h := by omega
      rw [this, set_at (by omega)]
    · rw [set_get (by omega)]
theorem inv_forked (hA : Accs P) (h : Inv P t m) {c : Tk} {m1 m2 : Mc} {i : List Int} (hs : stp P F t m = .fork c m1 i) (hm : More m1.rows m2.rows) (he : Ended m2.rows c.row) : Inv P { t with f := fForked t.f i c.row } m2 ∧ More m.rows m2.rows := by
  obtain ⟨g, hv, ha⟩ := h.at hA
  obtain ⟨hp0, hp1⟩ := at_pc ha
  obtain ⟨_, _, rfl, h8, hn, hc, hrows⟩ := stp_fork hs
  have hm01 : More m.rows m1.rows := by rw [hrows]; exact More.app _ _
  have hm02 := hm01.trans hm
  obtain ⟨g', hg', h40, hnd, hA0, hA1, hsub⟩ := at_fork ha h8
  obtain ⟨f1, f2, f3, f4, f5⟩ := forked_get (id := (c.row : Int)) ha.chk h8 h.len hp0 hp1
  refine ⟨⟨f1, Nat.lt_of_lt_of_le h.row hm02.1, h.sc, h.nest, by dsimp only; rw [f2]; exact h.f0, g, by dsimp only; rw [f2]; exact ha.at0, Ck.hvOf (insAt P t.f) hv, ?_, fun k hk ht => ?_⟩, hm02⟩
  · dsimp only
    rw [f3]
    obtain ⟨hz, hlt⟩ := Ck.behind_next ha.acc ha.walk ha.ins (by unfold opI; omega) (by unfold opI; omega) (by unfold opI; omega)
    refine Ck.walk_to ha.acc.l1 ha.walk ha.ins hz ?_ (fun k hk ht => ?_) ?_
    · unfold Ck.hvOf; split
      · exact Ck.inI_or _ _
      · exact ha.walk.inI
    · rw [Ck.tb_hv hk] at ht
      simpa using ht
    · rw [Ck.depth_next ha.walk ha.ins hlt]; unfold stepD opI; rw [if_neg (by omega), if_neg (by omega)]
  · dsimp only
    rw [f5 k hk]
    split
    · exact ⟨by omega, by simpa using he⟩
    · rename_i hne
      rw [Ck.tb_hv hk] at ht
      have hf : forks (insAt P t.f) k = false := by unfold Ck.forks; rw [Bool.and_eq_false_iff]; exact .inr (by simpa using hne)
      rw [hf, Bool.or_false] at ht
      have := ha.hds k hk ht
      exact ⟨this.1, hm02.2 _ this.2⟩
theorem goes_more (hA : Accs P) (hI : ∀ g ∈ P, InI g.needs) {r : Res} (hG : Goes P F t m r) : ∀ {m' : Mc}, r = .ok m' → Inv P t m → More m.rows m'.rows ∧ Ended m'.rows t.row := by
  induction hG with
  | fin h => intro m' e hi; cases e; exact fin_inv hA hi h
  | bad h => intro m' e; cases e
  | go h _ ih =>
    intro m' e hi
    obtain ⟨h1, h2⟩ := inv_go hA hi h
    have := ih e h1
    rw [(stp_go h).2.2.1] at this
    exact ⟨h2.trans this.1, this.2⟩
  | forkBad h _ ih => intro m' e; cases e
  | fork h _ _ ih1 ih2 =>
    intro m' e hi
    obtain ⟨h1, h2⟩ := inv_child hA hI hi h
    obtain ⟨h3, h4⟩ := ih1 rfl h1
    obtain ⟨h5, h6⟩ := inv_forked hA hi h h3 h4
    have := ih2 e h5
    exact ⟨h6.trans this.1, this.2⟩
theorem inv_root (hA : Accs P) (hI : ∀ g ∈ P, InI g.needs) : Inv P t0 m0 := by
  have hn := hA.n0
  obtain ⟨g, hg⟩ : ∃ g, P[(0 : Int).toNat]? = some g := ⟨_, List.getElem?_eq_getElem (by simp; omega)⟩
  have hacc := hA.all g (List.mem_of_getElem? hg)
  refine ⟨rfl, by simp [t0, m0], by simp [t0], by simp [t0], by simp [t0, Fr.fRoot], g, hg, g.needs, Ck.walk_start hacc (hI g (List.mem_of_getElem? hg)), fun k hk ht => ?_⟩
  have := Ck.needs_get hg
  rw [hA.root] at this
  rw [← this, Ck.tb_zero hk] at ht
  cases ht
end
end Go.Proofs.Ytgkfbagclkjilaa
