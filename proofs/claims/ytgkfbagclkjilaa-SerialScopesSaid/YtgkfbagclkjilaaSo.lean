/-
  Layer 6, in plain terms: the runs of first functions that are written down.
-/
import Derived.Test.YtgkfbagclkjilaaSn
set_option linter.unusedSimpArgs false
set_option linter.unusedVariables false
set_option maxRecDepth 100000
namespace Go.Proofs.Ytgkfbagclkjilaa
open Go Go.Ev Go.Proofs
open Go.Proofs.Ytgkfbagclkjilaa.Fr (fTo fOn fPlain fForked fJoined fClosed fChild fRoot fR isB fTo_len fOn_len fPlain_len fForked_len fJoined_len fClosed_len)
open Go.Proofs.Ytgkfbagclkjilaa.Ck (opI Walk Accs needsOf isGoes heldL depths stepD handlesOk subBits scopesOk forks)
section
variable {P : List FnR} {F : Int} {t : Tk} {m mz : Mc} {i : List Int}
theorem stp_run (hoff : t.off = false) (hi : insAt P t.f = i) : (∃ e, stp P F t m = .bad e) ∨ stp P F t m = (if (fPlain t.f i).2 then .go { t with f := (fPlain t.f i).1 } { m with steps := m.steps + 1 } else act P i t { m with steps := m.steps + 1 }) := by
  unfold stp
  rw [hoff, Bool.false_and, if_neg (by decide), hi]
  split
  · exact .inl ⟨_, rfl⟩
  · split
    · exact .inl ⟨_, rfl⟩
    · exact .inr rfl
theorem plain_big (h : 7 < i.getD 0 0) {f : List Int} : (fPlain f i).2 = false := by
  unfold Fr.fPlain
  split
  · rfl
  · rw [if_neg (by omega), if_neg (by omega), if_pos (by omega)]
theorem goes_not {e : Int} (hG : Goes P F t m (.ok mz)) (h : stp P F t m = .bad e) : False := by
  generalize hr : Res.ok mz = r at hG
  cases hG with
  | fin h2 => rw [h] at h2; cases h2
  | bad h2 => cases hr
  | go h2 => rw [h] at h2; cases h2
  | forkBad h2 => cases hr
  | fork h2 => rw [h] at h2; cases h2
theorem goes_go {t' : Tk} {m' : Mc} (hG : Goes P F t m (.ok mz)) (h : stp P F t m = .go t' m') : Goes P F t' m' (.ok mz) := by
  generalize hr : Res.ok mz = r at hG
  cases hG with
  | fin h2 => rw [h] at h2; cases h2
  | bad h2 => cases hr
  | go h2 hg => rw [h] at h2; cases h2; exact hg
  | forkBad h2 => cases hr
  | fork h2 => rw [h] at h2; cases h2
theorem goes_fin {m' : Mc} (hG : Goes P F t m (.ok mz)) (h : stp P F t m = .fin m') : mz = m' := by
  generalize hr : Res.ok mz = r at hG
  cases hG with
  | fin h2 => rw [h] at h2; cases h2; cases hr; rfl
  | bad h2 => cases hr
  | go h2 hg => rw [h] at h2; cases h2
  | forkBad h2 => cases hr
  | fork h2 => rw [h] at h2; cases h2
theorem goes_fork {c : Tk} {m1 : Mc} (hG : Goes P F t m (.ok mz)) (h : stp P F t m = .fork c m1 i) : ∃ m2, Goes P F c m1 (.ok m2) ∧ Goes P F { t with f := fForked t.f i c.row } m2 (.ok mz) := by
  generalize hr : Res.ok mz = r at hG
  cases hG with
  | fin h2 => rw [h] at h2; cases h2
  | bad h2 => cases hr
  | go h2 hg => rw [h] at h2; cases h2
  | forkBad h2 => cases hr
  | fork h2 g1 g2 => rw [h] at h2; cases h2; exact ⟨_, g1, g2⟩
theorem op_const {a V : Int} (hoff : t.off = false) (hi : insAt P t.f = [0, a, 0, 0, V]) (hc : Fr.chk [0, a, 0, 0, V] = 0) (hG : Goes P F t m (.ok mz)) :
    stp P F t m = .go { t with f := fOn (t.f.set (2 + a.toNat) V) } { m with steps := m.steps + 1 } ∧ Goes P F { t with f := fOn (t.f.set (2 + a.toNat) V) } { m with steps := m.steps + 1 } (.ok mz) := by
  have hp : fPlain t.f [0, a, 0, 0, V] = (fOn (t.f.set (2 + a.toNat) V), true) := by
    unfold Fr.fPlain
    rw [if_neg (by rw [hc]; decide)]
    rfl
  rcases stp_run (F := F) (m := m) hoff hi with ⟨e, h⟩ | h
  · exact (goes_not hG h).elim
  · rw [hp] at h
    exact ⟨h, goes_go hG h⟩
theorem op_act (hoff : t.off = false) (hi : insAt P t.f = i) (h7 : 7 < i.getD 0 0) (hG : Goes P F t m (.ok mz)) : stp P F t m = act P i t { m with steps := m.steps + 1 } := by
  rcases stp_run (F := F) (m := m) hoff hi with ⟨e, h⟩ | h
  · exact (goes_not hG h).elim
  · rw [plain_big h7, if_neg (by decide)] at h
    exact h
theorem op_fork {a k : Int} (hoff : t.off = false) (hi : insAt P t.f = [8, a, 0, 0, k]) (hc : Fr.chk [8, a, 0, 0, k] = 0) (hnd : needsOf P k = 0) (hG : Goes P F t m (.ok mz)) :
    ∃ c m1, stp P F t m = .fork c m1 [8, a, 0, 0, k] ∧ c = ⟨fChild t.f k 0, m.rows.length, [(false, 0)], 0, t.nest + t.sc.length, t.sc.any (·.1)⟩ ∧ m1 = ⟨m.rows ++ [⟨t.row, (t.sc.headD (false, 0)).2, k, 0, 0, 0, []⟩], m.steps + 1⟩ ∧
      ∃ m2, Goes P F c m1 (.ok m2) ∧ Goes P F { t with f := fOn (t.f.set (10 + a.toNat) m.rows.length) } m2 (.ok mz) := by
  have h := op_act hoff hi (by show (7 : Int) < 8; decide) hG
  have e : act P [8, a, 0, 0, k] t { m with steps := m.steps + 1 } = .fork ⟨fChild t.f k (needsOf P k), m.rows.length, [(false, 0)], 0, t.nest + t.sc.length, t.off || t.sc.any (·.1)⟩ ⟨m.rows ++ [⟨t.row, (t.sc.headD (false, 0)).2, k, 0, 0, 0, []⟩], m.steps + 1⟩ [8, a, 0, 0, k] := rfl
  rw [e, hnd, hoff, Bool.false_or] at h
  obtain ⟨m2, g1, g2⟩ := goes_fork hG h
  refine ⟨_, _, h, rfl, rfl, m2, g1, ?_⟩
  have e2 : fForked t.f [8, a, 0, 0, k] ((m.rows.length : Nat) : Int) = fOn (t.f.set (10 + a.toNat) m.rows.length) := by
    unfold Fr.fForked Fr.isB
    rw [hc]
    rfl
  rw [← e2]; exact g2
theorem op_return {a : Int} (hoff : t.off = false) (hi : insAt P t.f = [16, a, 0, 0, 0]) (hG : Goes P F t m (.ok mz)) : stp P F t m = .fin ({ m with steps := m.steps + 1 } |>.fin t.row (fOn t.f) 2 (fR (fOn t.f) a)) ∧ mz = ({ m with steps := m.steps + 1 } |>.fin t.row (fOn t.f) 2 (fR (fOn t.f) a)) := by
  have h := op_act hoff hi (by show (7 : Int) < 16; decide) hG
  have e : act P [16, a, 0, 0, 0] t { m with steps := m.steps + 1 } = .fin ({ m with steps := m.steps + 1 } |>.fin t.row (fOn t.f) 2 (fR (fOn t.f) a)) := rfl
  rw [e] at h
  exact ⟨h, goes_fin hG h⟩
theorem op_open (hoff : t.off = false) (hi : insAt P t.f = [11, 0, 0, 0, 0]) (hG : Goes P F t m (.ok mz)) : stp P F t m = .go { t with f := fOn t.f, sc := (false, t.opened + 1) :: t.sc, opened := t.opened + 1 } { m with steps := m.steps + 1 } ∧ Goes P F { t with f := fOn t.f, sc := (false, t.opened + 1) :: t.sc, opened := t.opened + 1 } { m with steps := m.steps + 1 } (.ok mz) := by
  have h := op_act hoff hi (by show (7 : Int) < 11; decide) hG
  have e : act P [11, 0, 0, 0, 0] t { m with steps := m.steps + 1 } = .go { t with f := fOn t.f, sc := (false, t.opened + 1) :: t.sc, opened := t.opened + 1 } { m with steps := m.steps + 1 } := rfl
  rw [e] at h
  exact ⟨h, goes_go hG h⟩
theorem op_cancel (hoff : t.off = false) (hi : insAt P t.f = [13, 0, 0, 0, 0]) (hG : Goes P F t m (.ok mz)) : stp P F t m = .go { t with f := fOn t.f, sc := (true, (t.sc.headD (false, 0)).2) :: t.sc.tail } { m with steps := m.steps + 1 } ∧ Goes P F { t with f := fOn t.f, sc := (true, (t.sc.headD (false, 0)).2) :: t.sc.tail } { m with steps := m.steps + 1 } (.ok mz) := by
  have h := op_act hoff hi (by show (7 : Int) < 13; decide) hG
  have e : act P [13, 0, 0, 0, 0] t { m with steps := m.steps + 1 } = .go { t with f := fOn t.f, sc := (true, (t.sc.headD (false, 0)).2) :: t.sc.tail } { m with steps := m.steps + 1 } := rfl
  rw [e] at h
  exact ⟨h, goes_go hG h⟩
theorem op_close {a : Int} (hoff : t.off = false) (hi : insAt P t.f = [12, a, 0, 0, 0]) (hc : Fr.chk [12, a, 0, 0, 0] = 0) (hG : Goes P F t m (.ok mz)) :
    stp P F t m = .go { t with f := fOn (t.f.set (2 + a.toNat) (if (t.sc.headD (false, 0)).1 then 1 else 0)), sc := t.sc.tail } ({ m with steps := m.steps + 1 } |>.told t.row (t.sc.headD (false, 0)).1) ∧
    Goes P F { t with f := fOn (t.f.set (2 + a.toNat) (if (t.sc.headD (false, 0)).1 then 1 else 0)), sc := t.sc.tail } ({ m with steps := m.steps + 1 } |>.told t.row (t.sc.headD (false, 0)).1) (.ok mz) := by
  have h := op_act hoff hi (by show (7 : Int) < 12; decide) hG
  have e : act P [12, a, 0, 0, 0] t { m with steps := m.steps + 1 } = .go { t with f := fClosed t.f [12, a, 0, 0, 0] (t.sc.headD (false, 0)).1, sc := t.sc.tail } ({ m with steps := m.steps + 1 } |>.told t.row (t.sc.headD (false, 0)).1) := rfl
  have e2 : ∀ b, fClosed t.f [12, a, 0, 0, 0] b = fOn (t.f.set (2 + a.toNat) (if b then 1 else 0)) := by
    intro b
    unfold Fr.fClosed Fr.isB
    rw [hc]
    rfl
  rw [e, e2] at h
  exact ⟨h, goes_go hG h⟩
theorem ins0 {g : FnR} {f : List Int} (hP : P[0]? = some g) (h0 : f.getD 0 0 = 0) : insAt P f = g.code.getD (f.getD 1 0).toNat [] := by
  unfold insAt
  rw [h0, show (0 : Int).toNat = 0 from rfl, hP]
theorem child0 {x0 x1 x2 x3 x4 x5 x6 x7 x8 x9 x10 x11 x12 x13 x14 x15 x16 x17 x18 n : Int} : fChild [x0, x1, x2, x3, x4, x5, x6, x7, x8, x9, x10, x11, x12, x13, x14, x15, x16, x17, x18] n 0 = [n, 0, x2, x3, x4, x5, x6, x7, x8, x9, -1, -1, -1, -1, -1, -1, -1, -1, 0] := by kernel_rfl
/-- a child that is cancelled at once -/
theorem goes_off {c : Tk} (ho : c.off = true) (hs : c.f.getD 18 0 = 0) (hG : Goes P F c m (.ok mz)) : mz = m.fin c.row c.f 4 0 := by
  refine goes_fin hG ?_
  unfold stp
  rw [ho, hs, if_pos (by rfl)]
end
theorem chk_const {a V : Int} (ha : a = 1 ∨ a = 2 ∨ a = 3) (h0 : -2147483648 ≤ V) (h1 : V ≤ 2147483647) : Ck.chk [0, a, 0, 0, V] = 0 := by
  unfold Ck.chk
  rw [if_neg (by show ¬ ((0 : Int) < 0 ∨ 17 ≤ (0 : Int)); decide), if_pos]
  refine Ck.fits_all fun j hj => ?_
  have : j = 0 ∨ j = 1 ∨ j = 2 ∨ j = 3 := by omega
  rcases this with rfl | rfl | rfl | rfl
  · rcases ha with rfl | rfl | rfl <;> rfl
  · rfl
  · rfl
  · show (!(decide (V < -2147483648) || decide (V > 2147483647))) = true
    rw [decide_eq_false (by omega), decide_eq_false (by omega)]; rfl
theorem chk_fork {a k : Int} (ha : a = 0 ∨ a = 1 ∨ a = 2 ∨ a = 3) (h0 : 0 ≤ k) (h1 : k ≤ 31) : Ck.chk [8, a, 0, 0, k] = 0 := by
  unfold Ck.chk
  rw [if_neg (by show ¬ ((8 : Int) < 0 ∨ 17 ≤ (8 : Int)); decide), if_pos]
  refine Ck.fits_all fun j hj => ?_
  have : j = 0 ∨ j = 1 ∨ j = 2 ∨ j = 3 := by omega
  rcases this with rfl | rfl | rfl | rfl
  · rcases ha with rfl | rfl | rfl | rfl <;> rfl
  · rfl
  · rfl
  · show (!(decide (k < 0) || decide (k > 31))) = true
    rw [decide_eq_false (by omega), decide_eq_false (by omega)]; rfl

/-! ### another first function -/
def goodB (n : Nat) (D H : List Int) (i : Nat) (x : List Int) : Bool := !(isGoes x) && !(Ck.lastB n i x) && scopesOk D i x && ((opI x == 8) || handlesOk [] (H.getD i 0) x)
theorem good_of {P : List FnR} {n : Nat} {D H : List Int} {i : Nat} {x : List Int} (h : goodB n D H i x = true) (hf : opI x = 8 → x.getD 4 0 < P.length ∧ needsOf P (x.getD 4 0) = 0) : Ck.Good P n D H i x := by
  unfold goodB at h
  rw [Bool.and_eq_true, Bool.and_eq_true, Bool.and_eq_true] at h
  obtain ⟨⟨⟨h1, h2⟩, h3⟩, h4⟩ := h
  refine ⟨?_, by simpa using h2, h3, ?_⟩
  · unfold Ck.placesB
    rw [show isGoes x = false by simpa using h1, Bool.false_and, Bool.false_or]
    by_cases q : opI x = 8
    · rw [decide_eq_false (by have := (hf q).1; omega), Bool.and_false]
    · rw [show (opI x == 8) = false by simpa using q, Bool.false_and]
  · by_cases q : opI x = 8
    · unfold handlesOk
      rw [q, if_neg (by decide), if_neg (by decide), if_pos (by decide), (hf q).2]
      exact Ck.sub_zero
    · rw [show (opI x == 8) = false by simpa using q, Bool.false_or] at h4
      unfold handlesOk at h4 ⊢
      split at h4
      · rw [if_pos (by assumption)]; exact h4
      · rw [if_neg (by assumption)]
        split at h4
        · rw [if_pos (by assumption)]; exact h4
        · rw [if_neg (by assumption), if_neg (by simpa using q)]
theorem accs_with {f0 f1 : FnR} {T : List FnR} {H : List Int} (hA : Accs (f0 :: T)) (hn : f1.needs = 0) (hl : 1 ≤ f1.code.length ∧ f1.code.length ≤ 128) (hok : ∀ x ∈ f1.code, Ck.chk x = 0) (hH : heldL f1.code 0 = H)
    (hg : ((List.range f1.code.length).all fun i => goodB f1.code.length (depths 0 f1.code) H i (f1.code.getD i [])) = true) (hf : ∀ x ∈ f1.code, opI x = 8 → x.getD 4 0 < (f0 :: T).length ∧ needsOf (f0 :: T) (x.getD 4 0) = 0) : Accs (f1 :: T) := by
  have hneeds : ∀ z, needsOf (f1 :: T) z = needsOf (f0 :: T) z := by
    intro z
    have hr := hA.root
    unfold needsOf at hr ⊢
    cases hz : z.toNat with
    | zero => 
      simp only [List.map_cons, List.getD_cons_zero]
      have : (List.map FnR.needs (f0 :: T)).getD (0 : Int).toNat 0 = f0.needs := rfl
      rw [this] at hr; rw [hn, hr]
    | succ n => rfl
  have hw : ∀ (n : Nat) (D H : List Int) (i : Nat) (x : List Int), Ck.wrongF (f1 :: T) n D H i x = Ck.wrongF (f0 :: T) n D H i x := by
    intro n D H i x
    have ha : ∀ j, Ck.askE (f1 :: T) n D H i x j = Ck.askE (f0 :: T) n D H i x j := by
      intro j
      match j with
      | 0 => rfl
      | 1 => rfl
      | 2 => rfl
      | j + 3 =>
        show (if handlesOk (f1 :: T) (H.getD i 0) x then (0 : Int) else 16) = if handlesOk (f0 :: T) (H.getD i 0) x then 0 else 16
        have : handlesOk (f1 :: T) (H.getD i 0) x = handlesOk (f0 :: T) (H.getD i 0) x := by unfold handlesOk; rw [hneeds]
        rw [this]
    unfold Ck.wrongF
    simp only [ha]
  refine ⟨by simp, hA.n1, by rw [hneeds]; exact hA.root, fun f hm => ?_⟩
  rcases List.mem_cons.1 hm with rfl | hm
  · refine ⟨by omega, by omega, hl.1, hl.2, hok, fun i x hx => ?_⟩
    rw [hw, hn, hH, Ck.good_iff]
    have hi := (List.getElem?_eq_some_iff.1 hx).1
    rw [List.all_eq_true] at hg
    have := hg i (by simpa using hi)
    rw [List.getD_eq_getElem?_getD, hx, Option.getD_some] at this
    exact good_of this (hf x (List.mem_of_getElem? hx))
  · have := hA.all f (by simp [hm])
    exact ⟨this.n0, this.n1, this.l0, this.l1, this.ok, fun i x hx => by rw [hw]; exact this.good i x hx⟩
end Go.Proofs.Ytgkfbagclkjilaa
