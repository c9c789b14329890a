/-
  Layer 6, in plain terms: tasks, rows, steps, what a run comes to.
-/
import Derived.Test.YtgkfbagclkjilaaCkB
import Derived.Test.YtgkfbagclkjilaaFr
set_option linter.unusedSimpArgs false
set_option linter.unusedVariables false
set_option maxRecDepth 100000
namespace Go.Proofs.Ytgkfbagclkjilaa
open Go Go.Ev Go.Proofs
open Go.Proofs.Ytgkfbagclkjilaa.Fr (fTo fOn fPlain fForked fJoined fClosed fChild fRoot fR isB fTo_len fOn_len fPlain_len fForked_len fJoined_len fClosed_len)
open Go.Proofs.Ytgkfbagclkjilaa.Ck (opI Walk Accs needsOf isGoes heldL depths stepD handlesOk subBits scopesOk forks)

/-- a row: parent, in, function, kind, number, steps, what closes told -/
structure Rw where
  par : Int
  inn : Int
  fn : Int
  kind : Int
  v : Int
  steps : Int
  cl : List Bool
deriving DecidableEq
/-- a task: frame, row, own scopes (the innermost one first): asked, number; how many were opened; how many are around; is it cancelled -/
structure Tk where
  f : List Int
  row : Nat
  sc : List (Bool × Int)
  opened : Int
  nest : Nat
  off : Bool
deriving DecidableEq
structure Mc where
  rows : List Rw
  steps : Int
deriving DecidableEq
def insAt (P : List FnR) (f : List Int) : List Int := match P[(f.getD 0 0).toNat]? with
  | some g => g.code.getD (f.getD 1 0).toNat []
  | none => []
def r0 : Rw := ⟨0, 0, 0, 0, 0, 0, []⟩
def Mc.fin (m : Mc) (row : Nat) (f : List Int) (kind v : Int) : Mc := { m with rows := m.rows.set row { m.rows.getD row r0 with kind := kind, v := v, steps := f.getD 18 0 } }
def Mc.told (m : Mc) (row : Nat) (b : Bool) : Mc := { m with rows := m.rows.set row { m.rows.getD row r0 with cl := (m.rows.getD row r0).cl ++ [b] } }
def isPt (op : Int) : Bool := decide (6 ≤ op ∧ op ≤ 14 ∧ op ≠ 13)
inductive Stp where
  | fin (m : Mc)
  | bad (e : Int)
  | go (t : Tk) (m : Mc)
  | fork (c : Tk) (m : Mc) (i : List Int)
/-- the handle of a join, of a try -/
def hOf (i : List Int) : Int := i.getD (if i.getD 0 0 = 10 then 3 else 2) 0
def rOf (i : List Int) (t : Tk) (m : Mc) : Rw := m.rows.getD (t.f.getD (10 + (hOf i).toNat) 0).toNat r0
/-- what an instruction does that is none of registers alone -/
def act (P : List FnR) (i : List Int) (t : Tk) (m : Mc) : Stp :=
  if i.getD 0 0 = 8 then .fork ⟨fChild t.f (i.getD 4 0) (needsOf P (i.getD 4 0)), m.rows.length, [(false, 0)], 0, t.nest + t.sc.length, t.off || t.sc.any (·.1)⟩ { m with rows := m.rows ++ [⟨t.row, (t.sc.headD (false, 0)).2, i.getD 4 0, 0, 0, 0, []⟩] } i
  else if i.getD 0 0 = 9 ∨ i.getD 0 0 = 10 then
    if (fJoined t.f i (rOf i t m).kind (rOf i t m).v).2.2
    then .fin (m.fin t.row (fJoined t.f i (rOf i t m).kind (rOf i t m).v).1 3 (fJoined t.f i (rOf i t m).kind (rOf i t m).v).2.1)
    else .go { t with f := (fJoined t.f i (rOf i t m).kind (rOf i t m).v).1 } m
  else if i.getD 0 0 = 11 then .go { t with f := fOn t.f, sc := (false, t.opened + 1) :: t.sc, opened := t.opened + 1 } m
  else if i.getD 0 0 = 12 then .go { t with f := fClosed t.f i (t.sc.headD (false, 0)).1, sc := t.sc.tail } (m.told t.row (t.sc.headD (false, 0)).1)
  else if i.getD 0 0 = 13 then .go { t with f := fOn t.f, sc := (true, (t.sc.headD (false, 0)).2) :: t.sc.tail } m
  else if i.getD 0 0 = 14 then .go { t with f := fOn t.f } m
  else .fin (m.fin t.row (fOn t.f) (if i.getD 0 0 = 15 then 3 else 2) (fR (fOn t.f) (i.getD 1 0)))
/-- the next instruction -/
def stp (P : List FnR) (F : Int) (t : Tk) (m : Mc) : Stp :=
  if t.off && ((t.f.getD 18 0 == 0) || isPt ((insAt P t.f).getD 0 0)) then .fin (m.fin t.row t.f 4 0)
  else if m.steps ≥ F then .bad 22
  else if ((insAt P t.f).getD 0 0 = 8 ∨ (insAt P t.f).getD 0 0 = 11) ∧ 32 ≤ t.nest + t.sc.length then .bad 23
  else if (fPlain t.f (insAt P t.f)).2 then .go { t with f := (fPlain t.f (insAt P t.f)).1 } { m with steps := m.steps + 1 }
  else act P (insAt P t.f) t { m with steps := m.steps + 1 }
inductive Res where
  | ok (m : Mc)
  | bad (e : Int)
inductive Goes (P : List FnR) (F : Int) : Tk → Mc → Res → Prop where
  | fin {t m m'} : stp P F t m = .fin m' → Goes P F t m (.ok m')
  | bad {t m e} : stp P F t m = .bad e → Goes P F t m (.bad e)
  | go {t m t' m' r} : stp P F t m = .go t' m' → Goes P F t' m' r → Goes P F t m r
  | forkBad {t m c m1 i e} : stp P F t m = .fork c m1 i → Goes P F c m1 (.bad e) → Goes P F t m (.bad e)
  | fork {t m c m1 i m2 r} : stp P F t m = .fork c m1 i → Goes P F c m1 (.ok m2) → Goes P F { t with f := fForked t.f i c.row } m2 r → Goes P F t m r
def t0 : Tk := ⟨fRoot, 0, [(false, 0)], 0, 0, false⟩
def m0 : Mc := ⟨[⟨-1, 0, 0, 0, 0, 0, []⟩], 0⟩

theorem Goes.det {P : List FnR} {F : Int} {t : Tk} {m : Mc} {r : Res} (h : Goes P F t m r) : ∀ {r' : Res}, Goes P F t m r' → r = r' := by
  induction h with
  | fin h =>
    intro r' h'
    cases h' with
    | fin h2 => rw [h] at h2; cases h2; rfl
    | bad h2 => rw [h] at h2; cases h2
    | go h2 => rw [h] at h2; cases h2
    | forkBad h2 => rw [h] at h2; cases h2
    | fork h2 => rw [h] at h2; cases h2
  | bad h =>
    intro r' h'
    cases h' with
    | fin h2 => rw [h] at h2; cases h2
    | bad h2 => rw [h] at h2; cases h2; rfl
    | go h2 => rw [h] at h2; cases h2
    | forkBad h2 => rw [h] at h2; cases h2
    | fork h2 => rw [h] at h2; cases h2
  | go h _ ih =>
    intro r' h'
    cases h' with
    | fin h2 => rw [h] at h2; cases h2
    | bad h2 => rw [h] at h2; cases h2
    | go h2 h3 => rw [h] at h2; cases h2; exact ih h3
    | forkBad h2 => rw [h] at h2; cases h2
    | fork h2 => rw [h] at h2; cases h2
  | forkBad h _ ih =>
    intro r' h'
    cases h' with
    | fin h2 => rw [h] at h2; cases h2
    | bad h2 => rw [h] at h2; cases h2
    | go h2 => rw [h] at h2; cases h2
    | forkBad h2 h3 => rw [h] at h2; cases h2; exact ih h3
    | fork h2 h3 => rw [h] at h2; cases h2; have := ih h3; cases this
  | fork h _ _ ih1 ih2 =>
    intro r' h'
    cases h' with
    | fin h2 => rw [h] at h2; cases h2
    | bad h2 => rw [h] at h2; cases h2
    | go h2 => rw [h] at h2; cases h2
    | forkBad h2 h3 => rw [h] at h2; cases h2; have := ih1 h3; cases this
    | fork h2 h3 h4 => rw [h] at h2; cases h2; have := ih1 h3; cases this; exact ih2 h4

/-! ### steps -/
theorem act_steps {P : List FnR} {i : List Int} {t : Tk} {m : Mc} : (∀ m', act P i t m = .fin m' → m'.steps = m.steps) ∧ (∀ e, act P i t m ≠ .bad e) ∧ (∀ t' m', act P i t m = .go t' m' → m'.steps = m.steps ∧ t'.row = t.row ∧ t'.nest = t.nest ∧ t'.off = t.off) ∧ ∀ c m' j, act P i t m = .fork c m' j → m'.steps = m.steps ∧ j = i ∧ i.getD 0 0 = 8 := by
  unfold act
  repeat' split
  all_goals refine ⟨fun m' h => ?_, fun e h => ?_, fun t' m' h => ?_, fun c m' j h => ?_⟩
  all_goals cases h
  all_goals first | rfl | exact ⟨rfl, rfl, rfl, rfl⟩ | (refine ⟨rfl, rfl, ?_⟩; assumption)
theorem stp_fin {P : List FnR} {F : Int} {t : Tk} {m m' : Mc} (h : stp P F t m = .fin m') : m.steps ≤ m'.steps ∧ m'.steps ≤ m.steps + 1 ∧ (m'.steps ≤ F ∨ m'.steps = m.steps) := by
  unfold stp at h
  split at h
  · cases h; exact ⟨Int.le_refl _, by show m.steps ≤ m.steps + 1; omega, .inr rfl⟩
  · split at h
    · cases h
    · split at h
      · cases h
      · split at h
        · cases h
        · have := act_steps.1 m' h; dsimp only at this; exact ⟨by omega, by omega, .inl (by omega)⟩
theorem stp_go {P : List FnR} {F : Int} {t t' : Tk} {m m' : Mc} (h : stp P F t m = .go t' m') : m.steps < F ∧ m'.steps = m.steps + 1 ∧ t'.row = t.row ∧ t'.nest = t.nest ∧ t'.off = t.off := by
  unfold stp at h
  split at h
  · cases h
  · split at h
    · cases h
    · split at h
      · cases h
      · split at h
        · cases h; exact ⟨by omega, rfl, rfl, rfl, rfl⟩
        · have := act_steps.2.2.1 t' m' h; dsimp only at this; exact ⟨by omega, by omega, this.2.1, this.2.2.1, this.2.2.2⟩
theorem stp_fork {P : List FnR} {F : Int} {t c : Tk} {m m' : Mc} {i : List Int} (h : stp P F t m = .fork c m' i) : m.steps < F ∧ m'.steps = m.steps + 1 ∧ i = insAt P t.f ∧ i.getD 0 0 = 8 ∧ t.nest + t.sc.length < 32
    ∧ c = ⟨fChild t.f (i.getD 4 0) (needsOf P (i.getD 4 0)), m.rows.length, [(false, 0)], 0, t.nest + t.sc.length, t.off || t.sc.any (·.1)⟩ ∧ m'.rows = m.rows ++ [⟨t.row, (t.sc.headD (false, 0)).2, i.getD 4 0, 0, 0, 0, []⟩] := by
  unfold stp at h
  split at h
  · cases h
  · split at h
    · cases h
    · split at h
      · cases h
      · rename_i hno
        split at h
        · cases h
        · have := act_steps.2.2.2 c m' i h
          dsimp only at this
          obtain ⟨e1, e2, e3⟩ := this
          subst e2
          unfold act at h
          rw [if_pos e3] at h
          cases h
          exact ⟨by omega, e1, rfl, e3, by omega, rfl, rfl⟩
theorem Goes.le {P : List FnR} {F : Int} {t : Tk} {m : Mc} {r : Res} (h : Goes P F t m r) : ∀ {m' : Mc}, r = .ok m' → m.steps ≤ m'.steps ∧ (m.steps ≤ F → m'.steps ≤ F) := by
  induction h with
  | fin h => intro m' e; cases e; have := stp_fin h; exact ⟨this.1, fun q => by omega⟩
  | bad h => intro m' e; cases e
  | go h _ ih => intro m' e; have h2 := ih e; have h3 := stp_go h; exact ⟨by omega, fun q => h2.2 (by omega)⟩
  | forkBad h _ ih => intro m' e; cases e
  | fork h _ _ ih1 ih2 => intro m' e; have h1 := ih1 rfl; have h2 := ih2 e; have := stp_fork h; exact ⟨by omega, fun q => h2.2 (h1.2 (by omega))⟩
theorem Goes.total (P : List FnR) (F : Int) : ∀ (n : Nat) (t : Tk) (m : Mc), (F - m.steps).toNat ≤ n → ∃ r, Goes P F t m r
  | n, t, m, hn => by
    cases h : stp P F t m with
    | fin m' => exact ⟨_, .fin h⟩
    | bad e => exact ⟨_, .bad h⟩
    | go t' m' =>
      have := stp_go h
      cases n with
      | zero => omega
      | succ n =>
        obtain ⟨r, hr⟩ := Goes.total P F n t' m' (by omega)
        exact ⟨r, .go h hr⟩
    | fork c m1 i =>
      have := stp_fork h
      cases n with
      | zero => omega
      | succ n =>
        obtain ⟨r, hr⟩ := Goes.total P F n c m1 (by omega)
        cases r with
        | bad e => exact ⟨_, .forkBad h hr⟩
        | ok m2 =>
          have h1 := hr.le rfl
          obtain ⟨r, hr2⟩ := Goes.total P F n { t with f := fForked t.f i c.row } m2 (by omega)
          exact ⟨r, .fork h hr hr2⟩

/-! ### frames -/
theorem fTo_get {f : List Int} {pc : Int} {j : Nat} (h1 : j ≠ 1) (h18 : j ≠ 18) : (fTo f pc).getD j 0 = f.getD j 0 := by
  unfold fTo
  simp only [List.getD_eq_getElem?_getD, List.getElem?_set_ne (Ne.symm h18), List.getElem?_set_ne (Ne.symm h1)]
theorem fTo_pc {f : List Int} {pc : Int} (h : 1 < f.length) : (fTo f pc).getD 1 0 = pc := by
  unfold fTo
  simp only [List.getD_eq_getElem?_getD, List.getElem?_set_ne (by decide : (18 : Nat) ≠ 1)]
  rw [List.getElem?_set_self h]; rfl
theorem fTo_st {f : List Int} {pc : Int} (h : f.length = 19) : (fTo f pc).getD 18 0 = IntKind.i64.wrap (f.getD 18 0 + 1) := by
  unfold fTo
  simp only [List.getD_eq_getElem?_getD]
  rw [List.getElem?_set_self (by simp; omega), List.getElem?_set_ne (by decide : (1 : Nat) ≠ 18)]; rfl
theorem set_get {f : List Int} {j i : Nat} {v : Int} (h : i ≠ j) : (f.set i v).getD j 0 = f.getD j 0 := by
  simp only [List.getD_eq_getElem?_getD, List.getElem?_set_ne h]
theorem set_at {f : List Int} {i : Nat} {v : Int} (h : i < f.length) : (f.set i v).getD i 0 = v := by
  simp [List.getD_eq_getElem?_getD, h]
/-- a frame that went on, with the same handles -/
structure Kp (f f' : List Int) (pc : Int) : Prop where
  len : f'.length = f.length
  fn : f'.getD 0 0 = f.getD 0 0
  pc : f'.getD 1 0 = pc
  st : f'.getD 18 0 = IntKind.i64.wrap (f.getD 18 0 + 1)
  hs : ∀ h : Nat, h < 8 → f'.getD (10 + h) 0 = f.getD (10 + h) 0
theorem kp_to {f : List Int} {pc : Int} (h : f.length = 19) : Kp f (fTo f pc) pc :=
  ⟨fTo_len, fTo_get (by decide) (by decide), fTo_pc (by omega), fTo_st h, fun k hk => fTo_get (by omega) (by omega)⟩
theorem kp_on {f : List Int} (h : f.length = 19) (h0 : 0 ≤ f.getD 1 0) (h1 : f.getD 1 0 < 1000) : Kp f (fOn f) (f.getD 1 0 + 1) := by
  have := kp_to (pc := f.getD 1 0 + 1) h
  unfold Fr.fOn
  rwa [wrap_id ⟨by omega, by omega⟩]
theorem kp_set {f f' : List Int} {pc : Int} {r : Nat} {v : Int} (hr : r < 8) (k : Kp (f.set (2 + r) v) f' pc) : Kp f f' pc :=
  ⟨by rw [k.len, List.length_set], by rw [k.fn, set_get (by omega)], k.pc, by rw [k.st, set_get (by omega)], fun h hh => by rw [k.hs h hh, set_get (by omega)]⟩

/-! ### which instructions may be: the two ways to say it -/
theorem kinds_same : ∀ op, op < 17 → ∀ j, j < 4 → ((Ck.kflat.drop (op * 4)).take 4).getD j 0 = Fr.kindsT.getD (4 * op + j) 0 := by decide
theorem span_same (k : Int) : Ck.spanOf k = Fr.spanV k := by
  unfold Ck.spanOf Fr.spanV
  by_cases h1 : k = 1
  · subst h1; rfl
  by_cases h2 : k = 2
  · subst h2; rfl
  by_cases h3 : k = 3
  · subst h3; rfl
  by_cases h4 : k = 4
  · subst h4; rfl
  by_cases h5 : k = 5
  · subst h5; rfl
  rw [if_neg h1, if_neg h2, if_neg h3, if_neg h4, if_neg h5]
  simp [beq_eq_false_iff_ne.2 h1, beq_eq_false_iff_ne.2 h2, beq_eq_false_iff_ne.2 h3, beq_eq_false_iff_ne.2 h4, beq_eq_false_iff_ne.2 h5]
theorem chk_fr {x : List Int} (h : Ck.chk x = 0) : Fr.chk x = 0 := by
  unfold Ck.chk at h
  split at h
  · cases h
  · rename_i hno
    split at h
    · rename_i hf
      unfold opI at hno hf
      refine Fr.chk_good (by omega) fun j hj => ?_
      unfold Ck.fits at hf
      rw [List.all_eq_true] at hf
      have := hf j (by simpa using hj)
      unfold Ck.fit Ck.kinds at this
      rw [kinds_same _ (by omega) j hj, span_same] at this
      unfold Fr.inSpan Fr.spanOf
      simp only [Bool.not_eq_true', Bool.or_eq_false_iff, decide_eq_false_iff_not] at this
      simp only [decide_eq_true_eq]
      omega
    · cases h
end Go.Proofs.Ytgkfbagclkjilaa
