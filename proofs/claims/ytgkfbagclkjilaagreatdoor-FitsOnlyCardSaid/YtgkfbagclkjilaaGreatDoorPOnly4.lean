/-
  Layer 6, in plain terms: tasks, rows, steps, what a run comes to.
  Layer 6: what stays true of a task while it goes on.
  Layers 7 and 8, in plain terms: tables; rows that are followed.
  Maps, over parts of memory: a part tells, for each key, what the map has.
  Layer 7: what a table is: the code.
  Layer 7: what a table is, and a row's rows: the code.
  Layer 8, in plain terms: what stays true of a row while it is followed.
  The next instruction; which ones are points: the code.
  Layer 8: a row that is followed, in memory; what it is asked of scopes; what instructions do.
  Layer 8: what instructions do, in memory.
  Layer 8: closes, forks, joins, in memory.
  Layer 8: a step.
  Layer 8: how a row that was followed stands; all its steps.
  Layer 8: a row, followed.
  Layer 8, in plain terms: what rows begin with; all rows, one by one.
  Layer 8: all rows: the code.
-/
import Derived.Test.YtgkfbagclkjilaaGreatDoorPOnly3
import Derived.MapKept
import Derived.WideKeyRuns
set_option linter.unusedSimpArgs false
set_option linter.unusedVariables false
set_option maxRecDepth 100000
namespace Go.Proofs.YtgkfbagclkjilaaGreatDoor
open Go Go.Ev Go.Proofs
open Go.Proofs.YtgkfbagclkjilaaGreatDoor.Fr (fTo fOn fPlain fForked fJoined fClosed fChild fRoot fR isB fTo_len fOn_len fPlain_len fForked_len fJoined_len fClosed_len)
open Go.Proofs.YtgkfbagclkjilaaGreatDoor.Ck (opI Walk Accs needsOf isGoes heldL depths stepD handlesOk subBits scopesOk forks)
structure Rw where
  par : Int
  inn : Int
  fn : Int
  kind : Int
  v : Int
  steps : Int
  cl : List Bool
deriving DecidableEq
structure Tk where
  f : List Int
  row : Nat
  sc : List (Bool × Int)
  opened : Int
  nest : Nat
  off : Bool
deriving DecidableEq
structure Mc where
  rows : List Rw
  steps : Int
deriving DecidableEq
def insAt (P : List FnR) (f : List Int) : List Int := match P[(f.getD 0 0).toNat]? with
  | some g => g.code.getD (f.getD 1 0).toNat []
  | none => []
def r0 : Rw := ⟨0, 0, 0, 0, 0, 0, []⟩
def Mc.fin (m : Mc) (row : Nat) (f : List Int) (kind v : Int) : Mc := { m with rows := m.rows.set row { m.rows.getD row r0 with kind := kind, v := v, steps := f.getD 18 0 } }
def Mc.told (m : Mc) (row : Nat) (b : Bool) : Mc := { m with rows := m.rows.set row { m.rows.getD row r0 with cl := (m.rows.getD row r0).cl ++ [b] } }
def isPt (op : Int) : Bool := decide (6 ≤ op ∧ op ≤ 14 ∧ op ≠ 13)
inductive Stp where
  | fin (m : Mc)
  | bad (e : Int)
  | go (t : Tk) (m : Mc)
  | fork (c : Tk) (m : Mc) (i : List Int)
def hOf (i : List Int) : Int := i.getD (if i.getD 0 0 = 10 then 3 else 2) 0
def rOf (i : List Int) (t : Tk) (m : Mc) : Rw := m.rows.getD (t.f.getD (10 + (hOf i).toNat) 0).toNat r0
def act (P : List FnR) (i : List Int) (t : Tk) (m : Mc) : Stp :=
  if i.getD 0 0 = 8 then .fork ⟨fChild t.f (i.getD 4 0) (needsOf P (i.getD 4 0)), m.rows.length, [(false, 0)], 0, t.nest + t.sc.length, t.off || t.sc.any (·.1)⟩ { m with rows := m.rows ++ [⟨t.row, (t.sc.headD (false, 0)).2, i.getD 4 0, 0, 0, 0, []⟩] } i
  else if i.getD 0 0 = 9 ∨ i.getD 0 0 = 10 then
    if (fJoined t.f i (rOf i t m).kind (rOf i t m).v).2.2
    then .fin (m.fin t.row (fJoined t.f i (rOf i t m).kind (rOf i t m).v).1 3 (fJoined t.f i (rOf i t m).kind (rOf i t m).v).2.1)
    else .go { t with f := (fJoined t.f i (rOf i t m).kind (rOf i t m).v).1 } m
  else if i.getD 0 0 = 11 then .go { t with f := fOn t.f, sc := (false, t.opened + 1) :: t.sc, opened := t.opened + 1 } m
  else if i.getD 0 0 = 12 then .go { t with f := fClosed t.f i (t.sc.headD (false, 0)).1, sc := t.sc.tail } (m.told t.row (t.sc.headD (false, 0)).1)
  else if i.getD 0 0 = 13 then .go { t with f := fOn t.f, sc := (true, (t.sc.headD (false, 0)).2) :: t.sc.tail } m
  else if i.getD 0 0 = 14 then .go { t with f := fOn t.f } m
  else .fin (m.fin t.row (fOn t.f) (if i.getD 0 0 = 15 then 3 else 2) (fR (fOn t.f) (i.getD 1 0)))
def stp (P : List FnR) (F : Int) (t : Tk) (m : Mc) : Stp :=
  if t.off && ((t.f.getD 18 0 == 0) || isPt ((insAt P t.f).getD 0 0)) then .fin (m.fin t.row t.f 4 0)
  else if m.steps ≥ F then .bad 22
  else if ((insAt P t.f).getD 0 0 = 8 ∨ (insAt P t.f).getD 0 0 = 11) ∧ 32 ≤ t.nest + t.sc.length then .bad 23
  else if (fPlain t.f (insAt P t.f)).2 then .go { t with f := (fPlain t.f (insAt P t.f)).1 } { m with steps := m.steps + 1 }
  else act P (insAt P t.f) t { m with steps := m.steps + 1 }
inductive Res where
  | ok (m : Mc)
  | bad (e : Int)
inductive Goes (P : List FnR) (F : Int) : Tk → Mc → Res → Prop where
  | fin {t m m'} : stp P F t m = .fin m' → Goes P F t m (.ok m')
  | bad {t m e} : stp P F t m = .bad e → Goes P F t m (.bad e)
  | go {t m t' m' r} : stp P F t m = .go t' m' → Goes P F t' m' r → Goes P F t m r
  | forkBad {t m c m1 i e} : stp P F t m = .fork c m1 i → Goes P F c m1 (.bad e) → Goes P F t m (.bad e)
  | fork {t m c m1 i m2 r} : stp P F t m = .fork c m1 i → Goes P F c m1 (.ok m2) → Goes P F { t with f := fForked t.f i c.row } m2 r → Goes P F t m r
def t0 : Tk := ⟨fRoot, 0, [(false, 0)], 0, 0, false⟩
def m0 : Mc := ⟨[⟨-1, 0, 0, 0, 0, 0, []⟩], 0⟩
theorem Goes.det {P : List FnR} {F : Int} {t : Tk} {m : Mc} {r : Res} (h : Goes P F t m r) : ∀ {r' : Res}, Goes P F t m r' → r = r' := by
  induction h with
  | fin h =>
    intro r' h'
    cases h' with
    | fin h2 => rw [h] at h2; cases h2; rfl
    | bad h2 => rw [h] at h2; cases h2
    | go h2 => rw [h] at h2; cases h2
    | forkBad h2 => rw [h] at h2; cases h2
    | fork h2 => rw [h] at h2; cases h2
  | bad h =>
    intro r' h'
    cases h' with
    | fin h2 => rw [h] at h2; cases h2
    | bad h2 => rw [h] at h2; cases h2; rfl
    | go h2 => rw [h] at h2; cases h2
    | forkBad h2 => rw [h] at h2; cases h2
    | fork h2 => rw [h] at h2; cases h2
  | go h _ ih =>
    intro r' h'
    cases h' with
    | fin h2 => rw [h] at h2; cases h2
    | bad h2 => rw [h] at h2; cases h2
    | go h2 h3 => rw [h] at h2; cases h2; exact ih h3
    | forkBad h2 => rw [h] at h2; cases h2
    | fork h2 => rw [h] at h2; cases h2
  | forkBad h _ ih =>
    intro r' h'
    cases h' with
    | fin h2 => rw [h] at h2; cases h2
    | bad h2 => rw [h] at h2; cases h2
    | go h2 => rw [h] at h2; cases h2
    | forkBad h2 h3 => rw [h] at h2; cases h2; exact ih h3
    | fork h2 h3 => rw [h] at h2; cases h2; have := ih h3; cases this
  | fork h _ _ ih1 ih2 =>
    intro r' h'
    cases h' with
    | fin h2 => rw [h] at h2; cases h2
    | bad h2 => rw [h] at h2; cases h2
    | go h2 => rw [h] at h2; cases h2
    | forkBad h2 h3 => rw [h] at h2; cases h2; have := ih1 h3; cases this
    | fork h2 h3 h4 => rw [h] at h2; cases h2; have := ih1 h3; cases this; exact ih2 h4
theorem act_steps {P : List FnR} {i : List Int} {t : Tk} {m : Mc} : (∀ m', act P i t m = .fin m' → m'.steps = m.steps) ∧ (∀ e, act P i t m ≠ .bad e) ∧ (∀ t' m', act P i t m = .go t' m' → m'.steps = m.steps ∧ t'.row = t.row ∧ t'.nest = t.nest ∧ t'.off = t.off) ∧ ∀ c m' j, act P i t m = .fork c m' j → m'.steps = m.steps ∧ j = i ∧ i.getD 0 0 = 8 := by
  unfold act
  repeat' split
  all_goals refine ⟨fun m' h => ?_, fun e h => ?_, fun t' m' h => ?_, fun c m' j h => ?_⟩
  all_goals cases h
  all_goals first | rfl | exact ⟨rfl, rfl, rfl, rfl⟩ | (refine ⟨rfl, rfl, ?_⟩; assumption)
theorem stp_fin {P : List FnR} {F : Int} {t : Tk} {m m' : Mc} (h : stp P F t m = .fin m') : m.steps ≤ m'.steps ∧ m'.steps ≤ m.steps + 1 ∧ (m'.steps ≤ F ∨ m'.steps = m.steps) := by
  unfold stp at h
  split at h
  · cases h; exact ⟨Int.le_refl _, by show m.steps ≤ m.steps + 1; omega, .inr rfl⟩
  · split at h
    · cases h
    · split at h
      · cases h
      · split at h
        · cases h
        · have := act_steps.1 m' h; dsimp only at this; exact ⟨by omega, by omega, .inl (by omega)⟩
theorem stp_go {P : List FnR} {F : Int} {t t' : Tk} {m m' : Mc} (h : stp P F t m = .go t' m') : m.steps < F ∧ m'.steps = m.steps + 1 ∧ t'.row = t.row ∧ t'.nest = t.nest ∧ t'.off = t.off := by
  unfold stp at h
  split at h
  · cases h
  · split at h
    · cases h
    · split at h
      · cases h
      · split at h
        · cases h; exact ⟨by omega, rfl, rfl, rfl, rfl⟩
        · have := act_steps.2.2.1 t' m' h; dsimp only at this; exact ⟨by omega, by omega, this.2.1, this.2.2.1, this.2.2.2⟩
theorem stp_fork {P : List FnR} {F : Int} {t c : Tk} {m m' : Mc} {i : List Int} (h : stp P F t m = .fork c m' i) : m.steps < F ∧ m'.steps = m.steps + 1 ∧ i = insAt P t.f ∧ i.getD 0 0 = 8 ∧ t.nest + t.sc.length < 32
    ∧ c = ⟨fChild t.f (i.getD 4 0) (needsOf P (i.getD 4 0)), m.rows.length, [(false, 0)], 0, t.nest + t.sc.length, t.off || t.sc.any (·.1)⟩ ∧ m'.rows = m.rows ++ [⟨t.row, (t.sc.headD (false, 0)).2, i.getD 4 0, 0, 0, 0, []⟩] := by
  unfold stp at h
  split at h
  · cases h
  · split at h
    · cases h
    · split at h
      · cases h
      · rename_i hno
        split at h
        · cases h
        · have := act_steps.2.2.2 c m' i h
          dsimp only at this
          obtain ⟨e1, e2, e3⟩ := this
          subst e2
          unfold act at h
          rw [if_pos e3] at h
          cases h
          exact ⟨by omega, e1, rfl, e3, by omega, rfl, rfl⟩
theorem Goes.le {P : List FnR} {F : Int} {t : Tk} {m : Mc} {r : Res} (h : Goes P F t m r) : ∀ {m' : Mc}, r = .ok m' → m.steps ≤ m'.steps ∧ (m.steps ≤ F → m'.steps ≤ F) := by
  induction h with
  | fin h => intro m' e; cases e; have := stp_fin h; exact ⟨this.1, fun q => by omega⟩
  | bad h => intro m' e; cases e
  | go h _ ih => intro m' e; have h2 := ih e; have h3 := stp_go h; exact ⟨by omega, fun q => h2.2 (by omega)⟩
  | forkBad h _ ih => intro m' e; cases e
  | fork h _ _ ih1 ih2 => intro m' e; have h1 := ih1 rfl; have h2 := ih2 e; have := stp_fork h; exact ⟨by omega, fun q => h2.2 (h1.2 (by omega))⟩
theorem Goes.total (P : List FnR) (F : Int) : ∀ (n : Nat) (t : Tk) (m : Mc), (F - m.steps).toNat ≤ n → ∃ r, Goes P F t m r
  | n, t, m, hn => by
    cases h : stp P F t m with
    | fin m' => exact ⟨_, .fin h⟩
    | bad e => exact ⟨_, .bad h⟩
    | go t' m' =>
      have := stp_go h
      cases n with
      | zero => omega
      | succ n =>
        obtain ⟨r, hr⟩ := Goes.total P F n t' m' (by omega)
        exact ⟨r, .go h hr⟩
    | fork c m1 i =>
      have := stp_fork h
      cases n with
      | zero => omega
      | succ n =>
        obtain ⟨r, hr⟩ := Goes.total P F n c m1 (by omega)
        cases r with
        | bad e => exact ⟨_, .forkBad h hr⟩
        | ok m2 =>
          have h1 := hr.le rfl
          obtain ⟨r, hr2⟩ := Goes.total P F n { t with f := fForked t.f i c.row } m2 (by omega)
          exact ⟨r, .fork h hr hr2⟩
theorem fTo_get {f : List Int} {pc : Int} {j : Nat} (h1 : j ≠ 1) (h18 : j ≠ 18) : (fTo f pc).getD j 0 = f.getD j 0 := by
  unfold fTo
  simp only [List.getD_eq_getElem?_getD, List.getElem?_set_ne (Ne.symm h18), List.getElem?_set_ne (Ne.symm h1)]
theorem fTo_pc {f : List Int} {pc : Int} (h : 1 < f.length) : (fTo f pc).getD 1 0 = pc := by
  unfold fTo
  simp only [List.getD_eq_getElem?_getD, List.getElem?_set_ne (by decide : (18 : Nat) ≠ 1)]
  rw [List.getElem?_set_self h]; rfl
theorem fTo_st {f : List Int} {pc : Int} (h : f.length = 19) : (fTo f pc).getD 18 0 = IntKind.i64.wrap (f.getD 18 0 + 1) := by
  unfold fTo
  simp only [List.getD_eq_getElem?_getD]
  rw [List.getElem?_set_self (by simp; omega), List.getElem?_set_ne (by decide : (1 : Nat) ≠ 18)]; rfl
theorem set_get {f : List Int} {j i : Nat} {v : Int} (h : i ≠ j) : (f.set i v).getD j 0 = f.getD j 0 := by
  simp only [List.getD_eq_getElem?_getD, List.getElem?_set_ne h]
theorem set_at {f : List Int} {i : Nat} {v : Int} (h : i < f.length) : (f.set i v).getD i 0 = v := by
  simp [List.getD_eq_getElem?_getD, h]
structure Kp (f f' : List Int) (pc : Int) : Prop where
  len : f'.length = f.length
  fn : f'.getD 0 0 = f.getD 0 0
  pc : f'.getD 1 0 = pc
  st : f'.getD 18 0 = IntKind.i64.wrap (f.getD 18 0 + 1)
  hs : ∀ h : Nat, h < 8 → f'.getD (10 + h) 0 = f.getD (10 + h) 0
theorem kp_to {f : List Int} {pc : Int} (h : f.length = 19) : Kp f (fTo f pc) pc :=
  ⟨fTo_len, fTo_get (by decide) (by decide), fTo_pc (by omega), fTo_st h, fun k hk => fTo_get (by omega) (by omega)⟩
theorem kp_on {f : List Int} (h : f.length = 19) (h0 : 0 ≤ f.getD 1 0) (h1 : f.getD 1 0 < 1000) : Kp f (fOn f) (f.getD 1 0 + 1) := by
  have := kp_to (pc := f.getD 1 0 + 1) h
  unfold Fr.fOn
  rwa [wrap_id ⟨by omega, by omega⟩]
theorem kp_set {f f' : List Int} {pc : Int} {r : Nat} {v : Int} (hr : r < 8) (k : Kp (f.set (2 + r) v) f' pc) : Kp f f' pc :=
  ⟨by rw [k.len, List.length_set], by rw [k.fn, set_get (by omega)], k.pc, by rw [k.st, set_get (by omega)], fun h hh => by rw [k.hs h hh, set_get (by omega)]⟩
theorem kinds_same : ∀ op, op < 17 → ∀ j, j < 4 → ((Ck.kflat.drop (op * 4)).take 4).getD j 0 = Fr.kindsT.getD (4 * op + j) 0 := by decide
theorem span_same (k : Int) : Ck.spanOf k = Fr.spanV k := by
  unfold Ck.spanOf Fr.spanV
  by_cases h1 : k = 1
  · subst h1; rfl
  by_cases h2 : k = 2
  · subst h2; rfl
  by_cases h3 : k = 3
  · subst h3; rfl
  by_cases h4 : k = 4
  · subst h4; rfl
  by_cases h5 : k = 5
  · subst h5; rfl
  rw [if_neg h1, if_neg h2, if_neg h3, if_neg h4, if_neg h5]
  simp [beq_eq_false_iff_ne.2 h1, beq_eq_false_iff_ne.2 h2, beq_eq_false_iff_ne.2 h3, beq_eq_false_iff_ne.2 h4, beq_eq_false_iff_ne.2 h5]
theorem chk_fr {x : List Int} (h : Ck.chk x = 0) : Fr.chk x = 0 := by
  unfold Ck.chk at h
  split at h
  · cases h
  · rename_i hno
    split at h
    · rename_i hf
      unfold opI at hno hf
      refine Fr.chk_good (by omega) fun j hj => ?_
      unfold Ck.fits at hf
      rw [List.all_eq_true] at hf
      have := hf j (by simpa using hj)
      unfold Ck.fit Ck.kinds at this
      rw [kinds_same _ (by omega) j hj, span_same] at this
      unfold Fr.inSpan Fr.spanOf
      simp only [Bool.not_eq_true', Bool.or_eq_false_iff, decide_eq_false_iff_not] at this
      simp only [decide_eq_true_eq]
      omega
    · cases h
end Go.Proofs.YtgkfbagclkjilaaGreatDoor
namespace Go.Proofs.YtgkfbagclkjilaaGreatDoor
open Go Go.Ev Go.Proofs
open Go.Proofs.YtgkfbagclkjilaaGreatDoor.Fr (fTo fOn fPlain fForked fJoined fClosed fChild fRoot fR isB fTo_len fOn_len fPlain_len fForked_len fJoined_len fClosed_len)
open Go.Proofs.YtgkfbagclkjilaaGreatDoor.Ck (opI Walk Accs needsOf isGoes heldL depths stepD handlesOk subBits scopesOk forks)
def Ended (rows : List Rw) (j : Nat) : Prop := ∃ r, rows[j]? = some r ∧ (r.kind = 2 ∨ r.kind = 3 ∨ r.kind = 4)
def More (a b : List Rw) : Prop := a.length ≤ b.length ∧ ∀ j, Ended a j → Ended b j
theorem More.refl (a : List Rw) : More a a := ⟨Nat.le_refl _, fun _ h => h⟩
theorem More.trans {a b c : List Rw} (h : More a b) (k : More b c) : More a c := ⟨Nat.le_trans h.1 k.1, fun j q => k.2 j (h.2 j q)⟩
theorem More.app (a : List Rw) (r : Rw) : More a (a ++ [r]) := ⟨by simp, fun j ⟨x, hx, hk⟩ => ⟨x, by rw [List.getElem?_append_left (List.getElem?_eq_some_iff.1 hx).1]; exact hx, hk⟩⟩
theorem More.set {a : List Rw} {i : Nat} {r : Rw} (h : i < a.length) (hr : r.kind = (a.getD i r0).kind ∨ r.kind = 2 ∨ r.kind = 3 ∨ r.kind = 4) : More a (a.set i r) := by
  refine ⟨by simp, fun j ⟨x, hx, hk⟩ => ?_⟩
  by_cases e : i = j
  · subst e
    refine ⟨r, by rw [List.getElem?_set_self h], ?_⟩
    rcases hr with hr | hr
    · rw [List.getD_eq_getElem?_getD, hx] at hr
      simp only [Option.getD_some] at hr
      rw [hr]; exact hk
    · exact hr
  · exact ⟨x, by rw [List.getElem?_set_ne e]; exact hx, hk⟩
theorem more_fin {m : Mc} {row : Nat} {f : List Int} {kind v : Int} (h : row < m.rows.length) (hk : kind = 2 ∨ kind = 3 ∨ kind = 4) : More m.rows (m.fin row f kind v).rows := More.set h (.inr hk)
theorem more_told {m : Mc} {row : Nat} {b : Bool} (h : row < m.rows.length) : More m.rows (m.told row b).rows := More.set h (.inl rfl)
theorem ended_fin {m : Mc} {row : Nat} {f : List Int} {kind v : Int} (h : row < m.rows.length) (hk : kind = 2 ∨ kind = 3 ∨ kind = 4) : Ended (m.fin row f kind v).rows row := ⟨_, List.getElem?_set_self h, hk⟩
def Hds (rows : List Rw) (f : List Int) (hv : Int) : Prop := ∀ h : Nat, h < 8 → tb hv h = true → 0 ≤ f.getD (10 + h) 0 ∧ Ended rows (f.getD (10 + h) 0).toNat
theorem Hds.more {a b : List Rw} {f f' : List Int} {hv : Int} (h : Hds a f hv) (hm : More a b) (hs : ∀ h : Nat, h < 8 → f'.getD (10 + h) 0 = f.getD (10 + h) 0) : Hds b f' hv := fun k hk ht => by
  have := h k hk ht
  rw [hs k hk]
  exact ⟨this.1, hm.2 _ this.2⟩
structure Inv (P : List FnR) (t : Tk) (m : Mc) : Prop where
  len : t.f.length = 19
  row : t.row < m.rows.length
  sc : t.sc ≠ []
  nest : t.nest + t.sc.length ≤ 32
  f0 : 0 ≤ t.f.getD 0 0
  fn : ∃ g, P[(t.f.getD 0 0).toNat]? = some g ∧ ∃ hv, Walk P g hv ((t.sc.length : Int) - 1) (t.f.getD 1 0) ∧ Hds m.rows t.f hv
section
variable {P : List FnR} {F : Int} {t : Tk} {m : Mc}
structure At1 (P : List FnR) (t : Tk) (m : Mc) (g : FnR) (hv : Int) (i : List Int) : Prop where
  at0 : P[(t.f.getD 0 0).toNat]? = some g
  acc : Ck.Acc P g
  walk : Walk P g hv ((t.sc.length : Int) - 1) (t.f.getD 1 0)
  hds : Hds m.rows t.f hv
  ins : g.code[(t.f.getD 1 0).toNat]? = some i
  chk : Ck.chk i = 0
  good : Ck.Good P g.code.length (depths 0 g.code) (heldL g.code g.needs) (t.f.getD 1 0).toNat i
theorem Inv.at (hA : Accs P) (h : Inv P t m) : ∃ g hv, At1 P t m g hv (insAt P t.f) := by
  obtain ⟨g, hg, hv, hW, hH⟩ := h.fn
  have hacc := hA.all g (List.mem_of_getElem? hg)
  have h0 := hW.a0; have h1 := hW.a1
  have e : insAt P t.f = g.code.getD (t.f.getD 1 0).toNat [] := by unfold insAt; rw [hg]
  have hlt : (t.f.getD 1 0).toNat < g.code.length := by omega
  have hi : g.code[(t.f.getD 1 0).toNat]? = some (insAt P t.f) := by
    rw [e, List.getD_eq_getElem?_getD (l := g.code), List.getElem?_eq_getElem hlt, Option.getD_some]
  exact ⟨g, hv, hg, hacc, hW, hH, hi, hacc.ok _ (List.mem_of_getElem? hi), Ck.walk_good hacc hW hi⟩
theorem isB_of {i : List Int} {op : Int} (hc : Ck.chk i = 0) (h : i.getD 0 0 = op) : isB i op = true := by unfold Fr.isB; rw [h, chk_fr hc]; simp
theorem plain_keep {f i : List Int} (hc : Ck.chk i = 0) (hf : f.length = 19) (h0 : 0 ≤ f.getD 1 0) (h1 : f.getD 1 0 < 1000) (hp : (fPlain f i).2 = true) :
    (isGoes i = true ∧ Kp f (fPlain f i).1 (i.getD 4 0)) ∨ (opI i ≤ 7 ∧ opI i ≠ 6 ∧ Kp f (fPlain f i).1 (f.getD 1 0 + 1)) := by
  have hr := Fr.chk_regs (chk_fr hc)
  unfold opI
  revert hp
  unfold Fr.fPlain
  rw [if_neg (by rw [chk_fr hc]; simp)]
  split
  · rename_i hb
    intro _
    exact .inl ⟨by
      rcases hb with hb | hb
      · show ((i.getD 0 0 == 6) || (i.getD 0 0 == 7)) = true; rw [hb]; rfl
      · show ((i.getD 0 0 == 6) || (i.getD 0 0 == 7)) = true; rw [hb.1]; rfl, kp_to hf⟩
  · split
    · rename_i hb
      intro _
      exact .inr ⟨by omega, by omega, kp_on hf h0 h1⟩
    · split
      · intro q; cases q
      · rename_i h6 h7 h5
        intro _
        have hlt : (i.getD 1 0).toNat < 8 := by omega
        refine .inr ⟨by omega, by omega, kp_set (r := (i.getD 1 0).toNat) (v := Fr.sumV f i) hlt ?_⟩
        have := kp_on (f := f.set (2 + (i.getD 1 0).toNat) (Fr.sumV f i)) (by simpa using hf) (by rw [set_get (by omega)]; exact h0) (by rw [set_get (by omega)]; exact h1)
        rwa [set_get (by omega)] at this
theorem plain_not {f i : List Int} (hc : Ck.chk i = 0) (hp : (fPlain f i).2 = false) : 8 ≤ i.getD 0 0 ∧ i.getD 0 0 ≤ 16 := by
  have hk := Ck.chk0 hc
  unfold opI at hk
  revert hp
  unfold Fr.fPlain
  rw [if_neg (by rw [chk_fr hc]; simp)]
  split
  · intro q; cases q
  · split
    · intro q; cases q
    · split
      · rename_i h6 h7 h5
        intro _
        omega
      · intro q; cases q
theorem inv_next {g : FnR} {hv : Int} {i : List Int} {t' : Tk} {m' : Mc} (h : Inv P t m) (ha : At1 P t m g hv i) (h6 : opI i ≠ 6) (h15 : opI i ≠ 15) (h16 : opI i ≠ 16) (h8 : opI i ≠ 8) (hk : Kp t.f t'.f (t.f.getD 1 0 + 1))
    (hrow : t'.row = t.row) (hm : More m.rows m'.rows) (hsc : t'.sc ≠ []) (hnest : t'.nest + t'.sc.length ≤ 32) (hl : ((t'.sc.length : Int) - 1) = stepD ((t.sc.length : Int) - 1) i) : Inv P t' m' := by
  have hlen := h.len
  refine ⟨by rw [hk.len, hlen], by rw [hrow]; exact Nat.lt_of_lt_of_le h.row hm.1, hsc, hnest, by rw [hk.fn]; exact h.f0, g, by rw [hk.fn]; exact ha.at0, hv, ?_, ha.hds.more hm hk.hs⟩
  rw [hl, hk.pc]
  exact Ck.walk_next ha.acc ha.walk ha.ins h6 h15 h16 h8
theorem inv_goes {g : FnR} {hv : Int} {i : List Int} {t' : Tk} {m' : Mc} (h : Inv P t m) (ha : At1 P t m g hv i) (hgo : isGoes i = true) (hk : Kp t.f t'.f (i.getD 4 0))
    (hrow : t'.row = t.row) (hm : More m.rows m'.rows) (hsc : t'.sc = t.sc) (hnest : t'.nest = t.nest) : Inv P t' m' := by
  have hlen := h.len
  refine ⟨by rw [hk.len, hlen], by rw [hrow]; exact Nat.lt_of_lt_of_le h.row hm.1, by rw [hsc]; exact h.sc, by rw [hsc, hnest]; exact h.nest, by rw [hk.fn]; exact h.f0, g, by rw [hk.fn]; exact ha.at0, hv, ?_, ha.hds.more hm hk.hs⟩
  rw [hsc, hk.pc]
  exact Ck.walk_goes ha.acc ha.walk ha.ins hgo
theorem at_pc {g : FnR} {hv : Int} {i : List Int} (ha : At1 P t m g hv i) : 0 ≤ t.f.getD 1 0 ∧ t.f.getD 1 0 < 1000 := by
  have h0 := ha.walk.a0; have h1 := ha.walk.a1; have := ha.acc.l1
  omega
theorem at_join {g : FnR} {hv : Int} {i : List Int} (ha : At1 P t m g hv i) (h : i.getD 0 0 = 9 ∨ i.getD 0 0 = 10) :
    0 ≤ hOf i ∧ hOf i < 8 ∧ 0 ≤ t.f.getD (10 + (hOf i).toNat) 0 ∧ Ended m.rows (t.f.getD (10 + (hOf i).toNat) 0).toNat := by
  have hr := Fr.chk_regs (chk_fr ha.chk)
  have hg := ha.good.handles
  unfold handlesOk at hg
  unfold opI at hg
  unfold hOf
  rcases h with h | h
  · rw [if_neg (by omega)]
    rw [if_pos (by rw [h]; rfl)] at hg
    have := ha.hds _ (by omega) (Ck.walk_held ha.walk (by omega) hg)
    exact ⟨hr.2.1.1, hr.2.1.2, this⟩
  · rw [if_pos h]
    rw [if_neg (by rw [h]; decide), if_pos (by rw [h]; rfl)] at hg
    have := ha.hds _ (by omega) (Ck.walk_held ha.walk (by omega) hg)
    exact ⟨hr.2.2.1, hr.2.2.2, this⟩
theorem joined_keep {f i : List Int} {kind v : Int} (hc : Ck.chk i = 0) (hf : f.length = 19) (h0 : 0 ≤ f.getD 1 0) (h1 : f.getD 1 0 < 1000) (ho : i.getD 0 0 = 9 ∨ i.getD 0 0 = 10) (hk : kind = 2 ∨ kind = 3 ∨ kind = 4)
    (hb : (fJoined f i kind v).2.2 = false) : Kp f (fJoined f i kind v).1 (f.getD 1 0 + 1) := by
  have hr := Fr.chk_regs (chk_fr hc)
  revert hb
  unfold Fr.fJoined
  rw [if_neg (by rcases ho with ho | ho <;> rw [isB_of hc ho] <;> simp <;> omega)]
  split
  · intro _
    have := kp_on (f := (f.set (2 + (i.getD 1 0).toNat) (if kind = 4 then 0 else v)).set (2 + (i.getD 2 0).toNat) (IntKind.i64.wrap (kind - 2))) (by simpa using hf) (by rw [set_get (by omega), set_get (by omega)]; exact h0) (by rw [set_get (by omega), set_get (by omega)]; exact h1)
    rw [set_get (by omega), set_get (by omega)] at this
    exact kp_set (by omega) (kp_set (by omega) this)
  · split
    · intro _
      have := kp_on (f := (f.set (2 + (i.getD 1 0).toNat) v)) (by simpa using hf) (by rw [set_get (by omega)]; exact h0) (by rw [set_get (by omega)]; exact h1)
      rw [set_get (by omega)] at this
      exact kp_set (by omega) this
    · intro q; cases q
theorem closed_keep {f i : List Int} {b : Bool} (hc : Ck.chk i = 0) (hf : f.length = 19) (h0 : 0 ≤ f.getD 1 0) (h1 : f.getD 1 0 < 1000) (ho : i.getD 0 0 = 12) : Kp f (fClosed f i b) (f.getD 1 0 + 1) := by
  have hr := Fr.chk_regs (chk_fr hc)
  unfold Fr.fClosed
  rw [if_pos (isB_of hc ho)]
  have := kp_on (f := f.set (2 + (i.getD 1 0).toNat) (if b then 1 else 0)) (by simpa using hf) (by rw [set_get (by omega)]; exact h0) (by rw [set_get (by omega)]; exact h1)
  rw [set_get (by omega)] at this
  exact kp_set (by omega) this
theorem at_scopes {g : FnR} {hv : Int} {i : List Int} (ha : At1 P t m g hv i) (h : i.getD 0 0 = 12 ∨ i.getD 0 0 = 13) : 2 ≤ t.sc.length := by
  have hg := ha.good.scopes
  have ho := ha.walk.open'
  unfold scopesOk opI at hg
  rw [if_pos (by rcases h with h | h <;> rw [h] <;> rfl)] at hg
  have := of_decide_eq_true hg
  omega
theorem tail_ne {A : Type} {l : List A} (h : 2 ≤ l.length) : l.tail ≠ [] := by
  match l, h with
  | _ :: _ :: _, _ => simp
theorem inv_go (hA : Accs P) (h : Inv P t m) {t' : Tk} {m' : Mc} (hs : stp P F t m = .go t' m') : Inv P t' m' ∧ More m.rows m'.rows := by
  obtain ⟨g, hv, ha⟩ := h.at hA
  obtain ⟨hp0, hp1⟩ := at_pc ha
  have hn := h.nest
  have hs1 : 1 ≤ t.sc.length := List.length_pos_iff.2 h.sc
  unfold stp at hs
  split at hs
  · cases hs
  split at hs
  · cases hs
  split at hs
  · cases hs
  rename_i hdeep
  split at hs
  · rename_i hp
    cases hs
    refine ⟨?_, More.refl _⟩
    rcases plain_keep ha.chk h.len hp0 hp1 hp with ⟨hgo, hk⟩ | ⟨h7, h6, hk⟩
    · exact inv_goes h ha hgo hk rfl (More.refl _) rfl rfl
    · exact inv_next h ha h6 (by omega) (by omega) (by omega) hk rfl (More.refl _) h.sc hn (by unfold stepD; rw [if_neg (by omega), if_neg (by omega)])
  · rename_i hp
    have hop := plain_not ha.chk (by simpa using hp)
    unfold act at hs
    split at hs
    · cases hs
    split at hs
    · rename_i h8 h910
      obtain ⟨_, _, _, r, hr, hk⟩ := at_join ha h910
      split at hs
      · cases hs
      · rename_i hb
        cases hs
        refine ⟨?_, More.refl _⟩
        have hkk : rOf (insAt P t.f) t { m with steps := m.steps + 1 } = r := by unfold rOf; rw [List.getD_eq_getElem?_getD]; dsimp only; rw [hr]; rfl
        refine inv_next h ha (by unfold opI; omega) (by unfold opI; omega) (by unfold opI; omega) (by unfold opI; omega) ?_ rfl (More.refl _) h.sc hn (by unfold stepD opI; rw [if_neg (by omega), if_neg (by omega)])
        exact joined_keep ha.chk h.len hp0 hp1 h910 (by rw [hkk]; exact hk) (by simpa using hb)
    split at hs
    · rename_i h8 h9 h11
      cases hs
      refine ⟨inv_next h ha (by unfold opI; omega) (by unfold opI; omega) (by unfold opI; omega) (by unfold opI; omega) (kp_on h.len hp0 hp1) rfl (More.refl _) (by simp) (by simp; omega) ?_, More.refl _⟩
      unfold stepD opI; rw [if_pos h11, wrap_id ⟨by omega, by omega⟩]; simp
    split at hs
    · rename_i h8 h9 h11 h12
      cases hs
      have hl := at_scopes ha (.inl h12)
      refine ⟨inv_next h ha (by unfold opI; omega) (by unfold opI; omega) (by unfold opI; omega) (by unfold opI; omega) (closed_keep ha.chk h.len hp0 hp1 h12) rfl (more_told h.row) (tail_ne hl) (by simp; omega) ?_, more_told h.row⟩
      unfold stepD opI; rw [if_neg h11, if_pos h12, wrap_id ⟨by omega, by omega⟩]; simp; omega
    split at hs
    · rename_i h8 h9 h11 h12 h13
      cases hs
      have hl := at_scopes ha (.inr h13)
      refine ⟨inv_next h ha (by unfold opI; omega) (by unfold opI; omega) (by unfold opI; omega) (by unfold opI; omega) (kp_on h.len hp0 hp1) rfl (More.refl _) (by simp) (by simp; omega) ?_, More.refl _⟩
      unfold stepD opI; rw [if_neg h11, if_neg h12]; simp; omega
    split at hs
    · rename_i h8 h9 h11 h12 h13 h14
      cases hs
      refine ⟨inv_next h ha (by unfold opI; omega) (by unfold opI; omega) (by unfold opI; omega) (by unfold opI; omega) (kp_on h.len hp0 hp1) rfl (More.refl _) h.sc hn ?_, More.refl _⟩
      unfold stepD opI; rw [if_neg h11, if_neg h12]
    · cases hs
theorem fin_inv (hA : Accs P) (h : Inv P t m) {m' : Mc} (hs : stp P F t m = .fin m') : More m.rows m'.rows ∧ Ended m'.rows t.row := by
  unfold stp at hs
  split at hs
  · cases hs; exact ⟨more_fin h.row (by omega), ended_fin h.row (by omega)⟩
  split at hs
  · cases hs
  split at hs
  · cases hs
  split at hs
  · cases hs
  unfold act at hs
  split at hs
  · cases hs
  split at hs
  · split at hs
    · cases hs; exact ⟨more_fin (m := { m with steps := m.steps + 1 }) h.row (by omega), ended_fin (m := { m with steps := m.steps + 1 }) h.row (by omega)⟩
    · cases hs
  split at hs
  · cases hs
  split at hs
  · cases hs
  split at hs
  · cases hs
  split at hs
  · cases hs
  cases hs
  exact ⟨more_fin (m := { m with steps := m.steps + 1 }) h.row (by split <;> omega), ended_fin (m := { m with steps := m.steps + 1 }) h.row (by split <;> omega)⟩
theorem child_get {f : List Int} {n needs : Int} (hf : f.length = 19) : (fChild f n needs).length = 19 ∧ (fChild f n needs).getD 0 0 = n ∧ (fChild f n needs).getD 1 0 = 0 ∧ (fChild f n needs).getD 18 0 = 0 ∧ ∀ h : Nat, h < 8 → (fChild f n needs).getD (10 + h) 0 = if tb needs h then f.getD (10 + h) 0 else -1 := by
  obtain ⟨x0, x1, x2, x3, x4, x5, x6, x7, x8, x9, x10, x11, x12, x13, x14, x15, x16, x17, x18, rfl⟩ := Fr.list19 hf
  refine ⟨rfl, rfl, rfl, rfl, fun h hh => ?_⟩
  match h, hh with
  | 0, _ => rfl
  | 1, _ => rfl
  | 2, _ => rfl
  | 3, _ => rfl
  | 4, _ => rfl
  | 5, _ => rfl
  | 6, _ => rfl
  | 7, _ => rfl
theorem at_fork {g : FnR} {hv : Int} {i : List Int} (ha : At1 P t m g hv i) (h : i.getD 0 0 = 8) : ∃ g', P[(i.getD 4 0).toNat]? = some g' ∧ 0 ≤ i.getD 4 0 ∧ needsOf P (i.getD 4 0) = g'.needs ∧ 0 ≤ i.getD 1 0 ∧ i.getD 1 0 < 8 ∧ ∀ k : Nat, k < 8 → tb g'.needs k = true → tb hv k = true := by
  have hpl := (Ck.places_in ha.good.places).2 h
  have hc := (Ck.chk0 ha.chk).2.2.2.1 h
  have hr := Fr.chk_regs (chk_fr ha.chk)
  obtain ⟨g', hg'⟩ : ∃ g', P[(i.getD 4 0).toNat]? = some g' := ⟨_, List.getElem?_eq_getElem (by omega)⟩
  refine ⟨g', hg', hc.1, Ck.needs_get hg', hr.1.1, hr.1.2, fun k hk ht => ?_⟩
  have hh := ha.good.handles
  unfold handlesOk opI at hh
  rw [if_neg (by rw [h]; decide), if_neg (by rw [h]; decide), if_pos (by rw [h]; rfl), Ck.needs_get hg'] at hh
  exact Ck.walk_held ha.walk hk (Ck.subBits_iff.1 hh k hk ht)
theorem inv_child (hA : Accs P) (hI : ∀ g ∈ P, InI g.needs) (h : Inv P t m) {c : Tk} {m1 : Mc} {i : List Int} (hs : stp P F t m = .fork c m1 i) : Inv P c m1 ∧ More m.rows m1.rows := by
  obtain ⟨g, hv, ha⟩ := h.at hA
  obtain ⟨_, _, rfl, h8, hn, rfl, hrows⟩ := stp_fork hs
  obtain ⟨g', hg', h40, hnd, hA0, hA1, hsub⟩ := at_fork ha h8
  obtain ⟨c1, c2, c3, c4, c5⟩ := child_get (f := t.f) (n := (insAt P t.f).getD 4 0) (needs := g'.needs) h.len
  have hm : More m.rows m1.rows := by rw [hrows]; exact More.app _ _
  have hacc := hA.all g' (List.mem_of_getElem? hg')
  rw [hnd]
  refine ⟨⟨c1, by rw [hrows]; simp, by simp, by simp; omega, by dsimp only; rw [c2]; exact h40, g', by dsimp only; rw [c2]; exact hg', g'.needs, by dsimp only; rw [c3]; exact Ck.walk_start hacc (hI g' (List.mem_of_getElem? hg')), fun k hk ht => ?_⟩, hm⟩
  dsimp only
  rw [c5 k hk, if_pos ht]
  have := ha.hds k hk (hsub k hk ht)
  exact ⟨this.1, hm.2 _ this.2⟩
theorem forked_get {f i : List Int} {id : Int} (hc : Ck.chk i = 0) (h8 : i.getD 0 0 = 8) (hf : f.length = 19) (h0 : 0 ≤ f.getD 1 0) (h1 : f.getD 1 0 < 1000) : (fForked f i id).length = 19 ∧ (fForked f i id).getD 0 0 = f.getD 0 0 ∧ (fForked f i id).getD 1 0 = f.getD 1 0 + 1
    ∧ (fForked f i id).getD 18 0 = IntKind.i64.wrap (f.getD 18 0 + 1) ∧ ∀ h : Nat, h < 8 → (fForked f i id).getD (10 + h) 0 = if i.getD 1 0 = h then id else f.getD (10 + h) 0 := by
  have hr := Fr.chk_regs (chk_fr hc)
  unfold Fr.fForked
  rw [if_pos (isB_of hc h8)]
  have k := kp_on (f := f.set (10 + (i.getD 1 0).toNat) id) (by simpa using hf) (by rw [set_get (by omega)]; exact h0) (by rw [set_get (by omega)]; exact h1)
  refine ⟨by rw [k.len, List.length_set, hf], by rw [k.fn, set_get (by omega)], by rw [k.pc, set_get (by omega)], ?_, fun h hh => ?_⟩
  · rw [k.st]
    by_cases e : 10 + (i.getD 1 0).toNat = 18
    · omega
    · rw [set_get e]
  · rw [k.hs h hh]
    split
    · rename_i e
      have : 10 + (i.getD 1 0).toNat = 10 + h := by omega
      rw [this, set_at (by omega)]
    · rw [set_get (by omega)]
theorem inv_forked (hA : Accs P) (h : Inv P t m) {c : Tk} {m1 m2 : Mc} {i : List Int} (hs : stp P F t m = .fork c m1 i) (hm : More m1.rows m2.rows) (he : Ended m2.rows c.row) : Inv P { t with f := fForked t.f i c.row } m2 ∧ More m.rows m2.rows := by
  obtain ⟨g, hv, ha⟩ := h.at hA
  obtain ⟨hp0, hp1⟩ := at_pc ha
  obtain ⟨_, _, rfl, h8, hn, hc, hrows⟩ := stp_fork hs
  have hm01 : More m.rows m1.rows := by rw [hrows]; exact More.app _ _
  have hm02 := hm01.trans hm
  obtain ⟨g', hg', h40, hnd, hA0, hA1, hsub⟩ := at_fork ha h8
  obtain ⟨f1, f2, f3, f4, f5⟩ := forked_get (id := (c.row : Int)) ha.chk h8 h.len hp0 hp1
  refine ⟨⟨f1, Nat.lt_of_lt_of_le h.row hm02.1, h.sc, h.nest, by dsimp only; rw [f2]; exact h.f0, g, by dsimp only; rw [f2]; exact ha.at0, Ck.hvOf (insAt P t.f) hv, ?_, fun k hk ht => ?_⟩, hm02⟩
  · dsimp only
    rw [f3]
    obtain ⟨hz, hlt⟩ := Ck.behind_next ha.acc ha.walk ha.ins (by unfold opI; omega) (by unfold opI; omega) (by unfold opI; omega)
    refine Ck.walk_to ha.acc.l1 ha.walk ha.ins hz ?_ (fun k hk ht => ?_) ?_
    · unfold Ck.hvOf; split
      · exact Ck.inI_or _ _
      · exact ha.walk.inI
    · rw [Ck.tb_hv hk] at ht
      simpa using ht
    · rw [Ck.depth_next ha.walk ha.ins hlt]; unfold stepD opI; rw [if_neg (by omega), if_neg (by omega)]
  · dsimp only
    rw [f5 k hk]
    split
    · exact ⟨by omega, by simpa using he⟩
    · rename_i hne
      rw [Ck.tb_hv hk] at ht
      have hf : forks (insAt P t.f) k = false := by unfold Ck.forks; rw [Bool.and_eq_false_iff]; exact .inr (by simpa using hne)
      rw [hf, Bool.or_false] at ht
      have := ha.hds k hk ht
      exact ⟨this.1, hm02.2 _ this.2⟩
theorem goes_more (hA : Accs P) (hI : ∀ g ∈ P, InI g.needs) {r : Res} (hG : Goes P F t m r) : ∀ {m' : Mc}, r = .ok m' → Inv P t m → More m.rows m'.rows ∧ Ended m'.rows t.row := by
  induction hG with
  | fin h => intro m' e hi; cases e; exact fin_inv hA hi h
  | bad h => intro m' e; cases e
  | go h _ ih =>
    intro m' e hi
    obtain ⟨h1, h2⟩ := inv_go hA hi h
    have := ih e h1
    rw [(stp_go h).2.2.1] at this
    exact ⟨h2.trans this.1, this.2⟩
  | forkBad h _ ih => intro m' e; cases e
  | fork h _ _ ih1 ih2 =>
    intro m' e hi
    obtain ⟨h1, h2⟩ := inv_child hA hI hi h
    obtain ⟨h3, h4⟩ := ih1 rfl h1
    obtain ⟨h5, h6⟩ := inv_forked hA hi h h3 h4
    have := ih2 e h5
    exact ⟨h6.trans this.1, this.2⟩
theorem inv_root (hA : Accs P) (hI : ∀ g ∈ P, InI g.needs) : Inv P t0 m0 := by
  have hn := hA.n0
  obtain ⟨g, hg⟩ : ∃ g, P[(0 : Int).toNat]? = some g := ⟨_, List.getElem?_eq_getElem (by simp; omega)⟩
  have hacc := hA.all g (List.mem_of_getElem? hg)
  refine ⟨rfl, by simp [t0, m0], by simp [t0], by simp [t0], by simp [t0, Fr.fRoot], g, hg, g.needs, Ck.walk_start hacc (hI g (List.mem_of_getElem? hg)), fun k hk ht => ?_⟩
  have := Ck.needs_get hg
  rw [hA.root] at this
  rw [← this, Ck.tb_zero hk] at ht
  cases ht
end
end Go.Proofs.YtgkfbagclkjilaaGreatDoor
namespace Go.Proofs.YtgkfbagclkjilaaGreatDoor.Ft
open Go Go.Ev Go.Proofs Go.Proofs.YtgkfbagclkjilaaGreatDoor
open Go.Proofs.YtgkfbagclkjilaaGreatDoor.Fr (fTo fOn fPlain fForked fJoined fClosed fChild fRoot fR isB fTo_len fOn_len fPlain_len fForked_len fJoined_len fClosed_len)
open Go.Proofs.YtgkfbagclkjilaaGreatDoor.Ck (opI Walk Accs needsOf isGoes heldL depths stepD handlesOk subBits scopesOk forks)
structure Rb where
  par : Int
  inn : Int
  fn : Int
  kind : Int
  v : Int
  steps : Int
  cl : ByteArray
def rb0 : Rb := ⟨0, 0, 0, 0, 0, 0, ByteArray.mk #[]⟩
def rbV (r : Rb) : List Value := [.int .i64 r.par, .int .i64 r.inn, .int .i64 r.fn, .int .i64 r.kind, .int .i64 r.v, .int .i64 r.steps, .string r.cl]
def rowAt (l : List Rb) (i : Int) : Rb := l.getD i.toNat rb0
def withinP (l : List Rb) : Nat → Int → Int → Bool
  | 0, _, _ => false
  | n + 1, i, o => if i < 0 ∨ (l.length : Int) ≤ i then false else if i = o then true else withinP l n (rowAt l i).par o
def tPlace (l : List Rb) (i : Int) : Bool :=
  if i = 0 then (rowAt l i).par == -1 else decide (0 ≤ (rowAt l i).par) && (decide ((rowAt l i).par < i) && withinP l l.length (i - 1) (rowAt l i).par)
def tSpan (i : Int) (r : Rb) : Bool :=
  decide (0 ≤ r.inn) && ((decide (0 < i) || (r.inn == 0)) && (decide (0 ≤ r.fn) && (decide (r.fn < 32) && (decide (0 ≤ r.kind) && (decide (r.kind ≤ 4) && (decide (0 ≤ r.steps) && decide (r.steps ≤ 1048576)))))))
def is01 (b : ByteArray) : Bool := b.data.toList.all fun c => c == 48 || c == 49
def tState (l : List Rb) (i : Int) (r : Rb) : Bool :=
  !(r.v != 0 && (r.kind != 2 && r.kind != 3)) && (!(r.kind == 0 && (r.steps != 0 || r.cl.size != 0)) && (i == 0 || ((rowAt l r.par).kind != 0 && (!(decide (2 ≤ (rowAt l r.par).kind)) || decide (2 ≤ r.kind)))))
def tRow (l : List Rb) (i : Int) : Int :=
  if tPlace l i = false then 11 else if tSpan i (rowAt l i) = false then 10 else if is01 (rowAt l i).cl = false then 11 else if tState l i (rowAt l i) = false then 19 else 0
def tChk (l : List Rb) : Nat → Int → Int
  | 0, _ => 0
  | n + 1, i => if tRow l i = 0 then tChk l n (i + 1) else tRow l i
def tcheck (l : List Rb) : Int := if l.length = 0 then 17 else tChk l l.length 0
def kidsL (l : List Rb) (i : Int) : List Int := ((List.range l.length).filter fun k : Nat => (rowAt l (k : Int)).par == i).map fun k : Nat => (k : Int)
theorem tChk_zero {l : List Rb} : ∀ {n : Nat} {i : Int}, tChk l n i = 0 → ∀ j : Int, i ≤ j → j < i + n → tRow l j = 0
  | 0, i, _, j, h1, h2 => by omega
  | n + 1, i, h, j, h1, h2 => by
    unfold tChk at h
    split at h
    · rename_i h0
      by_cases e : j = i
      · rw [e]; exact h0
      · exact tChk_zero h j (by omega) (by omega)
    · rename_i h0; exact absurd h h0
structure TRow (l : List Rb) (i : Int) : Prop where
  place : tPlace l i = true
  span : tSpan i (rowAt l i) = true
  told : is01 (rowAt l i).cl = true
  state : tState l i (rowAt l i) = true
theorem tRow_zero {l : List Rb} {i : Int} (h : tRow l i = 0) : TRow l i := by
  unfold tRow at h
  split at h
  · cases h
  split at h
  · cases h
  split at h
  · cases h
  split at h
  · cases h
  exact ⟨by simpa using ‹¬ tPlace l i = false›, by simpa using ‹¬ tSpan i (rowAt l i) = false›, by simpa using ‹¬ is01 (rowAt l i).cl = false›, by simpa using ‹¬ tState l i (rowAt l i) = false›⟩
theorem tcheck_row {l : List Rb} (h : tcheck l = 0) : l.length ≠ 0 ∧ ∀ i : Nat, i < l.length → TRow l i := by
  unfold tcheck at h
  split at h
  · cases h
  · rename_i hn
    exact ⟨hn, fun i hi => tRow_zero (tChk_zero h i (by omega) (by omega))⟩
theorem mem_kids {l : List Rb} {i k : Int} : k ∈ kidsL l i ↔ 0 ≤ k ∧ k < l.length ∧ (rowAt l k).par = i := by
  unfold kidsL
  simp only [List.mem_map, List.mem_filter, List.mem_range, beq_iff_eq]
  constructor
  · rintro ⟨n, ⟨h1, h2⟩, rfl⟩; exact ⟨by omega, by omega, h2⟩
  · rintro ⟨h0, h1, h2⟩
    exact ⟨k.toNat, ⟨by omega, by rw [Int.toNat_of_nonneg h0]; exact h2⟩, Int.toNat_of_nonneg h0⟩
structure Rn where
  f : List Int
  kids : List Int
  cl : List UInt8
  last : Int × Int
  opened : Int
  kind : Int
  v : Int
structure Bk where
  beg : Int → Option (List Int × (Int × Int))
  sc : Int × Int → Option ((Int × Int) × Bool)
def upd {K V : Type} [DecidableEq K] (φ : K → Option V) (k : K) (y : V) : K → Option V := fun q => if q = k then some y else φ q
def sc0 : (Int × Int) × Bool := ((0, 0), false)
def bg0 : List Int × (Int × Int) := ([0, 0, 0, 0, 0, 0, 0, 0, 0, 0, 0, 0, 0, 0, 0, 0, 0, 0, 0], (0, 0))
def Bk.s (b : Bk) (k : Int × Int) : (Int × Int) × Bool := (b.sc k).getD sc0
def fact (P : List FnR) (l : List Rb) (q : Bool) (row : Int) (i : List Int) (r : Rn) (b : Bk) : Option (Rn × Bk) :=
  if i.getD 0 0 = 8 then
    match r.kids with
    | [] => none
    | k :: ks => some ({ r with f := fForked r.f i k, kids := ks }, { b with beg := upd b.beg k (fChild r.f (i.getD 4 0) (needsOf P (i.getD 4 0)), r.last) })
  else if i.getD 0 0 = 9 ∨ i.getD 0 0 = 10 then
    if (rowAt l (r.f.getD (10 + (hOf i).toNat) 0)).kind < 2 then none
    else if (fJoined r.f i (rowAt l (r.f.getD (10 + (hOf i).toNat) 0)).kind (rowAt l (r.f.getD (10 + (hOf i).toNat) 0)).v).2.2
    then some ({ r with f := (fJoined r.f i (rowAt l (r.f.getD (10 + (hOf i).toNat) 0)).kind (rowAt l (r.f.getD (10 + (hOf i).toNat) 0)).v).1, kind := 3, v := (fJoined r.f i (rowAt l (r.f.getD (10 + (hOf i).toNat) 0)).kind (rowAt l (r.f.getD (10 + (hOf i).toNat) 0)).v).2.1 }, b)
    else some ({ r with f := (fJoined r.f i (rowAt l (r.f.getD (10 + (hOf i).toNat) 0)).kind (rowAt l (r.f.getD (10 + (hOf i).toNat) 0)).v).1 }, b)
  else if i.getD 0 0 = 11 then some ({ r with f := fOn r.f, opened := r.opened + 1, last := (row, r.opened + 1) }, { b with sc := upd b.sc (row, r.opened + 1) (r.last, false) })
  else if i.getD 0 0 = 12 then
    match r.cl with
    | [] => none
    | c :: cs =>
      if ((b.s r.last).2 && !(c == 49)) || (q && !((c == 49) == (b.s r.last).2)) then none
      else some ({ r with f := fClosed r.f i (c == 49), cl := cs, last := (b.s r.last).1 }, b)
  else if i.getD 0 0 = 13 then some ({ r with f := fOn r.f }, { b with sc := upd b.sc r.last ((b.s r.last).1, true) })
  else if i.getD 0 0 = 14 then some ({ r with f := fOn r.f }, b)
  else some ({ r with f := fOn r.f, kind := if i.getD 0 0 = 15 then 3 else 2, v := fR r.f (i.getD 1 0) }, b)
def fstp (P : List FnR) (l : List Rb) (q : Bool) (row : Int) (r : Rn) (b : Bk) : Option (Rn × Bk) :=
  if r.kind ≠ 0 then none
  else if (fPlain r.f (insAt P r.f)).2 then some ({ r with f := (fPlain r.f (insAt P r.f)).1 }, b)
  else fact P l q row (insAt P r.f) r b
def frun (P : List FnR) (l : List Rb) (q : Bool) (row : Int) : Nat → Rn → Bk → Option (Rn × Bk)
  | 0, r, b => some (r, b)
  | n + 1, r, b => match fstp P l q row r b with | none => none | some (r', b') => frun P l q row n r' b'
inductive Ask (sc : Int × Int → Option ((Int × Int) × Bool)) : Int × Int → Bool → Prop where
  | world : Ask sc (-1, 0) false
  | yes {s a} : s ≠ (-1, 0) → sc s = some (a, true) → Ask sc s true
  | up {s a b} : s ≠ (-1, 0) → sc s = some (a, false) → Ask sc a b → Ask sc s b
theorem Ask.det {sc : Int × Int → Option ((Int × Int) × Bool)} {s : Int × Int} {x y : Bool} (h : Ask sc s x) : Ask sc s y → x = y := by
  induction h generalizing y with
  | world => intro k; cases k with
    | world => rfl
    | yes n _ => exact absurd rfl n
    | up n _ _ => exact absurd rfl n
  | yes n e => intro k; cases k with
    | world => exact absurd rfl n
    | yes _ _ => rfl
    | up _ e2 _ => rw [e] at e2; cases e2
  | up n e _ ih => intro k; cases k with
    | world => exact absurd rfl n
    | yes _ e2 => rw [e] at e2; cases e2
    | up _ e2 h2 => rw [e] at e2; cases e2; exact ih h2
noncomputable def askB (sc : Int × Int → Option ((Int × Int) × Bool)) (s : Int × Int) : Bool := @decide (Ask sc s true) (Classical.propDecidable _)
theorem Ask.b {sc : Int × Int → Option ((Int × Int) × Bool)} {s : Int × Int} {x : Bool} (h : Ask sc s x) : askB sc s = x := by
  unfold askB
  cases x with
  | true => simp [h]
  | false =>
    simp only [decide_eq_false_iff_not]
    intro k; have := h.det k; cases this
noncomputable def fends (P : List FnR) (q : Bool) (x : Rb) (r : Rn) (b : Bk) (inn : Int × Int) : Bool :=
  if x.kind = 2 ∨ x.kind = 3 then (r.kind == x.kind) && (r.v == x.v)
  else if x.kind = 4 then (if (r.kind != 0 || (q && !(askB b.sc inn))) then false else (x.steps == 0) || isPt ((insAt P r.f).getD 0 0))
  else true
def Bk.at (b : Bk) (i : Int) : List Int × (Int × Int) := (b.beg i).getD bg0
def rn0 (l : List Rb) (i : Int) (at' : List Int × (Int × Int)) : Rn := ⟨at'.1, kidsL l i, (rowAt l i).cl.data.toList, (i, 0), 0, 0, 0⟩
noncomputable def frow (P : List FnR) (l : List Rb) (q : Bool) (i : Int) (b : Bk) : Option Bk :=
  if (rowAt l i).fn ≠ (b.at i).1.getD 0 0 ∨ (rowAt l i).inn ≠ (b.at i).2.2 then none
  else if (rowAt l i).kind = 0 then some b
  else match frun P l q i (rowAt l i).steps.toNat (rn0 l i (b.at i)) { b with sc := upd b.sc (i, 0) ((b.at i).2, false) } with
    | none => none
    | some (r, b') => if r.kids.length = 0 ∧ r.cl.length = 0 ∧ fends P q (rowAt l i) r b' (b.at i).2 = true then some b' else none
def bk0 : Bk := ⟨upd (fun _ => none) 0 (fRoot, (-1, 0)), fun _ => none⟩
noncomputable def fgo (P : List FnR) (l : List Rb) (q : Bool) : Nat → Int → Bk → Int × Int
  | 0, _, _ => (0, 0)
  | n + 1, i, b => match frow P l q i b with | none => (i, 25) | some b' => fgo P l q n (i + 1) b'
noncomputable def fitsF (P : List FnR) (l : List Rb) (q : Bool) : Int × Int :=
  if ¬ (Ck.progF P).2.2 = 0 then (0, 24) else if ¬ tcheck l = 0 then (0, tcheck l) else fgo P l q l.length 0 bk0
structure FB (P : List FnR) (f : List Int) : Prop where
  len : f.length = 19
  f0 : 0 ≤ f.getD 0 0
  fn : ∃ g, P[(f.getD 0 0).toNat]? = some g
structure FI (P : List FnR) (Q : Int → Prop) (f : List Int) (d : Int) : Prop where
  len : f.length = 19
  f0 : 0 ≤ f.getD 0 0
  fn : ∃ g, P[(f.getD 0 0).toNat]? = some g ∧ ∃ hv, Walk P g hv d (f.getD 1 0) ∧ ∀ h : Nat, h < 8 → tb hv h = true → Q (f.getD (10 + h) 0)
theorem FI.b {P : List FnR} {Q : Int → Prop} {f : List Int} {d : Int} (h : FI P Q f d) : FB P f := ⟨h.len, h.f0, by obtain ⟨g, hg, _⟩ := h.fn; exact ⟨g, hg⟩⟩
theorem FI.mono {P : List FnR} {Q R : Int → Prop} {f : List Int} {d : Int} (h : FI P Q f d) (hq : ∀ j, Q j → R j) : FI P R f d := ⟨h.len, h.f0, by
  obtain ⟨g, hg, hv, hW, hH⟩ := h.fn
  exact ⟨g, hg, hv, hW, fun k hk ht => hq _ (hH k hk ht)⟩⟩
structure FAt (P : List FnR) (Q : Int → Prop) (f : List Int) (d : Int) (g : FnR) (hv : Int) (i : List Int) : Prop where
  at0 : P[(f.getD 0 0).toNat]? = some g
  acc : Ck.Acc P g
  walk : Walk P g hv d (f.getD 1 0)
  hds : ∀ h : Nat, h < 8 → tb hv h = true → Q (f.getD (10 + h) 0)
  ins : g.code[(f.getD 1 0).toNat]? = some i
  chk : Ck.chk i = 0
  good : Ck.Good P g.code.length (depths 0 g.code) (heldL g.code g.needs) (f.getD 1 0).toNat i
section
variable {P : List FnR} {Q : Int → Prop} {f : List Int} {d : Int} {g : FnR} {hv : Int} {i : List Int} {l : List Rb} {q : Bool} {row : Int} {r : Rn} {b : Bk}
theorem FI.at (hA : Accs P) (h : FI P Q f d) : ∃ g hv, FAt P Q f d g hv (insAt P f) := by
  obtain ⟨g, hg, hv, hW, hH⟩ := h.fn
  have hacc := hA.all g (List.mem_of_getElem? hg)
  have h0 := hW.a0; have h1 := hW.a1
  have e : insAt P f = g.code.getD (f.getD 1 0).toNat [] := by unfold insAt; rw [hg]
  have hlt : (f.getD 1 0).toNat < g.code.length := by omega
  have hi : g.code[(f.getD 1 0).toNat]? = some (insAt P f) := by
    rw [e, List.getD_eq_getElem?_getD (l := g.code), List.getElem?_eq_getElem hlt, Option.getD_some]
  exact ⟨g, hv, hg, hacc, hW, hH, hi, hacc.ok _ (List.mem_of_getElem? hi), Ck.walk_good hacc hW hi⟩
theorem fi_next {f' : List Int} {d' : Int} (h : FI P Q f d) (ha : FAt P Q f d g hv i) (h6 : opI i ≠ 6) (h15 : opI i ≠ 15) (h16 : opI i ≠ 16) (h8 : opI i ≠ 8) (hk : Kp f f' (f.getD 1 0 + 1)) (hl : d' = stepD d i) : FI P Q f' d' := by
  refine ⟨by rw [hk.len, h.len], by rw [hk.fn]; exact h.f0, g, by rw [hk.fn]; exact ha.at0, hv, ?_, fun k hk' ht => by rw [hk.hs k hk']; exact ha.hds k hk' ht⟩
  rw [hl, hk.pc]
  exact Ck.walk_next ha.acc ha.walk ha.ins h6 h15 h16 h8
theorem fi_goes {f' : List Int} (h : FI P Q f d) (ha : FAt P Q f d g hv i) (hgo : isGoes i = true) (hk : Kp f f' (i.getD 4 0)) : FI P Q f' d := by
  refine ⟨by rw [hk.len, h.len], by rw [hk.fn]; exact h.f0, g, by rw [hk.fn]; exact ha.at0, hv, ?_, fun k hk' ht => by rw [hk.hs k hk']; exact ha.hds k hk' ht⟩
  rw [hk.pc]
  exact Ck.walk_goes ha.acc ha.walk ha.ins hgo
theorem fat_pc (ha : FAt P Q f d g hv i) : 0 ≤ f.getD 1 0 ∧ f.getD 1 0 < 1000 := by
  have h0 := ha.walk.a0; have h1 := ha.walk.a1; have := ha.acc.l1
  omega
theorem fat_join (ha : FAt P Q f d g hv i) (h : i.getD 0 0 = 9 ∨ i.getD 0 0 = 10) : 0 ≤ hOf i ∧ hOf i < 8 ∧ Q (f.getD (10 + (hOf i).toNat) 0) := by
  have hr := Fr.chk_regs (chk_fr ha.chk)
  have hg := ha.good.handles
  unfold handlesOk at hg
  unfold opI at hg
  unfold hOf
  rcases h with h | h
  · rw [if_neg (by omega)]
    rw [if_pos (by rw [h]; rfl)] at hg
    exact ⟨hr.2.1.1, hr.2.1.2, ha.hds _ (by omega) (Ck.walk_held ha.walk (by omega) hg)⟩
  · rw [if_pos h]
    rw [if_neg (by rw [h]; decide), if_pos (by rw [h]; rfl)] at hg
    exact ⟨hr.2.2.1, hr.2.2.2, ha.hds _ (by omega) (Ck.walk_held ha.walk (by omega) hg)⟩
theorem fat_scopes (ha : FAt P Q f d g hv i) (h : i.getD 0 0 = 12 ∨ i.getD 0 0 = 13) : 1 ≤ d := by
  have hg := ha.good.scopes
  have ho := ha.walk.open'
  unfold scopesOk opI at hg
  rw [if_pos (by rcases h with h | h <;> rw [h] <;> rfl)] at hg
  have := of_decide_eq_true hg
  omega
theorem fat_fork (ha : FAt P Q f d g hv i) (h : i.getD 0 0 = 8) : ∃ g', P[(i.getD 4 0).toNat]? = some g' ∧ 0 ≤ i.getD 4 0 ∧ needsOf P (i.getD 4 0) = g'.needs ∧ 0 ≤ i.getD 1 0 ∧ i.getD 1 0 < 8 ∧ ∀ k : Nat, k < 8 → tb g'.needs k = true → tb hv k = true := by
  have hpl := (Ck.places_in ha.good.places).2 h
  have hc := (Ck.chk0 ha.chk).2.2.2.1 h
  have hr := Fr.chk_regs (chk_fr ha.chk)
  obtain ⟨g', hg'⟩ : ∃ g', P[(i.getD 4 0).toNat]? = some g' := ⟨_, List.getElem?_eq_getElem (by omega)⟩
  refine ⟨g', hg', hc.1, Ck.needs_get hg', hr.1.1, hr.1.2, fun k hk ht => ?_⟩
  have hh := ha.good.handles
  unfold handlesOk opI at hh
  rw [if_neg (by rw [h]; decide), if_neg (by rw [h]; decide), if_pos (by rw [h]; rfl), Ck.needs_get hg'] at hh
  exact Ck.walk_held ha.walk hk (Ck.subBits_iff.1 hh k hk ht)
theorem fi_child (hA : Accs P) (hI : ∀ g ∈ P, InI g.needs) (h : FI P Q f d) (ha : FAt P Q f d g hv i) (h8 : i.getD 0 0 = 8) : FI P Q (fChild f (i.getD 4 0) (needsOf P (i.getD 4 0))) 0 := by
  obtain ⟨g', hg', h40, hnd, hA0, hA1, hsub⟩ := fat_fork ha h8
  obtain ⟨c1, c2, c3, c4, c5⟩ := child_get (f := f) (n := i.getD 4 0) (needs := g'.needs) h.len
  have hacc := hA.all g' (List.mem_of_getElem? hg')
  rw [hnd]
  refine ⟨c1, by rw [c2]; exact h40, g', by rw [c2]; exact hg', g'.needs, by rw [c3]; exact Ck.walk_start hacc (hI g' (List.mem_of_getElem? hg')), fun k hk ht => ?_⟩
  rw [c5 k hk, if_pos ht]
  exact ha.hds k hk (hsub k hk ht)
theorem fi_forked {id : Int} (h : FI P Q f d) (ha : FAt P Q f d g hv i) (h8 : i.getD 0 0 = 8) (hid : Q id) : FI P Q (fForked f i id) d := by
  obtain ⟨hp0, hp1⟩ := fat_pc ha
  obtain ⟨g', hg', h40, hnd, hA0, hA1, hsub⟩ := fat_fork ha h8
  obtain ⟨f1, f2, f3, f4, f5⟩ := forked_get (id := id) ha.chk h8 h.len hp0 hp1
  refine ⟨f1, by rw [f2]; exact h.f0, g, by rw [f2]; exact ha.at0, Ck.hvOf i hv, ?_, fun k hk ht => ?_⟩
  · rw [f3]
    obtain ⟨hz, hlt⟩ := Ck.behind_next ha.acc ha.walk ha.ins (by unfold opI; omega) (by unfold opI; omega) (by unfold opI; omega)
    refine Ck.walk_to ha.acc.l1 ha.walk ha.ins hz ?_ (fun k hk ht => ?_) ?_
    · unfold Ck.hvOf; split
      · exact Ck.inI_or _ _
      · exact ha.walk.inI
    · rw [Ck.tb_hv hk] at ht
      simpa using ht
    · rw [Ck.depth_next ha.walk ha.ins hlt]; unfold stepD opI; rw [if_neg (by omega), if_neg (by omega)]
  · rw [f5 k hk]
    split
    · exact hid
    · rename_i hne
      rw [Ck.tb_hv hk] at ht
      have hf : forks i k = false := by unfold Ck.forks; rw [Bool.and_eq_false_iff]; exact .inr (by simpa using hne)
      rw [hf, Bool.or_false] at ht
      exact ha.hds k hk ht
def Own (sc : Int × Int → Option ((Int × Int) × Bool)) (row : Int) (inn : Int × Int) : List Int → Prop
  | [] => False
  | [k] => k = 0 ∧ ∃ q, sc (row, k) = some (inn, q)
  | k :: k' :: r => k' < k ∧ (∃ q, sc (row, k) = some ((row, k'), q)) ∧ Own sc row inn (k' :: r)
theorem Own.upd_of {sc : Int × Int → Option ((Int × Int) × Bool)} {row : Int} {inn s : Int × Int} {x : (Int × Int) × Bool} : ∀ {ks : List Int}, Own sc row inn ks → ((∃ q, sc s = some (x.1, q)) ∨ ∀ k ∈ ks, s ≠ (row, k)) → Own (upd sc s x) row inn ks
  | [], h, _ => h
  | [k], ⟨h0, q, h⟩, hs => by
    refine ⟨h0, ?_⟩
    unfold upd
    split
    · rename_i e
      rcases hs with ⟨q', hs⟩ | hs
      · rw [← e, h] at hs; cases hs; exact ⟨x.2, rfl⟩
      · exact absurd e.symm (hs k (by simp))
    · exact ⟨q, h⟩
  | k :: k' :: r, ⟨h0, ⟨q, h⟩, h2⟩, hs => by
    refine ⟨h0, ?_, Own.upd_of h2 (hs.imp id fun hs k hk => hs k (by simp [hk]))⟩
    unfold upd
    split
    · rename_i e
      rcases hs with ⟨q', hs⟩ | hs
      · rw [← e, h] at hs
        have e1 : x.1 = (row, k') := (congrArg Prod.fst (Option.some.inj hs)).symm
        exact ⟨x.2, by rw [← e1]⟩
      · exact absurd e.symm (hs k (by simp))
    · exact ⟨q, h⟩
theorem Own.le {sc : Int × Int → Option ((Int × Int) × Bool)} {row : Int} {inn : Int × Int} : ∀ {ks : List Int}, Own sc row inn ks → ∀ k ∈ ks, 0 ≤ k ∧ k ≤ ks.headD 0
  | [k], ⟨h0, _⟩, j, hj => by simp at hj; subst hj; simp [h0]
  | k :: k' :: r, ⟨h0, _, h2⟩, j, hj => by
    have := Own.le h2
    have h1 := this k' (by simp)
    rcases List.mem_cons.1 hj with rfl | hj
    · simp; omega
    · have := this j hj; simp at this ⊢; omega
structure ScI (sc : Int × Int → Option ((Int × Int) × Bool)) : Prop where
  up : ∀ s x, sc s = some x → 0 ≤ s.1 ∧ 0 ≤ s.2 ∧ (x.1 = (-1, 0) ∨ ((sc x.1).isSome = true ∧ (x.1.1 < s.1 ∨ (x.1.1 = s.1 ∧ x.1.2 < s.2))))
theorem isSome_upd {K V : Type} [DecidableEq K] {φ : K → Option V} {k j : K} {y : V} (h : (φ j).isSome = true) : (upd φ k y j).isSome = true := by unfold upd; split <;> simp [h]
theorem ScI.upd_of {sc : Int × Int → Option ((Int × Int) × Bool)} {s : Int × Int} {x : (Int × Int) × Bool} (h : ScI sc) (h0 : 0 ≤ s.1 ∧ 0 ≤ s.2) (hx : x.1 = (-1, 0) ∨ ((sc x.1).isSome = true ∧ (x.1.1 < s.1 ∨ (x.1.1 = s.1 ∧ x.1.2 < s.2)))) : ScI (upd sc s x) := by
  constructor
  intro t y hy
  unfold upd at hy
  split at hy
  · rename_i e
    cases hy; subst e
    exact ⟨h0.1, h0.2, hx.imp id fun q => ⟨isSome_upd q.1, q.2⟩⟩
  · obtain ⟨h1, h2, h3⟩ := h.up t y hy
    exact ⟨h1, h2, h3.imp id fun q => ⟨isSome_upd q.1, q.2⟩⟩
theorem ask_total {sc : Int × Int → Option ((Int × Int) × Bool)} (h : ScI sc) : ∀ (n m : Nat) (s : Int × Int), s.1 < n → s.2 < m → s = (-1, 0) ∨ (sc s).isSome = true → ∃ b, Ask sc s b := by
  intro n
  induction n with
  | zero =>
    intro m s h1 _ hs
    rcases hs with rfl | hs
    · exact ⟨_, .world⟩
    · obtain ⟨x, hx⟩ := Option.isSome_iff_exists.1 hs
      have := (h.up s x hx).1
      omega
  | succ n ihn =>
    intro m
    induction m with
    | zero =>
      intro s _ h2 hs
      rcases hs with rfl | hs
      · exact ⟨_, .world⟩
      · obtain ⟨x, hx⟩ := Option.isSome_iff_exists.1 hs
        have := (h.up s x hx).2.1
        omega
    | succ m ihm =>
      intro s h1 h2 hs
      rcases hs with rfl | hs
      · exact ⟨_, .world⟩
      · obtain ⟨⟨a, q⟩, hx⟩ := Option.isSome_iff_exists.1 hs
        obtain ⟨k1, k2, k3⟩ := h.up s _ hx
        have hne : s ≠ (-1, 0) := by intro e; rw [e] at k1; simp at k1
        cases q with
        | true => exact ⟨true, .yes hne hx⟩
        | false =>
          have : ∃ b, Ask sc a b := by
            rcases k3 with e | ⟨k3, k4 | k4⟩
            · dsimp only at e; rw [e]; exact ⟨_, .world⟩
            · exact ihn (a.2.toNat + 1) a (by dsimp only at k4; omega) (by omega) (.inr k3)
            · exact ihm a (by dsimp only at k4; omega) (by dsimp only at k4; omega) (.inr k3)
          obtain ⟨b, hb⟩ := this
          exact ⟨b, .up hne hx hb⟩
theorem ask_ex {sc : Int × Int → Option ((Int × Int) × Bool)} (h : ScI sc) {s : Int × Int} (hs : s = (-1, 0) ∨ (sc s).isSome = true) : Ask sc s (askB sc s) := by
  obtain ⟨b, hb⟩ := ask_total h (s.1.toNat + 1) (s.2.toNat + 1) s (by omega) (by omega) hs
  rw [hb.b]; exact hb
structure RI (P : List FnR) (Q : Int → Prop) (row : Int) (inn : Int × Int) (n : Nat) (r : Rn) (b : Bk) (ks : List Int) : Prop where
  fb : FB P r.f
  fi : r.kind = 0 → FI P Q r.f ((ks.length : Int) - 1)
  own : Own b.sc row inn ks
  last : r.last = (row, ks.headD 0)
  op : ks.headD 0 ≤ r.opened ∧ r.opened ≤ n
  kids : ∀ k ∈ r.kids, Q k
structure BI (P : List FnR) (Q : Int → Prop) (b : Bk) : Prop where
  sc : ScI b.sc
  beg : ∀ i x, b.beg i = some x → FI P Q x.1 0 ∧ (x.2 = (-1, 0) ∨ (b.sc x.2).isSome = true) ∧ x.2.1 < i
end
end Go.Proofs.YtgkfbagclkjilaaGreatDoor.Ft
namespace Go.Ev
open Go Go.RowKit
section
variable {K V : Type} [DecidableEq K]
def gmE (ek : K → Value) (ev : V → Value) (t : List (K × V × Nat)) : List MapEntry := t.map fun x => ⟨ek x.1, ev x.2.1, x.2.2⟩
def gmG (t : List (K × V × Nat)) (k : K) : Option V := (t.find? fun x => decide (x.1 = k)).map (·.2.1)
def gmF (ev : V → Value) (k : K) : List (K × V × Nat) → Nat → Option (Nat × Value)
  | [], _ => none
  | x :: r, i => if x.1 = k then some (i, ev x.2.1) else gmF ev k r (i + 1)
def gm (ek : K → Value) (ev : V → Value) (g : Nat) (φ : K → Option V) : HP := exHP fun q : { t : List (K × V × Nat) // gmG t = φ } × Nat => obj g (.map (gmE ek ev q.1.1).toArray q.2)
structure MapC (P : Program) (m kt et : TypeId) (ek : K → Value) (ev : V → Value) (z : V) : Prop where
  m : P.underlying m = some (.map kt et)
  find : ∀ (w : World) (k : K) (t : List (K × V × Nat)), (Instr.findKey kt (ek k) (gmE ek ev t)).run P w = .ok (gmF ev k t 0) w
  chk : ∀ (w : World) (e : Bool) (k : K), (Instr.checkKey e 10000 kt (ek k)).run P w = .ok () w
  same : ∀ k, Instr.sameBits 10000 (ek k) (ek k) = true
  zero : zOf P et = some (ev z)
theorem gmF_none {ev : V → Value} {k : K} : ∀ {t : List (K × V × Nat)} {i : Nat}, gmF ev k t i = none → gmG t k = none
  | [], _, _ => rfl
  | x :: r, i, h => by
    unfold gmF at h
    split at h
    · cases h
    · rename_i hx
      have := gmF_none h
      unfold gmG at this ⊢
      rw [List.find?_cons_of_neg (by simpa using hx)]
      exact this
theorem gmF_some {ev : V → Value} {k : K} : ∀ {t : List (K × V × Nat)} {i j : Nat} {v : Value}, gmF ev k t i = some (j, v) → i ≤ j ∧ ∃ x, t[j - i]? = some x ∧ x.1 = k ∧ v = ev x.2.1 ∧ gmG t k = some x.2.1 ∧ ∀ (y : V) (b : K × V × Nat → Nat), gmG (t.modify (j - i) fun e => (e.1, y, b e)) = fun q => if q = k then some y else gmG t q
  | [], _, _, _, h => by cases h
  | x :: r, i, j, v, h => by
    unfold gmF at h
    split at h
    · rename_i hx
      cases h
      refine ⟨Nat.le_refl _, x, by simp, hx, rfl, ?_, fun y b => ?_⟩
      · unfold gmG; rw [List.find?_cons_of_pos (by simpa using hx)]; rfl
      · funext q
        simp only [Nat.sub_self, List.modify_zero_cons]
        unfold gmG
        by_cases hq : q = k
        · rw [List.find?_cons_of_pos (by simp [hx, hq]), if_pos hq]; rfl
        · rw [List.find?_cons_of_neg (by simp [hx]; exact fun e => hq e.symm), if_neg hq, List.find?_cons_of_neg (by simp [hx]; exact fun e => hq e.symm)]
    · rename_i hx
      obtain ⟨h1, y, h2, h3, h4, h5, h6⟩ := gmF_some h
      refine ⟨by omega, y, ?_, h3, h4, ?_, fun z b => ?_⟩
      · rw [show j - i = (j - (i + 1)) + 1 by omega]; simpa using h2
      · unfold gmG at h5 ⊢
        rw [List.find?_cons_of_neg (by simpa using hx)]; exact h5
      · have h6 := h6 z b
        funext q
        have h6 := congrFun h6 q
        rw [show j - i = (j - (i + 1)) + 1 by omega]
        simp only [List.modify_succ_cons]
        unfold gmG at h6 ⊢
        by_cases hq : q = k
        · rw [if_pos hq] at h6 ⊢
          rw [List.find?_cons_of_neg (by simp [hq]; exact hx)]; exact h6
        · rw [if_neg hq] at h6 ⊢
          by_cases hxq : x.1 = q
          · rw [List.find?_cons_of_pos (by simpa using hxq), List.find?_cons_of_pos (by simpa using hxq)]
          · rw [List.find?_cons_of_neg (by simpa using hxq), List.find?_cons_of_neg (by simpa using hxq)]; exact h6
theorem gmG_push {t : List (K × V × Nat)} {k : K} {y : V} {n : Nat} (h : gmG t k = none) : gmG (t ++ [(k, y, n)]) = fun q => if q = k then some y else gmG t q := by
  funext q
  unfold gmG at h ⊢
  rw [List.find?_append]
  by_cases hq : q = k
  · subst hq
    rw [if_pos rfl]
    rw [Option.map_eq_none_iff] at h
    rw [h]
    simp
  · rw [if_neg hq]
    rw [List.find?_cons_of_neg (by simp; exact fun e => hq e.symm), List.find?_nil, Option.or_none]
end
section
variable {K V : Type} [DecidableEq K] {ek : K → Value} {ev : V → Value} {z : V} {P : Program} {w0 w : World} {L : List HP} {g : Nat} {φ : K → Option V} {f : HP → List HP} {m kt et : TypeId}
theorem gm_open (h : St w0 w (gm ek ev g φ :: L)) : ∃ (t : List (K × V × Nat)) (n : Nat), gmG t = φ ∧ St w0 w (obj g (.map (gmE ek ev t).toArray n) :: L) := by
  obtain ⟨⟨⟨t, ht⟩, n⟩, h⟩ := h.some
  exact ⟨t, n, ht, h⟩
theorem gm_shut {t : List (K × V × Nat)} {n : Nat} (h : St w0 w (obj g (.map (gmE ek ev t).toArray n) :: L)) : St w0 w (gm ek ev g (gmG t) :: L) :=
  St.ex (X := fun q : { t' : List (K × V × Nat) // gmG t' = gmG t } × Nat => obj g (.map (gmE ek ev q.1.1).toArray q.2)) (⟨t, rfl⟩, n) h
theorem gm_at (h : St w0 w L) [a : At L (gm ek ev g) φ f] : ∃ (t : List (K × V × Nat)) (n : Nat), gmG t = φ ∧ w.heap[g]? = some (.map (gmE ek ev t).toArray n) := by
  obtain ⟨R, ho, hc⟩ := a.out
  obtain ⟨t, n, ht, h⟩ := gm_open (ho h)
  exact ⟨t, n, ht, obj_at (g := g) h⟩
theorem mkGm_h {c : Option Nat → World → Prop} (ek : K → Value) (ev : V → Value) (h : St w0 w L) (hc : ∀ g w', St w0 w' (gm ek ev g (fun _ => none) :: L) → c (some g) w') : mkMap P m none w c := by
  have hr : (Instr.makeMap m none).run P w = .ok (.map (some w.heap.size)) (w.alloc (.map #[] 0)) := by
    simp only [Instr.makeMap, Sem.run_bind, run_newObj, Result.andThen_ok, Sem.run_pure, World.alloc_eq]
  unfold mkMap
  rw [hr]
  show c (some w.heap.size) _
  refine hc _ _ ?_
  have h2 := alloc_h (.map #[] 0) h
  have h3 := gm_shut (ek := ek) (ev := ev) (t := []) (n := 0) h2
  exact h3
theorem gmLook_h {k : K} {c : Value → World → Prop} (ht : MapC P m kt et ek ev z) (h : St w0 w L) [a : At L (gm ek ev g) φ f] (hc : c (ev ((φ k).getD z)) w) : look P m (.map (some g)) (ek k) false w c := by
  obtain ⟨t, n, htl, hb⟩ := gm_at (ek := ek) (ev := ev) (g := g) h
  have hf := ht.find w k t
  have hck := fun e => ht.chk w e k
  have hz : (zeroValue et).run P w = .ok (ev z) w := run_zero ht.zero
  unfold look
  have hgo : ∀ v, (match gmF ev k t 0 with | some (_, v) => v | none => ev z) = v → v = ev ((φ k).getD z) := by
    intro v hv
    subst hv
    cases hq : gmF ev k t 0 with
    | none => rw [← htl, gmF_none hq]; rfl
    | some r =>
      obtain ⟨j, v⟩ := r
      obtain ⟨_, x, _, _, e, hm, _⟩ := gmF_some hq
      rw [← htl, hm]; exact e
  cases hq : gmF ev k t 0 with
  | none =>
    rw [hq] at hf hgo
    have hr : (Instr.lookup m (.map (some g)) (ek k) false).run P w = .ok (ev z) w := by
      simp only [Instr.lookup, Sem.run_bind, run_kOf ht.m, Result.andThen_ok, MapKept.run_getObj_map hb, Sem.run_pure, hck, hf, hz]; rfl
    rw [hr]; rw [← hgo _ rfl] at hc; exact hc
  | some r =>
    obtain ⟨j, v⟩ := r
    rw [hq] at hf hgo
    have hr : (Instr.lookup m (.map (some g)) (ek k) false).run P w = .ok v w := by
      simp only [Instr.lookup, Sem.run_bind, run_kOf ht.m, Result.andThen_ok, MapKept.run_getObj_map hb, Sem.run_pure, hck, hf]; rfl
    rw [hr]; rw [← hgo _ rfl] at hc; exact hc
theorem map_modify {α β : Type} (f : α → β) (g : α → α) (g' : β → β) (hg : ∀ a, f (g a) = g' (f a)) : ∀ (l : List α) (i : Nat), (l.modify i g).map f = (l.map f).modify i g'
  | [], _ => by simp
  | a :: l, 0 => by simp [hg]
  | a :: l, i + 1 => by simp [map_modify f g g' hg l i]
theorem modify_same {β : Type} : ∀ {l : List β} {i : Nat} {f f' : β → β} {x : β}, l[i]? = some x → f x = f' x → l.modify i f = l.modify i f'
  | [], _, _, _, _, h, _ => by simp at h
  | y :: l, 0, f, f', x, h, e => by simp at h; subst h; simp [e]
  | y :: l, i + 1, f, f', x, h, e => by simp; exact modify_same (by simpa using h) e
theorem gmPut_h {k : K} {y : V} {c : World → Prop} (ht : MapC P m kt et ek ev z) (h : St w0 w L) [a : At L (gm ek ev g) φ f] (hc : ∀ w', St w0 w' (f (gm ek ev g (fun q => if q = k then some y else φ q))) → c w') : mapPut P m (.map (some g)) (ek k) (ev y) w c := by
  obtain ⟨R, ho, hcl⟩ := a.out
  obtain ⟨t, n, htl, h⟩ := gm_open (ho h)
  have hb := obj_at (g := g) h
  have hf := ht.find w k t
  have hck := ht.chk w false k
  have hset : ∀ o, (setObj g o).run P w = .ok () (w.putObj g o) := fun o => by
    rw [MapKept.run_setObj_map o hb]; rfl
  unfold mapPut
  cases hq : gmF ev k t 0 with
  | none =>
    rw [hq] at hf
    have hr : (Instr.mapUpdate m (.map (some g)) (ek k) (ev y)).run P w = .ok () (w.putObj g (.map ((gmE ek ev t).toArray.push ⟨ek k, ev y, n⟩) (n + 1))) := by
      simp only [Instr.mapUpdate, Sem.run_bind, run_kOf ht.m, Result.andThen_ok, MapKept.run_getObj_map hb, Sem.run_pure, hck, hf, hset]
    rw [hr]
    refine hc _ (hcl ?_)
    have e : (gmE ek ev t).toArray.push ⟨ek k, ev y, n⟩ = (gmE ek ev (t ++ [(k, y, n)])).toArray := by simp [gmE]
    rw [e]
    have h2 := putObj_h (g := g) (.map (gmE ek ev (t ++ [(k, y, n)])).toArray (n + 1)) h
    have h3 := gm_shut h2
    rw [gmG_push (gmF_none hq), htl] at h3
    exact h3
  | some r =>
    obtain ⟨j, v⟩ := r
    rw [hq] at hf
    obtain ⟨_, x, hx, hxk, rfl, hm, hmod⟩ := gmF_some hq
    rw [Nat.sub_zero] at hx hmod
    have hk : ((((gmE ek ev t).toArray)[j]?).map (·.key)).getD (ek k) = ek k := by
      rw [List.getElem?_toArray]; unfold gmE; rw [List.getElem?_map, hx]; simp [hxk]
    have hkeep : (Instr.keyThatStays (ek k) (ek k)).run P w = .ok (ek k) w := by
      unfold Instr.keyThatStays; rw [if_pos (ht.same k)]; rfl
    have hr : (Instr.mapUpdate m (.map (some g)) (ek k) (ev y)).run P w = .ok () (w.putObj g (.map ((gmE ek ev t).toArray.modify j fun e => { e with key := ek k, val := ev y }) n)) := by
      simp only [Instr.mapUpdate, Sem.run_bind, run_kOf ht.m, Result.andThen_ok, MapKept.run_getObj_map hb, Sem.run_pure, hck, hf, hk, hkeep, hset]
    rw [hr]
    refine hc _ (hcl ?_)
    have e : (gmE ek ev t).toArray.modify j (fun e => { e with key := ek k, val := ev y }) = (gmE ek ev (t.modify j fun e => (e.1, y, e.2.2))).toArray := by
      rw [List.modify_toArray]
      congr 1
      unfold gmE
      rw [map_modify (fun x : K × V × Nat => (⟨ek x.1, ev x.2.1, x.2.2⟩ : MapEntry)) (fun e => (e.1, y, e.2.2)) (fun e => (⟨e.key, ev y, e.born⟩ : MapEntry)) (fun a => rfl)]
      refine modify_same (x := (⟨ek k, ev x.2.1, x.2.2⟩ : MapEntry)) ?_ rfl
      rw [List.getElem?_map, hx, ← hxk]; rfl
    rw [e]
    have h2 := putObj_h (g := g) (.map (gmE ek ev (t.modify j fun e => (e.1, y, e.2.2))).toArray n) h
    have h3 := gm_shut h2
    have e2 : gmG (t.modify j fun e => (e.1, y, e.2.2)) = fun q => if q = k then some y else φ q := by
      have := hmod y (fun e => e.2.2)
      rw [htl] at this
      exact this
    rw [e2] at h3
    exact h3
end
def ekI (k : Int) : Value := .int .i64 k
def ekP (k : Int × Int) : Value := .agg #[.int .i64 k.1, .int .i64 k.2]
theorem gmF_int {V : Type} (ev : V → Value) (k : Int) : ∀ (t : List (Int × V × Nat)) (i : Nat), Instr.findNow (.int .i64) (.int .i64 k) (gmE ekI ev t) i = some (gmF ev k t i)
  | [], i => rfl
  | x :: r, i => by
    unfold gmE ekI
    simp only [List.map_cons, Instr.findNow, Instr.sameNow, if_true]
    by_cases h : x.1 = k
    · have : (k == x.1) = true := by simp [h]
      rw [this]
      simp [gmF, h]
    · have : (k == x.1) = false := by rw [beq_eq_false_iff_ne]; exact fun q => h q.symm
      rw [this]
      have ih := gmF_int ev k r (i + 1)
      unfold gmE ekI at ih
      simp only [ih, gmF, if_neg h]
theorem mapC_int {V : Type} {P : Program} {m kt et : TypeId} {ev : V → Value} {z : V} (hm : P.underlying m = some (.map kt et)) (hk : P.underlying kt = some (.int .i64)) (hz : zOf P et = some (ev z)) : MapC P m kt et ekI ev z where
  m := hm
  find w k t := MapKept.run_findKey hk (gmF_int ev k t 0)
  chk w e k := MapKept.run_checkKey hk (show MapKept.IsKey (.int .i64) (.int .i64 k) by simp [MapKept.IsKey]) e 9999
  same k := by simp [ekI, Instr.sameBits]
  zero := hz
theorem find_pair {V : Type} {P : Program} {kt : TypeId} {ev : V → Value} (hl : leavesR P 20 kt = some [(0, 0), (1, 0)]) (ha : kOf P kt = .ag) (w : World) (k : Int × Int) : ∀ (t : List ((Int × Int) × V × Nat)) (i : Nat), (Instr.findAsking kt (ekP k) (gmE ekP ev t) i).run P w = .ok (gmF ev k t i) w
  | [], i => rfl
  | x :: r, i => by
    have h := (aggEq 20 kt _ hl 10000 (by omega)).2 ha w #[.int .i64 k.1, .int .i64 k.2] #[.int .i64 x.1.1, .int .i64 x.1.2] ((k.1 == x.1.1) && ((k.2 == x.1.2) && true)) (by simp [eqOffs, eqC])
    have he : (Op.equal kt (ekP k) (ekP x.1)).run P w = .ok ((k.1 == x.1.1) && ((k.2 == x.1.2) && true)) w := h
    unfold gmE
    simp only [List.map_cons, Instr.findAsking, Sem.run_bind, he, Result.andThen_ok]
    by_cases h : x.1 = k
    · have : ((k.1 == x.1.1) && ((k.2 == x.1.2) && true)) = true := by simp [h]
      rw [this]
      simp [gmF, h]
    · have : ((k.1 == x.1.1) && ((k.2 == x.1.2) && true)) = false := by
        rw [Bool.and_true, Bool.and_eq_false_iff, beq_eq_false_iff_ne, beq_eq_false_iff_ne]
        by_cases e : k.1 = x.1.1
        · exact .inr fun e2 => h (Prod.ext e.symm e2.symm)
        · exact .inl e
      rw [this]
      have ih := find_pair (ev := ev) hl ha w k r (i + 1)
      unfold gmE at ih
      simp only [Bool.false_eq_true, if_false, ih, gmF, if_neg h]
theorem mapC_pair {V : Type} {P : Program} {m kt et : TypeId} {ev : V → Value} {z : V} {f1 f2 : Field} (hm : P.underlying m = some (.map kt et)) (hk : P.underlying kt = some (.struct #[f1, f2]))
    (h1 : f1.name ≠ "_" ∧ f1.offset = 0 ∧ P.underlying f1.type = some (.int .i64)) (h2 : f2.name ≠ "_" ∧ f2.offset = 1 ∧ P.underlying f2.type = some (.int .i64)) (hl : leavesR P 20 kt = some [(0, 0), (1, 0)]) (hz : zOf P et = some (ev z)) : MapC P m kt et ekP ev z where
  m := hm
  find w k t := by rw [run_findKey_eq w (by rw [hk])]; exact find_pair hl (by simp [kOf, hk]) w k t 0
  chk w e k := by
    have k1 : ∀ v : Int, (Instr.checkKey e 9999 f1.type (.int .i64 v)).run P w = .ok () w := fun v => MapKept.run_checkKey h1.2.2 (show MapKept.IsKey (.int .i64) (.int .i64 v) by simp [MapKept.IsKey]) e 9998
    have k2 : ∀ v : Int, (Instr.checkKey e 9999 f2.type (.int .i64 v)).run P w = .ok () w := fun v => MapKept.run_checkKey h2.2.2 (show MapKept.IsKey (.int .i64) (.int .i64 v) by simp [MapKept.IsKey]) e 9998
    have p1 : (part f1.type #[.int .i64 k.1, .int .i64 k.2] f1.offset).run P w = .ok (.int .i64 k.1) w := run_part h1.2.2 (by simp [kOf, h1.2.2]) (by rw [h1.2.1]; rfl)
    have p2 : (part f2.type #[.int .i64 k.1, .int .i64 k.2] f2.offset).run P w = .ok (.int .i64 k.2) w := run_part h2.2.2 (by simp [kOf, h2.2.2]) (by rw [h2.2.1]; rfl)
    have e0 : (10000 : Nat) = 9999 + 1 := rfl
    rw [e0]
    unfold Instr.checkKey ekP
    simp only [Sem.run_bind, run_underlying hk, Result.andThen_ok]
    simp [h1.1, h2.1, p1, p2, k1, k2]
  same k := by simp [ekP, Instr.sameBits]
  zero := hz
end Go.Ev
namespace Go.Proofs.YtgkfbagclkjilaaGreatDoor.Ft
open Go Go.Ev Go.Proofs Go.Proofs.YtgkfbagclkjilaaGreatDoor
structure Tbl (w : World) (s : Sl) (l : List Rb) : Prop where
  rws : Rws 7 w s (l.map rbV)
  few : l.length < 4611686018427387904
theorem Tbl.ext {w w' : World} {s : Sl} {l : List Rb} (h : Tbl w s l) (he : Ext w w') : Tbl w' s l := ⟨h.rws.ext he, h.few⟩
theorem Tbl.len {w : World} {s : Sl} {l : List Rb} (h : Tbl w s l) : s.n = l.length := by have := h.rws.len; simpa using this.symm
theorem rbV_len {r : Rb} : (rbV r).length = 7 := rfl
theorem rowAt_get {l : List Rb} {i : Int} (h : i.toNat < l.length) : l[i.toNat]? = some (rowAt l i) := by
  unfold rowAt; rw [List.getD_eq_getElem?_getD, List.getElem?_eq_getElem h]; rfl
theorem rowAt_map {l : List Rb} {i : Int} (h : i.toNat < l.length) : (l.map rbV)[i.toNat]? = some (rbV (rowAt l i)) := by
  rw [List.getElem?_map, rowAt_get h]; rfl
theorem one_rb {r : Rb} : ∀ v ∈ (rbV r).toArray, v.oneCell' = true := by
  intro v hv; simp [rbV] at hv; rcases hv with rfl | rfl | rfl | rfl | rfl | rfl | rfl <;> rfl
section
variable {w0 w : World} {L : List HP} {s : Sl} {l : List Rb} {i o : Int}
theorem tI_h {j : Nat} {n : Int} {c : Int → Prop} (hT : Tbl w0 s l) (h : St w0 w L) (h0 : 0 ≤ i) (h1 : i < l.length) (hj : (rbV (rowAt l i))[j]? = some (.int .i64 n)) (hc : c n) : ixS s i 7 fun a => ldI .i64 w (Addr.add a j) c :=
  ixR_h hT.rws h h0 (rowAt_map (by omega)) fun p hp => ldI_i (hp h hj) hc
theorem tA_h {c : Addr → Array Value → Prop} (hT : Tbl w0 s l) (h : St w0 w L) (h0 : 0 ≤ i) (h1 : i < l.length) (hc : ∀ p : Addr, (∀ {w' L'}, St w0 w' L' → ∀ {j v}, (rbV (rowAt l i))[j]? = some v → w'.cell? (p.add j) = some v) → c p (rbV (rowAt l i)).toArray) : ixS s i 7 fun a => ldA 7 w a fun cs => c a cs :=
  ixR_h hT.rws h h0 (rowAt_map (by omega)) fun p hp => ldA_c rbV_len (fun j v => hp h) (hc p hp)
theorem samecT {w' : World} {n : Nat} {p : Addr} {e : List Value} {c : Prop} (h1 : ∀ j v, e[j]? = some v → w.cell? (p.add j) = some v) (h2 : ∀ j v, e[j]? = some v → w'.cell? (p.add j) = some v) (hn : n ≤ e.length) (hc : c) : samec n p w w' c :=
  ⟨fun j hj => by
    have hlt : j < e.length := by omega
    rw [h1 j _ (List.getElem?_eq_getElem hlt), h2 j _ (List.getElem?_eq_getElem hlt)], hc⟩
theorem within_s {k : Bool → World → Prop} (hT : Tbl w0 s l) (h : St w0 w L) (hk : k (withinP l l.length i o) w) : table_Within s i o w k := by
  have hn := hT.len; have hf := hT.few
  unfold table_Within
  generalize hG : withinP l l.length i o = W at hk
  refine loopP_of (fun (x : Int × Int) w' => ∃ j : Nat, x.2 = (j : Int) ∧ j ≤ l.length ∧ withinP l (l.length - j) x.1 o = W ∧ w' = w) (fun x _ => (l.length - x.2).toNat) ⟨0, rfl, by omega, hG, rfl⟩ ?_
  rintro ⟨x, _⟩ _ ⟨j, rfl, hj, hw, rfl⟩ C hC
  dsimp only at hw ⊢
  refine iteB_i (fun hb => ?_) fun hb => ?_
  · have hlt : j < l.length := by have := of_decide_eq_true hb; omega
    obtain ⟨m, hm⟩ : ∃ m, l.length - j = m + 1 := ⟨l.length - j - 1, by omega⟩
    rw [hm] at hw
    unfold withinP at hw
    refine iteB_i (fun hb => ?_) fun hb => ?_
    · have hc : x < 0 ∨ (l.length : Int) ≤ x := by
        simp only [Bool.or_eq_true, decide_eq_true_eq] at hb; omega
      rw [if_pos hc] at hw
      rw [hw]; exact hk
    · have hc : ¬ (x < 0 ∨ (l.length : Int) ≤ x) := by
        simp only [Bool.or_eq_false_iff, decide_eq_false_iff_not] at hb; omega
      rw [if_neg hc] at hw
      refine iteB_i (fun hb => ?_) fun hb => ?_
      · rw [if_pos (by simpa using hb)] at hw
        rw [hw]; exact hk
      · rw [if_neg (by simpa using hb)] at hw
        refine tI_h (j := 0) hT h (by omega) (by omega) rfl ?_
        refine hC _ _ ⟨j + 1, ?_, by omega, ?_, rfl⟩ (by dsimp only; rw [wrap_id ⟨by omega, by omega⟩]; omega)
        · dsimp only; rw [wrap_id ⟨by omega, by omega⟩]; simp
        · rw [show l.length - (j + 1) = m by omega]; exact hw
  · have : j = l.length := by have := of_decide_eq_false hb; omega
    subst this
    rw [Nat.sub_self] at hw
    unfold withinP at hw
    rw [← hw] at hk; exact hk
end
section
variable {w : World} {s : Sl} {l : List Rb} {i : Int}
theorem came_s {r : Rb} {k : Bool → World → Prop} (hk : ∀ w', Ext w w' → k (decide (2 ≤ r.kind)) w') : table_came (rbV r).toArray w k := by
  unfold table_came
  refine newC_h (.nil w) fun g w2 h => ?_
  exact ldI_h (g := g) (o := 0 + 3) h rfl (hk _ h.ext)
theorem row_s {k : Array Value → World → Prop} (hT : Tbl w s l) (h0 : 0 ≤ i) (h1 : i < l.length) (hk : ∀ w', Ext w w' → k (rbV (rowAt l i)).toArray w') : table_look_row #[.slice s.a s.n s.c, .int .i64 i] w k := by
  unfold table_look_row
  refine newC_h (.nil w) fun g1 w2 h => newC_h h fun g3 w4 h => ?_
  refine ldS_h (g := g1) (o := 0 + 0) h rfl ?_
  refine ldI_h (g := g1) (o := 0 + 1) h rfl ?_
  refine tA_h hT h h0 h1 fun p hp => ?_
  refine stW_h (g := g3) h rfl rfl one_rb fun w9 h => ?_
  refine ldW_h (g := g3) h rfl ?_
  exact hk _ h.ext
theorem place_s {k : Bool → World → Prop} (hT : Tbl w s l) (h0 : 0 ≤ i) (h1 : i < l.length) (hk : ∀ w', Ext w w' → k (tPlace l i) w') : table_look_place #[.slice s.a s.n s.c, .int .i64 i] w k := by
  unfold table_look_place table_look_place_b
  have hf := hT.few
  refine newC_h (.nil w) fun g1 w2 h => ldW_h (g := g1) h rfl ?_
  refine row_s (hT.ext h.ext) h0 h1 fun w5 he => ?_
  have h := h.on he
  refine ldI_h (g := g1) (o := 0 + 1) h rfl ?_
  unfold tPlace at hk
  refine iteB_i (fun hb => ?_) fun hb => ?_
  · rw [if_pos (by simpa using hb)] at hk; exact hk _ h.ext
  · rw [if_neg (by simpa using hb)] at hk
    refine iteB_i (fun hb => ?_) fun hb => ?_
    · have hb1 : decide (0 ≤ (rowAt l i).par) = true := hb
      rw [hb1, Bool.true_and] at hk
      refine ldI_h (g := g1) (o := 0 + 1) h rfl ?_
      refine iteB_i (fun hb => ?_) fun hb => ?_
      · have hb1 : decide ((rowAt l i).par < i) = true := hb
        rw [hb1, Bool.true_and] at hk
        refine ldS_h (g := g1) (o := 0 + 0) h rfl ?_
        refine ldI_h (g := g1) (o := 0 + 1) h rfl ?_
        refine within_s (L := []) (hT.ext h.ext) (St.nil _) ?_
        rw [wrap_id ⟨by omega, by omega⟩]
        exact hk _ h.ext
      · have hb1 : decide ((rowAt l i).par < i) = false := hb
        rw [hb1, Bool.false_and] at hk
        exact hk _ h.ext
    · have hb1 : decide (0 ≤ (rowAt l i).par) = false := hb
      rw [hb1, Bool.false_and] at hk
      exact hk _ h.ext
theorem span_s {k : Bool → World → Prop} (hT : Tbl w s l) (h0 : 0 ≤ i) (h1 : i < l.length) (hk : ∀ w', Ext w w' → k (tSpan i (rowAt l i)) w') : table_look_span #[.slice s.a s.n s.c, .int .i64 i] w k := by
  unfold table_look_span table_look_span_b
  refine newC_h (.nil w) fun g1 w2 h => ldW_h (g := g1) h rfl ?_
  refine row_s (hT.ext h.ext) h0 h1 fun w5 he => ?_
  have h := h.on he
  refine newC_h h fun g6 w7 h => ?_
  refine stW_h (g := g6) h rfl rfl one_rb fun w8 h => ?_
  generalize rowAt l i = r at hk h
  unfold tSpan at hk
  have tail : ∀ {c : Bool → Prop}, c (decide (0 ≤ r.fn) && (decide (r.fn < 32) && (decide (0 ≤ r.kind) && (decide (r.kind ≤ 4) && (decide (0 ≤ r.steps) && decide (r.steps ≤ 1048576)))))) →
      ldI .i64 w8 (Addr.add ⟨g6, 0, none⟩ 2) fun i11 => iteB (decide (i11 ≥ (0 : Int))) (ldI .i64 w8 (Addr.add ⟨g6, 0, none⟩ 2) fun i12 => iteB (decide (i12 < (32 : Int))) (ldI .i64 w8 (Addr.add ⟨g6, 0, none⟩ 3) fun i13 => iteB (decide (i13 ≥ (0 : Int))) (
            ldI .i64 w8 (Addr.add ⟨g6, 0, none⟩ 3) fun i14 => iteB (decide (i14 ≤ (4 : Int))) (ldI .i64 w8 (Addr.add ⟨g6, 0, none⟩ 5) fun i15 => iteB (decide (i15 ≥ (0 : Int))) (ldI .i64 w8 (Addr.add ⟨g6, 0, none⟩ 5) fun i16 => c (decide (i16 ≤ (1048576 : Int)))) (c false)) (c false)) (c false)) (c false)) (c false) := by
    intro c hc
    refine ldI_h (g := g6) (o := 0 + 2) h rfl ?_
    refine iteB_i (fun hb => ?_) fun hb => ?_
    · rw [show decide (0 ≤ r.fn) = true from hb, Bool.true_and] at hc
      refine ldI_h (g := g6) (o := 0 + 2) h rfl ?_
      refine iteB_i (fun hb => ?_) fun hb => ?_
      · rw [show decide (r.fn < 32) = true from hb, Bool.true_and] at hc
        refine ldI_h (g := g6) (o := 0 + 3) h rfl ?_
        refine iteB_i (fun hb => ?_) fun hb => ?_
        · rw [show decide (0 ≤ r.kind) = true from hb, Bool.true_and] at hc
          refine ldI_h (g := g6) (o := 0 + 3) h rfl ?_
          refine iteB_i (fun hb => ?_) fun hb => ?_
          · rw [show decide (r.kind ≤ 4) = true from hb, Bool.true_and] at hc
            refine ldI_h (g := g6) (o := 0 + 5) h rfl ?_
            refine iteB_i (fun hb => ?_) fun hb => ?_
            · rw [show decide (0 ≤ r.steps) = true from hb, Bool.true_and] at hc
              exact ldI_h (g := g6) (o := 0 + 5) h rfl hc
            · rw [show decide (0 ≤ r.steps) = false from hb, Bool.false_and] at hc; exact hc
          · rw [show decide (r.kind ≤ 4) = false from hb, Bool.false_and] at hc; exact hc
        · rw [show decide (0 ≤ r.kind) = false from hb, Bool.false_and] at hc; exact hc
      · rw [show decide (r.fn < 32) = false from hb, Bool.false_and] at hc; exact hc
    · rw [show decide (0 ≤ r.fn) = false from hb, Bool.false_and] at hc; exact hc
  refine ldI_h (g := g6) (o := 0 + 1) h rfl ?_
  refine iteB_i (fun hb => ?_) fun hb => ?_
  · rw [show decide (0 ≤ r.inn) = true from hb, Bool.true_and] at hk
    refine ldI_h (g := g1) (o := 0 + 1) h rfl ?_
    refine iteB_i (fun hb => ?_) fun hb => ?_
    · rw [show decide (0 < i) = true from hb, Bool.true_or, Bool.true_and] at hk
      exact tail (c := fun b => k b w8) (hk _ h.ext)
    · rw [show decide (0 < i) = false from hb, Bool.false_or] at hk
      refine ldI_h (g := g6) (o := 0 + 1) h rfl ?_
      refine iteB_i (fun hb => ?_) fun hb => ?_
      · rw [show (r.inn == 0) = true from hb, Bool.true_and] at hk
        exact tail (c := fun b => k b w8) (hk _ h.ext)
      · rw [show (r.inn == 0) = false from hb, Bool.false_and] at hk
        exact hk _ h.ext
  · rw [show decide (0 ≤ r.inn) = false from hb, Bool.false_and] at hk; exact hk _ h.ext
end
theorem bytes_loop (b : ByteArray) : ∀ (n i : Nat) (r : List UInt8), b.size - i = n → ByteArray.toList.loop b i r = r.reverse ++ b.data.toList.drop i
  | 0, i, r, h => by
    unfold ByteArray.toList.loop
    have : ¬ i < b.size := by omega
    rw [if_neg this, List.drop_of_length_le (by rw [Array.length_toList]; show b.size ≤ i; omega)]; simp
  | n+1, i, r, h => by
    unfold ByteArray.toList.loop
    have hi : i < b.size := by omega
    rw [if_pos hi, bytes_loop b n (i+1) _ (by omega)]
    have hl : i < b.data.toList.length := by rw [Array.length_toList]; exact hi
    rw [List.drop_eq_getElem_cons hl]
    have : b.get! i = b.data.toList[i] := by
      show b.data[i]! = _
      rw [getElem!_pos b.data i hi]; simp
    rw [this]
    simp
theorem bytes_toList (b : ByteArray) : b.toList = b.data.toList := by
  unfold ByteArray.toList
  rw [bytes_loop b _ 0 [] rfl]; simp
theorem of_nt {x : Bool} (h : (!x) = false) : x = true := by cases x <;> simp at h ⊢
theorem of_ny {x : Bool} (h : (!x) = true) : x = false := by cases x <;> simp at h ⊢
def asV : List Value := (List.range 256).map fun j => .bool (j == 48 || j == 49)
theorem asV_at {c : Int} (h0 : 0 ≤ c) (h1 : c < 256) : asV[c.toNat]? = some (.bool (c == 48 || c == 49)) := by
  unfold asV
  rw [List.getElem?_map, List.getElem?_range (by omega)]
  simp only [Option.map_some]
  congr 2
  have e1 : (c.toNat == 48) = (c == 48) := by rw [Bool.eq_iff_iff]; simp; omega
  have e2 : (c.toNat == 49) = (c == 49) := by rw [Bool.eq_iff_iff]; simp; omega
  rw [e1, e2]
theorem asV_one : ∀ v ∈ asV.toArray, v.oneCell' = true := by
  intro v hv; simp [asV] at hv; obtain ⟨j, _, rfl⟩ := hv; rfl
section
variable {w0 w : World} {L : List HP} {g : Nat} {f : HP → List HP}
theorem contains_s {c : Int} {k : Bool → World → Prop} (h : St w0 w L) [a : At L (blk g) asV f] (h0 : 0 ≤ c) (h1 : c < 256) (hk : k (c == 48 || c == 49) w) : strings_asciiSet_contains (some ⟨g, 0, none⟩) c w k := by
  unfold strings_asciiSet_contains
  refine nn_i ⟨⟨h0, by omega⟩, ?_⟩
  show ldB w (Addr.add ⟨g, 0, none⟩ (c.toNat * 1)) _
  rw [Nat.mul_one, add_mk, Nat.zero_add]
  exact ldB_h (g := g) (o := c.toNat) h (asV_at h0 h1) hk
end
theorem ext_list (t : ByteArray) (a b : Nat) : (t.extract a b).data.toList = (t.data.toList.drop a).take (b - a) := by
  rw [ByteArray.data_extract, Array.toList_extract]
theorem ixStr_at {t : ByteArray} {n : Nat} {b : UInt8} {c : Int → Prop} (h : t.data.toList[n]? = some b) (hc : c b.toNat) : ixStr t n c := by
  refine ⟨by omega, ?_⟩
  have : t[((n : Int)).toNat]? = some b := by
    rw [Int.toNat_natCast]
    have hlt : n < t.data.size := by have := (List.getElem?_eq_some_iff.1 h).1; simpa using this
    have e : t[n]? = some (t[n]'hlt) := getElem?_pos t n hlt
    rw [e]
    rw [← h]
    have : t.data.toList[n]? = some (t.data[n]'hlt) := by rw [Array.getElem?_toList, Array.getElem?_eq_getElem hlt]
    rw [this]; rfl
  rw [this]; exact hc
theorem sz_list (t : ByteArray) : t.size = t.data.toList.length := by rw [Array.length_toList]; rfl
theorem byte_in {b : UInt8} : ((b.toNat : Int) == 48 || (b.toNat : Int) == 49) = (b == 48 || b == 49) := by
  have e1 : ((b.toNat : Int) == 48) = (b == 48) := by
    rw [Bool.eq_iff_iff]; simp only [beq_iff_eq]
    constructor
    · intro h; apply UInt8.toNat_inj.1; have : b.toNat = 48 := by omega
      rw [this]; rfl
    · rintro rfl; rfl
  have e2 : ((b.toNat : Int) == 49) = (b == 49) := by
    rw [Bool.eq_iff_iff]; simp only [beq_iff_eq]
    constructor
    · intro h; apply UInt8.toNat_inj.1; have : b.toNat = 49 := by omega
      rw [this]; rfl
    · rintro rfl; rfl
  rw [e1, e2]
section
variable {w0 w : World} {L : List HP} {g : Nat} {f : HP → List HP} {t : ByteArray}
theorem byte_lt (b : UInt8) : (b.toNat : Int) < 256 := by have := b.toNat_lt; omega
theorem trimR_s {k : ByteArray → World → Prop} (hs : t.size < 4611686018427387904) (h : St w0 w L) [a : At L (blk g) asV f] (hk : ∀ t', is01 t' = is01 t → t'.size ≤ t.size → k t' w) : strings_trimRightASCII t (some ⟨g, 0, none⟩) w k := by
  unfold strings_trimRightASCII strings_trimRightASCII_b
  refine loopP_of (fun (x : ByteArray) w' => is01 x = is01 t ∧ x.size ≤ t.size ∧ w' = w) (fun x _ => x.size) ⟨rfl, Nat.le_refl _, rfl⟩ ?_
  rintro x _ ⟨hx, hz, rfl⟩ C hC
  refine iteB_i (fun hb => ?_) fun hb => hk _ hx hz
  have hpos : 0 < x.size := by have := of_decide_eq_true hb; omega
  have ew : IntKind.wrap .i64 ((x.size : Int) - 1) = ((x.size - 1 : Nat) : Int) := by rw [wrap_id ⟨by omega, by omega⟩]; omega
  rw [ew]
  have hl : x.size = x.data.toList.length := sz_list x
  obtain ⟨b, hbb⟩ : ∃ b, x.data.toList[x.size - 1]? = some b := ⟨_, List.getElem?_eq_getElem (by omega)⟩
  refine ixStr_at hbb ?_
  refine contains_s h (by omega) (byte_lt b) ?_
  rw [byte_in]
  refine iteB_i (fun hb => hk _ hx hz) fun hb => ?_
  have hb : (b == 48 || b == 49) = true := of_nt hb
  refine ⟨⟨by omega, by omega⟩, ⟨by omega, by omega⟩, ?_⟩
  have hd : (x.extract 0 (x.size - 1)).data.toList = x.data.toList.take (x.size - 1) := by rw [ext_list]; simp
  have hsz : (x.extract 0 (x.size - 1)).size = x.size - 1 := by rw [sz_list, hd, List.length_take, ← hl]; omega
  simp only [Int.toNat_zero, Int.toNat_natCast]
  refine hC _ _ ⟨?_, by rw [hsz]; omega, rfl⟩ (by rw [hsz]; omega)
  rw [← hx]
  unfold is01
  rw [hd]
  have e : x.data.toList = x.data.toList.take (x.size - 1) ++ [b] := by
    refine (List.take_append_drop (x.size - 1) x.data.toList).symm.trans ?_
    congr 1
    rw [List.drop_eq_getElem_cons (by omega)]
    rw [List.getElem?_eq_getElem (by omega)] at hbb
    rw [Option.some.inj hbb, List.drop_of_length_le (by omega)]
  refine Eq.trans ?_ (congrArg (fun q : List UInt8 => q.all fun c => c == 48 || c == 49) e.symm)
  rw [List.all_append]
  simp only [List.all_cons, List.all_nil, Bool.and_true, hb]
theorem trimL_s {k : ByteArray → World → Prop} (hs : t.size < 4611686018427387904) (h : St w0 w L) [a : At L (blk g) asV f] (hk : ∀ t', strEqB t' (ByteArray.mk #[]) = is01 t → k t' w) : strings_trimLeftASCII t (some ⟨g, 0, none⟩) w k := by
  unfold strings_trimLeftASCII strings_trimLeftASCII_b
  refine loopP_of (fun (x : ByteArray) w' => is01 x = is01 t ∧ x.size ≤ t.size ∧ w' = w) (fun x _ => x.size) ⟨rfl, Nat.le_refl _, rfl⟩ ?_
  rintro x _ ⟨hx, hz, rfl⟩ C hC
  have hl : x.size = x.data.toList.length := sz_list x
  refine iteB_i (fun hb => ?_) fun hb => hk _ ?_
  · have hpos : 0 < x.size := by have := of_decide_eq_true hb; omega
    obtain ⟨b, r, hbr⟩ : ∃ b r, x.data.toList = b :: r := by
      cases e : x.data.toList with
      | nil => rw [e, List.length_nil] at hl; omega
      | cons b r => exact ⟨b, r, rfl⟩
    refine ixStr_at (n := 0) (b := b) (by rw [hbr]; rfl) ?_
    refine contains_s h (by omega) (byte_lt b) ?_
    rw [byte_in]
    have hi : is01 x = ((b == 48 || b == 49) && r.all fun c => c == 48 || c == 49) := by unfold is01; rw [hbr]; rfl
    refine iteB_i (fun hb => hk _ ?_) fun hb => ?_
    · rw [← hx, hi, of_ny hb, Bool.false_and]
      unfold strEqB
      rw [bytes_toList, bytes_toList, hbr]; rfl
    · have hb : (b == 48 || b == 49) = true := of_nt hb
      refine ⟨⟨by omega, by omega⟩, ⟨by omega, by omega⟩, ?_⟩
      have hd : (x.extract 1 x.size).data.toList = r := by
        rw [ext_list, hbr]
        simp only [List.drop_succ_cons, List.drop_zero]
        exact List.take_of_length_le (by rw [hl, hbr]; simp)
      have hsz : (x.extract 1 x.size).size = x.size - 1 := by rw [sz_list, hd, hl, hbr]; simp
      simp only [Int.toNat_one, Int.toNat_natCast]
      refine hC _ _ ⟨?_, by rw [hsz]; omega, rfl⟩ (by rw [hsz]; omega)
      rw [← hx, hi, hb, Bool.true_and]
      unfold is01; rw [hd]
  · have h0 : x.size = 0 := by have := of_decide_eq_false hb; omega
    have e : x.data.toList = [] := List.length_eq_zero_iff.1 (by omega)
    rw [← hx]
    unfold strEqB is01
    rw [bytes_toList, bytes_toList, e]; rfl
end
end Go.Proofs.YtgkfbagclkjilaaGreatDoor.Ft
namespace Go.Proofs.YtgkfbagclkjilaaGreatDoor.Ft
open Go Go.Ev Go.Proofs Go.Proofs.YtgkfbagclkjilaaGreatDoor
theorem as_len : asV.length = 256 := by simp [asV]
theorem asSet : (((List.replicate 256 (Value.bool false)).set 48 (.bool true)).set 49 (.bool true)) = asV := by kernel_rfl
section
variable {w : World} {s : Sl} {l : List Rb} {i : Int} {t : ByteArray}
theorem asciiSet_s {k : Array Value × Bool → World → Prop} (hk : ∀ w', Ext w w' → k (asV.toArray, true) w') : strings_makeASCIISet (ByteArray.mk #[48, 49]) w k := by
  unfold strings_makeASCIISet
  refine newC_h (.nil w) fun g w2 h => ?_
  have h : St w w2 [blk g (List.replicate 256 (Value.bool false))] := h
  refine ⟨3, ?_⟩
  unfold iterP
  refine iteB_t rfl (ixStr_at (n := 0) (b := 48) rfl ?_)
  refine iteB_f rfl ⟨⟨by decide, by decide⟩, ?_⟩
  refine stC_h (g := g) (o := 48) h rfl (by simp) fun w3 h => ?_
  unfold iterP
  refine iteB_t rfl (ixStr_at (n := 1) (b := 49) rfl ?_)
  refine iteB_f rfl ⟨⟨by decide, by decide⟩, ?_⟩
  refine stC_h (g := g) (o := 49) h rfl (by simp) fun w4 h => ?_
  rw [asSet] at h
  unfold iterP
  refine iteB_f rfl ?_
  refine ldW_h (g := g) h as_len ?_
  refine stW_h (g := g) h as_len (by simp [as_len]) asV_one fun w5 h => ?_
  refine ldW_h (g := g) h (by simp [as_len]) ?_
  exact hk _ h.ext
theorem trim_s {k : ByteArray → World → Prop} (hs : t.size < 4611686018427387904) (hk : ∀ t' w', Ext w w' → strEqB t' (ByteArray.mk #[]) = is01 t → k t' w') : strings_Trim t (ByteArray.mk #[48, 49]) w k := by
  unfold strings_Trim strings_Trim_b
  have e0 : strEqB (ByteArray.mk #[48, 49]) (ByteArray.mk #[]) = false := by unfold strEqB; rw [bytes_toList, bytes_toList]; rfl
  rw [e0, Bool.or_false]
  refine iteB_i (fun hb => ?_) fun hb => ?_
  · refine hk _ _ (.refl _ _) ?_
    rw [hb]
    unfold strEqB at hb
    rw [bytes_toList, bytes_toList] at hb
    have : t.data.toList = [] := by
      have e : ({ data := #[] } : ByteArray).data.toList = [] := rfl
      rw [e] at hb
      simpa using hb
    unfold is01; rw [this]; rfl
  refine joinP_i (fun b w' => b = false ∧ w' = w) (fun J hJ => iteB_f rfl (hJ _ _ ⟨rfl, rfl⟩)) fun b w4 hbw => ?_
  rw [hbw.1, hbw.2]
  refine iteB_f rfl ?_
  refine asciiSet_s fun w13 he => ?_
  refine newC_h (.of_ext he) fun g w15 h => ?_
  refine stW_h (n := 256) (g := g) h (by kernel_rfl) (by simp [as_len]) asV_one fun w16 h => ?_
  have h : St w w16 [blk g asV] := h
  refine iteB_t rfl ?_
  refine trimR_s hs h fun t' h1 h2 => ?_
  refine trimL_s (by omega) h fun t2 h3 => ?_
  exact hk _ _ h.ext (by rw [h3, h1])
theorem told_s {k : Bool → World → Prop} (hT : Tbl w s l) (h0 : 0 ≤ i) (h1 : i < l.length) (hs : (rowAt l i).cl.size < 4611686018427387904) (hk : ∀ w', Ext w w' → k (is01 (rowAt l i).cl) w') : table_look_told #[.slice s.a s.n s.c, .int .i64 i] w k := by
  unfold table_look_told table_look_told_b
  refine newC_h (.nil w) fun g1 w2 h => ldW_h (g := g1) h rfl ?_
  refine row_s (hT.ext h.ext) h0 h1 fun w5 he => ?_
  have h := h.on he
  unfold ptA
  rw [show (rbV (rowAt l i)).toArray[6]? = some (.string (rowAt l i).cl) from rfl]
  show strings_Trim (rowAt l i).cl _ _ _
  refine trim_s hs fun t' w9 he2 e => ?_
  rw [e]
  exact hk _ (h.ext.trans he2)
theorem strEq_nil : strEqB t (ByteArray.mk #[]) = (t.size == 0) := by
  unfold strEqB; rw [bytes_toList, bytes_toList, sz_list]
  cases t.data.toList with
  | nil => rfl
  | cons a l => rfl
theorem state_s {k : Bool → World → Prop} (hT : Tbl w s l) (h0 : 0 ≤ i) (h1 : i < l.length) (hp : i ≠ 0 → 0 ≤ (rowAt l i).par ∧ (rowAt l i).par < l.length) (hk : ∀ w', Ext w w' → k (tState l i (rowAt l i)) w') : table_look_state #[.slice s.a s.n s.c, .int .i64 i] w k := by
  unfold table_look_state table_look_state_b
  refine newC_h (.nil w) fun g1 w2 h => ldW_h (g := g1) h rfl ?_
  refine row_s (hT.ext h.ext) h0 h1 fun w5 he => ?_
  have h := h.on he
  refine newC_h h fun g6 w7 h => ?_
  refine stW_h (g := g6) h rfl rfl one_rb fun w8 h => ?_
  unfold tState at hk
  refine joinP_i (fun b w' => b = ((rowAt l i).v != 0 && ((rowAt l i).kind != 2 && (rowAt l i).kind != 3)) ∧ w' = w8) (fun J hJ => ?_) fun b w' hb => ?_
  · refine ldI_h (g := g6) (o := 0 + 4) h rfl ?_
    refine iteB_i (fun hb => ?_) fun hb => hJ _ _ ⟨by rw [show ((rowAt l i).v != 0) = false from hb]; rfl, rfl⟩
    rw [show ((rowAt l i).v != 0) = true from hb, Bool.true_and] at hJ
    refine ldI_h (g := g6) (o := 0 + 3) h rfl ?_
    refine iteB_i (fun hb => ?_) fun hb => hJ _ _ ⟨by rw [show ((rowAt l i).kind != 2) = false from hb]; rfl, rfl⟩
    exact ldI_h (g := g6) (o := 0 + 3) h rfl (hJ _ _ ⟨by rw [show ((rowAt l i).kind != 2) = true from hb]; rfl, rfl⟩)
  rw [hb.2, hb.1]
  refine iteB_i (fun hb => ?_) fun hb => ?_
  · rw [hb] at hk; exact hk _ h.ext
  rw [hb, Bool.not_false, Bool.true_and] at hk
  refine joinP_i (fun b w' => b = ((rowAt l i).kind == 0 && ((rowAt l i).steps != 0 || (rowAt l i).cl.size != 0)) ∧ w' = w8) (fun J hJ => ?_) fun b w' hb => ?_
  · refine ldI_h (g := g6) (o := 0 + 3) h rfl ?_
    refine iteB_i (fun hb => ?_) fun hb => hJ _ _ ⟨by rw [show ((rowAt l i).kind == 0) = false from hb]; rfl, rfl⟩
    rw [show ((rowAt l i).kind == 0) = true from hb, Bool.true_and] at hJ
    refine ldI_h (g := g6) (o := 0 + 5) h rfl ?_
    refine iteB_i (fun hb => hJ _ _ ⟨by rw [show ((rowAt l i).steps != 0) = true from hb]; rfl, rfl⟩) fun hb => ?_
    refine ldStr_h (g := g6) (o := 0 + 6) h rfl ?_
    rw [strEq_nil]
    exact hJ _ _ ⟨by rw [show ((rowAt l i).steps != 0) = false from hb]; rfl, rfl⟩
  rw [hb.2, hb.1]
  refine iteB_i (fun hb => ?_) fun hb => ?_
  · rw [hb] at hk; exact hk _ h.ext
  rw [hb, Bool.not_false, Bool.true_and] at hk
  refine ldI_h (g := g1) (o := 0 + 1) h rfl ?_
  refine iteB_i (fun hb => ?_) fun hb => ?_
  · rw [show (i == 0) = true from hb] at hk; exact hk _ h.ext
  rw [show (i == 0) = false from hb, Bool.false_or] at hk
  obtain ⟨hp0, hp1⟩ := hp (by simpa using hb)
  refine ldS_h (g := g1) (o := 0 + 0) h rfl ?_
  refine ldI_h (g := g6) (o := 0 + 0) h rfl ?_
  refine tA_h hT h hp0 hp1 fun p hpc => ?_
  refine newC_h h fun g26 w27 h => ?_
  refine stW_h (g := g26) h rfl rfl one_rb fun w28 h => ?_
  refine ldI_h (g := g26) (o := 0 + 3) h rfl ?_
  refine iteB_i (fun hb => ?_) fun hb => ?_
  · rw [show ((rowAt l (rowAt l i).par).kind != 0) = true from hb, Bool.true_and] at hk
    refine ldW_h (g := g26) h rfl ?_
    refine came_s (r := rowAt l (rowAt l i).par) fun w32 he => ?_
    have h := h.on he
    refine iteB_i (fun hb => ?_) fun hb => ?_
    · rw [hb, Bool.true_or] at hk; exact hk _ h.ext
    · rw [hb, Bool.false_or] at hk
      refine ldW_h (g := g6) h rfl ?_
      exact came_s (r := rowAt l i) fun w35 he => hk _ (h.ext.trans he)
  · rw [show ((rowAt l (rowAt l i).par).kind != 0) = false from hb, Bool.false_and] at hk; exact hk _ h.ext
def askL (s : Sl) (i : Int) : List Value := [.func (.func n_table_look_place) #[.agg #[.slice s.a s.n s.c, .int .i64 i]] #[], .int .i64 11, .func (.func n_table_look_span) #[.agg #[.slice s.a s.n s.c, .int .i64 i]] #[], .int .i64 10,
  .func (.func n_table_look_told) #[.agg #[.slice s.a s.n s.c, .int .i64 i]] #[], .int .i64 11, .func (.func n_table_look_state) #[.agg #[.slice s.a s.n s.c, .int .i64 i]] #[], .int .i64 19]
theorem ask_step {w0 : World} {g : Nat} {id : FuncId} {code : Int} {cs : Array Value} {j : Nat} {L : List HP} {f : HP → List HP} {t : TypeId} (h : St w0 w L) [a : At L (blk g) (askL s i) f] (hj : j < 4)
    (hv : (askL s i)[j * 2]? = some (.func (.func id) #[.agg cs] #[])) (he : (askL s i)[j * 2 + 1]? = some (.int .i64 code)) {k : Addr → World → Prop}
    (hk : ∀ g' w', St w0 w' (blk g' [.func (.func id) #[.agg cs] #[], .int .i64 code] :: L) → k ⟨g', 0, none⟩ w') :
    ixS (Sl.mk (some ⟨g, 0, none⟩) 4 4) (j : Int) 2 fun a17 => ldA 2 w a17 fun cs18 => newC w #[.nilFunc, (.int .i64 (0 : Int))] t fun a19 w20 => stA 2 w20 a19 cs18 fun w21 => k a19 w21 := by
  refine ⟨⟨by omega, by simp only; omega⟩, ?_⟩
  have e : (⟨g, 0, none⟩ : Addr).add (((j : Int)).toNat * 2) = ⟨g, j * 2, none⟩ := by rw [add_mk, Int.toNat_natCast]; simp
  show ldA 2 w ((⟨g, 0, none⟩ : Addr).add (((j : Int)).toNat * 2)) _
  rw [e]
  refine ldA_h (n := 2) (g := g) (o := j * 2) h (by simp [askL]; omega) ?_
  have e2 : (((askL s i).drop (j * 2)).take 2) = [.func (.func id) #[.agg cs] #[], .int .i64 code] := by
    have h1 : j * 2 < (askL s i).length := by simp [askL]; omega
    have h2 : j * 2 + 1 < (askL s i).length := by simp [askL]; omega
    rw [List.drop_eq_getElem_cons h1, List.drop_eq_getElem_cons h2]
    rw [List.getElem?_eq_getElem h1] at hv
    rw [List.getElem?_eq_getElem h2] at he
    rw [Option.some.inj hv, Option.some.inj he]; rfl
  rw [e2]
  refine newC_h h fun g' w20 h => ?_
  refine stW_h (n := 2) (g := g') h rfl rfl (by intro v hv; simp at hv; rcases hv with rfl | rfl <;> rfl) fun w21 h => ?_
  exact hk _ _ h
theorem a_place {cs : Array Value} {c : Value → World → Prop} (h : table_look_place cs w fun r w => c (.bool r) w) : d_table_look_place [.agg cs] w c := h
theorem a_span {cs : Array Value} {c : Value → World → Prop} (h : table_look_span cs w fun r w => c (.bool r) w) : d_table_look_span [.agg cs] w c := h
theorem a_told {cs : Array Value} {c : Value → World → Prop} (h : table_look_told cs w fun r w => c (.bool r) w) : d_table_look_told [.agg cs] w c := h
theorem a_state {cs : Array Value} {c : Value → World → Prop} (h : table_look_state cs w fun r w => c (.bool r) w) : d_table_look_state [.agg cs] w c := h
theorem toB_i {n : Bool} {c : Bool → Prop} (h : c n) : toB (.bool n) c := h
theorem callF_1 {orc : Oracle} {id : FuncId} {a : Value} {w : World} {c : Value → World → Prop} {d : Dec} (e : ∀ args w c, orc (.func id) args w c = d args.toList w c) (h : d [a] w c) : callF orc (.func (.func id) #[a] #[]) #[] w c :=
  callF_i e h
theorem check_s {k : Int → World → Prop} (hT : Tbl w s l) (h0 : 0 ≤ i) (h1 : i < l.length) (hs : (rowAt l i).cl.size < 4611686018427387904) (hk : ∀ w', Ext w w' → k (tRow l i) w') : table_check s i w k := by
  unfold table_check table_check_b
  unfold tRow at hk
  refine newC_h (.nil w) fun g1 w2 h => stW_h (n := 2) (g := g1) h rfl rfl (by intro v hv; simp at hv; rcases hv with rfl | rfl <;> rfl) fun w3 h => ?_
  refine ldW_h (g := g1) h rfl (ldW_h (g := g1) h rfl (ldW_h (g := g1) h rfl (ldW_h (g := g1) h rfl ?_)))
  refine spl_V _ rfl (by simp) rfl ?_
  refine spl_V _ rfl (by simp) rfl ?_
  refine spl_V _ rfl (by simp) rfl ?_
  refine spl_V _ rfl (by simp) rfl ?_
  refine newC_h h fun g12 w13 h => ?_
  have h : St w w13 (blk g12 (askL s i) :: [blk g1 [.slice s.a s.n s.c, .int .i64 i]]) := h
  refine ⟨5, ?_⟩
  unfold iterP
  refine iteB_t rfl (ask_step (j := 0) (g := g12) h (by omega) rfl rfl fun g' w' h => ?_)
  refine ldV_h (g := g') (o := 0 + 0) h rfl ?_
  refine callF_1 (d := d_table_look_place) (fun _ _ _ => rfl) (a_place (place_s (hT.ext h.ext) h0 h1 fun w' he => ?_))
  have h := h.on he
  refine toB_i ?_
  refine iteB_i (fun hb => ?_) fun hb => ?_
  · rw [if_pos (of_ny hb)] at hk
    exact ldI_h (g := g') (o := 0 + 1) h rfl (hk _ h.ext)
  have hb := of_nt hb
  rw [if_neg (by rw [hb]; decide)] at hk
  have h := h.drop
  have hp : i ≠ 0 → 0 ≤ (rowAt l i).par ∧ (rowAt l i).par < l.length := fun hi => by
    unfold tPlace at hb
    rw [if_neg hi] at hb
    simp only [Bool.and_eq_true, decide_eq_true_eq] at hb
    omega
  unfold iterP
  refine iteB_t rfl (ask_step (j := 1) (g := g12) h (by omega) rfl rfl fun g' w' h => ?_)
  refine ldV_h (g := g') (o := 0 + 0) h rfl ?_
  refine callF_1 (d := d_table_look_span) (fun _ _ _ => rfl) (a_span (span_s (hT.ext h.ext) h0 h1 fun w' he => ?_))
  have h := h.on he
  refine toB_i ?_
  refine iteB_i (fun hb => ?_) fun hb => ?_
  · rw [if_pos (of_ny hb)] at hk
    exact ldI_h (g := g') (o := 0 + 1) h rfl (hk _ h.ext)
  have hb := of_nt hb
  rw [if_neg (by rw [hb]; decide)] at hk
  have h := h.drop
  unfold iterP
  refine iteB_t rfl (ask_step (j := 2) (g := g12) h (by omega) rfl rfl fun g' w' h => ?_)
  refine ldV_h (g := g') (o := 0 + 0) h rfl ?_
  refine callF_1 (d := d_table_look_told) (fun _ _ _ => rfl) (a_told (told_s (hT.ext h.ext) h0 h1 hs fun w' he => ?_))
  have h := h.on he
  refine toB_i ?_
  refine iteB_i (fun hb => ?_) fun hb => ?_
  · rw [if_pos (of_ny hb)] at hk
    exact ldI_h (g := g') (o := 0 + 1) h rfl (hk _ h.ext)
  have hb := of_nt hb
  rw [if_neg (by rw [hb]; decide)] at hk
  have h := h.drop
  unfold iterP
  refine iteB_t rfl (ask_step (j := 3) (g := g12) h (by omega) rfl rfl fun g' w' h => ?_)
  refine ldV_h (g := g') (o := 0 + 0) h rfl ?_
  refine callF_1 (d := d_table_look_state) (fun _ _ _ => rfl) (a_state (state_s (hT.ext h.ext) h0 h1 hp fun w' he => ?_))
  have h := h.on he
  refine toB_i ?_
  refine iteB_i (fun hb => ?_) fun hb => ?_
  · rw [if_pos (of_ny hb)] at hk
    exact ldI_h (g := g') (o := 0 + 1) h rfl (hk _ h.ext)
  have hb := of_nt hb
  rw [if_neg (by rw [hb]; decide)] at hk
  have h := h.drop
  unfold iterP
  exact iteB_f rfl (hk _ h.ext)
theorem Check_s {k : Int → World → Prop} (hT : Tbl w s l) (hs : ∀ r ∈ l, r.cl.size < 4611686018427387904) (hk : ∀ w', Ext w w' → k (tcheck l) w') : table_Check s w k := by
  have hn := hT.len; have hf := hT.few
  unfold table_Check table_Check_b
  unfold tcheck at hk
  refine iteB_i (fun hb => ?_) fun hb => ?_
  · rw [if_pos (by have : ((s.n : Nat) : Int) = 0 := by simpa using hb
                   omega)] at hk
    exact hk _ (.refl _ _)
  rw [if_neg (by have : ¬ ((s.n : Nat) : Int) = 0 := by simpa using hb
                 omega)] at hk
  generalize hG : tChk l l.length 0 = W at hk
  refine loopP_of (fun (x : Int) w' => ∃ j : Nat, x = (j : Int) ∧ j ≤ l.length ∧ tChk l (l.length - j) j = W ∧ Ext w w') (fun x _ => (l.length - x).toNat) ⟨0, rfl, by omega, hG, .refl _ _⟩ ?_
  rintro _ w' ⟨j, rfl, hj, hw, he⟩ C hC
  refine iteB_i (fun hb => ?_) fun hb => ?_
  · have hlt : j < l.length := by have := of_decide_eq_true hb; omega
    obtain ⟨m, hm⟩ : ∃ m, l.length - j = m + 1 := ⟨l.length - j - 1, by omega⟩
    rw [hm] at hw
    unfold tChk at hw
    refine check_s (hT.ext he) (by omega) (by omega) (hs _ (List.mem_of_getElem? (rowAt_get (by omega)))) fun w5 he2 => ?_
    refine iteB_i (fun hb => ?_) fun hb => ?_
    · rw [if_neg (by simpa using hb)] at hw
      rw [hw]; exact hk _ (he.trans he2)
    · rw [if_pos (by simpa using hb)] at hw
      refine hC _ _ ⟨j + 1, ?_, by omega, ?_, he.trans he2⟩ (by rw [wrap_id ⟨by omega, by omega⟩]; omega)
      · rw [wrap_id ⟨by omega, by omega⟩]; simp
      · rw [show l.length - (j + 1) = m by omega]; exact hw
  · have : j = l.length := by have := of_decide_eq_false hb; omega
    subst this
    rw [Nat.sub_self] at hw
    unfold tChk at hw
    rw [hw]; exact hk _ he
def kidsT (l : List Rb) (i : Int) (n : Nat) : List Int := ((List.range n).filter fun k : Nat => (rowAt l (k : Int)).par == i).map fun k : Nat => (k : Int)
theorem kidsT_succ {n : Nat} : kidsT l i (n + 1) = kidsT l i n ++ (if (rowAt l n).par == i then [(n : Int)] else []) := by
  unfold kidsT
  rw [List.range_succ, List.filter_append, List.map_append]
  congr 1
  by_cases h : (rowAt l n).par == i
  · rw [if_pos h]; simp only [List.filter_cons, h, if_true, List.filter_nil, List.map_cons, List.map_nil]
  · rw [if_neg h]; simp only [List.filter_cons, h, if_false, Bool.false_eq_true, List.filter_nil, List.map_nil]
theorem kidsT_len {n : Nat} : (kidsT l i n).length ≤ n := by
  unfold kidsT
  rw [List.length_map]
  exact Nat.le_trans (List.length_filter_le _ _) (by simp)
theorem Kids_s {w0 : World} {L : List HP} {k : Sl → World → Prop} (hT : Tbl w0 s l) (h : St w0 w L) (hl : l.length ≤ 1000000) (hk : ∀ sk w', St w0 w' (slc 1 sk (ints (kidsL l i)) :: L) → sk.n = (kidsL l i).length → k sk w') : table_Kids s i w k := by
  have hn := hT.len
  unfold table_Kids
  refine loopP_of (fun (x : Sl × Int) w' => ∃ j : Nat, x.2 = (j : Int) ∧ j ≤ l.length ∧ St w0 w' (slc 1 x.1 (ints (kidsT l i j)) :: L)) (fun x _ => (l.length - x.2).toNat) ⟨0, rfl, by omega, h.nilS 1⟩ ?_
  rintro ⟨sk, _⟩ w' ⟨j, rfl, hj, h⟩ C hC
  dsimp only at h ⊢
  have hsl := h.slen (sz := 1) (s := sk)
  have hkl := kidsT_len (l := l) (i := i) (n := j)
  have hsn : sk.n = (kidsT l i j).length := by simp [ints] at hsl; omega
  have ew : IntKind.wrap .i64 ((j : Int) + 1) = ((j + 1 : Nat) : Int) := by rw [wrap_id ⟨by omega, by omega⟩]; simp
  refine iteB_i (fun hb => ?_) fun hb => ?_
  · have hlt : j < l.length := by have := of_decide_eq_true hb; omega
    refine tA_h hT h (by omega) (by omega) fun p hp => ?_
    refine newC_h h fun g w7 h => ?_
    refine stW_h (g := g) h rfl rfl one_rb fun w8 h => ?_
    refine ldI_h (g := g) (o := 0 + 0) h rfl ?_
    have h := h.drop
    refine iteB_i (fun hb => ?_) fun hb => ?_
    · refine newC_h h fun g10 w11 h => ?_
      refine bApp_h (s := sk) (vs := ints (kidsT l i j)) (x := ⟨some ⟨g10, 0, none⟩, 1, 1⟩) (ys := [.int .i64 j]) h (Ck.elI (by kernel_rfl)) (by kernel_rfl) (blk_sls (n := 1) (l := [.int .i64 j]) (h.blk (g := g10)) rfl 1) (by simp [Value.oneCell']) (by simp only; omega) (by simp only; omega) fun s12 w13 h n12 => ?_
      rw [ew]
      refine hC _ _ ⟨j + 1, rfl, by omega, ?_⟩ (by dsimp only; omega)
      have h := h.drop
      rw [kidsT_succ, if_pos (show ((rowAt l j).par == i) = true from hb)]
      have e : ints (kidsT l i j ++ [(j : Int)]) = ints (kidsT l i j) ++ [.int .i64 j] := by simp [ints]
      rw [e]; exact h
    · rw [ew]
      refine hC _ _ ⟨j + 1, rfl, by omega, ?_⟩ (by dsimp only; omega)
      rw [kidsT_succ, if_neg (by rw [show ((rowAt l j).par == i) = false from hb]; decide), List.append_nil]; exact h
  · have : j = l.length := by have := of_decide_eq_false hb; omega
    subst this
    exact hk sk _ h hsn
end
end Go.Proofs.YtgkfbagclkjilaaGreatDoor.Ft
namespace Go.Proofs.YtgkfbagclkjilaaGreatDoor.Ft
open Go Go.Ev Go.Proofs Go.Proofs.YtgkfbagclkjilaaGreatDoor
open Go.Proofs.YtgkfbagclkjilaaGreatDoor.Fr (fTo fOn fPlain fForked fJoined fClosed fChild fRoot fR isB fTo_len fOn_len fPlain_len fForked_len fJoined_len fClosed_len)
open Go.Proofs.YtgkfbagclkjilaaGreatDoor.Ck (opI Walk Accs needsOf isGoes heldL depths stepD handlesOk subBits scopesOk forks)
section
variable {P : List FnR} {Q : Int → Prop} {l : List Rb} {q : Bool} {row : Int} {inn : Int × Int} {n : Nat} {r r' : Rn} {b b' : Bk} {ks : List Int}
theorem Own.ne {sc : Int × Int → Option ((Int × Int) × Bool)} (h : Own sc row inn ks) : ks ≠ [] := by intro e; subst e; exact h
theorem Own.some {sc : Int × Int → Option ((Int × Int) × Bool)} (h : Own sc row inn ks) : ∃ x, sc (row, ks.headD 0) = some x := by
  match ks, h with
  | [k], ⟨_, q, h⟩ => exact ⟨_, h⟩
  | k :: k' :: r, ⟨_, ⟨q, h⟩, _⟩ => exact ⟨_, h⟩
theorem Own.len {sc : Int × Int → Option ((Int × Int) × Bool)} : ∀ {ks : List Int}, Own sc row inn ks → (ks.length : Int) ≤ ks.headD 0 + 1
  | [k], ⟨h0, _⟩ => by simp [h0]
  | k :: k' :: r, ⟨h0, _, h2⟩ => by have := Own.len h2; simp at this ⊢; omega
theorem FB.kp {f f' : List Int} {pc : Int} (h : FB P f) (k : Kp f f' pc) : FB P f' := ⟨by rw [k.len, h.len], by rw [k.fn]; exact h.f0, by rw [k.fn]; exact h.fn⟩
theorem joined_bad {f i : List Int} {kind v : Int} (hf : f.length = 19) (hb : (fJoined f i kind v).2.2 = true) : Kp f (fJoined f i kind v).1 (f.getD 1 0) := by
  revert hb
  unfold Fr.fJoined
  split
  · intro q; cases q
  split
  · intro q; cases q
  split
  · intro q; cases q
  · intro _; exact kp_to hf
theorem bk_s {s : Int × Int} {x : (Int × Int) × Bool} (h : b.sc s = some x) : b.s s = x := by unfold Bk.s; rw [h]; rfl
structure BTo (row : Int) (kids : List Int) (b b' : Bk) : Prop where
  sc : ∀ s : Int × Int, s.1 ≠ row → b'.sc s = b.sc s
  some : ∀ s : Int × Int, (b.sc s).isSome = true → (b'.sc s).isSome = true
  beg : ∀ i, i ∉ kids → b'.beg i = b.beg i
theorem BTo.refl (row : Int) (kids : List Int) (b : Bk) : BTo row kids b b := ⟨fun _ _ => rfl, fun _ h => h, fun _ _ => rfl⟩
theorem bi_sc {s : Int × Int} {x : (Int × Int) × Bool} (h : BI P Q b) (h2 : ScI (upd b.sc s x)) : BI P Q { b with sc := upd b.sc s x } :=
  ⟨h2, fun i y hy => by
    obtain ⟨h3, h4, h5⟩ := h.beg i y hy
    exact ⟨h3, h4.imp id fun q => isSome_upd q, h5⟩⟩
theorem bto_sc {kids : List Int} {k : Int} {x : (Int × Int) × Bool} : BTo row kids b { b with sc := upd b.sc (row, k) x } :=
  ⟨fun s hs => by show upd b.sc (row, k) x s = _; unfold upd; rw [if_neg (fun e => hs (by rw [e]))], fun s h => isSome_upd h, fun _ _ => rfl⟩
theorem fstp_ri (hA : Accs P) (hN : ∀ g ∈ P, InI g.needs) (hQ : ∀ j, Q j → (rowAt l j).kind ≤ 4) (h0 : 0 ≤ row) (hn : (n : Int) < 1048576) (h : RI P Q row inn n r b ks) (hb : BI P Q b) (hk : ∀ k ∈ r.kids, row < k) (hs : fstp P l q row r b = some (r', b')) :
    r.kind = 0 ∧ (∃ ks', RI P Q row inn (n + 1) r' b' ks') ∧ BI P Q b' ∧ BTo row r.kids b b' ∧ (∃ m, r'.kids = r.kids.drop m) ∧ ∃ m, r'.cl = r.cl.drop m := by
  unfold fstp at hs
  split at hs
  · cases hs
  rename_i hk0
  have hk0 : r.kind = 0 := by omega
  have hfi := h.fi hk0
  obtain ⟨g, hv, ha⟩ := hfi.at hA
  obtain ⟨hp0, hp1⟩ := fat_pc ha
  have hlen := hfi.len
  have hop := h.op
  have hne := h.own.ne
  have hkl : 1 ≤ ks.length := List.length_pos_iff.2 hne
  have hol := h.own.len
  refine ⟨hk0, ?_⟩
  have fin : ∀ {r2 : Rn} {f' : List Int} {pc : Int}, Kp r.f f' pc → r2 = { r with f := f', kind := r2.kind, v := r2.v } → (r2.kind = 0 → FI P Q f' ((ks.length : Int) - 1)) → (∃ ks', RI P Q row inn (n + 1) r2 b ks') ∧ BI P Q b ∧ BTo row r.kids b b ∧ (∃ m, r2.kids = r.kids.drop m) ∧ ∃ m, r2.cl = r.cl.drop m := by
    intro r2 f' pc hkp e hf
    rw [e]
    exact ⟨⟨ks, h.fb.kp hkp, hf, h.own, h.last, ⟨hop.1, by have := hop.2; push_cast; omega⟩, h.kids⟩, hb, BTo.refl _ _ _, ⟨0, rfl⟩, ⟨0, rfl⟩⟩
  split at hs
  · rename_i hp
    cases hs
    rcases plain_keep ha.chk hlen hp0 hp1 hp with ⟨hgo, hkp⟩ | ⟨h7, h6, hkp⟩
    · exact fin hkp rfl fun _ => fi_goes hfi ha hgo hkp
    · exact fin hkp rfl fun _ => fi_next hfi ha h6 (by omega) (by omega) (by omega) hkp (by unfold stepD; rw [if_neg (by omega), if_neg (by omega)])
  rename_i hp
  have hp8 := plain_not ha.chk (by simpa using hp)
  generalize hi : insAt P r.f = i at *
  unfold fact at hs
  split at hs
  · rename_i h8
    split at hs
    · cases hs
    · rename_i k kr hkk
      cases hs
      have hkQ := h.kids k (by rw [hkk]; simp)
      have hF := fi_forked hfi ha h8 hkQ
      have hC := fi_child hA hN hfi ha h8
      obtain ⟨x, hx⟩ := h.own.some
      refine ⟨⟨ks, hF.b, fun _ => hF, h.own, h.last, ⟨hop.1, by have := hop.2; push_cast; omega⟩, fun j hj => h.kids j (by rw [hkk]; simp [hj])⟩, ⟨hb.sc, fun j y hy => ?_⟩, ⟨fun _ _ => rfl, fun _ h => h, fun j hj => ?_⟩, ⟨1, by rw [hkk]; rfl⟩, ⟨0, rfl⟩⟩
      · dsimp only at hy
        unfold upd at hy
        split at hy
        · rename_i e
          cases hy; subst e
          refine ⟨hC, .inr (by rw [h.last, hx]; rfl), ?_⟩
          dsimp only; rw [h.last]; exact hk _ (by rw [hkk]; simp)
        · exact hb.beg j y hy
      · show upd b.beg k _ j = _
        unfold upd; rw [if_neg (fun e => hj (by rw [hkk, e]; simp))]
  rename_i h8
  split at hs
  · rename_i h9
    obtain ⟨hh0, hh1, hq⟩ := fat_join ha h9
    have hk4 := hQ _ hq
    split at hs
    · cases hs
    rename_i hk2
    split at hs
    · rename_i hbad
      cases hs
      exact fin (joined_bad hlen hbad) rfl fun q => by cases q
    · rename_i hbad
      cases hs
      have hk3 : (rowAt l (r.f.getD (10 + (hOf i).toNat) 0)).kind = 2 ∨ (rowAt l (r.f.getD (10 + (hOf i).toNat) 0)).kind = 3 ∨ (rowAt l (r.f.getD (10 + (hOf i).toNat) 0)).kind = 4 := by omega
      have hkp := joined_keep (v := (rowAt l (r.f.getD (10 + (hOf i).toNat) 0)).v) ha.chk hlen hp0 hp1 h9 hk3 (by simpa using hbad)
      exact fin hkp rfl fun _ => fi_next hfi ha (by unfold opI; omega) (by unfold opI; omega) (by unfold opI; omega) (by unfold opI; omega) hkp (by unfold stepD opI; rw [if_neg (by omega), if_neg (by omega)])
  rename_i h9
  split at hs
  · rename_i h11
    cases hs
    have hkp := kp_on hlen hp0 hp1
    obtain ⟨x, hx⟩ := h.own.some
    have hF : FI P Q (fOn r.f) (((r.opened + 1) :: ks).length - 1) := fi_next hfi ha (by unfold opI; omega) (by unfold opI; omega) (by unfold opI; omega) (by unfold opI; omega) hkp (by unfold stepD opI; rw [if_pos h11, wrap_id ⟨by omega, by omega⟩]; simp)
    have hfr : ∀ k ∈ ks, ((row, r.opened + 1) : Int × Int) ≠ (row, k) := fun k hk e => by
      have := (h.own.le k hk).2
      have e2 := congrArg Prod.snd e
      dsimp only at e2
      omega
    have h0k := (h.own.le _ (List.head_mem hne)).1
    have ehd : ks.head hne = ks.headD 0 := by cases ks with
      | nil => exact absurd rfl hne
      | cons a t => rfl
    rw [ehd] at h0k
    have hsc : ScI (upd b.sc (row, r.opened + 1) (r.last, false)) := hb.sc.upd_of ⟨h0, by dsimp only; omega⟩ (.inr ⟨by dsimp only; rw [h.last, hx]; rfl, .inr ⟨by dsimp only; rw [h.last], by dsimp only; rw [h.last]; dsimp only; omega⟩⟩)
    refine ⟨⟨(r.opened + 1) :: ks, h.fb.kp hkp, fun _ => hF, ?_, rfl, ⟨by simp, by have := hop.2; push_cast; omega⟩, h.kids⟩, bi_sc hb hsc, bto_sc, ⟨0, rfl⟩, ⟨0, rfl⟩⟩
    have hO := h.own.upd_of (s := (row, r.opened + 1)) (x := (r.last, false)) (.inr hfr)
    match ks, hne, hO, h.last, hop with
    | k :: kr, _, hO, hl, hop =>
      refine ⟨by simp at hop; omega, ⟨false, ?_⟩, hO⟩
      show upd _ _ _ _ = _
      unfold upd; rw [if_pos rfl, hl]; rfl
  rename_i h11
  split at hs
  · rename_i h12
    have hd := fat_scopes ha (.inl h12)
    split at hs
    · cases hs
    · rename_i c cs hcl
      split at hs
      · cases hs
      · cases hs
        match ks, hd, h, hol, hop with
        | [], hd, _, _, _ => simp at hd
        | [_], hd, _, _, _ => simp at hd
        | k :: k' :: kr, hd, h, hol, hop =>
          obtain ⟨hkk, ⟨qq, hq1⟩, hO⟩ := h.own
          have hkp := closed_keep (b := (c == 49)) ha.chk hlen hp0 hp1 h12
          have hF : FI P Q (fClosed r.f i (c == 49)) ((((k' :: kr).length : Nat) : Int) - 1) := fi_next hfi ha (by unfold opI; omega) (by unfold opI; omega) (by unfold opI; omega) (by unfold opI; omega) hkp (by unfold stepD opI; rw [if_neg h11, if_pos h12, wrap_id ⟨by omega, by omega⟩]; simp)
          have hl : (b.s r.last).1 = (row, k') := by
            have := h.last
            simp only [List.headD_cons] at this
            rw [this, bk_s hq1]
          refine ⟨⟨k' :: kr, h.fb.kp hkp, fun _ => hF, hO, hl, ⟨by simp at hop ⊢; omega, by have := hop.2; push_cast; omega⟩, h.kids⟩, hb, BTo.refl _ _ _, ⟨0, rfl⟩, ⟨1, by rw [hcl]; rfl⟩⟩
  rename_i h12
  split at hs
  · rename_i h13
    cases hs
    have hkp := kp_on hlen hp0 hp1
    obtain ⟨x, hx⟩ := h.own.some
    have hF : FI P Q (fOn r.f) ((ks.length : Int) - 1) := fi_next hfi ha (by unfold opI; omega) (by unfold opI; omega) (by unfold opI; omega) (by unfold opI; omega) hkp (by unfold stepD opI; rw [if_neg h11, if_neg h12])
    have hl := h.last
    have e1 : b.s r.last = x := by rw [hl]; exact bk_s hx
    obtain ⟨u1, u2, u3⟩ := hb.sc.up _ _ hx
    have hsc : ScI (upd b.sc r.last ((b.s r.last).1, true)) := hb.sc.upd_of (by rw [hl]; exact ⟨u1, u2⟩) (by rw [e1, hl]; exact u3)
    refine ⟨⟨ks, h.fb.kp hkp, fun _ => hF, h.own.upd_of (.inl ⟨x.2, by rw [hl, ← hl, e1, hl, hx]⟩), hl, ⟨hop.1, by have := hop.2; push_cast; omega⟩, h.kids⟩, bi_sc hb hsc, ?_, ⟨0, rfl⟩, ⟨0, rfl⟩⟩
    rw [hl]; exact bto_sc
  rename_i h13
  have hkp := kp_on hlen hp0 hp1
  split at hs
  · rename_i h14
    cases hs
    exact fin hkp rfl fun _ => fi_next hfi ha (by unfold opI; omega) (by unfold opI; omega) (by unfold opI; omega) (by unfold opI; omega) hkp (by unfold stepD opI; rw [if_neg h11, if_neg h12])
  · cases hs
    refine fin hkp rfl fun q => ?_
    dsimp only at q
    split at q <;> omega
end
end Go.Proofs.YtgkfbagclkjilaaGreatDoor.Ft
namespace Go.Proofs.YtgkfbagclkjilaaGreatDoor.Ft
open Go Go.Ev Go.Proofs Go.Proofs.YtgkfbagclkjilaaGreatDoor
open Go.Proofs.YtgkfbagclkjilaaGreatDoor.Fr (fTo fOn fPlain fForked fJoined fClosed fChild fRoot fR isB fTo_len fOn_len fPlain_len fForked_len fJoined_len fClosed_len)
open Go.Proofs.YtgkfbagclkjilaaGreatDoor.Ck (opI Walk Accs needsOf isGoes heldL depths stepD handlesOk subBits scopesOk forks)
theorem next_s {f i : List Int} {ps : Sl} {P : List FnR} {w : World} {k : Array Value × Int → World → Prop} {g : FnR} (hF : Funcs5 w ps P) (hf : f.length = 19) (h0 : 0 ≤ f.getD 0 0) (hg : P[(f.getD 0 0).toNat]? = some g) (h1 : 0 ≤ f.getD 1 0)
    (hi : g.code[(f.getD 1 0).toNat]? = some i) (hk : ∀ w', Ext w w' → k (agI i, 0) w') : frame_Frame_Next (agI f) #[.slice ps.a ps.n ps.c] w k := by
  have hn := hF.len
  obtain ⟨_, hcd⟩ := hF.code g (List.mem_of_getElem? hg)
  have hcn := hcd.len
  have hlt := (List.getElem?_eq_some_iff.1 hg).1
  have hlt2 := (List.getElem?_eq_some_iff.1 hi).1
  have h5 := (hcd.five i (List.mem_of_getElem? hi)).1
  unfold frame_Frame_Next
  refine newC_h (.nil w) fun g1 w1 h => newC_h h fun g3 w3 h => newC_h h fun g5 w6 h => ?_
  have h : St w w6 [blk g5 (ints [0, 0, 0, 0, 0]), blk g3 [.slice ps.a ps.n ps.c], blk g1 (ints f)] := h
  refine joinP_i (fun b w' => b = false ∧ w' = w6) (fun J hJ => ?_) fun b v hbv => ?_
  · refine ldI_h (g := g1) (o := 0 + 0) h (ints_getD (by omega)) (iteB_f (by rw [decide_eq_false_iff_not]; show ¬ f.getD 0 0 < 0; omega) ?_)
    refine ldI_h (g := g1) (o := 0 + 0) h (ints_getD (by omega)) (ldS_h (g := g3) (o := 0 + 0) h rfl (hJ _ _ ⟨by rw [decide_eq_false_iff_not]; show ¬ f.getD 0 0 ≥ ((ps.n : Nat) : Int); omega, rfl⟩))
  rw [hbv.1, hbv.2]
  refine iteB_f rfl ?_
  refine ldS_h (g := g3) (o := 0 + 0) h rfl (ldI_h (g := g1) (o := 0 + 0) h (ints_getD (by omega)) ?_)
  refine ixR_h (i := f.getD 0 0) (e := FnR.cells g) hF.rws h h0 (by rw [List.getElem?_map, hg]; rfl) fun p hp => ?_
  refine ldS_i (s := g.sl) (hp h (j := 1) rfl) ?_
  refine joinP_i (fun b w' => b = false ∧ w' = w6) (fun J hJ => ?_) fun b v hbv => ?_
  · refine ldI_h (g := g1) (o := 0 + 1) h (ints_getD (by omega)) (iteB_f (by rw [decide_eq_false_iff_not]; show ¬ f.getD 1 0 < 0; omega) ?_)
    refine ldI_h (g := g1) (o := 0 + 1) h (ints_getD (by omega)) (hJ _ _ ⟨by rw [decide_eq_false_iff_not]; show ¬ f.getD 1 0 ≥ ((g.sl.n : Nat) : Int); omega, rfl⟩)
  rw [hbv.1, hbv.2]
  refine iteB_f rfl ?_
  refine ldI_h (g := g1) (o := 0 + 1) h (ints_getD (by omega)) ?_
  refine ixR_h (i := f.getD 1 0) (e := ints i) hcd.rws h h1 (by rw [List.getElem?_map, hi]; rfl) fun p hp => ?_
  refine ldA_c (e := ints i) (by simp [ints, h5]) (fun j v => hp h) ?_
  refine stW_h (g := g5) h rfl (by simp [ints, h5]) (Ck.one_agI _) fun w29 h => ?_
  have h : St w w29 [blk g5 (ints i), blk g3 [.slice ps.a ps.n ps.c], blk g1 (ints f)] := h
  refine ldW_h (g := g5) h (by simp [ints, h5]) ?_
  exact hk _ h.ext
theorem point_s {op : Int} {w : World} {k : Bool → World → Prop} (h0 : 0 ≤ op) (h1 : op < 17) (hk : k (isPt op) w) : code_Point op w k := by
  unfold code_Point
  rcases Fr.op17 h0 h1 with h | h | h | h | h | h | h | h | h | h | h | h | h | h | h | h | h <;> subst h <;> exact hk
end Go.Proofs.YtgkfbagclkjilaaGreatDoor.Ft
namespace Go.Proofs.YtgkfbagclkjilaaGreatDoor.Ft
open Go Go.Ev Go.Proofs Go.Proofs.YtgkfbagclkjilaaGreatDoor
open Go.Proofs.YtgkfbagclkjilaaGreatDoor.Fr (fTo fOn fPlain fForked fJoined fClosed fChild fRoot fR isB fTo_len fOn_len fPlain_len fForked_len fJoined_len fClosed_len)
open Go.Proofs.YtgkfbagclkjilaaGreatDoor.Ck (opI Walk Accs needsOf isGoes heldL depths stepD handlesOk subBits scopesOk forks)
def evB (x : List Int × (Int × Int)) : Value := .agg (agI (x.1 ++ [x.2.1, x.2.2]))
def evS (x : (Int × Int) × Bool) : Value := .agg #[.int .i64 x.1.1, .int .i64 x.1.2, .bool x.2]
def bookV (ps ls : Sl) (q : Bool) (gB gS : Nat) : List Value := [.slice ps.a ps.n ps.c, .slice ls.a ls.n ls.c, .bool q, .map (some gB), .map (some gS)]
def runV (gb : Nat) (row : Int) (sk : Sl) (r : Rn) : List Value := .pointer (some ⟨gb, 0, none⟩) :: (ints r.f ++ [.int .i64 row, .slice sk.a sk.n sk.c, .string (ByteArray.mk r.cl.toArray), .int .i64 r.last.1, .int .i64 r.last.2, .int .i64 r.opened, .int .i64 r.kind, .int .i64 r.v])
theorem mapB : MapC Tryz.prog 86 3 85 ekI evB bg0 := mapC_int (by kernel_rfl) (by kernel_rfl) (by kernel_rfl)
theorem mapS : MapC Tryz.prog 87 82 117 ekP evS sc0 := mapC_pair (by kernel_rfl) Tryz.underlying82 ⟨by decide, rfl, by kernel_rfl⟩ ⟨by decide, rfl, by kernel_rfl⟩ (by kernel_rfl) (by kernel_rfl)
section
variable {gb : Nat} {row : Int} {sk : Sl} {r : Rn}
theorem run_len (hf : r.f.length = 19) : (runV gb row sk r).length = 28 := by simp [runV, ints, hf]
theorem run_get {j : Nat} (hf : r.f.length = 19) (hj : j < 19) : (runV gb row sk r)[1 + j]? = some (.int .i64 (r.f.getD j 0)) := by
  unfold runV
  rw [Nat.add_comm, List.getElem?_cons_succ, List.getElem?_append_left (by simp [ints, hf]; exact hj)]
  exact ints_getD (by omega)
theorem run_row (hf : r.f.length = 19) : (runV gb row sk r)[20]? = some (.int .i64 row) := by
  cases r with
  | mk f kids cl last opened kind v =>
    dsimp only at hf
    obtain ⟨x0, x1, x2, x3, x4, x5, x6, x7, x8, x9, x10, x11, x12, x13, x14, x15, x16, x17, x18, rfl⟩ := Fr.list19 hf
    rfl
theorem run_kids (hf : r.f.length = 19) : (runV gb row sk r)[21]? = some (.slice sk.a sk.n sk.c) := by
  cases r with
  | mk f kids cl last opened kind v =>
    dsimp only at hf
    obtain ⟨x0, x1, x2, x3, x4, x5, x6, x7, x8, x9, x10, x11, x12, x13, x14, x15, x16, x17, x18, rfl⟩ := Fr.list19 hf
    rfl
theorem run_cl (hf : r.f.length = 19) : (runV gb row sk r)[22]? = some (.string (ByteArray.mk r.cl.toArray)) := by
  cases r with
  | mk f kids cl last opened kind v =>
    dsimp only at hf
    obtain ⟨x0, x1, x2, x3, x4, x5, x6, x7, x8, x9, x10, x11, x12, x13, x14, x15, x16, x17, x18, rfl⟩ := Fr.list19 hf
    rfl
theorem run_op (hf : r.f.length = 19) : (runV gb row sk r)[25]? = some (.int .i64 r.opened) := by
  cases r with
  | mk f kids cl last opened kind v =>
    dsimp only at hf
    obtain ⟨x0, x1, x2, x3, x4, x5, x6, x7, x8, x9, x10, x11, x12, x13, x14, x15, x16, x17, x18, rfl⟩ := Fr.list19 hf
    rfl
theorem run_kind (hf : r.f.length = 19) : (runV gb row sk r)[26]? = some (.int .i64 r.kind) := by
  cases r with
  | mk f kids cl last opened kind v =>
    dsimp only at hf
    obtain ⟨x0, x1, x2, x3, x4, x5, x6, x7, x8, x9, x10, x11, x12, x13, x14, x15, x16, x17, x18, rfl⟩ := Fr.list19 hf
    rfl
theorem run_v (hf : r.f.length = 19) : (runV gb row sk r)[27]? = some (.int .i64 r.v) := by
  cases r with
  | mk f kids cl last opened kind v =>
    dsimp only at hf
    obtain ⟨x0, x1, x2, x3, x4, x5, x6, x7, x8, x9, x10, x11, x12, x13, x14, x15, x16, x17, x18, rfl⟩ := Fr.list19 hf
    rfl
theorem run_f (hf : r.f.length = 19) : (((runV gb row sk r).drop (0 + 1)).take 19).toArray = agI r.f := by
  cases r with
  | mk f kids cl last opened kind v =>
    dsimp only at hf
    obtain ⟨x0, x1, x2, x3, x4, x5, x6, x7, x8, x9, x10, x11, x12, x13, x14, x15, x16, x17, x18, rfl⟩ := Fr.list19 hf
    rfl
theorem run_last (hf : r.f.length = 19) : (((runV gb row sk r).drop (0 + 23)).take 2).toArray = #[.int .i64 r.last.1, .int .i64 r.last.2] := by
  cases r with
  | mk f kids cl last opened kind v =>
    dsimp only at hf
    obtain ⟨x0, x1, x2, x3, x4, x5, x6, x7, x8, x9, x10, x11, x12, x13, x14, x15, x16, x17, x18, rfl⟩ := Fr.list19 hf
    rfl
theorem run_setf {f' : List Int} (hf : r.f.length = 19) (hf' : f'.length = 19) : (runV gb row sk r).take (0 + 1) ++ ((agI f').toList ++ (runV gb row sk r).drop (0 + 1 + 19)) = runV gb row sk { r with f := f' } := by
  cases r with
  | mk f kids cl last opened kind v =>
    dsimp only at hf
    obtain ⟨x0, x1, x2, x3, x4, x5, x6, x7, x8, x9, x10, x11, x12, x13, x14, x15, x16, x17, x18, rfl⟩ := Fr.list19 hf
    obtain ⟨y0, y1, y2, y3, y4, y5, y6, y7, y8, y9, y10, y11, y12, y13, y14, y15, y16, y17, y18, rfl⟩ := Fr.list19 hf'
    rfl
theorem run_setlast {a b : Int} (hf : r.f.length = 19) : (runV gb row sk r).take (0 + 23) ++ (#[Value.int .i64 a, .int .i64 b].toList ++ (runV gb row sk r).drop (0 + 23 + 2)) = runV gb row sk { r with last := (a, b) } := by
  cases r with
  | mk f kids cl last opened kind v =>
    dsimp only at hf
    obtain ⟨x0, x1, x2, x3, x4, x5, x6, x7, x8, x9, x10, x11, x12, x13, x14, x15, x16, x17, x18, rfl⟩ := Fr.list19 hf
    rfl
theorem run_setcl {cl' : List UInt8} (hf : r.f.length = 19) : (runV gb row sk r).set (0 + 22) (.string (ByteArray.mk cl'.toArray)) = runV gb row sk { r with cl := cl' } := by
  cases r with
  | mk f kids cl last opened kind v =>
    dsimp only at hf
    obtain ⟨x0, x1, x2, x3, x4, x5, x6, x7, x8, x9, x10, x11, x12, x13, x14, x15, x16, x17, x18, rfl⟩ := Fr.list19 hf
    rfl
theorem run_setop {o : Int} (hf : r.f.length = 19) : (runV gb row sk r).set (0 + 25) (.int .i64 o) = runV gb row sk { r with opened := o } := by
  cases r with
  | mk f kids cl last opened kind v =>
    dsimp only at hf
    obtain ⟨x0, x1, x2, x3, x4, x5, x6, x7, x8, x9, x10, x11, x12, x13, x14, x15, x16, x17, x18, rfl⟩ := Fr.list19 hf
    rfl
theorem run_setkind {o : Int} (hf : r.f.length = 19) : (runV gb row sk r).set (0 + 26) (.int .i64 o) = runV gb row sk { r with kind := o } := by
  cases r with
  | mk f kids cl last opened kind v =>
    dsimp only at hf
    obtain ⟨x0, x1, x2, x3, x4, x5, x6, x7, x8, x9, x10, x11, x12, x13, x14, x15, x16, x17, x18, rfl⟩ := Fr.list19 hf
    rfl
theorem run_setv {o : Int} (hf : r.f.length = 19) : (runV gb row sk r).set (0 + 27) (.int .i64 o) = runV gb row sk { r with v := o } := by
  cases r with
  | mk f kids cl last opened kind v =>
    dsimp only at hf
    obtain ⟨x0, x1, x2, x3, x4, x5, x6, x7, x8, x9, x10, x11, x12, x13, x14, x15, x16, x17, x18, rfl⟩ := Fr.list19 hf
    rfl
theorem run_setkids {s' : Sl} {ks : List Int} (hf : r.f.length = 19) : (runV gb row sk r).set (0 + 21) (.slice s'.a s'.n s'.c) = runV gb row s' { r with kids := ks } := by
  cases r with
  | mk f kids cl last opened kind v =>
    dsimp only at hf
    obtain ⟨x0, x1, x2, x3, x4, x5, x6, x7, x8, x9, x10, x11, x12, x13, x14, x15, x16, x17, x18, rfl⟩ := Fr.list19 hf
    rfl
end
abbrev FP (gr gb gB gS : Nat) (ps ls : Sl) (q : Bool) (row : Int) (sk : Sl) (r : Rn) (b : Bk) (R : List HP) : List HP :=
  blk gr (runV gb row sk r) :: blk gb (bookV ps ls q gB gS) :: gm ekI evB gB b.beg :: gm ekP evS gS b.sc :: slc 1 sk (ints r.kids) :: R
section
variable {w0 w : World} {L R : List HP} {gr gb gB gS : Nat} {ps ls sk : Sl} {q : Bool} {row : Int} {r : Rn} {b : Bk} {i : List Int} {f f2 : HP → List HP} {sc : Int × Int → Option ((Int × Int) × Bool)}
theorem world_s {k : Array Value → World → Prop} (hk : ∀ w', Ext w w' → k #[.int .i64 (-1), .int .i64 0] w') : fits_world w k := by
  unfold fits_world
  refine newC_h (.nil w) fun g w2 h => ?_
  refine stW_h (n := 2) (g := g) h rfl rfl (by intro v hv; simp at hv; rcases hv with rfl | rfl <;> rfl) fun w3 h => ?_
  exact ldW_h (g := g) h rfl (hk _ h.ext)
inductive AskH (sc : Int × Int → Option ((Int × Int) × Bool)) : Nat → Int × Int → Bool → Prop where
  | world {n} : AskH sc n (-1, 0) false
  | yes {n s a} : s ≠ (-1, 0) → sc s = some (a, true) → AskH sc n s true
  | up {n s a b} : s ≠ (-1, 0) → sc s = some (a, false) → AskH sc n a b → AskH sc (n + 1) s b
theorem Ask.h {s : Int × Int} {x : Bool} (h : Ask sc s x) : ∃ n, AskH sc n s x := by
  induction h with
  | world => exact ⟨0, .world⟩
  | yes h1 h2 => exact ⟨0, .yes h1 h2⟩
  | up h1 h2 _ ih => obtain ⟨n, h⟩ := ih; exact ⟨n + 1, .up h1 h2 h⟩
theorem pair_ne {s : Int × Int} (h : s ≠ (-1, 0)) : ((s.1 == (-1 : Int)) && ((s.2 == (0 : Int)) && true)) = false := by
  rw [Bool.and_true, Bool.and_eq_false_iff, beq_eq_false_iff_ne, beq_eq_false_iff_ne]
  by_cases e : s.1 = -1
  · exact .inr fun e2 => h (Prod.ext e e2)
  · exact .inl e
theorem one_s {x : (Int × Int) × Bool} : ∀ v ∈ #[Value.int .i64 x.1.1, .int .i64 x.1.2, .bool x.2], v.oneCell' = true := by intro v hv; simp at hv; rcases hv with rfl | rfl | rfl <;> rfl
theorem one_p {x y : Int} : ∀ v ∈ #[Value.int .i64 x, .int .i64 y], v.oneCell' = true := by intro v hv; simp at hv; rcases hv with rfl | rfl <;> rfl
theorem toAS {x : (Int × Int) × Bool} {c : Array Value → Prop} (h : c #[.int .i64 x.1.1, .int .i64 x.1.2, .bool x.2]) : toA (evS x) c := h
theorem lookS_h {s : Int × Int} {c : Value → World → Prop} (h : St w0 w L) [a : At L (gm ekP evS gS) sc f] (hc : c (evS ((sc s).getD sc0)) w) : Go.Ev.look Go.Proofs.Tryz.prog 87 (.map (some gS)) (.agg #[.int .i64 s.1, .int .i64 s.2]) false w c :=
  gmLook_h (k := s) mapS h hc
theorem loopN {S : Type} {F : (S → World → Prop) → S → World → Prop} (I : Nat → S → World → Prop) {n : Nat} {s : S} {w : World} (h0 : I n s w)
    (h : ∀ n s w, I n s w → ∀ C : S → World → Prop, (∀ m s' w', m < n → I m s' w' → C s' w') → F C s w) : loopP F s w := by
  have key : ∀ N n s w, n ≤ N → I n s w → iterP F (N + 1) s w := by
    intro N
    induction N with
    | zero => intro n s w hn hI; exact h n s w hI _ fun m s' w' hlt _ => by omega
    | succ N ih => intro n s w hn hI; exact h n s w hI _ fun m s' w' hlt hI' => ih m s' w' (by omega) hI'
  exact ⟨_, key n n s w (Nat.le_refl _) h0⟩
theorem asked_s {k : Bool → World → Prop} {s : Int × Int} {x : Bool} (h : St w0 w L) [a1 : At L (blk gb) (bookV ps ls q gB gS) f] [a2 : At L (gm ekP evS gS) sc f2] (ha : Ask sc s x) (hk : ∀ w', St w0 w' L → k x w') : fits_book_asked (some ⟨gb, 0, none⟩) #[.int .i64 s.1, .int .i64 s.2] w k := by
  unfold fits_book_asked fits_book_asked_b
  obtain ⟨n, ha⟩ := ha.h
  refine newC_h h fun g w2 h => ?_
  refine loopN (fun n _ w' => ∃ s : Int × Int, AskH sc n s x ∧ St w0 w' (blk g [.int .i64 s.1, .int .i64 s.2] :: L)) (n := n) ⟨s, ha, h⟩ ?_
  rintro n _ w5 ⟨s, ha, h⟩ C hC
  refine drew_h h fun w6 h => ?_
  refine ldW_h (n := 2) (g := g) h rfl ?_
  refine world_s fun w9 he => ?_
  have h9 := h.on he
  refine samec_h (g := g) (o := 0) h h9 ?_
  have he2 : eqOffs #[Value.int .i64 s.1, .int .i64 s.2] #[Value.int .i64 (-1), .int .i64 0] ([(0, 0)] ++ ([(1, 0)] ++ [])) = some ((s.1 == (-1 : Int)) && ((s.2 == (0 : Int)) && true)) := by simp [eqOffs, eqC]
  show eqA _ #[Value.int .i64 s.1, .int .i64 s.2] #[Value.int .i64 (-1), .int .i64 0] _
  unfold eqA
  rw [he2]
  have h := h9
  dsimp only
  by_cases e : s = (-1, 0)
  · subst e
    refine iteB_f rfl ?_
    cases ha with
    | world => exact hk _ h.drop
    | yes n _ => exact absurd rfl n
    | up n _ _ => exact absurd rfl n
  rw [pair_ne e]
  refine iteB_t rfl ?_
  refine joinP_i (fun z w' => ∃ g', z = ⟨g', 0, none⟩ ∧ St w0 w' (blk g' [.int .i64 ((sc s).getD sc0).1.1, .int .i64 ((sc s).getD sc0).1.2, .bool ((sc s).getD sc0).2] :: blk g [.int .i64 s.1, .int .i64 s.2] :: L)) (fun J hJ => ?_) ?_
  · refine drew_h h fun w12 h => ?_
    refine nn_i ?_
    refine ldM_h (g := gb) (o := 0 + 4) h rfl ?_
    refine ldW_h (n := 2) (g := g) h rfl ?_
    refine ⟨?_, ?_⟩
    · refine lookS_h h ?_
      refine toAS ?_
      refine newC_h h fun g' w20 h2 => ?_
      refine samec_h (g := g) (o := 0) h h2 (samec_h (g := gb) (o := 0 + 4) h h2 ?_)
      refine stW_h (n := 3) (g := g') h2 rfl rfl one_s fun w21 h2 => ?_
      exact hJ _ _ ⟨g', rfl, h2⟩
    · refine newC_h h fun g' w20 h2 => ?_
      refine samec_h (g := g) (o := 0) h h2 (samec_h (g := gb) (o := 0 + 4) h h2 ?_)
      refine lookS_h h2 ?_
      refine toAS ?_
      refine stW_h (n := 3) (g := g') h2 rfl rfl one_s fun w21 h2 => ?_
      exact hJ _ _ ⟨g', rfl, h2⟩
  rintro _ w29 ⟨g', rfl, h⟩
  refine ldB_h (g := g') (o := 0 + 2) h rfl ?_
  cases ha with
  | world => exact absurd rfl e
  | yes _ hx =>
    rw [hx]
    exact iteB_t rfl (hk _ h.drop.drop)
  | up _ hx ha =>
    rw [hx] at h ⊢
    refine iteB_f rfl ?_
    refine ldA_h (n := 2) (g := g') (o := 0 + 0) h (by simp) ?_
    refine stW_h (n := 2) (g := g) h rfl rfl one_p fun w32 h => ?_
    exact hC _ _ _ (Nat.lt_succ_self _) ⟨_, ha, h.drop⟩
end
end Go.Proofs.YtgkfbagclkjilaaGreatDoor.Ft
namespace Go.Proofs.YtgkfbagclkjilaaGreatDoor.Ft
open Go Go.Ev Go.Proofs Go.Proofs.YtgkfbagclkjilaaGreatDoor
open Go.Proofs.YtgkfbagclkjilaaGreatDoor.Fr (fTo fOn fPlain fForked fJoined fClosed fChild fRoot fR isB fTo_len fOn_len fPlain_len fForked_len fJoined_len fClosed_len)
open Go.Proofs.YtgkfbagclkjilaaGreatDoor.Ck (opI Walk Accs needsOf isGoes heldL depths stepD handlesOk subBits scopesOk forks)
theorem ext_of {w0 w w' : World} {L : List HP} (h : St w0 w L) (he : Ext w w') : St w0 w' L := h.on he
section
variable {w0 w : World} {L R : List HP} {gr gb gB gS : Nat} {ps ls sk : Sl} {q : Bool} {row : Int} {r : Rn} {b : Bk} {i : List Int} {ia : Array Value} {k : Bool → World → Prop}
theorem pass_s (h : St w0 w (FP gr gb gB gS ps ls q row sk r b R)) (hf : r.f.length = 19) (hk : ∀ w', St w0 w' (FP gr gb gB gS ps ls q row sk { r with f := fOn r.f } b R) → k true w') : fits_run_pass (some ⟨gr, 0, none⟩) ia w k := by
  unfold fits_run_pass fits_run_pass_b
  refine newC_h h fun g1 w2 h => ?_
  have h := h.drop
  refine nn_i ?_
  refine ldA_h (n := 19) (g := gr) (o := 0 + 1) h (by rw [run_len hf]; decide) ?_
  rw [run_f hf]
  refine Fr.on_s hf fun w6 he => ?_
  have h := ext_of h he
  refine nn_i ?_
  refine stA_h (n := 19) (g := gr) (o := 0 + 1) (vs := agI (fOn r.f)) h (by simp [agI, ints, fOn_len, hf]) (by rw [run_len hf]; decide) (Ck.one_agI _) fun w8 h => ?_
  rw [run_setf hf (by rw [fOn_len, hf])] at h
  exact hk _ h
theorem open_s (h : St w0 w (FP gr gb gB gS ps ls q row sk r b R)) (hf : r.f.length = 19) (ho : 0 ≤ r.opened ∧ r.opened ≤ 10000000)
    (hk : ∀ w', St w0 w' (FP gr gb gB gS ps ls q row sk { r with f := fOn r.f, opened := r.opened + 1, last := (row, r.opened + 1) } { b with sc := upd b.sc (row, r.opened + 1) (r.last, false) } R) → k true w') : fits_run_open (some ⟨gr, 0, none⟩) ia w k := by
  unfold fits_run_open fits_run_open_b
  refine newC_h h fun g1 w2 h => ?_
  have h := h.drop
  refine nn_i ?_
  refine ldI_h (g := gr) (o := 0 + 25) h (run_op hf) ?_
  refine nn_i ?_
  refine stC_h (g := gr) (o := 0 + 25) h rfl (by rw [run_len hf]; decide) fun w6 h => ?_
  rw [wrap_id ⟨by omega, by omega⟩, run_setop hf] at h
  have h : St w0 w6 (FP gr gb gB gS ps ls q row sk { r with opened := r.opened + 1 } b R) := h
  refine joinP_i (fun z w' => ∃ g, z = ⟨g, 0, none⟩ ∧ St w0 w' (blk g [.int .i64 row, .int .i64 (r.opened + 1)] :: FP gr gb gB gS ps ls q row sk { r with opened := r.opened + 1 } b R)) (fun J hJ => ?_) ?_
  · refine drew_h h fun w8 h => ?_
    refine nn_i ?_
    refine ldI_h (g := gr) (o := 0 + 20) h (run_row (r := { r with opened := r.opened + 1 }) hf) ?_
    refine nn_i ?_
    refine ldI_h (g := gr) (o := 0 + 25) h (run_op (r := { r with opened := r.opened + 1 }) hf) ?_
    refine ⟨?_, ?_⟩
    · refine newC_h h fun g13 w14 h2 => ?_
      refine samec_h (g := gr) (o := 0 + 25) h h2 (samec_h (g := gr) (o := 0 + 20) h h2 ?_)
      refine stW_h (n := 2) (g := g13) h2 rfl rfl one_p fun w15 h2 => ?_
      exact hJ _ _ ⟨g13, rfl, h2⟩
    · refine newC_h h fun g13 w14 h2 => ?_
      refine samec_h (g := gr) (o := 0 + 25) h h2 (samec_h (g := gr) (o := 0 + 20) h h2 ?_)
      refine stW_h (n := 2) (g := g13) h2 rfl rfl one_p fun w15 h2 => ?_
      exact hJ _ _ ⟨g13, rfl, h2⟩
  rintro _ w20 ⟨g, rfl, h⟩
  refine drew_h h fun w21 h => ?_
  refine nn_i ?_
  refine ldP_h (g := gr) (o := 0 + 0) h rfl ?_
  refine nn_i ?_
  refine ldM_h (g := gb) (o := 0 + 4) h rfl ?_
  refine ldW_h (n := 2) (g := g) h rfl ?_
  refine nn_i ?_
  refine ldA_h (n := 2) (g := gr) (o := 0 + 23) h (by rw [run_len (r := { r with opened := r.opened + 1 }) hf]; decide) ?_
  rw [run_last (r := { r with opened := r.opened + 1 }) hf]
  refine spl_V (acc := [.int .i64 0, .int .i64 0, .bool false]) (cs := [.int .i64 r.last.1, .int .i64 r.last.2]) [.int .i64 r.last.1, .int .i64 r.last.2, .bool false] rfl (by simp) rfl ?_
  refine samec_self (samec_self (samec_self ?_))
  refine gmPut_h (ek := ekP) (ev := evS) (k := (row, r.opened + 1)) (y := (r.last, false)) mapS h fun w30 h => ?_
  refine ldW_h (n := 2) (g := g) h rfl ?_
  refine nn_i ?_
  refine stA_h (n := 2) (g := gr) (o := 0 + 23) (vs := #[.int .i64 row, .int .i64 (r.opened + 1)]) h rfl (by rw [run_len (r := { r with opened := r.opened + 1 }) hf]; decide) one_p fun w33 h => ?_
  rw [run_setlast (r := { r with opened := r.opened + 1 }) hf] at h
  have h : St w0 w33 (FP gr gb gB gS ps ls q row sk { r with opened := r.opened + 1, last := (row, r.opened + 1) } { b with sc := upd b.sc (row, r.opened + 1) (r.last, false) } R) := h.drop
  exact pass_s h hf hk
theorem cancel_s (h : St w0 w (FP gr gb gB gS ps ls q row sk r b R)) (hf : r.f.length = 19)
    (hk : ∀ w', St w0 w' (FP gr gb gB gS ps ls q row sk { r with f := fOn r.f } { b with sc := upd b.sc r.last ((b.s r.last).1, true) } R) → k true w') : fits_run_cancel (some ⟨gr, 0, none⟩) ia w k := by
  unfold fits_run_cancel fits_run_cancel_b
  refine newC_h h fun g1 w2 h => ?_
  have h := h.drop
  refine joinP_i (fun z w' => ∃ g, z = ⟨g, 0, none⟩ ∧ St w0 w' (blk g [.int .i64 (b.s r.last).1.1, .int .i64 (b.s r.last).1.2, .bool (b.s r.last).2] :: FP gr gb gB gS ps ls q row sk r b R)) (fun J hJ => ?_) ?_
  · refine drew_h h fun w4 h => ?_
    refine nn_i ?_
    refine ldP_h (g := gr) (o := 0 + 0) h rfl ?_
    refine nn_i ?_
    refine ldM_h (g := gb) (o := 0 + 4) h rfl ?_
    refine nn_i ?_
    refine ldA_h (n := 2) (g := gr) (o := 0 + 23) h (by rw [run_len hf]; decide) ?_
    rw [run_last hf]
    refine ⟨?_, ?_⟩
    · refine lookS_h h ?_
      refine toAS ?_
      refine newC_h h fun g14 w15 h2 => ?_
      refine samec_h (g := gr) (o := 0 + 23) h h2 (samec_h (g := gb) (o := 0 + 4) h h2 (samec_h (g := gr) (o := 0 + 0) h h2 ?_))
      refine stW_h (n := 3) (g := g14) h2 rfl rfl one_s fun w16 h2 => ?_
      exact hJ _ _ ⟨g14, rfl, h2⟩
    · refine newC_h h fun g14 w15 h2 => ?_
      refine samec_h (g := gr) (o := 0 + 23) h h2 (samec_h (g := gb) (o := 0 + 4) h h2 (samec_h (g := gr) (o := 0 + 0) h h2 ?_))
      refine lookS_h h2 ?_
      refine toAS ?_
      refine stW_h (n := 3) (g := g14) h2 rfl rfl one_s fun w16 h2 => ?_
      exact hJ _ _ ⟨g14, rfl, h2⟩
  rintro _ w24 ⟨g, rfl, h⟩
  refine stC_h (g := g) (o := 0 + 2) (v := .bool true) h rfl (by simp) fun w25 h => ?_
  refine drew_h h fun w26 h => ?_
  refine nn_i ?_
  refine ldP_h (g := gr) (o := 0 + 0) h rfl ?_
  refine nn_i ?_
  refine ldM_h (g := gb) (o := 0 + 4) h rfl ?_
  refine nn_i ?_
  refine ldA_h (n := 2) (g := gr) (o := 0 + 23) h (by rw [run_len hf]; decide) ?_
  rw [run_last hf]
  refine ldW_h (n := 3) (g := g) h rfl ?_
  refine gmPut_h (ek := ekP) (ev := evS) (k := r.last) (y := ((b.s r.last).1, true)) mapS h fun w34 h => ?_
  have h : St w0 w34 (FP gr gb gB gS ps ls q row sk r { b with sc := upd b.sc r.last ((b.s r.last).1, true) } R) := h.drop
  exact pass_s h hf hk
theorem leave_s (h : St w0 w (FP gr gb gB gS ps ls q row sk r b R)) (hf : r.f.length = 19) (h5 : i.length = 5) (hA : 0 ≤ i.getD 1 0 ∧ i.getD 1 0 < 8)
    (hk : ∀ w', St w0 w' (FP gr gb gB gS ps ls q row sk { r with f := fOn r.f, kind := if i.getD 0 0 = 15 then 3 else 2, v := fR r.f (i.getD 1 0) } b R) → k true w') : fits_run_leave (some ⟨gr, 0, none⟩) (agI i) w k := by
  unfold fits_run_leave fits_run_leave_b
  refine newC_h h fun g1 w2 h => ?_
  have h : St w0 w2 (blk g1 (ints i) :: FP gr gb gB gS ps ls q row sk r b R) := h
  refine drew_h h fun w3 h => ?_
  refine nn_i ?_
  refine ldA_h (n := 19) (g := gr) (o := 0 + 1) h (by rw [run_len hf]; decide) ?_
  rw [run_f hf]
  refine ldI_h (g := g1) (o := 0 + 1) h (ints_getD (by omega)) ?_
  refine nn_i ?_
  refine ixP_i hA.1 (by have := hA.2; show i.getD 1 0 < ((8 : Nat) : Int); omega) ?_
  have ev : (runV gb row sk r)[0 + 1 + 2 + (i.getD 1 0).toNat * 1]? = some (.int .i64 (fR r.f (i.getD 1 0))) := by
    have := run_get (gb := gb) (row := row) (sk := sk) (r := r) (j := 2 + (i.getD 1 0).toNat) hf (by omega)
    rw [show 0 + 1 + 2 + (i.getD 1 0).toNat * 1 = 1 + (2 + (i.getD 1 0).toNat) by omega]
    exact this
  refine ldI_h (g := gr) (o := 0 + 1 + 2 + (i.getD 1 0).toNat * 1) h ev ?_
  refine Fr.on_s hf fun w11 he => ?_
  have h2 := ext_of h he
  refine samec_h (g := gr) (o := 0 + 1 + 2 + (i.getD 1 0).toNat * 1) h h2 (samec_h (g := g1) (o := 0 + 1) h h2 ?_)
  refine nn_i ?_
  refine stA_h (n := 19) (g := gr) (o := 0 + 1) (vs := agI (fOn r.f)) h2 (by simp [agI, ints, fOn_len, hf]) (by rw [run_len hf]; decide) (Ck.one_agI _) fun w13 h => ?_
  rw [run_setf hf (by rw [fOn_len, hf])] at h
  have hf2 : ({ r with f := fOn r.f } : Rn).f.length = 19 := by show (fOn r.f).length = 19; rw [fOn_len, hf]
  refine nn_i ?_
  refine stC_h (g := gr) (o := 0 + 26) h rfl (by rw [run_len hf2]; decide) fun w15 h => ?_
  rw [run_setkind hf2] at h
  refine nn_i ?_
  refine stC_h (g := gr) (o := 0 + 27) h rfl (by rw [run_len (r := { r with f := fOn r.f, kind := 2 }) hf2]; decide) fun w17 h => ?_
  rw [run_setv (r := { r with f := fOn r.f, kind := 2 }) hf2] at h
  refine ldI_h (g := g1) (o := 0 + 0) h (ints_getD (by omega)) ?_
  refine iteB_i (fun hb => ?_) fun hb => ?_
  · refine nn_i ?_
    refine stC_h (g := gr) (o := 0 + 26) h rfl (by rw [run_len (r := { r with f := fOn r.f, kind := 2, v := fR r.f (i.getD 1 0) }) hf2]; decide) fun w20 h => ?_
    rw [run_setkind (r := { r with f := fOn r.f, kind := 2, v := fR r.f (i.getD 1 0) }) hf2] at h
    rw [if_pos (by simpa using hb)] at hk
    exact hk _ h.drop
  · rw [if_neg (by simpa using hb)] at hk
    exact hk _ h.drop
end
end Go.Proofs.YtgkfbagclkjilaaGreatDoor.Ft
namespace Go.Proofs.YtgkfbagclkjilaaGreatDoor.Ft
open Go Go.Ev Go.Proofs Go.Proofs.YtgkfbagclkjilaaGreatDoor
open Go.Proofs.YtgkfbagclkjilaaGreatDoor.Fr (fTo fOn fPlain fForked fJoined fClosed fChild fRoot fR isB fTo_len fOn_len fPlain_len fForked_len fJoined_len fClosed_len)
open Go.Proofs.YtgkfbagclkjilaaGreatDoor.Ck (opI Walk Accs needsOf isGoes heldL depths stepD handlesOk subBits scopesOk forks)
theorem byte_49 {c : UInt8} : ((c.toNat : Int) == 49) = (c == 49) := by
  rw [Bool.eq_iff_iff]; simp only [beq_iff_eq]
  constructor
  · intro h; apply UInt8.toNat_inj.1; have : c.toNat = 49 := by omega
    rw [this]; rfl
  · rintro rfl; rfl
theorem bytes_ext {a b : ByteArray} (h : a.data.toList = b.data.toList) : a = b := by
  cases a; cases b; congr 1; exact Array.toList_inj.1 h
theorem mk_tail {c : UInt8} {cs : List UInt8} : (ByteArray.mk (c :: cs).toArray).extract 1 (ByteArray.mk (c :: cs).toArray).size = ByteArray.mk cs.toArray := by
  apply bytes_ext
  rw [ext_list, sz_list]
  simp
theorem funcs_of {w : World} {ps : Sl} {P : List FnR} (hF : Funcs5 w ps P) : Fr.Funcs w ps (P.map fun g => (g.needs, g.sl)) := by
  have := hF.rws
  unfold Fr.Funcs
  rw [List.map_map]
  exact this
def Z21 : List Value := [.int .i64 (0 : Int), .int .i64 (0 : Int), .int .i64 (0 : Int), .int .i64 (0 : Int), .int .i64 (0 : Int), .int .i64 (0 : Int), .int .i64 (0 : Int), .int .i64 (0 : Int), .int .i64 (0 : Int), .int .i64 (0 : Int), .int .i64 (0 : Int), .int .i64 (0 : Int), .int .i64 (0 : Int), .int .i64 (0 : Int), .int .i64 (0 : Int), .int .i64 (0 : Int), .int .i64 (0 : Int), .int .i64 (0 : Int), .int .i64 (0 : Int), .int .i64 (0 : Int), .int .i64 (0 : Int)]
theorem spl_beg0 {cf : List Int} {x y : Int} {c : Array Value → Prop} (hc : cf.length = 19) (h : c (agI (cf ++ [x, y]))) : spl Z21.toArray 0 19 (agI cf) fun cs41 => spl cs41 19 2 #[.int .i64 x, .int .i64 y] c := by
  have hl : (ints cf).length = 19 := by simp [ints, hc]
  have e1 : Z21.take 0 ++ (ints cf ++ Z21.drop (0 + 19)) = ints cf ++ [.int .i64 0, .int .i64 0] := rfl
  have e : ints (cf ++ [x, y]) = ints cf ++ [.int .i64 x, .int .i64 y] := by simp [ints]
  have e2 : (ints cf ++ [Value.int .i64 0, .int .i64 0]).take 19 ++ ([Value.int .i64 x, .int .i64 y] ++ (ints cf ++ [Value.int .i64 0, .int .i64 0]).drop (19 + 2)) = ints (cf ++ [x, y]) := by
    rw [e, List.take_append_of_le_length (by omega), List.take_of_length_le (by omega), List.drop_of_length_le (by simp [hl])]
    simp
  have h2 : spl (ints cf ++ [Value.int .i64 0, .int .i64 0]).toArray 19 2 #[.int .i64 x, .int .i64 y] c := spl_V (cs := [Value.int .i64 x, .int .i64 y]) _ rfl (by simp [hl]) e2 h
  exact spl_V (acc := Z21) (cs := ints cf) _ hl (by decide) e1 h2
theorem spl_beg {cf : List Int} {x y : Int} {c : Array Value → Prop} (hc : cf.length = 19) (h : c (agI (cf ++ [x, y]))) : spl #[(.int .i64 (0 : Int)), (.int .i64 (0 : Int)), (.int .i64 (0 : Int)), (.int .i64 (0 : Int)), (.int .i64 (0 : Int)), (.int .i64 (0 : Int)), (.int .i64 (0 : Int)), (.int .i64 (0 : Int)), (.int .i64 (0 : Int)), (.int .i64 (0 : Int)), (.int .i64 (0 : Int)), (.int .i64 (0 : Int)), (.int .i64 (0 : Int)), (.int .i64 (0 : Int)), (.int .i64 (0 : Int)), (.int .i64 (0 : Int)), (.int .i64 (0 : Int)), (.int .i64 (0 : Int)), (.int .i64 (0 : Int)), (.int .i64 (0 : Int)), (.int .i64 (0 : Int))] 0 19 (agI cf) fun cs41 => spl cs41 19 2 #[.int .i64 x, .int .i64 y] c := spl_beg0 hc h
section
variable {w0 w : World} {L R : List HP} {gr gb gB gS : Nat} {ps ls sk : Sl} {q : Bool} {row : Int} {r : Rn} {b : Bk} {i : List Int} {ia : Array Value} {k : Bool → World → Prop} {P : List FnR} {l : List Rb}
theorem close_s (h : St w0 w (FP gr gb gB gS ps ls q row sk r b R)) (hf : r.f.length = 19) (h5 : i.length = 5)
    (h0 : ∀ w', (r.cl = [] ∨ ∃ c cs, r.cl = c :: cs ∧ (((b.s r.last).2 && !(c == 49)) || (q && !((c == 49) == (b.s r.last).2))) = true) → St w0 w' (FP gr gb gB gS ps ls q row sk r b R) → k false w')
    (h1 : ∀ w' c cs, r.cl = c :: cs → (((b.s r.last).2 && !(c == 49)) || (q && !((c == 49) == (b.s r.last).2))) = false → St w0 w' (FP gr gb gB gS ps ls q row sk { r with f := fClosed r.f i (c == 49), cl := cs, last := (b.s r.last).1 } b R) → k true w') : fits_run_close (some ⟨gr, 0, none⟩) (agI i) w k := by
  unfold fits_run_close fits_run_close_b
  refine newC_h h fun g1 w2 h => ?_
  have h : St w0 w2 (blk g1 (ints i) :: FP gr gb gB gS ps ls q row sk r b R) := h
  refine nn_i ?_
  refine ldStr_h (g := gr) (o := 0 + 22) h (run_cl hf) ?_
  rw [strEq_nil]
  cases hcl : r.cl with
  | nil =>
    refine iteB_t rfl ?_
    exact h0 _ (.inl hcl) h.drop
  | cons c cs =>
    refine iteB_f rfl ?_
    have hgo := h1
    refine joinP_i (fun z w' => ∃ g, z = (⟨g, 0, none⟩, c == 49) ∧ St w0 w' (blk g [.int .i64 (b.s r.last).1.1, .int .i64 (b.s r.last).1.2, .bool (b.s r.last).2] :: blk g1 (ints i) :: FP gr gb gB gS ps ls q row sk r b R)) (fun J hJ => ?_) ?_
    · refine drew_h h fun w6 h => ?_
      refine nn_i ?_
      refine ldP_h (g := gr) (o := 0 + 0) h rfl ?_
      refine nn_i ?_
      refine ldM_h (g := gb) (o := 0 + 4) h rfl ?_
      refine nn_i ?_
      refine ldA_h (n := 2) (g := gr) (o := 0 + 23) h (by rw [run_len hf]; decide) ?_
      rw [run_last hf]
      refine nn_i ?_
      refine ldStr_h (g := gr) (o := 0 + 22) h (run_cl hf) ?_
      rw [hcl]
      refine ixStr_at (n := 0) (b := c) (by simp) ?_
      rw [byte_49]
      refine ⟨?_, ?_⟩
      · refine lookS_h h ?_
        refine toAS ?_
        refine samec_self ?_
        refine newC_h h fun g14 w15 h2 => ?_
        refine samec_h (g := gr) (o := 0 + 22) h h2 (samec_h (g := gr) (o := 0 + 23) h h2 (samec_h (g := gb) (o := 0 + 4) h h2 (samec_h (g := gr) (o := 0 + 0) h h2 ?_)))
        refine stW_h (n := 3) (g := g14) h2 rfl rfl one_s fun w16 h2 => ?_
        refine samec_h (g := gr) (o := 0 + 22) h h2 ?_
        exact hJ _ _ ⟨g14, rfl, h2⟩
      · refine newC_h h fun g14 w15 h2 => ?_
        refine samec_h (g := gr) (o := 0 + 22) h h2 (samec_h (g := gr) (o := 0 + 23) h h2 (samec_h (g := gb) (o := 0 + 4) h h2 (samec_h (g := gr) (o := 0 + 0) h h2 ?_)))
        refine lookS_h h2 ?_
        refine toAS ?_
        refine samec_h (g := gr) (o := 0 + 22) h h2 ?_
        refine stW_h (n := 3) (g := g14) h2 rfl rfl one_s fun w16 h2 => ?_
        refine samec_h (g := gr) (o := 0 + 22) h h2 ?_
        exact hJ _ _ ⟨g14, rfl, h2⟩
    rintro _ w29 ⟨g, rfl, h⟩
    refine joinP_i (fun z w' => w' = w29 ∧ z = (((b.s r.last).2 && !(c == 49)) || (q && !((c == 49) == (b.s r.last).2)))) (fun J hJ => ?_) ?_
    · refine ldB_h (g := g) (o := 0 + 2) h rfl ?_
      refine iteB_i (fun hb => ?_) fun hb => ?_
      · exact hJ _ _ ⟨rfl, by rw [show ((b.s r.last).2 && !(c == 49)) = true from hb]; rfl⟩
      · rw [show ((b.s r.last).2 && !(c == 49)) = false from hb, Bool.false_or] at hJ
        refine nn_i ?_
        refine ldP_h (g := gr) (o := 0 + 0) h rfl ?_
        refine nn_i ?_
        refine ldB_h (g := gb) (o := 0 + 2) h rfl ?_
        refine iteB_i (fun hq => ?_) fun hq => ?_
        · subst hq
          refine ldB_h (g := g) (o := 0 + 2) h rfl ?_
          exact hJ _ _ ⟨rfl, rfl⟩
        · subst hq
          exact hJ _ _ ⟨rfl, rfl⟩
    rintro _ w38 ⟨rfl, rfl⟩
    refine iteB_i (fun hb => ?_) fun hb => ?_
    · exact h0 _ (.inr ⟨c, cs, hcl, hb⟩) h.drop.drop
    have hres := fun w' => h1 w' c cs hcl hb
    refine drew_h h fun w39 h => ?_
    refine nn_i ?_
    refine ldA_h (n := 19) (g := gr) (o := 0 + 1) h (by rw [run_len hf]; decide) ?_
    rw [run_f hf]
    refine ldW_h (g := g1) h (by simp [ints, h5]) ?_
    refine nn_i ?_
    refine ldStr_h (g := gr) (o := 0 + 22) h (run_cl hf) ?_
    rw [hcl]
    have hsz : (ByteArray.mk (c :: cs).toArray).size = cs.length + 1 := by rw [sz_list]; simp
    refine ⟨⟨by omega, by omega⟩, ⟨by omega, by omega⟩, ?_⟩
    simp only [Int.toNat_one, Int.toNat_natCast]
    rw [mk_tail]
    refine ldA_h (n := 2) (g := g) (o := 0 + 0) h (by simp) ?_
    refine Fr.closed_s hf h5 fun w48 he => ?_
    have h2 := ext_of h he
    refine samec_h (g := g) (o := 0 + 0) h h2 (samec_h (g := gr) (o := 0 + 22) h h2 ?_)
    refine nn_i ?_
    refine stA_h (n := 19) (g := gr) (o := 0 + 1) (vs := agI (fClosed r.f i (c == 49))) h2 (by simp [agI, ints, fClosed_len, hf]) (by rw [run_len hf]; decide) (Ck.one_agI _) fun w50 h2 => ?_
    rw [run_setf hf (by rw [fClosed_len, hf])] at h2
    have hf2 : ({ r with f := fClosed r.f i (c == 49) } : Rn).f.length = 19 := by show (fClosed r.f i (c == 49)).length = 19; rw [fClosed_len, hf]
    refine samec_h (g := g) (o := 0 + 0) h h2 ?_
    refine nn_i ?_
    refine stC_h (g := gr) (o := 0 + 22) h2 rfl (by rw [run_len hf2]; decide) fun w52 h2 => ?_
    rw [run_setcl hf2] at h2
    refine samec_h (g := g) (o := 0 + 0) h h2 ?_
    refine nn_i ?_
    refine stA_h (n := 2) (g := gr) (o := 0 + 23) (vs := #[.int .i64 (b.s r.last).1.1, .int .i64 (b.s r.last).1.2]) h2 rfl (by rw [run_len (r := { r with f := fClosed r.f i (c == 49), cl := cs }) hf2]; decide) one_p fun w54 h2 => ?_
    rw [run_setlast (r := { r with f := fClosed r.f i (c == 49), cl := cs }) hf2] at h2
    exact hres w54 h2.drop.drop
theorem fork_s (h : St w0 w (FP gr gb gB gS ps ls q row sk r b R)) (hF : Funcs5 w0 ps P) (hf : r.f.length = 19) (h5 : i.length = 5) (hi8 : isB i 8 = true) (hN : 0 ≤ i.getD 4 0) (hlt : (i.getD 4 0).toNat < P.length)
    (h0 : ∀ w', r.kids = [] → St w0 w' (FP gr gb gB gS ps ls q row sk r b R) → k false w')
    (h1 : ∀ w' sk' c cs, r.kids = c :: cs → St w0 w' (FP gr gb gB gS ps ls q row sk' { r with f := fForked r.f i c, kids := cs } { b with beg := upd b.beg c (fChild r.f (i.getD 4 0) (needsOf P (i.getD 4 0)), r.last) } R) → k true w') : fits_run_fork (some ⟨gr, 0, none⟩) (agI i) w k := by
  unfold fits_run_fork fits_run_fork_b
  refine newC_h h fun g1 w2 h => ?_
  have h : St w0 w2 (blk g1 (ints i) :: FP gr gb gB gS ps ls q row sk r b R) := h
  obtain ⟨g', hg'⟩ : ∃ g', P[(i.getD 4 0).toNat]? = some g' := ⟨_, List.getElem?_eq_getElem hlt⟩
  obtain ⟨c1, c2, c3, c4, c5⟩ := child_get (f := r.f) (n := i.getD 4 0) (needs := g'.needs) hf
  rw [← Ck.needs_get hg'] at c1
  generalize hcf : fChild r.f (i.getD 4 0) (needsOf P (i.getD 4 0)) = cf at c1 h1
  refine joinP_i (fun z w' => ∃ g, z = (⟨g, 0, none⟩, 0) ∧ St w0 w' (blk g (ints cf) :: blk g1 (ints i) :: FP gr gb gB gS ps ls q row sk r b R)) (fun J hJ => ?_) ?_
  · refine drew_h h fun w4 h => ?_
    refine nn_i ?_
    refine ldA_h (n := 19) (g := gr) (o := 0 + 1) h (by rw [run_len hf]; decide) ?_
    rw [run_f hf]
    refine nn_i ?_
    refine ldP_h (g := gr) (o := 0 + 0) h rfl ?_
    refine nn_i ?_
    refine ldA_h (n := 1) (g := gb) (o := 0 + 0) h (by simp [bookV]) ?_
    refine ldW_h (g := g1) h (by simp [ints, h5]) ?_
    have hcs : ∀ {w' : World} {kk : Array Value × Int → World → Prop}, Ext w0 w' → (∀ w'', Ext w' w'' → kk (agI cf, 0) w'') → frame_Frame_Child (agI r.f) #[.slice ps.a ps.n ps.c] (agI i) w' kk := by
      intro w' kk he hkk
      refine Fr.child_s hf h5 (funcs_of (hF.ext he)) (fun q => by rw [hi8] at q; cases q) (fun _ q => by rw [List.length_map] at q; omega) fun _ x hx w'' he' => ?_
      rw [List.getElem?_map, hg'] at hx
      cases hx
      have := hkk w'' he'
      rw [← hcf, Ck.needs_get hg'] at this
      exact this
    refine ⟨?_, ?_⟩
    · refine hcs h.ext fun w13 he => ?_
      have h2 := ext_of h he
      refine newC_h h2 fun g14 w15 h2 => ?_
      refine samec_h (g := g1) (o := 0) h h2 (samec_h (g := gb) (o := 0 + 0) h h2 (samec_h (g := gr) (o := 0 + 0) h h2 (samec_h (g := gr) (o := 0 + 1) h h2 ?_)))
      refine stW_h (g := g14) h2 rfl (by simp [agI, ints, c1]) (Ck.one_agI _) fun w16 h2 => ?_
      exact hJ _ _ ⟨g14, rfl, h2⟩
    · refine newC_h h fun g14 w15 h2 => ?_
      refine samec_h (g := g1) (o := 0) h h2 (samec_h (g := gb) (o := 0 + 0) h h2 (samec_h (g := gr) (o := 0 + 0) h h2 (samec_h (g := gr) (o := 0 + 1) h h2 ?_)))
      refine hcs h2.ext fun w20 he => ?_
      have h2 := ext_of h2 he
      refine stW_h (g := g14) h2 rfl (by simp [agI, ints, c1]) (Ck.one_agI _) fun w21 h2 => ?_
      exact hJ _ _ ⟨g14, rfl, h2⟩
  rintro _ w23 ⟨g, rfl, h⟩
  have hsl := h.slen (sz := 1) (s := sk)
  have hsn : sk.n = r.kids.length := by simp [ints] at hsl; omega
  refine joinP_i (fun z w' => w' = w23 ∧ z = (((r.kids.length : Nat) : Int) == 0)) (fun J hJ => ?_) ?_
  · refine iteB_f rfl ?_
    refine nn_i ?_
    refine ldS_h (g := gr) (o := 0 + 21) h (run_kids hf) ?_
    rw [hsn]
    exact hJ _ _ ⟨rfl, rfl⟩
  rintro _ w28 ⟨rfl, rfl⟩
  cases hks : r.kids with
  | nil => exact iteB_t rfl (h0 _ hks h.drop.drop)
  | cons c cs =>
    refine iteB_f (by rw [List.length_cons]; rw [beq_eq_false_iff_ne]; omega) ?_
    have hres := fun w' sk' => h1 w' sk' c cs hks
    have hkl : r.kids.length = cs.length + 1 := by rw [hks]; rfl
    have hg0 : r.kids.getD (0 : Int).toNat 0 = c := by rw [hks]; rfl
    refine drew_h h fun w29 h => ?_
    refine nn_i ?_
    refine ldP_h (g := gr) (o := 0 + 0) h rfl ?_
    refine nn_i ?_
    refine ldM_h (g := gb) (o := 0 + 3) h rfl ?_
    refine nn_i ?_
    refine ldS_h (g := gr) (o := 0 + 21) h (run_kids hf) ?_
    have hc0 : (ints r.kids)[(0 : Int).toNat * 1 + 0]? = some (.int .i64 c) := by rw [hks]; rfl
    refine ixS_h (sz := 1) (s := sk) (vs := ints r.kids) h (by omega) (by omega) (by omega) fun ga o _ hrd _ => ?_
    refine ldI_i (hrd h 0 _ (by omega) hc0) ?_
    refine ldW_h (n := 19) (g := g) h (by simp [ints, c1]) ?_
    refine nn_i ?_
    refine ldA_h (n := 2) (g := gr) (o := 0 + 23) h (by rw [run_len hf]; decide) ?_
    rw [run_last hf]
    refine spl_beg c1 ?_
    refine samec_self (samec_self (samec_self (samec_self ?_)))
    refine gmPut_h (ek := ekI) (ev := evB) (k := c) (y := (cf, r.last)) mapB h fun w43 h => ?_
    have h : St w0 w43 (blk g (ints cf) :: blk g1 (ints i) :: FP gr gb gB gS ps ls q row sk r { b with beg := upd b.beg c (cf, r.last) } R) := h
    refine drew_h h fun w44 h => ?_
    refine nn_i ?_
    refine ldA_h (n := 19) (g := gr) (o := 0 + 1) h (by rw [run_len hf]; decide) ?_
    rw [run_f hf]
    refine ldW_h (g := g1) h (by simp [ints, h5]) ?_
    refine nn_i ?_
    refine ldS_h (g := gr) (o := 0 + 21) h (run_kids hf) ?_
    refine ixI_h (s := sk) (xs := r.kids) h (by omega) (by omega) ?_
    rw [hg0]
    refine Fr.forked_s hf h5 fun w53 he => ?_
    have h := ext_of h he
    refine nn_i ?_
    refine stA_h (n := 19) (g := gr) (o := 0 + 1) (vs := agI (fForked r.f i c)) h (by simp [agI, ints, fForked_len, hf]) (by rw [run_len hf]; decide) (Ck.one_agI _) fun w55 h => ?_
    rw [run_setf hf (by rw [fForked_len, hf])] at h
    have hf2 : ({ r with f := fForked r.f i c } : Rn).f.length = 19 := by show (fForked r.f i c).length = 19; rw [fForked_len, hf]
    refine nn_i ?_
    refine ldS_h (g := gr) (o := 0 + 21) h (run_kids hf2) ?_
    refine slL_h (s := sk) (sz := 1) (vs := ints r.kids) h (by omega) (by omega) fun d hd h => ?_
    refine nn_i ?_
    refine stC_h (g := gr) (o := 0 + 21) h rfl (by rw [run_len hf2]; decide) fun w60 h => ?_
    rw [run_setkids (ks := cs) hf2] at h
    have ed : (ints r.kids).drop ((1 : Int).toNat * 1) = ints cs := by rw [hks]; rfl
    rw [ed] at h
    exact hres w60 d h.drop.drop
theorem join_s {h' : Int} (h : St w0 w (FP gr gb gB gS ps ls q row sk r b R)) (hT : Tbl w0 ls l) (hf : r.f.length = 19) (h5 : i.length = 5) (hh : h' = hOf i) (hA : 0 ≤ h' ∧ h' < 8) (h0 : 0 ≤ r.f.getD (10 + h'.toNat) 0) (h1 : r.f.getD (10 + h'.toNat) 0 < l.length)
    (hk0 : (rowAt l (r.f.getD (10 + h'.toNat) 0)).kind < 2 → ∀ w', St w0 w' (FP gr gb gB gS ps ls q row sk r b R) → k false w')
    (hk1 : ¬ (rowAt l (r.f.getD (10 + h'.toNat) 0)).kind < 2 → (fJoined r.f i (rowAt l (r.f.getD (10 + h'.toNat) 0)).kind (rowAt l (r.f.getD (10 + h'.toNat) 0)).v).2.2 = true → ∀ w', St w0 w' (FP gr gb gB gS ps ls q row sk { r with f := (fJoined r.f i (rowAt l (r.f.getD (10 + h'.toNat) 0)).kind (rowAt l (r.f.getD (10 + h'.toNat) 0)).v).1, kind := 3, v := (fJoined r.f i (rowAt l (r.f.getD (10 + h'.toNat) 0)).kind (rowAt l (r.f.getD (10 + h'.toNat) 0)).v).2.1 } b R) → k true w')
    (hk2 : ¬ (rowAt l (r.f.getD (10 + h'.toNat) 0)).kind < 2 → (fJoined r.f i (rowAt l (r.f.getD (10 + h'.toNat) 0)).kind (rowAt l (r.f.getD (10 + h'.toNat) 0)).v).2.2 = false → ∀ w', St w0 w' (FP gr gb gB gS ps ls q row sk { r with f := (fJoined r.f i (rowAt l (r.f.getD (10 + h'.toNat) 0)).kind (rowAt l (r.f.getD (10 + h'.toNat) 0)).v).1 } b R) → k true w') : fits_run_join (some ⟨gr, 0, none⟩) (agI i) w k := by
  unfold fits_run_join fits_run_join_b
  refine newC_h h fun g1 w2 h => ?_
  have h : St w0 w2 (blk g1 (ints i) :: FP gr gb gB gS ps ls q row sk r b R) := h
  refine ldI_h (g := g1) (o := 0 + 2) h (ints_getD (by omega)) ?_
  refine ldI_h (g := g1) (o := 0 + 0) h (ints_getD (by omega)) ?_
  refine joinP_i (fun z w' => z = h' ∧ w' = w2) (fun J hJ => ?_) ?_
  · unfold hOf at hh
    refine iteB_i (fun hb => ?_) fun hb => ?_
    · have hb : i.getD 0 0 = 10 := by simpa using hb
      refine ldI_h (g := g1) (o := 0 + 3) h (ints_getD (by omega)) ?_
      exact hJ _ _ ⟨by rw [hh, if_pos hb], rfl⟩
    · have hb : ¬ i.getD 0 0 = 10 := by simpa using hb
      exact hJ _ _ ⟨by rw [hh, if_neg hb], rfl⟩
  rintro z _ ⟨hz, rfl⟩
  rw [hz]
  refine drew_h h fun w9 h => ?_
  refine nn_i ?_
  refine ldP_h (g := gr) (o := 0 + 0) h rfl ?_
  refine nn_i ?_
  refine ldS_h (g := gb) (o := 0 + 1) h rfl ?_
  refine nn_i ?_
  refine ixP_i hA.1 (by omega) ?_
  have ev : (runV gb row sk r)[0 + 1 + 10 + h'.toNat * 1]? = some (.int .i64 (r.f.getD (10 + h'.toNat) 0)) := by
    have := run_get (gb := gb) (row := row) (sk := sk) (r := r) (j := 10 + h'.toNat) hf (by omega)
    rw [show 0 + 1 + 10 + h'.toNat * 1 = 1 + (10 + h'.toNat) by omega]
    exact this
  refine ldI_h (g := gr) (o := 0 + 1 + 10 + h'.toNat * 1) h ev ?_
  generalize hj : r.f.getD (10 + h'.toNat) 0 = j at *
  refine tA_h hT h h0 h1 fun p hp => ?_
  generalize hx : rowAt l j = x at *
  refine newC_h h fun g19 w20 h2 => ?_
  refine samecT (e := rbV x) (fun j v => hp h) (fun j v => hp h2) (Nat.le_of_eq rbV_len.symm) ?_
  refine samec_h (g := gr) (o := 0 + 1 + 10 + h'.toNat * 1) h h2 (samec_h (g := gb) (o := 0 + 1) h h2 (samec_h (g := gr) (o := 0 + 0) h h2 ?_))
  refine stW_h (g := g19) h2 rfl rfl one_rb fun w21 h => ?_
  refine ldI_h (g := g19) (o := 0 + 3) h rfl ?_
  refine iteB_i (fun hb => ?_) fun hb => ?_
  · exact hk0 (of_decide_eq_true hb) _ h.drop.drop
  have hk2' := of_decide_eq_false hb
  have hfl : (fJoined r.f i x.kind x.v).1.length = 19 := by rw [fJoined_len, hf]
  refine joinP_i (fun z w' => ∃ g, z = (⟨g, 0, none⟩, (fJoined r.f i x.kind x.v).2.1, (fJoined r.f i x.kind x.v).2.2) ∧ St w0 w' (blk g (ints (fJoined r.f i x.kind x.v).1) :: blk g19 (rbV x) :: blk g1 (ints i) :: FP gr gb gB gS ps ls q row sk r b R)) (fun J hJ => ?_) ?_
  · refine drew_h h fun w24 h => ?_
    refine nn_i ?_
    refine ldA_h (n := 19) (g := gr) (o := 0 + 1) h (by rw [run_len hf]; decide) ?_
    rw [run_f hf]
    refine ldW_h (g := g1) h (by simp [ints, h5]) ?_
    refine ldI_h (g := g19) (o := 0 + 3) h rfl ?_
    refine ldI_h (g := g19) (o := 0 + 4) h rfl ?_
    refine ⟨?_, ?_⟩
    · refine Fr.joined_s hf h5 fun w31 he => ?_
      have h2 := ext_of h he
      refine newC_h h2 fun g32 w33 h2 => ?_
      refine samec_h (g := g19) (o := 0 + 4) h h2 (samec_h (g := g19) (o := 0 + 3) h h2 (samec_h (g := g1) (o := 0) h h2 (samec_h (g := gr) (o := 0 + 1) h h2 ?_)))
      refine stW_h (g := g32) h2 rfl (by simp [agI, ints, hfl]) (Ck.one_agI _) fun w34 h2 => ?_
      exact hJ _ _ ⟨g32, rfl, h2⟩
    · refine newC_h h fun g32 w33 h2 => ?_
      refine samec_h (g := g19) (o := 0 + 4) h h2 (samec_h (g := g19) (o := 0 + 3) h h2 (samec_h (g := g1) (o := 0) h h2 (samec_h (g := gr) (o := 0 + 1) h h2 ?_)))
      refine Fr.joined_s hf h5 fun w31 he => ?_
      have h2 := ext_of h2 he
      refine stW_h (g := g32) h2 rfl (by simp [agI, ints, hfl]) (Ck.one_agI _) fun w34 h2 => ?_
      exact hJ _ _ ⟨g32, rfl, h2⟩
  rintro _ w41 ⟨g, rfl, h⟩
  refine ldW_h (n := 19) (g := g) h (by simp [ints, hfl]) ?_
  refine nn_i ?_
  refine stA_h (n := 19) (g := gr) (o := 0 + 1) (vs := agI (fJoined r.f i x.kind x.v).1) h (by simp [agI, ints, hfl]) (by rw [run_len hf]; decide) (Ck.one_agI _) fun w44 h => ?_
  rw [run_setf hf hfl] at h
  have hf2 : ({ r with f := (fJoined r.f i x.kind x.v).1 } : Rn).f.length = 19 := hfl
  refine iteB_i (fun hb => ?_) fun hb => ?_
  · refine nn_i ?_
    refine stC_h (g := gr) (o := 0 + 26) h rfl (by rw [run_len hf2]; decide) fun w46 h => ?_
    rw [run_setkind hf2] at h
    refine nn_i ?_
    refine stC_h (g := gr) (o := 0 + 27) h rfl (by rw [run_len (r := { r with f := (fJoined r.f i x.kind x.v).1, kind := 3 }) hf2]; decide) fun w48 h => ?_
    rw [run_setv (r := { r with f := (fJoined r.f i x.kind x.v).1, kind := 3 }) hf2] at h
    exact hk1 hk2' hb _ h.drop.drop.drop
  · exact hk2 hk2' hb _ h.drop.drop.drop
end
end Go.Proofs.YtgkfbagclkjilaaGreatDoor.Ft
namespace Go.Proofs.YtgkfbagclkjilaaGreatDoor.Ft
open Go Go.Ev Go.Proofs Go.Proofs.YtgkfbagclkjilaaGreatDoor
open Go.Proofs.YtgkfbagclkjilaaGreatDoor.Fr (fTo fOn fPlain fForked fJoined fClosed fChild fRoot fR isB fTo_len fOn_len fPlain_len fForked_len fJoined_len fClosed_len)
open Go.Proofs.YtgkfbagclkjilaaGreatDoor.Ck (opI Walk Accs needsOf isGoes heldL depths stepD handlesOk subBits scopesOk forks)
theorem does_s {w0 w : World} {L : List HP} {g : Nat} {vs : List Value} {v : Value} {j : Nat} {f : HP → List HP} {c : Value → Prop} (h : St w0 w L) [a : At L (blk g) vs f] (hj : j < 9) (hv : vs[j]? = some v) (hc : c v) : ixS ⟨some ⟨g, 0, none⟩, 9, 9⟩ (j : Int) 1 fun a => ldV w a c := by
  unfold ixS
  refine ⟨⟨by omega, by simp only; omega⟩, ?_⟩
  have e : (⟨g, 0, none⟩ : Addr).add (((j : Int)).toNat * 1) = ⟨g, j, none⟩ := by rw [add_mk, Int.toNat_natCast]; simp
  show ldV w _ c
  rw [e]
  exact ldV_h (g := g) (o := j) h hv hc
theorem next_any {f : List Int} {ps : Sl} {P : List FnR} {w : World} {k : Array Value × Int → World → Prop} (hF : Funcs5 w ps P) (hf : FB P f) (hk : ∀ i e w', i.length = 5 → Ext w w' → k (agI i, e) w') : frame_Frame_Next (agI f) #[.slice ps.a ps.n ps.c] w k := by
  obtain ⟨g, hg⟩ := hf.fn
  have h0 := hf.f0
  have hlen := hf.len
  obtain ⟨_, hcd⟩ := hF.code g (List.mem_of_getElem? hg)
  by_cases hin : 0 ≤ f.getD 1 0 ∧ (f.getD 1 0).toNat < g.code.length
  · have hi : g.code[(f.getD 1 0).toNat]? = some (g.code[(f.getD 1 0).toNat]'hin.2) := List.getElem?_eq_getElem hin.2
    refine next_s hF hf.len h0 hg hin.1 hi fun w' he => hk _ _ _ ?_ he
    exact (hcd.five _ (List.getElem_mem hin.2)).1
  have hn := hF.len
  have hcn := hcd.len
  have hlt := (List.getElem?_eq_some_iff.1 hg).1
  unfold frame_Frame_Next
  refine newC_h (.nil w) fun g1 w1 h => newC_h h fun g3 w3 h => newC_h h fun g5 w6 h => ?_
  have h : St w w6 [blk g5 (ints [0, 0, 0, 0, 0]), blk g3 [.slice ps.a ps.n ps.c], blk g1 (ints f)] := h
  refine joinP_i (fun b w' => b = false ∧ w' = w6) (fun J hJ => ?_) fun b v hbv => ?_
  · refine ldI_h (g := g1) (o := 0 + 0) h (ints_getD (by omega)) (iteB_f (by rw [decide_eq_false_iff_not]; show ¬ f.getD 0 0 < 0; omega) ?_)
    refine ldI_h (g := g1) (o := 0 + 0) h (ints_getD (by omega)) (ldS_h (g := g3) (o := 0 + 0) h rfl (hJ _ _ ⟨by rw [decide_eq_false_iff_not]; show ¬ f.getD 0 0 ≥ ((ps.n : Nat) : Int); omega, rfl⟩))
  rw [hbv.1, hbv.2]
  refine iteB_f rfl ?_
  refine ldS_h (g := g3) (o := 0 + 0) h rfl (ldI_h (g := g1) (o := 0 + 0) h (ints_getD (by omega)) ?_)
  refine ixR_h (i := f.getD 0 0) (e := FnR.cells g) hF.rws h h0 (by rw [List.getElem?_map, hg]; rfl) fun p hp => ?_
  refine ldS_i (s := g.sl) (hp h (j := 1) rfl) ?_
  refine joinP_i (fun b w' => b = true ∧ w' = w6) (fun J hJ => ?_) fun b v hbv => ?_
  · refine ldI_h (g := g1) (o := 0 + 1) h (ints_getD (by omega)) ?_
    refine iteB_i (fun hb => hJ _ _ ⟨rfl, rfl⟩) fun hb => ?_
    have hb : ¬ f.getD 1 0 < 0 := of_decide_eq_false hb
    refine ldI_h (g := g1) (o := 0 + 1) h (ints_getD (by omega)) (hJ _ _ ⟨by rw [decide_eq_true_eq]; show f.getD 1 0 ≥ ((g.sl.n : Nat) : Int); omega, rfl⟩)
  rw [hbv.1, hbv.2]
  refine iteB_t rfl ?_
  refine stW_h (n := 5) (g := g5) h rfl rfl (Ck.one_agI [0, 0, 0, 0, 0]) fun w24 h => ?_
  refine ldW_h (n := 5) (g := g5) h rfl ?_
  exact hk [0, 0, 0, 0, 0] _ _ rfl h.ext
abbrev doesL : List Value := [.func (.func n_fits_run_fork) #[] #[], .func (.func n_fits_run_join) #[] #[], .func (.func n_fits_run_join) #[] #[], .func (.func n_fits_run_open) #[] #[], .func (.func n_fits_run_close) #[] #[], .func (.func n_fits_run_cancel) #[] #[], .func (.func n_fits_run_pass) #[] #[], .func (.func n_fits_run_leave) #[] #[], .func (.func n_fits_run_leave) #[] #[]]
section
variable {w0 w : World} {L R : List HP} {gr gb gB gS : Nat} {ps ls sk : Sl} {q : Bool} {row : Int} {r : Rn} {b : Bk} {i : List Int} {ia : Array Value} {k : Bool → World → Prop} {P : List FnR} {l : List Rb} {Q : Int → Prop} {inn : Int × Int} {n : Nat} {ks : List Int}
theorem step_s (hF : Funcs5 w0 ps P) (hT : Tbl w0 ls l) (hA : Accs P) (hri : RI P Q row inn n r b ks) (hQ : ∀ j, Q j → 0 ≤ j ∧ j < l.length) (hn : (n : Int) < 1048576) (h : St w0 w (FP gr gb gB gS ps ls q row sk r b R))
    (h0 : ∀ w', fstp P l q row r b = none → St w0 w' (FP gr gb gB gS ps ls q row sk r b R) → k false w')
    (h1 : ∀ w' sk' r' b', fstp P l q row r b = some (r', b') → St w0 w' (FP gr gb gB gS ps ls q row sk' r' b' R) → k true w') : fits_run_step (some ⟨gr, 0, none⟩) w k := by
  have hf := hri.fb.len
  unfold fits_run_step fits_run_step_b
  by_cases hk0 : r.kind = 0
  case neg =>
    refine joinP_i (fun z w' => ∃ g e, z = (⟨g, 0, none⟩, e) ∧ St w0 w' (FP gr gb gB gS ps ls q row sk r b R)) (fun J hJ => ?_) ?_
    · refine drew_h h fun w2 h => ?_
      refine nn_i ?_
      refine ldA_h (n := 19) (g := gr) (o := 0 + 1) h (by rw [run_len hf]; decide) ?_
      rw [run_f hf]
      refine nn_i ?_
      refine ldP_h (g := gr) (o := 0 + 0) h rfl ?_
      refine nn_i ?_
      refine ldA_h (n := 1) (g := gb) (o := 0 + 0) h (by simp [bookV]) ?_
      refine ⟨?_, ?_⟩
      · refine next_any (hF.ext h.ext) hri.fb fun i e w10 h5 he => ?_
        have h2 := ext_of h he
        refine newC_h h2 fun g11 w12 h2 => ?_
        refine samec_h (g := gb) (o := 0 + 0) h h2 (samec_h (g := gr) (o := 0 + 0) h h2 (samec_h (g := gr) (o := 0 + 1) h h2 ?_))
        refine stW_h (g := g11) h2 rfl (by simp [agI, ints, h5]) (Ck.one_agI _) fun w13 h2 => ?_
        exact hJ _ _ ⟨g11, e, rfl, h2.drop⟩
      · refine newC_h h fun g11 w12 h2 => ?_
        refine samec_h (g := gb) (o := 0 + 0) h h2 (samec_h (g := gr) (o := 0 + 0) h h2 (samec_h (g := gr) (o := 0 + 1) h h2 ?_))
        refine next_any (hF.ext h2.ext) hri.fb fun i e w10 h5 he => ?_
        have h2 := ext_of h2 he
        refine stW_h (g := g11) h2 rfl (by simp [agI, ints, h5]) (Ck.one_agI _) fun w13 h2 => ?_
        exact hJ _ _ ⟨g11, e, rfl, h2.drop⟩
    rintro _ w20 ⟨g, e, rfl, h⟩
    refine joinP_i (fun z w' => z = true ∧ w' = w20) (fun J hJ => ?_) ?_
    · refine iteB_i (fun hb => hJ _ _ ⟨rfl, rfl⟩) fun hb => ?_
      refine nn_i ?_
      refine ldI_h (g := gr) (o := 0 + 26) h (run_kind hf) ?_
      exact hJ _ _ ⟨by simpa using hk0, rfl⟩
    rintro _ _ ⟨rfl, rfl⟩
    refine iteB_t rfl ?_
    exact h0 _ (by unfold fstp; rw [if_pos hk0]) h
  have hfi := hri.fi hk0
  obtain ⟨g, hv, ha⟩ := hfi.at hA
  obtain ⟨hp0, hp1⟩ := fat_pc ha
  have hmem := List.mem_of_getElem? ha.ins
  obtain ⟨_, hcd⟩ := hF.code g (List.mem_of_getElem? ha.at0)
  have h5 := (hcd.five _ hmem).1
  have hck := Ck.chk0 ha.chk
  have hregs := Fr.chk_regs (chk_fr ha.chk)
  have hop := hri.op
  generalize hi : insAt P r.f = i at ha hmem h5 hck hregs
  have hop0 : 0 ≤ i.getD 0 0 := hck.1
  have hop1 : i.getD 0 0 < 17 := hck.2.1
  refine joinP_i (fun z w' => ∃ g, z = (⟨g, 0, none⟩, 0) ∧ St w0 w' (blk g (ints i) :: FP gr gb gB gS ps ls q row sk r b R)) (fun J hJ => ?_) ?_
  · refine drew_h h fun w2 h => ?_
    refine nn_i ?_
    refine ldA_h (n := 19) (g := gr) (o := 0 + 1) h (by rw [run_len hf]; decide) ?_
    rw [run_f hf]
    refine nn_i ?_
    refine ldP_h (g := gr) (o := 0 + 0) h rfl ?_
    refine nn_i ?_
    refine ldA_h (n := 1) (g := gb) (o := 0 + 0) h (by simp [bookV]) ?_
    refine ⟨?_, ?_⟩
    · refine next_s (hF.ext h.ext) hf hfi.f0 ha.at0 hp0 ha.ins fun w10 he => ?_
      have h2 := ext_of h he
      refine newC_h h2 fun g11 w12 h2 => ?_
      refine samec_h (g := gb) (o := 0 + 0) h h2 (samec_h (g := gr) (o := 0 + 0) h h2 (samec_h (g := gr) (o := 0 + 1) h h2 ?_))
      refine stW_h (g := g11) h2 rfl (by simp [agI, ints, h5]) (Ck.one_agI _) fun w13 h2 => ?_
      exact hJ _ _ ⟨g11, rfl, h2⟩
    · refine newC_h h fun g11 w12 h2 => ?_
      refine samec_h (g := gb) (o := 0 + 0) h h2 (samec_h (g := gr) (o := 0 + 0) h h2 (samec_h (g := gr) (o := 0 + 1) h h2 ?_))
      refine next_s (hF.ext h2.ext) hf hfi.f0 ha.at0 hp0 ha.ins fun w10 he => ?_
      have h2 := ext_of h2 he
      refine stW_h (g := g11) h2 rfl (by simp [agI, ints, h5]) (Ck.one_agI _) fun w13 h2 => ?_
      exact hJ _ _ ⟨g11, rfl, h2⟩
  rintro _ w20 ⟨g1, rfl, h⟩
  refine joinP_i (fun z w' => z = false ∧ w' = w20) (fun J hJ => ?_) ?_
  · refine iteB_f rfl ?_
    refine nn_i ?_
    refine ldI_h (g := gr) (o := 0 + 26) h (run_kind hf) ?_
    exact hJ _ _ ⟨by rw [hk0]; rfl, rfl⟩
  rintro _ w25 ⟨rfl, rfl⟩
  refine iteB_f rfl ?_
  have hfl : (fPlain r.f i).1.length = 19 := fPlain_len hf
  refine joinP_i (fun z w' => ∃ g2, z = (⟨g2, 0, none⟩, (fPlain r.f i).2) ∧ St w0 w' (blk g2 (ints (fPlain r.f i).1) :: blk g1 (ints i) :: FP gr gb gB gS ps ls q row sk r b R)) (fun J hJ => ?_) ?_
  · refine drew_h h fun w27 h => ?_
    refine nn_i ?_
    refine ldA_h (n := 19) (g := gr) (o := 0 + 1) h (by rw [run_len hf]; decide) ?_
    rw [run_f hf]
    refine ldW_h (g := g1) h (by simp [ints, h5]) ?_
    refine ⟨?_, ?_⟩
    · refine Fr.plain_F hf h5 fun w32 he => ?_
      have h2 := ext_of h he
      refine newC_h h2 fun g33 w34 h2 => ?_
      refine samec_h (g := g1) (o := 0) h h2 (samec_h (g := gr) (o := 0 + 1) h h2 ?_)
      refine stW_h (g := g33) h2 rfl (by simp [agI, ints, hfl]) (Ck.one_agI _) fun w35 h2 => ?_
      exact hJ _ _ ⟨g33, rfl, h2⟩
    · refine newC_h h fun g33 w34 h2 => ?_
      refine samec_h (g := g1) (o := 0) h h2 (samec_h (g := gr) (o := 0 + 1) h h2 ?_)
      refine Fr.plain_F hf h5 fun w32 he => ?_
      have h2 := ext_of h2 he
      refine stW_h (g := g33) h2 rfl (by simp [agI, ints, hfl]) (Ck.one_agI _) fun w35 h2 => ?_
      exact hJ _ _ ⟨g33, rfl, h2⟩
  rintro _ w42 ⟨g2, rfl, h⟩
  refine iteB_i (fun hp => ?_) fun hp => ?_
  · have hp : (fPlain r.f i).2 = true := hp
    refine ldW_h (g := g2) h (by simp [ints, hfl]) ?_
    refine nn_i ?_
    refine stA_h (n := 19) (g := gr) (o := 0 + 1) (vs := agI (fPlain r.f i).1) h (by simp [agI, ints, hfl]) (by rw [run_len hf]; decide) (Ck.one_agI _) fun w45 h => ?_
    rw [run_setf hf hfl] at h
    exact h1 _ _ _ _ (by unfold fstp; rw [hi, if_neg (by simpa using hk0), if_pos hp]) h.drop.drop
  have hp : (fPlain r.f i).2 = false := hp
  have hop8 := plain_not ha.chk hp
  have hstp : fstp P l q row r b = fact P l q row i r b := by unfold fstp; rw [hi, if_neg (by simpa using hk0), if_neg (by rw [hp]; decide)]
  rw [hstp] at h0 h1
  refine newC_h h fun g46 w47 h => ?_
  refine drew_h h fun w48 h => ?_
  have h : St w0 w48 (blk g46 doesL :: blk g2 (ints (fPlain r.f i).1) :: blk g1 (ints i) :: FP gr gb gB gS ps ls q row sk r b R) := h
  refine ldI_h (g := g1) (o := 0 + 0) h (ints_getD (by omega)) ?_
  have hS := h.drop.drop.drop
  have hjoin : i.getD 0 0 = 9 ∨ i.getD 0 0 = 10 → fits_run_join (some ⟨gr, 0, none⟩) (agI i) w48 k := by
    intro h910
    obtain ⟨j0, j1, jq⟩ := fat_join ha h910
    obtain ⟨q0, q1⟩ := hQ _ jq
    refine join_s hS hT hf h5 rfl ⟨j0, j1⟩ q0 q1 (fun hb w' h => ?_) (fun hb hc w' h => ?_) fun hb hc w' h => ?_
    · exact h0 _ (by unfold fact; rw [if_neg (by omega), if_pos h910, if_pos hb]) h
    · exact h1 _ _ _ _ (by unfold fact; rw [if_neg (by omega), if_pos h910, if_neg hb, if_pos hc]) h
    · exact h1 _ _ _ _ (by unfold fact; rw [if_neg (by omega), if_pos h910, if_neg hb, if_neg (by rw [hc]; decide)]) h
  have hleave : 15 ≤ i.getD 0 0 → fits_run_leave (some ⟨gr, 0, none⟩) (agI i) w48 k := by
    intro hl
    refine leave_s hS hf h5 hregs.1 fun w' h => ?_
    exact h1 _ _ _ _ (by unfold fact; rw [if_neg (by omega), if_neg (by omega), if_neg (by omega), if_neg (by omega), if_neg (by omega), if_neg (by omega)]) h
  have hcases : i.getD 0 0 = 8 ∨ i.getD 0 0 = 9 ∨ i.getD 0 0 = 10 ∨ i.getD 0 0 = 11 ∨ i.getD 0 0 = 12 ∨ i.getD 0 0 = 13 ∨ i.getD 0 0 = 14 ∨ i.getD 0 0 = 15 ∨ i.getD 0 0 = 16 := by omega
  rcases hcases with ho | ho | ho | ho | ho | ho | ho | ho | ho
  · show ixS _ (IntKind.wrap .i64 (i.getD 0 0 - 8)) 1 _
    rw [ho, show IntKind.wrap .i64 ((8 : Int) - 8) = ((0 : Nat) : Int) by decide]
    refine does_s (g := g46) h (by decide) rfl ?_
    refine ldW_h (g := g1) h (by simp [ints, h5]) ?_
    refine callF_i (d := d_fits_run_fork) (fun _ _ _ => rfl) ?_
    show fits_run_fork (some ⟨gr, 0, none⟩) (agI i) w48 k
    have hpl := (Ck.places_in ha.good.places).2 ho
    have h4 := hck.2.2.2.1 ho
    refine fork_s hS hF hf h5 (isB_of ha.chk ho) h4.1 (by omega) (fun w' hk h => ?_) fun w' sk' c cs hk h => ?_
    · exact h0 _ (by unfold fact; rw [if_pos ho, hk]) h
    · exact h1 _ _ _ _ (by unfold fact; rw [if_pos ho, hk]) h
  · show ixS _ (IntKind.wrap .i64 (i.getD 0 0 - 8)) 1 _
    rw [ho, show IntKind.wrap .i64 ((9 : Int) - 8) = ((1 : Nat) : Int) by decide]
    refine does_s (g := g46) h (by decide) rfl ?_
    refine ldW_h (g := g1) h (by simp [ints, h5]) ?_
    refine callF_i (d := d_fits_run_join) (fun _ _ _ => rfl) ?_
    show fits_run_join (some ⟨gr, 0, none⟩) (agI i) w48 k
    exact hjoin (.inl ho)
  · show ixS _ (IntKind.wrap .i64 (i.getD 0 0 - 8)) 1 _
    rw [ho, show IntKind.wrap .i64 ((10 : Int) - 8) = ((2 : Nat) : Int) by decide]
    refine does_s (g := g46) h (by decide) rfl ?_
    refine ldW_h (g := g1) h (by simp [ints, h5]) ?_
    refine callF_i (d := d_fits_run_join) (fun _ _ _ => rfl) ?_
    show fits_run_join (some ⟨gr, 0, none⟩) (agI i) w48 k
    exact hjoin (.inr ho)
  · show ixS _ (IntKind.wrap .i64 (i.getD 0 0 - 8)) 1 _
    rw [ho, show IntKind.wrap .i64 ((11 : Int) - 8) = ((3 : Nat) : Int) by decide]
    refine does_s (g := g46) h (by decide) rfl ?_
    refine ldW_h (g := g1) h (by simp [ints, h5]) ?_
    refine callF_i (d := d_fits_run_open) (fun _ _ _ => rfl) ?_
    show fits_run_open (some ⟨gr, 0, none⟩) (agI i) w48 k
    have h00 : 0 ≤ ks.headD 0 := by
      have hne := hri.own.ne
      have := (hri.own.le _ (List.head_mem hne)).1
      cases ks with
      | nil => exact absurd rfl hne
      | cons a t => exact this
    refine open_s hS hf (by omega) fun w' h => ?_
    exact h1 _ _ _ _ (by unfold fact; rw [if_neg (by omega), if_neg (by omega), if_pos ho]) h
  · show ixS _ (IntKind.wrap .i64 (i.getD 0 0 - 8)) 1 _
    rw [ho, show IntKind.wrap .i64 ((12 : Int) - 8) = ((4 : Nat) : Int) by decide]
    refine does_s (g := g46) h (by decide) rfl ?_
    refine ldW_h (g := g1) h (by simp [ints, h5]) ?_
    refine callF_i (d := d_fits_run_close) (fun _ _ _ => rfl) ?_
    show fits_run_close (some ⟨gr, 0, none⟩) (agI i) w48 k
    refine close_s hS hf h5 (fun w' hc h => ?_) fun w' c cs hc hb h => ?_
    · refine h0 _ ?_ h
      unfold fact
      rw [if_neg (by omega), if_neg (by omega), if_neg (by omega), if_pos ho]
      rcases hc with hc | ⟨c, cs, hc, hb⟩
      · rw [hc]
      · rw [hc]; dsimp only; rw [if_pos hb]
    · refine h1 _ _ _ _ ?_ h
      unfold fact
      rw [if_neg (by omega), if_neg (by omega), if_neg (by omega), if_pos ho, hc]
      dsimp only
      rw [if_neg (by rw [hb]; decide)]
  · show ixS _ (IntKind.wrap .i64 (i.getD 0 0 - 8)) 1 _
    rw [ho, show IntKind.wrap .i64 ((13 : Int) - 8) = ((5 : Nat) : Int) by decide]
    refine does_s (g := g46) h (by decide) rfl ?_
    refine ldW_h (g := g1) h (by simp [ints, h5]) ?_
    refine callF_i (d := d_fits_run_cancel) (fun _ _ _ => rfl) ?_
    show fits_run_cancel (some ⟨gr, 0, none⟩) (agI i) w48 k
    refine cancel_s hS hf fun w' h => ?_
    exact h1 _ _ _ _ (by unfold fact; rw [if_neg (by omega), if_neg (by omega), if_neg (by omega), if_neg (by omega), if_pos ho]) h
  · show ixS _ (IntKind.wrap .i64 (i.getD 0 0 - 8)) 1 _
    rw [ho, show IntKind.wrap .i64 ((14 : Int) - 8) = ((6 : Nat) : Int) by decide]
    refine does_s (g := g46) h (by decide) rfl ?_
    refine ldW_h (g := g1) h (by simp [ints, h5]) ?_
    refine callF_i (d := d_fits_run_pass) (fun _ _ _ => rfl) ?_
    show fits_run_pass (some ⟨gr, 0, none⟩) (agI i) w48 k
    refine pass_s hS hf fun w' h => ?_
    exact h1 _ _ _ _ (by unfold fact; rw [if_neg (by omega), if_neg (by omega), if_neg (by omega), if_neg (by omega), if_neg (by omega), if_pos ho]) h
  · show ixS _ (IntKind.wrap .i64 (i.getD 0 0 - 8)) 1 _
    rw [ho, show IntKind.wrap .i64 ((15 : Int) - 8) = ((7 : Nat) : Int) by decide]
    refine does_s (g := g46) h (by decide) rfl ?_
    refine ldW_h (g := g1) h (by simp [ints, h5]) ?_
    refine callF_i (d := d_fits_run_leave) (fun _ _ _ => rfl) ?_
    show fits_run_leave (some ⟨gr, 0, none⟩) (agI i) w48 k
    exact hleave (by omega)
  · show ixS _ (IntKind.wrap .i64 (i.getD 0 0 - 8)) 1 _
    rw [ho, show IntKind.wrap .i64 ((16 : Int) - 8) = ((8 : Nat) : Int) by decide]
    refine does_s (g := g46) h (by decide) rfl ?_
    refine ldW_h (g := g1) h (by simp [ints, h5]) ?_
    refine callF_i (d := d_fits_run_leave) (fun _ _ _ => rfl) ?_
    show fits_run_leave (some ⟨gr, 0, none⟩) (agI i) w48 k
    exact hleave (by omega)
end
end Go.Proofs.YtgkfbagclkjilaaGreatDoor.Ft
namespace Go.Proofs.YtgkfbagclkjilaaGreatDoor.Ft
open Go Go.Ev Go.Proofs Go.Proofs.YtgkfbagclkjilaaGreatDoor
open Go.Proofs.YtgkfbagclkjilaaGreatDoor.Fr (fTo fOn fPlain fForked fJoined fClosed fChild fRoot fR isB fTo_len fOn_len fPlain_len fForked_len fJoined_len fClosed_len)
open Go.Proofs.YtgkfbagclkjilaaGreatDoor.Ck (opI Walk Accs needsOf isGoes heldL depths stepD handlesOk subBits scopesOk forks)
section
variable {w0 w : World} {L R : List HP} {gr gb gB gS : Nat} {ps ls sk : Sl} {q : Bool} {row : Int} {r r' : Rn} {b b' : Bk} {i : List Int} {ia : Array Value} {k : Bool → World → Prop} {P : List FnR} {l : List Rb} {Q : Int → Prop} {inn : Int × Int} {n m : Nat} {ks : List Int}
theorem ends_s (hF : Funcs5 w0 ps P) (hT : Tbl w0 ls l) (hA : Accs P) (hri : RI P Q row inn n r b ks) (hb : BI P Q b) (hin : inn = (-1, 0) ∨ (b.sc inn).isSome = true) (hr0 : 0 ≤ row) (hr1 : row < l.length)
    (h : St w0 w (FP gr gb gB gS ps ls q row sk r b R)) (hk : ∀ w', St w0 w' (FP gr gb gB gS ps ls q row sk r b R) → k (fends P q (rowAt l row) r b inn) w') : fits_run_ends (some ⟨gr, 0, none⟩) #[.int .i64 inn.1, .int .i64 inn.2] w k := by
  have hf := hri.fb.len
  unfold fits_run_ends fits_run_ends_b
  unfold fends at hk
  refine newC_h h fun g1 w2 h => ?_
  refine drew_h h fun w3 h => ?_
  refine nn_i ?_
  refine ldP_h (g := gr) (o := 0 + 0) h rfl ?_
  refine nn_i ?_
  refine ldS_h (g := gb) (o := 0 + 1) h rfl ?_
  refine nn_i ?_
  refine ldI_h (g := gr) (o := 0 + 20) h (run_row hf) ?_
  refine tA_h hT h hr0 hr1 fun p hp => ?_
  generalize rowAt l row = x at *
  refine newC_h h fun g12 w13 h2 => ?_
  refine samecT (e := rbV x) (fun j v => hp h) (fun j v => hp h2) (Nat.le_of_eq rbV_len.symm) ?_
  refine samec_h (g := gr) (o := 0 + 20) h h2 (samec_h (g := gb) (o := 0 + 1) h h2 (samec_h (g := gr) (o := 0 + 0) h h2 ?_))
  refine stW_h (g := g12) h2 rfl rfl one_rb fun w14 h => ?_
  have h : St w0 w14 (blk g12 (rbV x) :: blk g1 [.int .i64 inn.1, .int .i64 inn.2] :: FP gr gb gB gS ps ls q row sk r b R) := h
  refine ldI_h (g := g12) (o := 0 + 3) h rfl ?_
  refine joinP_i (fun z w' => z = decide (x.kind = 2 ∨ x.kind = 3) ∧ w' = w14) (fun J hJ => ?_) ?_
  · refine iteB_i (fun hb => hJ _ _ ⟨?_, rfl⟩) fun hb => hJ _ _ ⟨?_, rfl⟩
    · have e : x.kind = 2 := by simpa using hb
      rw [e]; rfl
    · have e : ¬ x.kind = 2 := by simpa using hb
      rw [Bool.eq_iff_iff]; simp [e]
  rintro _ w18 ⟨rfl, rfl⟩
  refine iteB_i (fun hb2 => ?_) fun hb2 => ?_
  · rw [if_pos (of_decide_eq_true hb2)] at hk
    refine drew_h h fun w19 h => ?_
    refine nn_i ?_
    refine ldI_h (g := gr) (o := 0 + 26) h (run_kind hf) ?_
    refine ldI_h (g := g12) (o := 0 + 3) h rfl ?_
    refine iteB_i (fun hb => ?_) fun hb => ?_
    · rw [show (r.kind == x.kind) = true from hb, Bool.true_and] at hk
      refine nn_i ?_
      refine ldI_h (g := gr) (o := 0 + 27) h (run_v hf) ?_
      exact ldI_h (g := g12) (o := 0 + 4) h rfl (hk _ h.drop.drop)
    · rw [show (r.kind == x.kind) = false from hb, Bool.false_and] at hk
      exact hk _ h.drop.drop
  rw [if_neg (of_decide_eq_false hb2)] at hk
  refine iteB_i (fun hb4 => ?_) fun hb4 => by rw [if_neg (by simpa using hb4)] at hk; exact hk _ h.drop.drop
  rw [if_pos (by simpa using hb4)] at hk
  refine joinP_i (fun z w' => ∃ g i e, z = (⟨g, 0, none⟩, e) ∧ i.length = 5 ∧ (r.kind = 0 → i = insAt P r.f ∧ e = 0) ∧ St w0 w' (blk g (ints i) :: blk g12 (rbV x) :: blk g1 [.int .i64 inn.1, .int .i64 inn.2] :: FP gr gb gB gS ps ls q row sk r b R)) (fun J hJ => ?_) ?_
  · refine drew_h h fun w27 h => ?_
    refine nn_i ?_
    refine ldA_h (n := 19) (g := gr) (o := 0 + 1) h (by rw [run_len hf]; decide) ?_
    rw [run_f hf]
    refine nn_i ?_
    refine ldP_h (g := gr) (o := 0 + 0) h rfl ?_
    refine nn_i ?_
    refine ldA_h (n := 1) (g := gb) (o := 0 + 0) h (by simp [bookV]) ?_
    have hnx : ∀ {w' : World} {kk : Array Value × Int → World → Prop}, Ext w0 w' → (∀ i e w'', i.length = 5 → (r.kind = 0 → i = insAt P r.f ∧ e = 0) → Ext w' w'' → kk (agI i, e) w'') → frame_Frame_Next (agI r.f) #[.slice ps.a ps.n ps.c] w' kk := by
      intro w' kk he hkk
      by_cases hk0 : r.kind = 0
      · have hfi := hri.fi hk0
        obtain ⟨g, hv, ha⟩ := hfi.at hA
        obtain ⟨hp0, hp1⟩ := fat_pc ha
        obtain ⟨_, hcd⟩ := hF.code g (List.mem_of_getElem? ha.at0)
        exact next_s (hF.ext he) hf hfi.f0 ha.at0 hp0 ha.ins fun w'' he2 => hkk _ _ _ (hcd.five _ (List.mem_of_getElem? ha.ins)).1 (fun _ => ⟨rfl, rfl⟩) he2
      · exact next_any (hF.ext he) hri.fb fun i e w'' h5 he2 => hkk _ _ _ h5 (fun q => absurd q hk0) he2
    refine ⟨?_, ?_⟩
    · refine hnx h.ext fun i e w10 h5 hie he => ?_
      have h2 := ext_of h he
      refine newC_h h2 fun g11 w12 h2 => ?_
      refine samec_h (g := gb) (o := 0 + 0) h h2 (samec_h (g := gr) (o := 0 + 0) h h2 (samec_h (g := gr) (o := 0 + 1) h h2 ?_))
      refine stW_h (g := g11) h2 rfl (by simp [agI, ints, h5]) (Ck.one_agI _) fun w13 h2 => ?_
      exact hJ _ _ ⟨g11, i, e, rfl, h5, hie, h2⟩
    · refine newC_h h fun g11 w12 h2 => ?_
      refine samec_h (g := gb) (o := 0 + 0) h h2 (samec_h (g := gr) (o := 0 + 0) h h2 (samec_h (g := gr) (o := 0 + 1) h h2 ?_))
      refine hnx h2.ext fun i e w10 h5 hie he => ?_
      have h2 := ext_of h2 he
      refine stW_h (g := g11) h2 rfl (by simp [agI, ints, h5]) (Ck.one_agI _) fun w13 h2 => ?_
      exact hJ _ _ ⟨g11, i, e, rfl, h5, hie, h2⟩
  rintro _ w45 ⟨g, i, e, rfl, h5, hie, h⟩
  refine joinP_i (fun z w' => z = (r.kind != 0 || (q && !(askB b.sc inn))) ∧ St w0 w' (blk g (ints i) :: blk g12 (rbV x) :: blk g1 [.int .i64 inn.1, .int .i64 inn.2] :: FP gr gb gB gS ps ls q row sk r b R)) (fun J hJ => ?_) ?_
  · refine drew_h h fun w47 h => ?_
    refine nn_i ?_
    refine ldI_h (g := gr) (o := 0 + 26) h (run_kind hf) ?_
    refine iteB_i (fun hb => hJ _ _ ⟨by rw [show (r.kind != 0) = true from hb]; rfl, h⟩) fun hb5 => ?_
    rw [show (r.kind != 0) = false from hb5, Bool.false_or] at hJ
    refine nn_i ?_
    refine ldP_h (g := gr) (o := 0 + 0) h rfl ?_
    refine nn_i ?_
    refine ldB_h (g := gb) (o := 0 + 2) h rfl ?_
    refine iteB_i (fun hq => ?_) fun hq => ?_
    · subst hq
      refine nn_i ?_
      refine ldP_h (g := gr) (o := 0 + 0) h rfl ?_
      refine ldW_h (n := 2) (g := g1) h rfl ?_
      refine asked_s (s := inn) (ps := ps) (ls := ls) (q := true) (gB := gB) (gS := gS) h (ask_ex hb.sc hin) fun w58 h => ?_
      exact hJ _ _ ⟨rfl, h⟩
    · subst hq
      exact hJ _ _ ⟨rfl, h⟩
  rintro _ w60 ⟨rfl, h⟩
  refine iteB_i (fun hb6 => ?_) fun hb6 => ?_
  · rw [if_pos hb6] at hk; exact hk _ h.drop.drop.drop
  rw [if_neg (by rw [hb6]; decide)] at hk
  have hk0 : r.kind = 0 := by
    rw [Bool.or_eq_false_iff] at hb6
    simpa using hb6.1
  obtain ⟨ei, ee⟩ := hie hk0
  subst ee
  refine ldI_h (g := g12) (o := 0 + 5) h rfl ?_
  refine iteB_i (fun hb7 => ?_) fun hb7 => ?_
  · rw [show (x.steps == 0) = true from hb7, Bool.true_or] at hk; exact hk _ h.drop.drop.drop
  rw [show (x.steps == 0) = false from hb7, Bool.false_or] at hk
  refine iteB_t rfl ?_
  obtain ⟨g', hv, ha⟩ := (hri.fi hk0).at hA
  have hck := Ck.chk0 ha.chk
  have hop0 : 0 ≤ (insAt P r.f).getD 0 0 := hck.1
  have hop1 : (insAt P r.f).getD 0 0 < 17 := hck.2.1
  refine ldI_h (g := g) (o := 0 + 0) h (ints_getD (by omega)) ?_
  rw [ei]
  refine point_s hop0 hop1 ?_
  exact hk _ h.drop.drop.drop
theorem frun_succ : frun P l q row (n + 1) r b = (match fstp P l q row r b with | none => none | some (r', b') => frun P l q row n r' b') := rfl
theorem frun_add : ∀ {n m : Nat} {r : Rn} {b : Bk}, frun P l q row (n + m) r b = (match frun P l q row n r b with | none => none | some (r', b') => frun P l q row m r' b')
  | 0, m, r, b => by rw [Nat.zero_add]; rfl
  | n + 1, m, r, b => by
    rw [show n + 1 + m = (n + m) + 1 by omega, frun_succ, frun_succ]
    cases fstp P l q row r b with
    | none => rfl
    | some x => exact frun_add
theorem BTo.trans {kids kids' : List Int} {a b c : Bk} (h : BTo row kids a b) (k : BTo row kids' b c) (hs : ∀ i, i ∈ kids' → i ∈ kids) : BTo row kids a c :=
  ⟨fun s hs' => (k.sc s hs').trans (h.sc s hs'), fun s q => k.some s (h.some s q), fun i hi => (k.beg i fun q => hi (hs i q)).trans (h.beg i hi)⟩
theorem frun_ri (hA : Accs P) (hN : ∀ g ∈ P, InI g.needs) (hQ : ∀ j, Q j → (rowAt l j).kind ≤ 4) (h0 : 0 ≤ row) (m : Nat) : ∀ (n : Nat) (r r' : Rn) (b b' : Bk) (ks : List Int), n + m ≤ 1048576 → RI P Q row inn n r b ks → BI P Q b → (∀ k ∈ r.kids, row < k) → frun P l q row m r b = some (r', b') →
    (∃ ks', RI P Q row inn (n + m) r' b' ks') ∧ BI P Q b' ∧ BTo row r.kids b b' ∧ (∃ j, r'.kids = r.kids.drop j) ∧ ∃ j, r'.cl = r.cl.drop j := by
  induction m with
  | zero =>
    intro n r r' b b' ks hn h hb hk hs
    cases hs
    exact ⟨⟨ks, h⟩, hb, BTo.refl _ _ _, ⟨0, rfl⟩, ⟨0, rfl⟩⟩
  | succ m ih =>
    intro n r r' b b' ks hn h hb hk hs
    rw [frun_succ] at hs
    split at hs
    · cases hs
    · rename_i r1 b1 hst
      obtain ⟨_, ⟨ks1, h1⟩, hb1, ht1, ⟨j1, e1⟩, ⟨j2, e2⟩⟩ := fstp_ri hA hN hQ h0 (by omega) h hb hk hst
      have hsub : ∀ i, i ∈ r1.kids → i ∈ r.kids := fun i hi => by rw [e1] at hi; exact List.mem_of_mem_drop hi
      obtain ⟨⟨ks2, h2⟩, hb2, ht2, ⟨j3, e3⟩, ⟨j4, e4⟩⟩ := ih (n + 1) r1 r' b1 b' ks1 (by omega) h1 hb1 (fun k hk' => hk k (hsub k hk')) hs
      refine ⟨⟨ks2, by rw [show n + (m + 1) = n + 1 + m by omega]; exact h2⟩, hb2, ht1.trans ht2 hsub, ⟨j1 + j3, by rw [e3, e1, List.drop_drop]⟩, ⟨j2 + j4, by rw [e4, e2, List.drop_drop]⟩⟩
end
end Go.Proofs.YtgkfbagclkjilaaGreatDoor.Ft
namespace Go.Proofs.YtgkfbagclkjilaaGreatDoor.Ft
open Go Go.Ev Go.Proofs Go.Proofs.YtgkfbagclkjilaaGreatDoor
open Go.Proofs.YtgkfbagclkjilaaGreatDoor.Fr (fTo fOn fPlain fForked fJoined fClosed fChild fRoot fR isB fTo_len fOn_len fPlain_len fForked_len fJoined_len fClosed_len)
open Go.Proofs.YtgkfbagclkjilaaGreatDoor.Ck (opI Walk Accs needsOf isGoes heldL depths stepD handlesOk subBits scopesOk forks)
theorem toAB {x : List Int × (Int × Int)} {c : Array Value → Prop} (h : c (agI (x.1 ++ [x.2.1, x.2.2]))) : toA (evB x) c := h
theorem beg_len {x : List Int × (Int × Int)} (h : x.1.length = 19) : (agI (x.1 ++ [x.2.1, x.2.2])).size = 21 := by simp [agI, ints, h]
abbrev BP (gb gB gS : Nat) (ps ls : Sl) (q : Bool) (b : Bk) (R : List HP) : List HP := blk gb (bookV ps ls q gB gS) :: gm ekI evB gB b.beg :: gm ekP evS gS b.sc :: R
def Z28 (gb : Nat) : List Value := [.pointer (some ⟨gb, 0, none⟩), .int .i64 (0 : Int), .int .i64 (0 : Int), .int .i64 (0 : Int), .int .i64 (0 : Int), .int .i64 (0 : Int), .int .i64 (0 : Int), .int .i64 (0 : Int), .int .i64 (0 : Int), .int .i64 (0 : Int), .int .i64 (0 : Int), .int .i64 (0 : Int), .int .i64 (0 : Int), .int .i64 (0 : Int), .int .i64 (0 : Int), .int .i64 (0 : Int), .int .i64 (0 : Int), .int .i64 (0 : Int), .int .i64 (0 : Int), .int .i64 (0 : Int), .int .i64 (0 : Int), .slice none 0 0, .string (ByteArray.mk #[]), .int .i64 (0 : Int), .int .i64 (0 : Int), .int .i64 (0 : Int), .int .i64 (0 : Int), .int .i64 (0 : Int)]
theorem spl_run0 {gb : Nat} {f : List Int} {x y z u v : Value} {c : Array Value → Prop} (hc : f.length = 19) (h : c (Value.pointer (some ⟨gb, 0, none⟩) :: (ints f ++ [x, y, z, u, v, .int .i64 0, .int .i64 0, .int .i64 0])).toArray) :
    spl (Z28 gb).toArray 1 19 (agI f) fun cs84 => spl (Array.setIfInBounds (Array.setIfInBounds (Array.setIfInBounds cs84 20 x) 21 y) 22 z) 23 2 #[u, v] c := by
  have hl : (ints f).length = 19 := by simp [ints, hc]
  have e1 : (Z28 gb).take 1 ++ (ints f ++ (Z28 gb).drop (1 + 19)) = .pointer (some ⟨gb, 0, none⟩) :: (ints f ++ (Z28 gb).drop 20) := rfl
  have e2 : (((Value.pointer (some ⟨gb, 0, none⟩) :: (ints f ++ (Z28 gb).drop 20)).set 20 x).set 21 y).set 22 z = .pointer (some ⟨gb, 0, none⟩) :: (ints f ++ [x, y, z, .int .i64 0, .int .i64 0, .int .i64 0, .int .i64 0, .int .i64 0]) := by
    simp only [List.set_cons_succ]
    rw [List.set_append_right _ _ (by omega), List.set_append_right _ _ (by omega), List.set_append_right _ _ (by omega), hl]
    rfl
  have e3 : (Value.pointer (some ⟨gb, 0, none⟩) :: (ints f ++ [x, y, z, .int .i64 0, .int .i64 0, .int .i64 0, .int .i64 0, .int .i64 0])).take 23 ++ ([u, v] ++ (Value.pointer (some ⟨gb, 0, none⟩) :: (ints f ++ [x, y, z, .int .i64 0, .int .i64 0, .int .i64 0, .int .i64 0, .int .i64 0])).drop (23 + 2)) = .pointer (some ⟨gb, 0, none⟩) :: (ints f ++ [x, y, z, u, v, .int .i64 0, .int .i64 0, .int .i64 0]) := by
    rw [List.take_succ_cons, List.drop_succ_cons, List.take_append, List.take_of_length_le (by omega : (ints f).length ≤ 22), List.drop_append, List.drop_of_length_le (by omega : (ints f).length ≤ 24), hl]
    simp
  have h2 : spl (Value.pointer (some ⟨gb, 0, none⟩) :: (ints f ++ [x, y, z, .int .i64 0, .int .i64 0, .int .i64 0, .int .i64 0, .int .i64 0])).toArray 23 2 #[u, v] c := spl_V (cs := [u, v]) _ rfl (by simp [hl]) e3 h
  refine spl_V (acc := Z28 gb) (cs := ints f) _ hl (by simp [Z28]) e1 ?_
  rw [List.setIfInBounds_toArray, List.setIfInBounds_toArray, List.setIfInBounds_toArray, e2]
  exact h2
section
variable {w0 w : World} {L R : List HP} {gr gb gB gS : Nat} {ps ls sk : Sl} {q : Bool} {i : Int} {r r' : Rn} {b b' : Bk} {k : Bool → World → Prop} {P : List FnR} {l : List Rb} {Q : Int → Prop} {f : HP → List HP} {φ : Int → Option (List Int × (Int × Int))}
theorem lookB_h {i : Int} {c : Value → World → Prop} (h : St w0 w L) [a : At L (gm ekI evB gB) φ f] (hc : c (evB ((φ i).getD bg0)) w) : Go.Ev.look Go.Proofs.Tryz.prog 86 (.map (some gB)) (.int .i64 i) false w c :=
  gmLook_h (ek := ekI) (ev := evB) (k := i) mapB h hc
theorem fits_s {x0 : List Int × (Int × Int)} (hF : Funcs5 w0 ps P) (hT : Tbl w0 ls l) (hA : Accs P) (hN : ∀ g ∈ P, InI g.needs) (hlen : l.length ≤ 1000000) (hQ0 : ∀ j, Q j → 0 ≤ j ∧ j < l.length) (hQ : ∀ j, Q j → (rowAt l j).kind ≤ 4) (hb : BI P Q b) (h0 : 0 ≤ i) (h1 : i < l.length)
    (hs0 : 0 ≤ (rowAt l i).steps) (hs1 : (rowAt l i).steps ≤ 1048576) (hkQ : ∀ k ∈ kidsL l i, Q k) (hki : ∀ k ∈ kidsL l i, i < k) (hat : b.beg i = some x0) (h : St w0 w (BP gb gB gS ps ls q b R))
    (hk0 : ∀ w', frow P l q i b = none → Ext w0 w' → k false w') (hk1 : ∀ w' b', frow P l q i b = some b' → BI P Q b' → BTo i (kidsL l i) b b' → St w0 w' (BP gb gB gS ps ls q b' R) → k true w') : fits_book_fits (some ⟨gb, 0, none⟩) i w k := by
  have hbat : b.at i = x0 := by unfold Bk.at; rw [hat]; rfl
  obtain ⟨hfi, hin, hlt⟩ := hb.beg i x0 hat
  have hbl : ((b.beg i).getD bg0).1.length = 19 := by rw [hat]; exact hfi.len
  have hbl2 : x0.1.length = 19 := hfi.len
  unfold fits_book_fits fits_book_fits_b
  unfold frow at hk0 hk1
  rw [hbat] at hk0 hk1
  refine joinP_i (fun z w' => ∃ g1 g2, z = (⟨g1, 0, none⟩, ⟨g2, 0, none⟩) ∧ St w0 w' (blk g1 (rbV (rowAt l i)) :: blk g2 (ints (x0.1 ++ [x0.2.1, x0.2.2])) :: BP gb gB gS ps ls q b R)) (fun J hJ0 => ?_) ?_
  · have hJ : ∀ z w', (∃ g1 g2, z = (⟨g1, 0, none⟩, ⟨g2, 0, none⟩) ∧ St w0 w' (blk g1 (rbV (rowAt l i)).toArray.toList :: blk g2 (agI (((b.beg i).getD bg0).1 ++ [((b.beg i).getD bg0).2.1, ((b.beg i).getD bg0).2.2])).toList :: BP gb gB gS ps ls q b R)) → J z w' := by
      intro z w' hz
      rw [hat] at hz
      exact hJ0 z w' hz
    refine drew_h h fun w2 h2 => ?_
    refine nn_i ?_
    refine ldS_h (g := gb) (o := 0 + 1) h2 rfl ?_
    refine tA_h hT h2 h0 h1 fun p hp => ?_
    refine nn_i ?_
    refine ldM_h (g := gb) (o := 0 + 3) h2 rfl ?_
    refine ⟨?_, ?_⟩
    · refine lookB_h h2 ?_
      refine toAB ?_
      refine samec_self ?_
      refine samec_self ?_
      refine ⟨?_, ?_⟩
      · refine newC_h h2 fun g12 w13 h13 => ?_
        refine samec_h (g := gb) (o := 0 + 3) h2 h13 ?_
        refine samecT (e := rbV (rowAt l i)) (fun j v => hp h2) (fun j v => hp h13) (Nat.le_of_eq rbV_len.symm) ?_
        refine samec_h (g := gb) (o := 0 + 1) h2 h13 ?_
        refine newC_h h13 fun g14 w15 h15 => ?_
        refine samec_h (g := gb) (o := 0 + 3) h2 h15 ?_
        refine samecT (e := rbV (rowAt l i)) (fun j v => hp h2) (fun j v => hp h15) (Nat.le_of_eq rbV_len.symm) ?_
        refine samec_h (g := gb) (o := 0 + 1) h2 h15 ?_
        refine stW_h (n := 7) (g := g12) h15 rfl rfl one_rb fun w16 h16 => ?_
        refine samec_h (g := gb) (o := 0 + 3) h2 h16 ?_
        refine stW_h (n := 21) (g := g14) h16 rfl (beg_len hbl) (Ck.one_agI _) fun w17 h17 => ?_
        exact hJ _ _ ⟨g12, g14, rfl, h17.swap⟩
      · refine newC_h h2 fun g18 w19 h19 => ?_
        refine samec_h (g := gb) (o := 0 + 3) h2 h19 ?_
        refine samecT (e := rbV (rowAt l i)) (fun j v => hp h2) (fun j v => hp h19) (Nat.le_of_eq rbV_len.symm) ?_
        refine samec_h (g := gb) (o := 0 + 1) h2 h19 ?_
        refine newC_h h19 fun g20 w21 h21 => ?_
        refine samec_h (g := gb) (o := 0 + 3) h2 h21 ?_
        refine samecT (e := rbV (rowAt l i)) (fun j v => hp h2) (fun j v => hp h21) (Nat.le_of_eq rbV_len.symm) ?_
        refine samec_h (g := gb) (o := 0 + 1) h2 h21 ?_
        refine stW_h (n := 7) (g := g20) h21 rfl rfl one_rb fun w22 h22 => ?_
        refine samec_h (g := gb) (o := 0 + 3) h2 h22 ?_
        refine stW_h (n := 21) (g := g18) h22 rfl (beg_len hbl) (Ck.one_agI _) fun w23 h23 => ?_
        exact hJ _ _ ⟨g20, g18, rfl, h23⟩
    · refine ⟨?_, ?_⟩
      · refine newC_h h2 fun g24 w25 h25 => ?_
        refine samec_h (g := gb) (o := 0 + 3) h2 h25 ?_
        refine samecT (e := rbV (rowAt l i)) (fun j v => hp h2) (fun j v => hp h25) (Nat.le_of_eq rbV_len.symm) ?_
        refine samec_h (g := gb) (o := 0 + 1) h2 h25 ?_
        refine ⟨?_, ?_⟩
        · refine lookB_h h25 ?_
          refine toAB ?_
          refine samecT (e := rbV (rowAt l i)) (fun j v => hp h2) (fun j v => hp h25) (Nat.le_of_eq rbV_len.symm) ?_
          refine samec_h (g := gb) (o := 0 + 1) h2 h25 ?_
          refine newC_h h25 fun g29 w30 h30 => ?_
          refine samec_h (g := gb) (o := 0 + 3) h2 h30 ?_
          refine samecT (e := rbV (rowAt l i)) (fun j v => hp h2) (fun j v => hp h30) (Nat.le_of_eq rbV_len.symm) ?_
          refine samec_h (g := gb) (o := 0 + 1) h2 h30 ?_
          refine stW_h (n := 7) (g := g24) h30 rfl rfl one_rb fun w31 h31 => ?_
          refine samec_h (g := gb) (o := 0 + 3) h2 h31 ?_
          refine stW_h (n := 21) (g := g29) h31 rfl (beg_len hbl) (Ck.one_agI _) fun w32 h32 => ?_
          exact hJ _ _ ⟨g24, g29, rfl, h32.swap⟩
        · refine newC_h h25 fun g33 w34 h34 => ?_
          refine samec_h (g := gb) (o := 0 + 3) h2 h34 ?_
          refine samecT (e := rbV (rowAt l i)) (fun j v => hp h2) (fun j v => hp h34) (Nat.le_of_eq rbV_len.symm) ?_
          refine samec_h (g := gb) (o := 0 + 1) h2 h34 ?_
          refine ⟨?_, ?_⟩
          · refine lookB_h h34 ?_
            refine toAB ?_
            refine samecT (e := rbV (rowAt l i)) (fun j v => hp h2) (fun j v => hp h34) (Nat.le_of_eq rbV_len.symm) ?_
            refine samec_h (g := gb) (o := 0 + 1) h2 h34 ?_
            refine stW_h (n := 7) (g := g24) h34 rfl rfl one_rb fun w38 h38 => ?_
            refine samec_h (g := gb) (o := 0 + 3) h2 h38 ?_
            refine stW_h (n := 21) (g := g33) h38 rfl (beg_len hbl) (Ck.one_agI _) fun w39 h39 => ?_
            exact hJ _ _ ⟨g24, g33, rfl, h39.swap⟩
          · refine stW_h (n := 7) (g := g24) h34 rfl rfl one_rb fun w40 h40 => ?_
            refine samec_h (g := gb) (o := 0 + 3) h2 h40 ?_
            refine lookB_h h40 ?_
            refine toAB ?_
            refine samecT (e := rbV (rowAt l i)) (fun j v => hp h2) (fun j v => hp h40) (Nat.le_of_eq rbV_len.symm) ?_
            refine samec_h (g := gb) (o := 0 + 1) h2 h40 ?_
            refine stW_h (n := 21) (g := g33) h40 rfl (beg_len hbl) (Ck.one_agI _) fun w44 h44 => ?_
            exact hJ _ _ ⟨g24, g33, rfl, h44.swap⟩
      · refine newC_h h2 fun g45 w46 h46 => ?_
        refine samec_h (g := gb) (o := 0 + 3) h2 h46 ?_
        refine samecT (e := rbV (rowAt l i)) (fun j v => hp h2) (fun j v => hp h46) (Nat.le_of_eq rbV_len.symm) ?_
        refine samec_h (g := gb) (o := 0 + 1) h2 h46 ?_
        refine ⟨?_, ?_⟩
        · refine lookB_h h46 ?_
          refine toAB ?_
          refine samecT (e := rbV (rowAt l i)) (fun j v => hp h2) (fun j v => hp h46) (Nat.le_of_eq rbV_len.symm) ?_
          refine samec_h (g := gb) (o := 0 + 1) h2 h46 ?_
          refine newC_h h46 fun g50 w51 h51 => ?_
          refine samec_h (g := gb) (o := 0 + 3) h2 h51 ?_
          refine samecT (e := rbV (rowAt l i)) (fun j v => hp h2) (fun j v => hp h51) (Nat.le_of_eq rbV_len.symm) ?_
          refine samec_h (g := gb) (o := 0 + 1) h2 h51 ?_
          refine stW_h (n := 7) (g := g50) h51 rfl rfl one_rb fun w52 h52 => ?_
          refine samec_h (g := gb) (o := 0 + 3) h2 h52 ?_
          refine stW_h (n := 21) (g := g45) h52 rfl (beg_len hbl) (Ck.one_agI _) fun w53 h53 => ?_
          exact hJ _ _ ⟨g50, g45, rfl, h53⟩
        · refine newC_h h46 fun g54 w55 h55 => ?_
          refine samec_h (g := gb) (o := 0 + 3) h2 h55 ?_
          refine samecT (e := rbV (rowAt l i)) (fun j v => hp h2) (fun j v => hp h55) (Nat.le_of_eq rbV_len.symm) ?_
          refine samec_h (g := gb) (o := 0 + 1) h2 h55 ?_
          refine ⟨?_, ?_⟩
          · refine lookB_h h55 ?_
            refine toAB ?_
            refine samecT (e := rbV (rowAt l i)) (fun j v => hp h2) (fun j v => hp h55) (Nat.le_of_eq rbV_len.symm) ?_
            refine samec_h (g := gb) (o := 0 + 1) h2 h55 ?_
            refine stW_h (n := 7) (g := g54) h55 rfl rfl one_rb fun w59 h59 => ?_
            refine samec_h (g := gb) (o := 0 + 3) h2 h59 ?_
            refine stW_h (n := 21) (g := g45) h59 rfl (beg_len hbl) (Ck.one_agI _) fun w60 h60 => ?_
            exact hJ _ _ ⟨g54, g45, rfl, h60⟩
          · refine stW_h (n := 7) (g := g54) h55 rfl rfl one_rb fun w61 h61 => ?_
            refine samec_h (g := gb) (o := 0 + 3) h2 h61 ?_
            refine lookB_h h61 ?_
            refine toAB ?_
            refine samecT (e := rbV (rowAt l i)) (fun j v => hp h2) (fun j v => hp h61) (Nat.le_of_eq rbV_len.symm) ?_
            refine samec_h (g := gb) (o := 0 + 1) h2 h61 ?_
            refine stW_h (n := 21) (g := g45) h61 rfl (beg_len hbl) (Ck.one_agI _) fun w65 h65 => ?_
            exact hJ _ _ ⟨g54, g45, rfl, h65⟩
  rintro _ w67 ⟨g1, g2, rfl, h⟩
  have hx0 : (ints (x0.1 ++ [x0.2.1, x0.2.2]))[0 + 0 + 0]? = some (.int .i64 (x0.1.getD 0 0)) := by
    have := ints_getD (xs := x0.1 ++ [x0.2.1, x0.2.2]) (i := 0) (by rw [List.length_append]; omega)
    rw [List.getD_eq_getElem?_getD, List.getElem?_append_left (by omega), ← List.getD_eq_getElem?_getD] at this
    exact this
  have hx20 : (ints (x0.1 ++ [x0.2.1, x0.2.2]))[0 + 19 + 1]? = some (.int .i64 x0.2.2) := by
    unfold ints
    rw [List.map_append, List.getElem?_append_right (by simp [hbl2])]
    simp [hbl2]
  have hx19 : (((ints (x0.1 ++ [x0.2.1, x0.2.2])).drop (0 + 19)).take 2).toArray = #[.int .i64 x0.2.1, .int .i64 x0.2.2] := by
    unfold ints
    rw [List.map_append, List.drop_append_of_le_length (by simp [hbl2]), List.drop_of_length_le (by simp [hbl2])]
    rfl
  have hxf : (((ints (x0.1 ++ [x0.2.1, x0.2.2])).drop (0 + 0)).take 19).toArray = agI x0.1 := by
    unfold ints
    rw [List.map_append, List.drop_zero, List.take_append_of_le_length (by simp [hbl2]), List.take_of_length_le (by simp [hbl2])]
  have hxl : (ints (x0.1 ++ [x0.2.1, x0.2.2])).length = 21 := by simp [ints, hbl2]
  refine joinP_i (fun z w' => z = decide ((rowAt l i).fn ≠ x0.1.getD 0 0 ∨ (rowAt l i).inn ≠ x0.2.2) ∧ w' = w67) (fun J hJ => ?_) ?_
  · refine ldI_h (g := g1) (o := 0 + 2) h rfl ?_
    refine ldI_h (g := g2) (o := 0 + 0 + 0) h hx0 ?_
    refine iteB_i (fun hb => hJ _ _ ⟨?_, rfl⟩) fun hb => ?_
    · have : (rowAt l i).fn ≠ x0.1.getD 0 0 := by simpa using hb
      exact (decide_eq_true (.inl this)).symm
    · have hb : (rowAt l i).fn = x0.1.getD 0 0 := by simpa using hb
      refine ldI_h (g := g1) (o := 0 + 1) h rfl ?_
      refine ldI_h (g := g2) (o := 0 + 19 + 1) h hx20 ?_
      refine hJ _ _ ⟨?_, rfl⟩
      rw [Bool.eq_iff_iff]; simp [hb]
  rintro _ w74 ⟨rfl, rfl⟩
  refine iteB_i (fun hb1 => ?_) fun hb1 => ?_
  · rw [if_pos (of_decide_eq_true hb1)] at hk0; exact hk0 _ rfl h.ext
  rw [if_neg (of_decide_eq_false hb1)] at hk0 hk1
  refine ldI_h (g := g1) (o := 0 + 3) h rfl ?_
  refine iteB_i (fun hb2 => ?_) fun hb2 => ?_
  · rw [if_pos (by simpa using hb2)] at hk1; exact hk1 _ _ rfl hb (BTo.refl _ _ _) h.drop.drop
  rw [if_neg (by simpa using hb2)] at hk0 hk1
  refine joinP_i (fun z w' => ∃ g sk, z = some ⟨g, 0, none⟩ ∧ St w0 w' (blk g (runV gb i sk (rn0 l i x0)) :: slc 1 sk (ints (kidsL l i)) :: blk g1 (rbV (rowAt l i)) :: blk g2 (ints (x0.1 ++ [x0.2.1, x0.2.2])) :: BP gb gB gS ps ls q b R)) (fun J hJ0 => ?_) ?_
  · have hJ : ∀ z w', (∃ g sk, z = some ⟨g, 0, none⟩ ∧ St w0 w' (blk g (.pointer (some ⟨gb, 0, none⟩) :: (ints x0.1 ++ [.int .i64 i, .slice sk.a sk.n sk.c, .string (rowAt l i).cl, .int .i64 i, .int .i64 0, .int .i64 0, .int .i64 0, .int .i64 0])) :: slc 1 sk (ints (kidsL l i)) :: blk g1 (rbV (rowAt l i)) :: blk g2 (ints (x0.1 ++ [x0.2.1, x0.2.2])) :: BP gb gB gS ps ls q b R)) → J z w' := by
      rintro z w' ⟨g, sk, hz, hS⟩
      refine hJ0 z w' ⟨g, sk, hz, ?_⟩
      have ec : ByteArray.mk (rowAt l i).cl.data.toList.toArray = (rowAt l i).cl := by rw [Array.toArray_toList]
      unfold runV rn0
      dsimp only
      rw [ec]
      exact hS
    refine drew_h h fun w77 h => ?_
    refine ldA_h (n := 19) (g := g2) (o := 0 + 0) h (by rw [hxl]; decide) ?_
    rw [hxf]
    refine nn_i ?_
    refine ldS_h (g := gb) (o := 0 + 1) h rfl ?_
    refine ldStr_h (g := g1) (o := 0 + 6) h rfl ?_
    refine ⟨?_, ?_⟩
    · refine Kids_s hT h hlen fun sk w83 h2 hn => ?_
      refine samec_h (g := g1) (o := 0 + 6) h h2 (samec_h (g := g2) (o := 0 + 0) h h2 (samec_h (g := g1) (o := 0 + 6) h h2 (samec_h (g := gb) (o := 0 + 1) h h2 (samec_h (g := g2) (o := 0 + 0) h h2 ?_))))
      refine spl_run0 hbl2 ?_
      refine newC_h h2 fun g w87 h2 => ?_
      exact hJ _ _ ⟨g, sk, rfl, h2⟩
    · refine samec_self (samec_self (samec_self ?_))
      refine Kids_s hT h hlen fun sk w83 h2 hn => ?_
      refine samec_h (g := g1) (o := 0 + 6) h h2 (samec_h (g := g2) (o := 0 + 0) h h2 ?_)
      refine spl_run0 hbl2 ?_
      refine newC_h h2 fun g w87 h2 => ?_
      exact hJ _ _ ⟨g, sk, rfl, h2⟩
  rintro _ w95 ⟨gr, sk, rfl, h⟩
  have hrf : (rn0 l i x0).f.length = 19 := hbl2
  refine drew_h h fun w96 h => ?_
  refine nn_i ?_
  refine ldM_h (g := gb) (o := 0 + 4) h rfl ?_
  refine nn_i ?_
  refine ldA_h (n := 2) (g := gr) (o := 0 + 23) h (by rw [run_len hrf]; decide) ?_
  rw [run_last hrf]
  refine ldA_h (n := 2) (g := g2) (o := 0 + 19) h (by rw [hxl]; decide) ?_
  rw [hx19]
  refine spl_V (acc := [.int .i64 0, .int .i64 0, .bool false]) (cs := [.int .i64 x0.2.1, .int .i64 x0.2.2]) [.int .i64 x0.2.1, .int .i64 x0.2.2, .bool false] rfl (by simp) rfl ?_
  refine samec_self (samec_self ?_)
  refine gmPut_h (ek := ekP) (ev := evS) (k := (i, 0)) (y := (x0.2, false)) mapS h fun w103 h => ?_
  generalize hbb : ({ b with sc := upd b.sc (i, 0) (x0.2, false) } : Bk) = bb at hk0 hk1
  have hbs : bb.sc = upd b.sc (i, 0) (x0.2, false) := by rw [← hbb]
  have hbg : bb.beg = b.beg := by rw [← hbb]
  have h : St w0 w103 (FP gr gb gB gS ps ls q i sk (rn0 l i x0) bb (blk g1 (rbV (rowAt l i)) :: blk g2 (ints (x0.1 ++ [x0.2.1, x0.2.2])) :: R)) := by
    unfold FP
    rw [hbs, hbg]
    exact h.perm (by repeat' (first | exact List.Perm.refl _ | refine perm_f 0 rfl ?_ | refine perm_f 1 rfl ?_ | refine perm_f 2 rfl ?_ | refine perm_f 3 rfl ?_ | refine perm_f 4 rfl ?_ | refine perm_f 5 rfl ?_ | refine perm_f 6 rfl ?_ | refine perm_f 7 rfl ?_))
  have hsc : ScI bb.sc := by
    rw [hbs]
    exact hb.sc.upd_of ⟨h0, Int.le_refl _⟩ (hin.imp id fun q => ⟨q, .inl hlt⟩)
  have hBI : BI P Q bb := ⟨hsc, fun j y hy => by
    rw [hbg] at hy
    obtain ⟨a1, a2, a3⟩ := hb.beg j y hy
    exact ⟨a1, a2.imp id fun q => by rw [hbs]; exact isSome_upd q, a3⟩⟩
  have hRI : RI P Q i x0.2 0 (rn0 l i x0) bb [0] := by
    refine ⟨hfi.b, fun _ => hfi, ⟨rfl, false, ?_⟩, rfl, ⟨Int.le_refl _, Int.le_refl _⟩, hkQ⟩
    rw [hbs]; unfold upd; rw [if_pos rfl]
  have hTo : BTo i (kidsL l i) b bb := by rw [← hbb]; exact bto_sc
  have hin2 : ∀ b', BTo i (kidsL l i) bb b' → x0.2 = (-1, 0) ∨ (b'.sc x0.2).isSome = true := fun b' ht => hin.imp id fun q => ht.some _ (by rw [hbs]; exact isSome_upd q)
  generalize hsn : (rowAt l i).steps.toNat = n at hk0 hk1
  have hst : (rowAt l i).steps = n := by omega
  have hn : n ≤ 1048576 := by omega
  refine loopP_of (fun (x : (Bool × Int) × List Nat) w' => ∃ (j : Nat) (sk : Sl) (r : Rn) (b' : Bk), x = ((false, (j : Int)), []) ∧ j ≤ n ∧ St w0 w' (FP gr gb gB gS ps ls q i sk r b' (blk g1 (rbV (rowAt l i)) :: blk g2 (ints (x0.1 ++ [x0.2.1, x0.2.2])) :: R)) ∧ frun P l q i j (rn0 l i x0) bb = some (r, b')) (fun x _ => n - x.1.2.toNat) ⟨0, sk, rn0 l i x0, bb, rfl, by omega, h, rfl⟩ ?_
  rintro _ w106 ⟨j, sk, r, b', rfl, hj, h, hrun⟩ C hC
  obtain ⟨⟨ks, hri⟩, hbi, hto, _, _⟩ := frun_ri hA hN hQ h0 j 0 _ _ _ _ _ (by omega) hRI hBI hki hrun
  rw [Nat.zero_add] at hri
  have hf := hri.fb.len
  refine ldI_h (g := g1) (o := 0 + 5) h rfl ?_
  rw [hst]
  refine iteB_i (fun hb => ?_) fun hb => ?_
  · have hlt : j < n := by have := of_decide_eq_true hb; dsimp only at this; omega
    have hadd := frun_add (P := P) (l := l) (q := q) (row := i) (n := j) (m := n - j) (r := rn0 l i x0) (b := bb)
    rw [show j + (n - j) = n by omega, hrun] at hadd
    obtain ⟨m, hm⟩ : ∃ m, n - j = m + 1 := ⟨n - j - 1, by omega⟩
    rw [hm] at hadd
    dsimp only at hadd
    rw [frun_succ] at hadd
    refine step_s hF hT hA hri hQ0 (by omega) h (fun w' hs h => ?_) fun w' sk' r' b2 hs h => ?_
    · rw [hs] at hadd
      refine iteB_t rfl ?_
      show k false w'
      rw [hadd] at hk0
      exact hk0 _ rfl h.ext
    · refine iteB_f rfl ?_
      have ew : IntKind.wrap .i64 ((j : Int) + 1) = ((j + 1 : Nat) : Int) := by rw [wrap_id ⟨by omega, by omega⟩]; simp
      dsimp only
      rw [ew]
      refine hC _ _ ⟨j + 1, sk', r', b2, rfl, by omega, h, ?_⟩ (by dsimp only; omega)
      rw [frun_add, hrun]
      dsimp only
      rw [frun_succ, hs]; rfl
  · have hjn : j = n := by have := of_decide_eq_false hb; dsimp only at this; omega
    subst hjn
    rw [hrun] at hk0 hk1
    dsimp only at hk0 hk1
    have hsl := h.slen (sz := 1) (s := sk)
    have hskn : sk.n = r.kids.length := by simp [ints] at hsl; omega
    have hclz : (strEqB (ByteArray.mk r.cl.toArray) (ByteArray.mk #[])) = decide (r.cl.length = 0) := by
      rw [strEq_nil, sz_list, Bool.eq_iff_iff]; simp
    refine joinP_i (fun z w' => z = decide (r.kids.length = 0 ∧ r.cl.length = 0 ∧ fends P q (rowAt l i) r b' x0.2 = true) ∧ St w0 w' (BP gb gB gS ps ls q b' R)) (fun J hJ => ?_) ?_
    · have hS : ∀ {w'}, St w0 w' (FP gr gb gB gS ps ls q i sk r b' (blk g1 (rbV (rowAt l i)) :: blk g2 (ints (x0.1 ++ [x0.2.1, x0.2.2])) :: R)) → St w0 w' (BP gb gB gS ps ls q b' R) := fun h => ((h.rm 6 rfl).rm 5 rfl |>.rm 4 rfl |>.rm 0 rfl)
      refine nn_i ?_
      refine ldS_h (g := gr) (o := 0 + 21) h (run_kids hf) ?_
      rw [hskn]
      refine iteB_i (fun hb => ?_) fun hb => ?_
      · have hb : r.kids.length = 0 := by have : ((r.kids.length : Nat) : Int) = 0 := by simpa using hb
                                          omega
        refine nn_i ?_
        refine ldStr_h (g := gr) (o := 0 + 22) h (run_cl hf) ?_
        rw [hclz]
        refine iteB_i (fun hb2 => ?_) fun hb2 => ?_
        · refine ldA_h (n := 2) (g := g2) (o := 0 + 19) h (by rw [hxl]; decide) ?_
          rw [hx19]
          refine ends_s hF hT hA hri hbi (hin2 _ hto) h0 h1 h fun w118 h => ?_
          refine hJ _ _ ⟨?_, hS h⟩
          rw [Bool.eq_iff_iff]; simp [hb, of_decide_eq_true hb2]
        · refine hJ _ _ ⟨?_, hS h⟩
          rw [Bool.eq_iff_iff]; simp; exact fun _ q => absurd (by rw [q]; rfl) (of_decide_eq_false hb2)
      · refine hJ _ _ ⟨?_, hS h⟩
        have hb : ¬ r.kids.length = 0 := by have : ¬ ((r.kids.length : Nat) : Int) = 0 := by simpa using hb
                                            omega
        rw [Bool.eq_iff_iff]; simp; exact fun q => absurd (by rw [q]; rfl) hb
    rintro _ w120 ⟨rfl, h⟩
    show k _ w120
    by_cases hfin : r.kids.length = 0 ∧ r.cl.length = 0 ∧ fends P q (rowAt l i) r b' x0.2 = true
    · rw [decide_eq_true hfin]
      exact hk1 _ b' (by rw [if_pos hfin]) hbi (hTo.trans hto fun _ q => q) h
    · rw [decide_eq_false hfin]
      exact hk0 _ (by rw [if_neg hfin]) h.ext
end
end Go.Proofs.YtgkfbagclkjilaaGreatDoor.Ft
namespace Go.Proofs.YtgkfbagclkjilaaGreatDoor.Ft
open Go Go.Ev Go.Proofs Go.Proofs.YtgkfbagclkjilaaGreatDoor
open Go.Proofs.YtgkfbagclkjilaaGreatDoor.Fr (fTo fOn fPlain fForked fJoined fClosed fChild fRoot fR isB fTo_len fOn_len fPlain_len fForked_len fJoined_len fClosed_len)
open Go.Proofs.YtgkfbagclkjilaaGreatDoor.Ck (opI Walk Accs needsOf isGoes heldL depths stepD handlesOk subBits scopesOk forks)
section
variable {P : List FnR} {l : List Rb} {q : Bool} {row i : Int} {r r' : Rn} {b b' : Bk} {Q : Int → Prop}
structure Kd (r : Rn) (b : Bk) (r' : Rn) (b' : Bk) : Prop where
  keep : ∀ k, (b.beg k).isSome = true → (b'.beg k).isSome = true
  kids : ∀ k ∈ r.kids, k ∈ r'.kids ∨ (b'.beg k).isSome = true
theorem Kd.refl (e : r'.kids = r.kids) (e2 : b'.beg = b.beg) : Kd r b r' b' := ⟨fun k h => by rw [e2]; exact h, fun k h => .inl (by rw [e]; exact h)⟩
theorem Kd.trans {r2 : Rn} {b2 : Bk} (h : Kd r b r' b') (k : Kd r' b' r2 b2) : Kd r b r2 b2 :=
  ⟨fun j q => k.keep j (h.keep j q), fun j q => by rcases h.kids j q with q | q; · exact k.kids j q
                                                   · exact .inr (k.keep j q)⟩
theorem fact_kd {x : List Int} (hs : fact P l q row x r b = some (r', b')) : Kd r b r' b' := by
  unfold fact at hs
  split at hs
  · split at hs
    · cases hs
    · rename_i k ks hk
      cases hs
      refine ⟨fun j hj => isSome_upd hj, fun j hj => ?_⟩
      rw [hk] at hj
      rcases List.mem_cons.1 hj with rfl | hj
      · right; show (upd b.beg _ _ _).isSome = true; unfold upd; rw [if_pos rfl]; rfl
      · exact .inl hj
  split at hs
  · split at hs
    · cases hs
    split at hs
    · cases hs; exact .refl rfl rfl
    · cases hs; exact .refl rfl rfl
  split at hs
  · cases hs; exact .refl rfl rfl
  split at hs
  · split at hs
    · cases hs
    split at hs
    · cases hs
    · cases hs; exact .refl rfl rfl
  split at hs
  · cases hs; exact .refl rfl rfl
  split at hs
  · cases hs; exact .refl rfl rfl
  · cases hs; exact .refl rfl rfl
theorem fstp_kd (hs : fstp P l q row r b = some (r', b')) : Kd r b r' b' := by
  unfold fstp at hs
  split at hs
  · cases hs
  split at hs
  · cases hs; exact .refl rfl rfl
  · exact fact_kd hs
theorem frun_kd : ∀ {n : Nat} {r r' : Rn} {b b' : Bk}, frun P l q row n r b = some (r', b') → Kd r b r' b'
  | 0, r, r', b, b', h => by cases h; exact .refl rfl rfl
  | n + 1, r, r', b, b', h => by
    rw [frun_succ] at h
    split at h
    · cases h
    · rename_i r1 b1 hst
      exact (fstp_kd hst).trans (frun_kd h)
def Known (l : List Rb) (j : Int) (b : Bk) : Prop := ∀ m : Int, 0 ≤ m → m < l.length → (m = 0 ∨ (rowAt l m).par < j) → (b.beg m).isSome = true
theorem row_par (h : TRow l i) (hi : i ≠ 0) (h0 : 0 ≤ i) : 0 ≤ (rowAt l i).par ∧ (rowAt l i).par < i ∧ (rowAt l (rowAt l i).par).kind ≠ 0 := by
  have hp := h.place
  have hst := h.state
  unfold tPlace at hp
  rw [if_neg hi] at hp
  simp only [Bool.and_eq_true, decide_eq_true_eq] at hp
  unfold tState at hst
  simp only [Bool.and_eq_true, Bool.or_eq_true] at hst
  refine ⟨hp.1, hp.2.1, ?_⟩
  rcases hst.2.2 with e | e
  · exact absurd (by simpa using e) hi
  · simpa using e.1
theorem row_span (h : TRow l i) : 0 ≤ (rowAt l i).inn ∧ 0 ≤ (rowAt l i).fn ∧ (rowAt l i).fn < 32 ∧ 0 ≤ (rowAt l i).kind ∧ (rowAt l i).kind ≤ 4 ∧ 0 ≤ (rowAt l i).steps ∧ (rowAt l i).steps ≤ 1048576 := by
  have hp := h.span
  unfold tSpan at hp
  simp only [Bool.and_eq_true, decide_eq_true_eq] at hp
  exact ⟨hp.1, hp.2.2.1, hp.2.2.2.1, hp.2.2.2.2.1, hp.2.2.2.2.2.1, hp.2.2.2.2.2.2.1, hp.2.2.2.2.2.2.2⟩
theorem tr_int (hT : ∀ i : Nat, i < l.length → TRow l i) (h0 : 0 ≤ i) (h1 : i < l.length) : TRow l i := by
  have := hT i.toNat (by omega)
  rwa [Int.toNat_of_nonneg h0] at this
theorem kids_gt (hT : ∀ i : Nat, i < l.length → TRow l i) : ∀ k ∈ kidsL l i, 0 ≤ i → i < k := by
  intro k hk h0
  obtain ⟨h1, h2, h3⟩ := mem_kids.1 hk
  have ht := tr_int hT h1 h2
  by_cases e : k = 0
  · have hp := ht.place
    unfold tPlace at hp
    rw [if_pos e] at hp
    have : (rowAt l k).par = -1 := by simpa using hp
    omega
  · have := row_par ht e h1; omega
theorem frow_kd (h : frow P l q i b = some b') : ∀ k, (b.beg k).isSome = true → (b'.beg k).isSome = true := by
  unfold frow at h
  split at h
  · cases h
  split at h
  · cases h; exact fun _ h => h
  split at h
  · cases h
  · rename_i r b2 hrun
    split at h
    · cases h; exact (frun_kd hrun).keep
    · cases h
theorem frow_known (hT : ∀ i : Nat, i < l.length → TRow l i) (h0 : 0 ≤ i) (hK : Known l i b) (h : frow P l q i b = some b') : Known l (i + 1) b' := by
  intro m hm0 hm1 hm
  have hkeep := frow_kd h m
  by_cases e : m = 0 ∨ (rowAt l m).par < i
  · exact hkeep (hK m hm0 hm1 e)
  have hmp : (rowAt l m).par = i := by omega
  have hm0' : m ≠ 0 := fun e' => e (.inl e')
  have hpk := (row_par (tr_int hT hm0 hm1) hm0' hm0).2.2
  rw [hmp] at hpk
  have hmk : m ∈ kidsL l i := mem_kids.2 ⟨hm0, hm1, hmp⟩
  unfold frow at h
  split at h
  · cases h
  try rw [if_neg hpk] at h
  split at h
  · cases h
  · rename_i r b2 hrun
    split at h
    · rename_i hf
      cases h
      rcases (frun_kd hrun).kids m hmk with hq | hq
      · have : r.kids = [] := List.eq_nil_of_length_eq_zero hf.1
        rw [this] at hq; cases hq
      · exact hq
    · cases h
theorem fi_root (hA : Accs P) (hN : ∀ g ∈ P, InI g.needs) : FI P Q fRoot 0 := by
  obtain ⟨g, hg⟩ : ∃ g, P[0]? = some g := ⟨_, List.getElem?_eq_getElem hA.n0⟩
  have hgm := List.mem_of_getElem? hg
  have hnd : g.needs = 0 := by rw [← Ck.needs_get (P := P) (n := 0) (f := g) (by simpa using hg)]; exact hA.root
  refine ⟨rfl, by decide, g, hg, 0, ?_, fun h hh ht => ?_⟩
  · have := Ck.walk_start (hA.all g hgm) (hN g hgm)
    rw [hnd] at this
    exact this
  · exfalso
    have : ∀ k : Nat, k < 8 → tb 0 k = false := by decide
    rw [this h hh] at ht; cases ht
theorem bi_root (hA : Accs P) (hN : ∀ g ∈ P, InI g.needs) : BI P Q bk0 := by
  refine ⟨⟨fun s x hx => by cases hx⟩, fun i x hx => ?_⟩
  unfold bk0 upd at hx
  dsimp only at hx
  split at hx
  · rename_i e
    cases hx
    exact ⟨fi_root hA hN, .inl rfl, by rw [e]; decide⟩
  · cases hx
theorem known_root (hT : ∀ i : Nat, i < l.length → TRow l i) : Known l 0 bk0 := by
  intro m h0 h1 hm
  have hz : m = 0 := by
    rcases hm with e | e
    · exact e
    · by_cases e0 : m = 0
      · exact e0
      · have := row_par (tr_int hT h0 h1) e0 h0; omega
  subst hz
  rfl
end
end Go.Proofs.YtgkfbagclkjilaaGreatDoor.Ft
namespace Go.Proofs.YtgkfbagclkjilaaGreatDoor.Ft
open Go Go.Ev Go.Proofs Go.Proofs.YtgkfbagclkjilaaGreatDoor
open Go.Proofs.YtgkfbagclkjilaaGreatDoor.Fr (fTo fOn fPlain fForked fJoined fClosed fChild fRoot fR isB fTo_len fOn_len fPlain_len fForked_len fJoined_len fClosed_len)
open Go.Proofs.YtgkfbagclkjilaaGreatDoor.Ck (opI Walk Accs needsOf isGoes heldL depths stepD handlesOk subBits scopesOk forks)
section
variable {w0 w : World} {L R : List HP} {gr gb gB gS : Nat} {ps ls sk : Sl} {q : Bool} {i : Int} {r r' : Rn} {b b' : Bk} {P : List FnR} {l : List Rb} {Q : Int → Prop} {f : HP → List HP} {φ : Int → Option (List Int × (Int × Int))}
theorem newBook_h {t : TypeId} {c : Addr → World → Prop} (h : St w0 w L) (hc : ∀ g w', St w0 w' (blk g (bookV ps ls q gB gS) :: L) → c ⟨g, 0, none⟩ w') :
    newC w (Array.setIfInBounds (Array.setIfInBounds (Array.setIfInBounds (Array.setIfInBounds #[.slice ps.a ps.n ps.c, .slice none 0 0, .bool false, .map none, .map none] 1 (.slice ls.a ls.n ls.c)) 2 (.bool q)) 3 (.map (some gB))) 4 (.map (some gS))) t c :=
  newC_h h hc
theorem spl_book {c : Array Value → Prop} (hc : c #[.slice ps.a ps.n ps.c, .slice none 0 0, .bool false, .map none, .map none]) : spl #[(.slice none 0 0), (.slice none 0 0), (.bool false), (.map none), (.map none)] 0 1 #[.slice ps.a ps.n ps.c] c :=
  spl_V (acc := [.slice none 0 0, .slice none 0 0, .bool false, .map none, .map none]) (cs := [.slice ps.a ps.n ps.c]) [.slice ps.a ps.n ps.c, .slice none 0 0, .bool false, .map none, .map none] rfl (by simp) rfl hc
theorem fgo_zero : fgo P l q 0 i b = (0, 0) := rfl
theorem fgo_succ {n : Nat} : fgo P l q (n + 1) i b = (match frow P l q i b with | none => (i, 25) | some b' => fgo P l q n (i + 1) b') := rfl
theorem row2_s {ga : Nat} {k : Bool → World → Prop} {Y : List HP} (h : St w0 w (blk ga [.pointer (some ⟨gb, 0, none⟩)] :: Y)) (hc : fits_book_fits (some ⟨gb, 0, none⟩) i w k) : fits_all_2 i ⟨ga, 0, none⟩ w k := by
  unfold fits_all_2 fits_all_2_b
  exact ldP_h (g := ga) h rfl hc
theorem fa_0_s {w w12 w25 : World} {J : Addr → World → Prop} {g1 g3 g15 g24 : Nat} {ps ls : Sl} {q : Bool} (hJ : ∀ z w', (∃ ga gb gB gS, z = (⟨ga, 0, none⟩ : Addr) ∧ St w w' [blk ga [.pointer (some ⟨gb, 0, none⟩)], blk gb (bookV ps ls q gB gS), gm ekI evB gB (fun q => if q = 0 then some (fRoot, (-1, 0)) else none), gm ekP evS gS (fun _ => none), blk g3 [.slice ls.a ls.n ls.c], blk g1 [.slice ps.a ps.n ps.c]]) → J z w') (hRl : fRoot.length = 19) (h12 : St w w12 [blk g3 [.slice ls.a ls.n ls.c], blk g1 [.slice ps.a ps.n ps.c]]) (h : St w w25 [gm ekI evB g15 (fun q => if q = 0 then some (fRoot, (-1, 0)) else none), gm ekP evS g24 (fun _ => none), blk g3 [.slice ls.a ls.n ls.c], blk g1 [.slice ps.a ps.n ps.c]]) : fa_0 #[.slice ps.a ps.n ps.c] w25 ⟨ls.a, ls.n, ls.c⟩ q (some g15) (some g24) ⟨g3, 0, none⟩ w12 ⟨g1, 0, none⟩ J := by
  unfold fa_0
  refine ⟨?_, ?_⟩
  · refine spl_book ?_
    refine ⟨?_, ?_⟩
    · refine newBook_h (gB := g15) (gS := g24) h fun g27 w28 h28 => ?_
      refine newC_h h28 fun g29 w30 h30 => ?_
      refine samec_h (g := g3) (o := 0) h12 h30 ?_
      refine samec_h (g := g1) (o := 0) h12 h30 ?_
      refine stC_h (g := g29) h30 rfl (by decide) fun w31 h31 => ?_
      exact hJ _ _ ⟨g29, g27, g15, g24, rfl, h31.perm (perm_f 0 rfl (perm_f 0 rfl (perm_f 0 rfl (perm_f 0 rfl (perm_f 0 rfl (perm_f 0 rfl (.refl _)))))))⟩
    · refine newC_h h fun g32 w33 h33 => ?_
      refine samec_h (g := g3) (o := 0) h12 h33 ?_
      refine samec_h (g := g1) (o := 0) h12 h33 ?_
      refine newBook_h (gB := g15) (gS := g24) h33 fun g34 w35 h35 => ?_
      refine stC_h (g := g32) h35 rfl (by decide) fun w36 h36 => ?_
      exact hJ _ _ ⟨g32, g34, g15, g24, rfl, h36.perm (perm_f 1 rfl (perm_f 0 rfl (perm_f 0 rfl (perm_f 0 rfl (perm_f 0 rfl (perm_f 0 rfl (.refl _)))))))⟩
  · refine newC_h h fun g37 w38 h38 => ?_
    refine samec_h (g := g3) (o := 0) h12 h38 ?_
    refine samec_h (g := g1) (o := 0) h12 h38 ?_
    refine spl_book ?_
    refine newBook_h (gB := g15) (gS := g24) h38 fun g40 w41 h41 => ?_
    refine stC_h (g := g37) h41 rfl (by decide) fun w42 h42 => ?_
    exact hJ _ _ ⟨g37, g40, g15, g24, rfl, h42.perm (perm_f 1 rfl (perm_f 0 rfl (perm_f 0 rfl (perm_f 0 rfl (perm_f 0 rfl (perm_f 0 rfl (.refl _)))))))⟩
theorem fa_1_s {w w12 w52 : World} {J : Addr → World → Prop} {g1 g3 g15 g51 : Nat} {ps ls : Sl} {q : Bool} (hJ : ∀ z w', (∃ ga gb gB gS, z = (⟨ga, 0, none⟩ : Addr) ∧ St w w' [blk ga [.pointer (some ⟨gb, 0, none⟩)], blk gb (bookV ps ls q gB gS), gm ekI evB gB (fun q => if q = 0 then some (fRoot, (-1, 0)) else none), gm ekP evS gS (fun _ => none), blk g3 [.slice ls.a ls.n ls.c], blk g1 [.slice ps.a ps.n ps.c]]) → J z w') (hRl : fRoot.length = 19) (h12 : St w w12 [blk g3 [.slice ls.a ls.n ls.c], blk g1 [.slice ps.a ps.n ps.c]]) (h : St w w52 [gm ekI evB g15 (fun _ => none), gm ekP evS g51 (fun _ => none), blk g3 [.slice ls.a ls.n ls.c], blk g1 [.slice ps.a ps.n ps.c]]) : fa_1 (some g15) (agI (fRoot ++ [-1, 0])) w52 ⟨g3, 0, none⟩ w12 ⟨g1, 0, none⟩ #[.slice ps.a ps.n ps.c] ⟨ls.a, ls.n, ls.c⟩ q (some g51) J := by
  unfold fa_1
  refine ⟨?_, ?_⟩
  · refine gmPut_h (ek := ekI) (ev := evB) (k := 0) (y := (fRoot, (-1, 0))) mapB h fun w53 h53 => ?_
    refine samec_h (g := g3) (o := 0) h12 h53 ?_
    refine samec_h (g := g1) (o := 0) h12 h53 ?_
    exact fa_0_s hJ hRl h12 (h53.perm (perm_f 0 rfl (perm_f 0 rfl (perm_f 0 rfl (perm_f 0 rfl (.refl _))))))
  · refine newC_h h fun g71 w72 h72 => ?_
    refine samec_h (g := g3) (o := 0) h12 h72 ?_
    refine samec_h (g := g1) (o := 0) h12 h72 ?_
    refine gmPut_h (ek := ekI) (ev := evB) (k := 0) (y := (fRoot, (-1, 0))) mapB h72 fun w73 h73 => ?_
    refine samec_h (g := g3) (o := 0) h12 h73 ?_
    refine samec_h (g := g1) (o := 0) h12 h73 ?_
    refine spl_book ?_
    refine newBook_h (gB := g15) (gS := g51) h73 fun g75 w76 h76 => ?_
    refine stC_h (g := g71) h76 rfl (by decide) fun w77 h77 => ?_
    exact hJ _ _ ⟨g71, g75, g15, g51, rfl, h77.perm (perm_f 1 rfl (perm_f 0 rfl (perm_f 0 rfl (perm_f 0 rfl (perm_f 0 rfl (perm_f 0 rfl (.refl _)))))))⟩
theorem fa_2_s {w w12 w79 : World} {J : Addr → World → Prop} {g1 g3 g15 g78 : Nat} {ps ls : Sl} {q : Bool} (hJ : ∀ z w', (∃ ga gb gB gS, z = (⟨ga, 0, none⟩ : Addr) ∧ St w w' [blk ga [.pointer (some ⟨gb, 0, none⟩)], blk gb (bookV ps ls q gB gS), gm ekI evB gB (fun q => if q = 0 then some (fRoot, (-1, 0)) else none), gm ekP evS gS (fun _ => none), blk g3 [.slice ls.a ls.n ls.c], blk g1 [.slice ps.a ps.n ps.c]]) → J z w') (hRl : fRoot.length = 19) (h12 : St w w12 [blk g3 [.slice ls.a ls.n ls.c], blk g1 [.slice ps.a ps.n ps.c]]) (h : St w w79 [blk g78 [.pointer none], gm ekI evB g15 (fun _ => none), blk g3 [.slice ls.a ls.n ls.c], blk g1 [.slice ps.a ps.n ps.c]]) : fa_2 (some g15) (agI (fRoot ++ [-1, 0])) w79 ⟨g3, 0, none⟩ w12 ⟨g1, 0, none⟩ #[.slice ps.a ps.n ps.c] ⟨ls.a, ls.n, ls.c⟩ q ⟨g78, 0, none⟩ J := by
  unfold fa_2
  refine ⟨?_, ?_⟩
  · refine gmPut_h (ek := ekI) (ev := evB) (k := 0) (y := (fRoot, (-1, 0))) mapB h fun w80 h80 => ?_
    refine samec_h (g := g3) (o := 0) h12 h80 ?_
    refine samec_h (g := g1) (o := 0) h12 h80 ?_
    refine mkGm_h ekP evS h80 fun g81 w82 h82 => ?_
    refine samec_h (g := g3) (o := 0) h12 h82 ?_
    refine samec_h (g := g1) (o := 0) h12 h82 ?_
    refine spl_book ?_
    refine newBook_h (gB := g15) (gS := g81) h82 fun g84 w85 h85 => ?_
    refine stC_h (g := g78) h85 rfl (by decide) fun w86 h86 => ?_
    exact hJ _ _ ⟨g78, g84, g15, g81, rfl, h86.perm (perm_f 2 rfl (perm_f 0 rfl (perm_f 1 rfl (perm_f 0 rfl (perm_f 0 rfl (perm_f 0 rfl (.refl _)))))))⟩
  · refine mkGm_h ekP evS h fun g87 w88 h88 => ?_
    refine samec_h (g := g3) (o := 0) h12 h88 ?_
    refine samec_h (g := g1) (o := 0) h12 h88 ?_
    refine gmPut_h (ek := ekI) (ev := evB) (k := 0) (y := (fRoot, (-1, 0))) mapB h88 fun w89 h89 => ?_
    refine samec_h (g := g3) (o := 0) h12 h89 ?_
    refine samec_h (g := g1) (o := 0) h12 h89 ?_
    refine spl_book ?_
    refine newBook_h (gB := g15) (gS := g87) h89 fun g91 w92 h92 => ?_
    refine stC_h (g := g78) h92 rfl (by decide) fun w93 h93 => ?_
    exact hJ _ _ ⟨g78, g91, g15, g87, rfl, h93.perm (perm_f 2 rfl (perm_f 0 rfl (perm_f 1 rfl (perm_f 0 rfl (perm_f 0 rfl (perm_f 0 rfl (.refl _)))))))⟩
theorem fa_3_s {w w12 w20 : World} {J : Addr → World → Prop} {g1 g3 g15 : Nat} {ps ls : Sl} {q : Bool} (hJ : ∀ z w', (∃ ga gb gB gS, z = (⟨ga, 0, none⟩ : Addr) ∧ St w w' [blk ga [.pointer (some ⟨gb, 0, none⟩)], blk gb (bookV ps ls q gB gS), gm ekI evB gB (fun q => if q = 0 then some (fRoot, (-1, 0)) else none), gm ekP evS gS (fun _ => none), blk g3 [.slice ls.a ls.n ls.c], blk g1 [.slice ps.a ps.n ps.c]]) → J z w') (hRl : fRoot.length = 19) (h12 : St w w12 [blk g3 [.slice ls.a ls.n ls.c], blk g1 [.slice ps.a ps.n ps.c]]) (h : St w w20 [gm ekI evB g15 (fun _ => none), blk g3 [.slice ls.a ls.n ls.c], blk g1 [.slice ps.a ps.n ps.c]]) : fa_3 (some g15) (agI (fRoot ++ [-1, 0])) w20 ⟨g3, 0, none⟩ w12 ⟨g1, 0, none⟩ #[.slice ps.a ps.n ps.c] ⟨ls.a, ls.n, ls.c⟩ q J := by
  unfold fa_3
  refine ⟨?_, ?_⟩
  · refine gmPut_h (ek := ekI) (ev := evB) (k := 0) (y := (fRoot, (-1, 0))) mapB h fun w23 h23 => ?_
    refine samec_h (g := g3) (o := 0) h12 h23 ?_
    refine samec_h (g := g1) (o := 0) h12 h23 ?_
    refine ⟨?_, ?_⟩
    · refine mkGm_h ekP evS h23 fun g24 w25 h25 => ?_
      refine samec_h (g := g3) (o := 0) h12 h25 ?_
      refine samec_h (g := g1) (o := 0) h12 h25 ?_
      exact fa_0_s hJ hRl h12 (h25.perm (perm_f 1 rfl (perm_f 0 rfl (perm_f 0 rfl (perm_f 0 rfl (.refl _))))))
    · refine newC_h h23 fun g43 w44 h44 => ?_
      refine samec_h (g := g3) (o := 0) h12 h44 ?_
      refine samec_h (g := g1) (o := 0) h12 h44 ?_
      refine mkGm_h ekP evS h44 fun g45 w46 h46 => ?_
      refine samec_h (g := g3) (o := 0) h12 h46 ?_
      refine samec_h (g := g1) (o := 0) h12 h46 ?_
      refine spl_book ?_
      refine newBook_h (gB := g15) (gS := g45) h46 fun g48 w49 h49 => ?_
      refine stC_h (g := g43) h49 rfl (by decide) fun w50 h50 => ?_
      exact hJ _ _ ⟨g43, g48, g15, g45, rfl, h50.perm (perm_f 2 rfl (perm_f 0 rfl (perm_f 1 rfl (perm_f 0 rfl (perm_f 0 rfl (perm_f 0 rfl (.refl _)))))))⟩
  · refine ⟨?_, ?_⟩
    · refine mkGm_h ekP evS h fun g51 w52 h52 => ?_
      refine samec_h (g := g3) (o := 0) h12 h52 ?_
      refine samec_h (g := g1) (o := 0) h12 h52 ?_
      exact fa_1_s hJ hRl h12 (h52.perm (perm_f 1 rfl (perm_f 0 rfl (perm_f 0 rfl (perm_f 0 rfl (.refl _))))))
    · refine newC_h h fun g78 w79 h79 => ?_
      refine samec_h (g := g3) (o := 0) h12 h79 ?_
      refine samec_h (g := g1) (o := 0) h12 h79 ?_
      exact fa_2_s hJ hRl h12 (h79.perm (perm_f 0 rfl (perm_f 0 rfl (perm_f 0 rfl (perm_f 0 rfl (.refl _))))))
theorem fa_4_s {w w12 w95 : World} {J : Addr → World → Prop} {g1 g3 g15 g94 : Nat} {ps ls : Sl} {q : Bool} (hJ : ∀ z w', (∃ ga gb gB gS, z = (⟨ga, 0, none⟩ : Addr) ∧ St w w' [blk ga [.pointer (some ⟨gb, 0, none⟩)], blk gb (bookV ps ls q gB gS), gm ekI evB gB (fun q => if q = 0 then some (fRoot, (-1, 0)) else none), gm ekP evS gS (fun _ => none), blk g3 [.slice ls.a ls.n ls.c], blk g1 [.slice ps.a ps.n ps.c]]) → J z w') (hRl : fRoot.length = 19) (h12 : St w w12 [blk g3 [.slice ls.a ls.n ls.c], blk g1 [.slice ps.a ps.n ps.c]]) (h : St w w95 [gm ekI evB g15 (fun _ => none), gm ekP evS g94 (fun _ => none), blk g3 [.slice ls.a ls.n ls.c], blk g1 [.slice ps.a ps.n ps.c]]) : fa_4 (agI fRoot) #[.int .i64 (-1), .int .i64 0] ⟨g3, 0, none⟩ w12 w95 ⟨g1, 0, none⟩ (some g15) #[.slice ps.a ps.n ps.c] ⟨ls.a, ls.n, ls.c⟩ q (some g94) J := by
  unfold fa_4
  refine ⟨?_, ?_⟩
  · refine spl_beg hRl ?_
    refine samec_h (g := g3) (o := 0) h12 h ?_
    refine samec_h (g := g1) (o := 0) h12 h ?_
    exact fa_1_s hJ hRl h12 (h.perm (perm_f 0 rfl (perm_f 0 rfl (perm_f 0 rfl (perm_f 0 rfl (.refl _))))))
  · refine newC_h h fun g123 w124 h124 => ?_
    refine samec_h (g := g3) (o := 0) h12 h124 ?_
    refine samec_h (g := g1) (o := 0) h12 h124 ?_
    refine spl_beg hRl ?_
    refine samec_h (g := g3) (o := 0) h12 h124 ?_
    refine samec_h (g := g1) (o := 0) h12 h124 ?_
    refine gmPut_h (ek := ekI) (ev := evB) (k := 0) (y := (fRoot, (-1, 0))) mapB h124 fun w127 h127 => ?_
    refine samec_h (g := g3) (o := 0) h12 h127 ?_
    refine samec_h (g := g1) (o := 0) h12 h127 ?_
    refine spl_book ?_
    refine newBook_h (gB := g15) (gS := g94) h127 fun g129 w130 h130 => ?_
    refine stC_h (g := g123) h130 rfl (by decide) fun w131 h131 => ?_
    exact hJ _ _ ⟨g123, g129, g15, g94, rfl, h131.perm (perm_f 1 rfl (perm_f 0 rfl (perm_f 0 rfl (perm_f 0 rfl (perm_f 0 rfl (perm_f 0 rfl (.refl _)))))))⟩
theorem fa_5_s {w w12 w133 : World} {J : Addr → World → Prop} {g1 g3 g15 g132 : Nat} {ps ls : Sl} {q : Bool} (hJ : ∀ z w', (∃ ga gb gB gS, z = (⟨ga, 0, none⟩ : Addr) ∧ St w w' [blk ga [.pointer (some ⟨gb, 0, none⟩)], blk gb (bookV ps ls q gB gS), gm ekI evB gB (fun q => if q = 0 then some (fRoot, (-1, 0)) else none), gm ekP evS gS (fun _ => none), blk g3 [.slice ls.a ls.n ls.c], blk g1 [.slice ps.a ps.n ps.c]]) → J z w') (hRl : fRoot.length = 19) (h12 : St w w12 [blk g3 [.slice ls.a ls.n ls.c], blk g1 [.slice ps.a ps.n ps.c]]) (h : St w w133 [blk g132 [.pointer none], gm ekI evB g15 (fun _ => none), blk g3 [.slice ls.a ls.n ls.c], blk g1 [.slice ps.a ps.n ps.c]]) : fa_5 (agI fRoot) #[.int .i64 (-1), .int .i64 0] ⟨g3, 0, none⟩ w12 w133 ⟨g1, 0, none⟩ (some g15) #[.slice ps.a ps.n ps.c] ⟨ls.a, ls.n, ls.c⟩ q ⟨g132, 0, none⟩ J := by
  unfold fa_5
  refine ⟨?_, ?_⟩
  · refine spl_beg hRl ?_
    refine samec_h (g := g3) (o := 0) h12 h ?_
    refine samec_h (g := g1) (o := 0) h12 h ?_
    exact fa_2_s hJ hRl h12 (h.perm (perm_f 0 rfl (perm_f 0 rfl (perm_f 0 rfl (perm_f 0 rfl (.refl _))))))
  · refine mkGm_h ekP evS h fun g150 w151 h151 => ?_
    refine samec_h (g := g3) (o := 0) h12 h151 ?_
    refine samec_h (g := g1) (o := 0) h12 h151 ?_
    refine spl_beg hRl ?_
    refine samec_h (g := g3) (o := 0) h12 h151 ?_
    refine samec_h (g := g1) (o := 0) h12 h151 ?_
    refine gmPut_h (ek := ekI) (ev := evB) (k := 0) (y := (fRoot, (-1, 0))) mapB h151 fun w154 h154 => ?_
    refine samec_h (g := g3) (o := 0) h12 h154 ?_
    refine samec_h (g := g1) (o := 0) h12 h154 ?_
    refine spl_book ?_
    refine newBook_h (gB := g15) (gS := g150) h154 fun g156 w157 h157 => ?_
    refine stC_h (g := g132) h157 rfl (by decide) fun w158 h158 => ?_
    exact hJ _ _ ⟨g132, g156, g15, g150, rfl, h158.perm (perm_f 2 rfl (perm_f 0 rfl (perm_f 1 rfl (perm_f 0 rfl (perm_f 0 rfl (perm_f 0 rfl (.refl _)))))))⟩
theorem fa_6_s {w w12 w20 : World} {J : Addr → World → Prop} {g1 g3 g15 : Nat} {ps ls : Sl} {q : Bool} (hJ : ∀ z w', (∃ ga gb gB gS, z = (⟨ga, 0, none⟩ : Addr) ∧ St w w' [blk ga [.pointer (some ⟨gb, 0, none⟩)], blk gb (bookV ps ls q gB gS), gm ekI evB gB (fun q => if q = 0 then some (fRoot, (-1, 0)) else none), gm ekP evS gS (fun _ => none), blk g3 [.slice ls.a ls.n ls.c], blk g1 [.slice ps.a ps.n ps.c]]) → J z w') (hRl : fRoot.length = 19) (h12 : St w w12 [blk g3 [.slice ls.a ls.n ls.c], blk g1 [.slice ps.a ps.n ps.c]]) (h : St w w20 [gm ekI evB g15 (fun _ => none), blk g3 [.slice ls.a ls.n ls.c], blk g1 [.slice ps.a ps.n ps.c]]) : fa_6 (agI fRoot) #[.int .i64 (-1), .int .i64 0] ⟨g3, 0, none⟩ w12 w20 ⟨g1, 0, none⟩ (some g15) #[.slice ps.a ps.n ps.c] ⟨ls.a, ls.n, ls.c⟩ q J := by
  unfold fa_6
  refine ⟨?_, ?_⟩
  · refine spl_beg hRl ?_
    refine samec_h (g := g3) (o := 0) h12 h ?_
    refine samec_h (g := g1) (o := 0) h12 h ?_
    exact fa_3_s hJ hRl h12 (h.perm (perm_f 0 rfl (perm_f 0 rfl (perm_f 0 rfl (.refl _)))))
  · refine ⟨?_, ?_⟩
    · refine mkGm_h ekP evS h fun g94 w95 h95 => ?_
      refine samec_h (g := g3) (o := 0) h12 h95 ?_
      refine samec_h (g := g1) (o := 0) h12 h95 ?_
      exact fa_4_s hJ hRl h12 (h95.perm (perm_f 1 rfl (perm_f 0 rfl (perm_f 0 rfl (perm_f 0 rfl (.refl _))))))
    · refine newC_h h fun g132 w133 h133 => ?_
      refine samec_h (g := g3) (o := 0) h12 h133 ?_
      refine samec_h (g := g1) (o := 0) h12 h133 ?_
      exact fa_5_s hJ hRl h12 (h133.perm (perm_f 0 rfl (perm_f 0 rfl (perm_f 0 rfl (perm_f 0 rfl (.refl _))))))
theorem fa_7_s {w w12 w160 : World} {J : Addr → World → Prop} {g1 g3 g15 g159 : Nat} {ps ls : Sl} {q : Bool} (hJ : ∀ z w', (∃ ga gb gB gS, z = (⟨ga, 0, none⟩ : Addr) ∧ St w w' [blk ga [.pointer (some ⟨gb, 0, none⟩)], blk gb (bookV ps ls q gB gS), gm ekI evB gB (fun q => if q = 0 then some (fRoot, (-1, 0)) else none), gm ekP evS gS (fun _ => none), blk g3 [.slice ls.a ls.n ls.c], blk g1 [.slice ps.a ps.n ps.c]]) → J z w') (hRl : fRoot.length = 19) (h12 : St w w12 [blk g3 [.slice ls.a ls.n ls.c], blk g1 [.slice ps.a ps.n ps.c]]) (h : St w w160 [gm ekI evB g15 (fun _ => none), gm ekP evS g159 (fun _ => none), blk g3 [.slice ls.a ls.n ls.c], blk g1 [.slice ps.a ps.n ps.c]]) : fa_7 fits_world w160 ⟨g3, 0, none⟩ w12 ⟨g1, 0, none⟩ (agI fRoot) (some g15) #[.slice ps.a ps.n ps.c] ⟨ls.a, ls.n, ls.c⟩ q (some g159) J := by
  unfold fa_7
  refine ⟨?_, ?_⟩
  · refine world_s fun w162 he => ?_
    have h162 := ext_of h he
    refine samec_h (g := g3) (o := 0) h12 h162 ?_
    refine samec_h (g := g1) (o := 0) h12 h162 ?_
    exact fa_4_s hJ hRl h12 (h162.perm (perm_f 0 rfl (perm_f 0 rfl (perm_f 0 rfl (perm_f 0 rfl (.refl _))))))
  · refine newC_h h fun g199 w200 h200 => ?_
    refine samec_h (g := g3) (o := 0) h12 h200 ?_
    refine samec_h (g := g1) (o := 0) h12 h200 ?_
    refine world_s fun w202 he => ?_
    have h202 := ext_of h200 he
    refine samec_h (g := g3) (o := 0) h12 h202 ?_
    refine samec_h (g := g1) (o := 0) h12 h202 ?_
    refine spl_beg hRl ?_
    refine samec_h (g := g3) (o := 0) h12 h202 ?_
    refine samec_h (g := g1) (o := 0) h12 h202 ?_
    refine gmPut_h (ek := ekI) (ev := evB) (k := 0) (y := (fRoot, (-1, 0))) mapB h202 fun w205 h205 => ?_
    refine samec_h (g := g3) (o := 0) h12 h205 ?_
    refine samec_h (g := g1) (o := 0) h12 h205 ?_
    refine spl_book ?_
    refine newBook_h (gB := g15) (gS := g159) h205 fun g207 w208 h208 => ?_
    refine stC_h (g := g199) h208 rfl (by decide) fun w209 h209 => ?_
    exact hJ _ _ ⟨g199, g207, g15, g159, rfl, h209.perm (perm_f 1 rfl (perm_f 0 rfl (perm_f 0 rfl (perm_f 0 rfl (perm_f 0 rfl (perm_f 0 rfl (.refl _)))))))⟩
theorem fa_8_s {w w12 w211 : World} {J : Addr → World → Prop} {g1 g3 g15 g210 : Nat} {ps ls : Sl} {q : Bool} (hJ : ∀ z w', (∃ ga gb gB gS, z = (⟨ga, 0, none⟩ : Addr) ∧ St w w' [blk ga [.pointer (some ⟨gb, 0, none⟩)], blk gb (bookV ps ls q gB gS), gm ekI evB gB (fun q => if q = 0 then some (fRoot, (-1, 0)) else none), gm ekP evS gS (fun _ => none), blk g3 [.slice ls.a ls.n ls.c], blk g1 [.slice ps.a ps.n ps.c]]) → J z w') (hRl : fRoot.length = 19) (h12 : St w w12 [blk g3 [.slice ls.a ls.n ls.c], blk g1 [.slice ps.a ps.n ps.c]]) (h : St w w211 [blk g210 [.pointer none], gm ekI evB g15 (fun _ => none), blk g3 [.slice ls.a ls.n ls.c], blk g1 [.slice ps.a ps.n ps.c]]) : fa_8 fits_world w211 ⟨g3, 0, none⟩ w12 ⟨g1, 0, none⟩ (agI fRoot) (some g15) #[.slice ps.a ps.n ps.c] ⟨ls.a, ls.n, ls.c⟩ q ⟨g210, 0, none⟩ J := by
  unfold fa_8
  refine ⟨?_, ?_⟩
  · refine world_s fun w213 he => ?_
    have h213 := ext_of h he
    refine samec_h (g := g3) (o := 0) h12 h213 ?_
    refine samec_h (g := g1) (o := 0) h12 h213 ?_
    exact fa_5_s hJ hRl h12 (h213.perm (perm_f 0 rfl (perm_f 0 rfl (perm_f 0 rfl (perm_f 0 rfl (.refl _))))))
  · refine mkGm_h ekP evS h fun g239 w240 h240 => ?_
    refine samec_h (g := g3) (o := 0) h12 h240 ?_
    refine samec_h (g := g1) (o := 0) h12 h240 ?_
    refine world_s fun w242 he => ?_
    have h242 := ext_of h240 he
    refine samec_h (g := g3) (o := 0) h12 h242 ?_
    refine samec_h (g := g1) (o := 0) h12 h242 ?_
    refine spl_beg hRl ?_
    refine samec_h (g := g3) (o := 0) h12 h242 ?_
    refine samec_h (g := g1) (o := 0) h12 h242 ?_
    refine gmPut_h (ek := ekI) (ev := evB) (k := 0) (y := (fRoot, (-1, 0))) mapB h242 fun w245 h245 => ?_
    refine samec_h (g := g3) (o := 0) h12 h245 ?_
    refine samec_h (g := g1) (o := 0) h12 h245 ?_
    refine spl_book ?_
    refine newBook_h (gB := g15) (gS := g239) h245 fun g247 w248 h248 => ?_
    refine stC_h (g := g210) h248 rfl (by decide) fun w249 h249 => ?_
    exact hJ _ _ ⟨g210, g247, g15, g239, rfl, h249.perm (perm_f 2 rfl (perm_f 0 rfl (perm_f 1 rfl (perm_f 0 rfl (perm_f 0 rfl (perm_f 0 rfl (.refl _)))))))⟩
theorem fa_9_s {w w12 w18 : World} {J : Addr → World → Prop} {g1 g3 g15 : Nat} {ps ls : Sl} {q : Bool} (hJ : ∀ z w', (∃ ga gb gB gS, z = (⟨ga, 0, none⟩ : Addr) ∧ St w w' [blk ga [.pointer (some ⟨gb, 0, none⟩)], blk gb (bookV ps ls q gB gS), gm ekI evB gB (fun q => if q = 0 then some (fRoot, (-1, 0)) else none), gm ekP evS gS (fun _ => none), blk g3 [.slice ls.a ls.n ls.c], blk g1 [.slice ps.a ps.n ps.c]]) → J z w') (hRl : fRoot.length = 19) (h12 : St w w12 [blk g3 [.slice ls.a ls.n ls.c], blk g1 [.slice ps.a ps.n ps.c]]) (h : St w w18 [gm ekI evB g15 (fun _ => none), blk g3 [.slice ls.a ls.n ls.c], blk g1 [.slice ps.a ps.n ps.c]]) : fa_9 fits_world w18 ⟨g3, 0, none⟩ w12 ⟨g1, 0, none⟩ (agI fRoot) (some g15) #[.slice ps.a ps.n ps.c] ⟨ls.a, ls.n, ls.c⟩ q J := by
  unfold fa_9
  refine ⟨?_, ?_⟩
  · refine world_s fun w20 he => ?_
    have h20 := ext_of h he
    refine samec_h (g := g3) (o := 0) h12 h20 ?_
    refine samec_h (g := g1) (o := 0) h12 h20 ?_
    exact fa_6_s hJ hRl h12 (h20.perm (perm_f 0 rfl (perm_f 0 rfl (perm_f 0 rfl (.refl _)))))
  · refine ⟨?_, ?_⟩
    · refine mkGm_h ekP evS h fun g159 w160 h160 => ?_
      refine samec_h (g := g3) (o := 0) h12 h160 ?_
      refine samec_h (g := g1) (o := 0) h12 h160 ?_
      exact fa_7_s hJ hRl h12 (h160.perm (perm_f 1 rfl (perm_f 0 rfl (perm_f 0 rfl (perm_f 0 rfl (.refl _))))))
    · refine newC_h h fun g210 w211 h211 => ?_
      refine samec_h (g := g3) (o := 0) h12 h211 ?_
      refine samec_h (g := g1) (o := 0) h12 h211 ?_
      exact fa_8_s hJ hRl h12 (h211.perm (perm_f 0 rfl (perm_f 0 rfl (perm_f 0 rfl (perm_f 0 rfl (.refl _))))))
theorem fa_10_s {w w12 w251 : World} {J : Addr → World → Prop} {g1 g3 g15 g250 : Nat} {ps ls : Sl} {q : Bool} (hJ : ∀ z w', (∃ ga gb gB gS, z = (⟨ga, 0, none⟩ : Addr) ∧ St w w' [blk ga [.pointer (some ⟨gb, 0, none⟩)], blk gb (bookV ps ls q gB gS), gm ekI evB gB (fun q => if q = 0 then some (fRoot, (-1, 0)) else none), gm ekP evS gS (fun _ => none), blk g3 [.slice ls.a ls.n ls.c], blk g1 [.slice ps.a ps.n ps.c]]) → J z w') (hRl : fRoot.length = 19) (h12 : St w w12 [blk g3 [.slice ls.a ls.n ls.c], blk g1 [.slice ps.a ps.n ps.c]]) (h : St w w251 [gm ekI evB g15 (fun _ => none), gm ekP evS g250 (fun _ => none), blk g3 [.slice ls.a ls.n ls.c], blk g1 [.slice ps.a ps.n ps.c]]) : fa_10 frame_Root w251 ⟨g3, 0, none⟩ w12 ⟨g1, 0, none⟩ fits_world (some g15) #[.slice ps.a ps.n ps.c] ⟨ls.a, ls.n, ls.c⟩ q (some g250) J := by
  unfold fa_10
  refine ⟨?_, ?_⟩
  · refine Fr.root_s fun w253 he => ?_
    have h253 := ext_of h he
    refine samec_h (g := g3) (o := 0) h12 h253 ?_
    refine samec_h (g := g1) (o := 0) h12 h253 ?_
    exact fa_7_s hJ hRl h12 (h253.perm (perm_f 0 rfl (perm_f 0 rfl (perm_f 0 rfl (perm_f 0 rfl (.refl _))))))
  · refine newC_h h fun g303 w304 h304 => ?_
    refine samec_h (g := g3) (o := 0) h12 h304 ?_
    refine samec_h (g := g1) (o := 0) h12 h304 ?_
    refine Fr.root_s fun w306 he => ?_
    have h306 := ext_of h304 he
    refine samec_h (g := g3) (o := 0) h12 h306 ?_
    refine samec_h (g := g1) (o := 0) h12 h306 ?_
    refine world_s fun w308 he => ?_
    have h308 := ext_of h306 he
    refine samec_h (g := g3) (o := 0) h12 h308 ?_
    refine samec_h (g := g1) (o := 0) h12 h308 ?_
    refine spl_beg hRl ?_
    refine samec_h (g := g3) (o := 0) h12 h308 ?_
    refine samec_h (g := g1) (o := 0) h12 h308 ?_
    refine gmPut_h (ek := ekI) (ev := evB) (k := 0) (y := (fRoot, (-1, 0))) mapB h308 fun w311 h311 => ?_
    refine samec_h (g := g3) (o := 0) h12 h311 ?_
    refine samec_h (g := g1) (o := 0) h12 h311 ?_
    refine spl_book ?_
    refine newBook_h (gB := g15) (gS := g250) h311 fun g313 w314 h314 => ?_
    refine stC_h (g := g303) h314 rfl (by decide) fun w315 h315 => ?_
    exact hJ _ _ ⟨g303, g313, g15, g250, rfl, h315.perm (perm_f 1 rfl (perm_f 0 rfl (perm_f 0 rfl (perm_f 0 rfl (perm_f 0 rfl (perm_f 0 rfl (.refl _)))))))⟩
theorem fa_11_s {w w12 w317 : World} {J : Addr → World → Prop} {g1 g3 g15 g316 : Nat} {ps ls : Sl} {q : Bool} (hJ : ∀ z w', (∃ ga gb gB gS, z = (⟨ga, 0, none⟩ : Addr) ∧ St w w' [blk ga [.pointer (some ⟨gb, 0, none⟩)], blk gb (bookV ps ls q gB gS), gm ekI evB gB (fun q => if q = 0 then some (fRoot, (-1, 0)) else none), gm ekP evS gS (fun _ => none), blk g3 [.slice ls.a ls.n ls.c], blk g1 [.slice ps.a ps.n ps.c]]) → J z w') (hRl : fRoot.length = 19) (h12 : St w w12 [blk g3 [.slice ls.a ls.n ls.c], blk g1 [.slice ps.a ps.n ps.c]]) (h : St w w317 [blk g316 [.pointer none], gm ekI evB g15 (fun _ => none), blk g3 [.slice ls.a ls.n ls.c], blk g1 [.slice ps.a ps.n ps.c]]) : fa_11 frame_Root w317 ⟨g3, 0, none⟩ w12 ⟨g1, 0, none⟩ fits_world (some g15) #[.slice ps.a ps.n ps.c] ⟨ls.a, ls.n, ls.c⟩ q ⟨g316, 0, none⟩ J := by
  unfold fa_11
  refine ⟨?_, ?_⟩
  · refine Fr.root_s fun w319 he => ?_
    have h319 := ext_of h he
    refine samec_h (g := g3) (o := 0) h12 h319 ?_
    refine samec_h (g := g1) (o := 0) h12 h319 ?_
    exact fa_8_s hJ hRl h12 (h319.perm (perm_f 0 rfl (perm_f 0 rfl (perm_f 0 rfl (perm_f 0 rfl (.refl _))))))
  · refine mkGm_h ekP evS h fun g358 w359 h359 => ?_
    refine samec_h (g := g3) (o := 0) h12 h359 ?_
    refine samec_h (g := g1) (o := 0) h12 h359 ?_
    refine Fr.root_s fun w361 he => ?_
    have h361 := ext_of h359 he
    refine samec_h (g := g3) (o := 0) h12 h361 ?_
    refine samec_h (g := g1) (o := 0) h12 h361 ?_
    refine world_s fun w363 he => ?_
    have h363 := ext_of h361 he
    refine samec_h (g := g3) (o := 0) h12 h363 ?_
    refine samec_h (g := g1) (o := 0) h12 h363 ?_
    refine spl_beg hRl ?_
    refine samec_h (g := g3) (o := 0) h12 h363 ?_
    refine samec_h (g := g1) (o := 0) h12 h363 ?_
    refine gmPut_h (ek := ekI) (ev := evB) (k := 0) (y := (fRoot, (-1, 0))) mapB h363 fun w366 h366 => ?_
    refine samec_h (g := g3) (o := 0) h12 h366 ?_
    refine samec_h (g := g1) (o := 0) h12 h366 ?_
    refine spl_book ?_
    refine newBook_h (gB := g15) (gS := g358) h366 fun g368 w369 h369 => ?_
    refine stC_h (g := g316) h369 rfl (by decide) fun w370 h370 => ?_
    exact hJ _ _ ⟨g316, g368, g15, g358, rfl, h370.perm (perm_f 2 rfl (perm_f 0 rfl (perm_f 1 rfl (perm_f 0 rfl (perm_f 0 rfl (perm_f 0 rfl (.refl _)))))))⟩
theorem fa_12_s {w w12 w824 : World} {J : Addr → World → Prop} {g1 g3 g823 : Nat} {ps ls : Sl} {q : Bool} (hJ : ∀ z w', (∃ ga gb gB gS, z = (⟨ga, 0, none⟩ : Addr) ∧ St w w' [blk ga [.pointer (some ⟨gb, 0, none⟩)], blk gb (bookV ps ls q gB gS), gm ekI evB gB (fun q => if q = 0 then some (fRoot, (-1, 0)) else none), gm ekP evS gS (fun _ => none), blk g3 [.slice ls.a ls.n ls.c], blk g1 [.slice ps.a ps.n ps.c]]) → J z w') (hRl : fRoot.length = 19) (h12 : St w w12 [blk g3 [.slice ls.a ls.n ls.c], blk g1 [.slice ps.a ps.n ps.c]]) (h : St w w824 [gm ekP evS g823 (fun _ => none), blk g3 [.slice ls.a ls.n ls.c], blk g1 [.slice ps.a ps.n ps.c]]) : fa_12 w824 ⟨g3, 0, none⟩ w12 ⟨g1, 0, none⟩ (agI (fRoot ++ [-1, 0])) #[.slice ps.a ps.n ps.c] ⟨ls.a, ls.n, ls.c⟩ q (some g823) J := by
  unfold fa_12
  refine ⟨?_, ?_⟩
  · refine mkGm_h ekI evB h fun g825 w826 h826 => ?_
    refine samec_h (g := g3) (o := 0) h12 h826 ?_
    refine samec_h (g := g1) (o := 0) h12 h826 ?_
    exact fa_1_s hJ hRl h12 (h826.perm (perm_f 0 rfl (perm_f 0 rfl (perm_f 0 rfl (perm_f 0 rfl (.refl _))))))
  · refine newC_h h fun g852 w853 h853 => ?_
    refine samec_h (g := g3) (o := 0) h12 h853 ?_
    refine samec_h (g := g1) (o := 0) h12 h853 ?_
    refine mkGm_h ekI evB h853 fun g854 w855 h855 => ?_
    refine samec_h (g := g3) (o := 0) h12 h855 ?_
    refine samec_h (g := g1) (o := 0) h12 h855 ?_
    refine gmPut_h (ek := ekI) (ev := evB) (k := 0) (y := (fRoot, (-1, 0))) mapB h855 fun w856 h856 => ?_
    refine samec_h (g := g3) (o := 0) h12 h856 ?_
    refine samec_h (g := g1) (o := 0) h12 h856 ?_
    refine spl_book ?_
    refine newBook_h (gB := g854) (gS := g823) h856 fun g858 w859 h859 => ?_
    refine stC_h (g := g852) h859 rfl (by decide) fun w860 h860 => ?_
    exact hJ _ _ ⟨g852, g858, g854, g823, rfl, h860.perm (perm_f 2 rfl (perm_f 0 rfl (perm_f 0 rfl (perm_f 0 rfl (perm_f 0 rfl (perm_f 0 rfl (.refl _)))))))⟩
theorem fa_13_s {w w12 w862 : World} {J : Addr → World → Prop} {g1 g3 g861 : Nat} {ps ls : Sl} {q : Bool} (hJ : ∀ z w', (∃ ga gb gB gS, z = (⟨ga, 0, none⟩ : Addr) ∧ St w w' [blk ga [.pointer (some ⟨gb, 0, none⟩)], blk gb (bookV ps ls q gB gS), gm ekI evB gB (fun q => if q = 0 then some (fRoot, (-1, 0)) else none), gm ekP evS gS (fun _ => none), blk g3 [.slice ls.a ls.n ls.c], blk g1 [.slice ps.a ps.n ps.c]]) → J z w') (hRl : fRoot.length = 19) (h12 : St w w12 [blk g3 [.slice ls.a ls.n ls.c], blk g1 [.slice ps.a ps.n ps.c]]) (h : St w w862 [blk g861 [.pointer none], blk g3 [.slice ls.a ls.n ls.c], blk g1 [.slice ps.a ps.n ps.c]]) : fa_13 w862 ⟨g3, 0, none⟩ w12 ⟨g1, 0, none⟩ (agI (fRoot ++ [-1, 0])) #[.slice ps.a ps.n ps.c] ⟨ls.a, ls.n, ls.c⟩ q ⟨g861, 0, none⟩ J := by
  unfold fa_13
  refine ⟨?_, ?_⟩
  · refine mkGm_h ekI evB h fun g863 w864 h864 => ?_
    refine samec_h (g := g3) (o := 0) h12 h864 ?_
    refine samec_h (g := g1) (o := 0) h12 h864 ?_
    exact fa_2_s hJ hRl h12 (h864.perm (perm_f 1 rfl (perm_f 0 rfl (perm_f 0 rfl (perm_f 0 rfl (.refl _))))))
  · refine mkGm_h ekP evS h fun g879 w880 h880 => ?_
    refine samec_h (g := g3) (o := 0) h12 h880 ?_
    refine samec_h (g := g1) (o := 0) h12 h880 ?_
    refine mkGm_h ekI evB h880 fun g881 w882 h882 => ?_
    refine samec_h (g := g3) (o := 0) h12 h882 ?_
    refine samec_h (g := g1) (o := 0) h12 h882 ?_
    refine gmPut_h (ek := ekI) (ev := evB) (k := 0) (y := (fRoot, (-1, 0))) mapB h882 fun w883 h883 => ?_
    refine samec_h (g := g3) (o := 0) h12 h883 ?_
    refine samec_h (g := g1) (o := 0) h12 h883 ?_
    refine spl_book ?_
    refine newBook_h (gB := g881) (gS := g879) h883 fun g885 w886 h886 => ?_
    refine stC_h (g := g861) h886 rfl (by decide) fun w887 h887 => ?_
    exact hJ _ _ ⟨g861, g885, g881, g879, rfl, h887.perm (perm_f 3 rfl (perm_f 0 rfl (perm_f 0 rfl (perm_f 0 rfl (perm_f 0 rfl (perm_f 0 rfl (.refl _)))))))⟩
theorem fa_14_s {w w12 w967 : World} {J : Addr → World → Prop} {g1 g3 g888 g966 : Nat} {ps ls : Sl} {q : Bool} (hJ : ∀ z w', (∃ ga gb gB gS, z = (⟨ga, 0, none⟩ : Addr) ∧ St w w' [blk ga [.pointer (some ⟨gb, 0, none⟩)], blk gb (bookV ps ls q gB gS), gm ekI evB gB (fun q => if q = 0 then some (fRoot, (-1, 0)) else none), gm ekP evS gS (fun _ => none), blk g3 [.slice ls.a ls.n ls.c], blk g1 [.slice ps.a ps.n ps.c]]) → J z w') (hRl : fRoot.length = 19) (h12 : St w w12 [blk g3 [.slice ls.a ls.n ls.c], blk g1 [.slice ps.a ps.n ps.c]]) (h : St w w967 [blk g966 [.pointer none], gm ekP evS g888 (fun _ => none), blk g3 [.slice ls.a ls.n ls.c], blk g1 [.slice ps.a ps.n ps.c]]) : fa_14 w967 ⟨g3, 0, none⟩ w12 ⟨g1, 0, none⟩ (agI fRoot) #[.int .i64 (-1), .int .i64 0] #[.slice ps.a ps.n ps.c] ⟨ls.a, ls.n, ls.c⟩ q (some g888) ⟨g966, 0, none⟩ J := by
  unfold fa_14
  refine ⟨?_, ?_⟩
  · refine mkGm_h ekI evB h fun g968 w969 h969 => ?_
    refine samec_h (g := g3) (o := 0) h12 h969 ?_
    refine samec_h (g := g1) (o := 0) h12 h969 ?_
    refine spl_beg hRl ?_
    refine samec_h (g := g3) (o := 0) h12 h969 ?_
    refine samec_h (g := g1) (o := 0) h12 h969 ?_
    refine gmPut_h (ek := ekI) (ev := evB) (k := 0) (y := (fRoot, (-1, 0))) mapB h969 fun w972 h972 => ?_
    refine samec_h (g := g3) (o := 0) h12 h972 ?_
    refine samec_h (g := g1) (o := 0) h12 h972 ?_
    refine spl_book ?_
    refine newBook_h (gB := g968) (gS := g888) h972 fun g974 w975 h975 => ?_
    refine stC_h (g := g966) h975 rfl (by decide) fun w976 h976 => ?_
    exact hJ _ _ ⟨g966, g974, g968, g888, rfl, h976.perm (perm_f 2 rfl (perm_f 0 rfl (perm_f 0 rfl (perm_f 0 rfl (perm_f 0 rfl (perm_f 0 rfl (.refl _)))))))⟩
  · refine spl_beg hRl ?_
    refine samec_h (g := g3) (o := 0) h12 h ?_
    refine samec_h (g := g1) (o := 0) h12 h ?_
    refine mkGm_h ekI evB h fun g979 w980 h980 => ?_
    refine samec_h (g := g3) (o := 0) h12 h980 ?_
    refine samec_h (g := g1) (o := 0) h12 h980 ?_
    refine gmPut_h (ek := ekI) (ev := evB) (k := 0) (y := (fRoot, (-1, 0))) mapB h980 fun w981 h981 => ?_
    refine samec_h (g := g3) (o := 0) h12 h981 ?_
    refine samec_h (g := g1) (o := 0) h12 h981 ?_
    refine spl_book ?_
    refine newBook_h (gB := g979) (gS := g888) h981 fun g983 w984 h984 => ?_
    refine stC_h (g := g966) h984 rfl (by decide) fun w985 h985 => ?_
    exact hJ _ _ ⟨g966, g983, g979, g888, rfl, h985.perm (perm_f 2 rfl (perm_f 0 rfl (perm_f 0 rfl (perm_f 0 rfl (perm_f 0 rfl (perm_f 0 rfl (.refl _)))))))⟩
theorem fa_15_s {w w12 w889 : World} {J : Addr → World → Prop} {g1 g3 g888 : Nat} {ps ls : Sl} {q : Bool} (hJ : ∀ z w', (∃ ga gb gB gS, z = (⟨ga, 0, none⟩ : Addr) ∧ St w w' [blk ga [.pointer (some ⟨gb, 0, none⟩)], blk gb (bookV ps ls q gB gS), gm ekI evB gB (fun q => if q = 0 then some (fRoot, (-1, 0)) else none), gm ekP evS gS (fun _ => none), blk g3 [.slice ls.a ls.n ls.c], blk g1 [.slice ps.a ps.n ps.c]]) → J z w') (hRl : fRoot.length = 19) (h12 : St w w12 [blk g3 [.slice ls.a ls.n ls.c], blk g1 [.slice ps.a ps.n ps.c]]) (h : St w w889 [gm ekP evS g888 (fun _ => none), blk g3 [.slice ls.a ls.n ls.c], blk g1 [.slice ps.a ps.n ps.c]]) : fa_15 w889 ⟨g3, 0, none⟩ w12 ⟨g1, 0, none⟩ (agI fRoot) #[.int .i64 (-1), .int .i64 0] #[.slice ps.a ps.n ps.c] ⟨ls.a, ls.n, ls.c⟩ q (some g888) J := by
  unfold fa_15
  refine ⟨?_, ?_⟩
  · refine mkGm_h ekI evB h fun g890 w891 h891 => ?_
    refine samec_h (g := g3) (o := 0) h12 h891 ?_
    refine samec_h (g := g1) (o := 0) h12 h891 ?_
    exact fa_4_s hJ hRl h12 (h891.perm (perm_f 0 rfl (perm_f 0 rfl (perm_f 0 rfl (perm_f 0 rfl (.refl _))))))
  · refine ⟨?_, ?_⟩
    · refine spl_beg hRl ?_
      refine samec_h (g := g3) (o := 0) h12 h ?_
      refine samec_h (g := g1) (o := 0) h12 h ?_
      exact fa_12_s hJ hRl h12 (h.perm (perm_f 0 rfl (perm_f 0 rfl (perm_f 0 rfl (.refl _)))))
    · refine newC_h h fun g966 w967 h967 => ?_
      refine samec_h (g := g3) (o := 0) h12 h967 ?_
      refine samec_h (g := g1) (o := 0) h12 h967 ?_
      exact fa_14_s hJ hRl h12 (h967.perm (perm_f 0 rfl (perm_f 0 rfl (perm_f 0 rfl (perm_f 0 rfl (.refl _))))))
theorem fa_16_s {w w12 w987 : World} {J : Addr → World → Prop} {g1 g3 g986 : Nat} {ps ls : Sl} {q : Bool} (hJ : ∀ z w', (∃ ga gb gB gS, z = (⟨ga, 0, none⟩ : Addr) ∧ St w w' [blk ga [.pointer (some ⟨gb, 0, none⟩)], blk gb (bookV ps ls q gB gS), gm ekI evB gB (fun q => if q = 0 then some (fRoot, (-1, 0)) else none), gm ekP evS gS (fun _ => none), blk g3 [.slice ls.a ls.n ls.c], blk g1 [.slice ps.a ps.n ps.c]]) → J z w') (hRl : fRoot.length = 19) (h12 : St w w12 [blk g3 [.slice ls.a ls.n ls.c], blk g1 [.slice ps.a ps.n ps.c]]) (h : St w w987 [blk g986 [.pointer none], blk g3 [.slice ls.a ls.n ls.c], blk g1 [.slice ps.a ps.n ps.c]]) : fa_16 w987 ⟨g3, 0, none⟩ w12 ⟨g1, 0, none⟩ (agI fRoot) #[.int .i64 (-1), .int .i64 0] #[.slice ps.a ps.n ps.c] ⟨ls.a, ls.n, ls.c⟩ q ⟨g986, 0, none⟩ J := by
  unfold fa_16
  refine ⟨?_, ?_⟩
  · refine mkGm_h ekI evB h fun g988 w989 h989 => ?_
    refine samec_h (g := g3) (o := 0) h12 h989 ?_
    refine samec_h (g := g1) (o := 0) h12 h989 ?_
    exact fa_5_s hJ hRl h12 (h989.perm (perm_f 1 rfl (perm_f 0 rfl (perm_f 0 rfl (perm_f 0 rfl (.refl _))))))
  · refine ⟨?_, ?_⟩
    · refine spl_beg hRl ?_
      refine samec_h (g := g3) (o := 0) h12 h ?_
      refine samec_h (g := g1) (o := 0) h12 h ?_
      exact fa_13_s hJ hRl h12 (h.perm (perm_f 0 rfl (perm_f 0 rfl (perm_f 0 rfl (.refl _)))))
    · refine mkGm_h ekP evS h fun g1042 w1043 h1043 => ?_
      refine samec_h (g := g3) (o := 0) h12 h1043 ?_
      refine samec_h (g := g1) (o := 0) h12 h1043 ?_
      exact fa_14_s hJ hRl h12 (h1043.perm (perm_f 1 rfl (perm_f 0 rfl (perm_f 0 rfl (perm_f 0 rfl (.refl _))))))
theorem fa_17_s {w w12 w1214 : World} {J : Addr → World → Prop} {g1 g3 g1062 g1213 : Nat} {ps ls : Sl} {q : Bool} (hJ : ∀ z w', (∃ ga gb gB gS, z = (⟨ga, 0, none⟩ : Addr) ∧ St w w' [blk ga [.pointer (some ⟨gb, 0, none⟩)], blk gb (bookV ps ls q gB gS), gm ekI evB gB (fun q => if q = 0 then some (fRoot, (-1, 0)) else none), gm ekP evS gS (fun _ => none), blk g3 [.slice ls.a ls.n ls.c], blk g1 [.slice ps.a ps.n ps.c]]) → J z w') (hRl : fRoot.length = 19) (h12 : St w w12 [blk g3 [.slice ls.a ls.n ls.c], blk g1 [.slice ps.a ps.n ps.c]]) (h : St w w1214 [blk g1213 [.pointer none], gm ekP evS g1062 (fun _ => none), blk g3 [.slice ls.a ls.n ls.c], blk g1 [.slice ps.a ps.n ps.c]]) : fa_17 w1214 ⟨g3, 0, none⟩ w12 ⟨g1, 0, none⟩ fits_world (agI fRoot) #[.slice ps.a ps.n ps.c] ⟨ls.a, ls.n, ls.c⟩ q (some g1062) ⟨g1213, 0, none⟩ J := by
  unfold fa_17
  refine ⟨?_, ?_⟩
  · refine mkGm_h ekI evB h fun g1215 w1216 h1216 => ?_
    refine samec_h (g := g3) (o := 0) h12 h1216 ?_
    refine samec_h (g := g1) (o := 0) h12 h1216 ?_
    refine world_s fun w1218 he => ?_
    have h1218 := ext_of h1216 he
    refine samec_h (g := g3) (o := 0) h12 h1218 ?_
    refine samec_h (g := g1) (o := 0) h12 h1218 ?_
    refine spl_beg hRl ?_
    refine samec_h (g := g3) (o := 0) h12 h1218 ?_
    refine samec_h (g := g1) (o := 0) h12 h1218 ?_
    refine gmPut_h (ek := ekI) (ev := evB) (k := 0) (y := (fRoot, (-1, 0))) mapB h1218 fun w1221 h1221 => ?_
    refine samec_h (g := g3) (o := 0) h12 h1221 ?_
    refine samec_h (g := g1) (o := 0) h12 h1221 ?_
    refine spl_book ?_
    refine newBook_h (gB := g1215) (gS := g1062) h1221 fun g1223 w1224 h1224 => ?_
    refine stC_h (g := g1213) h1224 rfl (by decide) fun w1225 h1225 => ?_
    exact hJ _ _ ⟨g1213, g1223, g1215, g1062, rfl, h1225.perm (perm_f 2 rfl (perm_f 0 rfl (perm_f 0 rfl (perm_f 0 rfl (perm_f 0 rfl (perm_f 0 rfl (.refl _)))))))⟩
  · refine world_s fun w1227 he => ?_
    have h1227 := ext_of h he
    refine samec_h (g := g3) (o := 0) h12 h1227 ?_
    refine samec_h (g := g1) (o := 0) h12 h1227 ?_
    exact fa_14_s hJ hRl h12 (h1227.perm (perm_f 0 rfl (perm_f 0 rfl (perm_f 0 rfl (perm_f 0 rfl (.refl _))))))
theorem fa_18_s {w w12 w1063 : World} {J : Addr → World → Prop} {g1 g3 g1062 : Nat} {ps ls : Sl} {q : Bool} (hJ : ∀ z w', (∃ ga gb gB gS, z = (⟨ga, 0, none⟩ : Addr) ∧ St w w' [blk ga [.pointer (some ⟨gb, 0, none⟩)], blk gb (bookV ps ls q gB gS), gm ekI evB gB (fun q => if q = 0 then some (fRoot, (-1, 0)) else none), gm ekP evS gS (fun _ => none), blk g3 [.slice ls.a ls.n ls.c], blk g1 [.slice ps.a ps.n ps.c]]) → J z w') (hRl : fRoot.length = 19) (h12 : St w w12 [blk g3 [.slice ls.a ls.n ls.c], blk g1 [.slice ps.a ps.n ps.c]]) (h : St w w1063 [gm ekP evS g1062 (fun _ => none), blk g3 [.slice ls.a ls.n ls.c], blk g1 [.slice ps.a ps.n ps.c]]) : fa_18 w1063 ⟨g3, 0, none⟩ w12 ⟨g1, 0, none⟩ fits_world (agI fRoot) #[.slice ps.a ps.n ps.c] ⟨ls.a, ls.n, ls.c⟩ q (some g1062) J := by
  unfold fa_18
  refine ⟨?_, ?_⟩
  · refine mkGm_h ekI evB h fun g1064 w1065 h1065 => ?_
    refine samec_h (g := g3) (o := 0) h12 h1065 ?_
    refine samec_h (g := g1) (o := 0) h12 h1065 ?_
    exact fa_7_s hJ hRl h12 (h1065.perm (perm_f 0 rfl (perm_f 0 rfl (perm_f 0 rfl (perm_f 0 rfl (.refl _))))))
  · refine ⟨?_, ?_⟩
    · refine world_s fun w1116 he => ?_
      have h1116 := ext_of h he
      refine samec_h (g := g3) (o := 0) h12 h1116 ?_
      refine samec_h (g := g1) (o := 0) h12 h1116 ?_
      exact fa_15_s hJ hRl h12 (h1116.perm (perm_f 0 rfl (perm_f 0 rfl (perm_f 0 rfl (.refl _)))))
    · refine newC_h h fun g1213 w1214 h1214 => ?_
      refine samec_h (g := g3) (o := 0) h12 h1214 ?_
      refine samec_h (g := g1) (o := 0) h12 h1214 ?_
      exact fa_17_s hJ hRl h12 (h1214.perm (perm_f 0 rfl (perm_f 0 rfl (perm_f 0 rfl (perm_f 0 rfl (.refl _))))))
theorem fa_19_s {w w12 w1247 : World} {J : Addr → World → Prop} {g1 g3 g1246 : Nat} {ps ls : Sl} {q : Bool} (hJ : ∀ z w', (∃ ga gb gB gS, z = (⟨ga, 0, none⟩ : Addr) ∧ St w w' [blk ga [.pointer (some ⟨gb, 0, none⟩)], blk gb (bookV ps ls q gB gS), gm ekI evB gB (fun q => if q = 0 then some (fRoot, (-1, 0)) else none), gm ekP evS gS (fun _ => none), blk g3 [.slice ls.a ls.n ls.c], blk g1 [.slice ps.a ps.n ps.c]]) → J z w') (hRl : fRoot.length = 19) (h12 : St w w12 [blk g3 [.slice ls.a ls.n ls.c], blk g1 [.slice ps.a ps.n ps.c]]) (h : St w w1247 [blk g1246 [.pointer none], blk g3 [.slice ls.a ls.n ls.c], blk g1 [.slice ps.a ps.n ps.c]]) : fa_19 w1247 ⟨g3, 0, none⟩ w12 ⟨g1, 0, none⟩ fits_world (agI fRoot) #[.slice ps.a ps.n ps.c] ⟨ls.a, ls.n, ls.c⟩ q ⟨g1246, 0, none⟩ J := by
  unfold fa_19
  refine ⟨?_, ?_⟩
  · refine mkGm_h ekI evB h fun g1248 w1249 h1249 => ?_
    refine samec_h (g := g3) (o := 0) h12 h1249 ?_
    refine samec_h (g := g1) (o := 0) h12 h1249 ?_
    exact fa_8_s hJ hRl h12 (h1249.perm (perm_f 1 rfl (perm_f 0 rfl (perm_f 0 rfl (perm_f 0 rfl (.refl _))))))
  · refine ⟨?_, ?_⟩
    · refine world_s fun w1289 he => ?_
      have h1289 := ext_of h he
      refine samec_h (g := g3) (o := 0) h12 h1289 ?_
      refine samec_h (g := g1) (o := 0) h12 h1289 ?_
      exact fa_16_s hJ hRl h12 (h1289.perm (perm_f 0 rfl (perm_f 0 rfl (perm_f 0 rfl (.refl _)))))
    · refine mkGm_h ekP evS h fun g1364 w1365 h1365 => ?_
      refine samec_h (g := g3) (o := 0) h12 h1365 ?_
      refine samec_h (g := g1) (o := 0) h12 h1365 ?_
      exact fa_17_s hJ hRl h12 (h1365.perm (perm_f 1 rfl (perm_f 0 rfl (perm_f 0 rfl (perm_f 0 rfl (.refl _))))))
theorem fa_20_s {w w12 w1650 : World} {J : Addr → World → Prop} {g1 g3 g1397 g1649 : Nat} {ps ls : Sl} {q : Bool} (hJ : ∀ z w', (∃ ga gb gB gS, z = (⟨ga, 0, none⟩ : Addr) ∧ St w w' [blk ga [.pointer (some ⟨gb, 0, none⟩)], blk gb (bookV ps ls q gB gS), gm ekI evB gB (fun q => if q = 0 then some (fRoot, (-1, 0)) else none), gm ekP evS gS (fun _ => none), blk g3 [.slice ls.a ls.n ls.c], blk g1 [.slice ps.a ps.n ps.c]]) → J z w') (hRl : fRoot.length = 19) (h12 : St w w12 [blk g3 [.slice ls.a ls.n ls.c], blk g1 [.slice ps.a ps.n ps.c]]) (h : St w w1650 [blk g1649 [.pointer none], gm ekP evS g1397 (fun _ => none), blk g3 [.slice ls.a ls.n ls.c], blk g1 [.slice ps.a ps.n ps.c]]) : fa_20 w1650 ⟨g3, 0, none⟩ w12 ⟨g1, 0, none⟩ frame_Root fits_world #[.slice ps.a ps.n ps.c] ⟨ls.a, ls.n, ls.c⟩ q (some g1397) ⟨g1649, 0, none⟩ J := by
  unfold fa_20
  refine ⟨?_, ?_⟩
  · refine mkGm_h ekI evB h fun g1651 w1652 h1652 => ?_
    refine samec_h (g := g3) (o := 0) h12 h1652 ?_
    refine samec_h (g := g1) (o := 0) h12 h1652 ?_
    refine Fr.root_s fun w1654 he => ?_
    have h1654 := ext_of h1652 he
    refine samec_h (g := g3) (o := 0) h12 h1654 ?_
    refine samec_h (g := g1) (o := 0) h12 h1654 ?_
    refine world_s fun w1656 he => ?_
    have h1656 := ext_of h1654 he
    refine samec_h (g := g3) (o := 0) h12 h1656 ?_
    refine samec_h (g := g1) (o := 0) h12 h1656 ?_
    refine spl_beg hRl ?_
    refine samec_h (g := g3) (o := 0) h12 h1656 ?_
    refine samec_h (g := g1) (o := 0) h12 h1656 ?_
    refine gmPut_h (ek := ekI) (ev := evB) (k := 0) (y := (fRoot, (-1, 0))) mapB h1656 fun w1659 h1659 => ?_
    refine samec_h (g := g3) (o := 0) h12 h1659 ?_
    refine samec_h (g := g1) (o := 0) h12 h1659 ?_
    refine spl_book ?_
    refine newBook_h (gB := g1651) (gS := g1397) h1659 fun g1661 w1662 h1662 => ?_
    refine stC_h (g := g1649) h1662 rfl (by decide) fun w1663 h1663 => ?_
    exact hJ _ _ ⟨g1649, g1661, g1651, g1397, rfl, h1663.perm (perm_f 2 rfl (perm_f 0 rfl (perm_f 0 rfl (perm_f 0 rfl (perm_f 0 rfl (perm_f 0 rfl (.refl _)))))))⟩
  · refine Fr.root_s fun w1665 he => ?_
    have h1665 := ext_of h he
    refine samec_h (g := g3) (o := 0) h12 h1665 ?_
    refine samec_h (g := g1) (o := 0) h12 h1665 ?_
    exact fa_17_s hJ hRl h12 (h1665.perm (perm_f 0 rfl (perm_f 0 rfl (perm_f 0 rfl (perm_f 0 rfl (.refl _))))))
theorem fits_all_s {k : Int × Int → World → Prop} (hF : Funcs5 w ps P) (hT : Tbl w ls l) (hN : ∀ g ∈ P, InI g.needs) (hlen : l.length ≤ 1000000) (hcl : ∀ r ∈ l, r.cl.size < 4611686018427387904)
    (hk : ∀ w', Ext w w' → k (fitsF P l q) w') : fits_all #[.slice ps.a ps.n ps.c] ⟨ls.a, ls.n, ls.c⟩ q w k := by
  unfold fits_all fits_all_b
  refine newC_h (.nil w) fun g1 w2 h => ?_
  refine newC_h h fun g3 w4 h => ?_
  refine ldW_h (n := 1) (g := g1) h rfl ?_
  refine Ck.accepts_s (hF.ext h.ext) fun w7 h7 => ?_
  have h := ext_of h h7.ext
  rw [Ck.progF_zero]
  unfold fitsF at hk
  refine iteB_i (fun hb => ?_) fun hb => ?_
  · rw [if_pos (by simpa using hb)] at hk; exact hk _ h.ext
  have hz : (Ck.progF P).2.2 = 0 := by simpa using hb
  rw [if_neg (by simpa using hz)] at hk
  have hA := Ck.accs_iff.1 hz
  refine ldS_h (g := g3) h rfl ?_
  refine Check_s (hT.ext h.ext) hcl fun w10 he => ?_
  have h := ext_of h he
  refine iteB_i (fun hb => ?_) fun hb => ?_
  · have hb : ¬ tcheck l = 0 := by simpa using hb
    rw [if_pos hb] at hk; exact hk _ h.ext
  have hz : tcheck l = 0 := by simpa using hb
  rw [if_neg (by simpa using hz)] at hk
  obtain ⟨hl0, hTR⟩ := tcheck_row hz
  refine joinP_i (fun z w' => ∃ ga gb gB gS, z = ⟨ga, 0, none⟩ ∧ St w w' (blk ga [.pointer (some ⟨gb, 0, none⟩)] :: BP gb gB gS ps ls q bk0 [blk g3 [.slice ls.a ls.n ls.c], blk g1 [.slice ps.a ps.n ps.c]])) (fun J hJ0 => ?_) ?_
  · have hJ : ∀ z w', (∃ ga gb gB gS, z = ⟨ga, 0, none⟩ ∧ St w w' [blk ga [.pointer (some ⟨gb, 0, none⟩)], blk gb (bookV ps ls q gB gS), gm ekI evB gB (fun q => if q = 0 then some (fRoot, (-1, 0)) else none), gm ekP evS gS (fun _ => none), blk g3 [.slice ls.a ls.n ls.c], blk g1 [.slice ps.a ps.n ps.c]]) → J z w' := hJ0
    have hRl : fRoot.length = 19 := rfl
    refine drew_h h fun w12 h12 => ?_
    refine ldW_h (n := 1) (g := g1) h12 rfl ?_
    refine ldS_h (g := g3) h12 rfl ?_
    refine ⟨?_, ?_⟩
    · refine mkGm_h ekI evB h12 fun g15 w16 h16 => ?_
      refine samec_h (g := g3) (o := 0) h12 h16 ?_
      refine samec_h (g := g1) (o := 0) h12 h16 ?_
      refine ⟨?_, ?_⟩
      · refine Fr.root_s fun w18 he => ?_
        have h18 := ext_of h16 he
        refine samec_h (g := g3) (o := 0) h12 h18 ?_
        refine samec_h (g := g1) (o := 0) h12 h18 ?_
        exact fa_9_s hJ hRl h12 (h18.perm (perm_f 0 rfl (perm_f 0 rfl (perm_f 0 rfl (.refl _)))))
      · refine ⟨?_, ?_⟩
        · refine mkGm_h ekP evS h16 fun g250 w251 h251 => ?_
          refine samec_h (g := g3) (o := 0) h12 h251 ?_
          refine samec_h (g := g1) (o := 0) h12 h251 ?_
          exact fa_10_s hJ hRl h12 (h251.perm (perm_f 1 rfl (perm_f 0 rfl (perm_f 0 rfl (perm_f 0 rfl (.refl _))))))
        · refine newC_h h16 fun g316 w317 h317 => ?_
          refine samec_h (g := g3) (o := 0) h12 h317 ?_
          refine samec_h (g := g1) (o := 0) h12 h317 ?_
          exact fa_11_s hJ hRl h12 (h317.perm (perm_f 0 rfl (perm_f 0 rfl (perm_f 0 rfl (perm_f 0 rfl (.refl _))))))
    · refine ⟨?_, ?_⟩
      · refine Fr.root_s fun w372 he => ?_
        have h372 := ext_of h12 he
        refine samec_h (g := g3) (o := 0) h12 h372 ?_
        refine samec_h (g := g1) (o := 0) h12 h372 ?_
        refine ⟨?_, ?_⟩
        · refine mkGm_h ekI evB h372 fun g373 w374 h374 => ?_
          refine samec_h (g := g3) (o := 0) h12 h374 ?_
          refine samec_h (g := g1) (o := 0) h12 h374 ?_
          exact fa_9_s hJ hRl h12 (h374.perm (perm_f 0 rfl (perm_f 0 rfl (perm_f 0 rfl (.refl _)))))
        · refine ⟨?_, ?_⟩
          · refine world_s fun w607 he => ?_
            have h607 := ext_of h372 he
            refine samec_h (g := g3) (o := 0) h12 h607 ?_
            refine samec_h (g := g1) (o := 0) h12 h607 ?_
            refine ⟨?_, ?_⟩
            · refine mkGm_h ekI evB h607 fun g608 w609 h609 => ?_
              refine samec_h (g := g3) (o := 0) h12 h609 ?_
              refine samec_h (g := g1) (o := 0) h12 h609 ?_
              exact fa_6_s hJ hRl h12 (h609.perm (perm_f 0 rfl (perm_f 0 rfl (perm_f 0 rfl (.refl _)))))
            · refine ⟨?_, ?_⟩
              · refine spl_beg hRl ?_
                refine samec_h (g := g3) (o := 0) h12 h607 ?_
                refine samec_h (g := g1) (o := 0) h12 h607 ?_
                refine ⟨?_, ?_⟩
                · refine mkGm_h ekI evB h607 fun g750 w751 h751 => ?_
                  refine samec_h (g := g3) (o := 0) h12 h751 ?_
                  refine samec_h (g := g1) (o := 0) h12 h751 ?_
                  exact fa_3_s hJ hRl h12 (h751.perm (perm_f 0 rfl (perm_f 0 rfl (perm_f 0 rfl (.refl _)))))
                · refine ⟨?_, ?_⟩
                  · refine mkGm_h ekP evS h607 fun g823 w824 h824 => ?_
                    refine samec_h (g := g3) (o := 0) h12 h824 ?_
                    refine samec_h (g := g1) (o := 0) h12 h824 ?_
                    exact fa_12_s hJ hRl h12 (h824.perm (perm_f 0 rfl (perm_f 0 rfl (perm_f 0 rfl (.refl _)))))
                  · refine newC_h h607 fun g861 w862 h862 => ?_
                    refine samec_h (g := g3) (o := 0) h12 h862 ?_
                    refine samec_h (g := g1) (o := 0) h12 h862 ?_
                    exact fa_13_s hJ hRl h12 (h862.perm (perm_f 0 rfl (perm_f 0 rfl (perm_f 0 rfl (.refl _)))))
              · refine ⟨?_, ?_⟩
                · refine mkGm_h ekP evS h607 fun g888 w889 h889 => ?_
                  refine samec_h (g := g3) (o := 0) h12 h889 ?_
                  refine samec_h (g := g1) (o := 0) h12 h889 ?_
                  exact fa_15_s hJ hRl h12 (h889.perm (perm_f 0 rfl (perm_f 0 rfl (perm_f 0 rfl (.refl _)))))
                · refine newC_h h607 fun g986 w987 h987 => ?_
                  refine samec_h (g := g3) (o := 0) h12 h987 ?_
                  refine samec_h (g := g1) (o := 0) h12 h987 ?_
                  exact fa_16_s hJ hRl h12 (h987.perm (perm_f 0 rfl (perm_f 0 rfl (perm_f 0 rfl (.refl _)))))
          · refine ⟨?_, ?_⟩
            · refine mkGm_h ekP evS h372 fun g1062 w1063 h1063 => ?_
              refine samec_h (g := g3) (o := 0) h12 h1063 ?_
              refine samec_h (g := g1) (o := 0) h12 h1063 ?_
              exact fa_18_s hJ hRl h12 (h1063.perm (perm_f 0 rfl (perm_f 0 rfl (perm_f 0 rfl (.refl _)))))
            · refine newC_h h372 fun g1246 w1247 h1247 => ?_
              refine samec_h (g := g3) (o := 0) h12 h1247 ?_
              refine samec_h (g := g1) (o := 0) h12 h1247 ?_
              exact fa_19_s hJ hRl h12 (h1247.perm (perm_f 0 rfl (perm_f 0 rfl (perm_f 0 rfl (.refl _)))))
      · refine ⟨?_, ?_⟩
        · refine mkGm_h ekP evS h12 fun g1397 w1398 h1398 => ?_
          refine samec_h (g := g3) (o := 0) h12 h1398 ?_
          refine samec_h (g := g1) (o := 0) h12 h1398 ?_
          refine ⟨?_, ?_⟩
          · refine mkGm_h ekI evB h1398 fun g1399 w1400 h1400 => ?_
            refine samec_h (g := g3) (o := 0) h12 h1400 ?_
            refine samec_h (g := g1) (o := 0) h12 h1400 ?_
            exact fa_10_s hJ hRl h12 (h1400.perm (perm_f 0 rfl (perm_f 0 rfl (perm_f 0 rfl (perm_f 0 rfl (.refl _))))))
          · refine ⟨?_, ?_⟩
            · refine Fr.root_s fun w1466 he => ?_
              have h1466 := ext_of h1398 he
              refine samec_h (g := g3) (o := 0) h12 h1466 ?_
              refine samec_h (g := g1) (o := 0) h12 h1466 ?_
              exact fa_18_s hJ hRl h12 (h1466.perm (perm_f 0 rfl (perm_f 0 rfl (perm_f 0 rfl (.refl _)))))
            · refine newC_h h1398 fun g1649 w1650 h1650 => ?_
              refine samec_h (g := g3) (o := 0) h12 h1650 ?_
              refine samec_h (g := g1) (o := 0) h12 h1650 ?_
              exact fa_20_s hJ hRl h12 (h1650.perm (perm_f 0 rfl (perm_f 0 rfl (perm_f 0 rfl (perm_f 0 rfl (.refl _))))))
        · refine newC_h h12 fun g1697 w1698 h1698 => ?_
          refine samec_h (g := g3) (o := 0) h12 h1698 ?_
          refine samec_h (g := g1) (o := 0) h12 h1698 ?_
          refine ⟨?_, ?_⟩
          · refine mkGm_h ekI evB h1698 fun g1699 w1700 h1700 => ?_
            refine samec_h (g := g3) (o := 0) h12 h1700 ?_
            refine samec_h (g := g1) (o := 0) h12 h1700 ?_
            exact fa_11_s hJ hRl h12 (h1700.perm (perm_f 1 rfl (perm_f 0 rfl (perm_f 0 rfl (perm_f 0 rfl (.refl _))))))
          · refine ⟨?_, ?_⟩
            · refine Fr.root_s fun w1755 he => ?_
              have h1755 := ext_of h1698 he
              refine samec_h (g := g3) (o := 0) h12 h1755 ?_
              refine samec_h (g := g1) (o := 0) h12 h1755 ?_
              exact fa_19_s hJ hRl h12 (h1755.perm (perm_f 0 rfl (perm_f 0 rfl (perm_f 0 rfl (.refl _)))))
            · refine mkGm_h ekP evS h1698 fun g1905 w1906 h1906 => ?_
              refine samec_h (g := g3) (o := 0) h12 h1906 ?_
              refine samec_h (g := g1) (o := 0) h12 h1906 ?_
              exact fa_20_s hJ hRl h12 (h1906.perm (perm_f 1 rfl (perm_f 0 rfl (perm_f 0 rfl (perm_f 0 rfl (.refl _))))))
  rintro _ w1954 ⟨ga, gb, gB, gS, rfl, h⟩
  unfold fits_all_1 fits_all_1_b
  refine ldS_h (g := g3) h rfl ?_
  have hLn := hT.len
  refine loopP_of (fun (i : Int) w' => ∃ (j : Nat) (b : Bk), i = j ∧ j ≤ l.length ∧ St w w' (blk ga [.pointer (some ⟨gb, 0, none⟩)] :: BP gb gB gS ps ls q b [blk g3 [.slice ls.a ls.n ls.c], blk g1 [.slice ps.a ps.n ps.c]]) ∧ BI P (fun j => 0 ≤ j ∧ j < l.length) b ∧ Known l j b ∧ fgo P l q l.length 0 bk0 = fgo P l q (l.length - j) j b) (fun i _ => l.length - i.toNat) ⟨0, bk0, rfl, Nat.zero_le _, h, bi_root hA hN, known_root hTR, rfl⟩ ?_
  rintro _ w4' ⟨j, b, rfl, hj, h, hbi, hkn, hgo⟩ C hC
  dsimp only
  rw [hLn]
  refine iteB_i (fun hb => ?_) fun hb => ?_
  · have hlt : j < l.length := by have := of_decide_eq_true hb; omega
    obtain ⟨n, hn⟩ : ∃ n, l.length - j = n + 1 := ⟨l.length - j - 1, by omega⟩
    rw [hn] at hgo
    rw [fgo_succ] at hgo
    have hTj := hTR j hlt
    have hsp := row_span hTj
    have hbj : (b.beg j).isSome = true := by
      refine hkn j (by omega) (by omega) ?_
      by_cases e : (j : Int) = 0
      · exact .inl e
      · exact .inr (row_par hTj e (by omega)).2.1
    obtain ⟨x0, hat⟩ := Option.isSome_iff_exists.1 hbj
    refine callF_i (d := d_fits_all_2) (fun _ _ _ => rfl) ?_
    show fits_all_2 (j : Int) ⟨ga, 0, none⟩ w4' fun r w => _
    refine row2_s h ?_
    have h' : St w w4' (BP gb gB gS ps ls q b [blk ga [.pointer (some ⟨gb, 0, none⟩)], blk g3 [.slice ls.a ls.n ls.c], blk g1 [.slice ps.a ps.n ps.c]]) := h.perm (by repeat' (first | exact List.Perm.refl _ | refine perm_f 0 rfl ?_ | refine perm_f 1 rfl ?_ | refine perm_f 2 rfl ?_ | refine perm_f 3 rfl ?_ | refine perm_f 4 rfl ?_ | refine perm_f 5 rfl ?_ | refine perm_f 6 rfl ?_ | refine perm_f 7 rfl ?_))
    refine fits_s (Q := fun j => 0 ≤ j ∧ j < l.length) hF hT hA hN hlen (fun _ h => h) (fun j hj => (row_span (tr_int hTR hj.1 hj.2)).2.2.2.2.1) hbi (by omega) (by omega) hsp.2.2.2.2.2.1 hsp.2.2.2.2.2.2 (fun k hk => ⟨(mem_kids.1 hk).1, (mem_kids.1 hk).2.1⟩) (fun k hk => kids_gt hTR k hk (by omega)) hat h' (fun w' hs he => ?_) fun w' b' hs hbi' hto h => ?_
    · rw [hs] at hgo
      refine toB_i ?_
      refine iteB_t rfl ?_
      show k ((j : Int), 25) w'
      rw [hgo] at hk
      exact hk _ he
    · rw [hs] at hgo
      refine toB_i ?_
      refine iteB_f rfl ?_
      have ew : IntKind.wrap .i64 ((j : Int) + 1) = ((j + 1 : Nat) : Int) := by rw [wrap_id ⟨by omega, by omega⟩]; simp
      rw [ew]
      refine hC _ _ ⟨j + 1, b', rfl, by omega, h.perm (by repeat' (first | exact List.Perm.refl _ | refine perm_f 0 rfl ?_ | refine perm_f 1 rfl ?_ | refine perm_f 2 rfl ?_ | refine perm_f 3 rfl ?_ | refine perm_f 4 rfl ?_ | refine perm_f 5 rfl ?_ | refine perm_f 6 rfl ?_ | refine perm_f 7 rfl ?_)), hbi', frow_known hTR (by omega) hkn hs, ?_⟩ (by omega)
      rw [hgo, show l.length - (j + 1) = n by omega]
      rfl
  · have hge : l.length - j = 0 := by have := of_decide_eq_false hb; omega
    rw [hge] at hgo
    rw [fgo_zero] at hgo
    show k (0, 0) w4'
    rw [hgo] at hk
    exact hk _ h.ext
theorem Fits_s {k : Int × Int → World → Prop} (hF : Funcs5 w ps P) (hT : Tbl w ls l) (hN : ∀ g ∈ P, InI g.needs) (hlen : l.length ≤ 1000000) (hcl : ∀ r ∈ l, r.cl.size < 4611686018427387904)
    (hk : ∀ w', Ext w w' → k (fitsF P l false) w') : fits_Fits #[.slice ps.a ps.n ps.c] ⟨ls.a, ls.n, ls.c⟩ w k := by
  unfold fits_Fits fits_Fits_b
  refine newC_h (.nil w) fun g1 w2 h => ?_
  refine ldW_h (n := 1) (g := g1) h rfl ?_
  exact fits_all_s (hF.ext h.ext) (hT.ext h.ext) hN hlen hcl fun w' he => hk _ (h.ext.trans he)
theorem Quiet_s {k : Int × Int → World → Prop} (hF : Funcs5 w ps P) (hT : Tbl w ls l) (hN : ∀ g ∈ P, InI g.needs) (hlen : l.length ≤ 1000000) (hcl : ∀ r ∈ l, r.cl.size < 4611686018427387904)
    (hk : ∀ w', Ext w w' → k (fitsF P l true) w') : fits_Quiet #[.slice ps.a ps.n ps.c] ⟨ls.a, ls.n, ls.c⟩ w k := by
  unfold fits_Quiet fits_Quiet_b
  refine newC_h (.nil w) fun g1 w2 h => ?_
  refine ldW_h (n := 1) (g := g1) h rfl ?_
  exact fits_all_s (hF.ext h.ext) (hT.ext h.ext) hN hlen hcl fun w' he => hk _ (h.ext.trans he)
end
end Go.Proofs.YtgkfbagclkjilaaGreatDoor.Ft
