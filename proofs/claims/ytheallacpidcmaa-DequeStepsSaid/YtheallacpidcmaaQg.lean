/-
  Layer 10: what always holds of a deque, its owner and its thieves.
-/
import Derived.Test.YtheallacpidcmaaQf
set_option linter.unusedSimpArgs false
set_option linter.unusedVariables false
set_option maxRecDepth 100000
namespace Go.Proofs.Ytheallacpidcmaa
open Go Go.Ev Go.Proofs

theorem of_word {r : Rg} (h : r.right = true) : Rg.of r.word = r := by
  have hr := Rg.right_out h
  unfold Rg.of Rg.word
  rw [if_pos h]
  obtain ⟨a, l⟩ := r
  simp only [Rg.mk.injEq] at *
  omega
theorem word_of {x : Int} (h : (Rg.of x).right = true) : (Rg.of x).word = x := by
  have hr := Rg.right_out h
  unfold Rg.word
  rw [if_pos h]
  unfold Rg.of at *
  dsimp only at *
  omega
abbrev Mac.T (M : Mac) : Int := M.get 0
abbrev Mac.B (M : Mac) : Int := M.get 1
abbrev Mac.len (M : Mac) : Int := (M.cells.length : Int)
theorem get_put {M : Mac} {a a' x : Int} (h0 : 0 ≤ a) (h1 : a < M.len) (h0' : 0 ≤ a') : (M.put a x).get a' = if a' = a then x else M.get a' := by
  unfold Mac.get Mac.put
  simp only [List.getD_eq_getElem?_getD, List.getElem?_set]
  by_cases e : a' = a
  · subst e
    have : a'.toNat < M.cells.length := by unfold Mac.len at h1; omega
    simp [this]
  · have : ¬ a.toNat = a'.toNat := by omega
    simp [this, e]
theorem get_grow {M : Mac} {n a' : Int} (h0' : 0 ≤ a') (h1 : a' < M.len) : (M.grow n).get a' = M.get a' := by
  unfold Mac.get Mac.grow
  have : a'.toNat < M.cells.length := by unfold Mac.len at h1; omega
  simp [List.getD_eq_getElem?_getD, List.getElem?_append_left this]
theorem place_in {R : Rg} (hr : R.right = true) (i : Int) : R.At ≤ R.place i ∧ R.place i < R.At + R.pw := by
  have := Rg.right_out hr
  unfold Rg.place
  rw [if_pos hr]
  have h1 := Int.emod_nonneg i (b := (R.pw : Int)) (by omega)
  have h2 := Int.emod_lt_of_pos i (b := (R.pw : Int)) (by omega)
  omega
theorem place_ne {R : Rg} (hr : R.right = true) {i j : Int} (h : i < j) (h2 : j - i < R.pw) : R.place i ≠ R.place j := by
  unfold Rg.place
  rw [if_pos hr, if_pos hr]
  intro e
  have e2 : i % (R.pw : Int) = j % (R.pw : Int) := by omega
  have h3 : (j - i) % (R.pw : Int) = 0 := by rw [Int.sub_emod, e2]; simp
  rw [Int.emod_eq_of_lt (by omega) h2] at h3
  omega
/-- a ring of double size, behind -/
def Rg.dbl (R : Rg) : Rg := ⟨R.At + R.pw, R.Log + 1⟩
theorem dbl_pw {R : Rg} (h : 0 ≤ R.Log) : R.dbl.pw = 2 * R.pw := by
  unfold Rg.dbl Rg.pw
  have : (R.Log + 1).toNat = R.Log.toNat + 1 := by omega
  simp only [this, Nat.pow_succ]; omega
theorem pw_le {R : Rg} {n : Nat} (h : R.Log ≤ n) : R.pw ≤ 2 ^ n := by
  unfold Rg.pw; exact Nat.pow_le_pow_right (by omega) (by omega)
theorem pw_pos (R : Rg) : 1 ≤ R.pw := by unfold Rg.pw; exact Nat.pow_pos (by omega)

/-- the whole -/
structure Glo (l0 most : Int) (nw : Nat) (M : Mac) (R : Rg) : Prop where
  ok : M.OK
  sz : M.size = 600
  st : M.steps.length = nw
  word : M.get 2 = R.word
  right : R.right = true
  lg0 : 0 ≤ l0
  lg1 : l0 ≤ R.Log
  lg2 : R.Log ≤ most
  lg3 : most ≤ 8
  at' : R.At + pwr l0 = 3 + R.pw
  fit : R.At + R.pw ≤ M.len
/-- rings that were this one's, or this one -/
structure Old (R r : Rg) : Prop where
  right : r.right = true
  at3 : 3 ≤ r.At
  old : r = R ∨ r.At + r.pw ≤ R.At
theorem Glo.at3 {l0 most : Int} {nw : Nat} {M : Mac} {R : Rg} (h : Glo l0 most nw M R) : 3 ≤ R.At := by
  have h1 := h.at'; have h2 := h.lg0; have h3 := h.lg1
  unfold pwr at h1
  have : 2 ^ l0.toNat ≤ R.pw := by unfold Rg.pw; exact Nat.pow_le_pow_right (by omega) (by omega)
  generalize 2 ^ l0.toNat = m at *
  omega
theorem Glo.pw {l0 most : Int} {nw : Nat} {M : Mac} {R : Rg} (h : Glo l0 most nw M R) : 1 ≤ R.pw ∧ R.pw ≤ 256 := by
  have := Rg.right_out h.right; omega
theorem Glo.self {l0 most : Int} {nw : Nat} {M : Mac} {R : Rg} (h : Glo l0 most nw M R) : Old R R := ⟨h.right, h.at3, .inl rfl⟩

def Lof (M : Mac) : Option Dop → Int
  | none => M.B
  | some O => if O.next = 11 ∨ O.next = 13 ∨ O.next = 14 then O.b else if O.next = 12 then (if O.t < O.b - 1 then O.b - 1 else O.b) else M.B
def Uof (M : Mac) : Option Dop → Int
  | none => M.B
  | some O => if O.next = 11 ∨ O.next = 12 ∨ O.next = 13 ∨ O.next = 14 then O.b else M.B
def held : Option Dop → List Int
  | none => []
  | some O => if O.next = 14 ∧ O.won = true then [O.got] else []
def Mac.vals (M : Mac) (R : Rg) (t : Int) (n : Nat) : List Int := (List.range n).map fun (i : Nat) => M.get (R.place (t + (i : Int)))
def Cont (M : Mac) (R : Rg) (o : Option Dop) : List Int := M.vals R M.T (Uof M o - M.T).toNat ++ held o
/-- the ends -/
structure Tl (K : Int) (M : Mac) (R : Rg) (o : Option Dop) : Prop where
  t0 : 0 ≤ M.T
  tl : M.T ≤ Lof M o
  lu : Lof M o ≤ Uof M o
  ur : Uof M o - M.T ≤ R.pw
  uk : Uof M o ≤ K
  k : K ≤ 1000
/-- the copying of a push -/
structure Cpy (M : Mac) (R : Rg) (O : Dop) (c : Cp) : Prop where
  cp : O.copy = some c
  a : c.a = R
  b : c.b = R.dbl
  un : c.until_ = O.b
  a0 : O.t ≤ c.at_
  a1 : c.at_ < O.b
  has : c.loaded = true → c.has = M.get (R.place c.at_)
  did : ∀ k, O.t ≤ k → k < c.at_ → M.get (R.dbl.place k) = M.get (R.place k)
/-- the owner, under way -/
structure Own (most K : Int) (M : Mac) (R : Rg) (O : Dop) : Prop where
  mo : O.most = most
  how : O.how = 0
  n : O.next ≤ 14
  kb : O.next ≤ 7 → M.B + 1 ≤ K
  b7 : 1 ≤ O.next → O.next ≤ 7 → O.b = M.B
  t7 : 2 ≤ O.next → O.next ≤ 7 → 0 ≤ O.t ∧ O.t ≤ M.T ∧ O.b - O.t ≤ R.pw
  r7 : 3 ≤ O.next → O.next ≤ 7 → O.ring = R
  g5 : 3 ≤ O.next → O.next ≤ 5 → O.b - O.t = R.pw ∧ R.Log < most
  l7 : 6 ≤ O.next → O.next ≤ 7 → O.b - O.t < R.pw
  x7 : O.next = 7 → M.get (R.place O.b) = O.x
  c3 : O.next ≤ 3 → O.copy = none
  to5 : 4 ≤ O.next → O.next ≤ 5 → O.to = R.dbl ∧ M.len = R.dbl.At + R.dbl.pw
  c4 : O.next = 4 → ∃ c, Cpy M R O c
  c5 : O.next = 5 → ∀ k, O.t ≤ k → k < O.b → M.get (R.dbl.place k) = M.get (R.place k)
  len : ¬ (4 ≤ O.next ∧ O.next ≤ 5) → M.len = R.At + R.pw
  b10 : 9 ≤ O.next → O.next ≤ 10 → O.b = M.B
  b14 : 11 ≤ O.next → M.B = O.b - 1
  r14 : 10 ≤ O.next → O.next ≤ 13 → O.ring = R
  t12 : O.next = 12 → 0 ≤ O.t ∧ O.t ≤ M.T ∧ O.t ≤ O.b - 1
  t13 : O.next = 13 → O.t = O.b - 1 ∧ O.t ≤ M.T ∧ O.got = M.get (R.place (O.b - 1))
  t14 : O.next = 14 → M.T = O.b
  won : O.next ≠ 14 → O.won = false
/-- a thief, under way -/
structure Thf (M : Mac) (R : Rg) (L : Int) (O : Dop) : Prop where
  n0 : 15 ≤ O.next
  n1 : O.next ≤ 19
  how : O.how = if O.next = 19 then 2 else 0
  t1 : 16 ≤ O.next → 0 ≤ O.t ∧ O.t ≤ M.T
  t2 : 17 ≤ O.next → O.t = M.T → O.t < L
  t3 : 18 ≤ O.next → Old R O.ring
  t4 : O.next = 18 → O.t = M.T → M.get (O.ring.place O.t) = M.get (R.place O.t)
  t5 : O.next = 19 → O.t = M.T → O.got = M.get (R.place O.t)
/-- what a thief needs of what others do -/
theorem Thf.mono {M M' : Mac} {R R' : Rg} {L L' : Int} {O : Dop} (h : Thf M R L O) (hT : M.T ≤ M'.T) (hL : M'.T = M.T → M.T < L → M.T < L') (hR : ∀ r, Old R r → Old R' r)
    (hv : M'.T = M.T → M.T < L → ∀ r, Old R r → M.get (r.place M.T) = M.get (R.place M.T) → M'.get (r.place M.T) = M.get (R.place M.T)) (hv2 : M'.T = M.T → M.T < L → M'.get (R'.place M.T) = M.get (R.place M.T)) : Thf M' R' L' O := by
  refine ⟨h.n0, h.n1, h.how, fun h1 => ?_, fun h1 h2 => ?_, fun h1 => hR _ (h.t3 h1), fun h1 h2 => ?_, fun h1 h2 => ?_⟩
  · have := h.t1 h1; omega
  · have h3 := h.t1 (by omega)
    have e : M'.T = M.T := by omega
    have := h.t2 h1 (by omega)
    have := hL e (by omega)
    omega
  · have h3 := h.t1 (by omega)
    have e : M'.T = M.T := by omega
    have e2 : O.t = M.T := by omega
    have h4 := h.t2 (by omega) e2
    have h5 := h.t4 h1 e2
    rw [e2] at h5 ⊢
    rw [hv2 e (by omega), hv e (by omega) _ (h.t3 (by omega)) h5]
  · have h3 := h.t1 (by omega)
    have e : M'.T = M.T := by omega
    have e2 : O.t = M.T := by omega
    have h4 := h.t2 (by omega) e2
    have h5 := h.t5 h1 e2
    rw [h5, e2, hv2 e (by omega)]
theorem vals_congr {M M' : Mac} {R R' : Rg} {t : Int} {n : Nat} (h : ∀ i, t ≤ i → i < t + n → M'.get (R'.place i) = M.get (R.place i)) : M'.vals R' t n = M.vals R t n := by
  unfold Mac.vals
  refine List.map_congr_left fun i hi => h _ (by omega) ?_
  have := List.mem_range.1 hi; omega
theorem vals_succ (M : Mac) (R : Rg) (t : Int) (n : Nat) : M.vals R t (n + 1) = M.vals R t n ++ [M.get (R.place (t + n))] := by
  unfold Mac.vals; rw [List.range_succ, List.map_append]; rfl
theorem vals_cons (M : Mac) (R : Rg) (t : Int) (n : Nat) : M.vals R t (n + 1) = M.get (R.place t) :: M.vals R (t + 1) n := by
  unfold Mac.vals
  rw [List.range_succ_eq_map, List.map_cons, List.map_map]
  congr 1
  · simp
  · refine List.map_congr_left fun i hi => ?_
    simp only [Function.comp]
    congr 2
    omega
end Go.Proofs.Ytheallacpidcmaa
