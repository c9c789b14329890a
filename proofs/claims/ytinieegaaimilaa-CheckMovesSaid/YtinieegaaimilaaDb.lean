/-
  Layer 4: what it is to be accepted; any way through a function of a program that is.
-/
import Derived.Test.YtinieegaaimilaaDa
set_option linter.unusedSimpArgs false
set_option linter.unusedVariables false
set_option maxRecDepth 100000
namespace Go.Proofs.Ytinieegaaimilaa
open Go Go.Ev Go.Proofs

structure Acc (P : List FnR) (f : FnR) : Prop where
  n0 : 0 ≤ f.needs
  n1 : f.needs ≤ 255
  l0 : 1 ≤ f.code.length
  l1 : f.code.length ≤ 128
  ok : ∀ x ∈ f.code, chk x = 0
  good : ∀ i x, f.code[i]? = some x → wrongF P f.code.length (depths 0 f.code) (heldL f.code f.needs) i x = 0
structure Accs (P : List FnR) : Prop where
  n0 : 1 ≤ P.length
  n1 : P.length ≤ 32
  root : needsOf P 0 = 0
  all : ∀ f ∈ P, Acc P f
theorem funcFault_none {P : List FnR} {n : Nat} {D H : List Int} : ∀ {l : List (List Int)} {i : Nat}, funcFault P n D H i l = none ↔ ∀ j x, l[j]? = some x → wrongF P n D H (i + j) x = 0
  | [], i => by simp [funcFault]
  | y :: l, i => by
    unfold funcFault
    split
    · rename_i hb
      refine ⟨fun h => (by cases h), fun h => ?_⟩
      have := h 0 y rfl
      rw [Nat.add_zero] at this
      rw [this] at hb; cases hb
    · rename_i hb
      rw [funcFault_none]
      refine ⟨fun h j x hx => ?_, fun h j x hx => ?_⟩
      · cases j with
        | zero => simp at hx; subst hx; simpa using hb
        | succ j => rw [show i + (j + 1) = i + 1 + j by omega]; exact h j x (by simpa using hx)
      · rw [show i + 1 + j = i + (j + 1) by omega]; exact h (j + 1) x (by simpa using hx)
theorem faults_none {P : List FnR} : ∀ {l : List FnR} {k : Nat}, faults P k l = none ↔ ∀ f ∈ l, fault1 P f = none
  | [], k => by simp [faults]
  | g :: l, k => by
    unfold faults
    cases h : fault1 P g with
    | some q =>
      obtain ⟨i, e⟩ := q
      simp only
      exact ⟨fun h => (by cases h), fun h2 => (by have := h2 g (by simp); rw [h] at this; cases this)⟩
    | none =>
      simp only
      rw [faults_none]
      refine ⟨fun h2 f hf => ?_, fun h2 f hf => h2 f (by simp [hf])⟩
      rcases List.mem_cons.1 hf with rfl | hf
      · exact h
      · exact h2 f hf
theorem firstBad_of : ∀ {l : List (List Int)} {i : Nat}, (∀ x ∈ l, chk x = 0) → (firstBad i l).2 = 0
  | [], _, _ => rfl
  | y :: l, i, h => by
    unfold firstBad
    rw [if_neg (by rw [h y (by simp)]; simp)]
    exact firstBad_of fun x hx => h x (by simp [hx])
theorem shapes_of : ∀ {l : List FnR} {k : Nat}, (∀ f ∈ l, (shapeF f.needs f.code).2 = 0) → shapes k l = none
  | [], _, _ => rfl
  | y :: l, k, h => by
    unfold shapes
    rw [if_neg (by rw [h y (by simp)]; simp)]
    exact shapes_of fun x hx => h x (by simp [hx])
theorem accs_iff {P : List FnR} : (progF P).2.2 = 0 ↔ Accs P := by
  constructor
  · intro h
    unfold progF at h
    split at h
    · exfalso; dsimp only at h; omega
    · rename_i hno
      simp only [Bool.or_eq_true, decide_eq_true_eq, not_or] at hno
      cases hs : shapes 0 P with
      | some x => rw [hs] at h; exact (shapes_pos hs h).elim
      | none =>
        rw [hs] at h
        simp only at h
        split at h
        · exfalso; dsimp only at h; omega
        · rename_i hn0
          cases hf : faults P 0 P with
          | some x =>
            obtain ⟨a, i, e⟩ := x
            rw [hf] at h
            simp only at h
            obtain ⟨m, f, _, _, hfl⟩ := faults_some hf
            exact (funcFault_some hfl h).elim
          | none =>
            refine ⟨by omega, by omega, by simpa using hn0, fun f hm => ?_⟩
            obtain ⟨a, b, c, d, e⟩ := shape_zero (shapes_none hs f hm)
            refine ⟨a, b, c, d, e, fun i x hx => ?_⟩
            have h1 := faults_none.1 hf f hm
            unfold fault1 at h1
            have := funcFault_none.1 h1 i x hx
            rwa [Nat.zero_add] at this
  · intro h
    have hs : shapes 0 P = none := shapes_of fun f hf => by
      have := h.all f hf
      have hn0 := this.n0; have hn1 := this.n1; have hl0 := this.l0; have hl1 := this.l1
      unfold shapeF
      rw [if_neg (by simp only [Bool.or_eq_true, decide_eq_true_eq]; omega), if_neg (by simp only [Bool.or_eq_true, decide_eq_true_eq]; omega)]
      exact firstBad_of this.ok
    have hf : faults P 0 P = none := faults_none.2 fun f hf => by
      unfold fault1
      exact funcFault_none.2 fun j x hx => by rw [Nat.zero_add]; exact (h.all f hf).good j x hx
    have hn0 := h.n0; have hn1 := h.n1
    unfold progF
    rw [if_neg (by simp only [Bool.or_eq_true, decide_eq_true_eq]; omega), hs]
    simp only
    rw [if_neg (by rw [h.root]; simp), hf]
/-- what an instruction does that is right -/
structure Good (P : List FnR) (n : Nat) (D H : List Int) (i : Nat) (x : List Int) : Prop where
  places : placesB P.length n x = false
  last : lastB n i x = false
  scopes : scopesOk D i x = true
  handles : handlesOk P (H.getD i 0) x = true
theorem good_iff {P : List FnR} {n : Nat} {D H : List Int} {i : Nat} {x : List Int} : wrongF P n D H i x = 0 ↔ Good P n D H i x := by
  constructor
  · intro h
    cases h1 : placesB P.length n x with
    | true => rw [wrong_1 h1] at h; cases h
    | false =>
      cases h2 : lastB n i x with
      | true => rw [wrong_2 h1 h2] at h; cases h
      | false =>
        cases h3 : scopesOk D i x with
        | false => rw [wrong_3 h1 h2 h3] at h; cases h
        | true =>
          cases h4 : handlesOk P (H.getD i 0) x with
          | false => rw [wrong_4 h1 h2 h3, h4] at h; simp at h
          | true => exact ⟨h1, h2, h3, h4⟩
  · rintro ⟨h1, h2, h3, h4⟩
    rw [wrong_4 h1 h2 h3, h4]; rfl

/-! ### depths, one behind the other -/
theorem depths_step : ∀ {l : List (List Int)} {n : Int} {i : Nat}, i + 1 < l.length → (depths n l).getD (i + 1) 0 = stepD ((depths n l).getD i 0) (l.getD i [])
  | [], _, _, h => by simp at h
  | [x], _, i, h => by simp at h
  | x :: y :: l, n, 0, _ => by simp [depths]
  | x :: y :: l, n, i + 1, h => by
    have := depths_step (l := y :: l) (n := stepD n x) (i := i) (by simpa using h)
    simp only [depths, List.getD_cons_succ] at this ⊢
    exact this
/-- the state of a walk: what is held, how many scopes are open, where it is -/
structure Walk (P : List FnR) (f : FnR) (hv op at' : Int) : Prop where
  a0 : 0 ≤ at'
  a1 : at' < f.code.length
  inI : InI hv
  bits : ∀ h : Nat, h < 8 → tb hv h = false → tb f.needs h = false ∧ Way f.code h at'
  open' : op = (depths 0 f.code).getD at'.toNat 0
section
variable {P : List FnR} {f : FnR} {hv op at' : Int} {x : List Int}
theorem walk_good (hA : Acc P f) (hW : Walk P f hv op at') (hx : f.code[at'.toNat]? = some x) : Good P f.code.length (depths 0 f.code) (heldL f.code f.needs) at'.toNat x := good_iff.1 (hA.good _ _ hx)
theorem walk_held (hW : Walk P f hv op at') {h : Nat} (hh : h < 8) (ht : tb ((heldL f.code f.needs).getD at'.toNat 0) h = true) : tb hv h = true := by
  have h0 := hW.a0; have h1 := hW.a1
  rw [heldL_get (by omega), tb_rs hh, Int.toNat_of_nonneg h0] at ht
  cases q : tb hv h with
  | true => rfl
  | false =>
    obtain ⟨b1, b2⟩ := hW.bits h hh q
    rcases heldB_iff.1 ht with r | r
    · rw [b1] at r; cases r
    · exact (r b2).elim
/-- a step to a place that comes behind -/
theorem walk_to (hn : f.code.length ≤ 128) (hW : Walk P f hv op at') (hx : f.code[at'.toNat]? = some x) {z : Int} {hv' op' : Int} (hz : z ∈ behind f.code.length at' x) (hI : InI hv')
    (hb : ∀ h : Nat, h < 8 → tb hv' h = false → tb hv h = false ∧ forks x h = false) (ho : op' = (depths 0 f.code).getD z.toNat 0) : Walk P f hv' op' z := by
  have h0 := hW.a0; have h1 := hW.a1
  have hin := behind_in (x := x) (n := f.code.length) (i := at') (by omega) h0 h1 z hz
  have hg : f.code.getD at'.toNat [] = x := by simp [hx]
  refine ⟨hin.1, hin.2, hI, fun h hh ht => ?_, ho⟩
  obtain ⟨b1, b2⟩ := hb h hh ht
  obtain ⟨c1, c2⟩ := hW.bits h hh b1
  exact ⟨c1, c2.next (by rw [hg]; exact b2) (by rw [hg]; exact hz)⟩
theorem behind_next (hA : Acc P f) (hW : Walk P f hv op at') (hx : f.code[at'.toNat]? = some x) (h6 : opI x ≠ 6) (h15 : opI x ≠ 15) (h16 : opI x ≠ 16) : at' + 1 ∈ behind f.code.length at' x ∧ at' + 1 < f.code.length := by
  have h0 := hW.a0; have h1 := hW.a1; have hl := hA.l1
  have hg := walk_good hA hW hx
  have he : isEnds x = false := by unfold isEnds; rw [show (opI x == 16) = false by simpa using h16, show (opI x == 15) = false by simpa using h15]; rfl
  have h6' : (opI x != 6) = true := by simpa using h6
  have hlt : at' + 1 < f.code.length := by
    have := hg.last
    unfold lastB at this
    rw [he, h6'] at this
    simp only [Bool.and_true, Bool.not_false, beq_eq_false_iff_ne, ne_eq] at this
    omega
  have hw : IntKind.wrap .i64 (at' + 1) = at' + 1 := wrap_id ⟨by omega, by omega⟩
  refine ⟨?_, hlt⟩
  unfold behind
  have hB : yB f.code.length at' x = true := by unfold yB; rw [he, h6', hw, decide_eq_true hlt]; rfl
  rw [if_pos hB, hw]; simp
theorem behind_goes (hA : Acc P f) (hW : Walk P f hv op at') (hx : f.code[at'.toNat]? = some x) (hgo : isGoes x = true) : x.getD 4 0 ∈ behind f.code.length at' x := by
  have hg := walk_good hA hW hx
  have h1 := (places_in hg.places).1 hgo
  have h2 := (chk0 (hA.ok x (List.mem_of_getElem? hx))).2.2.1 hgo
  unfold behind
  have hB : yA f.code.length x = true := by unfold yA; rw [hgo, decide_eq_true ⟨h2.1, h1⟩]; rfl
  rw [if_pos hB]; simp
theorem depth_next (hW : Walk P f hv op at') (hx : f.code[at'.toNat]? = some x) (hlt : at' + 1 < f.code.length) : (depths 0 f.code).getD (at' + 1).toNat 0 = stepD op x := by
  have h0 := hW.a0
  have e : (at' + 1).toNat = at'.toNat + 1 := by omega
  have hg : f.code.getD at'.toNat [] = x := by simp [hx]
  rw [e, depths_step (by omega), hg, ← hW.open']
theorem forks_not {h : Int} (h8 : opI x ≠ 8) : forks x h = false := by
  unfold forks; rw [show (opI x == 8) = false by simpa using h8]; rfl
/-- the next one -/
theorem walk_next (hA : Acc P f) (hW : Walk P f hv op at') (hx : f.code[at'.toNat]? = some x) (h6 : opI x ≠ 6) (h15 : opI x ≠ 15) (h16 : opI x ≠ 16) (h8 : opI x ≠ 8) : Walk P f hv (stepD op x) (at' + 1) := by
  obtain ⟨hz, hlt⟩ := behind_next hA hW hx h6 h15 h16
  exact walk_to hA.l1 hW hx hz hW.inI (fun h hh ht => ⟨ht, forks_not h8⟩) (depth_next hW hx hlt).symm
theorem walk_goes (hA : Acc P f) (hW : Walk P f hv op at') (hx : f.code[at'.toNat]? = some x) (hgo : isGoes x = true) : Walk P f hv op (x.getD 4 0) := by
  have hg := walk_good hA hW hx
  have ho : opI x = 6 ∨ opI x = 7 := by unfold isGoes at hgo; simpa using hgo
  have h8 : opI x ≠ 8 := by omega
  refine walk_to hA.l1 hW hx (behind_goes hA hW hx hgo) hW.inI (fun h hh ht => ⟨ht, forks_not h8⟩) ?_
  have := hg.scopes
  unfold scopesOk at this
  rw [if_neg (by rcases ho with ho | ho <;> rw [ho] <;> decide), if_neg (by rcases ho with ho | ho <;> rw [ho] <;> decide), if_pos hgo] at this
  rw [hW.open']
  exact (by simpa using this : _ = _).symm
end
end Go.Proofs.Ytinieegaaimilaa
