/-
  Layer 4: a function that begins with a Check more: the plain law.
-/
import Derived.Test.YtinieegaaimilaaDc
set_option linter.unusedSimpArgs false
set_option linter.unusedVariables false
set_option maxRecDepth 100000
namespace Go.Proofs.Ytinieegaaimilaa
open Go Go.Ev Go.Proofs

def mv (x : List Int) : List Int := if isGoes x then x.set 4 (x.getD 4 0 + 1) else x
def ckI : List Int := [14, 0, 0, 0, 0]
def movedL (l : List (List Int)) : List (List Int) := ckI :: l.map mv
theorem movedL_len (l : List (List Int)) : (movedL l).length = l.length + 1 := by simp [movedL]
/-- instructions, with jumps that may be moved -/
def Jok (l : List (List Int)) : Prop := ∀ x ∈ l, x.length = 5 ∧ (isGoes x = true → 0 ≤ x.getD 4 0 ∧ x.getD 4 0 ≤ 126)
section
variable {x : List Int}
theorem mv_k {k : Nat} (hk : k < 4) : (mv x).getD k 0 = x.getD k 0 := by
  unfold mv; split
  · simp [List.getD_eq_getElem?_getD, List.getElem?_set, show ¬ 4 = k by omega]
  · rfl
theorem mv_4 (h5 : x.length = 5) : (mv x).getD 4 0 = if isGoes x then x.getD 4 0 + 1 else x.getD 4 0 := by
  unfold mv; split
  · simp [List.getD_eq_getElem?_getD, h5]
  · rfl
theorem mv_op : opI (mv x) = opI x := mv_k (by omega)
theorem mv_goes : isGoes (mv x) = isGoes x := by unfold isGoes; rw [mv_op]
theorem mv_ends : isEnds (mv x) = isEnds x := by unfold isEnds; rw [mv_op]
theorem mv_forks {h : Int} : forks (mv x) h = forks x h := by unfold forks; rw [mv_op, mv_k (by omega)]
theorem mv_len : (mv x).length = x.length := by unfold mv; split <;> simp
theorem mv_chk (h5 : x.length = 5) (hg : isGoes x = true → 0 ≤ x.getD 4 0 ∧ x.getD 4 0 ≤ 126) : chk (mv x) = chk x := by
  cases hgo : isGoes x with
  | false => unfold mv; rw [hgo]; rfl
  | true =>
    obtain ⟨h0, h1⟩ := hg hgo
    have ho : opI x = 6 ∨ opI x = 7 := by unfold isGoes at hgo; simpa using hgo
    have h3 : (kinds (opI x)).getD 3 0 = 2 := by rcases ho with ho | ho <;> rw [ho] <;> rfl
    have hf : ∀ j, j < 4 → fit (mv x) (kinds (opI x)) j = fit x (kinds (opI x)) j := by
      intro j hj
      unfold fit
      by_cases q : j = 3
      · subst q
        have e4 : x.getD (3 + 1) 0 = x.getD 4 0 := rfl
        rw [h3, mv_4 h5, if_pos hgo, e4]
        have e : spanOf 2 = (0, 127) := rfl
        rw [e, decide_eq_false (by simp only; omega), decide_eq_false (by simp only; omega), decide_eq_false (by simp only; omega), decide_eq_false (by simp only; omega)]
      · rw [mv_k (by omega)]
    have : fits (mv x) (kinds (opI x)) = fits x (kinds (opI x)) := by
      rw [Bool.eq_iff_iff]
      unfold fits
      rw [List.all_eq_true, List.all_eq_true]
      exact ⟨fun h j hj => by rw [← hf j (by simpa using hj)]; exact h j hj, fun h j hj => by rw [hf j (by simpa using hj)]; exact h j hj⟩
    unfold chk
    rw [mv_op, this]
theorem mv_behind {n : Nat} {i : Int} (h5 : x.length = 5) (hg : isGoes x = true → 0 ≤ x.getD 4 0 ∧ x.getD 4 0 ≤ 126) (hn : n ≤ 1000) (h0 : 0 ≤ i) (h1 : i < n) : behind (n + 1) (i + 1) (mv x) = (behind n i x).map (· + 1) := by
  have hw1 : IntKind.wrap .i64 (i + 1) = i + 1 := wrap_id ⟨by omega, by omega⟩
  have hw2 : IntKind.wrap .i64 (i + 1 + 1) = i + 1 + 1 := wrap_id ⟨by omega, by omega⟩
  have hA : yA (n + 1) (mv x) = yA n x := by
    unfold yA
    rw [mv_goes, mv_4 h5]
    cases hgo : isGoes x with
    | false => rfl
    | true =>
      have := hg hgo
      simp only [Bool.true_and, if_true]
      rw [decide_eq_decide]; omega
  have hB : yB (n + 1) (i + 1) (mv x) = yB n i x := by
    unfold yB
    rw [mv_op, mv_ends, hw1, hw2]
    congr 1
    rw [decide_eq_decide]; omega
  unfold behind
  rw [hA, hB, hw1, hw2, List.map_append]
  congr 1
  · split
    · rename_i q
      have hgo : isGoes x = true := by unfold yA at q; rw [Bool.and_eq_true] at q; exact q.1
      rw [mv_4 h5, if_pos hgo]; rfl
    · rfl
  · split <;> rfl
end
theorem way_in {l : List (List Int)} {h i : Int} (hn : l.length ≤ 1000) (hl : 0 < l.length) (hw : Way l h i) : 0 ≤ i ∧ i < l.length := by
  induction hw with
  | zero => exact ⟨by omega, by omega⟩
  | @next i z _ _ hz ih => exact behind_in (by omega) ih.1 ih.2 z hz
theorem ck_behind {n : Nat} (hn : 1 ≤ n) : behind (n + 1) 0 ckI = [1] := by
  unfold behind
  have hA : yA (n + 1) ckI = false := rfl
  have hB : yB (n + 1) 0 ckI = true := by
    unfold yB
    have e : IntKind.wrap .i64 (0 + 1) = 1 := by decide
    rw [e, decide_eq_true (by omega)]; rfl
  rw [hA, hB]
  have e : IntKind.wrap .i64 (0 + 1) = 1 := by decide
  rw [e]; rfl
section
variable {l : List (List Int)} (hJ : Jok l) (hl : 0 < l.length) (hn : l.length ≤ 1000)
theorem movedL_get {i : Int} (h0 : 0 ≤ i) (h1 : i < l.length) : (movedL l).getD (i + 1).toNat [] = mv (l.getD i.toNat []) := by
  have e : (i + 1).toNat = i.toNat + 1 := by omega
  have hi : i.toNat < l.length := by omega
  rw [e]; simp [movedL, hi]
theorem get_mem {i : Int} (h0 : 0 ≤ i) (h1 : i < l.length) : l.getD i.toNat [] ∈ l := by
  have hi : i.toNat < l.length := by omega
  have e : l.getD i.toNat [] = l[i.toNat] := by simp [hi]
  rw [e]; exact List.getElem_mem hi
include hJ hl hn in
theorem way_back {h j : Int} (hw : Way (movedL l) h j) : j = 0 ∨ Way l h (j - 1) := by
  induction hw with
  | zero => exact .inl rfl
  | @next i z _ hf hz ih =>
    right
    rw [movedL_len] at hz
    rcases ih with rfl | ih
    · have e : (movedL l).getD (0 : Int).toNat [] = ckI := rfl
      rw [e, ck_behind (by omega)] at hz
      have : z = 1 := by simpa using hz
      subst this
      exact .zero
    · obtain ⟨h0, h1⟩ := way_in hn hl ih
      have e := movedL_get (l := l) h0 h1
      rw [show i - 1 + 1 = i by omega] at e
      have hx := hJ _ (get_mem h0 h1)
      have hb := mv_behind (x := l.getD (i - 1).toNat []) (n := l.length) (i := i - 1) hx.1 hx.2 hn h0 h1
      rw [show i - 1 + 1 = i by omega] at hb
      rw [e] at hz hf
      rw [hb] at hz
      obtain ⟨y, hy, rfl⟩ := List.mem_map.1 hz
      rw [mv_forks] at hf
      have := ih.next hf hy
      rwa [show y + 1 - 1 = y by omega]
include hJ hl hn in
theorem way_forth {h i : Int} (hw : Way l h i) : Way (movedL l) h (i + 1) := by
  have hz0 : Way (movedL l) h 1 := by
    refine Way.next (i := 0) .zero rfl ?_
    have e : (movedL l).getD (0 : Int).toNat [] = ckI := rfl
    rw [e, movedL_len, ck_behind (by omega)]; simp
  induction hw with
  | zero => exact hz0
  | @next i z hw hf hz ih =>
    obtain ⟨h0, h1⟩ := way_in hn hl hw
    have e := movedL_get (l := l) h0 h1
    have hx := hJ _ (get_mem h0 h1)
    have hb := mv_behind (x := l.getD i.toNat []) (n := l.length) (i := i) hx.1 hx.2 hn h0 h1
    refine ih.next (by rw [e, mv_forks]; exact hf) ?_
    rw [e, movedL_len, hb]
    exact List.mem_map.2 ⟨z, hz, rfl⟩
include hJ hl hn in
theorem held_moved {needs : Int} {i : Nat} (hi : i < l.length) : (heldL (movedL l) needs).getD (i + 1) 0 = (heldL l needs).getD i 0 := by
  rw [heldL_get (by rw [movedL_len]; omega), heldL_get hi]
  refine rs_congr fun h hh => ?_
  rw [Bool.eq_iff_iff, heldB_iff, heldB_iff]
  have e : (((i + 1 : Nat) : Nat) : Int) = (i : Int) + 1 := by omega
  rw [e]
  have : Way (movedL l) h ((i : Int) + 1) ↔ Way l h i := ⟨fun q => by
    rcases way_back hJ hl hn q with r | r
    · omega
    · rwa [show (i : Int) + 1 - 1 = i by omega] at r, way_forth hJ hl hn⟩
  rw [this]
theorem depths_map : ∀ (l : List (List Int)) (n : Int), depths n (l.map mv) = depths n l
  | [], _ => rfl
  | x :: l, n => by
    have e : stepD n (mv x) = stepD n x := by unfold stepD; rw [mv_op]
    simp only [List.map_cons, depths, e, depths_map l]
theorem depths_moved (l : List (List Int)) : depths 0 (movedL l) = 0 :: depths 0 l := by
  have e : stepD 0 ckI = 0 := rfl
  unfold movedL
  simp only [depths, e, depths_map]
end
theorem handles_mv {P P' : List FnR} {hv : Int} {x : List Int} (h5 : x.length = 5) (hP : ∀ i, needsOf P' i = needsOf P i) : handlesOk P' hv (mv x) = handlesOk P hv x := by
  unfold handlesOk
  rw [mv_op, mv_k (by omega), mv_k (by omega), hP, mv_4 h5]
  cases ho : opI x == 8 with
  | false => simp
  | true =>
    have ho' : opI x = 8 := by simpa using ho
    have : isGoes x = false := by unfold isGoes; rw [ho']; rfl
    rw [this]; rfl
theorem good_mv {P P' : List FnR} {n : Nat} {D H D' H' : List Int} {i : Nat} {x : List Int} (h5 : x.length = 5) (hg : isGoes x = true → 0 ≤ x.getD 4 0 ∧ x.getD 4 0 ≤ 126) (hPl : P'.length = P.length) (hP : ∀ i, needsOf P' i = needsOf P i)
    (hD : ∀ j : Nat, D'.getD (j + 1) 0 = D.getD j 0) (hH : H'.getD (i + 1) 0 = H.getD i 0) : Good P' (n + 1) D' H' (i + 1) (mv x) ↔ Good P n D H i x := by
  have e1 : placesB P'.length (n + 1) (mv x) = placesB P.length n x := by
    unfold placesB
    rw [mv_goes, mv_op, mv_4 h5, hPl]
    cases hgo : isGoes x with
    | false => simp
    | true =>
      have ho : opI x = 6 ∨ opI x = 7 := by unfold isGoes at hgo; simpa using hgo
      have h8 : (opI x == 8) = false := by rcases ho with ho | ho <;> rw [ho] <;> rfl
      rw [h8]
      simp only [Bool.true_and, if_true, Bool.false_and, Bool.or_false]
      rw [decide_eq_decide]; omega
  have e2 : lastB (n + 1) (i + 1) (mv x) = lastB n i x := by
    unfold lastB
    rw [mv_op, mv_ends]
    congr 2
    rw [Bool.eq_iff_iff, beq_iff_eq, beq_iff_eq]; omega
  have e3 : scopesOk D' (i + 1) (mv x) = scopesOk D i x := by
    unfold scopesOk
    rw [mv_op, mv_goes, hD, mv_4 h5]
    cases hgo : isGoes x with
    | false => simp
    | true =>
      have := hg hgo
      simp only [if_true]
      rw [show (x.getD 4 0 + 1).toNat = (x.getD 4 0).toNat + 1 by omega, hD]
  have e4 : handlesOk P' (H'.getD (i + 1) 0) (mv x) = handlesOk P (H.getD i 0) x := by rw [hH, handles_mv h5 hP]
  exact ⟨fun h => ⟨e1 ▸ h.places, e2 ▸ h.last, e3 ▸ h.scopes, e4 ▸ h.handles⟩, fun h => ⟨e1.symm ▸ h.places, e2.symm ▸ h.last, e3.symm ▸ h.scopes, e4.symm ▸ h.handles⟩⟩
theorem good_ck {P : List FnR} {n : Nat} {D H : List Int} (hn : 1 ≤ n) : Good P (n + 1) D H 0 ckI := by
  refine ⟨rfl, ?_, rfl, rfl⟩
  unfold lastB
  have : (((0 : Nat) : Int) == ((n + 1 : Nat) : Int) - 1) = false := by rw [beq_eq_false_iff_ne]; omega
  rw [this]; rfl
theorem good_congr {P P' : List FnR} {n : Nat} {D H : List Int} {i : Nat} {x : List Int} (hPl : P'.length = P.length) (hP : ∀ i, needsOf P' i = needsOf P i) : Good P' n D H i x ↔ Good P n D H i x := by
  have e4 : handlesOk P' (H.getD i 0) x = handlesOk P (H.getD i 0) x := by unfold handlesOk; rw [hP]
  exact ⟨fun h => ⟨hPl ▸ h.places, h.last, h.scopes, e4 ▸ h.handles⟩, fun h => ⟨hPl.symm ▸ h.places, h.last, h.scopes, e4.symm ▸ h.handles⟩⟩
theorem acc_congr {P P' : List FnR} {f : FnR} (hPl : P'.length = P.length) (hP : ∀ i, needsOf P' i = needsOf P i) : Acc P' f ↔ Acc P f :=
  ⟨fun h => ⟨h.n0, h.n1, h.l0, h.l1, h.ok, fun i x hx => good_iff.2 ((good_congr hPl hP).1 (good_iff.1 (h.good i x hx)))⟩,
   fun h => ⟨h.n0, h.n1, h.l0, h.l1, h.ok, fun i x hx => good_iff.2 ((good_congr hPl hP).2 (good_iff.1 (h.good i x hx)))⟩⟩
theorem acc_moved {P P' : List FnR} {f : FnR} {s : Sl} (hPl : P'.length = P.length) (hP : ∀ i, needsOf P' i = needsOf P i) (hJ : Jok f.code) (hl : 1 ≤ f.code.length) (hn : f.code.length ≤ 126) : Acc P' ⟨f.needs, s, movedL f.code⟩ ↔ Acc P f := by
  have hgood : ∀ i x, f.code[i]? = some x → (Good P' (movedL f.code).length (depths 0 (movedL f.code)) (heldL (movedL f.code) f.needs) (i + 1) (mv x) ↔ Good P f.code.length (depths 0 f.code) (heldL f.code f.needs) i x) := by
    intro i x hx
    have hi : i < f.code.length := (List.getElem?_eq_some_iff.1 hx).1
    have h5 := hJ x (List.mem_of_getElem? hx)
    rw [movedL_len]
    exact good_mv h5.1 h5.2 hPl hP (fun j => by rw [depths_moved]; rfl) (held_moved hJ (by omega) (by omega) hi)
  have hget : ∀ i x, f.code[i]? = some x → (movedL f.code)[i + 1]? = some (mv x) := by
    intro i x hx; simp [movedL, hx]
  constructor
  · intro h
    refine ⟨h.n0, h.n1, hl, by omega, fun x hx => ?_, fun i x hx => ?_⟩
    · have := h.ok (mv x) (by simp only [movedL]; exact List.mem_cons_of_mem _ (List.mem_map.2 ⟨x, hx, rfl⟩))
      rwa [mv_chk (hJ x hx).1 (hJ x hx).2] at this
    · exact good_iff.2 ((hgood i x hx).1 (good_iff.1 (h.good (i + 1) (mv x) (hget i x hx))))
  · intro h
    refine ⟨h.n0, h.n1, by simp only [movedL_len]; omega, by simp only [movedL_len]; omega, fun x hx => ?_, fun i x hx => ?_⟩
    · simp only [movedL] at hx
      rcases List.mem_cons.1 hx with rfl | hx
      · decide
      · obtain ⟨y, hy, rfl⟩ := List.mem_map.1 hx
        rw [mv_chk (hJ y hy).1 (hJ y hy).2]; exact h.ok y hy
    · cases i with
      | zero =>
        simp [movedL] at hx; subst hx
        simp only [movedL_len]
        exact good_iff.2 (good_ck hl)
      | succ i =>
        obtain ⟨y, hy, rfl⟩ : ∃ y, f.code[i]? = some y ∧ mv y = x := by
          simp only [movedL, List.getElem?_cons_succ, List.getElem?_map] at hx
          cases q : f.code[i]? with
          | none => rw [q] at hx; cases hx
          | some y => rw [q] at hx; exact ⟨y, rfl, by simpa using hx⟩
        exact good_iff.2 ((hgood i y hy).2 (good_iff.1 (h.good i y hy)))
section
variable {P : List FnR} {k : Nat} {f : FnR} {s : Sl}
theorem map_set_same {A B : Type} {g : A → B} {P : List A} {k : Nat} {f f' : A} (hk : P[k]? = some f) (hg : g f' = g f) : (P.set k f').map g = P.map g := by
  refine List.ext_getElem? fun i => ?_
  rw [List.getElem?_map, List.getElem?_map, List.getElem?_set]
  split
  · rename_i e
    subst e
    have hlt := (List.getElem?_eq_some_iff.1 hk).1
    rw [if_pos hlt, hk]; simp [hg]
  · rfl
theorem accs_moved (hk : P[k]? = some f) (hJ : Jok f.code) (hl : 1 ≤ f.code.length) (hn : f.code.length ≤ 126) : Accs (P.set k ⟨f.needs, s, movedL f.code⟩) ↔ Accs P := by
  have hPl : (P.set k ⟨f.needs, s, movedL f.code⟩).length = P.length := by simp
  have hP : ∀ i, needsOf (P.set k ⟨f.needs, s, movedL f.code⟩) i = needsOf P i := by
    intro i; unfold needsOf; rw [map_set_same (g := FnR.needs) (f' := ⟨f.needs, s, movedL f.code⟩) hk rfl]
  have hlt := (List.getElem?_eq_some_iff.1 hk).1
  have hA := acc_moved (s := s) hPl hP hJ hl hn
  constructor
  · intro h
    refine ⟨by rw [← hPl]; exact h.n0, by rw [← hPl]; exact h.n1, by rw [← hP]; exact h.root, fun g hg => ?_⟩
    obtain ⟨j, hj, rfl⟩ := List.getElem_of_mem hg
    by_cases q : j = k
    · subst q
      have : P[j] = f := by rw [List.getElem?_eq_getElem hj] at hk; simpa using hk
      rw [this]
      exact hA.1 (h.all _ (List.mem_of_getElem? (List.getElem?_set_self hlt)))
    · refine (acc_congr hPl hP).1 (h.all _ (List.mem_of_getElem? (i := j) ?_))
      rw [List.getElem?_set_ne (by omega), List.getElem?_eq_getElem hj]
  · intro h
    refine ⟨by rw [hPl]; exact h.n0, by rw [hPl]; exact h.n1, by rw [hP]; exact h.root, fun g hg => ?_⟩
    rcases List.mem_or_eq_of_mem_set hg with hg | rfl
    · exact (acc_congr hPl hP).2 (h.all g hg)
    · exact hA.2 (h.all f (List.mem_of_getElem? hk))
theorem plain_mv {x : List Int} : plainI (mv x) = plainI x := by
  cases hgo : isGoes x with
  | false => unfold mv; rw [hgo]; rfl
  | true =>
    have ho : opI x = 6 ∨ opI x = 7 := by unfold isGoes at hgo; simpa using hgo
    unfold plainI
    rw [mv_op]
    rcases ho with ho | ho <;> rw [ho] <;> rfl
theorem plain_moved (hk : P[k]? = some f) : plainF (P.set k ⟨f.needs, s, movedL f.code⟩) = plainF P := by
  have e : ∀ Q : List FnR, plainF Q = (Q.map fun f => f.code.all plainI).all id := by intro Q; unfold plainF; rw [List.all_map]; rfl
  rw [e, e, map_set_same hk]
  simp only [movedL, List.all_cons, List.all_map]
  have : plainI ckI = true := rfl
  rw [this, Bool.true_and]
  congr 1
  funext x; exact plain_mv
end
end Go.Proofs.Ytinieegaaimilaa
