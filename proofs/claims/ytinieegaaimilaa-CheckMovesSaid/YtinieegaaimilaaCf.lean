/-
  Layer 4: what is held: a step of the flow, and that it ends.
-/
import Derived.Test.YtinieegaaimilaaCd
set_option linter.unusedSimpArgs false
set_option linter.unusedVariables false
set_option maxRecDepth 100000
namespace Go.Proofs.Ytinieegaaimilaa
open Go Go.Ev Go.Proofs

theorem bv_s {m : Nat} (h : m < 2 ^ 63) : (bv (m : Int)).toNat = m := by
  rw [BitVec.toNat_ofInt]; omega
theorem toInt_s {b : BitVec 64} (h : b.toNat < 2 ^ 63) : b.toInt = b.toNat := by
  rw [BitVec.toInt_eq_toNat_cond]; split <;> omega
theorem and_le {a b : Int} (h0 : 0 ≤ a) (h1 : a ≤ 255) : 0 ≤ andI .i64 a b ∧ andI .i64 a b ≤ a := by
  rw [andI_bv]
  have e : (bv a).toNat = a.toNat := by
    have := bv_s (m := a.toNat) (by omega)
    rwa [Int.toNat_of_nonneg h0] at this
  have h2 : (bv a &&& bv b).toNat ≤ a.toNat := by rw [BitVec.toNat_and, e]; exact Nat.and_le_left
  rw [toInt_s (by omega)]
  omega

/-- what forks add -/
def hvOf (x : List Int) (h : Int) : Int := if opI x = 8 ∧ 0 ≤ x.getD 1 0 ∧ x.getD 1 0 < 8 then orI .i64 h (shlV .i64 1 (x.getD 1 0)) else h
def Fl.meets (hv : Int) (F : Fl) (zs : List Int) : Fl := zs.foldl (fun F z => F.meet z hv) F
def Fl.step (l : List (List Int)) (F : Fl) : Fl := match F.todo with
  | [] => F
  | i :: t => Fl.meets (hvOf (l.getD i.toNat []) (F.held.getD i.toNat 0)) { F with todo := t } (behind l.length i (l.getD i.toNat []))

structure Fl.OK (n : Nat) (F : Fl) : Prop where
  held : F.held.length = n
  come : F.come.length = n
  bits : ∀ h ∈ F.held, 0 ≤ h ∧ h ≤ 255
  todo : ∀ i ∈ F.todo, 0 ≤ i ∧ i < n
def sumN (l : List Int) : Nat := (l.map Int.toNat).sum
def cntF (l : List Bool) : Nat := (l.map fun b => if b then 0 else 1).sum
def Fl.mu (F : Fl) : Nat := 3 * (sumN F.held + cntF F.come) + F.todo.length

theorem sumN_set : ∀ {l : List Int} {i : Nat} {a : Int}, i < l.length → sumN (l.set i a) + (l.getD i 0).toNat = sumN l + a.toNat
  | [], i, a, h => by simp at h
  | x :: l, 0, a, h => by simp [sumN]; omega
  | x :: l, i + 1, a, h => by
    have := sumN_set (l := l) (i := i) (a := a) (by simpa using h)
    simp [sumN] at this ⊢; omega
theorem cntF_set : ∀ {l : List Bool} {i : Nat}, i < l.length → cntF (l.set i true) + (if l.getD i false then 0 else 1) = cntF l
  | [], i, h => by simp at h
  | x :: l, 0, h => by cases x <;> simp [cntF] <;> omega
  | x :: l, i + 1, h => by
    have := cntF_set (l := l) (i := i) (by simpa using h)
    simp [cntF] at this ⊢; omega

theorem meet_ok {n : Nat} {F : Fl} {i hv : Int} (h : F.OK n) (h0 : 0 ≤ i) (h1 : i < n) : (F.meet i hv).OK n ∧ (F.meet i hv).mu ≤ F.mu := by
  unfold Fl.meet
  split
  · exact ⟨h, Nat.le_refl _⟩
  · rename_i hst
    have hi : i.toNat < F.held.length := by rw [h.held]; omega
    have hic : i.toNat < F.come.length := by rw [h.come]; omega
    have hb := h.bits (F.held.getD i.toNat 0) (by
      have e : F.held.getD i.toNat 0 = F.held[i.toNat] := by simp [hi]
      rw [e]; exact List.getElem_mem hi)
    have ha := and_le (b := hv) hb.1 hb.2
    refine ⟨⟨by simp [h.held], by simp [h.come], fun x hx => ?_, fun z hz => ?_⟩, ?_⟩
    · rcases List.mem_or_eq_of_mem_set hx with hx | rfl
      · exact h.bits x hx
      · unfold Fl.now; omega
    · rcases List.mem_append.1 hz with hz | hz
      · exact h.todo z hz
      · simp at hz; omega
    · have e1 := sumN_set (a := F.now i hv) hi
      have e2 := cntF_set hic
      simp only [Fl.mu, List.length_append, List.length_singleton]
      unfold Fl.stay at hst
      unfold Fl.now at e1 hst ⊢
      cases hcm : F.come.getD i.toNat false with
      | false => rw [hcm] at e2; simp at e2; omega
      | true =>
        rw [hcm] at hst e2
        simp only [Bool.true_and, beq_iff_eq] at hst
        simp at e2
        omega
theorem meets_ok {n : Nat} {hv : Int} : ∀ {zs : List Int} {F : Fl}, F.OK n → (∀ z ∈ zs, 0 ≤ z ∧ z < n) → (Fl.meets hv F zs).OK n ∧ (Fl.meets hv F zs).mu ≤ F.mu
  | [], F, h, _ => ⟨h, Nat.le_refl _⟩
  | z :: zs, F, h, hz => by
    have h1 := meet_ok (hv := hv) h (hz z (by simp)).1 (hz z (by simp)).2
    have h2 := meets_ok (hv := hv) (zs := zs) h1.1 fun y hy => hz y (by simp [hy])
    exact ⟨h2.1, Nat.le_trans h2.2 h1.2⟩
theorem behind_in {n : Nat} {i : Int} {x : List Int} (hn : n ≤ 4294967296) (h0 : 0 ≤ i) (h1 : i < n) : ∀ z ∈ behind n i x, 0 ≤ z ∧ z < n := by
  intro z hz
  have hw : IntKind.wrap .i64 (i + 1) = i + 1 := wrap_id ⟨by omega, by omega⟩
  unfold behind at hz
  rcases List.mem_append.1 hz with hz | hz
  · split at hz
    · rename_i hA
      simp only [List.mem_singleton] at hz; subst hz
      unfold yA at hA
      simp only [Bool.and_eq_true, decide_eq_true_eq] at hA
      exact hA.2
    · cases hz
  · split at hz
    · rename_i hB
      simp only [List.mem_singleton] at hz; subst hz
      unfold yB at hB
      simp only [Bool.and_eq_true, decide_eq_true_eq] at hB
      rw [hw] at hB ⊢
      exact ⟨by omega, hB.2⟩
    · cases hz
theorem step_ok {l : List (List Int)} {F : Fl} (hn : l.length ≤ 4294967296) (h : F.OK l.length) (ht : F.todo ≠ []) : (F.step l).OK l.length ∧ (F.step l).mu < F.mu := by
  unfold Fl.step
  split
  · rename_i e; exact (ht e).elim
  · rename_i i t e
    have hi := h.todo i (by rw [e]; simp)
    have h' : Fl.OK l.length { F with todo := t } := ⟨h.held, h.come, h.bits, fun z hz => h.todo z (by rw [e]; simp [hz])⟩
    have h2 := meets_ok (hv := hvOf (l.getD i.toNat []) (F.held.getD i.toNat 0)) h' (behind_in (x := l.getD i.toNat []) hn hi.1 hi.2)
    refine ⟨h2.1, Nat.lt_of_le_of_lt h2.2 ?_⟩
    simp only [Fl.mu, e, List.length_cons]; omega
end Go.Proofs.Ytinieegaaimilaa
