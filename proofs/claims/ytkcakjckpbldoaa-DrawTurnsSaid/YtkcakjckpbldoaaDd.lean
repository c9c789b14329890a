/-
  Layer 17: orders, as lists.
-/
import Derived.Test.YtkcakjckpbldoaaDc
set_option linter.unusedSimpArgs false
set_option linter.unusedVariables false
set_option maxRecDepth 100000
namespace Go.Proofs.Ytkcakjckpbldoaa
open Go Go.Ev Go.Proofs

theorem mem_mayL {self on idle x : Int} {n : Nat} : x ∈ mayL self on idle n ↔ 0 ≤ x ∧ x < n ∧ mayB self on idle x.toNat = true := by
  unfold mayL
  simp only [List.mem_map, List.mem_filter, List.mem_range]
  constructor
  · rintro ⟨i, ⟨h1, h2⟩, rfl⟩
    exact ⟨by simp, by simpa using h1, by simpa using h2⟩
  · rintro ⟨h0, h1, h2⟩
    exact ⟨x.toNat, ⟨by omega, h2⟩, by simp; omega⟩
theorem mayL_sorted (self on idle : Int) (n : Nat) : (mayL self on idle n).Pairwise (· < ·) := by
  unfold mayL
  rw [List.pairwise_map]
  refine (List.Pairwise.filter _ (List.pairwise_lt_range (n := n))).imp ?_
  intro a b h
  show (a : Int) < b
  omega
theorem sorted_get {M : List Int} (h : M.Pairwise (· < ·)) {i j : Nat} {x y : Int} (hi : M[i]? = some x) (hj : M[j]? = some y) (hij : i < j) : x < y := by
  obtain ⟨h1, rfl⟩ := List.getElem?_eq_some_iff.1 hi
  obtain ⟨h2, rfl⟩ := List.getElem?_eq_some_iff.1 hj
  exact List.pairwise_iff_getElem.1 h i j h1 h2 hij

/-- where a turned list breaks -/
def brk (v : Int) (M : List Int) : Nat := (v % M.length).toNat
theorem brk_lt {v : Int} {M : List Int} (h : 0 < M.length) : brk v M < M.length := by
  have h0 : 0 ≤ v % M.length := Int.emod_nonneg _ (by omega)
  have h1 : v % M.length < M.length := Int.emod_lt_of_pos _ (by omega)
  unfold brk; omega
theorem brk_le (v : Int) (M : List Int) : brk v M ≤ M.length ∨ M = [] := by
  by_cases h : 0 < M.length
  · exact .inl (Nat.le_of_lt (brk_lt h))
  · exact .inr (List.eq_nil_of_length_eq_zero (by omega))
theorem rot_len (v : Int) (M : List Int) : (rot v M).length = M.length := by
  have : rot v M = M.drop (brk v M) ++ M.take (brk v M) := rfl
  rw [this, List.length_append, List.length_drop, List.length_take]
  rcases brk_le v M with h | h
  · omega
  · subst h; simp
theorem rot_get {v : Int} {M : List Int} {i : Nat} (hi : i < M.length) : (rot v M)[i]? = if i < M.length - brk v M then M[brk v M + i]? else M[i - (M.length - brk v M)]? := by
  have e : rot v M = M.drop (brk v M) ++ M.take (brk v M) := rfl
  have hb := brk_lt (v := v) (M := M) (by omega)
  rw [e]
  split
  · rw [List.getElem?_append_left (by simp; omega), List.getElem?_drop]
  · rw [List.getElem?_append_right (by simp; omega), List.length_drop, List.getElem?_take_of_lt (by omega)]
theorem mem_rot {v x : Int} {M : List Int} : x ∈ rot v M ↔ x ∈ M := by
  have e : rot v M = M.drop (brk v M) ++ M.take (brk v M) := rfl
  rw [e, List.mem_append]
  conv => rhs; rw [← List.take_append_drop (brk v M) M, List.mem_append]
  exact Or.comm
theorem rot_nodup {v : Int} {M : List Int} (h : M.Pairwise (· < ·)) : (rot v M).Nodup := by
  have e : rot v M = M.drop (brk v M) ++ M.take (brk v M) := rfl
  have hn : M.Nodup := h.imp fun h => by omega
  rw [← List.take_append_drop (brk v M) M] at hn
  rw [e]
  exact (List.perm_append_comm.nodup_iff).1 hn
/-- where it falls -/
theorem rot_falls {v : Int} {M : List Int} (h : M.Pairwise (· < ·)) {i : Nat} {x y : Int} (hi : 0 < i) (hx : (rot v M)[i]? = some x) (hy : (rot v M)[i - 1]? = some y) : x < y ↔ 0 < brk v M ∧ i = M.length - brk v M := by
  have hl : i < M.length := by have := (List.getElem?_eq_some_iff.1 hx).1; rwa [rot_len] at this
  have hb := brk_lt (v := v) (M := M) (by omega)
  rw [rot_get hl] at hx
  rw [rot_get (by omega)] at hy
  by_cases c1 : i < M.length - brk v M
  · rw [if_pos c1] at hx
    rw [if_pos (by omega)] at hy
    have := sorted_get h hy hx (by omega)
    constructor
    · intro hlt; omega
    · intro ⟨_, e⟩; omega
  · rw [if_neg c1] at hx
    by_cases c2 : i - 1 < M.length - brk v M
    · rw [if_pos c2] at hy
      have := sorted_get h hx hy (by omega)
      constructor
      · intro _; exact ⟨by omega, by omega⟩
      · intro _; exact this
    · rw [if_neg c2] at hy
      have := sorted_get h hy hx (by omega)
      constructor
      · intro hlt; omega
      · intro ⟨_, e⟩; omega
/-- the last one and the first one -/
theorem rot_ends {v : Int} {M : List Int} (h : M.Pairwise (· < ·)) {x y : Int} (hb0 : 0 < brk v M) (hx : (rot v M)[M.length - 1]? = some x) (hy : (rot v M)[0]? = some y) : x < y := by
  have hl : M.length - 1 < M.length := by have := (List.getElem?_eq_some_iff.1 hy).1; rw [rot_len] at this; omega
  have hb := brk_lt (v := v) (M := M) (by omega)
  rw [rot_get hl, if_neg (by omega)] at hx
  rw [rot_get (by omega), if_pos (by omega)] at hy
  exact sorted_get h hx hy (by omega)
theorem rot_mod {v : Int} {M : List Int} : rot (v % M.length) M = rot v M := by
  unfold rot
  rw [Int.emod_emod_of_dvd v (Int.dvd_refl _)]
theorem rot_first {k : Nat} {M : List Int} (hk : k < M.length) : (rot (k : Int) M)[0]? = M[k]? := by
  have hb : brk (k : Int) M = k := by
    unfold brk
    rw [Int.emod_eq_of_lt (by omega) (by omega)]; simp
  rw [rot_get (by omega), hb, if_pos (by omega), Nat.add_zero]

end Go.Proofs.Ytkcakjckpbldoaa
