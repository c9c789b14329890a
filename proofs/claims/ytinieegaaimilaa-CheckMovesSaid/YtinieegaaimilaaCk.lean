/-
  Layer 4: the reference: to which instructions a way leads on which a handle is not forked.
-/
import Derived.Test.YtinieegaaimilaaCj
set_option linter.unusedSimpArgs false
set_option linter.unusedVariables false
set_option maxRecDepth 100000
namespace Go.Proofs.Ytinieegaaimilaa
open Go Go.Ev Go.Proofs

structure Wy where
  out : List Bool
  todo : List Int
def Wy.see (W : Wy) (z : Int) : Wy := if W.out.getD z.toNat false then W else ⟨W.out.set z.toNat true, W.todo ++ [z]⟩
def Wy.sees (W : Wy) (zs : List Int) : Wy := zs.foldl Wy.see W
def forks (x : List Int) (h : Int) : Bool := (opI x == 8) && (x.getD 1 0 == h)
def Wy.step (l : List (List Int)) (h : Int) (W : Wy) : Wy := match W.todo.getLast? with
  | none => W
  | some i => if forks (l.getD i.toNat []) h then { W with todo := W.todo.dropLast } else Wy.sees { W with todo := W.todo.dropLast } (behind l.length i (l.getD i.toNat []))
structure Wy.OK (n : Nat) (W : Wy) : Prop where
  out : W.out.length = n
  todo : ∀ i ∈ W.todo, 0 ≤ i ∧ i < n
def Wy.mu (W : Wy) : Nat := 2 * cntF W.out + W.todo.length
theorem see_ok {n : Nat} {W : Wy} {z : Int} (h : W.OK n) (h0 : 0 ≤ z) (h1 : z < n) : (W.see z).OK n ∧ (W.see z).mu ≤ W.mu := by
  unfold Wy.see
  split
  · exact ⟨h, Nat.le_refl _⟩
  · rename_i hz
    have hi : z.toNat < W.out.length := by rw [h.out]; omega
    refine ⟨⟨by simp [h.out], fun y hy => ?_⟩, ?_⟩
    · rcases List.mem_append.1 hy with hy | hy
      · exact h.todo y hy
      · simp at hy; omega
    · have e := cntF_set hi
      have hz' : W.out.getD z.toNat false = false := by simpa using hz
      rw [hz'] at e
      simp only [Wy.mu, List.length_append, List.length_singleton]
      simp at e; omega
theorem sees_ok {n : Nat} : ∀ {zs : List Int} {W : Wy}, W.OK n → (∀ z ∈ zs, 0 ≤ z ∧ z < n) → (W.sees zs).OK n ∧ (W.sees zs).mu ≤ W.mu
  | [], W, h, _ => ⟨h, Nat.le_refl _⟩
  | z :: zs, W, h, hz => by
    have h1 := see_ok h (hz z (by simp)).1 (hz z (by simp)).2
    have h2 := sees_ok (zs := zs) h1.1 fun y hy => hz y (by simp [hy])
    exact ⟨h2.1, Nat.le_trans h2.2 h1.2⟩
theorem wstep_ok {l : List (List Int)} {h : Int} {W : Wy} (hn : l.length ≤ 4294967296) (hW : W.OK l.length) (ht : W.todo ≠ []) : (W.step l h).OK l.length ∧ (W.step l h).mu < W.mu := by
  have hlast : W.todo.getLast? = some (W.todo.getLast ht) := List.getLast?_eq_some_getLast ht
  unfold Wy.step
  rw [hlast]
  have hi := hW.todo (W.todo.getLast ht) (List.getLast_mem ht)
  have hpos : 0 < W.todo.length := List.length_pos_iff.2 ht
  have h' : Wy.OK l.length { W with todo := W.todo.dropLast } := ⟨hW.out, fun z hz => hW.todo z (List.dropLast_subset _ hz)⟩
  have hm : Wy.mu { W with todo := W.todo.dropLast } < W.mu := by simp only [Wy.mu, List.length_dropLast]; omega
  simp only
  split
  · exact ⟨h', hm⟩
  · have h2 := sees_ok h' (behind_in (x := l.getD (W.todo.getLast ht).toNat []) hn hi.1 hi.2)
    exact ⟨h2.1, Nat.lt_of_le_of_lt h2.2 hm⟩
end Go.Proofs.Ytinieegaaimilaa
