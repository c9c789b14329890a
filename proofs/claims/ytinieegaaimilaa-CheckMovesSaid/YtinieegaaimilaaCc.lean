/-
  Layer 4: what is held: the start.
-/
import Derived.Test.YtinieegaaimilaaCb
set_option linter.unusedSimpArgs false
set_option linter.unusedVariables false
set_option maxRecDepth 100000
namespace Go.Proofs.Ytinieegaaimilaa
open Go Go.Ev Go.Proofs

theorem elB {P : Program} {t : TypeId} (h : elInfo P t = some (1, 1, some (.bool false))) : ElS P t 1 1 (.bool false) := ⟨h, rfl⟩
def Fl.start (n : Nat) : Fl := ⟨List.replicate n 0, List.replicate n false, []⟩
theorem ints_rep (n : Nat) : List.replicate n (Value.int .i64 0) = ints (List.replicate n 0) := by simp [ints]
theorem bls_rep (n : Nat) : List.replicate n (Value.bool false) = bls (List.replicate n false) := by simp [bls]

/-- what a flow's making leaves -/
theorem start_shut {w0 w : World} {L R : List HP} {g gp : Nat} {code s1 s2 : Sl} {n : Nat} (h : St w0 w L)
    (hp : L.Perm (blk g [.slice code.a code.n code.c, .slice s1.a s1.n s1.c, .slice s2.a s2.n s2.c, .slice none 0 0] :: slc 1 s1 (List.replicate n (.int .i64 0)) :: slc 1 s2 (List.replicate n (.bool false)) :: blk gp [.pointer (some ⟨g, 0, none⟩)] :: R)) :
    St w0 w (flow g (code, Fl.start n) :: blk gp [.pointer (some ⟨g, 0, none⟩)] :: R) := by
  have h := (h.perm hp).nilS 1
  rw [ints_rep, bls_rep] at h
  exact flow_shut (s1 := s1) (s2 := s2) (s3 := ⟨none, 0, 0⟩) (h.perm (by simp only [Fl.start]; repeat' (first | exact List.Perm.refl _ | refine perm_f 0 rfl ?_ | refine perm_f 1 rfl ?_ | refine perm_f 2 rfl ?_ | refine perm_f 3 rfl ?_ | refine perm_f 4 rfl ?_ | refine perm_f 5 rfl ?_ | refine perm_f 6 rfl ?_ | refine perm_f 7 rfl ?_)))
end Go.Proofs.Ytinieegaaimilaa
