/-
  For every number and every row of instructions, CheckDead of package pelotonlaw04 returns true, panics never, and leaves what it was given as it was. Conditions: none.
-/
import Derived.Test.YtinieegaaimilaaCx
import Derived.Test.YtinieegaaimilaaEvT
import Derived.Test.YtinieegaaimilaaRows
set_option linter.unusedSimpArgs false
set_option linter.unusedVariables false
set_option maxRecDepth 100000
namespace Go.Proofs.Ytinieegaaimilaa.CheckDead
open Go Go.Ev Go.Proofs Go.Proofs.Ytinieegaaimilaa Go.RowKit Go.ChangeShapes Go.WideShapes

/-! ### the lift -/
theorem own : ownKnob Try.prog.godebug = none := by kernel_rfl
theorem walk (W : World) (args : Array Value) (hA : Args Try.prog W Try.f6.params.toList args.toList) :
    Calls Try.prog 6 args W fun e W' => e = .returned (.bool true) ∧ Below W.heap.size W W' := by
  rw [Try.params6] at hA
  obtain ⟨v0, _, e0, h0, hA⟩ := hA.cons
  obtain ⟨v1, _, rfl, h1, hA⟩ := hA.cons
  obtain rfl := hA.nil
  obtain rfl : args = #[v0, v1] := by cases args; simp_all
  obtain ⟨n, rfl, hN⟩ := h0.int (by kernel_rfl)
  obtain ⟨s, rfl, hs⟩ := h1.slice Try.underlying22
  obtain ⟨s', l, e, hr⟩ := hs.code progT
  obtain rfl : s = s' := by
    obtain ⟨a, n, c⟩ := s; obtain ⟨a', n', c'⟩ := s'
    simpa using e
  refine Sound.call (aks := [.i .i64, .s]) (rks := [.b]) (F := fun x w k => pelotonlaw04_CheckDead x.1 x.2 w k) s_pelotonlaw04_CheckDead (n, s) rfl ?_
  exact law_dead hr fun w' hS => ⟨rfl, hS.ext.below⟩

theorem lifted (os : Os) (started : os.Started) (H : Type) (enc : TypeId × Value → H) :
    ReturnsInHanded {} Try.checked os 6 .any (Rows.checkDeadSpec.pre6 enc Try.prog Try.f6 Rows.checkDeadRow.domain false) (Rows.checkDeadSpec.post enc Try.prog Try.f6 false true false false) :=
  law_lifted (C := Try.checked) own started (by kernel_rfl) Try.func6
    (ChangeSpec.witness6 (enc := enc) (C := Try.checked) false ⟨#[], #[.int .i64 0, .slice none 0 0], []⟩ 8 (by kernel_rfl) (by kernel_rfl) (by kernel_rfl) (by kernel_rfl))
    rfl (by kernel_rfl) (by kernel_rfl) (tb := 4) (by kernel_rfl) (by kernel_rfl)
    (fun ds h => by
      match ds, h with
      | [_, _], _ => rfl)
    walk

theorem over : Rows.checkDeadRow.holds Try.pinned (OpenSpec.ofChange Rows.checkDeadSpec) :=
  OpenClaim.holds_of_wide 6 Try.f6 rfl rfl rfl rfl rfl rfl rfl ⟨rfl, rfl, rfl, rfl, rfl⟩ rfl rfl rfl rfl rfl (by kernel_rfl) Try.func6 (by kernel_rfl)
    (of_decide_eq_true (by kernel_rfl)) (by unfold Func.isWrapper; first | (rw [if_pos (by decide +kernel)]; kernel_rfl) | (rw [if_neg (by decide +kernel)]; exact ⟨rfl, rfl⟩))
    (fun os started H enc _ => lifted os started H enc)

theorem proved : Rows.CheckDeadSaid := over
#print axioms proved
end Go.Proofs.Ytinieegaaimilaa.CheckDead
