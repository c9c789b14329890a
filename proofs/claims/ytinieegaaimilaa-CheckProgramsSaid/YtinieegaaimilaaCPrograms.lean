/-
  For every program, CheckPrograms of package pelotonlaw04 returns true, panics never, and leaves what it was given as it was. Conditions: none.
-/
import Derived.Test.YtinieegaaimilaaDa
import Derived.Test.YtinieegaaimilaaEvT
import Derived.Test.YtinieegaaimilaaRows
set_option linter.unusedSimpArgs false
set_option linter.unusedVariables false
set_option maxRecDepth 100000
namespace Go.Proofs.Ytinieegaaimilaa.CheckPrograms
open Go Go.Ev Go.Proofs Go.Proofs.Ytinieegaaimilaa Go.RowKit Go.ChangeShapes Go.WideShapes

/-! ### the lift -/
theorem own : ownKnob Try.prog.godebug = none := by kernel_rfl
theorem walk (W : World) (args : Array Value) (hA : Args Try.prog W Try.f8.params.toList args.toList) :
    Calls Try.prog 8 args W fun e W' => e = .returned (.bool true) ∧ Below W.heap.size W W' := by
  rw [Try.params8] at hA
  obtain ⟨v0, _, e0, h0, hA⟩ := hA.cons
  obtain rfl := hA.nil
  obtain rfl : args = #[v0] := by cases args; simp_all
  obtain ⟨ps, P, rfl, hF⟩ := h0.program progT
  refine Sound.call (aks := [.ag]) (rks := [.b]) (F := fun x w k => pelotonlaw04_CheckPrograms x w k) s_pelotonlaw04_CheckPrograms #[.slice ps.a ps.n ps.c] rfl ?_
  exact law_programs hF fun w' hS => ⟨rfl, hS.ext.below⟩

theorem lifted (os : Os) (started : os.Started) (H : Type) (enc : TypeId × Value → H) :
    ReturnsInHanded {} Try.checked os 8 .any (Rows.checkProgramsSpec.pre6 enc Try.prog Try.f8 Rows.checkProgramsRow.domain false) (Rows.checkProgramsSpec.post enc Try.prog Try.f8 false true false false) :=
  law_lifted (C := Try.checked) own started (by kernel_rfl) Try.func8
    (ChangeSpec.witness6 (enc := enc) (C := Try.checked) false ⟨#[], #[.agg #[.slice none 0 0]], []⟩ 8 (by kernel_rfl) (by kernel_rfl) (by kernel_rfl) (by kernel_rfl))
    rfl (by kernel_rfl) (by kernel_rfl) (tb := 4) (by kernel_rfl) (by kernel_rfl)
    (fun ds h => by
      match ds, h with
      | [_], _ => rfl)
    walk

theorem over : Rows.checkProgramsRow.holds Try.pinned (OpenSpec.ofChange Rows.checkProgramsSpec) :=
  OpenClaim.holds_of_wide 8 Try.f8 rfl rfl rfl rfl rfl rfl rfl ⟨rfl, rfl, rfl, rfl, rfl⟩ rfl rfl rfl rfl rfl (by kernel_rfl) Try.func8 (by kernel_rfl)
    (of_decide_eq_true (by kernel_rfl)) (by unfold Func.isWrapper; first | (rw [if_pos (by decide +kernel)]; kernel_rfl) | (rw [if_neg (by decide +kernel)]; exact ⟨rfl, rfl⟩))
    (fun os started H enc _ => lifted os started H enc)

theorem proved : Rows.CheckProgramsSaid := over
#print axioms proved
end Go.Proofs.Ytinieegaaimilaa.CheckPrograms
