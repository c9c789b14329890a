/-
  For every program and every fuel, SerialRuns of package pelotonlaw06 returns true, panics never, and leaves what it was given as it was. Conditions: none.
-/
import Derived.Test.YtgkfbagclkjilaaSz
import Derived.Test.YtgkfbagclkjilaaCkB
import Derived.Test.YtgkfbagclkjilaaEvQ
import Derived.Test.YtgkfbagclkjilaaEvT
import Derived.Test.YtgkfbagclkjilaaRows
set_option linter.unusedSimpArgs false
set_option linter.unusedVariables false
set_option maxRecDepth 100000
namespace Go.Proofs.Ytgkfbagclkjilaa.SerialRuns
open Go Go.Ev Go.Proofs Go.Proofs.Ytgkfbagclkjilaa Go.RowKit Go.ChangeShapes Go.WideShapes

/-! ### the lift -/
theorem own : ownKnob Try.prog.godebug = none := by kernel_rfl
theorem walk (W : World) (args : Array Value) (hA : Args Try.prog W Try.f3.params.toList args.toList) :
    Calls Try.prog 3 args W fun e W' => e = .returned (.bool true) ∧ Below W.heap.size W W' := by
  rw [Try.params3] at hA
  obtain ⟨v0, _, e0, h0, hA⟩ := hA.cons
  obtain ⟨v1, _, rfl, h1, hA⟩ := hA.cons
  obtain rfl := hA.nil
  obtain rfl : args = #[v0, v1] := by cases args; simp_all
  obtain ⟨ps, P, rfl, hF⟩ := h0.program Ck.progT
  obtain ⟨x, rfl, hxI⟩ := h1.int (by kernel_rfl)
  refine Sound.call (aks := [.ag, .i .i64]) (rks := [.b]) (F := fun x w k => pelotonlaw06_SerialRuns x.1 x.2 w k) s_pelotonlaw06_SerialRuns (#[.slice ps.a ps.n ps.c], x) rfl ?_
  exact law_runs hF fun w' hS => ⟨rfl, hS.ext.below⟩


theorem lifted (os : Os) (started : os.Started) (H : Type) (enc : TypeId × Value → H) :
    ReturnsInHanded {} Try.checked os 3 .any (Rows.serialRunsSpec.pre6 enc Try.prog Try.f3 Rows.serialRunsRow.domain false) (Rows.serialRunsSpec.post enc Try.prog Try.f3 false true false false) :=
  law_lifted (C := Try.checked) own started (by kernel_rfl) Try.func3
    (ChangeSpec.witness6 (enc := enc) (C := Try.checked) false ⟨#[], #[.agg #[.slice none 0 0], .int .i64 0], []⟩ 8 (by kernel_rfl) (by kernel_rfl) (by kernel_rfl) (by kernel_rfl))
    rfl (by kernel_rfl) (by kernel_rfl) (tb := 4) (by kernel_rfl) (by kernel_rfl)
    (fun ds h => by
      match ds, h with
      | [_, _], _ => rfl)
    walk

theorem over : Rows.serialRunsRow.holds Try.pinned (OpenSpec.ofChange Rows.serialRunsSpec) :=
  OpenClaim.holds_of_wide 3 Try.f3 rfl rfl rfl rfl rfl rfl rfl ⟨rfl, rfl, rfl, rfl, rfl⟩ rfl rfl rfl rfl rfl (by kernel_rfl) Try.func3 (by kernel_rfl)
    (of_decide_eq_true (by kernel_rfl)) (by unfold Func.isWrapper; first | (rw [if_pos (by decide +kernel)]; kernel_rfl) | (rw [if_neg (by decide +kernel)]; exact ⟨rfl, rfl⟩))
    (fun os started H enc _ => lifted os started H enc)

theorem proved : Rows.SerialRunsSaid := over
#print axioms proved
end Go.Proofs.Ytgkfbagclkjilaa.SerialRuns
