/-
  For every program, every fuel and every number of a function, SerialScopes of package pelotonlaw06 returns true, panics never, and leaves what it was given as it was. Conditions: none.
-/
import Derived.Test.YtgkfbagclkjilaaSs
import Derived.Test.YtgkfbagclkjilaaCkB
import Derived.Test.YtgkfbagclkjilaaEvQ
import Derived.Test.YtgkfbagclkjilaaEvT
import Derived.Test.YtgkfbagclkjilaaRows
set_option linter.unusedSimpArgs false
set_option linter.unusedVariables false
set_option maxRecDepth 100000
namespace Go.Proofs.Ytgkfbagclkjilaa.SerialScopes
open Go Go.Ev Go.Proofs Go.Proofs.Ytgkfbagclkjilaa Go.RowKit Go.ChangeShapes Go.WideShapes

/-! ### the lift -/
theorem own : ownKnob Try.prog.godebug = none := by kernel_rfl
theorem walk (W : World) (args : Array Value) (hA : Args Try.prog W Try.f6.params.toList args.toList) :
    Calls Try.prog 6 args W fun e W' => e = .returned (.bool true) ∧ Below W.heap.size W W' := by
  rw [Try.params6] at hA
  obtain ⟨v0, _, e0, h0, hA⟩ := hA.cons
  obtain ⟨v1, _, rfl, h1, hA⟩ := hA.cons
  obtain ⟨v2, _, rfl, h2, hA⟩ := hA.cons
  obtain rfl := hA.nil
  obtain rfl : args = #[v0, v1, v2] := by cases args; simp_all
  obtain ⟨ps, P, rfl, hF⟩ := h0.program Ck.progT
  obtain ⟨x, rfl, hxI⟩ := h1.int (by kernel_rfl)
  obtain ⟨y, rfl, hyI⟩ := h2.int (by kernel_rfl)
  refine Sound.call (aks := [.ag, .i .i64, .i .i64]) (rks := [.b]) (F := fun x w k => pelotonlaw06_SerialScopes x.1 x.2.1 x.2.2 w k) s_pelotonlaw06_SerialScopes (#[.slice ps.a ps.n ps.c], x, y) rfl ?_
  exact law_scopes hF hyI fun w' hS => ⟨rfl, hS.ext.below⟩


theorem lifted (os : Os) (started : os.Started) (H : Type) (enc : TypeId × Value → H) :
    ReturnsInHanded {} Try.checked os 6 .any (Rows.serialScopesSpec.pre6 enc Try.prog Try.f6 Rows.serialScopesRow.domain false) (Rows.serialScopesSpec.post enc Try.prog Try.f6 false true false false) :=
  law_lifted (C := Try.checked) own started (by kernel_rfl) Try.func6
    (ChangeSpec.witness6 (enc := enc) (C := Try.checked) false ⟨#[], #[.agg #[.slice none 0 0], .int .i64 0, .int .i64 0], []⟩ 8 (by kernel_rfl) (by kernel_rfl) (by kernel_rfl) (by kernel_rfl))
    rfl (by kernel_rfl) (by kernel_rfl) (tb := 4) (by kernel_rfl) (by kernel_rfl)
    (fun ds h => by
      match ds, h with
      | [_, _, _], _ => rfl)
    walk

theorem over : Rows.serialScopesRow.holds Try.pinned (OpenSpec.ofChange Rows.serialScopesSpec) :=
  OpenClaim.holds_of_wide 6 Try.f6 rfl rfl rfl rfl rfl rfl rfl ⟨rfl, rfl, rfl, rfl, rfl⟩ rfl rfl rfl rfl rfl (by kernel_rfl) Try.func6 (by kernel_rfl)
    (of_decide_eq_true (by kernel_rfl)) (by unfold Func.isWrapper; first | (rw [if_pos (by decide +kernel)]; kernel_rfl) | (rw [if_neg (by decide +kernel)]; exact ⟨rfl, rfl⟩))
    (fun os started H enc _ => lifted os started H enc)

theorem proved : Rows.SerialScopesSaid := over
#print axioms proved
end Go.Proofs.Ytgkfbagclkjilaa.SerialScopes
