/-
  For every size, every pair of logs and every row of turns, DequeSteps of package pelotonlaw10 returns true, panics never, and leaves what it was given as it was. Conditions: none.
-/
import Derived.Test.YtheallacpidcmaaQy
import Derived.Test.YtheallacpidcmaaEvQ
import Derived.Test.YtheallacpidcmaaEvT
import Derived.Test.YtheallacpidcmaaRows
set_option linter.unusedSimpArgs false
set_option linter.unusedVariables false
set_option maxRecDepth 100000
namespace Go.Proofs.Ytheallacpidcmaa.DequeSteps
open Go Go.Ev Go.Proofs Go.Proofs.Ytheallacpidcmaa Go.RowKit Go.ChangeShapes Go.WideShapes

/-! ### the lift -/
theorem own : ownKnob Try.prog.godebug = none := by kernel_rfl
theorem walk (W : World) (args : Array Value) (hA : Args Try.prog W Try.f8.params.toList args.toList) :
    Calls Try.prog 8 args W fun e W' => e = .returned (.bool true) ∧ Below W.heap.size W W' := by
  rw [Try.params8] at hA
  obtain ⟨v0, _, e0, h0, hA⟩ := hA.cons
  obtain ⟨v1, _, rfl, h1, hA⟩ := hA.cons
  obtain ⟨v2, _, rfl, h2, hA⟩ := hA.cons
  obtain rfl := hA.nil
  obtain rfl : args = #[v0, v1, v2] := by cases args; simp_all
  obtain ⟨x, rfl, hxI⟩ := h0.int (by kernel_rfl)
  obtain ⟨l, es, rfl, hR, hes, hbb⟩ := h2.rowsI (n := 4) (k := 3) (b := 24) Try.underlying49 (.inr ⟨_, Try.underlying54⟩) (by kernel_rfl) (by kernel_rfl) (by kernel_rfl)
  obtain ⟨g, rfl, hg, hgI⟩ := h1.flat (n := 4) (k := 2) (.inl ⟨_, _, Try.underlying22⟩) (by kernel_rfl) (by kernel_rfl)
  match g, hg, hgI with
  | [g1, g2], _, hgI =>
  refine Sound.call (aks := [.i .i64, .ag, .s]) (rks := [.b]) (F := fun x w k => pelotonlaw10_DequeSteps x.1 x.2.1 x.2.2 w k) s_pelotonlaw10_DequeSteps (x, #[.int .i64 g1, .int .i64 g2], l) rfl ?_
  exact law_steps hR (fun x hx => hes x hx) fun w' hS => ⟨rfl, hS.ext.below⟩


theorem lifted (os : Os) (started : os.Started) (H : Type) (enc : TypeId × Value → H) :
    ReturnsInHanded {} Try.checked os 8 .any (Rows.dequeStepsSpec.pre6 enc Try.prog Try.f8 Rows.dequeStepsRow.domain false) (Rows.dequeStepsSpec.post enc Try.prog Try.f8 false true false false) :=
  law_lifted (C := Try.checked) own started (by kernel_rfl) Try.func8
    (ChangeSpec.witness6 (enc := enc) (C := Try.checked) false ⟨#[], #[.int .i64 0, .agg #[.int .i64 0, .int .i64 0], .slice none 0 0], []⟩ 8 (by kernel_rfl) (by kernel_rfl) (by kernel_rfl) (by kernel_rfl))
    rfl (by kernel_rfl) (by kernel_rfl) (tb := 4) (by kernel_rfl) (by kernel_rfl)
    (fun ds h => by
      match ds, h with
      | [_, _, _], _ => rfl)
    walk

theorem over : Rows.dequeStepsRow.holds Try.pinned (OpenSpec.ofChange Rows.dequeStepsSpec) :=
  OpenClaim.holds_of_wide 8 Try.f8 rfl rfl rfl rfl rfl rfl rfl ⟨rfl, rfl, rfl, rfl, rfl⟩ rfl rfl rfl rfl rfl (by kernel_rfl) Try.func8 (by kernel_rfl)
    (of_decide_eq_true (by kernel_rfl)) (by unfold Func.isWrapper; first | (rw [if_pos (by decide +kernel)]; kernel_rfl) | (rw [if_neg (by decide +kernel)]; exact ⟨rfl, rfl⟩))
    (fun os started H enc _ => lifted os started H enc)

theorem proved : Rows.DequeStepsSaid := over
#print axioms proved
end Go.Proofs.Ytheallacpidcmaa.DequeSteps
