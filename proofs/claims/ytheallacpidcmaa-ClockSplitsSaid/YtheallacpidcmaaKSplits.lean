/-
  For every row of acts and every two numbers of ticks, ClockSplits of package pelotonlaw13 returns true, panics never, and leaves what it was given as it was. Conditions: none.
-/
import Derived.Test.YtheallacpidcmaaKi
import Derived.Test.YtheallacpidcmaaEvQ
import Derived.Test.YtheallacpidcmaaEvT
import Derived.Test.YtheallacpidcmaaRows
set_option linter.unusedSimpArgs false
set_option linter.unusedVariables false
set_option maxRecDepth 100000
namespace Go.Proofs.Ytheallacpidcmaa.ClockSplits
open Go Go.Ev Go.Proofs Go.Proofs.Ytheallacpidcmaa Go.RowKit Go.ChangeShapes Go.WideShapes

/-! ### the lift -/
theorem own : ownKnob Try.prog.godebug = none := by kernel_rfl
theorem walk (W : World) (args : Array Value) (hA : Args Try.prog W Try.f12.params.toList args.toList) :
    Calls Try.prog 12 args W fun e W' => e = .returned (.bool true) ∧ Below W.heap.size W W' := by
  rw [Try.params12] at hA
  obtain ⟨v0, _, e0, h0, hA⟩ := hA.cons
  obtain ⟨v1, _, rfl, h1, hA⟩ := hA.cons
  obtain ⟨v2, _, rfl, h2, hA⟩ := hA.cons
  obtain rfl := hA.nil
  obtain rfl : args = #[v0, v1, v2] := by cases args; simp_all
  obtain ⟨l, es, rfl, hR, hes, hbb⟩ := h0.rowsI (n := 4) (k := 3) (b := 24) Try.underlying83 (.inr ⟨_, Try.underlying88⟩) (by kernel_rfl) (by kernel_rfl) (by kernel_rfl)
  obtain ⟨x, rfl, hxI⟩ := h1.int (by kernel_rfl)
  obtain ⟨y, rfl, hyI⟩ := h2.int (by kernel_rfl)
  refine Sound.call (aks := [.s, .i .i64, .i .i64]) (rks := [.b]) (F := fun x w k => pelotonlaw13_ClockSplits x.1 x.2.1 x.2.2 w k) s_pelotonlaw13_ClockSplits (l, x, y) rfl ?_
  exact law_splits hR (fun x hx => hes x hx) fun w' hS => ⟨rfl, hS.ext.below⟩


theorem lifted (os : Os) (started : os.Started) (H : Type) (enc : TypeId × Value → H) :
    ReturnsInHanded {} Try.checked os 12 .any (Rows.clockSplitsSpec.pre6 enc Try.prog Try.f12 Rows.clockSplitsRow.domain false) (Rows.clockSplitsSpec.post enc Try.prog Try.f12 false true false false) :=
  law_lifted (C := Try.checked) own started (by kernel_rfl) Try.func12
    (ChangeSpec.witness6 (enc := enc) (C := Try.checked) false ⟨#[], #[.slice none 0 0, .int .i64 0, .int .i64 0], []⟩ 8 (by kernel_rfl) (by kernel_rfl) (by kernel_rfl) (by kernel_rfl))
    rfl (by kernel_rfl) (by kernel_rfl) (tb := 4) (by kernel_rfl) (by kernel_rfl)
    (fun ds h => by
      match ds, h with
      | [_, _, _], _ => rfl)
    walk

theorem over : Rows.clockSplitsRow.holds Try.pinned (OpenSpec.ofChange Rows.clockSplitsSpec) :=
  OpenClaim.holds_of_wide 12 Try.f12 rfl rfl rfl rfl rfl rfl rfl ⟨rfl, rfl, rfl, rfl, rfl⟩ rfl rfl rfl rfl rfl (by kernel_rfl) Try.func12 (by kernel_rfl)
    (of_decide_eq_true (by kernel_rfl)) (by unfold Func.isWrapper; first | (rw [if_pos (by decide +kernel)]; kernel_rfl) | (rw [if_neg (by decide +kernel)]; exact ⟨rfl, rfl⟩))
    (fun os started H enc _ => lifted os started H enc)

theorem proved : Rows.ClockSplitsSaid := over
#print axioms proved
end Go.Proofs.Ytheallacpidcmaa.ClockSplits
