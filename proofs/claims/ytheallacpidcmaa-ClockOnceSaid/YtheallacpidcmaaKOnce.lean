/-
  For every row of acts, ClockOnce of package pelotonlaw13 returns true, panics never, and leaves what it was given as it was. Conditions: none.
-/
import Derived.Test.YtheallacpidcmaaKh
import Derived.Test.YtheallacpidcmaaEvQ
import Derived.Test.YtheallacpidcmaaEvT
import Derived.Test.YtheallacpidcmaaRows
set_option linter.unusedSimpArgs false
set_option linter.unusedVariables false
set_option maxRecDepth 100000
namespace Go.Proofs.Ytheallacpidcmaa.ClockOnce
open Go Go.Ev Go.Proofs Go.Proofs.Ytheallacpidcmaa Go.RowKit Go.ChangeShapes Go.WideShapes

/-! ### the lift -/
theorem own : ownKnob Try.prog.godebug = none := by kernel_rfl
theorem walk (W : World) (args : Array Value) (hA : Args Try.prog W Try.f10.params.toList args.toList) :
    Calls Try.prog 10 args W fun e W' => e = .returned (.bool true) ∧ Below W.heap.size W W' := by
  rw [Try.params10] at hA
  obtain ⟨v0, _, e0, h0, hA⟩ := hA.cons
  obtain rfl := hA.nil
  obtain rfl : args = #[v0] := by cases args; simp_all
  obtain ⟨l, es, rfl, hR, hes, hbb⟩ := h0.rowsI (n := 4) (k := 3) (b := 24) Try.underlying83 (.inr ⟨_, Try.underlying88⟩) (by kernel_rfl) (by kernel_rfl) (by kernel_rfl)
  refine Sound.call (aks := [.s]) (rks := [.b]) (F := fun x w k => pelotonlaw13_ClockOnce x w k) s_pelotonlaw13_ClockOnce l rfl ?_
  exact law_conce hR (fun x hx => hes x hx) fun w' hS => ⟨rfl, hS.ext.below⟩


theorem lifted (os : Os) (started : os.Started) (H : Type) (enc : TypeId × Value → H) :
    ReturnsInHanded {} Try.checked os 10 .any (Rows.clockOnceSpec.pre6 enc Try.prog Try.f10 Rows.clockOnceRow.domain false) (Rows.clockOnceSpec.post enc Try.prog Try.f10 false true false false) :=
  law_lifted (C := Try.checked) own started (by kernel_rfl) Try.func10
    (ChangeSpec.witness6 (enc := enc) (C := Try.checked) false ⟨#[], #[.slice none 0 0], []⟩ 8 (by kernel_rfl) (by kernel_rfl) (by kernel_rfl) (by kernel_rfl))
    rfl (by kernel_rfl) (by kernel_rfl) (tb := 4) (by kernel_rfl) (by kernel_rfl)
    (fun ds h => by
      match ds, h with
      | [_], _ => rfl)
    walk

theorem over : Rows.clockOnceRow.holds Try.pinned (OpenSpec.ofChange Rows.clockOnceSpec) :=
  OpenClaim.holds_of_wide 10 Try.f10 rfl rfl rfl rfl rfl rfl rfl ⟨rfl, rfl, rfl, rfl, rfl⟩ rfl rfl rfl rfl rfl (by kernel_rfl) Try.func10 (by kernel_rfl)
    (of_decide_eq_true (by kernel_rfl)) (by unfold Func.isWrapper; first | (rw [if_pos (by decide +kernel)]; kernel_rfl) | (rw [if_neg (by decide +kernel)]; exact ⟨rfl, rfl⟩))
    (fun os started H enc _ => lifted os started H enc)

theorem proved : Rows.ClockOnceSaid := over
#print axioms proved
end Go.Proofs.Ytheallacpidcmaa.ClockOnce
