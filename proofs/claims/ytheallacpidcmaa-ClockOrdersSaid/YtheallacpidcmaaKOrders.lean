/-
  For every row of acts, ClockOrders of package pelotonlaw13 returns true, panics never, and leaves what it was given as it was. Conditions: none.
-/
import Derived.Test.YtheallacpidcmaaKg
import Derived.Test.YtheallacpidcmaaEvQ
import Derived.Test.YtheallacpidcmaaEvT
import Derived.Test.YtheallacpidcmaaRows
set_option linter.unusedSimpArgs false
set_option linter.unusedVariables false
set_option maxRecDepth 100000
namespace Go.Proofs.Ytheallacpidcmaa.ClockOrders
open Go Go.Ev Go.Proofs Go.Proofs.Ytheallacpidcmaa Go.RowKit Go.ChangeShapes Go.WideShapes

/-! ### the lift -/
theorem own : ownKnob Try.prog.godebug = none := by kernel_rfl
theorem walk (W : World) (args : Array Value) (hA : Args Try.prog W Try.f9.params.toList args.toList) :
    Calls Try.prog 9 args W fun e W' => e = .returned (.bool true) ∧ Below W.heap.size W W' := by
  rw [Try.params9] at hA
  obtain ⟨v0, _, e0, h0, hA⟩ := hA.cons
  obtain rfl := hA.nil
  obtain rfl : args = #[v0] := by cases args; simp_all
  obtain ⟨l, es, rfl, hR, hes, hbb⟩ := h0.rowsI (n := 4) (k := 3) (b := 24) Try.underlying83 (.inr ⟨_, Try.underlying88⟩) (by kernel_rfl) (by kernel_rfl) (by kernel_rfl)
  refine Sound.call (aks := [.s]) (rks := [.b]) (F := fun x w k => pelotonlaw13_ClockOrders x w k) s_pelotonlaw13_ClockOrders l rfl ?_
  exact law_orders hR (fun x hx => hes x hx) fun w' hS => ⟨rfl, hS.ext.below⟩


theorem lifted (os : Os) (started : os.Started) (H : Type) (enc : TypeId × Value → H) :
    ReturnsInHanded {} Try.checked os 9 .any (Rows.clockOrdersSpec.pre6 enc Try.prog Try.f9 Rows.clockOrdersRow.domain false) (Rows.clockOrdersSpec.post enc Try.prog Try.f9 false true false false) :=
  law_lifted (C := Try.checked) own started (by kernel_rfl) Try.func9
    (ChangeSpec.witness6 (enc := enc) (C := Try.checked) false ⟨#[], #[.slice none 0 0], []⟩ 8 (by kernel_rfl) (by kernel_rfl) (by kernel_rfl) (by kernel_rfl))
    rfl (by kernel_rfl) (by kernel_rfl) (tb := 4) (by kernel_rfl) (by kernel_rfl)
    (fun ds h => by
      match ds, h with
      | [_], _ => rfl)
    walk

theorem over : Rows.clockOrdersRow.holds Try.pinned (OpenSpec.ofChange Rows.clockOrdersSpec) :=
  OpenClaim.holds_of_wide 9 Try.f9 rfl rfl rfl rfl rfl rfl rfl ⟨rfl, rfl, rfl, rfl, rfl⟩ rfl rfl rfl rfl rfl (by kernel_rfl) Try.func9 (by kernel_rfl)
    (of_decide_eq_true (by kernel_rfl)) (by unfold Func.isWrapper; first | (rw [if_pos (by decide +kernel)]; kernel_rfl) | (rw [if_neg (by decide +kernel)]; exact ⟨rfl, rfl⟩))
    (fun os started H enc _ => lifted os started H enc)

theorem proved : Rows.ClockOrdersSaid := over
#print axioms proved
end Go.Proofs.Ytheallacpidcmaa.ClockOrders
