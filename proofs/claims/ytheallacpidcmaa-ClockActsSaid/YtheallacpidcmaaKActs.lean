/-
  For every row of acts and every place, ClockActs of package pelotonlaw13 returns true, panics never, and leaves what it was given as it was. Conditions: none.
-/
import Derived.Test.YtheallacpidcmaaKk
import Derived.Test.YtheallacpidcmaaEvQ
import Derived.Test.YtheallacpidcmaaEvT
import Derived.Test.YtheallacpidcmaaRows
set_option linter.unusedSimpArgs false
set_option linter.unusedVariables false
set_option maxRecDepth 100000
namespace Go.Proofs.Ytheallacpidcmaa.ClockActs
open Go Go.Ev Go.Proofs Go.Proofs.Ytheallacpidcmaa Go.RowKit Go.ChangeShapes Go.WideShapes

/-! ### the lift -/
theorem own : ownKnob Try.prog.godebug = none := by kernel_rfl
theorem walk (W : World) (args : Array Value) (hA : Args Try.prog W Try.f11.params.toList args.toList) :
    Calls Try.prog 11 args W fun e W' => e = .returned (.bool true) ∧ Below W.heap.size W W' := by
  rw [Try.params11] at hA
  obtain ⟨v0, _, e0, h0, hA⟩ := hA.cons
  obtain ⟨v1, _, rfl, h1, hA⟩ := hA.cons
  obtain rfl := hA.nil
  obtain rfl : args = #[v0, v1] := by cases args; simp_all
  obtain ⟨l, es, rfl, hR, hes, hbb⟩ := h0.rowsI (n := 4) (k := 3) (b := 24) Try.underlying83 (.inr ⟨_, Try.underlying88⟩) (by kernel_rfl) (by kernel_rfl) (by kernel_rfl)
  obtain ⟨x, rfl, hxI⟩ := h1.int (by kernel_rfl)
  refine Sound.call (aks := [.s, .i .i64]) (rks := [.b]) (F := fun x w k => pelotonlaw13_ClockActs x.1 x.2 w k) s_pelotonlaw13_ClockActs (l, x) rfl ?_
  exact law_acts hR (fun x hx => hes x hx) fun w' hS => ⟨rfl, hS.ext.below⟩


theorem lifted (os : Os) (started : os.Started) (H : Type) (enc : TypeId × Value → H) :
    ReturnsInHanded {} Try.checked os 11 .any (Rows.clockActsSpec.pre6 enc Try.prog Try.f11 Rows.clockActsRow.domain false) (Rows.clockActsSpec.post enc Try.prog Try.f11 false true false false) :=
  law_lifted (C := Try.checked) own started (by kernel_rfl) Try.func11
    (ChangeSpec.witness6 (enc := enc) (C := Try.checked) false ⟨#[], #[.slice none 0 0, .int .i64 0], []⟩ 8 (by kernel_rfl) (by kernel_rfl) (by kernel_rfl) (by kernel_rfl))
    rfl (by kernel_rfl) (by kernel_rfl) (tb := 4) (by kernel_rfl) (by kernel_rfl)
    (fun ds h => by
      match ds, h with
      | [_, _], _ => rfl)
    walk

theorem over : Rows.clockActsRow.holds Try.pinned (OpenSpec.ofChange Rows.clockActsSpec) :=
  OpenClaim.holds_of_wide 11 Try.f11 rfl rfl rfl rfl rfl rfl rfl ⟨rfl, rfl, rfl, rfl, rfl⟩ rfl rfl rfl rfl rfl (by kernel_rfl) Try.func11 (by kernel_rfl)
    (of_decide_eq_true (by kernel_rfl)) (by unfold Func.isWrapper; first | (rw [if_pos (by decide +kernel)]; kernel_rfl) | (rw [if_neg (by decide +kernel)]; exact ⟨rfl, rfl⟩))
    (fun os started H enc _ => lifted os started H enc)

theorem proved : Rows.ClockActsSaid := over
#print axioms proved
end Go.Proofs.Ytheallacpidcmaa.ClockActs
