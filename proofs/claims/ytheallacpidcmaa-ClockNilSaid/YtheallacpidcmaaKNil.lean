/-
  For every act, every id and every number of ticks, ClockNil of package pelotonlaw13 returns true, panics never, and leaves what it was given as it was. Conditions: none.
-/
import Derived.Test.YtheallacpidcmaaKi
import Derived.Test.YtheallacpidcmaaEvQ
import Derived.Test.YtheallacpidcmaaEvT
import Derived.Test.YtheallacpidcmaaRows
set_option linter.unusedSimpArgs false
set_option linter.unusedVariables false
set_option maxRecDepth 100000
namespace Go.Proofs.Ytheallacpidcmaa.ClockNil
open Go Go.Ev Go.Proofs Go.Proofs.Ytheallacpidcmaa Go.RowKit Go.ChangeShapes Go.WideShapes

/-! ### the lift -/
theorem own : ownKnob Try.prog.godebug = none := by kernel_rfl
theorem walk (W : World) (args : Array Value) (hA : Args Try.prog W Try.f13.params.toList args.toList) :
    Calls Try.prog 13 args W fun e W' => e = .returned (.bool true) ∧ Below W.heap.size W W' := by
  rw [Try.params13] at hA
  obtain ⟨v0, _, e0, h0, hA⟩ := hA.cons
  obtain ⟨v1, _, rfl, h1, hA⟩ := hA.cons
  obtain ⟨v2, _, rfl, h2, hA⟩ := hA.cons
  obtain rfl := hA.nil
  obtain rfl : args = #[v0, v1, v2] := by cases args; simp_all
  obtain ⟨x, rfl, hxI⟩ := h1.int (by kernel_rfl)
  obtain ⟨y, rfl, hyI⟩ := h2.int (by kernel_rfl)
  obtain ⟨g, rfl, hg, hgI⟩ := h0.flat (n := 4) (k := 3) (.inr ⟨_, Try.underlying88⟩) (by kernel_rfl) (by kernel_rfl)
  match g, hg, hgI with
  | [g1, g2, g3], _, hgI =>
  refine Sound.call (aks := [.ag, .i .i64, .i .i64]) (rks := [.b]) (F := fun x w k => pelotonlaw13_ClockNil x.1 x.2.1 x.2.2 w k) s_pelotonlaw13_ClockNil (#[.int .i64 g1, .int .i64 g2, .int .i64 g3], x, y) rfl ?_
  exact law_cnil fun w' hS => ⟨rfl, hS.ext.below⟩


theorem lifted (os : Os) (started : os.Started) (H : Type) (enc : TypeId × Value → H) :
    ReturnsInHanded {} Try.checked os 13 .any (Rows.clockNilSpec.pre6 enc Try.prog Try.f13 Rows.clockNilRow.domain false) (Rows.clockNilSpec.post enc Try.prog Try.f13 false true false false) :=
  law_lifted (C := Try.checked) own started (by kernel_rfl) Try.func13
    (ChangeSpec.witness6 (enc := enc) (C := Try.checked) false ⟨#[], #[.agg #[.int .i64 0, .int .i64 0, .int .i64 0], .int .i64 0, .int .i64 0], []⟩ 8 (by kernel_rfl) (by kernel_rfl) (by kernel_rfl) (by kernel_rfl))
    rfl (by kernel_rfl) (by kernel_rfl) (tb := 4) (by kernel_rfl) (by kernel_rfl)
    (fun ds h => by
      match ds, h with
      | [_, _, _], _ => rfl)
    walk

theorem over : Rows.clockNilRow.holds Try.pinned (OpenSpec.ofChange Rows.clockNilSpec) :=
  OpenClaim.holds_of_wide 13 Try.f13 rfl rfl rfl rfl rfl rfl rfl ⟨rfl, rfl, rfl, rfl, rfl⟩ rfl rfl rfl rfl rfl (by kernel_rfl) Try.func13 (by kernel_rfl)
    (of_decide_eq_true (by kernel_rfl)) (by unfold Func.isWrapper; first | (rw [if_pos (by decide +kernel)]; kernel_rfl) | (rw [if_neg (by decide +kernel)]; exact ⟨rfl, rfl⟩))
    (fun os started H enc _ => lifted os started H enc)

theorem proved : Rows.ClockNilSaid := over
#print axioms proved
end Go.Proofs.Ytheallacpidcmaa.ClockNil
