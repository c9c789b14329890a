/-
  For every program, every fuel and every call, SerialTwice of package pelotonlaw06 returns true, panics never, and leaves what it was given as it was. Conditions: none.
-/
import Derived.Test.YtgkfbagclkjilaaSq
import Derived.Test.YtgkfbagclkjilaaCkB
import Derived.Test.YtgkfbagclkjilaaEvQ
import Derived.Test.YtgkfbagclkjilaaEvT
import Derived.Test.YtgkfbagclkjilaaRows
set_option linter.unusedSimpArgs false
set_option linter.unusedVariables false
set_option maxRecDepth 100000
namespace Go.Proofs.Ytgkfbagclkjilaa.SerialTwice
open Go Go.Ev Go.Proofs Go.Proofs.Ytgkfbagclkjilaa Go.RowKit Go.ChangeShapes Go.WideShapes

/-! ### the lift -/
theorem own : ownKnob Try.prog.godebug = none := by kernel_rfl
theorem walk (W : World) (args : Array Value) (hA : Args Try.prog W Try.f5.params.toList args.toList) :
    Calls Try.prog 5 args W fun e W' => e = .returned (.bool true) ∧ Below W.heap.size W W' := by
  rw [Try.params5] at hA
  obtain ⟨v0, _, e0, h0, hA⟩ := hA.cons
  obtain ⟨v1, _, rfl, h1, hA⟩ := hA.cons
  obtain ⟨v2, _, rfl, h2, hA⟩ := hA.cons
  obtain rfl := hA.nil
  obtain rfl : args = #[v0, v1, v2] := by cases args; simp_all
  obtain ⟨ps, P, rfl, hF⟩ := h0.program Ck.progT
  obtain ⟨x, rfl, hxI⟩ := h1.int (by kernel_rfl)
  obtain ⟨g, rfl, hg, hgI⟩ := h2.flat (n := 4) (k := 2) (.inr ⟨_, Try.underlying37⟩) (by kernel_rfl) (by kernel_rfl)
  match g, hg, hgI with
  | [g1, g2], _, hgI =>
  refine Sound.call (aks := [.ag, .i .i64, .ag]) (rks := [.b]) (F := fun x w k => pelotonlaw06_SerialTwice x.1 x.2.1 x.2.2 w k) s_pelotonlaw06_SerialTwice (#[.slice ps.a ps.n ps.c], x, #[.int .i64 g1, .int .i64 g2]) rfl ?_
  exact law_twice hF (hgI g1 (by simp)) (hgI g2 (by simp)) fun w' hS => ⟨rfl, hS.ext.below⟩


theorem lifted (os : Os) (started : os.Started) (H : Type) (enc : TypeId × Value → H) :
    ReturnsInHanded {} Try.checked os 5 .any (Rows.serialTwiceSpec.pre6 enc Try.prog Try.f5 Rows.serialTwiceRow.domain false) (Rows.serialTwiceSpec.post enc Try.prog Try.f5 false true false false) :=
  law_lifted (C := Try.checked) own started (by kernel_rfl) Try.func5
    (ChangeSpec.witness6 (enc := enc) (C := Try.checked) false ⟨#[], #[.agg #[.slice none 0 0], .int .i64 0, .agg #[.int .i64 0, .int .i64 0]], []⟩ 8 (by kernel_rfl) (by kernel_rfl) (by kernel_rfl) (by kernel_rfl))
    rfl (by kernel_rfl) (by kernel_rfl) (tb := 4) (by kernel_rfl) (by kernel_rfl)
    (fun ds h => by
      match ds, h with
      | [_, _, _], _ => rfl)
    walk

theorem over : Rows.serialTwiceRow.holds Try.pinned (OpenSpec.ofChange Rows.serialTwiceSpec) :=
  OpenClaim.holds_of_wide 5 Try.f5 rfl rfl rfl rfl rfl rfl rfl ⟨rfl, rfl, rfl, rfl, rfl⟩ rfl rfl rfl rfl rfl (by kernel_rfl) Try.func5 (by kernel_rfl)
    (of_decide_eq_true (by kernel_rfl)) (by unfold Func.isWrapper; first | (rw [if_pos (by decide +kernel)]; kernel_rfl) | (rw [if_neg (by decide +kernel)]; exact ⟨rfl, rfl⟩))
    (fun os started H enc _ => lifted os started H enc)

theorem proved : Rows.SerialTwiceSaid := over
#print axioms proved
end Go.Proofs.Ytgkfbagclkjilaa.SerialTwice
