/-
  For every two sizes, first place and row of numbers, RingMoves of package pelotonlaw09 returns true, panics never, and leaves what it was given as it was. Conditions: none.
-/
import Derived.Test.YteipigpapliagaaRi
import Derived.Test.YteipigpapliagaaEvQ
import Derived.Test.YteipigpapliagaaEvT
import Derived.Test.YteipigpapliagaaRows
set_option linter.unusedSimpArgs false
set_option linter.unusedVariables false
set_option maxRecDepth 100000
namespace Go.Proofs.Yteipigpapliagaa.RingMoves
open Go Go.Ev Go.Proofs Go.Proofs.Yteipigpapliagaa Go.RowKit Go.ChangeShapes Go.WideShapes

/-! ### the lift -/
theorem own : ownKnob Try.prog.godebug = none := by kernel_rfl
theorem walk (W : World) (args : Array Value) (hA : Args Try.prog W Try.f9.params.toList args.toList) :
    Calls Try.prog 9 args W fun e W' => e = .returned (.bool true) ∧ Below W.heap.size W W' := by
  rw [Try.params9] at hA
  obtain ⟨v0, _, e0, h0, hA⟩ := hA.cons
  obtain ⟨v1, _, rfl, h1, hA⟩ := hA.cons
  obtain ⟨v2, _, rfl, h2, hA⟩ := hA.cons
  obtain rfl := hA.nil
  obtain rfl : args = #[v0, v1, v2] := by cases args; simp_all
  obtain ⟨f, rfl, hfI⟩ := h1.int (by kernel_rfl)
  obtain ⟨s, l, rfl, hR, hbb, hlI⟩ := h2.ints (e := 2) Try.underlying61 (by kernel_rfl) (by kernel_rfl) (by kernel_rfl)
  obtain ⟨g, rfl, hg, hgI⟩ := h0.flat (n := 4) (k := 2) (.inl ⟨_, _, Try.underlying72⟩) (by kernel_rfl) (by kernel_rfl)
  match g, hg, hgI with
  | [g1, g2], _, hgI =>
  refine Sound.call (aks := [.ag, .i .i64, .s]) (rks := [.b]) (F := fun x w k => pelotonlaw09_RingMoves x.1 x.2.1 x.2.2 w k) s_pelotonlaw09_RingMoves (#[.int .i64 g1, .int .i64 g2], f, s) rfl ?_
  exact law_moves (la := g1) (lb := g2) hfI (St.nil W) hR hlI fun w' hS => ⟨rfl, hS.ext.below⟩

theorem lifted (os : Os) (started : os.Started) (H : Type) (enc : TypeId × Value → H) :
    ReturnsInHanded {} Try.checked os 9 .any (Rows.ringMovesSpec.pre6 enc Try.prog Try.f9 Rows.ringMovesRow.domain false) (Rows.ringMovesSpec.post enc Try.prog Try.f9 false true false false) :=
  law_lifted (C := Try.checked) own started (by kernel_rfl) Try.func9
    (ChangeSpec.witness6 (enc := enc) (C := Try.checked) false ⟨#[], #[.agg #[.int .i64 0, .int .i64 0], .int .i64 0, .slice none 0 0], []⟩ 8 (by kernel_rfl) (by kernel_rfl) (by kernel_rfl) (by kernel_rfl))
    rfl (by kernel_rfl) (by kernel_rfl) (tb := 4) (by kernel_rfl) (by kernel_rfl)
    (fun ds h => by
      match ds, h with
      | [_, _, _], _ => rfl)
    walk

theorem over : Rows.ringMovesRow.holds Try.pinned (OpenSpec.ofChange Rows.ringMovesSpec) :=
  OpenClaim.holds_of_wide 9 Try.f9 rfl rfl rfl rfl rfl rfl rfl ⟨rfl, rfl, rfl, rfl, rfl⟩ rfl rfl rfl rfl rfl (by kernel_rfl) Try.func9 (by kernel_rfl)
    (of_decide_eq_true (by kernel_rfl)) (by unfold Func.isWrapper; first | (rw [if_pos (by decide +kernel)]; kernel_rfl) | (rw [if_neg (by decide +kernel)]; exact ⟨rfl, rfl⟩))
    (fun os started H enc _ => lifted os started H enc)

theorem proved : Rows.RingMovesSaid := over
#print axioms proved
end Go.Proofs.Yteipigpapliagaa.RingMoves
