/-
  For every program and every number, CheckMoves of package pelotonlaw04 returns true, panics never, and leaves what it was given as it was. Conditions: none.
-/
import Derived.Test.YtinieegaaimilaaDe
import Derived.Test.YtinieegaaimilaaEvT
import Derived.Test.YtinieegaaimilaaRows
set_option linter.unusedSimpArgs false
set_option linter.unusedVariables false
set_option maxRecDepth 100000
namespace Go.Proofs.Ytinieegaaimilaa.CheckMoves
open Go Go.Ev Go.Proofs Go.Proofs.Ytinieegaaimilaa Go.RowKit Go.ChangeShapes Go.WideShapes

/-! ### the lift -/
theorem own : ownKnob Try.prog.godebug = none := by kernel_rfl
theorem walk (W : World) (args : Array Value) (hA : Args Try.prog W Try.f9.params.toList args.toList) :
    Calls Try.prog 9 args W fun e W' => e = .returned (.bool true) ∧ Below W.heap.size W W' := by
  rw [Try.params9] at hA
  obtain ⟨v0, _, e0, h0, hA⟩ := hA.cons
  obtain ⟨v1, _, rfl, h1, hA⟩ := hA.cons
  obtain rfl := hA.nil
  obtain rfl : args = #[v0, v1] := by cases args; simp_all
  obtain ⟨ps, P, rfl, hF⟩ := h0.program progT
  obtain ⟨n, rfl, hN⟩ := h1.int (by kernel_rfl)
  refine Sound.call (aks := [.ag, .i .i64]) (rks := [.b]) (F := fun x w k => pelotonlaw04_CheckMoves x.1 x.2 w k) s_pelotonlaw04_CheckMoves (#[.slice ps.a ps.n ps.c], n) rfl ?_
  exact law_moves hF fun w' hS => ⟨rfl, hS.ext.below⟩

theorem lifted (os : Os) (started : os.Started) (H : Type) (enc : TypeId × Value → H) :
    ReturnsInHanded {} Try.checked os 9 .any (Rows.checkMovesSpec.pre6 enc Try.prog Try.f9 Rows.checkMovesRow.domain false) (Rows.checkMovesSpec.post enc Try.prog Try.f9 false true false false) :=
  law_lifted (C := Try.checked) own started (by kernel_rfl) Try.func9
    (ChangeSpec.witness6 (enc := enc) (C := Try.checked) false ⟨#[], #[.agg #[.slice none 0 0], .int .i64 0], []⟩ 8 (by kernel_rfl) (by kernel_rfl) (by kernel_rfl) (by kernel_rfl))
    rfl (by kernel_rfl) (by kernel_rfl) (tb := 4) (by kernel_rfl) (by kernel_rfl)
    (fun ds h => by
      match ds, h with
      | [_, _], _ => rfl)
    walk

theorem over : Rows.checkMovesRow.holds Try.pinned (OpenSpec.ofChange Rows.checkMovesSpec) :=
  OpenClaim.holds_of_wide 9 Try.f9 rfl rfl rfl rfl rfl rfl rfl ⟨rfl, rfl, rfl, rfl, rfl⟩ rfl rfl rfl rfl rfl (by kernel_rfl) Try.func9 (by kernel_rfl)
    (of_decide_eq_true (by kernel_rfl)) (by unfold Func.isWrapper; first | (rw [if_pos (by decide +kernel)]; kernel_rfl) | (rw [if_neg (by decide +kernel)]; exact ⟨rfl, rfl⟩))
    (fun os started H enc _ => lifted os started H enc)

theorem proved : Rows.CheckMovesSaid := over
#print axioms proved
end Go.Proofs.Ytinieegaaimilaa.CheckMoves
