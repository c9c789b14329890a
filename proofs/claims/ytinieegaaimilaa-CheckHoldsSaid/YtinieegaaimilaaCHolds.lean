/-
  For every program, number and row of truths, CheckHolds of package pelotonlaw04 returns true, panics never, and leaves what it was given as it was. Conditions: none.
-/
import Derived.Test.YtinieegaaimilaaDc
import Derived.Test.YtinieegaaimilaaEvT
import Derived.Test.YtinieegaaimilaaRows
set_option linter.unusedSimpArgs false
set_option linter.unusedVariables false
set_option maxRecDepth 100000
namespace Go.Proofs.Ytinieegaaimilaa.CheckHolds
open Go Go.Ev Go.Proofs Go.Proofs.Ytinieegaaimilaa Go.RowKit Go.ChangeShapes Go.WideShapes

/-! ### the lift -/
theorem own : ownKnob Try.prog.godebug = none := by kernel_rfl
theorem walk (W : World) (args : Array Value) (hA : Args Try.prog W Try.f7.params.toList args.toList) :
    Calls Try.prog 7 args W fun e W' => e = .returned (.bool true) ∧ Below W.heap.size W W' := by
  rw [Try.params7] at hA
  obtain ⟨v0, _, e0, h0, hA⟩ := hA.cons
  obtain ⟨v1, _, rfl, h1, hA⟩ := hA.cons
  obtain ⟨v2, _, rfl, h2, hA⟩ := hA.cons
  obtain rfl := hA.nil
  obtain rfl : args = #[v0, v1, v2] := by cases args; simp_all
  obtain ⟨ps, P, rfl, hF⟩ := h0.program progT
  obtain ⟨n, rfl, hN⟩ := h1.int (by kernel_rfl)
  obtain ⟨s, rfl, hs⟩ := h2.slice Try.underlying44
  obtain ⟨s', es, e, hr, _, _, _, hall⟩ := hs.slice Try.underlying44
  obtain rfl : s = s' := by
    obtain ⟨a, n, c⟩ := s; obtain ⟨a', n', c'⟩ := s'
    simpa using e
  obtain ⟨bs, rfl, _⟩ := exists_map (f := fun b : Bool => [Value.bool b]) (G := fun _ => True) (es := es) fun e he => by
    obtain ⟨b, rfl⟩ := (hall e he).bool (by kernel_rfl)
    exact ⟨b, rfl, trivial⟩
  have hr : Rws 1 W s (bs.map fun b => [Value.bool b]) := hr
  refine Sound.call (aks := [.ag, .i .i64, .s]) (rks := [.b]) (F := fun x w k => pelotonlaw04_CheckHolds x.1 x.2.1 x.2.2 w k) s_pelotonlaw04_CheckHolds (#[.slice ps.a ps.n ps.c], n, s) rfl ?_
  exact law_holds hF hr fun w' hS => ⟨rfl, hS.ext.below⟩

theorem lifted (os : Os) (started : os.Started) (H : Type) (enc : TypeId × Value → H) :
    ReturnsInHanded {} Try.checked os 7 .any (Rows.checkHoldsSpec.pre6 enc Try.prog Try.f7 Rows.checkHoldsRow.domain false) (Rows.checkHoldsSpec.post enc Try.prog Try.f7 false true false false) :=
  law_lifted (C := Try.checked) own started (by kernel_rfl) Try.func7
    (ChangeSpec.witness6 (enc := enc) (C := Try.checked) false ⟨#[], #[.agg #[.slice none 0 0], .int .i64 0, .slice none 0 0], []⟩ 8 (by kernel_rfl) (by kernel_rfl) (by kernel_rfl) (by kernel_rfl))
    rfl (by kernel_rfl) (by kernel_rfl) (tb := 4) (by kernel_rfl) (by kernel_rfl)
    (fun ds h => by
      match ds, h with
      | [_, _, _], _ => rfl)
    walk

theorem over : Rows.checkHoldsRow.holds Try.pinned (OpenSpec.ofChange Rows.checkHoldsSpec) :=
  OpenClaim.holds_of_wide 7 Try.f7 rfl rfl rfl rfl rfl rfl rfl ⟨rfl, rfl, rfl, rfl, rfl⟩ rfl rfl rfl rfl rfl (by kernel_rfl) Try.func7 (by kernel_rfl)
    (of_decide_eq_true (by kernel_rfl)) (by unfold Func.isWrapper; first | (rw [if_pos (by decide +kernel)]; kernel_rfl) | (rw [if_neg (by decide +kernel)]; exact ⟨rfl, rfl⟩))
    (fun os started H enc _ => lifted os started H enc)

theorem proved : Rows.CheckHoldsSaid := over
#print axioms proved
end Go.Proofs.Ytinieegaaimilaa.CheckHolds
