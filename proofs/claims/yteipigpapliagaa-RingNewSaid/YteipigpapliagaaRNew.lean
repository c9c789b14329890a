/-
  For every size and row of asks, RingNew of package pelotonlaw09 returns true, panics never, and leaves what it was given as it was. Conditions: none.
-/
import Derived.Test.YteipigpapliagaaRg
import Derived.Test.YteipigpapliagaaEvQ
import Derived.Test.YteipigpapliagaaEvT
import Derived.Test.YteipigpapliagaaRows
set_option linter.unusedSimpArgs false
set_option linter.unusedVariables false
set_option maxRecDepth 100000
namespace Go.Proofs.Yteipigpapliagaa.RingNew
open Go Go.Ev Go.Proofs Go.Proofs.Yteipigpapliagaa Go.RowKit Go.ChangeShapes Go.WideShapes

/-! ### the lift -/
theorem own : ownKnob Try.prog.godebug = none := by kernel_rfl
theorem walk (W : World) (args : Array Value) (hA : Args Try.prog W Try.f8.params.toList args.toList) :
    Calls Try.prog 8 args W fun e W' => e = .returned (.bool true) ∧ Below W.heap.size W W' := by
  rw [Try.params8] at hA
  obtain ⟨v0, _, e0, h0, hA⟩ := hA.cons
  obtain ⟨v1, _, rfl, h1, hA⟩ := hA.cons
  obtain rfl := hA.nil
  obtain rfl : args = #[v0, v1] := by cases args; simp_all
  obtain ⟨z, rfl, hzI⟩ := h0.int (by kernel_rfl)
  obtain ⟨l, es, rfl, hR, hes, hbb⟩ := h1.rowsI (n := 4) (k := 2) (b := 16) Try.underlying70 (.inr ⟨_, Try.underlying44⟩) (by kernel_rfl) (by kernel_rfl) (by kernel_rfl)
  obtain ⟨asks, rfl, _⟩ := exists_map (f := fun x : Int × Int => [x.1, x.2]) (G := fun _ => True) (es := es) fun e he => by
    have h2 := (hes e he).1
    match e, h2 with
    | [a, b], _ => exact ⟨(a, b), rfl, trivial⟩
  rw [List.map_map] at hR
  refine Sound.call (aks := [.i .i64, .s]) (rks := [.b]) (F := fun x w k => pelotonlaw09_RingNew x.1 x.2 w k) s_pelotonlaw09_RingNew (z, l) rfl ?_
  exact law_new (size := z) (St.nil W) hR fun w' hS => ⟨rfl, hS.ext.below⟩

theorem lifted (os : Os) (started : os.Started) (H : Type) (enc : TypeId × Value → H) :
    ReturnsInHanded {} Try.checked os 8 .any (Rows.ringNewSpec.pre6 enc Try.prog Try.f8 Rows.ringNewRow.domain false) (Rows.ringNewSpec.post enc Try.prog Try.f8 false true false false) :=
  law_lifted (C := Try.checked) own started (by kernel_rfl) Try.func8
    (ChangeSpec.witness6 (enc := enc) (C := Try.checked) false ⟨#[], #[.int .i64 0, .slice none 0 0], []⟩ 8 (by kernel_rfl) (by kernel_rfl) (by kernel_rfl) (by kernel_rfl))
    rfl (by kernel_rfl) (by kernel_rfl) (tb := 4) (by kernel_rfl) (by kernel_rfl)
    (fun ds h => by
      match ds, h with
      | [_, _], _ => rfl)
    walk

theorem over : Rows.ringNewRow.holds Try.pinned (OpenSpec.ofChange Rows.ringNewSpec) :=
  OpenClaim.holds_of_wide 8 Try.f8 rfl rfl rfl rfl rfl rfl rfl ⟨rfl, rfl, rfl, rfl, rfl⟩ rfl rfl rfl rfl rfl (by kernel_rfl) Try.func8 (by kernel_rfl)
    (of_decide_eq_true (by kernel_rfl)) (by unfold Func.isWrapper; first | (rw [if_pos (by decide +kernel)]; kernel_rfl) | (rw [if_neg (by decide +kernel)]; exact ⟨rfl, rfl⟩))
    (fun os started H enc _ => lifted os started H enc)

theorem proved : Rows.RingNewSaid := over
#print axioms proved
end Go.Proofs.Yteipigpapliagaa.RingNew
