/-
  For every two rings, places, worker and log, RingNil of package pelotonlaw09 returns true, panics never, and leaves what it was given as it was. Conditions: none.
-/
import Derived.Test.YteipigpapliagaaRe
import Derived.Test.YteipigpapliagaaEvQ
import Derived.Test.YteipigpapliagaaEvT
import Derived.Test.YteipigpapliagaaRows
set_option linter.unusedSimpArgs false
set_option linter.unusedVariables false
set_option maxRecDepth 100000
namespace Go.Proofs.Yteipigpapliagaa.RingNil
open Go Go.Ev Go.Proofs Go.Proofs.Yteipigpapliagaa Go.RowKit Go.ChangeShapes Go.WideShapes

/-! ### the lift -/
theorem own : ownKnob Try.prog.godebug = none := by kernel_rfl
theorem walk (W : World) (args : Array Value) (hA : Args Try.prog W Try.f6.params.toList args.toList) :
    Calls Try.prog 6 args W fun e W' => e = .returned (.bool true) ∧ Below W.heap.size W W' := by
  rw [Try.params6] at hA
  obtain ⟨v0, _, e0, h0, hA⟩ := hA.cons
  obtain ⟨v1, _, rfl, h1, hA⟩ := hA.cons
  obtain ⟨v2, _, rfl, h2, hA⟩ := hA.cons
  obtain rfl := hA.nil
  obtain rfl : args = #[v0, v1, v2] := by cases args; simp_all
  obtain ⟨s, rfl, hs, hsI⟩ := h0.flat (n := 4) (k := 4) (.inl ⟨_, _, Try.underlying41⟩) (by kernel_rfl) (by kernel_rfl)
  match s, hs, hsI with
  | [s1, s2, s3, s4], _, hsI =>
  obtain ⟨p, rfl, hp, hpI⟩ := h1.flat (n := 4) (k := 2) (.inl ⟨_, _, Try.underlying42⟩) (by kernel_rfl) (by kernel_rfl)
  match p, hp, hpI with
  | [p1, p2], _, hpI =>
  obtain ⟨o, rfl, ho, hoI⟩ := h2.flat (n := 4) (k := 2) (.inr ⟨_, Try.underlying44⟩) (by kernel_rfl) (by kernel_rfl)
  match o, ho, hoI with
  | [o1, o2], _, hoI =>
  refine Sound.call (aks := [.ag, .ag, .ag]) (rks := [.b]) (F := fun x w k => pelotonlaw09_RingNil x.1 x.2.1 x.2.2 w k) s_pelotonlaw09_RingNil (#[.int .i64 s1, .int .i64 s2, .int .i64 s3, .int .i64 s4], #[.int .i64 p1, .int .i64 p2], #[.int .i64 o1, .int .i64 o2]) rfl ?_
  exact law_nil (a := ⟨s1, s2⟩) (b := ⟨s3, s4⟩) (wk := o1) (log := o2) (hpI p1 (by simp)) (hpI p2 (by simp)) (St.nil W) fun w' hS => ⟨rfl, hS.ext.below⟩

theorem lifted (os : Os) (started : os.Started) (H : Type) (enc : TypeId × Value → H) :
    ReturnsInHanded {} Try.checked os 6 .any (Rows.ringNilSpec.pre6 enc Try.prog Try.f6 Rows.ringNilRow.domain false) (Rows.ringNilSpec.post enc Try.prog Try.f6 false true false false) :=
  law_lifted (C := Try.checked) own started (by kernel_rfl) Try.func6
    (ChangeSpec.witness6 (enc := enc) (C := Try.checked) false ⟨#[], #[.agg #[.int .i64 0, .int .i64 0, .int .i64 0, .int .i64 0], .agg #[.int .i64 0, .int .i64 0], .agg #[.int .i64 0, .int .i64 0]], []⟩ 8 (by kernel_rfl) (by kernel_rfl) (by kernel_rfl) (by kernel_rfl))
    rfl (by kernel_rfl) (by kernel_rfl) (tb := 4) (by kernel_rfl) (by kernel_rfl)
    (fun ds h => by
      match ds, h with
      | [_, _, _], _ => rfl)
    walk

theorem over : Rows.ringNilRow.holds Try.pinned (OpenSpec.ofChange Rows.ringNilSpec) :=
  OpenClaim.holds_of_wide 6 Try.f6 rfl rfl rfl rfl rfl rfl rfl ⟨rfl, rfl, rfl, rfl, rfl⟩ rfl rfl rfl rfl rfl (by kernel_rfl) Try.func6 (by kernel_rfl)
    (of_decide_eq_true (by kernel_rfl)) (by unfold Func.isWrapper; first | (rw [if_pos (by decide +kernel)]; kernel_rfl) | (rw [if_neg (by decide +kernel)]; exact ⟨rfl, rfl⟩))
    (fun os started H enc _ => lifted os started H enc)

theorem proved : Rows.RingNilSaid := over
#print axioms proved
end Go.Proofs.Yteipigpapliagaa.RingNil
