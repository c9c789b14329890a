/-
  For every task, every instruction and every answer, FramePasses of package pelotonlaw05 returns true, panics never, and leaves what it was given as it was. Conditions: none.
-/
import Derived.Test.YtkcakjckpbldoaaFe
import Derived.Test.YtkcakjckpbldoaaEvT
import Derived.Test.YtkcakjckpbldoaaRows
set_option linter.unusedSimpArgs false
set_option linter.unusedVariables false
set_option maxRecDepth 100000
namespace Go.Proofs.Ytkcakjckpbldoaa.FramePasses
open Go Go.Ev Go.Proofs Go.Proofs.Ytkcakjckpbldoaa Go.RowKit Go.ChangeShapes Go.WideShapes

theorem law {f i : List Int} {b : Bool} {w : World} {k : Bool → World → Prop} (hf : f.length = 19) (hi : i.length = 5) (hk : ∀ w', Ext w w' → k true w') : pelotonlaw05_FramePasses (agI f) (agI i) b w k := by
  unfold pelotonlaw05_FramePasses
  refine newC_i fun g1 w1 hg1 hs1 hb1 he1 => newC_i fun g2 w2 hg2 hs2 hb2 he2 => ?_
  have he12 := he1.trans he2
  have hb12 : BI w2 g1 f := hb1.ext he2
  have hb22 : BI w2 g2 i := hb2
  refine ldA_I hb12 hf (usual_s hf fun w3 he3 => ?_)
  have he13 := he12.trans he3
  refine iteB_i (fun h => awake5_s fun w' he => hk _ (he13.trans he)) fun h => ?_
  refine drew_i fun w4 hh4 he4 => ?_
  have he24 := he3.trans he4
  have hb14 : BI w4 g1 f := hb12.ext he24
  have hb24 : BI w4 g2 i := hb22.ext he24
  have hl : (fClosed f i b).length = 19 := by rw [fClosed_len, hf]
  refine ldA_I hb14 hf (ldA_I hb24 hi (ldA_I hb14 hf (ldA_I hb24 hi (closed_s hf hi fun w5 he5 => ?_))))
  refine samec_B hb24 (hb24.ext he5) (samec_B hb14 (hb14.ext he5) (plain_s hf fun w6 he6 => samec_B hb24 ((hb24.ext he5).ext he6) (rclosed_s hf hi fun w7 he7 => same_s hl fun w8 he8 => iteB_t rfl ?_)))
  have he48 := ((he5.trans he6).trans he7).trans he8
  have hb18 : BI w8 g1 f := hb14.ext he48
  have hlo : (fOn f).length = 19 := by rw [fOn_len, hf]
  refine ldA_I hb18 hf (ldA_I hb18 hf (on_s hf fun w9 he9 => samec_B hb18 (hb18.ext he9) (plain_s hf fun w10 he10 => ron_s hf fun w11 he11 => same_s hlo fun w12 he12' => iteB_t rfl ?_)))
  exact awake5_s fun w13 he13' => hk _ ((((((he12.trans he24).trans he48).trans he9).trans he10).trans he11).trans he12' |>.trans he13')

/-! ### the lift -/
theorem own : ownKnob Try.prog.godebug = none := by kernel_rfl
theorem walk (W : World) (args : Array Value) (hA : Args Try.prog W Try.f10.params.toList args.toList) :
    Calls Try.prog 10 args W fun e W' => e = .returned (.bool true) ∧ Below W.heap.size W W' := by
  rw [Try.params10] at hA
  obtain ⟨v0, _, e0, h0, hA⟩ := hA.cons
  obtain ⟨v1, _, rfl, h1, hA⟩ := hA.cons
  obtain ⟨v2, _, rfl, h2, hA⟩ := hA.cons
  obtain rfl := hA.nil
  obtain rfl : args = #[v0, v1, v2] := by cases args; simp_all
  obtain ⟨f, rfl, hf, hfI⟩ := h0.flat (n := 4) (k := 19) (.inr ⟨_, Try.underlying48⟩) (by kernel_rfl) (by kernel_rfl)
  obtain ⟨i, rfl, hi, hiI⟩ := h1.flat (n := 4) (k := 5) (.inr ⟨_, Try.underlying50⟩) (by kernel_rfl) (by kernel_rfl)
  obtain ⟨b, rfl⟩ := h2.bool (by kernel_rfl)
  refine (s10.2 _ W (fun v w' => v = .bool true ∧ Below W.heap.size W w') ?_).mono ?_
  · have h := law (b := b) (k := fun r w' => packV (valL [.b] r) = .bool true ∧ Below W.heap.size W w') hf hi fun w' he => ⟨rfl, he.below⟩
    exact h
  · rintro e w' ⟨v, rfl, rfl, hb⟩
    exact ⟨rfl, hb⟩

theorem lifted (os : Os) (started : os.Started) (H : Type) (enc : TypeId × Value → H) :
    ReturnsInHanded {} Try.checked os 10 .any (Rows.framePassesSpec.pre6 enc Try.prog Try.f10 Rows.framePassesRow.domain false) (Rows.framePassesSpec.post enc Try.prog Try.f10 false true false false) :=
  law_lifted (C := Try.checked) own started (by kernel_rfl) Try.func10
    (ChangeSpec.witness6 (enc := enc) (C := Try.checked) false ⟨#[], #[.agg #[.int .i64 0, .int .i64 0, .int .i64 0, .int .i64 0, .int .i64 0, .int .i64 0, .int .i64 0, .int .i64 0, .int .i64 0, .int .i64 0, .int .i64 0, .int .i64 0, .int .i64 0, .int .i64 0, .int .i64 0, .int .i64 0, .int .i64 0, .int .i64 0, .int .i64 0], .agg #[.int .i64 0, .int .i64 0, .int .i64 0, .int .i64 0, .int .i64 0], .bool false], []⟩ 8 (by kernel_rfl) (by kernel_rfl) (by kernel_rfl) (by kernel_rfl))
    rfl (by kernel_rfl) (by kernel_rfl) (tb := 4) (by kernel_rfl) (by kernel_rfl)
    (fun ds h => by
      match ds, h with
      | [_, _, _], _ => rfl)
    walk

theorem over : Rows.framePassesRow.holds Try.pinned (OpenSpec.ofChange Rows.framePassesSpec) :=
  OpenClaim.holds_of_wide 10 Try.f10 rfl rfl rfl rfl rfl rfl rfl ⟨rfl, rfl, rfl, rfl, rfl⟩ rfl rfl rfl rfl rfl (by kernel_rfl) Try.func10 (by kernel_rfl)
    (of_decide_eq_true (by kernel_rfl)) (by unfold Func.isWrapper; first | (rw [if_pos (by decide +kernel)]; kernel_rfl) | (rw [if_neg (by decide +kernel)]; exact ⟨rfl, rfl⟩))
    (fun os started H enc _ => lifted os started H enc)

theorem proved : Rows.FramePassesSaid := over
#print axioms proved
end Go.Proofs.Ytkcakjckpbldoaa.FramePasses
