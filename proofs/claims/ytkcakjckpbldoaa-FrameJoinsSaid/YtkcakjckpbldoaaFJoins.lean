/-
  For every task, every instruction, kind and number, FrameJoins of package pelotonlaw05 returns true, panics never, and leaves what it was given as it was. Conditions: none.
-/
import Derived.Test.YtkcakjckpbldoaaFe
import Derived.Test.YtkcakjckpbldoaaEvT
import Derived.Test.YtkcakjckpbldoaaRows
set_option linter.unusedSimpArgs false
set_option linter.unusedVariables false
set_option maxRecDepth 100000
namespace Go.Proofs.Ytkcakjckpbldoaa.FrameJoins
open Go Go.Ev Go.Proofs Go.Proofs.Ytkcakjckpbldoaa Go.RowKit Go.ChangeShapes Go.WideShapes

theorem law {f x : List Int} {w : World} {k : Bool → World → Prop} (hf : f.length = 19) (hx : x.length = 7) (hk : ∀ w', Ext w w' → k true w') : pelotonlaw05_FrameJoins (agI f) (agI x) w k := by
  unfold pelotonlaw05_FrameJoins
  refine newC_i fun g1 w1 hg1 hs1 hb1 he1 => newC_i fun g2 w2 hg2 hs2 hb2 he2 => ?_
  have he12 := he1.trans he2
  have hb12 : BI w2 g1 f := hb1.ext he2
  have hb22 : BI w2 g2 x := hb2
  simp only [add_mk, Nat.zero_add]
  refine ldA_I hb12 hf (usual_s hf fun w3 he3 => ?_)
  have he13 := he12.trans he3
  refine iteB_i (fun h => awake5_s fun w' he => hk _ (he13.trans he)) fun h => ?_
  have hb13 : BI w3 g1 f := hb12.ext he3
  have hb23 : BI w3 g2 x := hb22.ext he3
  have hi : ((x.drop 0).take 5).length = 5 := by rw [List.length_take, List.length_drop, hx]; rfl
  refine ldA_I hb13 hf (ldA_P hb23 (by omega) (ldP_I hb23 (by omega) (ldP_I hb23 (by omega) (joined_s hf hi fun w4 he4 => ?_))))
  generalize hi' : (x.drop 0).take 5 = i at *
  generalize hkd : x.getD 5 0 = kind at *
  generalize hvd : x.getD 6 0 = v at *
  have hl : (fJoined f i kind v).1.length = 19 := by rw [fJoined_len, hf]
  refine newC_i fun g5 w5 hg5 hs5 hb5 he5 => stA_I hb5 rfl hl fun w6 hb6 hs6 ho6 => ?_
  have he36 : Ext w3 w6 := (he4.trans he5).then ho6 fun g hg => by have := he4.size; omega
  have hb16 : BI w6 g1 f := hb13.ext he36
  have hb26 : BI w6 g2 x := hb23.ext he36
  refine joinP_i (fun y w' => Ext w6 w' ∧ ∃ g, y = (⟨g, 0, none⟩, ((fJoined f i kind v).2.1, (fJoined f i kind v).2.2)) ∧ BI w' g (fJoined f i kind v).1) ?_ ?_
  · intro J hJ
    refine drew_i fun w7 hh7 he7 => ?_
    have hb17 : BI w7 g1 f := hb16.ext he7
    have hb27 : BI w7 g2 x := hb26.ext he7
    have st1 : ∀ {w' : World} {n o : Nat} {c : Prop}, Ext w7 w' → c → samec n ⟨g1, o, none⟩ w7 w' c := fun he hc => samec_B hb17 (hb17.ext he) hc
    have st2 : ∀ {w' : World} {n o : Nat} {c : Prop}, Ext w7 w' → c → samec n ⟨g2, o, none⟩ w7 w' c := fun he hc => samec_B hb27 (hb27.ext he) hc
    refine ldA_I hb17 hf (ldA_P hb27 (by omega) (ldP_I hb27 (by omega) (ldP_I hb27 (by omega) ?_)))
    rw [hi', hkd, hvd]
    refine ⟨?_, ?_⟩
    · refine plain_s hf fun w8 he8 => st2 he8 (st2 he8 (st2 he8 ⟨?_, ?_⟩))
      · refine rjoined_s hf hi fun w9 he9 => newC_i fun g10 w10 hg10 hs10 hb10 he10 => ?_
        have he710 := (he8.trans he9).trans he10
        refine st2 he710 (st2 he710 (st2 he710 (st1 he710 (stA_I hb10 rfl hl fun w11 hb11 hs11 ho11 => hJ _ _ ⟨?_, g10, rfl, hb11⟩))))
        exact (he7.trans he710).then ho11 fun g hg => by have := (he7.trans (he8.trans he9)).size; omega
      · refine newC_i fun g10 w10 hg10 hs10 hb10 he10 => ?_
        have he710 := he8.trans he10
        refine st2 he710 (st2 he710 (st2 he710 (st1 he710 (rjoined_s hf hi fun w11 he11 => stA_I (hb10.ext he11) rfl hl fun w12 hb12 hs12 ho12 => hJ _ _ ⟨?_, g10, rfl, hb12⟩))))
        exact ((he7.trans he710).trans he11).then ho12 fun g hg => by have := (he7.trans he8).size; omega
    · refine newC_i fun g8 w8 hg8 hs8 hb8 he8 => st2 he8 (st2 he8 (st2 he8 (st1 he8 (plain_s hf fun w9 he9 => ?_))))
      have he79 := he8.trans he9
      refine st2 he79 (st2 he79 (st2 he79 (rjoined_s hf hi fun w10 he10 => ?_)))
      refine stA_I ((hb8.ext he9).ext he10) rfl hl fun w11 hb11 hs11 ho11 => hJ _ _ ⟨?_, g8, rfl, hb11⟩
      exact (he7.trans (he79.trans he10)).then ho11 fun g hg => by have := he7.size; omega
  · rintro _ w7 ⟨he7, g, rfl, hbg⟩
    refine ldA_I (hb6.ext he7) hl (ldA_I hbg hl (same_s hl fun w8 he8 => iteB_t (by simp) ?_))
    exact awake5_s fun w12 he12 => hk _ ((((he13.trans he36).trans he7).trans he8).trans he12)

/-! ### the lift -/
theorem own : ownKnob Try.prog.godebug = none := by kernel_rfl
theorem walk (W : World) (args : Array Value) (hA : Args Try.prog W Try.f12.params.toList args.toList) :
    Calls Try.prog 12 args W fun e W' => e = .returned (.bool true) ∧ Below W.heap.size W W' := by
  rw [Try.params12] at hA
  obtain ⟨v0, _, e0, h0, hA⟩ := hA.cons
  obtain ⟨v1, _, rfl, h1, hA⟩ := hA.cons
  obtain rfl := hA.nil
  obtain rfl : args = #[v0, v1] := by cases args; simp_all
  obtain ⟨f, rfl, hf, hfI⟩ := h0.flat (n := 4) (k := 19) (.inr ⟨_, Try.underlying48⟩) (by kernel_rfl) (by kernel_rfl)
  obtain ⟨x, rfl, hx, hxI⟩ := h1.flat (n := 4) (k := 7) (.inr ⟨_, Try.underlying78⟩) (by kernel_rfl) (by kernel_rfl)
  refine (s12.2 _ W (fun v w' => v = .bool true ∧ Below W.heap.size W w') ?_).mono ?_
  · have h := law (k := fun r w' => packV (valL [.b] r) = .bool true ∧ Below W.heap.size W w') hf hx fun w' he => ⟨rfl, he.below⟩
    exact h
  · rintro e w' ⟨v, rfl, rfl, hb⟩
    exact ⟨rfl, hb⟩

theorem lifted (os : Os) (started : os.Started) (H : Type) (enc : TypeId × Value → H) :
    ReturnsInHanded {} Try.checked os 12 .any (Rows.frameJoinsSpec.pre6 enc Try.prog Try.f12 Rows.frameJoinsRow.domain false) (Rows.frameJoinsSpec.post enc Try.prog Try.f12 false true false false) :=
  law_lifted (C := Try.checked) own started (by kernel_rfl) Try.func12
    (ChangeSpec.witness6 (enc := enc) (C := Try.checked) false ⟨#[], #[.agg #[.int .i64 0, .int .i64 0, .int .i64 0, .int .i64 0, .int .i64 0, .int .i64 0, .int .i64 0, .int .i64 0, .int .i64 0, .int .i64 0, .int .i64 0, .int .i64 0, .int .i64 0, .int .i64 0, .int .i64 0, .int .i64 0, .int .i64 0, .int .i64 0, .int .i64 0], .agg #[.int .i64 0, .int .i64 0, .int .i64 0, .int .i64 0, .int .i64 0, .int .i64 0, .int .i64 0]], []⟩ 8 (by kernel_rfl) (by kernel_rfl) (by kernel_rfl) (by kernel_rfl))
    rfl (by kernel_rfl) (by kernel_rfl) (tb := 4) (by kernel_rfl) (by kernel_rfl)
    (fun ds h => by
      match ds, h with
      | [_, _], _ => rfl)
    walk

theorem over : Rows.frameJoinsRow.holds Try.pinned (OpenSpec.ofChange Rows.frameJoinsSpec) :=
  OpenClaim.holds_of_wide 12 Try.f12 rfl rfl rfl rfl rfl rfl rfl ⟨rfl, rfl, rfl, rfl, rfl⟩ rfl rfl rfl rfl rfl (by kernel_rfl) Try.func12 (by kernel_rfl)
    (of_decide_eq_true (by kernel_rfl)) (by unfold Func.isWrapper; first | (rw [if_pos (by decide +kernel)]; kernel_rfl) | (rw [if_neg (by decide +kernel)]; exact ⟨rfl, rfl⟩))
    (fun os started H enc _ => lifted os started H enc)

theorem proved : Rows.FrameJoinsSaid := over
#print axioms proved
end Go.Proofs.Ytkcakjckpbldoaa.FrameJoins
