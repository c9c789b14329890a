/-
  For every three numbers, FrameLess of package pelotonlaw05 returns true, panics never, and leaves what it was given as it was. Conditions: none.
-/
import Derived.Test.YtkcakjckpbldoaaFd
import Derived.Test.YtkcakjckpbldoaaEvT
import Derived.Test.YtkcakjckpbldoaaRows
set_option linter.unusedSimpArgs false
set_option linter.unusedVariables false
set_option maxRecDepth 100000
namespace Go.Proofs.Ytkcakjckpbldoaa.FrameLess
open Go Go.Ev Go.Proofs Go.Proofs.Ytkcakjckpbldoaa Go.RowKit Go.ChangeShapes Go.WideShapes

abbrev t0 (a b c : Int) : List Int := [0, 0, a, b, c, 0, 0, 0, 0, 0, -1, -1, -1, -1, -1, -1, -1, -1, 0]
abbrev t1 (a b c x : Int) : List Int := [0, 1, a, b, c, x, 0, 0, 0, 0, -1, -1, -1, -1, -1, -1, -1, -1, 1]

theorem law {a b c : Int} {w : World} {k : Bool → World → Prop} (hk : ∀ w', Ext w w' → k true w') : pelotonlaw05_FrameLess a b c w k := by
  unfold pelotonlaw05_FrameLess
  refine root_s fun w1 he1 => newC_i fun g2 w2 hg2 hs2 hb2 he2 => ?_
  have hsz := he1.size
  simp only [add_mk, Nat.zero_add]
  refine stA_I (l := fRoot) hb2 rfl rfl fun w3 hb3 hs3 ho3 => ?_
  refine stC_I hb3 (by decide) fun w4 hb4 hs4 ho4 => stC_I hb4 (by simp [fRoot]) fun w5 hb5 hs5 ho5 => stC_I hb5 (by simp [fRoot]) fun w6 hb6 hs6 ho6 => ?_
  have he6 : Ext w w6 := (((((he1.trans he2).then ho3 fun g hg => by omega).then ho4 fun g hg => by omega).then ho5 fun g hg => by omega).then ho6 fun g hg => by omega)
  have hb6' : BI w6 g2 (t0 a b c) := hb6
  have q1 : fPlain (t0 a b c) [5, 3, 0, 1, 0] = (t1 a b c (if a < b then 1 else 0), true) := rfl
  have q2 : fPlain (t0 a b c) [5, 3, 1, 0, 0] = (t1 a b c (if b < a then 1 else 0), true) := rfl
  have q3 : fPlain (t0 a b c) [5, 3, 1, 2, 0] = (t1 a b c (if b < c then 1 else 0), true) := rfl
  have q4 : fPlain (t0 a b c) [5, 3, 0, 2, 0] = (t1 a b c (if a < c then 1 else 0), true) := rfl
  refine ldA_I hb6' rfl (plain_F (f := t0 a b c) (i := [5, 3, 0, 1, 0]) rfl rfl fun w7 he7 => ?_)
  rw [q1]
  refine newC_i fun g8 w8 hg8 hs8 hb8 he8 => ?_
  simp only [add_mk, Nat.zero_add]
  refine stA_I hb8 rfl rfl fun w9 hb9 hs9 ho9 => ?_
  have he69 : Ext w6 w9 := (he7.trans he8).then ho9 fun g hg => by have := he7.size; omega
  refine ldA_I (hb6'.ext he69) rfl (plain_F (f := t0 a b c) (i := [5, 3, 1, 0, 0]) rfl rfl fun w10 he10 => ?_)
  rw [q2]
  refine newC_i fun g11 w11 hg11 hs11 hb11 he11 => ?_
  simp only [add_mk, Nat.zero_add]
  refine stA_I hb11 rfl rfl fun w12 hb12 hs12 ho12 => ?_
  have he912 : Ext w9 w12 := (he10.trans he11).then ho12 fun g hg => by have := he10.size; omega
  have he612 := he69.trans he912
  refine ldA_I (hb6'.ext he612) rfl (plain_F (f := t0 a b c) (i := [5, 3, 1, 2, 0]) rfl rfl fun w13 he13 => ?_)
  rw [q3]
  refine newC_i fun g14 w14 hg14 hs14 hb14 he14 => ?_
  simp only [add_mk, Nat.zero_add]
  refine stA_I hb14 rfl rfl fun w15 hb15 hs15 ho15 => ?_
  have he1215 : Ext w12 w15 := (he13.trans he14).then ho15 fun g hg => by have := he13.size; omega
  have he615 := he612.trans he1215
  refine ldA_I (hb6'.ext he615) rfl (plain_F (f := t0 a b c) (i := [5, 3, 0, 2, 0]) rfl rfl fun w16 he16 => ?_)
  rw [q4]
  refine newC_i fun g17 w17 hg17 hs17 hb17 he17 => ?_
  simp only [add_mk, Nat.zero_add]
  refine stA_I hb17 rfl rfl fun w18 hb18 hs18 ho18 => ?_
  have he1518 : Ext w15 w18 := (he16.trans he17).then ho18 fun g hg => by have := he16.size; omega
  have b1 := ((hb9.ext he912).ext he1215).ext he1518
  have b2 := (hb12.ext he1215).ext he1518
  have b3 := hb15.ext he1518
  have heall : Ext w w18 := (he6.trans he615).trans he1518
  have l1 : ∀ {x : Int}, (t1 a b c x).getD (2 + 3) 0 = x := rfl
  refine joinP_i (fun x w' => x = false ∧ w18 = w') ?_ ?_
  · intro J hJ
    refine iteB_f rfl (ldP_I b1 (by simp) (iteB_f ?_ (ldP_I b2 (by simp) (iteB_f ?_ (ldP_I b1 (by simp) (ldP_I b2 (by simp) (iteB_f ?_ (ldP_I b1 (by simp) (ldP_I b2 (by simp) (hJ _ _ ⟨?_, rfl⟩))))))))))
    · rw [l1]; split <;> decide
    · rw [l1]; split <;> decide
    · rw [l1, l1]
      by_cases h1 : a < b
      · have h2 : ¬ b < a := by omega
        have h3 : a ≠ b := by omega
        have e : (a != b) = true := by simpa using h3
        rw [if_pos h1, if_neg h2, e]; decide
      · by_cases h2 : b < a
        · have h3 : a ≠ b := by omega
          have e : (a != b) = true := by simpa using h3
          rw [if_neg h1, if_pos h2, e]; decide
        · have h3 : a = b := by omega
          have e : (a != b) = false := by simpa using h3
          rw [if_neg h1, if_neg h2, e]; decide
    · rw [l1, l1]
      by_cases h1 : a < b
      · have h2 : ¬ b < a := by omega
        rw [if_pos h1, if_neg h2]; decide
      · rw [if_neg h1]
        split <;> decide
  rintro _ _ ⟨rfl, rfl⟩
  refine iteB_f rfl (ldP_I b1 (by simp) (ldP_I b3 (by simp) ?_))
  refine iteB_i (fun h => awake5_s fun w' he => hk _ (heall.trans he)) fun h => ldP_I hb18 (by simp) (iteB_t ?_ (awake5_s fun w' he => hk _ (heall.trans he)))
  rw [l1, l1] at h
  rw [l1]
  by_cases h1 : a < b
  · by_cases h2 : b < c
    · rw [if_pos (by omega)]; rfl
    · rw [if_pos h1, if_neg h2] at h; exact absurd h (by decide)
  · rw [if_neg h1] at h
    exfalso; revert h
    split <;> decide

/-! ### the lift -/
theorem own : ownKnob Try.prog.godebug = none := by kernel_rfl
theorem walk (W : World) (args : Array Value) (hA : Args Try.prog W Try.f9.params.toList args.toList) :
    Calls Try.prog 9 args W fun e W' => e = .returned (.bool true) ∧ Below W.heap.size W W' := by
  rw [Try.params9] at hA
  obtain ⟨v0, _, e0, h0, hA⟩ := hA.cons
  obtain ⟨v1, _, rfl, h1, hA⟩ := hA.cons
  obtain ⟨v2, _, rfl, h2, hA⟩ := hA.cons
  obtain rfl := hA.nil
  obtain rfl : args = #[v0, v1, v2] := by cases args; simp_all
  obtain ⟨a, rfl, ha⟩ := h0.int (by kernel_rfl)
  obtain ⟨b, rfl, hb⟩ := h1.int (by kernel_rfl)
  obtain ⟨c, rfl, hc⟩ := h2.int (by kernel_rfl)
  refine (s9.2 _ W (fun v w' => v = .bool true ∧ Below W.heap.size W w') ?_).mono ?_
  · have h := law (a := a) (b := b) (c := c) (k := fun r w' => packV (valL [.b] r) = .bool true ∧ Below W.heap.size W w') fun w' he => ⟨rfl, he.below⟩
    exact h
  · rintro e w' ⟨v, rfl, rfl, hb⟩
    exact ⟨rfl, hb⟩

theorem lifted (os : Os) (started : os.Started) (H : Type) (enc : TypeId × Value → H) :
    ReturnsInHanded {} Try.checked os 9 .any (Rows.frameLessSpec.pre6 enc Try.prog Try.f9 Rows.frameLessRow.domain false) (Rows.frameLessSpec.post enc Try.prog Try.f9 false true false false) :=
  law_lifted (C := Try.checked) own started (by kernel_rfl) Try.func9
    (ChangeSpec.witness6 (enc := enc) (C := Try.checked) false ⟨#[], #[.int .i64 0, .int .i64 0, .int .i64 0], []⟩ 8 (by kernel_rfl) (by kernel_rfl) (by kernel_rfl) (by kernel_rfl))
    rfl (by kernel_rfl) (by kernel_rfl) (tb := 4) (by kernel_rfl) (by kernel_rfl)
    (fun ds h => by
      match ds, h with
      | [_, _, _], _ => rfl)
    walk

theorem over : Rows.frameLessRow.holds Try.pinned (OpenSpec.ofChange Rows.frameLessSpec) :=
  OpenClaim.holds_of_wide 9 Try.f9 rfl rfl rfl rfl rfl rfl rfl ⟨rfl, rfl, rfl, rfl, rfl⟩ rfl rfl rfl rfl rfl (by kernel_rfl) Try.func9 (by kernel_rfl)
    (of_decide_eq_true (by kernel_rfl)) (by unfold Func.isWrapper; first | (rw [if_pos (by decide +kernel)]; kernel_rfl) | (rw [if_neg (by decide +kernel)]; exact ⟨rfl, rfl⟩))
    (fun os started H enc _ => lifted os started H enc)

theorem proved : Rows.FrameLessSaid := over
#print axioms proved
end Go.Proofs.Ytkcakjckpbldoaa.FrameLess
