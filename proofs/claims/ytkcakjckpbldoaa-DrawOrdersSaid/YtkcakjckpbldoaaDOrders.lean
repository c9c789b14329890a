/-
  For every v, every two and every bits, DrawOrders of package pelotonlaw17 returns true, panics never, and leaves what it was given as it was. Conditions: none.
-/
import Derived.Test.YtkcakjckpbldoaaDc
import Derived.Test.YtkcakjckpbldoaaEvT
import Derived.Test.YtkcakjckpbldoaaRows
set_option linter.unusedSimpArgs false
set_option linter.unusedVariables false
set_option maxRecDepth 100000
namespace Go.Proofs.Ytkcakjckpbldoaa
open Go Go.Ev Go.Proofs Go.RowKit Go.ChangeShapes Go.WideShapes

theorem DrawOrders_w {v a b c d : Int} {w : World} {k : Bool → World → Prop} (hv : InI v) (hk : ∀ w', Ext w w' → k true w') : pelotonlaw17_DrawOrders v #[.int .i64 a, .int .i64 b] #[.int .i64 c, .int .i64 d] w k := by
  unfold pelotonlaw17_DrawOrders
  refine newC_i fun g1 w1 hg1 hs1 hb1 he1 => ?_
  refine newC_i fun g2 w2 hg2 hs2 hb2 he2 => ?_
  have hb1' := hb1.ext he2
  simp only [add_mk, Nat.zero_add]
  refine ldI_i (hb1'.cell 0) (ldI_i (hb1'.cell 1) (ldI_i (hb2.cell 0) (ldI_i (hb2.cell 1) ?_)))
  have rest : ∀ s e w3, Ext w2 w3 → (∃ B, Own w3 B s (ints (if b < 1 ∨ b > 16 ∨ a < 0 ∨ a ≥ b then [] else rot v (mayL a c d b.toNat)))) → e = (if b < 1 ∨ b > 16 ∨ a < 0 ∨ a ≥ b then 10 else 0) →
      (ldI .i64 w3 ⟨g1, 0, none⟩ fun i11 => ldI .i64 w3 ⟨g1, 1, none⟩ fun i12 => ldI .i64 w3 ⟨g2, 0, none⟩ fun i13 => ldI .i64 w3 ⟨g2, 1, none⟩ fun i14 =>
        pelotonref17_Order v i11 i12 i13 i14 w3 fun x15 w16 => iteB (e == x15.2) (pelotonlaw17_same s x15.1 w16 fun b17 w18 => iteB b17 (pelotonlaw17_awake w18 fun b19 w20 => k b19 w20) (k false w18)) (k false w16)) := by
    intro s e w3 he3 ⟨B, ho⟩ hee
    have hb1'' := hb1'.ext he3
    have hb2'' := hb2.ext he3
    refine ldI_i (hb1''.cell 0) (ldI_i (hb1''.cell 1) (ldI_i (hb2''.cell 0) (ldI_i (hb2''.cell 1) ?_)))
    have he123 := he1.trans (he2.trans he3)
    have hlen : (rot v (mayL a c d b.toNat)).length ≤ 64 ∨ (b < 1 ∨ b > 16 ∨ a < 0 ∨ a ≥ b) := by
      have := mayL_len a c d b.toNat
      by_cases hb : b > 16
      · exact .inr (.inr (.inl hb))
      · left
        simp only [rot, List.length_append, List.length_drop, List.length_take]
        omega
    by_cases hbad : b < 1 ∨ b > 16 ∨ a < 0 ∨ a ≥ b
    · rw [if_pos hbad] at ho hee
      subst hee
      refine refOrder_bad hbad (iteB_t rfl ?_)
      refine same_s (ys := []) ho.sls (Sls.nil 1 _) (by simp) fun w4 he4 => iteB_t rfl ?_
      exact awake_s fun w5 he5 => hk _ (he123.trans (he4.trans he5))
    · rw [if_neg hbad] at ho hee
      subst hee
      refine refOrder_s (by omega) (by omega) (by omega) (by omega) fun s2 w4 he4 ho4 => iteB_t rfl ?_
      refine same_s (ho.ext he4).sls ho4.sls (by omega) fun w5 he5 => iteB_t (by simp) ?_
      exact awake_s fun w6 he6 => hk _ (he123.trans (he4.trans (he5.trans he6)))
  by_cases hbad : b < 1 ∨ b > 16 ∨ a < 0 ∨ a ≥ b
  · refine draw_Order_bad hbad (rest _ _ _ (.refl _ _) ⟨0, ?_⟩ ?_)
    · rw [if_pos hbad]; exact Own.nil _ _
    · rw [if_pos hbad]
  · refine draw_Order_s hv (by omega) (by omega) (by omega) (by omega) fun s w3 he3 ho3 => rest _ _ _ he3 ⟨w2.heap.size, ?_⟩ ?_
    · rw [if_neg hbad]; exact ho3
    · rw [if_neg hbad]

theorem two {xs : List Int} (h : xs.length = 2) : ∃ a b, xs = [a, b] := by
  match xs, h with
  | [a, b], _ => exact ⟨a, b, rfl⟩

namespace DrawOrders
theorem own : ownKnob Try.prog.godebug = none := by kernel_rfl
theorem walk {H : Type} {enc : TypeId × Value → H} (W : World) (base : Nat) (args : Array Value) (ds : List (DataW H)) (ps : List MemPlace)
    (hval : ∀ (j : Nat) t v, Try.f3.params[j]? = some t → args[j]? = some v → Value.okWide Try.prog W .any base t v)
    (hA : DataW.TrodAll enc Try.prog W 0 (fun _ => true) true Try.f3.params.toList args.toList ds ps) :
    Calls Try.prog 3 args W fun e W' => e = .returned (.bool true) ∧ Below W.heap.size W W' := by
  rw [Try.params3] at hA hval
  obtain ⟨v0, v1, v2, d0, d1, d2, p0, p1, p2, rfl, rfl, _, h0, h1, h2⟩ := trodAll_three hA
  obtain ⟨v, rfl, hv⟩ := arg_int (by kernel_rfl) (hval 0 2 v0 rfl rfl) h0
  obtain ⟨xs, rfl, hx, hxI⟩ := arg_arrI (e := 3) (by kernel_rfl) (by kernel_rfl) (by kernel_rfl) (by kernel_rfl) (hval 1 22 v1 rfl rfl) h1
  obtain ⟨ys, rfl, hy, hyI⟩ := arg_arrI (e := 2) (by kernel_rfl) (by kernel_rfl) (by kernel_rfl) (by kernel_rfl) (hval 2 23 v2 rfl rfl) h2
  obtain ⟨a, b, rfl⟩ := two hx
  obtain ⟨c, d, rfl⟩ := two hy
  refine (s3.2 _ W (fun v w' => v = .bool true ∧ Below W.heap.size W w') ?_).mono ?_
  · exact DrawOrders_w hv fun w' he => ⟨rfl, he.below⟩
  · rintro e w' ⟨v, rfl, rfl, hb⟩
    exact ⟨rfl, hb⟩

set_option maxRecDepth 100000 in
theorem lifted (os : Os) (started : os.Started) (H : Type) (enc : TypeId × Value → H) :
    ReturnsInHanded {} Try.checked os 3 .any (Rows.drawOrdersSpec.pre6 enc Try.prog Try.f3 Rows.drawOrdersRow.domain false) (Rows.drawOrdersSpec.post enc Try.prog Try.f3 false true false false) :=
  law_lifted (C := Try.checked) own started (by kernel_rfl) Try.func3
    (ChangeSpec.witness6 (enc := enc) (C := Try.checked) false ⟨#[], #[.int .i64 0, .agg #[.int .i64 0, .int .i64 0], .agg #[.int .i64 0, .int .i64 0]], []⟩ 8 (by kernel_rfl) (by kernel_rfl) (by kernel_rfl) (by kernel_rfl))
    rfl (by kernel_rfl) (by kernel_rfl) (tb := 4) (by kernel_rfl) (by kernel_rfl)
    (fun ds h => by
      match ds, h with
      | [_, _, _], _ => rfl)
    walk

theorem over : Rows.drawOrdersRow.holds Try.pinned (OpenSpec.ofChange Rows.drawOrdersSpec) :=
  OpenClaim.holds_of_wide 3 Try.f3 rfl rfl rfl rfl rfl rfl rfl ⟨rfl, rfl, rfl, rfl, rfl⟩ rfl rfl rfl rfl rfl (by kernel_rfl) Try.func3 (by kernel_rfl)
    (of_decide_eq_true (by kernel_rfl)) (by unfold Func.isWrapper; first | (rw [if_pos (by decide +kernel)]; kernel_rfl) | (rw [if_neg (by decide +kernel)]; exact ⟨rfl, rfl⟩))
    (fun os started H enc _ => lifted os started H enc)

theorem proved : Rows.DrawOrdersSaid := over
end DrawOrders
#print axioms DrawOrders.proved
end Go.Proofs.Ytkcakjckpbldoaa
