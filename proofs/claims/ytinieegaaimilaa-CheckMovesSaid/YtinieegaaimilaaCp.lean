/-
  Layer 2: which instructions may be: the document's answer.
-/
import Derived.Test.YtinieegaaimilaaCo
set_option linter.unusedSimpArgs false
set_option linter.unusedVariables false
set_option maxRecDepth 100000
namespace Go.Proofs.Ytinieegaaimilaa
open Go Go.Ev Go.Proofs

def spansL (op : Int) : List Int := (kinds op).flatMap fun kd => [(spanOf kd).1, (spanOf kd).2]
theorem k_cast {k : Array Value → World → Prop} {a b : Array Value} {w : World} (h : k a w) (e : a = b) : k b w := e ▸ h
theorem rspans_s {w : World} {op : Int} {k : Array Value → World → Prop} (h0 : 0 ≤ op) (h1 : op < 17) (hc : ∀ w', St w w' [] → k (agI (spansL op)) w') : pelotonref02_spans op w k := by
  unfold pelotonref02_spans
  refine newC_h (.nil w) fun g1 w2 h => ?_
  have hop : op = 0 ∨ op = 1 ∨ op = 2 ∨ op = 3 ∨ op = 4 ∨ op = 5 ∨ op = 6 ∨ op = 7 ∨ op = 8 ∨ op = 9 ∨ op = 10 ∨ op = 11 ∨ op = 12 ∨ op = 13 ∨ op = 14 ∨ op = 15 ∨ op = 16 := by omega
  rcases hop with rfl | rfl | rfl | rfl | rfl | rfl | rfl | rfl | rfl | rfl | rfl | rfl | rfl | rfl | rfl | rfl | rfl
  all_goals
    repeat (first | refine iteB_t rfl ?_ | refine iteB_f rfl ?_ | refine joinP_d ?_)
    refine stW_h (g := g1) h rfl rfl (by intro v hv; simp at hv; rcases hv with rfl | rfl | rfl | rfl | rfl | rfl | rfl | rfl <;> rfl) fun w3 h => ?_
    refine ldW_h (g := g1) h rfl ?_
    exact k_cast (hc _ h.all) (by kernel_rfl)
theorem spansL_get {op : Int} (h0 : 0 ≤ op) (h1 : op < 17) {j : Nat} (hj : j < 4) : (spansL op).length = 8 ∧ (spansL op).getD (2 * j) 0 = (spanOf ((kinds op).getD j 0)).1 ∧ (spansL op).getD (2 * j + 1) 0 = (spanOf ((kinds op).getD j 0)).2 := by
  have hop : op = 0 ∨ op = 1 ∨ op = 2 ∨ op = 3 ∨ op = 4 ∨ op = 5 ∨ op = 6 ∨ op = 7 ∨ op = 8 ∨ op = 9 ∨ op = 10 ∨ op = 11 ∨ op = 12 ∨ op = 13 ∨ op = 14 ∨ op = 15 ∨ op = 16 := by omega
  have hjj : j = 0 ∨ j = 1 ∨ j = 2 ∨ j = 3 := by omega
  rcases hop with rfl | rfl | rfl | rfl | rfl | rfl | rfl | rfl | rfl | rfl | rfl | rfl | rfl | rfl | rfl | rfl | rfl <;> rcases hjj with rfl | rfl | rfl | rfl <;> decide
theorem rcheck_s {w : World} {x : List Int} {k : Int → World → Prop} (h5 : x.length = 5) (hc : ∀ w', St w w' [] → k (chk x) w') : pelotonref02_Check (agI x) w k := by
  obtain ⟨o, a, b, c, n, rfl⟩ : ∃ o a b c n, x = [o, a, b, c, n] := by
    match x, h5 with
    | [o, a, b, c, n], _ => exact ⟨o, a, b, c, n, rfl⟩
  unfold pelotonref02_Check pelotonref02_Check_b
  refine newC_h (.nil w) fun g1 w2 h => ?_
  refine joinP_i (fun b w' => b = decide (o < 0 ∨ 17 ≤ o) ∧ w' = w2) (fun J hJ => ?_) ?_
  · refine ldI_h (g := g1) (o := 0) h rfl (iteB_i (fun hb => ?_) fun hb => ?_)
    · have := of_decide_eq_true hb
      exact hJ _ _ ⟨(decide_eq_true (.inl this)).symm, rfl⟩
    · have := of_decide_eq_false hb
      refine ldI_h (g := g1) (o := 0) h rfl (hJ _ _ ⟨?_, rfl⟩)
      rw [decide_eq_decide]; omega
  rintro b1 w7 ⟨rfl, rfl⟩
  refine iteB_i (fun hb => ?_) fun hb => ?_
  · have := of_decide_eq_true hb
    have e : chk [o, a, b, c, n] = 13 := if_pos this
    have := hc w7 h.all
    rwa [e] at this
  · have hno := of_decide_eq_false hb
    have e : chk [o, a, b, c, n] = if fits [o, a, b, c, n] (kinds o) then 0 else 10 := if_neg hno
    rw [e] at hc
    have hl : (spansL o).length = 8 := (spansL_get (op := o) (by omega) (by omega) (j := 0) (by omega)).1
    refine ldI_h (g := g1) (o := 0) h rfl ?_
    refine rspans_s (by omega) (by omega) fun w10 h2 => ?_
    have h := h.on h2.ext
    refine newC_h h fun g2 w12 h => ?_
    refine stW_h (g := g2) h rfl (by simp [ints, hl]) (one_agI _) fun w13 h => ?_
    refine ldI_h (g := g1) (o := 1) h rfl (ldI_h (g := g1) (o := 2) h rfl (ldI_h (g := g1) (o := 3) h rfl (ldI_h (g := g1) (o := 4) h rfl ?_)))
    refine newC_h h fun g3 w19 h => ?_
    refine stW_h (g := g3) (vs := agI [a, b, c, n]) h rfl rfl (one_agI _) fun w20 h => ?_
    refine loopP_of (fun (y : Int) w' => ∃ j : Nat, y = (j : Int) ∧ j ≤ 4 ∧ (∀ i, i < j → fit [o, a, b, c, n] (kinds o) i = true) ∧ St w w' [blk g3 (ints [a, b, c, n]), blk g2 (ints (spansL o)), blk g1 (ints [o, a, b, c, n])]) (fun y _ => (4 - y).toNat) ⟨0, rfl, by omega, fun i hi => by omega, h⟩ ?_
    rintro _ w23 ⟨j, rfl, hj4, hfit, h⟩ C hC
    refine iteB_i (fun hb => ?_) fun hb => ?_
    · have hj : j < 4 := by have := of_decide_eq_true hb; omega
      have hw2 : IntKind.wrap .i64 ((j : Int) + 1) = ((j + 1 : Nat) : Int) := by rw [wrap_id ⟨by omega, by omega⟩]; simp
      have hw3 : IntKind.wrap .i64 (2 * (j : Int)) = ((2 * j : Nat) : Int) := by rw [wrap_id ⟨by omega, by omega⟩]; omega
      have hw4 : IntKind.wrap .i64 (((2 * j : Nat) : Int) + 1) = ((2 * j + 1 : Nat) : Int) := by rw [wrap_id ⟨by omega, by omega⟩]; omega
      have hsp := spansL_get (op := o) (by omega) (by omega) hj
      have ef : [a, b, c, n].getD j 0 = [o, a, b, c, n].getD (j + 1) 0 := rfl
      refine joinP_i (fun b' w' => b' = !(fit [o, a, b, c, n] (kinds o) j) ∧ St w w' [blk g3 (ints [a, b, c, n]), blk g2 (ints (spansL o)), blk g1 (ints [o, a, b, c, n])]) (fun J hJ => ?_) ?_
      · refine drew_h h fun w25 h => ?_
        rw [hw3, hw4]
        have rd3 : ∀ {c' : Int → Prop}, c' ([o, a, b, c, n].getD (j + 1) 0) → ixP ⟨g3, 0, none⟩ 4 (j : Int) 1 fun a => ldI .i64 w25 a c' := by
          intro c' hc'
          refine ixP_i (by omega) (by omega) ?_
          refine ldI_h (g := g3) (o := 0 + (j : Int).toNat * 1) (n := [a, b, c, n].getD j 0) h (by rw [show 0 + (j : Int).toNat * 1 = j by omega]; exact ints_getD (by simp; omega)) ?_
          rw [ef]; exact hc'
        have rd2 : ∀ {m : Nat} {c' : Int → Prop}, m < 8 → c' ((spansL o).getD m 0) → ixP ⟨g2, 0, none⟩ 8 (m : Int) 1 fun a => ldI .i64 w25 a c' := by
          intro m c' hm hc'
          refine ixP_i (by omega) (by omega) ?_
          exact ldI_h (g := g2) (o := 0 + (m : Int).toNat * 1) (n := (spansL o).getD m 0) h (by rw [show 0 + (m : Int).toNat * 1 = m by omega]; exact ints_getD (by omega)) hc'
        refine rd3 (rd2 (by omega) ?_)
        rw [hsp.2.1]
        refine iteB_i (fun hb => ?_) fun hb => ?_
        · exact hJ _ _ ⟨by unfold fit; rw [hb]; rfl, h⟩
        · refine rd3 (rd2 (by omega) ?_)
          rw [hsp.2.2]
          exact hJ _ _ ⟨by unfold fit; rw [hb, Bool.not_not]; rfl, h⟩
      rintro b2 w35 ⟨rfl, h⟩
      refine iteB_i (fun hb => ?_) fun hb => ?_
      · have hf : fit [o, a, b, c, n] (kinds o) j = false := by simpa using hb
        have := hc _ h.all
        rw [fits_not hj hf] at this; exact this
      · have hf : fit [o, a, b, c, n] (kinds o) j = true := by simpa using hb
        rw [hw2]
        refine hC _ _ ⟨j + 1, rfl, hj, fun i hi => ?_, h⟩ (by omega)
        by_cases e : i = j
        · rw [e]; exact hf
        · exact hfit i (by omega)
    · have hj : j = 4 := by have := of_decide_eq_false hb; omega
      subst hj
      have := hc _ h.all
      rw [fits_all hfit] at this; exact this
end Go.Proofs.Ytinieegaaimilaa
