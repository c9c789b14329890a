/-
  Layer 2: which instructions may be: the code's answer and the document's.
-/
import Derived.Test.YtinieegaaimilaaCn
import Derived.Test.YtinieegaaimilaaEvP
set_option linter.unusedSimpArgs false
set_option linter.unusedVariables false
set_option maxRecDepth 100000
namespace Go.Proofs.Ytinieegaaimilaa
open Go Go.Ev Go.Proofs

def kflat : List Int := [1, 0, 0, 5,  1, 1, 0, 0,  1, 1, 1, 0,  1, 1, 1, 0,  1, 1, 1, 0,  1, 1, 1, 0,  0, 0, 0, 2,  1, 0, 0, 2,  1, 0, 0, 3,  1, 1, 0, 0,  1, 1, 1, 0,  0, 0, 0, 4,  1, 0, 0, 0,  0, 0, 0, 0,  0, 0, 0, 0,  1, 0, 0, 0,  1, 0, 0, 0]
def kinds (op : Int) : List Int := (kflat.drop (op.toNat * 4)).take 4
theorem one_agI (l : List Int) : ∀ v ∈ agI l, v.oneCell' = true := by
  intro v hv
  exact one_ints v (by simpa [agI] using hv)
theorem operands_s {w : World} {op : Int} {k : Array Value → World → Prop} (h0 : 0 ≤ op) (h1 : op < 17) (hc : ∀ w', St w w' [] → k (agI (kinds op)) w') : code_operands op w k := by
  unfold code_operands
  refine newC_h (.nil w) fun g1 w2 h => ?_
  iterate 16 refine ⟨rfl, ?_⟩
  refine spl_i (agI kflat) rfl (by kernel_rfl) ?_
  refine newC_h h fun g2 w21 h => ?_
  refine stW_h (g := g2) h rfl (by kernel_rfl) (one_agI _) fun w22 h => ?_
  refine ixP_i h0 (by omega) ?_
  refine ldA_h (g := g2) h (by simp [ints, kflat]; omega) ?_
  have e : (List.take 4 (List.drop (0 + op.toNat * 4) (agI kflat).toList)) = ints (kinds op) := by
    simp [kinds, ints, agI, List.map_take, List.map_drop]
  rw [e]
  have hl : (kinds op).length = 4 := by simp [kinds, kflat]; omega
  refine stW_h (g := g1) h rfl (by simp [ints, hl]) (one_agI _) fun w25 h => ?_
  refine ldW_h (g := g1) h (by simp [ints, hl]) ?_
  exact hc _ h.all
def spanOf (kd : Int) : Int × Int := cond (kd == 1) (0, 7) (cond (kd == 2) (0, 127) (cond (kd == 3) (0, 31) (cond (kd == 4) (0, 65535) (cond (kd == 5) (-2147483648, 2147483647) (0, 0)))))
theorem span_s {w : World} {kd : Int} {k : Int × Int → World → Prop} (hc : k (spanOf kd) w) : code_span kd w k := by
  unfold code_span
  unfold spanOf at hc
  revert hc
  cases (kd == 1) <;> cases (kd == 2) <;> cases (kd == 3) <;> cases (kd == 4) <;> cases (kd == 5) <;> exact id

def fit (x ks : List Int) (j : Nat) : Bool := !(decide (x.getD (j + 1) 0 < (spanOf (ks.getD j 0)).1) || decide (x.getD (j + 1) 0 > (spanOf (ks.getD j 0)).2))
def fits (x ks : List Int) : Bool := (List.range 4).all (fit x ks)
/-- which instructions may be -/
def chk (x : List Int) : Int := if opI x < 0 ∨ 17 ≤ opI x then 13 else if fits x (kinds (opI x)) then 0 else 10
theorem fits_all {x ks : List Int} (h : ∀ j, j < 4 → fit x ks j = true) : fits x ks = true := by
  unfold fits; rw [List.all_eq_true]; intro j hj; exact h j (by simpa using hj)
theorem fits_not {x ks : List Int} {j : Nat} (hj : j < 4) (h : fit x ks j = false) : fits x ks = false := by
  unfold fits; rw [List.all_eq_false]; exact ⟨j, by simpa using hj, by simp [h]⟩

theorem ccheck_s {w : World} {x : List Int} {k : Int → World → Prop} (h5 : x.length = 5) (hc : ∀ w', St w w' [] → k (chk x) w') : code_Check (agI x) w k := by
  obtain ⟨o, a, b, c, n, rfl⟩ : ∃ o a b c n, x = [o, a, b, c, n] := by
    match x, h5 with
    | [o, a, b, c, n], _ => exact ⟨o, a, b, c, n, rfl⟩
  unfold code_Check code_Check_b
  refine newC_h (.nil w) fun g1 w2 h => ?_
  refine joinP_i (fun b w' => b = decide (o < 0 ∨ 17 ≤ o) ∧ w' = w2) (fun J hJ => ?_) ?_
  · refine ldI_h (g := g1) (o := 0) h rfl (iteB_i (fun hb => ?_) fun hb => ?_)
    · have := of_decide_eq_true hb
      exact hJ _ _ ⟨(decide_eq_true (.inl this)).symm, rfl⟩
    · have := of_decide_eq_false hb
      refine ldI_h (g := g1) (o := 0) h rfl (hJ _ _ ⟨?_, rfl⟩)
      rw [decide_eq_decide]; omega
  rintro b1 w7 ⟨rfl, rfl⟩
  refine iteB_i (fun hb => ?_) fun hb => ?_
  · have := of_decide_eq_true hb
    have e : chk [o, a, b, c, n] = 13 := if_pos this
    have := hc w7 h.all
    rwa [e] at this
  · have hno := of_decide_eq_false hb
    have e : chk [o, a, b, c, n] = if fits [o, a, b, c, n] (kinds o) then 0 else 10 := if_neg hno
    rw [e] at hc
    have hl : (kinds o).length = 4 := by simp [kinds, kflat]; omega
    refine ldI_h (g := g1) (o := 0) h rfl ?_
    refine operands_s (by omega) (by omega) fun w10 h2 => ?_
    have h := h.on h2.ext
    refine newC_h h fun g2 w12 h => ?_
    refine stW_h (g := g2) h rfl (by simp [ints, hl]) (one_agI _) fun w13 h => ?_
    refine ldI_h (g := g1) (o := 1) h rfl (ldI_h (g := g1) (o := 2) h rfl (ldI_h (g := g1) (o := 3) h rfl (ldI_h (g := g1) (o := 4) h rfl ?_)))
    refine loopP_of (fun (y : Int × Int) w' => ∃ j : Nat, y = (0, (j : Int)) ∧ j ≤ 4 ∧ (∀ i, i < j → fit [o, a, b, c, n] (kinds o) i = true) ∧ w' = w13) (fun y _ => (4 - y.2).toNat) ⟨0, rfl, by omega, fun i hi => by omega, rfl⟩ ?_
    rintro _ _ ⟨j, rfl, hj4, hfit, rfl⟩ C hC
    refine iteB_i (fun hb => ?_) fun hb => ?_
    · have hj : j < 4 := by have := of_decide_eq_true hb; dsimp only at this; omega
      have hw2 : IntKind.wrap .i64 ((j : Int) + 1) = ((j + 1 : Nat) : Int) := by rw [wrap_id ⟨by omega, by omega⟩]; simp
      refine ixA_I (l := [a, b, c, n]) (by dsimp only; omega) (by dsimp only; omega) rfl (toI_i ?_)
      refine ixP_i (by dsimp only; omega) (by dsimp only; omega) ?_
      refine ldI_h (g := g2) (o := 0 + (j : Int).toNat * 1) (n := (kinds o).getD j 0) h (by rw [show 0 + (j : Int).toNat * 1 = j by omega]; exact ints_getD (by omega)) ?_
      refine span_s ?_
      have ef : [a, b, c, n].getD (j : Int).toNat 0 = [o, a, b, c, n].getD (j + 1) 0 := by rw [Int.toNat_natCast]; rfl
      dsimp only
      rw [ef]
      have ed : (decide ([o, a, b, c, n].getD (j + 1) 0 < (spanOf ((kinds o).getD j 0)).1) || decide ([o, a, b, c, n].getD (j + 1) 0 > (spanOf ((kinds o).getD j 0)).2)) = !(fit [o, a, b, c, n] (kinds o) j) := by unfold fit; rw [Bool.not_not]
      rw [ed]
      refine iteB_i (fun hb => ?_) fun hb => ?_
      · have hf : fit [o, a, b, c, n] (kinds o) j = false := by simpa using hb
        have := hc _ h.all
        rw [fits_not hj hf] at this; exact this
      · have hf : fit [o, a, b, c, n] (kinds o) j = true := by simpa using hb
        rw [hw2]
        refine hC _ _ ⟨j + 1, rfl, hj, fun i hi => ?_, rfl⟩ (by dsimp only; omega)
        by_cases e : i = j
        · rw [e]; exact hf
        · exact hfit i (by omega)
    · have hj : j = 4 := by have := of_decide_eq_false hb; dsimp only at this; omega
      subst hj
      have := hc _ h.all
      rw [fits_all hfit] at this; exact this
end Go.Proofs.Ytinieegaaimilaa
