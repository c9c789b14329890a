/-
  Layer 4: the first fault of a program.
-/
import Derived.Test.YtinieegaaimilaaCt
set_option linter.unusedSimpArgs false
set_option linter.unusedVariables false
set_option maxRecDepth 100000
namespace Go.Proofs.Ytinieegaaimilaa
open Go Go.Ev Go.Proofs

def tri (x : Int × Int × Int) : List Int := [x.1, x.2.1, x.2.2]
theorem firstBad_zero : ∀ {l : List (List Int)} {i : Nat}, (firstBad i l).2 = 0 → ∀ x ∈ l, chk x = 0
  | [], _, _, x, hx => by cases hx
  | y :: l, i, h, x, hx => by
    unfold firstBad at h
    split at h
    · rename_i hb
      simp only at h
      rw [h] at hb; cases hb
    · rename_i hb
      rcases List.mem_cons.1 hx with rfl | hx
      · simpa using hb
      · exact firstBad_zero h x hx
theorem shape_zero {needs : Int} {l : List (List Int)} (h : (shapeF needs l).2 = 0) : 0 ≤ needs ∧ needs ≤ 255 ∧ 1 ≤ l.length ∧ l.length ≤ 128 ∧ ∀ x ∈ l, chk x = 0 := by
  unfold shapeF at h
  split at h
  · cases h
  · rename_i h1
    split at h
    · cases h
    · rename_i h2
      simp only [Bool.or_eq_true, decide_eq_true_eq, not_or] at h1 h2
      exact ⟨by omega, by omega, by omega, by omega, firstBad_zero h⟩
theorem shapes_none : ∀ {l : List FnR} {k : Nat}, shapes k l = none → ∀ f ∈ l, (shapeF f.needs f.code).2 = 0
  | [], _, _, f, hf => by cases hf
  | g :: l, k, h, f, hf => by
    unfold shapes at h
    split at h
    · cases h
    · rename_i hb
      rcases List.mem_cons.1 hf with rfl | hf
      · simpa using hb
      · exact shapes_none h f hf
theorem funcFault_some {P : List FnR} {n : Nat} {D H : List Int} : ∀ {l : List (List Int)} {i : Nat} {a e : Int}, funcFault P n D H i l = some (a, e) → e ≠ 0
  | [], _, _, _, h => by cases h
  | x :: l, i, a, e, h => by
    unfold funcFault at h
    split at h
    · rename_i hb
      cases h
      simpa using hb
    · exact funcFault_some h

theorem program_s {w : World} {ps : Sl} {P : List FnR} {k : Array Value → World → Prop} (hF : Funcs5 w ps P)
    (hc : ∀ w', St w w' [] → k (agI (tri (progF P))) w') : check_Program #[.slice ps.a ps.n ps.c] w k := by
  have hpn := hF.len
  unfold check_Program check_Program_b
  refine newC_h (.nil w) fun g1 w2 h => newC_h h fun g3 w4 h => ?_
  have h : St w w4 [blk g3 (ints [0, 0, 0]), blk g1 [.slice ps.a ps.n ps.c]] := h
  have e1 : decide (((ps.n : Nat) : Int) < 1) = decide (P.length < 1) := by rw [decide_eq_decide]; omega
  have e2 : decide (((ps.n : Nat) : Int) > 32) = decide (P.length > 32) := by rw [decide_eq_decide]; omega
  refine joinP_i (fun b w' => b = (decide (P.length < 1) || decide (P.length > 32)) ∧ w' = w4) (fun J hJ => ?_) ?_
  · refine ldS_h (g := g1) (o := 0) h rfl (iteB_i (fun hb => ?_) fun hb => ?_)
    · exact hJ _ _ ⟨by rw [← e1]; dsimp only at hb; rw [hb]; rfl, rfl⟩
    · refine ldS_h (g := g1) (o := 0) h rfl (hJ _ _ ⟨by rw [← e1, ← e2]; dsimp only at hb; rw [hb]; rfl, rfl⟩)
  rintro b8 w9 ⟨rfl, rfl⟩
  unfold progF at hc
  refine iteB_i (fun hb => ?_) fun hb => ?_
  · rw [hb] at hc
    refine stW_h (g := g3) (vs := agI [-1, -1, 12]) h rfl rfl (one_agI _) fun w10 h => ldW_h (g := g3) h rfl ?_
    exact hc _ h.all
  · rw [hb] at hc
    rw [Bool.or_eq_false_iff] at hb
    have hl1 := of_decide_eq_false hb.1
    have hl2 := of_decide_eq_false hb.2
    refine ldS_h (g := g1) (o := 0) h rfl ?_
    refine joinP_i (fun _ w' => shapes 0 P = none ∧ St w w' [blk g3 (ints [0, 0, 0]), blk g1 [.slice ps.a ps.n ps.c]]) (fun J hJ => ?_) ?_
    · refine loopP_of (fun (i : Int) w' => ∃ dn rest, P = dn ++ rest ∧ i = (dn.length : Int) ∧ shapes 0 P = shapes dn.length rest ∧ St w w' [blk g3 (ints [0, 0, 0]), blk g1 [.slice ps.a ps.n ps.c]]) (fun i _ => ((ps.n : Int) - i).toNat) ⟨[], P, rfl, rfl, rfl, h⟩ ?_
      rintro _ w16 ⟨dn, rest, hl, rfl, hd, h⟩ C hC
      cases rest with
      | nil =>
        refine iteB_f (by simp only [decide_eq_false_iff_not]; rw [hpn, hl]; simp) ?_
        exact hJ _ _ ⟨by rw [hd]; rfl, h⟩
      | cons f rest =>
        have hlen2 : P.length = dn.length + (rest.length + 1) := by rw [hl]; simp
        have hw1 : IntKind.wrap .i64 ((dn.length : Int) + 1) = ((dn ++ [f]).length : Int) := by rw [wrap_id ⟨by omega, by omega⟩]; simp
        have hx : P[dn.length]? = some f := by rw [hl]; simp
        have hcd := (hF.code f (List.mem_of_getElem? hx)).2
        refine iteB_t (by simp only [decide_eq_true_eq]; omega) ?_
        refine ixR_h (e := FnR.cells f) hF.rws h (by omega) (by rw [List.getElem?_map, Int.toNat_natCast, hx]; rfl) fun p hp => ldA_c (e := FnR.cells f) rfl (fun j v => hp h) ?_
        refine newC_h h fun g8 w9 h => stW_h (g := g8) h rfl rfl (by intro v hv; simp [FnR.cells] at hv; rcases hv with rfl | rfl <;> rfl) fun w10 h => ldW_h (g := g8) h rfl ?_
        refine shape_s (needs := f.needs) (s := f.sl) (l := f.code) (hcd.ext h.ext) fun w24 h2 => ?_
        have h := h.drop.on h2.ext
        refine iteB_i (fun hb3 => ?_) fun hb3 => ?_
        · refine stW_h (g := g3) (vs := agI [(dn.length : Int), (shapeF f.needs f.code).1, (shapeF f.needs f.code).2]) h rfl rfl (one_agI _) fun w25 h => ldW_h (g := g3) h rfl ?_
          have e : shapes 0 P = some ((dn.length : Int), (shapeF f.needs f.code).1, (shapeF f.needs f.code).2) := by rw [hd]; unfold shapes; rw [if_pos hb3]
          rw [e] at hc
          exact hc _ h.all
        · rw [hw1]
          refine hC _ _ ⟨dn ++ [f], rest, by rw [hl]; simp, rfl, ?_, h⟩ (by simp; omega)
          have hb3' : ((shapeF f.needs f.code).2 != 0) = false := hb3
          rw [hd]; simp [shapes, hb3']
    rintro _ w28 ⟨hsh, h⟩
    rw [hsh] at hc
    have hall := shapes_none hsh
    have h0 : P[0]? = some P[0] := List.getElem?_eq_getElem (by omega)
    refine ldS_h (g := g1) (o := 0) h rfl ?_
    refine ixR_h (e := FnR.cells P[0]) hF.rws h (by omega) (by rw [List.getElem?_map]; simp [h0]) fun p hp => ldI_i (hp h rfl) ?_
    have hn0 : needsOf P 0 = P[0].needs := needs_get (n := 0) h0
    rw [← hn0]
    refine iteB_i (fun hb => ?_) fun hb => ?_
    · refine stW_h (g := g3) (vs := agI [0, -1, 16]) h rfl rfl (one_agI _) fun w32 h => ldW_h (g := g3) h rfl ?_
      dsimp only at hc
      rw [if_neg (by simp), if_pos hb] at hc
      exact hc _ h.all
    · dsimp only at hc
      rw [if_neg (by simp), if_neg (by rw [hb]; simp)] at hc
      refine ldS_h (g := g1) (o := 0) h rfl ?_
      refine loopP_of (fun (i : Int) w' => ∃ dn rest, P = dn ++ rest ∧ i = (dn.length : Int) ∧ faults P 0 P = faults P dn.length rest ∧ St w w' [blk g3 (ints [0, 0, 0]), blk g1 [.slice ps.a ps.n ps.c]]) (fun i _ => ((ps.n : Int) - i).toNat) ⟨[], P, rfl, rfl, rfl, h⟩ ?_
      rintro _ w37 ⟨dn, rest, hl, rfl, hd, h⟩ C hC
      cases rest with
      | nil =>
        refine iteB_f (by simp only [decide_eq_false_iff_not]; rw [hpn, hl]; simp) ?_
        refine stW_h (g := g3) (vs := agI [0, 0, 0]) h rfl rfl (one_agI _) fun w49 h => ldW_h (g := g3) h rfl ?_
        have e : faults P 0 P = none := by rw [hd]; rfl
        rw [e] at hc
        exact hc _ h.all
      | cons f rest =>
        have hlen2 : P.length = dn.length + (rest.length + 1) := by rw [hl]; simp
        have hw1 : IntKind.wrap .i64 ((dn.length : Int) + 1) = ((dn ++ [f]).length : Int) := by rw [wrap_id ⟨by omega, by omega⟩]; simp
        have hx : P[dn.length]? = some f := by rw [hl]; simp
        have hsf := shape_zero (hall f (List.mem_of_getElem? hx))
        refine iteB_t (by simp only [decide_eq_true_eq]; omega) ?_
        refine ldW_h (g := g1) h rfl ?_
        refine function_s (ps := ps) (P := P) (f := f) (hF.ext h.ext) hx hsf.2.2.2.2 hsf.2.2.2.1 (fun q hq => ⟨(shape_zero (hall q hq)).1, (shape_zero (hall q hq)).2.1⟩) fun w40 h2 => ?_
        have h := h.on h2.ext
        have hfl : (faultL dn.length (fault1 P f)).length = 3 := by cases fault1 P f <;> rfl
        refine newC_h h fun g4 w42 h => stW_h (g := g4) h rfl (by simp [agI, ints, hfl]) (one_agI _) fun w43 h => ldW_h (g := g4) h (by simp [agI, ints, hfl]) ?_
        refine eqA_I (n := 3) hfl (ys := [0, 0, 0]) rfl ?_
        cases hft : fault1 P f with
        | none =>
          refine iteB_f (by simp [faultL]) ?_
          rw [hw1]
          refine hC _ _ ⟨dn ++ [f], rest, by rw [hl]; simp, rfl, ?_, h.drop⟩ (by simp; omega)
          rw [hd]; simp [faults, hft]
        | some q =>
          obtain ⟨i, e⟩ := q
          have hne := funcFault_some hft
          refine iteB_t (by simp [faultL, hne]) ?_
          rw [hft] at h
          refine ldW_h (g := g4) h rfl ?_
          refine stW_h (g := g3) (vs := agI (faultL dn.length (some (i, e)))) h rfl rfl (one_agI _) fun w47 h => ldW_h (g := g3) h rfl ?_
          have e' : faults P 0 P = some ((dn.length : Int), i, e) := by rw [hd]; simp [faults, hft]
          rw [e'] at hc
          exact hc _ h.all
end Go.Proofs.Ytinieegaaimilaa
