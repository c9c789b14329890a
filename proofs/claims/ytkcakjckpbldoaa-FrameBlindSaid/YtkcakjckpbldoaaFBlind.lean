/-
  For every task, every instruction, and all other handles and needs, FrameBlind of package pelotonlaw05 returns true, panics never, and leaves what it was given as it was. Conditions: none.
-/
import Derived.Test.YtkcakjckpbldoaaFg
import Derived.Test.YtkcakjckpbldoaaRows
set_option linter.unusedSimpArgs false
set_option linter.unusedVariables false
set_option maxRecDepth 100000
namespace Go.Proofs.Ytkcakjckpbldoaa.FrameBlind
open Go Go.Ev Go.Proofs Go.Proofs.Ytkcakjckpbldoaa Go.RowKit Go.ChangeShapes Go.WideShapes

/-- other handles -/
def setH (f hs : List Int) : List Int := f.take 10 ++ (hs ++ f.drop 18)
def hsOf (f : List Int) : List Int := (f.drop 10).take 8
def rsOf (f : List Int) : List Int := (f.drop 2).take 8
theorem setH_len {f hs : List Int} (hf : f.length = 19) (hh : hs.length = 8) : (setH f hs).length = 19 := by simp [setH, hf, hh]
theorem setH_low {f hs : List Int} {j : Nat} (hf : f.length = 19) (hj : j < 10) : (setH f hs).getD j 0 = f.getD j 0 := by
  unfold setH
  rw [List.getD_eq_getElem?_getD, List.getElem?_append_left (by simp; omega), List.getElem?_take_of_lt hj, List.getD_eq_getElem?_getD]
theorem setH_18 {f hs : List Int} (hf : f.length = 19) (hh : hs.length = 8) : (setH f hs).getD 18 0 = f.getD 18 0 := by
  unfold setH
  rw [List.getD_eq_getElem?_getD, List.getElem?_append_right (by simp; omega), List.getElem?_append_right (by simp [hf, hh]), List.getElem?_drop, List.getD_eq_getElem?_getD]
  simp [hf, hh]
theorem set_setH {f hs : List Int} {j : Nat} {v : Int} (hf : f.length = 19) (hj : j < 10) : (setH f hs).set j v = setH (f.set j v) hs := by
  unfold setH
  rw [List.set_append_left _ _ (by simp; omega), List.take_set, List.drop_set_of_lt (by omega)]
theorem set_setH18 {f hs : List Int} {v : Int} (hf : f.length = 19) (hh : hs.length = 8) : (setH f hs).set 18 v = setH (f.set 18 v) hs := by
  obtain ⟨a, b, c, d, e, x5, x6, x7, i, j, x10, m, n, o, p, q, r, s, t, rfl⟩ := list19 hf
  match hs, hh with
  | [_, _, _, _, _, _, _, _], _ => rfl
theorem fTo_setH {f hs : List Int} {pc : Int} (hf : f.length = 19) (hh : hs.length = 8) : fTo (setH f hs) pc = setH (fTo f pc) hs := by
  unfold fTo
  rw [set_setH hf (by omega), setH_18 (by simp [hf]) hh, set_setH18 (by simp [hf]) hh]
theorem fOn_setH {f hs : List Int} (hf : f.length = 19) (hh : hs.length = 8) : fOn (setH f hs) = setH (fOn f) hs := by
  unfold fOn
  rw [setH_low hf (by omega), fTo_setH hf hh]
theorem fPlain_setH {f hs i : List Int} (hf : f.length = 19) (hh : hs.length = 8) : fPlain (setH f hs) i = (setH (fPlain f i).1 hs, (fPlain f i).2) := by
  by_cases hc : chk i = 0
  · obtain ⟨hA, hB, hC⟩ := chk_regs hc
    have e1 : fR (setH f hs) (i.getD 1 0) = fR f (i.getD 1 0) := setH_low hf (by omega)
    have e2 : fR (setH f hs) (i.getD 2 0) = fR f (i.getD 2 0) := setH_low hf (by omega)
    have e3 : fR (setH f hs) (i.getD 3 0) = fR f (i.getD 3 0) := setH_low hf (by omega)
    have es : sumV (setH f hs) i = sumV f i := by unfold sumV; rw [e2, e3]
    have hne : ¬ chk i ≠ 0 := by simp [hc]
    unfold fPlain
    rw [e1, es, if_neg hne, if_neg hne]
    by_cases h1 : i.getD 0 0 = 6 ∨ (i.getD 0 0 = 7 ∧ fR f (i.getD 1 0) ≠ 0)
    · rw [if_pos h1, if_pos h1, fTo_setH hf hh]
    · rw [if_neg h1, if_neg h1]
      by_cases h2 : i.getD 0 0 = 7
      · rw [if_pos h2, if_pos h2, fOn_setH hf hh]
      · rw [if_neg h2, if_neg h2]
        by_cases h3 : i.getD 0 0 > 5
        · rw [if_pos h3, if_pos h3]
        · rw [if_neg h3, if_neg h3, set_setH hf (by omega), fOn_setH (by simp [hf]) hh]
  · unfold fPlain
    rw [if_pos hc, if_pos hc]
theorem hsOf_setH {f hs : List Int} (hf : f.length = 19) (hh : hs.length = 8) : hsOf (setH f hs) = hs := by
  unfold hsOf setH
  rw [List.drop_append_of_le_length (by simp; omega)]
  have : List.drop 10 (List.take 10 f) = [] := by simp
  rw [this, List.nil_append, List.take_append_of_le_length (by omega), List.take_of_length_le (by omega)]
theorem rsOf_setH {f hs : List Int} (hf : f.length = 19) (hh : hs.length = 8) : rsOf (setH f hs) = rsOf f := by
  obtain ⟨a, b, c, d, e, x5, x6, x7, i, j, x10, m, n, o, p, q, r, s, t, rfl⟩ := list19 hf
  match hs, hh with
  | [_, _, _, _, _, _, _, _], _ => rfl
theorem setH_self {f : List Int} (hf : f.length = 19) : setH f (hsOf f) = f := by
  obtain ⟨a, b, c, d, e, x5, x6, x7, i, j, x10, m, n, o, p, q, r, s, t, rfl⟩ := list19 hf
  rfl
theorem hsOf_plain {f i : List Int} (hf : f.length = 19) : hsOf (fPlain f i).1 = hsOf f := by
  have hh : (hsOf f).length = 8 := by simp [hsOf, hf]
  have h := fPlain_setH (i := i) hf hh
  rw [setH_self hf] at h
  have h1 := congrArg (·.1) h
  simp only at h1
  rw [h1, hsOf_setH (fPlain_len hf) hh]

theorem child_get {f : List Int} {n needs : Int} {h : Nat} (hf : f.length = 19) (hh : h < 8) : (fChild f n needs).getD (10 + h) 0 = if tb needs h then f.getD (10 + h) 0 else -1 := by
  unfold fChild
  have hr := regs_len hf
  rw [List.getD_eq_getElem?_getD, List.getElem?_append_right (by simp; omega), List.getElem?_append_right (by simp [hr]; omega), List.getElem?_append_left (by simp [hr, fHs_len]; omega)]
  simp only [List.length_cons, List.length_nil, hr]
  rw [show 10 + h - (0 + 1 + 1) - 8 = h by omega]
  simp [fHs, hh]
theorem rs_child {f : List Int} {n needs : Int} (hf : f.length = 19) : rsOf (fChild f n needs) = rsOf f := by
  obtain ⟨a, b, c, d, e, x5, x6, x7, i, j, x10, m, n', o, p, q, r, s, t, rfl⟩ := list19 hf
  rfl
theorem child_len {f : List Int} {n needs : Int} (hf : f.length = 19) : (fChild f n needs).length = 19 := fHalf_len hf (Nat.le_refl 8)
theorem getD_0_child {f : List Int} {n needs : Int} : (fChild f n needs).getD 0 0 = n := rfl
theorem getD_1_child {f : List Int} {n needs : Int} : (fChild f n needs).getD 1 0 = 0 := rfl
theorem getD_18_child {f : List Int} {n needs : Int} (hf : f.length = 19) : (fChild f n needs).getD 18 0 = 0 := by
  obtain ⟨a, b, c, d, e, x5, x6, x7, i, j, x10, m, n', o, p, q, r, s, t, rfl⟩ := list19 hf
  rfl

theorem part2 {f x : List Int} {g1 g3 : Nat} {w45 : World} {k : Bool → World → Prop} (hf : f.length = 19) (hx : x.length = 9) (hb1f : BI w45 g1 f) (hb3f : BI w45 g3 x) (hk : ∀ w', Ext w45 w' → k true w') :
      ldA 19 w45 ⟨g1, 0, none⟩ fun cs46 =>
      ldI .i64 w45 ⟨g3, 8, none⟩ fun i47 =>
      spl #[(.int .i64 (0 : Int)), (.slice none 0 0), (.int .i64 (0 : Int)), (.slice none 0 0)] 0 2 #[(.int .i64 (0 : Int)), (.slice none 0 0)] fun cs48 =>
      spl cs48 2 2 #[(.int .i64 i47), (.slice none 0 0)] fun cs49 =>
      newC w45 cs49 72 fun a50 w51 =>
      frame_Frame_Child cs46 #[(.slice (some a50) 2 2)] #[(.int .i64 (8 : Int)), (.int .i64 (0 : Int)), (.int .i64 (0 : Int)), (.int .i64 (0 : Int)), (.int .i64 (1 : Int))] w51 fun x52 w53 =>
      newC w53 #[(.int .i64 (0 : Int)), (.int .i64 (0 : Int)), (.int .i64 (0 : Int)), (.int .i64 (0 : Int)), (.int .i64 (0 : Int)), (.int .i64 (0 : Int)), (.int .i64 (0 : Int)), (.int .i64 (0 : Int)), (.int .i64 (0 : Int)), (.int .i64 (0 : Int)), (.int .i64 (0 : Int)), (.int .i64 (0 : Int)), (.int .i64 (0 : Int)), (.int .i64 (0 : Int)), (.int .i64 (0 : Int)), (.int .i64 (0 : Int)), (.int .i64 (0 : Int)), (.int .i64 (0 : Int)), (.int .i64 (0 : Int))] 48 fun a54 w55 =>
      stA 19 w55 a54 x52.1 fun w56 =>
      joinP (S := Bool) (fun J57 =>
        iteB (x52.2 != (0 : Int)) (
          (J57 true w56)) (
          ldA 8 w56 (Addr.add a54 2) fun cs58 =>
          ldA 8 w56 ⟨g1, 2, none⟩ fun cs59 =>
          eqA [(0, 0), (1, 0), (2, 0), (3, 0), (4, 0), (5, 0), (6, 0), (7, 0)] cs58 cs59 fun b60 =>
          iteB (!b60) (
            (J57 true w56)) (
            ldI .i64 w56 (Addr.add a54 1) fun i61 =>
            iteB (i61 != (0 : Int)) (
              (J57 true w56)) (
              ldI .i64 w56 (Addr.add a54 18) fun i62 =>
              iteB (i62 != (0 : Int)) (
                (J57 true w56)) (
                ldI .i64 w56 (Addr.add a54 0) fun i63 =>
                (J57 (i63 != (1 : Int)) w56)))))) fun b64 w65 =>
      iteB b64 (
        (k false w65)) (
        loopP (S := Int) (fun C66 i67 w68 =>
          iteB (decide (i67 < (8 : Int))) (
            joinP (S := Bool) (fun J69 =>
              drew w68 fun w70 =>
              ixP (Addr.add a54 10) 8 i67 1 fun a71 =>
              ldI .i64 w70 a71 fun i72 =>
              ixP ⟨g1, 10, none⟩ 8 i67 1 fun a73 =>
              ldI .i64 w70 a73 fun i74 =>
              iteB (i72 != i74) (
                ixP (Addr.add a54 10) 8 i67 1 fun a75 =>
                ldI .i64 w70 a75 fun i76 =>
                (J69 (i76 != (-(1 : Int))) w70)) (
                (J69 false w70))) fun b77 w78 =>
            iteB b77 (
              (k false w78)) (
              (C66 (IntKind.wrap .i64 (i67 + (1 : Int))) w78))) (
            pelotonlaw05_awake  w68 fun b79 w80 =>
            (k b79 w80))) (0 : Int) w65) := by
  refine ldA_I hb1f hf (ldP_I hb3f (by omega) (spl_V (acc := [.int .i64 0, .slice none 0 0, .int .i64 0, .slice none 0 0]) (cs := [.int .i64 0, .slice none 0 0]) [.int .i64 0, .slice none 0 0, .int .i64 0, .slice none 0 0] rfl (by decide) rfl (spl_V (cs := [.int .i64 (x.getD 8 0), .slice none 0 0]) [.int .i64 0, .slice none 0 0, .int .i64 (x.getD 8 0), .slice none 0 0] rfl (by decide) rfl ?_)))
  generalize x.getD 8 0 = needs at *
  refine newC_i fun gp w14 hgp hs14 hb14' he14' => ?_
  have hbp : Blk w14 gp #[.int .i64 0, .slice none 0 0, .int .i64 needs, .slice none 0 0] := hb14'
  have hp : Funcs w14 ⟨some ⟨gp, 0, none⟩, 2, 2⟩ [(0, ⟨none, 0, 0⟩), (needs, ⟨none, 0, 0⟩)] := by
    refine ⟨rfl, fun j e he => ?_⟩
    match j with
    | 0 =>
      simp at he; subst he
      refine ⟨rfl, _, rfl, fun m v hv => ?_⟩
      rw [add_mk, add_mk, hbp.cell]
      match m with
      | 0 => simpa [cellsF] using hv
      | 1 => simpa [cellsF] using hv
      | m + 2 => simp [cellsF] at hv
    | 1 =>
      simp at he; subst he
      refine ⟨rfl, _, rfl, fun m v hv => ?_⟩
      rw [add_mk, add_mk, hbp.cell]
      match m with
      | 0 => simpa [cellsF] using hv
      | 1 => simpa [cellsF] using hv
      | m + 2 => simp [cellsF] at hv
    | j + 2 => simp at he
  refine child_s (f := f) (s := ⟨some ⟨gp, 0, none⟩, 2, 2⟩) (i := [8, 0, 0, 0, 1]) hf rfl hp (fun h => absurd h (by decide)) (fun _ h => by simp at h) fun _ y hy w15 he15 => ?_
  obtain rfl : (needs, (⟨none, 0, 0⟩ : Sl)) = y := by simpa using hy
  have hN : ([8, 0, 0, 0, 1] : List Int).getD 4 0 = 1 := rfl
  rw [hN]
  have hlc := child_len (n := 1) (needs := needs) hf
  refine newC_i fun gc w16 hgc hs16 hb16 he16 => ?_
  simp only [add_mk, Nat.zero_add]
  refine stA_I (l := fChild f 1 needs) hb16 rfl hlc fun w17 hb17' hs17 ho17 => ?_
  have he1317 : Ext w45 w17 := ((he14'.trans he15).trans he16).then ho17 fun g hg => by have := (he14'.trans he15).size; omega
  have hb1g : BI w17 g1 f := hb1f.ext he1317
  refine joinP_i (fun y w' => y = false ∧ w17 = w') ?_ ?_
  · intro J hJ
    refine iteB_f rfl (ldA_P hb17' (by omega) (ldA_P hb1g (by omega) (eqA_I (n := 8) (by simp; omega) (by simp; omega) (iteB_f ?_ ?_))))
    · have : rsOf (fChild f 1 needs) = rsOf f := rs_child hf
      unfold rsOf at this
      rw [this]; simp
    refine ldP_I hb17' (by omega) (iteB_f ?_ (ldP_I hb17' (by omega) (iteB_f ?_ (ldP_I hb17' (by omega) (hJ _ _ ⟨?_, rfl⟩)))))
    · rw [getD_1_child]; rfl
    · rw [getD_18_child hf]; rfl
    · rw [getD_0_child]; rfl
  rintro _ _ ⟨rfl, rfl⟩
  refine iteB_f rfl ?_
  refine loopP_of (fun (y : Int) w' => ∃ j : Nat, y = j ∧ j ≤ 8 ∧ Ext w17 w') (fun y _ => (8 - y).toNat) ⟨0, rfl, by omega, .refl _ _⟩ ?_
  rintro _ w18 ⟨j, rfl, hj, he18⟩ C hC
  refine iteB_i (fun hlt => ?_) fun hge => awake5_s fun w' he => hk _ ((he1317.trans he18).trans he)
  have hj8 : j < 8 := by have : (j : Int) < 8 := by simpa using hlt
                         omega
  have hw : IntKind.i64.wrap ((j : Int) + 1) = ((j + 1 : Nat) : Int) := by rw [wrap_id ⟨by omega, by omega⟩]; simp
  refine joinP_i (fun y w' => y = false ∧ Ext w18 w') ?_ ?_
  · intro J hJ
    refine drew_i fun w19 hh19 he19 => ?_
    have hbc : BI w19 gc (fChild f 1 needs) := (hb17'.ext he18).ext he19
    have hb1h : BI w19 g1 f := (hb1g.ext he18).ext he19
    refine ixP_i (by omega) (by omega) (ldP_I hbc (by simp; omega) (ixP_i (by omega) (by omega) (ldP_I hb1h (by simp; omega) ?_)))
    simp only [Int.toNat_natCast, Nat.mul_one]
    rw [child_get hf hj8]
    refine iteB_i (fun hne => ?_) fun heq => hJ _ _ ⟨rfl, he19⟩
    refine ixP_i (by omega) (by omega) (ldP_I hbc (by simp; omega) (hJ _ _ ⟨?_, he19⟩))
    simp only [Int.toNat_natCast, Nat.mul_one]
    rw [child_get hf hj8]
    cases hb : tb needs j with
    | true => rw [hb] at hne; simp at hne
    | false => rfl
  · rintro _ w19 ⟨rfl, he19⟩
    exact iteB_f rfl (hC _ _ ⟨j + 1, hw, by omega, he18.trans he19⟩ (by rw [hw]; omega))

theorem law {f i x : List Int} {w : World} {k : Bool → World → Prop} (hf : f.length = 19) (hi : i.length = 5) (hx : x.length = 9) (hk : ∀ w', Ext w w' → k true w') : pelotonlaw05_FrameBlind (agI f) (agI i) (agI x) w k := by
  unfold pelotonlaw05_FrameBlind
  refine newC_i fun g1 w1 hg1 hs1 hb1 he1 => newC_i fun g2 w2 hg2 hs2 hb2 he2 => newC_i fun g3 w3 hg3 hs3 hb3 he3 => ?_
  have he13 := (he1.trans he2).trans he3
  have hb13 : BI w3 g1 f := (hb1.ext he2).ext he3
  have hb23 : BI w3 g2 i := hb2.ext he3
  have hb33 : BI w3 g3 x := hb3
  have hsz := he1.size
  simp only [add_mk, Nat.zero_add]
  refine ldA_I hb13 hf (usual_s hf fun w4 he4 => ?_)
  have he14 := he13.trans he4
  refine iteB_i (fun h => awake5_s fun w' he => hk _ (he14.trans he)) fun h => ?_
  have hb14 : BI w4 g1 f := hb13.ext he4
  have hb24 : BI w4 g2 i := hb23.ext he4
  have hb34 : BI w4 g3 x := hb33.ext he4
  refine ldA_I hb14 hf (newC_i fun g5 w5 hg5 hs5 hb5 he5 => ?_)
  simp only [add_mk, Nat.zero_add]
  refine stA_I hb5 rfl hf fun w6 hb6 hs6 ho6 => ?_
  have he46 : Ext w4 w6 := he5.then ho6 fun g hg => by omega
  have hh : ((x.drop 0).take 8).length = 8 := by rw [List.length_take, List.length_drop, hx]; rfl
  refine ldA_P (hb34.ext he46) (by omega) ?_
  generalize hhs : (x.drop 0).take 8 = hs at *
  refine stA_P hb6 hh (by omega) fun w7 hb7 hs7 ho7 => ?_
  have hb7 : BI w7 g5 (setH f hs) := hb7
  have he47 : Ext w4 w7 := he46.then ho7 fun g hg => by omega
  have hb17 : BI w7 g1 f := hb14.ext he47
  have hb27 : BI w7 g2 i := hb24.ext he47
  have hlg := setH_len hf hh
  refine ldA_I hb17 hf (ldA_I hb27 hi (plain_F hf hi fun w8 he8 => ?_))
  have hlp := fPlain_len (i := i) hf
  refine newC_i fun ga w9 hga hs9 hb9 he9 => ?_
  simp only [add_mk, Nat.zero_add]
  refine stA_I hb9 rfl hlp fun w10 hb10 hs10 ho10 => ?_
  have he710 : Ext w7 w10 := (he8.trans he9).then ho10 fun g hg => by have := he8.size; omega
  refine ldA_I (hb7.ext he710) hlg (ldA_I (hb27.ext he710) hi (plain_F hlg hi fun w11 he11 => ?_))
  have hlp2 : (setH (fPlain f i).1 hs).length = 19 := setH_len hlp hh
  rw [fPlain_setH hf hh]
  refine newC_i fun gb w12 hgb hs12 hb12 he12 => ?_
  simp only [add_mk, Nat.zero_add]
  refine stA_I hb12 rfl hlp2 fun w13 hb13' hs13 ho13 => ?_
  have he1013 : Ext w10 w13 := (he11.trans he12).then ho13 fun g hg => by have := he11.size; omega
  have hba : BI w13 ga (fPlain f i).1 := hb10.ext he1013
  have hbb : BI w13 gb (setH (fPlain f i).1 hs) := hb13'
  have hef : Ext w4 w13 := (he47.trans he710).trans he1013
  have hb1f : BI w13 g1 f := hb14.ext hef
  have hb3f : BI w13 g3 x := hb34.ext hef
  have heall := he14.trans hef
  refine joinP_i (fun y w' => y = false ∧ w13 = w') ?_ ?_
  · intro J hJ
    refine iteB_f (by simp) (ldA_P hba (by omega) (ldA_P hbb (by omega) (eqA_I (n := 8) (by simp; omega) (by simp; omega) (iteB_f ?_ ?_))))
    · have : rsOf (setH (fPlain f i).1 hs) = rsOf (fPlain f i).1 := rsOf_setH hlp hh
      unfold rsOf at this
      simp [this]
    refine ldP_I hba (by omega) (ldP_I hbb (by omega) (iteB_f ?_ ?_))
    · rw [setH_low hlp (by omega)]; simp
    refine ldA_P hba (by omega) (ldA_P hb1f (by omega) (eqA_I (n := 8) (by simp; omega) (by simp; omega) (iteB_f ?_ ?_)))
    · have : hsOf (fPlain f i).1 = hsOf f := hsOf_plain hf
      unfold hsOf at this
      simp [this]
    refine ldA_P hbb (by omega) (ldA_P hb3f (by omega) (eqA_I (n := 8) (by simp; omega) (by simp; omega) (hJ _ _ ⟨?_, rfl⟩)))
    have : hsOf (setH (fPlain f i).1 hs) = hs := hsOf_setH hlp hh
    unfold hsOf at this
    rw [this, hhs]; simp
  rintro _ _ ⟨rfl, rfl⟩
  exact iteB_f rfl (part2 hf hx hb1f hb3f fun w' he => hk _ (heall.trans he))

/-! ### the lift -/
theorem own : ownKnob Try.prog.godebug = none := by kernel_rfl
theorem walk (W : World) (args : Array Value) (hA : Args Try.prog W Try.f11.params.toList args.toList) :
    Calls Try.prog 11 args W fun e W' => e = .returned (.bool true) ∧ Below W.heap.size W W' := by
  rw [Try.params11] at hA
  obtain ⟨v0, _, e0, h0, hA⟩ := hA.cons
  obtain ⟨v1, _, rfl, h1, hA⟩ := hA.cons
  obtain ⟨v2, _, rfl, h2, hA⟩ := hA.cons
  obtain rfl := hA.nil
  obtain rfl : args = #[v0, v1, v2] := by cases args; simp_all
  obtain ⟨f, rfl, hf, hfI⟩ := h0.flat (n := 4) (k := 19) (.inr ⟨_, Try.underlying48⟩) (by kernel_rfl) (by kernel_rfl)
  obtain ⟨i, rfl, hi, hiI⟩ := h1.flat (n := 4) (k := 5) (.inr ⟨_, Try.underlying50⟩) (by kernel_rfl) (by kernel_rfl)
  obtain ⟨x, rfl, hx, hxI⟩ := h2.flat (n := 4) (k := 9) (.inr ⟨_, Try.underlying68⟩) (by kernel_rfl) (by kernel_rfl)
  refine (s11.2 _ W (fun v w' => v = .bool true ∧ Below W.heap.size W w') ?_).mono ?_
  · have h := law (k := fun r w' => packV (valL [.b] r) = .bool true ∧ Below W.heap.size W w') hf hi hx fun w' he => ⟨rfl, he.below⟩
    exact h
  · rintro e w' ⟨v, rfl, rfl, hb⟩
    exact ⟨rfl, hb⟩

theorem lifted (os : Os) (started : os.Started) (H : Type) (enc : TypeId × Value → H) :
    ReturnsInHanded {} Try.checked os 11 .any (Rows.frameBlindSpec.pre6 enc Try.prog Try.f11 Rows.frameBlindRow.domain false) (Rows.frameBlindSpec.post enc Try.prog Try.f11 false true false false) :=
  law_lifted (C := Try.checked) own started (by kernel_rfl) Try.func11
    (ChangeSpec.witness6 (enc := enc) (C := Try.checked) false ⟨#[], #[.agg #[.int .i64 0, .int .i64 0, .int .i64 0, .int .i64 0, .int .i64 0, .int .i64 0, .int .i64 0, .int .i64 0, .int .i64 0, .int .i64 0, .int .i64 0, .int .i64 0, .int .i64 0, .int .i64 0, .int .i64 0, .int .i64 0, .int .i64 0, .int .i64 0, .int .i64 0], .agg #[.int .i64 0, .int .i64 0, .int .i64 0, .int .i64 0, .int .i64 0], .agg #[.int .i64 0, .int .i64 0, .int .i64 0, .int .i64 0, .int .i64 0, .int .i64 0, .int .i64 0, .int .i64 0, .int .i64 0]], []⟩ 8 (by kernel_rfl) (by kernel_rfl) (by kernel_rfl) (by kernel_rfl))
    rfl (by kernel_rfl) (by kernel_rfl) (tb := 4) (by kernel_rfl) (by kernel_rfl)
    (fun ds h => by
      match ds, h with
      | [_, _, _], _ => rfl)
    walk

theorem over : Rows.frameBlindRow.holds Try.pinned (OpenSpec.ofChange Rows.frameBlindSpec) :=
  OpenClaim.holds_of_wide 11 Try.f11 rfl rfl rfl rfl rfl rfl rfl ⟨rfl, rfl, rfl, rfl, rfl⟩ rfl rfl rfl rfl rfl (by kernel_rfl) Try.func11 (by kernel_rfl)
    (of_decide_eq_true (by kernel_rfl)) (by unfold Func.isWrapper; first | (rw [if_pos (by decide +kernel)]; kernel_rfl) | (rw [if_neg (by decide +kernel)]; exact ⟨rfl, rfl⟩))
    (fun os started H enc _ => lifted os started H enc)

theorem proved : Rows.FrameBlindSaid := over
#print axioms proved
end Go.Proofs.Ytkcakjckpbldoaa.FrameBlind
