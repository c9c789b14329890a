/-
  Layer 4: the document's answer for programs; the law of programs.
-/
import Derived.Test.YtinieegaaimilaaCz
set_option linter.unusedSimpArgs false
set_option linter.unusedVariables false
set_option maxRecDepth 100000
namespace Go.Proofs.Ytinieegaaimilaa
open Go Go.Ev Go.Proofs

theorem rprogram_s {w : World} {ps : Sl} {P : List FnR} {k : Array Value → World → Prop} (hF : Funcs5 w ps P) (hfew : Few P)
    (hc : ∀ w', St w w' [] → k (agI (tri (progF P))) w') : pelotonref04_Program #[.slice ps.a ps.n ps.c] w k := by
  have hpn := hF.len
  unfold pelotonref04_Program pelotonref04_Program_b
  refine newC_h (.nil w) fun g1 w2 h => newC_h h fun g3 w4 h => ?_
  have h : St w w4 [blk g3 (ints [0, 0, 0]), blk g1 [.slice ps.a ps.n ps.c]] := h
  have e1 : decide (((ps.n : Nat) : Int) < 1) = decide (P.length < 1) := by rw [decide_eq_decide]; omega
  have e2 : decide (((ps.n : Nat) : Int) > 32) = decide (P.length > 32) := by rw [decide_eq_decide]; omega
  refine joinP_i (fun b w' => b = (decide (P.length < 1) || decide (P.length > 32)) ∧ w' = w4) (fun J hJ => ?_) ?_
  · refine ldS_h (g := g1) (o := 0) h rfl (iteB_i (fun hb => ?_) fun hb => ?_)
    · exact hJ _ _ ⟨by rw [← e1]; dsimp only at hb; rw [hb]; rfl, rfl⟩
    · refine ldS_h (g := g1) (o := 0) h rfl (hJ _ _ ⟨by rw [← e1, ← e2]; dsimp only at hb; rw [hb]; rfl, rfl⟩)
  rintro b8 w9 ⟨rfl, rfl⟩
  unfold progF at hc
  refine iteB_i (fun hb => ?_) fun hb => ?_
  · rw [hb] at hc
    refine stW_h (g := g3) (vs := agI [-1, -1, 12]) h rfl rfl (one_agI _) fun w10 h => ldW_h (g := g3) h rfl ?_
    exact hc _ h.all
  · rw [hb] at hc
    rw [Bool.or_eq_false_iff] at hb
    have hl1 := of_decide_eq_false hb.1
    have hl2 := of_decide_eq_false hb.2
    refine joinP_i (fun _ w' => shapes 0 P = none ∧ St w w' [blk g3 (ints [0, 0, 0]), blk g1 [.slice ps.a ps.n ps.c]]) (fun J hJ => ?_) ?_
    · refine loopP_of (fun (i : Int) w' => ∃ dn rest, P = dn ++ rest ∧ i = (dn.length : Int) ∧ shapes 0 P = shapes dn.length rest ∧ St w w' [blk g3 (ints [0, 0, 0]), blk g1 [.slice ps.a ps.n ps.c]]) (fun i _ => ((ps.n : Int) - i).toNat) ⟨[], P, rfl, rfl, rfl, h⟩ ?_
      rintro _ w16 ⟨dn, rest, hl, rfl, hd, h⟩ C hC
      refine ldS_h (g := g1) (o := 0) h rfl ?_
      cases rest with
      | nil =>
        refine iteB_f (by simp only [decide_eq_false_iff_not]; rw [hpn, hl]; simp) ?_
        exact hJ _ _ ⟨by rw [hd]; rfl, h⟩
      | cons f rest =>
        have hlen2 : P.length = dn.length + (rest.length + 1) := by rw [hl]; simp
        have hw1 : IntKind.wrap .i64 ((dn.length : Int) + 1) = ((dn ++ [f]).length : Int) := by rw [wrap_id ⟨by omega, by omega⟩]; simp
        have hx : P[dn.length]? = some f := by rw [hl]; simp
        have hcd := (hF.code f (List.mem_of_getElem? hx)).2
        refine iteB_t (by simp only [decide_eq_true_eq]; omega) (ldS_h (g := g1) (o := 0) h rfl ?_)
        refine ixR_h (e := FnR.cells f) hF.rws h (by omega) (by rw [List.getElem?_map, Int.toNat_natCast, hx]; rfl) fun p hp => ldA_c (e := FnR.cells f) rfl (fun j v => hp h) ?_
        refine rshape_s (needs := f.needs) (s := f.sl) (l := f.code) (hcd.ext h.ext) fun w24 h2 => ?_
        have h := h.on h2.ext
        refine iteB_i (fun hb3 => ?_) fun hb3 => ?_
        · refine stW_h (g := g3) (vs := agI [(dn.length : Int), (shapeF f.needs f.code).1, (shapeF f.needs f.code).2]) h rfl rfl (one_agI _) fun w25 h => ldW_h (g := g3) h rfl ?_
          have e : shapes 0 P = some ((dn.length : Int), (shapeF f.needs f.code).1, (shapeF f.needs f.code).2) := by rw [hd]; unfold shapes; rw [if_pos hb3]
          rw [e] at hc
          exact hc _ h.all
        · rw [hw1]
          refine hC _ _ ⟨dn ++ [f], rest, by rw [hl]; simp, rfl, ?_, h⟩ (by simp; omega)
          have hb3' : ((shapeF f.needs f.code).2 != 0) = false := hb3
          rw [hd]; simp [shapes, hb3']
    rintro _ w28 ⟨hsh, h⟩
    rw [hsh] at hc
    have hall := shapes_none hsh
    have h0 : P[0]? = some P[0] := List.getElem?_eq_getElem (by omega)
    refine ldS_h (g := g1) (o := 0) h rfl ?_
    refine ixR_h (e := FnR.cells P[0]) hF.rws h (by omega) (by rw [List.getElem?_map]; simp [h0]) fun p hp => ldI_i (hp h rfl) ?_
    have hn0 : needsOf P 0 = P[0].needs := needs_get (n := 0) h0
    rw [← hn0]
    refine iteB_i (fun hb => ?_) fun hb => ?_
    · refine stW_h (g := g3) (vs := agI [0, -1, 16]) h rfl rfl (one_agI _) fun w32 h => ldW_h (g := g3) h rfl ?_
      dsimp only at hc
      rw [if_neg (by simp), if_pos hb] at hc
      exact hc _ h.all
    · dsimp only at hc
      rw [if_neg (by simp), if_neg (by rw [hb]; simp)] at hc
      refine loopP_of (fun (i : Int) w' => ∃ dn rest, P = dn ++ rest ∧ i = (dn.length : Int) ∧ faults P 0 P = faults P dn.length rest ∧ St w w' [blk g3 (ints [0, 0, 0]), blk g1 [.slice ps.a ps.n ps.c]]) (fun i _ => ((ps.n : Int) - i).toNat) ⟨[], P, rfl, rfl, rfl, h⟩ ?_
      rintro _ w37 ⟨dn, rest, hl, rfl, hd, h⟩ C hC
      refine ldS_h (g := g1) (o := 0) h rfl ?_
      cases rest with
      | nil =>
        refine iteB_f (by simp only [decide_eq_false_iff_not]; rw [hpn, hl]; simp) ?_
        refine stW_h (g := g3) (vs := agI [0, 0, 0]) h rfl rfl (one_agI _) fun w49 h => ldW_h (g := g3) h rfl ?_
        have e : faults P 0 P = none := by rw [hd]; rfl
        rw [e] at hc
        exact hc _ h.all
      | cons f rest =>
        have hlen2 : P.length = dn.length + (rest.length + 1) := by rw [hl]; simp
        have hw1 : IntKind.wrap .i64 ((dn.length : Int) + 1) = ((dn ++ [f]).length : Int) := by rw [wrap_id ⟨by omega, by omega⟩]; simp
        have hx : P[dn.length]? = some f := by rw [hl]; simp
        have hmem := List.mem_of_getElem? hx
        obtain ⟨hfN, hcd⟩ := hF.code f hmem
        have hcl := hcd.len
        have hsf := shape_zero (hall f hmem)
        refine iteB_t (by simp only [decide_eq_true_eq]; omega) (ldS_h (g := g1) (o := 0) h rfl ?_)
        refine ixR_h (e := FnR.cells f) hF.rws h (by omega) (by rw [List.getElem?_map, Int.toNat_natCast, hx]; rfl) fun p hp => ldA_c (e := FnR.cells f) rfl (fun j v => hp h) ?_
        refine newC_h h fun g8 w9 h => stW_h (g := g8) h rfl rfl (by intro v hv; simp [FnR.cells] at hv; rcases hv with rfl | rfl <;> rfl) fun w10 h => ?_
        have h : St w w10 [blk g8 [.int .i64 f.needs, .slice f.sl.a f.sl.n f.sl.c], blk g3 (ints [0, 0, 0]), blk g1 [.slice ps.a ps.n ps.c]] := h
        refine ldS_h (g := g8) (o := 1) h rfl ?_
        refine rdepths_s (hcd.ext h.ext) (by omega) fun sd w43 h2 nd => ?_
        have h := h.join h2
        simp only [List.cons_append, List.nil_append] at h
        refine ldW_h (g := g8) h rfl ?_
        refine rheld_s (needs := f.needs) (hcd.ext h.ext) hfN (by omega) fun sh w46 h2 nh => ?_
        have h := h.join h2
        simp only [List.cons_append, List.nil_append] at h
        have h : St w w46 [slc 1 sd (ints (depths 0 f.code)), slc 1 sh (ints (heldL f.code f.needs)), blk g8 [.int .i64 f.needs, .slice f.sl.a f.sl.n f.sl.c], blk g3 (ints [0, 0, 0]), blk g1 [.slice ps.a ps.n ps.c]] := h.swap
        have hDl : (depths 0 f.code).length = f.code.length := depths_length _ _
        have hHl : (heldL f.code f.needs).length = f.code.length := heldL_len _ _
        have hHb : ∀ v ∈ heldL f.code f.needs, 0 ≤ v ∧ v ≤ 255 := by
          intro v hv
          unfold heldL at hv
          obtain ⟨i, _, rfl⟩ := List.mem_map.1 hv
          have := rs_bounds (heldB f.code f.needs (i : Int)) 8
          omega
        have hf1 : fault1 P f = funcFault P f.code.length (depths 0 f.code) (heldL f.code f.needs) 0 f.code := rfl
        generalize depths 0 f.code = D at h hDl hf1
        generalize heldL f.code f.needs = H at h hHl hHb hf1
        refine loopP_of (fun (i : Int) w' => ∃ dn2 rest2, f.code = dn2 ++ rest2 ∧ i = (dn2.length : Int) ∧ fault1 P f = funcFault P f.code.length D H dn2.length rest2 ∧ St w w' [slc 1 sd (ints D), slc 1 sh (ints H), blk g8 [.int .i64 f.needs, .slice f.sl.a f.sl.n f.sl.c], blk g3 (ints [0, 0, 0]), blk g1 [.slice ps.a ps.n ps.c]]) (fun i _ => ((f.code.length : Int) - i).toNat) ⟨[], f.code, rfl, rfl, hf1, h⟩ ?_
        rintro _ w49 ⟨dn2, rest2, hl2', rfl, hd2, h⟩ C2 hC2
        refine ldS_h (g := g8) (o := 1) h rfl ?_
        cases rest2 with
        | nil =>
          refine iteB_f (by simp only [decide_eq_false_iff_not]; rw [hcl, hl2']; simp) ?_
          rw [hw1]
          have e : fault1 P f = none := hd2
          refine hC _ _ ⟨dn ++ [f], rest, by rw [hl]; simp, rfl, ?_, h.drop.drop.drop⟩ (by simp; omega)
          rw [hd]; simp [faults, e]
        | cons x rest2 =>
          have hlen3 : f.code.length = dn2.length + (rest2.length + 1) := by rw [hl2']; simp
          have hw3 : IntKind.wrap .i64 ((dn2.length : Int) + 1) = ((dn2 ++ [x]).length : Int) := by rw [wrap_id ⟨by omega, by omega⟩]; simp
          have hx2 : f.code[dn2.length]? = some x := by rw [hl2']; simp
          have hcx := hsf.2.2.2.2 x (by rw [hl2']; simp)
          refine iteB_t (by simp only [decide_eq_true_eq]; omega) (ldW_h (g := g1) h rfl (ldW_h (g := g8) h rfl ?_))
          refine wrong_s (P := P) (needs := f.needs) h hcd hF hx2 (by omega) hDl hHl hcx hHb fun w54 h => ?_
          refine iteB_i (fun hb => ?_) fun hb => ?_
          · refine stW_h (g := g3) (vs := agI [(dn.length : Int), (dn2.length : Int), wrongF P f.code.length D H dn2.length x]) h rfl rfl (one_agI _) fun w55 h => ldW_h (g := g3) h rfl ?_
            have e : fault1 P f = some ((dn2.length : Int), wrongF P f.code.length D H dn2.length x) := by rw [hd2]; unfold funcFault; rw [if_pos hb]
            have e' : faults P 0 P = some ((dn.length : Int), (dn2.length : Int), wrongF P f.code.length D H dn2.length x) := by rw [hd]; simp [faults, e]
            rw [e'] at hc
            exact hc _ h.all
          · rw [hw3]
            refine hC2 _ _ ⟨dn2 ++ [x], rest2, by rw [hl2']; simp, rfl, ?_, h⟩ (by simp; omega)
            rw [hd2]; simp [funcFault, hb]

/-! ### programs that are plain -/
def plainI (x : List Int) : Bool := !((opI x == 13) || ((opI x == 11) && (x.getD 4 0 != 0)))
def plainF (P : List FnR) : Bool := P.all fun f => f.code.all plainI
theorem plain_bit {w0 w : World} {g : Nat} {x : List Int} {R : List HP} {k : Bool → World → Prop} (h : St w0 w (blk g (ints x) :: R)) (h5 : x.length = 5) (hc : ∀ b, b = !plainI x → k b w) : joinP (S := Bool) (fun J21 =>
            ldI .i64 w (Addr.add ⟨g, 0, none⟩ 0) fun i22 =>
            iteB (i22 == (13 : Int)) (
              (J21 true w)) (
              ldI .i64 w (Addr.add ⟨g, 0, none⟩ 0) fun i23 =>
              iteB (i23 == (11 : Int)) (
                ldI .i64 w (Addr.add ⟨g, 0, none⟩ 4) fun i24 =>
                (J21 (i24 != (0 : Int)) w)) (
                (J21 false w)))) k := by
  unfold plainI at hc
  refine joinP_d ?_
  refine ldI_h (g := g) (o := 0) h (ints_get (by omega)) (iteB_i (fun hb => ?_) fun hb => ?_)
  · have hb' : (opI x == 13) = true := hb
    exact hc _ (by rw [hb']; rfl)
  · have hb' : (opI x == 13) = false := hb
    rw [hb'] at hc
    refine ldI_h (g := g) (o := 0) h (ints_get (by omega)) (iteB_i (fun hb => ?_) fun hb => ?_)
    · have hb' : (opI x == 11) = true := hb
      rw [hb'] at hc
      exact ldI_h (g := g) (o := 4) h (ints_get (by omega)) (hc _ (by simp))
    · have hb' : (opI x == 11) = false := hb
      rw [hb'] at hc
      exact hc _ rfl
theorem plain_s {w : World} {ps : Sl} {P : List FnR} {k : Bool → World → Prop} (hF : Funcs5 w ps P) (hfew : Few P) (hc : ∀ w', St w w' [] → k (plainF P) w') : check_Plain #[.slice ps.a ps.n ps.c] w k := by
  have hpn := hF.len
  have hfn := hfew.n
  unfold check_Plain
  refine newC_h (.nil w) fun g1 w2 h => ldS_h (g := g1) (o := 0) h rfl ?_
  refine loopP_of (fun (i : Int) w' => ∃ dn rest, P = dn ++ rest ∧ i = (dn.length : Int) ∧ plainF P = plainF rest ∧ St w w' []) (fun i _ => ((P.length : Int) - i).toNat) ⟨[], P, rfl, rfl, rfl, h.all⟩ ?_
  rintro _ w6 ⟨dn, rest, hl, rfl, hd, h⟩ C hC
  cases rest with
  | nil =>
    refine iteB_f (by simp only [decide_eq_false_iff_not]; rw [hpn, hl]; simp) ?_
    rw [hd] at hc; exact hc _ h
  | cons f rest =>
    have hlen2 : P.length = dn.length + (rest.length + 1) := by rw [hl]; simp
    have hw1 : IntKind.wrap .i64 ((dn.length : Int) + 1) = ((dn ++ [f]).length : Int) := by rw [wrap_id ⟨by omega, by omega⟩]; simp
    have hx : P[dn.length]? = some f := by rw [hl]; simp
    have hmem := List.mem_of_getElem? hx
    have hcd := (hF.code f hmem).2
    have hcl := hcd.len
    have hfc := hfew.c f hmem
    refine iteB_t (by simp only [decide_eq_true_eq]; omega) ?_
    refine ixR_h (e := FnR.cells f) hF.rws h (by omega) (by rw [List.getElem?_map, Int.toNat_natCast, hx]; rfl) fun p hp => ldA_c (e := FnR.cells f) rfl (fun j v => hp h) ?_
    refine newC_h h fun g8 w9 h => stW_h (g := g8) h rfl rfl (by intro v hv; simp [FnR.cells] at hv; rcases hv with rfl | rfl <;> rfl) fun w10 h => ldS_h (g := g8) (o := 1) h rfl ?_
    refine loopP_of (fun (i : Int) w' => ∃ dn2 rest2, f.code = dn2 ++ rest2 ∧ i = (dn2.length : Int) ∧ f.code.all plainI = rest2.all plainI ∧ St w w' []) (fun i _ => ((f.code.length : Int) - i).toNat) ⟨[], f.code, rfl, rfl, rfl, h.all⟩ ?_
    rintro _ w15 ⟨dn2, rest2, hl2, rfl, hd2, h⟩ C2 hC2
    cases rest2 with
    | nil =>
      refine iteB_f (by simp only [decide_eq_false_iff_not]; rw [hcl, hl2]; simp) ?_
      rw [hw1]
      refine hC _ _ ⟨dn ++ [f], rest, by rw [hl]; simp, rfl, ?_, h⟩ (by simp; omega)
      rw [hd]; unfold plainF; rw [List.all_cons, hd2]; simp
    | cons x rest2 =>
      have hlen3 : f.code.length = dn2.length + (rest2.length + 1) := by rw [hl2]; simp
      have hw3 : IntKind.wrap .i64 ((dn2.length : Int) + 1) = ((dn2 ++ [x]).length : Int) := by rw [wrap_id ⟨by omega, by omega⟩]; simp
      have hx2 : f.code[dn2.length]? = some x := by rw [hl2]; simp
      refine iteB_t (by simp only [decide_eq_true_eq]; omega) ?_
      refine ixC_h hcd h (by omega) hx2 fun p h5 hp => ldA_c (by simp [Go.Ev.ints, h5]) (fun j v => hp h) ?_
      refine newC_h h fun g w6 h => stW_h (g := g) h rfl (by simp [Go.Ev.ints, h5]) (one_agI _) fun w7 h => ?_
      refine plain_bit h h5 fun b hb => ?_
      subst hb
      refine iteB_i (fun hb => ?_) fun hb => ?_
      · have hb' : plainI x = false := by simpa using hb
        have e : plainF (f :: rest) = false := by unfold plainF; rw [List.all_cons, hd2, List.all_cons, hb']; rfl
        rw [hd, e] at hc; exact hc _ h.all
      · have hb' : plainI x = true := by simpa using hb
        rw [hw3]
        refine hC2 _ _ ⟨dn2 ++ [x], rest2, by rw [hl2]; simp, rfl, ?_, h.all⟩ (by simp; omega)
        rw [hd2, List.all_cons, hb']; rfl
theorem rplain_s {w : World} {ps : Sl} {P : List FnR} {k : Bool → World → Prop} (hF : Funcs5 w ps P) (hfew : Few P) (hc : ∀ w', St w w' [] → k (plainF P) w') : pelotonref04_Plain #[.slice ps.a ps.n ps.c] w k := by
  have hpn := hF.len
  have hfn := hfew.n
  unfold pelotonref04_Plain
  refine newC_h (.nil w) fun g1 w2 h => ?_
  refine loopP_of (fun (i : Int) w' => ∃ dn rest, P = dn ++ rest ∧ i = (dn.length : Int) ∧ plainF P = plainF rest ∧ St w w' [blk g1 [.slice ps.a ps.n ps.c]]) (fun i _ => ((P.length : Int) - i).toNat) ⟨[], P, rfl, rfl, rfl, h⟩ ?_
  rintro _ w6 ⟨dn, rest, hl, rfl, hd, h⟩ C hC
  refine ldS_h (g := g1) (o := 0) h rfl ?_
  cases rest with
  | nil =>
    refine iteB_f (by simp only [decide_eq_false_iff_not]; rw [hpn, hl]; simp) ?_
    rw [hd] at hc; exact hc _ h.all
  | cons f rest =>
    have hlen2 : P.length = dn.length + (rest.length + 1) := by rw [hl]; simp
    have hw1 : IntKind.wrap .i64 ((dn.length : Int) + 1) = ((dn ++ [f]).length : Int) := by rw [wrap_id ⟨by omega, by omega⟩]; simp
    have hx : P[dn.length]? = some f := by rw [hl]; simp
    have hmem := List.mem_of_getElem? hx
    have hcd := (hF.code f hmem).2
    have hcl := hcd.len
    have hfc := hfew.c f hmem
    have he : (P.map FnR.cells)[((dn.length : Nat) : Int).toNat]? = some (FnR.cells f) := by rw [List.getElem?_map, Int.toNat_natCast, hx]; rfl
    refine iteB_t (by simp only [decide_eq_true_eq]; omega) ?_
    refine loopP_of (fun (i : Int) w' => ∃ dn2 rest2, f.code = dn2 ++ rest2 ∧ i = (dn2.length : Int) ∧ f.code.all plainI = rest2.all plainI ∧ St w w' [blk g1 [.slice ps.a ps.n ps.c]]) (fun i _ => ((f.code.length : Int) - i).toNat) ⟨[], f.code, rfl, rfl, rfl, h⟩ ?_
    rintro _ w15 ⟨dn2, rest2, hl2, rfl, hd2, h⟩ C2 hC2
    refine ldS_h (g := g1) (o := 0) h rfl (ixR_h (e := FnR.cells f) hF.rws h (by omega) he fun p hp => ldS_i (s := f.sl) (hp h rfl) ?_)
    cases rest2 with
    | nil =>
      refine iteB_f (by simp only [decide_eq_false_iff_not]; rw [hcl, hl2]; simp) ?_
      rw [hw1]
      refine hC _ _ ⟨dn ++ [f], rest, by rw [hl]; simp, rfl, ?_, h⟩ (by simp; omega)
      rw [hd]; unfold plainF; rw [List.all_cons, hd2]; simp
    | cons x rest2 =>
      have hlen3 : f.code.length = dn2.length + (rest2.length + 1) := by rw [hl2]; simp
      have hw3 : IntKind.wrap .i64 ((dn2.length : Int) + 1) = ((dn2 ++ [x]).length : Int) := by rw [wrap_id ⟨by omega, by omega⟩]; simp
      have hx2 : f.code[dn2.length]? = some x := by rw [hl2]; simp
      refine iteB_t (by simp only [decide_eq_true_eq]; omega) ?_
      refine ldS_h (g := g1) (o := 0) h rfl (ixR_h (e := FnR.cells f) hF.rws h (by omega) he fun p hp => ldS_i (s := f.sl) (hp h rfl) ?_)
      refine ixC_h hcd h (by omega) hx2 fun p h5 hp => ldA_c (by simp [Go.Ev.ints, h5]) (fun j v => hp h) ?_
      refine newC_h h fun g w6 h => stW_h (g := g) h rfl (by simp [Go.Ev.ints, h5]) (one_agI _) fun w7 h => ?_
      refine plain_bit h h5 fun b hb => ?_
      subst hb
      refine iteB_i (fun hb => ?_) fun hb => ?_
      · have hb' : plainI x = false := by simpa using hb
        have e : plainF (f :: rest) = false := by unfold plainF; rw [List.all_cons, hd2, List.all_cons, hb']; rfl
        rw [hd, e] at hc; exact hc _ h.all
      · have hb' : plainI x = true := by simpa using hb
        rw [hw3]
        refine hC2 _ _ ⟨dn2 ++ [x], rest2, by rw [hl2]; simp, rfl, ?_, h.drop⟩ (by simp; omega)
        rw [hd2, List.all_cons, hb']; rfl

/-! ### the law -/
theorem shapes_pos : ∀ {l : List FnR} {k : Nat} {x : Int × Int × Int}, shapes k l = some x → x.2.2 ≠ 0
  | [], _, _, h => by cases h
  | f :: l, k, x, h => by
    unfold shapes at h
    split at h
    · rename_i hb; cases h; simpa using hb
    · exact shapes_pos h
theorem progF_zero (P : List FnR) : decide (tri (progF P) = [0, 0, 0]) = ((progF P).2.2 == 0) := by
  rw [Bool.eq_iff_iff, decide_eq_true_eq, beq_iff_eq]
  constructor
  · intro h; unfold tri at h; simp at h; exact h.2.2
  · intro h
    unfold progF at h ⊢
    split
    · rename_i hq; rw [if_pos hq] at h; simp at h
    · rename_i hq
      rw [if_neg hq] at h
      cases hs : shapes 0 P with
      | some x => rw [hs] at h; exact (shapes_pos hs h).elim
      | none =>
        rw [hs] at h
        simp only at h ⊢
        split
        · rename_i hq2; rw [if_pos hq2] at h; simp at h
        · rename_i hq2
          rw [if_neg hq2] at h
          cases hf : faults P 0 P with
          | none => rfl
          | some x =>
            obtain ⟨a, i, e⟩ := x
            rw [hf] at h
            simp only at h
            obtain ⟨m, f, _, _, hfl⟩ := faults_some hf
            exact (funcFault_some hfl h).elim
theorem law_programs {w : World} {ps : Sl} {P : List FnR} {k : Bool → World → Prop} (hF : Funcs5 w ps P) (hc : ∀ w', St w w' [] → k true w') : pelotonlaw04_CheckPrograms #[.slice ps.a ps.n ps.c] w k := by
  have hpn := hF.len
  unfold pelotonlaw04_CheckPrograms pelotonlaw04_CheckPrograms_b
  refine newC_h (.nil w) fun g1 w2 h => ldW_h (g := g1) h rfl ?_
  refine few_s (hF.ext h.ext) fun b w5 h2 hfew => ?_
  have h := h.on h2.ext
  refine iteB_i (fun hb => awake_s fun w' h2 => hc w' (h.all.on h2.ext)) fun hb => ?_
  have hfew := hfew (by simpa using hb)
  refine ldW_h (g := g1) h rfl (program_s (hF.ext h.ext) fun w10 h2 => ?_)
  have h := h.on h2.ext
  refine newC_h h fun g11 w12 h => stW_h (g := g11) h rfl rfl (one_agI _) fun w13 h => ldW_h (g := g1) h rfl (rprogram_s (hF.ext h.ext) hfew fun w16 h2 => ?_)
  have h := h.on h2.ext
  refine newC_h h fun g17 w18 h => stW_h (g := g17) h rfl rfl (one_agI _) fun w19 h => drew_h h fun w20 h => ?_
  refine ldI_h (g := g11) (o := 0) (n := (progF P).1) h rfl (ldI_h (g := g17) (o := 0) (n := (progF P).1) h rfl (iteB_t (by simp) ?_))
  refine ldI_h (g := g11) (o := 1) (n := (progF P).2.1) h rfl (ldI_h (g := g17) (o := 1) (n := (progF P).2.1) h rfl (iteB_t (by simp) ?_))
  refine ldI_h (g := g11) (o := 2) (n := (progF P).2.2) h rfl (ldI_h (g := g17) (o := 2) (n := (progF P).2.2) h rfl (iteB_t (by simp) ?_))
  refine ldW_h (g := g1) h rfl (ldI_h (g := g17) (o := 2) (n := (progF P).2.2) h rfl ?_)
  have h20 := h
  refine accepts_s (hF.ext h.ext) fun w30 h2 => ?_
  have h := h.on h2.ext
  refine samec_h h20 h (iteB_t (by rw [progF_zero]; simp) ?_)
  refine ldW_h (g := g1) h rfl (ldW_h (g := g1) h rfl ?_)
  have h30 := h
  refine plain_s (hF.ext h.ext) hfew fun w34 h2 => ?_
  have h := h.on h2.ext
  refine samec_h h30 h (rplain_s (hF.ext h.ext) hfew fun w36 h2 => ?_)
  have h := h.on h2.ext
  exact iteB_t (by simp) (awake_s fun w' h2 => hc w' (h.all.on h2.ext))
end Go.Proofs.Ytinieegaaimilaa
