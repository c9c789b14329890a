/-
  Layer 6, the document's answer: a step.
-/
import Derived.Test.YtgkfbagclkjilaaSw
set_option linter.unusedSimpArgs false
set_option linter.unusedVariables false
set_option maxRecDepth 100000
namespace Go.Proofs.Ytgkfbagclkjilaa
open Go Go.Ev Go.Proofs
open Go.Proofs.Ytgkfbagclkjilaa.Fr (fTo fOn fPlain fForked fJoined fClosed fChild fRoot fR isB fTo_len fOn_len fPlain_len fForked_len fJoined_len fClosed_len)
open Go.Proofs.Ytgkfbagclkjilaa.Ck (opI Walk Accs needsOf isGoes heldL depths stepD handlesOk subBits scopesOk forks)
section
variable {w0 w : World} {R : List HP} {gm : Nat} {ps ss sr : Sl} {P : List FnR} {F : Int} {m : Mc} {q : Nat} {t : Tk} {so sk : Sl} {b : List Int} {Q : Option Pt}
theorem rstep_s {k : Unit → World → Prop} (hF : Funcs5 w0 ps P) (hA : Accs P) (hI : Inv P t m) (hz : Sz F t m) (hQ : PtOK q Q) (hb : b.length = 5) (hq : q ≤ t.nest)
    (h : St w0 w (RS gm ps ss sr F m.steps 0 Q t so sk b m.rows R))
    (hfin : ∀ m' ss' w', stp P F t m = .fin m' → St w0 w' (RL gm ps ss' sr F m'.steps 0 (parF b t.row Q) m'.rows R) → k () w')
    (hbad : ∀ e w', stp P F t m = .bad e → St w0 w' (RL gm ps ss sr F m.steps e (parV Q ++ rkV t so sk b) m.rows R) → k () w')
    (hgo : ∀ t' m' w' so' sk', stp P F t m = .go t' m' → St w0 w' (RS gm ps ss sr F m'.steps 0 Q t' so' sk' b m'.rows R) → k () w')
    (hfork : ∀ c m1 i ss' sr' so2 sk2 w', stp P F t m = .fork c m1 i → i.length = 5 → St w0 w' (RS gm ps ss' sr' F m1.steps 0 (some ⟨parV Q, t, so, sk, b⟩) c so2 sk2 i m1.rows (slc 2 so (opV t.nest t.sc) :: slc 1 sk (kV t.sc) :: R)) → k () w') :
    pelotonref06_Machine_step (some ⟨gm, 0, none⟩) w k := by
  obtain ⟨g, hv, ha⟩ := hI.at hA
  obtain ⟨hp0, hp1⟩ := at_pc ha
  have hf := hI.len
  have hmem := List.mem_of_getElem? ha.ins
  obtain ⟨_, hcd⟩ := hF.code g (List.mem_of_getElem? ha.at0)
  have h5 := (hcd.five _ hmem).1
  have hck := Ck.chk0 ha.chk
  have hregs := Fr.chk_regs (chk_fr ha.chk)
  have hs0 := hz.s0; have hsF := hz.sF; have hF0 := hz.F0
  have hr := hQ.len
  have hn32 := hI.nest
  have hrk := rk_len (t := t) (so := so) (sk := sk) hf hb
  generalize hi : insAt P t.f = i at ha hmem h5 hck hregs
  have hop0 : 0 ≤ i.getD 0 0 := hck.1
  have hop1 : i.getD 0 0 < 17 := hck.2.1
  obtain ⟨x, l, esc⟩ : ∃ x l, t.sc = x :: l := by
    cases hs : t.sc with
    | nil => exact (hI.sc hs).elim
    | cons x l => exact ⟨x, l, rfl⟩
  have hscl : t.sc.length = l.length + 1 := by rw [esc]; rfl
  unfold pelotonref06_Machine_step pelotonref06_Machine_step_b
  refine top_s h hr hrk fun g1 o w2 T h => ?_
  refine drew_h h fun w3 h => ?_
  refine nn_i ?_
  refine ldS_h (g := gm) (o := 0 + 0 + 0) h rfl ?_
  refine nn_i ?_
  refine tI T h hr (rk_get hf (j := 0) (by decide)) ?_
  refine ixR_h (i := t.f.getD 0 0) (e := FnR.cells g) hF.rws h hI.f0 (by rw [List.getElem?_map, ha.at0]; rfl) fun p8 hp8 => ?_
  refine ldS_i (s := g.sl) (hp8 h (j := 1) rfl) ?_
  refine nn_i ?_
  refine tI T h hr (rk_get hf (j := 1) (by decide)) ?_
  refine ixR_h (i := t.f.getD 1 0) (e := ints i) hcd.rws h hp0 (by rw [List.getElem?_map, ha.ins]; rfl) fun p12 hp12 => ?_
  refine ldA_c (e := ints i) (by simp [ints, h5]) (fun j v => hp12 h) ?_
  refine newC_h h fun g14 w15 h2 => ?_
  refine samec_p (e := ints i) (by simp [ints, h5]) (fun j v => hp12 h) (fun j v => hp12 h2) ?_
  refine tSame T h h2 hr (j := 1) (n := 1) (by rw [hrk]; decide) ?_
  refine samec_1 (hp8 h (j := 1) rfl) (hp8 h2 (j := 1) rfl) ?_
  refine tSame T h h2 hr (j := 0) (n := 1) (by rw [hrk]; decide) ?_
  refine samec_h (g := gm) (o := 0 + 0 + 0) h h2 ?_
  refine stW_h (g := g14) h2 rfl (by simp [ints, h5]) (Ck.one_agI _) fun w16 h => ?_
  have h : St w0 w16 (blk g14 (ints i) :: RS gm ps ss sr F m.steps 0 Q t so sk b m.rows R) := h
  refine joinP_i (fun z w' => z = (t.off && ((t.f.getD 18 0 == 0) || isPt (i.getD 0 0))) ∧ w' = w16) (fun J hJ => ?_) fun b25 w26 hb25 => ?_
  · refine nn_i ?_
    refine tB T h hr (rk_off hf) ?_
    refine iteB_i (fun hb1 => ?_) fun hb1 => ?_
    · refine nn_i ?_
      refine tI T h hr (rk_get hf (j := 18) (by decide)) ?_
      refine iteB_i (fun hb2 => ?_) fun hb2 => ?_
      · exact hJ _ _ ⟨by rw [show t.off = true from hb1, show (t.f.getD 18 0 == 0) = true from hb2]; rfl, rfl⟩
      · refine ldI_h (g := g14) (o := 0 + 0) h (ints_getD (by omega)) ?_
        refine rpoint_s hop0 hop1 (hJ _ _ ⟨?_, rfl⟩)
        rw [show t.off = true from hb1, show (t.f.getD 18 0 == 0) = false from hb2]; rfl
    · exact hJ _ _ ⟨by rw [show t.off = false from hb1]; rfl, rfl⟩
  rw [hb25.1, hb25.2]
  have hdrop2 : ∀ {w'} {ss' : Sl} {st E : Int} {stack : List Value} {rows : List Rw}, St w0 w' (RL gm ps ss' sr F st E stack rows (slc 2 so (opV t.nest t.sc) :: slc 1 sk (kV t.sc) :: R)) → St w0 w' (RL gm ps ss' sr F st E stack rows R) := fun h => (h.rm 3 rfl).rm 3 rfl
  refine iteB_i (fun hc => ?_) fun hc => ?_
  · refine rends_s (m := m) (h.rm 0 rfl) hQ hf hb hI.row fun ss' w' h => ?_
    exact hfin _ _ _ (by unfold stp; rw [hi, if_pos hc]) (hdrop2 h)
  have hc' : ¬ (t.off && ((t.f.getD 18 0 == 0) || isPt (i.getD 0 0))) = true := by rw [hc]; decide
  refine drew_h h fun w28 h => ?_
  have hson := so_n (so := so) (n := t.nest) (l := t.sc) h
  have hskn := sk_n (sk := sk) (l := t.sc) h
  have hsw : IntKind.wrap .i64 (((so.n : Nat) : Int) - 1) = (l.length : Int) := by rw [wrap_id ⟨by omega, by omega⟩]; omega
  have hkw : IntKind.wrap .i64 (((sk.n : Nat) : Int) - 1) = (l.length : Int) := by rw [wrap_id ⟨by omega, by omega⟩]; omega
  refine nn_i ?_
  refine tS T h hr (x := so) (rk_so hf) ?_
  refine nn_i ?_
  refine tS T h hr (x := so) (rk_so hf) ?_
  rw [hsw]
  have hlast : ∀ j v, ([.bool x.1, .int .i64 ((t.nest + 1 + l.length : Nat) : Int)] : List Value)[j]? = some v → (opV t.nest t.sc)[l.length * 2 + j]? = some v := by
    intro j v hv
    rw [esc]
    unfold opV
    rw [List.getElem?_append_right (by rw [opV_len]; omega), opV_len, show l.length * 2 + j - 2 * l.length = j by omega]
    exact hv
  refine ixS_h (sz := 2) (s := so) (vs := opV t.nest t.sc) h (by decide) (by omega) (by omega) fun ga oa _ hrd _ => ?_
  simp only [Int.toNat_natCast] at hrd
  have hla : ∀ {w' : World} {L' : List HP} {f' : HP → List HP}, St w0 w' L' → [At L' (slc 2 so) (opV t.nest t.sc) f'] → ∀ j v, ([.bool x.1, .int .i64 ((t.nest + 1 + l.length : Nat) : Int)] : List Value)[j]? = some v → w'.cell? (Addr.add ⟨ga, oa, none⟩ j) = some v := by
    intro w' L' f' h' _ j v hv
    have hj : j < 2 := (List.getElem?_eq_some_iff.1 hv).1
    rw [add_mk]
    exact hrd h' j v hj (hlast j v hv)
  refine ldA_c (e := [.bool x.1, .int .i64 ((t.nest + 1 + l.length : Nat) : Int)]) rfl (fun j v => hla h j v) ?_
  refine newC_h h fun g35 w36 h2 => ?_
  refine samec_p (e := [.bool x.1, .int .i64 ((t.nest + 1 + l.length : Nat) : Int)]) rfl (fun j v => hla h j v) (fun j v => hla h2 j v) ?_
  refine tSame T h h2 hr (j := 20) (n := 1) (by rw [hrk]; decide) (tSame T h h2 hr (j := 20) (n := 1) (by rw [hrk]; decide) ?_)
  refine stW_h (g := g35) h2 rfl rfl (by intro v hv; simp at hv; rcases hv with rfl | rfl <;> rfl) fun w37 h => ?_
  have h : St w0 w37 (blk g35 [.bool x.1, .int .i64 ((t.nest + 1 + l.length : Nat) : Int)] :: blk g14 (ints i) :: RS gm ps ss sr F m.steps 0 Q t so sk b m.rows R) := h
  refine drew_h h fun w38 h => ?_
  refine nn_i ?_
  refine ldI_h (g := gm) (o := 0 + 3) h rfl ?_
  refine nn_i ?_
  refine ldI_h (g := gm) (o := 0 + 4) h rfl ?_
  refine iteB_i (fun hb1 => ?_) fun hb1 => ?_
  · have hb1 : m.steps ≥ F := of_decide_eq_true hb1
    refine nn_i ?_
    refine stC_h (g := gm) (o := 0 + 5) (v := .int .i64 22) h rfl (by simp) fun w44 h => ?_
    exact hbad 22 _ (by unfold stp; rw [hi, if_neg hc', if_pos hb1]) (hdrop2 ((h.rm 0 rfl).rm 0 rfl))
  have hnF : ¬ m.steps ≥ F := of_decide_eq_false hb1
  have e35 : IntKind.wrap .i64 ((((t.nest + 1 + l.length : Nat) : Int)) + 1) = ((t.nest + 1 + t.sc.length : Nat) : Int) := by rw [wrap_id ⟨by omega, by omega⟩]; omega
  refine joinP_i (fun z w' => z = decide ((i.getD 0 0 = 8 ∨ i.getD 0 0 = 11) ∧ 32 ≤ t.nest + t.sc.length) ∧ w' = w38) (fun J hJ => ?_) fun b50 w51 hb50 => ?_
  · refine ldI_h (g := g14) (o := 0 + 0) h (ints_getD (by omega)) ?_
    refine iteB_i (fun hb2 => ?_) fun hb2 => ?_
    · have hb2 : i.getD 0 0 = 8 := by simpa using hb2
      refine ldI_h (g := g35) (o := 0 + 1) h rfl (hJ _ _ ⟨?_, rfl⟩)
      rw [e35, decide_eq_decide]; omega
    · have hb2 : ¬ i.getD 0 0 = 8 := by simpa using hb2
      refine ldI_h (g := g14) (o := 0 + 0) h (ints_getD (by omega)) ?_
      refine iteB_i (fun hb3 => ?_) fun hb3 => ?_
      · have hb3 : i.getD 0 0 = 11 := by simpa using hb3
        refine ldI_h (g := g35) (o := 0 + 1) h rfl (hJ _ _ ⟨?_, rfl⟩)
        rw [e35, decide_eq_decide]; omega
      · have hb3 : ¬ i.getD 0 0 = 11 := by simpa using hb3
        exact hJ _ _ ⟨by rw [eq_comm, decide_eq_false_iff_not]; omega, rfl⟩
  rw [hb50.1, hb50.2]
  refine iteB_i (fun hb1 => ?_) fun hb1 => ?_
  · have hb1 := of_decide_eq_true hb1
    refine nn_i ?_
    refine stC_h (g := gm) (o := 0 + 5) (v := .int .i64 23) h rfl (by simp) fun w44 h => ?_
    exact hbad 23 _ (by unfold stp; rw [hi, if_neg hc', if_neg hnF, if_pos hb1]) (hdrop2 ((h.rm 0 rfl).rm 0 rfl))
  have hnd := of_decide_eq_false hb1
  refine nn_i ?_
  refine ldI_h (g := gm) (o := 0 + 3) h rfl ?_
  refine nn_i ?_
  refine stC_h (g := gm) (o := 0 + 3) (v := .int .i64 (IntKind.wrap .i64 (m.steps + 1))) h rfl (by simp) fun w57 h => ?_
  rw [wrap_id ⟨by omega, by omega⟩] at h
  have h : St w0 w57 (blk g35 [.bool x.1, .int .i64 ((t.nest + 1 + l.length : Nat) : Int)] :: blk g14 (ints i) :: RS gm ps ss sr F (m.steps + 1) 0 Q t so sk b m.rows R) := h
  have hfl : (fPlain t.f i).1.length = 19 := fPlain_len hf
  refine joinP_i (fun z w' => ∃ g2, z = (⟨g2, 0, none⟩, (fPlain t.f i).2) ∧ St w0 w' (blk g2 (ints (fPlain t.f i).1) :: blk g35 [.bool x.1, .int .i64 ((t.nest + 1 + l.length : Nat) : Int)] :: blk g14 (ints i) :: RS gm ps ss sr F (m.steps + 1) 0 Q t so sk b m.rows R)) (fun J hJ => ?_) ?_
  · refine drew_h h fun w63 h => ?_
    refine nn_i ?_
    refine tA T h hr (j := 0) (n := 19) (by rw [hrk]; decide) ?_
    rw [rk_f hf]
    refine ldW_h (g := g14) h (by simp [ints, h5]) ?_
    refine ⟨?_, ?_⟩
    · refine Fr.rplain_s hf h5 fun w68 he => ?_
      have h2 := ext_of h he
      refine newC_h h2 fun g69 w70 h2 => ?_
      refine samec_h (g := g14) (o := 0) h h2 (tSame T h h2 hr (j := 0) (n := 19) (by rw [hrk]; decide) ?_)
      refine stW_h (g := g69) h2 rfl (by simp [agI, ints, hfl]) (Ck.one_agI _) fun w71 h2 => ?_
      exact hJ _ _ ⟨g69, rfl, h2⟩
    · refine newC_h h fun g72 w73 h2 => ?_
      refine samec_h (g := g14) (o := 0) h h2 (tSame T h h2 hr (j := 0) (n := 19) (by rw [hrk]; decide) ?_)
      refine Fr.rplain_s hf h5 fun w75 he => ?_
      have h2 := ext_of h2 he
      refine stW_h (g := g72) h2 rfl (by simp [agI, ints, hfl]) (Ck.one_agI _) fun w76 h2 => ?_
      exact hJ _ _ ⟨g72, rfl, h2⟩
  rintro _ w78 ⟨g2, rfl, h⟩
  refine iteB_i (fun hp => ?_) fun hp => ?_
  · have hp : (fPlain t.f i).2 = true := hp
    refine ldW_h (g := g2) h (by simp [ints, hfl]) ?_
    refine nn_i ?_
    refine tW T h hr hrk (j := 0) (n := 19) (xs := agI (fPlain t.f i).1) (by simp [agI, ints, hfl]) (by decide) (Ck.one_agI _) fun w81 h => ?_
    rw [rk_setf hf hfl] at h
    exact hgo { t with f := (fPlain t.f i).1 } { m with steps := m.steps + 1 } _ so sk (by unfold stp; rw [hi, if_neg hc', if_neg hnF, if_neg hnd, if_pos hp]) (((h.rm 0 rfl).rm 0 rfl).rm 0 rfl)
  have hp : (fPlain t.f i).2 = false := hp
  have hop := plain_not ha.chk hp
  have hstp : stp P F t m = act P i t { m with steps := m.steps + 1 } := by unfold stp; rw [hi, if_neg hc', if_neg hnF, if_neg hnd, if_neg (by rw [hp]; decide)]
  have h : St w0 w78 (blk g35 [.bool x.1, .int .i64 ((t.nest + 1 + l.length : Nat) : Int)] :: blk g14 (ints i) :: RS gm ps ss sr F (m.steps + 1) 0 Q t so sk b m.rows R) := h.rm 0 rfl
  have hM : ∀ {w'}, St w0 w' (blk g35 [.bool x.1, .int .i64 ((t.nest + 1 + l.length : Nat) : Int)] :: blk g14 (ints i) :: RS gm ps ss sr F (m.steps + 1) 0 Q t so sk b m.rows R) → St w0 w' (RS gm ps ss sr F (m.steps + 1) 0 Q t so sk b m.rows R) := fun h => (h.rm 0 rfl).rm 0 rfl
  refine ldI_h (g := g14) (o := 0 + 0) h (ints_getD (by omega)) ?_
  have hrgn : ∀ {w' : World} {z : Int} {L' : List HP} {f' : HP → List HP} {t' : Tk} {c : Int → Prop}, t'.f.length = 19 → St w0 w' L' → [At L' (slc 29 ss) (parV Q ++ rkV t' so sk b) f'] → 0 ≤ z → z < 8 → ∀ base : Nat, base + 8 ≤ 19 → c (t'.f.getD (base + z.toNat) 0) → ixP ⟨g1, o + base, none⟩ 8 z 1 fun a => ldI .i64 w' a c := by
    intro w' z L' f' t' c hf' h' _ h0 h1 base hbase hcc
    refine ixP_i h0 (by omega) ?_
    rw [show o + base + z.toNat * 1 = o + (base + z.toNat) by omega]
    exact tI T h' hr (rk_get hf' (by omega)) hcc
  -- what a frame that went on, on the stack, comes to
  have hOnK : ∀ {w' : World} {kk : Unit → World → Prop} {L' : List HP} {f' : HP → List HP} {t' : Tk} {so' sk' : Sl}, t'.f = t.f → St w0 w' L' → [At L' (slc 29 ss) (parV Q ++ rkV t' so' sk' b) f'] → (∀ w'', St w0 w'' (f' (slc 29 ss (parV Q ++ rkV { t' with f := fOn t.f } so' sk' b))) → kk () w'') →
      nn (some ⟨g1, o, none⟩) fun a236 => ldA 19 w' (Addr.add a236 0) fun cs237 => pelotonref05_Task_On cs237 w' fun cs238 w239 => nn (some ⟨g1, o, none⟩) fun a240 => stA 19 w239 (Addr.add a240 0) cs238 fun w241 => kk () w241 := by
    intro w' kk L' f' t' so' sk' ef h' _ hkk
    have hf' : t'.f.length = 19 := by rw [ef, hf]
    have hrk' := rk_len (t := t') (so := so') (sk := sk') hf' hb
    refine nn_i ?_
    refine tA T h' hr (j := 0) (n := 19) (by rw [hrk']; decide) ?_
    rw [rk_f hf', ef]
    refine Fr.ron_s hf fun w68 he => ?_
    have h2 := ext_of h' he
    refine nn_i ?_
    refine tW T h2 hr hrk' (j := 0) (n := 19) (xs := agI (fOn t.f)) (by simp [agI, ints, fOn_len, hf]) (by decide) (Ck.one_agI _) fun w81 h => ?_
    rw [rk_setf hf' (by rw [fOn_len, hf])] at h
    exact hkk _ h
  have hOnf : (fOn t.f).length = 19 := by rw [fOn_len, hf]
  refine iteB_i (fun ho => ?_) fun ho => ?_
  · have ho : i.getD 0 0 = 8 := by simpa using ho
    obtain ⟨g', hg', h40, hnd', hA0, hA1, hsub⟩ := at_fork ha ho
    have hNI := (hF.code g' (List.mem_of_getElem? hg')).1
    have hrl := hz.rl
    have hcf := (child_get (f := t.f) (n := i.getD 4 0) (needs := g'.needs) hf)
    refine drew_h h fun w79 h => ?_
    refine nn_i ?_
    refine tA T h hr (j := 0) (n := 19) (by rw [hrk]; decide) ?_
    rw [rk_f hf]
    refine ldI_h (g := g14) (o := 0 + 4) h (ints_getD (by omega)) ?_
    refine nn_i ?_
    refine ldS_h (g := gm) (o := 0 + 0 + 0) h rfl ?_
    refine ldI_h (g := g14) (o := 0 + 4) h (ints_getD (by omega)) ?_
    refine ixR_h (i := i.getD 4 0) (e := FnR.cells g') hF.rws h h40 (by rw [List.getElem?_map, hg']; rfl) fun p86 hp86 => ?_
    refine ldI_i (n := g'.needs) (hp86 h (j := 0) rfl) ?_
    refine nn_i ?_
    refine tI T h hr (rk_row hf) ?_
    refine nn_i ?_
    refine tS T h hr (x := sk) (rk_sk hf) ?_
    refine nn_i ?_
    refine tS T h hr (x := sk) (rk_sk hf) ?_
    rw [hkw]
    have hkl : (kV t.sc)[l.length * 1 + 0]? = some (.int .i64 x.2) := by
      rw [esc]
      unfold kV
      rw [List.getElem?_append_right (by rw [kV_len]; omega), kV_len, show l.length * 1 + 0 - l.length = 0 by omega]; rfl
    refine ixS_h (sz := 1) (s := sk) (vs := kV t.sc) h (by decide) (by omega) (by omega) fun ga oa _ hrd _ => ?_
    simp only [Int.toNat_natCast] at hrd
    refine ldI_i (n := x.2) (hrd h 0 _ (by decide) hkl) ?_
    refine ldI_h (g := g35) (o := 0 + 1) h rfl ?_
    refine ldW_h (g := g14) h (by simp [ints, h5]) ?_
    have same : ∀ {w' : World} {L' : List HP} {f1 f2 f3 f4 : HP → List HP} {c : Prop}, St w0 w' L' → [At L' (slc 1 sk) (kV t.sc) f1] → [At L' (blk g35) [.bool x.1, .int .i64 ((t.nest + 1 + l.length : Nat) : Int)] f2] → [At L' (blk g14) (ints i) f3] → [At L' (slc 29 ss) (parV Q ++ rkV t so sk b) f4] → c →
        samec 5 ⟨g14, 0, none⟩ w79 w' (samec 1 (Addr.add ⟨g35, 0, none⟩ 1) w79 w' (samec 1 ⟨ga, oa, none⟩ w79 w' (samec 1 (Addr.add ⟨g1, o, none⟩ 21) w79 w' (samec 1 (Addr.add ⟨g1, o, none⟩ 21) w79 w' (samec 1 (Addr.add ⟨g1, o, none⟩ 19) w79 w' c))))) := by
      intro w' L' f1 f2 f3 f4 c h' _ _ _ _ hc
      refine samec_h (g := g14) (o := 0) h h' ?_
      refine samec_h (g := g35) (o := 0 + 1) h h' ?_
      refine samec_1 (hrd h 0 _ (by decide) hkl) (hrd h' 0 _ (by decide) hkl) ?_
      refine tSame T h h' hr (j := 21) (n := 1) (by rw [hrk]; decide) (tSame T h h' hr (j := 21) (n := 1) (by rw [hrk]; decide) (tSame T h h' hr (j := 19) (n := 1) (by rw [hrk]; decide) hc))
    refine Fr.rchild_s hf hNI fun w99 he => ?_
    have h2 := ext_of h he
    refine same h2 ?_
    have h2 : St w0 w99 (RS gm ps ss sr F ({ m with steps := m.steps + 1 } : Mc).steps 0 Q t so sk b ({ m with steps := m.steps + 1 } : Mc).rows (blk g35 [.bool x.1, .int .i64 ((t.nest + 1 + l.length : Nat) : Int)] :: blk g14 (ints i) :: R)) := h2.perm (by repeat' (first | exact List.Perm.refl _ | refine perm_f 0 rfl ?_ | refine perm_f 1 rfl ?_ | refine perm_f 2 rfl ?_ | refine perm_f 3 rfl ?_ | refine perm_f 4 rfl ?_ | refine perm_f 5 rfl ?_ | refine perm_f 6 rfl ?_ | refine perm_f 7 rfl ?_))
    refine rcanc_s (m := { m with steps := m.steps + 1 }) h2 hQ hf hb (by omega) fun w101 h2 => ?_
    refine same h2 ?_
    have h2 : St w0 w101 (RL gm ps ss sr F (m.steps + 1) 0 (parV Q ++ rkV t so sk b) m.rows (slc 2 so (opV t.nest t.sc) :: slc 1 sk (kV t.sc) :: blk g35 [.bool x.1, .int .i64 ((t.nest + 1 + l.length : Nat) : Int)] :: blk g14 (ints i) :: R)) := h2
    refine radd_s (q := q + 1) (nest := t.nest + 1 + l.length) h2 hcf.1 h5 (by omega) (by rw [List.length_append, hr, hrk]; omega) (by omega) (by omega) fun w' ss' sr' so2 sk2 h => ?_
    have hst : stp P F t m = .fork ⟨fChild t.f (i.getD 4 0) g'.needs, m.rows.length, [(false, 0)], 0, t.nest + t.sc.length, t.off || t.sc.any (·.1)⟩ ⟨m.rows ++ [⟨t.row, (t.sc.headD (false, 0)).2, i.getD 4 0, 0, 0, 0, []⟩], m.steps + 1⟩ i := by
      rw [hstp]; unfold act; rw [if_pos ho, hnd']
    refine hfork _ _ _ ss' sr' so2 sk2 w' hst h5 ?_
    rw [hcf.2.1] at h
    have eh : (t.sc.headD (false, 0)).2 = x.2 := by rw [esc]; rfl
    have h : St w0 w' (RL gm ps ss' sr' F (m.steps + 1) 0 ((parV Q ++ rkV t so sk b) ++ rkV (kidTk (fChild t.f (i.getD 4 0) g'.needs) m.rows.length (t.nest + 1 + l.length) (t.off || t.sc.any (·.1))) so2 sk2 i) (m.rows ++ [⟨t.row, x.2, i.getD 4 0, 0, 0, 0, []⟩]) (slc 2 so2 (opV (t.nest + 1 + l.length) [(false, 0)]) :: slc 1 sk2 (kV [(false, 0)]) :: slc 2 so (opV t.nest t.sc) :: slc 1 sk (kV t.sc) :: R)) := (h.rm 7 rfl).rm 7 rfl
    rw [eh]
    rw [show t.nest + 1 + l.length = t.nest + t.sc.length by omega] at h
    exact h
  have h8 : ¬ i.getD 0 0 = 8 := by simpa using ho
  refine joinP_i (fun z w' => z = decide (i.getD 0 0 = 9 ∨ i.getD 0 0 = 10) ∧ w' = w78) (fun J hJ => ?_) fun b104 w105 hb104 => ?_
  · refine iteB_i (fun hb1 => ?_) fun hb1 => ?_
    · have hb1' : i.getD 0 0 = 9 := by simpa using hb1
      exact hJ _ _ ⟨by rw [decide_eq_true (.inl hb1')]; exact hb1, rfl⟩
    · have hb1 : ¬ i.getD 0 0 = 9 := by simpa using hb1
      refine hJ _ _ ⟨?_, rfl⟩
      show (i.getD 0 0 == 10) = _
      rw [Bool.eq_iff_iff, beq_iff_eq, decide_eq_true_eq]; omega
  rw [hb104.1, hb104.2]
  refine iteB_i (fun ho => ?_) fun ho => ?_
  · have h910 := of_decide_eq_true ho
    obtain ⟨j0, j1, j2, r, hrr, hkd⟩ := at_join ha h910
    have hro : rOf i t { m with steps := m.steps + 1 } = r := by unfold rOf; rw [List.getD_eq_getElem?_getD]; dsimp only; rw [hrr]; rfl
    have hrl := (List.getElem?_eq_some_iff.1 hrr).1
    have hJl : (fJoined t.f i r.kind r.v).1.length = 19 := by rw [fJoined_len, hf]
    refine drew_h h fun w106 h => ?_
    refine ldI_h (g := g14) (o := 0 + 2) h (ints_getD (by omega)) ?_
    refine nn_i ?_
    refine hrgn hf h hregs.2.1.1 hregs.2.1.2 10 (by decide) ?_
    refine ldI_h (g := g14) (o := 0 + 0) h (ints_getD (by omega)) ?_
    refine joinP_i (fun z w' => z = t.f.getD (10 + (hOf i).toNat) 0 ∧ St w0 w' (blk g35 [.bool x.1, .int .i64 ((t.nest + 1 + l.length : Nat) : Int)] :: blk g14 (ints i) :: RS gm ps ss sr F (m.steps + 1) 0 Q t so sk b m.rows R)) (fun J hJ => ?_) fun z w119 hz' => ?_
    · refine iteB_i (fun hb1 => ?_) fun hb1 => ?_
      · have hb1 : i.getD 0 0 = 10 := by simpa using hb1
        refine drew_h h fun w113 h => ?_
        refine ldI_h (g := g14) (o := 0 + 3) h (ints_getD (by omega)) ?_
        refine nn_i ?_
        refine hrgn hf h hregs.2.2.1 hregs.2.2.2 10 (by decide) ?_
        exact hJ _ _ ⟨by unfold hOf; rw [if_pos hb1], h⟩
      · have hb1 : ¬ i.getD 0 0 = 10 := by simpa using hb1
        exact hJ _ _ ⟨by unfold hOf; rw [if_neg hb1], h⟩
    obtain ⟨ez, h⟩ := hz'
    rw [ez]
    have hsr := rows_n (s := sr) (rs := m.rows) h
    refine joinP_i (fun z w' => ∃ g, z = (⟨g, 0, none⟩, ((fJoined t.f i r.kind r.v).2.1, (fJoined t.f i r.kind r.v).2.2)) ∧ St w0 w' (blk g (ints (fJoined t.f i r.kind r.v).1) :: blk g35 [.bool x.1, .int .i64 ((t.nest + 1 + l.length : Nat) : Int)] :: blk g14 (ints i) :: RS gm ps ss sr F (m.steps + 1) 0 Q t so sk b m.rows R)) (fun J hJ => ?_) ?_
    · refine drew_h h fun w121 h => ?_
      refine nn_i ?_
      refine tA T h hr (j := 0) (n := 19) (by rw [hrk]; decide) ?_
      rw [rk_f hf]
      refine ldW_h (g := g14) h (by simp [ints, h5]) ?_
      refine nn_i ?_
      refine ldS_h (g := gm) (o := 0 + 2) h rfl ?_
      refine ixS_h (sz := 7) (s := sr) (vs := rowsV m.rows) h (by decide) j2 (by omega) fun ga oa _ hrd _ => ?_
      have hcl : ∀ {w' : World} {L' : List HP} {f' : HP → List HP}, St w0 w' L' → [At L' (slc 7 sr) (rowsV m.rows) f'] → ∀ j v, (rwV r)[j]? = some v → w'.cell? ⟨ga, oa + j, none⟩ = some v := by
        intro w' L' f' h' _ j v hv
        have hj : j < 7 := (List.getElem?_eq_some_iff.1 hv).1
        exact hrd h' j v hj (by rw [rows_get hrr hj]; exact hv)
      refine ldI_i (n := r.kind) (hcl h 3 _ rfl) ?_
      refine nn_i ?_
      refine ldS_h (g := gm) (o := 0 + 2) h rfl ?_
      refine ixS_h (sz := 7) (s := sr) (vs := rowsV m.rows) h (by decide) j2 (by omega) fun gb ob _ hrd2 _ => ?_
      have hcl2 : ∀ {w' : World} {L' : List HP} {f' : HP → List HP}, St w0 w' L' → [At L' (slc 7 sr) (rowsV m.rows) f'] → ∀ j v, (rwV r)[j]? = some v → w'.cell? ⟨gb, ob + j, none⟩ = some v := by
        intro w' L' f' h' _ j v hv
        have hj : j < 7 := (List.getElem?_eq_some_iff.1 hv).1
        exact hrd2 h' j v hj (by rw [rows_get hrr hj]; exact hv)
      refine ldI_i (n := r.v) (hcl2 h 4 _ rfl) ?_
      have same : ∀ {w' : World} {L' : List HP} {f1 f2 f3 f4 : HP → List HP} {c : Prop}, St w0 w' L' → [At L' (slc 7 sr) (rowsV m.rows) f1] → [At L' (blk gm) [.slice ps.a ps.n ps.c, .slice ss.a ss.n ss.c, .slice sr.a sr.n sr.c, .int .i64 (m.steps + 1), .int .i64 F, .int .i64 0] f2] → [At L' (blk g14) (ints i) f3] → [At L' (slc 29 ss) (parV Q ++ rkV t so sk b) f4] → c →
          samec 1 (Addr.add ⟨gb, ob, none⟩ 4) w121 w' (samec 1 (Addr.add ⟨gm, 0, none⟩ 2) w121 w' (samec 1 (Addr.add ⟨ga, oa, none⟩ 3) w121 w' (samec 1 (Addr.add ⟨gm, 0, none⟩ 2) w121 w' (samec 5 ⟨g14, 0, none⟩ w121 w' (samec 19 (Addr.add ⟨g1, o, none⟩ 0) w121 w' c))))) := by
        intro w' L' f1 f2 f3 f4 c h' _ _ _ _ hc
        refine samec_1 (hcl2 h 4 _ rfl) (hcl2 h' 4 _ rfl) ?_
        refine samec_h (g := gm) (o := 0 + 2) h h' ?_
        refine samec_1 (hcl h 3 _ rfl) (hcl h' 3 _ rfl) ?_
        refine samec_h (g := gm) (o := 0 + 2) h h' ?_
        refine samec_h (g := g14) (o := 0) h h' ?_
        exact tSame T h h' hr (j := 0) (n := 19) (by rw [hrk]; decide) hc
      refine ⟨?_, ?_⟩
      · refine Fr.rjoined_s hf h5 fun w134 he => ?_
        have h2 := ext_of h he
        refine newC_h h2 fun g135 w136 h2 => ?_
        refine same h2 ?_
        refine stW_h (g := g135) h2 rfl (by simp [agI, ints, hJl]) (Ck.one_agI _) fun w137 h2 => ?_
        exact hJ _ _ ⟨g135, rfl, h2⟩
      · refine newC_h h fun g138 w139 h2 => ?_
        refine same h2 ?_
        refine Fr.rjoined_s hf h5 fun w141 he => ?_
        have h2 := ext_of h2 he
        refine stW_h (g := g138) h2 rfl (by simp [agI, ints, hJl]) (Ck.one_agI _) fun w142 h2 => ?_
        exact hJ _ _ ⟨g138, rfl, h2⟩
    rintro _ w144 ⟨g143, rfl, h⟩
    refine ldW_h (g := g143) h (by simp [ints, hJl]) ?_
    refine nn_i ?_
    refine tW T h hr hrk (j := 0) (n := 19) (xs := agI (fJoined t.f i r.kind r.v).1) (by simp [agI, ints, hJl]) (by decide) (Ck.one_agI _) fun w147 h => ?_
    rw [rk_setf hf hJl] at h
    refine iteB_i (fun hb1 => ?_) fun hb1 => ?_
    · refine rends_s (m := { m with steps := m.steps + 1 }) (t := { t with f := (fJoined t.f i r.kind r.v).1 }) (((h.rm 0 rfl).rm 0 rfl).rm 0 rfl) hQ hJl hb hI.row fun ss' w' h => ?_
      exact hfin _ _ _ (by rw [hstp]; unfold act; rw [if_neg h8, if_pos h910, hro, if_pos (show (fJoined t.f i r.kind r.v).2.2 = true from hb1)]) (hdrop2 h)
    · exact hgo { t with f := (fJoined t.f i r.kind r.v).1 } { m with steps := m.steps + 1 } _ so sk (by rw [hstp]; unfold act; rw [if_neg h8, if_pos h910, hro, if_neg (by rw [show (fJoined t.f i r.kind r.v).2.2 = false from hb1]; decide)]) (((h.rm 0 rfl).rm 0 rfl).rm 0 rfl)
  have h910 : ¬ (i.getD 0 0 = 9 ∨ i.getD 0 0 = 10) := of_decide_eq_false ho
  refine iteB_i (fun ho => ?_) fun ho => ?_
  · have h11 : i.getD 0 0 = 11 := by simpa using ho
    have hop' := hz.op
    refine nn_i ?_
    refine tI T h hr (rk_op hf) ?_
    refine nn_i ?_
    refine tC T h hr hrk (j := 22) (v := .int .i64 (IntKind.wrap .i64 (t.opened + 1))) (by decide) rfl fun w152 h => ?_
    rw [wrap_id ⟨by omega, by omega⟩, rk_setop hf] at h
    have hft : ({ t with opened := t.opened + 1 } : Tk).f.length = 19 := hf
    have hrk2 := rk_len (t := { t with opened := t.opened + 1 }) (so := so) (sk := sk) hft hb
    refine drew_h h fun w153 h => ?_
    refine nn_i ?_
    refine tS T h hr (x := so) (rk_so hft) ?_
    refine ldI_h (g := g35) (o := 0 + 1) h rfl ?_
    refine samec_self ?_
    refine spl_i _ rfl spl_d ?_
    have h153 := h
    refine newC_h h fun g158 w159 h2 => ?_
    refine tSame T h153 h2 hr (j := 20) (n := 1) (by rw [hrk2]; decide) ?_
    rw [show IntKind.wrap .i64 ((((t.nest + 1 + l.length : Nat) : Int)) + 1) = ((t.nest + 1 + t.sc.length : Nat) : Int) from e35] at h2
    refine bApp_h (s := so) (vs := opV t.nest t.sc) (x := ⟨some ⟨g158, 0, none⟩, 1, 1⟩) (ys := [.bool false, .int .i64 ((t.nest + 1 + t.sc.length : Nat) : Int)]) h2 elOp (by kernel_rfl) (blk_slsN (n := 1) (h2.blk (g := g158)) rfl 1) (by intro v hv; simp at hv; rcases hv with rfl | rfl <;> rfl) (by simp only; omega) (by simp only; omega) fun so' w161 h n2 => ?_
    refine nn_i ?_
    refine tC T h hr hrk2 (j := 20) (v := .slice so'.a so'.n so'.c) (by decide) rfl fun w163 h => ?_
    rw [rk_setso hft] at h
    have hrk3 := rk_len (t := { t with opened := t.opened + 1 }) (so := so') (sk := sk) hft hb
    refine drew_h h fun w164 h => ?_
    refine nn_i ?_
    refine tS T h hr (x := sk) (rk_sk hft) ?_
    refine nn_i ?_
    refine tI T h hr (rk_op hft) ?_
    have h164 := h
    refine newC_h h fun g169 w170 h2 => ?_
    refine tSame T h164 h2 hr (j := 21) (n := 1) (by rw [hrk3]; decide) ?_
    refine bApp_h (s := sk) (vs := kV t.sc) (x := ⟨some ⟨g169, 0, none⟩, 1, 1⟩) (ys := [.int .i64 (t.opened + 1)]) h2 elK (by kernel_rfl) (blk_sls (n := 1) (l := [.int .i64 (t.opened + 1)]) (h2.blk (g := g169)) rfl 1) (by simp [Value.oneCell']) (by simp only; omega) (by simp only; omega) fun sk' w172 h n2 => ?_
    refine nn_i ?_
    refine tC T h hr hrk3 (j := 21) (v := .slice sk'.a sk'.n sk'.c) (by decide) rfl fun w174 h => ?_
    rw [rk_setsk hft] at h
    refine hOnK (t' := { t with opened := t.opened + 1 }) rfl h fun w241 h => ?_
    exact hgo { t with f := fOn t.f, sc := (false, t.opened + 1) :: t.sc, opened := t.opened + 1 } { m with steps := m.steps + 1 } _ so' sk' (by rw [hstp]; unfold act; rw [if_neg h8, if_neg h910, if_pos h11]) ((((h.rm 0 rfl).rm 0 rfl).rm 0 rfl).rm 0 rfl)
  have h11 : ¬ i.getD 0 0 = 11 := by simpa using ho
  refine iteB_i (fun ho => ?_) fun ho => ?_
  · have h12 : i.getD 0 0 = 12 := by simpa using ho
    have hsr := rows_n (s := sr) (rs := m.rows) h
    have hcl := hz.cl _ (getD_mem (l := m.rows) hI.row)
    refine ldB_h (g := g35) (o := 0 + 0) h rfl ?_
    refine joinP_i (fun z w' => z = (ByteArray.mk #[if x.1 then 49 else 48]) ∧ w' = w78) (fun J hJ => ?_) fun z w184 hz' => ?_
    · refine iteB_i (fun hb => hJ _ _ ⟨by rw [hb]; rfl, rfl⟩) fun hb => hJ _ _ ⟨by rw [hb]; rfl, rfl⟩
    rw [hz'.1, hz'.2]
    refine drew_h h fun w185 h => ?_
    refine nn_i ?_
    refine ldS_h (g := gm) (o := 0 + 2) h rfl ?_
    refine nn_i ?_
    refine tI T h hr (rk_row hf) ?_
    refine nn_i ?_
    refine ldS_h (g := gm) (o := 0 + 2) h rfl ?_
    refine nn_i ?_
    refine tI T h hr (rk_row hf) ?_
    have e0 := row_at hI.row
    have hrow6 : (rowsV m.rows)[t.row * 7 + 6]? = some (.string (told (m.rows.getD t.row r0).cl)) := by rw [rows_get e0 (by decide)]; rfl
    have hrlt := hI.row
    refine ixS_h (sz := 7) (s := sr) (vs := rowsV m.rows) h (by decide) (by omega) (by omega) fun ga oa _ hrd _ => ?_
    simp only [Int.toNat_natCast] at hrd
    refine ldStr_i (hrd h 6 _ (by decide) hrow6) ?_
    have es : (ByteArray.mk #[if x.1 then (49 : UInt8) else 48]).size = 1 := rfl
    refine ⟨by rw [told_len, es]; omega, ?_⟩
    refine ixS_h (sz := 7) (s := sr) (vs := rowsV m.rows) h (by decide) (by omega) (by omega) fun ga oa _ _ hst => ?_
    simp only [Int.toNat_natCast] at hst
    rw [told_app]
    refine hst h inferInstance 6 _ _ (by decide) rfl fun w197 h => ?_
    rw [rows_set (r' := { m.rows.getD t.row r0 with cl := (m.rows.getD t.row r0).cl ++ [x.1] }) e0 (by decide) rfl] at h
    refine drew_h h fun w198 h => ?_
    refine nn_i ?_
    refine tA T h hr (j := 0) (n := 19) (by rw [hrk]; decide) ?_
    rw [rk_f hf]
    refine ldW_h (g := g14) h (by simp [ints, h5]) ?_
    refine ldB_h (g := g35) (o := 0 + 0) h rfl ?_
    refine Fr.rclosed_s hf h5 fun w204 he => ?_
    have h := ext_of h he
    have hfc : (fClosed t.f i x.1).length = 19 := by rw [fClosed_len, hf]
    refine nn_i ?_
    refine tW T h hr hrk (j := 0) (n := 19) (xs := agI (fClosed t.f i x.1)) (by simp [agI, ints, hfc]) (by decide) (Ck.one_agI _) fun w206 h => ?_
    rw [rk_setf hf hfc] at h
    have hrk2 := rk_len (t := { t with f := fClosed t.f i x.1 }) (so := so) (sk := sk) hfc hb
    refine drew_h h fun w207 h => ?_
    refine nn_i ?_
    refine tS T h hr (x := so) (rk_so (t := { t with f := fClosed t.f i x.1 }) hfc) ?_
    refine nn_i ?_
    refine tS T h hr (x := so) (rk_so (t := { t with f := fClosed t.f i x.1 }) hfc) ?_
    rw [hsw]
    refine slS_h (s := so) (sz := 2) (vs := opV t.nest t.sc) h (by decide) (by omega) (by omega) fun d1 hd1 h => ?_
    have ev1 : ((opV t.nest t.sc).drop ((0 : Int).toNat * 2)).take (((l.length : Int).toNat - (0 : Int).toNat) * 2) = opV t.nest l := by
      rw [Int.toNat_natCast, show (0 : Int).toNat = 0 from rfl, Nat.zero_mul, List.drop_zero, Nat.sub_zero, esc]
      show (opV t.nest l ++ [Value.bool x.1, Value.int .i64 ((t.nest + 1 + l.length : Nat) : Int)]).take (l.length * 2) = _
      rw [show l.length * 2 = (opV t.nest l).length by rw [opV_len]; omega, List.take_left]
    rw [ev1] at h
    refine nn_i ?_
    refine tC T h hr hrk2 (j := 20) (v := .slice d1.a d1.n d1.c) (by decide) rfl fun w214 h => ?_
    rw [rk_setso (t := { t with f := fClosed t.f i x.1 }) hfc] at h
    have hrk3 := rk_len (t := { t with f := fClosed t.f i x.1 }) (so := d1) (sk := sk) hfc hb
    refine drew_h h fun w215 h => ?_
    refine nn_i ?_
    refine tS T h hr (x := sk) (rk_sk (t := { t with f := fClosed t.f i x.1 }) hfc) ?_
    refine nn_i ?_
    refine tS T h hr (x := sk) (rk_sk (t := { t with f := fClosed t.f i x.1 }) hfc) ?_
    rw [hkw]
    refine slS_h (s := sk) (sz := 1) (vs := kV t.sc) h (by decide) (by omega) (by omega) fun d2 hd2 h => ?_
    have ev2 : ((kV t.sc).drop ((0 : Int).toNat * 1)).take (((l.length : Int).toNat - (0 : Int).toNat) * 1) = kV l := by
      rw [Int.toNat_natCast, show (0 : Int).toNat = 0 from rfl, Nat.zero_mul, List.drop_zero, Nat.sub_zero, esc]
      show (kV l ++ [Value.int .i64 x.2]).take (l.length * 1) = _
      rw [show l.length * 1 = (kV l).length by rw [kV_len]; omega, List.take_left]
    rw [ev2] at h
    refine nn_i ?_
    refine tC T h hr hrk3 (j := 21) (v := .slice d2.a d2.n d2.c) (by decide) rfl fun w222 h => ?_
    rw [rk_setsk (t := { t with f := fClosed t.f i x.1 }) hfc] at h
    exact hgo { t with f := fClosed t.f i x.1, sc := l } (Mc.told { m with steps := m.steps + 1 } t.row x.1) _ d1 d2 (by rw [hstp]; unfold act; rw [if_neg h8, if_neg h910, if_neg h11, if_pos h12, esc]; rfl) ((h.rm 0 rfl).rm 0 rfl)
  have h12 : ¬ i.getD 0 0 = 12 := by simpa using ho
  refine iteB_i (fun ho => ?_) fun ho => ?_
  · have h13 : i.getD 0 0 = 13 := by simpa using ho
    refine drew_h h fun w223 h => ?_
    refine nn_i ?_
    refine tS T h hr (x := so) (rk_so hf) ?_
    refine nn_i ?_
    refine tS T h hr (x := so) (rk_so hf) ?_
    rw [hsw]
    refine ixS_h (sz := 2) (s := so) (vs := opV t.nest t.sc) h (by decide) (by omega) (by omega) fun ga oa _ _ hst => ?_
    simp only [Int.toNat_natCast] at hst
    refine hst h inferInstance 0 (.bool true) _ (by decide) rfl fun w229 h => ?_
    have eset : (opV t.nest t.sc).set (l.length * 2 + 0) (.bool true) = opV t.nest ((true, x.2) :: l) := by
      rw [esc]
      unfold opV
      rw [List.set_append_right _ _ (by rw [opV_len]; omega), opV_len, show l.length * 2 + 0 - 2 * l.length = 0 by omega]; rfl
    have ek : kV t.sc = kV ((true, x.2) :: l) := by rw [esc]; rfl
    rw [eset, ek] at h
    refine hOnK (t' := t) rfl h fun w241 h => ?_
    exact hgo { t with f := fOn t.f, sc := (true, x.2) :: l } { m with steps := m.steps + 1 } _ so sk (by rw [hstp]; unfold act; rw [if_neg h8, if_neg h910, if_neg h11, if_neg h12, if_pos h13, esc]; rfl) ((h.rm 0 rfl).rm 0 rfl)
  have h13 : ¬ i.getD 0 0 = 13 := by simpa using ho
  refine iteB_i (fun ho => ?_) fun ho => ?_
  · have h14 : i.getD 0 0 = 14 := by simpa using ho
    refine hOnK (t' := t) rfl h fun w241 h => ?_
    exact hgo { t with f := fOn t.f } { m with steps := m.steps + 1 } _ so sk (by rw [hstp]; unfold act; rw [if_neg h8, if_neg h910, if_neg h11, if_neg h12, if_neg h13, if_pos h14]) ((h.rm 0 rfl).rm 0 rfl)
  have h14 : ¬ i.getD 0 0 = 14 := by simpa using ho
  have hleave : ∀ (kind : Int) (w' : World), kind = (if i.getD 0 0 = 15 then 3 else 2) → St w0 w' (blk g35 [.bool x.1, .int .i64 ((t.nest + 1 + l.length : Nat) : Int)] :: blk g14 (ints i) :: RS gm ps ss sr F (m.steps + 1) 0 Q { t with f := fOn t.f } so sk b m.rows R) →
      drew w' fun w248 => ldI .i64 w248 (Addr.add ⟨g14, 0, none⟩ 1) fun i249 => nn (some ⟨g1, o, none⟩) fun a250 => ixP (Addr.add (Addr.add a250 0) 2) 8 i249 1 fun a251 => ldI .i64 w248 a251 fun i252 => pelotonref06_Machine_ends (some ⟨gm, 0, none⟩) kind i252 w248 fun _u w253 => (k () w253) := by
    intro kind w' hkind h
    refine drew_h h fun w248 h => ?_
    refine ldI_h (g := g14) (o := 0 + 1) h (ints_getD (by omega)) ?_
    refine nn_i ?_
    refine hrgn (t' := { t with f := fOn t.f }) hOnf h hregs.1.1 hregs.1.2 2 (by decide) ?_
    refine rends_s (m := { m with steps := m.steps + 1 }) (t := { t with f := fOn t.f }) ((h.rm 0 rfl).rm 0 rfl) hQ hOnf hb hI.row fun ss' w' h => ?_
    rw [hkind] at h
    exact hfin _ _ _ (by rw [hstp]; unfold act; rw [if_neg h8, if_neg h910, if_neg h11, if_neg h12, if_neg h13, if_neg h14]) (hdrop2 h)
  refine iteB_i (fun ho => ?_) fun ho => ?_
  · have h15 : i.getD 0 0 = 15 := by simpa using ho
    exact hOnK (kk := fun _ w247 => drew w247 fun w248 => ldI .i64 w248 (Addr.add ⟨g14, 0, none⟩ 1) fun i249 => nn (some ⟨g1, o, none⟩) fun a250 => ixP (Addr.add (Addr.add a250 0) 2) 8 i249 1 fun a251 => ldI .i64 w248 a251 fun i252 => pelotonref06_Machine_ends (some ⟨gm, 0, none⟩) 3 i252 w248 fun _u w253 => (k () w253)) (t' := t) rfl h fun w241 h => hleave 3 _ (by rw [if_pos h15]) h
  · have h15 : ¬ i.getD 0 0 = 15 := by simpa using ho
    exact hOnK (kk := fun _ w247 => drew w247 fun w248 => ldI .i64 w248 (Addr.add ⟨g14, 0, none⟩ 1) fun i249 => nn (some ⟨g1, o, none⟩) fun a250 => ixP (Addr.add (Addr.add a250 0) 2) 8 i249 1 fun a251 => ldI .i64 w248 a251 fun i252 => pelotonref06_Machine_ends (some ⟨gm, 0, none⟩) 2 i252 w248 fun _u w253 => (k () w253)) (t' := t) rfl h fun w241 h => hleave 2 _ (by rw [if_neg h15]) h
end
end Go.Proofs.Ytgkfbagclkjilaa
