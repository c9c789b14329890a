/-
  Layer 6, the document's answer: a run; the law of runs.
-/
import Derived.Test.YtgkfbagclkjilaaSx
import Derived.Test.YtgkfbagclkjilaaSl
set_option linter.unusedSimpArgs false
set_option linter.unusedVariables false
set_option maxRecDepth 100000
namespace Go.Proofs.Ytgkfbagclkjilaa
open Go Go.Ev Go.Proofs
open Go.Proofs.Ytgkfbagclkjilaa.Fr (fTo fOn fPlain fForked fJoined fClosed fChild fRoot fR isB fTo_len fOn_len fPlain_len fForked_len fJoined_len fClosed_len)
open Go.Proofs.Ytgkfbagclkjilaa.Ck (opI Walk Accs needsOf isGoes heldL depths stepD handlesOk subBits scopesOk forks)
/-- a round of the document's loop -/
def rbody (gm : Nat) (J : Unit → World → Prop) : (Unit → World → Prop) → Unit → World → Prop := fun C14 u15 w16 =>
          joinP (S := Bool) (fun J17 =>
            ldS w16 (Addr.add ⟨gm, 0, none⟩ 1) fun s18 =>
            iteB (decide (((s18.n : Nat) : Int) > (0 : Int))) (
              ldI .i64 w16 (Addr.add ⟨gm, 0, none⟩ 5) fun i19 =>
              (J17 (i19 == (0 : Int)) w16)) (
              (J17 false w16))) fun b20 w21 =>
          iteB b20 (
            pelotonref06_Machine_step (some ⟨gm, 0, none⟩) w21 fun _u w22 =>
            (C14 () w22)) (
            (J () w21))
section
variable {w0 w : World} {gm : Nat} {ps : Sl} {P : List FnR} {F : Int}
theorem rround {J : Unit → World → Prop} {N : Nat} {ss sr : Sl} {st : Int} {rest e : List Value} {rows : List Rw} {R : List HP} (h : St w0 w (RL gm ps ss sr F st 0 (rest ++ e) rows R)) (he : e.length = 29) (hs : pelotonref06_Machine_step (some ⟨gm, 0, none⟩) w fun _u w22 => iterP (rbody gm J) N () w22) : iterP (rbody gm J) (N + 1) () w := by
  have hn := h.slen (sz := 29) (s := ss) (vs := rest ++ e)
  rw [List.length_append, he] at hn
  unfold iterP rbody
  refine joinP_i (fun b w' => b = true ∧ w' = w) (fun J hJ => ?_) fun b w' hbw => ?_
  · refine ldS_h (g := gm) (o := 0 + 1) h rfl (iteB_t (by rw [decide_eq_true_eq]; dsimp only; omega) ?_)
    exact ldI_h (g := gm) (o := 0 + 5) h rfl (hJ _ _ ⟨rfl, rfl⟩)
  rw [hbw.1, hbw.2]
  exact iteB_t rfl hs
theorem rloop (hF : Funcs5 w0 ps P) (hA : Accs P) {J : Unit → World → Prop} {t : Tk} {m : Mc} {r : Res} (hG : Goes P F t m r) : ∃ n : Nat, ∀ (N : Nat) (w : World) (ss sr so sk : Sl) (Q : Option Pt) (q : Nat) (b : List Int) (R : List HP), Inv P t m → Sz F t m → PtOK q Q → b.length = 5 → q ≤ t.nest →
    St w0 w (RS gm ps ss sr F m.steps 0 Q t so sk b m.rows R) →
    (∀ m' ss' sr' w', r = .ok m' → St w0 w' (RL gm ps ss' sr' F m'.steps 0 (parF b t.row Q) m'.rows R) → iterP (rbody gm J) N () w') →
    (∀ e ss' sr' st stack rows w' R', r = .bad e → St w0 w' (RL gm ps ss' sr' F st e stack rows R') → iterP (rbody gm J) N () w') → iterP (rbody gm J) (n + N) () w := by
  have hNI : ∀ g ∈ P, InI g.needs := fun g hg => (hF.code g hg).1
  induction hG with
  | fin hs =>
    refine ⟨1, fun N w ss sr so sk Q q b R hI hz hQ hb hq h hok hbad => ?_⟩
    rw [Nat.add_comm]
    refine rround h (rk_len hI.len hb) (rstep_s hF hA hI hz hQ hb hq h (fun m' ss' w' e h => ?_) (fun _ _ e => by rw [hs] at e; cases e) (fun _ _ _ _ _ e => by rw [hs] at e; cases e) (fun _ _ _ _ _ _ _ _ e => by rw [hs] at e; cases e))
    rw [hs] at e; cases e
    exact hok _ _ _ _ rfl h
  | bad hs =>
    refine ⟨1, fun N w ss sr so sk Q q b R hI hz hQ hb hq h hok hbad => ?_⟩
    rw [Nat.add_comm]
    refine rround h (rk_len hI.len hb) (rstep_s hF hA hI hz hQ hb hq h (fun _ _ _ e => by rw [hs] at e; cases e) (fun _ _ e h => ?_) (fun _ _ _ _ _ e => by rw [hs] at e; cases e) (fun _ _ _ _ _ _ _ _ e => by rw [hs] at e; cases e))
    rw [hs] at e; cases e
    exact hbad _ _ _ _ _ _ _ _ rfl h
  | go hs hg ih =>
    obtain ⟨n, ih⟩ := ih
    refine ⟨n + 1, fun N w ss sr so sk Q q b R hI hz hQ hb hq h hok hbad => ?_⟩
    have hst := stp_go hs
    rw [show n + 1 + N = (n + N) + 1 by omega]
    refine rround h (rk_len hI.len hb) (rstep_s hF hA hI hz hQ hb hq h (fun _ _ _ e => by rw [hs] at e; cases e) (fun _ _ e => by rw [hs] at e; cases e) (fun t' m' w' so' sk' e h => ?_) (fun _ _ _ _ _ _ _ _ e => by rw [hs] at e; cases e))
    rw [hs] at e; cases e
    refine ih N _ ss sr so' sk' Q q b R (inv_go hA hI hs).1 (sz_go hz hI.row hs) hQ hb (by rw [hst.2.2.2.1]; exact hq) h (fun m' ss' sr' w' e h => ?_) hbad
    rw [hst.2.2.1] at h
    exact hok _ _ _ _ e h
  | forkBad hs hg ih =>
    rename_i t m c m1 i e
    obtain ⟨n, ih⟩ := ih
    refine ⟨n + 1, fun N w ss sr so sk Q q b R hI hz hQ hb hq h hok hbad => ?_⟩
    rw [show n + 1 + N = (n + N) + 1 by omega]
    refine rround h (rk_len hI.len hb) (rstep_s hF hA hI hz hQ hb hq h (fun _ _ _ e => by rw [hs] at e; cases e) (fun _ _ e => by rw [hs] at e; cases e) (fun _ _ _ _ _ e => by rw [hs] at e; cases e) (fun c' m1' i' ss' sr' so2 sk2 w' e h5 h => ?_))
    rw [hs] at e; cases e
    obtain ⟨k1, k2⟩ := inv_child hA hNI hI hs
    obtain ⟨q1, q2, q3, q4, q5, hc, hrows⟩ := stp_fork hs
    have hsl : 1 ≤ _ := List.length_pos_iff.2 hI.sc
    refine ih N _ ss' sr' so2 sk2 (some ⟨parV Q, t, so, sk, b⟩) (q + 1) _ _ k1 (sz_fork hz hs) ⟨hI.len, hb, q, rfl, hQ.len⟩ h5 (by rw [hc]; dsimp only; omega) h (fun m' ss' sr' w' e h => by cases e) (fun e ss' sr' st stack rows w' R' er h => hbad e ss' sr' st stack rows w' R' (by cases er; rfl) h)
  | fork hs h1 h2 ih1 ih2 =>
    rename_i t m c m1 i m2 r
    obtain ⟨n1, ih1⟩ := ih1
    obtain ⟨n2, ih2⟩ := ih2
    refine ⟨n1 + n2 + 1, fun N w ss sr so sk Q q b R hI hz hQ hb hq h hok hbad => ?_⟩
    rw [show n1 + n2 + 1 + N = (n1 + (n2 + N)) + 1 by omega]
    refine rround h (rk_len hI.len hb) (rstep_s hF hA hI hz hQ hb hq h (fun _ _ _ e => by rw [hs] at e; cases e) (fun _ _ e => by rw [hs] at e; cases e) (fun _ _ _ _ _ e => by rw [hs] at e; cases e) (fun c' m1' i' ss' sr' so2 sk2 w' e h5 h => ?_))
    rw [hs] at e; cases e
    obtain ⟨k1, k2⟩ := inv_child hA hNI hI hs
    obtain ⟨k3, k4⟩ := goes_more hA hNI h1 rfl k1
    obtain ⟨k5, k6⟩ := inv_forked hA hI hs k3 k4
    obtain ⟨z1, z2, z3, z4, z5⟩ := goes_sz hA hNI h1 rfl k1 (sz_fork hz hs)
    obtain ⟨q1, q2, q3, q4, q5, hc, hrows⟩ := stp_fork hs
    have hle := h1.le rfl
    have hop := hz.op
    have hsl : 1 ≤ _ := List.length_pos_iff.2 hI.sc
    refine ih1 (n2 + N) _ ss' sr' so2 sk2 (some ⟨parV Q, t, so, sk, b⟩) (q + 1) _ _ k1 (sz_fork hz hs) ⟨hI.len, hb, q, rfl, hQ.len⟩ h5 (by rw [hc]; dsimp only; omega) h (fun m' ss' sr' w' e h => ?_) (fun e ss' sr' st stack rows w' R' er h => by cases er)
    cases e
    exact ih2 N _ ss' sr' so sk Q q b R k5 ⟨z1, z2, z3, z4, z5, ⟨hop.1, by show t.opened ≤ m2.steps; omega⟩⟩ hQ hb hq h hok hbad
theorem raccepts_s {k : Bool → World → Prop} (hF : Funcs5 w ps P) (hfew : Ck.Few P) (hc : ∀ w', St w w' [] → k ((Ck.progF P).2.2 == 0) w') : pelotonref04_Accepts #[.slice ps.a ps.n ps.c] w k := by
  unfold pelotonref04_Accepts pelotonref04_Accepts_b
  refine newC_h (.nil w) fun g w2 h => ldW_h (g := g) h rfl (Ck.rprogram_s (hF.ext h.ext) hfew fun w' h2 => ?_)
  have h := h.on h2.ext
  exact hc w' h.all
theorem rrun_s {fuel : Int} {k : Sl × Int × Int → World → Prop} (hF : Funcs5 w ps P) (hfew : Ck.Few P) (hc : ∀ s rows n e w', St w w' [slc 7 s (rowsV rows)] → RunR P fuel rows n e → k (s, (n, e)) w') : pelotonref06_Run #[.slice ps.a ps.n ps.c] fuel w k := by
  have hNI : ∀ g ∈ P, InI g.needs := fun g hg => (hF.code g hg).1
  unfold pelotonref06_Run pelotonref06_Run_b
  refine newC_h (.nil w) fun g1 w2 h => ?_
  refine ldW_h (g := g1) h rfl ?_
  refine raccepts_s (hF.ext h.ext) hfew fun w5 h2 => ?_
  have h := h.on h2.ext
  refine iteB_i (fun hb => ?_) fun hb => ?_
  · have hno : ¬ Accs P := fun q => by rw [(Ck.accs_iff.2 q)] at hb; cases hb
    exact hc ⟨none, 0, 0⟩ [] 0 24 _ ((h.all).nilS 7) (.inl ⟨hno, rfl, rfl, rfl⟩)
  have hA : Accs P := Ck.accs_iff.1 (by simpa using hb)
  refine iteB_i (fun hb => ?_) fun hb => ?_
  · exact hc ⟨none, 0, 0⟩ [] 0 10 _ ((h.all).nilS 7) (.inr (.inl ⟨hA, by simpa using hb, rfl, rfl, rfl⟩))
  have hf0 : 0 ≤ fuel ∧ fuel ≤ 1048576 := by
    rw [Bool.or_eq_false_iff, decide_eq_false_iff_not, decide_eq_false_iff_not] at hb
    omega
  obtain ⟨r, hG⟩ := Goes.total P fuel _ t0 m0 (Nat.le_refl _)
  refine ldW_h (g := g1) h rfl ?_
  refine spl_i #[(.slice ps.a ps.n ps.c), (.slice none 0 0), (.slice none 0 0), (.int .i64 (0 : Int)), (.int .i64 (0 : Int)), (.int .i64 (0 : Int))] rfl (by kernel_rfl) ?_
  refine newC_h h fun gm w9 h => ?_
  refine Fr.rroot_s fun w11 he => ?_
  have h := ext_of h he
  have h := (h.nilS 7).nilS 29
  have h : St w w11 (RL gm ps ⟨none, 0, 0⟩ ⟨none, 0, 0⟩ fuel 0 0 [] [] []) := by
    have h2 : St w w11 (slc 29 ⟨none, 0, 0⟩ [] :: slc 7 ⟨none, 0, 0⟩ (rowsV []) :: blk gm [.slice ps.a ps.n ps.c, .slice none 0 0, .slice none 0 0, .int .i64 0, .int .i64 fuel, .int .i64 0] :: [blk g1 [.slice ps.a ps.n ps.c]]) := h
    exact (h2.rm 3 rfl).perm (by simp only [List.eraseIdx]; repeat' (first | exact List.Perm.refl _ | refine perm_f 0 rfl ?_ | refine perm_f 1 rfl ?_ | refine perm_f 2 rfl ?_ | refine perm_f 3 rfl ?_ | refine perm_f 4 rfl ?_ | refine perm_f 5 rfl ?_ | refine perm_f 6 rfl ?_ | refine perm_f 7 rfl ?_))
  refine radd_s (q := 0) (nest := 0) (b := [0, 0, 0, 0, 0]) h rfl rfl (by simp) rfl (by decide) (by decide) fun w12 ss sr so sk h => ?_
  have h : St w w12 (RS gm ps ss sr fuel m0.steps 0 none t0 so sk [0, 0, 0, 0, 0] m0.rows []) := h
  refine joinP_i (fun _ w' => ∃ e ss' sr' st stack rows R, St w w' (RL gm ps ss' sr' fuel st e stack rows R) ∧ ((e = 0 ∧ r = .ok ⟨rows, st⟩ ∧ R = []) ∨ (e ≠ 0 ∧ r = .bad e))) (fun J hJ => ?_) fun _ w24 hfin => ?_
  · obtain ⟨n, hl⟩ := rloop (gm := gm) (ps := ps) (J := J) hF hA hG
    refine ⟨n + 1, ?_⟩
    refine hl 1 w12 ss sr so sk none 0 [0, 0, 0, 0, 0] [] (inv_root hA hNI) (sz_root hf0.1 hf0.2) rfl rfl (Nat.zero_le _) h (fun m' ss' sr' w' er h => ?_) (fun e ss' sr' st stack rows w' R' er h => ?_)
    · unfold iterP rbody
      have hn := h.slen (sz := 29) (s := ss') (vs := [])
      simp only [List.length_nil] at hn
      refine joinP_i (fun b w2 => b = false ∧ w2 = w') (fun J hJ => ?_) fun b w2 hbw => ?_
      · exact ldS_h (g := gm) (o := 0 + 1) h rfl (iteB_f (by rw [decide_eq_false_iff_not]; dsimp only; omega) (hJ _ _ ⟨rfl, rfl⟩))
      rw [hbw.1, hbw.2]
      exact iteB_f rfl (hJ _ _ ⟨0, ss', sr', m'.steps, _, m'.rows, _, h, .inl ⟨rfl, er, rfl⟩⟩)
    · unfold iterP rbody
      have he : e ≠ 0 := by rw [er] at hG; rcases goes_bad hG rfl with q | q <;> omega
      refine joinP_i (fun b w2 => b = false ∧ w2 = w') (fun J hJ => ?_) fun b w2 hbw => ?_
      · refine ldS_h (g := gm) (o := 0 + 1) h rfl (iteB_i (fun _ => ?_) fun _ => hJ _ _ ⟨rfl, rfl⟩)
        exact ldI_h (g := gm) (o := 0 + 5) h rfl (hJ _ _ ⟨by simpa using he, rfl⟩)
      rw [hbw.1, hbw.2]
      exact iteB_f rfl (hJ _ _ ⟨e, ss', sr', st, stack, rows, R', h, .inr ⟨he, er⟩⟩)
  obtain ⟨e, ss', sr', st, stack, rows, R, h, hr⟩ := hfin
  refine ldI_h (g := gm) (o := 0 + 5) h rfl ?_
  refine iteB_i (fun hb => ?_) fun hb => ?_
  · have he : e ≠ 0 := by simpa using hb
    rcases hr with ⟨q, _, _⟩ | ⟨_, hr⟩
    · exact (he q).elim
    refine drew_h h fun w26 h => ldI_h (g := gm) (o := 0 + 5) h rfl ?_
    exact hc ⟨none, 0, 0⟩ [] 0 e _ ((h.all).nilS 7) (.inr (.inr ⟨hA, hf0.1, hf0.2, .inr ⟨by rw [hr] at hG; exact hG, rfl, rfl⟩⟩))
  · have he : e = 0 := by simpa using hb
    rcases hr with ⟨_, hr, rfl⟩ | ⟨q, _⟩
    · refine drew_h h fun w28 h => ?_
      refine ldS_h (g := gm) (o := 0 + 2) h rfl (ldI_h (g := gm) (o := 0 + 3) h rfl ?_)
      exact hc sr' rows st 0 _ ((h.rm 0 rfl).rm 0 rfl) (.inr (.inr ⟨hA, hf0.1, hf0.2, .inl ⟨by rw [hr] at hG; exact hG, rfl⟩⟩))
    · exact (q he).elim
theorem law_runs {fuel : Int} {k : Bool → World → Prop} (hF : Funcs5 w ps P) (hc : ∀ w', St w w' [] → k true w') : pelotonlaw06_SerialRuns #[.slice ps.a ps.n ps.c] fuel w k := by
  have hN : ∀ g ∈ P, InI g.needs := fun g hg => (hF.code g hg).1
  unfold pelotonlaw06_SerialRuns pelotonlaw06_SerialRuns_b
  refine newC_h (.nil w) fun g1 w2 h => ?_
  have h : St w w2 [blk g1 [.slice ps.a ps.n ps.c]] := h
  refine joinP_i (fun b w' => St w w' [blk g1 [.slice ps.a ps.n ps.c]] ∧ (b = false → Ck.Few P)) (fun J hJ => ?_) fun b w11 hbw => ?_
  · refine ldW_h (g := g1) h rfl ?_
    refine small_s (hF.ext h.ext) fun b4 w5 h2 hsm => ?_
    have h := h.on h2.ext
    refine iteB_i (fun hb => ?_) fun hb => ?_
    · refine iteB_i (fun hb => hJ _ _ ⟨h, fun q => by cases q⟩) fun hb => ?_
      refine ldW_h (g := g1) h rfl ?_
      refine Ck.few_s (hF.ext h.ext) fun b w9 h2 hb => ?_
      exact hJ _ _ ⟨h.on h2.ext, fun q => hb (by simpa using q)⟩
    · exact hJ _ _ ⟨h, fun _ => (hsm (by simpa using hb)).1⟩
  obtain ⟨h, hp⟩ := hbw
  refine iteB_i (fun hb => awake_s fun w7 h2 => hc _ (h.on h2.ext).all) fun hb => ?_
  have hfew := hp hb
  refine ldW_h (g := g1) h rfl ?_
  refine run_s (hF.ext h.ext) fun s1 r1 n1 e1 w16 h2 hR1 => ?_
  have h := h.join h2
  simp only [List.cons_append, List.nil_append] at h
  refine ldW_h (g := g1) h rfl ?_
  refine rrun_s (hF.ext h.ext) hfew fun s2 r2 n2 e2 w19 h2 hR2 => ?_
  have h := h.join h2
  simp only [List.cons_append, List.nil_append] at h
  obtain ⟨rfl, rfl, rfl⟩ := hR1.det hR2
  have hlen : r1.length ≤ 2000000 := by
    by_cases he : e1 = 0
    · obtain ⟨hA, h0, h1, hG⟩ := hR1.ok he
      have d := goes_sz hA hN hG rfl (inv_root hA hN) (sz_root h0 h1)
      dsimp only at d; omega
    · rw [(hR1.no he).1]; simp
  refine rows_same (s := s1) (s' := s2) (rs := r1) h (by omega) fun w21 h => ?_
  refine iteB_t ?_ (awake_s fun w22 h2 => hc _ (h.on h2.ext).all)
  simp
end
end Go.Proofs.Ytgkfbagclkjilaa
