/-
  Layer 6: a step.
-/
import Derived.Test.YtgkfbagclkjilaaSf
set_option linter.unusedSimpArgs false
set_option linter.unusedVariables false
set_option maxRecDepth 100000
namespace Go.Proofs.Ytgkfbagclkjilaa
open Go Go.Ev Go.Proofs
open Go.Proofs.Ytgkfbagclkjilaa.Fr (fTo fOn fPlain fForked fJoined fClosed fChild fRoot fR isB fTo_len fOn_len fPlain_len fForked_len fJoined_len fClosed_len)
open Go.Proofs.Ytgkfbagclkjilaa.Ck (opI Walk Accs needsOf isGoes heldL depths stepD handlesOk subBits scopesOk forks)
section
variable {w0 w : World} {R : List HP} {gc gm gt : Nat} {ps : Sl} {P : List FnR} {F : Int} {t : Tk} {m : Mc} {s : Sl} {pi pl : Option Addr} {B : List (Bool × Int)} {q : Value → World → Prop}
theorem step_s {run : RunT} {k : Unit → World → Prop} (hF : Funcs5 w0 ps P) (hA : Accs P) (hI : Inv P t m) (hz : Sz F t m) (hnest : t.nest + 1 = B.length) (hoff : t.off = B.any (·.1)) (hB : ∀ w, St w0 w R → Chn w pi B)
    (h : St w0 w (SSL gc gm gt ps F t pi pl B.length m s false R))
    (hfin : ∀ m' w' t' pl', stp P F t m = .fin m' → St w0 w' (SSL gc gm gt ps F t' pi pl' B.length m' s true R) → t'.f.length = 19 → t'.row = t.row → k () w')
    (hbad : ∀ e w', stp P F t m = .bad e → St w0 w' R → q (.iface 45 (.int .i64 e)) w')
    (hgo : ∀ t' m' w' pl', stp P F t m = .go t' m' → St w0 w' (SSL gc gm gt ps F t' pi pl' B.length m' s false R) → k () w')
    (hforkR : ∀ c m1 i, stp P F t m = .fork c m1 i → ∀ w' R' kk, St w0 w' (MML gc gm ps F { m with steps := m.steps + 1 } s R') → (∀ w, St w0 w R' → Chn w pl (t.sc ++ B)) → (∀ w, St w0 w R' → St w0 w R) →
      (∀ w'' m2 s2, Goes P F c m1 (.ok m2) → St w0 w'' (MML gc gm ps F m2 s2 R') → kk ((c.row : Nat) : Int) w'') → run (agI c.f) t.row pl ⟨gc, 0, none⟩ w' q kk)
    (hforkK : ∀ c m1 i m2 s2 w3, stp P F t m = .fork c m1 i → Goes P F c m1 (.ok m2) → St w0 w3 (SSL gc gm gt ps F { t with f := fForked t.f i c.row } pi pl B.length m2 s2 false R) → k () w3) : stepOf run (some ⟨gm, 0, none⟩) (some ⟨gt, 0, none⟩) w q k := by
  obtain ⟨g, hv, ha⟩ := hI.at hA
  obtain ⟨hp0, hp1⟩ := at_pc ha
  have hf := hI.len
  have hmem := List.mem_of_getElem? ha.ins
  obtain ⟨_, hcd⟩ := hF.code g (List.mem_of_getElem? ha.at0)
  have h5 := (hcd.five _ hmem).1
  have hck := Ck.chk0 ha.chk
  have hregs := Fr.chk_regs (chk_fr ha.chk)
  have hs0 := hz.s0; have hsF := hz.sF; have hF0 := hz.F0
  generalize hi : insAt P t.f = i at ha hmem h5 hck hregs
  have hop0 : 0 ≤ i.getD 0 0 := hck.1
  have hop1 : i.getD 0 0 < 17 := hck.2.1
  unfold stepOf serial_machine_step_b
  refine joinP_i (fun z w' => ∃ g, z = (⟨g, 0, none⟩, 0) ∧ St w0 w' (blk g (ints i) :: SSL gc gm gt ps F t pi pl B.length m s false R)) (fun J hJ => ?_) ?_
  · refine drew_h h fun w2 h => ?_
    refine nn_i ?_
    refine ldA_h (n := 19) (g := gt) (o := 0 + 0) h (by rw [tsk_len hf]; decide) ?_
    rw [tsk_f hf]
    refine nn_i ?_
    refine ldA_h (n := 1) (g := gm) (o := 0 + 0) h (by simp) ?_
    refine ⟨?_, ?_⟩
    · refine next_s (hF.ext h.ext) hf hI.f0 ha.at0 hp0 ha.ins fun w8 he => ?_
      have h2 := ext_of h he
      refine newC_h h2 fun g9 w10 h2 => ?_
      refine samec_h (g := gm) (o := 0 + 0) h h2 (samec_h (g := gt) (o := 0 + 0) h h2 ?_)
      refine stW_h (g := g9) h2 rfl (by simp [agI, ints, h5]) (Ck.one_agI _) fun w11 h2 => ?_
      exact hJ _ _ ⟨g9, rfl, h2⟩
    · refine newC_h h fun g12 w13 h2 => ?_
      refine samec_h (g := gm) (o := 0 + 0) h h2 (samec_h (g := gt) (o := 0 + 0) h h2 ?_)
      refine next_s (hF.ext h2.ext) hf hI.f0 ha.at0 hp0 ha.ins fun w15 he => ?_
      have h2 := ext_of h2 he
      refine stW_h (g := g12) h2 rfl (by simp [agI, ints, h5]) (Ck.one_agI _) fun w16 h2 => ?_
      exact hJ _ _ ⟨g12, rfl, h2⟩
  rintro _ w18 ⟨g1, rfl, h⟩
  refine joinP_i (fun _ w' => w' = w18) (fun J hJ => iteB_f rfl (hJ _ _ rfl)) fun _ w21 e21 => ?_
  rw [e21]
  have hcB : Chn w18 pi B := hB w18 (((((h.rm 0 rfl).rm 0 rfl).rm 0 rfl).rm 0 rfl).rm 0 rfl |>.rm 0 rfl)
  refine joinP_i (fun b w' => b = (t.off && ((t.f.getD 18 0 == 0) || isPt (i.getD 0 0))) ∧ w' = w18) (fun J hJ => ?_) fun b36 w37 hb36 => ?_
  · refine nn_i ?_
    refine ldI_h (g := gt) (o := 0 + 0 + 18) h (tsk_get hf (by decide)) ?_
    refine iteB_i (fun hb => ?_) fun hb => ?_
    · refine nn_i ?_
      refine ldP_h (g := gt) (o := 0 + 20) h (tsk_pi hf) ?_
      refine cancel_s hcB (hJ _ _ ⟨?_, rfl⟩)
      rw [hoff, show (t.f.getD 18 0 == 0) = true from hb, Bool.true_or, Bool.and_true]
    · refine ldI_h (g := g1) (o := 0 + 0) h (ints_getD (by omega)) ?_
      refine point_s hop0 hop1 ?_
      refine iteB_i (fun hb2 => ?_) fun hb2 => ?_
      · refine nn_i ?_
        refine ldP_h (g := gt) (o := 0 + 20) h (tsk_pi hf) ?_
        refine cancel_s hcB (hJ _ _ ⟨?_, rfl⟩)
        rw [hoff, show isPt (i.getD 0 0) = true from hb2, Bool.or_true, Bool.and_true]
      · refine hJ _ _ ⟨?_, rfl⟩
        rw [show (t.f.getD 18 0 == 0) = false from hb, show isPt (i.getD 0 0) = false from hb2, Bool.or_false, Bool.and_false]
  rw [hb36.1, hb36.2]
  refine iteB_i (fun hc => ?_) fun hc => ?_
  · refine end_s (m := m) (h.rm 0 rfl) hI.row hf fun w' h => ?_
    exact hfin _ _ _ _ (by unfold stp; rw [hi, if_pos hc]) h hf rfl
  have hc' : ¬ (t.off && ((t.f.getD 18 0 == 0) || isPt (i.getD 0 0))) = true := by rw [hc]; decide
  refine drew_h h fun w39 h => ?_
  refine nn_i ?_
  refine ldI_h (g := gm) (o := 0 + 2) h rfl ?_
  refine nn_i ?_
  refine ldI_h (g := gm) (o := 0 + 1) h rfl ?_
  have hRall : ∀ {w'}, St w0 w' (blk g1 (ints i) :: SSL gc gm gt ps F t pi pl B.length m s false R) → St w0 w' R := fun h => ((((((h.rm 0 rfl).rm 0 rfl).rm 0 rfl).rm 0 rfl).rm 0 rfl).rm 0 rfl)
  refine joinP_i (fun _ w' => w' = w39 ∧ m.steps < F) (fun J hJ => ?_) fun _ w46 e46 => ?_
  · refine iteB_i (fun hb => ?_) fun hb => ?_
    · have hb : m.steps ≥ F := of_decide_eq_true hb
      exact hbad 22 _ (by unfold stp; rw [hi, if_neg hc', if_pos hb]) (hRall h)
    · have hb : ¬ m.steps ≥ F := of_decide_eq_false hb
      exact hJ _ _ ⟨rfl, by omega⟩
  rw [e46.1]
  have hlt := e46.2
  have hnF : ¬ m.steps ≥ F := by omega
  refine joinP_i (fun b w' => w' = w39 ∧ b = ((i.getD 0 0 == 8) || (i.getD 0 0 == 11))) (fun J hJ => ?_) fun b50 w51 e51 => ?_
  · refine ldI_h (g := g1) (o := 0 + 0) h (ints_getD (by omega)) ?_
    refine iteB_i (fun hb => ?_) fun hb => ?_
    · exact hJ _ _ ⟨rfl, by rw [show (i.getD 0 0 == 8) = true from hb]; rfl⟩
    · refine ldI_h (g := g1) (o := 0 + 0) h (ints_getD (by omega)) (hJ _ _ ⟨rfl, ?_⟩)
      rw [show (i.getD 0 0 == 8) = false from hb]; rfl
  rw [e51.1, e51.2]
  have hcP : Chn w39 pl (t.sc ++ B) := seg_chn (hB w39) (((h.rm 0 rfl).rm 0 rfl).rm 0 rfl |>.rm 0 rfl |>.perm (by simp only [List.eraseIdx]; exact (List.Perm.refl _)) |> fun h : St w0 w39 (seg B.length pi pl t.sc :: blk gc [.pointer (some ⟨gm, 0, none⟩)] :: R) => h.rm 1 rfl)
  refine joinP_i (fun _ w' => w' = w39 ∧ ¬ ((i.getD 0 0 = 8 ∨ i.getD 0 0 = 11) ∧ 32 ≤ t.nest + t.sc.length)) (fun J hJ => ?_) fun _ w57 e57 => ?_
  · refine iteB_i (fun hb => ?_) fun hb => ?_
    · have hb : i.getD 0 0 = 8 ∨ i.getD 0 0 = 11 := by simpa using hb
      refine nn_i ?_
      refine ldP_h (g := gt) (o := 0 + 21) h (tsk_pl hf) ?_
      obtain ⟨x, l, e⟩ : ∃ x l, t.sc ++ B = x :: l := by
        cases hs : t.sc with
        | nil => exact (hI.sc hs).elim
        | cons x l => exact ⟨x, l ++ B, rfl⟩
      rw [e] at hcP
      have el : l.length + 1 = t.sc.length + B.length := by have := congrArg List.length e; simp at this; omega
      refine deep_s hcP (fun hd => ?_) fun hd => ?_
      · exact hbad 23 _ (by unfold stp; rw [hi, if_neg hc', if_neg hnF, if_pos ⟨hb, by omega⟩]) (hRall h)
      · exact hJ _ _ ⟨rfl, fun q => by omega⟩
    · exact hJ _ _ ⟨rfl, fun q => by
        rcases q.1 with q | q <;> rw [q] at hb <;> cases hb⟩
  rw [e57.1]
  have hnd := e57.2
  refine nn_i ?_
  refine ldI_h (g := gm) (o := 0 + 2) h rfl ?_
  refine nn_i ?_
  refine stC_h (g := gm) (o := 0 + 2) (v := .int .i64 (IntKind.wrap .i64 (m.steps + 1))) h rfl (by simp) fun w61 h => ?_
  rw [wrap_id ⟨by omega, by omega⟩] at h
  have h : St w0 w61 (blk g1 (ints i) :: SSL gc gm gt ps F t pi pl B.length { m with steps := m.steps + 1 } s false R) := h
  have hfl : (fPlain t.f i).1.length = 19 := fPlain_len hf
  refine joinP_i (fun z w' => ∃ g2, z = (⟨g2, 0, none⟩, (fPlain t.f i).2) ∧ St w0 w' (blk g2 (ints (fPlain t.f i).1) :: blk g1 (ints i) :: SSL gc gm gt ps F t pi pl B.length { m with steps := m.steps + 1 } s false R)) (fun J hJ => ?_) ?_
  · refine drew_h h fun w63 h => ?_
    refine nn_i ?_
    refine ldA_h (n := 19) (g := gt) (o := 0 + 0) h (by rw [tsk_len hf]; decide) ?_
    rw [tsk_f hf]
    refine ldW_h (g := g1) h (by simp [ints, h5]) ?_
    refine ⟨?_, ?_⟩
    · refine Fr.plain_F hf h5 fun w68 he => ?_
      have h2 := ext_of h he
      refine newC_h h2 fun g69 w70 h2 => ?_
      refine samec_h (g := g1) (o := 0) h h2 (samec_h (g := gt) (o := 0 + 0) h h2 ?_)
      refine stW_h (g := g69) h2 rfl (by simp [agI, ints, hfl]) (Ck.one_agI _) fun w71 h2 => ?_
      exact hJ _ _ ⟨g69, rfl, h2⟩
    · refine newC_h h fun g72 w73 h2 => ?_
      refine samec_h (g := g1) (o := 0) h h2 (samec_h (g := gt) (o := 0 + 0) h h2 ?_)
      refine Fr.plain_F hf h5 fun w75 he => ?_
      have h2 := ext_of h2 he
      refine stW_h (g := g72) h2 rfl (by simp [agI, ints, hfl]) (Ck.one_agI _) fun w76 h2 => ?_
      exact hJ _ _ ⟨g72, rfl, h2⟩
  rintro _ w78 ⟨g2, rfl, h⟩
  refine iteB_i (fun hp => ?_) fun hp => ?_
  · have hp : (fPlain t.f i).2 = true := hp
    refine ldW_h (g := g2) h (by simp [ints, hfl]) ?_
    refine nn_i ?_
    refine stA_h (n := 19) (g := gt) (o := 0 + 0) (vs := agI (fPlain t.f i).1) h (by simp [agI, ints, hfl]) (by rw [tsk_len hf]; decide) (Ck.one_agI _) fun w81 h => ?_
    rw [tsk_setf hf hfl] at h
    exact hgo { t with f := (fPlain t.f i).1 } { m with steps := m.steps + 1 } _ pl (by unfold stp; rw [hi, if_neg hc', if_neg hnF, if_neg hnd, if_pos hp]) ((h.rm 0 rfl).rm 0 rfl)
  have hp : (fPlain t.f i).2 = false := hp
  have hop := plain_not ha.chk hp
  have hstp : stp P F t m = act P i t { m with steps := m.steps + 1 } := by unfold stp; rw [hi, if_neg hc', if_neg hnF, if_neg hnd, if_neg (by rw [hp]; decide)]
  refine newC_h h fun g82 w83 h => ?_
  refine drew_h h fun w84 h => ?_
  refine ldI_h (g := g1) (o := 0 + 0) h (ints_getD (by omega)) ?_
  have hS : ∀ {w'}, St w0 w' (blk g82 (#[(.func (.func n_serial_machine_fork) #[(.pointer (some ⟨gm, 0, none⟩))] #[]), (.func (.func n_serial_machine_join) #[(.pointer (some ⟨gm, 0, none⟩))] #[]), (.func (.func n_serial_machine_join) #[(.pointer (some ⟨gm, 0, none⟩))] #[]), (.func (.func n_serial_machine_open) #[(.pointer (some ⟨gm, 0, none⟩))] #[]), (.func (.func n_serial_machine_close) #[(.pointer (some ⟨gm, 0, none⟩))] #[]), (.func (.func n_serial_machine_cancel) #[(.pointer (some ⟨gm, 0, none⟩))] #[]), (.func (.func n_serial_machine_pass) #[(.pointer (some ⟨gm, 0, none⟩))] #[]), (.func (.func n_serial_machine_leave) #[(.pointer (some ⟨gm, 0, none⟩))] #[]), (.func (.func n_serial_machine_leave) #[(.pointer (some ⟨gm, 0, none⟩))] #[])] : Array Value).toList :: blk g2 (ints (fPlain t.f i).1) :: blk g1 (ints i) :: SSL gc gm gt ps F t pi pl B.length { m with steps := m.steps + 1 } s false R) → St w0 w' (SSL gc gm gt ps F t pi pl B.length { m with steps := m.steps + 1 } s false R) := fun h => ((h.rm 0 rfl).rm 0 rfl).rm 0 rfl
  have hjoin : i.getD 0 0 = 9 ∨ i.getD 0 0 = 10 → ∀ w', St w0 w' (SSL gc gm gt ps F t pi pl B.length { m with steps := m.steps + 1 } s false R) → serial_machine_join (some ⟨gm, 0, none⟩) (some ⟨gt, 0, none⟩) (agI i) w' k := by
    intro h910 w' h
    obtain ⟨j0, j1, j2, r, hr, hk⟩ := at_join ha h910
    have hro : rOf i t { m with steps := m.steps + 1 } = r := by unfold rOf; rw [List.getD_eq_getElem?_getD]; dsimp only; rw [hr]; rfl
    refine join_s (m := { m with steps := m.steps + 1 }) (h' := hOf i) (r := r) rfl h hf h5 hI.row ⟨j0, j1⟩ j2 hr (fun hb w' t' h e1 e2 e3 => ?_) fun hb w' h => ?_
    · have h : St w0 w' (SSL gc gm gt ps F t' pi pl B.length (({ m with steps := m.steps + 1 } : Mc).fin t.row (fJoined t.f i r.kind r.v).1 3 (fJoined t.f i r.kind r.v).2.1) s true R) := by unfold SSL; rw [e3]; exact h
      exact hfin _ _ _ _ (by rw [hstp]; unfold act; rw [if_neg (by omega), if_pos h910, hro, if_pos hb]) h e1 e2
    · exact hgo { t with f := (fJoined t.f i r.kind r.v).1 } { m with steps := m.steps + 1 } _ _ (by rw [hstp]; unfold act; rw [if_neg (by omega), if_pos h910, hro, if_neg (by rw [hb]; decide)]) h
  have hleave : 15 ≤ i.getD 0 0 → ∀ w', St w0 w' (SSL gc gm gt ps F t pi pl B.length { m with steps := m.steps + 1 } s false R) → serial_machine_leave (some ⟨gm, 0, none⟩) (some ⟨gt, 0, none⟩) (agI i) w' k := by
    intro hl w' h
    refine leave_s (m := { m with steps := m.steps + 1 }) h hf h5 hI.row hregs.1 fun w' t' h e1 e2 e3 => ?_
    have h : St w0 w' (SSL gc gm gt ps F t' pi pl B.length (({ m with steps := m.steps + 1 } : Mc).fin t.row (fOn t.f) (if i.getD 0 0 = 15 then 3 else 2) (fR (fOn t.f) (i.getD 1 0))) s true R) := by unfold SSL; rw [e3]; exact h
    exact hfin _ _ _ _ (by rw [hstp]; unfold act; rw [if_neg (by omega), if_neg (by omega), if_neg (by omega), if_neg (by omega), if_neg (by omega), if_neg (by omega)]) h e1 e2
  obtain ⟨x, l, esc⟩ : ∃ x l, t.sc = x :: l := by
    cases hs : t.sc with
    | nil => exact (hI.sc hs).elim
    | cons x l => exact ⟨x, l, rfl⟩
  have hcases : i.getD 0 0 = 8 ∨ i.getD 0 0 = 9 ∨ i.getD 0 0 = 10 ∨ i.getD 0 0 = 11 ∨ i.getD 0 0 = 12 ∨ i.getD 0 0 = 13 ∨ i.getD 0 0 = 14 ∨ i.getD 0 0 = 15 ∨ i.getD 0 0 = 16 := by omega
  rcases hcases with ho | ho | ho | ho | ho | ho | ho | ho | ho
  · show ixS _ (IntKind.wrap .i64 (i.getD 0 0 - 8)) 1 _
    rw [ho, show IntKind.wrap .i64 ((8 : Int) - 8) = ((0 : Nat) : Int) by decide]
    refine does_s (g := g82) h (by decide) rfl ?_
    refine ldW_h (g := g1) h (by simp [ints, h5]) ?_
    refine callP_i (d := fun args w c q => unL [.p, .p, .ag] args fun x => forkOf run x.1 x.2.1 x.2.2 w q fun r w => c (packV (valL [] r)) w) (fun _ _ _ => rfl) ?_
    obtain ⟨c, m1, hs, hcf⟩ : ∃ c m1, stp P F t m = .fork c m1 i ∧ c.f = fChild t.f (i.getD 4 0) (needsOf P (i.getD 4 0)) := ⟨_, _, hstp.trans (by unfold act; rw [if_pos ho]), rfl⟩
    have hpl := (Ck.places_in ha.good.places).2 ho
    have h4 := hck.2.2.2.1 ho
    refine fork_s (Ok := fun m2 => Goes P F c m1 (.ok m2)) (cf := c.f) (row := c.row) hF (hS h) hB hf h5 (isB_of ha.chk ho) h4.1 (by omega) hcf (fun w' R' kk h1 h2 h3 h4 => ?_) fun m2 s2 w3 hOk h3 => ?_
    · exact hforkR _ _ _ hs w' R' kk h1 h2 h3 h4
    · exact hforkK _ _ _ m2 s2 w3 hs hOk h3
  · show ixS _ (IntKind.wrap .i64 (i.getD 0 0 - 8)) 1 _
    rw [ho, show IntKind.wrap .i64 ((9 : Int) - 8) = ((1 : Nat) : Int) by decide]
    refine does_s (g := g82) h (by decide) rfl ?_
    refine ldW_h (g := g1) h (by simp [ints, h5]) ?_
    refine callP_i (d := fun args w c q => unL [.p, .p, .ag] args fun x => serial_machine_join x.1 x.2.1 x.2.2 w fun r w => c (packV (valL [] r)) w) (fun _ _ _ => rfl) ?_
    exact hjoin (.inl ho) _ (hS h)
  · show ixS _ (IntKind.wrap .i64 (i.getD 0 0 - 8)) 1 _
    rw [ho, show IntKind.wrap .i64 ((10 : Int) - 8) = ((2 : Nat) : Int) by decide]
    refine does_s (g := g82) h (by decide) rfl ?_
    refine ldW_h (g := g1) h (by simp [ints, h5]) ?_
    refine callP_i (d := fun args w c q => unL [.p, .p, .ag] args fun x => serial_machine_join x.1 x.2.1 x.2.2 w fun r w => c (packV (valL [] r)) w) (fun _ _ _ => rfl) ?_
    exact hjoin (.inr ho) _ (hS h)
  · show ixS _ (IntKind.wrap .i64 (i.getD 0 0 - 8)) 1 _
    rw [ho, show IntKind.wrap .i64 ((11 : Int) - 8) = ((3 : Nat) : Int) by decide]
    refine does_s (g := g82) h (by decide) rfl ?_
    refine ldW_h (g := g1) h (by simp [ints, h5]) ?_
    refine callP_i (d := fun args w c q => unL [.p, .p, .ag] args fun x => serial_machine_open x.1 x.2.1 x.2.2 w fun r w => c (packV (valL [] r)) w) (fun _ _ _ => rfl) ?_
    have hn := hI.nest
    have hh : St w0 w84 (blk gt (tskV t pi pl false) :: seg B.length pi pl t.sc :: blk gm [.slice ps.a ps.n ps.c, .int .i64 F, .int .i64 (m.steps + 1), .slice s.a s.n s.c, dRun (.pointer (some ⟨gc, 0, none⟩))] :: slc 7 s (rowsV m.rows) :: blk gc [.pointer (some ⟨gm, 0, none⟩)] :: R) := (hS h).perm (by repeat' (first | exact List.Perm.refl _ | refine perm_f 0 rfl ?_ | refine perm_f 1 rfl ?_ | refine perm_f 2 rfl ?_ | refine perm_f 3 rfl ?_ | refine perm_f 4 rfl ?_ | refine perm_f 5 rfl ?_ | refine perm_f 6 rfl ?_ | refine perm_f 7 rfl ?_))
    refine open_s (gm := gm) (B' := B) hh (fun w hw => hB w (((hw.rm 0 rfl).rm 0 rfl).rm 0 rfl)) hf hI.sc (by omega) ⟨hz.op.1, by have := hz.op.2; omega⟩ fun w' pl' h => ?_
    exact hgo { t with f := fOn t.f, sc := (false, t.opened + 1) :: t.sc, opened := t.opened + 1 } { m with steps := m.steps + 1 } w' pl' (by rw [hstp]; unfold act; rw [if_neg (by omega), if_neg (by omega), if_pos ho]) (h.perm (by repeat' (first | exact List.Perm.refl _ | refine perm_f 0 rfl ?_ | refine perm_f 1 rfl ?_ | refine perm_f 2 rfl ?_ | refine perm_f 3 rfl ?_ | refine perm_f 4 rfl ?_ | refine perm_f 5 rfl ?_ | refine perm_f 6 rfl ?_ | refine perm_f 7 rfl ?_)))
  · show ixS _ (IntKind.wrap .i64 (i.getD 0 0 - 8)) 1 _
    rw [ho, show IntKind.wrap .i64 ((12 : Int) - 8) = ((4 : Nat) : Int) by decide]
    refine does_s (g := g82) h (by decide) rfl ?_
    refine ldW_h (g := g1) h (by simp [ints, h5]) ?_
    refine callP_i (d := fun args w c q => unL [.p, .p, .ag] args fun x => serial_machine_close x.1 x.2.1 x.2.2 w fun r w => c (packV (valL [] r)) w) (fun _ _ _ => rfl) ?_
    have hh : St w0 w84 (blk gm [.slice ps.a ps.n ps.c, .int .i64 F, .int .i64 (m.steps + 1), .slice s.a s.n s.c, dRun (.pointer (some ⟨gc, 0, none⟩))] :: slc 7 s (rowsV m.rows) :: blk gt (tskV t pi pl false) :: seg B.length pi pl (x :: l) :: blk gc [.pointer (some ⟨gm, 0, none⟩)] :: R) := by rw [← esc]; exact hS h
    refine close_s (m := { m with steps := m.steps + 1 }) hh hf h5 hI.row (by have := hz.cl _ (getD_mem (l := m.rows) hI.row); show (m.rows.getD t.row r0).cl.length < 100000000; omega) fun w' pl' h => ?_
    exact hgo { t with f := fClosed t.f i x.1, sc := l } (({ m with steps := m.steps + 1 } : Mc).told t.row x.1) w' pl' (by rw [hstp]; unfold act; rw [if_neg (by omega), if_neg (by omega), if_neg (by omega), if_pos ho, esc]; rfl) h
  · show ixS _ (IntKind.wrap .i64 (i.getD 0 0 - 8)) 1 _
    rw [ho, show IntKind.wrap .i64 ((13 : Int) - 8) = ((5 : Nat) : Int) by decide]
    refine does_s (g := g82) h (by decide) rfl ?_
    refine ldW_h (g := g1) h (by simp [ints, h5]) ?_
    refine callP_i (d := fun args w c q => unL [.p, .p, .ag] args fun x => serial_machine_cancel x.1 x.2.1 x.2.2 w fun r w => c (packV (valL [] r)) w) (fun _ _ _ => rfl) ?_
    have hh : St w0 w84 (blk gt (tskV t pi pl false) :: seg B.length pi pl (x :: l) :: blk gm [.slice ps.a ps.n ps.c, .int .i64 F, .int .i64 (m.steps + 1), .slice s.a s.n s.c, dRun (.pointer (some ⟨gc, 0, none⟩))] :: slc 7 s (rowsV m.rows) :: blk gc [.pointer (some ⟨gm, 0, none⟩)] :: R) := by rw [← esc]; exact (hS h).perm (by repeat' (first | exact List.Perm.refl _ | refine perm_f 0 rfl ?_ | refine perm_f 1 rfl ?_ | refine perm_f 2 rfl ?_ | refine perm_f 3 rfl ?_ | refine perm_f 4 rfl ?_ | refine perm_f 5 rfl ?_ | refine perm_f 6 rfl ?_ | refine perm_f 7 rfl ?_))
    refine cancelm_s (gm := gm) hh hf fun w' h => ?_
    exact hgo { t with f := fOn t.f, sc := (true, x.2) :: l } { m with steps := m.steps + 1 } w' pl (by rw [hstp]; unfold act; rw [if_neg (by omega), if_neg (by omega), if_neg (by omega), if_neg (by omega), if_pos ho, esc]; rfl) (h.perm (by repeat' (first | exact List.Perm.refl _ | refine perm_f 0 rfl ?_ | refine perm_f 1 rfl ?_ | refine perm_f 2 rfl ?_ | refine perm_f 3 rfl ?_ | refine perm_f 4 rfl ?_ | refine perm_f 5 rfl ?_ | refine perm_f 6 rfl ?_ | refine perm_f 7 rfl ?_)))
  · show ixS _ (IntKind.wrap .i64 (i.getD 0 0 - 8)) 1 _
    rw [ho, show IntKind.wrap .i64 ((14 : Int) - 8) = ((6 : Nat) : Int) by decide]
    refine does_s (g := g82) h (by decide) rfl ?_
    refine ldW_h (g := g1) h (by simp [ints, h5]) ?_
    refine callP_i (d := fun args w c q => unL [.p, .p, .ag] args fun x => serial_machine_pass x.1 x.2.1 x.2.2 w fun r w => c (packV (valL [] r)) w) (fun _ _ _ => rfl) ?_
    have hh : St w0 w84 (blk gt (tskV t pi pl false) :: seg B.length pi pl t.sc :: blk gm [.slice ps.a ps.n ps.c, .int .i64 F, .int .i64 (m.steps + 1), .slice s.a s.n s.c, dRun (.pointer (some ⟨gc, 0, none⟩))] :: slc 7 s (rowsV m.rows) :: blk gc [.pointer (some ⟨gm, 0, none⟩)] :: R) := (hS h).perm (by repeat' (first | exact List.Perm.refl _ | refine perm_f 0 rfl ?_ | refine perm_f 1 rfl ?_ | refine perm_f 2 rfl ?_ | refine perm_f 3 rfl ?_ | refine perm_f 4 rfl ?_ | refine perm_f 5 rfl ?_ | refine perm_f 6 rfl ?_ | refine perm_f 7 rfl ?_))
    refine pass_s (gm := gm) hh hf fun w' h => ?_
    exact hgo { t with f := fOn t.f } { m with steps := m.steps + 1 } w' pl (by rw [hstp]; unfold act; rw [if_neg (by omega), if_neg (by omega), if_neg (by omega), if_neg (by omega), if_neg (by omega), if_pos ho]) (h.perm (by repeat' (first | exact List.Perm.refl _ | refine perm_f 0 rfl ?_ | refine perm_f 1 rfl ?_ | refine perm_f 2 rfl ?_ | refine perm_f 3 rfl ?_ | refine perm_f 4 rfl ?_ | refine perm_f 5 rfl ?_ | refine perm_f 6 rfl ?_ | refine perm_f 7 rfl ?_)))
  · show ixS _ (IntKind.wrap .i64 (i.getD 0 0 - 8)) 1 _
    rw [ho, show IntKind.wrap .i64 ((15 : Int) - 8) = ((7 : Nat) : Int) by decide]
    refine does_s (g := g82) h (by decide) rfl ?_
    refine ldW_h (g := g1) h (by simp [ints, h5]) ?_
    refine callP_i (d := fun args w c q => unL [.p, .p, .ag] args fun x => serial_machine_leave x.1 x.2.1 x.2.2 w fun r w => c (packV (valL [] r)) w) (fun _ _ _ => rfl) ?_
    exact hleave (by omega) _ (hS h)
  · show ixS _ (IntKind.wrap .i64 (i.getD 0 0 - 8)) 1 _
    rw [ho, show IntKind.wrap .i64 ((16 : Int) - 8) = ((8 : Nat) : Int) by decide]
    refine does_s (g := g82) h (by decide) rfl ?_
    refine ldW_h (g := g1) h (by simp [ints, h5]) ?_
    refine callP_i (d := fun args w c q => unL [.p, .p, .ag] args fun x => serial_machine_leave x.1 x.2.1 x.2.2 w fun r w => c (packV (valL [] r)) w) (fun _ _ _ => rfl) ?_
    exact hleave (by omega) _ (hS h)
end
end Go.Proofs.Ytgkfbagclkjilaa
