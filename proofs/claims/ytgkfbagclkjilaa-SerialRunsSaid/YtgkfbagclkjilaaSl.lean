/-
  Layer 6: the law of fuel.
-/
import Derived.Test.YtgkfbagclkjilaaSk
set_option linter.unusedSimpArgs false
set_option linter.unusedVariables false
set_option maxRecDepth 100000
namespace Go.Proofs.Ytgkfbagclkjilaa
open Go Go.Ev Go.Proofs
open Go.Proofs.Ytgkfbagclkjilaa.Fr (fTo fOn fPlain fForked fJoined fClosed fChild fRoot fR isB fTo_len fOn_len fPlain_len fForked_len fJoined_len fClosed_len)
open Go.Proofs.Ytgkfbagclkjilaa.Ck (opI Walk Accs needsOf isGoes heldL depths stepD handlesOk subBits scopesOk forks)

theorem RunR.ok {P : List FnR} {F : Int} {rows : List Rw} {n e : Int} (h : RunR P F rows n e) (he : e = 0) : Accs P ∧ 0 ≤ F ∧ F ≤ 1048576 ∧ Goes P F t0 m0 (.ok ⟨rows, n⟩) := by
  rcases h with ⟨_, _, _, rfl⟩ | ⟨_, _, _, _, rfl⟩ | ⟨a, b, c, ⟨d, _⟩ | ⟨d, _, _⟩⟩
  · cases he
  · cases he
  · exact ⟨a, b, c, d⟩
  · rcases goes_bad d rfl with q | q <;> omega
theorem RunR.no {P : List FnR} {F : Int} {rows : List Rw} {n e : Int} (h : RunR P F rows n e) (he : e ≠ 0) : rows = [] ∧ n = 0 := by
  rcases h with ⟨_, a, b, _⟩ | ⟨_, _, a, b, _⟩ | ⟨_, _, _, ⟨_, q⟩ | ⟨_, a, b⟩⟩
  · exact ⟨a, b⟩
  · exact ⟨a, b⟩
  · exact (he q).elim
  · exact ⟨a, b⟩
theorem rowI_h {w0 w : World} {L : List HP} {s : Sl} {rs : List Rw} {f : HP → List HP} {i : Int} {r : Rw} {j : Nat} {n : Int} {c : Int → Prop} (h : St w0 w L) [a : At L (slc 7 s) (rowsV rs) f] (h0 : 0 ≤ i) (hr : rs[i.toNat]? = some r) (hj : (rwV r)[j]? = some (.int .i64 n)) (hc : c n) : ixS s i 7 fun a => ldI .i64 w (Addr.add a j) c := by
  have hn := rows_n (s := s) (rs := rs) h
  have hlt := (List.getElem?_eq_some_iff.1 hr).1
  refine ixS_h (sz := 7) (s := s) (vs := rowsV rs) h (by decide) h0 (by omega) fun g o _ hrd _ => ?_
  have hj7 : j < 7 := (List.getElem?_eq_some_iff.1 hj).1
  refine ldI_i ?_ hc
  rw [add_mk]
  exact hrd h j _ hj7 (by rw [rows_get hr hj7]; exact hj)
theorem sum_app (a b : List Rw) : sumR (a ++ b) = sumR a + sumR b := by simp [sumR]
theorem sum_take {l : List Rw} {j : Nat} (h : j < l.length) : sumR (l.take (j + 1)) = sumR (l.take j) + (l.getD j r0).steps := by
  rw [List.take_add_one, row_at h, sum_app]; simp [sumR]
theorem sum_bound {l : List Rw} {j : Nat} (h : ∀ r ∈ l, 0 ≤ r.steps) : 0 ≤ sumR (l.take j) ∧ sumR (l.take j) ≤ sumR l := by
  have nn : ∀ l : List Rw, (∀ r ∈ l, 0 ≤ r.steps) → 0 ≤ sumR l := by
    intro l
    induction l with
    | nil => intro _; simp [sumR]
    | cons x l ih =>
      intro h
      have := ih fun r hr => h r (by simp [hr])
      have := h x (by simp)
      simp only [sumR, List.map_cons, List.sum_cons] at *
      omega
  have h1 := nn (l.take j) fun r hr => h r (List.mem_of_mem_take hr)
  have h2 := nn (l.drop j) fun r hr => h r (List.mem_of_mem_drop hr)
  have : sumR l = sumR (l.take j) + sumR (l.drop j) := by rw [← sum_app, List.take_append_drop]
  omega
theorem goes_nn {P : List FnR} {F : Int} (hA : Accs P) (hN : ∀ g ∈ P, InI g.needs) {t : Tk} {m : Mc} {r : Res} (hG : Goes P F t m r) : ∀ {m' : Mc}, r = .ok m' → Inv P t m → (∀ r ∈ m.rows, 0 ≤ r.steps) → 0 ≤ t.f.getD 18 0 → t.f.getD 18 0 ≤ m.steps → m.steps ≤ F → F ≤ 1048576 → ∀ r ∈ m'.rows, 0 ≤ r.steps := by
  induction hG with
  | fin h =>
    intro m' e hI h0 h1 h2 h3 h4; cases e
    obtain ⟨st, kind, v, e, hh⟩ := fin_how hA hI h
    rw [e]
    intro r hr
    rcases List.mem_or_eq_of_mem_set hr with hr | rfl
    · exact h0 r hr
    · rcases hh with ⟨_, _, _, e1, e2⟩ | ⟨_, _, e1, e2⟩
      · rw [e2]; exact h1
      · rw [e2, wrap_id ⟨by omega, by omega⟩]; dsimp only; omega
  | bad h => intro m' e; cases e
  | go h hg ih =>
    intro m' e hI h0 h1 h2 h3 h4
    obtain ⟨hr, hs, _⟩ := go_how hA hI h
    obtain ⟨g1, g2, g3, _⟩ := stp_go h
    rw [wrap_id ⟨by omega, by omega⟩] at hs
    refine ih e (inv_go hA hI h).1 ?_ (by rw [hs]; omega) (by rw [hs]; omega) (by omega) h4
    rcases hr with hr | ⟨b, hr, _⟩ <;> rw [hr]
    · exact h0
    · intro r hr
      rcases List.mem_or_eq_of_mem_set hr with hr | rfl
      · exact h0 r hr
      · have := h0 _ (getD_mem hI.row)
        exact this
  | forkBad h _ ih => intro m' e; cases e
  | fork h h1 h2 ih1 ih2 =>
    rename_i t m c m1 i m2 r
    intro m' e hI h0 hs1 hs2 hs3 hs4
    obtain ⟨g, hv, ha⟩ := hI.at hA
    obtain ⟨hp0, hp1⟩ := at_pc ha
    obtain ⟨k1, k2⟩ := inv_child hA hN hI h
    obtain ⟨k3, k4⟩ := goes_more hA hN h1 rfl k1
    obtain ⟨k5, k6⟩ := inv_forked hA hI h k3 k4
    obtain ⟨q1, q2, q3, q4, _, hc, hrows⟩ := stp_fork h
    have hcf : c.f.getD 18 0 = 0 := by rw [hc]; exact (child_get hI.len).2.2.2.1
    subst q3
    have hf4 := (forked_get (id := (c.row : Int)) ha.chk q4 hI.len hp0 hp1).2.2.2.1
    rw [wrap_id ⟨by omega, by omega⟩] at hf4
    have hle := h1.le rfl
    refine ih2 e k5 (ih1 rfl k1 ?_ (by omega) (by omega) (by omega) hs4) (by dsimp only; rw [hf4]; omega) (by dsimp only; rw [hf4]; omega) (hle.2 (by omega)) hs4
    rw [hrows]
    intro r hr
    rcases List.mem_append.1 hr with hr | hr
    · exact h0 r hr
    · simp at hr; rw [hr]; simp
section
variable {P : List FnR} {F : Int}
theorem root_sum (hA : Accs P) (hN : ∀ g ∈ P, InI g.needs) (h1 : F ≤ 1048576) (h0 : 0 ≤ F) {m : Mc} (hG : Goes P F t0 m0 (.ok m)) : sumR m.rows = m.steps ∧ (∀ r ∈ m.rows, 0 ≤ r.steps) ∧ m.rows.length ≤ 2000000 ∧ 1 ≤ m.rows.length ∧ (m.rows.getD 0 r0).par = -1 ∧ Par m.rows 1 0 := by
  have hI := inv_root hA hN
  have a := goes_sum hA hN hG rfl hI rfl (by decide) (by decide) h0 h1
  have b := goes_nn hA hN hG rfl hI (by simp [m0]) (by decide) (by decide) h0 h1
  have c := goes_sz hA hN hG rfl hI (sz_root h0 h1)
  have d := goes_more hA hN hG rfl hI
  have e := goes_par (b := 1) (lo := 0) hA hN hG rfl hI (fun j r hj hr => by
    have : j < 1 := (List.getElem?_eq_some_iff.1 hr).1
    omega) (by decide)
  have e0 := goes_par (b := 0) (lo := -1) hA hN hG rfl hI (fun j r hj hr => by
    have : j < 1 := (List.getElem?_eq_some_iff.1 hr).1
    have : j = 0 := by omega
    subst this
    cases hr; decide) (by decide)
  have hl : 1 ≤ m.rows.length := d.1.1
  have hp := e0 0 _ (Nat.le_refl _) (row_at (by omega))
  refine ⟨by rw [a]; simp [m0, t0, Fr.fRoot, sumR], b, by omega, hl, by omega, e⟩
end
theorem law_fuel {w : World} {ps : Sl} {P : List FnR} {fuel more : Int} {k : Bool → World → Prop} (hF : Funcs5 w ps P) (hc : ∀ w', St w w' [] → k true w') : pelotonlaw06_SerialFuel #[.slice ps.a ps.n ps.c] fuel more w k := by
  have hN : ∀ g ∈ P, InI g.needs := fun g hg => (hF.code g hg).1
  unfold pelotonlaw06_SerialFuel pelotonlaw06_SerialFuel_b
  refine newC_h (.nil w) fun g1 w2 h => ?_
  refine ldW_h (g := g1) h rfl ?_
  refine small_s (hF.ext h.ext) fun b4 w5 h2 hsm => ?_
  have h := h.on h2.ext
  refine iteB_i (fun hb => awake_s fun w7 h2 => hc _ (h.on h2.ext).all) fun hb => ?_
  rw [Bool.or_eq_false_iff, Bool.or_eq_false_iff, Bool.or_eq_false_iff, decide_eq_false_iff_not, decide_eq_false_iff_not, decide_eq_false_iff_not] at hb
  obtain ⟨⟨⟨hb4, hm0⟩, hm1⟩, hf0⟩ := hb
  obtain ⟨hfew, hf1⟩ := hsm (by simpa using hb4)
  refine ldW_h (g := g1) h rfl ?_
  refine run_s (hF.ext h.ext) fun s1 r1 n1 e1 w10 h2 hR1 => ?_
  have h := h.join h2
  simp only [List.cons_append, List.nil_append] at h
  refine ldW_h (g := g1) h rfl ?_
  rw [wrap_id ⟨by omega, by omega⟩]
  refine run_s (hF.ext h.ext) fun s2 r2 n2 e2 w13 h2 hR2 => ?_
  have h := h.join h2
  simp only [List.cons_append, List.nil_append] at h
  have hs1 := rows_n (s := s1) (rs := r1) h
  refine iteB_i (fun hb => ?_) fun hb => ?_
  · have he : e1 ≠ 0 := by simpa using hb
    obtain ⟨rfl, rfl⟩ := hR1.no he
    refine iteB_t ?_ (awake_s fun w15 h2 => hc _ (h.on h2.ext).all)
    have : e1 = e2 ∨ e1 = 22 := by
      rcases hR1 with ⟨a, _, _, rfl⟩ | ⟨_, q, _⟩ | ⟨a, b, c, ⟨_, q⟩ | ⟨d, _, _⟩⟩
      · exact .inl (RunR.det (P := P) (F := fuel + more) (.inl ⟨a, rfl, rfl, rfl⟩) hR2).2.2
      · omega
      · exact (he q).elim
      · rcases goes_bad d rfl with rfl | rfl
        · exact .inr rfl
        · exact .inl (RunR.det (P := P) (F := fuel + more) (.inr (.inr ⟨a, by omega, by omega, .inr ⟨goes_deep d (by omega) rfl, rfl, rfl⟩⟩)) hR2).2.2
    show (((((s1.n : Nat) : Int) == 0) && ((0 : Int) == 0)) && ((e1 == e2) || (e1 == 22))) = true
    rw [hs1]
    rcases this with rfl | rfl <;> simp
  have he : e1 = 0 := by simpa using hb
  obtain ⟨hA, hf0', hf1', hG⟩ := hR1.ok he
  have hle := hG.le rfl
  have hn1 : n1 ≤ fuel := hle.2 hf0'
  have hn0 : 0 < n1 := goes_some rfl hG
  obtain ⟨hsum, hnn, hlen, hl1, hpar0, hpar⟩ := root_sum hA hN hf1' hf0' hG
  dsimp only at hsum hnn hlen hl1 hpar0 hpar
  obtain ⟨rfl, rfl, rfl⟩ := RunR.det (P := P) (F := fuel + more) (rows := r1) (n := n1) (e := 0) (.inr (.inr ⟨hA, by omega, by omega, .inl ⟨goes_enough hG rfl (by dsimp only; omega), rfl⟩⟩)) hR2
  refine ldW_h (g := g1) h rfl ?_
  refine run_s (hF.ext h.ext) fun s3 r3 n3 e3 w18 h2 hR3 => ?_
  have h := h.join h2
  simp only [List.cons_append, List.nil_append] at h
  obtain ⟨rfl, rfl, rfl⟩ := RunR.det (P := P) (F := n1) (rows := r1) (n := n1) (e := 0) (.inr (.inr ⟨hA, by omega, by omega, .inl ⟨goes_enough hG rfl (Int.le_refl _), rfl⟩⟩)) hR3
  refine joinP_i (fun b w' => b = false ∧ St w w' [slc 7 s3 (rowsV r1), slc 7 s2 (rowsV r1), slc 7 s1 (rowsV r1), blk g1 [.slice ps.a ps.n ps.c]]) (fun J hJ => ?_) fun b w25 hbw => ?_
  rotate_left
  · obtain ⟨rfl, h⟩ := hbw
    refine iteB_f rfl ?_
    refine ldW_h (g := g1) h rfl ?_
    rw [show IntKind.wrap .i64 ((s1, n1, e1).2.1 - 1) = n1 - 1 by dsimp only; rw [wrap_id ⟨by omega, by omega⟩]]
    refine run_s (hF.ext h.ext) fun s4 r4 n4 e4 w28 h2 hR4 => ?_
    obtain ⟨rfl, rfl, rfl⟩ := RunR.det (P := P) (F := n1 - 1) (rows := []) (n := 0) (e := 22) (.inr (.inr ⟨hA, by omega, by omega, .inr ⟨goes_short hG rfl (by show (0 : Int) ≤ n1 - 1; omega) (by show n1 - 1 < n1; omega), rfl, rfl⟩⟩)) hR4
    have h := h.on h2.ext
    refine loopP_of (fun (x : Int × Int) w' => ∃ j : Nat, x = (sumR (r1.take j), (j : Int)) ∧ j ≤ r1.length ∧ St w w' [slc 7 s3 (rowsV r1), slc 7 s2 (rowsV r1), slc 7 s1 (rowsV r1), blk g1 [.slice ps.a ps.n ps.c]]) (fun x _ => (r1.length - x.2).toNat) ⟨0, by simp [sumR], by omega, h⟩ ?_
    rintro _ w31 ⟨j, rfl, hj, h⟩ C hC
    have hs1 := rows_n (s := s1) (rs := r1) h
    refine iteB_i (fun hb => ?_) fun hb => ?_
    · have hlt : j < r1.length := by have := of_decide_eq_true hb; dsimp only at this; omega
      have hr := row_at hlt
      have hp : (r1.getD j r0).par < j ∧ -1 ≤ (r1.getD j r0).par ∧ (decide ((r1.getD j r0).par < 0) = ((j : Int) == 0)) := by
        by_cases q : j = 0
        · subst q; rw [hpar0]; exact ⟨by decide, by decide, by decide⟩
        · have := hpar j _ (by omega) hr
          refine ⟨this.2, by omega, ?_⟩
          rw [decide_eq_false (by omega), eq_comm, beq_eq_false_iff_ne]; omega
      refine joinP_i (fun b w' => b = false ∧ w' = w31) (fun J hJ => ?_) fun b w40 hbw => ?_
      · refine rowI_h (s := s1) (rs := r1) (r := r1.getD j r0) (j := 0) (i := (j : Int)) h (by omega) (by rw [Int.toNat_natCast]; exact hr) rfl ?_
        refine iteB_f (by rw [decide_eq_false_iff_not]; first | omega | (dsimp only; omega)) ?_
        refine rowI_h (s := s1) (rs := r1) (r := r1.getD j r0) (j := 0) (i := (j : Int)) h (by omega) (by rw [Int.toNat_natCast]; exact hr) rfl ?_
        refine iteB_f (by rw [decide_eq_false_iff_not]; first | omega | (dsimp only; omega)) ?_
        refine rowI_h (s := s1) (rs := r1) (r := r1.getD j r0) (j := 0) (i := (j : Int)) h (by omega) (by rw [Int.toNat_natCast]; exact hr) rfl ?_
        refine hJ _ _ ⟨?_, rfl⟩
        rw [hp.2.2]; simp
      rw [hbw.1, hbw.2]
      refine iteB_f rfl ?_
      refine rowI_h (s := s1) (rs := r1) (r := r1.getD j r0) (j := 5) (i := (j : Int)) h (by omega) (by rw [Int.toNat_natCast]; exact hr) rfl ?_
      have hb1 := sum_bound (j := j + 1) hnn
      rw [sum_take hlt] at hb1
      have e1 : IntKind.wrap .i64 (sumR (r1.take j) + (r1.getD j r0).steps) = sumR (r1.take (j + 1)) := by rw [sum_take hlt, wrap_id ⟨by omega, by omega⟩]
      have e2 : IntKind.wrap .i64 ((j : Int) + 1) = ((j + 1 : Nat) : Int) := by rw [wrap_id ⟨by omega, by omega⟩]; simp
      refine hC _ _ ⟨j + 1, by rw [e1, e2], by omega, h⟩ ?_
      dsimp only; rw [e2]; omega
    · have hge : j = r1.length := by have := of_decide_eq_false hb; dsimp only at this; omega
      refine iteB_t ?_ (awake_s fun w44 h2 => hc _ (h.on h2.ext).all)
      rw [hge, List.take_length, hsum]
      simp
  · refine iteB_f ?_ ?_
    · show (((((((0 : Int) != 0) || ((0 : Int) != 0)) || (n1 != n1)) || (n1 != n1)) || (decide (n1 > fuel))) || (decide (n1 < 1))) = false
      rw [decide_eq_false (by omega), decide_eq_false (by omega)]; simp
    · refine rows_same (s := s1) (s' := s2) (rs := r1) h (by omega) fun w21 h => ?_
      refine iteB_f rfl ?_
      refine rows_same (s := s1) (s' := s3) (rs := r1) h (by omega) fun w23 h => ?_
      exact hJ _ _ ⟨rfl, h⟩
end Go.Proofs.Ytgkfbagclkjilaa
