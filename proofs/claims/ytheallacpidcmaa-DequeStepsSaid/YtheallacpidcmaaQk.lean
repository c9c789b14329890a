/-
  Layer 10: whole operations, if nobody else takes a step.
-/
import Derived.Test.YtheallacpidcmaaQj
set_option linter.unusedSimpArgs false
set_option linter.unusedVariables false
set_option maxRecDepth 100000
namespace Go.Proofs.Ytheallacpidcmaa
open Go Go.Ev Go.Proofs

section
variable {l0 most K wk : Int} {nw : Nat} {M M' : Mac} {R : Rg} {O O' : Dop} {o : Option Dop}
theorem caller_of (hs : M.steps.length = nw) (h0 : 0 ≤ wk) (h1 : wk < nw) : M.caller wk = true := by
  unfold Mac.caller
  rw [hs]; exact decide_eq_true ⟨h0, h1⟩
theorem mu_pos (h : Own most K M R O) : 1 ≤ mu R O := by
  have hn := h.n
  have : O.next ≤ 2 ∨ O.next = 3 ∨ O.next = 4 ∨ (5 ≤ O.next ∧ O.next ≤ 7) ∨ 8 ≤ O.next := by omega
  have hp := pw_pos R
  rcases this with q | q | q | q | q
  · rw [mu_lo q]; split <;> omega
  · rw [mu_3 q]; have := h.g5 (by omega) (by omega); omega
  · obtain ⟨c, hc⟩ := h.c4 q
    rw [mu_4 q hc.cp]; have := hc.a1; split <;> omega
  · rw [mu_5 q.1 q.2]; omega
  · rw [mu_8 q]; omega
theorem mu_max (h : Own most K M R O) (hg : Glo l0 most nw M R) : mu R O ≤ 263 := by
  have hn := h.n
  have : O.next ≤ 2 ∨ O.next = 3 ∨ O.next = 4 ∨ (5 ≤ O.next ∧ O.next ≤ 7) ∨ 8 ≤ O.next := by omega
  have hm := hg.lg3
  rcases this with q | q | q | q | q
  · rw [mu_lo q]
    split
    · have h128 : R.pw ≤ 128 := pw_le (n := 7) (by omega)
      omega
    · omega
  · have h5 := h.g5 (by omega) (by omega)
    have h128 : R.pw ≤ 128 := pw_le (n := 7) (by omega)
    rw [mu_3 q]; omega
  · obtain ⟨c, hc⟩ := h.c4 q
    have h5 := h.g5 (by omega) (by omega)
    have h128 : R.pw ≤ 128 := pw_le (n := 7) (by omega)
    have := hc.a0
    rw [mu_4 q hc.cp]; split <;> omega
  · rw [mu_5 q.1 q.2]; omega
  · rw [mu_8 q]; omega

/-- what a whole operation of the owner comes to -/
structure Whole (l0 most : Int) (nw : Nat) (K : Int) (M : Mac) (R : Rg) (o : Option Dop) (x : Int) (push : Prop) (M' : Mac) (O' : Dop) (R' : Rg) : Prop where
  glo : Glo l0 most nw M' R'
  tl : Tl K M' R' none
  len : M'.len = R'.At + R'.pw
  err : O'.err = 0
  fine : O'.Fine
  pushes : push → (O'.how = 1 ∧ Cont M' R' none = Cont M R o ++ [x]) ∨ (O'.how = 4 ∧ Cont M' R' none = Cont M R o ∧ R'.Log = most ∧ R'.pw ≤ (Cont M' R' none).length)
  ring : push → M.B - M.T < R.pw → R' = R
  tk : push → M'.T = M.T
  pops : ¬ push → (O'.how = 1 ∧ Cont M R o = Cont M' R' none ++ [O'.got]) ∨ (O'.how = 3 ∧ Cont M R o = [] ∧ Cont M' R' none = [])

theorem own_runs (hw0 : 0 ≤ wk) (hw1 : wk < nw) : ∀ (n : Nat) (M : Mac) (R : Rg) (O : Dop), mu R O ≤ n → Glo l0 most nw M R → Tl K M R (some O) → Own most K M R O → (2 ≤ O.next → O.next ≤ 7 → O.t = M.T) →
    ∃ (m : Nat) (O' : Dop) (M' : Mac) (R' : Rg), Runs wk m O M O' M' ∧ (m : Int) ≤ mu R O ∧ Whole l0 most nw K M R (some O) O.x (O.next ≤ 7) M' O' R' := by
  intro n
  induction n with
  | zero => intro M R O hm hg ht h _; have := mu_pos h; omega
  | succ n ih =>
    intro M R O hm hg ht h htt
    obtain ⟨R', hr⟩ := own_step hg ht h (caller_of (wk := wk) hg.st hw0 hw1)
    have hf := own_fine ht h hg
    generalize hO' : (O.step M wk).1 = O' at hr
    generalize hM' : (O.step M wk).2 = M' at hr
    have hk := hr.kind
    rcases hr.alt with ⟨ha, hown, hc⟩ | ⟨ha, hlen, halt⟩
    · have hmu := (hr.mu ha).1
      have hl : O'.live = true := live0 ha
      have haf : after O' = some O' := if_pos ha
      have ht' := hr.tl
      rw [haf] at ht'
      have htt' : 2 ≤ O'.next → O'.next ≤ 7 → O'.t = M'.T := by
        intro h2 h7
        have h7' : O.next ≤ 7 := hk.2 h7
        have htk := hr.tk (by omega)
        by_cases q : 2 ≤ O.next
        · rw [hr.t2 q h7', htt q h7', htk]
        · by_cases q1 : O.next = 1
          · rw [hr.t1 q1, htk]
          · have q0 : O.next = 0 := by omega
            have hn1 : O'.next = 1 := by
              have hr1 : O.run M wk = ({ O with b := (M.ld wk 1).2.1, next := 1 }, (M.ld wk 1).1, 0, (M.ld wk 1).2.2) := by unfold Dop.run; simp only [q0]; rfl
              rw [← hO', step_of (live0 h.how) hr1]
            omega
      obtain ⟨m, O2, M2, R2, hrun, hmm, hwh⟩ := ih M' R' O' (by omega) hr.glo ht' hown htt'
      refine ⟨m + 1, O2, M2, R2, ?_, by omega, ?_⟩
      · refine .more hf hg.ok (by rw [hO']; exact hl) ?_
        rw [hO', hM']; exact hrun
      · refine ⟨hwh.glo, hwh.tl, hwh.len, hwh.err, hwh.fine, fun q => ?_, fun q hlt => ?_, fun q => by rw [hwh.tk (hk.1 q), hr.tk (by omega)], fun q => ?_⟩
        · have := hwh.pushes (hk.1 q)
          rw [hc, hr.x] at this; exact this
        · have h7 : O.next ≠ 7 := fun z => by
            have h1 := mu_5 (R := R) (O := O) (by omega) (by omega)
            have h2 := mu_pos hown
            omega
          have hR : R' = R := by
            rcases hr.ring with z | ⟨z, _⟩
            · exact z
            · have h1 := h.g5 (by omega) (by omega)
              have h2 := h.b7 (by omega) (by omega)
              have h3 := htt (by omega) (by omega)
              omega
          subst hR
          exact hwh.ring (hk.1 q) (by have := hr.bk (by omega); have := hr.tk (by omega); omega)
        · have := hwh.pops (fun z => q (hk.2 z))
          rw [hc] at this; exact this
    · have hl : O'.live = false := by
        have hv : O'.how ≠ 0 ∧ O'.how ≠ 2 := ⟨ha, by rcases halt with q | q | q | q <;> omega⟩
        unfold Dop.live
        simp [hv.1, hv.2]
      have haf : after O' = none := if_neg ha
      have ht' := hr.tl
      rw [haf] at ht'
      have hfin := hr.fin
      refine ⟨1, O', M', R', ?_, by have := mu_pos h; omega, hr.glo, ht', hlen, hr.err, far_fine (by omega) (hfin.2 ha).1 (hfin.2 ha).2, fun q => ?_, fun q _ => ?_, fun q => hr.tk (by omega), fun q => ?_⟩
      · have := Runs.last hf hg.ok (by rw [hO']; exact hl) (wk := wk)
        rw [hO', hM'] at this; exact this
      · rcases halt with ⟨_, a, b, _⟩ | ⟨q2, a, b, e, c, d⟩ | ⟨q2, _⟩ | ⟨q2, _⟩
        · exact .inl ⟨a, b⟩
        · subst e
          refine .inr ⟨a, b, c, ?_⟩
          have hb7 := h.b7 (by omega) (by omega)
          have htk := hr.tk (by omega)
          have hbk := hr.bk (by omega)
          have htq := htt (by omega) (by omega)
          have := cont_len ht'
          omega
        · omega
        · omega
      · rcases halt with ⟨_, _, _, e⟩ | ⟨_, _, _, e, _⟩ | ⟨q2, _⟩ | ⟨q2, _⟩
        · exact e
        · exact e
        · omega
        · omega
      · rcases halt with ⟨q2, _⟩ | ⟨q2, _⟩ | ⟨_, a, b⟩ | ⟨_, a, b, c⟩
        · omega
        · omega
        · exact .inl ⟨a, b⟩
        · exact .inr ⟨a, b, c⟩

theorem push_runs (hw0 : 0 ≤ wk) (hw1 : wk < nw) (hg : Glo l0 most nw M R) (ht : Tl K M R none) (hlen : M.len = R.At + R.pw) (hB : M.B + 1 ≤ K) (x : Int) :
    ∃ (m : Nat) (O' : Dop) (M' : Mac) (R' : Rg), Runs wk m (Dop.beg most x 0) M O' M' ∧ m ≤ 300 ∧ Whole l0 most nw K M R none x True M' O' R' := by
  have ho := own_push hg ht hlen hB x
  have ht' := tl_beg (most := most) (x := x) ht (n := 0) (by omega)
  have hm := mu_max ho hg
  obtain ⟨m, O', M', R', h1, h2, h3⟩ := own_runs hw0 hw1 263 M R (Dop.beg most x 0) (by omega) hg ht' ho (fun q => by unfold Dop.beg at q; dsimp only at q; omega)
  refine ⟨m, O', M', R', h1, by omega, h3.glo, h3.tl, h3.len, h3.err, h3.fine, fun _ => ?_, fun _ q => h3.ring (Nat.zero_le _) q, fun _ => h3.tk (Nat.zero_le _), fun q => (q trivial).elim⟩
  have := h3.pushes (Nat.zero_le _)
  rw [cont_beg (by omega)] at this
  exact this
theorem pop_runs (hw0 : 0 ≤ wk) (hw1 : wk < nw) (hg : Glo l0 most nw M R) (ht : Tl K M R none) (hlen : M.len = R.At + R.pw) :
    ∃ (m : Nat) (O' : Dop) (M' : Mac) (R' : Rg), Runs wk m (Dop.beg most 0 8) M O' M' ∧ m ≤ 300 ∧ Whole l0 most nw K M R none 0 False M' O' R' := by
  have ho := own_pop (K := K) hg ht hlen
  have ht' := tl_beg (most := most) (x := 0) ht (n := 8) (by omega)
  have hm := mu_max ho hg
  obtain ⟨m, O', M', R', h1, h2, h3⟩ := own_runs hw0 hw1 263 M R (Dop.beg most 0 8) (by omega) hg ht' ho (fun _ q => by unfold Dop.beg at q; dsimp only at q; omega)
  refine ⟨m, O', M', R', h1, by omega, h3.glo, h3.tl, h3.len, h3.err, h3.fine, fun q => q.elim, fun q => q.elim, fun q => q.elim, fun _ => ?_⟩
  have := h3.pops (show ¬ 8 ≤ 7 by omega)
  rw [cont_beg (by omega)] at this
  exact this
/-- a thief alone -/
theorem thf_runs (hw0 : 0 ≤ wk) (hw1 : wk < nw) : ∀ (n : Nat) (M : Mac) (O : Dop), 20 - O.next ≤ n → Glo l0 most nw M R → Tl K M R none → Thf M R M.B O → (16 ≤ O.next → O.t = M.T) → (17 ≤ O.next → M.T < M.B) →
    ∃ (m : Nat) (O' : Dop) (M' : Mac), Runs wk m O M O' M' ∧ m ≤ 20 - O.next ∧ Glo l0 most nw M' R ∧ Tl K M' R none ∧ M'.len = M.len ∧ O'.err = 0 ∧ O'.Fine ∧
      ((O'.how = 1 ∧ Cont M R none = O'.got :: Cont M' R none ∧ M'.T = M.T + 1) ∨ (O'.how = 3 ∧ Cont M R none = [] ∧ Cont M' R none = [])) := by
  intro n
  induction n with
  | zero => intro M O hm hg ht h _ _; have := h.n1; omega
  | succ n ih =>
    intro M O hm hg ht h htt htb
    have hn0 := h.n0; have hn1 := h.n1
    have hr := thf_step (o := none) hg ht (fun _ q => by cases q) h (caller_of (wk := wk) hg.st hw0 hw1)
    have hf := thf_fine h
    generalize hO' : (O.step M wk).1 = O' at hr
    generalize hM' : (O.step M wk).2 = M' at hr
    have hnx := hr.nx
    have fin : O'.how ≠ 0 → O'.how ≠ 2 → Runs wk 1 O M O' M' := by
      intro q0 q2
      have hl : O'.live = false := by unfold Dop.live; simp [q0, q2]
      have := Runs.last hf hg.ok (by rw [hO']; exact hl) (wk := wk)
      rw [hO', hM'] at this; exact this
    rcases hr.alt with ⟨a, b, c, d, e⟩ | ⟨a, b, c, d⟩ | ⟨a, b, c, d⟩ | ⟨a, b, c, c2, d, e⟩
    · have hl : O'.live = true := live2 a
      have hT : M'.T = M.T := by rw [d]; rfl
      have hB : M'.B = M.B := by rw [d]; rfl
      obtain ⟨m, O2, M2, hrun, hm2, r1, r2, r3, r4, r5, r6⟩ := ih M' O' (by omega) hr.glo hr.tl c (fun q => by
        by_cases q5 : O.next = 15
        · rw [hr.t1 q5, hT]
        · rw [hr.t2 (by omega), htt (by omega), hT]) (fun q => by
        by_cases q5 : O.next = 16
        · have := e q5; have := htt (by omega); omega
        · have := htb (by omega); omega)
      refine ⟨m + 1, O2, M2, ?_, by omega, r1, r2, by rw [r3, hr.len], r4, r5, ?_⟩
      · refine .more hf hg.ok (by rw [hO']; exact hl) ?_
        rw [hO', hM']; exact hrun
      · have hc : Cont M' R none = Cont M R none := by rw [d]; exact cont_tick none
        rw [hc, hT] at r6; exact r6
    · have htl := ht.tl
      simp only [Lof] at htl
      have := htt (by omega)
      have hce : Cont M R none = [] := by
        have := cont_len ht
        exact List.length_eq_zero_iff.1 (by omega)
      refine ⟨1, O', M', fin (by omega) (by omega), by omega, hr.glo, hr.tl, hr.len, hr.err, far_fine (by omega) (by omega) (by omega), .inr ⟨a, hce, ?_⟩⟩
      rw [d, cont_tick]; exact hce
    · have := htt (by omega); omega
    · exact ⟨1, O', M', fin (by omega) (by omega), by omega, hr.glo, hr.tl, hr.len, hr.err, far_fine (by omega) (by omega) (by omega), .inl ⟨a, by rw [c2]; exact d, e⟩⟩
theorem steal_runs (hw0 : 0 ≤ wk) (hw1 : wk < nw) (hg : Glo l0 most nw M R) (ht : Tl K M R none) :
    ∃ (m : Nat) (O' : Dop) (M' : Mac), Runs wk m (Dop.beg most 0 15) M O' M' ∧ m ≤ 300 ∧ Glo l0 most nw M' R ∧ Tl K M' R none ∧ M'.len = M.len ∧ O'.err = 0 ∧ O'.Fine ∧
      ((O'.how = 1 ∧ Cont M R none = O'.got :: Cont M' R none ∧ M'.T = M.T + 1) ∨ (O'.how = 3 ∧ Cont M R none = [] ∧ Cont M' R none = [])) := by
  obtain ⟨m, O', M', h1, h2, h3⟩ := thf_runs (R := R) hw0 hw1 5 M (Dop.beg most 0 15) (by show 20 - 15 ≤ 5; omega) hg ht (thf_beg _) (fun q => by unfold Dop.beg at q; dsimp only at q; omega) (fun q => by unfold Dop.beg at q; dsimp only at q; omega)
  exact ⟨m, O', M', h1, by have : m ≤ 20 - 15 := h2; omega, h3⟩
end
end Go.Proofs.Ytheallacpidcmaa
