/-
  Layer 10: a ring that grows, step by step.
-/
import Derived.Test.YtheallacpidcmaaQm
set_option linter.unusedSimpArgs false
set_option linter.unusedVariables false
set_option maxRecDepth 100000
namespace Go.Proofs.Ytheallacpidcmaa
open Go Go.Ev Go.Proofs

section
variable {l0 most K wk : Int} {nw : Nat} {M : Mac} {R : Rg} {O : Dop} {l : List Int} {w0 w : World} {L : List HP} {gm go : Nat} {x : Int}
theorem push_more {k : Option Addr → Int → World → Prop} (hC : Calm l0 most nw K M R l) (hK : K + 1 ≤ 1000) (h0 : 0 ≤ wk) (h1 : wk < nw) (h : St w0 w (mach gm M :: L))
    (h2 : (l.length : Int) < pwr most → ∀ go O' M' R' w', O'.Fine → (l.length < R.pw → R' = R) → M'.T = M.T → Calm l0 most nw (K + 1) M' R' (l ++ [x]) → St w0 w' (opP go O' :: mach gm M' :: L) → k (some ⟨go, 0, none⟩) 1 w')
    (h3 : (l.length : Int) = pwr most → ∀ go O' M' R' w', O'.Fine → M'.T = M.T → Calm l0 most nw (K + 1) M' R' l → St w0 w' (opP go O' :: mach gm M' :: L) → k (some ⟨go, 0, none⟩) 4 w') :
    deque_Deque_Push #[.int .i64 0, .int .i64 most] x w fun p w2 => pelotonlaw10_run (some ⟨gm, 0, none⟩) p wk w2 fun i w3 => k p i w3 := by
  have hC' := hC.up (K' := K + 1) (by omega) hK
  have hs := hC.small
  have hcn := hC.count
  obtain ⟨m, O', M', R', hr, hm, hW⟩ := push_runs (wk := wk) h0 h1 hC'.glo hC'.tl hC'.len (by omega) x
  refine push_s (most := most) h fun go w2 h => run_s h hr hm fun w3 h => ?_
  rcases hW.pushes trivial with ⟨a, b⟩ | ⟨a, b, c, d⟩
  · have hC2 : Calm l0 most nw (K + 1) M' R' (l ++ [x]) := ⟨hW.glo, hW.tl, hW.len, by rw [b, hC.is]⟩
    have hro := hC2.room
    have hpm := Rg.pw_most hW.glo
    rw [List.length_append, List.length_singleton] at hro
    rw [a]
    exact h2 (by omega) go O' M' R' w3 hW.fine (fun q => hW.ring trivial (by omega)) (hW.tk trivial) hC2 h
  · have hC2 : Calm l0 most nw (K + 1) M' R' l := ⟨hW.glo, hW.tl, hW.len, by rw [b, hC.is]⟩
    have hro := hC2.room
    have hpf := Rg.pw_full hW.glo c
    rw [hC2.is] at d
    rw [a]
    exact h3 (by omega) go O' M' R' w3 hW.fine (hW.tk trivial) hC2 h

/-- a push, under way, alone -/
structure Psh (l0 most : Int) (nw : Nat) (K : Int) (M : Mac) (R : Rg) (O : Dop) (l : List Int) (x : Int) : Prop where
  glo : Glo l0 most nw M R
  tl : Tl K M R (some O)
  own : Own most K M R O
  n7 : O.next ≤ 7
  x : O.x = x
  got : O.got = 0
  t : 2 ≤ O.next → O.t = M.T
  is : Cont M R (some O) = l
theorem Psh.count (h : Psh l0 most nw K M R O l x) : (l.length : Int) = M.B - M.T := by
  have h1 := h.tl.tl
  have hn := h.n7
  rw [lof_lo (by omega)] at h1
  rw [← h.is]
  unfold Cont Mac.vals
  rw [uof_lo (by omega), held_lo (by omega)]
  simp only [List.append_nil, List.length_map, List.length_range]
  omega
theorem Psh.mid (h : Psh l0 most nw K M R O l x) (h3 : 3 ≤ O.next) (h5 : O.next ≤ 5) : l.length = R.pw ∧ R.Log < most := by
  have h1 := h.own.g5 h3 h5
  have h2 := h.own.b7 (by omega) (by omega)
  have h4 := h.t (by omega)
  have h6 := h.count
  omega
theorem Psh.late (h : Psh l0 most nw K M R O l x) (h3 : 6 ≤ O.next) : l.length < R.pw := by
  have hn := h.n7
  have h1 := h.own.l7 h3 (by omega)
  have h2 := h.own.b7 (by omega) (by omega)
  have h4 := h.t (by omega)
  have h6 := h.count
  omega
theorem Psh.list (h : Psh l0 most nw K M R O l x) : M.list = l := by
  have h1 := h.tl.tl; have h2 := h.tl.ur
  have hn := h.n7
  rw [lof_lo (by omega)] at h1
  rw [uof_lo (by omega)] at h2
  rw [list_vals h.glo h1 h2, ← h.is]
  unfold Cont
  rw [uof_lo (by omega), held_lo (by omega), List.append_nil]
theorem Psh.small (h : Psh l0 most nw K M R O l x) : 0 ≤ M.T ∧ M.T ≤ M.B ∧ M.B ≤ K ∧ K ≤ 1000 := by
  have h1 := h.tl.tl; have h2 := h.tl.uk
  have hn := h.n7
  rw [lof_lo (by omega)] at h1
  rw [uof_lo (by omega)] at h2
  exact ⟨h.tl.t0, h1, h2, h.tl.k⟩
theorem psh_list_s {k : Sl → World → Prop} (hC : Psh l0 most nw K M R O l x) (h : St w0 w (mach gm M :: L)) (hk : ∀ s w', St w0 w' (slc 1 s (ints l) :: mach gm M :: L) → k s w') : deque_Deque_List #[.int .i64 0, .int .i64 most] (some ⟨gm, 0, none⟩) w k := by
  have hs := hC.small
  have hlen := hC.glo.len3
  have hp : ∀ a, 0 ≤ a → a < M.len → M.peek a = M.get a := fun a h0 h1 => by
    unfold Mac.peek; rw [if_pos (show M.given a = true from decide_eq_true ⟨h0, h1⟩)]
  have hp0 : M.peek 0 = M.T := hp 0 (by omega) (by omega)
  have hp1 : M.peek 1 = M.B := hp 1 (by omega) (by omega)
  refine list_s (most := most) h (by rw [hp0]; exact ⟨by omega, by omega⟩) (by rw [hp1]; exact ⟨by omega, by omega⟩) fun s w' h => hk s w' ?_
  rwa [hC.list] at h
theorem psh_beg (hC : Calm l0 most nw K M R l) (hB : M.B + 1 ≤ K) : Psh l0 most nw K M R (Dop.beg most x 0) l x :=
  ⟨hC.glo, tl_beg hC.tl (by omega), own_push hC.glo hC.tl hC.len hB x, Nat.zero_le _, rfl, rfl, fun q => by unfold Dop.beg at q; dsimp only at q; omega, by rw [cont_beg (by omega)]; exact hC.is⟩
theorem psh_next (h : Psh l0 most nw K M R O l x) (hw : M.caller wk = true) : ∃ R',
    ((O.step M wk).1.how = 0 ∧ Psh l0 most nw K (O.step M wk).2 R' (O.step M wk).1 l x ∧ O.next ≤ 6 ∧ Nx O.next (O.step M wk).1.next ∧ (R' = R ∨ (O.next = 5 ∧ R' = R.dbl)) ∧ (¬ (O.next = 2 ∧ (O.step M wk).1.next = 6) → mu R' (O.step M wk).1 + 1 = mu R O)) ∨
    ((O.step M wk).1.how = 1 ∧ O.next = 7 ∧ Calm l0 most nw K (O.step M wk).2 R (l ++ [x]) ∧ (O.step M wk).1.got = 0 ∧ (O.step M wk).1.err = 0) ∨
    ((O.step M wk).1.how = 4 ∧ O.next = 2 ∧ Calm l0 most nw K (O.step M wk).2 R l ∧ R.Log = most ∧ (O.step M wk).1.next ≠ 3 ∧ (O.step M wk).1.next ≠ 4 ∧ (O.step M wk).1.next ≤ 14) := by
  have hn := h.n7
  obtain ⟨R', hr⟩ := own_step h.glo h.tl h.own hw
  generalize (O.step M wk).1 = O' at *
  generalize (O.step M wk).2 = M' at *
  refine ⟨R', ?_⟩
  rcases hr.alt with ⟨ha, hown, hc⟩ | ⟨ha, hlen, halt⟩
  · have h6 : O.next ≤ 6 := by
      have h1 := mu_pos hown
      have h2 := (hr.mu ha).1
      have h3 : O.next = 7 → mu R O = 8 - (O.next : Int) := fun q => mu_5 (by omega) (by omega)
      have h4 := h3
      by_cases q : O.next = 7
      · have := h3 q; omega
      · omega
    have hnx := hr.nx ha h6
    have ht' := hr.tl
    rw [show after O' = some O' from if_pos ha] at ht'
    have hk := hr.kind
    refine .inl ⟨ha, ⟨hr.glo, ht', hown, hk.1 hn, by rw [hr.x, h.x], by rw [hr.got hn, h.got], fun q => ?_, by rw [hc, h.is]⟩, h6, hnx, hr.ring, (hr.mu ha).2 hn⟩
    have htk := hr.tk (by omega)
    by_cases q1 : 2 ≤ O.next
    · rw [hr.t2 q1 hn, h.t q1, htk]
    · have : O.next = 1 := by unfold Nx at hnx; omega
      rw [hr.t1 this, htk]
  · have ht' := hr.tl
    rw [show after O' = none from if_neg ha] at ht'
    rcases halt with ⟨a, b, c, d⟩ | ⟨a, b, c, d, e, f⟩ | ⟨a, _⟩ | ⟨a, _⟩
    · subst d
      exact .inr (.inl ⟨b, a, ⟨hr.glo, ht', hlen, by rw [c, h.is, h.x]⟩, by rw [hr.got hn, h.got], hr.err⟩)
    · subst d
      exact .inr (.inr ⟨b, a, ⟨hr.glo, ht', hlen, by rw [c, h.is]⟩, e, (hr.fin.2 ha).1, (hr.fin.2 ha).2, hr.fin.1⟩)
    · omega
    · omega

theorem law_grows {l : Sl} {xs : List Int} {k : Bool → World → Prop} (hl : SlI w l xs) (hk : ∀ w', St w w' [] → k true w') : pelotonlaw10_DequeGrows #[.int .i64 l0, .int .i64 most] l x w k := by
  unfold pelotonlaw10_DequeGrows pelotonlaw10_DequeGrows_b
  refine setup_s (wks := 2) (.inl rfl) hk fun hlo hg gm ga gd w20 h => ?_
  have hlg := of_decide_eq_true hlo
  have hnl := SlI.len hl
  have hle := of_decide_eq_false hg
  refine pow_s (ga := ga) (o := 0) (n := l0) h rfl rfl ⟨by omega, by omega⟩ ?_
  have hR0 : ((⟨3, l0⟩ : Rg).pw : Int) = pwr l0 := rfl
  obtain ⟨n, hn⟩ : ∃ n : Nat, n = (⟨3, l0⟩ : Rg).pw := ⟨_, rfl⟩
  have hpn : pwr l0 = (n : Int) := by rw [hn]; rfl
  have hn256 : n ≤ 256 := by rw [hn]; exact pw_le (n := 8) (by show l0 ≤ _; omega)
  have hn1 : 1 ≤ n := by rw [hn]; exact pw_pos _
  have hnm : (n : Int) ≤ pwr most := by
    rw [← hpn]; unfold pwr
    have : 2 ^ l0.toNat ≤ 2 ^ most.toNat := Nat.pow_le_pow_right (by omega) (by omega)
    omega
  rw [hpn]
  refine emp_s h fun gh w29 h => ?_
  refine joinP_i (fun (s : Sl) w' => ∃ M hv, Calm l0 most 3 n M ⟨3, l0⟩ hv ∧ hv.length = n ∧ St w w' [slc 1 s (ints hv), mach gm M, blk ga (ints [l0, most]), blk gd (ints [0, most])]) (fun J hJ => ?_) ?_
  · refine loopP_of (fun (x : Sl × Int) w' => ∃ (j : Nat) (M : Mac) (hv : List Int), x.2 = j ∧ j ≤ n ∧ hv.length = j ∧ Calm l0 most 3 j M ⟨3, l0⟩ hv ∧ St w w' [slc 1 x.1 (ints hv), mach gm M, blk ga (ints [l0, most]), blk gd (ints [0, most])]) (fun x _ => ((n : Int) - x.2).toNat) ⟨0, _, [], rfl, by omega, rfl, calm_began (.inl rfl) hlo, h⟩ ?_
    rintro ⟨s, i⟩ w32 ⟨j, M, hv, hj, hjl, hvj, hC, h⟩ C hCC
    dsimp only at hj h ⊢
    subst hj
    have hns : hv.length = s.n := by have := h.slen (sz := 1) (s := s) (vs := ints hv); simpa using this
    have hwj : IntKind.wrap .i64 ((j : Int) + 1) = ((j + 1 : Nat) : Int) := by rw [wrap_id ⟨by omega, by omega⟩]; omega
    refine iteB_i (fun hb => ?_) fun hb => ?_
    · have hb := of_decide_eq_true hb
      have hm0 : 0 ≤ (j : Int).tmod (l.n : Int) := Int.tmod_nonneg _ (by omega)
      have hm1 : (j : Int).tmod (l.n : Int) < l.n := Int.tmod_lt_of_pos _ (by omega)
      refine remI_i (by omega) (ixB_h hl h hm0 (by omega) fun p hp => ldI_i (hp h) ?_)
      generalize xs.getD ((j : Int).tmod (l.n : Int)).toNat 0 = y
      refine app1_s (s := s) (xs := hv) h (by omega) fun s' w' h => ?_
      refine drew_h h fun w41 h => ldW_h (g := gd) h rfl ?_
      refine ixI_h (s := s') (xs := hv ++ [y]) h (by omega) (by simp; omega) ?_
      have hy : (hv ++ [y]).getD (j : Int).toNat 0 = y := by rw [Int.toNat_natCast]; simp [hvj.symm]
      rw [hy, hwj]
      have h : St w w41 [mach gm M, slc 1 s' (ints (hv ++ [y])), blk ga (ints [l0, most]), blk gd (ints [0, most])] := h.swap
      refine push_more (wk := 0) hC (by omega) (by omega) (by omega) h (fun hlt go O' M' R' w43 hf hRR _ hC' h => ?_) fun heq go O' M' R' w43 hf _ hC' h => by omega
      have hRR := hRR (by omega)
      subst hRR
      refine iteB_f rfl (hCC _ _ ⟨j + 1, M', _, rfl, by omega, by simp; omega, by rw [show ((j + 1 : Nat) : Int) = (j : Int) + 1 by omega]; exact hC', h.drop.swap⟩ (by dsimp only; omega))
    · have hb := of_decide_eq_false hb
      have : j = n := by omega
      subst this
      exact hJ _ _ ⟨M, hv, hC, hvj, h⟩
  rintro s w50 ⟨M, hv, hC, hvn, h⟩
  have hns : hv.length = s.n := by have := h.slen (sz := 1) (s := s) (vs := ints hv); simpa using this
  have hcn := hC.count
  have hsm := hC.small
  have hlen : M.len = 3 + n := by have := hC.len; rw [this, ← hn]
  have h : St w w50 [mach gm M, slc 1 s (ints hv), blk ga (ints [l0, most]), blk gd (ints [0, most])] := h.swap
  refine used_s (g := gm) (M := M) h (ldW_h (g := gd) h rfl ?_)
  refine push_s (most := most) h fun go w55 h => ?_
  have h3n : IntKind.wrap .i64 (3 + (n : Int)) = 3 + n := wrap_id ⟨by omega, by omega⟩
  have hcl : (M.cells.length : Int) = 3 + n := hlen
  rw [h3n, hcl]
  have cl : ∀ {M : Mac}, M.steps.length = 3 → M.caller 0 = true := fun h => caller_of (nw := 3) h (by omega) (by omega)
  have P0 : Psh l0 most 3 (n + 1) M ⟨3, l0⟩ (Dop.beg most x 0) hv x := psh_beg (hC.up (by omega) (by omega)) (by omega)
  generalize hO0 : Dop.beg most x 0 = O0 at *
  have hO0n : O0.next = 0 := by rw [← hO0]; rfl
  refine joinP_i (fun b w' => b = (l0 == most) ∧ w' = w55) (fun J hJ => ?_) ?_
  · exact iteB_f (by simp) (ldI_h (g := ga) (o := 0) h rfl (ldI_h (g := ga) (o := 1) h rfl (hJ _ _ ⟨rfl, rfl⟩)))
  rintro b w60 ⟨rfl, rfl⟩
  refine iteB_i (fun hb => ?_) fun hb => ?_
  · have hlm : l0 = most := by simpa using hb
    refine iteB_t (by simp) ?_
    obtain ⟨R1, hs⟩ := psh_next P0 (cl P0.glo.st)
    have hf0 := own_fine P0.tl P0.own P0.glo
    generalize hO1 : O0.step M 0 = S1 at hs
    rcases hs with ⟨a1, P1, _, x1, r1, _⟩ | ⟨_, q, _⟩ | ⟨_, q, _⟩
    rotate_left
    · omega
    · omega
    have n1 : S1.1.next = 1 := by unfold Nx at x1; omega
    have r1 : R1 = ⟨3, l0⟩ := r1.resolve_right fun q => by omega
    subst r1
    obtain ⟨R2, hs⟩ := psh_next P1 (cl P1.glo.st)
    have hf1 := own_fine P1.tl P1.own P1.glo
    generalize hO2 : S1.1.step S1.2 0 = S2 at hs
    rcases hs with ⟨a2, P2, _, x2, r2, _⟩ | ⟨_, q, _⟩ | ⟨_, q, _⟩
    rotate_left
    · omega
    · omega
    have n2 : S2.1.next = 2 := by unfold Nx at x2; omega
    have r2 : R2 = ⟨3, l0⟩ := r2.resolve_right fun q => by omega
    subst r2
    obtain ⟨R3, hs⟩ := psh_next P2 (cl P2.glo.st)
    have hf2 := own_fine P2.tl P2.own P2.glo
    generalize hO3 : S2.1.step S2.2 0 = S3 at hs
    rcases hs with ⟨a3, P3, _, x3, r3, _⟩ | ⟨_, q, _⟩ | ⟨a3, _, C3, e3, f3, f4, f5⟩
    · exfalso
      have r3 : R3 = ⟨3, l0⟩ := r3.resolve_right fun q => by omega
      subst r3
      have : S3.1.next = 3 ∨ S3.1.next = 6 := by unfold Nx at x3; omega
      rcases this with q | q
      · have := (P3.mid (by omega) (by omega)).2
        dsimp only at this; omega
      · have := P3.late (by omega); omega
    · omega
    refine step_r h hf0 P0.glo.ok fun w62 h => ?_
    rw [hO1] at h ⊢
    refine iteB_t (by rw [a1]; rfl) (step_r h hf1 P1.glo.ok fun w64 h => ?_)
    rw [hO2] at h ⊢
    refine iteB_t (by rw [a2]; rfl) (step_r h hf2 P2.glo.ok fun w66 h => ?_)
    rw [hO3] at h ⊢
    have hdead : S3.1.live = false := by unfold Dop.live; rw [a3]; rfl
    refine iteB_t (by rw [a3]; rfl) (step_r h (far_fine (by omega) f3 f4) C3.glo.ok fun w68 h => ?_)
    rw [step_still hdead] at h ⊢
    refine iteB_t (by dsimp only; rw [a3]; rfl) (ldW_h (g := gd) h rfl ?_)
    have h : St w w68 [mach gm S3.2, slc 1 s (ints hv), blk ga (ints [l0, most]), blk gd (ints [0, most])] := h.drop
    refine calm_list_s C3 h fun s70 w71 h => ?_
    have ha : OwnS 1 w71 s70 (ints hv) := h.own
    have hb2 : OwnS 1 w71 s (ints hv) := h.own
    have hl70 : hv.length = s70.n := by have := h.slen (sz := 1) (s := s70) (vs := ints hv); simpa using this
    refine same_r ha.sls hb2.sls (by omega) fun w73 hS => ?_
    refine iteB_t (by simp) (used_s (g := gm) (M := S3.2) (h.on hS.ext) ?_)
    have hl3 : (S3.2.cells.length : Int) = 3 + n := by
      have : S3.2.len = _ := C3.len
      unfold Mac.len at this
      rw [this, ← hn]
    rw [hl3]
    exact iteB_t (by simp) (awake_s (h.on hS.ext) hk)
  · have hlm : l0 < most := by have : ¬ l0 = most := by simpa using hb
                               omega
    have h7 : IntKind.wrap .i64 (7 + IntKind.wrap .i64 (2 * (n : Int))) = 7 + 2 * n := by
      have : IntKind.wrap .i64 (2 * (n : Int)) = 2 * n := wrap_id ⟨by omega, by omega⟩
      rw [this]; exact wrap_id ⟨by omega, by omega⟩
    have h2n : IntKind.wrap .i64 (3 + (n : Int) + IntKind.wrap .i64 (2 * (n : Int))) = 3 + n + 2 * n := by
      have : IntKind.wrap .i64 (2 * (n : Int)) = 2 * n := wrap_id ⟨by omega, by omega⟩
      rw [this]; exact wrap_id ⟨by omega, by omega⟩
    rw [h7, h2n]
    have hdp : ((⟨3, l0⟩ : Rg).dbl.pw : Int) = 2 * n := by
      have := dbl_pw (R := ⟨3, l0⟩) (by show 0 ≤ l0; omega)
      rw [this, ← hn]; omega
    have hda : (⟨3, l0⟩ : Rg).dbl.At = 3 + n := by show (3 : Int) + _ = _; rw [← hn]
    -- which step it is
    have stage : ∀ {M R O}, Psh l0 most 3 (n + 1) M R O hv x → ((R = ⟨3, l0⟩ ∧ O.next ≤ 5) ∨ (R = (⟨3, l0⟩ : Rg).dbl ∧ 6 ≤ O.next)) →
        (O.next ≤ 3 → mu R O = 2 * n + 7 - O.next ∧ M.len = 3 + n) ∧ (4 ≤ O.next → mu R O ≤ 2 * n + 3 ∧ M.len = 3 + n + 2 * n) ∧ (O.next ≤ 6 → 2 ≤ mu R O) ∧ (O.next = 7 → mu R O = 1) := by
      intro M R O P hR
      have hn7 := P.n7
      have g := P.own.len
      rcases hR with ⟨rfl, h5⟩ | ⟨rfl, h6⟩
      · refine ⟨fun q => ?_, fun q => ?_, fun q => ?_, fun q => by omega⟩
        · refine ⟨?_, by rw [g (by omega), ← hn]⟩
          by_cases q3 : O.next = 3
          · rw [mu_3 q3]
            have := P.own.g5 (by omega) (by omega)
            omega
          · rw [mu_lo (by omega), if_pos (by show l0 < 8; omega), ← hn]
        · have t5 := P.own.to5 q h5
          have g5 := P.own.g5 (by omega) h5
          refine ⟨?_, by rw [t5.2, hda, hdp]⟩
          by_cases q4 : O.next = 4
          · obtain ⟨c, hc⟩ := P.own.c4 q4
            have := hc.a0
            rw [mu_4 q4 hc.cp]
            split <;> omega
          · rw [mu_5 (by omega) (by omega)]; omega
        · by_cases q3 : O.next ≤ 2
          · rw [mu_lo q3, if_pos (by show l0 < 8; omega), ← hn]; omega
          · by_cases q3 : O.next = 3
            · rw [mu_3 q3]
              have := P.own.g5 (by omega) (by omega)
              omega
            · by_cases q4 : O.next = 4
              · obtain ⟨c, hc⟩ := P.own.c4 q4
                have := hc.a1
                rw [mu_4 q4 hc.cp]
                split <;> omega
              · rw [mu_5 (by omega) (by omega)]; omega
      · refine ⟨fun q => by omega, fun q => ?_, fun q => ?_, fun q => ?_⟩
        · rw [mu_5 (by omega) (by omega)]
          exact ⟨by omega, by rw [g (by omega), hda, hdp]⟩
        · rw [mu_5 (by omega) (by omega)]; omega
        · rw [mu_5 (by omega) (by omega)]; omega
    refine joinP_i (fun (_ : Unit) w' => ∃ M O, Psh l0 most 3 (n + 1) M (⟨3, l0⟩ : Rg).dbl O hv x ∧ O.next = 7 ∧ St w w' [opP go O, mach gm M, slc 1 s (ints hv), blk ga (ints [l0, most]), blk gd (ints [0, most])]) (fun J hJ => ?_) ?_
    · refine loopP_of (fun (i : Int) w' => ∃ (j : Nat) (M : Mac) (R : Rg) (O : Dop), i = j + 1 ∧ Psh l0 most 3 (n + 1) M R O hv x ∧ ((R = ⟨3, l0⟩ ∧ O.next ≤ 5) ∨ (R = (⟨3, l0⟩ : Rg).dbl ∧ 6 ≤ O.next)) ∧ mu R O = 2 * n + 7 - j ∧ St w w' [opP go O, mach gm M, slc 1 s (ints hv), blk ga (ints [l0, most]), blk gd (ints [0, most])]) (fun i _ => ((7 + 2 * n : Int) - i).toNat)
        ⟨0, M, ⟨3, l0⟩, O0, rfl, P0, .inl ⟨rfl, by omega⟩, by have := ((stage P0 (.inl ⟨rfl, by omega⟩)).1 (by omega)).1; omega, h⟩ ?_
      rintro _ w81 ⟨j, M, R, O, rfl, P, hR, hmu, h⟩ C hCC
      have st := stage P hR
      have hn7 := P.n7
      refine iteB_i (fun hb => ?_) fun hb => ?_
      · have hb := of_decide_eq_true hb
        have hlt7 : O.next ≤ 6 := by
          by_cases q : O.next = 7
          · have := st.2.2.2 q; omega
          · omega
        obtain ⟨R', hs⟩ := psh_next P (cl P.glo.st)
        have hf := own_fine P.tl P.own P.glo
        generalize hOs : O.step M 0 = S at hs
        have good : S.1.how = 0 ∧ Psh l0 most 3 (n + 1) S.2 R' S.1 hv x ∧ ((R' = ⟨3, l0⟩ ∧ S.1.next ≤ 5) ∨ (R' = (⟨3, l0⟩ : Rg).dbl ∧ 6 ≤ S.1.next)) ∧ mu R' S.1 + 1 = mu R O := by
          rcases hs with ⟨a, P', _, nx, r, m⟩ | ⟨_, q, _⟩ | ⟨_, q, _, e, _⟩
          · have no : ¬ (O.next = 2 ∧ S.1.next = 6) := by
              rintro ⟨q2, q6⟩
              have r' : R' = R := r.resolve_right fun q => by omega
              have r0 : R = ⟨3, l0⟩ := by rcases hR with ⟨z, _⟩ | ⟨_, z⟩ <;> first | exact z | omega
              subst r0
              subst r'
              have := P'.late (by omega)
              omega
            refine ⟨a, P', ?_, m no⟩
            unfold Nx at nx
            rcases hR with ⟨z, z5⟩ | ⟨z, z6⟩
            · rcases r with r | ⟨r5, r⟩
              · exact .inl ⟨r.trans z, by
                  by_cases q5 : O.next = 5
                  · exfalso
                    have l6 := P'.late (by omega)
                    rw [r, z] at l6
                    omega
                  · omega⟩
              · exact .inr ⟨by rw [r, z], by omega⟩
            · rcases r with r | ⟨r5, _⟩
              · exact .inr ⟨r.trans z, by omega⟩
              · omega
          · omega
          · exfalso
            rcases hR with ⟨z, _⟩ | ⟨_, z⟩
            · subst z; dsimp only at e; omega
            · omega
        obtain ⟨a, P', hR', hm'⟩ := good
        have st' := stage P' hR'
        have hn7' := P'.n7
        have hwj : IntKind.wrap .i64 ((j : Int) + 1 + 1) = ((j + 1 : Nat) : Int) + 1 := by rw [wrap_id ⟨by omega, by omega⟩]; omega
        refine joinP_i (fun b w' => b = false ∧ St w w' [opP go S.1, mach gm S.2, slc 1 s (ints hv), blk ga (ints [l0, most]), blk gd (ints [0, most])]) (fun J2 hJ2 => ?_) ?_
        · refine step_r h hf P.glo.ok fun w84 h => ?_
          rw [hOs] at h ⊢
          refine iteB_f (by rw [a]; rfl) (ldW_h (g := gd) h rfl ?_)
          have h : St w w84 [mach gm S.2, opP go S.1, slc 1 s (ints hv), blk ga (ints [l0, most]), blk gd (ints [0, most])] := St.swap h
          refine psh_list_s P' h fun s86 w87 h => ?_
          have ha : OwnS 1 w87 s86 (ints hv) := h.own
          have hb2 : OwnS 1 w87 s (ints hv) := h.own
          have hl86 : hv.length = s86.n := by have := h.slen (sz := 1) (s := s86) (vs := ints hv); simpa using this
          refine same_r ha.sls hb2.sls (by omega) fun w89 hS => ?_
          have h := h.on hS.ext
          refine iteB_f (by simp) (used_s (g := gm) (M := S.2) h (hJ2 _ _ ⟨?_, h.drop.swap⟩))
          have hlen' : (S.2.cells.length : Int) = S.2.len := rfl
          by_cases q : S.1.next ≤ 3
          · have := st'.1 q
            rw [hlen', this.2, decide_eq_true (show (j : Int) + 1 < 4 by omega)]; simp
          · have := st'.2.1 (by omega)
            rw [hlen', this.2, decide_eq_false (show ¬ (j : Int) + 1 < 4 by omega)]
            simp only [Bool.not_eq_false', beq_iff_eq, beq_eq_false_iff_ne]
            omega
        rintro b w93 ⟨rfl, h⟩
        refine iteB_f rfl ?_
        rw [hwj]
        exact hCC _ _ ⟨j + 1, S.2, R', S.1, rfl, P', hR', by omega, h⟩ (by omega)
      · have hb := of_decide_eq_false hb
        have h7 : O.next = 7 := by
          by_cases q : O.next ≤ 6
          · have := st.2.2.1 q; omega
          · omega
        have : R = (⟨3, l0⟩ : Rg).dbl := by rcases hR with ⟨_, z⟩ | ⟨z, _⟩ <;> first | exact z | omega
        subst this
        exact hJ _ _ ⟨M, O, P, h7, h⟩
    rintro _ w95 ⟨M, O, P, h7, h⟩
    obtain ⟨R', hs⟩ := psh_next P (cl P.glo.st)
    have hf := own_fine P.tl P.own P.glo
    generalize hOs : O.step M 0 = S at hs
    rcases hs with ⟨_, _, q, _⟩ | ⟨a, _, hC', hgot, herr⟩ | ⟨_, q, _⟩
    · omega
    · refine joinP_i (fun b w' => b = false ∧ St w w' [opP go S.1, mach gm S.2, slc 1 s (ints hv), blk ga (ints [l0, most]), blk gd (ints [0, most])]) (fun J2 hJ2 => ?_) ?_
      · refine step_r h hf P.glo.ok fun w98 h => ?_
        rw [hOs] at h ⊢
        refine iteB_f (by rw [a]; rfl) (used_s (g := gm) (M := S.2) h (hJ2 _ _ ⟨?_, h⟩))
        have hlen' : (S.2.cells.length : Int) = S.2.len := rfl
        rw [hlen', hC'.len, hda, hdp]
        simp
      rintro b w102 ⟨rfl, h⟩
      refine iteB_f rfl (ldW_h (g := gd) h rfl ?_)
      have h : St w w102 [mach gm S.2, opP go S.1, slc 1 s (ints hv), blk ga (ints [l0, most]), blk gd (ints [0, most])] := h.swap
      refine calm_list_s hC' h fun s104 w105 h => ?_
      refine app1_s (s := s) (xs := hv) h (by omega) fun s108 w109 h => ?_
      have ha : OwnS 1 w109 s104 (ints (hv ++ [x])) := h.own
      have hb2 : OwnS 1 w109 s108 (ints (hv ++ [x])) := h.own
      have hl104 : (hv ++ [x]).length = s104.n := by have := h.slen (sz := 1) (s := s104) (vs := ints (hv ++ [x])); simpa using this
      rw [List.length_append, List.length_singleton] at hl104
      refine same_r ha.sls hb2.sls (by omega) fun w111 hS => ?_
      have h := h.on hS.ext
      refine iteB_t (by simp) (got_s (go := go) (O := S.1) h ?_)
      rw [tell_done a, hgot]
      refine iteB_t rfl (err_s (go := go) (O := S.1) h ?_)
      rw [herr]
      exact iteB_t rfl (awake_s h hk)
    · omega
end
end Go.Proofs.Ytheallacpidcmaa
