/-
  Layer 10: each step of a thief keeps what always holds.
-/
import Derived.Test.YtheallacpidcmaaQi
set_option linter.unusedSimpArgs false
set_option linter.unusedVariables false
set_option maxRecDepth 100000
namespace Go.Proofs.Ytheallacpidcmaa
open Go Go.Ev Go.Proofs

/-- what a step of a thief comes to -/
structure TRes (l0 most : Int) (nw : Nat) (K : Int) (wk : Int) (M : Mac) (R : Rg) (o : Option Dop) (O : Dop) (M' : Mac) (O' : Dop) : Prop where
  glo : Glo l0 most nw M' R
  thf : ∀ O2, Thf M R (Lof M o) O2 → Thf M' R (Lof M' o) O2
  own : ∀ P, o = some P → Own most K M' R P
  tl : Tl K M' R o
  mono : M.T ≤ M'.T
  err : O'.err = 0
  steps : M'.steps = (M.tick wk).steps
  len : M'.len = M.len
  t1 : O.next = 15 → O'.t = M.T
  t2 : 16 ≤ O.next → O'.t = O.t
  nx : (O.next ≠ 19 ∧ O'.next = O.next + 1) ∨ (O.next = 19 ∧ O'.next = 19)
  hw : O'.how = 2 ↔ O.next = 18
  bk : M'.B = M.B
  alt : ((O'.how = 0 ∨ O'.how = 2) ∧ O.next ≠ 19 ∧ Thf M' R (Lof M' o) O' ∧ M' = M.tick wk ∧ (O.next = 16 → O.t < M.B)) ∨
    (O'.how = 3 ∧ O.next = 16 ∧ M.B ≤ O.t ∧ M' = M.tick wk) ∨
    (O'.how = 5 ∧ O.next = 19 ∧ O.t < M.T ∧ M' = M.tick wk) ∨
    (O'.how = 1 ∧ O.next = 19 ∧ O.t = M.T ∧ O'.got = O.got ∧ Cont M R o = O.got :: Cont M' R o ∧ M'.T = M.T + 1)

section
variable {l0 most K wk : Int} {nw : Nat} {M M' : Mac} {R : Rg} {O O' : Dop} {o : Option Dop}
theorem B_Lof (ho : ∀ P, o = some P → Own most K M R P) : M.B ≤ Lof M o := by
  cases o with
  | none => exact Int.le_refl _
  | some P =>
    have h := ho P rfl
    have h1 := h.b14
    have hn := h.n
    simp only [Lof]
    split
    · have := h1 (by omega); omega
    · split
      · have := h1 (by omega); split <;> omega
      · exact Int.le_refl _
theorem B_Uof (ho : ∀ P, o = some P → Own most K M R P) : M.B ≤ Uof M o := by
  cases o with
  | none => exact Int.le_refl _
  | some P =>
    have h := ho P rfl
    have h1 := h.b14
    have hn := h.n
    simp only [Uof]
    split
    · have := h1 (by omega); omega
    · exact Int.le_refl _
theorem tl_tick (ht : Tl K M R o) : Tl K (M.tick wk) R o :=
  ⟨ht.t0, by rw [lof_tick]; exact ht.tl, by rw [lof_tick, uof_tick]; exact ht.lu, by rw [uof_tick]; exact ht.ur, by rw [uof_tick]; exact ht.uk, ht.k⟩
theorem live2 (h : O.how = 0 ∨ O.how = 2) : O.live = true := by unfold Dop.live; rcases h with h | h <;> rw [h] <;> rfl
theorem Thf.live {L' : Int} (h : Thf M R L' O) : O.live = true := live2 (by have := h.how; split at this <;> omega)
theorem tres_tick (hg : Glo l0 most nw M R) (ht : Tl K M R o) (ho : ∀ P, o = some P → Own most K M R P) (he : O'.err = 0) (h1 : O.next = 15 → O'.t = M.T) (h2 : 16 ≤ O.next → O'.t = O.t)
    (hx : (O.next ≠ 19 ∧ O'.next = O.next + 1) ∨ (O.next = 19 ∧ O'.next = 19)) (hh : O'.how = 2 ↔ O.next = 18)
    (halt : ((O'.how = 0 ∨ O'.how = 2) ∧ O.next ≠ 19 ∧ Thf M R (Lof M o) O' ∧ (O.next = 16 → O.t < M.B)) ∨ (O'.how = 3 ∧ O.next = 16 ∧ M.B ≤ O.t) ∨ (O'.how = 5 ∧ O.next = 19 ∧ O.t < M.T)) : TRes l0 most nw K wk M R o O (M.tick wk) O' := by
  have tt : ∀ O2, Thf M R (Lof M o) O2 → Thf (M.tick wk) R (Lof (M.tick wk) o) O2 := fun O2 h => thf_tick h (by rw [lof_tick]; exact id)
  refine ⟨glo_tick hg, tt, fun P q => own_tick (ho P q), tl_tick ht, Int.le_refl _, he, rfl, rfl, h1, h2, hx, hh, rfl, ?_⟩
  rcases halt with ⟨a, b, c, d⟩ | ⟨a, b, c⟩ | ⟨a, b, c⟩
  · exact .inl ⟨a, b, tt _ c, rfl, d⟩
  · exact .inr (.inl ⟨a, b, c, rfl⟩)
  · exact .inr (.inr (.inl ⟨a, b, c, rfl⟩))
theorem thf_step (hg : Glo l0 most nw M R) (ht : Tl K M R o) (ho : ∀ P, o = some P → Own most K M R P) (h : Thf M R (Lof M o) O) (hw : M.caller wk = true) : TRes l0 most nw K wk M R o O (O.step M wk).2 (O.step M wk).1 := by
  have hlen := hg.len3
  have hat3 := hg.at3
  have hpw := hg.pw
  have hfit := hg.fit
  have hb := ht.t0; have hu := ht.uk; have hk := ht.k; have htl := ht.tl; have hur := ht.ur; have hlu := ht.lu
  have hBL := B_Lof ho
  have hn0 := h.n0; have hn1 := h.n1
  have : O.next = 15 ∨ O.next = 16 ∨ O.next = 17 ∨ O.next = 18 ∨ O.next = 19 := by omega
  rcases this with hn | hn | hn | hn | hn
  · have hr : O.run M wk = ({ O with t := M.T, next := 16 }, M.tick wk, 0, 0) := by
      unfold Dop.run; simp only [hn]; unfold Dop.f15; rw [ld_ok hw (by omega) (by omega)]
    rw [step_is h.live hr]
    dsimp only
    refine tres_tick hg ht ho rfl (fun _ => rfl) (fun q => by omega) (.inl (by dsimp only; omega)) (by dsimp only; omega) (.inl ⟨.inl rfl, by omega, ?_, fun q => by omega⟩)
    exact ⟨by (try dsimp only); omega, by (try dsimp only); omega, rfl, fun _ => ⟨hb, Int.le_refl _⟩, fun q => by (try dsimp only at q); omega, fun q => by (try dsimp only at q); omega, fun q => by (try dsimp only at q); omega, fun q => by (try dsimp only at q); omega⟩
  · have ht1 := h.t1 (by omega)
    have hr : O.run M wk = ({ O with b := M.B, next := 17 }, M.tick wk, if O.t ≥ M.B then 3 else 0, 0) := by
      unfold Dop.run; simp only [hn]; unfold Dop.f16; rw [ld_ok hw (by omega) (by omega)]; simp only [decide_eq_true_eq]
    rw [step_is h.live hr]
    dsimp only
    by_cases hT : O.t ≥ M.B
    · rw [if_pos hT]
      exact tres_tick hg ht ho rfl (fun q => by omega) (fun q => rfl) (.inl (by dsimp only; omega)) (by dsimp only; omega) (.inr (.inl ⟨rfl, hn, hT⟩))
    · rw [if_neg hT]
      refine tres_tick hg ht ho rfl (fun q => by omega) (fun q => rfl) (.inl (by dsimp only; omega)) (by dsimp only; omega) (.inl ⟨.inl rfl, by omega, ?_, fun q => by omega⟩)
      exact ⟨by (try dsimp only); omega, by (try dsimp only); omega, rfl, fun _ => ht1, fun _ q => by (try dsimp only at *); omega, fun q => by (try dsimp only at q); omega, fun q => by (try dsimp only at q); omega, fun q => by (try dsimp only at q); omega⟩
  · have ht1 := h.t1 (by omega)
    have ht2 := h.t2 (by omega)
    have hr : O.run M wk = ({ O with next := 18, ring := R }, M.tick wk, 0, 0) := by
      unfold Dop.run; simp only [hn]; unfold Dop.f17; rw [read_ok hg hw]
    rw [step_is h.live hr]
    dsimp only
    refine tres_tick hg ht ho rfl (fun q => by omega) (fun q => rfl) (.inl (by dsimp only; omega)) (by dsimp only; omega) (.inl ⟨.inl rfl, by omega, ?_, fun q => by omega⟩)
    exact ⟨by (try dsimp only); omega, by (try dsimp only); omega, rfl, fun _ => ht1, fun _ q => ht2 q, fun _ => hg.self, fun _ _ => rfl, fun q => by (try dsimp only at q); omega⟩
  · have ht1 := h.t1 (by omega)
    have ht2 := h.t2 (by omega)
    have ht3 := h.t3 (by omega)
    have ht4 := h.t4 hn
    have hlow := ht3.low O.t
    have hr : O.run M wk = ({ O with got := M.get (O.ring.place O.t), next := 19 }, M.tick wk, 2, 0) := by
      unfold Dop.run; simp only [hn]; unfold Dop.f18; rw [ld_ok hw (by omega) (by omega)]
    rw [step_is h.live hr]
    dsimp only
    refine tres_tick hg ht ho rfl (fun q => by omega) (fun q => rfl) (.inl (by dsimp only; omega)) (by dsimp only; omega) (.inl ⟨.inr rfl, by omega, ?_, fun q => by omega⟩)
    exact ⟨by (try dsimp only); omega, by (try dsimp only); omega, rfl, fun _ => ht1, fun _ q => ht2 q, fun _ => ht3, fun q => by (try dsimp only at q); omega, fun _ q => ht4 q⟩
  · have ht1 := h.t1 (by omega)
    have ht2 := h.t2 (by omega)
    have ht3 := h.t3 (by omega)
    have ht5 := h.t5 hn
    have hwr : wr (O.t + 1) = O.t + 1 := wr_id (by omega) (by omega)
    have hc := cas_ok (M := M) (wk := wk) (a := 0) (old := O.t) (x := O.t + 1) hw (by omega) (by omega)
    by_cases hT : M.T = O.t
    · rw [if_pos hT] at hc
      have hr : O.run M wk = (O, (M.tick wk).put 0 (O.t + 1), 1, 0) := by
        unfold Dop.run; simp only [hn]; unfold Dop.f19; rw [hwr, hc]; rfl
      rw [step_is h.live hr]
      dsimp only
      have hget : ∀ a, 0 ≤ a → ((M.tick wk).put 0 (O.t + 1)).get a = if a = 0 then O.t + 1 else M.get a := fun a h0 => put_get (by omega) (by omega) h0
      have hgetn : ∀ a, 3 ≤ a → ((M.tick wk).put 0 (O.t + 1)).get a = M.get a := fun a h0 => by rw [hget a (by omega), if_neg (by omega)]
      have hT' : ((M.tick wk).put 0 (O.t + 1)).T = O.t + 1 := by unfold Mac.T; rw [hget 0 (by omega), if_pos rfl]
      have hB' : ((M.tick wk).put 0 (O.t + 1)).B = M.B := by unfold Mac.B; rw [hget 1 (by omega), if_neg (by omega)]
      have hL' : Lof ((M.tick wk).put 0 (O.t + 1)) o = Lof M o := by cases o <;> simp only [Lof, hB']
      have hU' : Uof ((M.tick wk).put 0 (O.t + 1)) o = Uof M o := by cases o <;> simp only [Uof, hB']
      have hv : ∀ r, Old R r → ∀ i, ((M.tick wk).put 0 (O.t + 1)).get (r.place i) = M.get (r.place i) := fun r hr i => hgetn _ (by have := hr.low i; omega)
      have ht2' := ht2 hT.symm
      refine ⟨glo_put hg (by omega) (by omega) (by omega), fun O2 q => ?_, fun P q => ?_, ?_, by omega, rfl, rfl, len_put, fun q => by omega, fun _ => rfl, .inr ⟨hn, hn⟩, by dsimp only; omega, hB', .inr (.inr (.inr ⟨rfl, hn, hT.symm, rfl, ?_, by omega⟩))⟩
      · exact q.mono (by omega) (fun e => by omega) (fun _ h => h) (fun e => by omega) fun e => by omega
      · have hO := ho P q
        subst q
        have hn14 := hO.n
        have hL14 : P.next = 14 → Lof M (some P) = P.b := fun e => by simp [Lof, e]
        refine ⟨hO.mo, hO.how, hO.n, fun a => by rw [hB']; exact hO.kb a, fun a b => by rw [hB']; exact hO.b7 a b, fun a b => by have := hO.t7 a b; omega, hO.r7, hO.g5, hO.l7, fun a => by rw [hv R hg.self]; exact hO.x7 a, hO.c3, fun a b => by rw [len_put]; exact hO.to5 a b, fun a => ?_, fun a k h0 h1 => ?_, fun a => by rw [len_put]; exact hO.len a, fun a b => by rw [hB']; exact hO.b10 a b, fun a => by rw [hB']; exact hO.b14 a, hO.r14, fun a => by have := hO.t12 a; omega, fun a => by rw [hv R hg.self]; have := hO.t13 a; exact ⟨this.1, by omega, this.2.2⟩, fun a => ?_, hO.won⟩
        · obtain ⟨c, hc⟩ := hO.c4 a
          refine ⟨c, hc.cp, hc.a, hc.b, hc.un, hc.a0, hc.a1, fun q => by rw [hv R hg.self]; exact hc.has q, fun k h0 h1 => ?_⟩
          have hg5 := hO.g5 (by omega) (by omega)
          have hd : 3 ≤ R.dbl.place k := by
            have hdr : R.dbl.right = true := dbl_right hg.right (by have := hg.lg3; omega) (by have := hg.ok.fit; rw [hg.sz] at this; have hl : M.len ≤ 600 := this; omega)
            have := place_in hdr k
            unfold Rg.dbl at this ⊢; dsimp only at this; omega
          rw [hgetn _ hd, hv R hg.self]
          exact hc.did k h0 h1
        · have hg5 := hO.g5 (by omega) (by omega)
          have hd : 3 ≤ R.dbl.place k := by
            have hdr : R.dbl.right = true := dbl_right hg.right (by have := hg.lg3; omega) (by have := hg.ok.fit; rw [hg.sz] at this; have hl : M.len ≤ 600 := this; omega)
            have := place_in hdr k
            unfold Rg.dbl at this ⊢; dsimp only at this; omega
          rw [hgetn _ hd, hv R hg.self]
          exact hO.c5 a k h0 h1
        · have := hO.t14 a; have := hL14 a; omega
      · exact ⟨by omega, by rw [hL']; omega, by rw [hL', hU']; exact hlu, by rw [hU']; omega, by rw [hU']; exact hu, hk⟩
      · unfold Cont
        rw [hU', hT', show (Uof M o - M.T).toNat = (Uof M o - (O.t + 1)).toNat + 1 by omega, vals_cons, List.cons_append, ht5 hT.symm, hT, vals_congr fun i _ _ => hv R hg.self i]
    · rw [if_neg (show ¬ M.get 0 = O.t from hT)] at hc
      have hr : O.run M wk = (O, M.tick wk, 5, 0) := by
        unfold Dop.run; simp only [hn]; unfold Dop.f19; rw [hwr, hc]; rfl
      rw [step_is h.live hr]
      dsimp only
      exact tres_tick hg ht ho rfl (fun q => by omega) (fun q => rfl) (.inr ⟨hn, hn⟩) (by dsimp only; omega) (.inr (.inr ⟨rfl, hn, by omega⟩))

/-! ### fine -/
theorem own_fine (ht : Tl K M R (some O)) (h : Own most K M R O) (hg : Glo l0 most nw M R) : O.Fine := by
  refine ⟨fun q => ?_, fun q => ?_, by have := h.n; omega⟩
  · have h1 := h.b7 (by omega) (by omega)
    have h2 := h.t7 (by omega) (by omega)
    have h3 := ht.uk; have h4 := ht.k; have h5 := ht.lu; have h6 := ht.tl; have h7 := hg.pw
    rw [uof_lo (by omega)] at h3 h5
    rw [lof_lo (by omega)] at h6
    exact ⟨h.c3 (by omega), ⟨by omega, by omega⟩, by omega, by omega⟩
  · obtain ⟨c, hc⟩ := h.c4 q; exact ⟨c, hc.cp⟩
theorem thf_fine {L' : Int} (h : Thf M R L' O) : O.Fine := by
  have h0 := h.n0; have h1 := h.n1
  exact ⟨fun q => by omega, fun q => by omega, by omega⟩
theorem far_fine (h : O.next ≤ 19) (h3 : O.next ≠ 3) (h4 : O.next ≠ 4) : O.Fine := ⟨fun q => (h3 q).elim, fun q => (h4 q).elim, h⟩

/-! ### beginnings -/
theorem own_push (hg : Glo l0 most nw M R) (ht : Tl K M R none) (hlen : M.len = R.At + R.pw) (hB : M.B + 1 ≤ K) (x : Int) : Own most K M R (Dop.beg most x 0) := by
  constructor <;> (try unfold Dop.beg) <;> dsimp only <;> intros <;> (first | omega | rfl)
theorem own_pop (hg : Glo l0 most nw M R) (ht : Tl K M R none) (hlen : M.len = R.At + R.pw) : Own most K M R (Dop.beg most 0 8) := by
  constructor <;> (try unfold Dop.beg) <;> dsimp only <;> intros <;> (first | omega | rfl)
theorem thf_beg (L' : Int) : Thf M R L' (Dop.beg most 0 15) := by
  constructor <;> (try unfold Dop.beg) <;> dsimp only <;> intros <;> (first | omega | rfl)
theorem tl_beg (ht : Tl K M R none) {x : Int} {n : Nat} (hn : n ≤ 10) : Tl K M R (some (Dop.beg most x n)) := by
  have h1 : Lof M (some (Dop.beg most x n)) = M.B := lof_lo hn
  have h2 : Uof M (some (Dop.beg most x n)) = M.B := uof_lo hn
  exact ⟨ht.t0, by rw [h1]; exact ht.tl, by rw [h1, h2]; exact Int.le_refl _, by rw [h2]; exact ht.ur, by rw [h2]; exact ht.uk, ht.k⟩
theorem cont_beg {x : Int} {n : Nat} (hn : n ≤ 10) : Cont M R (some (Dop.beg most x n)) = Cont M R none := by
  unfold Cont
  rw [uof_lo hn, held_lo (by show n ≠ 14; omega)]; rfl

/-! ### what is in it -/
theorem list_vals (hg : Glo l0 most nw M R) (h0 : M.T ≤ M.B) (h1 : M.B - M.T ≤ R.pw) : M.list = M.vals R M.T (M.B - M.T).toNat := by
  have hlen := hg.len3
  have hp : ∀ a, 0 ≤ a → a < M.len → M.peek a = M.get a := fun a h0 h1 => by
    unfold Mac.peek; rw [if_pos (show M.given a = true from decide_eq_true ⟨h0, h1⟩)]
  have hsz : R.size = R.pw := by unfold Rg.size; rw [if_pos hg.right]
  unfold Mac.list
  rw [hp 0 (by omega) (by omega), hp 1 (by omega) (by omega), hp 2 (by omega) (by omega), hg.word, of_word hg.right, hsz]
  by_cases h : M.T < M.B
  · rw [if_pos ⟨hg.right, h, h1⟩]
    unfold Mac.listOf Mac.vals
    refine List.map_congr_left fun i _ => hp _ ?_ ?_
    · exact Int.le_trans (by omega) (hg.in' (M.T + i)).1
    · exact (hg.in' (M.T + i)).2
  · rw [if_neg (fun q => h q.2.1), show (M.B - M.T).toNat = 0 by omega]; rfl
theorem list_cont (hg : Glo l0 most nw M R) (ht : Tl K M R none) : M.list = Cont M R none := by
  rw [list_vals hg ht.tl ht.ur]
  unfold Cont
  simp only [Uof, held, List.append_nil]
theorem cont_len (ht : Tl K M R none) : ((Cont M R none).length : Int) = M.B - M.T := by
  have := ht.tl
  simp only [Lof] at this
  unfold Cont Mac.vals
  simp only [Uof, held, List.append_nil, List.length_map, List.length_range]
  omega
/-! ### the beginning -/
theorem began_ok {l0 most wk : Int} {nw : Nat} {M : Mac} (hM : M = Mac.new 600 ((nw : Int) - 1)) (hnw : 1 ≤ nw) (hl : logsOk l0 most = true) : Glo l0 most nw (M.began wk l0) ⟨3, l0⟩ ∧ (M.began wk l0).len = 3 + pwr l0 ∧ (M.began wk l0).T = 0 ∧ (M.began wk l0).B = 0 ∧ (⟨3, l0⟩ : Rg).pw = pwr l0 := by
  have hl' := of_decide_eq_true hl
  have hpe : ((⟨3, l0⟩ : Rg).pw : Int) = pwr l0 := rfl
  have hp1 : (⟨3, l0⟩ : Rg).pw ≤ 256 := pw_le (n := 8) (by show l0 ≤ _; omega)
  have hp0 := pw_pos (⟨3, l0⟩ : Rg)
  have hr : (⟨3, l0⟩ : Rg).right = true := by
    unfold Rg.right; simp only [decide_eq_true_eq]; omega
  have hcl : M.cells = [] := by rw [hM]; rfl
  have hlen : (M.began wk l0).len = 3 + pwr l0 := by
    unfold Mac.len Mac.began Mac.put Mac.tick Mac.grow
    simp only [List.length_set, hcl, List.nil_append, List.length_replicate]
    omega
  have hget : ∀ a, 0 ≤ a → a < 3 + pwr l0 → (M.began wk l0).get a = if a = 2 then Rg.word ⟨3, l0⟩ else 0 := by
    intro a h0 h1
    have e : (((M.tick wk).grow (3 + pwr l0)).tick wk).len = 3 + pwr l0 := by
      unfold Mac.len Mac.tick Mac.grow
      simp only [hcl, List.nil_append, List.length_replicate]
      omega
    unfold Mac.began
    rw [get_put (by omega) (by omega) h0]
    split
    · rfl
    · unfold Mac.get Mac.tick Mac.grow
      simp only [hcl, List.nil_append, List.getD_eq_getElem?_getD, List.getElem?_replicate]
      split <;> rfl
  refine ⟨⟨⟨?_, ?_⟩, ?_, ?_, ?_, hr, hl'.1, Int.le_refl _, hl'.2.1, hl'.2.2, ?_, ?_⟩, hlen, ?_, ?_, hpe⟩
  · rw [hM]; exact ⟨show (1 : Int) ≤ 600 by omega, show (600 : Int) ≤ 1048576 by omega⟩
  · show (M.began wk l0).len ≤ (M.began wk l0).size
    rw [hlen]
    have : (M.began wk l0).size = 600 := by rw [hM]; rfl
    omega
  · rw [hM]; rfl
  · unfold Mac.began Mac.put Mac.tick Mac.grow
    simp only [List.length_set]
    rw [hM]; unfold Mac.new; simp only [List.length_replicate]; omega
  · rw [hget 2 (by omega) (by omega), if_pos rfl]
  · show (3 : Int) + pwr l0 = 3 + _
    rw [hpe]
  · rw [hlen]; show (3 : Int) + _ ≤ _; omega
  · show (M.began wk l0).get 0 = 0
    rw [hget 0 (by omega) (by omega), if_neg (by omega)]
  · show (M.began wk l0).get 1 = 0
    rw [hget 1 (by omega) (by omega), if_neg (by omega)]
end
end Go.Proofs.Ytheallacpidcmaa
