/-
  Layer 10: each step of the owner keeps what always holds: the other steps.
-/
import Derived.Test.YtheallacpidcmaaQh
set_option linter.unusedSimpArgs false
set_option linter.unusedVariables false
set_option maxRecDepth 100000
namespace Go.Proofs.Ytheallacpidcmaa
open Go Go.Ev Go.Proofs

section
variable {l0 most K wk : Int} {nw : Nat} {M M' : Mac} {R : Rg} {O O' : Dop}
theorem Old.low {r : Rg} (h : Old R r) (i : Int) : 3 ≤ r.place i ∧ r.place i < R.At + R.pw := by
  have h1 := place_in h.right i
  have h2 := h.at3
  rcases h.old with rfl | q
  · omega
  · have := R.pw; omega
/-- a step that turns nothing ahead of the ring's end -/
theorem res_far (hg : Glo l0 most nw M R) (ht : Tl K M R (some O)) (hM : ∀ a, 0 ≤ a → a < R.At + R.pw → M'.get a = M.get a) (hg' : Glo l0 most nw M' R) (hst : M'.steps = (M.tick wk).steps) (hO : Own most K M' R O') (he : O'.err = 0) (hn : 3 ≤ O.next ∧ O.next ≤ 7) (hn' : O'.next ≤ 7)
    (hx : O'.x = O.x) (h2 : O'.t = O.t) (hm : mu R O' + 1 = mu R O) (hnx : O.next ≤ 6 → Nx O.next O'.next) (hgot : O'.got = O.got) : ORes l0 most nw K wk M R O M' O' R := by
  have ha : after O' = some O' := if_pos hO.how
  have h3 := hg.at3; have hpw := hg.pw
  have hT : M'.T = M.T := hM 0 (by omega) (by omega)
  have hB : M'.B = M.B := hM 1 (by omega) (by omega)
  have htl := ht.tl; have hu := ht.uk; have hur := ht.ur; have hk := ht.k; have ht0 := ht.t0
  rw [lof_lo (by omega)] at htl
  rw [uof_lo (by omega)] at hu hur
  have hv : ∀ r, Old R r → ∀ i, M'.get (r.place i) = M.get (r.place i) := fun r hr i => by
    have := hr.low i
    exact hM _ (by omega) (by omega)
  refine ⟨hg', fun O2 h => ?_, ?_, by omega, he, hst, by omega, hx, fun q => by omega, fun _ _ => h2, .inl rfl, fun _ => ⟨by omega, fun _ _ => hm⟩, fun _ => hT, fun _ => hB, fun _ => hnx, fun _ => hgot, ⟨hO.n, fun q => (q hO.how).elim⟩, .inl ⟨hO.how, hO, ?_⟩⟩
  · rw [ha, lof_lo (by omega)]
    rw [lof_lo (by omega)] at h
    exact h.mono (by omega) (fun _ _ => by omega) (fun _ h => h) (fun _ _ r hr e => by rw [hv r hr, e]) fun _ _ => hv R hg.self _
  · rw [ha]
    exact ⟨by omega, by rw [lof_lo (by omega)]; omega, by rw [lof_lo (by omega), uof_lo (by omega)]; exact Int.le_refl _, by rw [uof_lo (by omega)]; omega, by rw [uof_lo (by omega)]; omega, hk⟩
  · unfold Cont
    rw [uof_lo (by omega), uof_lo (by omega), held_lo (by omega), held_lo (by omega), hT, hB, vals_congr fun i _ _ => hv R hg.self i]
theorem dbl_right (h : R.right = true) (h1 : R.Log ≤ 7) (h2 : R.At ≤ 600) : R.dbl.right = true := by
  have h3 := Rg.right_out h
  have h4 := dbl_pw h3.1
  have h5 : R.pw ≤ 128 := pw_le (n := 7) h1
  unfold Rg.right
  simp only [decide_eq_true_eq]
  unfold Rg.dbl at h4 ⊢
  dsimp only at *
  omega
theorem glo_put {a x : Int} (hg : Glo l0 most nw M R) (h0 : 0 ≤ a) (h1 : a ≠ 2) (h2 : a < M.len) : Glo l0 most nw ((M.tick wk).put a x) R := by
  have h3 := hg.len3
  refine ⟨⟨hg.ok.size, ?_⟩, hg.sz, by simp [Mac.tick, Mac.put, hg.st], ?_, hg.right, hg.lg0, hg.lg1, hg.lg2, hg.lg3, hg.at', ?_⟩
  · have := hg.ok.fit; simpa [Mac.tick, Mac.put] using this
  · rw [get_put (M := M.tick wk) h0 h2 (by omega), if_neg (fun q => h1 q.symm)]; exact hg.word
  · have := hg.fit; simpa [Mac.len, Mac.tick, Mac.put] using this
theorem len_put {a x : Int} : ((M.tick wk).put a x).len = M.len := by simp [Mac.len, Mac.tick, Mac.put]
theorem put_get {a x a' : Int} (h0 : 0 ≤ a) (h2 : a < M.len) (h3 : 0 ≤ a') : ((M.tick wk).put a x).get a' = if a' = a then x else M.get a' := get_put (M := M.tick wk) h0 h2 h3

theorem own3 (hg : Glo l0 most nw M R) (ht : Tl K M R (some O)) (h : Own most K M R O) (hw : M.caller wk = true) (hn : O.next = 3) : ORes l0 most nw K wk M R O (O.step M wk).2 (O.step M wk).1 R := by
  have hlen := hg.len3
  have hb := ht.t0; have hu := ht.uk; have hk := ht.k; have htl := ht.tl; have hur := ht.ur; have hlu := ht.lu
  rw [lof_lo (by omega)] at htl
  rw [uof_lo (by omega)] at hu hur
  have hb7 := h.b7 (by omega) (by omega)
  have ht7 := h.t7 (by omega) (by omega)
  have hr7 := h.r7 (by omega) (by omega)
  have hg5 := h.g5 (by omega) (by omega)
  have hle := h.len (by omega)
  have hro := Rg.right_out hg.right
  have hpw := hg.pw
  have hl3 := hg.lg3
  have hd := dbl_pw hro.1
  have h128 : R.pw ≤ 128 := pw_le (n := 7) (by omega)
  have hat := hg.at'
  have hl0 : 1 ≤ pwr l0 := by unfold pwr; have : 0 < 2 ^ l0.toNat := Nat.pow_pos (by omega); omega
  have hdr : R.dbl.right = true := dbl_right hg.right (by omega) (by omega)
  have hlg : O.lg = R.Log + 1 := by unfold Dop.lg; rw [hr7]; exact wr_id (by omega) (by omega)
  have hto : O.tor M = R.dbl := by unfold Dop.tor Rg.dbl; rw [hlg]; congr 1
  have hp2 : O.pw2 = (R.dbl.pw : Int) := by unfold Dop.pw2 Rg.pw Rg.dbl; rw [hlg]
  have hroom : M.room O.pw2 = true := by
    unfold Mac.room; rw [hp2, hg.sz]; simp only [decide_eq_true_eq]; unfold Mac.len at hle; omega
  have hbe : begE R R.dbl O.t O.b = 0 := by
    unfold begE Rg.size
    rw [hg.right, hdr]
    rw [if_neg (by simp), if_pos rfl, if_pos rfl, if_neg (by omega)]
  have hr : O.run M wk = ({ O with to := R.dbl, copy := some (Cp.begin R R.dbl O.t O.b), next := 4 }, (M.tick wk).grow R.dbl.pw, 0, 0) := by
    unfold Dop.run; simp only [hn]; unfold Dop.f3
    rw [if_pos ⟨by omega, by omega, hw⟩, if_pos hroom, hto, hr7, if_pos hbe, hp2]
  rw [step_is (live0 h.how) hr]
  dsimp only
  have hlen' : ((M.tick wk).grow R.dbl.pw).len = M.len + R.dbl.pw := by simp [Mac.len, Mac.tick, Mac.grow]
  have hget : ∀ a, 0 ≤ a → a < M.len → ((M.tick wk).grow R.dbl.pw).get a = M.get a := fun a h0 h1 => get_grow (M := M.tick wk) h0 h1
  have hg' : Glo l0 most nw ((M.tick wk).grow R.dbl.pw) R := by
    refine ⟨⟨hg.ok.size, ?_⟩, hg.sz, by simp [Mac.tick, Mac.grow, hg.st], ?_, hg.right, hg.lg0, hg.lg1, hg.lg2, hg.lg3, hg.at', by omega⟩
    · show ((M.tick wk).grow R.dbl.pw).len ≤ M.size
      rw [hlen', hg.sz]; omega
    · rw [hget 2 (by omega) (by omega)]; exact hg.word
  refine res_far hg ht (fun a h0 h1 => hget a h0 (by omega)) hg' rfl ?_ rfl (by omega) (by dsimp only; omega) rfl rfl (by rw [mu_3 hn, mu_4 rfl rfl]; unfold Cp.begin; dsimp only; simp; omega) (fun q => by unfold Nx; dsimp only; omega) rfl
  have hT : ((M.tick wk).grow R.dbl.pw).T = M.T := hget 0 (by omega) (by omega)
  have hB : ((M.tick wk).grow R.dbl.pw).B = M.B := hget 1 (by omega) (by omega)
  have hkb := h.kb (by omega)
  have hcp : Cpy ((M.tick wk).grow R.dbl.pw) R { O with to := R.dbl, copy := some (Cp.begin R R.dbl O.t O.b), next := 4, how := 0, err := 0 } (Cp.begin R R.dbl O.t O.b) := by
    refine ⟨rfl, rfl, rfl, rfl, Int.le_refl _, ?_, fun q => by simp [Cp.begin] at q, fun k h0 h1 => ?_⟩
    · show O.t < O.b
      omega
    · have h1 : k < O.t := h1
      dsimp only at h0
      omega
  constructor <;> dsimp only <;> intros <;> (first | omega | rfl | exact h.mo | exact h.kb (by omega) | exact h.b7 (by omega) (by omega) | exact h.t7 (by omega) (by omega) | exact h.r7 (by omega) (by omega) | exact h.g5 (by omega) (by omega) | exact h.l7 (by omega) (by omega) | exact h.x7 (by omega) | exact h.c3 (by omega) | exact h.to5 (by omega) (by omega) | exact h.c4 (by omega) | exact h.c5 (by omega) | exact h.len (by omega) | exact h.b10 (by omega) (by omega) | exact h.b14 (by omega) | exact h.r14 (by omega) (by omega) | exact h.t12 (by omega) | exact h.t13 (by omega) | exact h.t14 (by omega) | exact h.won (by omega) | assumption | exact ⟨_, hcp⟩ | (refine ⟨rfl, ?_⟩; rw [hlen']; unfold Rg.dbl at *; dsimp only at *; omega))

theorem own4 (hg : Glo l0 most nw M R) (ht : Tl K M R (some O)) (h : Own most K M R O) (hw : M.caller wk = true) (hn : O.next = 4) : ORes l0 most nw K wk M R O (O.step M wk).2 (O.step M wk).1 R := by
  have hlen := hg.len3
  have hb := ht.t0; have hu := ht.uk; have hk := ht.k; have htl := ht.tl; have hur := ht.ur; have hlu := ht.lu
  rw [lof_lo (by omega)] at htl
  rw [uof_lo (by omega)] at hu hur
  have hb7 := h.b7 (by omega) (by omega)
  have ht7 := h.t7 (by omega) (by omega)
  have hg5 := h.g5 (by omega) (by omega)
  have hto := h.to5 (by omega) (by omega)
  have hkb := h.kb (by omega)
  have hro := Rg.right_out hg.right
  have hpw := hg.pw
  have hl3 := hg.lg3
  have hfit := hg.fit
  have hat3 := hg.at3
  have hd := dbl_pw hro.1
  have h128 : R.pw ≤ 128 := pw_le (n := 7) (by omega)
  have hszf := hg.ok.fit
  rw [hg.sz] at hszf
  have hlm : M.len ≤ 600 := hszf
  have hdr : R.dbl.right = true := dbl_right hg.right (by omega) (by omega)
  obtain ⟨c, hc⟩ := h.c4 hn
  have ha0 := hc.a0; have ha1 := hc.a1
  have hne : ¬ c.at_ = c.until_ := by rw [hc.un]; omega
  have hspot : 3 ≤ c.spot ∧ c.spot < M.len := by
    unfold Cp.spot
    split
    · rw [hc.b]; have := place_in hdr c.at_; unfold Rg.dbl at this hto; dsimp only at this hto; unfold Rg.dbl; omega
    · rw [hc.a]; have := hg.in' c.at_; omega
  have hcan : M.can wk c.spot = true := by
    unfold Mac.can
    rw [hw, show M.given c.spot = true from decide_eq_true ⟨by omega, by unfold Mac.len at hspot; omega⟩]; rfl
  have hrun : O.run M wk = O.f4 M wk c := by unfold Dop.run; simp only [hn, hc.cp]
  have hf : O.f4 M wk c = if c.loaded then ({ O with copy := some (c.next 0), next := if (c.next 0).at_ = c.until_ then 5 else O.next }, (M.tick wk).put c.spot c.has, 0, 0)
        else ({ O with copy := some (c.next (M.get c.spot)) }, M.tick wk, 0, 0) := by
    unfold Dop.f4; rw [if_neg hne, if_pos hcan]
  by_cases hl : c.loaded = true
  · rw [if_pos hl] at hf
    have hsp : c.spot = R.dbl.place c.at_ := by unfold Cp.spot; rw [if_pos hl, hc.b]
    have hnx : c.next 0 = { c with at_ := c.at_ + 1, loaded := false } := by
      unfold Cp.next; rw [if_pos hl]
      have : IntKind.wrap .i64 (c.at_ + 1) = c.at_ + 1 := wr_id (by omega) (by omega)
      rw [this]
    rw [hsp, hnx] at hf
    rw [hsp] at hspot
    dsimp only at hf
    rw [step_is (live0 h.how) (hrun.trans hf)]
    dsimp only
    have hfar : R.At + R.pw ≤ R.dbl.place c.at_ := by have := place_in hdr c.at_; unfold Rg.dbl at this ⊢; dsimp only at this; omega
    have hget : ∀ a, 0 ≤ a → ((M.tick wk).put (R.dbl.place c.at_) c.has).get a = if a = R.dbl.place c.at_ then c.has else M.get a := fun a h0 => put_get (by omega) (by omega) h0
    have hget2 : ∀ a, 0 ≤ a → a < R.At + R.pw → ((M.tick wk).put (R.dbl.place c.at_) c.has).get a = M.get a := fun a h0 h1 => by rw [hget a h0, if_neg (by omega)]
    have hT : ((M.tick wk).put (R.dbl.place c.at_) c.has).T = M.T := hget2 0 (by omega) (by omega)
    have hB : ((M.tick wk).put (R.dbl.place c.at_) c.has).B = M.B := hget2 1 (by omega) (by omega)
    have hdid : ∀ k, O.t ≤ k → k < c.at_ + 1 → ((M.tick wk).put (R.dbl.place c.at_) c.has).get (R.dbl.place k) = ((M.tick wk).put (R.dbl.place c.at_) c.has).get (R.place k) := by
      intro k h0 h1
      have h2 := place_in hdr k
      have h3 := hg.in' k
      have h4 := place_in hg.right k
      have h5 : 0 ≤ R.dbl.At := by unfold Rg.dbl; dsimp only; omega
      rw [hget2 (R.place k) (by omega) (by omega), hget (R.dbl.place k) (by omega)]
      by_cases hk2 : k = c.at_
      · subst hk2
        rw [if_pos rfl]; exact hc.has hl
      · rw [if_neg (place_ne hdr (by omega) (by omega))]
        exact hc.did k h0 (by omega)
    by_cases hend : c.at_ + 1 = c.until_
    · rw [if_pos hend]
      refine res_far hg ht hget2 (glo_put hg (by omega) (by omega) hspot.2) rfl ?_ rfl (by omega) (by dsimp only; omega) rfl rfl (by rw [mu_4 hn hc.cp, mu_5 (by dsimp only; omega) (by dsimp only; omega), if_pos hl]; have := hc.un; dsimp only; omega) (fun q => by unfold Nx; dsimp only; omega) rfl
      have hun := hc.un
      constructor <;> dsimp only <;> intros <;> (first | omega | rfl | exact h.mo | exact h.kb (by omega) | exact h.b7 (by omega) (by omega) | exact h.t7 (by omega) (by omega) | exact h.r7 (by omega) (by omega) | exact h.g5 (by omega) (by omega) | exact h.l7 (by omega) (by omega) | exact h.x7 (by omega) | exact h.c3 (by omega) | exact h.to5 (by omega) (by omega) | exact h.c4 (by omega) | exact h.c5 (by omega) | exact h.len (by omega) | exact h.b10 (by omega) (by omega) | exact h.b14 (by omega) | exact h.r14 (by omega) (by omega) | exact h.t12 (by omega) | exact h.t13 (by omega) | exact h.t14 (by omega) | exact h.won (by omega) | assumption | exact ⟨hto.1, by rw [len_put]; exact hto.2⟩ | exact hdid _ (by assumption) (by omega))
    · rw [if_neg hend]
      refine res_far hg ht hget2 (glo_put hg (by omega) (by omega) hspot.2) rfl ?_ rfl (by omega) (by dsimp only; omega) rfl rfl (by rw [mu_4 hn hc.cp, mu_4 (c := { c with at_ := c.at_ + 1, loaded := false }) (by dsimp only; exact hn) rfl, if_pos hl]; dsimp only; simp; omega) (fun q => by unfold Nx; dsimp only; omega) rfl
      have hun := hc.un
      have hcp : Cpy ((M.tick wk).put (R.dbl.place c.at_) c.has) R { O with copy := some { c with at_ := c.at_ + 1, loaded := false }, how := 0, err := 0 } { c with at_ := c.at_ + 1, loaded := false } :=
        ⟨rfl, hc.a, hc.b, hc.un, by show O.t ≤ c.at_ + 1; omega, by show c.at_ + 1 < O.b; omega, fun q => by simp at q, hdid⟩
      constructor <;> dsimp only <;> intros <;> (first | omega | rfl | exact h.mo | exact h.kb (by omega) | exact h.b7 (by omega) (by omega) | exact h.t7 (by omega) (by omega) | exact h.r7 (by omega) (by omega) | exact h.g5 (by omega) (by omega) | exact h.l7 (by omega) (by omega) | exact h.x7 (by omega) | exact h.c3 (by omega) | exact h.to5 (by omega) (by omega) | exact h.c4 (by omega) | exact h.c5 (by omega) | exact h.len (by omega) | exact h.b10 (by omega) (by omega) | exact h.b14 (by omega) | exact h.r14 (by omega) (by omega) | exact h.t12 (by omega) | exact h.t13 (by omega) | exact h.t14 (by omega) | exact h.won (by omega) | assumption | exact ⟨_, hcp⟩ | exact ⟨hto.1, by rw [len_put]; exact hto.2⟩)
  · rw [if_neg hl] at hf
    have hl' : c.loaded = false := by simpa using hl
    have hsp : c.spot = R.place c.at_ := by unfold Cp.spot; rw [if_neg hl, hc.a]
    have hnx : c.next (M.get c.spot) = { c with has := M.get (R.place c.at_), loaded := true } := by
      unfold Cp.next; rw [if_neg hl, hsp]
    rw [hnx] at hf
    rw [step_is (live0 h.how) (hrun.trans hf)]
    dsimp only
    refine res_far hg ht (fun _ _ _ => rfl) (glo_tick hg) rfl ?_ rfl (by omega) (by dsimp only; omega) rfl rfl (by rw [mu_4 hn hc.cp, mu_4 (c := { c with has := M.get (R.place c.at_), loaded := true }) (by dsimp only; exact hn) rfl, if_neg hl]; dsimp only; simp <;> omega) (fun q => by unfold Nx; dsimp only; omega) rfl
    have hcp : Cpy (M.tick wk) R { O with copy := some { c with has := M.get (R.place c.at_), loaded := true }, how := 0, err := 0 } { c with has := M.get (R.place c.at_), loaded := true } :=
      ⟨rfl, hc.a, hc.b, hc.un, hc.a0, hc.a1, fun _ => rfl, hc.did⟩
    constructor <;> dsimp only <;> intros <;> (first | omega | rfl | exact h.mo | exact h.kb (by omega) | exact h.b7 (by omega) (by omega) | exact h.t7 (by omega) (by omega) | exact h.r7 (by omega) (by omega) | exact h.g5 (by omega) (by omega) | exact h.l7 (by omega) (by omega) | exact h.x7 (by omega) | exact h.c3 (by omega) | exact h.to5 (by omega) (by omega) | exact h.c4 (by omega) | exact h.c5 (by omega) | exact h.len (by omega) | exact h.b10 (by omega) (by omega) | exact h.b14 (by omega) | exact h.r14 (by omega) (by omega) | exact h.t12 (by omega) | exact h.t13 (by omega) | exact h.t14 (by omega) | exact h.won (by omega) | assumption | exact ⟨_, hcp⟩)

theorem own5 (hg : Glo l0 most nw M R) (ht : Tl K M R (some O)) (h : Own most K M R O) (hw : M.caller wk = true) (hn : O.next = 5) : ORes l0 most nw K wk M R O (O.step M wk).2 (O.step M wk).1 R.dbl := by
  have hlen := hg.len3
  have hb := ht.t0; have hu := ht.uk; have hk := ht.k; have htl := ht.tl; have hur := ht.ur; have hlu := ht.lu
  rw [lof_lo (by omega)] at htl
  rw [uof_lo (by omega)] at hu hur
  have hb7 := h.b7 (by omega) (by omega)
  have ht7 := h.t7 (by omega) (by omega)
  have hg5 := h.g5 (by omega) (by omega)
  have hto := h.to5 (by omega) (by omega)
  have hkb := h.kb (by omega)
  have hc5 := h.c5 hn
  have hro := Rg.right_out hg.right
  have hpw := hg.pw
  have hl3 := hg.lg3
  have hl1 := hg.lg1
  have hfit := hg.fit
  have hat3 := hg.at3
  have hat := hg.at'
  have hd := dbl_pw hro.1
  have h128 : R.pw ≤ 128 := pw_le (n := 7) (by omega)
  have hszf := hg.ok.fit
  rw [hg.sz] at hszf
  have hlm : M.len ≤ 600 := hszf
  have hdr : R.dbl.right = true := dbl_right hg.right (by omega) (by omega)
  have hlog : R.dbl.Log = R.Log + 1 := rfl
  have hdat : R.dbl.At = R.At + R.pw := rfl
  have hr : O.run M wk = ({ O with ring := R.dbl, next := 6 }, (M.tick wk).put 2 R.dbl.word, 0, 0) := by
    unfold Dop.run; simp only [hn]; unfold Dop.f5; rw [st_ok hw (by omega) (by omega), hto.1]
  rw [step_is (live0 h.how) hr]
  dsimp only
  have hget : ∀ a, 0 ≤ a → ((M.tick wk).put 2 R.dbl.word).get a = if a = 2 then R.dbl.word else M.get a := fun a h0 => put_get (by omega) (by omega) h0
  have hget2 : ∀ a, 0 ≤ a → a ≠ 2 → ((M.tick wk).put 2 R.dbl.word).get a = M.get a := fun a h0 h1 => by rw [hget a h0, if_neg h1]
  have hT : ((M.tick wk).put 2 R.dbl.word).T = M.T := hget2 0 (by omega) (by omega)
  have hB : ((M.tick wk).put 2 R.dbl.word).B = M.B := hget2 1 (by omega) (by omega)
  have hg' : Glo l0 most nw ((M.tick wk).put 2 R.dbl.word) R.dbl := by
    refine ⟨⟨hg.ok.size, ?_⟩, hg.sz, by simp [Mac.tick, Mac.put, hg.st], ?_, hdr, hg.lg0, by omega, by omega, hg.lg3, by omega, by rw [len_put]; omega⟩
    · have := hg.ok.fit; simpa [Mac.tick, Mac.put] using this
    · rw [hget 2 (by omega), if_pos rfl]
  have hold : ∀ r, Old R r → Old R.dbl r := fun r hr => ⟨hr.right, hr.at3, by
    rcases hr.old with rfl | q
    · exact .inr (by omega)
    · exact .inr (by omega)⟩
  have hv : ∀ r, Old R r → ∀ i, ((M.tick wk).put 2 R.dbl.word).get (r.place i) = M.get (r.place i) := fun r hr i => by
    have := hr.low i
    exact hget2 _ (by omega) (by omega)
  have hvd : ∀ k, O.t ≤ k → k < O.b → ((M.tick wk).put 2 R.dbl.word).get (R.dbl.place k) = M.get (R.place k) := fun k h0 h1 => by
    have := place_in hdr k
    rw [hget2 _ (by omega) (by omega), hc5 k h0 h1]
  have hO : Own most K ((M.tick wk).put 2 R.dbl.word) R.dbl { O with ring := R.dbl, next := 6, how := 0, err := 0 } := by
    constructor <;> dsimp only <;> intros <;> (first | omega | rfl | exact h.mo | exact h.kb (by omega) | exact h.b7 (by omega) (by omega) | exact h.t7 (by omega) (by omega) | exact h.r7 (by omega) (by omega) | exact h.g5 (by omega) (by omega) | exact h.l7 (by omega) (by omega) | exact h.x7 (by omega) | exact h.c3 (by omega) | exact h.to5 (by omega) (by omega) | exact h.c4 (by omega) | exact h.c5 (by omega) | exact h.len (by omega) | exact h.b10 (by omega) (by omega) | exact h.b14 (by omega) | exact h.r14 (by omega) (by omega) | exact h.t12 (by omega) | exact h.t13 (by omega) | exact h.t14 (by omega) | exact h.won (by omega) | assumption | (rw [len_put]; exact hto.2))
  have ha : after { O with ring := R.dbl, next := 6, how := 0, err := 0 } = some { O with ring := R.dbl, next := 6, how := 0, err := 0 } := if_pos rfl
  refine ⟨hg', fun O2 h => ?_, ?_, by omega, rfl, rfl, by dsimp only; omega, rfl, fun q => by omega, fun _ _ => rfl, .inr ⟨hn, rfl⟩, fun _ => by rw [mu_5 (O := O) (by omega) (by omega), mu_5 (by dsimp only; omega) (by dsimp only; omega), hn]; dsimp only; omega, fun _ => hT, fun _ => hB, fun _ q => by unfold Nx; (try dsimp only); omega, fun q => by first | rfl | omega, ⟨by (try dsimp only); omega, fun _ => by (try dsimp only); omega⟩, .inl ⟨rfl, hO, ?_⟩⟩
  · rw [ha, lof_lo (by dsimp only; omega)]
    rw [lof_lo (by omega)] at h
    exact h.mono (by omega) (fun _ _ => by omega) hold (fun _ _ r hr e => by rw [hv r hr, e]) fun _ q => hvd _ (by omega) (by omega)
  · rw [ha]
    exact ⟨by omega, by rw [lof_lo (by dsimp only; omega)]; omega, by rw [lof_lo (by dsimp only; omega), uof_lo (by dsimp only; omega)]; exact Int.le_refl _, by rw [uof_lo (by dsimp only; omega)]; omega, by rw [uof_lo (by dsimp only; omega)]; omega, hk⟩
  · unfold Cont
    rw [uof_lo (by dsimp only; omega), uof_lo (by omega), held_lo (by dsimp only; omega), held_lo (by omega), hT, hB, vals_congr fun i h0 h1 => hvd i (by omega) (by omega)]

theorem own6 (hg : Glo l0 most nw M R) (ht : Tl K M R (some O)) (h : Own most K M R O) (hw : M.caller wk = true) (hn : O.next = 6) : ORes l0 most nw K wk M R O (O.step M wk).2 (O.step M wk).1 R := by
  have hlen := hg.len3
  have hb := ht.t0; have hu := ht.uk; have hk := ht.k; have htl := ht.tl; have hur := ht.ur; have hlu := ht.lu
  rw [lof_lo (by omega)] at htl
  rw [uof_lo (by omega)] at hu hur
  have hb7 := h.b7 (by omega) (by omega)
  have ht7 := h.t7 (by omega) (by omega)
  have hr7 := h.r7 (by omega) (by omega)
  have hl7 := h.l7 (by omega) (by omega)
  have hkb := h.kb (by omega)
  have hpw := hg.pw
  have hin := hg.in' O.b
  have hat3 := hg.at3
  have hr : O.run M wk = ({ O with next := 7 }, (M.tick wk).put (R.place O.b) O.x, 0, 0) := by
    unfold Dop.run; simp only [hn]; unfold Dop.f6; rw [hr7, st_ok hw (by omega) (by omega)]
  rw [step_is (live0 h.how) hr]
  dsimp only
  have hget : ∀ a, 0 ≤ a → ((M.tick wk).put (R.place O.b) O.x).get a = if a = R.place O.b then O.x else M.get a := fun a h0 => put_get (by omega) (by omega) h0
  have hT : ((M.tick wk).put (R.place O.b) O.x).T = M.T := by unfold Mac.T; rw [hget 0 (by omega), if_neg (by omega)]
  have hB : ((M.tick wk).put (R.place O.b) O.x).B = M.B := by unfold Mac.B; rw [hget 1 (by omega), if_neg (by omega)]
  have hv : ∀ r, Old R r → ∀ i, M.T ≤ i → i < O.b → ((M.tick wk).put (R.place O.b) O.x).get (r.place i) = M.get (r.place i) := fun r hr i h0 h1 => by
    have h2 := place_in hr.right i
    have h3 := hr.at3
    have h4 := place_in hg.right O.b
    rw [hget _ (by omega)]
    rcases hr.old with rfl | q
    · rw [if_neg (place_ne hg.right h1 (by omega))]
    · rw [if_neg (by omega)]
  have hO : Own most K ((M.tick wk).put (R.place O.b) O.x) R { O with next := 7, how := 0, err := 0 } := by
    constructor <;> dsimp only <;> intros <;> (first | omega | rfl | exact h.mo | exact h.kb (by omega) | exact h.b7 (by omega) (by omega) | exact h.t7 (by omega) (by omega) | exact h.r7 (by omega) (by omega) | exact h.g5 (by omega) (by omega) | exact h.l7 (by omega) (by omega) | exact h.x7 (by omega) | exact h.c3 (by omega) | exact h.to5 (by omega) (by omega) | exact h.c4 (by omega) | exact h.c5 (by omega) | exact h.len (by omega) | exact h.b10 (by omega) (by omega) | exact h.b14 (by omega) | exact h.r14 (by omega) (by omega) | exact h.t12 (by omega) | exact h.t13 (by omega) | exact h.t14 (by omega) | exact h.won (by omega) | assumption | (rw [len_put]; exact h.len (by omega)) | (rw [hget _ (by omega), if_pos rfl]))
  have ha : after { O with next := 7, how := 0, err := 0 } = some { O with next := 7, how := 0, err := 0 } := if_pos rfl
  refine ⟨glo_put hg (by omega) (by omega) hin.2, fun O2 h => ?_, ?_, by omega, rfl, rfl, by dsimp only; omega, rfl, fun q => by omega, fun _ _ => rfl, .inl rfl, fun _ => by rw [mu_5 (O := O) (by omega) (by omega), mu_5 (by dsimp only; omega) (by dsimp only; omega), hn]; dsimp only; omega, fun _ => hT, fun _ => hB, fun _ q => by unfold Nx; (try dsimp only); omega, fun q => by first | rfl | omega, ⟨by (try dsimp only); omega, fun _ => by (try dsimp only); omega⟩, .inl ⟨rfl, hO, ?_⟩⟩
  · rw [ha, lof_lo (by dsimp only; omega)]
    rw [lof_lo (by omega)] at h
    exact h.mono (by omega) (fun _ _ => by omega) (fun _ h => h) (fun _ _ r hr e => by rw [hv r hr _ (by omega) (by omega), e]) fun _ q => hv R hg.self _ (by omega) (by omega)
  · rw [ha]
    exact ⟨by omega, by rw [lof_lo (by dsimp only; omega)]; omega, by rw [lof_lo (by dsimp only; omega), uof_lo (by dsimp only; omega)]; exact Int.le_refl _, by rw [uof_lo (by dsimp only; omega)]; omega, by rw [uof_lo (by dsimp only; omega)]; omega, hk⟩
  · unfold Cont
    rw [uof_lo (by dsimp only; omega), uof_lo (by omega), held_lo (by dsimp only; omega), held_lo (by omega), hT, hB, vals_congr fun i h0 h1 => hv R hg.self i (by omega) (by omega)]

theorem own7 (hg : Glo l0 most nw M R) (ht : Tl K M R (some O)) (h : Own most K M R O) (hw : M.caller wk = true) (hn : O.next = 7) : ORes l0 most nw K wk M R O (O.step M wk).2 (O.step M wk).1 R := by
  have hlen := hg.len3
  have hb := ht.t0; have hu := ht.uk; have hk := ht.k; have htl := ht.tl; have hur := ht.ur; have hlu := ht.lu
  rw [lof_lo (by omega)] at htl
  rw [uof_lo (by omega)] at hu hur
  have hb7 := h.b7 (by omega) (by omega)
  have ht7 := h.t7 (by omega) (by omega)
  have hl7 := h.l7 (by omega) (by omega)
  have hx7 := h.x7 hn
  have hkb := h.kb (by omega)
  have hpw := hg.pw
  have hat3 := hg.at3
  have hr : O.run M wk = (O, (M.tick wk).put 1 (O.b + 1), 1, 0) := by
    unfold Dop.run; simp only [hn]; unfold Dop.f7; rw [wr_id (by omega) (by omega), st_ok hw (by omega) (by omega)]
  rw [step_is (live0 h.how) hr]
  dsimp only
  have hget : ∀ a, 0 ≤ a → ((M.tick wk).put 1 (O.b + 1)).get a = if a = 1 then O.b + 1 else M.get a := fun a h0 => put_get (by omega) (by omega) h0
  have hT : ((M.tick wk).put 1 (O.b + 1)).T = M.T := by unfold Mac.T; rw [hget 0 (by omega), if_neg (by omega)]
  have hB : ((M.tick wk).put 1 (O.b + 1)).B = O.b + 1 := by unfold Mac.B; rw [hget 1 (by omega), if_pos rfl]
  have hv : ∀ r, Old R r → ∀ i, ((M.tick wk).put 1 (O.b + 1)).get (r.place i) = M.get (r.place i) := fun r hr i => by
    have := hr.low i
    rw [hget _ (by omega), if_neg (by omega)]
  have ha : after { O with how := 1, err := 0 } = none := if_neg (by dsimp only; omega)
  refine ⟨glo_put hg (by omega) (by omega) (by omega), fun O2 h => ?_, ?_, by omega, rfl, rfl, Iff.rfl, rfl, fun q => by omega, fun _ _ => rfl, .inl rfl, fun q => by dsimp only at q; omega, fun _ => hT, fun q => by omega, fun _ q => by unfold Nx; (try dsimp only); omega, fun q => by first | rfl | omega, ⟨by (try dsimp only); omega, fun _ => by (try dsimp only); omega⟩, .inr ⟨by dsimp only; omega, by rw [len_put]; exact h.len (by omega), .inl ⟨hn, rfl, ?_, rfl⟩⟩⟩
  · rw [ha]
    rw [lof_lo (by omega)] at h
    exact h.mono (by omega) (fun _ _ => by simp only [Lof]; omega) (fun _ h => h) (fun _ _ r hr e => by rw [hv r hr, e]) fun _ q => hv R hg.self _
  · rw [ha]
    exact ⟨by omega, by simp only [Lof]; omega, Int.le_refl _, by simp only [Uof]; omega, by simp only [Uof]; omega, hk⟩
  · unfold Cont
    simp only [Uof, held, List.append_nil]
    rw [hT, hB, if_neg (by omega), if_neg (by omega), List.append_nil, show (O.b + 1 - M.T).toNat = (M.B - M.T).toNat + 1 by omega, vals_succ, vals_congr fun i h0 h1 => hv R hg.self i, hv R hg.self, show M.T + ((M.B - M.T).toNat : Int) = O.b by omega, hx7]

theorem own10 (hg : Glo l0 most nw M R) (ht : Tl K M R (some O)) (h : Own most K M R O) (hw : M.caller wk = true) (hn : O.next = 10) : ORes l0 most nw K wk M R O (O.step M wk).2 (O.step M wk).1 R := by
  have hlen := hg.len3
  have hb := ht.t0; have hu := ht.uk; have hk := ht.k; have htl := ht.tl; have hur := ht.ur; have hlu := ht.lu
  rw [lof_lo (by omega)] at htl
  rw [uof_lo (by omega)] at hu hur
  have hb10 := h.b10 (by omega) (by omega)
  have hr14 := h.r14 (by omega) (by omega)
  have hat3 := hg.at3
  have hr : O.run M wk = ({ O with next := 11 }, (M.tick wk).put 1 (O.b - 1), 0, 0) := by
    unfold Dop.run; simp only [hn]; unfold Dop.f10; rw [wr_id (by omega) (by omega), st_ok hw (by omega) (by omega)]
  rw [step_is (live0 h.how) hr]
  dsimp only
  have hget : ∀ a, 0 ≤ a → ((M.tick wk).put 1 (O.b - 1)).get a = if a = 1 then O.b - 1 else M.get a := fun a h0 => put_get (by omega) (by omega) h0
  have hT : ((M.tick wk).put 1 (O.b - 1)).T = M.T := by unfold Mac.T; rw [hget 0 (by omega), if_neg (by omega)]
  have hB : ((M.tick wk).put 1 (O.b - 1)).B = O.b - 1 := by unfold Mac.B; rw [hget 1 (by omega), if_pos rfl]
  have hv : ∀ r, Old R r → ∀ i, ((M.tick wk).put 1 (O.b - 1)).get (r.place i) = M.get (r.place i) := fun r hr i => by
    have := hr.low i
    rw [hget _ (by omega), if_neg (by omega)]
  have hO : Own most K ((M.tick wk).put 1 (O.b - 1)) R { O with next := 11, how := 0, err := 0 } := by
    constructor <;> dsimp only <;> intros <;> (first | omega | rfl | exact h.mo | exact h.kb (by omega) | exact h.b7 (by omega) (by omega) | exact h.t7 (by omega) (by omega) | exact h.r7 (by omega) (by omega) | exact h.g5 (by omega) (by omega) | exact h.l7 (by omega) (by omega) | exact h.x7 (by omega) | exact h.c3 (by omega) | exact h.to5 (by omega) (by omega) | exact h.c4 (by omega) | exact h.c5 (by omega) | exact h.len (by omega) | exact h.b10 (by omega) (by omega) | exact h.b14 (by omega) | exact h.r14 (by omega) (by omega) | exact h.t12 (by omega) | exact h.t13 (by omega) | exact h.t14 (by omega) | exact h.won (by omega) | assumption | (rw [len_put]; exact h.len (by omega)))
  have ha : after { O with next := 11, how := 0, err := 0 } = some { O with next := 11, how := 0, err := 0 } := if_pos rfl
  have hL : Lof ((M.tick wk).put 1 (O.b - 1)) (some { O with next := 11, how := 0, err := 0 }) = O.b := rfl
  have hU : Uof ((M.tick wk).put 1 (O.b - 1)) (some { O with next := 11, how := 0, err := 0 }) = O.b := rfl
  refine ⟨glo_put hg (by omega) (by omega) (by omega), fun O2 h => ?_, ?_, by omega, rfl, rfl, by dsimp only; omega, rfl, fun q => by omega, fun _ _ => rfl, .inl rfl, fun _ => by rw [mu_8 (O := O) (by omega), mu_8 (by dsimp only; omega), hn]; dsimp only; omega, fun _ => hT, fun q => by omega, fun _ q => by unfold Nx; (try dsimp only); omega, fun q => by first | rfl | omega, ⟨by (try dsimp only); omega, fun _ => by (try dsimp only); omega⟩, .inl ⟨rfl, hO, ?_⟩⟩
  · rw [ha, hL]
    rw [lof_lo (by omega)] at h
    exact h.mono (by omega) (fun _ _ => by omega) (fun _ h => h) (fun _ _ r hr e => by rw [hv r hr, e]) fun _ q => hv R hg.self _
  · rw [ha]
    exact ⟨by omega, by rw [hL]; omega, by rw [hL, hU]; exact Int.le_refl _, by rw [hU]; omega, by rw [hU]; omega, hk⟩
  · unfold Cont
    rw [hU, uof_lo (by omega), held_lo (by dsimp only; omega), held_lo (by omega), hT, ← hb10, vals_congr fun i h0 h1 => hv R hg.self i]

theorem own11 (hg : Glo l0 most nw M R) (ht : Tl K M R (some O)) (h : Own most K M R O) (hw : M.caller wk = true) (hn : O.next = 11) : ORes l0 most nw K wk M R O (O.step M wk).2 (O.step M wk).1 R := by
  have hlen := hg.len3
  have hb := ht.t0; have hu := ht.uk; have hk := ht.k; have htl := ht.tl; have hur := ht.ur; have hlu := ht.lu
  have hb14 := h.b14 (by omega)
  have hwon : O.next ≠ 14 → O.won = false := h.won
  have hat3 := hg.at3
  have hpw := hg.pw
  simp only [Lof, Uof, hn] at htl hlu hu hur
  simp at htl hlu hu hur
  have hwr : wr (O.b - 1) = O.b - 1 := wr_id (by omega) (by omega)
  have hr : O.run M wk = ({ O with t := M.T, next := if M.T > O.b - 1 then 14 else 12 }, M.tick wk, 0, 0) := by
    unfold Dop.run; simp only [hn]; unfold Dop.f11; rw [ld_ok hw (by omega) (by omega), hwr]; simp only [decide_eq_true_eq]
  have hLO : Lof M (some O) = O.b := by simp [Lof, hn]
  have hUO : Uof M (some O) = O.b := by simp [Uof, hn]
  rw [step_is (live0 h.how) hr]
  dsimp only
  by_cases hT : M.T > O.b - 1
  · rw [if_pos hT]
    have hL' : Lof M (some { O with t := M.T, next := 14, how := 0, err := 0 }) = O.b := by simp [Lof]
    have hU' : Uof M (some { O with t := M.T, next := 14, how := 0, err := 0 }) = O.b := by simp [Uof]
    refine res_silent hg ht ?_ rfl (by rw [hL']; omega) (by rw [hL', hLO]; exact id) (by rw [hL', hU']; exact Int.le_refl _) (by rw [hU', hUO]) ?_ (by dsimp only; omega) rfl (fun q => by omega) (fun q => by omega) (by rw [mu_8 (O := O) (by omega), mu_8 (by dsimp only; omega), hn]; dsimp only; omega) (fun q => by omega) (fun q => by omega)
    · constructor <;> dsimp only <;> intros <;> (first | omega | rfl | exact h.mo | exact h.kb (by omega) | exact h.b7 (by omega) (by omega) | exact h.t7 (by omega) (by omega) | exact h.r7 (by omega) (by omega) | exact h.g5 (by omega) (by omega) | exact h.l7 (by omega) (by omega) | exact h.x7 (by omega) | exact h.c3 (by omega) | exact h.to5 (by omega) (by omega) | exact h.c4 (by omega) | exact h.c5 (by omega) | exact h.len (by omega) | exact h.b10 (by omega) (by omega) | exact h.b14 (by omega) | exact h.r14 (by omega) (by omega) | exact h.t12 (by omega) | exact h.t13 (by omega) | exact h.t14 (by omega) | exact h.won (by omega) | assumption)
    · simp only [held, hn, hwon (by omega)]; simp
  · rw [if_neg hT]
    have hL' : Lof M (some { O with t := M.T, next := 12, how := 0, err := 0 }) = if M.T < O.b - 1 then O.b - 1 else O.b := by simp [Lof]
    have hU' : Uof M (some { O with t := M.T, next := 12, how := 0, err := 0 }) = O.b := by simp [Uof]
    refine res_silent hg ht ?_ rfl (by rw [hL']; split <;> omega) (by rw [hL', hLO]; split <;> omega) (by rw [hL', hU']; split <;> omega) (by rw [hU', hUO]) ?_ (by dsimp only; omega) rfl (fun q => by omega) (fun q => by omega) (by rw [mu_8 (O := O) (by omega), mu_8 (by dsimp only; omega), hn]; dsimp only; omega) (fun q => by omega) (fun q => by omega)
    · constructor <;> dsimp only <;> intros <;> (first | omega | rfl | exact h.mo | exact h.kb (by omega) | exact h.b7 (by omega) (by omega) | exact h.t7 (by omega) (by omega) | exact h.r7 (by omega) (by omega) | exact h.g5 (by omega) (by omega) | exact h.l7 (by omega) (by omega) | exact h.x7 (by omega) | exact h.c3 (by omega) | exact h.to5 (by omega) (by omega) | exact h.c4 (by omega) | exact h.c5 (by omega) | exact h.len (by omega) | exact h.b10 (by omega) (by omega) | exact h.b14 (by omega) | exact h.r14 (by omega) (by omega) | exact h.t12 (by omega) | exact h.t13 (by omega) | exact h.t14 (by omega) | exact h.won (by omega) | assumption | (refine ⟨?_, ?_, ?_⟩ <;> omega))
    · simp only [held, hn]; simp

theorem own12 (hg : Glo l0 most nw M R) (ht : Tl K M R (some O)) (h : Own most K M R O) (hw : M.caller wk = true) (hn : O.next = 12) : ORes l0 most nw K wk M R O (O.step M wk).2 (O.step M wk).1 R := by
  have hlen := hg.len3
  have hb := ht.t0; have hu := ht.uk; have hk := ht.k; have htl := ht.tl; have hur := ht.ur; have hlu := ht.lu
  have hb14 := h.b14 (by omega)
  have hwon : O.next ≠ 14 → O.won = false := h.won
  have hat3 := hg.at3
  have hpw := hg.pw

  have ht12 := h.t12 hn
  have hLO : Lof M (some O) = if O.t < O.b - 1 then O.b - 1 else O.b := by simp [Lof, hn]
  have hUO : Uof M (some O) = O.b := by simp [Uof, hn]
  rw [hLO] at htl hlu
  rw [hUO] at hlu hu hur
  have htb : M.T ≤ O.b := by split at htl <;> omega
  have hwr : wr (O.b - 1) = O.b - 1 := wr_id (by omega) (by omega)
  have hr14 := h.r14 (by omega) (by omega)
  have hin := hg.in' (O.b - 1)
  have hr : O.run M wk = ({ O with got := M.get (R.place (O.b - 1)), next := 13 }, M.tick wk, if O.t < O.b - 1 then 1 else 0, 0) := by
    unfold Dop.run; simp only [hn]; unfold Dop.f12; rw [hwr, hr14, ld_ok hw (by omega) (by omega)]; simp only [decide_eq_true_eq]
  rw [step_is (live0 h.how) hr]
  dsimp only
  by_cases hT : O.t < O.b - 1
  · rw [if_pos hT] at htl ⊢
    have ha : after { O with got := M.get (R.place (O.b - 1)), next := 13, how := 1, err := 0 } = none := if_neg (by dsimp only; omega)
    refine ⟨glo_tick hg, fun O2 q => ?_, ?_, Int.le_refl _, rfl, rfl, by dsimp only; omega, rfl, fun q => by omega, fun _ _ => rfl, .inl rfl, fun q => by dsimp only at q; omega, fun _ => rfl, fun _ => rfl, fun _ q => by unfold Nx; (try dsimp only); omega, fun q => by first | rfl | omega, ⟨by (try dsimp only); omega, fun _ => by (try dsimp only); omega⟩, .inr ⟨by dsimp only; omega, h.len (by omega), .inr (.inr (.inl ⟨by omega, rfl, ?_⟩))⟩⟩
    · rw [ha]; rw [hLO, if_pos hT] at q
      exact thf_tick q (by rw [lof_tick]; simp only [Lof]; omega)
    · rw [ha]
      exact ⟨hb, by rw [lof_tick]; show M.T ≤ M.B; omega, Int.le_refl _, by rw [uof_tick]; simp only [Uof]; show M.B - M.T ≤ _; omega, by rw [uof_tick]; simp only [Uof]; omega, hk⟩
    · rw [cont_tick]
      unfold Cont
      rw [hUO, held_lo (by omega)]
      simp only [Uof, held, List.append_nil]
      rw [show (O.b - M.T).toNat = (M.B - M.T).toNat + 1 by omega, vals_succ, show M.T + ((M.B - M.T).toNat : Int) = O.b - 1 by omega]
  · rw [if_neg hT] at htl hlu ⊢
    have hL' : Lof M (some { O with got := M.get (R.place (O.b - 1)), next := 13, how := 0, err := 0 }) = O.b := by simp [Lof]
    have hU' : Uof M (some { O with got := M.get (R.place (O.b - 1)), next := 13, how := 0, err := 0 }) = O.b := by simp [Uof]
    refine res_silent hg ht ?_ rfl (by rw [hL']; omega) (by rw [hL', hLO, if_neg hT]; exact id) (by rw [hL', hU']; exact Int.le_refl _) (by rw [hU', hUO]) ?_ (by dsimp only; omega) rfl (fun q => by omega) (fun q => by omega) (by rw [mu_8 (O := O) (by omega), mu_8 (by dsimp only; omega), hn]; dsimp only; omega) (fun q => by omega) (fun q => by omega)
    · constructor <;> dsimp only <;> intros <;> (first | omega | rfl | exact h.mo | exact h.kb (by omega) | exact h.b7 (by omega) (by omega) | exact h.t7 (by omega) (by omega) | exact h.r7 (by omega) (by omega) | exact h.g5 (by omega) (by omega) | exact h.l7 (by omega) (by omega) | exact h.x7 (by omega) | exact h.c3 (by omega) | exact h.to5 (by omega) (by omega) | exact h.c4 (by omega) | exact h.c5 (by omega) | exact h.len (by omega) | exact h.b10 (by omega) (by omega) | exact h.b14 (by omega) | exact h.r14 (by omega) (by omega) | exact h.t12 (by omega) | exact h.t13 (by omega) | exact h.t14 (by omega) | exact h.won (by omega) | assumption | (refine ⟨?_, ?_, ?_⟩ <;> (first | omega | rfl)))
    · simp only [held, hn]; simp

theorem own13 (hg : Glo l0 most nw M R) (ht : Tl K M R (some O)) (h : Own most K M R O) (hw : M.caller wk = true) (hn : O.next = 13) : ORes l0 most nw K wk M R O (O.step M wk).2 (O.step M wk).1 R := by
  have hlen := hg.len3
  have hb := ht.t0; have hu := ht.uk; have hk := ht.k; have htl := ht.tl; have hur := ht.ur; have hlu := ht.lu
  have hb14 := h.b14 (by omega)
  have hwon : O.next ≠ 14 → O.won = false := h.won
  have hat3 := hg.at3
  have hpw := hg.pw
  simp only [Lof, Uof, hn] at htl hlu hu hur
  simp at htl hlu hu hur
  have ht13 := h.t13 hn
  have hr14 := h.r14 (by omega) (by omega)
  have hLO : Lof M (some O) = O.b := by simp [Lof, hn]
  have hUO : Uof M (some O) = O.b := by simp [Uof, hn]
  have hwr : wr (O.t + 1) = O.t + 1 := wr_id (by omega) (by omega)
  have hc := cas_ok (M := M) (wk := wk) (a := 0) (old := O.t) (x := O.t + 1) hw (by omega) (by omega)
  by_cases hT : M.T = O.t
  · rw [if_pos hT] at hc
    have hr : O.run M wk = ({ O with won := true, next := 14 }, (M.tick wk).put 0 (O.t + 1), 0, 0) := by
      unfold Dop.run; simp only [hn]; unfold Dop.f13; rw [hwr, hc]
    rw [step_is (live0 h.how) hr]
    dsimp only
    have hget : ∀ a, 0 ≤ a → ((M.tick wk).put 0 (O.t + 1)).get a = if a = 0 then O.t + 1 else M.get a := fun a h0 => put_get (by omega) (by omega) h0
    have hT' : ((M.tick wk).put 0 (O.t + 1)).T = O.t + 1 := by unfold Mac.T; rw [hget 0 (by omega), if_pos rfl]
    have hB' : ((M.tick wk).put 0 (O.t + 1)).B = M.B := by unfold Mac.B; rw [hget 1 (by omega), if_neg (by omega)]
    have ha : after { O with won := true, next := 14, how := 0, err := 0 } = some { O with won := true, next := 14, how := 0, err := 0 } := if_pos rfl
    have hL' : Lof ((M.tick wk).put 0 (O.t + 1)) (some { O with won := true, next := 14, how := 0, err := 0 }) = O.b := by simp [Lof]
    have hU' : Uof ((M.tick wk).put 0 (O.t + 1)) (some { O with won := true, next := 14, how := 0, err := 0 }) = O.b := by simp [Uof]
    refine ⟨glo_put hg (by omega) (by omega) (by omega), fun O2 q => ?_, ?_, by omega, rfl, rfl, by dsimp only; omega, rfl, fun q => by omega, fun _ _ => rfl, .inl rfl, fun _ => by rw [mu_8 (O := O) (by omega), mu_8 (by dsimp only; omega), hn]; dsimp only; omega, fun q => by omega, fun q => by omega, fun _ q => by unfold Nx; (try dsimp only); omega, fun q => by first | rfl | omega, ⟨by (try dsimp only); omega, fun _ => by (try dsimp only); omega⟩, .inl ⟨rfl, ?_, ?_⟩⟩
    · exact q.mono (by omega) (fun e => by omega) (fun _ h => h) (fun e => by omega) fun e => by omega
    · rw [ha]
      exact ⟨by omega, by rw [hL']; omega, by rw [hL', hU']; exact Int.le_refl _, by rw [hU']; omega, by rw [hU']; omega, hk⟩
    · constructor <;> dsimp only <;> intros <;> (first | omega | rfl | exact h.mo | exact h.kb (by omega) | exact h.b7 (by omega) (by omega) | exact h.t7 (by omega) (by omega) | exact h.r7 (by omega) (by omega) | exact h.g5 (by omega) (by omega) | exact h.l7 (by omega) (by omega) | exact h.x7 (by omega) | exact h.c3 (by omega) | exact h.to5 (by omega) (by omega) | exact h.c4 (by omega) | exact h.c5 (by omega) | exact h.len (by omega) | exact h.b10 (by omega) (by omega) | exact h.b14 (by omega) | exact h.r14 (by omega) (by omega) | exact h.t12 (by omega) | exact h.t13 (by omega) | exact h.t14 (by omega) | exact h.won (by omega) | assumption | (rw [len_put]; exact h.len (by omega)))
    · unfold Cont
      rw [hU', hUO, hT', hT, held_lo (O := O) (by omega), show (O.b - (O.t + 1)).toNat = 0 by omega, show (O.b - O.t).toNat = 1 by omega]
      simp only [held, Mac.vals, List.range_zero, List.range_succ, List.map_nil, List.map_cons, List.map_append, List.nil_append, List.append_nil]
      rw [if_pos (by simp), ht13.2.2, show O.t + ((0 : Nat) : Int) = O.b - 1 by omega]
  · rw [if_neg (show ¬ M.get 0 = O.t from hT)] at hc
    have hr : O.run M wk = ({ O with won := false, next := 14 }, M.tick wk, 0, 0) := by
      unfold Dop.run; simp only [hn]; unfold Dop.f13; rw [hwr, hc]
    rw [step_is (live0 h.how) hr]
    dsimp only
    have hL' : Lof M (some { O with won := false, next := 14, how := 0, err := 0 }) = O.b := by simp [Lof]
    have hU' : Uof M (some { O with won := false, next := 14, how := 0, err := 0 }) = O.b := by simp [Uof]
    refine res_silent hg ht ?_ rfl (by rw [hL']; omega) (by rw [hL', hLO]; exact id) (by rw [hL', hU']; exact Int.le_refl _) (by rw [hU', hUO]) ?_ (by dsimp only; omega) rfl (fun q => by omega) (fun q => by omega) (by rw [mu_8 (O := O) (by omega), mu_8 (by dsimp only; omega), hn]; dsimp only; omega) (fun q => by omega) (fun q => by omega)
    · constructor <;> dsimp only <;> intros <;> (first | omega | rfl | exact h.mo | exact h.kb (by omega) | exact h.b7 (by omega) (by omega) | exact h.t7 (by omega) (by omega) | exact h.r7 (by omega) (by omega) | exact h.g5 (by omega) (by omega) | exact h.l7 (by omega) (by omega) | exact h.x7 (by omega) | exact h.c3 (by omega) | exact h.to5 (by omega) (by omega) | exact h.c4 (by omega) | exact h.c5 (by omega) | exact h.len (by omega) | exact h.b10 (by omega) (by omega) | exact h.b14 (by omega) | exact h.r14 (by omega) (by omega) | exact h.t12 (by omega) | exact h.t13 (by omega) | exact h.t14 (by omega) | exact h.won (by omega) | assumption | (show M.T = O.b; omega))
    · simp only [held, hn]; simp

theorem own14 (hg : Glo l0 most nw M R) (ht : Tl K M R (some O)) (h : Own most K M R O) (hw : M.caller wk = true) (hn : O.next = 14) : ORes l0 most nw K wk M R O (O.step M wk).2 (O.step M wk).1 R := by
  have hlen := hg.len3
  have hb := ht.t0; have hu := ht.uk; have hk := ht.k; have htl := ht.tl; have hur := ht.ur; have hlu := ht.lu
  have hb14 := h.b14 (by omega)
  have hwon : O.next ≠ 14 → O.won = false := h.won
  have hat3 := hg.at3
  have hpw := hg.pw
  simp only [Lof, Uof, hn] at htl hlu hu hur
  simp at htl hlu hu hur
  have ht14 := h.t14 hn
  have hLO : Lof M (some O) = O.b := by simp [Lof, hn]
  have hUO : Uof M (some O) = O.b := by simp [Uof, hn]
  have hr : O.run M wk = (O, (M.tick wk).put 1 O.b, if O.won then 1 else 3, 0) := by
    unfold Dop.run; simp only [hn]; unfold Dop.f14; rw [st_ok hw (by omega) (by omega)]
  rw [step_is (live0 h.how) hr]
  dsimp only
  have hget : ∀ a, 0 ≤ a → ((M.tick wk).put 1 O.b).get a = if a = 1 then O.b else M.get a := fun a h0 => put_get (by omega) (by omega) h0
  have hT' : ((M.tick wk).put 1 O.b).T = M.T := by unfold Mac.T; rw [hget 0 (by omega), if_neg (by omega)]
  have hB' : ((M.tick wk).put 1 O.b).B = O.b := by unfold Mac.B; rw [hget 1 (by omega), if_pos rfl]
  have hv : ∀ r, Old R r → ∀ i, ((M.tick wk).put 1 O.b).get (r.place i) = M.get (r.place i) := fun r hr i => by
    have := hr.low i
    rw [hget _ (by omega), if_neg (by omega)]
  have hh : (if O.won then 1 else 3 : Int) ≠ 0 := by split <;> omega
  have ha : after { O with how := if O.won then 1 else 3, err := 0 } = none := if_neg hh
  have hC : Cont ((M.tick wk).put 1 O.b) R none = [] := by
    unfold Cont
    simp only [Uof, held, List.append_nil]
    rw [hT', hB', show (O.b - M.T).toNat = 0 by omega]; rfl
  have hC2 : Cont M R (some O) = held (some O) := by
    unfold Cont
    rw [hUO, show (O.b - M.T).toNat = 0 by omega]; rfl
  refine ⟨glo_put hg (by omega) (by omega) (by omega), fun O2 h => ?_, ?_, by omega, rfl, rfl, Iff.rfl, rfl, fun q => by omega, fun _ _ => rfl, .inl rfl, fun q => (hh q).elim, fun q => by omega, fun q => by omega, fun _ q => by unfold Nx; (try dsimp only); omega, fun q => by first | rfl | omega, ⟨by (try dsimp only); omega, fun _ => by (try dsimp only); omega⟩, .inr ⟨hh, by rw [len_put]; exact h.len (by omega), ?_⟩⟩
  · rw [ha]
    rw [hLO] at h
    exact h.mono (by omega) (fun _ _ => by simp only [Lof]; omega) (fun _ h => h) (fun _ _ r hr e => by rw [hv r hr, e]) fun _ q => hv R hg.self _
  · rw [ha]
    exact ⟨by omega, by simp only [Lof]; omega, Int.le_refl _, by simp only [Uof]; omega, by simp only [Uof]; omega, hk⟩
  · rw [hC, hC2]
    simp only [held]
    cases hwn : O.won with
    | true => exact .inr (.inr (.inl ⟨by omega, rfl, by simp [hn]⟩))
    | false => exact .inr (.inr (.inr ⟨by omega, by simp, by simp, by simp⟩))
theorem own_step (hg : Glo l0 most nw M R) (ht : Tl K M R (some O)) (h : Own most K M R O) (hw : M.caller wk = true) : ∃ R', ORes l0 most nw K wk M R O (O.step M wk).2 (O.step M wk).1 R' := by
  have hn := h.n
  have : O.next = 0 ∨ O.next = 1 ∨ O.next = 2 ∨ O.next = 3 ∨ O.next = 4 ∨ O.next = 5 ∨ O.next = 6 ∨ O.next = 7 ∨ O.next = 8 ∨ O.next = 9 ∨ O.next = 10 ∨ O.next = 11 ∨ O.next = 12 ∨ O.next = 13 ∨ O.next = 14 := by omega
  rcases this with q | q | q | q | q | q | q | q | q | q | q | q | q | q | q
  · exact ⟨_, own0 hg ht h hw q⟩
  · exact ⟨_, own1 hg ht h hw q⟩
  · exact ⟨_, own2 hg ht h hw q⟩
  · exact ⟨_, own3 hg ht h hw q⟩
  · exact ⟨_, own4 hg ht h hw q⟩
  · exact ⟨_, own5 hg ht h hw q⟩
  · exact ⟨_, own6 hg ht h hw q⟩
  · exact ⟨_, own7 hg ht h hw q⟩
  · exact ⟨_, own8 hg ht h hw q⟩
  · exact ⟨_, own9 hg ht h hw q⟩
  · exact ⟨_, own10 hg ht h hw q⟩
  · exact ⟨_, own11 hg ht h hw q⟩
  · exact ⟨_, own12 hg ht h hw q⟩
  · exact ⟨_, own13 hg ht h hw q⟩
  · exact ⟨_, own14 hg ht h hw q⟩
end
end Go.Proofs.Ytheallacpidcmaa
