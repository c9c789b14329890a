/-
  Layer 10: each step of the owner keeps what always holds.
-/
import Derived.Test.YtheallacpidcmaaQg
set_option linter.unusedSimpArgs false
set_option linter.unusedVariables false
set_option maxRecDepth 100000
namespace Go.Proofs.Ytheallacpidcmaa
open Go Go.Ev Go.Proofs

def after (O : Dop) : Option Dop := if O.how = 0 then some O else none
/-- how many steps are left, if nobody else takes any -/
def mu (R : Rg) (O : Dop) : Int :=
  if O.next ≤ 2 then (if R.Log < 8 then 2 * (R.pw : Int) + 7 else 5) - O.next
  else if O.next = 3 then 2 * (O.b - O.t) + 4
  else if O.next = 4 then (match O.copy with | some c => 2 * (O.b - c.at_) + 3 - (if c.loaded then 1 else 0) | none => 0)
  else if O.next ≤ 7 then 8 - O.next
  else 15 - O.next
theorem mu_lo {R : Rg} {O : Dop} (h : O.next ≤ 2) : mu R O = (if R.Log < 8 then 2 * (R.pw : Int) + 7 else 5) - O.next := if_pos h
theorem mu_3 {R : Rg} {O : Dop} (h : O.next = 3) : mu R O = 2 * (O.b - O.t) + 4 := by unfold mu; rw [if_neg (by omega), if_pos h]
theorem mu_4 {R : Rg} {O : Dop} {c : Cp} (h : O.next = 4) (hc : O.copy = some c) : mu R O = 2 * (O.b - c.at_) + 3 - (if c.loaded then 1 else 0) := by
  unfold mu; rw [if_neg (by omega), if_neg (by omega), if_pos h, hc]
theorem mu_5 {R : Rg} {O : Dop} (h : 5 ≤ O.next) (h7 : O.next ≤ 7) : mu R O = 8 - O.next := by
  unfold mu; rw [if_neg (by omega), if_neg (by omega), if_neg (by omega), if_pos h7]
theorem mu_8 {R : Rg} {O : Dop} (h : 8 ≤ O.next) : mu R O = 15 - O.next := by
  unfold mu; rw [if_neg (by omega), if_neg (by omega), if_neg (by omega), if_neg (by omega)]
/-- which step comes next, in a push -/
def Nx (a b : Nat) : Prop := (a = 2 ∧ (b = 3 ∨ b = 6)) ∨ (a ≠ 2 ∧ b = a + 1) ∨ (a = 4 ∧ b = 4)
/-- what a step of the owner comes to -/
structure ORes (l0 most : Int) (nw : Nat) (K : Int) (wk : Int) (M : Mac) (R : Rg) (O : Dop) (M' : Mac) (O' : Dop) (R' : Rg) : Prop where
  glo : Glo l0 most nw M' R'
  thf : ∀ O2, Thf M R (Lof M (some O)) O2 → Thf M' R' (Lof M' (after O')) O2
  tl : Tl K M' R' (after O')
  mono : M.T ≤ M'.T
  err : O'.err = 0
  steps : M'.steps = (M.tick wk).steps
  kind : O.next ≤ 7 ↔ O'.next ≤ 7
  x : O'.x = O.x
  t1 : O.next = 1 → O'.t = M.T
  t2 : 2 ≤ O.next → O.next ≤ 7 → O'.t = O.t
  ring : R' = R ∨ (O.next = 5 ∧ R' = R.dbl)
  mu : O'.how = 0 → mu R' O' < mu R O ∧ (O.next ≤ 7 → ¬ (O.next = 2 ∧ O'.next = 6) → mu R' O' + 1 = mu R O)
  tk : O.next ≤ 12 → M'.T = M.T
  bk : O.next < 7 → M'.B = M.B
  nx : O'.how = 0 → O.next ≤ 6 → Nx O.next O'.next
  got : O.next ≤ 7 → O'.got = O.got
  fin : O'.next ≤ 14 ∧ (O'.how ≠ 0 → O'.next ≠ 3 ∧ O'.next ≠ 4)
  alt : (O'.how = 0 ∧ Own most K M' R' O' ∧ Cont M' R' (some O') = Cont M R (some O)) ∨
    (O'.how ≠ 0 ∧ M'.len = R'.At + R'.pw ∧
      ((O.next = 7 ∧ O'.how = 1 ∧ Cont M' R' none = Cont M R (some O) ++ [O.x] ∧ R' = R) ∨
       (O.next = 2 ∧ O'.how = 4 ∧ Cont M' R' none = Cont M R (some O) ∧ R' = R ∧ R.Log = most ∧ O.b - O.t ≥ R.pw) ∨
       (8 ≤ O.next ∧ O'.how = 1 ∧ Cont M R (some O) = Cont M' R' none ++ [O'.got]) ∨
       (8 ≤ O.next ∧ O'.how = 3 ∧ Cont M R (some O) = [] ∧ Cont M' R' none = [])))

theorem step_of {O : Dop} {M : Mac} {wk : Int} {r : Dst} (hl : O.live = true) (hr : O.run M wk = r) : O.step M wk = ({ r.1 with how := if r.2.2.2 = 0 then r.2.2.1 else 6, err := r.2.2.2 }, r.2.1) := by
  unfold Dop.step; rw [if_pos hl, hr]
theorem step_is {O O1 : Dop} {M M1 : Mac} {wk n : Int} (hl : O.live = true) (hr : O.run M wk = (O1, M1, n, 0)) : O.step M wk = ({ O1 with how := n, err := 0 }, M1) := by
  rw [step_of hl hr]; rfl
theorem live0 {O : Dop} (h : O.how = 0) : O.live = true := by unfold Dop.live; rw [h]; rfl
theorem ld_ok {M : Mac} {wk a : Int} (hw : M.caller wk = true) (h0 : 0 ≤ a) (h1 : a < M.len) : M.ld wk a = (M.tick wk, M.get a, 0) := by
  unfold Mac.ld Mac.can
  rw [hw, show M.given a = true from decide_eq_true ⟨h0, h1⟩]; rfl
theorem st_ok {M : Mac} {wk a x : Int} (hw : M.caller wk = true) (h0 : 0 ≤ a) (h1 : a < M.len) : M.st wk a x = ((M.tick wk).put a x, 0) := by
  unfold Mac.st Mac.can
  rw [hw, show M.given a = true from decide_eq_true ⟨h0, h1⟩]; rfl
theorem cas_ok {M : Mac} {wk a old x : Int} (hw : M.caller wk = true) (h0 : 0 ≤ a) (h1 : a < M.len) : M.cas wk a old x = if M.get a = old then ((M.tick wk).put a x, true, 0) else (M.tick wk, false, 0) := by
  unfold Mac.cas Mac.can
  rw [hw, show M.given a = true from decide_eq_true ⟨h0, h1⟩]; rfl
theorem wr_id {x : Int} (h0 : -2000 ≤ x) (h1 : x ≤ 2000) : wr x = x := wrap_id ⟨by omega, by omega⟩

section
variable {l0 most K wk : Int} {nw : Nat} {M : Mac} {R : Rg} {O O' : Dop}
theorem glo_tick (h : Glo l0 most nw M R) : Glo l0 most nw (M.tick wk) R := ⟨⟨h.ok.size, h.ok.fit⟩, h.sz, by simp [Mac.tick, h.st], h.word, h.right, h.lg0, h.lg1, h.lg2, h.lg3, h.at', h.fit⟩
theorem cpy_tick {c : Cp} (h : Cpy M R O c) : Cpy (M.tick wk) R O c := ⟨h.cp, h.a, h.b, h.un, h.a0, h.a1, h.has, h.did⟩
theorem own_tick (h : Own most K M R O) : Own most K (M.tick wk) R O :=
  ⟨h.mo, h.how, h.n, h.kb, h.b7, h.t7, h.r7, h.g5, h.l7, h.x7, h.c3, h.to5, fun q => by obtain ⟨c, hc⟩ := h.c4 q; exact ⟨c, cpy_tick hc⟩, h.c5, h.len, h.b10, h.b14, h.r14, h.t12, h.t13, h.t14, h.won⟩
theorem lof_tick (o : Option Dop) : Lof (M.tick wk) o = Lof M o := by cases o <;> rfl
theorem uof_tick (o : Option Dop) : Uof (M.tick wk) o = Uof M o := by cases o <;> rfl
theorem cont_tick (o : Option Dop) : Cont (M.tick wk) R o = Cont M R o := by unfold Cont; rw [uof_tick]; rfl
theorem thf_tick {L L' : Int} {O2 : Dop} (h : Thf M R L O2) (hL : M.T < L → M.T < L') : Thf (M.tick wk) R L' O2 :=
  h.mono (Int.le_refl _) (fun _ => hL) (fun _ h => h) (fun _ _ _ _ h => h) fun _ _ => rfl
theorem Glo.len3 (h : Glo l0 most nw M R) : 4 ≤ M.len := by have := h.fit; have := h.at3; have := h.pw; omega
theorem Glo.in' (h : Glo l0 most nw M R) (i : Int) : 3 ≤ R.place i ∧ R.place i < M.len := by
  have h1 := place_in h.right i; have h2 := h.fit; have h3 := h.at3; omega
/-- a step that stores nothing, and more is to do -/
theorem res_silent (hg : Glo l0 most nw M R) (ht : Tl K M R (some O)) (hO : Own most K M R O') (he : O'.err = 0)
    (hL1 : M.T ≤ Lof M (some O')) (hL2 : M.T < Lof M (some O) → M.T < Lof M (some O')) (hL3 : Lof M (some O') ≤ Uof M (some O')) (hU : Uof M (some O') = Uof M (some O)) (hh : held (some O') = held (some O))
    (hk : O.next ≤ 7 ↔ O'.next ≤ 7) (hx : O'.x = O.x) (h1 : O.next = 1 → O'.t = M.T) (h2 : 2 ≤ O.next → O.next ≤ 7 → O'.t = O.t) (hm : mu R O' < mu R O ∧ (O.next ≤ 7 → ¬ (O.next = 2 ∧ O'.next = 6) → mu R O' + 1 = mu R O)) (hnx : O.next ≤ 6 → Nx O.next O'.next) (hgot : O.next ≤ 7 → O'.got = O.got) : ORes l0 most nw K wk M R O (M.tick wk) O' R := by
  have ha : after O' = some O' := if_pos hO.how
  refine ⟨glo_tick hg, fun O2 h => ?_, ?_, Int.le_refl _, he, rfl, hk, hx, h1, h2, .inl rfl, fun _ => hm, fun _ => rfl, fun _ => rfl, fun _ => hnx, hgot, ⟨hO.n, fun q => (q hO.how).elim⟩, .inl ⟨hO.how, own_tick hO, ?_⟩⟩
  · rw [ha, lof_tick]; exact thf_tick h hL2
  · rw [ha]
    exact ⟨ht.t0, by rw [lof_tick]; exact hL1, by rw [lof_tick, uof_tick]; exact hL3, by rw [uof_tick, hU]; exact ht.ur, by rw [uof_tick, hU]; exact ht.uk, ht.k⟩
  · rw [cont_tick]; unfold Cont; rw [hU, hh]
theorem lof_lo (h : O.next ≤ 10) : Lof M (some O) = M.B := by simp only [Lof]; rw [if_neg (by omega), if_neg (by omega)]
theorem uof_lo (h : O.next ≤ 10) : Uof M (some O) = M.B := by simp only [Uof]; rw [if_neg (by omega)]
theorem held_lo (h : O.next ≠ 14) : held (some O) = [] := by simp only [held]; rw [if_neg (fun q => h q.1)]
theorem res_lo (hg : Glo l0 most nw M R) (ht : Tl K M R (some O)) (hO : Own most K M R O') (he : O'.err = 0) (hn : O.next ≤ 10) (hn' : O'.next ≤ 10)
    (hk : O.next ≤ 7 ↔ O'.next ≤ 7) (hx : O'.x = O.x) (h1 : O.next = 1 → O'.t = M.T) (h2 : 2 ≤ O.next → O.next ≤ 7 → O'.t = O.t) (hm : mu R O' < mu R O ∧ (O.next ≤ 7 → ¬ (O.next = 2 ∧ O'.next = 6) → mu R O' + 1 = mu R O)) (hnx : O.next ≤ 6 → Nx O.next O'.next) (hgot : O.next ≤ 7 → O'.got = O.got) : ORes l0 most nw K wk M R O (M.tick wk) O' R := by
  have htl := ht.tl
  rw [lof_lo hn] at htl
  exact res_silent hg ht hO he (by rw [lof_lo hn']; exact htl) (by rw [lof_lo hn, lof_lo hn']; exact id) (by rw [lof_lo hn', uof_lo hn']; exact Int.le_refl _) (by rw [uof_lo hn', uof_lo hn]) (by rw [held_lo (by omega), held_lo (by omega)]) hk hx h1 h2 hm hnx hgot

theorem own0 (hg : Glo l0 most nw M R) (ht : Tl K M R (some O)) (h : Own most K M R O) (hw : M.caller wk = true) (hn : O.next = 0) : ORes l0 most nw K wk M R O (O.step M wk).2 (O.step M wk).1 R := by
  have hlen := hg.len3
  have hr : O.run M wk = ({ O with b := M.B, next := 1 }, M.tick wk, 0, 0) := by
    unfold Dop.run; simp only [hn]; unfold Dop.f0; rw [ld_ok hw (by omega) (by omega)]
  rw [step_is (live0 h.how) hr]
  dsimp only
  have hb := ht.t0; have hu := ht.uk; have hk := ht.k; have htl := ht.tl; have hur := ht.ur
  rw [lof_lo (by omega)] at htl
  rw [uof_lo (by omega)] at hu hur
  refine res_lo hg ht ?_ rfl (by omega) (by dsimp only; omega) (by dsimp only; omega) rfl (fun q => by omega) (fun q => by omega) (by rw [mu_lo (by dsimp only; omega), mu_lo (by omega), hn]; dsimp only; omega) (fun q => by unfold Nx; dsimp only; omega) (fun _ => rfl)
  have hb7 := h.b7
  constructor <;> dsimp only <;> intros <;> (first | omega | rfl | exact h.mo | exact h.kb (by omega) | exact h.b7 (by omega) (by omega) | exact h.t7 (by omega) (by omega) | exact h.r7 (by omega) (by omega) | exact h.g5 (by omega) (by omega) | exact h.l7 (by omega) (by omega) | exact h.x7 (by omega) | exact h.c3 (by omega) | exact h.to5 (by omega) (by omega) | exact h.c4 (by omega) | exact h.c5 (by omega) | exact h.len (by omega) | exact h.b10 (by omega) (by omega) | exact h.b14 (by omega) | exact h.r14 (by omega) (by omega) | exact h.t12 (by omega) | exact h.t13 (by omega) | exact h.t14 (by omega) | exact h.won (by omega) | assumption | (refine ⟨?_, ?_, ?_⟩ <;> (first | omega | (have := hb7 (by omega) (by omega); omega))))

theorem own1 (hg : Glo l0 most nw M R) (ht : Tl K M R (some O)) (h : Own most K M R O) (hw : M.caller wk = true) (hn : O.next = 1) : ORes l0 most nw K wk M R O (O.step M wk).2 (O.step M wk).1 R := by
  have hlen := hg.len3
  have hr : O.run M wk = ({ O with t := M.T, next := 2 }, M.tick wk, 0, 0) := by
    unfold Dop.run; simp only [hn]; unfold Dop.f1; rw [ld_ok hw (by omega) (by omega)]
  rw [step_is (live0 h.how) hr]
  dsimp only
  have hb := ht.t0; have hu := ht.uk; have hk := ht.k; have htl := ht.tl; have hur := ht.ur
  rw [lof_lo (by omega)] at htl
  rw [uof_lo (by omega)] at hu hur
  refine res_lo hg ht ?_ rfl (by omega) (by dsimp only; omega) (by dsimp only; omega) rfl (fun q => by rfl) (fun q => by omega) (by rw [mu_lo (by dsimp only; omega), mu_lo (by omega), hn]; dsimp only; omega) (fun q => by unfold Nx; dsimp only; omega) (fun _ => rfl)
  have hb7 := h.b7
  constructor <;> dsimp only <;> intros <;> (first | omega | rfl | exact h.mo | exact h.kb (by omega) | exact h.b7 (by omega) (by omega) | exact h.t7 (by omega) (by omega) | exact h.r7 (by omega) (by omega) | exact h.g5 (by omega) (by omega) | exact h.l7 (by omega) (by omega) | exact h.x7 (by omega) | exact h.c3 (by omega) | exact h.to5 (by omega) (by omega) | exact h.c4 (by omega) | exact h.c5 (by omega) | exact h.len (by omega) | exact h.b10 (by omega) (by omega) | exact h.b14 (by omega) | exact h.r14 (by omega) (by omega) | exact h.t12 (by omega) | exact h.t13 (by omega) | exact h.t14 (by omega) | exact h.won (by omega) | assumption | (refine ⟨?_, ?_, ?_⟩ <;> (first | omega | (have := hb7 (by omega) (by omega); omega))))

theorem own8 (hg : Glo l0 most nw M R) (ht : Tl K M R (some O)) (h : Own most K M R O) (hw : M.caller wk = true) (hn : O.next = 8) : ORes l0 most nw K wk M R O (O.step M wk).2 (O.step M wk).1 R := by
  have hlen := hg.len3
  have hr : O.run M wk = ({ O with b := M.B, next := 9 }, M.tick wk, 0, 0) := by
    unfold Dop.run; simp only [hn]; unfold Dop.f8; rw [ld_ok hw (by omega) (by omega)]
  rw [step_is (live0 h.how) hr]
  dsimp only
  have hb := ht.t0; have hu := ht.uk; have hk := ht.k; have htl := ht.tl; have hur := ht.ur
  rw [lof_lo (by omega)] at htl
  rw [uof_lo (by omega)] at hu hur
  refine res_lo hg ht ?_ rfl (by omega) (by dsimp only; omega) (by dsimp only; omega) rfl (fun q => by omega) (fun q => by omega) (by rw [mu_8 (by dsimp only; omega), mu_8 (by omega), hn]; dsimp only; omega) (fun q => by unfold Nx; dsimp only; omega) (fun _ => rfl)
  have hb7 := h.b7
  constructor <;> dsimp only <;> intros <;> (first | omega | rfl | exact h.mo | exact h.kb (by omega) | exact h.b7 (by omega) (by omega) | exact h.t7 (by omega) (by omega) | exact h.r7 (by omega) (by omega) | exact h.g5 (by omega) (by omega) | exact h.l7 (by omega) (by omega) | exact h.x7 (by omega) | exact h.c3 (by omega) | exact h.to5 (by omega) (by omega) | exact h.c4 (by omega) | exact h.c5 (by omega) | exact h.len (by omega) | exact h.b10 (by omega) (by omega) | exact h.b14 (by omega) | exact h.r14 (by omega) (by omega) | exact h.t12 (by omega) | exact h.t13 (by omega) | exact h.t14 (by omega) | exact h.won (by omega) | assumption | (refine ⟨?_, ?_, ?_⟩ <;> (first | omega | (have := hb7 (by omega) (by omega); omega))))

theorem read_ok (hg : Glo l0 most nw M R) (hw : M.caller wk = true) : O.read M wk = ({ O with ring := R }, M.tick wk, 0) := by
  have hlen := hg.len3
  unfold Dop.read Mac.can
  rw [hw, show M.given 2 = true from decide_eq_true ⟨by omega, by unfold Mac.len at hlen; omega⟩, hg.word, of_word hg.right, hg.right]; rfl
theorem own9 (hg : Glo l0 most nw M R) (ht : Tl K M R (some O)) (h : Own most K M R O) (hw : M.caller wk = true) (hn : O.next = 9) : ORes l0 most nw K wk M R O (O.step M wk).2 (O.step M wk).1 R := by
  have hlen := hg.len3
  have hr : O.run M wk = ({ O with next := 10, ring := R }, M.tick wk, 0, 0) := by
    unfold Dop.run; simp only [hn]; unfold Dop.f9; rw [read_ok hg hw]
  rw [step_is (live0 h.how) hr]
  dsimp only
  have htl := ht.tl
  rw [lof_lo (by omega)] at htl
  refine res_lo hg ht ?_ rfl (by omega) (by dsimp only; omega) (by dsimp only; omega) rfl (fun q => by omega) (fun q => by omega) (by rw [mu_8 (by dsimp only; omega), mu_8 (by omega), hn]; dsimp only; omega) (fun q => by unfold Nx; dsimp only; omega) (fun _ => rfl)
  constructor <;> dsimp only <;> intros <;> (first | omega | rfl | exact h.mo | exact h.kb (by omega) | exact h.b7 (by omega) (by omega) | exact h.t7 (by omega) (by omega) | exact h.r7 (by omega) (by omega) | exact h.g5 (by omega) (by omega) | exact h.l7 (by omega) (by omega) | exact h.x7 (by omega) | exact h.c3 (by omega) | exact h.to5 (by omega) (by omega) | exact h.c4 (by omega) | exact h.c5 (by omega) | exact h.len (by omega) | exact h.b10 (by omega) (by omega) | exact h.b14 (by omega) | exact h.r14 (by omega) (by omega) | exact h.t12 (by omega) | exact h.t13 (by omega) | exact h.t14 (by omega) | exact h.won (by omega) | assumption)

theorem own2 (hg : Glo l0 most nw M R) (ht : Tl K M R (some O)) (h : Own most K M R O) (hw : M.caller wk = true) (hn : O.next = 2) : ORes l0 most nw K wk M R O (O.step M wk).2 (O.step M wk).1 R := by
  have hlen := hg.len3
  have hb := ht.t0; have hu := ht.uk; have hk := ht.k; have htl := ht.tl; have hur := ht.ur
  rw [lof_lo (by omega)] at htl
  rw [uof_lo (by omega)] at hu hur
  have hb7 := h.b7 (by omega) (by omega)
  have ht7 := h.t7 (by omega) (by omega)
  have hwr : wr (O.b - O.t) = O.b - O.t := wr_id (by omega) (by omega)
  have hsz : R.size = R.pw := by unfold Rg.size; rw [if_pos hg.right]
  have hrun : O.run M wk = O.f2 M wk := by unfold Dop.run; simp only [hn]
  have hf : O.f2 M wk = if decide (O.b - O.t < R.pw) then ({ O with ring := R, next := 6 }, M.tick wk, 0, 0) else if decide (R.Log ≥ O.most) then ({ O with ring := R }, M.tick wk, 4, 0) else ({ O with ring := R, next := 3 }, M.tick wk, 0, 0) := by
    unfold Dop.f2; rw [read_ok hg hw]; dsimp only; rw [hwr, hsz]; rfl
  have fin : ∀ n : Nat, n ≤ 7 → (n = 3 ∨ n = 6) → (mu R { O with ring := R, next := n, how := 0, err := 0 } < mu R O ∧ (¬ n = 6 → mu R { O with ring := R, next := n, how := 0, err := 0 } + 1 = mu R O)) → Own most K M R { O with ring := R, next := n, how := 0, err := 0 } → ORes l0 most nw K wk M R O (M.tick wk) { O with ring := R, next := n, how := 0, err := 0 } R := by
    intro n h7 hnx hm hO
    exact res_lo hg ht hO rfl (by omega) (by dsimp only; omega) (by dsimp only; omega) rfl (fun q => by omega) (fun _ _ => rfl) ⟨hm.1, fun _ q => hm.2 fun q2 => q ⟨hn, q2⟩⟩ (fun _ => .inl ⟨hn, hnx⟩) (fun _ => rfl)
  by_cases h1 : O.b - O.t < R.pw
  · rw [if_pos (decide_eq_true h1)] at hf
    rw [step_is (live0 h.how) (hrun.trans hf)]
    dsimp only
    refine fin 6 (by omega) (by omega) (by rw [mu_5 (by dsimp only; omega) (by dsimp only; omega), mu_lo (by omega), hn]; dsimp only; split <;> omega) ?_
    constructor <;> dsimp only <;> intros <;> (first | omega | rfl | exact h.mo | exact h.kb (by omega) | exact h.b7 (by omega) (by omega) | exact h.t7 (by omega) (by omega) | exact h.r7 (by omega) (by omega) | exact h.g5 (by omega) (by omega) | exact h.l7 (by omega) (by omega) | exact h.x7 (by omega) | exact h.c3 (by omega) | exact h.to5 (by omega) (by omega) | exact h.c4 (by omega) | exact h.c5 (by omega) | exact h.len (by omega) | exact h.b10 (by omega) (by omega) | exact h.b14 (by omega) | exact h.r14 (by omega) (by omega) | exact h.t12 (by omega) | exact h.t13 (by omega) | exact h.t14 (by omega) | exact h.won (by omega) | assumption)
  · rw [if_neg (by rw [decide_eq_false h1]; simp)] at hf
    by_cases h2 : R.Log ≥ O.most
    · rw [if_pos (decide_eq_true h2)] at hf
      rw [step_is (live0 h.how) (hrun.trans hf)]
      dsimp only
      have hm := h.mo; have hl2 := hg.lg2
      have ha : after { O with ring := R, how := 4, err := 0 } = none := if_neg (by dsimp only; omega)
      refine ⟨glo_tick hg, fun O2 q => ?_, ?_, Int.le_refl _, rfl, rfl, Iff.rfl, rfl, fun q => by omega, fun _ _ => rfl, .inl rfl, fun q => by dsimp only at q; omega, fun _ => rfl, fun _ => rfl, fun q => by dsimp only at q; omega, fun _ => rfl, ⟨by (try dsimp only); omega, fun _ => by (try dsimp only); omega⟩, .inr ⟨by dsimp only; simp, h.len (by omega), .inr (.inl ⟨hn, rfl, ?_, rfl, by omega, by omega⟩)⟩⟩
      · show Thf (M.tick wk) R (Lof (M.tick wk) (after { O with ring := R, how := 4, err := 0 })) O2
        rw [ha]
        exact thf_tick q (by rw [lof_lo (by omega)]; exact id)
      · show Tl K (M.tick wk) R (after { O with ring := R, how := 4, err := 0 })
        rw [ha]
        exact ⟨ht.t0, htl, Int.le_refl _, hur, hu, hk⟩
      · show Cont (M.tick wk) R none = _
        rw [cont_tick]; unfold Cont; rw [uof_lo (by omega), held_lo (by omega)]; rfl
    · rw [if_neg (by rw [decide_eq_false h2]; simp)] at hf
      rw [step_is (live0 h.how) (hrun.trans hf)]
      dsimp only
      have hm := h.mo
      refine fin 3 (by omega) (by omega) (by rw [mu_3 rfl, mu_lo (by omega), hn, if_pos (by have := hg.lg3; omega)]; dsimp only; omega) ?_
      constructor <;> dsimp only <;> intros <;> (first | omega | rfl | exact h.mo | exact h.kb (by omega) | exact h.b7 (by omega) (by omega) | exact h.t7 (by omega) (by omega) | exact h.r7 (by omega) (by omega) | exact h.g5 (by omega) (by omega) | exact h.l7 (by omega) (by omega) | exact h.x7 (by omega) | exact h.c3 (by omega) | exact h.to5 (by omega) (by omega) | exact h.c4 (by omega) | exact h.c5 (by omega) | exact h.len (by omega) | exact h.b10 (by omega) (by omega) | exact h.b14 (by omega) | exact h.r14 (by omega) (by omega) | exact h.t12 (by omega) | exact h.t13 (by omega) | exact h.t14 (by omega) | exact h.won (by omega) | assumption | (refine ⟨?_, ?_⟩ <;> omega))
end
end Go.Proofs.Ytheallacpidcmaa
