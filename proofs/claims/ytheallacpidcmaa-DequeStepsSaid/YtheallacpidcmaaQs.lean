/-
  Layer 10: what always holds, whoever breaks.
-/
import Derived.Test.YtheallacpidcmaaQk
set_option linter.unusedSimpArgs false
set_option linter.unusedVariables false
set_option maxRecDepth 100000
namespace Go.Proofs.Ytheallacpidcmaa
open Go Go.Ev Go.Proofs

structure WG (size most N : Int) (M : Mac) (R : Rg) : Prop where
  ok : M.OK
  sz : M.size = size
  s6 : size ≤ 600
  st : M.steps.length = 5
  word : M.get 2 = R.word
  right : R.right = true
  at3 : 3 ≤ R.At
  fit : R.At + R.pw ≤ M.len
  lg : R.Log ≤ most
  m8 : most ≤ 8
  t0 : 0 ≤ M.T
  tn : M.T ≤ N
  bn : -N ≤ M.B ∧ M.B ≤ N
  room : M.B - M.T ≤ R.pw
  n1 : 0 ≤ N ∧ N ≤ 1000
/-- the owner's, under way -/
structure WO (most N : Int) (M : Mac) (R : Rg) (O : Dop) : Prop where
  mo : O.most = most
  how : O.how = 0
  n : O.next ≤ 14
  b1 : 1 ≤ O.next → O.next ≤ 7 → O.b = M.B
  b9 : 9 ≤ O.next → O.next ≤ 10 → O.b = M.B
  b11 : 11 ≤ O.next → M.B = O.b - 1 ∧ O.b - M.T ≤ R.pw ∧ -N ≤ O.b ∧ O.b ≤ N
  t2 : 2 ≤ O.next → O.next ≤ 7 → 0 ≤ O.t ∧ O.t ≤ M.T ∧ O.b - O.t ≤ R.pw
  r3 : 3 ≤ O.next → O.next ≤ 7 → O.ring = R
  r10 : 10 ≤ O.next → O.next ≤ 13 → O.ring = R
  g3 : 3 ≤ O.next → O.next ≤ 5 → O.b - O.t = R.pw ∧ R.Log < most
  l6 : 6 ≤ O.next → O.next ≤ 7 → O.b - O.t < R.pw
  c3 : O.next ≤ 3 → O.copy = none
  to4 : 4 ≤ O.next → O.next ≤ 5 → O.to.right = true ∧ O.to.Log = R.Log + 1 ∧ 3 ≤ O.to.At ∧ O.to.At + O.to.pw ≤ M.len
  c4 : O.next = 4 → ∃ c, O.copy = some c ∧ c.a = R ∧ c.b = O.to ∧ c.until_ = O.b ∧ O.t ≤ c.at_ ∧ c.at_ < O.b
  t12 : 12 ≤ O.next → 0 ≤ O.t ∧ O.t ≤ M.T
  t13 : 12 ≤ O.next → O.next ≤ 13 → O.t ≤ O.b - 1
  won : O.next ≠ 14 → O.won = false
  w14 : O.next = 14 → O.t > O.b - 1 → O.won = false
  got7 : O.next ≤ 7 → O.got = 0
  err : O.err = 0
/-- a thief's -/
structure WT (most : Int) (M : Mac) (O : Dop) : Prop where
  mo : O.most = most
  n0 : 15 ≤ O.next
  n1 : O.next ≤ 19
  how : O.how = if O.next = 19 then 2 else 0
  t1 : 16 ≤ O.next → 0 ≤ O.t ∧ O.t ≤ M.T
  fit : 18 ≤ O.next → O.ring.right = true ∧ 3 ≤ O.ring.At ∧ O.ring.At + O.ring.pw ≤ M.len
  cp : O.copy = none
  err : O.err = 0
section
variable {size most N wk : Int} {M M' : Mac} {R R' : Rg} {O O' : Dop}
theorem WT.mono (h : WT most M O) (hT : M.T ≤ M'.T) (hl : M.len ≤ M'.len) : WT most M' O :=
  ⟨h.mo, h.n0, h.n1, h.how, fun q => by have := h.t1 q; omega, fun q => by have := h.fit q; exact ⟨this.1, this.2.1, by omega⟩, h.cp, h.err⟩
theorem WO.mono {N' : Int} (h : WO most N M R O) (hT : M.T ≤ M'.T) (hl : M.len = M'.len) (hB : M'.B = M.B) (hN : N ≤ N') : WO most N' M' R O := by
  refine ⟨h.mo, h.how, h.n, fun a b => by rw [hB]; exact h.b1 a b, fun a b => by rw [hB]; exact h.b9 a b, fun a => by have := h.b11 a; omega, fun a b => by have := h.t2 a b; omega, h.r3, h.r10, h.g3, h.l6, h.c3, fun a b => by have := h.to4 a b; exact ⟨this.1, this.2.1, this.2.2.1, by omega⟩, h.c4, fun a => by have := h.t12 a; omega, h.t13, h.won, h.w14, h.got7, h.err⟩
theorem WG.up {N' : Int} (h : WG size most N M R) (hN : N ≤ N') (h2 : N' ≤ 1000) : WG size most N' M R :=
  ⟨h.ok, h.sz, h.s6, h.st, h.word, h.right, h.at3, h.fit, h.lg, h.m8, h.t0, by have := h.tn; omega, by have := h.bn; omega, h.room, by have := h.n1; omega⟩
theorem WG.pw (h : WG size most N M R) : 1 ≤ R.pw ∧ R.pw ≤ 256 := by have := Rg.right_out h.right; omega
theorem WG.len3 (h : WG size most N M R) : 4 ≤ M.len := by have := h.fit; have := h.at3; have := h.pw; omega
theorem WG.lenM (h : WG size most N M R) : M.len ≤ 600 := by have := h.ok.fit; have := h.sz; have := h.s6; unfold Mac.len; omega
theorem WG.in' (h : WG size most N M R) (i : Int) : 3 ≤ R.place i ∧ R.place i < M.len := by
  have h1 := place_in h.right i; have h2 := h.fit; have h3 := h.at3; omega
theorem w_tick (h : WG size most N M R) : WG size most N (M.tick wk) R :=
  ⟨⟨h.ok.size, h.ok.fit⟩, h.sz, h.s6, by simp [Mac.tick, h.st], h.word, h.right, h.at3, h.fit, h.lg, h.m8, h.t0, h.tn, h.bn, h.room, h.n1⟩
theorem w_read (hg : WG size most N M R) (hw : M.caller wk = true) : O.read M wk = ({ O with ring := R }, M.tick wk, 0) := by
  have hlen := hg.len3
  unfold Dop.read Mac.can
  rw [hw, show M.given 2 = true from decide_eq_true ⟨by omega, by unfold Mac.len at hlen; omega⟩, hg.word, of_word hg.right, hg.right]; rfl
/-- something is stored ahead of nothing that is looked at -/
theorem w_put {a x : Int} (hg : WG size most N M R) (h0 : 0 ≤ a) (h2 : a < M.len) (h3 : 3 ≤ a) : WG size most N ((M.tick wk).put a x) R := by
  have hlen := hg.len3
  have hg0 : ∀ b, 0 ≤ b → b < 3 → ((M.tick wk).put a x).get b = M.get b := fun b q1 q2 => by rw [put_get h0 h2 q1, if_neg (by omega)]
  have hT : ((M.tick wk).put a x).T = M.T := hg0 0 (by omega) (by omega)
  have hB : ((M.tick wk).put a x).B = M.B := hg0 1 (by omega) (by omega)
  refine ⟨⟨hg.ok.size, ?_⟩, hg.sz, hg.s6, by simp [Mac.tick, Mac.put, hg.st], by rw [hg0 2 (by omega) (by omega)]; exact hg.word, hg.right, hg.at3, by rw [len_put]; exact hg.fit, hg.lg, hg.m8, by rw [hT]; exact hg.t0, by rw [hT]; exact hg.tn, by rw [hB]; exact hg.bn, by rw [hT, hB]; exact hg.room, hg.n1⟩
  have := hg.ok.fit; simpa [Mac.tick, Mac.put] using this
/-- an end is stored -/
theorem w_ends {a x : Int} (hg : WG size most N M R) (h : (a = 0 ∧ M.T ≤ x ∧ x ≤ N) ∨ (a = 1 ∧ -N ≤ x ∧ x ≤ N ∧ x - M.T ≤ R.pw)) : WG size most N ((M.tick wk).put a x) R := by
  have hlen := hg.len3
  have ha : 0 ≤ a ∧ a < 2 := by omega
  have hg0 : ∀ b, 0 ≤ b → ((M.tick wk).put a x).get b = if b = a then x else M.get b := fun b q1 => put_get (by omega) (by omega) q1
  have hT : ((M.tick wk).put a x).T = if 0 = a then x else M.T := hg0 0 (by omega)
  have hB : ((M.tick wk).put a x).B = if 1 = a then x else M.B := hg0 1 (by omega)
  have t0 := hg.t0; have tn := hg.tn; have bn := hg.bn; have ro := hg.room
  refine ⟨⟨hg.ok.size, ?_⟩, hg.sz, hg.s6, by simp [Mac.tick, Mac.put, hg.st], by rw [hg0 2 (by omega), if_neg (by omega)]; exact hg.word, hg.right, hg.at3, by rw [len_put]; exact hg.fit, hg.lg, hg.m8, by rw [hT]; split <;> omega, by rw [hT]; split <;> omega, by rw [hB]; split <;> omega, by rw [hT, hB]; split <;> split <;> omega, hg.n1⟩
  have := hg.ok.fit; simpa [Mac.tick, Mac.put] using this
/-- what a step comes to -/
structure WRes (size most N : Int) (M : Mac) (R : Rg) (wk : Int) (M' : Mac) (R' : Rg) (O' : Dop) : Prop where
  glo : WG size most (N + 1) M' R'
  tm : M.T ≤ M'.T
  lm : M.len ≤ M'.len
  steps : (M'.steps = (M.tick wk).steps ∧ O'.how ≠ 6) ∨ (M' = M ∧ O'.how = 6)
  alt : (O'.how = 0 ∧ WO most (N + 1) M' R' O') ∨ (O'.how ≠ 0 ∧ O'.how ≠ 2 ∧ O'.tell = (if O'.how = 1 ∧ 8 ≤ O'.next then O'.got else 0))
theorem wres_tick (hg : WG size most N M R) (hN : N + 1 ≤ 1000) (h : WO most (N + 1) (M.tick wk) R O') : WRes size most N M R wk (M.tick wk) R O' :=
  ⟨(w_tick hg).up (by omega) hN, Int.le_refl _, Int.le_refl _, .inl ⟨rfl, by rw [h.how]; omega⟩, .inl ⟨h.how, h⟩⟩

theorem wo0 (hg : WG size most N M R) (h : WO most N M R O) (hw : M.caller wk = true) (hN : N + 1 ≤ 1000) (hn : O.next = 0) :
    O.step M wk = ({ O with b := M.B, next := 1, how := 0, err := 0 }, M.tick wk) ∧ WRes size most N M R wk (M.tick wk) R { O with b := M.B, next := 1, how := 0, err := 0 } := by
  have hlen := hg.len3
  have t0 := hg.t0; have tn := hg.tn; have bn := hg.bn; have ro := hg.room; have hpw := hg.pw; have hN1 := hg.n1; have hlM := hg.lenM; have hat3 := hg.at3; have hfit := hg.fit
  have hb1 := h.b1; have hb9 := h.b9; have hb11 := h.b11; have ht2 := h.t2; have hg3 := h.g3; have hl6 := h.l6; have ht12 := h.t12; have ht13 := h.t13
  have uT : (M.tick wk).T = M.T := rfl
  have uB : (M.tick wk).B = M.B := rfl
  have uL : (M.tick wk).len = M.len := rfl
  have hr : O.run M wk = ({ O with b := M.B, next := 1 }, M.tick wk, 0, 0) := by
    unfold Dop.run; simp only [hn]; unfold Dop.f0; rw [ld_ok hw (by omega) (by omega)]
  refine ⟨step_is (live0 h.how) hr, ?_⟩
  refine wres_tick hg hN ?_
  constructor <;> (try dsimp only) <;> intros <;> (first | omega | rfl | exact h.mo | exact h.b1 (by omega) (by omega) | exact h.b9 (by omega) (by omega) | exact h.b11 (by omega) | exact h.t2 (by omega) (by omega) | exact h.r3 (by omega) (by omega) | exact h.r10 (by omega) (by omega) | exact h.g3 (by omega) (by omega) | exact h.l6 (by omega) (by omega) | exact h.c3 (by omega) | exact h.to4 (by omega) (by omega) | exact h.c4 (by omega) | exact h.t12 (by omega) | exact h.t13 (by omega) (by omega) | exact h.won (by omega) | exact h.w14 (by omega) (by assumption) | exact h.got7 (by omega) | assumption)

theorem wo1 (hg : WG size most N M R) (h : WO most N M R O) (hw : M.caller wk = true) (hN : N + 1 ≤ 1000) (hn : O.next = 1) :
    O.step M wk = ({ O with t := M.T, next := 2, how := 0, err := 0 }, M.tick wk) ∧ WRes size most N M R wk (M.tick wk) R { O with t := M.T, next := 2, how := 0, err := 0 } := by
  have hlen := hg.len3
  have t0 := hg.t0; have tn := hg.tn; have bn := hg.bn; have ro := hg.room; have hpw := hg.pw; have hN1 := hg.n1; have hlM := hg.lenM; have hat3 := hg.at3; have hfit := hg.fit
  have hb1 := h.b1; have hb9 := h.b9; have hb11 := h.b11; have ht2 := h.t2; have hg3 := h.g3; have hl6 := h.l6; have ht12 := h.t12; have ht13 := h.t13
  have uT : (M.tick wk).T = M.T := rfl
  have uB : (M.tick wk).B = M.B := rfl
  have uL : (M.tick wk).len = M.len := rfl
  have hr : O.run M wk = ({ O with t := M.T, next := 2 }, M.tick wk, 0, 0) := by
    unfold Dop.run; simp only [hn]; unfold Dop.f1; rw [ld_ok hw (by omega) (by omega)]
  refine ⟨step_is (live0 h.how) hr, ?_⟩
  refine wres_tick hg hN ?_
  have := hb1 (by omega) (by omega)
  constructor <;> (try dsimp only) <;> intros <;> (first | omega | rfl | exact h.mo | exact h.b1 (by omega) (by omega) | exact h.b9 (by omega) (by omega) | exact h.b11 (by omega) | exact h.t2 (by omega) (by omega) | exact h.r3 (by omega) (by omega) | exact h.r10 (by omega) (by omega) | exact h.g3 (by omega) (by omega) | exact h.l6 (by omega) (by omega) | exact h.c3 (by omega) | exact h.to4 (by omega) (by omega) | exact h.c4 (by omega) | exact h.t12 (by omega) | exact h.t13 (by omega) (by omega) | exact h.won (by omega) | exact h.w14 (by omega) (by assumption) | exact h.got7 (by omega) | assumption)

theorem wo8 (hg : WG size most N M R) (h : WO most N M R O) (hw : M.caller wk = true) (hN : N + 1 ≤ 1000) (hn : O.next = 8) :
    O.step M wk = ({ O with b := M.B, next := 9, how := 0, err := 0 }, M.tick wk) ∧ WRes size most N M R wk (M.tick wk) R { O with b := M.B, next := 9, how := 0, err := 0 } := by
  have hlen := hg.len3
  have t0 := hg.t0; have tn := hg.tn; have bn := hg.bn; have ro := hg.room; have hpw := hg.pw; have hN1 := hg.n1; have hlM := hg.lenM; have hat3 := hg.at3; have hfit := hg.fit
  have hb1 := h.b1; have hb9 := h.b9; have hb11 := h.b11; have ht2 := h.t2; have hg3 := h.g3; have hl6 := h.l6; have ht12 := h.t12; have ht13 := h.t13
  have uT : (M.tick wk).T = M.T := rfl
  have uB : (M.tick wk).B = M.B := rfl
  have uL : (M.tick wk).len = M.len := rfl
  have hr : O.run M wk = ({ O with b := M.B, next := 9 }, M.tick wk, 0, 0) := by
    unfold Dop.run; simp only [hn]; unfold Dop.f8; rw [ld_ok hw (by omega) (by omega)]
  refine ⟨step_is (live0 h.how) hr, ?_⟩
  refine wres_tick hg hN ?_
  constructor <;> (try dsimp only) <;> intros <;> (first | omega | rfl | exact h.mo | exact h.b1 (by omega) (by omega) | exact h.b9 (by omega) (by omega) | exact h.b11 (by omega) | exact h.t2 (by omega) (by omega) | exact h.r3 (by omega) (by omega) | exact h.r10 (by omega) (by omega) | exact h.g3 (by omega) (by omega) | exact h.l6 (by omega) (by omega) | exact h.c3 (by omega) | exact h.to4 (by omega) (by omega) | exact h.c4 (by omega) | exact h.t12 (by omega) | exact h.t13 (by omega) (by omega) | exact h.won (by omega) | exact h.w14 (by omega) (by assumption) | exact h.got7 (by omega) | assumption)

theorem wo9 (hg : WG size most N M R) (h : WO most N M R O) (hw : M.caller wk = true) (hN : N + 1 ≤ 1000) (hn : O.next = 9) :
    O.step M wk = ({ O with next := 10, ring := R, how := 0, err := 0 }, M.tick wk) ∧ WRes size most N M R wk (M.tick wk) R { O with next := 10, ring := R, how := 0, err := 0 } := by
  have hlen := hg.len3
  have t0 := hg.t0; have tn := hg.tn; have bn := hg.bn; have ro := hg.room; have hpw := hg.pw; have hN1 := hg.n1; have hlM := hg.lenM; have hat3 := hg.at3; have hfit := hg.fit
  have hb1 := h.b1; have hb9 := h.b9; have hb11 := h.b11; have ht2 := h.t2; have hg3 := h.g3; have hl6 := h.l6; have ht12 := h.t12; have ht13 := h.t13
  have uT : (M.tick wk).T = M.T := rfl
  have uB : (M.tick wk).B = M.B := rfl
  have uL : (M.tick wk).len = M.len := rfl
  have hr : O.run M wk = ({ O with next := 10, ring := R }, M.tick wk, 0, 0) := by
    unfold Dop.run; simp only [hn]; unfold Dop.f9; rw [w_read hg hw]
  refine ⟨step_is (live0 h.how) hr, ?_⟩
  refine wres_tick hg hN ?_
  constructor <;> (try dsimp only) <;> intros <;> (first | omega | rfl | exact h.mo | exact h.b1 (by omega) (by omega) | exact h.b9 (by omega) (by omega) | exact h.b11 (by omega) | exact h.t2 (by omega) (by omega) | exact h.r3 (by omega) (by omega) | exact h.r10 (by omega) (by omega) | exact h.g3 (by omega) (by omega) | exact h.l6 (by omega) (by omega) | exact h.c3 (by omega) | exact h.to4 (by omega) (by omega) | exact h.c4 (by omega) | exact h.t12 (by omega) | exact h.t13 (by omega) (by omega) | exact h.won (by omega) | exact h.w14 (by omega) (by assumption) | exact h.got7 (by omega) | assumption)

theorem wo2 (hg : WG size most N M R) (h : WO most N M R O) (hw : M.caller wk = true) (hN : N + 1 ≤ 1000) (hn : O.next = 2) :
    (O.b - O.t < R.pw → O.step M wk = ({ O with ring := R, next := 6, how := 0, err := 0 }, M.tick wk) ∧ WRes size most N M R wk (M.tick wk) R { O with ring := R, next := 6, how := 0, err := 0 }) ∧
    (¬ O.b - O.t < R.pw → R.Log ≥ most → O.step M wk = ({ O with ring := R, how := 4, err := 0 }, M.tick wk) ∧ WRes size most N M R wk (M.tick wk) R { O with ring := R, how := 4, err := 0 }) ∧
    (¬ O.b - O.t < R.pw → ¬ R.Log ≥ most → O.step M wk = ({ O with ring := R, next := 3, how := 0, err := 0 }, M.tick wk) ∧ WRes size most N M R wk (M.tick wk) R { O with ring := R, next := 3, how := 0, err := 0 }) := by
  have hlen := hg.len3
  have t0 := hg.t0; have tn := hg.tn; have bn := hg.bn; have ro := hg.room; have hpw := hg.pw; have hN1 := hg.n1; have hlM := hg.lenM; have hat3 := hg.at3; have hfit := hg.fit
  have hb1 := h.b1; have hb9 := h.b9; have hb11 := h.b11; have ht2 := h.t2; have hg3 := h.g3; have hl6 := h.l6; have ht12 := h.t12; have ht13 := h.t13
  have uT : (M.tick wk).T = M.T := rfl
  have uB : (M.tick wk).B = M.B := rfl
  have uL : (M.tick wk).len = M.len := rfl
  have hb := hb1 (by omega) (by omega)
  have ht := ht2 (by omega) (by omega)
  have hwr : wr (O.b - O.t) = O.b - O.t := wr_id (by omega) (by omega)
  have hsz : R.size = R.pw := by unfold Rg.size; rw [if_pos hg.right]
  have hrun : O.run M wk = O.f2 M wk := by unfold Dop.run; simp only [hn]
  have hf : O.f2 M wk = if decide (O.b - O.t < R.pw) then ({ O with ring := R, next := 6 }, M.tick wk, 0, 0) else if decide (R.Log ≥ O.most) then ({ O with ring := R }, M.tick wk, 4, 0) else ({ O with ring := R, next := 3 }, M.tick wk, 0, 0) := by
    unfold Dop.f2; rw [w_read hg hw]; dsimp only; rw [hwr, hsz]; rfl
  have hmo := h.mo
  refine ⟨fun h1 => ?_, fun h1 h2 => ?_, fun h1 h2 => ?_⟩
  · rw [if_pos (decide_eq_true h1)] at hf
    refine ⟨step_is (live0 h.how) (hrun.trans hf), wres_tick hg hN ?_⟩
    constructor <;> (try dsimp only) <;> intros <;> (first | omega | rfl | exact h.mo | exact h.b1 (by omega) (by omega) | exact h.b9 (by omega) (by omega) | exact h.b11 (by omega) | exact h.t2 (by omega) (by omega) | exact h.r3 (by omega) (by omega) | exact h.r10 (by omega) (by omega) | exact h.g3 (by omega) (by omega) | exact h.l6 (by omega) (by omega) | exact h.c3 (by omega) | exact h.to4 (by omega) (by omega) | exact h.c4 (by omega) | exact h.t12 (by omega) | exact h.t13 (by omega) (by omega) | exact h.won (by omega) | exact h.w14 (by omega) (by assumption) | exact h.got7 (by omega) | assumption)
  · rw [if_neg (by rw [decide_eq_false h1]; simp), if_pos (decide_eq_true (by omega))] at hf
    refine ⟨step_is (live0 h.how) (hrun.trans hf), (w_tick hg).up (by omega) hN, Int.le_refl _, Int.le_refl _, .inl ⟨rfl, by dsimp only; omega⟩, .inr ⟨by dsimp only; omega, by dsimp only; omega, ?_⟩⟩
    unfold Dop.tell
    dsimp only
    rw [if_neg (by omega), if_neg (by omega)]
  · rw [if_neg (by rw [decide_eq_false h1]; simp), if_neg (by rw [decide_eq_false (by omega)]; simp)] at hf
    refine ⟨step_is (live0 h.how) (hrun.trans hf), wres_tick hg hN ?_⟩
    constructor <;> (try dsimp only) <;> intros <;> (first | omega | rfl | exact h.mo | exact h.b1 (by omega) (by omega) | exact h.b9 (by omega) (by omega) | exact h.b11 (by omega) | exact h.t2 (by omega) (by omega) | exact h.r3 (by omega) (by omega) | exact h.r10 (by omega) (by omega) | exact h.g3 (by omega) (by omega) | exact h.l6 (by omega) (by omega) | exact h.c3 (by omega) | exact h.to4 (by omega) (by omega) | exact h.c4 (by omega) | exact h.t12 (by omega) | exact h.t13 (by omega) (by omega) | exact h.won (by omega) | exact h.w14 (by omega) (by assumption) | exact h.got7 (by omega) | assumption | (refine ⟨?_, ?_⟩ <;> omega))

theorem wo3 (hg : WG size most N M R) (h : WO most N M R O) (hw : M.caller wk = true) (hN : N + 1 ≤ 1000) (hn : O.next = 3) :
    (M.room (2 * R.pw) = true → O.step M wk = ({ O with to := ⟨M.len, R.Log + 1⟩, copy := some (Cp.begin R ⟨M.len, R.Log + 1⟩ O.t O.b), next := 4, how := 0, err := 0 }, (M.tick wk).grow (2 * R.pw)) ∧ begE R ⟨M.len, R.Log + 1⟩ O.t O.b = 0 ∧ WRes size most N M R wk ((M.tick wk).grow (2 * R.pw)) R { O with to := ⟨M.len, R.Log + 1⟩, copy := some (Cp.begin R ⟨M.len, R.Log + 1⟩ O.t O.b), next := 4, how := 0, err := 0 }) ∧
    (M.room (2 * R.pw) = false → O.step M wk = ({ O with how := 6, err := 21 }, M) ∧ WRes size most N M R wk M R { O with how := 6, err := 21 }) := by
  have hlen := hg.len3
  have t0 := hg.t0; have tn := hg.tn; have bn := hg.bn; have ro := hg.room; have hpw := hg.pw; have hN1 := hg.n1; have hlM := hg.lenM; have hat3 := hg.at3; have hfit := hg.fit
  have hb1 := h.b1; have hb9 := h.b9; have hb11 := h.b11; have ht2 := h.t2; have hg3 := h.g3; have hl6 := h.l6; have ht12 := h.t12; have ht13 := h.t13
  have uT : (M.tick wk).T = M.T := rfl
  have uB : (M.tick wk).B = M.B := rfl
  have uL : (M.tick wk).len = M.len := rfl
  have hb := hb1 (by omega) (by omega)
  have ht := ht2 (by omega) (by omega)
  have hr3 := h.r3 (by omega) (by omega)
  have hgg := hg3 (by omega) (by omega)
  have hm8 := hg.m8
  have hro := Rg.right_out hg.right
  have hlg : O.lg = R.Log + 1 := by unfold Dop.lg; rw [hr3]; exact wr_id (by omega) (by omega)
  have hto : O.tor M = ⟨M.len, R.Log + 1⟩ := by unfold Dop.tor; rw [hlg]
  have hpw2 : (⟨M.len, R.Log + 1⟩ : Rg).pw = 2 * R.pw := by
    unfold Rg.pw
    have : (R.Log + 1).toNat = R.Log.toNat + 1 := by omega
    dsimp only
    rw [this, Nat.pow_succ]; omega
  have hp2 : O.pw2 = 2 * (R.pw : Int) := by
    have e : O.pw2 = ((⟨M.len, R.Log + 1⟩ : Rg).pw : Int) := by unfold Dop.pw2 Rg.pw; rw [hlg]
    rw [e, hpw2]; omega
  have hrun : O.run M wk = O.f3 M wk := by unfold Dop.run; simp only [hn]
  refine ⟨fun hroom => ?_, fun hroom => ?_⟩
  · have hrm : 2 * (R.pw : Int) ≤ M.size - M.cells.length := by unfold Mac.room at hroom; exact of_decide_eq_true hroom
    have hsz := hg.sz; have hs6 := hg.s6
    have hll : M.len = M.cells.length := rfl
    have hdr : (⟨M.len, R.Log + 1⟩ : Rg).right = true := by
      unfold Rg.right
      simp only [decide_eq_true_eq]
      rw [hpw2]; omega
    have hbe : begE R ⟨M.len, R.Log + 1⟩ O.t O.b = 0 := by
      unfold begE Rg.size
      rw [hg.right, hdr]
      rw [if_neg (by simp), if_pos rfl, if_pos rfl, hpw2, if_neg (by omega)]
    have hr : O.run M wk = ({ O with to := ⟨M.len, R.Log + 1⟩, copy := some (Cp.begin R ⟨M.len, R.Log + 1⟩ O.t O.b), next := 4 }, (M.tick wk).grow (2 * R.pw), 0, 0) := by
      rw [hrun]; unfold Dop.f3
      rw [if_pos ⟨by omega, by omega, hw⟩, hp2, if_pos hroom, hto, hr3, if_pos hbe]
    have hlen' : ((M.tick wk).grow (2 * R.pw)).len = M.len + 2 * R.pw := by simp [Mac.len, Mac.tick, Mac.grow]; omega
    have hget : ∀ a, 0 ≤ a → a < M.len → ((M.tick wk).grow (2 * R.pw)).get a = M.get a := fun a h0 h1 => get_grow (M := M.tick wk) h0 h1
    have hT : ((M.tick wk).grow (2 * R.pw)).T = M.T := hget 0 (by omega) (by omega)
    have hB : ((M.tick wk).grow (2 * R.pw)).B = M.B := hget 1 (by omega) (by omega)
    refine ⟨step_is (live0 h.how) hr, hbe, ⟨⟨hg.ok.size, ?_⟩, hg.sz, hg.s6, by simp [Mac.tick, Mac.grow, hg.st], by rw [hget 2 (by omega) (by omega)]; exact hg.word, hg.right, hg.at3, by omega, hg.lg, hg.m8, by omega, by omega, by omega, by omega, by omega⟩, by omega, by omega, .inl ⟨rfl, by dsimp only; omega⟩, .inl ⟨rfl, ?_⟩⟩
    · show ((M.tick wk).grow (2 * R.pw)).len ≤ M.size
      omega
    · have hc : ∃ c, some (Cp.begin R ⟨M.len, R.Log + 1⟩ O.t O.b) = some c ∧ c.a = R ∧ c.b = ⟨M.len, R.Log + 1⟩ ∧ c.until_ = O.b ∧ O.t ≤ c.at_ ∧ c.at_ < O.b :=
        ⟨_, rfl, rfl, rfl, rfl, Int.le_refl _, by show O.t < O.b; omega⟩
      have hd : (⟨M.len, R.Log + 1⟩ : Rg).right = true ∧ R.Log + 1 = R.Log + 1 ∧ 3 ≤ M.len ∧ M.len + ((⟨M.len, R.Log + 1⟩ : Rg).pw : Int) ≤ ((M.tick wk).grow (2 * R.pw)).len := ⟨hdr, rfl, by omega, by rw [hpw2]; omega⟩
      constructor <;> (try dsimp only) <;> intros <;> (first | omega | rfl | exact h.mo | exact h.b1 (by omega) (by omega) | exact h.b9 (by omega) (by omega) | exact h.b11 (by omega) | exact h.t2 (by omega) (by omega) | exact h.r3 (by omega) (by omega) | exact h.r10 (by omega) (by omega) | exact h.g3 (by omega) (by omega) | exact h.l6 (by omega) (by omega) | exact h.c3 (by omega) | exact h.to4 (by omega) (by omega) | exact h.c4 (by omega) | exact h.t12 (by omega) | exact h.t13 (by omega) (by omega) | exact h.won (by omega) | exact h.w14 (by omega) (by assumption) | exact h.got7 (by omega) | assumption | exact hc | exact hd)
  · have hr : O.run M wk = (O, M, 6, 21) := by
      rw [hrun]; unfold Dop.f3
      rw [if_pos ⟨by omega, by omega, hw⟩, hp2, if_neg (by rw [hroom]; simp)]
    refine ⟨by rw [step_of (live0 h.how) hr]; rfl, hg.up (by omega) hN, Int.le_refl _, Int.le_refl _, .inr ⟨rfl, rfl⟩, .inr ⟨by dsimp only; omega, by dsimp only; omega, ?_⟩⟩
    unfold Dop.tell
    dsimp only
    rw [if_neg (by omega), if_neg (by omega)]

theorem wo4 {c : Cp} (hg : WG size most N M R) (h : WO most N M R O) (hw : M.caller wk = true) (hN : N + 1 ≤ 1000) (hn : O.next = 4) :
    O.copy = some c → c.at_ ≠ c.until_ ∧ 3 ≤ c.spot ∧ c.spot < M.len ∧ c.a.right = true ∧ c.b.right = true ∧
    (c.loaded = true → O.step M wk = ({ O with copy := some (c.next 0), next := if (c.next 0).at_ = c.until_ then 5 else 4, how := 0, err := 0 }, (M.tick wk).put c.spot c.has) ∧ WRes size most N M R wk ((M.tick wk).put c.spot c.has) R { O with copy := some (c.next 0), next := if (c.next 0).at_ = c.until_ then 5 else 4, how := 0, err := 0 }) ∧
    (c.loaded = false → O.step M wk = ({ O with copy := some (c.next (M.get c.spot)), next := 4, how := 0, err := 0 }, M.tick wk) ∧ WRes size most N M R wk (M.tick wk) R { O with copy := some (c.next (M.get c.spot)), next := 4, how := 0, err := 0 }) := by
  intro hcp
  have hlen := hg.len3
  have t0 := hg.t0; have tn := hg.tn; have bn := hg.bn; have ro := hg.room; have hpw := hg.pw; have hN1 := hg.n1; have hlM := hg.lenM; have hat3 := hg.at3; have hfit := hg.fit
  have hb1 := h.b1; have hb9 := h.b9; have hb11 := h.b11; have ht2 := h.t2; have hg3 := h.g3; have hl6 := h.l6; have ht12 := h.t12; have ht13 := h.t13
  have uT : (M.tick wk).T = M.T := rfl
  have uB : (M.tick wk).B = M.B := rfl
  have uL : (M.tick wk).len = M.len := rfl
  have hb := hb1 (by omega) (by omega)
  have ht := ht2 (by omega) (by omega)
  have hgg := hg3 (by omega) (by omega)
  obtain ⟨q1, q2, q3, q4⟩ := h.to4 (by omega) (by omega)
  obtain ⟨c', e0, e1, e2, e3, e4, e5⟩ := h.c4 hn
  rw [hcp] at e0
  obtain rfl := Option.some.inj e0
  have hne : ¬ c.at_ = c.until_ := by omega
  have hspot : 3 ≤ c.spot ∧ c.spot < M.len := by
    unfold Cp.spot
    split
    · rw [e2]; have := place_in q1 c.at_; omega
    · rw [e1]; exact hg.in' c.at_
  have hcan : M.can wk c.spot = true := by
    unfold Mac.can
    rw [hw, show M.given c.spot = true from decide_eq_true ⟨by omega, by unfold Mac.len at hspot; omega⟩]; rfl
  have hrun : O.run M wk = O.f4 M wk c := by unfold Dop.run; simp only [hn, hcp]
  have hf : O.f4 M wk c = if c.loaded then ({ O with copy := some (c.next 0), next := if (c.next 0).at_ = c.until_ then 5 else O.next }, (M.tick wk).put c.spot c.has, 0, 0)
        else ({ O with copy := some (c.next (M.get c.spot)) }, M.tick wk, 0, 0) := by
    unfold Dop.f4; rw [if_neg hne, if_pos hcan]
  refine ⟨hne, hspot.1, hspot.2, by rw [e1]; exact hg.right, by rw [e2]; exact q1, fun hl => ?_, fun hl => ?_⟩
  · rw [if_pos hl, hn] at hf
    have hnx : c.next 0 = { c with at_ := c.at_ + 1, loaded := false } := by
      unfold Cp.next; rw [if_pos hl]
      have : IntKind.wrap .i64 (c.at_ + 1) = c.at_ + 1 := wr_id (by omega) (by omega)
      rw [this]
    have hlp : ((M.tick wk).put c.spot c.has).len = M.len := len_put
    have hT : ((M.tick wk).put c.spot c.has).T = M.T := by unfold Mac.T; rw [put_get (by omega) hspot.2 (by omega), if_neg (by omega)]
    have hB : ((M.tick wk).put c.spot c.has).B = M.B := by unfold Mac.B; rw [put_get (by omega) hspot.2 (by omega), if_neg (by omega)]
    refine ⟨step_is (live0 h.how) (hrun.trans hf), (w_put hg (by omega) hspot.2 hspot.1).up (by omega) hN, by omega, by omega, .inl ⟨rfl, by dsimp only; omega⟩, .inl ⟨rfl, ?_⟩⟩
    rw [hnx]
    dsimp only
    have hto : O.to.right = true ∧ O.to.Log = R.Log + 1 ∧ 3 ≤ O.to.At ∧ O.to.At + O.to.pw ≤ ((M.tick wk).put c.spot c.has).len := ⟨q1, q2, q3, by omega⟩
    by_cases hend : c.at_ + 1 = c.until_
    · rw [if_pos hend]
      constructor <;> (try dsimp only) <;> intros <;> (first | omega | rfl | exact h.mo | exact h.b1 (by omega) (by omega) | exact h.b9 (by omega) (by omega) | exact h.b11 (by omega) | exact h.t2 (by omega) (by omega) | exact h.r3 (by omega) (by omega) | exact h.r10 (by omega) (by omega) | exact h.g3 (by omega) (by omega) | exact h.l6 (by omega) (by omega) | exact h.c3 (by omega) | exact h.to4 (by omega) (by omega) | exact h.c4 (by omega) | exact h.t12 (by omega) | exact h.t13 (by omega) (by omega) | exact h.won (by omega) | exact h.w14 (by omega) (by assumption) | exact h.got7 (by omega) | assumption | exact hto)
    · rw [if_neg hend]
      have hc : ∃ c', some { c with at_ := c.at_ + 1, loaded := false } = some c' ∧ c'.a = R ∧ c'.b = O.to ∧ c'.until_ = O.b ∧ O.t ≤ c'.at_ ∧ c'.at_ < O.b := ⟨_, rfl, e1, e2, e3, by show O.t ≤ c.at_ + 1; omega, by show c.at_ + 1 < O.b; omega⟩
      constructor <;> (try dsimp only) <;> intros <;> (first | omega | rfl | exact h.mo | exact h.b1 (by omega) (by omega) | exact h.b9 (by omega) (by omega) | exact h.b11 (by omega) | exact h.t2 (by omega) (by omega) | exact h.r3 (by omega) (by omega) | exact h.r10 (by omega) (by omega) | exact h.g3 (by omega) (by omega) | exact h.l6 (by omega) (by omega) | exact h.c3 (by omega) | exact h.to4 (by omega) (by omega) | exact h.c4 (by omega) | exact h.t12 (by omega) | exact h.t13 (by omega) (by omega) | exact h.won (by omega) | exact h.w14 (by omega) (by assumption) | exact h.got7 (by omega) | assumption | exact hto | exact hc)
  · rw [if_neg (by rw [hl]; simp)] at hf
    have hnx : c.next (M.get c.spot) = { c with has := M.get c.spot, loaded := true } := by
      unfold Cp.next; rw [if_neg (by rw [hl]; simp)]
    have e : ({ O with copy := some (c.next (M.get c.spot)), next := 4, how := 0, err := 0 } : Dop) = { O with copy := some (c.next (M.get c.spot)), how := 0, err := 0 } := by
      obtain ⟨_, _, _, _, _, _, _, _, nx, _, _, _⟩ := O
      dsimp only at hn
      subst hn
      rfl
    rw [e]
    refine ⟨step_is (live0 h.how) (hrun.trans hf), wres_tick hg hN ?_⟩
    rw [hnx]
    have hc : ∃ c', some { c with has := M.get c.spot, loaded := true } = some c' ∧ c'.a = R ∧ c'.b = O.to ∧ c'.until_ = O.b ∧ O.t ≤ c'.at_ ∧ c'.at_ < O.b := ⟨_, rfl, e1, e2, e3, e4, e5⟩
    constructor <;> (try dsimp only) <;> intros <;> (first | omega | rfl | exact h.mo | exact h.b1 (by omega) (by omega) | exact h.b9 (by omega) (by omega) | exact h.b11 (by omega) | exact h.t2 (by omega) (by omega) | exact h.r3 (by omega) (by omega) | exact h.r10 (by omega) (by omega) | exact h.g3 (by omega) (by omega) | exact h.l6 (by omega) (by omega) | exact h.c3 (by omega) | exact h.to4 (by omega) (by omega) | exact h.c4 (by omega) | exact h.t12 (by omega) | exact h.t13 (by omega) (by omega) | exact h.won (by omega) | exact h.w14 (by omega) (by assumption) | exact h.got7 (by omega) | assumption | exact hc)

theorem wo5 (hg : WG size most N M R) (h : WO most N M R O) (hw : M.caller wk = true) (hN : N + 1 ≤ 1000) (hn : O.next = 5) :
    O.step M wk = ({ O with ring := O.to, next := 6, how := 0, err := 0 }, (M.tick wk).put 2 O.to.word) ∧ WRes size most N M R wk ((M.tick wk).put 2 O.to.word) O.to { O with ring := O.to, next := 6, how := 0, err := 0 } := by
  have hlen := hg.len3
  have t0 := hg.t0; have tn := hg.tn; have bn := hg.bn; have ro := hg.room; have hpw := hg.pw; have hN1 := hg.n1; have hlM := hg.lenM; have hat3 := hg.at3; have hfit := hg.fit
  have hb1 := h.b1; have hb9 := h.b9; have hb11 := h.b11; have ht2 := h.t2; have hg3 := h.g3; have hl6 := h.l6; have ht12 := h.t12; have ht13 := h.t13
  have uT : (M.tick wk).T = M.T := rfl
  have uB : (M.tick wk).B = M.B := rfl
  have uL : (M.tick wk).len = M.len := rfl
  have hb := hb1 (by omega) (by omega)
  have ht := ht2 (by omega) (by omega)
  have hgg := hg3 (by omega) (by omega)
  obtain ⟨q1, q2, q3, q4⟩ := h.to4 (by omega) (by omega)
  have hro := Rg.right_out hg.right
  have hpw2 : O.to.pw = 2 * R.pw := by
    unfold Rg.pw
    have : O.to.Log.toNat = R.Log.toNat + 1 := by omega
    rw [this, Nat.pow_succ]; omega
  have hr : O.run M wk = ({ O with ring := O.to, next := 6 }, (M.tick wk).put 2 O.to.word, 0, 0) := by
    unfold Dop.run; simp only [hn]; unfold Dop.f5; rw [st_ok hw (by omega) (by omega)]
  have hlp : ((M.tick wk).put 2 O.to.word).len = M.len := len_put
  have hget : ∀ a, 0 ≤ a → ((M.tick wk).put 2 O.to.word).get a = if a = 2 then O.to.word else M.get a := fun a h0 => put_get (by omega) (by omega) h0
  have hT : ((M.tick wk).put 2 O.to.word).T = M.T := by unfold Mac.T; rw [hget 0 (by omega), if_neg (by omega)]
  have hB : ((M.tick wk).put 2 O.to.word).B = M.B := by unfold Mac.B; rw [hget 1 (by omega), if_neg (by omega)]
  refine ⟨step_is (live0 h.how) hr, ⟨⟨hg.ok.size, ?_⟩, hg.sz, hg.s6, by simp [Mac.tick, Mac.put, hg.st], by rw [hget 2 (by omega), if_pos rfl], q1, q3, by omega, by omega, hg.m8, by omega, by omega, by omega, by omega, by omega⟩, by omega, by omega, .inl ⟨rfl, by dsimp only; omega⟩, .inl ⟨rfl, ?_⟩⟩
  · have := hg.ok.fit; simpa [Mac.tick, Mac.put] using this
  · constructor <;> (try dsimp only) <;> intros <;> (first | omega | rfl | exact h.mo | exact h.b1 (by omega) (by omega) | exact h.b9 (by omega) (by omega) | exact h.b11 (by omega) | exact h.t2 (by omega) (by omega) | exact h.r3 (by omega) (by omega) | exact h.r10 (by omega) (by omega) | exact h.g3 (by omega) (by omega) | exact h.l6 (by omega) (by omega) | exact h.c3 (by omega) | exact h.to4 (by omega) (by omega) | exact h.c4 (by omega) | exact h.t12 (by omega) | exact h.t13 (by omega) (by omega) | exact h.won (by omega) | exact h.w14 (by omega) (by assumption) | exact h.got7 (by omega) | assumption)

theorem wo6 (hg : WG size most N M R) (h : WO most N M R O) (hw : M.caller wk = true) (hN : N + 1 ≤ 1000) (hn : O.next = 6) :
    O.step M wk = ({ O with next := 7, how := 0, err := 0 }, (M.tick wk).put (R.place O.b) O.x) ∧ WRes size most N M R wk ((M.tick wk).put (R.place O.b) O.x) R { O with next := 7, how := 0, err := 0 } := by
  have hlen := hg.len3
  have t0 := hg.t0; have tn := hg.tn; have bn := hg.bn; have ro := hg.room; have hpw := hg.pw; have hN1 := hg.n1; have hlM := hg.lenM; have hat3 := hg.at3; have hfit := hg.fit
  have hb1 := h.b1; have hb9 := h.b9; have hb11 := h.b11; have ht2 := h.t2; have hg3 := h.g3; have hl6 := h.l6; have ht12 := h.t12; have ht13 := h.t13
  have uT : (M.tick wk).T = M.T := rfl
  have uB : (M.tick wk).B = M.B := rfl
  have uL : (M.tick wk).len = M.len := rfl
  have hb := hb1 (by omega) (by omega)
  have ht := ht2 (by omega) (by omega)
  have hr3 := h.r3 (by omega) (by omega)
  have hin := hg.in' O.b
  have hr : O.run M wk = ({ O with next := 7 }, (M.tick wk).put (R.place O.b) O.x, 0, 0) := by
    unfold Dop.run; simp only [hn]; unfold Dop.f6; rw [hr3, st_ok hw (by omega) (by omega)]
  have hlp : ((M.tick wk).put (R.place O.b) O.x).len = M.len := len_put
  have hT : ((M.tick wk).put (R.place O.b) O.x).T = M.T := by unfold Mac.T; rw [put_get (by omega) (by omega) (by omega), if_neg (by omega)]
  have hB : ((M.tick wk).put (R.place O.b) O.x).B = M.B := by unfold Mac.B; rw [put_get (by omega) (by omega) (by omega), if_neg (by omega)]
  refine ⟨step_is (live0 h.how) hr, (w_put hg (by omega) hin.2 hin.1).up (by omega) hN, by omega, by omega, .inl ⟨rfl, by dsimp only; omega⟩, .inl ⟨rfl, ?_⟩⟩
  constructor <;> (try dsimp only) <;> intros <;> (first | omega | rfl | exact h.mo | exact h.b1 (by omega) (by omega) | exact h.b9 (by omega) (by omega) | exact h.b11 (by omega) | exact h.t2 (by omega) (by omega) | exact h.r3 (by omega) (by omega) | exact h.r10 (by omega) (by omega) | exact h.g3 (by omega) (by omega) | exact h.l6 (by omega) (by omega) | exact h.c3 (by omega) | exact h.to4 (by omega) (by omega) | exact h.c4 (by omega) | exact h.t12 (by omega) | exact h.t13 (by omega) (by omega) | exact h.won (by omega) | exact h.w14 (by omega) (by assumption) | exact h.got7 (by omega) | assumption)

theorem wo7 (hg : WG size most N M R) (h : WO most N M R O) (hw : M.caller wk = true) (hN : N + 1 ≤ 1000) (hn : O.next = 7) :
    O.step M wk = ({ O with how := 1, err := 0 }, (M.tick wk).put 1 (O.b + 1)) ∧ WRes size most N M R wk ((M.tick wk).put 1 (O.b + 1)) R { O with how := 1, err := 0 } := by
  have hlen := hg.len3
  have t0 := hg.t0; have tn := hg.tn; have bn := hg.bn; have ro := hg.room; have hpw := hg.pw; have hN1 := hg.n1; have hlM := hg.lenM; have hat3 := hg.at3; have hfit := hg.fit
  have hb1 := h.b1; have hb9 := h.b9; have hb11 := h.b11; have ht2 := h.t2; have hg3 := h.g3; have hl6 := h.l6; have ht12 := h.t12; have ht13 := h.t13
  have uT : (M.tick wk).T = M.T := rfl
  have uB : (M.tick wk).B = M.B := rfl
  have uL : (M.tick wk).len = M.len := rfl
  have hb := hb1 (by omega) (by omega)
  have ht := ht2 (by omega) (by omega)
  have hl := hl6 (by omega) (by omega)
  have hgot := h.got7 (by omega)
  have hr : O.run M wk = (O, (M.tick wk).put 1 (O.b + 1), 1, 0) := by
    unfold Dop.run; simp only [hn]; unfold Dop.f7; rw [wr_id (by omega) (by omega), st_ok hw (by omega) (by omega)]
  have hlp : ((M.tick wk).put 1 (O.b + 1)).len = M.len := len_put
  have hT : ((M.tick wk).put 1 (O.b + 1)).T = M.T := by unfold Mac.T; rw [put_get (by omega) (by omega) (by omega), if_neg (by omega)]
  refine ⟨step_is (live0 h.how) hr, w_ends (hg.up (by omega) hN) (.inr ⟨rfl, by omega, by omega, by omega⟩), by omega, by omega, .inl ⟨rfl, by dsimp only; omega⟩, .inr ⟨by dsimp only; omega, by dsimp only; omega, ?_⟩⟩
  unfold Dop.tell
  dsimp only
  rw [if_pos (by omega), if_neg (by omega), hgot]

theorem wo10 (hg : WG size most N M R) (h : WO most N M R O) (hw : M.caller wk = true) (hN : N + 1 ≤ 1000) (hn : O.next = 10) :
    O.step M wk = ({ O with next := 11, how := 0, err := 0 }, (M.tick wk).put 1 (O.b - 1)) ∧ WRes size most N M R wk ((M.tick wk).put 1 (O.b - 1)) R { O with next := 11, how := 0, err := 0 } := by
  have hlen := hg.len3
  have t0 := hg.t0; have tn := hg.tn; have bn := hg.bn; have ro := hg.room; have hpw := hg.pw; have hN1 := hg.n1; have hlM := hg.lenM; have hat3 := hg.at3; have hfit := hg.fit
  have hb1 := h.b1; have hb9 := h.b9; have hb11 := h.b11; have ht2 := h.t2; have hg3 := h.g3; have hl6 := h.l6; have ht12 := h.t12; have ht13 := h.t13
  have uT : (M.tick wk).T = M.T := rfl
  have uB : (M.tick wk).B = M.B := rfl
  have uL : (M.tick wk).len = M.len := rfl
  have hb := hb9 (by omega) (by omega)
  have hr : O.run M wk = ({ O with next := 11 }, (M.tick wk).put 1 (O.b - 1), 0, 0) := by
    unfold Dop.run; simp only [hn]; unfold Dop.f10; rw [wr_id (by omega) (by omega), st_ok hw (by omega) (by omega)]
  have hlp : ((M.tick wk).put 1 (O.b - 1)).len = M.len := len_put
  have hT : ((M.tick wk).put 1 (O.b - 1)).T = M.T := by unfold Mac.T; rw [put_get (by omega) (by omega) (by omega), if_neg (by omega)]
  have hB : ((M.tick wk).put 1 (O.b - 1)).B = O.b - 1 := by unfold Mac.B; rw [put_get (by omega) (by omega) (by omega), if_pos rfl]
  refine ⟨step_is (live0 h.how) hr, w_ends (hg.up (by omega) hN) (.inr ⟨rfl, by omega, by omega, by omega⟩), by omega, by omega, .inl ⟨rfl, by dsimp only; omega⟩, .inl ⟨rfl, ?_⟩⟩
  constructor <;> (try dsimp only) <;> intros <;> (first | omega | rfl | exact h.mo | exact h.b1 (by omega) (by omega) | exact h.b9 (by omega) (by omega) | exact h.b11 (by omega) | exact h.t2 (by omega) (by omega) | exact h.r3 (by omega) (by omega) | exact h.r10 (by omega) (by omega) | exact h.g3 (by omega) (by omega) | exact h.l6 (by omega) (by omega) | exact h.c3 (by omega) | exact h.to4 (by omega) (by omega) | exact h.c4 (by omega) | exact h.t12 (by omega) | exact h.t13 (by omega) (by omega) | exact h.won (by omega) | exact h.w14 (by omega) (by assumption) | exact h.got7 (by omega) | assumption | (refine ⟨?_, ?_, ?_, ?_⟩ <;> omega))

theorem wo11 (hg : WG size most N M R) (h : WO most N M R O) (hw : M.caller wk = true) (hN : N + 1 ≤ 1000) (hn : O.next = 11) :
    O.step M wk = ({ O with t := M.T, next := if M.T > O.b - 1 then 14 else 12, how := 0, err := 0 }, M.tick wk) ∧ WRes size most N M R wk (M.tick wk) R { O with t := M.T, next := if M.T > O.b - 1 then 14 else 12, how := 0, err := 0 } := by
  have hlen := hg.len3
  have t0 := hg.t0; have tn := hg.tn; have bn := hg.bn; have ro := hg.room; have hpw := hg.pw; have hN1 := hg.n1; have hlM := hg.lenM; have hat3 := hg.at3; have hfit := hg.fit
  have hb1 := h.b1; have hb9 := h.b9; have hb11 := h.b11; have ht2 := h.t2; have hg3 := h.g3; have hl6 := h.l6; have ht12 := h.t12; have ht13 := h.t13
  have uT : (M.tick wk).T = M.T := rfl
  have uB : (M.tick wk).B = M.B := rfl
  have uL : (M.tick wk).len = M.len := rfl
  have hb := hb11 (by omega)
  have hwon : O.next ≠ 14 → O.won = false := h.won
  have hw0 := hwon (by omega)
  have hwr : wr (O.b - 1) = O.b - 1 := wr_id (by omega) (by omega)
  have hr : O.run M wk = ({ O with t := M.T, next := if M.T > O.b - 1 then 14 else 12 }, M.tick wk, 0, 0) := by
    unfold Dop.run; simp only [hn]; unfold Dop.f11; rw [ld_ok hw (by omega) (by omega), hwr]; simp only [decide_eq_true_eq]
  refine ⟨step_is (live0 h.how) hr, wres_tick hg hN ?_⟩
  by_cases hT : M.T > O.b - 1
  · rw [if_pos hT]
    constructor <;> (try dsimp only) <;> intros <;> (first | omega | rfl | exact h.mo | exact h.b1 (by omega) (by omega) | exact h.b9 (by omega) (by omega) | exact h.b11 (by omega) | exact h.t2 (by omega) (by omega) | exact h.r3 (by omega) (by omega) | exact h.r10 (by omega) (by omega) | exact h.g3 (by omega) (by omega) | exact h.l6 (by omega) (by omega) | exact h.c3 (by omega) | exact h.to4 (by omega) (by omega) | exact h.c4 (by omega) | exact h.t12 (by omega) | exact h.t13 (by omega) (by omega) | exact h.won (by omega) | exact h.w14 (by omega) (by assumption) | exact h.got7 (by omega) | assumption)
  · rw [if_neg hT]
    constructor <;> (try dsimp only) <;> intros <;> (first | omega | rfl | exact h.mo | exact h.b1 (by omega) (by omega) | exact h.b9 (by omega) (by omega) | exact h.b11 (by omega) | exact h.t2 (by omega) (by omega) | exact h.r3 (by omega) (by omega) | exact h.r10 (by omega) (by omega) | exact h.g3 (by omega) (by omega) | exact h.l6 (by omega) (by omega) | exact h.c3 (by omega) | exact h.to4 (by omega) (by omega) | exact h.c4 (by omega) | exact h.t12 (by omega) | exact h.t13 (by omega) (by omega) | exact h.won (by omega) | exact h.w14 (by omega) (by assumption) | exact h.got7 (by omega) | assumption)

theorem wo12 (hg : WG size most N M R) (h : WO most N M R O) (hw : M.caller wk = true) (hN : N + 1 ≤ 1000) (hn : O.next = 12) :
    O.step M wk = ({ O with got := M.get (R.place (O.b - 1)), next := 13, how := if O.t < O.b - 1 then 1 else 0, err := 0 }, M.tick wk) ∧ WRes size most N M R wk (M.tick wk) R { O with got := M.get (R.place (O.b - 1)), next := 13, how := if O.t < O.b - 1 then 1 else 0, err := 0 } := by
  have hlen := hg.len3
  have t0 := hg.t0; have tn := hg.tn; have bn := hg.bn; have ro := hg.room; have hpw := hg.pw; have hN1 := hg.n1; have hlM := hg.lenM; have hat3 := hg.at3; have hfit := hg.fit
  have hb1 := h.b1; have hb9 := h.b9; have hb11 := h.b11; have ht2 := h.t2; have hg3 := h.g3; have hl6 := h.l6; have ht12 := h.t12; have ht13 := h.t13
  have uT : (M.tick wk).T = M.T := rfl
  have uB : (M.tick wk).B = M.B := rfl
  have uL : (M.tick wk).len = M.len := rfl
  have hb := hb11 (by omega)
  have ht := ht12 (by omega)
  have hr10 := h.r10 (by omega) (by omega)
  have hin := hg.in' (O.b - 1)
  have hwr : wr (O.b - 1) = O.b - 1 := wr_id (by omega) (by omega)
  have hr : O.run M wk = ({ O with got := M.get (R.place (O.b - 1)), next := 13 }, M.tick wk, if O.t < O.b - 1 then 1 else 0, 0) := by
    unfold Dop.run; simp only [hn]; unfold Dop.f12; rw [hwr, hr10, ld_ok hw (by omega) (by omega)]; simp only [decide_eq_true_eq]
  refine ⟨step_is (live0 h.how) hr, ?_⟩
  by_cases hT : O.t < O.b - 1
  · rw [if_pos hT]
    refine ⟨(w_tick hg).up (by omega) hN, Int.le_refl _, Int.le_refl _, .inl ⟨rfl, by dsimp only; omega⟩, .inr ⟨by dsimp only; omega, by dsimp only; omega, ?_⟩⟩
    unfold Dop.tell
    dsimp only
    rw [if_pos (by omega), if_pos (by omega)]
  · rw [if_neg hT]
    refine wres_tick hg hN ?_
    constructor <;> (try dsimp only) <;> intros <;> (first | omega | rfl | exact h.mo | exact h.b1 (by omega) (by omega) | exact h.b9 (by omega) (by omega) | exact h.b11 (by omega) | exact h.t2 (by omega) (by omega) | exact h.r3 (by omega) (by omega) | exact h.r10 (by omega) (by omega) | exact h.g3 (by omega) (by omega) | exact h.l6 (by omega) (by omega) | exact h.c3 (by omega) | exact h.to4 (by omega) (by omega) | exact h.c4 (by omega) | exact h.t12 (by omega) | exact h.t13 (by omega) (by omega) | exact h.won (by omega) | exact h.w14 (by omega) (by assumption) | exact h.got7 (by omega) | assumption)

theorem wo13 (hg : WG size most N M R) (h : WO most N M R O) (hw : M.caller wk = true) (hN : N + 1 ≤ 1000) (hn : O.next = 13) :
    O.step M wk = ({ O with won := decide (M.T = O.t), next := 14, how := 0, err := 0 }, if M.T = O.t then (M.tick wk).put 0 (O.t + 1) else M.tick wk) ∧ WRes size most N M R wk (if M.T = O.t then (M.tick wk).put 0 (O.t + 1) else M.tick wk) R { O with won := decide (M.T = O.t), next := 14, how := 0, err := 0 } := by
  have hlen := hg.len3
  have t0 := hg.t0; have tn := hg.tn; have bn := hg.bn; have ro := hg.room; have hpw := hg.pw; have hN1 := hg.n1; have hlM := hg.lenM; have hat3 := hg.at3; have hfit := hg.fit
  have hb1 := h.b1; have hb9 := h.b9; have hb11 := h.b11; have ht2 := h.t2; have hg3 := h.g3; have hl6 := h.l6; have ht12 := h.t12; have ht13 := h.t13
  have uT : (M.tick wk).T = M.T := rfl
  have uB : (M.tick wk).B = M.B := rfl
  have uL : (M.tick wk).len = M.len := rfl
  have hb := hb11 (by omega)
  have ht := ht12 (by omega)
  have ht3 := ht13 (by omega) (by omega)
  have hwr : wr (O.t + 1) = O.t + 1 := wr_id (by omega) (by omega)
  have hc := cas_ok (M := M) (wk := wk) (a := 0) (old := O.t) (x := O.t + 1) hw (by omega) (by omega)
  by_cases hT : M.T = O.t
  · rw [if_pos hT] at hc
    have hr : O.run M wk = ({ O with won := true, next := 14 }, (M.tick wk).put 0 (O.t + 1), 0, 0) := by
      unfold Dop.run; simp only [hn]; unfold Dop.f13; rw [hwr, hc]
    rw [if_pos hT, decide_eq_true hT]
    have hlp : ((M.tick wk).put 0 (O.t + 1)).len = M.len := len_put
    have hT' : ((M.tick wk).put 0 (O.t + 1)).T = O.t + 1 := by unfold Mac.T; rw [put_get (by omega) (by omega) (by omega), if_pos rfl]
    have hB : ((M.tick wk).put 0 (O.t + 1)).B = M.B := by unfold Mac.B; rw [put_get (by omega) (by omega) (by omega), if_neg (by omega)]
    refine ⟨step_is (live0 h.how) hr, w_ends (hg.up (by omega) hN) (.inl ⟨rfl, by omega, by omega⟩), by omega, by omega, .inl ⟨rfl, by dsimp only; omega⟩, .inl ⟨rfl, ?_⟩⟩
    constructor <;> (try dsimp only) <;> intros <;> (first | omega | rfl | exact h.mo | exact h.b1 (by omega) (by omega) | exact h.b9 (by omega) (by omega) | exact h.b11 (by omega) | exact h.t2 (by omega) (by omega) | exact h.r3 (by omega) (by omega) | exact h.r10 (by omega) (by omega) | exact h.g3 (by omega) (by omega) | exact h.l6 (by omega) (by omega) | exact h.c3 (by omega) | exact h.to4 (by omega) (by omega) | exact h.c4 (by omega) | exact h.t12 (by omega) | exact h.t13 (by omega) (by omega) | exact h.won (by omega) | exact h.w14 (by omega) (by assumption) | exact h.got7 (by omega) | assumption | (refine ⟨?_, ?_, ?_, ?_⟩ <;> omega))
  · rw [if_neg (show ¬ M.get 0 = O.t from hT)] at hc
    have hr : O.run M wk = ({ O with won := false, next := 14 }, M.tick wk, 0, 0) := by
      unfold Dop.run; simp only [hn]; unfold Dop.f13; rw [hwr, hc]
    rw [if_neg hT, decide_eq_false hT]
    refine ⟨step_is (live0 h.how) hr, wres_tick hg hN ?_⟩
    constructor <;> (try dsimp only) <;> intros <;> (first | omega | rfl | exact h.mo | exact h.b1 (by omega) (by omega) | exact h.b9 (by omega) (by omega) | exact h.b11 (by omega) | exact h.t2 (by omega) (by omega) | exact h.r3 (by omega) (by omega) | exact h.r10 (by omega) (by omega) | exact h.g3 (by omega) (by omega) | exact h.l6 (by omega) (by omega) | exact h.c3 (by omega) | exact h.to4 (by omega) (by omega) | exact h.c4 (by omega) | exact h.t12 (by omega) | exact h.t13 (by omega) (by omega) | exact h.won (by omega) | exact h.w14 (by omega) (by assumption) | exact h.got7 (by omega) | assumption)

theorem wo14 (hg : WG size most N M R) (h : WO most N M R O) (hw : M.caller wk = true) (hN : N + 1 ≤ 1000) (hn : O.next = 14) :
    O.step M wk = ({ O with how := if O.won then 1 else 3, err := 0 }, (M.tick wk).put 1 O.b) ∧ WRes size most N M R wk ((M.tick wk).put 1 O.b) R { O with how := if O.won then 1 else 3, err := 0 } := by
  have hlen := hg.len3
  have t0 := hg.t0; have tn := hg.tn; have bn := hg.bn; have ro := hg.room; have hpw := hg.pw; have hN1 := hg.n1; have hlM := hg.lenM; have hat3 := hg.at3; have hfit := hg.fit
  have hb1 := h.b1; have hb9 := h.b9; have hb11 := h.b11; have ht2 := h.t2; have hg3 := h.g3; have hl6 := h.l6; have ht12 := h.t12; have ht13 := h.t13
  have uT : (M.tick wk).T = M.T := rfl
  have uB : (M.tick wk).B = M.B := rfl
  have uL : (M.tick wk).len = M.len := rfl
  have hb := hb11 (by omega)
  have hr : O.run M wk = (O, (M.tick wk).put 1 O.b, if O.won then 1 else 3, 0) := by
    unfold Dop.run; simp only [hn]; unfold Dop.f14; rw [st_ok hw (by omega) (by omega)]
  have hlp : ((M.tick wk).put 1 O.b).len = M.len := len_put
  have hT : ((M.tick wk).put 1 O.b).T = M.T := by unfold Mac.T; rw [put_get (by omega) (by omega) (by omega), if_neg (by omega)]
  refine ⟨step_is (live0 h.how) hr, w_ends (hg.up (by omega) hN) (.inr ⟨rfl, by omega, by omega, by omega⟩), by omega, by omega, .inl ⟨rfl, by dsimp only; split <;> omega⟩, .inr ⟨by dsimp only; split <;> omega, by dsimp only; split <;> omega, ?_⟩⟩
  unfold Dop.tell
  dsimp only
  cases O.won with
  | true => rw [if_pos rfl, if_pos (by omega), if_pos (by omega)]
  | false => simp

/-! ### thieves -/
/-- what a thief's step comes to -/
structure VRes (size most N : Int) (M : Mac) (R : Rg) (wk : Int) (M' : Mac) (O' : Dop) : Prop where
  glo : WG size most (N + 1) M' R
  tm : M.T ≤ M'.T
  lm : M'.len = M.len
  bm : M'.B = M.B
  steps : M'.steps = (M.tick wk).steps
  alt : ((O'.how = 0 ∨ O'.how = 2) ∧ WT most M' O') ∨ (O'.how ≠ 0 ∧ O'.how ≠ 2)
theorem vres_tick (hg : WG size most N M R) (hN : N + 1 ≤ 1000) (h : ((O'.how = 0 ∨ O'.how = 2) ∧ WT most (M.tick wk) O') ∨ (O'.how ≠ 0 ∧ O'.how ≠ 2)) : VRes size most N M R wk (M.tick wk) O' :=
  ⟨(w_tick hg).up (by omega) hN, Int.le_refl _, rfl, rfl, rfl, h⟩

theorem vt15 (hg : WG size most N M R) (h : WT most M O) (hw : M.caller wk = true) (hN : N + 1 ≤ 1000) (hn : O.next = 15) :
    O.step M wk = ({ O with t := M.T, next := 16, how := 0, err := 0 }, M.tick wk) ∧ VRes size most N M R wk (M.tick wk) { O with t := M.T, next := 16, how := 0, err := 0 } := by
  have hlen := hg.len3
  have t0 := hg.t0; have tn := hg.tn; have bn := hg.bn; have hN1 := hg.n1
  have hlv : O.live = true := live2 (by have := h.how; split at this <;> omega)
  have ht1 := h.t1
  have uT : (M.tick wk).T = M.T := rfl
  have uL : (M.tick wk).len = M.len := rfl
  have hr : O.run M wk = ({ O with t := M.T, next := 16 }, M.tick wk, 0, 0) := by
    unfold Dop.run; simp only [hn]; unfold Dop.f15; rw [ld_ok hw (by omega) (by omega)]
  refine ⟨step_is hlv hr, vres_tick hg hN (.inl ⟨.inl rfl, ?_⟩)⟩
  exact ⟨h.mo, by (try dsimp only); omega, by (try dsimp only); omega, rfl, fun _ => ⟨t0, Int.le_refl _⟩, fun q => by (try dsimp only at q); omega, h.cp, rfl⟩
theorem vt16 (hg : WG size most N M R) (h : WT most M O) (hw : M.caller wk = true) (hN : N + 1 ≤ 1000) (hn : O.next = 16) :
    O.step M wk = ({ O with b := M.B, next := 17, how := if O.t ≥ M.B then 3 else 0, err := 0 }, M.tick wk) ∧ VRes size most N M R wk (M.tick wk) { O with b := M.B, next := 17, how := if O.t ≥ M.B then 3 else 0, err := 0 } := by
  have hlen := hg.len3
  have t0 := hg.t0; have tn := hg.tn; have bn := hg.bn; have hN1 := hg.n1
  have hlv : O.live = true := live2 (by have := h.how; split at this <;> omega)
  have ht1 := h.t1
  have uT : (M.tick wk).T = M.T := rfl
  have uL : (M.tick wk).len = M.len := rfl
  have hr : O.run M wk = ({ O with b := M.B, next := 17 }, M.tick wk, if O.t ≥ M.B then 3 else 0, 0) := by
    unfold Dop.run; simp only [hn]; unfold Dop.f16; rw [ld_ok hw (by omega) (by omega)]; simp only [decide_eq_true_eq]
  refine ⟨step_is hlv hr, vres_tick hg hN ?_⟩
  by_cases hT : O.t ≥ M.B
  · rw [if_pos hT]; exact .inr ⟨by dsimp only; omega, by dsimp only; omega⟩
  · rw [if_neg hT]
    refine .inl ⟨.inl rfl, ?_⟩
    exact ⟨h.mo, by (try dsimp only); omega, by (try dsimp only); omega, rfl, fun _ => ht1 (by omega), fun q => by (try dsimp only at q); omega, h.cp, rfl⟩
theorem vt17 (hg : WG size most N M R) (h : WT most M O) (hw : M.caller wk = true) (hN : N + 1 ≤ 1000) (hn : O.next = 17) :
    O.step M wk = ({ O with next := 18, ring := R, how := 0, err := 0 }, M.tick wk) ∧ VRes size most N M R wk (M.tick wk) { O with next := 18, ring := R, how := 0, err := 0 } := by
  have hlen := hg.len3
  have t0 := hg.t0; have tn := hg.tn; have bn := hg.bn; have hN1 := hg.n1
  have hlv : O.live = true := live2 (by have := h.how; split at this <;> omega)
  have ht1 := h.t1
  have uT : (M.tick wk).T = M.T := rfl
  have uL : (M.tick wk).len = M.len := rfl
  have hr : O.run M wk = ({ O with next := 18, ring := R }, M.tick wk, 0, 0) := by
    unfold Dop.run; simp only [hn]; unfold Dop.f17; rw [w_read hg hw]
  refine ⟨step_is hlv hr, vres_tick hg hN (.inl ⟨.inl rfl, ?_⟩)⟩
  exact ⟨h.mo, by (try dsimp only); omega, by (try dsimp only); omega, rfl, fun _ => ht1 (by omega), fun _ => ⟨hg.right, hg.at3, hg.fit⟩, h.cp, rfl⟩
theorem vt18 (hg : WG size most N M R) (h : WT most M O) (hw : M.caller wk = true) (hN : N + 1 ≤ 1000) (hn : O.next = 18) :
    3 ≤ O.ring.place O.t ∧ O.ring.place O.t < M.len ∧ O.step M wk = ({ O with got := M.get (O.ring.place O.t), next := 19, how := 2, err := 0 }, M.tick wk) ∧ VRes size most N M R wk (M.tick wk) { O with got := M.get (O.ring.place O.t), next := 19, how := 2, err := 0 } := by
  have hlen := hg.len3
  have t0 := hg.t0; have tn := hg.tn; have bn := hg.bn; have hN1 := hg.n1
  have hlv : O.live = true := live2 (by have := h.how; split at this <;> omega)
  have ht1 := h.t1
  have uT : (M.tick wk).T = M.T := rfl
  have uL : (M.tick wk).len = M.len := rfl
  obtain ⟨f1, f2, f3⟩ := h.fit (by omega)
  have hin := place_in f1 O.t
  have hr : O.run M wk = ({ O with got := M.get (O.ring.place O.t), next := 19 }, M.tick wk, 2, 0) := by
    unfold Dop.run; simp only [hn]; unfold Dop.f18; rw [ld_ok hw (by omega) (by omega)]
  refine ⟨by omega, by omega, step_is hlv hr, vres_tick hg hN (.inl ⟨.inr rfl, ?_⟩)⟩
  exact ⟨h.mo, by (try dsimp only); omega, by (try dsimp only); omega, rfl, fun _ => ht1 (by omega), fun _ => ⟨f1, f2, f3⟩, h.cp, rfl⟩
theorem vt19 (hg : WG size most N M R) (h : WT most M O) (hw : M.caller wk = true) (hN : N + 1 ≤ 1000) (hn : O.next = 19) :
    O.step M wk = ({ O with how := if M.T = O.t then 1 else 5, err := 0 }, if M.T = O.t then (M.tick wk).put 0 (O.t + 1) else M.tick wk) ∧ VRes size most N M R wk (if M.T = O.t then (M.tick wk).put 0 (O.t + 1) else M.tick wk) { O with how := if M.T = O.t then 1 else 5, err := 0 } := by
  have hlen := hg.len3
  have t0 := hg.t0; have tn := hg.tn; have bn := hg.bn; have hN1 := hg.n1
  have hlv : O.live = true := live2 (by have := h.how; split at this <;> omega)
  have ht1 := h.t1
  have uT : (M.tick wk).T = M.T := rfl
  have uL : (M.tick wk).len = M.len := rfl
  have ht := ht1 (by omega)
  have hwr : wr (O.t + 1) = O.t + 1 := wr_id (by omega) (by omega)
  have hc := cas_ok (M := M) (wk := wk) (a := 0) (old := O.t) (x := O.t + 1) hw (by omega) (by omega)
  by_cases hT : M.T = O.t
  · rw [if_pos hT] at hc
    have hr : O.run M wk = (O, (M.tick wk).put 0 (O.t + 1), 1, 0) := by
      unfold Dop.run; simp only [hn]; unfold Dop.f19; rw [hwr, hc]; rfl
    rw [if_pos hT, if_pos hT]
    have hlp : ((M.tick wk).put 0 (O.t + 1)).len = M.len := len_put
    have hT' : ((M.tick wk).put 0 (O.t + 1)).T = O.t + 1 := by unfold Mac.T; rw [put_get (by omega) (by omega) (by omega), if_pos rfl]
    have hB : ((M.tick wk).put 0 (O.t + 1)).B = M.B := by unfold Mac.B; rw [put_get (by omega) (by omega) (by omega), if_neg (by omega)]
    exact ⟨step_is hlv hr, w_ends (hg.up (by omega) hN) (.inl ⟨rfl, by omega, by omega⟩), by omega, hlp, hB, rfl, .inr ⟨by dsimp only; omega, by dsimp only; omega⟩⟩
  · rw [if_neg (show ¬ M.get 0 = O.t from hT)] at hc
    have hr : O.run M wk = (O, M.tick wk, 5, 0) := by
      unfold Dop.run; simp only [hn]; unfold Dop.f19; rw [hwr, hc]; rfl
    rw [if_neg hT, if_neg hT]
    exact ⟨step_is hlv hr, vres_tick hg hN (.inr ⟨by dsimp only; omega, by dsimp only; omega⟩)⟩
end
end Go.Proofs.Ytheallacpidcmaa
