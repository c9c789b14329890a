/-
  Layer 10: a thief that lets it be.
-/
import Derived.Test.YtheallacpidcmaaQm
set_option linter.unusedSimpArgs false
set_option linter.unusedVariables false
set_option maxRecDepth 100000
namespace Go.Proofs.Ytheallacpidcmaa
open Go Go.Ev Go.Proofs

section
variable {w0 w : World} {L : List HP} {gm go : Nat} {M : Mac}
theorem cln64_s {s : Sl} {xs : List Int} {f : HP → List HP} {k : Sl → World → Prop} (h : St w0 w L) [a : At L (slc 1 s) (ints xs) f] (hn : xs.length ≤ 1000000) (hk : ∀ s' w', St w0 w' (slc 1 s' (ints xs) :: L) → k s' w') : slices_Clone___int64_int64_ s w k := by
  have ho : OwnS 1 w s (ints xs) := h.own
  have hl : xs.length = s.n := by have := h.slen (sz := 1) (s := s) (vs := ints xs); simpa using this
  unfold slices_Clone___int64_int64_
  refine iteB_i (fun hb => ?_) fun hb => ?_
  · have hc := ho.cap
    rcases ho.row with ⟨_, q⟩ | ⟨g, off, cs, q, _⟩
    · have : xs = [] := List.length_eq_zero_iff.1 (by omega)
      subst this
      exact hk _ _ (h.nilS 1)
    · rw [q] at hb; cases hb
  · refine newC_h h fun g w2 h => ?_
    have h2 : St w0 w2 (slc 1 ⟨some ⟨g, 0, none⟩, 0, 0⟩ (ints []) :: L) := h.asS (g := g) (n := 0) (cs := []) rfl (by omega) (by simp)
    have ho : OwnS 1 w2 s (ints xs) := h2.own
    refine bApp_h (s := ⟨some ⟨g, 0, none⟩, 0, 0⟩) (vs := ints []) (x := s) (ys := ints xs) h2 (elI (by kernel_rfl)) (by kernel_rfl) ho.sls (one_ints _) (by simp only; omega) (by simp only; omega) fun s3 w4 h n3 => hk _ _ h
theorem clnI_s {s : Sl} {xs : List Int} {f : HP → List HP} {k : Sl → World → Prop} (h : St w0 w L) [a : At L (slc 1 s) (ints xs) f] (hn : xs.length ≤ 1000000) (hk : ∀ s' w', St w0 w' (slc 1 s' (ints xs) :: L) → k s' w') : slices_Clone___int_int_ s w k := by
  have ho : OwnS 1 w s (ints xs) := h.own
  have hl : xs.length = s.n := by have := h.slen (sz := 1) (s := s) (vs := ints xs); simpa using this
  unfold slices_Clone___int_int_
  refine iteB_i (fun hb => ?_) fun hb => ?_
  · have hc := ho.cap
    rcases ho.row with ⟨_, q⟩ | ⟨g, off, cs, q, _⟩
    · have : xs = [] := List.length_eq_zero_iff.1 (by omega)
      subst this
      exact hk _ _ (h.nilS 1)
    · rw [q] at hb; cases hb
  · refine newC_h h fun g w2 h => ?_
    have h2 : St w0 w2 (slc 1 ⟨some ⟨g, 0, none⟩, 0, 0⟩ (ints []) :: L) := h.asS (g := g) (n := 0) (cs := []) rfl (by omega) (by simp)
    have ho : OwnS 1 w2 s (ints xs) := h2.own
    refine bApp_h (s := ⟨some ⟨g, 0, none⟩, 0, 0⟩) (vs := ints []) (x := s) (ys := ints xs) h2 (elI (by kernel_rfl)) (by kernel_rfl) ho.sls (one_ints _) (by simp only; omega) (by simp only; omega) fun s3 w4 h n3 => hk _ _ h
theorem clone_s {k : Option Addr → World → Prop} (h : St w0 w (mach gm M :: L)) (h1 : M.cells.length ≤ 1000000) (h2 : M.steps.length ≤ 1000000) (hk : ∀ gc w', St w0 w' (mach gc M :: mach gm M :: L) → k (some ⟨gc, 0, none⟩) w') : cells_Machine_Clone (some ⟨gm, 0, none⟩) w k := by
  unfold cells_Machine_Clone cells_Machine_Clone_b
  obtain ⟨s1, s2, hS⟩ := mach_open h
  refine iteB_f rfl (drew_h hS fun w1 hS => nn_i (ldS_h hS rfl (nn_i (ldI_h (g := gm) (o := 1) hS rfl (nn_i (ldS_h hS rfl ?_))))))
  refine cln64_s (s := s1) (xs := M.cells) hS h1 fun s8 w9 hS9 => samec_h (g := gm) hS hS9 (samec_h (g := gm) hS hS9 ?_)
  refine clnI_s (s := s2) (xs := M.steps) hS9 h2 fun s10 w11 hS11 => samec_h (g := gm) hS hS11 ?_
  refine newC_h hS11 fun gc w13 h => hk gc w13 ?_
  have h : St w0 w13 (blk gc [.slice s8.a s8.n s8.c, .int .i64 M.size, .slice s10.a s10.n s10.c] :: slc 1 s8 (ints M.cells) :: slc 1 s10 (ints M.steps) :: blk gm [.slice s1.a s1.n s1.c, .int .i64 M.size, .slice s2.a s2.n s2.c] :: slc 1 s1 (ints M.cells) :: slc 1 s2 (ints M.steps) :: L) :=
    h.perm (List.Perm.cons _ (List.Perm.swap _ _ _))
  have h := mach_shut (M := M) h
  have h : St w0 w13 (blk gm [.slice s1.a s1.n s1.c, .int .i64 M.size, .slice s2.a s2.n s2.c] :: slc 1 s1 (ints M.cells) :: slc 1 s2 (ints M.steps) :: mach gc M :: L) := h.perm (by repeat' (first | exact List.Perm.refl _ | refine perm_f 0 rfl ?_ | refine perm_f 1 rfl ?_ | refine perm_f 2 rfl ?_ | refine perm_f 3 rfl ?_ | refine perm_f 4 rfl ?_ | refine perm_f 5 rfl ?_ | refine perm_f 6 rfl ?_ | refine perm_f 7 rfl ?_))
  exact (mach_shut (M := M) h).swap
end

section
variable {l0 most K wk : Int} {nw : Nat} {M : Mac} {R : Rg} {O : Dop} {l : List Int}
theorem thf_go (hg : Glo l0 most nw M R) (ht : Tl K M R none) (h : Thf M R M.B O) (hw : M.caller wk = true) (hT : 16 ≤ O.next → O.t = M.T) (hB : M.T < M.B) (hn : O.next ≠ 19) :
    (O.step M wk).2 = M.tick wk ∧ Thf (M.tick wk) R (M.tick wk).B (O.step M wk).1 ∧ (O.step M wk).1.t = M.T ∧ (O.step M wk).1.next = O.next + 1 ∧ (O.step M wk).1.how = (if O.next = 18 then 2 else 0) := by
  have hr := thf_step (o := none) hg ht (fun _ q => by cases q) h hw
  have hnx := hr.nx
  have hh := hr.hw
  have hn0 := h.n0; have hn1 := h.n1
  rcases hr.alt with ⟨a, b, c, d, e⟩ | ⟨a, b, c, d⟩ | ⟨a, b, c, d⟩ | ⟨a, b, c, c2, d, e⟩
  · rw [d] at c
    refine ⟨d, c, ?_, by omega, by split <;> omega⟩
    by_cases q : O.next = 15
    · exact hr.t1 q
    · rw [hr.t2 (by omega), hT (by omega)]
  · have := hT (by omega); omega
  · omega
  · omega
theorem fine_B (h : 5 ≤ O.next) (h2 : O.next ≤ 19) : O.fineB = true := by
  unfold Dop.fineB
  rw [decide_eq_true (show O.next ≤ 19 from h2), decide_eq_true (show O.next ≠ 3 by omega), decide_eq_true (show O.next ≠ 4 by omega)]
  rfl
theorem ok_B (h : M.OK) : M.okB = true := by
  unfold Mac.okB
  rw [decide_eq_true h.size.1, decide_eq_true h.size.2, decide_eq_true h.fit]
  rfl
theorem calm_tick (h : Calm l0 most nw K M R l) : Calm l0 most nw K (M.tick wk) R l := ⟨glo_tick h.glo, tl_tick h.tl, h.len, by rw [cont_tick]; exact h.is⟩
theorem calm_head {x : Int} (h : Calm l0 most nw K M R (x :: l)) : M.get (R.place M.T) = x ∧ M.T < M.B := by
  have hc := h.count
  rw [List.length_cons] at hc
  have hi := h.is
  unfold Cont at hi
  simp only [Uof, held, List.append_nil] at hi
  rw [show (M.B - M.T).toNat = (M.B - M.T - 1).toNat + 1 by omega, vals_cons] at hi
  exact ⟨(List.cons.inj hi).1, by omega⟩
theorem seen4 {x : Int} (hC : Calm l0 most nw K M R (x :: l)) (hw : (1 : Int) < nw) : takesB 1 4 (Dop.beg most 0 15) M = true ∧ ∃ O4 M4, takesF 1 4 (Dop.beg most 0 15) M = (O4, M4) ∧ O4.how = 2 ∧ O4.got = x ∧ O4.next = 19 ∧ O4.t = M.T ∧ M4.cells = M.cells ∧ Calm l0 most nw K M4 R (x :: l) := by
  obtain ⟨hx, hB⟩ := calm_head hC
  generalize hO0 : Dop.beg most 0 15 = O0
  have n0 : O0.next = 15 := by rw [← hO0]; rfl
  have t0 : Thf M R M.B O0 := by rw [← hO0]; exact thf_beg _
  have cl : ∀ {M : Mac}, M.steps.length = nw → M.caller 1 = true := fun h => caller_of h (by omega) hw
  obtain ⟨a1, b1, c1, d1, e1⟩ := thf_go (wk := 1) hC.glo hC.tl t0 (cl hC.glo.st) (fun q => by omega) hB (by omega)
  generalize hO1 : (O0.step M 1).1 = O1 at *
  have C1 := calm_tick (wk := 1) hC
  obtain ⟨a2, b2, c2, d2, e2⟩ := thf_go (wk := 1) C1.glo C1.tl b1 (cl C1.glo.st) (fun q => c1) hB (by omega)
  generalize hO2 : (O1.step (M.tick 1) 1).1 = O2 at *
  have C2 := calm_tick (wk := 1) C1
  obtain ⟨a3, b3, c3, d3, e3⟩ := thf_go (wk := 1) C2.glo C2.tl b2 (cl C2.glo.st) (fun q => c2) hB (by omega)
  generalize hO3 : (O2.step ((M.tick 1).tick 1) 1).1 = O3 at *
  have C3 := calm_tick (wk := 1) C2
  obtain ⟨a4, b4, c4, d4, e4⟩ := thf_go (wk := 1) C3.glo C3.tl b3 (cl C3.glo.st) (fun q => c3) hB (by omega)
  generalize hO4 : (O3.step (((M.tick 1).tick 1).tick 1) 1).1 = O4 at *
  have C4 := calm_tick (wk := 1) C3
  rw [if_neg (by omega)] at e1 e2 e3
  rw [if_pos (by omega)] at e4
  refine ⟨?_, O4, _, ?_, e4, ?_, by omega, c4, ?_, C4⟩
  · have u : ∀ (O : Dop) (M : Mac) (n : Nat), takesB 1 (n + 2) O M = (O.fineB && M.okB && (((O.step M 1).1.how == 0) && takesB 1 (n + 1) (O.step M 1).1 (O.step M 1).2)) := fun _ _ _ => rfl
    have u1 : ∀ (O : Dop) (M : Mac), takesB 1 1 O M = (O.fineB && M.okB && true) := fun _ _ => rfl
    rw [u, hO1, a1, u, hO2, a2, u, hO3, a3, u1, fine_B (O := O0) (by omega) (by omega), fine_B (O := O1) (by omega) (by omega), fine_B (O := O2) (by omega) (by omega), fine_B (O := O3) (by omega) (by omega), ok_B hC.glo.ok, ok_B C1.glo.ok, ok_B C2.glo.ok, ok_B C3.glo.ok, e1, e2, e3]
    rfl
  · have u : ∀ (O : Dop) (M : Mac) (n : Nat), takesF 1 (n + 1) O M = takesF 1 n (O.step M 1).1 (O.step M 1).2 := fun _ _ _ => rfl
    rw [u, hO1, a1, u, hO2, a2, u, hO3, a3, u, hO4, a4]
    rfl
  · rw [b4.t5 (by omega) c4, c4]
    exact hx
  · rfl
end
section
variable {w0 w : World} {L : List HP} {l0 most : Int}
theorem law_lets {l : Sl} {xs : List Int} {k : Bool → World → Prop} (hl : SlI w l xs) (hk : ∀ w', St w w' [] → k true w') : pelotonlaw10_DequeLets #[.int .i64 l0, .int .i64 most] l w k := by
  unfold pelotonlaw10_DequeLets pelotonlaw10_DequeLets_b
  refine setup_s (wks := 2) (.inl rfl) hk fun hlo hg gm ga gd w20 h => ?_
  have hlg := of_decide_eq_true hlo
  have hnl := SlI.len hl
  have hle := of_decide_eq_false hg
  refine emp_s h fun gh w29 h => ?_
  refine joinP_i (fun (s : Sl) w' => ∃ M R hv, Calm l0 most 3 xs.length M R hv ∧ St w w' [slc 1 s (ints hv), mach gm M, blk ga (ints [l0, most]), blk gd (ints [0, most])]) (fun J hJ => ?_) ?_
  · refine loopP_of (fun (x : Sl × Int) w' => ∃ (j : Nat) (M : Mac) (R : Rg) (hv : List Int), x.2 = j ∧ j ≤ xs.length ∧ Calm l0 most 3 j M R hv ∧ St w w' [slc 1 x.1 (ints hv), mach gm M, blk ga (ints [l0, most]), blk gd (ints [0, most])]) (fun x _ => ((xs.length : Int) - x.2).toNat) ⟨0, _, _, [], rfl, by omega, calm_began (.inl rfl) hlo, h⟩ ?_
    rintro ⟨s, i⟩ w32 ⟨j, M, R, hv, hj, hjl, hC, h⟩ C hCC
    dsimp only at hj h ⊢
    subst hj
    have hn : hv.length = s.n := by have := h.slen (sz := 1) (s := s) (vs := ints hv); simpa using this
    have hcnt := hC.count
    have hsm := hC.small
    have hwj : IntKind.wrap .i64 ((j : Int) + 1) = ((j + 1 : Nat) : Int) := by rw [wrap_id ⟨by omega, by omega⟩]; omega
    refine iteB_i (fun hb => ?_) fun hb => ?_
    · have hb := of_decide_eq_true hb
      refine drew_h h fun w36 h => ldW_h (g := gd) h rfl (ixB_h hl h (by omega) (by omega) fun p hp => ldI_i (hp h) ?_)
      have h : St w w36 [mach gm M, slc 1 s (ints hv), blk ga (ints [l0, most]), blk gd (ints [0, most])] := h.swap
      rw [hwj]
      refine push_alone (wk := 0) hC (by omega) (by omega) (by omega) h (fun hlt go O' M' R' w43 hf hC' h => ?_) fun heq go O' M' R' w43 hf hC' h => ?_
      · refine iteB_t rfl (ixB_h hl h (by omega) (by omega) fun p hp => ldI_i (hp h) ?_)
        refine app1_s (s := s) (xs := hv) h (by omega) fun s' w' h => hCC _ _ ⟨j + 1, M', R', _, rfl, by omega, by rw [show ((j + 1 : Nat) : Int) = (j : Int) + 1 by omega]; exact hC', h.drop.swap⟩ (by dsimp only; omega)
      · refine iteB_f rfl (iteB_f rfl ?_)
        exact hCC _ _ ⟨j + 1, M', R', _, rfl, by omega, by rw [show ((j + 1 : Nat) : Int) = (j : Int) + 1 by omega]; exact hC', h.drop.swap⟩ (by dsimp only; omega)
    · have hb := of_decide_eq_false hb
      have : j = xs.length := by omega
      subst this
      exact hJ _ _ ⟨M, R, hv, hC, h⟩
  rintro s w42 ⟨M, R, hv, hC, h⟩
  have hn : hv.length = s.n := by have := h.slen (sz := 1) (s := s) (vs := ints hv); simpa using this
  have hcnt := hC.count
  have hsm := hC.small
  have h : St w w42 [mach gm M, slc 1 s (ints hv), blk ga (ints [l0, most]), blk gd (ints [0, most])] := h.swap
  have hfit := hC.glo.ok.fit
  have hsz := hC.glo.sz
  have hst := hC.glo.st
  refine clone_s h (by omega) (by omega) fun gc w44 h => ?_
  refine ldW_h (g := gd) h rfl ?_
  refine steal_s (most := most) h fun go1 w47 h => ?_
  have h : St w w47 [opP go1 (Dop.beg most 0 15), mach gm M, mach gc M, slc 1 s (ints hv), blk ga (ints [l0, most]), blk gd (ints [0, most])] := h.perm (by repeat' (first | exact List.Perm.refl _ | refine perm_f 0 rfl ?_ | refine perm_f 1 rfl ?_ | refine perm_f 2 rfl ?_ | refine perm_f 3 rfl ?_ | refine perm_f 4 rfl ?_ | refine perm_f 5 rfl ?_ | refine perm_f 6 rfl ?_ | refine perm_f 7 rfl ?_))
  cases hv with
  | nil =>
    refine iteB_t (by rw [← hn]; rfl) ?_
    refine steal_alone (wk := 1) hC (by omega) (by omega) h (fun l' O' M' w' hf hh hl' hC' _ h => by cases hl') fun O' M' w' hl' hh hC' h => ?_
    exact iteB_t rfl (awake_s h hk)
  | cons x hv =>
    have hn1 : hv.length + 1 = s.n := by rw [← hn]; rfl
    refine iteB_f (by rw [beq_eq_false_iff_ne]; omega) ?_
    obtain ⟨hB4, O4, M4, hF, e4, g4, n4, t4, c4, C4⟩ := seen4 hC (by omega)
    refine joinP_i (fun b w' => b = false ∧ St w w' [opP go1 O4, mach gm M4, mach gc M, slc 1 s (ints (x :: hv)), blk ga (ints [l0, most]), blk gd (ints [0, most])]) (fun J hJ => ?_) ?_
    · refine drew_h h fun w53 h => ?_
      refine takes_s (n := 4) h hB4 (by omega) fun w55 h => ?_
      rw [hF] at h ⊢
      refine iteB_f (by dsimp only; rw [e4]; rfl) ?_
      refine ixK_h (s := s) (xs := x :: hv) h (by omega) (by simp) fun p hp => ldI_i (hp h) ?_
      refine got_s (go := go1) (O := O4) h (samec_1 (hp h) (hp h) ?_)
      have ht : O4.tell = x := by unfold Dop.tell; rw [if_pos (.inl e4), g4]
      rw [ht]
      refine iteB_f (by simp) ?_
      refine used_s (g := gm) (M := M4) h (used_s (g := gc) (M := M) h (hJ _ _ ⟨by rw [c4]; simp, h⟩))
    rintro b w65 ⟨rfl, h⟩
    refine iteB_f rfl ?_
    refine joinP_i (fun (_ : Unit) w' => w' = w65) (fun J hJ => ?_) ?_
    · refine loopP_of (fun (i : Int) w' => ∃ j : Nat, i = j ∧ w' = w65) (fun i _ => ((600 : Int) - i).toNat) ⟨0, rfl, rfl⟩ ?_
      rintro _ _ ⟨j, rfl, rfl⟩ C hCC
      refine iteB_i (fun hb => ?_) fun hb => hJ _ _ rfl
      have hb := of_decide_eq_true hb
      have hwj : IntKind.wrap .i64 ((j : Int) + 1) = ((j + 1 : Nat) : Int) := by rw [wrap_id ⟨by omega, by omega⟩]; omega
      refine peek_r (gm := gm) (M := M4) h (peek_r (gm := gc) (M := M) h ?_)
      have : M4.peek j = M.peek j := by unfold Mac.peek Mac.given Mac.get; rw [c4]
      rw [this, hwj]
      exact iteB_f (by simp) (hCC _ _ ⟨j + 1, rfl, rfl⟩ (by omega))
    rintro _ w65 rfl
    refine ldW_h (g := gd) h rfl ?_
    have h : St w w65 [mach gm M4, opP go1 O4, mach gc M, slc 1 s (ints (x :: hv)), blk ga (ints [l0, most]), blk gd (ints [0, most])] := h.swap
    refine steal_s (most := most) h fun go2 w78 h => ?_
    have hT4 : M4.T = M.T := by unfold Mac.T Mac.get; rw [c4]
    refine joinP_i (fun b w' => b = false ∧ ∃ M' R', Calm l0 most 3 xs.length M' R' hv ∧ St w w' [slc 1 s (ints (x :: hv)), mach gm M', blk ga (ints [l0, most]), blk gd (ints [0, most])]) (fun J hJ => ?_) ?_
    · refine drew_h h fun w80 h => ?_
      refine steal_alone (wk := 2) C4 (by omega) (by omega) h (fun l' O' M' w' hf hh hl' hC' hT' h => ?_) fun O' M' w' hl' hh hC' h => by cases hl'
      obtain ⟨e1, e2⟩ := List.cons.inj hl'
      subst e2
      refine iteB_f rfl ?_
      refine ixK_h (s := s) (xs := x :: hv) h (by omega) (by simp) fun p hp => ldI_i (hp h) ?_
      refine got_s (go := go2) (O := O') h (samec_1 (hp h) (hp h) ?_)
      rw [tell_done hh, ← e1]
      refine iteB_f (by simp) ?_
      have h : St w w' [opP go1 O4, mach gm M', opP go2 O', mach gc M, slc 1 s (ints (x :: hv)), blk ga (ints [l0, most]), blk gd (ints [0, most])] := h.perm (by repeat' (first | exact List.Perm.refl _ | refine perm_f 0 rfl ?_ | refine perm_f 1 rfl ?_ | refine perm_f 2 rfl ?_ | refine perm_f 3 rfl ?_ | refine perm_f 4 rfl ?_ | refine perm_f 5 rfl ?_ | refine perm_f 6 rfl ?_ | refine perm_f 7 rfl ?_))
      have hstep : O4.step M' 1 = ({ O4 with how := 5, err := 0 }, M'.tick 1) := by
        have hlen := hC'.glo.len3
        have hc := cas_ok (M := M') (wk := 1) (a := 0) (old := O4.t) (x := wr (O4.t + 1)) (caller_of hC'.glo.st (by omega) (by omega)) (by omega) (by omega)
        rw [if_neg (show ¬ M'.get 0 = O4.t from fun q => by have q2 : M'.T = O4.t := q; omega)] at hc
        have hr : O4.run M' 1 = (O4, M'.tick 1, 5, 0) := by
          unfold Dop.run; simp only [n4]; unfold Dop.f19; rw [hc]; rfl
        exact step_is (live2 (.inr e4)) hr
      refine step_r h (far_fine (by omega) (by omega) (by omega)) hC'.glo.ok fun w88 h => ?_
      rw [hstep] at h ⊢
      refine iteB_f rfl ?_
      refine got_s (go := go1) (O := { O4 with how := 5, err := 0 }) h (hJ _ _ ⟨rfl, _, R, calm_tick (wk := 1) hC', ?_⟩)
      have h : St w w88 [opP go1 { O4 with how := 5, err := 0 }, mach gm (M'.tick 1), opP go2 O', mach gc M, slc 1 s (ints (x :: hv)), blk ga (ints [l0, most]), blk gd (ints [0, most])] := h
      exact (((h.rm 0 rfl).rm 1 rfl).rm 1 rfl).swap
    rintro b w92 ⟨rfl, M', R', hC', h⟩
    refine iteB_f rfl (drew_h h fun w93 h => ldW_h (g := gd) h rfl ?_)
    refine slL_h (s := s) (vs := ints (x :: hv)) h (by omega) (by omega) fun d hd h => ?_
    have h : St w w93 [mach gm M', slc 1 d (ints hv), blk ga (ints [l0, most]), blk gd (ints [0, most])] := St.swap h
    refine calm_list_s hC' h fun s96 w97 h => ?_
    have ha : OwnS 1 w97 s96 (ints hv) := h.own
    have hb2 : OwnS 1 w97 d (ints hv) := h.own
    have hl96 : hv.length = s96.n := by have := h.slen (sz := 1) (s := s96) (vs := ints hv); simpa using this
    rw [List.length_cons] at hcnt
    refine same_r ha.sls hb2.sls (by omega) fun w99 hS => ?_
    exact iteB_t (by simp) (awake_s (h.on hS.ext) hk)
end
end Go.Proofs.Ytheallacpidcmaa
