/-
  Layer 10: without a machine, and without an operation.
-/
import Derived.Test.YtheallacpidcmaaQo
import Derived.Test.YtheallacpidcmaaQn
set_option linter.unusedSimpArgs false
set_option linter.unusedVariables false
set_option maxRecDepth 100000
namespace Go.Proofs.Ytheallacpidcmaa
open Go Go.Ev Go.Proofs

section
variable {l0 most K wk : Int} {nw : Nat} {M : Mac} {R : Rg} {O : Dop} {l : List Int} {w0 w : World} {L : List HP} {gm go : Nat} {x : Int}
theorem pop_nil {k : Int → World → Prop} (h : St w0 w (opP go (Dop.beg most 0 8) :: L)) (hk : ∀ w', St w0 w' (opP go { Dop.beg most 0 8 with next := 9, how := 6, err := 2 } :: L) → k 6 w') : deque_Op_Step (some ⟨go, 0, none⟩) none 0 w k := by
  rw [opP_none rfl] at h
  unfold deque_Op_Step deque_Op_Step_b
  refine iteB_f rfl (joinP_i (fun b w' => b = false ∧ w' = w) (fun J hJ => nn_i (ldI_h (g := go) (o := 12) (n := 0) h rfl (iteB_f rfl (hJ _ _ ⟨rfl, rfl⟩)))) ?_)
  rintro b w7 ⟨rfl, rfl⟩
  refine iteB_f rfl (nn_i (ldV_h (g := go) (o := 11) h rfl ?_))
  refine callF_p (d := d_deque_Op_popBottom) (fun _ _ _ => rfl) (q_popBottom ?_)
  unfold deque_Op_popBottom deque_Op_popBottom_b
  refine drew_h h fun w1 h => nn_i (ldA_h (g := go) (o := 0) h (by simp [Dop.cells]) (nn_i ?_))
  refine bottom_s (most := most) h fun w6 h => ?_
  unfold deque_Op_load deque_Op_load_b cells_Machine_Load cells_Machine_Load_b
  refine iteB_t rfl (nn_i (stC_h (g := go) (o := 2) h rfl (by simp [Dop.cells]) fun w8 h => nn_i (stC_h (g := go) (o := 11) h rfl (by simp [Dop.cells]) fun w9 h => ?_)))
  show joinP (S := Int) (fun J15 =>
        iteB ((2 : Int) != (0 : Int)) (
          (J15 (6 : Int) w9)) (
          (J15 0 w9))) fun i16 w17 =>
      nn (some ⟨go, 0, none⟩) fun a18 =>
      stC w17 (Addr.add a18 12) (.int .i64 i16) fun w19 =>
      nn (some ⟨go, 0, none⟩) fun a20 =>
      stC w19 (Addr.add a20 14) (.int .i64 2) fun w21 =>
      (k i16 w21)
  refine joinP_i (fun n w' => n = 6 ∧ w' = w9) (fun J hJ => iteB_t rfl (hJ _ _ ⟨rfl, rfl⟩)) ?_
  rintro n w17 ⟨rfl, rfl⟩
  refine nn_i (stC_h (g := go) (o := 12) h rfl (by simp [Dop.cells]) fun w19 h => nn_i (stC_h (g := go) (o := 14) h rfl (by simp [Dop.cells]) fun w21 h => hk w21 ?_))
  rw [opP_none rfl]
  exact h
theorem calm_ld {a : Int} (h : Calm l0 most nw K M R l) : Calm l0 most nw K (M.ld wk a).1 R l := by
  unfold Mac.ld
  split
  · exact calm_tick h
  · exact h
theorem T_ld {a : Int} : (M.ld wk a).1.T = M.T := by
  unfold Mac.ld
  split <;> rfl
theorem list_nil {k : Sl → World → Prop} {cs : Array Value} (h : St w0 w L) (hk : ∀ w', St w0 w' L → k ⟨none, 0, 0⟩ w') : deque_Deque_List cs none w k := by
  unfold deque_Deque_List deque_Deque_List_b
  exact newC_h h fun g w2 h => iteB_t rfl (hk w2 h.drop)
theorem new_nil {wv a b : Int} {k : Array Value × Int → World → Prop} (h : St w0 w L) (hk : ∀ w', St w0 w' L → k (#[.int .i64 0, .int .i64 0], 2) w') : deque_New none wv a b w k := by
  unfold deque_New deque_New_b
  refine newC_h h fun g1 w2 h => iteB_t rfl ?_
  refine stW_h (g := g1) (vs := agI [0, 0]) h rfl rfl (by intro v hv; simp [agI, ints] at hv; rw [hv]; rfl) fun w5 h => ldW_h (g := g1) h rfl ?_
  exact hk w5 h.drop
theorem bottom_nil {wv : Int} {k : Int × Int → World → Prop} (h : St w0 w L) (hk : ∀ w', St w0 w' L → k (0, 2) w') : deque_Deque_Bottom #[.int .i64 0, .int .i64 x] none wv w k := by
  unfold deque_Deque_Bottom deque_Deque_Bottom_b
  refine newC_h h fun g1 w2 h => ldW_h (g := g1) h rfl ?_
  refine bottom_s (most := x) h fun w5 h => ?_
  unfold cells_Machine_Load cells_Machine_Load_b
  exact iteB_t rfl (hk w5 h.drop)
theorem bottom_r {wv : Int} {k : Int × Int → World → Prop} (h : St w0 w (mach gm M :: L)) (hk : ∀ w', St w0 w' (mach gm (M.ld wv 1).1 :: L) → k ((M.ld wv 1).2.1, (M.ld wv 1).2.2) w') : deque_Deque_Bottom #[.int .i64 0, .int .i64 most] (some ⟨gm, 0, none⟩) wv w k := by
  unfold deque_Deque_Bottom deque_Deque_Bottom_b
  refine newC_h h fun g1 w2 h => ldW_h (g := g1) h rfl ?_
  refine bottom_s (most := most) h fun w5 h => ?_
  exact load_r (gm := gm) (M := M) h fun w7 h => hk w7 h.drop
theorem law_dnil {l : Sl} {xs : List Int} {k : Bool → World → Prop} {wv : Int} (hl : SlI w l xs) (hk : ∀ w', St w w' [] → k true w') : pelotonlaw10_DequeNil #[.int .i64 l0, .int .i64 most] l wv w k := by
  have hnl := SlI.len hl
  unfold pelotonlaw10_DequeNil pelotonlaw10_DequeNil_b
  have h : St w w [] := .nil w
  refine newC_h h fun ga w2 h => ?_
  have h : St w w2 [blk ga (ints [l0, most])] := h
  refine ldI_h (g := ga) (o := 0) h rfl (ldI_h (g := ga) (o := 1) h rfl ?_)
  refine new_nil h fun w6 h => newC_h h fun gd w8 h => ?_
  refine stW_h (g := gd) (vs := agI [0, 0]) h rfl rfl (by intro v hv; simp [agI, ints] at hv; rw [hv]; rfl) fun w9 h => ?_
  have h : St w w9 [blk gd (ints [0, 0]), blk ga (ints [l0, most])] := h
  refine iteB_i (fun _ => awake_s h hk) fun hle => ?_
  have hle := of_decide_eq_false hle
  refine joinP_i (fun b w' => b = false ∧ St w w' [blk gd (ints [0, 0]), blk ga (ints [l0, most])]) (fun J hJ => ?_) ?_
  · refine iteB_f rfl (ldW_h (g := gd) h rfl (eqA_I (n := 2) (xs := [0, 0]) (ys := [0, 0]) rfl rfl (iteB_f rfl ?_)))
    unfold deque_Op_Step deque_Op_Step_b
    refine iteB_t rfl (iteB_f rfl ?_)
    unfold deque_Op_Got
    refine joinP_i (fun b w' => b = true ∧ w' = w9) (fun J2 hJ2 => iteB_t rfl (hJ2 _ _ ⟨rfl, rfl⟩)) ?_
    rintro b w7 ⟨rfl, rfl⟩
    refine iteB_t rfl (iteB_f rfl ?_)
    unfold deque_Op_Err
    refine iteB_t rfl (iteB_f rfl (ldW_h (g := gd) h rfl ?_))
    exact list_nil h fun w23 h => hJ _ _ ⟨rfl, h⟩
  rintro b w25 ⟨rfl, h⟩
  refine iteB_f rfl (ldW_h (g := gd) h rfl ?_)
  refine bottom_nil (x := 0) h fun w28 h => iteB_f rfl ?_
  refine joinP_i (fun b w' => b = (!logsOk l0 most) ∧ w' = w28) (fun J hJ => ?_) ?_
  · refine ldI_h (g := ga) (o := 0) h rfl (iteB_i (fun hb => ?_) fun hb => ?_)
    · have : logsOk l0 most = false := by unfold logsOk; rw [decide_eq_false_iff_not]; have := of_decide_eq_true hb; omega
      exact hJ _ _ ⟨by rw [this]; rfl, rfl⟩
    · have h1 := of_decide_eq_false hb
      refine ldI_h (g := ga) (o := 1) h rfl (ldI_h (g := ga) (o := 0) h rfl (iteB_i (fun hb => ?_) fun hb => ?_))
      · have : logsOk l0 most = false := by unfold logsOk; rw [decide_eq_false_iff_not]; have := of_decide_eq_true hb; omega
        exact hJ _ _ ⟨by rw [this]; rfl, rfl⟩
      · have h2 := of_decide_eq_false hb
        refine ldI_h (g := ga) (o := 1) h rfl (hJ _ _ ⟨?_, rfl⟩)
        rw [Bool.eq_iff_iff]
        unfold logsOk
        simp only [Bool.not_eq_true', decide_eq_true_eq, decide_eq_false_iff_not]
        omega
  rintro b w35 ⟨rfl, rfl⟩
  have hcal : ((Mac.new 600 2).caller 2) = true := by decide
  refine iteB_i (fun hb => ?_) fun hb => ?_
  · have hlo : logsOk l0 most = false := by simpa using hb
    refine cnew_s (size := 600) (wks := 2) h (fun _ gm w37 h => ?_) fun hn => by cases hn
    refine ldI_h (g := ga) (o := 0) h rfl (ldI_h (g := ga) (o := 1) h rfl ?_)
    refine dnew_s (wk := 2) (log := l0) (most := most) h ⟨⟨by decide, by decide⟩, by decide⟩ hcal rfl (fun q => by rw [hlo] at q; cases q) (fun q => by rw [hlo] at q; cases q) fun _ w41 h => ?_
    refine newC_h h fun gc w43 h => ?_
    refine stW_h (g := gc) (vs := agI [0, 0]) h rfl rfl (by intro v hv; simp [agI, ints] at hv; rw [hv]; rfl) fun w44 h => ?_
    refine iteB_t rfl (ldW_h (g := gc) h rfl (eqA_I (n := 2) (xs := [0, 0]) (ys := [0, 0]) rfl rfl (iteB_t rfl ?_)))
    exact used_s (g := gm) (M := Mac.new 600 2) h (iteB_t rfl (awake_s h hk))
  · have hlo : logsOk l0 most = true := by simpa using hb
    have hlg := of_decide_eq_true hlo
    refine cnew_s (size := 600) (wks := 2) h (fun _ gm w52 h => ?_) fun hn => by cases hn
    refine ldI_h (g := ga) (o := 0) h rfl (ldI_h (g := ga) (o := 1) h rfl ?_)
    have hp1 : (⟨3, l0⟩ : Rg).pw ≤ 256 := pw_le (n := 8) (by show l0 ≤ _; omega)
    have hpe : ((⟨3, l0⟩ : Rg).pw : Int) = pwr l0 := rfl
    refine dnew_s (wk := 2) (log := l0) (most := most) h ⟨⟨by decide, by decide⟩, by decide⟩ hcal rfl (fun _ _ w56 h => ?_) (fun _ hr => ?_) fun hn => by rw [hlo] at hn; cases hn
    rotate_left
    · unfold Mac.room Mac.new at hr
      have hr := of_decide_eq_false hr
      exact (hr (by show 3 + pwr l0 ≤ 600 - (0 : Int); omega)).elim
    refine stW_h (g := gd) (vs := agI [0, most]) h rfl rfl (by intro v hv; simp [agI, ints] at hv; rcases hv with rfl | rfl <;> rfl) fun w57 h => ?_
    have h : St w w57 [mach gm ((Mac.new 600 2).began 2 l0), blk gd (ints [0, most]), blk ga (ints [l0, most])] := h
    refine iteB_f rfl ?_
    have C0 := calm_began (l0 := l0) (most := most) (wks := 2) (.inl rfl) hlo
    refine joinP_i (fun (n : Int) w' => ∃ M R hv, n = ((hv.length : Nat) : Int) ∧ M.T = 0 ∧ Calm l0 most 3 xs.length M R hv ∧ St w w' [mach gm M, blk gd (ints [0, most]), blk ga (ints [l0, most])]) (fun J hJ => ?_) ?_
    · refine loopP_of (fun (x : Int × Int) w' => ∃ (j : Nat) (M : Mac) (R : Rg) (hv : List Int), x = (((hv.length : Nat) : Int), (j : Int)) ∧ j ≤ xs.length ∧ M.T = 0 ∧ Calm l0 most 3 j M R hv ∧ St w w' [mach gm M, blk gd (ints [0, most]), blk ga (ints [l0, most])]) (fun x _ => ((xs.length : Int) - x.2).toNat) ⟨0, _, _, [], rfl, by omega, (began_ok (wk := 2) (nw := 3) (M := Mac.new 600 2) rfl (by omega) hlo).2.2.1, C0, h⟩ ?_
      rintro _ w61 ⟨j, M, R, hv, rfl, hjl, hT, hC, h⟩ C hCC
      dsimp only
      have hcnt := hC.count
      have hsm := hC.small
      have hwj : IntKind.wrap .i64 ((j : Int) + 1) = ((j + 1 : Nat) : Int) := by rw [wrap_id ⟨by omega, by omega⟩]; omega
      have hwn : IntKind.wrap .i64 ((hv.length : Int) + 1) = ((hv.length + 1 : Nat) : Int) := by rw [wrap_id ⟨by omega, by omega⟩]; omega
      refine iteB_i (fun hb => ?_) fun hb => ?_
      · have hb := of_decide_eq_true hb
        refine drew_h h fun w36 h => ldW_h (g := gd) h rfl (ixB_h hl h (by omega) (by omega) fun p hp => ldI_i (hp h) ?_)
        rw [hwj, hwn]
        refine push_more (wk := 0) hC (by omega) (by omega) (by omega) h (fun hlt go O' M' R' w43 hf _ hT' hC' h => ?_) fun heq go O' M' R' w43 hf hT' hC' h => ?_
        · exact iteB_t rfl (hCC _ _ ⟨j + 1, M', R', hv ++ [_], by rw [List.length_append]; rfl, by omega, by omega, by rw [show ((j + 1 : Nat) : Int) = (j : Int) + 1 by omega]; exact hC', h.drop⟩ (by dsimp only; omega))
        · exact iteB_f rfl (hCC _ _ ⟨j + 1, M', R', hv, rfl, by omega, by omega, by rw [show ((j + 1 : Nat) : Int) = (j : Int) + 1 by omega]; exact hC', h.drop⟩ (by dsimp only; omega))
      · have hb := of_decide_eq_false hb
        have : j = xs.length := by omega
        subst this
        exact hJ _ _ ⟨M, R, hv, rfl, hT, hC, h⟩
    rintro _ w71 ⟨M, R, hv, rfl, hT, hC, h⟩
    have hcnt := hC.count
    have hsm := hC.small
    refine ldW_h (g := gd) h rfl ?_
    refine bottom_r (most := most) h fun w74 h => ?_
    have hC1 := calm_ld (wk := wv) (a := 1) hC
    have hval : ((M.ld wv 1).2.1, (M.ld wv 1).2.2) = if wv < 0 ∨ wv > 2 then ((0 : Int), (10 : Int)) else ((hv.length : Int), 0) := by
      have hlen := hC.glo.len3
      by_cases q : wv < 0 ∨ wv > 2
      · rw [if_pos q]
        have hcl : M.caller wv = false := by
          unfold Mac.caller; rw [hC.glo.st, decide_eq_false_iff_not]; omega
        unfold Mac.ld Mac.can
        rw [hcl]; rfl
      · rw [if_neg q, ld_ok (caller_of hC.glo.st (by omega) (by omega)) (by omega) (by omega)]
        have : M.get 1 = M.B := rfl
        dsimp only
        rw [this, hcnt, hT]; congr 1; omega
    generalize hM1 : (M.ld wv 1).1 = M1 at *
    generalize (M.ld wv 1).2 = r at *
    refine joinP_i (fun (i : Int) w' => i = (if wv < 0 ∨ wv > 2 then 10 else 0) ∧ w' = w74) (fun J hJ => ?_) ?_
    · refine iteB_i (fun hb => ?_) fun hb => ?_
      · simp only [Bool.or_eq_true, decide_eq_true_eq] at hb
        exact hJ _ _ ⟨by rw [if_pos hb], rfl⟩
      · simp only [Bool.or_eq_false_iff, decide_eq_false_iff_not] at hb
        exact hJ _ _ ⟨by rw [if_neg (by omega)], rfl⟩
    rintro _ w77 ⟨rfl, rfl⟩
    refine joinP_i (fun b w' => b = false ∧ w' = w77) (fun J hJ => hJ _ _ ⟨?_, rfl⟩) ?_
    · have e1 : r.1 = if wv < 0 ∨ wv > 2 then 0 else (hv.length : Int) := by
        have := congrArg Prod.fst hval
        dsimp only at this
        rw [this]; split <;> rfl
      have e2 : r.2 = if wv < 0 ∨ wv > 2 then 10 else 0 := by
        have := congrArg Prod.snd hval
        dsimp only at this
        rw [this]; split <;> rfl
      dsimp only
      rw [e1, e2]
      split <;> simp
    rintro b w80 ⟨rfl, rfl⟩
    refine iteB_f rfl (ldW_h (g := gd) h rfl ?_)
    refine pop_s (most := most) h fun go1 w83 h => ?_
    refine ldW_h (g := gd) h rfl ?_
    refine steal_s (most := most) h fun go2 w86 h => ?_
    have h : St w w86 [opP go1 (Dop.beg most 0 8), opP go2 (Dop.beg most 0 15), mach gm M1, blk gd (ints [0, most]), blk ga (ints [l0, most])] := h.swap
    have hst3 : (Dop.beg most 0 15).step M1 3 = ({ Dop.beg most 0 15 with t := 0, next := 16, how := 6, err := 10 }, M1) := by
      have hcl : M1.caller 3 = false := by
        unfold Mac.caller; rw [hC1.glo.st]; rfl
      have hr : (Dop.beg most 0 15).run M1 3 = ({ Dop.beg most 0 15 with t := 0, next := 16 }, M1, 0, 10) := by
        show Dop.f15 _ _ _ = _
        unfold Dop.f15 Mac.ld Mac.can
        rw [hcl]; rfl
      rw [step_of rfl hr]; rfl
    refine joinP_i (fun b w' => b = false ∧ St w w' [opP go1 { Dop.beg most 0 8 with next := 9, how := 6, err := 2 }, opP go2 { Dop.beg most 0 15 with t := 0, next := 16, how := 6, err := 10 }, mach gm M1, blk gd (ints [0, most]), blk ga (ints [l0, most])]) (fun J hJ => ?_) ?_
    · refine pop_nil h fun w89 h => iteB_f rfl ?_
      refine err_s (go := go1) (O := { Dop.beg most 0 8 with next := 9, how := 6, err := 2 }) h (iteB_f rfl ?_)
      have h : St w w89 [opP go2 (Dop.beg most 0 15), mach gm M1, opP go1 { Dop.beg most 0 8 with next := 9, how := 6, err := 2 }, blk gd (ints [0, most]), blk ga (ints [l0, most])] := h.perm (by repeat' (first | exact List.Perm.refl _ | refine perm_f 0 rfl ?_ | refine perm_f 1 rfl ?_ | refine perm_f 2 rfl ?_ | refine perm_f 3 rfl ?_ | refine perm_f 4 rfl ?_ | refine perm_f 5 rfl ?_ | refine perm_f 6 rfl ?_ | refine perm_f 7 rfl ?_))
      refine step_r h (far_fine (by show 15 ≤ 19; omega) (by show 15 ≠ 3; omega) (by show 15 ≠ 4; omega)) hC1.glo.ok fun w93 h => ?_
      rw [hst3] at h ⊢
      refine iteB_f rfl ?_
      refine err_s (go := go2) (O := { Dop.beg most 0 15 with t := 0, next := 16, how := 6, err := 10 }) h (iteB_f rfl ?_)
      refine got_s (go := go2) (O := { Dop.beg most 0 15 with t := 0, next := 16, how := 6, err := 10 }) h (hJ _ _ ⟨rfl, ?_⟩)
      exact h.perm (by repeat' (first | exact List.Perm.refl _ | refine perm_f 0 rfl ?_ | refine perm_f 1 rfl ?_ | refine perm_f 2 rfl ?_ | refine perm_f 3 rfl ?_ | refine perm_f 4 rfl ?_ | refine perm_f 5 rfl ?_ | refine perm_f 6 rfl ?_ | refine perm_f 7 rfl ?_))
    rintro b w99 ⟨rfl, h⟩
    refine iteB_f rfl ?_
    refine ldI_h (g := gd) (o := 0) (n := 0) h rfl ?_
    have h2 : IntKind.wrap .i64 (0 + 2) = 2 := by decide
    rw [h2]
    refine peek_r (gm := gm) (M := M1) h ?_
    have hpk : M1.peek 2 = R.word := by
      have hlen := hC1.glo.len3
      unfold Mac.peek
      rw [if_pos (show M1.given 2 = true from decide_eq_true ⟨by omega, by unfold Mac.len at hlen; omega⟩), hC1.glo.word]
    rw [hpk]
    refine of_s h fun w104 h => ?_
    rw [of_word hC1.glo.right, if_pos hC1.glo.right]
    refine newC_h h fun gr w106 h => ?_
    refine stW_h (g := gr) (vs := R.ag) h rfl rfl (by intro v hv; simp [Rg.ag] at hv; rcases hv with rfl | rfl <;> rfl) fun w107 h => ?_
    have h : St w w107 [blk gr R.ag.toList, opP go1 { Dop.beg most 0 8 with next := 9, how := 6, err := 2 }, opP go2 { Dop.beg most 0 15 with t := 0, next := 16, how := 6, err := 10 }, mach gm M1, blk gd (ints [0, most]), blk ga (ints [l0, most])] := h
    have h : St w w107 [opP go1 { Dop.beg most 0 8 with next := 9, how := 6, err := 2 }, mach gm M1, blk gr R.ag.toList, opP go2 { Dop.beg most 0 15 with t := 0, next := 16, how := 6, err := 10 }, blk gd (ints [0, most]), blk ga (ints [l0, most])] := h.perm (by repeat' (first | exact List.Perm.refl _ | refine perm_f 0 rfl ?_ | refine perm_f 1 rfl ?_ | refine perm_f 2 rfl ?_ | refine perm_f 3 rfl ?_ | refine perm_f 4 rfl ?_ | refine perm_f 5 rfl ?_ | refine perm_f 6 rfl ?_ | refine perm_f 7 rfl ?_))
    refine step_r h (far_fine (by show 9 ≤ 19; omega) (by show 9 ≠ 3; omega) (by show 9 ≠ 4; omega)) hC1.glo.ok fun w109 h => ?_
    rw [step_still rfl] at h ⊢
    refine iteB_t rfl ?_
    refine err_s (go := go1) (O := { Dop.beg most 0 8 with next := 9, how := 6, err := 2 }) h (iteB_t rfl ?_)
    have h : St w w109 [opP go2 { Dop.beg most 0 15 with t := 0, next := 16, how := 6, err := 10 }, mach gm M1, blk gr R.ag.toList, blk gd (ints [0, most]), blk ga (ints [l0, most])] := (h.perm (M := [opP go1 { Dop.beg most 0 8 with next := 9, how := 6, err := 2 }, opP go2 { Dop.beg most 0 15 with t := 0, next := 16, how := 6, err := 10 }, mach gm M1, blk gr R.ag.toList, blk gd (ints [0, most]), blk ga (ints [l0, most])]) (by repeat' (first | exact List.Perm.refl _ | refine perm_f 0 rfl ?_ | refine perm_f 1 rfl ?_ | refine perm_f 2 rfl ?_ | refine perm_f 3 rfl ?_ | refine perm_f 4 rfl ?_ | refine perm_f 5 rfl ?_ | refine perm_f 6 rfl ?_ | refine perm_f 7 rfl ?_))).drop
    refine step_r h (far_fine (by show 16 ≤ 19; omega) (by show 16 ≠ 3; omega) (by show 16 ≠ 4; omega)) hC1.glo.ok fun w113 h => ?_
    rw [step_still rfl] at h ⊢
    refine iteB_t rfl (ldW_h (g := gd) h rfl ?_)
    have h : St w w113 [mach gm M1, blk gr R.ag.toList, blk gd (ints [0, most]), blk ga (ints [l0, most])] := h.drop
    refine calm_list_s hC1 h fun s115 w116 h => ?_
    have hl115 : hv.length = s115.n := by have := h.slen (sz := 1) (s := s115) (vs := ints hv); simpa using this
    refine iteB_t (by rw [beq_iff_eq]; omega) (ldW_h (g := gr) h rfl ?_)
    refine size_s (r := R) h fun w119 h => ?_
    have hro := hC1.room
    have hsz : R.size = R.pw := by unfold Rg.size; rw [if_pos hC1.glo.right]
    exact iteB_t (by rw [decide_eq_true_eq, hsz]; omega) (awake_s h hk)
end
end Go.Proofs.Ytheallacpidcmaa
