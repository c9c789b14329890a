/-
  Layer 10: how its laws begin.
-/
import Derived.Test.YtheallacpidcmaaQk
import Derived.Test.YtheallacpidcmaaQf
set_option linter.unusedSimpArgs false
set_option linter.unusedVariables false
set_option maxRecDepth 100000
namespace Go.Proofs.Ytheallacpidcmaa
open Go Go.Ev Go.Proofs

section
variable {w0 w : World} {L : List HP} {sz : Nat} {s : Sl} {vs : List Value} {f : HP → List HP}
theorem own_slL {lo : Int} {c : Sl → Prop} (ho : OwnS sz w s vs) (h0 : 0 ≤ lo) (h1 : lo ≤ s.n) (hc : ∀ d : Sl, d.n = s.n - lo.toNat → Sls sz w d (vs.drop (lo.toNat * sz)) → c d) : slL s sz lo c := by
  have hcap := ho.cap; have hlen := ho.len
  refine ⟨⟨h0, h1⟩, hc _ rfl (ho.off (lo := lo.toNat) (by simp [hlen, Nat.sub_mul]) (by simp; omega) (by simp; omega) ?_ fun i v hi => by simpa using hi).sls⟩
  by_cases hq : s.c = lo.toNat
  · right; simp [hq]
  · left; simp [hq]
theorem own_slS {lo hi : Int} {c : Sl → Prop} (ho : OwnS sz w s vs) (h0 : 0 ≤ lo) (h1 : lo ≤ hi) (h2 : hi ≤ s.n)
    (hc : ∀ d : Sl, d.n = hi.toNat - lo.toNat → Sls sz w d ((vs.drop (lo.toNat * sz)).take ((hi.toNat - lo.toNat) * sz)) → c d) : slS s sz lo hi c := by
  have hcap := ho.cap; have hlen := ho.len
  have hm : (hi.toNat - lo.toNat) * sz ≤ (s.n - lo.toNat) * sz := Nat.mul_le_mul_right _ (by omega)
  refine ⟨⟨by omega, by omega⟩, ⟨h0, h1⟩, hc _ rfl (ho.off (lo := lo.toNat) ?_ (by simp; omega) (by simp; omega) ?_ fun i v hi => ?_).sls⟩
  · rw [List.length_take, List.length_drop, hlen, ← Nat.sub_mul]; exact Nat.min_eq_left hm
  · by_cases hq : s.c = lo.toNat
    · right; simp [hq]
    · left; simp [hq]
  · rw [List.getElem?_take] at hi
    split at hi
    · simpa using hi
    · cases hi
end

section
variable {w0 w : World} {L : List HP} {l0 most : Int}
theorem setup_s {wks : Int} {g : Bool} {k : Bool → World → Prop} {F : Addr → Option Addr × Int → Array Value × Int → Addr → World → Prop} (hw : wks = 2 ∨ wks = 4)
    (hk : ∀ w', St w w' [] → k true w')
    (hF : logsOk l0 most = true → g = false → ∀ gm ga gd w', St w w' [mach gm ((Mac.new 600 wks).began wks l0), blk ga (ints [l0, most]), blk gd (ints [0, most])] → F ⟨ga, 0, none⟩ (some ⟨gm, 0, none⟩, 0) (#[.int .i64 0, .int .i64 most], 0) ⟨gd, 0, none⟩ w') :
    newC w #[.int .i64 l0, .int .i64 most] 22 fun a1 w2 =>
    joinP (S := Bool) (fun J3 =>
      ldI .i64 w2 (Addr.add a1 0) fun i4 =>
      iteB (decide (i4 < (0 : Int))) (
        (J3 (true || g) w2)) (
        ldI .i64 w2 (Addr.add a1 1) fun i5 =>
        ldI .i64 w2 (Addr.add a1 0) fun i6 =>
        iteB (decide (i5 < i6)) (
          (J3 (true || g) w2)) (
          ldI .i64 w2 (Addr.add a1 1) fun i7 =>
          (J3 ((decide (i7 > (8 : Int))) || g) w2)))) fun b8 w9 =>
    iteB b8 (
      pelotonlaw10_awake  w9 fun b10 w11 =>
      (k b10 w11)) (
      cells_New (600 : Int) wks w9 fun x12 w13 =>
      ldI .i64 w13 (Addr.add a1 0) fun i14 =>
      ldI .i64 w13 (Addr.add a1 1) fun i15 =>
      deque_New (x12.1, x12.2).1 wks i14 i15 w13 fun x16 w17 =>
      newC w17 #[(.int .i64 (0 : Int)), (.int .i64 (0 : Int))] 30 fun a18 w19 =>
      stA 2 w19 a18 (x16.1, x16.2).1 fun w20 =>
      iteB (((x12.1, x12.2).2 != (0 : Int)) || ((x16.1, x16.2).2 != (0 : Int))) (
        (k false w20)) (F a1 x12 x16 a18 w20)) := by
  have h : St w w [] := .nil w
  refine newC_h h fun ga w2 h => ?_
  have h : St w w2 [blk ga (ints [l0, most])] := h
  refine joinP_i (fun b w' => b = (!logsOk l0 most || g) ∧ w' = w2) (fun J hJ => ?_) ?_
  · refine ldI_h (g := ga) (o := 0) h rfl (iteB_i (fun hb => ?_) fun hb => ?_)
    · have : logsOk l0 most = false := by unfold logsOk; rw [decide_eq_false_iff_not]; have := of_decide_eq_true hb; omega
      exact hJ _ _ ⟨by rw [this]; rfl, rfl⟩
    · have h1 := of_decide_eq_false hb
      refine ldI_h (g := ga) (o := 1) h rfl (ldI_h (g := ga) (o := 0) h rfl (iteB_i (fun hb => ?_) fun hb => ?_))
      · have : logsOk l0 most = false := by unfold logsOk; rw [decide_eq_false_iff_not]; have := of_decide_eq_true hb; omega
        exact hJ _ _ ⟨by rw [this]; rfl, rfl⟩
      · have h2 := of_decide_eq_false hb
        refine ldI_h (g := ga) (o := 1) h rfl (hJ _ _ ⟨?_, rfl⟩)
        congr 1
        rw [Bool.eq_iff_iff]
        unfold logsOk
        simp only [Bool.not_eq_true', decide_eq_true_eq, decide_eq_false_iff_not]
        omega
  rintro b w9 ⟨rfl, rfl⟩
  refine iteB_i (fun hb => awake_s h hk) fun hb => ?_
  simp only [Bool.or_eq_false_iff, Bool.not_eq_false'] at hb
  have hw1 : 1 ≤ wks ∧ wks ≤ 16 := by omega
  refine cnew_s (size := 600) (wks := wks) h (fun _ gm w3 h => ?_) fun hn => ?_
  · refine ldI_h (g := ga) (o := 0) h rfl (ldI_h (g := ga) (o := 1) h rfl ?_)
    have hl := of_decide_eq_true hb.1
    have hp1 : (⟨3, l0⟩ : Rg).pw ≤ 256 := pw_le (n := 8) (by show l0 ≤ _; omega)
    have hpe : ((⟨3, l0⟩ : Rg).pw : Int) = pwr l0 := rfl
    refine dnew_s (wk := wks) (log := l0) (most := most) h ⟨⟨by show (1 : Int) ≤ 600; omega, by show (600 : Int) ≤ _; omega⟩, by show (0 : Int) ≤ 600; omega⟩ ?_ rfl (fun _ _ w5 h => ?_) (fun _ hr => ?_) fun hn => ?_
    · unfold Mac.caller Mac.new
      simp only [List.length_replicate, decide_eq_true_eq]
      omega
    · refine newC_h h fun gd w6 h => ?_
      refine stA_h (g := gd) (o := 0) (n := 2) h rfl (by simp) (by intro v hv; simp at hv; rcases hv with rfl | rfl <;> rfl) fun w7 h => ?_
      refine iteB_f rfl (hF hb.1 hb.2 gm ga gd w7 ?_)
      have h : St w w7 [blk gd (ints [0, most]), mach gm ((Mac.new 600 wks).began wks l0), blk ga (ints [l0, most])] := h
      exact h.perm (by repeat' (first | exact List.Perm.refl _ | refine perm_f 0 rfl ?_ | refine perm_f 1 rfl ?_ | refine perm_f 2 rfl ?_ | refine perm_f 3 rfl ?_ | refine perm_f 4 rfl ?_ | refine perm_f 5 rfl ?_ | refine perm_f 6 rfl ?_ | refine perm_f 7 rfl ?_))
    · unfold Mac.room Mac.new at hr
      have hr := of_decide_eq_false hr
      exact (hr (by show 3 + pwr l0 ≤ 600 - (0 : Int); omega)).elim
    · rw [hb.1] at hn; cases hn
  · unfold newOK at hn
    exact (of_decide_eq_false hn (by omega)).elim
/-- 2 to the .. -/
theorem pow_s {ga : Nat} {o : Nat} {ap : Addr} {cs : List Value} {f : HP → List HP} {n : Int} (h : St w0 w L) [a : At L (blk ga) cs f] (hap : ap = ⟨ga, o, none⟩) (ho : cs[o]? = some (.int .i64 n)) (hn : 0 ≤ n ∧ n ≤ 8) {rest : Int → World → Prop} (hk : rest (pwr n) w) :
    joinP (S := Int) (fun J21 =>
        loopP (S := (Int × Int)) (fun C22 x23 w24 =>
          ldI .i64 w24 ap fun i25 =>
          iteB (decide (x23.2 < i25)) (
            (C22 ((IntKind.wrap .i64 ((2 : Int) * x23.1)), (IntKind.wrap .i64 (x23.2 + (1 : Int)))) w24)) (
            (J21 x23.1 w24))) ((1 : Int), (0 : Int)) w) rest := by
  subst hap
  refine loopP_of (fun (x : Int × Int) w' => w' = w ∧ ∃ j : Nat, x = (((2 ^ j : Nat) : Int), (j : Int)) ∧ (j : Int) ≤ n) (fun x _ => (n - x.2).toNat) ⟨rfl, 0, rfl, by omega⟩ ?_
  rintro _ _ ⟨rfl, j, rfl, hj⟩ C hC
  refine ldI_h (g := ga) (o := o) h ho (iteB_i (fun hb => ?_) fun hb => ?_)
  · have hlt := of_decide_eq_true hb
    have hp : 2 ^ j ≤ 256 := two_pow_small (by omega)
    have e1 : IntKind.wrap .i64 (2 * ((2 ^ j : Nat) : Int)) = ((2 ^ (j + 1) : Nat) : Int) := by
      rw [Nat.pow_succ]
      generalize 2 ^ j = m at *
      rw [wrap_id ⟨by omega, by omega⟩]; omega
    have e2 : IntKind.wrap .i64 ((j : Int) + 1) = ((j + 1 : Nat) : Int) := by rw [wrap_id ⟨by omega, by omega⟩]; omega
    dsimp only
    rw [e1, e2]
    exact hC _ _ ⟨rfl, j + 1, rfl, by dsimp only at hlt; omega⟩ (by dsimp only at hlt ⊢; omega)
  · have hge := of_decide_eq_false hb
    have : j = n.toNat := by dsimp only at hge; omega
    subst this
    exact hk
/-- one more, behind -/
theorem app1_s {s : Sl} {xs : List Int} {x : Int} {f : HP → List HP} {c : Sl → World → Prop} (h : St w0 w L) [a : At L (slc 1 s) (ints xs) f] (hn : xs.length ≤ 1000000) (hc : ∀ s' w', St w0 w' (f (slc 1 s' (ints (xs ++ [x])))) → c s' w') :
    newC w #[(.int .i64 x)] 2 fun a37 w38 => bApp Go.Proofs.Try.prog #[23, 23] 23 [(.slice s.a s.n s.c), (.slice (some a37) 1 1)] w38 c := by
  have hl : xs.length = s.n := by have := h.slen (sz := 1) (s := s) (vs := ints xs); simpa using this
  refine newC_h h fun g w2 h => ?_
  refine bApp_h (s := s) (vs := ints xs) (x := ⟨some ⟨g, 0, none⟩, 1, 1⟩) (ys := [.int .i64 x]) h (elI (by kernel_rfl)) (by kernel_rfl) (blk_sls (n := 1) (l := [.int .i64 x]) h.blk rfl 1) (by simp [Value.oneCell']) (by simp only; omega) (by simp only; omega) fun s2 w3 h n2 => ?_
  refine hc s2 w3 ?_
  have e : ints (xs ++ [x]) = ints xs ++ [.int .i64 x] := by simp [ints]
  rw [e]; exact h.drop
/-- an empty row -/
theorem emp_s {c : Addr → World → Prop} (h : St w0 w L) (hc : ∀ g w', St w0 w' (slc 1 ⟨some ⟨g, 0, none⟩, 0, 0⟩ (ints []) :: L) → c ⟨g, 0, none⟩ w') : newC w #[] 2 c := by
  refine newC_h h fun g w2 h => hc g w2 ?_
  exact h.asS (g := g) (n := 0) (cs := []) rfl (by omega) (by simp)
end

/-- nothing is under way -/
structure Calm (l0 most : Int) (nw : Nat) (K : Int) (M : Mac) (R : Rg) (l : List Int) : Prop where
  glo : Glo l0 most nw M R
  tl : Tl K M R none
  len : M.len = R.At + R.pw
  is : Cont M R none = l
theorem Tl.up {K K' : Int} {M : Mac} {R : Rg} {o : Option Dop} (h : Tl K M R o) (hK : K ≤ K') (hK' : K' ≤ 1000) : Tl K' M R o := ⟨h.t0, h.tl, h.lu, h.ur, by have := h.uk; omega, hK'⟩
theorem Calm.up {l0 most K K' : Int} {nw : Nat} {M : Mac} {R : Rg} {l : List Int} (h : Calm l0 most nw K M R l) (hK : K ≤ K') (hK' : K' ≤ 1000) : Calm l0 most nw K' M R l := ⟨h.glo, h.tl.up hK hK', h.len, h.is⟩
section
variable {l0 most K wk : Int} {nw : Nat} {M : Mac} {R : Rg} {l : List Int} {w0 w : World} {L : List HP} {gm go : Nat}
theorem Calm.count (h : Calm l0 most nw K M R l) : (l.length : Int) = M.B - M.T := by rw [← h.is]; exact cont_len h.tl
theorem Calm.list (h : Calm l0 most nw K M R l) : M.list = l := by rw [list_cont h.glo h.tl, h.is]
theorem Calm.room (h : Calm l0 most nw K M R l) : l.length ≤ R.pw := by
  have := h.count; have := h.tl.ur
  simp only [Uof] at this
  omega
theorem Rg.pw_most (hg : Glo l0 most nw M R) : (R.pw : Int) ≤ pwr most := by
  have h0 := hg.lg0; have h1 := hg.lg1; have h2 := hg.lg2
  unfold Rg.pw pwr
  have : 2 ^ R.Log.toNat ≤ 2 ^ most.toNat := Nat.pow_le_pow_right (by omega) (by omega)
  omega
theorem Rg.pw_full (hg : Glo l0 most nw M R) (h : R.Log = most) : (R.pw : Int) = pwr most := by
  unfold Rg.pw pwr; rw [h]
theorem Calm.peeks (h : Calm l0 most nw K M R l) : M.peek 0 = M.T ∧ M.peek 1 = M.B := by
  have hlen := h.glo.len3
  have hp : ∀ a, 0 ≤ a → a < M.len → M.peek a = M.get a := fun a h0 h1 => by
    unfold Mac.peek; rw [if_pos (show M.given a = true from decide_eq_true ⟨h0, h1⟩)]
  exact ⟨hp 0 (by omega) (by omega), hp 1 (by omega) (by omega)⟩
theorem Calm.small (h : Calm l0 most nw K M R l) : 0 ≤ M.T ∧ M.T ≤ M.B ∧ M.B ≤ K ∧ K ≤ 1000 := by
  have h1 := h.tl.t0; have h2 := h.tl.tl; have h3 := h.tl.uk
  simp only [Lof, Uof] at h2 h3
  exact ⟨h1, h2, h3, h.tl.k⟩
theorem calm_list_s {k : Sl → World → Prop} (hC : Calm l0 most nw K M R l) (h : St w0 w (mach gm M :: L)) (hk : ∀ s w', St w0 w' (slc 1 s (ints l) :: mach gm M :: L) → k s w') : deque_Deque_List #[.int .i64 0, .int .i64 most] (some ⟨gm, 0, none⟩) w k := by
  have hp := hC.peeks
  have hs := hC.small
  refine list_s (most := most) h (by rw [hp.1]; exact ⟨by omega, by omega⟩) (by rw [hp.2]; exact ⟨by omega, by omega⟩) fun s w' h => hk s w' ?_
  rwa [hC.list] at h
theorem calm_began {l0 most wks : Int} (hw : wks = 2 ∨ wks = 4) (hl : logsOk l0 most = true) : Calm l0 most (wks.toNat + 1) 0 ((Mac.new 600 wks).began wks l0) ⟨3, l0⟩ [] := by
  obtain ⟨h1, h2, h3, h4, h5⟩ := began_ok (wk := wks) (nw := wks.toNat + 1) (M := Mac.new 600 wks) (by congr 1; omega) (by omega) hl
  have hb : Tl 0 ((Mac.new 600 wks).began wks l0) ⟨3, l0⟩ none := ⟨by omega, by simp only [Lof]; omega, by simp only [Lof, Uof]; exact Int.le_refl _, by simp only [Uof]; omega, by simp only [Uof]; omega, by omega⟩
  refine ⟨h1, hb, by rw [h2]; show _ = 3 + _; omega, ?_⟩
  refine List.length_eq_zero_iff.1 ?_
  have := cont_len hb
  omega
/-- a push alone -/
theorem push_alone {x : Int} {k : Option Addr → Int → World → Prop} (hC : Calm l0 most nw K M R l) (hK : K + 1 ≤ 1000) (h0 : 0 ≤ wk) (h1 : wk < nw) (h : St w0 w (mach gm M :: L))
    (h2 : (l.length : Int) < pwr most → ∀ go O' M' R' w', O'.Fine → Calm l0 most nw (K + 1) M' R' (l ++ [x]) → St w0 w' (opP go O' :: mach gm M' :: L) → k (some ⟨go, 0, none⟩) 1 w')
    (h3 : (l.length : Int) = pwr most → ∀ go O' M' R' w', O'.Fine → Calm l0 most nw (K + 1) M' R' l → St w0 w' (opP go O' :: mach gm M' :: L) → k (some ⟨go, 0, none⟩) 4 w') :
    deque_Deque_Push #[.int .i64 0, .int .i64 most] x w fun p w2 => pelotonlaw10_run (some ⟨gm, 0, none⟩) p wk w2 fun i w3 => k p i w3 := by
  have hC' := hC.up (K' := K + 1) (by omega) hK
  have hs := hC.small
  obtain ⟨m, O', M', R', hr, hm, hW⟩ := push_runs (wk := wk) h0 h1 hC'.glo hC'.tl hC'.len (by omega) x
  refine push_s (most := most) h fun go w2 h => run_s h hr hm fun w3 h => ?_
  rcases hW.pushes trivial with ⟨a, b⟩ | ⟨a, b, c, d⟩
  · have hC2 : Calm l0 most nw (K + 1) M' R' (l ++ [x]) := ⟨hW.glo, hW.tl, hW.len, by rw [b, hC.is]⟩
    have hro := hC2.room
    have hpm := Rg.pw_most hW.glo
    rw [List.length_append, List.length_singleton] at hro
    rw [a]
    exact h2 (by omega) go O' M' R' w3 hW.fine hC2 h
  · have hC2 : Calm l0 most nw (K + 1) M' R' l := ⟨hW.glo, hW.tl, hW.len, by rw [b, hC.is]⟩
    have hro := hC2.room
    have hpf := Rg.pw_full hW.glo c
    rw [hC2.is] at d
    rw [a]
    exact h3 (by omega) go O' M' R' w3 hW.fine hC2 h
theorem pop_alone {k : Int → World → Prop} (hC : Calm l0 most nw K M R l) (h0 : 0 ≤ wk) (h1 : wk < nw) (h : St w0 w (opP go (Dop.beg most 0 8) :: mach gm M :: L))
    (h2 : ∀ l' O' M' R' w', O'.Fine → O'.how = 1 → l = l' ++ [O'.got] → Calm l0 most nw K M' R' l' → St w0 w' (opP go O' :: mach gm M' :: L) → k 1 w')
    (h3 : ∀ O' M' R' w', l = [] → O'.how = 3 → Calm l0 most nw K M' R' [] → St w0 w' (opP go O' :: mach gm M' :: L) → k 3 w') : pelotonlaw10_run (some ⟨gm, 0, none⟩) (some ⟨go, 0, none⟩) wk w k := by
  obtain ⟨m, O', M', R', hr, hm, hW⟩ := pop_runs (wk := wk) h0 h1 hC.glo hC.tl hC.len
  refine run_s h hr hm fun w3 h => ?_
  rcases hW.pops id with ⟨a, b⟩ | ⟨a, b, c⟩
  · rw [a]; exact h2 _ O' M' R' w3 hW.fine a (by rw [← hC.is, b]) ⟨hW.glo, hW.tl, hW.len, rfl⟩ h
  · rw [a]; exact h3 O' M' R' w3 (by rw [← hC.is, b]) a ⟨hW.glo, hW.tl, hW.len, c⟩ h
theorem steal_alone {k : Int → World → Prop} (hC : Calm l0 most nw K M R l) (h0 : 0 ≤ wk) (h1 : wk < nw) (h : St w0 w (opP go (Dop.beg most 0 15) :: mach gm M :: L))
    (h2 : ∀ l' O' M' w', O'.Fine → O'.how = 1 → l = O'.got :: l' → Calm l0 most nw K M' R l' → M'.T = M.T + 1 → St w0 w' (opP go O' :: mach gm M' :: L) → k 1 w')
    (h3 : ∀ O' M' w', l = [] → O'.how = 3 → Calm l0 most nw K M' R [] → St w0 w' (opP go O' :: mach gm M' :: L) → k 3 w') : pelotonlaw10_run (some ⟨gm, 0, none⟩) (some ⟨go, 0, none⟩) wk w k := by
  obtain ⟨m, O', M', hr, hm, r1, r2, r3, r4, r5, r6⟩ := steal_runs (wk := wk) h0 h1 hC.glo hC.tl
  refine run_s h hr hm fun w3 h => ?_
  rcases r6 with ⟨a, b, bb⟩ | ⟨a, b, c⟩
  · rw [a]; exact h2 _ O' M' w3 r5 a (by rw [← hC.is, b]) ⟨r1, r2, by rw [r3, hC.len], rfl⟩ bb h
  · rw [a]; exact h3 O' M' w3 (by rw [← hC.is, b]) a ⟨r1, r2, by rw [r3, hC.len], c⟩ h
end
end Go.Proofs.Ytheallacpidcmaa
