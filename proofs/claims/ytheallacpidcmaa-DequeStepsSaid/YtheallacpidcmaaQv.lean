/-
  Layer 10: the document's deque: its beginning, what is in it; all that is under way.
-/
import Derived.Test.YtheallacpidcmaaQu
import Derived.Test.YtheallacpidcmaaQl
set_option linter.unusedSimpArgs false
set_option linter.unusedVariables false
set_option maxRecDepth 100000
namespace Go.Proofs.Ytheallacpidcmaa
open Go Go.Ev Go.Proofs

section
variable {w0 w : World} {L : List HP} {gr gc gm : Nat} {xs : List Int} {size did most l0 : Int} {O O' : Dop} {R : Rg} {M : Mac}
theorem dref_s {k : Array Value × Int → World → Prop} (h : St w0 w (blk gc [.slice none 0 0, .int .i64 size, .int .i64 0] :: L)) (hs : 1 ≤ size ∧ size ≤ 600)
    (h1 : logsOk l0 most = true → 3 + pwr l0 ≤ size → ∀ w', St w0 w' (rmac gc (((Mac.new size 4).began 4 l0).cells, size, 2) :: L) → k (#[.int .i64 0, .int .i64 most], 0) w')
    (h2 : logsOk l0 most = true → ¬ 3 + pwr l0 ≤ size → ∀ w', St w0 w' L → k (#[.int .i64 0, .int .i64 0], 21) w')
    (h3 : logsOk l0 most = false → ∀ w', St w0 w' L → k (#[.int .i64 0, .int .i64 0], 10) w') : pelotonref10_New (some ⟨gc, 0, none⟩) l0 most w k := by
  unfold pelotonref10_New pelotonref10_New_b
  refine newC_h h fun g1 w2 h => iteB_i (fun hb => ?_) fun hb => ?_
  · have hlo : logsOk l0 most = false := by
      unfold logsOk
      simp only [Bool.or_eq_true, decide_eq_true_eq] at hb
      exact decide_eq_false (by omega)
    refine stW_h (g := g1) (vs := agI [0, 0]) h rfl rfl (by intro v hv; simp [agI, ints] at hv; rw [hv]; rfl) fun w5 h => ldW_h (g := g1) h rfl ?_
    exact h3 hlo _ h.drop.drop
  · simp only [Bool.or_eq_false_iff, decide_eq_false_iff_not] at hb
    have hlo : logsOk l0 most = true := decide_eq_true (by omega)
    have hp1 : (⟨0, l0⟩ : Rg).pw ≤ 256 := pw_le (n := 8) (by show l0 ≤ _; omega)
    have hp0 := pw_pos (⟨0, l0⟩ : Rg)
    have hpe : ((⟨0, l0⟩ : Rg).pw : Int) = pwr l0 := rfl
    have hri : (⟨0, l0⟩ : Rg).right = true := by unfold Rg.right; simp only [decide_eq_true_eq]; omega
    have hsz : (⟨0, l0⟩ : Rg).size = pwr l0 := by unfold Rg.size; rw [if_pos hri]; exact hpe
    refine rsize_s (r := ⟨0, l0⟩) h fun w6 h => ?_
    rw [hsz]
    obtain ⟨m, hm⟩ : ∃ m : Nat, (m : Int) = 3 + pwr l0 := ⟨(3 + pwr l0).toNat, by omega⟩
    have hw3 : IntKind.wrap .i64 (3 + pwr l0) = (m : Int) := by rw [hm]; exact wrap_id ⟨by omega, by omega⟩
    have hws : IntKind.wrap .i64 (size - ((0 : Nat) : Int)) = size := by rw [wrap_id ⟨by omega, by omega⟩]; omega
    refine nn_i (ldS_h (g := gc) (o := 0) (p := none) (n := 0) (m := 0) h rfl (nn_i (ldI_h (g := gc) (o := 1) (n := size) h rfl ?_)))
    dsimp only
    rw [hw3, hws]
    refine iteB_i (fun q => ?_) fun q => ?_
    · have q := of_decide_eq_true q
      refine stW_h (g := g1) (vs := agI [0, 0]) h rfl rfl (by intro v hv; simp [agI, ints] at hv; rw [hv]; rfl) fun w5 h => ldW_h (g := g1) h rfl ?_
      exact h2 hlo (by omega) _ h.drop.drop
    · have q := of_decide_eq_false q
      have h0 : St w0 w6 (blk gc [.slice none 0 0, .int .i64 size, .int .i64 0] :: slc 1 ⟨none, 0, 0⟩ (ints []) :: blk g1 (agI [0, 0]).toList :: L) := by
        have h2 : St w0 w6 (slc 1 ⟨none, 0, 0⟩ (ints []) :: blk g1 (agI [0, 0]).toList :: blk gc [.slice none 0 0, .int .i64 size, .int .i64 0] :: L) := h.nilS 1
        exact h2.perm (by repeat' (first | exact List.Perm.refl _ | refine perm_f 0 rfl ?_ | refine perm_f 1 rfl ?_ | refine perm_f 2 rfl ?_ | refine perm_f 3 rfl ?_ | refine perm_f 4 rfl ?_ | refine perm_f 5 rfl ?_ | refine perm_f 6 rfl ?_ | refine perm_f 7 rfl ?_))
      refine joinP_i (fun (_ : Unit) w' => ∃ s, St w0 w' (rmO gc s (List.replicate m 0) size 0 (blk g1 (agI [0, 0]).toList :: L))) (fun J hJ => ?_) ?_
      · refine loopP_of (fun (i : Int) w' => ∃ (j : Nat) (s' : Sl), i = j ∧ j ≤ m ∧ St w0 w' (rmO gc s' (List.replicate j 0) size 0 (blk g1 (agI [0, 0]).toList :: L))) (fun i _ => ((m : Int) - i).toNat) ⟨0, ⟨none, 0, 0⟩, rfl, by omega, h0⟩ ?_
        rintro _ w73 ⟨j, s', rfl, hj, h⟩ C hC
        have hl' : s'.n = j := by have := h.slen (sz := 1) (s := s') (vs := ints (List.replicate j 0)); simp at this; omega
        refine iteB_i (fun hb => ?_) fun hb => ?_
        · have hb := of_decide_eq_true hb
          refine nn_i (ldSs (s := s') (g := gc) (o := 0) h rfl (newC_h h fun gn w77 h => ?_))
          refine bApp_h (s := s') (vs := ints (List.replicate j 0)) (x := ⟨some ⟨gn, 0, none⟩, 1, 1⟩) (ys := [.int .i64 0]) h (elI (by kernel_rfl)) (by kernel_rfl) (blk_sls (n := 1) (l := [.int .i64 0]) h.blk rfl 1) (by simp [Value.oneCell']) (by simp only; omega) (by simp only; omega) fun s78 w79 h n78 => ?_
          refine nn_i (stC_h (g := gc) (o := 0) h rfl (by simp) fun w81 h => ?_)
          have hwj : IntKind.wrap .i64 ((j : Int) + 1) = ((j + 1 : Nat) : Int) := by rw [wrap_id ⟨by omega, by omega⟩]; omega
          rw [hwj]
          have e : ints (List.replicate j 0) ++ [.int .i64 0] = ints (List.replicate (j + 1) 0) := by simp [ints, List.replicate_succ']
          rw [e] at h
          exact hC _ _ ⟨j + 1, s78, rfl, by omega, h.drop⟩ (by omega)
        · have hb := of_decide_eq_false hb
          have : j = m := by omega
          subst this
          exact hJ _ _ ⟨s', h⟩
      rintro _ w26 ⟨s, h⟩
      refine nn_i (ldSs (s := s) (g := gc) (o := 0) h rfl ?_)
      have e2 : IntKind.wrap .i64 (((0 : Nat) : Int) + 2) = 2 := by decide
      have e3 : IntKind.wrap .i64 (((0 : Nat) : Int) + 3) = 3 := by decide
      have e48 : IntKind.wrap .i64 (16 * 3) = 48 := by decide
      have ew : IntKind.wrap .i64 (48 + l0) = 48 + l0 := wrap_id ⟨by omega, by omega⟩
      rw [e2, e3, e48, ew]
      refine ixIst_h (s := s) (xs := List.replicate m 0) h (by omega) (by simp; omega) fun w30 h => ?_
      have ed : IntKind.wrap .i64 (0 + 2) = 2 := by decide
      refine nn_i (ldI_h (g := gc) (o := 2) (n := 0) h rfl ?_)
      rw [ed]
      refine nn_i (stC_h (g := gc) (o := 2) h rfl (by simp) fun w34 h => ?_)
      refine stW_h (g := g1) (vs := agI [0, most]) h rfl rfl (by intro v hv; simp [agI, ints] at hv; rcases hv with rfl | rfl <;> rfl) fun w35 h => ldW_h (g := g1) h rfl ?_
      have hcells : ((Mac.new size 4).began 4 l0).cells = (List.replicate m 0).set 2 (48 + l0) := by
        have hr3 : (⟨3, l0⟩ : Rg).right = true := by
          unfold Rg.right; simp only [decide_eq_true_eq]
          have : (⟨3, l0⟩ : Rg).pw = (⟨0, l0⟩ : Rg).pw := rfl
          omega
        have hwd : Rg.word ⟨3, l0⟩ = 48 + l0 := by
          unfold Rg.word; rw [if_pos hr3]; dsimp only; omega
        unfold Mac.began Mac.put Mac.tick Mac.grow Mac.new
        rw [hwd, ← hm]
        simp
      refine h1 hlo (by omega) _ ?_
      have h : St w0 w35 (rmO gc s ((List.replicate m 0).set 2 (48 + l0)) size 2 (blk g1 (agI [0, most]).toList :: L)) := h
      rw [hcells]
      have h2 := rmac_shut h
      exact h2.swap.drop
theorem rbeg_s {kd x : Int} {n : Nat} {k : Option Addr → World → Prop} (hk3 : (kd = 0 ∧ n = 0) ∨ (kd = 1 ∧ n = 8 ∧ x = 0) ∨ (kd = 2 ∧ n = 15 ∧ x = 0)) (h : St w0 w L) (hk : ∀ g w', St w0 w' (ropP g (Dop.beg most x n) :: L) → k (some ⟨g, 0, none⟩) w') : pelotonref10_Begin #[.int .i64 0, .int .i64 most] kd x w k := by
  unfold pelotonref10_Begin
  refine newC_h h fun g1 w2 h => ldW_h (g := g1) h rfl ⟨rfl, ?_⟩
  refine newC_h h fun g6 w7 h => hk g6 w7 ?_
  rw [ropP_live rfl]
  have e : ropL g6 (Dop.beg most x n) = blk g6 ((Dop.beg most x n).rop none).cells := rfl
  rw [e]
  rcases hk3 with ⟨rfl, rfl⟩ | ⟨rfl, rfl, rfl⟩ | ⟨rfl, rfl, rfl⟩
  · exact st_cast (M := blk g6 ((Dop.beg most x 0).rop none).cells :: L) (h.rm 1 rfl) (by kernel_rfl)
  · exact st_cast (M := blk g6 ((Dop.beg most 0 8).rop none).cells :: L) (h.rm 1 rfl) (by kernel_rfl)
  · exact st_cast (M := blk g6 ((Dop.beg most 0 15).rop none).cells :: L) (h.rm 1 rfl) (by kernel_rfl)
theorem rlist_s {s : Sl} {N : Int} {k : Sl → World → Prop} (hG : WG size most N M R) (h : St w0 w (rmO gc s M.cells size did L)) (hk : ∀ t w', St w0 w' (slc 1 t (ints (M.vals R M.T (M.B - M.T).toNat)) :: rmO gc s M.cells size did L) → k t w') : pelotonref10_List (some ⟨gc, 0, none⟩) #[.int .i64 0, .int .i64 most] w k := by
  have hlen := hG.len3
  have hxl : M.len = M.cells.length := rfl
  have hR := hG.right
  have hwd : M.cells.getD (2 : Int).toNat 0 = R.word := hG.word
  have t0 := hG.t0; have tn := hG.tn; have bn := hG.bn; have ro := hG.room; have hN := hG.n1; have hpw := hG.pw
  unfold pelotonref10_List pelotonref10_List_b
  refine newC_h h fun g1 w2 h => ?_
  have h : St w0 w2 (blk g1 [.int .i64 0, .int .i64 most] :: rmO gc s M.cells size did L) := h
  refine joinP_i (fun (a : Addr) w' => ∃ g, a = ⟨g, 0, none⟩ ∧ St w0 w' (blk g R.ag.toList :: blk g1 [.int .i64 0, .int .i64 most] :: rmO gc s M.cells size did L)) (fun J hJ => ?_) ?_
  · refine drew_h h fun w4 h => nn_i (ldSs (s := s) (g := gc) (o := 0) h rfl (ldI_h (g := g1) (o := 0) (n := 0) h rfl ?_))
    rw [w02]
    refine ixK_h (s := s) (xs := M.cells) h (by omega) (by omega) fun p hp => ldI_i (hp h) ?_
    rw [hwd]
    have h4 := h
    constructor
    · refine rof_s (word_in hR) h fun w11 h => ?_
      rw [of_word hR, if_pos hR]
      refine newC_h h fun g12 w13 h => ?_
      refine samec_1 (hp h4) (hp h) (samec_h (g := g1) h4 h (samec_h (g := gc) h4 h ?_))
      exact stW_h (g := g12) (vs := R.ag) h rfl rfl (by intro v hv; simp [Rg.ag] at hv; rcases hv with rfl | rfl <;> rfl) fun w14 h => hJ _ _ ⟨g12, rfl, h⟩
    · refine newC_h h fun g15 w16 h => ?_
      refine samec_1 (hp h4) (hp h) (samec_h (g := g1) h4 h (samec_h (g := gc) h4 h ?_))
      refine rof_s (word_in hR) h fun w18 h => ?_
      rw [of_word hR, if_pos hR]
      exact stW_h (g := g15) (vs := R.ag) h rfl rfl (by intro v hv; simp [Rg.ag] at hv; rcases hv with rfl | rfl <;> rfl) fun w19 h => hJ _ _ ⟨g15, rfl, h⟩
  rintro _ w21 ⟨g20, rfl, h⟩
  refine emp_s h fun g22 w23 h => ?_
  refine drew_h h fun w24 h => nn_i (ldSs (s := s) (g := gc) (o := 0) h rfl (ldI_h (g := g1) (o := 0) (n := 0) h rfl ?_))
  refine ixI_h (s := s) (xs := M.cells) h (by omega) (by omega) ?_
  have eT : M.cells.getD (0 : Int).toNat 0 = M.T := rfl
  have eB : M.cells.getD (1 : Int).toNat 0 = M.B := rfl
  rw [eT]
  refine loopP_of (fun (x : Sl × Int) w' => ∃ j : Nat, x.2 = M.T + j ∧ j ≤ (M.B - M.T).toNat ∧ St w0 w' (slc 1 x.1 (ints (M.vals R M.T j)) :: blk g20 R.ag.toList :: blk g1 [.int .i64 0, .int .i64 most] :: rmO gc s M.cells size did L)) (fun x _ => (M.B - x.2).toNat) ⟨0, by simp, by omega, h⟩ ?_
  rintro ⟨t, i⟩ w32 ⟨j, hj, hjd, h⟩ C hC
  dsimp only at hj h ⊢
  subst hj
  have hlv : (M.vals R M.T j).length = j := by unfold Mac.vals; simp
  refine drew_h h fun w33 h => nn_i (ldSs (s := s) (g := gc) (o := 0) h rfl (ldI_h (g := g1) (o := 0) (n := 0) h rfl ?_))
  rw [w01]
  refine ixI_h (s := s) (xs := M.cells) h (by omega) (by omega) ?_
  rw [eB]
  refine iteB_i (fun hb => ?_) fun hb => ?_
  · have hb := of_decide_eq_true hb
    have hin := hG.in' (M.T + j)
    refine drew_h h fun w39 h => nn_i (ldSs (s := s) (g := gc) (o := 0) h rfl (ldW_h (g := g20) h rfl ?_))
    have h39 := h
    refine rplace_s (r := R) h fun w44 h => samec_h (g := gc) h39 h ?_
    refine ixI_h (s := s) (xs := M.cells) h (by omega) (by omega) ?_
    refine app1_s (s := t) (xs := M.vals R M.T j) h (by omega) fun t' w50 h => ?_
    have hwr : IntKind.wrap .i64 (M.T + (j : Int) + 1) = M.T + ((j + 1 : Nat) : Int) := by rw [wrap_id ⟨by omega, by omega⟩]; omega
    rw [hwr]
    refine hC _ _ ⟨j + 1, rfl, by omega, ?_⟩ (by dsimp only; omega)
    rw [vals_succ]; exact h
  · have hb := of_decide_eq_false hb
    have : j = (M.B - M.T).toNat := by omega
    subst this
    exact hk t w33 ((h.rm 1 rfl).rm 1 rfl)
theorem list_w {N : Int} (hG : WG size most N M R) : M.list = M.vals R M.T (M.B - M.T).toNat := by
  have hlen := hG.len3
  have hro := hG.room
  have hp : ∀ a, 0 ≤ a → a < M.len → M.peek a = M.get a := fun a h0 h1 => by
    unfold Mac.peek; rw [if_pos (show M.given a = true from decide_eq_true ⟨h0, h1⟩)]
  have hsz : R.size = R.pw := by unfold Rg.size; rw [if_pos hG.right]
  unfold Mac.list
  rw [hp 0 (by omega) (by omega), hp 1 (by omega) (by omega), hp 2 (by omega) (by omega), hG.word, of_word hG.right, hsz]
  by_cases h : M.T < M.B
  · rw [if_pos ⟨hG.right, h, hro⟩]
    unfold Mac.listOf Mac.vals
    refine List.map_congr_left fun i _ => hp _ ?_ ?_
    · exact Int.le_trans (by omega) (hG.in' (M.T + i)).1
    · exact (hG.in' (M.T + i)).2
  · rw [if_neg (fun q => h q.2.1), show (M.B - M.T).toNat = 0 by omega]; rfl
theorem wo_fine {N : Int} (hG : WG size most N M R) (h : WO most N M R O) : O.Fine := by
  have t0 := hG.t0; have tn := hG.tn; have bn := hG.bn; have hN := hG.n1
  refine ⟨fun q => ?_, fun q => ?_, by have := h.n; omega⟩
  · have h1 := h.b1 (by omega) (by omega)
    have h2 := h.t2 (by omega) (by omega)
    exact ⟨h.c3 (by omega), ⟨by omega, by omega⟩, by omega, by omega⟩
  · obtain ⟨c, hc, _⟩ := h.c4 q; exact ⟨c, hc⟩
theorem wt_fine (h : WT most M O) : O.Fine := by
  have h0 := h.n0; have h1 := h.n1
  exact ⟨fun q => by omega, fun q => by omega, by omega⟩
end

/-! ### all that is under way -/
abbrev Wps := List (Option (Nat × Nat × Dop))
structure Stp (size most j : Int) (M : Mac) (R : Rg) (ops : Wps) (did : Int) : Prop where
  lo : ops.length = 4
  glo : WG size most j M R
  own : ∀ g gr O, ops.getD 0 none = some (g, gr, O) → O.live = true → WO most j M R O
  thf : ∀ i g gr O, 1 ≤ i → i < 4 → ops.getD i none = some (g, gr, O) → O.live = true → WT most M O
  steps : ∃ a b c d e : Int, M.steps = [a, b, c, d, e] ∧ 0 ≤ a ∧ 0 ≤ b ∧ 0 ≤ c ∧ 0 ≤ d ∧ 0 ≤ e ∧ a + b + c + d + e = did ∧ did ≤ j + 2
theorem getDs {α : Type} {l : List α} {i k : Nat} {x d : α} (hi : i < l.length) : (l.set i x).getD k d = if i = k then x else l.getD k d := by
  simp only [List.getD_eq_getElem?_getD, List.getElem?_set]
  by_cases e : i = k
  · subst e; simp [hi]
  · simp [e]
section
variable {size most j did : Int} {M : Mac} {R : Rg} {ops : Wps} {w0 w : World} {L : List HP} {gr gc : Nat}
theorem tick_sum {i : Nat} {a b c d e : Int} (hi : i < 4) (h : M.steps = [a, b, c, d, e]) (h0 : 0 ≤ a ∧ 0 ≤ b ∧ 0 ≤ c ∧ 0 ≤ d ∧ 0 ≤ e) (hb : a + b + c + d + e ≤ 1500) :
    ∃ a' b' c' d' e' : Int, (M.tick i).steps = [a', b', c', d', e'] ∧ 0 ≤ a' ∧ 0 ≤ b' ∧ 0 ≤ c' ∧ 0 ≤ d' ∧ 0 ≤ e' ∧ a' + b' + c' + d' + e' = a + b + c + d + e + 1 := by
  have w : ∀ x : Int, 0 ≤ x → x ≤ 1500 → IntKind.wrap .i64 (x + 1) = x + 1 := fun x h0 h1 => wrap_id ⟨by omega, by omega⟩
  have hs : (M.tick i).steps = M.steps.set i (IntKind.wrap .i64 (M.steps.getD i 0 + 1)) := by unfold Mac.tick; simp
  rw [hs, h]
  have : i = 0 ∨ i = 1 ∨ i = 2 ∨ i = 3 := by omega
  rcases this with rfl | rfl | rfl | rfl
  · exact ⟨a + 1, b, c, d, e, by simp [w a (by omega) (by omega)], by omega, by omega, by omega, by omega, by omega, by omega⟩
  · exact ⟨a, b + 1, c, d, e, by simp [w b (by omega) (by omega)], by omega, by omega, by omega, by omega, by omega, by omega⟩
  · exact ⟨a, b, c + 1, d, e, by simp [w c (by omega) (by omega)], by omega, by omega, by omega, by omega, by omega, by omega⟩
  · exact ⟨a, b, c, d + 1, e, by simp [w d (by omega) (by omega)], by omega, by omega, by omega, by omega, by omega, by omega⟩
theorem Stp.go (h : Stp size most j M R ops did) (hj : 0 ≤ j ∧ j ≤ 450) {i g : Nat} {O : Dop} {bya : Int} (hi : i < 4) (hO0 : i = 0 → WO most j M R O) (hO1 : 1 ≤ i → WT most M O) (hby : bya = i ∨ bya = -1)
    (hS : St w0 w (ropP gr O :: rmac gc (M.cells, size, did) :: L)) :
    ∃ R', Stp size most (j + 1) (O.step M bya).2 R' (ops.set i (some (g, gr, (O.step M bya).1))) (didN (O.step M bya).1 did) ∧ OSim w0 w L gr gc size did bya (O.step M bya).1 (O.step M bya).2 ∧ ((O.step M bya).1.live = true → (O.step M bya).1.how = 2 → 15 ≤ (O.step M bya).1.next) := by
  have hlo := h.lo
  obtain ⟨a, b, c, d, e, hs, p1, p2, p3, p4, p5, hsum, hdj⟩ := h.steps
  have hlv : O.live = true := by
    by_cases q : i = 0
    · exact live0 (hO0 q).how
    · have h := hO1 (by omega)
      exact live2 (by have := h.how; split at this <;> omega)
  rcases hby with hby | hby
  · have hw : 0 ≤ bya ∧ bya ≤ 4 := by omega
    by_cases q : i = 0
    · subst q
      have hW := hO0 rfl
      obtain ⟨R', hr, hsim⟩ := own_sim h.glo hW hw (by omega) (by omega) hS
      refine ⟨R', ?_, hsim, ?_⟩
      · generalize (O.step M bya).1 = O' at *
        generalize (O.step M bya).2 = M' at *
        refine ⟨by simp [hlo], hr.glo, fun g' gr' O2 hq hl => ?_, fun i g' gr' O2 h1 h4 hq hl => ?_, ?_⟩
        · rw [getDs (by omega), if_pos rfl] at hq
          cases hq
          rcases hr.alt with ⟨_, z⟩ | ⟨z1, z2, _⟩
          · exact z
          · rw [dead_of z1 z2] at hl; cases hl
        · rw [getDs (by omega), if_neg (by omega)] at hq
          exact (h.thf i g' gr' O2 h1 h4 hq hl).mono hr.tm hr.lm
        · rcases hr.steps with ⟨z, z6⟩ | ⟨z, z6⟩
          · obtain ⟨a', b', c', d', e', r1, r2, r3, r4, r5, r6, r7⟩ := tick_sum (M := M) (i := 0) (by omega) hs ⟨p1, p2, p3, p4, p5⟩ (by omega)
            have hbn : bya = ((0 : Nat) : Int) := hby
            rw [hbn] at z
            exact ⟨a', b', c', d', e', by rw [z, r1], r2, r3, r4, r5, r6, by unfold didN; rw [if_neg z6]; omega, by unfold didN; rw [if_neg z6]; omega⟩
          · rw [z]
            exact ⟨a, b, c, d, e, hs, p1, p2, p3, p4, p5, by unfold didN; rw [if_pos z6]; omega, by unfold didN; rw [if_pos z6]; omega⟩
      · intro hl h2
        rcases hr.alt with ⟨z, _⟩ | ⟨_, z, _⟩
        · omega
        · exact (z h2).elim
    · have hW := hO1 (by omega)
      obtain ⟨hr, h6, _, hsim⟩ := thf_sim h.glo hW hw (by omega) (by omega) hS
      refine ⟨R, ?_, hsim, ?_⟩
      · generalize (O.step M bya).1 = O' at *
        generalize (O.step M bya).2 = M' at *
        refine ⟨by simp [hlo], hr.glo, fun g' gr' O2 hq hl => ?_, fun i' g' gr' O2 h1 h4 hq hl => ?_, ?_⟩
        · rw [getDs (by omega), if_neg (by omega)] at hq
          exact (h.own g' gr' O2 hq hl).mono hr.tm hr.lm.symm hr.bm (by omega)
        · rw [getDs (by omega)] at hq
          split at hq
          · cases hq
            rcases hr.alt with ⟨_, z⟩ | ⟨z1, z2⟩
            · exact z
            · rw [dead_of z1 z2] at hl; cases hl
          · exact (h.thf i' g' gr' O2 h1 h4 hq hl).mono hr.tm (by have := hr.lm; omega)
        · obtain ⟨a', b', c', d', e', r1, r2, r3, r4, r5, r6, r7⟩ := tick_sum (M := M) (i := i) hi hs ⟨p1, p2, p3, p4, p5⟩ (by omega)
          have z := hr.steps
          rw [hby] at z
          exact ⟨a', b', c', d', e', by rw [z, r1], r2, r3, r4, r5, r6, by unfold didN; rw [if_neg h6]; omega, by unfold didN; rw [if_neg h6]; omega⟩
      · intro hl h2
        rcases hr.alt with ⟨_, z⟩ | ⟨_, z⟩
        · exact z.n0
        · exact (z h2).elim
  · have hc : M.caller bya = false := by unfold Mac.caller; rw [decide_eq_false_iff_not]; omega
    obtain ⟨O', hst, h6, h10⟩ := bad_step (M := M) (R := R) (N := j) (most := most) (O := O) (wk := bya) (by
      by_cases q : i = 0
      · exact .inl (hO0 q)
      · exact .inr (hO1 (by omega))) hc
    rw [hst]
    have hsim := bad_sim (wk := bya) (M := M) hlv (by omega) h6 h10 hS
    refine ⟨R, ⟨by simp [hlo], h.glo.up (by omega) (by omega), fun g' gr' O2 hq hl => ?_, fun i' g' gr' O2 h1 h4 hq hl => ?_, ?_⟩, hsim, fun hl => ?_⟩
    · rw [getDs (by omega)] at hq
      split at hq
      · cases hq; rw [dead_of (by show O'.how ≠ 0; omega) (by show O'.how ≠ 2; omega)] at hl; cases hl
      · exact (h.own g' gr' O2 hq hl).mono (Int.le_refl _) rfl rfl (by omega)
    · rw [getDs (by omega)] at hq
      split at hq
      · cases hq; rw [dead_of (by show O'.how ≠ 0; omega) (by show O'.how ≠ 2; omega)] at hl; cases hl
      · exact h.thf i' g' gr' O2 h1 h4 hq hl
    · exact ⟨a, b, c, d, e, hs, p1, p2, p3, p4, p5, by show _ = didN O' did; unfold didN; rw [if_pos h6]; omega, by show didN O' did ≤ _; unfold didN; rw [if_pos h6]; omega⟩
    · rw [dead_of (by show O'.how ≠ 0; omega) (by show O'.how ≠ 2; omega)] at hl; cases hl
end
end Go.Proofs.Ytheallacpidcmaa
