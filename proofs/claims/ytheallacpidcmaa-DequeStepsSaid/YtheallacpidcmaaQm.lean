/-
  Layer 10: operations, one behind the other.
-/
import Derived.Test.YtheallacpidcmaaQl
set_option linter.unusedSimpArgs false
set_option linter.unusedVariables false
set_option maxRecDepth 100000
namespace Go.Proofs.Ytheallacpidcmaa
open Go Go.Ev Go.Proofs

theorem one_ints (xs : List Int) : ∀ v ∈ ints xs, v.oneCell' = true := by
  intro v hv
  obtain ⟨n, _, rfl⟩ := List.mem_map.1 hv
  rfl
theorem step_still {O : Dop} {M : Mac} {wk : Int} (h : O.live = false) : O.step M wk = (O, M) := by
  unfold Dop.step; rw [if_neg (by rw [h]; simp)]
theorem live_done {O : Dop} (h : O.how = 1) : O.live = false := by unfold Dop.live; rw [h]; rfl
theorem tell_done {O : Dop} (h : O.how = 1) : O.tell = O.got := by unfold Dop.tell; rw [if_pos (.inr h)]
section
variable {w0 w : World} {L : List HP} {l0 most : Int}
/-- a number of a row of one's own, looked at twice -/
theorem ixK_h {s : Sl} {xs : List Int} {i : Int} {f : HP → List HP} {c : Addr → Prop} (h : St w0 w L) [a : At L (slc 1 s) (ints xs) f] (h0 : 0 ≤ i) (h1 : i < xs.length)
    (hc : ∀ p, (∀ {w' L' f'}, St w0 w' L' → [At L' (slc 1 s) (ints xs) f'] → w'.cell? p = some (.int .i64 (xs.getD i.toNat 0))) → c p) : ixS s i 1 c := by
  have hn : xs.length = s.n := by have := h.slen (sz := 1) (s := s) (vs := ints xs); simpa using this
  refine ixS_h (s := s) (vs := ints xs) h (by omega) h0 (by omega) fun g o _ hr _ => hc _ fun {w' L' f'} h' a' => ?_
  have := hr h' 0 _ (by omega) (ints_getD (i := i.toNat * 1 + 0) (by omega))
  simpa using this
theorem law_alone {l ks : Sl} {xs kinds : List Int} {k : Bool → World → Prop} (hl : SlI w l xs) (hks : SlI w ks kinds) (hk : ∀ w', St w w' [] → k true w') : pelotonlaw10_DequeAlone #[.int .i64 l0, .int .i64 most] l ks w k := by
  unfold pelotonlaw10_DequeAlone pelotonlaw10_DequeAlone_b
  refine setup_s (wks := 2) (.inl rfl) hk fun hlo hg gm ga gd w20 h => ?_
  have hlg := of_decide_eq_true hlo
  have hnl := SlI.len hl
  have hnk := SlI.len hks
  have hle := of_decide_eq_false hg
  refine pow_s (ga := ga) (o := 1) (n := most) h rfl rfl ⟨by omega, by omega⟩ ?_
  refine emp_s h fun gh w29 h => ?_
  refine loopP_of (fun (x : Sl × Int) w' => ∃ (j : Nat) (M : Mac) (R : Rg) (hv : List Int), x.2 = j ∧ j ≤ xs.length ∧ Calm l0 most 3 j M R hv ∧ St w w' [slc 1 x.1 (ints hv), mach gm M, blk ga (ints [l0, most]), blk gd (ints [0, most])]) (fun x _ => ((xs.length : Int) - x.2).toNat) ⟨0, _, _, [], rfl, by omega, calm_began (.inl rfl) hlo, h⟩ ?_
  rintro ⟨s, i⟩ w32 ⟨j, M, R, hv, hj, hjl, hC, h⟩ C hCC
  dsimp only at hj h ⊢
  subst hj
  refine iteB_i (fun hb => ?_) fun hb => awake_s h hk
  simp only [Bool.and_eq_true, decide_eq_true_eq] at hb
  have hn : hv.length = s.n := by have := h.slen (sz := 1) (s := s) (vs := ints hv); simpa using this
  have hcnt := hC.count
  have hsm := hC.small
  refine ixB_h hks h (by omega) (by omega) fun p hp => ldI_i (hp h) ?_
  refine joinP_i (fun (s' : Sl) w' => ∃ M R hv, Calm l0 most 3 (j + 1) M R hv ∧ St w w' [slc 1 s' (ints hv), mach gm M, blk ga (ints [l0, most]), blk gd (ints [0, most])]) (fun J hJ => ?_) ?_
  · refine iteB_i (fun hb2 => ?_) fun hb2 => ?_
    · refine drew_h h fun w36 h => ldW_h (g := gd) h rfl (ixB_h hl h (by omega) (by omega) fun p hp => ldI_i (hp h) ?_)
      have h : St w w36 [mach gm M, slc 1 s (ints hv), blk ga (ints [l0, most]), blk gd (ints [0, most])] := h.swap
      refine push_alone (wk := 0) hC (by omega) (by omega) (by omega) h (fun hlt go O' M' R' w43 hf hC' h => ?_) fun heq go O' M' R' w43 hf hC' h => ?_
      · refine iteB_f (by rw [beq_eq_false_iff_ne]; omega) (iteB_f rfl ?_)
        refine ixB_h hl h (by omega) (by omega) fun p hp => ldI_i (hp h) ?_
        refine app1_s (s := s) (xs := hv) h (by omega) fun s' w' h => hJ _ _ ⟨M', R', _, hC', h.drop.swap⟩
      · refine iteB_t (by rw [beq_iff_eq]; omega) (iteB_f rfl ?_)
        exact hJ _ _ ⟨M', R', _, hC', h.drop.swap⟩
    · refine ldW_h (g := gd) h rfl ?_
      have h : St w w32 [mach gm M, slc 1 s (ints hv), blk ga (ints [l0, most]), blk gd (ints [0, most])] := h.swap
      refine steal_s (most := most) h fun go1 w52 h => ?_
      refine ixB_h hks h (by omega) (by omega) fun p hp => ldI_i (hp h) ?_
      have hwr : IntKind.wrap .i64 ((s.n : Int) - 1) = (hv.length : Int) - 1 := by rw [wrap_id ⟨by omega, by omega⟩]; omega
      refine joinP_i (fun (x : Option Addr × Int × Int) w' => ∃ go, x.1 = some ⟨go, 0, none⟩ ∧ ((x.2 = (0, (hv.length : Int) - 1) ∧ St w w' [opP go (Dop.beg most 0 8), mach gm M, slc 1 s (ints hv), blk ga (ints [l0, most]), blk gd (ints [0, most])]) ∨ (x.2 = (1, 0) ∧ St w w' [opP go (Dop.beg most 0 15), mach gm M, slc 1 s (ints hv), blk ga (ints [l0, most]), blk gd (ints [0, most])]))) (fun J2 hJ2 => ?_) ?_
      · refine iteB_i (fun hb3 => ?_) fun hb3 => ?_
        · refine ldW_h (g := gd) h rfl ?_
          refine pop_s (most := most) h.drop fun go2 w58 h => hJ2 _ _ ⟨go2, rfl, .inl ⟨?_, h⟩⟩
          dsimp only; rw [hwr]
        · exact hJ2 _ _ ⟨go1, rfl, .inr ⟨rfl, h⟩⟩
      rintro ⟨p, bya⟩ w60 ⟨go, hp', hcase⟩
      dsimp only at hp' hcase ⊢
      subst hp'
      have hrun : ∀ k' : Int → World → Prop,
          (∀ (a : Nat) O' M' R' l' w', bya.2 = a → a < hv.length → hv.getD a 0 = O'.got → l' = hv.take a ++ hv.drop (a + 1) → O'.Fine → O'.how = 1 → Calm l0 most 3 j M' R' l' → St w w' [opP go O', mach gm M', slc 1 s (ints hv), blk ga (ints [l0, most]), blk gd (ints [0, most])] → k' 1 w') →
          (∀ O' M' R' w', hv = [] → O'.how = 3 → Calm l0 most 3 j M' R' [] → St w w' [opP go O', mach gm M', slc 1 s (ints hv), blk ga (ints [l0, most]), blk gd (ints [0, most])] → k' 3 w') → pelotonlaw10_run (some ⟨gm, 0, none⟩) (some ⟨go, 0, none⟩) bya.1 w60 k' := by
        intro k' c1 c3
        rcases hcase with ⟨e, h⟩ | ⟨e, h⟩
        · rw [e]
          refine pop_alone (wk := 0) hC (by omega) (by omega) h (fun l' O' M' R' w' hf hh hl' hC' h => ?_) fun O' M' R' w' hl' hh hC' h => c3 O' M' R' w' hl' hh hC' h
          refine c1 l'.length O' M' R' l' w' (by rw [e, hl']; simp) (by rw [hl']; simp) (by rw [hl']; simp) (by rw [hl']; simp) hf hh hC' h
        · rw [e]
          refine steal_alone (wk := 1) hC (by omega) (by omega) h (fun l' O' M' w' hf hh hl' hC' _ h => ?_) fun O' M' w' hl' hh hC' h => c3 O' M' R w' hl' hh hC' h
          refine c1 0 O' M' R l' w' (by rw [e]; rfl) (by rw [hl']; simp) (by rw [hl']; simp) (by rw [hl']; simp) hf hh hC' h
      have hby : bya.1 = 0 ∨ bya.1 = 1 := by rcases hcase with ⟨e, _⟩ | ⟨e, _⟩ <;> rw [e] <;> simp
      obtain ⟨by', at'⟩ := bya
      dsimp only at hrun hby ⊢
      refine hrun _ (fun a O' M' R' l' w62 ha hal hgot hl' hf hh hC' h => ?_) fun O' M' R' w62 hv0 hh hC' h => ?_
      · subst ha
        refine iteB_f (by rw [beq_eq_false_iff_ne]; omega) ?_
        have hst := step_still (wk := by') (M := M') (live_done hh)
        refine joinP_i (fun b w' => b = false ∧ St w w' [opP go O', mach gm M', slc 1 s (ints hv), blk ga (ints [l0, most]), blk gd (ints [0, most])]) (fun J3 hJ3 => ?_) ?_
        · refine drew_h h fun w69 h => iteB_f rfl ?_
          refine ixK_h (s := s) (xs := hv) h (by omega) (by omega) fun p hp => ldI_i (hp h) ?_
          refine got_s (go := go) (O := O') h (samec_1 (hp h) (hp h) ?_)
          rw [tell_done hh, Int.toNat_natCast, hgot]
          refine iteB_f (by simp) ?_
          refine step_r h hf hC'.glo.ok fun w75 h => ?_
          rw [hst] at h ⊢
          refine iteB_f (by rw [hh]; rfl) ?_
          refine ixK_h (s := s) (xs := hv) h (by omega) (by omega) fun p hp => ldI_i (hp h) ?_
          refine got_s (go := go) (O := O') h (samec_1 (hp h) (hp h) ?_)
          rw [tell_done hh, Int.toNat_natCast, hgot]
          exact hJ3 _ _ ⟨by simp, h⟩
        rintro b w81 ⟨rfl, h⟩
        refine iteB_f rfl (emp_s h fun gl w83 h => ?_)
        have ho : OwnS 1 w83 s (ints hv) := h.own
        refine own_slS ho (by omega) (by omega) (by omega) fun d hd hsd => ?_
        refine bApp_h (s := ⟨some ⟨gl, 0, none⟩, 0, 0⟩) (vs := ints []) (x := d) (ys := ints (hv.take a)) h (elI (by kernel_rfl)) (by kernel_rfl) (by simpa [ints, List.map_take] using hsd) (one_ints _) (by simp only; omega) (by simp only; omega) fun s85 w86 h n85 => ?_
        have ho : OwnS 1 w86 s (ints hv) := h.own
        have hwr2 : IntKind.wrap .i64 ((a : Int) + 1) = ((a + 1 : Nat) : Int) := by rw [wrap_id ⟨by omega, by omega⟩]; omega
        rw [hwr2]
        refine own_slL ho (by omega) (by omega) fun e he hse => ?_
        dsimp only at n85
        refine bApp_h (s := s85) (vs := ints [] ++ ints (hv.take a)) (x := e) (ys := ints (hv.drop (a + 1))) h (elI (by kernel_rfl)) (by kernel_rfl) (by simpa [ints, List.map_drop] using hse) (one_ints _) (by omega) (by omega) fun s88 w89 h n88 => ?_
        refine hJ _ _ ⟨M', R', l', hC'.up (by omega) (by omega), ?_⟩
        have e2 : ints [] ++ ints (hv.take a) ++ ints (hv.drop (a + 1)) = ints l' := by rw [hl']; simp [ints]
        rw [e2] at h
        exact ((h.rm 1 rfl).rm 2 rfl)
      · subst hv0
        refine iteB_t (by rw [beq_iff_eq]; rw [← hn]; rfl) ?_
        refine joinP_i (fun b w' => b = false ∧ w' = w62) (fun J3 hJ3 => ?_) ?_
        · refine iteB_f rfl (got_s (go := go) (O := O') h (hJ3 _ _ ⟨?_, rfl⟩))
          unfold Dop.tell; rw [if_neg (by omega)]; rfl
        rintro b w67 ⟨rfl, rfl⟩
        refine iteB_f rfl (hJ _ _ ⟨M', R', [], hC'.up (by omega) (by omega), h.drop.swap⟩)
  rintro s90 w91 ⟨M', R', hv', hC', h⟩
  refine ldW_h (g := gd) h rfl ?_
  have h : St w w91 [mach gm M', slc 1 s90 (ints hv'), blk ga (ints [l0, most]), blk gd (ints [0, most])] := h.swap
  refine calm_list_s hC' h fun s93 w94 h => ?_
  have ha : OwnS 1 w94 s93 (ints hv') := h.own
  have hb2 : OwnS 1 w94 s90 (ints hv') := h.own
  have hc' := hC'.count
  have hs' := hC'.small
  have hl93 : hv'.length = s93.n := by have := h.slen (sz := 1) (s := s93) (vs := ints hv'); simpa using this
  refine same_r ha.sls hb2.sls (by omega) fun w96 hS => ?_
  refine iteB_f (by simp) ?_
  have hwj : IntKind.wrap .i64 ((j : Int) + 1) = ((j + 1 : Nat) : Int) := by rw [wrap_id ⟨by omega, by omega⟩]; omega
  rw [hwj]
  refine hCC _ _ ⟨j + 1, M', R', hv', rfl, by omega, by rw [show ((j + 1 : Nat) : Int) = (j : Int) + 1 by omega]; exact hC', (h.on hS.ext).drop.swap⟩ (by dsimp only; omega)
end
end Go.Proofs.Ytheallacpidcmaa
