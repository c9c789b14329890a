/-
  Layer 9: the chapter's example; what a law begins with.
-/
import Derived.Test.YteipigpapliagaaRc
set_option linter.unusedSimpArgs false
set_option linter.unusedVariables false
set_option maxRecDepth 100000
namespace Go.Proofs.Yteipigpapliagaa
open Go Go.Ev Go.Proofs

theorem eq2_i {r s : Rg} {k : Bool → Prop} (h : k (decide (r = s))) : eqA ([(0, 0)] ++ ([(1, 0)] ++ [])) r.ag s.ag k := by
  have hoffs : ([(0, 0)] ++ ([(1, 0)] ++ []) : List (Nat × Nat)) = (List.range 2).map fun o => (o, 0) := by decide
  rw [hoffs]
  refine eqA_I (xs := [r.At, r.Log]) (ys := [s.At, s.Log]) rfl rfl ?_
  have e : decide ([r.At, r.Log] = [s.At, s.Log]) = decide (r = s) := by
    rw [decide_eq_decide]
    obtain ⟨a, b⟩ := r; obtain ⟨c, d⟩ := s
    simp
  rw [e]; exact h

section
variable {w0 w : World} {L : List HP}
/-- a ring in a block of its own -/
theorem box_s {t : TypeId} {v : Array Value} {r : Rg} {c : Addr → World → Prop} (hv : v.size = 2) (h : St w0 w L) (hc : ∀ g w', St w0 w' (blk g [.int .i64 r.At, .int .i64 r.Log] :: L) → c ⟨g, 0, none⟩ w') : newC w v t fun a w' => stA 2 w' a r.ag fun w'' => c a w'' :=
  newC_h h fun g w1 hS => stW_h hS (by simpa using hv) rfl (by simp [Value.oneCell']) fun w2 hS => hc g w2 hS

theorem awake9_s {k : Bool → World → Prop} (h : St w0 w L) (hk : ∀ w', St w0 w' L → k true w') : pelotonlaw09_awake w k := by
  unfold pelotonlaw09_awake pelotonlaw09_awake_b
  refine of_s h fun w1 hS => ?_
  rw [show (Rg.of 82) = ⟨5, 2⟩ by decide, show (Rg.right ⟨5, 2⟩) = true by decide, if_pos rfl]
  refine box_s (r := ⟨5, 2⟩) rfl hS fun g1 w2 hS => of_s hS fun w3 hS => ?_
  rw [show (Rg.right (Rg.of 9)) = false by decide, if_neg (by decide)]
  refine box_s (r := Rg.zero) rfl hS fun g2 w4 hS => ?_
  refine cnew_s hS (fun _ g w5 hS => ?_) fun h => absurd h (by decide)
  have e0 : Mac.new 8 1 = ⟨[], 8, [0, 0]⟩ := by decide
  rw [e0] at hS
  refine rnew_s (g := g) (M := ⟨[], 8, [0, 0]⟩) hS ⟨by decide, by decide⟩ (fun _ _ _ _ w6 hS => ?_) (fun _ _ _ h => absurd h (by decide)) fun h => absurd (by decide) h
  have e1 : ((Mac.tick ⟨[], 8, [0, 0]⟩ 0).grow ((2 ^ (1 : Int).toNat : Nat) : Int)) = ⟨[0, 0], 8, [1, 0]⟩ := by decide
  rw [e1] at hS
  refine box_s (r := ⟨0, 1⟩) rfl hS fun g3 w7 hS => ?_
  refine rnew_s (g := g) (M := ⟨[0, 0], 8, [1, 0]⟩) hS ⟨by decide, by decide⟩ (fun _ _ _ _ w8 hS => ?_) (fun _ _ _ h => absurd h (by decide)) fun h => absurd (by decide) h
  have e2 : ((Mac.tick ⟨[0, 0], 8, [1, 0]⟩ 1).grow ((2 ^ (2 : Int).toNat : Nat) : Int)) = ⟨[0, 0, 0, 0, 0, 0], 8, [1, 1]⟩ := by decide
  rw [e2] at hS
  refine box_s (r := ⟨2, 2⟩) rfl hS fun g4 w9 hS => ?_
  refine joinP_i (fun y w' => y = false ∧ w9 = w') ?_ ?_
  · intro J hJ
    refine iteB_f rfl ?_
    refine ldW_h hS rfl ?_
    refine eq2_i (r := ⟨5, 2⟩) (s := ⟨5, 2⟩) (iteB_f (by decide) ?_)
    refine ldW_h hS rfl ?_
    refine eq2_i (r := ⟨0, 1⟩) (s := ⟨0, 1⟩) (iteB_f (by decide) ?_)
    refine ldW_h hS rfl ?_
    exact eq2_i (r := ⟨2, 2⟩) (s := ⟨2, 2⟩) (hJ _ _ ⟨by decide, rfl⟩)
  rintro _ _ ⟨rfl, rfl⟩
  refine iteB_f rfl ?_
  refine joinP_i (fun y w' => y = false ∧ St w0 w' (blk g4 [.int .i64 2, .int .i64 2] :: blk g3 [.int .i64 0, .int .i64 1] :: mach g ⟨[0, 7, 0, 0, 0, 0], 8, [2, 1]⟩ :: blk g2 [.int .i64 0, .int .i64 0] :: blk g1 [.int .i64 5, .int .i64 2] :: L)) ?_ ?_
  · intro J hJ
    refine ldW_h hS rfl ?_
    refine size_s (r := ⟨5, 2⟩) hS fun w10 hS => iteB_f (by decide) ?_
    refine ldW_h hS rfl ?_
    refine place_s (r := ⟨5, 2⟩) hS fun w10 hS => iteB_f (by decide) ?_
    refine ldW_h hS rfl ?_
    refine place_s (r := ⟨5, 2⟩) hS fun w10 hS => iteB_f (by decide) ?_
    refine ldW_h hS rfl ?_
    refine word_s (r := ⟨5, 2⟩) hS fun w10 hS => iteB_f (by decide) ?_
    refine store_s (g := g) (M := ⟨[0, 0, 0, 0, 0, 0], 8, [1, 1]⟩) hS (fun _ w11 hS => ?_) fun h => absurd h (by decide)
    have e3 : ((Mac.tick ⟨[0, 0, 0, 0, 0, 0], 8, [1, 1]⟩ 0).put 1 7) = ⟨[0, 7, 0, 0, 0, 0], 8, [2, 1]⟩ := by decide
    rw [e3] at hS
    exact hJ _ _ ⟨by decide, hS⟩
  rintro _ w10 ⟨rfl, hS⟩
  refine iteB_f rfl ?_
  refine ldW_h hS rfl ?_
  refine ldW_h hS rfl ?_
  refine copy_s (a := ⟨0, 1⟩) (b := ⟨2, 2⟩) (by decide) (by decide) hS (fun _ gc w11 hS => ?_) fun h => absurd (by decide) h
  replace hS := hS.front 3 rfl
  replace hS := hS.front 1 rfl
  simp only [List.eraseIdx] at hS
  refine step_s hS (fun h => absurd h (by decide)) (fun _ h => absurd h (by decide)) (fun _ _ _ w12 hS => ?_) fun _ _ h => absurd h (by decide)
  refine step_s hS (fun h => absurd h (by decide)) (fun _ h => absurd h (by decide)) (fun _ _ h => absurd h (by decide)) fun _ _ _ w13 hS => ?_
  refine iteB_t rfl ?_
  refine peek_s (g := g) hS ?_
  exact hk _ hS.drop.drop.drop.drop.drop.drop

/-- the cells of a ring's type -/
theorem law_places {s : Rg} {i x : Int} {k : Bool → World → Prop} (hx : InI x) (h : St w0 w L) (hk : ∀ w', St w0 w' L → k true w') : pelotonlaw09_RingPlaces s.ag i x w k := by
  unfold pelotonlaw09_RingPlaces pelotonlaw09_RingPlaces_b
  refine newC_h h fun g1 w1 hS => ?_
  refine ldI_h hS rfl ?_
  refine ldI_h hS rfl ?_
  refine box_s (r := s) rfl hS fun g2 w2 hS => ?_
  refine ldI_h hS rfl ?_
  refine ldI_h hS rfl ?_
  refine box_s (r := s) rfl hS fun g3 w3 hS => ?_
  refine joinP_i (fun y w' => y = false ∧ St w0 w' L) ?_ ?_
  · intro J hJ
    refine drew_h hS fun w4 hS => ?_
    refine ldW_h hS rfl ?_
    refine ldW_h hS rfl ?_
    refine size_s (r := s) hS fun w5 hS5 => samec_h hS hS5 ?_
    refine rsize_s (r := s) hS5 fun w6 hS => iteB_f (by simp) ?_
    refine ldW_h hS rfl ?_
    refine ldW_h hS rfl ?_
    refine place_s (r := s) hS fun w5 hS5 => samec_h hS hS5 ?_
    refine rplace_s (r := s) hS5 fun w6 hS => iteB_f (by simp) ?_
    refine ldW_h hS rfl ?_
    refine ldW_h hS rfl ?_
    refine word_s (r := s) hS fun w5 hS5 => samec_h hS hS5 ?_
    refine rword_s (r := s) hS5 fun w6 hS => hJ _ _ ⟨by simp, hS.drop.drop.drop⟩
  rintro _ w4 ⟨rfl, hS⟩
  refine iteB_f rfl (of_s hS fun w5 hS => ?_)
  by_cases hr : (Rg.of x).right = true
  · rw [if_pos hr]
    refine box_s (r := Rg.of x) rfl hS fun g4 w6 hS => rof_s hx hS fun w7 hS => ?_
    rw [if_pos hr]
    refine box_s (r := Rg.of x) rfl hS fun g5 w8 hS => iteB_t rfl ?_
    refine ldI_h hS rfl ?_
    refine ldI_h hS rfl (iteB_t (by simp) ?_)
    refine ldI_h hS rfl ?_
    refine ldI_h hS rfl (iteB_t (by simp) ?_)
    exact awake9_s hS fun w9 hS => hk _ hS.drop.drop
  · rw [if_neg hr]
    refine box_s (r := Rg.zero) rfl hS fun g4 w6 hS => rof_s hx hS fun w7 hS => ?_
    rw [if_neg hr]
    refine box_s (r := Rg.zero) rfl hS fun g5 w8 hS => iteB_t rfl ?_
    refine ldI_h hS rfl ?_
    refine ldI_h hS rfl (iteB_t (by simp) ?_)
    refine ldI_h hS rfl ?_
    refine ldI_h hS rfl (iteB_t (by simp) ?_)
    exact awake9_s hS fun w9 hS => hk _ hS.drop.drop

theorem of_word {r : Rg} (h : r.right = true) : Rg.of r.word = r := by
  have hr := Rg.right_out h
  unfold Rg.of Rg.word
  rw [if_pos h]
  obtain ⟨a, l⟩ := r
  simp only [Rg.mk.injEq] at *
  omega
theorem word_of {x : Int} (h : (Rg.of x).right = true) : (Rg.of x).word = x := by
  have hr := Rg.right_out h
  unfold Rg.word
  rw [if_pos h]
  unfold Rg.of at *
  dsimp only at *
  omega
theorem size_right {r : Rg} (h : r.right = true) : 1 ≤ r.size := by
  have hr := Rg.right_out h
  unfold Rg.size; rw [if_pos h]; omega
theorem size_wrong {r : Rg} (h : ¬ r.right = true) : r.size = 0 ∧ r.word = -1 := by
  unfold Rg.size Rg.word; rw [if_neg h, if_neg h]; exact ⟨rfl, rfl⟩

theorem law_words {s : Rg} {x : Int} {k : Bool → World → Prop} (hx : InI x) (h : St w0 w L) (hk : ∀ w', St w0 w' L → k true w') : pelotonlaw09_RingWords s.ag x w k := by
  unfold pelotonlaw09_RingWords pelotonlaw09_RingWords_b
  refine newC_h h fun g1 w1 hS => of_s hS fun w2 hS => ?_
  have part2 : ∀ w', St w0 w' (blk g1 s.ag.toList :: L) → (ldI .i64 w' (Addr.add ⟨g1, 0, none⟩ 0) fun i40 =>
      ldI .i64 w' (Addr.add ⟨g1, 0, none⟩ 1) fun i41 =>
      newC w' #[(.int .i64 (0 : Int)), (.int .i64 (0 : Int))] 24 fun a42 w43 =>
      stA 2 w43 a42 #[(.int .i64 i40), (.int .i64 i41)] fun w44 =>
      ldA 2 w44 a42 fun cs45 =>
      ring_Ring_Word cs45 w44 fun i46 w47 =>
      ring_Of i46 w47 fun x48 w49 =>
      newC w49 #[(.int .i64 (0 : Int)), (.int .i64 (0 : Int))] 24 fun a50 w51 =>
      stA 2 w51 a50 x48.1 fun w52 =>
      ldA 2 w52 a42 fun cs53 =>
      ring_Ring_Size cs53 w52 fun i54 w55 =>
      iteB (i54 == (0 : Int)) (
        iteB (x48.2 == (11 : Int)) (
          pelotonlaw09_awake  w55 fun b56 w57 =>
          (k b56 w57)) (
          (k false w55))) (
        iteB (x48.2 == (0 : Int)) (
          ldA 2 w55 a50 fun cs58 =>
          ldA 2 w55 a42 fun cs59 =>
          eqA ([(0, 0)] ++ ([(1, 0)] ++ [])) cs58 cs59 fun b60 =>
          iteB b60 (
            pelotonlaw09_awake  w55 fun b61 w62 =>
            (k b61 w62)) (
            (k false w55))) (
          (k false w55)))) := by
    intro w' hS
    refine ldI_h hS rfl ?_
    refine ldI_h hS rfl ?_
    refine box_s (r := s) rfl hS fun g2 w2 hS => ?_
    refine ldW_h hS rfl ?_
    refine word_s (r := s) hS fun w3 hS => of_s hS fun w4 hS => ?_
    by_cases hr : s.right = true
    · rw [of_word hr, if_pos hr]
      refine box_s (r := s) rfl hS fun g3 w5 hS => ?_
      refine ldW_h hS rfl ?_
      have := size_right hr
      refine size_s (r := s) hS fun w6 hS => iteB_f (by simp; omega) (iteB_t rfl ?_)
      refine ldW_h hS rfl ?_
      refine ldW_h hS rfl ?_
      exact eq2_i (r := s) (s := s) (iteB_t (by simp) (awake9_s hS fun w9 hS => hk _ hS.drop.drop.drop))
    · rw [(size_wrong hr).2, show (Rg.of (-1)).right = false by decide, if_neg (by decide)]
      refine box_s (r := Rg.zero) rfl hS fun g3 w5 hS => ?_
      refine ldW_h hS rfl ?_
      refine size_s (r := s) hS fun w6 hS => iteB_t (by rw [(size_wrong hr).1]; rfl) (iteB_t rfl (awake9_s hS fun w9 hS => hk _ hS.drop.drop.drop))
  by_cases hr : (Rg.of x).right = true
  · rw [if_pos hr]
    refine box_s (r := Rg.of x) rfl hS fun g2 w3 hS => ?_
    refine joinP_i (fun _ w' => St w0 w' (blk g1 s.ag.toList :: L)) ?_ (fun _ w' hS => part2 w' hS)
    intro J hJ
    refine iteB_t rfl ?_
    refine joinP_i (fun y w' => y = false ∧ St w0 w' (blk g1 s.ag.toList :: L)) ?_ (fun y w' ⟨e, hS⟩ => iteB_f e (hJ _ _ hS))
    intro J' hJ'
    refine ldW_h hS rfl ?_
    refine word_s (r := Rg.of x) hS fun w4 hS => iteB_f (by rw [word_of hr]; simp) ?_
    refine ldW_h hS rfl ?_
    have := size_right hr
    refine size_s (r := Rg.of x) hS fun w5 hS => hJ' _ _ ⟨by rw [decide_eq_false_iff_not]; omega, hS.drop⟩
  · rw [if_neg hr]
    refine box_s (r := Rg.zero) rfl hS fun g2 w3 hS => ?_
    refine joinP_i (fun _ w' => St w0 w' (blk g1 s.ag.toList :: L)) ?_ (fun _ w' hS => part2 w' hS)
    intro J hJ
    refine iteB_f rfl ?_
    refine joinP_i (fun _ w' => St w0 w' (blk g2 [.int .i64 0, .int .i64 0] :: blk g1 s.ag.toList :: L)) ?_ ?_
    · intro J' hJ'
      refine iteB_i (fun h0 => ?_) fun h0 => hJ' _ _ hS
      rw [decide_eq_true_eq] at h0
      have e1 : divV .i64 x 16 = x / 16 := by
        unfold divV
        rw [Int.tdiv_eq_ediv_of_nonneg (by omega), wrap_id ⟨by omega, by have := hx.2; omega⟩]
      have e2 : remV x 16 = x % 16 := by
        unfold remV
        rw [Int.tmod_eq_emod_of_nonneg (by omega)]
      rw [e1, e2]
      refine box_s (r := Rg.of x) rfl hS fun g3 w4 hS => ?_
      refine joinP_i (fun y w' => y = false ∧ St w0 w' (blk g2 [.int .i64 0, .int .i64 0] :: blk g1 s.ag.toList :: L)) ?_ (fun y w' ⟨e, hS⟩ => iteB_f e (hJ' _ _ hS))
      intro J2 hJ2
      refine ldW_h hS rfl ?_
      refine size_s (r := Rg.of x) hS fun w4 hS => iteB_f (by rw [(size_wrong hr).1]; rfl) ?_
      refine ldW_h hS rfl ?_
      exact word_s (r := Rg.of x) hS fun w4 hS => hJ2 _ _ ⟨by rw [(size_wrong hr).2]; rfl, hS.drop⟩
    intro _ w4 hS
    refine joinP_i (fun y w' => y = false ∧ St w0 w' (blk g1 s.ag.toList :: L)) ?_ (fun y w' ⟨e, hS⟩ => iteB_f e (hJ _ _ hS))
    intro J' hJ'
    refine iteB_f rfl ?_
    refine ldW_h hS rfl ?_
    exact eq2_i (r := Rg.zero) (s := Rg.zero) (hJ' _ _ ⟨rfl, hS.drop⟩)
end
end Go.Proofs.Yteipigpapliagaa
