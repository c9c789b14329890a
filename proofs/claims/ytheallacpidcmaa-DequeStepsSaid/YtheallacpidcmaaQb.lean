/-
  Layer 10: an operation of a deque: its steps in the code.
-/
import Derived.Test.YtheallacpidcmaaQa
set_option linter.unusedSimpArgs false
set_option linter.unusedVariables false
set_option maxRecDepth 100000
namespace Go.Proofs.Ytheallacpidcmaa
open Go Go.Ev Go.Proofs

section
variable {w0 w : World} {L R : List HP} {gm go : Nat} {M : Mac} {O : Dop} {p : Option Addr} {wk : Int} {k : Int × Int → World → Prop}
abbrev opB (w0 : World) (go gm : Nat) (p : Option Addr) (R : List HP) (k : Int × Int → World → Prop) (r : Dst) : Prop := ∀ w', St w0 w' (blk go (r.1.cells p) :: mach gm r.2.1 :: R) → k (r.2.2.1, r.2.2.2) w'

theorem p0 (h : St w0 w (blk go (O.cells p) :: mach gm M :: R)) (hk : opB w0 go gm p R k (O.f0 M wk)) : deque_Op_pushBottom (some ⟨go, 0, none⟩) (some ⟨gm, 0, none⟩) wk w k := by
  unfold deque_Op_pushBottom deque_Op_pushBottom_b
  refine drew_h h fun w1 h => nn_i (ldA_h (g := go) (o := 0) h (by simp [Dop.cells]) (nn_i ?_))
  refine bottom_s (most := O.most) h fun w6 h => ?_
  exact oload_s (off := 2) h (by simp [Dop.cells]) (by simp [Dop.cells]) rfl fun w8 h => hk w8 h
theorem p1 (h : St w0 w (blk go (O.cells p) :: mach gm M :: R)) (hk : opB w0 go gm p R k (O.f1 M wk)) : deque_Op_pushTop (some ⟨go, 0, none⟩) (some ⟨gm, 0, none⟩) wk w k := by
  unfold deque_Op_pushTop deque_Op_pushTop_b
  refine drew_h h fun w1 h => nn_i (ldA_h (g := go) (o := 0) h (by simp [Dop.cells]) (nn_i ?_))
  refine top_s (most := O.most) h fun w6 h => ?_
  exact oload_s (off := 3) h (by simp [Dop.cells]) (by simp [Dop.cells]) rfl fun w8 h => hk w8 h
theorem p2 (h : St w0 w (blk go (O.cells p) :: mach gm M :: R)) (hk : opB w0 go gm p R k (O.f2 M wk)) : deque_Op_pushRing (some ⟨go, 0, none⟩) (some ⟨gm, 0, none⟩) wk w k := by
  unfold deque_Op_pushRing deque_Op_pushRing_b
  refine read_s h fun w2 h => ?_
  unfold Dop.f2 at hk
  generalize O.read M wk = r at h hk
  refine iteB_i (fun hb => ?_) fun hb => ?_
  · rw [if_pos hb] at hk; exact hk w2 h
  · rw [if_neg (by rw [hb]; simp)] at hk
    refine drew_h h fun w3 h => nn_i (ldI_h (g := go) (o := 2) h rfl (nn_i (ldI_h (g := go) (o := 3) h rfl (nn_i (ldA_h (g := go) (o := 4) h (by simp [Dop.cells]) ?_)))))
    have h3 := h
    refine size_s (r := r.1.ring) h fun w11 h => samec_h (g := go) h3 h (samec_h (g := go) h3 h ?_)
    refine iteB_i (fun hb => ?_) fun hb => ?_
    · have hb' : decide (wr (r.1.b - r.1.t) < r.1.ring.size) = true := hb
      rw [if_pos hb'] at hk
      exact nn_i (stC_h (g := go) (o := 11) h rfl (by simp [Dop.cells]) fun w13 h => hk w13 h)
    · have hb' : decide (wr (r.1.b - r.1.t) < r.1.ring.size) = false := hb
      rw [if_neg (by rw [hb']; simp)] at hk
      refine drew_h h fun w14 h => nn_i (ldI_h (g := go) (o := 5) h rfl (nn_i (ldI_h (g := go) (o := 1) h rfl ?_)))
      refine iteB_i (fun hb => ?_) fun hb => ?_
      · rw [if_pos hb] at hk; exact hk w14 h
      · rw [if_neg (by rw [hb]; simp)] at hk
        exact nn_i (stC_h (g := go) (o := 11) h rfl (by simp [Dop.cells]) fun w20 h => hk w20 h)
theorem p5 (h : St w0 w (blk go (O.cells p) :: mach gm M :: R)) (hk : opB w0 go gm p R k (O.f5 M wk)) : deque_Op_pushWord (some ⟨go, 0, none⟩) (some ⟨gm, 0, none⟩) wk w k := by
  unfold deque_Op_pushWord deque_Op_pushWord_b
  refine nn_i (ldA_h (g := go) (o := 8) h (by simp [Dop.cells]) (nn_i ?_))
  refine stA_h (g := go) (o := 4) (n := 2) h rfl (by simp [Dop.cells]) (by intro v hv; simp [Dop.cells] at hv; rcases hv with rfl | rfl <;> rfl) fun w4 h => ?_
  have h : St w0 w4 (blk go (Dop.cells { O with ring := O.to } p) :: mach gm M :: R) := h
  refine drew_h h fun w5 h => nn_i (ldA_h (g := go) (o := 0) h (by simp [Dop.cells]) (nn_i (ldA_h (g := go) (o := 4) h (by simp [Dop.cells]) ?_)))
  have h5 := h
  refine dword_s (most := O.most) h fun w11 h => samec_h (g := go) h5 h ?_
  refine word_s (r := O.to) h fun w13 h => ?_
  exact ostore_s h (by simp [Dop.cells]) rfl fun w15 h => hk w15 h
theorem p6 (h : St w0 w (blk go (O.cells p) :: mach gm M :: R)) (hk : opB w0 go gm p R k (O.f6 M wk)) : deque_Op_pushThing (some ⟨go, 0, none⟩) (some ⟨gm, 0, none⟩) wk w k := by
  unfold deque_Op_pushThing deque_Op_pushThing_b
  refine drew_h h fun w1 h => nn_i (ldA_h (g := go) (o := 4) h (by simp [Dop.cells]) (nn_i (ldI_h (g := go) (o := 2) h rfl (nn_i (ldI_h (g := go) (o := 6) h rfl ?_)))))
  have h1 := h
  refine place_s (r := O.ring) h fun w9 h => samec_h (g := go) h1 h ?_
  exact ostore_s h (by simp [Dop.cells]) rfl fun w11 h => hk w11 h
theorem p7 (h : St w0 w (blk go (O.cells p) :: mach gm M :: R)) (hk : opB w0 go gm p R k (O.f7 M wk)) : deque_Op_pushDone (some ⟨go, 0, none⟩) (some ⟨gm, 0, none⟩) wk w k := by
  unfold deque_Op_pushDone deque_Op_pushDone_b
  refine drew_h h fun w1 h => nn_i (ldA_h (g := go) (o := 0) h (by simp [Dop.cells]) (nn_i (ldI_h (g := go) (o := 2) h rfl ?_)))
  have h1 := h
  refine bottom_s (most := O.most) h fun w7 h => samec_h (g := go) h1 h ?_
  exact store_r (gm := gm) (M := M) h fun w9 h => hk w9 h
theorem p8 (h : St w0 w (blk go (O.cells p) :: mach gm M :: R)) (hk : opB w0 go gm p R k (O.f8 M wk)) : deque_Op_popBottom (some ⟨go, 0, none⟩) (some ⟨gm, 0, none⟩) wk w k := by
  unfold deque_Op_popBottom deque_Op_popBottom_b
  refine drew_h h fun w1 h => nn_i (ldA_h (g := go) (o := 0) h (by simp [Dop.cells]) (nn_i ?_))
  refine bottom_s (most := O.most) h fun w6 h => ?_
  exact oload_s (off := 2) h (by simp [Dop.cells]) (by simp [Dop.cells]) rfl fun w8 h => hk w8 h
theorem p9 (h : St w0 w (blk go (O.cells p) :: mach gm M :: R)) (hk : opB w0 go gm p R k (O.f9 M wk)) : deque_Op_popRing (some ⟨go, 0, none⟩) (some ⟨gm, 0, none⟩) wk w k := by
  unfold deque_Op_popRing deque_Op_popRing_b
  refine nn_i (stC_h (g := go) (o := 11) h rfl (by simp [Dop.cells]) fun w2 h => ?_)
  have h : St w0 w2 (blk go (Dop.cells { O with next := 10 } p) :: mach gm M :: R) := h
  exact read_s h fun w4 h => hk w4 h
theorem p10 (h : St w0 w (blk go (O.cells p) :: mach gm M :: R)) (hk : opB w0 go gm p R k (O.f10 M wk)) : deque_Op_popLess (some ⟨go, 0, none⟩) (some ⟨gm, 0, none⟩) wk w k := by
  unfold deque_Op_popLess deque_Op_popLess_b
  refine drew_h h fun w1 h => nn_i (ldA_h (g := go) (o := 0) h (by simp [Dop.cells]) (nn_i (ldI_h (g := go) (o := 2) h rfl ?_)))
  have h1 := h
  refine bottom_s (most := O.most) h fun w7 h => samec_h (g := go) h1 h ?_
  exact ostore_s h (by simp [Dop.cells]) rfl fun w9 h => hk w9 h
theorem p11 (h : St w0 w (blk go (O.cells p) :: mach gm M :: R)) (hk : opB w0 go gm p R k (O.f11 M wk)) : deque_Op_popTop (some ⟨go, 0, none⟩) (some ⟨gm, 0, none⟩) wk w k := by
  unfold deque_Op_popTop deque_Op_popTop_b
  refine drew_h h fun w1 h => nn_i (ldA_h (g := go) (o := 0) h (by simp [Dop.cells]) (nn_i ?_))
  refine top_s (most := O.most) h fun w6 h => ?_
  unfold Dop.f11 at hk
  refine oload_s (off := 3) h (by simp [Dop.cells]) (by simp [Dop.cells]) rfl fun w8 h => ?_
  refine drew_h h fun w9 h => nn_i (ldI_h (g := go) (o := 3) (n := (M.ld wk 0).2.1) h rfl (nn_i (ldI_h (g := go) (o := 2) (n := O.b) h rfl ?_)))
  refine iteB_i (fun hb => ?_) fun hb => ?_
  · have hb' : decide ((M.ld wk 0).2.1 > wr (O.b - 1)) = true := hb
    rw [if_pos hb'] at hk
    exact nn_i (stC_h (g := go) (o := 11) h rfl (by simp [Dop.cells]) fun w15 h => hk w15 h)
  · have hb' : decide ((M.ld wk 0).2.1 > wr (O.b - 1)) = false := hb
    rw [if_neg (by rw [hb']; simp)] at hk
    exact hk w9 h
theorem p12 (h : St w0 w (blk go (O.cells p) :: mach gm M :: R)) (hk : opB w0 go gm p R k (O.f12 M wk)) : deque_Op_popThing (some ⟨go, 0, none⟩) (some ⟨gm, 0, none⟩) wk w k := by
  unfold deque_Op_popThing deque_Op_popThing_b
  refine drew_h h fun w1 h => nn_i (ldA_h (g := go) (o := 4) h (by simp [Dop.cells]) (nn_i (ldI_h (g := go) (o := 2) h rfl (nn_i ?_))))
  refine place_s (r := O.ring) h fun w8 h => ?_
  unfold Dop.f12 at hk
  refine oload_s (off := 13) h (by simp [Dop.cells]) (by simp [Dop.cells]) rfl fun w10 h => ?_
  refine drew_h h fun w11 h => nn_i (ldI_h (g := go) (o := 3) (n := O.t) h rfl (nn_i (ldI_h (g := go) (o := 2) (n := O.b) h rfl ?_)))
  refine iteB_i (fun hb => ?_) fun hb => ?_
  · have hb' : decide (O.t < wr (O.b - 1)) = true := hb
    rw [if_pos hb'] at hk
    exact hk w11 h
  · have hb' : decide (O.t < wr (O.b - 1)) = false := hb
    rw [if_neg (by rw [hb']; simp)] at hk
    exact hk w11 h
theorem p13 (h : St w0 w (blk go (O.cells p) :: mach gm M :: R)) (hk : opB w0 go gm p R k (O.f13 M wk)) : deque_Op_popLast (some ⟨go, 0, none⟩) (some ⟨gm, 0, none⟩) wk w k := by
  unfold deque_Op_popLast deque_Op_popLast_b
  refine drew_h h fun w1 h => nn_i (ldA_h (g := go) (o := 0) h (by simp [Dop.cells]) (nn_i (ldI_h (g := go) (o := 3) h rfl (nn_i (ldI_h (g := go) (o := 3) h rfl ?_)))))
  have h1 := h
  refine top_s (most := O.most) h fun w9 h => samec_h (g := go) h1 h (samec_h (g := go) h1 h ?_)
  refine cas_r (gm := gm) (M := M) h fun w11 h => nn_i (stC_h (g := go) (o := 7) h rfl (by simp [Dop.cells]) fun w13 h => nn_i (stC_h (g := go) (o := 11) h rfl (by simp [Dop.cells]) fun w15 h => hk w15 h))
theorem p14 (h : St w0 w (blk go (O.cells p) :: mach gm M :: R)) (hk : opB w0 go gm p R k (O.f14 M wk)) : deque_Op_popBack (some ⟨go, 0, none⟩) (some ⟨gm, 0, none⟩) wk w k := by
  unfold deque_Op_popBack deque_Op_popBack_b
  refine nn_i (ldB_h (g := go) (o := 7) (n := O.won) h rfl ?_)
  unfold Dop.f14 at hk
  refine iteB_i (fun hb => ?_) fun hb => ?_
  · rw [if_pos hb] at hk
    refine drew_h h fun w1 h => nn_i (ldA_h (g := go) (o := 0) h (by simp [Dop.cells]) (nn_i (ldI_h (g := go) (o := 2) h rfl ?_)))
    have h1 := h
    refine bottom_s (most := O.most) h fun w7 h => samec_h (g := go) h1 h ?_
    exact store_r (gm := gm) (M := M) h fun w9 h => hk w9 h
  · rw [if_neg (by rw [hb]; simp)] at hk
    refine drew_h h fun w1 h => nn_i (ldA_h (g := go) (o := 0) h (by simp [Dop.cells]) (nn_i (ldI_h (g := go) (o := 2) h rfl ?_)))
    have h1 := h
    refine bottom_s (most := O.most) h fun w7 h => samec_h (g := go) h1 h ?_
    exact store_r (gm := gm) (M := M) h fun w9 h => hk w9 h
theorem p15 (h : St w0 w (blk go (O.cells p) :: mach gm M :: R)) (hk : opB w0 go gm p R k (O.f15 M wk)) : deque_Op_stealTop (some ⟨go, 0, none⟩) (some ⟨gm, 0, none⟩) wk w k := by
  unfold deque_Op_stealTop deque_Op_stealTop_b
  refine drew_h h fun w1 h => nn_i (ldA_h (g := go) (o := 0) h (by simp [Dop.cells]) (nn_i ?_))
  refine top_s (most := O.most) h fun w6 h => ?_
  exact oload_s (off := 3) h (by simp [Dop.cells]) (by simp [Dop.cells]) rfl fun w8 h => hk w8 h
theorem p16 (h : St w0 w (blk go (O.cells p) :: mach gm M :: R)) (hk : opB w0 go gm p R k (O.f16 M wk)) : deque_Op_stealBottom (some ⟨go, 0, none⟩) (some ⟨gm, 0, none⟩) wk w k := by
  unfold deque_Op_stealBottom deque_Op_stealBottom_b
  refine drew_h h fun w1 h => nn_i (ldA_h (g := go) (o := 0) h (by simp [Dop.cells]) (nn_i ?_))
  refine bottom_s (most := O.most) h fun w6 h => ?_
  unfold Dop.f16 at hk
  refine oload_s (off := 2) h (by simp [Dop.cells]) (by simp [Dop.cells]) rfl fun w8 h => ?_
  refine drew_h h fun w9 h => nn_i (ldI_h (g := go) (o := 3) (n := O.t) h rfl (nn_i (ldI_h (g := go) (o := 2) (n := (M.ld wk 1).2.1) h rfl ?_)))
  refine iteB_i (fun hb => ?_) fun hb => ?_
  · rw [if_pos hb] at hk; exact hk w9 h
  · rw [if_neg (by rw [hb]; simp)] at hk; exact hk w9 h
theorem p17 (h : St w0 w (blk go (O.cells p) :: mach gm M :: R)) (hk : opB w0 go gm p R k (O.f17 M wk)) : deque_Op_stealRing (some ⟨go, 0, none⟩) (some ⟨gm, 0, none⟩) wk w k := by
  unfold deque_Op_stealRing deque_Op_stealRing_b
  refine nn_i (stC_h (g := go) (o := 11) h rfl (by simp [Dop.cells]) fun w2 h => ?_)
  have h : St w0 w2 (blk go (Dop.cells { O with next := 18 } p) :: mach gm M :: R) := h
  exact read_s h fun w4 h => hk w4 h
theorem p18 (h : St w0 w (blk go (O.cells p) :: mach gm M :: R)) (hk : opB w0 go gm p R k (O.f18 M wk)) : deque_Op_stealThing (some ⟨go, 0, none⟩) (some ⟨gm, 0, none⟩) wk w k := by
  unfold deque_Op_stealThing deque_Op_stealThing_b
  refine drew_h h fun w1 h => nn_i (ldA_h (g := go) (o := 4) h (by simp [Dop.cells]) (nn_i (ldI_h (g := go) (o := 3) h rfl (nn_i ?_))))
  refine place_s (r := O.ring) h fun w8 h => ?_
  exact oload_s (off := 13) h (by simp [Dop.cells]) (by simp [Dop.cells]) rfl fun w10 h => hk w10 h
theorem p19 (h : St w0 w (blk go (O.cells p) :: mach gm M :: R)) (hk : opB w0 go gm p R k (O.f19 M wk)) : deque_Op_stealDone (some ⟨go, 0, none⟩) (some ⟨gm, 0, none⟩) wk w k := by
  unfold deque_Op_stealDone deque_Op_stealDone_b
  refine drew_h h fun w1 h => nn_i (ldA_h (g := go) (o := 0) h (by simp [Dop.cells]) (nn_i (ldI_h (g := go) (o := 3) h rfl (nn_i (ldI_h (g := go) (o := 3) h rfl ?_)))))
  have h1 := h
  refine top_s (most := O.most) h fun w9 h => samec_h (g := go) h1 h (samec_h (g := go) h1 h ?_)
  unfold Dop.f19 at hk
  refine cas_r (gm := gm) (M := M) h fun w11 h => ?_
  refine iteB_i (fun hb => ?_) fun hb => ?_
  · have hb' : (!(M.cas wk 0 O.t (wr (O.t + 1))).2.1) = true := hb
    rw [if_pos hb'] at hk; exact hk w11 h
  · have hb' : (!(M.cas wk 0 O.t (wr (O.t + 1))).2.1) = false := hb
    rw [if_neg (by rw [hb']; simp)] at hk; exact hk w11 h
end
end Go.Proofs.Ytheallacpidcmaa
