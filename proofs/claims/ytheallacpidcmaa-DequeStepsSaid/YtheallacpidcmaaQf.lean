/-
  Layer 10: the chapter's example.
-/
import Derived.Test.YtheallacpidcmaaQe
set_option linter.unusedSimpArgs false
set_option linter.unusedVariables false
set_option maxRecDepth 100000
namespace Go.Proofs.Ytheallacpidcmaa
open Go Go.Ev Go.Proofs

def aw0 : Mac := (Mac.new 16 2).began 2 0
def aw1 : Dop × Mac := takesF 1 5 (Dop.beg 1 5 0) aw0
def aw2 : Dop × Mac := takesF 1 9 (Dop.beg 1 6 0) aw1.2
def aw3 : Dop × Mac := takesF 1 3 (Dop.beg 1 7 0) aw2.2
def aw4 : Dop × Mac := takesF 1 4 (Dop.beg 1 0 15) aw3.2
def aw5 : Dop × Mac := aw4.1.step aw4.2 1
theorem aw1h : takesB 1 5 (Dop.beg 1 5 0) aw0 = true ∧ aw1.1.how = 1 := ⟨by kernel_rfl, by kernel_rfl⟩
theorem aw2h : takesB 1 9 (Dop.beg 1 6 0) aw1.2 = true ∧ aw2.1.how = 1 := ⟨by kernel_rfl, by kernel_rfl⟩
theorem aw3h : takesB 1 3 (Dop.beg 1 7 0) aw2.2 = true ∧ aw3.1.how = 4 := ⟨by kernel_rfl, by kernel_rfl⟩
theorem aw4h : takesB 1 4 (Dop.beg 1 0 15) aw3.2 = true ∧ aw4.1.how = 2 ∧ aw4.1.tell = 5 ∧ aw4.1.fineB = true ∧ aw4.2.okB = true := ⟨by kernel_rfl, by kernel_rfl, by kernel_rfl, by kernel_rfl, by kernel_rfl⟩
theorem aw5h : aw5.1.how = 1 ∧ aw5.1.tell = 5 ∧ decide (InI (aw5.2.peek 0)) = true ∧ decide (InI (aw5.2.peek 1)) = true ∧ aw5.2.list = [6] := ⟨by kernel_rfl, by kernel_rfl, by kernel_rfl, by kernel_rfl, by kernel_rfl⟩

theorem steals_s {w0 w : World} {L : List HP} {gm : Nat} {k : Bool → World → Prop} (h : St w0 w (mach gm aw3.2 :: L)) (hk : ∀ w', St w0 w' [] → k true w') : pelotonlaw10_steals (some ⟨gm, 0, none⟩) #[.int .i64 0, .int .i64 1] w k := by
  unfold pelotonlaw10_steals pelotonlaw10_steals_b
  refine newC_h h fun g1 w2 h => ldW_h (g := g1) h rfl ?_
  have h : St w0 w2 [mach gm aw3.2, blk g1 [.int .i64 0, .int .i64 1]] := by
    obtain ⟨e, F, hs, hF⟩ := h
    have h : St w0 w2 (blk g1 [.int .i64 0, .int .i64 1] :: mach gm aw3.2 :: L) := ⟨e, F, hs, hF⟩
    have h3 : St w0 w2 (L ++ [mach gm aw3.2, blk g1 [.int .i64 0, .int .i64 1]]) := h.perm (by
      refine List.Perm.trans (List.Perm.swap _ _ _) ?_
      exact (List.perm_append_comm (l₁ := [mach gm aw3.2, blk g1 [.int .i64 0, .int .i64 1]]) (l₂ := L)))
    have dropA : ∀ (A B : List HP), St w0 w2 (A ++ B) → St w0 w2 B := by
      intro A
      induction A with
      | nil => intro B h; exact h
      | cons X A ih => intro B h; exact ih B h.drop
    exact dropA L _ h3
  refine steal_s (most := 1) h fun go w5 h => ?_
  have h : St w0 w5 [opP go (Dop.beg 1 0 15), mach gm aw3.2, blk g1 [.int .i64 0, .int .i64 1]] := h
  refine joinP_i (fun b w' => b = false ∧ St w0 w' [opP go aw5.1, mach gm aw5.2, blk g1 [.int .i64 0, .int .i64 1]]) (fun J hJ => ?_) ?_
  · refine takes_s (n := 4) h aw4h.1 (by omega) fun w8 h => ?_
    have h : St w0 w8 [opP go aw4.1, mach gm aw4.2, blk g1 [.int .i64 0, .int .i64 1]] := h
    refine iteB_f (by have := aw4h.2.1; unfold aw4 at this; rw [this]; rfl) ?_
    refine got_s (go := go) (O := aw4.1) h (iteB_f (by rw [aw4h.2.2.1]; rfl) ?_)
    refine step_r h (fineB_ok aw4h.2.2.2.1) (okB_ok aw4h.2.2.2.2) fun w12 h => ?_
    have h : St w0 w12 [opP go aw5.1, mach gm aw5.2, blk g1 [.int .i64 0, .int .i64 1]] := h
    refine iteB_f (by have := aw5h.1; unfold aw5 at this; rw [this]; rfl) ?_
    refine got_s (go := go) (O := aw5.1) h (hJ _ _ ⟨by rw [aw5h.2.1]; rfl, h⟩)
  rintro b w16 ⟨rfl, h⟩
  refine iteB_f rfl (ldW_h (g := g1) h rfl ?_)
  have h := h.drop
  refine list_s (most := 1) (M := aw5.2) h (of_decide_eq_true aw5h.2.2.1) (of_decide_eq_true aw5h.2.2.2.1) fun s18 w19 h => ?_
  rw [aw5h.2.2.2.2] at h
  have n18 : s18.n = 1 := by have := h.slen (sz := 1) (s := s18) (vs := ints [6]); simpa [ints] using this.symm
  refine iteB_t (by rw [n18]; rfl) (ixI_h (s := s18) (xs := [6]) h (by omega) (by simp) ?_)
  exact hk w19 h.all
theorem awake_s {w0 w : World} {L : List HP} {k : Bool → World → Prop} (h : St w0 w L) (hk : ∀ w', St w0 w' [] → k true w') : pelotonlaw10_awake w k := by
  unfold pelotonlaw10_awake pelotonlaw10_awake_b
  refine cnew_s (size := 16) (wks := 2) h.all (fun _ gm w2 h => ?_) fun hn => by cases hn
  refine dnew_s (wk := 2) (log := 0) (most := 1) h ⟨⟨by decide, by decide⟩, by decide⟩ rfl rfl (fun _ _ w4 h => ?_) (fun _ hr => by cases hr) fun hl => by cases hl
  have h : St w0 w4 [mach gm aw0] := h
  refine newC_h h fun g5 w6 h => stW_h (g := g5) h rfl rfl (by intro v hv; simp at hv; rcases hv with rfl | rfl <;> rfl) fun w7 h => ?_
  have h : St w0 w7 [blk g5 (ints [0, 1]), mach gm aw0] := h
  refine joinP_i (fun b w' => b = false ∧ w' = w7) (fun J hJ => ?_) ?_
  · refine iteB_f rfl (ldW_h (g := g5) h rfl ?_)
    refine eqA_I (n := 2) (xs := [0, 1]) (ys := [0, 1]) rfl rfl (iteB_f rfl (used_s (g := gm) (M := aw0) h (hJ _ _ ⟨rfl, rfl⟩)))
  rintro b w14 ⟨rfl, rfl⟩
  refine iteB_f rfl (ldW_h (g := g5) h rfl ?_)
  have h : St w0 w14 [mach gm aw0, blk g5 (ints [0, 1])] := h.swap
  refine push_s (most := 1) (x := 5) h fun go w17 h => takes_s (n := 5) h aw1h.1 (by omega) fun w19 h => ?_
  have h : St w0 w19 [opP go aw1.1, mach gm aw1.2, blk g5 (ints [0, 1])] := h
  refine iteB_t (by have := aw1h.2; unfold aw1 at this; rw [this]; rfl) (ldW_h (g := g5) h rfl ?_)
  refine push_s (most := 1) (x := 6) h.drop fun go w17 h => takes_s (n := 9) h aw2h.1 (by omega) fun w19 h => ?_
  have h : St w0 w19 [opP go aw2.1, mach gm aw2.2, blk g5 (ints [0, 1])] := h
  refine iteB_t (by have := aw2h.2; unfold aw2 at this; rw [this]; rfl) (ldW_h (g := g5) h rfl ?_)
  refine push_s (most := 1) (x := 7) h.drop fun go w17 h => takes_s (n := 3) h aw3h.1 (by omega) fun w19 h => ?_
  have h : St w0 w19 [opP go aw3.1, mach gm aw3.2, blk g5 (ints [0, 1])] := h
  refine iteB_t (by have := aw3h.2; unfold aw3 at this; rw [this]; rfl) (ldW_h (g := g5) h rfl ?_)
  exact steals_s h.drop hk
end Go.Proofs.Ytheallacpidcmaa
