/-
  The law's helpers: same, awake, when, do.
-/
import Derived.Test.YtheallacpidcmaaKe
set_option linter.unusedSimpArgs false
set_option linter.unusedVariables false
set_option maxRecDepth 100000
namespace Go.Proofs.Ytheallacpidcmaa
open Go Go.Ev Go.Proofs
section
variable {w0 w : World} {L : List HP}
theorem getD_ext {xs ys : List Int} (hl : xs.length = ys.length) (h : ∀ i, i < xs.length → xs.getD i 0 = ys.getD i 0) : xs = ys := by
  refine List.ext_getElem hl fun i h1 h2 => ?_
  have := h i h1
  rw [List.getD_eq_getElem?_getD, List.getD_eq_getElem?_getD, List.getElem?_eq_getElem h1, List.getElem?_eq_getElem h2] at this
  exact this
theorem same_s {a b : Sl} {xs ys : List Int} {f f' : HP → List HP} {c : Bool → World → Prop} (hl : xs.length ≤ 1000000) (h : St w0 w L) [a1 : At L (slc 1 a) (ints xs) f] [a2 : At L (slc 1 b) (ints ys) f'] (hc : ∀ w', St w0 w' L → c (decide (xs = ys)) w') : pelotonlaw13_same a b w c := by
  have na : a.n = xs.length := by have := h.slen (sz := 1) (s := a) (vs := ints xs); simp at this; omega
  have nb : b.n = ys.length := by have := h.slen (sz := 1) (s := b) (vs := ints ys); simp at this; omega
  unfold pelotonlaw13_same
  refine iteB_i (fun hb => ?_) fun hb => ?_
  · have hb : a.n ≠ b.n := by intro q; rw [q] at hb; simp at hb
    have := hc w h
    rwa [decide_eq_false (by rintro rfl; omega)] at this
  · have hb : a.n = b.n := by simpa [bne, Int.ofNat_inj] using hb
    refine loopP_of (fun (i : Int) w' => ∃ j : Nat, i = (j : Int) ∧ j ≤ xs.length ∧ (∀ k, k < j → xs.getD k 0 = ys.getD k 0) ∧ St w0 w' L) (fun i _ => xs.length - i.toNat) ⟨0, rfl, by omega, fun k hk => by omega, h⟩ ?_
    rintro _ w1 ⟨j, rfl, hj, he, h⟩ C hC
    refine iteB_i (fun hb2 => ?_) fun hb2 => ?_
    · have hb2 := of_decide_eq_true hb2
      refine drew_h h fun w2 h => ?_
      refine ixI_h (s := a) (xs := xs) h (by omega) (by omega) ?_
      refine ixI_h (s := b) (xs := ys) h (by omega) (by omega) ?_
      simp only [Int.toNat_natCast]
      refine iteB_i (fun hb3 => ?_) fun hb3 => ?_
      · have hb3 : xs.getD j 0 ≠ ys.getD j 0 := by simpa [bne_iff_ne] using hb3
        have := hc w2 h
        rwa [decide_eq_false (by rintro rfl; exact hb3 rfl)] at this
      · have hb3 : xs.getD j 0 = ys.getD j 0 := by
          have := hb3; simp only [bne, Bool.not_eq_false', beq_iff_eq] at this; exact this
        have e : IntKind.wrap .i64 ((j : Int) + 1) = ((j + 1 : Nat) : Int) := by
          rw [wrap_id ⟨by omega, by omega⟩]; omega
        rw [e]
        refine hC _ _ ⟨j + 1, rfl, by omega, fun k hk => ?_, h⟩ (by simp only [Int.toNat_natCast]; omega)
        by_cases q : k = j
        · subst q; exact hb3
        · exact he k (by omega)
    · have hb2 := of_decide_eq_false hb2
      have := hc w1 h
      rwa [decide_eq_true (getD_ext (by omega) fun i hi => he i (by omega))] at this
theorem awake13_s {k : Bool → World → Prop} (h : St w0 w L) (hk : ∀ w', St w0 w' L → k true w') : pelotonlaw13_awake w k := by
  have e1 : setF (0, []) 4 10 = (0, [(10, 4)]) := rfl
  have e2 : setF (0, [(10, 4)]) 2 10 = (0, [(10, 2), (10, 4)]) := rfl
  have e3 : setF (0, [(10, 2), (10, 4)]) 9 3 = (0, [(3, 9), (10, 2), (10, 4)]) := rfl
  have e4 : setF (2, [(3, 9), (10, 2), (10, 4)]) 1 8 = (0, [(3, 9), (10, 1), (10, 2), (10, 4)]) := rfl
  have c1 := CK.new.set 4 10
  rw [e1] at c1
  have c2 := c1.set 2 10
  dsimp only at c2; rw [e2] at c2
  have c3 := c2.set 9 3
  dsimp only at c3; rw [e3] at c3
  have c4 := c3.adv (n := 2) rfl
  have c5 := CK.set (x := (2, [(3, 9), (10, 2), (10, 4)])) c4 1 8
  dsimp only at c5; rw [e4] at c5
  unfold pelotonlaw13_awake pelotonlaw13_awake_b
  refine new_s h fun g w1 h => ?_
  refine joinP_i (fun b w' => b = false ∧ St w0 w' (clk g (0, [(3, 9), (10, 2), (10, 4)]) :: L)) (fun J hJ => ?_) ?_
  · refine set_s (by simp) CK.new h fun w2 h => ?_
    rw [e1] at h ⊢
    refine iteB_f rfl ?_
    refine set_s (by simp) c1 h fun w3 h => ?_
    rw [e2] at h ⊢
    refine iteB_f rfl ?_
    refine set_s (by simp) c2 h fun w4 h => ?_
    rw [e3] at h ⊢
    exact hJ _ _ ⟨rfl, h⟩
  rintro _ w2 ⟨rfl, h⟩
  refine iteB_f rfl ?_
  refine next_s c3.srt h fun w3 h => ?_
  refine adv_s (by simp) c3 h (fun _ s1 w4 h => ?_) fun hn => by cases hn
  have h : St w0 w4 (slc 1 s1 (ints []) :: clk g (2, [(3, 9), (10, 2), (10, 4)]) :: L) := h
  have n1 : s1.n = 0 := by have := h.slen (sz := 1) (s := s1) (vs := ints []); simp [ints] at this; omega
  refine joinP_i (fun b w' => b = false ∧ St w0 w' (slc 1 s1 (ints []) :: clk g (2, [(3, 9), (10, 1), (10, 2), (10, 4)]) :: L)) (fun J hJ => ?_) ?_
  · refine iteB_f (by rw [n1]; rfl) ?_
    refine set_s (by decide) c4 h fun w5 h => ?_
    have e5 : setF (0 + 2, leftL [(3, 9), (10, 2), (10, 4)] (0 + 2)) 1 8 = (0, [(3, 9), (10, 1), (10, 2), (10, 4)]) := rfl
    rw [e5]
    exact hJ _ _ ⟨rfl, h⟩
  rintro _ w5 ⟨rfl, h⟩
  refine iteB_f rfl ?_
  refine adv_s (by simp) c5 h (fun _ s2 w6 h => ?_) fun hn => by cases hn
  have h : St w0 w6 (slc 1 s2 (ints [9, 1, 2, 4]) :: slc 1 s1 (ints []) :: clk g (10, []) :: L) := h
  refine iteB_t rfl ?_
  refine newC_h h fun ga w7 h => ?_
  have h := St.asS (sz := 1) (g := ga) (n := 4) (cs := ints [9, 1, 2, 4]) h rfl (by omega) (by intro v hv; simp [ints] at hv; rcases hv with rfl | rfl | rfl | rfl <;> rfl)
  refine same_s (a := s2) (b := ⟨some ⟨ga, 0, none⟩, 4, 4⟩) (xs := [9, 1, 2, 4]) (ys := [9, 1, 2, 4]) (by simp) h fun w8 h => ?_
  refine iteB_t rfl ?_
  refine now_s (g := g) h ?_
  refine iteB_t rfl ?_
  refine len_s (g := g) h ?_
  exact hk _ h.drop.drop.drop.drop
/-- what an act does: the clock behind it, what came, whether one was there, the error -/
def doF (x : Int × DL) (a : Int × Int × Int) : (Int × DL) × List Int × Bool × Int :=
  if a.1 = 0 then ((x.1, (setF x a.2.1 a.2.2).2), [], false, (setF x a.2.1 a.2.2).1)
  else if a.1 = 1 then ((x.1, dropL x.2 a.2.1), [], has x.2 a.2.1, 0)
  else if a.1 = 2 then (if advOK x.1 a.2.2 = true then ((x.1 + a.2.2, leftL x.2 (x.1 + a.2.2)), ids (cameL x.2 (x.1 + a.2.2)), false, 0) else (x, [], false, 10))
  else (x, [], false, 0)
theorem CK.act {x : Int × DL} (h : CK x) (a : Int × Int × Int) : CK (doF x a).1 := by
  unfold doF
  split
  · exact h.set _ _
  · split
    · exact h.drop _
    · split
      · split
        · rename_i q; exact h.adv q
        · exact h
      · exact h
theorem len_act (x : Int × DL) (a : Int × Int × Int) : (doF x a).1.2.length ≤ x.2.length + 1 := by
  unfold doF
  split
  · exact len_set _ _ _
  · split
    · have := len_drop x.2 a.2.1; dsimp only; omega
    · split
      · split
        · have := len_left x.2 (x.1 + a.2.2); dsimp only; omega
        · dsimp only; omega
      · dsimp only; omega
theorem do_s {g : Nat} {x : Int × DL} {a : Int × Int × Int} {f : HP → List HP} {k : Sl × Bool × Int → World → Prop} (hl : x.2.length ≤ 100000) (hC : CK x) (h : St w0 w L) [at1 : At L (clk g) x f]
    (hk : ∀ s w', St w0 w' (slc 1 s (ints (doF x a).2.1) :: f (clk g (doF x a).1)) → k (s, (doF x a).2.2.1, (doF x a).2.2.2) w') : pelotonlaw13_do (some ⟨g, 0, none⟩) #[.int .i64 a.1, .int .i64 a.2.1, .int .i64 a.2.2] w k := by
  obtain ⟨now, S⟩ := x
  obtain ⟨d, i, n⟩ := a
  unfold pelotonlaw13_do pelotonlaw13_do_b
  refine newC_h h fun ga w1 h => ?_
  refine ldI_h (g := ga) (o := 0) h rfl ?_
  unfold doF at hk
  dsimp only at hk ⊢
  refine iteB_i (fun hb => ?_) fun hb => ?_
  · have hb : d = 0 := by simpa using hb
    rw [if_pos hb] at hk
    refine ldI_h (g := ga) (o := 1) h rfl (ldI_h (g := ga) (o := 2) h rfl ?_)
    refine set_s (now := now) (S := S) hl hC h fun w2 h => ?_
    exact hk _ _ ((h.drop).nilS 1)
  · have hb : d ≠ 0 := by simpa using hb
    rw [if_neg hb] at hk
    refine iteB_i (fun hb => ?_) fun hb => ?_
    · have hb : d = 1 := by simpa using hb
      rw [if_pos hb] at hk
      refine ldI_h (g := ga) (o := 1) h rfl ?_
      refine drop_s (now := now) (S := S) hl hC h fun w2 h => ?_
      exact hk _ _ ((h.drop).nilS 1)
    · have hb : d ≠ 1 := by simpa using hb
      rw [if_neg hb] at hk
      refine iteB_i (fun hb => ?_) fun hb => ?_
      · have hb : d = 2 := by simpa using hb
        rw [if_pos hb] at hk
        refine ldI_h (g := ga) (o := 2) h rfl ?_
        refine adv_s (now := now) (S := S) hl hC h (fun hok s w2 h => ?_) fun hno h => ?_
        · rw [if_pos hok] at hk
          exact hk _ _ h.swap.drop
        · rw [if_neg (by simp [hno])] at hk
          exact hk _ _ ((h.drop.same at1).nilS 1)
      · have hb : d ≠ 2 := by simpa using hb
        rw [if_neg hb] at hk
        exact hk _ _ ((h.drop.same at1).nilS 1)
end
end Go.Proofs.Ytheallacpidcmaa
