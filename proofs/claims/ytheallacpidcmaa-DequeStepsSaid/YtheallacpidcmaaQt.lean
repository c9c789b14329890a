/-
  Layer 10: the document's operations, step by step.
-/
import Derived.Test.YtheallacpidcmaaQs
import Derived.Test.YtheallacpidcmaaQm
set_option linter.unusedSimpArgs false
set_option linter.unusedVariables false
set_option maxRecDepth 100000
namespace Go.Proofs.Ytheallacpidcmaa
open Go Go.Ev Go.Proofs

/-- an operation of the document's -/
structure Rop where
  most : Int
  kd : Int
  X : Int
  nx : Int
  b : Int
  t : Int
  ring : Rg
  to : Rg
  p : Option Addr
  won : Bool
  how : Int
  got : Int
  err : Int
def Rop.cells (r : Rop) : List Value := [.int .i64 0, .int .i64 r.most, .int .i64 r.kd, .int .i64 r.X, .int .i64 r.nx, .int .i64 r.b, .int .i64 r.t, .int .i64 r.ring.At, .int .i64 r.ring.Log, .int .i64 r.to.At, .int .i64 r.to.Log, .pointer r.p, .bool r.won, .int .i64 r.how, .int .i64 r.got, .int .i64 r.err]
/-- its cells, opened -/
abbrev rmO (gc : Nat) (s : Sl) (xs : List Int) (size did : Int) (L : List HP) : List HP := blk gc [.slice s.a s.n s.c, .int .i64 size, .int .i64 did] :: slc 1 s (ints xs) :: L
theorem ldSs {w0 w : World} {L : List HP} {g o : Nat} {cs : List Value} {f : HP → List HP} {s : Sl} {c : Sl → Prop} (h : St w0 w L) [a : At L (Ev.blk g) cs f] (hv : cs[o]? = some (.slice s.a s.n s.c)) (hc : c s) : ldS w ⟨g, o, none⟩ c := ldS_h h hv hc
theorem w01 : IntKind.wrap .i64 (0 + 1) = 1 := by decide
theorem w02 : IntKind.wrap .i64 (0 + 2) = 2 := by decide
theorem word_in {R : Rg} (h : R.right = true) : InI R.word := by
  have := Rg.right_out h
  unfold Rg.word
  rw [if_pos h]
  exact ⟨by omega, by omega⟩
section
variable {w0 w : World} {L : List HP} {gr gc : Nat} {s : Sl} {xs : List Int} {size did : Int} {r : Rop} {R : Rg} {k : Unit → World → Prop}
theorem rbroke {e : Int} (h : St w0 w (blk gr r.cells :: L)) (hk : ∀ w', St w0 w' (blk gr ({ r with how := 6, err := e, got := 0 } : Rop).cells :: L) → k () w') : pelotonref10_Op_broke (some ⟨gr, 0, none⟩) e w k := by
  unfold pelotonref10_Op_broke
  refine nn_i (stC_h (g := gr) (o := 13) h rfl (by simp [Rop.cells]) fun w1 h => nn_i (stC_h (g := gr) (o := 15) h rfl (by simp [Rop.cells]) fun w2 h => nn_i (stC_h (g := gr) (o := 14) h rfl (by simp [Rop.cells]) fun w3 h => hk w3 h)))
theorem rp1 (h : St w0 w (blk gr r.cells :: rmO gc s xs size did L)) (hn : r.nx = 1) (hl : 3 ≤ xs.length) (hk : ∀ w', St w0 w' (blk gr ({ r with b := xs.getD 1 0, nx := 2 } : Rop).cells :: rmO gc s xs size did L) → k () w') : pelotonref10_Op_push (some ⟨gr, 0, none⟩) (some ⟨gc, 0, none⟩) w k := by
  unfold pelotonref10_Op_push pelotonref10_Op_push_b
  refine nn_i (ldI_h (g := gr) (o := 0) (n := 0) h rfl (nn_i (ldI_h (g := gr) (o := 4) (n := r.nx) h rfl ?_)))
  rw [hn, w01]
  refine iteB_t rfl (nn_i (ldSs (s := s) (g := gc) (o := 0) h rfl (ixI_h (s := s) (xs := xs) h (by omega) (by omega) ?_)))
  exact nn_i (stC_h (g := gr) (o := 5) h rfl (by simp [Rop.cells]) fun w1 h => nn_i (stC_h (g := gr) (o := 4) h rfl (by simp [Rop.cells]) fun w2 h => hk w2 h))
theorem rp2 (h : St w0 w (blk gr r.cells :: rmO gc s xs size did L)) (hn : r.nx = 2) (hl : 3 ≤ xs.length) (hk : ∀ w', St w0 w' (blk gr ({ r with t := xs.getD 0 0, nx := 3 } : Rop).cells :: rmO gc s xs size did L) → k () w') : pelotonref10_Op_push (some ⟨gr, 0, none⟩) (some ⟨gc, 0, none⟩) w k := by
  unfold pelotonref10_Op_push pelotonref10_Op_push_b
  refine nn_i (ldI_h (g := gr) (o := 0) (n := 0) h rfl (nn_i (ldI_h (g := gr) (o := 4) (n := r.nx) h rfl ?_)))
  rw [hn]
  refine iteB_f rfl (iteB_t rfl (nn_i (ldSs (s := s) (g := gc) (o := 0) h rfl (ixI_h (s := s) (xs := xs) h (by omega) (by omega) ?_))))
  exact nn_i (stC_h (g := gr) (o := 6) h rfl (by simp [Rop.cells]) fun w1 h => nn_i (stC_h (g := gr) (o := 4) h rfl (by simp [Rop.cells]) fun w2 h => hk w2 h))
theorem rp3 (h : St w0 w (blk gr r.cells :: rmO gc s xs size did L)) (hn : r.nx = 3) (hl : 3 ≤ xs.length) (hR : R.right = true) (hw : xs.getD 2 0 = R.word) (hb : -2000 ≤ r.b - r.t ∧ r.b - r.t ≤ 2000)
    (hk1 : r.b - r.t < R.pw → ∀ w', St w0 w' (blk gr ({ r with ring := R, nx := 7 } : Rop).cells :: rmO gc s xs size did L) → k () w')
    (hk2 : ¬ r.b - r.t < R.pw → R.Log ≥ r.most → ∀ w', St w0 w' (blk gr ({ r with ring := R, nx := 4, how := 4 } : Rop).cells :: rmO gc s xs size did L) → k () w')
    (hk3 : ¬ r.b - r.t < R.pw → ¬ R.Log ≥ r.most → ∀ w', St w0 w' (blk gr ({ r with ring := R, nx := 4 } : Rop).cells :: rmO gc s xs size did L) → k () w') : pelotonref10_Op_push (some ⟨gr, 0, none⟩) (some ⟨gc, 0, none⟩) w k := by
  unfold pelotonref10_Op_push pelotonref10_Op_push_b
  refine nn_i (ldI_h (g := gr) (o := 0) (n := 0) h rfl (nn_i (ldI_h (g := gr) (o := 4) (n := r.nx) h rfl ?_)))
  rw [hn, w02]
  refine iteB_f rfl (iteB_f rfl (iteB_t rfl (nn_i (ldSs (s := s) (g := gc) (o := 0) h rfl (ixI_h (s := s) (xs := xs) h (by omega) (by omega) ?_)))))
  have hx : xs.getD (2 : Int).toNat 0 = R.word := hw
  rw [hx]
  refine rof_s (word_in hR) h fun w26 h => ?_
  rw [of_word hR, if_pos hR]
  refine nn_i (stA_h (g := gr) (o := 7) (n := 2) h rfl (by simp [Rop.cells]) (by intro v hv; simp [Rg.ag] at hv; rcases hv with rfl | rfl <;> rfl) fun w28 h => ?_)
  refine nn_i (stC_h (g := gr) (o := 4) h rfl (by simp [Rop.cells]) fun w30 h => ?_)
  have h : St w0 w30 (blk gr ({ r with ring := R, nx := 4 } : Rop).cells :: rmO gc s xs size did L) := h
  refine drew_h h fun w31 h => ?_
  refine nn_i (ldI_h (g := gr) (o := 5) (n := r.b) h rfl (nn_i (ldI_h (g := gr) (o := 6) (n := r.t) h rfl (nn_i (ldA_h (g := gr) (o := 7) h (by simp [Rop.cells]) ?_)))))
  have h31 := h
  refine rsize_s (r := R) h fun w39 h => ?_
  refine samec_h (g := gr) h31 h (samec_h (g := gr) h31 h ?_)
  have hsz : R.size = R.pw := by unfold Rg.size; rw [if_pos hR]
  have hwr : IntKind.wrap .i64 (r.b - r.t) = r.b - r.t := wr_id hb.1 hb.2
  rw [hwr, hsz]
  refine iteB_i (fun q => ?_) fun q => ?_
  · have q := of_decide_eq_true q
    exact nn_i (stC_h (g := gr) (o := 4) h rfl (by simp [Rop.cells]) fun w41 h => hk1 q w41 h)
  · have q := of_decide_eq_false q
    refine drew_h h fun w42 h => nn_i (ldI_h (g := gr) (o := 8) (n := R.Log) h rfl (nn_i (ldI_h (g := gr) (o := 1) (n := r.most) h rfl (iteB_i (fun q2 => ?_) fun q2 => ?_))))
    · exact nn_i (stC_h (g := gr) (o := 13) h rfl (by simp [Rop.cells]) fun w41 h => hk2 q (of_decide_eq_true q2) w41 h)
    · exact hk3 q (of_decide_eq_false q2) w42 h
theorem rp4 (h : St w0 w (blk gr r.cells :: rmO gc s xs size did L)) (hn : r.nx = 4) (hR : r.ring.right = true) (hsz : (xs.length : Int) ≤ size ∧ size ≤ 600) (hd : 1 ≤ did ∧ did ≤ 2000) (hbt : InI r.b ∧ InI r.t)
    (hk1 : 2 * (r.ring.pw : Int) > size - xs.length → ∀ w', St w0 w' (blk gr ({ r with how := 6, err := 21, got := 0 } : Rop).cells :: rmO gc s xs size (did - 1) L) → k () w')
    (hk2 : ¬ 2 * (r.ring.pw : Int) > size - xs.length → begE r.ring ⟨xs.length, r.ring.Log + 1⟩ r.t r.b = 0 → ∀ s' g w', St w0 w' (blk gr ({ r with to := ⟨xs.length, r.ring.Log + 1⟩, p := some ⟨g, 0, none⟩, nx := 5 } : Rop).cells :: rmO gc s' (xs ++ List.replicate (2 * r.ring.pw) 0) size did (rcpy g (Cp.begin r.ring ⟨xs.length, r.ring.Log + 1⟩ r.t r.b) :: L)) → k () w')
    (hE : ¬ 2 * (r.ring.pw : Int) > size - xs.length → begE r.ring ⟨xs.length, r.ring.Log + 1⟩ r.t r.b = 0) : pelotonref10_Op_push (some ⟨gr, 0, none⟩) (some ⟨gc, 0, none⟩) w k := by
  unfold pelotonref10_Op_push pelotonref10_Op_push_b
  refine nn_i (ldI_h (g := gr) (o := 0) (n := 0) h rfl (nn_i (ldI_h (g := gr) (o := 4) (n := r.nx) h rfl ?_)))
  rw [hn]
  have hro := Rg.right_out hR
  have hxl : s.n = xs.length := by have := h.slen (sz := 1) (s := s) (vs := ints xs); simp at this; omega
  refine iteB_f rfl (iteB_f rfl (iteB_f rfl (iteB_t rfl (nn_i (ldA_h (g := gr) (o := 7) h (by simp [Rop.cells]) ?_)))))
  refine rsize_s (r := r.ring) h fun w52 h => ?_
  have hs : r.ring.size = r.ring.pw := by unfold Rg.size; rw [if_pos hR]
  have hw2 : IntKind.wrap .i64 (2 * (r.ring.pw : Int)) = 2 * r.ring.pw := wrap_id ⟨by omega, by omega⟩
  have hws : IntKind.wrap .i64 (size - (xs.length : Int)) = size - xs.length := wrap_id ⟨by omega, by omega⟩
  rw [hs, hw2]
  refine drew_h h fun w53 h => nn_i (ldI_h (g := gc) (o := 1) (n := size) h rfl (nn_i (ldSs (s := s) (g := gc) (o := 0) h rfl ?_)))
  rw [hxl, hws]
  refine iteB_i (fun q => ?_) fun q => ?_
  · have q := of_decide_eq_true q
    refine nn_i (ldI_h (g := gc) (o := 2) (n := did) h rfl (nn_i (stC_h (g := gc) (o := 2) h rfl (by simp) fun w61 h => ?_)))
    have hwd : IntKind.wrap .i64 (did - 1) = did - 1 := wrap_id ⟨by omega, by omega⟩
    rw [hwd] at h
    exact rbroke h fun w62 h => hk1 q w62 h
  · have q := of_decide_eq_false q
    refine drew_h h fun w63 h => nn_i (ldSs (s := s) (g := gc) (o := 0) h rfl (nn_i (ldI_h (g := gr) (o := 8) (n := r.ring.Log) h rfl (nn_i ?_))))
    have hwl : IntKind.wrap .i64 (r.ring.Log + 1) = r.ring.Log + 1 := wrap_id ⟨by omega, by omega⟩
    rw [hwl, hxl]
    refine stA_h (g := gr) (o := 9) (n := 2) h rfl (by simp [Rop.cells]) (by intro v hv; simp at hv; rcases hv with rfl | rfl <;> rfl) fun w69 h => ?_
    have h : St w0 w69 (blk gr ({ r with to := ⟨xs.length, r.ring.Log + 1⟩ } : Rop).cells :: rmO gc s xs size did L) := h
    refine joinP_i (fun (_ : Unit) w' => ∃ s', St w0 w' (blk gr ({ r with to := ⟨xs.length, r.ring.Log + 1⟩ } : Rop).cells :: rmO gc s' (xs ++ List.replicate (2 * r.ring.pw) 0) size did L)) (fun J hJ => ?_) ?_
    · refine loopP_of (fun (i : Int) w' => ∃ (j : Nat) (s' : Sl), i = j ∧ j ≤ 2 * r.ring.pw ∧ St w0 w' (blk gr ({ r with to := ⟨xs.length, r.ring.Log + 1⟩ } : Rop).cells :: rmO gc s' (xs ++ List.replicate j 0) size did L)) (fun i _ => ((2 * r.ring.pw : Int) - i).toNat) ⟨0, s, rfl, by omega, by simpa using h⟩ ?_
      rintro _ w73 ⟨j, s', rfl, hj, h⟩ C hC
      have hl' : s'.n = xs.length + j := by have := h.slen (sz := 1) (s := s') (vs := ints (xs ++ List.replicate j 0)); simp at this; omega
      refine iteB_i (fun hb => ?_) fun hb => ?_
      · have hb := of_decide_eq_true hb
        refine nn_i (ldSs (s := s') (g := gc) (o := 0) h rfl (newC_h h fun gn w77 h => ?_))
        refine bApp_h (s := s') (vs := ints (xs ++ List.replicate j 0)) (x := ⟨some ⟨gn, 0, none⟩, 1, 1⟩) (ys := [.int .i64 0]) h (elI (by kernel_rfl)) (by kernel_rfl) (blk_sls (n := 1) (l := [.int .i64 0]) h.blk rfl 1) (by simp [Value.oneCell']) (by simp only; omega) (by simp only; omega) fun s78 w79 h n78 => ?_
        refine nn_i (stC_h (g := gc) (o := 0) h rfl (by simp) fun w81 h => ?_)
        have hwj : IntKind.wrap .i64 ((j : Int) + 1) = ((j + 1 : Nat) : Int) := by rw [wrap_id ⟨by omega, by omega⟩]; omega
        rw [hwj]
        have e : ints (xs ++ List.replicate j 0) ++ [.int .i64 0] = ints (xs ++ List.replicate (j + 1) 0) := by simp [ints, List.replicate_succ']
        rw [e] at h
        exact hC _ _ ⟨j + 1, s78, rfl, by omega, h.drop⟩ (by omega)
      · have hb := of_decide_eq_false hb
        have : j = 2 * r.ring.pw := by omega
        subst this
        exact hJ _ _ ⟨s', h⟩
    rintro _ w83 ⟨s', h⟩
    refine drew_h h fun w84 h => nn_i (ldA_h (g := gr) (o := 7) h (by simp [Rop.cells]) (nn_i (ldA_h (g := gr) (o := 9) h (by simp [Rop.cells]) (nn_i (ldI_h (g := gr) (o := 6) (n := r.t) h rfl (nn_i (ldI_h (g := gr) (o := 5) (n := r.b) h rfl ?_)))))))
    refine begin_s (a := r.ring) (b := ⟨xs.length, r.ring.Log + 1⟩) (from_ := r.t) (until_ := r.b) hbt.2 hbt.1 h (fun hz g w94 h => ?_) fun hz => (hz (hE q)).elim
    have h : St w0 w94 (blk gr ({ r with to := ⟨xs.length, r.ring.Log + 1⟩ } : Rop).cells :: rmO gc s' (xs ++ List.replicate (2 * r.ring.pw) 0) size did (rcpy g (Cp.begin r.ring ⟨xs.length, r.ring.Log + 1⟩ r.t r.b) :: L)) := h.perm (by repeat' (first | exact List.Perm.refl _ | refine perm_f 0 rfl ?_ | refine perm_f 1 rfl ?_ | refine perm_f 2 rfl ?_ | refine perm_f 3 rfl ?_ | refine perm_f 4 rfl ?_ | refine perm_f 5 rfl ?_ | refine perm_f 6 rfl ?_ | refine perm_f 7 rfl ?_))
    exact nn_i (stC_h (g := gr) (o := 11) h rfl (by simp [Rop.cells]) fun w96 h => nn_i (stC_h (g := gr) (o := 4) h rfl (by simp [Rop.cells]) fun w98 h => hk2 q hz s' g w98 h))
theorem rp5 {c : Cp} {gk : Nat} (h : St w0 w (blk gr r.cells :: rmO gc s xs size did (rcpy gk c :: L))) (hn : r.nx = 5) (hp : r.p = some ⟨gk, 0, none⟩) (ha : c.a.right = true) (hb : c.b.right = true) (hne : c.at_ ≠ c.until_) (hs : 3 ≤ c.spot ∧ c.spot < xs.length)
    (hk1 : c.loaded = true → ∀ w', St w0 w' (blk gr ({ r with nx := if (c.next 0).at_ = c.until_ then 6 else 5 } : Rop).cells :: rmO gc s (xs.set c.spot.toNat c.has) size did (rcpy gk (c.next 0) :: L)) → k () w')
    (hk2 : c.loaded = false → ∀ w', St w0 w' (blk gr r.cells :: rmO gc s xs size did (rcpy gk (c.next (xs.getD c.spot.toNat 0)) :: L)) → k () w') : pelotonref10_Op_push (some ⟨gr, 0, none⟩) (some ⟨gc, 0, none⟩) w k := by
  unfold pelotonref10_Op_push pelotonref10_Op_push_b
  refine nn_i (ldI_h (g := gr) (o := 0) (n := 0) h rfl (nn_i (ldI_h (g := gr) (o := 4) (n := r.nx) h rfl ?_)))
  rw [hn]
  refine iteB_f rfl (iteB_f rfl (iteB_f rfl (iteB_f rfl (iteB_t rfl (drew_h h fun w99 h => nn_i (ldP_h (g := gr) (o := 11) (n := r.p) h rfl (nn_i (ldSs (s := s) (g := gc) (o := 0) h rfl ?_))))))))
  rw [hp]
  have h : St w0 w99 (rcpy gk c :: slc 1 s (ints xs) :: blk gr r.cells :: blk gc [.slice s.a s.n s.c, .int .i64 size, .int .i64 did] :: L) := h.perm (by repeat' (first | exact List.Perm.refl _ | refine perm_f 0 rfl ?_ | refine perm_f 1 rfl ?_ | refine perm_f 2 rfl ?_ | refine perm_f 3 rfl ?_ | refine perm_f 4 rfl ?_ | refine perm_f 5 rfl ?_ | refine perm_f 6 rfl ?_ | refine perm_f 7 rfl ?_))
  refine rstep_s (c := c) (s := s) (xs := xs) (wk := 0) (most := 0) h ha hb (fun q => (hne q).elim) (fun _ q => (q ⟨by omega, by omega, hs.2⟩).elim) (fun _ _ hl w' h => ?_) fun _ _ hl w' h => ?_
  · refine iteB_f rfl (hk2 hl w' ?_)
    exact h.perm (by repeat' (first | exact List.Perm.refl _ | refine perm_f 0 rfl ?_ | refine perm_f 1 rfl ?_ | refine perm_f 2 rfl ?_ | refine perm_f 3 rfl ?_ | refine perm_f 4 rfl ?_ | refine perm_f 5 rfl ?_ | refine perm_f 6 rfl ?_ | refine perm_f 7 rfl ?_))
  · refine iteB_i (fun q => ?_) fun q => ?_
    · have q : (c.next 0).at_ = c.until_ := by simpa using q
      rw [if_pos q] at hk1
      have h : St w0 w' (blk gr r.cells :: rmO gc s (xs.set c.spot.toNat c.has) size did (rcpy gk (c.next 0) :: L)) := h.perm (by repeat' (first | exact List.Perm.refl _ | refine perm_f 0 rfl ?_ | refine perm_f 1 rfl ?_ | refine perm_f 2 rfl ?_ | refine perm_f 3 rfl ?_ | refine perm_f 4 rfl ?_ | refine perm_f 5 rfl ?_ | refine perm_f 6 rfl ?_ | refine perm_f 7 rfl ?_))
      exact nn_i (stC_h (g := gr) (o := 4) h rfl (by simp [Rop.cells]) fun w107 h => hk1 hl w107 h)
    · have q : ¬ (c.next 0).at_ = c.until_ := by simpa using q
      rw [if_neg q] at hk1
      refine hk1 hl w' ?_
      have e : ({ r with nx := 5 } : Rop) = r := by rw [← hn]
      rw [e]
      exact h.perm (by repeat' (first | exact List.Perm.refl _ | refine perm_f 0 rfl ?_ | refine perm_f 1 rfl ?_ | refine perm_f 2 rfl ?_ | refine perm_f 3 rfl ?_ | refine perm_f 4 rfl ?_ | refine perm_f 5 rfl ?_ | refine perm_f 6 rfl ?_ | refine perm_f 7 rfl ?_))
theorem rp6 (h : St w0 w (blk gr r.cells :: rmO gc s xs size did L)) (hn : r.nx = 6) (hl : 3 ≤ xs.length) (hk : ∀ w', St w0 w' (blk gr ({ r with ring := r.to, nx := 7 } : Rop).cells :: rmO gc s (xs.set 2 r.to.word) size did L) → k () w') : pelotonref10_Op_push (some ⟨gr, 0, none⟩) (some ⟨gc, 0, none⟩) w k := by
  unfold pelotonref10_Op_push pelotonref10_Op_push_b
  refine nn_i (ldI_h (g := gr) (o := 0) (n := 0) h rfl (nn_i (ldI_h (g := gr) (o := 4) (n := r.nx) h rfl ?_)))
  rw [hn, w02]
  refine iteB_f rfl (iteB_f rfl (iteB_f rfl (iteB_f rfl (iteB_f rfl (iteB_t rfl (drew_h h fun w108 h => nn_i (ldSs (s := s) (g := gc) (o := 0) h rfl (nn_i (ldA_h (g := gr) (o := 9) h (by simp [Rop.cells]) ?_)))))))))
  have h108 := h
  refine rword_s (r := r.to) h fun w114 h => samec_h (g := gc) h108 h ?_
  refine ixIst_h (s := s) (xs := xs) h (by omega) (by omega) fun w116 h => ?_
  refine nn_i (ldA_h (g := gr) (o := 9) h (by simp [Rop.cells]) (nn_i (stA_h (g := gr) (o := 7) (n := 2) h rfl (by simp [Rop.cells]) (by intro v hv; simp [Rop.cells] at hv; rcases hv with rfl | rfl <;> rfl) fun w120 h => ?_)))
  exact nn_i (stC_h (g := gr) (o := 4) h rfl (by simp [Rop.cells]) fun w122 h => hk w122 h)
theorem rp7 (h : St w0 w (blk gr r.cells :: rmO gc s xs size did L)) (hn : r.nx = 7) (hi : 0 ≤ r.ring.place r.b ∧ r.ring.place r.b < xs.length) (hk : ∀ w', St w0 w' (blk gr ({ r with nx := 8 } : Rop).cells :: rmO gc s (xs.set (r.ring.place r.b).toNat r.X) size did L) → k () w') : pelotonref10_Op_push (some ⟨gr, 0, none⟩) (some ⟨gc, 0, none⟩) w k := by
  unfold pelotonref10_Op_push pelotonref10_Op_push_b
  refine nn_i (ldI_h (g := gr) (o := 0) (n := 0) h rfl (nn_i (ldI_h (g := gr) (o := 4) (n := r.nx) h rfl ?_)))
  rw [hn]
  refine iteB_f rfl (iteB_f rfl (iteB_f rfl (iteB_f rfl (iteB_f rfl (iteB_f rfl (iteB_t rfl (drew_h h fun w123 h => nn_i (ldSs (s := s) (g := gc) (o := 0) h rfl (nn_i (ldA_h (g := gr) (o := 7) h (by simp [Rop.cells]) (nn_i (ldI_h (g := gr) (o := 5) (n := r.b) h rfl (nn_i (ldI_h (g := gr) (o := 3) (n := r.X) h rfl ?_))))))))))))))
  have h123 := h
  refine rplace_s (r := r.ring) h fun w133 h => samec_h (g := gr) h123 h (samec_h (g := gc) h123 h ?_)
  refine ixIst_h (s := s) (xs := xs) h hi.1 hi.2 fun w135 h => ?_
  exact nn_i (stC_h (g := gr) (o := 4) h rfl (by simp [Rop.cells]) fun w137 h => hk w137 h)
theorem rp8 (h : St w0 w (blk gr r.cells :: rmO gc s xs size did L)) (hn : r.nx = 8) (hl : 3 ≤ xs.length) (hb : -1000 ≤ r.b ∧ r.b ≤ 1000) (hk : ∀ w', St w0 w' (blk gr ({ r with how := 1 } : Rop).cells :: rmO gc s (xs.set 1 (r.b + 1)) size did L) → k () w') : pelotonref10_Op_push (some ⟨gr, 0, none⟩) (some ⟨gc, 0, none⟩) w k := by
  unfold pelotonref10_Op_push pelotonref10_Op_push_b
  refine nn_i (ldI_h (g := gr) (o := 0) (n := 0) h rfl (nn_i (ldI_h (g := gr) (o := 4) (n := r.nx) h rfl ?_)))
  rw [hn, w01]
  refine iteB_f rfl (iteB_f rfl (iteB_f rfl (iteB_f rfl (iteB_f rfl (iteB_f rfl (iteB_f rfl (iteB_t rfl (drew_h h fun w138 h => nn_i (ldSs (s := s) (g := gc) (o := 0) h rfl (nn_i (ldI_h (g := gr) (o := 5) (n := r.b) h rfl ?_)))))))))))
  have hwr : IntKind.wrap .i64 (r.b + 1) = r.b + 1 := wr_id (by omega) (by omega)
  rw [hwr]
  refine ixIst_h (s := s) (xs := xs) h (by omega) (by omega) fun w144 h => ?_
  exact nn_i (stC_h (g := gr) (o := 13) h rfl (by simp [Rop.cells]) fun w146 h => hk w146 h)

/-! ### pops -/
theorem ro1 (h : St w0 w (blk gr r.cells :: rmO gc s xs size did L)) (hn : r.nx = 1) (hl : 3 ≤ xs.length) (hk : ∀ w', St w0 w' (blk gr ({ r with b := xs.getD 1 0, nx := 2 } : Rop).cells :: rmO gc s xs size did L) → k () w') : pelotonref10_Op_pop (some ⟨gr, 0, none⟩) (some ⟨gc, 0, none⟩) w k := by
  unfold pelotonref10_Op_pop pelotonref10_Op_pop_b
  refine nn_i (ldI_h (g := gr) (o := 0) (n := 0) h rfl (nn_i (ldI_h (g := gr) (o := 4) (n := r.nx) h rfl ?_)))
  rw [hn, w01]
  refine iteB_t rfl (nn_i (ldSs (s := s) (g := gc) (o := 0) h rfl (ixI_h (s := s) (xs := xs) h (by omega) (by omega) ?_)))
  exact nn_i (stC_h (g := gr) (o := 5) h rfl (by simp [Rop.cells]) fun w1 h => nn_i (stC_h (g := gr) (o := 4) h rfl (by simp [Rop.cells]) fun w2 h => hk w2 h))
theorem ro2 (h : St w0 w (blk gr r.cells :: rmO gc s xs size did L)) (hn : r.nx = 2) (hl : 3 ≤ xs.length) (hR : R.right = true) (hw : xs.getD 2 0 = R.word) (hk : ∀ w', St w0 w' (blk gr ({ r with ring := R, nx := 3 } : Rop).cells :: rmO gc s xs size did L) → k () w') : pelotonref10_Op_pop (some ⟨gr, 0, none⟩) (some ⟨gc, 0, none⟩) w k := by
  unfold pelotonref10_Op_pop pelotonref10_Op_pop_b
  refine nn_i (ldI_h (g := gr) (o := 0) (n := 0) h rfl (nn_i (ldI_h (g := gr) (o := 4) (n := r.nx) h rfl ?_)))
  rw [hn, w02]
  refine iteB_f rfl (iteB_t rfl (nn_i (ldSs (s := s) (g := gc) (o := 0) h rfl (ixI_h (s := s) (xs := xs) h (by omega) (by omega) ?_))))
  have hx : xs.getD (2 : Int).toNat 0 = R.word := hw
  rw [hx]
  refine rof_s (word_in hR) h fun w26 h => ?_
  rw [of_word hR, if_pos hR]
  refine nn_i (stA_h (g := gr) (o := 7) (n := 2) h rfl (by simp [Rop.cells]) (by intro v hv; simp [Rg.ag] at hv; rcases hv with rfl | rfl <;> rfl) fun w28 h => ?_)
  exact nn_i (stC_h (g := gr) (o := 4) h rfl (by simp [Rop.cells]) fun w30 h => hk w30 h)
theorem ro3 (h : St w0 w (blk gr r.cells :: rmO gc s xs size did L)) (hn : r.nx = 3) (hl : 3 ≤ xs.length) (hb : -1000 ≤ r.b ∧ r.b ≤ 1000) (hk : ∀ w', St w0 w' (blk gr ({ r with nx := 4 } : Rop).cells :: rmO gc s (xs.set 1 (r.b - 1)) size did L) → k () w') : pelotonref10_Op_pop (some ⟨gr, 0, none⟩) (some ⟨gc, 0, none⟩) w k := by
  unfold pelotonref10_Op_pop pelotonref10_Op_pop_b
  refine nn_i (ldI_h (g := gr) (o := 0) (n := 0) h rfl (nn_i (ldI_h (g := gr) (o := 4) (n := r.nx) h rfl ?_)))
  rw [hn, w01]
  refine iteB_f rfl (iteB_f rfl (iteB_t rfl (drew_h h fun w23 h => nn_i (ldSs (s := s) (g := gc) (o := 0) h rfl (nn_i (ldI_h (g := gr) (o := 5) (n := r.b) h rfl ?_))))))
  have hwr : IntKind.wrap .i64 (r.b - 1) = r.b - 1 := wr_id (by omega) (by omega)
  rw [hwr]
  refine ixIst_h (s := s) (xs := xs) h (by omega) (by omega) fun w29 h => ?_
  exact nn_i (stC_h (g := gr) (o := 4) h rfl (by simp [Rop.cells]) fun w31 h => hk w31 h)
theorem ro4 (h : St w0 w (blk gr r.cells :: rmO gc s xs size did L)) (hn : r.nx = 4) (hl : 3 ≤ xs.length) (hb : -1000 ≤ r.b ∧ r.b ≤ 1000) (hk : ∀ w', St w0 w' (blk gr ({ r with t := xs.getD 0 0, nx := if xs.getD 0 0 > r.b - 1 then 5 else 6 } : Rop).cells :: rmO gc s xs size did L) → k () w') : pelotonref10_Op_pop (some ⟨gr, 0, none⟩) (some ⟨gc, 0, none⟩) w k := by
  unfold pelotonref10_Op_pop pelotonref10_Op_pop_b
  refine nn_i (ldI_h (g := gr) (o := 0) (n := 0) h rfl (nn_i (ldI_h (g := gr) (o := 4) (n := r.nx) h rfl ?_)))
  rw [hn]
  refine iteB_f rfl (iteB_f rfl (iteB_f rfl (iteB_t rfl (nn_i (ldSs (s := s) (g := gc) (o := 0) h rfl (ixI_h (s := s) (xs := xs) h (by omega) (by omega) ?_))))))
  refine nn_i (stC_h (g := gr) (o := 6) h rfl (by simp [Rop.cells]) fun w37 h => nn_i (stC_h (g := gr) (o := 4) h rfl (by simp [Rop.cells]) fun w39 h => ?_))
  have h : St w0 w39 (blk gr ({ r with t := xs.getD 0 0, nx := 6 } : Rop).cells :: rmO gc s xs size did L) := h
  have hwr : IntKind.wrap .i64 (r.b - 1) = r.b - 1 := wr_id (by omega) (by omega)
  refine drew_h h fun w40 h => nn_i (ldI_h (g := gr) (o := 6) (n := xs.getD 0 0) h rfl (nn_i (ldI_h (g := gr) (o := 5) (n := r.b) h rfl ?_)))
  rw [hwr]
  refine iteB_i (fun q => ?_) fun q => ?_
  · rw [if_pos (of_decide_eq_true q)] at hk
    exact nn_i (stC_h (g := gr) (o := 4) h rfl (by simp [Rop.cells]) fun w46 h => hk w46 h)
  · rw [if_neg (of_decide_eq_false q)] at hk
    exact hk w40 h
theorem ro5 (h : St w0 w (blk gr r.cells :: rmO gc s xs size did L)) (hn : r.nx = 5) (hl : 3 ≤ xs.length) (hk : ∀ w', St w0 w' (blk gr ({ r with how := 3 } : Rop).cells :: rmO gc s (xs.set 1 r.b) size did L) → k () w') : pelotonref10_Op_pop (some ⟨gr, 0, none⟩) (some ⟨gc, 0, none⟩) w k := by
  unfold pelotonref10_Op_pop pelotonref10_Op_pop_b
  refine nn_i (ldI_h (g := gr) (o := 0) (n := 0) h rfl (nn_i (ldI_h (g := gr) (o := 4) (n := r.nx) h rfl ?_)))
  rw [hn, w01]
  refine iteB_f rfl (iteB_f rfl (iteB_f rfl (iteB_f rfl (iteB_t rfl (drew_h h fun w23 h => nn_i (ldSs (s := s) (g := gc) (o := 0) h rfl (nn_i (ldI_h (g := gr) (o := 5) (n := r.b) h rfl ?_))))))))
  refine ixIst_h (s := s) (xs := xs) h (by omega) (by omega) fun w29 h => ?_
  exact nn_i (stC_h (g := gr) (o := 13) h rfl (by simp [Rop.cells]) fun w31 h => hk w31 h)
theorem ro6 (h : St w0 w (blk gr r.cells :: rmO gc s xs size did L)) (hn : r.nx = 6) (hi : 0 ≤ r.ring.place (r.b - 1) ∧ r.ring.place (r.b - 1) < xs.length) (hb : -1000 ≤ r.b ∧ r.b ≤ 1000)
    (hk : ∀ w', St w0 w' (blk gr ({ r with X := xs.getD (r.ring.place (r.b - 1)).toNat 0, nx := 7, how := if r.t < r.b - 1 then 1 else r.how, got := if r.t < r.b - 1 then xs.getD (r.ring.place (r.b - 1)).toNat 0 else r.got } : Rop).cells :: rmO gc s xs size did L) → k () w') : pelotonref10_Op_pop (some ⟨gr, 0, none⟩) (some ⟨gc, 0, none⟩) w k := by
  unfold pelotonref10_Op_pop pelotonref10_Op_pop_b
  refine nn_i (ldI_h (g := gr) (o := 0) (n := 0) h rfl (nn_i (ldI_h (g := gr) (o := 4) (n := r.nx) h rfl ?_)))
  have hwr : IntKind.wrap .i64 (r.b - 1) = r.b - 1 := wr_id (by omega) (by omega)
  rw [hn]
  refine iteB_f rfl (iteB_f rfl (iteB_f rfl (iteB_f rfl (iteB_f rfl (iteB_t rfl (drew_h h fun w56 h => nn_i (ldSs (s := s) (g := gc) (o := 0) h rfl (nn_i (ldA_h (g := gr) (o := 7) h (by simp [Rop.cells]) (nn_i (ldI_h (g := gr) (o := 5) (n := r.b) h rfl ?_)))))))))))
  rw [hwr]
  have h56 := h
  refine rplace_s (r := r.ring) h fun w64 h => samec_h (g := gc) h56 h ?_
  refine ixI_h (s := s) (xs := xs) h hi.1 hi.2 ?_
  generalize xs.getD (r.ring.place (r.b - 1)).toNat 0 = y at *
  refine nn_i (stC_h (g := gr) (o := 3) h rfl (by simp [Rop.cells]) fun w68 h => nn_i (stC_h (g := gr) (o := 4) h rfl (by simp [Rop.cells]) fun w70 h => ?_))
  have h : St w0 w70 (blk gr ({ r with X := y, nx := 7 } : Rop).cells :: rmO gc s xs size did L) := h
  refine drew_h h fun w71 h => nn_i (ldI_h (g := gr) (o := 6) (n := r.t) h rfl (nn_i (ldI_h (g := gr) (o := 5) (n := r.b) h rfl ?_)))
  rw [hwr]
  refine iteB_i (fun q => ?_) fun q => ?_
  · have q := of_decide_eq_true q
    rw [if_pos q, if_pos q] at hk
    refine nn_i (stC_h (g := gr) (o := 13) h rfl (by simp [Rop.cells]) fun w77 h => nn_i (ldI_h (g := gr) (o := 3) (n := y) h rfl (nn_i (stC_h (g := gr) (o := 14) h rfl (by simp [Rop.cells]) fun w81 h => hk w81 h))))
  · have q := of_decide_eq_false q
    rw [if_neg q, if_neg q] at hk
    exact hk w71 h
theorem ro7 (h : St w0 w (blk gr r.cells :: rmO gc s xs size did L)) (hn : r.nx = 7) (hl : 3 ≤ xs.length) (ht : -1000 ≤ r.t ∧ r.t ≤ 1000)
    (hk1 : xs.getD 0 0 = r.t → ∀ w', St w0 w' (blk gr ({ r with won := true, nx := 8 } : Rop).cells :: rmO gc s (xs.set 0 (r.t + 1)) size did L) → k () w')
    (hk2 : ¬ xs.getD 0 0 = r.t → ∀ w', St w0 w' (blk gr ({ r with nx := 8 } : Rop).cells :: rmO gc s xs size did L) → k () w') : pelotonref10_Op_pop (some ⟨gr, 0, none⟩) (some ⟨gc, 0, none⟩) w k := by
  unfold pelotonref10_Op_pop pelotonref10_Op_pop_b
  refine nn_i (ldI_h (g := gr) (o := 0) (n := 0) h rfl (nn_i (ldI_h (g := gr) (o := 4) (n := r.nx) h rfl ?_)))
  have hwr : IntKind.wrap .i64 (r.t + 1) = r.t + 1 := wr_id (by omega) (by omega)
  rw [hn]
  refine iteB_f rfl (iteB_f rfl (iteB_f rfl (iteB_f rfl (iteB_f rfl (iteB_f rfl (iteB_t rfl (drew_h h fun w82 h => nn_i (ldSs (s := s) (g := gc) (o := 0) h rfl (ixI_h (s := s) (xs := xs) h (by omega) (by omega) (nn_i (ldI_h (g := gr) (o := 6) (n := r.t) h rfl ?_)))))))))))
  refine iteB_i (fun q => ?_) fun q => ?_
  · have q : xs.getD 0 0 = r.t := by simpa using q
    refine drew_h h fun w89 h => nn_i (ldSs (s := s) (g := gc) (o := 0) h rfl (nn_i (ldI_h (g := gr) (o := 6) (n := r.t) h rfl ?_)))
    rw [hwr]
    refine ixIst_h (s := s) (xs := xs) h (by omega) (by omega) fun w95 h => ?_
    exact nn_i (stC_h (g := gr) (o := 12) h rfl (by simp [Rop.cells]) fun w97 h => nn_i (stC_h (g := gr) (o := 4) h rfl (by simp [Rop.cells]) fun w99 h => hk1 q w99 h))
  · have q : ¬ xs.getD 0 0 = r.t := by simpa using q
    exact nn_i (stC_h (g := gr) (o := 4) h rfl (by simp [Rop.cells]) fun w101 h => hk2 q w101 h)
theorem ro8 (h : St w0 w (blk gr r.cells :: rmO gc s xs size did L)) (hn : r.nx = 8) (hl : 3 ≤ xs.length)
    (hk : ∀ w', St w0 w' (blk gr ({ r with how := if r.won then 1 else 3, got := if r.won then r.X else r.got } : Rop).cells :: rmO gc s (xs.set 1 r.b) size did L) → k () w') : pelotonref10_Op_pop (some ⟨gr, 0, none⟩) (some ⟨gc, 0, none⟩) w k := by
  unfold pelotonref10_Op_pop pelotonref10_Op_pop_b
  refine nn_i (ldI_h (g := gr) (o := 0) (n := 0) h rfl (nn_i (ldI_h (g := gr) (o := 4) (n := r.nx) h rfl ?_)))
  rw [hn, w01]
  refine iteB_f rfl (iteB_f rfl (iteB_f rfl (iteB_f rfl (iteB_f rfl (iteB_f rfl (iteB_f rfl (iteB_t rfl (drew_h h fun w102 h => nn_i (ldSs (s := s) (g := gc) (o := 0) h rfl (nn_i (ldI_h (g := gr) (o := 5) (n := r.b) h rfl ?_)))))))))))
  refine ixIst_h (s := s) (xs := xs) h (by omega) (by omega) fun w108 h => ?_
  refine nn_i (stC_h (g := gr) (o := 13) h rfl (by simp [Rop.cells]) fun w110 h => nn_i (ldB_h (g := gr) (o := 12) (n := r.won) h rfl ?_))
  refine iteB_i (fun q => ?_) fun q => ?_
  · rw [if_pos q, if_pos q] at hk
    exact nn_i (stC_h (g := gr) (o := 13) h rfl (by simp [Rop.cells]) fun w114 h => nn_i (ldI_h (g := gr) (o := 3) (n := r.X) h rfl (nn_i (stC_h (g := gr) (o := 14) h rfl (by simp [Rop.cells]) fun w118 h => hk w118 h))))
  · rw [if_neg (by rw [q]; simp), if_neg (by rw [q]; simp)] at hk
    exact hk w110 h

/-! ### thieves -/
theorem rs1 (h : St w0 w (blk gr r.cells :: rmO gc s xs size did L)) (hn : r.nx = 1) (hl : 3 ≤ xs.length) (hk : ∀ w', St w0 w' (blk gr ({ r with t := xs.getD 0 0, nx := 2 } : Rop).cells :: rmO gc s xs size did L) → k () w') : pelotonref10_Op_steal (some ⟨gr, 0, none⟩) (some ⟨gc, 0, none⟩) w k := by
  unfold pelotonref10_Op_steal pelotonref10_Op_steal_b
  refine nn_i (ldI_h (g := gr) (o := 0) (n := 0) h rfl (nn_i (ldI_h (g := gr) (o := 4) (n := r.nx) h rfl ?_)))
  rw [hn]
  refine iteB_t rfl (nn_i (ldSs (s := s) (g := gc) (o := 0) h rfl (ixI_h (s := s) (xs := xs) h (by omega) (by omega) ?_)))
  exact nn_i (stC_h (g := gr) (o := 6) h rfl (by simp [Rop.cells]) fun w1 h => nn_i (stC_h (g := gr) (o := 4) h rfl (by simp [Rop.cells]) fun w2 h => hk w2 h))
theorem rs2 (h : St w0 w (blk gr r.cells :: rmO gc s xs size did L)) (hn : r.nx = 2) (hl : 3 ≤ xs.length) (hk : ∀ w', St w0 w' (blk gr ({ r with b := xs.getD 1 0, nx := 3, how := if r.t ≥ xs.getD 1 0 then 3 else r.how } : Rop).cells :: rmO gc s xs size did L) → k () w') : pelotonref10_Op_steal (some ⟨gr, 0, none⟩) (some ⟨gc, 0, none⟩) w k := by
  unfold pelotonref10_Op_steal pelotonref10_Op_steal_b
  refine nn_i (ldI_h (g := gr) (o := 0) (n := 0) h rfl (nn_i (ldI_h (g := gr) (o := 4) (n := r.nx) h rfl ?_)))
  rw [hn, w01]
  refine iteB_f rfl (iteB_t rfl (nn_i (ldSs (s := s) (g := gc) (o := 0) h rfl (ixI_h (s := s) (xs := xs) h (by omega) (by omega) ?_))))
  refine nn_i (stC_h (g := gr) (o := 5) h rfl (by simp [Rop.cells]) fun w18 h => nn_i (stC_h (g := gr) (o := 4) h rfl (by simp [Rop.cells]) fun w20 h => ?_))
  have h : St w0 w20 (blk gr ({ r with b := xs.getD 1 0, nx := 3 } : Rop).cells :: rmO gc s xs size did L) := h
  refine drew_h h fun w21 h => nn_i (ldI_h (g := gr) (o := 6) (n := r.t) h rfl (nn_i (ldI_h (g := gr) (o := 5) (n := xs.getD 1 0) h rfl (iteB_i (fun q => ?_) fun q => ?_))))
  · rw [if_pos (of_decide_eq_true q)] at hk
    exact nn_i (stC_h (g := gr) (o := 13) h rfl (by simp [Rop.cells]) fun w27 h => hk w27 h)
  · rw [if_neg (of_decide_eq_false q)] at hk
    exact hk w21 h
theorem rs3 (h : St w0 w (blk gr r.cells :: rmO gc s xs size did L)) (hn : r.nx = 3) (hl : 3 ≤ xs.length) (hR : R.right = true) (hw : xs.getD 2 0 = R.word) (hk : ∀ w', St w0 w' (blk gr ({ r with ring := R, nx := 4 } : Rop).cells :: rmO gc s xs size did L) → k () w') : pelotonref10_Op_steal (some ⟨gr, 0, none⟩) (some ⟨gc, 0, none⟩) w k := by
  unfold pelotonref10_Op_steal pelotonref10_Op_steal_b
  refine nn_i (ldI_h (g := gr) (o := 0) (n := 0) h rfl (nn_i (ldI_h (g := gr) (o := 4) (n := r.nx) h rfl ?_)))
  rw [hn, w02]
  refine iteB_f rfl (iteB_f rfl (iteB_t rfl (nn_i (ldSs (s := s) (g := gc) (o := 0) h rfl (ixI_h (s := s) (xs := xs) h (by omega) (by omega) ?_)))))
  have hx : xs.getD (2 : Int).toNat 0 = R.word := hw
  rw [hx]
  refine rof_s (word_in hR) h fun w26 h => ?_
  rw [of_word hR, if_pos hR]
  refine nn_i (stA_h (g := gr) (o := 7) (n := 2) h rfl (by simp [Rop.cells]) (by intro v hv; simp [Rg.ag] at hv; rcases hv with rfl | rfl <;> rfl) fun w28 h => ?_)
  exact nn_i (stC_h (g := gr) (o := 4) h rfl (by simp [Rop.cells]) fun w30 h => hk w30 h)
theorem rs4 (h : St w0 w (blk gr r.cells :: rmO gc s xs size did L)) (hn : r.nx = 4) (hi : 0 ≤ r.ring.place r.t ∧ r.ring.place r.t < xs.length) (hk : ∀ w', St w0 w' (blk gr ({ r with got := xs.getD (r.ring.place r.t).toNat 0, how := 2, nx := 5 } : Rop).cells :: rmO gc s xs size did L) → k () w') : pelotonref10_Op_steal (some ⟨gr, 0, none⟩) (some ⟨gc, 0, none⟩) w k := by
  unfold pelotonref10_Op_steal pelotonref10_Op_steal_b
  refine nn_i (ldI_h (g := gr) (o := 0) (n := 0) h rfl (nn_i (ldI_h (g := gr) (o := 4) (n := r.nx) h rfl ?_)))
  rw [hn]
  refine iteB_f rfl (iteB_f rfl (iteB_f rfl (iteB_t rfl (drew_h h fun w38 h => nn_i (ldSs (s := s) (g := gc) (o := 0) h rfl (nn_i (ldA_h (g := gr) (o := 7) h (by simp [Rop.cells]) (nn_i (ldI_h (g := gr) (o := 6) (n := r.t) h rfl ?_)))))))))
  have h38 := h
  refine rplace_s (r := r.ring) h fun w46 h => samec_h (g := gc) h38 h ?_
  refine ixI_h (s := s) (xs := xs) h hi.1 hi.2 ?_
  exact nn_i (stC_h (g := gr) (o := 14) h rfl (by simp [Rop.cells]) fun w50 h => nn_i (stC_h (g := gr) (o := 13) h rfl (by simp [Rop.cells]) fun w52 h => nn_i (stC_h (g := gr) (o := 4) h rfl (by simp [Rop.cells]) fun w54 h => hk w54 h)))
theorem rs5 (h : St w0 w (blk gr r.cells :: rmO gc s xs size did L)) (hn : r.nx = 5) (hl : 3 ≤ xs.length) (ht : -1000 ≤ r.t ∧ r.t ≤ 1000)
    (hk1 : xs.getD 0 0 = r.t → ∀ w', St w0 w' (blk gr ({ r with how := 1 } : Rop).cells :: rmO gc s (xs.set 0 (r.t + 1)) size did L) → k () w')
    (hk2 : ¬ xs.getD 0 0 = r.t → ∀ w', St w0 w' (blk gr ({ r with how := 5, got := 0 } : Rop).cells :: rmO gc s xs size did L) → k () w') : pelotonref10_Op_steal (some ⟨gr, 0, none⟩) (some ⟨gc, 0, none⟩) w k := by
  unfold pelotonref10_Op_steal pelotonref10_Op_steal_b
  refine nn_i (ldI_h (g := gr) (o := 0) (n := 0) h rfl (nn_i (ldI_h (g := gr) (o := 4) (n := r.nx) h rfl ?_)))
  have hwr : IntKind.wrap .i64 (r.t + 1) = r.t + 1 := wr_id (by omega) (by omega)
  rw [hn]
  refine iteB_f rfl (iteB_f rfl (iteB_f rfl (iteB_f rfl (iteB_t rfl (drew_h h fun w82 h => nn_i (ldSs (s := s) (g := gc) (o := 0) h rfl (ixI_h (s := s) (xs := xs) h (by omega) (by omega) (nn_i (ldI_h (g := gr) (o := 6) (n := r.t) h rfl ?_)))))))))
  refine iteB_i (fun q => ?_) fun q => ?_
  · have q : xs.getD 0 0 = r.t := by simpa using q
    refine drew_h h fun w89 h => nn_i (ldSs (s := s) (g := gc) (o := 0) h rfl (nn_i (ldI_h (g := gr) (o := 6) (n := r.t) h rfl ?_)))
    rw [hwr]
    refine ixIst_h (s := s) (xs := xs) h (by omega) (by omega) fun w95 h => ?_
    exact nn_i (stC_h (g := gr) (o := 13) h rfl (by simp [Rop.cells]) fun w97 h => hk1 q w97 h)
  · have q : ¬ xs.getD 0 0 = r.t := by simpa using q
    exact nn_i (stC_h (g := gr) (o := 13) h rfl (by simp [Rop.cells]) fun w101 h => nn_i (stC_h (g := gr) (o := 14) h rfl (by simp [Rop.cells]) fun w102 h => hk2 q w102 h))
end
end Go.Proofs.Ytheallacpidcmaa
