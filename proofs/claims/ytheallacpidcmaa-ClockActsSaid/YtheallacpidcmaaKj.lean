/-
  The document's clock: a list, looked through each time.
-/
import Derived.Test.YtheallacpidcmaaKh
import Derived.Test.YtheallacpidcmaaKi
set_option linter.unusedSimpArgs false
set_option linter.unusedVariables false
set_option maxRecDepth 100000
namespace Go.Ev
open Go Go.RowKit
section
variable {w0 w : World} {L : List HP} {sz : Nat} {s : Sl} {vs : List Value} {f : HP → List HP}
theorem own_slL {lo : Int} {c : Sl → Prop} (ho : OwnS sz w s vs) (h0 : 0 ≤ lo) (h1 : lo ≤ s.n) (hc : ∀ d : Sl, d.n = s.n - lo.toNat → Sls sz w d (vs.drop (lo.toNat * sz)) → c d) : slL s sz lo c := by
  have hcap := ho.cap; have hlen := ho.len
  refine ⟨⟨h0, h1⟩, hc _ rfl (ho.off (lo := lo.toNat) (by simp [hlen, Nat.sub_mul]) (by simp; omega) (by simp; omega) ?_ fun i v hi => by simpa using hi).sls⟩
  by_cases hq : s.c = lo.toNat
  · right; simp [hq]
  · left; simp [hq]
theorem own_slS {lo hi : Int} {c : Sl → Prop} (ho : OwnS sz w s vs) (h0 : 0 ≤ lo) (h1 : lo ≤ hi) (h2 : hi ≤ s.n)
    (hc : ∀ d : Sl, d.n = hi.toNat - lo.toNat → Sls sz w d ((vs.drop (lo.toNat * sz)).take ((hi.toNat - lo.toNat) * sz)) → c d) : slS s sz lo hi c := by
  have hcap := ho.cap; have hlen := ho.len
  have hm : (hi.toNat - lo.toNat) * sz ≤ (s.n - lo.toNat) * sz := Nat.mul_le_mul_right _ (by omega)
  refine ⟨⟨by omega, by omega⟩, ⟨h0, h1⟩, hc _ rfl (ho.off (lo := lo.toNat) ?_ (by simp; omega) (by simp; omega) ?_ fun i v hi => ?_).sls⟩
  · rw [List.length_take, List.length_drop, hlen, ← Nat.sub_mul]; exact Nat.min_eq_left hm
  · by_cases hq : s.c = lo.toNat
    · right; simp [hq]
    · left; simp [hq]
  · rw [List.getElem?_take] at hi
    split at hi
    · simpa using hi
    · cases hi
end
end Go.Ev
namespace Go.Proofs.Ytheallacpidcmaa
open Go Go.Ev Go.Proofs

abbrev rcs (now : Int) (s : Sl) : List Value := [.int .i64 now, .slice s.a s.n s.c]
/-- the document's clock, at g -/
def rfc (g : Nat) (x : Int × DL) : HP := exHP fun s : Sl => sepHP [blk g (rcs x.1 s), slc 2 s (fl x.2)]
section
variable {w0 w : World} {L : List HP} {g : Nat} {now : Int} {E S : DL} {f : HP → List HP}
theorem rfc_open (h : St w0 w (rfc g (now, E) :: L)) : ∃ s : Sl, St w0 w (blk g (rcs now s) :: slc 2 s (fl E) :: L) := by
  obtain ⟨s, h⟩ := h.some
  exact ⟨s, h.open⟩
theorem rfc_shut {s : Sl} (h : St w0 w (blk g (rcs now s) :: slc 2 s (fl E) :: L)) : St w0 w (rfc g (now, E) :: L) :=
  St.ex (X := fun s : Sl => sepHP [blk g (rcs now s), slc 2 s (fl E)]) s (St.shut h)
theorem elR : ElS Go.Proofs.Try.prog 98 2 16 (.agg #[.int .i64 0, .int .i64 0]) := ⟨by kernel_rfl, rfl⟩
theorem has_perm (hp : E.Perm S) (id : Int) : has E id = has S id := by
  rw [Bool.eq_iff_iff, has_iff, has_iff]
  exact ⟨fun ⟨y, hy, e⟩ => ⟨y, hp.subset hy, e⟩, fun ⟨y, hy, e⟩ => ⟨y, hp.symm.subset hy, e⟩⟩
theorem gd_mem {i : Nat} (h : i < E.length) : gd E i ∈ E := by
  unfold gd; rw [List.getD_eq_getElem?_getD, List.getElem?_eq_getElem h]; simp
theorem mem_gd {x : Int × Int} (h : x ∈ E) : ∃ i, i < E.length ∧ gd E i = x := by
  obtain ⟨m, hm, e⟩ := List.getElem_of_mem h
  exact ⟨m, hm, by unfold gd; rw [List.getD_eq_getElem?_getD, List.getElem?_eq_getElem hm]; exact e⟩
theorem find_s {id : Int} {c : Int → World → Prop} (hl : E.length ≤ 100000) (h : St w0 w L) [a : At L (rfc g) (now, E) f] (hc : ∀ i : Nat, i < E.length → (gd E i).2 = id → c i w) (hn : has E id = false → c (-1) w) : pelotonref13_Clock_Find (some ⟨g, 0, none⟩) id w c := by
  obtain ⟨R, ho, hs⟩ := a.out
  obtain ⟨s, h⟩ := rfc_open (ho h)
  have hsn := St.dlen (s := s) (d := E) h
  unfold pelotonref13_Clock_Find
  refine loopP_of (fun (i : Int) w' => w' = w ∧ ∃ j : Nat, i = (j : Int) ∧ j ≤ E.length ∧ ∀ k, k < j → (gd E k).2 ≠ id) (fun i _ => E.length - i.toNat) ⟨rfl, 0, rfl, by omega, fun k hk => by omega⟩ ?_
  rintro _ _ ⟨rfl, j, rfl, hj, hne⟩ C hC
  refine nn_i (ldS_h (g := g) (o := 1) h rfl ?_)
  dsimp only
  refine iteB_i (fun hb => ?_) fun hb => ?_
  · have hb := of_decide_eq_true hb
    refine nn_i (ldS_h (g := g) (o := 1) h rfl ?_)
    refine ldE1_h (s := s) (d := E) h (by omega) (by omega) ?_
    rw [Int.toNat_natCast]
    refine iteB_i (fun hb2 => ?_) fun hb2 => ?_
    · exact hc j (by omega) (by simpa using hb2)
    · have e : IntKind.wrap .i64 ((j : Int) + 1) = ((j + 1 : Nat) : Int) := by
        rw [wrap_id ⟨by omega, by omega⟩]; omega
      rw [e]
      refine hC _ _ ⟨rfl, j + 1, rfl, by omega, fun k hk => ?_⟩ (by simp only [Int.toNat_natCast]; omega)
      by_cases q : k = j
      · subst q; simpa using hb2
      · exact hne k (by omega)
  · have hb := of_decide_eq_false hb
    refine hn ?_
    rw [Bool.eq_false_iff]
    intro hh
    obtain ⟨y, hy, e⟩ := has_iff.1 hh
    obtain ⟨i, hi, rfl⟩ := mem_gd hy
    exact hne i (by omega) e
theorem rset_s {id n : Int} {c : Int → World → Prop} (hl : E.length ≤ 100000) (hp : E.Perm S) (hC : CK (now, S)) (h : St w0 w L) [a : At L (rfc g) (now, E) f] (hc : ∀ E' w', E'.Perm (setF (now, S) id n).2 → St w0 w' (f (rfc g (now, E'))) → c (setF (now, S) id n).1 w') : pelotonref13_Clock_Set (some ⟨g, 0, none⟩) id n w c := by
  obtain ⟨R, ho, hs⟩ := a.out
  have hlo := hC.lo; have hhi := hC.hi
  dsimp only at hlo hhi
  unfold pelotonref13_Clock_Set pelotonref13_Clock_Set_b
  refine iteB_i (fun hb => ?_) fun hb => ?_
  · have e : setF (now, S) id n = (10, S) := by
      unfold setF
      rw [if_pos]
      simp only [Bool.or_eq_true, decide_eq_true_eq] at hb
      unfold MT; omega
    rw [e] at hc
    exact hc _ _ hp (hs (ho h))
  · have hb : ¬ (id < 0 ∨ n < 1 ∨ n > MT) := by
      simp only [Bool.or_eq_false_iff, decide_eq_false_iff_not] at hb
      unfold MT; omega
    refine find_s (g := g) hl h (fun i hi e => ?_) fun hn => ?_
    · have hh : has S id = true := by rw [← has_perm hp]; exact has_iff.2 ⟨_, gd_mem hi, e⟩
      have e : setF (now, S) id n = (18, S) := by unfold setF; rw [if_neg hb, if_pos hh]
      rw [e] at hc
      refine iteB_t (decide_eq_true (by omega)) ?_
      exact hc _ _ hp (hs (ho h))
    · have hh : ¬ has S id = true := by rw [← has_perm hp, hn]; simp
      have e : setF (now, S) id n = (0, ins (now + n, id) S) := by unfold setF; rw [if_neg hb, if_neg hh]
      rw [e] at hc
      refine iteB_f rfl ?_
      obtain ⟨s, h⟩ := rfc_open (ho h)
      have hsn := St.dlen (s := s) (d := E) h
      refine drew_h h fun w1 h => ?_
      have b1 := h.blk (g := g) (cs := rcs now s)
      refine nn_i (ldS_h (g := g) (o := 1) h rfl ?_)
      refine nn_i (ldI_h (g := g) (o := 0) h rfl (samec_self ?_))
      rw [wrap_id (x := now + n) ⟨by unfold MT at *; omega, by unfold MT at *; omega⟩]
      refine spl_i #[.int .i64 (now + n), .int .i64 id] rfl rfl ?_
      refine newC_h h fun ga w2 h => ?_
      have b2 := h.blk (g := g) (cs := rcs now s)
      refine samec_B (g := g) (o := 1) b1 b2 ?_
      refine bApp_h (s := s) (vs := fl E) (x := ⟨some ⟨ga, 0, none⟩, 1, 1⟩) (ys := [.int .i64 (now + n), .int .i64 id]) h elR (by kernel_rfl) (blk_slsN (n := 1) (l := [.int .i64 (now + n), .int .i64 id]) (h.blk (g := ga)) rfl 1) (by simp [Value.oneCell']) (by simp only; omega) (by simp only; omega) fun s2 w3 h n2 => ?_
      refine nn_i ?_
      refine stC_h (g := g) (o := 1) h rfl (by simp) fun w4 h => ?_
      have h := h.drop
      have ef : fl E ++ [.int .i64 (now + n), .int .i64 id] = fl (E ++ [(now + n, id)]) := by rw [fl_app]; rfl
      rw [ef] at h
      refine hc (E ++ [(now + n, id)]) w4 ?_ (hs (rfc_shut (s := s2) h))
      exact ((List.perm_append_comm (l₁ := E) (l₂ := [(now + n, id)])).trans (hp.cons _)).trans (ins_perm _ _).symm
theorem perm_erase {E : DL} {i : Nat} (h : i < E.length) : (gd E i :: (E.take i ++ E.drop (i + 1))).Perm E := by
  have e : E = E.take i ++ gd E i :: E.drop (i + 1) := by rw [← drop_gd h, List.take_append_drop]
  conv => rhs; rw [e]
  exact List.perm_middle.symm
theorem drop_perm {S d' : DL} {v id : Int} (hp : ((v, id) :: d').Perm S) (hone : (S.map (·.2)).Nodup) : d'.Perm (dropL S id) := by
  have hnd : (((v, id) :: d').map (·.2)).Nodup := ((hp.map (·.2)).nodup_iff).2 hone
  rw [List.map_cons, List.nodup_cons] at hnd
  have hp3 := hp.filter fun y => decide (y.2 ≠ id)
  rw [List.filter_cons_of_neg (by simp)] at hp3
  have e : d'.filter (fun y => decide (y.2 ≠ id)) = d' := by
    rw [List.filter_eq_self]
    intro y hy
    simp only [ne_eq, decide_eq_true_eq]
    exact fun q => hnd.1 (List.mem_map.2 ⟨y, hy, q⟩)
  rw [e] at hp3
  exact hp3
theorem drop_none {S : DL} {id : Int} (h : has S id = false) : dropL S id = S := by
  unfold dropL
  rw [List.filter_eq_self]
  intro y hy
  simp only [ne_eq, decide_eq_true_eq]
  exact has_none (by simp [h]) y hy
theorem rdrop_s {id : Int} {c : Bool → World → Prop} (hl : E.length ≤ 100000) (hp : E.Perm S) (hone : (S.map (·.2)).Nodup) (h : St w0 w L) [a : At L (rfc g) (now, E) f] (hc : ∀ E' w', E'.Perm (dropL S id) → St w0 w' (f (rfc g (now, E'))) → c (has S id) w') : pelotonref13_Clock_Drop (some ⟨g, 0, none⟩) id w c := by
  obtain ⟨R, ho, hs⟩ := a.out
  unfold pelotonref13_Clock_Drop pelotonref13_Clock_Drop_b
  refine find_s (g := g) hl h (fun i hi e => ?_) fun hn => ?_
  · have hh : has S id = true := by rw [← has_perm hp]; exact has_iff.2 ⟨_, gd_mem hi, e⟩
    refine iteB_f (decide_eq_false (by omega)) ?_
    obtain ⟨s, h⟩ := rfc_open (ho h)
    have hsn := St.dlen (s := s) (d := E) h
    refine newC_h h fun ga w2 h => ?_
    have h := St.asS (sz := 2) (g := ga) (n := 0) (cs := []) h rfl (by omega) (by simp)
    refine nn_i (ldS_h (g := g) (o := 1) h rfl ?_)
    have o1 : OwnS 2 w2 s (fl E) := h.own
    refine own_slS o1 (by omega) (by omega) (by dsimp only; omega) fun s1 n1 hs1 => ?_
    have e1 : ((fl E).drop ((0 : Int).toNat * 2)).take (((i : Int).toNat - (0 : Int).toNat) * 2) = fl (E.take i) := by
      simp only [Int.toNat_natCast, Int.toNat_zero, Nat.zero_mul, List.drop_zero, Nat.sub_zero]
      exact fl_take E i
    rw [e1] at hs1
    simp only [Int.toNat_natCast, Int.toNat_zero, Nat.sub_zero] at n1
    refine bApp_h (s := ⟨some ⟨ga, 0, none⟩, 0, 0⟩) (vs := []) (x := s1) (ys := fl (E.take i)) h elR (by kernel_rfl) hs1 (fl_one _) (by simp only; omega) (by simp only; omega) fun s2 w3 h n2 => ?_
    refine nn_i (ldS_h (g := g) (o := 1) h rfl ?_)
    have o2 : OwnS 2 w3 s (fl E) := h.own
    have ew : IntKind.wrap .i64 ((i : Int) + 1) = ((i + 1 : Nat) : Int) := by rw [wrap_id ⟨by omega, by omega⟩]; omega
    rw [ew]
    refine own_slL o2 (by omega) (by dsimp only; omega) fun s3 n3 hs3 => ?_
    simp only [Int.toNat_natCast] at n3 hs3
    rw [fl_drop] at hs3
    refine bApp_h (s := s2) (vs := [] ++ fl (E.take i)) (x := s3) (ys := fl (E.drop (i + 1))) h elR (by kernel_rfl) hs3 (fl_one _) (by simp only [] at n2 ⊢; omega) (by simp only [] at n2 ⊢; omega) fun s4 w4 h n4 => ?_
    refine nn_i ?_
    refine stC_h (g := g) (o := 1) h rfl (by simp) fun w5 h => ?_
    have ef : [] ++ fl (E.take i) ++ fl (E.drop (i + 1)) = fl (E.take i ++ E.drop (i + 1)) := by rw [fl_app]; rfl
    rw [ef] at h
    have h : St w0 w5 (slc 2 s4 (fl (E.take i ++ E.drop (i + 1))) :: blk g (rcs now s4) :: slc 2 s (fl E) :: R) := h
    have h2 : St w0 w5 (slc 2 s (fl E) :: blk g (rcs now s4) :: slc 2 s4 (fl (E.take i ++ E.drop (i + 1))) :: R) := h.perm (by repeat' (first | exact List.Perm.refl _ | refine perm_f 0 rfl ?_ | refine perm_f 1 rfl ?_ | refine perm_f 2 rfl ?_ | refine perm_f 3 rfl ?_ | refine perm_f 4 rfl ?_ | refine perm_f 5 rfl ?_ | refine perm_f 6 rfl ?_ | refine perm_f 7 rfl ?_))
    rw [← hh]
    refine hc _ w5 ?_ (hs (rfc_shut (s := s4) h2.drop))
    have hpe := (perm_erase hi).trans hp
    have ey : gd E i = ((gd E i).1, id) := by rw [← e]
    rw [ey] at hpe
    exact drop_perm hpe hone
  · have hh : has S id = false := by rw [← has_perm hp]; exact hn
    rw [hh] at hc
    refine iteB_t rfl ?_
    exact hc E w (by rw [drop_none hh]; exact hp) (hs (ho h))
theorem first_raw {s : Sl} {R : List HP} {c : Int → World → Prop} (hl : E.length ≤ 100000) (hp : E.Perm S) (hS : Srt S) (h : St w0 w (blk g (rcs now s) :: slc 2 s (fl E) :: R)) (h0 : ∀ w', S = [] → St w0 w' (blk g (rcs now s) :: slc 2 s (fl E) :: R) → c (-1) w') (h1 : ∀ x r w' (i : Nat), S = x :: r → i < E.length → gd E i = x → St w0 w' (blk g (rcs now s) :: slc 2 s (fl E) :: R) → c (i : Int) w') : pelotonref13_Clock_First (some ⟨g, 0, none⟩) w c := by
  have hsn := St.dlen (s := s) (d := E) h
  have hEl := hp.length_eq
  unfold pelotonref13_Clock_First
  refine loopP_of (fun (x : Int × Int) w' => ∃ j : Nat, x.2 = (j : Int) ∧ j ≤ E.length ∧ ((j = 0 ∧ x.1 = -1) ∨ ∃ k : Nat, x.1 = (k : Int) ∧ k < j ∧ ∀ q, q < j → ¬ lt2 (gd E q) (gd E k)) ∧ St w0 w' (blk g (rcs now s) :: slc 2 s (fl E) :: R)) (fun x _ => E.length - x.2.toNat) ⟨0, rfl, by omega, .inl ⟨rfl, rfl⟩, h⟩ ?_
  rintro ⟨at_, _⟩ w1 ⟨j, rfl, hj, hk, h⟩ C hC
  dsimp only at hk ⊢
  refine nn_i (ldS_h (g := g) (o := 1) h rfl ?_)
  dsimp only
  refine iteB_i (fun hb => ?_) fun hb => ?_
  · have hb := of_decide_eq_true hb
    have e : IntKind.wrap .i64 ((j : Int) + 1) = ((j + 1 : Nat) : Int) := by
      rw [wrap_id ⟨by omega, by omega⟩]; omega
    rw [e]
    have hjl : j < E.length := by omega
    refine joinP_i (fun b w' => St w0 w' (blk g (rcs now s) :: slc 2 s (fl E) :: R) ∧ ((j = 0 ∧ b = true) ∨ ∃ k : Nat, at_ = (k : Int) ∧ k < j ∧ (∀ q, q < j → ¬ lt2 (gd E q) (gd E k)) ∧ b = decide (lt2 (gd E j) (gd E k)))) (fun J hJ => ?_) ?_
    · refine drew_h h fun w2 h => ?_
      rcases hk with ⟨k1, k2⟩ | ⟨k, rfl, k2, k3⟩
      · subst k2
        exact iteB_t rfl (hJ _ _ ⟨h, .inl ⟨k1, rfl⟩⟩)
      · have fin : ∀ b w', b = decide (lt2 (gd E j) (gd E k)) → St w0 w' (blk g (rcs now s) :: slc 2 s (fl E) :: R) → J b w' := fun b w' hb h => hJ _ _ ⟨h, .inr ⟨k, rfl, k2, k3, hb⟩⟩
        refine iteB_f (decide_eq_false (by omega)) ?_
        refine nn_i (ldS_h (g := g) (o := 1) h rfl ?_)
        refine ldE0_h (s := s) (d := E) h (by omega) (by omega) ?_
        refine nn_i (ldS_h (g := g) (o := 1) h rfl ?_)
        refine ldE0_h (s := s) (d := E) h (by omega) (by omega) ?_
        simp only [Int.toNat_natCast]
        refine iteB_i (fun q => ?_) fun q => ?_
        · have q := of_decide_eq_true q
          exact fin _ _ (decide_eq_true (.inl q)).symm h
        · have q := of_decide_eq_false q
          refine nn_i (ldS_h (g := g) (o := 1) h rfl ?_)
          refine ldE0_h (s := s) (d := E) h (by omega) (by omega) ?_
          refine nn_i (ldS_h (g := g) (o := 1) h rfl ?_)
          refine ldE0_h (s := s) (d := E) h (by omega) (by omega) ?_
          simp only [Int.toNat_natCast]
          refine iteB_i (fun q2 => ?_) fun q2 => ?_
          · have q2 : (gd E j).1 = (gd E k).1 := by simpa using q2
            refine nn_i (ldS_h (g := g) (o := 1) h rfl ?_)
            refine ldE1_h (s := s) (d := E) h (by omega) (by omega) ?_
            refine nn_i (ldS_h (g := g) (o := 1) h rfl ?_)
            refine ldE1_h (s := s) (d := E) h (by omega) (by omega) ?_
            simp only [Int.toNat_natCast]
            refine fin _ _ ?_ h
            rw [decide_eq_decide]; unfold lt2; omega
          · have q2 : (gd E j).1 ≠ (gd E k).1 := by simpa using q2
            refine fin _ _ (decide_eq_false ?_).symm h
            unfold lt2; omega
    rintro b w2 ⟨h, hk⟩
    refine iteB_i (fun q => ?_) fun q => ?_
    · refine hC _ _ ⟨j + 1, rfl, by omega, .inr ⟨j, rfl, by omega, fun m hm => ?_⟩, h⟩ (by simp only [Int.toNat_natCast]; omega)
      rcases hk with ⟨k1, _⟩ | ⟨k, rfl, k2, k3, k4⟩
      · subst k1
        have : m = 0 := by omega
        subst this; exact lt2_irr _
      · rw [k4] at q
        have q := of_decide_eq_true q
        by_cases e : m = j
        · subst e; exact lt2_irr _
        · exact lt2_lt (k3 m (by omega)) q
    · rcases hk with ⟨k1, k2⟩ | ⟨k, rfl, k2, k3, k4⟩
      · rw [k2] at q; cases q
      · rw [k4] at q
        have q := of_decide_eq_false q
        refine hC _ _ ⟨j + 1, rfl, by omega, .inr ⟨k, rfl, by omega, fun m hm => ?_⟩, h⟩ (by simp only [Int.toNat_natCast]; omega)
        by_cases e : m = j
        · subst e; exact q
        · exact k3 m (by omega)
  · have hb := of_decide_eq_false hb
    have : j = E.length := by omega
    subst this
    rcases hk with ⟨k1, k2⟩ | ⟨k, rfl, k2, k3⟩
    · subst k2
      refine h0 w1 (List.eq_nil_of_length_eq_zero (by omega)) h
    · cases S with
      | nil => have : E.length = 0 := hEl
               omega
      | cons x r =>
        refine h1 x r w1 k rfl k2 ?_ h
        have hm := hp.subset (gd_mem k2)
        rcases List.mem_cons.1 hm with e | e
        · exact e
        · obtain ⟨q, hq, hqx⟩ := mem_gd (hp.symm.subset (show x ∈ x :: r by simp))
          have := k3 q hq
          rw [hqx] at this
          exact absurd ((List.pairwise_cons.1 hS).1 _ e) this
theorem first_s {c : Int → World → Prop} (hl : E.length ≤ 100000) (hp : E.Perm S) (hS : Srt S) (h : St w0 w L) [a : At L (rfc g) (now, E) f] (h0 : ∀ w', S = [] → St w0 w' (f (rfc g (now, E))) → c (-1) w') (h1 : ∀ x r w' (i : Nat), S = x :: r → i < E.length → gd E i = x → St w0 w' (f (rfc g (now, E))) → c (i : Int) w') : pelotonref13_Clock_First (some ⟨g, 0, none⟩) w c := by
  obtain ⟨R, ho, hs⟩ := a.out
  obtain ⟨s, h⟩ := rfc_open (ho h)
  exact first_raw hl hp hS h (fun w' e h => h0 w' e (hs (rfc_shut h))) fun x r w' i e1 e2 e3 h => h1 x r w' i e1 e2 e3 (hs (rfc_shut h))
theorem rcopy_s {c : Option Addr → World → Prop} (hl : E.length ≤ 100000) (h : St w0 w L) [a : At L (rfc g) (now, E) f] (hc : ∀ g' w', St w0 w' (rfc g' (now, E) :: f (rfc g (now, E))) → c (some ⟨g', 0, none⟩) w') : pelotonref13_Clock_Copy (some ⟨g, 0, none⟩) w c := by
  obtain ⟨R, ho, hs, hs2⟩ := a.out2
  obtain ⟨s, h⟩ := rfc_open (ho h)
  have hsn := St.dlen (s := s) (d := E) h
  unfold pelotonref13_Clock_Copy
  refine drew_h h fun w1 h => ?_
  have b1 := h.blk (g := g) (cs := rcs now s)
  refine nn_i (ldI_h (g := g) (o := 0) h rfl ?_)
  refine nn_i (ldS_h (g := g) (o := 1) h rfl ?_)
  refine newC_h h fun ga w2 h => ?_
  have b2 := h.blk (g := g) (cs := rcs now s)
  refine samec_B (g := g) (o := 1) b1 b2 (samec_B (g := g) (o := 0) b1 b2 ?_)
  have h := St.asS (sz := 2) (g := ga) (n := 0) (cs := []) h rfl (by omega) (by simp)
  have o1 : OwnS 2 w2 s (fl E) := h.own
  refine bApp_h (s := ⟨some ⟨ga, 0, none⟩, 0, 0⟩) (vs := []) (x := s) (ys := fl E) h elR (by kernel_rfl) o1.sls (fl_one E) (by simp only; omega) (by simp only; omega) fun s2 w3 h n2 => ?_
  have b3 := h.blk (g := g) (cs := rcs now s)
  refine samec_B (g := g) (o := 0) b1 b3 ?_
  refine newC_h h fun g' w4 h => ?_
  have h : St w0 w4 (blk g' (rcs now s2) :: slc 2 s2 (fl E) :: blk g (rcs now s) :: slc 2 s (fl E) :: R) := h
  have h2 := rfc_shut h
  have h3 : St w0 w4 (blk g (rcs now s) :: slc 2 s (fl E) :: rfc g' (now, E) :: R) := h2.perm (by repeat' (first | exact List.Perm.refl _ | refine perm_f 0 rfl ?_ | refine perm_f 1 rfl ?_ | refine perm_f 2 rfl ?_ | refine perm_f 3 rfl ?_ | refine perm_f 4 rfl ?_ | refine perm_f 5 rfl ?_ | refine perm_f 6 rfl ?_ | refine perm_f 7 rfl ?_))
  exact hc g' w4 (hs2 (rfc_shut h3))
theorem radv_s {n : Int} {c : Sl × Int → World → Prop} (hl : E.length ≤ 100000) (hp : E.Perm S) (hC : CK (now, S)) (h : St w0 w L) [a : At L (rfc g) (now, E) f]
    (hc : advOK now n = true → ∀ E' s' w', E'.Perm (leftL S (now + n)) → St w0 w' (slc 1 s' (ints (ids (cameL S (now + n)))) :: f (rfc g (now + n, E'))) → c (s', 0) w')
    (hno : advOK now n = false → St w0 w L → c (⟨none, 0, 0⟩, 10) w) : pelotonref13_Clock_Advance (some ⟨g, 0, none⟩) n w c := by
  obtain ⟨R, ho, hs, hs2⟩ := a.out2
  obtain ⟨s, h4⟩ := rfc_open (ho h)
  have hlo := hC.lo; have hhi := hC.hi
  dsimp only at hlo hhi
  unfold pelotonref13_Clock_Advance pelotonref13_Clock_Advance_b
  refine joinP_i (fun b w' => b = !advOK now n ∧ w' = w) (fun J hJ => ?_) ?_
  · refine iteB_i (fun hb => ?_) fun hb => ?_
    · have hb := of_decide_eq_true hb
      refine hJ _ _ ⟨?_, rfl⟩
      unfold advOK; rw [decide_eq_false (by omega)]; rfl
    · have hb := of_decide_eq_false hb
      refine nn_i (ldI_h (g := g) (o := 0) h4 rfl (hJ _ _ ⟨?_, rfl⟩))
      rw [wrap_id ⟨by unfold MT at *; omega, by unfold MT at *; omega⟩]
      unfold advOK MT
      rw [Bool.eq_iff_iff]
      simp only [decide_eq_true_eq, Bool.not_eq_true', decide_eq_false_iff_not]
      omega
  rintro _ w1 ⟨rfl, rfl⟩
  refine iteB_i (fun hb => ?_) fun hb => ?_
  · exact hno (by simpa using hb) h
  have hok : advOK now n = true := by simpa using hb
  have hok' := of_decide_eq_true hok
  refine nn_i (ldI_h (g := g) (o := 0) h4 rfl (nn_i ?_))
  rw [wrap_id (x := now + n) ⟨by unfold MT at *; omega, by unfold MT at *; omega⟩]
  refine stC_h (g := g) (o := 0) h4 rfl (by simp) fun w2 h4 => ?_
  have h5 : St w0 w2 (rfc g (now + n, E) :: R) := rfc_shut (s := s) h4
  refine newC_h h5 fun ga w3 h5 => ?_
  have h5 := (St.asS (sz := 1) (g := ga) (n := 0) (cs := []) h5 rfl (by omega) (by simp)).swap
  have hpl := hp.length_eq
  refine loopP_of (fun (r : Sl) w' => ∃ C T E1, S = C ++ T ∧ (∀ y ∈ C, y.1 ≤ now + n) ∧ E1.Perm T ∧ St w0 w' (rfc g (now + n, E1) :: slc 1 r (ints (ids C)) :: R)) (fun r _ => S.length - r.n) ⟨[], S, E, rfl, by simp, hp, h5⟩ ?_
  rintro r w4 ⟨C, T, E1, rfl, hCt, hp1, h⟩ K hK
  have hr : r.n = C.length := by
    have := h.slen (sz := 1) (s := r) (vs := ints (ids C)); simp [ids] at this; omega
  have hsrt : Srt T := (List.pairwise_append.1 hC.srt).2.1
  have hnd : (T.map (·.2)).Nodup := by
    have := hC.one
    dsimp only at this
    rw [List.map_append] at this
    exact (List.nodup_append.1 this).2.1
  have hp1l := hp1.length_eq
  simp only [List.length_append] at hpl
  obtain ⟨s1, h⟩ := rfc_open h
  have hsn1 := St.dlen (s := s1) (d := E1) h
  refine joinP_i (fun b w' => b = dueB T (now + n) ∧ St w0 w' (blk g (rcs (now + n) s1) :: slc 2 s1 (fl E1) :: slc 1 r (ints (ids C)) :: R)) (fun J hJ => ?_) ?_
  · refine drew_h h fun w5 h => ?_
    refine first_raw (by omega) hp1 hsrt h (fun w6 hT h => ?_) fun x rr w6 i hT hi hx h => ?_
    · subst hT
      exact iteB_f rfl (hJ _ _ ⟨rfl, h⟩)
    · refine iteB_t (decide_eq_true (by omega)) ?_
      have b1 := h.blk (g := g) (cs := rcs (now + n) s1)
      refine nn_i (ldS_h (g := g) (o := 1) h rfl ?_)
      refine nn_i (ldI_h (g := g) (o := 0) h rfl ?_)
      refine first_raw (by omega) hp1 hsrt h (fun w7 hT2 h => ?_) fun x2 rr2 w7 i2 hT2 hi2 hx2 h => ?_
      · rw [hT] at hT2; cases hT2
      · have b2 := h.blk (g := g) (cs := rcs (now + n) s1)
        refine samec_B (g := g) (o := 0) b1 b2 (samec_B (g := g) (o := 1) b1 b2 ?_)
        refine ldE0_h (s := s1) (d := E1) h (by omega) (by omega) ?_
        rw [Int.toNat_natCast, hx2]
        refine hJ _ _ ⟨?_, h⟩
        subst hT2
        rfl
  rintro _ w5 ⟨rfl, h⟩
  refine iteB_i (fun hb => ?_) fun hb => ?_
  · cases T with
    | nil => cases hb
    | cons x T =>
      have hb := of_decide_eq_true hb
      simp only [List.length_cons] at hpl hp1l
      refine drew_h h fun w6 h => ?_
      have b1 := h.blk (g := g) (cs := rcs (now + n) s1)
      refine nn_i (ldS_h (g := g) (o := 1) h rfl ?_)
      refine first_raw (by omega) hp1 hsrt h (fun w7 hT2 h => ?_) fun x2 rr2 w7 i2 hT2 hi2 hx2 h => ?_
      · cases hT2
      cases hT2
      have b2 := h.blk (g := g) (cs := rcs (now + n) s1)
      refine samec_B (g := g) (o := 1) b1 b2 ?_
      refine ldE1_h (s := s1) (d := E1) h (by omega) (by omega) ?_
      rw [Int.toNat_natCast, hx2]
      have h := rfc_shut h
      refine rdrop_s (g := g) (by omega) hp1 hnd h fun E2 w8 hp2 h => ?_
      have ed : dropL (x :: T) x.2 = T := by
        unfold dropL
        rw [List.filter_cons_of_neg (by simp), List.filter_eq_self]
        intro y hy
        rw [List.map_cons, List.nodup_cons] at hnd
        simp only [ne_eq, decide_eq_true_eq]
        exact fun q => hnd.1 (List.mem_map.2 ⟨y, hy, q⟩)
      rw [ed] at hp2
      refine newC_h h fun gb w9 h => ?_
      refine bApp_h (s := r) (vs := ints (ids C)) (x := ⟨some ⟨gb, 0, none⟩, 1, 1⟩) (ys := [.int .i64 x.2]) h (elI1 (by kernel_rfl)) (by kernel_rfl) (blk_sls (n := 1) (l := [.int .i64 x.2]) (h.blk (g := gb)) rfl 1) (by simp [Value.oneCell']) (by simp only; omega) (by simp only; omega) fun s2 w10 h n2 => ?_
      have h := h.drop
      have e : ints (ids C) ++ [Value.int .i64 x.2] = ints (ids (C ++ [x])) := by simp [ids, ints]
      rw [e] at h
      refine hK s2 w10 ⟨C ++ [x], T, E2, by simp, fun y hy => ?_, hp2, h⟩ ?_
      · rcases List.mem_append.1 hy with hy | hy
        · exact hCt y hy
        · simp only [List.mem_singleton] at hy; subst hy; exact hb
      · simp only [List.length_append, List.length_cons]
        dsimp only at n2
        omega
  · have hT : ∀ y ∈ T, ¬ y.1 ≤ now + n := by
      cases T with
      | nil => simp
      | cons x T =>
        have hb := of_decide_eq_false hb
        intro y hy
        rcases List.mem_cons.1 hy with rfl | hy
        · exact hb
        · have := (List.pairwise_cons.1 hsrt).1 y hy
          unfold lt2 at this; omega
    obtain ⟨e1, e2⟩ := cut_is hCt hT
    refine hc hok E1 r w5 ?_ (hs2 ?_)
    · rw [e2]; exact hp1
    · rw [e1]
      exact rfc_shut h
theorem is_s {gr : Nat} {R : List HP} {k : Bool → World → Prop} (hl : S.length ≤ 100000) (hC : CK (now, S)) (hp : E.Perm S) (h : St w0 w (rfc gr (now, E) :: clk g (now, S) :: R)) (hk : ∀ w', St w0 w' (rfc gr (now, E) :: clk g (now, S) :: R) → k true w') : pelotonlaw13_is (some ⟨g, 0, none⟩) (some ⟨gr, 0, none⟩) w k := by
  have hpl := hp.length_eq
  unfold pelotonlaw13_is pelotonlaw13_is_b
  refine next_s (g := g) hC.srt h fun w1 h => ?_
  obtain ⟨s, h⟩ := rfc_open h
  have hsn := St.dlen (s := s) (d := E) h
  have rest : ∀ (i : Int) w2, decide (i ≥ 0) = (nextF S).2.2 → St w0 w2 (blk gr (rcs now s) :: slc 2 s (fl E) :: clk g (now, S) :: R) → ∀ J : Bool → World → Prop, (∀ w', St w0 w' (blk gr (rcs now s) :: slc 2 s (fl E) :: clk g (now, S) :: R) → J false w') →
    drew w2 fun w6 =>
    nn (some ⟨gr, 0, none⟩) fun a7 =>
    ldI .i64 w6 (Addr.add a7 0) fun i8 =>
    clock_Clock_Now (some ⟨g, 0, none⟩) w6 fun i9 w10 =>
    samec 1 (Addr.add a7 0) w6 w10 (
    iteB (i9 != i8) (
      (J (true || (!((nextF S).2.2 == (decide (i ≥ (0 : Int)))))) w10)) (
      nn (some ⟨gr, 0, none⟩) fun a11 =>
      ldS w10 (Addr.add a11 1) fun s12 =>
      clock_Clock_Len (some ⟨g, 0, none⟩) w10 fun i13 w14 =>
      samec 1 (Addr.add a11 1) w10 w14 (
      (J ((i13 != ((s12.n : Nat) : Int)) || (!((nextF S).2.2 == (decide (i ≥ (0 : Int)))))) w14)))) := by
    intro i w2 hi h J hJ
    refine drew_h h fun w3 h => ?_
    refine nn_i (ldI_h (g := gr) (o := 0) h rfl ?_)
    refine now_s (g := g) h (samec_self ?_)
    refine iteB_f (by simp) ?_
    refine nn_i (ldS_h (g := gr) (o := 1) h rfl ?_)
    refine len_s (g := g) h (samec_self ?_)
    have e : ((S.length : Int) != ((s.n : Nat) : Int) || !((nextF S).2.2 == decide (i ≥ 0))) = false := by
      rw [hi, hsn, hpl]; simp
    dsimp only
    rw [e]
    exact hJ _ h
  refine first_raw (by omega) hp hC.srt h (fun w2 hS h => ?_) fun x r w2 i hS hi hx h => ?_
  · subst hS
    refine joinP_i (fun b w' => b = false ∧ St w0 w' (blk gr (rcs now s) :: slc 2 s (fl E) :: clk g (now, []) :: R)) (fun J hJ => ?_) ?_
    · exact rest (-1) w2 rfl h J fun w' h => hJ _ _ ⟨rfl, h⟩
    rintro _ w3 ⟨rfl, h⟩
    refine iteB_f rfl (iteB_t rfl ?_)
    exact hk _ (rfc_shut h)
  · subst hS
    refine joinP_i (fun b w' => b = false ∧ St w0 w' (blk gr (rcs now s) :: slc 2 s (fl E) :: clk g (now, x :: r) :: R)) (fun J hJ => ?_) ?_
    · exact rest i w2 (decide_eq_true (by omega)) h J fun w' h => hJ _ _ ⟨rfl, h⟩
    rintro _ w3 ⟨rfl, h⟩
    refine iteB_f rfl (iteB_f (decide_eq_false (by omega)) ?_)
    refine nn_i (ldS_h (g := gr) (o := 1) h rfl ?_)
    refine ldE0_h (s := s) (d := E) h (by omega) (by omega) ?_
    rw [Int.toNat_natCast, hx]
    refine iteB_t (by simp [nextF]) ?_
    refine nn_i (ldS_h (g := gr) (o := 1) h rfl ?_)
    refine ldE1_h (s := s) (d := E) h (by omega) (by omega) ?_
    rw [Int.toNat_natCast, hx]
    have e : (((nextF (x :: r)).1, ((nextF (x :: r)).2.1, (nextF (x :: r)).2.2)).2.1 == x.2) = true := by simp [nextF]
    rw [e]
    exact hk _ (rfc_shut h)
end
end Go.Proofs.Ytheallacpidcmaa
