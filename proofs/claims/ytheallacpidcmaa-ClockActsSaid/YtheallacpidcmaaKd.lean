/-
  container/heap, over the clock's deadlines.
-/
import Derived.Test.YtheallacpidcmaaKc
set_option linter.unusedSimpArgs false
set_option linter.unusedVariables false
set_option maxRecDepth 100000
namespace Go.Ev
open Go Go.RowKit
theorem blk_slsN {w : World} {g sz : Nat} {l : List Value} {n : Nat} (hb : Blk w g l.toArray) (hn : l.length = n * sz) (c : Nat) : Sls sz w ⟨some ⟨g, 0, none⟩, n, c⟩ l :=
  ⟨hn, fun i v hv => ⟨_, rfl, by rw [add_mk, hb.cell]; simpa using hv⟩⟩
end Go.Ev
namespace Go.Proofs.Ytheallacpidcmaa
open Go Go.Ev Go.Proofs

/-- the same deadlines, the same ones from n on -/
structure Rl (d d' : DL) (n : Nat) : Prop where
  perm : d'.Perm d
  same : ∀ k, n ≤ k → gd d' k = gd d k
theorem Rl.refl (d : DL) (n : Nat) : Rl d d n := ⟨.refl _, fun _ _ => rfl⟩
theorem Rl.trans {a b c : DL} {n : Nat} (h : Rl a b n) (k : Rl b c n) : Rl a c n := ⟨k.perm.trans h.perm, fun i hi => (k.same i hi).trans (h.same i hi)⟩
theorem Rl.len {a b : DL} {n : Nat} (h : Rl a b n) : b.length = a.length := h.perm.length_eq
theorem Rl.swp {d : DL} {n i j : Nat} (hi : i < n) (hj : j < n) (hn : n ≤ d.length) : Rl d (swp d i j) n :=
  ⟨swp_perm (by omega) (by omega), fun k hk => by rw [gd_swp (by omega) (by omega), if_neg (by omega), if_neg (by omega)]⟩
theorem divpar {j : Nat} (h : j ≤ 2000000) : divV .i64 (IntKind.wrap .i64 ((j : Int) - 1)) 2 = ((par j : Nat) : Int) := by
  unfold divV par
  rw [wrap_id (x := (j : Int) - 1) ⟨by omega, by omega⟩]
  by_cases h0 : j = 0
  · subst h0; rfl
  · have e : (((j : Int) - 1).tdiv 2) = (((j - 1) / 2 : Nat) : Int) := by
      rw [show (j : Int) - 1 = ((j - 1 : Nat) : Int) by omega]; rfl
    rw [e, wrap_id ⟨by omega, by omega⟩]
theorem par_child {k i : Nat} (h1 : 1 ≤ k) (h : par k = i) : k = 2 * i + 1 ∨ k = 2 * i + 2 := by unfold par at h; omega
theorem par_c1 (i : Nat) : par (2 * i + 1) = i := by unfold par; omega
theorem par_c2 (i : Nat) : par (2 * i + 2) = i := by unfold par; omega
section
variable {w0 w : World} {R : List HP} {s : Sl} {d : DL} {g gm : Nat} {now : Int}
theorem up_s {j n : Nat} {c : Unit → World → Prop} (h : St w0 w (blk g (dcs now gm s) :: slc 2 s (fl d) :: R)) (hu : HU d n j) (hn : n ≤ d.length) (hj : j < n) (hl : d.length ≤ 2000000)
    (hc : ∀ d' w', Rl d d' n → HH d' n → St w0 w' (blk g (dcs now gm s) :: slc 2 s (fl d') :: R) → c () w') : container_heap_up (pv g) (j : Int) w c := by
  unfold container_heap_up container_heap_up_b
  refine loopP_of (fun (i : Int) w' => ∃ (jn : Nat) (d' : DL), i = (jn : Int) ∧ jn < n ∧ Rl d d' n ∧ HU d' n jn ∧ St w0 w' (blk g (dcs now gm s) :: slc 2 s (fl d') :: R)) (fun i _ => i.toNat) ⟨j, d, rfl, hj, .refl _ _, hu, h⟩ ?_
  rintro _ w1 ⟨i, d1, rfl, hi, hr, hU, h1⟩ C hC
  have hlen := hr.len
  rw [divpar (by omega)]
  refine joinP_i (fun b w' => b = decide (i = 0 ∨ ¬ lt2 (gd d1 i) (gd d1 (par i))) ∧ St w0 w' (blk g (dcs now gm s) :: slc 2 s (fl d1) :: R)) (fun J hJ => ?_) ?_
  · refine iteB_i (fun hb => ?_) fun hb => ?_
    · have hb : ((par i : Nat) : Int) = i := by simpa using hb
      refine hJ _ _ ⟨(decide_eq_true (.inl ?_)).symm, h1⟩
      unfold par at hb; omega
    · have hb : ((par i : Nat) : Int) ≠ i := by simpa using hb
      have hi0 : 1 ≤ i := by unfold par at hb; omega
      have hp := par_lt hi0
      refine mLess (d := d1) (fun _ _ _ => rfl) h1 ⟨by omega, by omega⟩ ⟨by omega, by omega⟩ fun w2 h2 => ?_
      simp only [Int.toNat_natCast]
      refine hJ _ _ ⟨?_, h2⟩
      rw [Bool.eq_iff_iff]
      simp only [Bool.not_eq_true', decide_eq_false_iff_not, decide_eq_true_eq]
      constructor
      · exact .inr
      · rintro (q | q)
        · omega
        · exact q
  · rintro _ w2 ⟨rfl, h2⟩
    refine iteB_i (fun hb => ?_) fun hb => ?_
    · exact hc d1 w2 hr (hu_end hU (of_decide_eq_true hb)) h2
    · have hb := of_decide_eq_false hb
      have hi0 : 1 ≤ i := by
        rcases Nat.eq_zero_or_pos i with q | q
        · exact (hb (.inl q)).elim
        · exact q
      have hlt : lt2 (gd d1 i) (gd d1 (par i)) := Decidable.not_not.1 fun q => hb (.inr q)
      have hp := par_lt hi0
      refine mSwap (d := d1) (fun _ _ _ => rfl) h2 ⟨by omega, by omega⟩ ⟨by omega, by omega⟩ fun w3 h3 => ?_
      simp only [Int.toNat_natCast] at h3
      exact hC _ _ ⟨par i, _, rfl, by omega, hr.trans (.swp (by omega) (by omega) (by omega)), hu_swap hU (by omega) hi0 (by omega) hlt, h3⟩ (by simpa using hp)
theorem down_s {i0 n : Nat} {c : Bool → World → Prop} (h : St w0 w (blk g (dcs now gm s) :: slc 2 s (fl d) :: R)) (hu : HD d n i0 i0) (hn : n ≤ d.length) (hj : i0 ≤ n) (hl : d.length ≤ 2000000)
    (hc : ∀ b d' w', Rl d d' n → (b = true → HH d' n) → (b = false → HU d' n i0) → St w0 w' (blk g (dcs now gm s) :: slc 2 s (fl d') :: R) → c b w') : container_heap_down (pv g) (i0 : Int) (n : Int) w c := by
  unfold container_heap_down container_heap_down_b
  refine loopP_of (fun (i : Int) w' => ∃ (jn : Nat) (d' : DL), i = (jn : Int) ∧ jn ≤ n ∧ i0 ≤ jn ∧ Rl d d' n ∧ HD d' n i0 jn ∧ St w0 w' (blk g (dcs now gm s) :: slc 2 s (fl d') :: R)) (fun i _ => n - i.toNat) ⟨i0, d, rfl, hj, Nat.le_refl _, .refl _ _, hu, h⟩ ?_
  rintro _ w1 ⟨i, d1, rfl, hi, hi0, hr, hD, h1⟩ C hC
  have hlen := hr.len
  have e1 : IntKind.wrap .i64 (IntKind.wrap .i64 (2 * (i : Int)) + 1) = ((2 * i + 1 : Nat) : Int) := by
    rw [wrap_id (x := 2 * (i : Int)) ⟨by omega, by omega⟩, wrap_id ⟨by omega, by omega⟩]; omega
  have e2 : IntKind.wrap .i64 (((2 * i + 1 : Nat) : Int) + 1) = ((2 * i + 2 : Nat) : Int) := by
    rw [wrap_id ⟨by omega, by omega⟩]; omega
  rw [e1, e2]
  have fin : ∀ w2 (d2 : DL), d2 = d1 → (∀ k, 1 ≤ k → k < n → par k = i → ¬ lt2 (gd d1 k) (gd d1 i)) → St w0 w2 (blk g (dcs now gm s) :: slc 2 s (fl d1) :: R) → c (decide ((i : Int) > (i0 : Int))) w2 := by
    intro w2 _ _ hk h2
    have hE := hd_end hD hk
    refine hc _ d1 w2 hr (fun hb => hE.1 ?_) (fun hb => hE.2 ?_) h2
    · have := of_decide_eq_true hb; omega
    · have := of_decide_eq_false hb; omega
  refine iteB_i (fun hb => ?_) fun hb => ?_
  · have hb : ((2 * i + 1 : Nat) : Int) ≥ n := by
      rcases Bool.or_eq_true_iff.1 hb with q | q
      · exact of_decide_eq_true q
      · have := of_decide_eq_true q; omega
    refine fin w1 d1 rfl (fun k k1 kn kp => ?_) h1
    rcases par_child k1 kp with q | q <;> omega
  · have hb : 2 * i + 1 < n := by
      have := of_decide_eq_false (Bool.or_eq_false_iff.1 hb).1
      omega
    refine joinP_i (fun b w' => b = decide (2 * i + 2 < n ∧ lt2 (gd d1 (2 * i + 2)) (gd d1 (2 * i + 1))) ∧ St w0 w' (blk g (dcs now gm s) :: slc 2 s (fl d1) :: R)) (fun J hJ => ?_) ?_
    · refine iteB_i (fun hb2 => ?_) fun hb2 => ?_
      · have hb2 := of_decide_eq_true hb2
        refine mLess (d := d1) (fun _ _ _ => rfl) h1 ⟨by omega, by omega⟩ ⟨by omega, by omega⟩ fun w2 h2 => ?_
        simp only [Int.toNat_natCast]
        refine hJ _ _ ⟨?_, h2⟩
        rw [decide_eq_decide]
        exact ⟨fun q => ⟨by omega, q⟩, fun q => q.2⟩
      · have hb2 := of_decide_eq_false hb2
        refine hJ _ _ ⟨(decide_eq_false fun q => ?_).symm, h1⟩
        omega
    · rintro b w2 ⟨hbe, h2⟩
      refine joinP_i (fun (x : Int) w' => w' = w2 ∧ ∃ jn : Nat, x = (jn : Int) ∧ jn < n ∧ 1 ≤ jn ∧ par jn = i ∧ ∀ k, 1 ≤ k → k < n → par k = i → ¬ lt2 (gd d1 k) (gd d1 jn)) (fun J hJ => ?_) ?_
      · refine iteB_i (fun hb3 => ?_) fun hb3 => ?_
        · rw [hbe] at hb3
          have hb3 := of_decide_eq_true hb3
          refine hJ _ _ ⟨rfl, 2 * i + 2, rfl, hb3.1, by omega, par_c2 i, fun k k1 kn kp => ?_⟩
          rcases par_child k1 kp with rfl | rfl
          · exact lt2_asymm hb3.2
          · exact lt2_irr _
        · rw [hbe] at hb3
          have hb3 := of_decide_eq_false hb3
          refine hJ _ _ ⟨rfl, 2 * i + 1, rfl, hb, by omega, par_c1 i, fun k k1 kn kp => ?_⟩
          rcases par_child k1 kp with rfl | rfl
          · exact lt2_irr _
          · exact fun q => hb3 ⟨kn, q⟩
      · rintro _ _ ⟨rfl, jn, rfl, hjn, hj1, hjp, hmin⟩
        refine mLess (d := d1) (fun _ _ _ => rfl) h2 ⟨by omega, by omega⟩ ⟨by omega, by omega⟩ fun w3 h3 => ?_
        simp only [Int.toNat_natCast]
        show iteB (!decide (lt2 (gd d1 jn) (gd d1 i))) _ _
        refine iteB_i (fun hb4 => ?_) fun hb4 => ?_
        · have hb4 : ¬ lt2 (gd d1 jn) (gd d1 i) := by simpa using hb4
          exact fin w3 d1 rfl (fun k k1 kn kp => lt2_trans (hmin k k1 kn kp) hb4) h3
        · have hb4 : lt2 (gd d1 jn) (gd d1 i) := by simpa using hb4
          have hpj := par_lt hj1
          rw [hjp] at hpj
          refine mSwap (d := d1) (fun _ _ _ => rfl) h3 ⟨by omega, by omega⟩ ⟨by omega, by omega⟩ fun w4 h4 => ?_
          simp only [Int.toNat_natCast] at h4
          exact hC _ _ ⟨jn, _, rfl, by omega, by omega, hr.trans (.swp (by omega) (by omega) (by omega)), hd_swap hD (by omega) hi0 hj1 hjn hjp hmin hb4, h4⟩ (by simp only [Int.toNat_natCast]; omega)
theorem elD : ElS Go.Proofs.Try.prog 137 2 16 (.agg #[.int .i64 0, .int .i64 0]) := ⟨by kernel_rfl, rfl⟩
/-- one more, behind -/
theorem app1D_s {x : Int × Int} {L : List HP} {f : HP → List HP} {c : Sl → World → Prop} (h : St w0 w L) [a : At L (slc 2 s) (fl d) f] (hn : d.length ≤ 2000000) {gx : Nat} {cs : List Value} {f2 : HP → List HP} [a2 : At L (blk gx) cs f2] (hcs : cs = [.int .i64 x.1, .int .i64 x.2]) (hc : ∀ s' w', St w0 w' (f (slc 2 s' (fl (d ++ [x])))) → c s' w') :
    bApp Go.Proofs.Try.prog #[137, 137] 137 [(.slice s.a s.n s.c), (.slice (some ⟨gx, 0, none⟩) 1 1)] w c := by
  have hl := St.dlen (s := s) (d := d) h
  subst hcs
  refine bApp_h (s := s) (vs := fl d) (x := ⟨some ⟨gx, 0, none⟩, 1, 1⟩) (ys := [.int .i64 x.1, .int .i64 x.2]) h elD (by kernel_rfl) (blk_slsN (n := 1) (l := [.int .i64 x.1, .int .i64 x.2]) (h.blk (g := gx)) rfl 1) (by simp [Value.oneCell']) (by simp only; omega) (by simp only; omega) fun s2 w3 h n2 => ?_
  refine hc s2 w3 ?_
  rw [fl_app]; exact h
theorem dpush_s {x : Int × Int} {c : Unit → World → Prop} (h : St w0 w (blk g (dcs now gm s) :: slc 2 s (fl d) :: R)) (hn : d.length ≤ 2000000)
    (hc : ∀ s' w', St w0 w' (blk g (dcs now gm s') :: slc 2 s' (fl (d ++ [x])) :: R) → c () w') : clock_due_Push (some ⟨g, 1, none⟩) (.iface 144 (.agg #[.int .i64 x.1, .int .i64 x.2])) w c := by
  unfold clock_due_Push
  refine tyA_h (by kernel_rfl) (unT_ag ?_)
  refine newC_h h fun ga w2 h => ?_
  refine stW_h (g := ga) (n := 2) h rfl rfl (by intro v hv; simp at hv; rcases hv with rfl | rfl <;> rfl) fun w3 h => ?_
  refine iteB_t rfl ?_
  refine drew_h h fun w4 h => ?_
  refine nn_i ?_
  refine ldS_h (g := g) (o := 1) h rfl ?_
  refine ldW_h (g := ga) (n := 2) h rfl ?_
  refine spl_i #[.int .i64 x.1, .int .i64 x.2] rfl rfl ?_
  refine newC_h h fun gb w5 h => ?_
  refine samec_B (g := g) (o := 1) (cs := (dcs now gm s).toArray) (St.blk (g := g) (by assumption)) (h.blk (g := g)) ?_
  refine app1D_s (x := x) (s := s) (d := d) (gx := gb) h hn rfl fun s' w6 h => ?_
  refine nn_i ?_
  refine stC_h (g := g) (o := 1) h rfl (by simp) fun w7 h => ?_
  refine hc s' w7 ?_
  have h : St w0 w7 (blk gb _ :: blk ga _ :: blk g (dcs now gm s') :: slc 2 s' (fl (d ++ [x])) :: R) := h
  exact h.drop.drop
theorem gd_last {n : Nat} (hn : n + 1 = d.length) : d = d.take n ++ [gd d n] := by
  have hlt : n < d.length := by omega
  have e : gd d n = d[n] := by unfold gd; rw [List.getD_eq_getElem?_getD, List.getElem?_eq_getElem hlt]; rfl
  rw [e, List.take_append_getElem hlt, List.take_of_length_le (by omega)]
theorem dpop_s {n : Nat} {c : Value → World → Prop} (h : St w0 w (blk g (dcs now gm s) :: slc 2 s (fl d) :: R)) (hl : d.length ≤ 2000000) (hn : n + 1 = d.length)
    (hc : ∀ v s' w', St w0 w' (blk g (dcs now gm s') :: slc 2 s' (fl (d.take n)) :: R) → c v w') : clock_due_Pop (some ⟨g, 1, none⟩) w c := by
  have hsn := St.dlen (s := s) (d := d) h
  have e1 : IntKind.wrap .i64 (((s.n : Nat) : Int) - 1) = ((n : Nat) : Int) := by
    rw [wrap_id ⟨by omega, by omega⟩]; omega
  unfold clock_due_Pop
  refine nn_i (ldS_h (g := g) (o := 1) h rfl ?_)
  refine nn_i (ldS_h (g := g) (o := 1) h rfl ?_)
  dsimp only
  rw [e1]
  refine ldEA_h (d := d) h (by omega) (by omega) ?_
  refine newC_h h fun ga w2 h => ?_
  refine stW_h (g := ga) (n := 2) h rfl rfl (by intro v hv; simp at hv; rcases hv with rfl | rfl <;> rfl) fun w3 h => ?_
  refine nn_i (ldS_h (g := g) (o := 1) h rfl ?_)
  refine slS_h (s := s) (vs := fl d) h (by omega) (by omega) (by omega) fun s' n' h => ?_
  refine nn_i ?_
  refine stC_h (g := g) (o := 1) h rfl (by simp) fun w4 h => ?_
  refine ldW_h (g := ga) (n := 2) h rfl ?_
  refine hc _ s' w4 ?_
  have e2 : ((fl d).drop ((0 : Int).toNat * 2)).take ((((n : Nat) : Int).toNat - (0 : Int).toNat) * 2) = fl (d.take n) := by
    simp only [Int.toNat_natCast, Int.toNat_zero, Nat.zero_mul, List.drop_zero, Nat.sub_zero]
    exact fl_take d n
  rw [e2] at h
  exact h.drop
theorem mPush {orc : Oracle} {x : Int × Int} {c : Value → World → Prop} (ho : ∀ args w c, orc (.func n_clock_due_Push) args w c = d_clock_due_Push args.toList w c) (h : St w0 w (blk g (dcs now gm s) :: slc 2 s (fl d) :: R)) (hn : d.length ≤ 2000000)
    (hc : ∀ s' w', St w0 w' (blk g (dcs now gm s') :: slc 2 s' (fl (d ++ [x])) :: R) → c (.tuple #[]) w') : callM orc Go.Proofs.Try.prog (pv g) "Push" #[.iface 144 (.agg #[.int .i64 x.1, .int .i64 x.2])] w c := by
  refine callP_s (f := n_clock_due_Push) (by kernel_rfl) ?_
  rw [ho, show (#[Value.pointer (some ⟨g, 1, none⟩)] ++ #[Value.iface 144 (.agg #[.int .i64 x.1, .int .i64 x.2])]).toList = [.pointer (some ⟨g, 1, none⟩), .iface 144 (.agg #[.int .i64 x.1, .int .i64 x.2])] by simp]
  show clock_due_Push (some ⟨g, 1, none⟩) (.iface 144 (.agg #[.int .i64 x.1, .int .i64 x.2])) w (fun r w => c (packV (valL [] r)) w)
  exact dpush_s h hn hc
theorem mPop {orc : Oracle} {n : Nat} {c : Value → World → Prop} (ho : ∀ args w c, orc (.func n_clock_due_Pop) args w c = d_clock_due_Pop args.toList w c) (h : St w0 w (blk g (dcs now gm s) :: slc 2 s (fl d) :: R)) (hl : d.length ≤ 2000000) (hn : n + 1 = d.length)
    (hc : ∀ v s' w', St w0 w' (blk g (dcs now gm s') :: slc 2 s' (fl (d.take n)) :: R) → c v w') : callM orc Go.Proofs.Try.prog (pv g) "Pop" #[] w c := by
  refine callP_s (f := n_clock_due_Pop) (by kernel_rfl) ?_
  rw [ho, show (#[Value.pointer (some ⟨g, 1, none⟩)] ++ (#[] : Array Value)).toList = [Value.pointer (some ⟨g, 1, none⟩)] by simp]
  show clock_due_Pop (some ⟨g, 1, none⟩) w (fun r w => c (packV (valL [.raw] r)) w)
  exact dpop_s h hl hn fun v s' w' h => hc v s' w' h
/-- heap.Push -/
theorem hpush_s {x : Int × Int} {c : Unit → World → Prop} (h : St w0 w (blk g (dcs now gm s) :: slc 2 s (fl d) :: R)) (hn : d.length ≤ 1000000) (hh : HH d d.length)
    (hc : ∀ d' s' w', d'.Perm (d ++ [x]) → HH d' d'.length → St w0 w' (blk g (dcs now gm s') :: slc 2 s' (fl d') :: R) → c () w') : container_heap_Push (pv g) (.iface 144 (.agg #[.int .i64 x.1, .int .i64 x.2])) w c := by
  unfold container_heap_Push container_heap_Push_b
  refine mPush (x := x) (fun _ _ _ => rfl) h (by omega) fun s1 w1 h => ?_
  refine mLen (d := d ++ [x]) (fun _ _ _ => rfl) h ?_
  have el : (d ++ [x]).length = d.length + 1 := by simp
  have e1 : IntKind.wrap .i64 (((d ++ [x]).length : Int) - 1) = ((d.length : Nat) : Int) := by
    rw [wrap_id ⟨by omega, by omega⟩]; omega
  show container_heap_up _ (IntKind.wrap .i64 (((d ++ [x]).length : Int) - 1)) w1 (fun u w => c () w)
  rw [e1]
  refine up_s (d := d ++ [x]) (n := d.length + 1) h (hu_push hh) (by omega) (by omega) (by omega) fun d' w' hr hh' h => ?_
  exact hc d' s1 w' hr.perm (by rw [hr.len, el]; exact hh') h
theorem Rl.head {d d' : DL} {n : Nat} (h : Rl d d' n) (hn : n + 1 = d.length) : (gd d n :: d'.take n).Perm d := by
  have hl := h.len
  have e := gd_last (d := d') (n := n) (by omega)
  have := h.perm
  rw [e, h.same n (Nat.le_refl _)] at this
  refine .trans ?_ this
  exact (List.perm_append_comm (l₁ := [gd d n]) (l₂ := d'.take n))
/-- heap.Pop -/
theorem hpop_s {c : Value → World → Prop} (h : St w0 w (blk g (dcs now gm s) :: slc 2 s (fl d) :: R)) (hl : d.length ≤ 1000000) (h0 : 1 ≤ d.length) (hh : HH d d.length)
    (hc : ∀ v d' s' w', (gd d 0 :: d').Perm d → HH d' d'.length → St w0 w' (blk g (dcs now gm s') :: slc 2 s' (fl d') :: R) → c v w') : container_heap_Pop (pv g) w c := by
  obtain ⟨n, hn⟩ : ∃ n, n + 1 = d.length := ⟨d.length - 1, by omega⟩
  unfold container_heap_Pop container_heap_Pop_b
  refine mLen (d := d) (fun _ _ _ => rfl) h ?_
  have e1 : IntKind.wrap .i64 ((d.length : Int) - 1) = ((n : Nat) : Int) := by
    rw [wrap_id ⟨by omega, by omega⟩]; omega
  refine toI_i ?_
  rw [e1]
  refine mSwap (d := d) (fun _ _ _ => rfl) h ⟨by omega, by omega⟩ ⟨by omega, by omega⟩ fun w1 h => ?_
  simp only [Int.toNat_natCast, Int.toNat_zero] at h
  have hsl := swp_len d 0 n
  have hD : HD (swp d 0 n) n 0 0 := by
    rcases Nat.eq_zero_or_pos n with q | q
    · subst q; exact ⟨fun k k1 kn => by omega, fun k k1 kn => by omega⟩
    · exact hd_cut hh hn q
  refine unT_0 ?_
  refine down_s (i0 := 0) (n := n) h hD (by omega) (by omega) (by omega) fun b d' w2 hr ht hf h => ?_
  have hH : HH d' n := by
    cases b
    · exact hu_end (hf rfl) (.inl rfl)
    · exact ht rfl
  have hlen := hr.len
  refine mPop (d := d') (n := n) (fun _ _ _ => rfl) h (by omega) (by omega) fun v s' w3 h => ?_
  refine hc v _ s' w3 ?_ (hh_take hH (by omega)) h
  have := hr.head (by omega)
  rw [gd_swp (by omega) (by omega), if_pos rfl] at this
  exact this.trans (swp_perm (by omega) (by omega))
/-- heap.Remove -/
theorem hrem_s {i : Nat} {c : Value → World → Prop} (h : St w0 w (blk g (dcs now gm s) :: slc 2 s (fl d) :: R)) (hl : d.length ≤ 1000000) (h0 : i < d.length) (hh : HH d d.length)
    (hc : ∀ v d' s' w', (gd d i :: d').Perm d → HH d' d'.length → St w0 w' (blk g (dcs now gm s') :: slc 2 s' (fl d') :: R) → c v w') : container_heap_Remove (pv g) (i : Int) w c := by
  obtain ⟨n, hn⟩ : ∃ n, n + 1 = d.length := ⟨d.length - 1, by omega⟩
  unfold container_heap_Remove container_heap_Remove_b
  refine mLen (d := d) (fun _ _ _ => rfl) h ?_
  have e1 : IntKind.wrap .i64 ((d.length : Int) - 1) = ((n : Nat) : Int) := by
    rw [wrap_id ⟨by omega, by omega⟩]; omega
  refine toI_i ?_
  rw [e1]
  refine iteB_i (fun hb => ?_) fun hb => ?_
  · have hb : (n : Int) ≠ i := by simpa using hb
    have hsl := swp_len d i n
    refine mSwap (d := d) (fun _ _ _ => rfl) h ⟨by omega, by omega⟩ ⟨by omega, by omega⟩ fun w1 h => ?_
    simp only [Int.toNat_natCast] at h
    have fin : ∀ {d' w2} {c : Value → World → Prop} {orc : Oracle}, (∀ args w c, orc (.func n_clock_due_Pop) args w c = d_clock_due_Pop args.toList w c) → (∀ v d' s' w', (gd d i :: d').Perm d → HH d' d'.length → St w0 w' (blk g (dcs now gm s') :: slc 2 s' (fl d') :: R) → c v w') → Rl (swp d i n) d' n → HH d' n → St w0 w2 (blk g (dcs now gm s) :: slc 2 s (fl d') :: R) → callM orc Go.Proofs.Try.prog (pv g) "Pop" #[] w2 c := by
      intro d' w2 c orc ho hc hr hH h
      have hlen := hr.len
      refine mPop (d := d') (n := n) ho h (by omega) (by omega) fun v s' w3 h => ?_
      refine hc v _ s' w3 ?_ (hh_take hH (by omega)) h
      have := hr.head (by omega)
      rw [gd_swp (by omega) (by omega), if_pos rfl] at this
      exact this.trans (swp_perm (by omega) (by omega))
    refine unT_0 ?_
    refine down_s (i0 := i) (n := n) h (hd_cut hh hn (by omega)) (by omega) (by omega) (by omega) fun b d' w2 hr ht hf h => ?_
    have hlen := hr.len
    cases b
    · refine iteB_t rfl ?_
      refine up_s (d := d') (n := n) h (hf rfl) (by omega) (by omega) (by omega) fun d2 w3 hr2 hh2 h => ?_
      exact fin (fun _ _ _ => rfl) hc (hr.trans hr2) hh2 h
    · refine iteB_f rfl ?_
      exact fin (fun _ _ _ => rfl) hc hr (ht rfl) h
  · have hb : (n : Int) = i := by simpa using hb
    have : n = i := by omega
    subst this
    refine mPop (d := d) (n := n) (fun _ _ _ => rfl) h (by omega) hn fun v s' w3 h => ?_
    refine hc v _ s' w3 ((Rl.refl d n).head hn) (hh_take (fun k k1 kn => hh k k1 (by omega)) (by omega)) h
/-- slices.Index -/
theorem idx_s {x : Int × Int} {c : Int → World → Prop} (h : St w0 w (blk g (dcs now gm s) :: slc 2 s (fl d) :: R)) (hl : d.length ≤ 1000000) (hx : x ∈ d)
    (hc : ∀ (i : Nat) w', i < d.length → gd d i = x → St w0 w' (blk g (dcs now gm s) :: slc 2 s (fl d) :: R) → c (i : Int) w') : slices_Index_clock_due_clock_deadline_ s #[.int .i64 x.1, .int .i64 x.2] w c := by
  have hsn := St.dlen (s := s) (d := d) h
  obtain ⟨m, hm, hmx⟩ := List.getElem_of_mem hx
  have hmg : gd d m = x := by unfold gd; rw [List.getD_eq_getElem?_getD, List.getElem?_eq_getElem hm]; exact hmx
  unfold slices_Index_clock_due_clock_deadline_
  refine newC_h h fun ga w1 h => ?_
  refine loopP_of (fun (i : Int) w' => ∃ j : Nat, i = (j : Int) ∧ j ≤ m ∧ St w0 w' (blk ga [.int .i64 x.1, .int .i64 x.2] :: blk g (dcs now gm s) :: slc 2 s (fl d) :: R)) (fun i _ => m - i.toNat) ⟨0, rfl, by omega, h⟩ ?_
  rintro _ w2 ⟨j, rfl, hj, h⟩ C hC
  refine iteB_t (decide_eq_true (by omega)) ?_
  refine drew_h h fun w3 h => ?_
  refine ldW_h (g := ga) (n := 2) h rfl ?_
  refine ldEA_h (d := d) h (by omega) (by omega) ?_
  refine eqA_I (n := 2) (xs := [x.1, x.2]) (ys := [(gd d (j : Int).toNat).1, (gd d (j : Int).toNat).2]) rfl rfl ?_
  refine iteB_i (fun hb => ?_) fun hb => ?_
  · have hb := of_decide_eq_true hb
    simp only [Int.toNat_natCast, List.cons.injEq, and_true] at hb
    exact hc j w3 (by omega) (by rw [Prod.ext_iff]; exact ⟨hb.1.symm, hb.2.symm⟩) h.drop
  · have hb := of_decide_eq_false hb
    simp only [Int.toNat_natCast, List.cons.injEq, and_true] at hb
    have hne : j ≠ m := by rintro rfl; exact hb (by rw [hmg]; exact ⟨rfl, rfl⟩)
    have e : IntKind.wrap .i64 ((j : Int) + 1) = ((j + 1 : Nat) : Int) := by
      rw [wrap_id ⟨by omega, by omega⟩]; omega
    rw [e]
    exact hC _ _ ⟨j + 1, rfl, by omega, h⟩ (by simp only [Int.toNat_natCast]; omega)
end
end Go.Proofs.Ytheallacpidcmaa
