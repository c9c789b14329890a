/-
  Layer 10: a deque: its beginning, its operations' beginnings and ends, what is in it.
-/
import Derived.Test.YtheallacpidcmaaQc
set_option linter.unusedSimpArgs false
set_option linter.unusedVariables false
set_option maxRecDepth 100000
namespace Go.Proofs.Ytheallacpidcmaa
open Go Go.Ev Go.Proofs

theorem st_cast {w0 w : World} {L M : List HP} (h : St w0 w L) (e : L = M) : St w0 w M := e ▸ h
def Dop.beg (most x : Int) (next : Nat) : Dop := ⟨most, 0, 0, Rg.zero, x, false, Rg.zero, none, next, 0, 0, 0⟩
section
variable {w0 w : World} {L : List HP} {gm go : Nat} {M : Mac} {O : Dop} {wk most : Int}
theorem push_s {x : Int} {k : Option Addr → World → Prop} (h : St w0 w L) (hk : ∀ g w', St w0 w' (opP g (Dop.beg most x 0) :: L) → k (some ⟨g, 0, none⟩) w') : deque_Deque_Push #[.int .i64 0, .int .i64 most] x w k := by
  unfold deque_Deque_Push
  refine newC_h h fun g1 w2 h => ldW_h (g := g1) h rfl ⟨rfl, ⟨rfl, ?_⟩⟩
  refine newC_h h fun g6 w7 h => hk g6 w7 ?_
  rw [opP_none rfl]
  exact st_cast (M := blk g6 ((Dop.beg most x 0).cells none) :: L) (h.rm 1 rfl) (by kernel_rfl)
theorem pop_s {k : Option Addr → World → Prop} (h : St w0 w L) (hk : ∀ g w', St w0 w' (opP g (Dop.beg most 0 8) :: L) → k (some ⟨g, 0, none⟩) w') : deque_Deque_Pop #[.int .i64 0, .int .i64 most] w k := by
  unfold deque_Deque_Pop
  refine newC_h h fun g1 w2 h => ldW_h (g := g1) h rfl ⟨rfl, ⟨rfl, ?_⟩⟩
  refine newC_h h fun g6 w7 h => hk g6 w7 ?_
  rw [opP_none rfl]
  exact st_cast (M := blk g6 ((Dop.beg most 0 8).cells none) :: L) (h.rm 1 rfl) (by kernel_rfl)
theorem steal_s {k : Option Addr → World → Prop} (h : St w0 w L) (hk : ∀ g w', St w0 w' (opP g (Dop.beg most 0 15) :: L) → k (some ⟨g, 0, none⟩) w') : deque_Deque_Steal #[.int .i64 0, .int .i64 most] w k := by
  unfold deque_Deque_Steal
  refine newC_h h fun g1 w2 h => ldW_h (g := g1) h rfl ⟨rfl, ⟨rfl, ?_⟩⟩
  refine newC_h h fun g6 w7 h => hk g6 w7 ?_
  rw [opP_none rfl]
  exact st_cast (M := blk g6 ((Dop.beg most 0 15).cells none) :: L) (h.rm 1 rfl) (by kernel_rfl)
theorem opP_ld {f : HP → List HP} {o : Nat} {n : Int} {c : Int → Prop} (h : St w0 w L) [a : At L (opP go) O f] (ho : ∀ p, (O.cells p)[o]? = some (.int .i64 n)) (hc : c n) : ldI .i64 w ⟨go, o, none⟩ c := by
  obtain ⟨R, hout, hin⟩ := a.out
  have h := hout h
  cases q : O.copy with
  | none => rw [opP_none q] at h; exact ldI_h (g := go) (o := o) h (ho _) hc
  | some c => obtain ⟨gc, h⟩ := opP_open q h; exact ldI_h (g := go) (o := o) h (ho _) hc
/-- what is told of it -/
def Dop.tell (O : Dop) : Int := if O.how = 2 ∨ O.how = 1 then O.got else 0
theorem got_s {f : HP → List HP} {k : Int → World → Prop} (h : St w0 w L) [a : At L (opP go) O f] (hk : k O.tell w) : deque_Op_Got (some ⟨go, 0, none⟩) w k := by
  unfold deque_Op_Got
  unfold Dop.tell at hk
  refine joinP_i (fun b w' => b = decide (¬ (O.how = 2 ∨ O.how = 1)) ∧ w' = w) (fun J hJ => ?_) ?_
  · refine iteB_f rfl (nn_i (opP_ld (go := go) (o := 12) (n := O.how) h (fun _ => rfl) (iteB_i (fun hb => ?_) fun hb => ?_)))
    · have hb' : ¬ O.how = 2 := by simpa using hb
      refine nn_i (opP_ld (go := go) (o := 12) (n := O.how) h (fun _ => rfl) (hJ _ _ ⟨?_, rfl⟩))
      rw [Bool.eq_iff_iff, decide_eq_true_eq]; simp [hb']
    · have hb' : O.how = 2 := by simpa using hb
      exact hJ _ _ ⟨by simp [hb'], rfl⟩
  rintro b w7 ⟨rfl, rfl⟩
  refine iteB_i (fun hb => ?_) fun hb => ?_
  · rw [if_neg (of_decide_eq_true hb)] at hk; exact hk
  · rw [if_pos (Classical.byContradiction fun q => of_decide_eq_false hb q)] at hk
    exact nn_i (opP_ld (go := go) (o := 13) (n := O.got) h (fun _ => rfl) hk)
theorem err_s {f : HP → List HP} {k : Int → World → Prop} (h : St w0 w L) [a : At L (opP go) O f] (hk : k O.err w) : deque_Op_Err (some ⟨go, 0, none⟩) w k := by
  unfold deque_Op_Err
  exact iteB_f rfl (nn_i (opP_ld (go := go) (o := 14) (n := O.err) h (fun _ => rfl) hk))

/-! ### a run -/
inductive Runs (wk : Int) : Nat → Dop → Mac → Dop → Mac → Prop
  | last {O : Dop} {M : Mac} : O.Fine → M.OK → (O.step M wk).1.live = false → Runs wk 1 O M (O.step M wk).1 (O.step M wk).2
  | more {O : Dop} {M : Mac} {n : Nat} {O' : Dop} {M' : Mac} : O.Fine → M.OK → (O.step M wk).1.live = true → Runs wk n (O.step M wk).1 (O.step M wk).2 O' M' → Runs wk (n + 1) O M O' M'
theorem Runs.pos {n : Nat} {O' : Dop} {M' : Mac} (h : Runs wk n O M O' M') : 1 ≤ n := by cases h <;> omega
theorem run_s {n : Nat} {O' : Dop} {M' : Mac} {k : Int → World → Prop} (h : St w0 w (opP go O :: mach gm M :: L)) (hr : Runs wk n O M O' M') (hn : n ≤ 300) (hk : ∀ w', St w0 w' (opP go O' :: mach gm M' :: L) → k O'.how w') : pelotonlaw10_run (some ⟨gm, 0, none⟩) (some ⟨go, 0, none⟩) wk w k := by
  unfold pelotonlaw10_run pelotonlaw10_run_b
  refine loopP_of (fun (i : Int) w' => ∃ j n1 O1 M1, i = ((j : Nat) : Int) ∧ j + n1 ≤ 300 ∧ Runs wk n1 O1 M1 O' M' ∧ St w0 w' (opP go O1 :: mach gm M1 :: L)) (fun i _ => (300 - i).toNat) ⟨0, n, O, M, rfl, by omega, hr, h⟩ ?_
  rintro _ w3 ⟨j, n1, O1, M1, rfl, hjn, hr, h⟩ C hC
  have hp := hr.pos
  have hw1 : IntKind.wrap .i64 ((j : Int) + 1) = ((j + 1 : Nat) : Int) := by rw [wrap_id ⟨by omega, by omega⟩]; simp
  refine iteB_t (by rw [decide_eq_true_eq]; omega) ?_
  have lv : ∀ {x : Int} {b : Bool}, ((x == 0) || (x == 2)) = b → ((x != 0) && (x != 2)) = !b := by
    intro x b h; rw [← h]; simp [bne]
  cases hr with
  | last hf hM hl =>
    refine step_r h hf hM fun w5 h => ?_
    rw [lv hl]
    exact iteB_t rfl (hk w5 h)
  | @more _ _ n2 _ _ hf hM hl hr =>
    refine step_r h hf hM fun w5 h => ?_
    rw [lv hl]
    refine iteB_f rfl ?_
    rw [hw1]
    exact hC _ _ ⟨j + 1, n2, _, _, rfl, by omega, hr, h⟩ (by omega)

/-! ### what is in it -/
theorem mkSl0_h {P : Program} {t : TypeId} {b : Nat} {z : Value} {n : Nat} {kl kc : IntKind} {c : Sl → World → Prop} (h : St w0 w L) (ht : ElS P t 1 b z) (hz1 : z.oneCell' = true)
    (hbytes : b * n ≤ 281474976710656) (h63 : n ≤ 9223372036854775807)
    (hc : ∀ s w', St w0 w' (slc 1 s [] :: L) → s.n = 0 → c s w') : mkSl P t (.int kl 0) (.int kc (n : Int)) w c := by
  obtain ⟨e, i, hte, hi, hsz, hby, hzi⟩ := ht.out
  have hb' : (i.bytes : Int) * (n : Int) ≤ 281474976710656 := by
    have h : ((b * n : Nat) : Int) ≤ 281474976710656 := by omega
    rw [Int.natCast_mul] at h
    rwa [hby]
  have hr := Go.run_make (P := P) w t e i z hte hi hzi kl kc 0 n (by omega) (by omega) hb' (by omega)
  unfold mkSl
  rw [hr, hsz, Nat.mul_one]
  show c ⟨some ⟨w.heap.size, 0, none⟩, 0, n⟩ _
  refine hc _ _ (h.new (ext_alloc w _) (F' := fun k => k = w.heap.size) ⟨fun k => ?_, ⟨rfl, by simp, by simpa using h63, by simp, .inr ⟨w.heap.size, 0, _, rfl, Blk.new w _ e, ?_, by simp⟩⟩⟩ fun k hk => by rw [hk]; exact Nat.le_refl _) rfl
  · simp [Sl.blk, eq_comm]
  · rw [cells_one hz1]; simp [madeCells]
def Mac.peek (M : Mac) (a : Int) : Int := if M.given a then M.get a else 0
theorem peek_r {a' : Int} {f : HP → List HP} {k : Int → World → Prop} (h : St w0 w L) [a : At L (mach gm) M f] (hk : k (M.peek a') w) : cells_Machine_Peek (some ⟨gm, 0, none⟩) a' w k := peek_s (g := gm) (M := M) h hk
def Mac.listOf (M : Mac) (r : Rg) (t : Int) (n : Nat) : List Int := (List.range n).map fun (i : Nat) => M.peek (r.place (t + (i : Int)))
def Mac.list (M : Mac) : List Int := if (Rg.of (M.peek 2)).right = true ∧ M.peek 0 < M.peek 1 ∧ M.peek 1 - M.peek 0 ≤ (Rg.of (M.peek 2)).size then M.listOf (Rg.of (M.peek 2)) (M.peek 0) (M.peek 1 - M.peek 0).toNat else []
theorem listOf_succ (M : Mac) (r : Rg) (t : Int) (n : Nat) : M.listOf r t (n + 1) = M.listOf r t n ++ [M.peek (r.place (t + (n : Int)))] := by
  unfold Mac.listOf; rw [List.range_succ, List.map_append]; rfl
theorem list_s {k : Sl → World → Prop} (h : St w0 w (mach gm M :: L)) (h0 : InI (M.peek 0)) (h1 : InI (M.peek 1)) (hk : ∀ s w', St w0 w' (slc 1 s (ints M.list) :: mach gm M :: L) → k s w') : deque_Deque_List #[.int .i64 0, .int .i64 most] (some ⟨gm, 0, none⟩) w k := by
  unfold deque_Deque_List deque_Deque_List_b
  refine newC_h h fun g1 w2 h => iteB_f rfl (ldW_h (g := g1) h rfl ?_)
  refine dword_s (most := most) h fun w5 h => ?_
  refine peek_r (gm := gm) (M := M) h ?_
  refine of_s h fun w9 h => ?_
  generalize hr : Rg.of (M.peek 2) = r
  have hlist : M.list = if r.right = true ∧ M.peek 0 < M.peek 1 ∧ M.peek 1 - M.peek 0 ≤ r.size then M.listOf r (M.peek 0) (M.peek 1 - M.peek 0).toNat else [] := by unfold Mac.list; rw [hr]
  have step : ∀ (a : Rg) (e : Int), (e = 0 ↔ r.right = true) → (e = 0 → a = r) → ∀ w9, St w0 w9 (blk g1 [.int .i64 0, .int .i64 most] :: mach gm M :: L) → newC w9 #[(.int .i64 (0 : Int)), (.int .i64 (0 : Int))] 62 fun a10 w11 =>
    stA 2 w11 a10 a.ag fun w12 =>
    drew w12 fun w13 =>
    ldA 2 w13 ⟨g1, 0, none⟩ fun cs14 =>
    ldA 2 w13 ⟨g1, 0, none⟩ fun cs15 =>
    deque_Deque_top cs14 w13 fun i16 w17 =>
    samec 2 ⟨g1, 0, none⟩ w13 w17 (
    cells_Machine_Peek (some ⟨gm, 0, none⟩) i16 w17 fun i18 w19 =>
    samec 2 ⟨g1, 0, none⟩ w13 w19 (
    deque_Deque_bottom cs15 w19 fun i20 w21 =>
    cells_Machine_Peek (some ⟨gm, 0, none⟩) i20 w21 fun i22 w23 =>
    joinP (S := Bool) (fun J24 =>
      iteB ((e != (0 : Int)) || (decide (i22 ≤ i18))) (
        (J24 true w23)) (
        ldA 2 w23 a10 fun cs25 =>
        ring_Ring_Size cs25 w23 fun i26 w27 =>
        (J24 (decide ((IntKind.wrap .u64 ((IntKind.wrap .u64 i22) - (IntKind.wrap .u64 i18))) > (IntKind.wrap .u64 i26))) w27))) fun b28 w29 =>
    iteB b28 (
      (k (Sl.mk none 0 0) w29)) (
      mkSl Go.Proofs.Try.prog 23 (.int .i64 (0 : Int)) (.int .i64 (IntKind.wrap .i64 (i22 - i18))) w29 fun s30 w31 =>
      loopP (S := (Sl × Int)) (fun C32 x33 w34 =>
        iteB (decide (x33.2 < i22)) (
          ldA 2 w34 a10 fun cs35 =>
          ring_Ring_Place cs35 x33.2 w34 fun i36 w37 =>
          cells_Machine_Peek (some ⟨gm, 0, none⟩) i36 w37 fun i38 w39 =>
          newC w39 #[(.int .i64 i38)] 2 fun a40 w41 =>
          bApp Go.Proofs.Try.prog #[23, 23] 23 [(.slice x33.1.a x33.1.n x33.1.c), (.slice (some a40) 1 1)] w41 fun s42 w43 =>
          (C32 (s42, (IntKind.wrap .i64 (x33.2 + (1 : Int)))) w43)) (
          (k x33.1 w34))) (s30, i18) w31))) := by
    intro a e he ha w9 h
    refine newC_h h fun g10 w11 h => stW_h (g := g10) h rfl rfl (by intro v hv; simp [Rg.ag] at hv; rcases hv with rfl | rfl <;> rfl) fun w12 h => drew_h h fun w13 h => ?_
    have h : St w0 w13 (blk g10 a.ag.toList :: blk g1 [.int .i64 0, .int .i64 most] :: mach gm M :: L) := h
    refine ldW_h (g := g1) h rfl (ldW_h (g := g1) h rfl ?_)
    have h13 := h
    refine top_s (most := most) h fun w17 h => samec_h h13 h ?_
    refine peek_r (gm := gm) (M := M) h (samec_h h13 h ?_)
    refine bottom_s (most := most) h fun w21 h => ?_
    refine peek_r (gm := gm) (M := M) h ?_
    refine joinP_i (fun b w' => b = !decide (r.right = true ∧ M.peek 0 < M.peek 1 ∧ M.peek 1 - M.peek 0 ≤ r.size) ∧ St w0 w' (blk g10 a.ag.toList :: blk g1 [.int .i64 0, .int .i64 most] :: mach gm M :: L)) (fun J hJ => ?_) ?_
    · refine iteB_i (fun hb => ?_) fun hb => ?_
      · refine hJ _ _ ⟨?_, h⟩
        rw [decide_eq_false]; · rfl
        rintro ⟨q1, q2, q3⟩
        rw [he.2 q1] at hb
        simp at hb; omega
      · rw [Bool.or_eq_false_iff] at hb
        have he0 : e = 0 := by simpa using hb.1
        have hlt := of_decide_eq_false hb.2
        obtain rfl := ha he0
        refine ldW_h (g := g10) h rfl (size_s (r := a) h fun w27 h => hJ _ _ ⟨?_, h⟩)
        have hsz := size_le a
        rw [wrapu_sub h1 h0 (by omega), wrapu (x := a.size) (by omega) (by omega), Bool.eq_iff_iff, decide_eq_true_eq, Bool.not_eq_true', decide_eq_false_iff_not]
        have := he.1 he0
        exact ⟨fun q q2 => by omega, fun q => Classical.byContradiction fun q2 => q ⟨this, by omega, by omega⟩⟩
    rintro b28 w29 ⟨rfl, h⟩
    refine iteB_i (fun hb => ?_) fun hb => ?_
    · have hno := of_decide_eq_false ((Bool.not_eq_true' _).mp hb)
      rw [if_neg hno] at hlist
      refine hk _ _ ?_
      rw [hlist]
      exact (h.drop.drop).nilS 1
    · have hyes := of_decide_eq_true ((Bool.not_eq_false' _).mp hb)
      rw [if_pos hyes] at hlist
      obtain ⟨hr1, hlt, hle⟩ := hyes
      have hsz := size_le r
      obtain rfl := ha (he.2 hr1)
      have hI0 := h0; have hI1 := h1
      unfold InI at hI0 hI1
      have hd : IntKind.wrap .i64 (M.peek 1 - M.peek 0) = M.peek 1 - M.peek 0 := wrap_id ⟨by omega, by omega⟩
      rw [hd]
      obtain ⟨d, hdn⟩ : ∃ d : Nat, M.peek 1 - M.peek 0 = (d : Int) := ⟨(M.peek 1 - M.peek 0).toNat, by omega⟩
      rw [hdn] at hlist ⊢
      rw [Int.toNat_natCast] at hlist
      refine mkSl0_h (n := d) h (elI (by kernel_rfl)) rfl (by omega) (by omega) fun s30 w31 h n30 => ?_
      refine loopP_of (fun (x : Sl × Int) w' => ∃ j : Nat, x.2 = M.peek 0 + j ∧ j ≤ d ∧ x.1.n = j ∧ St w0 w' (slc 1 x.1 (ints (M.listOf a (M.peek 0) j)) :: blk g10 a.ag.toList :: blk g1 [.int .i64 0, .int .i64 most] :: mach gm M :: L)) (fun x _ => (M.peek 1 - x.2).toNat) ⟨0, by simp, by omega, n30, by simpa [Mac.listOf, ints] using h⟩ ?_
      rintro ⟨s1, i⟩ w34 ⟨j, hj, hjd, hn1, h⟩ C hC
      dsimp only at hj hn1 h ⊢
      subst hj
      refine iteB_i (fun hb => ?_) fun hb => ?_
      · have hlt2 : j < d := by have := of_decide_eq_true hb; omega
        have hw1 : IntKind.wrap .i64 (M.peek 0 + (j : Int) + 1) = M.peek 0 + ((j + 1 : Nat) : Int) := by rw [wrap_id ⟨by omega, by omega⟩]; omega
        refine ldW_h (g := g10) h rfl (place_s (r := a) h fun w37 h => ?_)
        refine peek_r (gm := gm) (M := M) h ?_
        refine newC_h h fun g40 w41 h => ?_
        refine bApp_h (s := s1) (vs := ints (M.listOf a (M.peek 0) j)) (x := ⟨some ⟨g40, 0, none⟩, 1, 1⟩) (ys := [.int .i64 (M.peek (a.place (M.peek 0 + (j : Int))))]) h (elI (by kernel_rfl)) (by kernel_rfl) (blk_sls (n := 1) (l := [.int .i64 (M.peek (a.place (M.peek 0 + (j : Int))))]) h.blk rfl 1) (by simp [Value.oneCell']) (by simp only; omega) (by simp only; omega) fun s42 w43 h n42 => ?_
        rw [hw1]
        refine hC _ _ ⟨j + 1, rfl, hlt2, by simp only at n42; dsimp only; omega, ?_⟩ (by dsimp only; omega)
        have e : ints (M.listOf a (M.peek 0) (j + 1)) = ints (M.listOf a (M.peek 0) j) ++ [.int .i64 (M.peek (a.place (M.peek 0 + (j : Int))))] := by rw [listOf_succ]; simp [ints]
        rw [e]; exact h.drop
      · have hjd : j = d := by have := of_decide_eq_false hb; omega
        subst hjd
        refine hk _ _ ?_
        rw [hlist]
        exact (h.rm 1 rfl).rm 1 rfl
  cases hrr : r.right with
  | true => rw [if_pos rfl]; exact step r 0 (by simp [hrr]) (fun _ => rfl) w9 h
  | false => rw [if_neg (by simp)]; exact step Rg.zero 11 (by simp [hrr]) (fun q => by cases q) w9 h
end
end Go.Proofs.Ytheallacpidcmaa
