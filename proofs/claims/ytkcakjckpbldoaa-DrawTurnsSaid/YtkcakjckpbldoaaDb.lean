/-
  Layer 17: what its functions do (2).
-/
import Derived.Test.YtkcakjckpbldoaaDa
set_option linter.unusedSimpArgs false
set_option linter.unusedVariables false
set_option maxRecDepth 100000
namespace Go.Proofs.Ytkcakjckpbldoaa
open Go Go.Ev Go.Proofs

theorem succ_wrap {i : Nat} (h : i < 9223372036854775807) : IntKind.i64.wrap ((i : Int) + 1) = ((i + 1 : Nat) : Int) := by rw [wrap_id ⟨by omega, by omega⟩]; simp

/-- same -/
theorem same_s {a b : Sl} {xs ys : List Int} {w : World} {k : Bool → World → Prop} (ha : SlI w a xs) (hb : SlI w b ys) (hm : xs.length ≤ 1000000000000)
    (hk : ∀ w', Ext w w' → k (decide (xs = ys)) w') : pelotonlaw17_same a b w k := by
  have la := SlI.len ha
  have lb := SlI.len hb
  unfold pelotonlaw17_same
  refine iteB_i (fun hne => ?_) (fun he => ?_)
  · have hne : a.n ≠ b.n := by intro e; simp [e] at hne
    have : decide (xs = ys) = false := by
      rw [decide_eq_false_iff_not]; intro e; subst e; omega
    rw [← this]; exact hk _ (.refl _ _)
  · have he : a.n = b.n := by simp at he; omega
    refine loopP_of (fun (x : Int) w' => ∃ i : Nat, x = i ∧ i ≤ xs.length ∧ Ext w w' ∧ ∀ j, j < i → xs[j]? = ys[j]?) (fun x _ => (xs.length - x).toNat) ⟨0, rfl, by omega, .refl _ _, fun j hj => by omega⟩ ?_
    rintro x w1 ⟨i, rfl, hi, he1, hall⟩ C hC
    refine iteB_i (fun hlt => ?_) (fun hge => ?_)
    · have hlt : i < a.n := by simpa using hlt
      refine drew_i fun w2 hh he2 => ?_
      refine ixI (Sls.ext ha (he1.trans he2)) (by omega) (by omega) (.refl _ _) fun x hx => ?_
      refine ixI (Sls.ext hb (he1.trans he2)) (by omega) (by omega) (.refl _ _) fun y hy => ?_
      rw [Int.toNat_natCast] at hx hy
      refine iteB_i (fun h => ?_) (fun h => ?_)
      · have hne : x ≠ y := by simpa using h
        have : decide (xs = ys) = false := by
          rw [decide_eq_false_iff_not]; intro e; subst e; rw [hx] at hy; exact hne (by simpa using hy)
        rw [← this]; exact hk _ (he1.trans he2)
      · have heq : x = y := by simpa using h
        have hw := succ_wrap (i := i) (by omega)
        refine hC _ _ ⟨i + 1, hw, by omega, he1.trans he2, fun j hj => ?_⟩ (by simp only [hw]; omega)
        by_cases hj2 : j = i
        · subst hj2; rw [hx, hy, heq]
        · exact hall j (by omega)
    · have hge : ¬ i < a.n := by simpa using hge
      have : decide (xs = ys) = true := by
        rw [decide_eq_true_iff]
        apply List.ext_getElem?
        intro j
        by_cases hj : j < i
        · exact hall j hj
        · rw [List.getElem?_eq_none (by omega), List.getElem?_eq_none (by omega)]
      rw [← this]; exact hk _ he1

/-- among -/
theorem among_s {bits x : Int} {w : World} {k : Bool → World → Prop} (h0 : 0 ≤ x) (h1 : x < 64) (hk : k (tb bits x.toNat) w) : pelotonref17_among bits x w k := by
  unfold pelotonref17_among
  have hu : IntKind.u64.wrap bits = ((IntKind.u64.wrap bits).toNat : Int) := by
    simp [IntKind.wrap, IntKind.bits, IntKind.signed]
    omega
  refine loopP_of (fun (s : Int × Int) w' => w' = w ∧ ∃ i : Nat, s.2 = i ∧ i ≤ x.toNat ∧ s.1 = ((IntKind.u64.wrap bits).toNat / 2 ^ i : Nat)) (fun s _ => (x - s.2).toNat) ⟨rfl, 0, rfl, by omega, by simpa using hu⟩ ?_
  rintro ⟨a, b⟩ w1 ⟨rfl, i, hb, hi, ha⟩ C hC
  simp only at hb ha
  subst hb; subst ha
  have hlt64 : (IntKind.u64.wrap bits).toNat < 18446744073709551616 := by
    simp [IntKind.wrap, IntKind.bits, IntKind.signed]; omega
  have hle : (IntKind.u64.wrap bits).toNat / 2 ^ i < 18446744073709551616 := Nat.lt_of_le_of_lt (Nat.div_le_self _ _) hlt64
  refine iteB_i (fun hlt => ?_) (fun hge => ?_)
  · have hlt : (i : Int) < x := by simpa using hlt
    have hw := succ_wrap (i := i) (by omega)
    refine hC _ _ ⟨rfl, i + 1, hw, by omega, ?_⟩ (by simp only [hw]; omega)
    simp only [divV]
    rw [Nat.pow_succ, ← Nat.div_div_eq_div_mul]
    generalize (IntKind.u64.wrap bits).toNat / 2 ^ i = q at *
    rw [Int.tdiv_eq_ediv_of_nonneg (by omega)]
    simp only [IntKind.wrap, IntKind.bits, IntKind.signed]
    simp
    omega
  · have hge : ¬ (i : Int) < x := by simpa using hge
    have hi2 : i = x.toNat := by omega
    have e : (remV (((IntKind.u64.wrap bits).toNat / 2 ^ i : Nat) : Int) 2 == 1) = tb bits x.toNat := by
      rw [tb_div, ← hi2]
      unfold remV
      generalize (IntKind.u64.wrap bits).toNat / 2 ^ i = q at *
      rw [Int.tmod_eq_emod_of_nonneg (by omega)]
      rw [Bool.eq_iff_iff]
      simp only [beq_iff_eq, decide_eq_true_eq]
      omega
    simp only
    rw [e]; exact hk

theorem rem_ref {v m : Int} {i : Nat} (hm : 0 < m) (hm2 : m ≤ 16) (hi : (i : Int) < m) : remV (IntKind.i64.wrap (remV (IntKind.i64.wrap (remV v m + i)) m + m)) m = (v + i) % m := by
  have h1 : v.tmod m < m := Int.tmod_lt_of_pos _ hm
  have h2 : -m < v.tmod m := Int.lt_tmod_of_pos v hm
  have e : IntKind.i64.wrap (remV v m + i) = v.tmod m + i := wrap_id ⟨by unfold remV; omega, by unfold remV; omega⟩
  rw [rem_first hm hm2, e]
  rw [Int.tmod_def, show v - m * v.tdiv m + i = v + i - m * v.tdiv m by omega, Int.sub_emod, Int.mul_emod_right]
  simp

/-- rot, element by element -/
theorem rot_map {v : Int} {L : List Int} (hL : 0 < L.length) : rot v L = (List.range L.length).map fun j => L.getD ((v + (j : Nat)) % L.length).toNat 0 := by
  have h0 : 0 ≤ v % L.length := Int.emod_nonneg _ (by omega)
  have h1 : v % L.length < L.length := Int.emod_lt_of_pos _ (by omega)
  have hj : ∀ j : Nat, (v + j) % L.length = (v % L.length + j) % L.length := fun j => by rw [Int.emod_add_emod]
  apply List.ext_getElem?
  intro j
  unfold rot
  by_cases hjl : j < L.length
  · rw [List.getElem?_map, List.getElem?_range hjl]
    simp only [Option.map_some]
    rw [hj j]
    generalize hf : v % (L.length : Int) = f at *
    by_cases hc : j < L.length - f.toNat
    · rw [List.getElem?_append_left (by simp; omega), List.getElem?_drop]
      rw [Int.emod_eq_of_lt (by omega) (by omega)]
      rw [show (f + (j : Int)).toNat = f.toNat + j by omega]
      rw [List.getD_eq_getElem?_getD, List.getElem?_eq_getElem (by omega)]
      rfl
    · rw [List.getElem?_append_right (by simp; omega), List.length_drop, List.getElem?_take_of_lt (by omega)]
      have e : (f + (j : Int)) % L.length = f + j - L.length := by
        rw [← Int.sub_emod_right, Int.emod_eq_of_lt (by omega) (by omega)]
      rw [e, show (f + (j : Int) - L.length).toNat = j - (L.length - f.toNat) by omega]
      rw [List.getD_eq_getElem?_getD, List.getElem?_eq_getElem (by omega)]
      rfl
  · rw [List.getElem?_eq_none (by simp; omega), List.getElem?_eq_none (by simp; omega)]

theorem refOrder_bad {v self n on idle : Int} {w : World} {k : Sl × Int → World → Prop} (h : n < 1 ∨ n > 16 ∨ self < 0 ∨ self ≥ n) (hk : k (⟨none, 0, 0⟩, 10) w) : pelotonref17_Order v self n on idle w k := by
  unfold pelotonref17_Order
  refine iteB_t ?_ hk
  simp
  omega

theorem refOrder_s {v self n on idle : Int} {w : World} {k : Sl × Int → World → Prop} (h1 : 1 ≤ n) (h2 : n ≤ 16) (h3 : 0 ≤ self) (h4 : self < n)
    (hk : ∀ s w', Ext w w' → Own w' w.heap.size s (ints (rot v (mayL self on idle n.toNat))) → k (s, 0) w') : pelotonref17_Order v self n on idle w k := by
  unfold pelotonref17_Order
  refine iteB_f (by simp; omega) ?_
  refine newC_i fun g0 w0 hg0 hs0 hb0 he0 => ?_
  refine joinP_i (fun s w' => Ext w w' ∧ Own w' w.heap.size s (ints (mayL self on idle n.toNat))) ?_ ?_
  · intro J hJ
    refine loopP_of (fun (x : Sl × Int) w' => ∃ i : Nat, x.2 = i ∧ i ≤ n.toNat ∧ Ext w w' ∧ Own w' w.heap.size x.1 (ints (mayL self on idle i))) (fun x _ => (n - x.2).toNat) ⟨0, rfl, by omega, he0, by simpa [mayL, ints] using Own.new (B := w.heap.size) (l := []) (n := 0) hb0 (by omega) rfl (by omega) (by simp)⟩ ?_
    rintro ⟨s, x⟩ w1 ⟨i, hx, hi, he, hown⟩ C hC
    simp only at hx; subst hx
    refine iteB_i (fun hlt => ?_) (fun hge => ?_)
    · have hlt : (i : Int) < n := by simpa using hlt
      refine joinP_i (fun b w2 => w2 = w1 ∧ b = mayB self on idle i) ?_ ?_
      · intro J5 hJ5
        refine iteB_i (fun hne => ?_) (fun heq => ?_)
        · refine among_s (by simp) (by simp; omega) ?_
          refine iteB_i (fun hb => ?_) (fun hb => ?_)
          · refine among_s (by simp) (by simp; omega) (hJ5 _ _ ⟨rfl, ?_⟩)
            simp only [Int.toNat_natCast] at hb ⊢
            simp only [mayB, hne, hb, Bool.true_and]
          · refine hJ5 _ _ ⟨rfl, ?_⟩
            simp only [Int.toNat_natCast] at hb
            simp only [mayB, hb, Bool.false_and, Bool.and_false]
        · refine hJ5 _ _ ⟨rfl, ?_⟩
          simp only [mayB, heq, Bool.false_and]
      · rintro b w2 ⟨rfl, rfl⟩
        have hw := succ_wrap (i := i) (by omega)
        refine iteB_i (fun hb => ?_) (fun hb => ?_)
        · refine newC_i fun g w3 hg hs3 hb3 he3 => ?_
          have hl := mayL_len self on idle i
          refine bApp_i (s := s) (x := ⟨some ⟨g, 0, none⟩, 1, 1⟩) (ys := ints [(i : Int)]) el24 rfl el24.1 (hown.ext he3) (blk_sls (l := [_]) hb3 rfl 1) one_ints (by have := he.size; omega) (by simp; omega) (by simp; omega) fun s' w4 ho' hon hblk => ?_
          refine hC _ _ ⟨i + 1, hw, by omega, ?_, ?_⟩ (by simp only [hw]; omega)
          · exact (he.trans he3).then hon (hown.out (Nat.le_refl _))
          · rw [mayL_succ, if_pos hb]
            simpa [ints] using ho'
        · refine hC _ _ ⟨i + 1, hw, by omega, he, ?_⟩ (by simp only [hw]; omega)
          rw [mayL_succ, if_neg (by simp [hb]), List.append_nil]
          exact hown
    · have hge : ¬ (i : Int) < n := by simpa using hge
      have : i = n.toNat := by omega
      exact hJ _ _ ⟨he, this ▸ hown⟩
  · rintro s w1 ⟨he, hown⟩
    have hl := mayL_len self on idle n.toNat
    have hlen := hown.len
    simp only [ints, List.length_map] at hlen
    generalize hL : mayL self on idle n.toNat = L at *
    refine newC_i fun g2 w2 hg2 hs2 hb2 he2 => ?_
    refine loopP_of (fun (x : Sl × Int) w' => ∃ i : Nat, x.2 = i ∧ i ≤ s.n ∧ Ext w1 w' ∧ Own w' w1.heap.size x.1 (ints ((List.range i).map fun j => L.getD ((v + (j : Nat)) % L.length).toNat 0))) (fun x _ => (s.n - x.2).toNat) ⟨0, rfl, by omega, he2, by simpa [ints] using Own.new (B := w1.heap.size) (l := []) (n := 0) hb2 (by omega) rfl (by omega) (by simp)⟩ ?_
    rintro ⟨so, x⟩ w3 ⟨i, hx, hi, he3, hown3⟩ C hC
    simp only at hx; subst hx
    refine iteB_i (fun hlt => ?_) (fun hge => ?_)
    · have hlt : i < s.n := by simpa using hlt
      refine remI_i (by omega) (remI_i (by omega) (remI_i (by omega) ?_))
      have hr := rem_ref (v := v) (m := s.n) (i := i) (by omega) (by omega) (by omega)
      simp only [remV] at hr
      rw [hr]
      have hf0 : 0 ≤ (v + i) % s.n := Int.emod_nonneg _ (by omega)
      have hf1 : (v + i) % s.n < s.n := Int.emod_lt_of_pos _ (by omega)
      refine ixI ((hown.ext he3).sls) hf0 hf1 (.refl _ _) fun y hy => ?_
      refine newC_i fun g w4 hg hs4 hb4 he4 => ?_
      have hw := succ_wrap (i := i) (by omega)
      refine bApp_i (s := so) (x := ⟨some ⟨g, 0, none⟩, 1, 1⟩) (ys := ints [y]) el24 rfl el24.1 (hown3.ext he4) (blk_sls (l := [_]) hb4 rfl 1) one_ints (by have := he3.size; omega) (by simp; omega) (by simp; omega) fun s' w5 ho' hon hblk => ?_
      refine hC _ _ ⟨i + 1, hw, by omega, ?_, ?_⟩ (by simp only [hw]; omega)
      · exact (he3.trans he4).then hon (hown3.out (Nat.le_refl _))
      · rw [List.range_succ, List.map_append]
        simp only [List.map_cons, List.map_nil]
        rw [hlen, List.getD_eq_getElem?_getD, hy]
        rw [hlen] at ho'
        simpa [ints] using ho'
    · have hge : ¬ i < s.n := by simpa using hge
      have hi : i = L.length := by omega
      refine hk _ _ (he.trans he3) ?_
      subst hi
      by_cases hL0 : L.length = 0
      · have : L = [] := List.eq_nil_of_length_eq_zero hL0
        subst this
        simpa [rot, ints] using hown3.mono he.size
      · rw [rot_map (by omega)]
        exact hown3.mono he.size

end Go.Proofs.Ytkcakjckpbldoaa
