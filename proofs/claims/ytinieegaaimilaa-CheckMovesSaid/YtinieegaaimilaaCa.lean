/-
  Layer 4: how many scopes are open; rows of numbers.
-/
import Derived.Test.YtinieegaaimilaaEvU
import Derived.Test.YtinieegaaimilaaEvQ
import Derived.Test.YtinieegaaimilaaFu
set_option linter.unusedSimpArgs false
set_option linter.unusedVariables false
set_option maxRecDepth 100000
namespace Go.Proofs.Ytinieegaaimilaa
open Go Go.Ev Go.Proofs

theorem elI {P : Program} {t : TypeId} (h : elInfo P t = some (1, 8, some (.int .i64 0))) : ElS P t 1 8 (.int .i64 0) := ⟨h, rfl⟩

abbrev opI (x : List Int) : Int := x.getD 0 0
def stepD (n : Int) (x : List Int) : Int := if opI x = 11 then IntKind.wrap .i64 (n + 1) else if opI x = 12 then IntKind.wrap .i64 (n - 1) else n
def depths : Int → List (List Int) → List Int
  | _, [] => []
  | n, x :: l => n :: depths (stepD n x) l
theorem depths_length : ∀ (l : List (List Int)) (n : Int), (depths n l).length = l.length
  | [], _ => rfl
  | x :: l, n => by simp [depths, depths_length l]

/-- one of them -/
theorem ixC {w : World} {s : Sl} {l : List (List Int)} {dn rest : List (List Int)} {x : List Int} {i : Int} {c : Addr → Prop} (h : Code5 w s l) (hl : l = dn ++ x :: rest) (hi : i = (dn.length : Int))
    (hc : ∀ p, x.length = 5 → (∀ j v, (Go.Ev.ints x)[j]? = some v → w.cell? (p.add j) = some v) → c p) : ixS s i 5 c := by
  have hn := h.len.symm
  subst hi
  refine ixR_i h.rws (by omega) (by rw [← hn, hl]; simp; omega) fun p e he hle hcell => ?_
  rw [Int.toNat_natCast, hl] at he
  simp at he
  subst he
  exact hc p ((h.five x (by rw [hl]; simp)).1) hcell
theorem ints_get {x : List Int} {j : Nat} (h : j < x.length) : (Go.Ev.ints x)[j]? = some (.int .i64 (x.getD j 0)) := by
  simp [Go.Ev.ints, h]

theorem depths_s {w : World} {s : Sl} {l : List (List Int)} {k : Sl → World → Prop} (hr : Code5 w s l) (hb : 8 * l.length ≤ 281474976710656)
    (hc : ∀ s' w', St w w' [slc 1 s' (Go.Ev.ints (depths 0 l))] → s'.n = l.length → k s' w') : check_Depths s w k := by
  have hl := hr.len.symm
  unfold check_Depths
  refine mkSl_h (n := s.n) (.nil w) (elI (by kernel_rfl)) rfl (by omega) (by omega) fun s1 w2 h n1 => ?_
  refine loopP_of (fun (x : Int × Int) w' => ∃ dn rest acc n, l = dn ++ rest ∧ x = (n, (dn.length : Int)) ∧ depths 0 l = acc ++ depths n rest ∧ acc.length = dn.length ∧ St w w' [slc 1 s1 (Go.Ev.ints acc ++ List.replicate rest.length (.int .i64 0))])
    (fun x _ => ((s.n : Int) - x.2).toNat) ⟨[], l, [], 0, rfl, rfl, rfl, rfl, by simpa [hl, Go.Ev.ints] using h⟩ ?_
  rintro x w5 ⟨dn, rest, acc, n, hlr, rfl, hd, ha, h⟩ C hC
  cases rest with
  | nil =>
    refine iteB_f (by simp only [decide_eq_false_iff_not]; rw [← hl, hlr]; simp) ?_
    refine hc s1 w5 ?_ (n1.trans hl.symm)
    simp [depths] at hd
    rw [hd]; simpa using h
  | cons x rest =>
    have hlen : l.length = dn.length + (rest.length + 1) := by rw [hlr]; simp
    refine iteB_t (by simp only [decide_eq_true_eq]; omega) ?_
    refine ixC (hr.ext h.ext) hlr rfl fun p h5 hcell => ldA_c (by simp [Go.Ev.ints, h5]) hcell ?_
    refine newC_h h fun g w9 h => ?_
    refine stW_h (g := g) h rfl (by simp [Go.Ev.ints, h5]) (by simp [Go.Ev.ints, Value.oneCell']) fun w10 h => ?_
    refine ixS_h (s := s1) (vs := Go.Ev.ints acc ++ List.replicate (rest.length + 1) (.int .i64 0)) h (by omega) (by omega) (by omega) fun g1 o hg1 hrd hwr => ?_
    refine hwr h inferInstance 0 _ _ (by omega) rfl fun w12 h => ?_
    refine ldI_h (g := g) (o := 0) h (by rw [ints_get (by omega)]) ?_
    have hw1 : IntKind.wrap .i64 ((dn.length : Int) + 1) = ((dn ++ [x]).length : Int) := by rw [wrap_id ⟨by omega, by omega⟩]; simp
    have hset : (Go.Ev.ints acc ++ List.replicate (rest.length + 1) (Value.int .i64 0)).set ((dn.length : Int).toNat * 1 + 0) (Value.int .i64 n) = Go.Ev.ints (acc ++ [n]) ++ List.replicate rest.length (Value.int .i64 0) := by
      have e : (dn.length : Int).toNat * 1 + 0 = (Go.Ev.ints acc).length + 0 := by simp [Go.Ev.ints, ha]
      rw [e, List.set_append_right (h := by omega), Nat.add_sub_cancel_left]
      simp [Go.Ev.ints, List.replicate_succ]
    have h : St w w12 [blk g (Go.Ev.ints x).toArray.toList, slc 1 s1 (Go.Ev.ints (acc ++ [n]) ++ List.replicate rest.length (Value.int .i64 0))] := by rw [← hset]; exact h
    have hgo : ∀ n', n' = stepD n x → C (n', IntKind.wrap .i64 ((dn.length : Int) + 1)) w12 := by
      rintro n' rfl
      rw [hw1]
      refine hC _ _ ⟨dn ++ [x], rest, acc ++ [n], stepD n x, by simp [hlr], rfl, by rw [hd]; simp [depths], by simp [ha], ?_⟩ ?_
      · exact h.drop
      · simp; omega
    unfold stepD at hgo
    refine iteB_i (fun hb => ?_) fun hb => ?_
    · simp only [beq_iff_eq] at hb
      exact hgo _ (by rw [if_pos hb])
    · have hb' : ¬ opI x = 11 := by simpa using hb
      refine iteB_i (fun hb2 => ?_) fun hb2 => ?_
      · have hb2' : opI x = 12 := by simpa using hb2
        exact hgo _ (by rw [if_neg hb', if_pos hb2'])
      · have hb2' : ¬ opI x = 12 := by simpa using hb2
        exact hgo _ (by rw [if_neg hb', if_neg hb2'])

theorem rdepths_s {w : World} {s : Sl} {l : List (List Int)} {k : Sl → World → Prop} (hr : Code5 w s l) (hb : 8 * l.length ≤ 140737488355328)
    (hc : ∀ s' w', St w w' [slc 1 s' (Go.Ev.ints (depths 0 l))] → s'.n = l.length → k s' w') : pelotonref04_Depths s w k := by
  have hl := hr.len.symm
  unfold pelotonref04_Depths
  refine loopP_of (fun (x : Sl × (Int × Int)) w' => ∃ dn rest acc n, l = dn ++ rest ∧ x.2 = (n, (dn.length : Int)) ∧ depths 0 l = acc ++ depths n rest ∧ acc.length = dn.length ∧ x.1.n = dn.length ∧ St w w' [slc 1 x.1 (Go.Ev.ints acc)])
    (fun x _ => ((s.n : Int) - x.2.2).toNat) ⟨[], l, [], 0, rfl, rfl, rfl, rfl, rfl, by simpa [Go.Ev.ints] using (St.nil w).nilS 1⟩ ?_
  rintro ⟨s1, x⟩ w5 ⟨dn, rest, acc, n, hlr, rfl, hd, ha, hn1, h⟩ C hC
  simp only at hn1 h
  cases rest with
  | nil =>
    refine iteB_f (by simp only [decide_eq_false_iff_not]; rw [← hl, hlr]; simp) ?_
    simp [depths] at hd
    refine hc s1 w5 (by rw [hd]; exact h) ?_
    rw [hlr]; simpa using hn1
  | cons x rest =>
    have hlen : l.length = dn.length + (rest.length + 1) := by rw [hlr]; simp
    refine iteB_t (by simp only [decide_eq_true_eq]; omega) ?_
    refine newC_h h fun g w9 h => ?_
    refine bApp_h (s := s1) (x := ⟨some ⟨g, 0, none⟩, 1, 1⟩) (ys := [.int .i64 n]) h (elI (by kernel_rfl)) (by kernel_rfl) (blk_sls (n := 1) (l := [.int .i64 n]) h.blk rfl 1) (by simp [Value.oneCell']) (by simp only; omega) (by simp only; omega) fun s6 w7 h n6 => ?_
    have h := h.drop
    refine ixC (hr.ext h.ext) hlr rfl fun p h5 hcell => ?_
    refine ldI_i (hcell 0 _ (ints_get (by omega))) ?_
    have hw1 : IntKind.wrap .i64 ((dn.length : Int) + 1) = ((dn ++ [x]).length : Int) := by rw [wrap_id ⟨by omega, by omega⟩]; simp
    have hgo : ∀ n', n' = stepD n x → C (s6, (n', IntKind.wrap .i64 ((dn.length : Int) + 1))) w7 := by
      rintro n' rfl
      rw [hw1]
      refine hC _ _ ⟨dn ++ [x], rest, acc ++ [n], stepD n x, by simp [hlr], rfl, by rw [hd]; simp [depths], by simp [ha], by simp only [n6]; simp [hn1], by simpa [Go.Ev.ints] using h⟩ ?_
      simp; omega
    unfold stepD at hgo
    have fin : ∀ m, (opI x = 11 → m = IntKind.wrap .i64 (n + 1)) → (opI x ≠ 11 → m = n) → ixS s ((dn.length : Nat) : Int) 5 fun a13 => ldI .i64 w7 (Addr.add a13 0) fun i14 =>
        iteB (i14 == (12 : Int)) (C (s6, ((IntKind.wrap .i64 (m - (1 : Int))), (IntKind.wrap .i64 (((dn.length : Nat) : Int) + (1 : Int))))) w7) (C (s6, (m, (IntKind.wrap .i64 (((dn.length : Nat) : Int) + (1 : Int))))) w7) := by
      intro m hm1 hm2
      refine ixC (hr.ext h.ext) hlr rfl fun p h5 hcell => ?_
      refine ldI_i (hcell 0 _ (ints_get (by omega))) ?_
      refine iteB_i (fun hb2 => ?_) fun hb2 => ?_
      · have hb2' : opI x = 12 := by simpa using hb2
        refine hgo _ ?_
        rw [if_neg (by omega), if_pos hb2', hm2 (by omega)]
      · have hb2' : ¬ opI x = 12 := by simpa using hb2
        refine hgo _ ?_
        by_cases h11 : opI x = 11
        · rw [if_pos h11, hm1 h11]
        · rw [if_neg h11, if_neg hb2', hm2 h11]
    refine iteB_i (fun hb => ?_) fun hb => ?_
    · have hb' : opI x = 11 := by simpa using hb
      exact fin _ (fun _ => rfl) fun h => (h hb').elim
    · have hb' : ¬ opI x = 11 := by simpa using hb
      exact fin _ (fun h => (hb' h).elim) fun _ => rfl

/-- two rows of numbers -/
theorem eqI_s {w : World} {s t : Sl} {xs ys : List Int} {k : Bool → World → Prop} (h1 : SlI w s xs) (h2 : SlI w t ys) (hn : s.n ≤ 4611686018427387904) (hc : ∀ w', St w w' [] → k (decide (xs = ys)) w') : pelotonlaw04_ints s t w k := by
  have l1 := h1.len; have l2 := h2.len
  unfold pelotonlaw04_ints
  refine iteB_i (fun hb => ?_) fun hb => ?_
  · have : s.n ≠ t.n := by have : ¬ (s.n : Int) = t.n := by simpa using hb
                           omega
    have e : decide (xs = ys) = false := by rw [decide_eq_false_iff_not]; rintro rfl; omega
    have := hc w (.nil w)
    rwa [e] at this
  · have hst : s.n = t.n := by have : (s.n : Int) = t.n := by simpa using hb
                               omega
    refine loopP_of (fun (i : Int) w' => ∃ j : Nat, i = j ∧ j ≤ s.n ∧ xs.take j = ys.take j ∧ St w w' []) (fun i _ => ((s.n : Int) - i).toNat) ⟨0, rfl, by omega, by simp, .nil w⟩ ?_
    rintro _ w3 ⟨j, rfl, hj, ht, h⟩ C hC
    refine iteB_i (fun hb => ?_) fun hb => ?_
    · have hlt : j < s.n := by simpa using hb
      refine drew_h h fun w4 h => ?_
      refine ixI h1 (by omega) (by omega) h.ext fun a ha => ?_
      refine ixI h2 (by omega) (by omega) h.ext fun b hb => ?_
      rw [Int.toNat_natCast] at ha hb
      refine iteB_i (fun he => ?_) fun he => ?_
      · have hne : a ≠ b := by simpa using he
        have e : decide (xs = ys) = false := by
          rw [decide_eq_false_iff_not]; rintro rfl
          rw [ha] at hb; exact hne (Option.some.inj hb)
        have := hc w4 h
        rwa [e] at this
      · have hab : a = b := by simpa using he
        subst hab
        have hw1 : IntKind.wrap .i64 ((j : Int) + 1) = ((j + 1 : Nat) : Int) := by rw [wrap_id ⟨by omega, by omega⟩]; simp
        rw [hw1]
        refine hC _ _ ⟨j + 1, rfl, hlt, ?_, h⟩ (by simp; omega)
        rw [List.take_add_one, List.take_add_one, ht, ha, hb]
    · have hge : ¬ j < s.n := by simpa using hb
      have e : decide (xs = ys) = true := by
        rw [decide_eq_true_eq]
        rw [List.take_of_length_le (by omega), List.take_of_length_le (by omega)] at ht
        exact ht
      have := hc w3 h
      rwa [e] at this
end Go.Proofs.Ytinieegaaimilaa
