/-
  Layer 10: a new deque; the chapter's example.
-/
import Derived.Test.YtheallacpidcmaaQd
import Derived.Test.YtheallacpidcmaaEvP
import Derived.Test.YtheallacpidcmaaEvT
set_option linter.unusedSimpArgs false
set_option linter.unusedVariables false
set_option maxRecDepth 100000
namespace Go.Proofs.Ytheallacpidcmaa
open Go Go.Ev Go.Proofs

def logsOk (log most : Int) : Bool := decide (0 ≤ log ∧ log ≤ most ∧ most ≤ 8)
def pwr (log : Int) : Int := ((2 ^ log.toNat : Nat) : Int)
def Mac.began (M : Mac) (wk log : Int) : Mac := (((M.tick wk).grow (3 + pwr log)).tick wk).put 2 (Rg.word ⟨3, log⟩)
section
variable {w0 w : World} {L : List HP} {gm go : Nat} {M : Mac} {O : Dop} {wk most : Int} {f : HP → List HP}
theorem dnew_s {log : Int} {k : Array Value × Int → World → Prop} (h : St w0 w (mach gm M :: L)) (hM : M.OK) (hcl : M.caller wk = true) (hce : M.cells = [])
    (h1 : logsOk log most = true → M.room (3 + pwr log) = true → ∀ w', St w0 w' (mach gm (M.began wk log) :: L) → k (#[.int .i64 0, .int .i64 most], 0) w')
    (h2 : logsOk log most = true → M.room (3 + pwr log) = false → ∀ w', St w0 w' (mach gm M :: L) → k (#[.int .i64 0, .int .i64 0], 21) w')
    (h3 : logsOk log most = false → ∀ w', St w0 w' (mach gm M :: L) → k (#[.int .i64 0, .int .i64 0], 10) w') : deque_New (some ⟨gm, 0, none⟩) wk log most w k := by
  unfold deque_New deque_New_b
  refine newC_h h fun g1 w2 h => iteB_f rfl (iteB_i (fun hb => ?_) fun hb => ?_)
  · have hlo : logsOk log most = false := by
      unfold logsOk
      simp only [Bool.or_eq_true, decide_eq_true_eq] at hb
      exact decide_eq_false (by omega)
    refine stW_h (g := g1) (vs := agI [0, 0]) h rfl rfl (by intro v hv; simp [agI, ints] at hv; rw [hv]; rfl) fun w5 h => ldW_h (g := g1) h rfl ?_
    exact h3 hlo _ h.drop
  · simp only [Bool.or_eq_false_iff, decide_eq_false_iff_not] at hb
    have hlo : logsOk log most = true := decide_eq_true (by omega)
    refine shlI_i (by omega) ?_
    rw [shl_one (by omega) (by omega)]
    have hp : (2 ^ log.toNat : Nat) ≤ 256 := two_pow_small (by omega)
    have hp0 : 0 < 2 ^ log.toNat := Nat.pow_pos (by omega)
    have hw : IntKind.i64.wrap (3 + ((2 ^ log.toNat : Nat) : Int)) = 3 + pwr log := by
      unfold pwr
      generalize (2 ^ log.toNat : Nat) = m at *
      exact wrap_id ⟨by omega, by omega⟩
    rw [hw]
    have hpw : 1 ≤ pwr log ∧ pwr log ≤ 256 := by
      unfold pwr
      generalize (2 ^ log.toNat : Nat) = m at *
      omega
    refine alloc_s (g := gm) (M := M) h hM (fun _ _ hr w9 h => ?_) (fun _ _ hr => ?_) fun hno => (hno ⟨hcl, by omega⟩).elim
    · refine iteB_f rfl ?_
      rw [hce]
      refine newC_h h fun g12 w13 h => stW_h (g := g12) (vs := agI [0, most]) h rfl rfl (by intro v hv; simp [agI, ints] at hv; rcases hv with rfl | rfl <;> rfl) fun w14 h => ?_
      refine newC_h h fun g15 w16 h => ?_
      have h3e : IntKind.i64.wrap ((((([] : List Int).length : Nat) : Int)) + 3) = 3 := by decide
      have he : #[Value.int .i64 (IntKind.i64.wrap ((((([] : List Int).length : Nat) : Int)) + 3)), .int .i64 log] = agI [3, log] := by rw [h3e]; rfl
      show stA 2 w16 ⟨g15, 0, none⟩ #[Value.int .i64 (IntKind.i64.wrap ((((([] : List Int).length : Nat) : Int)) + 3)), .int .i64 log] _
      rw [he]
      refine stW_h (g := g15) (vs := agI [3, log]) h rfl rfl (by intro v hv; simp [agI, ints] at hv; rcases hv with rfl | rfl <;> rfl) fun w17 h => drew_h h fun w18 h => ?_
      refine ldW_h (g := g12) h rfl ?_
      refine ldW_h (g := g15) h rfl ?_
      have h18 := h
      refine dword_s (most := most) h fun w22 h => samec_h (g := g15) h18 h ?_
      refine word_s (r := ⟨3, log⟩) h fun w24 h => ?_
      refine store_s (g := gm) (M := (M.tick wk).grow (3 + pwr log)) h (fun hcan w26 h => ?_) fun hcan => ?_
      · refine iteB_f rfl ?_
        refine ldW_h (g := g12) h rfl ?_
        refine stW_h (g := g1) h rfl rfl (by intro v hv; simp [agI, ints] at hv; rcases hv with rfl | rfl <;> rfl) fun w30 h => ?_
        refine ldW_h (g := g1) h rfl ?_
        exact h1 hlo hr _ (h.drop.drop.drop)
      · exfalso
        unfold Mac.can Mac.caller Mac.given Mac.grow Mac.tick at hcan
        unfold Mac.caller at hcl
        have hcl' := of_decide_eq_true hcl
        simp only [hce, List.length_set, List.nil_append, List.length_replicate, Bool.and_eq_false_iff, decide_eq_false_iff_not] at hcan
        omega
    · refine iteB_t rfl ?_
      refine stW_h (g := g1) (vs := agI [0, 0]) h rfl rfl (by intro v hv; simp [agI, ints] at hv; rw [hv]; rfl) fun w5 h => ldW_h (g := g1) h rfl ?_
      exact h2 hlo hr _ h.drop

/-- two rows of numbers -/
theorem same_r {s t : Sl} {xs ys : List Int} {k : Bool → World → Prop} (h1 : SlI w s xs) (h2 : SlI w t ys) (hn : s.n ≤ 4611686018427387904) (hc : ∀ w', St w w' [] → k (decide (xs = ys)) w') : pelotonlaw10_same s t w k := by
  have l1 := h1.len; have l2 := h2.len
  unfold pelotonlaw10_same
  refine iteB_i (fun hb => ?_) fun hb => ?_
  · have : s.n ≠ t.n := by have : ¬ (s.n : Int) = t.n := by simpa using hb
                           omega
    have e : decide (xs = ys) = false := by rw [decide_eq_false_iff_not]; rintro rfl; omega
    have := hc w (.nil w)
    rwa [e] at this
  · have hst : s.n = t.n := by have : (s.n : Int) = t.n := by simpa using hb
                               omega
    refine loopP_of (fun (i : Int) w' => ∃ j : Nat, i = j ∧ j ≤ s.n ∧ xs.take j = ys.take j ∧ St w w' []) (fun i _ => ((s.n : Int) - i).toNat) ⟨0, rfl, by omega, by simp, .nil w⟩ ?_
    rintro _ w3 ⟨j, rfl, hj, ht, h⟩ C hC
    refine iteB_i (fun hb => ?_) fun hb => ?_
    · have hlt : j < s.n := by simpa using hb
      refine drew_h h fun w4 h => ?_
      refine ixI h1 (by omega) (by omega) h.ext fun a ha => ?_
      refine ixI h2 (by omega) (by omega) h.ext fun b hb => ?_
      rw [Int.toNat_natCast] at ha hb
      refine iteB_i (fun he => ?_) fun he => ?_
      · have hne : a ≠ b := by simpa using he
        have e : decide (xs = ys) = false := by
          rw [decide_eq_false_iff_not]; rintro rfl
          rw [ha] at hb; exact hne (Option.some.inj hb)
        have := hc w4 h
        rwa [e] at this
      · have hab : a = b := by simpa using he
        subst hab
        have hw1 : IntKind.wrap .i64 ((j : Int) + 1) = ((j + 1 : Nat) : Int) := by rw [wrap_id ⟨by omega, by omega⟩]; simp
        rw [hw1]
        refine hC _ _ ⟨j + 1, rfl, hlt, ?_, h⟩ (by simp; omega)
        rw [List.take_add_one, List.take_add_one, ht, ha, hb]
    · have hge : ¬ j < s.n := by simpa using hb
      have e : decide (xs = ys) = true := by
        rw [decide_eq_true_eq]
        rw [List.take_of_length_le (by omega), List.take_of_length_le (by omega)] at ht
        exact ht
      have := hc w3 h
      rwa [e] at this

/-! ### so many steps -/
def Dop.fineB (O : Dop) : Bool := decide (O.next ≤ 19) && (decide (O.next ≠ 3) || (O.copy.isNone && decide (InI O.b) && decide (InI O.t))) && (decide (O.next ≠ 4) || O.copy.isSome)
def Mac.okB (M : Mac) : Bool := decide (1 ≤ M.size) && decide (M.size ≤ 1048576) && decide ((M.cells.length : Int) ≤ M.size)
theorem fineB_ok (h : O.fineB = true) : O.Fine := by
  unfold Dop.fineB at h
  simp only [Bool.and_eq_true, Bool.or_eq_true, decide_eq_true_eq] at h
  refine ⟨fun h3 => ?_, fun h4 => ?_, h.1.1⟩
  · rcases h.1.2 with q | q
    · exact (q h3).elim
    · exact ⟨by simpa using q.1.1, q.1.2, q.2⟩
  · rcases h.2 with q | q
    · exact (q h4).elim
    · exact Option.isSome_iff_exists.1 q
theorem okB_ok (h : M.okB = true) : M.OK := by
  unfold Mac.okB at h
  simp only [Bool.and_eq_true, decide_eq_true_eq] at h
  exact ⟨⟨h.1.1, h.1.2⟩, h.2⟩
def takesF (wk : Int) : Nat → Dop → Mac → Dop × Mac
  | 0, O, M => (O, M)
  | n + 1, O, M => takesF wk n (O.step M wk).1 (O.step M wk).2
/-- all but the last one leave more to do -/
def takesB (wk : Int) : Nat → Dop → Mac → Bool
  | 0, _, _ => false
  | n + 1, O, M => O.fineB && M.okB && (match n with
    | 0 => true
    | n' + 1 => ((O.step M wk).1.how == 0) && takesB wk (n' + 1) (O.step M wk).1 (O.step M wk).2)
theorem takes_s {n : Nat} {k : Int → World → Prop} (h : St w0 w (opP go O :: mach gm M :: L)) (ht : takesB 1 n O M = true) (hn : n ≤ 1000) (hk : ∀ w', St w0 w' (opP go (takesF 1 n O M).1 :: mach gm (takesF 1 n O M).2 :: L) → k (takesF 1 n O M).1.how w') :
    pelotonlaw10_takes (some ⟨gm, 0, none⟩) (some ⟨go, 0, none⟩) (n : Int) w k := by
  have hn1 : 1 ≤ n := by
    cases n with
    | zero => cases ht
    | succ n => omega
  unfold pelotonlaw10_takes pelotonlaw10_takes_b
  have hwn : IntKind.wrap .i64 ((n : Int) - 1) = ((n - 1 : Nat) : Int) := by rw [wrap_id ⟨by omega, by omega⟩]; omega
  simp only [hwn]
  refine loopP_of (fun (i : Int) w' => ∃ j m O1 M1, i = ((j : Nat) : Int) ∧ j + m = n ∧ takesB 1 m O1 M1 = true ∧ takesF 1 m O1 M1 = takesF 1 n O M ∧ St w0 w' (opP go O1 :: mach gm M1 :: L)) (fun i _ => ((n : Int) - i).toNat) ⟨0, n, O, M, rfl, by omega, ht, rfl, h⟩ ?_
  rintro _ w3 ⟨j, m, O1, M1, rfl, hjm, hB, hFe, h⟩ C hC
  have hw1 : IntKind.wrap .i64 ((j : Int) + 1) = ((j + 1 : Nat) : Int) := by rw [wrap_id ⟨by omega, by omega⟩]; simp
  match m, hB, hFe, hjm with
  | 0, hB, _, _ => cases hB
  | 1, hB, hFe, hjm =>
    unfold takesB at hB
    simp only [Bool.and_eq_true] at hB
    refine iteB_f (by rw [decide_eq_false_iff_not]; omega) (step_r h (fineB_ok hB.1.1) (okB_ok hB.1.2) fun w7 h => ?_)
    have e : takesF 1 1 O1 M1 = O1.step M1 1 := rfl
    rw [← hFe, e] at hk
    exact hk w7 h
  | m + 2, hB, hFe, hjm =>
    unfold takesB at hB
    simp only [Bool.and_eq_true, beq_iff_eq] at hB
    refine iteB_t (by rw [decide_eq_true_eq]; omega) (step_r h (fineB_ok hB.1.1) (okB_ok hB.1.2) fun w5 h => ?_)
    refine iteB_f (by rw [hB.2.1]; rfl) ?_
    rw [hw1]
    exact hC _ _ ⟨j + 1, m + 1, _, _, rfl, by omega, hB.2.2, hFe, h⟩ (by omega)
end
end Go.Proofs.Ytheallacpidcmaa
