/-
  Layer 9: rounds; what is told without a machine.
-/
import Derived.Test.YteipigpapliagaaRd
set_option linter.unusedSimpArgs false
set_option linter.unusedVariables false
set_option maxRecDepth 100000
namespace Go.Proofs.Yteipigpapliagaa
open Go Go.Ev Go.Proofs

theorem pw_dvd {r : Rg} (h : r.right = true) : ((r.pw : Nat) : Int) ∣ 18446744073709551616 := by
  have hr := Rg.right_out h
  refine ⟨((2 ^ (64 - r.Log.toNat) : Nat) : Int), ?_⟩
  unfold Rg.pw
  rw [← Int.natCast_mul, ← Nat.pow_add, show r.Log.toNat + (64 - r.Log.toNat) = 64 by omega]
  rfl
theorem u64_mod (x : Int) : IntKind.u64.wrap x = x % 18446744073709551616 := by
  simp only [IntKind.wrap, IntKind.bits, IntKind.signed]; simp
theorem apart_iff {r : Rg} {i j : Int} (h : r.right = true) : ((IntKind.u64.wrap (IntKind.u64.wrap i - IntKind.u64.wrap j)).tmod (IntKind.u64.wrap r.size) == 0) = (r.place i == r.place j) := by
  have hr := Rg.right_out h
  have hd := pw_dvd h
  have e : r.size = r.pw := by unfold Rg.size; rw [if_pos h]
  rw [e, wrapu (x := ((r.pw : Nat) : Int)) (by omega) (by omega)]
  have hnn : 0 ≤ IntKind.u64.wrap (IntKind.u64.wrap i - IntKind.u64.wrap j) := by rw [u64_mod]; exact Int.emod_nonneg _ (by omega)
  rw [Int.tmod_eq_emod_of_nonneg hnn, u64_mod, Int.emod_emod_of_dvd _ hd, u64_mod, u64_mod]
  unfold Rg.place
  rw [if_pos h, if_pos h, Bool.eq_iff_iff, beq_iff_eq, beq_iff_eq]
  rw [Int.sub_emod, Int.emod_emod_of_dvd _ hd, Int.emod_emod_of_dvd _ hd, ← Int.sub_emod]
  rw [← Int.emod_eq_emod_iff_emod_sub_eq_zero]
  omega

section
variable {w0 w : World} {L : List HP}
theorem law_rounds {s : Rg} {i j : Int} {k : Bool → World → Prop} (h : St w0 w L) (hk : ∀ w', St w0 w' L → k true w') : pelotonlaw09_RingRounds s.ag i j w k := by
  unfold pelotonlaw09_RingRounds pelotonlaw09_RingRounds_b
  refine newC_h h fun g1 w1 hS => ?_
  refine ldI_h hS rfl ?_
  refine ldI_h hS rfl ?_
  refine box_s (r := s) rfl hS fun g2 w2 hS => ?_
  refine ldW_h hS rfl ?_
  have hsz := size_le s
  refine size_s (r := s) hS fun w3 hS => ?_
  by_cases hr : s.right = true
  · have hs1 := size_right hr
    have hro := Rg.right_out hr
    have esz : s.size = s.pw := by unfold Rg.size; rw [if_pos hr]
    have hp0 : (0 : Int) < (s.pw : Nat) := by omega
    have pl : ∀ x, s.place x = s.At + x % s.pw ∧ 0 ≤ x % s.pw ∧ x % s.pw < s.pw := fun x => ⟨by unfold Rg.place; rw [if_pos hr], Int.emod_nonneg x (by omega), Int.emod_lt_of_pos x hp0⟩
    refine iteB_f (by rw [Bool.or_eq_false_iff, decide_eq_false_iff_not, decide_eq_false_iff_not]; omega) ?_
    refine ldW_h hS rfl ?_
    refine place_s (r := s) hS fun w4 hS => ?_
    refine ldW_h hS rfl ?_
    refine place_s (r := s) hS fun w5 hS => ?_
    refine remI_i (by rw [wrapu (by omega) (by omega)]; omega) ?_
    obtain ⟨e1, a1, b1⟩ := pl i
    obtain ⟨e2, a2, b2⟩ := pl j
    refine joinP_i (fun y w' => y = false ∧ w5 = w') ?_ ?_
    · intro J hJ
      refine ldI_h hS rfl (iteB_f (by rw [decide_eq_false_iff_not, e1]; omega) ?_)
      refine ldI_h hS rfl (iteB_f (by rw [decide_eq_false_iff_not, e1, wrap_id ⟨by omega, by omega⟩]; omega) ?_)
      refine ldI_h hS rfl (iteB_f (by rw [decide_eq_false_iff_not, e2]; omega) ?_)
      refine ldI_h hS rfl (hJ _ _ ⟨?_, rfl⟩)
      rw [apart_iff hr, Bool.or_eq_false_iff, decide_eq_false_iff_not]
      refine ⟨by rw [e2, wrap_id ⟨by omega, by omega⟩]; omega, by simp⟩
    rintro _ _ ⟨rfl, rfl⟩
    refine iteB_f rfl (drew_h hS fun w6 hS => ?_)
    refine ldW_h hS rfl ?_
    refine ldI_h hS rfl ?_
    refine place_s (r := s) hS fun w7 hS7 => samec_h hS hS7 ?_
    refine iteB_t ?_ ?_
    · rw [beq_iff_eq, (pl 0).1]; simp
    refine ldW_h hS7 rfl ?_
    refine ldI_h hS7 rfl ?_
    refine place_s (r := s) hS7 fun w8 hS8 => samec_h hS7 hS8 ?_
    refine iteB_t ?_ (awake9_s hS8 fun w9 hS => hk _ hS.drop.drop)
    rw [beq_iff_eq, (pl _).1, esz, wrap_id (x := (s.pw : Int) - 1) ⟨by omega, by omega⟩, wrap_id (x := s.At + s.pw) ⟨by omega, by omega⟩, wrap_id ⟨by omega, by omega⟩, Int.emod_eq_of_lt (by omega) (by omega)]
    omega
  · have hz := (size_wrong hr).1
    refine iteB_t (by rw [hz]; rfl) (iteB_t (by rw [hz]; rfl) ?_)
    refine ldW_h hS rfl ?_
    refine place_s (r := s) hS fun w4 hS => iteB_t ?_ (awake9_s hS fun w9 hS => hk _ hS.drop.drop)
    unfold Rg.place; rw [if_neg hr]; rfl

theorem law_nil {a b : Rg} {p q wk log : Int} {k : Bool → World → Prop} (hp : InI p) (hq : InI q) (h : St w0 w L) (hk : ∀ w', St w0 w' L → k true w') :
    pelotonlaw09_RingNil #[.int .i64 a.At, .int .i64 a.Log, .int .i64 b.At, .int .i64 b.Log] #[.int .i64 p, .int .i64 q] #[.int .i64 wk, .int .i64 log] w k := by
  unfold pelotonlaw09_RingNil pelotonlaw09_RingNil_b
  refine newC_h h fun g1 w1 hS => newC_h hS fun g2 w2 hS => newC_h hS fun g3 w3 hS => ?_
  simp only [add_mk, Nat.zero_add, Nat.add_zero]
  refine ldI_h hS rfl ?_
  refine ldI_h hS rfl ?_
  refine rnew_nil hS fun w4 hS => box_s (r := Rg.zero) rfl hS fun g4 w5 hS => ?_
  refine cnew_s hS (fun _ g w6 hS => ?_) fun h => absurd h (by decide)
  refine ldI_h hS rfl ?_
  unfold ring_Copy_Step ring_Copy_Step_b
  refine iteB_t rfl ?_
  refine joinP_i (fun y w' => y = false ∧ w6 = w') ?_ ?_
  · intro J hJ
    refine iteB_f rfl ?_
    refine ldW_h hS rfl ?_
    exact eq2_i (r := Rg.zero) (s := Rg.zero) (hJ _ _ ⟨rfl, rfl⟩)
  rintro _ _ ⟨rfl, rfl⟩
  refine iteB_f rfl ?_
  refine ldI_h hS rfl ?_
  refine ldI_h hS rfl ?_
  refine box_s (r := a) rfl hS fun g5 w7 hS => ?_
  refine ldI_h hS rfl ?_
  refine ldI_h hS rfl ?_
  refine box_s (r := b) rfl hS fun g6 w8 hS => ?_
  refine ldW_h hS rfl ?_
  refine ldW_h hS rfl ?_
  refine ldI_h hS rfl ?_
  refine ldI_h hS rfl ?_
  have sa := size_le a; have sb := size_le b
  have fin : ∀ {w' : World} {L' : List HP}, St w0 w' (L' ++ L) → pelotonlaw09_awake w' fun b w'' => k b w'' := by
    intro w' L' hS
    refine awake9_s hS fun w'' hS => hk _ ?_
    have : ∀ (L' : List HP), St w0 w'' (L' ++ L) → St w0 w'' L := by
      intro L'
      induction L' with
      | nil => exact id
      | cons x l ih => intro h; exact ih h.drop
    exact this _ hS
  refine copy_s (a := a) (b := b) hp hq hS (fun hE gc w9 hS => ?_) fun hE w9 hS => ?_
  · have hab : a.right = true ∧ b.right = true ∧ ¬ (q < p) := by
      unfold begE at hE
      split at hE
      · omega
      · rename_i h
        split at hE
        · omega
        · cases ha : a.right <;> cases hb : b.right <;> simp_all
    have s1 := size_right hab.1; have s2 := size_right hab.2.1
    refine joinP_i (fun y w' => y = false ∧ St w0 w' (cpy gc (Cp.begin a b p q) :: blk g6 [.int .i64 b.At, .int .i64 b.Log] :: blk g5 [.int .i64 a.At, .int .i64 a.Log] :: mach g (Mac.new 4 1) :: blk g4 [.int .i64 0, .int .i64 0] :: blk g3 [.int .i64 wk, .int .i64 log] :: blk g2 [.int .i64 p, .int .i64 q] :: blk g1 [.int .i64 a.At, .int .i64 a.Log, .int .i64 b.At, .int .i64 b.Log] :: L)) ?_ ?_
    · intro J hJ
      refine ldW_h hS rfl ?_
      refine size_s (r := a) hS fun w10 hS => iteB_f (by simp; omega) ?_
      refine ldW_h hS rfl ?_
      exact size_s (r := b) hS fun w10 hS => hJ _ _ ⟨by simp; omega, hS⟩
    rintro _ w10 ⟨rfl, hS⟩
    refine iteB_f rfl ?_
    refine ldI_h hS rfl ?_
    refine ldI_h hS rfl (iteB_f (by rw [decide_eq_false_iff_not]; exact hab.2.2) (iteB_f rfl ?_))
    refine ldI_h hS rfl ?_
    exact iteB_t rfl (iteB_t rfl (fin (L' := [_, _, _, _, _, _, _, _]) hS))
  · refine joinP_i (fun y w' => y = decide (a.size = 0 ∨ b.size = 0) ∧ St w0 w' (blk g6 [.int .i64 b.At, .int .i64 b.Log] :: blk g5 [.int .i64 a.At, .int .i64 a.Log] :: mach g (Mac.new 4 1) :: blk g4 [.int .i64 0, .int .i64 0] :: blk g3 [.int .i64 wk, .int .i64 log] :: blk g2 [.int .i64 p, .int .i64 q] :: blk g1 [.int .i64 a.At, .int .i64 a.Log, .int .i64 b.At, .int .i64 b.Log] :: L)) ?_ ?_
    · intro J hJ
      refine ldW_h hS rfl ?_
      refine size_s (r := a) hS fun w10 hS => iteB_i (fun h => hJ _ _ ⟨by rw [beq_iff_eq] at h; simp [h], hS⟩) fun h => ?_
      refine ldW_h hS rfl ?_
      refine size_s (r := b) hS fun w10 hS => hJ _ _ ⟨?_, hS⟩
      have h : a.size ≠ 0 := by simpa using h
      rw [Bool.eq_iff_iff, beq_iff_eq, decide_eq_true_eq]
      simp [h]
    rintro _ w10 ⟨rfl, hS⟩
    refine iteB_i (fun h => ?_) fun h => ?_
    · rw [decide_eq_true_eq] at h
      have e : begE a b p q = 1 := by
        unfold begE
        rw [if_pos]
        cases ha : a.right with
        | false => exact .inl rfl
        | true => cases hb : b.right with
          | false => exact .inr rfl
          | true => have := size_right ha; have := size_right hb; omega
      exact iteB_t (by rw [e]; rfl) (fin (L' := [_, _, _, _, _, _, _]) hS)
    · rw [decide_eq_false_iff_not] at h
      have hab : a.right = true ∧ b.right = true := by
        refine ⟨?_, ?_⟩
        · cases ha : a.right with
          | true => rfl
          | false => exact absurd (.inl (size_wrong (by rw [ha]; simp)).1) h
        · cases ha : b.right with
          | true => rfl
          | false => exact absurd (.inr (size_wrong (by rw [ha]; simp)).1) h
      have e : begE a b p q = 10 := by
        unfold begE at hE ⊢
        rw [if_neg (by rw [hab.1, hab.2]; simp)] at hE ⊢
        split at hE
        · rename_i h; rw [if_pos h]
        · exact absurd rfl hE
      refine ldI_h hS rfl ?_
      refine ldI_h hS rfl (iteB_i (fun h => iteB_t (by rw [e]; rfl) (fin (L' := [_, _, _, _, _, _, _]) hS)) fun h => iteB_t (by rw [e]; rfl) (iteB_t (by rw [e]; rfl) (fin (L' := [_, _, _, _, _, _, _]) hS)))
end
end Go.Proofs.Yteipigpapliagaa
