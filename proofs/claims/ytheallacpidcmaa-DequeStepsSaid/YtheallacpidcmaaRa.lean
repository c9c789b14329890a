/-
  Layer 9: rings, their sizes, places and words.
-/
import Derived.Test.YtheallacpidcmaaCe
set_option linter.unusedSimpArgs false
set_option linter.unusedVariables false
set_option maxRecDepth 100000
namespace Go.Proofs.Ytheallacpidcmaa
open Go Go.Ev Go.Proofs

/-! ### words -/
theorem two_pow_small {n : Nat} (h : n ≤ 8) : (2 : Nat) ^ n ≤ 256 := Nat.le_trans (Nat.pow_le_pow_right (by omega) h) (by decide)
theorem bv_small {m : Nat} (h : m < 2 ^ 63) : (bv (m : Int)).toNat = m := by
  rw [BitVec.toNat_ofInt]; omega
theorem toInt_small {b : BitVec 64} (h : b.toNat < 2 ^ 63) : b.toInt = b.toNat := by
  rw [BitVec.toInt_eq_toNat_cond]; split <;> omega
theorem and_mask {x : Int} {n : Nat} (h : n ≤ 62) : andI .i64 x (((2 ^ n - 1 : Nat)) : Int) = x % ((2 ^ n : Nat) : Int) := by
  have hp : 2 ^ n ≤ 2 ^ 62 := Nat.pow_le_pow_right (by omega) h
  have hp0 : 0 < 2 ^ n := Nat.pow_pos (by omega)
  rw [andI_bv]
  have e1 : (bv x &&& bv ((2 ^ n - 1 : Nat) : Int)).toNat = (bv x).toNat % 2 ^ n := by
    rw [BitVec.toNat_and, bv_small (by omega), Nat.and_two_pow_sub_one_eq_mod]
  have hlt := Nat.mod_lt (bv x).toNat hp0
  rw [toInt_small (by rw [e1]; omega), e1]
  rw [BitVec.toNat_ofInt]
  have hd : ((2 ^ n : Nat) : Int) ∣ ((2 ^ 64 : Nat) : Int) := by
    refine ⟨((2 ^ (64 - n) : Nat) : Int), ?_⟩
    rw [← Int.natCast_mul, ← Nat.pow_add]
    congr 2; omega
  have hnn : 0 ≤ x % ((2 ^ 64 : Nat) : Int) := Int.emod_nonneg _ (by omega)
  rw [Int.natCast_emod, Int.toNat_of_nonneg hnn, Int.emod_emod_of_dvd _ hd]
theorem shr4 (x : Int) : shrV .i64 x 4 = x / 16 := by
  unfold shrV
  have e : min (4 : Int).toNat IntKind.i64.bits = 4 := by decide
  rw [e, Int.fdiv_eq_ediv_of_nonneg _ (by decide)]
  rfl
theorem and15 (x : Int) : andI .i64 x 15 = x % 16 := by
  have := and_mask (x := x) (n := 4) (by omega)
  exact this
theorem shl4 {x : Int} (h0 : 0 ≤ x) (h1 : x ≤ 1048576) : shlV .i64 x 4 = 16 * x := by
  unfold shlV
  have e : min (4 : Int).toNat IntKind.i64.bits = 4 := by decide
  rw [e, wrap_id ⟨by omega, by omega⟩]; omega
theorem or16 {a l : Nat} (ha : a ≤ 1048576) (hl : l < 16) : orI .i64 (16 * (a : Int)) (l : Int) = 16 * a + l := by
  rw [orI_bv]
  have e1 : (bv (16 * (a : Int)) ||| bv (l : Int)).toNat = 16 * a + l := by
    rw [BitVec.toNat_or, bv_small (by omega)]
    have : (bv (16 * (a : Int))).toNat = 16 * a := by
      have := bv_small (m := 16 * a) (by omega)
      rw [← this]; simp
    rw [this]
    have h2 := Nat.shiftLeft_add_eq_or_of_lt (i := 4) (b := l) (by omega) a
    rw [Nat.shiftLeft_eq] at h2
    rw [Nat.mul_comm 16 a]
    exact h2.symm
  rw [toInt_small (by rw [e1]; omega), e1]; simp
theorem shl_one {l : Int} (h0 : 0 ≤ l) (h1 : l ≤ 8) : shlV .i64 1 l = ((2 ^ l.toNat : Nat) : Int) := by
  unfold shlV
  have e : min l.toNat IntKind.i64.bits = l.toNat := by simp [IntKind.bits]; omega
  have := two_pow_small (n := l.toNat) (by omega)
  have e2 : ((2 : Int) ^ l.toNat) = ((2 ^ l.toNat : Nat) : Int) := by simp
  rw [e, Int.one_mul, e2]
  generalize (2 ^ l.toNat : Nat) = m at *
  exact wrap_id ⟨by omega, by omega⟩

/-! ### the plain functions -/
/-- a ring: its first cell, and its size as a power of two -/
structure Rg where
  At : Int
  Log : Int
  deriving DecidableEq
namespace Rg
abbrev ag (r : Rg) : Array Value := #[.int .i64 r.At, .int .i64 r.Log]
def pw (r : Rg) : Nat := 2 ^ r.Log.toNat
def right (r : Rg) : Bool := decide (0 ≤ r.Log ∧ r.Log ≤ 8 ∧ 0 ≤ r.At ∧ r.At ≤ 1048576 - r.pw)
def size (r : Rg) : Int := if r.right then r.pw else 0
def place (r : Rg) (i : Int) : Int := if r.right then r.At + i % r.pw else -1
def word (r : Rg) : Int := if r.right then 16 * r.At + r.Log else -1
def of (word : Int) : Rg := ⟨word / 16, word % 16⟩
def zero : Rg := ⟨0, 0⟩
end Rg
theorem Rg.right_out {r : Rg} (h : r.right = true) : 0 ≤ r.Log ∧ r.Log ≤ 8 ∧ 0 ≤ r.At ∧ r.At ≤ 1048576 - r.pw ∧ 1 ≤ r.pw ∧ r.pw ≤ 256 := by
  unfold Rg.right at h
  simp only [decide_eq_true_eq] at h
  have h1 : r.pw ≤ 256 := two_pow_small (by omega)
  have h2 : 0 < r.pw := Nat.pow_pos (by omega)
  omega

section
variable {w0 w : World} {L : List HP} {r : Rg}
theorem right_s {k : Bool → World → Prop} (h : St w0 w L) (hk : ∀ w', St w0 w' L → k r.right w') : ring_Ring_right r.ag w k := by
  unfold ring_Ring_right
  have hk := fun w' h' => hk w' h'
  refine newC_h h fun g w1 hS => drew_h hS fun w2 hS => ?_
  have fin : ∀ b, b = r.right → k b w2 := fun b e => by rw [e]; exact hk w2 hS.drop
  unfold Rg.right at fin
  refine ldI_h hS rfl (iteB_i (fun h1 => ?_) fun h1 => fin _ (by rw [decide_eq_false_iff_not] at h1; exact (decide_eq_false (by omega)).symm))
  refine ldI_h hS rfl (iteB_i (fun h2 => ?_) fun h2 => fin _ (by rw [decide_eq_false_iff_not] at h2; exact (decide_eq_false (by omega)).symm))
  refine ldI_h hS rfl (iteB_i (fun h3 => ?_) fun h3 => fin _ (by rw [decide_eq_false_iff_not] at h3; exact (decide_eq_false (by omega)).symm))
  simp only [decide_eq_true_eq] at h1 h2 h3
  refine ldI_h hS rfl (ldI_h hS rfl (shlI_i h1 (fin _ ?_)))
  have hp : r.pw ≤ 256 := two_pow_small (n := r.Log.toNat) (by omega)
  have hpw : (2 ^ r.Log.toNat : Nat) = r.pw := rfl
  rw [shl_one h1 h2, hpw, wrap_id ⟨by omega, by omega⟩, decide_eq_decide]
  omega
theorem size_s {k : Int → World → Prop} (h : St w0 w L) (hk : ∀ w', St w0 w' L → k r.size w') : ring_Ring_Size r.ag w k := by
  unfold ring_Ring_Size ring_Ring_Size_b
  refine newC_h h fun g w1 hS => ?_
  refine ldW_h hS rfl ?_
  refine right_s (r := r) hS fun w2 hS => ?_
  refine iteB_i (fun h1 => ?_) fun h1 => ?_
  · have := hk w2 hS.drop
    unfold Rg.size at this
    rwa [if_neg (by simpa using h1)] at this
  · have h1 : r.right = true := by simpa using h1
    have hr := Rg.right_out h1
    have := hk w2 hS.drop
    unfold Rg.size at this
    rw [if_pos h1] at this
    refine ldI_h hS rfl (shlI_i hr.1 ?_)
    rw [shl_one hr.1 hr.2.1]
    exact this
theorem place_s {i : Int} {k : Int → World → Prop} (h : St w0 w L) (hk : ∀ w', St w0 w' L → k (r.place i) w') : ring_Ring_Place r.ag i w k := by
  unfold ring_Ring_Place ring_Ring_Place_b
  refine newC_h h fun g w1 hS => ?_
  refine ldW_h hS rfl ?_
  refine right_s (r := r) hS fun w2 hS => ?_
  refine iteB_i (fun h1 => ?_) fun h1 => ?_
  · have := hk w2 hS.drop
    unfold Rg.place at this
    rwa [if_neg (by simpa using h1)] at this
  · have h1 : r.right = true := by simpa using h1
    have hr := Rg.right_out h1
    refine drew_h hS fun w3 hS => ?_
    refine ldI_h hS rfl ?_
    refine ldW_h hS rfl ?_
    refine size_s (r := r) hS fun w4 hS' => ?_
    refine samec_h hS hS' ?_
    have := hk w4 hS'.drop
    unfold Rg.place at this
    rw [if_pos h1] at this
    have e : r.size = r.pw := by unfold Rg.size; rw [if_pos h1]
    have hpw : (2 ^ r.Log.toNat : Nat) = r.pw := rfl
    have e2 : IntKind.i64.wrap (r.size - 1) = ((2 ^ r.Log.toNat - 1 : Nat) : Int) := by
      rw [e, wrap_id ⟨by omega, by omega⟩, hpw]; omega
    have hp0 : (0 : Int) < (r.pw : Nat) := by omega
    have hm1 := Int.emod_nonneg i (show ((r.pw : Nat) : Int) ≠ 0 by omega)
    have hm2 := Int.emod_lt_of_pos i hp0
    rw [e2, and_mask (by omega), hpw]
    rw [wrap_id ⟨by omega, by omega⟩]
    exact this
theorem word_s {k : Int → World → Prop} (h : St w0 w L) (hk : ∀ w', St w0 w' L → k r.word w') : ring_Ring_Word r.ag w k := by
  unfold ring_Ring_Word ring_Ring_Word_b
  refine newC_h h fun g w1 hS => ?_
  refine ldW_h hS rfl ?_
  refine right_s (r := r) hS fun w2 hS => ?_
  have := hk w2 hS.drop
  unfold Rg.word at this
  refine iteB_i (fun h1 => ?_) fun h1 => ?_
  · rwa [if_neg (by simpa using h1)] at this
  · have h1 : r.right = true := by simpa using h1
    have hr := Rg.right_out h1
    rw [if_pos h1] at this
    refine ldI_h hS rfl (ldI_h hS rfl ?_)
    have e1 : r.At = ((r.At.toNat : Nat) : Int) := by omega
    have e2 : r.Log = ((r.Log.toNat : Nat) : Int) := by omega
    rw [shl4 hr.2.2.1 (by omega)]
    rw [e1, e2, or16 (by omega) (by omega), ← e1, ← e2]
    exact this
theorem of_s {x : Int} {k : Array Value × Int → World → Prop} (h : St w0 w L) (hk : ∀ w', St w0 w' L → k (if (Rg.of x).right then ((Rg.of x).ag, 0) else (Rg.zero.ag, 11)) w') : ring_Of x w k := by
  unfold ring_Of ring_Of_b
  refine newC_h h fun g w1 hS => newC_h hS fun g2 w2 hS => ?_
  rw [shr4, and15]
  refine stW_h hS rfl rfl (by simp [Value.oneCell']) fun w3 hS => ?_
  refine ldW_h hS rfl ?_
  refine right_s (r := Rg.of x) hS fun w4 hS => ?_
  refine iteB_i (fun h1 => ?_) fun h1 => ?_
  · refine stW_h hS rfl rfl (by simp [Value.oneCell']) fun w5 hS => ?_
    refine ldW_h hS rfl ?_
    have := hk w5 hS.drop.drop
    rwa [if_neg (by simpa using h1)] at this
  · refine ldW_h hS rfl ?_
    refine stW_h hS rfl rfl (by simp [Value.oneCell']) fun w5 hS => ?_
    refine ldW_h hS rfl ?_
    have := hk w5 hS.drop.drop
    rwa [if_pos (by simpa using h1)] at this
end
end Go.Proofs.Ytheallacpidcmaa
