/-
  Numbers and bits of the machine's words.
-/
import Derived.Test.YtgkfbagclkjilaaEvL
set_option linter.unusedSimpArgs false
namespace Go.Ev
open Go

def InI (x : Int) : Prop := -9223372036854775808 ≤ x ∧ x ≤ 9223372036854775807
instance (x : Int) : Decidable (InI x) := inferInstanceAs (Decidable (_ ∧ _))
abbrev bv (x : Int) : BitVec 64 := BitVec.ofInt 64 x
theorem bv_toInt {x : Int} (h : InI x) : (bv x).toInt = x := by
  rw [BitVec.toInt_ofInt, Int.bmod_eq_of_le (by simp [InI] at h; omega) (by simp [InI] at h; omega)]
theorem wrap_bv (b : BitVec 64) : IntKind.i64.wrap (b.toNat : Int) = b.toInt := by
  rw [IntKind.wrap_i64, BitVec.toInt_eq_toNat_cond]
  have := b.isLt
  split <;> omega
theorem inI_toInt (b : BitVec 64) : InI b.toInt := by
  have h1 := b.toInt_lt; have h2 := b.le_toInt
  simp at h1 h2
  exact ⟨by omega, by omega⟩
theorem wrapI (x : Int) : IntKind.i64.wrap x = (bv x).toInt := by
  rw [IntKind.wrap_i64, BitVec.toInt_ofInt, Int.bmod_def]
  split <;> omega
theorem inI_wrap (x : Int) : InI (IntKind.i64.wrap x) := by rw [wrapI]; exact inI_toInt _
theorem wrap_id {x : Int} (h : InI x) : IntKind.i64.wrap x = x := by rw [wrapI, bv_toInt h]
theorem andI_bv (x y : Int) : andI .i64 x y = (bv x &&& bv y).toInt := wrap_bv _
theorem orI_bv (x y : Int) : orI .i64 x y = (bv x ||| bv y).toInt := wrap_bv _
theorem xorI_bv (x y : Int) : xorI .i64 x y = (bv x ^^^ bv y).toInt := wrap_bv _
theorem andNotI_bv (x y : Int) : andNotI .i64 x y = (bv x &&& ~~~ bv y).toInt := wrap_bv _
theorem bv_of_toInt (b : BitVec 64) : bv b.toInt = b := BitVec.ofInt_toInt
theorem shrV_bv {x i : Int} (h : InI x) (h1 : i < 64) : shrV .i64 x i = ((bv x).sshiftRight i.toNat).toInt := by
  rw [BitVec.toInt_sshiftRight, bv_toInt h]
  unfold shrV
  have : min i.toNat IntKind.i64.bits = i.toNat := by simp [IntKind.bits]; omega
  rw [this, Int.shiftRight_eq_div_pow, Int.fdiv_eq_ediv_of_nonneg _ (by exact_mod_cast Nat.zero_le (2 ^ i.toNat))]
  simp
/-- the bit -/
def tb (x : Int) (i : Nat) : Bool := (bv x).getLsbD i
theorem and1 {x i : Int} (h : InI x) (h0 : 0 ≤ i) (h1 : i < 64) : (andI .i64 (shrV .i64 x i) 1 == 1) = tb x i.toNat := by
  rw [andI_bv, shrV_bv h h1, bv_of_toInt]
  have e : bv 1 = 1#64 := by decide
  rw [e, BitVec.and_one_eq_setWidth_ofBool_getLsbD, BitVec.getLsbD_sshiftRight]
  have : (decide (64 ≤ 0)) = false := by decide
  simp only [this, Bool.not_false, Bool.true_and, Nat.add_zero]
  rw [if_pos (by omega)]
  unfold tb
  cases (bv x).getLsbD i.toNat <;> decide
theorem and1' {x i : Int} (h : InI x) (h0 : 0 ≤ i) (h1 : i < 64) : (andI .i64 (shrV .i64 x i) 1 == 0) = !tb x i.toNat := by
  rw [andI_bv, shrV_bv h h1, bv_of_toInt]
  have e : bv 1 = 1#64 := by decide
  rw [e, BitVec.and_one_eq_setWidth_ofBool_getLsbD, BitVec.getLsbD_sshiftRight]
  have : (decide (64 ≤ 0)) = false := by decide
  simp only [this, Bool.not_false, Bool.true_and, Nat.add_zero]
  rw [if_pos (by omega)]
  unfold tb
  cases (bv x).getLsbD i.toNat <;> decide
theorem tb_andNot (x y : Int) {i : Nat} (h : i < 64) : tb (andNotI .i64 x y) i = (tb x i && !tb y i) := by
  unfold tb; rw [andNotI_bv, bv_of_toInt]; simp [h]
theorem inI_andNot (x y : Int) : InI (andNotI .i64 x y) := by rw [andNotI_bv]; exact inI_toInt _
theorem inI_and (x y : Int) : InI (andI .i64 x y) := by rw [andI_bv]; exact inI_toInt _
/-- the bit, by division -/
theorem tb_div {x : Int} {i : Nat} : tb x i = decide (((IntKind.u64.wrap x).toNat / 2 ^ i) % 2 = 1) := by
  have e : (IntKind.u64.wrap x).toNat = (bv x).toNat := by simp [IntKind.wrap, IntKind.bits, IntKind.signed, BitVec.toNat_ofInt]
  rw [e]; unfold tb
  rw [← BitVec.testBit_toNat, Nat.testBit_eq_decide_div_mod_eq]

end Go.Ev
