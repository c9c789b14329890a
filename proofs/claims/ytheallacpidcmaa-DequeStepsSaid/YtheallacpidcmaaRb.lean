/-
  Layer 9: the document's answer for rings; new rings; copyings.
-/
import Derived.Test.YtheallacpidcmaaRa
set_option linter.unusedSimpArgs false
set_option linter.unusedVariables false
set_option maxRecDepth 100000
namespace Go.Proofs.Ytheallacpidcmaa
open Go Go.Ev Go.Proofs

section
variable {w0 w : World} {L : List HP} {r : Rg}

theorem power_s {n : Int} {k : Int → World → Prop} (h0 : 0 ≤ n) (h8 : n ≤ 8) (hk : k ((2 ^ n.toNat : Nat) : Int) w) : pelotonref09_power n w k := by
  unfold pelotonref09_power
  refine loopP_of (fun (x : Int × Int) w' => w = w' ∧ ∃ j : Nat, (j : Int) ≤ n ∧ x = (((2 ^ j : Nat) : Int), (j : Int))) (fun x _ => (n - x.2).toNat) ⟨rfl, 0, by omega, rfl⟩ ?_
  rintro _ _ ⟨rfl, j, hj, rfl⟩ C hC
  have hp : 2 ^ j ≤ 256 := two_pow_small (by omega)
  have hw1 : IntKind.i64.wrap (2 * ((2 ^ j : Nat) : Int)) = ((2 ^ (j + 1) : Nat) : Int) := by
    rw [Nat.pow_succ]
    generalize (2 ^ j : Nat) = m at *
    rw [wrap_id ⟨by omega, by omega⟩]; omega
  have hw2 : IntKind.i64.wrap ((j : Int) + 1) = ((j + 1 : Nat) : Int) := by rw [wrap_id ⟨by omega, by omega⟩]; simp
  refine iteB_i (fun h => ?_) fun h => ?_
  · simp only [decide_eq_true_eq] at h
    exact hC _ _ ⟨rfl, j + 1, by omega, by rw [hw1, hw2]⟩ (by dsimp only; rw [hw2]; omega)
  · simp only [decide_eq_false_iff_not] at h
    have e : n.toNat = j := by omega
    rw [e] at hk; exact hk
theorem rright_s {k : Bool → World → Prop} (h : St w0 w L) (hk : ∀ w', St w0 w' L → k r.right w') : pelotonref09_Right r.ag w k := by
  unfold pelotonref09_Right pelotonref09_Right_b
  refine newC_h h fun g w1 hS => ?_
  refine joinP_i (fun y w' => w1 = w' ∧ y = decide (r.Log < 0 ∨ r.Log > 8 ∨ r.At < 0)) ?_ ?_
  · intro J hJ
    refine ldI_h hS rfl (iteB_i (fun h1 => hJ _ _ ⟨rfl, ?_⟩) fun h1 => ?_)
    · rw [decide_eq_true_eq] at h1; rw [decide_eq_true (by omega)]
    rw [decide_eq_false_iff_not] at h1
    refine ldI_h hS rfl (iteB_i (fun h2 => hJ _ _ ⟨rfl, ?_⟩) fun h2 => ?_)
    · rw [decide_eq_true_eq] at h2; rw [decide_eq_true (by omega)]
    rw [decide_eq_false_iff_not] at h2
    refine ldI_h hS rfl (hJ _ _ ⟨rfl, ?_⟩)
    rw [decide_eq_decide]; omega
  rintro _ _ ⟨rfl, rfl⟩
  refine iteB_i (fun h1 => ?_) fun h1 => ?_
  · rw [decide_eq_true_eq] at h1
    have := hk w1 hS.drop
    unfold Rg.right at this
    rwa [decide_eq_false (by omega)] at this
  · rw [decide_eq_false_iff_not] at h1
    have hp : r.pw ≤ 256 := two_pow_small (n := r.Log.toNat) (by omega)
    have hpw : (2 ^ r.Log.toNat : Nat) = r.pw := rfl
    refine drew_h hS fun w2 hS => ?_
    refine ldI_h hS rfl ?_
    refine ldI_h hS rfl ?_
    refine power_s (by omega) (by omega) ?_
    refine samec_h hS hS ?_
    have := hk w2 hS.drop
    unfold Rg.right at this
    rw [hpw, wrap_id ⟨by omega, by omega⟩]
    rwa [show decide (0 ≤ r.Log ∧ r.Log ≤ 8 ∧ 0 ≤ r.At ∧ r.At ≤ 1048576 - r.pw) = decide (r.At ≤ 1048576 - (r.pw : Int)) by rw [decide_eq_decide]; omega] at this
theorem rsize_s {k : Int → World → Prop} (h : St w0 w L) (hk : ∀ w', St w0 w' L → k r.size w') : pelotonref09_Size r.ag w k := by
  unfold pelotonref09_Size pelotonref09_Size_b
  refine newC_h h fun g w1 hS => ?_
  refine ldW_h hS rfl ?_
  refine rright_s (r := r) hS fun w2 hS => ?_
  have := hk w2 hS.drop
  unfold Rg.size at this
  refine iteB_i (fun h1 => ?_) fun h1 => ?_
  · rwa [if_neg (by simpa using h1)] at this
  · have h1 : r.right = true := by simpa using h1
    have hr := Rg.right_out h1
    rw [if_pos h1] at this
    refine ldI_h hS rfl ?_
    exact power_s hr.1 hr.2.1 this
theorem tmod_emod {i n : Int} (hn : 0 < n) (hn2 : n ≤ 256) : (IntKind.i64.wrap (i.tmod n + n)).tmod n = i % n := by
  have h1 := Int.tmod_lt_of_pos i hn
  have h2 : -n < i.tmod n := Int.lt_tmod_of_pos i hn
  rw [wrap_id ⟨by omega, by omega⟩, Int.tmod_eq_emod_of_nonneg (by omega), Int.add_emod_right]
  rw [Int.tmod_eq_emod]
  split
  · simp
  · rw [Int.natAbs_of_nonneg (by omega), Int.sub_emod_right]
    exact Int.emod_emod_of_dvd _ (Int.dvd_refl _)
theorem rplace_s {i : Int} {k : Int → World → Prop} (h : St w0 w L) (hk : ∀ w', St w0 w' L → k (r.place i) w') : pelotonref09_Place r.ag i w k := by
  unfold pelotonref09_Place pelotonref09_Place_b
  refine newC_h h fun g w1 hS => ?_
  refine ldW_h hS rfl ?_
  refine rright_s (r := r) hS fun w2 hS => ?_
  refine iteB_i (fun h1 => ?_) fun h1 => ?_
  · have := hk w2 hS.drop
    unfold Rg.place at this
    rwa [if_neg (by simpa using h1)] at this
  · have h1 : r.right = true := by simpa using h1
    have hr := Rg.right_out h1
    refine ldW_h hS rfl ?_
    refine rsize_s (r := r) hS fun w3 hS => ?_
    refine drew_h hS fun w4 hS => ?_
    refine ldI_h hS rfl ?_
    have e : r.size = r.pw := by unfold Rg.size; rw [if_pos h1]
    rw [e]
    have hp0 : (0 : Int) < (r.pw : Nat) := by omega
    have hm1 := Int.emod_nonneg i (show ((r.pw : Nat) : Int) ≠ 0 by omega)
    have hm2 := Int.emod_lt_of_pos i hp0
    refine remI_i (by omega) (remI_i (by omega) ?_)
    rw [tmod_emod hp0 (by omega)]
    have := hk w4 hS.drop
    unfold Rg.place at this
    rw [if_pos h1] at this
    rw [wrap_id ⟨by omega, by omega⟩]; exact this
theorem rword_s {k : Int → World → Prop} (h : St w0 w L) (hk : ∀ w', St w0 w' L → k r.word w') : pelotonref09_Word r.ag w k := by
  unfold pelotonref09_Word pelotonref09_Word_b
  refine newC_h h fun g w1 hS => ?_
  refine ldW_h hS rfl ?_
  refine rright_s (r := r) hS fun w2 hS => ?_
  have := hk w2 hS.drop
  unfold Rg.word at this
  refine iteB_i (fun h1 => ?_) fun h1 => ?_
  · rwa [if_neg (by simpa using h1)] at this
  · have h1 : r.right = true := by simpa using h1
    have hr := Rg.right_out h1
    rw [if_pos h1] at this
    refine ldI_h hS rfl ?_
    refine ldI_h hS rfl ?_
    rw [wrap_id (x := 16 * r.At) ⟨by omega, by omega⟩, wrap_id ⟨by omega, by omega⟩]
    exact this
theorem of_neg {x : Int} (h : x < 0) : (Rg.of x).right = false := by
  unfold Rg.right Rg.of
  rw [decide_eq_false_iff_not]
  dsimp only
  omega
theorem rof_s {x : Int} {k : Array Value × Int → World → Prop} (hx : InI x) (h : St w0 w L) (hk : ∀ w', St w0 w' L → k (if (Rg.of x).right then ((Rg.of x).ag, 0) else (Rg.zero.ag, 11)) w') : pelotonref09_Of x w k := by
  unfold pelotonref09_Of pelotonref09_Of_b
  refine newC_h h fun g w1 hS => ?_
  refine iteB_i (fun h0 => ?_) fun h0 => ?_
  · rw [decide_eq_true_eq] at h0
    refine stW_h hS rfl rfl (by simp [Value.oneCell']) fun w2 hS => ?_
    refine ldW_h hS rfl ?_
    have := hk w2 hS.drop
    rwa [of_neg h0] at this
  rw [decide_eq_false_iff_not] at h0
  refine newC_h hS fun g2 w2 hS => ?_
  have e1 : divV .i64 x 16 = x / 16 := by
    unfold divV
    rw [Int.tdiv_eq_ediv_of_nonneg (by omega), wrap_id ⟨by omega, by have := hx.2; omega⟩]
  have e2 : remV x 16 = x % 16 := by
    unfold remV
    rw [Int.tmod_eq_emod_of_nonneg (by omega)]
  rw [e1, e2]
  refine stW_h hS rfl rfl (by simp [Value.oneCell']) fun w3 hS => ?_
  refine ldW_h hS rfl ?_
  refine rright_s (r := Rg.of x) hS fun w4 hS => ?_
  refine iteB_i (fun h1 => ?_) fun h1 => ?_
  · refine stW_h hS rfl rfl (by simp [Value.oneCell']) fun w5 hS => ?_
    refine ldW_h hS rfl ?_
    have := hk w5 hS.drop.drop
    rwa [if_neg (by simpa using h1)] at this
  · refine ldW_h hS rfl ?_
    refine stW_h hS rfl rfl (by simp [Value.oneCell']) fun w5 hS => ?_
    refine ldW_h hS rfl ?_
    have := hk w5 hS.drop.drop
    rwa [if_pos (by simpa using h1)] at this

/-! ### new rings -/
theorem rnew_nil {wk log : Int} {k : Array Value × Int → World → Prop} (h : St w0 w L) (hk : ∀ w', St w0 w' L → k (Rg.zero.ag, 2) w') : ring_New none wk log w k := by
  unfold ring_New ring_New_b
  refine newC_h h fun g w1 hS => iteB_t rfl ?_
  refine stW_h hS rfl rfl (by simp [Value.oneCell']) fun w2 hS => ?_
  refine ldW_h hS rfl ?_
  exact hk _ hS.drop
theorem rnew_s {g : Nat} {M : Mac} {f : HP → List HP} {wk log : Int} {k : Array Value × Int → World → Prop} (h : St w0 w L) [a : At L (mach g) M f] (hM : M.OK)
    (h1 : 0 ≤ log → log ≤ 8 → M.caller wk = true → M.room ((2 ^ log.toNat : Nat) : Int) = true → ∀ w', St w0 w' (f (mach g ((M.tick wk).grow ((2 ^ log.toNat : Nat) : Int)))) → k (Rg.ag ⟨(M.cells.length : Nat), log⟩, 0) w')
    (h2 : 0 ≤ log → log ≤ 8 → M.caller wk = true → M.room ((2 ^ log.toNat : Nat) : Int) = false → ∀ w', St w0 w' L → k (Rg.zero.ag, 21) w')
    (h3 : ¬ (0 ≤ log ∧ log ≤ 8 ∧ M.caller wk = true) → ∀ w', St w0 w' L → k (Rg.zero.ag, 10) w') : ring_New (some ⟨g, 0, none⟩) wk log w k := by
  unfold ring_New ring_New_b
  refine newC_h h fun gn w1 hS => iteB_f rfl (iteB_i (fun hb => ?_) fun hb => ?_)
  · simp only [Bool.or_eq_true, decide_eq_true_eq] at hb
    refine stW_h hS rfl rfl (by simp [Value.oneCell']) fun w2 hS => ?_
    refine ldW_h hS rfl ?_
    exact h3 (by omega) _ hS.drop
  · simp only [Bool.or_eq_false_iff, decide_eq_false_iff_not] at hb
    refine shlI_i (by omega) ?_
    rw [shl_one (by omega) (by omega)]
    have hp0 : 0 < 2 ^ log.toNat := Nat.pow_pos (by omega)
    refine alloc_s (g := g) (M := M) hS hM (fun k1 k2 k3 w2 hS => ?_) (fun k1 k2 k3 => ?_) fun k1 => ?_
    · refine iteB_f rfl ?_
      refine stW_h hS rfl rfl (by simp [Value.oneCell']) fun w2 hS => ?_
      refine ldW_h hS rfl ?_
      exact h1 (by omega) (by omega) k1 k3 _ hS.drop
    · refine iteB_t rfl ?_
      refine stW_h hS rfl rfl (by simp [Value.oneCell']) fun w2 hS => ?_
      refine ldW_h hS rfl ?_
      exact h2 (by omega) (by omega) k1 k3 _ hS.drop
    · refine iteB_t rfl ?_
      refine stW_h hS rfl rfl (by simp [Value.oneCell']) fun w2 hS => ?_
      refine ldW_h hS rfl ?_
      refine h3 (fun hh => k1 ⟨hh.2.2, ?_⟩) _ hS.drop
      generalize (2 ^ log.toNat : Nat) = m at *
      omega

/-! ### copyings -/
structure Cp where
  a : Rg
  b : Rg
  at_ : Int
  until_ : Int
  has : Int
  loaded : Bool
/-- .. as it lies at block g -/
def cpy (g : Nat) (c : Cp) : HP := blk g [.int .i64 c.a.At, .int .i64 c.a.Log, .int .i64 c.b.At, .int .i64 c.b.Log, .int .i64 c.at_, .int .i64 c.until_, .int .i64 c.has,
  .func (.func (if c.loaded then n_ring_Copy_store else n_ring_Copy_load)) #[.pointer (some ⟨g, 0, none⟩)] #[]]
/-- .. the document's -/
def rcpy (g : Nat) (c : Cp) : HP := blk g [.int .i64 c.a.At, .int .i64 c.a.Log, .int .i64 c.b.At, .int .i64 c.b.Log, .int .i64 c.at_, .int .i64 c.until_, .bool c.loaded, .int .i64 c.has]
def Cp.begin (a b : Rg) (from_ until_ : Int) : Cp := ⟨a, b, from_, until_, 0, false⟩
/-- which error a beginning has -/
def begE (a b : Rg) (from_ until_ : Int) : Int := if a.right = false ∨ b.right = false then 1 else if until_ < from_ ∨ until_ - from_ > a.size ∨ until_ - from_ > b.size then 10 else 0

theorem wrapu {x : Int} (h0 : 0 ≤ x) (h1 : x < 18446744073709551616) : IntKind.u64.wrap x = x := by
  simp only [IntKind.wrap, IntKind.bits, IntKind.signed]; simp; omega
theorem wrapu_sub {x y : Int} (hx : InI x) (hy : InI y) (h : y ≤ x) : IntKind.u64.wrap (IntKind.u64.wrap x - IntKind.u64.wrap y) = x - y := by
  have := hx.1; have := hx.2; have := hy.1; have := hy.2
  simp only [IntKind.wrap, IntKind.bits, IntKind.signed]; simp; omega
theorem size_le (r : Rg) : 0 ≤ r.size ∧ r.size ≤ 256 := by
  unfold Rg.size
  split
  · rename_i h; have := Rg.right_out h; omega
  · omega

theorem copy_s {a b : Rg} {from_ until_ : Int} {k : Option Addr × Int → World → Prop} (hf : InI from_) (hu : InI until_) (h : St w0 w L)
    (h1 : begE a b from_ until_ = 0 → ∀ g w', St w0 w' (cpy g (Cp.begin a b from_ until_) :: L) → k (some ⟨g, 0, none⟩, 0) w') (h2 : begE a b from_ until_ ≠ 0 → ∀ w', St w0 w' L → k (none, begE a b from_ until_) w') : ring_Ring_Copy a.ag b.ag from_ until_ w k := by
  unfold ring_Ring_Copy ring_Ring_Copy_b
  refine newC_h h fun g1 w1 hS => newC_h hS fun g2 w2 hS => ?_
  refine joinP_i (fun y w' => y = (!a.right || !b.right) ∧ St w0 w' (blk g2 b.ag.toList :: blk g1 a.ag.toList :: L)) ?_ ?_
  · intro J hJ
    refine ldW_h hS rfl ?_
    refine right_s (r := a) hS fun w3 hS => ?_
    refine iteB_i (fun h1 => hJ _ _ ⟨by revert h1; cases a.right <;> simp, hS⟩) fun h1 => ?_
    refine ldW_h hS rfl ?_
    refine right_s (r := b) hS fun w4 hS => hJ _ _ ⟨by revert h1; cases a.right <;> simp, hS⟩
  rintro _ w3 ⟨rfl, hS⟩
  refine iteB_i (fun h3 => ?_) fun h3 => ?_
  · have e : begE a b from_ until_ = 1 := by
      unfold begE
      simp only [Bool.or_eq_true, Bool.not_eq_true'] at h3
      rw [if_pos h3]
    have := h2 (by rw [e]; omega) _ hS.drop.drop
    rwa [e] at this
  simp only [Bool.or_eq_false_iff, Bool.not_eq_false'] at h3
  have sa := size_le a; have sb := size_le b
  have e : begE a b from_ until_ = if until_ < from_ ∨ until_ - from_ > a.size ∨ until_ - from_ > b.size then 10 else 0 := by
    unfold begE
    rw [if_neg (by rw [h3.1, h3.2]; simp)]
  refine joinP_i (fun y w' => y = decide (until_ < from_ ∨ until_ - from_ > a.size ∨ until_ - from_ > b.size) ∧ St w0 w' (blk g2 b.ag.toList :: blk g1 a.ag.toList :: L)) ?_ ?_
  · intro J hJ
    refine drew_h hS fun w4 hS => iteB_i (fun h4 => hJ _ _ ⟨?_, hS⟩) fun h4 => ?_
    · rw [decide_eq_true_eq] at h4; rw [decide_eq_true (.inl h4)]
    · rw [decide_eq_false_iff_not] at h4
      refine ldW_h hS rfl ?_
      refine ldW_h hS rfl ?_
      refine size_s (r := a) hS fun w5 hS5 => ?_
      refine samec_h hS hS5 ?_
      refine size_s (r := b) hS5 fun w6 hS => hJ _ _ ⟨?_, hS⟩
      rw [wrapu_sub hu hf (by omega)]
      unfold minI
      rw [decide_eq_decide]
      split
      · rw [wrapu (by omega) (by omega)]; omega
      · rw [wrapu (by omega) (by omega)]; omega
  rintro _ w4 ⟨rfl, hS⟩
  refine iteB_i (fun h4 => ?_) fun h4 => ?_
  · rw [decide_eq_true_eq] at h4
    rw [if_pos h4] at e
    have := h2 (by rw [e]; omega) _ hS.drop.drop
    rwa [e] at this
  rw [decide_eq_false_iff_not] at h4
  rw [if_neg h4] at e
  refine ldW_h hS rfl ?_
  refine ldW_h hS rfl ?_
  refine spl_V _ rfl (by simp) rfl ?_
  refine spl_V _ rfl (by simp) rfl ?_
  refine newC_h hS fun g w5 hS => ?_
  refine stC_h hS rfl (by simp) fun w6 hS => ?_
  exact h1 e g w6 (show St w0 w6 (cpy g (Cp.begin a b from_ until_) :: L) from hS.swap.drop.swap.drop)

end
end Go.Proofs.Ytheallacpidcmaa
