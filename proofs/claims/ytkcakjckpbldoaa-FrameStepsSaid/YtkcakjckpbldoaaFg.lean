/-
  Layer 5: children.
-/
import Derived.Test.YtkcakjckpbldoaaFe
import Derived.Test.YtkcakjckpbldoaaEvT
set_option linter.unusedSimpArgs false
set_option linter.unusedVariables false
set_option maxRecDepth 100000
namespace Go.Proofs.Ytkcakjckpbldoaa
open Go Go.Ev Go.Proofs

theorem bv_pow {h : Nat} (hh : h < 63) : bv (shlV .i64 1 (h : Int)) = BitVec.twoPow 64 h := by
  unfold shlV
  have e : min ((h : Int).toNat) IntKind.i64.bits = h := by simp [IntKind.bits]; omega
  rw [e, wrapI, bv_of_toInt, Int.one_mul]
  apply BitVec.eq_of_toNat_eq
  rw [BitVec.toNat_ofInt, BitVec.toNat_twoPow]
  have h2 : (2 ^ h : Nat) < 2 ^ 64 := Nat.pow_lt_pow_right (by omega) (by omega)
  have h3 : ((2 : Int) ^ h) = ((2 ^ h : Nat) : Int) := by simp
  rw [h3, Nat.mod_eq_of_lt h2]
  generalize (2 ^ h : Nat) = m at *
  omega
theorem and_shl {x : Int} {h : Nat} (hh : h < 63) : (andI .i64 x (shlV .i64 1 (h : Int)) != 0) = tb x h := by
  rw [andI_bv, bv_pow hh, BitVec.and_twoPow]
  unfold tb
  cases hb : (bv x).getLsbD h with
  | false => rfl
  | true =>
    simp only [if_true]
    have : (BitVec.twoPow 64 h).toInt ≠ 0 := by
      intro e
      have h1 : BitVec.twoPow 64 h = 0#64 := by
        apply BitVec.eq_of_toInt_eq
        rw [e]; rfl
      have h2 := congrArg (fun b => b.getLsbD h) h1
      simp at h2
      omega
    simpa using this

/-- a child's handles -/
def fHs (f : List Int) (needs : Int) (n : Nat) : List Int := (List.range n).map fun h => if tb needs h then f.getD (10 + h) 0 else -1
def fChild (f : List Int) (n needs : Int) : List Int := [n, 0] ++ ((f.drop 2).take 8 ++ (fHs f needs 8 ++ [0]))
/-- on the way -/
def fHalf (f : List Int) (n needs : Int) (j : Nat) : List Int := [n, 0] ++ ((f.drop 2).take 8 ++ (fHs f needs j ++ (List.replicate (8 - j) (-1) ++ [0])))
theorem fHs_len {f : List Int} {needs : Int} {n : Nat} : (fHs f needs n).length = n := by simp [fHs]
theorem fHs_succ {f : List Int} {needs : Int} {n : Nat} : fHs f needs (n + 1) = fHs f needs n ++ [if tb needs n then f.getD (10 + n) 0 else -1] := by
  simp [fHs, List.range_succ]
theorem fHalf_len {f : List Int} {n needs : Int} {j : Nat} (hf : f.length = 19) (hj : j ≤ 8) : (fHalf f n needs j).length = 19 := by
  unfold fHalf
  simp only [List.length_append, List.length_cons, List.length_nil, fHs_len, List.length_replicate, regs_len hf]
  omega
theorem fHalf_zero {f : List Int} {n needs : Int} (hf : f.length = 19) : fHalf f n needs 0 = ((fRoot.set 0 n).take 2 ++ ((f.drop 2).take 8 ++ (fRoot.set 0 n).drop (2 + 8))) := rfl
theorem fHalf_eight {f : List Int} {n needs : Int} : fHalf f n needs 8 = fChild f n needs := rfl
theorem fHalf_yes {f : List Int} {n needs : Int} {j : Nat} (hf : f.length = 19) (hj : j < 8) (hb : tb needs j = true) : (fHalf f n needs j).set (10 + j) (f.getD (10 + j) 0) = fHalf f n needs (j + 1) := by
  unfold fHalf
  have hr := regs_len hf
  have e8 : 8 - j = (8 - (j + 1)) + 1 := by omega
  rw [List.set_append_right _ _ (by simp; omega), List.set_append_right _ _ (by simp [hr]; omega), List.set_append_right _ _ (by simp [hr, fHs_len]; omega)]
  rw [fHs_succ, hb, e8, List.replicate_succ]
  have e0 : 10 + j - 2 - 8 - j = 0 := by omega
  simp [hr, fHs_len, e0]
theorem fHalf_no {f : List Int} {n needs : Int} {j : Nat} (hj : j < 8) (hb : tb needs j = false) : fHalf f n needs j = fHalf f n needs (j + 1) := by
  unfold fHalf
  have e8 : 8 - j = (8 - (j + 1)) + 1 := by omega
  rw [fHs_succ, hb, e8, List.replicate_succ]
  simp

/-- functions, as a program's rows -/
def cellsF (x : Int × Sl) : List Value := [.int .i64 x.1, .slice x.2.a x.2.n x.2.c]
def Funcs (w : World) (s : Sl) (fs : List (Int × Sl)) : Prop := Rws 2 w s (fs.map cellsF)
theorem Funcs.len {w : World} {s : Sl} {fs : List (Int × Sl)} (h : Funcs w s fs) : s.n = fs.length := by have := Rws.len h; simp at this; omega
theorem Funcs.ext {w w' : World} {s : Sl} {fs : List (Int × Sl)} (h : Funcs w s fs) (he : Ext w w') : Funcs w' s fs := Rws.ext h he
theorem ixF {w : World} {s : Sl} {fs : List (Int × Sl)} {i : Int} {x : Int × Sl} {c : Addr → Prop} (h : Funcs w s fs) (h0 : 0 ≤ i) (hi : fs[i.toNat]? = some x)
    (hc : ∀ p : Addr, w.cell? (p.add 0) = some (.int .i64 x.1) → w.cell? (p.add 1) = some (.slice x.2.a x.2.n x.2.c) → c p) : ixS s i 2 c := by
  have hl := Funcs.len h
  have hlt := (List.getElem?_eq_some_iff.1 hi).1
  refine ixR_i h h0 (by omega) fun p e he _ hcell => ?_
  rw [List.getElem?_map, hi] at he
  cases he
  exact hc p (hcell 0 _ rfl) (hcell 1 _ rfl)

/-- the spans of a fork's N -/
theorem fork_N {i : List Int} (h : isB i 8 = true) : 0 ≤ i.getD 4 0 ∧ i.getD 4 0 ≤ 31 := by
  obtain ⟨h8, hc⟩ := isB_true h
  obtain ⟨_, _, hs⟩ := chk_ok hc
  have := hs 3 (by omega)
  rw [h8] at this
  exact this

theorem child_s {f i : List Int} {s : Sl} {fs : List (Int × Sl)} {w : World} {k : Array Value × Int → World → Prop} (hf : f.length = 19) (hi : i.length = 5) (hp : Funcs w s fs)
    (h1 : isB i 8 = false → ∀ w', Ext w w' → k (agI (Z 19), 1) w') (h2 : isB i 8 = true → fs.length ≤ (i.getD 4 0).toNat → ∀ w', Ext w w' → k (agI (Z 19), 17) w')
    (h3 : isB i 8 = true → ∀ x, fs[(i.getD 4 0).toNat]? = some x → ∀ w', Ext w w' → k (agI (fChild f (i.getD 4 0) x.1), 0) w') : frame_Frame_Child (agI f) #[.slice s.a s.n s.c] (agI i) w k := by
  unfold frame_Frame_Child
  refine newC_i fun g1 w1 hg1 hs1 hb1 he1 => newC_i fun gp wp hgp hsp hbp hep => newC_i fun g2 w2 hg2 hs2 hb2 he2 => newC_i fun g3 w3 hg3 hs3 hb3 he3 => ?_
  have he13 := ((he1.trans hep).trans he2).trans he3
  have hb1' : BI w3 g1 f := ((hb1.ext hep).ext he2).ext he3
  have hb2' : BI w3 g2 i := hb2.ext he3
  have hbp' : Blk w3 gp #[.slice s.a s.n s.c] := (hbp.ext he2).ext he3
  have hsz := he1.size
  have hln := hp.len
  simp only [add_mk, Nat.zero_add]
  refine ldA_I hb2' hi (may_s hi fun w4 he4 => ?_)
  have hb14 : BI w4 g1 f := hb1'.ext he4
  have hb24 : BI w4 g2 i := hb2'.ext he4
  have hbp4 := hbp'.ext he4
  have he14 := he13.trans he4
  refine iteB_i (fun h => ?_) fun h => ?_
  · refine stA_I (l := Z 19) (hb3.ext he4) rfl rfl fun w5 hb5 hs5 ho5 => ldA_I hb5 rfl ?_
    exact h1 (by simpa using h) _ (he14.then ho5 fun g hg => by omega)
  have h : isB i 8 = true := by simpa using h
  obtain ⟨hN0, hN1⟩ := fork_N h
  refine ldP_I hb24 (by omega) (ldS_i (s := s) (hbp4.cell 0) (iteB_i (fun hge => ?_) fun hlt => ?_))
  · have hge : i.getD 4 0 ≥ s.n := of_decide_eq_true hge
    refine stA_I (l := Z 19) (hb3.ext he4) rfl rfl fun w5 hb5 hs5 ho5 => ldA_I hb5 rfl ?_
    exact h2 h (by omega) _ (he14.then ho5 fun g hg => by omega)
  have hlt : i.getD 4 0 < s.n := by have := of_decide_eq_false hlt; omega
  obtain ⟨x, hx⟩ : ∃ x, fs[(i.getD 4 0).toNat]? = some x := ⟨_, List.getElem?_eq_getElem (by omega)⟩
  refine root_s fun w5 he5 => newC_i fun g6 w6 hg6 hs6 hb6 he6 => ?_
  simp only [add_mk, Nat.zero_add]
  refine stA_I (l := fRoot) hb6 rfl rfl fun w7 hb7 hs7 ho7 => ?_
  have hs5 := he5.size
  have he47 : Ext w4 w7 := (he5.trans he6).then ho7 fun g hg => by omega
  refine drew_i fun w8 hh8 he8 => ?_
  have he48 := he47.trans he8
  have hb18 : BI w8 g1 f := hb14.ext he48
  have hb28 : BI w8 g2 i := hb24.ext he48
  refine ldP_I hb28 (by omega) (ldA_P hb18 (by omega) ?_)
  have hg16 : g1 ≠ g6 := by have := hb14.lt; omega
  refine stC_I (hb7.ext he8) (by decide) fun w9 hb9 hs9 ho9 => samec_B hb18 (hb18.keep ho9 hg16) ?_
  refine stA_P hb9 (regs_len hf) (by rw [List.length_set]; decide) fun w10 hb10 hs10 ho10 => ?_
  rw [← fHalf_zero (needs := x.1) hf] at hb10
  have he10 : Ext w4 w10 := (he48.then ho9 fun g hg => by omega).then ho10 fun g hg => by omega
  refine loopP_of (fun (y : Int) w' => ∃ j : Nat, y = j ∧ j ≤ 8 ∧ Ext w4 w' ∧ BI w' g6 (fHalf f (i.getD 4 0) x.1 j)) (fun y _ => (8 - y).toNat) ⟨0, rfl, by omega, he10, hb10⟩ ?_
  rintro _ w11 ⟨j, rfl, hj, he11, hb11⟩ C hC
  refine iteB_i (fun hlt8 => ?_) fun hge => ?_
  · have hj8 : j < 8 := by have : (j : Int) < 8 := by simpa using hlt8
                           omega
    have hw : IntKind.i64.wrap ((j : Int) + 1) = ((j + 1 : Nat) : Int) := by rw [wrap_id ⟨by omega, by omega⟩]; simp
    refine drew_i fun w12 hh12 he12 => ?_
    have he412 := he11.trans he12
    refine ldS_i (s := s) ((hbp4.ext he412).cell 0) (ldP_I (hb24.ext he412) (by omega) ?_)
    refine ixF (hp.ext (he14.trans he412)) hN0 hx fun p hc0 hc1 => ldI_i hc0 (shlI_i (by omega) ?_)
    rw [and_shl (by omega)]
    refine iteB_i (fun hb => ?_) fun hb => ?_
    · refine ixP_i (by omega) (by omega) (ldP_I (hb14.ext he412) (by simp; omega) (ixP_i (by omega) (by omega) ?_))
      simp only [Int.toNat_natCast, Nat.mul_one]
      have hl := fHalf_len (n := i.getD 4 0) (needs := x.1) hf hj
      refine stC_I (hb11.ext he12) (by omega) fun w13 hb13 hs13 ho13 => ?_
      rw [fHalf_yes hf hj8 hb] at hb13
      exact hC _ _ ⟨j + 1, hw, by omega, he412.then ho13 fun g hg => by omega, hb13⟩ (by rw [hw]; omega)
    · refine hC _ _ ⟨j + 1, hw, by omega, he412, ?_⟩ (by rw [hw]; omega)
      rw [← fHalf_no hj8 hb]
      exact hb11.ext he12
  · have hj8 : j = 8 := by have : ¬ (j : Int) < 8 := by simpa using hge
                           omega
    subst hj8
    have hl := fHalf_len (n := i.getD 4 0) (needs := x.1) hf hj
    refine ldA_I hb11 hl (stA_I ((hb3.ext he4).ext he11) rfl hl fun w12 hb12 hs12 ho12 => ldA_I hb12 hl ?_)
    exact h3 h x hx _ ((he14.trans he11).then ho12 fun g hg => by omega)

theorem rchild_s {f : List Int} {n needs : Int} {w : World} {k : Array Value → World → Prop} (hf : f.length = 19) (hn : InI needs) (hk : ∀ w', Ext w w' → k (agI (fChild f n needs)) w') : pelotonref05_Task_Child (agI f) n needs w k := by
  unfold pelotonref05_Task_Child
  refine newC_i fun g1 w1 hg1 hs1 hb1 he1 => newC_i fun g2 w2 hg2 hs2 hb2 he2 => ?_
  have he12 := he1.trans he2
  have hb1' : BI w2 g1 f := hb1.ext he2
  have hsz := he1.size
  simp only [add_mk, Nat.zero_add]
  refine rroot_s fun w5 he5 => newC_i fun g6 w6 hg6 hs6 hb6 he6 => ?_
  simp only [add_mk, Nat.zero_add]
  refine stA_I (l := fRoot) hb6 rfl rfl fun w7 hb7 hs7 ho7 => ?_
  have hs5 := he5.size
  have he27 : Ext w2 w7 := (he5.trans he6).then ho7 fun g hg => by omega
  have hg16 : g1 ≠ g6 := by have := hb1'.lt; omega
  refine stC_I hb7 (by decide) fun w9 hb9 hs9 ho9 => ldA_P ((hb1'.ext he27).keep ho9 hg16) (by omega) ?_
  refine stA_P hb9 (regs_len hf) (by rw [List.length_set]; decide) fun w10 hb10 hs10 ho10 => ?_
  rw [← fHalf_zero (needs := needs) hf] at hb10
  have he10 : Ext w2 w10 := (he27.then ho9 fun g hg => by omega).then ho10 fun g hg => by omega
  refine loopP_of (fun (y : Int) w' => ∃ j : Nat, y = j ∧ j ≤ 8 ∧ Ext w2 w' ∧ BI w' g6 (fHalf f n needs j)) (fun y _ => (8 - y).toNat) ⟨0, rfl, by omega, he10, hb10⟩ ?_
  rintro _ w11 ⟨j, rfl, hj, he11, hb11⟩ C hC
  refine iteB_i (fun hlt8 => ?_) fun hge => ?_
  · have hj8 : j < 8 := by have : (j : Int) < 8 := by simpa using hlt8
                           omega
    have hw : IntKind.i64.wrap ((j : Int) + 1) = ((j + 1 : Nat) : Int) := by rw [wrap_id ⟨by omega, by omega⟩]; simp
    have hu : IntKind.u64.wrap (j : Int) = j := by
      simp only [IntKind.wrap, IntKind.bits, IntKind.signed]
      simp; omega
    rw [hu]
    refine shrI_i (by omega) ?_
    rw [and1 hn (by omega) (by omega), Int.toNat_natCast]
    refine iteB_i (fun hb => ?_) fun hb => ?_
    · refine ixP_i (by omega) (by omega) (ldP_I (hb1'.ext he11) (by simp; omega) (ixP_i (by omega) (by omega) ?_))
      simp only [Int.toNat_natCast, Nat.mul_one]
      have hl := fHalf_len (n := n) (needs := needs) hf hj
      refine stC_I hb11 (by omega) fun w13 hb13 hs13 ho13 => ?_
      rw [fHalf_yes hf hj8 hb] at hb13
      exact hC _ _ ⟨j + 1, hw, by omega, he11.then ho13 fun g hg => by omega, hb13⟩ (by rw [hw]; omega)
    · refine hC _ _ ⟨j + 1, hw, by omega, he11, ?_⟩ (by rw [hw]; omega)
      rw [← fHalf_no hj8 hb]
      exact hb11
  · have hj8 : j = 8 := by have : ¬ (j : Int) < 8 := by simpa using hge
                           omega
    subst hj8
    have hl := fHalf_len (n := n) (needs := needs) hf hj
    refine ldA_I hb11 hl (stA_I (hb2.ext he11) rfl hl fun w12 hb12 hs12 ho12 => ldA_I hb12 hl ?_)
    exact hk _ ((he12.trans he11).then ho12 fun g hg => by omega)

end Go.Proofs.Ytkcakjckpbldoaa
