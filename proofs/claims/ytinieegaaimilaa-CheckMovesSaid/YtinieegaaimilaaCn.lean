/-
  Layer 4: the reference: what is held.
-/
import Derived.Test.YtinieegaaimilaaCm
set_option linter.unusedSimpArgs false
set_option linter.unusedVariables false
set_option maxRecDepth 100000
namespace Go.Proofs.Ytinieegaaimilaa
open Go Go.Ev Go.Proofs

theorem heldL_s {w : World} {s : Sl} {needs : Int} {l : List (List Int)} {k : Sl → World → Prop} (hr : Code5 w s l) (hn : l.length ≤ 1000)
    (hc : ∀ s' w', St w w' [slc 1 s' (ints (heldL l needs))] → s'.n = l.length → k s' w') : check_Held #[.int .i64 needs, .slice s.a s.n s.c] w k := by
  have hsn := hr.len
  refine held_s hr (by omega) fun F s' w' hR h => ?_
  rw [held_law (by omega) hR] at h
  have hl : (heldL l needs).length = s'.n := by have := h.slen (sz := 1) (s := s') (vs := ints (heldL l needs)); simpa using this
  exact hc s' w' h (by rw [← hl, heldL_len])

noncomputable def rowH (l : List (List Int)) (needs : Int) (h j : Nat) : List Int := (List.range l.length).map fun (i : Nat) => rs (heldB l needs (i : Int)) (if i < j then h + 1 else h)
theorem rowH_len {l : List (List Int)} {needs : Int} {h j : Nat} : (rowH l needs h j).length = l.length := by simp [rowH]
theorem rowH_set {l : List (List Int)} {needs : Int} {h j : Nat} (hj : j < l.length) : (rowH l needs h j).set j (rs (heldB l needs j) (h + 1)) = rowH l needs h (j + 1) := by
  refine List.ext_getElem (by simp [rowH]) fun i h1 h2 => ?_
  rw [List.getElem_set]
  split
  · rename_i e; subst e; simp [rowH]
  · rename_i e
    have : (i < j + 1) ↔ (i < j) := by omega
    simp [rowH, this]
theorem rowH_get {l : List (List Int)} {needs : Int} {h j : Nat} (hj : j < l.length) : (rowH l needs h j).getD j 0 = rs (heldB l needs j) h := by
  simp [rowH, hj]
theorem rowH_end {l : List (List Int)} {needs : Int} {h : Nat} : rowH l needs h l.length = rowH l needs (h + 1) 0 := by
  refine List.ext_getElem (by simp [rowH]) fun i h1 h2 => ?_
  have : i < l.length := by simpa [rowH] using h1
  simp [rowH, this]
theorem rowH_zero {l : List (List Int)} {needs : Int} : rowH l needs 0 0 = List.replicate l.length 0 := by
  refine List.ext_getElem (by simp [rowH]) fun i h1 h2 => by simp [rowH, rs]
theorem rowH_eight {l : List (List Int)} {needs : Int} : rowH l needs 8 0 = heldL l needs := by
  refine List.ext_getElem (by simp [rowH, heldL]) fun i h1 h2 => by simp [rowH, heldL]

theorem rheld_s {w : World} {s : Sl} {needs : Int} {l : List (List Int)} {k : Sl → World → Prop} (hr : Code5 w s l) (hN : InI needs) (hn : l.length ≤ 1000)
    (hc : ∀ s' w', St w w' [slc 1 s' (ints (heldL l needs))] → s'.n = l.length → k s' w') : pelotonref04_Held #[.int .i64 needs, .slice s.a s.n s.c] w k := by
  have hsn := hr.len
  unfold pelotonref04_Held pelotonref04_Held_b
  refine newC_h (.nil w) fun ga w2 h => ldS_h (g := ga) (o := 1) h rfl ?_
  refine mkSl_h (n := s.n) h (elI (by kernel_rfl)) rfl (by omega) (by omega) fun s4 w5 h n4 => ?_
  have e0 : List.replicate s.n (Value.int .i64 0) = ints (rowH l needs 0 0) := by rw [rowH_zero, hsn]; simp [ints]
  simp only [e0] at h
  refine loopP_of (fun (i : Int) w' => ∃ h' : Nat, i = h' ∧ h' ≤ 8 ∧ St w w' [slc 1 s4 (ints (rowH l needs h' 0)), blk ga [.int .i64 needs, .slice s.a s.n s.c]]) (fun i _ => (8 - i).toNat) ⟨0, rfl, by omega, by simpa using h⟩ ?_
  rintro i w8 ⟨hh, rfl, hh8, h⟩ C hC
  refine iteB_i (fun hb => ?_) fun hb => ?_
  · have hlt : hh < 8 := by have := of_decide_eq_true hb; omega
    refine ldS_h (g := ga) (o := 1) h rfl ?_
    refine without_s (hh := (hh : Int)) (hr.ext h.ext) hn fun W s10 w11 hG h2 => ?_
    have hgl := gone_law (by omega) hG
    have h := h.join h2
    have n10 : W.out.length = s10.n := by have := h2.slen (sz := 1) (s := s10) (vs := bls W.out); simpa [bls] using this
    refine loopP_of (fun (i : Int) w' => ∃ j : Nat, i = j ∧ j ≤ l.length ∧ St w w' [slc 1 s10 (bls W.out), slc 1 s4 (ints (rowH l needs hh j)), blk ga [.int .i64 needs, .slice s.a s.n s.c]]) (fun i _ => ((l.length : Int) - i).toNat) ⟨0, rfl, by omega, h⟩ ?_
    rintro i w14 ⟨j, rfl, hj, h⟩ C2 hC2
    have hlen10 : s10.n = l.length := by rw [← n10, hgl.1]
    refine iteB_i (fun hb2 => ?_) fun hb2 => ?_
    · have hjl : j < l.length := by have := of_decide_eq_true hb2; omega
      have hw2 : IntKind.wrap .i64 ((j : Int) + 1) = ((j + 1 : Nat) : Int) := by rw [wrap_id ⟨by omega, by omega⟩]; simp
      refine joinP_i (fun b w' => b = heldB l needs j hh ∧ w' = w14) (fun J hJ => ?_) ?_
      · refine ldI_h (g := ga) (o := 0) h rfl ?_
        refine bit_s (by omega) (by omega) ?_
        have e1 : bitB needs (hh : Int) = tb needs hh := by unfold bitB; rw [and1 hN (by omega) (by omega), Int.toNat_natCast]
        refine iteB_i (fun hb3 => ?_) fun hb3 => ?_
        · exact hJ _ _ ⟨by rw [e1] at hb3; unfold heldB; rw [hb3]; rfl, rfl⟩
        · refine ixBl_h (s := s10) (xs := W.out) h (by omega) (by omega) ?_
          refine hJ _ _ ⟨?_, rfl⟩
          rw [e1] at hb3
          unfold heldB; rw [hb3, Int.toNat_natCast, Bool.false_or]
          have := hgl.2 j hjl
          cases q : W.out.getD j false with
          | true => have := this.1 q; simp [this]
          | false => have : ¬ Way l hh j := fun hw => by rw [this.2 hw] at q; cases q
                     simp [this]
      rintro b w22 ⟨rfl, rfl⟩
      have hset := rowH_set (l := l) (needs := needs) (h := hh) (j := j) hjl
      have hget := rowH_get (l := l) (needs := needs) (h := hh) (j := j) hjl
      refine iteB_i (fun hb3 => ?_) fun hb3 => ?_
      · refine ixI_h (s := s4) (xs := rowH l needs hh j) h (by omega) (by rw [rowH_len]; omega) ?_
        have hwu : IntKind.wrap .u64 (hh : Int) = (hh : Int) := by
          have e : ∀ m : Nat, m < 8 → IntKind.wrap .u64 (m : Int) = (m : Int) := by decide
          exact e hh hlt
        rw [hwu, Int.toNat_natCast, hget]
        refine ⟨by omega, ?_⟩
        have hsh : shlV .i64 1 (hh : Int) = 2 ^ hh := by
          have e : ∀ m : Nat, m < 8 → shlV .i64 1 (m : Int) = 2 ^ m := by decide
          exact e hh hlt
        rw [hsh]
        have hbd := rs_bounds (heldB l needs j) hh
        have hbd2 := rs_bounds (heldB l needs j) (hh + 1)
        have hp : (2 : Int) ^ (hh + 1) ≤ 256 := by
          have e : ∀ m : Nat, m < 8 → (2 : Int) ^ (m + 1) ≤ 256 := by decide
          exact e hh hlt
        have e3 : rs (heldB l needs j) (hh + 1) = rs (heldB l needs j) hh + 2 ^ hh := by simp only [rs]; rw [if_pos hb3]
        have hw3 : IntKind.wrap .i64 (rs (heldB l needs j) hh + 2 ^ hh) = rs (heldB l needs j) (hh + 1) := by rw [← e3, wrap_id ⟨by omega, by omega⟩]
        dsimp only
        rw [hw3]
        refine ixIst_h (s := s4) (xs := rowH l needs hh j) h (by omega) (by rw [rowH_len]; omega) fun w27 h => ?_
        rw [hw2]
        rw [Int.toNat_natCast, hset] at h
        exact hC2 _ _ ⟨j + 1, rfl, hjl, h⟩ (by omega)
      · rw [hw2]
        have e3 : rs (heldB l needs j) (hh + 1) = rs (heldB l needs j) hh := by simp only [rs]; rw [hb3]; simp
        have e4 : rowH l needs hh j = rowH l needs hh (j + 1) := by
          rw [← hset, e3, ← hget]
          refine (List.set_getElem_self (i := j) (by rw [rowH_len]; exact hjl)).symm.trans ?_
          simp [rowH_len, hjl]
        rw [e4] at h
        exact hC2 _ _ ⟨j + 1, rfl, hjl, h⟩ (by omega)
    · have hjl : j = l.length := by have := of_decide_eq_false hb2; omega
      have hw2 : IntKind.wrap .i64 ((hh : Int) + 1) = ((hh + 1 : Nat) : Int) := by rw [wrap_id ⟨by omega, by omega⟩]; simp
      rw [hjl, rowH_end] at h
      rw [hw2]
      exact hC _ _ ⟨hh + 1, rfl, hlt, h.drop⟩ (by omega)
  · have hh : hh = 8 := by have := of_decide_eq_false hb; omega
    subst hh
    rw [rowH_eight] at h
    exact hc s4 w8 (h.rm 1 rfl) (by rw [n4, hsn])
end Go.Proofs.Ytinieegaaimilaa
