/-
  Layer 4: the reference: what is held.
  Layer 2: which instructions may be: the code's answer and the document's.
  Layer 2: which instructions may be: the document's answer.
  Layer 4: what is wrong with a function by itself.
  Layer 4: the judge's four questions.
  Layer 4: the judge's last question; a function.
  Layer 4: the first fault of a function.
  Layer 4: the first fault of a program.
  Layer 4: the chapter's examples.
  Layer 4: the laws of depths, and of handles that are held.
  Layer 4: rows that are owned; whether a program is accepted; the law of what is never come to.
  Layer 4: the law of functions that need more.
  Layer 4: the document's answer: what is wrong with an instruction.
  Layer 4: the document's answer for programs; the law of programs.
  Layer 4: what it is to be accepted; any way through a function of a program that is.
  Layer 4: the law of ways through a function.
-/
import Derived.Test.YtgkfbagclkjilaaCkA
import Derived.Test.YtgkfbagclkjilaaEvP
set_option linter.unusedSimpArgs false
set_option linter.unusedVariables false
set_option maxRecDepth 100000
namespace Go.Proofs.Ytgkfbagclkjilaa.Ck
open Go Go.Ev Go.Proofs

theorem heldL_s {w : World} {s : Sl} {needs : Int} {l : List (List Int)} {k : Sl → World → Prop} (hr : Code5 w s l) (hn : l.length ≤ 1000)
    (hc : ∀ s' w', St w w' [slc 1 s' (ints (heldL l needs))] → s'.n = l.length → k s' w') : check_Held #[.int .i64 needs, .slice s.a s.n s.c] w k := by
  have hsn := hr.len
  refine held_s hr (by omega) fun F s' w' hR h => ?_
  rw [held_law (by omega) hR] at h
  have hl : (heldL l needs).length = s'.n := by have := h.slen (sz := 1) (s := s') (vs := ints (heldL l needs)); simpa using this
  exact hc s' w' h (by rw [← hl, heldL_len])

noncomputable def rowH (l : List (List Int)) (needs : Int) (h j : Nat) : List Int := (List.range l.length).map fun (i : Nat) => rs (heldB l needs (i : Int)) (if i < j then h + 1 else h)
theorem rowH_len {l : List (List Int)} {needs : Int} {h j : Nat} : (rowH l needs h j).length = l.length := by simp [rowH]
theorem rowH_set {l : List (List Int)} {needs : Int} {h j : Nat} (hj : j < l.length) : (rowH l needs h j).set j (rs (heldB l needs j) (h + 1)) = rowH l needs h (j + 1) := by
  refine List.ext_getElem (by simp [rowH]) fun i h1 h2 => ?_
  rw [List.getElem_set]
  split
  · rename_i e; subst e; simp [rowH]
  · rename_i e
    have : (i < j + 1) ↔ (i < j) := by omega
    simp [rowH, this]
theorem rowH_get {l : List (List Int)} {needs : Int} {h j : Nat} (hj : j < l.length) : (rowH l needs h j).getD j 0 = rs (heldB l needs j) h := by
  simp [rowH, hj]
theorem rowH_end {l : List (List Int)} {needs : Int} {h : Nat} : rowH l needs h l.length = rowH l needs (h + 1) 0 := by
  refine List.ext_getElem (by simp [rowH]) fun i h1 h2 => ?_
  have : i < l.length := by simpa [rowH] using h1
  simp [rowH, this]
theorem rowH_zero {l : List (List Int)} {needs : Int} : rowH l needs 0 0 = List.replicate l.length 0 := by
  refine List.ext_getElem (by simp [rowH]) fun i h1 h2 => by simp [rowH, rs]
theorem rowH_eight {l : List (List Int)} {needs : Int} : rowH l needs 8 0 = heldL l needs := by
  refine List.ext_getElem (by simp [rowH, heldL]) fun i h1 h2 => by simp [rowH, heldL]

theorem rheld_s {w : World} {s : Sl} {needs : Int} {l : List (List Int)} {k : Sl → World → Prop} (hr : Code5 w s l) (hN : InI needs) (hn : l.length ≤ 1000)
    (hc : ∀ s' w', St w w' [slc 1 s' (ints (heldL l needs))] → s'.n = l.length → k s' w') : pelotonref04_Held #[.int .i64 needs, .slice s.a s.n s.c] w k := by
  have hsn := hr.len
  unfold pelotonref04_Held pelotonref04_Held_b
  refine newC_h (.nil w) fun ga w2 h => ldS_h (g := ga) (o := 1) h rfl ?_
  refine mkSl_h (n := s.n) h (elI (by kernel_rfl)) rfl (by omega) (by omega) fun s4 w5 h n4 => ?_
  have e0 : List.replicate s.n (Value.int .i64 0) = ints (rowH l needs 0 0) := by rw [rowH_zero, hsn]; simp [ints]
  simp only [e0] at h
  refine loopP_of (fun (i : Int) w' => ∃ h' : Nat, i = h' ∧ h' ≤ 8 ∧ St w w' [slc 1 s4 (ints (rowH l needs h' 0)), blk ga [.int .i64 needs, .slice s.a s.n s.c]]) (fun i _ => (8 - i).toNat) ⟨0, rfl, by omega, by simpa using h⟩ ?_
  rintro i w8 ⟨hh, rfl, hh8, h⟩ C hC
  refine iteB_i (fun hb => ?_) fun hb => ?_
  · have hlt : hh < 8 := by have := of_decide_eq_true hb; omega
    refine ldS_h (g := ga) (o := 1) h rfl ?_
    refine without_s (hh := (hh : Int)) (hr.ext h.ext) hn fun W s10 w11 hG h2 => ?_
    have hgl := gone_law (by omega) hG
    have h := h.join h2
    have n10 : W.out.length = s10.n := by have := h2.slen (sz := 1) (s := s10) (vs := bls W.out); simpa [bls] using this
    refine loopP_of (fun (i : Int) w' => ∃ j : Nat, i = j ∧ j ≤ l.length ∧ St w w' [slc 1 s10 (bls W.out), slc 1 s4 (ints (rowH l needs hh j)), blk ga [.int .i64 needs, .slice s.a s.n s.c]]) (fun i _ => ((l.length : Int) - i).toNat) ⟨0, rfl, by omega, h⟩ ?_
    rintro i w14 ⟨j, rfl, hj, h⟩ C2 hC2
    have hlen10 : s10.n = l.length := by rw [← n10, hgl.1]
    refine iteB_i (fun hb2 => ?_) fun hb2 => ?_
    · have hjl : j < l.length := by have := of_decide_eq_true hb2; omega
      have hw2 : IntKind.wrap .i64 ((j : Int) + 1) = ((j + 1 : Nat) : Int) := by rw [wrap_id ⟨by omega, by omega⟩]; simp
      refine joinP_i (fun b w' => b = heldB l needs j hh ∧ w' = w14) (fun J hJ => ?_) ?_
      · refine ldI_h (g := ga) (o := 0) h rfl ?_
        refine bit_s (by omega) (by omega) ?_
        have e1 : bitB needs (hh : Int) = tb needs hh := by unfold bitB; rw [and1 hN (by omega) (by omega), Int.toNat_natCast]
        refine iteB_i (fun hb3 => ?_) fun hb3 => ?_
        · exact hJ _ _ ⟨by rw [e1] at hb3; unfold heldB; rw [hb3]; rfl, rfl⟩
        · refine ixBl_h (s := s10) (xs := W.out) h (by omega) (by omega) ?_
          refine hJ _ _ ⟨?_, rfl⟩
          rw [e1] at hb3
          unfold heldB; rw [hb3, Int.toNat_natCast, Bool.false_or]
          have := hgl.2 j hjl
          cases q : W.out.getD j false with
          | true => have := this.1 q; simp [this]
          | false => have : ¬ Way l hh j := fun hw => by rw [this.2 hw] at q; cases q
                     simp [this]
      rintro b w22 ⟨rfl, rfl⟩
      have hset := rowH_set (l := l) (needs := needs) (h := hh) (j := j) hjl
      have hget := rowH_get (l := l) (needs := needs) (h := hh) (j := j) hjl
      refine iteB_i (fun hb3 => ?_) fun hb3 => ?_
      · refine ixI_h (s := s4) (xs := rowH l needs hh j) h (by omega) (by rw [rowH_len]; omega) ?_
        have hwu : IntKind.wrap .u64 (hh : Int) = (hh : Int) := by
          have e : ∀ m : Nat, m < 8 → IntKind.wrap .u64 (m : Int) = (m : Int) := by decide
          exact e hh hlt
        rw [hwu, Int.toNat_natCast, hget]
        refine ⟨by omega, ?_⟩
        have hsh : shlV .i64 1 (hh : Int) = 2 ^ hh := by
          have e : ∀ m : Nat, m < 8 → shlV .i64 1 (m : Int) = 2 ^ m := by decide
          exact e hh hlt
        rw [hsh]
        have hbd := rs_bounds (heldB l needs j) hh
        have hbd2 := rs_bounds (heldB l needs j) (hh + 1)
        have hp : (2 : Int) ^ (hh + 1) ≤ 256 := by
          have e : ∀ m : Nat, m < 8 → (2 : Int) ^ (m + 1) ≤ 256 := by decide
          exact e hh hlt
        have e3 : rs (heldB l needs j) (hh + 1) = rs (heldB l needs j) hh + 2 ^ hh := by simp only [rs]; rw [if_pos hb3]
        have hw3 : IntKind.wrap .i64 (rs (heldB l needs j) hh + 2 ^ hh) = rs (heldB l needs j) (hh + 1) := by rw [← e3, wrap_id ⟨by omega, by omega⟩]
        dsimp only
        rw [hw3]
        refine ixIst_h (s := s4) (xs := rowH l needs hh j) h (by omega) (by rw [rowH_len]; omega) fun w27 h => ?_
        rw [hw2]
        rw [Int.toNat_natCast, hset] at h
        exact hC2 _ _ ⟨j + 1, rfl, hjl, h⟩ (by omega)
      · rw [hw2]
        have e3 : rs (heldB l needs j) (hh + 1) = rs (heldB l needs j) hh := by simp only [rs]; rw [hb3]; simp
        have e4 : rowH l needs hh j = rowH l needs hh (j + 1) := by
          rw [← hset, e3, ← hget]
          refine (List.set_getElem_self (i := j) (by rw [rowH_len]; exact hjl)).symm.trans ?_
          simp [rowH_len, hjl]
        rw [e4] at h
        exact hC2 _ _ ⟨j + 1, rfl, hjl, h⟩ (by omega)
    · have hjl : j = l.length := by have := of_decide_eq_false hb2; omega
      have hw2 : IntKind.wrap .i64 ((hh : Int) + 1) = ((hh + 1 : Nat) : Int) := by rw [wrap_id ⟨by omega, by omega⟩]; simp
      rw [hjl, rowH_end] at h
      rw [hw2]
      exact hC _ _ ⟨hh + 1, rfl, hlt, h.drop⟩ (by omega)
  · have hh : hh = 8 := by have := of_decide_eq_false hb; omega
    subst hh
    rw [rowH_eight] at h
    exact hc s4 w8 (h.rm 1 rfl) (by rw [n4, hsn])
end Go.Proofs.Ytgkfbagclkjilaa.Ck

namespace Go.Proofs.Ytgkfbagclkjilaa.Ck
open Go Go.Ev Go.Proofs

def kflat : List Int := [1, 0, 0, 5,  1, 1, 0, 0,  1, 1, 1, 0,  1, 1, 1, 0,  1, 1, 1, 0,  1, 1, 1, 0,  0, 0, 0, 2,  1, 0, 0, 2,  1, 0, 0, 3,  1, 1, 0, 0,  1, 1, 1, 0,  0, 0, 0, 4,  1, 0, 0, 0,  0, 0, 0, 0,  0, 0, 0, 0,  1, 0, 0, 0,  1, 0, 0, 0]
def kinds (op : Int) : List Int := (kflat.drop (op.toNat * 4)).take 4
theorem one_agI (l : List Int) : ∀ v ∈ agI l, v.oneCell' = true := by
  intro v hv
  exact one_ints v (by simpa [agI] using hv)
theorem operands_s {w : World} {op : Int} {k : Array Value → World → Prop} (h0 : 0 ≤ op) (h1 : op < 17) (hc : ∀ w', St w w' [] → k (agI (kinds op)) w') : code_operands op w k := by
  unfold code_operands
  refine newC_h (.nil w) fun g1 w2 h => ?_
  iterate 16 refine ⟨rfl, ?_⟩
  refine spl_i (agI kflat) rfl (by kernel_rfl) ?_
  refine newC_h h fun g2 w21 h => ?_
  refine stW_h (g := g2) h rfl (by kernel_rfl) (one_agI _) fun w22 h => ?_
  refine ixP_i h0 (by omega) ?_
  refine ldA_h (g := g2) h (by simp [ints, kflat]; omega) ?_
  have e : (List.take 4 (List.drop (0 + op.toNat * 4) (agI kflat).toList)) = ints (kinds op) := by
    simp [kinds, ints, agI, List.map_take, List.map_drop]
  rw [e]
  have hl : (kinds op).length = 4 := by simp [kinds, kflat]; omega
  refine stW_h (g := g1) h rfl (by simp [ints, hl]) (one_agI _) fun w25 h => ?_
  refine ldW_h (g := g1) h (by simp [ints, hl]) ?_
  exact hc _ h.all
def spanOf (kd : Int) : Int × Int := cond (kd == 1) (0, 7) (cond (kd == 2) (0, 127) (cond (kd == 3) (0, 31) (cond (kd == 4) (0, 65535) (cond (kd == 5) (-2147483648, 2147483647) (0, 0)))))
theorem span_s {w : World} {kd : Int} {k : Int × Int → World → Prop} (hc : k (spanOf kd) w) : code_span kd w k := by
  unfold code_span
  unfold spanOf at hc
  revert hc
  cases (kd == 1) <;> cases (kd == 2) <;> cases (kd == 3) <;> cases (kd == 4) <;> cases (kd == 5) <;> exact id

def fit (x ks : List Int) (j : Nat) : Bool := !(decide (x.getD (j + 1) 0 < (spanOf (ks.getD j 0)).1) || decide (x.getD (j + 1) 0 > (spanOf (ks.getD j 0)).2))
def fits (x ks : List Int) : Bool := (List.range 4).all (fit x ks)
/-- which instructions may be -/
def chk (x : List Int) : Int := if opI x < 0 ∨ 17 ≤ opI x then 13 else if fits x (kinds (opI x)) then 0 else 10
theorem fits_all {x ks : List Int} (h : ∀ j, j < 4 → fit x ks j = true) : fits x ks = true := by
  unfold fits; rw [List.all_eq_true]; intro j hj; exact h j (by simpa using hj)
theorem fits_not {x ks : List Int} {j : Nat} (hj : j < 4) (h : fit x ks j = false) : fits x ks = false := by
  unfold fits; rw [List.all_eq_false]; exact ⟨j, by simpa using hj, by simp [h]⟩

theorem ccheck_s {w : World} {x : List Int} {k : Int → World → Prop} (h5 : x.length = 5) (hc : ∀ w', St w w' [] → k (chk x) w') : code_Check (agI x) w k := by
  obtain ⟨o, a, b, c, n, rfl⟩ : ∃ o a b c n, x = [o, a, b, c, n] := by
    match x, h5 with
    | [o, a, b, c, n], _ => exact ⟨o, a, b, c, n, rfl⟩
  unfold code_Check code_Check_b
  refine newC_h (.nil w) fun g1 w2 h => ?_
  refine joinP_i (fun b w' => b = decide (o < 0 ∨ 17 ≤ o) ∧ w' = w2) (fun J hJ => ?_) ?_
  · refine ldI_h (g := g1) (o := 0) h rfl (iteB_i (fun hb => ?_) fun hb => ?_)
    · have := of_decide_eq_true hb
      exact hJ _ _ ⟨(decide_eq_true (.inl this)).symm, rfl⟩
    · have := of_decide_eq_false hb
      refine ldI_h (g := g1) (o := 0) h rfl (hJ _ _ ⟨?_, rfl⟩)
      rw [decide_eq_decide]; omega
  rintro b1 w7 ⟨rfl, rfl⟩
  refine iteB_i (fun hb => ?_) fun hb => ?_
  · have := of_decide_eq_true hb
    have e : chk [o, a, b, c, n] = 13 := if_pos this
    have := hc w7 h.all
    rwa [e] at this
  · have hno := of_decide_eq_false hb
    have e : chk [o, a, b, c, n] = if fits [o, a, b, c, n] (kinds o) then 0 else 10 := if_neg hno
    rw [e] at hc
    have hl : (kinds o).length = 4 := by simp [kinds, kflat]; omega
    refine ldI_h (g := g1) (o := 0) h rfl ?_
    refine operands_s (by omega) (by omega) fun w10 h2 => ?_
    have h := h.on h2.ext
    refine newC_h h fun g2 w12 h => ?_
    refine stW_h (g := g2) h rfl (by simp [ints, hl]) (one_agI _) fun w13 h => ?_
    refine ldI_h (g := g1) (o := 1) h rfl (ldI_h (g := g1) (o := 2) h rfl (ldI_h (g := g1) (o := 3) h rfl (ldI_h (g := g1) (o := 4) h rfl ?_)))
    refine loopP_of (fun (y : Int × Int) w' => ∃ j : Nat, y = (0, (j : Int)) ∧ j ≤ 4 ∧ (∀ i, i < j → fit [o, a, b, c, n] (kinds o) i = true) ∧ w' = w13) (fun y _ => (4 - y.2).toNat) ⟨0, rfl, by omega, fun i hi => by omega, rfl⟩ ?_
    rintro _ _ ⟨j, rfl, hj4, hfit, rfl⟩ C hC
    refine iteB_i (fun hb => ?_) fun hb => ?_
    · have hj : j < 4 := by have := of_decide_eq_true hb; dsimp only at this; omega
      have hw2 : IntKind.wrap .i64 ((j : Int) + 1) = ((j + 1 : Nat) : Int) := by rw [wrap_id ⟨by omega, by omega⟩]; simp
      refine ixA_I (l := [a, b, c, n]) (by dsimp only; omega) (by dsimp only; omega) rfl (toI_i ?_)
      refine ixP_i (by dsimp only; omega) (by dsimp only; omega) ?_
      refine ldI_h (g := g2) (o := 0 + (j : Int).toNat * 1) (n := (kinds o).getD j 0) h (by rw [show 0 + (j : Int).toNat * 1 = j by omega]; exact ints_getD (by omega)) ?_
      refine span_s ?_
      have ef : [a, b, c, n].getD (j : Int).toNat 0 = [o, a, b, c, n].getD (j + 1) 0 := by rw [Int.toNat_natCast]; rfl
      dsimp only
      rw [ef]
      have ed : (decide ([o, a, b, c, n].getD (j + 1) 0 < (spanOf ((kinds o).getD j 0)).1) || decide ([o, a, b, c, n].getD (j + 1) 0 > (spanOf ((kinds o).getD j 0)).2)) = !(fit [o, a, b, c, n] (kinds o) j) := by unfold fit; rw [Bool.not_not]
      rw [ed]
      refine iteB_i (fun hb => ?_) fun hb => ?_
      · have hf : fit [o, a, b, c, n] (kinds o) j = false := by simpa using hb
        have := hc _ h.all
        rw [fits_not hj hf] at this; exact this
      · have hf : fit [o, a, b, c, n] (kinds o) j = true := by simpa using hb
        rw [hw2]
        refine hC _ _ ⟨j + 1, rfl, hj, fun i hi => ?_, rfl⟩ (by dsimp only; omega)
        by_cases e : i = j
        · rw [e]; exact hf
        · exact hfit i (by omega)
    · have hj : j = 4 := by have := of_decide_eq_false hb; dsimp only at this; omega
      subst hj
      have := hc _ h.all
      rw [fits_all hfit] at this; exact this
end Go.Proofs.Ytgkfbagclkjilaa.Ck

namespace Go.Proofs.Ytgkfbagclkjilaa.Ck
open Go Go.Ev Go.Proofs

def spansL (op : Int) : List Int := (kinds op).flatMap fun kd => [(spanOf kd).1, (spanOf kd).2]
theorem k_cast {k : Array Value → World → Prop} {a b : Array Value} {w : World} (h : k a w) (e : a = b) : k b w := e ▸ h
theorem rspans_s {w : World} {op : Int} {k : Array Value → World → Prop} (h0 : 0 ≤ op) (h1 : op < 17) (hc : ∀ w', St w w' [] → k (agI (spansL op)) w') : pelotonref02_spans op w k := by
  unfold pelotonref02_spans
  refine newC_h (.nil w) fun g1 w2 h => ?_
  have hop : op = 0 ∨ op = 1 ∨ op = 2 ∨ op = 3 ∨ op = 4 ∨ op = 5 ∨ op = 6 ∨ op = 7 ∨ op = 8 ∨ op = 9 ∨ op = 10 ∨ op = 11 ∨ op = 12 ∨ op = 13 ∨ op = 14 ∨ op = 15 ∨ op = 16 := by omega
  rcases hop with rfl | rfl | rfl | rfl | rfl | rfl | rfl | rfl | rfl | rfl | rfl | rfl | rfl | rfl | rfl | rfl | rfl
  all_goals
    repeat (first | refine iteB_t rfl ?_ | refine iteB_f rfl ?_ | refine joinP_d ?_)
    refine stW_h (g := g1) h rfl rfl (by intro v hv; simp at hv; rcases hv with rfl | rfl | rfl | rfl | rfl | rfl | rfl | rfl <;> rfl) fun w3 h => ?_
    refine ldW_h (g := g1) h rfl ?_
    exact k_cast (hc _ h.all) (by kernel_rfl)
theorem spansL_get {op : Int} (h0 : 0 ≤ op) (h1 : op < 17) {j : Nat} (hj : j < 4) : (spansL op).length = 8 ∧ (spansL op).getD (2 * j) 0 = (spanOf ((kinds op).getD j 0)).1 ∧ (spansL op).getD (2 * j + 1) 0 = (spanOf ((kinds op).getD j 0)).2 := by
  have hop : op = 0 ∨ op = 1 ∨ op = 2 ∨ op = 3 ∨ op = 4 ∨ op = 5 ∨ op = 6 ∨ op = 7 ∨ op = 8 ∨ op = 9 ∨ op = 10 ∨ op = 11 ∨ op = 12 ∨ op = 13 ∨ op = 14 ∨ op = 15 ∨ op = 16 := by omega
  have hjj : j = 0 ∨ j = 1 ∨ j = 2 ∨ j = 3 := by omega
  rcases hop with rfl | rfl | rfl | rfl | rfl | rfl | rfl | rfl | rfl | rfl | rfl | rfl | rfl | rfl | rfl | rfl | rfl <;> rcases hjj with rfl | rfl | rfl | rfl <;> decide
theorem rcheck_s {w : World} {x : List Int} {k : Int → World → Prop} (h5 : x.length = 5) (hc : ∀ w', St w w' [] → k (chk x) w') : pelotonref02_Check (agI x) w k := by
  obtain ⟨o, a, b, c, n, rfl⟩ : ∃ o a b c n, x = [o, a, b, c, n] := by
    match x, h5 with
    | [o, a, b, c, n], _ => exact ⟨o, a, b, c, n, rfl⟩
  unfold pelotonref02_Check pelotonref02_Check_b
  refine newC_h (.nil w) fun g1 w2 h => ?_
  refine joinP_i (fun b w' => b = decide (o < 0 ∨ 17 ≤ o) ∧ w' = w2) (fun J hJ => ?_) ?_
  · refine ldI_h (g := g1) (o := 0) h rfl (iteB_i (fun hb => ?_) fun hb => ?_)
    · have := of_decide_eq_true hb
      exact hJ _ _ ⟨(decide_eq_true (.inl this)).symm, rfl⟩
    · have := of_decide_eq_false hb
      refine ldI_h (g := g1) (o := 0) h rfl (hJ _ _ ⟨?_, rfl⟩)
      rw [decide_eq_decide]; omega
  rintro b1 w7 ⟨rfl, rfl⟩
  refine iteB_i (fun hb => ?_) fun hb => ?_
  · have := of_decide_eq_true hb
    have e : chk [o, a, b, c, n] = 13 := if_pos this
    have := hc w7 h.all
    rwa [e] at this
  · have hno := of_decide_eq_false hb
    have e : chk [o, a, b, c, n] = if fits [o, a, b, c, n] (kinds o) then 0 else 10 := if_neg hno
    rw [e] at hc
    have hl : (spansL o).length = 8 := (spansL_get (op := o) (by omega) (by omega) (j := 0) (by omega)).1
    refine ldI_h (g := g1) (o := 0) h rfl ?_
    refine rspans_s (by omega) (by omega) fun w10 h2 => ?_
    have h := h.on h2.ext
    refine newC_h h fun g2 w12 h => ?_
    refine stW_h (g := g2) h rfl (by simp [ints, hl]) (one_agI _) fun w13 h => ?_
    refine ldI_h (g := g1) (o := 1) h rfl (ldI_h (g := g1) (o := 2) h rfl (ldI_h (g := g1) (o := 3) h rfl (ldI_h (g := g1) (o := 4) h rfl ?_)))
    refine newC_h h fun g3 w19 h => ?_
    refine stW_h (g := g3) (vs := agI [a, b, c, n]) h rfl rfl (one_agI _) fun w20 h => ?_
    refine loopP_of (fun (y : Int) w' => ∃ j : Nat, y = (j : Int) ∧ j ≤ 4 ∧ (∀ i, i < j → fit [o, a, b, c, n] (kinds o) i = true) ∧ St w w' [blk g3 (ints [a, b, c, n]), blk g2 (ints (spansL o)), blk g1 (ints [o, a, b, c, n])]) (fun y _ => (4 - y).toNat) ⟨0, rfl, by omega, fun i hi => by omega, h⟩ ?_
    rintro _ w23 ⟨j, rfl, hj4, hfit, h⟩ C hC
    refine iteB_i (fun hb => ?_) fun hb => ?_
    · have hj : j < 4 := by have := of_decide_eq_true hb; omega
      have hw2 : IntKind.wrap .i64 ((j : Int) + 1) = ((j + 1 : Nat) : Int) := by rw [wrap_id ⟨by omega, by omega⟩]; simp
      have hw3 : IntKind.wrap .i64 (2 * (j : Int)) = ((2 * j : Nat) : Int) := by rw [wrap_id ⟨by omega, by omega⟩]; omega
      have hw4 : IntKind.wrap .i64 (((2 * j : Nat) : Int) + 1) = ((2 * j + 1 : Nat) : Int) := by rw [wrap_id ⟨by omega, by omega⟩]; omega
      have hsp := spansL_get (op := o) (by omega) (by omega) hj
      have ef : [a, b, c, n].getD j 0 = [o, a, b, c, n].getD (j + 1) 0 := rfl
      refine joinP_i (fun b' w' => b' = !(fit [o, a, b, c, n] (kinds o) j) ∧ St w w' [blk g3 (ints [a, b, c, n]), blk g2 (ints (spansL o)), blk g1 (ints [o, a, b, c, n])]) (fun J hJ => ?_) ?_
      · refine drew_h h fun w25 h => ?_
        rw [hw3, hw4]
        have rd3 : ∀ {c' : Int → Prop}, c' ([o, a, b, c, n].getD (j + 1) 0) → ixP ⟨g3, 0, none⟩ 4 (j : Int) 1 fun a => ldI .i64 w25 a c' := by
          intro c' hc'
          refine ixP_i (by omega) (by omega) ?_
          refine ldI_h (g := g3) (o := 0 + (j : Int).toNat * 1) (n := [a, b, c, n].getD j 0) h (by rw [show 0 + (j : Int).toNat * 1 = j by omega]; exact ints_getD (by simp; omega)) ?_
          rw [ef]; exact hc'
        have rd2 : ∀ {m : Nat} {c' : Int → Prop}, m < 8 → c' ((spansL o).getD m 0) → ixP ⟨g2, 0, none⟩ 8 (m : Int) 1 fun a => ldI .i64 w25 a c' := by
          intro m c' hm hc'
          refine ixP_i (by omega) (by omega) ?_
          exact ldI_h (g := g2) (o := 0 + (m : Int).toNat * 1) (n := (spansL o).getD m 0) h (by rw [show 0 + (m : Int).toNat * 1 = m by omega]; exact ints_getD (by omega)) hc'
        refine rd3 (rd2 (by omega) ?_)
        rw [hsp.2.1]
        refine iteB_i (fun hb => ?_) fun hb => ?_
        · exact hJ _ _ ⟨by unfold fit; rw [hb]; rfl, h⟩
        · refine rd3 (rd2 (by omega) ?_)
          rw [hsp.2.2]
          exact hJ _ _ ⟨by unfold fit; rw [hb, Bool.not_not]; rfl, h⟩
      rintro b2 w35 ⟨rfl, h⟩
      refine iteB_i (fun hb => ?_) fun hb => ?_
      · have hf : fit [o, a, b, c, n] (kinds o) j = false := by simpa using hb
        have := hc _ h.all
        rw [fits_not hj hf] at this; exact this
      · have hf : fit [o, a, b, c, n] (kinds o) j = true := by simpa using hb
        rw [hw2]
        refine hC _ _ ⟨j + 1, rfl, hj, fun i hi => ?_, h⟩ (by omega)
        by_cases e : i = j
        · rw [e]; exact hf
        · exact hfit i (by omega)
    · have hj : j = 4 := by have := of_decide_eq_false hb; omega
      subst hj
      have := hc _ h.all
      rw [fits_all hfit] at this; exact this
end Go.Proofs.Ytgkfbagclkjilaa.Ck

namespace Go.Proofs.Ytgkfbagclkjilaa.Ck
open Go Go.Ev Go.Proofs

def firstBad : Nat → List (List Int) → Int × Int
  | _, [] => (0, 0)
  | i, x :: l => if chk x != 0 then ((i : Int), chk x) else firstBad (i + 1) l
def shapeF (needs : Int) (l : List (List Int)) : Int × Int :=
  if decide (needs < 0) || decide (needs > 255) then (-1, 10) else if decide (l.length < 1) || decide (l.length > 128) then (-1, 12) else firstBad 0 l

theorem firstBad_step {l dn rest : List (List Int)} {x : List Int} (hl : l = dn ++ x :: rest) (hd : firstBad 0 l = firstBad dn.length (x :: rest)) (hx : (chk x != 0) = false) : firstBad 0 l = firstBad (dn ++ [x]).length rest := by
  rw [hd]; simp [firstBad, hx]

theorem shape_s {w : World} {s : Sl} {needs : Int} {l : List (List Int)} {k : Int × Int → World → Prop} (hr : Code5 w s l)
    (hc : ∀ w', St w w' [] → k (shapeF needs l) w') : check_shape #[.int .i64 needs, .slice s.a s.n s.c] w k := by
  have hsn := hr.len
  unfold check_shape check_shape_b
  refine newC_h (.nil w) fun g w2 h => ?_
  refine joinP_i (fun b w' => b = (decide (needs < 0) || decide (needs > 255)) ∧ w' = w2) (fun J hJ => ?_) ?_
  · refine ldI_h (g := g) (o := 0) h rfl (iteB_i (fun hb => ?_) fun hb => ?_)
    · exact hJ _ _ ⟨by rw [hb]; rfl, rfl⟩
    · refine ldI_h (g := g) (o := 0) h rfl (hJ _ _ ⟨by rw [hb]; rfl, rfl⟩)
  rintro b1 w7 ⟨rfl, rfl⟩
  unfold shapeF at hc
  refine iteB_i (fun hb => ?_) fun hb => ?_
  · rw [hb] at hc; exact hc _ h.all
  · rw [hb] at hc
    refine joinP_i (fun b w' => b = (decide (l.length < 1) || decide (l.length > 128)) ∧ w' = w7) (fun J hJ => ?_) ?_
    · have e1 : decide (((s.n : Nat) : Int) < 1) = decide (l.length < 1) := by rw [decide_eq_decide]; omega
      have e2 : decide (((s.n : Nat) : Int) > 128) = decide (l.length > 128) := by rw [decide_eq_decide]; omega
      refine ldS_h (g := g) (o := 1) h rfl (iteB_i (fun hb => ?_) fun hb => ?_)
      · exact hJ _ _ ⟨by rw [← e1]; dsimp only at hb; rw [hb]; rfl, rfl⟩
      · refine ldS_h (g := g) (o := 1) h rfl (hJ _ _ ⟨by rw [← e1, ← e2]; dsimp only at hb; rw [hb]; rfl, rfl⟩)
    rintro b2 w12 ⟨rfl, rfl⟩
    refine iteB_i (fun hb2 => ?_) fun hb2 => ?_
    · rw [hb2] at hc; exact hc _ h.all
    · rw [hb2] at hc
      have hl128 : l.length ≤ 128 := by
        rw [Bool.or_eq_false_iff] at hb2; have := of_decide_eq_false hb2.2; omega
      refine ldS_h (g := g) (o := 1) h rfl ?_
      refine loopP_of (fun (i : Int) w' => ∃ dn rest, l = dn ++ rest ∧ i = (dn.length : Int) ∧ firstBad 0 l = firstBad dn.length rest ∧ St w w' []) (fun i _ => ((s.n : Int) - i).toNat) ⟨[], l, rfl, rfl, rfl, h.all⟩ ?_
      rintro _ w16 ⟨dn, rest, hl, rfl, hd, h⟩ C hC
      cases rest with
      | nil =>
        refine iteB_f (by simp only [decide_eq_false_iff_not]; rw [hsn, hl]; simp) ?_
        rw [hd] at hc; exact hc _ h
      | cons x rest =>
        have hlen : l.length = dn.length + (rest.length + 1) := by rw [hl]; simp
        have hw1 : IntKind.wrap .i64 ((dn.length : Int) + 1) = ((dn ++ [x]).length : Int) := by rw [wrap_id ⟨by omega, by omega⟩]; simp
        refine iteB_t (by simp only [decide_eq_true_eq]; omega) ?_
        refine ixC (hr.ext h.ext) hl rfl fun p h5 hcell => ldA_c (by simp [Go.Ev.ints, h5]) hcell ?_
        refine newC_h h fun g2 w20 h => stW_h (g := g2) h rfl (by simp [Go.Ev.ints, h5]) (one_agI _) fun w21 h => ldW_h (g := g2) h (by simp [Go.Ev.ints, h5]) ?_
        refine ccheck_s h5 fun w24 h2 => ?_
        have h := h.all.on h2.ext
        refine iteB_i (fun hb3 => ?_) fun hb3 => ?_
        · have e : firstBad dn.length (x :: rest) = ((dn.length : Int), chk x) := by unfold firstBad; rw [hb3]; rfl
          rw [hd, e] at hc
          exact hc _ h
        · rw [hw1]
          exact hC _ _ ⟨dn ++ [x], rest, by rw [hl]; simp, rfl, firstBad_step hl hd hb3, h⟩ (by simp; omega)

theorem rshape_s {w : World} {s : Sl} {needs : Int} {l : List (List Int)} {k : Int × Int → World → Prop} (hr : Code5 w s l)
    (hc : ∀ w', St w w' [] → k (shapeF needs l) w') : pelotonref04_shape #[.int .i64 needs, .slice s.a s.n s.c] w k := by
  have hsn := hr.len
  unfold pelotonref04_shape pelotonref04_shape_b
  refine newC_h (.nil w) fun g w2 h => ?_
  refine joinP_i (fun b w' => b = (decide (needs < 0) || decide (needs > 255)) ∧ w' = w2) (fun J hJ => ?_) ?_
  · refine ldI_h (g := g) (o := 0) h rfl (iteB_i (fun hb => ?_) fun hb => ?_)
    · exact hJ _ _ ⟨by rw [hb]; rfl, rfl⟩
    · refine ldI_h (g := g) (o := 0) h rfl (hJ _ _ ⟨by rw [hb]; rfl, rfl⟩)
  rintro b1 w7 ⟨rfl, rfl⟩
  unfold shapeF at hc
  refine iteB_i (fun hb => ?_) fun hb => ?_
  · rw [hb] at hc; exact hc _ h.all
  · rw [hb] at hc
    refine joinP_i (fun b w' => b = (decide (l.length < 1) || decide (l.length > 128)) ∧ w' = w7) (fun J hJ => ?_) ?_
    · have e1 : decide (((s.n : Nat) : Int) < 1) = decide (l.length < 1) := by rw [decide_eq_decide]; omega
      have e2 : decide (((s.n : Nat) : Int) > 128) = decide (l.length > 128) := by rw [decide_eq_decide]; omega
      refine ldS_h (g := g) (o := 1) h rfl (iteB_i (fun hb => ?_) fun hb => ?_)
      · exact hJ _ _ ⟨by rw [← e1]; dsimp only at hb; rw [hb]; rfl, rfl⟩
      · refine ldS_h (g := g) (o := 1) h rfl (hJ _ _ ⟨by rw [← e1, ← e2]; dsimp only at hb; rw [hb]; rfl, rfl⟩)
    rintro b2 w12 ⟨rfl, rfl⟩
    refine iteB_i (fun hb2 => ?_) fun hb2 => ?_
    · rw [hb2] at hc; exact hc _ h.all
    · rw [hb2] at hc
      have hl128 : l.length ≤ 128 := by
        rw [Bool.or_eq_false_iff] at hb2; have := of_decide_eq_false hb2.2; omega
      refine loopP_of (fun (i : Int) w' => ∃ dn rest, l = dn ++ rest ∧ i = (dn.length : Int) ∧ firstBad 0 l = firstBad dn.length rest ∧ St w w' [blk g [.int .i64 needs, .slice s.a s.n s.c]]) (fun i _ => ((s.n : Int) - i).toNat) ⟨[], l, rfl, rfl, rfl, h⟩ ?_
      rintro _ w16 ⟨dn, rest, hl, rfl, hd, h⟩ C hC
      refine ldS_h (g := g) (o := 1) h rfl ?_
      cases rest with
      | nil =>
        refine iteB_f (by simp only [decide_eq_false_iff_not]; rw [hsn, hl]; simp) ?_
        rw [hd] at hc; exact hc _ h.all
      | cons x rest =>
        have hlen : l.length = dn.length + (rest.length + 1) := by rw [hl]; simp
        have hw1 : IntKind.wrap .i64 ((dn.length : Int) + 1) = ((dn ++ [x]).length : Int) := by rw [wrap_id ⟨by omega, by omega⟩]; simp
        refine iteB_t (by simp only [decide_eq_true_eq]; omega) ?_
        refine ldS_h (g := g) (o := 1) h rfl ?_
        refine ixC (hr.ext h.ext) hl rfl fun p h5 hcell => ldA_c (by simp [Go.Ev.ints, h5]) hcell ?_
        refine rcheck_s h5 fun w24 h2 => ?_
        have h := h.on h2.ext
        refine iteB_i (fun hb3 => ?_) fun hb3 => ?_
        · have e : firstBad dn.length (x :: rest) = ((dn.length : Int), chk x) := by unfold firstBad; rw [hb3]; rfl
          rw [hd, e] at hc
          exact hc _ h.all
        · rw [hw1]
          exact hC _ _ ⟨dn ++ [x], rest, by rw [hl]; simp, rfl, firstBad_step hl hd hb3, h⟩ (by simp; omega)

/-! ### what an instruction may do in its function -/
def placesE (nf n : Nat) (x : List Int) : Int := if (isGoes x && decide (x.getD 4 0 ≥ n)) || ((opI x == 8) && decide (x.getD 4 0 ≥ nf)) then 10 else 0
def lastE (n : Nat) (i : Nat) (x : List Int) : Int := if ((i : Int) == (n : Int) - 1) && (opI x != 6) && !isEnds x then 11 else 0
def scopesOk (D : List Int) (i : Nat) (x : List Int) : Bool :=
  if (opI x == 12) || (opI x == 13) then decide (D.getD i 0 ≥ 1) else if opI x == 16 then D.getD i 0 == 0 else if isGoes x then D.getD (x.getD 4 0).toNat 0 == D.getD i 0 else true
def subBits (a b : Int) : Bool := (List.range 8).all fun h => !tb a h || tb b h
def needsOf (P : List FnR) (i : Int) : Int := (P.map FnR.needs).getD i.toNat 0
def handlesOk (P : List FnR) (hv : Int) (x : List Int) : Bool :=
  if opI x == 9 then tb hv (x.getD 2 0).toNat else if opI x == 10 then tb hv (x.getD 3 0).toNat else if opI x == 8 then subBits (needsOf P (x.getD 4 0)) hv else true
def askE (P : List FnR) (n : Nat) (D H : List Int) (i : Nat) (x : List Int) : Nat → Int
  | 0 => placesE P.length n x
  | 1 => lastE n i x
  | 2 => if scopesOk D i x then 0 else 15
  | _ => if handlesOk P (H.getD i 0) x then 0 else 16
def wrongF (P : List FnR) (n : Nat) (D H : List Int) (i : Nat) (x : List Int) : Int :=
  if askE P n D H i x 0 != 0 then askE P n D H i x 0 else if askE P n D H i x 1 != 0 then askE P n D H i x 1 else if askE P n D H i x 2 != 0 then askE P n D H i x 2 else askE P n D H i x 3
def funcFault (P : List FnR) (n : Nat) (D H : List Int) : Nat → List (List Int) → Option (Int × Int)
  | _, [] => none
  | i, x :: l => if wrongF P n D H i x != 0 then some ((i : Int), wrongF P n D H i x) else funcFault P n D H (i + 1) l
noncomputable def fault1 (P : List FnR) (f : FnR) : Option (Int × Int) := funcFault P f.code.length (depths 0 f.code) (heldL f.code f.needs) 0 f.code
noncomputable def faults (P : List FnR) : Nat → List FnR → Option (Int × Int × Int)
  | _, [] => none
  | k, f :: l => match fault1 P f with
    | some (i, e) => some ((k : Int), i, e)
    | none => faults P (k + 1) l
def shapes : Nat → List FnR → Option (Int × Int × Int)
  | _, [] => none
  | k, f :: l => if (shapeF f.needs f.code).2 != 0 then some ((k : Int), (shapeF f.needs f.code).1, (shapeF f.needs f.code).2) else shapes (k + 1) l
noncomputable def progF (P : List FnR) : Int × Int × Int :=
  if decide (P.length < 1) || decide (P.length > 32) then (-1, -1, 12) else match shapes 0 P with
    | some x => x
    | none => if needsOf P 0 != 0 then (0, -1, 16) else match faults P 0 P with
      | some x => x
      | none => (0, 0, 0)
end Go.Proofs.Ytgkfbagclkjilaa.Ck

namespace Go.Proofs.Ytgkfbagclkjilaa.Ck
open Go Go.Ev Go.Proofs

theorem ixC_h {w0 w : World} {L : List HP} {s : Sl} {l : List (List Int)} {x : List Int} {i : Int} {c : Addr → Prop} (hr : Code5 w0 s l) (h : St w0 w L) (h0 : 0 ≤ i) (hx : l[i.toNat]? = some x)
    (hc : ∀ p : Addr, x.length = 5 → (∀ {w' L'}, St w0 w' L' → ∀ {j v}, (Go.Ev.ints x)[j]? = some v → w'.cell? (p.add j) = some v) → c p) : ixS s i 5 c :=
  ixR_h (e := Go.Ev.ints x) hr.rws h h0 (by rw [List.getElem?_map, hx]; rfl) fun p hp => hc p ((hr.five x (List.mem_of_getElem? hx)).1) hp
theorem samec_e {n : Nat} {a : Addr} {e : List Value} {w w' : World} {c : Prop} (he : n ≤ e.length) (h : ∀ {j v}, e[j]? = some v → w.cell? (a.add j) = some v) (h' : ∀ {j v}, e[j]? = some v → w'.cell? (a.add j) = some v) (hc : c) : samec n a w w' c :=
  ⟨fun k hk => by rw [h (List.getElem?_eq_getElem (by omega)), h' (List.getElem?_eq_getElem (by omega))], hc⟩

theorem chk0 {x : List Int} (h : chk x = 0) : 0 ≤ opI x ∧ opI x < 17 ∧ (isGoes x = true → 0 ≤ x.getD 4 0 ∧ x.getD 4 0 ≤ 127) ∧ (opI x = 8 → 0 ≤ x.getD 4 0 ∧ x.getD 4 0 ≤ 31 ∧ 0 ≤ x.getD 1 0 ∧ x.getD 1 0 ≤ 7) ∧ (opI x = 9 → 0 ≤ x.getD 2 0 ∧ x.getD 2 0 ≤ 7) ∧ (opI x = 10 → 0 ≤ x.getD 3 0 ∧ x.getD 3 0 ≤ 7) := by
  unfold chk at h
  split at h
  · cases h
  · rename_i hno
    split at h
    · rename_i hf
      unfold fits at hf
      rw [List.all_eq_true] at hf
      have f0 := hf 0 (by decide)
      have f1 := hf 1 (by decide)
      have f2 := hf 2 (by decide)
      have f3 := hf 3 (by decide)
      refine ⟨by omega, by omega, fun hg => ?_, fun ho => ?_, fun ho => ?_, fun ho => ?_⟩
      · have : opI x = 6 ∨ opI x = 7 := by unfold isGoes at hg; simpa using hg
        unfold fit at f3
        rcases this with ho | ho <;> rw [ho] at f3 <;> simp [kinds, kflat, spanOf] at f3 ⊢ <;> omega
      · unfold fit at f3 f0
        rw [ho] at f3 f0; simp [kinds, kflat, spanOf] at f3 f0 ⊢; omega
      · unfold fit at f1
        rw [ho] at f1; simp [kinds, kflat, spanOf] at f1 ⊢; omega
      · unfold fit at f2
        rw [ho] at f2; simp [kinds, kflat, spanOf] at f2 ⊢; omega
    · cases h

section
variable {w0 w : World} {gj : Nat} {ps s sd sh : Sl} {P : List FnR} {l : List (List Int)} {D H : List Int} {R : List HP} {i : Nat} {x : List Int} {k : Int → World → Prop}

theorem places_s (h : St w0 w (blk gj [.slice ps.a ps.n ps.c, .slice s.a s.n s.c, .slice sd.a sd.n sd.c, .slice sh.a sh.n sh.c] :: R)) (hr : Code5 w0 s l) (hx : l[i]? = some x) (hpn : ps.n = P.length)
    (hc : ∀ w', St w0 w' (blk gj [.slice ps.a ps.n ps.c, .slice s.a s.n s.c, .slice sd.a sd.n sd.c, .slice sh.a sh.n sh.c] :: R) → k (placesE P.length l.length x) w') : check_judge_places (some ⟨gj, 0, none⟩) (i : Int) w k := by
  have hsn := hr.len
  unfold check_judge_places check_judge_places_b
  refine nn_i (ldS_h (g := gj) (o := 1) h rfl (ixC_h hr h (by omega) hx fun p h5 hp => ldA_c (by simp [Go.Ev.ints, h5]) (fun j v => hp h) ?_))
  refine newC_h h fun g w6 h => stW_h (g := g) h rfl (by simp [Go.Ev.ints, h5]) (one_agI _) fun w7 h => ?_
  have h : St w0 w7 (blk g (ints x) :: blk gj [.slice ps.a ps.n ps.c, .slice s.a s.n s.c, .slice sd.a sd.n sd.c, .slice sh.a sh.n sh.c] :: R) := h
  refine joinP_i (fun b w' => b = ((isGoes x && decide (x.getD 4 0 ≥ l.length)) || ((opI x == 8) && decide (x.getD 4 0 ≥ P.length))) ∧ St w0 w' (blk g (ints x) :: blk gj [.slice ps.a ps.n ps.c, .slice s.a s.n s.c, .slice sd.a sd.n sd.c, .slice sh.a sh.n sh.c] :: R)) (fun J hJ => ?_) ?_
  · refine drew_h h fun w9 h => ldI_h (g := g) (o := 0) h (ints_get (by omega)) ?_
    have second : (isGoes x && decide (x.getD 4 0 ≥ l.length)) = false → ldI .i64 w9 (Addr.add ⟨g, 0, none⟩ 0) fun i16 =>
        iteB (i16 == (8 : Int)) (
          ldI .i64 w9 (Addr.add ⟨g, 0, none⟩ 4) fun i17 =>
          nn (some ⟨gj, 0, none⟩) fun a18 =>
          ldS w9 (Addr.add (Addr.add a18 0) 0) fun s19 =>
          (J (decide (i17 ≥ ((s19.n : Nat) : Int))) w9)) (
          (J false w9)) := by
      intro ha
      refine ldI_h (g := g) (o := 0) h (ints_get (by omega)) (iteB_i (fun hb => ?_) fun hb => ?_)
      · refine ldI_h (g := g) (o := 4) h (ints_get (by omega)) (nn_i (ldS_h (g := gj) (o := 0) h rfl (hJ _ _ ⟨?_, h⟩)))
        have hb' : (opI x == 8) = true := hb
        dsimp only; rw [ha, hb', hpn]; rfl
      · refine hJ _ _ ⟨?_, h⟩
        have hb' : (opI x == 8) = false := hb
        rw [ha, hb']; rfl
    show iteB _ _ _
    refine iteB_i (fun hg => ?_) fun hg => ?_
    · have hg' : isGoes x = true := hg
      refine ldI_h (g := g) (o := 4) h (ints_get (by omega)) (nn_i (ldS_h (g := gj) (o := 1) h rfl (iteB_i (fun hb => ?_) fun hb => ?_)))
      · refine hJ _ _ ⟨?_, h⟩
        dsimp only at hb
        rw [hsn] at hb
        rw [hg', hb]; rfl
      · dsimp only at hb
        rw [hsn] at hb
        exact second (by rw [hg', hb]; rfl)
    · have hg' : isGoes x = false := hg
      exact second (by rw [hg']; rfl)
  rintro b w25 ⟨rfl, h⟩
  unfold placesE at hc
  refine iteB_i (fun hb => ?_) fun hb => ?_
  · rw [hb] at hc; exact hc _ h.drop
  · rw [hb] at hc; exact hc _ h.drop

theorem last_s (h : St w0 w (blk gj [.slice ps.a ps.n ps.c, .slice s.a s.n s.c, .slice sd.a sd.n sd.c, .slice sh.a sh.n sh.c] :: R)) (hr : Code5 w0 s l) (hx : l[i]? = some x) (hn : l.length ≤ 1000)
    (hc : ∀ w', St w0 w' (blk gj [.slice ps.a ps.n ps.c, .slice s.a s.n s.c, .slice sd.a sd.n sd.c, .slice sh.a sh.n sh.c] :: R) → k (lastE l.length i x) w') : check_judge_last (some ⟨gj, 0, none⟩) (i : Int) w k := by
  have hsn := hr.len
  unfold check_judge_last check_judge_last_b
  refine nn_i (ldS_h (g := gj) (o := 1) h rfl (ixC_h hr h (by omega) hx fun p h5 hp => ldI_i (hp h (ints_get (by omega))) ?_))
  refine joinP_i (fun b w' => b = (((i : Int) == (l.length : Int) - 1) && (opI x != 6) && !isEnds x) ∧ w' = w) (fun J hJ => ?_) ?_
  · refine nn_i (ldS_h (g := gj) (o := 1) h rfl ?_)
    have hw : IntKind.wrap .i64 (((s.n : Nat) : Int) - 1) = (l.length : Int) - 1 := by rw [hsn, wrap_id ⟨by omega, by omega⟩]
    dsimp only
    rw [hw]
    refine iteB_i (fun hb => ?_) fun hb => ?_
    · exact hJ _ _ ⟨by have hb' : ((i : Int) == (l.length : Int) - 1 && (opI x != 6)) = true := hb
                       rw [hb']; rfl, rfl⟩
    · exact hJ _ _ ⟨by have hb' : ((i : Int) == (l.length : Int) - 1 && (opI x != 6)) = false := hb
                       rw [hb']; rfl, rfl⟩
  rintro b w25 ⟨rfl, rfl⟩
  unfold lastE at hc
  refine iteB_i (fun hb => ?_) fun hb => ?_
  · rw [hb] at hc; exact hc _ h
  · rw [hb] at hc; exact hc _ h

theorem scopes_s (h : St w0 w (blk gj [.slice ps.a ps.n ps.c, .slice s.a s.n s.c, .slice sd.a sd.n sd.c, .slice sh.a sh.n sh.c] :: slc 1 sd (ints D) :: R)) (hr : Code5 w0 s l) (hx : l[i]? = some x) (hn : l.length ≤ 1000) (hD : D.length = l.length)
    (h0 : isGoes x = true → 0 ≤ x.getD 4 0 ∧ x.getD 4 0 < l.length)
    (hc : ∀ w', St w0 w' (blk gj [.slice ps.a ps.n ps.c, .slice s.a s.n s.c, .slice sd.a sd.n sd.c, .slice sh.a sh.n sh.c] :: slc 1 sd (ints D) :: R) → k (if scopesOk D i x then 0 else 15) w') : check_judge_scopes (some ⟨gj, 0, none⟩) (i : Int) w k := by
  have hsn := hr.len
  have hil : i < l.length := (List.getElem?_eq_some_iff.1 hx).1
  unfold check_judge_scopes
  refine drew_h h fun w1 h => ?_
  refine nn_i (ldS_h (g := gj) (o := 1) h rfl (ixC_h hr h (by omega) hx fun p h5 hp => ldA_c (by simp [Go.Ev.ints, h5]) (fun j v => hp h) ?_))
  refine nn_i (ldS_h (g := gj) (o := 2) h rfl ?_)
  have hdn : D.length = sd.n := by have := h.slen (sz := 1) (s := sd) (vs := ints D); simpa using this
  refine ixS_h (s := sd) (vs := ints D) h (by omega) (by omega) (by omega) fun gd od _ hrd _ => ?_
  have hget : (ints D)[((i : Nat) : Int).toNat * 1 + 0]? = some (.int .i64 (D.getD i 0)) := by
    rw [show ((i : Nat) : Int).toNat * 1 + 0 = i by omega]; exact ints_getD (by omega)
  refine ldI_i (hrd h 0 _ (by omega) hget) ?_
  have h1 := h
  refine newC_h h fun g w11 h => ?_
  refine samec_1 (hrd h1 0 _ (by omega) hget) (hrd h 0 _ (by omega) hget) ?_
  refine samec_h h1 h ?_
  refine samec_e (e := ints x) (by simp [Go.Ev.ints, h5]) (fun {j v} => hp h1) (fun {j v} => hp h) ?_
  refine samec_h h1 h ?_
  refine stW_h (g := g) h rfl (by simp [Go.Ev.ints, h5]) (one_agI _) fun w12 h => ?_
  refine samec_1 (hrd h1 0 _ (by omega) hget) (hrd h 0 _ (by omega) hget) ?_
  refine samec_h h1 h ?_
  have h : St w0 w12 (blk g (ints x) :: blk gj [.slice ps.a ps.n ps.c, .slice s.a s.n s.c, .slice sd.a sd.n sd.c, .slice sh.a sh.n sh.c] :: slc 1 sd (ints D) :: R) := h
  refine ldI_h (g := g) (o := 0) h (ints_get (by omega)) ?_
  refine joinP_i (fun b w' => b = ((opI x == 12) || (opI x == 13)) ∧ w' = w12) (fun J hJ => ?_) ?_
  · refine iteB_i (fun hb => ?_) fun hb => ?_
    · have hb' : (opI x == 12) = true := hb
      exact hJ _ _ ⟨by rw [hb']; rfl, rfl⟩
    · have hb' : (opI x == 12) = false := hb
      exact hJ _ _ ⟨by rw [hb']; rfl, rfl⟩
  rintro b15 w16 ⟨rfl, rfl⟩
  refine joinP_i (fun b w' => b = scopesOk D i x ∧ St w0 w' (blk g (ints x) :: blk gj [.slice ps.a ps.n ps.c, .slice s.a s.n s.c, .slice sd.a sd.n sd.c, .slice sh.a sh.n sh.c] :: slc 1 sd (ints D) :: R)) (fun J hJ => ?_) ?_
  · unfold scopesOk at hJ
    refine iteB_i (fun hb => ?_) fun hb => ?_
    · rw [if_pos hb] at hJ; exact hJ _ _ ⟨rfl, h⟩
    · rw [if_neg (by rw [hb]; simp)] at hJ
      refine iteB_i (fun hb2 => ?_) fun hb2 => ?_
      · have hb' : (opI x == 16) = true := hb2
        rw [if_pos hb'] at hJ; exact hJ _ _ ⟨rfl, h⟩
      · have hb' : (opI x == 16) = false := hb2
        rw [if_neg (by rw [hb']; simp)] at hJ
        refine joinP_i (fun b w' => b = isGoes x ∧ w' = w16) (fun J2 hJ2 => ?_) ?_
        · refine iteB_i (fun hb => ?_) fun hb => ?_
          · have hb' : (opI x == 6) = true := hb
            exact hJ2 _ _ ⟨by unfold isGoes; rw [hb']; rfl, rfl⟩
          · have hb' : (opI x == 6) = false := hb
            exact hJ2 _ _ ⟨by unfold isGoes; rw [hb']; rfl, rfl⟩
        rintro b19 w20 ⟨rfl, rfl⟩
        refine iteB_i (fun hg => ?_) fun hg => ?_
        · rw [if_pos hg] at hJ
          have hN := h0 hg
          refine drew_h h fun w21 h => nn_i (ldS_h (g := gj) (o := 2) h rfl (ldI_h (g := g) (o := 4) h (ints_get (by omega)) ?_))
          refine ixI_h (s := sd) (xs := D) h hN.1 (by omega) ?_
          exact hJ _ _ ⟨rfl, h⟩
        · rw [if_neg (by rw [hg]; simp)] at hJ
          exact hJ _ _ ⟨rfl, h⟩
  rintro b27 w28 ⟨rfl, h⟩
  refine iteB_i (fun hb => ?_) fun hb => ?_
  · have hb' : scopesOk D i x = false := by simpa using hb
    rw [hb'] at hc; exact hc _ h.drop
  · have hb' : scopesOk D i x = true := by simpa using hb
    rw [hb'] at hc; exact hc _ h.drop
end
end Go.Proofs.Ytgkfbagclkjilaa.Ck

namespace Go.Proofs.Ytgkfbagclkjilaa.Ck
open Go Go.Ev Go.Proofs

theorem andNot_le {a b : Int} (h0 : 0 ≤ a) (h1 : a ≤ 255) : 0 ≤ andNotI .i64 a b ∧ andNotI .i64 a b ≤ a := by
  rw [andNotI_bv]
  have e : (bv a).toNat = a.toNat := by
    have := bv_s (m := a.toNat) (by omega)
    rwa [Int.toNat_of_nonneg h0] at this
  have h2 : (bv a &&& ~~~ bv b).toNat ≤ a.toNat := by rw [BitVec.toNat_and, e]; exact Nat.and_le_left
  rw [toInt_s (by omega)]
  omega
theorem tb_zero {h : Nat} (hh : h < 8) : tb 0 h = false := by
  have : ∀ h : Nat, h < 8 → tb 0 h = false := by decide
  exact this h hh
theorem subBits_iff {a b : Int} : subBits a b = true ↔ ∀ h : Nat, h < 8 → tb a h = true → tb b h = true := by
  unfold subBits
  rw [List.all_eq_true]
  refine ⟨fun q h hh ha => ?_, fun q h hh => ?_⟩
  · have := q h (by simpa using hh)
    rw [ha] at this; simpa using this
  · have := q h (by simpa using hh)
    cases ha : tb a h with
    | false => rfl
    | true => rw [this ha]; rfl
theorem andNot_sub {a b : Int} (h0 : 0 ≤ a) (h1 : a ≤ 255) : (andNotI .i64 a b != 0) = !subBits a b := by
  have hb := andNot_le (b := b) h0 h1
  cases hs : subBits a b with
  | true =>
    have hs' := subBits_iff.1 hs
    have e : andNotI .i64 a b = 0 := by
      rw [← rs_tb (v := andNotI .i64 a b) hb.1 (by omega), ← rs_tb (v := 0) (by omega) (by omega)]
      refine rs_congr fun h hh => ?_
      rw [tb_andNot _ _ (by omega), tb_zero hh]
      cases ha : tb a h with
      | false => rfl
      | true => rw [hs' h hh ha]; rfl
    rw [e]; rfl
  | false =>
    have : andNotI .i64 a b ≠ 0 := by
      intro e
      have : subBits a b = true := subBits_iff.2 fun h hh ha => by
        have h2 := tb_andNot a b (i := h) (by omega)
        rw [e, tb_zero hh, ha] at h2
        simpa using h2.symm
      rw [this] at hs; cases hs
    simpa using this
theorem sub_shl {a b : Int} (h0 : 0 ≤ a) (h1 : a < 8) : subBits (shlV .i64 1 a) b = tb b a.toNat := by
  cases ht : tb b a.toNat with
  | true =>
    refine subBits_iff.2 fun h hh ha => ?_
    rw [tb_shl h0 h1 hh] at ha
    have := of_decide_eq_true ha
    have : h = a.toNat := by omega
    rw [this]; exact ht
  | false =>
    cases hs : subBits (shlV .i64 1 a) b with
    | false => rfl
    | true =>
      have := subBits_iff.1 hs a.toNat (by omega) (by rw [tb_shl h0 h1 (by omega)]; exact decide_eq_true (by omega))
      rw [this] at ht; cases ht
theorem shl_small {a : Int} (h0 : 0 ≤ a) (h1 : a < 8) : 0 ≤ shlV .i64 1 a ∧ shlV .i64 1 a ≤ 255 := by
  have e : ∀ m : Nat, m < 8 → 0 ≤ shlV .i64 1 (m : Int) ∧ shlV .i64 1 (m : Int) ≤ 255 := by decide
  have := e a.toNat (by omega)
  rwa [Int.toNat_of_nonneg h0] at this
theorem sub_zero {b : Int} : subBits 0 b = true := subBits_iff.2 fun h hh ha => by rw [tb_zero hh] at ha; cases ha

section
variable {w0 w : World} {gj : Nat} {ps s sd sh : Sl} {P : List FnR} {l : List (List Int)} {D H : List Int} {R : List HP} {i : Nat} {x : List Int} {k : Int → World → Prop}
theorem needs_get {P : List FnR} {n : Int} {f : FnR} (h : P[n.toNat]? = some f) : needsOf P n = f.needs := by simp [needsOf, h]

theorem handles_s (h : St w0 w (blk gj [.slice ps.a ps.n ps.c, .slice s.a s.n s.c, .slice sd.a sd.n sd.c, .slice sh.a sh.n sh.c] :: slc 1 sd (ints D) :: slc 1 sh (ints H) :: R)) (hr : Code5 w0 s l) (hF : Funcs5 w0 ps P) (hx : l[i]? = some x) (hn : l.length ≤ 1000) (hH : H.length = l.length)
    (hok : chk x = 0) (hpl : placesE P.length l.length x = 0) (hP : ∀ f ∈ P, 0 ≤ f.needs ∧ f.needs ≤ 255)
    (hc : ∀ w', St w0 w' (blk gj [.slice ps.a ps.n ps.c, .slice s.a s.n s.c, .slice sd.a sd.n sd.c, .slice sh.a sh.n sh.c] :: slc 1 sd (ints D) :: slc 1 sh (ints H) :: R) → k (if handlesOk P (H.getD i 0) x then 0 else 16) w') : check_judge_handles (some ⟨gj, 0, none⟩) (i : Int) w k := by
  have hsn := hr.len
  have hpn := hF.len
  have hil : i < l.length := (List.getElem?_eq_some_iff.1 hx).1
  obtain ⟨_, _, _, hk8, hk9, hk10⟩ := chk0 hok
  unfold check_judge_handles
  refine nn_i (ldS_h (g := gj) (o := 1) h rfl (ixC_h hr h (by omega) hx fun p h5 hp => ldA_c (by simp [Go.Ev.ints, h5]) (fun j v => hp h) ?_))
  refine newC_h h fun g w6 h => stW_h (g := g) h rfl (by simp [Go.Ev.ints, h5]) (one_agI _) fun w7 h => ?_
  have h : St w0 w7 (blk g (ints x) :: blk gj [.slice ps.a ps.n ps.c, .slice s.a s.n s.c, .slice sd.a sd.n sd.c, .slice sh.a sh.n sh.c] :: slc 1 sd (ints D) :: slc 1 sh (ints H) :: R) := h
  refine ldI_h (g := g) (o := 0) h (ints_get (by omega)) ?_
  refine joinP_i (fun n w' => (andNotI .i64 n (H.getD i 0) != 0) = !(handlesOk P (H.getD i 0) x) ∧ St w0 w' (blk g (ints x) :: blk gj [.slice ps.a ps.n ps.c, .slice s.a s.n s.c, .slice sd.a sd.n sd.c, .slice sh.a sh.n sh.c] :: slc 1 sd (ints D) :: slc 1 sh (ints H) :: R)) (fun J hJ => ?_) ?_
  · unfold handlesOk at hJ
    refine iteB_i (fun hb => ?_) fun hb => ?_
    · have hb' : (opI x == 9) = true := hb
      have hB := hk9 (by simpa using hb')
      rw [if_pos hb'] at hJ
      refine ldI_h (g := g) (o := 2) h (ints_get (by omega)) ⟨hB.1, hJ _ _ ⟨?_, h⟩⟩
      have := shl_small (a := x.getD 2 0) hB.1 (by omega)
      rw [andNot_sub this.1 this.2, sub_shl hB.1 (by omega)]
    · have hb' : (opI x == 9) = false := hb
      rw [if_neg (by rw [hb']; simp)] at hJ
      refine iteB_i (fun hb => ?_) fun hb => ?_
      · have hb' : (opI x == 10) = true := hb
        have hB := hk10 (by simpa using hb')
        rw [if_pos hb'] at hJ
        refine ldI_h (g := g) (o := 3) h (ints_get (by omega)) ⟨hB.1, hJ _ _ ⟨?_, h⟩⟩
        have := shl_small (a := x.getD 3 0) hB.1 (by omega)
        rw [andNot_sub this.1 this.2, sub_shl hB.1 (by omega)]
      · have hb' : (opI x == 10) = false := hb
        rw [if_neg (by rw [hb']; simp)] at hJ
        refine iteB_i (fun hb => ?_) fun hb => ?_
        · have hb' : (opI x == 8) = true := hb
          have hB := hk8 (by simpa using hb')
          have hlt : x.getD 4 0 < P.length := by
            unfold placesE at hpl
            rw [hb'] at hpl
            by_cases q : x.getD 4 0 ≥ P.length
            · rw [decide_eq_true q] at hpl; simp at hpl
            · omega
          rw [if_pos hb'] at hJ
          have hf : P[(x.getD 4 0).toNat]? = some P[(x.getD 4 0).toNat] := List.getElem?_eq_getElem (by omega)
          have hb2 := hP _ (List.mem_of_getElem? hf)
          refine drew_h h fun w14 h => nn_i (ldS_h (g := gj) (o := 0) h rfl (ldI_h (g := g) (o := 4) h (ints_get (by omega)) ?_))
          refine ixR_h (e := FnR.cells P[(x.getD 4 0).toNat]) hF.rws h (by omega) (by rw [List.getElem?_map, hf]; rfl) fun p hp2 => ldI_i (hp2 h rfl) ?_
          refine hJ _ _ ⟨?_, h⟩
          rw [andNot_sub hb2.1 hb2.2, needs_get hf]
        · have hb' : (opI x == 8) = false := hb
          rw [if_neg (by rw [hb']; simp)] at hJ
          refine hJ _ _ ⟨?_, h⟩
          rw [andNot_sub (by omega) (by omega), sub_zero]
  rintro n w21 ⟨hnn, h⟩
  refine nn_i (ldS_h (g := gj) (o := 3) h rfl (ixI_h (s := sh) (xs := H) h (by omega) (by omega) ?_))
  rw [Int.toNat_natCast, hnn]
  refine iteB_i (fun hb => ?_) fun hb => ?_
  · have hb' : handlesOk P (H.getD i 0) x = false := by simpa using hb
    rw [hb'] at hc; exact hc _ h.drop
  · have hb' : handlesOk P (H.getD i 0) x = true := by simpa using hb
    rw [hb'] at hc; exact hc _ h.drop
end
end Go.Proofs.Ytgkfbagclkjilaa.Ck

namespace Go.Proofs.Ytgkfbagclkjilaa.Ck
open Go Go.Ev Go.Proofs

theorem st_cast {w0 w : World} {L M : List HP} (h : St w0 w L) (e : L = M) : St w0 w M := e ▸ h
section
variable {P : List FnR} {n : Nat} {D H : List Int} {i : Nat} {x : List Int}
theorem wrong_at {j : Nat} (hj : j < 4) (h0 : ∀ j', j' < j → askE P n D H i x j' = 0) (h1 : (askE P n D H i x j != 0) = true) : wrongF P n D H i x = askE P n D H i x j := by
  unfold wrongF
  match j, hj with
  | 0, _ => rw [if_pos h1]
  | 1, _ => rw [h0 0 (by omega)]; simp [h1]
  | 2, _ => rw [h0 0 (by omega), h0 1 (by omega)]; simp [h1]
  | 3, _ => rw [h0 0 (by omega), h0 1 (by omega), h0 2 (by omega)]; simp
theorem wrong_none (h0 : ∀ j', j' < 4 → askE P n D H i x j' = 0) : wrongF P n D H i x = 0 := by
  unfold wrongF
  rw [h0 0 (by omega), h0 1 (by omega), h0 2 (by omega), h0 3 (by omega)]; simp
end
def faultL (kk : Nat) : Option (Int × Int) → List Int
  | none => [0, 0, 0]
  | some (i, e) => [(kk : Int), i, e]

def judL (gj gk gf gr : Nat) (ps s sd sh : Sl) (D H : List Int) (asks : List Value) (nv : Int) : List HP :=
  [blk gj [.slice ps.a ps.n ps.c, .slice s.a s.n s.c, .slice sd.a sd.n sd.c, .slice sh.a sh.n sh.c], slc 1 sd (ints D), slc 1 sh (ints H), blk gk asks, blk gf [.int .i64 nv, .slice s.a s.n s.c], blk gr (ints [0, 0, 0])]
def asksL (gj : Nat) : List Value := [.func (.func n_check_judge_places) #[.pointer (some ⟨gj, 0, none⟩)] #[], .func (.func n_check_judge_last) #[.pointer (some ⟨gj, 0, none⟩)] #[], .func (.func n_check_judge_scopes) #[.pointer (some ⟨gj, 0, none⟩)] #[], .func (.func n_check_judge_handles) #[.pointer (some ⟨gj, 0, none⟩)] #[]]

theorem callF_2 {orc : Oracle} {id : FuncId} {a b : Value} {w : World} {c : Value → World → Prop} {d : Dec} (e : ∀ args w c, orc (.func id) args w c = d args.toList w c) (h : d [a, b] w c) : callF orc (.func (.func id) #[a] #[]) #[b] w c :=
  callF_i e h
theorem ask_places {a : Addr} {i : Int} {w : World} {c : Value → World → Prop} (h : check_judge_places (some a) i w fun r w => c (.int .i64 r) w) : d_check_judge_places [.pointer (some a), .int .i64 i] w c := h
theorem ask_last {a : Addr} {i : Int} {w : World} {c : Value → World → Prop} (h : check_judge_last (some a) i w fun r w => c (.int .i64 r) w) : d_check_judge_last [.pointer (some a), .int .i64 i] w c := h
theorem ask_scopes {a : Addr} {i : Int} {w : World} {c : Value → World → Prop} (h : check_judge_scopes (some a) i w fun r w => c (.int .i64 r) w) : d_check_judge_scopes [.pointer (some a), .int .i64 i] w c := h
theorem ask_handles {a : Addr} {i : Int} {w : World} {c : Value → World → Prop} (h : check_judge_handles (some a) i w fun r w => c (.int .i64 r) w) : d_check_judge_handles [.pointer (some a), .int .i64 i] w c := h

theorem function_s {w : World} {ps : Sl} {P : List FnR} {kk : Nat} {f : FnR} {k : Array Value → World → Prop} (hF : Funcs5 w ps P) (hk : P[kk]? = some f) (hok : ∀ x ∈ f.code, chk x = 0) (hlen : f.code.length ≤ 128)
    (hP : ∀ f ∈ P, 0 ≤ f.needs ∧ f.needs ≤ 255) (hc : ∀ w', St w w' [] → k (agI (faultL kk (fault1 P f))) w') : check_function #[.slice ps.a ps.n ps.c] (kk : Int) w k := by
  have hcd := (hF.code f (List.mem_of_getElem? hk)).2
  have hsn := hcd.len
  have hpn := hF.len
  unfold check_function check_function_b
  refine newC_h (.nil w) fun g1 w2 h => newC_h h fun g3 w4 h => ldS_h (g := g1) (o := 0) h rfl ?_
  refine ixR_h (e := FnR.cells f) hF.rws h (by omega) (by rw [List.getElem?_map, Int.toNat_natCast, hk]; rfl) fun p hp => ldA_c (e := FnR.cells f) rfl (fun j v => hp h) ?_
  refine newC_h h fun g8 w9 h => stW_h (g := g8) h rfl rfl (by intro v hv; simp [FnR.cells] at hv; rcases hv with rfl | rfl <;> rfl) fun w10 h => drew_h h fun w11 h => ?_
  have h : St w w11 [blk g8 [.int .i64 f.needs, .slice f.sl.a f.sl.n f.sl.c], blk g3 (ints [0, 0, 0]), blk g1 [.slice ps.a ps.n ps.c]] := h
  refine ldW_h (g := g1) h rfl (ldS_h (g := g8) (o := 1) h rfl (ldS_h (g := g8) (o := 1) h rfl (ldW_h (g := g8) h rfl ?_)))
  have h11 := h
  refine depths_s (hcd.ext h.ext) (by omega) fun sd w17 h2 nd => ?_
  have h := h.join h2
  simp only [List.cons_append, List.nil_append] at h
  refine samec_h h11 h (samec_h h11 h (samec_h h11 h ?_))
  have h17 := h
  refine heldL_s (needs := f.needs) (hcd.ext h.ext) (by omega) fun sh w19 h3 nh => ?_
  have h := h.join h3
  simp only [List.cons_append, List.nil_append] at h
  refine samec_h h11 h (samec_h h11 h ?_)
  refine ⟨rfl, ?_⟩
  refine newC_h h fun gj w22 h => newC_h h fun gk w24 h => ?_
  have h : St w w24 (judL gj gk g8 g3 ps f.sl sd sh (depths 0 f.code) (heldL f.code f.needs) (asksL gj) f.needs) := by
    refine St.perm (st_cast (M := [blk gk (asksL gj), blk gj [.slice ps.a ps.n ps.c, .slice f.sl.a f.sl.n f.sl.c, .slice sd.a sd.n sd.c, .slice sh.a sh.n sh.c], slc 1 sh (ints (heldL f.code f.needs)), slc 1 sd (ints (depths 0 f.code)), blk g8 [.int .i64 f.needs, .slice f.sl.a f.sl.n f.sl.c], blk g3 (ints [0, 0, 0])]) (h.rm 6 rfl) (by kernel_rfl)) ?_
    unfold judL; repeat' (first | exact List.Perm.refl _ | refine perm_f 0 rfl ?_ | refine perm_f 1 rfl ?_ | refine perm_f 2 rfl ?_ | refine perm_f 3 rfl ?_ | refine perm_f 4 rfl ?_ | refine perm_f 5 rfl ?_ | refine perm_f 6 rfl ?_ | refine perm_f 7 rfl ?_)
  unfold judL at h
  refine ldS_h (g := g8) (o := 1) h rfl ?_
  have hDl : (depths 0 f.code).length = f.code.length := depths_length _ _
  have hHl : (heldL f.code f.needs).length = f.code.length := heldL_len _ _
  unfold fault1 at hc
  generalize depths 0 f.code = D at h hc hDl
  generalize heldL f.code f.needs = H at h hc hHl
  refine loopP_of (fun (i : Int) w' => ∃ dn rest, f.code = dn ++ rest ∧ i = (dn.length : Int) ∧ funcFault P f.code.length D H 0 f.code = funcFault P f.code.length D H dn.length rest ∧ St w w' (judL gj gk g8 g3 ps f.sl sd sh D H (asksL gj) f.needs)) (fun i _ => ((f.sl.n : Int) - i).toNat) ⟨[], f.code, rfl, rfl, rfl, h⟩ ?_
  rintro _ w28 ⟨dn, rest, hl, rfl, hd, h⟩ C hC
  cases rest with
  | nil =>
    refine iteB_f (by simp only [decide_eq_false_iff_not]; rw [hsn, hl]; simp) ?_
    unfold judL at h
    refine stW_h (g := g3) h rfl rfl (one_agI [0, 0, 0]) fun w39 h => ldW_h (g := g3) h rfl ?_
    rw [hd] at hc
    exact hc _ h.all
  | cons x rest =>
    have hlen2 : f.code.length = dn.length + (rest.length + 1) := by rw [hl]; simp
    have hw1 : IntKind.wrap .i64 ((dn.length : Int) + 1) = ((dn ++ [x]).length : Int) := by rw [wrap_id ⟨by omega, by omega⟩]; simp
    have hx : f.code[dn.length]? = some x := by rw [hl]; simp
    have hcx := hok x (by rw [hl]; simp)
    refine iteB_t (by simp only [decide_eq_true_eq]; omega) ?_
    refine loopP_of (fun (i : Int) w' => ∃ j : Nat, i = (j : Int) ∧ j ≤ 4 ∧ (∀ j', j' < j → askE P f.code.length D H dn.length x j' = 0) ∧ St w w' (judL gj gk g8 g3 ps f.sl sd sh D H (asksL gj) f.needs)) (fun i _ => (4 - i).toNat) ⟨0, rfl, by omega, fun j hj => by omega, h⟩ ?_
    rintro _ w31 ⟨j, rfl, hj4, hz, h⟩ C2 hC2
    refine iteB_i (fun hb => ?_) fun hb => ?_
    · have hj : j < 4 := by have := of_decide_eq_true hb; omega
      have hw2 : IntKind.wrap .i64 ((j : Int) + 1) = ((j + 1 : Nat) : Int) := by rw [wrap_id ⟨by omega, by omega⟩]; simp
      refine ixS_b (by omega) (by omega) ?_
      have fin : ∀ w35, St w w35 (judL gj gk g8 g3 ps f.sl sd sh D H (asksL gj) f.needs) → iteB (askE P f.code.length D H dn.length x j != (0 : Int)) (
            stA 3 w35 ⟨g3, 0, none⟩ #[(.int .i64 (kk : Int)), (.int .i64 (dn.length : Int)), (.int .i64 (askE P f.code.length D H dn.length x j))] fun w37 =>
            ldA 3 w37 ⟨g3, 0, none⟩ fun cs38 =>
            (k cs38 w37)) (
            (C2 (IntKind.wrap .i64 ((j : Int) + (1 : Int))) w35)) := by
        intro w35 h
        refine iteB_i (fun hb => ?_) fun hb => ?_
        · unfold judL at h
          refine stW_h (g := g3) (vs := agI [(kk : Int), (dn.length : Int), askE P f.code.length D H dn.length x j]) h rfl rfl (one_agI _) fun w37 h => ldW_h (g := g3) h rfl ?_
          have hwr := wrong_at hj hz hb
          have e : funcFault P f.code.length D H dn.length (x :: rest) = some ((dn.length : Int), askE P f.code.length D H dn.length x j) := by
            unfold funcFault; rw [hwr, if_pos hb]
          rw [hd, e] at hc
          exact hc _ h.all
        · rw [hw2]
          refine hC2 _ _ ⟨j + 1, rfl, hj, fun j' hj' => ?_, h⟩ (by omega)
          by_cases q : j' = j
          · rw [q]; simpa using hb
          · exact hz j' (by omega)
      unfold judL at h
      match j, hj, hz, fin with
      | 0, _, hz, fin =>
        refine ldV_h (g := gk) (o := 0) h rfl (callF_2 (d := d_check_judge_places) (fun _ _ _ => rfl) (ask_places ?_))
        exact places_s h (hcd) hx hpn fun w35 h => fin w35 h
      | 1, _, hz, fin =>
        refine ldV_h (g := gk) (o := 1) h rfl (callF_2 (d := d_check_judge_last) (fun _ _ _ => rfl) (ask_last ?_))
        exact last_s h hcd hx (by omega) fun w35 h => fin w35 h
      | 2, _, hz, fin =>
        have hp0 : placesE P.length f.code.length x = 0 := hz 0 (by omega)
        refine ldV_h (g := gk) (o := 2) h rfl (callF_2 (d := d_check_judge_scopes) (fun _ _ _ => rfl) (ask_scopes ?_))
        refine scopes_s h hcd hx (by omega) hDl (fun hg => ⟨((chk0 hcx).2.2.1 hg).1, ?_⟩) fun w35 h => fin w35 h
        unfold placesE at hp0
        rw [hg] at hp0
        by_cases q : x.getD 4 0 ≥ f.code.length
        · rw [decide_eq_true q] at hp0; simp at hp0
        · omega
      | 3, _, hz, fin =>
        have hp0 : placesE P.length f.code.length x = 0 := hz 0 (by omega)
        refine ldV_h (g := gk) (o := 3) h rfl (callF_2 (d := d_check_judge_handles) (fun _ _ _ => rfl) (ask_handles ?_))
        exact handles_s h hcd hF hx (by omega) hHl hcx hp0 hP fun w35 h => fin w35 h
    · have hj : j = 4 := by have := of_decide_eq_false hb; omega
      subst hj
      rw [hw1]
      refine hC _ _ ⟨dn ++ [x], rest, by rw [hl]; simp, rfl, ?_, h⟩ (by simp; omega)
      rw [hd]
      have e : (wrongF P f.code.length D H dn.length x != 0) = false := by rw [wrong_none hz]; rfl
      simp [funcFault, e]
end Go.Proofs.Ytgkfbagclkjilaa.Ck

namespace Go.Proofs.Ytgkfbagclkjilaa.Ck
open Go Go.Ev Go.Proofs

def tri (x : Int × Int × Int) : List Int := [x.1, x.2.1, x.2.2]
theorem firstBad_zero : ∀ {l : List (List Int)} {i : Nat}, (firstBad i l).2 = 0 → ∀ x ∈ l, chk x = 0
  | [], _, _, x, hx => by cases hx
  | y :: l, i, h, x, hx => by
    unfold firstBad at h
    split at h
    · rename_i hb
      simp only at h
      rw [h] at hb; cases hb
    · rename_i hb
      rcases List.mem_cons.1 hx with rfl | hx
      · simpa using hb
      · exact firstBad_zero h x hx
theorem shape_zero {needs : Int} {l : List (List Int)} (h : (shapeF needs l).2 = 0) : 0 ≤ needs ∧ needs ≤ 255 ∧ 1 ≤ l.length ∧ l.length ≤ 128 ∧ ∀ x ∈ l, chk x = 0 := by
  unfold shapeF at h
  split at h
  · cases h
  · rename_i h1
    split at h
    · cases h
    · rename_i h2
      simp only [Bool.or_eq_true, decide_eq_true_eq, not_or] at h1 h2
      exact ⟨by omega, by omega, by omega, by omega, firstBad_zero h⟩
theorem shapes_none : ∀ {l : List FnR} {k : Nat}, shapes k l = none → ∀ f ∈ l, (shapeF f.needs f.code).2 = 0
  | [], _, _, f, hf => by cases hf
  | g :: l, k, h, f, hf => by
    unfold shapes at h
    split at h
    · cases h
    · rename_i hb
      rcases List.mem_cons.1 hf with rfl | hf
      · simpa using hb
      · exact shapes_none h f hf
theorem funcFault_some {P : List FnR} {n : Nat} {D H : List Int} : ∀ {l : List (List Int)} {i : Nat} {a e : Int}, funcFault P n D H i l = some (a, e) → e ≠ 0
  | [], _, _, _, h => by cases h
  | x :: l, i, a, e, h => by
    unfold funcFault at h
    split at h
    · rename_i hb
      cases h
      simpa using hb
    · exact funcFault_some h

theorem program_s {w : World} {ps : Sl} {P : List FnR} {k : Array Value → World → Prop} (hF : Funcs5 w ps P)
    (hc : ∀ w', St w w' [] → k (agI (tri (progF P))) w') : check_Program #[.slice ps.a ps.n ps.c] w k := by
  have hpn := hF.len
  unfold check_Program check_Program_b
  refine newC_h (.nil w) fun g1 w2 h => newC_h h fun g3 w4 h => ?_
  have h : St w w4 [blk g3 (ints [0, 0, 0]), blk g1 [.slice ps.a ps.n ps.c]] := h
  have e1 : decide (((ps.n : Nat) : Int) < 1) = decide (P.length < 1) := by rw [decide_eq_decide]; omega
  have e2 : decide (((ps.n : Nat) : Int) > 32) = decide (P.length > 32) := by rw [decide_eq_decide]; omega
  refine joinP_i (fun b w' => b = (decide (P.length < 1) || decide (P.length > 32)) ∧ w' = w4) (fun J hJ => ?_) ?_
  · refine ldS_h (g := g1) (o := 0) h rfl (iteB_i (fun hb => ?_) fun hb => ?_)
    · exact hJ _ _ ⟨by rw [← e1]; dsimp only at hb; rw [hb]; rfl, rfl⟩
    · refine ldS_h (g := g1) (o := 0) h rfl (hJ _ _ ⟨by rw [← e1, ← e2]; dsimp only at hb; rw [hb]; rfl, rfl⟩)
  rintro b8 w9 ⟨rfl, rfl⟩
  unfold progF at hc
  refine iteB_i (fun hb => ?_) fun hb => ?_
  · rw [hb] at hc
    refine stW_h (g := g3) (vs := agI [-1, -1, 12]) h rfl rfl (one_agI _) fun w10 h => ldW_h (g := g3) h rfl ?_
    exact hc _ h.all
  · rw [hb] at hc
    rw [Bool.or_eq_false_iff] at hb
    have hl1 := of_decide_eq_false hb.1
    have hl2 := of_decide_eq_false hb.2
    refine ldS_h (g := g1) (o := 0) h rfl ?_
    refine joinP_i (fun _ w' => shapes 0 P = none ∧ St w w' [blk g3 (ints [0, 0, 0]), blk g1 [.slice ps.a ps.n ps.c]]) (fun J hJ => ?_) ?_
    · refine loopP_of (fun (i : Int) w' => ∃ dn rest, P = dn ++ rest ∧ i = (dn.length : Int) ∧ shapes 0 P = shapes dn.length rest ∧ St w w' [blk g3 (ints [0, 0, 0]), blk g1 [.slice ps.a ps.n ps.c]]) (fun i _ => ((ps.n : Int) - i).toNat) ⟨[], P, rfl, rfl, rfl, h⟩ ?_
      rintro _ w16 ⟨dn, rest, hl, rfl, hd, h⟩ C hC
      cases rest with
      | nil =>
        refine iteB_f (by simp only [decide_eq_false_iff_not]; rw [hpn, hl]; simp) ?_
        exact hJ _ _ ⟨by rw [hd]; rfl, h⟩
      | cons f rest =>
        have hlen2 : P.length = dn.length + (rest.length + 1) := by rw [hl]; simp
        have hw1 : IntKind.wrap .i64 ((dn.length : Int) + 1) = ((dn ++ [f]).length : Int) := by rw [wrap_id ⟨by omega, by omega⟩]; simp
        have hx : P[dn.length]? = some f := by rw [hl]; simp
        have hcd := (hF.code f (List.mem_of_getElem? hx)).2
        refine iteB_t (by simp only [decide_eq_true_eq]; omega) ?_
        refine ixR_h (e := FnR.cells f) hF.rws h (by omega) (by rw [List.getElem?_map, Int.toNat_natCast, hx]; rfl) fun p hp => ldA_c (e := FnR.cells f) rfl (fun j v => hp h) ?_
        refine newC_h h fun g8 w9 h => stW_h (g := g8) h rfl rfl (by intro v hv; simp [FnR.cells] at hv; rcases hv with rfl | rfl <;> rfl) fun w10 h => ldW_h (g := g8) h rfl ?_
        refine shape_s (needs := f.needs) (s := f.sl) (l := f.code) (hcd.ext h.ext) fun w24 h2 => ?_
        have h := h.drop.on h2.ext
        refine iteB_i (fun hb3 => ?_) fun hb3 => ?_
        · refine stW_h (g := g3) (vs := agI [(dn.length : Int), (shapeF f.needs f.code).1, (shapeF f.needs f.code).2]) h rfl rfl (one_agI _) fun w25 h => ldW_h (g := g3) h rfl ?_
          have e : shapes 0 P = some ((dn.length : Int), (shapeF f.needs f.code).1, (shapeF f.needs f.code).2) := by rw [hd]; unfold shapes; rw [if_pos hb3]
          rw [e] at hc
          exact hc _ h.all
        · rw [hw1]
          refine hC _ _ ⟨dn ++ [f], rest, by rw [hl]; simp, rfl, ?_, h⟩ (by simp; omega)
          have hb3' : ((shapeF f.needs f.code).2 != 0) = false := hb3
          rw [hd]; simp [shapes, hb3']
    rintro _ w28 ⟨hsh, h⟩
    rw [hsh] at hc
    have hall := shapes_none hsh
    have h0 : P[0]? = some P[0] := List.getElem?_eq_getElem (by omega)
    refine ldS_h (g := g1) (o := 0) h rfl ?_
    refine ixR_h (e := FnR.cells P[0]) hF.rws h (by omega) (by rw [List.getElem?_map]; simp [h0]) fun p hp => ldI_i (hp h rfl) ?_
    have hn0 : needsOf P 0 = P[0].needs := needs_get (n := 0) h0
    rw [← hn0]
    refine iteB_i (fun hb => ?_) fun hb => ?_
    · refine stW_h (g := g3) (vs := agI [0, -1, 16]) h rfl rfl (one_agI _) fun w32 h => ldW_h (g := g3) h rfl ?_
      dsimp only at hc
      rw [if_neg (by simp), if_pos hb] at hc
      exact hc _ h.all
    · dsimp only at hc
      rw [if_neg (by simp), if_neg (by rw [hb]; simp)] at hc
      refine ldS_h (g := g1) (o := 0) h rfl ?_
      refine loopP_of (fun (i : Int) w' => ∃ dn rest, P = dn ++ rest ∧ i = (dn.length : Int) ∧ faults P 0 P = faults P dn.length rest ∧ St w w' [blk g3 (ints [0, 0, 0]), blk g1 [.slice ps.a ps.n ps.c]]) (fun i _ => ((ps.n : Int) - i).toNat) ⟨[], P, rfl, rfl, rfl, h⟩ ?_
      rintro _ w37 ⟨dn, rest, hl, rfl, hd, h⟩ C hC
      cases rest with
      | nil =>
        refine iteB_f (by simp only [decide_eq_false_iff_not]; rw [hpn, hl]; simp) ?_
        refine stW_h (g := g3) (vs := agI [0, 0, 0]) h rfl rfl (one_agI _) fun w49 h => ldW_h (g := g3) h rfl ?_
        have e : faults P 0 P = none := by rw [hd]; rfl
        rw [e] at hc
        exact hc _ h.all
      | cons f rest =>
        have hlen2 : P.length = dn.length + (rest.length + 1) := by rw [hl]; simp
        have hw1 : IntKind.wrap .i64 ((dn.length : Int) + 1) = ((dn ++ [f]).length : Int) := by rw [wrap_id ⟨by omega, by omega⟩]; simp
        have hx : P[dn.length]? = some f := by rw [hl]; simp
        have hsf := shape_zero (hall f (List.mem_of_getElem? hx))
        refine iteB_t (by simp only [decide_eq_true_eq]; omega) ?_
        refine ldW_h (g := g1) h rfl ?_
        refine function_s (ps := ps) (P := P) (f := f) (hF.ext h.ext) hx hsf.2.2.2.2 hsf.2.2.2.1 (fun q hq => ⟨(shape_zero (hall q hq)).1, (shape_zero (hall q hq)).2.1⟩) fun w40 h2 => ?_
        have h := h.on h2.ext
        have hfl : (faultL dn.length (fault1 P f)).length = 3 := by cases fault1 P f <;> rfl
        refine newC_h h fun g4 w42 h => stW_h (g := g4) h rfl (by simp [agI, ints, hfl]) (one_agI _) fun w43 h => ldW_h (g := g4) h (by simp [agI, ints, hfl]) ?_
        refine eqA_I (n := 3) hfl (ys := [0, 0, 0]) rfl ?_
        cases hft : fault1 P f with
        | none =>
          refine iteB_f (by simp [faultL]) ?_
          rw [hw1]
          refine hC _ _ ⟨dn ++ [f], rest, by rw [hl]; simp, rfl, ?_, h.drop⟩ (by simp; omega)
          rw [hd]; simp [faults, hft]
        | some q =>
          obtain ⟨i, e⟩ := q
          have hne := funcFault_some hft
          refine iteB_t (by simp [faultL, hne]) ?_
          rw [hft] at h
          refine ldW_h (g := g4) h rfl ?_
          refine stW_h (g := g3) (vs := agI (faultL dn.length (some (i, e)))) h rfl rfl (one_agI _) fun w47 h => ldW_h (g := g3) h rfl ?_
          have e' : faults P 0 P = some ((dn.length : Int), i, e) := by rw [hd]; simp [faults, hft]
          rw [e'] at hc
          exact hc _ h.all
end Go.Proofs.Ytgkfbagclkjilaa.Ck

namespace Go.Proofs.Ytgkfbagclkjilaa.Ck
open Go Go.Ev Go.Proofs

theorem code_blk {w : World} {g off c : Nat} {flat : List Int} {l : List (List Int)} (hb : Blk w g (agI flat)) (h5 : ∀ x ∈ l, x.length = 5 ∧ ∀ y ∈ x, InI y)
    (hfl : ∀ i, i < l.length → ∀ j, j < 5 → flat[off + i * 5 + j]? = (l.getD i [])[j]?) (few : l.length * 40 ≤ reachBytes) : Code5 w ⟨some ⟨g, off, none⟩, l.length, c⟩ l := by
  refine ⟨⟨by simp, fun i e he => ?_⟩, h5, few⟩
  rw [List.getElem?_map] at he
  cases hx : l[i]? with
  | none => rw [hx] at he; cases he
  | some x =>
    rw [hx] at he
    have he' : e = ints x := by simpa using he.symm
    subst he'
    have hi : i < l.length := (List.getElem?_eq_some_iff.1 hx).1
    have hx5 := (h5 x (List.mem_of_getElem? hx)).1
    refine ⟨by simp [ints, hx5], ⟨g, off, none⟩, rfl, fun j v hv => ?_⟩
    have hj : j < 5 := by have := (List.getElem?_eq_some_iff.1 hv).1; simp [ints, hx5] at this; exact this
    have := hfl i hi j hj
    rw [add_mk, add_mk, hb.cell]
    have e2 : l.getD i [] = x := by simp [hx]
    rw [e2] at this
    simp only [agI, ints, List.getElem?_toArray, List.getElem?_map] at hv ⊢
    rw [this]; exact hv
theorem heldL_eval {l : List (List Int)} {needs : Int} (m : Nat) (hn : l.length ≤ 4294967296) (hl : l ≠ []) (ht : (Fl.steps l m ((Fl0 l.length).meet 0 (andI .i64 needs 255))).todo = []) : heldL l needs = (Fl.steps l m ((Fl0 l.length).meet 0 (andI .i64 needs 255))).held :=
  (held_law hn ⟨ht, fun q => (hl q).elim, fun _ => ⟨m, rfl⟩⟩).symm

def lA : List (List Int) := [[8, 1, 0, 0, 0], [9, 0, 1, 0, 0], [16, 0, 0, 0, 0]]
def lB : List (List Int) := [[9, 0, 1, 0, 0], [16, 0, 0, 0, 0]]
def lC : List (List Int) := [[11, 0, 0, 0, 0], [16, 0, 0, 0, 0]]
theorem heldA : heldL lA 0 = [0, 2, 2] := (heldL_eval (l := lA) (needs := 0) 3 (by decide) (by decide) (by kernel_rfl)).trans (by kernel_rfl)
theorem heldB' : heldL lB 0 = [0, 0] := (heldL_eval (l := lB) (needs := 0) 2 (by decide) (by decide) (by kernel_rfl)).trans (by kernel_rfl)
theorem heldC : heldL lC 0 = [0, 0] := (heldL_eval (l := lC) (needs := 0) 2 (by decide) (by decide) (by kernel_rfl)).trans (by kernel_rfl)
theorem progF_one {s : Sl} {l : List (List Int)} {H : List Int} {r : Option (Int × Int)} (hH : heldL l 0 = H) (hsh : (shapeF 0 l).2 = 0) (hr : funcFault [⟨0, s, l⟩] l.length (depths 0 l) H 0 l = r) :
    progF [⟨0, s, l⟩] = (match r with | none => (0, 0, 0) | some (i, e) => (0, i, e)) := by
  have e1 : fault1 [⟨0, s, l⟩] ⟨0, s, l⟩ = r := by unfold fault1; rw [hH]; exact hr
  have e2 : shapes 0 [(⟨0, s, l⟩ : FnR)] = none := by simp [shapes, hsh]
  unfold progF
  rw [e2]
  simp only [needsOf, faults, e1]
  cases r <;> simp

end Go.Proofs.Ytgkfbagclkjilaa.Ck

namespace Go.Proofs.Ytgkfbagclkjilaa.Ck
open Go Go.Ev Go.Proofs

theorem progT : ProgT Try.prog 43 38 40 22 24 3 := ⟨⟨_, Try.underlying43⟩, by kernel_rfl, by kernel_rfl, by kernel_rfl, Try.underlying38, ⟨_, _, Try.underlying40, rfl, rfl, rfl, rfl⟩, Try.underlying3, by kernel_rfl, by kernel_rfl, by kernel_rfl, by kernel_rfl, Try.underlying22, by kernel_rfl, ⟨_, Try.underlying24, rfl, rfl⟩, by kernel_rfl⟩

end Go.Proofs.Ytgkfbagclkjilaa.Ck

namespace Go.Proofs.Ytgkfbagclkjilaa.Ck
open Go Go.Ev Go.Proofs

theorem flat_len {A : Type} {sz : Nat} : ∀ {es : List (List A)}, (∀ e ∈ es, e.length = sz) → es.flatten.length = es.length * sz
  | [], _ => by simp
  | e :: es, h => by
    have := flat_len (es := es) fun x hx => h x (by simp [hx])
    have he := h e (by simp)
    simp only [List.flatten_cons, List.length_append, List.length_cons, Nat.add_mul, Nat.one_mul]; omega
theorem flat_get {A : Type} {sz : Nat} : ∀ {es : List (List A)}, (∀ e ∈ es, e.length = sz) → ∀ {i j : Nat} {e : List A}, es[i]? = some e → j < sz → es.flatten[i * sz + j]? = e[j]?
  | [], _, i, j, e, he, _ => by simp at he
  | x :: es, h, 0, j, e, he, hj => by
    have hx := h x (by simp)
    simp at he; subst he
    rw [List.flatten_cons, Nat.zero_mul, Nat.zero_add, List.getElem?_append_left (by omega)]
  | x :: es, h, i + 1, j, e, he, hj => by
    have hx := h x (by simp)
    rw [List.flatten_cons, List.getElem?_append_right (by rw [hx, Nat.add_mul]; omega), hx, Nat.add_mul, Nat.one_mul]
    rw [show i * sz + sz + j - sz = i * sz + j by omega]
    exact flat_get (fun y hy => h y (by simp [hy])) (by simpa using he) hj
theorem flat_set {A : Type} {sz : Nat} : ∀ {es : List (List A)}, (∀ e ∈ es, e.length = sz) → ∀ {i j : Nat} {e : List A} {v : A}, es[i]? = some e → j < sz → es.flatten.set (i * sz + j) v = (es.set i (e.set j v)).flatten
  | [], _, i, j, e, v, he, _ => by simp at he
  | x :: es, h, 0, j, e, v, he, hj => by
    have hx := h x (by simp)
    simp at he; subst he
    rw [List.flatten_cons, Nat.zero_mul, Nat.zero_add, List.set_append_left (h := by omega)]; rfl
  | x :: es, h, i + 1, j, e, v, he, hj => by
    have hx := h x (by simp)
    rw [List.flatten_cons, List.set_append_right (h := by rw [hx, Nat.add_mul]; omega), hx, Nat.add_mul, Nat.one_mul]
    rw [show i * sz + sz + j - sz = i * sz + j by omega, flat_set (fun y hy => h y (by simp [hy])) (by simpa using he) hj]; rfl
theorem adr_add (p : Addr) (a b : Nat) : (p.add a).add b = p.add (a + b) := by
  by_cases ha : a = 0
  · subst ha; simp [Addr.add]
  · by_cases hb : b = 0
    · subst hb; simp [Addr.add]
    · have : a + b ≠ 0 := by omega
      simp [Addr.add, ha, hb, this, Nat.add_assoc]
theorem rws_flat {sz : Nat} {w : World} {s : Sl} {es : List (List Value)} (h : Rws sz w s es) (hsz : 0 < sz) : Sls sz w s es.flatten := by
  have hall : ∀ e ∈ es, e.length = sz := fun e he => by
    obtain ⟨i, hi, rfl⟩ := List.getElem_of_mem he
    exact (h.row i _ (List.getElem?_eq_getElem hi)).1
  refine ⟨by rw [flat_len hall, h.len], fun i v hv => ?_⟩
  have hlt : i < es.length * sz := by rw [← flat_len hall]; exact (List.getElem?_eq_some_iff.1 hv).1
  have hq : i / sz < es.length := Nat.div_lt_of_lt_mul (by rw [Nat.mul_comm]; exact hlt)
  have hr : i % sz < sz := Nat.mod_lt _ hsz
  have he : i / sz * sz + i % sz = i := by rw [Nat.mul_comm]; exact Nat.div_add_mod i sz
  have hx := List.getElem?_eq_getElem hq
  have hg := flat_get hall hx hr
  rw [he, hv] at hg
  obtain ⟨_, p, hp, hcell⟩ := h.row _ _ hx
  have := hcell _ _ hg.symm
  rw [adr_add, he] at this
  exact ⟨p, hp, this⟩
theorem sls_rws {sz : Nat} {w : World} {s : Sl} {es : List (List Value)} (h : Sls sz w s es.flatten) (hsz : 0 < sz) (hall : ∀ e ∈ es, e.length = sz) : Rws sz w s es := by
  have hl : es.length * sz = s.n * sz := by rw [← flat_len hall]; exact h.len
  refine ⟨Nat.eq_of_mul_eq_mul_right hsz hl, fun i e he => ?_⟩
  have hlen := hall e (List.mem_of_getElem? he)
  refine ⟨hlen, ?_⟩
  have h0 := flat_get hall he hsz
  obtain ⟨p, hp, _⟩ := h.cell (i * sz + 0) e[0] (by rw [h0]; exact List.getElem?_eq_getElem (by omega))
  refine ⟨p, hp, fun j v hv => ?_⟩
  have hj : j < sz := by have := (List.getElem?_eq_some_iff.1 hv).1; omega
  obtain ⟨p', hp', hc⟩ := h.cell (i * sz + j) v (by rw [flat_get hall he hj]; exact hv)
  rw [hp] at hp'; cases hp'
  rw [adr_add]; exact hc
theorem code_own {w0 w : World} {L : List HP} {s : Sl} {l : List (List Int)} {f : HP → List HP} (h : St w0 w L) [a : At L (slc 5 s) (l.map Go.Ev.ints).flatten f] (h5 : ∀ x ∈ l, x.length = 5 ∧ ∀ y ∈ x, InI y) (few : l.length * 40 ≤ reachBytes) : Code5 w s l :=
  ⟨sls_rws (h.own (sz := 5) (s := s) (vs := (l.map Go.Ev.ints).flatten)).sls (by omega) (fun e he => by obtain ⟨x, hx, rfl⟩ := List.mem_map.1 he; simp [Go.Ev.ints, (h5 x hx).1]), h5, few⟩
theorem funcs_own {w0 w : World} {L : List HP} {s : Sl} {P : List FnR} {f : HP → List HP} (h : St w0 w L) [a : At L (slc 2 s) (P.map FnR.cells).flatten f] (hP : ∀ x ∈ P, InI x.needs ∧ Code5 w x.sl x.code) (few : P.length * 32 ≤ reachBytes) : Funcs5 w s P :=
  ⟨sls_rws (h.own (sz := 2) (s := s) (vs := (P.map FnR.cells).flatten)).sls (by omega) (fun e he => by obtain ⟨x, hx, rfl⟩ := List.mem_map.1 he; rfl), hP, few⟩

/-! ### small programs, programs that are accepted -/
structure Few (P : List FnR) : Prop where
  n : P.length ≤ 40
  c : ∀ f ∈ P, f.code.length ≤ 140
theorem few_s {w : World} {ps : Sl} {P : List FnR} {k : Bool → World → Prop} (hF : Funcs5 w ps P) (hc : ∀ b w', St w w' [] → (b = true → Few P) → k b w') : pelotonlaw02_Few #[.slice ps.a ps.n ps.c] w k := by
  have hpn := hF.len
  unfold pelotonlaw02_Few
  refine newC_h (.nil w) fun g1 w2 h => ?_
  refine loopP_of (fun (i : Int) w' => ∃ dn rest, P = dn ++ rest ∧ i = (dn.length : Int) ∧ dn.length ≤ 41 ∧ (∀ f ∈ dn, f.code.length ≤ 140) ∧ St w w' [blk g1 [.slice ps.a ps.n ps.c]]) (fun i _ => (41 - i).toNat) ⟨[], P, rfl, rfl, by simp, by simp, h⟩ ?_
  rintro _ w5 ⟨dn, rest, hl, rfl, h41, hd, h⟩ C hC
  refine ldS_h (g := g1) (o := 0) h rfl (iteB_i (fun hb => ?_) fun hb => ?_)
  · simp only [Bool.and_eq_true, decide_eq_true_eq] at hb
    have hlt : dn.length < P.length := by omega
    obtain ⟨f, rest, rfl⟩ : ∃ f r, rest = f :: r := by
      cases rest with
      | nil => rw [hl] at hlt; simp at hlt
      | cons f r => exact ⟨f, r, rfl⟩
    have hx : P[dn.length]? = some f := by rw [hl]; simp
    have hcd := (hF.code f (List.mem_of_getElem? hx)).2
    have hcl := hcd.len
    refine ldS_h (g := g1) (o := 0) h rfl ?_
    refine ixR_h (e := FnR.cells f) hF.rws h (by omega) (by rw [List.getElem?_map, Int.toNat_natCast, hx]; rfl) fun p hp => ldS_i (s := f.sl) (hp h rfl) (iteB_i (fun hb2 => ?_) fun hb2 => ?_)
    · exact hc _ _ h.all fun q => by cases q
    · have hle : f.code.length ≤ 140 := by have := of_decide_eq_false hb2; omega
      have hw1 : IntKind.wrap .i64 ((dn.length : Int) + 1) = ((dn ++ [f]).length : Int) := by rw [wrap_id ⟨by omega, by omega⟩]; simp
      rw [hw1]
      refine hC _ _ ⟨dn ++ [f], rest, by rw [hl]; simp, rfl, by simp; omega, fun q hq => ?_, h⟩ (by simp; omega)
      rcases List.mem_append.1 hq with hq | hq
      · exact hd q hq
      · simp at hq; rw [hq]; exact hle
  · refine ldS_h (g := g1) (o := 0) h rfl (hc _ _ h.all fun q => ?_)
    have hle : P.length ≤ 40 := by have := of_decide_eq_true q; dsimp only at this; omega
    refine ⟨hle, fun f hf => ?_⟩
    cases rest with
    | nil => rw [hl] at hf; simp at hf; exact hd f hf
    | cons g r =>
      have h1 : dn.length < P.length := by rw [hl]; simp
      exfalso
      dsimp only at hb
      rw [decide_eq_true (by omega), decide_eq_true (by omega)] at hb
      cases hb
theorem accepts_s {w : World} {ps : Sl} {P : List FnR} {k : Bool → World → Prop} (hF : Funcs5 w ps P) (hc : ∀ w', St w w' [] → k (decide (tri (progF P) = [0, 0, 0])) w') : check_Accepts #[.slice ps.a ps.n ps.c] w k := by
  unfold check_Accepts check_Accepts_b
  refine newC_h (.nil w) fun g w2 h => ldW_h (g := g) h rfl (program_s (hF.ext h.ext) fun w' h2 => ?_)
  have h := h.on h2.ext
  exact eqA_I (n := 3) (xs := tri (progF P)) (ys := [0, 0, 0]) rfl rfl (hc w' h.all)

/-! ### what is never come to -/
theorem andI_comm (a b : Int) : andI .i64 a b = andI .i64 b a := by rw [andI_bv, andI_bv, BitVec.and_comm]
def ret : List Int := [16, 0, 0, 0, 0]
theorem dead_way {l : List (List Int)} {h i : Int} (hw : Way (ret :: l) h i) : i = 0 := by
  induction hw with
  | zero => rfl
  | @next i z _ _ hz ih =>
    subst ih
    have e : (ret :: l).getD (0 : Int).toNat [] = ret := rfl
    rw [e] at hz
    have : behind (ret :: l).length 0 ret = [] := by
      unfold behind yA yB; simp [ret, isGoes, isEnds]
    rw [this] at hz; cases hz
theorem dead_held {l : List (List Int)} {needs : Int} : (heldL (ret :: l) needs).getD 0 0 = andI .i64 needs 255 ∧ ∀ i : Nat, 0 < i → i < (ret :: l).length → (heldL (ret :: l) needs).getD i 0 = 255 := by
  constructor
  · rw [heldL_get (by simp)]
    have hb := and_le (a := 255) (b := needs) (by omega) (by omega)
    rw [andI_comm] at hb
    rw [← rs_tb hb.1 hb.2]
    refine rs_congr fun h hh => ?_
    rw [tb_and _ _ (by omega), tb255 hh, Bool.and_true]
    cases hq : heldB (ret :: l) needs ((0 : Nat) : Int) h with
    | true =>
      rcases heldB_iff.1 hq with q | q
      · exact q.symm
      · exact (q .zero).elim
    | false =>
      cases ht : tb needs h with
      | false => rfl
      | true => rw [heldB_iff.2 (.inl ht)] at hq; cases hq
  · intro i h0 h1
    rw [heldL_get h1]
    have : rs (heldB (ret :: l) needs (i : Int)) 8 = rs (fun _ => true) 8 := rs_congr fun h hh => heldB_iff.2 (.inr fun hw => by have := dead_way hw; omega)
    rw [this]; rfl
end Go.Proofs.Ytgkfbagclkjilaa.Ck

namespace Go.Proofs.Ytgkfbagclkjilaa.Ck
open Go Go.Ev Go.Proofs

/-! ### the plain law -/
theorem chk_codes (x : List Int) : chk x = 0 ∨ chk x = 10 ∨ chk x = 13 := by
  unfold chk; split
  · exact .inr (.inr rfl)
  · split
    · exact .inl rfl
    · exact .inr (.inl rfl)
theorem firstBad_code : ∀ {l : List (List Int)} {i : Nat}, (firstBad i l).2 ≠ 16
  | [], i => by simp [firstBad]
  | x :: l, i => by
    unfold firstBad; split
    · have := chk_codes x; simp only; omega
    · exact firstBad_code
theorem shapeF_code (needs : Int) (l : List (List Int)) : (shapeF needs l).2 ≠ 16 := by
  unfold shapeF; split
  · simp
  · split
    · simp
    · exact firstBad_code
theorem shapes_code : ∀ {l : List FnR} {k : Nat} {x : Int × Int × Int}, shapes k l = some x → x.2.2 ≠ 16
  | [], _, _, h => by cases h
  | f :: l, k, x, h => by
    unfold shapes at h
    split at h
    · cases h; exact shapeF_code _ _
    · exact shapes_code h
theorem faults_some {P : List FnR} : ∀ {l : List FnR} {k : Nat} {a i e : Int}, faults P k l = some (a, i, e) → ∃ m f, l[m]? = some f ∧ a = ((k + m : Nat) : Int) ∧ fault1 P f = some (i, e)
  | [], _, _, _, _, h => by cases h
  | f :: l, k, a, i, e, h => by
    unfold faults at h
    split at h
    · rename_i i' e' he
      cases h
      exact ⟨0, f, rfl, rfl, he⟩
    · obtain ⟨m, g, h1, h2, h3⟩ := faults_some h
      exact ⟨m + 1, g, by simpa using h1, by rw [h2]; congr 1; omega, h3⟩
theorem funcFault_at {P : List FnR} {n : Nat} {D H : List Int} : ∀ {l : List (List Int)} {i : Nat} {a e : Int}, funcFault P n D H i l = some (a, e) → ∃ m x, l[m]? = some x ∧ a = ((i + m : Nat) : Int) ∧ wrongF P n D H (i + m) x = e
  | [], _, _, _, h => by cases h
  | x :: l, i, a, e, h => by
    unfold funcFault at h
    split at h
    · cases h; exact ⟨0, x, rfl, rfl, rfl⟩
    · obtain ⟨m, y, h1, h2, h3⟩ := funcFault_at h
      exact ⟨m + 1, y, by simpa using h1, by rw [h2]; congr 1; omega, by rw [show i + (m + 1) = i + 1 + m by omega]; exact h3⟩
section
variable {P : List FnR} {n : Nat} {D H : List Int} {i : Nat} {x : List Int}
theorem ask_v0 : askE P n D H i x 0 = 0 ∨ askE P n D H i x 0 = 10 := by
  show placesE P.length n x = 0 ∨ placesE P.length n x = 10
  unfold placesE; split <;> simp
theorem ask_v1 : askE P n D H i x 1 = 0 ∨ askE P n D H i x 1 = 11 := by
  show lastE n i x = 0 ∨ lastE n i x = 11
  unfold lastE; split <;> simp
theorem ask_v2 : askE P n D H i x 2 = 0 ∨ askE P n D H i x 2 = 15 := by
  show (if scopesOk D i x then (0 : Int) else 15) = 0 ∨ (if scopesOk D i x then (0 : Int) else 15) = 15
  split <;> simp
theorem wrong16 (h : wrongF P n D H i x = 16) : handlesOk P (H.getD i 0) x = false := by
  unfold wrongF at h
  split at h
  · rcases ask_v0 (P := P) (n := n) (D := D) (H := H) (i := i) (x := x) with e | e <;> rw [e] at h <;> omega
  · split at h
    · rcases ask_v1 (P := P) (n := n) (D := D) (H := H) (i := i) (x := x) with e | e <;> rw [e] at h <;> omega
    · split at h
      · rcases ask_v2 (P := P) (n := n) (D := D) (H := H) (i := i) (x := x) with e | e <;> rw [e] at h <;> omega
      · have h : (if handlesOk P (H.getD i 0) x then (0 : Int) else 16) = 16 := h
        cases q : handlesOk P (H.getD i 0) x with
        | false => rfl
        | true => rw [q] at h; simp at h
end
theorem held_all {l : List (List Int)} {i : Nat} (h : i < l.length) : (heldL l 255).getD i 0 = 255 := by
  rw [heldL_get h]
  have : rs (heldB l 255 (i : Int)) 8 = rs (fun _ => true) 8 := rs_congr fun h hh => heldB_iff.2 (.inl (tb255 hh))
  rw [this]; rfl
theorem handles_all {P : List FnR} {x : List Int} (hx : chk x = 0) : handlesOk P 255 x = true := by
  obtain ⟨_, _, _, _, h9, h10⟩ := chk0 hx
  unfold handlesOk
  split
  · rename_i q
    have := h9 (by simpa using q)
    exact tb255 (by omega)
  · split
    · rename_i q
      have := h10 (by simpa using q)
      exact tb255 (by omega)
    · split
      · exact subBits_iff.2 fun h hh _ => tb255 hh
      · rfl
theorem needs_plain {P : List FnR} {k : Nat} {sl : Sl} {code : List (List Int)} (hk : P[k]? = some ⟨255, sl, code⟩) (h1 : 1 ≤ k) : ¬ ((progF P).1 = (k : Int) ∧ (progF P).2.2 = 16) := by
  rintro ⟨ha, he⟩
  unfold progF at ha he
  split at ha
  · exfalso; dsimp only at ha; omega
  · rename_i hno
    rw [if_neg hno] at he
    cases hs : shapes 0 P with
    | some x => rw [hs] at he; exact shapes_code hs he
    | none =>
      rw [hs] at he ha
      simp only at he ha
      split at ha
      · exfalso; dsimp only at ha; omega
      · rename_i hn0
        rw [if_neg hn0] at he
        cases hf : faults P 0 P with
        | none => rw [hf] at he; simp at he
        | some x =>
          obtain ⟨a, i, e⟩ := x
          rw [hf] at he ha
          simp only at he ha
          subst he ha
          obtain ⟨m, f, hm, hkm, hfl⟩ := faults_some hf
          obtain rfl : m = k := by omega
          rw [hk] at hm; cases hm
          unfold fault1 at hfl
          obtain ⟨j, x, hx, _, hw⟩ := funcFault_at hfl
          have hh := wrong16 hw
          have hj : j < code.length := (List.getElem?_eq_some_iff.1 hx).1
          rw [Nat.zero_add, held_all hj] at hh
          have hok := (shape_zero (shapes_none hs _ (List.mem_of_getElem? hk))).2.2.2.2 x (List.mem_of_getElem? hx)
          rw [handles_all hok] at hh; cases hh

end Go.Proofs.Ytgkfbagclkjilaa.Ck

namespace Go.Proofs.Ytgkfbagclkjilaa.Ck
open Go Go.Ev Go.Proofs

def placesB (nf n : Nat) (x : List Int) : Bool := (isGoes x && decide (x.getD 4 0 ≥ n)) || ((opI x == 8) && decide (x.getD 4 0 ≥ nf))
def lastB (n : Nat) (i : Nat) (x : List Int) : Bool := ((i : Int) == (n : Int) - 1) && (opI x != 6) && !isEnds x
section
variable {P : List FnR} {n : Nat} {D H : List Int} {i : Nat} {x : List Int}
theorem wrong_1 (h : placesB P.length n x = true) : wrongF P n D H i x = 10 := by
  have e : askE P n D H i x 0 = 10 := if_pos h
  unfold wrongF; rw [e]; rfl
theorem ask0 (h : placesB P.length n x = false) : askE P n D H i x 0 = 0 := if_neg (by unfold placesB at h; rw [h]; simp)
theorem wrong_2 (h : placesB P.length n x = false) (h2 : lastB n i x = true) : wrongF P n D H i x = 11 := by
  have e : askE P n D H i x 1 = 11 := if_pos h2
  unfold wrongF; rw [ask0 h, e]; rfl
theorem ask1 (h2 : lastB n i x = false) : askE P n D H i x 1 = 0 := if_neg (by unfold lastB at h2; rw [h2]; simp)
theorem wrong_3 (h : placesB P.length n x = false) (h2 : lastB n i x = false) (h3 : scopesOk D i x = false) : wrongF P n D H i x = 15 := by
  have e : askE P n D H i x 2 = 15 := if_neg (by rw [h3]; simp)
  unfold wrongF; rw [ask0 h, ask1 h2, e]; rfl
theorem wrong_4 (h : placesB P.length n x = false) (h2 : lastB n i x = false) (h3 : scopesOk D i x = true) : wrongF P n D H i x = if handlesOk P (H.getD i 0) x then 0 else 16 := by
  have e : askE P n D H i x 2 = 0 := if_pos h3
  unfold wrongF; rw [ask0 h, ask1 h2, e]; rfl
theorem places_in (h : placesB P.length n x = false) : (isGoes x = true → x.getD 4 0 < n) ∧ (opI x = 8 → x.getD 4 0 < P.length) := by
  unfold placesB at h
  rw [Bool.or_eq_false_iff] at h
  refine ⟨fun hg => ?_, fun ho => ?_⟩
  · have := h.1
    rw [hg, Bool.true_and] at this
    have := of_decide_eq_false this
    omega
  · have := h.2
    rw [show (opI x == 8) = true by simpa using ho, Bool.true_and] at this
    have := of_decide_eq_false this
    omega
end
theorem bitB_tb {n h : Int} (hn : InI n) (h0 : 0 ≤ h) (h1 : h < 64) : bitB n h = tb n h.toNat := and1 hn h0 h1

theorem wrong_s {w0 w : World} {ps s sd sh : Sl} {P : List FnR} {l : List (List Int)} {D H : List Int} {R : List HP} {needs : Int} {i : Nat} {x : List Int} {k : Int → World → Prop}
    (h : St w0 w (slc 1 sd (ints D) :: slc 1 sh (ints H) :: R)) (hr : Code5 w0 s l) (hF : Funcs5 w0 ps P) (hx : l[i]? = some x) (hn : l.length ≤ 1000) (hD : D.length = l.length) (hH : H.length = l.length)
    (hok : chk x = 0) (hHb : ∀ v ∈ H, 0 ≤ v ∧ v ≤ 255)
    (hc : ∀ w', St w0 w' (slc 1 sd (ints D) :: slc 1 sh (ints H) :: R) → k (wrongF P l.length D H i x) w') : pelotonref04_wrong #[.slice ps.a ps.n ps.c] #[.int .i64 needs, .slice s.a s.n s.c] (i : Int) sd sh w k := by
  have hsn := hr.len
  have hpn := hF.len
  have hil : i < l.length := (List.getElem?_eq_some_iff.1 hx).1
  obtain ⟨_, _, hkg, hk8, hk9, hk10⟩ := chk0 hok
  unfold pelotonref04_wrong pelotonref04_wrong_b
  refine newC_h h fun g1 w2 h => newC_h h fun g3 w4 h => ldS_h (g := g3) (o := 1) h rfl ?_
  refine ixC_h hr h (by omega) hx fun p h5 hp => ldA_c (by simp [Go.Ev.ints, h5]) (fun j v => hp h) ?_
  refine newC_h h fun g w6 h => stW_h (g := g) h rfl (by simp [Go.Ev.ints, h5]) (one_agI _) fun w10 h => ?_
  have h : St w0 w10 (blk g (ints x) :: blk g3 [.int .i64 needs, .slice s.a s.n s.c] :: blk g1 [.slice ps.a ps.n ps.c] :: slc 1 sd (ints D) :: slc 1 sh (ints H) :: R) := h
  refine joinP_i (fun b w' => b = isGoes x ∧ w' = w10) (fun J hJ => ?_) ?_
  · refine ldI_h (g := g) (o := 0) h (ints_get (by omega)) (iteB_i (fun hb => ?_) fun hb => ?_)
    · have hb' : (opI x == 6) = true := hb
      exact hJ _ _ ⟨by unfold isGoes; rw [hb']; rfl, rfl⟩
    · have hb' : (opI x == 6) = false := hb
      exact ldI_h (g := g) (o := 0) h (ints_get (by omega)) (hJ _ _ ⟨by unfold isGoes; rw [hb']; rfl, rfl⟩)
  rintro b14 w15 ⟨rfl, rfl⟩
  refine joinP_i (fun b w' => b = placesB P.length l.length x ∧ w' = w15) (fun J hJ => ?_) ?_
  · have second : (isGoes x && decide (x.getD 4 0 ≥ l.length)) = false → ldI .i64 w15 (Addr.add ⟨g, 0, none⟩ 0) fun i16 =>
        iteB (i16 == (8 : Int)) (
          ldI .i64 w15 (Addr.add ⟨g, 0, none⟩ 4) fun i17 =>
          ldS w15 (Addr.add ⟨g1, 0, none⟩ 0) fun s19 =>
          (J (decide (i17 ≥ ((s19.n : Nat) : Int))) w15)) (
          (J false w15)) := by
      intro ha
      refine ldI_h (g := g) (o := 0) h (ints_get (by omega)) (iteB_i (fun hb => ?_) fun hb => ?_)
      · refine ldI_h (g := g) (o := 4) h (ints_get (by omega)) (ldS_h (g := g1) (o := 0) h rfl (hJ _ _ ⟨?_, rfl⟩))
        have hb' : (opI x == 8) = true := hb
        unfold placesB
        dsimp only; rw [ha, hb', hpn]; rfl
      · refine hJ _ _ ⟨?_, rfl⟩
        have hb' : (opI x == 8) = false := hb
        unfold placesB
        rw [ha, hb']; rfl
    refine iteB_i (fun hg => ?_) fun hg => ?_
    · refine ldI_h (g := g) (o := 4) h (ints_get (by omega)) (ldS_h (g := g3) (o := 1) h rfl (iteB_i (fun hb => ?_) fun hb => ?_))
      · refine hJ _ _ ⟨?_, rfl⟩
        dsimp only at hb
        rw [hsn] at hb
        unfold placesB
        rw [hg, hb]; rfl
      · dsimp only at hb
        rw [hsn] at hb
        exact second (by rw [hg, hb]; rfl)
    · exact second (by rw [hg]; rfl)
  rintro b25 w26 ⟨rfl, rfl⟩
  refine iteB_i (fun hp1 => ?_) fun hp1 => ?_
  · rw [wrong_1 hp1] at hc; exact hc _ h.drop.drop.drop
  have hin := places_in hp1
  refine joinP_i (fun b w' => b = lastB l.length i x ∧ w' = w26) (fun J hJ => ?_) ?_
  · refine ldS_h (g := g3) (o := 1) h rfl ?_
    have hw : IntKind.wrap .i64 (((s.n : Nat) : Int) - 1) = (l.length : Int) - 1 := by rw [hsn, wrap_id ⟨by omega, by omega⟩]
    dsimp only
    rw [hw]
    unfold lastB isEnds at hJ
    refine iteB_i (fun hb => ?_) fun hb => ?_
    · rw [hb] at hJ
      refine ldI_h (g := g) (o := 0) h (ints_get (by omega)) (iteB_i (fun hb => ?_) fun hb => ?_)
      · have hb' : (opI x != 6) = true := hb
        rw [hb'] at hJ
        refine ldI_h (g := g) (o := 0) h (ints_get (by omega)) (iteB_i (fun hb => ?_) fun hb => ?_)
        · have hb' : (opI x != 16) = true := hb
          have hb2 : (opI x == 16) = false := by simpa [bne] using hb'
          rw [hb2] at hJ
          refine ldI_h (g := g) (o := 0) h (ints_get (by omega)) (hJ _ _ ⟨?_, rfl⟩)
          rfl
        · have hb' : (opI x != 16) = false := hb
          have hb2 : (opI x == 16) = true := by simpa [bne] using hb'
          rw [hb2] at hJ
          exact hJ _ _ ⟨by simp, rfl⟩
      · have hb' : (opI x != 6) = false := hb
        rw [hb'] at hJ
        exact hJ _ _ ⟨by simp, rfl⟩
    · rw [hb] at hJ
      exact hJ _ _ ⟨by simp, rfl⟩
  rintro b32 w33 ⟨rfl, rfl⟩
  refine iteB_i (fun hp2 => ?_) fun hp2 => ?_
  · rw [wrong_2 hp1 hp2] at hc; exact hc _ h.drop.drop.drop
  have hdn : D.length = sd.n := by have := h.slen (sz := 1) (s := sd) (vs := ints D); simpa using this
  have hhn : H.length = sh.n := by have := h.slen (sz := 1) (s := sh) (vs := ints H); simpa using this
  refine joinP_i (fun b w' => b = !scopesOk D i x ∧ St w0 w' (blk g (ints x) :: blk g3 [.int .i64 needs, .slice s.a s.n s.c] :: blk g1 [.slice ps.a ps.n ps.c] :: slc 1 sd (ints D) :: slc 1 sh (ints H) :: R)) (fun J hJ => ?_) ?_
  · refine drew_h h fun w35 h => ?_
    have op : ∀ {c : Int → Prop}, c (opI x) → ldI .i64 w35 (Addr.add ⟨g, 0, none⟩ 0) c := fun hc => ldI_h (g := g) (o := 0) h (ints_get (by omega)) hc
    have dd : ∀ {c : Int → Prop}, c (D.getD i 0) → ixS sd (i : Int) 1 fun a => ldI .i64 w35 a c := fun hc => ixI_h (s := sd) (xs := D) h (by omega) (by omega) (by rw [Int.toNat_natCast]; exact hc)
    have gp : (isGoes x = true → scopesOk D i x = (D.getD (x.getD 4 0).toNat 0 == D.getD i 0)) → (isGoes x = false → scopesOk D i x = true) → iteB (isGoes x) (
                ldI .i64 w35 (Addr.add ⟨g, 0, none⟩ 4) fun i76 =>
                ixS sd i76 1 fun a77 =>
                ldI .i64 w35 a77 fun i78 =>
                ixS sd (i : Int) 1 fun a79 =>
                ldI .i64 w35 a79 fun i80 =>
                (J (i78 != i80) w35)) (
                (J false w35)) := by
      intro h1 h2
      refine iteB_i (fun hg => ?_) fun hg => ?_
      · have := (hkg hg).1; have := hin.1 hg
        refine ldI_h (g := g) (o := 4) h (ints_get (by omega)) (ixI_h (s := sd) (xs := D) h (by omega) (by omega) (dd (hJ _ _ ⟨?_, h⟩)))
        rw [h1 hg]; rfl
      · exact hJ _ _ ⟨by rw [h2 hg]; rfl, h⟩
    have ng : ∀ {o : Int}, opI x = o → o ≠ 6 → o ≠ 7 → isGoes x = false := by
      intro o ho h6 h7
      unfold isGoes; rw [ho]; simp [h6, h7]
    refine op (iteB_i (fun hb => ?_) fun hb => ?_)
    · have ho : opI x = 12 := by simpa using hb
      have hg := ng ho (by decide) (by decide)
      have e : scopesOk D i x = decide (D.getD i 0 ≥ 1) := if_pos (by rw [ho]; rfl)
      refine dd (iteB_i (fun hb => ?_) fun hb => ?_)
      · have := of_decide_eq_true hb
        exact hJ _ _ ⟨by rw [e, decide_eq_false (by omega)]; rfl, h⟩
      · have := of_decide_eq_false hb
        refine op (iteB_f (by rw [ho]; rfl) (gp (fun q => by rw [hg] at q; cases q) fun _ => by rw [e]; exact decide_eq_true (by omega)))
    · have hn12 : (opI x == 12) = false := hb
      refine op (iteB_i (fun hb => ?_) fun hb => ?_)
      · have ho : opI x = 13 := by simpa using hb
        have hg := ng ho (by decide) (by decide)
        have e : scopesOk D i x = decide (D.getD i 0 ≥ 1) := if_pos (by rw [ho]; rfl)
        refine dd (iteB_i (fun hb => ?_) fun hb => ?_)
        · have := of_decide_eq_true hb
          exact hJ _ _ ⟨by rw [e, decide_eq_false (by omega)]; rfl, h⟩
        · have := of_decide_eq_false hb
          refine op (iteB_f (by rw [ho]; rfl) (gp (fun q => by rw [hg] at q; cases q) fun _ => by rw [e]; exact decide_eq_true (by omega)))
      · have hn13 : (opI x == 13) = false := hb
        have e0 : scopesOk D i x = if opI x == 16 then D.getD i 0 == 0 else if isGoes x then D.getD (x.getD 4 0).toNat 0 == D.getD i 0 else true := if_neg (by rw [hn12, hn13]; simp)
        refine op (iteB_i (fun hb => ?_) fun hb => ?_)
        · have ho : opI x = 16 := by simpa using hb
          have hg := ng ho (by decide) (by decide)
          rw [if_pos hb] at e0
          refine dd (iteB_i (fun hb => ?_) fun hb => ?_)
          · have : (D.getD i 0 == 0) = false := by simpa [bne] using hb
            exact hJ _ _ ⟨by rw [e0, this]; rfl, h⟩
          · have : (D.getD i 0 == 0) = true := by simpa [bne] using hb
            exact gp (fun q => by rw [hg] at q; cases q) fun _ => by rw [e0, this]
        · rw [if_neg (by rw [hb]; simp)] at e0
          exact gp (fun q => by rw [e0, if_pos q]) fun q => by rw [e0, if_neg (by rw [q]; simp)]
  rintro b81 w82 ⟨rfl, h⟩
  refine iteB_i (fun hp3 => ?_) fun hp3 => ?_
  · rw [wrong_3 hp1 hp2 (by simpa using hp3)] at hc; exact hc _ h.drop.drop.drop
  rw [wrong_4 hp1 hp2 (by simpa using hp3)] at hc
  have hv : 0 ≤ H.getD i 0 ∧ H.getD i 0 ≤ 255 := by
    have e : H.getD i 0 = H[i] := by simp [show i < H.length by omega]
    rw [e]; exact hHb _ (List.getElem_mem _)
  have hvI : InI (H.getD i 0) := ⟨by omega, by omega⟩
  generalize hhv : H.getD i 0 = hv' at hc hvI
  refine joinP_i (fun b w' => b = (((opI x == 9) && !tb hv' (x.getD 2 0).toNat) || ((opI x == 10) && !tb hv' (x.getD 3 0).toNat)) ∧ St w0 w' (blk g (ints x) :: blk g3 [.int .i64 needs, .slice s.a s.n s.c] :: blk g1 [.slice ps.a ps.n ps.c] :: slc 1 sd (ints D) :: slc 1 sh (ints H) :: R)) (fun J hJ => ?_) ?_
  · refine drew_h h fun w84 h => ?_
    have hh : ∀ {c : Int → Prop}, c hv' → ixS sh (i : Int) 1 fun a => ldI .i64 w84 a c := fun hc => ixI_h (s := sh) (xs := H) h (by omega) (by omega) (by rw [Int.toNat_natCast, hhv]; exact hc)
    have op : ∀ {c : Int → Prop}, c (opI x) → ldI .i64 w84 (Addr.add ⟨g, 0, none⟩ 0) c := fun hc => ldI_h (g := g) (o := 0) h (ints_get (by omega)) hc
    refine op (iteB_i (fun hb => ?_) fun hb => ?_)
    · have ho : opI x = 9 := by simpa using hb
      have hB := hk9 ho
      refine hh (ldI_h (g := g) (o := 2) h (ints_get (by omega)) (bit_s (by omega) (by omega) ?_))
      rw [bitB_tb hvI (by omega) (by omega)]
      rw [ho] at hJ
      refine iteB_i (fun hb => hJ _ _ ⟨by rw [hb]; rfl, h⟩) fun hb => ?_
      refine op (iteB_f (by rw [ho]; rfl) (hJ _ _ ⟨by rw [hb]; rfl, h⟩))
    · have hb9 : (opI x == 9) = false := hb
      rw [hb9] at hJ
      refine op (iteB_i (fun hb => ?_) fun hb => ?_)
      · have ho : opI x = 10 := by simpa using hb
        have hB := hk10 ho
        refine hh (ldI_h (g := g) (o := 3) h (ints_get (by omega)) (bit_s (by omega) (by omega) ?_))
        rw [bitB_tb hvI (by omega) (by omega)]
        refine hJ _ _ ⟨by rw [hb]; rfl, h⟩
      · exact hJ _ _ ⟨by rw [hb]; rfl, h⟩
  rintro b103 w104 ⟨rfl, h⟩
  refine iteB_i (fun hp4 => ?_) fun hp4 => ?_
  · have : handlesOk P hv' x = false := by
      unfold handlesOk
      rw [Bool.or_eq_true, Bool.and_eq_true, Bool.and_eq_true] at hp4
      rcases hp4 with ⟨q, q2⟩ | ⟨q, q2⟩
      · rw [if_pos q]; simpa using q2
      · have ho : opI x = 10 := by simpa using q
        rw [if_neg (by rw [ho]; decide), if_pos q]; simpa using q2
    rw [this] at hc; exact hc _ h.drop.drop.drop
  refine loopP_of (fun (y : Int) w' => ∃ j : Nat, y = (j : Int) ∧ j ≤ 8 ∧ (opI x = 8 → ∀ h', h' < j → tb (needsOf P (x.getD 4 0)) h' = true → tb hv' h' = true) ∧ St w0 w' (blk g (ints x) :: blk g3 [.int .i64 needs, .slice s.a s.n s.c] :: blk g1 [.slice ps.a ps.n ps.c] :: slc 1 sd (ints D) :: slc 1 sh (ints H) :: R)) (fun y _ => (8 - y).toNat) ⟨0, rfl, by omega, fun _ h' hh' => by omega, h⟩ ?_
  rintro _ w107 ⟨j, rfl, hj, hall, h⟩ C hC
  refine iteB_i (fun hb => ?_) fun hb => ?_
  · have hj8 : j < 8 := by have := of_decide_eq_true hb; omega
    have hw2 : IntKind.wrap .i64 ((j : Int) + 1) = ((j + 1 : Nat) : Int) := by rw [wrap_id ⟨by omega, by omega⟩]; simp
    refine joinP_i (fun b w' => b = ((opI x == 8) && (tb (needsOf P (x.getD 4 0)) j && !tb hv' j)) ∧ w' = w107) (fun J hJ => ?_) ?_
    · refine ldI_h (g := g) (o := 0) h (ints_get (by omega)) (iteB_i (fun hb => ?_) fun hb => ?_)
      · have ho : opI x = 8 := by simpa using hb
        have h8 := hk8 ho
        have hlt := hin.2 ho
        have hf : P[(x.getD 4 0).toNat]? = some P[(x.getD 4 0).toNat] := List.getElem?_eq_getElem (by omega)
        have hfI := (hF.code _ (List.mem_of_getElem? hf)).1
        refine ldS_h (g := g1) (o := 0) h rfl (ldI_h (g := g) (o := 4) h (ints_get (by omega)) ?_)
        refine ixR_h (e := FnR.cells P[(x.getD 4 0).toNat]) hF.rws h (by omega) (by rw [List.getElem?_map, hf]; rfl) fun p hp2 => ldI_i (hp2 h rfl) ?_
        refine bit_s (by omega) (by omega) ?_
        rw [bitB_tb hfI (by omega) (by omega), Int.toNat_natCast]
        rw [needs_get hf, ho] at hJ
        refine iteB_i (fun hb => ?_) fun hb => ?_
        · refine ixI_h (s := sh) (xs := H) h (by omega) (by omega) (bit_s (by omega) (by omega) ?_)
          rw [Int.toNat_natCast, hhv, bitB_tb hvI (by omega) (by omega), Int.toNat_natCast]
          exact hJ _ _ ⟨by rw [hb]; rfl, rfl⟩
        · exact hJ _ _ ⟨by rw [hb]; rfl, rfl⟩
      · have hb' : (opI x == 8) = false := hb
        exact hJ _ _ ⟨by rw [hb']; rfl, rfl⟩
    rintro b120 w121 ⟨rfl, rfl⟩
    refine iteB_i (fun hb => ?_) fun hb => ?_
    · simp only [Bool.and_eq_true, Bool.not_eq_true', beq_iff_eq] at hb
      have : handlesOk P hv' x = false := by
        unfold handlesOk
        rw [if_neg (by rw [hb.1]; decide), if_neg (by rw [hb.1]; decide), if_pos (by rw [hb.1]; rfl)]
        cases hs : subBits (needsOf P (x.getD 4 0)) hv' with
        | false => rfl
        | true =>
          have := subBits_iff.1 hs j hj8 hb.2.1
          rw [hb.2.2] at this; cases this
      rw [this] at hc; exact hc _ h.drop.drop.drop
    · rw [hw2]
      refine hC _ _ ⟨j + 1, rfl, hj8, fun ho h' hh' ht => ?_, h⟩ (by omega)
      by_cases q : h' = j
      · subst q
        rw [show (opI x == 8) = true by simpa using ho, ht] at hb
        simpa using hb
      · exact hall ho h' (by omega) ht
  · have hj8 : j = 8 := by have := of_decide_eq_false hb; omega
    subst hj8
    have : handlesOk P hv' x = true := by
      unfold handlesOk
      rw [Bool.or_eq_false_iff] at hp4
      split
      · rename_i q
        have := hp4.1; rw [q] at this; simpa using this
      · split
        · rename_i q
          have := hp4.2; rw [q] at this; simpa using this
        · split
          · rename_i q
            exact subBits_iff.2 fun h' hh' ht => hall (by simpa using q) h' hh' ht
          · rfl
    rw [this] at hc; exact hc _ h.drop.drop.drop
end Go.Proofs.Ytgkfbagclkjilaa.Ck

namespace Go.Proofs.Ytgkfbagclkjilaa.Ck
open Go Go.Ev Go.Proofs

theorem rprogram_s {w : World} {ps : Sl} {P : List FnR} {k : Array Value → World → Prop} (hF : Funcs5 w ps P) (hfew : Few P)
    (hc : ∀ w', St w w' [] → k (agI (tri (progF P))) w') : pelotonref04_Program #[.slice ps.a ps.n ps.c] w k := by
  have hpn := hF.len
  unfold pelotonref04_Program pelotonref04_Program_b
  refine newC_h (.nil w) fun g1 w2 h => newC_h h fun g3 w4 h => ?_
  have h : St w w4 [blk g3 (ints [0, 0, 0]), blk g1 [.slice ps.a ps.n ps.c]] := h
  have e1 : decide (((ps.n : Nat) : Int) < 1) = decide (P.length < 1) := by rw [decide_eq_decide]; omega
  have e2 : decide (((ps.n : Nat) : Int) > 32) = decide (P.length > 32) := by rw [decide_eq_decide]; omega
  refine joinP_i (fun b w' => b = (decide (P.length < 1) || decide (P.length > 32)) ∧ w' = w4) (fun J hJ => ?_) ?_
  · refine ldS_h (g := g1) (o := 0) h rfl (iteB_i (fun hb => ?_) fun hb => ?_)
    · exact hJ _ _ ⟨by rw [← e1]; dsimp only at hb; rw [hb]; rfl, rfl⟩
    · refine ldS_h (g := g1) (o := 0) h rfl (hJ _ _ ⟨by rw [← e1, ← e2]; dsimp only at hb; rw [hb]; rfl, rfl⟩)
  rintro b8 w9 ⟨rfl, rfl⟩
  unfold progF at hc
  refine iteB_i (fun hb => ?_) fun hb => ?_
  · rw [hb] at hc
    refine stW_h (g := g3) (vs := agI [-1, -1, 12]) h rfl rfl (one_agI _) fun w10 h => ldW_h (g := g3) h rfl ?_
    exact hc _ h.all
  · rw [hb] at hc
    rw [Bool.or_eq_false_iff] at hb
    have hl1 := of_decide_eq_false hb.1
    have hl2 := of_decide_eq_false hb.2
    refine joinP_i (fun _ w' => shapes 0 P = none ∧ St w w' [blk g3 (ints [0, 0, 0]), blk g1 [.slice ps.a ps.n ps.c]]) (fun J hJ => ?_) ?_
    · refine loopP_of (fun (i : Int) w' => ∃ dn rest, P = dn ++ rest ∧ i = (dn.length : Int) ∧ shapes 0 P = shapes dn.length rest ∧ St w w' [blk g3 (ints [0, 0, 0]), blk g1 [.slice ps.a ps.n ps.c]]) (fun i _ => ((ps.n : Int) - i).toNat) ⟨[], P, rfl, rfl, rfl, h⟩ ?_
      rintro _ w16 ⟨dn, rest, hl, rfl, hd, h⟩ C hC
      refine ldS_h (g := g1) (o := 0) h rfl ?_
      cases rest with
      | nil =>
        refine iteB_f (by simp only [decide_eq_false_iff_not]; rw [hpn, hl]; simp) ?_
        exact hJ _ _ ⟨by rw [hd]; rfl, h⟩
      | cons f rest =>
        have hlen2 : P.length = dn.length + (rest.length + 1) := by rw [hl]; simp
        have hw1 : IntKind.wrap .i64 ((dn.length : Int) + 1) = ((dn ++ [f]).length : Int) := by rw [wrap_id ⟨by omega, by omega⟩]; simp
        have hx : P[dn.length]? = some f := by rw [hl]; simp
        have hcd := (hF.code f (List.mem_of_getElem? hx)).2
        refine iteB_t (by simp only [decide_eq_true_eq]; omega) (ldS_h (g := g1) (o := 0) h rfl ?_)
        refine ixR_h (e := FnR.cells f) hF.rws h (by omega) (by rw [List.getElem?_map, Int.toNat_natCast, hx]; rfl) fun p hp => ldA_c (e := FnR.cells f) rfl (fun j v => hp h) ?_
        refine rshape_s (needs := f.needs) (s := f.sl) (l := f.code) (hcd.ext h.ext) fun w24 h2 => ?_
        have h := h.on h2.ext
        refine iteB_i (fun hb3 => ?_) fun hb3 => ?_
        · refine stW_h (g := g3) (vs := agI [(dn.length : Int), (shapeF f.needs f.code).1, (shapeF f.needs f.code).2]) h rfl rfl (one_agI _) fun w25 h => ldW_h (g := g3) h rfl ?_
          have e : shapes 0 P = some ((dn.length : Int), (shapeF f.needs f.code).1, (shapeF f.needs f.code).2) := by rw [hd]; unfold shapes; rw [if_pos hb3]
          rw [e] at hc
          exact hc _ h.all
        · rw [hw1]
          refine hC _ _ ⟨dn ++ [f], rest, by rw [hl]; simp, rfl, ?_, h⟩ (by simp; omega)
          have hb3' : ((shapeF f.needs f.code).2 != 0) = false := hb3
          rw [hd]; simp [shapes, hb3']
    rintro _ w28 ⟨hsh, h⟩
    rw [hsh] at hc
    have hall := shapes_none hsh
    have h0 : P[0]? = some P[0] := List.getElem?_eq_getElem (by omega)
    refine ldS_h (g := g1) (o := 0) h rfl ?_
    refine ixR_h (e := FnR.cells P[0]) hF.rws h (by omega) (by rw [List.getElem?_map]; simp [h0]) fun p hp => ldI_i (hp h rfl) ?_
    have hn0 : needsOf P 0 = P[0].needs := needs_get (n := 0) h0
    rw [← hn0]
    refine iteB_i (fun hb => ?_) fun hb => ?_
    · refine stW_h (g := g3) (vs := agI [0, -1, 16]) h rfl rfl (one_agI _) fun w32 h => ldW_h (g := g3) h rfl ?_
      dsimp only at hc
      rw [if_neg (by simp), if_pos hb] at hc
      exact hc _ h.all
    · dsimp only at hc
      rw [if_neg (by simp), if_neg (by rw [hb]; simp)] at hc
      refine loopP_of (fun (i : Int) w' => ∃ dn rest, P = dn ++ rest ∧ i = (dn.length : Int) ∧ faults P 0 P = faults P dn.length rest ∧ St w w' [blk g3 (ints [0, 0, 0]), blk g1 [.slice ps.a ps.n ps.c]]) (fun i _ => ((ps.n : Int) - i).toNat) ⟨[], P, rfl, rfl, rfl, h⟩ ?_
      rintro _ w37 ⟨dn, rest, hl, rfl, hd, h⟩ C hC
      refine ldS_h (g := g1) (o := 0) h rfl ?_
      cases rest with
      | nil =>
        refine iteB_f (by simp only [decide_eq_false_iff_not]; rw [hpn, hl]; simp) ?_
        refine stW_h (g := g3) (vs := agI [0, 0, 0]) h rfl rfl (one_agI _) fun w49 h => ldW_h (g := g3) h rfl ?_
        have e : faults P 0 P = none := by rw [hd]; rfl
        rw [e] at hc
        exact hc _ h.all
      | cons f rest =>
        have hlen2 : P.length = dn.length + (rest.length + 1) := by rw [hl]; simp
        have hw1 : IntKind.wrap .i64 ((dn.length : Int) + 1) = ((dn ++ [f]).length : Int) := by rw [wrap_id ⟨by omega, by omega⟩]; simp
        have hx : P[dn.length]? = some f := by rw [hl]; simp
        have hmem := List.mem_of_getElem? hx
        obtain ⟨hfN, hcd⟩ := hF.code f hmem
        have hcl := hcd.len
        have hsf := shape_zero (hall f hmem)
        refine iteB_t (by simp only [decide_eq_true_eq]; omega) (ldS_h (g := g1) (o := 0) h rfl ?_)
        refine ixR_h (e := FnR.cells f) hF.rws h (by omega) (by rw [List.getElem?_map, Int.toNat_natCast, hx]; rfl) fun p hp => ldA_c (e := FnR.cells f) rfl (fun j v => hp h) ?_
        refine newC_h h fun g8 w9 h => stW_h (g := g8) h rfl rfl (by intro v hv; simp [FnR.cells] at hv; rcases hv with rfl | rfl <;> rfl) fun w10 h => ?_
        have h : St w w10 [blk g8 [.int .i64 f.needs, .slice f.sl.a f.sl.n f.sl.c], blk g3 (ints [0, 0, 0]), blk g1 [.slice ps.a ps.n ps.c]] := h
        refine ldS_h (g := g8) (o := 1) h rfl ?_
        refine rdepths_s (hcd.ext h.ext) (by omega) fun sd w43 h2 nd => ?_
        have h := h.join h2
        simp only [List.cons_append, List.nil_append] at h
        refine ldW_h (g := g8) h rfl ?_
        refine rheld_s (needs := f.needs) (hcd.ext h.ext) hfN (by omega) fun sh w46 h2 nh => ?_
        have h := h.join h2
        simp only [List.cons_append, List.nil_append] at h
        have h : St w w46 [slc 1 sd (ints (depths 0 f.code)), slc 1 sh (ints (heldL f.code f.needs)), blk g8 [.int .i64 f.needs, .slice f.sl.a f.sl.n f.sl.c], blk g3 (ints [0, 0, 0]), blk g1 [.slice ps.a ps.n ps.c]] := h.swap
        have hDl : (depths 0 f.code).length = f.code.length := depths_length _ _
        have hHl : (heldL f.code f.needs).length = f.code.length := heldL_len _ _
        have hHb : ∀ v ∈ heldL f.code f.needs, 0 ≤ v ∧ v ≤ 255 := by
          intro v hv
          unfold heldL at hv
          obtain ⟨i, _, rfl⟩ := List.mem_map.1 hv
          have := rs_bounds (heldB f.code f.needs (i : Int)) 8
          omega
        have hf1 : fault1 P f = funcFault P f.code.length (depths 0 f.code) (heldL f.code f.needs) 0 f.code := rfl
        generalize depths 0 f.code = D at h hDl hf1
        generalize heldL f.code f.needs = H at h hHl hHb hf1
        refine loopP_of (fun (i : Int) w' => ∃ dn2 rest2, f.code = dn2 ++ rest2 ∧ i = (dn2.length : Int) ∧ fault1 P f = funcFault P f.code.length D H dn2.length rest2 ∧ St w w' [slc 1 sd (ints D), slc 1 sh (ints H), blk g8 [.int .i64 f.needs, .slice f.sl.a f.sl.n f.sl.c], blk g3 (ints [0, 0, 0]), blk g1 [.slice ps.a ps.n ps.c]]) (fun i _ => ((f.code.length : Int) - i).toNat) ⟨[], f.code, rfl, rfl, hf1, h⟩ ?_
        rintro _ w49 ⟨dn2, rest2, hl2', rfl, hd2, h⟩ C2 hC2
        refine ldS_h (g := g8) (o := 1) h rfl ?_
        cases rest2 with
        | nil =>
          refine iteB_f (by simp only [decide_eq_false_iff_not]; rw [hcl, hl2']; simp) ?_
          rw [hw1]
          have e : fault1 P f = none := hd2
          refine hC _ _ ⟨dn ++ [f], rest, by rw [hl]; simp, rfl, ?_, h.drop.drop.drop⟩ (by simp; omega)
          rw [hd]; simp [faults, e]
        | cons x rest2 =>
          have hlen3 : f.code.length = dn2.length + (rest2.length + 1) := by rw [hl2']; simp
          have hw3 : IntKind.wrap .i64 ((dn2.length : Int) + 1) = ((dn2 ++ [x]).length : Int) := by rw [wrap_id ⟨by omega, by omega⟩]; simp
          have hx2 : f.code[dn2.length]? = some x := by rw [hl2']; simp
          have hcx := hsf.2.2.2.2 x (by rw [hl2']; simp)
          refine iteB_t (by simp only [decide_eq_true_eq]; omega) (ldW_h (g := g1) h rfl (ldW_h (g := g8) h rfl ?_))
          refine wrong_s (P := P) (needs := f.needs) h hcd hF hx2 (by omega) hDl hHl hcx hHb fun w54 h => ?_
          refine iteB_i (fun hb => ?_) fun hb => ?_
          · refine stW_h (g := g3) (vs := agI [(dn.length : Int), (dn2.length : Int), wrongF P f.code.length D H dn2.length x]) h rfl rfl (one_agI _) fun w55 h => ldW_h (g := g3) h rfl ?_
            have e : fault1 P f = some ((dn2.length : Int), wrongF P f.code.length D H dn2.length x) := by rw [hd2]; unfold funcFault; rw [if_pos hb]
            have e' : faults P 0 P = some ((dn.length : Int), (dn2.length : Int), wrongF P f.code.length D H dn2.length x) := by rw [hd]; simp [faults, e]
            rw [e'] at hc
            exact hc _ h.all
          · rw [hw3]
            refine hC2 _ _ ⟨dn2 ++ [x], rest2, by rw [hl2']; simp, rfl, ?_, h⟩ (by simp; omega)
            rw [hd2]; simp [funcFault, hb]

/-! ### programs that are plain -/
def plainI (x : List Int) : Bool := !((opI x == 13) || ((opI x == 11) && (x.getD 4 0 != 0)))
def plainF (P : List FnR) : Bool := P.all fun f => f.code.all plainI
theorem plain_bit {w0 w : World} {g : Nat} {x : List Int} {R : List HP} {k : Bool → World → Prop} (h : St w0 w (blk g (ints x) :: R)) (h5 : x.length = 5) (hc : ∀ b, b = !plainI x → k b w) : joinP (S := Bool) (fun J21 =>
            ldI .i64 w (Addr.add ⟨g, 0, none⟩ 0) fun i22 =>
            iteB (i22 == (13 : Int)) (
              (J21 true w)) (
              ldI .i64 w (Addr.add ⟨g, 0, none⟩ 0) fun i23 =>
              iteB (i23 == (11 : Int)) (
                ldI .i64 w (Addr.add ⟨g, 0, none⟩ 4) fun i24 =>
                (J21 (i24 != (0 : Int)) w)) (
                (J21 false w)))) k := by
  unfold plainI at hc
  refine joinP_d ?_
  refine ldI_h (g := g) (o := 0) h (ints_get (by omega)) (iteB_i (fun hb => ?_) fun hb => ?_)
  · have hb' : (opI x == 13) = true := hb
    exact hc _ (by rw [hb']; rfl)
  · have hb' : (opI x == 13) = false := hb
    rw [hb'] at hc
    refine ldI_h (g := g) (o := 0) h (ints_get (by omega)) (iteB_i (fun hb => ?_) fun hb => ?_)
    · have hb' : (opI x == 11) = true := hb
      rw [hb'] at hc
      exact ldI_h (g := g) (o := 4) h (ints_get (by omega)) (hc _ (by simp))
    · have hb' : (opI x == 11) = false := hb
      rw [hb'] at hc
      exact hc _ rfl
theorem plain_s {w : World} {ps : Sl} {P : List FnR} {k : Bool → World → Prop} (hF : Funcs5 w ps P) (hfew : Few P) (hc : ∀ w', St w w' [] → k (plainF P) w') : check_Plain #[.slice ps.a ps.n ps.c] w k := by
  have hpn := hF.len
  have hfn := hfew.n
  unfold check_Plain
  refine newC_h (.nil w) fun g1 w2 h => ldS_h (g := g1) (o := 0) h rfl ?_
  refine loopP_of (fun (i : Int) w' => ∃ dn rest, P = dn ++ rest ∧ i = (dn.length : Int) ∧ plainF P = plainF rest ∧ St w w' []) (fun i _ => ((P.length : Int) - i).toNat) ⟨[], P, rfl, rfl, rfl, h.all⟩ ?_
  rintro _ w6 ⟨dn, rest, hl, rfl, hd, h⟩ C hC
  cases rest with
  | nil =>
    refine iteB_f (by simp only [decide_eq_false_iff_not]; rw [hpn, hl]; simp) ?_
    rw [hd] at hc; exact hc _ h
  | cons f rest =>
    have hlen2 : P.length = dn.length + (rest.length + 1) := by rw [hl]; simp
    have hw1 : IntKind.wrap .i64 ((dn.length : Int) + 1) = ((dn ++ [f]).length : Int) := by rw [wrap_id ⟨by omega, by omega⟩]; simp
    have hx : P[dn.length]? = some f := by rw [hl]; simp
    have hmem := List.mem_of_getElem? hx
    have hcd := (hF.code f hmem).2
    have hcl := hcd.len
    have hfc := hfew.c f hmem
    refine iteB_t (by simp only [decide_eq_true_eq]; omega) ?_
    refine ixR_h (e := FnR.cells f) hF.rws h (by omega) (by rw [List.getElem?_map, Int.toNat_natCast, hx]; rfl) fun p hp => ldA_c (e := FnR.cells f) rfl (fun j v => hp h) ?_
    refine newC_h h fun g8 w9 h => stW_h (g := g8) h rfl rfl (by intro v hv; simp [FnR.cells] at hv; rcases hv with rfl | rfl <;> rfl) fun w10 h => ldS_h (g := g8) (o := 1) h rfl ?_
    refine loopP_of (fun (i : Int) w' => ∃ dn2 rest2, f.code = dn2 ++ rest2 ∧ i = (dn2.length : Int) ∧ f.code.all plainI = rest2.all plainI ∧ St w w' []) (fun i _ => ((f.code.length : Int) - i).toNat) ⟨[], f.code, rfl, rfl, rfl, h.all⟩ ?_
    rintro _ w15 ⟨dn2, rest2, hl2, rfl, hd2, h⟩ C2 hC2
    cases rest2 with
    | nil =>
      refine iteB_f (by simp only [decide_eq_false_iff_not]; rw [hcl, hl2]; simp) ?_
      rw [hw1]
      refine hC _ _ ⟨dn ++ [f], rest, by rw [hl]; simp, rfl, ?_, h⟩ (by simp; omega)
      rw [hd]; unfold plainF; rw [List.all_cons, hd2]; simp
    | cons x rest2 =>
      have hlen3 : f.code.length = dn2.length + (rest2.length + 1) := by rw [hl2]; simp
      have hw3 : IntKind.wrap .i64 ((dn2.length : Int) + 1) = ((dn2 ++ [x]).length : Int) := by rw [wrap_id ⟨by omega, by omega⟩]; simp
      have hx2 : f.code[dn2.length]? = some x := by rw [hl2]; simp
      refine iteB_t (by simp only [decide_eq_true_eq]; omega) ?_
      refine ixC_h hcd h (by omega) hx2 fun p h5 hp => ldA_c (by simp [Go.Ev.ints, h5]) (fun j v => hp h) ?_
      refine newC_h h fun g w6 h => stW_h (g := g) h rfl (by simp [Go.Ev.ints, h5]) (one_agI _) fun w7 h => ?_
      refine plain_bit h h5 fun b hb => ?_
      subst hb
      refine iteB_i (fun hb => ?_) fun hb => ?_
      · have hb' : plainI x = false := by simpa using hb
        have e : plainF (f :: rest) = false := by unfold plainF; rw [List.all_cons, hd2, List.all_cons, hb']; rfl
        rw [hd, e] at hc; exact hc _ h.all
      · have hb' : plainI x = true := by simpa using hb
        rw [hw3]
        refine hC2 _ _ ⟨dn2 ++ [x], rest2, by rw [hl2]; simp, rfl, ?_, h.all⟩ (by simp; omega)
        rw [hd2, List.all_cons, hb']; rfl
/-! ### the law -/
theorem shapes_pos : ∀ {l : List FnR} {k : Nat} {x : Int × Int × Int}, shapes k l = some x → x.2.2 ≠ 0
  | [], _, _, h => by cases h
  | f :: l, k, x, h => by
    unfold shapes at h
    split at h
    · rename_i hb; cases h; simpa using hb
    · exact shapes_pos h
theorem progF_zero (P : List FnR) : decide (tri (progF P) = [0, 0, 0]) = ((progF P).2.2 == 0) := by
  rw [Bool.eq_iff_iff, decide_eq_true_eq, beq_iff_eq]
  constructor
  · intro h; unfold tri at h; simp at h; exact h.2.2
  · intro h
    unfold progF at h ⊢
    split
    · rename_i hq; rw [if_pos hq] at h; simp at h
    · rename_i hq
      rw [if_neg hq] at h
      cases hs : shapes 0 P with
      | some x => rw [hs] at h; exact (shapes_pos hs h).elim
      | none =>
        rw [hs] at h
        simp only at h ⊢
        split
        · rename_i hq2; rw [if_pos hq2] at h; simp at h
        · rename_i hq2
          rw [if_neg hq2] at h
          cases hf : faults P 0 P with
          | none => rfl
          | some x =>
            obtain ⟨a, i, e⟩ := x
            rw [hf] at h
            simp only at h
            obtain ⟨m, f, _, _, hfl⟩ := faults_some hf
            exact (funcFault_some hfl h).elim
end Go.Proofs.Ytgkfbagclkjilaa.Ck

namespace Go.Proofs.Ytgkfbagclkjilaa.Ck
open Go Go.Ev Go.Proofs

structure Acc (P : List FnR) (f : FnR) : Prop where
  n0 : 0 ≤ f.needs
  n1 : f.needs ≤ 255
  l0 : 1 ≤ f.code.length
  l1 : f.code.length ≤ 128
  ok : ∀ x ∈ f.code, chk x = 0
  good : ∀ i x, f.code[i]? = some x → wrongF P f.code.length (depths 0 f.code) (heldL f.code f.needs) i x = 0
structure Accs (P : List FnR) : Prop where
  n0 : 1 ≤ P.length
  n1 : P.length ≤ 32
  root : needsOf P 0 = 0
  all : ∀ f ∈ P, Acc P f
theorem funcFault_none {P : List FnR} {n : Nat} {D H : List Int} : ∀ {l : List (List Int)} {i : Nat}, funcFault P n D H i l = none ↔ ∀ j x, l[j]? = some x → wrongF P n D H (i + j) x = 0
  | [], i => by simp [funcFault]
  | y :: l, i => by
    unfold funcFault
    split
    · rename_i hb
      refine ⟨fun h => (by cases h), fun h => ?_⟩
      have := h 0 y rfl
      rw [Nat.add_zero] at this
      rw [this] at hb; cases hb
    · rename_i hb
      rw [funcFault_none]
      refine ⟨fun h j x hx => ?_, fun h j x hx => ?_⟩
      · cases j with
        | zero => simp at hx; subst hx; simpa using hb
        | succ j => rw [show i + (j + 1) = i + 1 + j by omega]; exact h j x (by simpa using hx)
      · rw [show i + 1 + j = i + (j + 1) by omega]; exact h (j + 1) x (by simpa using hx)
theorem faults_none {P : List FnR} : ∀ {l : List FnR} {k : Nat}, faults P k l = none ↔ ∀ f ∈ l, fault1 P f = none
  | [], k => by simp [faults]
  | g :: l, k => by
    unfold faults
    cases h : fault1 P g with
    | some q =>
      obtain ⟨i, e⟩ := q
      simp only
      exact ⟨fun h => (by cases h), fun h2 => (by have := h2 g (by simp); rw [h] at this; cases this)⟩
    | none =>
      simp only
      rw [faults_none]
      refine ⟨fun h2 f hf => ?_, fun h2 f hf => h2 f (by simp [hf])⟩
      rcases List.mem_cons.1 hf with rfl | hf
      · exact h
      · exact h2 f hf
theorem firstBad_of : ∀ {l : List (List Int)} {i : Nat}, (∀ x ∈ l, chk x = 0) → (firstBad i l).2 = 0
  | [], _, _ => rfl
  | y :: l, i, h => by
    unfold firstBad
    rw [if_neg (by rw [h y (by simp)]; simp)]
    exact firstBad_of fun x hx => h x (by simp [hx])
theorem shapes_of : ∀ {l : List FnR} {k : Nat}, (∀ f ∈ l, (shapeF f.needs f.code).2 = 0) → shapes k l = none
  | [], _, _ => rfl
  | y :: l, k, h => by
    unfold shapes
    rw [if_neg (by rw [h y (by simp)]; simp)]
    exact shapes_of fun x hx => h x (by simp [hx])
theorem accs_iff {P : List FnR} : (progF P).2.2 = 0 ↔ Accs P := by
  constructor
  · intro h
    unfold progF at h
    split at h
    · exfalso; dsimp only at h; omega
    · rename_i hno
      simp only [Bool.or_eq_true, decide_eq_true_eq, not_or] at hno
      cases hs : shapes 0 P with
      | some x => rw [hs] at h; exact (shapes_pos hs h).elim
      | none =>
        rw [hs] at h
        simp only at h
        split at h
        · exfalso; dsimp only at h; omega
        · rename_i hn0
          cases hf : faults P 0 P with
          | some x =>
            obtain ⟨a, i, e⟩ := x
            rw [hf] at h
            simp only at h
            obtain ⟨m, f, _, _, hfl⟩ := faults_some hf
            exact (funcFault_some hfl h).elim
          | none =>
            refine ⟨by omega, by omega, by simpa using hn0, fun f hm => ?_⟩
            obtain ⟨a, b, c, d, e⟩ := shape_zero (shapes_none hs f hm)
            refine ⟨a, b, c, d, e, fun i x hx => ?_⟩
            have h1 := faults_none.1 hf f hm
            unfold fault1 at h1
            have := funcFault_none.1 h1 i x hx
            rwa [Nat.zero_add] at this
  · intro h
    have hs : shapes 0 P = none := shapes_of fun f hf => by
      have := h.all f hf
      have hn0 := this.n0; have hn1 := this.n1; have hl0 := this.l0; have hl1 := this.l1
      unfold shapeF
      rw [if_neg (by simp only [Bool.or_eq_true, decide_eq_true_eq]; omega), if_neg (by simp only [Bool.or_eq_true, decide_eq_true_eq]; omega)]
      exact firstBad_of this.ok
    have hf : faults P 0 P = none := faults_none.2 fun f hf => by
      unfold fault1
      exact funcFault_none.2 fun j x hx => by rw [Nat.zero_add]; exact (h.all f hf).good j x hx
    have hn0 := h.n0; have hn1 := h.n1
    unfold progF
    rw [if_neg (by simp only [Bool.or_eq_true, decide_eq_true_eq]; omega), hs]
    simp only
    rw [if_neg (by rw [h.root]; simp), hf]
/-- what an instruction does that is right -/
structure Good (P : List FnR) (n : Nat) (D H : List Int) (i : Nat) (x : List Int) : Prop where
  places : placesB P.length n x = false
  last : lastB n i x = false
  scopes : scopesOk D i x = true
  handles : handlesOk P (H.getD i 0) x = true
theorem good_iff {P : List FnR} {n : Nat} {D H : List Int} {i : Nat} {x : List Int} : wrongF P n D H i x = 0 ↔ Good P n D H i x := by
  constructor
  · intro h
    cases h1 : placesB P.length n x with
    | true => rw [wrong_1 h1] at h; cases h
    | false =>
      cases h2 : lastB n i x with
      | true => rw [wrong_2 h1 h2] at h; cases h
      | false =>
        cases h3 : scopesOk D i x with
        | false => rw [wrong_3 h1 h2 h3] at h; cases h
        | true =>
          cases h4 : handlesOk P (H.getD i 0) x with
          | false => rw [wrong_4 h1 h2 h3, h4] at h; simp at h
          | true => exact ⟨h1, h2, h3, h4⟩
  · rintro ⟨h1, h2, h3, h4⟩
    rw [wrong_4 h1 h2 h3, h4]; rfl

/-! ### depths, one behind the other -/
theorem depths_step : ∀ {l : List (List Int)} {n : Int} {i : Nat}, i + 1 < l.length → (depths n l).getD (i + 1) 0 = stepD ((depths n l).getD i 0) (l.getD i [])
  | [], _, _, h => by simp at h
  | [x], _, i, h => by simp at h
  | x :: y :: l, n, 0, _ => by simp [depths]
  | x :: y :: l, n, i + 1, h => by
    have := depths_step (l := y :: l) (n := stepD n x) (i := i) (by simpa using h)
    simp only [depths, List.getD_cons_succ] at this ⊢
    exact this
/-- the state of a walk: what is held, how many scopes are open, where it is -/
structure Walk (P : List FnR) (f : FnR) (hv op at' : Int) : Prop where
  a0 : 0 ≤ at'
  a1 : at' < f.code.length
  inI : InI hv
  bits : ∀ h : Nat, h < 8 → tb hv h = false → tb f.needs h = false ∧ Way f.code h at'
  open' : op = (depths 0 f.code).getD at'.toNat 0
section
variable {P : List FnR} {f : FnR} {hv op at' : Int} {x : List Int}
theorem walk_good (hA : Acc P f) (hW : Walk P f hv op at') (hx : f.code[at'.toNat]? = some x) : Good P f.code.length (depths 0 f.code) (heldL f.code f.needs) at'.toNat x := good_iff.1 (hA.good _ _ hx)
theorem walk_held (hW : Walk P f hv op at') {h : Nat} (hh : h < 8) (ht : tb ((heldL f.code f.needs).getD at'.toNat 0) h = true) : tb hv h = true := by
  have h0 := hW.a0; have h1 := hW.a1
  rw [heldL_get (by omega), tb_rs hh, Int.toNat_of_nonneg h0] at ht
  cases q : tb hv h with
  | true => rfl
  | false =>
    obtain ⟨b1, b2⟩ := hW.bits h hh q
    rcases heldB_iff.1 ht with r | r
    · rw [b1] at r; cases r
    · exact (r b2).elim
/-- a step to a place that comes behind -/
theorem walk_to (hn : f.code.length ≤ 128) (hW : Walk P f hv op at') (hx : f.code[at'.toNat]? = some x) {z : Int} {hv' op' : Int} (hz : z ∈ behind f.code.length at' x) (hI : InI hv')
    (hb : ∀ h : Nat, h < 8 → tb hv' h = false → tb hv h = false ∧ forks x h = false) (ho : op' = (depths 0 f.code).getD z.toNat 0) : Walk P f hv' op' z := by
  have h0 := hW.a0; have h1 := hW.a1
  have hin := behind_in (x := x) (n := f.code.length) (i := at') (by omega) h0 h1 z hz
  have hg : f.code.getD at'.toNat [] = x := by simp [hx]
  refine ⟨hin.1, hin.2, hI, fun h hh ht => ?_, ho⟩
  obtain ⟨b1, b2⟩ := hb h hh ht
  obtain ⟨c1, c2⟩ := hW.bits h hh b1
  exact ⟨c1, c2.next (by rw [hg]; exact b2) (by rw [hg]; exact hz)⟩
theorem behind_next (hA : Acc P f) (hW : Walk P f hv op at') (hx : f.code[at'.toNat]? = some x) (h6 : opI x ≠ 6) (h15 : opI x ≠ 15) (h16 : opI x ≠ 16) : at' + 1 ∈ behind f.code.length at' x ∧ at' + 1 < f.code.length := by
  have h0 := hW.a0; have h1 := hW.a1; have hl := hA.l1
  have hg := walk_good hA hW hx
  have he : isEnds x = false := by unfold isEnds; rw [show (opI x == 16) = false by simpa using h16, show (opI x == 15) = false by simpa using h15]; rfl
  have h6' : (opI x != 6) = true := by simpa using h6
  have hlt : at' + 1 < f.code.length := by
    have := hg.last
    unfold lastB at this
    rw [he, h6'] at this
    simp only [Bool.and_true, Bool.not_false, beq_eq_false_iff_ne, ne_eq] at this
    omega
  have hw : IntKind.wrap .i64 (at' + 1) = at' + 1 := wrap_id ⟨by omega, by omega⟩
  refine ⟨?_, hlt⟩
  unfold behind
  have hB : yB f.code.length at' x = true := by unfold yB; rw [he, h6', hw, decide_eq_true hlt]; rfl
  rw [if_pos hB, hw]; simp
theorem behind_goes (hA : Acc P f) (hW : Walk P f hv op at') (hx : f.code[at'.toNat]? = some x) (hgo : isGoes x = true) : x.getD 4 0 ∈ behind f.code.length at' x := by
  have hg := walk_good hA hW hx
  have h1 := (places_in hg.places).1 hgo
  have h2 := (chk0 (hA.ok x (List.mem_of_getElem? hx))).2.2.1 hgo
  unfold behind
  have hB : yA f.code.length x = true := by unfold yA; rw [hgo, decide_eq_true ⟨h2.1, h1⟩]; rfl
  rw [if_pos hB]; simp
theorem depth_next (hW : Walk P f hv op at') (hx : f.code[at'.toNat]? = some x) (hlt : at' + 1 < f.code.length) : (depths 0 f.code).getD (at' + 1).toNat 0 = stepD op x := by
  have h0 := hW.a0
  have e : (at' + 1).toNat = at'.toNat + 1 := by omega
  have hg : f.code.getD at'.toNat [] = x := by simp [hx]
  rw [e, depths_step (by omega), hg, ← hW.open']
theorem forks_not {h : Int} (h8 : opI x ≠ 8) : forks x h = false := by
  unfold forks; rw [show (opI x == 8) = false by simpa using h8]; rfl
/-- the next one -/
theorem walk_next (hA : Acc P f) (hW : Walk P f hv op at') (hx : f.code[at'.toNat]? = some x) (h6 : opI x ≠ 6) (h15 : opI x ≠ 15) (h16 : opI x ≠ 16) (h8 : opI x ≠ 8) : Walk P f hv (stepD op x) (at' + 1) := by
  obtain ⟨hz, hlt⟩ := behind_next hA hW hx h6 h15 h16
  exact walk_to hA.l1 hW hx hz hW.inI (fun h hh ht => ⟨ht, forks_not h8⟩) (depth_next hW hx hlt).symm
theorem walk_goes (hA : Acc P f) (hW : Walk P f hv op at') (hx : f.code[at'.toNat]? = some x) (hgo : isGoes x = true) : Walk P f hv op (x.getD 4 0) := by
  have hg := walk_good hA hW hx
  have ho : opI x = 6 ∨ opI x = 7 := by unfold isGoes at hgo; simpa using hgo
  have h8 : opI x ≠ 8 := by omega
  refine walk_to hA.l1 hW hx (behind_goes hA hW hx hgo) hW.inI (fun h hh ht => ⟨ht, forks_not h8⟩) ?_
  have := hg.scopes
  unfold scopesOk at this
  rw [if_neg (by rcases ho with ho | ho <;> rw [ho] <;> decide), if_neg (by rcases ho with ho | ho <;> rw [ho] <;> decide), if_pos hgo] at this
  rw [hW.open']
  exact (by simpa using this : _ = _).symm
end
end Go.Proofs.Ytgkfbagclkjilaa.Ck

namespace Go.Proofs.Ytgkfbagclkjilaa.Ck
open Go Go.Ev Go.Proofs

theorem wrapU {a : Int} (h0 : 0 ≤ a) (h1 : a < 8) : IntKind.wrap .u64 a = a := by
  have e : ∀ m : Nat, m < 8 → IntKind.wrap .u64 (m : Int) = (m : Int) := by decide
  have := e a.toNat (by omega)
  rwa [Int.toNat_of_nonneg h0] at this
theorem inI_or (x y : Int) : InI (orI .i64 x y) := by rw [orI_bv]; exact inI_toInt _
theorem stepD_same {op : Int} {x : List Int} (h11 : opI x ≠ 11) (h12 : opI x ≠ 12) : stepD op x = op := by unfold stepD; rw [if_neg h11, if_neg h12]
theorem walk_start {P : List FnR} {f : FnR} (hA : Acc P f) (hN : InI f.needs) : Walk P f f.needs 0 0 := by
  have := hA.l0
  refine ⟨by omega, by omega, hN, fun h hh ht => ⟨ht, .zero⟩, ?_⟩
  cases hc : f.code with
  | nil => rw [hc] at this; simp at this
  | cons x l => rfl

end Go.Proofs.Ytgkfbagclkjilaa.Ck
