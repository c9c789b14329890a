/-
  Layer 9: what a copying moves.
-/
import Derived.Test.YteipigpapliagaaRh
set_option linter.unusedSimpArgs false
set_option linter.unusedVariables false
set_option maxRecDepth 100000
namespace Go.Proofs.Yteipigpapliagaa
open Go Go.Ev Go.Proofs

/-! ### places that are filled -/
def nz (l : List Int) : Nat := l.countP fun x => x != 0
def fillP (cs : List Int) (P : Nat → Nat) (l : List Int) (k : Nat) : List Int := (List.range k).foldl (fun cs i => cs.set (P i) (l.getD i 0)) cs
theorem fillP_succ {cs : List Int} {P : Nat → Nat} {l : List Int} {k : Nat} : fillP cs P l (k + 1) = (fillP cs P l k).set (P k) (l.getD k 0) := by
  unfold fillP; rw [List.range_succ, List.foldl_append]; rfl
theorem fillP_len {cs : List Int} {P : Nat → Nat} {l : List Int} {k : Nat} : (fillP cs P l k).length = cs.length := by
  induction k with
  | zero => rfl
  | succ k ih => rw [fillP_succ, List.length_set, ih]
theorem fillP_old {cs : List Int} {P : Nat → Nat} {l : List Int} {k p : Nat} (h : ∀ i, i < k → P i ≠ p) : (fillP cs P l k).getD p 0 = cs.getD p 0 := by
  induction k with
  | zero => rfl
  | succ k ih => rw [fillP_succ, Go.Ev.getD_set_ne (h k (by omega)), ih fun i hi => h i (by omega)]
theorem fillP_new {cs : List Int} {P : Nat → Nat} {l : List Int} {k i : Nat} (hinj : ∀ i j, i < k → j < k → P i = P j → i = j) (hlt : ∀ i, i < k → P i < cs.length) (hi : i < k) : (fillP cs P l k).getD (P i) 0 = l.getD i 0 := by
  induction k with
  | zero => omega
  | succ k ih =>
    rw [fillP_succ]
    by_cases h : i = k
    · subst h; rw [Go.Ev.getD_set_eq (by rw [fillP_len]; exact hlt i hi)]
    · rw [Go.Ev.getD_set_ne fun e => h (hinj i k hi (by omega) e.symm), ih (fun a b ha hb => hinj a b (by omega) (by omega)) (fun a ha => hlt a (by omega)) (by omega)]
theorem nz_set : ∀ {cs : List Int} {p : Nat} {v : Int}, p < cs.length → cs.getD p 0 = 0 → nz (cs.set p v) = nz cs + if v != 0 then 1 else 0
  | c :: cs, 0, v, _, h => by
    simp at h; subst h
    unfold nz
    rw [List.set_cons_zero, List.countP_cons, List.countP_cons]; simp
  | c :: cs, p + 1, v, hp, h => by
    have := nz_set (cs := cs) (p := p) (v := v) (by simpa using hp) (by simpa using h)
    unfold nz at *
    rw [List.set_cons_succ, List.countP_cons, List.countP_cons, this]; omega
theorem nz_take_succ {l : List Int} {k : Nat} (h : k < l.length) : nz (l.take (k + 1)) = nz (l.take k) + if l.getD k 0 != 0 then 1 else 0 := by
  unfold nz
  rw [List.take_add_one, List.countP_append, List.getElem?_eq_getElem h]
  simp [List.countP_cons, List.getD_eq_getElem?_getD, h]
theorem fillP_nz {cs : List Int} {P : Nat → Nat} {l : List Int} {k : Nat} (hinj : ∀ i j, i < k → j < k → P i = P j → i = j) (hlt : ∀ i, i < k → P i < cs.length) (h0 : ∀ i, i < k → cs.getD (P i) 0 = 0) (hk : k ≤ l.length) :
    nz (fillP cs P l k) = nz cs + nz (l.take k) := by
  induction k with
  | zero => simp [fillP, nz]
  | succ k ih =>
    rw [fillP_succ, nz_set (by rw [fillP_len]; exact hlt k (by omega)) (by rw [fillP_old fun i hi e => by have := hinj i k (by omega) (by omega) e; omega]; exact h0 k (by omega)),
      ih (fun a b ha hb => hinj a b (by omega) (by omega)) (fun a ha => hlt a (by omega)) (fun a ha => h0 a (by omega)) (by omega), nz_take_succ (by omega)]
    omega
theorem nz_le (l : List Int) : nz l ≤ l.length := List.countP_le_length

theorem place_inj {r : Rg} {from_ : Int} {n i j : Nat} (h : r.right = true) (hn : (n : Int) ≤ r.size) (hi : i < n) (hj : j < n) (e : (r.place (from_ + i)).toNat = (r.place (from_ + j)).toNat) : i = j := by
  have hr := Rg.right_out h
  have es : r.size = r.pw := by unfold Rg.size; rw [if_pos h]
  unfold Rg.place at e
  rw [if_pos h, if_pos h] at e
  have m1 := Int.emod_nonneg (from_ + i) (show ((r.pw : Nat) : Int) ≠ 0 by omega)
  have m2 := Int.emod_nonneg (from_ + j) (show ((r.pw : Nat) : Int) ≠ 0 by omega)
  have e' : (from_ + i) % ((r.pw : Nat) : Int) = (from_ + j) % ((r.pw : Nat) : Int) := by omega
  rw [Int.emod_eq_emod_iff_emod_sub_eq_zero] at e'
  have hd := Int.dvd_of_emod_eq_zero e'
  have : from_ + (i : Int) - (from_ + j) = 0 := by
    obtain ⟨q, hq⟩ := hd
    rcases Int.lt_trichotomy q 0 with hq0 | hq0 | hq0
    · have := Int.mul_le_mul_of_nonneg_left (show q ≤ -1 by omega) (show (0 : Int) ≤ (r.pw : Nat) by omega)
      omega
    · rw [hq0] at hq; omega
    · have := Int.mul_le_mul_of_nonneg_left (show 1 ≤ q by omega) (show (0 : Int) ≤ (r.pw : Nat) by omega)
      omega
  omega
theorem place_in {r : Rg} {i : Int} (h : r.right = true) : r.At ≤ r.place i ∧ r.place i < r.At + r.size := by
  have hr := Rg.right_out h
  have es : r.size = r.pw := by unfold Rg.size; rw [if_pos h]
  unfold Rg.place
  rw [if_pos h]
  have m1 := Int.emod_nonneg i (show ((r.pw : Nat) : Int) ≠ 0 by omega)
  have m2 := Int.emod_lt_of_pos i (show (0 : Int) < (r.pw : Nat) by omega)
  omega

section
variable {w0 w : World} {L : List HP}
theorem law_moves {la lb from_ : Int} {s : Sl} {l : List Int} {k : Bool → World → Prop} (hf : InI from_) (h : St w0 w L) (hR : SlI w0 s l) (hlI : ∀ x ∈ l, InI x) (hk : ∀ w', St w0 w' L → k true w') :
    pelotonlaw09_RingMoves #[.int .i64 la, .int .i64 lb] from_ s w k := by
  unfold pelotonlaw09_RingMoves pelotonlaw09_RingMoves_b
  have hlen := SlI.len hR
  refine newC_h h fun g1 w1 hS => ?_
  have hfin : ∀ {w' : World} {L' : List HP}, St w0 w' (L' ++ L) → St w0 w' L := by
    intro w' L' hS
    have : ∀ (L' : List HP), St w0 w' (L' ++ L) → St w0 w' L := by
      intro L'
      induction L' with
      | nil => exact id
      | cons x l ih => intro h; exact ih h.drop
    exact this _ hS
  have fin : ∀ {w' : World} {L' : List HP}, St w0 w' (L' ++ L) → pelotonlaw09_awake w' fun b w'' => k b w'' := by
    intro w' L' hS
    exact awake9_s hS fun w'' hS => hk _ (hfin hS)
  refine joinP_i (fun y w' => w1 = w' ∧ (y = false → 0 ≤ la ∧ la ≤ 8 ∧ 0 ≤ lb ∧ lb ≤ 8 ∧ l.length ≤ 256 ∧ from_ + l.length ≤ 9223372036854775807)) ?_ ?_
  · intro J hJ
    refine ldI_h hS rfl (iteB_i (fun h1 => hJ _ _ ⟨rfl, by simp⟩) fun h1 => ?_)
    refine ldI_h hS rfl (iteB_i (fun h2 => hJ _ _ ⟨rfl, by simp⟩) fun h2 => ?_)
    refine ldI_h hS rfl (iteB_i (fun h3 => hJ _ _ ⟨rfl, by simp⟩) fun h3 => ?_)
    refine ldI_h hS rfl (hJ _ _ ⟨rfl, fun h4 => ?_⟩)
    simp only [Bool.or_eq_false_iff, decide_eq_false_iff_not] at h1 h2 h3 h4
    have hb : ¬ (((s.n : Nat) : Int) > 256) := h4.1.2
    have h5 := h4.2
    rw [wrap_id ⟨by omega, by omega⟩] at h5
    omega
  rintro y _ ⟨rfl, hy⟩
  refine iteB_i (fun _ => fin (L' := [_]) hS) fun hb => ?_
  obtain ⟨a0, a8, b0, b8, hl256, hov⟩ := hy hb
  have hfl := hf.1
  obtain ⟨sa, ra, pa, qa⟩ := pow_right a0 a8
  obtain ⟨sb, rb, pb, qb⟩ := pow_right b0 b8
  refine cnew_s hS (fun _ gm w2 hS => ?_) fun h => absurd h (by decide)
  refine ldI_h hS rfl ?_
  have ea : (2 ^ la.toNat : Nat) = (2 ^ la.toNat : Nat) := rfl
  generalize hna : (2 ^ la.toNat : Nat) = na at *
  generalize hnb : (2 ^ lb.toNat : Nat) = nb at *
  have e1 : newR (Mac.new 520 1) 0 la = (⟨List.replicate na 0, 520, [1, 0]⟩, ⟨0, la⟩, 0) := by
    unfold newR
    rw [if_pos ⟨a0, a8, by decide⟩, hna, if_pos (by unfold Mac.room Mac.new; rw [decide_eq_true_eq]; simp; omega)]
    unfold Mac.new Mac.tick Mac.grow
    simp; decide
  refine rnew_S (g := gm) (M := Mac.new 520 1) hS ⟨by decide, by decide⟩ fun w3 hS => ?_
  rw [e1] at hS ⊢
  refine box_s (r := ⟨0, la⟩) rfl hS fun ga w4 hS => ?_
  refine ldI_h hS rfl ?_
  have e2 : newR ⟨List.replicate na 0, 520, [1, 0]⟩ 0 lb = (⟨List.replicate (na + nb) 0, 520, [2, 0]⟩, ⟨(na : Int), lb⟩, 0) := by
    unfold newR
    rw [if_pos ⟨b0, b8, rfl⟩, hnb, if_pos (by unfold Mac.room; rw [decide_eq_true_eq]; simp; omega)]
    unfold Mac.tick Mac.grow
    simp; decide
  refine rnew_S (g := gm) (M := ⟨List.replicate na 0, 520, [1, 0]⟩) hS ⟨⟨by show (1 : Int) ≤ 520; omega, by show (520 : Int) ≤ 1048576; omega⟩, by simp; omega⟩ fun w5 hS => ?_
  rw [e2] at hS ⊢
  refine box_s (r := ⟨(na : Int), lb⟩) rfl hS fun gb w6 hS => iteB_f rfl ?_
  -- the two rings
  have hA : (Rg.mk 0 la).right = true := ra
  have hB : (Rg.mk (na : Int) lb).right = true := by
    have hpw : (Rg.mk (na : Int) lb).pw = nb := hnb
    unfold Rg.right
    rw [decide_eq_true_eq, hpw]
    dsimp only
    omega
  have sA : (Rg.mk 0 la).size = na := sa
  have sB : (Rg.mk (na : Int) lb).size = nb := by
    have hpw : (Rg.mk (na : Int) lb).pw = nb := hnb
    unfold Rg.size; rw [if_pos hB, hpw]
  have atA : (Rg.mk 0 la).At = 0 := rfl
  have atB : (Rg.mk (na : Int) lb).At = (na : Int) := rfl
  generalize hAe : (Rg.mk 0 la) = A at *
  generalize hBe : (Rg.mk (na : Int) lb) = B at *
  have hblkA : [Value.int .i64 0, Value.int .i64 la] = [Value.int .i64 A.At, Value.int .i64 A.Log] := by rw [← hAe]
  have hblkB : [Value.int .i64 (na : Int), Value.int .i64 lb] = [Value.int .i64 B.At, Value.int .i64 B.Log] := by rw [← hBe]
  have hwf : IntKind.i64.wrap (from_ + ((s.n : Nat) : Int)) = from_ + l.length := by rw [hlen, wrap_id ⟨by omega, by omega⟩]
  have inA : ∀ i, 0 ≤ A.place i ∧ A.place i < na := fun i => by have := place_in (i := i) hA; omega
  have inB : ∀ i, (na : Int) ≤ B.place i ∧ B.place i < na + nb := fun i => by have := place_in (i := i) hB; omega
  refine ldW_h hS rfl ?_
  refine ldW_h hS rfl ?_
  rw [hwf]
  have hE : begE A B from_ (from_ + l.length) = if (l.length : Int) > na ∨ (l.length : Int) > nb then 10 else 0 := by
    unfold begE
    rw [if_neg (by rw [hA, hB]; simp), sA, sB]
    congr 1
    rw [eq_iff_iff]
    omega
  have hsmall : ∀ (w' : World) (L2 : List HP), St w0 w' (L2 ++ (blk gb [.int .i64 B.At, .int .i64 B.Log] :: mach gm ⟨List.replicate (na + nb) 0, 520, [2, 0]⟩ :: blk ga [.int .i64 A.At, .int .i64 A.Log] :: blk g1 [.int .i64 la, .int .i64 lb] :: L)) → True := fun _ _ _ => trivial
  refine copy_s (a := A) (b := B) hf ⟨by omega, by omega⟩ hS (fun hE0 gc w7 hS => ?_) fun hE0 w7 hS => ?_
  rotate_left
  · -- too many
    have hbig : (l.length : Int) > na ∨ (l.length : Int) > nb := by
      by_cases hh : (l.length : Int) > na ∨ (l.length : Int) > nb
      · exact hh
      · rw [hE, if_neg hh] at hE0; exact absurd rfl hE0
    refine joinP_i (fun y w' => y = true ∧ St w0 w' L) ?_ ?_
    · intro J hJ
      refine ldW_h hS rfl ?_
      refine size_s (r := A) hS fun w8 hS => ?_
      rw [hlen, sA]
      refine iteB_i (fun h1 => hJ _ _ ⟨rfl, hfin (L' := [_, _, _, _]) hS⟩) fun h1 => ?_
      rw [decide_eq_false_iff_not] at h1
      refine ldW_h hS rfl ?_
      refine size_s (r := B) hS fun w9 hS => hJ _ _ ⟨?_, hfin (L' := [_, _, _, _]) hS⟩
      rw [sB, decide_eq_true_eq]; omega
    rintro _ w8 ⟨rfl, hS⟩
    rw [hE, if_pos hbig]
    exact iteB_t rfl (iteB_t rfl (awake9_s hS hk))
  have hfit : (l.length : Int) ≤ na ∧ (l.length : Int) ≤ nb := by
    by_cases hh : (l.length : Int) > na ∨ (l.length : Int) > nb
    · rw [hE, if_pos hh] at hE0; omega
    · omega
  generalize hrest : blk g1 [Value.int .i64 la, Value.int .i64 lb] :: L = R at *
  have hRL : ∀ {w' : World} {L' : List HP}, St w0 w' (L' ++ R) → pelotonlaw09_awake w' fun b w'' => k b w'' := by
    intro w' L' hS
    rw [← hrest] at hS
    refine fin (L' := L' ++ [blk g1 [Value.int .i64 la, Value.int .i64 lb]]) (by rw [List.append_assoc]; exact hS)
  have hS : St w0 w7 (cpy gc (Cp.begin A B from_ (from_ + l.length)) :: mach gm ⟨List.replicate (na + nb) 0, 520, [2, 0]⟩ :: blk gb [.int .i64 B.At, .int .i64 B.Log] :: blk ga [.int .i64 A.At, .int .i64 A.Log] :: R) := by
    have h2 := hS.front 3 rfl
    simp only [List.eraseIdx] at h2
    have h3 := h2.front 1 rfl
    simp only [List.eraseIdx] at h3
    exact h3
  generalize hZ : List.replicate (na + nb) (0 : Int) = Z at *
  have hZl : Z.length = na + nb := by rw [← hZ]; simp
  have hZ0 : ∀ p, Z.getD p 0 = 0 := by intro p; rw [← hZ, List.getD_eq_getElem?_getD, List.getElem?_replicate]; split <;> rfl
  have hZn : nz Z = 0 := by
    rw [← hZ]; unfold nz
    rw [List.countP_eq_zero]
    intro x hx; rw [(List.mem_replicate.1 hx).2]; simp
  refine joinP_i (fun y w' => y = false ∧ St w0 w' (cpy gc (Cp.begin A B from_ (from_ + l.length)) :: mach gm ⟨Z, 520, [2, 0]⟩ :: blk gb [.int .i64 B.At, .int .i64 B.Log] :: blk ga [.int .i64 A.At, .int .i64 A.Log] :: R)) ?_ ?_
  · intro J hJ
    refine ldW_h hS rfl ?_
    refine size_s (r := A) hS fun w8 hS => iteB_f (by rw [decide_eq_false_iff_not, hlen, sA]; omega) ?_
    refine ldW_h hS rfl ?_
    exact size_s (r := B) hS fun w9 hS => hJ _ _ ⟨by rw [decide_eq_false_iff_not, hlen, sB]; omega, hS⟩
  rintro _ w8 ⟨rfl, hS⟩
  refine iteB_f rfl (iteB_f rfl ?_)
  rw [hlen]
  -- what lies where
  generalize hPa : (fun i : Nat => (A.place (from_ + i)).toNat) = Pa
  generalize hPb : (fun i : Nat => (B.place (from_ + i)).toNat) = Pb
  have ePa : ∀ i : Nat, Pa i = (A.place (from_ + i)).toNat := fun i => by rw [← hPa]
  have ePb : ∀ i : Nat, Pb i = (B.place (from_ + i)).toNat := fun i => by rw [← hPb]
  have injA : ∀ i j, i < l.length → j < l.length → Pa i = Pa j → i = j := fun i j hi hj e => by rw [ePa, ePa] at e; exact place_inj hA (by omega) hi hj e
  have injB : ∀ i j, i < l.length → j < l.length → Pb i = Pb j → i = j := fun i j hi hj e => by rw [ePb, ePb] at e; exact place_inj hB (by omega) hi hj e
  have ltA : ∀ i, Pa i < na := fun i => by rw [ePa]; have := inA (from_ + i); omega
  have geB : ∀ i, na ≤ Pb i ∧ Pb i < na + nb := fun i => by rw [ePb]; have := inB (from_ + i); omega
  have hwi : ∀ i : Nat, i ≤ 600 → IntKind.i64.wrap ((i : Int) + 1) = ((i + 1 : Nat) : Int) := fun i hi => by rw [wrap_id ⟨by omega, by omega⟩]; simp
  have hwfi : ∀ i : Nat, i ≤ l.length → IntKind.i64.wrap (from_ + (i : Int)) = from_ + i := fun i hi => wrap_id ⟨by omega, by omega⟩
  -- the stores
  refine joinP_i (fun _ w' => St w0 w' (cpy gc (Cp.begin A B from_ (from_ + l.length)) :: mach gm ⟨fillP Z Pa l l.length, 520, [2, (l.length : Int)]⟩ :: blk gb [.int .i64 B.At, .int .i64 B.Log] :: blk ga [.int .i64 A.At, .int .i64 A.Log] :: R)) ?_ ?_
  · intro J hJ
    refine loopP_of (fun (x : Int) w' => ∃ i : Nat, x = (i : Int) ∧ i ≤ l.length ∧ St w0 w' (cpy gc (Cp.begin A B from_ (from_ + l.length)) :: mach gm ⟨fillP Z Pa l i, 520, [2, (i : Int)]⟩ :: blk gb [.int .i64 B.At, .int .i64 B.Log] :: blk ga [.int .i64 A.At, .int .i64 A.Log] :: R)) (fun x _ => (l.length - x).toNat) ⟨0, rfl, by omega, hS⟩ ?_
    rintro _ w9 ⟨i, rfl, hi, hS⟩ C hC
    refine iteB_i (fun hlt => ?_) fun hge => ?_
    · rw [decide_eq_true_eq] at hlt
      refine drew_h hS fun w10 hS => ?_
      refine ldW_h hS rfl ?_
      refine ixB_h hR hS (by omega) (by omega) fun p hp => ldI_i (hp hS) ?_
      rw [hwfi i hi]
      refine place_s (r := A) hS fun w11 hS11 => samec_1 (hp hS) (hp hS11) ?_
      have hin := inA (from_ + (i : Int))
      refine store_s (g := gm) (M := ⟨fillP Z Pa l i, 520, [2, (i : Int)]⟩) hS11 (fun _ w12 hS => iteB_f rfl (hC _ _ ⟨i + 1, hwi i (by omega), by omega, ?_⟩ (by rw [hwi i (by omega)]; omega))) fun hcan => ?_
      · have e : ((Mac.tick ⟨fillP Z Pa l i, 520, [2, (i : Int)]⟩ 1).put (A.place (from_ + (i : Int))) (l.getD ((i : Nat) : Int).toNat 0)) = ⟨fillP Z Pa l (i + 1), 520, [2, ((i + 1 : Nat) : Int)]⟩ := by
          unfold Mac.tick Mac.put
          rw [fillP_succ, ePa]
          simp only [Int.toNat_natCast]
          congr 1
          show [2, IntKind.i64.wrap ((i : Int) + 1)] = _
          rw [hwi i (by omega)]
        rw [e] at hS; exact hS
      · have hc : Mac.can ⟨fillP Z Pa l i, 520, [2, (i : Int)]⟩ 1 (A.place (from_ + (i : Int))) = true := by
          unfold Mac.can Mac.caller Mac.given
          rw [Bool.and_eq_true, decide_eq_true_eq, decide_eq_true_eq]
          refine ⟨by simp, by omega, ?_⟩
          dsimp only
          rw [fillP_len, hZl]; omega
        rw [hc] at hcan; cases hcan
    · rw [decide_eq_false_iff_not] at hge
      have : i = l.length := by omega
      subst this
      exact hJ _ _ hS
  intro _ w9 hS
  generalize hC1 : fillP Z Pa l l.length = C1 at *
  have hC1l : C1.length = na + nb := by rw [← hC1, fillP_len, hZl]
  have hC1a : ∀ i, i < l.length → C1.getD (Pa i) 0 = l.getD i 0 := fun i hi => by rw [← hC1, fillP_new injA (fun j _ => by rw [hZl]; have := ltA j; omega) hi]
  have hC1b : ∀ p, na ≤ p → C1.getD p 0 = 0 := fun p hp => by rw [← hC1, fillP_old (fun i _ e => by have := ltA i; omega), hZ0]
  have hC1n : nz C1 = nz l := by rw [← hC1, fillP_nz injA (fun j _ => by rw [hZl]; have := ltA j; omega) (fun j _ => hZ0 _) (Nat.le_refl _), hZn, List.take_length]; omega
  refine steps_s (g := gm) (M := ⟨C1, 520, [2, (l.length : Int)]⟩) hS ?_
  have hwas : (if Mac.caller ⟨C1, 520, [2, (l.length : Int)]⟩ 0 then [2, (l.length : Int)].getD (0 : Int).toNat 0 else 0) = 2 := by
    unfold Mac.caller; simp
  rw [hwas]
  -- the steps
  have h2n : IntKind.i64.wrap (2 * ((l.length : Nat) : Int)) = ((2 * l.length : Nat) : Int) := by rw [wrap_id ⟨by omega, by omega⟩]; simp
  rw [h2n]
  have hcanA : ∀ (j m : Nat), Mac.can ⟨fillP C1 Pb l j, 520, [(m : Int), (l.length : Int)]⟩ 0 (A.place (from_ + (j : Int))) = true := by
    intro j m
    have hin := inA (from_ + (j : Int))
    unfold Mac.can Mac.caller Mac.given
    rw [Bool.and_eq_true, decide_eq_true_eq, decide_eq_true_eq]
    refine ⟨by simp, by omega, ?_⟩
    dsimp only
    rw [fillP_len, hC1l]; omega
  have hcanB : ∀ (j m : Nat), Mac.can ⟨fillP C1 Pb l j, 520, [(m : Int), (l.length : Int)]⟩ 0 (B.place (from_ + (j : Int))) = true := by
    intro j m
    have hin := inB (from_ + (j : Int))
    unfold Mac.can Mac.caller Mac.given
    rw [Bool.and_eq_true, decide_eq_true_eq, decide_eq_true_eq]
    refine ⟨by simp, by omega, ?_⟩
    dsimp only
    rw [fillP_len, hC1l]; omega
  have htick : ∀ (j m : Nat), m ≤ 600 → Mac.tick ⟨fillP C1 Pb l j, 520, [(m : Int), (l.length : Int)]⟩ 0 = ⟨fillP C1 Pb l j, 520, [((m + 1 : Nat) : Int), (l.length : Int)]⟩ := by
    intro j m hm
    unfold Mac.tick
    congr 1
    show [IntKind.i64.wrap ((m : Int) + 1), _] = _
    rw [hwi m hm]
  refine joinP_i (fun _ w' => ∃ hs, St w0 w' (cpy gc ⟨A, B, from_ + l.length, from_ + l.length, hs, false⟩ :: mach gm ⟨fillP C1 Pb l l.length, 520, [((2 + 2 * l.length : Nat) : Int), (l.length : Int)]⟩ :: blk gb [.int .i64 B.At, .int .i64 B.Log] :: blk ga [.int .i64 A.At, .int .i64 A.Log] :: R)) ?_ ?_
  · intro J hJ
    refine loopP_of (fun (x : Int) w' => ∃ (j : Nat) (hs : Int) (od : Bool), x = ((2 * j + od.toNat : Nat) : Int) ∧ 2 * j + od.toNat ≤ 2 * l.length ∧ (od = true → hs = l.getD j 0) ∧
        St w0 w' (cpy gc ⟨A, B, from_ + j, from_ + l.length, hs, od⟩ :: mach gm ⟨fillP C1 Pb l j, 520, [((2 + 2 * j + od.toNat : Nat) : Int), (l.length : Int)]⟩ :: blk gb [.int .i64 B.At, .int .i64 B.Log] :: blk ga [.int .i64 A.At, .int .i64 A.Log] :: R)) (fun x _ => (2 * l.length - x).toNat) ⟨0, 0, false, rfl, by simp, by simp, ?_⟩ ?_
    · have e : Cp.begin A B from_ (from_ + l.length) = ⟨A, B, from_ + ((0 : Nat) : Int), from_ + l.length, 0, false⟩ := by unfold Cp.begin; simp
      rw [e] at hS; exact hS
    rintro _ w10 ⟨j, hs, od, rfl, hj, hod, hS⟩ C hC
    have hpred : IntKind.i64.wrap (((2 * l.length : Nat) : Int) - 1) = ((2 * l.length : Nat) : Int) - 1 := wrap_id ⟨by omega, by omega⟩
    rw [hpred]
    refine iteB_i (fun hlt => ?_) fun hge => ?_
    · rw [decide_eq_true_eq] at hlt
      have hj' : j < l.length := by cases od <;> simp at hlt hj <;> omega
      cases od with
      | false =>
        simp only [Bool.toNat_false, Nat.add_zero] at *
        refine step_s hS (fun he => by dsimp only at he; omega) (fun _ hcan => absurd (hcanA j (2 + 2 * j)) (by unfold Cp.spot at hcan; simp only [Bool.false_eq_true, if_false] at hcan; rw [hcan]; simp)) (fun _ _ _ w11 hS => ?_) fun _ _ h => by cases h
        refine iteB_f ?_ (hC _ _ ⟨j, l.getD j 0, true, by rw [hwi _ (by omega)]; simp, by simp; omega, fun _ => rfl, ?_⟩ (by rw [hwi _ (by omega)]; omega))
        · have : (((2 * j : Nat) : Int) == ((2 * l.length : Nat) : Int) - 1) = false := by rw [beq_eq_false_iff_ne]; omega
          rw [this]; rfl
        · unfold Cp.spot Cp.next at hS
          simp only [Bool.false_eq_true, if_false] at hS
          rw [htick j _ (by omega)] at hS
          have eg : Mac.get ⟨fillP C1 Pb l j, 520, [((2 + 2 * j : Nat) : Int), (l.length : Int)]⟩ (A.place (from_ + (j : Int))) = l.getD j 0 := by
            unfold Mac.get
            dsimp only
            rw [← ePa, fillP_old (fun i _ e => by have := ltA j; have := geB i; omega), hC1a j hj']
          rw [eg] at hS
          exact hS
      | true =>
        have hhs := hod rfl
        subst hhs
        simp only [Bool.toNat_true] at *
        refine step_s hS (fun he => by dsimp only at he; omega) (fun _ hcan => absurd (hcanB j (2 + 2 * j + 1)) (by unfold Cp.spot at hcan; simp only [if_true] at hcan; rw [hcan]; simp)) (fun _ _ h => by cases h) fun _ _ _ w11 hS => ?_
        have hat : IntKind.i64.wrap (from_ + (j : Int) + 1) = from_ + ((j + 1 : Nat) : Int) := by rw [wrap_id ⟨by omega, by omega⟩]; omega
        refine iteB_f ?_ (hC _ _ ⟨j + 1, l.getD j 0, false, by rw [hwi _ (by omega)]; simp; omega, by simp; omega, by simp, ?_⟩ (by rw [hwi _ (by omega)]; omega))
        · unfold Cp.next
          simp only [if_true]
          rw [hat]
          have : (from_ + ((j + 1 : Nat) : Int) == from_ + (l.length : Int)) = (((2 * j + 1 : Nat) : Int) == ((2 * l.length : Nat) : Int) - 1) := by
            rw [Bool.eq_iff_iff, beq_iff_eq, beq_iff_eq]; omega
          rw [this]; simp
        · unfold Cp.spot Cp.next at hS
          simp only [if_true] at hS
          rw [htick j _ (by omega), hat] at hS
          have ep : Mac.put ⟨fillP C1 Pb l j, 520, [((2 + 2 * j + 1 + 1 : Nat) : Int), (l.length : Int)]⟩ (B.place (from_ + (j : Int))) (l.getD j 0) = ⟨fillP C1 Pb l (j + 1), 520, [((2 + 2 * (j + 1) + 0 : Nat) : Int), (l.length : Int)]⟩ := by
            unfold Mac.put
            dsimp only
            rw [fillP_succ, ePb, show 2 + 2 * j + 1 + 1 = 2 + 2 * (j + 1) + 0 by omega]
          rw [ep] at hS
          exact hS
    · rw [decide_eq_false_iff_not] at hge
      have hjl : j = l.length ∧ od = false := by cases od <;> simp at hge hj ⊢ <;> omega
      obtain ⟨rfl, rfl⟩ := hjl
      exact hJ _ _ ⟨hs, by simpa using hS⟩
  rintro _ w10 ⟨hs, hS⟩
  generalize hC2 : fillP C1 Pb l l.length = C2 at *
  have hC2l : C2.length = na + nb := by rw [← hC2, fillP_len, hC1l]
  have hC2a : ∀ i, i < l.length → C2.getD (Pa i) 0 = l.getD i 0 := fun i hi => by rw [← hC2, fillP_old (fun j _ e => by have := ltA i; have := geB j; omega), hC1a i hi]
  have hC2b : ∀ i, i < l.length → C2.getD (Pb i) 0 = l.getD i 0 := fun i hi => by rw [← hC2, fillP_new injB (fun j _ => by rw [hC1l]; have := geB j; omega) hi]
  have hC2n : nz C2 = 2 * nz l := by rw [← hC2, fillP_nz injB (fun j _ => by rw [hC1l]; have := geB j; omega) (fun j _ => hC1b _ (geB j).1) (Nat.le_refl _), hC1n, List.take_length]; omega
  have hnzl := nz_le l
  refine step_s hS (fun _ w11 hS => ?_) (fun h => absurd rfl h) (fun h => absurd rfl h) fun h => absurd rfl h
  refine joinP_i (fun y w' => y = false ∧ St w0 w' (cpy gc ⟨A, B, from_ + l.length, from_ + l.length, hs, false⟩ :: mach gm ⟨C2, 520, [((2 + 2 * l.length : Nat) : Int), (l.length : Int)]⟩ :: blk gb [.int .i64 B.At, .int .i64 B.Log] :: blk ga [.int .i64 A.At, .int .i64 A.Log] :: R)) ?_ ?_
  · intro J hJ
    refine drew_h hS fun w12 hS => iteB_f rfl (steps_s (g := gm) (M := ⟨C2, 520, [((2 + 2 * l.length : Nat) : Int), (l.length : Int)]⟩) hS (iteB_f ?_ ?_))
    · unfold Mac.caller
      simp
      rw [wrap_id ⟨by omega, by omega⟩]
    refine ldW_h hS rfl ?_
    refine ldW_h hS rfl ?_
    refine used_s (g := gm) (M := ⟨C2, 520, [((2 + 2 * l.length : Nat) : Int), (l.length : Int)]⟩) hS (samec_self (samec_self ?_))
    refine size_s (r := A) hS fun w13 hS13 => samec_h hS hS13 ?_
    refine size_s (r := B) hS13 fun w14 hS => hJ _ _ ⟨?_, hS⟩
    rw [sA, sB, hC2l, wrap_id ⟨by omega, by omega⟩]; simp
  rintro _ w12 ⟨rfl, hS⟩
  refine iteB_f rfl ?_
  have hpeek : ∀ p : Int, 0 ≤ p → p < na + nb → (if Mac.given ⟨C2, 520, [((2 + 2 * l.length : Nat) : Int), (l.length : Int)]⟩ p then Mac.get ⟨C2, 520, [((2 + 2 * l.length : Nat) : Int), (l.length : Int)]⟩ p else 0) = C2.getD p.toNat 0 := by
    intro p h0 h1
    unfold Mac.given Mac.get
    rw [if_pos (by rw [decide_eq_true_eq]; dsimp only; omega)]
  refine joinP_i (fun y w' => y = ((2 * nz l : Nat) : Int) ∧ St w0 w' (cpy gc ⟨A, B, from_ + l.length, from_ + l.length, hs, false⟩ :: mach gm ⟨C2, 520, [((2 + 2 * l.length : Nat) : Int), (l.length : Int)]⟩ :: blk gb [.int .i64 B.At, .int .i64 B.Log] :: blk ga [.int .i64 A.At, .int .i64 A.Log] :: R)) ?_ ?_
  · intro J hJ
    refine loopP_of (fun (x : Int × Int) w' => ∃ i : Nat, x = (((2 * nz (l.take i) : Nat) : Int), (i : Int)) ∧ i ≤ l.length ∧ St w0 w' (cpy gc ⟨A, B, from_ + l.length, from_ + l.length, hs, false⟩ :: mach gm ⟨C2, 520, [((2 + 2 * l.length : Nat) : Int), (l.length : Int)]⟩ :: blk gb [.int .i64 B.At, .int .i64 B.Log] :: blk ga [.int .i64 A.At, .int .i64 A.Log] :: R)) (fun x _ => (l.length - x.2).toNat) ⟨0, rfl, by omega, hS⟩ ?_
    rintro _ w13 ⟨i, rfl, hi, hS⟩ C hC
    dsimp only
    refine iteB_i (fun hlt => ?_) fun hge => ?_
    · rw [decide_eq_true_eq] at hlt
      have hiA := inA (from_ + (i : Int)); have hiB := inB (from_ + (i : Int))
      have hnt := nz_le (l.take i)
      have hnt2 : (l.take i).length ≤ 256 := by rw [List.length_take]; omega
      refine joinP_i (fun y w' => y = false ∧ St w0 w' (cpy gc ⟨A, B, from_ + l.length, from_ + l.length, hs, false⟩ :: mach gm ⟨C2, 520, [((2 + 2 * l.length : Nat) : Int), (l.length : Int)]⟩ :: blk gb [.int .i64 B.At, .int .i64 B.Log] :: blk ga [.int .i64 A.At, .int .i64 A.Log] :: R)) ?_ ?_
      · intro J2 hJ2
        refine drew_h hS fun w14 hS => ?_
        refine ldW_h hS rfl ?_
        refine ixB_h hR hS (by omega) (by omega) fun p hp => ldI_i (hp hS) ?_
        rw [hwfi i hi]
        refine place_s (r := A) hS fun w15 hS15 => samec_1 (hp hS) (hp hS15) ?_
        refine peek_s (g := gm) (M := ⟨C2, 520, [((2 + 2 * l.length : Nat) : Int), (l.length : Int)]⟩) hS15 (samec_1 (hp hS) (hp hS15) ?_)
        rw [hpeek _ hiA.1 (by omega), ← ePa, hC2a i (by omega)]
        refine iteB_f (by simp) ?_
        refine ldW_h hS15 rfl ?_
        refine ixB_h hR hS15 (by omega) (by omega) fun p hp => ldI_i (hp hS15) ?_
        refine place_s (r := B) hS15 fun w16 hS16 => samec_1 (hp hS15) (hp hS16) ?_
        refine peek_s (g := gm) (M := ⟨C2, 520, [((2 + 2 * l.length : Nat) : Int), (l.length : Int)]⟩) hS16 (samec_1 (hp hS15) (hp hS16) (hJ2 _ _ ⟨?_, hS16⟩))
        rw [hpeek _ (by omega) (by omega), ← ePb, hC2b i (by omega)]
        simp
      rintro _ w14 ⟨rfl, hS⟩
      refine iteB_f rfl ?_
      refine ixB_h hR hS (by omega) (by omega) fun p hp => ldI_i (hp hS) ?_
      have hts := nz_take_succ (l := l) (k := i) (by omega)
      simp only [Int.toNat_natCast]
      refine iteB_i (fun hne => hC _ _ ⟨i + 1, ?_, by omega, hS⟩ (by dsimp only; rw [hwi i (by omega)]; omega)) fun hne => hC _ _ ⟨i + 1, ?_, by omega, hS⟩ (by dsimp only; rw [hwi i (by omega)]; omega)
      · rw [hts, hne, hwi i (by omega), wrap_id ⟨by omega, by omega⟩]
        simp only [if_true]
        congr 1
      · rw [hts, hne, hwi i (by omega)]; simp
    · rw [decide_eq_false_iff_not] at hge
      have : i = l.length := by omega
      subst this
      rw [List.take_length]
      exact hJ _ _ ⟨rfl, hS⟩
  rintro _ w13 ⟨rfl, hS⟩
  refine loopP_of (fun (x : Int × Int) w' => ∃ i : Nat, x = (((2 * nz l : Nat) : Int) - ((nz (C2.take i) : Nat) : Int), (i : Int)) ∧ i ≤ na + nb ∧ St w0 w' (cpy gc ⟨A, B, from_ + l.length, from_ + l.length, hs, false⟩ :: mach gm ⟨C2, 520, [((2 + 2 * l.length : Nat) : Int), (l.length : Int)]⟩ :: blk gb [.int .i64 B.At, .int .i64 B.Log] :: blk ga [.int .i64 A.At, .int .i64 A.Log] :: R)) (fun x _ => ((na + nb : Nat) - x.2).toNat) ⟨0, by simp [nz], by omega, hS⟩ ?_
  rintro _ w14 ⟨i, rfl, hi, hS⟩ C hC
  dsimp only
  refine drew_h hS fun w15 hS => ?_
  refine ldW_h hS rfl ?_
  refine ldW_h hS rfl ?_
  refine size_s (r := A) hS fun w16 hS16 => samec_h hS hS16 ?_
  refine size_s (r := B) hS16 fun w17 hS => ?_
  rw [sA, sB, wrap_id (x := (na : Int) + nb) ⟨by omega, by omega⟩]
  have hnt := nz_le (C2.take i)
  have hnt2 : (C2.take i).length ≤ 512 := by rw [List.length_take]; omega
  refine iteB_i (fun hlt => ?_) fun hge => ?_
  · rw [decide_eq_true_eq] at hlt
    refine peek_s (g := gm) (M := ⟨C2, 520, [((2 + 2 * l.length : Nat) : Int), (l.length : Int)]⟩) hS ?_
    rw [hpeek _ (by omega) (by omega)]
    simp only [Int.toNat_natCast]
    have hts := nz_take_succ (l := C2) (k := i) (by omega)
    refine iteB_i (fun hne => hC _ _ ⟨i + 1, ?_, by omega, hS⟩ (by dsimp only; rw [hwi i (by omega)]; omega)) fun hne => hC _ _ ⟨i + 1, ?_, by omega, hS⟩ (by dsimp only; rw [hwi i (by omega)]; omega)
    · rw [hts, hne, hwi i (by omega), wrap_id ⟨by omega, by omega⟩]
      simp only [if_true]
      congr 1; omega
    · rw [hts, hne, hwi i (by omega)]; simp
  · rw [decide_eq_false_iff_not] at hge
    have : i = na + nb := by omega
    subst this
    refine iteB_t ?_ (hRL (L' := [_, _, _, _]) hS)
    rw [← hC2l, List.take_length, hC2n]; simp
end
end Go.Proofs.Yteipigpapliagaa
