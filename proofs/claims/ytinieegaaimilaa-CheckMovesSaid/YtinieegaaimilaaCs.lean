/-
  Layer 4: the judge's last question; a function.
-/
import Derived.Test.YtinieegaaimilaaCr
set_option linter.unusedSimpArgs false
set_option linter.unusedVariables false
set_option maxRecDepth 100000
namespace Go.Proofs.Ytinieegaaimilaa
open Go Go.Ev Go.Proofs

theorem andNot_le {a b : Int} (h0 : 0 ≤ a) (h1 : a ≤ 255) : 0 ≤ andNotI .i64 a b ∧ andNotI .i64 a b ≤ a := by
  rw [andNotI_bv]
  have e : (bv a).toNat = a.toNat := by
    have := bv_s (m := a.toNat) (by omega)
    rwa [Int.toNat_of_nonneg h0] at this
  have h2 : (bv a &&& ~~~ bv b).toNat ≤ a.toNat := by rw [BitVec.toNat_and, e]; exact Nat.and_le_left
  rw [toInt_s (by omega)]
  omega
theorem tb_zero {h : Nat} (hh : h < 8) : tb 0 h = false := by
  have : ∀ h : Nat, h < 8 → tb 0 h = false := by decide
  exact this h hh
theorem subBits_iff {a b : Int} : subBits a b = true ↔ ∀ h : Nat, h < 8 → tb a h = true → tb b h = true := by
  unfold subBits
  rw [List.all_eq_true]
  refine ⟨fun q h hh ha => ?_, fun q h hh => ?_⟩
  · have := q h (by simpa using hh)
    rw [ha] at this; simpa using this
  · have := q h (by simpa using hh)
    cases ha : tb a h with
    | false => rfl
    | true => rw [this ha]; rfl
theorem andNot_sub {a b : Int} (h0 : 0 ≤ a) (h1 : a ≤ 255) : (andNotI .i64 a b != 0) = !subBits a b := by
  have hb := andNot_le (b := b) h0 h1
  cases hs : subBits a b with
  | true =>
    have hs' := subBits_iff.1 hs
    have e : andNotI .i64 a b = 0 := by
      rw [← rs_tb (v := andNotI .i64 a b) hb.1 (by omega), ← rs_tb (v := 0) (by omega) (by omega)]
      refine rs_congr fun h hh => ?_
      rw [tb_andNot _ _ (by omega), tb_zero hh]
      cases ha : tb a h with
      | false => rfl
      | true => rw [hs' h hh ha]; rfl
    rw [e]; rfl
  | false =>
    have : andNotI .i64 a b ≠ 0 := by
      intro e
      have : subBits a b = true := subBits_iff.2 fun h hh ha => by
        have h2 := tb_andNot a b (i := h) (by omega)
        rw [e, tb_zero hh, ha] at h2
        simpa using h2.symm
      rw [this] at hs; cases hs
    simpa using this
theorem sub_shl {a b : Int} (h0 : 0 ≤ a) (h1 : a < 8) : subBits (shlV .i64 1 a) b = tb b a.toNat := by
  cases ht : tb b a.toNat with
  | true =>
    refine subBits_iff.2 fun h hh ha => ?_
    rw [tb_shl h0 h1 hh] at ha
    have := of_decide_eq_true ha
    have : h = a.toNat := by omega
    rw [this]; exact ht
  | false =>
    cases hs : subBits (shlV .i64 1 a) b with
    | false => rfl
    | true =>
      have := subBits_iff.1 hs a.toNat (by omega) (by rw [tb_shl h0 h1 (by omega)]; exact decide_eq_true (by omega))
      rw [this] at ht; cases ht
theorem shl_small {a : Int} (h0 : 0 ≤ a) (h1 : a < 8) : 0 ≤ shlV .i64 1 a ∧ shlV .i64 1 a ≤ 255 := by
  have e : ∀ m : Nat, m < 8 → 0 ≤ shlV .i64 1 (m : Int) ∧ shlV .i64 1 (m : Int) ≤ 255 := by decide
  have := e a.toNat (by omega)
  rwa [Int.toNat_of_nonneg h0] at this
theorem sub_zero {b : Int} : subBits 0 b = true := subBits_iff.2 fun h hh ha => by rw [tb_zero hh] at ha; cases ha

section
variable {w0 w : World} {gj : Nat} {ps s sd sh : Sl} {P : List FnR} {l : List (List Int)} {D H : List Int} {R : List HP} {i : Nat} {x : List Int} {k : Int → World → Prop}
theorem needs_get {P : List FnR} {n : Int} {f : FnR} (h : P[n.toNat]? = some f) : needsOf P n = f.needs := by simp [needsOf, h]

theorem handles_s (h : St w0 w (blk gj [.slice ps.a ps.n ps.c, .slice s.a s.n s.c, .slice sd.a sd.n sd.c, .slice sh.a sh.n sh.c] :: slc 1 sd (ints D) :: slc 1 sh (ints H) :: R)) (hr : Code5 w0 s l) (hF : Funcs5 w0 ps P) (hx : l[i]? = some x) (hn : l.length ≤ 1000) (hH : H.length = l.length)
    (hok : chk x = 0) (hpl : placesE P.length l.length x = 0) (hP : ∀ f ∈ P, 0 ≤ f.needs ∧ f.needs ≤ 255)
    (hc : ∀ w', St w0 w' (blk gj [.slice ps.a ps.n ps.c, .slice s.a s.n s.c, .slice sd.a sd.n sd.c, .slice sh.a sh.n sh.c] :: slc 1 sd (ints D) :: slc 1 sh (ints H) :: R) → k (if handlesOk P (H.getD i 0) x then 0 else 16) w') : check_judge_handles (some ⟨gj, 0, none⟩) (i : Int) w k := by
  have hsn := hr.len
  have hpn := hF.len
  have hil : i < l.length := (List.getElem?_eq_some_iff.1 hx).1
  obtain ⟨_, _, _, hk8, hk9, hk10⟩ := chk0 hok
  unfold check_judge_handles
  refine nn_i (ldS_h (g := gj) (o := 1) h rfl (ixC_h hr h (by omega) hx fun p h5 hp => ldA_c (by simp [Go.Ev.ints, h5]) (fun j v => hp h) ?_))
  refine newC_h h fun g w6 h => stW_h (g := g) h rfl (by simp [Go.Ev.ints, h5]) (one_agI _) fun w7 h => ?_
  have h : St w0 w7 (blk g (ints x) :: blk gj [.slice ps.a ps.n ps.c, .slice s.a s.n s.c, .slice sd.a sd.n sd.c, .slice sh.a sh.n sh.c] :: slc 1 sd (ints D) :: slc 1 sh (ints H) :: R) := h
  refine ldI_h (g := g) (o := 0) h (ints_get (by omega)) ?_
  refine joinP_i (fun n w' => (andNotI .i64 n (H.getD i 0) != 0) = !(handlesOk P (H.getD i 0) x) ∧ St w0 w' (blk g (ints x) :: blk gj [.slice ps.a ps.n ps.c, .slice s.a s.n s.c, .slice sd.a sd.n sd.c, .slice sh.a sh.n sh.c] :: slc 1 sd (ints D) :: slc 1 sh (ints H) :: R)) (fun J hJ => ?_) ?_
  · unfold handlesOk at hJ
    refine iteB_i (fun hb => ?_) fun hb => ?_
    · have hb' : (opI x == 9) = true := hb
      have hB := hk9 (by simpa using hb')
      rw [if_pos hb'] at hJ
      refine ldI_h (g := g) (o := 2) h (ints_get (by omega)) ⟨hB.1, hJ _ _ ⟨?_, h⟩⟩
      have := shl_small (a := x.getD 2 0) hB.1 (by omega)
      rw [andNot_sub this.1 this.2, sub_shl hB.1 (by omega)]
    · have hb' : (opI x == 9) = false := hb
      rw [if_neg (by rw [hb']; simp)] at hJ
      refine iteB_i (fun hb => ?_) fun hb => ?_
      · have hb' : (opI x == 10) = true := hb
        have hB := hk10 (by simpa using hb')
        rw [if_pos hb'] at hJ
        refine ldI_h (g := g) (o := 3) h (ints_get (by omega)) ⟨hB.1, hJ _ _ ⟨?_, h⟩⟩
        have := shl_small (a := x.getD 3 0) hB.1 (by omega)
        rw [andNot_sub this.1 this.2, sub_shl hB.1 (by omega)]
      · have hb' : (opI x == 10) = false := hb
        rw [if_neg (by rw [hb']; simp)] at hJ
        refine iteB_i (fun hb => ?_) fun hb => ?_
        · have hb' : (opI x == 8) = true := hb
          have hB := hk8 (by simpa using hb')
          have hlt : x.getD 4 0 < P.length := by
            unfold placesE at hpl
            rw [hb'] at hpl
            by_cases q : x.getD 4 0 ≥ P.length
            · rw [decide_eq_true q] at hpl; simp at hpl
            · omega
          rw [if_pos hb'] at hJ
          have hf : P[(x.getD 4 0).toNat]? = some P[(x.getD 4 0).toNat] := List.getElem?_eq_getElem (by omega)
          have hb2 := hP _ (List.mem_of_getElem? hf)
          refine drew_h h fun w14 h => nn_i (ldS_h (g := gj) (o := 0) h rfl (ldI_h (g := g) (o := 4) h (ints_get (by omega)) ?_))
          refine ixR_h (e := FnR.cells P[(x.getD 4 0).toNat]) hF.rws h (by omega) (by rw [List.getElem?_map, hf]; rfl) fun p hp2 => ldI_i (hp2 h rfl) ?_
          refine hJ _ _ ⟨?_, h⟩
          rw [andNot_sub hb2.1 hb2.2, needs_get hf]
        · have hb' : (opI x == 8) = false := hb
          rw [if_neg (by rw [hb']; simp)] at hJ
          refine hJ _ _ ⟨?_, h⟩
          rw [andNot_sub (by omega) (by omega), sub_zero]
  rintro n w21 ⟨hnn, h⟩
  refine nn_i (ldS_h (g := gj) (o := 3) h rfl (ixI_h (s := sh) (xs := H) h (by omega) (by omega) ?_))
  rw [Int.toNat_natCast, hnn]
  refine iteB_i (fun hb => ?_) fun hb => ?_
  · have hb' : handlesOk P (H.getD i 0) x = false := by simpa using hb
    rw [hb'] at hc; exact hc _ h.drop
  · have hb' : handlesOk P (H.getD i 0) x = true := by simpa using hb
    rw [hb'] at hc; exact hc _ h.drop
end
end Go.Proofs.Ytinieegaaimilaa
