/-
  Layer 4: the reference's ways.
-/
import Derived.Test.YtinieegaaimilaaCh
set_option linter.unusedSimpArgs false
set_option linter.unusedVariables false
set_option maxRecDepth 100000
namespace Go.Proofs.Ytinieegaaimilaa
open Go Go.Ev Go.Proofs

/-- where the reference looks, before what is not there is left out -/
def cand (i : Int) (x : List Int) : List Int := (if isGoes x then [x.getD 4 0] else []) ++ (if (opI x != 6) && !isEnds x then [IntKind.wrap .i64 (i + 1)] else [])
def inN (n : Nat) (z : Int) : Bool := decide (0 ≤ z ∧ z < n)
theorem cand_behind {n : Nat} {i : Int} {x : List Int} (hn : n ≤ 4294967296) (h0 : 0 ≤ i) (h1 : i < n) : (cand i x).filter (inN n) = behind n i x := by
  have hw : IntKind.wrap .i64 (i + 1) = i + 1 := wrap_id ⟨by omega, by omega⟩
  have hin : inN n (i + 1) = decide (i + 1 < (n : Int)) := by unfold inN; rw [decide_eq_decide]; omega
  unfold cand behind yA yB
  rw [List.filter_append, hw]
  congr 1
  · cases isGoes x <;> simp [List.filter_cons, inN]
  · rw [← hin]
    cases (opI x != 6) && !isEnds x <;> simp [List.filter_cons]

theorem rbehind_s {w : World} {s : Sl} {l : List (List Int)} {i : Int} {x : List Int} {k : Sl → World → Prop} (hr : Code5 w s l) (hn : l.length ≤ 1000) (h0 : 0 ≤ i) (hx : l[i.toNat]? = some x)
    (hc : ∀ s' w', St w w' [slc 1 s' (ints (behind l.length i x))] → k s' w') : pelotonref04_Behind s i w k := by
  have hsn := hr.len
  have hil : i.toNat < l.length := (List.getElem?_eq_some_iff.1 hx).1
  have hsplit : l = l.take i.toNat ++ x :: l.drop (i.toNat + 1) := by
    obtain ⟨_, e⟩ := List.getElem?_eq_some_iff.1 hx
    rw [← e, List.getElem_cons_drop, List.take_append_drop]
  have hw : IntKind.wrap .i64 (i + 1) = i + 1 := wrap_id ⟨by omega, by omega⟩
  unfold pelotonref04_Behind
  refine ixC hr hsplit (by simp; omega) fun p h5 hp => ldI_i (hp 0 _ (ints_get (by omega))) ?_
  refine joinP_i (fun s1 w' => ∃ a : List Int, a = (if isGoes x then [x.getD 4 0] else []) ∧ s1.n = a.length ∧ St w w' [slc 1 s1 (ints a)]) (fun J hJ => ?_) ?_
  · refine iteB_i (fun hg => ?_) fun hg => ?_
    · have hg' : isGoes x = true := hg
      refine ixC hr hsplit (by simp; omega) fun p h5 hp => ldI_i (hp 4 _ (ints_get (by omega))) ?_
      refine newC_h ((St.nil w).nilS 1) fun g w7 h => ?_
      refine bApp_h (s := ⟨none, 0, 0⟩) (vs := []) (x := ⟨some ⟨g, 0, none⟩, 1, 1⟩) (ys := [.int .i64 (x.getD 4 0)]) h (elI (by kernel_rfl)) (by kernel_rfl) (blk_sls (n := 1) (l := [.int .i64 (x.getD 4 0)]) h.blk rfl 1) (by simp [Value.oneCell']) (by simp) (by simp) fun s6 w9 h n6 => ?_
      exact hJ _ _ ⟨[x.getD 4 0], by rw [hg']; rfl, by simpa using n6, by simpa [ints] using h.drop⟩
    · have hg' : isGoes x = false := hg
      exact hJ _ _ ⟨[], by rw [hg']; rfl, rfl, by simpa [ints] using (St.nil w).nilS 1⟩
  · rintro s1 w11 ⟨a, ha, n1, h⟩
    refine joinP_i (fun s1 w' => s1.n = (cand i x).length ∧ St w w' [slc 1 s1 (ints (cand i x))]) (fun J hJ => ?_) ?_
    · have key : ∀ o : Int, (o != 6 && o != 16 && o != 15) = ((o != 6) && !((o == 16) || (o == 15))) := by
        intro o; rw [Bool.not_or]; simp only [bne]; rw [Bool.and_assoc]
      have hla : a.length ≤ 1 := by rw [ha]; split <;> simp
      refine iteB_i (fun hg => ?_) fun hg => ?_
      · have hg' : ((opI x != 6) && !isEnds x) = true := by
          have h1 := key (x.getD 0 0); rw [hg] at h1; exact h1.symm
        refine newC_h h fun g w14 h => ?_
        refine bApp_h (s := s1) (vs := ints a) (x := ⟨some ⟨g, 0, none⟩, 1, 1⟩) (ys := [.int .i64 (IntKind.wrap .i64 (i + 1))]) h (elI (by kernel_rfl)) (by kernel_rfl) (blk_sls (n := 1) (l := [.int .i64 (IntKind.wrap .i64 (i + 1))]) h.blk rfl 1) (by simp [Value.oneCell']) (by simp only; omega) (by simp only; omega) fun s6 w9 h n6 => ?_
        have e : cand i x = a ++ [IntKind.wrap .i64 (i + 1)] := by unfold cand; rw [← ha, hg']; rfl
        exact hJ _ _ ⟨by rw [e]; simp [n6, n1], by rw [e]; simpa [ints] using h.drop⟩
      · have hg' : ((opI x != 6) && !isEnds x) = false := by
          have h1 := key (x.getD 0 0); rw [hg] at h1; exact h1.symm
        have e : cand i x = a := by unfold cand; rw [← ha, hg']; simp
        exact hJ _ _ ⟨by rw [e]; exact n1, by rw [e]; exact h⟩
    · rintro s2 w18 ⟨n2, h⟩
      have hcl : (cand i x).length ≤ 2 := by unfold cand; split <;> split <;> simp
      rw [← cand_behind (n := l.length) (by omega) h0 (by omega)] at hc
      refine loopP_of (fun (y : Sl × Int) w' => ∃ j : Nat, y.2 = j ∧ j ≤ s2.n ∧ y.1.n = (((cand i x).take j).filter (inN l.length)).length ∧ St w w' [slc 1 y.1 (ints (((cand i x).take j).filter (inN l.length))), slc 1 s2 (ints (cand i x))])
        (fun y _ => ((s2.n : Int) - y.2).toNat) ⟨0, rfl, by omega, by simp, by simpa [ints] using h.nilS 1⟩ ?_
      rintro ⟨t, jj⟩ w21 ⟨j, rfl, hj, hnt, h⟩ C hC
      simp only at hnt h
      refine iteB_i (fun hb => ?_) fun hb => ?_
      · have hlt : j < (cand i x).length := by
          have := of_decide_eq_true hb
          simp only at this; omega
        have hfl := List.length_filter_le (inN l.length) ((cand i x).take j)
        rw [List.length_take] at hfl
        have hgd : (cand i x).getD ((j : Int)).toNat 0 = (cand i x)[j] := by simp [hlt]
        have hw1 : IntKind.wrap .i64 ((j : Int) + 1) = ((j + 1 : Nat) : Int) := by rw [wrap_id ⟨by omega, by omega⟩]; simp
        have htk : ((cand i x).take (j + 1)).filter (inN l.length) = ((cand i x).take j).filter (inN l.length) ++ (if inN l.length (cand i x)[j] then [(cand i x)[j]] else []) := by
          rw [List.take_succ_eq_append_getElem hlt, List.filter_append]
          congr 1
          cases hh : inN l.length (cand i x)[j] <;> simp [List.filter_cons, hh]
        refine joinP_i (fun b w' => b = inN l.length (cand i x)[j] ∧ w' = w21) (fun J hJ => ?_) ?_
        · refine ixI_h (s := s2) (xs := cand i x) h (by simp) (by simp; omega) ?_
          rw [hgd]
          refine iteB_i (fun hb2 => ?_) fun hb2 => ?_
          · refine ixI_h (s := s2) (xs := cand i x) h (by simp) (by simp; omega) ?_
            rw [hgd]
            refine hJ _ _ ⟨?_, rfl⟩
            have := of_decide_eq_true hb2
            unfold inN; rw [hsn, decide_eq_decide]; exact ⟨fun h => ⟨this, h⟩, fun h => h.2⟩
          · have := of_decide_eq_false hb2
            exact hJ _ _ ⟨(decide_eq_false fun h => this h.1).symm, rfl⟩
        rintro b w28 ⟨rfl, rfl⟩
        refine iteB_i (fun hb2 => ?_) fun hb2 => ?_
        · rw [hb2] at htk
          refine ixI_h (s := s2) (xs := cand i x) h (by simp) (by simp; omega) ?_
          rw [hgd]
          refine newC_h h fun g w32 h => ?_
          refine bApp_h (s := t) (vs := ints (((cand i x).take j).filter (inN l.length))) (x := ⟨some ⟨g, 0, none⟩, 1, 1⟩) (ys := [.int .i64 (cand i x)[j]]) h (elI (by kernel_rfl)) (by kernel_rfl) (blk_sls (n := 1) (l := [.int .i64 (cand i x)[j]]) h.blk rfl 1) (by simp [Value.oneCell']) (by simp only; omega) (by simp only; omega) fun s6 w9 h n6 => ?_
          simp only [hw1]
          refine hC _ _ ⟨j + 1, rfl, by omega, by rw [htk]; simp [n6, hnt], by rw [htk]; simpa [ints] using h.drop⟩ (by simp; omega)
        · rw [hb2] at htk
          simp only [hw1]
          refine hC _ _ ⟨j + 1, rfl, by omega, by rw [htk]; simpa using hnt, by rw [htk]; simpa using h⟩ (by simp; omega)
      · have : j = s2.n := by
          have := of_decide_eq_false hb
          simp only at this; omega
        subst this
        refine hc t w21 ?_
        rw [n2, List.take_length] at h
        exact h.rm 1 rfl
end Go.Proofs.Ytinieegaaimilaa
