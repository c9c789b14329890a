/-
  Layer 4: the reference: without.
-/
import Derived.Test.YtinieegaaimilaaCk
set_option linter.unusedSimpArgs false
set_option linter.unusedVariables false
set_option maxRecDepth 100000
namespace Go.Proofs.Ytinieegaaimilaa
open Go Go.Ev Go.Proofs

def W0 (n : Nat) : Wy := ⟨(List.replicate n false).set 0 true, [0]⟩
def Wy.steps (l : List (List Int)) (h : Int) : Nat → Wy → Wy
  | 0, W => W
  | m + 1, W => (Wy.steps l h m W).step l h
def Gone (l : List (List Int)) (h : Int) (W : Wy) : Prop := W.todo = [] ∧ (l = [] → W = ⟨[], []⟩) ∧ (l ≠ [] → ∃ m, W = Wy.steps l h m (W0 l.length))
theorem W0_ok {n : Nat} (h : 0 < n) : (W0 n).OK n := ⟨by simp [W0], fun i hi => by simp [W0] at hi; omega⟩
theorem sees_snoc (W : Wy) (ks : List Int) (z : Int) : W.sees (ks ++ [z]) = (W.sees ks).see z := by simp [Wy.sees]

theorem without_s {w : World} {s : Sl} {l : List (List Int)} {hh : Int} {k : Sl → World → Prop} (hr : Code5 w s l) (hn : l.length ≤ 1000)
    (hc : ∀ W s' w', Gone l hh W → St w w' [slc 1 s' (bls W.out)] → k s' w') : pelotonref04_without s hh w k := by
  have hsn := hr.len
  unfold pelotonref04_without pelotonref04_without_b
  refine mkSl_h (n := s.n) (.nil w) (elB (by kernel_rfl)) rfl (by omega) (by omega) fun s1 w2 h n1 => ?_
  have hb0 := bls_rep s.n
  simp only [hb0] at h
  refine iteB_i (fun h0' => ?_) fun h0' => ?_
  · have hz : s.n = 0 := by
      have : (s.n : Int) = 0 := by simpa using h0'
      omega
    have hl : l = [] := List.eq_nil_of_length_eq_zero (by omega)
    refine hc ⟨[], []⟩ s1 w2 ⟨rfl, fun _ => rfl, fun hne => (hne hl).elim⟩ ?_
    rw [hz] at h; exact h
  · have hz : s.n ≠ 0 := by
      have : ¬ (s.n : Int) = 0 := by simpa using h0'
      omega
    refine ixBlst_h (s := s1) (xs := List.replicate s.n false) h (by omega) (by simp; omega) fun w4 h => ?_
    refine newC_h h fun g5 w6 h => ?_
    have h := h.asS (sz := 1) (g := g5) (n := 1) (cs := [.int .i64 0]) rfl (by omega) (by simp [Value.oneCell'])
    refine loopP_ghost (G := Wy) (fun W t w' => W.OK l.length ∧ W.mu ≤ 1000000 ∧ (∃ m, W = Wy.steps l hh m (W0 l.length)) ∧ St w w' [slc 1 t (ints W.todo), slc 1 s1 (bls W.out)]) Wy.mu (g := W0 s.n) ⟨by rw [hsn]; exact W0_ok (by omega), ?_, ⟨0, by rw [hsn]; rfl⟩, by simpa [W0, ints] using h⟩ ?_
    · have := cntF_set (l := List.replicate s.n false) (i := 0) (by simp; omega)
      simp [W0, Wy.mu, cntF] at this ⊢; omega
    rintro W t w9 ⟨hW, hmu, ⟨m, hm⟩, h⟩ C hC
    have hnt : W.todo.length = t.n := by have := h.slen (sz := 1) (s := t) (vs := ints W.todo); simpa using this
    refine iteB_i (fun hb => ?_) fun hb => ?_
    · have hpos : 0 < t.n := by have := of_decide_eq_true hb; omega
      have ht : W.todo ≠ [] := by intro e; rw [e] at hnt; simp at hnt; omega
      have hlt : W.todo.length ≤ W.mu := by unfold Wy.mu; omega
      have hw1 : IntKind.wrap .i64 ((t.n : Int) - 1) = ((t.n - 1 : Nat) : Int) := by rw [wrap_id ⟨by omega, by omega⟩]; omega
      have hi := hW.todo (W.todo.getLast ht) (List.getLast_mem ht)
      have hlast : W.todo.getD (t.n - 1) 0 = W.todo.getLast ht := by
        rw [← hnt, List.getLast_eq_getElem, List.getD_eq_getElem?_getD, List.getElem?_eq_getElem (by omega)]; rfl
      simp only [hw1]
      refine ixI_h (s := t) (xs := W.todo) h (by omega) (by omega) ?_
      rw [Int.toNat_natCast, hlast]
      generalize hie : W.todo.getLast ht = i at hi hlast
      refine slS_h (s := t) (vs := ints W.todo) h (by omega) (by omega) (by omega) fun d hd h => ?_
      have e1 : ((ints W.todo).drop ((0 : Int).toNat * 1)).take (((t.n - 1 : Nat) : Int).toNat - (0 : Int).toNat) = ints W.todo.dropLast := by
        simp [ints, List.dropLast_eq_take, hnt]
      have e2 : ((((t.n - 1 : Nat) : Int).toNat - (0 : Int).toNat) * 1) = (((t.n - 1 : Nat) : Int).toNat - (0 : Int).toNat) := Nat.mul_one _
      rw [e2, e1] at h
      have hil : i.toNat < l.length := by omega
      have hx : l[i.toNat]? = some l[i.toNat] := List.getElem?_eq_getElem hil
      have hsplit : l = l.take i.toNat ++ l[i.toNat] :: l.drop (i.toNat + 1) := by rw [List.getElem_cons_drop, List.take_append_drop]
      generalize hxe : l[i.toNat] = x5 at hx hsplit
      have hgx : l.getD i.toNat [] = x5 := by simp [hx]
      refine joinP_i (fun b w' => b = forks x5 hh ∧ w' = w9) (fun J hJ => ?_) ?_
      · refine ixC (hr.ext h.ext) hsplit (by simp; omega) fun p h5 hp => ldI_i (hp 0 _ (ints_get (by omega))) ?_
        refine iteB_i (fun hb => ?_) fun hb => ?_
        · refine ixC (hr.ext h.ext) hsplit (by simp; omega) fun p h5 hp => ldI_i (hp 1 _ (ints_get (by omega))) ?_
          exact hJ _ _ ⟨by unfold forks; rw [show (opI x5 == 8) = true from hb]; rfl, rfl⟩
        · exact hJ _ _ ⟨by unfold forks; rw [show (opI x5 == 8) = false from hb]; rfl, rfl⟩
      rintro b w19 ⟨rfl, rfl⟩
      have hs2 := wstep_ok (h := hh) (l := l) (by omega) hW ht
      have hgl : W.todo.getLast? = some i := by rw [List.getLast?_eq_some_getLast ht, hie]
      have hm' : ∃ m, W.step l hh = Wy.steps l hh m (W0 l.length) := ⟨m + 1, by show W.step l hh = (Wy.steps l hh m _).step l hh; rw [← hm]⟩
      refine iteB_i (fun hb => ?_) fun hb => ?_
      · have hst : W.step l hh = { W with todo := W.todo.dropLast } := by unfold Wy.step; rw [hgl]; simp only [hgx, hb]; rfl
        exact hC (W.step l hh) _ _ ⟨hs2.1, by omega, hm', by rw [hst]; exact h⟩ hs2.2
      · have hst : W.step l hh = Wy.sees { W with todo := W.todo.dropLast } (behind l.length i x5) := by unfold Wy.step; rw [hgl]; simp only [hgx, hb]; rfl
        refine rbehind_s (hr.ext h.ext) hn hi.1 hx fun s20 w21 h2 => ?_
        have h := h.join h2
        have hin := behind_in (x := x5) (n := l.length) (i := i) (by omega) hi.1 (by omega)
        have n20 : (behind l.length i x5).length = s20.n := by have := h2.slen (sz := 1) (s := s20) (vs := ints (behind l.length i x5)); simpa using this
        have hW1 : Wy.OK l.length { W with todo := W.todo.dropLast } := ⟨hW.out, fun z hz => hW.todo z (List.dropLast_subset _ hz)⟩
        have hm1 : Wy.mu { W with todo := W.todo.dropLast } ≤ W.mu := by simp only [Wy.mu, List.length_dropLast]; omega
        have hb2 : (behind l.length i x5).length ≤ 2 := by unfold behind; split <;> split <;> simp
        generalize hbs : behind l.length i x5 = bs at h hin n20 hst hb2
        refine loopP_of (fun (x : Sl × Int) w' => ∃ j : Nat, x.2 = j ∧ j ≤ bs.length ∧ St w w' [slc 1 s20 (ints bs), slc 1 x.1 (ints (Wy.sees { W with todo := W.todo.dropLast } (bs.take j)).todo), slc 1 s1 (bls (Wy.sees { W with todo := W.todo.dropLast } (bs.take j)).out)])
          (fun x _ => ((bs.length : Int) - x.2).toNat) ⟨0, rfl, by omega, by simpa [Wy.sees] using h⟩ ?_
        rintro ⟨t', i'⟩ w24 ⟨j, hj, hjn, h⟩ C2 hC2
        dsimp only at hj h ⊢
        subst hj
        refine iteB_i (fun hb => ?_) fun hb => ?_
        · have hjl : j < bs.length := by have := of_decide_eq_true hb; omega
          have hw2 : IntKind.wrap .i64 ((j : Int) + 1) = ((j + 1 : Nat) : Int) := by rw [wrap_id ⟨by omega, by omega⟩]; simp
          have hz : bs.getD (j : Int).toNat 0 = bs[j] := by simp [hjl]
          have htk : bs.take (j + 1) = bs.take j ++ [bs[j]] := (List.take_concat_get hjl).symm ▸ by simp
          have hzin := hin bs[j] (List.getElem_mem hjl)
          have hso := sees_ok (zs := bs.take j) hW1 fun z hz => hin z (List.take_subset _ _ hz)
          generalize hW2 : Wy.sees { W with todo := W.todo.dropLast } (bs.take j) = W2 at h hso
          have hsee : Wy.sees { W with todo := W.todo.dropLast } (bs.take (j + 1)) = W2.see bs[j] := by rw [htk, sees_snoc, hW2]
          have hlt2 : W2.todo.length ≤ W2.mu := by unfold Wy.mu; omega
          have hnt2 : W2.todo.length = t'.n := by have := h.slen (sz := 1) (s := t') (vs := ints W2.todo); simpa using this
          have hmu2 := hso.2
          refine ixI_h (s := s20) (xs := bs) h (by omega) (by omega) ?_
          rw [hz]
          refine ixBl_h (s := s1) (xs := W2.out) h hzin.1 (by rw [hso.1.out]; omega) ?_
          refine iteB_i (fun hb2 => ?_) fun hb2 => ?_
          · have hb2' : W2.out.getD (bs[j]).toNat false = false := by simpa using hb2
            refine ixI_h (s := s20) (xs := bs) h (by omega) (by omega) ?_
            rw [hz]
            refine ixBlst_h (s := s1) (xs := W2.out) h hzin.1 (by rw [hso.1.out]; omega) fun w32 h => ?_
            refine ixI_h (s := s20) (xs := bs) h (by omega) (by omega) ?_
            rw [hz]
            refine newC_h h fun gn w36 h => ?_
            refine bApp_h (s := t') (vs := ints W2.todo) (x := ⟨some ⟨gn, 0, none⟩, 1, 1⟩) (ys := [.int .i64 bs[j]]) h (elI (by kernel_rfl)) (by kernel_rfl) (blk_sls (n := 1) (l := [.int .i64 bs[j]]) h.blk rfl 1) (by simp [Value.oneCell']) (by simp only; omega) (by simp only; omega) fun s37 w38 h n37 => ?_
            have h := h.drop
            rw [hw2]
            have e : W2.see bs[j] = ⟨W2.out.set (bs[j]).toNat true, W2.todo ++ [bs[j]]⟩ := by unfold Wy.see; rw [hb2']; rfl
            refine hC2 _ _ ⟨j + 1, rfl, hjl, ?_⟩ (by simp only; omega)
            rw [hsee, e]
            simpa [ints] using h
          · have hb2' : W2.out.getD (bs[j]).toNat false = true := by simpa using hb2
            rw [hw2]
            have e : W2.see bs[j] = W2 := by unfold Wy.see; rw [hb2']; rfl
            refine hC2 _ _ ⟨j + 1, rfl, hjl, ?_⟩ (by simp only; omega)
            rw [hsee, e]; exact h
        · have hjl : j = bs.length := by have := of_decide_eq_false hb; omega
          rw [hjl, List.take_length] at h
          rw [hst] at hs2 hm'
          exact hC _ _ _ ⟨hs2.1, by have := hs2.2; omega, hm', h.drop⟩ hs2.2
    · have hnil : W.todo = [] := by
        have := of_decide_eq_false hb
        exact List.eq_nil_of_length_eq_zero (by omega)
      refine hc W s1 w9 ⟨hnil, fun hl => ?_, fun _ => ⟨m, hm⟩⟩ (h.rm 0 rfl)
      rw [hl] at hsn; exact (hz hsn).elim
end Go.Proofs.Ytinieegaaimilaa
