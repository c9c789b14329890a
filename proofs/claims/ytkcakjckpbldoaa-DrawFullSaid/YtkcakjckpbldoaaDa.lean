/-
  Layer 17: what its functions do.
-/
import Derived.Test.YtkcakjckpbldoaaEvI
import Derived.Test.YtkcakjckpbldoaaFn
set_option linter.unusedSimpArgs false
set_option maxRecDepth 100000
namespace Go.Proofs.Ytkcakjckpbldoaa
open Go Go.Ev Go.Proofs

theorem el24 : ElT Try.prog 24 3 8 (.int .i64 0) := ⟨by kernel_rfl, by kernel_rfl⟩
theorem el35 : ElT Try.prog 35 2 8 (.int .i64 0) := ⟨by kernel_rfl, by kernel_rfl⟩

def mayB (self on idle : Int) (x : Nat) : Bool := (x : Int) != self && (tb on x && !tb idle x)
def mayL (self on idle : Int) (n : Nat) : List Int := ((List.range n).filter (mayB self on idle)).map Int.ofNat
def rot (v : Int) (l : List Int) : List Int := l.drop (v % l.length).toNat ++ l.take (v % l.length).toNat

theorem mayL_succ (self on idle : Int) (n : Nat) : mayL self on idle (n + 1) = mayL self on idle n ++ (if mayB self on idle n then [(n : Int)] else []) := by
  unfold mayL
  rw [List.range_succ, List.filter_append, List.map_append]
  congr 1
  by_cases h : mayB self on idle n <;> simp [h]
theorem mayL_len (self on idle : Int) (n : Nat) : (mayL self on idle n).length ≤ n := by
  unfold mayL
  simpa using List.length_filter_le (mayB self on idle) (List.range n)

theorem rem_first {v m : Int} (hm : 0 < m) (hm2 : m ≤ 16) : remV (IntKind.i64.wrap (remV v m + m)) m = v % m := by
  unfold remV
  have h1 : v.tmod m < m := Int.tmod_lt_of_pos _ hm
  have h2 : -m < v.tmod m := Int.lt_tmod_of_pos v hm
  rw [wrap_id ⟨by omega, by omega⟩, Int.tmod_eq_emod_of_nonneg (by omega), Int.add_emod_right, Int.tmod_def, Int.sub_emod, Int.mul_emod_right]
  simp

theorem copy2 {L R : List Value} {n f : Nat} (hL : L.length = n) (hf : f ≤ n) (hR : R.length = n) :
    (((R.take 0 ++ ((L.drop f).take (n - f) ++ R.drop (0 + (n - f)))).take (n - f)) ++ (L.take f ++ (R.take 0 ++ ((L.drop f).take (n - f) ++ R.drop (0 + (n - f)))).drop (n - f + f))) = L.drop f ++ L.take f := by
  have e1 : (L.drop f).take (n - f) = L.drop f := List.take_of_length_le (by simp; omega)
  have e2 : (L.drop f).length = n - f := by simp; omega
  rw [e1, List.take_zero, List.nil_append, Nat.zero_add, List.take_append_of_le_length (by omega), List.take_of_length_le (by omega)]
  rw [List.drop_of_length_le (i := n - f + f) (by simp; omega), List.append_nil]

/-- what Order answers -/
theorem draw_Order_bad {v self n on idle : Int} {w : World} {k : Sl × Int → World → Prop} (h : n < 1 ∨ n > 16 ∨ self < 0 ∨ self ≥ n) (hk : k (⟨none, 0, 0⟩, 10) w) : draw_Order v self n on idle w k := by
  unfold draw_Order
  refine iteB_t ?_ hk
  simp
  omega

theorem draw_Order_s {v self n on idle : Int} {w : World} {k : Sl × Int → World → Prop} (h1 : 1 ≤ n) (h2 : n ≤ 16) (h3 : 0 ≤ self) (h4 : self < n)
    (hk : ∀ s w', Ext w w' → Own w' w.heap.size s (ints (rot v (mayL self on idle n.toNat))) → k (s, 0) w') : draw_Order v self n on idle w k := by
  unfold draw_Order
  refine iteB_f (by simp; omega) ?_
  refine joinP_i (fun s w' => Ext w w' ∧ Own w' w.heap.size s (ints (mayL self on idle n.toNat))) ?_ ?_
  · intro J hJ
    refine loopP_of (fun (x : Sl × Int) w' => ∃ i : Nat, x.2 = i ∧ i ≤ n.toNat ∧ Ext w w' ∧ Own w' w.heap.size x.1 (ints (mayL self on idle i))) (fun x _ => (n - x.2).toNat) ⟨0, rfl, by omega, .refl _ _, by simpa [mayL, ints] using Own.nil w _⟩ ?_
    rintro ⟨s, x⟩ w1 ⟨i, hx, hi, he, hown⟩ C hC
    simp only at hx; subst hx
    refine iteB_i (fun hlt => ?_) (fun hge => ?_)
    · have hlt : (i : Int) < n := by simpa using hlt
      refine joinP_i (fun b w2 => w2 = w1 ∧ b = mayB self on idle i) ?_ ?_
      · intro J5 hJ5
        refine iteB_i (fun hne => ?_) (fun heq => ?_)
        · refine shrI_i (by simp) (hJ5 _ _ ⟨rfl, ?_⟩)
          simp only
          rw [and1 (inI_andNot _ _) (by omega) (by omega), Int.toNat_natCast, tb_andNot _ _ (by omega)]
          simp only [mayB, hne, Bool.true_and]
        · refine hJ5 _ _ ⟨rfl, ?_⟩
          simp only [mayB, heq, Bool.false_and]
      · rintro b w2 ⟨rfl, rfl⟩
        have hw : IntKind.i64.wrap ((i : Int) + 1) = ((i + 1 : Nat) : Int) := by rw [wrap_id ⟨by omega, by omega⟩]; simp
        refine iteB_i (fun hb => ?_) (fun hb => ?_)
        · refine newC_i fun g w3 hg hs3 hb3 he3 => ?_
          have hl := mayL_len self on idle i
          refine bApp_i (s := s) (x := ⟨some ⟨g, 0, none⟩, 1, 1⟩) (ys := ints [(i : Int)]) el24 rfl el24.1 (hown.ext he3) (blk_sls (l := [_]) hb3 rfl 1) one_ints (by have := he.size; omega) (by simp; omega) (by simp; omega) fun s' w4 ho' hon hblk => ?_
          refine hC _ _ ⟨i + 1, hw, by omega, ?_, ?_⟩ (by simp only [hw]; omega)
          · exact (he.trans he3).then hon (hown.out (Nat.le_refl _))
          · rw [mayL_succ, if_pos hb]
            simpa [ints] using ho'
        · refine hC _ _ ⟨i + 1, hw, by omega, he, ?_⟩ (by simp only [hw]; omega)
          rw [mayL_succ, if_neg (by simp [hb]), List.append_nil]
          exact hown
    · have hge : ¬ (i : Int) < n := by simpa using hge
      have : i = n.toNat := by omega
      exact hJ _ _ ⟨he, this ▸ hown⟩
  · rintro s w1 ⟨he, hown⟩
    have hl := mayL_len self on idle n.toNat
    have hlen := hown.len
    simp only [ints, List.length_map] at hlen
    refine iteB_i (fun h0 => ?_) (fun h0 => ?_)
    · have h0 : s.n = 0 := by simpa using h0
      have e : mayL self on idle n.toNat = [] := List.eq_nil_of_length_eq_zero (by omega)
      refine hk _ _ he ?_
      rw [e]
      simpa [rot, ints] using Own.nil w1 _
    · have h0 : s.n ≠ 0 := by simpa using h0
      refine remI_i (by omega) (remI_i (by omega) ?_)
      have hf := rem_first (v := v) (m := s.n) (by omega) (by omega)
      simp only [remV] at hf
      rw [hf]
      have hf0 : 0 ≤ v % s.n := Int.emod_nonneg _ (by omega)
      have hf1 : v % s.n < s.n := Int.emod_lt_of_pos _ (by omega)
      refine mkSl_i (n := s.n) el24 rfl (B := w.heap.size) he.size (by omega) (by omega) fun so w2 hown2 he2 hn2 hc2 hb2 hs2 => ?_
      refine slL_own (hown.ext he2) hf0 (by omega) fun d hd hdn hdb hdo => ?_
      have hne : ∀ g, so.blk = some g → ∀ g', s.blk = some g' → g' ≠ g := by
        intro g hg g' hg' e
        have := (hown.below hg').2
        rw [hb2] at hg; cases hg; omega
      refine bCopy_i (lo := 0) el24 hown2 (Part.all so) hdo.sls (fun v hv => one_ints v (List.mem_of_mem_drop hv)) fun w3 ho3 hon3 hs3 => ?_
      rw [hn2, hdn, show min s.n (s.n - (v % s.n).toNat) = s.n - (v % s.n).toNat by omega] at ho3 ⊢
      refine slL_own ho3 (by omega) (by omega) fun d2 hd2 hdn2 hdb2 hdo2 => ?_
      have hs' : Sls 1 w3 s (ints (mayL self on idle n.toNat)) := (hown.ext he2).sls.keep hon3 fun p hp hg => hne _ hg _ (by simp [Sl.blk, hp]) rfl
      refine bCopy_i el24 ho3 hd2 hs' one_ints fun w4 ho4 hon4 hs4 => ?_
      refine hk _ _ ?_ ?_
      · exact ((he.trans he2).then hon3 (hown2.out (Nat.le_refl _))).then hon4 (hown2.out (Nat.le_refl _))
      · have e : rot v (mayL self on idle n.toNat) = (mayL self on idle n.toNat).drop (v % s.n).toNat ++ (mayL self on idle n.toNat).take (v % s.n).toNat := by rw [rot, hlen]
        rw [e]
        rw [hdn2, hn2, show min (s.n - ((s.n - (v % s.n).toNat : Nat) : Int).toNat) s.n = (v % s.n).toNat by omega] at ho4
        simp only [Int.toNat_natCast] at ho4
        rw [copy2 (by simp; omega) (by omega) (by simp)] at ho4
        simpa [ints] using ho4

end Go.Proofs.Ytkcakjckpbldoaa
