/-
  Layer 10: the numbers that are in it.
-/
import Derived.Test.YtheallacpidcmaaQn
set_option linter.unusedSimpArgs false
set_option linter.unusedVariables false
set_option maxRecDepth 100000
namespace Go.Proofs.Ytheallacpidcmaa
open Go Go.Ev Go.Proofs

/-- the places, from n on, at which it is true -/
def numsF (n : Int) : List Bool → List Int
  | [] => []
  | b :: l => (if b then [n] else []) ++ numsF (n + 1) l
abbrev nums (l : List Bool) : List Int := numsF 0 l
theorem numsF_append (a b : List Bool) : ∀ n, numsF n (a ++ b) = numsF n a ++ numsF (n + a.length) b := by
  induction a with
  | nil => intro n; simp [numsF]
  | cons x a ih =>
    intro n
    simp only [List.cons_append, numsF, ih, List.length_cons]
    rw [List.append_assoc, show n + 1 + (a.length : Int) = n + ((a.length + 1 : Nat) : Int) by omega]
theorem numsF_mem : ∀ (l : List Bool) (n : Int), ∀ g ∈ numsF n l, n ≤ g ∧ g < n + l.length ∧ l.getD (g - n).toNat false = true := by
  intro l
  induction l with
  | nil => intro n g hg; simp [numsF] at hg
  | cons x a ih =>
    intro n g hg
    simp only [numsF, List.mem_append] at hg
    rcases hg with hg | hg
    · cases x with
      | true => simp at hg; subst hg; simp; omega
      | false => simp at hg
    · obtain ⟨h1, h2, h3⟩ := ih (n + 1) g hg
      refine ⟨by omega, by simp; omega, ?_⟩
      rw [show (g - n).toNat = (g - (n + 1)).toNat + 1 by omega]
      simpa using h3
theorem numsF_none : ∀ (l : List Bool) (n : Int), (∀ k, l.getD k false = false) → numsF n l = [] := by
  intro l
  induction l with
  | nil => intro n _; rfl
  | cons x a ih =>
    intro n h
    have h0 := h 0
    simp at h0
    subst h0
    simp only [numsF]
    rw [ih (n + 1) fun k => by simpa using h (k + 1)]
    rfl
theorem nums_mem {l : List Bool} {g : Int} (h : g ∈ nums l) : 0 ≤ g ∧ g < l.length ∧ l.getD g.toNat false = true := by
  have := numsF_mem l 0 g h
  rw [show g - 0 = g by omega] at this
  exact ⟨this.1, by omega, this.2.2⟩
/-- cut at a place -/
theorem nums_cut {l : List Bool} {g : Nat} (hg : g < l.length) (b : Bool) : nums (l.set g b) = nums (l.take g) ++ (if b then [(g : Int)] else []) ++ numsF ((g : Int) + 1) (l.drop (g + 1)) := by
  rw [List.set_eq_take_append_cons_drop, if_pos hg, nums, numsF_append]
  simp only [numsF, List.length_take]
  rw [show (0 : Int) + ((min g l.length : Nat) : Int) = g by omega, List.append_assoc]
theorem nums_cut2 {l : List Bool} {g : Nat} (hg : g < l.length) : nums l = nums (l.take g) ++ (if l.getD g false then [(g : Int)] else []) ++ numsF ((g : Int) + 1) (l.drop (g + 1)) := by
  have h := nums_cut hg (l.getD g false)
  have e : l.set g (l.getD g false) = l := by
    rw [List.getD_eq_getElem?_getD, List.getElem?_eq_getElem hg]; simp
  rwa [e] at h
theorem nums_take_set {l : List Bool} {g : Nat} {b : Bool} : (l.set g b).take g = l.take g := by
  rw [List.take_set]; exact List.set_eq_of_length_le (by simp; omega)
/-- one more, behind -/
theorem nums_push {l : List Bool} {n : Nat} (hn : n < l.length) (h : ∀ k, l.getD k false = true → k < n) : nums (l.set n true) = nums l ++ [(n : Int)] := by
  rw [nums_cut hn, nums_cut2 hn]
  have h1 : l.getD n false = false := by
    cases q : l.getD n false with
    | true => have := h n q; omega
    | false => rfl
  have h2 : numsF ((n : Int) + 1) (l.drop (n + 1)) = [] := numsF_none _ _ fun k => by
    cases q : (l.drop (n + 1)).getD k false with
    | true =>
      have := h (n + 1 + k) (by simpa [List.getD_eq_getElem?_getD, List.getElem?_drop] using q)
      omega
    | false => rfl
  rw [h1, h2]; simp
/-- the first one is taken -/
theorem nums_first {l : List Bool} {g : Int} {r : List Int} (h : nums l = g :: r) : nums (l.set g.toNat false) = r ∧ nums ((l.set g.toNat false).take g.toNat) = [] := by
  have hm := nums_mem (l := l) (g := g) (by rw [h]; simp)
  have hlt : g.toNat < l.length := by omega
  have hc := nums_cut2 hlt
  rw [hm.2.2, if_pos rfl] at hc
  have hg : (g.toNat : Int) = g := by omega
  rw [hg] at hc
  rw [nums_take_set, nums_cut hlt false, hg]
  have e : nums (l.take g.toNat) = [] := by
    cases q : nums (l.take g.toNat) with
    | nil => rfl
    | cons a t =>
      exfalso
      rw [q, h] at hc
      simp at hc
      have := nums_mem (l := l.take g.toNat) (g := a) (by rw [q]; simp)
      simp at this
      omega
  rw [e] at hc ⊢
  rw [h] at hc
  simp at hc
  exact ⟨by simp [hc], rfl⟩
/-- the last one is taken -/
theorem nums_last {l : List Bool} {g : Int} {r : List Int} (h : nums l = r ++ [g]) : nums (l.set g.toNat false) = r ∧ nums ((l.set g.toNat false).take g.toNat) = r := by
  have hm := nums_mem (l := l) (g := g) (by rw [h]; simp)
  have hlt : g.toNat < l.length := by omega
  have hc := nums_cut2 hlt
  rw [hm.2.2, if_pos rfl] at hc
  have hg : (g.toNat : Int) = g := by omega
  rw [hg] at hc
  rw [nums_take_set, nums_cut hlt false, hg]
  have e : numsF (g + 1) (l.drop (g.toNat + 1)) = [] := by
    rcases List.eq_nil_or_concat (numsF (g + 1) (l.drop (g.toNat + 1))) with q | ⟨t, b, q⟩
    · exact q
    · exfalso
      have h1 := numsF_mem (l.drop (g.toNat + 1)) (g + 1) b (by rw [q]; simp)
      rw [q, h, List.concat_eq_append, ← List.append_assoc] at hc
      have := (List.append_inj' hc rfl).2
      simp at this
      omega
  rw [e] at hc ⊢
  rw [h] at hc
  simp only [List.append_nil] at hc ⊢
  have := (List.append_inj' hc rfl).1
  exact ⟨by simp [this], this.symm⟩

section
variable {w0 w : World} {L : List HP}
def bls (l : List Bool) : List Value := l.map Value.bool
theorem bls_get {l : List Bool} {i : Nat} (h : i < l.length) : (bls l)[i]? = some (.bool (l.getD i false)) := by simp [bls, h]
theorem ixBl_h {s : Sl} {xs : List Bool} {i : Int} {f : HP → List HP} {c : Bool → Prop} (h : St w0 w L) [a : At L (slc 1 s) (bls xs) f] (h0 : 0 ≤ i) (h1 : i < xs.length) (hc : c (xs.getD i.toNat false)) : ixS s i 1 fun a => ldB w a c := by
  have hn : xs.length = s.n := by have := h.slen (sz := 1) (s := s) (vs := bls xs); simpa [bls] using this
  refine ixS_h h (by omega) h0 (by omega) fun g o _ hr _ => ldB_i ?_ hc
  have := hr h 0 _ (by omega) (bls_get (i := i.toNat * 1 + 0) (by omega))
  simpa using this
theorem ixBlst_h {s : Sl} {xs : List Bool} {i : Int} {x : Bool} {f : HP → List HP} {c : World → Prop} (h : St w0 w L) [a : At L (slc 1 s) (bls xs) f] (h0 : 0 ≤ i) (h1 : i < xs.length) (hc : ∀ w', St w0 w' (f (slc 1 s (bls (xs.set i.toNat x)))) → c w') : ixS s i 1 fun a => stC w a (.bool x) c := by
  have hn : xs.length = s.n := by have := h.slen (sz := 1) (s := s) (vs := bls xs); simpa [bls] using this
  refine ixS_h h (by omega) h0 (by omega) fun g o _ _ hs => ?_
  have := hs h a 0 (.bool x) c (by omega) rfl fun w' h' => hc w' (by
    have e : (bls xs).set (i.toNat * 1 + 0) (.bool x) = bls (xs.set i.toNat x) := by simp [bls, List.map_set]
    rwa [e] at h')
  simpa using this

theorem bls_len (l : List Bool) : (bls l).length = l.length := by simp [bls]
theorem sls_bl {s : Sl} {l : List Bool} (h : Sls 1 w s (bls l)) : s.n = l.length := by have := h.len; simp [bls] at this; omega
theorem ixBr {w2 : World} {s : Sl} {l : List Bool} {j : Nat} {c : Bool → Prop} (h : Sls 1 w s (bls l)) (h1 : j < l.length) (hw : Ext w w2) (hc : c (l.getD j false)) : ixS s (j : Int) 1 fun a => ldB w2 a c := by
  have hl := sls_bl h
  refine ixS_i h (by omega) (by omega) (by omega) fun p _ hcell => ?_
  have := hcell 0 (.bool (l.getD j false)) (by omega) (by simpa using bls_get h1)
  exact ldB_i (hw.cell (by simpa [add_zero] using this)) hc
theorem count_s {s : Sl} {l : List Bool} {k : Int → World → Prop} (h : Sls 1 w s (bls l)) (hn : l.length ≤ 1000) (hk : k (((nums l).length : Nat) : Int) w) : pelotonlaw10_count s w k := by
  have hl := sls_bl h
  unfold pelotonlaw10_count
  refine loopP_of (fun (x : Int × Int) w' => w = w' ∧ ∃ j : Nat, x = (((nums (l.take j)).length : Int), (j : Int)) ∧ j ≤ l.length) (fun x _ => ((l.length : Int) - x.2).toNat) ⟨rfl, 0, rfl, by omega⟩ ?_
  rintro _ _ ⟨rfl, j, rfl, hj⟩ C hC
  dsimp only
  refine iteB_i (fun hb => ?_) fun hb => ?_
  · have hb := of_decide_eq_true hb
    have hlt : j < l.length := by omega
    have hle : (nums (l.take j)).length ≤ j := by
      have : ∀ (a : List Bool) (n : Int), (numsF n a).length ≤ a.length := by
        intro a
        induction a with
        | nil => intro n; simp [numsF]
        | cons x a ih => intro n; have := ih (n + 1); cases x <;> simp [numsF] <;> omega
      have := this (l.take j) 0
      rw [List.length_take] at this
      show (numsF 0 (l.take j)).length ≤ j
      omega
    have ht : nums (l.take (j + 1)) = nums (l.take j) ++ (if l.getD j false then [(j : Int)] else []) := by
      rw [List.take_add_one, List.getElem?_eq_getElem hlt, nums, numsF_append]
      simp only [Option.toList_some, List.length_take, numsF, List.append_nil]
      rw [show (0 : Int) + ((min j l.length : Nat) : Int) = j by omega, List.getD_eq_getElem?_getD, List.getElem?_eq_getElem hlt]; rfl
    have hwj : IntKind.wrap .i64 ((j : Int) + 1) = ((j + 1 : Nat) : Int) := by rw [wrap_id ⟨by omega, by omega⟩]; omega
    have hwc : IntKind.wrap .i64 (((nums (l.take j)).length : Int) + 1) = (((nums (l.take j)).length + 1 : Nat) : Int) := by rw [wrap_id ⟨by omega, by omega⟩]; omega
    refine ixBr h hlt (.refl _ _) ?_
    rw [hwj, hwc]
    refine iteB_i (fun hq => ?_) fun hq => ?_
    · rw [hq, if_pos rfl] at ht
      exact hC _ _ ⟨rfl, j + 1, by rw [ht, List.length_append]; rfl, by omega⟩ (by dsimp only; omega)
    · rw [hq] at ht
      exact hC _ _ ⟨rfl, j + 1, by rw [ht]; simp, by omega⟩ (by dsimp only; omega)
  · have hb := of_decide_eq_false hb
    have : j = l.length := by omega
    subst this
    rw [List.take_length]; exact hk
theorem lies_s {s t : Sl} {xs : List Int} {l : List Bool} {k : Bool → World → Prop} (h1 : SlI w s xs) (h : Sls 1 w t (bls l)) (hn : l.length ≤ 1000) (hx : xs.length ≤ 1000) (hk : xs = nums l → k true w) (hne : xs = nums l) : pelotonlaw10_lies s t w k := by
  have hl := sls_bl h
  have hls := SlI.len h1
  have hk := hk hne
  unfold pelotonlaw10_lies
  refine loopP_of (fun (x : Int × Int) w' => w = w' ∧ ∃ j : Nat, x = (((nums (l.take j)).length : Int), (j : Int)) ∧ j ≤ l.length) (fun x _ => ((l.length : Int) - x.2).toNat) ⟨rfl, 0, rfl, by omega⟩ ?_
  rintro _ _ ⟨rfl, j, rfl, hj⟩ C hC
  dsimp only
  refine iteB_i (fun hb => ?_) fun hb => ?_
  · have hb := of_decide_eq_true hb
    have hlt : j < l.length := by omega
    have hc := nums_cut2 hlt
    have ht : nums (l.take (j + 1)) = nums (l.take j) ++ (if l.getD j false then [(j : Int)] else []) := by
      rw [List.take_add_one, List.getElem?_eq_getElem hlt, nums, numsF_append]
      simp only [Option.toList_some, List.length_take, numsF, List.append_nil]
      rw [show (0 : Int) + ((min j l.length : Nat) : Int) = j by omega, List.getD_eq_getElem?_getD, List.getElem?_eq_getElem hlt]; rfl
    have hlen : (nums (l.take j)).length ≤ xs.length := by rw [hne, hc]; simp <;> omega
    have hwj : IntKind.wrap .i64 ((j : Int) + 1) = ((j + 1 : Nat) : Int) := by rw [wrap_id ⟨by omega, by omega⟩]; omega
    have hwc : IntKind.wrap .i64 (((nums (l.take j)).length : Int) + 1) = (((nums (l.take j)).length + 1 : Nat) : Int) := by rw [wrap_id ⟨by omega, by omega⟩]; omega
    refine ixBr h hlt (.refl _ _) ?_
    rw [hwj, hwc]
    refine iteB_i (fun hq => ?_) fun hq => ?_
    · rw [hq, if_pos rfl] at ht hc
      have hlt2 : (nums (l.take j)).length < xs.length := by rw [hne, hc]; simp <;> omega
      have hget : xs[(nums (l.take j)).length]? = some (j : Int) := by rw [hne, hc]; simp
      refine joinP_i (fun b w' => b = false ∧ w = w') (fun J hJ => ?_) ?_
      · refine iteB_f (by rw [decide_eq_false_iff_not]; omega) (ixI h1 (by omega) (by omega) (.refl _ _) fun x hx => hJ _ _ ⟨?_, rfl⟩)
        rw [Int.toNat_natCast, hget] at hx
        rw [← Option.some.inj hx]; simp
      rintro b w10 ⟨rfl, rfl⟩
      exact iteB_f rfl (hC _ _ ⟨rfl, j + 1, by rw [ht, List.length_append]; rfl, by omega⟩ (by dsimp only; omega))
    · rw [hq] at ht
      exact hC _ _ ⟨rfl, j + 1, by rw [ht]; simp, by omega⟩ (by dsimp only; omega)
  · have hb := of_decide_eq_false hb
    have : j = l.length := by omega
    subst this
    have e : (((nums (l.take l.length)).length : Int) == (s.n : Int)) = true := by rw [List.take_length, ← hne, hls]; simp
    rw [e]; exact hk
theorem who_s {a b c : Int} {k : Int → World → Prop} (h : St w0 w L) (hk : ∀ i w', i < 4 → St w0 w' L → k ((i : Nat) : Int) w') : pelotonlaw10_who #[.int .i64 a, .int .i64 b, .int .i64 c] w k := by
  unfold pelotonlaw10_who
  refine newC_h h fun g w2 h => ldI_h (g := g) (o := 0) h rfl ?_
  have hm1 := Int.tmod_lt_of_pos a (b := 4) (by omega)
  have hm2 : -4 < a.tmod 4 := Int.lt_tmod_of_pos a (by omega)
  have e : IntKind.wrap .i64 (remV a 4 + 4) = a.tmod 4 + 4 := wrap_id ⟨by unfold remV; omega, by unfold remV; omega⟩
  rw [e]
  have h1 := Int.tmod_lt_of_pos (a.tmod 4 + 4) (b := 4) (by omega)
  have h2 := Int.tmod_nonneg (a := a.tmod 4 + 4) 4 (by omega)
  have e2 : remV (a.tmod 4 + 4) 4 = (((a.tmod 4 + 4).tmod 4).toNat : Int) := by unfold remV; omega
  rw [e2]
  exact hk _ w2 (by omega) h.drop
end
theorem perm_at {α : Type} : ∀ {l : List α} {i : Nat} (h : i < l.length), l.Perm (l[i] :: l.eraseIdx i) := by
  intro l
  induction l with
  | nil => intro i h; simp at h
  | cons x l ih =>
    intro i h
    cases i with
    | zero => exact .refl _
    | succ i => exact (List.Perm.cons x (ih (by simpa using h))).trans (.swap _ _ _)
theorem perm_set {α : Type} {x : α} : ∀ {l : List α} {i : Nat} (h : i < l.length), (x :: l.eraseIdx i).Perm (l.set i x) := by
  intro l
  induction l with
  | nil => intro i h; simp at h
  | cons y l ih =>
    intro i h
    cases i with
    | zero => exact .refl _
    | succ i => exact (List.Perm.swap _ _ _).trans (List.Perm.cons y (ih (by simpa using h)))
end Go.Proofs.Ytheallacpidcmaa
