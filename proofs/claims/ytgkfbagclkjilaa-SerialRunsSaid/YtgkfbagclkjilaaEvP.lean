/-
  Blocks of numbers; calls that leave what was there.
-/
import Derived.Test.YtgkfbagclkjilaaEvI
set_option linter.unusedSimpArgs false
set_option linter.unusedVariables false
namespace Go.Ev
open Go

/-- a block of numbers -/
abbrev BI (w : World) (g : Nat) (l : List Int) : Prop := Blk w g (ints l).toArray
/-- numbers as an aggregate's cells -/
abbrev agI (l : List Int) : Array Value := (ints l).toArray

theorem ints_get {l : List Int} {o : Nat} (h : o < l.length) : (agI l)[o]? = some (.int .i64 (l.getD o 0)) := by
  simp [agI, ints, List.getD_eq_getElem?_getD, h]
theorem BI.cell {w : World} {g : Nat} {l : List Int} (h : BI w g l) {o : Nat} (ho : o < l.length) : w.cell? ⟨g, o, none⟩ = some (.int .i64 (l.getD o 0)) := by
  rw [Blk.cell h, ints_get ho]
theorem ldP_I {w : World} {g o : Nat} {l : List Int} {c : Int → Prop} (h : BI w g l) (ho : o < l.length) (hc : c (l.getD o 0)) : ldI .i64 w ⟨g, o, none⟩ c := ldI_i (h.cell ho) hc
theorem ints_set {l : List Int} {o : Nat} {x : Int} : (agI l).setIfInBounds o (.int .i64 x) = agI (l.set o x) := by
  simp [agI, ints, List.map_set]
theorem stC_I {w : World} {g o : Nat} {l : List Int} {x : Int} {c : World → Prop} (h : BI w g l) (ho : o < l.length) (hc : ∀ w', BI w' g (l.set o x) → w'.heap.size = w.heap.size → Only (fun k => k = g) w w' → c w') : stC w ⟨g, o, none⟩ (.int .i64 x) c :=
  stC_i rfl h (by simpa [agI, ints] using ho) fun w' hb hs ho => hc w' (by rw [ints_set] at hb; exact hb) hs ho
theorem blk_eq {w : World} {g : Nat} {a b : Array Value} (h : Blk w g a) (e : ∀ j : Nat, a[j]? = b[j]?) : Blk w g b := by
  have : a = b := by
    obtain ⟨a⟩ := a; obtain ⟨b⟩ := b
    congr 1
    exact List.ext_getElem? fun j => by simpa using e j
  rwa [← this]
/-- a whole block is written over -/
theorem stA_I {w : World} {g n : Nat} {l : List Int} {cs : Array Value} {c : World → Prop} (h : Blk w g cs) (hs : cs.size = n) (hl : l.length = n) (hc : ∀ w', BI w' g l → w'.heap.size = w.heap.size → Only (fun k => k = g) w w' → c w') : stA n w ⟨g, 0, none⟩ (agI l) c := by
  refine stA_i h (by simpa [agI, ints] using hl) (by omega) (fun v hv => one_ints v (by simpa [agI] using hv)) fun w' cs' hb hz hk hv ho hs' => hc w' (blk_eq hb fun j => ?_) hs' ho
  by_cases hj : j < n
  · have := hv j hj; rwa [Nat.zero_add] at this
  · rw [Array.getElem?_eq_none (by omega), Array.getElem?_eq_none (by simp [agI, ints]; omega)]
/-- a part of a block is written over -/
theorem stA_P {w : World} {g n o : Nat} {l l' : List Int} {c : World → Prop} (h : BI w g l) (hl : l'.length = n) (ho : o + n ≤ l.length) (hc : ∀ w', BI w' g (l.take o ++ (l' ++ l.drop (o + n))) → w'.heap.size = w.heap.size → Only (fun k => k = g) w w' → c w') : stA n w ⟨g, o, none⟩ (agI l') c := by
  refine stA_i h (by simpa [agI, ints] using hl) (by simpa [agI, ints] using ho) (fun v hv => one_ints v (by simpa [agI] using hv)) fun w' cs' hb hz hk hv hon hs' => hc w' (blk_eq hb fun j => ?_) hs' hon
  have hz' : cs'.size = l.length := by simpa [agI, ints] using hz
  by_cases h1 : j < o
  · rw [hk j (.inl h1)]
    simp only [agI, ints, List.getElem?_toArray, List.getElem?_map]
    rw [List.getElem?_append_left (by simp; omega), List.getElem?_take_of_lt h1]
  · by_cases h2 : j < o + n
    · have := hv (j - o) (by omega)
      rw [show o + (j - o) = j by omega] at this
      rw [this]
      simp only [agI, ints, List.getElem?_toArray, List.getElem?_map]
      rw [List.getElem?_append_right (by simp; omega), List.getElem?_append_left (by simp; omega)]
      congr 2
      simp; omega
    · rw [hk j (.inr (by omega))]
      simp only [agI, ints, List.getElem?_toArray, List.getElem?_map]
      rw [List.getElem?_append_right (by simp; omega), List.getElem?_append_right (by simp; omega), List.getElem?_drop]
      congr 2
      simp; omega
/-- a whole block is read -/
theorem ldA_I {w : World} {g n : Nat} {l : List Int} {c : Array Value → Prop} (h : BI w g l) (hl : l.length = n) (hc : c (agI l)) : ldA n w ⟨g, 0, none⟩ c := by
  refine ldA_i h (by simp [agI, ints]; omega) ?_
  have : ((agI l).toList.drop 0).take n = ints l := by simp [agI, ints, List.take_of_length_le, hl]
  rw [this]; exact hc
/-- a part of a block is read -/
theorem ldA_P {w : World} {g n o : Nat} {l : List Int} {c : Array Value → Prop} (h : BI w g l) (hl : o + n ≤ l.length) (hc : c (agI ((l.drop o).take n))) : ldA n w ⟨g, o, none⟩ c := by
  refine ldA_i h (by simpa [agI, ints] using hl) ?_
  have : ((agI l).toList.drop o).take n = ints ((l.drop o).take n) := by simp [agI, ints, List.map_take, List.map_drop]
  rw [this]; exact hc
/-- a value of an aggregate of numbers -/
theorem ixA_I {l : List Int} {n : Nat} {i : Int} {c : Value → Prop} (h0 : 0 ≤ i) (h1 : i < n) (hl : l.length = n) (hc : c (.int .i64 (l.getD i.toNat 0))) : ixA (agI l) n i c := by
  refine ⟨⟨h0, h1⟩, ?_⟩
  unfold ptA
  rw [ints_get (by omega)]
  exact hc
theorem ptA_I {l : List Int} {o : Nat} {c : Value → Prop} (h1 : o < l.length) (hc : c (.int .i64 (l.getD o 0))) : ptA (agI l) o c := by
  unfold ptA
  rw [ints_get h1]
  exact hc
theorem toI_i {n : Int} {c : Int → Prop} (h : c n) : toI .i64 (.int .i64 n) c := h
theorem samec_i {n : Nat} {a : Addr} {w w' : World} {c : Prop} (h : ∀ k, k < n → w'.cell? (a.add k) = w.cell? (a.add k)) (hc : c) : samec n a w w' c := ⟨h, hc⟩
/-- a load that was done stands -/
theorem samec_B {g o n : Nat} {w w' : World} {cs : Array Value} {c : Prop} (h : Blk w g cs) (h' : Blk w' g cs) (hc : c) : samec n ⟨g, o, none⟩ w w' c :=
  ⟨fun k _ => by rw [add_mk, h.cell, h'.cell], hc⟩

/-- equality of aggregates of numbers: at all offsets 0 to n-1 -/
theorem eqOffs_ints : ∀ (os : List Nat) (xs ys : List Int), (∀ o ∈ os, o < xs.length ∧ o < ys.length) → eqOffs (agI xs) (agI ys) (os.map fun o => (o, 0)) = some (os.all fun o => xs.getD o 0 == ys.getD o 0)
  | [], _, _, _ => rfl
  | o :: os, xs, ys, h => by
    have h1 := h o (by simp)
    simp only [List.map_cons, eqOffs, ints_get h1.1, ints_get h1.2, eqC, if_true]
    rw [eqOffs_ints os xs ys fun o ho => h o (by simp [ho])]
    simp
theorem eqA_I {n : Nat} {xs ys : List Int} {c : Bool → Prop} (hx : xs.length = n) (hy : ys.length = n) (hc : c (decide (xs = ys))) : eqA ((List.range n).map fun o => (o, 0)) (agI xs) (agI ys) c := by
  unfold eqA
  rw [eqOffs_ints _ _ _ fun o ho => by simp at ho; omega]
  have e : ((List.range n).all fun o => xs.getD o 0 == ys.getD o 0) = decide (xs = ys) := by
    rw [Bool.eq_iff_iff, decide_eq_true_eq, List.all_eq_true]
    constructor
    · intro h
      apply List.ext_getElem?
      intro j
      by_cases hj : j < n
      · have := h j (by simpa using hj)
        simp only [List.getD_eq_getElem?_getD, beq_iff_eq] at this
        rw [List.getElem?_eq_getElem (by omega), List.getElem?_eq_getElem (by omega)] at this ⊢
        simpa using this
      · rw [List.getElem?_eq_none (by omega), List.getElem?_eq_none (by omega)]
    · rintro rfl o _; simp
  rw [e]; exact hc

theorem getD_set_ne {l : List Int} {i j : Nat} {x d : Int} (h : i ≠ j) : (l.set i x).getD j d = l.getD j d := by
  simp [List.getD_eq_getElem?_getD, List.getElem?_set_ne h]
theorem getD_set_eq {l : List Int} {i : Nat} {x d : Int} (h : i < l.length) : (l.set i x).getD i d = x := by
  simp [List.getD_eq_getElem?_getD, h]

theorem take_set_self (L : List Value) (n : Nat) (v : Value) : (L.set n v).take n = L.take n := by
  apply List.ext_getElem?
  intro j
  rw [List.getElem?_take, List.getElem?_take]
  split
  · rw [List.getElem?_set_ne (by omega)]
  · rfl
theorem drop_set_lt (L : List Value) (n m : Nat) (v : Value) (h : n < m) : (L.set n v).drop m = L.drop m := by
  apply List.ext_getElem?
  intro j
  rw [List.getElem?_drop, List.getElem?_drop, List.getElem?_set_ne (by omega)]
theorem fold_setL (off : Nat) : ∀ (cs : List Value) (k : Nat) (L : List Value), off + k + cs.length ≤ L.length →
    (cs.zipIdx k).foldl (fun (a : List Value) (x : Value × Nat) => a.set (off + x.2) x.1) L = L.take (off + k) ++ (cs ++ L.drop (off + k + cs.length))
  | [], k, L, h => by simp
  | v :: cs, k, L, h => by
    simp only [List.length_cons] at h
    rw [List.zipIdx_cons, List.foldl_cons, fold_setL off cs (k + 1) _ (by simp; omega)]
    simp only [List.length_cons]
    rw [drop_set_lt _ _ _ _ (by omega), show off + (k + 1) = off + k + 1 by omega, List.take_add_one, take_set_self, List.getElem?_set_self (by omega)]
    rw [show off + k + 1 + cs.length = off + k + (cs.length + 1) by omega]
    simp
theorem fold_toList (off : Nat) : ∀ (l : List (Value × Nat)) (acc : Array Value), (l.foldl (fun (a : Array Value) (x : Value × Nat) => a.setIfInBounds (off + x.2) x.1) acc).toList = l.foldl (fun (a : List Value) (x : Value × Nat) => a.set (off + x.2) x.1) acc.toList
  | [], _ => rfl
  | x :: l, acc => by rw [List.foldl_cons, List.foldl_cons, fold_toList off l]; simp
theorem fold_set (off : Nat) (cs : List Value) (acc : Array Value) (h : off + cs.length ≤ acc.size) :
    (cs.zipIdx 0).foldl (fun (a : Array Value) (x : Value × Nat) => a.setIfInBounds (off + x.2) x.1) acc = (acc.toList.take off ++ (cs ++ acc.toList.drop (off + cs.length))).toArray := by
  have h1 := fold_toList off (cs.zipIdx 0) acc
  rw [fold_setL off cs 0 _ (by simpa using h), Nat.add_zero] at h1
  rw [← h1]
/-- a row's part, whatever it holds -/
theorem spl_V {acc cs : List Value} {off size : Nat} {c : Array Value → Prop} (r : List Value) (h : cs.length = size) (ho : off + size ≤ acc.length) (hr : acc.take off ++ (cs ++ acc.drop (off + size)) = r) (hc : c r.toArray) : spl acc.toArray off size cs.toArray c := by
  refine ⟨by simp [h], ?_⟩
  have := fold_set off cs acc.toArray (by simp; omega)
  rw [← Array.foldl_toList]
  have e : cs.toArray.zipIdx.toList = cs.zipIdx 0 := by simp
  rw [e]
  have e2 : (fun (cs : Array Value) (x : Value × Nat) => cs.setIfInBounds (off + x.2) x.1) = fun (cs : Array Value) (x : Value × Nat) => match x with | (x, j) => cs.setIfInBounds (off + j) x := by
    funext cs x; cases x; rfl
  rw [e2] at this
  rw [this]
  have e3 : acc.toArray.toList = acc := rfl
  rw [e3, h, hr]; exact hc
/-- a row's part, numbers -/
theorem spl_I {l l' : List Int} {off size : Nat} {c : Array Value → Prop} (h : l'.length = size) (ho : off + size ≤ l.length) (hc : c (agI (l.take off ++ (l' ++ l.drop (off + size))))) : spl (agI l) off size (agI l') c := by
  refine ⟨by simp [agI, ints, h], ?_⟩
  have := fold_set off (ints l') (agI l) (by simp [agI, ints]; omega)
  rw [← Array.foldl_toList]
  have e : (agI l').zipIdx.toList = (ints l').zipIdx 0 := by simp [agI]
  rw [e]
  have e2 : (fun (cs : Array Value) (x : Value × Nat) => cs.setIfInBounds (off + x.2) x.1) = fun (cs : Array Value) (x : Value × Nat) => match x with | (x, j) => cs.setIfInBounds (off + j) x := by
    funext cs x; cases x; rfl
  rw [e2] at this
  rw [this]
  have e3 : ((agI l).toList.take off ++ (ints l' ++ (agI l).toList.drop (off + (ints l').length))).toArray = agI (l.take off ++ (l' ++ l.drop (off + size))) := by
    simp [agI, ints, List.map_take, List.map_drop, h]
  rw [e3]; exact hc
/-- a written row's part -/
theorem spl_i {acc cs : Array Value} {off size : Nat} {c : Array Value → Prop} (r : Array Value) (h : cs.size = size) (hr : cs.zipIdx.foldl (fun cs (x, j) => cs.setIfInBounds (off + j) x) acc = r) (hc : c r) : spl acc off size cs c := by
  subst hr; exact ⟨h, hc⟩

theorem ldV_i {w : World} {a : Addr} {v : Value} {c : Value → Prop} (h : w.cell? a = some v) (hc : c v) : ldV w a c := by
  simp only [ldV, rd, h]; exact hc
theorem ixS_b {g o n c sz : Nat} {i : Int} {k : Addr → Prop} (h0 : 0 ≤ i) (h1 : i < n) (hk : k ⟨g, o + i.toNat * sz, none⟩) : ixS ⟨some ⟨g, o, none⟩, n, c⟩ i sz k := ⟨⟨h0, h1⟩, by rw [add_mk]; exact hk⟩

end Go.Ev
