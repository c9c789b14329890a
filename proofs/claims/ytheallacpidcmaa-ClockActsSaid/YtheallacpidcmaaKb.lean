/-
  Deadlines as a heap, and in order: in plain Lean.
-/
import Derived.Test.YtheallacpidcmaaKa
set_option linter.unusedSimpArgs false
set_option linter.unusedVariables false
set_option maxRecDepth 100000
namespace Go.Proofs.Ytheallacpidcmaa
open Go Go.Ev Go.Proofs

abbrev DL := List (Int × Int)
def lt2 (a b : Int × Int) : Prop := a.1 < b.1 ∨ (a.1 = b.1 ∧ a.2 < b.2)
instance (a b : Int × Int) : Decidable (lt2 a b) := by unfold lt2; infer_instance
def gd (d : DL) (k : Nat) : Int × Int := d.getD k (0, 0)
def par (k : Nat) : Nat := (k - 1) / 2
def HH (d : DL) (n : Nat) : Prop := ∀ k, 1 ≤ k → k < n → ¬ lt2 (gd d k) (gd d (par k))
structure HU (d : DL) (n j : Nat) : Prop where
  a : ∀ k, 1 ≤ k → k < n → k ≠ j → ¬ lt2 (gd d k) (gd d (par k))
  b : ∀ k, 1 ≤ k → k < n → par k = j → 1 ≤ j → ¬ lt2 (gd d k) (gd d (par j))
structure HD (d : DL) (n i0 i : Nat) : Prop where
  a : ∀ k, 1 ≤ k → k < n → par k ≠ i → ¬ (k = i0 ∧ i = i0) → ¬ lt2 (gd d k) (gd d (par k))
  b : ∀ k, 1 ≤ k → k < n → par k = i → 1 ≤ i → ¬ lt2 (gd d k) (gd d (par i))
def swp (d : DL) (i j : Nat) : DL := (d.set i (gd d j)).set j (gd d i)
theorem swp_len (d : DL) (i j : Nat) : (swp d i j).length = d.length := by simp [swp]
theorem gd_swp {d : DL} {i j k : Nat} (hi : i < d.length) (hj : j < d.length) : gd (swp d i j) k = if k = j then gd d i else if k = i then gd d j else gd d k := by
  unfold gd swp
  simp only [List.getD_eq_getElem?_getD, List.getElem?_set, List.length_set]
  by_cases h1 : k = j
  · subst h1; simp [hj, gd, List.getD_eq_getElem?_getD]
  · by_cases h2 : k = i
    · subst h2
      rw [if_neg (fun q => h1 q.symm), if_pos rfl, if_pos hi, if_neg h1, if_pos rfl]
      rfl
    · rw [if_neg (fun q => h1 q.symm), if_neg (fun q => h2 q.symm), if_neg h1, if_neg h2]
theorem swp_perm {d : DL} {i j : Nat} (hi : i < d.length) (hj : j < d.length) : (swp d i j).Perm d := by
  have e1 : gd d j = d[j] := by unfold gd; rw [List.getD_eq_getElem?_getD, List.getElem?_eq_getElem hj]; rfl
  have e2 : gd d i = d[i] := by unfold gd; rw [List.getD_eq_getElem?_getD, List.getElem?_eq_getElem hi]; rfl
  unfold swp
  rw [e1, e2]
  exact List.set_set_perm hi hj
theorem lt2_trans {a b c : Int × Int} (h1 : ¬ lt2 a b) (h2 : ¬ lt2 b c) : ¬ lt2 a c := by unfold lt2 at *; omega
theorem lt2_lt {a b c : Int × Int} (h1 : ¬ lt2 a b) (h2 : lt2 c b) : ¬ lt2 a c := by unfold lt2 at *; omega
theorem lt2_asymm {a b : Int × Int} (h : lt2 a b) : ¬ lt2 b a := by unfold lt2 at *; omega
theorem lt2_tr {a b c : Int × Int} (h1 : lt2 a b) (h2 : lt2 b c) : lt2 a c := by unfold lt2 at *; omega
theorem lt2_irr (a : Int × Int) : ¬ lt2 a a := by unfold lt2; omega
theorem lt2_tot {a b : Int × Int} (h : ¬ lt2 a b) (hn : a ≠ b) : lt2 b a := by
  obtain ⟨a1, a2⟩ := a; obtain ⟨b1, b2⟩ := b
  unfold lt2 at *
  dsimp only at *
  have : ¬ (a1 = b1 ∧ a2 = b2) := fun q => hn (by rw [q.1, q.2])
  omega
theorem par_lt {k : Nat} (h : 1 ≤ k) : par k < k := by unfold par; omega
theorem hu_swap {d : DL} {n j : Nat} (h : HU d n j) (hn : n ≤ d.length) (h1 : 1 ≤ j) (hj : j < n) (hl : lt2 (gd d j) (gd d (par j))) : HU (swp d (par j) j) n (par j) := by
  have hp := par_lt h1
  have g : ∀ k, gd (swp d (par j) j) k = if k = j then gd d (par j) else if k = par j then gd d j else gd d k := fun k => gd_swp (by omega) (by omega)
  refine ⟨fun k k1 kn kj => ?_, fun k k1 kn kp p1 => ?_⟩
  · rw [g, g]
    have hpk := par_lt k1
    by_cases e1 : k = j
    · subst e1
      rw [if_pos rfl, if_neg (by omega), if_pos rfl]
      exact lt2_asymm hl
    · rw [if_neg e1, if_neg kj]
      by_cases e2 : par k = j
      · rw [if_pos e2]; exact h.b k k1 kn e2 h1
      · rw [if_neg e2]
        by_cases e3 : par k = par j
        · rw [if_pos e3]
          have := h.a k k1 kn e1
          rw [e3] at this
          exact lt2_lt this hl
        · rw [if_neg e3]; exact h.a k k1 kn e1
  · have hpk := par_lt k1
    have hpp := par_lt p1
    have h0 := h.a (par j) p1 (by omega) (by omega)
    have eg : gd (swp d (par j) j) (par (par j)) = gd d (par (par j)) := by rw [g, if_neg (by omega), if_neg (by omega)]
    rw [eg]
    by_cases e1 : k = j
    · rw [g, if_pos e1]; exact h0
    · rw [g, if_neg e1, if_neg (by omega)]
      have := h.a k k1 kn e1
      rw [kp] at this
      exact lt2_trans this h0
theorem hu_end {d : DL} {n j : Nat} (h : HU d n j) (he : j = 0 ∨ ¬ lt2 (gd d j) (gd d (par j))) : HH d n := by
  intro k k1 kn
  by_cases e : k = j
  · subst e
    rcases he with he | he
    · omega
    · exact he
  · exact h.a k k1 kn e
theorem hd_swap {d : DL} {n i0 i j : Nat} (h : HD d n i0 i) (hn : n ≤ d.length) (hi0 : i0 ≤ i) (h1 : 1 ≤ j) (hj : j < n) (hp : par j = i) (hm : ∀ k, 1 ≤ k → k < n → par k = i → ¬ lt2 (gd d k) (gd d j)) (hl : lt2 (gd d j) (gd d i)) : HD (swp d i j) n i0 j := by
  have hpj := par_lt h1
  rw [hp] at hpj
  have g : ∀ k, gd (swp d i j) k = if k = j then gd d i else if k = i then gd d j else gd d k := fun k => gd_swp (by omega) (by omega)
  refine ⟨fun k k1 kn kj _ => ?_, fun k k1 kn kp _ => ?_⟩
  · have hpk := par_lt k1
    rw [g, g]
    by_cases e1 : k = j
    · subst e1
      rw [if_pos rfl, if_neg (by omega), if_pos hp]
      exact lt2_asymm hl
    · rw [if_neg e1, if_neg kj]
      by_cases e2 : k = i
      · subst e2
        rw [if_pos rfl, if_neg (by omega)]
        exact h.b j h1 hj hp k1
      · rw [if_neg e2]
        by_cases e3 : par k = i
        · rw [if_pos e3]; exact hm k k1 kn e3
        · rw [if_neg e3]; exact h.a k k1 kn e3 (by omega)
  · have hpk := par_lt k1
    rw [g, g, hp, if_neg (by omega), if_neg (by omega), if_neg (by omega), if_pos rfl]
    have := h.a k k1 kn (by omega) (by omega)
    rw [kp] at this
    exact this
theorem hd_end {d : DL} {n i0 i : Nat} (h : HD d n i0 i) (he : ∀ k, 1 ≤ k → k < n → par k = i → ¬ lt2 (gd d k) (gd d i)) : (i ≠ i0 → HH d n) ∧ (i = i0 → HU d n i0) := by
  refine ⟨fun hi k k1 kn => ?_, fun hi => ⟨fun k k1 kn kj => ?_, fun k k1 kn kp p1 => ?_⟩⟩
  · by_cases e : par k = i
    · rw [e]; exact he k k1 kn e
    · exact h.a k k1 kn e (by omega)
  · by_cases e : par k = i
    · rw [e]; exact he k k1 kn e
    · exact h.a k k1 kn e (by omega)
  · subst hi; exact h.b k k1 kn kp p1
theorem hh_root {d : DL} {n : Nat} (h : HH d n) : ∀ k, k < n → ¬ lt2 (gd d k) (gd d 0) := by
  intro k
  induction k using Nat.strongRecOn with
  | _ k ih =>
    intro hk
    by_cases e : k = 0
    · subst e; exact lt2_irr _
    · have := par_lt (k := k) (by omega)
      exact lt2_trans (h k (by omega) hk) (ih (par k) this (by omega))
theorem gd_app {d : DL} {x : Int × Int} {k : Nat} (h : k < d.length) : gd (d ++ [x]) k = gd d k := by
  unfold gd
  rw [List.getD_eq_getElem?_getD, List.getD_eq_getElem?_getD, List.getElem?_append_left h]
theorem hu_push {d : DL} {x : Int × Int} (h : HH d d.length) : HU (d ++ [x]) (d.length + 1) d.length := by
  refine ⟨fun k k1 kn kj => ?_, fun k k1 kn kp p1 => ?_⟩
  · have := par_lt k1
    rw [gd_app (by omega), gd_app (by omega)]
    exact h k k1 (by omega)
  · have := par_lt k1
    omega
theorem hd_cut {d : DL} {i m : Nat} (h : HH d d.length) (hm : m + 1 = d.length) (hi : i < m) : HD (swp d i m) m i i := by
  have g : ∀ k, gd (swp d i m) k = if k = m then gd d i else if k = i then gd d m else gd d k := fun k => gd_swp (by omega) (by omega)
  refine ⟨fun k k1 kn kp kk => ?_, fun k k1 kn kp p1 => ?_⟩
  · have := par_lt k1
    rw [g, g, if_neg (by omega), if_neg (by omega), if_neg (by omega), if_neg kp]
    exact h k k1 (by omega)
  · have h1 := par_lt k1
    have h2 := par_lt p1
    rw [g, g (par i), if_neg (by omega), if_neg (by omega), if_neg (by omega), if_neg (by omega)]
    have h3 := h k k1 (by omega)
    rw [kp] at h3
    exact lt2_trans h3 (h i p1 (by omega))
theorem gd_take {d : DL} {m k : Nat} (h : k < m) : gd (d.take m) k = gd d k := by
  unfold gd
  rw [List.getD_eq_getElem?_getD, List.getD_eq_getElem?_getD, List.getElem?_take_of_lt h]
theorem hh_take {d : DL} {m : Nat} (h : HH d m) (hm : m ≤ d.length) : HH (d.take m) (d.take m).length := by
  intro k k1 kn
  rw [List.length_take] at kn
  have := par_lt k1
  rw [gd_take (by omega), gd_take (by omega)]
  exact h k k1 (by omega)

/-! ### in order -/
abbrev Srt (S : DL) : Prop := S.Pairwise lt2
theorem srt_eq : ∀ {S T : DL}, Srt S → Srt T → S.Perm T → S = T := by
  intro S
  induction S with
  | nil => intro T _ _ hp; exact hp.nil_eq
  | cons a S ih =>
    intro T hS hT hp
    cases T with
    | nil => exact absurd hp.symm.nil_eq (by simp)
    | cons b T =>
      replace hS := List.pairwise_cons.1 hS
      replace hT := List.pairwise_cons.1 hT
      have hab : a = b := by
        have h1 : a ∈ b :: T := hp.subset (by simp)
        have h2 : b ∈ a :: S := hp.symm.subset (by simp)
        rcases List.mem_cons.1 h1 with e | h1
        · exact e
        · rcases List.mem_cons.1 h2 with e | h2
          · exact e.symm
          · exact absurd (hT.1 a h1) (lt2_asymm (hS.1 b h2))
      subst hab
      rw [ih hS.2 hT.2 (hp.cons_inv)]
def ins (x : Int × Int) : DL → DL
  | [] => [x]
  | y :: r => if lt2 x y then x :: y :: r else y :: ins x r
theorem ins_perm (x : Int × Int) : ∀ S : DL, (ins x S).Perm (x :: S)
  | [] => .refl _
  | y :: r => by
    unfold ins
    split
    · exact .refl _
    · exact ((ins_perm x r).cons y).trans (.swap _ _ _)
theorem ins_srt {x : Int × Int} : ∀ {S : DL}, Srt S → x ∉ S → Srt (ins x S)
  | [], _, _ => by unfold ins; simp
  | y :: r, h, hx => by
    unfold ins
    replace h := List.pairwise_cons.1 h
    split
    · rename_i hl
      refine List.pairwise_cons.2 ⟨fun z hz => ?_, List.pairwise_cons.2 h⟩
      rcases List.mem_cons.1 hz with rfl | hz
      · exact hl
      · exact lt2_tr hl (h.1 z hz)
    · rename_i hl
      refine List.pairwise_cons.2 ⟨fun z hz => ?_, ins_srt h.2 fun q => hx (by simp [q])⟩
      rcases List.mem_cons.1 ((ins_perm x r).subset hz) with rfl | hz
      · exact lt2_tot hl fun q => hx (by simp [q])
      · exact h.1 z hz
theorem srt_filter {S : DL} (h : Srt S) (p : Int × Int → Bool) : Srt (S.filter p) := h.filter p
/-- all up to a time come first -/
theorem srt_split {S : DL} (h : Srt S) (t : Int) : S = S.filter (fun x => decide (x.1 ≤ t)) ++ S.filter (fun x => decide (¬ x.1 ≤ t)) := by
  induction S with
  | nil => rfl
  | cons a S ih =>
    replace h := List.pairwise_cons.1 h
    by_cases ha : a.1 ≤ t
    · rw [List.filter_cons_of_pos (by simpa using ha), List.filter_cons_of_neg (by simpa using ha)]
      simp only [List.cons_append]
      rw [← ih h.2]
    · have hall : ∀ x ∈ S, ¬ x.1 ≤ t := fun x hx => by
        have := h.1 x hx
        unfold lt2 at this; omega
      rw [List.filter_cons_of_neg (by simpa using ha), List.filter_cons_of_pos (by simpa using ha)]
      have e1 : S.filter (fun x => decide (x.1 ≤ t)) = [] := by
        rw [List.filter_eq_nil_iff]; intro x hx; simpa using hall x hx
      have e2 : S.filter (fun x => decide (¬ x.1 ≤ t)) = S := by
        rw [List.filter_eq_self]; intro x hx; simpa using hall x hx
      rw [e1, e2]; rfl
end Go.Proofs.Ytheallacpidcmaa
