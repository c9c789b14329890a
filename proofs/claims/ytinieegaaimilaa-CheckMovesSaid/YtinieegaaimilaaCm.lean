/-
  Layer 4: the plain law of what is held: a handle is not held just where a way leads on which it was not forked.
-/
import Derived.Test.YtinieegaaimilaaCl
set_option linter.unusedSimpArgs false
set_option linter.unusedVariables false
set_option maxRecDepth 100000
namespace Go.Proofs.Ytinieegaaimilaa
open Go Go.Ev Go.Proofs

inductive Way (l : List (List Int)) (h : Int) : Int → Prop
  | zero : Way l h 0
  | next {i z : Int} : Way l h i → forks (l.getD i.toNat []) h = false → z ∈ behind l.length i (l.getD i.toNat []) → Way l h z

theorem tb_and (x y : Int) {i : Nat} (h : i < 64) : tb (andI .i64 x y) i = (tb x i && tb y i) := by
  unfold tb; rw [andI_bv, bv_of_toInt]; simp
theorem tb_or (x y : Int) {i : Nat} (h : i < 64) : tb (orI .i64 x y) i = (tb x i || tb y i) := by
  unfold tb; rw [orI_bv, bv_of_toInt]; simp
theorem tb_shl {a : Int} {h : Nat} (h0 : 0 ≤ a) (h1 : a < 8) (hh : h < 8) : tb (shlV .i64 1 a) h = decide (a = (h : Int)) := by
  have key : ∀ a : Nat, a < 8 → ∀ h : Nat, h < 8 → tb (shlV .i64 1 (a : Int)) h = decide (a = h) := by decide
  have := key a.toNat (by omega) h hh
  rw [Int.toNat_of_nonneg h0] at this
  rw [this, decide_eq_decide]; omega
theorem tb255 {h : Nat} (hh : h < 8) : tb 255 h = true := by
  have key : ∀ h : Nat, h < 8 → tb 255 h = true := by decide
  exact key h hh
theorem tb_hv {x : List Int} {v : Int} {h : Nat} (hh : h < 8) : tb (hvOf x v) h = (tb v h || forks x h) := by
  unfold hvOf forks
  by_cases ho : opI x = 8
  · by_cases ha : 0 ≤ x.getD 1 0 ∧ x.getD 1 0 < 8
    · rw [if_pos ⟨ho, ha⟩, tb_or _ _ (by omega), tb_shl ha.1 ha.2 hh]
      congr 1
      have e8 : (opI x == 8) = true := by simpa using ho
      rw [e8, Bool.true_and]; rfl
    · rw [if_neg (fun q => ha q.2)]
      have : (x.getD 1 0 == (h : Int)) = false := by
        rw [beq_eq_false_iff_ne]; intro e; exact ha ⟨by omega, by omega⟩
      rw [this]; simp
  · rw [if_neg (fun q => ho q.1)]
    have : (opI x == 8) = false := by simpa using ho
    rw [this]; simp

/-- a number of eight bits -/
def rs (f : Nat → Bool) : Nat → Int
  | 0 => 0
  | h + 1 => rs f h + if f h then 2 ^ h else 0
theorem rs_congr {f g : Nat → Bool} : ∀ {n : Nat}, (∀ h, h < n → f h = g h) → rs f n = rs g n
  | 0, _ => rfl
  | n + 1, hfg => by simp only [rs]; rw [rs_congr (n := n) fun h hh => hfg h (by omega), hfg n (by omega)]
theorem rs_tb {v : Int} (h0 : 0 ≤ v) (h1 : v ≤ 255) : rs (tb v) 8 = v := by
  have key : ∀ n : Fin 256, rs (tb ((n.val : Nat) : Int)) 8 = ((n.val : Nat) : Int) := by decide
  have := key ⟨v.toNat, by omega⟩
  simp only at this
  rwa [Int.toNat_of_nonneg h0] at this
theorem rs_bounds (f : Nat → Bool) : ∀ n : Nat, 0 ≤ rs f n ∧ rs f n < 2 ^ n
  | 0 => by simp [rs]
  | n + 1 => by
    have := rs_bounds f n
    simp only [rs]
    rw [Int.pow_succ]
    split <;> omega
theorem tb_rs {f : Nat → Bool} {h : Nat} (hh : h < 8) : tb (rs f 8) h = f h := by
  have key : ∀ a b c d e f g i : Bool, ∀ h : Nat, h < 8 → tb (rs (fun n => ([a, b, c, d, e, f, g, i].getD n false)) 8) h = ([a, b, c, d, e, f, g, i].getD h false) := by decide
  have := key (f 0) (f 1) (f 2) (f 3) (f 4) (f 5) (f 6) (f 7) h hh
  rw [show rs f 8 = rs (fun n => ([f 0, f 1, f 2, f 3, f 4, f 5, f 6, f 7].getD n false)) 8 from rs_congr fun h hh => by
    match h, hh with
    | 0, _ => rfl
    | 1, _ => rfl
    | 2, _ => rfl
    | 3, _ => rfl
    | 4, _ => rfl
    | 5, _ => rfl
    | 6, _ => rfl
    | 7, _ => rfl, this]
  match h, hh with
    | 0, _ => rfl
    | 1, _ => rfl
    | 2, _ => rfl
    | 3, _ => rfl
    | 4, _ => rfl
    | 5, _ => rfl
    | 6, _ => rfl
    | 7, _ => rfl

open Classical in
noncomputable def heldB (l : List (List Int)) (needs i : Int) (h : Nat) : Bool := tb needs h || !decide (Way l h i)
noncomputable def heldL (l : List (List Int)) (needs : Int) : List Int := (List.range l.length).map fun (i : Nat) => rs (heldB l needs (i : Int)) 8
theorem heldL_len (l : List (List Int)) (needs : Int) : (heldL l needs).length = l.length := by simp [heldL]
theorem heldL_get {l : List (List Int)} {needs : Int} {i : Nat} (h : i < l.length) : (heldL l needs).getD i 0 = rs (heldB l needs i) 8 := by
  simp [heldL, h]
theorem heldB_iff {l : List (List Int)} {needs i : Int} {h : Nat} : heldB l needs i h = true ↔ (tb needs h = true ∨ ¬ Way l h i) := by
  unfold heldB; simp

/-! ### one meeting -/
section
variable {n : Nat} {F : Fl} {z hv : Int}
theorem meet_mono (hF : F.OK n) (h0 : 0 ≤ z) (h1 : z < n) {j h : Nat} (hh : h < 8) :
    (F.come.getD j false = true → (F.meet z hv).come.getD j false = true) ∧ (tb (F.held.getD j 0) h = false → tb ((F.meet z hv).held.getD j 0) h = false) ∧ (∀ y ∈ F.todo, y ∈ (F.meet z hv).todo) := by
  unfold Fl.meet
  split
  · exact ⟨id, id, fun _ h => h⟩
  · have hz : z.toNat < F.held.length := by rw [hF.held]; omega
    have hzc : z.toNat < F.come.length := by rw [hF.come]; omega
    refine ⟨fun hc => ?_, fun hb => ?_, fun y hy => List.mem_append_left _ hy⟩
    · simp only [List.getD_eq_getElem?_getD, List.getElem?_set]
      split
      · simp [hzc]
      · simpa using hc
    · simp only [List.getD_eq_getElem?_getD, List.getElem?_set]
      split
      · rename_i e
        subst e
        simp only [hz, ↓reduceIte, Option.getD_some]
        unfold Fl.now; rw [tb_and _ _ (by omega), hb]; rfl
      · simpa using hb
theorem meet_same (hF : F.OK n) (h0 : 0 ≤ z) (h1 : z < n) {j : Nat} :
    ((F.meet z hv).held.getD j 0 = F.held.getD j 0 ∧ (F.meet z hv).come.getD j false = F.come.getD j false) ∨ (j : Int) ∈ (F.meet z hv).todo := by
  unfold Fl.meet
  split
  · exact .inl ⟨rfl, rfl⟩
  · by_cases e : z.toNat = j
    · right
      have : (j : Int) = z := by omega
      rw [this]; simp
    · left
      simp [List.getD_eq_getElem?_getD, List.getElem?_set, e]
theorem meet_post (hF : F.OK n) (h0 : 0 ≤ z) (h1 : z < n) {h : Nat} (hh : h < 8) :
    (F.meet z hv).come.getD z.toNat false = true ∧ (tb hv h = false → tb ((F.meet z hv).held.getD z.toNat 0) h = false) := by
  have hz : z.toNat < F.held.length := by rw [hF.held]; omega
  have hzc : z.toNat < F.come.length := by rw [hF.come]; omega
  unfold Fl.meet
  split
  · rename_i hs
    unfold Fl.stay at hs
    simp only [Bool.and_eq_true, beq_iff_eq] at hs
    refine ⟨hs.1, fun hb => ?_⟩
    rw [← hs.2]; unfold Fl.now; rw [tb_and _ _ (by omega), hb, Bool.and_false]
  · refine ⟨by simp [List.getD_eq_getElem?_getD, hzc], fun hb => ?_⟩
    simp only [List.getD_eq_getElem?_getD, List.getElem?_set, hz, ↓reduceIte, Option.getD_some]
    unfold Fl.now; rw [tb_and _ _ (by omega), hb, Bool.and_false]
theorem meet_sound (hF : F.OK n) (h0 : 0 ≤ z) (h1 : z < n) {j h : Nat} (hh : h < 8) (hb : tb ((F.meet z hv).held.getD j 0) h = false) : tb (F.held.getD j 0) h = false ∨ ((j : Int) = z ∧ tb hv h = false) := by
  have hz : z.toNat < F.held.length := by rw [hF.held]; omega
  unfold Fl.meet at hb
  split at hb
  · exact .inl hb
  · by_cases e : z.toNat = j
    · subst e
      simp only [List.getD_eq_getElem?_getD, List.getElem?_set, hz, ↓reduceIte, Option.getD_some] at hb
      unfold Fl.now at hb
      rw [tb_and _ _ (by omega)] at hb
      simp only [Bool.and_eq_false_iff] at hb
      rcases hb with hb | hb
      · exact .inl hb
      · exact .inr ⟨by omega, hb⟩
    · left
      simpa [List.getD_eq_getElem?_getD, List.getElem?_set, e] using hb
end
/-! ### many meetings -/
theorem meets_mono {n : Nat} {hv : Int} {j h : Nat} (hh : h < 8) : ∀ {zs : List Int} {F : Fl}, F.OK n → (∀ z ∈ zs, 0 ≤ z ∧ z < n) →
    (F.come.getD j false = true → (F.meets hv zs).come.getD j false = true) ∧ (tb (F.held.getD j 0) h = false → tb ((F.meets hv zs).held.getD j 0) h = false) ∧ (∀ y ∈ F.todo, y ∈ (F.meets hv zs).todo)
  | [], F, _, _ => ⟨id, id, fun _ h => h⟩
  | z :: zs, F, hF, hz => by
    have hz0 := hz z (by simp)
    have h1 := meet_mono (hv := hv) hF hz0.1 hz0.2 (j := j) hh
    have h2 := meets_mono (hv := hv) (j := j) hh (zs := zs) (meet_ok (hv := hv) hF hz0.1 hz0.2).1 fun y hy => hz y (by simp [hy])
    exact ⟨fun q => h2.1 (h1.1 q), fun q => h2.2.1 (h1.2.1 q), fun y hy => h2.2.2 y (h1.2.2 y hy)⟩
theorem meets_same {n : Nat} {hv : Int} {j : Nat} : ∀ {zs : List Int} {F : Fl}, F.OK n → (∀ z ∈ zs, 0 ≤ z ∧ z < n) →
    ((F.meets hv zs).held.getD j 0 = F.held.getD j 0 ∧ (F.meets hv zs).come.getD j false = F.come.getD j false) ∨ (j : Int) ∈ (F.meets hv zs).todo
  | [], F, _, _ => .inl ⟨rfl, rfl⟩
  | z :: zs, F, hF, hz => by
    have hz0 := hz z (by simp)
    have hok := (meet_ok (hv := hv) hF hz0.1 hz0.2).1
    have hzs : ∀ y ∈ zs, 0 ≤ y ∧ y < n := fun y hy => hz y (by simp [hy])
    rcases meet_same (hv := hv) hF hz0.1 hz0.2 (j := j) with h1 | h1
    · rcases meets_same (hv := hv) (j := j) (zs := zs) hok hzs with h2 | h2
      · exact .inl ⟨h2.1.trans h1.1, h2.2.trans h1.2⟩
      · exact .inr h2
    · exact .inr ((meets_mono (h := 0) (j := j) (by omega) (zs := zs) hok hzs).2.2 _ h1)
theorem meets_post {n : Nat} {hv : Int} {h : Nat} (hh : h < 8) : ∀ {zs : List Int} {F : Fl}, F.OK n → (∀ z ∈ zs, 0 ≤ z ∧ z < n) → ∀ z ∈ zs,
    (F.meets hv zs).come.getD z.toNat false = true ∧ (tb hv h = false → tb ((F.meets hv zs).held.getD z.toNat 0) h = false)
  | [], F, _, _ => fun z hz => by cases hz
  | z :: zs, F, hF, hz => by
    have hz0 := hz z (by simp)
    have hok := (meet_ok (hv := hv) hF hz0.1 hz0.2).1
    have hzs : ∀ y ∈ zs, 0 ≤ y ∧ y < n := fun y hy => hz y (by simp [hy])
    intro y hy
    rcases List.mem_cons.1 hy with rfl | hy
    · have h1 := meet_post (hv := hv) hF hz0.1 hz0.2 hh
      have h2 := meets_mono (hv := hv) (j := y.toNat) hh (zs := zs) hok hzs
      exact ⟨h2.1 h1.1, fun q => h2.2.1 (h1.2 q)⟩
    · exact meets_post (hv := hv) hh (zs := zs) hok hzs y hy
theorem meets_sound {n : Nat} {hv : Int} {j h : Nat} (hh : h < 8) : ∀ {zs : List Int} {F : Fl}, F.OK n → (∀ z ∈ zs, 0 ≤ z ∧ z < n) → tb ((F.meets hv zs).held.getD j 0) h = false →
    tb (F.held.getD j 0) h = false ∨ ((j : Int) ∈ zs ∧ tb hv h = false)
  | [], F, _, _ => fun h => .inl h
  | z :: zs, F, hF, hz => by
    have hz0 := hz z (by simp)
    have hok := (meet_ok (hv := hv) hF hz0.1 hz0.2).1
    have hzs : ∀ y ∈ zs, 0 ≤ y ∧ y < n := fun y hy => hz y (by simp [hy])
    intro hb
    rcases meets_sound (hv := hv) (j := j) hh (zs := zs) hok hzs hb with h1 | h1
    · rcases meet_sound (hv := hv) hF hz0.1 hz0.2 hh h1 with h2 | h2
      · exact .inl h2
      · exact .inr ⟨by simp [h2.1], h2.2⟩
    · exact .inr ⟨by simp [h1.1], h1.2⟩

/-! ### the flow -/
structure FI (l : List (List Int)) (needs : Int) (F : Fl) : Prop where
  ok : F.OK l.length
  c0 : F.come.getD 0 false = true
  b0 : ∀ h : Nat, h < 8 → tb needs h = false → tb (F.held.getD 0 0) h = false
  sound : ∀ i h : Nat, i < l.length → h < 8 → tb (F.held.getD i 0) h = false → tb needs h = false ∧ Way l h i
  clos : ∀ i : Nat, i < l.length → F.come.getD i false = true → (i : Int) ∈ F.todo ∨ ∀ z ∈ behind l.length i (l.getD i []), F.come.getD z.toNat false = true ∧ ∀ h : Nat, h < 8 → tb (hvOf (l.getD i []) (F.held.getD i 0)) h = false → tb (F.held.getD z.toNat 0) h = false
theorem FI.start {l : List (List Int)} {needs : Int} (hl : 0 < l.length) : FI l needs ((Fl0 l.length).meet 0 (andI .i64 needs 255)) := by
  have h0 := Fl0_ok l.length
  have hok := (meet_ok (hv := andI .i64 needs 255) (i := 0) h0 (by omega) (by omega)).1
  have e : (Fl0 l.length).meet 0 (andI .i64 needs 255) = ⟨(List.replicate l.length 255).set 0 (andI .i64 255 (andI .i64 needs 255)), (List.replicate l.length false).set 0 true, [0]⟩ := by
    have hs : (Fl0 l.length).stay 0 (andI .i64 needs 255) = false := by simp [Fl.stay, Fl0, hl]
    unfold Fl.meet; rw [hs]
    simp [Fl0, Fl.now, hl]
  have hhe : ∀ i : Nat, i < l.length → ((Fl0 l.length).meet 0 (andI .i64 needs 255)).held.getD i 0 = if i = 0 then andI .i64 255 (andI .i64 needs 255) else 255 := by
    intro i hi
    rw [e]; simp only [List.getD_eq_getElem?_getD, List.getElem?_set]
    by_cases hz : i = 0
    · subst hz; simp [hl]
    · have : ¬ 0 = i := fun q => hz q.symm
      simp [hz, this, hi]
  refine ⟨hok, by rw [e]; simp [hl], fun h hh hb => ?_, fun i h hi hh hb => ?_, fun i hi hc => ?_⟩
  · rw [hhe 0 hl, if_pos rfl, tb_and _ _ (by omega), tb_and _ _ (by omega), hb]; simp
  · rw [hhe i hi] at hb
    split at hb
    · rename_i hz; subst hz
      rw [tb_and _ _ (by omega), tb_and _ _ (by omega), tb255 hh] at hb
      exact ⟨by simpa using hb, .zero⟩
    · rw [tb255 hh] at hb; cases hb
  · left
    rw [e] at hc ⊢
    simp only [List.getD_eq_getElem?_getD, List.getElem?_set] at hc
    by_cases hz : i = 0
    · subst hz; simp
    · have : ¬ 0 = i := fun q => hz q.symm
      simp [this, hi] at hc
theorem FI.step {l : List (List Int)} {needs : Int} {F : Fl} (hn : l.length ≤ 4294967296) (h : FI l needs F) : FI l needs (F.step l) := by
  unfold Fl.step
  cases ht : F.todo with
  | nil => exact h
  | cons i t =>
    have hi := h.ok.todo i (by rw [ht]; simp)
    have hok : Fl.OK l.length { F with todo := t } := ⟨h.ok.held, h.ok.come, h.ok.bits, fun z hz => h.ok.todo z (by rw [ht]; simp [hz])⟩
    have hzs := behind_in (x := l.getD i.toNat []) hn hi.1 hi.2
    have hin : i.toNat < l.length := by omega
    have hii : ((i.toNat : Nat) : Int) = i := Int.toNat_of_nonneg hi.1
    refine ⟨(meets_ok hok hzs).1, (meets_mono (h := 0) (by omega) hok hzs).1 h.c0, fun h' hh hb => (meets_mono hh hok hzs).2.1 (h.b0 h' hh hb), fun j h' hj hh hb => ?_, fun j hj hc => ?_⟩
    · rcases meets_sound hh hok hzs hb with h1 | ⟨hjz, h1⟩
      · exact h.sound j h' hj hh h1
      · rw [tb_hv hh] at h1
        simp only [Bool.or_eq_false_iff] at h1
        have := h.sound i.toNat h' hin hh h1.1
        rw [hii] at this
        exact ⟨this.1, this.2.next h1.2 hjz⟩
    · rcases meets_same (j := j) (hv := hvOf (l.getD i.toNat []) (F.held.getD i.toNat 0)) hok hzs with ⟨h1, h2⟩ | h1
      · rw [h2] at hc
        rw [h1]
        by_cases hji : j = i.toNat
        · subst hji
          right
          intro z hz
          rw [hii] at hz
          exact ⟨(meets_post (h := 0) (by omega) hok hzs z hz).1, fun h' hh hb => (meets_post hh hok hzs z hz).2 hb⟩
        · rcases h.clos j hj hc with h3 | h3
          · left
            rw [ht] at h3
            rcases List.mem_cons.1 h3 with h3 | h3
            · omega
            · exact (meets_mono (h := 0) (j := 0) (by omega) hok hzs).2.2 _ h3
          · right
            intro z hz
            exact ⟨(meets_mono (h := 0) (by omega) hok hzs).1 (h3 z hz).1, fun h' hh hb => (meets_mono hh hok hzs).2.1 ((h3 z hz).2 h' hh hb)⟩
      · exact .inl h1
theorem FI.steps {l : List (List Int)} {needs : Int} (hn : l.length ≤ 4294967296) {F : Fl} (h : FI l needs F) : ∀ m, FI l needs (Fl.steps l m F)
  | 0 => h
  | m + 1 => (FI.steps hn h m).step hn
theorem FI.way {l : List (List Int)} {needs : Int} {F : Fl} (hn : l.length ≤ 4294967296) (hl : 0 < l.length) (h : FI l needs F) (ht : F.todo = []) {h' : Nat} (hh : h' < 8) (hb : tb needs h' = false) {i : Int} (hw : Way l h' i) :
    (0 ≤ i ∧ i < l.length) ∧ F.come.getD i.toNat false = true ∧ tb (F.held.getD i.toNat 0) h' = false := by
  induction hw with
  | zero => exact ⟨⟨by omega, by omega⟩, h.c0, h.b0 h' hh hb⟩
  | @next i z hw hf hz ih =>
    obtain ⟨hi, hc, hbi⟩ := ih
    have hin : i.toNat < l.length := by omega
    have hii : ((i.toNat : Nat) : Int) = i := Int.toNat_of_nonneg hi.1
    have := behind_in (x := l.getD i.toNat []) hn hi.1 hi.2 z hz
    rcases h.clos i.toNat hin hc with h3 | h3
    · rw [ht] at h3; cases h3
    · rw [hii] at h3
      have h4 := h3 z hz
      refine ⟨this, h4.1, h4.2 h' hh ?_⟩
      rw [tb_hv hh, hbi, hf]; rfl
theorem held_law {l : List (List Int)} {needs : Int} {F : Fl} (hn : l.length ≤ 4294967296) (hR : Reached l needs F) : F.held = heldL l needs := by
  by_cases hl : l = []
  · subst hl
    rw [hR.2.1 rfl]; simp [Fl0, heldL]
  · obtain ⟨m, hm⟩ := hR.2.2 hl
    have hpos : 0 < l.length := List.length_pos_iff.2 hl
    have hI : FI l needs F := by rw [hm]; exact (FI.start hpos).steps hn m
    refine List.ext_getElem (by rw [hI.ok.held, heldL_len]) fun i h1 h2 => ?_
    have hi : i < l.length := by rw [hI.ok.held] at h1; exact h1
    have e1 : F.held[i] = F.held.getD i 0 := by simp [h1]
    have e2 : (heldL l needs)[i] = rs (heldB l needs i) 8 := by rw [← heldL_get hi]; simp [h2]
    have hbb := hI.ok.bits F.held[i] (List.getElem_mem h1)
    rw [e2, ← rs_tb hbb.1 hbb.2]
    refine rs_congr fun h hh => ?_
    rw [e1]
    cases hb : heldB l needs i h with
    | true =>
      cases hb2 : tb (F.held.getD i 0) h with
      | true => rfl
      | false =>
        have := hI.sound i h hi hh hb2
        rcases heldB_iff.1 hb with h3 | h3
        · rw [this.1] at h3; cases h3
        · exact (h3 this.2).elim
    | false =>
      have hn1 : ¬ (tb needs h = true ∨ ¬ Way l h i) := by rw [← heldB_iff, hb]; simp
      have hn2 : tb needs h = false := by
        cases q : tb needs h with
        | true => exact (hn1 (.inl q)).elim
        | false => rfl
      have hw : Way l h i := Classical.byContradiction fun q => hn1 (.inr q)
      have := (hI.way hn hpos hR.1 hh hn2 hw).2.2
      rwa [Int.toNat_natCast] at this

/-! ### the reference's ways -/
structure WI (l : List (List Int)) (h : Int) (W : Wy) : Prop where
  ok : W.OK l.length
  c0 : W.out.getD 0 false = true
  tout : ∀ y ∈ W.todo, W.out.getD y.toNat false = true
  sound : ∀ i : Nat, i < l.length → W.out.getD i false = true → Way l h i
  clos : ∀ i : Nat, i < l.length → W.out.getD i false = true → (i : Int) ∈ W.todo ∨ forks (l.getD i []) h = true ∨ ∀ z ∈ behind l.length i (l.getD i []), W.out.getD z.toNat false = true
theorem see_all {n : Nat} {W : Wy} {z : Int} (hW : W.OK n) (h0 : 0 ≤ z) (h1 : z < n) (j : Nat) :
    (W.out.getD j false = true → (W.see z).out.getD j false = true) ∧ (∀ y ∈ W.todo, y ∈ (W.see z).todo) ∧ ((W.see z).out.getD j false = true → W.out.getD j false = true ∨ ((j : Int) = z ∧ (j : Int) ∈ (W.see z).todo)) ∧ (W.see z).out.getD z.toNat false = true := by
  have hz : z.toNat < W.out.length := by rw [hW.out]; omega
  unfold Wy.see
  split
  · rename_i hs; exact ⟨id, fun _ h => h, fun h => .inl h, hs⟩
  · refine ⟨fun h => ?_, fun y hy => List.mem_append_left _ hy, fun h => ?_, by simp [hz]⟩
    · simp only [List.getD_eq_getElem?_getD, List.getElem?_set]
      split
      · simp [hz]
      · simpa using h
    · by_cases e : z.toNat = j
      · right
        have : (j : Int) = z := by omega
        exact ⟨this, by rw [this]; simp⟩
      · left
        simpa [List.getD_eq_getElem?_getD, List.getElem?_set, e] using h
theorem sees_all {n : Nat} (j : Nat) : ∀ {zs : List Int} {W : Wy}, W.OK n → (∀ z ∈ zs, 0 ≤ z ∧ z < n) →
    (W.out.getD j false = true → (W.sees zs).out.getD j false = true) ∧ (∀ y ∈ W.todo, y ∈ (W.sees zs).todo) ∧ ((W.sees zs).out.getD j false = true → W.out.getD j false = true ∨ ((j : Int) ∈ zs ∧ (j : Int) ∈ (W.sees zs).todo)) ∧ (∀ z ∈ zs, (W.sees zs).out.getD z.toNat false = true)
  | [], W, _, _ => ⟨id, fun _ h => h, fun h => .inl h, fun z hz => by cases hz⟩
  | z :: zs, W, hW, hz => by
    have hz0 := hz z (by simp)
    have hok := (see_ok hW hz0.1 hz0.2).1
    have hzs : ∀ y ∈ zs, 0 ≤ y ∧ y < n := fun y hy => hz y (by simp [hy])
    have h1 := see_all hW hz0.1 hz0.2 j
    have h2 := sees_all j (zs := zs) hok hzs
    refine ⟨fun q => h2.1 (h1.1 q), fun y hy => h2.2.1 y (h1.2.1 y hy), fun q => ?_, fun y hy => ?_⟩
    · rcases h2.2.2.1 q with q | q
      · rcases h1.2.2.1 q with q | q
        · exact .inl q
        · exact .inr ⟨by rw [q.1]; simp, h2.2.1 _ q.2⟩
      · exact .inr ⟨by simp [q.1], q.2⟩
    · rcases List.mem_cons.1 hy with rfl | hy
      · exact (sees_all y.toNat (zs := zs) hok hzs).1 h1.2.2.2
      · exact h2.2.2.2 y hy
theorem sees_todo : ∀ {zs : List Int} {W : Wy}, ∀ y ∈ (W.sees zs).todo, y ∈ W.todo ∨ y ∈ zs
  | [], W, y, hy => .inl hy
  | z :: zs, W, y, hy => by
    rcases sees_todo (zs := zs) (W := W.see z) y hy with h | h
    · unfold Wy.see at h
      split at h
      · exact .inl h
      · rcases List.mem_append.1 h with h | h
        · exact .inl h
        · simp at h; exact .inr (by simp [h])
    · exact .inr (by simp [h])
theorem WI.start {l : List (List Int)} {h : Int} (hl : 0 < l.length) : WI l h (W0 l.length) := by
  refine ⟨W0_ok hl, by simp [W0, hl], fun y hy => by simp [W0] at hy; subst hy; simp [W0, hl], fun i hi hb => ?_, fun i hi hb => .inl ?_⟩
  · by_cases hz : i = 0
    · subst hz; exact .zero
    · have : ¬ 0 = i := fun q => hz q.symm
      simp [W0, List.getD_eq_getElem?_getD, List.getElem?_set, this, hi] at hb
  · by_cases hz : i = 0
    · subst hz; simp [W0]
    · have : ¬ 0 = i := fun q => hz q.symm
      simp [W0, List.getD_eq_getElem?_getD, List.getElem?_set, this, hi] at hb
theorem WI.step {l : List (List Int)} {h : Int} {W : Wy} (hn : l.length ≤ 4294967296) (hW : WI l h W) : WI l h (W.step l h) := by
  unfold Wy.step
  cases hg : W.todo.getLast? with
  | none => exact hW
  | some i =>
    have ht : W.todo ≠ [] := by intro e; rw [e] at hg; cases hg
    have hgl : W.todo.getLast ht = i := by rw [List.getLast?_eq_some_getLast ht] at hg; simpa using hg
    have hi := hW.ok.todo i (hgl ▸ List.getLast_mem ht)
    have hsplit : ∀ y ∈ W.todo, y = i ∨ y ∈ W.todo.dropLast := by
      intro y hy
      rw [← List.dropLast_concat_getLast ht, hgl] at hy
      rcases List.mem_append.1 hy with hy | hy
      · exact .inr hy
      · exact .inl (by simpa using hy)
    have hok : Wy.OK l.length { W with todo := W.todo.dropLast } := ⟨hW.ok.out, fun z hz => hW.ok.todo z (List.dropLast_subset _ hz)⟩
    have hin : i.toNat < l.length := by omega
    have hii : ((i.toNat : Nat) : Int) = i := Int.toNat_of_nonneg hi.1
    simp only
    split
    · rename_i hf
      refine ⟨hok, hW.c0, fun y hy => hW.tout y (List.dropLast_subset _ hy), hW.sound, fun j hj hc => ?_⟩
      rcases hW.clos j hj hc with h1 | h1
      · rcases hsplit _ h1 with h2 | h2
        · right; left
          have : j = i.toNat := by omega
          rw [this]; exact hf
        · exact .inl h2
      · exact .inr h1
    · rename_i hf
      have hzs := behind_in (x := l.getD i.toNat []) hn hi.1 hi.2
      have hf' : forks (l.getD i.toNat []) h = false := by simpa using hf
      have hout := hW.tout i (hgl ▸ List.getLast_mem ht)
      have hwi : Way l h i := by have := hW.sound i.toNat hin hout; rwa [hii] at this
      refine ⟨(sees_ok hok hzs).1, (sees_all 0 hok hzs).1 hW.c0, fun y hy => ?_, fun j hj hb => ?_, fun j hj hc => ?_⟩
      · rcases sees_todo y hy with hy | hy
        · exact (sees_all _ hok hzs).1 (hW.tout y (List.dropLast_subset _ hy))
        · exact (sees_all 0 hok hzs).2.2.2 y hy
      · rcases (sees_all j hok hzs).2.2.1 hb with h1 | h1
        · exact hW.sound j hj h1
        · exact hwi.next hf' h1.1
      · rcases (sees_all j hok hzs).2.2.1 hc with h1 | h1
        · rcases hW.clos j hj h1 with h2 | h2 | h2
          · rcases hsplit _ h2 with h3 | h3
            · right; right
              have : j = i.toNat := by omega
              rw [this, hii]
              exact (sees_all j hok hzs).2.2.2
            · exact .inl ((sees_all j hok hzs).2.1 _ h3)
          · exact .inr (.inl h2)
          · exact .inr (.inr fun z hz => (sees_all z.toNat hok hzs).1 (h2 z hz))
        · exact .inl h1.2
theorem WI.steps {l : List (List Int)} {h : Int} (hn : l.length ≤ 4294967296) {W : Wy} (hW : WI l h W) : ∀ m, WI l h (Wy.steps l h m W)
  | 0 => hW
  | m + 1 => (WI.steps hn hW m).step hn
theorem Wy.steps_start (l : List (List Int)) (h : Int) : ∀ (m : Nat) (W : Wy), WI l h W → l.length ≤ 4294967296 → WI l h (Wy.steps l h m W) := fun m W hW hn => hW.steps hn m
theorem gone_law {l : List (List Int)} {h : Int} {W : Wy} (hn : l.length ≤ 4294967296) (hG : Gone l h W) : W.out.length = l.length ∧ ∀ i : Nat, i < l.length → (W.out.getD i false = true ↔ Way l h i) := by
  by_cases hl : l = []
  · subst hl
    rw [hG.2.1 rfl]
    exact ⟨rfl, fun i hi => by cases hi⟩
  · obtain ⟨m, hm⟩ := hG.2.2 hl
    have hpos : 0 < l.length := List.length_pos_iff.2 hl
    have hI : WI l h W := by rw [hm]; exact (WI.start hpos).steps hn m
    refine ⟨hI.ok.out, fun i hi => ⟨hI.sound i hi, fun hw => ?_⟩⟩
    have key : ∀ j : Int, Way l h j → (0 ≤ j ∧ j < l.length) ∧ W.out.getD j.toNat false = true := by
      intro j hw
      induction hw with
      | zero => exact ⟨⟨by omega, by omega⟩, hI.c0⟩
      | @next i z hw hf hz ih =>
        obtain ⟨hi, hc⟩ := ih
        have hii : ((i.toNat : Nat) : Int) = i := Int.toNat_of_nonneg hi.1
        refine ⟨behind_in (x := l.getD i.toNat []) hn hi.1 hi.2 z hz, ?_⟩
        rcases hI.clos i.toNat (by omega) hc with h3 | h3 | h3
        · rw [hG.1] at h3; cases h3
        · rw [hf] at h3; cases h3
        · rw [hii] at h3; exact h3 z hz
    have := (key i hw).2
    rwa [Int.toNat_natCast] at this
end Go.Proofs.Ytinieegaaimilaa
