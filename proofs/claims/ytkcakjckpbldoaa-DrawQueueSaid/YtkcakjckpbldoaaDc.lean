/-
  Layer 17: what its functions do (3): draws; the chapter's example.
-/
import Derived.Test.YtkcakjckpbldoaaDb
set_option linter.unusedSimpArgs false
set_option linter.unusedVariables false
set_option maxRecDepth 100000
namespace Go.Proofs.Ytkcakjckpbldoaa
open Go Go.Ev Go.Proofs

/-- draws: a block with a slice of its own -/
structure Dr (w : World) (B : Nat) (p : Option Addr) (xs : List Int) (g : Nat) (s : Sl) : Prop where
  ptr : p = some ⟨g, 0, none⟩
  low : B ≤ g
  blk : Blk w g #[.slice s.a s.n s.c]
  own : Own w B s (ints xs)
  ne : ∀ g', s.blk = some g' → g' ≠ g
/-- what it stands on -/
def foot (g : Nat) (s : Sl) : Nat → Prop := fun k => k = g ∨ s.blk = some k

theorem Dr.len {w : World} {B g : Nat} {p : Option Addr} {xs : List Int} {s : Sl} (h : Dr w B p xs g s) : s.n = xs.length := by have := h.own.len; simp at this; omega
theorem Dr.keep {S : Nat → Prop} {w w' : World} {B g : Nat} {p : Option Addr} {xs : List Int} {s : Sl} (h : Dr w B p xs g s) (ho : Only S w w') (hS : ∀ k, foot g s k → ¬ S k) : Dr w' B p xs g s :=
  ⟨h.ptr, h.low, h.blk.keep ho (hS g (.inl rfl)), h.own.keep ho fun k hk => hS k (.inr hk), h.ne⟩
theorem Dr.ext {w w' : World} {B g : Nat} {p : Option Addr} {xs : List Int} {s : Sl} (h : Dr w B p xs g s) (ho : Ext w w') : Dr w' B p xs g s := h.keep ho fun _ _ h => h
theorem Dr.lo {w : World} {B g : Nat} {p : Option Addr} {xs : List Int} {s : Sl} (h : Dr w B p xs g s) : ∀ k, foot g s k → B ≤ k ∧ k < w.heap.size := by
  rintro k (rfl | hk)
  · exact ⟨h.low, h.blk.lt⟩
  · exact h.own.below hk

theorem New_s {w : World} {B : Nat} {k : Option Addr → World → Prop} (hB : B ≤ w.heap.size) (hk : ∀ p w' g s, Dr w' B p [] g s → Ext w w' → (∀ k, foot g s k → w.heap.size ≤ k) → k p w') : draw_New w k := by
  unfold draw_New
  refine newC_i fun g w1 hg hs hb he => ?_
  refine hk _ _ g ⟨none, 0, 0⟩ ⟨rfl, by omega, hb, .nil _ _, by simp [Sl.blk]⟩ he ?_
  rintro k (rfl | hk)
  · omega
  · simp [Sl.blk] at hk

theorem Add_s {w : World} {B g : Nat} {p : Option Addr} {xs ys : List Int} {s l : Sl} {k : Int → World → Prop} (hd : Dr w B p xs g s) (hl : SlI w l ys) (hB : B ≤ w.heap.size) (hx : xs.length ≤ 1024)
    (h1 : xs.length + ys.length > 1024 → k 20 w)
    (h2 : xs.length + ys.length ≤ 1024 → ∀ w' s', Dr w' B p (xs ++ ys) g s' → Only (foot g s) w w' → (∀ k, foot g s' k → foot g s k ∨ w.heap.size ≤ k) → k 0 w') : draw_Draws_Add p l w k := by
  have hn := hd.len
  have hln := SlI.len hl
  unfold draw_Draws_Add
  have hp := hd.ptr
  subst hp
  refine iteB_f rfl (nn_i ?_)
  rw [add_mk]
  refine ldS_i (s := s) (hd.blk.cell 0) ?_
  have hw : IntKind.i64.wrap (1024 - (s.n : Int)) = 1024 - s.n := wrap_id ⟨by omega, by omega⟩
  rw [hw]
  refine iteB_i (fun h => ?_) (fun h => ?_)
  · have h : (l.n : Int) > 1024 - s.n := by simpa using h
    exact h1 (by omega)
  · have h : ¬ (l.n : Int) > 1024 - s.n := by simpa using h
    refine nn_i ?_
    rw [add_mk]
    refine ldS_i (s := s) (hd.blk.cell 0) ?_
    refine bApp_i el35 rfl el35.1 hd.own hl one_ints hB (by simp; omega) (by simp; omega) fun s' w1 ho hon hblk => ?_
    refine nn_i ?_
    rw [add_mk]
    have hgs : ¬ s.blk = some g := fun e => hd.ne g e rfl
    have hne' : ∀ g', s'.blk = some g' → g' ≠ g := by
      intro g' hg' e; subst e
      rcases hblk with e | ⟨g2, e, hg2⟩
      · exact hgs (e ▸ hg')
      · rw [e] at hg'; cases hg'; have := hd.blk.lt; omega
    refine stC_i rfl (hd.blk.keep hon hgs) (by simp) fun w2 hb2 hs2 hon2 => ?_
    refine h2 (by omega) _ s' ⟨rfl, hd.low, by simpa using hb2, by simpa [ints] using ho.keep hon2 hne', hne'⟩ ?_ ?_
    · exact Only.trans hon hon2 (fun k _ hk => .inr hk) fun k _ hk => .inl hk
    · rintro k (rfl | hk)
      · exact .inl (.inl rfl)
      · rcases hblk with e | ⟨g2, e, hg2⟩
        · exact .inl (.inr (e ▸ hk))
        · rw [e] at hk; cases hk; exact .inr hg2

theorem Len_s {w : World} {B g : Nat} {p : Option Addr} {xs : List Int} {s : Sl} {k : Int → World → Prop} (hd : Dr w B p xs g s) (hk : k xs.length w) : draw_Draws_Len p w k := by
  have hn := hd.len
  unfold draw_Draws_Len
  have hp := hd.ptr
  subst hp
  refine iteB_f rfl (nn_i ?_)
  rw [add_mk]
  refine ldS_i (s := s) (hd.blk.cell 0) ?_
  rw [hn]; exact hk

theorem Next_s {w : World} {B g : Nat} {p : Option Addr} {xs : List Int} {s : Sl} {k : Int → World → Prop} (hd : Dr w B p xs g s)
    (h1 : xs = [] → k 0 w) (h2 : ∀ x l, xs = x :: l → ∀ w' s', Dr w' B p l g s' → Only (foot g s) w w' → (∀ k, foot g s' k → foot g s k) → w'.heap.size = w.heap.size → k x w') : draw_Draws_Next p w k := by
  have hn := hd.len
  unfold draw_Draws_Next
  have hp := hd.ptr
  subst hp
  refine joinP_d (iteB_f rfl (nn_i ?_))
  rw [add_mk]
  refine ldS_i (s := s) (hd.blk.cell 0) ?_
  refine iteB_i (fun h => ?_) (fun h => ?_)
  · have h : s.n = 0 := by simpa using h
    exact h1 (List.eq_nil_of_length_eq_zero (by omega))
  · have h : s.n ≠ 0 := by simpa using h
    obtain ⟨x, l, rfl⟩ : ∃ x l, xs = x :: l := by
      cases xs with
      | nil => simp at hn; omega
      | cons x l => exact ⟨x, l, rfl⟩
    refine nn_i ?_
    rw [add_mk]
    refine ldS_i (s := s) (hd.blk.cell 0) ?_
    refine ixI hd.own.sls (by omega) (by omega) (.refl _ _) fun y hy => ?_
    simp at hy; subst hy
    refine drew_i fun w1 hh1 he1 => ?_
    refine nn_i ?_
    rw [add_mk]
    refine ldS_i (s := s) ((hd.blk.ext he1).cell 0) (nn_i ?_)
    rw [add_mk]
    refine ldS_i (s := s) ((hd.blk.ext he1).cell 0) ?_
    refine slL_own (hd.own.ext he1) (by omega) (by omega) fun d hd1 hdn hdb hdo => ?_
    refine bCopy_i (lo := 0) el35 (hd.own.ext he1) (Part.all s) hdo.sls (fun v hv => one_ints v (List.mem_of_mem_drop hv)) fun w2 ho2 hon2 hs2 => ?_
    refine drew_i fun w3 hh3 he3 => ?_
    have hgs : ¬ s.blk = some g := fun e => hd.ne g e rfl
    have hb3 := ((hd.blk.ext he1).keep hon2 hgs).ext he3
    refine nn_i ?_
    rw [add_mk]
    refine ldS_i (s := s) (hb3.cell 0) (nn_i ?_)
    rw [add_mk]
    refine ldS_i (s := s) (hb3.cell 0) ?_
    have hcap := hd.own.cap
    have hmax := hd.own.max
    have hw : IntKind.i64.wrap ((s.n : Int) - 1) = (s.n : Int) - 1 := wrap_id ⟨by omega, by omega⟩
    rw [hw]
    refine slS_own (ho2.ext he3) (by omega) (by omega) (by omega) fun e he hen heb heo => ?_
    refine nn_i ?_
    rw [add_mk]
    refine stC_i rfl hb3 (by simp) fun w4 hb4 hs4 hon4 => ?_
    have hne' : ∀ g', e.blk = some g' → g' ≠ g := fun g' hg' => hd.ne g' (heb ▸ hg')
    refine h2 x l rfl _ e ⟨rfl, hd.low, by simpa using hb4, ?_, hne'⟩ ?_ ?_ ?_
    · have := heo.keep hon4 hne'
      simp only [List.length_cons] at hn
      rw [hdn] at this
      rw [show min s.n (s.n - (1 : Int).toNat) = l.length by simp; omega] at this
      rw [show ((s.n : Int) - 1).toNat - (0 : Int).toNat = l.length by simp; omega] at this
      simpa [ints, List.take_of_length_le] using this
    · exact Only.trans he1 (Only.trans hon2 (Only.trans he3 hon4 (fun _ _ h => h.elim) (fun k _ hk => .inl hk) : Only (foot g s) _ _) (fun k _ hk => .inr hk) (fun _ _ h => h)) (fun _ _ h => h.elim) (fun _ _ h => h)
    · rintro k (rfl | hk)
      · exact .inl rfl
      · exact .inr (heb ▸ hk)
    · rw [hs4, hh3, hs2, hh1]

/-- the chapter's example -/
theorem awake_s {w : World} {k : Bool → World → Prop} (hk : ∀ w', Ext w w' → k true w') : pelotonlaw17_awake w k := by
  unfold pelotonlaw17_awake
  refine draw_Order_s (by decide) (by decide) (by decide) (by decide) fun s1 w1 he1 ho1 => ?_
  refine draw_Order_s (by decide) (by decide) (by decide) (by decide) fun s2 w2 he2 ho2 => ?_
  refine draw_Order_s (by decide) (by decide) (by decide) (by decide) fun s3 w3 he3 ho3 => ?_
  have r1 : rot 1 (mayL 0 31 8 (5 : Int).toNat) = [2, 4, 1] := by decide
  have r2 : rot (-1) (mayL 0 31 8 (5 : Int).toNat) = [4, 1, 2] := by decide
  have r3 : rot 0 (mayL 4 31 8 (5 : Int).toNat) = [0, 1, 2] := by decide
  rw [r1] at ho1; rw [r2] at ho2; rw [r3] at ho3
  refine joinP_i (fun b w' => b = false ∧ Ext w w') ?_ ?_
  · intro J hJ
    refine iteB_f rfl ?_
    refine newC_i fun g4 w4 hg4 hs4 hb4 he4 => ?_
    refine same_s (ys := [2, 4, 1]) (((ho1.ext he2).ext he3).ext he4).sls (blk_sls (l := ints [2, 4, 1]) hb4 rfl _) (by decide) fun w5 he5 => ?_
    refine iteB_f rfl ?_
    refine newC_i fun g6 w6 hg6 hs6 hb6 he6 => ?_
    refine same_s (ys := [4, 1, 2]) ((((ho2.ext he3).ext he4).ext he5).ext he6).sls (blk_sls (l := ints [4, 1, 2]) hb6 rfl _) (by decide) fun w7 he7 => ?_
    refine iteB_f rfl ?_
    refine newC_i fun g8 w8 hg8 hs8 hb8 he8 => ?_
    refine same_s (ys := [0, 1, 2]) (((((ho3.ext he4).ext he5).ext he6).ext he7).ext he8).sls (blk_sls (l := ints [0, 1, 2]) hb8 rfl _) (by decide) fun w9 he9 => ?_
    exact hJ _ _ ⟨rfl, he1.trans (he2.trans (he3.trans (he4.trans (he5.trans (he6.trans (he7.trans (he8.trans he9)))))))⟩
  · rintro b w10 ⟨rfl, he10⟩
    refine iteB_f rfl ?_
    refine New_s (B := w10.heap.size) (Nat.le_refl _) fun p w11 g s hd he11 hf => ?_
    refine newC_i fun g12 w12 hg12 hs12 hb12 he12 => ?_
    have h12 := he11.trans he12
    refine Add_s (ys := [5, 6]) (hd.ext he12) (blk_sls (l := ints [5, 6]) hb12 rfl _) h12.size (by decide) (fun h => absurd h (by decide)) fun _ w13 s13 hd13 ho13 hf13 => ?_
    have h13 := h12.then ho13 fun g hg => ((hd.ext he12).lo g hg).1
    refine iteB_t rfl ?_
    refine newC_i fun g14 w14 hg14 hs14 hb14 he14 => ?_
    have h14 := h13.trans he14
    refine Add_s (ys := [7]) (hd13.ext he14) (blk_sls (l := ints [7]) hb14 rfl _) h14.size (by decide) (fun h => absurd h (by decide)) fun _ w15 s15 hd15 ho15 hf15 => ?_
    have h15 := h14.then ho15 fun g hg => ((hd13.ext he14).lo g hg).1
    refine iteB_t rfl ?_
    refine Next_s hd15 (fun h => by simp at h) fun x l hxl w16 s16 hd16 ho16 hf16 hs16 => ?_
    simp at hxl; obtain ⟨rfl, rfl⟩ := hxl
    have h16 := h15.then ho16 fun g hg => (hd15.lo g hg).1
    refine iteB_t rfl ?_
    refine Next_s hd16 (fun h => by simp at h) fun x l hxl w17 s17 hd17 ho17 hf17 hs17 => ?_
    simp at hxl; obtain ⟨rfl, rfl⟩ := hxl
    have h17 := h16.then ho17 fun g hg => (hd16.lo g hg).1
    refine iteB_t rfl ?_
    refine Next_s hd17 (fun h => by simp at h) fun x l hxl w18 s18 hd18 ho18 hf18 hs18 => ?_
    simp at hxl; obtain ⟨rfl, rfl⟩ := hxl
    have h18 := h17.then ho18 fun g hg => (hd17.lo g hg).1
    refine iteB_t rfl ?_
    refine Next_s hd18 (fun _ => ?_) fun x l hxl => by simp at hxl
    exact hk _ (he10.trans h18)

end Go.Proofs.Ytkcakjckpbldoaa
