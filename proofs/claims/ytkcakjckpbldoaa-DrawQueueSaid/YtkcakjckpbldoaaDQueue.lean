/-
  For every list of acts, DrawQueue of package pelotonlaw17 returns true, panics never, and leaves what it was given as it was. Conditions: none.
-/
import Derived.Test.YtkcakjckpbldoaaDc
import Derived.Test.YtkcakjckpbldoaaEvT
import Derived.Test.YtkcakjckpbldoaaRows
set_option linter.unusedSimpArgs false
set_option linter.unusedVariables false
set_option maxRecDepth 100000
namespace Go.Proofs.Ytkcakjckpbldoaa.DrawQueue
open Go Go.Ev Go.Proofs Go.Proofs.Ytkcakjckpbldoaa Go.RowKit Go.ChangeShapes Go.WideShapes

/-- an act: what, the numbers' slice, the numbers -/
structure Ac where
  what : Int
  sl : Sl
  xs : List Int
def Ac.cells (a : Ac) : List Value := [.int .i64 a.what, .slice a.sl.a a.sl.n a.sl.c]
structure Acts (w : World) (s : Sl) (l : List Ac) : Prop where
  rows : Rws 2 w s (l.map Ac.cells)
  each : ∀ a ∈ l, SlI w a.sl a.xs ∧ a.xs.length * 8 ≤ reachBytes
theorem Acts.ext {w w' : World} {s : Sl} {l : List Ac} (h : Acts w s l) (he : Ext w w') : Acts w' s l := ⟨h.rows.ext he, fun a ha => ⟨Sls.ext (h.each a ha).1 he, (h.each a ha).2⟩⟩
theorem Acts.len {w : World} {s : Sl} {l : List Ac} (h : Acts w s l) : s.n = l.length := by have := h.rows.len; simp at this; omega
theorem ixAct {w w2 : World} {s : Sl} {l : List Ac} {i : Nat} {a : Ac} {c : Addr → Prop} (h : Acts w s l) (hi : l[i]? = some a)
    (hc : ∀ p : Addr, w.cell? (p.add 0) = some (.int .i64 a.what) → w.cell? (p.add 1) = some (.slice a.sl.a a.sl.n a.sl.c) → c p) : ixS s (i : Int) 2 c := by
  have hl := h.len
  have hlt := (List.getElem?_eq_some_iff.1 hi).1
  refine ixR_i h.rows (by omega) (by omega) fun p e he _ hcell => ?_
  rw [Int.toNat_natCast, List.getElem?_map, hi] at he
  cases he
  exact hc p (hcell 0 _ rfl) (hcell 1 _ rfl)

theorem queue {sl : Sl} {l : List Ac} {w : World} {k : Bool → World → Prop} (hl : Acts w sl l) (hk : ∀ w', Ext w w' → k true w') : pelotonlaw17_DrawQueue sl w k := by
  have hln := hl.len
  unfold pelotonlaw17_DrawQueue
  refine New_s (B := w.heap.size) (Nat.le_refl _) fun p w1 g s hd he1 hf1 => ?_
  have hp := hd.ptr
  refine iteB_f (by rw [hp]; rfl) (iteB_i (fun h => awake_s fun w' he => hk _ (he1.trans he)) fun h => ?_)
  have h100 : l.length ≤ 100 := by simp at h; omega
  refine newC_i fun g2 w2 hg2 hs2 hb2 he2 => ?_
  have he12 := he1.trans he2
  refine joinP_i (fun (hs : Sl) w' => ∃ q s, Dr w' w.heap.size p q g s ∧ Own w' w.heap.size hs (ints q) ∧ (∀ b, hs.blk = some b → ¬ foot g s b) ∧ Ext w w' ∧ q.length ≤ 1024) ?_ ?_
  · intro J hJ
    refine loopP_of (fun (x : Sl × Int) w' => ∃ i : Nat, x.2 = i ∧ i ≤ l.length ∧ ∃ q s, Dr w' w.heap.size p q g s ∧ Own w' w.heap.size x.1 (ints q) ∧ (∀ b, x.1.blk = some b → ¬ foot g s b) ∧ Ext w w' ∧ q.length ≤ 1024) (fun x _ => (l.length - x.2).toNat)
      ⟨0, rfl, by omega, [], s, hd.ext he2, Own.new (l := []) (n := 0) hb2 (by have := he1.size; omega) rfl (by omega) (by simp), fun b hb hfb => ?_, he12, by simp⟩ ?_
    · simp [Sl.blk] at hb; subst hb
      have := (hd.lo _ hfb).2; omega
    rintro ⟨hs, i⟩ w3 ⟨i, hi, hil, q, s3, hd3, hown3, hdis3, he3, hq3⟩ C hC
    simp only at hi hown3 hdis3; subst hi
    have hsz3 := he3.size
    have hql : hs.n = q.length := by have := hown3.len; simp at this; omega
    refine iteB_i (fun hlt => ?_) (fun hge => ?_)
    · have hlt : i < l.length := by have : (i : Int) < sl.n := by simpa using hlt
                                    omega
      obtain ⟨a, ha⟩ : ∃ a, l[i]? = some a := ⟨_, List.getElem?_eq_getElem hlt⟩
      obtain ⟨hax, hab⟩ := hl.each a (List.mem_of_getElem? ha)
      have hab' : a.xs.length * 8 ≤ 140737488351232 := hab
      have hw := succ_wrap (i := i) (by omega)
      refine ixAct (w2 := w) hl ha fun pa hc0 hc1 => ldI_i (he3.cell hc0) ?_
      refine joinP_i (fun (hs' : Sl) w' => ∃ q' s', Dr w' w.heap.size p q' g s' ∧ Own w' w.heap.size hs' (ints q') ∧ (∀ b, hs'.blk = some b → ¬ foot g s' b) ∧ Ext w w' ∧ q'.length ≤ 1024) ?_ ?_
      · intro J2 hJ2
        refine iteB_i (fun hdo => ?_) (fun hdo => ?_)
        · -- Add
          refine newC_i fun g4 w4 hg4 hs4 hb4 he4 => ?_
          refine ixAct (w2 := w) hl ha fun pa hc0 hc1 => ldS_i (s := a.sl) ((he3.trans he4).cell hc1) ?_
          refine bApp_i (B := w3.heap.size) (s := ⟨some ⟨g4, 0, none⟩, 0, 0⟩) el35 rfl el35.1 (Own.new (l := []) (n := 0) hb4 (by omega) rfl (by omega) (by simp)) (Sls.ext hax (he3.trans he4)) one_ints (by omega) (by simp [ints]; omega) (by simp [ints]; omega) fun so w5 hown5 hon5 hblk5 => ?_
          have hso : ∀ b, so.blk = some b → w3.heap.size ≤ b ∧ b < w5.heap.size := fun b hb => hown5.below hb
          have he35 : Ext w3 w5 := he4.then hon5 (by intro b hb; simp [Sl.blk] at hb; omega)
          have hown5' : Own w5 w3.heap.size so (ints a.xs) := by simpa using hown5
          have hsoln : so.n = a.xs.length := by have := hown5'.len; simp at this; omega
          have cont : ∀ (e : Int) (hs' : Sl) (q' : List Int) (s' : Sl) (w6 : World), Dr w6 w.heap.size p q' g s' → Own w6 w.heap.size hs' (ints q') → (∀ b, hs'.blk = some b → ¬ foot g s' b) → Ext w w6 → q'.length ≤ 1024 →
              Own w6 w3.heap.size so (ints a.xs) → (∀ b, so.blk = some b → ¬ foot g s' b ∧ hs'.blk ≠ some b) →
              loopP (S := Int) (fun C31 i32 w33 =>
                iteB (decide (i32 < ((so.n : Nat) : Int))) (
                  drew w33 fun w34 =>
                  ixS so i32 1 fun a35 =>
                  ldI .i64 w34 a35 fun i36 =>
                  ixS sl (i : Int) 2 fun a37 =>
                  ldS w34 (Addr.add a37 1) fun s38 =>
                  ixS s38 i32 1 fun a39 =>
                  ldI .i64 w34 a39 fun i40 =>
                  iteB (i36 != i40) (
                    (k false w34)) (
                    ixS so i32 1 fun a41 =>
                    stC w34 a41 (.int .i64 (77 : Int)) fun w42 =>
                    (C31 (IntKind.wrap .i64 (i32 + (1 : Int))) w42))) (
                  (J2 hs' w33))) (0 : Int) w6 := by
            intro e hs' q' s' w6 hd6 hown6 hdis6 he6 hq6 hso6 hsd6
            have hsz6 := he6.size
            refine loopP_of (fun (x : Int) w' => ∃ j : Nat, x = j ∧ j ≤ a.xs.length ∧ Only (fun b => so.blk = some b) w6 w' ∧ Own w' w3.heap.size so (ints (List.replicate j 77 ++ a.xs.drop j))) (fun x _ => (a.xs.length - x).toNat) ⟨0, rfl, by omega, .refl _ _, by simpa using hso6⟩ ?_
            rintro _ w7 ⟨j, rfl, hj, hon7, hso7⟩ C2 hC2
            have he7 : Ext w w7 := he6.then hon7 fun b hb => by have := (hso b hb).1; omega
            refine iteB_i (fun hlt => ?_) (fun hge => ?_)
            · have hlt : j < a.xs.length := by have : (j : Int) < so.n := by simpa using hlt
                                               omega
              refine drew_i fun w8 hh8 he8 => ?_
              have hso8 := hso7.ext he8
              obtain ⟨x, hx⟩ : ∃ x, a.xs[j]? = some x := ⟨_, List.getElem?_eq_getElem hlt⟩
              refine ixI hso8.sls (by omega) (by omega) (.refl _ _) fun y hy => ?_
              rw [Int.toNat_natCast, List.getElem?_append_right (by simp)] at hy
              simp [hx] at hy
              refine ixAct (w2 := w) hl ha fun pa hc0 hc1 => ldS_i (s := a.sl) ((he7.trans he8).cell hc1) ?_
              have hln2 := SlI.len hax
              refine ixI (Sls.ext hax (he7.trans he8)) (by omega) (by omega) (.refl _ _) fun z hz => ?_
              rw [Int.toNat_natCast, hx] at hz
              cases hz; subst hy
              refine iteB_f (by simp) ?_
              obtain ⟨b0, off, cs, hb1, hb2, hb3, hb4, hb5⟩ : ∃ b0 off cs, so.a = some ⟨b0, off, none⟩ ∧ w3.heap.size ≤ b0 ∧ Blk w8 b0 cs ∧ off + so.c ≤ cs.size ∧ ∀ i v, (ints (List.replicate j 77 ++ a.xs.drop j))[i]? = some v → cs[off + i]? = some v := by
                rcases hso8.row with ⟨h1, h2⟩ | h
                · have := hso8.cap; omega
                · exact h
              have hcap := hso8.cap
              unfold ixS
              rw [hb1]
              refine ⟨⟨by omega, by omega⟩, ?_⟩
              rw [add_mk]
              simp only [Int.toNat_natCast, Nat.mul_one]
              refine stC_i rfl hb3 (by omega) fun w9 hb9 hs9 hon9 => ?_
              have hw2 := succ_wrap (i := j) (by omega)
              refine hC2 _ _ ⟨j + 1, hw2, by omega, ?_, ?_⟩ (by simp only [hw2]; omega)
              · refine Only.trans hon7 (Only.trans he8 hon9 (fun _ _ h => h.elim) (fun b _ hb => ?_) : Only (fun b => so.blk = some b) _ _) (fun _ _ h => h) (fun _ _ h => h)
                subst hb; simp [Sl.blk, hb1]
              · refine ⟨by simp [ints]; omega, hso8.cap, hso8.max, one_ints, .inr ⟨b0, off, _, hb1, hb2, hb9, by simpa using hb4, fun i' v hv => ?_⟩⟩
                by_cases hij : i' = j
                · subst hij
                  rw [Array.getElem?_setIfInBounds_self, if_pos (by omega)]
                  rw [List.getElem?_map, List.getElem?_append_left (by simp)] at hv
                  simp at hv
                  rw [← hv]
                · rw [Array.getElem?_setIfInBounds_ne (by omega)]
                  refine hb5 i' v ?_
                  rw [List.getElem?_map] at hv ⊢
                  rw [← hv]
                  congr 1
                  by_cases hlt' : i' < j
                  · rw [List.getElem?_append_left (by simp; omega), List.getElem?_append_left (by simp; omega)]
                    simp [hlt', show i' < j + 1 by omega]
                  · rw [List.getElem?_append_right (by simp; omega), List.getElem?_append_right (by simp; omega)]
                    simp only [List.length_replicate, List.getElem?_drop]
                    congr 1; omega
            · refine hJ2 _ _ ⟨q', s', hd6.keep hon7 fun b hb hbs => (hsd6 b hbs).1 hb, hown6.keep hon7 fun b hb hbs => (hsd6 b hbs).2 hb, hdis6, he7, hq6⟩
          have hd5 := hd3.ext he35
          have hown35 := hown3.ext he35
          have he5 := he3.trans he35
          have hsw : ∀ b, so.blk = some b → ¬ foot g s3 b := fun b hb hfb => by
            have h1 := (hd3.lo b hfb).2; have h2 := (hso b hb).1; omega
          have hsh : ∀ b, so.blk = some b → hs.blk ≠ some b := fun b hb hfb => by
            have h1 := (hown3.below hfb).2; have h2 := (hso b hb).1; omega
          have hwq : IntKind.i64.wrap (1024 - (hs.n : Int)) = 1024 - hs.n := wrap_id ⟨by omega, by omega⟩
          have haln := SlI.len hax
          refine Add_s (ys := a.xs) hd5 hown5'.sls (by have := he5.size; omega) hq3 (fun hfull => ?_) (fun hroom w6 s6 hd6 hon6 hf6 => ?_)
          · refine ixAct (w2 := w) hl ha fun pa hc0 hc1 => ldS_i (s := a.sl) (he5.cell hc1) ?_
            refine joinP_d ?_
            rw [hwq]
            refine iteB_t (by simp; omega) (iteB_f rfl ?_)
            exact cont 20 hs q s3 w5 hd5 hown35 hdis3 he5 hq3 hown5' fun b hb => ⟨hsw b hb, hsh b hb⟩
          · have he6 : Ext w w6 := he5.then hon6 fun b hb => (hd5.lo b hb).1
            refine ixAct (w2 := w) hl ha fun pa hc0 hc1 => ldS_i (s := a.sl) (he6.cell hc1) ?_
            refine joinP_d ?_
            rw [hwq]
            refine iteB_f (by simp; omega) (iteB_f rfl ?_)
            refine ixAct (w2 := w) hl ha fun pa hc0 hc1 => ldS_i (s := a.sl) (he6.cell hc1) ?_
            have hown36 : Own w6 w.heap.size hs (ints q) := hown35.keep hon6 fun b hb => hdis3 b hb
            refine bApp_i (B := w.heap.size) el35 rfl el35.1 hown36 (Sls.ext hax he6) one_ints he6.size (by simp [ints]; omega) (by simp [ints]; omega) fun hs7 w7 hown7 hon7 hblk7 => ?_
            have hdis6 : ∀ b, hs.blk = some b → ¬ foot g s6 b := fun b hb hfb => by
              rcases hf6 b hfb with h | h
              · exact hdis3 b hb h
              · have := (hown35.below hb).2; omega
            have hs7b : ∀ b, hs7.blk = some b → hs.blk = some b ∨ w6.heap.size ≤ b := fun b hb => by
              rcases hblk7 with h | ⟨g7, h, hg7⟩
              · exact .inl (h ▸ hb)
              · rw [h] at hb; cases hb; exact .inr hg7
            have hsof : ∀ b, so.blk = some b → ¬ foot g s6 b := fun b hb hfb => by
              rcases hf6 b hfb with h | h
              · exact hsw b hb h
              · have := (hso b hb).2; omega
            refine cont 0 hs7 (q ++ a.xs) s6 w7 (hd6.keep hon7 fun b hb hbs => hdis6 b hbs hb) (by simpa [ints] using hown7) (fun b hb hfb => ?_) (he6.then hon7 fun b hb => (hown36.below hb).1) (by simp; omega) ((hown5'.keep hon6 fun b hb => hsw b hb).keep hon7 fun b hb => hsh b hb) fun b hb => ⟨hsof b hb, fun hb7 => ?_⟩
            · rcases hs7b b hb with h | h
              · exact hdis6 b h hfb
              · have := (hd6.lo b hfb).2; omega
            · rcases hs7b b hb7 with h | h
              · exact hsh b hb h
              · have h1 := (hso b hb).2; have h2 := hon6.size; omega
        · -- Next
          refine Next_s hd3 (fun hq => ?_) (fun x q' hq w4 s4 hd4 hon4 hf4 hs4 => ?_)
          · subst hq
            refine iteB_t (by simp at hql; simp [hql]) (iteB_f rfl (hJ2 _ _ ⟨[], s3, hd3, hown3, hdis3, he3, hq3⟩))
          · subst hq
            have hown4 := hown3.keep hon4 fun b hb => hdis3 b hb
            have he4 : Ext w w4 := he3.then hon4 fun b hb => (hd3.lo b hb).1
            simp only [List.length_cons] at hql hq3
            refine iteB_f (by simp; omega) ?_
            refine ixI (s := hs) hown4.sls (by omega) (by omega) (.refl _ _) fun y hy => ?_
            simp at hy; subst hy
            refine iteB_f (by simp) ?_
            refine slL_own (s := hs) hown4 (by omega) (by omega) fun d hdp hdn hdb hdo => ?_
            refine hJ2 _ _ ⟨q', s4, hd4, by simpa [ints] using hdo, fun b hb hfb => ?_, he4, by omega⟩
            exact hdis3 b (hdb ▸ hb) (hf4 b hfb)
      · rintro hs4 w4 ⟨q4, s4, hd4, hown4, hdis4, he4, hq4⟩
        refine Len_s hd4 ?_
        have : hs4.n = q4.length := by have := hown4.len; simp at this; omega
        refine iteB_f (by simp; omega) ?_
        exact hC _ _ ⟨i + 1, hw, by omega, q4, s4, hd4, hown4, hdis4, he4, hq4⟩ (by simp only [hw]; omega)
    · exact hJ _ _ ⟨q, s3, hd3, hown3, hdis3, he3, hq3⟩
  · rintro hs w3 ⟨q, s3, hd3, hown3, hdis3, he3, hq3⟩
    have hql : hs.n = q.length := by have := hown3.len; simp at this; omega
    refine loopP_of (fun (x : Int) w' => ∃ i : Nat, x = i ∧ i ≤ q.length ∧ ∃ s', Dr w' w.heap.size p (q.drop i) g s' ∧ Own w' w.heap.size hs (ints q) ∧ (∀ b, hs.blk = some b → ¬ foot g s' b) ∧ Ext w w') (fun x _ => (q.length - x).toNat) ⟨0, rfl, by omega, s3, by simpa using hd3, hown3, hdis3, he3⟩ ?_
    rintro _ w4 ⟨i, rfl, hi, s4, hd4, hown4, hdis4, he4⟩ C hC
    refine iteB_i (fun hlt => ?_) (fun hge => ?_)
    · have hlt : i < q.length := by have : (i : Int) < hs.n := by simpa using hlt
                                    omega
      refine drew_i fun w5 hh5 he5 => ?_
      obtain ⟨x, hx⟩ : ∃ x, q[i]? = some x := ⟨_, List.getElem?_eq_getElem hlt⟩
      obtain ⟨b0, off, cs, hb1, hb2, hb3, hb4, hb5⟩ : ∃ b0 off cs, hs.a = some ⟨b0, off, none⟩ ∧ w.heap.size ≤ b0 ∧ Blk w5 b0 cs ∧ off + hs.c ≤ cs.size ∧ ∀ i v, (ints q)[i]? = some v → cs[off + i]? = some v := by
        rcases (hown4.ext he5).row with ⟨h1, h2⟩ | h
        · have := hown4.cap; omega
        · exact h
      have hqi : (ints q)[i]? = some (.int .i64 x) := by simp [hx]
      unfold ixS
      rw [hb1]
      refine ⟨⟨by omega, by omega⟩, ?_⟩
      rw [add_mk]
      simp only [Int.toNat_natCast, Nat.mul_one]
      refine ldI_i (by rw [hb3.cell]; exact hb5 i _ hqi) ?_
      have hdr : q.drop i = x :: q.drop (i + 1) := by
        rw [List.drop_eq_getElem_cons hlt]
        rw [List.getElem?_eq_getElem hlt] at hx
        rw [Option.some.inj hx]
      refine Next_s (hd4.ext he5) (fun h => by rw [hdr] at h; cases h) (fun y q' hq w6 s6 hd6 hon6 hf6 hs6 => ?_)
      rw [hdr] at hq; cases hq
      have hbd : ¬ foot g s4 b0 := hdis4 b0 (by simp [Sl.blk, hb1])
      refine ⟨fun k hk => ?_, ?_⟩
      · rw [add_mk, (hb3.keep hon6 hbd).cell, hb3.cell]
      refine iteB_f (by simp) ?_
      have hw := succ_wrap (i := i) (by omega)
      exact hC _ _ ⟨i + 1, hw, by omega, s6, hd6, (hown4.ext he5).keep hon6 fun b hb => hdis4 b hb, fun b hb hfb => hdis4 b hb (hf6 b hfb), (he4.trans he5).then hon6 fun b hb => ((hd4.ext he5).lo b hb).1⟩ (by simp only [hw]; omega)
    · have hge : ¬ i < q.length := by have : ¬ (i : Int) < hs.n := by simpa using hge
                                      omega
      have e : q.drop i = [] := List.drop_of_length_le (by omega)
      rw [e] at hd4
      refine Len_s hd4 (iteB_t rfl ?_)
      refine Next_s hd4 (fun _ => iteB_t rfl (awake_s fun w' he => hk _ (he4.trans he))) (fun y q' hq => by cases hq)

/-! ### the lift -/
theorem own : ownKnob Try.prog.godebug = none := by kernel_rfl
theorem walk (W : World) (args : Array Value) (hA : Args Try.prog W Try.f5.params.toList args.toList) :
    Calls Try.prog 5 args W fun e W' => e = .returned (.bool true) ∧ Below W.heap.size W W' := by
  rw [Try.params5] at hA
  obtain ⟨v0, _, e0, h0, hA⟩ := hA.cons
  obtain rfl := hA.nil
  obtain rfl : args = #[v0] := by cases args; simp_all
  obtain ⟨s, rfl, hr⟩ := h0.slice Try.underlying32
  obtain ⟨s', es, he, hrw, _, _, _, hall⟩ := hr.slice Try.underlying32
  have hss : s = s' := by
    obtain ⟨a, n, c⟩ := s; obtain ⟨a', n', c'⟩ := s'
    simpa using he
  subst hss
  obtain ⟨l, rfl, hl⟩ := exists_map (f := Ac.cells) (G := fun a => SlI W a.sl a.xs ∧ a.xs.length * 8 ≤ reachBytes) fun e' he' => by
    obtain ⟨hlen, hf⟩ := (hall e' he').struct Try.underlying37
    have h0 : Rdd Try.prog W 3 ((e'.drop 0).take (Try.prog.cellsOf 3)) := hf 0 _ rfl
    have h1 : Rdd Try.prog W 35 ((e'.drop 1).take (Try.prog.cellsOf 35)) := hf 1 _ rfl
    have c37 : Try.prog.cellsOf 37 = 2 := by kernel_rfl
    have c3 : Try.prog.cellsOf 3 = 1 := by kernel_rfl
    have c35 : Try.prog.cellsOf 35 = 1 := by kernel_rfl
    rw [c37] at hlen
    rw [c3] at h0
    rw [c35] at h1
    match e', hlen with
    | [x, y], _ =>
      obtain ⟨n, hn, _⟩ := h0.int (by kernel_rfl)
      obtain ⟨sl, xs, hs, h2, h3, h4⟩ := h1.ints (e := 2) Try.underlying35 (by kernel_rfl) (by kernel_rfl) (by kernel_rfl)
      simp at hn hs
      exact ⟨⟨n, sl, xs⟩, by rw [hn, hs]; rfl, h2, h3⟩
  refine (s5.2 _ W (fun v w' => v = .bool true ∧ Below W.heap.size W w') ?_).mono ?_
  · have h := queue (k := fun r w' => packV (valL [.b] r) = .bool true ∧ Below W.heap.size W w') ⟨hrw, hl⟩ fun w' he => ⟨rfl, he.below⟩
    exact h
  · rintro e w' ⟨v, rfl, rfl, hb⟩
    exact ⟨rfl, hb⟩

theorem lifted (os : Os) (started : os.Started) (H : Type) (enc : TypeId × Value → H) :
    ReturnsInHanded {} Try.checked os 5 .any (Rows.drawQueueSpec.pre6 enc Try.prog Try.f5 Rows.drawQueueRow.domain false) (Rows.drawQueueSpec.post enc Try.prog Try.f5 false true false false) :=
  law_lifted (C := Try.checked) own started (by kernel_rfl) Try.func5
    (ChangeSpec.witness6 (enc := enc) (C := Try.checked) false ⟨#[], #[.slice none 0 0], []⟩ 8 (by kernel_rfl) (by kernel_rfl) (by kernel_rfl) (by kernel_rfl))
    rfl (by kernel_rfl) (by kernel_rfl) (tb := 4) (by kernel_rfl) (by kernel_rfl)
    (fun ds h => by
      match ds, h with
      | [_], _ => rfl)
    walk

theorem over : Rows.drawQueueRow.holds Try.pinned (OpenSpec.ofChange Rows.drawQueueSpec) :=
  OpenClaim.holds_of_wide 5 Try.f5 rfl rfl rfl rfl rfl rfl rfl ⟨rfl, rfl, rfl, rfl, rfl⟩ rfl rfl rfl rfl rfl (by kernel_rfl) Try.func5 (by kernel_rfl)
    (of_decide_eq_true (by kernel_rfl)) (by unfold Func.isWrapper; first | (rw [if_pos (by decide +kernel)]; kernel_rfl) | (rw [if_neg (by decide +kernel)]; exact ⟨rfl, rfl⟩))
    (fun os started H enc _ => lifted os started H enc)

theorem proved : Rows.DrawQueueSaid := over
#print axioms proved
end Go.Proofs.Ytkcakjckpbldoaa.DrawQueue
