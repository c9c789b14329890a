/-
  For every task, every instruction, kind and number, FrameSteps of package pelotonlaw05 returns true, panics never, and leaves what it was given as it was. Conditions: none.
-/
import Derived.Test.YtkcakjckpbldoaaFg
import Derived.Test.YtkcakjckpbldoaaEvS
import Derived.Test.YtkcakjckpbldoaaRows
set_option linter.unusedSimpArgs false
set_option linter.unusedVariables false
set_option maxRecDepth 100000
namespace Go.Proofs.Ytkcakjckpbldoaa.FrameSteps
open Go Go.Ev Go.Proofs Go.Proofs.Ytkcakjckpbldoaa Go.RowKit Go.ChangeShapes Go.WideShapes

/-! ### how many are not the same -/
def cntN (o n : Nat) (f g : List Int) : Nat := (List.range n).countP fun j => f.getD (o + j) 0 != g.getD (o + j) 0
theorem cntN_succ {o n : Nat} {f g : List Int} : cntN o (n + 1) f g = cntN o n f g + (if f.getD (o + n) 0 != g.getD (o + n) 0 then 1 else 0) := by
  unfold cntN
  rw [List.range_succ, List.countP_append, List.countP_singleton]
theorem cntN_le {o n : Nat} {f g : List Int} : cntN o n f g ≤ n := by
  unfold cntN
  have := List.countP_le_length (p := fun j => f.getD (o + j) 0 != g.getD (o + j) 0) (l := List.range n)
  simpa using this
theorem count_one (n a : Nat) : (List.range n).countP (fun j => j == a) ≤ 1 := by
  induction n with
  | zero => simp
  | succ n ih =>
    rw [List.range_succ, List.countP_append, List.countP_singleton]
    by_cases h : n == a
    · have : (List.range n).countP (fun j => j == a) = 0 := by
        rw [List.countP_eq_zero]
        intro j hj
        have := List.mem_range.1 hj
        have h := beq_iff_eq.1 h
        simp; omega
      rw [this, if_pos h]; omega
    · rw [if_neg h]; omega
theorem count_or (l : List Nat) (p q : Nat → Bool) : l.countP (fun j => p j || q j) ≤ l.countP p + l.countP q := by
  induction l with
  | nil => simp
  | cons x l ih =>
    rw [List.countP_cons, List.countP_cons, List.countP_cons]
    cases p x <;> cases q x <;> simp <;> omega
theorem cnt_none {o : Nat} {f g : List Int} (h : ∀ j, j < 8 → g.getD (o + j) 0 = f.getD (o + j) 0) : cntN o 8 f g = 0 := by
  unfold cntN
  rw [List.countP_eq_zero]
  intro j hj
  rw [h j (List.mem_range.1 hj)]; simp
theorem cnt_one {o a : Nat} {f g : List Int} (h : ∀ j, j < 8 → j ≠ a → g.getD (o + j) 0 = f.getD (o + j) 0) : cntN o 8 f g ≤ 1 := by
  refine Nat.le_trans (List.countP_mono_left fun j hj hne => ?_) (count_one 8 a)
  by_cases hja : j = a
  · simp [hja]
  · rw [h j (List.mem_range.1 hj) hja] at hne; simp at hne
theorem cnt_two {o a b : Nat} {f g : List Int} (h : ∀ j, j < 8 → j ≠ a → j ≠ b → g.getD (o + j) 0 = f.getD (o + j) 0) : cntN o 8 f g ≤ 2 := by
  refine Nat.le_trans (List.countP_mono_left (q := fun j => j == a || j == b) fun j hj hne => ?_) (Nat.le_trans (count_or _ _ _) (Nat.add_le_add (count_one 8 a) (count_one 8 b)))
  by_cases hja : j = a
  · simp [hja]
  by_cases hjb : j = b
  · simp [hjb]
  · rw [h j (List.mem_range.1 hj) hja hjb] at hne; simp at hne

theorem turned_s {f g : List Int} {w : World} {k : Int × Int → World → Prop} (hf : f.length = 19) (hg : g.length = 19) (hk : ∀ w', Ext w w' → k ((cntN 2 8 f g : Nat), (cntN 10 8 f g : Nat)) w') : pelotonlaw05_turned (agI f) (agI g) w k := by
  unfold pelotonlaw05_turned
  refine newC_i fun g1 w1 hg1 hs1 hb1 he1 => newC_i fun g2 w2 hg2 hs2 hb2 he2 => ?_
  have he12 := he1.trans he2
  have hb12 : BI w2 g1 f := hb1.ext he2
  have hb22 : BI w2 g2 g := hb2
  simp only [add_mk, Nat.zero_add]
  refine loopP_of (fun (x : Int × Int × Int) w' => ∃ j : Nat, x = (((cntN 2 j f g : Nat) : Int), ((cntN 10 j f g : Nat) : Int), (j : Int)) ∧ j ≤ 8 ∧ Ext w2 w') (fun x _ => (8 - x.2.2).toNat) ⟨0, rfl, by omega, .refl _ _⟩ ?_
  rintro _ w3 ⟨j, rfl, hj, he3⟩ C hC
  dsimp only
  refine iteB_i (fun hlt => ?_) fun hge => ?_
  · have hlt : j < 8 := by have : (j : Int) < 8 := by simpa using hlt
                           omega
    refine drew_i fun w4 hh4 he4 => ?_
    have he24 := he3.trans he4
    refine ixP_i (by omega) (by omega) (ldP_I (hb12.ext he24) (by simp; omega) (ixP_i (by omega) (by omega) (ldP_I (hb22.ext he24) (by simp; omega) ?_)))
    simp only [Int.toNat_natCast, Nat.mul_one]
    have hb1 := @cntN_le 2 j f g
    have hb2 := @cntN_le 10 j f g
    refine joinP_i (fun y w' => y = ((cntN 2 (j + 1) f g : Nat) : Int) ∧ w' = w4) ?_ ?_
    · intro J hJ
      refine iteB_i (fun h => hJ _ _ ⟨?_, rfl⟩) fun h => hJ _ _ ⟨?_, rfl⟩
      · rw [cntN_succ, h, wrap_id ⟨by omega, by omega⟩]; simp
      · rw [cntN_succ, h]; simp
    rintro _ _ ⟨rfl, rfl⟩
    refine drew_i fun w5 hh5 he5 => ?_
    have he25 := he24.trans he5
    have hw : IntKind.i64.wrap ((j : Int) + 1) = ((j + 1 : Nat) : Int) := by rw [wrap_id ⟨by omega, by omega⟩]; simp
    refine ixP_i (by omega) (by omega) (ldP_I (hb12.ext he25) (by simp; omega) (ixP_i (by omega) (by omega) (ldP_I (hb22.ext he25) (by simp; omega) ?_)))
    simp only [Int.toNat_natCast, Nat.mul_one]
    refine iteB_i (fun h => hC _ _ ⟨j + 1, ?_, by omega, he25⟩ (by dsimp only; rw [hw]; omega)) fun h => hC _ _ ⟨j + 1, ?_, by omega, he25⟩ (by dsimp only; rw [hw]; omega)
    · rw [hw, @cntN_succ 10, h, wrap_id ⟨by omega, by omega⟩]; simp
    · rw [hw, @cntN_succ 10, h]; simp
  · have hj8 : j = 8 := by have : ¬ (j : Int) < 8 := by simpa using hge
                           omega
    subst hj8
    exact hk _ (he12.trans he3)

/-! ### the plain law -/
def cls (k : Nat) (op : Int) : Prop := (k = 0 ∧ op ≤ 7) ∨ (k = 1 ∧ (op = 9 ∨ op = 10)) ∨ (k = 2 ∧ op = 12) ∨ (k = 3 ∧ op = 8)
structure OkStep (f g : List Int) (op : Int) (k : Nat) : Prop where
  func : g.getD 0 0 = f.getD 0 0
  steps : g.getD 18 0 = IntKind.i64.wrap (f.getD 18 0 + 1)
  r : cntN 2 8 f g ≤ if op = 10 then 2 else 1
  h : cntN 10 8 f g ≤ 1
  rh : cntN 2 8 f g = 0 ∨ cntN 10 8 f g = 0
  hk : cntN 10 8 f g = 0 ∨ k = 3
  is : cls k op
theorem get_ne {f : List Int} {i j : Nat} {v : Int} (h : j ≠ i) : (f.set i v).getD j 0 = f.getD j 0 := Go.Ev.getD_set_ne (Ne.symm h)
theorem fTo_get {f : List Int} {pc : Int} {j : Nat} (h1 : j ≠ 1) (h18 : j ≠ 18) : (fTo f pc).getD j 0 = f.getD j 0 := by
  unfold fTo; rw [get_ne h18, get_ne h1]
theorem fTo_steps {f : List Int} {pc : Int} (hf : f.length = 19) : (fTo f pc).getD 18 0 = IntKind.i64.wrap (f.getD 18 0 + 1) := by
  unfold fTo
  rw [Go.Ev.getD_set_eq (by simp [hf]), get_ne (by omega)]
/-- registers a and b turned, at most -/
theorem ok_regs {f f' : List Int} {pc op : Int} {k a b : Nat} (hf : f.length = 19) (hf' : f'.length = 19) (h : ∀ j, j ≠ 2 + a → j ≠ 2 + b → f'.getD j 0 = f.getD j 0) (ha : a < 8) (hb : b < 8) (hab : op = 10 ∨ a = b) (hc : cls k op) : OkStep f (fTo f' pc) op k := by
  have hh : cntN 10 8 f (fTo f' pc) = 0 := cnt_none fun j hj => by rw [fTo_get (by omega) (by omega), h _ (by omega) (by omega)]
  refine ⟨by rw [fTo_get (by omega) (by omega), h _ (by omega) (by omega)], by rw [fTo_steps hf', h _ (by omega) (by omega)], ?_, by omega, .inr hh, .inl hh, hc⟩
  split
  · exact cnt_two (a := a) (b := b) fun j hj h1 h2 => by rw [fTo_get (by omega) (by omega), h _ (by omega) (by omega)]
  · rename_i hne
    have hab : a = b := hab.resolve_left hne
    exact cnt_one (a := a) fun j hj h1 => by rw [fTo_get (by omega) (by omega), h _ (by omega) (by omega)]
theorem ok_none {f : List Int} {pc op : Int} {k : Nat} (hf : f.length = 19) (hc : cls k op) : OkStep f (fTo f pc) op k := by
  have hh : cntN 10 8 f (fTo f pc) = 0 := cnt_none fun j hj => fTo_get (by omega) (by omega)
  have hr : cntN 2 8 f (fTo f pc) = 0 := cnt_none fun j hj => fTo_get (by omega) (by omega)
  exact ⟨fTo_get (by omega) (by omega), fTo_steps hf, by rw [hr]; omega, by omega, .inr hh, .inl hh, hc⟩
theorem ok_plain {f i : List Int} (hf : f.length = 19) : (fPlain f i).1 = f ∨ OkStep f (fPlain f i).1 (i.getD 0 0) 0 := by
  by_cases hc : chk i = 0
  · obtain ⟨hA, hB, hC⟩ := chk_regs hc
    unfold fPlain
    rw [if_neg (by simpa using hc)]
    split
    · rename_i h; exact .inr (ok_none hf (.inl ⟨rfl, by omega⟩))
    split
    · rename_i h; exact .inr (ok_none hf (.inl ⟨rfl, by omega⟩))
    split
    · exact .inl rfl
    · rename_i h1 h2 h3
      exact .inr (ok_regs (a := (i.getD 1 0).toNat) (b := (i.getD 1 0).toNat) hf (by simp [hf]) (fun j h1 _ => get_ne h1) (by omega) (by omega) (.inr rfl) (.inl ⟨rfl, by omega⟩))
  · unfold fPlain
    rw [if_pos hc]
    exact .inl rfl
theorem ok_joined {f i : List Int} {kind v : Int} (hf : f.length = 19) : (fJoined f i kind v).1 = f ∨ OkStep f (fJoined f i kind v).1 (i.getD 0 0) 1 := by
  unfold fJoined
  split
  · exact .inl rfl
  rename_i h
  split
  · rename_i h10
    obtain ⟨e, hc⟩ := isB_true h10
    obtain ⟨hA, hB, hC⟩ := chk_regs hc
    exact .inr (ok_regs (a := (i.getD 1 0).toNat) (b := (i.getD 2 0).toNat) hf (by simp [hf]) (fun j h1 h2 => by rw [get_ne h2, get_ne h1]) (by omega) (by omega) (.inl e) (.inr (.inl ⟨rfl, .inr e⟩)))
  rename_i h10
  have h9 : isB i 9 = true := by
    cases h9 : isB i 9 with
    | true => rfl
    | false => exact absurd (.inr (.inr ⟨h9, by simpa using h10⟩)) h
  obtain ⟨e, hc⟩ := isB_true h9
  obtain ⟨hA, hB, hC⟩ := chk_regs hc
  split
  · exact .inr (ok_regs (a := (i.getD 1 0).toNat) (b := (i.getD 1 0).toNat) hf (by simp [hf]) (fun j h1 _ => get_ne h1) (by omega) (by omega) (.inr rfl) (.inr (.inl ⟨rfl, .inl e⟩)))
  · exact .inr (ok_none hf (.inr (.inl ⟨rfl, .inl e⟩)))
theorem ok_closed {f i : List Int} {b : Bool} (hf : f.length = 19) : fClosed f i b = f ∨ OkStep f (fClosed f i b) (i.getD 0 0) 2 := by
  unfold fClosed
  split
  · rename_i h
    obtain ⟨e, hc⟩ := isB_true h
    obtain ⟨hA, hB, hC⟩ := chk_regs hc
    exact .inr (ok_regs (a := (i.getD 1 0).toNat) (b := (i.getD 1 0).toNat) hf (by simp [hf]) (fun j h1 _ => get_ne h1) (by omega) (by omega) (.inr rfl) (.inr (.inr (.inl ⟨rfl, e⟩))))
  · exact .inl rfl
theorem ok_forked {f i : List Int} {b : Int} (hf : f.length = 19) : fForked f i b = f ∨ OkStep f (fForked f i b) (i.getD 0 0) 3 := by
  unfold fForked
  split
  · rename_i h
    obtain ⟨e, hc⟩ := isB_true h
    obtain ⟨hA, hB, hC⟩ := chk_regs hc
    refine .inr ?_
    unfold fOn
    generalize hpc : IntKind.i64.wrap ((f.set (10 + (i.getD 1 0).toNat) b).getD 1 0 + 1) = pc
    have hr : cntN 2 8 f (fTo (f.set (10 + (i.getD 1 0).toNat) b) pc) = 0 := cnt_none fun j hj => by rw [fTo_get (by omega) (by omega), get_ne (by omega)]
    exact ⟨by rw [fTo_get (by omega) (by omega), get_ne (by omega)], by rw [fTo_steps (by simp [hf]), get_ne (by omega)], by rw [hr]; omega,
      cnt_one (a := (i.getD 1 0).toNat) fun j hj h1 => by rw [fTo_get (by omega) (by omega), get_ne (by omega)], .inl hr, .inr rfl, .inr (.inr (.inr ⟨rfl, e⟩))⟩
  · exact .inl rfl
theorem cls_one {a b : Nat} {op : Int} (h : cls a op) (h' : cls b op) : a = b := by unfold cls at *; omega

/-! ### the four -/
theorem spl4 {zs : Array Value} {A B C D : List Int} {K : Array Value → Prop} (hz : zs = agI (Z 76)) (hA : A.length = 19) (hB : B.length = 19) (hC : C.length = 19) (hD : D.length = 19) (hc : K (agI (A ++ (B ++ (C ++ D))))) :
    spl zs 0 19 (agI A) fun c1 => spl c1 19 19 (agI B) fun c2 => spl c2 38 19 (agI C) fun c3 => spl c3 57 19 (agI D) fun c4 => K c4 := by
  subst hz
  refine spl_I hA (by simp) (spl_I hB (by simp [hA]) (spl_I hC (by simp [hA, hB]) (spl_I hD (by simp [hA, hB, hC]) ?_)))
  have e : List.take 57 (List.take 38 (List.take 19 (List.take 0 (Z 76) ++ (A ++ List.drop (0 + 19) (Z 76))) ++ (B ++ List.drop (19 + 19) (List.take 0 (Z 76) ++ (A ++ List.drop (0 + 19) (Z 76))))) ++ (C ++ List.drop (38 + 19) (List.take 19 (List.take 0 (Z 76) ++ (A ++ List.drop (0 + 19) (Z 76))) ++ (B ++ List.drop (19 + 19) (List.take 0 (Z 76) ++ (A ++ List.drop (0 + 19) (Z 76))))))) ++
      (D ++ List.drop (57 + 19) (List.take 38 (List.take 19 (List.take 0 (Z 76) ++ (A ++ List.drop (0 + 19) (Z 76))) ++ (B ++ List.drop (19 + 19) (List.take 0 (Z 76) ++ (A ++ List.drop (0 + 19) (Z 76))))) ++ (C ++ List.drop (38 + 19) (List.take 19 (List.take 0 (Z 76) ++ (A ++ List.drop (0 + 19) (Z 76))) ++ (B ++ List.drop (19 + 19) (List.take 0 (Z 76) ++ (A ++ List.drop (0 + 19) (Z 76)))))))) = A ++ (B ++ (C ++ D)) := by
    simp [List.take_append, List.drop_append, hA, hB, hC, hD, List.take_of_length_le, List.drop_eq_nil_of_le]
  rw [e]; exact hc
theorem part4 {A B C D : List Int} {k : Nat} (hk : k < 4) (hA : A.length = 19) (hB : B.length = 19) (hC : C.length = 19) (hD : D.length = 19) :
    ((A ++ (B ++ (C ++ D))).drop (k * 19)).take 19 = [A, B, C, D].getD k [] := by
  match k, hk with
  | 0, _ => simp [List.take_append, hA, List.take_of_length_le]
  | 1, _ => simp [List.take_append, List.drop_append, hA, hB, List.drop_eq_nil_of_le, List.take_of_length_le]
  | 2, _ => simp [List.take_append, List.drop_append, hA, hB, hC, List.drop_eq_nil_of_le, List.take_of_length_le]
  | 3, _ => simp [List.take_append, List.drop_append, hA, hB, hC, hD, List.drop_eq_nil_of_le, List.take_of_length_le]


theorem law {f x : List Int} {w : World} {k : Bool → World → Prop} (hf : f.length = 19) (hx : x.length = 7) (hk : ∀ w', Ext w w' → k true w') : pelotonlaw05_FrameSteps (agI f) (agI x) w k := by
  unfold pelotonlaw05_FrameSteps
  refine newC_i fun g1 w1 hg1 hs1 hb1 he1 => newC_i fun g2 w2 hg2 hs2 hb2 he2 => ?_
  have he12 := he1.trans he2
  have hb12 : BI w2 g1 f := hb1.ext he2
  have hb22 : BI w2 g2 x := hb2
  simp only [add_mk, Nat.zero_add]
  refine ldA_I hb12 hf (usual_s hf fun w3 he3 => ?_)
  have he03 := he12.trans he3
  refine iteB_i (fun h => awake5_s fun w' he => hk _ (he03.trans he)) fun h => ?_
  have hb13 : BI w3 g1 f := hb12.ext he3
  have hb23 : BI w3 g2 x := hb22.ext he3
  have hi : ((x.drop 0).take 5).length = 5 := by rw [List.length_take, List.length_drop, hx]; rfl
  refine ldA_I hb13 hf (ldA_P hb23 (by omega) (plain_F hf hi fun w4 he4 => ?_))
  generalize hi' : (x.drop 0).take 5 = i at *
  have hget : ∀ j, j < 5 → x.getD j 0 = i.getD j 0 := by
    intro j hj
    rw [← hi', List.getD_eq_getElem?_getD, List.getD_eq_getElem?_getD, List.drop_zero, List.getElem?_take_of_lt hj]
  have hlA := fPlain_len (i := i) hf
  refine newC_i fun ga w5 hga hs5 hb5 he5 => ?_
  simp only [add_mk, Nat.zero_add]
  refine stA_I hb5 rfl hlA fun w6 hb6 hs6 ho6 => ?_
  have he36 : Ext w3 w6 := (he4.trans he5).then ho6 fun g hg => by have := he4.size; omega
  have hb16 : BI w6 g1 f := hb13.ext he36
  have hb26 : BI w6 g2 x := hb23.ext he36
  refine ldA_I hb16 hf (ldA_P hb26 (by omega) (ldP_I hb26 (by omega) (ldP_I hb26 (by omega) ?_)))
  rw [hi']
  generalize hkd : x.getD 5 0 = kind at *
  generalize hvd : x.getD 6 0 = v at *
  refine joined_s hf hi fun w7 he7 => ?_
  have hlB : (fJoined f i kind v).1.length = 19 := by rw [fJoined_len, hf]
  refine newC_i fun gb w8 hgb hs8 hb8 he8 => ?_
  simp only [add_mk, Nat.zero_add]
  refine stA_I hb8 rfl hlB fun w9 hb9 hs9 ho9 => ?_
  have he69 : Ext w6 w9 := (he7.trans he8).then ho9 fun g hg => by have := he7.size; omega
  have hb19 : BI w9 g1 f := hb16.ext he69
  have hb29 : BI w9 g2 x := hb26.ext he69
  have hba9 : BI w9 ga (fPlain f i).1 := hb6.ext he69
  have he09 := (he03.trans he36).trans he69
  have hlC : (fClosed f i (decide (v > 0))).length = 19 := by rw [fClosed_len, hf]
  have hlD : (fForked f i kind).length = 19 := by rw [fForked_len, hf]
  refine joinP_i (fun y w' => Ext w9 w' ∧ ∃ g, y = ⟨g, 0, none⟩ ∧ BI w' g ((fPlain f i).1 ++ ((fJoined f i kind v).1 ++ (fClosed f i (decide (v > 0)) ++ fForked f i kind)))) ?_ ?_
  · intro J hJ
    refine drew_i fun w10 hh10 he10 => ?_
    have hb110 : BI w10 g1 f := hb19.ext he10
    have hb210 : BI w10 g2 x := hb29.ext he10
    have hba10 := hba9.ext he10
    have hbb10 : BI w10 gb (fJoined f i kind v).1 := hb9.ext he10
    refine ldA_I hba10 hlA (ldA_I hbb10 hlB (ldA_I hb110 hf (ldA_P hb210 (by omega) (ldP_I hb210 (by omega) (ldA_I hb110 hf (ldA_P hb210 (by omega) (ldP_I hb210 (by omega) ?_)))))))
    rw [hi', hkd, hvd]
    have hD : St w10 w10 [] := .nil _
    have st1 : ∀ {w' : World} {L : List HP} {n o : Nat} {c : Prop}, St w10 w' L → c → samec n ⟨g1, o, none⟩ w10 w' c := fun he hc => samec_B hb110 (hb110.ext he.ext) hc
    have st2 : ∀ {w' : World} {L : List HP} {n o : Nat} {c : Prop}, St w10 w' L → c → samec n ⟨g2, o, none⟩ w10 w' c := fun he hc => samec_B hb210 (hb210.ext he.ext) hc
    have sta : ∀ {w' : World} {L : List HP} {n o : Nat} {c : Prop}, St w10 w' L → c → samec n ⟨ga, o, none⟩ w10 w' c := fun he hc => samec_B hba10 (hba10.ext he.ext) hc
    have stb : ∀ {w' : World} {L : List HP} {n o : Nat} {c : Prop}, St w10 w' L → c → samec n ⟨gb, o, none⟩ w10 w' c := fun he hc => samec_B hbb10 (hbb10.ext he.ext) hc
    have fin : ∀ {w' : World} {g : Nat} {L : List HP} {a : Array Value} {c : World → Prop}, St w10 w' (blk g a.toList :: L) → a.size = 76 → (∀ w'', Ext w9 w'' → BI w'' g ((fPlain f i).1 ++ ((fJoined f i kind v).1 ++ (fClosed f i (decide (v > 0)) ++ fForked f i kind))) → c w'') →
        stA 76 w' ⟨g, 0, none⟩ (agI ((fPlain f i).1 ++ ((fJoined f i kind v).1 ++ (fClosed f i (decide (v > 0)) ++ fForked f i kind)))) c := by
      intro w' g L a c hS ha hc
      refine stA_I hS.blk (by simpa using ha) (by simp [hlA, hlB, hlC, hlD]) fun w'' hb hs ho => hc _ ?_ hb
      have hge := hS.ge (g := g) (cs := a.toList)
      exact (he10.trans hS.ext).then ho fun k hk => by have := he10.size; omega
    refine ⟨?_, ?_⟩
    · refine closed_s hf hi fun w11 he11 => ?_
      replace hD := hD.on he11
      refine st2 hD (st2 hD (st1 hD (stb hD (sta hD ⟨?_, ?_⟩))))
      · refine forked_s hf hi fun w12 he12 => ?_
        replace hD := hD.on he12
        refine stb hD (sta hD ⟨?_, ?_⟩)
        · refine spl4 rfl hlA hlB hlC hlD (newC_h hD fun g w' hD => ?_)
          exact st2 hD (st2 hD (st1 hD (st2 hD (st2 hD (st1 hD (stb hD (sta hD (fin hD rfl fun w'' he hb => hJ _ _ ⟨he, g, rfl, hb⟩))))))))
        · refine newC_h hD fun g w' hD => ?_
          exact st2 hD (st2 hD (st1 hD (st2 hD (st2 hD (st1 hD (stb hD (sta hD (spl4 rfl hlA hlB hlC hlD (fin hD rfl fun w'' he hb => hJ _ _ ⟨he, g, rfl, hb⟩)))))))))
      · refine newC_h hD fun g w' hD => ?_
        refine st2 hD (st2 hD (st1 hD (st2 hD (st2 hD (st1 hD (stb hD (sta hD (forked_s hf hi fun w12 he12 => ?_))))))))
        replace hD := hD.on he12
        exact stb hD (sta hD (spl4 rfl hlA hlB hlC hlD (fin hD rfl fun w'' he hb => hJ _ _ ⟨he, g, rfl, hb⟩)))
    · refine newC_h hD fun g w' hD => ?_
      refine st2 hD (st2 hD (st1 hD (st2 hD (st2 hD (st1 hD (stb hD (sta hD (closed_s hf hi fun w12 he12 => ?_))))))))
      replace hD := hD.on he12
      refine st2 hD (st2 hD (st1 hD (stb hD (sta hD (forked_s hf hi fun w13 he13 => ?_)))))
      replace hD := hD.on he13
      exact stb hD (sta hD (spl4 rfl hlA hlB hlC hlD (fin hD rfl fun w'' he hb => hJ _ _ ⟨he, g, rfl, hb⟩)))
  rintro _ w10 ⟨he10, gl, rfl, hbl⟩
  have hb110 : BI w10 g1 f := hb19.ext he10
  have hb210 : BI w10 g2 x := hb29.ext he10
  have he010 := he09.trans he10
  generalize hop : i.getD 0 0 = op at *
  have hcases : ∀ k, k < 4 → [(fPlain f i).1, (fJoined f i kind v).1, fClosed f i (decide (v > 0)), fForked f i kind].getD k [] = f ∨ OkStep f ([(fPlain f i).1, (fJoined f i kind v).1, fClosed f i (decide (v > 0)), fForked f i kind].getD k []) op k := by
    intro k hk
    subst hop
    match k, hk with
    | 0, _ => exact ok_plain hf
    | 1, _ => exact ok_joined hf
    | 2, _ => exact ok_closed hf
    | 3, _ => exact ok_forked hf
  have hlens : ∀ k, k < 4 → ([(fPlain f i).1, (fJoined f i kind v).1, fClosed f i (decide (v > 0)), fForked f i kind].getD k []).length = 19 := by
    intro k hk
    match k, hk with
    | 0, _ => exact hlA
    | 1, _ => exact hlB
    | 2, _ => exact hlC
    | 3, _ => exact hlD
  generalize hls : [(fPlain f i).1, (fJoined f i kind v).1, fClosed f i (decide (v > 0)), fForked f i kind] = ls at *
  have hpart : ∀ k, k < 4 → ((((fPlain f i).1 ++ ((fJoined f i kind v).1 ++ (fClosed f i (decide (v > 0)) ++ fForked f i kind))).drop (k * 19)).take 19) = ls.getD k [] := fun k hk => by rw [part4 hk hlA hlB hlC hlD, hls]
  have hlen76 : ((fPlain f i).1 ++ ((fJoined f i kind v).1 ++ (fClosed f i (decide (v > 0)) ++ fForked f i kind))).length = 76 := by simp [hlA, hlB, hlC, hlD]
  generalize hal : (fPlain f i).1 ++ ((fJoined f i kind v).1 ++ (fClosed f i (decide (v > 0)) ++ fForked f i kind)) = all at *
  refine loopP_of (fun (y : Int × Int) w' => ∃ j d : Nat, y = ((d : Int), (j : Int)) ∧ j ≤ 4 ∧ d ≤ 1 ∧ (d = 1 → ∃ k, k < j ∧ cls k op) ∧ Ext w10 w') (fun y _ => (4 - y.2).toNat) ⟨0, 0, rfl, by omega, by omega, by omega, .refl _ _⟩ ?_
  rintro _ w11 ⟨j, d, rfl, hj, hd, hdk, he11⟩ C hC
  have he011 := he010.trans he11
  refine iteB_i (fun hlt => ?_) fun hge => iteB_t (by simp; omega) (awake5_s fun w' he => hk _ (he011.trans he))
  have hlt : j < 4 := by have : (j : Int) < 4 := by simpa using hlt
                         omega
  have hw : IntKind.i64.wrap ((j : Int) + 1) = ((j + 1 : Nat) : Int) := by rw [wrap_id ⟨by omega, by omega⟩]; simp
  have hbl11 : BI w11 gl all := hbl.ext he11
  refine ixP_i (by omega) (by omega) ?_
  simp only [Int.toNat_natCast, Nat.zero_add]
  refine ldA_P hbl11 (by omega) ?_
  rw [hpart j hlt]
  have hl := hlens j hlt
  have hcs := hcases j hlt
  generalize ls.getD j [] = g at *
  refine newC_i fun gg w12 hgg hs12 hb12g he12 => ?_
  simp only [add_mk, Nat.zero_add]
  refine stA_I hb12g rfl hl fun w13 hb13g hs13 ho13 => ?_
  have he1113 : Ext w11 w13 := he12.then ho13 fun k hk => by omega
  have he1013 := he11.trans he1113
  have hb1' : BI w13 g1 f := hb110.ext he1013
  have hb2' : BI w13 g2 x := hb210.ext he1013
  have hoffs : ([(0, 0)] ++ ([(1, 0)] ++ ([(2, 0), (3, 0), (4, 0), (5, 0), (6, 0), (7, 0), (8, 0), (9, 0)] ++ ([(10, 0), (11, 0), (12, 0), (13, 0), (14, 0), (15, 0), (16, 0), (17, 0)] ++ ([(18, 0)] ++ [])))) : List (Nat × Nat)) = (List.range 19).map fun o => (o, 0) := by decide
  refine ldA_I hb13g hl (ldA_I hb1' hf ?_)
  rw [hoffs]
  refine eqA_I hl hf (iteB_i (fun he => hC _ _ ⟨j + 1, d, ?_, by omega, hd, fun h1 => ?_, he1013⟩ (by dsimp only; rw [hw]; omega)) fun hne => ?_)
  · rw [hw]
  · obtain ⟨k, hk1, hk2⟩ := hdk h1; exact ⟨k, by omega, hk2⟩
  have hne : g ≠ f := by simpa using hne
  have ok : OkStep f g op j := hcs.resolve_left hne
  have hd0 : d = 0 := by
    rcases Nat.lt_or_ge d 1 with h | h
    · omega
    · obtain ⟨k, hk1, hk2⟩ := hdk (by omega)
      have := cls_one hk2 ok.is; omega
  subst hd0
  refine ldA_I hb1' hf (ldA_I hb13g hl (turned_s hf hl fun wt he14 => ?_))
  have he1014 := he1013.trans he14
  have hb1'' : BI wt g1 f := hb110.ext he1014
  have hb2'' : BI wt g2 x := hb210.ext he1014
  have hbg'' : BI wt gg g := hb13g.ext he14
  refine ldP_I hb2'' (by omega) ?_
  rw [hget 0 (by omega), hop]
  refine joinP_i (fun y w' => y = (if op = 10 then 2 else 1) ∧ wt = w') ?_ ?_
  · intro J hJ
    refine iteB_i (fun h => hJ _ _ ⟨?_, rfl⟩) fun h => hJ _ _ ⟨?_, rfl⟩
    · rw [if_pos (by simpa using h)]
    · rw [if_neg (by simpa using h)]
  rintro _ _ ⟨rfl, rfl⟩
  have k1 := ok.r; have k2 := ok.h; have k3 := ok.rh; have k4 := ok.hk
  refine joinP_i (fun y w' => y = false ∧ wt = w') ?_ ?_
  · intro J hJ
    refine ldP_I hbg'' (by omega) (ldP_I hb1'' (by omega) (iteB_f ?_ (ldP_I hbg'' (by omega) (ldP_I hb1'' (by omega) (hJ _ _ ⟨?_, rfl⟩)))))
    · rw [ok.func]; simp
    · rw [ok.steps]
      have a1 : (decide (((cntN 2 8 f g : Nat) : Int) > if op = 10 then 2 else 1)) = false := by
        rw [decide_eq_false_iff_not]; split at k1 <;> simp_all <;> omega
      have a2 : (decide (((cntN 10 8 f g : Nat) : Int) > 1)) = false := by
        rw [decide_eq_false_iff_not]; omega
      have a3 : (decide (((cntN 2 8 f g : Nat) : Int) > 0) && decide (((cntN 10 8 f g : Nat) : Int) > 0)) = false := by
        rw [Bool.and_eq_false_iff, decide_eq_false_iff_not, decide_eq_false_iff_not]; omega
      have a4 : (decide (((cntN 10 8 f g : Nat) : Int) > 0) == (((cntN 10 8 f g : Nat) : Int) == 1 && ((j : Int) == 3))) = true := by
        rcases k4 with h | h
        · rw [h]; simp
        · rw [h]
          rcases (show cntN 10 8 f g = 0 ∨ cntN 10 8 f g = 1 by omega) with h | h <;> rw [h] <;> simp
      rw [a1, a2, a3, a4]; simp
  rintro _ _ ⟨rfl, rfl⟩
  refine iteB_f rfl (hC _ _ ⟨j + 1, 1, ?_, by omega, by omega, fun _ => ⟨j, by omega, ok.is⟩, he1014⟩ (by dsimp only; rw [hw]; omega))
  rw [hw]; rfl

/-! ### the lift -/
theorem own : ownKnob Try.prog.godebug = none := by kernel_rfl
theorem walk (W : World) (args : Array Value) (hA : Args Try.prog W Try.f14.params.toList args.toList) :
    Calls Try.prog 14 args W fun e W' => e = .returned (.bool true) ∧ Below W.heap.size W W' := by
  rw [Try.params14] at hA
  obtain ⟨v0, _, e0, h0, hA⟩ := hA.cons
  obtain ⟨v1, _, rfl, h1, hA⟩ := hA.cons
  obtain rfl := hA.nil
  obtain rfl : args = #[v0, v1] := by cases args; simp_all
  obtain ⟨f, rfl, hf, hfI⟩ := h0.flat (n := 4) (k := 19) (.inr ⟨_, Try.underlying48⟩) (by kernel_rfl) (by kernel_rfl)
  obtain ⟨x, rfl, hx, hxI⟩ := h1.flat (n := 4) (k := 7) (.inr ⟨_, Try.underlying78⟩) (by kernel_rfl) (by kernel_rfl)
  refine (s14.2 _ W (fun v w' => v = .bool true ∧ Below W.heap.size W w') ?_).mono ?_
  · have h := law (k := fun r w' => packV (valL [.b] r) = .bool true ∧ Below W.heap.size W w') hf hx fun w' he => ⟨rfl, he.below⟩
    exact h
  · rintro e w' ⟨v, rfl, rfl, hb⟩
    exact ⟨rfl, hb⟩

theorem lifted (os : Os) (started : os.Started) (H : Type) (enc : TypeId × Value → H) :
    ReturnsInHanded {} Try.checked os 14 .any (Rows.frameStepsSpec.pre6 enc Try.prog Try.f14 Rows.frameStepsRow.domain false) (Rows.frameStepsSpec.post enc Try.prog Try.f14 false true false false) :=
  law_lifted (C := Try.checked) own started (by kernel_rfl) Try.func14
    (ChangeSpec.witness6 (enc := enc) (C := Try.checked) false ⟨#[], #[.agg #[.int .i64 0, .int .i64 0, .int .i64 0, .int .i64 0, .int .i64 0, .int .i64 0, .int .i64 0, .int .i64 0, .int .i64 0, .int .i64 0, .int .i64 0, .int .i64 0, .int .i64 0, .int .i64 0, .int .i64 0, .int .i64 0, .int .i64 0, .int .i64 0, .int .i64 0], .agg #[.int .i64 0, .int .i64 0, .int .i64 0, .int .i64 0, .int .i64 0, .int .i64 0, .int .i64 0]], []⟩ 8 (by kernel_rfl) (by kernel_rfl) (by kernel_rfl) (by kernel_rfl))
    rfl (by kernel_rfl) (by kernel_rfl) (tb := 4) (by kernel_rfl) (by kernel_rfl)
    (fun ds h => by
      match ds, h with
      | [_, _], _ => rfl)
    walk

theorem over : Rows.frameStepsRow.holds Try.pinned (OpenSpec.ofChange Rows.frameStepsSpec) :=
  OpenClaim.holds_of_wide 14 Try.f14 rfl rfl rfl rfl rfl rfl rfl ⟨rfl, rfl, rfl, rfl, rfl⟩ rfl rfl rfl rfl rfl (by kernel_rfl) Try.func14 (by kernel_rfl)
    (of_decide_eq_true (by kernel_rfl)) (by unfold Func.isWrapper; first | (rw [if_pos (by decide +kernel)]; kernel_rfl) | (rw [if_neg (by decide +kernel)]; exact ⟨rfl, rfl⟩))
    (fun os started H enc _ => lifted os started H enc)

theorem proved : Rows.FrameStepsSaid := over
#print axioms proved
end Go.Proofs.Ytkcakjckpbldoaa.FrameSteps
