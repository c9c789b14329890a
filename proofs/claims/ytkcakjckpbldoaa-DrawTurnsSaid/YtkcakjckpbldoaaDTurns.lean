/-
  For every v, every two and every bits, DrawTurns of package pelotonlaw17 returns true, panics never, and leaves what it was given as it was. Conditions: none.
-/
import Derived.Test.YtkcakjckpbldoaaDd
import Derived.Test.YtkcakjckpbldoaaEvT
import Derived.Test.YtkcakjckpbldoaaRows
set_option linter.unusedSimpArgs false
set_option linter.unusedVariables false
set_option maxRecDepth 100000
namespace Go.Proofs.Ytkcakjckpbldoaa.DrawTurns
open Go Go.Ev Go.Proofs Go.Proofs.Ytkcakjckpbldoaa Go.RowKit Go.ChangeShapes Go.WideShapes

theorem turns {v a b c d : Int} {w : World} {k : Bool → World → Prop} (hc : InI c) (hd : InI d) (hk : ∀ w', Ext w w' → k true w') : pelotonlaw17_DrawTurns v #[.int .i64 a, .int .i64 b] #[.int .i64 c, .int .i64 d] w k := by
  unfold pelotonlaw17_DrawTurns
  refine newC_i fun g1 w1 hg1 hs1 hb1 he1 => ?_
  refine newC_i fun g2 w2 hg2 hs2 hb2 he2 => ?_
  have hb1' := hb1.ext he2
  have he12 := he1.trans he2
  simp only [add_mk, Nat.zero_add]
  refine ldI_i (hb1'.cell 0) (ldI_i (hb1'.cell 1) (ldI_i (hb2.cell 0) (ldI_i (hb2.cell 1) ?_)))
  by_cases hbad : b < 1 ∨ b > 16 ∨ a < 0 ∨ a ≥ b
  · refine draw_Order_bad hbad ?_
    refine joinP_i (fun x w' => x = true ∧ w' = w2) ?_ ?_
    · intro J hJ
      refine ldI_i (hb1'.cell 1) (iteB_i (fun h => hJ _ _ ⟨rfl, rfl⟩) fun h1 => ?_)
      refine ldI_i (hb1'.cell 1) (iteB_i (fun h => hJ _ _ ⟨rfl, rfl⟩) fun h2 => ?_)
      refine ldI_i (hb1'.cell 0) (iteB_i (fun h => hJ _ _ ⟨rfl, rfl⟩) fun h3 => ?_)
      refine ldI_i (hb1'.cell 0) (ldI_i (hb1'.cell 1) (hJ _ _ ⟨?_, rfl⟩))
      simp at h1 h2 h3 ⊢
      omega
    · rintro _ _ ⟨rfl, rfl⟩
      refine iteB_t rfl (iteB_t rfl ?_)
      exact awake_s fun w' he => hk _ (he12.trans he)
  refine draw_Order_s (by omega) (by omega) (by omega) (by omega) fun s w3 he3 ho => ?_
  have hsz := he12.size
  have he123 := he12.trans he3
  have hM : (mayL a c d b.toNat).Pairwise (· < ·) := mayL_sorted _ _ _ _
  have hMl := mayL_len a c d b.toNat
  have hmem : ∀ x : Int, x ∈ mayL a c d b.toNat ↔ 0 ≤ x ∧ x < b ∧ mayB a c d x.toNat = true := fun x => by rw [mem_mayL]; simp only [Int.toNat_of_nonneg (show 0 ≤ b by omega)]
  generalize hMe : mayL a c d b.toNat = M at *
  have hlen : s.n = M.length := by have := ho.len; simp only [ints, List.length_map, rot_len] at this; omega
  have hb1'' := hb1'.ext he3
  have hb2'' := hb2.ext he3
  have hfl : 0 < M.length → brk v M < M.length := fun h => brk_lt h
  have hlow : ∀ g, s.blk = some g → g < w3.heap.size := fun g hg => (ho.below hg).2
  refine joinP_i (fun x w' => x = false ∧ w3 = w') ?_ ?_
  · intro J hJ
    refine ldI_i (hb1''.cell 1) (iteB_f (by simp; omega) ?_)
    refine ldI_i (hb1''.cell 1) (iteB_f (by simp; omega) ?_)
    refine ldI_i (hb1''.cell 0) (iteB_f (by simp; omega) ?_)
    exact ldI_i (hb1''.cell 0) (ldI_i (hb1''.cell 1) (hJ _ _ ⟨by simp; omega, rfl⟩))
  rintro _ _ ⟨rfl, rfl⟩
  refine iteB_f rfl (iteB_f rfl ?_)
  refine newC_i fun g5 w5 hg5 hs5 hb5 he5 => ?_
  refine stA_i hb5 rfl (by simp) (by decide) fun w6 cs6 hb6 hz6 _ hv6 ho6 hs6 => ?_
  have he6 : Ext w3 w6 := he5.then ho6 fun g hg => by omega
  simp only [add_mk, Nat.zero_add]
  refine joinP_i (fun (x : Int) w' => Ext w3 w' ∧ x = (if 0 < brk v M ∧ 0 < M.length then 1 else 0) ∧ ∃ cs, Blk w' g5 cs ∧ ∀ y : Nat, y < 16 → cs[y]? = some (.bool (decide ((y : Int) ∈ M)))) ?_ ?_
  · intro J hJ
    refine loopP_of (fun (x : Int × Int) w' => ∃ i : Nat, x.2 = i ∧ i ≤ M.length ∧ Ext w3 w' ∧ x.1 = (if 0 < brk v M ∧ M.length - brk v M < i then 1 else 0) ∧ ∃ cs, Blk w' g5 cs ∧ cs.size = 16 ∧ ∀ y : Nat, y < 16 → cs[y]? = some (.bool (decide ((y : Int) ∈ (rot v M).take i)))) (fun x _ => (M.length - x.2).toNat)
      ⟨0, rfl, by omega, he6, by simp, cs6, hb6, hz6, fun y hy => ?_⟩ ?_
    · have := hv6 y hy
      rw [Nat.zero_add] at this
      rw [this]
      have hy' : y = 0 ∨ y = 1 ∨ y = 2 ∨ y = 3 ∨ y = 4 ∨ y = 5 ∨ y = 6 ∨ y = 7 ∨ y = 8 ∨ y = 9 ∨ y = 10 ∨ y = 11 ∨ y = 12 ∨ y = 13 ∨ y = 14 ∨ y = 15 := by omega
      rcases hy' with h | h | h | h | h | h | h | h | h | h | h | h | h | h | h | h <;> subst h <;> rfl
    rintro ⟨falls, i⟩ w7 ⟨i, hi, hil, he7, hf, cs, hb7, hz7, hv7⟩ C hC
    simp only at hi hf; subst hi
    refine iteB_i (fun hlt => ?_) (fun hge => ?_)
    · have hlt : i < M.length := by have : (i : Int) < s.n := by simpa using hlt
                                    omega
      have hgx : i < (rot v M).length := by rw [rot_len]; exact hlt
      generalize hx : (rot v M)[i] = x
      have hxs : (rot v M)[i]? = some x := by rw [List.getElem?_eq_getElem hgx, hx]
      have hxM : x ∈ M := mem_rot.1 (List.mem_of_getElem? hxs)
      obtain ⟨hx0, hx1, hx2⟩ := (hmem x).1 hxM
      have hxa : x ≠ a := by
        intro e; subst e
        simp only [mayB, Int.toNat_of_nonneg hx0] at hx2
        simp at hx2
      have hnot : x ∉ (rot v M).take i := by
        intro hin
        obtain ⟨j, hj, he⟩ := List.getElem_of_mem hin
        simp at hj
        rw [List.getElem_take] at he
        exact List.pairwise_iff_getElem.1 (rot_nodup (v := v) hM) j i (by omega) hgx (by omega) (he.trans hx.symm)
      have look : ∀ {w' : World} {c : Int → Prop}, Ext w3 w' → c x → ixS s (i : Int) 1 fun a => ldI .i64 w' a c := fun {w' c} h hc =>
        ixI (ho.ext h).sls (by omega) (by omega) (.refl _ _) fun y hy => by
          rw [Int.toNat_natCast, hxs] at hy; cases hy; exact hc
      have hcx : cs[x.toNat]? = some (.bool false) := by
        rw [hv7 x.toNat (by omega)]
        congr 2
        rw [Int.toNat_of_nonneg hx0]
        simpa using hnot
      refine joinP_i (fun y w' => y = false ∧ w'.heap = w7.heap ∧ Ext w7 w') ?_ ?_
      · intro J2 hJ2
        refine drew_i fun w8 hh8 he8 => ?_
        have he38 := he7.trans he8
        refine look he38 (iteB_f (by simp; omega) ?_)
        refine look he38 (ldI_i ((hb1''.ext he38).cell 1) (iteB_f (by simp; omega) ?_))
        refine look he38 (ldI_i ((hb1''.ext he38).cell 0) (iteB_f (by simpa using hxa) ?_))
        refine look he38 (ixP_i hx0 (by omega) ?_)
        refine ldB_i (n := false) ?_ (hJ2 _ _ ⟨rfl, hh8, he8⟩)
        rw [(hb7.ext he8).cell]; simpa using hcx
      · rintro _ w8 ⟨rfl, hh8, he8⟩
        have he38 := he7.trans he8
        refine iteB_f rfl (look he38 (ixP_i hx0 (by omega) ?_))
        refine stC_i rfl (hb7.ext he8) (by omega) fun w9 hb9 hs9 ho9 => ?_
        have he39 : Ext w3 w9 := he38.then ho9 fun g hg => by omega
        refine joinP_i (fun y w' => y = decide (0 < brk v M ∧ i = M.length - brk v M) ∧ Ext w9 w') ?_ ?_
        · intro J3 hJ3
          refine drew_i fun w10 hh10 he10 => ?_
          have he310 := he39.trans he10
          refine iteB_i (fun h => ?_) (fun h => ?_)
          · have h : 0 < i := by simpa using h
            refine look he310 ?_
            have hw : IntKind.i64.wrap ((i : Int) - 1) = ((i - 1 : Nat) : Int) := by rw [wrap_id ⟨by omega, by omega⟩]; omega
            simp only [hw]
            refine ixI (ho.ext he310).sls (by omega) (by omega) (.refl _ _) fun y hy => ?_
            rw [Int.toNat_natCast] at hy
            refine hJ3 _ _ ⟨?_, he10⟩
            rw [decide_eq_decide]
            exact rot_falls hM h hxs hy
          · have h : i = 0 := by simpa using h
            refine hJ3 _ _ ⟨?_, he10⟩
            rw [eq_comm, decide_eq_false_iff_not]
            have := hfl (by omega)
            omega
        · rintro _ w10 ⟨rfl, he10⟩
          have hw := succ_wrap (i := i) (by omega)
          have arr : ∃ cs', Blk w10 g5 cs' ∧ cs'.size = 16 ∧ ∀ y : Nat, y < 16 → cs'[y]? = some (.bool (decide ((y : Int) ∈ (rot v M).take (i + 1)))) := by
            refine ⟨_, hb9.ext he10, by simpa using hz7, fun y hy => ?_⟩
            have e : (rot v M).take (i + 1) = (rot v M).take i ++ [x] := by rw [List.take_add_one, hxs]; rfl
            rw [e]
            simp only [List.mem_append, List.mem_singleton, Nat.zero_add, Nat.mul_one]
            by_cases hyx : y = x.toNat
            · subst hyx
              rw [Array.getElem?_setIfInBounds_self, if_pos (by omega)]
              simp [Int.toNat_of_nonneg hx0]
            · rw [Array.getElem?_setIfInBounds_ne (by omega), hv7 y hy]
              have : ¬ ((y : Int) = x) := by omega
              simp [this]
          refine iteB_i (fun h => ?_) (fun h => ?_)
          · have h := of_decide_eq_true h
            refine hC _ _ ⟨i + 1, hw, by omega, he39.trans he10, ?_, arr⟩ (by simp only [hw]; omega)
            simp only [hf]
            rw [if_neg (by omega), if_pos (by omega)]
            decide
          · have h := of_decide_eq_false h
            refine hC _ _ ⟨i + 1, hw, by omega, he39.trans he10, ?_, arr⟩ (by simp only [hw]; omega)
            simp only [hf]
            congr 1
            exact propext ⟨fun h => by omega, fun h => by omega⟩
    · have hge : ¬ i < M.length := by have : ¬ (i : Int) < s.n := by simpa using hge
                                      omega
      have hi : i = M.length := by omega
      subst hi
      refine hJ _ _ ⟨he7, ?_, cs, hb7, fun y hy => ?_⟩
      · simp only [hf]
        congr 1
        exact propext ⟨fun h => by omega, fun h => by omega⟩
      · rw [hv7 y hy, List.take_of_length_le (by rw [rot_len]; omega)]
        simp only [mem_rot]
  · rintro falls w7 ⟨he7, hf, cs, hb7, hv7⟩
    refine joinP_i (fun _ w' => Ext w7 w') ?_ ?_
    · intro J hJ
      refine loopP_of (fun (x : Int) w' => ∃ i : Nat, x = i ∧ i ≤ b.toNat ∧ Ext w7 w') (fun x _ => (b - x).toNat) ⟨0, rfl, by omega, .refl _ _⟩ ?_
      rintro _ w8 ⟨i, rfl, hi, he8⟩ C hC
      have he38 := he7.trans he8
      refine ldI_i ((hb1''.ext he38).cell 1) (iteB_i (fun hlt => ?_) (fun hge => hJ _ _ he8))
      have hlt : (i : Int) < b := by simpa using hlt
      refine joinP_i (fun x w' => x = false ∧ Ext w8 w') ?_ ?_
      · intro J2 hJ2
        refine drew_i fun w9 hh9 he9 => ?_
        have he39 := he38.trans he9
        refine ixP_i (by omega) (by omega) ?_
        refine ldB_i (n := decide ((i : Int) ∈ M)) (by rw [(hb7.ext (he8.trans he9)).cell]; simpa using hv7 i (by omega)) ?_
        have hdm : decide ((i : Int) ∈ M) = mayB a c d i := by
          rw [Bool.eq_iff_iff, decide_eq_true_eq, hmem]
          simp; omega
        have hdec : mayB a c d i = ((i : Int) != a && (tb c i && !tb d i)) := rfl
        refine ldI_i ((hb1''.ext he39).cell 0) (iteB_i (fun hne => ?_) (fun heq => ?_))
        · refine ldI_i ((hb2''.ext he39).cell 0) (shrI_i (by omega) ?_)
          refine iteB_i (fun h1 => ?_) (fun h1 => ?_)
          · rw [and1 hc (by omega) (by omega), Int.toNat_natCast] at h1
            refine ldI_i ((hb2''.ext he39).cell 1) (shrI_i (by omega) (hJ2 _ _ ⟨?_, he9⟩))
            rw [and1' hd (by omega) (by omega), hdm, hdec, hne, h1, Int.toNat_natCast]
            simp
          · rw [and1 hc (by omega) (by omega), Int.toNat_natCast] at h1
            refine hJ2 _ _ ⟨?_, he9⟩
            rw [hdm, hdec, h1]; simp
        · refine hJ2 _ _ ⟨?_, he9⟩
          rw [hdm, hdec, heq]; simp
      · rintro _ w9 ⟨rfl, he9⟩
        have hw := succ_wrap (i := i) (by omega)
        exact iteB_f rfl (hC _ _ ⟨i + 1, hw, by omega, he8.trans he9⟩ (by rw [hw]; omega))
    rintro _ w8 he8
    have he38 := he7.trans he8
    refine joinP_i (fun x w' => x = false ∧ Ext w8 w') ?_ ?_
    · intro J hJ
      refine drew_i fun w9 hh9 he9 => ?_
      have he39 := he38.trans he9
      refine iteB_f ?_ (iteB_i (fun h => ?_) fun h => hJ _ _ ⟨rfl, he9⟩)
      · rw [hf]; split <;> decide
      · have h1 : M.length > 1 ∧ falls = 1 := by
          simp at h; omega
        have hf0 : 0 < brk v M := by
          rw [hf] at h1
          by_cases h0 : 0 < brk v M ∧ 0 < M.length
          · exact h0.1
          · rw [if_neg h0] at h1; omega
        have hw : IntKind.i64.wrap ((s.n : Int) - 1) = ((M.length - 1 : Nat) : Int) := by rw [wrap_id ⟨by omega, by omega⟩]; omega
        simp only [hw]
        refine ixI (ho.ext he39).sls (by omega) (by omega) (.refl _ _) fun x hx => ?_
        refine ixI (ho.ext he39).sls (by omega) (by omega) (.refl _ _) fun y hy => ?_
        rw [Int.toNat_natCast] at hx
        have := rot_ends hM hf0 hx hy
        refine hJ _ _ ⟨?_, he9⟩
        simp; omega
    rintro _ w9 ⟨rfl, he9⟩
    have he39 := he38.trans he9
    refine iteB_f rfl (iteB_i (fun h0 => awake_s fun w' he => hk _ (he123.trans (he39.trans he))) fun h0 => ?_)
    have h0 : 0 < M.length := by
      have : s.n ≠ 0 := by simpa using h0
      omega
    refine remI_i (by omega) (remI_i (by omega) ?_)
    have hr := rem_first (v := v) (m := s.n) (by omega) (by omega)
    simp only [remV] at hr
    rw [hr]
    refine loopP_of (fun (x : Int × Int) w' => ∃ i : Nat, x.2 = i ∧ i ≤ M.length ∧ Ext w3 w' ∧ ((i = 0 ∧ x.1 = -1) ∨ (0 < i ∧ M[i - 1]? = some x.1))) (fun x _ => (M.length - x.2).toNat) ⟨0, rfl, by omega, he39, .inl ⟨rfl, rfl⟩⟩ ?_
    rintro ⟨last, i⟩ w10 ⟨i, hi, hil, he10, hl⟩ C hC
    simp only at hi hl; subst hi
    refine iteB_i (fun hlt => ?_) (fun hge => awake_s fun w' he => hk _ (he123.trans (he10.trans he)))
    have hlt : i < M.length := by have : (i : Int) < s.n := by simpa using hlt
                                  omega
    refine ldI_i ((hb1''.ext he10).cell 0) (ldI_i ((hb1''.ext he10).cell 1) (ldI_i ((hb2''.ext he10).cell 0) (ldI_i ((hb2''.ext he10).cell 1) ?_)))
    refine draw_Order_s (by omega) (by omega) (by omega) (by omega) fun s2 w11 he11 ho2 => ?_
    rw [hMe] at ho2
    have hlen2 : s2.n = M.length := by have := ho2.len; simp only [ints, List.length_map, rot_len] at this; omega
    have he311 := he10.trans he11
    have hfirst := rot_first hlt
    obtain ⟨y, hMi⟩ : ∃ y, M[i]? = some y := ⟨_, List.getElem?_eq_getElem hlt⟩
    rw [hMi] at hfirst
    have hpos := ((hmem y).1 (List.mem_of_getElem? hMi)).1
    have hlast : last < y := by
      rcases hl with ⟨_, rfl⟩ | ⟨h1, h2⟩
      · omega
      · exact sorted_get hM h2 hMi (by omega)
    refine joinP_i (fun x w' => x = false ∧ Ext w11 w') ?_ ?_
    · intro J hJ
      refine iteB_f (by simp; omega) ?_
      refine ixI (s := s2) ho2.sls (by omega) (by omega) (.refl _ _) fun x hx => ?_
      rw [Int.toNat_zero, hfirst] at hx; cases hx
      refine iteB_f (by simp; omega) (iteB_i (fun h => ?_) fun h => hJ _ _ ⟨rfl, .refl _ _⟩)
      have h : (i : Int) = v % s.n := by simpa using h
      refine same_s ho2.sls (ho.ext he311).sls (by rw [rot_len]; omega) fun w12 he12 => hJ _ _ ⟨?_, he12⟩
      rw [h, hlen, rot_mod]; simp
    · rintro _ w12 ⟨rfl, he12⟩
      have hw := succ_wrap (i := i) (by omega)
      refine iteB_f rfl ?_
      refine ixI (s := s2) (ho2.ext he12).sls (by omega) (by omega) (.refl _ _) fun x hx => ?_
      rw [Int.toNat_zero, hfirst] at hx; cases hx
      exact hC _ _ ⟨i + 1, hw, by omega, he311.trans he12, .inr ⟨by omega, hMi⟩⟩ (by simp only [hw]; omega)

theorem two {xs : List Int} (h : xs.length = 2) : ∃ a b, xs = [a, b] := by
  match xs, h with
  | [a, b], _ => exact ⟨a, b, rfl⟩
theorem own : ownKnob Try.prog.godebug = none := by kernel_rfl
theorem walk (W : World) (args : Array Value) (hA : Args Try.prog W Try.f4.params.toList args.toList) :
    Calls Try.prog 4 args W fun e W' => e = .returned (.bool true) ∧ Below W.heap.size W W' := by
  rw [Try.params4] at hA
  obtain ⟨v0, _, e0, h0, hA⟩ := hA.cons
  obtain ⟨v1, _, rfl, h1, hA⟩ := hA.cons
  obtain ⟨v2, _, rfl, h2, hA⟩ := hA.cons
  obtain rfl := hA.nil
  obtain rfl : args = #[v0, v1, v2] := by cases args; simp_all
  obtain ⟨v, rfl, hv⟩ := h0.int (by kernel_rfl)
  obtain ⟨xs, rfl, hx, hxI⟩ := h1.arrI (e := 3) (by kernel_rfl) (by kernel_rfl) (by kernel_rfl) (by kernel_rfl)
  obtain ⟨ys, rfl, hy, hyI⟩ := h2.arrI (e := 2) (by kernel_rfl) (by kernel_rfl) (by kernel_rfl) (by kernel_rfl)
  obtain ⟨a, b, rfl⟩ := two hx
  obtain ⟨c, d, rfl⟩ := two hy
  refine (s4.2 _ W (fun v w' => v = .bool true ∧ Below W.heap.size W w') ?_).mono ?_
  · have h := turns (v := v) (a := a) (b := b) (k := fun r w' => packV (valL [.b] r) = .bool true ∧ Below W.heap.size W w') (hyI c (by simp)) (hyI d (by simp)) fun w' he => ⟨rfl, he.below⟩
    exact h
  · rintro e w' ⟨v, rfl, rfl, hb⟩
    exact ⟨rfl, hb⟩

theorem lifted (os : Os) (started : os.Started) (H : Type) (enc : TypeId × Value → H) :
    ReturnsInHanded {} Try.checked os 4 .any (Rows.drawTurnsSpec.pre6 enc Try.prog Try.f4 Rows.drawTurnsRow.domain false) (Rows.drawTurnsSpec.post enc Try.prog Try.f4 false true false false) :=
  law_lifted (C := Try.checked) own started (by kernel_rfl) Try.func4
    (ChangeSpec.witness6 (enc := enc) (C := Try.checked) false ⟨#[], #[.int .i64 0, .agg #[.int .i64 0, .int .i64 0], .agg #[.int .i64 0, .int .i64 0]], []⟩ 8 (by kernel_rfl) (by kernel_rfl) (by kernel_rfl) (by kernel_rfl))
    rfl (by kernel_rfl) (by kernel_rfl) (tb := 4) (by kernel_rfl) (by kernel_rfl)
    (fun ds h => by
      match ds, h with
      | [_, _, _], _ => rfl)
    walk

theorem over : Rows.drawTurnsRow.holds Try.pinned (OpenSpec.ofChange Rows.drawTurnsSpec) :=
  OpenClaim.holds_of_wide 4 Try.f4 rfl rfl rfl rfl rfl rfl rfl ⟨rfl, rfl, rfl, rfl, rfl⟩ rfl rfl rfl rfl rfl (by kernel_rfl) Try.func4 (by kernel_rfl)
    (of_decide_eq_true (by kernel_rfl)) (by unfold Func.isWrapper; first | (rw [if_pos (by decide +kernel)]; kernel_rfl) | (rw [if_neg (by decide +kernel)]; exact ⟨rfl, rfl⟩))
    (fun os started H enc _ => lifted os started H enc)

theorem proved : Rows.DrawTurnsSaid := over
#print axioms proved
end Go.Proofs.Ytkcakjckpbldoaa.DrawTurns
