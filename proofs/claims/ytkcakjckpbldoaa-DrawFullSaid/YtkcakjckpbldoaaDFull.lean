/-
  For every two lists and every times, DrawFull of package pelotonlaw17 returns true, panics never, and leaves what it was given us it was. Conditions: none.
-/
import Derived.Test.YtkcakjckpbldoaaDc
import Derived.Test.YtkcakjckpbldoaaEvT
import Derived.Test.YtkcakjckpbldoaaRows
set_option linter.unusedSimpArgs false
set_option linter.unusedVariables false
set_option maxRecDepth 100000
namespace Go.Proofs.Ytkcakjckpbldoaa.DrawFull
open Go Go.Ev Go.Proofs Go.Proofs.Ytkcakjckpbldoaa Go.RowKit Go.ChangeShapes Go.WideShapes

theorem many_s {l : Sl} {xs : List Int} {t : Int} {w : World} {k : Sl → World → Prop} (hl : SlI w l xs) (hb : xs.length * 8 ≤ reachBytes) (ht : InI t)
    (hk : ∀ s w' ys, Ext w w' → Own w' w.heap.size s (ints ys) → ys.length ≤ 1100 → k s w') : pelotonlaw17_many l t w k := by
  have hln := SlI.len hl
  have hb' : xs.length * 8 ≤ 140737488351232 := hb
  unfold pelotonlaw17_many
  refine newC_i fun g1 w1 hg1 hs1 hb1 he1 => ?_
  refine loopP_of (fun (x : Sl × Int) w' => 0 ≤ x.2 ∧ (x.2 ≤ t ∨ x.2 = 0) ∧ ∃ ys, Ext w w' ∧ Own w' w.heap.size x.1 (ints ys) ∧ ys.length ≤ 1100) (fun x _ => (t - x.2).toNat)
    ⟨by simp, .inr rfl, [], he1, Own.new (l := []) (n := 0) hb1 (by omega) rfl (by omega) (by simp), by simp⟩ ?_
  rintro ⟨s, i⟩ w2 ⟨hi0, hi1, ys, he2, hown2, hy⟩ C hC
  simp only at hi0 hi1 hown2
  have hys : s.n = ys.length := by have := hown2.len; simp at this; omega
  refine iteB_i (fun h => ?_) (fun h => hk _ _ ys he2 hown2 hy)
  have hw : IntKind.i64.wrap ((s.n : Int) + l.n) = (s.n : Int) + l.n := wrap_id ⟨by omega, by omega⟩
  simp only [hw] at h
  simp at h
  obtain ⟨⟨h1, h2⟩, h3⟩ := h
  have h1 : i < t := by simpa using h1
  have ht2 := ht.2
  refine bApp_i (s := s) el35 rfl el35.1 hown2 (Sls.ext hl he2) one_ints he2.size (by simp [ints]; omega) (by simp [ints]; omega) fun s3 w3 hown3 hon3 _ => ?_
  have hw2 : IntKind.i64.wrap (i + 1) = i + 1 := wrap_id ⟨by omega, by omega⟩
  refine hC _ _ ⟨by simp only [hw2]; omega, .inl (by simp only [hw2]; omega), ys ++ xs, he2.then hon3 (hown2.out (Nat.le_refl _)), by simpa [ints] using hown3, by simp; omega⟩ (by simp only [hw2]; omega)

theorem add_none {l : Sl} {w : World} {k : Int → World → Prop} (h : k 2 w) : draw_Draws_Add none l w k := by
  unfold draw_Draws_Add; exact iteB_t rfl h
theorem next_none {w : World} {k : Int → World → Prop} (h : k 0 w) : draw_Draws_Next none w k := by
  unfold draw_Draws_Next; exact joinP_d (iteB_t rfl (iteB_t rfl h))
theorem len_none {w : World} {k : Int → World → Prop} (h : k 0 w) : draw_Draws_Len none w k := by
  unfold draw_Draws_Len; exact iteB_t rfl h

theorem full {s0 s1 : Sl} {xs ys : List Int} {t0 t1 : Int} {w : World} {k : Bool → World → Prop} (h0 : SlI w s0 xs) (h1 : SlI w s1 ys) (hb0 : xs.length * 8 ≤ reachBytes) (hb1 : ys.length * 8 ≤ reachBytes) (ht0 : InI t0) (ht1 : InI t1)
    (hk : ∀ w', Ext w w' → k true w') : pelotonlaw17_DrawFull #[.slice s0.a s0.n s0.c, .slice s1.a s1.n s1.c] #[.int .i64 t0, .int .i64 t1] w k := by
  unfold pelotonlaw17_DrawFull
  refine newC_i fun g1 w1 hg1 hs1 hbl1 he1 => ?_
  refine newC_i fun g2 w2 hg2 hs2 hbl2 he2 => ?_
  have he12 := he1.trans he2
  simp only [add_mk, Nat.zero_add]
  refine ldS_i (s := s0) ((hbl1.ext he2).cell 0) (ldI_i (hbl2.cell 0) ?_)
  refine many_s (Sls.ext h0 he12) hb0 ht0 fun a w3 us he3 ha hal => ?_
  have he123 := he12.trans he3
  refine ldS_i (s := s1) (((hbl1.ext he2).ext he3).cell 1) (ldI_i ((hbl2.ext he3).cell 1) ?_)
  refine many_s (Sls.ext h1 he123) hb1 ht1 fun b w4 bs he4 hbo hbl => ?_
  have ha4 := ha.ext he4
  have he14 := he123.trans he4
  have han : a.n = us.length := by have := ha.len; simp at this; omega
  have hbn : b.n = bs.length := by have := hbo.len; simp at this; omega
  refine New_s (B := w4.heap.size) (Nat.le_refl _) fun p w5 g s hd he5 hf5 => ?_
  have hp := hd.ptr
  refine iteB_f (by rw [hp]; rfl) ?_
  -- what is left, behind the first Add
  have part2 : ∀ (e : Int) (cur : List Int) (s6 : Sl) (w6 : World), Dr w6 w4.heap.size p cur g s6 → Ext w4 w6 → cur.length ≤ 1024 → ((e = 0 ∧ cur.length = us.length ∧ us.length ≤ 1024) ∨ (e = 20 ∧ cur.length = 0 ∧ 1024 < us.length)) →
      iteB (((e != (0 : Int)) && (e != (20 : Int))) || (!((e == (0 : Int)) == (decide (((a.n : Nat) : Int) ≤ (1024 : Int)))))) (k false w6) (
      draw_Draws_Len p w6 fun i17 w18 =>
      draw_Draws_Add p b w18 fun i19 w20 =>
      joinP (S := Bool) (fun J21 =>
        (J21 ((!((i19 == (0 : Int)) == (decide ((IntKind.wrap .i64 (i17 + ((b.n : Nat) : Int))) ≤ (1024 : Int))))) || ((i19 != (0 : Int)) && (i19 != (20 : Int)))) w20)) fun b22 w23 =>
      iteB b22 (
        (k false w23)) (
        draw_Draws_Len p w23 fun i24 w25 =>
        joinP (S := Bool) (fun J26 =>
          (J26 (((((i19 == (0 : Int)) && (i24 != (IntKind.wrap .i64 (i17 + ((b.n : Nat) : Int))))) || ((i19 != (0 : Int)) && (i24 != i17))) || ((e == (0 : Int)) && (i17 != ((a.n : Nat) : Int)))) || ((e != (0 : Int)) && (i17 != (0 : Int)))) w25)) fun b27 w28 =>
        iteB b27 (
          (k false w28)) (
          draw_Draws_Add none b w28 fun i29 w30 =>
          iteB (i29 == (2 : Int)) (
            draw_Draws_Add none (Sl.mk none 0 0) w30 fun i31 w32 =>
            iteB (i31 == (2 : Int)) (
              draw_Draws_Next none w32 fun i33 w34 =>
              iteB (i33 == (0 : Int)) (
                draw_Draws_Len none w34 fun i35 w36 =>
                iteB (i35 == (0 : Int)) (
                  draw_Draws_Add p (Sl.mk none 0 0) w36 fun i37 w38 =>
                  iteB (i37 == (0 : Int)) (
                    pelotonlaw17_awake  w38 fun b39 w40 =>
                    (k b39 w40)) (
                    (k false w38))) (
                  (k false w36))) (
                (k false w34))) (
              (k false w32))) (
            (k false w30))))) := by
    intro e cur s6 w6 hd6 he6 hcl hcase
    have e1 : (((e != (0 : Int)) && (e != (20 : Int))) || (!((e == (0 : Int)) == (decide (((a.n : Nat) : Int) ≤ (1024 : Int)))))) = false := by
      rcases hcase with ⟨rfl, _, h⟩ | ⟨rfl, _, h⟩
      · have : decide (((a.n : Nat) : Int) ≤ 1024) = true := by simp; omega
        rw [this]; rfl
      · have : decide (((a.n : Nat) : Int) ≤ 1024) = false := by simp; omega
        rw [this]; rfl
    refine iteB_f e1 (Len_s hd6 ?_)
    have part3 : ∀ (f : Int) (now : List Int) (s7 : Sl) (w7 : World), Dr w7 w4.heap.size p now g s7 → Ext w4 w7 → now.length ≤ 1024 → ((f = 0 ∧ now.length = cur.length + bs.length ∧ cur.length + bs.length ≤ 1024) ∨ (f = 20 ∧ now.length = cur.length ∧ 1024 < cur.length + bs.length)) →
      (joinP (S := Bool) (fun J21 =>
        (J21 ((!((f == (0 : Int)) == (decide ((IntKind.wrap .i64 ((cur.length : Int) + ((b.n : Nat) : Int))) ≤ (1024 : Int))))) || ((f != (0 : Int)) && (f != (20 : Int)))) w7)) fun b22 w23 =>
      iteB b22 (
        (k false w23)) (
        draw_Draws_Len p w23 fun i24 w25 =>
        joinP (S := Bool) (fun J26 =>
          (J26 (((((f == (0 : Int)) && (i24 != (IntKind.wrap .i64 ((cur.length : Int) + ((b.n : Nat) : Int))))) || ((f != (0 : Int)) && (i24 != (cur.length : Int)))) || ((e == (0 : Int)) && ((cur.length : Int) != ((a.n : Nat) : Int)))) || ((e != (0 : Int)) && ((cur.length : Int) != (0 : Int)))) w25)) fun b27 w28 =>
        iteB b27 (
          (k false w28)) (
          draw_Draws_Add none b w28 fun i29 w30 =>
          iteB (i29 == (2 : Int)) (
            draw_Draws_Add none (Sl.mk none 0 0) w30 fun i31 w32 =>
            iteB (i31 == (2 : Int)) (
              draw_Draws_Next none w32 fun i33 w34 =>
              iteB (i33 == (0 : Int)) (
                draw_Draws_Len none w34 fun i35 w36 =>
                iteB (i35 == (0 : Int)) (
                  draw_Draws_Add p (Sl.mk none 0 0) w36 fun i37 w38 =>
                  iteB (i37 == (0 : Int)) (
                    pelotonlaw17_awake  w38 fun b39 w40 =>
                    (k b39 w40)) (
                    (k false w38))) (
                  (k false w36))) (
                (k false w34))) (
              (k false w32))) (
            (k false w30))))) := by
      intro f now s7 w7 hd7 he7 hnl hf
      have hw : IntKind.i64.wrap ((cur.length : Int) + b.n) = (cur.length : Int) + b.n := wrap_id ⟨by omega, by omega⟩
      rw [hw]
      refine joinP_d (iteB_f ?_ (Len_s hd7 (joinP_d (iteB_f ?_ ?_))))
      · rcases hf with ⟨rfl, _, h⟩ | ⟨rfl, _, h⟩
        · have : decide ((cur.length : Int) + ((b.n : Nat) : Int) ≤ 1024) = true := by simp; omega
          rw [this]; rfl
        · have : decide ((cur.length : Int) + ((b.n : Nat) : Int) ≤ 1024) = false := by simp; omega
          rw [this]; rfl
      · generalize cur.length = c1 at *
        generalize now.length = c2 at *
        rcases hf with ⟨rfl, hn, h⟩ | ⟨rfl, hn, h⟩ <;> rcases hcase with ⟨rfl, hc, h'⟩ | ⟨rfl, hc, h'⟩ <;> simp <;> omega
      · refine add_none (iteB_t rfl (add_none (iteB_t rfl (next_none (iteB_t rfl (len_none (iteB_t rfl ?_)))))))
        refine Add_s (ys := []) hd7 (Sls.nil 1 _) he7.size hnl (fun h => by simp at h; omega) (fun _ w8 s8 hd8 hon8 hf8 => iteB_t rfl ?_)
        exact awake_s fun w9 he9 => hk _ ((he14.trans (he7.then hon8 fun x hx => (hd7.lo x hx).1)).trans he9)
    refine Add_s hd6 (hbo.ext he6).sls he6.size hcl (fun hfull => part3 20 cur s6 w6 hd6 he6 hcl (.inr ⟨rfl, rfl, hfull⟩)) (fun hroom w7 s7 hd7 hon7 hf7 => part3 0 (cur ++ bs) s7 w7 hd7 (he6.then hon7 fun x hx => (hd6.lo x hx).1) (by simp; omega) (.inl ⟨rfl, by simp, hroom⟩))
  refine Add_s hd (ha4.ext he5).sls he5.size (by simp) (fun hfull => part2 20 [] s w5 hd he5 (by simp) (.inr ⟨rfl, rfl, by simpa using hfull⟩)) (fun hroom w6 s6 hd6 hon6 hf6 => part2 0 _ s6 w6 hd6 (he5.then hon6 fun x hx => (hd.lo x hx).1) (by simpa using hroom) (.inl ⟨rfl, by simp, by simpa using hroom⟩))

theorem two {A : Type} {xs : List A} (h : xs.length = 2) : ∃ a b, xs = [a, b] := by
  match xs, h with
  | [a, b], _ => exact ⟨a, b, rfl⟩

/-! ### the lift -/
theorem own : ownKnob Try.prog.godebug = none := by kernel_rfl
theorem walk (W : World) (args : Array Value) (hA : Args Try.prog W Try.f6.params.toList args.toList) :
    Calls Try.prog 6 args W fun e W' => e = .returned (.bool true) ∧ Below W.heap.size W W' := by
  rw [Try.params6] at hA
  obtain ⟨v0, _, e0, h0, hA⟩ := hA.cons
  obtain ⟨v1, _, rfl, h1, hA⟩ := hA.cons
  obtain rfl := hA.nil
  obtain rfl : args = #[v0, v1] := by cases args; simp_all
  obtain ⟨cs, rfl, hr⟩ := h0.agg (.inl ⟨2, 35, by kernel_rfl⟩)
  obtain ⟨hlen, hall⟩ := hr.array (k := 2) (e := 35) (by kernel_rfl)
  obtain ⟨ts, rfl, ht, htI⟩ := h1.arrI (e := 3) (n := 2) (by kernel_rfl) (by kernel_rfl) (by kernel_rfl) (by kernel_rfl)
  have c42 : Try.prog.cellsOf 42 = 2 := by kernel_rfl
  have c35 : Try.prog.cellsOf 35 = 1 := by kernel_rfl
  rw [c42] at hlen
  rw [c35] at hall
  obtain ⟨x, y, hxy⟩ := two hlen
  obtain ⟨t0, t1, rfl⟩ := two ht
  obtain rfl : cs = #[x, y] := by cases cs; simp_all
  have hx := hall 0 (by omega)
  have hy := hall 1 (by omega)
  obtain ⟨s0, xs, e0, hs0, hb0, _⟩ := hx.ints (e := 2) Try.underlying35 (by kernel_rfl) (by kernel_rfl) (by kernel_rfl)
  obtain ⟨s1, ys, e1, hs1, hb1, _⟩ := hy.ints (e := 2) Try.underlying35 (by kernel_rfl) (by kernel_rfl) (by kernel_rfl)
  simp at e0 e1
  subst e0; subst e1
  refine (s6.2 _ W (fun v w' => v = .bool true ∧ Below W.heap.size W w') ?_).mono ?_
  · have h := full (k := fun r w' => packV (valL [.b] r) = .bool true ∧ Below W.heap.size W w') hs0 hs1 hb0 hb1 (htI t0 (by simp)) (htI t1 (by simp)) fun w' he => ⟨rfl, he.below⟩
    exact h
  · rintro e w' ⟨v, rfl, rfl, hb⟩
    exact ⟨rfl, hb⟩

theorem lifted (os : Os) (started : os.Started) (H : Type) (enc : TypeId × Value → H) :
    ReturnsInHanded {} Try.checked os 6 .any (Rows.drawFullSpec.pre6 enc Try.prog Try.f6 Rows.drawFullRow.domain false) (Rows.drawFullSpec.post enc Try.prog Try.f6 false true false false) :=
  law_lifted (C := Try.checked) own started (by kernel_rfl) Try.func6
    (ChangeSpec.witness6 (enc := enc) (C := Try.checked) false ⟨#[], #[.agg #[.slice none 0 0, .slice none 0 0], .agg #[.int .i64 0, .int .i64 0]], []⟩ 8 (by kernel_rfl) (by kernel_rfl) (by kernel_rfl) (by kernel_rfl))
    rfl (by kernel_rfl) (by kernel_rfl) (tb := 4) (by kernel_rfl) (by kernel_rfl)
    (fun ds h => by
      match ds, h with
      | [_, _], _ => rfl)
    walk

theorem over : Rows.drawFullRow.holds Try.pinned (OpenSpec.ofChange Rows.drawFullSpec) :=
  OpenClaim.holds_of_wide 6 Try.f6 rfl rfl rfl rfl rfl rfl rfl ⟨rfl, rfl, rfl, rfl, rfl⟩ rfl rfl rfl rfl rfl (by kernel_rfl) Try.func6 (by kernel_rfl)
    (of_decide_eq_true (by kernel_rfl)) (by unfold Func.isWrapper; first | (rw [if_pos (by decide +kernel)]; kernel_rfl) | (rw [if_neg (by decide +kernel)]; exact ⟨rfl, rfl⟩))
    (fun os started H enc _ => lifted os started H enc)

theorem proved : Rows.DrawFullSaid := over
#print axioms proved
end Go.Proofs.Ytkcakjckpbldoaa.DrawFull
