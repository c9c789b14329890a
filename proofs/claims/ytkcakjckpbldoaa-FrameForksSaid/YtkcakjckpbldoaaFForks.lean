/-
  For every task, every program, every instruction and number, FrameForks of package pelotonlaw05 returns true, panics never, and leaves what it was given as it was. Conditions: none.
-/
import Derived.Test.YtkcakjckpbldoaaFg
import Derived.Test.YtkcakjckpbldoaaEvS
import Derived.Test.YtkcakjckpbldoaaEvQ
import Derived.Test.YtkcakjckpbldoaaRows
set_option linter.unusedSimpArgs false
set_option linter.unusedVariables false
set_option maxRecDepth 100000
namespace Go.Proofs.Ytkcakjckpbldoaa.FrameForks
open Go Go.Ev Go.Proofs Go.Proofs.Ytkcakjckpbldoaa Go.RowKit Go.ChangeShapes Go.WideShapes

theorem few_s {s : Sl} {fs : List (Int × Sl)} {w : World} {k : Bool → World → Prop} (hp : Funcs w s fs) (hk : ∀ b w', Ext w w' → k b w') : pelotonlaw02_Few #[.slice s.a s.n s.c] w k := by
  unfold pelotonlaw02_Few
  refine newC_i fun g1 w1 hg1 hs1 hb1 he1 => ?_
  simp only [add_mk, Nat.zero_add]
  refine loopP_of (fun (y : Int) w' => ∃ j : Nat, y = j ∧ j ≤ 41 ∧ w' = w1) (fun y _ => (41 - y).toNat) ⟨0, rfl, by omega, rfl⟩ ?_
  rintro _ _ ⟨j, rfl, hj, rfl⟩ C hC
  refine ldS_i (s := s) (hb1.cell 0) (iteB_i (fun hlt => ?_) fun hge => ldS_i (s := s) (hb1.cell 0) (hk _ _ he1))
  simp only [Bool.and_eq_true, decide_eq_true_eq] at hlt
  have hl := hp.len
  obtain ⟨x, hx⟩ : ∃ x, fs[(j : Int).toNat]? = some x := ⟨_, List.getElem?_eq_getElem (by omega)⟩
  refine ldS_i (s := s) (hb1.cell 0) (ixF (hp.ext he1) (by omega) hx fun p hc0 hc1 => ldS_i hc1 (iteB_i (fun _ => hk _ _ he1) fun _ => ?_))
  have hw : IntKind.i64.wrap ((j : Int) + 1) = ((j + 1 : Nat) : Int) := by rw [wrap_id ⟨by omega, by omega⟩]; simp
  exact hC _ _ ⟨j + 1, hw, by omega, rfl⟩ (by rw [hw]; omega)

def Case (f i : List Int) (fs : List (Int × Sl)) (c : List Int) (e : Int) : Prop :=
  (isB i 8 = false ∧ e = 1) ∨ (isB i 8 = true ∧ fs.length ≤ (i.getD 4 0).toNat ∧ e = 17) ∨ (isB i 8 = true ∧ e = 0 ∧ ∃ y, fs[(i.getD 4 0).toNat]? = some y ∧ c = fChild f (i.getD 4 0) y.1)
theorem child_S {f i : List Int} {s : Sl} {fs : List (Int × Sl)} {w : World} {k : Array Value × Int → World → Prop} (hf : f.length = 19) (hi : i.length = 5) (hp : Funcs w s fs)
    (hk : ∀ c e w', c.length = 19 → Case f i fs c e → Ext w w' → k (agI c, e) w') : frame_Frame_Child (agI f) #[.slice s.a s.n s.c] (agI i) w k :=
  child_s hf hi hp (fun h1 w5 he5 => hk _ _ w5 rfl (.inl ⟨h1, rfl⟩) he5) (fun h1 h2 w5 he5 => hk _ _ w5 rfl (.inr (.inl ⟨h1, h2, rfl⟩)) he5)
    (fun h1 y hy w5 he5 => hk _ _ w5 (by rw [← fHalf_eight]; exact fHalf_len hf (by omega)) (.inr (.inr ⟨h1, rfl, y, hy, rfl⟩)) he5)

theorem law {f x : List Int} {s : Sl} {fs : List (Int × Sl)} {w : World} {k : Bool → World → Prop} (hf : f.length = 19) (hx : x.length = 6) (hp : Funcs w s fs) (hN : ∀ y ∈ fs, InI y.1) (hk : ∀ w', Ext w w' → k true w') :
    pelotonlaw05_FrameForks (agI f) #[.slice s.a s.n s.c] (agI x) w k := by
  unfold pelotonlaw05_FrameForks
  refine newC_i fun g1 w1 hg1 hs1 hb1 he1 => newC_i fun g2 w2 hg2 hs2 hb2 he2 => newC_i fun g3 w3 hg3 hs3 hb3 he3 => ?_
  have he13 := (he1.trans he2).trans he3
  have hb13 : BI w3 g1 f := (hb1.ext he2).ext he3
  have hb23 : Blk w3 g2 #[.slice s.a s.n s.c] := hb2.ext he3
  have hb33 : BI w3 g3 x := hb3
  have hsz := he1.size
  simp only [add_mk, Nat.zero_add]
  refine joinP_i (fun y w' => Ext w3 w' ∧ (y = false → True)) ?_ ?_
  · intro J hJ
    refine ldA_I hb13 hf (usual_s hf fun w4 he4 => iteB_i (fun h => hJ _ _ ⟨he4, by simp⟩) fun h => ?_)
    refine ldA_i (hb23.ext he4) (by simp) ?_
    show pelotonlaw02_Few #[.slice s.a s.n s.c] _ _
    exact few_s (hp.ext (he13.trans he4)) fun b w5 he5 => hJ _ _ ⟨he4.trans he5, fun _ => trivial⟩
  rintro b w4 ⟨he34, -⟩
  have he04 := he13.trans he34
  refine iteB_i (fun h => awake5_s fun w' he => hk _ (he04.trans he)) fun h => ?_
  have hb14 : BI w4 g1 f := hb13.ext he34
  have hb24 := hb23.ext he34
  have hb34 : BI w4 g3 x := hb33.ext he34
  have hi : ((x.drop 0).take 5).length = 5 := by rw [List.length_take, List.length_drop, hx]; rfl
  refine ldA_I hb14 hf (ldA_i hb24 (by simp) (ldA_P hb34 (by omega) ?_))
  show frame_Frame_Child _ #[.slice s.a s.n s.c] _ _ _
  generalize hi' : (x.drop 0).take 5 = i at *
  have hget : ∀ j, j < 5 → x.getD j 0 = i.getD j 0 := by
    intro j hj
    rw [← hi', List.getD_eq_getElem?_getD, List.getD_eq_getElem?_getD, List.drop_zero, List.getElem?_take_of_lt hj]
  refine child_S hf hi (hp.ext he04) fun c e w5 hc hcase he5 => newC_i fun g6 w6 hg6 hs6 hb6 he6 => stA_I hb6 rfl hc fun w7 hb7 hs7 ho7 => ?_
  have he47 : Ext w4 w7 := (he5.trans he6).then ho7 fun g hg => by have := he5.size; omega
  refine drew_i fun w8 hh8 he8 => ?_
  have hb18 : BI w8 g1 f := (hb14.ext he47).ext he8
  have hb28 := (hb24.ext he47).ext he8
  have hb38 : BI w8 g3 x := (hb34.ext he47).ext he8
  have hb68 : BI w8 g6 c := hb7.ext he8
  have st1 : ∀ {w' : World} {n o : Nat} {c : Prop}, Ext w8 w' → c → samec n ⟨g1, o, none⟩ w8 w' c := fun he hc => samec_B hb18 (hb18.ext he) hc
  have st3 : ∀ {w' : World} {n o : Nat} {c : Prop}, Ext w8 w' → c → samec n ⟨g3, o, none⟩ w8 w' c := fun he hc => samec_B hb38 (hb38.ext he) hc
  refine ldA_I hb18 hf (ldA_P hb38 (by omega) (ldP_I hb38 (by omega) (ldA_I hb18 hf (ldA_P hb38 (by omega) (ldP_I hb38 (by omega) ?_)))))
  rw [hi']
  refine forked_s hf hi fun w9 he9 => st3 he9 (st3 he9 (st1 he9 (plain_s hf fun w10 he10 => st3 (he9.trans he10) (st3 (he9.trans he10) (rforked_s hf hi fun w11 he11 => same_s (by rw [fForked_len, hf]) fun w12 he12 => iteB_f (by simp) ?_)))))
  have he812 := ((he9.trans he10).trans he11).trans he12
  have he412 : Ext w4 w12 := (he47.trans he8).trans he812
  have hb112 : BI w12 g1 f := hb14.ext he412
  have hb212 := hb24.ext he412
  have hb312 : BI w12 g3 x := hb34.ext he412
  have hb612 : BI w12 g6 c := hb68.ext he812
  refine joinP_i (fun y w' => Ext w12 w' ∧ y = !isB i 8) ?_ ?_
  · intro J hJ
    refine ldP_I hb312 (by omega) (iteB_i (fun hne => hJ _ _ ⟨.refl _ _, ?_⟩) fun heq => ?_)
    · have h0 := hget 0 (by omega)
      rw [h0] at hne
      have : isB i 8 = false := by
        unfold isB
        have : (i.getD 0 0 == 8) = false := by simpa using hne
        rw [this]; rfl
      rw [this]; rfl
    · refine ldA_P hb312 (by omega) ?_
      rw [hi']
      refine rcheck_s hi fun w13 he13 => hJ _ _ ⟨he13, ?_⟩
      have h0 := hget 0 (by omega)
      rw [h0] at heq
      have h8 : (i.getD 0 0 == 8) = true := by simpa using heq
      unfold isB
      rw [h8, Bool.true_and]
      rfl
  rintro _ w13 ⟨he13, rfl⟩
  have hall : Ext w w13 := (he04.trans he412).trans he13
  have fin : ∀ w', Ext w13 w' → pelotonlaw05_awake w' fun b16 w17 => k b16 w17 := fun w' he => awake5_s fun w'' he' => hk _ ((hall.trans he).trans he')
  refine iteB_i (fun h8 => ?_) fun h8 => ?_
  · have h8 : isB i 8 = false := by simpa using h8
    rcases hcase with ⟨_, rfl⟩ | ⟨h, _⟩ | ⟨h, _⟩
    · exact iteB_t rfl (fin _ (.refl _ _))
    · rw [h8] at h; cases h
    · rw [h8] at h; cases h
  have h8 : isB i 8 = true := by simpa using h8
  obtain ⟨hN0, hN1⟩ := fork_N h8
  have hb313 : BI w13 g3 x := hb312.ext he13
  have hb213 := hb212.ext he13
  have h4 := hget 4 (by omega)
  have hln := hp.len
  refine ldP_I hb313 (by omega) (ldS_i (s := s) (hb213.cell 0) (iteB_i (fun hge => ?_) fun hlt => ?_))
  · rw [h4] at hge
    have hge : i.getD 4 0 ≥ s.n := of_decide_eq_true hge
    rcases hcase with ⟨h, _⟩ | ⟨_, _, rfl⟩ | ⟨_, _, y, hy, _⟩
    · rw [h8] at h; cases h
    · exact iteB_t rfl (fin _ (.refl _ _))
    · have := (List.getElem?_eq_some_iff.1 hy).1; omega
  rw [h4] at hlt
  have hlt : i.getD 4 0 < s.n := by have := of_decide_eq_false hlt; omega
  rcases hcase with ⟨h, _⟩ | ⟨_, h, _⟩ | ⟨_, rfl, y, hy, rfl⟩
  · rw [h8] at h; cases h
  · omega
  refine drew_i fun w14 hh14 he14 => ?_
  have he1214 := he13.trans he14
  have hb114 : BI w14 g1 f := hb112.ext he1214
  have hb214 := hb212.ext he1214
  have hb314 : BI w14 g3 x := hb312.ext he1214
  have hb614 : BI w14 g6 (fChild f (i.getD 4 0) y.1) := hb612.ext he1214
  have hp14 := hp.ext (hall.trans he14)
  refine iteB_t rfl (ldA_I hb614 hc (ldA_I hb114 hf (ldP_I hb314 (by omega) (ldS_i (s := s) (hb214.cell 0) (ldP_I hb314 (by omega) ?_)))))
  rw [h4]
  refine ixF hp14 hN0 hy fun p hc0 hc1 => ldI_i hc0 (plain_s hf fun w15 he15 => ?_)
  have sp : ∀ {w' : World} {c : Prop}, Ext w14 w' → c → samec 1 (p.add 0) w14 w' c := fun {w' c} he hc => ⟨fun k hk => by
    have : k = 0 := by omega
    subst this
    rw [add_zero, hc0]; exact he.cell hc0, hc⟩
  have st3' : ∀ {w' : World} {n o : Nat} {c : Prop}, Ext w14 w' → c → samec n ⟨g3, o, none⟩ w14 w' c := fun he hc => samec_B hb314 (hb314.ext he) hc
  have st2' : ∀ {w' : World} {n o : Nat} {c : Prop}, Ext w14 w' → c → samec n ⟨g2, o, none⟩ w14 w' c := fun he hc => samec_B hb214 (hb214.ext he) hc
  have st6' : ∀ {w' : World} {n o : Nat} {c : Prop}, Ext w14 w' → c → samec n ⟨g6, o, none⟩ w14 w' c := fun he hc => samec_B hb614 (hb614.ext he) hc
  refine sp he15 (st3' he15 (st2' he15 (st3' he15 (st6' he15 (rchild_s hf (hN y (List.mem_of_getElem? hy)) fun w16 he16 => st6' (he15.trans he16) (same_s hc fun w17 he17 => iteB_t rfl (fin _ (((he14.trans he15).trans he16).trans he17))))))))

/-! ### the lift -/
theorem own : ownKnob Try.prog.godebug = none := by kernel_rfl
theorem walk (W : World) (args : Array Value) (hA : Args Try.prog W Try.f13.params.toList args.toList) :
    Calls Try.prog 13 args W fun e W' => e = .returned (.bool true) ∧ Below W.heap.size W W' := by
  rw [Try.params13] at hA
  obtain ⟨v0, _, e0, h0, hA⟩ := hA.cons
  obtain ⟨v1, _, rfl, h1, hA⟩ := hA.cons
  obtain ⟨v2, _, rfl, h2, hA⟩ := hA.cons
  obtain rfl := hA.nil
  obtain rfl : args = #[v0, v1, v2] := by cases args; simp_all
  have T : ProgT Try.prog 50 62 72 73 75 3 := ⟨⟨_, Try.underlying50⟩, by kernel_rfl, by kernel_rfl, by kernel_rfl, Try.underlying62, ⟨_, _, Try.underlying72, rfl, rfl, rfl, rfl⟩, Try.underlying3, by kernel_rfl, by kernel_rfl, by kernel_rfl, by kernel_rfl, Try.underlying73, by kernel_rfl, ⟨_, Try.underlying75, rfl, rfl⟩, by kernel_rfl⟩
  obtain ⟨f, rfl, hf, hfI⟩ := h0.flat (n := 4) (k := 19) (.inr ⟨_, Try.underlying48⟩) (by kernel_rfl) (by kernel_rfl)
  obtain ⟨s, fs, rfl, hF⟩ := h1.program T
  obtain ⟨x, rfl, hx, hxI⟩ := h2.flat (n := 4) (k := 6) (.inr ⟨_, Try.underlying85⟩) (by kernel_rfl) (by kernel_rfl)
  have hp : Funcs W s (fs.map fun x => (x.needs, x.sl)) := by
    have := hF.rws
    unfold Funcs
    rw [List.map_map]
    exact this
  refine (s13.2 _ W (fun v w' => v = .bool true ∧ Below W.heap.size W w') ?_).mono ?_
  · have h := law (k := fun r w' => packV (valL [.b] r) = .bool true ∧ Below W.heap.size W w') hf hx hp (fun y hy => by obtain ⟨z, hz, rfl⟩ := List.mem_map.1 hy; exact (hF.code z hz).1) fun w' he => ⟨rfl, he.below⟩
    exact h
  · rintro e w' ⟨v, rfl, rfl, hb⟩
    exact ⟨rfl, hb⟩

theorem lifted (os : Os) (started : os.Started) (H : Type) (enc : TypeId × Value → H) :
    ReturnsInHanded {} Try.checked os 13 .any (Rows.frameForksSpec.pre6 enc Try.prog Try.f13 Rows.frameForksRow.domain false) (Rows.frameForksSpec.post enc Try.prog Try.f13 false true false false) :=
  law_lifted (C := Try.checked) own started (by kernel_rfl) Try.func13
    (ChangeSpec.witness6 (enc := enc) (C := Try.checked) false ⟨#[], #[.agg #[.int .i64 0, .int .i64 0, .int .i64 0, .int .i64 0, .int .i64 0, .int .i64 0, .int .i64 0, .int .i64 0, .int .i64 0, .int .i64 0, .int .i64 0, .int .i64 0, .int .i64 0, .int .i64 0, .int .i64 0, .int .i64 0, .int .i64 0, .int .i64 0, .int .i64 0], .agg #[.slice none 0 0], .agg #[.int .i64 0, .int .i64 0, .int .i64 0, .int .i64 0, .int .i64 0, .int .i64 0]], []⟩ 8 (by kernel_rfl) (by kernel_rfl) (by kernel_rfl) (by kernel_rfl))
    rfl (by kernel_rfl) (by kernel_rfl) (tb := 4) (by kernel_rfl) (by kernel_rfl)
    (fun ds h => by
      match ds, h with
      | [_, _, _], _ => rfl)
    walk

theorem over : Rows.frameForksRow.holds Try.pinned (OpenSpec.ofChange Rows.frameForksSpec) :=
  OpenClaim.holds_of_wide 13 Try.f13 rfl rfl rfl rfl rfl rfl rfl ⟨rfl, rfl, rfl, rfl, rfl⟩ rfl rfl rfl rfl rfl (by kernel_rfl) Try.func13 (by kernel_rfl)
    (of_decide_eq_true (by kernel_rfl)) (by unfold Func.isWrapper; first | (rw [if_pos (by decide +kernel)]; kernel_rfl) | (rw [if_neg (by decide +kernel)]; exact ⟨rfl, rfl⟩))
    (fun os started H enc _ => lifted os started H enc)

theorem proved : Rows.FrameForksSaid := over
#print axioms proved
end Go.Proofs.Ytkcakjckpbldoaa.FrameForks
