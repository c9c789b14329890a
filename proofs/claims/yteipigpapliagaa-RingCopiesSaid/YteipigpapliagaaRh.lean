/-
  Layer 9: copyings, whoever stores in between.
-/
import Derived.Test.YteipigpapliagaaRg
set_option linter.unusedSimpArgs false
set_option linter.unusedVariables false
set_option maxRecDepth 100000
namespace Go.Proofs.Yteipigpapliagaa
open Go Go.Ev Go.Proofs

/-- a machine of three callers, that did so many operations -/
structure Three (M : Mac) (did : Nat) : Prop where
  len : M.cells.length = 40
  st : ∃ a b c : Nat, M.steps = [(a : Int), (b : Int), (c : Int)] ∧ a + b + c = did
theorem Three.caller {M : Mac} {did : Nat} (h : Three M did) (wk : Int) : M.caller wk = decide (0 ≤ wk ∧ wk ≤ 2) := by
  obtain ⟨a, b, c, e, _⟩ := h.st
  unfold Mac.caller
  rw [e, decide_eq_decide]
  simp; omega
theorem Three.tick {M : Mac} {did : Nat} (h : Three M did) {wk : Int} (h0 : 0 ≤ wk) (h2 : wk ≤ 2) (hd : did ≤ 1000) : Three (M.tick wk) (did + 1) := by
  obtain ⟨a, b, c, e, hs⟩ := h.st
  have hw : ∀ x : Nat, x ≤ 1000 → IntKind.i64.wrap ((x : Int) + 1) = ((x + 1 : Nat) : Int) := fun x hx => by rw [wrap_id ⟨by omega, by omega⟩]; simp
  refine ⟨h.len, ?_⟩
  unfold Mac.tick
  rw [e]
  rcases (show wk = 0 ∨ wk = 1 ∨ wk = 2 by omega) with rfl | rfl | rfl
  · exact ⟨a + 1, b, c, by simp [hw a (by omega)], by omega⟩
  · exact ⟨a, b + 1, c, by simp [hw b (by omega)], by omega⟩
  · exact ⟨a, b, c + 1, by simp [hw c (by omega)], by omega⟩
theorem Three.put {M : Mac} {did : Nat} (h : Three M did) {at_ x : Int} : Three (M.put at_ x) did := ⟨by unfold Mac.put; simp; exact h.len, h.st⟩
theorem Three.can {M : Mac} {did : Nat} (h : Three M did) {wk at_ : Int} : M.can wk at_ = decide ((0 ≤ wk ∧ wk ≤ 2) ∧ (0 ≤ at_ ∧ at_ < 40)) := by
  unfold Mac.can Mac.given
  rw [h.caller, h.len, Bool.eq_iff_iff, Bool.and_eq_true, decide_eq_true_eq, decide_eq_true_eq, decide_eq_true_eq]
  rfl
theorem spot_nn {c : Cp} (ha : c.a.right = true) (hb : c.b.right = true) : 0 ≤ c.spot := by
  have hra := Rg.right_out ha; have hrb := Rg.right_out hb
  unfold Cp.spot Rg.place
  rw [if_pos ha, if_pos hb]
  have m1 := Int.emod_nonneg c.at_ (show ((c.a.pw : Nat) : Int) ≠ 0 by omega)
  have m2 := Int.emod_nonneg c.at_ (show ((c.b.pw : Nat) : Int) ≠ 0 by omega)
  split <;> omega
theorem next_a (c : Cp) (x : Int) : (c.next x).a = c.a ∧ (c.next x).b = c.b := by unfold Cp.next; split <;> exact ⟨rfl, rfl⟩
theorem begE_right {a b : Rg} {p q : Int} (h : begE a b p q = 0) : a.right = true ∧ b.right = true ∧ p ≤ q ∧ q - p ≤ a.size ∧ q - p ≤ b.size := by
  unfold begE at h
  split at h
  · omega
  · rename_i h1
    split at h
    · omega
    · rename_i h2
      refine ⟨?_, ?_, by omega, by omega, by omega⟩
      · cases ha : a.right with
        | true => rfl
        | false => exact absurd (.inl ha) h1
      · cases ha : b.right with
        | true => rfl
        | false => exact absurd (.inr ha) h1

section
variable {w0 w : World} {L : List HP}
theorem law_copies {a b : Rg} {p q : Int} {s : Sl} {acts : List (List Int)} {k : Bool → World → Prop} (hp : InI p) (hq : InI q) (h : St w0 w L) (hR : Rws 4 w0 s (acts.map ints)) (h4 : ∀ x ∈ acts, x.length = 4) (hk : ∀ w', St w0 w' L → k true w') :
    pelotonlaw09_RingCopies #[.int .i64 a.At, .int .i64 a.Log, .int .i64 b.At, .int .i64 b.Log] #[.int .i64 p, .int .i64 q] s w k := by
  unfold pelotonlaw09_RingCopies pelotonlaw09_RingCopies_b
  refine newC_h h fun g1 w1 hS => newC_h hS fun g2 w2 hS => ?_
  simp only [add_mk, Nat.zero_add, Nat.add_zero]
  have hlen : s.n = acts.length := by have := hR.len; simpa using this.symm
  refine cnew_s hS (fun _ gm w3 hS => iteB_f rfl ?_) fun h => absurd h (by decide)
  refine alloc_s (g := gm) (M := Mac.new 40 2) hS ⟨by decide, by decide⟩ (fun _ _ _ w4 hS => iteB_f rfl ?_) (fun _ _ h => absurd h (by decide)) fun h => absurd (by decide) h
  have hT : Three (((Mac.new 40 2).tick 2).grow 40) 1 := ⟨by decide, 0, 0, 1, by decide, rfl⟩
  have hcells : (((Mac.new 40 2).tick 2).grow 40).cells = List.replicate 40 0 := by decide
  generalize ((Mac.new 40 2).tick 2).grow 40 = M0 at *
  refine ldI_h hS rfl ?_
  refine ldI_h hS rfl ?_
  refine box_s (r := a) rfl hS fun g5 w7 hS => ?_
  refine ldI_h hS rfl ?_
  refine ldI_h hS rfl ?_
  refine box_s (r := b) rfl hS fun g6 w8 hS => ?_
  refine ldW_h hS rfl ?_
  refine ldW_h hS rfl ?_
  refine ldI_h hS rfl ?_
  refine ldI_h hS rfl ?_
  have fin : ∀ {w' : World} {L' : List HP}, St w0 w' (L' ++ L) → pelotonlaw09_awake w' fun b w'' => k b w'' := by
    intro w' L' hS
    refine awake9_s hS fun w'' hS => hk _ ?_
    have : ∀ (L' : List HP), St w0 w'' (L' ++ L) → St w0 w'' L := by
      intro L'
      induction L' with
      | nil => exact id
      | cons x l ih => intro h; exact ih h.drop
    exact this _ hS
  refine copy_s (a := a) (b := b) hp hq hS (fun hE gc w9 hS => ?_) fun hE w9 hS => ?_
  · refine ldI_h hS rfl ?_
    refine ldI_h hS rfl ?_
    refine ldI_h hS rfl ?_
    refine ldI_h hS rfl ?_
    refine ldI_h hS rfl ?_
    refine ldI_h hS rfl ?_
    refine begin_s (a := a) (b := b) hp hq hS (fun _ gr w10 hS => ?_) fun h => absurd hE h
    refine iteB_f rfl (iteB_i (fun hc => iteB_t rfl (fin (L' := [_, _, _, _, _, _, _]) hS)) fun hc => ?_)
    simp only [Bool.or_eq_false_iff, decide_eq_false_iff_not] at hc
    refine mkSl_h (n := 40) hS (elI (by kernel_rfl)) rfl (by omega) (by omega) fun s' w11 hS _ => ?_
    rw [ints_rep] at hS
    have hr := begE_right hE
    have hS1 : St w0 w11 (cpy gc (Cp.begin a b p q) :: mach gm M0 :: rcpy gr (Cp.begin a b p q) :: slc 1 s' (ints M0.cells) :: L) := by
      rw [hcells]
      replace hS := hS.front 5 rfl
      simp only [List.eraseIdx] at hS
      replace hS := hS.front 3 rfl
      simp only [List.eraseIdx] at hS
      replace hS := ((((hS.rm 4 rfl).rm 4 rfl).rm 4 rfl).rm 4 rfl)
      simp only [List.eraseIdx] at hS
      replace hS := hS.front 3 rfl
      simp only [List.eraseIdx] at hS
      replace hS := hS.front 2 rfl
      simp only [List.eraseIdx] at hS
      replace hS := hS.front 1 rfl
      simp only [List.eraseIdx] at hS
      replace hS := hS.front 1 rfl
      simp only [List.eraseIdx] at hS
      replace hS := hS.front 2 rfl
      simp only [List.eraseIdx] at hS
      exact hS
    clear hS
    generalize hcc : Cp.begin a b p q = c0 at *
    have hra0 : c0.a.right = true := by rw [← hcc]; exact hr.1
    have hrb0 : c0.b.right = true := by rw [← hcc]; exact hr.2.1
    refine loopP_of (fun (x : Int × Int) w' => ∃ (i did : Nat) (M : Mac) (c : Cp), x = ((did : Int), (i : Int)) ∧ i ≤ acts.length ∧ did ≤ i + 1 ∧ Three M did ∧ c.a.right = true ∧ c.b.right = true ∧ St w0 w' (cpy gc c :: mach gm M :: rcpy gr c :: slc 1 s' (ints M.cells) :: L)) (fun x _ => (acts.length - x.2).toNat)
      ⟨0, 1, M0, c0, rfl, by omega, by omega, hT, hra0, hrb0, hS1⟩ ?_
    rintro _ w12 ⟨i, did, M, c, rfl, hi, hdi, hT, hra, hrb, hS⟩ C hC
    dsimp only
    refine iteB_i (fun hlt => ?_) fun hge => fin (L' := [_, _, _, _]) hS
    rw [decide_eq_true_eq] at hlt
    have hw : IntKind.i64.wrap ((i : Int) + 1) = ((i + 1 : Nat) : Int) := by rw [wrap_id ⟨by omega, by omega⟩]; simp
    have hwd : IntKind.i64.wrap ((did : Int) + 1) = ((did + 1 : Nat) : Int) := by rw [wrap_id ⟨by omega, by omega⟩]; simp
    obtain ⟨x, hx⟩ : ∃ x, acts[((i : Nat) : Int).toNat]? = some x := ⟨_, List.getElem?_eq_getElem (by simp; omega)⟩
    have hx4 := h4 x (List.mem_of_getElem? hx)
    match x, hx4, hx with
    | [x0, x1, x2, x3], _, hx =>
    have he : (acts.map ints)[((i : Nat) : Int).toNat]? = some [.int .i64 x0, .int .i64 x1, .int .i64 x2, .int .i64 x3] := by rw [List.getElem?_map, hx]; rfl
    refine ixR_h hR hS (by omega) he fun q hq => ldI_i (hq hS (j := 0) rfl) ?_
    refine joinP_i (fun y w' => ∃ (did' : Nat) (M : Mac) (c : Cp), y = (did' : Int) ∧ did' ≤ did + 1 ∧ Three M did' ∧ c.a.right = true ∧ c.b.right = true ∧ St w0 w' (cpy gc c :: mach gm M :: rcpy gr c :: slc 1 s' (ints M.cells) :: L)) ?_ ?_
    · intro J hJ
      refine iteB_i (fun h0 => ?_) fun h0 => ?_
      · refine ixR_h hR hS (by omega) he fun q hq => ldI_i (hq hS (j := 2) rfl) ?_
        refine ixR_h hR hS (by omega) he fun q hq => ldI_i (hq hS (j := 3) rfl) ?_
        have e40 : remV (IntKind.i64.wrap (remV x2 40 + 40)) 40 = x2 % 40 := tmod_emod (by omega) (by omega)
        rw [e40]
        have m1 := Int.emod_nonneg x2 (show (40 : Int) ≠ 0 by omega)
        have m2 := Int.emod_lt_of_pos x2 (show (0 : Int) < 40 by omega)
        have hcan : M.can 2 (x2 % 40) = true := by rw [hT.can, decide_eq_true_eq]; omega
        refine store_s (g := gm) (M := M) hS (fun _ w13 hS => iteB_f rfl ?_) fun h => absurd hcan (by rw [h]; simp)
        refine ixR_h hR hS (by omega) he fun q hq => ldI_i (hq hS (j := 3) rfl) ?_
        refine ixIst_h (s := s') (xs := M.cells) hS m1 (by rw [hT.len]; omega) fun w14 hS => ?_
        refine hJ _ _ ⟨did + 1, _, c, hwd, by omega, (hT.tick (by omega) (by omega) (by omega)).put (at_ := x2 % 40) (x := x3), hra, hrb, hS⟩
      · refine ixR_h hR hS (by omega) he fun q hq => ldI_i (hq hS (j := 1) rfl) ?_
        have hcanW : ∀ {M' : Mac}, M'.cells.length = 40 → True := fun _ => trivial
        have hsp := spot_nn hra hrb
        have hcan := hT.can (wk := x1) (at_ := c.spot)
        refine step_s hS (fun h1 w13 hS => ?_) (fun h1 h2 w13 hS => ?_) (fun h1 h2 h3 w13 hS => ?_) fun h1 h2 h3 w13 hS => ?_
        · refine ixR_h hR hS (by omega) he fun q hq => ldI_i (hq hS (j := 1) rfl) ?_
          refine rstep_s hS.rot2 hra hrb (fun _ w14 hS => ?_) (fun h => absurd h1 h) (fun h => absurd h1 h) fun h => absurd h1 h
          exact iteB_f rfl (iteB_f rfl (hJ _ _ ⟨did, M, c, rfl, by omega, hT, hra, hrb, hS.rot2⟩))
        · rw [hcan, decide_eq_false_iff_not] at h2
          refine ixR_h hR hS (by omega) he fun q hq => ldI_i (hq hS (j := 1) rfl) ?_
          refine rstep_s hS.rot2 hra hrb (fun h => absurd h h1) (fun _ _ w14 hS => ?_) (fun _ h => absurd h (by rw [hT.len]; omega)) fun _ h => absurd h (by rw [hT.len]; omega)
          exact iteB_f rfl (iteB_f rfl (hJ _ _ ⟨did, M, c, rfl, by omega, hT, hra, hrb, hS.rot2⟩))
        · rw [hcan, decide_eq_true_eq] at h2
          refine ixR_h hR hS (by omega) he fun q hq => ldI_i (hq hS (j := 1) rfl) ?_
          refine rstep_s hS.rot2 hra hrb (fun h => absurd h h1) (fun _ h => absurd (by rw [hT.len]; omega) h) (fun _ _ _ w14 hS => ?_) fun _ _ h => absurd h (by rw [h3]; simp)
          refine iteB_f rfl (iteB_t rfl (hJ _ _ ⟨did + 1, M.tick x1, c.next (M.get c.spot), hwd, by omega, hT.tick (by omega) (by omega) (by omega), by rw [(next_a c _).1]; exact hra, by rw [(next_a c _).2]; exact hrb, hS.rot2⟩))
        · rw [hcan, decide_eq_true_eq] at h2
          refine ixR_h hR hS (by omega) he fun q hq => ldI_i (hq hS (j := 1) rfl) ?_
          refine rstep_s hS.rot2 hra hrb (fun h => absurd h h1) (fun _ h => absurd (by rw [hT.len]; omega) h) (fun _ _ h => absurd h (by rw [h3]; simp)) fun _ _ _ w14 hS => ?_
          refine iteB_f (by simp) (iteB_t rfl (hJ _ _ ⟨did + 1, (M.tick x1).put c.spot c.has, c.next 0, hwd, by omega, (hT.tick (by omega) (by omega) (by omega)).put, by rw [(next_a c _).1]; exact hra, by rw [(next_a c _).2]; exact hrb, hS.rot2⟩))
    rintro _ w13 ⟨did', M', c', rfl, hd', hT', hra', hrb', hS⟩
    refine joinP_i (fun _ w' => St w0 w' (cpy gc c' :: mach gm M' :: rcpy gr c' :: slc 1 s' (ints M'.cells) :: L)) ?_ ?_
    · intro J hJ
      refine loopP_of (fun (x : Int) w' => ∃ j : Nat, x = (j : Int) ∧ j ≤ 40 ∧ St w0 w' (cpy gc c' :: mach gm M' :: rcpy gr c' :: slc 1 s' (ints M'.cells) :: L)) (fun x _ => (40 - x).toNat) ⟨0, rfl, by omega, hS⟩ ?_
      rintro _ w14 ⟨j, rfl, hj, hS⟩ C2 hC2
      refine iteB_i (fun hlt => ?_) fun hge => hJ _ _ hS
      rw [decide_eq_true_eq] at hlt
      have hwj : IntKind.i64.wrap ((j : Int) + 1) = ((j + 1 : Nat) : Int) := by rw [wrap_id ⟨by omega, by omega⟩]; simp
      have hl2 := slen1 (s := s') (xs := M'.cells) hS
      have h40 := hT'.len
      refine drew_h hS fun w15 hS => ?_
      refine ixE_h (sz := 1) (s := s') (vs := ints M'.cells) hS (by omega) (by omega) (by omega) fun g o hr _ => ?_
      have hrd := hr 0 _ (by omega) (ints_getD (xs := M'.cells) (i := (j : Int).toNat * 1 + 0) (by simp; omega))
      refine ldI_i (by simpa using hrd) (peek_s (g := gm) (M := M') hS (samec_self (iteB_f ?_ (hC2 _ _ ⟨j + 1, hwj, by omega, hS⟩ (by rw [hwj]; omega)))))
      unfold Mac.given Mac.get
      rw [if_pos (by rw [decide_eq_true_eq]; omega)]
      simp
    intro _ w14 hS
    obtain ⟨s1, s2, s3, est, hsum⟩ := hT'.st
    refine steps_s (g := gm) (M := M') hS (steps_s (g := gm) (M := M') hS (steps_s (g := gm) (M := M') hS (iteB_f ?_ (hC _ _ ⟨i + 1, did', M', c', by rw [hw], by omega, by omega, hT', hra', hrb', hS⟩ (by dsimp only; rw [hw]; omega)))))
    rw [hT'.caller, hT'.caller, hT'.caller, est]
    simp
    rw [wrap_id (x := (s1 : Int) + s2) ⟨by omega, by omega⟩, wrap_id ⟨by omega, by omega⟩]
    omega
  · refine ldI_h hS rfl ?_
    refine ldI_h hS rfl ?_
    refine ldI_h hS rfl ?_
    refine ldI_h hS rfl ?_
    refine ldI_h hS rfl ?_
    refine ldI_h hS rfl ?_
    refine begin_s (a := a) (b := b) hp hq hS (fun h => absurd h hE) fun _ w10 hS => ?_
    refine iteB_f (by simp) (iteB_t (by rw [Bool.or_eq_true]; left; simpa using hE) (iteB_t (by simp) (fin (L' := [_, _, _, _, _]) hS)))
end
end Go.Proofs.Yteipigpapliagaa
