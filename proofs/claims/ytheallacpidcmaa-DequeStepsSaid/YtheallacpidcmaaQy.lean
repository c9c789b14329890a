/-
  Layer 10: every step of it is the document's.
-/
import Derived.Test.YtheallacpidcmaaQv
set_option linter.unusedSimpArgs false
set_option linter.unusedVariables false
set_option maxRecDepth 100000
namespace Go.Proofs.Ytheallacpidcmaa
open Go Go.Ev Go.Proofs

def wP : Option (Nat × Nat × Dop) → HP
  | none => sepHP []
  | some p => sepHP [opP p.1 p.2.2, ropP p.2.1 p.2.2]
def pV : Option (Nat × Nat × Dop) → Value
  | none => .pointer none
  | some p => .pointer (some ⟨p.1, 0, none⟩)
def rV : Option (Nat × Nat × Dop) → Value
  | none => .pointer none
  | some p => .pointer (some ⟨p.2.1, 0, none⟩)
abbrev smem (gm gc gd ge : Nat) (s32 s34 : Sl) (size most : Int) (M : Mac) (did : Int) (ops : Wps) (T : List HP) : List HP :=
  mach gm M :: rmac gc (M.cells, size, did) :: blk gd (ints [0, most]) :: blk ge (ints [0, most]) :: slc 1 s32 (ops.map pV) :: slc 1 s34 (ops.map rV) :: T
theorem perm_atV {α : Type} : ∀ {l : List α} {i : Nat} (h : i < l.length), l.Perm (l[i] :: l.eraseIdx i) := by
  intro l
  induction l with
  | nil => intro i h; simp at h
  | cons x l ih =>
    intro i h
    cases i with
    | zero => exact .refl _
    | succ i => exact (List.Perm.cons x (ih (by simpa using h))).trans (.swap _ _ _)
theorem perm_setV {α : Type} {x : α} : ∀ {l : List α} {i : Nat} (h : i < l.length), (x :: l.eraseIdx i).Perm (l.set i x) := by
  intro l
  induction l with
  | nil => intro i h; simp at h
  | cons y l ih =>
    intro i h
    cases i with
    | zero => exact .refl _
    | succ i => exact (List.Perm.swap _ _ _).trans (List.Perm.cons y (ih (by simpa using h)))
section
variable {w0 w : World} {L A : List HP} {ops : Wps} {i g gr : Nat} {O : Dop}
theorem wps_out (h : St w0 w (A ++ ops.map wP)) (hi : i < ops.length) (ho : ops.getD i none = some (g, gr, O)) : St w0 w (opP g O :: ropP gr O :: (A ++ (ops.map wP).eraseIdx i)) := by
  have hp : (A ++ ops.map wP).Perm _ := ((perm_atV (l := ops.map wP) (i := i) (by simpa using hi)).append_left A).trans List.perm_middle
  have e : (ops.map wP)[i]'(by simpa using hi) = sepHP [opP g O, ropP gr O] := by
    rw [List.getElem_map]
    have : ops[i] = some (g, gr, O) := by
      rw [List.getD_eq_getElem?_getD, List.getElem?_eq_getElem hi] at ho
      simpa using ho
    rw [this]; rfl
  rw [e] at hp
  exact (h.perm hp).open
theorem wps_drop (h : St w0 w (A ++ ops.map wP)) (hi : i < ops.length) : St w0 w (A ++ (ops.map wP).eraseIdx i) :=
  (h.perm (((perm_atV (l := ops.map wP) (i := i) (by simpa using hi)).append_left A).trans List.perm_middle)).drop
theorem wps_in (h : St w0 w (opP g O :: ropP gr O :: (A ++ (ops.map wP).eraseIdx i))) (hi : i < ops.length) : St w0 w (A ++ (ops.set i (some (g, gr, O))).map wP) := by
  have e : (ops.set i (some (g, gr, O))).map wP = (ops.map wP).set i (sepHP [opP g O, ropP gr O]) := by rw [List.map_set]; rfl
  rw [e]
  have h2 : St w0 w (sepHP [opP g O, ropP gr O] :: (A ++ (ops.map wP).eraseIdx i)) := St.shut h
  exact h2.perm (List.perm_middle.symm.trans ((perm_setV (l := ops.map wP) (x := sepHP [opP g O, ropP gr O]) (by simpa using hi)).append_left A))
theorem get_is {x : Option (Nat × Nat × Dop)} (ho : ops.getD i none = x) (hi : i < ops.length) : ops[i]? = some x := by
  rw [List.getD_eq_getElem?_getD, List.getElem?_eq_getElem hi] at ho
  rw [List.getElem?_eq_getElem hi]
  simpa using ho
theorem pV_at {x : Option (Nat × Nat × Dop)} (ho : ops.getD i none = x) (hi : i < ops.length) : (ops.map pV)[i]? = some (pV x) := by
  rw [List.getElem?_map, get_is ho hi]; rfl
theorem rV_at {x : Option (Nat × Nat × Dop)} (ho : ops.getD i none = x) (hi : i < ops.length) : (ops.map rV)[i]? = some (rV x) := by
  rw [List.getElem?_map, get_is ho hi]; rfl
theorem elQ {P : Program} {t : TypeId} (h : elInfo P t = some (1, 8, some (.pointer none))) : ElS P t 1 8 (.pointer none) := ⟨h, rfl⟩
/-- a value of a row of one's own, stored -/
theorem ixVs {s : Sl} {vs : List Value} {v : Value} {i : Int} {f : HP → List HP} {c : World → Prop} (h : St w0 w L) [a : At L (slc 1 s) vs f] (h0 : 0 ≤ i) (h1 : i < vs.length) (hv : v.oneCell' = true) (hc : ∀ w', St w0 w' (f (slc 1 s (vs.set i.toNat v))) → c w') : ixS s i 1 fun a => stC w a v c := by
  have hn : vs.length = s.n := by have := h.slen (sz := 1) (s := s) (vs := vs); simpa using this
  refine ixS_h h (by omega) h0 (by omega) fun g o _ _ hs => ?_
  have := hs h a 0 v c (by omega) hv fun w' h' => hc w' (by
    have e : i.toNat * 1 + 0 = i.toNat := by omega
    rwa [e] at h')
  simpa using this
theorem ixPk {s : Sl} {vs : List Value} {i : Int} {p : Option Addr} {f : HP → List HP} {c : Addr → Prop} (h : St w0 w L) [a : At L (slc 1 s) vs f] (h0 : 0 ≤ i) (h1 : vs[i.toNat]? = some (.pointer p))
    (hc : ∀ q, (∀ {w' L' f'}, St w0 w' L' → [At L' (slc 1 s) vs f'] → w'.cell? q = some (.pointer p)) → c q) : ixS s i 1 c := by
  have hn : vs.length = s.n := by have := h.slen (sz := 1) (s := s) (vs := vs); simpa using this
  have hlt := (List.getElem?_eq_some_iff.1 h1).1
  refine ixS_h h (by omega) h0 (by omega) fun g o _ hr _ => hc _ fun {w' L' f'} h' a' => ?_
  have := hr h' 0 (.pointer p) (by omega) (by simpa using h1)
  simpa using this
theorem who10_s {a b c : Int} {k : Int → World → Prop} (h : St w0 w L) (hk : ∀ i w', i < 4 → St w0 w' L → k ((i : Nat) : Int) w') : pelotonlaw10_who #[.int .i64 a, .int .i64 b, .int .i64 c] w k := by
  unfold pelotonlaw10_who
  refine newC_h h fun g w2 h => ldI_h (g := g) (o := 0) h rfl ?_
  have hm1 := Int.tmod_lt_of_pos a (b := 4) (by omega)
  have hm2 : -4 < a.tmod 4 := Int.lt_tmod_of_pos a (by omega)
  have e : IntKind.wrap .i64 (remV a 4 + 4) = a.tmod 4 + 4 := wrap_id ⟨by unfold remV; omega, by unfold remV; omega⟩
  rw [e]
  have h1 := Int.tmod_lt_of_pos (a.tmod 4 + 4) (b := 4) (by omega)
  have h2 := Int.tmod_nonneg (a := a.tmod 4 + 4) 4 (by omega)
  have e2 : remV (a.tmod 4 + 4) 4 = (((a.tmod 4 + 4).tmod 4).toNat : Int) := by unfold remV; omega
  rw [e2]
  exact hk _ w2 (by omega) h.drop
/-- how it stands, what it has -/
theorem rd_how {c : Int → Prop} {L' : List HP} (h : St w0 w (ropP gr O :: L')) (h2 : O.live = true → O.how = 2 → 15 ≤ O.next) (hc : c O.how) : ldI .i64 w ⟨gr, 13, none⟩ c := by
  obtain ⟨cs, L2, hr, h⟩ := ropP_rd h h2
  exact ldI_h (g := gr) (o := 13) h hr.how hc
theorem rd_err {L' : List HP} (h : St w0 w (ropP gr O :: L')) (h2 : O.live = true → O.how = 2 → 15 ≤ O.next) : w.cell? ⟨gr, 15, none⟩ = some (.int .i64 O.err) := by
  obtain ⟨cs, L2, hr, h⟩ := ropP_rd h h2
  rw [h.blk.cell]; simpa using hr.err
theorem rd_got {k : Int → World → Prop} {L' : List HP} (h : St w0 w (ropP gr O :: L')) (h2 : O.live = true → O.how = 2 → 15 ≤ O.next) (hk : k O.tell w) : pelotonlaw10_pelotonref10got (some ⟨gr, 0, none⟩) w k := by
  obtain ⟨cs, L2, hr, h⟩ := ropP_rd h h2
  obtain ⟨kd, got, e1, e2, e3⟩ := hr.kd
  unfold pelotonlaw10_pelotonref10got
  refine joinP_i (fun b w' => b = decide (O.how = 2 ∨ (O.how = 1 ∧ kd ≠ 0)) ∧ w' = w) (fun J hJ => ?_) ?_
  · refine nn_i (ldI_h (g := gr) (o := 13) h hr.how (iteB_i (fun q => ?_) fun q => ?_))
    · have q : O.how = 2 := by simpa using q
      exact hJ _ _ ⟨by simp [q], rfl⟩
    · have q : ¬ O.how = 2 := by simpa using q
      refine nn_i (ldI_h (g := gr) (o := 13) h hr.how (iteB_i (fun q1 => ?_) fun q1 => ?_))
      · have q1 : O.how = 1 := by simpa using q1
        refine nn_i (ldI_h (g := gr) (o := 2) h e1 (hJ _ _ ⟨?_, rfl⟩))
        rw [Bool.eq_iff_iff, decide_eq_true_eq]; simp [q1]
      · have q1 : ¬ O.how = 1 := by simpa using q1
        exact hJ _ _ ⟨by simp [q, q1], rfl⟩
  rintro b w9 ⟨rfl, rfl⟩
  refine iteB_i (fun q => ?_) fun q => ?_
  · have q := of_decide_eq_true q
    rw [e3, if_pos q] at hk
    exact nn_i (ldI_h (g := gr) (o := 14) h e2 hk)
  · have q := of_decide_eq_false q
    rw [e3, if_neg q] at hk
    exact hk
end
section
variable {l0 most size : Int} {w0 w : World}
theorem law_steps {l : Sl} {es : List (List Int)} {k : Bool → World → Prop} (hR : Rws 3 w l (es.map ints)) (h3 : ∀ x ∈ es, x.length = 3 ∧ ∀ y ∈ x, InI y) (hk : ∀ w', St w w' [] → k true w') : pelotonlaw10_DequeSteps size #[.int .i64 l0, .int .i64 most] l w k := by
  have hnl : l.n = es.length := by have := hR.len; simpa using this.symm
  unfold pelotonlaw10_DequeSteps pelotonlaw10_DequeSteps_b
  have h : St w w [] := .nil w
  refine newC_h h fun ga w2 h => iteB_i (fun _ => awake_s h hk) fun hb => ?_
  simp only [Bool.or_eq_false_iff, decide_eq_false_iff_not] at hb
  have h : St w w2 [blk ga (ints [l0, most])] := h
  refine cnew_s (size := size) (wks := 4) h (fun _ gm w6 h => ?_) fun hn => ?_
  rotate_left
  · unfold newOK at hn; exact (of_decide_eq_false hn (by omega)).elim
  refine iteB_f rfl (newC_h h fun gc w8 h => ?_)
  have h : St w w8 [blk gc [.slice none 0 0, .int .i64 size, .int .i64 0], mach gm (Mac.new size 4), blk ga (ints [l0, most])] := h
  refine ldI_h (g := ga) (o := 0) h rfl (ldI_h (g := ga) (o := 1) h rfl ?_)
  have h : St w w8 [mach gm (Mac.new size 4), blk gc [.slice none 0 0, .int .i64 size, .int .i64 0], blk ga (ints [l0, most])] := h.swap
  -- which of the three it is
  have hp1 : logsOk l0 most = true → (⟨3, l0⟩ : Rg).pw ≤ 256 := fun q => by have := of_decide_eq_true q; exact pw_le (n := 8) (by show l0 ≤ _; omega)
  have hpe : ((⟨3, l0⟩ : Rg).pw : Int) = pwr l0 := rfl
  have hpp := pw_pos (⟨3, l0⟩ : Rg)
  have hroom : ∀ n : Int, (Mac.new size 4).room n = decide (n ≤ size) := fun n => by
    unfold Mac.room Mac.new
    congr 1
    simp
  have hs16 : 1 ≤ size ∧ size ≤ 600 := by omega
  have hMok : (Mac.new size 4).OK := ⟨⟨hs16.1, by show size ≤ 1048576; omega⟩, by show (0 : Int) ≤ size; omega⟩
  -- nothing is begun
  have bad : ∀ (gd ge : Nat) (w22 : World) (L : List HP) (e : Int) (G : World → Prop), e ≠ 0 → St w w22 (blk gd (ints [0, 0]) :: blk ge (ints [0, 0]) :: L) →
      joinP (S := Bool) (fun J23 =>
        iteB (e != e) (
          (J23 true w22)) (
          ldI .i64 w22 (Addr.add ⟨gd, 0, none⟩ 0) fun i24 =>
          ldI .i64 w22 (Addr.add ⟨ge, 0, none⟩ 0) fun i25 =>
          iteB (i24 != i25) (
            (J23 true w22)) (
            ldI .i64 w22 (Addr.add ⟨gd, 0, none⟩ 1) fun i26 =>
            ldI .i64 w22 (Addr.add ⟨ge, 0, none⟩ 1) fun i27 =>
            (J23 (i26 != i27) w22)))) fun b28 w29 =>
      iteB b28 (
        (k false w29)) (
        iteB (e != (0 : Int)) (
          pelotonlaw10_awake  w29 fun b30 w31 =>
          (k b30 w31)) (G w29)) := by
    intro gd ge w22 L e G he h
    refine joinP_i (fun b w' => b = false ∧ w' = w22) (fun J hJ => ?_) ?_
    · refine iteB_f (by simp) (ldI_h (g := gd) (o := 0) (n := 0) h rfl (ldI_h (g := ge) (o := 0) (n := 0) h rfl (iteB_f rfl ?_)))
      exact ldI_h (g := gd) (o := 1) (n := 0) h rfl (ldI_h (g := ge) (o := 1) (n := 0) h rfl (hJ _ _ ⟨rfl, rfl⟩))
    rintro b w29 ⟨rfl, rfl⟩
    exact iteB_f rfl (iteB_t (by simpa using he) (awake_s h hk))
  have zs : ∀ v ∈ agI [0, 0], v.oneCell' = true := by intro v hv; simp [agI, ints] at hv; rw [hv]; rfl
  have ms : ∀ v ∈ agI [0, most], v.oneCell' = true := by intro v hv; simp [agI, ints] at hv; rcases hv with rfl | rfl <;> rfl
  refine dnew_s (wk := 4) (log := l0) (most := most) h hMok (by unfold Mac.caller Mac.new; rfl) rfl (fun q1 q2 w12 h => ?_) (fun q1 q2 w12 h => ?_) fun q1 w12 h => ?_
  rotate_left
  · rw [hroom] at q2
    have q2 := of_decide_eq_false q2
    refine newC_h h fun gd w14 h => stW_h (g := gd) (vs := agI [0, 0]) h rfl rfl zs fun w15 h => ?_
    refine ldI_h (g := ga) (o := 0) h rfl (ldI_h (g := ga) (o := 1) h rfl ?_)
    have h : St w w15 [blk gd (ints [0, 0]), mach gm (Mac.new size 4), blk gc [.slice none 0 0, .int .i64 size, .int .i64 0], blk ga (ints [l0, most])] := h
    have h : St w w15 [blk gc [.slice none 0 0, .int .i64 size, .int .i64 0], blk gd (ints [0, 0]), mach gm (Mac.new size 4), blk ga (ints [l0, most])] := h.perm (by repeat' (first | exact List.Perm.refl _ | refine perm_f 0 rfl ?_ | refine perm_f 1 rfl ?_ | refine perm_f 2 rfl ?_ | refine perm_f 3 rfl ?_ | refine perm_f 4 rfl ?_ | refine perm_f 5 rfl ?_ | refine perm_f 6 rfl ?_ | refine perm_f 7 rfl ?_))
    refine dref_s (l0 := l0) (most := most) h hs16 (fun _ z => (q2 z).elim) (fun _ _ w19 h => ?_) fun z => by rw [q1] at z; cases z
    refine newC_h h fun ge w21 h => stW_h (g := ge) (vs := agI [0, 0]) h rfl rfl zs fun w22 h => ?_
    have h : St w w22 (blk gd (ints [0, 0]) :: blk ge (ints [0, 0]) :: [mach gm (Mac.new size 4), blk ga (ints [l0, most])]) := St.swap h
    exact bad gd ge w22 _ 21 _ (by omega) h
  · refine newC_h h fun gd w14 h => stW_h (g := gd) (vs := agI [0, 0]) h rfl rfl zs fun w15 h => ?_
    refine ldI_h (g := ga) (o := 0) h rfl (ldI_h (g := ga) (o := 1) h rfl ?_)
    have h : St w w15 [blk gd (ints [0, 0]), mach gm (Mac.new size 4), blk gc [.slice none 0 0, .int .i64 size, .int .i64 0], blk ga (ints [l0, most])] := h
    have h : St w w15 [blk gc [.slice none 0 0, .int .i64 size, .int .i64 0], blk gd (ints [0, 0]), mach gm (Mac.new size 4), blk ga (ints [l0, most])] := h.perm (by repeat' (first | exact List.Perm.refl _ | refine perm_f 0 rfl ?_ | refine perm_f 1 rfl ?_ | refine perm_f 2 rfl ?_ | refine perm_f 3 rfl ?_ | refine perm_f 4 rfl ?_ | refine perm_f 5 rfl ?_ | refine perm_f 6 rfl ?_ | refine perm_f 7 rfl ?_))
    refine dref_s (l0 := l0) (most := most) h hs16 (fun z => by rw [q1] at z; cases z) (fun z => by rw [q1] at z; cases z) fun _ w19 h => ?_
    refine newC_h h fun ge w21 h => stW_h (g := ge) (vs := agI [0, 0]) h rfl rfl zs fun w22 h => ?_
    have h : St w w22 (blk gd (ints [0, 0]) :: blk ge (ints [0, 0]) :: [mach gm (Mac.new size 4), blk ga (ints [l0, most])]) := St.swap h
    exact bad gd ge w22 _ 10 _ (by omega) h
  rw [hroom] at q2
  have q2 := of_decide_eq_true q2
  have hlg := of_decide_eq_true q1
  refine newC_h h fun gd w14 h => stW_h (g := gd) (vs := agI [0, most]) h rfl rfl ms fun w15 h => ?_
  refine ldI_h (g := ga) (o := 0) h rfl (ldI_h (g := ga) (o := 1) h rfl ?_)
  have h : St w w15 [blk gd (ints [0, most]), mach gm ((Mac.new size 4).began 4 l0), blk gc [.slice none 0 0, .int .i64 size, .int .i64 0], blk ga (ints [l0, most])] := h
  have h : St w w15 [blk gc [.slice none 0 0, .int .i64 size, .int .i64 0], blk gd (ints [0, most]), mach gm ((Mac.new size 4).began 4 l0), blk ga (ints [l0, most])] := h.perm (by repeat' (first | exact List.Perm.refl _ | refine perm_f 0 rfl ?_ | refine perm_f 1 rfl ?_ | refine perm_f 2 rfl ?_ | refine perm_f 3 rfl ?_ | refine perm_f 4 rfl ?_ | refine perm_f 5 rfl ?_ | refine perm_f 6 rfl ?_ | refine perm_f 7 rfl ?_))
  refine dref_s (l0 := l0) (most := most) h hs16 (fun _ _ w19 h => ?_) (fun _ z => (z q2).elim) fun z => by rw [q1] at z; cases z
  refine newC_h h fun ge w21 h => stW_h (g := ge) (vs := agI [0, most]) h rfl rfl ms fun w22 h => ?_
  -- what always holds, at the beginning
  have G0 : WG size most 0 ((Mac.new size 4).began 4 l0) ⟨3, l0⟩ ∧ ((Mac.new size 4).began 4 l0).steps = [0, 0, 0, 0, 2] := by
    have hr : (⟨3, l0⟩ : Rg).right = true := by
      unfold Rg.right; simp only [decide_eq_true_eq]; have := hp1 q1; omega
    have hpw := hp1 q1
    have hlen : ((Mac.new size 4).began 4 l0).len = 3 + pwr l0 := by
      unfold Mac.len Mac.began Mac.put Mac.tick Mac.grow Mac.new
      simp only [List.length_set, List.nil_append, List.length_replicate]
      omega
    have hget : ∀ a, 0 ≤ a → a < 3 + pwr l0 → ((Mac.new size 4).began 4 l0).get a = if a = 2 then Rg.word ⟨3, l0⟩ else 0 := by
      intro a h0 h1
      have e : ((((Mac.new size 4).tick 4).grow (3 + pwr l0)).tick 4).len = 3 + pwr l0 := by
        unfold Mac.len Mac.tick Mac.grow Mac.new
        simp only [List.nil_append, List.length_replicate]
        omega
      unfold Mac.began
      rw [get_put (by omega) (by omega) h0]
      split
      · rfl
      · unfold Mac.get Mac.tick Mac.grow Mac.new
        simp only [List.nil_append, List.getD_eq_getElem?_getD, List.getElem?_replicate]
        split <;> rfl
    have hT : ((Mac.new size 4).began 4 l0).T = 0 := by unfold Mac.T; rw [hget 0 (by omega) (by omega), if_neg (by omega)]
    have hB : ((Mac.new size 4).began 4 l0).B = 0 := by unfold Mac.B; rw [hget 1 (by omega) (by omega), if_neg (by omega)]
    refine ⟨⟨⟨⟨by show 1 ≤ size; omega, by show size ≤ 1048576; omega⟩, ?_⟩, rfl, hs16.2, by unfold Mac.began Mac.put Mac.tick Mac.grow Mac.new; simp, by rw [hget 2 (by omega) (by omega), if_pos rfl], hr, Int.le_refl _, ?_, hlg.2.1, hlg.2.2, by omega, by omega, by omega, by omega, by omega⟩, ?_⟩
    · show ((Mac.new size 4).began 4 l0).len ≤ size
      omega
    · rw [hlen]; show (3 : Int) + _ ≤ _; omega
    · kernel_rfl
  obtain ⟨G0, hst0⟩ := G0
  have h : St w w22 [blk ge (ints [0, most]), rmac gc (((Mac.new size 4).began 4 l0).cells, size, 2), blk gd (ints [0, most]), mach gm ((Mac.new size 4).began 4 l0), blk ga (ints [l0, most])] := h
  generalize (Mac.new size 4).began 4 l0 = M0 at *
  refine joinP_i (fun b w' => b = false ∧ w' = w22) (fun J hJ => ?_) ?_
  · refine iteB_f rfl (ldI_h (g := gd) (o := 0) (n := 0) h rfl (ldI_h (g := ge) (o := 0) (n := 0) h rfl (iteB_f rfl ?_)))
    exact ldI_h (g := gd) (o := 1) (n := most) h rfl (ldI_h (g := ge) (o := 1) (n := most) h rfl (hJ _ _ ⟨by simp, rfl⟩))
  rintro b w29 ⟨rfl, rfl⟩
  refine iteB_f rfl (iteB_f rfl ?_)
  refine mkSl_h (n := 4) h (elQ (by kernel_rfl)) rfl (by omega) (by omega) fun s32 w33 h n32 => ?_
  refine mkSl_h (n := 4) h (elQ (by kernel_rfl)) rfl (by omega) (by omega) fun s34 w35 h n34 => ?_
  have h : St w w35 [slc 1 s34 ((List.replicate 4 none : Wps).map rV), slc 1 s32 ((List.replicate 4 none : Wps).map pV), blk ge (ints [0, most]), rmac gc (M0.cells, size, 2), blk gd (ints [0, most]), mach gm M0, blk ga (ints [l0, most])] := h
  have h : St w w35 [blk ga (ints [l0, most]), mach gm M0, rmac gc (M0.cells, size, 2), blk gd (ints [0, most]), blk ge (ints [0, most]), slc 1 s32 ((List.replicate 4 none : Wps).map pV), slc 1 s34 ((List.replicate 4 none : Wps).map rV)] := h.perm (by repeat' (first | exact List.Perm.refl _ | refine perm_f 0 rfl ?_ | refine perm_f 1 rfl ?_ | refine perm_f 2 rfl ?_ | refine perm_f 3 rfl ?_ | refine perm_f 4 rfl ?_ | refine perm_f 5 rfl ?_ | refine perm_f 6 rfl ?_ | refine perm_f 7 rfl ?_))
  have h : St w w35 (smem gm gc gd ge s32 s34 size most M0 2 (List.replicate 4 none) []) := h.drop
  have h : St w w35 (smem gm gc gd ge s32 s34 size most M0 2 (List.replicate 4 none) ((List.replicate 4 none : Wps).map wP)) := by
    have h2 : St w w35 (sepHP [] :: sepHP [] :: sepHP [] :: sepHP [] :: smem gm gc gd ge s32 s34 size most M0 2 (List.replicate 4 none) []) := St.shut (A := []) (St.shut (A := []) (St.shut (A := []) (St.shut (A := []) h)))
    exact h2.perm (List.perm_append_comm (l₁ := [sepHP [], sepHP [], sepHP [], sepHP []]) (l₂ := smem gm gc gd ge s32 s34 size most M0 2 (List.replicate 4 none) []))
  have S0 : Stp size most (0 : Nat) M0 ⟨3, l0⟩ (List.replicate 4 none) 2 := by
    have hf : ∀ (k : Nat), (List.replicate 4 none : Wps).getD k none = none := fun k => by
      rw [List.getD_eq_getElem?_getD, List.getElem?_replicate]; split <;> rfl
    refine ⟨rfl, G0, fun g gr O hq => ?_, fun i g gr O _ _ hq => ?_, ⟨0, 0, 0, 0, 2, hst0, by omega, by omega, by omega, by omega, by omega, by omega, by omega⟩⟩
    · rw [hf] at hq; cases hq
    · rw [hf] at hq; cases hq
  refine loopP_of (fun (x : Int) w' => ∃ (j : Nat) (M : Mac) (R : Rg) (ops : Wps) (did : Int), x = j ∧ j ≤ es.length ∧ Stp size most j M R ops did ∧ St w w' (smem gm gc gd ge s32 s34 size most M did ops (ops.map wP))) (fun x _ => ((es.length : Int) - x).toNat) ⟨0, M0, _, _, 2, rfl, by omega, S0, h⟩ ?_
  rintro _ w38 ⟨j, M, R, ops, did, rfl, hj, hS, h⟩ C hCC
  refine iteB_i (fun hb2 => ?_) fun _ => awake_s h hk
  have hjl : j < es.length := by have := of_decide_eq_true hb2; omega
  have hlo4 := hS.lo
  obtain ⟨hx3, hxI⟩ := h3 es[j] (List.getElem_mem hjl)
  have hex : (es.map ints)[((j : Int)).toNat]? = some (ints es[j]) := by rw [List.getElem?_map, Int.toNat_natCast, List.getElem?_eq_getElem hjl]; rfl
  generalize es[j] = x at *
  match x, hx3, hxI, hex with
  | [xa, xd, xx], _, hxI, hex =>
  have hwj : IntKind.wrap .i64 ((j : Int) + 1) = ((j + 1 : Nat) : Int) := by rw [wrap_id ⟨by omega, by omega⟩]; omega
  refine ixR_h (e := ints [xa, xd, xx]) hR h (by omega) hex fun p hp => ldA_c (e := ints [xa, xd, xx]) rfl (fun j v => hp h) ?_
  refine who10_s h fun i w42 hi h => ?_
  obtain ⟨oi, hoi⟩ : ∃ oi, ops.getD i none = oi := ⟨_, rfl⟩
  have hpv : ∀ {ops : Wps} {x}, ops.length = 4 → ops.getD i none = x → (ops.map pV)[(i : Int).toNat]? = some (pV x) := fun hl h => by rw [Int.toNat_natCast]; exact pV_at h (by omega)
  have hrv : ∀ {ops : Wps} {x}, ops.length = 4 → ops.getD i none = x → (ops.map rV)[(i : Int).toNat]? = some (rV x) := fun hl h => by rw [Int.toNat_natCast]; exact rV_at h (by omega)
  have h2x : ∀ g gr O, oi = some (g, gr, O) → O.live = true → O.how = 2 → 15 ≤ O.next := by
    intro g gr O q hl q2
    rw [q] at hoi
    by_cases z : i = 0
    · subst z; have := (hS.own g gr O hoi hl).how; omega
    · exact (hS.thf i g gr O (by omega) hi hoi hl).n0
  -- is one begun?
  obtain ⟨po, hpo⟩ : ∃ po, rV oi = .pointer po := by cases oi <;> exact ⟨_, rfl⟩
  refine ixPk (p := po) h (by omega) (by rw [hrv hlo4 hoi, hpo]) fun q hq => ldP_i (hq h) ?_
  refine joinP_i (fun b w' => w' = w42 ∧ (b = false → ∃ g gr O, oi = some (g, gr, O) ∧ O.live = true)) (fun J hJ => ?_) ?_
  · cases oi with
    | none =>
      cases hpo
      exact iteB_f rfl (hJ _ _ ⟨rfl, fun z => by cases z⟩)
    | some p =>
      obtain ⟨g, gr, O⟩ := p
      cases hpo
      have hro := wps_out (A := smem gm gc gd ge s32 s34 size most M did ops []) h (by omega) hoi
      have hro : St w w42 (ropP gr O :: opP g O :: (smem gm gc gd ge s32 s34 size most M did ops [] ++ (ops.map wP).eraseIdx i)) := hro.swap
      have hx2 := h2x g gr O rfl
      have rd : ∀ {c : Int → Prop}, c O.how → ldI .i64 w42 (Addr.add ⟨gr, 0, none⟩ 13) c := fun hc => rd_how hro hx2 hc
      have pt : ∀ {c : Option Addr → Prop}, c (some ⟨gr, 0, none⟩) → ixS s34 (i : Int) 1 fun a => ldP w42 a c := fun hc => ixPk (p := some ⟨gr, 0, none⟩) h (by omega) (hrv hlo4 hoi) fun q hq => ldP_i (hq h) hc
      have liv : O.how = 0 ∨ O.how = 2 → ∃ g' gr' O', some (g, gr, O) = some (g', gr', O') ∧ O'.live = true := fun z => ⟨g, gr, O, rfl, live2 z⟩
      refine iteB_t rfl (pt (nn_i (rd (iteB_i (fun z => ?_) fun z => ?_))))
      · have z : ¬ O.how = 0 := by simpa using z
        refine pt (nn_i (rd (iteB_i (fun z2 => ?_) fun z2 => ?_)))
        · exact hJ _ _ ⟨rfl, fun q => by cases q⟩
        · have z2 : O.how = 2 := by simpa using z2
          refine pt (nn_i (rd (iteB_t (by rw [z2]; rfl) ?_)))
          refine ixR_h (e := ints [xa, xd, xx]) hR h (by omega) hex fun p hp => ldI_i (n := xd) (hp h rfl) (hJ _ _ ⟨rfl, fun _ => liv (.inr z2)⟩)
      · have z : O.how = 0 := by simpa using z
        refine pt (nn_i (rd (iteB_f (by rw [z]; rfl) (hJ _ _ ⟨rfl, fun _ => liv (.inl z)⟩))))
  rintro b66 w67 ⟨rfl, hlive⟩
  refine joinP_i (fun (_ : Unit) w' => ∃ g gr O ops', ops'.length = 4 ∧ ops'.getD i none = some (g, gr, O) ∧ (∀ x, ops'.set i x = ops.set i x) ∧ (i = 0 → WO most j M R O) ∧ (1 ≤ i → WT most M O) ∧ St w w' (opP g O :: ropP gr O :: smem gm gc gd ge s32 s34 size most M did ops' ((ops'.map wP).eraseIdx i))) (fun J hJ => ?_) ?_
  · refine iteB_i (fun hb => ?_) fun hb => ?_
    · have h : St w w67 (smem gm gc gd ge s32 s34 size most M did ops ((ops.map wP).eraseIdx i)) := wps_drop (A := smem gm gc gd ge s32 s34 size most M did ops []) h (by omega)
      have hno : ∀ (g gr : Nat) (O : Dop) (w' : World), (i = 0 → WO most j M R O) → (1 ≤ i → WT most M O) → St w w' (ropP gr O :: opP g O :: mach gm M :: rmac gc (M.cells, size, did) :: blk gd (ints [0, most]) :: blk ge (ints [0, most]) :: slc 1 s32 ((ops.map pV).set i (.pointer (some ⟨g, 0, none⟩))) :: slc 1 s34 ((ops.map rV).set i (.pointer (some ⟨gr, 0, none⟩))) :: (ops.map wP).eraseIdx i) → J () w' := by
        intro g gr O w' a0 a1 h
        refine hJ _ _ ⟨g, gr, O, ops.set i (some (g, gr, O)), by simp [hlo4], by rw [getDs (by omega), if_pos rfl], fun x => by rw [List.set_set], a0, a1, ?_⟩
        have e1 : ((ops.set i (some (g, gr, O))).map wP).eraseIdx i = (ops.map wP).eraseIdx i := by
          rw [List.map_set]
          have : ∀ {l : List HP} {i : Nat} {y : HP}, (l.set i y).eraseIdx i = l.eraseIdx i := by
            intro l
            induction l with
            | nil => intro i y; rfl
            | cons z l ih =>
              intro i y
              cases i with
              | zero => rfl
              | succ i => simp [ih]
          exact this
        unfold smem
        rw [e1, List.map_set, List.map_set]
        exact h.swap
      have hlp : (ops.map pV).length = 4 := by simp [hlo4]
      have hlr : (ops.map rV).length = 4 := by simp [hlo4]
      have tI : (i : Int).toNat = i := Int.toNat_natCast i
      have hgt := hS.glo.n1
      have wtb : WT most M (Dop.beg most 0 15) := by
        constructor <;> (try unfold Dop.beg) <;> dsimp only <;> intros <;> (first | omega | rfl)
      refine iteB_i (fun hi0 => ?_) fun hi0 => ?_
      · have hi0 := of_decide_eq_true hi0
        refine ldW_h (g := gd) h rfl (steal_s (most := most) h fun g w71 h => ?_)
        refine ixVs (s := s32) (vs := ops.map pV) (v := .pointer (some ⟨g, 0, none⟩)) h (by omega) (by omega) rfl fun w73 h => ldW_h (g := ge) h rfl ?_
        refine rbeg_s (most := most) (n := 15) (.inr (.inr ⟨rfl, rfl, rfl⟩)) h fun gr w76 h => ?_
        refine ixVs (s := s34) (vs := ops.map rV) (v := .pointer (some ⟨gr, 0, none⟩)) h (by omega) (by omega) rfl fun w78 h => ?_
        rw [tI] at h
        exact hno g gr _ w78 (fun z => by omega) (fun _ => wtb) h
      · have hi0 := of_decide_eq_false hi0
        have hi0 : i = 0 := by omega
        refine ixR_h (e := ints [xa, xd, xx]) hR h (by omega) hex fun p hp => ldI_i (n := xd) (hp h rfl) ?_
        have wob : ∀ x n, (n = 0 ∨ n = 8) → WO most j M R (Dop.beg most x n) := by
          intro x n hn
          constructor <;> (try unfold Dop.beg) <;> dsimp only <;> intros <;> (first | omega | rfl)
        refine iteB_i (fun _ => ?_) fun _ => ?_
        · refine drew_h h fun w81 h => ldW_h (g := gd) h rfl (ixR_h (e := ints [xa, xd, xx]) hR h (by omega) hex fun p hp => ldI_i (n := xx) (hp h rfl) ?_)
          refine push_s (most := most) h fun g w86 h => ?_
          refine ixVs (s := s32) (vs := ops.map pV) (v := .pointer (some ⟨g, 0, none⟩)) h (by omega) (by omega) rfl fun w88 h => drew_h h fun w89 h => ldW_h (g := ge) h rfl ?_
          refine ixR_h (e := ints [xa, xd, xx]) hR h (by omega) hex fun p hp => ldI_i (n := xx) (hp h rfl) ?_
          refine rbeg_s (most := most) (n := 0) (.inl ⟨rfl, rfl⟩) h fun gr w94 h => ?_
          refine ixVs (s := s34) (vs := ops.map rV) (v := .pointer (some ⟨gr, 0, none⟩)) h (by omega) (by omega) rfl fun w96 h => ?_
          rw [tI] at h
          exact hno g gr _ w96 (fun _ => wob xx 0 (.inl rfl)) (fun z => by omega) h
        · refine ldW_h (g := gd) h rfl (pop_s (most := most) h fun g w99 h => ?_)
          refine ixVs (s := s32) (vs := ops.map pV) (v := .pointer (some ⟨g, 0, none⟩)) h (by omega) (by omega) rfl fun w101 h => ldW_h (g := ge) h rfl ?_
          refine rbeg_s (most := most) (n := 8) (.inr (.inl ⟨rfl, rfl, rfl⟩)) h fun gr w104 h => ?_
          refine ixVs (s := s34) (vs := ops.map rV) (v := .pointer (some ⟨gr, 0, none⟩)) h (by omega) (by omega) rfl fun w106 h => ?_
          rw [tI] at h
          exact hno g gr _ w106 (fun _ => wob 0 8 (.inr rfl)) (fun z => by omega) h
    · obtain ⟨g, gr, O, e, hl⟩ := hlive hb
      rw [e] at hoi
      exact hJ _ _ ⟨g, gr, O, ops, hlo4, hoi, fun _ => rfl, fun z => by subst z; exact hS.own g gr O hoi hl, fun z => hS.thf i g gr O z hi hoi hl, wps_out (A := smem gm gc gd ge s32 s34 size most M did ops []) h (by omega) hoi⟩
  clear h
  rintro _ w108 ⟨g, gr, O, ops', hl4, ho, hset, hO0, hO1, h⟩
  refine ixR_h (e := ints [xa, xd, xx]) hR h (by omega) hex fun p hp => ldI_i (n := xd) (hp h rfl) ?_
  refine joinP_i (fun (y : Int) w' => (y = i ∨ y = -1) ∧ w' = w108) (fun J hJ => iteB_i (fun _ => hJ _ _ ⟨.inr rfl, rfl⟩) fun _ => hJ _ _ ⟨.inl rfl, rfl⟩) ?_
  rintro bya w113 ⟨hby, rfl⟩
  have hfine : O.Fine := by
    by_cases z : i = 0
    · exact wo_fine hS.glo (hO0 z)
    · exact wt_fine (hO1 (by omega))
  refine ixPk (p := some ⟨g, 0, none⟩) h (by omega) (hpv hl4 ho) fun q hq => ldP_i (hq h) ?_
  have h : St w w113 (opP g O :: mach gm M :: ropP gr O :: rmac gc (M.cells, size, did) :: blk gd (ints [0, most]) :: blk ge (ints [0, most]) :: slc 1 s32 (ops'.map pV) :: slc 1 s34 (ops'.map rV) :: (ops'.map wP).eraseIdx i) := h.perm (List.Perm.cons _ (List.Perm.swap _ _ _))
  refine step_r h hfine hS.glo.ok fun w117 h => ?_
  have h : St w w117 (ropP gr O :: rmac gc (M.cells, size, did) :: opP g (O.step M bya).1 :: mach gm (O.step M bya).2 :: blk gd (ints [0, most]) :: blk ge (ints [0, most]) :: slc 1 s32 (ops'.map pV) :: slc 1 s34 (ops'.map rV) :: (ops'.map wP).eraseIdx i) := h.perm (by repeat' (first | exact List.Perm.refl _ | refine perm_f 0 rfl ?_ | refine perm_f 1 rfl ?_ | refine perm_f 2 rfl ?_ | refine perm_f 3 rfl ?_ | refine perm_f 4 rfl ?_ | refine perm_f 5 rfl ?_ | refine perm_f 6 rfl ?_ | refine perm_f 7 rfl ?_))
  refine ixPk (p := some ⟨gr, 0, none⟩) h (by omega) (hrv hl4 ho) fun q hq => ldP_i (hq h) ?_
  obtain ⟨R', hS', hsim, h2n⟩ := hS.go (g := g) (gr := gr) (by omega) hi hO0 hO1 hby h
  generalize (O.step M bya).1 = O' at *
  generalize (O.step M bya).2 = M' at *
  refine hsim _ fun w120 h => ?_
  rw [← hset] at hS'
  generalize hdd : didN O' did = did' at *
  have hso : (ops'.set i (some (g, gr, O'))).getD i none = some (g, gr, O') := by rw [getDs (by omega), if_pos rfl]
  have hrdp : ∀ {w' : World} {L' : List HP}, St w w' (ropP gr O' :: L') → ∀ {c : Int → Prop}, c O'.how → ldI .i64 w' (Addr.add ⟨gr, 0, none⟩ 13) c := fun h c hc => rd_how h h2n hc
  -- both stand alike
  refine joinP_i (fun b w' => b = false ∧ St w w' (ropP gr O' :: rmac gc (M'.cells, size, did') :: opP g O' :: mach gm M' :: blk gd (ints [0, most]) :: blk ge (ints [0, most]) :: slc 1 s32 (ops'.map pV) :: slc 1 s34 (ops'.map rV) :: (ops'.map wP).eraseIdx i)) (fun J hJ => ?_) ?_
  · refine drew_h h fun w122 h => ?_
    have p34 : ∀ {c : Option Addr → Prop}, c (some ⟨gr, 0, none⟩) → ixS s34 (i : Int) 1 fun a => ldP w122 a c := fun hc => ixPk (p := some ⟨gr, 0, none⟩) h (by omega) (hrv hl4 ho) fun q hq => ldP_i (hq h) hc
    have p32 : ∀ {c : Option Addr → Prop}, c (some ⟨g, 0, none⟩) → ixS s32 (i : Int) 1 fun a => ldP w122 a c := fun hc => ixPk (p := some ⟨g, 0, none⟩) h (by omega) (hpv hl4 ho) fun q hq => ldP_i (hq h) hc
    refine p34 (nn_i (hrdp h (iteB_f (by simp) (p32 ?_))))
    refine ixPk (p := some ⟨gr, 0, none⟩) h (by omega) (hrv hl4 ho) fun q hq => ldP_i (hq h) ?_
    refine got_s (go := g) (O := O') h (samec_1 (hq h) (hq h) ?_)
    refine rd_got h h2n (iteB_f (by simp) (p32 ?_))
    refine ixPk (p := some ⟨gr, 0, none⟩) h (by omega) (hrv hl4 ho) fun q hq => ldP_i (hq h) (nn_i ?_)
    refine ldI_i (n := O'.err) (rd_err h h2n) ?_
    refine err_s (go := g) (O := O') h ?_
    exact samec_1 (rd_err h h2n) (rd_err h h2n) (samec_1 (hq h) (hq h) (hJ _ _ ⟨by simp, h⟩))
  clear h
  rintro b143 w144 ⟨rfl, h⟩
  refine iteB_f rfl ?_
  have h : St w w144 (rmac gc (M'.cells, size, did') :: ropP gr O' :: opP g O' :: mach gm M' :: blk gd (ints [0, most]) :: blk ge (ints [0, most]) :: slc 1 s32 (ops'.map pV) :: slc 1 s34 (ops'.map rV) :: (ops'.map wP).eraseIdx i) := h.swap
  obtain ⟨sc, h⟩ := rmac_open h
  have hscn : sc.n = M'.cells.length := by have := h.slen (sz := 1) (s := sc) (vs := ints M'.cells); simp at this; omega
  obtain ⟨a0, a1, a2, a3, a4, hst, p1, p2, p3, p4, p5, hsum, hdj⟩ := hS'.steps
  have hG := hS'.glo
  have hlM := hG.lenM
  have hxl : M'.len = M'.cells.length := rfl
  -- all else, too
  refine joinP_i (fun b w' => b = false ∧ St w w' (rmO gc sc M'.cells size did' (ropP gr O' :: opP g O' :: mach gm M' :: blk gd (ints [0, most]) :: blk ge (ints [0, most]) :: slc 1 s32 (ops'.map pV) :: slc 1 s34 (ops'.map rV) :: (ops'.map wP).eraseIdx i))) (fun J hJ => ?_) ?_
  · refine drew_h h fun w146 h => ldSs (s := sc) (g := gc) (o := 0) h rfl ?_
    refine used_s (g := gm) (M := M') h (samec_self (iteB_f (by rw [hscn]; simp) ?_))
    refine ldI_h (g := gc) (o := 2) (n := did') h rfl ?_
    have clr : ∀ n : Int, 0 ≤ n → n < 5 → M'.caller n = true := fun n h0 hn => caller_of (nw := 5) hG.st (by omega) (by omega)
    refine steps_s (g := gm) (M := M') h (samec_self ?_)
    rw [if_pos (clr 0 (by omega) (by omega))]
    refine steps_s (g := gm) (M := M') h (samec_self ?_)
    rw [if_pos (clr 1 (by omega) (by omega))]
    refine steps_s (g := gm) (M := M') h (samec_self ?_)
    rw [if_pos (clr 2 (by omega) (by omega))]
    refine steps_s (g := gm) (M := M') h (samec_self ?_)
    rw [if_pos (clr 3 (by omega) (by omega))]
    refine steps_s (g := gm) (M := M') h (samec_self ?_)
    rw [if_pos (clr 4 (by omega) (by omega)), hst]
    have wi : ∀ x : Int, 0 ≤ x → x ≤ 2000 → IntKind.wrap .i64 x = x := fun x h0 h1 => wrap_id ⟨by omega, by omega⟩
    have e1 : IntKind.wrap .i64 (IntKind.wrap .i64 (IntKind.wrap .i64 (IntKind.wrap .i64 (a0 + a1) + a2) + a3) + a4) = did' := by
      rw [wi (a0 + a1) (by omega) (by omega), wi (a0 + a1 + a2) (by omega) (by omega), wi (a0 + a1 + a2 + a3) (by omega) (by omega), wi (a0 + a1 + a2 + a3 + a4) (by omega) (by omega)]
      exact hsum
    refine iteB_f ?_ ?_
    · have e2 : IntKind.wrap .i64 (IntKind.wrap .i64 (IntKind.wrap .i64 (IntKind.wrap .i64 ([a0, a1, a2, a3, a4].getD (Int.toNat 0) 0 + [a0, a1, a2, a3, a4].getD (Int.toNat 1) 0) + [a0, a1, a2, a3, a4].getD (Int.toNat 2) 0) + [a0, a1, a2, a3, a4].getD (Int.toNat 3) 0) + [a0, a1, a2, a3, a4].getD (Int.toNat 4) 0) = did' := e1
      rw [e2]; simp
    refine ldW_h (g := gd) h rfl (ldW_h (g := ge) h rfl ?_)
    have h160 := h
    have h : St w w146 (mach gm M' :: rmO gc sc M'.cells size did' (ropP gr O' :: opP g O' :: blk gd (ints [0, most]) :: blk ge (ints [0, most]) :: slc 1 s32 (ops'.map pV) :: slc 1 s34 (ops'.map rV) :: (ops'.map wP).eraseIdx i)) := h.perm (by repeat' (first | exact List.Perm.refl _ | refine perm_f 0 rfl ?_ | refine perm_f 1 rfl ?_ | refine perm_f 2 rfl ?_ | refine perm_f 3 rfl ?_ | refine perm_f 4 rfl ?_ | refine perm_f 5 rfl ?_ | refine perm_f 6 rfl ?_ | refine perm_f 7 rfl ?_))
    have t0 := hG.t0; have tn := hG.tn; have bn := hG.bn; have hN := hG.n1
    have hlen3 := hG.len3
    have hp0 : M'.peek 0 = M'.T := by unfold Mac.peek; rw [if_pos (show M'.given 0 = true from decide_eq_true ⟨by omega, by omega⟩)]
    have hp1' : M'.peek 1 = M'.B := by unfold Mac.peek; rw [if_pos (show M'.given 1 = true from decide_eq_true ⟨by omega, by omega⟩)]
    refine list_s (most := most) (M := M') h (by rw [hp0]; exact ⟨by omega, by omega⟩) (by rw [hp1']; exact ⟨by omega, by omega⟩) fun s163 w164 h => ?_
    refine samec_h (g := ge) h160 h ?_
    rw [list_w hG] at h
    have h : St w w164 (rmO gc sc M'.cells size did' (slc 1 s163 (ints (M'.vals R' M'.T (M'.B - M'.T).toNat)) :: mach gm M' :: ropP gr O' :: opP g O' :: blk gd (ints [0, most]) :: blk ge (ints [0, most]) :: slc 1 s32 (ops'.map pV) :: slc 1 s34 (ops'.map rV) :: (ops'.map wP).eraseIdx i)) := h.perm (by repeat' (first | exact List.Perm.refl _ | refine perm_f 0 rfl ?_ | refine perm_f 1 rfl ?_ | refine perm_f 2 rfl ?_ | refine perm_f 3 rfl ?_ | refine perm_f 4 rfl ?_ | refine perm_f 5 rfl ?_ | refine perm_f 6 rfl ?_ | refine perm_f 7 rfl ?_))
    refine rlist_s (M := M') (R := R') hG h fun s165 w166 h => ?_
    generalize hvv : M'.vals R' M'.T (M'.B - M'.T).toNat = vv at *
    have hvl : vv.length = (M'.B - M'.T).toNat := by rw [← hvv]; unfold Mac.vals; simp
    have ha : OwnS 1 w166 s163 (ints vv) := h.own
    have hb2 : OwnS 1 w166 s165 (ints vv) := h.own
    have hl1 : vv.length = s163.n := by have := h.slen (sz := 1) (s := s163) (vs := ints vv); simpa using this
    refine same_r ha.sls hb2.sls (by omega) fun w168 hS2 => hJ _ _ ⟨by simp, ?_⟩
    have h := h.on hS2.ext
    have h : St w w168 (slc 1 s163 (ints vv) :: rmO gc sc M'.cells size did' (mach gm M' :: ropP gr O' :: opP g O' :: blk gd (ints [0, most]) :: blk ge (ints [0, most]) :: slc 1 s32 (ops'.map pV) :: slc 1 s34 (ops'.map rV) :: (ops'.map wP).eraseIdx i)) := h.drop.perm (by repeat' (first | exact List.Perm.refl _ | refine perm_f 0 rfl ?_ | refine perm_f 1 rfl ?_ | refine perm_f 2 rfl ?_ | refine perm_f 3 rfl ?_ | refine perm_f 4 rfl ?_ | refine perm_f 5 rfl ?_ | refine perm_f 6 rfl ?_ | refine perm_f 7 rfl ?_))
    exact h.drop.perm (by repeat' (first | exact List.Perm.refl _ | refine perm_f 0 rfl ?_ | refine perm_f 1 rfl ?_ | refine perm_f 2 rfl ?_ | refine perm_f 3 rfl ?_ | refine perm_f 4 rfl ?_ | refine perm_f 5 rfl ?_ | refine perm_f 6 rfl ?_ | refine perm_f 7 rfl ?_))
  clear h
  rintro b169 w170 ⟨rfl, h⟩
  refine iteB_f rfl ?_
  refine loopP_of (fun (y : Int) w' => ∃ n : Nat, y = n ∧ St w w' (rmO gc sc M'.cells size did' (ropP gr O' :: opP g O' :: mach gm M' :: blk gd (ints [0, most]) :: blk ge (ints [0, most]) :: slc 1 s32 (ops'.map pV) :: slc 1 s34 (ops'.map rV) :: (ops'.map wP).eraseIdx i))) (fun y _ => ((M'.cells.length : Int) - y).toNat) ⟨0, rfl, h⟩ ?_
  clear h
  rintro _ w173 ⟨n, rfl, h⟩ C2 hC2
  refine ldSs (s := sc) (g := gc) (o := 0) h rfl (iteB_i (fun z => ?_) fun _ => ?_)
  · have z := of_decide_eq_true z
    refine drew_h h fun w175 h => ldSs (s := sc) (g := gc) (o := 0) h rfl ?_
    refine ixK_h (s := sc) (xs := M'.cells) h (by omega) (by omega) fun p hp => ldI_i (hp h) (peek_r (gm := gm) (M := M') h (samec_1 (hp h) (hp h) (samec_self (iteB_f ?_ ?_))))
    · unfold Mac.peek
      rw [if_pos (show M'.given n = true from decide_eq_true ⟨by omega, by omega⟩)]
      unfold Mac.get
      simp
    · have hwn : IntKind.wrap .i64 ((n : Int) + 1) = ((n + 1 : Nat) : Int) := by rw [wrap_id ⟨by omega, by omega⟩]; omega
      rw [hwn]
      exact hC2 _ _ ⟨n + 1, rfl, h⟩ (by omega)
  · rw [hwj]
    refine hCC _ _ ⟨j + 1, M', R', ops'.set i (some (g, gr, O')), did', rfl, by omega, by rw [show ((j + 1 : Nat) : Int) = (j : Int) + 1 by omega]; exact hS', ?_⟩ (by omega)
    have h := rmac_shut h
    have h : St w w173 (opP g O' :: ropP gr O' :: smem gm gc gd ge s32 s34 size most M' did' ops' ((ops'.map wP).eraseIdx i)) := h.perm (by repeat' (first | exact List.Perm.refl _ | refine perm_f 0 rfl ?_ | refine perm_f 1 rfl ?_ | refine perm_f 2 rfl ?_ | refine perm_f 3 rfl ?_ | refine perm_f 4 rfl ?_ | refine perm_f 5 rfl ?_ | refine perm_f 6 rfl ?_ | refine perm_f 7 rfl ?_))
    have h := wps_in (A := smem gm gc gd ge s32 s34 size most M' did' ops' []) h (by omega)
    have e1 : (ops'.set i (some (g, gr, O'))).map pV = ops'.map pV := by
      rw [List.map_set]
      refine List.ext_getElem? fun k => ?_
      rw [List.getElem?_set]
      split
      · rename_i e; subst e; rw [pV_at ho (by omega)]; simp [hl4, hi]; rfl
      · rfl
    have e2 : (ops'.set i (some (g, gr, O'))).map rV = ops'.map rV := by
      rw [List.map_set]
      refine List.ext_getElem? fun k => ?_
      rw [List.getElem?_set]
      split
      · rename_i e; subst e; rw [rV_at ho (by omega)]; simp [hl4, hi]; rfl
      · rfl
    unfold smem
    rw [e1, e2]
    exact h
end
end Go.Proofs.Ytheallacpidcmaa
