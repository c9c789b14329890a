/-
  A clock: its ticks, and its deadlines in order; what each call does.
-/
import Derived.Test.YtheallacpidcmaaKd
set_option linter.unusedSimpArgs false
set_option linter.unusedVariables false
set_option maxRecDepth 100000
namespace Go.Proofs.Ytheallacpidcmaa
open Go Go.Ev Go.Proofs

abbrev MT : Int := 1099511627776
def sw (x : Int × Int) : Int × Int := (x.2, x.1)
def has (S : DL) (id : Int) : Bool := S.any fun x => x.2 == id
theorem has_iff {S : DL} {id : Int} : has S id = true ↔ ∃ x ∈ S, x.2 = id := by unfold has; rw [List.any_eq_true]; simp
/-- what a clock's ticks and deadlines are like -/
structure CK (x : Int × DL) : Prop where
  lo : 0 ≤ x.1
  hi : x.1 ≤ MT
  ids : ∀ y ∈ x.2, 0 ≤ y.2
  due : ∀ y ∈ x.2, x.1 < y.1 ∧ y.1 ≤ MT + MT
  srt : Srt x.2
  one : (x.2.map (·.2)).Nodup
def setF (x : Int × DL) (id n : Int) : Int × DL :=
  if id < 0 ∨ n < 1 ∨ n > MT then (10, x.2) else if has x.2 id = true then (18, x.2) else (0, ins (x.1 + n, id) x.2)
def dropL (S : DL) (id : Int) : DL := S.filter fun y => decide (y.2 ≠ id)
def cameL (S : DL) (t : Int) : DL := S.filter fun y => decide (y.1 ≤ t)
def leftL (S : DL) (t : Int) : DL := S.filter fun y => decide (¬ y.1 ≤ t)
def advOK (now n : Int) : Bool := decide (0 ≤ n ∧ n ≤ MT - now)
def ids (S : DL) : List Int := S.map (·.2)

theorem CK.new : CK (0, []) := ⟨by simp, by simp, by simp, by simp, List.Pairwise.nil, by simp⟩
theorem mem_ins {x y : Int × Int} {S : DL} : y ∈ ins x S ↔ y = x ∨ y ∈ S := by
  rw [(ins_perm x S).mem_iff, List.mem_cons]
theorem has_none {S : DL} {id : Int} (h : ¬ has S id = true) : ∀ y ∈ S, y.2 ≠ id := fun y hy q => h (has_iff.2 ⟨y, hy, q⟩)
theorem CK.set {x : Int × DL} (h : CK x) (id n : Int) : CK (x.1, (setF x id n).2) := by
  unfold setF
  split
  · exact h
  · rename_i h1
    split
    · exact h
    · rename_i h2
      have h3 := has_none h2
      have hlo := h.lo; have hhi := h.hi
      refine ⟨h.lo, h.hi, fun y hy => ?_, fun y hy => ?_, ins_srt h.srt fun q => h3 _ q rfl, ?_⟩
      · rcases mem_ins.1 hy with rfl | hy
        · dsimp only; omega
        · exact h.ids y hy
      · rcases mem_ins.1 hy with rfl | hy
        · unfold MT at *; dsimp only at *; omega
        · exact h.due y hy
      · refine (((ins_perm (x.1 + n, id) x.2).map (·.2)).nodup_iff).2 ?_
        rw [List.map_cons, List.nodup_cons]
        refine ⟨fun q => ?_, h.one⟩
        obtain ⟨y, hy, e⟩ := List.mem_map.1 q
        exact h3 y hy e
theorem nodup_filter {S : DL} (h : (S.map (·.2)).Nodup) (p : Int × Int → Bool) : ((S.filter p).map (·.2)).Nodup :=
  h.sublist (List.filter_sublist.map _)
theorem CK.drop {x : Int × DL} (h : CK x) (id : Int) : CK (x.1, dropL x.2 id) := by
  unfold dropL
  exact ⟨h.lo, h.hi, fun y hy => h.ids y (List.mem_filter.1 hy).1, fun y hy => h.due y (List.mem_filter.1 hy).1, srt_filter h.srt _, nodup_filter h.one _⟩
theorem CK.adv {x : Int × DL} (h : CK x) {n : Int} (hn : advOK x.1 n = true) : CK (x.1 + n, leftL x.2 (x.1 + n)) := by
  have hn := of_decide_eq_true hn
  have h1 := h.lo; have h2 := h.hi
  unfold leftL
  refine ⟨by dsimp only; omega, by dsimp only; omega, fun y hy => h.ids y (List.mem_filter.1 hy).1, fun y hy => ?_, srt_filter h.srt _, nodup_filter h.one _⟩
  have := h.due y (List.mem_filter.1 hy).1
  have h3 := (List.mem_filter.1 hy).2
  simp only [decide_eq_true_eq] at h3
  dsimp only
  omega
theorem len_set (x : Int × DL) (id n : Int) : (setF x id n).2.length ≤ x.2.length + 1 := by
  unfold setF
  split
  · simp
  · split
    · simp
    · rw [(ins_perm _ _).length_eq]; simp
theorem len_drop (S : DL) (id : Int) : (dropL S id).length ≤ S.length := List.length_filter_le _ _
theorem len_left (S : DL) (t : Int) : (leftL S t).length ≤ S.length := List.length_filter_le _ _

/-- a clock, at g -/
def clk (g : Nat) (x : Int × DL) : HP := exHP fun q : { q : Sl × Nat × DL × List (Int × Int) // q.2.2.1.Perm x.2 ∧ HH q.2.2.1 q.2.2.1.length ∧ q.2.2.2.Perm (x.2.map sw) } =>
  sepHP [blk g (dcs x.1 q.1.2.1 q.1.1), slc 2 q.1.1 (fl q.1.2.2.1), mp q.1.2.1 q.1.2.2.2]
section
variable {w0 w : World} {L : List HP} {g : Nat} {now : Int} {S : DL} {f : HP → List HP}
theorem clk_open (h : St w0 w (clk g (now, S) :: L)) : ∃ (s : Sl) (gm : Nat) (d : DL) (l : List (Int × Int)), d.Perm S ∧ HH d d.length ∧ l.Perm (S.map sw) ∧ St w0 w (blk g (dcs now gm s) :: slc 2 s (fl d) :: mp gm l :: L) := by
  obtain ⟨⟨⟨s, gm, d, l⟩, h1, h2, h3⟩, h⟩ := h.some
  exact ⟨s, gm, d, l, h1, h2, h3, h.open⟩
theorem clk_shut {s : Sl} {gm : Nat} {d : DL} {l : List (Int × Int)} (h1 : d.Perm S) (h2 : HH d d.length) (h3 : l.Perm (S.map sw)) (h : St w0 w (blk g (dcs now gm s) :: slc 2 s (fl d) :: mp gm l :: L)) : St w0 w (clk g (now, S) :: L) :=
  St.ex (X := fun q : { q : Sl × Nat × DL × List (Int × Int) // q.2.2.1.Perm S ∧ HH q.2.2.1 q.2.2.1.length ∧ q.2.2.2.Perm (S.map sw) } =>
    sepHP [blk g (dcs now q.1.2.1 q.1.1), slc 2 q.1.1 (fl q.1.2.2.1), mp q.1.2.1 q.1.2.2.2]) ⟨(s, gm, d, l), h1, h2, h3⟩ (St.shut h)
theorem mget_some {l : List (Int × Int)} {k v : Int} (h : mget l k = some v) : (k, v) ∈ l := by
  unfold mget at h
  cases hf : l.find? fun x => x.1 == k with
  | none => rw [hf] at h; cases h
  | some y =>
    rw [hf] at h
    simp only [Option.map_some, Option.some.injEq] at h
    have h1 := List.mem_of_find?_eq_some hf
    have h2 := List.find?_some hf
    simp only [beq_iff_eq] at h2
    rw [← h, ← h2]; exact h1
theorem mget_has {l : List (Int × Int)} {k : Int} (hl : l.Perm (S.map sw)) : (mget l k).isSome = has S k := by
  rw [Bool.eq_iff_iff, has_iff]
  unfold mget
  rw [Option.isSome_map, List.find?_isSome]
  constructor
  · rintro ⟨x, hx, e⟩
    obtain ⟨y, hy, rfl⟩ := List.mem_map.1 (hl.subset hx)
    exact ⟨y, hy, by simpa [sw] using e⟩
  · rintro ⟨y, hy, e⟩
    exact ⟨sw y, hl.symm.subset (List.mem_map.2 ⟨y, hy, rfl⟩), by simpa [sw] using e⟩
theorem keys_nodup {l : List (Int × Int)} (hl : l.Perm (S.map sw)) (hS : (S.map (·.2)).Nodup) : (l.map (·.1)).Nodup := by
  refine ((hl.map (·.1)).nodup_iff).2 ?_
  rw [List.map_map]; exact hS
theorem mpT : MpT Go.Proofs.Try.prog 135 3 2 := ⟨by kernel_rfl, by kernel_rfl, by kernel_rfl⟩
theorem unT_ib {n : Int} {b : Bool} {c : KT [.i .i64, .b] → Prop} (h : c (n, b)) : unT [.i .i64, .b] (.tuple #[.int .i64 n, .bool b]) c := h
theorem new_s {c : Option Addr → World → Prop} (h : St w0 w L) (hc : ∀ g w', St w0 w' (clk g (0, []) :: L) → c (some ⟨g, 0, none⟩) w') : clock_New w c := by
  unfold clock_New
  refine mkMap_h h fun gm w1 h => ?_
  refine newC_h h fun g w2 h => hc g w2 ?_
  have h := (h.nilS 2).swap
  exact clk_shut (s := ⟨none, 0, 0⟩) (d := []) (.refl _) (fun k k1 kn => by simp at kn) (.refl _) h
theorem now_s {c : Int → World → Prop} (h : St w0 w L) [a : At L (clk g) (now, S) f] (hc : c now w) : clock_Clock_Now (some ⟨g, 0, none⟩) w c := by
  obtain ⟨R, ho, hs⟩ := a.out
  obtain ⟨s, gm, d, l, h1, h2, h3, h4⟩ := clk_open (ho h)
  unfold clock_Clock_Now
  exact iteB_f rfl (nn_i (ldI_h (g := g) (o := 0) h4 rfl hc))
theorem len_s {c : Int → World → Prop} (h : St w0 w L) [a : At L (clk g) (now, S) f] (hc : c (S.length : Int) w) : clock_Clock_Len (some ⟨g, 0, none⟩) w c := by
  obtain ⟨R, ho, hs⟩ := a.out
  obtain ⟨s, gm, d, l, h1, h2, h3, h4⟩ := clk_open (ho h)
  unfold clock_Clock_Len
  refine iteB_f rfl (nn_i (ldS_h (g := g) (o := 1) h4 rfl ?_))
  have : s.n = S.length := by rw [St.dlen (s := s) (d := d) h4, h1.length_eq]
  dsimp only
  rw [this]; exact hc
/-- a heap's root comes first -/
theorem root_head {d : DL} {x : Int × Int} (h1 : d.Perm (x :: S)) (h2 : HH d d.length) (h3 : Srt (x :: S)) : gd d 0 = x := by
  have hlen : d.length = S.length + 1 := by rw [h1.length_eq]; simp
  have hmem : gd d 0 ∈ d := by
    unfold gd; rw [List.getD_eq_getElem?_getD, List.getElem?_eq_getElem (by omega)]; simp
  rcases List.mem_cons.1 (h1.subset hmem) with e | e
  · exact e
  · have hx : x ∈ d := h1.symm.subset (by simp)
    obtain ⟨m, hm, hmx⟩ := List.getElem_of_mem hx
    have hmg : gd d m = x := by unfold gd; rw [List.getD_eq_getElem?_getD, List.getElem?_eq_getElem hm]; exact hmx
    have := hh_root h2 m hm
    rw [hmg] at this
    exact absurd ((List.pairwise_cons.1 h3).1 _ e) this
def nextF (S : DL) : Int × Int × Bool := match S with | [] => (0, 0, false) | x :: _ => (x.1, x.2, true)
theorem next_s {c : Int × Int × Bool → World → Prop} (hS : Srt S) (h : St w0 w L) [a : At L (clk g) (now, S) f] (hc : ∀ w', St w0 w' (f (clk g (now, S))) → c (nextF S) w') : clock_Clock_Next (some ⟨g, 0, none⟩) w c := by
  obtain ⟨R, ho, hs⟩ := a.out
  obtain ⟨s, gm, d, l, h1, h2, h3, h4⟩ := clk_open (ho h)
  have hn : s.n = S.length := by rw [St.dlen (s := s) (d := d) h4, h1.length_eq]
  unfold clock_Clock_Next
  refine joinP_i (fun b w' => b = decide (S = []) ∧ w' = w) (fun J hJ => ?_) ?_
  · refine iteB_f rfl (nn_i (ldS_h (g := g) (o := 1) h4 rfl (hJ _ _ ⟨?_, rfl⟩)))
    dsimp only
    rw [hn, Bool.eq_iff_iff]
    simp
  · rintro _ w1 ⟨rfl, rfl⟩
    refine iteB_i (fun hb => ?_) fun hb => ?_
    · have hb := of_decide_eq_true hb
      subst hb
      exact hc _ (hs (ho h))
    · have hb := of_decide_eq_false hb
      cases S with
      | nil => exact (hb rfl).elim
      | cons x S =>
        have hg := root_head h1 h2 hS
        have hdl := h1.length_eq
        simp only [List.length_cons] at hdl
        refine drew_h h4 fun w2 h5 => ?_
        refine nn_i (ldS_h (g := g) (o := 1) h5 rfl ?_)
        refine ldE0_h (s := s) (d := d) h5 (by omega) (by omega) ?_
        refine nn_i (ldS_h (g := g) (o := 1) h5 rfl ?_)
        refine ldE1_h (s := s) (d := d) h5 (by omega) (by omega) ?_
        show c ((gd d 0).1, ((gd d 0).2, true)) w2
        rw [hg]
        exact hc w2 (hs (clk_shut h1 h2 h3 h5))
theorem set_s {id n : Int} {c : Int → World → Prop} (hl : S.length ≤ 100000) (hC : CK (now, S)) (h : St w0 w L) [a : At L (clk g) (now, S) f] (hc : ∀ w', St w0 w' (f (clk g (now, (setF (now, S) id n).2))) → c (setF (now, S) id n).1 w') : clock_Clock_Set (some ⟨g, 0, none⟩) id n w c := by
  obtain ⟨R, ho, hs⟩ := a.out
  have h := ho h
  unfold clock_Clock_Set clock_Clock_Set_b
  refine iteB_f rfl (iteB_i (fun hb => ?_) fun hb => ?_)
  · have e : setF (now, S) id n = (10, S) := by
      unfold setF
      rw [if_pos]
      simp only [Bool.or_eq_true, decide_eq_true_eq] at hb
      unfold MT; omega
    rw [e] at hc
    exact hc _ (hs h)
  · have hb : ¬ (id < 0 ∨ n < 1 ∨ n > MT) := by
      simp only [Bool.or_eq_false_iff, decide_eq_false_iff_not] at hb
      unfold MT; omega
    obtain ⟨s, gm, d, l, h1, h2, h3, h4⟩ := clk_open h
    refine nn_i (ldM_h (g := g) (o := 2) h4 rfl ?_)
    refine look_h (g := gm) (l := l) mpT h4 (unT_ib ?_)
    dsimp only
    rw [mget_has h3]
    refine iteB_i (fun hb2 => ?_) fun hb2 => ?_
    · have e : setF (now, S) id n = (18, S) := by unfold setF; rw [if_neg hb, if_pos hb2]
      rw [e] at hc
      exact hc _ (hs (clk_shut h1 h2 h3 h4))
    · have e : setF (now, S) id n = (0, ins (now + n, id) S) := by unfold setF; rw [if_neg hb, if_neg (by simp [hb2])]
      rw [e] at hc
      have hlo := hC.lo; have hhi := hC.hi
      dsimp only at hlo hhi
      have ew : IntKind.wrap .i64 (now + n) = now + n := wrap_id ⟨by unfold MT at *; omega, by unfold MT at *; omega⟩
      refine drew_h h4 fun w1 h4 => ?_
      refine nn_i (ldM_h (g := g) (o := 2) h4 rfl ?_)
      refine nn_i (ldI_h (g := g) (o := 0) h4 rfl ?_)
      have hno : mget l id = none := by
        have := mget_has (k := id) h3
        rw [hb2] at this
        simpa using this
      refine mapPut_h (g := gm) (l := l) mpT h4 hno fun w2 h4 => ?_
      refine drew_h h4 fun w3 h4 => ?_
      refine nn_i (nn_i (ldI_h (g := g) (o := 0) h4 rfl ?_))
      rw [ew] at h4 ⊢
      refine hpush_s (x := (now + n, id)) (d := d) h4 (by rw [h1.length_eq]; omega) h2 fun d' s' w4 hp hh h5 => ?_
      refine hc w4 (hs (clk_shut ?_ hh ?_ h5))
      · exact (hp.trans (List.perm_append_comm (l₁ := d) (l₂ := [(now + n, id)]))).trans ((h1.cons _).trans (ins_perm _ _).symm)
      · refine .trans ?_ ((ins_perm (now + n, id) S).map sw).symm
        exact (List.perm_append_comm (l₁ := l) (l₂ := [(id, now + n)])).trans (h3.cons _)
theorem drop_s {id : Int} {c : Bool → World → Prop} (hl : S.length ≤ 100000) (hC : CK (now, S)) (h : St w0 w L) [a : At L (clk g) (now, S) f] (hc : ∀ w', St w0 w' (f (clk g (now, dropL S id))) → c (has S id) w') : clock_Clock_Drop (some ⟨g, 0, none⟩) id w c := by
  obtain ⟨R, ho, hs⟩ := a.out
  have h := ho h
  obtain ⟨s, gm, d, l, h1, h2, h3, h4⟩ := clk_open h
  unfold clock_Clock_Drop clock_Clock_Drop_b
  refine iteB_f rfl (nn_i (ldM_h (g := g) (o := 2) h4 rfl ?_))
  refine look_h (g := gm) (l := l) mpT h4 (unT_ib ?_)
  dsimp only
  have hone := hC.one
  dsimp only at hone
  rw [mget_has h3]
  refine iteB_i (fun hb2 => ?_) fun hb2 => ?_
  · refine nn_i (ldM_h (g := g) (o := 2) h4 rfl ?_)
    have hsome : (mget l id).isSome = true := by rw [mget_has h3]; exact hb2
    obtain ⟨v, hv⟩ := Option.isSome_iff_exists.1 hsome
    rw [hv, Option.getD_some]
    have hm : (v, id) ∈ d := by
      obtain ⟨y, hy, e⟩ := List.mem_map.1 (h3.subset (mget_some hv))
      have : y = (v, id) := by obtain ⟨y1, y2⟩ := y; simp [sw] at e; simp [e]
      rw [← this]
      exact h1.symm.subset hy
    refine bDel_h (g := gm) (l := l) mpT h4 (keys_nodup h3 hone) hsome fun w1 h4 => ?_
    refine drew_h h4 fun w2 h4 => ?_
    refine nn_i (nn_i (ldS_h (g := g) (o := 1) h4 rfl (samec_self ?_)))
    refine idx_s (x := (v, id)) (d := d) h4 (by rw [h1.length_eq]; omega) hm fun i w3 hi hgi h4 => ?_
    refine hrem_s (d := d) h4 (by rw [h1.length_eq]; omega) hi h2 fun _ d' s' w4 hp hh h5 => ?_
    refine hc w4 (hs (clk_shut ?_ hh ?_ h5))
    · rw [hgi] at hp
      have hp2 := hp.trans h1
      have hnd : (((v, id) :: d').map (·.2)).Nodup := ((hp2.map (·.2)).nodup_iff).2 hone
      rw [List.map_cons, List.nodup_cons] at hnd
      have hp3 := hp2.filter fun y => decide (y.2 ≠ id)
      rw [List.filter_cons_of_neg (by simp)] at hp3
      have e : d'.filter (fun y => decide (y.2 ≠ id)) = d' := by
        rw [List.filter_eq_self]
        intro y hy
        simp only [ne_eq, decide_eq_true_eq]
        exact fun q => hnd.1 (List.mem_map.2 ⟨y, hy, q⟩)
      rw [e] at hp3
      exact hp3
    · have := h3.filter fun x => decide (x.1 ≠ id)
      unfold dropL
      rw [List.filter_map] at this
      exact this
  · rw [hb2] at hc ⊢
    have e : dropL S id = S := by
      unfold dropL
      rw [List.filter_eq_self]
      intro y hy
      simp only [ne_eq, decide_eq_true_eq]
      exact has_none (by simp [hb2]) y hy
    rw [e] at hc
    exact hc w (hs (clk_shut h1 h2 h3 h4))
theorem cut_is {C T : DL} {t : Int} (h1 : ∀ y ∈ C, y.1 ≤ t) (h2 : ∀ y ∈ T, ¬ y.1 ≤ t) : cameL (C ++ T) t = C ∧ leftL (C ++ T) t = T := by
  unfold cameL leftL
  have e1 : C.filter (fun y => decide (y.1 ≤ t)) = C := by rw [List.filter_eq_self]; intro y hy; simpa using h1 y hy
  have e2 : T.filter (fun y => decide (y.1 ≤ t)) = [] := by rw [List.filter_eq_nil_iff]; intro y hy; simpa using h2 y hy
  have e3 : C.filter (fun y => decide (¬ y.1 ≤ t)) = [] := by rw [List.filter_eq_nil_iff]; intro y hy; simpa using h1 y hy
  have e4 : T.filter (fun y => decide (¬ y.1 ≤ t)) = T := by rw [List.filter_eq_self]; intro y hy; simpa using h2 y hy
  rw [List.filter_append, List.filter_append, e1, e2, e3, e4]
  simp
def dueB (T : DL) (t : Int) : Bool := match T with | [] => false | x :: _ => decide (x.1 ≤ t)
theorem adv_s {n : Int} {c : Sl × Int → World → Prop} (hl : S.length ≤ 100000) (hC : CK (now, S)) (h : St w0 w L) [a : At L (clk g) (now, S) f]
    (hc : advOK now n = true → ∀ s' w', St w0 w' (slc 1 s' (ints (ids (cameL S (now + n)))) :: f (clk g (now + n, leftL S (now + n)))) → c (s', 0) w')
    (hno : advOK now n = false → St w0 w L → c (⟨none, 0, 0⟩, 10) w) : clock_Clock_Advance (some ⟨g, 0, none⟩) n w c := by
  obtain ⟨R, ho, hs, hs2⟩ := a.out2
  have h' := ho h
  obtain ⟨s, gm, d, l, h1, h2, h3, h4⟩ := clk_open h'
  have hlo := hC.lo; have hhi := hC.hi
  dsimp only at hlo hhi
  unfold clock_Clock_Advance clock_Clock_Advance_b
  refine iteB_f rfl (joinP_i (fun b w' => b = !advOK now n ∧ w' = w) (fun J hJ => ?_) ?_)
  · refine iteB_i (fun hb => ?_) fun hb => ?_
    · have hb := of_decide_eq_true hb
      refine hJ _ _ ⟨?_, rfl⟩
      unfold advOK; rw [decide_eq_false (by omega)]; rfl
    · have hb := of_decide_eq_false hb
      refine nn_i (ldI_h (g := g) (o := 0) h4 rfl (hJ _ _ ⟨?_, rfl⟩))
      rw [wrap_id ⟨by unfold MT at *; omega, by unfold MT at *; omega⟩]
      unfold advOK MT
      rw [Bool.eq_iff_iff]
      simp only [decide_eq_true_eq, Bool.not_eq_true', decide_eq_false_iff_not]
      omega
  rintro _ w1 ⟨rfl, rfl⟩
  refine iteB_i (fun hb => ?_) fun hb => ?_
  · exact hno (by simpa using hb) h
  have hok : advOK now n = true := by simpa using hb
  have hok' := of_decide_eq_true hok
  refine nn_i (ldI_h (g := g) (o := 0) h4 rfl (nn_i ?_))
  rw [wrap_id (x := now + n) ⟨by unfold MT at *; omega, by unfold MT at *; omega⟩]
  refine stC_h (g := g) (o := 0) h4 rfl (by simp) fun w2 h4 => ?_
  have h5 : St w0 w2 (clk g (now + n, S) :: R) := clk_shut (s := s) h1 h2 h3 h4
  refine loopP_of (fun (r : Sl) w' => ∃ C T, S = C ++ T ∧ (∀ y ∈ C, y.1 ≤ now + n) ∧ St w0 w' (clk g (now + n, T) :: slc 1 r (ints (ids C)) :: R)) (fun r _ => S.length - r.n) ⟨[], S, rfl, by simp, ((h5.nilS 1).swap : St w0 w2 (clk g (now + n, S) :: slc 1 ⟨none, 0, 0⟩ (ints (ids [])) :: R))⟩ ?_
  rintro r w3 ⟨C, T, rfl, hCt, h⟩ K hK
  have hr : r.n = C.length := by
    have := h.slen (sz := 1) (s := r) (vs := ints (ids C)); simp [ids] at this; omega
  obtain ⟨s, gm, d, l, h1, h2, h3, h4⟩ := clk_open h
  have hn : s.n = T.length := by rw [St.dlen (s := s) (d := d) h4, h1.length_eq]
  have hdl := h1.length_eq
  have hsrt : Srt T := (List.pairwise_append.1 hC.srt).2.1
  have hnd : (T.map (·.2)).Nodup := by
    have := hC.one
    dsimp only at this
    rw [List.map_append] at this
    exact (List.nodup_append.1 this).2.1
  refine joinP_i (fun b w' => b = dueB T (now + n) ∧ St w0 w' (blk g (dcs (now + n) gm s) :: slc 2 s (fl d) :: mp gm l :: slc 1 r (ints (ids C)) :: R)) (fun J hJ => ?_) ?_
  · refine drew_h h4 fun w4 h4 => ?_
    refine nn_i (ldS_h (g := g) (o := 1) h4 rfl ?_)
    dsimp only
    refine iteB_i (fun hb => ?_) fun hb => ?_
    · have hb := of_decide_eq_true hb
      cases T with
      | nil => simp at hn; omega
      | cons x T =>
        have hg := root_head h1 h2 hsrt
        refine nn_i (ldS_h (g := g) (o := 1) h4 rfl ?_)
        refine ldE0_h (s := s) (d := d) h4 (by omega) (by omega) ?_
        refine nn_i (ldI_h (g := g) (o := 0) h4 rfl ?_)
        refine hJ _ _ ⟨?_, h4⟩
        show decide ((gd d 0).1 ≤ now + n) = decide (x.1 ≤ now + n)
        rw [hg]
    · have hb := of_decide_eq_false hb
      cases T with
      | nil => exact hJ _ _ ⟨rfl, h4⟩
      | cons x T => simp at hn; omega
  rintro _ w4 ⟨rfl, h4⟩
  refine iteB_i (fun hb => ?_) fun hb => ?_
  · cases T with
    | nil => cases hb
    | cons x T =>
      have hb := of_decide_eq_true hb
      have hg := root_head h1 h2 hsrt
      simp only [List.length_append, List.length_cons] at hl hdl
      refine nn_i (ldS_h (g := g) (o := 1) h4 rfl ?_)
      refine ldE1_h (s := s) (d := d) h4 (by omega) (by omega) ?_
      have eg : (gd d (0 : Int).toNat) = x := hg
      rw [eg]
      refine nn_i ?_
      refine hpop_s (d := d) h4 (by omega) (by omega) h2 fun _ d' s' w5 hp hh h5 => ?_
      refine nn_i (ldM_h (g := g) (o := 2) h5 rfl ?_)
      have hsome : (mget l x.2).isSome = true := by rw [mget_has h3, has_iff]; exact ⟨x, by simp, rfl⟩
      refine bDel_h (g := gm) (l := l) mpT h5 (keys_nodup h3 hnd) hsome fun w6 h5 => ?_
      refine newC_h h5 fun ga w7 h5 => ?_
      refine bApp_h (s := r) (vs := ints (ids C)) (x := ⟨some ⟨ga, 0, none⟩, 1, 1⟩) (ys := [.int .i64 x.2]) h5 (elI1 (by kernel_rfl)) (by kernel_rfl) (blk_sls (n := 1) (l := [.int .i64 x.2]) (h5.blk (g := ga)) rfl 1) (by simp [Value.oneCell']) (by simp only; omega) (by simp only; omega) fun s2 w8 h6 n2 => ?_
      have h7 := h6.drop
      refine hK s2 w8 ⟨C ++ [x], T, by simp, fun y hy => ?_, ?_⟩ ?_
      · rcases List.mem_append.1 hy with hy | hy
        · exact hCt y hy
        · simp only [List.mem_singleton] at hy; subst hy; exact hb
      · have e : ints (ids C) ++ [Value.int .i64 x.2] = ints (ids (C ++ [x])) := by simp [ids, ints]
        rw [e] at h7
        rw [hg] at hp
        refine clk_shut (d := d') ?_ hh ?_ h7
        · exact (hp.trans h1).cons_inv
        · have h8 := h3.filter fun y => decide (y.1 ≠ x.2)
          rw [List.map_cons, List.filter_cons_of_neg (by simp [sw])] at h8
          have e : (T.map sw).filter (fun y => decide (y.1 ≠ x.2)) = T.map sw := by
            rw [List.filter_eq_self]
            intro z hz
            obtain ⟨y, hy, rfl⟩ := List.mem_map.1 hz
            rw [List.map_cons, List.nodup_cons] at hnd
            simp only [ne_eq, decide_eq_true_eq]
            exact fun q => hnd.1 (List.mem_map.2 ⟨y, hy, q⟩)
          rw [e] at h8
          exact h8
      · simp only [List.length_append, List.length_cons]
        dsimp only at n2
        omega
  · have hT : ∀ y ∈ T, ¬ y.1 ≤ now + n := by
      cases T with
      | nil => simp
      | cons x T =>
        have hb := of_decide_eq_false hb
        intro y hy
        rcases List.mem_cons.1 hy with rfl | hy
        · exact hb
        · have := (List.pairwise_cons.1 hsrt).1 y hy
          unfold lt2 at this; omega
    obtain ⟨e1, e2⟩ := cut_is hCt hT
    refine hc hok r w4 (hs2 ?_)
    rw [e1, e2]
    exact clk_shut h1 h2 h3 h4
end
end Go.Proofs.Ytheallacpidcmaa
