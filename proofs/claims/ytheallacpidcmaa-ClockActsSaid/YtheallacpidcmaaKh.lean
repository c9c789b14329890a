/-
  ClockOnce.
-/
import Derived.Test.YtheallacpidcmaaKg
set_option linter.unusedSimpArgs false
set_option linter.unusedVariables false
set_option maxRecDepth 100000
namespace Go.Proofs.Ytheallacpidcmaa
open Go Go.Ev Go.Proofs

/-- an id, modulo 8 -/
def id8 (x : Int) : Int := remV (IntKind.wrap .i64 (remV x 8 + 8)) 8
theorem id8_in (x : Int) : 0 ≤ id8 x ∧ id8 x < 8 := by
  unfold id8 remV
  have h1 : -8 < x.tmod 8 ∧ x.tmod 8 < 8 := by
    have := Int.tmod_lt_of_pos x (b := 8) (by omega)
    have h2 := Int.lt_tmod_of_pos x (b := 8) (by omega)
    omega
  rw [wrap_id ⟨by omega, by omega⟩]
  have h3 : (x.tmod 8 + 8).tmod 8 = (x.tmod 8 + 8) % 8 := Int.tmod_eq_emod_of_nonneg (by omega)
  rw [h3]; omega
/-- when each is due -/
structure Due (S : DL) (ds : List Int) : Prop where
  len : ds.length = 8
  at_ : ∀ y ∈ S, 0 ≤ y.2 ∧ y.2 < 8 ∧ ds.getD y.2.toNat 0 = y.1
  no : ∀ k : Nat, k < 8 → ¬ has S k = true → ds.getD k 0 = 0
theorem Due.has_ne {S : DL} {ds : List Int} (h : Due S ds) (hp : ∀ y ∈ S, 0 < y.1) {i : Int} (h0 : 0 ≤ i) (h1 : i < 8) : has S i = (ds.getD i.toNat 0 != 0) := by
  have ei : ((i.toNat : Nat) : Int) = i := by omega
  cases hh : has S i
  · have := h.no i.toNat (by omega) (by rw [ei, hh]; simp)
    rw [this]; rfl
  · obtain ⟨y, hy, e⟩ := has_iff.1 hh
    have := (h.at_ y hy).2.2
    rw [e] at this
    rw [this]
    have := hp y hy
    symm; rw [bne_iff_ne]; omega
theorem Due.set {S S' : DL} {ds : List Int} (h : Due S ds) {i v : Int} (h0 : 0 ≤ i) (h1 : i < 8) (hm : ∀ y ∈ S', (y ∈ S ∧ y.2 ≠ i) ∨ (y = (v, i))) (hn : ∀ y ∈ S, y.2 ≠ i → y ∈ S') (hz : has S' i = true ∨ v = 0) : Due S' (ds.set i.toNat v) := by
  have hl := h.len
  refine ⟨by simpa using hl, fun y hy => ?_, fun k hk hh => ?_⟩
  · rcases hm y hy with ⟨k1, k2⟩ | rfl
    · obtain ⟨m1, m2, m3⟩ := h.at_ y k1
      refine ⟨m1, m2, ?_⟩
      rw [Go.Ev.getD_set_ne (by omega)]; exact m3
    · exact ⟨h0, h1, Go.Ev.getD_set_eq (by omega)⟩
  · by_cases e : k = i.toNat
    · subst e
      rw [Go.Ev.getD_set_eq (by omega)]
      rcases hz with hz | hz
      · have ei : ((i.toNat : Nat) : Int) = i := by omega
        rw [ei] at hh; exact (hh hz).elim
      · exact hz
    · rw [Go.Ev.getD_set_ne (by omega)]
      refine h.no k hk fun q => hh ?_
      obtain ⟨y, hy, e2⟩ := has_iff.1 q
      exact has_iff.2 ⟨y, hn y hy (by omega), e2⟩
/-- how many of them are due -/
def cnt (S : DL) : Nat → Nat
  | 0 => 0
  | j + 1 => cnt S j + (if has S (j : Int) = true then 1 else 0)
theorem cnt_nil : ∀ j, cnt [] j = 0
  | 0 => rfl
  | j + 1 => by simp [cnt, cnt_nil j, has]
theorem has_cons (y : Int × Int) (S : DL) (i : Int) : has (y :: S) i = (y.2 == i || has S i) := rfl
theorem cnt_cons {y : Int × Int} {S : DL} (h0 : 0 ≤ y.2) (hn : ¬ has S y.2 = true) : ∀ j : Nat, cnt (y :: S) j = cnt S j + (if y.2 < j then 1 else 0)
  | 0 => by simp [cnt]; omega
  | j + 1 => by
    unfold cnt
    rw [cnt_cons h0 hn j, has_cons]
    by_cases e : y.2 = (j : Int)
    · rw [e] at hn
      rw [show (y.2 == (j : Int)) = true by simpa using e]
      rw [if_neg (show ¬ y.2 < (j : Int) by omega), if_pos (by simp), if_neg hn, if_pos (show y.2 < ((j + 1 : Nat) : Int) by omega)]
    · rw [show (y.2 == (j : Int)) = false by simpa using e, Bool.false_or]
      by_cases q : y.2 < (j : Int)
      · rw [if_pos q, if_pos (show y.2 < ((j + 1 : Nat) : Int) by omega)]; omega
      · rw [if_neg q, if_neg (show ¬ y.2 < ((j + 1 : Nat) : Int) by omega)]; omega
theorem cnt_len : ∀ {S : DL}, (S.map (·.2)).Nodup → (∀ y ∈ S, 0 ≤ y.2 ∧ y.2 < 8) → cnt S 8 = S.length
  | [], _, _ => cnt_nil 8
  | y :: S, hn, hi => by
    rw [List.map_cons, List.nodup_cons] at hn
    have hy := hi y (by simp)
    rw [cnt_cons hy.1 (fun q => ?_) 8, if_pos (by omega), cnt_len hn.2 fun z hz => hi z (by simp [hz])]
    · rfl
    · obtain ⟨z, hz, e⟩ := has_iff.1 q
      exact hn.1 (List.mem_map.2 ⟨z, hz, e⟩)
theorem drop_gd {E : DL} {i : Nat} (h : i < E.length) : E.drop i = gd E i :: E.drop (i + 1) := by
  unfold gd
  rw [List.getD_eq_getElem?_getD, List.getElem?_eq_getElem h, List.drop_eq_getElem_cons h]; rfl
theorem ids_getD {C : DL} {i : Nat} (h : i < C.length) : (ids C).getD i 0 = (gd C i).2 := by
  unfold ids gd
  rw [List.getD_eq_getElem?_getD, List.getD_eq_getElem?_getD, List.getElem?_map, List.getElem?_eq_getElem h]; rfl
section
variable {w0 w : World} {L : List HP}
theorem get8 {ds : List Int} (hd : ds.length = 8) {i : Int} (h0 : 0 ≤ i) (h1 : i < 8) : (ints ds)[0 + i.toNat * 1]? = some (.int .i64 (ds.getD i.toNat 0)) := by
  rw [show 0 + i.toNat * 1 = i.toNat by omega]; exact ints_getD (by omega)
theorem ix8_h {g : Nat} {ds : List Int} {f : HP → List HP} {i : Int} {c : Int → Prop} (h : St w0 w L) [a : At L (blk g) (ints ds) f] (hd : ds.length = 8) (h0 : 0 ≤ i) (h1 : i < 8) (hc : c (ds.getD i.toNat 0)) : ixP ⟨g, 0, none⟩ 8 i 1 fun a => ldI .i64 w a c :=
  ixP_i h0 h1 (ldI_h (g := g) (o := 0 + i.toNat * 1) h (get8 hd h0 h1) hc)
theorem ix8st_h {g : Nat} {ds : List Int} {f : HP → List HP} {i x : Int} {c : World → Prop} (h : St w0 w L) [a : At L (blk g) (ints ds) f] (hd : ds.length = 8) (h0 : 0 ≤ i) (h1 : i < 8) (hc : ∀ w', St w0 w' (f (blk g (ints (ds.set i.toNat x)))) → c w') : ixP ⟨g, 0, none⟩ 8 i 1 fun a => stC w a (.int .i64 x) c := by
  refine ixP_i h0 h1 (stC_h (g := g) (o := 0 + i.toNat * 1) h rfl (by simp [ints, hd]; omega) fun w' h' => hc w' ?_)
  have e : (ints ds).set (0 + i.toNat * 1) (.int .i64 x) = ints (ds.set i.toNat x) := by simp [ints, List.map_set]
  rw [e] at h'; exact h'
theorem due_pos {x : Int × DL} (h : CK x) : ∀ y ∈ x.2, 0 < y.1 := fun y hy => by have := (h.due y hy).1; have := h.lo; omega
/-- the first half of a round: what an act does to what is due -/
theorem due_set {x : Int × DL} {ds : List Int} (hC : CK x) (h : Due x.2 ds) {i n : Int} (h0 : 0 ≤ i) (h1 : i < 8) (hok : (setF x i n).1 = 0) : ds.getD i.toNat 0 = 0 ∧ Due (setF x i n).2 (ds.set i.toNat (x.1 + n)) := by
  obtain ⟨k1, k2, k3, k4, k5⟩ := setF_ok hok
  refine ⟨h.no i.toNat (by omega) (by rw [show ((i.toNat : Nat) : Int) = i by omega]; exact k4), ?_⟩
  rw [k5]
  refine h.set h0 h1 (fun y hy => ?_) (fun y hy _ => mem_ins.2 (.inr hy)) (.inl (has_iff.2 ⟨_, mem_ins.2 (.inl rfl), rfl⟩))
  rcases mem_ins.1 hy with e | e
  · exact .inr e
  · exact .inl ⟨e, has_none k4 y e⟩
theorem due_drop {S : DL} {ds : List Int} (h : Due S ds) {i : Int} (h0 : 0 ≤ i) (h1 : i < 8) : Due (dropL S i) (ds.set i.toNat 0) := by
  refine h.set h0 h1 (fun y hy => ?_) (fun y hy hne => ?_) (.inr rfl)
  · have := List.mem_filter.1 hy
    exact .inl ⟨this.1, by simpa using this.2⟩
  · exact List.mem_filter.2 ⟨hy, by simpa using hne⟩
theorem due_came {y : Int × Int} {T : DL} {ds : List Int} (h : Due (y :: T) ds) (hn : ((y :: T).map (·.2)).Nodup) : Due T (ds.set y.2.toNat 0) := by
  obtain ⟨h0, h1, _⟩ := h.at_ y (by simp)
  rw [List.map_cons, List.nodup_cons] at hn
  refine h.set h0 h1 (fun z hz => .inl ⟨by simp [hz], fun e => hn.1 (List.mem_map.2 ⟨z, hz, e⟩)⟩) (fun z hz hne => ?_) (.inr rfl)
  rcases List.mem_cons.1 hz with rfl | hz
  · exact (hne rfl).elim
  · exact hz
theorem law_conce {l : Sl} {es : List (List Int)} {k : Bool → World → Prop} (hR : Rws 3 w l (es.map ints)) (h3 : ∀ x ∈ es, x.length = 3 ∧ ∀ y ∈ x, InI y) (hk : ∀ w', St w w' [] → k true w') : pelotonlaw13_ClockOnce l w k := by
  have hnl : l.n = es.length := by have := hR.len; simpa using this.symm
  unfold pelotonlaw13_ClockOnce pelotonlaw13_ClockOnce_b
  refine new_s (.nil w) fun g w1 h => ?_
  refine iteB_f rfl ?_
  refine iteB_i (fun hb => awake13_s h fun w' h => hk w' h.all) fun hb => ?_
  have hb := of_decide_eq_false hb
  have hle : es.length ≤ 200 := by omega
  refine newC_h h fun gd8 w2 h => ?_
  refine stW_h (g := gd8) (n := 8) h rfl rfl (by intro v hv; simp at hv; rcases hv with rfl | rfl | rfl | rfl | rfl | rfl | rfl | rfl <;> rfl) fun w3 h => ?_
  have h : St w w3 (blk gd8 (ints [0, 0, 0, 0, 0, 0, 0, 0]) :: clk g (0, []) :: []) := h
  refine loopP_of (fun (i : Int) w' => ∃ (j : Nat) (x : Int × DL) (ds : List Int), i = (j : Int) ∧ j ≤ es.length ∧ CK x ∧ x.2.length ≤ j ∧ Due x.2 ds ∧ St w w' (blk gd8 (ints ds) :: clk g x :: [])) (fun i _ => es.length - i.toNat) ⟨0, (0, []), _, rfl, by omega, CK.new, by simp, ⟨rfl, by simp, fun k hk _ => ?_⟩, h⟩ ?_
  · match k, hk with
    | 0, _ => rfl
    | 1, _ => rfl
    | 2, _ => rfl
    | 3, _ => rfl
    | 4, _ => rfl
    | 5, _ => rfl
    | 6, _ => rfl
    | 7, _ => rfl
  rintro _ w4 ⟨j, x, ds, rfl, hj, hC, hxl, hD, h⟩ K hK
  refine iteB_i (fun hb2 => ?_) fun hb2 => awake13_s h fun w' h => hk w' h.all
  have hb2 := of_decide_eq_true hb2
  have hjl : j < es.length := by omega
  have hej := h3 es[j] (List.getElem_mem hjl)
  obtain ⟨a, b, n, hab⟩ := len3 hej.1
  have hrow : (es.map ints)[((j : Nat) : Int).toNat]? = some (ints [a, b, n]) := by
    rw [Int.toNat_natCast, List.getElem?_map, List.getElem?_eq_getElem hjl, hab]; rfl
  rw [hab] at hej
  have hnI : InI n := hej.2 n (by simp)
  refine ixR_h hR h (by omega) hrow fun p hp => ?_
  refine ldA_c (e := ints [a, b, n]) rfl (fun i v hv => hp h hv) ?_
  refine newC_h h fun ga w5 h => ?_
  refine stW_h (g := ga) (n := 3) h rfl rfl (by intro v hv; simp [ints] at hv; rcases hv with rfl | rfl | rfl <;> rfl) fun w6 h => ?_
  refine ldI_h (g := ga) (o := 1) h rfl ?_
  refine stC_h (g := ga) (o := 1) h rfl (by simp [ints]) fun w7 h => ?_
  obtain ⟨i0, i1⟩ := id8_in b
  have h : St w w7 (blk ga (ints [a, id8 b, n]) :: blk gd8 (ints ds) :: clk g x :: []) := h
  revert i0 i1 h
  generalize id8 b = i
  intro i0 i1 h
  have ei : ((i.toNat : Nat) : Int) = i := by omega
  refine now_s (g := g) (now := x.1) (S := x.2) h ?_
  refine ldW_h (g := ga) (n := 3) h rfl ?_
  refine do_s (x := x) (a := (a, i, n)) (by omega) hC h fun s w8 h => ?_
  have hC2 := hC.act (a, i, n)
  have hl2 := len_act x (a, i, n)
  have hlo := hC.lo; have hhi := hC.hi
  have hdl := hD.len
  refine ldI_h (g := ga) (o := 0) h rfl ?_
  have hns : s.n = ((doF x (a, i, n)).2.1).length := by have := h.slen (sz := 1) (s := s) (vs := ints (doF x (a, i, n)).2.1); simp at this; omega
  refine joinP_i (fun _ w' => ∃ ds', Due (doF x (a, i, n)).1.2 ds' ∧ St w w' (slc 1 s (ints (doF x (a, i, n)).2.1) :: blk ga (ints [a, i, n]) :: blk gd8 (ints ds') :: clk g (doF x (a, i, n)).1 :: [])) (fun J hJ => ?_) ?_
  · unfold doF at h hJ hns ⊢
    dsimp only at h hJ hns ⊢
    refine iteB_i (fun ha => ?_) fun ha => ?_
    · have ha : a = 0 := by simpa using ha
      rw [if_pos ha] at h hJ ⊢
      dsimp only at h hJ ⊢
      refine iteB_i (fun he => ?_) fun he => ?_
      · have he : (setF x i n).1 = 0 := by simpa using he
        obtain ⟨d1, d2⟩ := due_set hC hD i0 i1 he
        obtain ⟨k1, k2, k3, k4, k5⟩ := setF_ok he
        refine ldI_h (g := ga) (o := 1) h rfl ?_
        refine ix8_h (g := gd8) (ds := ds) h hdl i0 i1 ?_
        rw [d1]
        refine iteB_f rfl ?_
        refine ldI_h (g := ga) (o := 1) h rfl ?_
        refine ldI_h (g := ga) (o := 2) h rfl ?_
        rw [wrap_id (x := x.1 + n) ⟨by unfold MT at *; omega, by unfold MT at *; omega⟩]
        refine ix8st_h (g := gd8) (ds := ds) h hdl i0 i1 fun w9 h => ?_
        exact hJ _ _ ⟨_, d2, h⟩
      · have he : (setF x i n).1 ≠ 0 := by simpa using he
        have es2 := setF_no he
        have hj2 : ((setF x i n).1 == 18) = ((ds.getD i.toNat 0 != 0) && (decide (n ≥ 1) && decide (n ≤ 1099511627776))) := by
          rw [← hD.has_ne (due_pos hC) i0 i1]
          unfold setF at he ⊢
          split
          · rename_i q
            have : ¬ (n ≥ 1 ∧ n ≤ 1099511627776) := by unfold MT at q; omega
            rw [Bool.eq_iff_iff]
            simp only [Bool.and_eq_true, decide_eq_true_eq, this, and_false]
            simp
          · rename_i q
            have : n ≥ 1 ∧ n ≤ 1099511627776 := by unfold MT at q; omega
            split
            · rename_i q2
              rw [q2, decide_eq_true this.1, decide_eq_true this.2]; rfl
            · rename_i q2
              rw [if_neg q, if_neg q2] at he
              exact (he rfl).elim
        refine joinP_i (fun b' w' => b' = false ∧ w' = w8) (fun J2 hJ2 => ?_) ?_
        · refine ldI_h (g := ga) (o := 1) h rfl ?_
          refine ix8_h (g := gd8) (ds := ds) h hdl i0 i1 ?_
          refine iteB_i (fun hd => ?_) fun hd => ?_
          · rw [hd, Bool.true_and] at hj2
            refine ldI_h (g := ga) (o := 2) h rfl ?_
            refine iteB_i (fun hn1 => ?_) fun hn1 => ?_
            · rw [hn1, Bool.true_and] at hj2
              refine ldI_h (g := ga) (o := 2) h rfl ?_
              refine hJ2 _ _ ⟨?_, rfl⟩
              rw [hj2]; simp
            · rw [hn1, Bool.false_and] at hj2
              refine hJ2 _ _ ⟨?_, rfl⟩
              rw [hj2]; simp
          · rw [hd, Bool.false_and] at hj2
            refine hJ2 _ _ ⟨?_, rfl⟩
            rw [hj2]; simp
        rintro _ _ ⟨rfl, rfl⟩
        refine iteB_f rfl ?_
        refine hJ _ _ ⟨ds, ?_, h⟩
        rw [es2]; exact hD
    · have ha : a ≠ 0 := by simpa using ha
      rw [if_neg ha] at h hJ ⊢
      refine iteB_i (fun hb => ?_) fun hb => ?_
      · have hb : a = 1 := by simpa using hb
        rw [if_pos hb] at h hJ ⊢
        dsimp only at h hJ ⊢
        refine ldI_h (g := ga) (o := 1) h rfl ?_
        refine ix8_h (g := gd8) (ds := ds) h hdl i0 i1 ?_
        rw [← hD.has_ne (due_pos hC) i0 i1]
        refine iteB_f (by simp) ?_
        refine ldI_h (g := ga) (o := 1) h rfl ?_
        refine ix8st_h (g := gd8) (ds := ds) h hdl i0 i1 fun w9 h => ?_
        exact hJ _ _ ⟨_, due_drop hD i0 i1, h⟩
      · have hb : a ≠ 1 := by simpa using hb
        rw [if_neg hb] at h hJ ⊢
        refine iteB_i (fun hb => ?_) fun hb => ?_
        · have hb : a = 2 := by simpa using hb
          rw [if_pos hb] at h hJ hns ⊢
          rw [if_neg ha, if_neg (by omega)] at hns
          by_cases hok : advOK x.1 n = true
          · rw [if_pos hok] at h hJ hns ⊢
            dsimp only at h hJ hns ⊢
            have hok' := of_decide_eq_true hok
            have hsp : x.2 = cameL x.2 (x.1 + n) ++ leftL x.2 (x.1 + n) := srt_split hC.srt (x.1 + n)
            have hnd := hC.one
            have hCle : ∀ y ∈ cameL x.2 (x.1 + n), y.1 ≤ x.1 + n := fun y hy => by simpa using (List.mem_filter.1 hy).2
            have hpos := due_pos hC
            revert hsp hCle
            generalize cameL x.2 (x.1 + n) = Cm at *
            generalize leftL x.2 (x.1 + n) = Tm at *
            intro hsp hCle
            have hCml : Cm.length ≤ x.2.length := by rw [hsp, List.length_append]; omega
            rw [hsp] at hD hnd hpos
            refine joinP_i (fun b' w' => b' = false ∧ St w w' (slc 1 s (ints (ids Cm)) :: blk ga (ints [a, i, n]) :: blk gd8 (ints ds) :: clk g (x.1 + n, Tm) :: [])) (fun J2 hJ2 => ?_) ?_
            · refine drew_h h fun w9 h => ?_
              refine iteB_t rfl ?_
              refine ldI_h (g := ga) (o := 2) h rfl ?_
              refine now_s (g := g) h ?_
              refine samec_self ?_
              rw [wrap_id (x := x.1 + n) ⟨by unfold MT at *; omega, by unfold MT at *; omega⟩]
              refine iteB_f (by simp) ?_
              exact iteB_f rfl (hJ2 _ _ ⟨rfl, h⟩)
            rintro _ w9 ⟨rfl, h⟩
            refine iteB_f rfl ?_
            have hcl : (ids Cm).length = Cm.length := by simp [ids]
            refine loopP_of (fun (q : Int) w' => ∃ (m : Nat) (ds' : List Int), q = (m : Int) ∧ m ≤ Cm.length ∧ Due (Cm.drop m ++ Tm) ds' ∧ St w w' (slc 1 s (ints (ids Cm)) :: blk ga (ints [a, i, n]) :: blk gd8 (ints ds') :: clk g (x.1 + n, Tm) :: [])) (fun q _ => Cm.length - q.toNat) ⟨0, ds, rfl, by omega, by simpa using hD, h⟩ ?_
            rintro _ w10 ⟨m, ds', rfl, hm, hD', h⟩ K2 hK2
            refine iteB_i (fun hb3 => ?_) fun hb3 => ?_
            · have hb3 := of_decide_eq_true hb3
              have hmc : m < Cm.length := by omega
              refine ixI_h (s := s) (xs := ids Cm) h (by omega) (by omega) ?_
              rw [Int.toNat_natCast, ids_getD hmc]
              rw [drop_gd hmc] at hD'
              have hmem : gd Cm m ∈ Cm := by unfold gd; rw [List.getD_eq_getElem?_getD, List.getElem?_eq_getElem hmc]; simp
              obtain ⟨y0, y1, yd⟩ := hD'.at_ (gd Cm m) (by simp)
              have hyp := hpos _ (List.mem_append.2 (.inl hmem))
              have hyl := hCle _ hmem
              have hnd' : (((gd Cm m :: Cm.drop (m + 1)) ++ Tm).map (·.2)).Nodup := by
                rw [← drop_gd hmc]
                exact hnd.sublist (((List.drop_sublist m Cm).append_right Tm).map _)
              refine joinP_i (fun b' w' => b' = false ∧ St w w' (slc 1 s (ints (ids Cm)) :: blk ga (ints [a, i, n]) :: blk gd8 (ints ds') :: clk g (x.1 + n, Tm) :: [])) (fun J3 hJ3 => ?_) ?_
              · refine drew_h h fun w11 h => ?_
                refine iteB_f (by rw [decide_eq_false (by omega), decide_eq_false (by omega)]; rfl) ?_
                refine ix8_h (g := gd8) (ds := ds') h hD'.len y0 y1 ?_
                rw [yd]
                refine iteB_f (by rw [beq_eq_false_iff_ne]; omega) ?_
                refine ixP_i y0 y1 (ldI_h (g := gd8) (o := 0 + (gd Cm m).2.toNat * 1) h (get8 hD'.len y0 y1) ?_)
                refine now_s (g := g) h ?_
                refine samec_self ?_
                rw [yd]
                exact hJ3 _ _ ⟨decide_eq_false (by omega), h⟩
              rintro _ w11 ⟨rfl, h⟩
              refine iteB_f rfl ?_
              refine ix8st_h (g := gd8) (ds := ds') h hD'.len y0 y1 fun w12 h => ?_
              have e1 : IntKind.wrap .i64 ((m : Int) + 1) = ((m + 1 : Nat) : Int) := by
                rw [wrap_id ⟨by omega, by omega⟩]; omega
              rw [e1]
              exact hK2 _ _ ⟨m + 1, _, rfl, by omega, due_came hD' hnd', h⟩ (by simp only [Int.toNat_natCast]; omega)
            · have hb3 := of_decide_eq_false hb3
              have : m = Cm.length := by omega
              subst this
              rw [List.drop_length, List.nil_append] at hD'
              exact hJ _ _ ⟨ds', hD', h⟩
          · rw [if_neg hok] at h hJ hns ⊢
            dsimp only at h hJ hns ⊢
            have n0 : s.n = 0 := hns
            refine joinP_i (fun b' w' => b' = false ∧ St w w' (slc 1 s (ints []) :: blk ga (ints [a, i, n]) :: blk gd8 (ints ds) :: clk g x :: [])) (fun J2 hJ2 => ?_) ?_
            · refine drew_h h fun w9 h => ?_
              refine iteB_f rfl (iteB_t rfl ?_)
              refine now_s (g := g) (now := x.1) (S := x.2) h ?_
              exact hJ2 _ _ ⟨by rw [n0]; simp, h⟩
            rintro _ w9 ⟨rfl, h⟩
            refine iteB_f rfl ?_
            refine loopP_of (fun (q : Int) w' => q = 0 ∧ w' = w9) (fun q _ => 0) ⟨rfl, rfl⟩ ?_
            rintro _ _ ⟨rfl, rfl⟩ K2 hK2
            refine iteB_f (by rw [n0]; rfl) ?_
            exact hJ _ _ ⟨ds, hD, h⟩
        · have hb : a ≠ 2 := by simpa using hb
          rw [if_neg hb] at h hJ
          exact hJ _ _ ⟨ds, hD, h⟩
  rintro _ w9 ⟨ds', hD', h⟩
  have h := h.drop.drop
  clear hns
  revert h hD' hC2 hl2
  generalize (doF x (a, i, n)).1 = x'
  intro hC2 hl2 hD' h
  have hpos := due_pos hC2
  have hcnt : cnt x'.2 8 = x'.2.length := cnt_len hC2.one fun y hy => by have := hD'.at_ y hy; exact ⟨this.1, this.2.1⟩
  refine joinP_i (fun (q : Int) w' => q = (x'.2.length : Int) ∧ St w w' (blk gd8 (ints ds') :: clk g x' :: [])) (fun J hJ => ?_) ?_
  · refine loopP_of (fun (q : Int × Int) w' => ∃ m : Nat, q = ((cnt x'.2 m : Int), (m : Int)) ∧ m ≤ 8 ∧ St w w' (blk gd8 (ints ds') :: clk g x' :: [])) (fun q _ => 8 - q.2.toNat) ⟨0, rfl, by omega, h⟩ ?_
    rintro _ w10 ⟨m, rfl, hm, h⟩ K2 hK2
    dsimp only
    refine iteB_i (fun hb3 => ?_) fun hb3 => ?_
    · have hb3 := of_decide_eq_true hb3
      have hm8 : m < 8 := by omega
      have hne := hD'.has_ne hpos (i := (m : Int)) (by omega) (by omega)
      have e1 : IntKind.wrap .i64 ((m : Int) + 1) = ((m + 1 : Nat) : Int) := by
        rw [wrap_id ⟨by omega, by omega⟩]; omega
      rw [e1]
      have hcb : cnt x'.2 m ≤ m := by
        have : ∀ q, cnt x'.2 q ≤ q := fun q => by
          induction q with
          | zero => exact Nat.le_refl _
          | succ q ih => unfold cnt; split <;> omega
        exact this m
      refine ix8_h (g := gd8) (ds := ds') h hD'.len (by omega) (by omega) ?_
      rw [← hne]
      refine iteB_i (fun hh => ?_) fun hh => ?_
      · obtain ⟨y, hy, ey⟩ := has_iff.1 hh
        obtain ⟨_, _, yd⟩ := hD'.at_ y hy
        have hyn := (hC2.due y hy).1
        refine drew_h h fun w11 h => ?_
        refine ixP_i (by omega) (by omega) (ldI_h (g := gd8) (o := 0 + (m : Int).toNat * 1) h (get8 hD'.len (by omega) (by omega)) ?_)
        refine now_s (g := g) (now := x'.1) (S := x'.2) h ?_
        refine samec_self ?_
        rw [← ey, yd]
        refine iteB_f (decide_eq_false (by omega)) ?_
        have e2 : IntKind.wrap .i64 ((cnt x'.2 m : Int) + 1) = ((cnt x'.2 (m + 1) : Nat) : Int) := by
          rw [wrap_id ⟨by omega, by omega⟩]
          show _ = ((cnt x'.2 m + (if has x'.2 (m : Int) = true then 1 else 0) : Nat) : Int)
          rw [if_pos hh]; omega
        rw [e2]
        exact hK2 _ _ ⟨m + 1, rfl, by omega, h⟩ (by simp only [Int.toNat_natCast]; omega)
      · have e2 : cnt x'.2 (m + 1) = cnt x'.2 m := by
          show cnt x'.2 m + (if has x'.2 (m : Int) = true then 1 else 0) = _
          rw [if_neg (by simp [hh])]; omega
        exact hK2 _ _ ⟨m + 1, by rw [e2], by omega, h⟩ (by simp only [Int.toNat_natCast]; omega)
    · have hb3 := of_decide_eq_false hb3
      have : m = 8 := by omega
      subst this
      refine hJ _ _ ⟨?_, h⟩
      rw [hcnt]
  rintro _ w10 ⟨rfl, h⟩
  refine len_s (g := g) (now := x'.1) (S := x'.2) h ?_
  refine iteB_f (by simp) ?_
  have e1 : IntKind.wrap .i64 ((j : Int) + 1) = ((j + 1 : Nat) : Int) := by
    rw [wrap_id ⟨by omega, by omega⟩]; omega
  rw [e1]
  exact hK _ _ ⟨j + 1, x', ds', rfl, by omega, hC2, by omega, hD', h⟩ (by simp only [Int.toNat_natCast]; omega)
end
end Go.Proofs.Ytheallacpidcmaa
