/-
  A clone of a clock; ClockNil, ClockSplits.
-/
import Derived.Test.YtheallacpidcmaaKg
import Derived.Test.YtheallacpidcmaaFd
set_option linter.unusedSimpArgs false
set_option linter.unusedVariables false
set_option maxRecDepth 100000
namespace Go.Ev
open Go Go.RowKit
theorem runV_ok {v : Value} {w : World} {c : Value → World → Prop} : runV (.ok v w) c = c v w := rfl
def isMp (P : Program) (t : TypeId) : Bool := match P.underlying t with | some (.map _ _) => true | _ => false
theorem tyA_m {P : Program} {w : World} {t xt : TypeId} {v : Value} {c : Value → World → Prop} (hu : isMp P t = true) (hc : c v w) : tyA P (.iface t v) xt t false w c := by
  unfold tyA
  obtain ⟨a, b, hu⟩ : ∃ a b, P.underlying t = some (.map a b) := by
    unfold isMp at hu
    split at hu
    · exact ⟨_, _, by assumption⟩
    · cases hu
  have hr : (Instr.typeAssert (.iface t v) xt t false).run P w = .ok v w := by
    simp [Instr.typeAssert, run_underlying hu]
  rw [hr]; exact hc
end Go.Ev
namespace Go.Proofs.Ytheallacpidcmaa
open Go Go.Ev Go.Proofs
section
variable {w0 w : World} {L : List HP}
theorem sclone_s {s : Sl} {d : DL} {f : HP → List HP} {c : Sl → World → Prop} (hl : d.length ≤ 1000000) (h : St w0 w L) [a : At L (slc 2 s) (fl d) f] (hc : ∀ s' w', St w0 w' (slc 2 s' (fl d) :: L) → c s' w') : slices_Clone_clock_due_clock_deadline_ s w c := by
  have ho : OwnS 2 w s (fl d) := h.own
  have hsn := St.dlen (s := s) (d := d) h
  unfold slices_Clone_clock_due_clock_deadline_
  refine iteB_i (fun hb => ?_) fun hb => ?_
  · have hb : s.a = none := by simpa using hb
    have hd : d = [] := by
      rcases ho.row with ⟨_, h2⟩ | ⟨g, off, cs, h2, _⟩
      · have := ho.cap
        exact List.eq_nil_of_length_eq_zero (by omega)
      · rw [hb] at h2; cases h2
    subst hd
    exact hc _ _ (h.nilS 2)
  · refine newC_h h fun ga w2 h => ?_
    have h := St.asS (sz := 2) (g := ga) (n := 0) (cs := []) h rfl (by omega) (by simp)
    have hsrc : OwnS 2 w2 s (fl d) := h.own
    refine bApp_h (s := ⟨some ⟨ga, 0, none⟩, 0, 0⟩) (vs := []) (x := s) (ys := fl d) h elD (by kernel_rfl) hsrc.sls (fl_one d) (by simp only; omega) (by simp only; omega) fun s2 w3 h n2 => ?_
    exact hc _ _ h
theorem mclone_s {gm : Nat} {l : List (Int × Int)} {f : HP → List HP} {c : Option Nat → World → Prop} (h : St w0 w L) [a : At L (mp gm) l f] (hc : ∀ gm' w', St w0 w' (mp gm' l :: L) → c (some gm') w') : maps_Clone_map_int_int64_int_int64_ (some gm) w c := by
  unfold maps_Clone_map_int_int64_int_int64_ maps_Clone_map_int_int64_int_int64__b
  refine iteB_f rfl ?_
  obtain ⟨t, n, htl, hb⟩ := mp_at (g := gm) h
  unfold maps_clone
  have hr : (Extern.MapsClone.clone #[.iface 135 (.map (some gm))]).run Go.Proofs.Try.prog w = .ok (.iface 135 (.map (some w.heap.size))) (w.alloc (.map (mpE t).toArray n)) := by
    show (getObj gm >>= fun o => match o with
      | .map entries clock => (do pure (Value.iface 135 (.map (some (← newObj (.map entries clock))))))
      | _ => stuck "maps.clone: a map expected").run Go.Proofs.Try.prog w = _
    simp only [Sem.run_bind, MapKept.run_getObj_map hb, Result.andThen_ok, run_newObj, Sem.run_pure, World.alloc_eq]
  rw [hr, runV_ok]
  refine tyA_m (by kernel_rfl) ?_
  show c (some w.heap.size) _
  refine hc _ _ ?_
  have h2 := alloc_h (.map (mpE t).toArray n) h
  have h3 := mp_shut h2
  rw [htl] at h3
  exact h3
theorem clkclone_s {g : Nat} {now : Int} {S : DL} {f : HP → List HP} {c : Option Addr → World → Prop} (hl : S.length ≤ 100000) (h : St w0 w L) [a : At L (clk g) (now, S) f] (hc : ∀ g' w', St w0 w' (clk g' (now, S) :: f (clk g (now, S))) → c (some ⟨g', 0, none⟩) w') : clock_Clock_Clone (some ⟨g, 0, none⟩) w c := by
  obtain ⟨R, ho, hs, hs2⟩ := a.out2
  obtain ⟨s, gm, d, l, h1, h2, h3, h4⟩ := clk_open (ho h)
  unfold clock_Clock_Clone clock_Clock_Clone_b
  refine iteB_f rfl (drew_h h4 fun w1 h4 => ?_)
  have b1 := h4.blk (g := g) (cs := dcs now gm s)
  refine nn_i (ldI_h (g := g) (o := 0) h4 rfl ?_)
  refine nn_i (ldS_h (g := g) (o := 1) h4 rfl ?_)
  refine nn_i (ldM_h (g := g) (o := 2) h4 rfl ?_)
  refine sclone_s (s := s) (d := d) (by rw [h1.length_eq]; omega) h4 fun s' w2 h5 => ?_
  have b2 := h5.blk (g := g) (cs := dcs now gm s)
  refine samec_B (g := g) (o := 2) b1 b2 (samec_B (g := g) (o := 0) b1 b2 ?_)
  refine mclone_s (gm := gm) (l := l) h5 fun gm' w3 h6 => ?_
  have b3 := h6.blk (g := g) (cs := dcs now gm s)
  refine samec_B (g := g) (o := 0) b1 b3 ?_
  refine newC_h h6 fun g' w4 h7 => ?_
  have h7 : St w0 w4 (blk g' (dcs now gm' s') :: mp gm' l :: slc 2 s' (fl d) :: blk g (dcs now gm s) :: slc 2 s (fl d) :: mp gm l :: R) := h7
  have h8 : St w0 w4 (blk g (dcs now gm s) :: slc 2 s (fl d) :: mp gm l :: blk g' (dcs now gm' s') :: slc 2 s' (fl d) :: mp gm' l :: R) := h7.perm (by repeat' (first | exact List.Perm.refl _ | refine perm_f 0 rfl ?_ | refine perm_f 1 rfl ?_ | refine perm_f 2 rfl ?_ | refine perm_f 3 rfl ?_ | refine perm_f 4 rfl ?_ | refine perm_f 5 rfl ?_ | refine perm_f 6 rfl ?_ | refine perm_f 7 rfl ?_))
  have h9 := clk_shut h1 h2 h3 h8
  have h10 : St w0 w4 (blk g' (dcs now gm' s') :: slc 2 s' (fl d) :: mp gm' l :: clk g (now, S) :: R) := h9.perm (by repeat' (first | exact List.Perm.refl _ | refine perm_f 0 rfl ?_ | refine perm_f 1 rfl ?_ | refine perm_f 2 rfl ?_ | refine perm_f 3 rfl ?_ | refine perm_f 4 rfl ?_ | refine perm_f 5 rfl ?_ | refine perm_f 6 rfl ?_ | refine perm_f 7 rfl ?_))
  have h11 := clk_shut h1 h2 h3 h10
  exact hc g' w4 (hs2 h11.swap)
theorem next_nil (k : Int × Int × Bool → World → Prop) : clock_Clock_Next none w k = k (0, (0, false)) w := rfl
theorem adv_nil (n : Int) (k : Sl × Int → World → Prop) : clock_Clock_Advance none n w k = k (⟨none, 0, 0⟩, 2) w := rfl
theorem now_nil (k : Int → World → Prop) : clock_Clock_Now none w k = k 0 w := rfl
theorem set_nil (id n : Int) (k : Int → World → Prop) : clock_Clock_Set none id n w k = k 2 w := rfl
theorem drop_nil (id : Int) (k : Bool → World → Prop) : clock_Clock_Drop none id w k = k false w := rfl
theorem len_nil (k : Int → World → Prop) : clock_Clock_Len none w k = k 0 w := rfl
theorem clone_nil (k : Option Addr → World → Prop) : clock_Clock_Clone none w k = k none w := rfl
theorem and7 (x : Int) : 0 ≤ andI .i64 x 7 := by
  rw [andI_bv]
  have e : (bv 7 : BitVec 64) = 7#64 := rfl
  rw [e]
  have h1 : (bv x &&& 7#64).toNat ≤ 7 := by
    rw [BitVec.toNat_and]; exact Nat.and_le_right
  rw [BitVec.toInt_eq_toNat_of_lt (by omega)]
  omega
theorem law_cnil {a b c id n : Int} {k : Bool → World → Prop} (hk : ∀ w', St w w' [] → k true w') : pelotonlaw13_ClockNil #[.int .i64 a, .int .i64 b, .int .i64 c] id n w k := by
  unfold pelotonlaw13_ClockNil pelotonlaw13_ClockNil_b
  refine newC_h (.nil w) fun ga w1 h => ?_
  have h : St w w1 (blk ga (ints [a, b, c]) :: []) := h
  rw [next_nil, adv_nil]
  refine joinP_i (fun q w' => q = false ∧ w' = w1) (fun J hJ => ?_) ?_
  · rw [now_nil]
    refine iteB_f rfl ?_
    rw [set_nil]
    refine iteB_f rfl ?_
    rw [drop_nil]
    refine iteB_f rfl ?_
    rw [len_nil]
    refine iteB_f rfl ?_
    rw [clone_nil]
    exact hJ _ _ ⟨rfl, rfl⟩
  rintro _ _ ⟨rfl, rfl⟩
  refine iteB_f rfl ?_
  refine new_s h fun g w2 h => ?_
  refine iteB_f rfl ?_
  refine ldW_h (g := ga) (n := 3) h rfl ?_
  refine do_s (x := (0, [])) (a := (a, b, c)) (by simp) CK.new h fun s w3 h => ?_
  have h := h.drop
  have hC := CK.new.act (a, b, c)
  have hl := len_act (0, []) (a, b, c)
  have hwant : (setF (doF (0, []) (a, b, c)).1 id n).1 = if id < 0 ∨ n < 1 ∨ n > MT then 10 else if a = 0 ∧ b = id ∧ 1 ≤ c ∧ c ≤ MT then 18 else 0 := by
    unfold setF
    by_cases q : id < 0 ∨ n < 1 ∨ n > MT
    · rw [if_pos q, if_pos q]
    · rw [if_neg q, if_neg q]
      unfold doF
      dsimp only
      by_cases ha : a = 0
      · rw [if_pos ha]
        unfold setF
        dsimp only
        by_cases hbc : b < 0 ∨ c < 1 ∨ c > MT
        · rw [if_pos hbc, if_neg (by simp [has]), if_neg (by omega)]
        · rw [if_neg hbc, if_neg (show ¬ has [] b = true by simp [has])]
          have e : has (ins (0 + c, b) []) id = decide (b = id) := by
            simp only [ins, has, List.any_cons, List.any_nil, Bool.or_false]
            rw [Bool.eq_iff_iff]; simp
          dsimp only
          rw [e]
          by_cases hbi : b = id
          · rw [if_pos (decide_eq_true hbi), if_pos ⟨ha, hbi, by omega, by omega⟩]
          · rw [if_neg (by simp [hbi]), if_neg (fun z => hbi z.2.1)]
      · rw [if_neg ha, if_neg (c := a = 0 ∧ _) (fun z => ha z.1)]
        have e : has (if a = 1 then (((0 : Int), dropL [] b), ([] : List Int), has [] b, (0 : Int)) else if a = 2 then if advOK 0 c = true then ((0 + c, leftL [] (0 + c)), ids (cameL [] (0 + c)), false, 0) else ((0, []), [], false, 10) else ((0, []), [], false, 0)).1.2 id = false := by
          split
          · rfl
          · split
            · split <;> rfl
            · rfl
        rw [e]; rfl
  revert h hC hl hwant
  generalize (doF (0, []) (a, b, c)).1 = x
  intro h hC hl hwant
  obtain ⟨now, S⟩ := x
  have hlo := hC.lo; have hhi := hC.hi
  dsimp only at hlo hhi hl
  refine now_s (g := g) h ?_
  refine joinP_i (fun (q : Int) w' => q = (setF (now, S) id n).1 ∧ w' = w3) (fun J hJ => ?_) ?_
  · rw [hwant] at hJ
    refine iteB_i (fun hb => ?_) fun hb => ?_
    · simp only [Bool.or_eq_true, decide_eq_true_eq] at hb
      rw [if_pos (by unfold MT; omega)] at hJ
      exact hJ _ _ ⟨rfl, rfl⟩
    · simp only [Bool.or_eq_false_iff, decide_eq_false_iff_not] at hb
      rw [if_neg (by unfold MT; omega)] at hJ
      refine joinP_i (fun q w' => q = decide (a = 0 ∧ b = id ∧ 1 ≤ c ∧ c ≤ MT) ∧ w' = w3) (fun J2 hJ2 => ?_) ?_
      · refine ldI_h (g := ga) (o := 0) h rfl ?_
        refine iteB_i (fun h1 => ?_) fun h1 => ?_
        · have h1 : a = 0 := by simpa using h1
          refine ldI_h (g := ga) (o := 1) h rfl ?_
          refine iteB_i (fun h2 => ?_) fun h2 => ?_
          · have h2 : b = id := by simpa using h2
            refine ldI_h (g := ga) (o := 2) h rfl ?_
            refine iteB_i (fun h3 => ?_) fun h3 => ?_
            · have h3 := of_decide_eq_true h3
              refine ldI_h (g := ga) (o := 2) h rfl ?_
              refine hJ2 _ _ ⟨?_, rfl⟩
              rw [decide_eq_decide]
              exact ⟨fun z => ⟨h1, h2, by omega, z⟩, fun z => z.2.2.2⟩
            · have h3 := of_decide_eq_false h3
              exact hJ2 _ _ ⟨(decide_eq_false fun z => by omega).symm, rfl⟩
          · have h2 : b ≠ id := by simpa using h2
            exact hJ2 _ _ ⟨(decide_eq_false fun z => h2 z.2.1).symm, rfl⟩
        · have h1 : a ≠ 0 := by simpa using h1
          exact hJ2 _ _ ⟨(decide_eq_false fun z => h1 z.1).symm, rfl⟩
      rintro _ _ ⟨rfl, rfl⟩
      refine iteB_i (fun h1 => ?_) fun h1 => ?_
      · rw [if_pos (of_decide_eq_true h1)] at hJ
        exact hJ _ _ ⟨rfl, rfl⟩
      · rw [if_neg (of_decide_eq_false h1)] at hJ
        exact hJ _ _ ⟨rfl, rfl⟩
  rintro _ _ ⟨rfl, rfl⟩
  refine set_s (g := g) (by simp at hl; omega) hC h fun w4 h => ?_
  refine iteB_f (by simp) ?_
  have hC1 := hC.set id n
  have hl1 := len_set (now, S) id n
  dsimp only at hC1 hl1
  revert h hC1 hl1
  generalize (setF (now, S) id n).2 = S1
  intro h hC1 hl1
  rw [wrap_id (x := 1099511627776 - now) ⟨by unfold MT at *; omega, by unfold MT at *; omega⟩]
  have hok1 : advOK now (1099511627776 - now) = true := by unfold advOK MT at *; rw [decide_eq_true]; omega
  have enow : now + (1099511627776 - now) = 1099511627776 := by omega
  refine adv_s (g := g) (by simp at hl; omega) hC1 h (fun _ s1 w5 h => ?_) fun hn _ => by rw [hok1] at hn; cases hn
  have hC2 := hC1.adv (n := 1099511627776 - now) hok1
  dsimp only at hC2
  rw [enow] at h hC2
  have h := h.drop
  have hl2 := len_left S1 1099511627776
  revert h hC2 hl2
  generalize leftL S1 1099511627776 = S2
  intro hC2 h hl2
  refine adv_s (g := g) (by simp at hl; omega) hC2 h (fun hn => by cases hn) fun _ h => ?_
  refine adv_s (g := g) (by simp at hl; omega) hC2 h (fun hn => by cases hn) fun _ h => ?_
  refine adv_s (g := g) (by simp at hl; omega) hC2 h (fun hok s2 w6 h => ?_) fun hn => by cases hn
  have hC3 := hC2.adv (n := 0) hok
  dsimp only at hC3
  refine iteB_t rfl ?_
  refine now_s (g := g) h ?_
  refine iteB_t rfl ?_
  have hl3 := len_left S2 (1099511627776 + 0)
  refine set_s (g := g) (by simp at hl; omega) hC3 h fun w7 h => ?_
  refine iteB_t ?_ (awake13_s h fun w' h => hk w' h.all)
  have h7 := and7 id
  unfold setF
  rw [if_neg (by unfold MT; omega)]
  split <;> rfl
theorem filt_split (S : DL) {t u : Int} (h : t ≤ u) (hS : Srt S) : ids (cameL S u) = ids (cameL S t) ++ ids (cameL (leftL S t) u) ∧ leftL S u = leftL (leftL S t) u := by
  have e1 := srt_split hS t
  have e1' : S = cameL S t ++ leftL S t := e1
  have k1 : cameL (cameL S t) u = cameL S t := by
    unfold cameL
    rw [List.filter_filter]
    congr 1; funext y
    rw [Bool.eq_iff_iff]; simp; omega
  have k2 : leftL (cameL S t) u = [] := by
    unfold cameL leftL
    rw [List.filter_filter, List.filter_eq_nil_iff]
    intro y _; simp; omega
  have c1 : cameL S u = cameL (cameL S t) u ++ cameL (leftL S t) u := by
    conv => lhs; rw [e1']
    unfold cameL; rw [List.filter_append]
  have c2 : leftL S u = leftL (cameL S t) u ++ leftL (leftL S t) u := by
    conv => lhs; rw [e1']
    unfold leftL; rw [List.filter_append]
  rw [k1] at c1; rw [k2] at c2
  exact ⟨by rw [c1]; unfold ids; rw [List.map_append], c2⟩
theorem len_split (S : DL) (t : Int) : (cameL S t).length + (leftL S t).length = S.length := by
  unfold cameL leftL
  induction S with
  | nil => rfl
  | cons y S ih =>
    by_cases q : y.1 ≤ t
    · rw [List.filter_cons_of_pos (by simpa using q), List.filter_cons_of_neg (by simpa using q)]
      simp only [List.length_cons]; omega
    · rw [List.filter_cons_of_neg (by simpa using q), List.filter_cons_of_pos (by simpa using q)]
      simp only [List.length_cons]; omega
theorem law_splits {l : Sl} {es : List (List Int)} {a b : Int} {k : Bool → World → Prop} (hR : Rws 3 w l (es.map ints)) (h3 : ∀ x ∈ es, x.length = 3 ∧ ∀ y ∈ x, InI y) (hk : ∀ w', St w w' [] → k true w') : pelotonlaw13_ClockSplits l a b w k := by
  have hnl : l.n = es.length := by have := hR.len; simpa using this.symm
  unfold pelotonlaw13_ClockSplits pelotonlaw13_ClockSplits_b
  refine new_s (.nil w) fun g w1 h => ?_
  refine iteB_f rfl ?_
  refine iteB_i (fun hb => awake13_s h fun w' h => hk w' h.all) fun hb => ?_
  have hb := of_decide_eq_false hb
  have hle : es.length ≤ 200 := by omega
  refine joinP_i (fun _ w' => ∃ x : Int × DL, CK x ∧ x.2.length ≤ 200 ∧ St w w' (clk g x :: [])) (fun J hJ => ?_) ?_
  · refine loopP_of (fun (i : Int) w' => ∃ (j : Nat) (x : Int × DL), i = (j : Int) ∧ j ≤ es.length ∧ CK x ∧ x.2.length ≤ j ∧ St w w' (clk g x :: [])) (fun i _ => es.length - i.toNat) ⟨0, (0, []), rfl, by omega, CK.new, by simp, h⟩ ?_
    rintro _ w4 ⟨j, x, rfl, hj, hC, hxl, h⟩ K hK
    refine iteB_i (fun hb2 => ?_) fun hb2 => hJ _ _ ⟨x, hC, by omega, h⟩
    have hb2 := of_decide_eq_true hb2
    have hjl : j < es.length := by omega
    have hej := h3 es[j] (List.getElem_mem hjl)
    obtain ⟨p, q, r, hab⟩ := len3 hej.1
    have hrow : (es.map ints)[((j : Nat) : Int).toNat]? = some (ints [p, q, r]) := by
      rw [Int.toNat_natCast, List.getElem?_map, List.getElem?_eq_getElem hjl, hab]; rfl
    refine ixR_h hR h (by omega) hrow fun ad hp => ?_
    refine ldA_c (e := ints [p, q, r]) rfl (fun i v hv => hp h hv) ?_
    refine do_s (x := x) (a := (p, q, r)) (by omega) hC h fun s w5 h => ?_
    have hl2 := len_act x (p, q, r)
    have e1 : IntKind.wrap .i64 ((j : Int) + 1) = ((j + 1 : Nat) : Int) := by
      rw [wrap_id ⟨by omega, by omega⟩]; omega
    rw [e1]
    exact hK _ _ ⟨j + 1, _, rfl, by omega, hC.act _, by omega, h.drop⟩ (by simp only [Int.toNat_natCast]; omega)
  rintro _ w2 ⟨⟨now, S⟩, hC, hl, h⟩
  have hlo := hC.lo; have hhi := hC.hi
  dsimp only at hlo hhi hl
  refine iteB_i (fun hb => awake13_s h fun w' h => hk w' h.all) fun hb => ?_
  simp only [Bool.or_eq_false_iff, decide_eq_false_iff_not] at hb
  obtain ⟨⟨⟨a0, b0⟩, a1⟩, b1⟩ := hb
  refine clkclone_s (g := g) (by omega) h fun g2 w3 h => ?_
  refine iteB_f rfl ?_
  refine now_s (g := g) h ?_
  refine len_s (g := g) h ?_
  rw [wrap_id (x := a + b) ⟨by omega, by omega⟩, wrap_id (x := now + a) ⟨by unfold MT at *; omega, by unfold MT at *; omega⟩, wrap_id (x := now + a + b) ⟨by unfold MT at *; omega, by unfold MT at *; omega⟩]
  refine adv_s (g := g) (by omega) hC h (fun hok s1 w4 h => ?_) fun hno h => ?_
  · have hok' := of_decide_eq_true hok
    unfold MT at hok' hhi
    refine iteB_f rfl ?_
    have hoka : advOK now a = true := by unfold advOK MT; rw [decide_eq_true]; omega
    have hCa := hC.adv (n := a) hoka
    dsimp only at hCa
    have hokb : advOK (now + a) b = true := by unfold advOK MT; rw [decide_eq_true]; omega
    have hsp := filt_split S (t := now + a) (u := now + a + b) (by omega) hC.srt
    have hla := len_left S (now + a)
    refine adv_s (g := g2) (by omega) hC h (fun _ s2 w5 h => ?_) fun hn => by rw [hoka] at hn; cases hn
    refine now_s (g := g2) h ?_
    refine adv_s (g := g2) (by omega) hCa h (fun _ s3 w6 h => ?_) fun hn => by rw [hokb] at hn; cases hn
    rw [show now + (a + b) = now + a + b by omega, hsp.1, hsp.2] at h
    have hcl := len_split S (now + a)
    have hcl2 := len_split (leftL S (now + a)) (now + a + b)
    have hn1 : s1.n = (cameL S (now + a)).length + (cameL (leftL S (now + a)) (now + a + b)).length := by
      have := h.slen (sz := 1) (s := s1) (vs := ints (ids (cameL S (now + a)) ++ ids (cameL (leftL S (now + a)) (now + a + b)))); simp [ids] at this; omega
    revert hcl hcl2 hn1 h
    have hx1 : (ids (cameL S (now + a))).length = (cameL S (now + a)).length := by simp [ids]
    have hx2 : (ids (cameL (leftL S (now + a)) (now + a + b))).length = (cameL (leftL S (now + a)) (now + a + b)).length := by simp [ids]
    revert hx1 hx2
    generalize ids (cameL S (now + a)) = X at *
    generalize ids (cameL (leftL S (now + a)) (now + a + b)) = Y at *
    generalize leftL (leftL S (now + a)) (now + a + b) = T at *
    generalize (cameL S (now + a)).length = n1 at *
    generalize (cameL (leftL S (now + a)) (now + a + b)).length = n2 at *
    intro hx1 hx2 h hcl hcl2 hn1
    refine joinP_i (fun q w' => q = false ∧ St w w' (clk g2 (now + a + b, T) :: clk g (now + a + b, T) :: [])) (fun J hJ => ?_) ?_
    · refine iteB_f (by simp) ?_
      refine newC_h h fun ga w7 h => ?_
      have h := St.asS (sz := 1) (g := ga) (n := 0) (cs := []) h rfl (by omega) (by simp)
      have sn2 : s2.n = X.length := by have := h.slen (sz := 1) (s := s2) (vs := ints X); simp at this; omega
      have sn3 : s3.n = Y.length := by have := h.slen (sz := 1) (s := s3) (vs := ints Y); simp at this; omega
      have o2 : OwnS 1 w7 s2 (ints X) := h.own
      refine bApp_h (s := ⟨some ⟨ga, 0, none⟩, 0, 0⟩) (vs := []) (x := s2) (ys := ints X) h (elI1 (by kernel_rfl)) (by kernel_rfl) o2.sls o2.one (by simp only; omega) (by simp only; omega) fun s4 w8 h n4 => ?_
      have o3 : OwnS 1 w8 s3 (ints Y) := h.own
      refine bApp_h (s := s4) (vs := [] ++ ints X) (x := s3) (ys := ints Y) h (elI1 (by kernel_rfl)) (by kernel_rfl) o3.sls o3.one (by simp only [] at n4 ⊢; omega) (by simp only [] at n4 ⊢; omega) fun s5 w9 h n5 => ?_
      have e : [] ++ ints X ++ ints Y = ints (X ++ Y) := by simp [ints]
      rw [e] at h
      refine same_s (a := s1) (b := s5) (xs := X ++ Y) (ys := X ++ Y) (by rw [List.length_append]; omega) h fun w10 h => ?_
      refine hJ _ _ ⟨by simp, ?_⟩
      have h : St w w10 (slc 1 s5 (ints (X ++ Y)) :: slc 1 s3 (ints Y) :: slc 1 s2 (ints X) :: slc 1 s1 (ints (X ++ Y)) :: clk g2 (now + a + b, T) :: clk g (now + a + b, T) :: []) := h
      exact h.drop.drop.drop.drop
    rintro _ w7 ⟨rfl, h⟩
    refine iteB_f rfl ?_
    refine now_s (g := g) h ?_
    refine iteB_t (by simp) ?_
    refine now_s (g := g2) h ?_
    refine now_s (g := g) h ?_
    refine iteB_t (by simp) ?_
    refine len_s (g := g) h ?_
    refine iteB_t ?_ ?_
    · dsimp only
      rw [wrap_id ⟨by omega, by omega⟩]
      simp only [beq_iff_eq]
      omega
    refine len_s (g := g2) h ?_
    refine len_s (g := g) h ?_
    exact iteB_t (by simp) (awake13_s h fun w' h => hk w' h.all)
  · have hno' := of_decide_eq_false hno
    unfold MT at hno' hhi
    refine iteB_t rfl (iteB_t ?_ ?_)
    · rw [Bool.and_eq_true, decide_eq_true_eq]
      exact ⟨rfl, by omega⟩
    refine now_s (g := g) h (iteB_t (by simp) ?_)
    refine len_s (g := g) h (iteB_t (by simp) ?_)
    exact awake13_s h fun w' h => hk w' h.all
end
end Go.Proofs.Ytheallacpidcmaa
