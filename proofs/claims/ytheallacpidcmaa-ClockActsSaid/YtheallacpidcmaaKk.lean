/-
  ClockActs.
-/
import Derived.Test.YtheallacpidcmaaKj
set_option linter.unusedSimpArgs false
set_option linter.unusedVariables false
set_option maxRecDepth 100000
namespace Go.Proofs.Ytheallacpidcmaa
open Go Go.Ev Go.Proofs
/-- what stands of the clone -/
def Cln (at_ : Int) (j : Nat) (d kp : Option Addr) (M : List HP) : Prop :=
  0 ≤ at_ → at_ < j → ∃ (gd gk : Nat) (x : Int × DL) (E : DL) (M' : List HP), d = some ⟨gd, 0, none⟩ ∧ kp = some ⟨gk, 0, none⟩ ∧ CK x ∧ x.2.length ≤ 300 ∧ E.Perm x.2 ∧ M = rfc gk (x.1, E) :: clk gd x :: M'
section
variable {w0 w : World}
theorem left_less {now : Int} {x : Int × Int} {r : DL} {n : Int} (h : x.1 ≤ now + n) : (leftL (x :: r) (now + n)).length ≤ r.length := by
  unfold leftL
  rw [List.filter_cons_of_neg (by simpa using h)]
  exact List.length_filter_le _ _
theorem drop_less {x : Int × Int} {r : DL} : (dropL (x :: r) x.2).length ≤ r.length := by
  unfold dropL
  rw [List.filter_cons_of_neg (by simp)]
  exact List.length_filter_le _ _
theorem law_acts {l : Sl} {es : List (List Int)} {at_ : Int} {k : Bool → World → Prop} (hR : Rws 3 w l (es.map ints)) (h3 : ∀ x ∈ es, x.length = 3 ∧ ∀ y ∈ x, InI y) (hk : ∀ w', St w w' [] → k true w') : pelotonlaw13_ClockActs l at_ w k := by
  have hnl : l.n = es.length := by have := hR.len; simpa using this.symm
  unfold pelotonlaw13_ClockActs pelotonlaw13_ClockActs_b
  refine new_s (.nil w) fun g w1 h => ?_
  refine newC_h h fun gr w2 h => ?_
  have h : St w w2 (rfc gr (0, []) :: clk g (0, []) :: []) := by
    have h := (h.nilS 2).swap
    exact rfc_shut (s := ⟨none, 0, 0⟩) (E := []) h
  refine joinP_i (fun b w' => b = false ∧ St w w' (rfc gr (0, []) :: clk g (0, []) :: [])) (fun J hJ => ?_) ?_
  · refine iteB_f rfl ?_
    refine is_s (by simp) CK.new (.refl _) h fun w3 h => ?_
    exact hJ _ _ ⟨rfl, h⟩
  rintro _ w3 ⟨rfl, h⟩
  refine iteB_f rfl ?_
  refine iteB_i (fun hb => awake13_s h fun w' h => hk w' h.all) fun hb => ?_
  have hb := of_decide_eq_false hb
  have hle : es.length ≤ 300 := by omega
  refine rcopy_s (g := gr) (by simp) h fun gk w4 h => ?_
  have h := h.drop
  refine joinP_i (fun (z : Option Addr × Option Addr) w' => ∃ (x : Int × DL) (E : DL) (M : List HP), CK x ∧ x.2.length ≤ 300 ∧ E.Perm x.2 ∧ Cln at_ es.length z.1 z.2 M ∧ St w w' (rfc gr (x.1, E) :: clk g x :: M)) (fun J hJ => ?_) ?_
  · refine loopP_of (fun (z : Option Addr × Option Addr × Int) w' => ∃ (j : Nat) (x : Int × DL) (E : DL) (M : List HP), z.2.2 = (j : Int) ∧ j ≤ es.length ∧ CK x ∧ x.2.length ≤ j ∧ E.Perm x.2 ∧ Cln at_ j z.1 z.2.1 M ∧ St w w' (rfc gr (x.1, E) :: clk g x :: M)) (fun z _ => es.length - z.2.2.toNat) ⟨0, (0, []), [], [], rfl, by omega, CK.new, by simp, .refl _, fun h1 h2 => by omega, h⟩ ?_
    rintro ⟨d, kp, _⟩ w5 ⟨j, x, E, M, rfl, hj, hC, hxl, hp, hM, h⟩ K hK
    dsimp only at hM ⊢
    refine iteB_i (fun hb2 => ?_) fun hb2 => ?_
    · have hb2 := of_decide_eq_true hb2
      have hjl : j < es.length := by omega
      have hej := h3 es[j] (List.getElem_mem hjl)
      obtain ⟨a, b, n, hab⟩ := len3 hej.1
      have hrow : (es.map ints)[((j : Nat) : Int).toNat]? = some (ints [a, b, n]) := by
        rw [Int.toNat_natCast, List.getElem?_map, List.getElem?_eq_getElem hjl, hab]; rfl
      have hpl := hp.length_eq
      refine ixR_h hR h (by omega) hrow fun p hpp => ?_
      refine ldA_c (e := ints [a, b, n]) rfl (fun i v hv => hpp h hv) ?_
      refine do_s (x := x) (a := (a, b, n)) (by omega) hC h fun s w6 h => ?_
      refine ixR_h hR h (by omega) hrow fun p hpp => ldI_i (hpp h (j := 0) rfl) ?_
      have hC2 := hC.act (a, b, n)
      have hl2 := len_act x (a, b, n)
      refine joinP_i (fun _ w' => ∃ E', E'.Perm (doF x (a, b, n)).1.2 ∧ St w w' (rfc gr ((doF x (a, b, n)).1.1, E') :: clk g (doF x (a, b, n)).1 :: M)) (fun J2 hJ2 => ?_) ?_
      · have h : St w w6 (slc 1 s (ints (doF x (a, b, n)).2.1) :: rfc gr (x.1, E) :: clk g (doF x (a, b, n)).1 :: M) := h
        unfold doF at h hJ2 ⊢
        dsimp only at h hJ2 ⊢
        refine iteB_i (fun ha => ?_) fun ha => ?_
        · have ha : a = 0 := by simpa using ha
          rw [if_pos ha] at h hJ2 ⊢
          dsimp only at h hJ2 ⊢
          refine drew_h h fun w7 h => ?_
          refine ixR_h hR h (by omega) hrow fun p hpp => ldI_i (hpp h (j := 1) rfl) ?_
          refine ixR_h hR h (by omega) hrow fun p hpp => ldI_i (hpp h (j := 2) rfl) ?_
          refine rset_s (g := gr) (now := x.1) (S := x.2) (by omega) hp hC h fun E' w8 hp' h => ?_
          refine iteB_f (by simp) ?_
          exact hJ2 _ _ ⟨E', hp', h.drop⟩
        · have ha : a ≠ 0 := by simpa using ha
          rw [if_neg ha] at h hJ2 ⊢
          refine iteB_i (fun hb => ?_) fun hb => ?_
          · have hb : a = 1 := by simpa using hb
            rw [if_pos hb] at h hJ2 ⊢
            dsimp only at h hJ2 ⊢
            refine ixR_h hR h (by omega) hrow fun p hpp => ldI_i (hpp h (j := 1) rfl) ?_
            refine rdrop_s (g := gr) (now := x.1) (S := x.2) (by omega) hp hC.one h fun E' w8 hp' h => ?_
            refine iteB_f (by simp) ?_
            exact hJ2 _ _ ⟨E', hp', h.drop⟩
          · have hb : a ≠ 1 := by simpa using hb
            rw [if_neg hb] at h hJ2
            refine iteB_i (fun hb => ?_) fun hb => ?_
            · have hb : a = 2 := by simpa using hb
              rw [if_pos hb] at h hJ2 ⊢
              rw [if_neg (by omega)]
              refine ixR_h hR h (by omega) hrow fun p hpp => ldI_i (hpp h (j := 2) rfl) ?_
              refine radv_s (g := gr) (now := x.1) (S := x.2) (by omega) hp hC h (fun hok E' s' w8 hp' h => ?_) fun hno h => ?_
              · rw [if_pos hok] at h hJ2 ⊢
                dsimp only at h hJ2 ⊢
                refine joinP_i (fun q w' => q = false ∧ St w w' (rfc gr (x.1 + n, E') :: clk g (x.1 + n, leftL x.2 (x.1 + n)) :: M)) (fun J3 hJ3 => ?_) ?_
                · refine iteB_f rfl ?_
                  have hcl := len_split x.2 (x.1 + n)
                  refine same_s (a := s) (b := s') (xs := ids (cameL x.2 (x.1 + n))) (ys := ids (cameL x.2 (x.1 + n))) (by simp only [ids, List.length_map]; omega) h fun w9 h => ?_
                  refine hJ3 _ _ ⟨by simp, ?_⟩
                  have h : St w w9 (slc 1 s' (ints (ids (cameL x.2 (x.1 + n)))) :: slc 1 s (ints (ids (cameL x.2 (x.1 + n)))) :: rfc gr (x.1 + n, E') :: clk g (x.1 + n, leftL x.2 (x.1 + n)) :: M) := h
                  exact h.drop.drop
                rintro _ w9 ⟨rfl, h⟩
                refine iteB_f rfl ?_
                exact hJ2 _ _ ⟨E', hp', h⟩
              · rw [if_neg (by simp [hno])] at h hJ2 ⊢
                dsimp only at h hJ2 ⊢
                have h := h.nilS 1
                refine joinP_i (fun q w' => q = false ∧ St w w' (rfc gr (x.1, E) :: clk g x :: M)) (fun J3 hJ3 => ?_) ?_
                · refine iteB_f rfl ?_
                  refine same_s (a := s) (b := ⟨none, 0, 0⟩) (xs := []) (ys := []) (by simp) h fun w9 h => ?_
                  exact hJ3 _ _ ⟨by simp, h.drop.drop⟩
                rintro _ w9 ⟨rfl, h⟩
                refine iteB_f rfl ?_
                exact hJ2 _ _ ⟨E, hp, h⟩
            · have hb : a ≠ 2 := by simpa using hb
              rw [if_neg hb] at h hJ2
              exact hJ2 _ _ ⟨E, hp, h.drop⟩
      rintro _ w7 ⟨E', hp', h⟩
      revert h hp' hC2 hl2
      generalize (doF x (a, b, n)).1 = x'
      intro hC2 hl2 hp' h
      have hpl' := hp'.length_eq
      refine is_s (g := g) (gr := gr) (now := x'.1) (S := x'.2) (E := E') (R := M) (by omega) hC2 hp' h fun w8 h => ?_
      refine iteB_f rfl ?_
      have e1 : IntKind.wrap .i64 ((j : Int) + 1) = ((j + 1 : Nat) : Int) := by
        rw [wrap_id ⟨by omega, by omega⟩]; omega
      rw [e1]
      refine iteB_i (fun hat => ?_) fun hat => ?_
      · have hat : (j : Int) = at_ := by simpa using hat
        refine clkclone_s (g := g) (now := x'.1) (S := x'.2) (by omega) h fun gd w9 h => ?_
        refine rcopy_s (g := gr) (now := x'.1) (E := E') (by omega) h fun gk2 w10 h => ?_
        have h : St w w10 (rfc gk2 (x'.1, E') :: clk gd (x'.1, x'.2) :: rfc gr (x'.1, E') :: clk g (x'.1, x'.2) :: M) := h
        refine hK _ _ ⟨j + 1, x', E', rfc gk2 (x'.1, E') :: clk gd x' :: M, rfl, by omega, hC2, by omega, hp', fun _ _ => ⟨gd, gk2, x', E', M, rfl, rfl, hC2, by omega, hp', rfl⟩, h.rot2⟩ (by simp only [Int.toNat_natCast]; omega)
      · have hat : (j : Int) ≠ at_ := by simpa using hat
        exact hK _ _ ⟨j + 1, x', E', M, rfl, by omega, hC2, by omega, hp', fun q1 q2 => hM q1 (by omega), h⟩ (by simp only [Int.toNat_natCast]; omega)
    · have hb2 := of_decide_eq_false hb2
      have : j = es.length := by omega
      subst this
      exact hJ _ _ ⟨x, E, M, hC, by omega, hp, hM, h⟩
  rintro ⟨d, kp⟩ w5 ⟨x, E, M, hC, hxl, hp, hM, h⟩
  dsimp only at hM ⊢
  refine iteB_i (fun hat => awake13_s h fun w' h => hk w' h.all) fun hat => ?_
  simp only [Bool.or_eq_false_iff, decide_eq_false_iff_not] at hat
  obtain ⟨gd, gk2, x2, E2, M', rfl, rfl, hC2, hxl2, hp2, rfl⟩ := hM (by omega) (by omega)
  have h := h.rot2
  have hpl := hp.length_eq
  have fin : ∀ w6 (x3 : Int × DL) E3, x3.2 = [] → St w w6 (rfc gk2 (x3.1, E3) :: clk gd x3 :: rfc gr (x.1, E) :: clk g x :: M') →
      clock_Clock_Len (some ⟨gd, 0, none⟩) w6 fun i90 w91 =>
            iteB (i90 == (0 : Int)) (
              pelotonlaw13_is (some ⟨g, 0, none⟩) (some ⟨gr, 0, none⟩) w91 fun b92 w93 =>
              iteB b92 (
                pelotonlaw13_awake  w93 fun b94 w95 =>
                (k b94 w95)) (
                (k false w93))) (
              (k false w91)) := by
    intro w6 x3 E3 he h
    refine len_s (g := gd) (now := x3.1) (S := x3.2) h ?_
    refine iteB_t (by rw [he]; rfl) ?_
    refine is_s (g := g) (gr := gr) (now := x.1) (S := x.2) (E := E) (by omega) hC hp h.rot2 fun w7 h => ?_
    exact iteB_t rfl (awake13_s h fun w' h => hk w' h.all)
  refine loopP_of (fun (i : Int) w' => ∃ (j : Nat) (x3 : Int × DL) (E3 : DL), i = (j : Int) ∧ j ≤ 300 ∧ CK x3 ∧ x3.2.length + j ≤ 300 ∧ E3.Perm x3.2 ∧ St w w' (rfc gk2 (x3.1, E3) :: clk gd x3 :: rfc gr (x.1, E) :: clk g x :: M')) (fun i _ => 300 - i.toNat) ⟨0, x2, E2, rfl, by omega, hC2, by omega, hp2, h⟩ ?_
  rintro _ w6 ⟨j, x3, E3, rfl, hj, hC3, hxl3, hp3, h⟩ K hK
  have hpl3 := hp3.length_eq
  obtain ⟨now, S⟩ := x3
  dsimp only at hxl3 hp3 hpl3 h
  refine iteB_i (fun hb2 => ?_) fun hb2 => ?_
  · have hb2 := of_decide_eq_true hb2
    refine is_s (g := gd) (gr := gk2) (now := now) (S := S) (E := E3) (by omega) hC3 hp3 h fun w7 h => ?_
    refine iteB_f rfl ?_
    refine next_s (g := gd) (now := now) (S := S) hC3.srt h fun w8 h => ?_
    cases S with
    | nil => exact iteB_t rfl (fin w8 (now, []) E3 rfl h)
    | cons y r =>
      have hlo := hC3.lo; have hhi := hC3.hi
      obtain ⟨hd1, hd2⟩ := hC3.due y (by simp)
      dsimp only at hlo hhi hd1
      have e1 : IntKind.wrap .i64 ((j : Int) + 1) = ((j + 1 : Nat) : Int) := by
        rw [wrap_id ⟨by omega, by omega⟩]; omega
      rw [e1]
      have en : nextF (y :: r) = (y.1, y.2, true) := rfl
      rw [en]
      refine iteB_f rfl ?_
      dsimp only
      have hl0 : (y :: r).length = r.length + 1 := rfl
      refine iteB_i (fun hb3 => ?_) fun hb3 => ?_
      · have hhas : has (y :: r) y.2 = true := has_iff.2 ⟨y, by simp, rfl⟩
        refine joinP_i (fun q w' => q = false ∧ ∃ E4, E4.Perm (dropL (y :: r) y.2) ∧ St w w' (rfc gk2 (now, E4) :: clk gd (now, dropL (y :: r) y.2) :: rfc gr (x.1, E) :: clk g x :: M')) (fun J hJ => ?_) ?_
        · refine drop_s (g := gd) (now := now) (S := y :: r) (by omega) hC3 h fun w9 h => ?_
          rw [hhas]
          refine iteB_f rfl ?_
          refine rdrop_s (g := gk2) (now := now) (S := y :: r) (by omega) hp3 hC3.one h fun E4 w10 hp4 h => ?_
          rw [hhas]
          exact hJ _ _ ⟨rfl, E4, hp4, h⟩
        rintro _ w9 ⟨rfl, E4, hp4, h⟩
        refine iteB_f rfl ?_
        have hdl := drop_less (x := y) (r := r)
        exact hK _ _ ⟨j + 1, (now, dropL (y :: r) y.2), E4, rfl, by omega, hC3.drop y.2, by dsimp only; omega, hp4, h⟩ (by simp only [Int.toNat_natCast]; omega)
      · have hb3 := of_decide_eq_false (Bool.or_eq_false_iff.1 hb3).2
        refine now_s (g := gd) (now := now) (S := y :: r) h ?_
        have ew : IntKind.wrap .i64 (y.1 - now) = y.1 - now := wrap_id ⟨by unfold MT at *; omega, by unfold MT at *; omega⟩
        rw [ew]
        have hok : advOK now (y.1 - now) = true := by unfold advOK MT at *; rw [decide_eq_true]; omega
        refine adv_s (g := gd) (now := now) (S := y :: r) (by omega) hC3 h (fun _ s1 w9 h => ?_) fun hn => by rw [hok] at hn; cases hn
        refine nn_i ?_
        have h : St w w9 (slc 1 s1 (ints (ids (cameL (y :: r) (now + (y.1 - now))))) :: rfc gk2 (now, E3) :: clk gd (now + (y.1 - now), leftL (y :: r) (now + (y.1 - now))) :: rfc gr (x.1, E) :: clk g x :: M') := h
        obtain ⟨s2, hraw⟩ := rfc_open h.swap
        refine ldI_h (g := gk2) (o := 0) hraw rfl ?_
        rw [ew]
        refine radv_s (g := gk2) (now := now) (S := y :: r) (by omega) hp3 hC3 h (fun _ E4 s3 w10 hp4 h => ?_) fun hn => by rw [hok] at hn; cases hn
        have h : St w w10 (slc 1 s3 (ints (ids (cameL (y :: r) (now + (y.1 - now))))) :: slc 1 s1 (ints (ids (cameL (y :: r) (now + (y.1 - now))))) :: rfc gk2 (now + (y.1 - now), E4) :: clk gd (now + (y.1 - now), leftL (y :: r) (now + (y.1 - now))) :: rfc gr (x.1, E) :: clk g x :: M') := h
        refine joinP_i (fun q w' => q = false ∧ St w w' (rfc gk2 (now + (y.1 - now), E4) :: clk gd (now + (y.1 - now), leftL (y :: r) (now + (y.1 - now))) :: rfc gr (x.1, E) :: clk g x :: M')) (fun J hJ => ?_) ?_
        · refine iteB_f rfl ?_
          have hcl := len_split (y :: r) (now + (y.1 - now))
          refine same_s (a := s1) (b := s3) (xs := ids (cameL (y :: r) (now + (y.1 - now)))) (ys := ids (cameL (y :: r) (now + (y.1 - now)))) (by simp only [ids, List.length_map]; omega) h fun w11 h => ?_
          exact hJ _ _ ⟨by simp, h.drop.drop⟩
        rintro _ w11 ⟨rfl, h⟩
        refine iteB_f rfl ?_
        have hll := left_less (now := now) (n := y.1 - now) (x := y) (r := r) (by omega)
        exact hK _ _ ⟨j + 1, (now + (y.1 - now), leftL (y :: r) (now + (y.1 - now))), E4, rfl, by omega, hC3.adv hok, by dsimp only; omega, hp4, h⟩ (by simp only [Int.toNat_natCast]; omega)
  · have hb2 := of_decide_eq_false hb2
    exact fin w6 (now, S) E3 (List.eq_nil_of_length_eq_zero (by dsimp only; omega)) h
end
end Go.Proofs.Ytheallacpidcmaa
