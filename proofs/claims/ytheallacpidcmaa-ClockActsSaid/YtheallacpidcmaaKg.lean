/-
  ClockOrders.
-/
import Derived.Test.YtheallacpidcmaaKf
set_option linter.unusedSimpArgs false
set_option linter.unusedVariables false
set_option maxRecDepth 100000
namespace Go.Proofs.Ytheallacpidcmaa
open Go Go.Ev Go.Proofs

abbrev AL := List (Int × Int × Int)
def g3 (E : AL) (k : Nat) : Int × Int × Int := E.getD k (0, 0, 0)
def fl3 : AL → List Value
  | [] => []
  | x :: d => .int .i64 x.1 :: .int .i64 x.2.1 :: .int .i64 x.2.2 :: fl3 d
theorem fl3_len : ∀ d : AL, (fl3 d).length = d.length * 3
  | [] => rfl
  | x :: d => by simp [fl3, fl3_len d]; omega
theorem fl3_app : ∀ (d e : AL), fl3 (d ++ e) = fl3 d ++ fl3 e
  | [], e => rfl
  | x :: d, e => by simp [fl3, fl3_app d e]
theorem g3_cons {x : Int × Int × Int} {d : AL} {k : Nat} : g3 (x :: d) (k + 1) = g3 d k := by simp [g3]
theorem fl3_get1 : ∀ {d : AL} {i : Nat}, i < d.length → (fl3 d)[i * 3 + 1]? = some (.int .i64 (g3 d i).2.1)
  | x :: d, 0, _ => rfl
  | x :: d, i + 1, h => by
    rw [show (i + 1) * 3 + 1 = (i * 3 + 1) + 1 + 1 + 1 by omega, g3_cons]
    simp only [fl3, List.getElem?_cons_succ]
    exact fl3_get1 (by simpa using h)
theorem fl3_get2 : ∀ {d : AL} {i : Nat}, i < d.length → (fl3 d)[i * 3 + 2]? = some (.int .i64 (g3 d i).2.2)
  | x :: d, 0, _ => rfl
  | x :: d, i + 1, h => by
    rw [show (i + 1) * 3 + 2 = (i * 3 + 2) + 1 + 1 + 1 by omega, g3_cons]
    simp only [fl3, List.getElem?_cons_succ]
    exact fl3_get2 (by simpa using h)
def key3 (e : Int × Int × Int) : Int × Int := (e.2.2, e.2.1)
theorem setF_ok {x : Int × DL} {id n : Int} (h : (setF x id n).1 = 0) : 0 ≤ id ∧ 1 ≤ n ∧ n ≤ MT ∧ ¬ has x.2 id = true ∧ (setF x id n).2 = ins (x.1 + n, id) x.2 := by
  unfold setF at h ⊢
  split at h
  · simp at h
  · split at h
    · simp at h
    · rename_i h1 h2
      rw [if_neg h1, if_neg h2]
      exact ⟨by omega, by omega, by omega, h2, rfl⟩
theorem setF_no {x : Int × DL} {id n : Int} (h : (setF x id n).1 ≠ 0) : (setF x id n).2 = x.2 := by
  unfold setF at h ⊢
  split
  · rfl
  · split
    · rfl
    · rename_i h1 h2
      rw [if_neg h1, if_neg h2] at h
      exact (h rfl).elim
theorem setF_yes {x : Int × DL} {id n : Int} (h0 : 0 ≤ id) (h1 : 1 ≤ n) (h2 : n ≤ MT) (h3 : ¬ has x.2 id = true) : setF x id n = (0, ins (x.1 + n, id) x.2) := by
  unfold setF
  rw [if_neg (by omega), if_neg h3]
theorem el3 : ElS Go.Proofs.Try.prog 83 3 24 (.agg #[.int .i64 0, .int .i64 0, .int .i64 0]) := ⟨by kernel_rfl, rfl⟩
section
variable {w0 w : World} {L : List HP}
theorem s3len {s : Sl} {E : AL} {f : HP → List HP} (h : St w0 w L) [a : At L (slc 3 s) (fl3 E) f] : s.n = E.length := by
  have := h.slen (sz := 3) (s := s) (vs := fl3 E); rw [fl3_len] at this; omega
theorem ld31_h {s : Sl} {E : AL} {f : HP → List HP} {i : Int} {c : Int → Prop} (h : St w0 w L) [a : At L (slc 3 s) (fl3 E) f] (h0 : 0 ≤ i) (h1 : i < E.length) (hc : c (g3 E i.toNat).2.1) : ixS s i 3 fun a => ldI .i64 w (Addr.add a 1) c := by
  have hn := s3len (s := s) (E := E) h
  refine ixS_h h (by omega) h0 (by omega) fun g o _ hr _ => ?_
  rw [add_mk]
  exact ldI_i (hr h 1 _ (by omega) (fl3_get1 (by omega))) hc
theorem ld32_h {s : Sl} {E : AL} {f : HP → List HP} {i : Int} {c : Int → Prop} (h : St w0 w L) [a : At L (slc 3 s) (fl3 E) f] (h0 : 0 ≤ i) (h1 : i < E.length) (hc : c (g3 E i.toNat).2.2) : ixS s i 3 fun a => ldI .i64 w (Addr.add a 2) c := by
  have hn := s3len (s := s) (E := E) h
  refine ixS_h h (by omega) h0 (by omega) fun g o _ hr _ => ?_
  rw [add_mk]
  exact ldI_i (hr h 2 _ (by omega) (fl3_get2 (by omega))) hc
theorem g3_mem {E : AL} {i : Nat} (h : i < E.length) : g3 E i ∈ E := by
  unfold g3; rw [List.getD_eq_getElem?_getD, List.getElem?_eq_getElem h]; simp
theorem when_s {s : Sl} {E : AL} {f : HP → List HP} {e : Int × Int × Int} {c : Int → World → Prop} (hl : E.length ≤ 100000) (h : St w0 w L) [a : At L (slc 3 s) (fl3 E) f] (he : e ∈ E) (hu : ∀ e' ∈ E, e'.2.1 = e.2.1 → e' = e) (hc : c e.2.2 w) : pelotonlaw13_when s e.2.1 w c := by
  have hn := s3len (s := s) (E := E) h
  obtain ⟨m, hm, hme⟩ := List.getElem_of_mem he
  have hmg : g3 E m = e := by unfold g3; rw [List.getD_eq_getElem?_getD, List.getElem?_eq_getElem hm]; exact hme
  unfold pelotonlaw13_when
  refine loopP_of (fun (i : Int) w' => w' = w ∧ ∃ j : Nat, i = (j : Int) ∧ j ≤ m) (fun i _ => m - i.toNat) ⟨rfl, 0, rfl, by omega⟩ ?_
  rintro _ _ ⟨rfl, j, rfl, hj⟩ C hC
  refine iteB_t (decide_eq_true (by omega)) ?_
  refine ld31_h (s := s) (E := E) h (by omega) (by omega) ?_
  simp only [Int.toNat_natCast]
  refine iteB_i (fun hb => ?_) fun hb => ?_
  · have hb : (g3 E j).2.1 = e.2.1 := by simpa using hb
    refine ld32_h (s := s) (E := E) h (by omega) (by omega) ?_
    simp only [Int.toNat_natCast]
    rw [hu _ (g3_mem (by omega)) hb]; exact hc
  · have hb : (g3 E j).2.1 ≠ e.2.1 := by simpa using hb
    have hne : j ≠ m := by rintro rfl; exact hb (by rw [hmg])
    have e1 : IntKind.wrap .i64 ((j : Int) + 1) = ((j + 1 : Nat) : Int) := by
      rw [wrap_id ⟨by omega, by omega⟩]; omega
    rw [e1]
    exact hC _ _ ⟨rfl, j + 1, rfl, by omega⟩ (by simp only [Int.toNat_natCast]; omega)
theorem drop_g3 {E : AL} {i : Nat} (h : i < E.length) : E.drop i = g3 E i :: E.drop (i + 1) := by
  unfold g3
  rw [List.getD_eq_getElem?_getD, List.getElem?_eq_getElem h, List.drop_eq_getElem_cons h]; rfl
/-- what was set -/
structure Ord (E : AL) (S : DL) : Prop where
  ok : ∀ e ∈ E, 0 ≤ e.2.1 ∧ 1 ≤ e.2.2 ∧ e.2.2 ≤ MT
  perm : S.Perm (E.map key3)
  ck : CK (0, S)
theorem Ord.one {E : AL} {S : DL} (h : Ord E S) : (E.map (·.2.1)).Nodup := by
  have h1 := h.ck.one
  have h2 := (h.perm.map (·.2)).nodup_iff.1 h1
  rw [List.map_map] at h2
  exact h2
theorem nodup_uniq : ∀ {E : AL}, (E.map (·.2.1)).Nodup → ∀ {e e'}, e ∈ E → e' ∈ E → e'.2.1 = e.2.1 → e' = e
  | x :: E, h, e, e', he, he', q => by
    rw [List.map_cons, List.nodup_cons] at h
    rcases List.mem_cons.1 he with k1 | k1
    · rcases List.mem_cons.1 he' with k2 | k2
      · rw [k1, k2]
      · exact (h.1 (List.mem_map.2 ⟨e', k2, by rw [q, k1]⟩)).elim
    · rcases List.mem_cons.1 he' with k2 | k2
      · exact (h.1 (List.mem_map.2 ⟨e, k1, by rw [← q, k2]⟩)).elim
      · exact nodup_uniq h.2 k1 k2 q
theorem len3 : ∀ {x : List Int}, x.length = 3 → ∃ a b c, x = [a, b, c]
  | [a, b, c], _ => ⟨a, b, c, rfl⟩
theorem law_orders {l : Sl} {es : List (List Int)} {k : Bool → World → Prop} (hR : Rws 3 w l (es.map ints)) (h3 : ∀ x ∈ es, x.length = 3 ∧ ∀ y ∈ x, InI y) (hk : ∀ w', St w w' [] → k true w') : pelotonlaw13_ClockOrders l w k := by
  have hnl : l.n = es.length := by have := hR.len; simpa using this.symm
  unfold pelotonlaw13_ClockOrders pelotonlaw13_ClockOrders_b
  refine iteB_i (fun hb => awake13_s (.nil w) hk) fun hb => ?_
  have hb := of_decide_eq_false hb
  have hle : es.length ≤ 60 := by omega
  refine new_s (.nil w) fun g1 w1 h => ?_
  refine new_s h fun g2 w2 h => ?_
  refine iteB_f rfl ?_
  refine newC_h h fun ga w3 h => ?_
  have h : St w w3 (slc 3 ⟨some ⟨ga, 0, none⟩, 0, 0⟩ (fl3 []) :: clk g2 (0, []) :: clk g1 (0, []) :: []) := St.asS (sz := 3) (g := ga) (n := 0) (cs := []) h rfl (by omega) (by simp)
  refine joinP_i (fun s w' => ∃ (E : AL) (S : DL), Ord E S ∧ E.length ≤ 60 ∧ St w w' (slc 3 s (fl3 E) :: clk g2 (0, []) :: clk g1 (0, S) :: [])) (fun J hJ => ?_) ?_
  · refine loopP_of (fun (x : Sl × Int) w' => ∃ (j : Nat) (E : AL) (S : DL), x.2 = (j : Int) ∧ j ≤ es.length ∧ Ord E S ∧ E.length ≤ j ∧ St w w' (slc 3 x.1 (fl3 E) :: clk g2 (0, []) :: clk g1 (0, S) :: [])) (fun x _ => es.length - x.2.toNat) ⟨0, [], [], rfl, by omega, ⟨by simp, .refl _, CK.new⟩, by simp, h⟩ ?_
    rintro ⟨s, _⟩ w4 ⟨j, E, S, rfl, hj, hO, hE, h⟩ C hC
    refine iteB_i (fun hb2 => ?_) fun hb2 => ?_
    · have hb2 := of_decide_eq_true hb2
      dsimp only at hb2 h ⊢
      have hjl : j < es.length := by omega
      have hej := h3 es[j] (List.getElem_mem hjl)
      obtain ⟨a, b, c, hab⟩ := len3 hej.1
      have hrow : (es.map ints)[((j : Nat) : Int).toNat]? = some (ints [a, b, c]) := by
        rw [Int.toNat_natCast, List.getElem?_map, List.getElem?_eq_getElem hjl, hab]; rfl
      have hsl := hO.perm.length_eq
      rw [List.length_map] at hsl
      have e1 : IntKind.wrap .i64 ((j : Int) + 1) = ((j + 1 : Nat) : Int) := by
        rw [wrap_id ⟨by omega, by omega⟩]; omega
      refine drew_h h fun w5 h => ?_
      refine ixR_h hR h (by omega) hrow fun p hp => ldI_i (hp h (j := 1) rfl) ?_
      refine ixR_h hR h (by omega) hrow fun p hp => ldI_i (hp h (j := 2) rfl) ?_
      refine set_s (g := g1) (by omega) hO.ck h fun w6 h => ?_
      refine iteB_i (fun hb3 => ?_) fun hb3 => ?_
      · have hb3 : (setF (0, S) b c).1 = 0 := by simpa using hb3
        obtain ⟨k1, k2, k3, k4, k5⟩ := setF_ok hb3
        rw [k5] at h
        refine ixR_h hR h (by omega) hrow fun p hp => ?_
        refine ldA_c (e := ints [a, b, c]) rfl (fun i v hv => hp h hv) ?_
        refine spl_i #[.int .i64 a, .int .i64 b, .int .i64 c] rfl rfl ?_
        refine newC_h h fun gb w7 h => ?_
        have hsn := s3len (s := s) (E := E) h
        refine bApp_h (s := s) (vs := fl3 E) (x := ⟨some ⟨gb, 0, none⟩, 1, 1⟩) (ys := [.int .i64 a, .int .i64 b, .int .i64 c]) h el3 (by kernel_rfl) (blk_slsN (n := 1) (l := [.int .i64 a, .int .i64 b, .int .i64 c]) (h.blk (g := gb)) rfl 1) (by simp [Value.oneCell']) (by simp only; omega) (by simp only; omega) fun s2 w8 h n2 => ?_
        have h := h.drop
        have ef : fl3 E ++ [.int .i64 a, .int .i64 b, .int .i64 c] = fl3 (E ++ [(a, b, c)]) := by rw [fl3_app]; rfl
        rw [ef] at h
        rw [e1]
        refine hC _ _ ⟨j + 1, E ++ [(a, b, c)], ins (c, b) S, rfl, by omega, ⟨fun e he => ?_, ?_, ?_⟩, by simp; omega, ?_⟩ (by simp only [Int.toNat_natCast]; omega)
        · rcases List.mem_append.1 he with he | he
          · exact hO.ok e he
          · simp only [List.mem_singleton] at he; subst he; exact ⟨k1, k2, k3⟩
        · rw [List.map_append]
          exact (ins_perm _ _).trans ((hO.perm.cons _).trans (List.perm_append_comm (l₁ := [(c, b)]) (l₂ := E.map key3)))
        · have := hO.ck.set b c
          dsimp only at this
          rw [k5] at this
          simpa using this
        · simpa using h
      · have hb3 : (setF (0, S) b c).1 ≠ 0 := by simpa using hb3
        rw [setF_no hb3] at h
        rw [e1]
        exact hC _ _ ⟨j + 1, E, S, rfl, by omega, hO, by omega, h⟩ (by simp only [Int.toNat_natCast]; omega)
    · have hb2 := of_decide_eq_false hb2
      exact hJ _ _ ⟨E, S, hO, by omega, h⟩
  rintro s w4 ⟨E, S, hO, hE, h⟩
  have hsn := s3len (s := s) (E := E) h
  have hsl := hO.perm.length_eq
  rw [List.length_map] at hsl
  refine joinP_i (fun _ w' => St w w' (slc 3 s (fl3 E) :: clk g2 (0, S) :: clk g1 (0, S) :: [])) (fun J hJ => ?_) ?_
  · refine loopP_of (fun (i : Int) w' => ∃ (j : Nat) (T : DL), i = (j : Int) - 1 ∧ j ≤ E.length ∧ T.Perm ((E.drop j).map key3) ∧ CK (0, T) ∧ St w w' (slc 3 s (fl3 E) :: clk g2 (0, T) :: clk g1 (0, S) :: [])) (fun i _ => (i + 1).toNat) ⟨E.length, [], ?_, by omega, by simp, CK.new, h⟩ ?_
    · rw [wrap_id ⟨by omega, by omega⟩, hsn]
    rintro _ w5 ⟨j, T, rfl, hj, hT, hCT, h⟩ C hC
    have htl := hT.length_eq
    rw [List.length_map, List.length_drop] at htl
    refine iteB_i (fun hb2 => ?_) fun hb2 => ?_
    · have hb2 := of_decide_eq_true hb2
      obtain ⟨m, rfl⟩ : ∃ m, j = m + 1 := ⟨j - 1, by omega⟩
      have em : ((m + 1 : Nat) : Int) - 1 = (m : Int) := by omega
      rw [em]
      refine drew_h h fun w6 h => ?_
      refine ld31_h (s := s) (E := E) h (by omega) (by omega) ?_
      refine ld32_h (s := s) (E := E) h (by omega) (by omega) ?_
      simp only [Int.toNat_natCast]
      refine set_s (g := g2) (by omega) hCT h fun w7 h => ?_
      obtain ⟨k1, k2, k3⟩ := hO.ok _ (g3_mem (E := E) (i := m) (by omega))
      have hno : ¬ has T (g3 E m).2.1 = true := by
        rw [has_iff]
        rintro ⟨y, hy, e⟩
        obtain ⟨z, hz, rfl⟩ := List.mem_map.1 (hT.subset hy)
        have h1 := hO.one
        rw [← List.take_append_drop m E, drop_g3 (by omega), List.map_append, List.map_cons] at h1
        have h2 := (List.nodup_append.1 h1).2.1
        rw [List.nodup_cons] at h2
        exact h2.1 (List.mem_map.2 ⟨z, hz, e⟩)
      have hck := hCT.set (g3 E m).2.1 (g3 E m).2.2
      dsimp only at hck
      rw [setF_yes (x := (0, T)) k1 k2 k3 hno] at h hck ⊢
      refine iteB_f rfl ?_
      have e2 : IntKind.wrap .i64 ((m : Int) - 1) = (m : Int) - 1 := wrap_id ⟨by omega, by omega⟩
      rw [e2]
      refine hC _ _ ⟨m, _, rfl, by omega, ?_, hck, h⟩ (by omega)
      rw [drop_g3 (by omega), List.map_cons]
      refine (ins_perm _ _).trans ?_
      have e3 : ((0 : Int) + (g3 E m).2.2, (g3 E m).2.1) = key3 (g3 E m) := by unfold key3; simp
      dsimp only
      rw [e3]
      exact hT.cons _
    · have hb2 := of_decide_eq_false hb2
      have : j = 0 := by omega
      subst this
      rw [List.drop_zero] at hT
      have : T = S := srt_eq hCT.srt hO.ck.srt (hT.trans hO.perm.symm)
      subst this
      exact hJ _ _ h
  rintro _ w5 h
  refine joinP_i (fun b w' => b = false ∧ w' = w5) (fun J hJ => ?_) ?_
  · refine len_s (g := g1) h ?_
    refine iteB_f (by rw [hsl, hsn]; simp) ?_
    refine len_s (g := g2) h ?_
    exact hJ _ _ ⟨by rw [hsl, hsn]; simp, rfl⟩
  rintro _ _ ⟨rfl, rfl⟩
  refine iteB_f rfl ?_
  have hall : ∀ y ∈ S, y.1 ≤ 0 + 1099511627776 := fun y hy => by
    obtain ⟨z, hz, rfl⟩ := List.mem_map.1 (hO.perm.subset hy)
    have := (hO.ok z hz).2.2
    unfold key3 MT at *
    dsimp only; omega
  obtain ⟨hca, hle2⟩ := cut_is (C := S) (T := []) (t := 0 + 1099511627776) hall (by simp)
  rw [List.append_nil] at hca hle2
  refine adv_s (g := g1) (by omega) hO.ck h (fun _ s1 w6 h => ?_) fun hn => by cases hn
  rw [hca, hle2] at h
  refine adv_s (g := g2) (by omega) hO.ck h (fun _ s2 w7 h => ?_) fun hn => by cases hn
  rw [hca, hle2] at h
  have hn1 : s1.n = S.length := by
    have := h.slen (sz := 1) (s := s1) (vs := ints (ids S)); simp [ids] at this; omega
  refine joinP_i (fun b w' => b = false ∧ St w w' (slc 1 s2 (ints (ids S)) :: slc 1 s1 (ints (ids S)) :: slc 3 s (fl3 E) :: clk g2 (0 + 1099511627776, []) :: clk g1 (0 + 1099511627776, []) :: [])) (fun J hJ => ?_) ?_
  · refine iteB_f rfl ?_
    refine same_s (a := s1) (b := s2) (xs := ids S) (ys := ids S) (by simp [ids]; omega) h fun w8 h => ?_
    refine iteB_f (by rw [decide_eq_true rfl, hn1, hsn, hsl]; simp) ?_
    refine len_s (g := g1) h ?_
    exact hJ _ _ ⟨rfl, h⟩
  rintro _ w8 ⟨rfl, h⟩
  refine iteB_f rfl ?_
  have hil : (ids S).length = S.length := by simp [ids]
  refine loopP_of (fun (i : Int) w' => ∃ j : Nat, i = ((j + 1 : Nat) : Int) ∧ St w w' (slc 1 s2 (ints (ids S)) :: slc 1 s1 (ints (ids S)) :: slc 3 s (fl3 E) :: clk g2 (0 + 1099511627776, []) :: clk g1 (0 + 1099511627776, []) :: [])) (fun i _ => (S.length + 1) - i.toNat) ⟨0, rfl, h⟩ ?_
  rintro _ w9 ⟨j, rfl, h⟩ C hC
  refine iteB_i (fun hb2 => ?_) fun hb2 => awake13_s h fun w' h => hk w' h.all
  have hb2 := of_decide_eq_true hb2
  dsimp only at hb2
  have hj : j + 1 < S.length := by omega
  have at_ : ∀ i, i < S.length → ∃ e ∈ E, (ids S).getD i 0 = e.2.1 ∧ gd S i = key3 e ∧ ∀ e' ∈ E, e'.2.1 = e.2.1 → e' = e := fun i hi => by
    have hm : gd S i ∈ S := by unfold gd; rw [List.getD_eq_getElem?_getD, List.getElem?_eq_getElem hi]; simp
    obtain ⟨e, he, q⟩ := List.mem_map.1 (hO.perm.subset hm)
    refine ⟨e, he, ?_, q.symm, fun e' he' => nodup_uniq hO.one he he'⟩
    have : (ids S).getD i 0 = (gd S i).2 := by
      unfold ids gd
      rw [List.getD_eq_getElem?_getD, List.getD_eq_getElem?_getD, List.getElem?_map, List.getElem?_eq_getElem hi]; rfl
    rw [this, ← q]; rfl
  obtain ⟨e1, m1, i1, q1, u1⟩ := at_ j (by omega)
  obtain ⟨e2, m2, i2, q2, u2⟩ := at_ (j + 1) hj
  have hlt : lt2 (gd S j) (gd S (j + 1)) := by
    have := List.pairwise_iff_getElem.1 hO.ck.srt j (j + 1) (by show j < S.length; omega) hj (by omega)
    unfold gd
    rw [List.getD_eq_getElem?_getD, List.getD_eq_getElem?_getD, List.getElem?_eq_getElem (by omega), List.getElem?_eq_getElem hj]
    exact this
  rw [q1, q2] at hlt
  have ew : IntKind.wrap .i64 (((j + 1 : Nat) : Int) - 1) = (j : Int) := by rw [wrap_id ⟨by omega, by omega⟩]; omega
  have ew2 : IntKind.wrap .i64 (((j + 1 : Nat) : Int) + 1) = ((j + 1 + 1 : Nat) : Int) := by rw [wrap_id ⟨by omega, by omega⟩]; omega
  rw [ew, ew2]
  refine ixI_h (s := s1) (xs := ids S) h (by omega) (by omega) ?_
  rw [Int.toNat_natCast, i1]
  refine when_s (s := s) (E := E) (e := e1) (by omega) h m1 u1 ?_
  refine ixI_h (s := s1) (xs := ids S) h (by omega) (by omega) ?_
  rw [Int.toNat_natCast, i2]
  refine when_s (s := s) (E := E) (e := e2) (by omega) h m2 u2 ?_
  have o1 := (hO.ok e1 m1); have o2 := (hO.ok e2 m2)
  unfold lt2 key3 at hlt
  dsimp only at hlt
  refine joinP_i (fun b w' => b = false ∧ St w w' (slc 1 s2 (ints (ids S)) :: slc 1 s1 (ints (ids S)) :: slc 3 s (fl3 E) :: clk g2 (0 + 1099511627776, []) :: clk g1 (0 + 1099511627776, []) :: [])) (fun J hJ => ?_) ?_
  · refine drew_h h fun w10 h => ?_
    refine iteB_f ?_ ?_
    · simp only [Bool.or_eq_false_iff, decide_eq_false_iff_not]
      omega
    · refine iteB_i (fun hb3 => ?_) fun hb3 => hJ _ _ ⟨rfl, h⟩
      have hb3 : e1.2.2 = e2.2.2 := by simpa using hb3
      refine ixI_h (s := s1) (xs := ids S) h (by omega) (by omega) ?_
      rw [Int.toNat_natCast, i1]
      refine ixI_h (s := s1) (xs := ids S) h (by omega) (by omega) ?_
      rw [Int.toNat_natCast, i2]
      refine hJ _ _ ⟨?_, h⟩
      rw [decide_eq_false_iff_not]; omega
  rintro _ w10 ⟨rfl, h⟩
  refine iteB_f rfl ?_
  exact hC _ _ ⟨j + 1, rfl, h⟩ (by simp only [Int.toNat_natCast]; omega)
end
end Go.Proofs.Ytheallacpidcmaa
