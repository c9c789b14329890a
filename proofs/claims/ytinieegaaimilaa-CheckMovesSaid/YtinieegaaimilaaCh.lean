/-
  Layer 4: what is held: the whole.
-/
import Derived.Test.YtinieegaaimilaaCg
set_option linter.unusedSimpArgs false
set_option linter.unusedVariables false
set_option maxRecDepth 100000
namespace Go.Proofs.Ytinieegaaimilaa
open Go Go.Ev Go.Proofs

theorem joinP_i {S : Type} {body : (S → World → Prop) → Prop} {rest : S → World → Prop} (Inv : S → World → Prop) (h2 : ∀ J : S → World → Prop, (∀ s w, Inv s w → J s w) → body J) (h1 : ∀ s w, Inv s w → rest s w) : joinP body rest := h2 rest h1

def startL (g gp ga : Nat) (s s1 s2 : Sl) (needs : Int) (n : Nat) : List HP := [blk g [.slice s.a s.n s.c, .slice s1.a s1.n s1.c, .slice s2.a s2.n s2.c, .slice none 0 0], slc 1 s1 (List.replicate n (.int .i64 0)), slc 1 s2 (List.replicate n (.bool false)), blk gp [.pointer (some ⟨g, 0, none⟩)], blk ga [.int .i64 needs, .slice s.a s.n s.c]]
def startI (w : World) (ga : Nat) (s : Sl) (needs : Int) (a : Addr) (w' : World) : Prop := ∃ g gp s1 s2, a = ⟨gp, 0, none⟩ ∧ s1.n = s.n ∧ St w w' (startL g gp ga s s1 s2 needs s.n)

theorem leaf {w w' : World} {g gp ga : Nat} {s s1 s2 : Sl} {needs : Int} {L : List HP} {J : Addr → World → Prop} (hJ : ∀ a w', startI w ga s needs a w' → J a w') (h : St w w' L) (n1 : s1.n = s.n) (hp : L.Perm (startL g gp ga s s1 s2 needs s.n)) : J ⟨gp, 0, none⟩ w' :=
  hJ _ _ ⟨g, gp, s1, s2, rfl, n1, h.perm hp⟩

def Fl0 (n : Nat) : Fl := ⟨List.replicate n 255, List.replicate n false, []⟩
def Fl.steps (l : List (List Int)) : Nat → Fl → Fl
  | 0, F => F
  | m + 1, F => (Fl.steps l m F).step l
/-- what the loop comes to -/
def Reached (l : List (List Int)) (needs : Int) (F : Fl) : Prop := F.todo = [] ∧ (l = [] → F = Fl0 0) ∧ (l ≠ [] → ∃ m, F = Fl.steps l m ((Fl0 l.length).meet 0 (andI .i64 needs 255)))
theorem Fl0_ok (n : Nat) : (Fl0 n).OK n := ⟨by simp [Fl0], by simp [Fl0], fun h hh => by simp [Fl0] at hh; omega, fun i hi => by simp [Fl0] at hi⟩
theorem held_s {w : World} {s : Sl} {needs : Int} {l : List (List Int)} {k : Sl → World → Prop} (hr : Code5 w s l) (hn : s.n ≤ 1000)
    (hc : ∀ F s' w', Reached l needs F → St w w' [slc 1 s' (ints F.held)] → k s' w') : check_Held #[.int .i64 needs, .slice s.a s.n s.c] w k := by
  unfold check_Held check_Held_b
  refine newC_h (.nil w) fun ga w2 h0 => ?_
  refine ldS_h (g := ga) (o := 1) h0 rfl ?_
  refine joinP_i (startI w ga s needs) (fun J hJ => ?_) fun a75 w76 hI => ?_
  · refine drew_h h0 fun w5 h => ldS_h (g := ga) (o := 1) h rfl ?_
    have h5 := h
    refine ⟨?_, ?_⟩
    · refine mkSl_h (n := s.n) h (elI (by kernel_rfl)) rfl (by omega) (by omega) fun s1 _ h n1 => samec_h h5 h ?_
      refine ⟨?_, ?_⟩
      · refine mkSl_h (n := s.n) h (elB (by kernel_rfl)) rfl (by omega) (by omega) fun s2 _ h _ => samec_h h5 h ?_
        refine ⟨?_, ?_⟩
        · refine ⟨?_, ?_⟩
          · refine newC_h h fun g _ h => ?_
            refine newC_h h fun gp _ h => samec_h h5 h ?_
            refine stC_h (g := gp) h rfl (by simp) fun _ h => leaf (g := g) (s2 := s2) hJ h n1 ?_
            unfold startL; repeat' (first | exact List.Perm.refl _ | refine perm_f 0 rfl ?_ | refine perm_f 1 rfl ?_ | refine perm_f 2 rfl ?_ | refine perm_f 3 rfl ?_ | refine perm_f 4 rfl ?_ | refine perm_f 5 rfl ?_ | refine perm_f 6 rfl ?_ | refine perm_f 7 rfl ?_)
          · refine newC_h h fun gp _ h => samec_h h5 h ?_
            refine newC_h h fun g _ h => ?_
            refine stC_h (g := gp) h rfl (by simp) fun _ h => leaf (g := g) (s2 := s2) hJ h n1 ?_
            unfold startL; repeat' (first | exact List.Perm.refl _ | refine perm_f 0 rfl ?_ | refine perm_f 1 rfl ?_ | refine perm_f 2 rfl ?_ | refine perm_f 3 rfl ?_ | refine perm_f 4 rfl ?_ | refine perm_f 5 rfl ?_ | refine perm_f 6 rfl ?_ | refine perm_f 7 rfl ?_)
        · refine newC_h h fun gp _ h => samec_h h5 h ?_
          refine newC_h h fun g _ h => ?_
          refine stC_h (g := gp) h rfl (by simp) fun _ h => leaf (g := g) (s2 := s2) hJ h n1 ?_
          unfold startL; repeat' (first | exact List.Perm.refl _ | refine perm_f 0 rfl ?_ | refine perm_f 1 rfl ?_ | refine perm_f 2 rfl ?_ | refine perm_f 3 rfl ?_ | refine perm_f 4 rfl ?_ | refine perm_f 5 rfl ?_ | refine perm_f 6 rfl ?_ | refine perm_f 7 rfl ?_)
      · refine newC_h h fun gp _ h => samec_h h5 h ?_
        refine mkSl_h (n := s.n) h (elB (by kernel_rfl)) rfl (by omega) (by omega) fun s2 _ h _ => samec_h h5 h ?_
        refine newC_h h fun g _ h => ?_
        refine stC_h (g := gp) h rfl (by simp) fun _ h => leaf (g := g) (s2 := s2) hJ h n1 ?_
        unfold startL; repeat' (first | exact List.Perm.refl _ | refine perm_f 0 rfl ?_ | refine perm_f 1 rfl ?_ | refine perm_f 2 rfl ?_ | refine perm_f 3 rfl ?_ | refine perm_f 4 rfl ?_ | refine perm_f 5 rfl ?_ | refine perm_f 6 rfl ?_ | refine perm_f 7 rfl ?_)
    · refine ⟨?_, ?_⟩
      · refine mkSl_h (n := s.n) h (elB (by kernel_rfl)) rfl (by omega) (by omega) fun s2 _ h _ => samec_h h5 h ?_
        refine ⟨?_, ?_⟩
        · refine mkSl_h (n := s.n) h (elI (by kernel_rfl)) rfl (by omega) (by omega) fun s1 _ h n1 => samec_h h5 h ?_
          refine ⟨?_, ?_⟩
          · refine ⟨?_, ?_⟩
            · refine newC_h h fun g _ h => ?_
              refine newC_h h fun gp _ h => samec_h h5 h ?_
              refine stC_h (g := gp) h rfl (by simp) fun _ h => leaf (g := g) (s2 := s2) hJ h n1 ?_
              unfold startL; repeat' (first | exact List.Perm.refl _ | refine perm_f 0 rfl ?_ | refine perm_f 1 rfl ?_ | refine perm_f 2 rfl ?_ | refine perm_f 3 rfl ?_ | refine perm_f 4 rfl ?_ | refine perm_f 5 rfl ?_ | refine perm_f 6 rfl ?_ | refine perm_f 7 rfl ?_)
            · refine newC_h h fun gp _ h => samec_h h5 h ?_
              refine newC_h h fun g _ h => ?_
              refine stC_h (g := gp) h rfl (by simp) fun _ h => leaf (g := g) (s2 := s2) hJ h n1 ?_
              unfold startL; repeat' (first | exact List.Perm.refl _ | refine perm_f 0 rfl ?_ | refine perm_f 1 rfl ?_ | refine perm_f 2 rfl ?_ | refine perm_f 3 rfl ?_ | refine perm_f 4 rfl ?_ | refine perm_f 5 rfl ?_ | refine perm_f 6 rfl ?_ | refine perm_f 7 rfl ?_)
          · refine newC_h h fun gp _ h => samec_h h5 h ?_
            refine newC_h h fun g _ h => ?_
            refine stC_h (g := gp) h rfl (by simp) fun _ h => leaf (g := g) (s2 := s2) hJ h n1 ?_
            unfold startL; repeat' (first | exact List.Perm.refl _ | refine perm_f 0 rfl ?_ | refine perm_f 1 rfl ?_ | refine perm_f 2 rfl ?_ | refine perm_f 3 rfl ?_ | refine perm_f 4 rfl ?_ | refine perm_f 5 rfl ?_ | refine perm_f 6 rfl ?_ | refine perm_f 7 rfl ?_)
        · refine newC_h h fun gp _ h => samec_h h5 h ?_
          refine mkSl_h (n := s.n) h (elI (by kernel_rfl)) rfl (by omega) (by omega) fun s1 _ h n1 => samec_h h5 h ?_
          refine newC_h h fun g _ h => ?_
          refine stC_h (g := gp) h rfl (by simp) fun _ h => leaf (g := g) (s2 := s2) hJ h n1 ?_
          unfold startL; repeat' (first | exact List.Perm.refl _ | refine perm_f 0 rfl ?_ | refine perm_f 1 rfl ?_ | refine perm_f 2 rfl ?_ | refine perm_f 3 rfl ?_ | refine perm_f 4 rfl ?_ | refine perm_f 5 rfl ?_ | refine perm_f 6 rfl ?_ | refine perm_f 7 rfl ?_)
      · refine newC_h h fun gp _ h => samec_h h5 h ?_
        refine ⟨?_, ?_⟩
        · refine mkSl_h (n := s.n) h (elI (by kernel_rfl)) rfl (by omega) (by omega) fun s1 _ h n1 => samec_h h5 h ?_
          refine mkSl_h (n := s.n) h (elB (by kernel_rfl)) rfl (by omega) (by omega) fun s2 _ h _ => samec_h h5 h ?_
          refine newC_h h fun g _ h => ?_
          refine stC_h (g := gp) h rfl (by simp) fun _ h => leaf (g := g) (s2 := s2) hJ h n1 ?_
          unfold startL; repeat' (first | exact List.Perm.refl _ | refine perm_f 0 rfl ?_ | refine perm_f 1 rfl ?_ | refine perm_f 2 rfl ?_ | refine perm_f 3 rfl ?_ | refine perm_f 4 rfl ?_ | refine perm_f 5 rfl ?_ | refine perm_f 6 rfl ?_ | refine perm_f 7 rfl ?_)
        · refine mkSl_h (n := s.n) h (elB (by kernel_rfl)) rfl (by omega) (by omega) fun s2 _ h _ => samec_h h5 h ?_
          refine mkSl_h (n := s.n) h (elI (by kernel_rfl)) rfl (by omega) (by omega) fun s1 _ h n1 => samec_h h5 h ?_
          refine newC_h h fun g _ h => ?_
          refine stC_h (g := gp) h rfl (by simp) fun _ h => leaf (g := g) (s2 := s2) hJ h n1 ?_
          unfold startL; repeat' (first | exact List.Perm.refl _ | refine perm_f 0 rfl ?_ | refine perm_f 1 rfl ?_ | refine perm_f 2 rfl ?_ | refine perm_f 3 rfl ?_ | refine perm_f 4 rfl ?_ | refine perm_f 5 rfl ?_ | refine perm_f 6 rfl ?_ | refine perm_f 7 rfl ?_)
  · obtain ⟨g, gp, s1, s2, rfl, n1, h⟩ := hI
    unfold startL at h
    have hn0 := ints_rep s.n
    simp only [hn0] at h
    refine ldP_h (g := gp) (o := 0) (n := some ⟨g, 0, none⟩) h rfl (nn_i (ldS_h (g := g) (o := 1) h rfl ?_))
    refine joinP_i (fun _ w' => St w w' [blk g [.slice s.a s.n s.c, .slice s1.a s1.n s1.c, .slice s2.a s2.n s2.c, .slice none 0 0], slc 1 s1 (ints (List.replicate s.n 255)), slc 1 s2 (List.replicate s.n (.bool false)), blk gp [.pointer (some ⟨g, 0, none⟩)], blk ga [.int .i64 needs, .slice s.a s.n s.c]]) (fun J hJ => ?_) fun _ w90 h => ?_
    · refine loopP_of (fun (i : Int) w' => ∃ j : Nat, i = j ∧ j ≤ s.n ∧ St w w' [blk g [.slice s.a s.n s.c, .slice s1.a s1.n s1.c, .slice s2.a s2.n s2.c, .slice none 0 0], slc 1 s1 (ints (List.replicate j 255 ++ List.replicate (s.n - j) 0)), slc 1 s2 (List.replicate s.n (.bool false)), blk gp [.pointer (some ⟨g, 0, none⟩)], blk ga [.int .i64 needs, .slice s.a s.n s.c]])
        (fun i _ => ((s.n : Int) - i).toNat) ⟨0, rfl, by omega, by simpa using h⟩ ?_
      rintro i w83 ⟨j, rfl, hj, h⟩ C hC
      refine iteB_i (fun hb => ?_) fun hb => ?_
      · simp only [decide_eq_true_eq] at hb
        refine ldP_h (g := gp) (o := 0) (n := some ⟨g, 0, none⟩) h rfl (nn_i (ldS_h (g := g) (o := 1) h rfl (ixIst_h (s := s1) (xs := List.replicate j 255 ++ List.replicate (s.n - j) 0) h (by omega) (by simp; omega) fun w88 h => ?_)))
        have hw : IntKind.wrap .i64 ((j : Int) + 1) = ((j + 1 : Nat) : Int) := by rw [wrap_id ⟨by omega, by omega⟩]; simp
        rw [hw]
        refine hC _ _ ⟨j + 1, rfl, by omega, ?_⟩ (by omega)
        have e : (List.replicate j (255 : Int) ++ List.replicate (s.n - j) 0).set ((j : Int)).toNat 255 = List.replicate (j + 1) 255 ++ List.replicate (s.n - (j + 1)) 0 := by
          have e1 : s.n - j = (s.n - (j + 1)) + 1 := by omega
          rw [Int.toNat_natCast, List.set_append_right (h := by simp), e1, List.length_replicate, Nat.sub_self, List.replicate_succ (n := s.n - (j + 1)), List.set_cons_zero, List.replicate_succ' (n := j), List.append_assoc]; rfl
        rw [e] at h; exact h
      · simp only [decide_eq_false_iff_not] at hb
        have e : j = s.n := by omega
        subst e
        refine hJ () _ ?_
        simpa using h
    · have hsn := hr.len
      refine iteB_i (fun h0' => ?_) fun h0' => ?_
      · have hz : s.n = 0 := by
          have : (s.n : Int) = 0 := by simpa using h0'
          omega
        have hl : l = [] := List.eq_nil_of_length_eq_zero (by omega)
        refine ldP_h (g := gp) (o := 0) (n := some ⟨g, 0, none⟩) h rfl (nn_i (ldS_h (g := g) (o := 1) h rfl ?_))
        refine hc (Fl0 0) s1 w90 ⟨rfl, fun _ => rfl, fun hne => (hne hl).elim⟩ ?_
        have e : ints (List.replicate s.n 255) = ints (Fl0 0).held := by rw [hz]; rfl
        rw [← e]
        exact (((h.rm 4 rfl).rm 3 rfl).rm 2 rfl).rm 0 rfl
      · have hz : s.n ≠ 0 := by
          have : ¬ (s.n : Int) = 0 := by simpa using h0'
          omega
        have hb0 := bls_rep s.n
        have h := h.nilS 1
        simp only [hb0] at h
        have h : St w w90 [flow g (s, Fl0 s.n), blk gp [.pointer (some ⟨g, 0, none⟩)], blk ga [.int .i64 needs, .slice s.a s.n s.c]] :=
          flow_shut (F := Fl0 s.n) (s1 := s1) (s2 := s2) (s3 := ⟨none, 0, 0⟩) (h.perm (by unfold Fl0; repeat' (first | exact List.Perm.refl _ | refine perm_f 0 rfl ?_ | refine perm_f 1 rfl ?_ | refine perm_f 2 rfl ?_ | refine perm_f 3 rfl ?_ | refine perm_f 4 rfl ?_ | refine perm_f 5 rfl ?_ | refine perm_f 6 rfl ?_ | refine perm_f 7 rfl ?_)))
        refine ldP_h (g := gp) (o := 0) (n := some ⟨g, 0, none⟩) h rfl (ldI_h (g := ga) (o := 0) h rfl ?_)
        refine meet_s (g := g) (code := s) (F := Fl0 s.n) h (by omega) (by simp [Fl0]; omega) (by simp [Fl0]) (by simp [Fl0]) fun w96 h => ?_
        have h := mks_nil h
        have hm0 := meet_ok (hv := andI .i64 needs 255) (i := 0) (Fl0_ok l.length) (by omega) (by omega)
        have hmu0 : (Fl0 l.length).mu ≤ 1000000 := by simp [Fl.mu, Fl0, sumN, cntF]; omega
        refine loopP_ghost (G := Fl) (fun F x w' => F.OK l.length ∧ F.mu ≤ 1000000 ∧ (∃ m, F = Fl.steps l m ((Fl0 l.length).meet 0 (andI .i64 needs 255))) ∧ St w w' [mks x.2, flow g (s, F), blk gp [.pointer (some ⟨g, 0, none⟩)], blk ga [.int .i64 needs, .slice s.a s.n s.c]]) Fl.mu
          (g := (Fl0 s.n).meet 0 (andI .i64 needs 255)) ⟨by rw [hsn]; exact hm0.1, by rw [hsn]; have := hm0.2; omega, ⟨0, by rw [hsn]; rfl⟩, h⟩ ?_
        rintro F x w99 ⟨hF, hmu, ⟨m, hm⟩, h⟩ C hC
        obtain ⟨t1, t2, t3, h⟩ := flow_open h.swap
        refine ldP_h (g := gp) (o := 0) (n := some ⟨g, 0, none⟩) h rfl (nn_i (ldS_h (g := g) (o := 3) h rfl ?_))
        have hn3 : F.todo.length = t3.n := by have := h.slen (sz := 1) (s := t3) (vs := ints F.todo); simpa using this
        refine iteB_i (fun he => ?_) fun he => ?_
        · have he' : (t3.n : Int) = 0 := by simpa using he
          have hnil : F.todo = [] := List.eq_nil_of_length_eq_zero (by omega)
          refine ldP_h (g := gp) (o := 0) (n := some ⟨g, 0, none⟩) h rfl (nn_i (ldS_h (g := g) (o := 1) h rfl ?_))
          refine takeP_h (h.front 4 rfl) fun w' h => hc F t1 w' ⟨hnil, fun hl => ?_, fun _ => ⟨m, hm⟩⟩ ?_
          · rw [hl] at hsn; exact (hz hsn).elim
          · exact ((((h.rm 5 rfl).rm 4 rfl).rm 3 rfl).rm 2 rfl).rm 0 rfl
        · have he' : ¬ (t3.n : Int) = 0 := by simpa using he
          obtain ⟨i, t, hti⟩ : ∃ i t, F.todo = i :: t := by
            cases e : F.todo with
            | nil => rw [e] at hn3; simp at hn3; omega
            | cons i t => exact ⟨i, t, rfl⟩
          have hi := hF.todo i (by rw [hti]; simp)
          have hg0 : F.todo.getD (0 : Int).toNat 0 = i := by rw [hti]; rfl
          refine ldP_h (g := gp) (o := 0) (n := some ⟨g, 0, none⟩) h rfl (nn_i (ldS_h (g := g) (o := 3) h rfl (ixI_h (s := t3) (xs := F.todo) h (by omega) (by omega) ?_)))
          rw [hg0]
          refine drew_h h fun w112 h => ldP_h (g := gp) (o := 0) (n := some ⟨g, 0, none⟩) h rfl (ldP_h (g := gp) (o := 0) (n := some ⟨g, 0, none⟩) h rfl (nn_i (ldS_h (g := g) (o := 3) h rfl ?_)))
          refine slL_h (s := t3) (vs := ints F.todo) h (by omega) (by omega) fun d hd h => nn_i (stC_h (g := g) (o := 3) h rfl (by simp) fun w119 h => ?_)
          refine ldP_h (g := gp) (o := 0) (n := some ⟨g, 0, none⟩) h rfl (nn_i (ldS_h (g := g) (o := 1) h rfl (ixI_h (s := t1) (xs := F.held) h hi.1 (by rw [hF.held]; exact hi.2) ?_)))
          refine newC_h h fun gh w126 h => stC_h (g := gh) (o := 0) h rfl (by simp) fun w127 h => ?_
          have hil : i.toNat < l.length := by omega
          have hx : l[i.toNat]? = some l[i.toNat] := List.getElem?_eq_getElem hil
          have hsplit : l = l.take i.toNat ++ l[i.toNat] :: l.drop (i.toNat + 1) := by rw [List.getElem_cons_drop, List.take_append_drop]
          generalize hxe : l[i.toNat] = x5 at hx hsplit
          refine ldS_h (g := ga) (o := 1) h rfl (ixC (hr.ext h.ext) hsplit (by simp; omega) fun p h5 hp => ldA_c (by simp [Go.Ev.ints, h5]) hp ?_)
          refine newC_h h fun gx w132 h => stW_h (g := gx) h rfl (by simp [Go.Ev.ints, h5]) (by simp [Go.Ev.ints, Value.oneCell']) fun w133 h => ?_
          have ld : ∀ {o : Nat} {c : Int → Prop}, o < 5 → c (x5.getD o 0) → ldI .i64 w133 (Addr.add ⟨gx, 0, none⟩ o) c := by
            intro o c ho hc
            have := ldI_h (g := gx) (o := o) (k := .i64) (n := x5.getD o 0) (c := c) h (by simpa using ints_get (x := x5) (j := o) (by omega)) hc
            rw [add_mk, Nat.zero_add]; exact this
          refine joinP_i (fun b w' => b = decide (opI x5 = 8 ∧ 0 ≤ x5.getD 1 0 ∧ x5.getD 1 0 < 8) ∧ w' = w133) (fun J hJ => ?_) ?_
          · refine ld (by omega) (iteB_i (fun hb => ?_) fun hb => ?_)
            · have hb' : opI x5 = 8 := by simpa using hb
              refine ld (by omega) (iteB_i (fun hb2 => ?_) fun hb2 => ?_)
              · refine ld (by omega) (hJ _ _ ⟨?_, rfl⟩)
                have := of_decide_eq_true hb2
                rw [decide_eq_decide]
                exact ⟨fun h => ⟨hb', this, h⟩, fun h => h.2.2⟩
              · have := of_decide_eq_false hb2
                exact hJ _ _ ⟨(decide_eq_false fun h => this h.2.1).symm, rfl⟩
            · have hb' : ¬ opI x5 = 8 := by simpa using hb
              exact hJ _ _ ⟨(decide_eq_false fun h => hb' h.1).symm, rfl⟩
          rintro b w139 ⟨rfl, rfl⟩
          have e1 : (ints F.todo).drop ((1 : Int).toNat * 1) = ints t := by rw [hti]; rfl
          simp only [e1] at h
          have h : St w w139 [flow g (s, { F with todo := t }), blk gh [.int .i64 (F.held.getD i.toNat 0)], blk gx (Go.Ev.ints x5), blk gp [.pointer (some ⟨g, 0, none⟩)], mks x.2, blk ga [.int .i64 needs, .slice s.a s.n s.c]] :=
            flow_shut (F := { F with todo := t }) (s1 := t1) (s2 := t2) (s3 := d) (h.perm (by repeat' (first | exact List.Perm.refl _ | refine perm_f 0 rfl ?_ | refine perm_f 1 rfl ?_ | refine perm_f 2 rfl ?_ | refine perm_f 3 rfl ?_ | refine perm_f 4 rfl ?_ | refine perm_f 5 rfl ?_ | refine perm_f 6 rfl ?_ | refine perm_f 7 rfl ?_)))
          refine joinP_i (fun _ w' => St w w' [flow g (s, { F with todo := t }), blk gh [.int .i64 (hvOf x5 (F.held.getD i.toNat 0))], blk gx (Go.Ev.ints x5), blk gp [.pointer (some ⟨g, 0, none⟩)], mks x.2, blk ga [.int .i64 needs, .slice s.a s.n s.c]]) (fun J hJ => ?_) fun _ w147 h => ?_
          · refine iteB_i (fun hb => ?_) fun hb => ?_
            · have hb' := of_decide_eq_true hb
              refine drew_h h fun w137 h => ldI_h (g := gh) (o := 0) h rfl ?_
              have ld2 := ldI_h (g := gx) (o := 1) (k := .i64) (n := x5.getD 1 0) (c := fun i143 => shlI .i64 1 i143 fun i144 => stC w137 ⟨gh, 0, none⟩ (.int .i64 (orI .i64 (F.held.getD i.toNat 0) i144)) fun w141 => J () w141) h (ints_get (by omega))
              refine ld2 ⟨hb'.2.1, ?_⟩
              refine stC_h (g := gh) (o := 0) h rfl (by simp) fun w141 h => hJ () _ ?_
              unfold hvOf; rw [if_pos hb']; exact h
            · have hb' := of_decide_eq_false hb
              refine hJ () _ ?_
              unfold hvOf; rw [if_neg hb']; exact h
          refine ldS_h (g := ga) (o := 1) h rfl ?_
          have hF1 : Fl.OK l.length { F with todo := t } := ⟨hF.held, hF.come, hF.bits, fun z hz => hF.todo z (by rw [hti]; simp [hz])⟩
          have hm1 : Fl.mu { F with todo := t } ≤ F.mu := by simp only [Fl.mu, hti, List.length_cons]; omega
          have hst : F.step l = Fl.meets (hvOf x5 (F.held.getD i.toNat 0)) { F with todo := t } (behind l.length i x5) := by
            have e : l.getD i.toNat [] = x5 := by simp [hx]
            unfold Fl.step; rw [hti]; simp only [e]
          have hs2 := step_ok (l := l) (by omega) hF (by rw [hti]; simp)
          have h := (h.rm 2 rfl).perm (M := [blk gh [.int .i64 (hvOf x5 (F.held.getD i.toNat 0))], flow g (s, { F with todo := t }), blk gp [.pointer (some ⟨g, 0, none⟩)], mks x.2, blk ga [.int .i64 needs, .slice s.a s.n s.c]]) (by repeat' (first | exact List.Perm.refl _ | refine perm_f 0 rfl ?_ | refine perm_f 1 rfl ?_ | refine perm_f 2 rfl ?_ | refine perm_f 3 rfl ?_ | refine perm_f 4 rfl ?_ | refine perm_f 5 rfl ?_ | refine perm_f 6 rfl ?_ | refine perm_f 7 rfl ?_))
          refine pass_s (g := g) (gp := gp) (gh := gh) (ga := ga) (x := x5) (ds := x.2) h hr hF1 (by omega) (by omega) hi.1 hx fun D w'' h => ?_
          rw [← hst] at h
          exact hC (F.step l) _ _ ⟨hs2.1, by omega, ⟨m + 1, by show F.step l = (Fl.steps l m _).step l; rw [← hm]⟩, h⟩ hs2.2
end Go.Proofs.Ytinieegaaimilaa
