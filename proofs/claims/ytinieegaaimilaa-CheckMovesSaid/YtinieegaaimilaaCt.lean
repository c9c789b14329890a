/-
  Layer 4: the first fault of a function.
-/
import Derived.Test.YtinieegaaimilaaCs
set_option linter.unusedSimpArgs false
set_option linter.unusedVariables false
set_option maxRecDepth 100000
namespace Go.Proofs.Ytinieegaaimilaa
open Go Go.Ev Go.Proofs

theorem st_cast {w0 w : World} {L M : List HP} (h : St w0 w L) (e : L = M) : St w0 w M := e ▸ h
section
variable {P : List FnR} {n : Nat} {D H : List Int} {i : Nat} {x : List Int}
theorem wrong_at {j : Nat} (hj : j < 4) (h0 : ∀ j', j' < j → askE P n D H i x j' = 0) (h1 : (askE P n D H i x j != 0) = true) : wrongF P n D H i x = askE P n D H i x j := by
  unfold wrongF
  match j, hj with
  | 0, _ => rw [if_pos h1]
  | 1, _ => rw [h0 0 (by omega)]; simp [h1]
  | 2, _ => rw [h0 0 (by omega), h0 1 (by omega)]; simp [h1]
  | 3, _ => rw [h0 0 (by omega), h0 1 (by omega), h0 2 (by omega)]; simp
theorem wrong_none (h0 : ∀ j', j' < 4 → askE P n D H i x j' = 0) : wrongF P n D H i x = 0 := by
  unfold wrongF
  rw [h0 0 (by omega), h0 1 (by omega), h0 2 (by omega), h0 3 (by omega)]; simp
end
def faultL (kk : Nat) : Option (Int × Int) → List Int
  | none => [0, 0, 0]
  | some (i, e) => [(kk : Int), i, e]

def judL (gj gk gf gr : Nat) (ps s sd sh : Sl) (D H : List Int) (asks : List Value) (nv : Int) : List HP :=
  [blk gj [.slice ps.a ps.n ps.c, .slice s.a s.n s.c, .slice sd.a sd.n sd.c, .slice sh.a sh.n sh.c], slc 1 sd (ints D), slc 1 sh (ints H), blk gk asks, blk gf [.int .i64 nv, .slice s.a s.n s.c], blk gr (ints [0, 0, 0])]
def asksL (gj : Nat) : List Value := [.func (.func n_check_judge_places) #[.pointer (some ⟨gj, 0, none⟩)] #[], .func (.func n_check_judge_last) #[.pointer (some ⟨gj, 0, none⟩)] #[], .func (.func n_check_judge_scopes) #[.pointer (some ⟨gj, 0, none⟩)] #[], .func (.func n_check_judge_handles) #[.pointer (some ⟨gj, 0, none⟩)] #[]]

theorem callF_2 {orc : Oracle} {id : FuncId} {a b : Value} {w : World} {c : Value → World → Prop} {d : Dec} (e : ∀ args w c, orc (.func id) args w c = d args.toList w c) (h : d [a, b] w c) : callF orc (.func (.func id) #[a] #[]) #[b] w c :=
  callF_i e h
theorem ask_places {a : Addr} {i : Int} {w : World} {c : Value → World → Prop} (h : check_judge_places (some a) i w fun r w => c (.int .i64 r) w) : d_check_judge_places [.pointer (some a), .int .i64 i] w c := h
theorem ask_last {a : Addr} {i : Int} {w : World} {c : Value → World → Prop} (h : check_judge_last (some a) i w fun r w => c (.int .i64 r) w) : d_check_judge_last [.pointer (some a), .int .i64 i] w c := h
theorem ask_scopes {a : Addr} {i : Int} {w : World} {c : Value → World → Prop} (h : check_judge_scopes (some a) i w fun r w => c (.int .i64 r) w) : d_check_judge_scopes [.pointer (some a), .int .i64 i] w c := h
theorem ask_handles {a : Addr} {i : Int} {w : World} {c : Value → World → Prop} (h : check_judge_handles (some a) i w fun r w => c (.int .i64 r) w) : d_check_judge_handles [.pointer (some a), .int .i64 i] w c := h

theorem function_s {w : World} {ps : Sl} {P : List FnR} {kk : Nat} {f : FnR} {k : Array Value → World → Prop} (hF : Funcs5 w ps P) (hk : P[kk]? = some f) (hok : ∀ x ∈ f.code, chk x = 0) (hlen : f.code.length ≤ 128)
    (hP : ∀ f ∈ P, 0 ≤ f.needs ∧ f.needs ≤ 255) (hc : ∀ w', St w w' [] → k (agI (faultL kk (fault1 P f))) w') : check_function #[.slice ps.a ps.n ps.c] (kk : Int) w k := by
  have hcd := (hF.code f (List.mem_of_getElem? hk)).2
  have hsn := hcd.len
  have hpn := hF.len
  unfold check_function check_function_b
  refine newC_h (.nil w) fun g1 w2 h => newC_h h fun g3 w4 h => ldS_h (g := g1) (o := 0) h rfl ?_
  refine ixR_h (e := FnR.cells f) hF.rws h (by omega) (by rw [List.getElem?_map, Int.toNat_natCast, hk]; rfl) fun p hp => ldA_c (e := FnR.cells f) rfl (fun j v => hp h) ?_
  refine newC_h h fun g8 w9 h => stW_h (g := g8) h rfl rfl (by intro v hv; simp [FnR.cells] at hv; rcases hv with rfl | rfl <;> rfl) fun w10 h => drew_h h fun w11 h => ?_
  have h : St w w11 [blk g8 [.int .i64 f.needs, .slice f.sl.a f.sl.n f.sl.c], blk g3 (ints [0, 0, 0]), blk g1 [.slice ps.a ps.n ps.c]] := h
  refine ldW_h (g := g1) h rfl (ldS_h (g := g8) (o := 1) h rfl (ldS_h (g := g8) (o := 1) h rfl (ldW_h (g := g8) h rfl ?_)))
  have h11 := h
  refine depths_s (hcd.ext h.ext) (by omega) fun sd w17 h2 nd => ?_
  have h := h.join h2
  simp only [List.cons_append, List.nil_append] at h
  refine samec_h h11 h (samec_h h11 h (samec_h h11 h ?_))
  have h17 := h
  refine heldL_s (needs := f.needs) (hcd.ext h.ext) (by omega) fun sh w19 h3 nh => ?_
  have h := h.join h3
  simp only [List.cons_append, List.nil_append] at h
  refine samec_h h11 h (samec_h h11 h ?_)
  refine ⟨rfl, ?_⟩
  refine newC_h h fun gj w22 h => newC_h h fun gk w24 h => ?_
  have h : St w w24 (judL gj gk g8 g3 ps f.sl sd sh (depths 0 f.code) (heldL f.code f.needs) (asksL gj) f.needs) := by
    refine St.perm (st_cast (M := [blk gk (asksL gj), blk gj [.slice ps.a ps.n ps.c, .slice f.sl.a f.sl.n f.sl.c, .slice sd.a sd.n sd.c, .slice sh.a sh.n sh.c], slc 1 sh (ints (heldL f.code f.needs)), slc 1 sd (ints (depths 0 f.code)), blk g8 [.int .i64 f.needs, .slice f.sl.a f.sl.n f.sl.c], blk g3 (ints [0, 0, 0])]) (h.rm 6 rfl) (by kernel_rfl)) ?_
    unfold judL; repeat' (first | exact List.Perm.refl _ | refine perm_f 0 rfl ?_ | refine perm_f 1 rfl ?_ | refine perm_f 2 rfl ?_ | refine perm_f 3 rfl ?_ | refine perm_f 4 rfl ?_ | refine perm_f 5 rfl ?_ | refine perm_f 6 rfl ?_ | refine perm_f 7 rfl ?_)
  unfold judL at h
  refine ldS_h (g := g8) (o := 1) h rfl ?_
  have hDl : (depths 0 f.code).length = f.code.length := depths_length _ _
  have hHl : (heldL f.code f.needs).length = f.code.length := heldL_len _ _
  unfold fault1 at hc
  generalize depths 0 f.code = D at h hc hDl
  generalize heldL f.code f.needs = H at h hc hHl
  refine loopP_of (fun (i : Int) w' => ∃ dn rest, f.code = dn ++ rest ∧ i = (dn.length : Int) ∧ funcFault P f.code.length D H 0 f.code = funcFault P f.code.length D H dn.length rest ∧ St w w' (judL gj gk g8 g3 ps f.sl sd sh D H (asksL gj) f.needs)) (fun i _ => ((f.sl.n : Int) - i).toNat) ⟨[], f.code, rfl, rfl, rfl, h⟩ ?_
  rintro _ w28 ⟨dn, rest, hl, rfl, hd, h⟩ C hC
  cases rest with
  | nil =>
    refine iteB_f (by simp only [decide_eq_false_iff_not]; rw [hsn, hl]; simp) ?_
    unfold judL at h
    refine stW_h (g := g3) h rfl rfl (one_agI [0, 0, 0]) fun w39 h => ldW_h (g := g3) h rfl ?_
    rw [hd] at hc
    exact hc _ h.all
  | cons x rest =>
    have hlen2 : f.code.length = dn.length + (rest.length + 1) := by rw [hl]; simp
    have hw1 : IntKind.wrap .i64 ((dn.length : Int) + 1) = ((dn ++ [x]).length : Int) := by rw [wrap_id ⟨by omega, by omega⟩]; simp
    have hx : f.code[dn.length]? = some x := by rw [hl]; simp
    have hcx := hok x (by rw [hl]; simp)
    refine iteB_t (by simp only [decide_eq_true_eq]; omega) ?_
    refine loopP_of (fun (i : Int) w' => ∃ j : Nat, i = (j : Int) ∧ j ≤ 4 ∧ (∀ j', j' < j → askE P f.code.length D H dn.length x j' = 0) ∧ St w w' (judL gj gk g8 g3 ps f.sl sd sh D H (asksL gj) f.needs)) (fun i _ => (4 - i).toNat) ⟨0, rfl, by omega, fun j hj => by omega, h⟩ ?_
    rintro _ w31 ⟨j, rfl, hj4, hz, h⟩ C2 hC2
    refine iteB_i (fun hb => ?_) fun hb => ?_
    · have hj : j < 4 := by have := of_decide_eq_true hb; omega
      have hw2 : IntKind.wrap .i64 ((j : Int) + 1) = ((j + 1 : Nat) : Int) := by rw [wrap_id ⟨by omega, by omega⟩]; simp
      refine ixS_b (by omega) (by omega) ?_
      have fin : ∀ w35, St w w35 (judL gj gk g8 g3 ps f.sl sd sh D H (asksL gj) f.needs) → iteB (askE P f.code.length D H dn.length x j != (0 : Int)) (
            stA 3 w35 ⟨g3, 0, none⟩ #[(.int .i64 (kk : Int)), (.int .i64 (dn.length : Int)), (.int .i64 (askE P f.code.length D H dn.length x j))] fun w37 =>
            ldA 3 w37 ⟨g3, 0, none⟩ fun cs38 =>
            (k cs38 w37)) (
            (C2 (IntKind.wrap .i64 ((j : Int) + (1 : Int))) w35)) := by
        intro w35 h
        refine iteB_i (fun hb => ?_) fun hb => ?_
        · unfold judL at h
          refine stW_h (g := g3) (vs := agI [(kk : Int), (dn.length : Int), askE P f.code.length D H dn.length x j]) h rfl rfl (one_agI _) fun w37 h => ldW_h (g := g3) h rfl ?_
          have hwr := wrong_at hj hz hb
          have e : funcFault P f.code.length D H dn.length (x :: rest) = some ((dn.length : Int), askE P f.code.length D H dn.length x j) := by
            unfold funcFault; rw [hwr, if_pos hb]
          rw [hd, e] at hc
          exact hc _ h.all
        · rw [hw2]
          refine hC2 _ _ ⟨j + 1, rfl, hj, fun j' hj' => ?_, h⟩ (by omega)
          by_cases q : j' = j
          · rw [q]; simpa using hb
          · exact hz j' (by omega)
      unfold judL at h
      match j, hj, hz, fin with
      | 0, _, hz, fin =>
        refine ldV_h (g := gk) (o := 0) h rfl (callF_2 (d := d_check_judge_places) (fun _ _ _ => rfl) (ask_places ?_))
        exact places_s h (hcd) hx hpn fun w35 h => fin w35 h
      | 1, _, hz, fin =>
        refine ldV_h (g := gk) (o := 1) h rfl (callF_2 (d := d_check_judge_last) (fun _ _ _ => rfl) (ask_last ?_))
        exact last_s h hcd hx (by omega) fun w35 h => fin w35 h
      | 2, _, hz, fin =>
        have hp0 : placesE P.length f.code.length x = 0 := hz 0 (by omega)
        refine ldV_h (g := gk) (o := 2) h rfl (callF_2 (d := d_check_judge_scopes) (fun _ _ _ => rfl) (ask_scopes ?_))
        refine scopes_s h hcd hx (by omega) hDl (fun hg => ⟨((chk0 hcx).2.2.1 hg).1, ?_⟩) fun w35 h => fin w35 h
        unfold placesE at hp0
        rw [hg] at hp0
        by_cases q : x.getD 4 0 ≥ f.code.length
        · rw [decide_eq_true q] at hp0; simp at hp0
        · omega
      | 3, _, hz, fin =>
        have hp0 : placesE P.length f.code.length x = 0 := hz 0 (by omega)
        refine ldV_h (g := gk) (o := 3) h rfl (callF_2 (d := d_check_judge_handles) (fun _ _ _ => rfl) (ask_handles ?_))
        exact handles_s h hcd hF hx (by omega) hHl hcx hp0 hP fun w35 h => fin w35 h
    · have hj : j = 4 := by have := of_decide_eq_false hb; omega
      subst hj
      rw [hw1]
      refine hC _ _ ⟨dn ++ [x], rest, by rw [hl]; simp, rfl, ?_, h⟩ (by simp; omega)
      rw [hd]
      have e : (wrongF P f.code.length D H dn.length x != 0) = false := by rw [wrong_none hz]; rfl
      simp [funcFault, e]
end Go.Proofs.Ytinieegaaimilaa
