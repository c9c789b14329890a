/-
  Layer 6: serial.Run.
-/
import Derived.Test.YtgkfbagclkjilaaSh
set_option linter.unusedSimpArgs false
set_option linter.unusedVariables false
set_option maxRecDepth 100000
namespace Go.Proofs.Ytgkfbagclkjilaa
open Go Go.Ev Go.Proofs
open Go.Proofs.Ytgkfbagclkjilaa.Fr (fTo fOn fPlain fForked fJoined fClosed fChild fRoot fR isB fTo_len fOn_len fPlain_len fForked_len fJoined_len fClosed_len)
open Go.Proofs.Ytgkfbagclkjilaa.Ck (opI Walk Accs needsOf isGoes heldL depths stepD handlesOk subBits scopesOk forks)

/-- what a run comes to: rows, steps, error -/
def RunR (P : List FnR) (F : Int) (rows : List Rw) (n e : Int) : Prop :=
  (¬ Accs P ∧ rows = [] ∧ n = 0 ∧ e = 24) ∨ (Accs P ∧ (F < 0 ∨ F > 1048576) ∧ rows = [] ∧ n = 0 ∧ e = 10) ∨
  (Accs P ∧ 0 ≤ F ∧ F ≤ 1048576 ∧ ((Goes P F t0 m0 (.ok ⟨rows, n⟩) ∧ e = 0) ∨ (Goes P F t0 m0 (.bad e) ∧ rows = [] ∧ n = 0)))
theorem stp_bad {P : List FnR} {F : Int} {t : Tk} {m : Mc} {e : Int} (h : stp P F t m = .bad e) : e = 22 ∨ e = 23 := by
  unfold stp at h
  split at h
  · cases h
  split at h
  · cases h; exact .inl rfl
  split at h
  · cases h; exact .inr rfl
  split at h
  · cases h
  exact (act_steps.2.1 _ h).elim
theorem goes_bad {P : List FnR} {F : Int} {t : Tk} {m : Mc} {r : Res} (h : Goes P F t m r) : ∀ {e : Int}, r = .bad e → e = 22 ∨ e = 23 := by
  induction h with
  | fin h => intro e q; cases q
  | bad h => intro e q; cases q; exact stp_bad h
  | go h _ ih => intro e q; exact ih q
  | forkBad h _ ih => intro e q; cases q; exact ih rfl
  | fork h _ _ ih1 ih2 => intro e q; exact ih2 q
theorem RunR.det {P : List FnR} {F : Int} {rows rows' : List Rw} {n n' e e' : Int} (h : RunR P F rows n e) (h' : RunR P F rows' n' e') : rows = rows' ∧ n = n' ∧ e = e' := by
  rcases h with ⟨a, rfl, rfl, rfl⟩ | ⟨a, b, rfl, rfl, rfl⟩ | ⟨a, b, c, d⟩
  · rcases h' with ⟨a', rfl, rfl, rfl⟩ | ⟨a', _⟩ | ⟨a', _⟩
    · exact ⟨rfl, rfl, rfl⟩
    · exact (a a').elim
    · exact (a a').elim
  · rcases h' with ⟨a', _⟩ | ⟨a', b', rfl, rfl, rfl⟩ | ⟨a', b', c', _⟩
    · exact (a' a).elim
    · exact ⟨rfl, rfl, rfl⟩
    · omega
  · rcases h' with ⟨a', _⟩ | ⟨a', b', _⟩ | ⟨a', b', c', d'⟩
    · exact (a' a).elim
    · omega
    · rcases d with ⟨d, rfl⟩ | ⟨d, rfl, rfl⟩
      · rcases d' with ⟨d', rfl⟩ | ⟨d', rfl, rfl⟩
        · have := d.det d'; cases this; exact ⟨rfl, rfl, rfl⟩
        · have := d.det d'; cases this
      · rcases d' with ⟨d', rfl⟩ | ⟨d', rfl, rfl⟩
        · have := d.det d'; cases this
        · have := d.det d'; cases this; exact ⟨rfl, rfl, rfl⟩
section
variable {w0 w : World} {R : List HP} {gc gm gt : Nat} {ps : Sl} {P : List FnR} {F : Int} {s : Sl} {q : Value → World → Prop}
theorem tyA_45 {v : Value} {c : Value → World → Prop} (hc : c (.tuple #[v, .bool true]) w) : tyA Go.Proofs.Try.prog (.iface 45 v) 20 45 true w c := by
  unfold tyA
  have hr : (Instr.typeAssert (.iface 45 v) 20 45 true).run Go.Proofs.Try.prog w = .ok (.tuple #[v, .bool true]) w := by
    simp [Instr.typeAssert, run_underlying (@Go.Proofs.Try.underlying45)]
  rw [hr]; exact hc
theorem sz_root (h0 : 0 ≤ F) (h1 : F ≤ 1048576) : Sz F t0 m0 := ⟨by simp [m0], h0, h1, by simp [m0], by intro r hr; simp [m0] at hr; subst hr; simp [m0], ⟨Int.le_refl _, Int.le_refl _⟩⟩
theorem call_run {l : List (Nat × DecP)} {c : Value → World → Prop} {r : Res} (hF : Funcs5 w0 ps P) (hA : Accs P) (h0 : 0 ≤ F) (h1 : F ≤ 1048576) (hG : Goes P F t0 m0 r) {g46 : Nat} (e : ∀ args w c, orcP l q (.func n_serial_Run_2) args w c = decRun serial_Run_2 args.toList w c q)
    (h : St w0 w (blk g46 [.pointer none, .bool false, .int .i64 0, .int .i64 0] :: blk gc [.pointer (some ⟨gm, 0, none⟩)] :: blk gm [.slice ps.a ps.n ps.c, .int .i64 F, .int .i64 0, .slice none 0 0, dRun (.pointer (some ⟨gc, 0, none⟩))] :: R))
    (hok : ∀ m' w' s', r = .ok m' → St w0 w' (MML gc gm ps F m' s' R) → c (.int .i64 0) w') (hbad : ∀ e w', r = .bad e → St w0 w' R → q (.iface 45 (.int .i64 e)) w') :
    callF (orcP l q) (dRun (.pointer (some ⟨gc, 0, none⟩))) #[.agg (agI fRoot), .int .i64 (-1), .pointer (some ⟨g46, 0, none⟩)] w c := by
  have hNI : ∀ g ∈ P, InI g.needs := fun g hg => (hF.code g hg).1
  refine callP_i e ?_
  have h := h.nilS 7
  have hM : St w0 w (MML gc gm ps F ⟨[], 0⟩ ⟨none, 0, 0⟩ (blk g46 [.pointer none, .bool false, .int .i64 0, .int .i64 0] :: R)) := by
    have h2 : St w0 w (slc 7 ⟨none, 0, 0⟩ (rowsV []) :: _) := h
    exact h2.perm (by repeat' (first | exact List.Perm.refl _ | refine perm_f 0 rfl ?_ | refine perm_f 1 rfl ?_ | refine perm_f 2 rfl ?_ | refine perm_f 3 rfl ?_ | refine perm_f 4 rfl ?_ | refine perm_f 5 rfl ?_ | refine perm_f 6 rfl ?_ | refine perm_f 7 rfl ?_))
  have hin : ∀ w, St w0 w (blk g46 [.pointer none, .bool false, .int .i64 0, .int .i64 0] :: R) → Chn w (some ⟨g46, 0, none⟩) [(false, 0)] := fun w hw => ⟨g46, none, rfl, hw.blk (g := g46), rfl⟩
  refine ⟨35, ?_⟩
  show serial_Run_2_b serial_scope_within (stepOf (runN 34)) (agI fRoot) (-1) (some ⟨g46, 0, none⟩) ⟨gc, 0, none⟩ w q _
  refine run2_s (m := ⟨[], 0⟩) (x := (false, 0)) (l := []) 0 false hM hin rfl (by simp) (by simp) fun w' gt pl s' h => ⟨(F + 2).toNat, ?_⟩
  have h : St w0 w' (SSL gc gm gt ps F t0 (some ⟨g46, 0, none⟩) pl ([(false, (0 : Int))] : List (Bool × Int)).length m0 s' false (blk g46 [.pointer none, .bool false, .int .i64 0, .int .i64 0] :: R)) := h
  refine loop_s hF hA hG 34 _ (by simp [t0]) (inv_root hA hNI) (sz_root h0 h1) rfl rfl hin h (fun m' w' s' e h => hok m' w' s' e (h.rm 3 rfl)) (fun e w' er h => hbad e w' er (h.rm 0 rfl)) (by simp [m0]; omega)
theorem run_s {fuel : Int} {k : Sl × Int × Int → World → Prop} (hF : Funcs5 w ps P) (hc : ∀ s rows n e w', St w w' [slc 7 s (rowsV rows)] → RunR P fuel rows n e → k (s, (n, e)) w') : serial_Run #[.slice ps.a ps.n ps.c] fuel w k := by
  unfold serial_Run serial_Run_b
  refine newC_h (.nil w) fun g1 w2 h => newC_h h fun g3 w4 h => newC_h h fun g5 w6 h => newC_h h fun g7 w8 h => ?_
  have h : St w w8 [blk g7 [.int .i64 0], blk g5 [.int .i64 0], blk g3 [.slice none 0 0], blk g1 [.slice ps.a ps.n ps.c]] := h
  refine ldW_h (g := g1) h rfl ?_
  refine Ck.accepts_s (hF.ext h.ext) fun w11 h2 => ?_
  have h := h.on h2.ext
  rw [Ck.progF_zero]
  have hnil : ∀ {w'}, St w w' [blk g7 [.int .i64 0], blk g5 [.int .i64 0], blk g3 [.slice none 0 0], blk g1 [.slice ps.a ps.n ps.c]] → ∀ e, RunR P fuel [] 0 e →
      stC w' ⟨g3, 0, none⟩ (.slice none 0 0) fun w18 => stC w18 ⟨g5, 0, none⟩ (.int .i64 (0 : Int)) fun w19 => stC w19 ⟨g7, 0, none⟩ (.int .i64 e) fun w20 => ldS w20 ⟨g3, 0, none⟩ fun s21 => ldI .i64 w20 ⟨g5, 0, none⟩ fun i22 => ldI .i64 w20 ⟨g7, 0, none⟩ fun i23 => (k (s21, (i22, i23)) w20) := by
    intro w' h e hR
    refine stC_h (g := g3) (o := 0) h rfl (by simp) fun w18 h => stC_h (g := g5) (o := 0) h rfl (by simp) fun w19 h => stC_h (g := g7) (o := 0) h rfl (by simp) fun w20 h => ?_
    refine ldS_h (g := g3) (o := 0) (p := none) (n := 0) (m := 0) h rfl (ldI_h (g := g5) (o := 0) (n := 0) h rfl (ldI_h (g := g7) (o := 0) (n := e) h rfl ?_))
    exact hc _ [] 0 e _ ((h.all).nilS 7) hR
  refine iteB_i (fun hb => ?_) fun hb => ?_
  · have hno : ¬ Accs P := fun q => by rw [(Ck.accs_iff.2 q)] at hb; cases hb
    exact hnil h 24 (.inl ⟨hno, rfl, rfl, rfl⟩)
  have hA : Accs P := Ck.accs_iff.1 (by simpa using hb)
  refine iteB_i (fun hb => ?_) fun hb => ?_
  · exact hnil h 10 (.inr (.inl ⟨hA, by simpa using hb, rfl, rfl, rfl⟩))
  have hf0 : 0 ≤ fuel ∧ fuel ≤ 1048576 := by
    rw [Bool.or_eq_false_iff, decide_eq_false_iff_not, decide_eq_false_iff_not] at hb
    omega
  obtain ⟨r, hG⟩ := Goes.total P fuel _ t0 m0 (Nat.le_refl _)
  refine ldW_h (g := g1) h rfl ?_
  refine spl_i #[(.slice ps.a ps.n ps.c), (.int .i64 (0 : Int)), (.int .i64 (0 : Int)), (.slice none 0 0), .nilFunc] rfl rfl ?_
  refine newC_h h fun g26 w27 h => newC_h h fun g28 w29 h => ?_
  refine stC_h (g := g28) (o := 0) h rfl (by simp) fun w30 h => ?_
  refine ldP_h (g := g28) (o := 0) h rfl ?_
  refine nn_i ?_
  refine stC_h (g := g26) (o := 0 + 4) (v := .func (.func n_serial_Run_2) #[] #[(.pointer (some ⟨g28, 0, none⟩))]) h rfl (by simp) fun w33 h => ?_
  refine drew_h h fun w34 h => ?_
  refine ldP_h (g := g28) (o := 0) h rfl ?_
  refine nn_i ?_
  refine ldV_h (g := g26) (o := 0 + 4) h rfl ?_
  have h : St w w34 (blk g28 [.pointer (some ⟨g26, 0, none⟩)] :: blk g26 [.slice ps.a ps.n ps.c, .int .i64 fuel, .int .i64 0, .slice none 0 0, dRun (.pointer (some ⟨g28, 0, none⟩))] :: [blk g7 [.int .i64 0], blk g5 [.int .i64 0], blk g3 [.slice none 0 0], blk g1 [.slice ps.a ps.n ps.c]]) := h
  have hok : ∀ m' w55 s', r = .ok m' → St w w55 (MML g28 g26 ps fuel m' s' [blk g7 [.int .i64 0], blk g5 [.int .i64 0], blk g3 [.slice none 0 0], blk g1 [.slice ps.a ps.n ps.c]]) → 
        drew w55 fun w57 =>
        ldP w57 ⟨g28, 0, none⟩ fun p58 =>
        nn p58 fun a59 =>
        ldS w57 (Addr.add a59 3) fun s60 =>
        ldP w57 ⟨g28, 0, none⟩ fun p61 =>
        nn p61 fun a62 =>
        ldI .i64 w57 (Addr.add a62 2) fun i63 =>
        stC w57 ⟨g3, 0, none⟩ (.slice s60.a s60.n s60.c) fun w64 =>
        samec 1 (Addr.add a62 2) w57 w64 (
        samec 1 ⟨g28, 0, none⟩ w57 w64 (
        stC w64 ⟨g5, 0, none⟩ (.int .i64 i63) fun w65 =>
        stC w65 ⟨g7, 0, none⟩ (.int .i64 (0 : Int)) fun w66 =>
        serial_Run_1_R ⟨g3, 0, none⟩ ⟨g5, 0, none⟩ ⟨g7, 0, none⟩ w66 fun w67 =>
        ldS w67 ⟨g3, 0, none⟩ fun s68 =>
        ldI .i64 w67 ⟨g5, 0, none⟩ fun i69 =>
        ldI .i64 w67 ⟨g7, 0, none⟩ fun i70 =>
        (k (s68, (i69, i70)) w67))) := by
    intro m' w55 s' e h
    refine drew_h h fun w57 h => ?_
    refine ldP_h (g := g28) (o := 0) h rfl ?_
    refine nn_i ?_
    refine ldS_h (g := g26) (o := 0 + 3) h rfl ?_
    refine ldP_h (g := g28) (o := 0) h rfl ?_
    refine nn_i ?_
    refine ldI_h (g := g26) (o := 0 + 2) h rfl ?_
    refine stC_h (g := g3) (o := 0) (v := .slice s'.a s'.n s'.c) h rfl (by simp) fun w64 h2 => ?_
    refine samec_h (g := g26) (o := 0 + 2) h h2 (samec_h (g := g28) (o := 0) h h2 ?_)
    refine stC_h (g := g5) (o := 0) (v := .int .i64 m'.steps) h2 rfl (by simp) fun w65 h2 => ?_
    refine stC_h (g := g7) (o := 0) (v := .int .i64 0) h2 rfl (by simp) fun w66 h2 => ?_
    show ldS w66 _ _
    refine ldS_h (g := g3) (o := 0) h2 rfl (ldI_h (g := g5) (o := 0) h2 rfl (ldI_h (g := g7) (o := 0) h2 rfl ?_))
    refine hc s' m'.rows m'.steps 0 _ ?_ (.inr (.inr ⟨hA, hf0.1, hf0.2, .inl ⟨by rw [e] at hG; exact hG, rfl⟩⟩))
    exact (((((((h2.rm 0 rfl).rm 1 rfl).rm 1 rfl).rm 1 rfl).rm 1 rfl).rm 1 rfl))
  have hbad : ∀ e w49, r = .bad e → St w w49 [blk g7 [.int .i64 0], blk g5 [.int .i64 0], blk g3 [.slice none 0 0], blk g1 [.slice ps.a ps.n ps.c]] → serial_Run_1_Q ⟨g3, 0, none⟩ ⟨g5, 0, none⟩ ⟨g7, 0, none⟩ (.iface 45 (.int .i64 e)) w49 fun w50 =>
        ldS w50 ⟨g3, 0, none⟩ fun s51 =>
        ldI .i64 w50 ⟨g5, 0, none⟩ fun i52 =>
        ldI .i64 w50 ⟨g7, 0, none⟩ fun i53 =>
        (k (s51, (i52, i53)) w50) := by
    intro e w49 er h
    show serial_Run_1_P _ _ _ _ _ _ _
    unfold serial_Run_1_P
    refine tyA_45 ?_
    show iteB (!true) False _
    refine iteB_f rfl ?_
    exact hnil h e (.inr (.inr ⟨hA, hf0.1, hf0.2, .inr ⟨by rw [er] at hG; exact hG, rfl, rfl⟩⟩))
  have eo : ∀ (q : Value → World → Prop) args w c, orcP [(n_check_Accepts, (fun args w c _ => unL [.ag] args fun x => check_Accepts x w fun r w => c (packV (valL [.b] r)) w)), (n_frame_Root, (fun args w c _ => unL [] args fun x => frame_Root  w fun r w => c (packV (valL [.ag] r)) w)), (n_serial_Run_2, (fun args w c q => unL [.ag, (.i .i64), .p, .a] args fun x => serial_Run_2 x.1 x.2.1 x.2.2.1 x.2.2.2 w q fun r w => c (packV (valL [(.i .i64)] r)) w))] q (.func n_serial_Run_2) args w c = decRun serial_Run_2 args.toList w c q := fun _ _ _ _ => rfl
  refine ⟨?_, ?_⟩
  · refine Fr.root_s fun w45 he => ?_
    have h2 := ext_of h he
    refine samec_h (g := g26) (o := 0 + 4) h h2 (samec_h (g := g28) (o := 0) h h2 (samec_h (g := g26) (o := 0 + 4) h h2 (samec_h (g := g28) (o := 0) h h2 ?_)))
    refine newC_h h2 fun g46 w47 h2 => ?_
    refine samec_h (g := g26) (o := 0 + 4) h h2 (samec_h (g := g28) (o := 0) h h2 ?_)
    exact call_run hF hA hf0.1 hf0.2 hG (eo _) h2 (fun m' w' s' e h => hok m' w' s' e h) (fun e w' er h => hbad e w' er h)
  · refine samec_self (samec_self ⟨?_, ?_⟩)
    · refine Fr.root_s fun w45 he => ?_
      have h2 := ext_of h he
      refine samec_h (g := g26) (o := 0 + 4) h h2 (samec_h (g := g28) (o := 0) h h2 ?_)
      refine newC_h h2 fun g46 w47 h2 => ?_
      refine samec_h (g := g26) (o := 0 + 4) h h2 (samec_h (g := g28) (o := 0) h h2 ?_)
      exact call_run hF hA hf0.1 hf0.2 hG (eo _) h2 (fun m' w' s' e h => hok m' w' s' e h) (fun e w' er h => hbad e w' er h)
    · refine newC_h h fun g46 w47 h2 => ?_
      refine samec_h (g := g26) (o := 0 + 4) h h2 (samec_h (g := g28) (o := 0) h h2 ?_)
      refine Fr.root_s fun w45 he => ?_
      have h2 := ext_of h2 he
      refine samec_h (g := g26) (o := 0 + 4) h h2 (samec_h (g := g28) (o := 0) h h2 ?_)
      exact call_run hF hA hf0.1 hf0.2 hG (eo _) h2 (fun m' w' s' e h => hok m' w' s' e h) (fun e w' er h => hbad e w' er h)
end
end Go.Proofs.Ytgkfbagclkjilaa
