/-
  Layer 6: a run of a task, and of those that it forks.
-/
import Derived.Test.YtgkfbagclkjilaaSg
set_option linter.unusedSimpArgs false
set_option linter.unusedVariables false
set_option maxRecDepth 100000
namespace Go.Proofs.Ytgkfbagclkjilaa
open Go Go.Ev Go.Proofs
open Go.Proofs.Ytgkfbagclkjilaa.Fr (fTo fOn fPlain fForked fJoined fClosed fChild fRoot fR isB fTo_len fOn_len fPlain_len fForked_len fJoined_len fClosed_len)
open Go.Proofs.Ytgkfbagclkjilaa.Ck (opI Walk Accs needsOf isGoes heldL depths stepD handlesOk subBits scopesOk forks)

theorem blk_slsN {w : World} {g sz : Nat} {l : List Value} {n : Nat} (hb : Blk w g l.toArray) (hn : l.length = n * sz) (c : Nat) : Sls sz w ⟨some ⟨g, 0, none⟩, n, c⟩ l :=
  ⟨hn, fun i v hv => ⟨_, rfl, by rw [add_mk, hb.cell]; simpa using hv⟩⟩
def zeroRow : Value := .agg #[.int .i64 0, .int .i64 0, .int .i64 0, .int .i64 0, .int .i64 0, .int .i64 0, .string (ByteArray.mk #[])]
theorem elR : ElS Go.Proofs.Try.prog 28 7 64 zeroRow := ⟨by kernel_rfl, rfl⟩
/-- a round of the loop -/
def lbody (run : RunT) (gc gt : Nat) (q : Value → World → Prop) (k : Int → World → Prop) : (Unit → World → Prop) → Unit → World → Prop := fun C31 u32 w33 =>
    ldB w33 (Addr.add ⟨gt, 0, none⟩ 23) fun b34 =>
    iteB (!b34) (
      ldP w33 ⟨gc, 0, none⟩ fun p35 =>
      stepOf run p35 (some ⟨gt, 0, none⟩) w33 q fun _u w36 =>
      (C31 () w36)) (
      ldI .i64 w33 (Addr.add ⟨gt, 0, none⟩ 19) fun i37 =>
      (k i37 w33))
def childT (cf : List Int) (row nest : Nat) (off : Bool) : Tk := ⟨cf, row, [(false, 0)], 0, nest, off⟩
abbrev zero24 : Array Value := #[(.int .i64 (0 : Int)), (.int .i64 (0 : Int)), (.int .i64 (0 : Int)), (.int .i64 (0 : Int)), (.int .i64 (0 : Int)), (.int .i64 (0 : Int)), (.int .i64 (0 : Int)), (.int .i64 (0 : Int)), (.int .i64 (0 : Int)), (.int .i64 (0 : Int)), (.int .i64 (0 : Int)), (.int .i64 (0 : Int)), (.int .i64 (0 : Int)), (.int .i64 (0 : Int)), (.int .i64 (0 : Int)), (.int .i64 (0 : Int)), (.int .i64 (0 : Int)), (.int .i64 (0 : Int)), (.int .i64 (0 : Int)), (.int .i64 (0 : Int)), (.pointer none), (.pointer none), (.int .i64 (0 : Int)), (.bool false)]
def newTask (cf : List Int) : Array Value := agI cf ++ #[.int .i64 0, .pointer none, .pointer none, .int .i64 0, .bool false]
theorem spl_task {cf : List Int} (hcl : cf.length = 19) : (agI cf).zipIdx.foldl (fun cs (x, j) => cs.setIfInBounds (0 + j) x) zero24 = newTask cf := by
  obtain ⟨c0, c1, c2, c3, c4, c5, c6, c7, c8, c9, c10, c11, c12, c13, c14, c15, c16, c17, c18, rfl⟩ := Fr.list19 hcl
  kernel_rfl
theorem new_task {cf : List Int} {n row nest : Nat} {off : Bool} {pin pl : Option Addr} (hcl : cf.length = 19) (hn : n = row) : (Array.setIfInBounds (Array.setIfInBounds (Array.setIfInBounds (newTask cf) 19 (.int .i64 ((n : Nat) : Int))) 20 (.pointer pin)) 21 (.pointer pl)).toList = tskV (childT cf row nest off) pin pl false := by
  subst hn
  obtain ⟨c0, c1, c2, c3, c4, c5, c6, c7, c8, c9, c10, c11, c12, c13, c14, c15, c16, c17, c18, rfl⟩ := Fr.list19 hcl
  kernel_rfl
theorem spl_row {a b c : Int} : (#[(.int .i64 a), (.int .i64 b), (.int .i64 c), (.int .i64 (0 : Int)), (.int .i64 (0 : Int)), (.int .i64 (0 : Int)), (.string (ByteArray.mk #[]))] : Array Value).zipIdx.foldl (fun cs (x, j) => cs.setIfInBounds (0 + j) x) #[(.int .i64 (0 : Int)), (.int .i64 (0 : Int)), (.int .i64 (0 : Int)), (.int .i64 (0 : Int)), (.int .i64 (0 : Int)), (.int .i64 (0 : Int)), (.string (ByteArray.mk #[]))] = (rwV ⟨a, b, c, 0, 0, 0, []⟩).toArray := by kernel_rfl
section
variable {w0 w : World} {R : List HP} {gc gm gt : Nat} {ps : Sl} {P : List FnR} {F : Int} {s : Sl} {q : Value → World → Prop}
theorem run2_s {run : RunT} {cf : List Int} {m : Mc} {pin : Option Addr} {x : Bool × Int} {l : List (Bool × Int)} {par : Int} {k : Int → World → Prop} (nest : Nat) (off : Bool) (h : St w0 w (MML gc gm ps F m s R)) (hin : ∀ w, St w0 w R → Chn w pin (x :: l)) (hcl : cf.length = 19) (hl : l.length < 1000) (hrl : m.rows.length < 10000000)
    (hk : ∀ w' gt pl s', St w0 w' (SSL gc gm gt ps F (childT cf m.rows.length nest off) pin pl (l.length + 1) { m with rows := m.rows ++ [⟨par, if par < 0 then 0 else x.2, cf.getD 0 0, 0, 0, 0, []⟩] } s' false R) → ∃ N, iterP (lbody run gc gt q k) N () w') :
    serial_Run_2_b serial_scope_within (stepOf run) (agI cf) par pin ⟨gc, 0, none⟩ w q k := by
  unfold serial_Run_2_b
  refine newC_h h fun g1 w2 h => ?_
  have h : St w0 w2 (blk g1 (ints cf) :: MML gc gm ps F m s R) := h
  refine drew_h h fun w3 h => ?_
  refine ldW_h (g := g1) h (by simp [ints, hcl]) ?_
  refine ldP_h (g := gc) (o := 0) h rfl ?_
  refine nn_i ?_
  refine ldS_h (g := gm) (o := 0 + 3) h rfl ?_
  have hR : ∀ {w'}, St w0 w' (blk g1 (ints cf) :: MML gc gm ps F m s R) → St w0 w' R := fun h => (((h.rm 0 rfl).rm 0 rfl).rm 0 rfl).rm 0 rfl
  have hn := rows_n (s := s) (rs := m.rows) h
  refine within_s (q := 0) h (hin w3 (hR h)) hl fun g8 w9 h2 => ?_
  refine samec_h (g := gm) (o := 0 + 3) h h2 (samec_h (g := gc) (o := 0) h h2 (samec_h (g := g1) (o := 0) h h2 ?_))
  refine spl_i (newTask cf) (by simp [agI, ints, hcl]) (spl_task hcl) ?_
  refine newC_h h2 fun g11 w12 h => ?_
  rw [new_task (nest := nest) (off := off) hcl hn] at h
  have hR : ∀ {w'}, St w0 w' (blk g11 (tskV (childT cf m.rows.length nest off) pin (some ⟨g8, 0, none⟩) false) :: blk g8 [.pointer pin, .bool false, .int .i64 0, .int .i64 ((l.length + 1 : Nat) : Int)] :: blk g1 (ints cf) :: MML gc gm ps F m s R) → St w0 w' R := fun h => hR (((h.rm 0 rfl).rm 0 rfl))
  obtain ⟨gi, pi', e1, hb, _⟩ := hin w12 (hR h)
  rw [e1]
  refine nn_i ?_
  refine ldI_i (n := x.2) (by rw [add_mk, hb.cell]; simp) ?_
  refine joinP_i (fun z w' => z = (if par < 0 then 0 else x.2) ∧ w' = w12) (fun J hJ => ?_) fun z w17 hz => ?_
  · refine iteB_i (fun hb => ?_) fun hb => ?_
    · exact hJ _ _ ⟨by rw [if_pos (of_decide_eq_true hb)], rfl⟩
    · exact hJ _ _ ⟨by rw [if_neg (of_decide_eq_false hb)], rfl⟩
  rw [hz.1, hz.2]
  refine drew_h h fun w18 h => ?_
  refine ldP_h (g := gc) (o := 0) h rfl ?_
  refine ldP_h (g := gc) (o := 0) h rfl ?_
  refine nn_i ?_
  refine ldS_h (g := gm) (o := 0 + 3) h rfl ?_
  refine ldI_h (g := g1) (o := 0 + 0) h (ints_getD (by omega)) ?_
  refine samec_self (samec_self (samec_self ?_))
  refine spl_i _ rfl spl_row ?_
  have h18 := h
  refine newC_h h fun g25 w26 h2 => ?_
  refine samec_h (g := gm) (o := 0 + 3) h h2 (samec_h (g := gc) (o := 0) h h2 (samec_h (g := gc) (o := 0) h h2 ?_))
  have h2 : St w0 w26 (blk g25 (rwV ⟨par, if par < 0 then 0 else x.2, cf.getD 0 0, 0, 0, 0, []⟩) :: _) := h2
  refine bApp_h (s := s) (vs := rowsV m.rows) (x := ⟨some ⟨g25, 0, none⟩, 1, 1⟩) (ys := rwV ⟨par, if par < 0 then 0 else x.2, cf.getD 0 0, 0, 0, 0, []⟩) h2 elR (by kernel_rfl) (blk_slsN (n := 1) (h2.blk (g := g25)) rfl 1) (by intro v hv; simp [rwV] at hv; rcases hv with rfl | rfl | rfl | rfl | rfl | rfl | rfl <;> rfl) (by simp only; omega) (by simp only; omega) fun s27 w28 h n2 => ?_
  refine samec_h (g := gc) (o := 0) h18 h ?_
  refine nn_i ?_
  refine stC_h (g := gm) (o := 0 + 3) (v := .slice s27.a s27.n s27.c) h rfl (by simp) fun w30 h => ?_
  have eR : rowsV m.rows ++ rwV ⟨par, if par < 0 then 0 else x.2, cf.getD 0 0, 0, 0, 0, []⟩ = rowsV (m.rows ++ [⟨par, if par < 0 then 0 else x.2, cf.getD 0 0, 0, 0, 0, []⟩]) := by simp [rowsV]
  rw [eR] at h
  have h3 := (h.rm 0 rfl).rm 2 rfl
  have h4 : St w0 w30 (blk g8 [.pointer pin, .bool false, .int .i64 0, .int .i64 ((l.length + 1 + ([] : List (Bool × Int)).length : Nat) : Int)] :: seg (l.length + 1) pin pin [] :: blk gm [.slice ps.a ps.n ps.c, .int .i64 F, .int .i64 m.steps, .slice s27.a s27.n s27.c, dRun (.pointer (some ⟨gc, 0, none⟩))] :: slc 7 s27 (rowsV (m.rows ++ [⟨par, if par < 0 then 0 else x.2, cf.getD 0 0, 0, 0, 0, []⟩])) :: blk g11 (tskV (childT cf m.rows.length nest off) pin (some ⟨g8, 0, none⟩) false) :: blk gc [.pointer (some ⟨gm, 0, none⟩)] :: R) :=
    (seg_nil (n := l.length + 1) (pe := pin) h3).perm (by simp only [List.eraseIdx]; repeat' (first | exact List.Perm.refl _ | refine perm_f 0 rfl ?_ | refine perm_f 1 rfl ?_ | refine perm_f 2 rfl ?_ | refine perm_f 3 rfl ?_ | refine perm_f 4 rfl ?_ | refine perm_f 5 rfl ?_ | refine perm_f 6 rfl ?_ | refine perm_f 7 rfl ?_))
  have h5 := seg_shut (x := (false, 0)) h4
  refine hk w30 g11 (some ⟨g8, 0, none⟩) s27 (h5.perm ?_)
  repeat' (first | exact List.Perm.refl _ | refine perm_f 0 rfl ?_ | refine perm_f 1 rfl ?_ | refine perm_f 2 rfl ?_ | refine perm_f 3 rfl ?_ | refine perm_f 4 rfl ?_ | refine perm_f 5 rfl ?_ | refine perm_f 6 rfl ?_ | refine perm_f 7 rfl ?_)
theorem loop_s (hF : Funcs5 w0 ps P) (hA : Accs P) {t : Tk} {m : Mc} {r : Res} (hG : Goes P F t m r) : ∀ (n : Nat) {w : World} {R : List HP} {gt : Nat} {pi pl : Option Addr} {s : Sl} {B : List (Bool × Int)} {q : Value → World → Prop} {kk : Int → World → Prop} (N : Nat), 33 ≤ n + t.nest → Inv P t m → Sz F t m → t.nest + 1 = B.length → t.off = B.any (·.1) → (∀ w, St w0 w R → Chn w pi B) →
    St w0 w (SSL gc gm gt ps F t pi pl B.length m s false R) → (∀ m' w' s', r = .ok m' → St w0 w' (MML gc gm ps F m' s' R) → kk t.row w') → (∀ e w', r = .bad e → St w0 w' R → q (.iface 45 (.int .i64 e)) w') → F - m.steps + 2 ≤ N → iterP (lbody (runN n) gc gt q kk) N () w := by
  have hNI : ∀ g ∈ P, InI g.needs := fun g hg => (hF.code g hg).1
  have hend : ∀ {run : RunT} {w' : World} {R : List HP} {gt : Nat} {t' : Tk} {m' : Mc} {pi pl' : Option Addr} {nB : Nat} {s : Sl} {q : Value → World → Prop} {kk : Int → World → Prop} {N : Nat}, 1 ≤ N → t'.f.length = 19 → St w0 w' (SSL gc gm gt ps F t' pi pl' nB m' s true R) → (∀ w', St w0 w' (MML gc gm ps F m' s R) → kk t'.row w') → iterP (lbody run gc gt q kk) N () w' := by
    intro run w' R gt t' m' pi pl' nB s q kk N hN hf h hk
    cases N with
    | zero => omega
    | succ N =>
      unfold iterP lbody
      refine ldB_h (g := gt) (o := 0 + 23) h (tsk_done hf) (iteB_f rfl ?_)
      refine ldI_h (g := gt) (o := 0 + 19) h (tsk_row hf) ?_
      exact hk _ ((h.rm 2 rfl).rm 2 rfl)
  induction hG with
  | fin hs =>
    intro n w R gt pi pl s B q kk N hn hI hz hnest hoff hB h hok hbad hN
    have hsF := hz.sF
    cases N with
    | zero => omega
    | succ N =>
      unfold iterP lbody
      refine ldB_h (g := gt) (o := 0 + 23) h (tsk_done hI.len) (iteB_t rfl ?_)
      refine ldP_h (g := gc) (o := 0) h rfl ?_
      refine step_s hF hA hI hz hnest hoff hB h (fun m' w' t' pl' e h hf hr => ?_) (fun e w' e2 => by rw [hs] at e2; cases e2) (fun _ _ _ _ e2 => by rw [hs] at e2; cases e2) (fun _ _ _ e2 => by rw [hs] at e2; cases e2) (fun _ _ _ _ _ _ e2 => by rw [hs] at e2; cases e2)
      rw [hs] at e; cases e
      refine hend (by omega) hf h fun w' h => ?_
      rw [hr]; exact hok _ _ _ rfl h
  | bad hs =>
    intro n w R gt pi pl s B q kk N hn hI hz hnest hoff hB h hok hbad hN
    have hsF := hz.sF
    cases N with
    | zero => omega
    | succ N =>
      unfold iterP lbody
      refine ldB_h (g := gt) (o := 0 + 23) h (tsk_done hI.len) (iteB_t rfl ?_)
      refine ldP_h (g := gc) (o := 0) h rfl ?_
      refine step_s hF hA hI hz hnest hoff hB h (fun _ _ _ _ e2 => by rw [hs] at e2; cases e2) (fun e w' e2 h => ?_) (fun _ _ _ _ e2 => by rw [hs] at e2; cases e2) (fun _ _ _ e2 => by rw [hs] at e2; cases e2) (fun _ _ _ _ _ _ e2 => by rw [hs] at e2; cases e2)
      rw [hs] at e2; cases e2
      exact hbad _ _ rfl h
  | go hs hG ih =>
    intro n w R gt pi pl s B q kk N hn hI hz hnest hoff hB h hok hbad hN
    have hsF := hz.sF
    have hst := stp_go hs
    cases N with
    | zero => omega
    | succ N =>
      unfold iterP lbody
      refine ldB_h (g := gt) (o := 0 + 23) h (tsk_done hI.len) (iteB_t rfl ?_)
      refine ldP_h (g := gc) (o := 0) h rfl ?_
      refine step_s hF hA hI hz hnest hoff hB h (fun _ _ _ _ e2 => by rw [hs] at e2; cases e2) (fun _ _ e2 => by rw [hs] at e2; cases e2) (fun t' m' w' pl' e2 h => ?_) (fun _ _ _ e2 => by rw [hs] at e2; cases e2) (fun _ _ _ _ _ _ e2 => by rw [hs] at e2; cases e2)
      rw [hs] at e2; cases e2
      refine ih n N (by rw [hst.2.2.2.1]; exact hn) (inv_go hA hI hs).1 (sz_go hz hI.row hs) (by rw [hst.2.2.2.1]; exact hnest) (by rw [hst.2.2.2.2]; exact hoff) hB h (fun m' w' s' e h => ?_) hbad (by omega)
      rw [hst.2.2.1]; exact hok _ _ _ e h
  | forkBad hs hG ih =>
    intro n w R gt pi pl s B q kk N hn hI hz hnest hoff hB h hok hbad hN
    have hsF := hz.sF
    rename_i t m c m1 i e
    cases N with
    | zero => omega
    | succ N =>
      unfold iterP lbody
      refine ldB_h (g := gt) (o := 0 + 23) h (tsk_done hI.len) (iteB_t rfl ?_)
      refine ldP_h (g := gc) (o := 0) h rfl ?_
      refine step_s hF hA hI hz hnest hoff hB h (fun _ _ _ _ e2 => by rw [hs] at e2; cases e2) (fun _ _ e2 => by rw [hs] at e2; cases e2) (fun _ _ _ _ e2 => by rw [hs] at e2; cases e2) (fun c' m1' i' e2 w' R' kk' h hin hRR hok' => ?_) (fun _ _ _ _ _ _ e2 hG' _ => by rw [hs] at e2; cases e2; cases hG.det hG')
      rw [hs] at e2; cases e2
      have hfk := stp_fork hs
      obtain ⟨k1, k2⟩ := inv_child hA hNI hI hs
      have kz := sz_fork hz hs
      obtain ⟨hlt, hst, hi, h8, hn32, hc, hrows⟩ := hfk
      cases n with
      | zero => omega
      | succ n' =>
        obtain ⟨x, l, esc, hx⟩ : ∃ x l, t.sc ++ B = x :: l ∧ x = t.sc.headD (false, 0) := by
          cases hs : t.sc with
          | nil => exact (hI.sc hs).elim
          | cons x l => exact ⟨x, l ++ B, rfl, rfl⟩
        have el : l.length + 1 = t.sc.length + B.length := by have := congrArg List.length esc; simp at this; omega
        have hrl := hz.rl
        have hsl : 1 ≤ t.sc.length := List.length_pos_iff.2 hI.sc
        have hF0 := hz.F0
        have hcn : c.nest = t.nest + t.sc.length := by rw [hc]
        have hco : c.off = (t.off || t.sc.any (·.1)) := by rw [hc]
        have hcr : c.row = m.rows.length := by rw [hc]
        have hcN : c.f.getD 0 0 = i.getD 4 0 := by rw [hc]; exact (child_get hI.len).2.1
        show serial_Run_2_b serial_scope_within (stepOf (runN n')) (agI c.f) t.row pl ⟨gc, 0, none⟩ w' q kk'
        refine run2_s (m := { m with steps := m.steps + 1 }) (x := x) (l := l) c.nest c.off h (by rw [← esc]; exact hin) k1.len (by omega) (by show m.rows.length < 10000000; omega) fun w'' gt' pl' s' h => ⟨(F - m1.steps + 2).toNat, ?_⟩
        have h : St w0 w'' (SSL gc gm gt' ps F c pl pl' (t.sc ++ B).length m1 s' false R') := by
          have e1 : c = childT c.f m.rows.length c.nest c.off := by rw [hc]; rfl
          have e2 : m1 = ⟨m.rows ++ [⟨(t.row : Int), if (t.row : Int) < 0 then 0 else x.2, c.f.getD 0 0, 0, 0, 0, []⟩], m.steps + 1⟩ := by
            rw [if_neg (by omega), hx, hcN, ← hrows, ← hst]
          rw [e2, esc]
          rw [e1]
          exact h
        refine ih n' _ (by omega) k1 kz (by rw [hcn, List.length_append]; omega) (by rw [hco, hoff, List.any_append, Bool.or_comm]) hin h (fun m' w' s' e => by cases e) (fun e w' er h => hbad e w' er (hRR _ h)) (by omega)
  | fork hs hG hG2 ih ih2 =>
    intro n w R gt pi pl s B q kk N hn hI hz hnest hoff hB h hok hbad hN
    have hsF := hz.sF
    rename_i t m c m1 i m2 r
    cases N with
    | zero => omega
    | succ N =>
      unfold iterP lbody
      refine ldB_h (g := gt) (o := 0 + 23) h (tsk_done hI.len) (iteB_t rfl ?_)
      refine ldP_h (g := gc) (o := 0) h rfl ?_
      refine step_s hF hA hI hz hnest hoff hB h (fun _ _ _ _ e2 => by rw [hs] at e2; cases e2) (fun _ _ e2 => by rw [hs] at e2; cases e2) (fun _ _ _ _ e2 => by rw [hs] at e2; cases e2) (fun c' m1' i' e2 w' R' kk' h hin hRR hok' => ?_) (fun c' m1' i' m2' s2 w3 e2 hG' h => ?_)
      · rw [hs] at e2; cases e2
        have hfk := stp_fork hs
        obtain ⟨k1, k2⟩ := inv_child hA hNI hI hs
        have kz := sz_fork hz hs
        obtain ⟨hlt, hst, hi, h8, hn32, hc, hrows⟩ := hfk
        cases n with
        | zero => omega
        | succ n' =>
          obtain ⟨x, l, esc, hx⟩ : ∃ x l, t.sc ++ B = x :: l ∧ x = t.sc.headD (false, 0) := by
            cases hs : t.sc with
            | nil => exact (hI.sc hs).elim
            | cons x l => exact ⟨x, l ++ B, rfl, rfl⟩
          have el : l.length + 1 = t.sc.length + B.length := by have := congrArg List.length esc; simp at this; omega
          have hrl := hz.rl
          have hsl : 1 ≤ t.sc.length := List.length_pos_iff.2 hI.sc
          have hF0 := hz.F0
          have hcn : c.nest = t.nest + t.sc.length := by rw [hc]
          have hco : c.off = (t.off || t.sc.any (·.1)) := by rw [hc]
          have hcr : c.row = m.rows.length := by rw [hc]
          have hcN : c.f.getD 0 0 = i.getD 4 0 := by rw [hc]; exact (child_get hI.len).2.1
          show serial_Run_2_b serial_scope_within (stepOf (runN n')) (agI c.f) t.row pl ⟨gc, 0, none⟩ w' q kk'
          refine run2_s (m := { m with steps := m.steps + 1 }) (x := x) (l := l) c.nest c.off h (by rw [← esc]; exact hin) k1.len (by omega) (by show m.rows.length < 10000000; omega) fun w'' gt' pl' s' h => ⟨(F - m1.steps + 2).toNat, ?_⟩
          have h : St w0 w'' (SSL gc gm gt' ps F c pl pl' (t.sc ++ B).length m1 s' false R') := by
            have e1 : c = childT c.f m.rows.length c.nest c.off := by rw [hc]; rfl
            have e2 : m1 = ⟨m.rows ++ [⟨(t.row : Int), if (t.row : Int) < 0 then 0 else x.2, c.f.getD 0 0, 0, 0, 0, []⟩], m.steps + 1⟩ := by
              rw [if_neg (by omega), hx, hcN, ← hrows, ← hst]
            rw [e2, esc]
            rw [e1]
            exact h
          refine ih n' _ (by omega) k1 kz (by rw [hcn, List.length_append]; omega) (by rw [hco, hoff, List.any_append, Bool.or_comm]) hin h (fun m' w' s' e h => hok' w' m' s' (by cases e; exact hG) h) (fun e w' er h => by cases er) (by omega)
      · rw [hs] at e2; cases e2
        cases hG.det hG'
        obtain ⟨k1, k2⟩ := inv_child hA hNI hI hs
        obtain ⟨k3, k4⟩ := goes_more hA hNI hG rfl k1
        obtain ⟨k5, k6⟩ := inv_forked hA hI hs k3 k4
        obtain ⟨z1, z2, z3, z4, z5⟩ := goes_sz hA hNI hG rfl k1 (sz_fork hz hs)
        have hle := hG.le rfl
        have hst := (stp_fork hs).2.1
        have hop := hz.op
        exact ih2 n N hn k5 ⟨z1, z2, z3, z4, z5, ⟨hop.1, by show t.opened ≤ m2.steps; omega⟩⟩ hnest hoff hB h hok hbad (by omega)
end
end Go.Proofs.Ytgkfbagclkjilaa
