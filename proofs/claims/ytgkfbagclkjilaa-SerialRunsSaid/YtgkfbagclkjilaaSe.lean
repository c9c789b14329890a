/-
  Layer 6: the next instruction; a step.
-/
import Derived.Test.YtgkfbagclkjilaaSd
set_option linter.unusedSimpArgs false
set_option linter.unusedVariables false
set_option maxRecDepth 100000
namespace Go.Proofs.Ytgkfbagclkjilaa
open Go Go.Ev Go.Proofs
open Go.Proofs.Ytgkfbagclkjilaa.Fr (fTo fOn fPlain fForked fJoined fClosed fChild fRoot fR isB fTo_len fOn_len fPlain_len fForked_len fJoined_len fClosed_len)
open Go.Proofs.Ytgkfbagclkjilaa.Ck (opI Walk Accs needsOf isGoes heldL depths stepD handlesOk subBits scopesOk forks)

theorem next_s {f i : List Int} {ps : Sl} {P : List FnR} {w : World} {k : Array Value × Int → World → Prop} {g : FnR} (hF : Funcs5 w ps P) (hf : f.length = 19) (h0 : 0 ≤ f.getD 0 0) (hg : P[(f.getD 0 0).toNat]? = some g) (h1 : 0 ≤ f.getD 1 0)
    (hi : g.code[(f.getD 1 0).toNat]? = some i) (hk : ∀ w', Ext w w' → k (agI i, 0) w') : frame_Frame_Next (agI f) #[.slice ps.a ps.n ps.c] w k := by
  have hn := hF.len
  obtain ⟨_, hcd⟩ := hF.code g (List.mem_of_getElem? hg)
  have hcn := hcd.len
  have hlt := (List.getElem?_eq_some_iff.1 hg).1
  have hlt2 := (List.getElem?_eq_some_iff.1 hi).1
  have h5 := (hcd.five i (List.mem_of_getElem? hi)).1
  unfold frame_Frame_Next
  refine newC_h (.nil w) fun g1 w1 h => newC_h h fun g3 w3 h => newC_h h fun g5 w6 h => ?_
  have h : St w w6 [blk g5 (ints [0, 0, 0, 0, 0]), blk g3 [.slice ps.a ps.n ps.c], blk g1 (ints f)] := h
  refine joinP_i (fun b w' => b = false ∧ w' = w6) (fun J hJ => ?_) fun b v hbv => ?_
  · refine ldI_h (g := g1) (o := 0 + 0) h (ints_getD (by omega)) (iteB_f (by rw [decide_eq_false_iff_not]; show ¬ f.getD 0 0 < 0; omega) ?_)
    refine ldI_h (g := g1) (o := 0 + 0) h (ints_getD (by omega)) (ldS_h (g := g3) (o := 0 + 0) h rfl (hJ _ _ ⟨by rw [decide_eq_false_iff_not]; show ¬ f.getD 0 0 ≥ ((ps.n : Nat) : Int); omega, rfl⟩))
  rw [hbv.1, hbv.2]
  refine iteB_f rfl ?_
  refine ldS_h (g := g3) (o := 0 + 0) h rfl (ldI_h (g := g1) (o := 0 + 0) h (ints_getD (by omega)) ?_)
  refine ixR_h (i := f.getD 0 0) (e := FnR.cells g) hF.rws h h0 (by rw [List.getElem?_map, hg]; rfl) fun p hp => ?_
  refine ldS_i (s := g.sl) (hp h (j := 1) rfl) ?_
  refine joinP_i (fun b w' => b = false ∧ w' = w6) (fun J hJ => ?_) fun b v hbv => ?_
  · refine ldI_h (g := g1) (o := 0 + 1) h (ints_getD (by omega)) (iteB_f (by rw [decide_eq_false_iff_not]; show ¬ f.getD 1 0 < 0; omega) ?_)
    refine ldI_h (g := g1) (o := 0 + 1) h (ints_getD (by omega)) (hJ _ _ ⟨by rw [decide_eq_false_iff_not]; show ¬ f.getD 1 0 ≥ ((g.sl.n : Nat) : Int); omega, rfl⟩)
  rw [hbv.1, hbv.2]
  refine iteB_f rfl ?_
  refine ldI_h (g := g1) (o := 0 + 1) h (ints_getD (by omega)) ?_
  refine ixR_h (i := f.getD 1 0) (e := ints i) hcd.rws h h1 (by rw [List.getElem?_map, hi]; rfl) fun p hp => ?_
  refine ldA_c (e := ints i) (by simp [ints, h5]) (fun j v => hp h) ?_
  refine stW_h (g := g5) h rfl (by simp [ints, h5]) (Ck.one_agI _) fun w29 h => ?_
  have h : St w w29 [blk g5 (ints i), blk g3 [.slice ps.a ps.n ps.c], blk g1 (ints f)] := h
  refine ldW_h (g := g5) h (by simp [ints, h5]) ?_
  exact hk _ h.ext
theorem point_s {op : Int} {w : World} {k : Bool → World → Prop} (h0 : 0 ≤ op) (h1 : op < 17) (hk : k (isPt op) w) : code_Point op w k := by
  unfold code_Point
  rcases Fr.op17 h0 h1 with h | h | h | h | h | h | h | h | h | h | h | h | h | h | h | h | h <;> subst h <;> exact hk
theorem callP_i {l : List (Nat × DecP)} {q : Value → World → Prop} {id : FuncId} {first captured args : Array Value} {w : World} {c : Value → World → Prop} {d : DecP} (e : ∀ args w c, orcP l q (.func id) args w c = d args.toList w c q) (h : d (first ++ args ++ captured).toList w c q) : callF (orcP l q) (.func (.func id) first captured) args w c := by
  show orcP l q (.func id) (first ++ args ++ captured) w c
  rw [e]; exact h
abbrev dRun : Value → Value := fun c => .func (.func n_serial_Run_2) #[] #[c]

/-- the machine, its rows, the task, its scopes, where m lies -/
abbrev SSL (gc gm gt : Nat) (ps : Sl) (F : Int) (t : Tk) (pi pl : Option Addr) (nB : Nat) (m : Mc) (s : Sl) (d : Bool) (R : List HP) : List HP :=
  blk gm [.slice ps.a ps.n ps.c, .int .i64 F, .int .i64 m.steps, .slice s.a s.n s.c, dRun (.pointer (some ⟨gc, 0, none⟩))] :: slc 7 s (rowsV m.rows) :: blk gt (tskV t pi pl d) :: seg nB pi pl t.sc :: blk gc [.pointer (some ⟨gm, 0, none⟩)] :: R
/-- what of memory a run of m.run comes to -/
abbrev MML (gc gm : Nat) (ps : Sl) (F : Int) (m : Mc) (s : Sl) (R : List HP) : List HP :=
  blk gm [.slice ps.a ps.n ps.c, .int .i64 F, .int .i64 m.steps, .slice s.a s.n s.c, dRun (.pointer (some ⟨gc, 0, none⟩))] :: slc 7 s (rowsV m.rows) :: blk gc [.pointer (some ⟨gm, 0, none⟩)] :: R
/-- sizes -/
structure Sz (F : Int) (t : Tk) (m : Mc) : Prop where
  s0 : 0 ≤ m.steps
  sF : m.steps ≤ F
  F0 : F ≤ 1048576
  rl : (m.rows.length : Int) ≤ m.steps + 1
  cl : ∀ r ∈ m.rows, (r.cl.length : Int) ≤ m.steps
  op : 0 ≤ t.opened ∧ t.opened ≤ m.steps
theorem getD_mem {l : List Rw} {i : Nat} (h : i < l.length) : l.getD i r0 ∈ l := List.mem_of_getElem? (row_at h)
theorem set_cl {l : List Rw} {i : Nat} {r : Rw} {B : Int} (h : ∀ r ∈ l, (r.cl.length : Int) ≤ B) (hr : (r.cl.length : Int) ≤ B) : ∀ q ∈ l.set i r, (q.cl.length : Int) ≤ B := by
  intro q hq
  rcases List.mem_or_eq_of_mem_set hq with hq | rfl
  · exact h q hq
  · exact hr
theorem sz_fin {F : Int} {t : Tk} {m m' : Mc} {P : List FnR} (h : Sz F t m) (hr : t.row < m.rows.length) (hs : stp P F t m = .fin m') : Sz F t m' := by
  have h1 := h.s0; have h2 := h.sF; have h3 := h.F0; have h4 := h.rl; have h5 := h.op
  have key : ∀ m1 : Mc, m.steps ≤ m1.steps → m1.steps ≤ F → m1.rows = m.rows → ∀ f kind v, Sz F t (m1.fin t.row f kind v) := by
    intro m1 a b c f kind v
    have hcl : ∀ r ∈ m.rows, (r.cl.length : Int) ≤ m1.steps := fun r hr => by have := h.cl r hr; omega
    refine ⟨by show 0 ≤ m1.steps; omega, b, h3, by show ((m1.rows.set _ _).length : Int) ≤ m1.steps + 1; rw [List.length_set, c]; omega, ?_, ⟨h5.1, by show t.opened ≤ m1.steps; omega⟩⟩
    show ∀ r ∈ (m1.rows.set _ _), (r.cl.length : Int) ≤ m1.steps
    refine set_cl (by rw [c]; exact hcl) ?_
    rw [c]
    have := hcl _ (getD_mem (l := m.rows) hr)
    exact this
  unfold stp at hs
  split at hs
  · cases hs; exact key m (Int.le_refl _) h2 rfl _ _ _
  split at hs
  · cases hs
  split at hs
  · cases hs
  split at hs
  · cases hs
  unfold act at hs
  split at hs
  · cases hs
  split at hs
  · split at hs
    · cases hs; exact key { m with steps := m.steps + 1 } (by dsimp only; omega) (by dsimp only; omega) rfl _ _ _
    · cases hs
  split at hs
  · cases hs
  split at hs
  · cases hs
  split at hs
  · cases hs
  split at hs
  · cases hs
  cases hs
  exact key { m with steps := m.steps + 1 } (by dsimp only; omega) (by dsimp only; omega) rfl _ _ _
theorem sz_go {F : Int} {t t' : Tk} {m m' : Mc} {P : List FnR} (h : Sz F t m) (hr : t.row < m.rows.length) (hs : stp P F t m = .go t' m') : Sz F t' m' := by
  have h1 := h.s0; have h2 := h.sF; have h3 := h.F0; have h4 := h.rl; have h5 := h.op
  have hcl : ∀ r ∈ m.rows, (r.cl.length : Int) ≤ m.steps + 1 := fun r hr => by have := h.cl r hr; omega
  have key : ∀ t1 : Tk, 0 ≤ t1.opened ∧ t1.opened ≤ m.steps + 1 → m.steps < F → Sz F t1 { m with steps := m.steps + 1 } := fun t1 a b => ⟨by dsimp only; omega, by dsimp only; omega, h3, by dsimp only; omega, hcl, a⟩
  unfold stp at hs
  split at hs
  · cases hs
  split at hs
  · cases hs
  split at hs
  · cases hs
  split at hs
  · cases hs; exact key _ ⟨h5.1, by dsimp only; omega⟩ (by omega)
  unfold act at hs
  split at hs
  · cases hs
  split at hs
  · split at hs
    · cases hs
    · cases hs; exact key _ ⟨h5.1, by dsimp only; omega⟩ (by omega)
  split at hs
  · cases hs; exact key _ ⟨by dsimp only; omega, by dsimp only; omega⟩ (by omega)
  split at hs
  · cases hs
    refine ⟨by show 0 ≤ m.steps + 1; omega, by show m.steps + 1 ≤ F; omega, h3, by show ((m.rows.set _ _).length : Int) ≤ m.steps + 1 + 1; rw [List.length_set]; omega, ?_, ⟨h5.1, by show t.opened ≤ m.steps + 1; omega⟩⟩
    show ∀ r ∈ m.rows.set _ _, (r.cl.length : Int) ≤ m.steps + 1
    refine set_cl hcl ?_
    have := h.cl _ (getD_mem hr)
    simp only [List.length_append, List.length_cons, List.length_nil]
    show (((m.rows.getD t.row r0).cl.length + 1 : Nat) : Int) ≤ m.steps + 1
    omega
  split at hs
  · cases hs; exact key _ ⟨h5.1, by dsimp only; omega⟩ (by omega)
  split at hs
  · cases hs; exact key _ ⟨h5.1, by dsimp only; omega⟩ (by omega)
  cases hs
theorem sz_fork {F : Int} {t c : Tk} {m m' : Mc} {P : List FnR} {i : List Int} (h : Sz F t m) (hs : stp P F t m = .fork c m' i) : Sz F c m' := by
  have h1 := h.s0; have h2 := h.sF; have h3 := h.F0; have h4 := h.rl; have h5 := h.op
  obtain ⟨hlt, hst, _, _, _, rfl, hrows⟩ := stp_fork hs
  refine ⟨by omega, by omega, h3, by rw [hrows]; simp; omega, ?_, ⟨Int.le_refl _, by dsimp only; omega⟩⟩
  rw [hrows]
  intro r hr
  rcases List.mem_append.1 hr with hr | hr
  · have := h.cl r hr; omega
  · simp at hr; subst hr; simp; omega
theorem goes_sz {P : List FnR} {F : Int} (hA : Accs P) (hI : ∀ g ∈ P, InI g.needs) {t : Tk} {m : Mc} {r : Res} (hG : Goes P F t m r) : ∀ {m' : Mc}, r = .ok m' → Inv P t m → Sz F t m → 0 ≤ m'.steps ∧ m'.steps ≤ F ∧ F ≤ 1048576 ∧ (m'.rows.length : Int) ≤ m'.steps + 1 ∧ ∀ r ∈ m'.rows, (r.cl.length : Int) ≤ m'.steps := by
  induction hG with
  | fin h => intro m' e hi hz; cases e; have := sz_fin hz hi.row h; exact ⟨this.s0, this.sF, this.F0, this.rl, this.cl⟩
  | bad h => intro m' e; cases e
  | go h _ ih => intro m' e hi hz; exact ih e (inv_go hA hi h).1 (sz_go hz hi.row h)
  | forkBad h _ ih => intro m' e; cases e
  | fork h h1 _ ih1 ih2 =>
    intro m' e hi hz
    obtain ⟨k1, k2⟩ := inv_child hA hI hi h
    obtain ⟨k3, k4⟩ := goes_more hA hI h1 rfl k1
    obtain ⟨k5, k6⟩ := inv_forked hA hi h k3 k4
    obtain ⟨z1, z2, z3, z4, z5⟩ := ih1 rfl k1 (sz_fork hz h)
    have hle := h1.le rfl
    have hst := (stp_fork h).2.1
    exact ih2 e k5 ⟨z1, z2, z3, z4, z5, ⟨hz.op.1, by have := hz.op.2; dsimp only; omega⟩⟩
end Go.Proofs.Ytgkfbagclkjilaa
