/-
  The evaluator's soundness, seventh part: regions that draw their order, code, functions.
-/
import Derived.Test.YtgkfbagclkjilaaEvF
namespace Go.Ev
open Go

/-! ### masks -/
theorem testBit_set (m i k : Nat) : (m ||| 2 ^ i).testBit k = (m.testBit k || decide (i = k)) := by
  rw [Nat.testBit_or, Nat.testBit_two_pow]

theorem depFold (l : List Edge) : ∀ (s k : Nat), (l.foldl (fun s e => if Region.binds .any e then s ||| 2 ^ e.on else s) s).testBit k = true ↔ s.testBit k = true ∨ ∃ e ∈ l, Region.binds .any e = true ∧ e.on = k := by
  induction l with
  | nil => intro s k; simp
  | cons e l ih =>
    intro s k
    rw [List.foldl_cons, ih]
    by_cases hb : Region.binds .any e = true
    · rw [if_pos hb, testBit_set]
      simp only [Bool.or_eq_true, decide_eq_true_eq, List.mem_cons]
      constructor
      · rintro ((h | h) | ⟨e', h1, h2, h3⟩)
        · exact .inl h
        · exact .inr ⟨e, .inl rfl, hb, h⟩
        · exact .inr ⟨e', .inr h1, h2, h3⟩
      · rintro (h | ⟨e', h1 | h1, h2, h3⟩)
        · exact .inl (.inl h)
        · subst h1; exact .inl (.inr h3)
        · exact .inr ⟨e', h1, h2, h3⟩
    · rw [if_neg hb]
      simp only [List.mem_cons]
      constructor
      · rintro (h | ⟨e', h1, h2, h3⟩)
        · exact .inl h
        · exact .inr ⟨e', .inr h1, h2, h3⟩
      · rintro (h | ⟨e', h1 | h1, h2, h3⟩)
        · exact .inl h
        · subst h1; exact absurd h2 hb
        · exact .inr ⟨e', h1, h2, h3⟩

theorem depMask_bit (o : Oper) (k : Nat) : (depMask o).testBit k = true ↔ ∃ e ∈ o.after, Region.binds .any e = true ∧ e.on = k := by
  unfold depMask
  rw [← Array.foldl_toList, depFold]
  simp

theorem sub_mask {x m : Nat} : (x &&& m == x) = true ↔ ∀ k, x.testBit k = true → m.testBit k = true := by
  rw [beq_iff_eq]
  constructor
  · intro h k hk
    rw [← h, Nat.testBit_and] at hk
    simp only [Bool.and_eq_true] at hk
    exact hk.2
  · intro h
    apply Nat.eq_of_testBit_eq
    intro k
    rw [Nat.testBit_and]
    cases hx : x.testBit k
    · rfl
    · simp [h k hx]

section
variable {P : Program} {ops : Array Oper} {Q : Exit → Act → World → Prop} {q : Pan}

def LM (ops : Array Oper) (m : Nat) (listed : Array Bool) : Prop := listed.size = ops.size ∧ ∀ i d, i < ops.size → listed.getD i d = m.testBit i

theorem LM.set {m i : Nat} {listed : Array Bool} (h : LM ops m listed) (hi : i < ops.size) : LM ops (m ||| 2 ^ i) (listed.setIfInBounds i true) := by
  refine ⟨by simp [h.1], fun k d hk => ?_⟩
  rw [testBit_set]
  by_cases hik : i = k
  · subst hik
    have : i < listed.size := by rw [h.1]; exact hi
    simp [this]
  · rw [getD_set_ne d hik, h.2 k d hk]
    simp [hik]

def rdy (ops : Array Oper) (m i : Nat) (o : Oper) : Prop := ops[i]? = some o ∧ (!m.testBit i && (depMask o &&& m == depMask o)) = true

theorem back_lt (hb : backOK ops = true) {j : Nat} {o : Oper} (ho : ops[j]? = some o) : ∀ e ∈ o.after, Region.binds .any e = true → e.on < j := by
  intro e he hbi
  have hj : j < ops.size := (Array.getElem?_eq_some_iff.1 ho).1
  unfold backOK at hb
  rw [List.all_eq_true] at hb
  have h1 := hb j (List.mem_range.2 hj)
  rw [ho] at h1
  simp only [Array.all_eq_true'] at h1
  have h2 := h1 e he
  simpa [hbi, Nat.blt_eq] using h2

theorem rdy_iff (hb : backOK ops = true) {m : Nat} {listed : Array Bool} (h : LM ops m listed) {i : Nat} : i ∈ Region.ready .any ops listed ↔ ∃ o, rdy ops m i o := by
  rw [mem_ready]
  constructor
  · rintro ⟨h1, o, ho, h2⟩
    have hi : i < ops.size := (Array.getElem?_eq_some_iff.1 ho).1
    refine ⟨o, ho, ?_⟩
    simp only [Bool.and_eq_true, Bool.not_eq_true']
    refine ⟨by rw [← h.2 i true hi]; exact h1, sub_mask.2 fun k hk => ?_⟩
    obtain ⟨e, he, hbi, rfl⟩ := (depMask_bit o k).1 hk
    have := h2 e he hbi
    rwa [h.2 e.on false (by have := back_lt hb ho e he hbi; omega)] at this
  · rintro ⟨o, ho, h1⟩
    have hi : i < ops.size := (Array.getElem?_eq_some_iff.1 ho).1
    simp only [Bool.and_eq_true, Bool.not_eq_true'] at h1
    refine ⟨by rw [h.2 i true hi]; exact h1.1, o, ho, fun e he hbi => ?_⟩
    rw [h.2 e.on false (by have := back_lt hb ho e he hbi; omega)]
    exact sub_mask.1 h1.2 e.on ((depMask_bit o e.on).2 ⟨e, he, hbi, rfl⟩)

theorem pickStill_some {m : Nat} : ∀ {n i0 i : Nat}, pickStill P ops m n i0 = some i → ∃ o, rdy ops m i o ∧ still P o = true
  | 0, _, _, h => by simp [pickStill] at h
  | n + 1, i0, i, h => by
    unfold pickStill at h
    split at h
    · rename_i o ho
      split at h
      · rename_i hc
        cases h
        simp only [Bool.and_eq_true] at hc
        exact ⟨o, ⟨ho, by simp only [Bool.and_eq_true]; exact hc.1⟩, hc.2⟩
      · exact pickStill_some h
    · cases h
theorem pickStill_none {m : Nat} : ∀ {n i0 : Nat}, pickStill P ops m n i0 = none → ∀ i o, i0 ≤ i → i < i0 + n → rdy ops m i o → still P o = false
  | 0, i0, _, i, _, h1, h2, _ => by omega
  | n + 1, i0, h, i, o, h1, h2, hr => by
    unfold pickStill at h
    split at h
    · rename_i o0 ho0
      split at h
      · cases h
      · rename_i hc
        by_cases hi : i = i0
        · subst hi
          have : o = o0 := Option.some.inj (hr.1.symm.trans ho0)
          subst this
          cases hs : still P o with
          | false => rfl
          | true => exact absurd (by simp only [Bool.and_eq_true]; exact ⟨by simpa using hr.2, hs⟩) hc
        · exact pickStill_none h i o (by omega) (by omega) hr
    · rename_i hn
      have hi : i < ops.size := (Array.getElem?_eq_some_iff.1 hr.1).1
      have : ops.size ≤ i0 := by simpa using hn
      omega
theorem readyAll_mem {m i : Nat} : i ∈ readyAll ops m ↔ ∃ o, rdy ops m i o := by
  unfold readyAll rdy
  rw [List.mem_filter, List.mem_range]
  constructor
  · rintro ⟨_, h⟩
    split at h
    · rename_i o ho; exact ⟨o, ho, h⟩
    · cases h
  · rintro ⟨o, ho, h⟩
    exact ⟨(Array.getElem?_eq_some_iff.1 ho).1, by rw [ho]; exact h⟩

theorem allOf_mem {c : Nat → Prop} : ∀ {l : List Nat}, allOf l c → ∀ i ∈ l, c i
  | [], _, i, hi => by cases hi
  | [j], h, i, hi => by rcases List.mem_cons.1 hi with rfl | hi; exact h; cases hi
  | j :: k :: l, h, i, hi => by
    rcases List.mem_cons.1 hi with rfl | hi
    · exact h.1
    · exact allOf_mem h.2 i hi

def cntU (m n : Nat) : Nat := (List.range n).countP fun i => !m.testBit i
theorem cntU_succ (m n : Nat) : cntU m (n + 1) = cntU m n + if m.testBit n then 0 else 1 := by
  unfold cntU
  rw [List.range_succ, List.countP_append]
  cases h : m.testBit n <;> simp [h]
theorem cntU_set {m i : Nat} (hm : m.testBit i = false) : ∀ {n : Nat}, (i < n → cntU (m ||| 2 ^ i) n + 1 = cntU m n) ∧ (n ≤ i → cntU (m ||| 2 ^ i) n = cntU m n)
  | 0 => ⟨fun h => by omega, fun _ => rfl⟩
  | n + 1 => by
    obtain ⟨h1, h2⟩ := cntU_set hm (n := n)
    rw [cntU_succ, cntU_succ, testBit_set]
    constructor
    · intro h
      by_cases hi : i = n
      · subst hi; have := h2 (Nat.le_refl _); simp [hm, this]
      · have := h1 (by omega)
        simp only [hi, decide_false, Bool.or_false]
        omega
    · intro h
      have := h2 (by omega)
      have hi : i ≠ n := by omega
      simp only [hi, decide_false, Bool.or_false, this]
theorem cntU_zero {m : Nat} : ∀ {n : Nat}, cntU m n = 0 → ∀ i, i < n → m.testBit i = true
  | 0, _, i, hi => by omega
  | n + 1, h, i, hi => by
    rw [cntU_succ] at h
    by_cases hin : i = n
    · subst hin; cases hb : m.testBit i <;> simp [hb] at h ⊢
    · exact cntU_zero (n := n) (by omega) i (by omega)

/-- the holds of the evaluator say no less than those of the machine -/
def HR (hs : List Held) (h : Nat → World → Prop) : Prop := ∀ k w', (∀ x ∈ hs, x.i = k → sameC x.n x.a x.w w') → h k w'

theorem heldOK_inv {anc : Nat} : ∀ {hs : List Held} {w : World} {c : Prop}, heldOK anc hs w c → c ∧ ∀ x ∈ hs, anc.testBit x.i = false → sameC x.n x.a x.w w
  | [], _, _, h => ⟨h, fun x hx => by cases hx⟩
  | y :: hs, w, c, h => by
    unfold heldOK at h
    split at h
    · rename_i hb
      obtain ⟨h1, h2⟩ := heldOK_inv h
      refine ⟨h1, fun x hx hn => ?_⟩
      rcases List.mem_cons.1 hx with rfl | hx
      · rw [hb] at hn; cases hn
      · exact h2 x hx hn
    · obtain ⟨h0, h⟩ := h
      obtain ⟨h1, h2⟩ := heldOK_inv h
      refine ⟨h1, fun x hx hn => ?_⟩
      rcases List.mem_cons.1 hx with rfl | hx
      · exact h0
      · exact h2 x hx hn

/-- a load, taken ahead -/
theorem evLoadStep_v {i : Nat} {o : Oper} {t : TypeId} {x : Operand} {a : Act} {e : Env} {w : World} {hs : List Held} {c : Env → List Held → Prop} (hs0 : Sub e a) (hf : Fits o a) (hop : o.op = .load t x)
    (h : evLoadStep P ops i o t x e w hs c) :
    ∃ e' hs' v S, c e' hs' ∧ Sub e' (a.put o.dst v) ∧ S w ∧ (∀ w', S w' → StepV P ops o a w' v) ∧ (hs' = hs ∧ (S = fun _ => True) ∨ ∃ n p, hs' = ⟨i, n, p, w⟩ :: hs ∧ (S = fun w' => sameC n p w w')) := by
  have key : ∀ (e : Env), Sub e a → Region.wanted o (yielded ops a.tmps) = true → (evRead P t (e.op x) w fun v => c (e.put? o.dst v) (heldOf P i t (e.op x) w hs)) →
      ∃ e' hs' v S, c e' hs' ∧ Sub e' (a.put o.dst v) ∧ S w ∧ (∀ w', S w' → StepV P ops o a w' v) ∧ (hs' = hs ∧ (S = fun _ => True) ∨ ∃ n p, hs' = ⟨i, n, p, w⟩ :: hs ∧ (S = fun w' => sameC n p w w')) := by
    intro e hs1 hw h
    obtain ⟨p, u, hp, hc, hr⟩ := evLoad_run (op_agree hs1) hop h
    rw [hp] at hc
    exact ⟨_, _, u, fun w' => sameC (loadN P t) p w w', hc, putq_ok hs1 hf, fun _ _ => rfl, fun w' hw' => .inl ⟨hw, hr w' hw'⟩, .inr ⟨_, _, rfl, rfl⟩⟩
  unfold evLoadStep at h
  split at h
  · rename_i hg
    exact key e hs0 (wanted_none hg _) h
  · split at h
    · exact h.elim
    · rename_i g want hgs
      have hw := wanted_isB (a := a) hgs
      rcases withG_inv hs0 h with ⟨e', hs', hib, h⟩ | ⟨e', hs', hib, h⟩
      · exact key _ hs' (by rw [hw, hib]) h
      · exact ⟨_, hs, undef, fun _ => True, h, putq_ok hs' hf, trivial, fun w' _ => .inr ⟨by rw [hw, hib], rfl⟩, .inl ⟨rfl, rfl⟩⟩

theorem HR_upd {hs hs' : List Held} {h : Nat → World → Prop} {i : Nat} {w : World} {S : World → Prop} (hr : HR hs h)
    (hx : hs' = hs ∧ (S = fun _ => True) ∨ ∃ n p, hs' = ⟨i, n, p, w⟩ :: hs ∧ (S = fun w' => sameC n p w w')) : HR hs' (upd h i S) := by
  intro k w' hall
  unfold upd
  split
  · rename_i hk
    rcases hx with ⟨_, rfl⟩ | ⟨n, p, rfl, rfl⟩
    · trivial
    · exact hall _ List.mem_cons_self hk.symm
  · rcases hx with ⟨rfl, _⟩ | ⟨n, p, rfl, _⟩
    · exact hr k w' hall
    · exact hr k w' fun x hx he => hall x (List.mem_cons_of_mem _ hx) he

theorem evDraw_H {orc : Oracle} {anc : Array Nat} (ho : OrcOK P orc q) (hb : backOK ops = true) (hap : Apart ops fun j i => (anc.getD j 0).testBit i) (han : AncOK ops fun j i => (anc.getD j 0).testBit i)
    (hsel : ∀ o ∈ ops, ∀ cs b, o.op ≠ .select cs b) :
    ∀ (fuel m : Nat) (hs : List Held) (e : Env) (w : World) (a : Act) (listed : Array Bool) (h : Nat → World → Prop) (c : Env → World → Prop), LM ops m listed → Closed ops listed → (∀ k, listed.getD k false = false → h k = fun _ => True) → HR hs h →
    opsFit a.tmps.size ops = true → Sub e a → evDraw P orc ops anc fuel m hs e w c → (∀ e' w' a', c e' w' → Sub e' a' → Keeps (opsW ops) a a' → Q .normal a' w') →
    wpH P ops (fun j i => (anc.getD j 0).testBit i) q Q (cntU m ops.size) listed h a w
  | 0, _, _, _, _, _, _, _, _, _, _, _, _, _, _, h, _ => h.elim
  | fuel + 1, m, hs, e, w, a, listed, hh, c, hlm, hcl, hun, hr, hf, hs0, h, hQ => by
    unfold evDraw at h
    have hiff : ∀ i, i ∈ Region.ready .any ops listed ↔ ∃ o, rdy ops m i o := fun i => rdy_iff hb hlm
    split at h
    · -- one that does not turn memory
      rename_i i hpick
      obtain ⟨o, hrd, hst⟩ := pickStill_some hpick
      have hir := (hiff i).2 ⟨o, hrd⟩
      have hi := ready_lt hir
      have hmo : o ∈ ops := Array.mem_of_getElem? hrd.1
      have hmi : m.testBit i = false := by have := hrd.2; simp only [Bool.and_eq_true, Bool.not_eq_true'] at this; exact this.1
      rw [hrd.1] at h
      simp only at h
      have hcnt := (cntU_set hmi (n := ops.size)).1 hi
      rw [← hcnt]
      have hun' : ∀ S, ∀ k, (listed.setIfInBounds i true).getD k false = false → upd hh i S k = fun _ => True := by
        intro S k hk
        by_cases hki : k = i
        · subst hki
          have : k < listed.size := by rw [hlm.1]; exact hi
          simp [this] at hk
        · unfold upd
          rw [if_neg hki]
          exact hun k (by rwa [getD_set_ne false (Ne.symm hki)] at hk)
      have fin : ∀ e' hs' v S, (forceE e' fun e => evDraw P orc ops anc fuel (m ||| 2 ^ i) hs' e w c) → Sub e' (a.put o.dst v) → S w → (∀ w', S w' → StepV P ops o a w' v) → HR hs' (upd hh i S) →
          wpH P ops (fun j i => (anc.getD j 0).testBit i) q Q (cntU (m ||| 2 ^ i) ops.size + 1) listed hh a w := by
        intro e' hs' v S hd hs1 hS hv hr'
        rw [forceE_eq] at hd
        refine ample hap han _ listed hh a w i o v S hcl hun hir hrd.1 hst hS hv ?_
        exact evDraw_H ho hb hap han hsel fuel _ hs' e' w _ _ _ c (hlm.set hi) (hcl.set hir) (hun' S) hr' (by rw [put_size]; exact hf) hs1 hd fun e2 w2 a2 h1 h2 h3 =>
          hQ e2 w2 a2 h1 h2 ((Keeps.put fun x hx => opsW_mem hmo hx).trans h3)
      split at h
      · rename_i t x hl
        have hop : o.op = .load t x := by unfold isLoad at hl; split at hl <;> simp_all
        obtain ⟨e', hs', v, S, hc, hs1, hS, hv, hx⟩ := evLoadStep_v hs0 (opsFit_mem hf hmo) hop h
        exact fin e' hs' v S hc hs1 hS hv (HR_upd hr hx)
      · rename_i hl
        have hbl : Blind P o.op = true := by
          unfold still at hst
          rw [hl] at hst
          simpa using hst
        obtain ⟨e', v, hc, hs1, hv⟩ := evStep_v hs0 (opsFit_mem hf hmo) hbl h
        exact fin e' hs v (fun _ => True) hc hs1 trivial (fun w' _ => hv w') (HR_upd (w := w) hr (.inl ⟨rfl, rfl⟩))
    · rename_i hpick
      have hnst : ∀ i o, rdy ops m i o → still P o = false := fun i o hrd =>
        pickStill_none hpick i o (Nat.zero_le _) (by have := (Array.getElem?_eq_some_iff.1 hrd.1).1; omega) hrd
      split at h
      · -- all are done
        rename_i hnil
        split at h
        · rename_i hall
          rw [List.all_eq_true] at hall
          have hready : Region.ready .any ops listed = [] := by
            cases hrr : Region.ready .any ops listed with
            | nil => rfl
            | cons i l =>
              have hi : i ∈ Region.ready .any ops listed := by rw [hrr]; exact List.mem_cons_self
              have := readyAll_mem.2 ((hiff i).1 hi)
              rw [hnil] at this
              cases this
          have hq := hQ e w a h hs0 (.refl _ _)
          cases hcn : cntU m ops.size with
          | zero => exact ⟨hready, hq⟩
          | succ f => exact ⟨fun _ => hq, fun i hi => by rw [hready] at hi; cases hi⟩
        · exact h.elim
      · -- one that turns memory, any of them
        rename_i l hne
        have hall := allOf_mem h
        have hex : ∃ i, i ∈ readyAll ops m := by
          cases hrr : readyAll ops m with
          | nil => exact absurd hrr hne
          | cons i l => exact ⟨i, List.mem_cons_self⟩
        obtain ⟨i0, hi0⟩ := hex
        obtain ⟨o0, hr0⟩ := readyAll_mem.1 hi0
        have hi0' := ready_lt ((hiff i0).2 ⟨o0, hr0⟩)
        have hm0 : m.testBit i0 = false := by have := hr0.2; simp only [Bool.and_eq_true, Bool.not_eq_true'] at this; exact this.1
        have hpos := (cntU_set hm0 (n := ops.size)).1 hi0'
        cases hcn : cntU m ops.size with
        | zero => omega
        | succ f =>
          refine ⟨fun hr' => ?_, fun i hir o hoi => ⟨fun hst => ?_, fun _ => ?_⟩⟩
          · have := (hiff i0).2 ⟨o0, hr0⟩
            rw [hr'] at this; cases this
          · obtain ⟨o', hrd⟩ := (hiff i).1 hir
            have : o = o' := Option.some.inj (hoi.symm.trans hrd.1)
            subst this
            rw [hnst i o hrd] at hst; cases hst
          · obtain ⟨o', hrd⟩ := (hiff i).1 hir
            have : o = o' := Option.some.inj (hoi.symm.trans hrd.1)
            subst this
            have hi := ready_lt hir
            have hmo : o ∈ ops := Array.mem_of_getElem? hrd.1
            have hmi : m.testBit i = false := by have := hrd.2; simp only [Bool.and_eq_true, Bool.not_eq_true'] at this; exact this.1
            have hcnt := (cntU_set hmi (n := ops.size)).1 hi
            have hfe : f = cntU (m ||| 2 ^ i) ops.size := by omega
            have hst := hall i (readyAll_mem.2 ⟨o, hrd⟩)
            rw [hrd.1] at hst
            simp only at hst
            refine ⟨hsel o hmo, (evStep_c hs0 (opsFit_mem hf hmo) ho hst).mono fun v w' hx => ?_⟩
            obtain ⟨e', hx, hs1⟩ := hx
            obtain ⟨hx, hheld⟩ := heldOK_inv hx
            rw [forceE_eq] at hx
            refine ⟨fun k hk => hr k w' fun y hy hyk => hheld y hy (by rw [hyk]; exact hk), ?_⟩
            rw [hfe]
            have hun' : ∀ k, (listed.setIfInBounds i true).getD k false = false → hh k = fun _ => True := by
              intro k hk
              by_cases hki : k = i
              · subst hki
                have : k < listed.size := by rw [hlm.1]; exact hi
                simp [this] at hk
              · exact hun k (by rwa [getD_set_ne false (Ne.symm hki)] at hk)
            exact evDraw_H ho hb hap han hsel fuel _ hs e' w' _ _ _ c (hlm.set hi) (hcl.set hir) hun' hr (by rw [put_size]; exact hf) hs1 hx fun e2 w2 a2 h1 h2 h3 =>
              hQ e2 w2 a2 h1 h2 ((Keeps.put fun x hx => opsW_mem hmo hx).trans h3)
end

end Go.Ev
