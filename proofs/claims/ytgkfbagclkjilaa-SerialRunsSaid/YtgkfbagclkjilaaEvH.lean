/-
  The evaluator's soundness, last part: code and functions.
-/
import Derived.Test.YtgkfbagclkjilaaEvG
namespace Go.Ev
open Go

section
variable {P : Program} {ops : Array Oper} {q : Pan}

theorem noSelect_ops (h : noSelect ops = true) : ∀ o ∈ ops, ∀ cs b, o.op ≠ .select cs b := by
  intro o ho cs b hb
  unfold noSelect at h
  rw [List.all_eq_true] at h
  have := h o (by simpa using ho)
  simp [hb] at this

theorem pairs_apart {anc : Array Nat} (h : pairsOK ops anc = true) : Apart ops fun j i => (anc.getD j 0).testBit i := by
  intro i j x y hij hx hy ha
  have hj : j < ops.size := (Array.getElem?_eq_some_iff.1 hy).1
  unfold pairsOK at h
  rw [List.all_eq_true] at h
  have h1 := h j (List.mem_range.2 hj)
  rw [List.all_eq_true] at h1
  have h2 := h1 i (List.mem_range.2 hij)
  simp only [ha, Bool.false_or, hx, hy, Bool.and_eq_true] at h2
  exact h2

/-! the forerunners -/
theorem ancFold (acc : Array Nat) (l : List Edge) : ∀ (s k : Nat), (l.foldl (fun s e => if Region.binds .any e then s ||| 2 ^ e.on ||| acc.getD e.on 0 else s) s).testBit k = true → s.testBit k = true ∨ ∃ e ∈ l, Region.binds .any e = true ∧ (e.on = k ∨ (acc.getD e.on 0).testBit k = true) := by
  induction l with
  | nil => intro s k h; exact .inl h
  | cons e l ih =>
    intro s k h
    rw [List.foldl_cons] at h
    rcases ih _ k h with h | ⟨e', h1, h2, h3⟩
    · split at h
      · rename_i hb
        rw [Nat.testBit_or, testBit_set] at h
        simp only [Bool.or_eq_true, decide_eq_true_eq] at h
        rcases h with (h | h) | h
        · exact .inl h
        · exact .inr ⟨e, List.mem_cons_self, hb, .inl h⟩
        · exact .inr ⟨e, List.mem_cons_self, hb, .inr h⟩
      · exact .inl h
    · exact .inr ⟨e', List.mem_cons_of_mem _ h1, h2, h3⟩

def AncGood (ops : Array Oper) (acc : Array Nat) : Prop := ∀ j i, (acc.getD j 0).testBit i = true → ∃ o, ops[j]? = some o ∧ ∃ e ∈ o.after, Region.binds .any e = true ∧ (e.on = i ∨ (acc.getD e.on 0).testBit i = true)

theorem ancL_good : ∀ (l : List Oper) (acc : Array Nat), (∀ k, l[k]? = ops[acc.size + k]?) → AncGood ops acc → AncGood ops (ancL l acc)
  | [], acc, _, h => h
  | o :: l, acc, hl, h => by
    unfold ancL
    have h0 : ops[acc.size]? = some o := by have := hl 0; simpa using this.symm
    refine ancL_good l _ (fun k => by have := hl (k + 1); simp at this ⊢; rw [this]; congr 1; omega) ?_
    intro j i hji
    have hpush : ∀ x, (acc.getD x 0).testBit i = true → ((acc.push (ancOf acc o)).getD x 0).testBit i = true := by
      intro x hx
      by_cases hlt : x < acc.size
      · simp [Array.getElem?_push, hlt] at hx ⊢
        rw [if_neg (by omega)]; simpa [hlt] using hx
      · simp [Array.getElem?_eq_none (Nat.le_of_not_lt hlt)] at hx
    by_cases hj : j = acc.size
    · subst hj
      simp at hji
      unfold ancOf at hji
      rw [← Array.foldl_toList] at hji
      rcases ancFold acc _ 0 i hji with hz | ⟨e, h1, h2, h3⟩
      · simp at hz
      · exact ⟨o, h0, e, by simpa using h1, h2, h3.imp id (hpush _)⟩
    · have hji' : (acc.getD j 0).testBit i = true := by
        simp [Array.getElem?_push, hj] at hji ⊢
        exact hji
      obtain ⟨o', ho', e, h1, h2, h3⟩ := h j i hji'
      exact ⟨o', ho', e, h1, h2, h3.imp id (hpush _)⟩

theorem ancs_ok (hb : backOK ops = true) : AncOK ops fun j i => ((ancs ops).getD j 0).testBit i := by
  intro j i h
  have hg : AncGood ops (ancs ops) := ancL_good ops.toList #[] (by simp) (by intro j i h; simp at h)
  obtain ⟨o, ho, e, h1, h2, h3⟩ := hg j i h
  exact ⟨o, ho, e, h1, h2, back_lt hb ho e h1 h2, h3⟩

theorem replicate_getD (n i : Nat) (d : Bool) (h : i < n) : (Array.replicate n false).getD i d = false := by simp [h]

theorem region_draw {orc : Oracle} {ro : Option Nat} {n : Nat} {Q : Exit → Act → World → Prop} {id : Nat} {e : Env} {w : World} {a : Act} {c : Env → World → Prop} (hm : P.follows .mixedOrders = true) (ho : OrcOK P orc q) (hq : ∀ ch a' w', Keeps (opsW ops) a a' → q ch w' → Q (.panic ch) a' w') (hd : drawOK ops = true)
    (hf : opsFit a.tmps.size ops = true) (hs : Sub e a) (h : evDraw P orc ops (ancs ops) (ops.size + 1) 0 [] e w.drew c) (hQ : ∀ e' w' a', c e' w' → Sub e' a' → Keeps (opsW ops) a a' → Q .normal a' w') :
    (Code.region id ops true).wpIn (fen ro) n P Q a w := by
  unfold drawOK at hd
  simp only [Bool.and_eq_true] at hd
  obtain ⟨⟨hb, hp⟩, hn⟩ := hd
  refine wpIn_region_any hm (wpAny_of_H (anc := fun j i => ((ancs ops).getD j 0).testBit i) _ _ (fun _ _ => True) _ _ hq ?_)
  have hcnt : cntU 0 ops.size = ops.size := by
    unfold cntU
    rw [List.countP_eq_length.2 (by simp)]
    simp
  have := evDraw_H (Q := Q) ho hb (pairs_apart hp) (ancs_ok hb) (noSelect_ops hn) (ops.size + 1) 0 [] e w.drew a (Array.replicate ops.size false) (fun _ _ => True) c
    ⟨by simp, fun i d hi => by rw [replicate_getD _ _ _ hi]; simp⟩ ⟨by simp, fun j o hj hl => by
      rw [replicate_getD _ _ _ (Array.getElem?_eq_some_iff.1 hj).1] at hl; cases hl⟩ (fun _ _ => rfl) (fun _ _ _ => trivial) hf hs h hQ
  rw [hcnt] at this
  exact this

/-! ### code -/
def exOf : Ex → Exit
  | .normal => .normal
  | .exit id => .exit id
  | .ret => .ret

theorem restr_inv {a : Act} : ∀ {ks : List (Nat × K)} {e : Env} {c : HT ks → Prop}, Sub e a → restr ks e c → ∃ x, c x ∧ Sub (envOf ks x) a
  | [], e, c, _, h => ⟨(), h, fun p hp => by cases hp⟩
  | [(s, k)], e, c, hs, h => by
    unfold restr at h
    split at h
    · rename_i v hv
      obtain ⟨x, rfl, hc⟩ := unV_inv h
      refine ⟨x, hc, fun p hp => ?_⟩
      rcases List.mem_cons.1 hp with rfl | hp
      · exact hs _ (find_mem hv)
      · cases hp
    · exact h.elim
  | (s, k) :: (y :: r), e, c, hs, h => by
    unfold restr at h
    split at h
    · rename_i v hv
      obtain ⟨x, rfl, h'⟩ := unV_inv (c := fun x => restr (y :: r) e fun xs => c (x, xs)) h
      obtain ⟨xs, hc, hxs⟩ := restr_inv hs h'
      refine ⟨(x, xs), hc, fun p hp => ?_⟩
      rcases List.mem_cons.1 hp with rfl | hp
      · exact hs _ (find_mem hv)
      · exact hxs _ hp
    · exact h.elim

theorem keep_ok {e : Env} {a : Act} {m : Nat} (h : Sub e a) : Sub (e.keep m) a := fun p hp => h p (List.mem_filter.1 hp).1
theorem unw_ok {e : Env} {a a' : Act} {c : AC} (h : Sub e a) (hk : Keeps c.writes a a') : Sub (e.unw c) a' := by
  intro p hp
  unfold Env.unw at hp
  rw [List.mem_filter] at hp
  obtain ⟨hp, hc⟩ := hp
  obtain ⟨s, x⟩ := p
  simp only [Bool.and_eq_true, Bool.not_eq_true'] at hc
  have h0 := h _ hp
  cases x with
  | val v => show _ = _; rw [hk.2.2 s hc.1]; exact h0
  | gd g want v => exact absurd hc.2 (by simp)
theorem append_ok {e e' : Env} {a : Act} (h : Sub e a) (h' : Sub e' a) : Sub (e ++ e') a := fun p hp => (List.mem_append.1 hp).elim (h p) (h' p)

theorem op_eval {e : Env} {a : Act} {x : Operand} {b : Bool} (hs : Sub e a) (h : e.op x = some (.bool b)) : a.eval x = .bool b := op_agree hs _ _ h

theorem wpIn_scope_straight {F : Fence} {n : Nat} {c : Code} {Q : Exit → Act → World → Prop} {a : Act} {w : World} (h : c.wpIn F n P (Exit.noGoto Q) a w) : (Code.scope c).wpIn F n P Q a w := by
  intro b k cs hro hb hr
  have h0 : (lone (b.atR a (.code (.scope c) :: k)) cs w).fenced P F := fenced_calm hb hr rfl
  obtain ⟨e, a₁, w₁, hq, harr⟩ := h b (.inScope c :: k) cs hro hb hr
  have hstep : step P (lone (b.atR a (.code (.scope c) :: k)) cs w) = .next (lone (b.atR a (.code c :: .inScope c :: k)) cs w) := step_lone_go (by simp [stepG, stepG.exec, Frame.atR])
  cases e with
  | normal => exact ⟨.normal, a₁, w₁, hq, .head h0 hstep (StepsIn.trans harr (.one (fenced_calm hb hr rfl) (step_lone_go (by simp [stepG, stepG.exec, Frame.atR]))))⟩
  | exit id =>
    have hx : exitTo id (.inScope c :: k) = exitTo id k := by simp [exitTo]
    exact ⟨.exit id, a₁, w₁, hq, fun k' hk => .head h0 hstep (harr.1 k' (by rw [hx]; exact hk)),
      fun hr' hk => let ⟨k₁, h1, h2⟩ := harr.2 hr' (by rw [hx]; exact hk); ⟨k₁, h1, .head h0 hstep h2⟩⟩
  | goto l => exact hq.elim
  | ret => exact ⟨_, a₁, w₁, hq, .of_steps (.one h0 hstep) harr⟩
  | panic ch => exact ⟨_, a₁, w₁, hq, .of_steps (.one h0 hstep) harr⟩
  | outgrown => exact ⟨_, a₁, w₁, hq, .of_steps (.one h0 hstep) harr⟩

theorem ev_sound {orc : Oracle} {mask : Nat} {ro : Option Nat} {n0 : Nat} (hm : P.follows .mixedOrders = true) (ho : OrcOK P orc q) : ∀ (c : AC) (e : Env) (w : World) (a : Act) (k : Ex → Env → World → Prop) (Q : Exit → Act → World → Prop), (∀ ch a' w', Keeps c.writes a a' → q ch w' → Q (.panic ch) a' w') →
    Sub e a → c.fits a.tmps.size = true → ev P orc mask c e w k → (∀ x e' w' a', k x e' w' → Sub e' a' → Keeps c.writes a a' → Q (exOf x) a' w') → c.code.wpIn (fen ro) n0 P Q a w
  | .skip, e, w, a, k, Q, hq, hs, _, h, hQ => wpIn_skip (hQ .normal e w a h hs (.refl _ _))
  | .label l, e, w, a, k, Q, hq, hs, _, h, hQ => wpIn_label (hQ .normal e w a h hs (.refl _ _))
  | .exit id, e, w, a, k, Q, hq, hs, _, h, hQ => wpIn_exit (hQ (.exit id) e w a h hs (.refl _ _))
  | .ret, e, w, a, k, Q, hq, hs, _, h, hQ => wpIn_ret (hQ .ret e w a h hs (.refl _ _))
  | .bad c, e, w, a, k, Q, hq, _, _, h, _ => h.elim
  | .scope x, e, w, a, k, Q, hq, hs, hf, h, hQ => by
    refine wpIn_scope_straight (ev_sound hm ho x e w a k _ (by exact fun _ _ _ hd h => hq _ _ _ (by first | exact hd | exact hkp.trans hd | exact hd.mono fun s hsw => (by simp only [AC.writes, Bool.or_eq_false_iff] at hsw; first | exact hsw.1 | exact hsw.2) | exact hkp'.trans (hd.mono fun s hsw => (by simp only [AC.writes, Bool.or_eq_false_iff] at hsw; first | exact hsw.1 | exact hsw.2))) h) hs hf h fun z e' w' a' h1 h2 h3 => ?_)
    cases z <;> exact hQ _ e' w' a' h1 h2 h3
  | .region id ops draw, e, w, a, k, Q, hq, hs, hf, h, hQ => by
    unfold ev at h
    have hf' : opsFit a.tmps.size ops = true := hf
    have fin : ∀ e' w' a', (forceE (e'.keep mask) fun e => k .normal e w') → Sub e' a' → Keeps (opsW ops) a a' → Q .normal a' w' := by
      intro e' w' a' h1 h2 h3
      rw [forceE_eq] at h1
      exact hQ .normal _ w' a' h1 (keep_ok h2) h3
    cases draw with
    | true =>
      simp only [if_true] at h
      split at h
      · rename_i hd
        exact region_draw hm ho hq hd hf' hs h fin
      · exact h.elim
    | false =>
      simp only [Bool.false_eq_true, if_false] at h
      exact wpIn_region_list (evOps_wp ho ops.toList e w a _ hq (fun o h => by simpa using h) hf' hs h fin)
  | .seq x y, e, w, a, k, Q, hq, hs, hf, h, hQ => by
    unfold ev at h
    simp only [AC.fits, Bool.and_eq_true] at hf
    refine wpIn_seq (ev_sound hm ho x e w a _ _ (by exact fun _ _ _ hd h => hq _ _ _ (by first | exact hd | exact hkp.trans hd | exact hd.mono fun s hsw => (by simp only [AC.writes, Bool.or_eq_false_iff] at hsw; first | exact hsw.1 | exact hsw.2) | exact hkp'.trans (hd.mono fun s hsw => (by simp only [AC.writes, Bool.or_eq_false_iff] at hsw; first | exact hsw.1 | exact hsw.2))) h) hs hf.1 h fun z e' w' a' hk hs' hkp => ?_)
    have hkp' : Keeps (AC.seq x y).writes a a' := hkp.mono fun s hsw => by simp only [AC.writes, Bool.or_eq_false_iff] at hsw; exact hsw.1
    cases z with
    | normal =>
      refine ev_sound hm ho y e' w' a' k Q (by exact fun _ _ _ hd h => hq _ _ _ (by first | exact hd | exact hkp.trans hd | exact hd.mono fun s hsw => (by simp only [AC.writes, Bool.or_eq_false_iff] at hsw; first | exact hsw.1 | exact hsw.2) | exact hkp'.trans (hd.mono fun s hsw => (by simp only [AC.writes, Bool.or_eq_false_iff] at hsw; first | exact hsw.1 | exact hsw.2))) h) hs' (by rw [hkp.1]; exact hf.2) hk fun z e'' w'' a'' h1 h2 h3 => hQ z e'' w'' a'' h1 h2 (hkp'.trans (h3.mono fun s hsw => ?_))
      simp only [AC.writes, Bool.or_eq_false_iff] at hsw; exact hsw.2
    | exit id => exact hQ (.exit id) e' w' a' hk hs' hkp'
    | ret => exact hQ .ret e' w' a' hk hs' hkp'
  | .cond c x y, e, w, a, k, Q, hq, hs, hf, h, hQ => by
    unfold ev at h
    simp only [AC.fits, Bool.and_eq_true] at hf
    split at h
    · rename_i t ht
      refine wpIn_cond (op_eval hs ht) ?_
      cases t
      · exact ev_sound hm ho y e w a k Q (by exact fun _ _ _ hd h => hq _ _ _ (by first | exact hd | exact hkp.trans hd | exact hd.mono fun s hsw => (by simp only [AC.writes, Bool.or_eq_false_iff] at hsw; first | exact hsw.1 | exact hsw.2) | exact hkp'.trans (hd.mono fun s hsw => (by simp only [AC.writes, Bool.or_eq_false_iff] at hsw; first | exact hsw.1 | exact hsw.2))) h) hs hf.2 h fun z e' w' a' h1 h2 h3 => hQ z e' w' a' h1 h2 (h3.mono fun s hsw => by simp only [AC.writes, Bool.or_eq_false_iff] at hsw; exact hsw.2)
      · exact ev_sound hm ho x e w a k Q (by exact fun _ _ _ hd h => hq _ _ _ (by first | exact hd | exact hkp.trans hd | exact hd.mono fun s hsw => (by simp only [AC.writes, Bool.or_eq_false_iff] at hsw; first | exact hsw.1 | exact hsw.2) | exact hkp'.trans (hd.mono fun s hsw => (by simp only [AC.writes, Bool.or_eq_false_iff] at hsw; first | exact hsw.1 | exact hsw.2))) h) hs hf.1 h fun z e' w' a' h1 h2 h3 => hQ z e' w' a' h1 h2 (h3.mono fun s hsw => by simp only [AC.writes, Bool.or_eq_false_iff] at hsw; exact hsw.1)
    · exact h.elim
  | .block id x, e, w, a, k, Q, hq, hs, hf, h, hQ => by
    unfold ev at h
    refine wpIn_block (ev_sound hm ho x e w a _ _ (by exact fun _ _ _ hd h => hq _ _ _ (by first | exact hd | exact hkp.trans hd | exact hd.mono fun s hsw => (by simp only [AC.writes, Bool.or_eq_false_iff] at hsw; first | exact hsw.1 | exact hsw.2) | exact hkp'.trans (hd.mono fun s hsw => (by simp only [AC.writes, Bool.or_eq_false_iff] at hsw; first | exact hsw.1 | exact hsw.2))) h) hs hf h fun z e' w' a' hk hs' hkp => ?_)
    cases z with
    | normal => exact hQ .normal e' w' a' hk hs' hkp
    | ret => exact hQ .ret e' w' a' hk hs' hkp
    | exit i =>
      simp only at hk
      show (if i = id then Q .normal a' w' else Q (.exit i) a' w')
      split at hk
      · rename_i hb; rw [if_pos (beq_eq hb)]; exact hQ .normal e' w' a' hk hs' hkp
      · rename_i hb
        have hb' : i ≠ id := by simpa using hb
        rw [if_neg hb']; exact hQ (.exit i) e' w' a' hk hs' hkp
  | .join ks x, e, w, a, k, Q, hq, hs, hf, h, hQ => by
    unfold ev joinP at h
    refine ev_sound hm ho x e w a _ Q (by exact fun _ _ _ hd h => hq _ _ _ (by first | exact hd | exact hkp.trans hd | exact hd.mono fun s hsw => (by simp only [AC.writes, Bool.or_eq_false_iff] at hsw; first | exact hsw.1 | exact hsw.2) | exact hkp'.trans (hd.mono fun s hsw => (by simp only [AC.writes, Bool.or_eq_false_iff] at hsw; first | exact hsw.1 | exact hsw.2))) h) hs hf h fun z e' w' a' hk hs' hkp => ?_
    cases z with
    | normal =>
      obtain ⟨y, hy, hsy⟩ := restr_inv hs' hk
      rw [forceE_eq] at hy
      exact hQ .normal _ w' a' hy (append_ok hsy (unw_ok hs hkp)) hkp
    | exit id => exact hQ (.exit id) e' w' a' hk hs' hkp
    | ret => exact hQ .ret e' w' a' hk hs' hkp
  | .loop ks x, e, w, a, k, Q, hq, hs, hf, h, hQ => by
    unfold ev at h
    obtain ⟨y, hy, hsy⟩ := restr_inv hs h
    obtain ⟨n, hn⟩ := hy
    refine wpIn_loop_rounds n ?_
    have key : ∀ n y w b, iterP (fun C y w => forceE (envOf ks y ++ e.unw x) fun e => ev P orc mask x e w fun z e w => match z with | .normal => restr ks e fun y => C y w | z => k z e w) n y w →
        Sub (envOf ks y) b → Keeps x.writes a b → Code.roundsIn (fen ro) n0 P x.code Q n b w := by
      intro n
      induction n with
      | zero => intro y w b h; exact h.elim
      | succ n ih =>
        intro y w b h hsy hkp
        unfold iterP at h
        rw [forceE_eq] at h
        rw [roundsIn_succ]
        refine ev_sound hm ho x _ w b _ _ (by exact fun _ _ _ hd h => hq _ _ _ (by first | exact hd | exact hkp.trans hd | exact hd.mono fun s hsw => (by simp only [AC.writes, Bool.or_eq_false_iff] at hsw; first | exact hsw.1 | exact hsw.2) | exact hkp'.trans (hd.mono fun s hsw => (by simp only [AC.writes, Bool.or_eq_false_iff] at hsw; first | exact hsw.1 | exact hsw.2))) h) (append_ok hsy (unw_ok hs hkp)) (by rw [hkp.1]; exact hf) h fun z e' w' a' hk hs' hkp' => ?_
        cases z with
        | normal =>
          obtain ⟨y', hy', hsy'⟩ := restr_inv hs' hk
          exact ih y' w' a' hy' hsy' (hkp.trans hkp')
        | exit id => exact hQ (.exit id) e' w' a' hk hs' (hkp.trans hkp')
        | ret => exact hQ .ret e' w' a' hk hs' (hkp.trans hkp')
    exact key n y w a hn hsy (.refl _ _)

/-! ### functions -/
def Sound (P : Program) (f : FuncId) (d : Dec) : Prop :=
  (∃ fn, P.funcs[f]? = some fn ∧ fn.body.isSome = true ∧ (fn.name == "runtime.NumGoroutine") = false) ∧
  ∀ (args : Array Value) w c, d args.toList w c → Calls P f args w fun e w' => ∃ v, e = .returned v ∧ c v w'
def AllSound (P : Program) : List (Nat × Dec) → Prop
  | [] => True
  | (n, d) :: l => Sound P n d ∧ AllSound P l

theorem lookD_ok : ∀ {l : List (Nat × Dec)} {f : FuncId} {args : Array Value} {w : World} {c : Value → World → Prop}, AllSound P l → lookD l f args.toList w c →
    (∃ fn, P.funcs[f]? = some fn ∧ fn.body.isSome = true ∧ (fn.name == "runtime.NumGoroutine") = false) ∧ Calls P f args w fun e w' => ∃ v, e = .returned v ∧ c v w'
  | [], _, _, _, _, _, h => h.elim
  | (n, d) :: l, f, args, w, c, hl, h => by
    unfold lookD at h
    split at h
    · rename_i hb
      have := beq_eq hb
      subst this
      exact ⟨hl.1.1, hl.1.2 args w c h⟩
    · exact lookD_ok hl.2 h
theorem Calls.came {f : FuncId} {args : Array Value} {w : World} {c : Value → World → Prop} {q : Pan} (h : Calls P f args w fun e w' => ∃ v, e = .returned v ∧ c v w') : Calls P f args w (Came c q) :=
  h.mono fun e w' he => by obtain ⟨v, rfl, hv⟩ := he; exact hv
theorem orc_ok {l : List (Nat × Dec)} (hl : AllSound P l) : OrcOK P (orcOf l) q := fun fn args w c h => by
  cases fn with
  | func f => exact .inl ⟨(lookD_ok hl h).1, Calls.came (lookD_ok hl h).2⟩
  | _ => exact h.elim
theorem yield_came {n : Nat} {args : Array Value} {w : World} {c : Value → World → Prop} {q : Pan} (h : YieldAt Fence.wide 0 P n args w fun e w' => ∃ v, e = .returned v ∧ c v w') : YieldAt Fence.wide 0 P n args w (Came c q) := by
  obtain ⟨fn, t, as, b, h1, h2⟩ := h
  exact ⟨fn, t, as, b, h1, h2.mono fun e w' he => by obtain ⟨v, rfl, hv⟩ := he; exact hv⟩
theorem orcY_ok {l : List (Nat × Dec)} {Y : Nat → Dec} (hl : AllSound P l) (hY : ∀ n (args : Array Value) w c, Y n args.toList w c → YieldAt Fence.wide 0 P n args w fun e w' => ∃ v, e = .returned v ∧ c v w') : OrcOK P (orcY l Y) q := fun fn args w c h => by
  cases fn with
  | func f => exact .inl ⟨(lookD_ok hl h).1, Calls.came (lookD_ok hl h).2⟩
  | yield n => exact yield_came (hY n args w c h)
  | _ => exact h.elim

/-! ### functions that may panic -/
abbrev DecP := List Value → World → (Value → World → Prop) → (Value → World → Prop) → Prop
def pan1 (q : Value → World → Prop) : Pan := fun ch w => ∃ v, ch = [{ v := v, recovered := false }] ∧ q v w
def SoundP (P : Program) (f : FuncId) (d : DecP) : Prop :=
  (∃ fn, P.funcs[f]? = some fn ∧ fn.body.isSome = true ∧ (fn.name == "runtime.NumGoroutine") = false) ∧
  ∀ (args : Array Value) w c q, d args.toList w c q → Calls P f args w (Came c (pan1 q))
theorem Sound.p {f : FuncId} {d : Dec} (h : Sound P f d) : SoundP P f fun args w c _ => d args w c :=
  ⟨h.1, fun args w c q hd => Calls.came (h.2 args w c hd)⟩
def AllSoundP (P : Program) : List (Nat × DecP) → Prop
  | [] => True
  | (n, d) :: l => SoundP P n d ∧ AllSoundP P l
def lookP : List (Nat × DecP) → FuncId → DecP
  | [], _, _, _, _, _ => False
  | (n, d) :: l, f, args, w, c, q => match Nat.beq n f with | true => d args w c q | false => lookP l f args w c q
def orcP (l : List (Nat × DecP)) (q : Value → World → Prop) : Oracle := fun fn args w c => match fn with
  | .func f => lookP l f args.toList w c q
  | .method _ => match args.toList with | [.iface t v] => q (.iface t v) w | _ => False
  | _ => False
theorem lookP_ok : ∀ {l : List (Nat × DecP)} {f : FuncId} {args : Array Value} {w : World} {c q : Value → World → Prop}, AllSoundP P l → lookP l f args.toList w c q →
    (∃ fn, P.funcs[f]? = some fn ∧ fn.body.isSome = true ∧ (fn.name == "runtime.NumGoroutine") = false) ∧ Calls P f args w (Came c (pan1 q))
  | [], _, _, _, _, _, _, h => h.elim
  | (n, d) :: l, f, args, w, c, q, hl, h => by
    unfold lookP at h
    split at h
    · rename_i hb
      have := beq_eq hb
      subst this
      exact ⟨hl.1.1, hl.1.2 args w c q h⟩
    · exact lookP_ok hl.2 h
theorem orcP_ok {l : List (Nat × DecP)} {q : Value → World → Prop} (hl : AllSoundP P l) : OrcOK P (orcP l q) (pan1 q) := fun fn args w c h => by
  cases fn with
  | func f => exact .inl (lookP_ok hl h)
  | method s =>
    unfold orcP at h
    dsimp only at h
    split at h
    · rename_i t v ha
      exact ⟨t, v, by cases args; simp_all, _, rfl, h⟩
    · exact h.elim
  | _ => exact h.elim

theorem argEnv_ok : ∀ (l : List Value) (n : Nat) (a : Act), (∀ i v, l[i]? = some v → a.tmps[n + i]? = some v) → Sub (argEnv n l) a
  | [], n, a, _ => fun p hp => by cases hp
  | v :: l, n, a, h => fun p hp => by
    rcases List.mem_cons.1 hp with rfl | hp
    · exact h 0 v (by simp)
    · exact argEnv_ok l (n + 1) a (fun i u hu => by have := h (i + 1) u (by simpa using hu); rwa [show n + (i + 1) = n + 1 + i by omega] at this) p hp

def resS (a : Act) : ResultVar → Sem Value
  | .tmp t => pure (a.tmps.getD t undef)
  | .cell p t => do loadVar t (← asAddr (a.tmps.getD p undef))
theorem resL_run {e : Env} {w : World} {a : Act} (hs : Sub e a) : ∀ {rs : List ResultVar} {c : List Value → Prop}, resL P rs e w c → ∃ l, c l ∧
    (rs.mapM (resS a)).run P w = .ok l w
  | [], c, h => ⟨[], h, rfl⟩
  | r :: rs, c, h => by
    unfold resL resV at h
    have key : ∀ v, (resS a r).run P w = .ok v w → (resL P rs e w fun l => c (v :: l)) → ∃ l, c l ∧
        ((r :: rs).mapM (resS a)).run P w = .ok l w := by
      intro v hv hc
      obtain ⟨l, hl, hr⟩ := resL_run hs hc
      refine ⟨v :: l, hl, ?_⟩
      rw [List.mapM_cons]
      simp only [Sem.run_bind, hv, Result.andThen_ok, hr, Sem.run_pure]
    split at h
    · rename_i t
      unfold ofOpt at h
      split at h
      · rename_i v hv
        have := op_agree hs _ _ hv
        refine key v ?_ h
        simp only [resS, Sem.run_pure]
        rw [← this]; rfl
      · exact h.elim
    · rename_i p t
      cases hv : e.op (.tmp p) with
      | none => rw [hv] at h; exact h.elim
      | some v =>
        rw [hv] at h
        obtain ⟨q, u, rfl, hc, hr⟩ := evRead_run h
        have h1 := op_agree hs _ _ hv
        have h2 := hr w fun _ _ => rfl
        refine key u ?_ hc
        have h3 : a.tmps.getD p undef = .pointer (some q) := h1
        simp only [Instr.loadAt, Instr.sureAddr, Sem.run_bind, Sem.run_pure, Result.andThen_ok] at h2
        simp only [resS, h3, asAddr, Sem.run_bind, Sem.run_pure, Result.andThen_ok, h2]

theorem pack_eq (l : List Value) : (if h : l.toArray.size = 1 then l.toArray[0] else .tuple l.toArray) = packV l := by
  match l with
  | [] => rfl
  | [v] => rfl
  | _ :: _ :: _ => rfl

theorem sound_core {f : FuncId} {fn : Func} {mask : Nat} {h : Hints} {orc : Oracle} (hm : P.follows .mixedOrders = true) (hf : P.funcs[f]? = some fn) (ho : OrcOK P orc q) (aks rks : List K)
    (hok : fnOK h fn aks.length = true) {args : Array Value} {w : World} {c : Value → World → Prop} {x : KT aks} (hx : args.toList = valL aks x) (hF : evFn P orc mask h fn rks (valL aks x) w fun r w => c (packV (valL rks r)) w) :
    (∃ fn, P.funcs[f]? = some fn ∧ fn.body.isSome = true ∧ (fn.name == "runtime.NumGoroutine") = false) ∧ Calls P f args w (Came c q) := by
  unfold fnOK at hok
  cases hb : fn.body with
  | none => rw [hb] at hok; cases hok
  | some b =>
    rw [hb] at hok
    simp only [Bool.and_eq_true, Bool.not_eq_true'] at hok
    refine ⟨⟨fn, hf, by rw [hb]; rfl, hok.2⟩, ?_⟩
    have hlen : (valL aks x).length = aks.length := by
      have : ∀ (ks : List K) (x : KT ks), (valL ks x).length = ks.length := by
        intro ks
        induction ks with
        | nil => intro x; rfl
        | cons k r ih =>
          intro x
          cases r with
          | nil => rfl
          | cons y r => show (valL (y :: r) x.2).length + 1 = _; rw [ih]; rfl
      exact this aks x
    unfold evFn at hF
    rw [hb] at hF
    simp only at hF
    have hle : aks.length ≤ fn.ntmps := Nat.le_of_ble_eq_true hok.1.2
    have hsz : args.size ≤ fn.ntmps := by
      have : args.toList.length = aks.length := by rw [hx, hlen]
      rw [Array.length_toList] at this; omega
    refine calls_of_wp hf hb ?_
    have hcode := annot_code h b 0
    have hw := ev_sound (ro := none) (n0 := 0) (mask := mask) hm ho (annot h b 0).1 (argEnv 0 (valL aks x)) w { tmps := args ++ Array.replicate (fn.ntmps - args.size) undef, defers := [] } _ (bodyPost P fn (Came c q)) ?_ ?_ ?_ hF ?_
    · rw [hcode] at hw; exact wpIn_wide.1 hw
    · exact fun ch a' w' hd h => ⟨hd.2.1, h⟩
    · refine argEnv_ok _ 0 _ fun i v hv => ?_
      rw [← hx] at hv
      have hv' : args[i]? = some v := by simpa using hv
      have hi : i < args.size := (Array.getElem?_eq_some_iff.1 hv').1
      simp only [Nat.zero_add]
      rw [Array.getElem?_append_left hi]
      exact hv'
    · have : (args ++ Array.replicate (fn.ntmps - args.size) undef).size = fn.ntmps := by simp; omega
      rw [this]; exact hok.1.1
    · intro z e' w' a' hk hs hkp
      have hdef : a'.defers = [] := hkp.2.1
      have fin : (resL P fn.results.toList e' w' fun l => unL rks l fun x => c (packV (valL rks x)) w') → a'.defers = [] ∧ ∃ v, (results fn a'.tmps).run P w' = .ok v w' ∧ c v w' := by
        intro hr
        obtain ⟨l, hc, hrun⟩ := resL_run hs hr
        obtain ⟨y, rfl, hc'⟩ := unL_inv hc
        refine ⟨hdef, packV (valL rks y), ?_, hc'⟩
        have he : results fn a'.tmps = (do
            let vs ← fn.results.mapM (resS a')
            pure (if h : vs.size = 1 then vs[0] else .tuple vs)) := by
          have hfun : (fun x => (match x with | .tmp t => pure (a'.tmps.getD t undef) | .cell a t => do loadVar t (← asAddr (a'.tmps.getD a undef)) : Sem Value)) = resS a' := by
            funext r; cases r <;> rfl
          unfold results
          rw [← hfun]
          rfl
        rw [he, Array.mapM_eq_mapM_toList]
        simp only [Sem.run_bind, Sem.run_map, hrun, Result.andThen_ok, Sem.run_pure]
        rw [pack_eq]
      cases z with
      | normal => exact fin hk
      | ret => exact fin hk
      | exit id => exact hk.elim

theorem sound_orc {f : FuncId} {fn : Func} {mask : Nat} {h : Hints} {orc : Oracle} (hm : P.follows .mixedOrders = true) (hf : P.funcs[f]? = some fn) (ho : OrcOK P orc NoPan) (aks rks : List K)
    (hok : fnOK h fn aks.length = true) (F : KT aks → World → (KT rks → World → Prop) → Prop) (hl : ∀ x w c, evFn P orc mask h fn rks (valL aks x) w c = F x w c) :
    Sound P f fun args w c => unL aks args fun x => F x w fun r w => c (packV (valL rks r)) w := by
  refine ⟨?_, fun args w c hd => ?_⟩
  · unfold fnOK at hok
    cases hb : fn.body with
    | none => rw [hb] at hok; cases hok
    | some b =>
      rw [hb] at hok
      simp only [Bool.and_eq_true, Bool.not_eq_true'] at hok
      exact ⟨fn, hf, by rw [hb]; rfl, hok.2⟩
  · obtain ⟨x, hx, hF⟩ := unL_inv hd
    rw [← hl] at hF
    refine (sound_core hm hf ho aks rks hok hx hF).2.mono fun e w' he => ?_
    cases e with
    | returned v => exact ⟨v, rfl, he⟩
    | panicked ch => exact he.elim
    | outgrown => exact he.elim
theorem sound_p {f : FuncId} {fn : Func} {mask : Nat} {h : Hints} {ds : List (Nat × DecP)} (hm : P.follows .mixedOrders = true) (hf : P.funcs[f]? = some fn) (hds : AllSoundP P ds) (aks rks : List K)
    (hok : fnOK h fn aks.length = true) (F : KT aks → World → (KT rks → World → Prop) → (Value → World → Prop) → Prop) (hl : ∀ x w c q, evFn P (orcP ds q) mask h fn rks (valL aks x) w c = F x w c q) :
    SoundP P f fun args w c q => unL aks args fun x => F x w (fun r w => c (packV (valL rks r)) w) q := by
  refine ⟨?_, fun args w c q hd => ?_⟩
  · unfold fnOK at hok
    cases hb : fn.body with
    | none => rw [hb] at hok; cases hok
    | some b =>
      rw [hb] at hok
      simp only [Bool.and_eq_true, Bool.not_eq_true'] at hok
      exact ⟨fn, hf, by rw [hb]; rfl, hok.2⟩
  · obtain ⟨x, hx, hF⟩ := unL_inv hd
    rw [← hl] at hF
    exact (sound_core hm hf (orcP_ok hds) aks rks hok hx hF).2

theorem sound_of {f : FuncId} {fn : Func} {mask : Nat} {h : Hints} {ds : List (Nat × Dec)} (hm : P.follows .mixedOrders = true) (hf : P.funcs[f]? = some fn) (hds : AllSound P ds) (aks rks : List K)
    (hok : fnOK h fn aks.length = true) (F : KT aks → World → (KT rks → World → Prop) → Prop) (hl : ∀ x w c, evFn P (orcOf ds) mask h fn rks (valL aks x) w c = F x w c) :
    Sound P f fun args w c => unL aks args fun x => F x w fun r w => c (packV (valL rks r)) w := sound_orc hm hf (orc_ok hds) aks rks hok F hl
end

end Go.Ev
