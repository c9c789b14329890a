/-
  The evaluator's soundness, fifth part: an operation of a region; regions in the order of the text.
-/
import Derived.Test.YtgkfbagclkjilaaEvD
namespace Go.Ev
open Go

section
variable {P : Program} {ops : Array Oper} {a : Act} {o : Oper} {w : World} {q : Pan}

def PQ (q : Pan) : Exit → Act → World → Prop := fun e _ w => match e with | .panic ch => q ch w | _ => False

theorem value_nd {ρ : Operand → Value} {o : Oper} {v : Value} {w w' : World} (h : (execOp ρ o).run P w = .ok (.value v) w') : ∀ c, o.op ≠ .defer c := fun c hc => by
  obtain ⟨d, hd⟩ := defer_run hc h; cases hd
/-- in state a, in a world, the operation leaves v, and the world as it is -/
def StepV (P : Program) (ops : Array Oper) (o : Oper) (a : Act) (w : World) (v : Value) : Prop :=
  (Region.wanted o (yielded ops a.tmps) = true ∧ (execOp a.eval o).run P w = .ok (.value v) w) ∨ (Region.wanted o (yielded ops a.tmps) = false ∧ v = undef)
/-- whatever it does, it leaves a value and a world as c says -/
def CStep (P : Program) (ops : Array Oper) (q : Pan) (o : Oper) (a : Act) (w : World) (c : Value → World → Prop) : Prop :=
  (Region.wanted o (yielded ops a.tmps) = true ∧ (∀ c, o.op ≠ .defer c) ∧ ∀ (ro : Option Nat) (n : Nat) (K : Act → World → Prop), (∀ v w', c v w' → K (a.put o.dst v) w') → o.wpIn (fen ro) n P a w K (PQ q)) ∨ (Region.wanted o (yielded ops a.tmps) = false ∧ c undef w)

theorem StepV.c {v : Value} (h : StepV P ops o a w v) : CStep P ops q o a w fun u w' => u = v ∧ w' = w := by
  rcases h with ⟨h1, h2⟩ | ⟨h1, h2⟩
  · exact .inl ⟨h1, value_nd h2, fun _ _ K hK => wp_value h2 (hK _ _ ⟨rfl, rfl⟩)⟩
  · exact .inr ⟨h1, h2.symm, rfl⟩
theorem CStep.mono {c c' : Value → World → Prop} (h : CStep P ops q o a w c) (hc : ∀ v w', c v w' → c' v w') : CStep P ops q o a w c' := by
  rcases h with ⟨h1, h2⟩ | ⟨h1, h2⟩
  · exact .inl ⟨h1, h2.1, fun ro n K hK => h2.2 ro n K fun v w' h => hK v w' (hc v w' h)⟩
  · exact .inr ⟨h1, hc _ _ h2⟩
theorem wpIn_noQ {F : Fence} {n : Nat} {K : Act → World → Prop} {Q : Exit → Act → World → Prop} (hq : ∀ ch w, q ch w → Q (.panic ch) a w) (h : o.wpIn F n P a w K (PQ q)) : o.wpIn F n P a w K Q := by
  refine ⟨h.1, ?_⟩
  have h := h.2
  generalize (o.semAt F.round a.eval).run P w = r at *
  cases r with
  | ok x w' =>
    cases x <;> simp only [Oper.uponIn] at h ⊢ <;> first
      | exact h
      | (refine ⟨h.1, h.2.mono fun e w'' he => ?_⟩; cases e with
          | returned v => exact he
          | panicked c => exact hq _ _ he
          | outgrown => obtain ⟨_, _, hx⟩ := he; exact hx.elim)
  | halt x w' => cases x <;> simp only [Oper.uponIn] at h ⊢ <;> first | exact hq _ _ h | exact h.elim
theorem CStep.wp {c : Value → World → Prop} (h : CStep P ops q o a w c) {ro : Option Nat} {n : Nat} {K : Act → World → Prop} {Q : Exit → Act → World → Prop} (hq : ∀ ch w, q ch w → Q (.panic ch) a w) (hK : ∀ v w', c v w' → K (a.put o.dst v) w') :
    if Region.wanted o (yielded ops a.tmps) then o.wpIn (fen ro) n P a w K Q else (∀ f, o.about P w a.eval = some f → (fen ro).fn f) ∧ K (a.put o.dst undef) w := by
  rcases h with ⟨h1, h2⟩ | ⟨h1, h2⟩
  · rw [if_pos h1]; exact wpIn_noQ hq (h2.2 ro n K hK)
  · rw [if_neg (by simp [h1])]; exact ⟨fun f _ => fen_fn ro f, hK _ _ h2⟩

theorem wanted_none (h : o.guard = none) (y : Nat → Option Bool) : Region.wanted o y = true := by simp [Region.wanted, h]
theorem wanted_g {g : Nat} {want b : Bool} (h : gslot ops o.guard = some (g, want)) (hb : a.tmps[g]? = some (.bool b)) : Region.wanted o (yielded ops a.tmps) = (b == want) := by
  unfold gslot at h
  split at h
  · rename_i j wnt hg
    split at h
    · rename_i oj hj
      split at h
      · rename_i d hd
        cases h
        simp [Region.wanted, hg, yielded, hj, hd, hb]
      · cases h
    · cases h
  · cases h

theorem find_val {e : Env} {g : Nat} {v : Value} (hs : Sub e a) (h : e.find g = some (.val v)) : a.tmps[g]? = some v := hs _ (find_mem h)

/-- what an operation that is not guarded comes to -/
theorem evOp_c {orc : Oracle} {ρ : Operand → Option Value} {c : Value → World → Prop} (hρ : Agree ρ a) (ho : OrcOK P orc q) (h : evOp P orc o ρ w c) (hw : Region.wanted o (yielded ops a.tmps) = true) : CStep P ops q o a w c := by
  refine .inl ⟨hw, fun cc hcc => by
    unfold evOp at h
    simp [hcc, pureOK, freeOK, isFree, isLoad, evAct] at h, fun ro n K hK => ?_⟩
  unfold evOp at h
  split at h
  · rename_i hp
    unfold ofOpt at h
    split at h
    · rename_i v hv; exact wp_value (evPure_run hρ hp hv w) (hK _ _ h)
    · exact h.elim
  · split at h
    · obtain ⟨v, hc, hr⟩ := evFree_run hρ h
      exact wp_value (hr w) (hK _ _ hc)
    · split at h
      · rename_i t x hl
        have hop : o.op = .load t x := by
          unfold isLoad at hl; split at hl <;> simp_all
        obtain ⟨p, u, _, hc, hr⟩ := evLoad_run hρ hop h
        exact wp_value (hr w fun _ _ => rfl) (hK _ _ hc)
      · exact evAct_wp hρ ho (fun _ _ h => h) h hK

/-- what a blind one comes to, in any world -/
theorem evOp_v {orc : Oracle} {ρ : Operand → Option Value} {c : Value → World → Prop} (hρ : Agree ρ a) (hb : pureOK P o.op = true ∨ freeOK P o.op = true) (h : evOp P orc o ρ w c) (hw : Region.wanted o (yielded ops a.tmps) = true) :
    ∃ v, c v w ∧ ∀ w', StepV P ops o a w' v := by
  unfold evOp at h
  split at h
  · rename_i hp
    unfold ofOpt at h
    split at h
    · rename_i v hv; exact ⟨v, h, fun w' => .inl ⟨hw, evPure_run hρ hp hv w'⟩⟩
    · exact h.elim
  · rename_i hp
    rw [if_pos (hb.resolve_left hp)] at h
    obtain ⟨v, hc, hr⟩ := evFree_run hρ h
    exact ⟨v, hc, fun w' => .inl ⟨hw, hr w'⟩⟩

theorem pick_run {x y z : Operand} {b : Bool} (ho : o.op = .pick x y z) (hx : a.eval x = .bool b) (w : World) : (execOp a.eval o).run P w = .ok (.value (if b then a.eval y else a.eval z)) w := by
  simp only [execOp, ho, hx, asBool, Sem.run_bind, Sem.run_pure, Result.andThen_ok]

theorem evPick_ok {e : Env} {x y z : Operand} {v : Value} (hs : Sub e a) (h : evPick e x y z = some v) : ∃ b, a.eval x = .bool b ∧ (if b then a.eval y else a.eval z) = v := by
  unfold evPick at h
  split at h
  · rename_i g cb hx
    have hx' := op_agree hs _ _ hx
    have hg : a.tmps[g]? = some (.bool cb) := by
      simp only [Env.op] at hx
      split at hx
      · rename_i u hf; cases hx; exact find_val hs hf
      · cases hx
    refine ⟨cb, hx', ?_⟩
    split at h
    · rename_i va vb h1 h2
      have hy : cb = true → a.eval y = .bool va := by
        intro hc; subst hc
        split at h1
        · rename_i u hu; cases h1; exact op_agree hs _ _ hu
        · exact under_agree hs hg h1
      have hz : cb = false → a.eval z = .bool vb := by
        intro hc; subst hc
        split at h2
        · rename_i u hu; cases h2; exact op_agree hs _ _ hu
        · exact under_agree hs hg h2
      split at h
      · cases h
        cases cb
        · simp [hz rfl]
        · simp [Act.eval]
      · cases h
        cases cb
        · simp [Act.eval]
        · simp [hy rfl]
      · cases h
        cases cb
        · simp [hz rfl]
        · simp [hy rfl]
    · cases h
  · cases h

theorem evPick1_ok {e : Env} {x y z : Operand} {c : Value → Prop} (hs : Sub e a) (h : evPick1 e x y z c) : ∃ b v, a.eval x = .bool b ∧ (if b then a.eval y else a.eval z) = v ∧ c v := by
  unfold evPick1 at h
  split at h
  · rename_i cb hx
    have hx' := op_agree hs _ _ hx
    cases cb
    · unfold iteB ofOpt at h
      simp only at h
      split at h
      · rename_i v hv; exact ⟨false, v, hx', by simpa using op_agree hs _ _ hv, h⟩
      · exact h.elim
    · unfold iteB ofOpt at h
      simp only at h
      split at h
      · rename_i v hv; exact ⟨true, v, hx', by simpa using op_agree hs _ _ hv, h⟩
      · exact h.elim
  · exact h.elim

theorem isPick_op {p : Operand × Operand × Operand} (h : isPick o.op = some p) : o.op = .pick p.1 p.2.1 p.2.2 := by
  unfold isPick at h
  split at h
  · rename_i x y z hop; cases h; exact hop
  · cases h

def Fits (o : Oper) (a : Act) : Prop := ∀ d, o.dst = some d → d < a.tmps.size

theorem evExec_c {orc : Oracle} {e : Env} {c : Env → World → Prop} (hs : Sub e a) (hf : Fits o a) (ho : OrcOK P orc q) (hw : Region.wanted o (yielded ops a.tmps) = true) (h : evExec P orc o e w c) :
    CStep P ops q o a w fun v w' => ∃ e', c e' w' ∧ Sub e' (a.put o.dst v) := by
  unfold evExec at h
  split at h
  · rename_i x y z hp
    have hop := isPick_op hp
    split at h
    · rename_i v hv
      obtain ⟨b, hx, hv'⟩ := evPick_ok hs hv
      have hr := pick_run (P := P) (o := o) hop hx w
      rw [hv'] at hr
      exact .inl ⟨hw, value_nd hr, fun _ _ K hK => wp_value hr (hK _ _ ⟨_, h, putq_ok hs hf⟩)⟩
    · obtain ⟨b, v, hx, hv', hc⟩ := evPick1_ok hs h
      have hr := pick_run (P := P) (o := o) hop hx w
      rw [hv'] at hr
      exact .inl ⟨hw, value_nd hr, fun _ _ K hK => wp_value hr (hK _ _ ⟨_, hc, putq_ok hs hf⟩)⟩
  · exact (evOp_c (op_agree hs) ho h hw).mono fun v w' hc => ⟨_, hc, putq_ok hs hf⟩

theorem evExec_v {orc : Oracle} {e : Env} {c : Env → World → Prop} (hs : Sub e a) (hf : Fits o a) (hb : Blind P o.op = true) (hw : Region.wanted o (yielded ops a.tmps) = true) (h : evExec P orc o e w c) :
    ∃ e' v, c e' w ∧ Sub e' (a.put o.dst v) ∧ ∀ w', StepV P ops o a w' v := by
  unfold evExec at h
  split at h
  · rename_i x y z hp
    have hop := isPick_op hp
    split at h
    · rename_i v hv
      obtain ⟨b, hx, hv'⟩ := evPick_ok hs hv
      refine ⟨_, v, h, putq_ok hs hf, fun w' => .inl ⟨hw, ?_⟩⟩
      have hr := pick_run (P := P) (o := o) hop hx w'
      rwa [hv'] at hr
    · obtain ⟨b, v, hx, hv', hc⟩ := evPick1_ok hs h
      refine ⟨_, v, hc, putq_ok hs hf, fun w' => .inl ⟨hw, ?_⟩⟩
      have hr := pick_run (P := P) (o := o) hop hx w'
      rwa [hv'] at hr
  · rename_i hp
    have hb' : pureOK P o.op = true ∨ freeOK P o.op = true := by simpa [Blind, hp] using hb
    obtain ⟨v, hc, hr⟩ := evOp_v (ops := ops) (op_agree hs) hb' h hw
    exact ⟨_, v, hc, putq_ok hs hf, hr⟩

theorem evPureG_ok {e : Env} {g : Nat} {want : Bool} {v : Value} (hs : Sub e a) (hg : a.tmps[g]? = some (.bool want)) (h : evPureG P o.op e g want = some v) (w : World) : (execOp a.eval o).run P w = .ok (.value v) w := by
  unfold evPureG at h
  split at h
  · rename_i x y z hp
    have hop := isPick_op hp
    obtain ⟨b, hx, hv'⟩ := evPick_ok (refine_ok hs hg) h
    have hr := pick_run (P := P) (o := o) hop hx w
    rwa [hv'] at hr
  · split at h
    · rename_i hp
      exact evPure_run (opG_agree hs hg) hp h w
    · cases h

/-- is it the guard's Bool? -/
def isB (a : Act) (g : Nat) (want : Bool) : Bool := match a.tmps[g]? with | some (.bool b) => b == want | _ => false
theorem isB_iff {g : Nat} {want : Bool} : isB a g want = true ↔ a.tmps[g]? = some (.bool want) := by
  unfold isB
  split
  · rename_i b hb; rw [hb]; simp
  · rename_i hn
    constructor
    · intro h; cases h
    · intro h; exact absurd h (hn _)
theorem wanted_isB {g : Nat} {want : Bool} (h : gslot ops o.guard = some (g, want)) : Region.wanted o (yielded ops a.tmps) = isB a g want := by
  unfold gslot at h
  split at h
  · rename_i j wnt hg
    split at h
    · rename_i oj hj
      split at h
      · rename_i d hd
        cases h
        simp only [Region.wanted, hg, yielded, hj, hd, Option.bind_some, isB]
        split <;> simp_all
      · cases h
    · cases h
  · cases h

theorem withG_inv {g : Nat} {want : Bool} {yes no : Env → Prop} : ∀ {n : Nat} {e : Env}, Sub e a → withG g want yes no n e → (∃ e', Sub e' a ∧ isB a g want = true ∧ yes e') ∨ (∃ e', Sub e' a ∧ isB a g want = false ∧ no e')
  | 0, _, _, h => h.elim
  | n + 1, e, hs, h => by
    unfold withG at h
    split at h
    · rename_i b hfind
      have hb := find_val hs hfind
      split at h
      · cases b
        · simp only [iteB, forceE_eq] at h
          exact .inr ⟨_, refine_ok hs hb, by simp [isB, hb], h⟩
        · simp only [iteB, forceE_eq] at h
          exact .inl ⟨_, refine_ok hs hb, by simp [isB, hb], h⟩
      · cases b
        · simp only [iteB, forceE_eq] at h
          exact .inl ⟨_, refine_ok hs hb, by simp [isB, hb], h⟩
        · simp only [iteB, forceE_eq] at h
          exact .inr ⟨_, refine_ok hs hb, by simp [isB, hb], h⟩
    · rename_i vs hfind
      have hb := find_val hs hfind
      exact .inr ⟨e, hs, by simp [isB, hb], h⟩
    · split at h
      · rename_i b hfind
        have hb := find_val hs hfind
        cases b
        · simp only [iteB, forceE_eq] at h
          exact withG_inv (refine_ok hs hb) h
        · simp only [iteB, forceE_eq] at h
          exact withG_inv (refine_ok hs hb) h
      · exact h.elim
    · exact h.elim

theorem evStep_c {orc : Oracle} {e : Env} {c : Env → World → Prop} (hs : Sub e a) (hf : Fits o a) (ho : OrcOK P orc q) (h : evStep P orc ops o e w c) :
    CStep P ops q o a w fun v w' => ∃ e', c e' w' ∧ Sub e' (a.put o.dst v) := by
  unfold evStep at h
  split at h
  · rename_i hg
    exact evExec_c hs hf ho (wanted_none hg _) h
  · split at h
    · exact h.elim
    · rename_i g want hgs
      have hw := wanted_isB (a := a) hgs
      split at h
      · rename_i v d hpure hd
        split at h
        · exact h.elim
        · rename_i hne
          have hne' : d ≠ g := by simpa using hne
          have hd' := hf d hd
          cases hib : isB a g want with
          | true =>
            have hb := isB_iff.1 hib
            have hr := evPureG_ok (P := P) hs hb hpure w
            refine .inl ⟨by rw [hw, hib], value_nd hr, fun _ _ K hK => wp_value hr (hK _ _ ⟨_, h, ?_⟩)⟩
            rw [hd]
            exact putG_ok hs hd' hne' (fun _ => rfl) fun hx => absurd hb hx
          | false =>
            refine .inr ⟨by rw [hw, hib], _, h, ?_⟩
            rw [hd]
            exact putG_ok hs hd' hne' (fun hx => by rw [isB_iff.2 hx] at hib; cases hib) fun _ => rfl
      · rcases withG_inv hs h with ⟨e', hs', hib, h⟩ | ⟨e', hs', hib, h⟩
        · exact evExec_c hs' hf ho (by rw [hw, hib]) h
        · exact .inr ⟨by rw [hw, hib], _, h, putq_ok hs' hf⟩

/-- a blind operation: the same in any world -/
theorem evStep_v {orc : Oracle} {e : Env} {c : Env → World → Prop} (hs : Sub e a) (hf : Fits o a) (hb : Blind P o.op = true) (h : evStep P orc ops o e w c) :
    ∃ e' v, c e' w ∧ Sub e' (a.put o.dst v) ∧ ∀ w', StepV P ops o a w' v := by
  unfold evStep at h
  split at h
  · rename_i hg
    exact evExec_v hs hf hb (wanted_none hg _) h
  · split at h
    · exact h.elim
    · rename_i g want hgs
      have hw := wanted_isB (a := a) hgs
      split at h
      · rename_i v d hpure hd
        split at h
        · exact h.elim
        · rename_i hne
          have hne' : d ≠ g := by simpa using hne
          have hd' := hf d hd
          cases hib : isB a g want with
          | true =>
            have hbv := isB_iff.1 hib
            refine ⟨_, v, h, ?_, fun w' => .inl ⟨by rw [hw, hib], evPureG_ok hs hbv hpure w'⟩⟩
            rw [hd]
            exact putG_ok hs hd' hne' (fun _ => rfl) fun hx => absurd hbv hx
          | false =>
            refine ⟨_, undef, h, ?_, fun w' => .inr ⟨by rw [hw, hib], rfl⟩⟩
            rw [hd]
            exact putG_ok hs hd' hne' (fun hx => by rw [isB_iff.2 hx] at hib; cases hib) fun _ => rfl
      · rcases withG_inv hs h with ⟨e', hs', hib, h⟩ | ⟨e', hs', hib, h⟩
        · exact evExec_v hs' hf hb (by rw [hw, hib]) h
        · exact ⟨_, undef, h, putq_ok hs' hf, fun w' => .inr ⟨by rw [hw, hib], rfl⟩⟩

theorem put_size (a : Act) (d : Option Nat) (v : Value) : (a.put d v).tmps.size = a.tmps.size := by cases d <;> simp [Act.put]
theorem put_defers (a : Act) (d : Option Nat) (v : Value) : (a.put d v).defers = a.defers := by cases d <;> rfl

/-- what has not turned in a frame -/
def Keeps (ws : Nat → Bool) (a a' : Act) : Prop := a'.tmps.size = a.tmps.size ∧ a'.defers = a.defers ∧ ∀ s, ws s = false → a'.tmps[s]? = a.tmps[s]?
theorem Keeps.refl (ws : Nat → Bool) (a : Act) : Keeps ws a a := ⟨rfl, rfl, fun _ _ => rfl⟩
theorem Keeps.trans {ws : Nat → Bool} {a b c : Act} (h : Keeps ws a b) (k : Keeps ws b c) : Keeps ws a c := ⟨k.1.trans h.1, k.2.1.trans h.2.1, fun s hs => (k.2.2 s hs).trans (h.2.2 s hs)⟩
theorem Keeps.mono {ws ws' : Nat → Bool} {a b : Act} (h : Keeps ws a b) (hw : ∀ s, ws' s = false → ws s = false) : Keeps ws' a b := ⟨h.1, h.2.1, fun s hs => h.2.2 s (hw s hs)⟩
theorem Keeps.put {ws : Nat → Bool} {a : Act} {d : Option Nat} {v : Value} (h : ∀ x, d = some x → ws x = true) : Keeps ws a (a.put d v) := by
  refine ⟨put_size a d v, put_defers a d v, fun s hs => ?_⟩
  cases d with
  | none => rfl
  | some d => exact put_get_ne fun e => by subst e; rw [h _ rfl] at hs; cases hs

def opsW (ops : Array Oper) (s : Nat) : Bool := ops.toList.any fun o => match o.dst with | some d => Nat.beq d s | none => false
theorem opsW_mem {x : Nat} (hm : o ∈ ops) (h : o.dst = some x) : opsW ops x = true := by
  unfold opsW
  rw [List.any_eq_true]
  exact ⟨o, by simpa using hm, by simp [h]⟩
def opsFit (n : Nat) (ops : Array Oper) : Bool := ops.toList.all fun o => match o.dst with | some d => Nat.blt d n | none => true
theorem opsFit_mem {n : Nat} (h : opsFit n ops = true) (hm : o ∈ ops) : ∀ d, o.dst = some d → d < n := by
  intro d hd
  unfold opsFit at h
  rw [List.all_eq_true] at h
  have := h o (by simpa using hm)
  simpa [hd, Nat.blt_eq] using this

theorem evOps_wp {orc : Oracle} {ro : Option Nat} {n : Nat} {Q : Exit → Act → World → Prop} (ho : OrcOK P orc q) : ∀ (l : List Oper) (e : Env) (w : World) (a : Act) (c : Env → World → Prop), (∀ ch a' w', Keeps (opsW ops) a a' → q ch w' → Q (.panic ch) a' w') → (∀ o ∈ l, o ∈ ops) → opsFit a.tmps.size ops = true → Sub e a → evOps P orc ops l e w c →
    (∀ e' w' a', c e' w' → Sub e' a' → Keeps (opsW ops) a a' → Q .normal a' w') → wpListIn (fen ro) n P ops Q l a w
  | [], e, w, a, c, _, _, _, hs, h, hQ => hQ e w a h hs (.refl _ _)
  | o :: l, e, w, a, c, hq, hm, hf, hs, h, hQ => by
    unfold evOps at h
    have hmo := hm o List.mem_cons_self
    have hc := evStep_c hs (opsFit_mem hf hmo) ho h
    unfold wpListIn
    refine hc.wp (fun ch w h => hq ch a w (.refl _ _) h) fun v w' hx => ?_
    obtain ⟨e', hx, hs'⟩ := hx
    rw [forceE_eq] at hx
    exact evOps_wp ho l e' w' _ c (fun ch a' w' hd h => hq ch a' w' ((Keeps.put fun x hx => opsW_mem hmo hx).trans hd) h) (fun o h => hm o (List.mem_cons_of_mem _ h)) (by rw [put_size]; exact hf) hs' hx fun e'' w'' a'' h1 h2 h3 =>
      hQ e'' w'' a'' h1 h2 ((Keeps.put fun x hx => opsW_mem hmo hx).trans h3)
end

end Go.Ev
