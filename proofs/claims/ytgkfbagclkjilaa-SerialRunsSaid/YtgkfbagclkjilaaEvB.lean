/-
  The evaluator's soundness, second part: operations.
-/
import Derived.Test.YtgkfbagclkjilaaEvA
namespace Go.Ev
open Go

theorem run_val {P : Program} {s : Sem Value} {v : Value} {w w' : World} (h : s.run P w = .ok v w') : (do pure (Next.value (← s)) : Sem Next).run P w = .ok (.value v) w' := by
  simp only [Sem.run_bind, h, Result.andThen_ok, Sem.run_pure]

theorem lit_of {a : Act} {y : Operand} {k : IntKind} {n : Int} (hy : a.eval y = .int k n) : (lit0 y = false → n ≠ 0) ∧ (litNeg y = false → 0 ≤ n) := by
  constructor <;> intro h <;> (first | unfold lit0 at h | unfold litNeg at h) <;> split at h <;> simp_all [Act.eval]

theorem call_builtin {P : Program} {a : Act} {o : Oper} {b : Builtin} {args : Array Operand} {ts : Array TypeId} {w : World} (ho : o.op = .call { callee := .builtin b, args, argTypes := ts }) :
    ∃ cs, (execOp a.eval o).run P w = (builtin b ts o.type cs (args.map a.eval)).run P w := by
  simp only [execOp, ho, resolve, Sem.run_bind, Sem.run_pure, Result.andThen_ok, invoke]
  exact ⟨_, rfl⟩

theorem kArg_some {P : Program} {ts : Array TypeId} {k : K} (h : kArg P ts = k) (hk : k ≠ .raw) : ∃ t, ts[0]? = some t ∧ kOf P t = k := by
  unfold kArg at h
  split at h
  · rename_i t ht; exact ⟨t, ht, h⟩
  · subst h; exact absurd rfl hk

theorem kOf_s {P : Program} {t : TypeId} (h : kOf P t = .s) : ∃ e, P.underlying t = some (.slice e) := by
  obtain ⟨d, hd, e, rfl⟩ := kOf_cases h (by simp); exact ⟨e, hd⟩
theorem kOf_str {P : Program} {t : TypeId} (h : kOf P t = .str) : P.underlying t = some .string := by
  obtain ⟨d, hd, rfl⟩ := kOf_cases h (by simp); exact hd
theorem kOf_i' {P : Program} {t : TypeId} {k : IntKind} (h : kOf P t = .i k) : P.underlying t = some (.int k) := by
  obtain ⟨d, hd, rfl⟩ := kOf_cases h (by simp); exact hd

theorem opsL_len {ρ : Operand → Option Value} : ∀ {l : List Operand} {vs : List Value}, opsL ρ l = some vs → l.length = vs.length
  | [], vs, hl => by simp [opsL] at hl; subst hl; rfl
  | x :: l, vs, hl => by
    simp only [opsL] at hl
    split at hl
    · rename_i v r hv hr; cases hl; simp [opsL_len hr]
    · cases hl

theorem evPure_run {P : Program} {a : Act} {ρ : Operand → Option Value} {o : Oper} {v : Value} (hρ : Agree ρ a) (hp : pureOK P o.op = true) (h : evPure P o.op ρ = some v) (w : World) :
    (execOp a.eval o).run P w = .ok (.value v) w := by
  unfold evPure at h
  split at h
  · rename_i x ho; simp only [execOp, ho, hρ _ _ h, Sem.run_pure]
  · rename_i x ho; simp only [execOp, ho, hρ _ _ h, Sem.run_pure]
  · rename_i x i ho
    split at h
    · rename_i vs hx
      have h' : vs[i]? = some v := by simpa using h
      simp only [execOp, ho, hρ _ _ hx, Instr.extract, h', Sem.run_bind, Sem.run_pure, Result.andThen_ok]
    · cases h
  · rename_i fn first captured ho
    split at h
    · rename_i xs ys hx hy
      cases h
      simp only [execOp, ho, Instr.makeFunc, opsL_arr hρ hx, opsL_arr hρ hy, Sem.run_bind, Sem.run_pure, Result.andThen_ok]
    · cases h
  · rename_i op t x y yt ho
    split at h
    · rename_i vx vy hx hy
      have hx' := hρ _ _ hx
      have hy' := hρ _ _ hy
      have hok : ∀ k m k' n, vx = .int k m → vy = .int k' n → (n ≠ 0 ∨ (op ≠ .quo ∧ op ≠ .rem)) ∧ (0 ≤ n ∨ (op ≠ .shl ∧ op ≠ .shr)) := by
        intro k m k' n e1 e2
        subst e1; subst e2
        have hl := lit_of hy'
        unfold evBin at h
        split at h
        · rename_i kk hk
          rw [ho] at hp
          simp only [pureOK, hk, pureBin] at hp
          cases op <;> simp_all [pureInt]
        · simp at h
        · simp at h
        · simp at h
        · simp at h
        · simp at h
        · simp at h
      have := evBin_run (P := P) (w := w) hok h
      exact run_bin ho (by rw [hx']; exact this.2.1) (by rw [hx']; exact this.2.2) (by rw [hx', hy']; exact this.1)
    · cases h
  · rename_i op t x ho
    split at h
    · rename_i vx hx
      have := evUn_run (P := P) (w := w) h
      simp only [execOp, ho, hρ _ _ hx, this, Sem.run_bind, Sem.run_pure, Result.andThen_ok]
    · cases h
  · rename_i s d x ho
    split at h
    · rename_i kk n k hx hk
      cases h
      rw [ho] at hp
      simp only [pureOK, Bool.and_eq_true] at hp
      cases hs : kOf P s <;> simp [hs, isI] at hp
      simp only [execOp, ho, hρ _ _ hx, convert, Sem.run_bind, run_kOf (kOf_i' hs), run_kOf (kOf_i' hk), Result.andThen_ok, Conv.intToInt, Sem.run_pure]
    · cases h
  · rename_i cl ho
    split at h
    · rename_i b hcb
      have ho' : o.op = .call { callee := .builtin b, args := cl.args, argTypes := cl.argTypes } := by rw [ho, ← hcb]
      obtain ⟨cs, hc⟩ := call_builtin (P := P) (a := a) (w := w) ho'
      rw [hc]
      rw [ho] at hp
      simp only [pureOK, hcb] at hp
      unfold evB at h
      split at h
      · rename_i base n c hk hl
        obtain ⟨t, ht, hkt⟩ := kArg_some hk (by simp)
        obtain ⟨e, he⟩ := kOf_s hkt
        rw [opsL_arr hρ hl]
        split at h
        · rename_i hb
          cases b <;> simp only [isLen, Bool.false_eq_true] at hb
          cases h
          simp [builtin, Builtin.len_, ht, run_kOf he, goInt]
        · split at h
          · rename_i hb
            cases b <;> simp only [isCap, Bool.false_eq_true] at hb
            cases h
            simp [builtin, Builtin.cap_, ht, run_kOf he, goInt]
          · cases h
      · rename_i s hk hl
        obtain ⟨t, ht, hkt⟩ := kArg_some hk (by simp)
        have he := kOf_str hkt
        rw [opsL_arr hρ hl]
        split at h
        · rename_i hb
          cases b <;> simp only [isLen, Bool.false_eq_true] at hb
          cases h
          simp [builtin, Builtin.len_, ht, run_kOf he, goInt]
        · cases h
      · rename_i kk k x ky y hk hl
        rw [opsL_arr hρ hl]
        cases b <;> simp only [Option.some.injEq, reduceCtorEq] at h <;> subst h
        · simp [builtin, Builtin.max_, Builtin.max2, maxI]
        · simp [builtin, Builtin.min_, Builtin.min2, minI]
      · cases h
    · cases h
  · cases h

end Go.Ev
