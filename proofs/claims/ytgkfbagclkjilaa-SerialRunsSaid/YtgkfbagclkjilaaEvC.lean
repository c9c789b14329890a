/-
  The evaluator's soundness, third part: operations that do not look at memory, but may fail; loads.
-/
import Derived.Test.YtgkfbagclkjilaaEvB
namespace Go.Ev
open Go

theorem run_sizeOf {P : Program} {t : TypeId} {w : World} {i : TypeInfo} (h : P.info? t = some i) : (sizeOf t).run P w = .ok i.size w := by
  simp [sizeOf, typeInfo, h]
theorem szOf_some {P : Program} {t : TypeId} (h : szOf P t ≠ 0) : ∃ i, P.info? t = some i ∧ i.size = szOf P t := by
  unfold szOf at *
  split at h
  · rename_i i hi; exact ⟨i, hi, by simp⟩
  · exact absurd rfl h
theorem info_of_under {P : Program} {t : TypeId} {d : TypeDesc} (h : P.underlying t = some d) : ∃ i, P.info? t = some i := by
  unfold Program.underlying at h
  cases hi : P.info? t with
  | none => rw [hi] at h; cases h
  | some i => exact ⟨i, rfl⟩
theorem szOf_eq {P : Program} {t : TypeId} {i : TypeInfo} (h : P.info? t = some i) : szOf P t = i.size := by simp [szOf, h]
theorem isAgg_yes {P : Program} {t : TypeId} {w : World} (hk : kOf P t = .ag) : (isAgg t).run P w = .ok true w := by
  obtain ⟨d, hd, h⟩ := kOf_cases hk (by simp)
  unfold isAgg
  rcases h with ⟨fs, rfl⟩ | ⟨n, e, rfl⟩ <;> simp only [Sem.run_bind, run_kOf hd, Result.andThen_ok, Sem.run_pure]
theorem isAgg_no {P : Program} {t : TypeId} {w : World} {d : TypeDesc} (hd : P.underlying t = some d) (hk : kOf P t ≠ .ag) : (isAgg t).run P w = .ok false w := by
  unfold isAgg
  simp only [Sem.run_bind, run_kOf hd, Result.andThen_ok]
  cases d <;> first | rfl | (exact absurd (by simp [kOf, hd]) hk)

theorem elem_info {P : Program} {t : TypeId} (hs : szOf P t ≠ 0) (w : World) : (sizeOf t).run P w = .ok (szOf P t) w := by
  obtain ⟨i, hi, he⟩ := szOf_some hs
  rw [run_sizeOf hi, he]

theorem run_bound {P : Program} {k : IntKind} {i : Int} {y : Nat} {c : BoundsCode} {w : World} (h : 0 ≤ i ∧ i ≤ y) : (Instr.sliceBound (.int k i) y c).run P w = .ok i.toNat w := by
  simp [Instr.sliceBound, asIntOf, h.1, h.2]

theorem bounds_lh {P : Program} {b : Bool} {len cap : Nat} {lo hi : Value} {l h : Int} {kl kh : IntKind} {w : World} (hlo : lo = .int kl l) (hhi : hi = .int kh h) (h1 : 0 ≤ h ∧ h ≤ cap) (h2 : 0 ≤ l ∧ l ≤ h) :
    (Instr.sliceBounds b len cap (some lo) (some hi) none).run P w = .ok (l.toNat, h.toNat, cap) w := by
  subst hlo; subst hhi
  have h3 : 0 ≤ l ∧ l ≤ (h.toNat : Int) := by omega
  simp only [Instr.sliceBounds, Sem.run_bind, Sem.run_pure, Result.andThen_ok, run_bound h1, run_bound h3]
theorem bounds_h {P : Program} {b : Bool} {len cap : Nat} {hi : Value} {h : Int} {kh : IntKind} {w : World} (hhi : hi = .int kh h) (h1 : 0 ≤ h ∧ h ≤ cap) :
    (Instr.sliceBounds b len cap none (some hi) none).run P w = .ok (0, h.toNat, cap) w := by
  subst hhi
  simp only [Instr.sliceBounds, Sem.run_bind, Sem.run_pure, Result.andThen_ok, run_bound h1]
theorem bounds_l {P : Program} {b : Bool} {len cap : Nat} {lo : Value} {l : Int} {kl : IntKind} {w : World} (hlo : lo = .int kl l) (h2 : 0 ≤ l ∧ l ≤ len) :
    (Instr.sliceBounds b len cap (some lo) none none).run P w = .ok (l.toNat, len, cap) w := by
  subst hlo
  simp only [Instr.sliceBounds, Sem.run_bind, Sem.run_pure, Result.andThen_ok, run_bound h2]
theorem bounds_none {P : Program} {b : Bool} {len cap : Nat} {w : World} : (Instr.sliceBounds b len cap none none none).run P w = .ok (0, len, cap) w := by
  simp only [Instr.sliceBounds, Sem.run_bind, Sem.run_pure, Result.andThen_ok]
theorem bounds_lhm {P : Program} {b : Bool} {len cap : Nat} {lo hi mx : Value} {l h m : Int} {kl kh km : IntKind} {w : World} (hlo : lo = .int kl l) (hhi : hi = .int kh h) (hmx : mx = .int km m)
    (h0 : 0 ≤ m ∧ m ≤ cap) (h1 : 0 ≤ h ∧ h ≤ m) (h2 : 0 ≤ l ∧ l ≤ h) :
    (Instr.sliceBounds b len cap (some lo) (some hi) (some mx)).run P w = .ok (l.toNat, h.toNat, m.toNat) w := by
  subst hlo; subst hhi; subst hmx
  have h3 : 0 ≤ l ∧ l ≤ (h.toNat : Int) := by omega
  have h4 : 0 ≤ h ∧ h ≤ (m.toNat : Int) := by omega
  simp only [Instr.sliceBounds, Sem.run_bind, Sem.run_pure, Result.andThen_ok, run_bound h0, run_bound h4, run_bound h3]
theorem bounds_hm {P : Program} {b : Bool} {len cap : Nat} {hi mx : Value} {h m : Int} {kh km : IntKind} {w : World} (hhi : hi = .int kh h) (hmx : mx = .int km m)
    (h0 : 0 ≤ m ∧ m ≤ cap) (h1 : 0 ≤ h ∧ h ≤ m) :
    (Instr.sliceBounds b len cap none (some hi) (some mx)).run P w = .ok (0, h.toNat, m.toNat) w := by
  subst hhi; subst hmx
  have h4 : 0 ≤ h ∧ h ≤ (m.toNat : Int) := by omega
  simp only [Instr.sliceBounds, Sem.run_bind, Sem.run_pure, Result.andThen_ok, run_bound h0, run_bound h4]

/-- what a slicing hands back, of the bounds -/
theorem run_slice_sl {P : Program} {t e : TypeId} {a : Option Addr} {len cap l h m : Nat} {lo hi mx : Option Value} {w : World} (ht : P.underlying t = some (.slice e)) (hs : szOf P e ≠ 0)
    (hb : (Instr.sliceBounds true len cap lo hi mx).run P w = .ok (l, h, m) w) :
    (Instr.sliceAt t (.slice a len cap) lo hi mx).run P w = .ok (.slice (if m = l then a else a.map (·.add (l * szOf P e))) (h - l) (m - l)) w := by
  simp only [Instr.sliceAt, Instr.slice, Sem.run_bind, run_kOf ht, Result.andThen_ok, hb, elem_info hs, Sem.run_pure]
theorem run_slice_arr {P : Program} {t e : TypeId} {a : Addr} {n l h m : Nat} {lo hi mx : Option Value} {w : World} (ht : P.underlying t = some (.array n e)) (hs : szOf P e ≠ 0)
    (hb : (Instr.sliceBounds false n n lo hi mx).run P w = .ok (l, h, m) w) :
    (Instr.sliceAt t (.pointer (some a)) lo hi mx).run P w = .ok (.slice (some (if m = l then a else a.add (l * szOf P e))) (h - l) (m - l)) w := by
  simp only [Instr.sliceAt, Sem.run_bind, run_kOf ht, Result.andThen_ok, Instr.sureAddr, hb, elem_info hs, Sem.run_pure]
theorem run_slice_str {P : Program} {t : TypeId} {s : ByteArray} {l h m : Nat} {lo hi : Option Value} {w : World} (ht : P.underlying t = some .string)
    (hb : (Instr.sliceBounds false s.size s.size lo hi none).run P w = .ok (l, h, m) w) :
    (Instr.sliceAt t (.string s) lo hi none).run P w = .ok (.string (s.extract l h)) w := by
  simp only [Instr.sliceAt, Instr.slice, Sem.run_bind, run_kOf ht, Result.andThen_ok, hb, Sem.run_pure, Option.isSome_none, Bool.false_eq_true, if_false]

theorem exec_slice {P : Program} {a : Act} {o : Oper} {t : TypeId} {x : Operand} {lo hi mx : Option Operand} {v : Value} {w : World} (ho : o.op = .slice t x lo hi mx)
    (h : (Instr.sliceAt t (a.eval x) (lo.map a.eval) (hi.map a.eval) (mx.map a.eval)).run P w = .ok v w) : (execOp a.eval o).run P w = .ok (.value v) w := by
  simp only [execOp, ho, Sem.run_bind, h, Result.andThen_ok, Sem.run_pure]

theorem evSlice_run {P : Program} {a : Act} {ρ : Operand → Option Value} {o : Oper} {t : TypeId} {x : Operand} {lo hi mx : Option Operand} {c : Value → Prop} (hρ : Agree ρ a) (ho : o.op = .slice t x lo hi mx)
    (h : evFree P (.slice t x lo hi mx) ρ c) : ∃ v, c v ∧ ∀ w, (execOp a.eval o).run P w = .ok (.value v) w := by
  unfold evFree at h
  dsimp only at h
  split at h
  · -- a slice
    rename_i base n k e kl l hx ht hl
    have hx' := hρ _ _ hx
    split at h
    · exact h.elim
    rename_i hs
    split at h
    · -- no high bound
      obtain ⟨hlo, hc⟩ := h
      refine ⟨_, hc, fun w => exec_slice ho ?_⟩
      rw [hx']
      cases lo with
      | none =>
        simp only [Option.some.injEq, Value.int.injEq] at hl
        obtain ⟨_, rfl⟩ := hl
        exact run_slice_sl ht hs bounds_none
      | some y => exact run_slice_sl ht hs (bounds_l (hρ _ _ hl) hlo)
    · rename_i hh
      split at h
      · rename_i kh hv hhv
        obtain ⟨h1, h2, hc⟩ := h
        refine ⟨_, hc, fun w => exec_slice ho ?_⟩
        rw [hx']
        cases lo with
        | none =>
          simp only [Option.some.injEq, Value.int.injEq] at hl
          obtain ⟨_, rfl⟩ := hl
          exact run_slice_sl ht hs (bounds_h (hρ _ _ hhv) h1)
        | some y => exact run_slice_sl ht hs (bounds_lh (hρ _ _ hl) (hρ _ _ hhv) h1 h2)
      · exact h.elim
    · rename_i mm hh
      split at h
      · rename_i kh hv km mv hhv hmv
        obtain ⟨h0, h1, h2, hc⟩ := h
        refine ⟨_, hc, fun w => exec_slice ho ?_⟩
        rw [hx']
        cases lo with
        | none =>
          simp only [Option.some.injEq, Value.int.injEq] at hl
          obtain ⟨_, rfl⟩ := hl
          exact run_slice_sl ht hs (bounds_hm (hρ _ _ hhv) (hρ _ _ hmv) h0 h1)
        | some y => exact run_slice_sl ht hs (bounds_lhm (hρ _ _ hl) (hρ _ _ hhv) (hρ _ _ hmv) h0 h1 h2)
      · exact h.elim
    · exact h.elim
  · -- a string
    rename_i s kl l hx ht hl
    have hx' := hρ _ _ hx
    split at h
    · obtain ⟨h1, h2, hc⟩ := h
      rw [Int.toNat_natCast] at hc
      refine ⟨_, hc, fun w => exec_slice ho ?_⟩
      rw [hx']
      cases lo with
      | none =>
        simp only [Option.some.injEq, Value.int.injEq] at hl
        obtain ⟨_, rfl⟩ := hl
        exact run_slice_str ht bounds_none
      | some y => exact run_slice_str ht (bounds_l (hρ _ _ hl) h2)
    · rename_i hh
      split at h
      · rename_i kh hv hhv
        obtain ⟨h1, h2, hc⟩ := h
        refine ⟨_, hc, fun w => exec_slice ho ?_⟩
        rw [hx']
        cases lo with
        | none =>
          simp only [Option.some.injEq, Value.int.injEq] at hl
          obtain ⟨_, rfl⟩ := hl
          exact run_slice_str ht (bounds_h (hρ _ _ hhv) h1)
        | some y => exact run_slice_str ht (bounds_lh (hρ _ _ hl) (hρ _ _ hhv) h1 h2)
      · exact h.elim
    · exact h.elim
  · -- an array
    rename_i p n e kl l hx ht hl
    have hx' := hρ _ _ hx
    have hmap : ∀ (m l sz : Nat), (if m = l then some p else (some p : Option Addr).map (·.add (l * sz))) = some (if m = l then p else p.add (l * sz)) := by intro m l sz; split <;> rfl
    split at h
    · exact h.elim
    rename_i hs
    split at h
    · obtain ⟨hlo, hc⟩ := h
      rw [hmap] at hc
      refine ⟨_, hc, fun w => exec_slice ho ?_⟩
      rw [hx']
      cases lo with
      | none =>
        simp only [Option.some.injEq, Value.int.injEq] at hl
        obtain ⟨_, rfl⟩ := hl
        exact run_slice_arr ht hs bounds_none
      | some y => exact run_slice_arr ht hs (bounds_l (hρ _ _ hl) hlo)
    · rename_i hh
      split at h
      · rename_i kh hv hhv
        obtain ⟨h1, h2, hc⟩ := h
        rw [hmap] at hc
        refine ⟨_, hc, fun w => exec_slice ho ?_⟩
        rw [hx']
        cases lo with
        | none =>
          simp only [Option.some.injEq, Value.int.injEq] at hl
          obtain ⟨_, rfl⟩ := hl
          exact run_slice_arr ht hs (bounds_h (hρ _ _ hhv) h1)
        | some y => exact run_slice_arr ht hs (bounds_lh (hρ _ _ hl) (hρ _ _ hhv) h1 h2)
      · exact h.elim
    · exact h.elim
  · exact h.elim

theorem run_part {P : Program} {t : TypeId} {cs : Array Value} {off : Nat} {v : Value} {w : World} {d : TypeDesc} (hd : P.underlying t = some d) (hk : kOf P t ≠ .ag) (h : cs[off]? = some v) : (part t cs off).run P w = .ok v w := by
  simp only [part, Sem.run_bind, isAgg_no hd hk, Result.andThen_ok, Bool.false_eq_true, if_false, h, Sem.run_pure]
theorem run_part_ag {P : Program} {t : TypeId} {cs : Array Value} {off : Nat} {w : World} (hk : kOf P t = .ag) (hs : szOf P t ≠ 0) : (part t cs off).run P w = .ok (.agg (cs.extract off (off + szOf P t))) w := by
  simp only [part, Sem.run_bind, isAgg_yes hk, Result.andThen_ok, if_true, elem_info hs, Sem.run_pure]

theorem under_of_k {P : Program} {t : TypeId} (h : kOf P t ≠ .raw) : ∃ d, P.underlying t = some d := by
  obtain ⟨d, hd, _⟩ := kOf_cases rfl h
  exact ⟨d, hd⟩

theorem ptA_inv {cs : Array Value} {o : Nat} {c : Value → Prop} (h : ptA cs o c) : ∃ v, cs[o]? = some v ∧ c v := by
  unfold ptA at h
  split at h
  · rename_i v hv; exact ⟨v, hv, h⟩
  · exact h.elim

theorem evField_run {P : Program} {a : Act} {ρ : Operand → Option Value} {o : Oper} {t : TypeId} {x : Operand} {f : Nat} {c : Value → Prop} (hρ : Agree ρ a) (ho : o.op = .field t x f)
    (h : evFree P (.field t x f) ρ c) : ∃ v, c v ∧ ∀ w, (execOp a.eval o).run P w = .ok (.value v) w := by
  unfold evFree at h
  dsimp only at h
  split at h
  · rename_i cs fd hx hf
    have hx' := hρ _ _ hx
    unfold fieldOf at hf
    split at hf
    · rename_i fs ht
      have key : ∀ v, (∀ w, (part fd.type cs fd.offset).run P w = .ok v w) → ∀ w, (execOp a.eval o).run P w = .ok (.value v) w := by
        intro v hv w
        simp only [execOp, ho, Instr.field, Sem.run_bind, run_kOf ht, Result.andThen_ok, hf, hx', asAgg, Sem.run_pure, hv]
      split at h
      · rename_i hk
        split at h
        · exact h.elim
        · rename_i hs; exact ⟨_, h, key _ fun w => run_part_ag hk hs⟩
      · exact h.elim
      · rename_i k hk1 hk2
        obtain ⟨v, hv, hc⟩ := ptA_inv h
        obtain ⟨d, hd⟩ := under_of_k hk2
        exact ⟨v, cast_inv hc, key _ fun w => run_part hd hk1 hv⟩
    · cases hf
  · exact h.elim

theorem evFieldAddr_run {P : Program} {a : Act} {ρ : Operand → Option Value} {o : Oper} {t : TypeId} {x : Operand} {f : Nat} {c : Value → Prop} (hρ : Agree ρ a) (ho : o.op = .fieldAddr t x f)
    (h : evFree P (.fieldAddr t x f) ρ c) : ∃ v, c v ∧ ∀ w, (execOp a.eval o).run P w = .ok (.value v) w := by
  unfold evFree at h
  dsimp only at h
  split at h
  · rename_i p fd hx hf
    have hx' := hρ _ _ hx
    unfold fieldOf at hf
    split at hf
    · rename_i fs ht
      split at h
      · exact h.elim
      · rename_i hs
        refine ⟨_, h, fun w => ?_⟩
        simp only [execOp, ho, Instr.fieldAt, Sem.run_bind, run_kOf ht, Result.andThen_ok, hf, hx', Instr.sureAddr, Sem.run_pure, fieldPlace, elem_info hs, hs, if_false]
    · cases hf
  · exact h.elim

theorem evIndexAddr_run {P : Program} {a : Act} {ρ : Operand → Option Value} {o : Oper} {t : TypeId} {x i : Operand} {c : Value → Prop} (hρ : Agree ρ a) (ho : o.op = .indexAddr t x i)
    (h : evFree P (.indexAddr t x i) ρ c) : ∃ v, c v ∧ ∀ w, (execOp a.eval o).run P w = .ok (.value v) w := by
  unfold evFree at h
  dsimp only at h
  split at h
  · rename_i base n k ki i' e hx hi ht
    have hx' := hρ _ _ hx
    have hi' := hρ _ _ hi
    split at h
    · exact h.elim
    rename_i hs
    unfold ixS at h
    cases base with
    | none => exact h.elim
    | some p =>
      obtain ⟨hb, hc⟩ := h
      refine ⟨_, hc, fun w => ?_⟩
      simp only [execOp, ho, Instr.indexAt, hx', hi', asIntOf, Sem.run_bind, Sem.run_pure, Result.andThen_ok, run_kOf ht, hb, and_self, if_true, elem_info hs]
  · rename_i p ki i' n e hx hi ht
    have hx' := hρ _ _ hx
    have hi' := hρ _ _ hi
    split at h
    · exact h.elim
    rename_i hs
    split at h
    · rename_i j hj
      split at h
      · rename_i hlt
        have hij : i' = (j : Int) := by
          unfold litNat at hj
          split at hj
          · cases hj
            have : Value.int ki i' = _ := hi'.symm
            cases this
            rfl
          · cases hj
        subst hij
        refine ⟨_, h, fun w => ?_⟩
        have hb : 0 ≤ (j : Int) ∧ (j : Int) < n := by omega
        simp only [execOp, ho, Instr.indexAt, hx', hi', asIntOf, Sem.run_bind, Sem.run_pure, Result.andThen_ok, run_kOf ht, hb, and_self, if_true, elem_info hs, Instr.sureAddr, Int.toNat_natCast]
      · exact h.elim
    · obtain ⟨hb, hc⟩ := h
      refine ⟨_, hc, fun w => ?_⟩
      simp only [execOp, ho, Instr.indexAt, hx', hi', asIntOf, Sem.run_bind, Sem.run_pure, Result.andThen_ok, run_kOf ht, hb, and_self, if_true, elem_info hs, Instr.sureAddr]
  · exact h.elim

theorem evIndex_run {P : Program} {a : Act} {ρ : Operand → Option Value} {o : Oper} {t : TypeId} {x i : Operand} {c : Value → Prop} (hρ : Agree ρ a) (ho : o.op = .index t x i)
    (h : evFree P (.index t x i) ρ c) : ∃ v, c v ∧ ∀ w, (execOp a.eval o).run P w = .ok (.value v) w := by
  unfold evFree at h
  dsimp only at h
  split at h
  · rename_i cs ki i' n e hx hi ht
    have hx' := hρ _ _ hx
    have hi' := hρ _ _ hi
    split at h
    · exact h.elim
    · exact h.elim
    · rename_i k hk1 hk2
      split at h
      · rename_i hs
        obtain ⟨hb, h⟩ := h
        obtain ⟨v, hv, hc⟩ := ptA_inv h
        obtain ⟨d, hd⟩ := under_of_k hk2
        refine ⟨v, cast_inv hc, fun w => ?_⟩
        simp only [execOp, ho, Instr.index, hx', hi', asIntOf, Sem.run_bind, Sem.run_pure, Result.andThen_ok, run_kOf ht, hb, and_self, if_true, elem_info (by rw [hs]; simp : szOf P e ≠ 0), hs, Nat.mul_one, run_part hd hk1 hv]
      · exact h.elim
  · rename_i s ki i' hx hi ht
    have hx' := hρ _ _ hx
    have hi' := hρ _ _ hi
    obtain ⟨h0, h⟩ := h
    split at h
    · rename_i b hb
      refine ⟨_, h, fun w => ?_⟩
      simp only [execOp, ho, Instr.index, hx', hi', asIntOf, Sem.run_bind, Sem.run_pure, Result.andThen_ok, run_kOf ht, h0, if_true, hb]
    · exact h.elim
  · exact h.elim

theorem evNil_run {P : Program} {a : Act} {ρ : Operand → Option Value} {o : Oper} {x : Operand} {c : Value → Prop} (hρ : Agree ρ a) (ho : o.op = .nilCheck x)
    (h : evFree P (.nilCheck x) ρ c) : ∃ v, c v ∧ ∀ w, (execOp a.eval o).run P w = .ok (.value v) w := by
  unfold evFree at h
  dsimp only at h
  split at h
  · rename_i v hx
    have hx' := hρ _ _ hx
    unfold nnV at h
    split at h
    · rename_i p
      unfold nn at h
      cases p with
      | none => exact h.elim
      | some p => exact ⟨_, h, fun w => by simp only [execOp, ho, hx', Sem.run_pure]⟩
    · exact ⟨_, h, fun w => by simp only [execOp, ho, hx', Sem.run_pure]⟩
    · exact h.elim
  · exact h.elim

theorem evIface_run {P : Program} {a : Act} {ρ : Operand → Option Value} {o : Oper} {t : TypeId} {x : Operand} {c : Value → Prop} (hρ : Agree ρ a) (ho : o.op = .makeInterface t x)
    (h : evFree P (.makeInterface t x) ρ c) : ∃ v, c v ∧ ∀ w, (execOp a.eval o).run P w = .ok (.value v) w := by
  unfold evFree at h
  dsimp only at h
  split at h
  · exact h.elim
  · rename_i hk
    split at h
    · rename_i v hx
      obtain ⟨d, hd⟩ := under_of_k hk
      refine ⟨_, h, fun w => ?_⟩
      simp only [execOp, ho, hρ _ _ hx, Instr.makeInterface, Sem.run_bind, run_kOf hd, Result.andThen_ok]
      cases d <;> first | rfl | (exact absurd (by simp [kOf, hd]) hk)
    · exact h.elim

/-! ### two aggregates of numbers, Bools and texts -/
theorem eqOffs_append {xs ys : Array Value} : ∀ {m l : List (Nat × Nat)} {r : Bool}, eqOffs xs ys (m ++ l) = some r → ∃ r1 r2, eqOffs xs ys m = some r1 ∧ eqOffs xs ys l = some r2 ∧ r = (r1 && r2)
  | [], l, r, h => ⟨true, r, rfl, h, by simp⟩
  | (o, k) :: m, l, r, h => by
    rw [List.cons_append, eqOffs] at h
    split at h
    · rename_i a b ha hb
      split at h
      · rename_i q qs hq hqs
        cases h
        obtain ⟨r1, r2, h1, h2, rfl⟩ := eqOffs_append hqs
        exact ⟨q && r1, r2, by simp [eqOffs, ha, hb, hq, h1], h2, by simp [Bool.and_assoc]⟩
      · cases h
    · cases h

theorem eqOffs_extract {xs ys : Array Value} {off sz : Nat} : ∀ {m : List (Nat × Nat)} {r : Bool}, m.all (fun x => Nat.blt x.1 sz) = true → eqOffs xs ys (m.map fun x => (x.1 + off, x.2)) = some r →
    eqOffs (xs.extract off (off + sz)) (ys.extract off (off + sz)) m = some r
  | [], r, _, h => h
  | (o, k) :: m, r, hm, h => by
    simp only [List.all_cons, Bool.and_eq_true] at hm
    have ho : o < sz := by have := hm.1; simpa [Nat.blt_eq] using this
    simp only [List.map_cons, eqOffs] at h ⊢
    split at h
    · rename_i a b ha hb
      have ha' : (xs.extract off (off + sz))[o]? = some a := by
        rw [Array.getElem?_extract]
        have hlt : o + off < xs.size := (Array.getElem?_eq_some_iff.1 ha).1
        rw [if_pos (by omega), Nat.add_comm off o]; exact ha
      have hb' : (ys.extract off (off + sz))[o]? = some b := by
        rw [Array.getElem?_extract]
        have hlt : o + off < ys.size := (Array.getElem?_eq_some_iff.1 hb).1
        rw [if_pos (by omega), Nat.add_comm off o]; exact hb
      simp only [ha', hb']
      split at h
      · rename_i q qs hq hqs
        cases h
        simp [hq, eqOffs_extract hm.2 hqs]
      · cases h
    · cases h

def Go.Op.eqElems' (d : Nat) (e : TypeId) (n : Nat) (xs ys : Array Value) : Nat → Nat → Sem Bool
  | _, 0 => pure true
  | i, k + 1 => do
    let a ← part e xs (i * n)
    let b ← part e ys (i * n)
    let r ← Op.equalIn d e a b
    if (!r) = true then pure false else Go.Op.eqElems' d e n xs ys (i + 1) k

theorem run_equalIn_array {P : Program} (w : World) (d : Nat) (t e : TypeId) (len : Nat) (xs ys : Array Value) (ht : P.underlying t = some (.array len e)) {i : TypeInfo} (hi : P.info? e = some i) :
    (Op.equalIn (d + 1) t (.agg xs) (.agg ys)).run P w = (Go.Op.eqElems' d e i.size xs ys 0 len).run P w := by
  simp only [Op.equalIn, Sem.run_bind, run_underlying ht, Result.andThen_ok, run_sizeOf hi]
  rw [Std.Legacy.Range.forIn_eq_forIn_range']
  simp only [Std.Legacy.Range.size, Nat.sub_zero, Nat.add_sub_cancel, Nat.div_one]
  clear ht
  generalize 0 = s
  induction len generalizing s w with
  | zero => simp [Go.Op.eqElems']
  | succ len ih =>
    simp only [List.range'_succ, List.forIn_cons, Go.Op.eqElems', Sem.run_bind, Sem.run_ite]
    generalize (part e xs (s * i.size)).run P w = r1
    cases r1 with
    | ok a w1 =>
      simp only [Result.andThen_ok]
      generalize (part e ys (s * i.size)).run P w1 = r2
      cases r2 with
      | ok b w2 =>
        simp only [Result.andThen_ok]
        generalize (Op.equalIn d e a b).run P w2 = r3
        cases r3 with
        | ok r w3 =>
          cases r
          · simp only [Result.andThen_ok, Bool.not_false, if_true, Sem.run_pure]
          · simp only [Result.andThen_ok, Bool.not_true, Bool.false_eq_true, if_false, Sem.run_pure]
            exact ih w3 (s + 1)
        | halt x w3 => simp [Result.andThen]
      | halt x w2 => simp [Result.andThen]
    | halt x w1 => simp [Result.andThen]

def PartEq (P : Program) (D : Nat) (t : TypeId) (m : List (Nat × Nat)) : Prop :=
  ∀ (w : World) (xs ys : Array Value) (off : Nat) (r : Bool), m.all (fun x => Nat.blt x.1 (szOf P t)) = true → eqOffs xs ys (m.map fun x => (x.1 + off, x.2)) = some r →
    ∃ vx vy, (part t xs off).run P w = .ok vx w ∧ (part t ys off).run P w = .ok vy w ∧ (Op.equalIn D t vx vy).run P w = .ok r w

theorem eqFields_run {P : Program} {D : Nat} {rec : TypeId → Option (List (Nat × Nat))} (hrec : ∀ t m, rec t = some m → PartEq P D t m) :
    ∀ (fs : List Field) (os : List (Nat × Nat)) (w : World) (xs ys : Array Value) (r : Bool), leavesF P rec fs = some os → eqOffs xs ys os = some r → (Op.eqFields D xs ys fs).run P w = .ok r w
  | [], os, w, xs, ys, r, h, he => by
    simp only [leavesF, Option.some.injEq] at h
    subst h
    simp only [eqOffs, Option.some.injEq] at he
    subst he
    rfl
  | f :: fs, os, w, xs, ys, r, h, he => by
    unfold leavesF at h
    split at h
    · cases h
    · rename_i hn
      have hn' : f.name ≠ "_" := by simpa using hn
      split at h
      · rename_i m l hm hl
        split at h
        · rename_i hall
          cases h
          obtain ⟨r1, r2, h1, h2, rfl⟩ := eqOffs_append he
          obtain ⟨vx, vy, hx, hy, hq⟩ := hrec _ _ hm w xs ys f.offset r1 hall h1
          have ih := eqFields_run hrec fs l w xs ys r2 hl h2
          unfold Op.eqFields
          rw [if_pos hn']
          simp only [Sem.run_bind, hx, hy, hq, Result.andThen_ok, Sem.run_ite, ih, Sem.run_pure]
          cases r1 <;> simp
        · cases h
      · cases h

theorem eqElems_run {P : Program} {D : Nat} {e : TypeId} {m : List (Nat × Nat)} (hrec : PartEq P D e m) (hall : m.all (fun x => Nat.blt x.1 (szOf P e)) = true) :
    ∀ (n s : Nat) (w : World) (xs ys : Array Value) (r : Bool), eqOffs xs ys (leavesE (szOf P e) m s n) = some r → (Go.Op.eqElems' D e (szOf P e) xs ys s n).run P w = .ok r w
  | 0, s, w, xs, ys, r, he => by
    simp only [leavesE, eqOffs, Option.some.injEq] at he
    subst he
    rfl
  | n + 1, s, w, xs, ys, r, he => by
    unfold leavesE at he
    obtain ⟨r1, r2, h1, h2, rfl⟩ := eqOffs_append he
    obtain ⟨vx, vy, hx, hy, hq⟩ := hrec w xs ys (s * szOf P e) r1 hall h1
    have ih := eqElems_run hrec hall n (s + 1) w xs ys r2 h2
    unfold Go.Op.eqElems'
    simp only [Sem.run_bind, hx, hy, hq, Result.andThen_ok, Sem.run_ite, ih, Sem.run_pure]
    cases r1 <;> simp

theorem fieldsOf_eq {P : Program} {t : TypeId} {fs : Array Field} (h : P.underlying t = some (.struct fs)) : P.fieldsOf t = fs := by simp [Program.fieldsOf, h]

theorem aggEq {P : Program} : ∀ (d : Nat) (t : TypeId) (m : List (Nat × Nat)), leavesR P d t = some m → ∀ D, d ≤ D →
    PartEq P D t m ∧ (kOf P t = .ag → ∀ (w : World) (xs ys : Array Value) (r : Bool), eqOffs xs ys m = some r → (Op.equalIn D t (.agg xs) (.agg ys)).run P w = .ok r w)
  | 0, t, m, h, _, _ => by simp [leavesR] at h
  | d + 1, t, m, h, D, hD => by
    obtain ⟨D, rfl⟩ : ∃ D', D = D' + 1 := ⟨D - 1, by omega⟩
    have hag : kOf P t = .ag → ∀ (w : World) (xs ys : Array Value) (r : Bool), eqOffs xs ys m = some r → (Op.equalIn (D + 1) t (.agg xs) (.agg ys)).run P w = .ok r w := by
      intro hk w xs ys r he
      unfold leavesR at h
      split at h
      · rename_i hd; simp [kOf, hd] at hk
      · rename_i hd; simp [kOf, hd] at hk
      · rename_i hd; simp [kOf, hd] at hk
      · rename_i fs hd
        split at h
        · cases h
        split at h
        · cases h
        · rename_i hs
          have hd' : P.underlying t = some (.struct (P.fieldsOf t)) := by rw [fieldsOf_eq hd]; exact hd
          rw [run_equalIn_struct w D t xs ys hd' (by simpa using hs), fieldsOf_eq hd]
          exact eqFields_run (fun t m hm => (aggEq d t m hm D (by omega)).1) _ _ w xs ys r h he
      · rename_i n e hd
        split at h
        · cases h
        split at h
        · cases h
        rename_i hz
        split at h
        · rename_i mm hm
          split at h
          · rename_i hall
            cases h
            obtain ⟨i, hi, hsz⟩ := szOf_some hz
            rw [run_equalIn_array w D t e n xs ys hd hi, hsz]
            exact eqElems_run (aggEq d e mm hm D (by omega)).1 hall n 0 w xs ys r he
          · cases h
        · cases h
      · cases h
    refine ⟨?_, hag⟩
    intro w xs ys off r hall he
    by_cases hk : kOf P t = .ag
    · have hs : szOf P t ≠ 0 := by
        unfold leavesR at h
        split at h
        · rename_i hd; simp [kOf, hd] at hk
        · rename_i hd; simp [kOf, hd] at hk
        · rename_i hd; simp [kOf, hd] at hk
        · split at h
          · cases h
          · assumption
        · split at h
          · cases h
          · assumption
        · cases h
      exact ⟨_, _, run_part_ag hk hs, run_part_ag hk hs, hag hk w _ _ r (eqOffs_extract hall he)⟩
    · unfold leavesR at h
      split at h
      · rename_i kk hd
        cases h
        simp only [List.map_cons, List.map_nil, eqOffs, Nat.zero_add] at he
        split at he
        · rename_i a b ha hb
          refine ⟨a, b, run_part hd hk ha, run_part hd hk hb, ?_⟩
          unfold eqC at he
          cases a <;> cases b <;> simp at he
          rename_i k1 x k2 y
          by_cases hkk : k1 = k2
          · subst hkk
            simp at he
            subst he
            exact run_equalIn_int w D t k1 kk x y hd
          · simp [hkk] at he
        · cases he
      · rename_i hd
        cases h
        simp only [List.map_cons, List.map_nil, eqOffs, Nat.zero_add] at he
        split at he
        · rename_i a b ha hb
          refine ⟨a, b, run_part hd hk ha, run_part hd hk hb, ?_⟩
          unfold eqC at he
          cases a <;> cases b <;> simp at he
          subst he
          exact run_equalIn_bool' w D t _ _ hd
        · cases he
      · rename_i hd
        cases h
        simp only [List.map_cons, List.map_nil, eqOffs, Nat.zero_add] at he
        split at he
        · rename_i a b ha hb
          refine ⟨a, b, run_part hd hk ha, run_part hd hk hb, ?_⟩
          unfold eqC at he
          cases a <;> cases b <;> simp at he
          subst he
          exact run_equalIn_string w D t _ _ hd
        · cases he
      · rename_i hd; exact absurd (by simp [kOf, hd]) hk
      · rename_i hd; exact absurd (by simp [kOf, hd]) hk
      · cases h

theorem run_equal_in {P : Program} {w : World} {t t1 : TypeId} {v1 : Value} {ms} (hu : P.underlying t = some (.interface ms)) : (Op.equal t (.iface t1 v1) .nilIface).run P w = .ok false w := by
  have key : ∀ d, (Op.equalIn (d + 1) t (.iface t1 v1) .nilIface).run P w = .ok false w := fun d => by simp [Op.equalIn, run_underlying hu]
  exact key 9999
theorem run_equal_nn {P : Program} {w : World} {t : TypeId} {ms} (hu : P.underlying t = some (.interface ms)) : (Op.equal t .nilIface .nilIface).run P w = .ok true w := by
  have key : ∀ d, (Op.equalIn (d + 1) t .nilIface .nilIface).run P w = .ok true w := fun d => by simp [Op.equalIn, run_underlying hu]
  exact key 9999
theorem run_eqGuard_in {P : Program} {w : World} {op : BinOp} {t t1 : TypeId} {x y : Operand} {v1 : Value} : (eqGuard op t x y (.iface t1 v1) .nilIface).run P w = .ok () w := by
  unfold eqGuard
  split <;> rfl
theorem run_eqGuard_nn {P : Program} {w : World} {op : BinOp} {t : TypeId} {x y : Operand} (hy : isNilI y = true) : (eqGuard op t x y .nilIface .nilIface).run P w = .ok () w := by
  have : y = .const .nilIface := by
    unfold isNilI at hy
    split at hy
    · rfl
    · cases hy
  subst this
  unfold eqGuard
  split <;> simp
theorem evBinF_run {P : Program} {a : Act} {ρ : Operand → Option Value} {o : Oper} {op : BinOp} {t : TypeId} {x y : Operand} {yt : TypeId} {c : Value → Prop} (hρ : Agree ρ a) (ho : o.op = .binOp op t x y yt)
    (h : evFree P (.binOp op t x y yt) ρ c) : ∃ v, c v ∧ ∀ w, (execOp a.eval o).run P w = .ok (.value v) w := by
  unfold evFree at h
  dsimp only at h
  split at h
  · rename_i k m k' n hx hy
    have hx' := hρ _ _ hx
    have hy' := hρ _ _ hy
    have key : ∀ v, (∀ w, (binOp op t (.int k m) (.int k' n)).run P w = .ok v w) → ∀ w, (execOp a.eval o).run P w = .ok (.value v) w := by
      intro v hv w
      exact run_bin ho (by rw [hx']; intro c; simp) (by rw [hx']; simp) (by rw [hx', hy']; exact hv w)
    split at h
    · obtain ⟨h0, h⟩ := h
      exact ⟨_, h, key _ fun w => (bin_shift h0).1 rfl⟩
    · obtain ⟨h0, h⟩ := h
      exact ⟨_, h, key _ fun w => (bin_shift h0).2 rfl⟩
    · split at h
      · rename_i hk
        obtain ⟨h0, h⟩ := h
        exact ⟨_, h, key _ fun w => bin_int hk (.inl h0) rfl⟩
      · exact h.elim
    · split at h
      · rename_i hk
        obtain ⟨h0, h⟩ := h
        exact ⟨_, h, key _ fun w => bin_int hk (.inl h0) rfl⟩
      · exact h.elim
    · exact h.elim
  · rename_i s1 s2 hx hy
    have hx' := hρ _ _ hx
    have hy' := hρ _ _ hy
    split at h
    · obtain ⟨hle, h⟩ := h
      refine ⟨_, h, fun w => run_bin ho (by rw [hx']; intro c; simp) (by rw [hx']; simp) ?_⟩
      rw [hx', hy']
      have hm : ¬ ((s1.size + s2.size : Nat) : Int) > IntKind.i64.max := by
        have : IntKind.i64.max = 9223372036854775807 := by decide
        omega
      simp only [binOp, Op.stringOp, hm, if_false, Sem.run_pure]
    · exact h.elim
  · rename_i xs ys hx hy
    have hx' := hρ _ _ hx
    have hy' := hρ _ _ hy
    split at h
    · exact h.elim
    rename_i hg
    have hg' : P.eqGuardType P.depth t = false := by simpa using hg
    have key : ∀ v, (∀ w, (binOp op t (.agg xs) (.agg ys)).run P w = .ok v w) → ∀ w, (execOp a.eval o).run P w = .ok (.value v) w := by
      intro v hv w
      simp only [execOp, ho, Sem.run_bind, hx', hy', run_eqGuard_agg w op t x y xs ys hg', Result.andThen_ok, hv w, Sem.run_pure]
    split at h
    · rename_i hk
      split at h
      · rename_i os hl
        unfold eqA at h
        split at h
        · rename_i b hb
          have := fun w => (aggEq 20 t os hl 10000 (by omega)).2 hk w xs ys b hb
          refine ⟨_, h, key _ fun w => ?_⟩
          rw [run_eql_struct, this w]; rfl
        · exact h.elim
      · rename_i os hl
        unfold eqA at h
        split at h
        · rename_i b hb
          have := fun w => (aggEq 20 t os hl 10000 (by omega)).2 hk w xs ys b hb
          refine ⟨_, h, key _ fun w => ?_⟩
          rw [run_neq_struct, this w]; rfl
        · exact h.elim
      · exact h.elim
    · exact h.elim
  · rename_i t1 v1 hx hy
    have hx' := hρ _ _ hx
    have hy' := hρ _ _ hy
    split at h
    · rename_i ms hu
      split at h
      · refine ⟨_, h, fun w => ?_⟩
        simp only [execOp, ho, Sem.run_bind, hx', hy', run_eqGuard_in, Result.andThen_ok, binOp, run_equal_in hu, Sem.run_pure]
      · refine ⟨_, h, fun w => ?_⟩
        simp only [execOp, ho, Sem.run_bind, hx', hy', run_eqGuard_in, Result.andThen_ok, binOp, run_equal_in hu, Sem.run_pure, Bool.not_false]
      · exact h.elim
    · exact h.elim
  · rename_i hx hy
    have hx' := hρ _ _ hx
    have hy' := hρ _ _ hy
    split at h
    · rename_i hn
      split at h
      · rename_i ms hu
        split at h
        · refine ⟨_, h, fun w => ?_⟩
          simp only [execOp, ho, Sem.run_bind, hx', hy', run_eqGuard_nn hn, Result.andThen_ok, binOp, run_equal_nn hu, Sem.run_pure]
        · refine ⟨_, h, fun w => ?_⟩
          simp only [execOp, ho, Sem.run_bind, hx', hy', run_eqGuard_nn hn, Result.andThen_ok, binOp, run_equal_nn hu, Sem.run_pure, Bool.not_true]
        · exact h.elim
      · exact h.elim
    · exact h.elim
  · exact h.elim

theorem evFree_run {P : Program} {a : Act} {ρ : Operand → Option Value} {o : Oper} {c : Value → Prop} (hρ : Agree ρ a) (h : evFree P o.op ρ c) : ∃ v, c v ∧ ∀ w, (execOp a.eval o).run P w = .ok (.value v) w := by
  cases ho : o.op with
  | binOp op t x y yt => rw [ho] at h; exact evBinF_run hρ ho h
  | nilCheck x => rw [ho] at h; exact evNil_run hρ ho h
  | fieldAddr s x f => rw [ho] at h; exact evFieldAddr_run hρ ho h
  | field s x f => rw [ho] at h; exact evField_run hρ ho h
  | indexAddr t x i => rw [ho] at h; exact evIndexAddr_run hρ ho h
  | index t x i => rw [ho] at h; exact evIndex_run hρ ho h
  | slice t x lo hi mx => rw [ho] at h; exact evSlice_run hρ ho h
  | makeInterface t x => rw [ho] at h; exact evIface_run hρ ho h
  | _ => rw [ho] at h; exact h.elim

/-! ### loads -/
theorem rd_inv {w : World} {a : Addr} {c : Value → Prop} (h : rd w a c) : ∃ v, w.cell? a = some v ∧ c v := by
  unfold rd at h
  split at h
  · rename_i v hv; exact ⟨v, hv, h⟩
  · exact h.elim

def sameC (n : Nat) (a : Addr) (w w' : World) : Prop := ∀ k, k < n → w'.cell? (a.add k) = w.cell? (a.add k)

theorem add_zero (a : Addr) : a.add 0 = a := rfl

theorem rdFrom_run {P : Program} {w : World} {a : Addr} : ∀ {n i : Nat} {l : List Value} (acc : Array Value), rdFrom w a i n = some l → ∀ w', (∀ k, k < n → w'.cell? (a.add (i + k)) = w.cell? (a.add (i + k))) →
    (loadCellsFrom a i n acc).run P w' = .ok (acc ++ l.toArray) w'
  | 0, i, l, acc, h, w', _ => by simp only [rdFrom, Option.some.injEq] at h; subst h; simp [loadCellsFrom]
  | n + 1, i, l, acc, h, w', hw => by
    simp only [rdFrom] at h
    split at h
    · rename_i v hv
      split at h
      · rename_i l' hl
        cases h
        have h0 := hw 0 (by omega)
        simp only [Nat.add_zero] at h0
        have ih := rdFrom_run (P := P) (acc.push v) hl w' (fun k hk => by have := hw (k + 1) (by omega); rwa [show i + (k + 1) = i + 1 + k by omega] at this)
        simp only [loadCellsFrom, Sem.run_bind, run_load, h0, hv, Result.andThen_ok, ih]
        simp
      · cases h
    · cases h

theorem evRead_run {P : Program} {t : TypeId} {v : Value} {w : World} {c : Value → Prop} (h : evRead P t (some v) w c) :
    ∃ p u, v = .pointer (some p) ∧ c u ∧ ∀ w', sameC (loadN P t) p w w' → (Instr.loadAt t v).run P w' = .ok u w' := by
  unfold evRead at h
  split at h
  · rename_i p hv
    cases hv
    have key : kOf P t ≠ .ag → (∃ d, P.underlying t = some d) → ∀ u, w.cell? p = some u → ∀ w', sameC (loadN P t) p w w' → (Instr.loadAt t (.pointer (some p))).run P w' = .ok u w' := by
      intro hna hd u hu w' hs
      have hN : loadN P t = 1 := by unfold loadN; split <;> first | exact absurd (by assumption) hna | rfl
      have h0 := hs 0 (by omega)
      rw [add_zero, hu] at h0
      obtain ⟨d, hd⟩ := hd
      simp only [Instr.loadAt, Instr.sureAddr, Sem.run_bind, Sem.run_pure, Result.andThen_ok, loadVar, isAgg_no hd hna, Bool.false_eq_true, if_false, run_load, h0]
    split at h
    · rename_i kk hkk
      obtain ⟨u, hu, h⟩ := rd_inv h
      obtain ⟨n, rfl, h'⟩ := toI_inv (c := fun n => c (.int kk n)) h
      exact ⟨p, _, rfl, h', key (by simp [hkk]) (under_of_k (by simp [hkk])) _ hu⟩
    · rename_i hkk
      obtain ⟨u, hu, h⟩ := rd_inv h
      obtain ⟨n, rfl, h'⟩ := toB_inv (c := fun n => c (.bool n)) h
      exact ⟨p, _, rfl, h', key (by simp [hkk]) (under_of_k (by simp [hkk])) _ hu⟩
    · rename_i hkk
      obtain ⟨u, hu, h⟩ := rd_inv h
      obtain ⟨n, rfl, h'⟩ := toP_inv (c := fun n => c (.pointer n)) h
      exact ⟨p, _, rfl, h', key (by simp [hkk]) (under_of_k (by simp [hkk])) _ hu⟩
    · exact h.elim
    · rename_i hkk
      obtain ⟨u, hu, h⟩ := rd_inv h
      obtain ⟨n, rfl, h'⟩ := toS_inv (c := fun n => c (.slice n.a n.n n.c)) h
      exact ⟨p, _, rfl, h', key (by simp [hkk]) (under_of_k (by simp [hkk])) _ hu⟩
    · rename_i hkk
      obtain ⟨u, hu, h⟩ := rd_inv h
      obtain ⟨n, rfl, h'⟩ := toStr_inv (c := fun n => c (.string n)) h
      exact ⟨p, _, rfl, h', key (by simp [hkk]) (under_of_k (by simp [hkk])) _ hu⟩
    · rename_i hkk
      obtain ⟨u, hu, h⟩ := rd_inv h
      obtain ⟨n, rfl, h'⟩ := toM_inv (c := fun n => c (.map n)) h
      exact ⟨p, _, rfl, h', key (by simp [hkk]) (under_of_k (by simp [hkk])) _ hu⟩
    · rename_i hkk
      split at h
      · exact h.elim
      rename_i hz
      unfold ldA at h
      split at h
      · rename_i l hl
        refine ⟨p, _, rfl, h, fun w' hs => ?_⟩
        have hN : loadN P t = szOf P t := by unfold loadN; rw [hkk]
        rw [hN] at hs
        simp only [Instr.loadAt, Instr.sureAddr, Sem.run_bind, Sem.run_pure, Result.andThen_ok, loadVar, isAgg_yes hkk, if_true, elem_info hz, loadCells]
        rw [rdFrom_run #[] hl w' (fun k hk => by simpa using hs k hk)]
        simp
      · exact h.elim
    · rename_i hkk
      split at h
      · rename_i d hd
        obtain ⟨u, hu, h⟩ := rd_inv h
        exact ⟨p, u, rfl, h, key (by simp [hkk]) ⟨d, hd⟩ _ hu⟩
      · exact h.elim
  · exact h.elim

theorem evLoad_run {P : Program} {a : Act} {ρ : Operand → Option Value} {o : Oper} {t : TypeId} {x : Operand} {w : World} {c : Value → Prop} (hρ : Agree ρ a) (ho : o.op = .load t x) (h : evRead P t (ρ x) w c) :
    ∃ p u, ρ x = some (.pointer (some p)) ∧ c u ∧ ∀ w', sameC (loadN P t) p w w' → (execOp a.eval o).run P w' = .ok (.value u) w' := by
  cases hx : ρ x with
  | none => rw [hx] at h; exact h.elim
  | some v =>
    rw [hx] at h
    obtain ⟨p, u, rfl, hc, hr⟩ := evRead_run h
    refine ⟨p, u, rfl, hc, fun w' hs => ?_⟩
    simp only [execOp, ho, hρ _ _ hx, Sem.run_bind, hr w' hs, Result.andThen_ok, Sem.run_pure]

end Go.Ev
