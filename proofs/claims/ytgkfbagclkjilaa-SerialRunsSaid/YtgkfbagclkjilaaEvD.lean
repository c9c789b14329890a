/-
  The evaluator's soundness, fourth part: operations that turn memory; calls.
-/
import Derived.Test.YtgkfbagclkjilaaEvC
import Derived.RangeFuncMany
import Derived.TacticsIn
import Derived.LoopNIn
import Derived.OrdersIn
namespace Go.Ev
open Go

/-- frames as they are, or a round's of the loop l -/
def fen : Option Nat → Fence
  | none => Fence.wide
  | some l => Fence.wide.inRound l
theorem fen_fn (ro : Option Nat) (f : FuncId) : (fen ro).fn f := by cases ro <;> exact trivial
theorem fen_depth (ro : Option Nat) : (fen ro).depth.isSome = true → ∀ {p : Prop}, p := by cases ro <;> intro h <;> cases h
theorem fen_round (ro : Option Nat) : (fen ro).round = ro := by cases ro <;> rfl
theorem callsIn_fen {ro : Option Nat} {n : Nat} {P : Program} {f : FuncId} {args : Array Value} {w : World} {R : Ending → World → Prop} (h : Calls P f args w R) : CallsIn (fen ro) n P f args w R := by
  cases ro with
  | none => exact callsIn_wide.2 h
  | some l => exact (callsIn_wide (n := n).2 h : CallsIn Fence.wide n P f args w R)
theorem roundIn_fen {ro : Option Nat} {n m : Nat} {P : Program} {l : Nat} {f : FuncId} {tmps : Array Value} {assign body : Code} {w : World} {R : Ending → World → Prop} (h : RoundIn Fence.wide m P l f tmps assign body w R) : RoundIn (fen ro) n P l f tmps assign body w R := by
  cases ro with
  | none => exact ⟨h.1, fun c cs _ => h.2 c cs (room_wide _)⟩
  | some l' => exact ⟨h.1, fun c cs _ => h.2 c cs (room_wide _)⟩

/-- what a panic comes to -/
abbrev Pan := List PanicEntry → World → Prop
def NoPan : Pan := fun _ _ => False
/-- what a call comes to: a value, or a panic -/
def Came (c : Value → World → Prop) (q : Pan) : Ending → World → Prop
  | .returned v, w => c v w
  | .panicked ch, w => q ch w
  | .outgrown, _ => False
/-- 'panic' is the pseudo-function 'method "panic"' -/
def OrcOK (P : Program) (orc : Oracle) (q : Pan) : Prop := ∀ fn args w c, orc fn args w c → match fn with
  | .func f => ((∃ fn, P.funcs[f]? = some fn ∧ fn.body.isSome = true ∧ (fn.name == "runtime.NumGoroutine") = false) ∧ Calls P f args w (Came c q)) ∨ ∃ v w', (callFunc f args).run P w = .ok (.value v) w' ∧ c v w'
  | .yield l => YieldAt Fence.wide 0 P l args w (Came c q)
  | .method _ => ∃ t v, args = #[.iface t v] ∧ q [{ v := .iface t v, recovered := false }] w
  | _ => False

section
variable {P : Program} {a : Act} {o : Oper} {w w' : World} {K : Act → World → Prop} {Q : Exit → Act → World → Prop} {ro : Option Nat} {n : Nat}

theorem defer_run {ρ : Operand → Value} {o : Oper} {c : Call} (hc : o.op = .defer c) {r : Next} {w w' : World} (h : (execOp ρ o).run P w = .ok r w') : ∃ d, r = .defer d := by
  simp only [execOp, hc, Sem.run_bind] at h
  cases hr : (resolve ρ c o.type).run P w with
  | ok d w1 => rw [hr] at h; simp only [Result.andThen_ok, Sem.run_pure] at h; cases h; exact ⟨d, rfl⟩
  | halt x w1 => rw [hr] at h; cases h
theorem wp_of {r : Next} (h : (execOp a.eval o).run P w = .ok r w') (hr : ∀ d, r ≠ .defer d) (hK : o.uponIn (fen ro) n P a K Q (.ok r w')) : o.wpIn (fen ro) n P a w K Q := by
  refine ⟨fun f _ => fen_fn ro f, ?_⟩
  rw [Oper.semAt_eq _ _ _ fun c hc => by obtain ⟨d, hd⟩ := defer_run hc h; exact hr d hd, h]
  exact hK
theorem wp_value {v : Value} (h : (execOp a.eval o).run P w = .ok (.value v) w') (hK : K (a.put o.dst v) w') : o.wpIn (fen ro) n P a w K Q := wp_of h (fun d hd => by cases hd) hK
theorem wp_unit (h : (execOp a.eval o).run P w = .ok .skip w') (hK : K (a.put o.dst undef) w') : o.wpIn (fen ro) n P a w K Q := wp_of h (fun d hd => by cases hd) hK

theorem wp_panic {v : Value} (hnd : ∀ c, o.op ≠ .defer c) (h : (execOp a.eval o).run P w = .halt (.panic v) w') (hQ : Q (.panic [{ v, recovered := false }]) a w') : o.wpIn (fen ro) n P a w K Q := by
  refine ⟨fun f _ => fen_fn ro f, ?_⟩
  rw [Oper.semAt_eq _ _ _ fun c hc => absurd hc (hnd c), h]
  exact hQ

theorem runV_inv {r : Result Value} {c : Value → World → Prop} (h : runV r c) : ∃ v w', r = .ok v w' ∧ c v w' := by
  unfold runV at h
  split at h
  · exact ⟨_, _, rfl, h⟩
  · exact h.elim

theorem cells_one {v : Value} (h : v.oneCell' = true) : v.cells = #[v] := by cases v <;> first | rfl | (simp [Value.oneCell'] at h)

theorem stC_run {p : Addr} {v : Value} {c : World → Prop} (h : stC w p v c) : (store p v).run P w = .ok () (w.setCell p v) ∧ c (w.setCell p v) := by
  obtain ⟨h1, h2, h3, h4⟩ := h
  refine ⟨?_, h4⟩
  rw [run_store P w p v .plain h1]
  cases hc : w.cell? p with
  | none => simp [hc] at h2
  | some u => simp [h3]

theorem wrFrom_run {p : Addr} : ∀ {l : List Value} {i : Nat} {w : World} {c : World → Prop}, wrFrom w p i l c → ∃ w', (storeCells p l i).run P w = .ok () w' ∧ c w'
  | [], i, w, c, h => ⟨w, rfl, h⟩
  | v :: l, i, w, c, h => by
    obtain ⟨h1, h2⟩ := stC_run (P := P) (c := fun w => wrFrom w p (i + 1) l c) h
    obtain ⟨w', h3, h4⟩ := wrFrom_run h2
    exact ⟨w', by simp only [storeCells, Sem.run_bind, h1, Result.andThen_ok, h3], h4⟩

theorem fillE_run {place place' : Nat → Option (Nat × Nat)} {n : Nat} (hp : ∀ i x, place' i = some x → place i = some x) :
    ∀ {l : List (Nat × Value)} {acc : Array Value} {c : Array Value → Prop}, fillE place' n l acc c → acc.size = n → ∃ cs, Instr.fill place acc l = some cs ∧ c cs ∧ cs.size = n
  | [], acc, c, h, hn => ⟨acc, rfl, h, hn⟩
  | (i, v) :: l, acc, c, h, hn => by
    unfold fillE at h
    split at h
    · exact h.elim
    · rename_i off size hpl
      have hpl' := hp _ _ hpl
      split at h
      · exact h.elim
      · rename_i hle
        unfold Instr.fill
        simp only [hpl']
        split at h
        · rename_i cs
          obtain ⟨hsz, h⟩ := h
          have hc : (Value.agg cs).cells = cs := rfl
          have hcond : ¬ ((cs.size ≠ size) || decide (off + cs.size > acc.size)) = true := by simp [hsz]; omega
          rw [hc, if_neg hcond]
          have hs : (cs.zipIdx.foldl (fun cs (x, j) => cs.setIfInBounds (off + j) x) acc).size = n := by
            have : ∀ (l : List (Value × Nat)) (b : Array Value), (l.foldl (fun cs (x, j) => cs.setIfInBounds (off + j) x) b).size = b.size := by
              intro l
              induction l with
              | nil => intro b; rfl
              | cons y l ih => intro b; simp [ih]
            rw [← Array.foldl_toList, this]; exact hn
          exact fillE_run hp h hs
        · rename_i hna
          split at h
          · rename_i hs1
            have hc : v.cells = #[v] := by cases v <;> first | rfl | exact absurd rfl (hna _)
            have hcond : ¬ ((v.cells.size ≠ size) || decide (off + v.cells.size > acc.size)) = true := by rw [hc]; simp [hs1]; omega
            rw [if_neg hcond, hc]
            have : (#[v].zipIdx.foldl (fun cs (x, j) => cs.setIfInBounds (off + j) x) acc) = acc.setIfInBounds off v := by simp
            rw [this]
            exact fillE_run hp h (by simp [hn])
          · exact h.elim

theorem run_places {fs : List Field} (h : ∀ f ∈ fs, (P.info? f.type).isSome = true) :
    (fs.mapM fun f => (do pure (f.offset, ← sizeOf f.type) : Sem (Nat × Nat))).run P w = .ok (fs.map fun f => (f.offset, szOf P f.type)) w := by
  induction fs with
  | nil => rfl
  | cons f fs ih =>
    have h0 := h f List.mem_cons_self
    cases hi : P.info? f.type with
    | none => simp [hi] at h0
    | some i =>
      simp only [List.mapM_cons, Sem.run_bind, run_sizeOf hi, Result.andThen_ok, Sem.run_pure, ih (fun g hg => h g (List.mem_cons_of_mem _ hg)), List.map_cons, szOf_eq hi]

theorem run_zero {t : TypeId} {z : Value} (h : zOf P t = some z) : (zeroValue t).run P w = .ok z w := by
  unfold zOf at h
  cases hi : P.info? t with
  | none => simp [hi] at h
  | some i =>
    simp only [hi] at h
    simp [zeroValue, typeInfo, hi, h]

theorem run_build {t : TypeId} {l : List (Nat × Value)} {z : Value} {c : Value → Prop} (hz : zOf P t = some z) (hs : z.cells.size = szOf P t) (hi : infosOK P t = true)
    (h : fillE (placesOf P t) (szOf P t) l z.cells fun cs => c (.agg cs)) {parts : Array (Nat × Value)} (hl : parts.toList = l) : ∃ v, (Instr.build t parts).run P w = .ok v w ∧ c v := by
  unfold infosOK at hi
  split at hi
  · rename_i fs ht
    rw [List.all_eq_true] at hi
    have hpl : (fs.mapM fun f => (do pure (f.offset, ← sizeOf f.type) : Sem (Nat × Nat))).run P w = .ok ((fs.toList.map fun f => (f.offset, szOf P f.type)).toArray) w := by
      rw [Array.mapM_eq_mapM_toList]
      simp only [Sem.run_map, run_places hi, Result.andThen_ok]
    obtain ⟨cs, h1, h2, h3⟩ := fillE_run (place := ((fs.toList.map fun f => (f.offset, szOf P f.type)).toArray[·]?)) (by
      intro i x hx
      unfold placesOf at hx
      rw [ht] at hx
      simp only at hx
      split at hx
      · rename_i f hf; cases hx; simp [hf]
      · cases hx) h hs
    refine ⟨_, ?_, h2⟩
    simp only [Instr.build, Sem.run_bind, run_zero hz, Result.andThen_ok, run_kOf ht, hpl, hl, h1, Sem.run_pure]
  · rename_i n e ht
    cases hie : P.info? e with
    | none => simp [hie] at hi
    | some i =>
      obtain ⟨cs, h1, h2, h3⟩ := fillE_run (place := fun k => some (k * szOf P e, szOf P e)) (by
        intro k x hx
        unfold placesOf at hx
        rw [ht] at hx
        exact hx) h hs
      refine ⟨_, ?_, h2⟩
      rw [szOf_eq hie] at h1
      simp only [Instr.build, Sem.run_bind, run_zero hz, Result.andThen_ok, run_kOf ht, run_sizeOf hie, hl, h1, Sem.run_pure]
  · cases hi

theorem run_callFunc {f : FuncId} {args : Array Value} (h : ∃ fn, P.funcs[f]? = some fn ∧ fn.body.isSome = true ∧ (fn.name == "runtime.NumGoroutine") = false) : (callFunc f args).run P w = .ok (.enter f args) w := by
  obtain ⟨fn, h1, h2, h3⟩ := h
  have h4 : fn.body.isNone = false := by cases hb : fn.body <;> simp_all
  simp only [callFunc, Sem.run_bind, run_program, Result.andThen_ok, h1, h3, h4, Bool.false_eq_true, if_false, Sem.run_pure]

theorem evAct_wp {orc : Oracle} {ρ : Operand → Option Value} {c : Value → World → Prop} {q : Pan} (hρ : Agree ρ a) (ho : OrcOK P orc q) (hq : ∀ ch w, q ch w → Q (.panic ch) a w) (h : evAct P orc o ρ w c)
    (hK : ∀ v w', c v w' → K (a.put o.dst v) w') : o.wpIn (fen ro) n P a w K Q := by
  unfold evAct at h
  split at h
  · -- store
    rename_i t x y hop
    split at h
    · rename_i p v hx hy
      have hx' := hρ _ _ hx
      have hy' := hρ _ _ hy
      have key : v.cells.size = szOf P t → szOf P t ≠ 0 → ∀ w', (storeCells p v.cells.toList 0).run P w = .ok () w' → c undef w' → o.wpIn (fen ro) n P a w K Q := by
        intro h1 h2 w' h3 h4
        refine wp_unit (w' := w') ?_ (hK _ _ h4)
        have h5 : ¬ v.cells.size ≠ szOf P t := by simp [h1]
        simp only [execOp, hop, hx', hy', Instr.storeAt, Instr.sureAddr, Sem.run_bind, Sem.run_pure, Result.andThen_ok, storeVar, elem_info h2, h5, if_false, h3]
      split at h
      · rename_i hk
        split at h
        · exact h.elim
        rename_i hz
        split at h
        · rename_i cs
          obtain ⟨h1, h2⟩ := h
          obtain ⟨w', h3, h4⟩ := wrFrom_run (P := P) h2
          exact key h1 hz w' h3 h4
        · exact h.elim
      · split at h
        · rename_i hs
          obtain ⟨h1, h2⟩ := stC_run (P := P) h
          have h0 := h.1
          refine key (by rw [cells_one h0, hs]; rfl) (by rw [hs]; simp) _ ?_ h2
          rw [cells_one h0]
          simp only [storeCells, Sem.run_bind, add_zero, h1, Result.andThen_ok, Sem.run_pure]
        · exact h.elim
    · exact h.elim
  · -- alloc
    rename_i t hop
    split at h
    · rename_i z hz
      refine wp_value ?_ (hK _ _ h)
      simp only [execOp, hop, Instr.alloc, Sem.run_bind, run_zero hz, Result.andThen_ok, newVar, newRow, run_newObj, Sem.run_pure, World.alloc_eq]
    · exact h.elim
  · -- box
    rename_i t x hop
    split at h
    · rename_i v hx
      refine wp_value ?_ (hK _ _ h)
      simp only [execOp, hop, hρ _ _ hx, Instr.box, Sem.run_bind, Result.andThen_ok, newVar, newRow, run_newObj, Sem.run_pure, World.alloc_eq]
    · exact h.elim
  · -- build
    rename_i t parts hop
    split at h
    · rename_i l z hl hz
      split at h
      · rename_i hcond
        obtain ⟨v, h1, h2⟩ := run_build (P := P) (w := w) (c := fun v => c v w) hz hcond.1 hcond.2 h (parts := parts.map fun (i, x) => (i, a.eval x)) (by simpa using opsOf_map hρ hl)
        refine wp_value ?_ (hK _ _ h2)
        simp only [execOp, hop, Sem.run_bind, h1, Result.andThen_ok, Sem.run_pure]
      · exact h.elim
    · exact h.elim
  · -- buildSlice
    rename_i t len parts hop
    split at h
    · rename_i e l ht hl
      split at h
      · exact h.elim
      rename_i hc
      have hc1 : ¬ len * szOf P e > 2 ^ 24 := fun h => hc (.inl h)
      cases hie : P.info? e with
      | none => exact absurd (.inr (by simp [hie])) hc
      | some i =>
        rw [szOf_eq hie] at h hc1
        split at h
        · rename_i z hz
          obtain ⟨cs, h1, h2, h3⟩ := fillE_run (place := fun k => some (k * i.size, i.size)) (fun _ _ hx => hx) h (by simp)
          refine wp_value ?_ (hK _ _ h2)
          have hparts : (parts.map fun (i, x) => (i, a.eval x)).toList = l := by simpa using opsOf_map hρ hl
          by_cases h0 : len * i.size = 0
          · rw [if_pos h0] at hz
            cases hz
            simp only [h0] at h1 hc1
            simp only [execOp, hop, Instr.buildSlice, Sem.run_bind, run_kOf ht, run_sizeOf hie, Result.andThen_ok, h0, hc1, if_false, if_true, Sem.run_pure, hparts, h1, newRow, run_newObj, World.alloc_eq]
          · rw [if_neg h0] at hz
            cases hzo : zOf P e with
            | none => simp [hzo] at hz
            | some zz =>
              simp [hzo] at hz
              subst hz
              simp only [execOp, hop, Instr.buildSlice, Sem.run_bind, run_kOf ht, run_sizeOf hie, Result.andThen_ok, h0, hc1, if_false, run_zero hzo, Sem.run_pure, hparts, h1, newRow, run_newObj, World.alloc_eq]
        · exact h.elim
    · exact h.elim
  · -- makeSlice
    rename_i t l k hop
    split at h
    · rename_i x y hx hy
      obtain ⟨v, w', h1, h2⟩ := runV_inv h
      obtain ⟨s, rfl, h3⟩ := toS_inv h2
      refine wp_value ?_ (hK _ _ h3)
      simp only [execOp, hop, hρ _ _ hx, hρ _ _ hy, Sem.run_bind, h1, Result.andThen_ok, Sem.run_pure]
    · exact h.elim
  · -- calls
    rename_i cl hop
    split at h
    · rename_i b hcb
      have ho' : o.op = .call { callee := .builtin b, args := cl.args, argTypes := cl.argTypes } := by rw [hop, ← hcb]
      obtain ⟨cs, hc⟩ := call_builtin (P := P) (a := a) (w := w) ho'
      split at h
      · rename_i vs hvs
        rw [opsL_arr hρ hvs] at hc
        split at h
        · obtain ⟨v, w', h1, h2⟩ := runV_inv h
          obtain ⟨s, rfl, h3⟩ := toS_inv h2
          refine wp_value ?_ (hK _ _ h3)
          rw [hc]; simp only [builtin, Sem.run_bind, h1, Result.andThen_ok, Sem.run_pure]
        · obtain ⟨v, w', h1, h2⟩ := runV_inv h
          obtain ⟨s, rfl, h3⟩ := toI_inv h2
          refine wp_value ?_ (hK _ _ h3)
          rw [hc]; simp only [builtin, Sem.run_bind, h1, Result.andThen_ok, Sem.run_pure]
        · obtain ⟨v, w', h1, h2⟩ := runV_inv h
          obtain ⟨s, rfl, h3⟩ := toI_inv h2
          refine wp_value ?_ (hK _ _ h3)
          rw [hc]; simp only [builtin, Sem.run_bind, h1, Result.andThen_ok, Sem.run_pure]
        · obtain ⟨v, w', h1, h2⟩ := runV_inv h
          refine wp_value ?_ (hK _ _ h2)
          rw [hc]; simp only [builtin, Sem.run_bind, h1, Result.andThen_ok, Sem.run_pure]
        · obtain ⟨v, w', h1, h2⟩ := runV_inv h
          refine wp_value ?_ (hK _ _ h2)
          rw [hc]; simp only [builtin, Sem.run_bind, h1, Result.andThen_ok, Sem.run_pure]
        · obtain ⟨t, v, h1, h2⟩ := ho _ _ _ _ h
          refine wp_panic (v := .iface t v) (w' := w) (fun c => by rw [hop]; intro h; cases h) ?_ (hq _ _ h2)
          rw [hc, h1]
          simp only [builtin]
          rfl
        · exact h.elim
      · exact h.elim
    · rename_i f hcb
      split at h
      · rename_i fv vs hf hvs
        have hcl : cl = { callee := .value f, args := cl.args, argTypes := cl.argTypes } := by rw [← hcb]
        unfold callF at h
        split at h
        · rename_i id first captured
          rcases ho _ _ _ _ h with ⟨h1, h2⟩ | ⟨v, w1, h1, h2⟩
          · have hrun : (execOp a.eval o).run P w = .ok (.enter id (first ++ vs.toArray ++ captured)) w := by
              rw [hcl] at hop
              simp only [execOp, hop, resolve, hρ _ _ hf, opsL_arr hρ hvs, Deferred.ofValue, Sem.run_bind, Sem.run_pure, Result.andThen_ok, invoke, run_callFunc h1]
            refine wp_of hrun (fun d hd => by cases hd) ⟨fun h => fen_depth ro h, callsIn_fen (h2.mono fun e w' he => ?_)⟩
            cases e with
            | returned v => exact hK _ _ (castT_inv he)
            | panicked ch => exact hq _ _ he
            | outgrown => exact he.elim
          · refine wp_value ?_ (hK _ _ (castT_inv h2))
            rw [hcl] at hop
            simp only [execOp, hop, resolve, hρ _ _ hf, opsL_arr hρ hvs, Deferred.ofValue, Sem.run_bind, Sem.run_pure, Result.andThen_ok, invoke, h1]
        · rename_i l first _
          obtain ⟨fn, tmps, assign, body, h1, h2⟩ := ho _ _ _ _ h
          have hrun : (execOp a.eval o).run P w = .ok (.round l fn tmps assign body) w := by
            rw [hcl] at hop
            simp only [execOp, hop, resolve, hρ _ _ hf, opsL_arr hρ hvs, Deferred.ofValue, Sem.run_bind, Sem.run_pure, Result.andThen_ok, invoke, h1]
          refine wp_of hrun (fun d hd => by cases hd) ⟨fun h => fen_depth ro h, roundIn_fen (h2.mono fun e w' he => ?_)⟩
          cases e with
          | returned v => exact hK _ _ (castT_inv he)
          | panicked ch => exact hq _ _ he
          | outgrown => exact he.elim
        · exact h.elim
      · exact h.elim
    · rename_i r name hcb
      split at h
      · rename_i rv vs hr hvs
        have hcl : cl = { callee := .invoke r name, args := cl.args, argTypes := cl.argTypes } := by rw [← hcb]
        unfold callM at h
        split at h
        · rename_i t v
          split at h
          · rename_i f x w1 hm
            have e0 : (#[Value.iface t v] ++ vs.toArray)[0]? = some (.iface t v) := by simp
            have e1 : (#[Value.iface t v] ++ vs.toArray).extract 1 (#[Value.iface t v] ++ vs.toArray).size = vs.toArray := by simp
            rcases ho _ _ _ _ h with ⟨h1, h2⟩ | ⟨u, w2, h1, h2⟩
            · have hrun : (execOp a.eval o).run P w = .ok (.enter f (#[x] ++ vs.toArray)) w1 := by
                rw [hcl] at hop
                simp only [execOp, hop, resolve, hρ _ _ hr, opsL_arr hρ hvs, Sem.run_bind, Sem.run_pure, Result.andThen_ok, invoke, e0, e1, callMethod, run_program, hm, run_callFunc h1]
              refine wp_of hrun (fun d hd => by cases hd) ⟨fun h => fen_depth ro h, callsIn_fen (h2.mono fun e w' he => ?_)⟩
              cases e with
              | returned v => exact hK _ _ (castT_inv he)
              | panicked ch => exact hq _ _ he
              | outgrown => exact he.elim
            · refine wp_value ?_ (hK _ _ (castT_inv h2))
              rw [hcl] at hop
              simp only [execOp, hop, resolve, hρ _ _ hr, opsL_arr hρ hvs, Sem.run_bind, Sem.run_pure, Result.andThen_ok, invoke, e0, e1, callMethod, run_program, hm, h1]
          · exact h.elim
        · exact h.elim
      · exact h.elim
  · -- makeMap
    rename_i t r hop
    split at h
    · obtain ⟨v, w', h1, h2⟩ := runV_inv h
      obtain ⟨s, rfl, h3⟩ := toM_inv h2
      refine wp_value ?_ (hK _ _ h3)
      simp only [execOp, hop, Option.map_none, Sem.run_bind, h1, Result.andThen_ok, Sem.run_pure]
    · split at h
      · rename_i r _ x hx
        obtain ⟨v, w', h1, h2⟩ := runV_inv h
        obtain ⟨s, rfl, h3⟩ := toM_inv h2
        refine wp_value ?_ (hK _ _ h3)
        simp only [execOp, hop, Option.map_some, hρ _ _ hx, Sem.run_bind, h1, Result.andThen_ok, Sem.run_pure]
      · exact h.elim
  · -- lookup
    rename_i t x i ok hop
    split at h
    · rename_i vx vi hx hi
      obtain ⟨v, w', h1, h2⟩ := runV_inv h
      refine wp_value ?_ (hK _ _ (castT_inv h2))
      simp only [execOp, hop, hρ _ _ hx, hρ _ _ hi, Sem.run_bind, h1, Result.andThen_ok, Sem.run_pure]
    · exact h.elim
  · -- mapUpdate
    rename_i t m k x hop
    split at h
    · rename_i vm vk vx hm hk hx
      unfold mapPut runU at h
      split at h
      · rename_i u w' hr
        refine wp_unit ?_ (hK _ _ h)
        simp only [execOp, hop, hρ _ _ hm, hρ _ _ hk, hρ _ _ hx, Sem.run_bind, hr, Result.andThen_ok, Sem.run_pure]
      · exact h.elim
    · exact h.elim
  · -- convert
    rename_i s d x hop
    split at h
    · rename_i vx hx
      obtain ⟨v, w', h1, h2⟩ := runV_inv h
      refine wp_value ?_ (hK _ _ (cast_inv h2))
      simp only [execOp, hop, hρ _ _ hx, Sem.run_bind, h1, Result.andThen_ok, Sem.run_pure]
    · exact h.elim
  · -- typeAssert
    rename_i x xt as ok hop
    split at h
    · rename_i vx hx
      obtain ⟨v, w', h1, h2⟩ := runV_inv h
      refine wp_value ?_ (hK _ _ (castT_inv h2))
      simp only [execOp, hop, hρ _ _ hx, Sem.run_bind, h1, Result.andThen_ok, Sem.run_pure]
    · exact h.elim
  · -- panic
    rename_i x hop
    split at h
    · rename_i vx hx
      obtain ⟨t, v, h1, h2⟩ := ho _ _ _ _ h
      have h1 : vx = .iface t v := by simpa using h1
      subst h1
      refine wp_panic (v := .iface t v) (w' := w) (fun c => by rw [hop]; intro h; cases h) ?_ (hq _ _ h2)
      simp only [execOp, hop, hρ _ _ hx]
      rfl
    · exact h.elim
  · exact h.elim
end

end Go.Ev
