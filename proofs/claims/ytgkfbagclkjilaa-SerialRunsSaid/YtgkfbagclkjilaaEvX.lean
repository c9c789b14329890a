/-
  Functions that defer a closure of their own; closures that recover.
-/
import Derived.Test.YtgkfbagclkjilaaEvH
import Derived.Recover
set_option linter.unusedVariables false
namespace Go.Ev
open Go

section
variable {P : Program}

def exN : Ex → Bool | .normal => true | _ => false
theorem evSpine_sound {orc : Oracle} {mask : Nat} {ro : Option Nat} {n0 : Nat} {q : Pan} (hm : P.follows .mixedOrders = true) (ho : OrcOK P orc q) {c : Code} : ∀ (pre : List AC) (e : Env) (w : World) (a : Act) (k : Ex → Env → World → Prop) (Q : Exit → Act → World → Prop),
    (∀ ch a' w', a'.defers = a.defers → q ch w' → Q (.panic ch) a' w') → Sub e a → (pre.all fun x => x.fits a.tmps.size) = true → evSpine P orc mask pre e w k →
    (∀ x e' w' a', exN x = false → k x e' w' → Sub e' a' → a'.defers = a.defers → Q (exOf x) a' w') →
    (∀ e' w' a', k .normal e' w' → Sub e' a' → a'.tmps.size = a.tmps.size → a'.defers = a.defers → c.wpIn (fen ro) n0 P Q a' w') → (spine pre c).wpIn (fen ro) n0 P Q a w
  | [], e, w, a, k, Q, hq, hs, _, h, _, hN => hN e w a h hs rfl rfl
  | x :: pre, e, w, a, k, Q, hq, hs, hf, h, hX, hN => by
    unfold evSpine at h
    simp only [List.all_cons, Bool.and_eq_true] at hf
    unfold spine
    refine wpIn_seq (ev_sound hm ho x e w a _ _ (by exact fun ch a' w' hd h => hq ch a' w' hd.2.1 h) hs hf.1 h fun z e' w' a' hk hs' hkp => ?_)
    cases z with
    | normal =>
      exact evSpine_sound hm ho pre e' w' a' k Q (fun ch a2 w2 hd h => hq ch a2 w2 (hd.trans hkp.2.1) h) hs' (by rw [hkp.1]; exact hf.2) hk
        (fun z e2 w2 a2 hz h1 h2 h3 => hX z e2 w2 a2 hz h1 h2 (h3.trans hkp.2.1)) fun e2 w2 a2 h1 h2 h3 h4 => hN e2 w2 a2 h1 h2 (h3.trans hkp.1) (h4.trans hkp.2.1)
    | exit id => exact hX (.exit id) e' w' a' rfl hk hs' hkp.2.1
    | ret => exact hX .ret e' w' a' rfl hk hs' hkp.2.1

theorem results_run {fn : Func} {e : Env} {w : World} {a : Act} {rks : List K} {c : KT rks → World → Prop} (hs : Sub e a) (h : resL P fn.results.toList e w fun l => unL rks l fun x => c x w) :
    ∃ x, (results fn a.tmps).run P w = .ok (packV (valL rks x)) w ∧ c x w := by
  obtain ⟨l, hc, hrun⟩ := resL_run hs h
  obtain ⟨y, rfl, hc'⟩ := unL_inv hc
  refine ⟨y, ?_, hc'⟩
  have he : results fn a.tmps = (do
      let vs ← fn.results.mapM (resS a)
      pure (if h : vs.size = 1 then vs[0] else .tuple vs)) := by
    have hfun : (fun x => (match x with | .tmp t => pure (a.tmps.getD t undef) | .cell p t => do loadVar t (← asAddr (a.tmps.getD p undef)) : Sem Value)) = resS a := by
      funext r; cases r <;> rfl
    unfold results
    rw [← hfun]
    rfl
  rw [he, Array.mapM_eq_mapM_toList]
  simp only [Sem.run_bind, Sem.run_map, hrun, Result.andThen_ok, Sem.run_pure]
  rw [pack_eq]

/-- the two operations by which a closure is deferred -/
structure DfrOps (mk df : Oper) (d : Nat) (g : FuncId) (caps : List Operand) : Prop where
  mko : mk.op = .makeFunc (.func g) #[] caps.toArray
  mkd : mk.dst = some d
  mkg : mk.guard = none
  dfo : df.op = .defer { callee := .value (.tmp d), args := #[], argTypes := #[] }
  dfd : df.dst = none
  dfg : df.guard = none
/-- a closure that is deferred: what it does while the function returns, and while it panics -/
def DR (P : Program) (g : FuncId) (dR : List Value → World → (World → Prop) → Prop) : Prop :=
  ∀ l w k, dR l w k → (∃ fn, P.funcs[g]? = some fn ∧ fn.body.isSome = true ∧ (fn.name == "runtime.NumGoroutine") = false) ∧ CallsD P g l.toArray .returning w fun e u w' => (∃ v, e = .returned v) ∧ u = .returning ∧ k w'
def DP (P : Program) (g : FuncId) (dP : List Value → Value → World → (World → Prop) → Prop) : Prop :=
  ∀ l v w k, dP l v w k → (∃ fn, P.funcs[g]? = some fn ∧ fn.body.isSome = true ∧ (fn.name == "runtime.NumGoroutine") = false) ∧ CallsD P g l.toArray (.panicking [{ v := v, recovered := false }]) w fun e u w' => (∃ v, e = .returned v) ∧ settle u = .returning ∧ k w'

theorem sound_x {f : FuncId} {fn : Func} {mask : Nat} {orc : Oracle} {orcq : (Value → World → Prop) → Oracle} {dR : List Value → World → (World → Prop) → Prop} {dP : List Value → Value → World → (World → Prop) → Prop}
    {pre : List AC} {rid d : Nat} {g : FuncId} {caps : List Operand} {mk df : Oper} {post : AC} (hm : P.follows .mixedOrders = true) (hf : P.funcs[f]? = some fn)
    (hbody : fn.body = some (spine pre (.seq (.region rid #[mk, df] false) post.code))) (hops : DfrOps mk df d g caps) (hname : (fn.name == "runtime.NumGoroutine") = false)
    (hfit : ((pre.all fun x => x.fits fn.ntmps) && post.fits fn.ntmps && Nat.blt d fn.ntmps) = true)
    (ho : OrcOK P orc NoPan) (hq : ∀ q, OrcOK P (orcq q) (pan1 q)) (hR : DR P g dR) (hP : DP P g dP) (aks rks : List K) (hle : Nat.ble aks.length fn.ntmps = true)
    (F : KT aks → World → (KT rks → World → Prop) → Prop) (hl : ∀ x w c, evFnX P orc orcq dR dP mask pre d g caps post fn rks (valL aks x) w c = F x w c) :
    Sound P f fun args w c => unL aks args fun x => F x w fun r w => c (packV (valL rks r)) w := by
  refine ⟨⟨fn, hf, by rw [hbody]; rfl, hname⟩, fun args w c hd => ?_⟩
  obtain ⟨x, hx, hF⟩ := unL_inv hd
  have hlen : (valL aks x).length = aks.length := by
    have : ∀ (ks : List K) (x : KT ks), (valL ks x).length = ks.length := by
      intro ks
      induction ks with
      | nil => intro x; rfl
      | cons k r ih =>
        intro x
        cases r with
        | nil => rfl
        | cons y r => show (valL (y :: r) x.2).length + 1 = _; rw [ih]; rfl
    exact this aks x
  rw [← hl] at hF
  unfold evFnX at hF
  have hle := Nat.le_of_ble_eq_true hle
  have hsz : args.size ≤ fn.ntmps := by
    have : args.toList.length = aks.length := by rw [hx, hlen]
    rw [Array.length_toList] at this; omega
  simp only [Bool.and_eq_true] at hfit
  obtain ⟨⟨hfit1, hfit2⟩, hfit3⟩ := hfit
  have hdlt : d < fn.ntmps := by simpa [Nat.blt_eq] using hfit3
  refine calls_of_wp_defers hf hbody ?_
  have hsz2 : (args ++ Array.replicate (fn.ntmps - args.size) undef).size = fn.ntmps := by simp; omega
  have hsub : Sub (argEnv 0 (valL aks x)) { tmps := args ++ Array.replicate (fn.ntmps - args.size) undef, defers := [] } := by
    refine argEnv_ok _ 0 _ fun i v hv => ?_
    rw [← hx] at hv
    have hv' : args[i]? = some v := by simpa using hv
    have hi : i < args.size := (Array.getElem?_eq_some_iff.1 hv').1
    simp only [Nat.zero_add]
    rw [Array.getElem?_append_left hi]
    exact hv'
  refine wpIn_wide.1 (evSpine_sound (ro := none) (n0 := 0) (mask := mask) hm ho pre _ w _ _ _ (fun _ _ _ _ h => h.elim) hsub (by rw [hsz2]; exact hfit1) hF (fun z e' w' a' hz hk hs' hd' => ?_) fun e' w' a' hk hs' hsz' hd' => ?_)
  · have hd0 : a'.defers = [] := hd'
    have fin : (resL P fn.results.toList e' w' fun l => unL rks l fun x => c (packV (valL rks x)) w') → Leaves P fn a'.tmps (fun e w' => ∃ v, e = .returned v ∧ c v w') a'.defers .returning w' := by
      intro hr
      obtain ⟨y, hrun, hc⟩ := results_run (c := fun x w => c (packV (valL rks x)) w) hs' hr
      rw [hd0]
      exact ⟨_, hrun, _, rfl, hc⟩
    cases z with
    | normal => cases hz
    | ret => exact fin hk
    | exit id => exact hk.elim
  · have hd0 : a'.defers = [] := hd'
    have hsz3 : a'.tmps.size = fn.ntmps := by rw [hsz', hsz2]
    dsimp only at hk
    split at hk
    · rename_i l hcaps
      rw [forceE_eq] at hk
      have hcl := opsL_arr (op_agree hs') hcaps
      refine wpIn_seq (wpIn_region_list ?_)
      unfold wpListIn
      rw [if_pos (wanted_none hops.mkg _)]
      have hcl' : caps.toArray.map a'.eval = l.toArray := hcl
      have hv : (execOp a'.eval mk).run P w' = .ok (.value (.func (.func g) #[] l.toArray)) w' := by
        have h0 : (#[] : Array Operand).map a'.eval = #[] := by simp
        simp only [execOp, hops.mko, Instr.makeFunc, hcl', h0, Sem.run_bind, Sem.run_pure, Result.andThen_ok]
      refine wp_value hv ?_
      have hd' : d < a'.tmps.size := by rw [hsz3]; exact hdlt
      have hsub2 : Sub (e'.put d (.func (.func g) #[] l.toArray)) (a'.put mk.dst (.func (.func g) #[] l.toArray)) := by
        rw [hops.mkd]
        exact putq_ok (d := some d) (v := .func (.func g) #[] l.toArray) hs' (fun x hx => by cases hx; exact hd')
      have hev : (a'.put mk.dst (.func (.func g) #[] l.toArray)).eval (.tmp d) = .func (.func g) #[] l.toArray := by
        refine op_agree hsub2 (.tmp d) _ ?_
        simp [Env.op, Env.put, Env.find]
      generalize ha2 : a'.put mk.dst (.func (.func g) #[] l.toArray) = a2 at *
      have hd2 : a2.defers = [] := by rw [← ha2, put_defers]; exact hd0
      have hsz4 : a2.tmps.size = fn.ntmps := by rw [← ha2, put_size]; exact hsz3
      unfold wpListIn
      rw [if_pos (wanted_none hops.dfg _)]
      refine ⟨fun f _ => fen_fn none f, ?_⟩
      have hrun : (df.semAt (fen none).round a2.eval).run P w' = .ok (.defer { target := .fn (.func g) l.toArray, args := #[] }) w' := by
        show (execOp a2.eval df).run P w' = _
        have h0 : (#[] : Array Operand).map a2.eval = #[] := by simp
        simp only [execOp, hops.dfo, resolve, h0, hev, Deferred.ofValue, Sem.run_bind, Sem.run_pure, Result.andThen_ok]
        rfl
      rw [hrun]
      simp only [Oper.uponIn, hops.dfd, Act.put, hd2]
      unfold wpListIn
      show post.code.wpIn _ _ _ _ _ _
      have res : ∀ {e3 w3} {a3 : Act}, Sub e3 a3 → (resL P fn.results.toList e3 w3 fun l => unL rks l fun x => c (packV (valL rks x)) w3) → Leaves P fn a3.tmps (fun e w' => ∃ v, e = .returned v ∧ c v w') [] .returning w3 := by
        intro e3 w3 a3 hs3 hr
        obtain ⟨y, hrun, hc⟩ := results_run (c := fun x w => c (packV (valL rks x)) w) hs3 hr
        exact ⟨_, hrun, _, rfl, hc⟩
      have hinv : ∀ w3, (∃ fn, P.funcs[g]? = some fn ∧ fn.body.isSome = true ∧ (fn.name == "runtime.NumGoroutine") = false) → (invoke (.fn (.func g) l.toArray) #[]).run P w3 = .ok (.enter g l.toArray) w3 := by
        intro w3 hg
        have : (#[] : Array Value) ++ l.toArray = l.toArray := by simp
        simp only [invoke, this]
        exact run_callFunc hg
      refine ev_sound hm (hq _) post _ w' { tmps := a2.tmps, defers := [{ target := .fn (.func g) l.toArray, args := #[] }] } _ _ (fun ch a3 w3 hk3 hp => ?_) hsub2 (by rw [hsz4]; exact hfit2) hk fun z e3 w3 a3 hk3 hs3 hkp3 => ?_
      · obtain ⟨v, rfl, hdp⟩ := hp
        obtain ⟨hg, hcall⟩ := hP _ _ _ _ hdp
        show Leaves P fn a3.tmps _ a3.defers (.panicking [{ v := v, recovered := false }]) w3
        rw [hk3.2.1]
        refine ⟨by simp, .func g, l.toArray, g, l.toArray, rfl, hinv _ hg, hcall.mono fun e u w4 he => ?_⟩
        obtain ⟨⟨v', rfl⟩, hu, hr⟩ := he
        dsimp only
        rw [hu]
        have hsub3 : Sub (e'.put d (.func (.func g) #[] l.toArray)) { tmps := a2.tmps, defers := [{ target := .fn (.func g) l.toArray, args := #[] }] } := hsub2
        exact res (unw_ok hsub3 hk3) hr
      · have fin : (dR l w3 fun w => resL P fn.results.toList e3 w fun l => unL rks l fun x => c (packV (valL rks x)) w) → Leaves P fn a3.tmps (fun e w' => ∃ v, e = .returned v ∧ c v w') a3.defers .returning w3 := by
          intro hdr
          obtain ⟨hg, hcall⟩ := hR _ _ _ hdr
          rw [hkp3.2.1]
          refine ⟨by simp, .func g, l.toArray, g, l.toArray, rfl, hinv _ hg, hcall.mono fun e u w4 he => ?_⟩
          obtain ⟨⟨v', rfl⟩, hu, hr⟩ := he
          dsimp only
          rw [hu]
          exact res hs3 hr
        cases z with
        | normal => exact fin hk3
        | ret => exact fin hk3
        | exit id => exact hk3.elim
    · exact hk.elim

/-! ### the deferred closure -/
theorem dfr_ok {g : FuncId} {fn : Func} {mask : Nat} {orc : Oracle} {c : AC} {n : Nat} (hm : P.follows .mixedOrders = true) (hf : P.funcs[g]? = some fn) (hb : fn.body = some c.code) (hname : (fn.name == "runtime.NumGoroutine") = false)
    (hres : fn.results = #[]) (hfit : c.fits fn.ntmps = true) (hle : Nat.ble n fn.ntmps = true) (ho : OrcOK P orc NoPan) :
    DR P g fun l w k => l.length = n ∧ evDfr P orc mask c l w k := fun l w k ⟨hl, h⟩ => by
  refine ⟨⟨fn, hf, by rw [hb]; rfl, hname⟩, ?_⟩
  have hle := Nat.le_of_ble_eq_true hle
  have hsz : l.toArray.size ≤ fn.ntmps := by simp; omega
  refine (callsD_of_wp (R := fun e w' => (∃ v, e = .returned v) ∧ k w') hf hb ?_).mono fun e u w' ⟨h1, h2, h3⟩ => ⟨h2, h1, h3⟩
  refine wpIn_wide.1 (ev_sound (ro := none) (n0 := 0) (mask := mask) hm ho c (argEnv 0 l) w _ _ _ (fun _ _ _ _ h => h.elim) ?_ ?_ h fun z e' w' a' hk hs hkp => ?_)
  · refine argEnv_ok _ 0 _ fun i v hv => ?_
    have hi : i < l.length := (List.getElem?_eq_some_iff.1 hv).1
    simp only [Nat.zero_add]
    rw [Array.getElem?_append_left (by simpa using hi)]
    simpa using hv
  · have : (l.toArray ++ Array.replicate (fn.ntmps - l.toArray.size) undef).size = fn.ntmps := by simp; omega
    rw [this]; exact hfit
  · have hr : (results fn a'.tmps).run P w' = .ok (.tuple #[]) w' := by
      unfold results
      rw [hres]
      simp
    cases z with
    | normal => exact ⟨hkp.2.1, _, hr, ⟨_, rfl⟩, hk⟩
    | ret => exact ⟨hkp.2.1, _, hr, ⟨_, rfl⟩, hk⟩
    | exit id => exact hk.elim
/-- the two operations by which a closure recovers -/
structure RcvOps (rc as_ : Oper) (r s : Nat) : Prop where
  rco : rc.op = .call { callee := .builtin .recover, args := #[], argTypes := #[] }
  rcd : rc.dst = some r
  rcg : rc.guard = none
  aso : as_.op = .assign (.tmp r)
  asd : as_.dst = some s
  asg : as_.guard = none
theorem recv_ok {g : FuncId} {fn : Func} {mask rid : Nat} {orc : Oracle} {rc as_ : Oper} {r s : Nat} {rest : AC} {n : Nat} (hm : P.follows .mixedOrders = true) (hf : P.funcs[g]? = some fn) (hb : fn.body = some (.seq (.region rid #[rc, as_] false) rest.code)) (hname : (fn.name == "runtime.NumGoroutine") = false)
    (hres : fn.results = #[]) (hfit : (rest.fits fn.ntmps && Nat.blt r fn.ntmps && Nat.blt s fn.ntmps) = true) (hle : Nat.ble n fn.ntmps = true) (hops : RcvOps rc as_ r s) (ho : OrcOK P orc NoPan) {u u' : FrameMode} {rv : Value}
    (hu : ∀ (c : Frame) cs, c.mode = u → (recoverD (c :: cs) = some (rv, { c with mode := u' } :: cs) ∨ (recoverD (c :: cs) = none ∧ rv = .nilIface ∧ u' = u)))
    {l : List Value} {w : World} {k : World → Prop} (hl : l.length = n) (h : evRecv P orc mask r s rest l rv w k) :
    (∃ fn, P.funcs[g]? = some fn ∧ fn.body.isSome = true ∧ (fn.name == "runtime.NumGoroutine") = false) ∧ CallsD P g l.toArray u w fun e u2 w' => (∃ v, e = .returned v) ∧ u2 = u' ∧ k w' := by
  refine ⟨⟨fn, hf, by rw [hb]; rfl, hname⟩, ?_⟩
  have hle := Nat.le_of_ble_eq_true hle
  simp only [Bool.and_eq_true, Nat.blt_eq] at hfit
  obtain ⟨⟨hfit1, hr⟩, hs⟩ := hfit
  have hsz : l.toArray.size ≤ fn.ntmps := by simp; omega
  refine callsD_of_wpS hf hb fun c₀ cs hc => ?_
  have hsz2 : (l.toArray ++ Array.replicate (fn.ntmps - l.toArray.size) undef).size = fn.ntmps := by simp; omega
  have hsub : Sub (argEnv 0 l) { tmps := l.toArray ++ Array.replicate (fn.ntmps - l.toArray.size) undef, defers := [] } := by
    refine argEnv_ok _ 0 _ fun i v hv => ?_
    have hi : i < l.length := (List.getElem?_eq_some_iff.1 hv).1
    simp only [Nat.zero_add]
    rw [Array.getElem?_append_left (by simpa using hi)]
    simpa using hv
  generalize ha0 : ({ tmps := l.toArray ++ Array.replicate (fn.ntmps - l.toArray.size) undef, defers := [] } : Act) = a0 at *
  have hsz3 : a0.tmps.size = fn.ntmps := by rw [← ha0]; exact hsz2
  have hd0 : a0.defers = [] := by rw [← ha0]
  have hsub1 : Sub ((argEnv 0 l).put r rv) (a0.put (some r) rv) := put_ok hsub (by omega)
  have hsub2 : Sub (((argEnv 0 l).put r rv).put s rv) ((a0.put (some r) rv).put (some s) rv) := put_ok hsub1 (by rw [put_size]; omega)
  have hev : (a0.put (some r) rv).eval (.tmp r) = rv := by
    refine op_agree hsub1 (.tmp r) _ ?_
    simp [Env.op, Env.put, Env.find]
  unfold evRecv at h
  rw [forceE_eq] at h
  have post : rest.code.wpS P (bodyPostS P fn c₀ cs fun e u2 w' => (∃ v, e = .returned v) ∧ u2 = u' ∧ k w') ((a0.put (some r) rv).put (some s) rv) ({ c₀ with mode := u' } :: cs) w := by
    refine wpS_of_wp (wpIn_wide.1 (ev_sound (ro := none) (n0 := 0) (mask := mask) hm ho rest _ w _ _ _ (fun _ _ _ _ h => h.elim) hsub2 (by rw [put_size, put_size, hsz3]; exact hfit1) h fun z e' w' a' hk hs' hkp => ?_))
    have hdf : a'.defers = [] := by rw [hkp.2.1, put_defers, put_defers]; exact hd0
    have hr : (results fn a'.tmps).run P w' = .ok (.tuple #[]) w' := by
      unfold results
      rw [hres]
      simp
    cases z with
    | normal => exact ⟨hdf, u', rfl, _, hr, ⟨_, rfl⟩, rfl, hk⟩
    | ret => exact ⟨hdf, u', rfl, _, hr, ⟨_, rfl⟩, rfl, hk⟩
    | exit id => exact hk.elim
  refine wpS_seq (wpS_region ?_)
  show wpOpsS P #[rc, as_] _ [0, 1] a0 (c₀ :: cs) w
  have hwr : ∀ o : Oper, o.guard = none → ∀ y, Region.wanted o y = true := fun o ho y => wanted_none ho y
  have hrun0 : (execOp a0.eval rc).run P w = .ok .recover w := by
    obtain ⟨cs0, hc0⟩ := call_builtin (P := P) (a := a0) (w := w) hops.rco
    rw [hc0]; rfl
  have hrun1 : (execOp (a0.put (some r) rv).eval as_).run P w = .ok (.value rv) w := by
    simp only [execOp, hops.aso, hev, Sem.run_pure]
  have fin : wpOpsS P #[rc, as_] (Exit.thenS (rest.code.wpS P (bodyPostS P fn c₀ cs fun e u2 w' => (∃ v, e = .returned v) ∧ u2 = u' ∧ k w')) (bodyPostS P fn c₀ cs fun e u2 w' => (∃ v, e = .returned v) ∧ u2 = u' ∧ k w')) [1] (a0.put rc.dst rv) ({ c₀ with mode := u' } :: cs) w := by
    rw [hops.rcd]
    unfold wpOpsS
    simp only [List.getElem?_toArray, List.getElem?_cons_succ, List.getElem?_cons_zero, hwr _ hops.asg, if_true, hrun1, Oper.upon]
    unfold wpOpsS
    rw [hops.asd]
    exact post
  unfold wpOpsS
  simp only [List.getElem?_toArray, List.getElem?_cons_zero, hwr _ hops.rcg, if_true, hrun0]
  rcases hu c₀ cs hc with hrec | ⟨hrec, rfl, rfl⟩
  · rw [hrec]; exact fin
  · rw [hrec]
    have : ({ c₀ with mode := u' } : Frame) = c₀ := by rw [← hc]
    rw [this] at fin
    exact fin
/-- while the function returns, there is nothing to recover -/
theorem recv_ret {g : FuncId} {fn : Func} {mask rid : Nat} {orc : Oracle} {rc as_ : Oper} {r s : Nat} {rest : AC} {n : Nat} (hm : P.follows .mixedOrders = true) (hf : P.funcs[g]? = some fn) (hb : fn.body = some (.seq (.region rid #[rc, as_] false) rest.code)) (hname : (fn.name == "runtime.NumGoroutine") = false)
    (hres : fn.results = #[]) (hfit : (rest.fits fn.ntmps && Nat.blt r fn.ntmps && Nat.blt s fn.ntmps) = true) (hle : Nat.ble n fn.ntmps = true) (hops : RcvOps rc as_ r s) (ho : OrcOK P orc NoPan) :
    DR P g fun l w k => l.length = n ∧ evRecv P orc mask r s rest l .nilIface w k := fun l w k ⟨hl, h⟩ =>
  recv_ok (u := .returning) (u' := .returning) hm hf hb hname hres hfit hle hops ho (fun c cs hc => .inr ⟨by simp [recoverD, hc], rfl, rfl⟩) hl h
/-- while it panics, the panic is recovered -/
theorem recv_pan {g : FuncId} {fn : Func} {mask rid : Nat} {orc : Oracle} {rc as_ : Oper} {r s : Nat} {rest : AC} {n : Nat} (hm : P.follows .mixedOrders = true) (hf : P.funcs[g]? = some fn) (hb : fn.body = some (.seq (.region rid #[rc, as_] false) rest.code)) (hname : (fn.name == "runtime.NumGoroutine") = false)
    (hres : fn.results = #[]) (hfit : (rest.fits fn.ntmps && Nat.blt r fn.ntmps && Nat.blt s fn.ntmps) = true) (hle : Nat.ble n fn.ntmps = true) (hops : RcvOps rc as_ r s) (ho : OrcOK P orc NoPan) :
    DP P g fun l v w k => l.length = n ∧ evRecv P orc mask r s rest l v w k := fun l v w k ⟨hl, h⟩ => by
  have := recv_ok (u := .panicking [{ v := v, recovered := false }]) (u' := .panicking [{ v := v, recovered := true }]) hm hf hb hname hres hfit hle hops ho (fun c cs hc => .inl (by simp [recoverD, hc])) hl h
  exact ⟨this.1, this.2.mono fun e u w' ⟨h1, h2, h3⟩ => ⟨h1, by rw [h2]; rfl, h3⟩⟩
end

end Go.Ev
