/-
  The evaluator, outer code: ranges over functions; what is put off to a function's end.
-/
import Derived.Test.YtgkfbagclkjilaaEvH
import Derived.RangeFuncFrom
import Derived.RangeFuncLeaves
import Derived.ScopeJumps
set_option linter.unusedVariables false
set_option linter.unusedSimpArgs false
namespace Go.Ev
open Go Go.RowKit

def hasRange : Code → Bool
  | .rangeFunc _ _ _ _ => true
  | .goto _ => true
  | .seq a b => hasRange a || hasRange b
  | .cond _ a b => hasRange a || hasRange b
  | .block _ a => hasRange a
  | .loop a => hasRange a
  | .scope a => hasRange a
  | _ => false

/-- an assignment to a loop's left sides that only copies: to, from -/
def asgOf : Code → List (Nat × Nat)
  | .region _ ops _ => match ops[0]? with | some o => (match o.op, o.dst with | .assign (.tmp s), some d => [(d, s)] | _, _ => []) | none => []
  | .seq a b => asgOf a ++ asgOf b
  | _ => []
def asgOK : Code → Bool
  | .skip => true
  | .region _ ops false => match ops.toList with | [o] => (match o.op, o.dst, o.guard with | .assign (.tmp _), some _, none => true | _, _, _ => false) | _ => false
  | .seq a b => asgOK a && asgOK b
  | _ => false
inductive AC2 where
  | base (a : AC)
  | seq (a b : AC2)
  | cond (c : Operand) (a b : AC2)
  | block (id : Nat) (a : AC2)
  | loop (ks : List (Nat × K)) (a : AC2)
  | join (ks : List (Nat × K)) (a : AC2)
  | scope (a : AC2)
  | goto (l : Nat)
  | scopeJ (ks : List (Nat × K)) (l : Nat) (p q : AC2)
  | range (ks : List (Nat × K)) (f : Operand) (ps : Array Tmp) (as : List (Nat × Nat)) (assign : Code) (body : AC)

mutual
def AC2.code : AC2 → Code
  | .base a => a.code
  | .seq a b => .seq a.code b.code
  | .cond c a b => .cond c a.code b.code
  | .block id a => .block id a.code
  | .loop _ a => .loop a.code
  | .join _ a => a.code
  | .scope a => .scope a.code
  | .range _ f ps _ a b => .rangeFunc f ps a b.code
  | .goto l => .goto l
  | .scopeJ _ l p q => .scope (graftC p (.seq (.label l) q.code))
/-- a list of pieces ahead of code -/
def graftC : AC2 → Code → Code
  | .seq a r, t => .seq a.code (graftC r t)
  | _, t => t
end
def isList : AC2 → Bool
  | .seq _ r => isList r
  | .base .skip => true
  | _ => false
def noLab (l : Nat) : AC2 → Bool
  | .seq a r => (findLabel a.code l).isNone && noLab l r
  | _ => true
/-- what lies ahead of a label, and behind it -/
def toJ : AC2 → Option (AC2 × Nat × AC2)
  | .seq a b => match b with
    | .seq (.base (.label l)) q => some (.seq a (.base .skip), l, q)
    | b => match toJ b with | some (p, l, q) => some (.seq a p, l, q) | none => none
  | _ => none
theorem toJ_code : ∀ (x : AC2) {p q : AC2} {l : Nat}, toJ x = some (p, l, q) → x.code = graftC p (.seq (.label l) q.code)
  | .seq a b, p, q, l, h => by
    unfold toJ at h
    split at h
    · cases h; rfl
    · split at h
      · rename_i heq
        cases h
        have := toJ_code b heq
        simp only [AC2.code, graftC, this]
      · cases h
  | .base _, _, _, _, h | .cond .., _, _, _, h | .block .., _, _, _, h | .loop .., _, _, _, h | .join .., _, _, _, h | .scope _, _, _, _, h | .goto _, _, _, _, h | .scopeJ .., _, _, _, h | .range .., _, _, _, h => by cases h

def joined2 (h : Hints) (n : Nat) (a : AC2) : AC2 := match h.at n with | some ks => .join ks a | none => a
def annot2 (h : Hints) : Code → Nat → AC2 × Nat
  | .seq a b, n => if hasRange a || hasRange b then (match annot2 h a n with | (x, n) => match annot2 h b n with | (y, n) => (.seq x y, n)) else (.base (annot h (.seq a b) n).1, (annot h (.seq a b) n).2)
  | .cond c a b, n => if hasRange a || hasRange b then (match annot2 h a (n + 1) with | (x, m) => match annot2 h b m with | (y, m) => (joined2 h n (.cond c x y), m)) else (.base (annot h (.cond c a b) n).1, (annot h (.cond c a b) n).2)
  | .block id a, n => if hasRange a then (match annot2 h a (n + 1) with | (x, m) => (joined2 h n (.block id x), m)) else (.base (annot h (.block id a) n).1, (annot h (.block id a) n).2)
  | .loop a, n => if hasRange a then (match annot2 h a (n + 1) with | (x, m) => (.loop ((h.at n).getD []) x, m)) else (.base (annot h (.loop a) n).1, (annot h (.loop a) n).2)
  | .goto l, n => (.goto l, n)
  | .scope a, n => if hasRange a then (match annot2 h a (n + 1) with | (x, m) => (match toJ x with | some (p, l, q) => (.scopeJ ((h.at n).getD []) l p q, m) | none => (.scope x, m))) else (.base (annot h (.scope a) n).1, (annot h (.scope a) n).2)
  | .rangeFunc f ps a b, n => match annot h a (n + 1) with | (x, m) => match annot h b m with | (y, m) => (.range ((h.at n).getD []) f ps (asgOf a) a y, m)
  | c, n => (.base (annot h c n).1, (annot h c n).2)
theorem joined2_code (h : Hints) (n : Nat) (a : AC2) : (joined2 h n a).code = a.code := by
  unfold joined2; split <;> rfl
theorem annot2_code (h : Hints) (c : Code) : ∀ n, (annot2 h c n).1.code = c := by
  induction c with
  | seq a b iha ihb => intro n; unfold annot2; split <;> simp [AC2.code, iha, ihb, annot_code]
  | cond c a b iha ihb => intro n; unfold annot2; split <;> simp [joined2_code, AC2.code, iha, ihb, annot_code]
  | block id a ih => intro n; unfold annot2; split <;> simp [joined2_code, AC2.code, ih, annot_code]
  | loop a ih => intro n; unfold annot2; split <;> simp [AC2.code, ih, annot_code]
  | scope a ih =>
    intro n
    unfold annot2
    split
    · simp only
      split
      · rename_i heq
        have := toJ_code _ heq
        simp only [AC2.code, ← this, ih]
      · simp only [AC2.code, ih]
    · simp [AC2.code, annot_code]
  | goto l => intro n; rfl
  | rangeFunc f ps a b iha ihb => intro n; simp [annot2, AC2.code, annot_code]
  | _ => intro n; simp [annot2, AC2.code, annot_code]

def AC2.writes : AC2 → Nat → Bool
  | .base a, s => a.writes s
  | .seq a b, s => a.writes s || b.writes s
  | .cond _ a b, s => a.writes s || b.writes s
  | .block _ a, s => a.writes s
  | .loop _ a, s => a.writes s
  | .join _ a, s => a.writes s
  | .scope a, s => a.writes s
  | .range _ _ _ _ _ _, _ => false
  | .goto _, _ => false
  | .scopeJ _ _ p q, s => p.writes s || q.writes s
def AC2.fits (n : Nat) : AC2 → Bool
  | .base a => a.fits n
  | .seq a b => a.fits n && b.fits n
  | .cond _ a b => a.fits n && b.fits n
  | .block _ a => a.fits n
  | .loop _ a => a.fits n
  | .join _ a => a.fits n
  | .scope a => a.fits n
  | .goto _ => true
  | .scopeJ _ l p q => p.fits n && q.fits n && isList p && noLab l p
  | .range ks _ ps as a b => b.fits n && asgOK a && decide (asgOf a = as) && as.all (fun p => Nat.blt p.1 n) && decide (ks.map (·.1) = ps.toList) && ps.toList.all (fun p => Nat.blt p n) && decide (ps.toList.Nodup)

/-- iterators, as what they come to, whatever yield is -/
abbrev OrcI := FuncId → (Nat → Dec) → Dec
/-- a range over a function: block D for what is put off, block l for the loop's record; the iterator is carried out, its yields the rounds -/
def rangeF (I : OrcI) (kk : List K) (v : Value) (w : World) (body : KT kk → World → (World → Prop) → Prop) (fin : Nat → World → Prop) : Prop :=
  match v with
  | .func (.func gf) first lb => ∀ R : LoopState → Obj, (∀ s, (R s).isCells = false) →
    I gf (fun l args w1 c => l = w.heap.size + 1 ∧ w1.heap[w.heap.size + 1]? = some (R .ready) ∧ unL kk args fun y => body y (w1.putObj (w.heap.size + 1) (R .busy)) fun w4 => w4.heap[w.heap.size + 1]? = some (R .busy) ∧ c (.bool true) (w4.putObj (w.heap.size + 1) (R .ready)))
      (first.toList ++ (.func (.yield (w.heap.size + 1)) #[] #[] :: lb.toList)) ((w.alloc (.deferred (some []))).alloc (R .ready))
      (fun _ w5 => w5.heap[w.heap.size + 1]? = some (R .ready) ∧ fin w.heap.size (w5.putObj (w.heap.size + 1) (R .exhausted)))
  | _ => False

def envK : (ks : List (Nat × K)) → KT (ks.map (·.2)) → Env
  | [], _ => []
  | [(s, k)], x => [(s, .val (k.v x))]
  | (s, k) :: (y :: r), x => (s, .val (k.v x.1)) :: envK (y :: r) x.2
def Env.vals (e : Env) (ps : Array Tmp) : Env := e.filter fun (s, x) => !(ps.contains s) && (match x with | .val _ => true | _ => false)
def Env.unw2 (e : Env) (a : AC2) : Env := e.filter fun (s, x) => !(a.writes s) && (match x with | .val _ => true | _ => false)

/-- copies -/
def applyE : List (Nat × Nat) → Env → (Env → Prop) → Prop
  | [], e, c => c e
  | (d, s) :: l, e, c => match e.find s with | some (.val v) => forceE (e.put d v) fun e => applyE l e c | _ => False

inductive Ex2 where
  | normal
  | exit (id : Nat)
  | ret
  | goto (l : Nat)
def Ex2.of : Ex → Ex2
  | .normal => .normal
  | .exit i => .exit i
  | .ret => .ret
def ev2 (P : Program) (orc : Oracle) (I : OrcI) (mask : Nat) : AC2 → Env → World → List Nat → (Ex2 → Env → World → List Nat → Prop) → Prop
  | .base a, e, w, ds, k => ev P orc mask a e w fun x e w => k (.of x) e w ds
  | .goto l, e, w, ds, k => k (.goto l) e w ds
  | .scopeJ ks l p q, e, w, ds, k => ev2 P orc I mask p e w ds fun x e1 w ds => match x with
    | .normal => restr ks e1 fun y => loopP (S := HT ks × List Nat) (fun C y w => forceE (envOf ks y.1 ++ e1.unw2 q) fun e => ev2 P orc I mask q e w y.2 fun z e w ds => match z with | .goto l' => if Nat.beq l' l then restr ks e fun y => C (y, ds) w else False | z => k z e w ds) (y, ds) w
    | .goto _ => False
    | x => k x e1 w ds
  | .seq a b, e, w, ds, k => ev2 P orc I mask a e w ds fun x e w ds => match x with | .normal => ev2 P orc I mask b e w ds k | x => k x e w ds
  | .cond c a b, e, w, ds, k => match e.op c with | some (.bool t) => iteB t (ev2 P orc I mask a e w ds k) (ev2 P orc I mask b e w ds k) | _ => False
  | .block id a, e, w, ds, k => ev2 P orc I mask a e w ds fun x e w ds => match x with | .exit i => if Nat.beq i id then k .normal e w ds else k (.exit i) e w ds | x => k x e w ds
  | .loop ks a, e, w, ds, k =>
    restr ks e fun x => loopP (S := HT ks × List Nat) (fun C x w => forceE (envOf ks x.1 ++ e.unw2 a) fun e => ev2 P orc I mask a e w x.2 fun y e w ds => match y with | .normal => restr ks e fun x => C (x, ds) w | y => k y e w ds) (x, ds) w
  | .join ks a, e, w, ds, k =>
    joinP (S := HT ks × List Nat) (fun J => ev2 P orc I mask a e w ds fun x e w ds => match x with | .normal => restr ks e fun x => J (x, ds) w | x => k x e w ds) fun x w => forceE (envOf ks x.1 ++ e.unw2 a) fun e => k .normal e w x.2
  | .scope a, e, w, ds, k => ev2 P orc I mask a e w ds fun x e w ds => match x with | .goto _ => False | x => k x e w ds
  | .range ks f ps as _ body, e, w, ds, k =>
    match e.op f with
    | some v => rangeF I (ks.map (·.2)) v w (fun y w1 C => forceE (envK ks y ++ e.vals ps) fun e1 => applyE as e1 fun e2 => ev P orc mask body e2 w1 fun z _ w4 => match z with | .normal => C w4 | _ => False) fun D w' => k .normal e w' (D :: ds)
    | none => False

/-- marks are taken -/
def takeP : List Nat → World → (World → Prop) → Prop
  | [], w, c => c w
  | D :: ds, w, c => w.heap[D]? = some (.deferred (some [])) ∧ takeP ds (w.putObj D (.deferred none)) c

theorem envK_sub {a : Act} : ∀ (ks : List (Nat × K)) (x : KT (ks.map (·.2))), (∀ (i s : Nat), (ks.map (·.1))[i]? = some s → a.tmps[s]? = (valL (ks.map (·.2)) x)[i]?) → Sub (envK ks x) a
  | [], _, _ => fun p hp => by cases hp
  | [(s, k)], x, h => fun p hp => by
    rcases List.mem_cons.1 hp with rfl | hp
    · exact h 0 s rfl
    · cases hp
  | (s, k) :: (y :: r), x, h => fun p hp => by
    rcases List.mem_cons.1 hp with rfl | hp
    · exact h 0 s rfl
    · refine envK_sub (y :: r) x.2 (fun i s' hs => ?_) _ hp
      exact h (i + 1) s' (by simpa using hs)
theorem valL_length : ∀ (ks : List K) (x : KT ks), (valL ks x).length = ks.length
  | [], _ => rfl
  | [_], _ => rfl
  | _ :: (y :: r), x => by show (valL (y :: r) x.2).length + 1 = _; rw [valL_length (y :: r)]; rfl


/-! ### soundness -/
section
variable {P : Program}
def YOK (P : Program) (Y : Nat → Dec) : Prop := ∀ n (args : Array Value) w c, Y n args.toList w c → YieldAt Fence.wide 0 P n args w fun e w' => ∃ v, e = .returned v ∧ c v w'
def OrcIOK (P : Program) (I : OrcI) : Prop := ∀ gf Y (args : Array Value) w c, YOK P Y → I gf Y args.toList w c →
  (∃ fn, P.funcs[gf]? = some fn ∧ fn.body.isSome = true ∧ (fn.name == "runtime.NumGoroutine") = false) ∧ Calls P gf args w fun e w' => ∃ v, e = .returned v ∧ c v w'
def marks (ds : List Nat) : List Deferred := ds.map fun D => { target := .collected D, args := #[] }
def KeepsM (ws : Nat → Bool) (a a' : Act) : Prop := a'.tmps.size = a.tmps.size ∧ ∀ s, ws s = false → a'.tmps[s]? = a.tmps[s]?
theorem KeepsM.refl (ws : Nat → Bool) (a : Act) : KeepsM ws a a := ⟨rfl, fun _ _ => rfl⟩
theorem KeepsM.trans {ws : Nat → Bool} {a b c : Act} (h : KeepsM ws a b) (k : KeepsM ws b c) : KeepsM ws a c := ⟨k.1.trans h.1, fun s hs => (k.2 s hs).trans (h.2 s hs)⟩
theorem KeepsM.mono {ws ws' : Nat → Bool} {a b : Act} (h : KeepsM ws a b) (hw : ∀ s, ws' s = false → ws s = false) : KeepsM ws' a b := ⟨h.1, fun s hs => h.2 s (hw s hs)⟩
theorem Keeps.m {ws : Nat → Bool} {a b : Act} (h : Keeps ws a b) : KeepsM ws a b := ⟨h.1, h.2.2⟩
theorem unw2_ok {e : Env} {a a' : Act} {c : AC2} (h : Sub e a) (hk : KeepsM c.writes a a') : Sub (e.unw2 c) a' := by
  intro p hp
  unfold Env.unw2 at hp
  rw [List.mem_filter] at hp
  obtain ⟨hp, hc⟩ := hp
  obtain ⟨s, x⟩ := p
  simp only [Bool.and_eq_true, Bool.not_eq_true'] at hc
  have h0 := h _ hp
  cases x with
  | val v => show _ = _; rw [hk.2 s hc.1]; exact h0
  | gd g want v => exact absurd hc.2 (by simp)

/-- copies, in an activation -/
def applyA : List (Nat × Nat) → Act → Act
  | [], a => a
  | (d, s) :: l, a => applyA l (a.put (some d) (a.eval (.tmp s)))
theorem applyA_append (l l' : List (Nat × Nat)) (a : Act) : applyA (l ++ l') a = applyA l' (applyA l a) := by
  induction l generalizing a with
  | nil => rfl
  | cons x l ih => exact ih _
theorem applyE_sub : ∀ (l : List (Nat × Nat)) {e : Env} {a : Act} {c : Env → Prop}, Sub e a → (∀ p ∈ l, p.1 < a.tmps.size) → applyE l e c → ∃ e', c e' ∧ Sub e' (applyA l a) ∧ (applyA l a).tmps.size = a.tmps.size
  | [], e, a, c, hs, _, h => ⟨e, h, hs, rfl⟩
  | (d, s) :: l, e, a, c, hs, hl, h => by
    unfold applyE at h
    split at h
    · rename_i v hv
      rw [forceE_eq] at h
      have hev : a.eval (.tmp s) = v := op_agree hs (.tmp s) v (by simp [Env.op, hv])
      have hsz : (a.put (some d) (a.eval (.tmp s))).tmps.size = a.tmps.size := put_size a _ _
      have hsub : Sub (e.put d v) (a.put (some d) (a.eval (.tmp s))) := by
        rw [hev]; exact put_ok hs (hl (d, s) (by simp))
      obtain ⟨e', h1, h2, h3⟩ := applyE_sub l hsub (fun p hp => by rw [hsz]; exact hl p (by simp [hp])) h
      exact ⟨e', h1, h2, h3.trans hsz⟩
    · exact h.elim
theorem asg_wp {ro : Option Nat} {n0 : Nat} : ∀ {c : Code} {a : Act} {w : World} {K : Act → World → Prop} {Q : Exit → Act → World → Prop}, asgOK c = true → K (applyA (asgOf c) a) w → c.wpIn (fen ro) n0 P (Exit.then K Q) a w := by
  intro c
  induction c with
  | skip => intro a w K Q _ h; exact wpIn_skip h
  | region id ops draw =>
    intro a w K Q hok h
    cases draw with
    | true => simp [asgOK] at hok
    | false =>
      unfold asgOK at hok
      split at hok
      · rename_i o ho
        split at hok
        · rename_i s d hop hd hg
          have h0 : ops[0]? = some o := by
            have := congrArg (·[0]?) ho
            simpa using this
          refine wpIn_region_list ?_
          rw [ho]
          unfold wpListIn
          have hw : Region.wanted o (yielded ops a.tmps) = true := wanted_none hg _
          rw [if_pos hw]
          refine wp_value (v := a.eval (.tmp s)) (w' := w) ?_ ?_
          · simp [execOp, hop]
          · unfold wpListIn
            have e : asgOf (.region id ops false) = [(d, s)] := by simp [asgOf, h0, hop, hd]
            rw [e] at h
            rw [hd]; exact h
        · cases hok
      · cases hok
  | seq x y ihx ihy =>
    intro a w K Q hok h
    simp only [asgOK, Bool.and_eq_true] at hok
    refine wpIn_seq (wpIn_mono (ihx (K := fun a w => y.wpIn (fen ro) n0 P (Exit.then K Q) a w) (Q := Exit.then K Q) hok.1 (ihy hok.2 ?_)) fun e a w h => ?_)
    · have e : asgOf (.seq x y) = asgOf x ++ asgOf y := rfl
      rw [e, applyA_append] at h; exact h
    · cases e <;> exact h
  | _ => intro a w K Q hok; simp [asgOK] at hok

theorem zip_old : ∀ (ps : List Nat) (vs : List Value) (t : Array Value) (s : Nat), s ∉ ps → ((ps.zip vs).foldl (fun t (x : Nat × Value) => t.setIfInBounds x.1 x.2) t)[s]? = t[s]?
  | [], _, _, _, _ => by simp
  | p :: ps, [], _, _, _ => by simp
  | p :: ps, v :: vs, t, s, h => by
    rw [List.zip_cons_cons, List.foldl_cons, zip_old ps vs _ s (by simp at h; exact h.2), Array.getElem?_setIfInBounds_ne (by simp at h; omega)]
theorem zip_size : ∀ (ps : List Nat) (vs : List Value) (t : Array Value), ((ps.zip vs).foldl (fun t (x : Nat × Value) => t.setIfInBounds x.1 x.2) t).size = t.size
  | [], _, _ => by simp
  | p :: ps, [], _ => by simp
  | p :: ps, v :: vs, t => by rw [List.zip_cons_cons, List.foldl_cons, zip_size ps vs]; simp
theorem zip_new : ∀ (ps : List Nat) (vs : List Value) (t : Array Value) (i s : Nat), ps.Nodup → ps[i]? = some s → ps.length = vs.length → (∀ p ∈ ps, p < t.size) → ((ps.zip vs).foldl (fun t (x : Nat × Value) => t.setIfInBounds x.1 x.2) t)[s]? = vs[i]?
  | [], _, _, _, _, _, h, _, _ => by simp at h
  | p :: ps, [], _, _, _, _, _, h, _ => by simp at h
  | p :: ps, v :: vs, t, 0, s, hn, h, hl, hlt => by
    simp at h; subst h
    rw [List.zip_cons_cons, List.foldl_cons, zip_old ps vs _ p (List.nodup_cons.1 hn).1, Array.getElem?_setIfInBounds_self, if_pos (hlt p (by simp))]
    rfl
  | p :: ps, v :: vs, t, i + 1, s, hn, h, hl, hlt => by
    rw [List.zip_cons_cons, List.foldl_cons, zip_new ps vs _ i s (List.nodup_cons.1 hn).2 (by simpa using h) (by simpa using hl) (fun q hq => by simp; exact hlt q (by simp [hq]))]
    rfl
theorem zipA (ps : Array Tmp) (vs : Array Value) (t : Array Value) : (ps.zip vs).foldl (fun t (x : Nat × Value) => t.setIfInBounds x.1 x.2) t = (ps.toList.zip vs.toList).foldl (fun t (x : Nat × Value) => t.setIfInBounds x.1 x.2) t := by
  rw [← Array.foldl_toList, Array.toList_zip]

theorem vals_sub {e : Env} {a a' : Act} {ps : Array Tmp} (h : Sub e a) (hk : ∀ s, s ∉ ps.toList → a'.tmps[s]? = a.tmps[s]?) : Sub (e.vals ps) a' := by
  intro p hp
  unfold Env.vals at hp
  rw [List.mem_filter] at hp
  obtain ⟨hp, hc⟩ := hp
  obtain ⟨s, x⟩ := p
  simp only [Bool.and_eq_true, Bool.not_eq_true'] at hc
  have h0 := h _ hp
  cases x with
  | val v => show _ = _; rw [hk s (by simpa using hc.1)]; exact h0
  | gd g want v => exact absurd hc.2 (by simp)

theorem range_sound {orc : Oracle} {I : OrcI} {mask : Nat} (hm : P.follows .mixedOrders = true) (ho : OrcOK P orc NoPan) (hI : OrcIOK P I) {ks : List (Nat × K)} {f : Operand} {ps : Array Tmp} {as : List (Nat × Nat)} {asg : Code} {body : AC}
    {e : Env} {w : World} {a : Act} {fin : Nat → World → Prop} {Q : Exit → Act → World → Prop} {v : Value} (hs : Sub e a) (hf : (AC2.range ks f ps as asg body).fits a.tmps.size = true) (hv : e.op f = some v)
    (h : rangeF I (ks.map (·.2)) v w (fun y w1 C => forceE (envK ks y ++ e.vals ps) fun e1 => applyE as e1 fun e2 => ev P orc mask body e2 w1 fun z _ w4 => match z with | .normal => C w4 | _ => False) fin)
    (hQ : ∀ D w', fin D w' → Q .normal { a with defers := { target := .collected D, args := #[] } :: a.defers } w') : (Code.rangeFunc f ps asg body.code).wpIn (fen none) 2 P Q a w := by
  simp only [AC2.fits, Bool.and_eq_true, decide_eq_true_eq, List.all_eq_true] at hf
  obtain ⟨⟨⟨⟨⟨⟨hfb, hasg⟩, hase⟩, hasl⟩, hps⟩, hpl⟩, hnd⟩ := hf
  have hev : a.eval f = v := op_agree hs f v hv
  unfold rangeF at h
  split at h
  · rename_i gf first lb
    refine wpIn_rangeFunc ?_
    intro fn hfn
    obtain ⟨rec, hrec⟩ : ∃ rec : LoopState → Loop, rec = fun st => { state := st, pending := none, fn, tmps := a.tmps, params := ps, assign := asg, body := body.code, defers := w.heap.size } := ⟨_, rfl⟩
    have h1 := h (fun st => .loop (rec st)) fun _ => rfl
    have hcall := hI gf _ (first ++ (#[.func (.yield (w.heap.size + 1)) #[] #[]] ++ lb)) _ _ ?_ (by
      have e : (first ++ (#[Value.func (.yield (w.heap.size + 1)) #[] #[]] ++ lb)).toList = first.toList ++ (.func (.yield (w.heap.size + 1)) #[] #[] :: lb.toList) := by simp
      rw [e]; exact h1)
    · refine ⟨w.heap.size + 1, [{ target := .collected w.heap.size, args := #[] }], (w.alloc (.deferred (some []))).alloc (.loop (rec .ready)), { target := .fn (.func gf) lb, args := first ++ #[.func (.yield (w.heap.size + 1)) #[] #[]] }, (w.alloc (.deferred (some []))).alloc (.loop (rec .ready)), gf,
        first ++ #[.func (.yield (w.heap.size + 1)) #[] #[]] ++ lb, (w.alloc (.deferred (some []))).alloc (.loop (rec .ready)), ?_, ?_, ?_, ?_, fun _ => by omega, ?_⟩
      · rw [hrec]; exact run_enterLoop_outer _ _ _ _ _
      · simp only [resolve, rangeCall, hev]
        simp [go_sem, Deferred.ofValue]
      · intro f' hf'; exact fen_fn none f'
      · simp only [invoke, run_callFunc hcall.1]
      · have e2 : first ++ #[Value.func (.yield (w.heap.size + 1)) #[] #[]] ++ lb = first ++ (#[.func (.yield (w.heap.size + 1)) #[] #[]] ++ lb) := by rw [Array.append_assoc]
        rw [e2]
        refine callsIn_fen (hcall.2.mono fun en w5 he => ?_)
        obtain ⟨v, rfl, hr, hfin⟩ := he
        refine ⟨none, _, ?_, hQ _ _ hfin⟩
        have := run_endLoop (P := P) hr (by rw [hrec]; simp)
        rw [hrec] at this ⊢
        exact this
    · -- a round
      intro n args w1 c hY
      obtain ⟨rfl, hr, hu⟩ := hY
      obtain ⟨y, hy, hb⟩ := unL_inv hu
      rw [forceE_eq] at hb
      have hlen : args.size = ps.size := by
        have := congrArg List.length hy
        rw [valL_length] at this
        have h2 := congrArg List.length hps
        simp at this h2
        omega
      have hyield := run_yield (P := P) (args := args) hr (by rw [hrec]; exact hlen)
      rw [hrec] at hyield
      refine ⟨fn, _, asg, body.code, hyield, roundIn_of_wpIn (fen_fn none fn) ?_⟩
      dsimp only at hyield ⊢
      rw [zipA]
      generalize ht : (ps.toList.zip args.toList).foldl (fun t (x : Nat × Value) => t.setIfInBounds x.1 x.2) a.tmps = t at *
      have hts : t.size = a.tmps.size := by rw [← ht]; exact zip_size _ _ _
      have hsub : Sub (envK ks y ++ e.vals ps) { tmps := t, defers := [] } := by
        refine append_ok (envK_sub ks y fun i s hi => ?_) (vals_sub hs fun s hns => ?_)
        · show t[s]? = _
          rw [hps] at hi
          rw [← ht, ← hy]
          exact zip_new _ _ _ i s hnd hi (by simpa using hlen.symm) fun p hp => by have := hpl p hp; rwa [Nat.blt_eq] at this
        · show t[s]? = _
          rw [← ht]; exact zip_old _ _ _ _ hns
      obtain ⟨e2, hb, hsub2, hsz2⟩ := applyE_sub as hsub (fun p hp => by show p.1 < t.size; rw [hts]; have := hasl p hp; rwa [Nat.blt_eq] at this) hb
      refine asg_wp (ro := some (w.heap.size + 1)) (n0 := 0) hasg ?_
      rw [hase]
      refine ⟨_, run_beginRound hr (by rw [hrec]), ?_⟩
      have hbusy : w1.putObj (w.heap.size + 1) (.loop { rec .ready with state := .busy }) = w1.putObj (w.heap.size + 1) (.loop (rec .busy)) := by rw [hrec]
      rw [hbusy]
      refine ev_sound (ro := some (w.heap.size + 1)) (n0 := 0) hm ho body e2 _ _ _ _ (fun _ _ _ _ h => h.elim) hsub2 (by rw [hsz2]; show body.fits t.size = true; rw [hts]; exact hfb) hb fun z e' w4 a' hk _ _ => ?_
      cases z with
      | normal =>
        obtain ⟨hbz, hc⟩ := hk
        refine ⟨_, _, run_endRound none hbz, .bool true, rfl, ?_⟩
        have : ({ rec .busy with state := if (none : Option Code).isNone then .ready else .done, pending := none } : Loop) = rec .ready := by rw [hrec]; rfl
        rw [this]; exact hc
      | exit id => exact hk.elim
      | ret => exact hk.elim
  · exact h.elim

def exOf2 : Ex2 → Exit
  | .normal => .normal
  | .exit i => .exit i
  | .ret => .ret
  | .goto l => .goto l
theorem exOf2_of (x : Ex) : exOf2 (.of x) = exOf x := by cases x <;> rfl

theorem wpIn_scope_rounds {F : Fence} {n0 : Nat} {c rest : Code} {l : Nat} {Q : Exit → Act → World → Prop} {a : Act} {w : World} (hf : findLabel c l = some rest) (R : Nat → Act → World → Prop)
    (first : c.wpIn F n0 P (Exit.jump l (fun a w => ∃ n, R n a w) Q) a w)
    (pass : ∀ n a w, R n a w → rest.wpIn F n0 P (Exit.jump l (fun a' w' => ∃ m, m < n ∧ R m a' w') Q) a w) : (Code.scope c).wpIn F n0 P Q a w := by
  intro b k cs hro hb hr
  have h0 : (lone (b.atR a (.code (.scope c) :: k)) cs w).fenced P F := fenced_calm hb hr rfl
  have hstep : step P (lone (b.atR a (.code (.scope c) :: k)) cs w) = .next (lone (b.atR a (.code c :: .inScope c :: k)) cs w) := step_lone_go (by simp [stepG, stepG.exec, Frame.atR])
  have hg : gotoIn l (.inScope c :: k) = some (.code rest :: .inScope c :: k) := by simp [gotoIn, hf]
  have hx (id : Nat) : exitTo id (.inScope c :: k) = exitTo id k := by simp [exitTo]
  have hend (a : Act) (w : World) : StepsIn (fun m => m.fenced P F) P (lone (b.atR a (.inScope c :: k)) cs w) (lone (b.atR a k) cs w) := .one (fenced_calm hb hr rfl) (step_lone_go (by simp [stepG, stepG.exec, Frame.atR]))
  have key : ∀ n a w, R n a w → ∃ e a' w', Q e a' w' ∧ ArrivesIn (fun m => m.fenced P F) P (lone (b.atR a (.code rest :: .inScope c :: k)) cs w) b k cs e a' w' := by
    intro n
    induction n using Nat.strongRecOn with
    | _ n ih =>
      intro a w hR
      obtain ⟨e, a₁, w₁, hq, harr⟩ := pass n a w hR b (.inScope c :: k) cs hro hb hr
      cases e with
      | normal => exact ⟨.normal, a₁, w₁, hq, StepsIn.trans harr (hend _ _)⟩
      | exit id => exact ⟨.exit id, a₁, w₁, hq, fun k' hk => harr.1 k' (by rw [hx]; exact hk), fun hr' hk => harr.2 hr' (by rw [hx]; exact hk)⟩
      | goto l' =>
        obtain ⟨rfl, m, hm, hR'⟩ := hq
        obtain ⟨e₂, a₂, w₂, hq₂, harr₂⟩ := ih m hm a₁ w₁ hR'
        exact ⟨e₂, a₂, w₂, hq₂, .of_steps (harr.1 _ hg) harr₂⟩
      | ret => exact ⟨_, a₁, w₁, hq, harr⟩
      | panic ch => exact ⟨_, a₁, w₁, hq, harr⟩
      | outgrown => exact ⟨_, a₁, w₁, hq, harr⟩
  obtain ⟨e, a₁, w₁, hq, harr⟩ := first b (.inScope c :: k) cs hro hb hr
  cases e with
  | normal => exact ⟨.normal, a₁, w₁, hq, .head h0 hstep (StepsIn.trans harr (hend _ _))⟩
  | exit id =>
    exact ⟨.exit id, a₁, w₁, hq, fun k' hk => .head h0 hstep (harr.1 k' (by rw [hx]; exact hk)),
      fun hr' hk => let ⟨k₁, h1, h2⟩ := harr.2 hr' (by rw [hx]; exact hk); ⟨k₁, h1, .head h0 hstep h2⟩⟩
  | goto l' =>
    obtain ⟨rfl, n, hR⟩ := hq
    obtain ⟨e₂, a₂, w₂, hq₂, harr₂⟩ := key n a₁ w₁ hR
    exact ⟨e₂, a₂, w₂, hq₂, .of_steps (.head h0 hstep (harr.1 _ hg)) harr₂⟩
  | ret => exact ⟨_, a₁, w₁, hq, .of_steps (.one h0 hstep) harr⟩
  | panic ch => exact ⟨_, a₁, w₁, hq, .of_steps (.one h0 hstep) harr⟩
  | outgrown => exact ⟨_, a₁, w₁, hq, .of_steps (.one h0 hstep) harr⟩

theorem find_graft {l : Nat} {t : Code} : ∀ {p : AC2}, noLab l p = true → isList p = true → findLabel (graftC p (.seq (.label l) t)) l = some (.seq .skip t)
  | .seq a r, h, hl => by
    simp only [noLab, Bool.and_eq_true, Option.isNone_iff_eq_none] at h
    simp only [graftC, findLabel, h.1]
    exact find_graft h.2 hl
  | .base c, _, _ => by simp [graftC, findLabel]
  | .cond .., _, hl | .block .., _, hl | .loop .., _, hl | .join .., _, hl | .scope _, _, hl | .goto _, _, hl | .scopeJ .., _, hl | .range .., _, hl => by cases hl

mutual
theorem ev2_sound {orc : Oracle} {I : OrcI} {mask : Nat} (hm : P.follows .mixedOrders = true) (ho : OrcOK P orc NoPan) (hI : OrcIOK P I) : ∀ (c : AC2) (e : Env) (w : World) (a : Act) (ds : List Nat) (k : Ex2 → Env → World → List Nat → Prop) (Q : Exit → Act → World → Prop),
    Sub e a → c.fits a.tmps.size = true → a.defers = marks ds → ev2 P orc I mask c e w ds k → (∀ x e' w' ds' a', k x e' w' ds' → Sub e' a' → KeepsM c.writes a a' → a'.defers = marks ds' → Q (exOf2 x) a' w') → c.code.wpIn (fen none) 2 P Q a w
  | .base c, e, w, a, ds, k, Q, hs, hf, hd, h, hQ => by
    unfold ev2 at h
    exact ev_sound hm ho c e w a _ Q (fun _ _ _ _ h => h.elim) hs hf h fun x e' w' a' h1 h2 h3 => exOf2_of x ▸ hQ (.of x) e' w' ds a' h1 h2 h3.m (h3.2.1.trans hd)
  | .scope x, e, w, a, ds, k, Q, hs, hf, hd, h, hQ => by
    unfold ev2 at h
    refine wpIn_scope_straight (ev2_sound hm ho hI x e w a ds _ _ hs hf hd h fun z e' w' ds' a' h1 h2 h3 h4 => ?_)
    cases z with
    | normal => exact hQ .normal e' w' ds' a' h1 h2 h3 h4
    | exit id => exact hQ (.exit id) e' w' ds' a' h1 h2 h3 h4
    | ret => exact hQ .ret e' w' ds' a' h1 h2 h3 h4
    | goto l => exact h1.elim
  | .goto l, e, w, a, ds, k, Q, hs, hf, hd, h, hQ => wpIn_goto (hQ (.goto l) e w ds a h hs (.refl _ _) hd)
  | .scopeJ ks l p q, e, w, a, ds, k, Q, hs, hf, hd, h, hQ => by
    unfold ev2 at h
    simp only [AC2.fits, Bool.and_eq_true] at hf
    obtain ⟨⟨⟨hfp, hfq⟩, hl⟩, hn⟩ := hf
    have hw1 : ∀ {a' : Act}, KeepsM p.writes a a' → KeepsM (AC2.scopeJ ks l p q).writes a a' := fun hk => hk.mono fun s hsw => by simp only [AC2.writes, Bool.or_eq_false_iff] at hsw; exact hsw.1
    have hw2 : ∀ {a' a'' : Act}, KeepsM p.writes a a' → KeepsM q.writes a' a'' → KeepsM (AC2.scopeJ ks l p q).writes a a'' := fun h h' => (hw1 h).trans (h'.mono fun s hsw => by simp only [AC2.writes, Bool.or_eq_false_iff] at hsw; exact hsw.2)
    let body (e1 : Env) : (HT ks × List Nat → World → Prop) → HT ks × List Nat → World → Prop := fun C y w => forceE (envOf ks y.1 ++ e1.unw2 q) fun e => ev2 P orc I mask q e w y.2 fun z e w ds => match z with | .goto l' => if Nat.beq l' l then restr ks e fun y => C (y, ds) w else False | z => k z e w ds
    let R (n : Nat) (b : Act) (w : World) : Prop := ∃ e1 a1 y, Sub e1 a1 ∧ KeepsM p.writes a a1 ∧ iterP (body e1) n y w ∧ Sub (envOf ks y.1) b ∧ KeepsM q.writes a1 b ∧ b.defers = marks y.2
    have pass : ∀ n b w, R n b w → q.code.wpIn (fen none) 2 P (Exit.jump l (fun a' w' => ∃ m, m < n ∧ R m a' w') Q) b w := by
      rintro n b w ⟨e1, a1, y, hs1, hk1, hit, hsy, hkb, hdb⟩
      cases n with
      | zero => exact hit.elim
      | succ n =>
        unfold iterP at hit
        have hit' := hit
        simp only [body] at hit'
        rw [forceE_eq] at hit'
        refine ev2_sound hm ho hI q _ w b y.2 _ _ (append_ok hsy (unw2_ok hs1 hkb)) (by rw [hkb.1, hk1.1]; exact hfq) hdb hit' fun z e' w' ds' a' hk hs' hkp' hd' => ?_
        cases z with
        | normal => exact hQ .normal e' w' ds' a' hk hs' (hw2 hk1 (hkb.trans hkp')) hd'
        | exit id => exact hQ (.exit id) e' w' ds' a' hk hs' (hw2 hk1 (hkb.trans hkp')) hd'
        | ret => exact hQ .ret e' w' ds' a' hk hs' (hw2 hk1 (hkb.trans hkp')) hd'
        | goto l' =>
          simp only at hk
          split at hk
          · rename_i hb
            obtain ⟨y', hy', hsy'⟩ := restr_inv hs' hk
            exact ⟨beq_eq hb, n, by omega, e1, a1, (y', ds'), hs1, hk1, hy', hsy', hkb.trans hkp', hd'⟩
          · exact hk.elim
    refine wpIn_scope_rounds (find_graft hn hl) R ?_ fun n b w hR => wpIn_seq (wpIn_skip (pass n b w hR))
    refine graft_sound hm ho hI p e w a ds _ _ _ hs hfp hl hd h (fun e1 w1 ds1 a1 hk hs1 hkp hd1 => ?_) fun x e' w' ds' a' hx hk hs' hkp hd' => ?_
    · obtain ⟨y, hy, hsy⟩ := restr_inv hs1 hk
      obtain ⟨n, hy⟩ := hy
      have := pass n a1 w1 ⟨e1, a1, (y, ds1), hs1, hkp, hy, hsy, .refl _ _, hd1⟩
      refine wpIn_seq (wpIn_label ?_)
      refine wpIn_mono this fun e' a' w' hq => ?_
      cases e' with
      | goto l' => exact ⟨hq.1, hq.2.choose, hq.2.choose_spec.2⟩
      | _ => exact hq
    · cases x with
      | normal => exact (hx rfl).elim
      | exit id => exact hQ (.exit id) e' w' ds' a' hk hs' (hw1 hkp) hd'
      | ret => exact hQ .ret e' w' ds' a' hk hs' (hw1 hkp) hd'
      | goto l' => exact hk.elim
  | .seq x y, e, w, a, ds, k, Q, hs, hf, hd, h, hQ => by
    unfold ev2 at h
    simp only [AC2.fits, Bool.and_eq_true] at hf
    refine wpIn_seq (ev2_sound hm ho hI x e w a ds _ _ hs hf.1 hd h fun z e' w' ds' a' hk hs' hkp hd' => ?_)
    have hkp' : KeepsM (AC2.seq x y).writes a a' := hkp.mono fun s hsw => by simp only [AC2.writes, Bool.or_eq_false_iff] at hsw; exact hsw.1
    cases z with
    | normal =>
      refine ev2_sound hm ho hI y e' w' a' ds' k Q hs' (by rw [hkp.1]; exact hf.2) hd' hk fun z e'' w'' ds'' a'' h1 h2 h3 h4 => hQ z e'' w'' ds'' a'' h1 h2 (hkp'.trans (h3.mono fun s hsw => ?_)) h4
      simp only [AC2.writes, Bool.or_eq_false_iff] at hsw; exact hsw.2
    | exit id => exact hQ (.exit id) e' w' ds' a' hk hs' hkp' hd'
    | ret => exact hQ .ret e' w' ds' a' hk hs' hkp' hd'
    | goto l => exact hQ (.goto l) e' w' ds' a' hk hs' hkp' hd'
  | .cond c x y, e, w, a, ds, k, Q, hs, hf, hd, h, hQ => by
    unfold ev2 at h
    simp only [AC2.fits, Bool.and_eq_true] at hf
    split at h
    · rename_i t ht
      refine wpIn_cond (op_eval hs ht) ?_
      cases t
      · exact ev2_sound hm ho hI y e w a ds k Q hs hf.2 hd h fun z e' w' ds' a' h1 h2 h3 h4 => hQ z e' w' ds' a' h1 h2 (h3.mono fun s hsw => by simp only [AC2.writes, Bool.or_eq_false_iff] at hsw; exact hsw.2) h4
      · exact ev2_sound hm ho hI x e w a ds k Q hs hf.1 hd h fun z e' w' ds' a' h1 h2 h3 h4 => hQ z e' w' ds' a' h1 h2 (h3.mono fun s hsw => by simp only [AC2.writes, Bool.or_eq_false_iff] at hsw; exact hsw.1) h4
    · exact h.elim
  | .block id x, e, w, a, ds, k, Q, hs, hf, hd, h, hQ => by
    unfold ev2 at h
    refine wpIn_block (ev2_sound hm ho hI x e w a ds _ _ hs hf hd h fun z e' w' ds' a' hk hs' hkp hd' => ?_)
    cases z with
    | normal => exact hQ .normal e' w' ds' a' hk hs' hkp hd'
    | ret => exact hQ .ret e' w' ds' a' hk hs' hkp hd'
    | goto l => exact hQ (.goto l) e' w' ds' a' hk hs' hkp hd'
    | exit i =>
      simp only at hk
      show (if i = id then Q .normal a' w' else Q (.exit i) a' w')
      split at hk
      · rename_i hb; rw [if_pos (beq_eq hb)]; exact hQ .normal e' w' ds' a' hk hs' hkp hd'
      · rename_i hb
        have hb' : i ≠ id := by simpa using hb
        rw [if_neg hb']; exact hQ (.exit i) e' w' ds' a' hk hs' hkp hd'
  | .join ks x, e, w, a, ds, k, Q, hs, hf, hd, h, hQ => by
    unfold ev2 joinP at h
    refine ev2_sound hm ho hI x e w a ds _ Q hs hf hd h fun z e' w' ds' a' hk hs' hkp hd' => ?_
    cases z with
    | normal =>
      obtain ⟨y, hy, hsy⟩ := restr_inv hs' hk
      rw [forceE_eq] at hy
      exact hQ .normal _ w' ds' a' hy (append_ok hsy (unw2_ok hs hkp)) hkp hd'
    | exit id => exact hQ (.exit id) e' w' ds' a' hk hs' hkp hd'
    | ret => exact hQ .ret e' w' ds' a' hk hs' hkp hd'
    | goto l => exact hQ (.goto l) e' w' ds' a' hk hs' hkp hd'
  | .loop ks x, e, w, a, ds, k, Q, hs, hf, hd, h, hQ => by
    unfold ev2 at h
    obtain ⟨y, hy, hsy⟩ := restr_inv hs h
    obtain ⟨n, hn⟩ := hy
    refine wpIn_loop_rounds n ?_
    have key : ∀ n (y : HT ks × List Nat) w b, iterP (fun C y w => forceE (envOf ks y.1 ++ e.unw2 x) fun e => ev2 P orc I mask x e w y.2 fun z e w ds => match z with | .normal => restr ks e fun y => C (y, ds) w | z => k z e w ds) n y w →
        Sub (envOf ks y.1) b → KeepsM x.writes a b → b.defers = marks y.2 → Code.roundsIn (fen none) 2 P x.code Q n b w := by
      intro n
      induction n with
      | zero => intro y w b h; exact h.elim
      | succ n ih =>
        intro y w b h hsy hkp hdb
        unfold iterP at h
        rw [forceE_eq] at h
        rw [roundsIn_succ]
        refine ev2_sound hm ho hI x _ w b y.2 _ _ (append_ok hsy (unw2_ok hs hkp)) (by rw [hkp.1]; exact hf) hdb h fun z e' w' ds' a' hk hs' hkp' hd' => ?_
        cases z with
        | normal =>
          obtain ⟨y', hy', hsy'⟩ := restr_inv hs' hk
          exact ih (y', ds') w' a' hy' hsy' (hkp.trans hkp') hd'
        | exit id => exact hQ (.exit id) e' w' ds' a' hk hs' (hkp.trans hkp') hd'
        | ret => exact hQ .ret e' w' ds' a' hk hs' (hkp.trans hkp') hd'
        | goto l => exact hQ (.goto l) e' w' ds' a' hk hs' (hkp.trans hkp') hd'
    exact key n (y, ds) w a hn hsy (.refl _ _) hd
  | .range ks f ps as asg body, e, w, a, ds, k, Q, hs, hf, hd, h, hQ => by
    unfold ev2 at h
    split at h
    · rename_i v hv
      refine range_sound hm ho hI hs hf hv h fun D w' hk => hQ .normal e w' (D :: ds) _ hk hs ⟨rfl, fun _ _ => rfl⟩ ?_
      show _ :: a.defers = _
      rw [hd]; rfl
    · exact h.elim
theorem graft_sound {orc : Oracle} {I : OrcI} {mask : Nat} (hm : P.follows .mixedOrders = true) (ho : OrcOK P orc NoPan) (hI : OrcIOK P I) : ∀ (p : AC2) (e : Env) (w : World) (a : Act) (ds : List Nat) (k : Ex2 → Env → World → List Nat → Prop) (Q : Exit → Act → World → Prop) (t : Code),
    Sub e a → p.fits a.tmps.size = true → isList p = true → a.defers = marks ds → ev2 P orc I mask p e w ds k →
    (∀ e' w' ds' a', k .normal e' w' ds' → Sub e' a' → KeepsM p.writes a a' → a'.defers = marks ds' → t.wpIn (fen none) 2 P Q a' w') →
    (∀ x e' w' ds' a', x ≠ Ex2.normal → k x e' w' ds' → Sub e' a' → KeepsM p.writes a a' → a'.defers = marks ds' → Q (exOf2 x) a' w') → (graftC p t).wpIn (fen none) 2 P Q a w
  | .seq x r, e, w, a, ds, k, Q, t, hs, hf, hl, hd, h, hN, hQ => by
    unfold ev2 at h
    simp only [AC2.fits, Bool.and_eq_true] at hf
    unfold graftC
    refine wpIn_seq (ev2_sound hm ho hI x e w a ds _ _ hs hf.1 hd h fun z e' w' ds' a' hk hs' hkp hd' => ?_)
    have hkp' : KeepsM (AC2.seq x r).writes a a' := hkp.mono fun s hsw => by simp only [AC2.writes, Bool.or_eq_false_iff] at hsw; exact hsw.1
    have hkr : ∀ {a''}, KeepsM r.writes a' a'' → KeepsM (AC2.seq x r).writes a a'' := fun h3 => hkp'.trans (h3.mono fun s hsw => by simp only [AC2.writes, Bool.or_eq_false_iff] at hsw; exact hsw.2)
    cases z with
    | normal => exact graft_sound hm ho hI r e' w' a' ds' k Q t hs' (by rw [hkp.1]; exact hf.2) hl hd' hk (fun e'' w'' ds'' a'' h1 h2 h3 h4 => hN e'' w'' ds'' a'' h1 h2 (hkr h3) h4) fun z e'' w'' ds'' a'' hz h1 h2 h3 h4 => hQ z e'' w'' ds'' a'' hz h1 h2 (hkr h3) h4
    | exit id => exact hQ (.exit id) e' w' ds' a' (by simp) hk hs' hkp' hd'
    | ret => exact hQ .ret e' w' ds' a' (by simp) hk hs' hkp' hd'
    | goto l => exact hQ (.goto l) e' w' ds' a' (by simp) hk hs' hkp' hd'
  | .base c, e, w, a, ds, k, Q, t, hs, hf, hl, hd, h, hN, hQ => by
    cases c with
    | skip => unfold ev2 ev at h; exact hN e w ds a h hs (.refl _ _) hd
    | _ => cases hl
  | .cond .., _, _, _, _, _, _, _, _, _, hl, _, _, _, _ | .block .., _, _, _, _, _, _, _, _, _, hl, _, _, _, _ | .loop .., _, _, _, _, _, _, _, _, _, hl, _, _, _, _ | .join .., _, _, _, _, _, _, _, _, _, hl, _, _, _, _ | .scope _, _, _, _, _, _, _, _, _, _, hl, _, _, _, _ | .goto _, _, _, _, _, _, _, _, _, _, hl, _, _, _, _ | .scopeJ .., _, _, _, _, _, _, _, _, _, hl, _, _, _, _ | .range .., _, _, _, _, _, _, _, _, _, hl, _, _, _, _ => by cases hl
end

/-! ### functions with ranges -/
def retK2 (P : Program) (rs : List ResultVar) (c : List Value → World → Prop) (x : Ex2) (e : Env) (w : World) (ds : List Nat) : Prop :=
  match x with
  | .exit _ => False
  | .goto _ => False
  | _ => takeP ds w fun w => resL P rs e w fun l => c l w
def evFn2 (P : Program) (orc : Oracle) (I : OrcI) (mask : Nat) (h : Hints) (fn : Func) (ks : List K) (args : List Value) (w : World) (c : KT ks → World → Prop) : Prop :=
  match fn.body with
  | some b => ev2 P orc I mask (annot2 h b 0).1 (argEnv 0 args) w [] (retK2 P fn.results.toList fun l w => unL ks l fun x => c x w)
  | none => False
def fnOK2 (h : Hints) (fn : Func) (n : Nat) : Bool :=
  match fn.body with
  | some b => (annot2 h b 0).1.fits fn.ntmps && Nat.ble n fn.ntmps && !(fn.name == "runtime.NumGoroutine")
  | none => false

theorem takeP_leaves {fn : Func} {tmps : Array Value} {R : Ending → World → Prop} : ∀ {ds : List Nat} {w : World} {c : World → Prop}, takeP ds w c → (∀ w', c w' → LeavesInM (fen none) 2 P fn tmps R [] .returning w') → LeavesInM (fen none) 2 P fn tmps R (marks ds) .returning w
  | [], w, c, h, hc => hc w h
  | D :: ds, w, c, h, hc => ⟨by simp, .inl ⟨D, _, rfl, run_takeDeferred h.1, takeP_leaves h.2 hc⟩⟩

theorem sound_of2 {f : FuncId} {fn : Func} {mask : Nat} {h : Hints} {orc : Oracle} {I : OrcI} (hm : P.follows .mixedOrders = true) (hf : P.funcs[f]? = some fn) (ho : OrcOK P orc NoPan) (hI : OrcIOK P I) (aks rks : List K)
    (hok : fnOK2 h fn aks.length = true) (F : KT aks → World → (KT rks → World → Prop) → Prop) (hl : ∀ x w c, evFn2 P orc I mask h fn rks (valL aks x) w c = F x w c) :
    Sound P f fun args w c => unL aks args fun x => F x w fun r w => c (packV (valL rks r)) w := by
  unfold fnOK2 at hok
  cases hb : fn.body with
  | none => rw [hb] at hok; cases hok
  | some b =>
    rw [hb] at hok
    simp only [Bool.and_eq_true, Bool.not_eq_true'] at hok
    refine ⟨⟨fn, hf, by rw [hb]; rfl, hok.2⟩, fun args w c hd => ?_⟩
    obtain ⟨x, hx, hF⟩ := unL_inv hd
    have hlen := valL_length aks x
    rw [← hl] at hF
    unfold evFn2 at hF
    rw [hb] at hF
    simp only at hF
    have hle : aks.length ≤ fn.ntmps := Nat.le_of_ble_eq_true hok.1.2
    have hsz : args.size ≤ fn.ntmps := by
      have : args.toList.length = aks.length := by rw [hx, hlen]
      rw [Array.length_toList] at this; omega
    refine (callsIn_wide (n := 2)).1 (callsIn_of_wp_marks (F := fen none) hf hb (fen_fn none f) ?_)
    have hcode := annot2_code h b 0
    have hw := ev2_sound (mask := mask) hm ho hI (annot2 h b 0).1 (argEnv 0 (valL aks x)) w { tmps := args ++ Array.replicate (fn.ntmps - args.size) undef, defers := [] } [] _ (bodyPostM (fen none) 2 P fn fun e w' => ∃ v, e = .returned v ∧ c v w') ?_ ?_ rfl hF ?_
    · rw [hcode] at hw; exact hw
    · refine argEnv_ok _ 0 _ fun i v hv => ?_
      rw [← hx] at hv
      have hv' : args[i]? = some v := by simpa using hv
      have hi : i < args.size := (Array.getElem?_eq_some_iff.1 hv').1
      simp only [Nat.zero_add]
      rw [Array.getElem?_append_left hi]
      exact hv'
    · have : (args ++ Array.replicate (fn.ntmps - args.size) undef).size = fn.ntmps := by simp; omega
      rw [this]; exact hok.1.1
    · intro z e' w' ds' a' hk hs hkp hdef
      have fin : (takeP ds' w' fun w => resL P fn.results.toList e' w fun l => unL rks l fun x => c (packV (valL rks x)) w) → LeavesInM (fen none) 2 P fn a'.tmps (fun e w' => ∃ v, e = .returned v ∧ c v w') a'.defers .returning w' := by
        intro ht
        rw [hdef]
        refine takeP_leaves ht fun w'' hr => ?_
        obtain ⟨l, hc, hrun⟩ := resL_run hs hr
        obtain ⟨y, rfl, hc'⟩ := unL_inv hc
        show LeavesIn (fen none) 2 P fn a'.tmps _ [] .returning w''
        refine ⟨packV (valL rks y), ?_, _, rfl, hc'⟩
        have he : results fn a'.tmps = (do
            let vs ← fn.results.mapM (resS a')
            pure (if h : vs.size = 1 then vs[0] else .tuple vs)) := by
          have hfun : (fun x => (match x with | .tmp t => pure (a'.tmps.getD t undef) | .cell a t => do loadVar t (← asAddr (a'.tmps.getD a undef)) : Sem Value)) = resS a' := by
            funext r; cases r <;> rfl
          unfold results
          rw [← hfun]
          rfl
        rw [he, Array.mapM_eq_mapM_toList]
        simp only [Sem.run_bind, Sem.run_map, hrun, Result.andThen_ok, Sem.run_pure]
        rw [pack_eq]
      cases z with
      | normal => exact fin hk
      | ret => exact fin hk
      | exit id => exact hk.elim
      | goto l => exact hk.elim

/-- iterators -/
def SoundI (P : Program) (f : FuncId) (G : (Nat → Dec) → Dec) : Prop := ∀ Y, YOK P Y → Sound P f (G Y)
def AllSoundI (P : Program) : List (Nat × ((Nat → Dec) → Dec)) → Prop
  | [] => True
  | (n, d) :: l => SoundI P n d ∧ AllSoundI P l
def orcI : List (Nat × ((Nat → Dec) → Dec)) → OrcI
  | [], _, _, _, _, _ => False
  | (n, d) :: l, f, Y, args, w, c => match Nat.beq n f with | true => d Y args w c | false => orcI l f Y args w c
theorem orcI_ok : ∀ {l : List (Nat × ((Nat → Dec) → Dec))}, AllSoundI P l → OrcIOK P (orcI l)
  | [], _ => fun _ _ _ _ _ _ h => h.elim
  | (n, d) :: l, hl => fun gf Y args w c hY h => by
    unfold orcI at h
    split at h
    · rename_i hb
      have := beq_eq hb
      subst this
      have := hl.1 Y hY
      exact ⟨this.1, this.2 args w c h⟩
    · exact orcI_ok hl.2 gf Y args w c hY h
end
end Go.Ev
