/-
  The evaluator's soundness, sixth part: regions that draw their order.
-/
import Derived.Test.YtgkfbagclkjilaaEvE
namespace Go.Ev
open Go

section
variable {P : Program} {ops : Array Oper} {Q : Exit → Act → World → Prop} {q : Pan}

def still (P : Program) (o : Oper) : Bool := Blind P o.op || (isLoad o.op).isSome

theorem not_select {P : Program} {o : Oper} (h : still P o = true) : ∀ cs b, o.op ≠ .select cs b := by
  intro cs b hb
  simp [still, Blind, hb, isPick, pureOK, freeOK, isFree, isLoad] at h

def upd (h : Nat → World → Prop) (i : Nat) (S : World → Prop) : Nat → World → Prop := fun k => if k = i then S else h k
theorem upd_comm (h : Nat → World → Prop) {i j : Nat} (hij : i ≠ j) (S T : World → Prop) : upd (upd h i S) j T = upd (upd h j T) i S := by
  funext k
  unfold upd
  by_cases h1 : k = i <;> by_cases h2 : k = j <;> simp_all

/-- every order; what was loaded is held till it may no longer be loaded -/
def wpH (P : Program) (ops : Array Oper) (anc : Nat → Nat → Bool) (q : Pan) (Q : Exit → Act → World → Prop) : Nat → Array Bool → (Nat → World → Prop) → Act → World → Prop
  | 0, listed, _, a, w => Region.ready .any ops listed = [] ∧ Q .normal a w
  | f + 1, listed, h, a, w => (Region.ready .any ops listed = [] → Q .normal a w) ∧ ∀ i ∈ Region.ready .any ops listed, ∀ o, ops[i]? = some o →
      (still P o = true → ∃ v S, S w ∧ (∀ w', S w' → StepV P ops o a w' v) ∧ wpH P ops anc q Q f (listed.setIfInBounds i true) (upd h i S) (a.put o.dst v) w) ∧
      (still P o = false → (∀ cs b, o.op ≠ .select cs b) ∧ CStep P ops q o a w fun v w' => (∀ k, anc i k = false → h k w') ∧ wpH P ops anc q Q f (listed.setIfInBounds i true) h (a.put o.dst v) w')

theorem wpAny_of_H {anc : Nat → Nat → Bool} {ro : Option Nat} {n : Nat} : ∀ (f : Nat) (listed : Array Bool) (h : Nat → World → Prop) (a : Act) (w : World), (∀ ch a' w', Keeps (opsW ops) a a' → q ch w' → Q (.panic ch) a' w') → wpH P ops anc q Q f listed h a w → wpAnyIn (fen ro) n P .any ops Q f listed a w
  | 0, _, _, _, _, _, h => h
  | f + 1, listed, hh, a, w, hq, h => by
    refine ⟨h.1, fun i hi => ?_⟩
    obtain ⟨_, o, ho, _⟩ := mem_ready.1 hi
    obtain ⟨h1, h2⟩ := h.2 i hi o ho
    unfold wpOpIn
    rw [ho]
    cases hs : still P o with
    | true =>
      obtain ⟨v, S, hS, hv, hK⟩ := h1 hs
      exact ((hv w hS).c (q := q)).wp (fun ch w h => hq ch a w (.refl _ _) h) fun u w' ⟨hu, hw'⟩ => by subst hu; subst hw'; exact wpAny_of_H f _ _ _ _ (fun ch a' w' hd h => hq ch a' w' ((Keeps.put fun x hx => opsW_mem (Array.mem_of_getElem? ho) hx).trans hd) h) hK
    | false => exact (h2 hs).2.wp (fun ch w h => hq ch a w (.refl _ _) h) fun u w' hK => wpAny_of_H f _ _ _ _ (fun ch a' w' hd h => hq ch a' w' ((Keeps.put fun x hx => opsW_mem (Array.mem_of_getElem? ho) hx).trans hd) h) hK.2

/-! ### the order of two operations -/
theorem looks_put {o o' : Oper} (hap : Oper.apart ops o' o = true) (hs : ∀ cs b, o.op ≠ .select cs b) (a : Act) (v : Value) :
    execOp (a.put o'.dst v).eval o = execOp a.eval o ∧ Region.wanted o (yielded ops (a.put o'.dst v).tmps) = Region.wanted o (yielded ops a.tmps) := by
  have h := Oper.apart_spec hap
  exact ⟨execOp_put o hs a o'.dst v h.1, wanted_put o a o'.dst v h.1⟩

theorem StepV_put {o o' : Oper} (hap : Oper.apart ops o' o = true) (hs : ∀ cs b, o.op ≠ .select cs b) {a : Act} {u v : Value} {w : World} : StepV P ops o (a.put o'.dst u) w v ↔ StepV P ops o a w v := by
  obtain ⟨h1, h2⟩ := looks_put hap hs a u
  unfold StepV
  rw [h1, h2]

theorem put_inj {a b : Act} {d : Option Nat} {u v : Value} (hz : a.tmps.size = b.tmps.size) (h : b.put d u = b.put d v) : a.put d u = a.put d v := by
  cases d with
  | none => rfl
  | some d =>
    by_cases hd : d < b.tmps.size
    · have h1 : (b.put (some d) u).tmps[d]? = (b.put (some d) v).tmps[d]? := by rw [h]
      rw [put_get hd, put_get hd] at h1
      cases h1
      rfl
    · have : ∀ x, a.put (some d) x = a := by
        intro x
        simp only [Act.put]
        have hx : a.tmps.setIfInBounds d x = a.tmps := by
          apply Array.ext_getElem?
          intro i
          by_cases hi : i = d
          · subst hi; simp [show a.tmps.size ≤ i by omega]
          · rw [Array.getElem?_setIfInBounds_ne (Ne.symm hi)]
        rw [hx]
      rw [this, this]

theorem CStep_put {o o' : Oper} (hap : Oper.apart ops o' o = true) (hs : ∀ cs b, o.op ≠ .select cs b) {a : Act} {u : Value} {w : World} {c : Value → World → Prop} (h : CStep P ops q o (a.put o'.dst u) w c) : CStep P ops q o a w c := by
  obtain ⟨h1, h2⟩ := looks_put hap hs a u
  unfold CStep at *
  rw [h2] at h
  rcases h with ⟨hw, hnd, h⟩ | ⟨hw, h⟩
  · refine .inl ⟨hw, hnd, fun ro n K hK => ?_⟩
    have h3 := h ro n (fun a1 w1 => ∃ v', a1 = (a.put o'.dst u).put o.dst v' ∧ K (a.put o.dst v') w1) fun v' w' hc => ⟨v', rfl, hK v' w' hc⟩
    refine ⟨fun f _ => fen_fn ro f, ?_⟩
    have h3 := h3.2
    have hsem : ((o.semAt (fen ro).round (a.put o'.dst u).eval).run P w) = ((o.semAt (fen ro).round a.eval).run P w) := by
      rw [Oper.semAt_eq _ _ _ hnd, Oper.semAt_eq _ _ _ hnd, h1]
    rw [hsem] at h3
    have hz : ∀ v v' : Value, (a.put o'.dst u).put o.dst v = (a.put o'.dst u).put o.dst v' → a.put o.dst v = a.put o.dst v' := fun v v' => put_inj (by rw [put_size])
    generalize (o.semAt (fen ro).round a.eval).run P w = r at *
    cases r with
    | ok x w' =>
      cases x with
      | value v => simp only [Oper.uponIn] at h3 ⊢; obtain ⟨v', he, hk⟩ := h3; rw [hz _ _ he]; exact hk
      | skip => simp only [Oper.uponIn] at h3 ⊢; obtain ⟨v', he, hk⟩ := h3; rw [hz _ _ he]; exact hk
      | defer d =>
        simp only [Oper.uponIn] at h3
        obtain ⟨v', he, hk⟩ := h3
        have h4 := congrArg (fun b : Act => b.defers.length) he
        simp only [put_defers, List.length_cons] at h4
        omega
      | enter f args =>
        simp only [Oper.uponIn] at h3 ⊢
        refine ⟨h3.1, h3.2.mono fun e w'' he => ?_⟩
        cases e with
        | returned v => obtain ⟨v', he', hk⟩ := he; simp only; rw [hz _ _ he']; exact hk
        | panicked c => exact he
        | outgrown => obtain ⟨_, _, hx⟩ := he; exact hx.elim
      | round l f t as b =>
        simp only [Oper.uponIn] at h3 ⊢
        refine ⟨h3.1, h3.2.mono fun e w'' he => ?_⟩
        cases e with
        | returned v => obtain ⟨v', he', hk⟩ := he; simp only; rw [hz _ _ he']; exact hk
        | panicked c => exact he
        | outgrown => obtain ⟨_, _, hx⟩ := he; exact hx.elim
      | row r args =>
        simp only [Oper.uponIn] at h3 ⊢
        refine ⟨h3.1, RowsIn.mono h3.2 fun v w'' he => ?_⟩
        obtain ⟨v', he', hk⟩ := he; rw [hz _ _ he']; exact hk
      | _ => simp only [Oper.uponIn] at h3
    | halt x w' => cases x <;> simp only [Oper.uponIn] at h3 ⊢ <;> exact h3
  · exact .inr ⟨hw, h⟩

/-- two operations of a region that are not ordered are apart -/
def Apart (ops : Array Oper) (anc : Nat → Nat → Bool) : Prop := ∀ i j x y, i < j → ops[i]? = some x → ops[j]? = some y → anc j i = false → Oper.apart ops x y = true ∧ Oper.apart ops y x = true
/-- what an operation's forerunners are -/
def AncOK (ops : Array Oper) (anc : Nat → Nat → Bool) : Prop := ∀ j i, anc j i = true → ∃ o, ops[j]? = some o ∧ ∃ e ∈ o.after, Region.binds .any e = true ∧ e.on < j ∧ (e.on = i ∨ anc e.on i = true)
def Closed (ops : Array Oper) (listed : Array Bool) : Prop := listed.size = ops.size ∧ ∀ j o, ops[j]? = some o → listed.getD j false = true → ∀ e ∈ o.after, Region.binds .any e = true → listed.getD e.on false = true

theorem anc_listed {anc : Nat → Nat → Bool} (ha : AncOK ops anc) {listed : Array Bool} (hc : Closed ops listed) : ∀ (n j i : Nat), j ≤ n → (∀ o, ops[j]? = some o → ∀ e ∈ o.after, Region.binds .any e = true → listed.getD e.on false = true) → anc j i = true → listed.getD i false = true
  | 0, j, i, hj, hd, h => by
    obtain ⟨o, ho, e, he, hb, hlt, _⟩ := ha j i h
    omega
  | n + 1, j, i, hj, hd, h => by
    obtain ⟨o, ho, e, he, hb, hlt, hx⟩ := ha j i h
    have hl := hd o ho e he hb
    rcases hx with rfl | hx
    · exact hl
    · exact anc_listed ha hc n e.on i (by omega) (fun o' ho' => hc.2 e.on o' ho' hl) hx

theorem Closed.set {listed : Array Bool} (hc : Closed ops listed) {i : Nat} (hi : i ∈ Region.ready .any ops listed) : Closed ops (listed.setIfInBounds i true) := by
  obtain ⟨_, oi, hoi, hall⟩ := mem_ready.1 hi
  refine ⟨by simp [hc.1], fun j oj hj hl e he hb => ?_⟩
  by_cases hij : i = j
  · subst hij
    have : oj = oi := Option.some.inj (hj.symm.trans hoi)
    subst this
    exact getD_set_true (hall e he hb)
  · rw [getD_set_ne false hij] at hl
    exact getD_set_true (hc.2 j oj hj hl e he hb)

theorem ready_lt {listed : Array Bool} {i : Nat} (hi : i ∈ Region.ready .any ops listed) : i < ops.size := by
  obtain ⟨_, oi, hoi, _⟩ := mem_ready.1 hi
  exact (Array.getElem?_eq_some_iff.1 hoi).1

theorem ready_set {listed : Array Bool} {i j : Nat} (hij : i ≠ j) (hj : j ∈ Region.ready .any ops listed) : j ∈ Region.ready .any ops (listed.setIfInBounds i true) := by
  obtain ⟨h1, o, ho, h2⟩ := mem_ready.1 hj
  exact mem_ready.2 ⟨by rw [getD_set_ne true hij]; exact h1, o, ho, fun e he hb => getD_set_true (h2 e he hb)⟩

theorem unlisted_false {listed : Array Bool} (hc : Closed ops listed) {i : Nat} (hi : i < ops.size) (h : listed.getD i true = false) : listed.getD i false = false := by
  have hlt : i < listed.size := by rw [hc.1]; exact hi
  simp [hlt] at h ⊢
  exact h

/-- WHAT DOES NOT TURN MEMORY MAY BE DONE AT ONCE. -/
theorem ample {anc : Nat → Nat → Bool} (hap : Apart ops anc) (ha : AncOK ops anc) : ∀ (f : Nat) (listed : Array Bool) (h : Nat → World → Prop) (a : Act) (w : World) (i : Nat) (o : Oper) (v : Value) (S : World → Prop),
    Closed ops listed → (∀ k, listed.getD k false = false → h k = fun _ => True) → i ∈ Region.ready .any ops listed → ops[i]? = some o → still P o = true → S w → (∀ w', S w' → StepV P ops o a w' v) →
    wpH P ops anc q Q f (listed.setIfInBounds i true) (upd h i S) (a.put o.dst v) w → wpH P ops anc q Q (f + 1) listed h a w
  | f, listed, h, a, w, i, o, v, S, hc, hh, hi, ho, hst, hS, hv, hK => by
    refine ⟨fun hr => (by rw [hr] at hi; cases hi), fun j hj oj hoj => ?_⟩
    by_cases hij : i = j
    · subst hij
      have : oj = o := Option.some.inj (hoj.symm.trans ho)
      subst this
      exact ⟨fun _ => ⟨v, S, hS, hv, hK⟩, fun h' => by rw [hst] at h'; cases h'⟩
    · have hjr := ready_set hij hj
      have hir := ready_set (Ne.symm hij) hi
      obtain ⟨hi1, _, _, hi2⟩ := mem_ready.1 hi
      obtain ⟨hj1, _, _, hj2⟩ := mem_ready.1 hj
      have hin := unlisted_false hc (ready_lt hi) hi1
      have hjn := unlisted_false hc (ready_lt hj) hj1
      have anc_ij : anc i j = false := by
        cases hx : anc i j with
        | false => rfl
        | true =>
          have := anc_listed ha hc i i j (Nat.le_refl _) (fun o' ho' => (mem_ready.1 hi).2.elim fun oo hoo => by
            have : o' = oo := Option.some.inj (ho'.symm.trans hoo.1)
            subst this; exact hoo.2) hx
          rw [hjn] at this; cases this
      have anc_ji : anc j i = false := by
        cases hx : anc j i with
        | false => rfl
        | true =>
          have := anc_listed ha hc j j i (Nat.le_refl _) (fun o' ho' => (mem_ready.1 hj).2.elim fun oo hoo => by
            have : o' = oo := Option.some.inj (ho'.symm.trans hoo.1)
            subst this; exact hoo.2) hx
          rw [hin] at this; cases this
      have hapart : Oper.apart ops o oj = true ∧ Oper.apart ops oj o = true := by
        rcases Nat.lt_or_gt_of_ne hij with hlt | hlt
        · exact hap i j o oj hlt ho hoj anc_ji
        · exact (hap j i oj o hlt hoj ho anc_ij).symm
      have hsel := not_select hst
      cases f with
      | zero => rw [hK.1] at hjr; cases hjr
      | succ f =>
        obtain ⟨h1, h2⟩ := hK.2 j hjr oj hoj
        have hcomm : ∀ u, (a.put o.dst v).put oj.dst u = (a.put oj.dst u).put o.dst v := fun u => Act.put_comm a v u (Oper.apart_spec hapart.1).2.1
        have hlist : (listed.setIfInBounds i true).setIfInBounds j true = (listed.setIfInBounds j true).setIfInBounds i true := Array.setIfInBounds_comm _ _ hij
        have hh' : ∀ T, ∀ k, (listed.setIfInBounds j true).getD k false = false → upd h j T k = fun _ => True := by
          intro T k hk
          by_cases hkj : k = j
          · subst hkj
            rw [show (listed.setIfInBounds k true).getD k false = true by have : k < listed.size := by rw [hc.1]; exact ready_lt hj
                                                                          simp [this]] at hk
            cases hk
          · unfold upd
            rw [if_neg hkj]
            exact hh k (by rwa [getD_set_ne false (Ne.symm hkj)] at hk)
        refine ⟨fun hs => ?_, fun hs => ?_⟩
        · obtain ⟨u, T, hT, hu, hK2⟩ := h1 hs
          have hselj := not_select hs
          refine ⟨u, T, hT, fun w' hw' => (StepV_put hapart.1 hselj).1 (hu w' hw'), ?_⟩
          refine ample hap ha f _ _ _ w i o v S (hc.set hj) (hh' T) hir ho hst hS (fun w' hw' => (StepV_put hapart.2 hsel).2 (hv w' hw')) ?_
          rw [hcomm u, hlist, upd_comm h hij] at hK2
          exact hK2
        · obtain ⟨hselj, h2⟩ := h2 hs
          refine ⟨hselj, (CStep_put hapart.1 hselj h2).mono fun u w' ⟨hchk, hK2⟩ => ⟨fun k hk => ?_, ?_⟩⟩
          · by_cases hki : k = i
            · subst hki; rw [hh k hin]; trivial
            · have := hchk k hk
              unfold upd at this
              rwa [if_neg hki] at this
          · have hS' : S w' := by
              have := hchk i anc_ji
              unfold upd at this
              rwa [if_pos rfl] at this
            have hh2 : ∀ k, (listed.setIfInBounds j true).getD k false = false → h k = fun _ => True := by
              intro k hk
              by_cases hkj : k = j
              · subst hkj; exact hh k hjn
              · exact hh k (by rwa [getD_set_ne false (Ne.symm hkj)] at hk)
            refine ample hap ha f _ _ _ w' i o v S (hc.set hj) hh2 hir ho hst hS' (fun w'' hw'' => (StepV_put hapart.2 hsel).2 (hv w'' hw'')) ?_
            rw [hcomm u, hlist] at hK2
            exact hK2
end

end Go.Ev
