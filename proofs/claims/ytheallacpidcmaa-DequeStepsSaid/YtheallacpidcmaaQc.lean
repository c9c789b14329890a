/-
  Layer 10: an operation of a deque: a step.
-/
import Derived.Test.YtheallacpidcmaaQb
import Derived.Test.YtheallacpidcmaaEvU
set_option linter.unusedSimpArgs false
set_option linter.unusedVariables false
set_option maxRecDepth 100000
namespace Go.Proofs.Ytheallacpidcmaa
open Go Go.Ev Go.Proofs

section
variable {w0 w : World} {L R : List HP} {gm go : Nat} {M : Mac} {O : Dop} {p : Option Addr} {wk : Int} {k : Int × Int → World → Prop}
theorem opP_none (hc : O.copy = none) : opP go O = blk go (O.cells none) := by unfold opP; rw [hc]
theorem opP_some {c : Cp} (hc : O.copy = some c) : opP go O = exHP fun gc : Nat => sepHP [blk go (O.cells (some ⟨gc, 0, none⟩)), cpy gc c] := by unfold opP; rw [hc]
theorem opP_open {c : Cp} (hc : O.copy = some c) (h : St w0 w (opP go O :: R)) : ∃ gc, St w0 w (blk go (O.cells (some ⟨gc, 0, none⟩)) :: cpy gc c :: R) := by
  rw [opP_some hc] at h
  obtain ⟨gc, h⟩ := h.some
  exact ⟨gc, h.open⟩
theorem opP_shut {c : Cp} {gc : Nat} (hc : O.copy = some c) (h : St w0 w (blk go (O.cells (some ⟨gc, 0, none⟩)) :: cpy gc c :: R)) : St w0 w (opP go O :: R) := by
  rw [opP_some hc]
  exact St.ex (X := fun gc : Nat => sepHP [blk go (O.cells (some ⟨gc, 0, none⟩)), cpy gc c]) gc (St.shut h)
theorem opP_fin {a b : Int} {c : World → Prop} (h : St w0 w (opP go O :: R)) (hk : ∀ w', St w0 w' (opP go { O with how := a, err := b } :: R) → c w') :
    stC w ⟨go, 12, none⟩ (.int .i64 a) fun w => stC w ⟨go, 14, none⟩ (.int .i64 b) c := by
  cases hc : O.copy with
  | none =>
    rw [opP_none hc] at h
    have e : opP go { O with how := a, err := b } = blk go (Dop.cells { O with how := a, err := b } none) := opP_none hc
    rw [e] at hk
    exact stC_h (g := go) (o := 12) h rfl (by simp [Dop.cells]) fun w1 h => stC_h (g := go) (o := 14) h rfl (by simp [Dop.cells]) fun w2 h => hk w2 h
  | some c =>
    obtain ⟨gc, h⟩ := opP_open hc h
    refine stC_h (g := go) (o := 12) h rfl (by simp [Dop.cells]) fun w1 h => stC_h (g := go) (o := 14) h rfl (by simp [Dop.cells]) fun w2 h => hk w2 ?_
    exact opP_shut (O := { O with how := a, err := b }) (gc := gc) (c := c) hc h

theorem p3 (h : St w0 w (blk go (O.cells none) :: mach gm M :: R)) (hcp : O.copy = none) (hM : M.OK) (hb : InI O.b) (ht : InI O.t) (hk : ∀ w', St w0 w' (opP go (O.f3 M wk).1 :: mach gm (O.f3 M wk).2.1 :: R) → k ((O.f3 M wk).2.2.1, (O.f3 M wk).2.2.2) w') : deque_Op_pushNew (some ⟨go, 0, none⟩) (some ⟨gm, 0, none⟩) wk w k := by
  unfold deque_Op_pushNew deque_Op_pushNew_b
  refine nn_i (ldI_h (g := go) (o := 5) (n := O.ring.Log) h rfl ?_)
  unfold Dop.f3 at hk
  refine rnew_s (g := gm) (M := M) (log := O.lg) h hM (fun h0 h8 hca hr w4 h => ?_) (fun h0 h8 hca hr w4 h => ?_) fun hno w4 h => ?_
  · have hr' : M.room O.pw2 = true := hr
    rw [if_pos ⟨h0, h8, hca⟩, if_pos hr'] at hk
    refine newC_h h fun g5 w6 h => stW_h (g := g5) h rfl rfl (by intro v hv; simp [Rg.ag] at hv; rcases hv with rfl | rfl <;> rfl) fun w7 h => iteB_f rfl ?_
    refine ldW_h (g := g5) h rfl (nn_i ?_)
    refine stA_h (g := go) (o := 8) (n := 2) h rfl (by simp [Dop.cells]) (by intro v hv; simp [Rg.ag] at hv; rcases hv with rfl | rfl <;> rfl) fun w10 h => drew_h h fun w11 h => nn_i ?_
    have h : St w0 w11 (blk g5 (Rg.ag (O.tor M)).toList :: blk go (Dop.cells { O with to := O.tor M } none) :: mach gm ((M.tick wk).grow O.pw2) :: R) := h
    refine ldA_h (g := go) (o := 4) h (by simp [Dop.cells]) (ldW_h (g := g5) h rfl (nn_i (ldI_h (g := go) (o := 3) (n := O.t) h rfl (nn_i (ldI_h (g := go) (o := 2) (n := O.b) h rfl ?_)))))
    refine copy_s (a := O.ring) (b := O.tor M) ht hb h (fun he gc w20 h => ?_) fun he w20 h => ?_
    · rw [if_pos he] at hk
      refine nn_i (stC_h (g := go) (o := 10) h rfl (by simp [Dop.cells]) fun w22 h => nn_i (stC_h (g := go) (o := 11) h rfl (by simp [Dop.cells]) fun w24 h => hk w24 ?_))
      refine opP_shut (O := { O with to := O.tor M, copy := some (Cp.begin O.ring (O.tor M) O.t O.b), next := 4 }) (gc := gc) (c := Cp.begin O.ring (O.tor M) O.t O.b) rfl ?_
      exact (h.rm 1 rfl).swap
    · rw [if_neg he] at hk
      refine nn_i (stC_h (g := go) (o := 10) h rfl (by simp [Dop.cells]) fun w22 h => nn_i (stC_h (g := go) (o := 11) h rfl (by simp [Dop.cells]) fun w24 h => hk w24 ?_))
      rw [opP_none (O := { O with to := O.tor M, copy := none, next := 4 }) rfl]
      exact h.drop
  · have hr' : M.room O.pw2 = false := hr
    rw [if_pos ⟨h0, h8, hca⟩, if_neg (by rw [hr']; simp)] at hk
    refine newC_h h fun g5 w6 h => stW_h (g := g5) h rfl rfl (by intro v hv; simp [Rg.ag, Rg.zero] at hv; rw [hv]; rfl) fun w7 h => iteB_t rfl (hk w7 ?_)
    rw [opP_none hcp]; exact h.drop
  · rw [if_neg hno] at hk
    refine newC_h h fun g5 w6 h => stW_h (g := g5) h rfl rfl (by intro v hv; simp [Rg.ag, Rg.zero] at hv; rw [hv]; rfl) fun w7 h => iteB_t rfl (hk w7 ?_)
    rw [opP_none hcp]; exact h.drop
theorem p4 {c : Cp} {gc : Nat} (h : St w0 w (blk go (O.cells (some ⟨gc, 0, none⟩)) :: cpy gc c :: mach gm M :: R)) (hcp : O.copy = some c) (hk : ∀ w', St w0 w' (opP go (O.f4 M wk c).1 :: mach gm (O.f4 M wk c).2.1 :: R) → k ((O.f4 M wk c).2.2.1, (O.f4 M wk c).2.2.2) w') : deque_Op_pushCopy (some ⟨go, 0, none⟩) (some ⟨gm, 0, none⟩) wk w k := by
  unfold deque_Op_pushCopy deque_Op_pushCopy_b
  refine nn_i (ldP_h (g := go) (o := 10) (n := some ⟨gc, 0, none⟩) h rfl ?_)
  unfold Dop.f4 at hk
  have h : St w0 w (cpy gc c :: mach gm M :: blk go (O.cells (some ⟨gc, 0, none⟩)) :: R) := h.perm (by repeat' (first | exact List.Perm.refl _ | refine perm_f 0 rfl ?_ | refine perm_f 1 rfl ?_ | refine perm_f 2 rfl ?_ | refine perm_f 3 rfl ?_ | refine perm_f 4 rfl ?_ | refine perm_f 5 rfl ?_ | refine perm_f 6 rfl ?_ | refine perm_f 7 rfl ?_))
  refine step_s h (fun he w4 h => ?_) (fun hne hc w4 h => ?_) (fun hne hc hl w4 h => ?_) fun hne hc hl w4 h => ?_
  · rw [if_pos he] at hk
    refine iteB_t rfl (nn_i (stC_h (g := go) (o := 11) h rfl (by simp [Dop.cells]) fun w6 h => hk w6 ?_))
    exact opP_shut (O := { O with next := 5 }) (gc := gc) (c := c) hcp (h.perm (by repeat' (first | exact List.Perm.refl _ | refine perm_f 0 rfl ?_ | refine perm_f 1 rfl ?_ | refine perm_f 2 rfl ?_ | refine perm_f 3 rfl ?_ | refine perm_f 4 rfl ?_ | refine perm_f 5 rfl ?_ | refine perm_f 6 rfl ?_ | refine perm_f 7 rfl ?_)))
  · rw [if_neg hne, if_neg (by rw [hc]; simp)] at hk
    exact iteB_f rfl (hk w4 (opP_shut (O := O) (gc := gc) (c := c) hcp (h.perm (by repeat' (first | exact List.Perm.refl _ | refine perm_f 0 rfl ?_ | refine perm_f 1 rfl ?_ | refine perm_f 2 rfl ?_ | refine perm_f 3 rfl ?_ | refine perm_f 4 rfl ?_ | refine perm_f 5 rfl ?_ | refine perm_f 6 rfl ?_ | refine perm_f 7 rfl ?_)))))
  · rw [if_neg hne, if_pos hc, if_neg (by rw [hl]; simp)] at hk
    exact iteB_f rfl (hk w4 (opP_shut (O := { O with copy := some (c.next (M.get c.spot)) }) (gc := gc) (c := c.next (M.get c.spot)) rfl (h.perm (by repeat' (first | exact List.Perm.refl _ | refine perm_f 0 rfl ?_ | refine perm_f 1 rfl ?_ | refine perm_f 2 rfl ?_ | refine perm_f 3 rfl ?_ | refine perm_f 4 rfl ?_ | refine perm_f 5 rfl ?_ | refine perm_f 6 rfl ?_ | refine perm_f 7 rfl ?_)))))
  · rw [if_neg hne, if_pos hc, if_pos hl] at hk
    refine iteB_i (fun hb => ?_) fun hb => ?_
    · have hb' : (c.next 0).at_ = c.until_ := by simpa using hb
      rw [if_pos hb'] at hk
      refine nn_i (stC_h (g := go) (o := 11) h rfl (by simp [Dop.cells]) fun w6 h => hk w6 ?_)
      exact opP_shut (O := { O with copy := some (c.next 0), next := 5 }) (gc := gc) (c := c.next 0) rfl (h.perm (by repeat' (first | exact List.Perm.refl _ | refine perm_f 0 rfl ?_ | refine perm_f 1 rfl ?_ | refine perm_f 2 rfl ?_ | refine perm_f 3 rfl ?_ | refine perm_f 4 rfl ?_ | refine perm_f 5 rfl ?_ | refine perm_f 6 rfl ?_ | refine perm_f 7 rfl ?_)))
    · have hb' : ¬ (c.next 0).at_ = c.until_ := by simpa using hb
      rw [if_neg hb'] at hk
      exact hk w4 (opP_shut (O := { O with copy := some (c.next 0), next := O.next }) (gc := gc) (c := c.next 0) rfl (h.perm (by repeat' (first | exact List.Perm.refl _ | refine perm_f 0 rfl ?_ | refine perm_f 1 rfl ?_ | refine perm_f 2 rfl ?_ | refine perm_f 3 rfl ?_ | refine perm_f 4 rfl ?_ | refine perm_f 5 rfl ?_ | refine perm_f 6 rfl ?_ | refine perm_f 7 rfl ?_))))

/-- what a step asks -/
structure Dop.Fine (O : Dop) : Prop where
  n3 : O.next = 3 → O.copy = none ∧ InI O.b ∧ InI O.t
  n4 : O.next = 4 → ∃ c, O.copy = some c
  n : O.next ≤ 19
theorem callF_p {orc : Oracle} {id : FuncId} {a b c' : Value} {w : World} {c : Value → World → Prop} {d : Dec} (e : ∀ args w c, orc (.func id) args w c = d args.toList w c) (h : d [a, b, c'] w c) : callF orc (.func (.func id) #[] #[]) #[a, b, c'] w c :=
  callF_i e h
theorem q_pushBottom {a b : Option Addr} {i : Int} {w : World} {c : Value → World → Prop} (h : deque_Op_pushBottom a b i w fun r w => c (packV (valL [(.i .i64), (.i .i64)] r)) w) : d_deque_Op_pushBottom [.pointer a, .pointer b, .int .i64 i] w c := h
theorem q_pushTop {a b : Option Addr} {i : Int} {w : World} {c : Value → World → Prop} (h : deque_Op_pushTop a b i w fun r w => c (packV (valL [(.i .i64), (.i .i64)] r)) w) : d_deque_Op_pushTop [.pointer a, .pointer b, .int .i64 i] w c := h
theorem q_pushRing {a b : Option Addr} {i : Int} {w : World} {c : Value → World → Prop} (h : deque_Op_pushRing a b i w fun r w => c (packV (valL [(.i .i64), (.i .i64)] r)) w) : d_deque_Op_pushRing [.pointer a, .pointer b, .int .i64 i] w c := h
theorem q_pushNew {a b : Option Addr} {i : Int} {w : World} {c : Value → World → Prop} (h : deque_Op_pushNew a b i w fun r w => c (packV (valL [(.i .i64), (.i .i64)] r)) w) : d_deque_Op_pushNew [.pointer a, .pointer b, .int .i64 i] w c := h
theorem q_pushCopy {a b : Option Addr} {i : Int} {w : World} {c : Value → World → Prop} (h : deque_Op_pushCopy a b i w fun r w => c (packV (valL [(.i .i64), (.i .i64)] r)) w) : d_deque_Op_pushCopy [.pointer a, .pointer b, .int .i64 i] w c := h
theorem q_pushWord {a b : Option Addr} {i : Int} {w : World} {c : Value → World → Prop} (h : deque_Op_pushWord a b i w fun r w => c (packV (valL [(.i .i64), (.i .i64)] r)) w) : d_deque_Op_pushWord [.pointer a, .pointer b, .int .i64 i] w c := h
theorem q_pushThing {a b : Option Addr} {i : Int} {w : World} {c : Value → World → Prop} (h : deque_Op_pushThing a b i w fun r w => c (packV (valL [(.i .i64), (.i .i64)] r)) w) : d_deque_Op_pushThing [.pointer a, .pointer b, .int .i64 i] w c := h
theorem q_pushDone {a b : Option Addr} {i : Int} {w : World} {c : Value → World → Prop} (h : deque_Op_pushDone a b i w fun r w => c (packV (valL [(.i .i64), (.i .i64)] r)) w) : d_deque_Op_pushDone [.pointer a, .pointer b, .int .i64 i] w c := h
theorem q_popBottom {a b : Option Addr} {i : Int} {w : World} {c : Value → World → Prop} (h : deque_Op_popBottom a b i w fun r w => c (packV (valL [(.i .i64), (.i .i64)] r)) w) : d_deque_Op_popBottom [.pointer a, .pointer b, .int .i64 i] w c := h
theorem q_popRing {a b : Option Addr} {i : Int} {w : World} {c : Value → World → Prop} (h : deque_Op_popRing a b i w fun r w => c (packV (valL [(.i .i64), (.i .i64)] r)) w) : d_deque_Op_popRing [.pointer a, .pointer b, .int .i64 i] w c := h
theorem q_popLess {a b : Option Addr} {i : Int} {w : World} {c : Value → World → Prop} (h : deque_Op_popLess a b i w fun r w => c (packV (valL [(.i .i64), (.i .i64)] r)) w) : d_deque_Op_popLess [.pointer a, .pointer b, .int .i64 i] w c := h
theorem q_popTop {a b : Option Addr} {i : Int} {w : World} {c : Value → World → Prop} (h : deque_Op_popTop a b i w fun r w => c (packV (valL [(.i .i64), (.i .i64)] r)) w) : d_deque_Op_popTop [.pointer a, .pointer b, .int .i64 i] w c := h
theorem q_popThing {a b : Option Addr} {i : Int} {w : World} {c : Value → World → Prop} (h : deque_Op_popThing a b i w fun r w => c (packV (valL [(.i .i64), (.i .i64)] r)) w) : d_deque_Op_popThing [.pointer a, .pointer b, .int .i64 i] w c := h
theorem q_popLast {a b : Option Addr} {i : Int} {w : World} {c : Value → World → Prop} (h : deque_Op_popLast a b i w fun r w => c (packV (valL [(.i .i64), (.i .i64)] r)) w) : d_deque_Op_popLast [.pointer a, .pointer b, .int .i64 i] w c := h
theorem q_popBack {a b : Option Addr} {i : Int} {w : World} {c : Value → World → Prop} (h : deque_Op_popBack a b i w fun r w => c (packV (valL [(.i .i64), (.i .i64)] r)) w) : d_deque_Op_popBack [.pointer a, .pointer b, .int .i64 i] w c := h
theorem q_stealTop {a b : Option Addr} {i : Int} {w : World} {c : Value → World → Prop} (h : deque_Op_stealTop a b i w fun r w => c (packV (valL [(.i .i64), (.i .i64)] r)) w) : d_deque_Op_stealTop [.pointer a, .pointer b, .int .i64 i] w c := h
theorem q_stealBottom {a b : Option Addr} {i : Int} {w : World} {c : Value → World → Prop} (h : deque_Op_stealBottom a b i w fun r w => c (packV (valL [(.i .i64), (.i .i64)] r)) w) : d_deque_Op_stealBottom [.pointer a, .pointer b, .int .i64 i] w c := h
theorem q_stealRing {a b : Option Addr} {i : Int} {w : World} {c : Value → World → Prop} (h : deque_Op_stealRing a b i w fun r w => c (packV (valL [(.i .i64), (.i .i64)] r)) w) : d_deque_Op_stealRing [.pointer a, .pointer b, .int .i64 i] w c := h
theorem q_stealThing {a b : Option Addr} {i : Int} {w : World} {c : Value → World → Prop} (h : deque_Op_stealThing a b i w fun r w => c (packV (valL [(.i .i64), (.i .i64)] r)) w) : d_deque_Op_stealThing [.pointer a, .pointer b, .int .i64 i] w c := h
theorem q_stealDone {a b : Option Addr} {i : Int} {w : World} {c : Value → World → Prop} (h : deque_Op_stealDone a b i w fun r w => c (packV (valL [(.i .i64), (.i .i64)] r)) w) : d_deque_Op_stealDone [.pointer a, .pointer b, .int .i64 i] w c := h
/-- a phase that leaves the copying alone -/
theorem ph_i {r : Dst} {F : Option Addr → Option Addr → Int → World → ((Int × Int) → World → Prop) → Prop} (h : St w0 w (opP go O :: mach gm M :: L)) (hr : r.1.copy = O.copy)
    (hF : ∀ {p R}, St w0 w (blk go (O.cells p) :: mach gm M :: R) → opB w0 go gm p R k r → F (some ⟨go, 0, none⟩) (some ⟨gm, 0, none⟩) wk w k)
    (hk : ∀ w', St w0 w' (opP go r.1 :: mach gm r.2.1 :: L) → k (r.2.2.1, r.2.2.2) w') : F (some ⟨go, 0, none⟩) (some ⟨gm, 0, none⟩) wk w k := by
  cases hc : O.copy with
  | none =>
    rw [opP_none hc] at h
    refine hF h fun w' h => hk w' ?_
    rw [opP_none (hr.trans hc)]; exact h
  | some c =>
    obtain ⟨gc, h⟩ := opP_open hc h
    refine hF (p := some ⟨gc, 0, none⟩) (R := cpy gc c :: L) (h.perm (by repeat' (first | exact List.Perm.refl _ | refine perm_f 0 rfl ?_ | refine perm_f 1 rfl ?_ | refine perm_f 2 rfl ?_ | refine perm_f 3 rfl ?_ | refine perm_f 4 rfl ?_ | refine perm_f 5 rfl ?_ | refine perm_f 6 rfl ?_ | refine perm_f 7 rfl ?_))) fun w' h => hk w' ?_
    exact opP_shut (O := r.1) (gc := gc) (c := c) (hr.trans hc) (h.perm (by repeat' (first | exact List.Perm.refl _ | refine perm_f 0 rfl ?_ | refine perm_f 1 rfl ?_ | refine perm_f 2 rfl ?_ | refine perm_f 3 rfl ?_ | refine perm_f 4 rfl ?_ | refine perm_f 5 rfl ?_ | refine perm_f 6 rfl ?_ | refine perm_f 7 rfl ?_)))
end
theorem read_copy {O : Dop} {M : Mac} {wk : Int} : (O.read M wk).1.copy = O.copy := by
  unfold Dop.read; split
  · split <;> rfl
  · rfl
theorem f2_copy {O : Dop} {M : Mac} {wk : Int} : (O.f2 M wk).1.copy = O.copy := by
  unfold Dop.f2; split
  · exact read_copy
  · split
    · exact read_copy
    · split <;> exact read_copy

section
variable {w0 w : World} {L : List HP} {gm go : Nat} {M : Mac} {O : Dop} {wk : Int}
theorem step_r {k : Int → World → Prop} (h : St w0 w (opP go O :: mach gm M :: L)) (hf : O.Fine) (hM : M.OK) (hk : ∀ w', St w0 w' (opP go (O.step M wk).1 :: mach gm (O.step M wk).2 :: L) → k (O.step M wk).1.how w') : deque_Op_Step (some ⟨go, 0, none⟩) (some ⟨gm, 0, none⟩) wk w k := by
  have how : ∀ {w : World} {c : Int → Prop}, St w0 w (opP go O :: mach gm M :: L) → c O.how → ldI .i64 w (Addr.add ⟨go, 0, none⟩ 12) c := by
    intro w c h hc
    cases q : O.copy with
    | none => rw [opP_none q] at h; exact ldI_h (g := go) (o := 12) h rfl hc
    | some c => obtain ⟨gc, h⟩ := opP_open q h; exact ldI_h (g := go) (o := 12) h rfl hc
  have hnx : ∀ {w : World} {c : Value → Prop}, St w0 w (opP go O :: mach gm M :: L) → c (phF O.next) → ldV w (Addr.add ⟨go, 0, none⟩ 11) c := by
    intro w c h hc
    cases q : O.copy with
    | none => rw [opP_none q] at h; exact ldV_h (g := go) (o := 11) h rfl hc
    | some c => obtain ⟨gc, h⟩ := opP_open q h; exact ldV_h (g := go) (o := 11) h rfl hc
  unfold deque_Op_Step deque_Op_Step_b
  unfold Dop.step at hk
  refine iteB_f rfl (joinP_i (fun b w' => b = !O.live ∧ w' = w) (fun J hJ => ?_) ?_)
  · unfold Dop.live at hJ
    refine nn_i (how h (iteB_i (fun hb => ?_) fun hb => ?_))
    · have hb' : (O.how == 0) = false := by simpa [bne] using hb
      rw [hb'] at hJ
      exact nn_i (how h (hJ _ _ ⟨by simp [bne], rfl⟩))
    · have hb' : (O.how == 0) = true := by simpa [bne] using hb
      rw [hb'] at hJ
      exact hJ _ _ ⟨rfl, rfl⟩
  rintro b6 w7 ⟨rfl, rfl⟩
  refine iteB_i (fun hb => ?_) fun hb => ?_
  · have hl : O.live = false := by simpa using hb
    rw [if_neg (by rw [hl]; simp)] at hk
    exact nn_i (how h (hk _ h))
  · have hl : O.live = true := by simpa using hb
    rw [if_pos hl] at hk
    refine nn_i (hnx h ?_)
    have fin : ∀ w', St w0 w' (opP go (O.run M wk).1 :: mach gm (O.run M wk).2.1 :: L) → unT [(.i .i64), (.i .i64)] (packV (valL [(.i .i64), (.i .i64)] ((O.run M wk).2.2.1, (O.run M wk).2.2.2))) fun (x14 : Int × Int) =>
      joinP (S := Int) (fun J15 =>
        iteB (x14.2 != (0 : Int)) (
          (J15 (6 : Int) w')) (
          (J15 x14.1 w'))) fun i16 w17 =>
      nn (some ⟨go, 0, none⟩) fun a18 =>
      stC w17 (Addr.add a18 12) (.int .i64 i16) fun w19 =>
      nn (some ⟨go, 0, none⟩) fun a20 =>
      stC w19 (Addr.add a20 14) (.int .i64 x14.2) fun w21 =>
      (k i16 w21) := by
      intro w' h
      generalize O.run M wk = r at h hk
      show joinP (S := Int) (fun J15 =>
        iteB (r.2.2.2 != (0 : Int)) (
          (J15 (6 : Int) w')) (
          (J15 r.2.2.1 w'))) fun i16 w17 =>
      nn (some ⟨go, 0, none⟩) fun a18 =>
      stC w17 (Addr.add a18 12) (.int .i64 i16) fun w19 =>
      nn (some ⟨go, 0, none⟩) fun a20 =>
      stC w19 (Addr.add a20 14) (.int .i64 r.2.2.2) fun w21 =>
      (k i16 w21)
      refine joinP_i (fun n w'' => n = (if r.2.2.2 = 0 then r.2.2.1 else 6) ∧ w'' = w') (fun J hJ => ?_) ?_
      · refine iteB_i (fun hb => ?_) fun hb => ?_
        · have hb' : ¬ r.2.2.2 = 0 := by simpa using hb
          exact hJ _ _ ⟨by rw [if_neg hb'], rfl⟩
        · have hb' : r.2.2.2 = 0 := by simpa using hb
          exact hJ _ _ ⟨by rw [if_pos hb'], rfl⟩
      rintro n w17 ⟨rfl, rfl⟩
      exact nn_i (opP_fin h fun w21 h => hk w21 h)
    clear hk
    have hn := hf.n
    obtain hn0 | hn0 | hn0 | hn0 | hn0 | hn0 | hn0 | hn0 | hn0 | hn0 | hn0 | hn0 | hn0 | hn0 | hn0 | hn0 | hn0 | hn0 | hn0 | hn0 : O.next = 0 ∨ O.next = 1 ∨ O.next = 2 ∨ O.next = 3 ∨ O.next = 4 ∨ O.next = 5 ∨ O.next = 6 ∨ O.next = 7 ∨ O.next = 8 ∨ O.next = 9 ∨ O.next = 10 ∨ O.next = 11 ∨ O.next = 12 ∨ O.next = 13 ∨ O.next = 14 ∨ O.next = 15 ∨ O.next = 16 ∨ O.next = 17 ∨ O.next = 18 ∨ O.next = 19 := by omega
    all_goals rw [hn0]
    · have e : O.run M wk = O.f0 M wk := by unfold Dop.run; simp only [hn0]
      rw [e] at fin
      refine callF_p (d := d_deque_Op_pushBottom) (fun _ _ _ => rfl) (q_pushBottom ?_)
      exact ph_i (F := deque_Op_pushBottom) h rfl (fun h hk => p0 h hk) fin
    · have e : O.run M wk = O.f1 M wk := by unfold Dop.run; simp only [hn0]
      rw [e] at fin
      refine callF_p (d := d_deque_Op_pushTop) (fun _ _ _ => rfl) (q_pushTop ?_)
      exact ph_i (F := deque_Op_pushTop) h rfl (fun h hk => p1 h hk) fin
    · have e : O.run M wk = O.f2 M wk := by unfold Dop.run; simp only [hn0]
      rw [e] at fin
      refine callF_p (d := d_deque_Op_pushRing) (fun _ _ _ => rfl) (q_pushRing ?_)
      exact ph_i (F := deque_Op_pushRing) h f2_copy (fun h hk => p2 h hk) fin
    · have e : O.run M wk = O.f3 M wk := by unfold Dop.run; simp only [hn0]
      rw [e] at fin
      obtain ⟨hc, hb1, hb2⟩ := hf.n3 hn0
      rw [opP_none hc] at h
      refine callF_p (d := d_deque_Op_pushNew) (fun _ _ _ => rfl) (q_pushNew ?_)
      exact p3 h hc hM hb1 hb2 fin
    · obtain ⟨c, hc⟩ := hf.n4 hn0
      have e : O.run M wk = O.f4 M wk c := by unfold Dop.run; simp only [hn0, hc]
      rw [e] at fin
      obtain ⟨gc, h⟩ := opP_open hc h
      refine callF_p (d := d_deque_Op_pushCopy) (fun _ _ _ => rfl) (q_pushCopy ?_)
      exact p4 h hc fin
    · have e : O.run M wk = O.f5 M wk := by unfold Dop.run; simp only [hn0]
      rw [e] at fin
      refine callF_p (d := d_deque_Op_pushWord) (fun _ _ _ => rfl) (q_pushWord ?_)
      exact ph_i (F := deque_Op_pushWord) h rfl (fun h hk => p5 h hk) fin
    · have e : O.run M wk = O.f6 M wk := by unfold Dop.run; simp only [hn0]
      rw [e] at fin
      refine callF_p (d := d_deque_Op_pushThing) (fun _ _ _ => rfl) (q_pushThing ?_)
      exact ph_i (F := deque_Op_pushThing) h rfl (fun h hk => p6 h hk) fin
    · have e : O.run M wk = O.f7 M wk := by unfold Dop.run; simp only [hn0]
      rw [e] at fin
      refine callF_p (d := d_deque_Op_pushDone) (fun _ _ _ => rfl) (q_pushDone ?_)
      exact ph_i (F := deque_Op_pushDone) h rfl (fun h hk => p7 h hk) fin
    · have e : O.run M wk = O.f8 M wk := by unfold Dop.run; simp only [hn0]
      rw [e] at fin
      refine callF_p (d := d_deque_Op_popBottom) (fun _ _ _ => rfl) (q_popBottom ?_)
      exact ph_i (F := deque_Op_popBottom) h rfl (fun h hk => p8 h hk) fin
    · have e : O.run M wk = O.f9 M wk := by unfold Dop.run; simp only [hn0]
      rw [e] at fin
      refine callF_p (d := d_deque_Op_popRing) (fun _ _ _ => rfl) (q_popRing ?_)
      exact ph_i (F := deque_Op_popRing) h (read_copy (O := { O with next := 10 })) (fun h hk => p9 h hk) fin
    · have e : O.run M wk = O.f10 M wk := by unfold Dop.run; simp only [hn0]
      rw [e] at fin
      refine callF_p (d := d_deque_Op_popLess) (fun _ _ _ => rfl) (q_popLess ?_)
      exact ph_i (F := deque_Op_popLess) h rfl (fun h hk => p10 h hk) fin
    · have e : O.run M wk = O.f11 M wk := by unfold Dop.run; simp only [hn0]
      rw [e] at fin
      refine callF_p (d := d_deque_Op_popTop) (fun _ _ _ => rfl) (q_popTop ?_)
      exact ph_i (F := deque_Op_popTop) h rfl (fun h hk => p11 h hk) fin
    · have e : O.run M wk = O.f12 M wk := by unfold Dop.run; simp only [hn0]
      rw [e] at fin
      refine callF_p (d := d_deque_Op_popThing) (fun _ _ _ => rfl) (q_popThing ?_)
      exact ph_i (F := deque_Op_popThing) h rfl (fun h hk => p12 h hk) fin
    · have e : O.run M wk = O.f13 M wk := by unfold Dop.run; simp only [hn0]
      rw [e] at fin
      refine callF_p (d := d_deque_Op_popLast) (fun _ _ _ => rfl) (q_popLast ?_)
      exact ph_i (F := deque_Op_popLast) h rfl (fun h hk => p13 h hk) fin
    · have e : O.run M wk = O.f14 M wk := by unfold Dop.run; simp only [hn0]
      rw [e] at fin
      refine callF_p (d := d_deque_Op_popBack) (fun _ _ _ => rfl) (q_popBack ?_)
      exact ph_i (F := deque_Op_popBack) h rfl (fun h hk => p14 h hk) fin
    · have e : O.run M wk = O.f15 M wk := by unfold Dop.run; simp only [hn0]
      rw [e] at fin
      refine callF_p (d := d_deque_Op_stealTop) (fun _ _ _ => rfl) (q_stealTop ?_)
      exact ph_i (F := deque_Op_stealTop) h rfl (fun h hk => p15 h hk) fin
    · have e : O.run M wk = O.f16 M wk := by unfold Dop.run; simp only [hn0]
      rw [e] at fin
      refine callF_p (d := d_deque_Op_stealBottom) (fun _ _ _ => rfl) (q_stealBottom ?_)
      exact ph_i (F := deque_Op_stealBottom) h rfl (fun h hk => p16 h hk) fin
    · have e : O.run M wk = O.f17 M wk := by unfold Dop.run; simp only [hn0]
      rw [e] at fin
      refine callF_p (d := d_deque_Op_stealRing) (fun _ _ _ => rfl) (q_stealRing ?_)
      exact ph_i (F := deque_Op_stealRing) h (read_copy (O := { O with next := 18 })) (fun h hk => p17 h hk) fin
    · have e : O.run M wk = O.f18 M wk := by unfold Dop.run; simp only [hn0]
      rw [e] at fin
      refine callF_p (d := d_deque_Op_stealThing) (fun _ _ _ => rfl) (q_stealThing ?_)
      exact ph_i (F := deque_Op_stealThing) h rfl (fun h hk => p18 h hk) fin
    · have e : O.run M wk = O.f19 M wk := by unfold Dop.run; simp only [hn0]
      rw [e] at fin
      refine callF_p (d := d_deque_Op_stealDone) (fun _ _ _ => rfl) (q_stealDone ?_)
      exact ph_i (F := deque_Op_stealDone) h rfl (fun h hk => p19 h hk) fin
end
end Go.Proofs.Ytheallacpidcmaa
