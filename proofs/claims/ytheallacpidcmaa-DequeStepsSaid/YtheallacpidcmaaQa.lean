/-
  Layer 10: an operation of a deque, step by step.
-/
import Derived.Test.YtheallacpidcmaaRc
set_option linter.unusedSimpArgs false
set_option linter.unusedVariables false
set_option maxRecDepth 100000
namespace Go.Proofs.Ytheallacpidcmaa
open Go Go.Ev Go.Proofs

/-! ### the machine's operations, as functions -/
def Mac.ld (M : Mac) (wk a : Int) : Mac × Int × Int := if M.can wk a then (M.tick wk, M.get a, 0) else (M, 0, 10)
def Mac.st (M : Mac) (wk a x : Int) : Mac × Int := if M.can wk a then ((M.tick wk).put a x, 0) else (M, 10)
def Mac.cas (M : Mac) (wk a old x : Int) : Mac × Bool × Int := if M.can wk a then (if M.get a = old then ((M.tick wk).put a x, true, 0) else (M.tick wk, false, 0)) else (M, false, 10)

/-- an operation -/
structure Dop where
  most : Int
  b : Int
  t : Int
  ring : Rg
  x : Int
  won : Bool
  to : Rg
  copy : Option Cp
  next : Nat
  how : Int
  got : Int
  err : Int
def phs : List Nat := [n_deque_Op_pushBottom, n_deque_Op_pushTop, n_deque_Op_pushRing, n_deque_Op_pushNew, n_deque_Op_pushCopy, n_deque_Op_pushWord, n_deque_Op_pushThing, n_deque_Op_pushDone, n_deque_Op_popBottom, n_deque_Op_popRing, n_deque_Op_popLess, n_deque_Op_popTop, n_deque_Op_popThing, n_deque_Op_popLast, n_deque_Op_popBack, n_deque_Op_stealTop, n_deque_Op_stealBottom, n_deque_Op_stealRing, n_deque_Op_stealThing, n_deque_Op_stealDone]
def phF (n : Nat) : Value := .func (.func (phs.getD n n_deque_Op_stealDone)) #[] #[]
def Dop.cells (O : Dop) (p : Option Addr) : List Value := [.int .i64 0, .int .i64 O.most, .int .i64 O.b, .int .i64 O.t, .int .i64 O.ring.At, .int .i64 O.ring.Log, .int .i64 O.x, .bool O.won, .int .i64 O.to.At, .int .i64 O.to.Log, .pointer p, phF O.next, .int .i64 O.how, .int .i64 O.got, .int .i64 O.err]
/-- .. in memory -/
def opP (g : Nat) (O : Dop) : HP := match O.copy with
  | none => blk g (O.cells none)
  | some c => exHP fun gc : Nat => sepHP [blk g (O.cells (some ⟨gc, 0, none⟩)), cpy gc c]

def Dop.read (O : Dop) (M : Mac) (wk : Int) : Dop × Mac × Int :=
  if M.can wk 2 then (if (Rg.of (M.get 2)).right then ({ O with ring := Rg.of (M.get 2) }, M.tick wk, 0) else ({ O with ring := Rg.zero }, M.tick wk, 11)) else (O, M, 10)
def wr (x : Int) : Int := IntKind.wrap .i64 x
abbrev Dst := Dop × Mac × Int × Int
section
variable (O : Dop) (M : Mac) (wk : Int)
def Dop.f0 : Dst := ({ O with b := (M.ld wk 1).2.1, next := 1 }, (M.ld wk 1).1, 0, (M.ld wk 1).2.2)
def Dop.f1 : Dst := ({ O with t := (M.ld wk 0).2.1, next := 2 }, (M.ld wk 0).1, 0, (M.ld wk 0).2.2)
def Dop.f2 : Dst := if (O.read M wk).2.2 != 0 then ((O.read M wk).1, (O.read M wk).2.1, 6, (O.read M wk).2.2)
    else if decide (wr ((O.read M wk).1.b - (O.read M wk).1.t) < (O.read M wk).1.ring.size) then ({ (O.read M wk).1 with next := 6 }, (O.read M wk).2.1, 0, 0)
    else if decide ((O.read M wk).1.ring.Log ≥ (O.read M wk).1.most) then ((O.read M wk).1, (O.read M wk).2.1, 4, 0)
    else ({ (O.read M wk).1 with next := 3 }, (O.read M wk).2.1, 0, 0)
def Dop.lg : Int := wr (O.ring.Log + 1)
def Dop.tor : Rg := ⟨(M.cells.length : Nat), O.lg⟩
def Dop.pw2 : Int := ((2 ^ O.lg.toNat : Nat) : Int)
def Dop.f3 : Dst := if 0 ≤ O.lg ∧ O.lg ≤ 8 ∧ M.caller wk = true then
      (if M.room O.pw2 then
        (if begE O.ring (O.tor M) O.t O.b = 0 then ({ O with to := O.tor M, copy := some (Cp.begin O.ring (O.tor M) O.t O.b), next := 4 }, (M.tick wk).grow O.pw2, 0, 0)
        else ({ O with to := O.tor M, copy := none, next := 4 }, (M.tick wk).grow O.pw2, 0, begE O.ring (O.tor M) O.t O.b))
      else (O, M, 6, 21))
    else (O, M, 6, 10)
def Dop.f4 (c : Cp) : Dst := if c.at_ = c.until_ then ({ O with next := 5 }, M, 0, 0)
      else if M.can wk c.spot then
        (if c.loaded then ({ O with copy := some (c.next 0), next := if (c.next 0).at_ = c.until_ then 5 else O.next }, (M.tick wk).put c.spot c.has, 0, 0)
        else ({ O with copy := some (c.next (M.get c.spot)) }, M.tick wk, 0, 0))
      else (O, M, 0, 10)
def Dop.f5 : Dst := ({ O with ring := O.to, next := 6 }, (M.st wk 2 O.to.word).1, 0, (M.st wk 2 O.to.word).2)
def Dop.f6 : Dst := ({ O with next := 7 }, (M.st wk (O.ring.place O.b) O.x).1, 0, (M.st wk (O.ring.place O.b) O.x).2)
def Dop.f7 : Dst := (O, (M.st wk 1 (wr (O.b + 1))).1, 1, (M.st wk 1 (wr (O.b + 1))).2)
def Dop.f8 : Dst := ({ O with b := (M.ld wk 1).2.1, next := 9 }, (M.ld wk 1).1, 0, (M.ld wk 1).2.2)
def Dop.f9 : Dst := ((Dop.read { O with next := 10 } M wk).1, (Dop.read { O with next := 10 } M wk).2.1, 0, (Dop.read { O with next := 10 } M wk).2.2)
def Dop.f10 : Dst := ({ O with next := 11 }, (M.st wk 1 (wr (O.b - 1))).1, 0, (M.st wk 1 (wr (O.b - 1))).2)
def Dop.f11 : Dst := ({ O with t := (M.ld wk 0).2.1, next := if decide ((M.ld wk 0).2.1 > wr (O.b - 1)) then 14 else 12 }, (M.ld wk 0).1, 0, (M.ld wk 0).2.2)
def Dop.f12 : Dst := ({ O with got := (M.ld wk (O.ring.place (wr (O.b - 1)))).2.1, next := 13 }, (M.ld wk (O.ring.place (wr (O.b - 1)))).1, if decide (O.t < wr (O.b - 1)) then 1 else 0, (M.ld wk (O.ring.place (wr (O.b - 1)))).2.2)
def Dop.f13 : Dst := ({ O with won := (M.cas wk 0 O.t (wr (O.t + 1))).2.1, next := 14 }, (M.cas wk 0 O.t (wr (O.t + 1))).1, 0, (M.cas wk 0 O.t (wr (O.t + 1))).2.2)
def Dop.f14 : Dst := (O, (M.st wk 1 O.b).1, if O.won then 1 else 3, (M.st wk 1 O.b).2)
def Dop.f15 : Dst := ({ O with t := (M.ld wk 0).2.1, next := 16 }, (M.ld wk 0).1, 0, (M.ld wk 0).2.2)
def Dop.f16 : Dst := ({ O with b := (M.ld wk 1).2.1, next := 17 }, (M.ld wk 1).1, if decide (O.t ≥ (M.ld wk 1).2.1) then 3 else 0, (M.ld wk 1).2.2)
def Dop.f17 : Dst := ((Dop.read { O with next := 18 } M wk).1, (Dop.read { O with next := 18 } M wk).2.1, 0, (Dop.read { O with next := 18 } M wk).2.2)
def Dop.f18 : Dst := ({ O with got := (M.ld wk (O.ring.place O.t)).2.1, next := 19 }, (M.ld wk (O.ring.place O.t)).1, 2, (M.ld wk (O.ring.place O.t)).2.2)
def Dop.f19 : Dst := (O, (M.cas wk 0 O.t (wr (O.t + 1))).1, if !(M.cas wk 0 O.t (wr (O.t + 1))).2.1 then 5 else 1, (M.cas wk 0 O.t (wr (O.t + 1))).2.2)
def Dop.run : Dst := match O.next with
  | 0 => O.f0 M wk
  | 1 => O.f1 M wk
  | 2 => O.f2 M wk
  | 3 => O.f3 M wk
  | 4 => match O.copy with
    | none => (O, M, 0, 2)
    | some c => O.f4 M wk c
  | 5 => O.f5 M wk
  | 6 => O.f6 M wk
  | 7 => O.f7 M wk
  | 8 => O.f8 M wk
  | 9 => O.f9 M wk
  | 10 => O.f10 M wk
  | 11 => O.f11 M wk
  | 12 => O.f12 M wk
  | 13 => O.f13 M wk
  | 14 => O.f14 M wk
  | 15 => O.f15 M wk
  | 16 => O.f16 M wk
  | 17 => O.f17 M wk
  | 18 => O.f18 M wk
  | _ => O.f19 M wk
end
def Dop.live (O : Dop) : Bool := (O.how == 0) || (O.how == 2)
def Dop.step (O : Dop) (M : Mac) (wk : Int) : Dop × Mac :=
  if O.live then ({ (O.run M wk).1 with how := if (O.run M wk).2.2.2 = 0 then (O.run M wk).2.2.1 else 6, err := (O.run M wk).2.2.2 }, (O.run M wk).2.1) else (O, M)

section
variable {w0 w : World} {L R : List HP} {gm go : Nat} {M : Mac} {O : Dop} {p : Option Addr} {wk : Int} {f : HP → List HP}

theorem load_r {a' : Int} {k : Int × Int → World → Prop} (h : St w0 w L) [a : At L (mach gm) M f] (hk : ∀ w', St w0 w' (f (mach gm (M.ld wk a').1)) → k ((M.ld wk a').2.1, (M.ld wk a').2.2) w') : cells_Machine_Load (some ⟨gm, 0, none⟩) wk a' w k := by
  unfold Mac.ld at hk
  refine load_s (g := gm) (M := M) h (fun hc w' h => ?_) fun hc => ?_
  · rw [if_pos hc] at hk; exact hk w' h
  · rw [if_neg (by rw [hc]; simp)] at hk; exact hk w (h.same a)
theorem store_r {a' x : Int} {k : Int → World → Prop} (h : St w0 w L) [a : At L (mach gm) M f] (hk : ∀ w', St w0 w' (f (mach gm (M.st wk a' x).1)) → k (M.st wk a' x).2 w') : cells_Machine_Store (some ⟨gm, 0, none⟩) wk a' x w k := by
  unfold Mac.st at hk
  refine store_s (g := gm) (M := M) h (fun hc w' h => ?_) fun hc => ?_
  · rw [if_pos hc] at hk; exact hk w' h
  · rw [if_neg (by rw [hc]; simp)] at hk; exact hk w (h.same a)
theorem cas_r {a' old x : Int} {k : Bool × Int → World → Prop} (h : St w0 w L) [a : At L (mach gm) M f] (hk : ∀ w', St w0 w' (f (mach gm (M.cas wk a' old x).1)) → k ((M.cas wk a' old x).2.1, (M.cas wk a' old x).2.2) w') : cells_Machine_CAS (some ⟨gm, 0, none⟩) wk a' old x w k := by
  unfold cells_Machine_CAS cells_Machine_CAS_b
  unfold Mac.cas at hk
  refine iteB_f rfl (looks_s h (.inl ⟨rfl, rfl⟩) ?_)
  by_cases hcan : M.can wk a' = true
  · rw [if_pos hcan] at hk
    unfold Mac.can at hcan
    rw [hcan]
    refine iteB_f rfl ?_
    obtain ⟨R, ho, hc⟩ := a.out
    obtain ⟨s1, s2, hS⟩ := mach_open (ho h)
    simp only [Bool.and_eq_true, Mac.caller, Mac.given, decide_eq_true_eq] at hcan
    refine nn_i (ldS_h hS rfl (ixI_h (s := s2) (xs := M.steps) hS hcan.1.1 hcan.1.2 (ixIst_h (s := s2) (xs := M.steps) hS hcan.1.1 hcan.1.2 fun w' hS => nn_i (ldS_h hS rfl (ixI_h (s := s1) (xs := M.cells) hS hcan.2.1 hcan.2.2 ?_)))))
    refine iteB_i (fun hb => ?_) fun hb => ?_
    · have hne : M.get a' ≠ old := by simpa [Mac.get] using hb
      rw [if_neg hne] at hk
      exact hk w' (hc (mach_shut (M := M.tick wk) hS))
    · have he : M.get a' = old := by simpa [Mac.get] using hb
      rw [if_pos he] at hk
      refine nn_i (ldS_h hS rfl (ixIst_h (s := s1) (xs := M.cells) hS hcan.2.1 hcan.2.2 fun w' hS => ?_))
      exact hk w' (hc (mach_shut (M := (M.tick wk).put a' x) hS))
  · have hcan : M.can wk a' = false := by simpa using hcan
    rw [if_neg (by rw [hcan]; simp)] at hk
    unfold Mac.can at hcan
    rw [hcan]
    exact iteB_t rfl (hk w (h.same a))

theorem top_s {most : Int} {k : Int → World → Prop} (h : St w0 w L) (hk : ∀ w', St w0 w' L → k 0 w') : deque_Deque_top #[.int .i64 0, .int .i64 most] w k := by
  unfold deque_Deque_top
  exact newC_h h fun g w' h => ldI_h (g := g) (o := 0) h rfl (hk w' h.drop)
theorem bottom_s {most : Int} {k : Int → World → Prop} (h : St w0 w L) (hk : ∀ w', St w0 w' L → k 1 w') : deque_Deque_bottom #[.int .i64 0, .int .i64 most] w k := by
  unfold deque_Deque_bottom
  refine newC_h h fun g w' h => ldI_h (g := g) (o := 0) h rfl ?_
  have e : IntKind.wrap .i64 (0 + 1) = 1 := by decide
  rw [e]; exact hk w' h.drop
theorem dword_s {most : Int} {k : Int → World → Prop} (h : St w0 w L) (hk : ∀ w', St w0 w' L → k 2 w') : deque_Deque_word #[.int .i64 0, .int .i64 most] w k := by
  unfold deque_Deque_word
  refine newC_h h fun g w' h => ldI_h (g := g) (o := 0) h rfl ?_
  have e : IntKind.wrap .i64 (0 + 2) = 2 := by decide
  rw [e]; exact hk w' h.drop
theorem oload_s {cs : List Value} {a' : Int} {off : Nat} {nx : Value} {k : Int × Int → World → Prop} (h : St w0 w (blk go cs :: mach gm M :: R)) (ho : off < cs.length) (hn : 11 < cs.length) (hx : nx.oneCell' = true)
    (hk : ∀ w', St w0 w' (blk go ((cs.set off (.int .i64 (M.ld wk a').2.1)).set 11 nx) :: mach gm (M.ld wk a').1 :: R) → k (0, (M.ld wk a').2.2) w') : deque_Op_load (some ⟨go, 0, none⟩) (some ⟨gm, 0, none⟩) wk a' (some ⟨go, off, none⟩) nx w k := by
  unfold deque_Op_load deque_Op_load_b
  refine load_r (gm := gm) (M := M) h fun w2 h => nn_i (stC_h (g := go) (o := off) h rfl ho fun w4 h => nn_i ?_)
  refine stC_h (g := go) (o := 11) h hx (by simpa using hn) fun w6 h => hk w6 h
theorem ostore_s {cs : List Value} {a' x : Int} {nx : Value} {k : Int × Int → World → Prop} (h : St w0 w (blk go cs :: mach gm M :: R)) (hn : 11 < cs.length) (hx : nx.oneCell' = true)
    (hk : ∀ w', St w0 w' (blk go (cs.set 11 nx) :: mach gm (M.st wk a' x).1 :: R) → k (0, (M.st wk a' x).2) w') : deque_Op_store (some ⟨go, 0, none⟩) (some ⟨gm, 0, none⟩) wk a' x nx w k := by
  unfold deque_Op_store deque_Op_store_b
  refine nn_i (stC_h (g := go) (o := 11) h hx hn fun w2 h => ?_)
  exact store_r (gm := gm) (M := M) h fun w4 h => hk w4 h
theorem read_s {k : Int → World → Prop} (h : St w0 w (blk go (O.cells p) :: mach gm M :: R)) (hk : ∀ w', St w0 w' (blk go ((O.read M wk).1.cells p) :: mach gm (O.read M wk).2.1 :: R) → k (O.read M wk).2.2 w') : deque_Op_read (some ⟨go, 0, none⟩) (some ⟨gm, 0, none⟩) wk w k := by
  unfold deque_Op_read deque_Op_read_b
  refine nn_i (ldA_h (g := go) (o := 0) h (by simp [Dop.cells]) ?_)
  refine dword_s (most := O.most) h fun w4 h => ?_
  unfold Dop.read at hk
  refine load_s (g := gm) (M := M) h (fun hc w6 h => ?_) fun hc => ?_
  · rw [if_pos hc] at hk
    refine iteB_f rfl (of_s h fun w8 h => ?_)
    cases hr : (Rg.of (M.get 2)).right with
    | true =>
      rw [if_pos hr] at hk
      rw [if_pos rfl]
      refine nn_i (stA_h (g := go) (o := 4) (n := 2) h rfl (by simp [Dop.cells]) (by intro v hv; simp [Rg.ag] at hv; rcases hv with rfl | rfl <;> rfl) fun w10 h => hk w10 h)
    | false =>
      rw [if_neg (by rw [hr]; simp)] at hk
      rw [if_neg (by simp)]
      refine nn_i (stA_h (g := go) (o := 4) (n := 2) h rfl (by simp [Dop.cells]) (by intro v hv; simp [Rg.ag, Rg.zero] at hv; rw [hv]; rfl) fun w10 h => hk w10 h)
  · rw [if_neg (by rw [hc]; simp)] at hk
    exact iteB_t rfl (hk w4 h)
end
end Go.Proofs.Ytheallacpidcmaa
