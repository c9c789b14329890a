/-
  Layer 4: what is held: the flow; an instruction is come to.
-/
import Derived.Test.YtinieegaaimilaaCa
set_option linter.unusedSimpArgs false
set_option linter.unusedVariables false
set_option maxRecDepth 100000
namespace Go.Proofs.Ytinieegaaimilaa
open Go Go.Ev Go.Proofs

structure Fl where
  held : List Int
  come : List Bool
  todo : List Int
def bls (l : List Bool) : List Value := l.map Value.bool
def Fl.now (F : Fl) (i hv : Int) : Int := andI .i64 (F.held.getD i.toNat 0) hv
def Fl.stay (F : Fl) (i hv : Int) : Bool := F.come.getD i.toNat false && (F.now i hv == F.held.getD i.toNat 0)
def Fl.meet (F : Fl) (i hv : Int) : Fl := if F.stay i hv then F else { held := F.held.set i.toNat (F.now i hv), come := F.come.set i.toNat true, todo := F.todo ++ [i] }
/-- a flow in memory -/
def flowP (g : Nat) (code : Sl) (F : Fl) (p : Sl × Sl × Sl) : List HP :=
  [blk g [.slice code.a code.n code.c, .slice p.1.a p.1.n p.1.c, .slice p.2.1.a p.2.1.n p.2.1.c, .slice p.2.2.a p.2.2.n p.2.2.c], slc 1 p.1 (ints F.held), slc 1 p.2.1 (bls F.come), slc 1 p.2.2 (ints F.todo)]
def flow (g : Nat) (x : Sl × Fl) : HP := exHP fun p => sepHP (flowP g x.1 x.2 p)
section
variable {w0 w : World} {L : List HP} {g : Nat} {code : Sl} {F : Fl}
theorem flow_open {R : List HP} (h : St w0 w (flow g (code, F) :: R)) : ∃ s1 s2 s3 : Sl, St w0 w (blk g [.slice code.a code.n code.c, .slice s1.a s1.n s1.c, .slice s2.a s2.n s2.c, .slice s3.a s3.n s3.c] :: slc 1 s1 (ints F.held) :: slc 1 s2 (bls F.come) :: slc 1 s3 (ints F.todo) :: R) := by
  obtain ⟨p, h⟩ := h.some
  exact ⟨p.1, p.2.1, p.2.2, h.open⟩
theorem flow_shut {R : List HP} {s1 s2 s3 : Sl} (h : St w0 w (blk g [.slice code.a code.n code.c, .slice s1.a s1.n s1.c, .slice s2.a s2.n s2.c, .slice s3.a s3.n s3.c] :: slc 1 s1 (ints F.held) :: slc 1 s2 (bls F.come) :: slc 1 s3 (ints F.todo) :: R)) : St w0 w (flow g (code, F) :: R) :=
  St.ex (X := fun p => sepHP (flowP g code F p)) (s1, s2, s3) (St.shut h)

theorem bls_get {l : List Bool} {i : Nat} (h : i < l.length) : (bls l)[i]? = some (.bool (l.getD i false)) := by simp [bls, h]
theorem ixBl_h {s : Sl} {xs : List Bool} {i : Int} {f : HP → List HP} {c : Bool → Prop} (h : St w0 w L) [a : At L (slc 1 s) (bls xs) f] (h0 : 0 ≤ i) (h1 : i < xs.length) (hc : c (xs.getD i.toNat false)) : ixS s i 1 fun a => ldB w a c := by
  have hn : xs.length = s.n := by have := h.slen (sz := 1) (s := s) (vs := bls xs); simpa [bls] using this
  refine ixS_h h (by omega) h0 (by omega) fun g o _ hr _ => ldB_i ?_ hc
  have := hr h 0 _ (by omega) (bls_get (i := i.toNat * 1 + 0) (by omega))
  simpa using this
theorem ixBlst_h {s : Sl} {xs : List Bool} {i : Int} {x : Bool} {f : HP → List HP} {c : World → Prop} (h : St w0 w L) [a : At L (slc 1 s) (bls xs) f] (h0 : 0 ≤ i) (h1 : i < xs.length) (hc : ∀ w', St w0 w' (f (slc 1 s (bls (xs.set i.toNat x)))) → c w') : ixS s i 1 fun a => stC w a (.bool x) c := by
  have hn : xs.length = s.n := by have := h.slen (sz := 1) (s := s) (vs := bls xs); simpa [bls] using this
  refine ixS_h h (by omega) h0 (by omega) fun g o _ _ hs => ?_
  have := hs h a 0 (.bool x) c (by omega) rfl fun w' h' => hc w' (by
    have e : (bls xs).set (i.toNat * 1 + 0) (.bool x) = bls (xs.set i.toNat x) := by simp [bls, List.map_set]
    rwa [e] at h')
  simpa using this

theorem meet_s {i hv : Int} {f : HP → List HP} {k : Unit → World → Prop} (h : St w0 w L) [a : At L (flow g) (code, F) f] (h0 : 0 ≤ i) (h1 : i < F.held.length) (hl : F.come.length = F.held.length) (hb : (F.todo.length + 1) * 8 ≤ 140737488355328)
    (hc : ∀ w', St w0 w' (f (flow g (code, F.meet i hv))) → k () w') : check_flow_meet (some ⟨g, 0, none⟩) i hv w k := by
  obtain ⟨R, ho, hcl⟩ := a.out
  obtain ⟨s1, s2, s3, hS⟩ := flow_open (ho h)
  unfold check_flow_meet
  refine nn_i (ldS_h (o := 1) hS rfl (ixI_h (s := s1) (xs := F.held) hS h0 h1 ?_))
  have fin : ∀ b, b = F.stay i hv → iteB b (k () w) (
    drew w fun w16 => nn (some ⟨g, 0, none⟩) fun a17 => ldS w16 (Addr.add a17 2) fun s18 => nn (some ⟨g, 0, none⟩) fun a19 => ldS w16 (Addr.add a19 1) fun s20 =>
    ixS s18 i 1 fun a21 => stC w16 a21 (.bool true) fun w22 => ixS s20 i 1 fun a23 => stC w22 a23 (.int .i64 (andI .i64 (F.held.getD i.toNat 0) hv)) fun w24 =>
    nn (some ⟨g, 0, none⟩) fun a25 => ldS w24 (Addr.add a25 3) fun s26 => newC w24 #[(.int .i64 i)] 3 fun a27 w28 =>
    bApp Go.Proofs.Try.prog #[25, 25] 25 [(.slice s26.a s26.n s26.c), (.slice (some a27) 1 1)] w28 fun s29 w30 =>
    nn (some ⟨g, 0, none⟩) fun a31 => stC w30 (Addr.add a31 3) (.slice s29.a s29.n s29.c) fun w32 => k () w32) := by
    rintro b rfl
    refine iteB_i (fun hst => ?_) fun hst => ?_
    · have e : F.meet i hv = F := by unfold Fl.meet; rw [if_pos hst]
      have := hc w
      rw [e] at this
      exact this (hcl (ho h))
    · have e : F.meet i hv = { held := F.held.set i.toNat (F.now i hv), come := F.come.set i.toNat true, todo := F.todo ++ [i] } := by unfold Fl.meet; rw [if_neg (by simp [hst])]
      rw [e] at hc
      refine drew_h hS fun w16 hS => nn_i (ldS_h (o := 2) hS rfl (nn_i (ldS_h (o := 1) hS rfl ?_)))
      refine ixBlst_h (s := s2) (xs := F.come) hS h0 (by omega) fun w22 hS => ?_
      refine ixIst_h (s := s1) (xs := F.held) hS h0 h1 fun w24 hS => nn_i (ldS_h (o := 3) hS rfl ?_)
      have hn3 : F.todo.length = s3.n := by have := hS.slen (sz := 1) (s := s3) (vs := ints F.todo); simpa using this
      refine newC_h hS fun gn w28 hS => ?_
      refine bApp_h (s := s3) (vs := ints F.todo) (x := ⟨some ⟨gn, 0, none⟩, 1, 1⟩) (ys := [.int .i64 i]) hS (elI (by kernel_rfl)) (by kernel_rfl) (blk_sls (n := 1) (l := [.int .i64 i]) hS.blk rfl 1) (by simp [Value.oneCell']) (by simp only; omega) (by simp only; omega) fun s6 w7 hS n6 => ?_
      have hS := hS.drop
      refine nn_i (stC_h (g := g) (o := 3) hS rfl (by simp) fun w32 hS => hc w32 (hcl (flow_shut (s1 := s1) (s2 := s2) (s3 := s6) ?_)))
      simpa [ints, Fl.now] using hS
  unfold joinP
  refine nn_i (ldS_h (o := 2) hS rfl (ixBl_h (s := s2) (xs := F.come) hS h0 (by omega) ?_))
  refine iteB_i (fun hcm => ?_) fun hcm => ?_
  · refine nn_i (ldS_h (o := 1) hS rfl (ixI_h (s := s1) (xs := F.held) hS h0 h1 ?_))
    exact fin _ (by unfold Fl.stay Fl.now; rw [hcm, Bool.true_and])
  · exact fin _ (by unfold Fl.stay; rw [hcm, Bool.false_and])
end
end Go.Proofs.Ytinieegaaimilaa
