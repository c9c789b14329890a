/-
  Layer 1: a machine of cells.
-/
import Derived.Test.YtheallacpidcmaaEvS
import Derived.Test.YtheallacpidcmaaFu
set_option linter.unusedSimpArgs false
set_option linter.unusedVariables false
set_option maxRecDepth 100000
namespace Go.Proofs.Ytheallacpidcmaa
open Go Go.Ev Go.Proofs

structure Mac where
  cells : List Int
  size : Int
  steps : List Int
  deriving DecidableEq
/-- a machine, at block g -/
def mach (g : Nat) (M : Mac) : HP := exHP fun p : Sl × Sl => sepHP [blk g [.slice p.1.a p.1.n p.1.c, .int .i64 M.size, .slice p.2.a p.2.n p.2.c], slc 1 p.1 (ints M.cells), slc 1 p.2 (ints M.steps)]
theorem mach_open {w0 w : World} {R : List HP} {g : Nat} {M : Mac} (h : St w0 w (mach g M :: R)) : ∃ s1 s2 : Sl, St w0 w (blk g [.slice s1.a s1.n s1.c, .int .i64 M.size, .slice s2.a s2.n s2.c] :: slc 1 s1 (ints M.cells) :: slc 1 s2 (ints M.steps) :: R) := by
  obtain ⟨p, h⟩ := h.some
  exact ⟨p.1, p.2, h.open⟩
theorem mach_shut {w0 w : World} {R : List HP} {g : Nat} {M : Mac} {s1 s2 : Sl} (h : St w0 w (blk g [.slice s1.a s1.n s1.c, .int .i64 M.size, .slice s2.a s2.n s2.c] :: slc 1 s1 (ints M.cells) :: slc 1 s2 (ints M.steps) :: R)) : St w0 w (mach g M :: R) :=
  St.ex (X := fun p : Sl × Sl => sepHP [blk g [.slice p.1.a p.1.n p.1.c, .int .i64 M.size, .slice p.2.a p.2.n p.2.c], slc 1 p.1 (ints M.cells), slc 1 p.2 (ints M.steps)]) (s1, s2) (St.shut h)

namespace Mac
def caller (M : Mac) (w : Int) : Bool := decide (0 ≤ w ∧ w < M.steps.length)
def given (M : Mac) (at_ : Int) : Bool := decide (0 ≤ at_ ∧ at_ < M.cells.length)
def tick (M : Mac) (w : Int) : Mac := { M with steps := M.steps.set w.toNat (IntKind.i64.wrap (M.steps.getD w.toNat 0 + 1)) }
def get (M : Mac) (at_ : Int) : Int := M.cells.getD at_.toNat 0
def put (M : Mac) (at_ x : Int) : Mac := { M with cells := M.cells.set at_.toNat x }
/-- an operation of worker w on cell at_ may be done -/
def can (M : Mac) (w at_ : Int) : Bool := M.caller w && M.given at_
end Mac

section
variable {w0 w : World} {L : List HP} {g : Nat} {M : Mac} {f : HP → List HP}

theorem slen1 {s : Sl} {xs : List Int} {f' : HP → List HP} (h : St w0 w L) [a : At L (slc 1 s) (ints xs) f'] : s.n = xs.length := by
  have := h.slen (sz := 1) (s := s) (vs := ints xs); simp at this; omega

theorem caller_s {wk : Int} {k : Bool → World → Prop} (h : St w0 w L) [a : At L (mach g) M f] (hk : k (M.caller wk) w) : cells_Machine_caller (some ⟨g, 0, none⟩) wk w k := by
  obtain ⟨R, ho, hc⟩ := a.out
  obtain ⟨s1, s2, hS⟩ := mach_open (ho h)
  have l2 := slen1 (s := s2) (xs := M.steps) hS
  unfold cells_Machine_caller
  unfold Mac.caller at hk
  refine iteB_i (fun h => nn_i (ldS_h hS rfl ?_)) fun h => ?_
  · simp only [decide_eq_true_eq] at h
    rw [show (decide (wk < ((s2.n : Nat) : Int))) = decide (0 ≤ wk ∧ wk < M.steps.length) by rw [l2, decide_eq_decide]; omega]
    exact hk
  · simp only [decide_eq_false_iff_not] at h
    rwa [decide_eq_false (by omega)] at hk
theorem given_s {at_ : Int} {k : Bool → World → Prop} (h : St w0 w L) [a : At L (mach g) M f] (hk : k (M.given at_) w) : cells_Machine_given (some ⟨g, 0, none⟩) at_ w k := by
  obtain ⟨R, ho, hc⟩ := a.out
  obtain ⟨s1, s2, hS⟩ := mach_open (ho h)
  have l1 := slen1 (s := s1) (xs := M.cells) hS
  unfold cells_Machine_given
  unfold Mac.given at hk
  refine iteB_i (fun h => nn_i (ldS_h hS rfl ?_)) fun h => ?_
  · simp only [decide_eq_true_eq] at h
    rw [show (decide (at_ < ((s1.n : Nat) : Int))) = decide (0 ≤ at_ ∧ at_ < M.cells.length) by rw [l1, decide_eq_decide]; omega]
    exact hk
  · simp only [decide_eq_false_iff_not] at h
    rwa [decide_eq_false (by omega)] at hk
theorem looks_s {wk n : Int} {right : Value} {b : Bool} {k : Int → World → Prop} (h : St w0 w L) [a : At L (mach g) M f]
    (hr : (right = .func (.func n_cells_Machine_given) #[.pointer (some ⟨g, 0, none⟩)] #[] ∧ b = M.given n) ∨ (right = .func (.func n_cells_some) #[] #[] ∧ b = decide (n ≥ 1)))
    (hk : k (if M.caller wk && b then 0 else 10) w) : cells_Machine_looks (some ⟨g, 0, none⟩) wk n right w k := by
  unfold cells_Machine_looks cells_Machine_looks_b
  refine joinP_i (fun y w' => w = w' ∧ y = !(M.caller wk && b)) ?_ ?_
  · intro J hJ
    refine caller_s h (iteB_i (fun h1 => hJ _ _ ⟨rfl, ?_⟩) fun h1 => ?_)
    · simp only [Bool.not_eq_true'] at h1; simp [h1]
    · simp only [Bool.not_eq_false'] at h1
      rcases hr with ⟨rfl, rfl⟩ | ⟨rfl, rfl⟩
      · refine callF_i (d := d_cells_Machine_given) (fun _ _ _ => rfl) ?_
        simp only [d_cells_Machine_given, List.append_toArray, List.cons_append, List.nil_append, List.append_nil, unL, unV, toP, toI, if_true, packV, valL, K.v, toB]
        refine given_s (M := M) h (hJ _ _ ⟨rfl, ?_⟩)
        simp [h1]
      · refine callF_i (d := d_cells_some) (fun _ _ _ => rfl) ?_
        simp only [d_cells_some, cells_some, List.append_toArray, List.cons_append, List.nil_append, List.append_nil, unL, unV, toP, toI, if_true, packV, valL, K.v, toB]
        refine hJ _ _ ⟨rfl, ?_⟩
        simp [h1]
  · rintro _ _ ⟨rfl, rfl⟩
    refine iteB_i (fun h1 => ?_) fun h1 => ?_
    · simp only [Bool.not_eq_true'] at h1
      rw [h1] at hk; exact hk
    · simp only [Bool.not_eq_false'] at h1
      rw [h1] at hk; exact hk

theorem load_s {wk at_ : Int} {k : Int × Int → World → Prop} (h : St w0 w L) [a : At L (mach g) M f] (h1 : M.can wk at_ = true → ∀ w', St w0 w' (f (mach g (M.tick wk))) → k (M.get at_, 0) w') (h2 : M.can wk at_ = false → k (0, 10) w) : cells_Machine_Load (some ⟨g, 0, none⟩) wk at_ w k := by
  unfold cells_Machine_Load cells_Machine_Load_b
  refine iteB_f rfl (looks_s h (.inl ⟨rfl, rfl⟩) ?_)
  by_cases hcan : M.can wk at_ = true
  · have hcan' := hcan
    unfold Mac.can at hcan
    rw [hcan]
    refine iteB_f rfl ?_
    obtain ⟨R, ho, hc⟩ := a.out
    obtain ⟨s1, s2, hS⟩ := mach_open (ho h)
    simp only [Bool.and_eq_true, Mac.caller, Mac.given, decide_eq_true_eq] at hcan
    refine nn_i (ldS_h hS rfl (ixI_h (s := s2) (xs := M.steps) hS hcan.1.1 hcan.1.2 (ixIst_h (s := s2) (xs := M.steps) hS hcan.1.1 hcan.1.2 fun w' hS => nn_i (ldS_h hS rfl (ixI_h (s := s1) (xs := M.cells) hS hcan.2.1 hcan.2.2 ?_)))))
    exact h1 hcan' w' (hc (mach_shut (M := M.tick wk) hS))
  · have hcan : M.can wk at_ = false := by simpa using hcan
    have := h2 hcan
    unfold Mac.can at hcan
    rw [hcan]
    exact iteB_t rfl this
theorem store_s {wk at_ x : Int} {k : Int → World → Prop} (h : St w0 w L) [a : At L (mach g) M f] (h1 : M.can wk at_ = true → ∀ w', St w0 w' (f (mach g ((M.tick wk).put at_ x))) → k 0 w') (h2 : M.can wk at_ = false → k 10 w) : cells_Machine_Store (some ⟨g, 0, none⟩) wk at_ x w k := by
  unfold cells_Machine_Store cells_Machine_Store_b
  refine iteB_f rfl (looks_s h (.inl ⟨rfl, rfl⟩) ?_)
  by_cases hcan : M.can wk at_ = true
  · have hcan' := hcan
    unfold Mac.can at hcan
    rw [hcan]
    refine iteB_f rfl ?_
    obtain ⟨R, ho, hc⟩ := a.out
    obtain ⟨s1, s2, hS⟩ := mach_open (ho h)
    simp only [Bool.and_eq_true, Mac.caller, Mac.given, decide_eq_true_eq] at hcan
    refine nn_i (ldS_h hS rfl (ixI_h (s := s2) (xs := M.steps) hS hcan.1.1 hcan.1.2 (ixIst_h (s := s2) (xs := M.steps) hS hcan.1.1 hcan.1.2 fun w' hS => nn_i (ldS_h hS rfl (ixIst_h (s := s1) (xs := M.cells) hS hcan.2.1 hcan.2.2 fun w' hS => ?_)))))
    exact h1 hcan' w' (hc (mach_shut (M := (M.tick wk).put at_ x) hS))
  · have hcan : M.can wk at_ = false := by simpa using hcan
    have := h2 hcan
    unfold Mac.can at hcan
    rw [hcan]
    exact iteB_t rfl this
theorem steps_s {wk : Int} {k : Int → World → Prop} (h : St w0 w L) [a : At L (mach g) M f] (hk : k (if M.caller wk then M.steps.getD wk.toNat 0 else 0) w) : cells_Machine_Steps (some ⟨g, 0, none⟩) wk w k := by
  unfold cells_Machine_Steps cells_Machine_Steps_b
  refine joinP_i (fun y w' => w = w' ∧ y = !M.caller wk) (fun J hJ => iteB_f rfl (caller_s h (hJ _ _ ⟨rfl, rfl⟩))) ?_
  rintro _ _ ⟨rfl, rfl⟩
  refine iteB_i (fun h1 => ?_) fun h1 => ?_
  · rw [if_neg (by simpa using h1)] at hk; exact hk
  · have h1 : M.caller wk = true := by simpa using h1
    rw [if_pos h1] at hk
    obtain ⟨R, ho, hc⟩ := a.out
    obtain ⟨s1, s2, hS⟩ := mach_open (ho h)
    simp only [Mac.caller, decide_eq_true_eq] at h1
    exact nn_i (ldS_h hS rfl (ixI_h (s := s2) (xs := M.steps) hS h1.1 h1.2 hk))
theorem peek_s {at_ : Int} {k : Int → World → Prop} (h : St w0 w L) [a : At L (mach g) M f] (hk : k (if M.given at_ then M.get at_ else 0) w) : cells_Machine_Peek (some ⟨g, 0, none⟩) at_ w k := by
  unfold cells_Machine_Peek cells_Machine_Peek_b
  refine joinP_i (fun y w' => w = w' ∧ y = !M.given at_) (fun J hJ => iteB_f rfl (given_s h (hJ _ _ ⟨rfl, rfl⟩))) ?_
  rintro _ _ ⟨rfl, rfl⟩
  refine iteB_i (fun h1 => ?_) fun h1 => ?_
  · rw [if_neg (by simpa using h1)] at hk; exact hk
  · have h1 : M.given at_ = true := by simpa using h1
    rw [if_pos h1] at hk
    obtain ⟨R, ho, hc⟩ := a.out
    obtain ⟨s1, s2, hS⟩ := mach_open (ho h)
    simp only [Mac.given, decide_eq_true_eq] at h1
    exact nn_i (ldS_h hS rfl (ixI_h (s := s1) (xs := M.cells) hS h1.1 h1.2 hk))
theorem used_s {k : Int → World → Prop} (h : St w0 w L) [a : At L (mach g) M f] (hk : k (M.cells.length : Nat) w) : cells_Machine_Used (some ⟨g, 0, none⟩) w k := by
  unfold cells_Machine_Used
  obtain ⟨R, ho, hc⟩ := a.out
  obtain ⟨s1, s2, hS⟩ := mach_open (ho h)
  have l1 := slen1 (s := s1) (xs := M.cells) hS
  refine iteB_f rfl (nn_i (ldS_h hS rfl ?_))
  rw [l1]; exact hk

theorem elI {P : Program} {t : TypeId} (h : elInfo P t = some (1, 8, some (.int .i64 0))) : ElS P t 1 8 (.int .i64 0) := ⟨h, rfl⟩
theorem ints_rep (n : Nat) (x : Int) : List.replicate n (Value.int .i64 x) = ints (List.replicate n x) := by simp [ints]

/-- a new machine -/
def Mac.new (size workers : Int) : Mac := ⟨[], size, List.replicate (workers.toNat + 1) 0⟩
def newOK (size workers : Int) : Bool := decide (1 ≤ size ∧ size ≤ 1048576 ∧ 1 ≤ workers ∧ workers ≤ 16)
theorem cnew_s {size wks : Int} {k : Option Addr × Int → World → Prop} (h : St w0 w L) (h1 : newOK size wks = true → ∀ g w', St w0 w' (mach g (Mac.new size wks) :: L) → k (some ⟨g, 0, none⟩, 0) w') (h2 : newOK size wks = false → k (none, 10) w) : cells_New size wks w k := by
  unfold cells_New
  unfold newOK at h1 h2
  refine iteB_i (fun hb => ?_) fun hb => ?_
  · simp only [Bool.or_eq_true, decide_eq_true_eq] at hb
    exact h2 (by rw [decide_eq_false_iff_not]; omega)
  · simp only [Bool.or_eq_false_iff, decide_eq_false_iff_not] at hb
    have hw : IntKind.i64.wrap (wks + 1) = ((wks.toNat + 1 : Nat) : Int) := by rw [wrap_id ⟨by omega, by omega⟩]; omega
    rw [hw]
    refine mkSl_h h (elI (by kernel_rfl)) rfl (by omega) (by omega) fun s w' hS hn => ?_
    rw [ints_rep] at hS
    have hS := hS.nilS 1
    refine newC_h hS fun g w'' hS => ?_
    refine h1 (by rw [decide_eq_true_eq]; omega) g w'' (mach_shut (M := Mac.new size wks) (s1 := ⟨none, 0, 0⟩) (s2 := s) hS)

/-- cells are given away -/
def Mac.room (M : Mac) (n : Int) : Bool := decide (n ≤ M.size - M.cells.length)
def Mac.grow (M : Mac) (n : Int) : Mac := { M with cells := M.cells ++ List.replicate n.toNat 0 }
structure Mac.OK (M : Mac) : Prop where
  size : 1 ≤ M.size ∧ M.size ≤ 1048576
  fit : (M.cells.length : Int) ≤ M.size
theorem alloc_s {wk n : Int} {k : Int × Int → World → Prop} (h : St w0 w L) [a : At L (mach g) M f] (hM : M.OK)
    (h1 : M.caller wk = true → 1 ≤ n → M.room n = true → ∀ w', St w0 w' (f (mach g ((M.tick wk).grow n))) → k ((M.cells.length : Nat), 0) w')
    (h2 : M.caller wk = true → 1 ≤ n → M.room n = false → k (0, 21) w) (h3 : ¬ (M.caller wk = true ∧ 1 ≤ n) → k (0, 10) w) : cells_Machine_Alloc (some ⟨g, 0, none⟩) wk n w k := by
  unfold cells_Machine_Alloc cells_Machine_Alloc_b
  have hM1 := hM.size; have hM2 := hM.fit
  refine iteB_f rfl (looks_s h (.inr ⟨rfl, rfl⟩) ?_)
  by_cases hcan : M.caller wk = true ∧ 1 ≤ n
  · rw [hcan.1, show (decide (n ≥ 1)) = true by simpa using hcan.2]
    refine iteB_f rfl ?_
    obtain ⟨R, ho, hc⟩ := a.out
    obtain ⟨s1, s2, hS⟩ := mach_open (ho h)
    have l1 := slen1 (s := s1) (xs := M.cells) hS
    have hcal := hcan.1
    simp only [Mac.caller, decide_eq_true_eq] at hcal
    have hsub : IntKind.i64.wrap (M.size - ((s1.n : Nat) : Int)) = M.size - M.cells.length := by rw [l1, wrap_id ⟨by omega, by omega⟩]
    refine nn_i (ldS_h hS rfl (nn_i (ldI_h hS rfl ?_)))
    rw [hsub]
    refine iteB_i (fun hr => ?_) fun hr => ?_
    · exact h2 hcan.1 hcan.2 (by unfold Mac.room; rw [decide_eq_false_iff_not]; simp only [decide_eq_true_eq] at hr; omega)
    · simp only [decide_eq_false_iff_not] at hr
      have hroom : M.room n = true := by unfold Mac.room; rw [decide_eq_true_eq]; omega
      refine nn_i (ldS_h hS rfl (ixI_h (s := s2) (xs := M.steps) hS hcal.1 hcal.2 (ixIst_h (s := s2) (xs := M.steps) hS hcal.1 hcal.2 fun w' hS => nn_i (ldS_h hS rfl ?_))))
      have hcap := (hS.own (sz := 1) (s := s1) (vs := ints M.cells)).cap
      refine slS3_h (s := s1) (vs := ints M.cells) hS (by simp) (by simp) (by simp) (by simp; omega) fun d hd1 hd2 hS => ?_
      have e1 : (ints M.cells).take (((s1.n : Nat) : Int).toNat * 1) = ints M.cells := List.take_of_length_le (by simp [ints]; omega)
      simp only [e1] at hS
      have hn : n = ((n.toNat : Nat) : Int) := by omega
      rw [hn]
      simp at hd1 hd2
      refine bAppZ_h (s := d) (vs := ints M.cells) hS (elI (by kernel_rfl)) (by kernel_rfl) rfl (by omega) (by omega) (by omega) (by omega) fun s' w'' hS hs' => ?_
      refine nn_i (stC_h hS rfl (by simp) fun w3 hS => ?_)
      have := h1 hcan.1 hcan.2 hroom w3 (hc (mach_shut (M := (M.tick wk).grow n) (s1 := s') (s2 := s2) (by
        have e2 : ints M.cells ++ List.replicate n.toNat (Value.int .i64 0) = ints (M.cells ++ List.replicate n.toNat 0) := by simp [ints]
        rw [e2] at hS
        exact hS)))
      rw [← l1] at this
      exact this
  · have hb : (M.caller wk && decide (n ≥ 1)) = false := by
      cases hcal : M.caller wk with
      | false => rfl
      | true => simp only [Bool.true_and, decide_eq_false_iff_not]; intro h; exact hcan ⟨hcal, h⟩
    rw [hb]
    exact iteB_t rfl (h3 hcan)
end
end Go.Proofs.Ytheallacpidcmaa
