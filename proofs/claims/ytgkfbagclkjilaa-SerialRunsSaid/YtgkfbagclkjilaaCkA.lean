/-
  Layer 4: how many scopes are open; rows of numbers.
  Layer 4: what is held: the flow; an instruction is come to.
  Layer 4: what is held: the start.
  Layer 4: what comes behind an instruction, as an iterator.
  Layer 4: what is held: a step of the flow, and that it ends.
  Layer 4: what is held: a pass of the loop's range.
  Layer 4: what is held: the whole.
  Layer 4: the reference's ways.
  Layer 4: the reference: bits; what a handle's ways come to.
  Layer 4: the reference: to which instructions a way leads on which a handle is not forked.
  Layer 4: the reference: without.
  Layer 4: the plain law of what is held: a handle is not held just where a way leads on which it was not forked.
-/
import Derived.Test.YtgkfbagclkjilaaFr
import Derived.Test.YtgkfbagclkjilaaEvU
import Derived.Test.YtgkfbagclkjilaaEvQ
set_option linter.unusedSimpArgs false
set_option linter.unusedVariables false
set_option maxRecDepth 100000
namespace Go.Proofs.Ytgkfbagclkjilaa.Ck
open Go Go.Ev Go.Proofs

theorem elI {P : Program} {t : TypeId} (h : elInfo P t = some (1, 8, some (.int .i64 0))) : ElS P t 1 8 (.int .i64 0) := ⟨h, rfl⟩

abbrev opI (x : List Int) : Int := x.getD 0 0
def stepD (n : Int) (x : List Int) : Int := if opI x = 11 then IntKind.wrap .i64 (n + 1) else if opI x = 12 then IntKind.wrap .i64 (n - 1) else n
def depths : Int → List (List Int) → List Int
  | _, [] => []
  | n, x :: l => n :: depths (stepD n x) l
theorem depths_length : ∀ (l : List (List Int)) (n : Int), (depths n l).length = l.length
  | [], _ => rfl
  | x :: l, n => by simp [depths, depths_length l]

/-- one of them -/
theorem ixC {w : World} {s : Sl} {l : List (List Int)} {dn rest : List (List Int)} {x : List Int} {i : Int} {c : Addr → Prop} (h : Code5 w s l) (hl : l = dn ++ x :: rest) (hi : i = (dn.length : Int))
    (hc : ∀ p, x.length = 5 → (∀ j v, (Go.Ev.ints x)[j]? = some v → w.cell? (p.add j) = some v) → c p) : ixS s i 5 c := by
  have hn := h.len.symm
  subst hi
  refine ixR_i h.rws (by omega) (by rw [← hn, hl]; simp; omega) fun p e he hle hcell => ?_
  rw [Int.toNat_natCast, hl] at he
  simp at he
  subst he
  exact hc p ((h.five x (by rw [hl]; simp)).1) hcell
theorem ints_get {x : List Int} {j : Nat} (h : j < x.length) : (Go.Ev.ints x)[j]? = some (.int .i64 (x.getD j 0)) := by
  simp [Go.Ev.ints, h]

theorem depths_s {w : World} {s : Sl} {l : List (List Int)} {k : Sl → World → Prop} (hr : Code5 w s l) (hb : 8 * l.length ≤ 281474976710656)
    (hc : ∀ s' w', St w w' [slc 1 s' (Go.Ev.ints (depths 0 l))] → s'.n = l.length → k s' w') : check_Depths s w k := by
  have hl := hr.len.symm
  unfold check_Depths
  refine mkSl_h (n := s.n) (.nil w) (elI (by kernel_rfl)) rfl (by omega) (by omega) fun s1 w2 h n1 => ?_
  refine loopP_of (fun (x : Int × Int) w' => ∃ dn rest acc n, l = dn ++ rest ∧ x = (n, (dn.length : Int)) ∧ depths 0 l = acc ++ depths n rest ∧ acc.length = dn.length ∧ St w w' [slc 1 s1 (Go.Ev.ints acc ++ List.replicate rest.length (.int .i64 0))])
    (fun x _ => ((s.n : Int) - x.2).toNat) ⟨[], l, [], 0, rfl, rfl, rfl, rfl, by simpa [hl, Go.Ev.ints] using h⟩ ?_
  rintro x w5 ⟨dn, rest, acc, n, hlr, rfl, hd, ha, h⟩ C hC
  cases rest with
  | nil =>
    refine iteB_f (by simp only [decide_eq_false_iff_not]; rw [← hl, hlr]; simp) ?_
    refine hc s1 w5 ?_ (n1.trans hl.symm)
    simp [depths] at hd
    rw [hd]; simpa using h
  | cons x rest =>
    have hlen : l.length = dn.length + (rest.length + 1) := by rw [hlr]; simp
    refine iteB_t (by simp only [decide_eq_true_eq]; omega) ?_
    refine ixC (hr.ext h.ext) hlr rfl fun p h5 hcell => ldA_c (by simp [Go.Ev.ints, h5]) hcell ?_
    refine newC_h h fun g w9 h => ?_
    refine stW_h (g := g) h rfl (by simp [Go.Ev.ints, h5]) (by simp [Go.Ev.ints, Value.oneCell']) fun w10 h => ?_
    refine ixS_h (s := s1) (vs := Go.Ev.ints acc ++ List.replicate (rest.length + 1) (.int .i64 0)) h (by omega) (by omega) (by omega) fun g1 o hg1 hrd hwr => ?_
    refine hwr h inferInstance 0 _ _ (by omega) rfl fun w12 h => ?_
    refine ldI_h (g := g) (o := 0) h (by rw [ints_get (by omega)]) ?_
    have hw1 : IntKind.wrap .i64 ((dn.length : Int) + 1) = ((dn ++ [x]).length : Int) := by rw [wrap_id ⟨by omega, by omega⟩]; simp
    have hset : (Go.Ev.ints acc ++ List.replicate (rest.length + 1) (Value.int .i64 0)).set ((dn.length : Int).toNat * 1 + 0) (Value.int .i64 n) = Go.Ev.ints (acc ++ [n]) ++ List.replicate rest.length (Value.int .i64 0) := by
      have e : (dn.length : Int).toNat * 1 + 0 = (Go.Ev.ints acc).length + 0 := by simp [Go.Ev.ints, ha]
      rw [e, List.set_append_right (h := by omega), Nat.add_sub_cancel_left]
      simp [Go.Ev.ints, List.replicate_succ]
    have h : St w w12 [blk g (Go.Ev.ints x).toArray.toList, slc 1 s1 (Go.Ev.ints (acc ++ [n]) ++ List.replicate rest.length (Value.int .i64 0))] := by rw [← hset]; exact h
    have hgo : ∀ n', n' = stepD n x → C (n', IntKind.wrap .i64 ((dn.length : Int) + 1)) w12 := by
      rintro n' rfl
      rw [hw1]
      refine hC _ _ ⟨dn ++ [x], rest, acc ++ [n], stepD n x, by simp [hlr], rfl, by rw [hd]; simp [depths], by simp [ha], ?_⟩ ?_
      · exact h.drop
      · simp; omega
    unfold stepD at hgo
    refine iteB_i (fun hb => ?_) fun hb => ?_
    · simp only [beq_iff_eq] at hb
      exact hgo _ (by rw [if_pos hb])
    · have hb' : ¬ opI x = 11 := by simpa using hb
      refine iteB_i (fun hb2 => ?_) fun hb2 => ?_
      · have hb2' : opI x = 12 := by simpa using hb2
        exact hgo _ (by rw [if_neg hb', if_pos hb2'])
      · have hb2' : ¬ opI x = 12 := by simpa using hb2
        exact hgo _ (by rw [if_neg hb', if_neg hb2'])

theorem rdepths_s {w : World} {s : Sl} {l : List (List Int)} {k : Sl → World → Prop} (hr : Code5 w s l) (hb : 8 * l.length ≤ 140737488355328)
    (hc : ∀ s' w', St w w' [slc 1 s' (Go.Ev.ints (depths 0 l))] → s'.n = l.length → k s' w') : pelotonref04_Depths s w k := by
  have hl := hr.len.symm
  unfold pelotonref04_Depths
  refine loopP_of (fun (x : Sl × (Int × Int)) w' => ∃ dn rest acc n, l = dn ++ rest ∧ x.2 = (n, (dn.length : Int)) ∧ depths 0 l = acc ++ depths n rest ∧ acc.length = dn.length ∧ x.1.n = dn.length ∧ St w w' [slc 1 x.1 (Go.Ev.ints acc)])
    (fun x _ => ((s.n : Int) - x.2.2).toNat) ⟨[], l, [], 0, rfl, rfl, rfl, rfl, rfl, by simpa [Go.Ev.ints] using (St.nil w).nilS 1⟩ ?_
  rintro ⟨s1, x⟩ w5 ⟨dn, rest, acc, n, hlr, rfl, hd, ha, hn1, h⟩ C hC
  simp only at hn1 h
  cases rest with
  | nil =>
    refine iteB_f (by simp only [decide_eq_false_iff_not]; rw [← hl, hlr]; simp) ?_
    simp [depths] at hd
    refine hc s1 w5 (by rw [hd]; exact h) ?_
    rw [hlr]; simpa using hn1
  | cons x rest =>
    have hlen : l.length = dn.length + (rest.length + 1) := by rw [hlr]; simp
    refine iteB_t (by simp only [decide_eq_true_eq]; omega) ?_
    refine newC_h h fun g w9 h => ?_
    refine bApp_h (s := s1) (x := ⟨some ⟨g, 0, none⟩, 1, 1⟩) (ys := [.int .i64 n]) h (elI (by kernel_rfl)) (by kernel_rfl) (blk_sls (n := 1) (l := [.int .i64 n]) h.blk rfl 1) (by simp [Value.oneCell']) (by simp only; omega) (by simp only; omega) fun s6 w7 h n6 => ?_
    have h := h.drop
    refine ixC (hr.ext h.ext) hlr rfl fun p h5 hcell => ?_
    refine ldI_i (hcell 0 _ (ints_get (by omega))) ?_
    have hw1 : IntKind.wrap .i64 ((dn.length : Int) + 1) = ((dn ++ [x]).length : Int) := by rw [wrap_id ⟨by omega, by omega⟩]; simp
    have hgo : ∀ n', n' = stepD n x → C (s6, (n', IntKind.wrap .i64 ((dn.length : Int) + 1))) w7 := by
      rintro n' rfl
      rw [hw1]
      refine hC _ _ ⟨dn ++ [x], rest, acc ++ [n], stepD n x, by simp [hlr], rfl, by rw [hd]; simp [depths], by simp [ha], by simp only [n6]; simp [hn1], by simpa [Go.Ev.ints] using h⟩ ?_
      simp; omega
    unfold stepD at hgo
    have fin : ∀ m, (opI x = 11 → m = IntKind.wrap .i64 (n + 1)) → (opI x ≠ 11 → m = n) → ixS s ((dn.length : Nat) : Int) 5 fun a13 => ldI .i64 w7 (Addr.add a13 0) fun i14 =>
        iteB (i14 == (12 : Int)) (C (s6, ((IntKind.wrap .i64 (m - (1 : Int))), (IntKind.wrap .i64 (((dn.length : Nat) : Int) + (1 : Int))))) w7) (C (s6, (m, (IntKind.wrap .i64 (((dn.length : Nat) : Int) + (1 : Int))))) w7) := by
      intro m hm1 hm2
      refine ixC (hr.ext h.ext) hlr rfl fun p h5 hcell => ?_
      refine ldI_i (hcell 0 _ (ints_get (by omega))) ?_
      refine iteB_i (fun hb2 => ?_) fun hb2 => ?_
      · have hb2' : opI x = 12 := by simpa using hb2
        refine hgo _ ?_
        rw [if_neg (by omega), if_pos hb2', hm2 (by omega)]
      · have hb2' : ¬ opI x = 12 := by simpa using hb2
        refine hgo _ ?_
        by_cases h11 : opI x = 11
        · rw [if_pos h11, hm1 h11]
        · rw [if_neg h11, if_neg hb2', hm2 h11]
    refine iteB_i (fun hb => ?_) fun hb => ?_
    · have hb' : opI x = 11 := by simpa using hb
      exact fin _ (fun _ => rfl) fun h => (h hb').elim
    · have hb' : ¬ opI x = 11 := by simpa using hb
      exact fin _ (fun h => (hb' h).elim) fun _ => rfl

end Go.Proofs.Ytgkfbagclkjilaa.Ck

namespace Go.Proofs.Ytgkfbagclkjilaa.Ck
open Go Go.Ev Go.Proofs

structure Fl where
  held : List Int
  come : List Bool
  todo : List Int
def bls (l : List Bool) : List Value := l.map Value.bool
def Fl.now (F : Fl) (i hv : Int) : Int := andI .i64 (F.held.getD i.toNat 0) hv
def Fl.stay (F : Fl) (i hv : Int) : Bool := F.come.getD i.toNat false && (F.now i hv == F.held.getD i.toNat 0)
def Fl.meet (F : Fl) (i hv : Int) : Fl := if F.stay i hv then F else { held := F.held.set i.toNat (F.now i hv), come := F.come.set i.toNat true, todo := F.todo ++ [i] }
/-- a flow in memory -/
def flowP (g : Nat) (code : Sl) (F : Fl) (p : Sl × Sl × Sl) : List HP :=
  [blk g [.slice code.a code.n code.c, .slice p.1.a p.1.n p.1.c, .slice p.2.1.a p.2.1.n p.2.1.c, .slice p.2.2.a p.2.2.n p.2.2.c], slc 1 p.1 (ints F.held), slc 1 p.2.1 (bls F.come), slc 1 p.2.2 (ints F.todo)]
def flow (g : Nat) (x : Sl × Fl) : HP := exHP fun p => sepHP (flowP g x.1 x.2 p)
section
variable {w0 w : World} {L : List HP} {g : Nat} {code : Sl} {F : Fl}
theorem flow_open {R : List HP} (h : St w0 w (flow g (code, F) :: R)) : ∃ s1 s2 s3 : Sl, St w0 w (blk g [.slice code.a code.n code.c, .slice s1.a s1.n s1.c, .slice s2.a s2.n s2.c, .slice s3.a s3.n s3.c] :: slc 1 s1 (ints F.held) :: slc 1 s2 (bls F.come) :: slc 1 s3 (ints F.todo) :: R) := by
  obtain ⟨p, h⟩ := h.some
  exact ⟨p.1, p.2.1, p.2.2, h.open⟩
theorem flow_shut {R : List HP} {s1 s2 s3 : Sl} (h : St w0 w (blk g [.slice code.a code.n code.c, .slice s1.a s1.n s1.c, .slice s2.a s2.n s2.c, .slice s3.a s3.n s3.c] :: slc 1 s1 (ints F.held) :: slc 1 s2 (bls F.come) :: slc 1 s3 (ints F.todo) :: R)) : St w0 w (flow g (code, F) :: R) :=
  St.ex (X := fun p => sepHP (flowP g code F p)) (s1, s2, s3) (St.shut h)

theorem bls_get {l : List Bool} {i : Nat} (h : i < l.length) : (bls l)[i]? = some (.bool (l.getD i false)) := by simp [bls, h]
theorem ixBl_h {s : Sl} {xs : List Bool} {i : Int} {f : HP → List HP} {c : Bool → Prop} (h : St w0 w L) [a : At L (slc 1 s) (bls xs) f] (h0 : 0 ≤ i) (h1 : i < xs.length) (hc : c (xs.getD i.toNat false)) : ixS s i 1 fun a => ldB w a c := by
  have hn : xs.length = s.n := by have := h.slen (sz := 1) (s := s) (vs := bls xs); simpa [bls] using this
  refine ixS_h h (by omega) h0 (by omega) fun g o _ hr _ => ldB_i ?_ hc
  have := hr h 0 _ (by omega) (bls_get (i := i.toNat * 1 + 0) (by omega))
  simpa using this
theorem ixBlst_h {s : Sl} {xs : List Bool} {i : Int} {x : Bool} {f : HP → List HP} {c : World → Prop} (h : St w0 w L) [a : At L (slc 1 s) (bls xs) f] (h0 : 0 ≤ i) (h1 : i < xs.length) (hc : ∀ w', St w0 w' (f (slc 1 s (bls (xs.set i.toNat x)))) → c w') : ixS s i 1 fun a => stC w a (.bool x) c := by
  have hn : xs.length = s.n := by have := h.slen (sz := 1) (s := s) (vs := bls xs); simpa [bls] using this
  refine ixS_h h (by omega) h0 (by omega) fun g o _ _ hs => ?_
  have := hs h a 0 (.bool x) c (by omega) rfl fun w' h' => hc w' (by
    have e : (bls xs).set (i.toNat * 1 + 0) (.bool x) = bls (xs.set i.toNat x) := by simp [bls, List.map_set]
    rwa [e] at h')
  simpa using this

theorem meet_s {i hv : Int} {f : HP → List HP} {k : Unit → World → Prop} (h : St w0 w L) [a : At L (flow g) (code, F) f] (h0 : 0 ≤ i) (h1 : i < F.held.length) (hl : F.come.length = F.held.length) (hb : (F.todo.length + 1) * 8 ≤ 140737488355328)
    (hc : ∀ w', St w0 w' (f (flow g (code, F.meet i hv))) → k () w') : check_flow_meet (some ⟨g, 0, none⟩) i hv w k := by
  obtain ⟨R, ho, hcl⟩ := a.out
  obtain ⟨s1, s2, s3, hS⟩ := flow_open (ho h)
  unfold check_flow_meet
  refine nn_i (ldS_h (o := 1) hS rfl (ixI_h (s := s1) (xs := F.held) hS h0 h1 ?_))
  have fin : ∀ b, b = F.stay i hv → iteB b (k () w) (
    drew w fun w16 => nn (some ⟨g, 0, none⟩) fun a17 => ldS w16 (Addr.add a17 2) fun s18 => nn (some ⟨g, 0, none⟩) fun a19 => ldS w16 (Addr.add a19 1) fun s20 =>
    ixS s18 i 1 fun a21 => stC w16 a21 (.bool true) fun w22 => ixS s20 i 1 fun a23 => stC w22 a23 (.int .i64 (andI .i64 (F.held.getD i.toNat 0) hv)) fun w24 =>
    nn (some ⟨g, 0, none⟩) fun a25 => ldS w24 (Addr.add a25 3) fun s26 => newC w24 #[(.int .i64 i)] 3 fun a27 w28 =>
    bApp Go.Proofs.Try.prog #[88, 88] 88 [(.slice s26.a s26.n s26.c), (.slice (some a27) 1 1)] w28 fun s29 w30 =>
    nn (some ⟨g, 0, none⟩) fun a31 => stC w30 (Addr.add a31 3) (.slice s29.a s29.n s29.c) fun w32 => k () w32) := by
    rintro b rfl
    refine iteB_i (fun hst => ?_) fun hst => ?_
    · have e : F.meet i hv = F := by unfold Fl.meet; rw [if_pos hst]
      have := hc w
      rw [e] at this
      exact this (hcl (ho h))
    · have e : F.meet i hv = { held := F.held.set i.toNat (F.now i hv), come := F.come.set i.toNat true, todo := F.todo ++ [i] } := by unfold Fl.meet; rw [if_neg (by simp [hst])]
      rw [e] at hc
      refine drew_h hS fun w16 hS => nn_i (ldS_h (o := 2) hS rfl (nn_i (ldS_h (o := 1) hS rfl ?_)))
      refine ixBlst_h (s := s2) (xs := F.come) hS h0 (by omega) fun w22 hS => ?_
      refine ixIst_h (s := s1) (xs := F.held) hS h0 h1 fun w24 hS => nn_i (ldS_h (o := 3) hS rfl ?_)
      have hn3 : F.todo.length = s3.n := by have := hS.slen (sz := 1) (s := s3) (vs := ints F.todo); simpa using this
      refine newC_h hS fun gn w28 hS => ?_
      refine bApp_h (s := s3) (vs := ints F.todo) (x := ⟨some ⟨gn, 0, none⟩, 1, 1⟩) (ys := [.int .i64 i]) hS (elI (by kernel_rfl)) (by kernel_rfl) (blk_sls (n := 1) (l := [.int .i64 i]) hS.blk rfl 1) (by simp [Value.oneCell']) (by simp only; omega) (by simp only; omega) fun s6 w7 hS n6 => ?_
      have hS := hS.drop
      refine nn_i (stC_h (g := g) (o := 3) hS rfl (by simp) fun w32 hS => hc w32 (hcl (flow_shut (s1 := s1) (s2 := s2) (s3 := s6) ?_)))
      simpa [ints, Fl.now] using hS
  unfold joinP
  refine nn_i (ldS_h (o := 2) hS rfl (ixBl_h (s := s2) (xs := F.come) hS h0 (by omega) ?_))
  refine iteB_i (fun hcm => ?_) fun hcm => ?_
  · refine nn_i (ldS_h (o := 1) hS rfl (ixI_h (s := s1) (xs := F.held) hS h0 h1 ?_))
    exact fin _ (by unfold Fl.stay Fl.now; rw [hcm, Bool.true_and])
  · exact fin _ (by unfold Fl.stay; rw [hcm, Bool.false_and])
end
end Go.Proofs.Ytgkfbagclkjilaa.Ck

namespace Go.Proofs.Ytgkfbagclkjilaa.Ck
open Go Go.Ev Go.Proofs

theorem elB {P : Program} {t : TypeId} (h : elInfo P t = some (1, 1, some (.bool false))) : ElS P t 1 1 (.bool false) := ⟨h, rfl⟩
def Fl.start (n : Nat) : Fl := ⟨List.replicate n 0, List.replicate n false, []⟩
theorem ints_rep (n : Nat) : List.replicate n (Value.int .i64 0) = ints (List.replicate n 0) := by simp [ints]
theorem bls_rep (n : Nat) : List.replicate n (Value.bool false) = bls (List.replicate n false) := by simp [bls]

/-- what a flow's making leaves -/
theorem start_shut {w0 w : World} {L R : List HP} {g gp : Nat} {code s1 s2 : Sl} {n : Nat} (h : St w0 w L)
    (hp : L.Perm (blk g [.slice code.a code.n code.c, .slice s1.a s1.n s1.c, .slice s2.a s2.n s2.c, .slice none 0 0] :: slc 1 s1 (List.replicate n (.int .i64 0)) :: slc 1 s2 (List.replicate n (.bool false)) :: blk gp [.pointer (some ⟨g, 0, none⟩)] :: R)) :
    St w0 w (flow g (code, Fl.start n) :: blk gp [.pointer (some ⟨g, 0, none⟩)] :: R) := by
  have h := (h.perm hp).nilS 1
  rw [ints_rep, bls_rep] at h
  exact flow_shut (s1 := s1) (s2 := s2) (s3 := ⟨none, 0, 0⟩) (h.perm (by simp only [Fl.start]; repeat' (first | exact List.Perm.refl _ | refine perm_f 0 rfl ?_ | refine perm_f 1 rfl ?_ | refine perm_f 2 rfl ?_ | refine perm_f 3 rfl ?_ | refine perm_f 4 rfl ?_ | refine perm_f 5 rfl ?_ | refine perm_f 6 rfl ?_ | refine perm_f 7 rfl ?_)))
end Go.Proofs.Ytgkfbagclkjilaa.Ck

namespace Go.Proofs.Ytgkfbagclkjilaa.Ck
open Go Go.Ev Go.Proofs

def isGoes (x : List Int) : Bool := (opI x == 6) || (opI x == 7)
def isEnds (x : List Int) : Bool := (opI x == 16) || (opI x == 15)
/-- is the other place yielded, is the next one -/
def yA (n : Nat) (x : List Int) : Bool := isGoes x && decide (0 ≤ x.getD 4 0 ∧ x.getD 4 0 < n)
def yB (n : Nat) (i : Int) (x : List Int) : Bool := (opI x != 6) && !isEnds x && decide (IntKind.wrap .i64 (i + 1) < n)
def behind (n : Nat) (i : Int) (x : List Int) : List Int := (if yA n x then [x.getD 4 0] else []) ++ (if yB n i x then [IntKind.wrap .i64 (i + 1)] else [])

theorem behind_s {w0 w : World} {Lk : List Int → List HP} {code : Sl} {l : List (List Int)} {i : Int} {x : List Int} {ca ci : Addr} {lo : Nat} {Y : Nat → Dec} {k : Unit → World → Prop}
    (h : St w0 w (Lk [])) (hi0 : 0 ≤ i) (hx : l[i.toNat]? = some x)
    (hcell : ∀ {w ks}, St w0 w (Lk ks) → w.cell? ca = some (.slice code.a code.n code.c) ∧ w.cell? ci = some (.int .i64 i) ∧ Code5 w code l)
    (hy : ∀ {B : HP} {ks : List Int} {z : Int} {w : World} {c : Value → World → Prop}, St w0 w (B :: Lk ks) → ks ++ [z] <+: behind code.n i x → (∀ w', St w0 w' (B :: Lk (ks ++ [z])) → c (.bool true) w') → Y lo [.int .i64 z] w c)
    (hc : ∀ w', St w0 w' (Lk (behind code.n i x)) → k () w') : check_behind_1 Y (.func (.yield lo) #[] #[]) ca ci w k := by
  unfold check_behind_1 check_behind_1_b
  obtain ⟨hs, hi, hcd⟩ := hcell h
  have hil : i.toNat < l.length := (List.getElem?_eq_some_iff.1 hx).1
  have hn := hcd.len
  have hsplit : l = l.take i.toNat ++ x :: l.drop (i.toNat + 1) := by
    obtain ⟨_, e⟩ := List.getElem?_eq_some_iff.1 hx
    rw [← e, List.getElem_cons_drop, List.take_append_drop]
  refine ldS_i (s := code) hs (ldI_i hi (ixC hcd hsplit (by simp; omega) fun p h5 hp => ldA_c (by simp [Go.Ev.ints, h5]) hp ?_))
  refine newC_h h fun g w6 h => ?_
  refine stW_h (g := g) h rfl (by simp [Go.Ev.ints, h5]) (by simp [Go.Ev.ints, Value.oneCell']) fun w7 h => ?_
  have ld : ∀ {w : World} {L : List HP} {o : Nat} {c : Int → Prop}, St w0 w (blk g (Go.Ev.ints x).toArray.toList :: L) → o < 5 → c (x.getD o 0) → ldI .i64 w (Addr.add ⟨g, 0, none⟩ o) c := by
    intro w L o c h ho hc
    have := ldI_h (g := g) (o := o) (k := .i64) (n := x.getD o 0) (c := c) h (by simpa using ints_get (x := x) (j := o) (by omega)) hc
    rw [add_mk, Nat.zero_add]; exact this
  -- the second part
  have part2 : ∀ w20, St w0 w20 (blk g (Go.Ev.ints x).toArray.toList :: Lk (if yA code.n x then [x.getD 4 0] else [])) → iteB false (k () w20) (joinP (S := Bool) (fun J21 =>
      ldI .i64 w20 (Addr.add ⟨g, 0, none⟩ 0) fun i22 =>
      iteB (i22 != (6 : Int)) (
        ldI .i64 w20 (Addr.add ⟨g, 0, none⟩ 0) fun i23 =>
        check_ends i23 w20 fun b24 w25 =>
        iteB (!b24) (
          ldI .i64 w25 ci fun i26 =>
          ldS w25 ca fun s27 =>
          (J21 (decide ((IntKind.wrap .i64 (i26 + (1 : Int))) < ((s27.n : Nat) : Int))) w25)) (
          (J21 false w25))) (
        (J21 false w20))) fun b28 w29 =>
    iteB b28 (
      ldI .i64 w29 ci fun i30 =>
      callF (orcY [(n_check_goes, (fun args w c => unL [(.i .i64)] args fun x => check_goes x w fun r w => c (packV (valL [.b] r)) w)), (n_check_ends, (fun args w c => unL [(.i .i64)] args fun x => check_ends x w fun r w => c (packV (valL [.b] r)) w))] Y) (.func (.yield lo) #[] #[]) #[(.int .i64 (IntKind.wrap .i64 (i30 + (1 : Int))))] w29 fun v31 w32 =>
      toB v31 fun b33 =>
      (k () w32)) (
      (k () w29))) := by
    intro w20 h
    refine iteB_f rfl ?_
    unfold joinP
    obtain ⟨hs, hi, _⟩ := hcell h.drop
    have last : ∀ b, b = yB code.n i x → iteB b (
        ldI .i64 w20 ci fun i30 =>
        callF (orcY [(n_check_goes, (fun args w c => unL [(.i .i64)] args fun x => check_goes x w fun r w => c (packV (valL [.b] r)) w)), (n_check_ends, (fun args w c => unL [(.i .i64)] args fun x => check_ends x w fun r w => c (packV (valL [.b] r)) w))] Y) (.func (.yield lo) #[] #[]) #[(.int .i64 (IntKind.wrap .i64 (i30 + (1 : Int))))] w20 fun v31 w32 =>
        toB v31 fun b33 => (k () w32)) (k () w20) := by
      rintro b rfl
      refine iteB_i (fun hb => ?_) fun hb => ?_
      · refine ldI_i hi (yield_i (hy h ?_ fun w' h => hc w' ?_))
        · unfold behind; rw [if_pos hb]; exact List.prefix_refl _
        · have := h.drop
          unfold behind; rw [if_pos hb]; exact this
      · refine hc w20 ?_
        have e : behind code.n i x = if yA code.n x then [x.getD 4 0] else [] := by unfold behind; rw [hb]; simp
        rw [e]; exact h.drop
    refine ld h (by omega) ?_
    refine iteB_i (fun h6 => ?_) fun h6 => ?_
    · refine ld h (by omega) ?_
      show iteB _ _ _
      refine iteB_i (fun he => ?_) fun he => ?_
      · refine ldI_i hi (ldS_i (s := code) hs (last _ ?_))
        have he' : isEnds x = false := by simpa [isEnds] using he
        have h6' : (opI x != 6) = true := h6
        unfold yB; rw [h6', he']; simp
      · refine last _ ?_
        have he' : isEnds x = true := by
          cases hE : isEnds x with
          | true => rfl
          | false => exact absurd he (by unfold isEnds at hE; simp only [opI] at hE; rw [hE]; simp)
        unfold yB; rw [he']; simp
    · refine last _ ?_
      have h6' : (opI x != 6) = false := h6
      unfold yB; rw [h6']; simp
  unfold joinP
  refine ld h (by omega) ?_
  show iteB _ _ _
  refine iteB_i (fun hg => ?_) fun hg => ?_
  · have hg' : isGoes x = true := hg
    refine ld h (by omega) ?_
    refine iteB_i (fun h4 => ?_) fun h4 => ?_
    · simp only [decide_eq_true_eq] at h4
      obtain ⟨hs, _, _⟩ := hcell h.drop
      refine ld h (by omega) (ldS_i (s := code) hs ?_)
      refine iteB_i (fun h5' => ?_) fun h5' => ?_
      · simp only [decide_eq_true_eq] at h5'
        have hA : yA code.n x = true := by unfold yA; rw [hg', decide_eq_true ⟨h4, h5'⟩]; rfl
        refine ld h (by omega) (yield_i (hy h ?_ fun w' h => ?_))
        · unfold behind; rw [if_pos hA]; exact List.prefix_append _ _
        · refine part2 w' ?_
          rw [if_pos hA]; exact h
      · simp only [decide_eq_false_iff_not] at h5'
        have hA : yA code.n x = false := by unfold yA; rw [hg', decide_eq_false (fun h => h5' h.2)]; rfl
        refine part2 w7 ?_
        rw [hA]; exact h
    · simp only [decide_eq_false_iff_not] at h4
      have hA : yA code.n x = false := by unfold yA; rw [hg', decide_eq_false (fun h => h4 h.1)]; rfl
      refine part2 w7 ?_
      rw [hA]; exact h
  · have hg' : isGoes x = false := hg
    have hA : yA code.n x = false := by unfold yA; rw [hg']; rfl
    refine part2 w7 ?_
    rw [hA]; exact h
end Go.Proofs.Ytgkfbagclkjilaa.Ck

namespace Go.Proofs.Ytgkfbagclkjilaa.Ck
open Go Go.Ev Go.Proofs

theorem bv_s {m : Nat} (h : m < 2 ^ 63) : (bv (m : Int)).toNat = m := by
  rw [BitVec.toNat_ofInt]; omega
theorem toInt_s {b : BitVec 64} (h : b.toNat < 2 ^ 63) : b.toInt = b.toNat := by
  rw [BitVec.toInt_eq_toNat_cond]; split <;> omega
theorem and_le {a b : Int} (h0 : 0 ≤ a) (h1 : a ≤ 255) : 0 ≤ andI .i64 a b ∧ andI .i64 a b ≤ a := by
  rw [andI_bv]
  have e : (bv a).toNat = a.toNat := by
    have := bv_s (m := a.toNat) (by omega)
    rwa [Int.toNat_of_nonneg h0] at this
  have h2 : (bv a &&& bv b).toNat ≤ a.toNat := by rw [BitVec.toNat_and, e]; exact Nat.and_le_left
  rw [toInt_s (by omega)]
  omega

/-- what forks add -/
def hvOf (x : List Int) (h : Int) : Int := if opI x = 8 ∧ 0 ≤ x.getD 1 0 ∧ x.getD 1 0 < 8 then orI .i64 h (shlV .i64 1 (x.getD 1 0)) else h
def Fl.meets (hv : Int) (F : Fl) (zs : List Int) : Fl := zs.foldl (fun F z => F.meet z hv) F
def Fl.step (l : List (List Int)) (F : Fl) : Fl := match F.todo with
  | [] => F
  | i :: t => Fl.meets (hvOf (l.getD i.toNat []) (F.held.getD i.toNat 0)) { F with todo := t } (behind l.length i (l.getD i.toNat []))

structure Fl.OK (n : Nat) (F : Fl) : Prop where
  held : F.held.length = n
  come : F.come.length = n
  bits : ∀ h ∈ F.held, 0 ≤ h ∧ h ≤ 255
  todo : ∀ i ∈ F.todo, 0 ≤ i ∧ i < n
def sumN (l : List Int) : Nat := (l.map Int.toNat).sum
def cntF (l : List Bool) : Nat := (l.map fun b => if b then 0 else 1).sum
def Fl.mu (F : Fl) : Nat := 3 * (sumN F.held + cntF F.come) + F.todo.length

theorem sumN_set : ∀ {l : List Int} {i : Nat} {a : Int}, i < l.length → sumN (l.set i a) + (l.getD i 0).toNat = sumN l + a.toNat
  | [], i, a, h => by simp at h
  | x :: l, 0, a, h => by simp [sumN]; omega
  | x :: l, i + 1, a, h => by
    have := sumN_set (l := l) (i := i) (a := a) (by simpa using h)
    simp [sumN] at this ⊢; omega
theorem cntF_set : ∀ {l : List Bool} {i : Nat}, i < l.length → cntF (l.set i true) + (if l.getD i false then 0 else 1) = cntF l
  | [], i, h => by simp at h
  | x :: l, 0, h => by cases x <;> simp [cntF] <;> omega
  | x :: l, i + 1, h => by
    have := cntF_set (l := l) (i := i) (by simpa using h)
    simp [cntF] at this ⊢; omega

theorem meet_ok {n : Nat} {F : Fl} {i hv : Int} (h : F.OK n) (h0 : 0 ≤ i) (h1 : i < n) : (F.meet i hv).OK n ∧ (F.meet i hv).mu ≤ F.mu := by
  unfold Fl.meet
  split
  · exact ⟨h, Nat.le_refl _⟩
  · rename_i hst
    have hi : i.toNat < F.held.length := by rw [h.held]; omega
    have hic : i.toNat < F.come.length := by rw [h.come]; omega
    have hb := h.bits (F.held.getD i.toNat 0) (by
      have e : F.held.getD i.toNat 0 = F.held[i.toNat] := by simp [hi]
      rw [e]; exact List.getElem_mem hi)
    have ha := and_le (b := hv) hb.1 hb.2
    refine ⟨⟨by simp [h.held], by simp [h.come], fun x hx => ?_, fun z hz => ?_⟩, ?_⟩
    · rcases List.mem_or_eq_of_mem_set hx with hx | rfl
      · exact h.bits x hx
      · unfold Fl.now; omega
    · rcases List.mem_append.1 hz with hz | hz
      · exact h.todo z hz
      · simp at hz; omega
    · have e1 := sumN_set (a := F.now i hv) hi
      have e2 := cntF_set hic
      simp only [Fl.mu, List.length_append, List.length_singleton]
      unfold Fl.stay at hst
      unfold Fl.now at e1 hst ⊢
      cases hcm : F.come.getD i.toNat false with
      | false => rw [hcm] at e2; simp at e2; omega
      | true =>
        rw [hcm] at hst e2
        simp only [Bool.true_and, beq_iff_eq] at hst
        simp at e2
        omega
theorem meets_ok {n : Nat} {hv : Int} : ∀ {zs : List Int} {F : Fl}, F.OK n → (∀ z ∈ zs, 0 ≤ z ∧ z < n) → (Fl.meets hv F zs).OK n ∧ (Fl.meets hv F zs).mu ≤ F.mu
  | [], F, h, _ => ⟨h, Nat.le_refl _⟩
  | z :: zs, F, h, hz => by
    have h1 := meet_ok (hv := hv) h (hz z (by simp)).1 (hz z (by simp)).2
    have h2 := meets_ok (hv := hv) (zs := zs) h1.1 fun y hy => hz y (by simp [hy])
    exact ⟨h2.1, Nat.le_trans h2.2 h1.2⟩
theorem behind_in {n : Nat} {i : Int} {x : List Int} (hn : n ≤ 4294967296) (h0 : 0 ≤ i) (h1 : i < n) : ∀ z ∈ behind n i x, 0 ≤ z ∧ z < n := by
  intro z hz
  have hw : IntKind.wrap .i64 (i + 1) = i + 1 := wrap_id ⟨by omega, by omega⟩
  unfold behind at hz
  rcases List.mem_append.1 hz with hz | hz
  · split at hz
    · rename_i hA
      simp only [List.mem_singleton] at hz; subst hz
      unfold yA at hA
      simp only [Bool.and_eq_true, decide_eq_true_eq] at hA
      exact hA.2
    · cases hz
  · split at hz
    · rename_i hB
      simp only [List.mem_singleton] at hz; subst hz
      unfold yB at hB
      simp only [Bool.and_eq_true, decide_eq_true_eq] at hB
      rw [hw] at hB ⊢
      exact ⟨by omega, hB.2⟩
    · cases hz
theorem step_ok {l : List (List Int)} {F : Fl} (hn : l.length ≤ 4294967296) (h : F.OK l.length) (ht : F.todo ≠ []) : (F.step l).OK l.length ∧ (F.step l).mu < F.mu := by
  unfold Fl.step
  split
  · rename_i e; exact (ht e).elim
  · rename_i i t e
    have hi := h.todo i (by rw [e]; simp)
    have h' : Fl.OK l.length { F with todo := t } := ⟨h.held, h.come, h.bits, fun z hz => h.todo z (by rw [e]; simp [hz])⟩
    have h2 := meets_ok (hv := hvOf (l.getD i.toNat []) (F.held.getD i.toNat 0)) h' (behind_in (x := l.getD i.toNat []) hn hi.1 hi.2)
    refine ⟨h2.1, Nat.lt_of_le_of_lt h2.2 ?_⟩
    simp only [Fl.mu, e, List.length_cons]; omega
end Go.Proofs.Ytgkfbagclkjilaa.Ck

namespace Go.Proofs.Ytgkfbagclkjilaa.Ck
open Go Go.Ev Go.Proofs

/-- a loop, with what is not seen in its state -/
theorem loopP_ghost {G S : Type} {f : (S → World → Prop) → S → World → Prop} (I : G → S → World → Prop) (μ : G → Nat) {g : G} {s : S} {w : World} (h0 : I g s w)
    (h : ∀ g s w, I g s w → ∀ C : S → World → Prop, (∀ g' s' w', I g' s' w' → μ g' < μ g → C s' w') → f C s w) : loopP f s w := by
  have key : ∀ n g s w, μ g ≤ n → I g s w → iterP f (n + 1) s w := by
    intro n
    induction n with
    | zero => intro g s w hn hI; exact h g s w hI _ fun g' s' w' _ hlt => by omega
    | succ n ih => intro g s w hn hI; exact h g s w hI _ fun g' s' w' hI' hlt => ih g' s' w' (by omega) hI'
  exact ⟨_, key _ g s w (Nat.le_refl _) h0⟩

theorem meets_snoc (hv : Int) (F : Fl) (ks : List Int) (z : Int) : F.meets hv (ks ++ [z]) = (F.meets hv ks).meet z hv := by simp [Fl.meets]

theorem orcI_one {n : Nat} {d : (Nat → Dec) → Dec} {Y : Nat → Dec} {args : List Value} {w : World} {c : Value → World → Prop} (h : d Y args w c) : orcI [(n, d)] n Y args w c := by
  unfold orcI
  rw [Nat.beq_refl]
  exact h
theorem it_call {Y : Nat → Dec} {v : Value} {a b : Addr} {w : World} {c : Value → World → Prop} (h : check_behind_1 Y v a b w fun r w => c (.tuple #[]) w) : i_check_behind_1 Y [v, .pointer (some a), .pointer (some b)] w c := h

theorem pass_s {w w' : World} {g gp gh ga : Nat} {s : Sl} {F : Fl} {l : List (List Int)} {x : List Int} {i hv : Int} {nv : Value} {ds : List Nat} {C : Unit × List Nat → World → Prop}
    (hS : St w w' [blk gh [.int .i64 hv], flow g (s, F), blk gp [.pointer (some ⟨g, 0, none⟩)], mks ds, blk ga [nv, .slice s.a s.n s.c]]) (hr : Code5 w s l) (hF : F.OK l.length) (hmu : F.mu ≤ 1000000) (hn : l.length ≤ 1000) (hi0 : 0 ≤ i) (hx : l[i.toNat]? = some x)
    (hc : ∀ D w'', St w w'' [mks (D :: ds), flow g (s, F.meets hv (behind l.length i x)), blk gp [.pointer (some ⟨g, 0, none⟩)], blk ga [nv, .slice s.a s.n s.c]] → C ((), D :: ds) w'') :
    check_behind s i w' fun v149 w150 => rangeF (orcI [(n_check_behind_1, i_check_behind_1)]) [.i .i64] v149 w150 (fun (x151 : Int) w152 C153 => ldP w152 ⟨gp, 0, none⟩ fun p156 => ldI .i64 w152 ⟨gh, 0, none⟩ fun i157 => check_flow_meet p156 x151 i157 w152 fun _u w158 => C153 w158) fun D154 w155 => C ((), D154 :: ds) w155 := by
  have hil : i.toNat < l.length := (List.getElem?_eq_some_iff.1 hx).1
  have hsn := hr.len
  unfold check_behind
  refine newC_h hS fun gc w1 hS => newC_h hS fun gi w2 hS => ?_
  refine rangeF_h hS fun lr D R w3 hS => ?_
  refine orcI_one (it_call (v := .func (.yield lr) #[] #[]) (a := ⟨gc, 0, none⟩) (b := ⟨gi, 0, none⟩) ?_)
  refine behind_s (x := x) (l := l) (code := s) (Lk := fun ks => [obj lr (R .ready), obj D (.deferred (some [])), blk gi [.int .i64 i], blk gc [.slice s.a s.n s.c], blk gh [.int .i64 hv], flow g (s, F.meets hv ks), blk gp [.pointer (some ⟨g, 0, none⟩)], mks ds, blk ga [nv, .slice s.a s.n s.c]])
    hS hi0 hx (fun {w ks} h => ⟨?_, ?_, hr.ext h.ext⟩) (fun {B ks z w c} h hp hcc => ?_) fun w4 h => ?_
  · rw [(h.blk (g := gc) (cs := [.slice s.a s.n s.c])).cell]; rfl
  · rw [(h.blk (g := gi) (cs := [.int .i64 i])).cell]; rfl
  · rw [hsn] at hp
    have hin := behind_in (x := x) (n := l.length) (i := i) (by omega) hi0 (by omega)
    have hpre : ∀ y ∈ ks ++ [z], 0 ≤ y ∧ y < l.length := fun y hy => hin y (hp.subset hy)
    have hz := hpre z (by simp)
    have hks := meets_ok (hv := hv) (zs := ks) hF fun y hy => hpre y (by simp [hy])
    refine rY_h (l := lr) (R := R) (kk := [.i .i64]) z (fun c hc => hc) h fun w5 h => ?_
    refine ldP_h (g := gp) (o := 0) h rfl (ldI_h (g := gh) (o := 0) h rfl ?_)
    have hlen : (F.meets hv ks).todo.length ≤ (F.meets hv ks).mu := by unfold Fl.mu; omega
    have hlen2 := hks.2
    refine meet_s (g := g) (code := s) (F := F.meets hv ks) h hz.1 (by rw [hks.1.held]; exact hz.2) (by rw [hks.1.held, hks.1.come]) (by omega) fun w6 h => ?_
    rw [← meets_snoc] at h
    exact rec_h (g := lr) (o := R .busy) (o' := R .ready) (c := c (.bool true)) h fun w7 h => hcc w7 h
  · have e : behind s.n i x = behind l.length i x := by rw [hsn]
    simp only [e] at h
    refine rec_h (g := lr) (o := R .ready) (o' := R .exhausted) (c := C ((), D :: ds)) h fun w5 h => hc D w5 ?_
    have h := h.perm (M := [obj D (.deferred (some [])), mks ds, flow g (s, F.meets hv (behind l.length i x)), blk gp [.pointer (some ⟨g, 0, none⟩)], blk ga [nv, .slice s.a s.n s.c], obj lr (R .exhausted), blk gi [.int .i64 i], blk gc [.slice s.a s.n s.c], blk gh [.int .i64 hv]]) (by repeat' (first | exact List.Perm.refl _ | refine perm_f 0 rfl ?_ | refine perm_f 1 rfl ?_ | refine perm_f 2 rfl ?_ | refine perm_f 3 rfl ?_ | refine perm_f 4 rfl ?_ | refine perm_f 5 rfl ?_ | refine perm_f 6 rfl ?_ | refine perm_f 7 rfl ?_))
    have h := mks_cons h
    exact ((((h.rm 7 rfl).rm 6 rfl).rm 5 rfl).rm 4 rfl)
end Go.Proofs.Ytgkfbagclkjilaa.Ck

namespace Go.Proofs.Ytgkfbagclkjilaa.Ck
open Go Go.Ev Go.Proofs

theorem joinP_i {S : Type} {body : (S → World → Prop) → Prop} {rest : S → World → Prop} (Inv : S → World → Prop) (h2 : ∀ J : S → World → Prop, (∀ s w, Inv s w → J s w) → body J) (h1 : ∀ s w, Inv s w → rest s w) : joinP body rest := h2 rest h1

def startL (g gp ga : Nat) (s s1 s2 : Sl) (needs : Int) (n : Nat) : List HP := [blk g [.slice s.a s.n s.c, .slice s1.a s1.n s1.c, .slice s2.a s2.n s2.c, .slice none 0 0], slc 1 s1 (List.replicate n (.int .i64 0)), slc 1 s2 (List.replicate n (.bool false)), blk gp [.pointer (some ⟨g, 0, none⟩)], blk ga [.int .i64 needs, .slice s.a s.n s.c]]
def startI (w : World) (ga : Nat) (s : Sl) (needs : Int) (a : Addr) (w' : World) : Prop := ∃ g gp s1 s2, a = ⟨gp, 0, none⟩ ∧ s1.n = s.n ∧ St w w' (startL g gp ga s s1 s2 needs s.n)

theorem leaf {w w' : World} {g gp ga : Nat} {s s1 s2 : Sl} {needs : Int} {L : List HP} {J : Addr → World → Prop} (hJ : ∀ a w', startI w ga s needs a w' → J a w') (h : St w w' L) (n1 : s1.n = s.n) (hp : L.Perm (startL g gp ga s s1 s2 needs s.n)) : J ⟨gp, 0, none⟩ w' :=
  hJ _ _ ⟨g, gp, s1, s2, rfl, n1, h.perm hp⟩

def Fl0 (n : Nat) : Fl := ⟨List.replicate n 255, List.replicate n false, []⟩
def Fl.steps (l : List (List Int)) : Nat → Fl → Fl
  | 0, F => F
  | m + 1, F => (Fl.steps l m F).step l
/-- what the loop comes to -/
def Reached (l : List (List Int)) (needs : Int) (F : Fl) : Prop := F.todo = [] ∧ (l = [] → F = Fl0 0) ∧ (l ≠ [] → ∃ m, F = Fl.steps l m ((Fl0 l.length).meet 0 (andI .i64 needs 255)))
theorem Fl0_ok (n : Nat) : (Fl0 n).OK n := ⟨by simp [Fl0], by simp [Fl0], fun h hh => by simp [Fl0] at hh; omega, fun i hi => by simp [Fl0] at hi⟩
theorem held_s {w : World} {s : Sl} {needs : Int} {l : List (List Int)} {k : Sl → World → Prop} (hr : Code5 w s l) (hn : s.n ≤ 1000)
    (hc : ∀ F s' w', Reached l needs F → St w w' [slc 1 s' (ints F.held)] → k s' w') : check_Held #[.int .i64 needs, .slice s.a s.n s.c] w k := by
  unfold check_Held check_Held_b
  refine newC_h (.nil w) fun ga w2 h0 => ?_
  refine ldS_h (g := ga) (o := 1) h0 rfl ?_
  refine joinP_i (startI w ga s needs) (fun J hJ => ?_) fun a75 w76 hI => ?_
  · refine drew_h h0 fun w5 h => ldS_h (g := ga) (o := 1) h rfl ?_
    have h5 := h
    refine ⟨?_, ?_⟩
    · refine mkSl_h (n := s.n) h (elI (by kernel_rfl)) rfl (by omega) (by omega) fun s1 _ h n1 => samec_h h5 h ?_
      refine ⟨?_, ?_⟩
      · refine mkSl_h (n := s.n) h (elB (by kernel_rfl)) rfl (by omega) (by omega) fun s2 _ h _ => samec_h h5 h ?_
        refine ⟨?_, ?_⟩
        · refine ⟨?_, ?_⟩
          · refine newC_h h fun g _ h => ?_
            refine newC_h h fun gp _ h => samec_h h5 h ?_
            refine stC_h (g := gp) h rfl (by simp) fun _ h => leaf (g := g) (s2 := s2) hJ h n1 ?_
            unfold startL; repeat' (first | exact List.Perm.refl _ | refine perm_f 0 rfl ?_ | refine perm_f 1 rfl ?_ | refine perm_f 2 rfl ?_ | refine perm_f 3 rfl ?_ | refine perm_f 4 rfl ?_ | refine perm_f 5 rfl ?_ | refine perm_f 6 rfl ?_ | refine perm_f 7 rfl ?_)
          · refine newC_h h fun gp _ h => samec_h h5 h ?_
            refine newC_h h fun g _ h => ?_
            refine stC_h (g := gp) h rfl (by simp) fun _ h => leaf (g := g) (s2 := s2) hJ h n1 ?_
            unfold startL; repeat' (first | exact List.Perm.refl _ | refine perm_f 0 rfl ?_ | refine perm_f 1 rfl ?_ | refine perm_f 2 rfl ?_ | refine perm_f 3 rfl ?_ | refine perm_f 4 rfl ?_ | refine perm_f 5 rfl ?_ | refine perm_f 6 rfl ?_ | refine perm_f 7 rfl ?_)
        · refine newC_h h fun gp _ h => samec_h h5 h ?_
          refine newC_h h fun g _ h => ?_
          refine stC_h (g := gp) h rfl (by simp) fun _ h => leaf (g := g) (s2 := s2) hJ h n1 ?_
          unfold startL; repeat' (first | exact List.Perm.refl _ | refine perm_f 0 rfl ?_ | refine perm_f 1 rfl ?_ | refine perm_f 2 rfl ?_ | refine perm_f 3 rfl ?_ | refine perm_f 4 rfl ?_ | refine perm_f 5 rfl ?_ | refine perm_f 6 rfl ?_ | refine perm_f 7 rfl ?_)
      · refine newC_h h fun gp _ h => samec_h h5 h ?_
        refine mkSl_h (n := s.n) h (elB (by kernel_rfl)) rfl (by omega) (by omega) fun s2 _ h _ => samec_h h5 h ?_
        refine newC_h h fun g _ h => ?_
        refine stC_h (g := gp) h rfl (by simp) fun _ h => leaf (g := g) (s2 := s2) hJ h n1 ?_
        unfold startL; repeat' (first | exact List.Perm.refl _ | refine perm_f 0 rfl ?_ | refine perm_f 1 rfl ?_ | refine perm_f 2 rfl ?_ | refine perm_f 3 rfl ?_ | refine perm_f 4 rfl ?_ | refine perm_f 5 rfl ?_ | refine perm_f 6 rfl ?_ | refine perm_f 7 rfl ?_)
    · refine ⟨?_, ?_⟩
      · refine mkSl_h (n := s.n) h (elB (by kernel_rfl)) rfl (by omega) (by omega) fun s2 _ h _ => samec_h h5 h ?_
        refine ⟨?_, ?_⟩
        · refine mkSl_h (n := s.n) h (elI (by kernel_rfl)) rfl (by omega) (by omega) fun s1 _ h n1 => samec_h h5 h ?_
          refine ⟨?_, ?_⟩
          · refine ⟨?_, ?_⟩
            · refine newC_h h fun g _ h => ?_
              refine newC_h h fun gp _ h => samec_h h5 h ?_
              refine stC_h (g := gp) h rfl (by simp) fun _ h => leaf (g := g) (s2 := s2) hJ h n1 ?_
              unfold startL; repeat' (first | exact List.Perm.refl _ | refine perm_f 0 rfl ?_ | refine perm_f 1 rfl ?_ | refine perm_f 2 rfl ?_ | refine perm_f 3 rfl ?_ | refine perm_f 4 rfl ?_ | refine perm_f 5 rfl ?_ | refine perm_f 6 rfl ?_ | refine perm_f 7 rfl ?_)
            · refine newC_h h fun gp _ h => samec_h h5 h ?_
              refine newC_h h fun g _ h => ?_
              refine stC_h (g := gp) h rfl (by simp) fun _ h => leaf (g := g) (s2 := s2) hJ h n1 ?_
              unfold startL; repeat' (first | exact List.Perm.refl _ | refine perm_f 0 rfl ?_ | refine perm_f 1 rfl ?_ | refine perm_f 2 rfl ?_ | refine perm_f 3 rfl ?_ | refine perm_f 4 rfl ?_ | refine perm_f 5 rfl ?_ | refine perm_f 6 rfl ?_ | refine perm_f 7 rfl ?_)
          · refine newC_h h fun gp _ h => samec_h h5 h ?_
            refine newC_h h fun g _ h => ?_
            refine stC_h (g := gp) h rfl (by simp) fun _ h => leaf (g := g) (s2 := s2) hJ h n1 ?_
            unfold startL; repeat' (first | exact List.Perm.refl _ | refine perm_f 0 rfl ?_ | refine perm_f 1 rfl ?_ | refine perm_f 2 rfl ?_ | refine perm_f 3 rfl ?_ | refine perm_f 4 rfl ?_ | refine perm_f 5 rfl ?_ | refine perm_f 6 rfl ?_ | refine perm_f 7 rfl ?_)
        · refine newC_h h fun gp _ h => samec_h h5 h ?_
          refine mkSl_h (n := s.n) h (elI (by kernel_rfl)) rfl (by omega) (by omega) fun s1 _ h n1 => samec_h h5 h ?_
          refine newC_h h fun g _ h => ?_
          refine stC_h (g := gp) h rfl (by simp) fun _ h => leaf (g := g) (s2 := s2) hJ h n1 ?_
          unfold startL; repeat' (first | exact List.Perm.refl _ | refine perm_f 0 rfl ?_ | refine perm_f 1 rfl ?_ | refine perm_f 2 rfl ?_ | refine perm_f 3 rfl ?_ | refine perm_f 4 rfl ?_ | refine perm_f 5 rfl ?_ | refine perm_f 6 rfl ?_ | refine perm_f 7 rfl ?_)
      · refine newC_h h fun gp _ h => samec_h h5 h ?_
        refine ⟨?_, ?_⟩
        · refine mkSl_h (n := s.n) h (elI (by kernel_rfl)) rfl (by omega) (by omega) fun s1 _ h n1 => samec_h h5 h ?_
          refine mkSl_h (n := s.n) h (elB (by kernel_rfl)) rfl (by omega) (by omega) fun s2 _ h _ => samec_h h5 h ?_
          refine newC_h h fun g _ h => ?_
          refine stC_h (g := gp) h rfl (by simp) fun _ h => leaf (g := g) (s2 := s2) hJ h n1 ?_
          unfold startL; repeat' (first | exact List.Perm.refl _ | refine perm_f 0 rfl ?_ | refine perm_f 1 rfl ?_ | refine perm_f 2 rfl ?_ | refine perm_f 3 rfl ?_ | refine perm_f 4 rfl ?_ | refine perm_f 5 rfl ?_ | refine perm_f 6 rfl ?_ | refine perm_f 7 rfl ?_)
        · refine mkSl_h (n := s.n) h (elB (by kernel_rfl)) rfl (by omega) (by omega) fun s2 _ h _ => samec_h h5 h ?_
          refine mkSl_h (n := s.n) h (elI (by kernel_rfl)) rfl (by omega) (by omega) fun s1 _ h n1 => samec_h h5 h ?_
          refine newC_h h fun g _ h => ?_
          refine stC_h (g := gp) h rfl (by simp) fun _ h => leaf (g := g) (s2 := s2) hJ h n1 ?_
          unfold startL; repeat' (first | exact List.Perm.refl _ | refine perm_f 0 rfl ?_ | refine perm_f 1 rfl ?_ | refine perm_f 2 rfl ?_ | refine perm_f 3 rfl ?_ | refine perm_f 4 rfl ?_ | refine perm_f 5 rfl ?_ | refine perm_f 6 rfl ?_ | refine perm_f 7 rfl ?_)
  · obtain ⟨g, gp, s1, s2, rfl, n1, h⟩ := hI
    unfold startL at h
    have hn0 := ints_rep s.n
    simp only [hn0] at h
    refine ldP_h (g := gp) (o := 0) (n := some ⟨g, 0, none⟩) h rfl (nn_i (ldS_h (g := g) (o := 1) h rfl ?_))
    refine joinP_i (fun _ w' => St w w' [blk g [.slice s.a s.n s.c, .slice s1.a s1.n s1.c, .slice s2.a s2.n s2.c, .slice none 0 0], slc 1 s1 (ints (List.replicate s.n 255)), slc 1 s2 (List.replicate s.n (.bool false)), blk gp [.pointer (some ⟨g, 0, none⟩)], blk ga [.int .i64 needs, .slice s.a s.n s.c]]) (fun J hJ => ?_) fun _ w90 h => ?_
    · refine loopP_of (fun (i : Int) w' => ∃ j : Nat, i = j ∧ j ≤ s.n ∧ St w w' [blk g [.slice s.a s.n s.c, .slice s1.a s1.n s1.c, .slice s2.a s2.n s2.c, .slice none 0 0], slc 1 s1 (ints (List.replicate j 255 ++ List.replicate (s.n - j) 0)), slc 1 s2 (List.replicate s.n (.bool false)), blk gp [.pointer (some ⟨g, 0, none⟩)], blk ga [.int .i64 needs, .slice s.a s.n s.c]])
        (fun i _ => ((s.n : Int) - i).toNat) ⟨0, rfl, by omega, by simpa using h⟩ ?_
      rintro i w83 ⟨j, rfl, hj, h⟩ C hC
      refine iteB_i (fun hb => ?_) fun hb => ?_
      · simp only [decide_eq_true_eq] at hb
        refine ldP_h (g := gp) (o := 0) (n := some ⟨g, 0, none⟩) h rfl (nn_i (ldS_h (g := g) (o := 1) h rfl (ixIst_h (s := s1) (xs := List.replicate j 255 ++ List.replicate (s.n - j) 0) h (by omega) (by simp; omega) fun w88 h => ?_)))
        have hw : IntKind.wrap .i64 ((j : Int) + 1) = ((j + 1 : Nat) : Int) := by rw [wrap_id ⟨by omega, by omega⟩]; simp
        rw [hw]
        refine hC _ _ ⟨j + 1, rfl, by omega, ?_⟩ (by omega)
        have e : (List.replicate j (255 : Int) ++ List.replicate (s.n - j) 0).set ((j : Int)).toNat 255 = List.replicate (j + 1) 255 ++ List.replicate (s.n - (j + 1)) 0 := by
          have e1 : s.n - j = (s.n - (j + 1)) + 1 := by omega
          rw [Int.toNat_natCast, List.set_append_right (h := by simp), e1, List.length_replicate, Nat.sub_self, List.replicate_succ (n := s.n - (j + 1)), List.set_cons_zero, List.replicate_succ' (n := j), List.append_assoc]; rfl
        rw [e] at h; exact h
      · simp only [decide_eq_false_iff_not] at hb
        have e : j = s.n := by omega
        subst e
        refine hJ () _ ?_
        simpa using h
    · have hsn := hr.len
      refine iteB_i (fun h0' => ?_) fun h0' => ?_
      · have hz : s.n = 0 := by
          have : (s.n : Int) = 0 := by simpa using h0'
          omega
        have hl : l = [] := List.eq_nil_of_length_eq_zero (by omega)
        refine ldP_h (g := gp) (o := 0) (n := some ⟨g, 0, none⟩) h rfl (nn_i (ldS_h (g := g) (o := 1) h rfl ?_))
        refine hc (Fl0 0) s1 w90 ⟨rfl, fun _ => rfl, fun hne => (hne hl).elim⟩ ?_
        have e : ints (List.replicate s.n 255) = ints (Fl0 0).held := by rw [hz]; rfl
        rw [← e]
        exact (((h.rm 4 rfl).rm 3 rfl).rm 2 rfl).rm 0 rfl
      · have hz : s.n ≠ 0 := by
          have : ¬ (s.n : Int) = 0 := by simpa using h0'
          omega
        have hb0 := bls_rep s.n
        have h := h.nilS 1
        simp only [hb0] at h
        have h : St w w90 [flow g (s, Fl0 s.n), blk gp [.pointer (some ⟨g, 0, none⟩)], blk ga [.int .i64 needs, .slice s.a s.n s.c]] :=
          flow_shut (F := Fl0 s.n) (s1 := s1) (s2 := s2) (s3 := ⟨none, 0, 0⟩) (h.perm (by unfold Fl0; repeat' (first | exact List.Perm.refl _ | refine perm_f 0 rfl ?_ | refine perm_f 1 rfl ?_ | refine perm_f 2 rfl ?_ | refine perm_f 3 rfl ?_ | refine perm_f 4 rfl ?_ | refine perm_f 5 rfl ?_ | refine perm_f 6 rfl ?_ | refine perm_f 7 rfl ?_)))
        refine ldP_h (g := gp) (o := 0) (n := some ⟨g, 0, none⟩) h rfl (ldI_h (g := ga) (o := 0) h rfl ?_)
        refine meet_s (g := g) (code := s) (F := Fl0 s.n) h (by omega) (by simp [Fl0]; omega) (by simp [Fl0]) (by simp [Fl0]) fun w96 h => ?_
        have h := mks_nil h
        have hm0 := meet_ok (hv := andI .i64 needs 255) (i := 0) (Fl0_ok l.length) (by omega) (by omega)
        have hmu0 : (Fl0 l.length).mu ≤ 1000000 := by simp [Fl.mu, Fl0, sumN, cntF]; omega
        refine loopP_ghost (G := Fl) (fun F x w' => F.OK l.length ∧ F.mu ≤ 1000000 ∧ (∃ m, F = Fl.steps l m ((Fl0 l.length).meet 0 (andI .i64 needs 255))) ∧ St w w' [mks x.2, flow g (s, F), blk gp [.pointer (some ⟨g, 0, none⟩)], blk ga [.int .i64 needs, .slice s.a s.n s.c]]) Fl.mu
          (g := (Fl0 s.n).meet 0 (andI .i64 needs 255)) ⟨by rw [hsn]; exact hm0.1, by rw [hsn]; have := hm0.2; omega, ⟨0, by rw [hsn]; rfl⟩, h⟩ ?_
        rintro F x w99 ⟨hF, hmu, ⟨m, hm⟩, h⟩ C hC
        obtain ⟨t1, t2, t3, h⟩ := flow_open h.swap
        refine ldP_h (g := gp) (o := 0) (n := some ⟨g, 0, none⟩) h rfl (nn_i (ldS_h (g := g) (o := 3) h rfl ?_))
        have hn3 : F.todo.length = t3.n := by have := h.slen (sz := 1) (s := t3) (vs := ints F.todo); simpa using this
        refine iteB_i (fun he => ?_) fun he => ?_
        · have he' : (t3.n : Int) = 0 := by simpa using he
          have hnil : F.todo = [] := List.eq_nil_of_length_eq_zero (by omega)
          refine ldP_h (g := gp) (o := 0) (n := some ⟨g, 0, none⟩) h rfl (nn_i (ldS_h (g := g) (o := 1) h rfl ?_))
          refine takeP_h (h.front 4 rfl) fun w' h => hc F t1 w' ⟨hnil, fun hl => ?_, fun _ => ⟨m, hm⟩⟩ ?_
          · rw [hl] at hsn; exact (hz hsn).elim
          · exact ((((h.rm 5 rfl).rm 4 rfl).rm 3 rfl).rm 2 rfl).rm 0 rfl
        · have he' : ¬ (t3.n : Int) = 0 := by simpa using he
          obtain ⟨i, t, hti⟩ : ∃ i t, F.todo = i :: t := by
            cases e : F.todo with
            | nil => rw [e] at hn3; simp at hn3; omega
            | cons i t => exact ⟨i, t, rfl⟩
          have hi := hF.todo i (by rw [hti]; simp)
          have hg0 : F.todo.getD (0 : Int).toNat 0 = i := by rw [hti]; rfl
          refine ldP_h (g := gp) (o := 0) (n := some ⟨g, 0, none⟩) h rfl (nn_i (ldS_h (g := g) (o := 3) h rfl (ixI_h (s := t3) (xs := F.todo) h (by omega) (by omega) ?_)))
          rw [hg0]
          refine drew_h h fun w112 h => ldP_h (g := gp) (o := 0) (n := some ⟨g, 0, none⟩) h rfl (ldP_h (g := gp) (o := 0) (n := some ⟨g, 0, none⟩) h rfl (nn_i (ldS_h (g := g) (o := 3) h rfl ?_)))
          refine slL_h (s := t3) (vs := ints F.todo) h (by omega) (by omega) fun d hd h => nn_i (stC_h (g := g) (o := 3) h rfl (by simp) fun w119 h => ?_)
          refine ldP_h (g := gp) (o := 0) (n := some ⟨g, 0, none⟩) h rfl (nn_i (ldS_h (g := g) (o := 1) h rfl (ixI_h (s := t1) (xs := F.held) h hi.1 (by rw [hF.held]; exact hi.2) ?_)))
          refine newC_h h fun gh w126 h => stC_h (g := gh) (o := 0) h rfl (by simp) fun w127 h => ?_
          have hil : i.toNat < l.length := by omega
          have hx : l[i.toNat]? = some l[i.toNat] := List.getElem?_eq_getElem hil
          have hsplit : l = l.take i.toNat ++ l[i.toNat] :: l.drop (i.toNat + 1) := by rw [List.getElem_cons_drop, List.take_append_drop]
          generalize hxe : l[i.toNat] = x5 at hx hsplit
          refine ldS_h (g := ga) (o := 1) h rfl (ixC (hr.ext h.ext) hsplit (by simp; omega) fun p h5 hp => ldA_c (by simp [Go.Ev.ints, h5]) hp ?_)
          refine newC_h h fun gx w132 h => stW_h (g := gx) h rfl (by simp [Go.Ev.ints, h5]) (by simp [Go.Ev.ints, Value.oneCell']) fun w133 h => ?_
          have ld : ∀ {o : Nat} {c : Int → Prop}, o < 5 → c (x5.getD o 0) → ldI .i64 w133 (Addr.add ⟨gx, 0, none⟩ o) c := by
            intro o c ho hc
            have := ldI_h (g := gx) (o := o) (k := .i64) (n := x5.getD o 0) (c := c) h (by simpa using ints_get (x := x5) (j := o) (by omega)) hc
            rw [add_mk, Nat.zero_add]; exact this
          refine joinP_i (fun b w' => b = decide (opI x5 = 8 ∧ 0 ≤ x5.getD 1 0 ∧ x5.getD 1 0 < 8) ∧ w' = w133) (fun J hJ => ?_) ?_
          · refine ld (by omega) (iteB_i (fun hb => ?_) fun hb => ?_)
            · have hb' : opI x5 = 8 := by simpa using hb
              refine ld (by omega) (iteB_i (fun hb2 => ?_) fun hb2 => ?_)
              · refine ld (by omega) (hJ _ _ ⟨?_, rfl⟩)
                have := of_decide_eq_true hb2
                rw [decide_eq_decide]
                exact ⟨fun h => ⟨hb', this, h⟩, fun h => h.2.2⟩
              · have := of_decide_eq_false hb2
                exact hJ _ _ ⟨(decide_eq_false fun h => this h.2.1).symm, rfl⟩
            · have hb' : ¬ opI x5 = 8 := by simpa using hb
              exact hJ _ _ ⟨(decide_eq_false fun h => hb' h.1).symm, rfl⟩
          rintro b w139 ⟨rfl, rfl⟩
          have e1 : (ints F.todo).drop ((1 : Int).toNat * 1) = ints t := by rw [hti]; rfl
          simp only [e1] at h
          have h : St w w139 [flow g (s, { F with todo := t }), blk gh [.int .i64 (F.held.getD i.toNat 0)], blk gx (Go.Ev.ints x5), blk gp [.pointer (some ⟨g, 0, none⟩)], mks x.2, blk ga [.int .i64 needs, .slice s.a s.n s.c]] :=
            flow_shut (F := { F with todo := t }) (s1 := t1) (s2 := t2) (s3 := d) (h.perm (by repeat' (first | exact List.Perm.refl _ | refine perm_f 0 rfl ?_ | refine perm_f 1 rfl ?_ | refine perm_f 2 rfl ?_ | refine perm_f 3 rfl ?_ | refine perm_f 4 rfl ?_ | refine perm_f 5 rfl ?_ | refine perm_f 6 rfl ?_ | refine perm_f 7 rfl ?_)))
          refine joinP_i (fun _ w' => St w w' [flow g (s, { F with todo := t }), blk gh [.int .i64 (hvOf x5 (F.held.getD i.toNat 0))], blk gx (Go.Ev.ints x5), blk gp [.pointer (some ⟨g, 0, none⟩)], mks x.2, blk ga [.int .i64 needs, .slice s.a s.n s.c]]) (fun J hJ => ?_) fun _ w147 h => ?_
          · refine iteB_i (fun hb => ?_) fun hb => ?_
            · have hb' := of_decide_eq_true hb
              refine drew_h h fun w137 h => ldI_h (g := gh) (o := 0) h rfl ?_
              have ld2 := ldI_h (g := gx) (o := 1) (k := .i64) (n := x5.getD 1 0) (c := fun i143 => shlI .i64 1 i143 fun i144 => stC w137 ⟨gh, 0, none⟩ (.int .i64 (orI .i64 (F.held.getD i.toNat 0) i144)) fun w141 => J () w141) h (ints_get (by omega))
              refine ld2 ⟨hb'.2.1, ?_⟩
              refine stC_h (g := gh) (o := 0) h rfl (by simp) fun w141 h => hJ () _ ?_
              unfold hvOf; rw [if_pos hb']; exact h
            · have hb' := of_decide_eq_false hb
              refine hJ () _ ?_
              unfold hvOf; rw [if_neg hb']; exact h
          refine ldS_h (g := ga) (o := 1) h rfl ?_
          have hF1 : Fl.OK l.length { F with todo := t } := ⟨hF.held, hF.come, hF.bits, fun z hz => hF.todo z (by rw [hti]; simp [hz])⟩
          have hm1 : Fl.mu { F with todo := t } ≤ F.mu := by simp only [Fl.mu, hti, List.length_cons]; omega
          have hst : F.step l = Fl.meets (hvOf x5 (F.held.getD i.toNat 0)) { F with todo := t } (behind l.length i x5) := by
            have e : l.getD i.toNat [] = x5 := by simp [hx]
            unfold Fl.step; rw [hti]; simp only [e]
          have hs2 := step_ok (l := l) (by omega) hF (by rw [hti]; simp)
          have h := (h.rm 2 rfl).perm (M := [blk gh [.int .i64 (hvOf x5 (F.held.getD i.toNat 0))], flow g (s, { F with todo := t }), blk gp [.pointer (some ⟨g, 0, none⟩)], mks x.2, blk ga [.int .i64 needs, .slice s.a s.n s.c]]) (by repeat' (first | exact List.Perm.refl _ | refine perm_f 0 rfl ?_ | refine perm_f 1 rfl ?_ | refine perm_f 2 rfl ?_ | refine perm_f 3 rfl ?_ | refine perm_f 4 rfl ?_ | refine perm_f 5 rfl ?_ | refine perm_f 6 rfl ?_ | refine perm_f 7 rfl ?_))
          refine pass_s (g := g) (gp := gp) (gh := gh) (ga := ga) (x := x5) (ds := x.2) h hr hF1 (by omega) (by omega) hi.1 hx fun D w'' h => ?_
          rw [← hst] at h
          exact hC (F.step l) _ _ ⟨hs2.1, by omega, ⟨m + 1, by show F.step l = (Fl.steps l m _).step l; rw [← hm]⟩, h⟩ hs2.2
end Go.Proofs.Ytgkfbagclkjilaa.Ck

namespace Go.Proofs.Ytgkfbagclkjilaa.Ck
open Go Go.Ev Go.Proofs

/-- where the reference looks, before what is not there is left out -/
def cand (i : Int) (x : List Int) : List Int := (if isGoes x then [x.getD 4 0] else []) ++ (if (opI x != 6) && !isEnds x then [IntKind.wrap .i64 (i + 1)] else [])
def inN (n : Nat) (z : Int) : Bool := decide (0 ≤ z ∧ z < n)
theorem cand_behind {n : Nat} {i : Int} {x : List Int} (hn : n ≤ 4294967296) (h0 : 0 ≤ i) (h1 : i < n) : (cand i x).filter (inN n) = behind n i x := by
  have hw : IntKind.wrap .i64 (i + 1) = i + 1 := wrap_id ⟨by omega, by omega⟩
  have hin : inN n (i + 1) = decide (i + 1 < (n : Int)) := by unfold inN; rw [decide_eq_decide]; omega
  unfold cand behind yA yB
  rw [List.filter_append, hw]
  congr 1
  · cases isGoes x <;> simp [List.filter_cons, inN]
  · rw [← hin]
    cases (opI x != 6) && !isEnds x <;> simp [List.filter_cons]

theorem rbehind_s {w : World} {s : Sl} {l : List (List Int)} {i : Int} {x : List Int} {k : Sl → World → Prop} (hr : Code5 w s l) (hn : l.length ≤ 1000) (h0 : 0 ≤ i) (hx : l[i.toNat]? = some x)
    (hc : ∀ s' w', St w w' [slc 1 s' (ints (behind l.length i x))] → k s' w') : pelotonref04_Behind s i w k := by
  have hsn := hr.len
  have hil : i.toNat < l.length := (List.getElem?_eq_some_iff.1 hx).1
  have hsplit : l = l.take i.toNat ++ x :: l.drop (i.toNat + 1) := by
    obtain ⟨_, e⟩ := List.getElem?_eq_some_iff.1 hx
    rw [← e, List.getElem_cons_drop, List.take_append_drop]
  have hw : IntKind.wrap .i64 (i + 1) = i + 1 := wrap_id ⟨by omega, by omega⟩
  unfold pelotonref04_Behind
  refine ixC hr hsplit (by simp; omega) fun p h5 hp => ldI_i (hp 0 _ (ints_get (by omega))) ?_
  refine joinP_i (fun s1 w' => ∃ a : List Int, a = (if isGoes x then [x.getD 4 0] else []) ∧ s1.n = a.length ∧ St w w' [slc 1 s1 (ints a)]) (fun J hJ => ?_) ?_
  · refine iteB_i (fun hg => ?_) fun hg => ?_
    · have hg' : isGoes x = true := hg
      refine ixC hr hsplit (by simp; omega) fun p h5 hp => ldI_i (hp 4 _ (ints_get (by omega))) ?_
      refine newC_h ((St.nil w).nilS 1) fun g w7 h => ?_
      refine bApp_h (s := ⟨none, 0, 0⟩) (vs := []) (x := ⟨some ⟨g, 0, none⟩, 1, 1⟩) (ys := [.int .i64 (x.getD 4 0)]) h (elI (by kernel_rfl)) (by kernel_rfl) (blk_sls (n := 1) (l := [.int .i64 (x.getD 4 0)]) h.blk rfl 1) (by simp [Value.oneCell']) (by simp) (by simp) fun s6 w9 h n6 => ?_
      exact hJ _ _ ⟨[x.getD 4 0], by rw [hg']; rfl, by simpa using n6, by simpa [ints] using h.drop⟩
    · have hg' : isGoes x = false := hg
      exact hJ _ _ ⟨[], by rw [hg']; rfl, rfl, by simpa [ints] using (St.nil w).nilS 1⟩
  · rintro s1 w11 ⟨a, ha, n1, h⟩
    refine joinP_i (fun s1 w' => s1.n = (cand i x).length ∧ St w w' [slc 1 s1 (ints (cand i x))]) (fun J hJ => ?_) ?_
    · have key : ∀ o : Int, (o != 6 && o != 16 && o != 15) = ((o != 6) && !((o == 16) || (o == 15))) := by
        intro o; rw [Bool.not_or]; simp only [bne]; rw [Bool.and_assoc]
      have hla : a.length ≤ 1 := by rw [ha]; split <;> simp
      refine iteB_i (fun hg => ?_) fun hg => ?_
      · have hg' : ((opI x != 6) && !isEnds x) = true := by
          have h1 := key (x.getD 0 0); rw [hg] at h1; exact h1.symm
        refine newC_h h fun g w14 h => ?_
        refine bApp_h (s := s1) (vs := ints a) (x := ⟨some ⟨g, 0, none⟩, 1, 1⟩) (ys := [.int .i64 (IntKind.wrap .i64 (i + 1))]) h (elI (by kernel_rfl)) (by kernel_rfl) (blk_sls (n := 1) (l := [.int .i64 (IntKind.wrap .i64 (i + 1))]) h.blk rfl 1) (by simp [Value.oneCell']) (by simp only; omega) (by simp only; omega) fun s6 w9 h n6 => ?_
        have e : cand i x = a ++ [IntKind.wrap .i64 (i + 1)] := by unfold cand; rw [← ha, hg']; rfl
        exact hJ _ _ ⟨by rw [e]; simp [n6, n1], by rw [e]; simpa [ints] using h.drop⟩
      · have hg' : ((opI x != 6) && !isEnds x) = false := by
          have h1 := key (x.getD 0 0); rw [hg] at h1; exact h1.symm
        have e : cand i x = a := by unfold cand; rw [← ha, hg']; simp
        exact hJ _ _ ⟨by rw [e]; exact n1, by rw [e]; exact h⟩
    · rintro s2 w18 ⟨n2, h⟩
      have hcl : (cand i x).length ≤ 2 := by unfold cand; split <;> split <;> simp
      rw [← cand_behind (n := l.length) (by omega) h0 (by omega)] at hc
      refine loopP_of (fun (y : Sl × Int) w' => ∃ j : Nat, y.2 = j ∧ j ≤ s2.n ∧ y.1.n = (((cand i x).take j).filter (inN l.length)).length ∧ St w w' [slc 1 y.1 (ints (((cand i x).take j).filter (inN l.length))), slc 1 s2 (ints (cand i x))])
        (fun y _ => ((s2.n : Int) - y.2).toNat) ⟨0, rfl, by omega, by simp, by simpa [ints] using h.nilS 1⟩ ?_
      rintro ⟨t, jj⟩ w21 ⟨j, rfl, hj, hnt, h⟩ C hC
      simp only at hnt h
      refine iteB_i (fun hb => ?_) fun hb => ?_
      · have hlt : j < (cand i x).length := by
          have := of_decide_eq_true hb
          simp only at this; omega
        have hfl := List.length_filter_le (inN l.length) ((cand i x).take j)
        rw [List.length_take] at hfl
        have hgd : (cand i x).getD ((j : Int)).toNat 0 = (cand i x)[j] := by simp [hlt]
        have hw1 : IntKind.wrap .i64 ((j : Int) + 1) = ((j + 1 : Nat) : Int) := by rw [wrap_id ⟨by omega, by omega⟩]; simp
        have htk : ((cand i x).take (j + 1)).filter (inN l.length) = ((cand i x).take j).filter (inN l.length) ++ (if inN l.length (cand i x)[j] then [(cand i x)[j]] else []) := by
          rw [List.take_succ_eq_append_getElem hlt, List.filter_append]
          congr 1
          cases hh : inN l.length (cand i x)[j] <;> simp [List.filter_cons, hh]
        refine joinP_i (fun b w' => b = inN l.length (cand i x)[j] ∧ w' = w21) (fun J hJ => ?_) ?_
        · refine ixI_h (s := s2) (xs := cand i x) h (by simp) (by simp; omega) ?_
          rw [hgd]
          refine iteB_i (fun hb2 => ?_) fun hb2 => ?_
          · refine ixI_h (s := s2) (xs := cand i x) h (by simp) (by simp; omega) ?_
            rw [hgd]
            refine hJ _ _ ⟨?_, rfl⟩
            have := of_decide_eq_true hb2
            unfold inN; rw [hsn, decide_eq_decide]; exact ⟨fun h => ⟨this, h⟩, fun h => h.2⟩
          · have := of_decide_eq_false hb2
            exact hJ _ _ ⟨(decide_eq_false fun h => this h.1).symm, rfl⟩
        rintro b w28 ⟨rfl, rfl⟩
        refine iteB_i (fun hb2 => ?_) fun hb2 => ?_
        · rw [hb2] at htk
          refine ixI_h (s := s2) (xs := cand i x) h (by simp) (by simp; omega) ?_
          rw [hgd]
          refine newC_h h fun g w32 h => ?_
          refine bApp_h (s := t) (vs := ints (((cand i x).take j).filter (inN l.length))) (x := ⟨some ⟨g, 0, none⟩, 1, 1⟩) (ys := [.int .i64 (cand i x)[j]]) h (elI (by kernel_rfl)) (by kernel_rfl) (blk_sls (n := 1) (l := [.int .i64 (cand i x)[j]]) h.blk rfl 1) (by simp [Value.oneCell']) (by simp only; omega) (by simp only; omega) fun s6 w9 h n6 => ?_
          simp only [hw1]
          refine hC _ _ ⟨j + 1, rfl, by omega, by rw [htk]; simp [n6, hnt], by rw [htk]; simpa [ints] using h.drop⟩ (by simp; omega)
        · rw [hb2] at htk
          simp only [hw1]
          refine hC _ _ ⟨j + 1, rfl, by omega, by rw [htk]; simpa using hnt, by rw [htk]; simpa using h⟩ (by simp; omega)
      · have : j = s2.n := by
          have := of_decide_eq_false hb
          simp only at this; omega
        subst this
        refine hc t w21 ?_
        rw [n2, List.take_length] at h
        exact h.rm 1 rfl
end Go.Proofs.Ytgkfbagclkjilaa.Ck

namespace Go.Proofs.Ytgkfbagclkjilaa.Ck
open Go Go.Ev Go.Proofs

def bitB (n h : Int) : Bool := andI .i64 (shrV .i64 n h) 1 == 1
theorem bit_s {w : World} {n h : Int} {k : Bool → World → Prop} (h0 : 0 ≤ h) (h1 : h < 64) (hc : k (bitB n h) w) : pelotonref04_bit n h w k := by
  have hw : IntKind.wrap .u64 h = h := by
    have e : ∀ m : Nat, m < 64 → IntKind.wrap .u64 (m : Int) = (m : Int) := by decide
    have := e h.toNat (by omega)
    rwa [Int.toNat_of_nonneg h0] at this
  unfold pelotonref04_bit
  rw [hw]
  exact ⟨h0, hc⟩
end Go.Proofs.Ytgkfbagclkjilaa.Ck

namespace Go.Proofs.Ytgkfbagclkjilaa.Ck
open Go Go.Ev Go.Proofs

structure Wy where
  out : List Bool
  todo : List Int
def Wy.see (W : Wy) (z : Int) : Wy := if W.out.getD z.toNat false then W else ⟨W.out.set z.toNat true, W.todo ++ [z]⟩
def Wy.sees (W : Wy) (zs : List Int) : Wy := zs.foldl Wy.see W
def forks (x : List Int) (h : Int) : Bool := (opI x == 8) && (x.getD 1 0 == h)
def Wy.step (l : List (List Int)) (h : Int) (W : Wy) : Wy := match W.todo.getLast? with
  | none => W
  | some i => if forks (l.getD i.toNat []) h then { W with todo := W.todo.dropLast } else Wy.sees { W with todo := W.todo.dropLast } (behind l.length i (l.getD i.toNat []))
structure Wy.OK (n : Nat) (W : Wy) : Prop where
  out : W.out.length = n
  todo : ∀ i ∈ W.todo, 0 ≤ i ∧ i < n
def Wy.mu (W : Wy) : Nat := 2 * cntF W.out + W.todo.length
theorem see_ok {n : Nat} {W : Wy} {z : Int} (h : W.OK n) (h0 : 0 ≤ z) (h1 : z < n) : (W.see z).OK n ∧ (W.see z).mu ≤ W.mu := by
  unfold Wy.see
  split
  · exact ⟨h, Nat.le_refl _⟩
  · rename_i hz
    have hi : z.toNat < W.out.length := by rw [h.out]; omega
    refine ⟨⟨by simp [h.out], fun y hy => ?_⟩, ?_⟩
    · rcases List.mem_append.1 hy with hy | hy
      · exact h.todo y hy
      · simp at hy; omega
    · have e := cntF_set hi
      have hz' : W.out.getD z.toNat false = false := by simpa using hz
      rw [hz'] at e
      simp only [Wy.mu, List.length_append, List.length_singleton]
      simp at e; omega
theorem sees_ok {n : Nat} : ∀ {zs : List Int} {W : Wy}, W.OK n → (∀ z ∈ zs, 0 ≤ z ∧ z < n) → (W.sees zs).OK n ∧ (W.sees zs).mu ≤ W.mu
  | [], W, h, _ => ⟨h, Nat.le_refl _⟩
  | z :: zs, W, h, hz => by
    have h1 := see_ok h (hz z (by simp)).1 (hz z (by simp)).2
    have h2 := sees_ok (zs := zs) h1.1 fun y hy => hz y (by simp [hy])
    exact ⟨h2.1, Nat.le_trans h2.2 h1.2⟩
theorem wstep_ok {l : List (List Int)} {h : Int} {W : Wy} (hn : l.length ≤ 4294967296) (hW : W.OK l.length) (ht : W.todo ≠ []) : (W.step l h).OK l.length ∧ (W.step l h).mu < W.mu := by
  have hlast : W.todo.getLast? = some (W.todo.getLast ht) := List.getLast?_eq_some_getLast ht
  unfold Wy.step
  rw [hlast]
  have hi := hW.todo (W.todo.getLast ht) (List.getLast_mem ht)
  have hpos : 0 < W.todo.length := List.length_pos_iff.2 ht
  have h' : Wy.OK l.length { W with todo := W.todo.dropLast } := ⟨hW.out, fun z hz => hW.todo z (List.dropLast_subset _ hz)⟩
  have hm : Wy.mu { W with todo := W.todo.dropLast } < W.mu := by simp only [Wy.mu, List.length_dropLast]; omega
  simp only
  split
  · exact ⟨h', hm⟩
  · have h2 := sees_ok h' (behind_in (x := l.getD (W.todo.getLast ht).toNat []) hn hi.1 hi.2)
    exact ⟨h2.1, Nat.lt_of_le_of_lt h2.2 hm⟩
end Go.Proofs.Ytgkfbagclkjilaa.Ck

namespace Go.Proofs.Ytgkfbagclkjilaa.Ck
open Go Go.Ev Go.Proofs

def W0 (n : Nat) : Wy := ⟨(List.replicate n false).set 0 true, [0]⟩
def Wy.steps (l : List (List Int)) (h : Int) : Nat → Wy → Wy
  | 0, W => W
  | m + 1, W => (Wy.steps l h m W).step l h
def Gone (l : List (List Int)) (h : Int) (W : Wy) : Prop := W.todo = [] ∧ (l = [] → W = ⟨[], []⟩) ∧ (l ≠ [] → ∃ m, W = Wy.steps l h m (W0 l.length))
theorem W0_ok {n : Nat} (h : 0 < n) : (W0 n).OK n := ⟨by simp [W0], fun i hi => by simp [W0] at hi; omega⟩
theorem sees_snoc (W : Wy) (ks : List Int) (z : Int) : W.sees (ks ++ [z]) = (W.sees ks).see z := by simp [Wy.sees]

theorem without_s {w : World} {s : Sl} {l : List (List Int)} {hh : Int} {k : Sl → World → Prop} (hr : Code5 w s l) (hn : l.length ≤ 1000)
    (hc : ∀ W s' w', Gone l hh W → St w w' [slc 1 s' (bls W.out)] → k s' w') : pelotonref04_without s hh w k := by
  have hsn := hr.len
  unfold pelotonref04_without pelotonref04_without_b
  refine mkSl_h (n := s.n) (.nil w) (elB (by kernel_rfl)) rfl (by omega) (by omega) fun s1 w2 h n1 => ?_
  have hb0 := bls_rep s.n
  simp only [hb0] at h
  refine iteB_i (fun h0' => ?_) fun h0' => ?_
  · have hz : s.n = 0 := by
      have : (s.n : Int) = 0 := by simpa using h0'
      omega
    have hl : l = [] := List.eq_nil_of_length_eq_zero (by omega)
    refine hc ⟨[], []⟩ s1 w2 ⟨rfl, fun _ => rfl, fun hne => (hne hl).elim⟩ ?_
    rw [hz] at h; exact h
  · have hz : s.n ≠ 0 := by
      have : ¬ (s.n : Int) = 0 := by simpa using h0'
      omega
    refine ixBlst_h (s := s1) (xs := List.replicate s.n false) h (by omega) (by simp; omega) fun w4 h => ?_
    refine newC_h h fun g5 w6 h => ?_
    have h := h.asS (sz := 1) (g := g5) (n := 1) (cs := [.int .i64 0]) rfl (by omega) (by simp [Value.oneCell'])
    refine loopP_ghost (G := Wy) (fun W t w' => W.OK l.length ∧ W.mu ≤ 1000000 ∧ (∃ m, W = Wy.steps l hh m (W0 l.length)) ∧ St w w' [slc 1 t (ints W.todo), slc 1 s1 (bls W.out)]) Wy.mu (g := W0 s.n) ⟨by rw [hsn]; exact W0_ok (by omega), ?_, ⟨0, by rw [hsn]; rfl⟩, by simpa [W0, ints] using h⟩ ?_
    · have := cntF_set (l := List.replicate s.n false) (i := 0) (by simp; omega)
      simp [W0, Wy.mu, cntF] at this ⊢; omega
    rintro W t w9 ⟨hW, hmu, ⟨m, hm⟩, h⟩ C hC
    have hnt : W.todo.length = t.n := by have := h.slen (sz := 1) (s := t) (vs := ints W.todo); simpa using this
    refine iteB_i (fun hb => ?_) fun hb => ?_
    · have hpos : 0 < t.n := by have := of_decide_eq_true hb; omega
      have ht : W.todo ≠ [] := by intro e; rw [e] at hnt; simp at hnt; omega
      have hlt : W.todo.length ≤ W.mu := by unfold Wy.mu; omega
      have hw1 : IntKind.wrap .i64 ((t.n : Int) - 1) = ((t.n - 1 : Nat) : Int) := by rw [wrap_id ⟨by omega, by omega⟩]; omega
      have hi := hW.todo (W.todo.getLast ht) (List.getLast_mem ht)
      have hlast : W.todo.getD (t.n - 1) 0 = W.todo.getLast ht := by
        rw [← hnt, List.getLast_eq_getElem, List.getD_eq_getElem?_getD, List.getElem?_eq_getElem (by omega)]; rfl
      simp only [hw1]
      refine ixI_h (s := t) (xs := W.todo) h (by omega) (by omega) ?_
      rw [Int.toNat_natCast, hlast]
      generalize hie : W.todo.getLast ht = i at hi hlast
      refine slS_h (s := t) (vs := ints W.todo) h (by omega) (by omega) (by omega) fun d hd h => ?_
      have e1 : ((ints W.todo).drop ((0 : Int).toNat * 1)).take (((t.n - 1 : Nat) : Int).toNat - (0 : Int).toNat) = ints W.todo.dropLast := by
        simp [ints, List.dropLast_eq_take, hnt]
      have e2 : ((((t.n - 1 : Nat) : Int).toNat - (0 : Int).toNat) * 1) = (((t.n - 1 : Nat) : Int).toNat - (0 : Int).toNat) := Nat.mul_one _
      rw [e2, e1] at h
      have hil : i.toNat < l.length := by omega
      have hx : l[i.toNat]? = some l[i.toNat] := List.getElem?_eq_getElem hil
      have hsplit : l = l.take i.toNat ++ l[i.toNat] :: l.drop (i.toNat + 1) := by rw [List.getElem_cons_drop, List.take_append_drop]
      generalize hxe : l[i.toNat] = x5 at hx hsplit
      have hgx : l.getD i.toNat [] = x5 := by simp [hx]
      refine joinP_i (fun b w' => b = forks x5 hh ∧ w' = w9) (fun J hJ => ?_) ?_
      · refine ixC (hr.ext h.ext) hsplit (by simp; omega) fun p h5 hp => ldI_i (hp 0 _ (ints_get (by omega))) ?_
        refine iteB_i (fun hb => ?_) fun hb => ?_
        · refine ixC (hr.ext h.ext) hsplit (by simp; omega) fun p h5 hp => ldI_i (hp 1 _ (ints_get (by omega))) ?_
          exact hJ _ _ ⟨by unfold forks; rw [show (opI x5 == 8) = true from hb]; rfl, rfl⟩
        · exact hJ _ _ ⟨by unfold forks; rw [show (opI x5 == 8) = false from hb]; rfl, rfl⟩
      rintro b w19 ⟨rfl, rfl⟩
      have hs2 := wstep_ok (h := hh) (l := l) (by omega) hW ht
      have hgl : W.todo.getLast? = some i := by rw [List.getLast?_eq_some_getLast ht, hie]
      have hm' : ∃ m, W.step l hh = Wy.steps l hh m (W0 l.length) := ⟨m + 1, by show W.step l hh = (Wy.steps l hh m _).step l hh; rw [← hm]⟩
      refine iteB_i (fun hb => ?_) fun hb => ?_
      · have hst : W.step l hh = { W with todo := W.todo.dropLast } := by unfold Wy.step; rw [hgl]; simp only [hgx, hb]; rfl
        exact hC (W.step l hh) _ _ ⟨hs2.1, by omega, hm', by rw [hst]; exact h⟩ hs2.2
      · have hst : W.step l hh = Wy.sees { W with todo := W.todo.dropLast } (behind l.length i x5) := by unfold Wy.step; rw [hgl]; simp only [hgx, hb]; rfl
        refine rbehind_s (hr.ext h.ext) hn hi.1 hx fun s20 w21 h2 => ?_
        have h := h.join h2
        have hin := behind_in (x := x5) (n := l.length) (i := i) (by omega) hi.1 (by omega)
        have n20 : (behind l.length i x5).length = s20.n := by have := h2.slen (sz := 1) (s := s20) (vs := ints (behind l.length i x5)); simpa using this
        have hW1 : Wy.OK l.length { W with todo := W.todo.dropLast } := ⟨hW.out, fun z hz => hW.todo z (List.dropLast_subset _ hz)⟩
        have hm1 : Wy.mu { W with todo := W.todo.dropLast } ≤ W.mu := by simp only [Wy.mu, List.length_dropLast]; omega
        have hb2 : (behind l.length i x5).length ≤ 2 := by unfold behind; split <;> split <;> simp
        generalize hbs : behind l.length i x5 = bs at h hin n20 hst hb2
        refine loopP_of (fun (x : Sl × Int) w' => ∃ j : Nat, x.2 = j ∧ j ≤ bs.length ∧ St w w' [slc 1 s20 (ints bs), slc 1 x.1 (ints (Wy.sees { W with todo := W.todo.dropLast } (bs.take j)).todo), slc 1 s1 (bls (Wy.sees { W with todo := W.todo.dropLast } (bs.take j)).out)])
          (fun x _ => ((bs.length : Int) - x.2).toNat) ⟨0, rfl, by omega, by simpa [Wy.sees] using h⟩ ?_
        rintro ⟨t', i'⟩ w24 ⟨j, hj, hjn, h⟩ C2 hC2
        dsimp only at hj h ⊢
        subst hj
        refine iteB_i (fun hb => ?_) fun hb => ?_
        · have hjl : j < bs.length := by have := of_decide_eq_true hb; omega
          have hw2 : IntKind.wrap .i64 ((j : Int) + 1) = ((j + 1 : Nat) : Int) := by rw [wrap_id ⟨by omega, by omega⟩]; simp
          have hz : bs.getD (j : Int).toNat 0 = bs[j] := by simp [hjl]
          have htk : bs.take (j + 1) = bs.take j ++ [bs[j]] := (List.take_concat_get hjl).symm ▸ by simp
          have hzin := hin bs[j] (List.getElem_mem hjl)
          have hso := sees_ok (zs := bs.take j) hW1 fun z hz => hin z (List.take_subset _ _ hz)
          generalize hW2 : Wy.sees { W with todo := W.todo.dropLast } (bs.take j) = W2 at h hso
          have hsee : Wy.sees { W with todo := W.todo.dropLast } (bs.take (j + 1)) = W2.see bs[j] := by rw [htk, sees_snoc, hW2]
          have hlt2 : W2.todo.length ≤ W2.mu := by unfold Wy.mu; omega
          have hnt2 : W2.todo.length = t'.n := by have := h.slen (sz := 1) (s := t') (vs := ints W2.todo); simpa using this
          have hmu2 := hso.2
          refine ixI_h (s := s20) (xs := bs) h (by omega) (by omega) ?_
          rw [hz]
          refine ixBl_h (s := s1) (xs := W2.out) h hzin.1 (by rw [hso.1.out]; omega) ?_
          refine iteB_i (fun hb2 => ?_) fun hb2 => ?_
          · have hb2' : W2.out.getD (bs[j]).toNat false = false := by simpa using hb2
            refine ixI_h (s := s20) (xs := bs) h (by omega) (by omega) ?_
            rw [hz]
            refine ixBlst_h (s := s1) (xs := W2.out) h hzin.1 (by rw [hso.1.out]; omega) fun w32 h => ?_
            refine ixI_h (s := s20) (xs := bs) h (by omega) (by omega) ?_
            rw [hz]
            refine newC_h h fun gn w36 h => ?_
            refine bApp_h (s := t') (vs := ints W2.todo) (x := ⟨some ⟨gn, 0, none⟩, 1, 1⟩) (ys := [.int .i64 bs[j]]) h (elI (by kernel_rfl)) (by kernel_rfl) (blk_sls (n := 1) (l := [.int .i64 bs[j]]) h.blk rfl 1) (by simp [Value.oneCell']) (by simp only; omega) (by simp only; omega) fun s37 w38 h n37 => ?_
            have h := h.drop
            rw [hw2]
            have e : W2.see bs[j] = ⟨W2.out.set (bs[j]).toNat true, W2.todo ++ [bs[j]]⟩ := by unfold Wy.see; rw [hb2']; rfl
            refine hC2 _ _ ⟨j + 1, rfl, hjl, ?_⟩ (by simp only; omega)
            rw [hsee, e]
            simpa [ints] using h
          · have hb2' : W2.out.getD (bs[j]).toNat false = true := by simpa using hb2
            rw [hw2]
            have e : W2.see bs[j] = W2 := by unfold Wy.see; rw [hb2']; rfl
            refine hC2 _ _ ⟨j + 1, rfl, hjl, ?_⟩ (by simp only; omega)
            rw [hsee, e]; exact h
        · have hjl : j = bs.length := by have := of_decide_eq_false hb; omega
          rw [hjl, List.take_length] at h
          rw [hst] at hs2 hm'
          exact hC _ _ _ ⟨hs2.1, by have := hs2.2; omega, hm', h.drop⟩ hs2.2
    · have hnil : W.todo = [] := by
        have := of_decide_eq_false hb
        exact List.eq_nil_of_length_eq_zero (by omega)
      refine hc W s1 w9 ⟨hnil, fun hl => ?_, fun _ => ⟨m, hm⟩⟩ (h.rm 0 rfl)
      rw [hl] at hsn; exact (hz hsn).elim
end Go.Proofs.Ytgkfbagclkjilaa.Ck

namespace Go.Proofs.Ytgkfbagclkjilaa.Ck
open Go Go.Ev Go.Proofs

inductive Way (l : List (List Int)) (h : Int) : Int → Prop
  | zero : Way l h 0
  | next {i z : Int} : Way l h i → forks (l.getD i.toNat []) h = false → z ∈ behind l.length i (l.getD i.toNat []) → Way l h z

theorem tb_and (x y : Int) {i : Nat} (h : i < 64) : tb (andI .i64 x y) i = (tb x i && tb y i) := by
  unfold tb; rw [andI_bv, bv_of_toInt]; simp
theorem tb_or (x y : Int) {i : Nat} (h : i < 64) : tb (orI .i64 x y) i = (tb x i || tb y i) := by
  unfold tb; rw [orI_bv, bv_of_toInt]; simp
theorem tb_shl {a : Int} {h : Nat} (h0 : 0 ≤ a) (h1 : a < 8) (hh : h < 8) : tb (shlV .i64 1 a) h = decide (a = (h : Int)) := by
  have key : ∀ a : Nat, a < 8 → ∀ h : Nat, h < 8 → tb (shlV .i64 1 (a : Int)) h = decide (a = h) := by decide
  have := key a.toNat (by omega) h hh
  rw [Int.toNat_of_nonneg h0] at this
  rw [this, decide_eq_decide]; omega
theorem tb255 {h : Nat} (hh : h < 8) : tb 255 h = true := by
  have key : ∀ h : Nat, h < 8 → tb 255 h = true := by decide
  exact key h hh
theorem tb_hv {x : List Int} {v : Int} {h : Nat} (hh : h < 8) : tb (hvOf x v) h = (tb v h || forks x h) := by
  unfold hvOf forks
  by_cases ho : opI x = 8
  · by_cases ha : 0 ≤ x.getD 1 0 ∧ x.getD 1 0 < 8
    · rw [if_pos ⟨ho, ha⟩, tb_or _ _ (by omega), tb_shl ha.1 ha.2 hh]
      congr 1
      have e8 : (opI x == 8) = true := by simpa using ho
      rw [e8, Bool.true_and]; rfl
    · rw [if_neg (fun q => ha q.2)]
      have : (x.getD 1 0 == (h : Int)) = false := by
        rw [beq_eq_false_iff_ne]; intro e; exact ha ⟨by omega, by omega⟩
      rw [this]; simp
  · rw [if_neg (fun q => ho q.1)]
    have : (opI x == 8) = false := by simpa using ho
    rw [this]; simp

/-- a number of eight bits -/
def rs (f : Nat → Bool) : Nat → Int
  | 0 => 0
  | h + 1 => rs f h + if f h then 2 ^ h else 0
theorem rs_congr {f g : Nat → Bool} : ∀ {n : Nat}, (∀ h, h < n → f h = g h) → rs f n = rs g n
  | 0, _ => rfl
  | n + 1, hfg => by simp only [rs]; rw [rs_congr (n := n) fun h hh => hfg h (by omega), hfg n (by omega)]
theorem rs_tb {v : Int} (h0 : 0 ≤ v) (h1 : v ≤ 255) : rs (tb v) 8 = v := by
  have key : ∀ n : Fin 256, rs (tb ((n.val : Nat) : Int)) 8 = ((n.val : Nat) : Int) := by decide
  have := key ⟨v.toNat, by omega⟩
  simp only at this
  rwa [Int.toNat_of_nonneg h0] at this
theorem rs_bounds (f : Nat → Bool) : ∀ n : Nat, 0 ≤ rs f n ∧ rs f n < 2 ^ n
  | 0 => by simp [rs]
  | n + 1 => by
    have := rs_bounds f n
    simp only [rs]
    rw [Int.pow_succ]
    split <;> omega
theorem tb_rs {f : Nat → Bool} {h : Nat} (hh : h < 8) : tb (rs f 8) h = f h := by
  have key : ∀ a b c d e f g i : Bool, ∀ h : Nat, h < 8 → tb (rs (fun n => ([a, b, c, d, e, f, g, i].getD n false)) 8) h = ([a, b, c, d, e, f, g, i].getD h false) := by decide
  have := key (f 0) (f 1) (f 2) (f 3) (f 4) (f 5) (f 6) (f 7) h hh
  rw [show rs f 8 = rs (fun n => ([f 0, f 1, f 2, f 3, f 4, f 5, f 6, f 7].getD n false)) 8 from rs_congr fun h hh => by
    match h, hh with
    | 0, _ => rfl
    | 1, _ => rfl
    | 2, _ => rfl
    | 3, _ => rfl
    | 4, _ => rfl
    | 5, _ => rfl
    | 6, _ => rfl
    | 7, _ => rfl, this]
  match h, hh with
    | 0, _ => rfl
    | 1, _ => rfl
    | 2, _ => rfl
    | 3, _ => rfl
    | 4, _ => rfl
    | 5, _ => rfl
    | 6, _ => rfl
    | 7, _ => rfl

open Classical in
noncomputable def heldB (l : List (List Int)) (needs i : Int) (h : Nat) : Bool := tb needs h || !decide (Way l h i)
noncomputable def heldL (l : List (List Int)) (needs : Int) : List Int := (List.range l.length).map fun (i : Nat) => rs (heldB l needs (i : Int)) 8
theorem heldL_len (l : List (List Int)) (needs : Int) : (heldL l needs).length = l.length := by simp [heldL]
theorem heldL_get {l : List (List Int)} {needs : Int} {i : Nat} (h : i < l.length) : (heldL l needs).getD i 0 = rs (heldB l needs i) 8 := by
  simp [heldL, h]
theorem heldB_iff {l : List (List Int)} {needs i : Int} {h : Nat} : heldB l needs i h = true ↔ (tb needs h = true ∨ ¬ Way l h i) := by
  unfold heldB; simp

/-! ### one meeting -/
section
variable {n : Nat} {F : Fl} {z hv : Int}
theorem meet_mono (hF : F.OK n) (h0 : 0 ≤ z) (h1 : z < n) {j h : Nat} (hh : h < 8) :
    (F.come.getD j false = true → (F.meet z hv).come.getD j false = true) ∧ (tb (F.held.getD j 0) h = false → tb ((F.meet z hv).held.getD j 0) h = false) ∧ (∀ y ∈ F.todo, y ∈ (F.meet z hv).todo) := by
  unfold Fl.meet
  split
  · exact ⟨id, id, fun _ h => h⟩
  · have hz : z.toNat < F.held.length := by rw [hF.held]; omega
    have hzc : z.toNat < F.come.length := by rw [hF.come]; omega
    refine ⟨fun hc => ?_, fun hb => ?_, fun y hy => List.mem_append_left _ hy⟩
    · simp only [List.getD_eq_getElem?_getD, List.getElem?_set]
      split
      · simp [hzc]
      · simpa using hc
    · simp only [List.getD_eq_getElem?_getD, List.getElem?_set]
      split
      · rename_i e
        subst e
        simp only [hz, ↓reduceIte, Option.getD_some]
        unfold Fl.now; rw [tb_and _ _ (by omega), hb]; rfl
      · simpa using hb
theorem meet_same (hF : F.OK n) (h0 : 0 ≤ z) (h1 : z < n) {j : Nat} :
    ((F.meet z hv).held.getD j 0 = F.held.getD j 0 ∧ (F.meet z hv).come.getD j false = F.come.getD j false) ∨ (j : Int) ∈ (F.meet z hv).todo := by
  unfold Fl.meet
  split
  · exact .inl ⟨rfl, rfl⟩
  · by_cases e : z.toNat = j
    · right
      have : (j : Int) = z := by omega
      rw [this]; simp
    · left
      simp [List.getD_eq_getElem?_getD, List.getElem?_set, e]
theorem meet_post (hF : F.OK n) (h0 : 0 ≤ z) (h1 : z < n) {h : Nat} (hh : h < 8) :
    (F.meet z hv).come.getD z.toNat false = true ∧ (tb hv h = false → tb ((F.meet z hv).held.getD z.toNat 0) h = false) := by
  have hz : z.toNat < F.held.length := by rw [hF.held]; omega
  have hzc : z.toNat < F.come.length := by rw [hF.come]; omega
  unfold Fl.meet
  split
  · rename_i hs
    unfold Fl.stay at hs
    simp only [Bool.and_eq_true, beq_iff_eq] at hs
    refine ⟨hs.1, fun hb => ?_⟩
    rw [← hs.2]; unfold Fl.now; rw [tb_and _ _ (by omega), hb, Bool.and_false]
  · refine ⟨by simp [List.getD_eq_getElem?_getD, hzc], fun hb => ?_⟩
    simp only [List.getD_eq_getElem?_getD, List.getElem?_set, hz, ↓reduceIte, Option.getD_some]
    unfold Fl.now; rw [tb_and _ _ (by omega), hb, Bool.and_false]
theorem meet_sound (hF : F.OK n) (h0 : 0 ≤ z) (h1 : z < n) {j h : Nat} (hh : h < 8) (hb : tb ((F.meet z hv).held.getD j 0) h = false) : tb (F.held.getD j 0) h = false ∨ ((j : Int) = z ∧ tb hv h = false) := by
  have hz : z.toNat < F.held.length := by rw [hF.held]; omega
  unfold Fl.meet at hb
  split at hb
  · exact .inl hb
  · by_cases e : z.toNat = j
    · subst e
      simp only [List.getD_eq_getElem?_getD, List.getElem?_set, hz, ↓reduceIte, Option.getD_some] at hb
      unfold Fl.now at hb
      rw [tb_and _ _ (by omega)] at hb
      simp only [Bool.and_eq_false_iff] at hb
      rcases hb with hb | hb
      · exact .inl hb
      · exact .inr ⟨by omega, hb⟩
    · left
      simpa [List.getD_eq_getElem?_getD, List.getElem?_set, e] using hb
end
/-! ### many meetings -/
theorem meets_mono {n : Nat} {hv : Int} {j h : Nat} (hh : h < 8) : ∀ {zs : List Int} {F : Fl}, F.OK n → (∀ z ∈ zs, 0 ≤ z ∧ z < n) →
    (F.come.getD j false = true → (F.meets hv zs).come.getD j false = true) ∧ (tb (F.held.getD j 0) h = false → tb ((F.meets hv zs).held.getD j 0) h = false) ∧ (∀ y ∈ F.todo, y ∈ (F.meets hv zs).todo)
  | [], F, _, _ => ⟨id, id, fun _ h => h⟩
  | z :: zs, F, hF, hz => by
    have hz0 := hz z (by simp)
    have h1 := meet_mono (hv := hv) hF hz0.1 hz0.2 (j := j) hh
    have h2 := meets_mono (hv := hv) (j := j) hh (zs := zs) (meet_ok (hv := hv) hF hz0.1 hz0.2).1 fun y hy => hz y (by simp [hy])
    exact ⟨fun q => h2.1 (h1.1 q), fun q => h2.2.1 (h1.2.1 q), fun y hy => h2.2.2 y (h1.2.2 y hy)⟩
theorem meets_same {n : Nat} {hv : Int} {j : Nat} : ∀ {zs : List Int} {F : Fl}, F.OK n → (∀ z ∈ zs, 0 ≤ z ∧ z < n) →
    ((F.meets hv zs).held.getD j 0 = F.held.getD j 0 ∧ (F.meets hv zs).come.getD j false = F.come.getD j false) ∨ (j : Int) ∈ (F.meets hv zs).todo
  | [], F, _, _ => .inl ⟨rfl, rfl⟩
  | z :: zs, F, hF, hz => by
    have hz0 := hz z (by simp)
    have hok := (meet_ok (hv := hv) hF hz0.1 hz0.2).1
    have hzs : ∀ y ∈ zs, 0 ≤ y ∧ y < n := fun y hy => hz y (by simp [hy])
    rcases meet_same (hv := hv) hF hz0.1 hz0.2 (j := j) with h1 | h1
    · rcases meets_same (hv := hv) (j := j) (zs := zs) hok hzs with h2 | h2
      · exact .inl ⟨h2.1.trans h1.1, h2.2.trans h1.2⟩
      · exact .inr h2
    · exact .inr ((meets_mono (h := 0) (j := j) (by omega) (zs := zs) hok hzs).2.2 _ h1)
theorem meets_post {n : Nat} {hv : Int} {h : Nat} (hh : h < 8) : ∀ {zs : List Int} {F : Fl}, F.OK n → (∀ z ∈ zs, 0 ≤ z ∧ z < n) → ∀ z ∈ zs,
    (F.meets hv zs).come.getD z.toNat false = true ∧ (tb hv h = false → tb ((F.meets hv zs).held.getD z.toNat 0) h = false)
  | [], F, _, _ => fun z hz => by cases hz
  | z :: zs, F, hF, hz => by
    have hz0 := hz z (by simp)
    have hok := (meet_ok (hv := hv) hF hz0.1 hz0.2).1
    have hzs : ∀ y ∈ zs, 0 ≤ y ∧ y < n := fun y hy => hz y (by simp [hy])
    intro y hy
    rcases List.mem_cons.1 hy with rfl | hy
    · have h1 := meet_post (hv := hv) hF hz0.1 hz0.2 hh
      have h2 := meets_mono (hv := hv) (j := y.toNat) hh (zs := zs) hok hzs
      exact ⟨h2.1 h1.1, fun q => h2.2.1 (h1.2 q)⟩
    · exact meets_post (hv := hv) hh (zs := zs) hok hzs y hy
theorem meets_sound {n : Nat} {hv : Int} {j h : Nat} (hh : h < 8) : ∀ {zs : List Int} {F : Fl}, F.OK n → (∀ z ∈ zs, 0 ≤ z ∧ z < n) → tb ((F.meets hv zs).held.getD j 0) h = false →
    tb (F.held.getD j 0) h = false ∨ ((j : Int) ∈ zs ∧ tb hv h = false)
  | [], F, _, _ => fun h => .inl h
  | z :: zs, F, hF, hz => by
    have hz0 := hz z (by simp)
    have hok := (meet_ok (hv := hv) hF hz0.1 hz0.2).1
    have hzs : ∀ y ∈ zs, 0 ≤ y ∧ y < n := fun y hy => hz y (by simp [hy])
    intro hb
    rcases meets_sound (hv := hv) (j := j) hh (zs := zs) hok hzs hb with h1 | h1
    · rcases meet_sound (hv := hv) hF hz0.1 hz0.2 hh h1 with h2 | h2
      · exact .inl h2
      · exact .inr ⟨by simp [h2.1], h2.2⟩
    · exact .inr ⟨by simp [h1.1], h1.2⟩

/-! ### the flow -/
structure FI (l : List (List Int)) (needs : Int) (F : Fl) : Prop where
  ok : F.OK l.length
  c0 : F.come.getD 0 false = true
  b0 : ∀ h : Nat, h < 8 → tb needs h = false → tb (F.held.getD 0 0) h = false
  sound : ∀ i h : Nat, i < l.length → h < 8 → tb (F.held.getD i 0) h = false → tb needs h = false ∧ Way l h i
  clos : ∀ i : Nat, i < l.length → F.come.getD i false = true → (i : Int) ∈ F.todo ∨ ∀ z ∈ behind l.length i (l.getD i []), F.come.getD z.toNat false = true ∧ ∀ h : Nat, h < 8 → tb (hvOf (l.getD i []) (F.held.getD i 0)) h = false → tb (F.held.getD z.toNat 0) h = false
theorem FI.start {l : List (List Int)} {needs : Int} (hl : 0 < l.length) : FI l needs ((Fl0 l.length).meet 0 (andI .i64 needs 255)) := by
  have h0 := Fl0_ok l.length
  have hok := (meet_ok (hv := andI .i64 needs 255) (i := 0) h0 (by omega) (by omega)).1
  have e : (Fl0 l.length).meet 0 (andI .i64 needs 255) = ⟨(List.replicate l.length 255).set 0 (andI .i64 255 (andI .i64 needs 255)), (List.replicate l.length false).set 0 true, [0]⟩ := by
    have hs : (Fl0 l.length).stay 0 (andI .i64 needs 255) = false := by simp [Fl.stay, Fl0, hl]
    unfold Fl.meet; rw [hs]
    simp [Fl0, Fl.now, hl]
  have hhe : ∀ i : Nat, i < l.length → ((Fl0 l.length).meet 0 (andI .i64 needs 255)).held.getD i 0 = if i = 0 then andI .i64 255 (andI .i64 needs 255) else 255 := by
    intro i hi
    rw [e]; simp only [List.getD_eq_getElem?_getD, List.getElem?_set]
    by_cases hz : i = 0
    · subst hz; simp [hl]
    · have : ¬ 0 = i := fun q => hz q.symm
      simp [hz, this, hi]
  refine ⟨hok, by rw [e]; simp [hl], fun h hh hb => ?_, fun i h hi hh hb => ?_, fun i hi hc => ?_⟩
  · rw [hhe 0 hl, if_pos rfl, tb_and _ _ (by omega), tb_and _ _ (by omega), hb]; simp
  · rw [hhe i hi] at hb
    split at hb
    · rename_i hz; subst hz
      rw [tb_and _ _ (by omega), tb_and _ _ (by omega), tb255 hh] at hb
      exact ⟨by simpa using hb, .zero⟩
    · rw [tb255 hh] at hb; cases hb
  · left
    rw [e] at hc ⊢
    simp only [List.getD_eq_getElem?_getD, List.getElem?_set] at hc
    by_cases hz : i = 0
    · subst hz; simp
    · have : ¬ 0 = i := fun q => hz q.symm
      simp [this, hi] at hc
theorem FI.step {l : List (List Int)} {needs : Int} {F : Fl} (hn : l.length ≤ 4294967296) (h : FI l needs F) : FI l needs (F.step l) := by
  unfold Fl.step
  cases ht : F.todo with
  | nil => exact h
  | cons i t =>
    have hi := h.ok.todo i (by rw [ht]; simp)
    have hok : Fl.OK l.length { F with todo := t } := ⟨h.ok.held, h.ok.come, h.ok.bits, fun z hz => h.ok.todo z (by rw [ht]; simp [hz])⟩
    have hzs := behind_in (x := l.getD i.toNat []) hn hi.1 hi.2
    have hin : i.toNat < l.length := by omega
    have hii : ((i.toNat : Nat) : Int) = i := Int.toNat_of_nonneg hi.1
    refine ⟨(meets_ok hok hzs).1, (meets_mono (h := 0) (by omega) hok hzs).1 h.c0, fun h' hh hb => (meets_mono hh hok hzs).2.1 (h.b0 h' hh hb), fun j h' hj hh hb => ?_, fun j hj hc => ?_⟩
    · rcases meets_sound hh hok hzs hb with h1 | ⟨hjz, h1⟩
      · exact h.sound j h' hj hh h1
      · rw [tb_hv hh] at h1
        simp only [Bool.or_eq_false_iff] at h1
        have := h.sound i.toNat h' hin hh h1.1
        rw [hii] at this
        exact ⟨this.1, this.2.next h1.2 hjz⟩
    · rcases meets_same (j := j) (hv := hvOf (l.getD i.toNat []) (F.held.getD i.toNat 0)) hok hzs with ⟨h1, h2⟩ | h1
      · rw [h2] at hc
        rw [h1]
        by_cases hji : j = i.toNat
        · subst hji
          right
          intro z hz
          rw [hii] at hz
          exact ⟨(meets_post (h := 0) (by omega) hok hzs z hz).1, fun h' hh hb => (meets_post hh hok hzs z hz).2 hb⟩
        · rcases h.clos j hj hc with h3 | h3
          · left
            rw [ht] at h3
            rcases List.mem_cons.1 h3 with h3 | h3
            · omega
            · exact (meets_mono (h := 0) (j := 0) (by omega) hok hzs).2.2 _ h3
          · right
            intro z hz
            exact ⟨(meets_mono (h := 0) (by omega) hok hzs).1 (h3 z hz).1, fun h' hh hb => (meets_mono hh hok hzs).2.1 ((h3 z hz).2 h' hh hb)⟩
      · exact .inl h1
theorem FI.steps {l : List (List Int)} {needs : Int} (hn : l.length ≤ 4294967296) {F : Fl} (h : FI l needs F) : ∀ m, FI l needs (Fl.steps l m F)
  | 0 => h
  | m + 1 => (FI.steps hn h m).step hn
theorem FI.way {l : List (List Int)} {needs : Int} {F : Fl} (hn : l.length ≤ 4294967296) (hl : 0 < l.length) (h : FI l needs F) (ht : F.todo = []) {h' : Nat} (hh : h' < 8) (hb : tb needs h' = false) {i : Int} (hw : Way l h' i) :
    (0 ≤ i ∧ i < l.length) ∧ F.come.getD i.toNat false = true ∧ tb (F.held.getD i.toNat 0) h' = false := by
  induction hw with
  | zero => exact ⟨⟨by omega, by omega⟩, h.c0, h.b0 h' hh hb⟩
  | @next i z hw hf hz ih =>
    obtain ⟨hi, hc, hbi⟩ := ih
    have hin : i.toNat < l.length := by omega
    have hii : ((i.toNat : Nat) : Int) = i := Int.toNat_of_nonneg hi.1
    have := behind_in (x := l.getD i.toNat []) hn hi.1 hi.2 z hz
    rcases h.clos i.toNat hin hc with h3 | h3
    · rw [ht] at h3; cases h3
    · rw [hii] at h3
      have h4 := h3 z hz
      refine ⟨this, h4.1, h4.2 h' hh ?_⟩
      rw [tb_hv hh, hbi, hf]; rfl
theorem held_law {l : List (List Int)} {needs : Int} {F : Fl} (hn : l.length ≤ 4294967296) (hR : Reached l needs F) : F.held = heldL l needs := by
  by_cases hl : l = []
  · subst hl
    rw [hR.2.1 rfl]; simp [Fl0, heldL]
  · obtain ⟨m, hm⟩ := hR.2.2 hl
    have hpos : 0 < l.length := List.length_pos_iff.2 hl
    have hI : FI l needs F := by rw [hm]; exact (FI.start hpos).steps hn m
    refine List.ext_getElem (by rw [hI.ok.held, heldL_len]) fun i h1 h2 => ?_
    have hi : i < l.length := by rw [hI.ok.held] at h1; exact h1
    have e1 : F.held[i] = F.held.getD i 0 := by simp [h1]
    have e2 : (heldL l needs)[i] = rs (heldB l needs i) 8 := by rw [← heldL_get hi]; simp [h2]
    have hbb := hI.ok.bits F.held[i] (List.getElem_mem h1)
    rw [e2, ← rs_tb hbb.1 hbb.2]
    refine rs_congr fun h hh => ?_
    rw [e1]
    cases hb : heldB l needs i h with
    | true =>
      cases hb2 : tb (F.held.getD i 0) h with
      | true => rfl
      | false =>
        have := hI.sound i h hi hh hb2
        rcases heldB_iff.1 hb with h3 | h3
        · rw [this.1] at h3; cases h3
        · exact (h3 this.2).elim
    | false =>
      have hn1 : ¬ (tb needs h = true ∨ ¬ Way l h i) := by rw [← heldB_iff, hb]; simp
      have hn2 : tb needs h = false := by
        cases q : tb needs h with
        | true => exact (hn1 (.inl q)).elim
        | false => rfl
      have hw : Way l h i := Classical.byContradiction fun q => hn1 (.inr q)
      have := (hI.way hn hpos hR.1 hh hn2 hw).2.2
      rwa [Int.toNat_natCast] at this

/-! ### the reference's ways -/
structure WI (l : List (List Int)) (h : Int) (W : Wy) : Prop where
  ok : W.OK l.length
  c0 : W.out.getD 0 false = true
  tout : ∀ y ∈ W.todo, W.out.getD y.toNat false = true
  sound : ∀ i : Nat, i < l.length → W.out.getD i false = true → Way l h i
  clos : ∀ i : Nat, i < l.length → W.out.getD i false = true → (i : Int) ∈ W.todo ∨ forks (l.getD i []) h = true ∨ ∀ z ∈ behind l.length i (l.getD i []), W.out.getD z.toNat false = true
theorem see_all {n : Nat} {W : Wy} {z : Int} (hW : W.OK n) (h0 : 0 ≤ z) (h1 : z < n) (j : Nat) :
    (W.out.getD j false = true → (W.see z).out.getD j false = true) ∧ (∀ y ∈ W.todo, y ∈ (W.see z).todo) ∧ ((W.see z).out.getD j false = true → W.out.getD j false = true ∨ ((j : Int) = z ∧ (j : Int) ∈ (W.see z).todo)) ∧ (W.see z).out.getD z.toNat false = true := by
  have hz : z.toNat < W.out.length := by rw [hW.out]; omega
  unfold Wy.see
  split
  · rename_i hs; exact ⟨id, fun _ h => h, fun h => .inl h, hs⟩
  · refine ⟨fun h => ?_, fun y hy => List.mem_append_left _ hy, fun h => ?_, by simp [hz]⟩
    · simp only [List.getD_eq_getElem?_getD, List.getElem?_set]
      split
      · simp [hz]
      · simpa using h
    · by_cases e : z.toNat = j
      · right
        have : (j : Int) = z := by omega
        exact ⟨this, by rw [this]; simp⟩
      · left
        simpa [List.getD_eq_getElem?_getD, List.getElem?_set, e] using h
theorem sees_all {n : Nat} (j : Nat) : ∀ {zs : List Int} {W : Wy}, W.OK n → (∀ z ∈ zs, 0 ≤ z ∧ z < n) →
    (W.out.getD j false = true → (W.sees zs).out.getD j false = true) ∧ (∀ y ∈ W.todo, y ∈ (W.sees zs).todo) ∧ ((W.sees zs).out.getD j false = true → W.out.getD j false = true ∨ ((j : Int) ∈ zs ∧ (j : Int) ∈ (W.sees zs).todo)) ∧ (∀ z ∈ zs, (W.sees zs).out.getD z.toNat false = true)
  | [], W, _, _ => ⟨id, fun _ h => h, fun h => .inl h, fun z hz => by cases hz⟩
  | z :: zs, W, hW, hz => by
    have hz0 := hz z (by simp)
    have hok := (see_ok hW hz0.1 hz0.2).1
    have hzs : ∀ y ∈ zs, 0 ≤ y ∧ y < n := fun y hy => hz y (by simp [hy])
    have h1 := see_all hW hz0.1 hz0.2 j
    have h2 := sees_all j (zs := zs) hok hzs
    refine ⟨fun q => h2.1 (h1.1 q), fun y hy => h2.2.1 y (h1.2.1 y hy), fun q => ?_, fun y hy => ?_⟩
    · rcases h2.2.2.1 q with q | q
      · rcases h1.2.2.1 q with q | q
        · exact .inl q
        · exact .inr ⟨by rw [q.1]; simp, h2.2.1 _ q.2⟩
      · exact .inr ⟨by simp [q.1], q.2⟩
    · rcases List.mem_cons.1 hy with rfl | hy
      · exact (sees_all y.toNat (zs := zs) hok hzs).1 h1.2.2.2
      · exact h2.2.2.2 y hy
theorem sees_todo : ∀ {zs : List Int} {W : Wy}, ∀ y ∈ (W.sees zs).todo, y ∈ W.todo ∨ y ∈ zs
  | [], W, y, hy => .inl hy
  | z :: zs, W, y, hy => by
    rcases sees_todo (zs := zs) (W := W.see z) y hy with h | h
    · unfold Wy.see at h
      split at h
      · exact .inl h
      · rcases List.mem_append.1 h with h | h
        · exact .inl h
        · simp at h; exact .inr (by simp [h])
    · exact .inr (by simp [h])
theorem WI.start {l : List (List Int)} {h : Int} (hl : 0 < l.length) : WI l h (W0 l.length) := by
  refine ⟨W0_ok hl, by simp [W0, hl], fun y hy => by simp [W0] at hy; subst hy; simp [W0, hl], fun i hi hb => ?_, fun i hi hb => .inl ?_⟩
  · by_cases hz : i = 0
    · subst hz; exact .zero
    · have : ¬ 0 = i := fun q => hz q.symm
      simp [W0, List.getD_eq_getElem?_getD, List.getElem?_set, this, hi] at hb
  · by_cases hz : i = 0
    · subst hz; simp [W0]
    · have : ¬ 0 = i := fun q => hz q.symm
      simp [W0, List.getD_eq_getElem?_getD, List.getElem?_set, this, hi] at hb
theorem WI.step {l : List (List Int)} {h : Int} {W : Wy} (hn : l.length ≤ 4294967296) (hW : WI l h W) : WI l h (W.step l h) := by
  unfold Wy.step
  cases hg : W.todo.getLast? with
  | none => exact hW
  | some i =>
    have ht : W.todo ≠ [] := by intro e; rw [e] at hg; cases hg
    have hgl : W.todo.getLast ht = i := by rw [List.getLast?_eq_some_getLast ht] at hg; simpa using hg
    have hi := hW.ok.todo i (hgl ▸ List.getLast_mem ht)
    have hsplit : ∀ y ∈ W.todo, y = i ∨ y ∈ W.todo.dropLast := by
      intro y hy
      rw [← List.dropLast_concat_getLast ht, hgl] at hy
      rcases List.mem_append.1 hy with hy | hy
      · exact .inr hy
      · exact .inl (by simpa using hy)
    have hok : Wy.OK l.length { W with todo := W.todo.dropLast } := ⟨hW.ok.out, fun z hz => hW.ok.todo z (List.dropLast_subset _ hz)⟩
    have hin : i.toNat < l.length := by omega
    have hii : ((i.toNat : Nat) : Int) = i := Int.toNat_of_nonneg hi.1
    simp only
    split
    · rename_i hf
      refine ⟨hok, hW.c0, fun y hy => hW.tout y (List.dropLast_subset _ hy), hW.sound, fun j hj hc => ?_⟩
      rcases hW.clos j hj hc with h1 | h1
      · rcases hsplit _ h1 with h2 | h2
        · right; left
          have : j = i.toNat := by omega
          rw [this]; exact hf
        · exact .inl h2
      · exact .inr h1
    · rename_i hf
      have hzs := behind_in (x := l.getD i.toNat []) hn hi.1 hi.2
      have hf' : forks (l.getD i.toNat []) h = false := by simpa using hf
      have hout := hW.tout i (hgl ▸ List.getLast_mem ht)
      have hwi : Way l h i := by have := hW.sound i.toNat hin hout; rwa [hii] at this
      refine ⟨(sees_ok hok hzs).1, (sees_all 0 hok hzs).1 hW.c0, fun y hy => ?_, fun j hj hb => ?_, fun j hj hc => ?_⟩
      · rcases sees_todo y hy with hy | hy
        · exact (sees_all _ hok hzs).1 (hW.tout y (List.dropLast_subset _ hy))
        · exact (sees_all 0 hok hzs).2.2.2 y hy
      · rcases (sees_all j hok hzs).2.2.1 hb with h1 | h1
        · exact hW.sound j hj h1
        · exact hwi.next hf' h1.1
      · rcases (sees_all j hok hzs).2.2.1 hc with h1 | h1
        · rcases hW.clos j hj h1 with h2 | h2 | h2
          · rcases hsplit _ h2 with h3 | h3
            · right; right
              have : j = i.toNat := by omega
              rw [this, hii]
              exact (sees_all j hok hzs).2.2.2
            · exact .inl ((sees_all j hok hzs).2.1 _ h3)
          · exact .inr (.inl h2)
          · exact .inr (.inr fun z hz => (sees_all z.toNat hok hzs).1 (h2 z hz))
        · exact .inl h1.2
theorem WI.steps {l : List (List Int)} {h : Int} (hn : l.length ≤ 4294967296) {W : Wy} (hW : WI l h W) : ∀ m, WI l h (Wy.steps l h m W)
  | 0 => hW
  | m + 1 => (WI.steps hn hW m).step hn
theorem Wy.steps_start (l : List (List Int)) (h : Int) : ∀ (m : Nat) (W : Wy), WI l h W → l.length ≤ 4294967296 → WI l h (Wy.steps l h m W) := fun m W hW hn => hW.steps hn m
theorem gone_law {l : List (List Int)} {h : Int} {W : Wy} (hn : l.length ≤ 4294967296) (hG : Gone l h W) : W.out.length = l.length ∧ ∀ i : Nat, i < l.length → (W.out.getD i false = true ↔ Way l h i) := by
  by_cases hl : l = []
  · subst hl
    rw [hG.2.1 rfl]
    exact ⟨rfl, fun i hi => by cases hi⟩
  · obtain ⟨m, hm⟩ := hG.2.2 hl
    have hpos : 0 < l.length := List.length_pos_iff.2 hl
    have hI : WI l h W := by rw [hm]; exact (WI.start hpos).steps hn m
    refine ⟨hI.ok.out, fun i hi => ⟨hI.sound i hi, fun hw => ?_⟩⟩
    have key : ∀ j : Int, Way l h j → (0 ≤ j ∧ j < l.length) ∧ W.out.getD j.toNat false = true := by
      intro j hw
      induction hw with
      | zero => exact ⟨⟨by omega, by omega⟩, hI.c0⟩
      | @next i z hw hf hz ih =>
        obtain ⟨hi, hc⟩ := ih
        have hii : ((i.toNat : Nat) : Int) = i := Int.toNat_of_nonneg hi.1
        refine ⟨behind_in (x := l.getD i.toNat []) hn hi.1 hi.2 z hz, ?_⟩
        rcases hI.clos i.toNat (by omega) hc with h3 | h3 | h3
        · rw [hG.1] at h3; cases h3
        · rw [hf] at h3; cases h3
        · rw [hii] at h3; exact h3 z hz
    have := (key i hw).2
    rwa [Int.toNat_natCast] at this
end Go.Proofs.Ytgkfbagclkjilaa.Ck
