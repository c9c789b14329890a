/-
  Layer 4: how many scopes are open; rows of numbers.
  Layer 4: what is held: the flow; an instruction is come to.
  Layer 4: what is held: the start.
  Layer 4: what comes behind an instruction, as an iterator.
  Layer 4: what is held: a step of the flow, and that it ends.
  Layer 4: what is held: a pass of the loop's range.
  Layer 4: what is held: the whole.
  Layer 4: the reference's ways.
  Layer 4: the reference: bits; what a handle's ways come to.
  Layer 4: the reference: to which instructions a way leads on which a handle is not forked.
  Layer 4: the reference: without.
  Layer 4: the plain law of what is held: a handle is not held just where a way leads on which it was not forked.
  Layer 4: the reference: what is held.
  Layer 2: which instructions may be: the code's answer and the document's.
  Layer 2: which instructions may be: the document's answer.
  Layer 4: what is wrong with a function by itself.
  Layer 4: the judge's four questions.
  Layer 4: the judge's last question; a function.
  Layer 4: the first fault of a function.
  Layer 4: the first fault of a program.
  Layer 4: the chapter's examples.
  Layer 4: the laws of depths, and of handles that are held.
  Layer 4: rows that are owned; whether a program is accepted; the law of what is never come to.
  Layer 4: the law of functions that need more.
  Layer 4: the document's answer: what is wrong with an instruction.
  Layer 4: the document's answer for programs; the law of programs.
  Layer 4: what it is to be accepted; any way through a function of a program that is.
  Layer 4: the law of ways through a function.
  Layer 6, in plain terms: tasks, rows, steps, what a run comes to.
  Layer 6: what stays true of a task while it goes on.
  Layers 7 and 8, in plain terms: tables; rows that are followed.
  Maps, over parts of memory: a part tells, for each key, what the map has.
-/
import Derived.Test.YtgkfbagclkjilaaGreatDoorPRows3
import Derived.MapKept
import Derived.WideKeyRuns
set_option linter.unusedSimpArgs false
set_option linter.unusedVariables false
set_option maxRecDepth 100000
namespace Go.Proofs.YtgkfbagclkjilaaGreatDoor.Ck
open Go Go.Ev Go.Proofs
theorem elI {P : Program} {t : TypeId} (h : elInfo P t = some (1, 8, some (.int .i64 0))) : ElS P t 1 8 (.int .i64 0) := ⟨h, rfl⟩
abbrev opI (x : List Int) : Int := x.getD 0 0
def stepD (n : Int) (x : List Int) : Int := if opI x = 11 then IntKind.wrap .i64 (n + 1) else if opI x = 12 then IntKind.wrap .i64 (n - 1) else n
def depths : Int → List (List Int) → List Int
  | _, [] => []
  | n, x :: l => n :: depths (stepD n x) l
theorem depths_length : ∀ (l : List (List Int)) (n : Int), (depths n l).length = l.length
  | [], _ => rfl
  | x :: l, n => by simp [depths, depths_length l]
theorem ixC {w : World} {s : Sl} {l : List (List Int)} {dn rest : List (List Int)} {x : List Int} {i : Int} {c : Addr → Prop} (h : Code5 w s l) (hl : l = dn ++ x :: rest) (hi : i = (dn.length : Int))
    (hc : ∀ p, x.length = 5 → (∀ j v, (Go.Ev.ints x)[j]? = some v → w.cell? (p.add j) = some v) → c p) : ixS s i 5 c := by
  have hn := h.len.symm
  subst hi
  refine ixR_i h.rws (by omega) (by rw [← hn, hl]; simp; omega) fun p e he hle hcell => ?_
  rw [Int.toNat_natCast, hl] at he
  simp at he
  subst he
  exact hc p ((h.five x (by rw [hl]; simp)).1) hcell
theorem ints_get {x : List Int} {j : Nat} (h : j < x.length) : (Go.Ev.ints x)[j]? = some (.int .i64 (x.getD j 0)) := by
  simp [Go.Ev.ints, h]
theorem depths_s {w : World} {s : Sl} {l : List (List Int)} {k : Sl → World → Prop} (hr : Code5 w s l) (hb : 8 * l.length ≤ 281474976710656)
    (hc : ∀ s' w', St w w' [slc 1 s' (Go.Ev.ints (depths 0 l))] → s'.n = l.length → k s' w') : check_Depths s w k := by
  have hl := hr.len.symm
  unfold check_Depths
  refine mkSl_h (n := s.n) (.nil w) (elI (by kernel_rfl)) rfl (by omega) (by omega) fun s1 w2 h n1 => ?_
  refine loopP_of (fun (x : Int × Int) w' => ∃ dn rest acc n, l = dn ++ rest ∧ x = (n, (dn.length : Int)) ∧ depths 0 l = acc ++ depths n rest ∧ acc.length = dn.length ∧ St w w' [slc 1 s1 (Go.Ev.ints acc ++ List.replicate rest.length (.int .i64 0))])
    (fun x _ => ((s.n : Int) - x.2).toNat) ⟨[], l, [], 0, rfl, rfl, rfl, rfl, by simpa [hl, Go.Ev.ints] using h⟩ ?_
  rintro x w5 ⟨dn, rest, acc, n, hlr, rfl, hd, ha, h⟩ C hC
  cases rest with
  | nil =>
    refine iteB_f (by simp only [decide_eq_false_iff_not]; rw [← hl, hlr]; simp) ?_
    refine hc s1 w5 ?_ (n1.trans hl.symm)
    simp [depths] at hd
    rw [hd]; simpa using h
  | cons x rest =>
    have hlen : l.length = dn.length + (rest.length + 1) := by rw [hlr]; simp
    refine iteB_t (by simp only [decide_eq_true_eq]; omega) ?_
    refine ixC (hr.ext h.ext) hlr rfl fun p h5 hcell => ldA_c (by simp [Go.Ev.ints, h5]) hcell ?_
    refine newC_h h fun g w9 h => ?_
    refine stW_h (g := g) h rfl (by simp [Go.Ev.ints, h5]) (by simp [Go.Ev.ints, Value.oneCell']) fun w10 h => ?_
    refine ixS_h (s := s1) (vs := Go.Ev.ints acc ++ List.replicate (rest.length + 1) (.int .i64 0)) h (by omega) (by omega) (by omega) fun g1 o hg1 hrd hwr => ?_
    refine hwr h inferInstance 0 _ _ (by omega) rfl fun w12 h => ?_
    refine ldI_h (g := g) (o := 0) h (by rw [ints_get (by omega)]) ?_
    have hw1 : IntKind.wrap .i64 ((dn.length : Int) + 1) = ((dn ++ [x]).length : Int) := by rw [wrap_id ⟨by omega, by omega⟩]; simp
    have hset : (Go.Ev.ints acc ++ List.replicate (rest.length + 1) (Value.int .i64 0)).set ((dn.length : Int).toNat * 1 + 0) (Value.int .i64 n) = Go.Ev.ints (acc ++ [n]) ++ List.replicate rest.length (Value.int .i64 0) := by
      have e : (dn.length : Int).toNat * 1 + 0 = (Go.Ev.ints acc).length + 0 := by simp [Go.Ev.ints, ha]
      rw [e, List.set_append_right (h := by omega), Nat.add_sub_cancel_left]
      simp [Go.Ev.ints, List.replicate_succ]
    have h : St w w12 [blk g (Go.Ev.ints x).toArray.toList, slc 1 s1 (Go.Ev.ints (acc ++ [n]) ++ List.replicate rest.length (Value.int .i64 0))] := by rw [← hset]; exact h
    have hgo : ∀ n', n' = stepD n x → C (n', IntKind.wrap .i64 ((dn.length : Int) + 1)) w12 := by
      rintro n' rfl
      rw [hw1]
      refine hC _ _ ⟨dn ++ [x], rest, acc ++ [n], stepD n x, by simp [hlr], rfl, by rw [hd]; simp [depths], by simp [ha], ?_⟩ ?_
      · exact h.drop
      · simp; omega
    unfold stepD at hgo
    refine iteB_i (fun hb => ?_) fun hb => ?_
    · simp only [beq_iff_eq] at hb
      exact hgo _ (by rw [if_pos hb])
    · have hb' : ¬ opI x = 11 := by simpa using hb
      refine iteB_i (fun hb2 => ?_) fun hb2 => ?_
      · have hb2' : opI x = 12 := by simpa using hb2
        exact hgo _ (by rw [if_neg hb', if_pos hb2'])
      · have hb2' : ¬ opI x = 12 := by simpa using hb2
        exact hgo _ (by rw [if_neg hb', if_neg hb2'])
theorem rdepths_s {w : World} {s : Sl} {l : List (List Int)} {k : Sl → World → Prop} (hr : Code5 w s l) (hb : 8 * l.length ≤ 140737488355328)
    (hc : ∀ s' w', St w w' [slc 1 s' (Go.Ev.ints (depths 0 l))] → s'.n = l.length → k s' w') : pelotonref04_Depths s w k := by
  have hl := hr.len.symm
  unfold pelotonref04_Depths
  refine loopP_of (fun (x : Sl × (Int × Int)) w' => ∃ dn rest acc n, l = dn ++ rest ∧ x.2 = (n, (dn.length : Int)) ∧ depths 0 l = acc ++ depths n rest ∧ acc.length = dn.length ∧ x.1.n = dn.length ∧ St w w' [slc 1 x.1 (Go.Ev.ints acc)])
    (fun x _ => ((s.n : Int) - x.2.2).toNat) ⟨[], l, [], 0, rfl, rfl, rfl, rfl, rfl, by simpa [Go.Ev.ints] using (St.nil w).nilS 1⟩ ?_
  rintro ⟨s1, x⟩ w5 ⟨dn, rest, acc, n, hlr, rfl, hd, ha, hn1, h⟩ C hC
  simp only at hn1 h
  cases rest with
  | nil =>
    refine iteB_f (by simp only [decide_eq_false_iff_not]; rw [← hl, hlr]; simp) ?_
    simp [depths] at hd
    refine hc s1 w5 (by rw [hd]; exact h) ?_
    rw [hlr]; simpa using hn1
  | cons x rest =>
    have hlen : l.length = dn.length + (rest.length + 1) := by rw [hlr]; simp
    refine iteB_t (by simp only [decide_eq_true_eq]; omega) ?_
    refine newC_h h fun g w9 h => ?_
    refine bApp_h (s := s1) (x := ⟨some ⟨g, 0, none⟩, 1, 1⟩) (ys := [.int .i64 n]) h (elI (by kernel_rfl)) (by kernel_rfl) (blk_sls (n := 1) (l := [.int .i64 n]) h.blk rfl 1) (by simp [Value.oneCell']) (by simp only; omega) (by simp only; omega) fun s6 w7 h n6 => ?_
    have h := h.drop
    refine ixC (hr.ext h.ext) hlr rfl fun p h5 hcell => ?_
    refine ldI_i (hcell 0 _ (ints_get (by omega))) ?_
    have hw1 : IntKind.wrap .i64 ((dn.length : Int) + 1) = ((dn ++ [x]).length : Int) := by rw [wrap_id ⟨by omega, by omega⟩]; simp
    have hgo : ∀ n', n' = stepD n x → C (s6, (n', IntKind.wrap .i64 ((dn.length : Int) + 1))) w7 := by
      rintro n' rfl
      rw [hw1]
      refine hC _ _ ⟨dn ++ [x], rest, acc ++ [n], stepD n x, by simp [hlr], rfl, by rw [hd]; simp [depths], by simp [ha], by simp only [n6]; simp [hn1], by simpa [Go.Ev.ints] using h⟩ ?_
      simp; omega
    unfold stepD at hgo
    have fin : ∀ m, (opI x = 11 → m = IntKind.wrap .i64 (n + 1)) → (opI x ≠ 11 → m = n) → ixS s ((dn.length : Nat) : Int) 5 fun a13 => ldI .i64 w7 (Addr.add a13 0) fun i14 =>
        iteB (i14 == (12 : Int)) (C (s6, ((IntKind.wrap .i64 (m - (1 : Int))), (IntKind.wrap .i64 (((dn.length : Nat) : Int) + (1 : Int))))) w7) (C (s6, (m, (IntKind.wrap .i64 (((dn.length : Nat) : Int) + (1 : Int))))) w7) := by
      intro m hm1 hm2
      refine ixC (hr.ext h.ext) hlr rfl fun p h5 hcell => ?_
      refine ldI_i (hcell 0 _ (ints_get (by omega))) ?_
      refine iteB_i (fun hb2 => ?_) fun hb2 => ?_
      · have hb2' : opI x = 12 := by simpa using hb2
        refine hgo _ ?_
        rw [if_neg (by omega), if_pos hb2', hm2 (by omega)]
      · have hb2' : ¬ opI x = 12 := by simpa using hb2
        refine hgo _ ?_
        by_cases h11 : opI x = 11
        · rw [if_pos h11, hm1 h11]
        · rw [if_neg h11, if_neg hb2', hm2 h11]
    refine iteB_i (fun hb => ?_) fun hb => ?_
    · have hb' : opI x = 11 := by simpa using hb
      exact fin _ (fun _ => rfl) fun h => (h hb').elim
    · have hb' : ¬ opI x = 11 := by simpa using hb
      exact fin _ (fun h => (hb' h).elim) fun _ => rfl
end Go.Proofs.YtgkfbagclkjilaaGreatDoor.Ck
namespace Go.Proofs.YtgkfbagclkjilaaGreatDoor.Ck
open Go Go.Ev Go.Proofs
structure Fl where
  held : List Int
  come : List Bool
  todo : List Int
def bls (l : List Bool) : List Value := l.map Value.bool
def Fl.now (F : Fl) (i hv : Int) : Int := andI .i64 (F.held.getD i.toNat 0) hv
def Fl.stay (F : Fl) (i hv : Int) : Bool := F.come.getD i.toNat false && (F.now i hv == F.held.getD i.toNat 0)
def Fl.meet (F : Fl) (i hv : Int) : Fl := if F.stay i hv then F else { held := F.held.set i.toNat (F.now i hv), come := F.come.set i.toNat true, todo := F.todo ++ [i] }
def flowP (g : Nat) (code : Sl) (F : Fl) (p : Sl × Sl × Sl) : List HP :=
  [blk g [.slice code.a code.n code.c, .slice p.1.a p.1.n p.1.c, .slice p.2.1.a p.2.1.n p.2.1.c, .slice p.2.2.a p.2.2.n p.2.2.c], slc 1 p.1 (ints F.held), slc 1 p.2.1 (bls F.come), slc 1 p.2.2 (ints F.todo)]
def flow (g : Nat) (x : Sl × Fl) : HP := exHP fun p => sepHP (flowP g x.1 x.2 p)
section
variable {w0 w : World} {L : List HP} {g : Nat} {code : Sl} {F : Fl}
theorem flow_open {R : List HP} (h : St w0 w (flow g (code, F) :: R)) : ∃ s1 s2 s3 : Sl, St w0 w (blk g [.slice code.a code.n code.c, .slice s1.a s1.n s1.c, .slice s2.a s2.n s2.c, .slice s3.a s3.n s3.c] :: slc 1 s1 (ints F.held) :: slc 1 s2 (bls F.come) :: slc 1 s3 (ints F.todo) :: R) := by
  obtain ⟨p, h⟩ := h.some
  exact ⟨p.1, p.2.1, p.2.2, h.open⟩
theorem flow_shut {R : List HP} {s1 s2 s3 : Sl} (h : St w0 w (blk g [.slice code.a code.n code.c, .slice s1.a s1.n s1.c, .slice s2.a s2.n s2.c, .slice s3.a s3.n s3.c] :: slc 1 s1 (ints F.held) :: slc 1 s2 (bls F.come) :: slc 1 s3 (ints F.todo) :: R)) : St w0 w (flow g (code, F) :: R) :=
  St.ex (X := fun p => sepHP (flowP g code F p)) (s1, s2, s3) (St.shut h)
theorem bls_get {l : List Bool} {i : Nat} (h : i < l.length) : (bls l)[i]? = some (.bool (l.getD i false)) := by simp [bls, h]
theorem ixBl_h {s : Sl} {xs : List Bool} {i : Int} {f : HP → List HP} {c : Bool → Prop} (h : St w0 w L) [a : At L (slc 1 s) (bls xs) f] (h0 : 0 ≤ i) (h1 : i < xs.length) (hc : c (xs.getD i.toNat false)) : ixS s i 1 fun a => ldB w a c := by
  have hn : xs.length = s.n := by have := h.slen (sz := 1) (s := s) (vs := bls xs); simpa [bls] using this
  refine ixS_h h (by omega) h0 (by omega) fun g o _ hr _ => ldB_i ?_ hc
  have := hr h 0 _ (by omega) (bls_get (i := i.toNat * 1 + 0) (by omega))
  simpa using this
theorem ixBlst_h {s : Sl} {xs : List Bool} {i : Int} {x : Bool} {f : HP → List HP} {c : World → Prop} (h : St w0 w L) [a : At L (slc 1 s) (bls xs) f] (h0 : 0 ≤ i) (h1 : i < xs.length) (hc : ∀ w', St w0 w' (f (slc 1 s (bls (xs.set i.toNat x)))) → c w') : ixS s i 1 fun a => stC w a (.bool x) c := by
  have hn : xs.length = s.n := by have := h.slen (sz := 1) (s := s) (vs := bls xs); simpa [bls] using this
  refine ixS_h h (by omega) h0 (by omega) fun g o _ _ hs => ?_
  have := hs h a 0 (.bool x) c (by omega) rfl fun w' h' => hc w' (by
    have e : (bls xs).set (i.toNat * 1 + 0) (.bool x) = bls (xs.set i.toNat x) := by simp [bls, List.map_set]
    rwa [e] at h')
  simpa using this
theorem meet_s {i hv : Int} {f : HP → List HP} {k : Unit → World → Prop} (h : St w0 w L) [a : At L (flow g) (code, F) f] (h0 : 0 ≤ i) (h1 : i < F.held.length) (hl : F.come.length = F.held.length) (hb : (F.todo.length + 1) * 8 ≤ 140737488355328)
    (hc : ∀ w', St w0 w' (f (flow g (code, F.meet i hv))) → k () w') : check_flow_meet (some ⟨g, 0, none⟩) i hv w k := by
  obtain ⟨R, ho, hcl⟩ := a.out
  obtain ⟨s1, s2, s3, hS⟩ := flow_open (ho h)
  unfold check_flow_meet
  refine nn_i (ldS_h (o := 1) hS rfl (ixI_h (s := s1) (xs := F.held) hS h0 h1 ?_))
  have fin : ∀ b, b = F.stay i hv → iteB b (k () w) (
    drew w fun w16 => nn (some ⟨g, 0, none⟩) fun a17 => ldS w16 (Addr.add a17 2) fun s18 => nn (some ⟨g, 0, none⟩) fun a19 => ldS w16 (Addr.add a19 1) fun s20 =>
    ixS s18 i 1 fun a21 => stC w16 a21 (.bool true) fun w22 => ixS s20 i 1 fun a23 => stC w22 a23 (.int .i64 (andI .i64 (F.held.getD i.toNat 0) hv)) fun w24 =>
    nn (some ⟨g, 0, none⟩) fun a25 => ldS w24 (Addr.add a25 3) fun s26 => newC w24 #[(.int .i64 i)] 3 fun a27 w28 =>
    bApp Go.Proofs.Tryz.prog #[96, 96] 96 [(.slice s26.a s26.n s26.c), (.slice (some a27) 1 1)] w28 fun s29 w30 =>
    nn (some ⟨g, 0, none⟩) fun a31 => stC w30 (Addr.add a31 3) (.slice s29.a s29.n s29.c) fun w32 => k () w32) := by
    rintro b rfl
    refine iteB_i (fun hst => ?_) fun hst => ?_
    · have e : F.meet i hv = F := by unfold Fl.meet; rw [if_pos hst]
      have := hc w
      rw [e] at this
      exact this (hcl (ho h))
    · have e : F.meet i hv = { held := F.held.set i.toNat (F.now i hv), come := F.come.set i.toNat true, todo := F.todo ++ [i] } := by unfold Fl.meet; rw [if_neg (by simp [hst])]
      rw [e] at hc
      refine drew_h hS fun w16 hS => nn_i (ldS_h (o := 2) hS rfl (nn_i (ldS_h (o := 1) hS rfl ?_)))
      refine ixBlst_h (s := s2) (xs := F.come) hS h0 (by omega) fun w22 hS => ?_
      refine ixIst_h (s := s1) (xs := F.held) hS h0 h1 fun w24 hS => nn_i (ldS_h (o := 3) hS rfl ?_)
      have hn3 : F.todo.length = s3.n := by have := hS.slen (sz := 1) (s := s3) (vs := ints F.todo); simpa using this
      refine newC_h hS fun gn w28 hS => ?_
      refine bApp_h (s := s3) (vs := ints F.todo) (x := ⟨some ⟨gn, 0, none⟩, 1, 1⟩) (ys := [.int .i64 i]) hS (elI (by kernel_rfl)) (by kernel_rfl) (blk_sls (n := 1) (l := [.int .i64 i]) hS.blk rfl 1) (by simp [Value.oneCell']) (by simp only; omega) (by simp only; omega) fun s6 w7 hS n6 => ?_
      have hS := hS.drop
      refine nn_i (stC_h (g := g) (o := 3) hS rfl (by simp) fun w32 hS => hc w32 (hcl (flow_shut (s1 := s1) (s2 := s2) (s3 := s6) ?_)))
      simpa [ints, Fl.now] using hS
  unfold joinP
  refine nn_i (ldS_h (o := 2) hS rfl (ixBl_h (s := s2) (xs := F.come) hS h0 (by omega) ?_))
  refine iteB_i (fun hcm => ?_) fun hcm => ?_
  · refine nn_i (ldS_h (o := 1) hS rfl (ixI_h (s := s1) (xs := F.held) hS h0 h1 ?_))
    exact fin _ (by unfold Fl.stay Fl.now; rw [hcm, Bool.true_and])
  · exact fin _ (by unfold Fl.stay; rw [hcm, Bool.false_and])
end
end Go.Proofs.YtgkfbagclkjilaaGreatDoor.Ck
namespace Go.Proofs.YtgkfbagclkjilaaGreatDoor.Ck
open Go Go.Ev Go.Proofs
theorem elB {P : Program} {t : TypeId} (h : elInfo P t = some (1, 1, some (.bool false))) : ElS P t 1 1 (.bool false) := ⟨h, rfl⟩
def Fl.start (n : Nat) : Fl := ⟨List.replicate n 0, List.replicate n false, []⟩
theorem ints_rep (n : Nat) : List.replicate n (Value.int .i64 0) = ints (List.replicate n 0) := by simp [ints]
theorem bls_rep (n : Nat) : List.replicate n (Value.bool false) = bls (List.replicate n false) := by simp [bls]
end Go.Proofs.YtgkfbagclkjilaaGreatDoor.Ck
namespace Go.Proofs.YtgkfbagclkjilaaGreatDoor.Ck
open Go Go.Ev Go.Proofs
def isGoes (x : List Int) : Bool := (opI x == 6) || (opI x == 7)
def isEnds (x : List Int) : Bool := (opI x == 16) || (opI x == 15)
def yA (n : Nat) (x : List Int) : Bool := isGoes x && decide (0 ≤ x.getD 4 0 ∧ x.getD 4 0 < n)
def yB (n : Nat) (i : Int) (x : List Int) : Bool := (opI x != 6) && !isEnds x && decide (IntKind.wrap .i64 (i + 1) < n)
def behind (n : Nat) (i : Int) (x : List Int) : List Int := (if yA n x then [x.getD 4 0] else []) ++ (if yB n i x then [IntKind.wrap .i64 (i + 1)] else [])
theorem behind_s {w0 w : World} {Lk : List Int → List HP} {code : Sl} {l : List (List Int)} {i : Int} {x : List Int} {ca ci : Addr} {lo : Nat} {Y : Nat → Dec} {k : Unit → World → Prop}
    (h : St w0 w (Lk [])) (hi0 : 0 ≤ i) (hx : l[i.toNat]? = some x)
    (hcell : ∀ {w ks}, St w0 w (Lk ks) → w.cell? ca = some (.slice code.a code.n code.c) ∧ w.cell? ci = some (.int .i64 i) ∧ Code5 w code l)
    (hy : ∀ {B : HP} {ks : List Int} {z : Int} {w : World} {c : Value → World → Prop}, St w0 w (B :: Lk ks) → ks ++ [z] <+: behind code.n i x → (∀ w', St w0 w' (B :: Lk (ks ++ [z])) → c (.bool true) w') → Y lo [.int .i64 z] w c)
    (hc : ∀ w', St w0 w' (Lk (behind code.n i x)) → k () w') : check_behind_1 Y (.func (.yield lo) #[] #[]) ca ci w k := by
  unfold check_behind_1 check_behind_1_b
  obtain ⟨hs, hi, hcd⟩ := hcell h
  have hil : i.toNat < l.length := (List.getElem?_eq_some_iff.1 hx).1
  have hn := hcd.len
  have hsplit : l = l.take i.toNat ++ x :: l.drop (i.toNat + 1) := by
    obtain ⟨_, e⟩ := List.getElem?_eq_some_iff.1 hx
    rw [← e, List.getElem_cons_drop, List.take_append_drop]
  refine ldS_i (s := code) hs (ldI_i hi (ixC hcd hsplit (by simp; omega) fun p h5 hp => ldA_c (by simp [Go.Ev.ints, h5]) hp ?_))
  refine newC_h h fun g w6 h => ?_
  refine stW_h (g := g) h rfl (by simp [Go.Ev.ints, h5]) (by simp [Go.Ev.ints, Value.oneCell']) fun w7 h => ?_
  have ld : ∀ {w : World} {L : List HP} {o : Nat} {c : Int → Prop}, St w0 w (blk g (Go.Ev.ints x).toArray.toList :: L) → o < 5 → c (x.getD o 0) → ldI .i64 w (Addr.add ⟨g, 0, none⟩ o) c := by
    intro w L o c h ho hc
    have := ldI_h (g := g) (o := o) (k := .i64) (n := x.getD o 0) (c := c) h (by simpa using ints_get (x := x) (j := o) (by omega)) hc
    rw [add_mk, Nat.zero_add]; exact this
  -- the second part
  have part2 : ∀ w20, St w0 w20 (blk g (Go.Ev.ints x).toArray.toList :: Lk (if yA code.n x then [x.getD 4 0] else [])) → iteB false (k () w20) (joinP (S := Bool) (fun J21 =>
      ldI .i64 w20 (Addr.add ⟨g, 0, none⟩ 0) fun i22 =>
      iteB (i22 != (6 : Int)) (
        ldI .i64 w20 (Addr.add ⟨g, 0, none⟩ 0) fun i23 =>
        check_ends i23 w20 fun b24 w25 =>
        iteB (!b24) (
          ldI .i64 w25 ci fun i26 =>
          ldS w25 ca fun s27 =>
          (J21 (decide ((IntKind.wrap .i64 (i26 + (1 : Int))) < ((s27.n : Nat) : Int))) w25)) (
          (J21 false w25))) (
        (J21 false w20))) fun b28 w29 =>
    iteB b28 (
      ldI .i64 w29 ci fun i30 =>
      callF (orcY [(n_check_goes, (fun args w c => unL [(.i .i64)] args fun x => check_goes x w fun r w => c (packV (valL [.b] r)) w)), (n_check_ends, (fun args w c => unL [(.i .i64)] args fun x => check_ends x w fun r w => c (packV (valL [.b] r)) w))] Y) (.func (.yield lo) #[] #[]) #[(.int .i64 (IntKind.wrap .i64 (i30 + (1 : Int))))] w29 fun v31 w32 =>
      toB v31 fun b33 =>
      (k () w32)) (
      (k () w29))) := by
    intro w20 h
    refine iteB_f rfl ?_
    unfold joinP
    obtain ⟨hs, hi, _⟩ := hcell h.drop
    have last : ∀ b, b = yB code.n i x → iteB b (
        ldI .i64 w20 ci fun i30 =>
        callF (orcY [(n_check_goes, (fun args w c => unL [(.i .i64)] args fun x => check_goes x w fun r w => c (packV (valL [.b] r)) w)), (n_check_ends, (fun args w c => unL [(.i .i64)] args fun x => check_ends x w fun r w => c (packV (valL [.b] r)) w))] Y) (.func (.yield lo) #[] #[]) #[(.int .i64 (IntKind.wrap .i64 (i30 + (1 : Int))))] w20 fun v31 w32 =>
        toB v31 fun b33 => (k () w32)) (k () w20) := by
      rintro b rfl
      refine iteB_i (fun hb => ?_) fun hb => ?_
      · refine ldI_i hi (yield_i (hy h ?_ fun w' h => hc w' ?_))
        · unfold behind; rw [if_pos hb]; exact List.prefix_refl _
        · have := h.drop
          unfold behind; rw [if_pos hb]; exact this
      · refine hc w20 ?_
        have e : behind code.n i x = if yA code.n x then [x.getD 4 0] else [] := by unfold behind; rw [hb]; simp
        rw [e]; exact h.drop
    refine ld h (by omega) ?_
    refine iteB_i (fun h6 => ?_) fun h6 => ?_
    · refine ld h (by omega) ?_
      show iteB _ _ _
      refine iteB_i (fun he => ?_) fun he => ?_
      · refine ldI_i hi (ldS_i (s := code) hs (last _ ?_))
        have he' : isEnds x = false := by simpa [isEnds] using he
        have h6' : (opI x != 6) = true := h6
        unfold yB; rw [h6', he']; simp
      · refine last _ ?_
        have he' : isEnds x = true := by
          cases hE : isEnds x with
          | true => rfl
          | false => exact absurd he (by unfold isEnds at hE; simp only [opI] at hE; rw [hE]; simp)
        unfold yB; rw [he']; simp
    · refine last _ ?_
      have h6' : (opI x != 6) = false := h6
      unfold yB; rw [h6']; simp
  unfold joinP
  refine ld h (by omega) ?_
  show iteB _ _ _
  refine iteB_i (fun hg => ?_) fun hg => ?_
  · have hg' : isGoes x = true := hg
    refine ld h (by omega) ?_
    refine iteB_i (fun h4 => ?_) fun h4 => ?_
    · simp only [decide_eq_true_eq] at h4
      obtain ⟨hs, _, _⟩ := hcell h.drop
      refine ld h (by omega) (ldS_i (s := code) hs ?_)
      refine iteB_i (fun h5' => ?_) fun h5' => ?_
      · simp only [decide_eq_true_eq] at h5'
        have hA : yA code.n x = true := by unfold yA; rw [hg', decide_eq_true ⟨h4, h5'⟩]; rfl
        refine ld h (by omega) (yield_i (hy h ?_ fun w' h => ?_))
        · unfold behind; rw [if_pos hA]; exact List.prefix_append _ _
        · refine part2 w' ?_
          rw [if_pos hA]; exact h
      · simp only [decide_eq_false_iff_not] at h5'
        have hA : yA code.n x = false := by unfold yA; rw [hg', decide_eq_false (fun h => h5' h.2)]; rfl
        refine part2 w7 ?_
        rw [hA]; exact h
    · simp only [decide_eq_false_iff_not] at h4
      have hA : yA code.n x = false := by unfold yA; rw [hg', decide_eq_false (fun h => h4 h.1)]; rfl
      refine part2 w7 ?_
      rw [hA]; exact h
  · have hg' : isGoes x = false := hg
    have hA : yA code.n x = false := by unfold yA; rw [hg']; rfl
    refine part2 w7 ?_
    rw [hA]; exact h
end Go.Proofs.YtgkfbagclkjilaaGreatDoor.Ck
namespace Go.Proofs.YtgkfbagclkjilaaGreatDoor.Ck
open Go Go.Ev Go.Proofs
theorem bv_s {m : Nat} (h : m < 2 ^ 63) : (bv (m : Int)).toNat = m := by
  rw [BitVec.toNat_ofInt]; omega
theorem toInt_s {b : BitVec 64} (h : b.toNat < 2 ^ 63) : b.toInt = b.toNat := by
  rw [BitVec.toInt_eq_toNat_cond]; split <;> omega
theorem and_le {a b : Int} (h0 : 0 ≤ a) (h1 : a ≤ 255) : 0 ≤ andI .i64 a b ∧ andI .i64 a b ≤ a := by
  rw [andI_bv]
  have e : (bv a).toNat = a.toNat := by
    have := bv_s (m := a.toNat) (by omega)
    rwa [Int.toNat_of_nonneg h0] at this
  have h2 : (bv a &&& bv b).toNat ≤ a.toNat := by rw [BitVec.toNat_and, e]; exact Nat.and_le_left
  rw [toInt_s (by omega)]
  omega
def hvOf (x : List Int) (h : Int) : Int := if opI x = 8 ∧ 0 ≤ x.getD 1 0 ∧ x.getD 1 0 < 8 then orI .i64 h (shlV .i64 1 (x.getD 1 0)) else h
def Fl.meets (hv : Int) (F : Fl) (zs : List Int) : Fl := zs.foldl (fun F z => F.meet z hv) F
def Fl.step (l : List (List Int)) (F : Fl) : Fl := match F.todo with
  | [] => F
  | i :: t => Fl.meets (hvOf (l.getD i.toNat []) (F.held.getD i.toNat 0)) { F with todo := t } (behind l.length i (l.getD i.toNat []))
structure Fl.OK (n : Nat) (F : Fl) : Prop where
  held : F.held.length = n
  come : F.come.length = n
  bits : ∀ h ∈ F.held, 0 ≤ h ∧ h ≤ 255
  todo : ∀ i ∈ F.todo, 0 ≤ i ∧ i < n
def sumN (l : List Int) : Nat := (l.map Int.toNat).sum
def cntF (l : List Bool) : Nat := (l.map fun b => if b then 0 else 1).sum
def Fl.mu (F : Fl) : Nat := 3 * (sumN F.held + cntF F.come) + F.todo.length
theorem sumN_set : ∀ {l : List Int} {i : Nat} {a : Int}, i < l.length → sumN (l.set i a) + (l.getD i 0).toNat = sumN l + a.toNat
  | [], i, a, h => by simp at h
  | x :: l, 0, a, h => by simp [sumN]; omega
  | x :: l, i + 1, a, h => by
    have := sumN_set (l := l) (i := i) (a := a) (by simpa using h)
    simp [sumN] at this ⊢; omega
theorem cntF_set : ∀ {l : List Bool} {i : Nat}, i < l.length → cntF (l.set i true) + (if l.getD i false then 0 else 1) = cntF l
  | [], i, h => by simp at h
  | x :: l, 0, h => by cases x <;> simp [cntF] <;> omega
  | x :: l, i + 1, h => by
    have := cntF_set (l := l) (i := i) (by simpa using h)
    simp [cntF] at this ⊢; omega
theorem meet_ok {n : Nat} {F : Fl} {i hv : Int} (h : F.OK n) (h0 : 0 ≤ i) (h1 : i < n) : (F.meet i hv).OK n ∧ (F.meet i hv).mu ≤ F.mu := by
  unfold Fl.meet
  split
  · exact ⟨h, Nat.le_refl _⟩
  · rename_i hst
    have hi : i.toNat < F.held.length := by rw [h.held]; omega
    have hic : i.toNat < F.come.length := by rw [h.come]; omega
    have hb := h.bits (F.held.getD i.toNat 0) (by
      have e : F.held.getD i.toNat 0 = F.held[i.toNat] := by simp [hi]
      rw [e]; exact List.getElem_mem hi)
    have ha := and_le (b := hv) hb.1 hb.2
    refine ⟨⟨by simp [h.held], by simp [h.come], fun x hx => ?_, fun z hz => ?_⟩, ?_⟩
    · rcases List.mem_or_eq_of_mem_set hx with hx | rfl
      · exact h.bits x hx
      · unfold Fl.now; omega
    · rcases List.mem_append.1 hz with hz | hz
      · exact h.todo z hz
      · simp at hz; omega
    · have e1 := sumN_set (a := F.now i hv) hi
      have e2 := cntF_set hic
      simp only [Fl.mu, List.length_append, List.length_singleton]
      unfold Fl.stay at hst
      unfold Fl.now at e1 hst ⊢
      cases hcm : F.come.getD i.toNat false with
      | false => rw [hcm] at e2; simp at e2; omega
      | true =>
        rw [hcm] at hst e2
        simp only [Bool.true_and, beq_iff_eq] at hst
        simp at e2
        omega
theorem meets_ok {n : Nat} {hv : Int} : ∀ {zs : List Int} {F : Fl}, F.OK n → (∀ z ∈ zs, 0 ≤ z ∧ z < n) → (Fl.meets hv F zs).OK n ∧ (Fl.meets hv F zs).mu ≤ F.mu
  | [], F, h, _ => ⟨h, Nat.le_refl _⟩
  | z :: zs, F, h, hz => by
    have h1 := meet_ok (hv := hv) h (hz z (by simp)).1 (hz z (by simp)).2
    have h2 := meets_ok (hv := hv) (zs := zs) h1.1 fun y hy => hz y (by simp [hy])
    exact ⟨h2.1, Nat.le_trans h2.2 h1.2⟩
theorem behind_in {n : Nat} {i : Int} {x : List Int} (hn : n ≤ 4294967296) (h0 : 0 ≤ i) (h1 : i < n) : ∀ z ∈ behind n i x, 0 ≤ z ∧ z < n := by
  intro z hz
  have hw : IntKind.wrap .i64 (i + 1) = i + 1 := wrap_id ⟨by omega, by omega⟩
  unfold behind at hz
  rcases List.mem_append.1 hz with hz | hz
  · split at hz
    · rename_i hA
      simp only [List.mem_singleton] at hz; subst hz
      unfold yA at hA
      simp only [Bool.and_eq_true, decide_eq_true_eq] at hA
      exact hA.2
    · cases hz
  · split at hz
    · rename_i hB
      simp only [List.mem_singleton] at hz; subst hz
      unfold yB at hB
      simp only [Bool.and_eq_true, decide_eq_true_eq] at hB
      rw [hw] at hB ⊢
      exact ⟨by omega, hB.2⟩
    · cases hz
theorem step_ok {l : List (List Int)} {F : Fl} (hn : l.length ≤ 4294967296) (h : F.OK l.length) (ht : F.todo ≠ []) : (F.step l).OK l.length ∧ (F.step l).mu < F.mu := by
  unfold Fl.step
  split
  · rename_i e; exact (ht e).elim
  · rename_i i t e
    have hi := h.todo i (by rw [e]; simp)
    have h' : Fl.OK l.length { F with todo := t } := ⟨h.held, h.come, h.bits, fun z hz => h.todo z (by rw [e]; simp [hz])⟩
    have h2 := meets_ok (hv := hvOf (l.getD i.toNat []) (F.held.getD i.toNat 0)) h' (behind_in (x := l.getD i.toNat []) hn hi.1 hi.2)
    refine ⟨h2.1, Nat.lt_of_le_of_lt h2.2 ?_⟩
    simp only [Fl.mu, e, List.length_cons]; omega
end Go.Proofs.YtgkfbagclkjilaaGreatDoor.Ck
namespace Go.Proofs.YtgkfbagclkjilaaGreatDoor.Ck
open Go Go.Ev Go.Proofs
theorem loopP_ghost {G S : Type} {f : (S → World → Prop) → S → World → Prop} (I : G → S → World → Prop) (μ : G → Nat) {g : G} {s : S} {w : World} (h0 : I g s w)
    (h : ∀ g s w, I g s w → ∀ C : S → World → Prop, (∀ g' s' w', I g' s' w' → μ g' < μ g → C s' w') → f C s w) : loopP f s w := by
  have key : ∀ n g s w, μ g ≤ n → I g s w → iterP f (n + 1) s w := by
    intro n
    induction n with
    | zero => intro g s w hn hI; exact h g s w hI _ fun g' s' w' _ hlt => by omega
    | succ n ih => intro g s w hn hI; exact h g s w hI _ fun g' s' w' hI' hlt => ih g' s' w' (by omega) hI'
  exact ⟨_, key _ g s w (Nat.le_refl _) h0⟩
theorem meets_snoc (hv : Int) (F : Fl) (ks : List Int) (z : Int) : F.meets hv (ks ++ [z]) = (F.meets hv ks).meet z hv := by simp [Fl.meets]
theorem orcI_one {n : Nat} {d : (Nat → Dec) → Dec} {Y : Nat → Dec} {args : List Value} {w : World} {c : Value → World → Prop} (h : d Y args w c) : orcI [(n, d)] n Y args w c := by
  unfold orcI
  rw [Nat.beq_refl]
  exact h
theorem it_call {Y : Nat → Dec} {v : Value} {a b : Addr} {w : World} {c : Value → World → Prop} (h : check_behind_1 Y v a b w fun r w => c (.tuple #[]) w) : i_check_behind_1 Y [v, .pointer (some a), .pointer (some b)] w c := h
theorem pass_s {w w' : World} {g gp gh ga : Nat} {s : Sl} {F : Fl} {l : List (List Int)} {x : List Int} {i hv : Int} {nv : Value} {ds : List Nat} {C : Unit × List Nat → World → Prop}
    (hS : St w w' [blk gh [.int .i64 hv], flow g (s, F), blk gp [.pointer (some ⟨g, 0, none⟩)], mks ds, blk ga [nv, .slice s.a s.n s.c]]) (hr : Code5 w s l) (hF : F.OK l.length) (hmu : F.mu ≤ 1000000) (hn : l.length ≤ 1000) (hi0 : 0 ≤ i) (hx : l[i.toNat]? = some x)
    (hc : ∀ D w'', St w w'' [mks (D :: ds), flow g (s, F.meets hv (behind l.length i x)), blk gp [.pointer (some ⟨g, 0, none⟩)], blk ga [nv, .slice s.a s.n s.c]] → C ((), D :: ds) w'') :
    check_behind s i w' fun v149 w150 => rangeF (orcI [(n_check_behind_1, i_check_behind_1)]) [.i .i64] v149 w150 (fun (x151 : Int) w152 C153 => ldP w152 ⟨gp, 0, none⟩ fun p156 => ldI .i64 w152 ⟨gh, 0, none⟩ fun i157 => check_flow_meet p156 x151 i157 w152 fun _u w158 => C153 w158) fun D154 w155 => C ((), D154 :: ds) w155 := by
  have hil : i.toNat < l.length := (List.getElem?_eq_some_iff.1 hx).1
  have hsn := hr.len
  unfold check_behind
  refine newC_h hS fun gc w1 hS => newC_h hS fun gi w2 hS => ?_
  refine rangeF_h hS fun lr D R w3 hS => ?_
  refine orcI_one (it_call (v := .func (.yield lr) #[] #[]) (a := ⟨gc, 0, none⟩) (b := ⟨gi, 0, none⟩) ?_)
  refine behind_s (x := x) (l := l) (code := s) (Lk := fun ks => [obj lr (R .ready), obj D (.deferred (some [])), blk gi [.int .i64 i], blk gc [.slice s.a s.n s.c], blk gh [.int .i64 hv], flow g (s, F.meets hv ks), blk gp [.pointer (some ⟨g, 0, none⟩)], mks ds, blk ga [nv, .slice s.a s.n s.c]])
    hS hi0 hx (fun {w ks} h => ⟨?_, ?_, hr.ext h.ext⟩) (fun {B ks z w c} h hp hcc => ?_) fun w4 h => ?_
  · rw [(h.blk (g := gc) (cs := [.slice s.a s.n s.c])).cell]; rfl
  · rw [(h.blk (g := gi) (cs := [.int .i64 i])).cell]; rfl
  · rw [hsn] at hp
    have hin := behind_in (x := x) (n := l.length) (i := i) (by omega) hi0 (by omega)
    have hpre : ∀ y ∈ ks ++ [z], 0 ≤ y ∧ y < l.length := fun y hy => hin y (hp.subset hy)
    have hz := hpre z (by simp)
    have hks := meets_ok (hv := hv) (zs := ks) hF fun y hy => hpre y (by simp [hy])
    refine rY_h (l := lr) (R := R) (kk := [.i .i64]) z (fun c hc => hc) h fun w5 h => ?_
    refine ldP_h (g := gp) (o := 0) h rfl (ldI_h (g := gh) (o := 0) h rfl ?_)
    have hlen : (F.meets hv ks).todo.length ≤ (F.meets hv ks).mu := by unfold Fl.mu; omega
    have hlen2 := hks.2
    refine meet_s (g := g) (code := s) (F := F.meets hv ks) h hz.1 (by rw [hks.1.held]; exact hz.2) (by rw [hks.1.held, hks.1.come]) (by omega) fun w6 h => ?_
    rw [← meets_snoc] at h
    exact rec_h (g := lr) (o := R .busy) (o' := R .ready) (c := c (.bool true)) h fun w7 h => hcc w7 h
  · have e : behind s.n i x = behind l.length i x := by rw [hsn]
    simp only [e] at h
    refine rec_h (g := lr) (o := R .ready) (o' := R .exhausted) (c := C ((), D :: ds)) h fun w5 h => hc D w5 ?_
    have h := h.perm (M := [obj D (.deferred (some [])), mks ds, flow g (s, F.meets hv (behind l.length i x)), blk gp [.pointer (some ⟨g, 0, none⟩)], blk ga [nv, .slice s.a s.n s.c], obj lr (R .exhausted), blk gi [.int .i64 i], blk gc [.slice s.a s.n s.c], blk gh [.int .i64 hv]]) (by repeat' (first | exact List.Perm.refl _ | refine perm_f 0 rfl ?_ | refine perm_f 1 rfl ?_ | refine perm_f 2 rfl ?_ | refine perm_f 3 rfl ?_ | refine perm_f 4 rfl ?_ | refine perm_f 5 rfl ?_ | refine perm_f 6 rfl ?_ | refine perm_f 7 rfl ?_))
    have h := mks_cons h
    exact ((((h.rm 7 rfl).rm 6 rfl).rm 5 rfl).rm 4 rfl)
end Go.Proofs.YtgkfbagclkjilaaGreatDoor.Ck
namespace Go.Proofs.YtgkfbagclkjilaaGreatDoor.Ck
open Go Go.Ev Go.Proofs
theorem joinP_i {S : Type} {body : (S → World → Prop) → Prop} {rest : S → World → Prop} (Inv : S → World → Prop) (h2 : ∀ J : S → World → Prop, (∀ s w, Inv s w → J s w) → body J) (h1 : ∀ s w, Inv s w → rest s w) : joinP body rest := h2 rest h1
def startL (g gp ga : Nat) (s s1 s2 : Sl) (needs : Int) (n : Nat) : List HP := [blk g [.slice s.a s.n s.c, .slice s1.a s1.n s1.c, .slice s2.a s2.n s2.c, .slice none 0 0], slc 1 s1 (List.replicate n (.int .i64 0)), slc 1 s2 (List.replicate n (.bool false)), blk gp [.pointer (some ⟨g, 0, none⟩)], blk ga [.int .i64 needs, .slice s.a s.n s.c]]
def startI (w : World) (ga : Nat) (s : Sl) (needs : Int) (a : Addr) (w' : World) : Prop := ∃ g gp s1 s2, a = ⟨gp, 0, none⟩ ∧ s1.n = s.n ∧ St w w' (startL g gp ga s s1 s2 needs s.n)
theorem leaf {w w' : World} {g gp ga : Nat} {s s1 s2 : Sl} {needs : Int} {L : List HP} {J : Addr → World → Prop} (hJ : ∀ a w', startI w ga s needs a w' → J a w') (h : St w w' L) (n1 : s1.n = s.n) (hp : L.Perm (startL g gp ga s s1 s2 needs s.n)) : J ⟨gp, 0, none⟩ w' :=
  hJ _ _ ⟨g, gp, s1, s2, rfl, n1, h.perm hp⟩
def Fl0 (n : Nat) : Fl := ⟨List.replicate n 255, List.replicate n false, []⟩
def Fl.steps (l : List (List Int)) : Nat → Fl → Fl
  | 0, F => F
  | m + 1, F => (Fl.steps l m F).step l
def Reached (l : List (List Int)) (needs : Int) (F : Fl) : Prop := F.todo = [] ∧ (l = [] → F = Fl0 0) ∧ (l ≠ [] → ∃ m, F = Fl.steps l m ((Fl0 l.length).meet 0 (andI .i64 needs 255)))
theorem Fl0_ok (n : Nat) : (Fl0 n).OK n := ⟨by simp [Fl0], by simp [Fl0], fun h hh => by simp [Fl0] at hh; omega, fun i hi => by simp [Fl0] at hi⟩
theorem held_s {w : World} {s : Sl} {needs : Int} {l : List (List Int)} {k : Sl → World → Prop} (hr : Code5 w s l) (hn : s.n ≤ 1000)
    (hc : ∀ F s' w', Reached l needs F → St w w' [slc 1 s' (ints F.held)] → k s' w') : check_Held #[.int .i64 needs, .slice s.a s.n s.c] w k := by
  unfold check_Held check_Held_b
  refine newC_h (.nil w) fun ga w2 h0 => ?_
  refine ldS_h (g := ga) (o := 1) h0 rfl ?_
  refine joinP_i (startI w ga s needs) (fun J hJ => ?_) fun a75 w76 hI => ?_
  · refine drew_h h0 fun w5 h => ldS_h (g := ga) (o := 1) h rfl ?_
    have h5 := h
    refine ⟨?_, ?_⟩
    · refine mkSl_h (n := s.n) h (elI (by kernel_rfl)) rfl (by omega) (by omega) fun s1 _ h n1 => samec_h h5 h ?_
      refine ⟨?_, ?_⟩
      · refine mkSl_h (n := s.n) h (elB (by kernel_rfl)) rfl (by omega) (by omega) fun s2 _ h _ => samec_h h5 h ?_
        refine ⟨?_, ?_⟩
        · refine ⟨?_, ?_⟩
          · refine newC_h h fun g _ h => ?_
            refine newC_h h fun gp _ h => samec_h h5 h ?_
            refine stC_h (g := gp) h rfl (by simp) fun _ h => leaf (g := g) (s2 := s2) hJ h n1 ?_
            unfold startL; repeat' (first | exact List.Perm.refl _ | refine perm_f 0 rfl ?_ | refine perm_f 1 rfl ?_ | refine perm_f 2 rfl ?_ | refine perm_f 3 rfl ?_ | refine perm_f 4 rfl ?_ | refine perm_f 5 rfl ?_ | refine perm_f 6 rfl ?_ | refine perm_f 7 rfl ?_)
          · refine newC_h h fun gp _ h => samec_h h5 h ?_
            refine newC_h h fun g _ h => ?_
            refine stC_h (g := gp) h rfl (by simp) fun _ h => leaf (g := g) (s2 := s2) hJ h n1 ?_
            unfold startL; repeat' (first | exact List.Perm.refl _ | refine perm_f 0 rfl ?_ | refine perm_f 1 rfl ?_ | refine perm_f 2 rfl ?_ | refine perm_f 3 rfl ?_ | refine perm_f 4 rfl ?_ | refine perm_f 5 rfl ?_ | refine perm_f 6 rfl ?_ | refine perm_f 7 rfl ?_)
        · refine newC_h h fun gp _ h => samec_h h5 h ?_
          refine newC_h h fun g _ h => ?_
          refine stC_h (g := gp) h rfl (by simp) fun _ h => leaf (g := g) (s2 := s2) hJ h n1 ?_
          unfold startL; repeat' (first | exact List.Perm.refl _ | refine perm_f 0 rfl ?_ | refine perm_f 1 rfl ?_ | refine perm_f 2 rfl ?_ | refine perm_f 3 rfl ?_ | refine perm_f 4 rfl ?_ | refine perm_f 5 rfl ?_ | refine perm_f 6 rfl ?_ | refine perm_f 7 rfl ?_)
      · refine newC_h h fun gp _ h => samec_h h5 h ?_
        refine mkSl_h (n := s.n) h (elB (by kernel_rfl)) rfl (by omega) (by omega) fun s2 _ h _ => samec_h h5 h ?_
        refine newC_h h fun g _ h => ?_
        refine stC_h (g := gp) h rfl (by simp) fun _ h => leaf (g := g) (s2 := s2) hJ h n1 ?_
        unfold startL; repeat' (first | exact List.Perm.refl _ | refine perm_f 0 rfl ?_ | refine perm_f 1 rfl ?_ | refine perm_f 2 rfl ?_ | refine perm_f 3 rfl ?_ | refine perm_f 4 rfl ?_ | refine perm_f 5 rfl ?_ | refine perm_f 6 rfl ?_ | refine perm_f 7 rfl ?_)
    · refine ⟨?_, ?_⟩
      · refine mkSl_h (n := s.n) h (elB (by kernel_rfl)) rfl (by omega) (by omega) fun s2 _ h _ => samec_h h5 h ?_
        refine ⟨?_, ?_⟩
        · refine mkSl_h (n := s.n) h (elI (by kernel_rfl)) rfl (by omega) (by omega) fun s1 _ h n1 => samec_h h5 h ?_
          refine ⟨?_, ?_⟩
          · refine ⟨?_, ?_⟩
            · refine newC_h h fun g _ h => ?_
              refine newC_h h fun gp _ h => samec_h h5 h ?_
              refine stC_h (g := gp) h rfl (by simp) fun _ h => leaf (g := g) (s2 := s2) hJ h n1 ?_
              unfold startL; repeat' (first | exact List.Perm.refl _ | refine perm_f 0 rfl ?_ | refine perm_f 1 rfl ?_ | refine perm_f 2 rfl ?_ | refine perm_f 3 rfl ?_ | refine perm_f 4 rfl ?_ | refine perm_f 5 rfl ?_ | refine perm_f 6 rfl ?_ | refine perm_f 7 rfl ?_)
            · refine newC_h h fun gp _ h => samec_h h5 h ?_
              refine newC_h h fun g _ h => ?_
              refine stC_h (g := gp) h rfl (by simp) fun _ h => leaf (g := g) (s2 := s2) hJ h n1 ?_
              unfold startL; repeat' (first | exact List.Perm.refl _ | refine perm_f 0 rfl ?_ | refine perm_f 1 rfl ?_ | refine perm_f 2 rfl ?_ | refine perm_f 3 rfl ?_ | refine perm_f 4 rfl ?_ | refine perm_f 5 rfl ?_ | refine perm_f 6 rfl ?_ | refine perm_f 7 rfl ?_)
          · refine newC_h h fun gp _ h => samec_h h5 h ?_
            refine newC_h h fun g _ h => ?_
            refine stC_h (g := gp) h rfl (by simp) fun _ h => leaf (g := g) (s2 := s2) hJ h n1 ?_
            unfold startL; repeat' (first | exact List.Perm.refl _ | refine perm_f 0 rfl ?_ | refine perm_f 1 rfl ?_ | refine perm_f 2 rfl ?_ | refine perm_f 3 rfl ?_ | refine perm_f 4 rfl ?_ | refine perm_f 5 rfl ?_ | refine perm_f 6 rfl ?_ | refine perm_f 7 rfl ?_)
        · refine newC_h h fun gp _ h => samec_h h5 h ?_
          refine mkSl_h (n := s.n) h (elI (by kernel_rfl)) rfl (by omega) (by omega) fun s1 _ h n1 => samec_h h5 h ?_
          refine newC_h h fun g _ h => ?_
          refine stC_h (g := gp) h rfl (by simp) fun _ h => leaf (g := g) (s2 := s2) hJ h n1 ?_
          unfold startL; repeat' (first | exact List.Perm.refl _ | refine perm_f 0 rfl ?_ | refine perm_f 1 rfl ?_ | refine perm_f 2 rfl ?_ | refine perm_f 3 rfl ?_ | refine perm_f 4 rfl ?_ | refine perm_f 5 rfl ?_ | refine perm_f 6 rfl ?_ | refine perm_f 7 rfl ?_)
      · refine newC_h h fun gp _ h => samec_h h5 h ?_
        refine ⟨?_, ?_⟩
        · refine mkSl_h (n := s.n) h (elI (by kernel_rfl)) rfl (by omega) (by omega) fun s1 _ h n1 => samec_h h5 h ?_
          refine mkSl_h (n := s.n) h (elB (by kernel_rfl)) rfl (by omega) (by omega) fun s2 _ h _ => samec_h h5 h ?_
          refine newC_h h fun g _ h => ?_
          refine stC_h (g := gp) h rfl (by simp) fun _ h => leaf (g := g) (s2 := s2) hJ h n1 ?_
          unfold startL; repeat' (first | exact List.Perm.refl _ | refine perm_f 0 rfl ?_ | refine perm_f 1 rfl ?_ | refine perm_f 2 rfl ?_ | refine perm_f 3 rfl ?_ | refine perm_f 4 rfl ?_ | refine perm_f 5 rfl ?_ | refine perm_f 6 rfl ?_ | refine perm_f 7 rfl ?_)
        · refine mkSl_h (n := s.n) h (elB (by kernel_rfl)) rfl (by omega) (by omega) fun s2 _ h _ => samec_h h5 h ?_
          refine mkSl_h (n := s.n) h (elI (by kernel_rfl)) rfl (by omega) (by omega) fun s1 _ h n1 => samec_h h5 h ?_
          refine newC_h h fun g _ h => ?_
          refine stC_h (g := gp) h rfl (by simp) fun _ h => leaf (g := g) (s2 := s2) hJ h n1 ?_
          unfold startL; repeat' (first | exact List.Perm.refl _ | refine perm_f 0 rfl ?_ | refine perm_f 1 rfl ?_ | refine perm_f 2 rfl ?_ | refine perm_f 3 rfl ?_ | refine perm_f 4 rfl ?_ | refine perm_f 5 rfl ?_ | refine perm_f 6 rfl ?_ | refine perm_f 7 rfl ?_)
  · obtain ⟨g, gp, s1, s2, rfl, n1, h⟩ := hI
    unfold startL at h
    have hn0 := ints_rep s.n
    simp only [hn0] at h
    refine ldP_h (g := gp) (o := 0) (n := some ⟨g, 0, none⟩) h rfl (nn_i (ldS_h (g := g) (o := 1) h rfl ?_))
    refine joinP_i (fun _ w' => St w w' [blk g [.slice s.a s.n s.c, .slice s1.a s1.n s1.c, .slice s2.a s2.n s2.c, .slice none 0 0], slc 1 s1 (ints (List.replicate s.n 255)), slc 1 s2 (List.replicate s.n (.bool false)), blk gp [.pointer (some ⟨g, 0, none⟩)], blk ga [.int .i64 needs, .slice s.a s.n s.c]]) (fun J hJ => ?_) fun _ w90 h => ?_
    · refine loopP_of (fun (i : Int) w' => ∃ j : Nat, i = j ∧ j ≤ s.n ∧ St w w' [blk g [.slice s.a s.n s.c, .slice s1.a s1.n s1.c, .slice s2.a s2.n s2.c, .slice none 0 0], slc 1 s1 (ints (List.replicate j 255 ++ List.replicate (s.n - j) 0)), slc 1 s2 (List.replicate s.n (.bool false)), blk gp [.pointer (some ⟨g, 0, none⟩)], blk ga [.int .i64 needs, .slice s.a s.n s.c]])
        (fun i _ => ((s.n : Int) - i).toNat) ⟨0, rfl, by omega, by simpa using h⟩ ?_
      rintro i w83 ⟨j, rfl, hj, h⟩ C hC
      refine iteB_i (fun hb => ?_) fun hb => ?_
      · simp only [decide_eq_true_eq] at hb
        refine ldP_h (g := gp) (o := 0) (n := some ⟨g, 0, none⟩) h rfl (nn_i (ldS_h (g := g) (o := 1) h rfl (ixIst_h (s := s1) (xs := List.replicate j 255 ++ List.replicate (s.n - j) 0) h (by omega) (by simp; omega) fun w88 h => ?_)))
        have hw : IntKind.wrap .i64 ((j : Int) + 1) = ((j + 1 : Nat) : Int) := by rw [wrap_id ⟨by omega, by omega⟩]; simp
        rw [hw]
        refine hC _ _ ⟨j + 1, rfl, by omega, ?_⟩ (by omega)
        have e : (List.replicate j (255 : Int) ++ List.replicate (s.n - j) 0).set ((j : Int)).toNat 255 = List.replicate (j + 1) 255 ++ List.replicate (s.n - (j + 1)) 0 := by
          have e1 : s.n - j = (s.n - (j + 1)) + 1 := by omega
          rw [Int.toNat_natCast, List.set_append_right (h := by simp), e1, List.length_replicate, Nat.sub_self, List.replicate_succ (n := s.n - (j + 1)), List.set_cons_zero, List.replicate_succ' (n := j), List.append_assoc]; rfl
        rw [e] at h; exact h
      · simp only [decide_eq_false_iff_not] at hb
        have e : j = s.n := by omega
        subst e
        refine hJ () _ ?_
        simpa using h
    · have hsn := hr.len
      refine iteB_i (fun h0' => ?_) fun h0' => ?_
      · have hz : s.n = 0 := by
          have : (s.n : Int) = 0 := by simpa using h0'
          omega
        have hl : l = [] := List.eq_nil_of_length_eq_zero (by omega)
        refine ldP_h (g := gp) (o := 0) (n := some ⟨g, 0, none⟩) h rfl (nn_i (ldS_h (g := g) (o := 1) h rfl ?_))
        refine hc (Fl0 0) s1 w90 ⟨rfl, fun _ => rfl, fun hne => (hne hl).elim⟩ ?_
        have e : ints (List.replicate s.n 255) = ints (Fl0 0).held := by rw [hz]; rfl
        rw [← e]
        exact (((h.rm 4 rfl).rm 3 rfl).rm 2 rfl).rm 0 rfl
      · have hz : s.n ≠ 0 := by
          have : ¬ (s.n : Int) = 0 := by simpa using h0'
          omega
        have hb0 := bls_rep s.n
        have h := h.nilS 1
        simp only [hb0] at h
        have h : St w w90 [flow g (s, Fl0 s.n), blk gp [.pointer (some ⟨g, 0, none⟩)], blk ga [.int .i64 needs, .slice s.a s.n s.c]] :=
          flow_shut (F := Fl0 s.n) (s1 := s1) (s2 := s2) (s3 := ⟨none, 0, 0⟩) (h.perm (by unfold Fl0; repeat' (first | exact List.Perm.refl _ | refine perm_f 0 rfl ?_ | refine perm_f 1 rfl ?_ | refine perm_f 2 rfl ?_ | refine perm_f 3 rfl ?_ | refine perm_f 4 rfl ?_ | refine perm_f 5 rfl ?_ | refine perm_f 6 rfl ?_ | refine perm_f 7 rfl ?_)))
        refine ldP_h (g := gp) (o := 0) (n := some ⟨g, 0, none⟩) h rfl (ldI_h (g := ga) (o := 0) h rfl ?_)
        refine meet_s (g := g) (code := s) (F := Fl0 s.n) h (by omega) (by simp [Fl0]; omega) (by simp [Fl0]) (by simp [Fl0]) fun w96 h => ?_
        have h := mks_nil h
        have hm0 := meet_ok (hv := andI .i64 needs 255) (i := 0) (Fl0_ok l.length) (by omega) (by omega)
        have hmu0 : (Fl0 l.length).mu ≤ 1000000 := by simp [Fl.mu, Fl0, sumN, cntF]; omega
        refine loopP_ghost (G := Fl) (fun F x w' => F.OK l.length ∧ F.mu ≤ 1000000 ∧ (∃ m, F = Fl.steps l m ((Fl0 l.length).meet 0 (andI .i64 needs 255))) ∧ St w w' [mks x.2, flow g (s, F), blk gp [.pointer (some ⟨g, 0, none⟩)], blk ga [.int .i64 needs, .slice s.a s.n s.c]]) Fl.mu
          (g := (Fl0 s.n).meet 0 (andI .i64 needs 255)) ⟨by rw [hsn]; exact hm0.1, by rw [hsn]; have := hm0.2; omega, ⟨0, by rw [hsn]; rfl⟩, h⟩ ?_
        rintro F x w99 ⟨hF, hmu, ⟨m, hm⟩, h⟩ C hC
        obtain ⟨t1, t2, t3, h⟩ := flow_open h.swap
        refine ldP_h (g := gp) (o := 0) (n := some ⟨g, 0, none⟩) h rfl (nn_i (ldS_h (g := g) (o := 3) h rfl ?_))
        have hn3 : F.todo.length = t3.n := by have := h.slen (sz := 1) (s := t3) (vs := ints F.todo); simpa using this
        refine iteB_i (fun he => ?_) fun he => ?_
        · have he' : (t3.n : Int) = 0 := by simpa using he
          have hnil : F.todo = [] := List.eq_nil_of_length_eq_zero (by omega)
          refine ldP_h (g := gp) (o := 0) (n := some ⟨g, 0, none⟩) h rfl (nn_i (ldS_h (g := g) (o := 1) h rfl ?_))
          refine takeP_h (h.front 4 rfl) fun w' h => hc F t1 w' ⟨hnil, fun hl => ?_, fun _ => ⟨m, hm⟩⟩ ?_
          · rw [hl] at hsn; exact (hz hsn).elim
          · exact ((((h.rm 5 rfl).rm 4 rfl).rm 3 rfl).rm 2 rfl).rm 0 rfl
        · have he' : ¬ (t3.n : Int) = 0 := by simpa using he
          obtain ⟨i, t, hti⟩ : ∃ i t, F.todo = i :: t := by
            cases e : F.todo with
            | nil => rw [e] at hn3; simp at hn3; omega
            | cons i t => exact ⟨i, t, rfl⟩
          have hi := hF.todo i (by rw [hti]; simp)
          have hg0 : F.todo.getD (0 : Int).toNat 0 = i := by rw [hti]; rfl
          refine ldP_h (g := gp) (o := 0) (n := some ⟨g, 0, none⟩) h rfl (nn_i (ldS_h (g := g) (o := 3) h rfl (ixI_h (s := t3) (xs := F.todo) h (by omega) (by omega) ?_)))
          rw [hg0]
          refine drew_h h fun w112 h => ldP_h (g := gp) (o := 0) (n := some ⟨g, 0, none⟩) h rfl (ldP_h (g := gp) (o := 0) (n := some ⟨g, 0, none⟩) h rfl (nn_i (ldS_h (g := g) (o := 3) h rfl ?_)))
          refine slL_h (s := t3) (vs := ints F.todo) h (by omega) (by omega) fun d hd h => nn_i (stC_h (g := g) (o := 3) h rfl (by simp) fun w119 h => ?_)
          refine ldP_h (g := gp) (o := 0) (n := some ⟨g, 0, none⟩) h rfl (nn_i (ldS_h (g := g) (o := 1) h rfl (ixI_h (s := t1) (xs := F.held) h hi.1 (by rw [hF.held]; exact hi.2) ?_)))
          refine newC_h h fun gh w126 h => stC_h (g := gh) (o := 0) h rfl (by simp) fun w127 h => ?_
          have hil : i.toNat < l.length := by omega
          have hx : l[i.toNat]? = some l[i.toNat] := List.getElem?_eq_getElem hil
          have hsplit : l = l.take i.toNat ++ l[i.toNat] :: l.drop (i.toNat + 1) := by rw [List.getElem_cons_drop, List.take_append_drop]
          generalize hxe : l[i.toNat] = x5 at hx hsplit
          refine ldS_h (g := ga) (o := 1) h rfl (ixC (hr.ext h.ext) hsplit (by simp; omega) fun p h5 hp => ldA_c (by simp [Go.Ev.ints, h5]) hp ?_)
          refine newC_h h fun gx w132 h => stW_h (g := gx) h rfl (by simp [Go.Ev.ints, h5]) (by simp [Go.Ev.ints, Value.oneCell']) fun w133 h => ?_
          have ld : ∀ {o : Nat} {c : Int → Prop}, o < 5 → c (x5.getD o 0) → ldI .i64 w133 (Addr.add ⟨gx, 0, none⟩ o) c := by
            intro o c ho hc
            have := ldI_h (g := gx) (o := o) (k := .i64) (n := x5.getD o 0) (c := c) h (by simpa using ints_get (x := x5) (j := o) (by omega)) hc
            rw [add_mk, Nat.zero_add]; exact this
          refine joinP_i (fun b w' => b = decide (opI x5 = 8 ∧ 0 ≤ x5.getD 1 0 ∧ x5.getD 1 0 < 8) ∧ w' = w133) (fun J hJ => ?_) ?_
          · refine ld (by omega) (iteB_i (fun hb => ?_) fun hb => ?_)
            · have hb' : opI x5 = 8 := by simpa using hb
              refine ld (by omega) (iteB_i (fun hb2 => ?_) fun hb2 => ?_)
              · refine ld (by omega) (hJ _ _ ⟨?_, rfl⟩)
                have := of_decide_eq_true hb2
                rw [decide_eq_decide]
                exact ⟨fun h => ⟨hb', this, h⟩, fun h => h.2.2⟩
              · have := of_decide_eq_false hb2
                exact hJ _ _ ⟨(decide_eq_false fun h => this h.2.1).symm, rfl⟩
            · have hb' : ¬ opI x5 = 8 := by simpa using hb
              exact hJ _ _ ⟨(decide_eq_false fun h => hb' h.1).symm, rfl⟩
          rintro b w139 ⟨rfl, rfl⟩
          have e1 : (ints F.todo).drop ((1 : Int).toNat * 1) = ints t := by rw [hti]; rfl
          simp only [e1] at h
          have h : St w w139 [flow g (s, { F with todo := t }), blk gh [.int .i64 (F.held.getD i.toNat 0)], blk gx (Go.Ev.ints x5), blk gp [.pointer (some ⟨g, 0, none⟩)], mks x.2, blk ga [.int .i64 needs, .slice s.a s.n s.c]] :=
            flow_shut (F := { F with todo := t }) (s1 := t1) (s2 := t2) (s3 := d) (h.perm (by repeat' (first | exact List.Perm.refl _ | refine perm_f 0 rfl ?_ | refine perm_f 1 rfl ?_ | refine perm_f 2 rfl ?_ | refine perm_f 3 rfl ?_ | refine perm_f 4 rfl ?_ | refine perm_f 5 rfl ?_ | refine perm_f 6 rfl ?_ | refine perm_f 7 rfl ?_)))
          refine joinP_i (fun _ w' => St w w' [flow g (s, { F with todo := t }), blk gh [.int .i64 (hvOf x5 (F.held.getD i.toNat 0))], blk gx (Go.Ev.ints x5), blk gp [.pointer (some ⟨g, 0, none⟩)], mks x.2, blk ga [.int .i64 needs, .slice s.a s.n s.c]]) (fun J hJ => ?_) fun _ w147 h => ?_
          · refine iteB_i (fun hb => ?_) fun hb => ?_
            · have hb' := of_decide_eq_true hb
              refine drew_h h fun w137 h => ldI_h (g := gh) (o := 0) h rfl ?_
              have ld2 := ldI_h (g := gx) (o := 1) (k := .i64) (n := x5.getD 1 0) (c := fun i143 => shlI .i64 1 i143 fun i144 => stC w137 ⟨gh, 0, none⟩ (.int .i64 (orI .i64 (F.held.getD i.toNat 0) i144)) fun w141 => J () w141) h (ints_get (by omega))
              refine ld2 ⟨hb'.2.1, ?_⟩
              refine stC_h (g := gh) (o := 0) h rfl (by simp) fun w141 h => hJ () _ ?_
              unfold hvOf; rw [if_pos hb']; exact h
            · have hb' := of_decide_eq_false hb
              refine hJ () _ ?_
              unfold hvOf; rw [if_neg hb']; exact h
          refine ldS_h (g := ga) (o := 1) h rfl ?_
          have hF1 : Fl.OK l.length { F with todo := t } := ⟨hF.held, hF.come, hF.bits, fun z hz => hF.todo z (by rw [hti]; simp [hz])⟩
          have hm1 : Fl.mu { F with todo := t } ≤ F.mu := by simp only [Fl.mu, hti, List.length_cons]; omega
          have hst : F.step l = Fl.meets (hvOf x5 (F.held.getD i.toNat 0)) { F with todo := t } (behind l.length i x5) := by
            have e : l.getD i.toNat [] = x5 := by simp [hx]
            unfold Fl.step; rw [hti]; simp only [e]
          have hs2 := step_ok (l := l) (by omega) hF (by rw [hti]; simp)
          have h := (h.rm 2 rfl).perm (M := [blk gh [.int .i64 (hvOf x5 (F.held.getD i.toNat 0))], flow g (s, { F with todo := t }), blk gp [.pointer (some ⟨g, 0, none⟩)], mks x.2, blk ga [.int .i64 needs, .slice s.a s.n s.c]]) (by repeat' (first | exact List.Perm.refl _ | refine perm_f 0 rfl ?_ | refine perm_f 1 rfl ?_ | refine perm_f 2 rfl ?_ | refine perm_f 3 rfl ?_ | refine perm_f 4 rfl ?_ | refine perm_f 5 rfl ?_ | refine perm_f 6 rfl ?_ | refine perm_f 7 rfl ?_))
          refine pass_s (g := g) (gp := gp) (gh := gh) (ga := ga) (x := x5) (ds := x.2) h hr hF1 (by omega) (by omega) hi.1 hx fun D w'' h => ?_
          rw [← hst] at h
          exact hC (F.step l) _ _ ⟨hs2.1, by omega, ⟨m + 1, by show F.step l = (Fl.steps l m _).step l; rw [← hm]⟩, h⟩ hs2.2
end Go.Proofs.YtgkfbagclkjilaaGreatDoor.Ck
namespace Go.Proofs.YtgkfbagclkjilaaGreatDoor.Ck
open Go Go.Ev Go.Proofs
def cand (i : Int) (x : List Int) : List Int := (if isGoes x then [x.getD 4 0] else []) ++ (if (opI x != 6) && !isEnds x then [IntKind.wrap .i64 (i + 1)] else [])
def inN (n : Nat) (z : Int) : Bool := decide (0 ≤ z ∧ z < n)
theorem cand_behind {n : Nat} {i : Int} {x : List Int} (hn : n ≤ 4294967296) (h0 : 0 ≤ i) (h1 : i < n) : (cand i x).filter (inN n) = behind n i x := by
  have hw : IntKind.wrap .i64 (i + 1) = i + 1 := wrap_id ⟨by omega, by omega⟩
  have hin : inN n (i + 1) = decide (i + 1 < (n : Int)) := by unfold inN; rw [decide_eq_decide]; omega
  unfold cand behind yA yB
  rw [List.filter_append, hw]
  congr 1
  · cases isGoes x <;> simp [List.filter_cons, inN]
  · rw [← hin]
    cases (opI x != 6) && !isEnds x <;> simp [List.filter_cons]
theorem rbehind_s {w : World} {s : Sl} {l : List (List Int)} {i : Int} {x : List Int} {k : Sl → World → Prop} (hr : Code5 w s l) (hn : l.length ≤ 1000) (h0 : 0 ≤ i) (hx : l[i.toNat]? = some x)
    (hc : ∀ s' w', St w w' [slc 1 s' (ints (behind l.length i x))] → k s' w') : pelotonref04_Behind s i w k := by
  have hsn := hr.len
  have hil : i.toNat < l.length := (List.getElem?_eq_some_iff.1 hx).1
  have hsplit : l = l.take i.toNat ++ x :: l.drop (i.toNat + 1) := by
    obtain ⟨_, e⟩ := List.getElem?_eq_some_iff.1 hx
    rw [← e, List.getElem_cons_drop, List.take_append_drop]
  have hw : IntKind.wrap .i64 (i + 1) = i + 1 := wrap_id ⟨by omega, by omega⟩
  unfold pelotonref04_Behind
  refine ixC hr hsplit (by simp; omega) fun p h5 hp => ldI_i (hp 0 _ (ints_get (by omega))) ?_
  refine joinP_i (fun s1 w' => ∃ a : List Int, a = (if isGoes x then [x.getD 4 0] else []) ∧ s1.n = a.length ∧ St w w' [slc 1 s1 (ints a)]) (fun J hJ => ?_) ?_
  · refine iteB_i (fun hg => ?_) fun hg => ?_
    · have hg' : isGoes x = true := hg
      refine ixC hr hsplit (by simp; omega) fun p h5 hp => ldI_i (hp 4 _ (ints_get (by omega))) ?_
      refine newC_h ((St.nil w).nilS 1) fun g w7 h => ?_
      refine bApp_h (s := ⟨none, 0, 0⟩) (vs := []) (x := ⟨some ⟨g, 0, none⟩, 1, 1⟩) (ys := [.int .i64 (x.getD 4 0)]) h (elI (by kernel_rfl)) (by kernel_rfl) (blk_sls (n := 1) (l := [.int .i64 (x.getD 4 0)]) h.blk rfl 1) (by simp [Value.oneCell']) (by simp) (by simp) fun s6 w9 h n6 => ?_
      exact hJ _ _ ⟨[x.getD 4 0], by rw [hg']; rfl, by simpa using n6, by simpa [ints] using h.drop⟩
    · have hg' : isGoes x = false := hg
      exact hJ _ _ ⟨[], by rw [hg']; rfl, rfl, by simpa [ints] using (St.nil w).nilS 1⟩
  · rintro s1 w11 ⟨a, ha, n1, h⟩
    refine joinP_i (fun s1 w' => s1.n = (cand i x).length ∧ St w w' [slc 1 s1 (ints (cand i x))]) (fun J hJ => ?_) ?_
    · have key : ∀ o : Int, (o != 6 && o != 16 && o != 15) = ((o != 6) && !((o == 16) || (o == 15))) := by
        intro o; rw [Bool.not_or]; simp only [bne]; rw [Bool.and_assoc]
      have hla : a.length ≤ 1 := by rw [ha]; split <;> simp
      refine iteB_i (fun hg => ?_) fun hg => ?_
      · have hg' : ((opI x != 6) && !isEnds x) = true := by
          have h1 := key (x.getD 0 0); rw [hg] at h1; exact h1.symm
        refine newC_h h fun g w14 h => ?_
        refine bApp_h (s := s1) (vs := ints a) (x := ⟨some ⟨g, 0, none⟩, 1, 1⟩) (ys := [.int .i64 (IntKind.wrap .i64 (i + 1))]) h (elI (by kernel_rfl)) (by kernel_rfl) (blk_sls (n := 1) (l := [.int .i64 (IntKind.wrap .i64 (i + 1))]) h.blk rfl 1) (by simp [Value.oneCell']) (by simp only; omega) (by simp only; omega) fun s6 w9 h n6 => ?_
        have e : cand i x = a ++ [IntKind.wrap .i64 (i + 1)] := by unfold cand; rw [← ha, hg']; rfl
        exact hJ _ _ ⟨by rw [e]; simp [n6, n1], by rw [e]; simpa [ints] using h.drop⟩
      · have hg' : ((opI x != 6) && !isEnds x) = false := by
          have h1 := key (x.getD 0 0); rw [hg] at h1; exact h1.symm
        have e : cand i x = a := by unfold cand; rw [← ha, hg']; simp
        exact hJ _ _ ⟨by rw [e]; exact n1, by rw [e]; exact h⟩
    · rintro s2 w18 ⟨n2, h⟩
      have hcl : (cand i x).length ≤ 2 := by unfold cand; split <;> split <;> simp
      rw [← cand_behind (n := l.length) (by omega) h0 (by omega)] at hc
      refine loopP_of (fun (y : Sl × Int) w' => ∃ j : Nat, y.2 = j ∧ j ≤ s2.n ∧ y.1.n = (((cand i x).take j).filter (inN l.length)).length ∧ St w w' [slc 1 y.1 (ints (((cand i x).take j).filter (inN l.length))), slc 1 s2 (ints (cand i x))])
        (fun y _ => ((s2.n : Int) - y.2).toNat) ⟨0, rfl, by omega, by simp, by simpa [ints] using h.nilS 1⟩ ?_
      rintro ⟨t, jj⟩ w21 ⟨j, rfl, hj, hnt, h⟩ C hC
      simp only at hnt h
      refine iteB_i (fun hb => ?_) fun hb => ?_
      · have hlt : j < (cand i x).length := by
          have := of_decide_eq_true hb
          simp only at this; omega
        have hfl := List.length_filter_le (inN l.length) ((cand i x).take j)
        rw [List.length_take] at hfl
        have hgd : (cand i x).getD ((j : Int)).toNat 0 = (cand i x)[j] := by simp [hlt]
        have hw1 : IntKind.wrap .i64 ((j : Int) + 1) = ((j + 1 : Nat) : Int) := by rw [wrap_id ⟨by omega, by omega⟩]; simp
        have htk : ((cand i x).take (j + 1)).filter (inN l.length) = ((cand i x).take j).filter (inN l.length) ++ (if inN l.length (cand i x)[j] then [(cand i x)[j]] else []) := by
          rw [List.take_succ_eq_append_getElem hlt, List.filter_append]
          congr 1
          cases hh : inN l.length (cand i x)[j] <;> simp [List.filter_cons, hh]
        refine joinP_i (fun b w' => b = inN l.length (cand i x)[j] ∧ w' = w21) (fun J hJ => ?_) ?_
        · refine ixI_h (s := s2) (xs := cand i x) h (by simp) (by simp; omega) ?_
          rw [hgd]
          refine iteB_i (fun hb2 => ?_) fun hb2 => ?_
          · refine ixI_h (s := s2) (xs := cand i x) h (by simp) (by simp; omega) ?_
            rw [hgd]
            refine hJ _ _ ⟨?_, rfl⟩
            have := of_decide_eq_true hb2
            unfold inN; rw [hsn, decide_eq_decide]; exact ⟨fun h => ⟨this, h⟩, fun h => h.2⟩
          · have := of_decide_eq_false hb2
            exact hJ _ _ ⟨(decide_eq_false fun h => this h.1).symm, rfl⟩
        rintro b w28 ⟨rfl, rfl⟩
        refine iteB_i (fun hb2 => ?_) fun hb2 => ?_
        · rw [hb2] at htk
          refine ixI_h (s := s2) (xs := cand i x) h (by simp) (by simp; omega) ?_
          rw [hgd]
          refine newC_h h fun g w32 h => ?_
          refine bApp_h (s := t) (vs := ints (((cand i x).take j).filter (inN l.length))) (x := ⟨some ⟨g, 0, none⟩, 1, 1⟩) (ys := [.int .i64 (cand i x)[j]]) h (elI (by kernel_rfl)) (by kernel_rfl) (blk_sls (n := 1) (l := [.int .i64 (cand i x)[j]]) h.blk rfl 1) (by simp [Value.oneCell']) (by simp only; omega) (by simp only; omega) fun s6 w9 h n6 => ?_
          simp only [hw1]
          refine hC _ _ ⟨j + 1, rfl, by omega, by rw [htk]; simp [n6, hnt], by rw [htk]; simpa [ints] using h.drop⟩ (by simp; omega)
        · rw [hb2] at htk
          simp only [hw1]
          refine hC _ _ ⟨j + 1, rfl, by omega, by rw [htk]; simpa using hnt, by rw [htk]; simpa using h⟩ (by simp; omega)
      · have : j = s2.n := by
          have := of_decide_eq_false hb
          simp only at this; omega
        subst this
        refine hc t w21 ?_
        rw [n2, List.take_length] at h
        exact h.rm 1 rfl
end Go.Proofs.YtgkfbagclkjilaaGreatDoor.Ck
namespace Go.Proofs.YtgkfbagclkjilaaGreatDoor.Ck
open Go Go.Ev Go.Proofs
def bitB (n h : Int) : Bool := andI .i64 (shrV .i64 n h) 1 == 1
theorem bit_s {w : World} {n h : Int} {k : Bool → World → Prop} (h0 : 0 ≤ h) (h1 : h < 64) (hc : k (bitB n h) w) : pelotonref04_bit n h w k := by
  have hw : IntKind.wrap .u64 h = h := by
    have e : ∀ m : Nat, m < 64 → IntKind.wrap .u64 (m : Int) = (m : Int) := by decide
    have := e h.toNat (by omega)
    rwa [Int.toNat_of_nonneg h0] at this
  unfold pelotonref04_bit
  rw [hw]
  exact ⟨h0, hc⟩
end Go.Proofs.YtgkfbagclkjilaaGreatDoor.Ck
namespace Go.Proofs.YtgkfbagclkjilaaGreatDoor.Ck
open Go Go.Ev Go.Proofs
structure Wy where
  out : List Bool
  todo : List Int
def Wy.see (W : Wy) (z : Int) : Wy := if W.out.getD z.toNat false then W else ⟨W.out.set z.toNat true, W.todo ++ [z]⟩
def Wy.sees (W : Wy) (zs : List Int) : Wy := zs.foldl Wy.see W
def forks (x : List Int) (h : Int) : Bool := (opI x == 8) && (x.getD 1 0 == h)
def Wy.step (l : List (List Int)) (h : Int) (W : Wy) : Wy := match W.todo.getLast? with
  | none => W
  | some i => if forks (l.getD i.toNat []) h then { W with todo := W.todo.dropLast } else Wy.sees { W with todo := W.todo.dropLast } (behind l.length i (l.getD i.toNat []))
structure Wy.OK (n : Nat) (W : Wy) : Prop where
  out : W.out.length = n
  todo : ∀ i ∈ W.todo, 0 ≤ i ∧ i < n
def Wy.mu (W : Wy) : Nat := 2 * cntF W.out + W.todo.length
theorem see_ok {n : Nat} {W : Wy} {z : Int} (h : W.OK n) (h0 : 0 ≤ z) (h1 : z < n) : (W.see z).OK n ∧ (W.see z).mu ≤ W.mu := by
  unfold Wy.see
  split
  · exact ⟨h, Nat.le_refl _⟩
  · rename_i hz
    have hi : z.toNat < W.out.length := by rw [h.out]; omega
    refine ⟨⟨by simp [h.out], fun y hy => ?_⟩, ?_⟩
    · rcases List.mem_append.1 hy with hy | hy
      · exact h.todo y hy
      · simp at hy; omega
    · have e := cntF_set hi
      have hz' : W.out.getD z.toNat false = false := by simpa using hz
      rw [hz'] at e
      simp only [Wy.mu, List.length_append, List.length_singleton]
      simp at e; omega
theorem sees_ok {n : Nat} : ∀ {zs : List Int} {W : Wy}, W.OK n → (∀ z ∈ zs, 0 ≤ z ∧ z < n) → (W.sees zs).OK n ∧ (W.sees zs).mu ≤ W.mu
  | [], W, h, _ => ⟨h, Nat.le_refl _⟩
  | z :: zs, W, h, hz => by
    have h1 := see_ok h (hz z (by simp)).1 (hz z (by simp)).2
    have h2 := sees_ok (zs := zs) h1.1 fun y hy => hz y (by simp [hy])
    exact ⟨h2.1, Nat.le_trans h2.2 h1.2⟩
theorem wstep_ok {l : List (List Int)} {h : Int} {W : Wy} (hn : l.length ≤ 4294967296) (hW : W.OK l.length) (ht : W.todo ≠ []) : (W.step l h).OK l.length ∧ (W.step l h).mu < W.mu := by
  have hlast : W.todo.getLast? = some (W.todo.getLast ht) := List.getLast?_eq_some_getLast ht
  unfold Wy.step
  rw [hlast]
  have hi := hW.todo (W.todo.getLast ht) (List.getLast_mem ht)
  have hpos : 0 < W.todo.length := List.length_pos_iff.2 ht
  have h' : Wy.OK l.length { W with todo := W.todo.dropLast } := ⟨hW.out, fun z hz => hW.todo z (List.dropLast_subset _ hz)⟩
  have hm : Wy.mu { W with todo := W.todo.dropLast } < W.mu := by simp only [Wy.mu, List.length_dropLast]; omega
  simp only
  split
  · exact ⟨h', hm⟩
  · have h2 := sees_ok h' (behind_in (x := l.getD (W.todo.getLast ht).toNat []) hn hi.1 hi.2)
    exact ⟨h2.1, Nat.lt_of_le_of_lt h2.2 hm⟩
end Go.Proofs.YtgkfbagclkjilaaGreatDoor.Ck
namespace Go.Proofs.YtgkfbagclkjilaaGreatDoor.Ck
open Go Go.Ev Go.Proofs
def W0 (n : Nat) : Wy := ⟨(List.replicate n false).set 0 true, [0]⟩
def Wy.steps (l : List (List Int)) (h : Int) : Nat → Wy → Wy
  | 0, W => W
  | m + 1, W => (Wy.steps l h m W).step l h
def Gone (l : List (List Int)) (h : Int) (W : Wy) : Prop := W.todo = [] ∧ (l = [] → W = ⟨[], []⟩) ∧ (l ≠ [] → ∃ m, W = Wy.steps l h m (W0 l.length))
theorem W0_ok {n : Nat} (h : 0 < n) : (W0 n).OK n := ⟨by simp [W0], fun i hi => by simp [W0] at hi; omega⟩
theorem sees_snoc (W : Wy) (ks : List Int) (z : Int) : W.sees (ks ++ [z]) = (W.sees ks).see z := by simp [Wy.sees]
theorem without_s {w : World} {s : Sl} {l : List (List Int)} {hh : Int} {k : Sl → World → Prop} (hr : Code5 w s l) (hn : l.length ≤ 1000)
    (hc : ∀ W s' w', Gone l hh W → St w w' [slc 1 s' (bls W.out)] → k s' w') : pelotonref04_without s hh w k := by
  have hsn := hr.len
  unfold pelotonref04_without pelotonref04_without_b
  refine mkSl_h (n := s.n) (.nil w) (elB (by kernel_rfl)) rfl (by omega) (by omega) fun s1 w2 h n1 => ?_
  have hb0 := bls_rep s.n
  simp only [hb0] at h
  refine iteB_i (fun h0' => ?_) fun h0' => ?_
  · have hz : s.n = 0 := by
      have : (s.n : Int) = 0 := by simpa using h0'
      omega
    have hl : l = [] := List.eq_nil_of_length_eq_zero (by omega)
    refine hc ⟨[], []⟩ s1 w2 ⟨rfl, fun _ => rfl, fun hne => (hne hl).elim⟩ ?_
    rw [hz] at h; exact h
  · have hz : s.n ≠ 0 := by
      have : ¬ (s.n : Int) = 0 := by simpa using h0'
      omega
    refine ixBlst_h (s := s1) (xs := List.replicate s.n false) h (by omega) (by simp; omega) fun w4 h => ?_
    refine newC_h h fun g5 w6 h => ?_
    have h := h.asS (sz := 1) (g := g5) (n := 1) (cs := [.int .i64 0]) rfl (by omega) (by simp [Value.oneCell'])
    refine loopP_ghost (G := Wy) (fun W t w' => W.OK l.length ∧ W.mu ≤ 1000000 ∧ (∃ m, W = Wy.steps l hh m (W0 l.length)) ∧ St w w' [slc 1 t (ints W.todo), slc 1 s1 (bls W.out)]) Wy.mu (g := W0 s.n) ⟨by rw [hsn]; exact W0_ok (by omega), ?_, ⟨0, by rw [hsn]; rfl⟩, by simpa [W0, ints] using h⟩ ?_
    · have := cntF_set (l := List.replicate s.n false) (i := 0) (by simp; omega)
      simp [W0, Wy.mu, cntF] at this ⊢; omega
    rintro W t w9 ⟨hW, hmu, ⟨m, hm⟩, h⟩ C hC
    have hnt : W.todo.length = t.n := by have := h.slen (sz := 1) (s := t) (vs := ints W.todo); simpa using this
    refine iteB_i (fun hb => ?_) fun hb => ?_
    · have hpos : 0 < t.n := by have := of_decide_eq_true hb; omega
      have ht : W.todo ≠ [] := by intro e; rw [e] at hnt; simp at hnt; omega
      have hlt : W.todo.length ≤ W.mu := by unfold Wy.mu; omega
      have hw1 : IntKind.wrap .i64 ((t.n : Int) - 1) = ((t.n - 1 : Nat) : Int) := by rw [wrap_id ⟨by omega, by omega⟩]; omega
      have hi := hW.todo (W.todo.getLast ht) (List.getLast_mem ht)
      have hlast : W.todo.getD (t.n - 1) 0 = W.todo.getLast ht := by
        rw [← hnt, List.getLast_eq_getElem, List.getD_eq_getElem?_getD, List.getElem?_eq_getElem (by omega)]; rfl
      simp only [hw1]
      refine ixI_h (s := t) (xs := W.todo) h (by omega) (by omega) ?_
      rw [Int.toNat_natCast, hlast]
      generalize hie : W.todo.getLast ht = i at hi hlast
      refine slS_h (s := t) (vs := ints W.todo) h (by omega) (by omega) (by omega) fun d hd h => ?_
      have e1 : ((ints W.todo).drop ((0 : Int).toNat * 1)).take (((t.n - 1 : Nat) : Int).toNat - (0 : Int).toNat) = ints W.todo.dropLast := by
        simp [ints, List.dropLast_eq_take, hnt]
      have e2 : ((((t.n - 1 : Nat) : Int).toNat - (0 : Int).toNat) * 1) = (((t.n - 1 : Nat) : Int).toNat - (0 : Int).toNat) := Nat.mul_one _
      rw [e2, e1] at h
      have hil : i.toNat < l.length := by omega
      have hx : l[i.toNat]? = some l[i.toNat] := List.getElem?_eq_getElem hil
      have hsplit : l = l.take i.toNat ++ l[i.toNat] :: l.drop (i.toNat + 1) := by rw [List.getElem_cons_drop, List.take_append_drop]
      generalize hxe : l[i.toNat] = x5 at hx hsplit
      have hgx : l.getD i.toNat [] = x5 := by simp [hx]
      refine joinP_i (fun b w' => b = forks x5 hh ∧ w' = w9) (fun J hJ => ?_) ?_
      · refine ixC (hr.ext h.ext) hsplit (by simp; omega) fun p h5 hp => ldI_i (hp 0 _ (ints_get (by omega))) ?_
        refine iteB_i (fun hb => ?_) fun hb => ?_
        · refine ixC (hr.ext h.ext) hsplit (by simp; omega) fun p h5 hp => ldI_i (hp 1 _ (ints_get (by omega))) ?_
          exact hJ _ _ ⟨by unfold forks; rw [show (opI x5 == 8) = true from hb]; rfl, rfl⟩
        · exact hJ _ _ ⟨by unfold forks; rw [show (opI x5 == 8) = false from hb]; rfl, rfl⟩
      rintro b w19 ⟨rfl, rfl⟩
      have hs2 := wstep_ok (h := hh) (l := l) (by omega) hW ht
      have hgl : W.todo.getLast? = some i := by rw [List.getLast?_eq_some_getLast ht, hie]
      have hm' : ∃ m, W.step l hh = Wy.steps l hh m (W0 l.length) := ⟨m + 1, by show W.step l hh = (Wy.steps l hh m _).step l hh; rw [← hm]⟩
      refine iteB_i (fun hb => ?_) fun hb => ?_
      · have hst : W.step l hh = { W with todo := W.todo.dropLast } := by unfold Wy.step; rw [hgl]; simp only [hgx, hb]; rfl
        exact hC (W.step l hh) _ _ ⟨hs2.1, by omega, hm', by rw [hst]; exact h⟩ hs2.2
      · have hst : W.step l hh = Wy.sees { W with todo := W.todo.dropLast } (behind l.length i x5) := by unfold Wy.step; rw [hgl]; simp only [hgx, hb]; rfl
        refine rbehind_s (hr.ext h.ext) hn hi.1 hx fun s20 w21 h2 => ?_
        have h := h.join h2
        have hin := behind_in (x := x5) (n := l.length) (i := i) (by omega) hi.1 (by omega)
        have n20 : (behind l.length i x5).length = s20.n := by have := h2.slen (sz := 1) (s := s20) (vs := ints (behind l.length i x5)); simpa using this
        have hW1 : Wy.OK l.length { W with todo := W.todo.dropLast } := ⟨hW.out, fun z hz => hW.todo z (List.dropLast_subset _ hz)⟩
        have hm1 : Wy.mu { W with todo := W.todo.dropLast } ≤ W.mu := by simp only [Wy.mu, List.length_dropLast]; omega
        have hb2 : (behind l.length i x5).length ≤ 2 := by unfold behind; split <;> split <;> simp
        generalize hbs : behind l.length i x5 = bs at h hin n20 hst hb2
        refine loopP_of (fun (x : Sl × Int) w' => ∃ j : Nat, x.2 = j ∧ j ≤ bs.length ∧ St w w' [slc 1 s20 (ints bs), slc 1 x.1 (ints (Wy.sees { W with todo := W.todo.dropLast } (bs.take j)).todo), slc 1 s1 (bls (Wy.sees { W with todo := W.todo.dropLast } (bs.take j)).out)])
          (fun x _ => ((bs.length : Int) - x.2).toNat) ⟨0, rfl, by omega, by simpa [Wy.sees] using h⟩ ?_
        rintro ⟨t', i'⟩ w24 ⟨j, hj, hjn, h⟩ C2 hC2
        dsimp only at hj h ⊢
        subst hj
        refine iteB_i (fun hb => ?_) fun hb => ?_
        · have hjl : j < bs.length := by have := of_decide_eq_true hb; omega
          have hw2 : IntKind.wrap .i64 ((j : Int) + 1) = ((j + 1 : Nat) : Int) := by rw [wrap_id ⟨by omega, by omega⟩]; simp
          have hz : bs.getD (j : Int).toNat 0 = bs[j] := by simp [hjl]
          have htk : bs.take (j + 1) = bs.take j ++ [bs[j]] := (List.take_concat_get hjl).symm ▸ by simp
          have hzin := hin bs[j] (List.getElem_mem hjl)
          have hso := sees_ok (zs := bs.take j) hW1 fun z hz => hin z (List.take_subset _ _ hz)
          generalize hW2 : Wy.sees { W with todo := W.todo.dropLast } (bs.take j) = W2 at h hso
          have hsee : Wy.sees { W with todo := W.todo.dropLast } (bs.take (j + 1)) = W2.see bs[j] := by rw [htk, sees_snoc, hW2]
          have hlt2 : W2.todo.length ≤ W2.mu := by unfold Wy.mu; omega
          have hnt2 : W2.todo.length = t'.n := by have := h.slen (sz := 1) (s := t') (vs := ints W2.todo); simpa using this
          have hmu2 := hso.2
          refine ixI_h (s := s20) (xs := bs) h (by omega) (by omega) ?_
          rw [hz]
          refine ixBl_h (s := s1) (xs := W2.out) h hzin.1 (by rw [hso.1.out]; omega) ?_
          refine iteB_i (fun hb2 => ?_) fun hb2 => ?_
          · have hb2' : W2.out.getD (bs[j]).toNat false = false := by simpa using hb2
            refine ixI_h (s := s20) (xs := bs) h (by omega) (by omega) ?_
            rw [hz]
            refine ixBlst_h (s := s1) (xs := W2.out) h hzin.1 (by rw [hso.1.out]; omega) fun w32 h => ?_
            refine ixI_h (s := s20) (xs := bs) h (by omega) (by omega) ?_
            rw [hz]
            refine newC_h h fun gn w36 h => ?_
            refine bApp_h (s := t') (vs := ints W2.todo) (x := ⟨some ⟨gn, 0, none⟩, 1, 1⟩) (ys := [.int .i64 bs[j]]) h (elI (by kernel_rfl)) (by kernel_rfl) (blk_sls (n := 1) (l := [.int .i64 bs[j]]) h.blk rfl 1) (by simp [Value.oneCell']) (by simp only; omega) (by simp only; omega) fun s37 w38 h n37 => ?_
            have h := h.drop
            rw [hw2]
            have e : W2.see bs[j] = ⟨W2.out.set (bs[j]).toNat true, W2.todo ++ [bs[j]]⟩ := by unfold Wy.see; rw [hb2']; rfl
            refine hC2 _ _ ⟨j + 1, rfl, hjl, ?_⟩ (by simp only; omega)
            rw [hsee, e]
            simpa [ints] using h
          · have hb2' : W2.out.getD (bs[j]).toNat false = true := by simpa using hb2
            rw [hw2]
            have e : W2.see bs[j] = W2 := by unfold Wy.see; rw [hb2']; rfl
            refine hC2 _ _ ⟨j + 1, rfl, hjl, ?_⟩ (by simp only; omega)
            rw [hsee, e]; exact h
        · have hjl : j = bs.length := by have := of_decide_eq_false hb; omega
          rw [hjl, List.take_length] at h
          rw [hst] at hs2 hm'
          exact hC _ _ _ ⟨hs2.1, by have := hs2.2; omega, hm', h.drop⟩ hs2.2
    · have hnil : W.todo = [] := by
        have := of_decide_eq_false hb
        exact List.eq_nil_of_length_eq_zero (by omega)
      refine hc W s1 w9 ⟨hnil, fun hl => ?_, fun _ => ⟨m, hm⟩⟩ (h.rm 0 rfl)
      rw [hl] at hsn; exact (hz hsn).elim
end Go.Proofs.YtgkfbagclkjilaaGreatDoor.Ck
namespace Go.Proofs.YtgkfbagclkjilaaGreatDoor.Ck
open Go Go.Ev Go.Proofs
inductive Way (l : List (List Int)) (h : Int) : Int → Prop
  | zero : Way l h 0
  | next {i z : Int} : Way l h i → forks (l.getD i.toNat []) h = false → z ∈ behind l.length i (l.getD i.toNat []) → Way l h z
theorem tb_and (x y : Int) {i : Nat} (h : i < 64) : tb (andI .i64 x y) i = (tb x i && tb y i) := by
  unfold tb; rw [andI_bv, bv_of_toInt]; simp
theorem tb_or (x y : Int) {i : Nat} (h : i < 64) : tb (orI .i64 x y) i = (tb x i || tb y i) := by
  unfold tb; rw [orI_bv, bv_of_toInt]; simp
theorem tb_shl {a : Int} {h : Nat} (h0 : 0 ≤ a) (h1 : a < 8) (hh : h < 8) : tb (shlV .i64 1 a) h = decide (a = (h : Int)) := by
  have key : ∀ a : Nat, a < 8 → ∀ h : Nat, h < 8 → tb (shlV .i64 1 (a : Int)) h = decide (a = h) := by decide
  have := key a.toNat (by omega) h hh
  rw [Int.toNat_of_nonneg h0] at this
  rw [this, decide_eq_decide]; omega
theorem tb255 {h : Nat} (hh : h < 8) : tb 255 h = true := by
  have key : ∀ h : Nat, h < 8 → tb 255 h = true := by decide
  exact key h hh
theorem tb_hv {x : List Int} {v : Int} {h : Nat} (hh : h < 8) : tb (hvOf x v) h = (tb v h || forks x h) := by
  unfold hvOf forks
  by_cases ho : opI x = 8
  · by_cases ha : 0 ≤ x.getD 1 0 ∧ x.getD 1 0 < 8
    · rw [if_pos ⟨ho, ha⟩, tb_or _ _ (by omega), tb_shl ha.1 ha.2 hh]
      congr 1
      have e8 : (opI x == 8) = true := by simpa using ho
      rw [e8, Bool.true_and]; rfl
    · rw [if_neg (fun q => ha q.2)]
      have : (x.getD 1 0 == (h : Int)) = false := by
        rw [beq_eq_false_iff_ne]; intro e; exact ha ⟨by omega, by omega⟩
      rw [this]; simp
  · rw [if_neg (fun q => ho q.1)]
    have : (opI x == 8) = false := by simpa using ho
    rw [this]; simp
def rs (f : Nat → Bool) : Nat → Int
  | 0 => 0
  | h + 1 => rs f h + if f h then 2 ^ h else 0
theorem rs_congr {f g : Nat → Bool} : ∀ {n : Nat}, (∀ h, h < n → f h = g h) → rs f n = rs g n
  | 0, _ => rfl
  | n + 1, hfg => by simp only [rs]; rw [rs_congr (n := n) fun h hh => hfg h (by omega), hfg n (by omega)]
theorem rs_tb {v : Int} (h0 : 0 ≤ v) (h1 : v ≤ 255) : rs (tb v) 8 = v := by
  have key : ∀ n : Fin 256, rs (tb ((n.val : Nat) : Int)) 8 = ((n.val : Nat) : Int) := by decide
  have := key ⟨v.toNat, by omega⟩
  simp only at this
  rwa [Int.toNat_of_nonneg h0] at this
theorem rs_bounds (f : Nat → Bool) : ∀ n : Nat, 0 ≤ rs f n ∧ rs f n < 2 ^ n
  | 0 => by simp [rs]
  | n + 1 => by
    have := rs_bounds f n
    simp only [rs]
    rw [Int.pow_succ]
    split <;> omega
theorem tb_rs {f : Nat → Bool} {h : Nat} (hh : h < 8) : tb (rs f 8) h = f h := by
  have key : ∀ a b c d e f g i : Bool, ∀ h : Nat, h < 8 → tb (rs (fun n => ([a, b, c, d, e, f, g, i].getD n false)) 8) h = ([a, b, c, d, e, f, g, i].getD h false) := by decide
  have := key (f 0) (f 1) (f 2) (f 3) (f 4) (f 5) (f 6) (f 7) h hh
  rw [show rs f 8 = rs (fun n => ([f 0, f 1, f 2, f 3, f 4, f 5, f 6, f 7].getD n false)) 8 from rs_congr fun h hh => by
    match h, hh with
    | 0, _ => rfl
    | 1, _ => rfl
    | 2, _ => rfl
    | 3, _ => rfl
    | 4, _ => rfl
    | 5, _ => rfl
    | 6, _ => rfl
    | 7, _ => rfl, this]
  match h, hh with
    | 0, _ => rfl
    | 1, _ => rfl
    | 2, _ => rfl
    | 3, _ => rfl
    | 4, _ => rfl
    | 5, _ => rfl
    | 6, _ => rfl
    | 7, _ => rfl
open Classical in
noncomputable def heldB (l : List (List Int)) (needs i : Int) (h : Nat) : Bool := tb needs h || !decide (Way l h i)
noncomputable def heldL (l : List (List Int)) (needs : Int) : List Int := (List.range l.length).map fun (i : Nat) => rs (heldB l needs (i : Int)) 8
theorem heldL_len (l : List (List Int)) (needs : Int) : (heldL l needs).length = l.length := by simp [heldL]
theorem heldL_get {l : List (List Int)} {needs : Int} {i : Nat} (h : i < l.length) : (heldL l needs).getD i 0 = rs (heldB l needs i) 8 := by
  simp [heldL, h]
theorem heldB_iff {l : List (List Int)} {needs i : Int} {h : Nat} : heldB l needs i h = true ↔ (tb needs h = true ∨ ¬ Way l h i) := by
  unfold heldB; simp
section
variable {n : Nat} {F : Fl} {z hv : Int}
theorem meet_mono (hF : F.OK n) (h0 : 0 ≤ z) (h1 : z < n) {j h : Nat} (hh : h < 8) :
    (F.come.getD j false = true → (F.meet z hv).come.getD j false = true) ∧ (tb (F.held.getD j 0) h = false → tb ((F.meet z hv).held.getD j 0) h = false) ∧ (∀ y ∈ F.todo, y ∈ (F.meet z hv).todo) := by
  unfold Fl.meet
  split
  · exact ⟨id, id, fun _ h => h⟩
  · have hz : z.toNat < F.held.length := by rw [hF.held]; omega
    have hzc : z.toNat < F.come.length := by rw [hF.come]; omega
    refine ⟨fun hc => ?_, fun hb => ?_, fun y hy => List.mem_append_left _ hy⟩
    · simp only [List.getD_eq_getElem?_getD, List.getElem?_set]
      split
      · simp [hzc]
      · simpa using hc
    · simp only [List.getD_eq_getElem?_getD, List.getElem?_set]
      split
      · rename_i e
        subst e
        simp only [hz, ↓reduceIte, Option.getD_some]
        unfold Fl.now; rw [tb_and _ _ (by omega), hb]; rfl
      · simpa using hb
theorem meet_same (hF : F.OK n) (h0 : 0 ≤ z) (h1 : z < n) {j : Nat} :
    ((F.meet z hv).held.getD j 0 = F.held.getD j 0 ∧ (F.meet z hv).come.getD j false = F.come.getD j false) ∨ (j : Int) ∈ (F.meet z hv).todo := by
  unfold Fl.meet
  split
  · exact .inl ⟨rfl, rfl⟩
  · by_cases e : z.toNat = j
    · right
      have : (j : Int) = z := by omega
      rw [this]; simp
    · left
      simp [List.getD_eq_getElem?_getD, List.getElem?_set, e]
theorem meet_post (hF : F.OK n) (h0 : 0 ≤ z) (h1 : z < n) {h : Nat} (hh : h < 8) :
    (F.meet z hv).come.getD z.toNat false = true ∧ (tb hv h = false → tb ((F.meet z hv).held.getD z.toNat 0) h = false) := by
  have hz : z.toNat < F.held.length := by rw [hF.held]; omega
  have hzc : z.toNat < F.come.length := by rw [hF.come]; omega
  unfold Fl.meet
  split
  · rename_i hs
    unfold Fl.stay at hs
    simp only [Bool.and_eq_true, beq_iff_eq] at hs
    refine ⟨hs.1, fun hb => ?_⟩
    rw [← hs.2]; unfold Fl.now; rw [tb_and _ _ (by omega), hb, Bool.and_false]
  · refine ⟨by simp [List.getD_eq_getElem?_getD, hzc], fun hb => ?_⟩
    simp only [List.getD_eq_getElem?_getD, List.getElem?_set, hz, ↓reduceIte, Option.getD_some]
    unfold Fl.now; rw [tb_and _ _ (by omega), hb, Bool.and_false]
theorem meet_sound (hF : F.OK n) (h0 : 0 ≤ z) (h1 : z < n) {j h : Nat} (hh : h < 8) (hb : tb ((F.meet z hv).held.getD j 0) h = false) : tb (F.held.getD j 0) h = false ∨ ((j : Int) = z ∧ tb hv h = false) := by
  have hz : z.toNat < F.held.length := by rw [hF.held]; omega
  unfold Fl.meet at hb
  split at hb
  · exact .inl hb
  · by_cases e : z.toNat = j
    · subst e
      simp only [List.getD_eq_getElem?_getD, List.getElem?_set, hz, ↓reduceIte, Option.getD_some] at hb
      unfold Fl.now at hb
      rw [tb_and _ _ (by omega)] at hb
      simp only [Bool.and_eq_false_iff] at hb
      rcases hb with hb | hb
      · exact .inl hb
      · exact .inr ⟨by omega, hb⟩
    · left
      simpa [List.getD_eq_getElem?_getD, List.getElem?_set, e] using hb
end
theorem meets_mono {n : Nat} {hv : Int} {j h : Nat} (hh : h < 8) : ∀ {zs : List Int} {F : Fl}, F.OK n → (∀ z ∈ zs, 0 ≤ z ∧ z < n) →
    (F.come.getD j false = true → (F.meets hv zs).come.getD j false = true) ∧ (tb (F.held.getD j 0) h = false → tb ((F.meets hv zs).held.getD j 0) h = false) ∧ (∀ y ∈ F.todo, y ∈ (F.meets hv zs).todo)
  | [], F, _, _ => ⟨id, id, fun _ h => h⟩
  | z :: zs, F, hF, hz => by
    have hz0 := hz z (by simp)
    have h1 := meet_mono (hv := hv) hF hz0.1 hz0.2 (j := j) hh
    have h2 := meets_mono (hv := hv) (j := j) hh (zs := zs) (meet_ok (hv := hv) hF hz0.1 hz0.2).1 fun y hy => hz y (by simp [hy])
    exact ⟨fun q => h2.1 (h1.1 q), fun q => h2.2.1 (h1.2.1 q), fun y hy => h2.2.2 y (h1.2.2 y hy)⟩
theorem meets_same {n : Nat} {hv : Int} {j : Nat} : ∀ {zs : List Int} {F : Fl}, F.OK n → (∀ z ∈ zs, 0 ≤ z ∧ z < n) →
    ((F.meets hv zs).held.getD j 0 = F.held.getD j 0 ∧ (F.meets hv zs).come.getD j false = F.come.getD j false) ∨ (j : Int) ∈ (F.meets hv zs).todo
  | [], F, _, _ => .inl ⟨rfl, rfl⟩
  | z :: zs, F, hF, hz => by
    have hz0 := hz z (by simp)
    have hok := (meet_ok (hv := hv) hF hz0.1 hz0.2).1
    have hzs : ∀ y ∈ zs, 0 ≤ y ∧ y < n := fun y hy => hz y (by simp [hy])
    rcases meet_same (hv := hv) hF hz0.1 hz0.2 (j := j) with h1 | h1
    · rcases meets_same (hv := hv) (j := j) (zs := zs) hok hzs with h2 | h2
      · exact .inl ⟨h2.1.trans h1.1, h2.2.trans h1.2⟩
      · exact .inr h2
    · exact .inr ((meets_mono (h := 0) (j := j) (by omega) (zs := zs) hok hzs).2.2 _ h1)
theorem meets_post {n : Nat} {hv : Int} {h : Nat} (hh : h < 8) : ∀ {zs : List Int} {F : Fl}, F.OK n → (∀ z ∈ zs, 0 ≤ z ∧ z < n) → ∀ z ∈ zs,
    (F.meets hv zs).come.getD z.toNat false = true ∧ (tb hv h = false → tb ((F.meets hv zs).held.getD z.toNat 0) h = false)
  | [], F, _, _ => fun z hz => by cases hz
  | z :: zs, F, hF, hz => by
    have hz0 := hz z (by simp)
    have hok := (meet_ok (hv := hv) hF hz0.1 hz0.2).1
    have hzs : ∀ y ∈ zs, 0 ≤ y ∧ y < n := fun y hy => hz y (by simp [hy])
    intro y hy
    rcases List.mem_cons.1 hy with rfl | hy
    · have h1 := meet_post (hv := hv) hF hz0.1 hz0.2 hh
      have h2 := meets_mono (hv := hv) (j := y.toNat) hh (zs := zs) hok hzs
      exact ⟨h2.1 h1.1, fun q => h2.2.1 (h1.2 q)⟩
    · exact meets_post (hv := hv) hh (zs := zs) hok hzs y hy
theorem meets_sound {n : Nat} {hv : Int} {j h : Nat} (hh : h < 8) : ∀ {zs : List Int} {F : Fl}, F.OK n → (∀ z ∈ zs, 0 ≤ z ∧ z < n) → tb ((F.meets hv zs).held.getD j 0) h = false →
    tb (F.held.getD j 0) h = false ∨ ((j : Int) ∈ zs ∧ tb hv h = false)
  | [], F, _, _ => fun h => .inl h
  | z :: zs, F, hF, hz => by
    have hz0 := hz z (by simp)
    have hok := (meet_ok (hv := hv) hF hz0.1 hz0.2).1
    have hzs : ∀ y ∈ zs, 0 ≤ y ∧ y < n := fun y hy => hz y (by simp [hy])
    intro hb
    rcases meets_sound (hv := hv) (j := j) hh (zs := zs) hok hzs hb with h1 | h1
    · rcases meet_sound (hv := hv) hF hz0.1 hz0.2 hh h1 with h2 | h2
      · exact .inl h2
      · exact .inr ⟨by simp [h2.1], h2.2⟩
    · exact .inr ⟨by simp [h1.1], h1.2⟩
structure FI (l : List (List Int)) (needs : Int) (F : Fl) : Prop where
  ok : F.OK l.length
  c0 : F.come.getD 0 false = true
  b0 : ∀ h : Nat, h < 8 → tb needs h = false → tb (F.held.getD 0 0) h = false
  sound : ∀ i h : Nat, i < l.length → h < 8 → tb (F.held.getD i 0) h = false → tb needs h = false ∧ Way l h i
  clos : ∀ i : Nat, i < l.length → F.come.getD i false = true → (i : Int) ∈ F.todo ∨ ∀ z ∈ behind l.length i (l.getD i []), F.come.getD z.toNat false = true ∧ ∀ h : Nat, h < 8 → tb (hvOf (l.getD i []) (F.held.getD i 0)) h = false → tb (F.held.getD z.toNat 0) h = false
theorem FI.start {l : List (List Int)} {needs : Int} (hl : 0 < l.length) : FI l needs ((Fl0 l.length).meet 0 (andI .i64 needs 255)) := by
  have h0 := Fl0_ok l.length
  have hok := (meet_ok (hv := andI .i64 needs 255) (i := 0) h0 (by omega) (by omega)).1
  have e : (Fl0 l.length).meet 0 (andI .i64 needs 255) = ⟨(List.replicate l.length 255).set 0 (andI .i64 255 (andI .i64 needs 255)), (List.replicate l.length false).set 0 true, [0]⟩ := by
    have hs : (Fl0 l.length).stay 0 (andI .i64 needs 255) = false := by simp [Fl.stay, Fl0, hl]
    unfold Fl.meet; rw [hs]
    simp [Fl0, Fl.now, hl]
  have hhe : ∀ i : Nat, i < l.length → ((Fl0 l.length).meet 0 (andI .i64 needs 255)).held.getD i 0 = if i = 0 then andI .i64 255 (andI .i64 needs 255) else 255 := by
    intro i hi
    rw [e]; simp only [List.getD_eq_getElem?_getD, List.getElem?_set]
    by_cases hz : i = 0
    · subst hz; simp [hl]
    · have : ¬ 0 = i := fun q => hz q.symm
      simp [hz, this, hi]
  refine ⟨hok, by rw [e]; simp [hl], fun h hh hb => ?_, fun i h hi hh hb => ?_, fun i hi hc => ?_⟩
  · rw [hhe 0 hl, if_pos rfl, tb_and _ _ (by omega), tb_and _ _ (by omega), hb]; simp
  · rw [hhe i hi] at hb
    split at hb
    · rename_i hz; subst hz
      rw [tb_and _ _ (by omega), tb_and _ _ (by omega), tb255 hh] at hb
      exact ⟨by simpa using hb, .zero⟩
    · rw [tb255 hh] at hb; cases hb
  · left
    rw [e] at hc ⊢
    simp only [List.getD_eq_getElem?_getD, List.getElem?_set] at hc
    by_cases hz : i = 0
    · subst hz; simp
    · have : ¬ 0 = i := fun q => hz q.symm
      simp [this, hi] at hc
theorem FI.step {l : List (List Int)} {needs : Int} {F : Fl} (hn : l.length ≤ 4294967296) (h : FI l needs F) : FI l needs (F.step l) := by
  unfold Fl.step
  cases ht : F.todo with
  | nil => exact h
  | cons i t =>
    have hi := h.ok.todo i (by rw [ht]; simp)
    have hok : Fl.OK l.length { F with todo := t } := ⟨h.ok.held, h.ok.come, h.ok.bits, fun z hz => h.ok.todo z (by rw [ht]; simp [hz])⟩
    have hzs := behind_in (x := l.getD i.toNat []) hn hi.1 hi.2
    have hin : i.toNat < l.length := by omega
    have hii : ((i.toNat : Nat) : Int) = i := Int.toNat_of_nonneg hi.1
    refine ⟨(meets_ok hok hzs).1, (meets_mono (h := 0) (by omega) hok hzs).1 h.c0, fun h' hh hb => (meets_mono hh hok hzs).2.1 (h.b0 h' hh hb), fun j h' hj hh hb => ?_, fun j hj hc => ?_⟩
    · rcases meets_sound hh hok hzs hb with h1 | ⟨hjz, h1⟩
      · exact h.sound j h' hj hh h1
      · rw [tb_hv hh] at h1
        simp only [Bool.or_eq_false_iff] at h1
        have := h.sound i.toNat h' hin hh h1.1
        rw [hii] at this
        exact ⟨this.1, this.2.next h1.2 hjz⟩
    · rcases meets_same (j := j) (hv := hvOf (l.getD i.toNat []) (F.held.getD i.toNat 0)) hok hzs with ⟨h1, h2⟩ | h1
      · rw [h2] at hc
        rw [h1]
        by_cases hji : j = i.toNat
        · subst hji
          right
          intro z hz
          rw [hii] at hz
          exact ⟨(meets_post (h := 0) (by omega) hok hzs z hz).1, fun h' hh hb => (meets_post hh hok hzs z hz).2 hb⟩
        · rcases h.clos j hj hc with h3 | h3
          · left
            rw [ht] at h3
            rcases List.mem_cons.1 h3 with h3 | h3
            · omega
            · exact (meets_mono (h := 0) (j := 0) (by omega) hok hzs).2.2 _ h3
          · right
            intro z hz
            exact ⟨(meets_mono (h := 0) (by omega) hok hzs).1 (h3 z hz).1, fun h' hh hb => (meets_mono hh hok hzs).2.1 ((h3 z hz).2 h' hh hb)⟩
      · exact .inl h1
theorem FI.steps {l : List (List Int)} {needs : Int} (hn : l.length ≤ 4294967296) {F : Fl} (h : FI l needs F) : ∀ m, FI l needs (Fl.steps l m F)
  | 0 => h
  | m + 1 => (FI.steps hn h m).step hn
theorem FI.way {l : List (List Int)} {needs : Int} {F : Fl} (hn : l.length ≤ 4294967296) (hl : 0 < l.length) (h : FI l needs F) (ht : F.todo = []) {h' : Nat} (hh : h' < 8) (hb : tb needs h' = false) {i : Int} (hw : Way l h' i) :
    (0 ≤ i ∧ i < l.length) ∧ F.come.getD i.toNat false = true ∧ tb (F.held.getD i.toNat 0) h' = false := by
  induction hw with
  | zero => exact ⟨⟨by omega, by omega⟩, h.c0, h.b0 h' hh hb⟩
  | @next i z hw hf hz ih =>
    obtain ⟨hi, hc, hbi⟩ := ih
    have hin : i.toNat < l.length := by omega
    have hii : ((i.toNat : Nat) : Int) = i := Int.toNat_of_nonneg hi.1
    have := behind_in (x := l.getD i.toNat []) hn hi.1 hi.2 z hz
    rcases h.clos i.toNat hin hc with h3 | h3
    · rw [ht] at h3; cases h3
    · rw [hii] at h3
      have h4 := h3 z hz
      refine ⟨this, h4.1, h4.2 h' hh ?_⟩
      rw [tb_hv hh, hbi, hf]; rfl
theorem held_law {l : List (List Int)} {needs : Int} {F : Fl} (hn : l.length ≤ 4294967296) (hR : Reached l needs F) : F.held = heldL l needs := by
  by_cases hl : l = []
  · subst hl
    rw [hR.2.1 rfl]; simp [Fl0, heldL]
  · obtain ⟨m, hm⟩ := hR.2.2 hl
    have hpos : 0 < l.length := List.length_pos_iff.2 hl
    have hI : FI l needs F := by rw [hm]; exact (FI.start hpos).steps hn m
    refine List.ext_getElem (by rw [hI.ok.held, heldL_len]) fun i h1 h2 => ?_
    have hi : i < l.length := by rw [hI.ok.held] at h1; exact h1
    have e1 : F.held[i] = F.held.getD i 0 := by simp [h1]
    have e2 : (heldL l needs)[i] = rs (heldB l needs i) 8 := by rw [← heldL_get hi]; simp [h2]
    have hbb := hI.ok.bits F.held[i] (List.getElem_mem h1)
    rw [e2, ← rs_tb hbb.1 hbb.2]
    refine rs_congr fun h hh => ?_
    rw [e1]
    cases hb : heldB l needs i h with
    | true =>
      cases hb2 : tb (F.held.getD i 0) h with
      | true => rfl
      | false =>
        have := hI.sound i h hi hh hb2
        rcases heldB_iff.1 hb with h3 | h3
        · rw [this.1] at h3; cases h3
        · exact (h3 this.2).elim
    | false =>
      have hn1 : ¬ (tb needs h = true ∨ ¬ Way l h i) := by rw [← heldB_iff, hb]; simp
      have hn2 : tb needs h = false := by
        cases q : tb needs h with
        | true => exact (hn1 (.inl q)).elim
        | false => rfl
      have hw : Way l h i := Classical.byContradiction fun q => hn1 (.inr q)
      have := (hI.way hn hpos hR.1 hh hn2 hw).2.2
      rwa [Int.toNat_natCast] at this
structure WI (l : List (List Int)) (h : Int) (W : Wy) : Prop where
  ok : W.OK l.length
  c0 : W.out.getD 0 false = true
  tout : ∀ y ∈ W.todo, W.out.getD y.toNat false = true
  sound : ∀ i : Nat, i < l.length → W.out.getD i false = true → Way l h i
  clos : ∀ i : Nat, i < l.length → W.out.getD i false = true → (i : Int) ∈ W.todo ∨ forks (l.getD i []) h = true ∨ ∀ z ∈ behind l.length i (l.getD i []), W.out.getD z.toNat false = true
theorem see_all {n : Nat} {W : Wy} {z : Int} (hW : W.OK n) (h0 : 0 ≤ z) (h1 : z < n) (j : Nat) :
    (W.out.getD j false = true → (W.see z).out.getD j false = true) ∧ (∀ y ∈ W.todo, y ∈ (W.see z).todo) ∧ ((W.see z).out.getD j false = true → W.out.getD j false = true ∨ ((j : Int) = z ∧ (j : Int) ∈ (W.see z).todo)) ∧ (W.see z).out.getD z.toNat false = true := by
  have hz : z.toNat < W.out.length := by rw [hW.out]; omega
  unfold Wy.see
  split
  · rename_i hs; exact ⟨id, fun _ h => h, fun h => .inl h, hs⟩
  · refine ⟨fun h => ?_, fun y hy => List.mem_append_left _ hy, fun h => ?_, by simp [hz]⟩
    · simp only [List.getD_eq_getElem?_getD, List.getElem?_set]
      split
      · simp [hz]
      · simpa using h
    · by_cases e : z.toNat = j
      · right
        have : (j : Int) = z := by omega
        exact ⟨this, by rw [this]; simp⟩
      · left
        simpa [List.getD_eq_getElem?_getD, List.getElem?_set, e] using h
theorem sees_all {n : Nat} (j : Nat) : ∀ {zs : List Int} {W : Wy}, W.OK n → (∀ z ∈ zs, 0 ≤ z ∧ z < n) →
    (W.out.getD j false = true → (W.sees zs).out.getD j false = true) ∧ (∀ y ∈ W.todo, y ∈ (W.sees zs).todo) ∧ ((W.sees zs).out.getD j false = true → W.out.getD j false = true ∨ ((j : Int) ∈ zs ∧ (j : Int) ∈ (W.sees zs).todo)) ∧ (∀ z ∈ zs, (W.sees zs).out.getD z.toNat false = true)
  | [], W, _, _ => ⟨id, fun _ h => h, fun h => .inl h, fun z hz => by cases hz⟩
  | z :: zs, W, hW, hz => by
    have hz0 := hz z (by simp)
    have hok := (see_ok hW hz0.1 hz0.2).1
    have hzs : ∀ y ∈ zs, 0 ≤ y ∧ y < n := fun y hy => hz y (by simp [hy])
    have h1 := see_all hW hz0.1 hz0.2 j
    have h2 := sees_all j (zs := zs) hok hzs
    refine ⟨fun q => h2.1 (h1.1 q), fun y hy => h2.2.1 y (h1.2.1 y hy), fun q => ?_, fun y hy => ?_⟩
    · rcases h2.2.2.1 q with q | q
      · rcases h1.2.2.1 q with q | q
        · exact .inl q
        · exact .inr ⟨by rw [q.1]; simp, h2.2.1 _ q.2⟩
      · exact .inr ⟨by simp [q.1], q.2⟩
    · rcases List.mem_cons.1 hy with rfl | hy
      · exact (sees_all y.toNat (zs := zs) hok hzs).1 h1.2.2.2
      · exact h2.2.2.2 y hy
theorem sees_todo : ∀ {zs : List Int} {W : Wy}, ∀ y ∈ (W.sees zs).todo, y ∈ W.todo ∨ y ∈ zs
  | [], W, y, hy => .inl hy
  | z :: zs, W, y, hy => by
    rcases sees_todo (zs := zs) (W := W.see z) y hy with h | h
    · unfold Wy.see at h
      split at h
      · exact .inl h
      · rcases List.mem_append.1 h with h | h
        · exact .inl h
        · simp at h; exact .inr (by simp [h])
    · exact .inr (by simp [h])
theorem WI.start {l : List (List Int)} {h : Int} (hl : 0 < l.length) : WI l h (W0 l.length) := by
  refine ⟨W0_ok hl, by simp [W0, hl], fun y hy => by simp [W0] at hy; subst hy; simp [W0, hl], fun i hi hb => ?_, fun i hi hb => .inl ?_⟩
  · by_cases hz : i = 0
    · subst hz; exact .zero
    · have : ¬ 0 = i := fun q => hz q.symm
      simp [W0, List.getD_eq_getElem?_getD, List.getElem?_set, this, hi] at hb
  · by_cases hz : i = 0
    · subst hz; simp [W0]
    · have : ¬ 0 = i := fun q => hz q.symm
      simp [W0, List.getD_eq_getElem?_getD, List.getElem?_set, this, hi] at hb
theorem WI.step {l : List (List Int)} {h : Int} {W : Wy} (hn : l.length ≤ 4294967296) (hW : WI l h W) : WI l h (W.step l h) := by
  unfold Wy.step
  cases hg : W.todo.getLast? with
  | none => exact hW
  | some i =>
    have ht : W.todo ≠ [] := by intro e; rw [e] at hg; cases hg
    have hgl : W.todo.getLast ht = i := by rw [List.getLast?_eq_some_getLast ht] at hg; simpa using hg
    have hi := hW.ok.todo i (hgl ▸ List.getLast_mem ht)
    have hsplit : ∀ y ∈ W.todo, y = i ∨ y ∈ W.todo.dropLast := by
      intro y hy
      rw [← List.dropLast_concat_getLast ht, hgl] at hy
      rcases List.mem_append.1 hy with hy | hy
      · exact .inr hy
      · exact .inl (by simpa using hy)
    have hok : Wy.OK l.length { W with todo := W.todo.dropLast } := ⟨hW.ok.out, fun z hz => hW.ok.todo z (List.dropLast_subset _ hz)⟩
    have hin : i.toNat < l.length := by omega
    have hii : ((i.toNat : Nat) : Int) = i := Int.toNat_of_nonneg hi.1
    simp only
    split
    · rename_i hf
      refine ⟨hok, hW.c0, fun y hy => hW.tout y (List.dropLast_subset _ hy), hW.sound, fun j hj hc => ?_⟩
      rcases hW.clos j hj hc with h1 | h1
      · rcases hsplit _ h1 with h2 | h2
        · right; left
          have : j = i.toNat := by omega
          rw [this]; exact hf
        · exact .inl h2
      · exact .inr h1
    · rename_i hf
      have hzs := behind_in (x := l.getD i.toNat []) hn hi.1 hi.2
      have hf' : forks (l.getD i.toNat []) h = false := by simpa using hf
      have hout := hW.tout i (hgl ▸ List.getLast_mem ht)
      have hwi : Way l h i := by have := hW.sound i.toNat hin hout; rwa [hii] at this
      refine ⟨(sees_ok hok hzs).1, (sees_all 0 hok hzs).1 hW.c0, fun y hy => ?_, fun j hj hb => ?_, fun j hj hc => ?_⟩
      · rcases sees_todo y hy with hy | hy
        · exact (sees_all _ hok hzs).1 (hW.tout y (List.dropLast_subset _ hy))
        · exact (sees_all 0 hok hzs).2.2.2 y hy
      · rcases (sees_all j hok hzs).2.2.1 hb with h1 | h1
        · exact hW.sound j hj h1
        · exact hwi.next hf' h1.1
      · rcases (sees_all j hok hzs).2.2.1 hc with h1 | h1
        · rcases hW.clos j hj h1 with h2 | h2 | h2
          · rcases hsplit _ h2 with h3 | h3
            · right; right
              have : j = i.toNat := by omega
              rw [this, hii]
              exact (sees_all j hok hzs).2.2.2
            · exact .inl ((sees_all j hok hzs).2.1 _ h3)
          · exact .inr (.inl h2)
          · exact .inr (.inr fun z hz => (sees_all z.toNat hok hzs).1 (h2 z hz))
        · exact .inl h1.2
theorem WI.steps {l : List (List Int)} {h : Int} (hn : l.length ≤ 4294967296) {W : Wy} (hW : WI l h W) : ∀ m, WI l h (Wy.steps l h m W)
  | 0 => hW
  | m + 1 => (WI.steps hn hW m).step hn
theorem gone_law {l : List (List Int)} {h : Int} {W : Wy} (hn : l.length ≤ 4294967296) (hG : Gone l h W) : W.out.length = l.length ∧ ∀ i : Nat, i < l.length → (W.out.getD i false = true ↔ Way l h i) := by
  by_cases hl : l = []
  · subst hl
    rw [hG.2.1 rfl]
    exact ⟨rfl, fun i hi => by cases hi⟩
  · obtain ⟨m, hm⟩ := hG.2.2 hl
    have hpos : 0 < l.length := List.length_pos_iff.2 hl
    have hI : WI l h W := by rw [hm]; exact (WI.start hpos).steps hn m
    refine ⟨hI.ok.out, fun i hi => ⟨hI.sound i hi, fun hw => ?_⟩⟩
    have key : ∀ j : Int, Way l h j → (0 ≤ j ∧ j < l.length) ∧ W.out.getD j.toNat false = true := by
      intro j hw
      induction hw with
      | zero => exact ⟨⟨by omega, by omega⟩, hI.c0⟩
      | @next i z hw hf hz ih =>
        obtain ⟨hi, hc⟩ := ih
        have hii : ((i.toNat : Nat) : Int) = i := Int.toNat_of_nonneg hi.1
        refine ⟨behind_in (x := l.getD i.toNat []) hn hi.1 hi.2 z hz, ?_⟩
        rcases hI.clos i.toNat (by omega) hc with h3 | h3 | h3
        · rw [hG.1] at h3; cases h3
        · rw [hf] at h3; cases h3
        · rw [hii] at h3; exact h3 z hz
    have := (key i hw).2
    rwa [Int.toNat_natCast] at this
end Go.Proofs.YtgkfbagclkjilaaGreatDoor.Ck
namespace Go.Proofs.YtgkfbagclkjilaaGreatDoor.Ck
open Go Go.Ev Go.Proofs
theorem heldL_s {w : World} {s : Sl} {needs : Int} {l : List (List Int)} {k : Sl → World → Prop} (hr : Code5 w s l) (hn : l.length ≤ 1000)
    (hc : ∀ s' w', St w w' [slc 1 s' (ints (heldL l needs))] → s'.n = l.length → k s' w') : check_Held #[.int .i64 needs, .slice s.a s.n s.c] w k := by
  have hsn := hr.len
  refine held_s hr (by omega) fun F s' w' hR h => ?_
  rw [held_law (by omega) hR] at h
  have hl : (heldL l needs).length = s'.n := by have := h.slen (sz := 1) (s := s') (vs := ints (heldL l needs)); simpa using this
  exact hc s' w' h (by rw [← hl, heldL_len])
noncomputable def rowH (l : List (List Int)) (needs : Int) (h j : Nat) : List Int := (List.range l.length).map fun (i : Nat) => rs (heldB l needs (i : Int)) (if i < j then h + 1 else h)
theorem rowH_len {l : List (List Int)} {needs : Int} {h j : Nat} : (rowH l needs h j).length = l.length := by simp [rowH]
theorem rowH_set {l : List (List Int)} {needs : Int} {h j : Nat} (hj : j < l.length) : (rowH l needs h j).set j (rs (heldB l needs j) (h + 1)) = rowH l needs h (j + 1) := by
  refine List.ext_getElem (by simp [rowH]) fun i h1 h2 => ?_
  rw [List.getElem_set]
  split
  · rename_i e; subst e; simp [rowH]
  · rename_i e
    have : (i < j + 1) ↔ (i < j) := by omega
    simp [rowH, this]
theorem rowH_get {l : List (List Int)} {needs : Int} {h j : Nat} (hj : j < l.length) : (rowH l needs h j).getD j 0 = rs (heldB l needs j) h := by
  simp [rowH, hj]
theorem rowH_end {l : List (List Int)} {needs : Int} {h : Nat} : rowH l needs h l.length = rowH l needs (h + 1) 0 := by
  refine List.ext_getElem (by simp [rowH]) fun i h1 h2 => ?_
  have : i < l.length := by simpa [rowH] using h1
  simp [rowH, this]
theorem rowH_zero {l : List (List Int)} {needs : Int} : rowH l needs 0 0 = List.replicate l.length 0 := by
  refine List.ext_getElem (by simp [rowH]) fun i h1 h2 => by simp [rowH, rs]
theorem rowH_eight {l : List (List Int)} {needs : Int} : rowH l needs 8 0 = heldL l needs := by
  refine List.ext_getElem (by simp [rowH, heldL]) fun i h1 h2 => by simp [rowH, heldL]
theorem rheld_s {w : World} {s : Sl} {needs : Int} {l : List (List Int)} {k : Sl → World → Prop} (hr : Code5 w s l) (hN : InI needs) (hn : l.length ≤ 1000)
    (hc : ∀ s' w', St w w' [slc 1 s' (ints (heldL l needs))] → s'.n = l.length → k s' w') : pelotonref04_Held #[.int .i64 needs, .slice s.a s.n s.c] w k := by
  have hsn := hr.len
  unfold pelotonref04_Held pelotonref04_Held_b
  refine newC_h (.nil w) fun ga w2 h => ldS_h (g := ga) (o := 1) h rfl ?_
  refine mkSl_h (n := s.n) h (elI (by kernel_rfl)) rfl (by omega) (by omega) fun s4 w5 h n4 => ?_
  have e0 : List.replicate s.n (Value.int .i64 0) = ints (rowH l needs 0 0) := by rw [rowH_zero, hsn]; simp [ints]
  simp only [e0] at h
  refine loopP_of (fun (i : Int) w' => ∃ h' : Nat, i = h' ∧ h' ≤ 8 ∧ St w w' [slc 1 s4 (ints (rowH l needs h' 0)), blk ga [.int .i64 needs, .slice s.a s.n s.c]]) (fun i _ => (8 - i).toNat) ⟨0, rfl, by omega, by simpa using h⟩ ?_
  rintro i w8 ⟨hh, rfl, hh8, h⟩ C hC
  refine iteB_i (fun hb => ?_) fun hb => ?_
  · have hlt : hh < 8 := by have := of_decide_eq_true hb; omega
    refine ldS_h (g := ga) (o := 1) h rfl ?_
    refine without_s (hh := (hh : Int)) (hr.ext h.ext) hn fun W s10 w11 hG h2 => ?_
    have hgl := gone_law (by omega) hG
    have h := h.join h2
    have n10 : W.out.length = s10.n := by have := h2.slen (sz := 1) (s := s10) (vs := bls W.out); simpa [bls] using this
    refine loopP_of (fun (i : Int) w' => ∃ j : Nat, i = j ∧ j ≤ l.length ∧ St w w' [slc 1 s10 (bls W.out), slc 1 s4 (ints (rowH l needs hh j)), blk ga [.int .i64 needs, .slice s.a s.n s.c]]) (fun i _ => ((l.length : Int) - i).toNat) ⟨0, rfl, by omega, h⟩ ?_
    rintro i w14 ⟨j, rfl, hj, h⟩ C2 hC2
    have hlen10 : s10.n = l.length := by rw [← n10, hgl.1]
    refine iteB_i (fun hb2 => ?_) fun hb2 => ?_
    · have hjl : j < l.length := by have := of_decide_eq_true hb2; omega
      have hw2 : IntKind.wrap .i64 ((j : Int) + 1) = ((j + 1 : Nat) : Int) := by rw [wrap_id ⟨by omega, by omega⟩]; simp
      refine joinP_i (fun b w' => b = heldB l needs j hh ∧ w' = w14) (fun J hJ => ?_) ?_
      · refine ldI_h (g := ga) (o := 0) h rfl ?_
        refine bit_s (by omega) (by omega) ?_
        have e1 : bitB needs (hh : Int) = tb needs hh := by unfold bitB; rw [and1 hN (by omega) (by omega), Int.toNat_natCast]
        refine iteB_i (fun hb3 => ?_) fun hb3 => ?_
        · exact hJ _ _ ⟨by rw [e1] at hb3; unfold heldB; rw [hb3]; rfl, rfl⟩
        · refine ixBl_h (s := s10) (xs := W.out) h (by omega) (by omega) ?_
          refine hJ _ _ ⟨?_, rfl⟩
          rw [e1] at hb3
          unfold heldB; rw [hb3, Int.toNat_natCast, Bool.false_or]
          have := hgl.2 j hjl
          cases q : W.out.getD j false with
          | true => have := this.1 q; simp [this]
          | false => have : ¬ Way l hh j := fun hw => by rw [this.2 hw] at q; cases q
                     simp [this]
      rintro b w22 ⟨rfl, rfl⟩
      have hset := rowH_set (l := l) (needs := needs) (h := hh) (j := j) hjl
      have hget := rowH_get (l := l) (needs := needs) (h := hh) (j := j) hjl
      refine iteB_i (fun hb3 => ?_) fun hb3 => ?_
      · refine ixI_h (s := s4) (xs := rowH l needs hh j) h (by omega) (by rw [rowH_len]; omega) ?_
        have hwu : IntKind.wrap .u64 (hh : Int) = (hh : Int) := by
          have e : ∀ m : Nat, m < 8 → IntKind.wrap .u64 (m : Int) = (m : Int) := by decide
          exact e hh hlt
        rw [hwu, Int.toNat_natCast, hget]
        refine ⟨by omega, ?_⟩
        have hsh : shlV .i64 1 (hh : Int) = 2 ^ hh := by
          have e : ∀ m : Nat, m < 8 → shlV .i64 1 (m : Int) = 2 ^ m := by decide
          exact e hh hlt
        rw [hsh]
        have hbd := rs_bounds (heldB l needs j) hh
        have hbd2 := rs_bounds (heldB l needs j) (hh + 1)
        have hp : (2 : Int) ^ (hh + 1) ≤ 256 := by
          have e : ∀ m : Nat, m < 8 → (2 : Int) ^ (m + 1) ≤ 256 := by decide
          exact e hh hlt
        have e3 : rs (heldB l needs j) (hh + 1) = rs (heldB l needs j) hh + 2 ^ hh := by simp only [rs]; rw [if_pos hb3]
        have hw3 : IntKind.wrap .i64 (rs (heldB l needs j) hh + 2 ^ hh) = rs (heldB l needs j) (hh + 1) := by rw [← e3, wrap_id ⟨by omega, by omega⟩]
        dsimp only
        rw [hw3]
        refine ixIst_h (s := s4) (xs := rowH l needs hh j) h (by omega) (by rw [rowH_len]; omega) fun w27 h => ?_
        rw [hw2]
        rw [Int.toNat_natCast, hset] at h
        exact hC2 _ _ ⟨j + 1, rfl, hjl, h⟩ (by omega)
      · rw [hw2]
        have e3 : rs (heldB l needs j) (hh + 1) = rs (heldB l needs j) hh := by simp only [rs]; rw [hb3]; simp
        have e4 : rowH l needs hh j = rowH l needs hh (j + 1) := by
          rw [← hset, e3, ← hget]
          refine (List.set_getElem_self (i := j) (by rw [rowH_len]; exact hjl)).symm.trans ?_
          simp [rowH_len, hjl]
        rw [e4] at h
        exact hC2 _ _ ⟨j + 1, rfl, hjl, h⟩ (by omega)
    · have hjl : j = l.length := by have := of_decide_eq_false hb2; omega
      have hw2 : IntKind.wrap .i64 ((hh : Int) + 1) = ((hh + 1 : Nat) : Int) := by rw [wrap_id ⟨by omega, by omega⟩]; simp
      rw [hjl, rowH_end] at h
      rw [hw2]
      exact hC _ _ ⟨hh + 1, rfl, hlt, h.drop⟩ (by omega)
  · have hh : hh = 8 := by have := of_decide_eq_false hb; omega
    subst hh
    rw [rowH_eight] at h
    exact hc s4 w8 (h.rm 1 rfl) (by rw [n4, hsn])
end Go.Proofs.YtgkfbagclkjilaaGreatDoor.Ck
namespace Go.Proofs.YtgkfbagclkjilaaGreatDoor.Ck
open Go Go.Ev Go.Proofs
def kflat : List Int := [1, 0, 0, 5,  1, 1, 0, 0,  1, 1, 1, 0,  1, 1, 1, 0,  1, 1, 1, 0,  1, 1, 1, 0,  0, 0, 0, 2,  1, 0, 0, 2,  1, 0, 0, 3,  1, 1, 0, 0,  1, 1, 1, 0,  0, 0, 0, 4,  1, 0, 0, 0,  0, 0, 0, 0,  0, 0, 0, 0,  1, 0, 0, 0,  1, 0, 0, 0]
def kinds (op : Int) : List Int := (kflat.drop (op.toNat * 4)).take 4
theorem one_agI (l : List Int) : ∀ v ∈ agI l, v.oneCell' = true := by
  intro v hv
  exact one_ints v (by simpa [agI] using hv)
theorem operands_s {w : World} {op : Int} {k : Array Value → World → Prop} (h0 : 0 ≤ op) (h1 : op < 17) (hc : ∀ w', St w w' [] → k (agI (kinds op)) w') : code_operands op w k := by
  unfold code_operands
  refine newC_h (.nil w) fun g1 w2 h => ?_
  iterate 16 refine ⟨rfl, ?_⟩
  refine spl_i (agI kflat) rfl (by kernel_rfl) ?_
  refine newC_h h fun g2 w21 h => ?_
  refine stW_h (g := g2) h rfl (by kernel_rfl) (one_agI _) fun w22 h => ?_
  refine ixP_i h0 (by omega) ?_
  refine ldA_h (g := g2) h (by simp [ints, kflat]; omega) ?_
  have e : (List.take 4 (List.drop (0 + op.toNat * 4) (agI kflat).toList)) = ints (kinds op) := by
    simp [kinds, ints, agI, List.map_take, List.map_drop]
  rw [e]
  have hl : (kinds op).length = 4 := by simp [kinds, kflat]; omega
  refine stW_h (g := g1) h rfl (by simp [ints, hl]) (one_agI _) fun w25 h => ?_
  refine ldW_h (g := g1) h (by simp [ints, hl]) ?_
  exact hc _ h.all
def spanOf (kd : Int) : Int × Int := cond (kd == 1) (0, 7) (cond (kd == 2) (0, 127) (cond (kd == 3) (0, 31) (cond (kd == 4) (0, 65535) (cond (kd == 5) (-2147483648, 2147483647) (0, 0)))))
theorem span_s {w : World} {kd : Int} {k : Int × Int → World → Prop} (hc : k (spanOf kd) w) : code_span kd w k := by
  unfold code_span
  unfold spanOf at hc
  revert hc
  cases (kd == 1) <;> cases (kd == 2) <;> cases (kd == 3) <;> cases (kd == 4) <;> cases (kd == 5) <;> exact id
def fit (x ks : List Int) (j : Nat) : Bool := !(decide (x.getD (j + 1) 0 < (spanOf (ks.getD j 0)).1) || decide (x.getD (j + 1) 0 > (spanOf (ks.getD j 0)).2))
def fits (x ks : List Int) : Bool := (List.range 4).all (fit x ks)
def chk (x : List Int) : Int := if opI x < 0 ∨ 17 ≤ opI x then 13 else if fits x (kinds (opI x)) then 0 else 10
theorem fits_all {x ks : List Int} (h : ∀ j, j < 4 → fit x ks j = true) : fits x ks = true := by
  unfold fits; rw [List.all_eq_true]; intro j hj; exact h j (by simpa using hj)
theorem fits_not {x ks : List Int} {j : Nat} (hj : j < 4) (h : fit x ks j = false) : fits x ks = false := by
  unfold fits; rw [List.all_eq_false]; exact ⟨j, by simpa using hj, by simp [h]⟩
theorem ccheck_s {w : World} {x : List Int} {k : Int → World → Prop} (h5 : x.length = 5) (hc : ∀ w', St w w' [] → k (chk x) w') : code_Check (agI x) w k := by
  obtain ⟨o, a, b, c, n, rfl⟩ : ∃ o a b c n, x = [o, a, b, c, n] := by
    match x, h5 with
    | [o, a, b, c, n], _ => exact ⟨o, a, b, c, n, rfl⟩
  unfold code_Check code_Check_b
  refine newC_h (.nil w) fun g1 w2 h => ?_
  refine joinP_i (fun b w' => b = decide (o < 0 ∨ 17 ≤ o) ∧ w' = w2) (fun J hJ => ?_) ?_
  · refine ldI_h (g := g1) (o := 0) h rfl (iteB_i (fun hb => ?_) fun hb => ?_)
    · have := of_decide_eq_true hb
      exact hJ _ _ ⟨(decide_eq_true (.inl this)).symm, rfl⟩
    · have := of_decide_eq_false hb
      refine ldI_h (g := g1) (o := 0) h rfl (hJ _ _ ⟨?_, rfl⟩)
      rw [decide_eq_decide]; omega
  rintro b1 w7 ⟨rfl, rfl⟩
  refine iteB_i (fun hb => ?_) fun hb => ?_
  · have := of_decide_eq_true hb
    have e : chk [o, a, b, c, n] = 13 := if_pos this
    have := hc w7 h.all
    rwa [e] at this
  · have hno := of_decide_eq_false hb
    have e : chk [o, a, b, c, n] = if fits [o, a, b, c, n] (kinds o) then 0 else 10 := if_neg hno
    rw [e] at hc
    have hl : (kinds o).length = 4 := by simp [kinds, kflat]; omega
    refine ldI_h (g := g1) (o := 0) h rfl ?_
    refine operands_s (by omega) (by omega) fun w10 h2 => ?_
    have h := h.on h2.ext
    refine newC_h h fun g2 w12 h => ?_
    refine stW_h (g := g2) h rfl (by simp [ints, hl]) (one_agI _) fun w13 h => ?_
    refine ldI_h (g := g1) (o := 1) h rfl (ldI_h (g := g1) (o := 2) h rfl (ldI_h (g := g1) (o := 3) h rfl (ldI_h (g := g1) (o := 4) h rfl ?_)))
    refine loopP_of (fun (y : Int × Int) w' => ∃ j : Nat, y = (0, (j : Int)) ∧ j ≤ 4 ∧ (∀ i, i < j → fit [o, a, b, c, n] (kinds o) i = true) ∧ w' = w13) (fun y _ => (4 - y.2).toNat) ⟨0, rfl, by omega, fun i hi => by omega, rfl⟩ ?_
    rintro _ _ ⟨j, rfl, hj4, hfit, rfl⟩ C hC
    refine iteB_i (fun hb => ?_) fun hb => ?_
    · have hj : j < 4 := by have := of_decide_eq_true hb; dsimp only at this; omega
      have hw2 : IntKind.wrap .i64 ((j : Int) + 1) = ((j + 1 : Nat) : Int) := by rw [wrap_id ⟨by omega, by omega⟩]; simp
      refine ixA_I (l := [a, b, c, n]) (by dsimp only; omega) (by dsimp only; omega) rfl (toI_i ?_)
      refine ixP_i (by dsimp only; omega) (by dsimp only; omega) ?_
      refine ldI_h (g := g2) (o := 0 + (j : Int).toNat * 1) (n := (kinds o).getD j 0) h (by rw [show 0 + (j : Int).toNat * 1 = j by omega]; exact ints_getD (by omega)) ?_
      refine span_s ?_
      have ef : [a, b, c, n].getD (j : Int).toNat 0 = [o, a, b, c, n].getD (j + 1) 0 := by rw [Int.toNat_natCast]; rfl
      dsimp only
      rw [ef]
      have ed : (decide ([o, a, b, c, n].getD (j + 1) 0 < (spanOf ((kinds o).getD j 0)).1) || decide ([o, a, b, c, n].getD (j + 1) 0 > (spanOf ((kinds o).getD j 0)).2)) = !(fit [o, a, b, c, n] (kinds o) j) := by unfold fit; rw [Bool.not_not]
      rw [ed]
      refine iteB_i (fun hb => ?_) fun hb => ?_
      · have hf : fit [o, a, b, c, n] (kinds o) j = false := by simpa using hb
        have := hc _ h.all
        rw [fits_not hj hf] at this; exact this
      · have hf : fit [o, a, b, c, n] (kinds o) j = true := by simpa using hb
        rw [hw2]
        refine hC _ _ ⟨j + 1, rfl, hj, fun i hi => ?_, rfl⟩ (by dsimp only; omega)
        by_cases e : i = j
        · rw [e]; exact hf
        · exact hfit i (by omega)
    · have hj : j = 4 := by have := of_decide_eq_false hb; dsimp only at this; omega
      subst hj
      have := hc _ h.all
      rw [fits_all hfit] at this; exact this
end Go.Proofs.YtgkfbagclkjilaaGreatDoor.Ck
namespace Go.Proofs.YtgkfbagclkjilaaGreatDoor.Ck
open Go Go.Ev Go.Proofs
def spansL (op : Int) : List Int := (kinds op).flatMap fun kd => [(spanOf kd).1, (spanOf kd).2]
theorem k_cast {k : Array Value → World → Prop} {a b : Array Value} {w : World} (h : k a w) (e : a = b) : k b w := e ▸ h
theorem rspans_s {w : World} {op : Int} {k : Array Value → World → Prop} (h0 : 0 ≤ op) (h1 : op < 17) (hc : ∀ w', St w w' [] → k (agI (spansL op)) w') : pelotonref02_spans op w k := by
  unfold pelotonref02_spans
  refine newC_h (.nil w) fun g1 w2 h => ?_
  have hop : op = 0 ∨ op = 1 ∨ op = 2 ∨ op = 3 ∨ op = 4 ∨ op = 5 ∨ op = 6 ∨ op = 7 ∨ op = 8 ∨ op = 9 ∨ op = 10 ∨ op = 11 ∨ op = 12 ∨ op = 13 ∨ op = 14 ∨ op = 15 ∨ op = 16 := by omega
  rcases hop with rfl | rfl | rfl | rfl | rfl | rfl | rfl | rfl | rfl | rfl | rfl | rfl | rfl | rfl | rfl | rfl | rfl
  all_goals
    repeat (first | refine iteB_t rfl ?_ | refine iteB_f rfl ?_ | refine joinP_d ?_)
    refine stW_h (g := g1) h rfl rfl (by intro v hv; simp at hv; rcases hv with rfl | rfl | rfl | rfl | rfl | rfl | rfl | rfl <;> rfl) fun w3 h => ?_
    refine ldW_h (g := g1) h rfl ?_
    exact k_cast (hc _ h.all) (by kernel_rfl)
theorem spansL_get {op : Int} (h0 : 0 ≤ op) (h1 : op < 17) {j : Nat} (hj : j < 4) : (spansL op).length = 8 ∧ (spansL op).getD (2 * j) 0 = (spanOf ((kinds op).getD j 0)).1 ∧ (spansL op).getD (2 * j + 1) 0 = (spanOf ((kinds op).getD j 0)).2 := by
  have hop : op = 0 ∨ op = 1 ∨ op = 2 ∨ op = 3 ∨ op = 4 ∨ op = 5 ∨ op = 6 ∨ op = 7 ∨ op = 8 ∨ op = 9 ∨ op = 10 ∨ op = 11 ∨ op = 12 ∨ op = 13 ∨ op = 14 ∨ op = 15 ∨ op = 16 := by omega
  have hjj : j = 0 ∨ j = 1 ∨ j = 2 ∨ j = 3 := by omega
  rcases hop with rfl | rfl | rfl | rfl | rfl | rfl | rfl | rfl | rfl | rfl | rfl | rfl | rfl | rfl | rfl | rfl | rfl <;> rcases hjj with rfl | rfl | rfl | rfl <;> decide
theorem rcheck_s {w : World} {x : List Int} {k : Int → World → Prop} (h5 : x.length = 5) (hc : ∀ w', St w w' [] → k (chk x) w') : pelotonref02_Check (agI x) w k := by
  obtain ⟨o, a, b, c, n, rfl⟩ : ∃ o a b c n, x = [o, a, b, c, n] := by
    match x, h5 with
    | [o, a, b, c, n], _ => exact ⟨o, a, b, c, n, rfl⟩
  unfold pelotonref02_Check pelotonref02_Check_b
  refine newC_h (.nil w) fun g1 w2 h => ?_
  refine joinP_i (fun b w' => b = decide (o < 0 ∨ 17 ≤ o) ∧ w' = w2) (fun J hJ => ?_) ?_
  · refine ldI_h (g := g1) (o := 0) h rfl (iteB_i (fun hb => ?_) fun hb => ?_)
    · have := of_decide_eq_true hb
      exact hJ _ _ ⟨(decide_eq_true (.inl this)).symm, rfl⟩
    · have := of_decide_eq_false hb
      refine ldI_h (g := g1) (o := 0) h rfl (hJ _ _ ⟨?_, rfl⟩)
      rw [decide_eq_decide]; omega
  rintro b1 w7 ⟨rfl, rfl⟩
  refine iteB_i (fun hb => ?_) fun hb => ?_
  · have := of_decide_eq_true hb
    have e : chk [o, a, b, c, n] = 13 := if_pos this
    have := hc w7 h.all
    rwa [e] at this
  · have hno := of_decide_eq_false hb
    have e : chk [o, a, b, c, n] = if fits [o, a, b, c, n] (kinds o) then 0 else 10 := if_neg hno
    rw [e] at hc
    have hl : (spansL o).length = 8 := (spansL_get (op := o) (by omega) (by omega) (j := 0) (by omega)).1
    refine ldI_h (g := g1) (o := 0) h rfl ?_
    refine rspans_s (by omega) (by omega) fun w10 h2 => ?_
    have h := h.on h2.ext
    refine newC_h h fun g2 w12 h => ?_
    refine stW_h (g := g2) h rfl (by simp [ints, hl]) (one_agI _) fun w13 h => ?_
    refine ldI_h (g := g1) (o := 1) h rfl (ldI_h (g := g1) (o := 2) h rfl (ldI_h (g := g1) (o := 3) h rfl (ldI_h (g := g1) (o := 4) h rfl ?_)))
    refine newC_h h fun g3 w19 h => ?_
    refine stW_h (g := g3) (vs := agI [a, b, c, n]) h rfl rfl (one_agI _) fun w20 h => ?_
    refine loopP_of (fun (y : Int) w' => ∃ j : Nat, y = (j : Int) ∧ j ≤ 4 ∧ (∀ i, i < j → fit [o, a, b, c, n] (kinds o) i = true) ∧ St w w' [blk g3 (ints [a, b, c, n]), blk g2 (ints (spansL o)), blk g1 (ints [o, a, b, c, n])]) (fun y _ => (4 - y).toNat) ⟨0, rfl, by omega, fun i hi => by omega, h⟩ ?_
    rintro _ w23 ⟨j, rfl, hj4, hfit, h⟩ C hC
    refine iteB_i (fun hb => ?_) fun hb => ?_
    · have hj : j < 4 := by have := of_decide_eq_true hb; omega
      have hw2 : IntKind.wrap .i64 ((j : Int) + 1) = ((j + 1 : Nat) : Int) := by rw [wrap_id ⟨by omega, by omega⟩]; simp
      have hw3 : IntKind.wrap .i64 (2 * (j : Int)) = ((2 * j : Nat) : Int) := by rw [wrap_id ⟨by omega, by omega⟩]; omega
      have hw4 : IntKind.wrap .i64 (((2 * j : Nat) : Int) + 1) = ((2 * j + 1 : Nat) : Int) := by rw [wrap_id ⟨by omega, by omega⟩]; omega
      have hsp := spansL_get (op := o) (by omega) (by omega) hj
      have ef : [a, b, c, n].getD j 0 = [o, a, b, c, n].getD (j + 1) 0 := rfl
      refine joinP_i (fun b' w' => b' = !(fit [o, a, b, c, n] (kinds o) j) ∧ St w w' [blk g3 (ints [a, b, c, n]), blk g2 (ints (spansL o)), blk g1 (ints [o, a, b, c, n])]) (fun J hJ => ?_) ?_
      · refine drew_h h fun w25 h => ?_
        rw [hw3, hw4]
        have rd3 : ∀ {c' : Int → Prop}, c' ([o, a, b, c, n].getD (j + 1) 0) → ixP ⟨g3, 0, none⟩ 4 (j : Int) 1 fun a => ldI .i64 w25 a c' := by
          intro c' hc'
          refine ixP_i (by omega) (by omega) ?_
          refine ldI_h (g := g3) (o := 0 + (j : Int).toNat * 1) (n := [a, b, c, n].getD j 0) h (by rw [show 0 + (j : Int).toNat * 1 = j by omega]; exact ints_getD (by simp; omega)) ?_
          rw [ef]; exact hc'
        have rd2 : ∀ {m : Nat} {c' : Int → Prop}, m < 8 → c' ((spansL o).getD m 0) → ixP ⟨g2, 0, none⟩ 8 (m : Int) 1 fun a => ldI .i64 w25 a c' := by
          intro m c' hm hc'
          refine ixP_i (by omega) (by omega) ?_
          exact ldI_h (g := g2) (o := 0 + (m : Int).toNat * 1) (n := (spansL o).getD m 0) h (by rw [show 0 + (m : Int).toNat * 1 = m by omega]; exact ints_getD (by omega)) hc'
        refine rd3 (rd2 (by omega) ?_)
        rw [hsp.2.1]
        refine iteB_i (fun hb => ?_) fun hb => ?_
        · exact hJ _ _ ⟨by unfold fit; rw [hb]; rfl, h⟩
        · refine rd3 (rd2 (by omega) ?_)
          rw [hsp.2.2]
          exact hJ _ _ ⟨by unfold fit; rw [hb, Bool.not_not]; rfl, h⟩
      rintro b2 w35 ⟨rfl, h⟩
      refine iteB_i (fun hb => ?_) fun hb => ?_
      · have hf : fit [o, a, b, c, n] (kinds o) j = false := by simpa using hb
        have := hc _ h.all
        rw [fits_not hj hf] at this; exact this
      · have hf : fit [o, a, b, c, n] (kinds o) j = true := by simpa using hb
        rw [hw2]
        refine hC _ _ ⟨j + 1, rfl, hj, fun i hi => ?_, h⟩ (by omega)
        by_cases e : i = j
        · rw [e]; exact hf
        · exact hfit i (by omega)
    · have hj : j = 4 := by have := of_decide_eq_false hb; omega
      subst hj
      have := hc _ h.all
      rw [fits_all hfit] at this; exact this
end Go.Proofs.YtgkfbagclkjilaaGreatDoor.Ck
namespace Go.Proofs.YtgkfbagclkjilaaGreatDoor.Ck
open Go Go.Ev Go.Proofs
def firstBad : Nat → List (List Int) → Int × Int
  | _, [] => (0, 0)
  | i, x :: l => if chk x != 0 then ((i : Int), chk x) else firstBad (i + 1) l
def shapeF (needs : Int) (l : List (List Int)) : Int × Int :=
  if decide (needs < 0) || decide (needs > 255) then (-1, 10) else if decide (l.length < 1) || decide (l.length > 128) then (-1, 12) else firstBad 0 l
theorem firstBad_step {l dn rest : List (List Int)} {x : List Int} (hl : l = dn ++ x :: rest) (hd : firstBad 0 l = firstBad dn.length (x :: rest)) (hx : (chk x != 0) = false) : firstBad 0 l = firstBad (dn ++ [x]).length rest := by
  rw [hd]; simp [firstBad, hx]
theorem shape_s {w : World} {s : Sl} {needs : Int} {l : List (List Int)} {k : Int × Int → World → Prop} (hr : Code5 w s l)
    (hc : ∀ w', St w w' [] → k (shapeF needs l) w') : check_shape #[.int .i64 needs, .slice s.a s.n s.c] w k := by
  have hsn := hr.len
  unfold check_shape check_shape_b
  refine newC_h (.nil w) fun g w2 h => ?_
  refine joinP_i (fun b w' => b = (decide (needs < 0) || decide (needs > 255)) ∧ w' = w2) (fun J hJ => ?_) ?_
  · refine ldI_h (g := g) (o := 0) h rfl (iteB_i (fun hb => ?_) fun hb => ?_)
    · exact hJ _ _ ⟨by rw [hb]; rfl, rfl⟩
    · refine ldI_h (g := g) (o := 0) h rfl (hJ _ _ ⟨by rw [hb]; rfl, rfl⟩)
  rintro b1 w7 ⟨rfl, rfl⟩
  unfold shapeF at hc
  refine iteB_i (fun hb => ?_) fun hb => ?_
  · rw [hb] at hc; exact hc _ h.all
  · rw [hb] at hc
    refine joinP_i (fun b w' => b = (decide (l.length < 1) || decide (l.length > 128)) ∧ w' = w7) (fun J hJ => ?_) ?_
    · have e1 : decide (((s.n : Nat) : Int) < 1) = decide (l.length < 1) := by rw [decide_eq_decide]; omega
      have e2 : decide (((s.n : Nat) : Int) > 128) = decide (l.length > 128) := by rw [decide_eq_decide]; omega
      refine ldS_h (g := g) (o := 1) h rfl (iteB_i (fun hb => ?_) fun hb => ?_)
      · exact hJ _ _ ⟨by rw [← e1]; dsimp only at hb; rw [hb]; rfl, rfl⟩
      · refine ldS_h (g := g) (o := 1) h rfl (hJ _ _ ⟨by rw [← e1, ← e2]; dsimp only at hb; rw [hb]; rfl, rfl⟩)
    rintro b2 w12 ⟨rfl, rfl⟩
    refine iteB_i (fun hb2 => ?_) fun hb2 => ?_
    · rw [hb2] at hc; exact hc _ h.all
    · rw [hb2] at hc
      have hl128 : l.length ≤ 128 := by
        rw [Bool.or_eq_false_iff] at hb2; have := of_decide_eq_false hb2.2; omega
      refine ldS_h (g := g) (o := 1) h rfl ?_
      refine loopP_of (fun (i : Int) w' => ∃ dn rest, l = dn ++ rest ∧ i = (dn.length : Int) ∧ firstBad 0 l = firstBad dn.length rest ∧ St w w' []) (fun i _ => ((s.n : Int) - i).toNat) ⟨[], l, rfl, rfl, rfl, h.all⟩ ?_
      rintro _ w16 ⟨dn, rest, hl, rfl, hd, h⟩ C hC
      cases rest with
      | nil =>
        refine iteB_f (by simp only [decide_eq_false_iff_not]; rw [hsn, hl]; simp) ?_
        rw [hd] at hc; exact hc _ h
      | cons x rest =>
        have hlen : l.length = dn.length + (rest.length + 1) := by rw [hl]; simp
        have hw1 : IntKind.wrap .i64 ((dn.length : Int) + 1) = ((dn ++ [x]).length : Int) := by rw [wrap_id ⟨by omega, by omega⟩]; simp
        refine iteB_t (by simp only [decide_eq_true_eq]; omega) ?_
        refine ixC (hr.ext h.ext) hl rfl fun p h5 hcell => ldA_c (by simp [Go.Ev.ints, h5]) hcell ?_
        refine newC_h h fun g2 w20 h => stW_h (g := g2) h rfl (by simp [Go.Ev.ints, h5]) (one_agI _) fun w21 h => ldW_h (g := g2) h (by simp [Go.Ev.ints, h5]) ?_
        refine ccheck_s h5 fun w24 h2 => ?_
        have h := h.all.on h2.ext
        refine iteB_i (fun hb3 => ?_) fun hb3 => ?_
        · have e : firstBad dn.length (x :: rest) = ((dn.length : Int), chk x) := by unfold firstBad; rw [hb3]; rfl
          rw [hd, e] at hc
          exact hc _ h
        · rw [hw1]
          exact hC _ _ ⟨dn ++ [x], rest, by rw [hl]; simp, rfl, firstBad_step hl hd hb3, h⟩ (by simp; omega)
theorem rshape_s {w : World} {s : Sl} {needs : Int} {l : List (List Int)} {k : Int × Int → World → Prop} (hr : Code5 w s l)
    (hc : ∀ w', St w w' [] → k (shapeF needs l) w') : pelotonref04_shape #[.int .i64 needs, .slice s.a s.n s.c] w k := by
  have hsn := hr.len
  unfold pelotonref04_shape pelotonref04_shape_b
  refine newC_h (.nil w) fun g w2 h => ?_
  refine joinP_i (fun b w' => b = (decide (needs < 0) || decide (needs > 255)) ∧ w' = w2) (fun J hJ => ?_) ?_
  · refine ldI_h (g := g) (o := 0) h rfl (iteB_i (fun hb => ?_) fun hb => ?_)
    · exact hJ _ _ ⟨by rw [hb]; rfl, rfl⟩
    · refine ldI_h (g := g) (o := 0) h rfl (hJ _ _ ⟨by rw [hb]; rfl, rfl⟩)
  rintro b1 w7 ⟨rfl, rfl⟩
  unfold shapeF at hc
  refine iteB_i (fun hb => ?_) fun hb => ?_
  · rw [hb] at hc; exact hc _ h.all
  · rw [hb] at hc
    refine joinP_i (fun b w' => b = (decide (l.length < 1) || decide (l.length > 128)) ∧ w' = w7) (fun J hJ => ?_) ?_
    · have e1 : decide (((s.n : Nat) : Int) < 1) = decide (l.length < 1) := by rw [decide_eq_decide]; omega
      have e2 : decide (((s.n : Nat) : Int) > 128) = decide (l.length > 128) := by rw [decide_eq_decide]; omega
      refine ldS_h (g := g) (o := 1) h rfl (iteB_i (fun hb => ?_) fun hb => ?_)
      · exact hJ _ _ ⟨by rw [← e1]; dsimp only at hb; rw [hb]; rfl, rfl⟩
      · refine ldS_h (g := g) (o := 1) h rfl (hJ _ _ ⟨by rw [← e1, ← e2]; dsimp only at hb; rw [hb]; rfl, rfl⟩)
    rintro b2 w12 ⟨rfl, rfl⟩
    refine iteB_i (fun hb2 => ?_) fun hb2 => ?_
    · rw [hb2] at hc; exact hc _ h.all
    · rw [hb2] at hc
      have hl128 : l.length ≤ 128 := by
        rw [Bool.or_eq_false_iff] at hb2; have := of_decide_eq_false hb2.2; omega
      refine loopP_of (fun (i : Int) w' => ∃ dn rest, l = dn ++ rest ∧ i = (dn.length : Int) ∧ firstBad 0 l = firstBad dn.length rest ∧ St w w' [blk g [.int .i64 needs, .slice s.a s.n s.c]]) (fun i _ => ((s.n : Int) - i).toNat) ⟨[], l, rfl, rfl, rfl, h⟩ ?_
      rintro _ w16 ⟨dn, rest, hl, rfl, hd, h⟩ C hC
      refine ldS_h (g := g) (o := 1) h rfl ?_
      cases rest with
      | nil =>
        refine iteB_f (by simp only [decide_eq_false_iff_not]; rw [hsn, hl]; simp) ?_
        rw [hd] at hc; exact hc _ h.all
      | cons x rest =>
        have hlen : l.length = dn.length + (rest.length + 1) := by rw [hl]; simp
        have hw1 : IntKind.wrap .i64 ((dn.length : Int) + 1) = ((dn ++ [x]).length : Int) := by rw [wrap_id ⟨by omega, by omega⟩]; simp
        refine iteB_t (by simp only [decide_eq_true_eq]; omega) ?_
        refine ldS_h (g := g) (o := 1) h rfl ?_
        refine ixC (hr.ext h.ext) hl rfl fun p h5 hcell => ldA_c (by simp [Go.Ev.ints, h5]) hcell ?_
        refine rcheck_s h5 fun w24 h2 => ?_
        have h := h.on h2.ext
        refine iteB_i (fun hb3 => ?_) fun hb3 => ?_
        · have e : firstBad dn.length (x :: rest) = ((dn.length : Int), chk x) := by unfold firstBad; rw [hb3]; rfl
          rw [hd, e] at hc
          exact hc _ h.all
        · rw [hw1]
          exact hC _ _ ⟨dn ++ [x], rest, by rw [hl]; simp, rfl, firstBad_step hl hd hb3, h⟩ (by simp; omega)
def placesE (nf n : Nat) (x : List Int) : Int := if (isGoes x && decide (x.getD 4 0 ≥ n)) || ((opI x == 8) && decide (x.getD 4 0 ≥ nf)) then 10 else 0
def lastE (n : Nat) (i : Nat) (x : List Int) : Int := if ((i : Int) == (n : Int) - 1) && (opI x != 6) && !isEnds x then 11 else 0
def scopesOk (D : List Int) (i : Nat) (x : List Int) : Bool :=
  if (opI x == 12) || (opI x == 13) then decide (D.getD i 0 ≥ 1) else if opI x == 16 then D.getD i 0 == 0 else if isGoes x then D.getD (x.getD 4 0).toNat 0 == D.getD i 0 else true
def subBits (a b : Int) : Bool := (List.range 8).all fun h => !tb a h || tb b h
def needsOf (P : List FnR) (i : Int) : Int := (P.map FnR.needs).getD i.toNat 0
def handlesOk (P : List FnR) (hv : Int) (x : List Int) : Bool :=
  if opI x == 9 then tb hv (x.getD 2 0).toNat else if opI x == 10 then tb hv (x.getD 3 0).toNat else if opI x == 8 then subBits (needsOf P (x.getD 4 0)) hv else true
def askE (P : List FnR) (n : Nat) (D H : List Int) (i : Nat) (x : List Int) : Nat → Int
  | 0 => placesE P.length n x
  | 1 => lastE n i x
  | 2 => if scopesOk D i x then 0 else 15
  | _ => if handlesOk P (H.getD i 0) x then 0 else 16
def wrongF (P : List FnR) (n : Nat) (D H : List Int) (i : Nat) (x : List Int) : Int :=
  if askE P n D H i x 0 != 0 then askE P n D H i x 0 else if askE P n D H i x 1 != 0 then askE P n D H i x 1 else if askE P n D H i x 2 != 0 then askE P n D H i x 2 else askE P n D H i x 3
def funcFault (P : List FnR) (n : Nat) (D H : List Int) : Nat → List (List Int) → Option (Int × Int)
  | _, [] => none
  | i, x :: l => if wrongF P n D H i x != 0 then some ((i : Int), wrongF P n D H i x) else funcFault P n D H (i + 1) l
noncomputable def fault1 (P : List FnR) (f : FnR) : Option (Int × Int) := funcFault P f.code.length (depths 0 f.code) (heldL f.code f.needs) 0 f.code
noncomputable def faults (P : List FnR) : Nat → List FnR → Option (Int × Int × Int)
  | _, [] => none
  | k, f :: l => match fault1 P f with
    | some (i, e) => some ((k : Int), i, e)
    | none => faults P (k + 1) l
def shapes : Nat → List FnR → Option (Int × Int × Int)
  | _, [] => none
  | k, f :: l => if (shapeF f.needs f.code).2 != 0 then some ((k : Int), (shapeF f.needs f.code).1, (shapeF f.needs f.code).2) else shapes (k + 1) l
noncomputable def progF (P : List FnR) : Int × Int × Int :=
  if decide (P.length < 1) || decide (P.length > 32) then (-1, -1, 12) else match shapes 0 P with
    | some x => x
    | none => if needsOf P 0 != 0 then (0, -1, 16) else match faults P 0 P with
      | some x => x
      | none => (0, 0, 0)
end Go.Proofs.YtgkfbagclkjilaaGreatDoor.Ck
namespace Go.Proofs.YtgkfbagclkjilaaGreatDoor.Ck
open Go Go.Ev Go.Proofs
theorem ixC_h {w0 w : World} {L : List HP} {s : Sl} {l : List (List Int)} {x : List Int} {i : Int} {c : Addr → Prop} (hr : Code5 w0 s l) (h : St w0 w L) (h0 : 0 ≤ i) (hx : l[i.toNat]? = some x)
    (hc : ∀ p : Addr, x.length = 5 → (∀ {w' L'}, St w0 w' L' → ∀ {j v}, (Go.Ev.ints x)[j]? = some v → w'.cell? (p.add j) = some v) → c p) : ixS s i 5 c :=
  ixR_h (e := Go.Ev.ints x) hr.rws h h0 (by rw [List.getElem?_map, hx]; rfl) fun p hp => hc p ((hr.five x (List.mem_of_getElem? hx)).1) hp
theorem samec_e {n : Nat} {a : Addr} {e : List Value} {w w' : World} {c : Prop} (he : n ≤ e.length) (h : ∀ {j v}, e[j]? = some v → w.cell? (a.add j) = some v) (h' : ∀ {j v}, e[j]? = some v → w'.cell? (a.add j) = some v) (hc : c) : samec n a w w' c :=
  ⟨fun k hk => by rw [h (List.getElem?_eq_getElem (by omega)), h' (List.getElem?_eq_getElem (by omega))], hc⟩
theorem chk0 {x : List Int} (h : chk x = 0) : 0 ≤ opI x ∧ opI x < 17 ∧ (isGoes x = true → 0 ≤ x.getD 4 0 ∧ x.getD 4 0 ≤ 127) ∧ (opI x = 8 → 0 ≤ x.getD 4 0 ∧ x.getD 4 0 ≤ 31 ∧ 0 ≤ x.getD 1 0 ∧ x.getD 1 0 ≤ 7) ∧ (opI x = 9 → 0 ≤ x.getD 2 0 ∧ x.getD 2 0 ≤ 7) ∧ (opI x = 10 → 0 ≤ x.getD 3 0 ∧ x.getD 3 0 ≤ 7) := by
  unfold chk at h
  split at h
  · cases h
  · rename_i hno
    split at h
    · rename_i hf
      unfold fits at hf
      rw [List.all_eq_true] at hf
      have f0 := hf 0 (by decide)
      have f1 := hf 1 (by decide)
      have f2 := hf 2 (by decide)
      have f3 := hf 3 (by decide)
      refine ⟨by omega, by omega, fun hg => ?_, fun ho => ?_, fun ho => ?_, fun ho => ?_⟩
      · have : opI x = 6 ∨ opI x = 7 := by unfold isGoes at hg; simpa using hg
        unfold fit at f3
        rcases this with ho | ho <;> rw [ho] at f3 <;> simp [kinds, kflat, spanOf] at f3 ⊢ <;> omega
      · unfold fit at f3 f0
        rw [ho] at f3 f0; simp [kinds, kflat, spanOf] at f3 f0 ⊢; omega
      · unfold fit at f1
        rw [ho] at f1; simp [kinds, kflat, spanOf] at f1 ⊢; omega
      · unfold fit at f2
        rw [ho] at f2; simp [kinds, kflat, spanOf] at f2 ⊢; omega
    · cases h
section
variable {w0 w : World} {gj : Nat} {ps s sd sh : Sl} {P : List FnR} {l : List (List Int)} {D H : List Int} {R : List HP} {i : Nat} {x : List Int} {k : Int → World → Prop}
theorem places_s (h : St w0 w (blk gj [.slice ps.a ps.n ps.c, .slice s.a s.n s.c, .slice sd.a sd.n sd.c, .slice sh.a sh.n sh.c] :: R)) (hr : Code5 w0 s l) (hx : l[i]? = some x) (hpn : ps.n = P.length)
    (hc : ∀ w', St w0 w' (blk gj [.slice ps.a ps.n ps.c, .slice s.a s.n s.c, .slice sd.a sd.n sd.c, .slice sh.a sh.n sh.c] :: R) → k (placesE P.length l.length x) w') : check_judge_places (some ⟨gj, 0, none⟩) (i : Int) w k := by
  have hsn := hr.len
  unfold check_judge_places check_judge_places_b
  refine nn_i (ldS_h (g := gj) (o := 1) h rfl (ixC_h hr h (by omega) hx fun p h5 hp => ldA_c (by simp [Go.Ev.ints, h5]) (fun j v => hp h) ?_))
  refine newC_h h fun g w6 h => stW_h (g := g) h rfl (by simp [Go.Ev.ints, h5]) (one_agI _) fun w7 h => ?_
  have h : St w0 w7 (blk g (ints x) :: blk gj [.slice ps.a ps.n ps.c, .slice s.a s.n s.c, .slice sd.a sd.n sd.c, .slice sh.a sh.n sh.c] :: R) := h
  refine joinP_i (fun b w' => b = ((isGoes x && decide (x.getD 4 0 ≥ l.length)) || ((opI x == 8) && decide (x.getD 4 0 ≥ P.length))) ∧ St w0 w' (blk g (ints x) :: blk gj [.slice ps.a ps.n ps.c, .slice s.a s.n s.c, .slice sd.a sd.n sd.c, .slice sh.a sh.n sh.c] :: R)) (fun J hJ => ?_) ?_
  · refine drew_h h fun w9 h => ldI_h (g := g) (o := 0) h (ints_get (by omega)) ?_
    have second : (isGoes x && decide (x.getD 4 0 ≥ l.length)) = false → ldI .i64 w9 (Addr.add ⟨g, 0, none⟩ 0) fun i16 =>
        iteB (i16 == (8 : Int)) (
          ldI .i64 w9 (Addr.add ⟨g, 0, none⟩ 4) fun i17 =>
          nn (some ⟨gj, 0, none⟩) fun a18 =>
          ldS w9 (Addr.add (Addr.add a18 0) 0) fun s19 =>
          (J (decide (i17 ≥ ((s19.n : Nat) : Int))) w9)) (
          (J false w9)) := by
      intro ha
      refine ldI_h (g := g) (o := 0) h (ints_get (by omega)) (iteB_i (fun hb => ?_) fun hb => ?_)
      · refine ldI_h (g := g) (o := 4) h (ints_get (by omega)) (nn_i (ldS_h (g := gj) (o := 0) h rfl (hJ _ _ ⟨?_, h⟩)))
        have hb' : (opI x == 8) = true := hb
        dsimp only; rw [ha, hb', hpn]; rfl
      · refine hJ _ _ ⟨?_, h⟩
        have hb' : (opI x == 8) = false := hb
        rw [ha, hb']; rfl
    show iteB _ _ _
    refine iteB_i (fun hg => ?_) fun hg => ?_
    · have hg' : isGoes x = true := hg
      refine ldI_h (g := g) (o := 4) h (ints_get (by omega)) (nn_i (ldS_h (g := gj) (o := 1) h rfl (iteB_i (fun hb => ?_) fun hb => ?_)))
      · refine hJ _ _ ⟨?_, h⟩
        dsimp only at hb
        rw [hsn] at hb
        rw [hg', hb]; rfl
      · dsimp only at hb
        rw [hsn] at hb
        exact second (by rw [hg', hb]; rfl)
    · have hg' : isGoes x = false := hg
      exact second (by rw [hg']; rfl)
  rintro b w25 ⟨rfl, h⟩
  unfold placesE at hc
  refine iteB_i (fun hb => ?_) fun hb => ?_
  · rw [hb] at hc; exact hc _ h.drop
  · rw [hb] at hc; exact hc _ h.drop
theorem last_s (h : St w0 w (blk gj [.slice ps.a ps.n ps.c, .slice s.a s.n s.c, .slice sd.a sd.n sd.c, .slice sh.a sh.n sh.c] :: R)) (hr : Code5 w0 s l) (hx : l[i]? = some x) (hn : l.length ≤ 1000)
    (hc : ∀ w', St w0 w' (blk gj [.slice ps.a ps.n ps.c, .slice s.a s.n s.c, .slice sd.a sd.n sd.c, .slice sh.a sh.n sh.c] :: R) → k (lastE l.length i x) w') : check_judge_last (some ⟨gj, 0, none⟩) (i : Int) w k := by
  have hsn := hr.len
  unfold check_judge_last check_judge_last_b
  refine nn_i (ldS_h (g := gj) (o := 1) h rfl (ixC_h hr h (by omega) hx fun p h5 hp => ldI_i (hp h (ints_get (by omega))) ?_))
  refine joinP_i (fun b w' => b = (((i : Int) == (l.length : Int) - 1) && (opI x != 6) && !isEnds x) ∧ w' = w) (fun J hJ => ?_) ?_
  · refine nn_i (ldS_h (g := gj) (o := 1) h rfl ?_)
    have hw : IntKind.wrap .i64 (((s.n : Nat) : Int) - 1) = (l.length : Int) - 1 := by rw [hsn, wrap_id ⟨by omega, by omega⟩]
    dsimp only
    rw [hw]
    refine iteB_i (fun hb => ?_) fun hb => ?_
    · exact hJ _ _ ⟨by have hb' : ((i : Int) == (l.length : Int) - 1 && (opI x != 6)) = true := hb
                       rw [hb']; rfl, rfl⟩
    · exact hJ _ _ ⟨by have hb' : ((i : Int) == (l.length : Int) - 1 && (opI x != 6)) = false := hb
                       rw [hb']; rfl, rfl⟩
  rintro b w25 ⟨rfl, rfl⟩
  unfold lastE at hc
  refine iteB_i (fun hb => ?_) fun hb => ?_
  · rw [hb] at hc; exact hc _ h
  · rw [hb] at hc; exact hc _ h
theorem scopes_s (h : St w0 w (blk gj [.slice ps.a ps.n ps.c, .slice s.a s.n s.c, .slice sd.a sd.n sd.c, .slice sh.a sh.n sh.c] :: slc 1 sd (ints D) :: R)) (hr : Code5 w0 s l) (hx : l[i]? = some x) (hn : l.length ≤ 1000) (hD : D.length = l.length)
    (h0 : isGoes x = true → 0 ≤ x.getD 4 0 ∧ x.getD 4 0 < l.length)
    (hc : ∀ w', St w0 w' (blk gj [.slice ps.a ps.n ps.c, .slice s.a s.n s.c, .slice sd.a sd.n sd.c, .slice sh.a sh.n sh.c] :: slc 1 sd (ints D) :: R) → k (if scopesOk D i x then 0 else 15) w') : check_judge_scopes (some ⟨gj, 0, none⟩) (i : Int) w k := by
  have hsn := hr.len
  have hil : i < l.length := (List.getElem?_eq_some_iff.1 hx).1
  unfold check_judge_scopes
  refine drew_h h fun w1 h => ?_
  refine nn_i (ldS_h (g := gj) (o := 1) h rfl (ixC_h hr h (by omega) hx fun p h5 hp => ldA_c (by simp [Go.Ev.ints, h5]) (fun j v => hp h) ?_))
  refine nn_i (ldS_h (g := gj) (o := 2) h rfl ?_)
  have hdn : D.length = sd.n := by have := h.slen (sz := 1) (s := sd) (vs := ints D); simpa using this
  refine ixS_h (s := sd) (vs := ints D) h (by omega) (by omega) (by omega) fun gd od _ hrd _ => ?_
  have hget : (ints D)[((i : Nat) : Int).toNat * 1 + 0]? = some (.int .i64 (D.getD i 0)) := by
    rw [show ((i : Nat) : Int).toNat * 1 + 0 = i by omega]; exact ints_getD (by omega)
  refine ldI_i (hrd h 0 _ (by omega) hget) ?_
  have h1 := h
  refine newC_h h fun g w11 h => ?_
  refine samec_1 (hrd h1 0 _ (by omega) hget) (hrd h 0 _ (by omega) hget) ?_
  refine samec_h h1 h ?_
  refine samec_e (e := ints x) (by simp [Go.Ev.ints, h5]) (fun {j v} => hp h1) (fun {j v} => hp h) ?_
  refine samec_h h1 h ?_
  refine stW_h (g := g) h rfl (by simp [Go.Ev.ints, h5]) (one_agI _) fun w12 h => ?_
  refine samec_1 (hrd h1 0 _ (by omega) hget) (hrd h 0 _ (by omega) hget) ?_
  refine samec_h h1 h ?_
  have h : St w0 w12 (blk g (ints x) :: blk gj [.slice ps.a ps.n ps.c, .slice s.a s.n s.c, .slice sd.a sd.n sd.c, .slice sh.a sh.n sh.c] :: slc 1 sd (ints D) :: R) := h
  refine ldI_h (g := g) (o := 0) h (ints_get (by omega)) ?_
  refine joinP_i (fun b w' => b = ((opI x == 12) || (opI x == 13)) ∧ w' = w12) (fun J hJ => ?_) ?_
  · refine iteB_i (fun hb => ?_) fun hb => ?_
    · have hb' : (opI x == 12) = true := hb
      exact hJ _ _ ⟨by rw [hb']; rfl, rfl⟩
    · have hb' : (opI x == 12) = false := hb
      exact hJ _ _ ⟨by rw [hb']; rfl, rfl⟩
  rintro b15 w16 ⟨rfl, rfl⟩
  refine joinP_i (fun b w' => b = scopesOk D i x ∧ St w0 w' (blk g (ints x) :: blk gj [.slice ps.a ps.n ps.c, .slice s.a s.n s.c, .slice sd.a sd.n sd.c, .slice sh.a sh.n sh.c] :: slc 1 sd (ints D) :: R)) (fun J hJ => ?_) ?_
  · unfold scopesOk at hJ
    refine iteB_i (fun hb => ?_) fun hb => ?_
    · rw [if_pos hb] at hJ; exact hJ _ _ ⟨rfl, h⟩
    · rw [if_neg (by rw [hb]; simp)] at hJ
      refine iteB_i (fun hb2 => ?_) fun hb2 => ?_
      · have hb' : (opI x == 16) = true := hb2
        rw [if_pos hb'] at hJ; exact hJ _ _ ⟨rfl, h⟩
      · have hb' : (opI x == 16) = false := hb2
        rw [if_neg (by rw [hb']; simp)] at hJ
        refine joinP_i (fun b w' => b = isGoes x ∧ w' = w16) (fun J2 hJ2 => ?_) ?_
        · refine iteB_i (fun hb => ?_) fun hb => ?_
          · have hb' : (opI x == 6) = true := hb
            exact hJ2 _ _ ⟨by unfold isGoes; rw [hb']; rfl, rfl⟩
          · have hb' : (opI x == 6) = false := hb
            exact hJ2 _ _ ⟨by unfold isGoes; rw [hb']; rfl, rfl⟩
        rintro b19 w20 ⟨rfl, rfl⟩
        refine iteB_i (fun hg => ?_) fun hg => ?_
        · rw [if_pos hg] at hJ
          have hN := h0 hg
          refine drew_h h fun w21 h => nn_i (ldS_h (g := gj) (o := 2) h rfl (ldI_h (g := g) (o := 4) h (ints_get (by omega)) ?_))
          refine ixI_h (s := sd) (xs := D) h hN.1 (by omega) ?_
          exact hJ _ _ ⟨rfl, h⟩
        · rw [if_neg (by rw [hg]; simp)] at hJ
          exact hJ _ _ ⟨rfl, h⟩
  rintro b27 w28 ⟨rfl, h⟩
  refine iteB_i (fun hb => ?_) fun hb => ?_
  · have hb' : scopesOk D i x = false := by simpa using hb
    rw [hb'] at hc; exact hc _ h.drop
  · have hb' : scopesOk D i x = true := by simpa using hb
    rw [hb'] at hc; exact hc _ h.drop
end
end Go.Proofs.YtgkfbagclkjilaaGreatDoor.Ck
namespace Go.Proofs.YtgkfbagclkjilaaGreatDoor.Ck
open Go Go.Ev Go.Proofs
theorem andNot_le {a b : Int} (h0 : 0 ≤ a) (h1 : a ≤ 255) : 0 ≤ andNotI .i64 a b ∧ andNotI .i64 a b ≤ a := by
  rw [andNotI_bv]
  have e : (bv a).toNat = a.toNat := by
    have := bv_s (m := a.toNat) (by omega)
    rwa [Int.toNat_of_nonneg h0] at this
  have h2 : (bv a &&& ~~~ bv b).toNat ≤ a.toNat := by rw [BitVec.toNat_and, e]; exact Nat.and_le_left
  rw [toInt_s (by omega)]
  omega
theorem tb_zero {h : Nat} (hh : h < 8) : tb 0 h = false := by
  have : ∀ h : Nat, h < 8 → tb 0 h = false := by decide
  exact this h hh
theorem subBits_iff {a b : Int} : subBits a b = true ↔ ∀ h : Nat, h < 8 → tb a h = true → tb b h = true := by
  unfold subBits
  rw [List.all_eq_true]
  refine ⟨fun q h hh ha => ?_, fun q h hh => ?_⟩
  · have := q h (by simpa using hh)
    rw [ha] at this; simpa using this
  · have := q h (by simpa using hh)
    cases ha : tb a h with
    | false => rfl
    | true => rw [this ha]; rfl
theorem andNot_sub {a b : Int} (h0 : 0 ≤ a) (h1 : a ≤ 255) : (andNotI .i64 a b != 0) = !subBits a b := by
  have hb := andNot_le (b := b) h0 h1
  cases hs : subBits a b with
  | true =>
    have hs' := subBits_iff.1 hs
    have e : andNotI .i64 a b = 0 := by
      rw [← rs_tb (v := andNotI .i64 a b) hb.1 (by omega), ← rs_tb (v := 0) (by omega) (by omega)]
      refine rs_congr fun h hh => ?_
      rw [tb_andNot _ _ (by omega), tb_zero hh]
      cases ha : tb a h with
      | false => rfl
      | true => rw [hs' h hh ha]; rfl
    rw [e]; rfl
  | false =>
    have : andNotI .i64 a b ≠ 0 := by
      intro e
      have : subBits a b = true := subBits_iff.2 fun h hh ha => by
        have h2 := tb_andNot a b (i := h) (by omega)
        rw [e, tb_zero hh, ha] at h2
        simpa using h2.symm
      rw [this] at hs; cases hs
    simpa using this
theorem sub_shl {a b : Int} (h0 : 0 ≤ a) (h1 : a < 8) : subBits (shlV .i64 1 a) b = tb b a.toNat := by
  cases ht : tb b a.toNat with
  | true =>
    refine subBits_iff.2 fun h hh ha => ?_
    rw [tb_shl h0 h1 hh] at ha
    have := of_decide_eq_true ha
    have : h = a.toNat := by omega
    rw [this]; exact ht
  | false =>
    cases hs : subBits (shlV .i64 1 a) b with
    | false => rfl
    | true =>
      have := subBits_iff.1 hs a.toNat (by omega) (by rw [tb_shl h0 h1 (by omega)]; exact decide_eq_true (by omega))
      rw [this] at ht; cases ht
theorem shl_small {a : Int} (h0 : 0 ≤ a) (h1 : a < 8) : 0 ≤ shlV .i64 1 a ∧ shlV .i64 1 a ≤ 255 := by
  have e : ∀ m : Nat, m < 8 → 0 ≤ shlV .i64 1 (m : Int) ∧ shlV .i64 1 (m : Int) ≤ 255 := by decide
  have := e a.toNat (by omega)
  rwa [Int.toNat_of_nonneg h0] at this
theorem sub_zero {b : Int} : subBits 0 b = true := subBits_iff.2 fun h hh ha => by rw [tb_zero hh] at ha; cases ha
section
variable {w0 w : World} {gj : Nat} {ps s sd sh : Sl} {P : List FnR} {l : List (List Int)} {D H : List Int} {R : List HP} {i : Nat} {x : List Int} {k : Int → World → Prop}
theorem needs_get {P : List FnR} {n : Int} {f : FnR} (h : P[n.toNat]? = some f) : needsOf P n = f.needs := by simp [needsOf, h]
theorem handles_s (h : St w0 w (blk gj [.slice ps.a ps.n ps.c, .slice s.a s.n s.c, .slice sd.a sd.n sd.c, .slice sh.a sh.n sh.c] :: slc 1 sd (ints D) :: slc 1 sh (ints H) :: R)) (hr : Code5 w0 s l) (hF : Funcs5 w0 ps P) (hx : l[i]? = some x) (hn : l.length ≤ 1000) (hH : H.length = l.length)
    (hok : chk x = 0) (hpl : placesE P.length l.length x = 0) (hP : ∀ f ∈ P, 0 ≤ f.needs ∧ f.needs ≤ 255)
    (hc : ∀ w', St w0 w' (blk gj [.slice ps.a ps.n ps.c, .slice s.a s.n s.c, .slice sd.a sd.n sd.c, .slice sh.a sh.n sh.c] :: slc 1 sd (ints D) :: slc 1 sh (ints H) :: R) → k (if handlesOk P (H.getD i 0) x then 0 else 16) w') : check_judge_handles (some ⟨gj, 0, none⟩) (i : Int) w k := by
  have hsn := hr.len
  have hpn := hF.len
  have hil : i < l.length := (List.getElem?_eq_some_iff.1 hx).1
  obtain ⟨_, _, _, hk8, hk9, hk10⟩ := chk0 hok
  unfold check_judge_handles
  refine nn_i (ldS_h (g := gj) (o := 1) h rfl (ixC_h hr h (by omega) hx fun p h5 hp => ldA_c (by simp [Go.Ev.ints, h5]) (fun j v => hp h) ?_))
  refine newC_h h fun g w6 h => stW_h (g := g) h rfl (by simp [Go.Ev.ints, h5]) (one_agI _) fun w7 h => ?_
  have h : St w0 w7 (blk g (ints x) :: blk gj [.slice ps.a ps.n ps.c, .slice s.a s.n s.c, .slice sd.a sd.n sd.c, .slice sh.a sh.n sh.c] :: slc 1 sd (ints D) :: slc 1 sh (ints H) :: R) := h
  refine ldI_h (g := g) (o := 0) h (ints_get (by omega)) ?_
  refine joinP_i (fun n w' => (andNotI .i64 n (H.getD i 0) != 0) = !(handlesOk P (H.getD i 0) x) ∧ St w0 w' (blk g (ints x) :: blk gj [.slice ps.a ps.n ps.c, .slice s.a s.n s.c, .slice sd.a sd.n sd.c, .slice sh.a sh.n sh.c] :: slc 1 sd (ints D) :: slc 1 sh (ints H) :: R)) (fun J hJ => ?_) ?_
  · unfold handlesOk at hJ
    refine iteB_i (fun hb => ?_) fun hb => ?_
    · have hb' : (opI x == 9) = true := hb
      have hB := hk9 (by simpa using hb')
      rw [if_pos hb'] at hJ
      refine ldI_h (g := g) (o := 2) h (ints_get (by omega)) ⟨hB.1, hJ _ _ ⟨?_, h⟩⟩
      have := shl_small (a := x.getD 2 0) hB.1 (by omega)
      rw [andNot_sub this.1 this.2, sub_shl hB.1 (by omega)]
    · have hb' : (opI x == 9) = false := hb
      rw [if_neg (by rw [hb']; simp)] at hJ
      refine iteB_i (fun hb => ?_) fun hb => ?_
      · have hb' : (opI x == 10) = true := hb
        have hB := hk10 (by simpa using hb')
        rw [if_pos hb'] at hJ
        refine ldI_h (g := g) (o := 3) h (ints_get (by omega)) ⟨hB.1, hJ _ _ ⟨?_, h⟩⟩
        have := shl_small (a := x.getD 3 0) hB.1 (by omega)
        rw [andNot_sub this.1 this.2, sub_shl hB.1 (by omega)]
      · have hb' : (opI x == 10) = false := hb
        rw [if_neg (by rw [hb']; simp)] at hJ
        refine iteB_i (fun hb => ?_) fun hb => ?_
        · have hb' : (opI x == 8) = true := hb
          have hB := hk8 (by simpa using hb')
          have hlt : x.getD 4 0 < P.length := by
            unfold placesE at hpl
            rw [hb'] at hpl
            by_cases q : x.getD 4 0 ≥ P.length
            · rw [decide_eq_true q] at hpl; simp at hpl
            · omega
          rw [if_pos hb'] at hJ
          have hf : P[(x.getD 4 0).toNat]? = some P[(x.getD 4 0).toNat] := List.getElem?_eq_getElem (by omega)
          have hb2 := hP _ (List.mem_of_getElem? hf)
          refine drew_h h fun w14 h => nn_i (ldS_h (g := gj) (o := 0) h rfl (ldI_h (g := g) (o := 4) h (ints_get (by omega)) ?_))
          refine ixR_h (e := FnR.cells P[(x.getD 4 0).toNat]) hF.rws h (by omega) (by rw [List.getElem?_map, hf]; rfl) fun p hp2 => ldI_i (hp2 h rfl) ?_
          refine hJ _ _ ⟨?_, h⟩
          rw [andNot_sub hb2.1 hb2.2, needs_get hf]
        · have hb' : (opI x == 8) = false := hb
          rw [if_neg (by rw [hb']; simp)] at hJ
          refine hJ _ _ ⟨?_, h⟩
          rw [andNot_sub (by omega) (by omega), sub_zero]
  rintro n w21 ⟨hnn, h⟩
  refine nn_i (ldS_h (g := gj) (o := 3) h rfl (ixI_h (s := sh) (xs := H) h (by omega) (by omega) ?_))
  rw [Int.toNat_natCast, hnn]
  refine iteB_i (fun hb => ?_) fun hb => ?_
  · have hb' : handlesOk P (H.getD i 0) x = false := by simpa using hb
    rw [hb'] at hc; exact hc _ h.drop
  · have hb' : handlesOk P (H.getD i 0) x = true := by simpa using hb
    rw [hb'] at hc; exact hc _ h.drop
end
end Go.Proofs.YtgkfbagclkjilaaGreatDoor.Ck
namespace Go.Proofs.YtgkfbagclkjilaaGreatDoor.Ck
open Go Go.Ev Go.Proofs
theorem st_cast {w0 w : World} {L M : List HP} (h : St w0 w L) (e : L = M) : St w0 w M := e ▸ h
section
variable {P : List FnR} {n : Nat} {D H : List Int} {i : Nat} {x : List Int}
theorem wrong_at {j : Nat} (hj : j < 4) (h0 : ∀ j', j' < j → askE P n D H i x j' = 0) (h1 : (askE P n D H i x j != 0) = true) : wrongF P n D H i x = askE P n D H i x j := by
  unfold wrongF
  match j, hj with
  | 0, _ => rw [if_pos h1]
  | 1, _ => rw [h0 0 (by omega)]; simp [h1]
  | 2, _ => rw [h0 0 (by omega), h0 1 (by omega)]; simp [h1]
  | 3, _ => rw [h0 0 (by omega), h0 1 (by omega), h0 2 (by omega)]; simp
theorem wrong_none (h0 : ∀ j', j' < 4 → askE P n D H i x j' = 0) : wrongF P n D H i x = 0 := by
  unfold wrongF
  rw [h0 0 (by omega), h0 1 (by omega), h0 2 (by omega), h0 3 (by omega)]; simp
end
def faultL (kk : Nat) : Option (Int × Int) → List Int
  | none => [0, 0, 0]
  | some (i, e) => [(kk : Int), i, e]
def judL (gj gk gf gr : Nat) (ps s sd sh : Sl) (D H : List Int) (asks : List Value) (nv : Int) : List HP :=
  [blk gj [.slice ps.a ps.n ps.c, .slice s.a s.n s.c, .slice sd.a sd.n sd.c, .slice sh.a sh.n sh.c], slc 1 sd (ints D), slc 1 sh (ints H), blk gk asks, blk gf [.int .i64 nv, .slice s.a s.n s.c], blk gr (ints [0, 0, 0])]
def asksL (gj : Nat) : List Value := [.func (.func n_check_judge_places) #[.pointer (some ⟨gj, 0, none⟩)] #[], .func (.func n_check_judge_last) #[.pointer (some ⟨gj, 0, none⟩)] #[], .func (.func n_check_judge_scopes) #[.pointer (some ⟨gj, 0, none⟩)] #[], .func (.func n_check_judge_handles) #[.pointer (some ⟨gj, 0, none⟩)] #[]]
theorem callF_2 {orc : Oracle} {id : FuncId} {a b : Value} {w : World} {c : Value → World → Prop} {d : Dec} (e : ∀ args w c, orc (.func id) args w c = d args.toList w c) (h : d [a, b] w c) : callF orc (.func (.func id) #[a] #[]) #[b] w c :=
  callF_i e h
theorem ask_places {a : Addr} {i : Int} {w : World} {c : Value → World → Prop} (h : check_judge_places (some a) i w fun r w => c (.int .i64 r) w) : d_check_judge_places [.pointer (some a), .int .i64 i] w c := h
theorem ask_last {a : Addr} {i : Int} {w : World} {c : Value → World → Prop} (h : check_judge_last (some a) i w fun r w => c (.int .i64 r) w) : d_check_judge_last [.pointer (some a), .int .i64 i] w c := h
theorem ask_scopes {a : Addr} {i : Int} {w : World} {c : Value → World → Prop} (h : check_judge_scopes (some a) i w fun r w => c (.int .i64 r) w) : d_check_judge_scopes [.pointer (some a), .int .i64 i] w c := h
theorem ask_handles {a : Addr} {i : Int} {w : World} {c : Value → World → Prop} (h : check_judge_handles (some a) i w fun r w => c (.int .i64 r) w) : d_check_judge_handles [.pointer (some a), .int .i64 i] w c := h
theorem function_s {w : World} {ps : Sl} {P : List FnR} {kk : Nat} {f : FnR} {k : Array Value → World → Prop} (hF : Funcs5 w ps P) (hk : P[kk]? = some f) (hok : ∀ x ∈ f.code, chk x = 0) (hlen : f.code.length ≤ 128)
    (hP : ∀ f ∈ P, 0 ≤ f.needs ∧ f.needs ≤ 255) (hc : ∀ w', St w w' [] → k (agI (faultL kk (fault1 P f))) w') : check_function #[.slice ps.a ps.n ps.c] (kk : Int) w k := by
  have hcd := (hF.code f (List.mem_of_getElem? hk)).2
  have hsn := hcd.len
  have hpn := hF.len
  unfold check_function check_function_b
  refine newC_h (.nil w) fun g1 w2 h => newC_h h fun g3 w4 h => ldS_h (g := g1) (o := 0) h rfl ?_
  refine ixR_h (e := FnR.cells f) hF.rws h (by omega) (by rw [List.getElem?_map, Int.toNat_natCast, hk]; rfl) fun p hp => ldA_c (e := FnR.cells f) rfl (fun j v => hp h) ?_
  refine newC_h h fun g8 w9 h => stW_h (g := g8) h rfl rfl (by intro v hv; simp [FnR.cells] at hv; rcases hv with rfl | rfl <;> rfl) fun w10 h => drew_h h fun w11 h => ?_
  have h : St w w11 [blk g8 [.int .i64 f.needs, .slice f.sl.a f.sl.n f.sl.c], blk g3 (ints [0, 0, 0]), blk g1 [.slice ps.a ps.n ps.c]] := h
  refine ldW_h (g := g1) h rfl (ldS_h (g := g8) (o := 1) h rfl (ldS_h (g := g8) (o := 1) h rfl (ldW_h (g := g8) h rfl ?_)))
  have h11 := h
  refine depths_s (hcd.ext h.ext) (by omega) fun sd w17 h2 nd => ?_
  have h := h.join h2
  simp only [List.cons_append, List.nil_append] at h
  refine samec_h h11 h (samec_h h11 h (samec_h h11 h ?_))
  have h17 := h
  refine heldL_s (needs := f.needs) (hcd.ext h.ext) (by omega) fun sh w19 h3 nh => ?_
  have h := h.join h3
  simp only [List.cons_append, List.nil_append] at h
  refine samec_h h11 h (samec_h h11 h ?_)
  refine ⟨rfl, ?_⟩
  refine newC_h h fun gj w22 h => newC_h h fun gk w24 h => ?_
  have h : St w w24 (judL gj gk g8 g3 ps f.sl sd sh (depths 0 f.code) (heldL f.code f.needs) (asksL gj) f.needs) := by
    refine St.perm (st_cast (M := [blk gk (asksL gj), blk gj [.slice ps.a ps.n ps.c, .slice f.sl.a f.sl.n f.sl.c, .slice sd.a sd.n sd.c, .slice sh.a sh.n sh.c], slc 1 sh (ints (heldL f.code f.needs)), slc 1 sd (ints (depths 0 f.code)), blk g8 [.int .i64 f.needs, .slice f.sl.a f.sl.n f.sl.c], blk g3 (ints [0, 0, 0])]) (h.rm 6 rfl) (by kernel_rfl)) ?_
    unfold judL; repeat' (first | exact List.Perm.refl _ | refine perm_f 0 rfl ?_ | refine perm_f 1 rfl ?_ | refine perm_f 2 rfl ?_ | refine perm_f 3 rfl ?_ | refine perm_f 4 rfl ?_ | refine perm_f 5 rfl ?_ | refine perm_f 6 rfl ?_ | refine perm_f 7 rfl ?_)
  unfold judL at h
  refine ldS_h (g := g8) (o := 1) h rfl ?_
  have hDl : (depths 0 f.code).length = f.code.length := depths_length _ _
  have hHl : (heldL f.code f.needs).length = f.code.length := heldL_len _ _
  unfold fault1 at hc
  generalize depths 0 f.code = D at h hc hDl
  generalize heldL f.code f.needs = H at h hc hHl
  refine loopP_of (fun (i : Int) w' => ∃ dn rest, f.code = dn ++ rest ∧ i = (dn.length : Int) ∧ funcFault P f.code.length D H 0 f.code = funcFault P f.code.length D H dn.length rest ∧ St w w' (judL gj gk g8 g3 ps f.sl sd sh D H (asksL gj) f.needs)) (fun i _ => ((f.sl.n : Int) - i).toNat) ⟨[], f.code, rfl, rfl, rfl, h⟩ ?_
  rintro _ w28 ⟨dn, rest, hl, rfl, hd, h⟩ C hC
  cases rest with
  | nil =>
    refine iteB_f (by simp only [decide_eq_false_iff_not]; rw [hsn, hl]; simp) ?_
    unfold judL at h
    refine stW_h (g := g3) h rfl rfl (one_agI [0, 0, 0]) fun w39 h => ldW_h (g := g3) h rfl ?_
    rw [hd] at hc
    exact hc _ h.all
  | cons x rest =>
    have hlen2 : f.code.length = dn.length + (rest.length + 1) := by rw [hl]; simp
    have hw1 : IntKind.wrap .i64 ((dn.length : Int) + 1) = ((dn ++ [x]).length : Int) := by rw [wrap_id ⟨by omega, by omega⟩]; simp
    have hx : f.code[dn.length]? = some x := by rw [hl]; simp
    have hcx := hok x (by rw [hl]; simp)
    refine iteB_t (by simp only [decide_eq_true_eq]; omega) ?_
    refine loopP_of (fun (i : Int) w' => ∃ j : Nat, i = (j : Int) ∧ j ≤ 4 ∧ (∀ j', j' < j → askE P f.code.length D H dn.length x j' = 0) ∧ St w w' (judL gj gk g8 g3 ps f.sl sd sh D H (asksL gj) f.needs)) (fun i _ => (4 - i).toNat) ⟨0, rfl, by omega, fun j hj => by omega, h⟩ ?_
    rintro _ w31 ⟨j, rfl, hj4, hz, h⟩ C2 hC2
    refine iteB_i (fun hb => ?_) fun hb => ?_
    · have hj : j < 4 := by have := of_decide_eq_true hb; omega
      have hw2 : IntKind.wrap .i64 ((j : Int) + 1) = ((j + 1 : Nat) : Int) := by rw [wrap_id ⟨by omega, by omega⟩]; simp
      refine ixS_b (by omega) (by omega) ?_
      have fin : ∀ w35, St w w35 (judL gj gk g8 g3 ps f.sl sd sh D H (asksL gj) f.needs) → iteB (askE P f.code.length D H dn.length x j != (0 : Int)) (
            stA 3 w35 ⟨g3, 0, none⟩ #[(.int .i64 (kk : Int)), (.int .i64 (dn.length : Int)), (.int .i64 (askE P f.code.length D H dn.length x j))] fun w37 =>
            ldA 3 w37 ⟨g3, 0, none⟩ fun cs38 =>
            (k cs38 w37)) (
            (C2 (IntKind.wrap .i64 ((j : Int) + (1 : Int))) w35)) := by
        intro w35 h
        refine iteB_i (fun hb => ?_) fun hb => ?_
        · unfold judL at h
          refine stW_h (g := g3) (vs := agI [(kk : Int), (dn.length : Int), askE P f.code.length D H dn.length x j]) h rfl rfl (one_agI _) fun w37 h => ldW_h (g := g3) h rfl ?_
          have hwr := wrong_at hj hz hb
          have e : funcFault P f.code.length D H dn.length (x :: rest) = some ((dn.length : Int), askE P f.code.length D H dn.length x j) := by
            unfold funcFault; rw [hwr, if_pos hb]
          rw [hd, e] at hc
          exact hc _ h.all
        · rw [hw2]
          refine hC2 _ _ ⟨j + 1, rfl, hj, fun j' hj' => ?_, h⟩ (by omega)
          by_cases q : j' = j
          · rw [q]; simpa using hb
          · exact hz j' (by omega)
      unfold judL at h
      match j, hj, hz, fin with
      | 0, _, hz, fin =>
        refine ldV_h (g := gk) (o := 0) h rfl (callF_2 (d := d_check_judge_places) (fun _ _ _ => rfl) (ask_places ?_))
        exact places_s h (hcd) hx hpn fun w35 h => fin w35 h
      | 1, _, hz, fin =>
        refine ldV_h (g := gk) (o := 1) h rfl (callF_2 (d := d_check_judge_last) (fun _ _ _ => rfl) (ask_last ?_))
        exact last_s h hcd hx (by omega) fun w35 h => fin w35 h
      | 2, _, hz, fin =>
        have hp0 : placesE P.length f.code.length x = 0 := hz 0 (by omega)
        refine ldV_h (g := gk) (o := 2) h rfl (callF_2 (d := d_check_judge_scopes) (fun _ _ _ => rfl) (ask_scopes ?_))
        refine scopes_s h hcd hx (by omega) hDl (fun hg => ⟨((chk0 hcx).2.2.1 hg).1, ?_⟩) fun w35 h => fin w35 h
        unfold placesE at hp0
        rw [hg] at hp0
        by_cases q : x.getD 4 0 ≥ f.code.length
        · rw [decide_eq_true q] at hp0; simp at hp0
        · omega
      | 3, _, hz, fin =>
        have hp0 : placesE P.length f.code.length x = 0 := hz 0 (by omega)
        refine ldV_h (g := gk) (o := 3) h rfl (callF_2 (d := d_check_judge_handles) (fun _ _ _ => rfl) (ask_handles ?_))
        exact handles_s h hcd hF hx (by omega) hHl hcx hp0 hP fun w35 h => fin w35 h
    · have hj : j = 4 := by have := of_decide_eq_false hb; omega
      subst hj
      rw [hw1]
      refine hC _ _ ⟨dn ++ [x], rest, by rw [hl]; simp, rfl, ?_, h⟩ (by simp; omega)
      rw [hd]
      have e : (wrongF P f.code.length D H dn.length x != 0) = false := by rw [wrong_none hz]; rfl
      simp [funcFault, e]
end Go.Proofs.YtgkfbagclkjilaaGreatDoor.Ck
namespace Go.Proofs.YtgkfbagclkjilaaGreatDoor.Ck
open Go Go.Ev Go.Proofs
def tri (x : Int × Int × Int) : List Int := [x.1, x.2.1, x.2.2]
theorem firstBad_zero : ∀ {l : List (List Int)} {i : Nat}, (firstBad i l).2 = 0 → ∀ x ∈ l, chk x = 0
  | [], _, _, x, hx => by cases hx
  | y :: l, i, h, x, hx => by
    unfold firstBad at h
    split at h
    · rename_i hb
      simp only at h
      rw [h] at hb; cases hb
    · rename_i hb
      rcases List.mem_cons.1 hx with rfl | hx
      · simpa using hb
      · exact firstBad_zero h x hx
theorem shape_zero {needs : Int} {l : List (List Int)} (h : (shapeF needs l).2 = 0) : 0 ≤ needs ∧ needs ≤ 255 ∧ 1 ≤ l.length ∧ l.length ≤ 128 ∧ ∀ x ∈ l, chk x = 0 := by
  unfold shapeF at h
  split at h
  · cases h
  · rename_i h1
    split at h
    · cases h
    · rename_i h2
      simp only [Bool.or_eq_true, decide_eq_true_eq, not_or] at h1 h2
      exact ⟨by omega, by omega, by omega, by omega, firstBad_zero h⟩
theorem shapes_none : ∀ {l : List FnR} {k : Nat}, shapes k l = none → ∀ f ∈ l, (shapeF f.needs f.code).2 = 0
  | [], _, _, f, hf => by cases hf
  | g :: l, k, h, f, hf => by
    unfold shapes at h
    split at h
    · cases h
    · rename_i hb
      rcases List.mem_cons.1 hf with rfl | hf
      · simpa using hb
      · exact shapes_none h f hf
theorem funcFault_some {P : List FnR} {n : Nat} {D H : List Int} : ∀ {l : List (List Int)} {i : Nat} {a e : Int}, funcFault P n D H i l = some (a, e) → e ≠ 0
  | [], _, _, _, h => by cases h
  | x :: l, i, a, e, h => by
    unfold funcFault at h
    split at h
    · rename_i hb
      cases h
      simpa using hb
    · exact funcFault_some h
theorem program_s {w : World} {ps : Sl} {P : List FnR} {k : Array Value → World → Prop} (hF : Funcs5 w ps P)
    (hc : ∀ w', St w w' [] → k (agI (tri (progF P))) w') : check_Program #[.slice ps.a ps.n ps.c] w k := by
  have hpn := hF.len
  unfold check_Program check_Program_b
  refine newC_h (.nil w) fun g1 w2 h => newC_h h fun g3 w4 h => ?_
  have h : St w w4 [blk g3 (ints [0, 0, 0]), blk g1 [.slice ps.a ps.n ps.c]] := h
  have e1 : decide (((ps.n : Nat) : Int) < 1) = decide (P.length < 1) := by rw [decide_eq_decide]; omega
  have e2 : decide (((ps.n : Nat) : Int) > 32) = decide (P.length > 32) := by rw [decide_eq_decide]; omega
  refine joinP_i (fun b w' => b = (decide (P.length < 1) || decide (P.length > 32)) ∧ w' = w4) (fun J hJ => ?_) ?_
  · refine ldS_h (g := g1) (o := 0) h rfl (iteB_i (fun hb => ?_) fun hb => ?_)
    · exact hJ _ _ ⟨by rw [← e1]; dsimp only at hb; rw [hb]; rfl, rfl⟩
    · refine ldS_h (g := g1) (o := 0) h rfl (hJ _ _ ⟨by rw [← e1, ← e2]; dsimp only at hb; rw [hb]; rfl, rfl⟩)
  rintro b8 w9 ⟨rfl, rfl⟩
  unfold progF at hc
  refine iteB_i (fun hb => ?_) fun hb => ?_
  · rw [hb] at hc
    refine stW_h (g := g3) (vs := agI [-1, -1, 12]) h rfl rfl (one_agI _) fun w10 h => ldW_h (g := g3) h rfl ?_
    exact hc _ h.all
  · rw [hb] at hc
    rw [Bool.or_eq_false_iff] at hb
    have hl1 := of_decide_eq_false hb.1
    have hl2 := of_decide_eq_false hb.2
    refine ldS_h (g := g1) (o := 0) h rfl ?_
    refine joinP_i (fun _ w' => shapes 0 P = none ∧ St w w' [blk g3 (ints [0, 0, 0]), blk g1 [.slice ps.a ps.n ps.c]]) (fun J hJ => ?_) ?_
    · refine loopP_of (fun (i : Int) w' => ∃ dn rest, P = dn ++ rest ∧ i = (dn.length : Int) ∧ shapes 0 P = shapes dn.length rest ∧ St w w' [blk g3 (ints [0, 0, 0]), blk g1 [.slice ps.a ps.n ps.c]]) (fun i _ => ((ps.n : Int) - i).toNat) ⟨[], P, rfl, rfl, rfl, h⟩ ?_
      rintro _ w16 ⟨dn, rest, hl, rfl, hd, h⟩ C hC
      cases rest with
      | nil =>
        refine iteB_f (by simp only [decide_eq_false_iff_not]; rw [hpn, hl]; simp) ?_
        exact hJ _ _ ⟨by rw [hd]; rfl, h⟩
      | cons f rest =>
        have hlen2 : P.length = dn.length + (rest.length + 1) := by rw [hl]; simp
        have hw1 : IntKind.wrap .i64 ((dn.length : Int) + 1) = ((dn ++ [f]).length : Int) := by rw [wrap_id ⟨by omega, by omega⟩]; simp
        have hx : P[dn.length]? = some f := by rw [hl]; simp
        have hcd := (hF.code f (List.mem_of_getElem? hx)).2
        refine iteB_t (by simp only [decide_eq_true_eq]; omega) ?_
        refine ixR_h (e := FnR.cells f) hF.rws h (by omega) (by rw [List.getElem?_map, Int.toNat_natCast, hx]; rfl) fun p hp => ldA_c (e := FnR.cells f) rfl (fun j v => hp h) ?_
        refine newC_h h fun g8 w9 h => stW_h (g := g8) h rfl rfl (by intro v hv; simp [FnR.cells] at hv; rcases hv with rfl | rfl <;> rfl) fun w10 h => ldW_h (g := g8) h rfl ?_
        refine shape_s (needs := f.needs) (s := f.sl) (l := f.code) (hcd.ext h.ext) fun w24 h2 => ?_
        have h := h.drop.on h2.ext
        refine iteB_i (fun hb3 => ?_) fun hb3 => ?_
        · refine stW_h (g := g3) (vs := agI [(dn.length : Int), (shapeF f.needs f.code).1, (shapeF f.needs f.code).2]) h rfl rfl (one_agI _) fun w25 h => ldW_h (g := g3) h rfl ?_
          have e : shapes 0 P = some ((dn.length : Int), (shapeF f.needs f.code).1, (shapeF f.needs f.code).2) := by rw [hd]; unfold shapes; rw [if_pos hb3]
          rw [e] at hc
          exact hc _ h.all
        · rw [hw1]
          refine hC _ _ ⟨dn ++ [f], rest, by rw [hl]; simp, rfl, ?_, h⟩ (by simp; omega)
          have hb3' : ((shapeF f.needs f.code).2 != 0) = false := hb3
          rw [hd]; simp [shapes, hb3']
    rintro _ w28 ⟨hsh, h⟩
    rw [hsh] at hc
    have hall := shapes_none hsh
    have h0 : P[0]? = some P[0] := List.getElem?_eq_getElem (by omega)
    refine ldS_h (g := g1) (o := 0) h rfl ?_
    refine ixR_h (e := FnR.cells P[0]) hF.rws h (by omega) (by rw [List.getElem?_map]; simp [h0]) fun p hp => ldI_i (hp h rfl) ?_
    have hn0 : needsOf P 0 = P[0].needs := needs_get (n := 0) h0
    rw [← hn0]
    refine iteB_i (fun hb => ?_) fun hb => ?_
    · refine stW_h (g := g3) (vs := agI [0, -1, 16]) h rfl rfl (one_agI _) fun w32 h => ldW_h (g := g3) h rfl ?_
      dsimp only at hc
      rw [if_neg (by simp), if_pos hb] at hc
      exact hc _ h.all
    · dsimp only at hc
      rw [if_neg (by simp), if_neg (by rw [hb]; simp)] at hc
      refine ldS_h (g := g1) (o := 0) h rfl ?_
      refine loopP_of (fun (i : Int) w' => ∃ dn rest, P = dn ++ rest ∧ i = (dn.length : Int) ∧ faults P 0 P = faults P dn.length rest ∧ St w w' [blk g3 (ints [0, 0, 0]), blk g1 [.slice ps.a ps.n ps.c]]) (fun i _ => ((ps.n : Int) - i).toNat) ⟨[], P, rfl, rfl, rfl, h⟩ ?_
      rintro _ w37 ⟨dn, rest, hl, rfl, hd, h⟩ C hC
      cases rest with
      | nil =>
        refine iteB_f (by simp only [decide_eq_false_iff_not]; rw [hpn, hl]; simp) ?_
        refine stW_h (g := g3) (vs := agI [0, 0, 0]) h rfl rfl (one_agI _) fun w49 h => ldW_h (g := g3) h rfl ?_
        have e : faults P 0 P = none := by rw [hd]; rfl
        rw [e] at hc
        exact hc _ h.all
      | cons f rest =>
        have hlen2 : P.length = dn.length + (rest.length + 1) := by rw [hl]; simp
        have hw1 : IntKind.wrap .i64 ((dn.length : Int) + 1) = ((dn ++ [f]).length : Int) := by rw [wrap_id ⟨by omega, by omega⟩]; simp
        have hx : P[dn.length]? = some f := by rw [hl]; simp
        have hsf := shape_zero (hall f (List.mem_of_getElem? hx))
        refine iteB_t (by simp only [decide_eq_true_eq]; omega) ?_
        refine ldW_h (g := g1) h rfl ?_
        refine function_s (ps := ps) (P := P) (f := f) (hF.ext h.ext) hx hsf.2.2.2.2 hsf.2.2.2.1 (fun q hq => ⟨(shape_zero (hall q hq)).1, (shape_zero (hall q hq)).2.1⟩) fun w40 h2 => ?_
        have h := h.on h2.ext
        have hfl : (faultL dn.length (fault1 P f)).length = 3 := by cases fault1 P f <;> rfl
        refine newC_h h fun g4 w42 h => stW_h (g := g4) h rfl (by simp [agI, ints, hfl]) (one_agI _) fun w43 h => ldW_h (g := g4) h (by simp [agI, ints, hfl]) ?_
        refine eqA_I (n := 3) hfl (ys := [0, 0, 0]) rfl ?_
        cases hft : fault1 P f with
        | none =>
          refine iteB_f (by simp [faultL]) ?_
          rw [hw1]
          refine hC _ _ ⟨dn ++ [f], rest, by rw [hl]; simp, rfl, ?_, h.drop⟩ (by simp; omega)
          rw [hd]; simp [faults, hft]
        | some q =>
          obtain ⟨i, e⟩ := q
          have hne := funcFault_some hft
          refine iteB_t (by simp [faultL, hne]) ?_
          rw [hft] at h
          refine ldW_h (g := g4) h rfl ?_
          refine stW_h (g := g3) (vs := agI (faultL dn.length (some (i, e)))) h rfl rfl (one_agI _) fun w47 h => ldW_h (g := g3) h rfl ?_
          have e' : faults P 0 P = some ((dn.length : Int), i, e) := by rw [hd]; simp [faults, hft]
          rw [e'] at hc
          exact hc _ h.all
end Go.Proofs.YtgkfbagclkjilaaGreatDoor.Ck
namespace Go.Proofs.YtgkfbagclkjilaaGreatDoor.Ck
open Go Go.Ev Go.Proofs
theorem code_blk {w : World} {g off c : Nat} {flat : List Int} {l : List (List Int)} (hb : Blk w g (agI flat)) (h5 : ∀ x ∈ l, x.length = 5 ∧ ∀ y ∈ x, InI y)
    (hfl : ∀ i, i < l.length → ∀ j, j < 5 → flat[off + i * 5 + j]? = (l.getD i [])[j]?) (few : l.length * 40 ≤ reachBytes) : Code5 w ⟨some ⟨g, off, none⟩, l.length, c⟩ l := by
  refine ⟨⟨by simp, fun i e he => ?_⟩, h5, few⟩
  rw [List.getElem?_map] at he
  cases hx : l[i]? with
  | none => rw [hx] at he; cases he
  | some x =>
    rw [hx] at he
    have he' : e = ints x := by simpa using he.symm
    subst he'
    have hi : i < l.length := (List.getElem?_eq_some_iff.1 hx).1
    have hx5 := (h5 x (List.mem_of_getElem? hx)).1
    refine ⟨by simp [ints, hx5], ⟨g, off, none⟩, rfl, fun j v hv => ?_⟩
    have hj : j < 5 := by have := (List.getElem?_eq_some_iff.1 hv).1; simp [ints, hx5] at this; exact this
    have := hfl i hi j hj
    rw [add_mk, add_mk, hb.cell]
    have e2 : l.getD i [] = x := by simp [hx]
    rw [e2] at this
    simp only [agI, ints, List.getElem?_toArray, List.getElem?_map] at hv ⊢
    rw [this]; exact hv
theorem heldL_eval {l : List (List Int)} {needs : Int} (m : Nat) (hn : l.length ≤ 4294967296) (hl : l ≠ []) (ht : (Fl.steps l m ((Fl0 l.length).meet 0 (andI .i64 needs 255))).todo = []) : heldL l needs = (Fl.steps l m ((Fl0 l.length).meet 0 (andI .i64 needs 255))).held :=
  (held_law hn ⟨ht, fun q => (hl q).elim, fun _ => ⟨m, rfl⟩⟩).symm
end Go.Proofs.YtgkfbagclkjilaaGreatDoor.Ck
namespace Go.Proofs.YtgkfbagclkjilaaGreatDoor.Ck
open Go Go.Ev Go.Proofs
theorem progT : ProgT Tryz.prog 42 43 45 22 24 3 := ⟨⟨_, Tryz.underlying42⟩, by kernel_rfl, by kernel_rfl, by kernel_rfl, Tryz.underlying43, ⟨_, _, Tryz.underlying45, rfl, rfl, rfl, rfl⟩, Tryz.underlying3, by kernel_rfl, by kernel_rfl, by kernel_rfl, by kernel_rfl, Tryz.underlying22, by kernel_rfl, ⟨_, Tryz.underlying24, rfl, rfl⟩, by kernel_rfl⟩
end Go.Proofs.YtgkfbagclkjilaaGreatDoor.Ck
namespace Go.Proofs.YtgkfbagclkjilaaGreatDoor.Ck
open Go Go.Ev Go.Proofs
theorem flat_len {A : Type} {sz : Nat} : ∀ {es : List (List A)}, (∀ e ∈ es, e.length = sz) → es.flatten.length = es.length * sz
  | [], _ => by simp
  | e :: es, h => by
    have := flat_len (es := es) fun x hx => h x (by simp [hx])
    have he := h e (by simp)
    simp only [List.flatten_cons, List.length_append, List.length_cons, Nat.add_mul, Nat.one_mul]; omega
theorem flat_get {A : Type} {sz : Nat} : ∀ {es : List (List A)}, (∀ e ∈ es, e.length = sz) → ∀ {i j : Nat} {e : List A}, es[i]? = some e → j < sz → es.flatten[i * sz + j]? = e[j]?
  | [], _, i, j, e, he, _ => by simp at he
  | x :: es, h, 0, j, e, he, hj => by
    have hx := h x (by simp)
    simp at he; subst he
    rw [List.flatten_cons, Nat.zero_mul, Nat.zero_add, List.getElem?_append_left (by omega)]
  | x :: es, h, i + 1, j, e, he, hj => by
    have hx := h x (by simp)
    rw [List.flatten_cons, List.getElem?_append_right (by rw [hx, Nat.add_mul]; omega), hx, Nat.add_mul, Nat.one_mul]
    rw [show i * sz + sz + j - sz = i * sz + j by omega]
    exact flat_get (fun y hy => h y (by simp [hy])) (by simpa using he) hj
theorem flat_set {A : Type} {sz : Nat} : ∀ {es : List (List A)}, (∀ e ∈ es, e.length = sz) → ∀ {i j : Nat} {e : List A} {v : A}, es[i]? = some e → j < sz → es.flatten.set (i * sz + j) v = (es.set i (e.set j v)).flatten
  | [], _, i, j, e, v, he, _ => by simp at he
  | x :: es, h, 0, j, e, v, he, hj => by
    have hx := h x (by simp)
    simp at he; subst he
    rw [List.flatten_cons, Nat.zero_mul, Nat.zero_add, List.set_append_left (h := by omega)]; rfl
  | x :: es, h, i + 1, j, e, v, he, hj => by
    have hx := h x (by simp)
    rw [List.flatten_cons, List.set_append_right (h := by rw [hx, Nat.add_mul]; omega), hx, Nat.add_mul, Nat.one_mul]
    rw [show i * sz + sz + j - sz = i * sz + j by omega, flat_set (fun y hy => h y (by simp [hy])) (by simpa using he) hj]; rfl
theorem adr_add (p : Addr) (a b : Nat) : (p.add a).add b = p.add (a + b) := by
  by_cases ha : a = 0
  · subst ha; simp [Addr.add]
  · by_cases hb : b = 0
    · subst hb; simp [Addr.add]
    · have : a + b ≠ 0 := by omega
      simp [Addr.add, ha, hb, this, Nat.add_assoc]
theorem sls_rws {sz : Nat} {w : World} {s : Sl} {es : List (List Value)} (h : Sls sz w s es.flatten) (hsz : 0 < sz) (hall : ∀ e ∈ es, e.length = sz) : Rws sz w s es := by
  have hl : es.length * sz = s.n * sz := by rw [← flat_len hall]; exact h.len
  refine ⟨Nat.eq_of_mul_eq_mul_right hsz hl, fun i e he => ?_⟩
  have hlen := hall e (List.mem_of_getElem? he)
  refine ⟨hlen, ?_⟩
  have h0 := flat_get hall he hsz
  obtain ⟨p, hp, _⟩ := h.cell (i * sz + 0) e[0] (by rw [h0]; exact List.getElem?_eq_getElem (by omega))
  refine ⟨p, hp, fun j v hv => ?_⟩
  have hj : j < sz := by have := (List.getElem?_eq_some_iff.1 hv).1; omega
  obtain ⟨p', hp', hc⟩ := h.cell (i * sz + j) v (by rw [flat_get hall he hj]; exact hv)
  rw [hp] at hp'; cases hp'
  rw [adr_add]; exact hc
structure Few (P : List FnR) : Prop where
  n : P.length ≤ 40
  c : ∀ f ∈ P, f.code.length ≤ 140
theorem few_s {w : World} {ps : Sl} {P : List FnR} {k : Bool → World → Prop} (hF : Funcs5 w ps P) (hc : ∀ b w', St w w' [] → (b = true → Few P) → k b w') : pelotonlaw02_Few #[.slice ps.a ps.n ps.c] w k := by
  have hpn := hF.len
  unfold pelotonlaw02_Few
  refine newC_h (.nil w) fun g1 w2 h => ?_
  refine loopP_of (fun (i : Int) w' => ∃ dn rest, P = dn ++ rest ∧ i = (dn.length : Int) ∧ dn.length ≤ 41 ∧ (∀ f ∈ dn, f.code.length ≤ 140) ∧ St w w' [blk g1 [.slice ps.a ps.n ps.c]]) (fun i _ => (41 - i).toNat) ⟨[], P, rfl, rfl, by simp, by simp, h⟩ ?_
  rintro _ w5 ⟨dn, rest, hl, rfl, h41, hd, h⟩ C hC
  refine ldS_h (g := g1) (o := 0) h rfl (iteB_i (fun hb => ?_) fun hb => ?_)
  · simp only [Bool.and_eq_true, decide_eq_true_eq] at hb
    have hlt : dn.length < P.length := by omega
    obtain ⟨f, rest, rfl⟩ : ∃ f r, rest = f :: r := by
      cases rest with
      | nil => rw [hl] at hlt; simp at hlt
      | cons f r => exact ⟨f, r, rfl⟩
    have hx : P[dn.length]? = some f := by rw [hl]; simp
    have hcd := (hF.code f (List.mem_of_getElem? hx)).2
    have hcl := hcd.len
    refine ldS_h (g := g1) (o := 0) h rfl ?_
    refine ixR_h (e := FnR.cells f) hF.rws h (by omega) (by rw [List.getElem?_map, Int.toNat_natCast, hx]; rfl) fun p hp => ldS_i (s := f.sl) (hp h rfl) (iteB_i (fun hb2 => ?_) fun hb2 => ?_)
    · exact hc _ _ h.all fun q => by cases q
    · have hle : f.code.length ≤ 140 := by have := of_decide_eq_false hb2; omega
      have hw1 : IntKind.wrap .i64 ((dn.length : Int) + 1) = ((dn ++ [f]).length : Int) := by rw [wrap_id ⟨by omega, by omega⟩]; simp
      rw [hw1]
      refine hC _ _ ⟨dn ++ [f], rest, by rw [hl]; simp, rfl, by simp; omega, fun q hq => ?_, h⟩ (by simp; omega)
      rcases List.mem_append.1 hq with hq | hq
      · exact hd q hq
      · simp at hq; rw [hq]; exact hle
  · refine ldS_h (g := g1) (o := 0) h rfl (hc _ _ h.all fun q => ?_)
    have hle : P.length ≤ 40 := by have := of_decide_eq_true q; dsimp only at this; omega
    refine ⟨hle, fun f hf => ?_⟩
    cases rest with
    | nil => rw [hl] at hf; simp at hf; exact hd f hf
    | cons g r =>
      have h1 : dn.length < P.length := by rw [hl]; simp
      exfalso
      dsimp only at hb
      rw [decide_eq_true (by omega), decide_eq_true (by omega)] at hb
      cases hb
theorem accepts_s {w : World} {ps : Sl} {P : List FnR} {k : Bool → World → Prop} (hF : Funcs5 w ps P) (hc : ∀ w', St w w' [] → k (decide (tri (progF P) = [0, 0, 0])) w') : check_Accepts #[.slice ps.a ps.n ps.c] w k := by
  unfold check_Accepts check_Accepts_b
  refine newC_h (.nil w) fun g w2 h => ldW_h (g := g) h rfl (program_s (hF.ext h.ext) fun w' h2 => ?_)
  have h := h.on h2.ext
  exact eqA_I (n := 3) (xs := tri (progF P)) (ys := [0, 0, 0]) rfl rfl (hc w' h.all)
def ret : List Int := [16, 0, 0, 0, 0]
end Go.Proofs.YtgkfbagclkjilaaGreatDoor.Ck
namespace Go.Proofs.YtgkfbagclkjilaaGreatDoor.Ck
open Go Go.Ev Go.Proofs
theorem faults_some {P : List FnR} : ∀ {l : List FnR} {k : Nat} {a i e : Int}, faults P k l = some (a, i, e) → ∃ m f, l[m]? = some f ∧ a = ((k + m : Nat) : Int) ∧ fault1 P f = some (i, e)
  | [], _, _, _, _, h => by cases h
  | f :: l, k, a, i, e, h => by
    unfold faults at h
    split at h
    · rename_i i' e' he
      cases h
      exact ⟨0, f, rfl, rfl, he⟩
    · obtain ⟨m, g, h1, h2, h3⟩ := faults_some h
      exact ⟨m + 1, g, by simpa using h1, by rw [h2]; congr 1; omega, h3⟩
section
variable {P : List FnR} {n : Nat} {D H : List Int} {i : Nat} {x : List Int}
end
end Go.Proofs.YtgkfbagclkjilaaGreatDoor.Ck
namespace Go.Proofs.YtgkfbagclkjilaaGreatDoor.Ck
open Go Go.Ev Go.Proofs
def placesB (nf n : Nat) (x : List Int) : Bool := (isGoes x && decide (x.getD 4 0 ≥ n)) || ((opI x == 8) && decide (x.getD 4 0 ≥ nf))
def lastB (n : Nat) (i : Nat) (x : List Int) : Bool := ((i : Int) == (n : Int) - 1) && (opI x != 6) && !isEnds x
section
variable {P : List FnR} {n : Nat} {D H : List Int} {i : Nat} {x : List Int}
theorem wrong_1 (h : placesB P.length n x = true) : wrongF P n D H i x = 10 := by
  have e : askE P n D H i x 0 = 10 := if_pos h
  unfold wrongF; rw [e]; rfl
theorem ask0 (h : placesB P.length n x = false) : askE P n D H i x 0 = 0 := if_neg (by unfold placesB at h; rw [h]; simp)
theorem wrong_2 (h : placesB P.length n x = false) (h2 : lastB n i x = true) : wrongF P n D H i x = 11 := by
  have e : askE P n D H i x 1 = 11 := if_pos h2
  unfold wrongF; rw [ask0 h, e]; rfl
theorem ask1 (h2 : lastB n i x = false) : askE P n D H i x 1 = 0 := if_neg (by unfold lastB at h2; rw [h2]; simp)
theorem wrong_3 (h : placesB P.length n x = false) (h2 : lastB n i x = false) (h3 : scopesOk D i x = false) : wrongF P n D H i x = 15 := by
  have e : askE P n D H i x 2 = 15 := if_neg (by rw [h3]; simp)
  unfold wrongF; rw [ask0 h, ask1 h2, e]; rfl
theorem wrong_4 (h : placesB P.length n x = false) (h2 : lastB n i x = false) (h3 : scopesOk D i x = true) : wrongF P n D H i x = if handlesOk P (H.getD i 0) x then 0 else 16 := by
  have e : askE P n D H i x 2 = 0 := if_pos h3
  unfold wrongF; rw [ask0 h, ask1 h2, e]; rfl
theorem places_in (h : placesB P.length n x = false) : (isGoes x = true → x.getD 4 0 < n) ∧ (opI x = 8 → x.getD 4 0 < P.length) := by
  unfold placesB at h
  rw [Bool.or_eq_false_iff] at h
  refine ⟨fun hg => ?_, fun ho => ?_⟩
  · have := h.1
    rw [hg, Bool.true_and] at this
    have := of_decide_eq_false this
    omega
  · have := h.2
    rw [show (opI x == 8) = true by simpa using ho, Bool.true_and] at this
    have := of_decide_eq_false this
    omega
end
theorem bitB_tb {n h : Int} (hn : InI n) (h0 : 0 ≤ h) (h1 : h < 64) : bitB n h = tb n h.toNat := and1 hn h0 h1
theorem wrong_s {w0 w : World} {ps s sd sh : Sl} {P : List FnR} {l : List (List Int)} {D H : List Int} {R : List HP} {needs : Int} {i : Nat} {x : List Int} {k : Int → World → Prop}
    (h : St w0 w (slc 1 sd (ints D) :: slc 1 sh (ints H) :: R)) (hr : Code5 w0 s l) (hF : Funcs5 w0 ps P) (hx : l[i]? = some x) (hn : l.length ≤ 1000) (hD : D.length = l.length) (hH : H.length = l.length)
    (hok : chk x = 0) (hHb : ∀ v ∈ H, 0 ≤ v ∧ v ≤ 255)
    (hc : ∀ w', St w0 w' (slc 1 sd (ints D) :: slc 1 sh (ints H) :: R) → k (wrongF P l.length D H i x) w') : pelotonref04_wrong #[.slice ps.a ps.n ps.c] #[.int .i64 needs, .slice s.a s.n s.c] (i : Int) sd sh w k := by
  have hsn := hr.len
  have hpn := hF.len
  have hil : i < l.length := (List.getElem?_eq_some_iff.1 hx).1
  obtain ⟨_, _, hkg, hk8, hk9, hk10⟩ := chk0 hok
  unfold pelotonref04_wrong pelotonref04_wrong_b
  refine newC_h h fun g1 w2 h => newC_h h fun g3 w4 h => ldS_h (g := g3) (o := 1) h rfl ?_
  refine ixC_h hr h (by omega) hx fun p h5 hp => ldA_c (by simp [Go.Ev.ints, h5]) (fun j v => hp h) ?_
  refine newC_h h fun g w6 h => stW_h (g := g) h rfl (by simp [Go.Ev.ints, h5]) (one_agI _) fun w10 h => ?_
  have h : St w0 w10 (blk g (ints x) :: blk g3 [.int .i64 needs, .slice s.a s.n s.c] :: blk g1 [.slice ps.a ps.n ps.c] :: slc 1 sd (ints D) :: slc 1 sh (ints H) :: R) := h
  refine joinP_i (fun b w' => b = isGoes x ∧ w' = w10) (fun J hJ => ?_) ?_
  · refine ldI_h (g := g) (o := 0) h (ints_get (by omega)) (iteB_i (fun hb => ?_) fun hb => ?_)
    · have hb' : (opI x == 6) = true := hb
      exact hJ _ _ ⟨by unfold isGoes; rw [hb']; rfl, rfl⟩
    · have hb' : (opI x == 6) = false := hb
      exact ldI_h (g := g) (o := 0) h (ints_get (by omega)) (hJ _ _ ⟨by unfold isGoes; rw [hb']; rfl, rfl⟩)
  rintro b14 w15 ⟨rfl, rfl⟩
  refine joinP_i (fun b w' => b = placesB P.length l.length x ∧ w' = w15) (fun J hJ => ?_) ?_
  · have second : (isGoes x && decide (x.getD 4 0 ≥ l.length)) = false → ldI .i64 w15 (Addr.add ⟨g, 0, none⟩ 0) fun i16 =>
        iteB (i16 == (8 : Int)) (
          ldI .i64 w15 (Addr.add ⟨g, 0, none⟩ 4) fun i17 =>
          ldS w15 (Addr.add ⟨g1, 0, none⟩ 0) fun s19 =>
          (J (decide (i17 ≥ ((s19.n : Nat) : Int))) w15)) (
          (J false w15)) := by
      intro ha
      refine ldI_h (g := g) (o := 0) h (ints_get (by omega)) (iteB_i (fun hb => ?_) fun hb => ?_)
      · refine ldI_h (g := g) (o := 4) h (ints_get (by omega)) (ldS_h (g := g1) (o := 0) h rfl (hJ _ _ ⟨?_, rfl⟩))
        have hb' : (opI x == 8) = true := hb
        unfold placesB
        dsimp only; rw [ha, hb', hpn]; rfl
      · refine hJ _ _ ⟨?_, rfl⟩
        have hb' : (opI x == 8) = false := hb
        unfold placesB
        rw [ha, hb']; rfl
    refine iteB_i (fun hg => ?_) fun hg => ?_
    · refine ldI_h (g := g) (o := 4) h (ints_get (by omega)) (ldS_h (g := g3) (o := 1) h rfl (iteB_i (fun hb => ?_) fun hb => ?_))
      · refine hJ _ _ ⟨?_, rfl⟩
        dsimp only at hb
        rw [hsn] at hb
        unfold placesB
        rw [hg, hb]; rfl
      · dsimp only at hb
        rw [hsn] at hb
        exact second (by rw [hg, hb]; rfl)
    · exact second (by rw [hg]; rfl)
  rintro b25 w26 ⟨rfl, rfl⟩
  refine iteB_i (fun hp1 => ?_) fun hp1 => ?_
  · rw [wrong_1 hp1] at hc; exact hc _ h.drop.drop.drop
  have hin := places_in hp1
  refine joinP_i (fun b w' => b = lastB l.length i x ∧ w' = w26) (fun J hJ => ?_) ?_
  · refine ldS_h (g := g3) (o := 1) h rfl ?_
    have hw : IntKind.wrap .i64 (((s.n : Nat) : Int) - 1) = (l.length : Int) - 1 := by rw [hsn, wrap_id ⟨by omega, by omega⟩]
    dsimp only
    rw [hw]
    unfold lastB isEnds at hJ
    refine iteB_i (fun hb => ?_) fun hb => ?_
    · rw [hb] at hJ
      refine ldI_h (g := g) (o := 0) h (ints_get (by omega)) (iteB_i (fun hb => ?_) fun hb => ?_)
      · have hb' : (opI x != 6) = true := hb
        rw [hb'] at hJ
        refine ldI_h (g := g) (o := 0) h (ints_get (by omega)) (iteB_i (fun hb => ?_) fun hb => ?_)
        · have hb' : (opI x != 16) = true := hb
          have hb2 : (opI x == 16) = false := by simpa [bne] using hb'
          rw [hb2] at hJ
          refine ldI_h (g := g) (o := 0) h (ints_get (by omega)) (hJ _ _ ⟨?_, rfl⟩)
          rfl
        · have hb' : (opI x != 16) = false := hb
          have hb2 : (opI x == 16) = true := by simpa [bne] using hb'
          rw [hb2] at hJ
          exact hJ _ _ ⟨by simp, rfl⟩
      · have hb' : (opI x != 6) = false := hb
        rw [hb'] at hJ
        exact hJ _ _ ⟨by simp, rfl⟩
    · rw [hb] at hJ
      exact hJ _ _ ⟨by simp, rfl⟩
  rintro b32 w33 ⟨rfl, rfl⟩
  refine iteB_i (fun hp2 => ?_) fun hp2 => ?_
  · rw [wrong_2 hp1 hp2] at hc; exact hc _ h.drop.drop.drop
  have hdn : D.length = sd.n := by have := h.slen (sz := 1) (s := sd) (vs := ints D); simpa using this
  have hhn : H.length = sh.n := by have := h.slen (sz := 1) (s := sh) (vs := ints H); simpa using this
  refine joinP_i (fun b w' => b = !scopesOk D i x ∧ St w0 w' (blk g (ints x) :: blk g3 [.int .i64 needs, .slice s.a s.n s.c] :: blk g1 [.slice ps.a ps.n ps.c] :: slc 1 sd (ints D) :: slc 1 sh (ints H) :: R)) (fun J hJ => ?_) ?_
  · refine drew_h h fun w35 h => ?_
    have op : ∀ {c : Int → Prop}, c (opI x) → ldI .i64 w35 (Addr.add ⟨g, 0, none⟩ 0) c := fun hc => ldI_h (g := g) (o := 0) h (ints_get (by omega)) hc
    have dd : ∀ {c : Int → Prop}, c (D.getD i 0) → ixS sd (i : Int) 1 fun a => ldI .i64 w35 a c := fun hc => ixI_h (s := sd) (xs := D) h (by omega) (by omega) (by rw [Int.toNat_natCast]; exact hc)
    have gp : (isGoes x = true → scopesOk D i x = (D.getD (x.getD 4 0).toNat 0 == D.getD i 0)) → (isGoes x = false → scopesOk D i x = true) → iteB (isGoes x) (
                ldI .i64 w35 (Addr.add ⟨g, 0, none⟩ 4) fun i76 =>
                ixS sd i76 1 fun a77 =>
                ldI .i64 w35 a77 fun i78 =>
                ixS sd (i : Int) 1 fun a79 =>
                ldI .i64 w35 a79 fun i80 =>
                (J (i78 != i80) w35)) (
                (J false w35)) := by
      intro h1 h2
      refine iteB_i (fun hg => ?_) fun hg => ?_
      · have := (hkg hg).1; have := hin.1 hg
        refine ldI_h (g := g) (o := 4) h (ints_get (by omega)) (ixI_h (s := sd) (xs := D) h (by omega) (by omega) (dd (hJ _ _ ⟨?_, h⟩)))
        rw [h1 hg]; rfl
      · exact hJ _ _ ⟨by rw [h2 hg]; rfl, h⟩
    have ng : ∀ {o : Int}, opI x = o → o ≠ 6 → o ≠ 7 → isGoes x = false := by
      intro o ho h6 h7
      unfold isGoes; rw [ho]; simp [h6, h7]
    refine op (iteB_i (fun hb => ?_) fun hb => ?_)
    · have ho : opI x = 12 := by simpa using hb
      have hg := ng ho (by decide) (by decide)
      have e : scopesOk D i x = decide (D.getD i 0 ≥ 1) := if_pos (by rw [ho]; rfl)
      refine dd (iteB_i (fun hb => ?_) fun hb => ?_)
      · have := of_decide_eq_true hb
        exact hJ _ _ ⟨by rw [e, decide_eq_false (by omega)]; rfl, h⟩
      · have := of_decide_eq_false hb
        refine op (iteB_f (by rw [ho]; rfl) (gp (fun q => by rw [hg] at q; cases q) fun _ => by rw [e]; exact decide_eq_true (by omega)))
    · have hn12 : (opI x == 12) = false := hb
      refine op (iteB_i (fun hb => ?_) fun hb => ?_)
      · have ho : opI x = 13 := by simpa using hb
        have hg := ng ho (by decide) (by decide)
        have e : scopesOk D i x = decide (D.getD i 0 ≥ 1) := if_pos (by rw [ho]; rfl)
        refine dd (iteB_i (fun hb => ?_) fun hb => ?_)
        · have := of_decide_eq_true hb
          exact hJ _ _ ⟨by rw [e, decide_eq_false (by omega)]; rfl, h⟩
        · have := of_decide_eq_false hb
          refine op (iteB_f (by rw [ho]; rfl) (gp (fun q => by rw [hg] at q; cases q) fun _ => by rw [e]; exact decide_eq_true (by omega)))
      · have hn13 : (opI x == 13) = false := hb
        have e0 : scopesOk D i x = if opI x == 16 then D.getD i 0 == 0 else if isGoes x then D.getD (x.getD 4 0).toNat 0 == D.getD i 0 else true := if_neg (by rw [hn12, hn13]; simp)
        refine op (iteB_i (fun hb => ?_) fun hb => ?_)
        · have ho : opI x = 16 := by simpa using hb
          have hg := ng ho (by decide) (by decide)
          rw [if_pos hb] at e0
          refine dd (iteB_i (fun hb => ?_) fun hb => ?_)
          · have : (D.getD i 0 == 0) = false := by simpa [bne] using hb
            exact hJ _ _ ⟨by rw [e0, this]; rfl, h⟩
          · have : (D.getD i 0 == 0) = true := by simpa [bne] using hb
            exact gp (fun q => by rw [hg] at q; cases q) fun _ => by rw [e0, this]
        · rw [if_neg (by rw [hb]; simp)] at e0
          exact gp (fun q => by rw [e0, if_pos q]) fun q => by rw [e0, if_neg (by rw [q]; simp)]
  rintro b81 w82 ⟨rfl, h⟩
  refine iteB_i (fun hp3 => ?_) fun hp3 => ?_
  · rw [wrong_3 hp1 hp2 (by simpa using hp3)] at hc; exact hc _ h.drop.drop.drop
  rw [wrong_4 hp1 hp2 (by simpa using hp3)] at hc
  have hv : 0 ≤ H.getD i 0 ∧ H.getD i 0 ≤ 255 := by
    have e : H.getD i 0 = H[i] := by simp [show i < H.length by omega]
    rw [e]; exact hHb _ (List.getElem_mem _)
  have hvI : InI (H.getD i 0) := ⟨by omega, by omega⟩
  generalize hhv : H.getD i 0 = hv' at hc hvI
  refine joinP_i (fun b w' => b = (((opI x == 9) && !tb hv' (x.getD 2 0).toNat) || ((opI x == 10) && !tb hv' (x.getD 3 0).toNat)) ∧ St w0 w' (blk g (ints x) :: blk g3 [.int .i64 needs, .slice s.a s.n s.c] :: blk g1 [.slice ps.a ps.n ps.c] :: slc 1 sd (ints D) :: slc 1 sh (ints H) :: R)) (fun J hJ => ?_) ?_
  · refine drew_h h fun w84 h => ?_
    have hh : ∀ {c : Int → Prop}, c hv' → ixS sh (i : Int) 1 fun a => ldI .i64 w84 a c := fun hc => ixI_h (s := sh) (xs := H) h (by omega) (by omega) (by rw [Int.toNat_natCast, hhv]; exact hc)
    have op : ∀ {c : Int → Prop}, c (opI x) → ldI .i64 w84 (Addr.add ⟨g, 0, none⟩ 0) c := fun hc => ldI_h (g := g) (o := 0) h (ints_get (by omega)) hc
    refine op (iteB_i (fun hb => ?_) fun hb => ?_)
    · have ho : opI x = 9 := by simpa using hb
      have hB := hk9 ho
      refine hh (ldI_h (g := g) (o := 2) h (ints_get (by omega)) (bit_s (by omega) (by omega) ?_))
      rw [bitB_tb hvI (by omega) (by omega)]
      rw [ho] at hJ
      refine iteB_i (fun hb => hJ _ _ ⟨by rw [hb]; rfl, h⟩) fun hb => ?_
      refine op (iteB_f (by rw [ho]; rfl) (hJ _ _ ⟨by rw [hb]; rfl, h⟩))
    · have hb9 : (opI x == 9) = false := hb
      rw [hb9] at hJ
      refine op (iteB_i (fun hb => ?_) fun hb => ?_)
      · have ho : opI x = 10 := by simpa using hb
        have hB := hk10 ho
        refine hh (ldI_h (g := g) (o := 3) h (ints_get (by omega)) (bit_s (by omega) (by omega) ?_))
        rw [bitB_tb hvI (by omega) (by omega)]
        refine hJ _ _ ⟨by rw [hb]; rfl, h⟩
      · exact hJ _ _ ⟨by rw [hb]; rfl, h⟩
  rintro b103 w104 ⟨rfl, h⟩
  refine iteB_i (fun hp4 => ?_) fun hp4 => ?_
  · have : handlesOk P hv' x = false := by
      unfold handlesOk
      rw [Bool.or_eq_true, Bool.and_eq_true, Bool.and_eq_true] at hp4
      rcases hp4 with ⟨q, q2⟩ | ⟨q, q2⟩
      · rw [if_pos q]; simpa using q2
      · have ho : opI x = 10 := by simpa using q
        rw [if_neg (by rw [ho]; decide), if_pos q]; simpa using q2
    rw [this] at hc; exact hc _ h.drop.drop.drop
  refine loopP_of (fun (y : Int) w' => ∃ j : Nat, y = (j : Int) ∧ j ≤ 8 ∧ (opI x = 8 → ∀ h', h' < j → tb (needsOf P (x.getD 4 0)) h' = true → tb hv' h' = true) ∧ St w0 w' (blk g (ints x) :: blk g3 [.int .i64 needs, .slice s.a s.n s.c] :: blk g1 [.slice ps.a ps.n ps.c] :: slc 1 sd (ints D) :: slc 1 sh (ints H) :: R)) (fun y _ => (8 - y).toNat) ⟨0, rfl, by omega, fun _ h' hh' => by omega, h⟩ ?_
  rintro _ w107 ⟨j, rfl, hj, hall, h⟩ C hC
  refine iteB_i (fun hb => ?_) fun hb => ?_
  · have hj8 : j < 8 := by have := of_decide_eq_true hb; omega
    have hw2 : IntKind.wrap .i64 ((j : Int) + 1) = ((j + 1 : Nat) : Int) := by rw [wrap_id ⟨by omega, by omega⟩]; simp
    refine joinP_i (fun b w' => b = ((opI x == 8) && (tb (needsOf P (x.getD 4 0)) j && !tb hv' j)) ∧ w' = w107) (fun J hJ => ?_) ?_
    · refine ldI_h (g := g) (o := 0) h (ints_get (by omega)) (iteB_i (fun hb => ?_) fun hb => ?_)
      · have ho : opI x = 8 := by simpa using hb
        have h8 := hk8 ho
        have hlt := hin.2 ho
        have hf : P[(x.getD 4 0).toNat]? = some P[(x.getD 4 0).toNat] := List.getElem?_eq_getElem (by omega)
        have hfI := (hF.code _ (List.mem_of_getElem? hf)).1
        refine ldS_h (g := g1) (o := 0) h rfl (ldI_h (g := g) (o := 4) h (ints_get (by omega)) ?_)
        refine ixR_h (e := FnR.cells P[(x.getD 4 0).toNat]) hF.rws h (by omega) (by rw [List.getElem?_map, hf]; rfl) fun p hp2 => ldI_i (hp2 h rfl) ?_
        refine bit_s (by omega) (by omega) ?_
        rw [bitB_tb hfI (by omega) (by omega), Int.toNat_natCast]
        rw [needs_get hf, ho] at hJ
        refine iteB_i (fun hb => ?_) fun hb => ?_
        · refine ixI_h (s := sh) (xs := H) h (by omega) (by omega) (bit_s (by omega) (by omega) ?_)
          rw [Int.toNat_natCast, hhv, bitB_tb hvI (by omega) (by omega), Int.toNat_natCast]
          exact hJ _ _ ⟨by rw [hb]; rfl, rfl⟩
        · exact hJ _ _ ⟨by rw [hb]; rfl, rfl⟩
      · have hb' : (opI x == 8) = false := hb
        exact hJ _ _ ⟨by rw [hb']; rfl, rfl⟩
    rintro b120 w121 ⟨rfl, rfl⟩
    refine iteB_i (fun hb => ?_) fun hb => ?_
    · simp only [Bool.and_eq_true, Bool.not_eq_true', beq_iff_eq] at hb
      have : handlesOk P hv' x = false := by
        unfold handlesOk
        rw [if_neg (by rw [hb.1]; decide), if_neg (by rw [hb.1]; decide), if_pos (by rw [hb.1]; rfl)]
        cases hs : subBits (needsOf P (x.getD 4 0)) hv' with
        | false => rfl
        | true =>
          have := subBits_iff.1 hs j hj8 hb.2.1
          rw [hb.2.2] at this; cases this
      rw [this] at hc; exact hc _ h.drop.drop.drop
    · rw [hw2]
      refine hC _ _ ⟨j + 1, rfl, hj8, fun ho h' hh' ht => ?_, h⟩ (by omega)
      by_cases q : h' = j
      · subst q
        rw [show (opI x == 8) = true by simpa using ho, ht] at hb
        simpa using hb
      · exact hall ho h' (by omega) ht
  · have hj8 : j = 8 := by have := of_decide_eq_false hb; omega
    subst hj8
    have : handlesOk P hv' x = true := by
      unfold handlesOk
      rw [Bool.or_eq_false_iff] at hp4
      split
      · rename_i q
        have := hp4.1; rw [q] at this; simpa using this
      · split
        · rename_i q
          have := hp4.2; rw [q] at this; simpa using this
        · split
          · rename_i q
            exact subBits_iff.2 fun h' hh' ht => hall (by simpa using q) h' hh' ht
          · rfl
    rw [this] at hc; exact hc _ h.drop.drop.drop
end Go.Proofs.YtgkfbagclkjilaaGreatDoor.Ck
namespace Go.Proofs.YtgkfbagclkjilaaGreatDoor.Ck
open Go Go.Ev Go.Proofs
theorem rprogram_s {w : World} {ps : Sl} {P : List FnR} {k : Array Value → World → Prop} (hF : Funcs5 w ps P) (hfew : Few P)
    (hc : ∀ w', St w w' [] → k (agI (tri (progF P))) w') : pelotonref04_Program #[.slice ps.a ps.n ps.c] w k := by
  have hpn := hF.len
  unfold pelotonref04_Program pelotonref04_Program_b
  refine newC_h (.nil w) fun g1 w2 h => newC_h h fun g3 w4 h => ?_
  have h : St w w4 [blk g3 (ints [0, 0, 0]), blk g1 [.slice ps.a ps.n ps.c]] := h
  have e1 : decide (((ps.n : Nat) : Int) < 1) = decide (P.length < 1) := by rw [decide_eq_decide]; omega
  have e2 : decide (((ps.n : Nat) : Int) > 32) = decide (P.length > 32) := by rw [decide_eq_decide]; omega
  refine joinP_i (fun b w' => b = (decide (P.length < 1) || decide (P.length > 32)) ∧ w' = w4) (fun J hJ => ?_) ?_
  · refine ldS_h (g := g1) (o := 0) h rfl (iteB_i (fun hb => ?_) fun hb => ?_)
    · exact hJ _ _ ⟨by rw [← e1]; dsimp only at hb; rw [hb]; rfl, rfl⟩
    · refine ldS_h (g := g1) (o := 0) h rfl (hJ _ _ ⟨by rw [← e1, ← e2]; dsimp only at hb; rw [hb]; rfl, rfl⟩)
  rintro b8 w9 ⟨rfl, rfl⟩
  unfold progF at hc
  refine iteB_i (fun hb => ?_) fun hb => ?_
  · rw [hb] at hc
    refine stW_h (g := g3) (vs := agI [-1, -1, 12]) h rfl rfl (one_agI _) fun w10 h => ldW_h (g := g3) h rfl ?_
    exact hc _ h.all
  · rw [hb] at hc
    rw [Bool.or_eq_false_iff] at hb
    have hl1 := of_decide_eq_false hb.1
    have hl2 := of_decide_eq_false hb.2
    refine joinP_i (fun _ w' => shapes 0 P = none ∧ St w w' [blk g3 (ints [0, 0, 0]), blk g1 [.slice ps.a ps.n ps.c]]) (fun J hJ => ?_) ?_
    · refine loopP_of (fun (i : Int) w' => ∃ dn rest, P = dn ++ rest ∧ i = (dn.length : Int) ∧ shapes 0 P = shapes dn.length rest ∧ St w w' [blk g3 (ints [0, 0, 0]), blk g1 [.slice ps.a ps.n ps.c]]) (fun i _ => ((ps.n : Int) - i).toNat) ⟨[], P, rfl, rfl, rfl, h⟩ ?_
      rintro _ w16 ⟨dn, rest, hl, rfl, hd, h⟩ C hC
      refine ldS_h (g := g1) (o := 0) h rfl ?_
      cases rest with
      | nil =>
        refine iteB_f (by simp only [decide_eq_false_iff_not]; rw [hpn, hl]; simp) ?_
        exact hJ _ _ ⟨by rw [hd]; rfl, h⟩
      | cons f rest =>
        have hlen2 : P.length = dn.length + (rest.length + 1) := by rw [hl]; simp
        have hw1 : IntKind.wrap .i64 ((dn.length : Int) + 1) = ((dn ++ [f]).length : Int) := by rw [wrap_id ⟨by omega, by omega⟩]; simp
        have hx : P[dn.length]? = some f := by rw [hl]; simp
        have hcd := (hF.code f (List.mem_of_getElem? hx)).2
        refine iteB_t (by simp only [decide_eq_true_eq]; omega) (ldS_h (g := g1) (o := 0) h rfl ?_)
        refine ixR_h (e := FnR.cells f) hF.rws h (by omega) (by rw [List.getElem?_map, Int.toNat_natCast, hx]; rfl) fun p hp => ldA_c (e := FnR.cells f) rfl (fun j v => hp h) ?_
        refine rshape_s (needs := f.needs) (s := f.sl) (l := f.code) (hcd.ext h.ext) fun w24 h2 => ?_
        have h := h.on h2.ext
        refine iteB_i (fun hb3 => ?_) fun hb3 => ?_
        · refine stW_h (g := g3) (vs := agI [(dn.length : Int), (shapeF f.needs f.code).1, (shapeF f.needs f.code).2]) h rfl rfl (one_agI _) fun w25 h => ldW_h (g := g3) h rfl ?_
          have e : shapes 0 P = some ((dn.length : Int), (shapeF f.needs f.code).1, (shapeF f.needs f.code).2) := by rw [hd]; unfold shapes; rw [if_pos hb3]
          rw [e] at hc
          exact hc _ h.all
        · rw [hw1]
          refine hC _ _ ⟨dn ++ [f], rest, by rw [hl]; simp, rfl, ?_, h⟩ (by simp; omega)
          have hb3' : ((shapeF f.needs f.code).2 != 0) = false := hb3
          rw [hd]; simp [shapes, hb3']
    rintro _ w28 ⟨hsh, h⟩
    rw [hsh] at hc
    have hall := shapes_none hsh
    have h0 : P[0]? = some P[0] := List.getElem?_eq_getElem (by omega)
    refine ldS_h (g := g1) (o := 0) h rfl ?_
    refine ixR_h (e := FnR.cells P[0]) hF.rws h (by omega) (by rw [List.getElem?_map]; simp [h0]) fun p hp => ldI_i (hp h rfl) ?_
    have hn0 : needsOf P 0 = P[0].needs := needs_get (n := 0) h0
    rw [← hn0]
    refine iteB_i (fun hb => ?_) fun hb => ?_
    · refine stW_h (g := g3) (vs := agI [0, -1, 16]) h rfl rfl (one_agI _) fun w32 h => ldW_h (g := g3) h rfl ?_
      dsimp only at hc
      rw [if_neg (by simp), if_pos hb] at hc
      exact hc _ h.all
    · dsimp only at hc
      rw [if_neg (by simp), if_neg (by rw [hb]; simp)] at hc
      refine loopP_of (fun (i : Int) w' => ∃ dn rest, P = dn ++ rest ∧ i = (dn.length : Int) ∧ faults P 0 P = faults P dn.length rest ∧ St w w' [blk g3 (ints [0, 0, 0]), blk g1 [.slice ps.a ps.n ps.c]]) (fun i _ => ((ps.n : Int) - i).toNat) ⟨[], P, rfl, rfl, rfl, h⟩ ?_
      rintro _ w37 ⟨dn, rest, hl, rfl, hd, h⟩ C hC
      refine ldS_h (g := g1) (o := 0) h rfl ?_
      cases rest with
      | nil =>
        refine iteB_f (by simp only [decide_eq_false_iff_not]; rw [hpn, hl]; simp) ?_
        refine stW_h (g := g3) (vs := agI [0, 0, 0]) h rfl rfl (one_agI _) fun w49 h => ldW_h (g := g3) h rfl ?_
        have e : faults P 0 P = none := by rw [hd]; rfl
        rw [e] at hc
        exact hc _ h.all
      | cons f rest =>
        have hlen2 : P.length = dn.length + (rest.length + 1) := by rw [hl]; simp
        have hw1 : IntKind.wrap .i64 ((dn.length : Int) + 1) = ((dn ++ [f]).length : Int) := by rw [wrap_id ⟨by omega, by omega⟩]; simp
        have hx : P[dn.length]? = some f := by rw [hl]; simp
        have hmem := List.mem_of_getElem? hx
        obtain ⟨hfN, hcd⟩ := hF.code f hmem
        have hcl := hcd.len
        have hsf := shape_zero (hall f hmem)
        refine iteB_t (by simp only [decide_eq_true_eq]; omega) (ldS_h (g := g1) (o := 0) h rfl ?_)
        refine ixR_h (e := FnR.cells f) hF.rws h (by omega) (by rw [List.getElem?_map, Int.toNat_natCast, hx]; rfl) fun p hp => ldA_c (e := FnR.cells f) rfl (fun j v => hp h) ?_
        refine newC_h h fun g8 w9 h => stW_h (g := g8) h rfl rfl (by intro v hv; simp [FnR.cells] at hv; rcases hv with rfl | rfl <;> rfl) fun w10 h => ?_
        have h : St w w10 [blk g8 [.int .i64 f.needs, .slice f.sl.a f.sl.n f.sl.c], blk g3 (ints [0, 0, 0]), blk g1 [.slice ps.a ps.n ps.c]] := h
        refine ldS_h (g := g8) (o := 1) h rfl ?_
        refine rdepths_s (hcd.ext h.ext) (by omega) fun sd w43 h2 nd => ?_
        have h := h.join h2
        simp only [List.cons_append, List.nil_append] at h
        refine ldW_h (g := g8) h rfl ?_
        refine rheld_s (needs := f.needs) (hcd.ext h.ext) hfN (by omega) fun sh w46 h2 nh => ?_
        have h := h.join h2
        simp only [List.cons_append, List.nil_append] at h
        have h : St w w46 [slc 1 sd (ints (depths 0 f.code)), slc 1 sh (ints (heldL f.code f.needs)), blk g8 [.int .i64 f.needs, .slice f.sl.a f.sl.n f.sl.c], blk g3 (ints [0, 0, 0]), blk g1 [.slice ps.a ps.n ps.c]] := h.swap
        have hDl : (depths 0 f.code).length = f.code.length := depths_length _ _
        have hHl : (heldL f.code f.needs).length = f.code.length := heldL_len _ _
        have hHb : ∀ v ∈ heldL f.code f.needs, 0 ≤ v ∧ v ≤ 255 := by
          intro v hv
          unfold heldL at hv
          obtain ⟨i, _, rfl⟩ := List.mem_map.1 hv
          have := rs_bounds (heldB f.code f.needs (i : Int)) 8
          omega
        have hf1 : fault1 P f = funcFault P f.code.length (depths 0 f.code) (heldL f.code f.needs) 0 f.code := rfl
        generalize depths 0 f.code = D at h hDl hf1
        generalize heldL f.code f.needs = H at h hHl hHb hf1
        refine loopP_of (fun (i : Int) w' => ∃ dn2 rest2, f.code = dn2 ++ rest2 ∧ i = (dn2.length : Int) ∧ fault1 P f = funcFault P f.code.length D H dn2.length rest2 ∧ St w w' [slc 1 sd (ints D), slc 1 sh (ints H), blk g8 [.int .i64 f.needs, .slice f.sl.a f.sl.n f.sl.c], blk g3 (ints [0, 0, 0]), blk g1 [.slice ps.a ps.n ps.c]]) (fun i _ => ((f.code.length : Int) - i).toNat) ⟨[], f.code, rfl, rfl, hf1, h⟩ ?_
        rintro _ w49 ⟨dn2, rest2, hl2', rfl, hd2, h⟩ C2 hC2
        refine ldS_h (g := g8) (o := 1) h rfl ?_
        cases rest2 with
        | nil =>
          refine iteB_f (by simp only [decide_eq_false_iff_not]; rw [hcl, hl2']; simp) ?_
          rw [hw1]
          have e : fault1 P f = none := hd2
          refine hC _ _ ⟨dn ++ [f], rest, by rw [hl]; simp, rfl, ?_, h.drop.drop.drop⟩ (by simp; omega)
          rw [hd]; simp [faults, e]
        | cons x rest2 =>
          have hlen3 : f.code.length = dn2.length + (rest2.length + 1) := by rw [hl2']; simp
          have hw3 : IntKind.wrap .i64 ((dn2.length : Int) + 1) = ((dn2 ++ [x]).length : Int) := by rw [wrap_id ⟨by omega, by omega⟩]; simp
          have hx2 : f.code[dn2.length]? = some x := by rw [hl2']; simp
          have hcx := hsf.2.2.2.2 x (by rw [hl2']; simp)
          refine iteB_t (by simp only [decide_eq_true_eq]; omega) (ldW_h (g := g1) h rfl (ldW_h (g := g8) h rfl ?_))
          refine wrong_s (P := P) (needs := f.needs) h hcd hF hx2 (by omega) hDl hHl hcx hHb fun w54 h => ?_
          refine iteB_i (fun hb => ?_) fun hb => ?_
          · refine stW_h (g := g3) (vs := agI [(dn.length : Int), (dn2.length : Int), wrongF P f.code.length D H dn2.length x]) h rfl rfl (one_agI _) fun w55 h => ldW_h (g := g3) h rfl ?_
            have e : fault1 P f = some ((dn2.length : Int), wrongF P f.code.length D H dn2.length x) := by rw [hd2]; unfold funcFault; rw [if_pos hb]
            have e' : faults P 0 P = some ((dn.length : Int), (dn2.length : Int), wrongF P f.code.length D H dn2.length x) := by rw [hd]; simp [faults, e]
            rw [e'] at hc
            exact hc _ h.all
          · rw [hw3]
            refine hC2 _ _ ⟨dn2 ++ [x], rest2, by rw [hl2']; simp, rfl, ?_, h⟩ (by simp; omega)
            rw [hd2]; simp [funcFault, hb]
theorem shapes_pos : ∀ {l : List FnR} {k : Nat} {x : Int × Int × Int}, shapes k l = some x → x.2.2 ≠ 0
  | [], _, _, h => by cases h
  | f :: l, k, x, h => by
    unfold shapes at h
    split at h
    · rename_i hb; cases h; simpa using hb
    · exact shapes_pos h
theorem progF_zero (P : List FnR) : decide (tri (progF P) = [0, 0, 0]) = ((progF P).2.2 == 0) := by
  rw [Bool.eq_iff_iff, decide_eq_true_eq, beq_iff_eq]
  constructor
  · intro h; unfold tri at h; simp at h; exact h.2.2
  · intro h
    unfold progF at h ⊢
    split
    · rename_i hq; rw [if_pos hq] at h; simp at h
    · rename_i hq
      rw [if_neg hq] at h
      cases hs : shapes 0 P with
      | some x => rw [hs] at h; exact (shapes_pos hs h).elim
      | none =>
        rw [hs] at h
        simp only at h ⊢
        split
        · rename_i hq2; rw [if_pos hq2] at h; simp at h
        · rename_i hq2
          rw [if_neg hq2] at h
          cases hf : faults P 0 P with
          | none => rfl
          | some x =>
            obtain ⟨a, i, e⟩ := x
            rw [hf] at h
            simp only at h
            obtain ⟨m, f, _, _, hfl⟩ := faults_some hf
            exact (funcFault_some hfl h).elim
end Go.Proofs.YtgkfbagclkjilaaGreatDoor.Ck
namespace Go.Proofs.YtgkfbagclkjilaaGreatDoor.Ck
open Go Go.Ev Go.Proofs
structure Acc (P : List FnR) (f : FnR) : Prop where
  n0 : 0 ≤ f.needs
  n1 : f.needs ≤ 255
  l0 : 1 ≤ f.code.length
  l1 : f.code.length ≤ 128
  ok : ∀ x ∈ f.code, chk x = 0
  good : ∀ i x, f.code[i]? = some x → wrongF P f.code.length (depths 0 f.code) (heldL f.code f.needs) i x = 0
structure Accs (P : List FnR) : Prop where
  n0 : 1 ≤ P.length
  n1 : P.length ≤ 32
  root : needsOf P 0 = 0
  all : ∀ f ∈ P, Acc P f
theorem funcFault_none {P : List FnR} {n : Nat} {D H : List Int} : ∀ {l : List (List Int)} {i : Nat}, funcFault P n D H i l = none ↔ ∀ j x, l[j]? = some x → wrongF P n D H (i + j) x = 0
  | [], i => by simp [funcFault]
  | y :: l, i => by
    unfold funcFault
    split
    · rename_i hb
      refine ⟨fun h => (by cases h), fun h => ?_⟩
      have := h 0 y rfl
      rw [Nat.add_zero] at this
      rw [this] at hb; cases hb
    · rename_i hb
      rw [funcFault_none]
      refine ⟨fun h j x hx => ?_, fun h j x hx => ?_⟩
      · cases j with
        | zero => simp at hx; subst hx; simpa using hb
        | succ j => rw [show i + (j + 1) = i + 1 + j by omega]; exact h j x (by simpa using hx)
      · rw [show i + 1 + j = i + (j + 1) by omega]; exact h (j + 1) x (by simpa using hx)
theorem faults_none {P : List FnR} : ∀ {l : List FnR} {k : Nat}, faults P k l = none ↔ ∀ f ∈ l, fault1 P f = none
  | [], k => by simp [faults]
  | g :: l, k => by
    unfold faults
    cases h : fault1 P g with
    | some q =>
      obtain ⟨i, e⟩ := q
      simp only
      exact ⟨fun h => (by cases h), fun h2 => (by have := h2 g (by simp); rw [h] at this; cases this)⟩
    | none =>
      simp only
      rw [faults_none]
      refine ⟨fun h2 f hf => ?_, fun h2 f hf => h2 f (by simp [hf])⟩
      rcases List.mem_cons.1 hf with rfl | hf
      · exact h
      · exact h2 f hf
theorem firstBad_of : ∀ {l : List (List Int)} {i : Nat}, (∀ x ∈ l, chk x = 0) → (firstBad i l).2 = 0
  | [], _, _ => rfl
  | y :: l, i, h => by
    unfold firstBad
    rw [if_neg (by rw [h y (by simp)]; simp)]
    exact firstBad_of fun x hx => h x (by simp [hx])
theorem shapes_of : ∀ {l : List FnR} {k : Nat}, (∀ f ∈ l, (shapeF f.needs f.code).2 = 0) → shapes k l = none
  | [], _, _ => rfl
  | y :: l, k, h => by
    unfold shapes
    rw [if_neg (by rw [h y (by simp)]; simp)]
    exact shapes_of fun x hx => h x (by simp [hx])
theorem accs_iff {P : List FnR} : (progF P).2.2 = 0 ↔ Accs P := by
  constructor
  · intro h
    unfold progF at h
    split at h
    · exfalso; dsimp only at h; omega
    · rename_i hno
      simp only [Bool.or_eq_true, decide_eq_true_eq, not_or] at hno
      cases hs : shapes 0 P with
      | some x => rw [hs] at h; exact (shapes_pos hs h).elim
      | none =>
        rw [hs] at h
        simp only at h
        split at h
        · exfalso; dsimp only at h; omega
        · rename_i hn0
          cases hf : faults P 0 P with
          | some x =>
            obtain ⟨a, i, e⟩ := x
            rw [hf] at h
            simp only at h
            obtain ⟨m, f, _, _, hfl⟩ := faults_some hf
            exact (funcFault_some hfl h).elim
          | none =>
            refine ⟨by omega, by omega, by simpa using hn0, fun f hm => ?_⟩
            obtain ⟨a, b, c, d, e⟩ := shape_zero (shapes_none hs f hm)
            refine ⟨a, b, c, d, e, fun i x hx => ?_⟩
            have h1 := faults_none.1 hf f hm
            unfold fault1 at h1
            have := funcFault_none.1 h1 i x hx
            rwa [Nat.zero_add] at this
  · intro h
    have hs : shapes 0 P = none := shapes_of fun f hf => by
      have := h.all f hf
      have hn0 := this.n0; have hn1 := this.n1; have hl0 := this.l0; have hl1 := this.l1
      unfold shapeF
      rw [if_neg (by simp only [Bool.or_eq_true, decide_eq_true_eq]; omega), if_neg (by simp only [Bool.or_eq_true, decide_eq_true_eq]; omega)]
      exact firstBad_of this.ok
    have hf : faults P 0 P = none := faults_none.2 fun f hf => by
      unfold fault1
      exact funcFault_none.2 fun j x hx => by rw [Nat.zero_add]; exact (h.all f hf).good j x hx
    have hn0 := h.n0; have hn1 := h.n1
    unfold progF
    rw [if_neg (by simp only [Bool.or_eq_true, decide_eq_true_eq]; omega), hs]
    simp only
    rw [if_neg (by rw [h.root]; simp), hf]
structure Good (P : List FnR) (n : Nat) (D H : List Int) (i : Nat) (x : List Int) : Prop where
  places : placesB P.length n x = false
  last : lastB n i x = false
  scopes : scopesOk D i x = true
  handles : handlesOk P (H.getD i 0) x = true
theorem good_iff {P : List FnR} {n : Nat} {D H : List Int} {i : Nat} {x : List Int} : wrongF P n D H i x = 0 ↔ Good P n D H i x := by
  constructor
  · intro h
    cases h1 : placesB P.length n x with
    | true => rw [wrong_1 h1] at h; cases h
    | false =>
      cases h2 : lastB n i x with
      | true => rw [wrong_2 h1 h2] at h; cases h
      | false =>
        cases h3 : scopesOk D i x with
        | false => rw [wrong_3 h1 h2 h3] at h; cases h
        | true =>
          cases h4 : handlesOk P (H.getD i 0) x with
          | false => rw [wrong_4 h1 h2 h3, h4] at h; simp at h
          | true => exact ⟨h1, h2, h3, h4⟩
  · rintro ⟨h1, h2, h3, h4⟩
    rw [wrong_4 h1 h2 h3, h4]; rfl
theorem depths_step : ∀ {l : List (List Int)} {n : Int} {i : Nat}, i + 1 < l.length → (depths n l).getD (i + 1) 0 = stepD ((depths n l).getD i 0) (l.getD i [])
  | [], _, _, h => by simp at h
  | [x], _, i, h => by simp at h
  | x :: y :: l, n, 0, _ => by simp [depths]
  | x :: y :: l, n, i + 1, h => by
    have := depths_step (l := y :: l) (n := stepD n x) (i := i) (by simpa using h)
    simp only [depths, List.getD_cons_succ] at this ⊢
    exact this
structure Walk (P : List FnR) (f : FnR) (hv op at' : Int) : Prop where
  a0 : 0 ≤ at'
  a1 : at' < f.code.length
  inI : InI hv
  bits : ∀ h : Nat, h < 8 → tb hv h = false → tb f.needs h = false ∧ Way f.code h at'
  open' : op = (depths 0 f.code).getD at'.toNat 0
section
variable {P : List FnR} {f : FnR} {hv op at' : Int} {x : List Int}
theorem walk_good (hA : Acc P f) (hW : Walk P f hv op at') (hx : f.code[at'.toNat]? = some x) : Good P f.code.length (depths 0 f.code) (heldL f.code f.needs) at'.toNat x := good_iff.1 (hA.good _ _ hx)
theorem walk_held (hW : Walk P f hv op at') {h : Nat} (hh : h < 8) (ht : tb ((heldL f.code f.needs).getD at'.toNat 0) h = true) : tb hv h = true := by
  have h0 := hW.a0; have h1 := hW.a1
  rw [heldL_get (by omega), tb_rs hh, Int.toNat_of_nonneg h0] at ht
  cases q : tb hv h with
  | true => rfl
  | false =>
    obtain ⟨b1, b2⟩ := hW.bits h hh q
    rcases heldB_iff.1 ht with r | r
    · rw [b1] at r; cases r
    · exact (r b2).elim
theorem walk_to (hn : f.code.length ≤ 128) (hW : Walk P f hv op at') (hx : f.code[at'.toNat]? = some x) {z : Int} {hv' op' : Int} (hz : z ∈ behind f.code.length at' x) (hI : InI hv')
    (hb : ∀ h : Nat, h < 8 → tb hv' h = false → tb hv h = false ∧ forks x h = false) (ho : op' = (depths 0 f.code).getD z.toNat 0) : Walk P f hv' op' z := by
  have h0 := hW.a0; have h1 := hW.a1
  have hin := behind_in (x := x) (n := f.code.length) (i := at') (by omega) h0 h1 z hz
  have hg : f.code.getD at'.toNat [] = x := by simp [hx]
  refine ⟨hin.1, hin.2, hI, fun h hh ht => ?_, ho⟩
  obtain ⟨b1, b2⟩ := hb h hh ht
  obtain ⟨c1, c2⟩ := hW.bits h hh b1
  exact ⟨c1, c2.next (by rw [hg]; exact b2) (by rw [hg]; exact hz)⟩
theorem behind_next (hA : Acc P f) (hW : Walk P f hv op at') (hx : f.code[at'.toNat]? = some x) (h6 : opI x ≠ 6) (h15 : opI x ≠ 15) (h16 : opI x ≠ 16) : at' + 1 ∈ behind f.code.length at' x ∧ at' + 1 < f.code.length := by
  have h0 := hW.a0; have h1 := hW.a1; have hl := hA.l1
  have hg := walk_good hA hW hx
  have he : isEnds x = false := by unfold isEnds; rw [show (opI x == 16) = false by simpa using h16, show (opI x == 15) = false by simpa using h15]; rfl
  have h6' : (opI x != 6) = true := by simpa using h6
  have hlt : at' + 1 < f.code.length := by
    have := hg.last
    unfold lastB at this
    rw [he, h6'] at this
    simp only [Bool.and_true, Bool.not_false, beq_eq_false_iff_ne, ne_eq] at this
    omega
  have hw : IntKind.wrap .i64 (at' + 1) = at' + 1 := wrap_id ⟨by omega, by omega⟩
  refine ⟨?_, hlt⟩
  unfold behind
  have hB : yB f.code.length at' x = true := by unfold yB; rw [he, h6', hw, decide_eq_true hlt]; rfl
  rw [if_pos hB, hw]; simp
theorem behind_goes (hA : Acc P f) (hW : Walk P f hv op at') (hx : f.code[at'.toNat]? = some x) (hgo : isGoes x = true) : x.getD 4 0 ∈ behind f.code.length at' x := by
  have hg := walk_good hA hW hx
  have h1 := (places_in hg.places).1 hgo
  have h2 := (chk0 (hA.ok x (List.mem_of_getElem? hx))).2.2.1 hgo
  unfold behind
  have hB : yA f.code.length x = true := by unfold yA; rw [hgo, decide_eq_true ⟨h2.1, h1⟩]; rfl
  rw [if_pos hB]; simp
theorem depth_next (hW : Walk P f hv op at') (hx : f.code[at'.toNat]? = some x) (hlt : at' + 1 < f.code.length) : (depths 0 f.code).getD (at' + 1).toNat 0 = stepD op x := by
  have h0 := hW.a0
  have e : (at' + 1).toNat = at'.toNat + 1 := by omega
  have hg : f.code.getD at'.toNat [] = x := by simp [hx]
  rw [e, depths_step (by omega), hg, ← hW.open']
theorem forks_not {h : Int} (h8 : opI x ≠ 8) : forks x h = false := by
  unfold forks; rw [show (opI x == 8) = false by simpa using h8]; rfl
theorem walk_next (hA : Acc P f) (hW : Walk P f hv op at') (hx : f.code[at'.toNat]? = some x) (h6 : opI x ≠ 6) (h15 : opI x ≠ 15) (h16 : opI x ≠ 16) (h8 : opI x ≠ 8) : Walk P f hv (stepD op x) (at' + 1) := by
  obtain ⟨hz, hlt⟩ := behind_next hA hW hx h6 h15 h16
  exact walk_to hA.l1 hW hx hz hW.inI (fun h hh ht => ⟨ht, forks_not h8⟩) (depth_next hW hx hlt).symm
theorem walk_goes (hA : Acc P f) (hW : Walk P f hv op at') (hx : f.code[at'.toNat]? = some x) (hgo : isGoes x = true) : Walk P f hv op (x.getD 4 0) := by
  have hg := walk_good hA hW hx
  have ho : opI x = 6 ∨ opI x = 7 := by unfold isGoes at hgo; simpa using hgo
  have h8 : opI x ≠ 8 := by omega
  refine walk_to hA.l1 hW hx (behind_goes hA hW hx hgo) hW.inI (fun h hh ht => ⟨ht, forks_not h8⟩) ?_
  have := hg.scopes
  unfold scopesOk at this
  rw [if_neg (by rcases ho with ho | ho <;> rw [ho] <;> decide), if_neg (by rcases ho with ho | ho <;> rw [ho] <;> decide), if_pos hgo] at this
  rw [hW.open']
  exact (by simpa using this : _ = _).symm
end
end Go.Proofs.YtgkfbagclkjilaaGreatDoor.Ck
namespace Go.Proofs.YtgkfbagclkjilaaGreatDoor.Ck
open Go Go.Ev Go.Proofs
theorem inI_or (x y : Int) : InI (orI .i64 x y) := by rw [orI_bv]; exact inI_toInt _
theorem walk_start {P : List FnR} {f : FnR} (hA : Acc P f) (hN : InI f.needs) : Walk P f f.needs 0 0 := by
  have := hA.l0
  refine ⟨by omega, by omega, hN, fun h hh ht => ⟨ht, .zero⟩, ?_⟩
  cases hc : f.code with
  | nil => rw [hc] at this; simp at this
  | cons x l => rfl
end Go.Proofs.YtgkfbagclkjilaaGreatDoor.Ck
namespace Go.Proofs.YtgkfbagclkjilaaGreatDoor
open Go Go.Ev Go.Proofs
open Go.Proofs.YtgkfbagclkjilaaGreatDoor.Fr (fTo fOn fPlain fForked fJoined fClosed fChild fRoot fR isB fTo_len fOn_len fPlain_len fForked_len fJoined_len fClosed_len)
open Go.Proofs.YtgkfbagclkjilaaGreatDoor.Ck (opI Walk Accs needsOf isGoes heldL depths stepD handlesOk subBits scopesOk forks)
structure Rw where
  par : Int
  inn : Int
  fn : Int
  kind : Int
  v : Int
  steps : Int
  cl : List Bool
deriving DecidableEq
structure Tk where
  f : List Int
  row : Nat
  sc : List (Bool × Int)
  opened : Int
  nest : Nat
  off : Bool
deriving DecidableEq
structure Mc where
  rows : List Rw
  steps : Int
deriving DecidableEq
def insAt (P : List FnR) (f : List Int) : List Int := match P[(f.getD 0 0).toNat]? with
  | some g => g.code.getD (f.getD 1 0).toNat []
  | none => []
def r0 : Rw := ⟨0, 0, 0, 0, 0, 0, []⟩
def Mc.fin (m : Mc) (row : Nat) (f : List Int) (kind v : Int) : Mc := { m with rows := m.rows.set row { m.rows.getD row r0 with kind := kind, v := v, steps := f.getD 18 0 } }
def Mc.told (m : Mc) (row : Nat) (b : Bool) : Mc := { m with rows := m.rows.set row { m.rows.getD row r0 with cl := (m.rows.getD row r0).cl ++ [b] } }
def isPt (op : Int) : Bool := decide (6 ≤ op ∧ op ≤ 14 ∧ op ≠ 13)
inductive Stp where
  | fin (m : Mc)
  | bad (e : Int)
  | go (t : Tk) (m : Mc)
  | fork (c : Tk) (m : Mc) (i : List Int)
def hOf (i : List Int) : Int := i.getD (if i.getD 0 0 = 10 then 3 else 2) 0
def rOf (i : List Int) (t : Tk) (m : Mc) : Rw := m.rows.getD (t.f.getD (10 + (hOf i).toNat) 0).toNat r0
def act (P : List FnR) (i : List Int) (t : Tk) (m : Mc) : Stp :=
  if i.getD 0 0 = 8 then .fork ⟨fChild t.f (i.getD 4 0) (needsOf P (i.getD 4 0)), m.rows.length, [(false, 0)], 0, t.nest + t.sc.length, t.off || t.sc.any (·.1)⟩ { m with rows := m.rows ++ [⟨t.row, (t.sc.headD (false, 0)).2, i.getD 4 0, 0, 0, 0, []⟩] } i
  else if i.getD 0 0 = 9 ∨ i.getD 0 0 = 10 then
    if (fJoined t.f i (rOf i t m).kind (rOf i t m).v).2.2
    then .fin (m.fin t.row (fJoined t.f i (rOf i t m).kind (rOf i t m).v).1 3 (fJoined t.f i (rOf i t m).kind (rOf i t m).v).2.1)
    else .go { t with f := (fJoined t.f i (rOf i t m).kind (rOf i t m).v).1 } m
  else if i.getD 0 0 = 11 then .go { t with f := fOn t.f, sc := (false, t.opened + 1) :: t.sc, opened := t.opened + 1 } m
  else if i.getD 0 0 = 12 then .go { t with f := fClosed t.f i (t.sc.headD (false, 0)).1, sc := t.sc.tail } (m.told t.row (t.sc.headD (false, 0)).1)
  else if i.getD 0 0 = 13 then .go { t with f := fOn t.f, sc := (true, (t.sc.headD (false, 0)).2) :: t.sc.tail } m
  else if i.getD 0 0 = 14 then .go { t with f := fOn t.f } m
  else .fin (m.fin t.row (fOn t.f) (if i.getD 0 0 = 15 then 3 else 2) (fR (fOn t.f) (i.getD 1 0)))
def stp (P : List FnR) (F : Int) (t : Tk) (m : Mc) : Stp :=
  if t.off && ((t.f.getD 18 0 == 0) || isPt ((insAt P t.f).getD 0 0)) then .fin (m.fin t.row t.f 4 0)
  else if m.steps ≥ F then .bad 22
  else if ((insAt P t.f).getD 0 0 = 8 ∨ (insAt P t.f).getD 0 0 = 11) ∧ 32 ≤ t.nest + t.sc.length then .bad 23
  else if (fPlain t.f (insAt P t.f)).2 then .go { t with f := (fPlain t.f (insAt P t.f)).1 } { m with steps := m.steps + 1 }
  else act P (insAt P t.f) t { m with steps := m.steps + 1 }
inductive Res where
  | ok (m : Mc)
  | bad (e : Int)
inductive Goes (P : List FnR) (F : Int) : Tk → Mc → Res → Prop where
  | fin {t m m'} : stp P F t m = .fin m' → Goes P F t m (.ok m')
  | bad {t m e} : stp P F t m = .bad e → Goes P F t m (.bad e)
  | go {t m t' m' r} : stp P F t m = .go t' m' → Goes P F t' m' r → Goes P F t m r
  | forkBad {t m c m1 i e} : stp P F t m = .fork c m1 i → Goes P F c m1 (.bad e) → Goes P F t m (.bad e)
  | fork {t m c m1 i m2 r} : stp P F t m = .fork c m1 i → Goes P F c m1 (.ok m2) → Goes P F { t with f := fForked t.f i c.row } m2 r → Goes P F t m r
theorem Goes.det {P : List FnR} {F : Int} {t : Tk} {m : Mc} {r : Res} (h : Goes P F t m r) : ∀ {r' : Res}, Goes P F t m r' → r = r' := by
  induction h with
  | fin h =>
    intro r' h'
    cases h' with
    | fin h2 => rw [h] at h2; cases h2; rfl
    | bad h2 => rw [h] at h2; cases h2
    | go h2 => rw [h] at h2; cases h2
    | forkBad h2 => rw [h] at h2; cases h2
    | fork h2 => rw [h] at h2; cases h2
  | bad h =>
    intro r' h'
    cases h' with
    | fin h2 => rw [h] at h2; cases h2
    | bad h2 => rw [h] at h2; cases h2; rfl
    | go h2 => rw [h] at h2; cases h2
    | forkBad h2 => rw [h] at h2; cases h2
    | fork h2 => rw [h] at h2; cases h2
  | go h _ ih =>
    intro r' h'
    cases h' with
    | fin h2 => rw [h] at h2; cases h2
    | bad h2 => rw [h] at h2; cases h2
    | go h2 h3 => rw [h] at h2; cases h2; exact ih h3
    | forkBad h2 => rw [h] at h2; cases h2
    | fork h2 => rw [h] at h2; cases h2
  | forkBad h _ ih =>
    intro r' h'
    cases h' with
    | fin h2 => rw [h] at h2; cases h2
    | bad h2 => rw [h] at h2; cases h2
    | go h2 => rw [h] at h2; cases h2
    | forkBad h2 h3 => rw [h] at h2; cases h2; exact ih h3
    | fork h2 h3 => rw [h] at h2; cases h2; have := ih h3; cases this
  | fork h _ _ ih1 ih2 =>
    intro r' h'
    cases h' with
    | fin h2 => rw [h] at h2; cases h2
    | bad h2 => rw [h] at h2; cases h2
    | go h2 => rw [h] at h2; cases h2
    | forkBad h2 h3 => rw [h] at h2; cases h2; have := ih1 h3; cases this
    | fork h2 h3 h4 => rw [h] at h2; cases h2; have := ih1 h3; cases this; exact ih2 h4
theorem act_steps {P : List FnR} {i : List Int} {t : Tk} {m : Mc} : (∀ m', act P i t m = .fin m' → m'.steps = m.steps) ∧ (∀ e, act P i t m ≠ .bad e) ∧ (∀ t' m', act P i t m = .go t' m' → m'.steps = m.steps ∧ t'.row = t.row ∧ t'.nest = t.nest ∧ t'.off = t.off) ∧ ∀ c m' j, act P i t m = .fork c m' j → m'.steps = m.steps ∧ j = i ∧ i.getD 0 0 = 8 := by
  unfold act
  repeat' split
  all_goals refine ⟨fun m' h => ?_, fun e h => ?_, fun t' m' h => ?_, fun c m' j h => ?_⟩
  all_goals cases h
  all_goals first | rfl | exact ⟨rfl, rfl, rfl, rfl⟩ | (refine ⟨rfl, rfl, ?_⟩; assumption)
theorem stp_fin {P : List FnR} {F : Int} {t : Tk} {m m' : Mc} (h : stp P F t m = .fin m') : m.steps ≤ m'.steps ∧ m'.steps ≤ m.steps + 1 ∧ (m'.steps ≤ F ∨ m'.steps = m.steps) := by
  unfold stp at h
  split at h
  · cases h; exact ⟨Int.le_refl _, by show m.steps ≤ m.steps + 1; omega, .inr rfl⟩
  · split at h
    · cases h
    · split at h
      · cases h
      · split at h
        · cases h
        · have := act_steps.1 m' h; dsimp only at this; exact ⟨by omega, by omega, .inl (by omega)⟩
theorem stp_go {P : List FnR} {F : Int} {t t' : Tk} {m m' : Mc} (h : stp P F t m = .go t' m') : m.steps < F ∧ m'.steps = m.steps + 1 ∧ t'.row = t.row ∧ t'.nest = t.nest ∧ t'.off = t.off := by
  unfold stp at h
  split at h
  · cases h
  · split at h
    · cases h
    · split at h
      · cases h
      · split at h
        · cases h; exact ⟨by omega, rfl, rfl, rfl, rfl⟩
        · have := act_steps.2.2.1 t' m' h; dsimp only at this; exact ⟨by omega, by omega, this.2.1, this.2.2.1, this.2.2.2⟩
theorem stp_fork {P : List FnR} {F : Int} {t c : Tk} {m m' : Mc} {i : List Int} (h : stp P F t m = .fork c m' i) : m.steps < F ∧ m'.steps = m.steps + 1 ∧ i = insAt P t.f ∧ i.getD 0 0 = 8 ∧ t.nest + t.sc.length < 32
    ∧ c = ⟨fChild t.f (i.getD 4 0) (needsOf P (i.getD 4 0)), m.rows.length, [(false, 0)], 0, t.nest + t.sc.length, t.off || t.sc.any (·.1)⟩ ∧ m'.rows = m.rows ++ [⟨t.row, (t.sc.headD (false, 0)).2, i.getD 4 0, 0, 0, 0, []⟩] := by
  unfold stp at h
  split at h
  · cases h
  · split at h
    · cases h
    · split at h
      · cases h
      · rename_i hno
        split at h
        · cases h
        · have := act_steps.2.2.2 c m' i h
          dsimp only at this
          obtain ⟨e1, e2, e3⟩ := this
          subst e2
          unfold act at h
          rw [if_pos e3] at h
          cases h
          exact ⟨by omega, e1, rfl, e3, by omega, rfl, rfl⟩
theorem Goes.le {P : List FnR} {F : Int} {t : Tk} {m : Mc} {r : Res} (h : Goes P F t m r) : ∀ {m' : Mc}, r = .ok m' → m.steps ≤ m'.steps ∧ (m.steps ≤ F → m'.steps ≤ F) := by
  induction h with
  | fin h => intro m' e; cases e; have := stp_fin h; exact ⟨this.1, fun q => by omega⟩
  | bad h => intro m' e; cases e
  | go h _ ih => intro m' e; have h2 := ih e; have h3 := stp_go h; exact ⟨by omega, fun q => h2.2 (by omega)⟩
  | forkBad h _ ih => intro m' e; cases e
  | fork h _ _ ih1 ih2 => intro m' e; have h1 := ih1 rfl; have h2 := ih2 e; have := stp_fork h; exact ⟨by omega, fun q => h2.2 (h1.2 (by omega))⟩
theorem fTo_get {f : List Int} {pc : Int} {j : Nat} (h1 : j ≠ 1) (h18 : j ≠ 18) : (fTo f pc).getD j 0 = f.getD j 0 := by
  unfold fTo
  simp only [List.getD_eq_getElem?_getD, List.getElem?_set_ne (Ne.symm h18), List.getElem?_set_ne (Ne.symm h1)]
theorem fTo_pc {f : List Int} {pc : Int} (h : 1 < f.length) : (fTo f pc).getD 1 0 = pc := by
  unfold fTo
  simp only [List.getD_eq_getElem?_getD, List.getElem?_set_ne (by decide : (18 : Nat) ≠ 1)]
  rw [List.getElem?_set_self h]; rfl
theorem fTo_st {f : List Int} {pc : Int} (h : f.length = 19) : (fTo f pc).getD 18 0 = IntKind.i64.wrap (f.getD 18 0 + 1) := by
  unfold fTo
  simp only [List.getD_eq_getElem?_getD]
  rw [List.getElem?_set_self (by simp; omega), List.getElem?_set_ne (by decide : (1 : Nat) ≠ 18)]; rfl
theorem set_get {f : List Int} {j i : Nat} {v : Int} (h : i ≠ j) : (f.set i v).getD j 0 = f.getD j 0 := by
  simp only [List.getD_eq_getElem?_getD, List.getElem?_set_ne h]
theorem set_at {f : List Int} {i : Nat} {v : Int} (h : i < f.length) : (f.set i v).getD i 0 = v := by
  simp [List.getD_eq_getElem?_getD, h]
structure Kp (f f' : List Int) (pc : Int) : Prop where
  len : f'.length = f.length
  fn : f'.getD 0 0 = f.getD 0 0
  pc : f'.getD 1 0 = pc
  st : f'.getD 18 0 = IntKind.i64.wrap (f.getD 18 0 + 1)
  hs : ∀ h : Nat, h < 8 → f'.getD (10 + h) 0 = f.getD (10 + h) 0
theorem kp_to {f : List Int} {pc : Int} (h : f.length = 19) : Kp f (fTo f pc) pc :=
  ⟨fTo_len, fTo_get (by decide) (by decide), fTo_pc (by omega), fTo_st h, fun k hk => fTo_get (by omega) (by omega)⟩
theorem kp_on {f : List Int} (h : f.length = 19) (h0 : 0 ≤ f.getD 1 0) (h1 : f.getD 1 0 < 1000) : Kp f (fOn f) (f.getD 1 0 + 1) := by
  have := kp_to (pc := f.getD 1 0 + 1) h
  unfold Fr.fOn
  rwa [wrap_id ⟨by omega, by omega⟩]
theorem kp_set {f f' : List Int} {pc : Int} {r : Nat} {v : Int} (hr : r < 8) (k : Kp (f.set (2 + r) v) f' pc) : Kp f f' pc :=
  ⟨by rw [k.len, List.length_set], by rw [k.fn, set_get (by omega)], k.pc, by rw [k.st, set_get (by omega)], fun h hh => by rw [k.hs h hh, set_get (by omega)]⟩
theorem kinds_same : ∀ op, op < 17 → ∀ j, j < 4 → ((Ck.kflat.drop (op * 4)).take 4).getD j 0 = Fr.kindsT.getD (4 * op + j) 0 := by decide
theorem span_same (k : Int) : Ck.spanOf k = Fr.spanV k := by
  unfold Ck.spanOf Fr.spanV
  by_cases h1 : k = 1
  · subst h1; rfl
  by_cases h2 : k = 2
  · subst h2; rfl
  by_cases h3 : k = 3
  · subst h3; rfl
  by_cases h4 : k = 4
  · subst h4; rfl
  by_cases h5 : k = 5
  · subst h5; rfl
  rw [if_neg h1, if_neg h2, if_neg h3, if_neg h4, if_neg h5]
  simp [beq_eq_false_iff_ne.2 h1, beq_eq_false_iff_ne.2 h2, beq_eq_false_iff_ne.2 h3, beq_eq_false_iff_ne.2 h4, beq_eq_false_iff_ne.2 h5]
theorem chk_fr {x : List Int} (h : Ck.chk x = 0) : Fr.chk x = 0 := by
  unfold Ck.chk at h
  split at h
  · cases h
  · rename_i hno
    split at h
    · rename_i hf
      unfold opI at hno hf
      refine Fr.chk_good (by omega) fun j hj => ?_
      unfold Ck.fits at hf
      rw [List.all_eq_true] at hf
      have := hf j (by simpa using hj)
      unfold Ck.fit Ck.kinds at this
      rw [kinds_same _ (by omega) j hj, span_same] at this
      unfold Fr.inSpan Fr.spanOf
      simp only [Bool.not_eq_true', Bool.or_eq_false_iff, decide_eq_false_iff_not] at this
      simp only [decide_eq_true_eq]
      omega
    · cases h
end Go.Proofs.YtgkfbagclkjilaaGreatDoor
namespace Go.Proofs.YtgkfbagclkjilaaGreatDoor
open Go Go.Ev Go.Proofs
open Go.Proofs.YtgkfbagclkjilaaGreatDoor.Fr (fTo fOn fPlain fForked fJoined fClosed fChild fRoot fR isB fTo_len fOn_len fPlain_len fForked_len fJoined_len fClosed_len)
open Go.Proofs.YtgkfbagclkjilaaGreatDoor.Ck (opI Walk Accs needsOf isGoes heldL depths stepD handlesOk subBits scopesOk forks)
def Ended (rows : List Rw) (j : Nat) : Prop := ∃ r, rows[j]? = some r ∧ (r.kind = 2 ∨ r.kind = 3 ∨ r.kind = 4)
def More (a b : List Rw) : Prop := a.length ≤ b.length ∧ ∀ j, Ended a j → Ended b j
theorem More.refl (a : List Rw) : More a a := ⟨Nat.le_refl _, fun _ h => h⟩
theorem More.trans {a b c : List Rw} (h : More a b) (k : More b c) : More a c := ⟨Nat.le_trans h.1 k.1, fun j q => k.2 j (h.2 j q)⟩
theorem More.app (a : List Rw) (r : Rw) : More a (a ++ [r]) := ⟨by simp, fun j ⟨x, hx, hk⟩ => ⟨x, by rw [List.getElem?_append_left (List.getElem?_eq_some_iff.1 hx).1]; exact hx, hk⟩⟩
theorem More.set {a : List Rw} {i : Nat} {r : Rw} (h : i < a.length) (hr : r.kind = (a.getD i r0).kind ∨ r.kind = 2 ∨ r.kind = 3 ∨ r.kind = 4) : More a (a.set i r) := by
  refine ⟨by simp, fun j ⟨x, hx, hk⟩ => ?_⟩
  by_cases e : i = j
  · subst e
    refine ⟨r, by rw [List.getElem?_set_self h], ?_⟩
    rcases hr with hr | hr
    · rw [List.getD_eq_getElem?_getD, hx] at hr
      simp only [Option.getD_some] at hr
      rw [hr]; exact hk
    · exact hr
  · exact ⟨x, by rw [List.getElem?_set_ne e]; exact hx, hk⟩
def Hds (rows : List Rw) (f : List Int) (hv : Int) : Prop := ∀ h : Nat, h < 8 → tb hv h = true → 0 ≤ f.getD (10 + h) 0 ∧ Ended rows (f.getD (10 + h) 0).toNat
structure Inv (P : List FnR) (t : Tk) (m : Mc) : Prop where
  len : t.f.length = 19
  row : t.row < m.rows.length
  sc : t.sc ≠ []
  nest : t.nest + t.sc.length ≤ 32
  f0 : 0 ≤ t.f.getD 0 0
  fn : ∃ g, P[(t.f.getD 0 0).toNat]? = some g ∧ ∃ hv, Walk P g hv ((t.sc.length : Int) - 1) (t.f.getD 1 0) ∧ Hds m.rows t.f hv
section
variable {P : List FnR} {F : Int} {t : Tk} {m : Mc}
structure At1 (P : List FnR) (t : Tk) (m : Mc) (g : FnR) (hv : Int) (i : List Int) : Prop where
  at0 : P[(t.f.getD 0 0).toNat]? = some g
  acc : Ck.Acc P g
  walk : Walk P g hv ((t.sc.length : Int) - 1) (t.f.getD 1 0)
  hds : Hds m.rows t.f hv
  ins : g.code[(t.f.getD 1 0).toNat]? = some i
  chk : Ck.chk i = 0
  good : Ck.Good P g.code.length (depths 0 g.code) (heldL g.code g.needs) (t.f.getD 1 0).toNat i
theorem Inv.at (hA : Accs P) (h : Inv P t m) : ∃ g hv, At1 P t m g hv (insAt P t.f) := by
  obtain ⟨g, hg, hv, hW, hH⟩ := h.fn
  have hacc := hA.all g (List.mem_of_getElem? hg)
  have h0 := hW.a0; have h1 := hW.a1
  have e : insAt P t.f = g.code.getD (t.f.getD 1 0).toNat [] := by unfold insAt; rw [hg]
  have hlt : (t.f.getD 1 0).toNat < g.code.length := by omega
  have hi : g.code[(t.f.getD 1 0).toNat]? = some (insAt P t.f) := by
    rw [e, List.getD_eq_getElem?_getD (l := g.code), List.getElem?_eq_getElem hlt, Option.getD_some]
  exact ⟨g, hv, hg, hacc, hW, hH, hi, hacc.ok _ (List.mem_of_getElem? hi), Ck.walk_good hacc hW hi⟩
theorem isB_of {i : List Int} {op : Int} (hc : Ck.chk i = 0) (h : i.getD 0 0 = op) : isB i op = true := by unfold Fr.isB; rw [h, chk_fr hc]; simp
theorem plain_keep {f i : List Int} (hc : Ck.chk i = 0) (hf : f.length = 19) (h0 : 0 ≤ f.getD 1 0) (h1 : f.getD 1 0 < 1000) (hp : (fPlain f i).2 = true) :
    (isGoes i = true ∧ Kp f (fPlain f i).1 (i.getD 4 0)) ∨ (opI i ≤ 7 ∧ opI i ≠ 6 ∧ Kp f (fPlain f i).1 (f.getD 1 0 + 1)) := by
  have hr := Fr.chk_regs (chk_fr hc)
  unfold opI
  revert hp
  unfold Fr.fPlain
  rw [if_neg (by rw [chk_fr hc]; simp)]
  split
  · rename_i hb
    intro _
    exact .inl ⟨by
      rcases hb with hb | hb
      · show ((i.getD 0 0 == 6) || (i.getD 0 0 == 7)) = true; rw [hb]; rfl
      · show ((i.getD 0 0 == 6) || (i.getD 0 0 == 7)) = true; rw [hb.1]; rfl, kp_to hf⟩
  · split
    · rename_i hb
      intro _
      exact .inr ⟨by omega, by omega, kp_on hf h0 h1⟩
    · split
      · intro q; cases q
      · rename_i h6 h7 h5
        intro _
        have hlt : (i.getD 1 0).toNat < 8 := by omega
        refine .inr ⟨by omega, by omega, kp_set (r := (i.getD 1 0).toNat) (v := Fr.sumV f i) hlt ?_⟩
        have := kp_on (f := f.set (2 + (i.getD 1 0).toNat) (Fr.sumV f i)) (by simpa using hf) (by rw [set_get (by omega)]; exact h0) (by rw [set_get (by omega)]; exact h1)
        rwa [set_get (by omega)] at this
theorem plain_not {f i : List Int} (hc : Ck.chk i = 0) (hp : (fPlain f i).2 = false) : 8 ≤ i.getD 0 0 ∧ i.getD 0 0 ≤ 16 := by
  have hk := Ck.chk0 hc
  unfold opI at hk
  revert hp
  unfold Fr.fPlain
  rw [if_neg (by rw [chk_fr hc]; simp)]
  split
  · intro q; cases q
  · split
    · intro q; cases q
    · split
      · rename_i h6 h7 h5
        intro _
        omega
      · intro q; cases q
theorem joined_keep {f i : List Int} {kind v : Int} (hc : Ck.chk i = 0) (hf : f.length = 19) (h0 : 0 ≤ f.getD 1 0) (h1 : f.getD 1 0 < 1000) (ho : i.getD 0 0 = 9 ∨ i.getD 0 0 = 10) (hk : kind = 2 ∨ kind = 3 ∨ kind = 4)
    (hb : (fJoined f i kind v).2.2 = false) : Kp f (fJoined f i kind v).1 (f.getD 1 0 + 1) := by
  have hr := Fr.chk_regs (chk_fr hc)
  revert hb
  unfold Fr.fJoined
  rw [if_neg (by rcases ho with ho | ho <;> rw [isB_of hc ho] <;> simp <;> omega)]
  split
  · intro _
    have := kp_on (f := (f.set (2 + (i.getD 1 0).toNat) (if kind = 4 then 0 else v)).set (2 + (i.getD 2 0).toNat) (IntKind.i64.wrap (kind - 2))) (by simpa using hf) (by rw [set_get (by omega), set_get (by omega)]; exact h0) (by rw [set_get (by omega), set_get (by omega)]; exact h1)
    rw [set_get (by omega), set_get (by omega)] at this
    exact kp_set (by omega) (kp_set (by omega) this)
  · split
    · intro _
      have := kp_on (f := (f.set (2 + (i.getD 1 0).toNat) v)) (by simpa using hf) (by rw [set_get (by omega)]; exact h0) (by rw [set_get (by omega)]; exact h1)
      rw [set_get (by omega)] at this
      exact kp_set (by omega) this
    · intro q; cases q
theorem closed_keep {f i : List Int} {b : Bool} (hc : Ck.chk i = 0) (hf : f.length = 19) (h0 : 0 ≤ f.getD 1 0) (h1 : f.getD 1 0 < 1000) (ho : i.getD 0 0 = 12) : Kp f (fClosed f i b) (f.getD 1 0 + 1) := by
  have hr := Fr.chk_regs (chk_fr hc)
  unfold Fr.fClosed
  rw [if_pos (isB_of hc ho)]
  have := kp_on (f := f.set (2 + (i.getD 1 0).toNat) (if b then 1 else 0)) (by simpa using hf) (by rw [set_get (by omega)]; exact h0) (by rw [set_get (by omega)]; exact h1)
  rw [set_get (by omega)] at this
  exact kp_set (by omega) this
theorem child_get {f : List Int} {n needs : Int} (hf : f.length = 19) : (fChild f n needs).length = 19 ∧ (fChild f n needs).getD 0 0 = n ∧ (fChild f n needs).getD 1 0 = 0 ∧ (fChild f n needs).getD 18 0 = 0 ∧ ∀ h : Nat, h < 8 → (fChild f n needs).getD (10 + h) 0 = if tb needs h then f.getD (10 + h) 0 else -1 := by
  obtain ⟨x0, x1, x2, x3, x4, x5, x6, x7, x8, x9, x10, x11, x12, x13, x14, x15, x16, x17, x18, rfl⟩ := Fr.list19 hf
  refine ⟨rfl, rfl, rfl, rfl, fun h hh => ?_⟩
  match h, hh with
  | 0, _ => rfl
  | 1, _ => rfl
  | 2, _ => rfl
  | 3, _ => rfl
  | 4, _ => rfl
  | 5, _ => rfl
  | 6, _ => rfl
  | 7, _ => rfl
theorem forked_get {f i : List Int} {id : Int} (hc : Ck.chk i = 0) (h8 : i.getD 0 0 = 8) (hf : f.length = 19) (h0 : 0 ≤ f.getD 1 0) (h1 : f.getD 1 0 < 1000) : (fForked f i id).length = 19 ∧ (fForked f i id).getD 0 0 = f.getD 0 0 ∧ (fForked f i id).getD 1 0 = f.getD 1 0 + 1
    ∧ (fForked f i id).getD 18 0 = IntKind.i64.wrap (f.getD 18 0 + 1) ∧ ∀ h : Nat, h < 8 → (fForked f i id).getD (10 + h) 0 = if i.getD 1 0 = h then id else f.getD (10 + h) 0 := by
  have hr := Fr.chk_regs (chk_fr hc)
  unfold Fr.fForked
  rw [if_pos (isB_of hc h8)]
  have k := kp_on (f := f.set (10 + (i.getD 1 0).toNat) id) (by simpa using hf) (by rw [set_get (by omega)]; exact h0) (by rw [set_get (by omega)]; exact h1)
  refine ⟨by rw [k.len, List.length_set, hf], by rw [k.fn, set_get (by omega)], by rw [k.pc, set_get (by omega)], ?_, fun h hh => ?_⟩
  · rw [k.st]
    by_cases e : 10 + (i.getD 1 0).toNat = 18
    · omega
    · rw [set_get e]
  · rw [k.hs h hh]
    split
    · rename_i e
      have : 10 + (i.getD 1 0).toNat = 10 + h := by omega
      rw [this, set_at (by omega)]
    · rw [set_get (by omega)]
end
end Go.Proofs.YtgkfbagclkjilaaGreatDoor
namespace Go.Proofs.YtgkfbagclkjilaaGreatDoor.Ft
open Go Go.Ev Go.Proofs Go.Proofs.YtgkfbagclkjilaaGreatDoor
open Go.Proofs.YtgkfbagclkjilaaGreatDoor.Fr (fTo fOn fPlain fForked fJoined fClosed fChild fRoot fR isB fTo_len fOn_len fPlain_len fForked_len fJoined_len fClosed_len)
open Go.Proofs.YtgkfbagclkjilaaGreatDoor.Ck (opI Walk Accs needsOf isGoes heldL depths stepD handlesOk subBits scopesOk forks)
structure Rb where
  par : Int
  inn : Int
  fn : Int
  kind : Int
  v : Int
  steps : Int
  cl : ByteArray
def rb0 : Rb := ⟨0, 0, 0, 0, 0, 0, ByteArray.mk #[]⟩
def rbV (r : Rb) : List Value := [.int .i64 r.par, .int .i64 r.inn, .int .i64 r.fn, .int .i64 r.kind, .int .i64 r.v, .int .i64 r.steps, .string r.cl]
def rowAt (l : List Rb) (i : Int) : Rb := l.getD i.toNat rb0
def withinP (l : List Rb) : Nat → Int → Int → Bool
  | 0, _, _ => false
  | n + 1, i, o => if i < 0 ∨ (l.length : Int) ≤ i then false else if i = o then true else withinP l n (rowAt l i).par o
def tPlace (l : List Rb) (i : Int) : Bool :=
  if i = 0 then (rowAt l i).par == -1 else decide (0 ≤ (rowAt l i).par) && (decide ((rowAt l i).par < i) && withinP l l.length (i - 1) (rowAt l i).par)
def tSpan (i : Int) (r : Rb) : Bool :=
  decide (0 ≤ r.inn) && ((decide (0 < i) || (r.inn == 0)) && (decide (0 ≤ r.fn) && (decide (r.fn < 32) && (decide (0 ≤ r.kind) && (decide (r.kind ≤ 4) && (decide (0 ≤ r.steps) && decide (r.steps ≤ 1048576)))))))
def is01 (b : ByteArray) : Bool := b.data.toList.all fun c => c == 48 || c == 49
def tState (l : List Rb) (i : Int) (r : Rb) : Bool :=
  !(r.v != 0 && (r.kind != 2 && r.kind != 3)) && (!(r.kind == 0 && (r.steps != 0 || r.cl.size != 0)) && (i == 0 || ((rowAt l r.par).kind != 0 && (!(decide (2 ≤ (rowAt l r.par).kind)) || decide (2 ≤ r.kind)))))
def tRow (l : List Rb) (i : Int) : Int :=
  if tPlace l i = false then 11 else if tSpan i (rowAt l i) = false then 10 else if is01 (rowAt l i).cl = false then 11 else if tState l i (rowAt l i) = false then 19 else 0
def tChk (l : List Rb) : Nat → Int → Int
  | 0, _ => 0
  | n + 1, i => if tRow l i = 0 then tChk l n (i + 1) else tRow l i
def tcheck (l : List Rb) : Int := if l.length = 0 then 17 else tChk l l.length 0
def kidsL (l : List Rb) (i : Int) : List Int := ((List.range l.length).filter fun k : Nat => (rowAt l (k : Int)).par == i).map fun k : Nat => (k : Int)
theorem tChk_zero {l : List Rb} : ∀ {n : Nat} {i : Int}, tChk l n i = 0 → ∀ j : Int, i ≤ j → j < i + n → tRow l j = 0
  | 0, i, _, j, h1, h2 => by omega
  | n + 1, i, h, j, h1, h2 => by
    unfold tChk at h
    split at h
    · rename_i h0
      by_cases e : j = i
      · rw [e]; exact h0
      · exact tChk_zero h j (by omega) (by omega)
    · rename_i h0; exact absurd h h0
structure TRow (l : List Rb) (i : Int) : Prop where
  place : tPlace l i = true
  span : tSpan i (rowAt l i) = true
  told : is01 (rowAt l i).cl = true
  state : tState l i (rowAt l i) = true
theorem tRow_zero {l : List Rb} {i : Int} (h : tRow l i = 0) : TRow l i := by
  unfold tRow at h
  split at h
  · cases h
  split at h
  · cases h
  split at h
  · cases h
  split at h
  · cases h
  exact ⟨by simpa using ‹¬ tPlace l i = false›, by simpa using ‹¬ tSpan i (rowAt l i) = false›, by simpa using ‹¬ is01 (rowAt l i).cl = false›, by simpa using ‹¬ tState l i (rowAt l i) = false›⟩
theorem tcheck_row {l : List Rb} (h : tcheck l = 0) : l.length ≠ 0 ∧ ∀ i : Nat, i < l.length → TRow l i := by
  unfold tcheck at h
  split at h
  · cases h
  · rename_i hn
    exact ⟨hn, fun i hi => tRow_zero (tChk_zero h i (by omega) (by omega))⟩
theorem mem_kids {l : List Rb} {i k : Int} : k ∈ kidsL l i ↔ 0 ≤ k ∧ k < l.length ∧ (rowAt l k).par = i := by
  unfold kidsL
  simp only [List.mem_map, List.mem_filter, List.mem_range, beq_iff_eq]
  constructor
  · rintro ⟨n, ⟨h1, h2⟩, rfl⟩; exact ⟨by omega, by omega, h2⟩
  · rintro ⟨h0, h1, h2⟩
    exact ⟨k.toNat, ⟨by omega, by rw [Int.toNat_of_nonneg h0]; exact h2⟩, Int.toNat_of_nonneg h0⟩
structure Rn where
  f : List Int
  kids : List Int
  cl : List UInt8
  last : Int × Int
  opened : Int
  kind : Int
  v : Int
structure Bk where
  beg : Int → Option (List Int × (Int × Int))
  sc : Int × Int → Option ((Int × Int) × Bool)
def upd {K V : Type} [DecidableEq K] (φ : K → Option V) (k : K) (y : V) : K → Option V := fun q => if q = k then some y else φ q
def sc0 : (Int × Int) × Bool := ((0, 0), false)
def bg0 : List Int × (Int × Int) := ([0, 0, 0, 0, 0, 0, 0, 0, 0, 0, 0, 0, 0, 0, 0, 0, 0, 0, 0], (0, 0))
def Bk.s (b : Bk) (k : Int × Int) : (Int × Int) × Bool := (b.sc k).getD sc0
def fact (P : List FnR) (l : List Rb) (q : Bool) (row : Int) (i : List Int) (r : Rn) (b : Bk) : Option (Rn × Bk) :=
  if i.getD 0 0 = 8 then
    match r.kids with
    | [] => none
    | k :: ks => some ({ r with f := fForked r.f i k, kids := ks }, { b with beg := upd b.beg k (fChild r.f (i.getD 4 0) (needsOf P (i.getD 4 0)), r.last) })
  else if i.getD 0 0 = 9 ∨ i.getD 0 0 = 10 then
    if (rowAt l (r.f.getD (10 + (hOf i).toNat) 0)).kind < 2 then none
    else if (fJoined r.f i (rowAt l (r.f.getD (10 + (hOf i).toNat) 0)).kind (rowAt l (r.f.getD (10 + (hOf i).toNat) 0)).v).2.2
    then some ({ r with f := (fJoined r.f i (rowAt l (r.f.getD (10 + (hOf i).toNat) 0)).kind (rowAt l (r.f.getD (10 + (hOf i).toNat) 0)).v).1, kind := 3, v := (fJoined r.f i (rowAt l (r.f.getD (10 + (hOf i).toNat) 0)).kind (rowAt l (r.f.getD (10 + (hOf i).toNat) 0)).v).2.1 }, b)
    else some ({ r with f := (fJoined r.f i (rowAt l (r.f.getD (10 + (hOf i).toNat) 0)).kind (rowAt l (r.f.getD (10 + (hOf i).toNat) 0)).v).1 }, b)
  else if i.getD 0 0 = 11 then some ({ r with f := fOn r.f, opened := r.opened + 1, last := (row, r.opened + 1) }, { b with sc := upd b.sc (row, r.opened + 1) (r.last, false) })
  else if i.getD 0 0 = 12 then
    match r.cl with
    | [] => none
    | c :: cs =>
      if ((b.s r.last).2 && !(c == 49)) || (q && !((c == 49) == (b.s r.last).2)) then none
      else some ({ r with f := fClosed r.f i (c == 49), cl := cs, last := (b.s r.last).1 }, b)
  else if i.getD 0 0 = 13 then some ({ r with f := fOn r.f }, { b with sc := upd b.sc r.last ((b.s r.last).1, true) })
  else if i.getD 0 0 = 14 then some ({ r with f := fOn r.f }, b)
  else some ({ r with f := fOn r.f, kind := if i.getD 0 0 = 15 then 3 else 2, v := fR r.f (i.getD 1 0) }, b)
def fstp (P : List FnR) (l : List Rb) (q : Bool) (row : Int) (r : Rn) (b : Bk) : Option (Rn × Bk) :=
  if r.kind ≠ 0 then none
  else if (fPlain r.f (insAt P r.f)).2 then some ({ r with f := (fPlain r.f (insAt P r.f)).1 }, b)
  else fact P l q row (insAt P r.f) r b
def frun (P : List FnR) (l : List Rb) (q : Bool) (row : Int) : Nat → Rn → Bk → Option (Rn × Bk)
  | 0, r, b => some (r, b)
  | n + 1, r, b => match fstp P l q row r b with | none => none | some (r', b') => frun P l q row n r' b'
inductive Ask (sc : Int × Int → Option ((Int × Int) × Bool)) : Int × Int → Bool → Prop where
  | world : Ask sc (-1, 0) false
  | yes {s a} : s ≠ (-1, 0) → sc s = some (a, true) → Ask sc s true
  | up {s a b} : s ≠ (-1, 0) → sc s = some (a, false) → Ask sc a b → Ask sc s b
theorem Ask.det {sc : Int × Int → Option ((Int × Int) × Bool)} {s : Int × Int} {x y : Bool} (h : Ask sc s x) : Ask sc s y → x = y := by
  induction h generalizing y with
  | world => intro k; cases k with
    | world => rfl
    | yes n _ => exact absurd rfl n
    | up n _ _ => exact absurd rfl n
  | yes n e => intro k; cases k with
    | world => exact absurd rfl n
    | yes _ _ => rfl
    | up _ e2 _ => rw [e] at e2; cases e2
  | up n e _ ih => intro k; cases k with
    | world => exact absurd rfl n
    | yes _ e2 => rw [e] at e2; cases e2
    | up _ e2 h2 => rw [e] at e2; cases e2; exact ih h2
noncomputable def askB (sc : Int × Int → Option ((Int × Int) × Bool)) (s : Int × Int) : Bool := @decide (Ask sc s true) (Classical.propDecidable _)
theorem Ask.b {sc : Int × Int → Option ((Int × Int) × Bool)} {s : Int × Int} {x : Bool} (h : Ask sc s x) : askB sc s = x := by
  unfold askB
  cases x with
  | true => simp [h]
  | false =>
    simp only [decide_eq_false_iff_not]
    intro k; have := h.det k; cases this
noncomputable def fends (P : List FnR) (q : Bool) (x : Rb) (r : Rn) (b : Bk) (inn : Int × Int) : Bool :=
  if x.kind = 2 ∨ x.kind = 3 then (r.kind == x.kind) && (r.v == x.v)
  else if x.kind = 4 then (if (r.kind != 0 || (q && !(askB b.sc inn))) then false else (x.steps == 0) || isPt ((insAt P r.f).getD 0 0))
  else true
def Bk.at (b : Bk) (i : Int) : List Int × (Int × Int) := (b.beg i).getD bg0
def rn0 (l : List Rb) (i : Int) (at' : List Int × (Int × Int)) : Rn := ⟨at'.1, kidsL l i, (rowAt l i).cl.data.toList, (i, 0), 0, 0, 0⟩
noncomputable def frow (P : List FnR) (l : List Rb) (q : Bool) (i : Int) (b : Bk) : Option Bk :=
  if (rowAt l i).fn ≠ (b.at i).1.getD 0 0 ∨ (rowAt l i).inn ≠ (b.at i).2.2 then none
  else if (rowAt l i).kind = 0 then some b
  else match frun P l q i (rowAt l i).steps.toNat (rn0 l i (b.at i)) { b with sc := upd b.sc (i, 0) ((b.at i).2, false) } with
    | none => none
    | some (r, b') => if r.kids.length = 0 ∧ r.cl.length = 0 ∧ fends P q (rowAt l i) r b' (b.at i).2 = true then some b' else none
def bk0 : Bk := ⟨upd (fun _ => none) 0 (fRoot, (-1, 0)), fun _ => none⟩
noncomputable def fgo (P : List FnR) (l : List Rb) (q : Bool) : Nat → Int → Bk → Int × Int
  | 0, _, _ => (0, 0)
  | n + 1, i, b => match frow P l q i b with | none => (i, 25) | some b' => fgo P l q n (i + 1) b'
noncomputable def fitsF (P : List FnR) (l : List Rb) (q : Bool) : Int × Int :=
  if ¬ (Ck.progF P).2.2 = 0 then (0, 24) else if ¬ tcheck l = 0 then (0, tcheck l) else fgo P l q l.length 0 bk0
structure FB (P : List FnR) (f : List Int) : Prop where
  len : f.length = 19
  f0 : 0 ≤ f.getD 0 0
  fn : ∃ g, P[(f.getD 0 0).toNat]? = some g
structure FI (P : List FnR) (Q : Int → Prop) (f : List Int) (d : Int) : Prop where
  len : f.length = 19
  f0 : 0 ≤ f.getD 0 0
  fn : ∃ g, P[(f.getD 0 0).toNat]? = some g ∧ ∃ hv, Walk P g hv d (f.getD 1 0) ∧ ∀ h : Nat, h < 8 → tb hv h = true → Q (f.getD (10 + h) 0)
theorem FI.b {P : List FnR} {Q : Int → Prop} {f : List Int} {d : Int} (h : FI P Q f d) : FB P f := ⟨h.len, h.f0, by obtain ⟨g, hg, _⟩ := h.fn; exact ⟨g, hg⟩⟩
theorem FI.mono {P : List FnR} {Q R : Int → Prop} {f : List Int} {d : Int} (h : FI P Q f d) (hq : ∀ j, Q j → R j) : FI P R f d := ⟨h.len, h.f0, by
  obtain ⟨g, hg, hv, hW, hH⟩ := h.fn
  exact ⟨g, hg, hv, hW, fun k hk ht => hq _ (hH k hk ht)⟩⟩
structure FAt (P : List FnR) (Q : Int → Prop) (f : List Int) (d : Int) (g : FnR) (hv : Int) (i : List Int) : Prop where
  at0 : P[(f.getD 0 0).toNat]? = some g
  acc : Ck.Acc P g
  walk : Walk P g hv d (f.getD 1 0)
  hds : ∀ h : Nat, h < 8 → tb hv h = true → Q (f.getD (10 + h) 0)
  ins : g.code[(f.getD 1 0).toNat]? = some i
  chk : Ck.chk i = 0
  good : Ck.Good P g.code.length (depths 0 g.code) (heldL g.code g.needs) (f.getD 1 0).toNat i
section
variable {P : List FnR} {Q : Int → Prop} {f : List Int} {d : Int} {g : FnR} {hv : Int} {i : List Int} {l : List Rb} {q : Bool} {row : Int} {r : Rn} {b : Bk}
theorem FI.at (hA : Accs P) (h : FI P Q f d) : ∃ g hv, FAt P Q f d g hv (insAt P f) := by
  obtain ⟨g, hg, hv, hW, hH⟩ := h.fn
  have hacc := hA.all g (List.mem_of_getElem? hg)
  have h0 := hW.a0; have h1 := hW.a1
  have e : insAt P f = g.code.getD (f.getD 1 0).toNat [] := by unfold insAt; rw [hg]
  have hlt : (f.getD 1 0).toNat < g.code.length := by omega
  have hi : g.code[(f.getD 1 0).toNat]? = some (insAt P f) := by
    rw [e, List.getD_eq_getElem?_getD (l := g.code), List.getElem?_eq_getElem hlt, Option.getD_some]
  exact ⟨g, hv, hg, hacc, hW, hH, hi, hacc.ok _ (List.mem_of_getElem? hi), Ck.walk_good hacc hW hi⟩
theorem fi_next {f' : List Int} {d' : Int} (h : FI P Q f d) (ha : FAt P Q f d g hv i) (h6 : opI i ≠ 6) (h15 : opI i ≠ 15) (h16 : opI i ≠ 16) (h8 : opI i ≠ 8) (hk : Kp f f' (f.getD 1 0 + 1)) (hl : d' = stepD d i) : FI P Q f' d' := by
  refine ⟨by rw [hk.len, h.len], by rw [hk.fn]; exact h.f0, g, by rw [hk.fn]; exact ha.at0, hv, ?_, fun k hk' ht => by rw [hk.hs k hk']; exact ha.hds k hk' ht⟩
  rw [hl, hk.pc]
  exact Ck.walk_next ha.acc ha.walk ha.ins h6 h15 h16 h8
theorem fi_goes {f' : List Int} (h : FI P Q f d) (ha : FAt P Q f d g hv i) (hgo : isGoes i = true) (hk : Kp f f' (i.getD 4 0)) : FI P Q f' d := by
  refine ⟨by rw [hk.len, h.len], by rw [hk.fn]; exact h.f0, g, by rw [hk.fn]; exact ha.at0, hv, ?_, fun k hk' ht => by rw [hk.hs k hk']; exact ha.hds k hk' ht⟩
  rw [hk.pc]
  exact Ck.walk_goes ha.acc ha.walk ha.ins hgo
theorem fat_pc (ha : FAt P Q f d g hv i) : 0 ≤ f.getD 1 0 ∧ f.getD 1 0 < 1000 := by
  have h0 := ha.walk.a0; have h1 := ha.walk.a1; have := ha.acc.l1
  omega
theorem fat_join (ha : FAt P Q f d g hv i) (h : i.getD 0 0 = 9 ∨ i.getD 0 0 = 10) : 0 ≤ hOf i ∧ hOf i < 8 ∧ Q (f.getD (10 + (hOf i).toNat) 0) := by
  have hr := Fr.chk_regs (chk_fr ha.chk)
  have hg := ha.good.handles
  unfold handlesOk at hg
  unfold opI at hg
  unfold hOf
  rcases h with h | h
  · rw [if_neg (by omega)]
    rw [if_pos (by rw [h]; rfl)] at hg
    exact ⟨hr.2.1.1, hr.2.1.2, ha.hds _ (by omega) (Ck.walk_held ha.walk (by omega) hg)⟩
  · rw [if_pos h]
    rw [if_neg (by rw [h]; decide), if_pos (by rw [h]; rfl)] at hg
    exact ⟨hr.2.2.1, hr.2.2.2, ha.hds _ (by omega) (Ck.walk_held ha.walk (by omega) hg)⟩
theorem fat_scopes (ha : FAt P Q f d g hv i) (h : i.getD 0 0 = 12 ∨ i.getD 0 0 = 13) : 1 ≤ d := by
  have hg := ha.good.scopes
  have ho := ha.walk.open'
  unfold scopesOk opI at hg
  rw [if_pos (by rcases h with h | h <;> rw [h] <;> rfl)] at hg
  have := of_decide_eq_true hg
  omega
theorem fat_fork (ha : FAt P Q f d g hv i) (h : i.getD 0 0 = 8) : ∃ g', P[(i.getD 4 0).toNat]? = some g' ∧ 0 ≤ i.getD 4 0 ∧ needsOf P (i.getD 4 0) = g'.needs ∧ 0 ≤ i.getD 1 0 ∧ i.getD 1 0 < 8 ∧ ∀ k : Nat, k < 8 → tb g'.needs k = true → tb hv k = true := by
  have hpl := (Ck.places_in ha.good.places).2 h
  have hc := (Ck.chk0 ha.chk).2.2.2.1 h
  have hr := Fr.chk_regs (chk_fr ha.chk)
  obtain ⟨g', hg'⟩ : ∃ g', P[(i.getD 4 0).toNat]? = some g' := ⟨_, List.getElem?_eq_getElem (by omega)⟩
  refine ⟨g', hg', hc.1, Ck.needs_get hg', hr.1.1, hr.1.2, fun k hk ht => ?_⟩
  have hh := ha.good.handles
  unfold handlesOk opI at hh
  rw [if_neg (by rw [h]; decide), if_neg (by rw [h]; decide), if_pos (by rw [h]; rfl), Ck.needs_get hg'] at hh
  exact Ck.walk_held ha.walk hk (Ck.subBits_iff.1 hh k hk ht)
theorem fi_child (hA : Accs P) (hI : ∀ g ∈ P, InI g.needs) (h : FI P Q f d) (ha : FAt P Q f d g hv i) (h8 : i.getD 0 0 = 8) : FI P Q (fChild f (i.getD 4 0) (needsOf P (i.getD 4 0))) 0 := by
  obtain ⟨g', hg', h40, hnd, hA0, hA1, hsub⟩ := fat_fork ha h8
  obtain ⟨c1, c2, c3, c4, c5⟩ := child_get (f := f) (n := i.getD 4 0) (needs := g'.needs) h.len
  have hacc := hA.all g' (List.mem_of_getElem? hg')
  rw [hnd]
  refine ⟨c1, by rw [c2]; exact h40, g', by rw [c2]; exact hg', g'.needs, by rw [c3]; exact Ck.walk_start hacc (hI g' (List.mem_of_getElem? hg')), fun k hk ht => ?_⟩
  rw [c5 k hk, if_pos ht]
  exact ha.hds k hk (hsub k hk ht)
theorem fi_forked {id : Int} (h : FI P Q f d) (ha : FAt P Q f d g hv i) (h8 : i.getD 0 0 = 8) (hid : Q id) : FI P Q (fForked f i id) d := by
  obtain ⟨hp0, hp1⟩ := fat_pc ha
  obtain ⟨g', hg', h40, hnd, hA0, hA1, hsub⟩ := fat_fork ha h8
  obtain ⟨f1, f2, f3, f4, f5⟩ := forked_get (id := id) ha.chk h8 h.len hp0 hp1
  refine ⟨f1, by rw [f2]; exact h.f0, g, by rw [f2]; exact ha.at0, Ck.hvOf i hv, ?_, fun k hk ht => ?_⟩
  · rw [f3]
    obtain ⟨hz, hlt⟩ := Ck.behind_next ha.acc ha.walk ha.ins (by unfold opI; omega) (by unfold opI; omega) (by unfold opI; omega)
    refine Ck.walk_to ha.acc.l1 ha.walk ha.ins hz ?_ (fun k hk ht => ?_) ?_
    · unfold Ck.hvOf; split
      · exact Ck.inI_or _ _
      · exact ha.walk.inI
    · rw [Ck.tb_hv hk] at ht
      simpa using ht
    · rw [Ck.depth_next ha.walk ha.ins hlt]; unfold stepD opI; rw [if_neg (by omega), if_neg (by omega)]
  · rw [f5 k hk]
    split
    · exact hid
    · rename_i hne
      rw [Ck.tb_hv hk] at ht
      have hf : forks i k = false := by unfold Ck.forks; rw [Bool.and_eq_false_iff]; exact .inr (by simpa using hne)
      rw [hf, Bool.or_false] at ht
      exact ha.hds k hk ht
def Own (sc : Int × Int → Option ((Int × Int) × Bool)) (row : Int) (inn : Int × Int) : List Int → Prop
  | [] => False
  | [k] => k = 0 ∧ ∃ q, sc (row, k) = some (inn, q)
  | k :: k' :: r => k' < k ∧ (∃ q, sc (row, k) = some ((row, k'), q)) ∧ Own sc row inn (k' :: r)
theorem Own.upd_of {sc : Int × Int → Option ((Int × Int) × Bool)} {row : Int} {inn s : Int × Int} {x : (Int × Int) × Bool} : ∀ {ks : List Int}, Own sc row inn ks → ((∃ q, sc s = some (x.1, q)) ∨ ∀ k ∈ ks, s ≠ (row, k)) → Own (upd sc s x) row inn ks
  | [], h, _ => h
  | [k], ⟨h0, q, h⟩, hs => by
    refine ⟨h0, ?_⟩
    unfold upd
    split
    · rename_i e
      rcases hs with ⟨q', hs⟩ | hs
      · rw [← e, h] at hs; cases hs; exact ⟨x.2, rfl⟩
      · exact absurd e.symm (hs k (by simp))
    · exact ⟨q, h⟩
  | k :: k' :: r, ⟨h0, ⟨q, h⟩, h2⟩, hs => by
    refine ⟨h0, ?_, Own.upd_of h2 (hs.imp id fun hs k hk => hs k (by simp [hk]))⟩
    unfold upd
    split
    · rename_i e
      rcases hs with ⟨q', hs⟩ | hs
      · rw [← e, h] at hs
        have e1 : x.1 = (row, k') := (congrArg Prod.fst (Option.some.inj hs)).symm
        exact ⟨x.2, by rw [← e1]⟩
      · exact absurd e.symm (hs k (by simp))
    · exact ⟨q, h⟩
theorem Own.le {sc : Int × Int → Option ((Int × Int) × Bool)} {row : Int} {inn : Int × Int} : ∀ {ks : List Int}, Own sc row inn ks → ∀ k ∈ ks, 0 ≤ k ∧ k ≤ ks.headD 0
  | [k], ⟨h0, _⟩, j, hj => by simp at hj; subst hj; simp [h0]
  | k :: k' :: r, ⟨h0, _, h2⟩, j, hj => by
    have := Own.le h2
    have h1 := this k' (by simp)
    rcases List.mem_cons.1 hj with rfl | hj
    · simp; omega
    · have := this j hj; simp at this ⊢; omega
structure ScI (sc : Int × Int → Option ((Int × Int) × Bool)) : Prop where
  up : ∀ s x, sc s = some x → 0 ≤ s.1 ∧ 0 ≤ s.2 ∧ (x.1 = (-1, 0) ∨ ((sc x.1).isSome = true ∧ (x.1.1 < s.1 ∨ (x.1.1 = s.1 ∧ x.1.2 < s.2))))
theorem isSome_upd {K V : Type} [DecidableEq K] {φ : K → Option V} {k j : K} {y : V} (h : (φ j).isSome = true) : (upd φ k y j).isSome = true := by unfold upd; split <;> simp [h]
theorem ScI.upd_of {sc : Int × Int → Option ((Int × Int) × Bool)} {s : Int × Int} {x : (Int × Int) × Bool} (h : ScI sc) (h0 : 0 ≤ s.1 ∧ 0 ≤ s.2) (hx : x.1 = (-1, 0) ∨ ((sc x.1).isSome = true ∧ (x.1.1 < s.1 ∨ (x.1.1 = s.1 ∧ x.1.2 < s.2)))) : ScI (upd sc s x) := by
  constructor
  intro t y hy
  unfold upd at hy
  split at hy
  · rename_i e
    cases hy; subst e
    exact ⟨h0.1, h0.2, hx.imp id fun q => ⟨isSome_upd q.1, q.2⟩⟩
  · obtain ⟨h1, h2, h3⟩ := h.up t y hy
    exact ⟨h1, h2, h3.imp id fun q => ⟨isSome_upd q.1, q.2⟩⟩
theorem ask_total {sc : Int × Int → Option ((Int × Int) × Bool)} (h : ScI sc) : ∀ (n m : Nat) (s : Int × Int), s.1 < n → s.2 < m → s = (-1, 0) ∨ (sc s).isSome = true → ∃ b, Ask sc s b := by
  intro n
  induction n with
  | zero =>
    intro m s h1 _ hs
    rcases hs with rfl | hs
    · exact ⟨_, .world⟩
    · obtain ⟨x, hx⟩ := Option.isSome_iff_exists.1 hs
      have := (h.up s x hx).1
      omega
  | succ n ihn =>
    intro m
    induction m with
    | zero =>
      intro s _ h2 hs
      rcases hs with rfl | hs
      · exact ⟨_, .world⟩
      · obtain ⟨x, hx⟩ := Option.isSome_iff_exists.1 hs
        have := (h.up s x hx).2.1
        omega
    | succ m ihm =>
      intro s h1 h2 hs
      rcases hs with rfl | hs
      · exact ⟨_, .world⟩
      · obtain ⟨⟨a, q⟩, hx⟩ := Option.isSome_iff_exists.1 hs
        obtain ⟨k1, k2, k3⟩ := h.up s _ hx
        have hne : s ≠ (-1, 0) := by intro e; rw [e] at k1; simp at k1
        cases q with
        | true => exact ⟨true, .yes hne hx⟩
        | false =>
          have : ∃ b, Ask sc a b := by
            rcases k3 with e | ⟨k3, k4 | k4⟩
            · dsimp only at e; rw [e]; exact ⟨_, .world⟩
            · exact ihn (a.2.toNat + 1) a (by dsimp only at k4; omega) (by omega) (.inr k3)
            · exact ihm a (by dsimp only at k4; omega) (by dsimp only at k4; omega) (.inr k3)
          obtain ⟨b, hb⟩ := this
          exact ⟨b, .up hne hx hb⟩
theorem ask_ex {sc : Int × Int → Option ((Int × Int) × Bool)} (h : ScI sc) {s : Int × Int} (hs : s = (-1, 0) ∨ (sc s).isSome = true) : Ask sc s (askB sc s) := by
  obtain ⟨b, hb⟩ := ask_total h (s.1.toNat + 1) (s.2.toNat + 1) s (by omega) (by omega) hs
  rw [hb.b]; exact hb
structure RI (P : List FnR) (Q : Int → Prop) (row : Int) (inn : Int × Int) (n : Nat) (r : Rn) (b : Bk) (ks : List Int) : Prop where
  fb : FB P r.f
  fi : r.kind = 0 → FI P Q r.f ((ks.length : Int) - 1)
  own : Own b.sc row inn ks
  last : r.last = (row, ks.headD 0)
  op : ks.headD 0 ≤ r.opened ∧ r.opened ≤ n
  kids : ∀ k ∈ r.kids, Q k
structure BI (P : List FnR) (Q : Int → Prop) (b : Bk) : Prop where
  sc : ScI b.sc
  beg : ∀ i x, b.beg i = some x → FI P Q x.1 0 ∧ (x.2 = (-1, 0) ∨ (b.sc x.2).isSome = true) ∧ x.2.1 < i
end
end Go.Proofs.YtgkfbagclkjilaaGreatDoor.Ft
namespace Go.Ev
open Go Go.RowKit
section
variable {K V : Type} [DecidableEq K]
def gmE (ek : K → Value) (ev : V → Value) (t : List (K × V × Nat)) : List MapEntry := t.map fun x => ⟨ek x.1, ev x.2.1, x.2.2⟩
def gmG (t : List (K × V × Nat)) (k : K) : Option V := (t.find? fun x => decide (x.1 = k)).map (·.2.1)
def gmF (ev : V → Value) (k : K) : List (K × V × Nat) → Nat → Option (Nat × Value)
  | [], _ => none
  | x :: r, i => if x.1 = k then some (i, ev x.2.1) else gmF ev k r (i + 1)
def gm (ek : K → Value) (ev : V → Value) (g : Nat) (φ : K → Option V) : HP := exHP fun q : { t : List (K × V × Nat) // gmG t = φ } × Nat => obj g (.map (gmE ek ev q.1.1).toArray q.2)
structure MapC (P : Program) (m kt et : TypeId) (ek : K → Value) (ev : V → Value) (z : V) : Prop where
  m : P.underlying m = some (.map kt et)
  find : ∀ (w : World) (k : K) (t : List (K × V × Nat)), (Instr.findKey kt (ek k) (gmE ek ev t)).run P w = .ok (gmF ev k t 0) w
  chk : ∀ (w : World) (e : Bool) (k : K), (Instr.checkKey e 10000 kt (ek k)).run P w = .ok () w
  same : ∀ k, Instr.sameBits 10000 (ek k) (ek k) = true
  zero : zOf P et = some (ev z)
theorem gmF_none {ev : V → Value} {k : K} : ∀ {t : List (K × V × Nat)} {i : Nat}, gmF ev k t i = none → gmG t k = none
  | [], _, _ => rfl
  | x :: r, i, h => by
    unfold gmF at h
    split at h
    · cases h
    · rename_i hx
      have := gmF_none h
      unfold gmG at this ⊢
      rw [List.find?_cons_of_neg (by simpa using hx)]
      exact this
theorem gmF_some {ev : V → Value} {k : K} : ∀ {t : List (K × V × Nat)} {i j : Nat} {v : Value}, gmF ev k t i = some (j, v) → i ≤ j ∧ ∃ x, t[j - i]? = some x ∧ x.1 = k ∧ v = ev x.2.1 ∧ gmG t k = some x.2.1 ∧ ∀ (y : V) (b : K × V × Nat → Nat), gmG (t.modify (j - i) fun e => (e.1, y, b e)) = fun q => if q = k then some y else gmG t q
  | [], _, _, _, h => by cases h
  | x :: r, i, j, v, h => by
    unfold gmF at h
    split at h
    · rename_i hx
      cases h
      refine ⟨Nat.le_refl _, x, by simp, hx, rfl, ?_, fun y b => ?_⟩
      · unfold gmG; rw [List.find?_cons_of_pos (by simpa using hx)]; rfl
      · funext q
        simp only [Nat.sub_self, List.modify_zero_cons]
        unfold gmG
        by_cases hq : q = k
        · rw [List.find?_cons_of_pos (by simp [hx, hq]), if_pos hq]; rfl
        · rw [List.find?_cons_of_neg (by simp [hx]; exact fun e => hq e.symm), if_neg hq, List.find?_cons_of_neg (by simp [hx]; exact fun e => hq e.symm)]
    · rename_i hx
      obtain ⟨h1, y, h2, h3, h4, h5, h6⟩ := gmF_some h
      refine ⟨by omega, y, ?_, h3, h4, ?_, fun z b => ?_⟩
      · rw [show j - i = (j - (i + 1)) + 1 by omega]; simpa using h2
      · unfold gmG at h5 ⊢
        rw [List.find?_cons_of_neg (by simpa using hx)]; exact h5
      · have h6 := h6 z b
        funext q
        have h6 := congrFun h6 q
        rw [show j - i = (j - (i + 1)) + 1 by omega]
        simp only [List.modify_succ_cons]
        unfold gmG at h6 ⊢
        by_cases hq : q = k
        · rw [if_pos hq] at h6 ⊢
          rw [List.find?_cons_of_neg (by simp [hq]; exact hx)]; exact h6
        · rw [if_neg hq] at h6 ⊢
          by_cases hxq : x.1 = q
          · rw [List.find?_cons_of_pos (by simpa using hxq), List.find?_cons_of_pos (by simpa using hxq)]
          · rw [List.find?_cons_of_neg (by simpa using hxq), List.find?_cons_of_neg (by simpa using hxq)]; exact h6
theorem gmG_push {t : List (K × V × Nat)} {k : K} {y : V} {n : Nat} (h : gmG t k = none) : gmG (t ++ [(k, y, n)]) = fun q => if q = k then some y else gmG t q := by
  funext q
  unfold gmG at h ⊢
  rw [List.find?_append]
  by_cases hq : q = k
  · subst hq
    rw [if_pos rfl]
    rw [Option.map_eq_none_iff] at h
    rw [h]
    simp
  · rw [if_neg hq]
    rw [List.find?_cons_of_neg (by simp; exact fun e => hq e.symm), List.find?_nil, Option.or_none]
end
section
variable {K V : Type} [DecidableEq K] {ek : K → Value} {ev : V → Value} {z : V} {P : Program} {w0 w : World} {L : List HP} {g : Nat} {φ : K → Option V} {f : HP → List HP} {m kt et : TypeId}
theorem gm_open (h : St w0 w (gm ek ev g φ :: L)) : ∃ (t : List (K × V × Nat)) (n : Nat), gmG t = φ ∧ St w0 w (obj g (.map (gmE ek ev t).toArray n) :: L) := by
  obtain ⟨⟨⟨t, ht⟩, n⟩, h⟩ := h.some
  exact ⟨t, n, ht, h⟩
theorem gm_shut {t : List (K × V × Nat)} {n : Nat} (h : St w0 w (obj g (.map (gmE ek ev t).toArray n) :: L)) : St w0 w (gm ek ev g (gmG t) :: L) :=
  St.ex (X := fun q : { t' : List (K × V × Nat) // gmG t' = gmG t } × Nat => obj g (.map (gmE ek ev q.1.1).toArray q.2)) (⟨t, rfl⟩, n) h
theorem gm_at (h : St w0 w L) [a : At L (gm ek ev g) φ f] : ∃ (t : List (K × V × Nat)) (n : Nat), gmG t = φ ∧ w.heap[g]? = some (.map (gmE ek ev t).toArray n) := by
  obtain ⟨R, ho, hc⟩ := a.out
  obtain ⟨t, n, ht, h⟩ := gm_open (ho h)
  exact ⟨t, n, ht, obj_at (g := g) h⟩
theorem mkGm_h {c : Option Nat → World → Prop} (ek : K → Value) (ev : V → Value) (h : St w0 w L) (hc : ∀ g w', St w0 w' (gm ek ev g (fun _ => none) :: L) → c (some g) w') : mkMap P m none w c := by
  have hr : (Instr.makeMap m none).run P w = .ok (.map (some w.heap.size)) (w.alloc (.map #[] 0)) := by
    simp only [Instr.makeMap, Sem.run_bind, run_newObj, Result.andThen_ok, Sem.run_pure, World.alloc_eq]
  unfold mkMap
  rw [hr]
  show c (some w.heap.size) _
  refine hc _ _ ?_
  have h2 := alloc_h (.map #[] 0) h
  have h3 := gm_shut (ek := ek) (ev := ev) (t := []) (n := 0) h2
  exact h3
theorem gmLook_h {k : K} {c : Value → World → Prop} (ht : MapC P m kt et ek ev z) (h : St w0 w L) [a : At L (gm ek ev g) φ f] (hc : c (ev ((φ k).getD z)) w) : look P m (.map (some g)) (ek k) false w c := by
  obtain ⟨t, n, htl, hb⟩ := gm_at (ek := ek) (ev := ev) (g := g) h
  have hf := ht.find w k t
  have hck := fun e => ht.chk w e k
  have hz : (zeroValue et).run P w = .ok (ev z) w := run_zero ht.zero
  unfold look
  have hgo : ∀ v, (match gmF ev k t 0 with | some (_, v) => v | none => ev z) = v → v = ev ((φ k).getD z) := by
    intro v hv
    subst hv
    cases hq : gmF ev k t 0 with
    | none => rw [← htl, gmF_none hq]; rfl
    | some r =>
      obtain ⟨j, v⟩ := r
      obtain ⟨_, x, _, _, e, hm, _⟩ := gmF_some hq
      rw [← htl, hm]; exact e
  cases hq : gmF ev k t 0 with
  | none =>
    rw [hq] at hf hgo
    have hr : (Instr.lookup m (.map (some g)) (ek k) false).run P w = .ok (ev z) w := by
      simp only [Instr.lookup, Sem.run_bind, run_kOf ht.m, Result.andThen_ok, MapKept.run_getObj_map hb, Sem.run_pure, hck, hf, hz]; rfl
    rw [hr]; rw [← hgo _ rfl] at hc; exact hc
  | some r =>
    obtain ⟨j, v⟩ := r
    rw [hq] at hf hgo
    have hr : (Instr.lookup m (.map (some g)) (ek k) false).run P w = .ok v w := by
      simp only [Instr.lookup, Sem.run_bind, run_kOf ht.m, Result.andThen_ok, MapKept.run_getObj_map hb, Sem.run_pure, hck, hf]; rfl
    rw [hr]; rw [← hgo _ rfl] at hc; exact hc
theorem map_modify {α β : Type} (f : α → β) (g : α → α) (g' : β → β) (hg : ∀ a, f (g a) = g' (f a)) : ∀ (l : List α) (i : Nat), (l.modify i g).map f = (l.map f).modify i g'
  | [], _ => by simp
  | a :: l, 0 => by simp [hg]
  | a :: l, i + 1 => by simp [map_modify f g g' hg l i]
theorem modify_same {β : Type} : ∀ {l : List β} {i : Nat} {f f' : β → β} {x : β}, l[i]? = some x → f x = f' x → l.modify i f = l.modify i f'
  | [], _, _, _, _, h, _ => by simp at h
  | y :: l, 0, f, f', x, h, e => by simp at h; subst h; simp [e]
  | y :: l, i + 1, f, f', x, h, e => by simp; exact modify_same (by simpa using h) e
theorem gmPut_h {k : K} {y : V} {c : World → Prop} (ht : MapC P m kt et ek ev z) (h : St w0 w L) [a : At L (gm ek ev g) φ f] (hc : ∀ w', St w0 w' (f (gm ek ev g (fun q => if q = k then some y else φ q))) → c w') : mapPut P m (.map (some g)) (ek k) (ev y) w c := by
  obtain ⟨R, ho, hcl⟩ := a.out
  obtain ⟨t, n, htl, h⟩ := gm_open (ho h)
  have hb := obj_at (g := g) h
  have hf := ht.find w k t
  have hck := ht.chk w false k
  have hset : ∀ o, (setObj g o).run P w = .ok () (w.putObj g o) := fun o => by
    rw [MapKept.run_setObj_map o hb]; rfl
  unfold mapPut
  cases hq : gmF ev k t 0 with
  | none =>
    rw [hq] at hf
    have hr : (Instr.mapUpdate m (.map (some g)) (ek k) (ev y)).run P w = .ok () (w.putObj g (.map ((gmE ek ev t).toArray.push ⟨ek k, ev y, n⟩) (n + 1))) := by
      simp only [Instr.mapUpdate, Sem.run_bind, run_kOf ht.m, Result.andThen_ok, MapKept.run_getObj_map hb, Sem.run_pure, hck, hf, hset]
    rw [hr]
    refine hc _ (hcl ?_)
    have e : (gmE ek ev t).toArray.push ⟨ek k, ev y, n⟩ = (gmE ek ev (t ++ [(k, y, n)])).toArray := by simp [gmE]
    rw [e]
    have h2 := putObj_h (g := g) (.map (gmE ek ev (t ++ [(k, y, n)])).toArray (n + 1)) h
    have h3 := gm_shut h2
    rw [gmG_push (gmF_none hq), htl] at h3
    exact h3
  | some r =>
    obtain ⟨j, v⟩ := r
    rw [hq] at hf
    obtain ⟨_, x, hx, hxk, rfl, hm, hmod⟩ := gmF_some hq
    rw [Nat.sub_zero] at hx hmod
    have hk : ((((gmE ek ev t).toArray)[j]?).map (·.key)).getD (ek k) = ek k := by
      rw [List.getElem?_toArray]; unfold gmE; rw [List.getElem?_map, hx]; simp [hxk]
    have hkeep : (Instr.keyThatStays (ek k) (ek k)).run P w = .ok (ek k) w := by
      unfold Instr.keyThatStays; rw [if_pos (ht.same k)]; rfl
    have hr : (Instr.mapUpdate m (.map (some g)) (ek k) (ev y)).run P w = .ok () (w.putObj g (.map ((gmE ek ev t).toArray.modify j fun e => { e with key := ek k, val := ev y }) n)) := by
      simp only [Instr.mapUpdate, Sem.run_bind, run_kOf ht.m, Result.andThen_ok, MapKept.run_getObj_map hb, Sem.run_pure, hck, hf, hk, hkeep, hset]
    rw [hr]
    refine hc _ (hcl ?_)
    have e : (gmE ek ev t).toArray.modify j (fun e => { e with key := ek k, val := ev y }) = (gmE ek ev (t.modify j fun e => (e.1, y, e.2.2))).toArray := by
      rw [List.modify_toArray]
      congr 1
      unfold gmE
      rw [map_modify (fun x : K × V × Nat => (⟨ek x.1, ev x.2.1, x.2.2⟩ : MapEntry)) (fun e => (e.1, y, e.2.2)) (fun e => (⟨e.key, ev y, e.born⟩ : MapEntry)) (fun a => rfl)]
      refine modify_same (x := (⟨ek k, ev x.2.1, x.2.2⟩ : MapEntry)) ?_ rfl
      rw [List.getElem?_map, hx, ← hxk]; rfl
    rw [e]
    have h2 := putObj_h (g := g) (.map (gmE ek ev (t.modify j fun e => (e.1, y, e.2.2))).toArray n) h
    have h3 := gm_shut h2
    have e2 : gmG (t.modify j fun e => (e.1, y, e.2.2)) = fun q => if q = k then some y else φ q := by
      have := hmod y (fun e => e.2.2)
      rw [htl] at this
      exact this
    rw [e2] at h3
    exact h3
end
def ekI (k : Int) : Value := .int .i64 k
def ekP (k : Int × Int) : Value := .agg #[.int .i64 k.1, .int .i64 k.2]
theorem gmF_int {V : Type} (ev : V → Value) (k : Int) : ∀ (t : List (Int × V × Nat)) (i : Nat), Instr.findNow (.int .i64) (.int .i64 k) (gmE ekI ev t) i = some (gmF ev k t i)
  | [], i => rfl
  | x :: r, i => by
    unfold gmE ekI
    simp only [List.map_cons, Instr.findNow, Instr.sameNow, if_true]
    by_cases h : x.1 = k
    · have : (k == x.1) = true := by simp [h]
      rw [this]
      simp [gmF, h]
    · have : (k == x.1) = false := by rw [beq_eq_false_iff_ne]; exact fun q => h q.symm
      rw [this]
      have ih := gmF_int ev k r (i + 1)
      unfold gmE ekI at ih
      simp only [ih, gmF, if_neg h]
theorem mapC_int {V : Type} {P : Program} {m kt et : TypeId} {ev : V → Value} {z : V} (hm : P.underlying m = some (.map kt et)) (hk : P.underlying kt = some (.int .i64)) (hz : zOf P et = some (ev z)) : MapC P m kt et ekI ev z where
  m := hm
  find w k t := MapKept.run_findKey hk (gmF_int ev k t 0)
  chk w e k := MapKept.run_checkKey hk (show MapKept.IsKey (.int .i64) (.int .i64 k) by simp [MapKept.IsKey]) e 9999
  same k := by simp [ekI, Instr.sameBits]
  zero := hz
theorem find_pair {V : Type} {P : Program} {kt : TypeId} {ev : V → Value} (hl : leavesR P 20 kt = some [(0, 0), (1, 0)]) (ha : kOf P kt = .ag) (w : World) (k : Int × Int) : ∀ (t : List ((Int × Int) × V × Nat)) (i : Nat), (Instr.findAsking kt (ekP k) (gmE ekP ev t) i).run P w = .ok (gmF ev k t i) w
  | [], i => rfl
  | x :: r, i => by
    have h := (aggEq 20 kt _ hl 10000 (by omega)).2 ha w #[.int .i64 k.1, .int .i64 k.2] #[.int .i64 x.1.1, .int .i64 x.1.2] ((k.1 == x.1.1) && ((k.2 == x.1.2) && true)) (by simp [eqOffs, eqC])
    have he : (Op.equal kt (ekP k) (ekP x.1)).run P w = .ok ((k.1 == x.1.1) && ((k.2 == x.1.2) && true)) w := h
    unfold gmE
    simp only [List.map_cons, Instr.findAsking, Sem.run_bind, he, Result.andThen_ok]
    by_cases h : x.1 = k
    · have : ((k.1 == x.1.1) && ((k.2 == x.1.2) && true)) = true := by simp [h]
      rw [this]
      simp [gmF, h]
    · have : ((k.1 == x.1.1) && ((k.2 == x.1.2) && true)) = false := by
        rw [Bool.and_true, Bool.and_eq_false_iff, beq_eq_false_iff_ne, beq_eq_false_iff_ne]
        by_cases e : k.1 = x.1.1
        · exact .inr fun e2 => h (Prod.ext e.symm e2.symm)
        · exact .inl e
      rw [this]
      have ih := find_pair (ev := ev) hl ha w k r (i + 1)
      unfold gmE at ih
      simp only [Bool.false_eq_true, if_false, ih, gmF, if_neg h]
theorem mapC_pair {V : Type} {P : Program} {m kt et : TypeId} {ev : V → Value} {z : V} {f1 f2 : Field} (hm : P.underlying m = some (.map kt et)) (hk : P.underlying kt = some (.struct #[f1, f2]))
    (h1 : f1.name ≠ "_" ∧ f1.offset = 0 ∧ P.underlying f1.type = some (.int .i64)) (h2 : f2.name ≠ "_" ∧ f2.offset = 1 ∧ P.underlying f2.type = some (.int .i64)) (hl : leavesR P 20 kt = some [(0, 0), (1, 0)]) (hz : zOf P et = some (ev z)) : MapC P m kt et ekP ev z where
  m := hm
  find w k t := by rw [run_findKey_eq w (by rw [hk])]; exact find_pair hl (by simp [kOf, hk]) w k t 0
  chk w e k := by
    have k1 : ∀ v : Int, (Instr.checkKey e 9999 f1.type (.int .i64 v)).run P w = .ok () w := fun v => MapKept.run_checkKey h1.2.2 (show MapKept.IsKey (.int .i64) (.int .i64 v) by simp [MapKept.IsKey]) e 9998
    have k2 : ∀ v : Int, (Instr.checkKey e 9999 f2.type (.int .i64 v)).run P w = .ok () w := fun v => MapKept.run_checkKey h2.2.2 (show MapKept.IsKey (.int .i64) (.int .i64 v) by simp [MapKept.IsKey]) e 9998
    have p1 : (part f1.type #[.int .i64 k.1, .int .i64 k.2] f1.offset).run P w = .ok (.int .i64 k.1) w := run_part h1.2.2 (by simp [kOf, h1.2.2]) (by rw [h1.2.1]; rfl)
    have p2 : (part f2.type #[.int .i64 k.1, .int .i64 k.2] f2.offset).run P w = .ok (.int .i64 k.2) w := run_part h2.2.2 (by simp [kOf, h2.2.2]) (by rw [h2.2.1]; rfl)
    have e0 : (10000 : Nat) = 9999 + 1 := rfl
    rw [e0]
    unfold Instr.checkKey ekP
    simp only [Sem.run_bind, run_underlying hk, Result.andThen_ok]
    simp [h1.1, h2.1, p1, p2, k1, k2]
  same k := by simp [ekP, Instr.sameBits]
  zero := hz
end Go.Ev
