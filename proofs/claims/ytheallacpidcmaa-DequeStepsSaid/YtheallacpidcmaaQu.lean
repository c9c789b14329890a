/-
  Layer 10: both do the same.
-/
import Derived.Test.YtheallacpidcmaaQt
set_option linter.unusedSimpArgs false
set_option linter.unusedVariables false
set_option maxRecDepth 100000
namespace Go.Proofs.Ytheallacpidcmaa
open Go Go.Ev Go.Proofs

def kdN (n : Nat) : Int := if n ≤ 7 then 0 else if n ≤ 14 then 1 else 2
def Dop.nxR (O : Dop) : Int := if O.next ≤ 7 then O.next + 1 else if O.next ≤ 11 then O.next - 7 else if O.next ≤ 13 then O.next - 6 else if O.next = 14 then (if O.t > O.b - 1 then 5 else 8) else O.next - 14
def Dop.rop (O : Dop) (p : Option Addr) : Rop := ⟨O.most, kdN O.next, if kdN O.next = 1 then O.got else O.x, O.nxR, O.b, O.t, O.ring, O.to, p, O.won, O.how, if kdN O.next = 2 then O.got else 0, O.err⟩
def ropL (g : Nat) (O : Dop) : HP := match O.copy with
  | none => blk g (O.rop none).cells
  | some c => exHP fun gk : Nat => sepHP [blk g (O.rop (some ⟨gk, 0, none⟩)).cells, rcpy gk c]
structure RD (O : Dop) (cs : List Value) : Prop where
  len : cs.length = 16
  kd : ∃ kd got : Int, cs[2]? = some (.int .i64 kd) ∧ cs[14]? = some (.int .i64 got) ∧ O.tell = (if O.how = 2 ∨ (O.how = 1 ∧ kd ≠ 0) then got else 0)
  how : cs[13]? = some (.int .i64 O.how)
  err : cs[15]? = some (.int .i64 O.err)
def ropD (g : Nat) (O : Dop) : HP := exHP fun q : { cs : List Value // RD O cs } => blk g q.1
def ropP (g : Nat) (O : Dop) : HP := if O.live = true then ropL g O else ropD g O
def rmac (gc : Nat) (x : List Int × Int × Int) : HP := exHP fun s : Sl => sepHP [blk gc [.slice s.a s.n s.c, .int .i64 x.2.1, .int .i64 x.2.2], slc 1 s (ints x.1)]
section
variable {w0 w : World} {L : List HP} {gr gc : Nat} {xs : List Int} {size did : Int} {O O' : Dop}
theorem rmac_open (h : St w0 w (rmac gc (xs, size, did) :: L)) : ∃ s, St w0 w (rmO gc s xs size did L) := by
  obtain ⟨s, h⟩ := h.some
  exact ⟨s, h.open⟩
theorem rmac_shut {s : Sl} (h : St w0 w (rmO gc s xs size did L)) : St w0 w (rmac gc (xs, size, did) :: L) :=
  St.ex (X := fun s : Sl => sepHP [blk gc [.slice s.a s.n s.c, .int .i64 size, .int .i64 did], slc 1 s (ints xs)]) s (St.shut h)
theorem ropP_live (hl : O.live = true) : ropP gr O = ropL gr O := if_pos hl
theorem ropP_dead (hl : O.live = false) : ropP gr O = ropD gr O := if_neg (by rw [hl]; simp)
theorem ropD_in {r : Rop} (h : St w0 w (blk gr r.cells :: L)) (h1 : r.how = O.how) (h2 : r.err = O.err) (h3 : O.tell = if O.how = 2 ∨ (O.how = 1 ∧ r.kd ≠ 0) then r.got else 0) (hl : O.live = false) : St w0 w (ropP gr O :: L) := by
  rw [ropP_dead hl]
  refine St.ex (X := fun q : { cs : List Value // RD O cs } => blk gr q.1) ⟨r.cells, rfl, ⟨r.kd, r.got, rfl, rfl, h3⟩, ?_, ?_⟩ h
  · rw [← h1]; rfl
  · rw [← h2]; rfl
theorem ropP_rd (h : St w0 w (ropP gr O :: L)) (h2 : O.live = true → O.how = 2 → 15 ≤ O.next) : ∃ cs L', RD O cs ∧ St w0 w (blk gr cs :: L') := by
  by_cases hl : O.live = true
  · have rd : ∀ p, RD O (O.rop p).cells := by
      intro p
      refine ⟨rfl, ⟨kdN O.next, if kdN O.next = 2 then O.got else 0, rfl, rfl, ?_⟩, rfl, rfl⟩
      have hh : O.how = 0 ∨ O.how = 2 := by
        unfold Dop.live at hl
        simpa using hl
      unfold Dop.tell
      rcases hh with q | q
      · rw [if_neg (by omega), if_neg (by omega)]
      · have := h2 hl q
        rw [if_pos (.inl q), if_pos (.inl q), if_pos]
        unfold kdN; rw [if_neg (by omega), if_neg (by omega)]
    rw [ropP_live hl] at h
    cases q : O.copy with
    | none =>
      have e : ropL gr O = blk gr (O.rop none).cells := by unfold ropL; rw [q]
      rw [e] at h
      exact ⟨_, _, rd none, h⟩
    | some c =>
      have e : ropL gr O = exHP fun gk : Nat => sepHP [blk gr (O.rop (some ⟨gk, 0, none⟩)).cells, rcpy gk c] := by unfold ropL; rw [q]
      rw [e] at h
      obtain ⟨gk, h⟩ := h.some
      exact ⟨_, _, rd _, h.open⟩
  · rw [ropP_dead (by simpa using hl)] at h
    obtain ⟨⟨cs, hcs⟩, h⟩ := h.some
    exact ⟨cs, _, hcs, h⟩
/-- opened, and shut again -/
theorem ropL_cases (hl : O.live = true) (h : St w0 w (ropP gr O :: rmac gc (xs, size, did) :: L)) : ∃ p s L2, St w0 w (blk gr (O.rop p).cells :: rmO gc s xs size did L2) ∧
    (∀ O' s' xs' did' w', O'.live = true → O'.copy = O.copy → St w0 w' (blk gr (O'.rop p).cells :: rmO gc s' xs' size did' L2) → St w0 w' (ropP gr O' :: rmac gc (xs', size, did') :: L)) ∧
    (∀ (r : Rop) s' xs' did' w', St w0 w' (blk gr r.cells :: rmO gc s' xs' size did' L2) → St w0 w' (blk gr r.cells :: rmac gc (xs', size, did') :: L)) ∧
    (O.copy = none → p = none ∧ L2 = L) ∧ (∀ c, O.copy = some c → ∃ gk, p = some ⟨gk, 0, none⟩ ∧ L2 = rcpy gk c :: L) := by
  rw [ropP_live hl] at h
  cases q : O.copy with
  | none =>
    have e : ∀ O', O'.copy = none → ropL gr O' = blk gr (O'.rop none).cells := fun O' q => by unfold ropL; rw [q]
    rw [e O q] at h
    obtain ⟨s, h⟩ := rmac_open (L := blk gr (O.rop none).cells :: L) h.swap
    refine ⟨none, s, L, h.perm (by repeat' (first | exact List.Perm.refl _ | refine perm_f 0 rfl ?_ | refine perm_f 1 rfl ?_ | refine perm_f 2 rfl ?_ | refine perm_f 3 rfl ?_ | refine perm_f 4 rfl ?_ | refine perm_f 5 rfl ?_ | refine perm_f 6 rfl ?_ | refine perm_f 7 rfl ?_)), fun O' s' xs' did' w' hl' hq h => ?_, fun r s' xs' did' w' h => ?_, fun _ => ⟨rfl, rfl⟩, (fun c z => by cases z)⟩
    · rw [ropP_live hl', e O' hq]
      exact (rmac_shut (L := blk gr (O'.rop none).cells :: L) (h.perm (by repeat' (first | exact List.Perm.refl _ | refine perm_f 0 rfl ?_ | refine perm_f 1 rfl ?_ | refine perm_f 2 rfl ?_ | refine perm_f 3 rfl ?_ | refine perm_f 4 rfl ?_ | refine perm_f 5 rfl ?_ | refine perm_f 6 rfl ?_ | refine perm_f 7 rfl ?_)))).swap
    · exact (rmac_shut (L := blk gr r.cells :: L) (h.perm (by repeat' (first | exact List.Perm.refl _ | refine perm_f 0 rfl ?_ | refine perm_f 1 rfl ?_ | refine perm_f 2 rfl ?_ | refine perm_f 3 rfl ?_ | refine perm_f 4 rfl ?_ | refine perm_f 5 rfl ?_ | refine perm_f 6 rfl ?_ | refine perm_f 7 rfl ?_)))).swap
  | some c =>
    have e : ∀ O', O'.copy = some c → ropL gr O' = exHP fun gk : Nat => sepHP [blk gr (O'.rop (some ⟨gk, 0, none⟩)).cells, rcpy gk c] := fun O' q => by unfold ropL; rw [q]
    rw [e O q] at h
    obtain ⟨gk, h⟩ := h.some
    have h : St w0 w (blk gr (O.rop (some ⟨gk, 0, none⟩)).cells :: rcpy gk c :: rmac gc (xs, size, did) :: L) := h.open
    obtain ⟨s, h⟩ := rmac_open (L := blk gr (O.rop (some ⟨gk, 0, none⟩)).cells :: rcpy gk c :: L) (h.perm (by repeat' (first | exact List.Perm.refl _ | refine perm_f 0 rfl ?_ | refine perm_f 1 rfl ?_ | refine perm_f 2 rfl ?_ | refine perm_f 3 rfl ?_ | refine perm_f 4 rfl ?_ | refine perm_f 5 rfl ?_ | refine perm_f 6 rfl ?_ | refine perm_f 7 rfl ?_)))
    refine ⟨some ⟨gk, 0, none⟩, s, rcpy gk c :: L, h.perm (by repeat' (first | exact List.Perm.refl _ | refine perm_f 0 rfl ?_ | refine perm_f 1 rfl ?_ | refine perm_f 2 rfl ?_ | refine perm_f 3 rfl ?_ | refine perm_f 4 rfl ?_ | refine perm_f 5 rfl ?_ | refine perm_f 6 rfl ?_ | refine perm_f 7 rfl ?_)), fun O' s' xs' did' w' hl' hq h => ?_, fun r s' xs' did' w' h => ?_, (fun z => by cases z), (fun c' z => by cases z; exact ⟨gk, rfl, rfl⟩)⟩
    · rw [ropP_live hl', e O' hq]
      have h := rmac_shut (L := blk gr (O'.rop (some ⟨gk, 0, none⟩)).cells :: rcpy gk c :: L) (h.perm (by repeat' (first | exact List.Perm.refl _ | refine perm_f 0 rfl ?_ | refine perm_f 1 rfl ?_ | refine perm_f 2 rfl ?_ | refine perm_f 3 rfl ?_ | refine perm_f 4 rfl ?_ | refine perm_f 5 rfl ?_ | refine perm_f 6 rfl ?_ | refine perm_f 7 rfl ?_)))
      have h : St w0 w' (blk gr (O'.rop (some ⟨gk, 0, none⟩)).cells :: rcpy gk c :: rmac gc (xs', size, did') :: L) := h.perm (by repeat' (first | exact List.Perm.refl _ | refine perm_f 0 rfl ?_ | refine perm_f 1 rfl ?_ | refine perm_f 2 rfl ?_ | refine perm_f 3 rfl ?_ | refine perm_f 4 rfl ?_ | refine perm_f 5 rfl ?_ | refine perm_f 6 rfl ?_ | refine perm_f 7 rfl ?_))
      exact St.ex (X := fun gk : Nat => sepHP [blk gr (O'.rop (some ⟨gk, 0, none⟩)).cells, rcpy gk c]) gk (St.shut h)
    · have h := rmac_shut (L := blk gr r.cells :: rcpy gk c :: L) (h.perm (by repeat' (first | exact List.Perm.refl _ | refine perm_f 0 rfl ?_ | refine perm_f 1 rfl ?_ | refine perm_f 2 rfl ?_ | refine perm_f 3 rfl ?_ | refine perm_f 4 rfl ?_ | refine perm_f 5 rfl ?_ | refine perm_f 6 rfl ?_ | refine perm_f 7 rfl ?_)))
      have h : St w0 w' (rcpy gk c :: blk gr r.cells :: rmac gc (xs', size, did') :: L) := h.perm (by repeat' (first | exact List.Perm.refl _ | refine perm_f 0 rfl ?_ | refine perm_f 1 rfl ?_ | refine perm_f 2 rfl ?_ | refine perm_f 3 rfl ?_ | refine perm_f 4 rfl ?_ | refine perm_f 5 rfl ?_ | refine perm_f 6 rfl ?_ | refine perm_f 7 rfl ?_))
      exact h.drop
theorem ropL_some {s : Sl} {c : Cp} {gk : Nat} (hl : O.live = true) (hc : O.copy = some c) (h : St w0 w (blk gr (O.rop (some ⟨gk, 0, none⟩)).cells :: rmO gc s xs size did (rcpy gk c :: L))) : St w0 w (ropP gr O :: rmac gc (xs, size, did) :: L) := by
  rw [ropP_live hl]
  have e : ropL gr O = exHP fun gk : Nat => sepHP [blk gr (O.rop (some ⟨gk, 0, none⟩)).cells, rcpy gk c] := by unfold ropL; rw [hc]
  rw [e]
  have h := rmac_shut (L := blk gr (O.rop (some ⟨gk, 0, none⟩)).cells :: rcpy gk c :: L) (h.perm (by repeat' (first | exact List.Perm.refl _ | refine perm_f 0 rfl ?_ | refine perm_f 1 rfl ?_ | refine perm_f 2 rfl ?_ | refine perm_f 3 rfl ?_ | refine perm_f 4 rfl ?_ | refine perm_f 5 rfl ?_ | refine perm_f 6 rfl ?_ | refine perm_f 7 rfl ?_)))
  have h : St w0 w (blk gr (O.rop (some ⟨gk, 0, none⟩)).cells :: rcpy gk c :: rmac gc (xs, size, did) :: L) := h.perm (by repeat' (first | exact List.Perm.refl _ | refine perm_f 0 rfl ?_ | refine perm_f 1 rfl ?_ | refine perm_f 2 rfl ?_ | refine perm_f 3 rfl ?_ | refine perm_f 4 rfl ?_ | refine perm_f 5 rfl ?_ | refine perm_f 6 rfl ?_ | refine perm_f 7 rfl ?_))
  exact St.ex (X := fun gk : Nat => sepHP [blk gr (O.rop (some ⟨gk, 0, none⟩)).cells, rcpy gk c]) gk (St.shut h)
theorem rst_in {r : Rop} {s : Sl} {wk : Int} {k : Unit → World → Prop} (h : St w0 w (blk gr r.cells :: rmO gc s xs size did L)) (hr : r.how = 0 ∨ r.how = 2) (hw : 0 ≤ wk ∧ wk ≤ 4) (hd : 0 ≤ did ∧ did ≤ 2000)
    (h0 : r.kd = 0 → ∀ w', St w0 w' (blk gr r.cells :: rmO gc s xs size (did + 1) L) → pelotonref10_Op_push (some ⟨gr, 0, none⟩) (some ⟨gc, 0, none⟩) w' k)
    (h1 : r.kd = 1 → ∀ w', St w0 w' (blk gr r.cells :: rmO gc s xs size (did + 1) L) → pelotonref10_Op_pop (some ⟨gr, 0, none⟩) (some ⟨gc, 0, none⟩) w' k)
    (h2 : r.kd ≠ 0 → r.kd ≠ 1 → ∀ w', St w0 w' (blk gr r.cells :: rmO gc s xs size (did + 1) L) → pelotonref10_Op_steal (some ⟨gr, 0, none⟩) (some ⟨gc, 0, none⟩) w' k) : pelotonref10_Op_Step (some ⟨gr, 0, none⟩) (some ⟨gc, 0, none⟩) wk 4 w k := by
  unfold pelotonref10_Op_Step pelotonref10_Op_Step_b
  refine joinP_i (fun b w' => b = false ∧ w' = w) (fun J hJ => nn_i (ldI_h (g := gr) (o := 13) (n := r.how) h rfl (iteB_i (fun q => ?_) fun q => hJ _ _ ⟨rfl, rfl⟩))) ?_
  · have q : ¬ r.how = 0 := by simpa using q
    exact nn_i (ldI_h (g := gr) (o := 13) (n := r.how) h rfl (hJ _ _ ⟨by rw [show r.how = 2 by omega]; rfl, rfl⟩))
  rintro b w7 ⟨rfl, rfl⟩
  refine iteB_f rfl (iteB_f ?_ ?_)
  · rw [Bool.or_eq_false_iff, decide_eq_false_iff_not, decide_eq_false_iff_not]; omega
  have hwd : IntKind.wrap .i64 (did + 1) = did + 1 := wrap_id ⟨by omega, by omega⟩
  refine nn_i (ldI_h (g := gc) (o := 2) (n := did) h rfl (nn_i (stC_h (g := gc) (o := 2) h rfl (by simp) fun w12 h => ?_)))
  rw [hwd] at h
  have h : St w0 w12 (blk gr r.cells :: rmO gc s xs size (did + 1) L) := h
  refine nn_i (ldI_h (g := gr) (o := 2) (n := r.kd) h rfl (iteB_i (fun q => ?_) fun q => ?_))
  · exact h0 (by simpa using q) w12 h
  · have q0 : r.kd ≠ 0 := by simpa using q
    refine nn_i (ldI_h (g := gr) (o := 2) (n := r.kd) h rfl (iteB_i (fun q => ?_) fun q => ?_))
    · exact h1 (by simpa using q) w12 h
    · exact h2 q0 (by simpa using q) w12 h
theorem rst_bad {r : Rop} {s : Sl} {wk : Int} {k : Unit → World → Prop} (h : St w0 w (blk gr r.cells :: rmO gc s xs size did L)) (hr : r.how = 0 ∨ r.how = 2) (hw : ¬ (0 ≤ wk ∧ wk ≤ 4))
    (hk : ∀ w', St w0 w' (blk gr ({ r with how := 6, err := 10, got := 0 } : Rop).cells :: rmO gc s xs size did L) → k () w') : pelotonref10_Op_Step (some ⟨gr, 0, none⟩) (some ⟨gc, 0, none⟩) wk 4 w k := by
  unfold pelotonref10_Op_Step pelotonref10_Op_Step_b
  refine joinP_i (fun b w' => b = false ∧ w' = w) (fun J hJ => nn_i (ldI_h (g := gr) (o := 13) (n := r.how) h rfl (iteB_i (fun q => ?_) fun q => hJ _ _ ⟨rfl, rfl⟩))) ?_
  · have q : ¬ r.how = 0 := by simpa using q
    exact nn_i (ldI_h (g := gr) (o := 13) (n := r.how) h rfl (hJ _ _ ⟨by rw [show r.how = 2 by omega]; rfl, rfl⟩))
  rintro b w7 ⟨rfl, rfl⟩
  refine iteB_f rfl (iteB_t ?_ (rbroke h fun w8 h => hk w8 h))
  rw [Bool.or_eq_true, decide_eq_true_eq, decide_eq_true_eq]; omega
end

section
variable {w0 w : World} {L : List HP} {gr gc : Nat} {size did most N wk : Int} {M : Mac} {R : Rg} {O : Dop}
abbrev didN (O : Dop) (did : Int) : Int := if O.how = 6 then did else did + 1
/-- what both do, of an owner's -/
def OSim (w0 w : World) (L : List HP) (gr gc : Nat) (size did wk : Int) (O' : Dop) (M' : Mac) : Prop :=
  ∀ k : Unit → World → Prop, (∀ w', St w0 w' (ropP gr O' :: rmac gc (M'.cells, size, didN O' did) :: L) → k () w') → pelotonref10_Op_Step (some ⟨gr, 0, none⟩) (some ⟨gc, 0, none⟩) wk 4 w k
theorem tell0 {O : Dop} (h : O.how ≠ 1) (h2 : O.how ≠ 2) : O.tell = 0 := by unfold Dop.tell; rw [if_neg (by omega)]
theorem dead_of {O : Dop} (h : O.how ≠ 0) (h2 : O.how ≠ 2) : O.live = false := by unfold Dop.live; simp [h, h2]
theorem own_sim (hg : WG size most N M R) (hO : WO most N M R O) (hw : 0 ≤ wk ∧ wk ≤ 4) (hN : N + 1 ≤ 1000) (hd : 0 ≤ did ∧ did ≤ 1500) (h : St w0 w (ropP gr O :: rmac gc (M.cells, size, did) :: L)) :
    ∃ R', WRes size most N M R wk (O.step M wk).2 R' (O.step M wk).1 ∧ OSim w0 w L gr gc size did wk (O.step M wk).1 (O.step M wk).2 := by
  have hcl : M.caller wk = true := caller_of (nw := 5) hg.st hw.1 (by omega)
  have hlv := live0 hO.how
  have hn := hO.n
  have hlen := hg.len3
  have hlM := hg.lenM
  have hxl : M.len = M.cells.length := rfl
  have h3 : 3 ≤ M.cells.length := by omega
  have hwd : M.cells.getD 2 0 = R.word := hg.word
  have t0 := hg.t0; have tn := hg.tn; have bn := hg.bn; have hpw := hg.pw; have hN1 := hg.n1
  have hmo := hO.mo; have hho := hO.how
  have hB : M.cells.getD 1 0 = M.B := rfl
  have hT : M.cells.getD 0 0 = M.T := rfl
  have hoe := hO.err
  obtain ⟨p, s, L2, h, shut, shutD, hnone, hsome⟩ := ropL_cases hlv h
  have hrh : (O.rop p).how = 0 ∨ (O.rop p).how = 2 := .inl hO.how
  have : O.next = 0 ∨ O.next = 1 ∨ O.next = 2 ∨ O.next = 3 ∨ O.next = 4 ∨ O.next = 5 ∨ O.next = 6 ∨ O.next = 7 ∨ O.next = 8 ∨ O.next = 9 ∨ O.next = 10 ∨ O.next = 11 ∨ O.next = 12 ∨ O.next = 13 ∨ O.next = 14 := by omega
  have k0 : O.next ≤ 7 → (O.rop p).kd = 0 := fun q => if_pos q
  have k1 : 8 ≤ O.next → (O.rop p).kd = 1 := fun q => by show kdN _ = _; unfold kdN; rw [if_neg (by omega), if_pos hn]
  have push : O.next ≤ 7 → ∀ k : Unit → World → Prop, (∀ w', St w0 w' (blk gr (O.rop p).cells :: rmO gc s M.cells size (did + 1) L2) → pelotonref10_Op_push (some ⟨gr, 0, none⟩) (some ⟨gc, 0, none⟩) w' k) → pelotonref10_Op_Step (some ⟨gr, 0, none⟩) (some ⟨gc, 0, none⟩) wk 4 w k := fun q k hk =>
    rst_in h hrh hw (by omega) (fun _ => hk) (fun z => by rw [k0 q] at z; omega) fun z => (z (k0 q)).elim
  have pop : 8 ≤ O.next → ∀ k : Unit → World → Prop, (∀ w', St w0 w' (blk gr (O.rop p).cells :: rmO gc s M.cells size (did + 1) L2) → pelotonref10_Op_pop (some ⟨gr, 0, none⟩) (some ⟨gc, 0, none⟩) w' k) → pelotonref10_Op_Step (some ⟨gr, 0, none⟩) (some ⟨gc, 0, none⟩) wk 4 w k := fun q k hk =>
    rst_in h hrh hw (by omega) (fun z => by rw [k1 q] at z; omega) (fun _ => hk) fun _ z => (z (k1 q)).elim
  rcases this with q | q | q | q | q | q | q | q | q | q | q | q | q | q | q
  · obtain ⟨e, hr⟩ := wo0 hg hO hcl hN q
    rw [e]
    refine ⟨R, hr, fun k hk => push (by omega) k fun w' h => ?_⟩
    have e2 : ({ O.rop p with b := M.cells.getD 1 0, nx := 2 } : Rop) = ({ O with b := M.B, next := 1, how := 0, err := 0 } : Dop).rop p := by simp [Dop.rop, Dop.nxR, kdN, q, hho, Mac.B, Mac.T, Mac.get, hoe]
    refine rp1 h (by show O.nxR = 1; simp [Dop.nxR, q]) h3 fun w' h => hk w' (shut _ s _ _ w' rfl rfl ?_)
    rw [← e2]; exact h
  · obtain ⟨e, hr⟩ := wo1 hg hO hcl hN q
    rw [e]
    refine ⟨R, hr, fun k hk => push (by omega) k fun w' h => ?_⟩
    have e2 : ({ O.rop p with t := M.cells.getD 0 0, nx := 3 } : Rop) = ({ O with t := M.T, next := 2, how := 0, err := 0 } : Dop).rop p := by simp [Dop.rop, Dop.nxR, kdN, q, hho, Mac.B, Mac.T, Mac.get, hoe]
    refine rp2 h (by show O.nxR = 2; simp [Dop.nxR, q]) h3 fun w' h => hk w' (shut _ s _ _ w' rfl rfl ?_)
    rw [← e2]; exact h
  · obtain ⟨c1, c2, c3⟩ := wo2 hg hO hcl hN q
    have hb := hO.b1 (by omega) (by omega)
    have ht := hO.t2 (by omega) (by omega)
    by_cases z1 : O.b - O.t < R.pw
    · obtain ⟨e, hr⟩ := c1 z1
      rw [e]
      refine ⟨R, hr, fun k hk => push (by omega) k fun w' h => ?_⟩
      have e2 : ({ O.rop p with ring := R, nx := 7 } : Rop) = ({ O with ring := R, next := 6, how := 0, err := 0 } : Dop).rop p := by simp [Dop.rop, Dop.nxR, kdN, q, hho, Mac.B, Mac.T, Mac.get, hoe]
      refine rp3 (R := R) h (by show O.nxR = 3; simp [Dop.nxR, q]) h3 hg.right hwd (by show -2000 ≤ O.b - O.t ∧ O.b - O.t ≤ 2000; omega) (fun _ w' h => hk w' (shut _ s _ _ w' rfl rfl ?_)) (fun z _ => (z z1).elim) fun z _ => (z z1).elim
      rw [← e2]; exact h
    · by_cases z2 : R.Log ≥ most
      · obtain ⟨e, hr⟩ := c2 z1 z2
        rw [e]
        refine ⟨R, hr, fun k hk => push (by omega) k fun w' h => ?_⟩
        refine rp3 (R := R) h (by show O.nxR = 3; simp [Dop.nxR, q]) h3 hg.right hwd (by show -2000 ≤ O.b - O.t ∧ O.b - O.t ≤ 2000; omega) (fun z => (z1 z).elim) (fun _ _ w' h => hk w' ?_) fun _ z => (z (by show R.Log ≥ O.most; omega)).elim
        exact ropD_in (shutD _ s _ _ w' h) rfl hoe (by rw [tell0 (by dsimp only; omega) (by dsimp only; omega), if_neg (by dsimp only; omega)]) rfl
      · obtain ⟨e, hr⟩ := c3 z1 z2
        rw [e]
        refine ⟨R, hr, fun k hk => push (by omega) k fun w' h => ?_⟩
        have e2 : ({ O.rop p with ring := R, nx := 4 } : Rop) = ({ O with ring := R, next := 3, how := 0, err := 0 } : Dop).rop p := by simp [Dop.rop, Dop.nxR, kdN, q, hho, Mac.B, Mac.T, Mac.get, hoe]
        refine rp3 (R := R) h (by show O.nxR = 3; simp [Dop.nxR, q]) h3 hg.right hwd (by show -2000 ≤ O.b - O.t ∧ O.b - O.t ≤ 2000; omega) (fun z => (z1 z).elim) (fun _ z => (z2 (by have z : R.Log ≥ O.most := z; omega)).elim) fun _ _ w' h => hk w' (shut _ s _ _ w' rfl rfl ?_)
        rw [← e2]; exact h
  · obtain ⟨c1, c2⟩ := wo3 hg hO hcl hN q
    have hb := hO.b1 (by omega) (by omega)
    have ht := hO.t2 (by omega) (by omega)
    have hr3 := hO.r3 (by omega) (by omega)
    have hc3 := hO.c3 (by omega)
    have hsz := hg.sz; have hs6 := hg.s6; have hfit := hg.ok.fit
    subst hr3
    have hrr : (O.rop p).ring = O.ring := rfl
    cases hroom : M.room (2 * O.ring.pw) with
    | false =>
      obtain ⟨e, hr⟩ := c2 hroom
      rw [e]
      unfold Mac.room at hroom
      have hroom := of_decide_eq_false hroom
      refine ⟨O.ring, hr, fun k hk => push (by omega) k fun w' h => ?_⟩
      refine rp4 h (by show O.nxR = 4; simp [Dop.nxR, q]) (by rw [hrr]; exact hg.right) (by omega) (by omega) ⟨by show InI O.b; exact ⟨by omega, by omega⟩, by show InI O.t; exact ⟨by omega, by omega⟩⟩ (fun _ w' h => hk w' ?_) (fun z => (z (by rw [hrr]; omega)).elim) fun z => (z (by rw [hrr]; omega)).elim
      have hdd : did + 1 - 1 = did := by omega
      rw [hdd] at h
      exact ropD_in (shutD _ s _ _ w' h) rfl rfl (by rw [tell0 (by dsimp only; omega) (by dsimp only; omega), if_neg (by dsimp only; omega)]) rfl
    | true =>
      obtain ⟨e, hbe, hr⟩ := c1 hroom
      rw [e]
      unfold Mac.room at hroom
      have hroom := of_decide_eq_true hroom
      have hxl2 : (⟨(M.cells.length : Int), O.ring.Log + 1⟩ : Rg) = ⟨M.len, O.ring.Log + 1⟩ := rfl
      refine ⟨O.ring, hr, fun k hk => push (by omega) k fun w' h => ?_⟩
      have hE : begE (O.rop p).ring ⟨M.cells.length, (O.rop p).ring.Log + 1⟩ (O.rop p).t (O.rop p).b = 0 := by rw [hrr]; exact hbe
      refine rp4 h (by show O.nxR = 4; simp [Dop.nxR, q]) (by rw [hrr]; exact hg.right) (by omega) (by omega) ⟨by show InI O.b; exact ⟨by omega, by omega⟩, by show InI O.t; exact ⟨by omega, by omega⟩⟩ (fun z => (absurd z (by rw [hrr]; omega))) (fun _ _ s' g w' h9 => hk w' ?_) fun _ => hE
      have e2 : ({ O.rop p with to := ⟨M.cells.length, O.ring.Log + 1⟩, p := some ⟨g, 0, none⟩, nx := 5 } : Rop) = ({ O with to := ⟨M.len, O.ring.Log + 1⟩, copy := some (Cp.begin O.ring ⟨M.len, O.ring.Log + 1⟩ O.t O.b), next := 4, how := 0, err := 0 } : Dop).rop (some ⟨g, 0, none⟩) := by simp [Dop.rop, Dop.nxR, kdN, q, hho, hoe, hxl]
      have hrep : (2 * (O.ring.pw : Int)).toNat = 2 * O.ring.pw := by omega
      have hcg : ((M.tick wk).grow (2 * O.ring.pw)).cells = M.cells ++ List.replicate (2 * O.ring.pw) 0 := by
        show M.cells ++ List.replicate (2 * (O.ring.pw : Int)).toNat 0 = _
        rw [hrep]
      show St _ w' (ropP gr _ :: rmac gc (((M.tick wk).grow (2 * O.ring.pw)).cells, size, did + 1) :: L)
      rw [hcg]
      obtain ⟨rfl, rfl⟩ := hnone hc3
      refine ropL_some (gk := g) (s := s') rfl rfl ?_
      rw [← e2]; exact h9
  · obtain ⟨c, hcp, e1, e2', e3, e4, e5⟩ := hO.c4 q
    obtain ⟨hne, hs3, hsl, har, hbr, c1, c2⟩ := wo4 hg hO hcl hN q hcp
    obtain ⟨gk, rfl, rfl⟩ := hsome c hcp
    have hspl : 3 ≤ c.spot ∧ c.spot < M.cells.length := ⟨hs3, by omega⟩
    cases hl : c.loaded with
    | true =>
      obtain ⟨e, hr⟩ := c1 hl
      rw [e]
      refine ⟨R, hr, fun k hk => push (by omega) k fun w' h => ?_⟩
      refine rp5 (c := c) (gk := gk) h (by show O.nxR = 5; simp [Dop.nxR, q]) rfl har hbr hne hspl (fun _ w' h => hk w' ?_) fun z => by rw [hl] at z; cases z
      have e2 : ({ O.rop (some ⟨gk, 0, none⟩) with nx := if (c.next 0).at_ = c.until_ then 6 else 5 } : Rop) = ({ O with copy := some (c.next 0), next := if (c.next 0).at_ = c.until_ then 5 else 4, how := 0, err := 0 } : Dop).rop (some ⟨gk, 0, none⟩) := by
        split <;> simp [Dop.rop, Dop.nxR, kdN, q, hho, hoe]
      rw [e2] at h
      exact ropL_some rfl rfl h
    | false =>
      obtain ⟨e, hr⟩ := c2 hl
      rw [e]
      refine ⟨R, hr, fun k hk => push (by omega) k fun w' h => ?_⟩
      refine rp5 (c := c) (gk := gk) h (by show O.nxR = 5; simp [Dop.nxR, q]) rfl har hbr hne hspl (fun z => by rw [hl] at z; cases z) fun _ w' h => hk w' ?_
      have e2 : (O.rop (some ⟨gk, 0, none⟩) : Rop) = ({ O with copy := some (c.next (M.get c.spot)), next := 4, how := 0, err := 0 } : Dop).rop (some ⟨gk, 0, none⟩) := by
        simp [Dop.rop, Dop.nxR, kdN, q, hho, hoe]
      rw [e2] at h
      exact ropL_some rfl rfl h
  · obtain ⟨e, hr⟩ := wo5 hg hO hcl hN q
    rw [e]
    refine ⟨O.to, hr, fun k hk => push (by omega) k fun w' h => ?_⟩
    have e2 : ({ O.rop p with ring := O.to, nx := 7 } : Rop) = ({ O with ring := O.to, next := 6, how := 0, err := 0 } : Dop).rop p := by simp [Dop.rop, Dop.nxR, kdN, q, hho, Mac.B, Mac.T, Mac.get, hoe]
    refine rp6 h (by show O.nxR = 6; simp [Dop.nxR, q]) h3 fun w' h => hk w' (shut _ s _ _ w' rfl rfl ?_)
    rw [← e2]; exact h
  · obtain ⟨e, hr⟩ := wo6 hg hO hcl hN q
    have hr3 := hO.r3 (by omega) (by omega)
    have hin := hg.in' O.b
    rw [e]
    refine ⟨_, hr, fun k hk => push (by omega) k fun w' h => ?_⟩
    have e2 : ({ O.rop p with nx := 8 } : Rop) = ({ O with next := 7, how := 0, err := 0 } : Dop).rop p := by simp [Dop.rop, Dop.nxR, kdN, q, hho, Mac.B, Mac.T, Mac.get, hoe]
    have hX : (O.rop p).X = O.x := by simp [Dop.rop, kdN, q]
    subst hr3
    have hrr : (O.rop p).ring = O.ring := rfl
    refine rp7 h (by show O.nxR = 7; simp [Dop.nxR, q]) (by show 0 ≤ O.ring.place O.b ∧ O.ring.place O.b < _; omega) fun w' h => hk w' (shut _ s _ _ w' rfl rfl ?_)
    rw [← e2]
    exact (congrArg (fun y => St _ w' (blk gr (Rop.cells { O.rop p with nx := 8 }) :: rmO gc s (M.cells.set (O.ring.place O.b).toNat y) size (did + 1) L2)) hX).mp h
  · obtain ⟨e, hr⟩ := wo7 hg hO hcl hN q
    have hb := hO.b1 (by omega) (by omega)
    rw [e]
    refine ⟨R, hr, fun k hk => push (by omega) k fun w' h => ?_⟩
    refine rp8 h (by show O.nxR = 8; simp [Dop.nxR, q]) h3 (by show -1000 ≤ O.b ∧ O.b ≤ 1000; omega) fun w' h => hk w' ?_
    refine ropD_in (shutD _ s _ _ w' h) rfl hoe ?_ rfl
    have hgot := hO.got7 (by omega)
    unfold Dop.tell
    dsimp only
    rw [if_pos (.inr rfl), hgot, if_neg]
    show ¬ (_ ∨ _ ∧ kdN O.next ≠ 0)
    unfold kdN; rw [if_pos (by omega)]; omega
  · obtain ⟨e, hr⟩ := wo8 hg hO hcl hN q
    rw [e]
    refine ⟨R, hr, fun k hk => pop (by omega) k fun w' h => ?_⟩
    have e2 : ({ O.rop p with b := M.cells.getD 1 0, nx := 2 } : Rop) = ({ O with b := M.B, next := 9, how := 0, err := 0 } : Dop).rop p := by simp [Dop.rop, Dop.nxR, kdN, q, hho, Mac.B, Mac.T, Mac.get, hoe]
    refine ro1 h (by show O.nxR = 1; simp [Dop.nxR, q]) h3 fun w' h => hk w' (shut _ s _ _ w' rfl rfl ?_)
    rw [← e2]; exact h
  · obtain ⟨e, hr⟩ := wo9 hg hO hcl hN q
    rw [e]
    refine ⟨R, hr, fun k hk => pop (by omega) k fun w' h => ?_⟩
    have e2 : ({ O.rop p with ring := R, nx := 3 } : Rop) = ({ O with next := 10, ring := R, how := 0, err := 0 } : Dop).rop p := by simp [Dop.rop, Dop.nxR, kdN, q, hho, Mac.B, Mac.T, Mac.get, hoe]
    refine ro2 (R := R) h (by show O.nxR = 2; simp [Dop.nxR, q]) h3 hg.right hwd fun w' h => hk w' (shut _ s _ _ w' rfl rfl ?_)
    rw [← e2]; exact h
  · obtain ⟨e, hr⟩ := wo10 hg hO hcl hN q
    rw [e]
    refine ⟨R, hr, fun k hk => pop (by omega) k fun w' h => ?_⟩
    have e2 : ({ O.rop p with nx := 4 } : Rop) = ({ O with next := 11, how := 0, err := 0 } : Dop).rop p := by simp [Dop.rop, Dop.nxR, kdN, q, hho, Mac.B, Mac.T, Mac.get, hoe]
    refine ro3 h (by show O.nxR = 3; simp [Dop.nxR, q]) h3 (by show -1000 ≤ O.b ∧ O.b ≤ 1000; have := hO.b9 (by omega) (by omega); omega) fun w' h => hk w' (shut _ s _ _ w' rfl rfl ?_)
    rw [← e2]; exact h
  · obtain ⟨e, hr⟩ := wo11 hg hO hcl hN q
    rw [e]
    refine ⟨R, hr, fun k hk => pop (by omega) k fun w' h => ?_⟩
    refine ro4 h (by show O.nxR = 4; simp [Dop.nxR, q]) h3 (by show -1000 ≤ O.b ∧ O.b ≤ 1000; have := hO.b11 (by omega); omega) fun w' h => hk w' (shut _ s _ _ w' rfl rfl ?_)
    have e2 : ({ O.rop p with t := M.cells.getD 0 0, nx := if M.cells.getD 0 0 > O.b - 1 then 5 else 6 } : Rop) = ({ O with t := M.T, next := if M.T > O.b - 1 then 14 else 12, how := 0, err := 0 } : Dop).rop p := by
      by_cases z : M.T > O.b - 1
      · have z' : M.cells.getD 0 0 > O.b - 1 := z
        rw [if_pos z, if_pos z']
        have hnx : ({ O with t := M.T, next := 14, how := 0, err := 0 } : Dop).nxR = 5 := by
          unfold Dop.nxR; dsimp only; rw [if_neg (by omega), if_neg (by omega), if_neg (by omega), if_pos rfl, if_pos z]
        unfold Dop.rop
        rw [hnx]
        simp [kdN, q, hho, hoe, Mac.T, Mac.get]
      · have z' : ¬ M.cells.getD 0 0 > O.b - 1 := z
        rw [if_neg z, if_neg z']
        simp [Dop.rop, Dop.nxR, kdN, q, hho, hoe, Mac.T, Mac.get]
    rw [← e2]; exact h
  · obtain ⟨e, hr⟩ := wo12 hg hO hcl hN q
    have hr10 := hO.r10 (by omega) (by omega)
    have hin := hg.in' (O.b - 1)
    have hb := hO.b11 (by omega)
    subst hr10
    rw [e]
    refine ⟨_, hr, fun k hk => pop (by omega) k fun w' h => ?_⟩
    refine ro6 h (by show O.nxR = 6; simp [Dop.nxR, q]) (by show 0 ≤ O.ring.place (O.b - 1) ∧ O.ring.place (O.b - 1) < _; omega) (by show -1000 ≤ O.b ∧ O.b ≤ 1000; omega) fun w' h => hk w' ?_
    by_cases z : O.t < O.b - 1
    · have z' : (O.rop p).t < (O.rop p).b - 1 := z
      rw [if_pos z', if_pos z'] at h
      rw [if_pos z]
      refine ropD_in (shutD _ s _ _ w' h) rfl hoe ?_ rfl
      unfold Dop.tell
      dsimp only
      rw [if_pos (.inr rfl), if_pos]
      · rfl
      · refine .inr ⟨rfl, ?_⟩
        show kdN O.next ≠ 0
        unfold kdN; rw [if_neg (by omega), if_pos (by omega)]; omega
    · have z' : ¬ (O.rop p).t < (O.rop p).b - 1 := z
      rw [if_neg z', if_neg z'] at h
      rw [if_neg z]
      refine shut _ s _ _ w' rfl rfl ?_
      have e2 : ({ O.rop p with X := M.cells.getD (O.ring.place ((O.rop p).b - 1)).toNat 0, nx := 7, how := (O.rop p).how, got := (O.rop p).got } : Rop) = ({ O with got := M.get (O.ring.place (O.b - 1)), next := 13, how := 0, err := 0 } : Dop).rop p := by simp [Dop.rop, Dop.nxR, kdN, q, hho, hoe, Mac.get]
      rw [← e2]; exact h
  · obtain ⟨e, hr⟩ := wo13 hg hO hcl hN q
    have ht := hO.t12 (by omega)
    have ht3 := hO.t13 (by omega) (by omega)
    have hwon := hO.won (by omega)
    rw [e]
    refine ⟨R, hr, fun k hk => pop (by omega) k fun w' h => ?_⟩
    refine ro7 h (by show O.nxR = 7; simp [Dop.nxR, q]) h3 (by show -1000 ≤ O.t ∧ O.t ≤ 1000; omega) (fun z w' h => ?_) fun z w' h => ?_
    · have z : M.T = O.t := z
      rw [if_pos z, decide_eq_true z] at hk
      have e2 : ({ O.rop p with won := true, nx := 8 } : Rop) = ({ O with won := true, next := 14, how := 0, err := 0 } : Dop).rop p := by simp [Dop.rop, Dop.nxR, kdN, q, hho, hoe]; omega
      rw [e2] at h
      exact hk w' (shut _ s _ _ w' rfl rfl h)
    · have z : ¬ M.T = O.t := z
      rw [if_neg z, decide_eq_false z] at hk
      have e2 : ({ O.rop p with nx := 8 } : Rop) = ({ O with won := false, next := 14, how := 0, err := 0 } : Dop).rop p := by simp [Dop.rop, Dop.nxR, kdN, q, hho, hoe, hwon]; omega
      rw [e2] at h
      exact hk w' (shut _ s _ _ w' rfl rfl h)
  · obtain ⟨e, hr⟩ := wo14 hg hO hcl hN q
    rw [e]
    refine ⟨R, hr, fun k hk => pop (by omega) k fun w' h => ?_⟩
    have hkd : (O.rop p).kd = 1 := k1 (by omega)
    by_cases z : O.t > O.b - 1
    · have hwn := hO.w14 q z
      refine ro5 h (by show O.nxR = 5; simp [Dop.nxR, q]; omega) h3 fun w' h => hk w' ?_
      rw [hwn]
      exact ropD_in (shutD _ s _ _ w' h) rfl hoe (by rw [tell0 (by dsimp only; simp) (by dsimp only; simp), if_neg (by dsimp only; simp)]) rfl
    · refine ro8 h (by show O.nxR = 8; simp [Dop.nxR, q]; omega) h3 fun w' h => hk w' ?_
      cases hwn : O.won with
      | true =>
        have hw' : (O.rop p).won = true := hwn
        rw [if_pos hw', if_pos hw'] at h
        refine ropD_in (shutD _ s _ _ w' h) rfl hoe ?_ rfl
        unfold Dop.tell
        dsimp only
        rw [if_pos (.inr rfl), if_pos (.inr ⟨rfl, by rw [hkd]; omega⟩)]
        simp [Dop.rop, kdN, q]
      | false =>
        have hw' : ¬ (O.rop p).won = true := by show ¬ O.won = true; rw [hwn]; simp
        rw [if_neg hw', if_neg hw'] at h
        exact ropD_in (shutD _ s _ _ w' h) rfl hoe (by rw [tell0 (by dsimp only; simp) (by dsimp only; simp), if_neg (by dsimp only; simp)]) rfl
theorem thf_sim (hg : WG size most N M R) (hO : WT most M O) (hw : 0 ≤ wk ∧ wk ≤ 4) (hN : N + 1 ≤ 1000) (hd : 0 ≤ did ∧ did ≤ 1500) (h : St w0 w (ropP gr O :: rmac gc (M.cells, size, did) :: L)) :
    VRes size most N M R wk (O.step M wk).2 (O.step M wk).1 ∧ (O.step M wk).1.how ≠ 6 ∧ (O.step M wk).1.err = 0 ∧ OSim w0 w L gr gc size did wk (O.step M wk).1 (O.step M wk).2 := by
  have hcl : M.caller wk = true := caller_of (nw := 5) hg.st hw.1 (by omega)
  have hn0 := hO.n0; have hn1 := hO.n1
  have hho := hO.how
  have hh2 : O.how = 0 ∨ O.how = 2 := by split at hho <;> omega
  have hlv : O.live = true := live2 hh2
  have hlen := hg.len3
  have hlM := hg.lenM
  have hxl : M.len = M.cells.length := rfl
  have h3 : 3 ≤ M.cells.length := by omega
  have hwd : M.cells.getD 2 0 = R.word := hg.word
  have t0 := hg.t0; have tn := hg.tn; have bn := hg.bn; have hN1 := hg.n1
  have hoe := hO.err
  have hB : M.cells.getD 1 0 = M.B := rfl
  have hT : M.cells.getD 0 0 = M.T := rfl
  obtain ⟨p, s, L2, h, shut, shutD, _, _⟩ := ropL_cases hlv h
  have k2 : (O.rop p).kd = 2 := by show kdN _ = _; unfold kdN; rw [if_neg (by omega), if_neg (by omega)]
  have steal : ∀ k : Unit → World → Prop, (∀ w', St w0 w' (blk gr (O.rop p).cells :: rmO gc s M.cells size (did + 1) L2) → pelotonref10_Op_steal (some ⟨gr, 0, none⟩) (some ⟨gc, 0, none⟩) w' k) → pelotonref10_Op_Step (some ⟨gr, 0, none⟩) (some ⟨gc, 0, none⟩) wk 4 w k := fun k hk =>
    rst_in h hh2 hw (by omega) (fun z => by rw [k2] at z; omega) (fun z => by rw [k2] at z; omega) fun _ _ => hk
  have : O.next = 15 ∨ O.next = 16 ∨ O.next = 17 ∨ O.next = 18 ∨ O.next = 19 := by omega
  rcases this with q | q | q | q | q
  · obtain ⟨e, hr⟩ := vt15 hg hO hcl hN q
    rw [if_neg (by omega)] at hho
    rw [e]
    refine ⟨hr, by dsimp only; omega, rfl, fun k hk => steal k fun w' h => ?_⟩
    have e2 : ({ O.rop p with t := M.cells.getD 0 0, nx := 2 } : Rop) = ({ O with t := M.T, next := 16, how := 0, err := 0 } : Dop).rop p := by simp [Dop.rop, Dop.nxR, kdN, q, hho, Mac.B, Mac.T, Mac.get, hoe]
    refine rs1 h (by show O.nxR = 1; simp [Dop.nxR, q]) h3 fun w' h => hk w' (shut _ s _ _ w' rfl rfl ?_)
    rw [← e2]; exact h
  · obtain ⟨e, hr⟩ := vt16 hg hO hcl hN q
    rw [if_neg (by omega)] at hho
    rw [e]
    refine ⟨hr, by dsimp only; split <;> omega, rfl, fun k hk => steal k fun w' h => ?_⟩
    refine rs2 h (by show O.nxR = 2; simp [Dop.nxR, q]) h3 fun w' h => hk w' ?_
    by_cases z : O.t ≥ M.B
    · have z' : (O.rop p).t ≥ M.cells.getD 1 0 := z
      rw [if_pos z'] at h
      rw [if_pos z]
      exact ropD_in (shutD _ s _ _ w' h) rfl hoe (by rw [tell0 (by dsimp only; omega) (by dsimp only; omega), if_neg (by dsimp only; omega)]) rfl
    · have z' : ¬ (O.rop p).t ≥ M.cells.getD 1 0 := z
      rw [if_neg z'] at h
      rw [if_neg z]
      have e2 : ({ O.rop p with b := M.cells.getD 1 0, nx := 3, how := (O.rop p).how } : Rop) = ({ O with b := M.B, next := 17, how := 0, err := 0 } : Dop).rop p := by simp [Dop.rop, Dop.nxR, kdN, q, hho, Mac.B, Mac.T, Mac.get, hoe]
      refine shut _ s _ _ w' rfl rfl ?_
      rw [← e2]; exact h
  · obtain ⟨e, hr⟩ := vt17 hg hO hcl hN q
    rw [if_neg (by omega)] at hho
    rw [e]
    refine ⟨hr, by dsimp only; omega, rfl, fun k hk => steal k fun w' h => ?_⟩
    have e2 : ({ O.rop p with ring := R, nx := 4 } : Rop) = ({ O with next := 18, ring := R, how := 0, err := 0 } : Dop).rop p := by simp [Dop.rop, Dop.nxR, kdN, q, hho, Mac.B, Mac.T, Mac.get, hoe]
    refine rs3 (R := R) h (by show O.nxR = 3; simp [Dop.nxR, q]) h3 hg.right hwd fun w' h => hk w' (shut _ s _ _ w' rfl rfl ?_)
    rw [← e2]; exact h
  · obtain ⟨i1, i2, e, hr⟩ := vt18 hg hO hcl hN q
    rw [if_neg (by omega)] at hho
    rw [e]
    refine ⟨hr, by dsimp only; omega, rfl, fun k hk => steal k fun w' h => ?_⟩
    refine rs4 h (by show O.nxR = 4; simp [Dop.nxR, q]) (by show 0 ≤ O.ring.place O.t ∧ O.ring.place O.t < _; omega) fun w' h => hk w' (shut _ s _ _ w' rfl rfl ?_)
    have e2 : ({ O.rop p with got := M.cells.getD (O.ring.place O.t).toNat 0, how := 2, nx := 5 } : Rop) = ({ O with got := M.get (O.ring.place O.t), next := 19, how := 2, err := 0 } : Dop).rop p := by simp [Dop.rop, Dop.nxR, kdN, q, hho, hoe, Mac.get]
    rw [← e2]; exact h
  · obtain ⟨e, hr⟩ := vt19 hg hO hcl hN q
    have ht := hO.t1 (by omega)
    rw [e]
    refine ⟨hr, by dsimp only; split <;> omega, rfl, fun k hk => steal k fun w' h => ?_⟩
    refine rs5 h (by show O.nxR = 5; simp [Dop.nxR, q]) h3 (by show -1000 ≤ O.t ∧ O.t ≤ 1000; omega) (fun z w' h => ?_) fun z w' h => ?_
    · have z : M.T = O.t := z
      rw [if_pos z, if_pos z] at hk
      refine hk w' (ropD_in (shutD _ s _ _ w' h) rfl hoe ?_ rfl)
      unfold Dop.tell
      dsimp only
      rw [if_pos (.inr rfl), if_pos (.inr ⟨rfl, by rw [k2]; omega⟩)]
      simp [Dop.rop, kdN, q]
    · have z : ¬ M.T = O.t := z
      rw [if_neg z, if_neg z] at hk
      exact hk w' (ropD_in (shutD _ s _ _ w' h) rfl hoe (by rw [tell0 (by dsimp only; omega) (by dsimp only; omega), if_neg (by dsimp only; omega)]) rfl)
/-- a worker who is none -/
theorem bad_step (hO : WO most N M R O ∨ WT most M O) (hc : M.caller wk = false) : ∃ O', O.step M wk = (O', M) ∧ O'.how = 6 ∧ O'.err = 10 := by
  have hcan : ∀ a, M.can wk a = false := fun a => by unfold Mac.can; rw [hc]; rfl
  have hld : ∀ a, M.ld wk a = (M, 0, 10) := fun a => by unfold Mac.ld; rw [if_neg (by rw [hcan]; simp)]
  have hst : ∀ a x, M.st wk a x = (M, 10) := fun a x => by unfold Mac.st; rw [if_neg (by rw [hcan]; simp)]
  have hcas : ∀ a o x, M.cas wk a o x = (M, false, 10) := fun a o x => by unfold Mac.cas; rw [if_neg (by rw [hcan]; simp)]
  have hrd : ∀ O : Dop, O.read M wk = (O, M, 10) := fun O => by unfold Dop.read; rw [if_neg (by rw [hcan]; simp)]
  have hlv : O.live = true := by
    rcases hO with h | h
    · exact live0 h.how
    · exact live2 (by have := h.how; split at this <;> omega)
  have fin : ∀ r : Dst, O.run M wk = r → r.2.1 = M → r.2.2.2 = 10 → ∃ O', O.step M wk = (O', M) ∧ O'.how = 6 ∧ O'.err = 10 := fun r hr h1 h2 =>
    ⟨_, by rw [step_of hlv hr, h1], by dsimp only; rw [h2]; rfl, h2⟩
  have hn : O.next ≤ 19 := by
    rcases hO with h | h
    · have := h.n; omega
    · exact h.n1
  have : O.next = 0 ∨ O.next = 1 ∨ O.next = 2 ∨ O.next = 3 ∨ O.next = 4 ∨ O.next = 5 ∨ O.next = 6 ∨ O.next = 7 ∨ O.next = 8 ∨ O.next = 9 ∨ O.next = 10 ∨ O.next = 11 ∨ O.next = 12 ∨ O.next = 13 ∨ O.next = 14 ∨ O.next = 15 ∨ O.next = 16 ∨ O.next = 17 ∨ O.next = 18 ∨ O.next = 19 := by omega
  rcases this with q | q | q | q | q | q | q | q | q | q | q | q | q | q | q | q | q | q | q | q
  · exact fin (O.f0 M wk) (by unfold Dop.run; simp only [q]) (by unfold Dop.f0; rw [hld]) (by unfold Dop.f0; rw [hld])
  · exact fin (O.f1 M wk) (by unfold Dop.run; simp only [q]) (by unfold Dop.f1; rw [hld]) (by unfold Dop.f1; rw [hld])
  · exact fin (O.f2 M wk) (by unfold Dop.run; simp only [q]) (by unfold Dop.f2; rw [hrd]; rfl) (by unfold Dop.f2; rw [hrd]; rfl)
  · exact fin (O.f3 M wk) (by unfold Dop.run; simp only [q]) (by unfold Dop.f3; rw [if_neg (by rw [hc]; simp)]) (by unfold Dop.f3; rw [if_neg (by rw [hc]; simp)])
  · rcases hO with h | h
    · obtain ⟨c, hcp, e1, e2, e3, e4, e5⟩ := h.c4 q
      exact fin (O.f4 M wk c) (by unfold Dop.run; simp only [q, hcp]) (by unfold Dop.f4; rw [if_neg (by omega), if_neg (by rw [hcan]; simp)]) (by unfold Dop.f4; rw [if_neg (by omega), if_neg (by rw [hcan]; simp)])
    · have := h.n0; omega
  · exact fin (O.f5 M wk) (by unfold Dop.run; simp only [q]) (by unfold Dop.f5; rw [hst]) (by unfold Dop.f5; rw [hst])
  · exact fin (O.f6 M wk) (by unfold Dop.run; simp only [q]) (by unfold Dop.f6; rw [hst]) (by unfold Dop.f6; rw [hst])
  · exact fin (O.f7 M wk) (by unfold Dop.run; simp only [q]) (by unfold Dop.f7; rw [hst]) (by unfold Dop.f7; rw [hst])
  · exact fin (O.f8 M wk) (by unfold Dop.run; simp only [q]) (by unfold Dop.f8; rw [hld]) (by unfold Dop.f8; rw [hld])
  · exact fin (O.f9 M wk) (by unfold Dop.run; simp only [q]) (by unfold Dop.f9; rw [hrd]) (by unfold Dop.f9; rw [hrd])
  · exact fin (O.f10 M wk) (by unfold Dop.run; simp only [q]) (by unfold Dop.f10; rw [hst]) (by unfold Dop.f10; rw [hst])
  · exact fin (O.f11 M wk) (by unfold Dop.run; simp only [q]) (by unfold Dop.f11; rw [hld]) (by unfold Dop.f11; rw [hld])
  · exact fin (O.f12 M wk) (by unfold Dop.run; simp only [q]) (by unfold Dop.f12; rw [hld]) (by unfold Dop.f12; rw [hld])
  · exact fin (O.f13 M wk) (by unfold Dop.run; simp only [q]) (by unfold Dop.f13; rw [hcas]) (by unfold Dop.f13; rw [hcas])
  · exact fin (O.f14 M wk) (by unfold Dop.run; simp only [q]) (by unfold Dop.f14; rw [hst]) (by unfold Dop.f14; rw [hst])
  · exact fin (O.f15 M wk) (by unfold Dop.run; simp only [q]) (by unfold Dop.f15; rw [hld]) (by unfold Dop.f15; rw [hld])
  · exact fin (O.f16 M wk) (by unfold Dop.run; simp only [q]) (by unfold Dop.f16; rw [hld]) (by unfold Dop.f16; rw [hld])
  · exact fin (O.f17 M wk) (by unfold Dop.run; simp only [q]) (by unfold Dop.f17; rw [hrd]) (by unfold Dop.f17; rw [hrd])
  · exact fin (O.f18 M wk) (by unfold Dop.run; simp only [q]) (by unfold Dop.f18; rw [hld]) (by unfold Dop.f18; rw [hld])
  · exact fin (O.f19 M wk) (by unfold Dop.run; simp only [q]) (by unfold Dop.f19; rw [hcas]) (by unfold Dop.f19; rw [hcas])
theorem bad_sim {O' : Dop} (hl : O.live = true) (hw : ¬ (0 ≤ wk ∧ wk ≤ 4)) (h6 : O'.how = 6) (h10 : O'.err = 10) (h : St w0 w (ropP gr O :: rmac gc (M.cells, size, did) :: L)) : OSim w0 w L gr gc size did wk O' M := by
  intro k hk
  obtain ⟨p, s, L2, h, shut, shutD, _, _⟩ := ropL_cases hl h
  have hr : (O.rop p).how = 0 ∨ (O.rop p).how = 2 := by
    show O.how = 0 ∨ O.how = 2
    unfold Dop.live at hl
    simpa using hl
  refine rst_bad h hr hw fun w' h => hk w' ?_
  have e : didN O' did = did := if_pos h6
  rw [e]
  exact ropD_in (shutD _ s _ _ w' h) h6.symm h10.symm (by rw [tell0 (by omega) (by omega), if_neg (by omega)]) (dead_of (by omega) (by omega))
end
end Go.Proofs.Ytheallacpidcmaa
