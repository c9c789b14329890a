/-
  Layer 6: the law of scopes.
-/
import Derived.Test.YtgkfbagclkjilaaSq
set_option linter.unusedSimpArgs false
set_option linter.unusedVariables false
set_option maxRecDepth 100000
namespace Go.Proofs.Ytgkfbagclkjilaa
open Go Go.Ev Go.Proofs
open Go.Proofs.Ytgkfbagclkjilaa.Fr (fTo fOn fPlain fForked fJoined fClosed fChild fRoot fR isB fTo_len fOn_len fPlain_len fForked_len fJoined_len fClosed_len)
open Go.Proofs.Ytgkfbagclkjilaa.Ck (opI Walk Accs needsOf isGoes heldL depths stepD handlesOk subBits scopesOk forks)

def fS (k : Int) : List Int := [k, 0, 0, 0, 0, 0, 0, 0, 0, 0, -1, -1, -1, -1, -1, -1, -1, -1, 0]
def cS (k : Int) : List (List Int) := [[11, 0, 0, 0, 0], [8, 0, 0, 0, k], [13, 0, 0, 0, 0], [8, 1, 0, 0, k], [11, 0, 0, 0, 0], [8, 1, 0, 0, k], [12, 2, 0, 0, 0], [12, 3, 0, 0, 0], [0, 2, 0, 0, 0], [0, 3, 0, 0, 0], [8, 2, 0, 0, k], [16, 0, 0, 0, 0]]
def kidS (k : Int) (row nest : Nat) (off : Bool) : Tk := ⟨fS k, row, [(false, 0)], 0, nest, off⟩
def offR (inn k : Int) : Rw := ⟨0, inn, k, 4, 0, 0, []⟩
section
variable {P : List FnR} {F : Int} {t : Tk} {m mz : Mc} {k : Int} {g : FnR}
theorem goes_kind (hA : Accs P) (hN : ∀ g ∈ P, InI g.needs) {r : Res} (hG : Goes P F t m r) : ∀ {m' : Mc}, r = .ok m' → Inv P t m → t.off = false → (m'.rows.getD t.row r0).kind ≠ 4 := by
  induction hG with
  | fin h =>
    intro m' e hI ho; cases e
    obtain ⟨st, kind, v, e, hh⟩ := fin_how hA hI h
    rw [e, List.getD_eq_getElem?_getD, endRow_at hI.row]
    show kind ≠ 4
    rcases hh with ⟨q, _⟩ | ⟨_, q, _⟩
    · rw [ho] at q; cases q
    · omega
  | bad h => intro m' e; cases e
  | go h hg ih =>
    intro m' e hI ho
    obtain ⟨g1, g2, g3, g4, g5⟩ := stp_go h
    rw [← g3]
    exact ih e (inv_go hA hI h).1 (by rw [g5]; exact ho)
  | forkBad h _ ih => intro m' e; cases e
  | fork h h1 h2 ih1 ih2 =>
    intro m' e hI ho
    obtain ⟨k1, k2⟩ := inv_child hA hN hI h
    obtain ⟨k3, k4⟩ := goes_more hA hN h1 rfl k1
    exact ih2 e (inv_forked hA hI h k3 k4).1 ho
theorem off_end {m : Mc} {row : Nat} {f : List Int} {inn : Int} {L : List Rw} (hr : m.rows = L ++ [kid inn k]) (hrow : row = L.length) (hf : f.getD 18 0 = 0) : (m.fin row f 4 0).rows = L ++ [offR inn k] := by
  unfold Mc.fin
  dsimp only
  rw [hr, hrow, hf]
  have e : (L ++ [kid inn k]).getD L.length r0 = kid inn k := by simp [List.getD_eq_getElem?_getD]
  rw [e, List.set_append_right _ _ (Nat.le_refl _), Nat.sub_self]
  rfl
theorem scopes_run (hA : Accs P) (hN : ∀ g ∈ P, InI g.needs) (hP : P[0]? = some g) (hgc : g.code = cS k) (hc : ∀ a : Int, a = 0 ∨ a = 1 ∨ a = 2 → Fr.chk [8, a, 0, 0, k] = 0) (hnd : needsOf P k = 0) (hG : Goes P F t0 m0 (.ok mz)) :
    ∃ ma md st v s, Goes P F (kidS k 1 2 false) ⟨[⟨-1, 0, 0, 0, 0, 0, []⟩, kid 1 k], 2⟩ (.ok ma) ∧ Inv P (kidS k 1 2 false) ⟨[⟨-1, 0, 0, 0, 0, 0, []⟩, kid 1 k], 2⟩ ∧
      Goes P F (kidS k (ma.rows.length + 2) 1 false) ⟨((ma.rows ++ [offR 1 k, offR 2 k]).set 0 ⟨-1, 0, 0, 0, 0, 0, [false, true]⟩) ++ [kid 0 k], s⟩ (.ok md) ∧ Inv P (kidS k (ma.rows.length + 2) 1 false) ⟨((ma.rows ++ [offR 1 k, offR 2 k]).set 0 ⟨-1, 0, 0, 0, 0, 0, [false, true]⟩) ++ [kid 0 k], s⟩ ∧ mz.rows = endRow md 0 st 2 v := by
  have I0 := inv_root hA hN
  have c1 := hc 0 (by omega)
  have c2 := hc 1 (by omega)
  have c3 := hc 2 (by omega)
  -- open
  obtain ⟨h1, G1⟩ := op_open (t := t0) (m := m0) rfl (by rw [ins0 hP rfl, hgc]; rfl) hG
  have I1 := (inv_go hA I0 h1).1
  have e1 : fOn t0.f = [0, 1, 0, 0, 0, 0, 0, 0, 0, 0, -1, -1, -1, -1, -1, -1, -1, -1, 1] := by kernel_rfl
  rw [e1] at G1 I1
  -- the first fork
  obtain ⟨ma, ga, Ia, G2, I2⟩ := opI_fork hA hN I1 (a := 0) (k := k) rfl (by rw [ins0 hP rfl, hgc]; rfl) c1 hnd G1
  rw [child0] at ga Ia
  have e2 : ∀ x : Int, fOn (([0, 1, 0, 0, 0, 0, 0, 0, 0, 0, -1, -1, -1, -1, -1, -1, -1, -1, 1] : List Int).set (10 + (0 : Int).toNat) x) = [0, 2, 0, 0, 0, 0, 0, 0, 0, 0, x, -1, -1, -1, -1, -1, -1, -1, 2] := by intro x; kernel_rfl
  dsimp only at G2 I2
  rw [e2] at G2 I2
  have hla : 2 ≤ ma.rows.length := (goes_more hA hN ga rfl Ia).1.1
  have ha0 : ma.rows[0]? = some ⟨-1, 0, 0, 0, 0, 0, []⟩ := goes_keep hA hN ga rfl Ia 0 (by simp [m0]) (by simp [m0])
  generalize ((m0.rows.length : Nat) : Int) = x at G2 I2
  -- cancel
  obtain ⟨h3, G3⟩ := op_cancel rfl (by rw [ins0 hP rfl, hgc]; rfl) G2
  have I3 := (inv_go hA I2 h3).1
  have e3 : fOn [0, 2, 0, 0, 0, 0, 0, 0, 0, 0, x, -1, -1, -1, -1, -1, -1, -1, 2] = [0, 3, 0, 0, 0, 0, 0, 0, 0, 0, x, -1, -1, -1, -1, -1, -1, -1, 3] := by kernel_rfl
  dsimp only at G3 I3
  rw [e3] at G3 I3
  -- the second fork
  obtain ⟨mb, gb, Ib, G4, I4⟩ := opI_fork hA hN I3 (a := 1) (k := k) rfl (by rw [ins0 hP rfl, hgc]; rfl) c2 hnd G3
  rw [child0] at gb Ib
  have hb := goes_off rfl rfl gb
  have hbr : mb.rows = ma.rows ++ [offR 1 k] := by rw [hb]; exact off_end (L := ma.rows) rfl rfl rfl
  have e4 : ∀ y : Int, fOn (([0, 3, 0, 0, 0, 0, 0, 0, 0, 0, x, -1, -1, -1, -1, -1, -1, -1, 3] : List Int).set (10 + (1 : Int).toNat) y) = [0, 4, 0, 0, 0, 0, 0, 0, 0, 0, x, y, -1, -1, -1, -1, -1, -1, 4] := by intro y; kernel_rfl
  dsimp only at G4 I4
  rw [e4] at G4 I4
  generalize ((ma.rows.length : Nat) : Int) = y at G4 I4
  -- open
  obtain ⟨h5, G5⟩ := op_open rfl (by rw [ins0 hP rfl, hgc]; rfl) G4
  have I5 := (inv_go hA I4 h5).1
  have e5 : fOn [0, 4, 0, 0, 0, 0, 0, 0, 0, 0, x, y, -1, -1, -1, -1, -1, -1, 4] = [0, 5, 0, 0, 0, 0, 0, 0, 0, 0, x, y, -1, -1, -1, -1, -1, -1, 5] := by kernel_rfl
  dsimp only at G5 I5
  rw [e5] at G5 I5
  -- the third fork
  obtain ⟨mc, gc, Ic, G6, I6⟩ := opI_fork hA hN I5 (a := 1) (k := k) rfl (by rw [ins0 hP rfl, hgc]; rfl) c2 hnd G5
  rw [child0] at gc Ic
  have hcc := goes_off rfl rfl gc
  have hcr : mc.rows = ma.rows ++ [offR 1 k, offR 2 k] := by
    have hcc2 : mc = Mc.fin ⟨mb.rows ++ [kid 2 k], mb.steps + 1 + 1⟩ mb.rows.length (fS k) 4 0 := hcc
    rw [hcc2, off_end (L := mb.rows) (k := k) (inn := 2) rfl rfl rfl, hbr]; simp
  have e6 : ∀ z : Int, fOn (([0, 5, 0, 0, 0, 0, 0, 0, 0, 0, x, y, -1, -1, -1, -1, -1, -1, 5] : List Int).set (10 + (1 : Int).toNat) z) = [0, 6, 0, 0, 0, 0, 0, 0, 0, 0, x, z, -1, -1, -1, -1, -1, -1, 6] := by intro z; kernel_rfl
  dsimp only at G6 I6
  rw [e6] at G6 I6
  generalize ((mb.rows.length : Nat) : Int) = z at G6 I6
  -- close
  obtain ⟨h7, G7⟩ := op_close (a := 2) rfl (by rw [ins0 hP rfl, hgc]; rfl) (by decide) G6
  have I7 := (inv_go hA I6 h7).1
  have e7 : fOn (([0, 6, 0, 0, 0, 0, 0, 0, 0, 0, x, z, -1, -1, -1, -1, -1, -1, 6] : List Int).set (2 + (2 : Int).toNat) 0) = [0, 7, 0, 0, 0, 0, 0, 0, 0, 0, x, z, -1, -1, -1, -1, -1, -1, 7] := by kernel_rfl
  have G7 : Goes P F ⟨fOn (([0, 6, 0, 0, 0, 0, 0, 0, 0, 0, x, z, -1, -1, -1, -1, -1, -1, 6] : List Int).set (2 + (2 : Int).toNat) 0), 0, [(true, 1), (false, 0)], 2, 0, false⟩ ({ mc with steps := mc.steps + 1 } |>.told 0 false) (.ok mz) := G7
  have I7 : Inv P ⟨fOn (([0, 6, 0, 0, 0, 0, 0, 0, 0, 0, x, z, -1, -1, -1, -1, -1, -1, 6] : List Int).set (2 + (2 : Int).toNat) 0), 0, [(true, 1), (false, 0)], 2, 0, false⟩ ({ mc with steps := mc.steps + 1 } |>.told 0 false) := I7
  rw [e7] at G7 I7
  -- close
  obtain ⟨h8, G8⟩ := op_close (a := 3) rfl (by rw [ins0 hP rfl, hgc]; rfl) (by decide) G7
  have I8 := (inv_go hA I7 h8).1
  have e8 : fOn (([0, 7, 0, 0, 0, 0, 0, 0, 0, 0, x, z, -1, -1, -1, -1, -1, -1, 7] : List Int).set (2 + (3 : Int).toNat) 1) = [0, 8, 0, 0, 0, 1, 0, 0, 0, 0, x, z, -1, -1, -1, -1, -1, -1, 8] := by kernel_rfl
  have G8 : Goes P F ⟨fOn (([0, 7, 0, 0, 0, 0, 0, 0, 0, 0, x, z, -1, -1, -1, -1, -1, -1, 7] : List Int).set (2 + (3 : Int).toNat) 1), 0, [(false, 0)], 2, 0, false⟩ ({ ({ mc with steps := mc.steps + 1 } |>.told 0 false) with steps := ({ mc with steps := mc.steps + 1 } |>.told 0 false).steps + 1 } |>.told 0 true) (.ok mz) := G8
  have I8 : Inv P ⟨fOn (([0, 7, 0, 0, 0, 0, 0, 0, 0, 0, x, z, -1, -1, -1, -1, -1, -1, 7] : List Int).set (2 + (3 : Int).toNat) 1), 0, [(false, 0)], 2, 0, false⟩ ({ ({ mc with steps := mc.steps + 1 } |>.told 0 false) with steps := ({ mc with steps := mc.steps + 1 } |>.told 0 false).steps + 1 } |>.told 0 true) := I8
  rw [e8] at G8 I8
  generalize hm8 : ({ ({ mc with steps := mc.steps + 1 } |>.told 0 false) with steps := ({ mc with steps := mc.steps + 1 } |>.told 0 false).steps + 1 } |>.told 0 true) = m8 at G8 I8
  have hr8 : m8.rows = (ma.rows ++ [offR 1 k, offR 2 k]).set 0 ⟨-1, 0, 0, 0, 0, 0, [false, true]⟩ := by
    rw [← hm8]
    obtain ⟨r, R, hR⟩ : ∃ r R, ma.rows = r :: R := by
      cases hh : ma.rows with
      | nil => rw [hh] at hla; simp at hla
      | cons r R => exact ⟨r, R, rfl⟩
    rw [hR] at ha0
    simp at ha0
    unfold Mc.told
    dsimp only
    rw [hcr, hR, ha0]
    rfl
  -- the registers again
  obtain ⟨h9, G9⟩ := op_const (a := 2) (V := 0) rfl (by rw [ins0 hP rfl, hgc]; rfl) (by decide) G8
  have I9 := (inv_go hA I8 h9).1
  have e9 : fOn (([0, 8, 0, 0, 0, 1, 0, 0, 0, 0, x, z, -1, -1, -1, -1, -1, -1, 8] : List Int).set (2 + (2 : Int).toNat) 0) = [0, 9, 0, 0, 0, 1, 0, 0, 0, 0, x, z, -1, -1, -1, -1, -1, -1, 9] := by kernel_rfl
  dsimp only at G9 I9
  rw [e9] at G9 I9
  obtain ⟨h10, G10⟩ := op_const (a := 3) (V := 0) rfl (by rw [ins0 hP rfl, hgc]; rfl) (by decide) G9
  have I10 := (inv_go hA I9 h10).1
  have e10 : fOn (([0, 9, 0, 0, 0, 1, 0, 0, 0, 0, x, z, -1, -1, -1, -1, -1, -1, 9] : List Int).set (2 + (3 : Int).toNat) 0) = [0, 10, 0, 0, 0, 0, 0, 0, 0, 0, x, z, -1, -1, -1, -1, -1, -1, 10] := by kernel_rfl
  dsimp only at G10 I10
  rw [e10] at G10 I10
  -- the last fork
  obtain ⟨md, gd, Id, G11, I11⟩ := opI_fork hA hN I10 (a := 2) (k := k) rfl (by rw [ins0 hP rfl, hgc]; rfl) c3 hnd G10
  rw [child0] at gd Id
  have e11 : ∀ z' : Int, fOn (([0, 10, 0, 0, 0, 0, 0, 0, 0, 0, x, z, -1, -1, -1, -1, -1, -1, 10] : List Int).set (10 + (2 : Int).toNat) z') = [0, 11, 0, 0, 0, 0, 0, 0, 0, 0, x, z, z', -1, -1, -1, -1, -1, 11] := by intro z'; kernel_rfl
  dsimp only at G11
  rw [e11] at G11
  obtain ⟨h12, rfl⟩ := op_return (a := 0) rfl (by rw [ins0 hP rfl, hgc]; rfl) G11
  have hl8 : m8.rows.length = ma.rows.length + 2 := by rw [hr8]; simp
  refine ⟨ma, md, _, _, m8.steps + 1 + 1 + 1, ga, Ia, ?_, ?_, rfl⟩
  · have gd : Goes P F ⟨fS k, m8.rows.length, [(false, 0)], 0, 1, false⟩ ⟨m8.rows ++ [kid 0 k], m8.steps + 1 + 1 + 1⟩ (.ok md) := gd
    rw [hl8, hr8] at gd
    exact gd
  · have Id : Inv P ⟨fS k, m8.rows.length, [(false, 0)], 0, 1, false⟩ ⟨m8.rows ++ [kid 0 k], m8.steps + 1 + 1 + 1⟩ := Id
    rw [hl8, hr8] at Id
    exact Id
end
end Go.Proofs.Ytgkfbagclkjilaa
