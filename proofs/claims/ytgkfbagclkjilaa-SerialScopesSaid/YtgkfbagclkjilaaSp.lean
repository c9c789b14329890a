/-
  Layer 6, in plain terms: who forks a function twice; scopes that are cancelled.
-/
import Derived.Test.YtgkfbagclkjilaaSo
set_option linter.unusedSimpArgs false
set_option linter.unusedVariables false
set_option maxRecDepth 100000
namespace Go.Proofs.Ytgkfbagclkjilaa
open Go Go.Ev Go.Proofs
open Go.Proofs.Ytgkfbagclkjilaa.Fr (fTo fOn fPlain fForked fJoined fClosed fChild fRoot fR isB fTo_len fOn_len fPlain_len fForked_len fJoined_len fClosed_len)
open Go.Proofs.Ytgkfbagclkjilaa.Ck (opI Walk Accs needsOf isGoes heldL depths stepD handlesOk subBits scopesOk forks)

def kid (inn k : Int) : Rw := ⟨0, inn, k, 0, 0, 0, []⟩
def fT (V k : Int) : List Int := [k, 0, 0, V, 0, 0, 0, 0, 0, 0, -1, -1, -1, -1, -1, -1, -1, -1, 0]
def cT (V k : Int) : List (List Int) := [[0, 1, 0, 0, V], [8, 1, 0, 0, k], [8, 2, 0, 0, k], [16, 0, 0, 0, 0]]
def kidT (V k : Int) (row nest : Nat) : Tk := ⟨fT V k, row, [(false, 0)], 0, nest, false⟩
theorem forked_eq {f : List Int} {a k id : Int} (hc : Fr.chk [8, a, 0, 0, k] = 0) : fForked f [8, a, 0, 0, k] id = fOn (f.set (10 + a.toNat) id) := by
  unfold Fr.fForked Fr.isB
  rw [hc]
  rfl
section
variable {P : List FnR} {F : Int} {t : Tk} {m mz : Mc} {V k : Int} {g : FnR}
/-- an op_fork with what stays true -/
theorem opI_fork (hA : Accs P) (hN : ∀ g ∈ P, InI g.needs) (hI : Inv P t m) {a k : Int} (hoff : t.off = false) (hi : insAt P t.f = [8, a, 0, 0, k]) (hc : Fr.chk [8, a, 0, 0, k] = 0) (hnd : needsOf P k = 0) (hG : Goes P F t m (.ok mz)) :
    ∃ m2, Goes P F ⟨fChild t.f k 0, m.rows.length, [(false, 0)], 0, t.nest + t.sc.length, t.sc.any (·.1)⟩ ⟨m.rows ++ [⟨t.row, (t.sc.headD (false, 0)).2, k, 0, 0, 0, []⟩], m.steps + 1⟩ (.ok m2) ∧
      Inv P ⟨fChild t.f k 0, m.rows.length, [(false, 0)], 0, t.nest + t.sc.length, t.sc.any (·.1)⟩ ⟨m.rows ++ [⟨t.row, (t.sc.headD (false, 0)).2, k, 0, 0, 0, []⟩], m.steps + 1⟩ ∧
      Goes P F { t with f := fOn (t.f.set (10 + a.toNat) m.rows.length) } m2 (.ok mz) ∧ Inv P { t with f := fOn (t.f.set (10 + a.toNat) m.rows.length) } m2 := by
  obtain ⟨c, m1, h, hcc, hm1, m2, g1, g2⟩ := op_fork hoff hi hc hnd hG
  obtain ⟨k1, k2⟩ := inv_child hA hN hI h
  obtain ⟨k3, k4⟩ := goes_more hA hN g1 rfl k1
  obtain ⟨k5, k6⟩ := inv_forked hA hI h k3 k4
  rw [forked_eq hc, hcc] at k5
  subst hcc; subst hm1
  exact ⟨m2, g1, k1, g2, k5⟩
theorem twice_run (hA : Accs P) (hN : ∀ g ∈ P, InI g.needs) (hP : P[0]? = some g) (hgc : g.code = cT V k) (c1 : Fr.chk [0, 1, 0, 0, V] = 0) (c2 : Fr.chk [8, 1, 0, 0, k] = 0) (c3 : Fr.chk [8, 2, 0, 0, k] = 0) (hnd : needsOf P k = 0) (hG : Goes P F t0 m0 (.ok mz)) :
    ∃ ma mb st v, Goes P F (kidT V k 1 1) ⟨[⟨-1, 0, 0, 0, 0, 0, []⟩, kid 0 k], 2⟩ (.ok ma) ∧ Inv P (kidT V k 1 1) ⟨[⟨-1, 0, 0, 0, 0, 0, []⟩, kid 0 k], 2⟩ ∧ Goes P F (kidT V k ma.rows.length 1) ⟨ma.rows ++ [kid 0 k], ma.steps + 1⟩ (.ok mb) ∧ Inv P (kidT V k ma.rows.length 1) ⟨ma.rows ++ [kid 0 k], ma.steps + 1⟩ ∧ mz.rows = endRow mb 0 st 2 v := by
  have I0 := inv_root hA hN
  obtain ⟨h1, G1⟩ := op_const (t := t0) (m := m0) (a := 1) (V := V) rfl (by rw [ins0 hP rfl, hgc]; rfl) c1 hG
  have I1 := (inv_go hA I0 h1).1
  have e1 : fOn (t0.f.set (2 + (1 : Int).toNat) V) = [0, 1, 0, V, 0, 0, 0, 0, 0, 0, -1, -1, -1, -1, -1, -1, -1, -1, 1] := by kernel_rfl
  rw [e1] at G1 I1
  obtain ⟨ma, ga, Ia, G2, I2⟩ := opI_fork hA hN I1 (a := 1) (k := k) rfl (by rw [ins0 hP rfl, hgc]; rfl) c2 hnd G1
  have e2 : fOn (([0, 1, 0, V, 0, 0, 0, 0, 0, 0, -1, -1, -1, -1, -1, -1, -1, -1, 1] : List Int).set (10 + (1 : Int).toNat) ((m0.rows.length : Nat) : Int)) = [0, 2, 0, V, 0, 0, 0, 0, 0, 0, -1, 1, -1, -1, -1, -1, -1, -1, 2] := by kernel_rfl
  have e2' : ∀ x : Nat, x = 1 → fOn (([0, 1, 0, V, 0, 0, 0, 0, 0, 0, -1, -1, -1, -1, -1, -1, -1, -1, 1] : List Int).set (10 + (1 : Int).toNat) ((x : Nat) : Int)) = [0, 2, 0, V, 0, 0, 0, 0, 0, 0, -1, 1, -1, -1, -1, -1, -1, -1, 2] := by
    rintro _ rfl; exact e2
  rw [child0] at ga Ia
  have G2 : Goes P F { t0 with f := fOn (([0, 1, 0, V, 0, 0, 0, 0, 0, 0, -1, -1, -1, -1, -1, -1, -1, -1, 1] : List Int).set (10 + (1 : Int).toNat) ((1 : Nat) : Int)) } ma (.ok mz) := G2
  have I2 : Inv P { t0 with f := fOn (([0, 1, 0, V, 0, 0, 0, 0, 0, 0, -1, -1, -1, -1, -1, -1, -1, -1, 1] : List Int).set (10 + (1 : Int).toNat) ((1 : Nat) : Int)) } ma := I2
  rw [e2' 1 rfl] at G2 I2
  obtain ⟨mb, gb, Ib, G3, I3⟩ := opI_fork hA hN I2 (a := 2) (k := k) rfl (by rw [ins0 hP rfl, hgc]; rfl) c3 hnd G2
  rw [child0] at gb Ib
  have e3 : ∀ x : Int, fOn (([0, 2, 0, V, 0, 0, 0, 0, 0, 0, -1, 1, -1, -1, -1, -1, -1, -1, 2] : List Int).set (10 + (2 : Int).toNat) x) = [0, 3, 0, V, 0, 0, 0, 0, 0, 0, -1, 1, x, -1, -1, -1, -1, -1, 3] := by intro x; kernel_rfl
  dsimp only at G3
  rw [e3] at G3
  obtain ⟨h4, rfl⟩ := op_return (a := 0) rfl (by rw [ins0 hP rfl, hgc]; rfl) G3
  exact ⟨ma, mb, _, _, ga, Ia, gb, Ib, rfl⟩
/-- the law of two forks: rows -/
theorem twice_rows (hA : Accs P) (hN : ∀ g ∈ P, InI g.needs) (hP : P[0]? = some g) (hgc : g.code = cT V k) (c1 : Fr.chk [0, 1, 0, 0, V] = 0) (c2 : Fr.chk [8, 1, 0, 0, k] = 0) (c3 : Fr.chk [8, 2, 0, 0, k] = 0) (hnd : needsOf P k = 0) (hG : Goes P F t0 m0 (.ok mz)) :
    ∃ n : Nat, 1 ≤ n ∧ mz.rows.length = 2 * n + 1 ∧ (mz.rows.getD 1 r0).par = 0 ∧ (mz.rows.getD (n + 1) r0).par = 0 ∧ ∀ j, 1 ≤ j → j ≤ n → mz.rows.getD (n + j) r0 = (if 1 < j then { mz.rows.getD j r0 with par := (mz.rows.getD j r0).par + n } else mz.rows.getD j r0) := by
  obtain ⟨ma, mb, st, v, ga, Ia, gb, Ib, hmz⟩ := twice_run hA hN hP hgc c1 c2 c3 hnd hG
  have a1 := goes_more hA hN ga rfl Ia
  have b1 := goes_more hA hN gb rfl Ib
  have hla : 2 ≤ ma.rows.length := a1.1.1
  have hlb : ma.rows.length + 1 ≤ mb.rows.length := by have := b1.1.1; simpa using this
  have par1 := goes_keep hA hN ga rfl Ia
  have keepb := goes_keep hA hN gb rfl Ib
  have pa := goes_par (b := 2) (lo := 1) hA hN ga rfl Ia (fun j r hj hr => by
    have : j < 2 := (List.getElem?_eq_some_iff.1 hr).1
    omega) (by simp [kidT])
  have hT : TkR 1 (ma.rows.length - 1) (kidT V k 1 1) (kidT V k ma.rows.length 1) := ⟨by show fT V k = shF 1 _ (fT V k); kernel_rfl, by show ma.rows.length = 1 + _; omega, Nat.le_refl _, rfl, rfl, rfl, fun h hh => by
    have : h = 0 ∨ h = 1 ∨ h = 2 ∨ h = 3 ∨ h = 4 ∨ h = 5 ∨ h = 6 ∨ h = 7 := by omega
    rcases this with rfl | rfl | rfl | rfl | rfl | rfl | rfl | rfl <;> exact .inl rfl⟩
  have hM : McR false 1 (ma.rows.length - 1) ⟨[⟨-1, 0, 0, 0, 0, 0, []⟩, kid 0 k], 2⟩ ⟨ma.rows ++ [kid 0 k], ma.steps + 1⟩ := ⟨by simp; omega, fun j hj hl => by
    have hj1 : j = 1 := by simp at hl; omega
    subst hj1
    have e1 : (ma.rows ++ [kid 0 k]).getD (1 + (ma.rows.length - 1)) r0 = kid 0 k := by
      rw [show 1 + (ma.rows.length - 1) = ma.rows.length by omega]; simp [List.getD_eq_getElem?_getD]
    rw [e1]
    exact ⟨by show (0 : Int) = sh 1 _ 0; unfold sh; rw [if_neg (by omega)], .inl rfl, rfl, rfl, rfl, rfl, rfl⟩⟩
  have hR := goes_rel hA hN ga rfl Ia hT hM gb
  have hlen := hR.len
  have keep : ∀ j, j < ma.rows.length → mb.rows[j]? = ma.rows[j]? := fun j hj => by
    rw [keepb j (by simp; omega) (by simp [kidT]; omega), List.getElem?_append_left hj]
  have getz : ∀ j, 1 ≤ j → mz.rows.getD j r0 = mb.rows.getD j r0 := fun j hj => by
    rw [hmz]; simp only [List.getD_eq_getElem?_getD]; rw [endRow_ne (by omega)]
  have geta : ∀ j, j < ma.rows.length → mb.rows.getD j r0 = ma.rows.getD j r0 := fun j hj => by simp only [List.getD_eq_getElem?_getD]; rw [keep j hj]
  have hpar1 : (ma.rows.getD 1 r0).par = 0 := by
    have p0 := goes_par (b := 1) (lo := 0) hA hN ga rfl Ia (fun j r hj hr => by
      have : j < 2 := (List.getElem?_eq_some_iff.1 hr).1
      have : j = 1 := by omega
      subst this
      cases hr; exact ⟨by simp [kid], by simp [kid]⟩) (by simp [kidT])
    have := p0 1 _ (Nat.le_refl _) (row_at (by omega))
    omega
  refine ⟨ma.rows.length - 1, by omega, by rw [hmz, endRow_len]; omega, by rw [getz 1 (by omega), geta 1 (by omega)]; exact hpar1, ?_, fun j hj hn => ?_⟩
  · rw [getz _ (by omega)]
    have := (hR.row 1 (Nat.le_refl _) (by omega)).par
    rw [show ma.rows.length - 1 + 1 = 1 + (ma.rows.length - 1) by omega, this, hpar1]
    unfold sh; rw [if_neg (by omega)]
  · have hr := hR.row j hj (by omega)
    rw [getz _ (by omega), getz _ hj, geta j (by omega), show ma.rows.length - 1 + j = j + (ma.rows.length - 1) by omega]
    generalize mb.rows.getD (j + (ma.rows.length - 1)) r0 = y at hr
    generalize hx : ma.rows.getD j r0 = x at hr
    have hinn : y.inn = x.inn := by rcases hr.inn with q | ⟨q, _⟩; exact q; cases q
    have hp := hr.par
    split
    · rename_i hj2
      have hxp : 1 ≤ x.par := by
        have := pa j _ (by omega) (row_at (by omega))
        rw [hx] at this; exact this.1
      unfold sh at hp
      rw [if_pos (by omega)] at hp
      cases y; cases x
      simp only [Rw.mk.injEq]
      exact ⟨by simpa using hp, hinn, hr.fn, hr.kind, hr.v, hr.steps, hr.cl⟩
    · have hj1 : j = 1 := by omega
      subst hj1
      rw [hx] at hpar1
      unfold sh at hp
      rw [if_neg (by omega)] at hp
      cases y; cases x
      simp only [Rw.mk.injEq]
      exact ⟨hp, hinn, hr.fn, hr.kind, hr.v, hr.steps, hr.cl⟩
end
end Go.Proofs.Ytgkfbagclkjilaa
