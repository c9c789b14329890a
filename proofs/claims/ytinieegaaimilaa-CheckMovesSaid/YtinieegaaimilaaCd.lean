/-
  Layer 4: what comes behind an instruction, as an iterator.
-/
import Derived.Test.YtinieegaaimilaaCc
set_option linter.unusedSimpArgs false
set_option linter.unusedVariables false
set_option maxRecDepth 100000
namespace Go.Proofs.Ytinieegaaimilaa
open Go Go.Ev Go.Proofs

def isGoes (x : List Int) : Bool := (opI x == 6) || (opI x == 7)
def isEnds (x : List Int) : Bool := (opI x == 16) || (opI x == 15)
/-- is the other place yielded, is the next one -/
def yA (n : Nat) (x : List Int) : Bool := isGoes x && decide (0 ≤ x.getD 4 0 ∧ x.getD 4 0 < n)
def yB (n : Nat) (i : Int) (x : List Int) : Bool := (opI x != 6) && !isEnds x && decide (IntKind.wrap .i64 (i + 1) < n)
def behind (n : Nat) (i : Int) (x : List Int) : List Int := (if yA n x then [x.getD 4 0] else []) ++ (if yB n i x then [IntKind.wrap .i64 (i + 1)] else [])

theorem behind_s {w0 w : World} {Lk : List Int → List HP} {code : Sl} {l : List (List Int)} {i : Int} {x : List Int} {ca ci : Addr} {lo : Nat} {Y : Nat → Dec} {k : Unit → World → Prop}
    (h : St w0 w (Lk [])) (hi0 : 0 ≤ i) (hx : l[i.toNat]? = some x)
    (hcell : ∀ {w ks}, St w0 w (Lk ks) → w.cell? ca = some (.slice code.a code.n code.c) ∧ w.cell? ci = some (.int .i64 i) ∧ Code5 w code l)
    (hy : ∀ {B : HP} {ks : List Int} {z : Int} {w : World} {c : Value → World → Prop}, St w0 w (B :: Lk ks) → ks ++ [z] <+: behind code.n i x → (∀ w', St w0 w' (B :: Lk (ks ++ [z])) → c (.bool true) w') → Y lo [.int .i64 z] w c)
    (hc : ∀ w', St w0 w' (Lk (behind code.n i x)) → k () w') : check_behind_1 Y (.func (.yield lo) #[] #[]) ca ci w k := by
  unfold check_behind_1 check_behind_1_b
  obtain ⟨hs, hi, hcd⟩ := hcell h
  have hil : i.toNat < l.length := (List.getElem?_eq_some_iff.1 hx).1
  have hn := hcd.len
  have hsplit : l = l.take i.toNat ++ x :: l.drop (i.toNat + 1) := by
    obtain ⟨_, e⟩ := List.getElem?_eq_some_iff.1 hx
    rw [← e, List.getElem_cons_drop, List.take_append_drop]
  refine ldS_i (s := code) hs (ldI_i hi (ixC hcd hsplit (by simp; omega) fun p h5 hp => ldA_c (by simp [Go.Ev.ints, h5]) hp ?_))
  refine newC_h h fun g w6 h => ?_
  refine stW_h (g := g) h rfl (by simp [Go.Ev.ints, h5]) (by simp [Go.Ev.ints, Value.oneCell']) fun w7 h => ?_
  have ld : ∀ {w : World} {L : List HP} {o : Nat} {c : Int → Prop}, St w0 w (blk g (Go.Ev.ints x).toArray.toList :: L) → o < 5 → c (x.getD o 0) → ldI .i64 w (Addr.add ⟨g, 0, none⟩ o) c := by
    intro w L o c h ho hc
    have := ldI_h (g := g) (o := o) (k := .i64) (n := x.getD o 0) (c := c) h (by simpa using ints_get (x := x) (j := o) (by omega)) hc
    rw [add_mk, Nat.zero_add]; exact this
  -- the second part
  have part2 : ∀ w20, St w0 w20 (blk g (Go.Ev.ints x).toArray.toList :: Lk (if yA code.n x then [x.getD 4 0] else [])) → iteB false (k () w20) (joinP (S := Bool) (fun J21 =>
      ldI .i64 w20 (Addr.add ⟨g, 0, none⟩ 0) fun i22 =>
      iteB (i22 != (6 : Int)) (
        ldI .i64 w20 (Addr.add ⟨g, 0, none⟩ 0) fun i23 =>
        check_ends i23 w20 fun b24 w25 =>
        iteB (!b24) (
          ldI .i64 w25 ci fun i26 =>
          ldS w25 ca fun s27 =>
          (J21 (decide ((IntKind.wrap .i64 (i26 + (1 : Int))) < ((s27.n : Nat) : Int))) w25)) (
          (J21 false w25))) (
        (J21 false w20))) fun b28 w29 =>
    iteB b28 (
      ldI .i64 w29 ci fun i30 =>
      callF (orcY [(n_check_goes, (fun args w c => unL [(.i .i64)] args fun x => check_goes x w fun r w => c (packV (valL [.b] r)) w)), (n_check_ends, (fun args w c => unL [(.i .i64)] args fun x => check_ends x w fun r w => c (packV (valL [.b] r)) w))] Y) (.func (.yield lo) #[] #[]) #[(.int .i64 (IntKind.wrap .i64 (i30 + (1 : Int))))] w29 fun v31 w32 =>
      toB v31 fun b33 =>
      (k () w32)) (
      (k () w29))) := by
    intro w20 h
    refine iteB_f rfl ?_
    unfold joinP
    obtain ⟨hs, hi, _⟩ := hcell h.drop
    have last : ∀ b, b = yB code.n i x → iteB b (
        ldI .i64 w20 ci fun i30 =>
        callF (orcY [(n_check_goes, (fun args w c => unL [(.i .i64)] args fun x => check_goes x w fun r w => c (packV (valL [.b] r)) w)), (n_check_ends, (fun args w c => unL [(.i .i64)] args fun x => check_ends x w fun r w => c (packV (valL [.b] r)) w))] Y) (.func (.yield lo) #[] #[]) #[(.int .i64 (IntKind.wrap .i64 (i30 + (1 : Int))))] w20 fun v31 w32 =>
        toB v31 fun b33 => (k () w32)) (k () w20) := by
      rintro b rfl
      refine iteB_i (fun hb => ?_) fun hb => ?_
      · refine ldI_i hi (yield_i (hy h ?_ fun w' h => hc w' ?_))
        · unfold behind; rw [if_pos hb]; exact List.prefix_refl _
        · have := h.drop
          unfold behind; rw [if_pos hb]; exact this
      · refine hc w20 ?_
        have e : behind code.n i x = if yA code.n x then [x.getD 4 0] else [] := by unfold behind; rw [hb]; simp
        rw [e]; exact h.drop
    refine ld h (by omega) ?_
    refine iteB_i (fun h6 => ?_) fun h6 => ?_
    · refine ld h (by omega) ?_
      show iteB _ _ _
      refine iteB_i (fun he => ?_) fun he => ?_
      · refine ldI_i hi (ldS_i (s := code) hs (last _ ?_))
        have he' : isEnds x = false := by simpa [isEnds] using he
        have h6' : (opI x != 6) = true := h6
        unfold yB; rw [h6', he']; simp
      · refine last _ ?_
        have he' : isEnds x = true := by
          cases hE : isEnds x with
          | true => rfl
          | false => exact absurd he (by unfold isEnds at hE; simp only [opI] at hE; rw [hE]; simp)
        unfold yB; rw [he']; simp
    · refine last _ ?_
      have h6' : (opI x != 6) = false := h6
      unfold yB; rw [h6']; simp
  unfold joinP
  refine ld h (by omega) ?_
  show iteB _ _ _
  refine iteB_i (fun hg => ?_) fun hg => ?_
  · have hg' : isGoes x = true := hg
    refine ld h (by omega) ?_
    refine iteB_i (fun h4 => ?_) fun h4 => ?_
    · simp only [decide_eq_true_eq] at h4
      obtain ⟨hs, _, _⟩ := hcell h.drop
      refine ld h (by omega) (ldS_i (s := code) hs ?_)
      refine iteB_i (fun h5' => ?_) fun h5' => ?_
      · simp only [decide_eq_true_eq] at h5'
        have hA : yA code.n x = true := by unfold yA; rw [hg', decide_eq_true ⟨h4, h5'⟩]; rfl
        refine ld h (by omega) (yield_i (hy h ?_ fun w' h => ?_))
        · unfold behind; rw [if_pos hA]; exact List.prefix_append _ _
        · refine part2 w' ?_
          rw [if_pos hA]; exact h
      · simp only [decide_eq_false_iff_not] at h5'
        have hA : yA code.n x = false := by unfold yA; rw [hg', decide_eq_false (fun h => h5' h.2)]; rfl
        refine part2 w7 ?_
        rw [hA]; exact h
    · simp only [decide_eq_false_iff_not] at h4
      have hA : yA code.n x = false := by unfold yA; rw [hg', decide_eq_false (fun h => h4 h.1)]; rfl
      refine part2 w7 ?_
      rw [hA]; exact h
  · have hg' : isGoes x = false := hg
    have hA : yA code.n x = false := by unfold yA; rw [hg']; rfl
    refine part2 w7 ?_
    rw [hA]; exact h
end Go.Proofs.Ytinieegaaimilaa
