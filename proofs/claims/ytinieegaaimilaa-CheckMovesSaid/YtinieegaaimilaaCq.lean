/-
  Layer 4: what is wrong with a function by itself.
-/
import Derived.Test.YtinieegaaimilaaCp
set_option linter.unusedSimpArgs false
set_option linter.unusedVariables false
set_option maxRecDepth 100000
namespace Go.Proofs.Ytinieegaaimilaa
open Go Go.Ev Go.Proofs

def firstBad : Nat → List (List Int) → Int × Int
  | _, [] => (0, 0)
  | i, x :: l => if chk x != 0 then ((i : Int), chk x) else firstBad (i + 1) l
def shapeF (needs : Int) (l : List (List Int)) : Int × Int :=
  if decide (needs < 0) || decide (needs > 255) then (-1, 10) else if decide (l.length < 1) || decide (l.length > 128) then (-1, 12) else firstBad 0 l

theorem firstBad_step {l dn rest : List (List Int)} {x : List Int} (hl : l = dn ++ x :: rest) (hd : firstBad 0 l = firstBad dn.length (x :: rest)) (hx : (chk x != 0) = false) : firstBad 0 l = firstBad (dn ++ [x]).length rest := by
  rw [hd]; simp [firstBad, hx]

theorem shape_s {w : World} {s : Sl} {needs : Int} {l : List (List Int)} {k : Int × Int → World → Prop} (hr : Code5 w s l)
    (hc : ∀ w', St w w' [] → k (shapeF needs l) w') : check_shape #[.int .i64 needs, .slice s.a s.n s.c] w k := by
  have hsn := hr.len
  unfold check_shape check_shape_b
  refine newC_h (.nil w) fun g w2 h => ?_
  refine joinP_i (fun b w' => b = (decide (needs < 0) || decide (needs > 255)) ∧ w' = w2) (fun J hJ => ?_) ?_
  · refine ldI_h (g := g) (o := 0) h rfl (iteB_i (fun hb => ?_) fun hb => ?_)
    · exact hJ _ _ ⟨by rw [hb]; rfl, rfl⟩
    · refine ldI_h (g := g) (o := 0) h rfl (hJ _ _ ⟨by rw [hb]; rfl, rfl⟩)
  rintro b1 w7 ⟨rfl, rfl⟩
  unfold shapeF at hc
  refine iteB_i (fun hb => ?_) fun hb => ?_
  · rw [hb] at hc; exact hc _ h.all
  · rw [hb] at hc
    refine joinP_i (fun b w' => b = (decide (l.length < 1) || decide (l.length > 128)) ∧ w' = w7) (fun J hJ => ?_) ?_
    · have e1 : decide (((s.n : Nat) : Int) < 1) = decide (l.length < 1) := by rw [decide_eq_decide]; omega
      have e2 : decide (((s.n : Nat) : Int) > 128) = decide (l.length > 128) := by rw [decide_eq_decide]; omega
      refine ldS_h (g := g) (o := 1) h rfl (iteB_i (fun hb => ?_) fun hb => ?_)
      · exact hJ _ _ ⟨by rw [← e1]; dsimp only at hb; rw [hb]; rfl, rfl⟩
      · refine ldS_h (g := g) (o := 1) h rfl (hJ _ _ ⟨by rw [← e1, ← e2]; dsimp only at hb; rw [hb]; rfl, rfl⟩)
    rintro b2 w12 ⟨rfl, rfl⟩
    refine iteB_i (fun hb2 => ?_) fun hb2 => ?_
    · rw [hb2] at hc; exact hc _ h.all
    · rw [hb2] at hc
      have hl128 : l.length ≤ 128 := by
        rw [Bool.or_eq_false_iff] at hb2; have := of_decide_eq_false hb2.2; omega
      refine ldS_h (g := g) (o := 1) h rfl ?_
      refine loopP_of (fun (i : Int) w' => ∃ dn rest, l = dn ++ rest ∧ i = (dn.length : Int) ∧ firstBad 0 l = firstBad dn.length rest ∧ St w w' []) (fun i _ => ((s.n : Int) - i).toNat) ⟨[], l, rfl, rfl, rfl, h.all⟩ ?_
      rintro _ w16 ⟨dn, rest, hl, rfl, hd, h⟩ C hC
      cases rest with
      | nil =>
        refine iteB_f (by simp only [decide_eq_false_iff_not]; rw [hsn, hl]; simp) ?_
        rw [hd] at hc; exact hc _ h
      | cons x rest =>
        have hlen : l.length = dn.length + (rest.length + 1) := by rw [hl]; simp
        have hw1 : IntKind.wrap .i64 ((dn.length : Int) + 1) = ((dn ++ [x]).length : Int) := by rw [wrap_id ⟨by omega, by omega⟩]; simp
        refine iteB_t (by simp only [decide_eq_true_eq]; omega) ?_
        refine ixC (hr.ext h.ext) hl rfl fun p h5 hcell => ldA_c (by simp [Go.Ev.ints, h5]) hcell ?_
        refine newC_h h fun g2 w20 h => stW_h (g := g2) h rfl (by simp [Go.Ev.ints, h5]) (one_agI _) fun w21 h => ldW_h (g := g2) h (by simp [Go.Ev.ints, h5]) ?_
        refine ccheck_s h5 fun w24 h2 => ?_
        have h := h.all.on h2.ext
        refine iteB_i (fun hb3 => ?_) fun hb3 => ?_
        · have e : firstBad dn.length (x :: rest) = ((dn.length : Int), chk x) := by unfold firstBad; rw [hb3]; rfl
          rw [hd, e] at hc
          exact hc _ h
        · rw [hw1]
          exact hC _ _ ⟨dn ++ [x], rest, by rw [hl]; simp, rfl, firstBad_step hl hd hb3, h⟩ (by simp; omega)

theorem rshape_s {w : World} {s : Sl} {needs : Int} {l : List (List Int)} {k : Int × Int → World → Prop} (hr : Code5 w s l)
    (hc : ∀ w', St w w' [] → k (shapeF needs l) w') : pelotonref04_shape #[.int .i64 needs, .slice s.a s.n s.c] w k := by
  have hsn := hr.len
  unfold pelotonref04_shape pelotonref04_shape_b
  refine newC_h (.nil w) fun g w2 h => ?_
  refine joinP_i (fun b w' => b = (decide (needs < 0) || decide (needs > 255)) ∧ w' = w2) (fun J hJ => ?_) ?_
  · refine ldI_h (g := g) (o := 0) h rfl (iteB_i (fun hb => ?_) fun hb => ?_)
    · exact hJ _ _ ⟨by rw [hb]; rfl, rfl⟩
    · refine ldI_h (g := g) (o := 0) h rfl (hJ _ _ ⟨by rw [hb]; rfl, rfl⟩)
  rintro b1 w7 ⟨rfl, rfl⟩
  unfold shapeF at hc
  refine iteB_i (fun hb => ?_) fun hb => ?_
  · rw [hb] at hc; exact hc _ h.all
  · rw [hb] at hc
    refine joinP_i (fun b w' => b = (decide (l.length < 1) || decide (l.length > 128)) ∧ w' = w7) (fun J hJ => ?_) ?_
    · have e1 : decide (((s.n : Nat) : Int) < 1) = decide (l.length < 1) := by rw [decide_eq_decide]; omega
      have e2 : decide (((s.n : Nat) : Int) > 128) = decide (l.length > 128) := by rw [decide_eq_decide]; omega
      refine ldS_h (g := g) (o := 1) h rfl (iteB_i (fun hb => ?_) fun hb => ?_)
      · exact hJ _ _ ⟨by rw [← e1]; dsimp only at hb; rw [hb]; rfl, rfl⟩
      · refine ldS_h (g := g) (o := 1) h rfl (hJ _ _ ⟨by rw [← e1, ← e2]; dsimp only at hb; rw [hb]; rfl, rfl⟩)
    rintro b2 w12 ⟨rfl, rfl⟩
    refine iteB_i (fun hb2 => ?_) fun hb2 => ?_
    · rw [hb2] at hc; exact hc _ h.all
    · rw [hb2] at hc
      have hl128 : l.length ≤ 128 := by
        rw [Bool.or_eq_false_iff] at hb2; have := of_decide_eq_false hb2.2; omega
      refine loopP_of (fun (i : Int) w' => ∃ dn rest, l = dn ++ rest ∧ i = (dn.length : Int) ∧ firstBad 0 l = firstBad dn.length rest ∧ St w w' [blk g [.int .i64 needs, .slice s.a s.n s.c]]) (fun i _ => ((s.n : Int) - i).toNat) ⟨[], l, rfl, rfl, rfl, h⟩ ?_
      rintro _ w16 ⟨dn, rest, hl, rfl, hd, h⟩ C hC
      refine ldS_h (g := g) (o := 1) h rfl ?_
      cases rest with
      | nil =>
        refine iteB_f (by simp only [decide_eq_false_iff_not]; rw [hsn, hl]; simp) ?_
        rw [hd] at hc; exact hc _ h.all
      | cons x rest =>
        have hlen : l.length = dn.length + (rest.length + 1) := by rw [hl]; simp
        have hw1 : IntKind.wrap .i64 ((dn.length : Int) + 1) = ((dn ++ [x]).length : Int) := by rw [wrap_id ⟨by omega, by omega⟩]; simp
        refine iteB_t (by simp only [decide_eq_true_eq]; omega) ?_
        refine ldS_h (g := g) (o := 1) h rfl ?_
        refine ixC (hr.ext h.ext) hl rfl fun p h5 hcell => ldA_c (by simp [Go.Ev.ints, h5]) hcell ?_
        refine rcheck_s h5 fun w24 h2 => ?_
        have h := h.on h2.ext
        refine iteB_i (fun hb3 => ?_) fun hb3 => ?_
        · have e : firstBad dn.length (x :: rest) = ((dn.length : Int), chk x) := by unfold firstBad; rw [hb3]; rfl
          rw [hd, e] at hc
          exact hc _ h.all
        · rw [hw1]
          exact hC _ _ ⟨dn ++ [x], rest, by rw [hl]; simp, rfl, firstBad_step hl hd hb3, h⟩ (by simp; omega)

/-! ### what an instruction may do in its function -/
def placesE (nf n : Nat) (x : List Int) : Int := if (isGoes x && decide (x.getD 4 0 ≥ n)) || ((opI x == 8) && decide (x.getD 4 0 ≥ nf)) then 10 else 0
def lastE (n : Nat) (i : Nat) (x : List Int) : Int := if ((i : Int) == (n : Int) - 1) && (opI x != 6) && !isEnds x then 11 else 0
def scopesOk (D : List Int) (i : Nat) (x : List Int) : Bool :=
  if (opI x == 12) || (opI x == 13) then decide (D.getD i 0 ≥ 1) else if opI x == 16 then D.getD i 0 == 0 else if isGoes x then D.getD (x.getD 4 0).toNat 0 == D.getD i 0 else true
def subBits (a b : Int) : Bool := (List.range 8).all fun h => !tb a h || tb b h
def needsOf (P : List FnR) (i : Int) : Int := (P.map FnR.needs).getD i.toNat 0
def handlesOk (P : List FnR) (hv : Int) (x : List Int) : Bool :=
  if opI x == 9 then tb hv (x.getD 2 0).toNat else if opI x == 10 then tb hv (x.getD 3 0).toNat else if opI x == 8 then subBits (needsOf P (x.getD 4 0)) hv else true
def askE (P : List FnR) (n : Nat) (D H : List Int) (i : Nat) (x : List Int) : Nat → Int
  | 0 => placesE P.length n x
  | 1 => lastE n i x
  | 2 => if scopesOk D i x then 0 else 15
  | _ => if handlesOk P (H.getD i 0) x then 0 else 16
def wrongF (P : List FnR) (n : Nat) (D H : List Int) (i : Nat) (x : List Int) : Int :=
  if askE P n D H i x 0 != 0 then askE P n D H i x 0 else if askE P n D H i x 1 != 0 then askE P n D H i x 1 else if askE P n D H i x 2 != 0 then askE P n D H i x 2 else askE P n D H i x 3
def funcFault (P : List FnR) (n : Nat) (D H : List Int) : Nat → List (List Int) → Option (Int × Int)
  | _, [] => none
  | i, x :: l => if wrongF P n D H i x != 0 then some ((i : Int), wrongF P n D H i x) else funcFault P n D H (i + 1) l
noncomputable def fault1 (P : List FnR) (f : FnR) : Option (Int × Int) := funcFault P f.code.length (depths 0 f.code) (heldL f.code f.needs) 0 f.code
noncomputable def faults (P : List FnR) : Nat → List FnR → Option (Int × Int × Int)
  | _, [] => none
  | k, f :: l => match fault1 P f with
    | some (i, e) => some ((k : Int), i, e)
    | none => faults P (k + 1) l
def shapes : Nat → List FnR → Option (Int × Int × Int)
  | _, [] => none
  | k, f :: l => if (shapeF f.needs f.code).2 != 0 then some ((k : Int), (shapeF f.needs f.code).1, (shapeF f.needs f.code).2) else shapes (k + 1) l
noncomputable def progF (P : List FnR) : Int × Int × Int :=
  if decide (P.length < 1) || decide (P.length > 32) then (-1, -1, 12) else match shapes 0 P with
    | some x => x
    | none => if needsOf P 0 != 0 then (0, -1, 16) else match faults P 0 P with
      | some x => x
      | none => (0, 0, 0)
end Go.Proofs.Ytinieegaaimilaa
