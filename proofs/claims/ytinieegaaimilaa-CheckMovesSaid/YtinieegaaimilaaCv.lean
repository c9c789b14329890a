/-
  Layer 4: the chapter's examples.
-/
import Derived.Test.YtinieegaaimilaaCu
set_option linter.unusedSimpArgs false
set_option linter.unusedVariables false
set_option maxRecDepth 100000
namespace Go.Proofs.Ytinieegaaimilaa
open Go Go.Ev Go.Proofs

theorem code_blk {w : World} {g off c : Nat} {flat : List Int} {l : List (List Int)} (hb : Blk w g (agI flat)) (h5 : ∀ x ∈ l, x.length = 5 ∧ ∀ y ∈ x, InI y)
    (hfl : ∀ i, i < l.length → ∀ j, j < 5 → flat[off + i * 5 + j]? = (l.getD i [])[j]?) (few : l.length * 40 ≤ reachBytes) : Code5 w ⟨some ⟨g, off, none⟩, l.length, c⟩ l := by
  refine ⟨⟨by simp, fun i e he => ?_⟩, h5, few⟩
  rw [List.getElem?_map] at he
  cases hx : l[i]? with
  | none => rw [hx] at he; cases he
  | some x =>
    rw [hx] at he
    have he' : e = ints x := by simpa using he.symm
    subst he'
    have hi : i < l.length := (List.getElem?_eq_some_iff.1 hx).1
    have hx5 := (h5 x (List.mem_of_getElem? hx)).1
    refine ⟨by simp [ints, hx5], ⟨g, off, none⟩, rfl, fun j v hv => ?_⟩
    have hj : j < 5 := by have := (List.getElem?_eq_some_iff.1 hv).1; simp [ints, hx5] at this; exact this
    have := hfl i hi j hj
    rw [add_mk, add_mk, hb.cell]
    have e2 : l.getD i [] = x := by simp [hx]
    rw [e2] at this
    simp only [agI, ints, List.getElem?_toArray, List.getElem?_map] at hv ⊢
    rw [this]; exact hv
theorem one_s {w : World} {s : Sl} {l : List (List Int)} {k : Array Value → World → Prop} (hr : Code5 w s l)
    (hc : ∀ ps w', St w w' [] → Funcs5 w' ps [⟨0, s, l⟩] → k #[.slice ps.a ps.n ps.c] w') : pelotonlaw04_one s w k := by
  unfold pelotonlaw04_one
  refine newC_h (.nil w) fun g1 w2 h => ?_
  refine spl_i #[.int .i64 0, .slice s.a s.n s.c] rfl (by kernel_rfl) ?_
  refine newC_h h fun g4 w5 h => stW_h (g := g1) h rfl rfl (by intro v hv; simp at hv; rw [hv]; rfl) fun w6 h => ldW_h (g := g1) h rfl ?_
  have hb : Blk w6 g4 #[.int .i64 0, .slice s.a s.n s.c] := h.blk (g := g4)
  refine hc ⟨some ⟨g4, 0, none⟩, 1, 1⟩ w6 h.all ⟨⟨rfl, fun i e he => ?_⟩, fun x hx => ?_, by simp [reachBytes]⟩
  · have hi : i = 0 := by have := (List.getElem?_eq_some_iff.1 he).1; simp at this; exact this
    subst hi
    simp at he
    subst he
    refine ⟨rfl, ⟨g4, 0, none⟩, rfl, fun j v hv => ?_⟩
    rw [add_mk, add_mk, hb.cell]
    simpa [FnR.cells] using hv
  · simp at hx; subst hx
    exact ⟨show InI 0 by decide, hr.ext h.ext⟩
theorem heldL_eval {l : List (List Int)} {needs : Int} (m : Nat) (hn : l.length ≤ 4294967296) (hl : l ≠ []) (ht : (Fl.steps l m ((Fl0 l.length).meet 0 (andI .i64 needs 255))).todo = []) : heldL l needs = (Fl.steps l m ((Fl0 l.length).meet 0 (andI .i64 needs 255))).held :=
  (held_law hn ⟨ht, fun q => (hl q).elim, fun _ => ⟨m, rfl⟩⟩).symm

def lA : List (List Int) := [[8, 1, 0, 0, 0], [9, 0, 1, 0, 0], [16, 0, 0, 0, 0]]
def lB : List (List Int) := [[9, 0, 1, 0, 0], [16, 0, 0, 0, 0]]
def lC : List (List Int) := [[11, 0, 0, 0, 0], [16, 0, 0, 0, 0]]
theorem heldA : heldL lA 0 = [0, 2, 2] := (heldL_eval (l := lA) (needs := 0) 3 (by decide) (by decide) (by kernel_rfl)).trans (by kernel_rfl)
theorem heldB' : heldL lB 0 = [0, 0] := (heldL_eval (l := lB) (needs := 0) 2 (by decide) (by decide) (by kernel_rfl)).trans (by kernel_rfl)
theorem heldC : heldL lC 0 = [0, 0] := (heldL_eval (l := lC) (needs := 0) 2 (by decide) (by decide) (by kernel_rfl)).trans (by kernel_rfl)
theorem progF_one {s : Sl} {l : List (List Int)} {H : List Int} {r : Option (Int × Int)} (hH : heldL l 0 = H) (hsh : (shapeF 0 l).2 = 0) (hr : funcFault [⟨0, s, l⟩] l.length (depths 0 l) H 0 l = r) :
    progF [⟨0, s, l⟩] = (match r with | none => (0, 0, 0) | some (i, e) => (0, i, e)) := by
  have e1 : fault1 [⟨0, s, l⟩] ⟨0, s, l⟩ = r := by unfold fault1; rw [hH]; exact hr
  have e2 : shapes 0 [(⟨0, s, l⟩ : FnR)] = none := by simp [shapes, hsh]
  unfold progF
  rw [e2]
  simp only [needsOf, faults, e1]
  cases r <;> simp

theorem awake_s {w : World} {k : Bool → World → Prop} (hc : ∀ w', St w w' [] → k true w') : pelotonlaw04_awake w k := by
  unfold pelotonlaw04_awake pelotonlaw04_awake_b
  refine ⟨rfl, ⟨rfl, ?_⟩⟩
  refine spl_i (agI lA.flatten) rfl (by kernel_rfl) ?_
  refine newC_h (.nil w) fun ga w5 h => ?_
  have h : St w w5 [blk ga (ints lA.flatten)] := h
  have hb : Blk w5 ga (agI lA.flatten) := h.blk (g := ga)
  have h5A : ∀ x ∈ lA, x.length = 5 ∧ ∀ y ∈ x, InI y := by decide
  have h5B : ∀ x ∈ lB, x.length = 5 ∧ ∀ y ∈ x, InI y := by decide
  have h5C : ∀ x ∈ lC, x.length = 5 ∧ ∀ y ∈ x, InI y := by decide
  refine one_s (l := lA) (s := ⟨some ⟨ga, 0, none⟩, 3, 3⟩) (code_blk hb h5A (by decide) (by simp [reachBytes, lA])) fun ps w7 h2 hF => ?_
  have h := h.on h2.ext
  refine program_s hF fun w9 h2 => ?_
  have h := h.on h2.ext
  have eA : tri (progF [⟨0, ⟨some ⟨ga, 0, none⟩, 3, 3⟩, lA⟩]) = [0, 0, 0] := by rw [progF_one (r := none) heldA (by decide) (by kernel_rfl)]; rfl
  rw [eA]
  refine newC_h h fun g10 w11 h => stW_h (g := g10) h rfl rfl (one_agI [0, 0, 0]) fun w12 h => ?_
  refine ⟨⟨by decide, by dsimp only; omega⟩, ?_⟩
  have hb : Blk w12 ga (agI lA.flatten) := h.blk (g := ga)
  refine one_s (l := lB) (s := ⟨some ⟨ga, 5, none⟩, 2, 2⟩) (code_blk hb h5B (by decide) (by simp [reachBytes, lB])) fun ps w15 h2 hF => ?_
  have h := h.on h2.ext
  refine program_s hF fun w17 h2 => ?_
  have h := h.on h2.ext
  have eB : tri (progF [⟨0, ⟨some ⟨ga, 5, none⟩, 2, 2⟩, lB⟩]) = [0, 0, 16] := by rw [progF_one (r := some (0, 16)) heldB' (by decide) (by kernel_rfl)]; rfl
  rw [eB]
  refine newC_h h fun g18 w19 h => stW_h (g := g18) h rfl rfl (one_agI [0, 0, 16]) fun w20 h => ?_
  refine ⟨rfl, ?_⟩
  refine spl_i (agI lC.flatten) rfl (by kernel_rfl) ?_
  refine newC_h h fun gc w24 h => ?_
  have hb : Blk w24 gc (agI lC.flatten) := h.blk (g := gc)
  refine one_s (l := lC) (s := ⟨some ⟨gc, 0, none⟩, 2, 2⟩) (code_blk hb h5C (by decide) (by simp [reachBytes, lC])) fun ps w26 h2 hF => ?_
  have h := h.on h2.ext
  refine program_s hF fun w28 h2 => ?_
  have h := h.on h2.ext
  have eC : tri (progF [⟨0, ⟨some ⟨gc, 0, none⟩, 2, 2⟩, lC⟩]) = [0, 1, 15] := by rw [progF_one (r := some (1, 15)) heldC (by decide) (by kernel_rfl)]; rfl
  rw [eC]
  refine newC_h h fun g29 w30 h => stW_h (g := g29) h rfl rfl (one_agI [0, 1, 15]) fun w31 h => ?_
  refine ldW_h (g := g10) h rfl (eqA_I (n := 3) (xs := [0, 0, 0]) (ys := [0, 0, 0]) rfl rfl (iteB_t (by decide) ?_))
  refine ldW_h (g := g18) h rfl (eqA_I (n := 3) (xs := [0, 0, 16]) (ys := [0, 0, 16]) rfl rfl (iteB_t (by decide) ?_))
  refine ldW_h (g := g29) h rfl (eqA_I (n := 3) (xs := [0, 1, 15]) (ys := [0, 1, 15]) rfl rfl ?_)
  exact hc _ h.all
end Go.Proofs.Ytinieegaaimilaa
