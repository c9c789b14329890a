/-
  Layer 4: the laws of depths, and of handles that are held.
-/
import Derived.Test.YtinieegaaimilaaCv
set_option linter.unusedSimpArgs false
set_option linter.unusedVariables false
set_option maxRecDepth 100000
namespace Go.Proofs.Ytinieegaaimilaa
open Go Go.Ev Go.Proofs

theorem progT : ProgT Try.prog 42 22 29 32 34 3 := ⟨⟨_, Try.underlying42⟩, by kernel_rfl, by kernel_rfl, by kernel_rfl, Try.underlying22, ⟨_, _, Try.underlying29, rfl, rfl, rfl, rfl⟩, Try.underlying3, by kernel_rfl, by kernel_rfl, by kernel_rfl, by kernel_rfl, Try.underlying32, by kernel_rfl, ⟨_, Try.underlying34, rfl, rfl⟩, by kernel_rfl⟩

theorem law_depths {w : World} {s : Sl} {l : List (List Int)} {k : Bool → World → Prop} (hr : Code5 w s l) (hc : ∀ w', St w w' [] → k true w') : pelotonlaw04_CheckDepths s w k := by
  have hsn := hr.len
  unfold pelotonlaw04_CheckDepths pelotonlaw04_CheckDepths_b
  refine iteB_i (fun hb => awake_s hc) fun hb => ?_
  have h300 : s.n ≤ 300 := by have := of_decide_eq_false hb; omega
  refine depths_s hr (by omega) fun s3 w4 h n3 => ?_
  refine rdepths_s (hr.ext h.ext) (by omega) fun s5 w6 h2 n5 => ?_
  have h := h.join h2
  simp only [List.cons_append, List.nil_append] at h
  refine eqI_s (xs := depths 0 l) (ys := depths 0 l) (h.own (sz := 1) (s := s3) (vs := ints (depths 0 l))).sls (h.own (sz := 1) (s := s5) (vs := ints (depths 0 l))).sls (by omega) fun w8 h2 => ?_
  have h := h.on h2.ext
  refine iteB_t (by simp) (awake_s fun w' h2 => hc w' (h.all.on h2.ext))

theorem law_held {w : World} {s : Sl} {needs : Int} {l : List (List Int)} {k : Bool → World → Prop} (hr : Code5 w s l) (hN : InI needs) (hc : ∀ w', St w w' [] → k true w') : pelotonlaw04_CheckHeld #[.int .i64 needs, .slice s.a s.n s.c] w k := by
  have hsn := hr.len
  unfold pelotonlaw04_CheckHeld pelotonlaw04_CheckHeld_b
  refine newC_h (.nil w) fun g1 w2 h => ldS_h (g := g1) (o := 1) h rfl ?_
  refine iteB_i (fun hb => awake_s fun w' h2 => hc w' (h.all.on h2.ext)) fun hb => ?_
  have h140 : s.n ≤ 140 := by have := of_decide_eq_false hb; dsimp only at this; omega
  refine drew_h h fun w6 h => ldW_h (g := g1) h rfl (ldW_h (g := g1) h rfl ?_)
  have h6 := h
  refine heldL_s (hr.ext h.ext) (by omega) fun s9 w10 h2 n9 => ?_
  have h := h.join h2
  simp only [List.cons_append, List.nil_append] at h
  refine samec_h h6 h ?_
  refine rheld_s (hr.ext h.ext) hN (by omega) fun s11 w12 h2 n11 => ?_
  have h := h.join h2
  simp only [List.cons_append, List.nil_append] at h
  refine eqI_s (xs := heldL l needs) (ys := heldL l needs) (h.own (sz := 1) (s := s9) (vs := ints (heldL l needs))).sls (h.own (sz := 1) (s := s11) (vs := ints (heldL l needs))).sls (by omega) fun w14 h2 => ?_
  have h := h.on h2.ext
  refine iteB_t (by simp) (awake_s fun w' h2 => hc w' (h.all.on h2.ext))
end Go.Proofs.Ytinieegaaimilaa
