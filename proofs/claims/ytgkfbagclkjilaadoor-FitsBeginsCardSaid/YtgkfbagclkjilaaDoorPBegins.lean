/-
  For every program, FitsBegins of package pelotonlaw08 returns true, panics never, and leaves what it was given as it was; the listed tables of the library (none of which the code reads) are tied to the text. Conditions: none.
-/
import Derived.Test.YtgkfbagclkjilaaDoorPBegins6
import Derived.Test.YtgkfbagclkjilaaDoorTie
import Derived.Test.YtgkfbagclkjilaaDoorCards
set_option linter.unusedSimpArgs false
set_option linter.unusedVariables false
set_option maxRecDepth 100000
namespace Go.Proofs.YtgkfbagclkjilaaDoor.FitsBegins
open Go Go.Ev Go.Proofs Go.Proofs.YtgkfbagclkjilaaDoor Go.RowKit Go.ChangeShapes Go.WideShapes
theorem own : ownKnob Tryd.prog.godebug = none := by kernel_rfl
theorem walk (W : World) (args : Array Value) (hA : Args Tryd.prog W Tryd.f5.params.toList args.toList) :
    Calls Tryd.prog 5 args W fun e W' => e = .returned (.bool true) ∧ Below W.heap.size W W' := by
  rw [Tryd.params5] at hA
  obtain ⟨v0, _, e0, h0, hA⟩ := hA.cons
  obtain rfl := hA.nil
  obtain rfl : args = #[v0] := by cases args; simp_all
  obtain ⟨ps, P, rfl, hF⟩ := h0.program Ck.progT
  refine Sound.call (aks := [.ag]) (rks := [.b]) (F := fun x w k => pelotonlaw08_FitsBegins x w k) s_pelotonlaw08_FitsBegins #[.slice ps.a ps.n ps.c] rfl ?_
  exact Ft.law_begins hF fun w' hS => ⟨rfl, hS.ext.below⟩
theorem lifted (os : Os) (started : os.Started) (H : Type) (enc : TypeId × Value → H) :
    ReturnsInHanded {} Tryd.checked os 5 .any (fun w args => (Rows.fitsBeginsSpec.pre enc Tryd.prog Tryd.f5 [] false w args ∧ laidMetH Tryd.prog Rows.fitsBeginsRow.laid w) ∧ sizedMet enc Tryd.prog Tryd.f5 (OpenSpec.ofChange Rows.fitsBeginsSpec) false w args)
      (Rows.fitsBeginsSpec.post enc Tryd.prog Tryd.f5 false true false false) :=
  law_liftedL (C := Tryd.checked) (X := fun w _ => laidMetH Tryd.prog Rows.fitsBeginsRow.laid w) (fun _ _ _ hh h => h.of_heap hh) own started (by kernel_rfl) Tryd.func5
    (ChangeSpec.witness_shaped (enc := enc) (C := Tryd.checked) (os := os) (X := fun w _ => laidMetH Tryd.prog Rows.fitsBeginsRow.laid w) false (World.laidAll Tryd.prog os Rows.fitsBeginsRow.laid) #[.agg #[.slice none 0 0]] 8 (World.laidAll_os _ _ _)
      (World.shaped_of_ZipB (by kernel_rfl) (by kernel_rfl)) (by kernel_rfl) (by kernel_rfl) (by kernel_rfl)
      (by rw [MakeChecks.laidMetH_plain _ _ _ (by kernel_rfl)]; exact laidMet_laidAll _ (by kernel_rfl) (by kernel_rfl)))
    rfl (by kernel_rfl) (by kernel_rfl) (tb := 4) (by kernel_rfl) (by kernel_rfl)
    (fun ds h => by
      match ds, h with
      | [_], _ => rfl)
    walk
theorem over : Rows.fitsBeginsRow.holds Tryd.pinned (OpenSpec.ofChange Rows.fitsBeginsSpec) :=
  OpenClaim.holds_of_wide 5 Tryd.f5 rfl rfl rfl rfl rfl rfl rfl ⟨rfl, rfl, rfl, rfl, rfl⟩ rfl rfl rfl rfl rfl (by kernel_rfl) Tryd.func5 (by kernel_rfl)
    (of_decide_eq_true (by kernel_rfl)) (by unfold Func.isWrapper; first | (rw [if_pos (by decide +kernel)]; kernel_rfl) | (rw [if_neg (by decide +kernel)]; exact ⟨rfl, rfl⟩))
    (fun os started H enc _ => lifted os started H enc)
theorem proved : Rows.FitsBeginsCardSaid :=
  Claim7.holds_tied_plain_at .later [] [.data, .pinned] true (true, Rows.fitsBeginsCard.stood.harness.2) false
    over (fun _ h => by cases h) (by kernel_rfl) (fun _ h => by cases h) fitsBegins_row_tie rfl ⟨rfl, rfl⟩ (by kernel_rfl) rfl
    (fun f fn hf hfn => by
      obtain rfl : f = 5 := Option.some.inj ((show Tryd.prog.funcNamed "peloton/pelotonlaw08.FitsBegins" = some 5 by kernel_rfl).symm.trans hf) |>.symm
      obtain rfl : fn = Tryd.f5 := (Option.some.inj (Tryd.func5.symm.trans hfn)).symm
      exact ⟨by kernel_rfl, fun j t ht => by
        rw [Tryd.params5] at ht
        have hm : t ∈ [24] := by simpa using Array.mem_of_getElem? ht
        have hall : ([24].all fun u => !Tryd.prog.wantsStandIn u) = true := by kernel_rfl
        exact (show Tryd.prog.wantsStandIn t = false by simpa using List.all_eq_true.1 hall t hm)⟩)
    (by kernel_rfl)
#print axioms proved
end Go.Proofs.YtgkfbagclkjilaaDoor.FitsBegins
