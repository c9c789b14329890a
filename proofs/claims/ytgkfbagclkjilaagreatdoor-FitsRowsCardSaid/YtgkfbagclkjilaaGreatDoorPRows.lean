/-
  For every program and every table, FitsRows of package pelotonlaw08 returns true, panics never, and leaves what it was given as it was; the listed tables of the library (none of which the code reads) are tied to the text. Conditions: none.
-/
import Derived.Test.YtgkfbagclkjilaaGreatDoorPRows6
import Derived.Test.YtgkfbagclkjilaaGreatDoorTie
import Derived.Test.YtgkfbagclkjilaaGreatDoorCards
set_option linter.unusedSimpArgs false
set_option linter.unusedVariables false
set_option maxRecDepth 100000
namespace Go.Proofs.YtgkfbagclkjilaaGreatDoor.FitsRows
open Go Go.Ev Go.Proofs Go.Proofs.YtgkfbagclkjilaaGreatDoor Go.RowKit Go.ChangeShapes Go.WideShapes
theorem own : ownKnob Tryz.prog.godebug = none := by kernel_rfl
theorem walk (W : World) (args : Array Value) (hA : Args Tryz.prog W Tryz.f3.params.toList args.toList) :
    Calls Tryz.prog 3 args W fun e W' => e = .returned (.bool true) ∧ Below W.heap.size W W' := by
  rw [Tryz.params3] at hA
  obtain ⟨v0, _, e0, h0, hA⟩ := hA.cons
  obtain ⟨v1, _, rfl, h1, hA⟩ := hA.cons
  obtain rfl := hA.nil
  obtain rfl : args = #[v0, v1] := by cases args; simp_all
  obtain ⟨ps, P, rfl, hF⟩ := h0.program Ck.progT
  obtain ⟨ls, l, rfl, hT, hI⟩ := Ft.Arg.rows h1
  refine Sound.call (aks := [.ag, .s]) (rks := [.b]) (F := fun x w k => pelotonlaw08_FitsRows x.1 x.2 w k) s_pelotonlaw08_FitsRows (#[.slice ps.a ps.n ps.c], ⟨ls.a, ls.n, ls.c⟩) rfl ?_
  exact Ft.law_rows hF hT fun w' hS => ⟨rfl, hS.ext.below⟩
theorem lifted (os : Os) (started : os.Started) (H : Type) (enc : TypeId × Value → H) :
    ReturnsInHanded {} Tryz.checked os 3 .any (fun w args => (Rows.fitsRowsSpec.pre enc Tryz.prog Tryz.f3 [] false w args ∧ laidMetH Tryz.prog Rows.fitsRowsRow.laid w) ∧ sizedMet enc Tryz.prog Tryz.f3 (OpenSpec.ofChange Rows.fitsRowsSpec) false w args)
      (Rows.fitsRowsSpec.post enc Tryz.prog Tryz.f3 false true false false) :=
  law_liftedL (C := Tryz.checked) (X := fun w _ => laidMetH Tryz.prog Rows.fitsRowsRow.laid w) (fun _ _ _ hh h => h.of_heap hh) own started (by kernel_rfl) Tryz.func3
    (ChangeSpec.witness_shaped (enc := enc) (C := Tryz.checked) (os := os) (X := fun w _ => laidMetH Tryz.prog Rows.fitsRowsRow.laid w) false (World.laidAll Tryz.prog os Rows.fitsRowsRow.laid) #[.agg #[.slice none 0 0], .slice none 0 0] 8 (World.laidAll_os _ _ _)
      (World.shaped_of_ZipB (by kernel_rfl) (by kernel_rfl)) (by kernel_rfl) (by kernel_rfl) (by kernel_rfl)
      (by rw [MakeChecks.laidMetH_plain _ _ _ (by kernel_rfl)]; exact laidMet_laidAll _ (by kernel_rfl) (by kernel_rfl)))
    rfl (by kernel_rfl) (by kernel_rfl) (tb := 4) (by kernel_rfl) (by kernel_rfl)
    (fun ds h => by
      match ds, h with
      | [_, _], _ => rfl)
    walk
theorem over : Rows.fitsRowsRow.holds Tryz.pinned (OpenSpec.ofChange Rows.fitsRowsSpec) :=
  OpenClaim.holds_of_wide 3 Tryz.f3 rfl rfl rfl rfl rfl rfl rfl ⟨rfl, rfl, rfl, rfl, rfl⟩ rfl rfl rfl rfl rfl (by kernel_rfl) Tryz.func3 (by kernel_rfl)
    (of_decide_eq_true (by kernel_rfl)) (by unfold Func.isWrapper; first | (rw [if_pos (by decide +kernel)]; kernel_rfl) | (rw [if_neg (by decide +kernel)]; exact ⟨rfl, rfl⟩))
    (fun os started H enc _ => lifted os started H enc)
theorem proved : Rows.FitsRowsCardSaid :=
  Claim7.holds_tied_plain_at .later [] [.data, .pinned] true (true, Rows.fitsRowsCard.stood.harness.2) true
    over (fun _ h => by cases h) (by kernel_rfl) (fun _ h => by cases h) fitsRows_row_tie rfl ⟨rfl, rfl⟩ (by kernel_rfl) rfl
    (fun f fn hf hfn => by
      obtain rfl : f = 3 := Option.some.inj ((show Tryz.prog.funcNamed "peloton/pelotonlaw08.FitsRows" = some 3 by kernel_rfl).symm.trans hf) |>.symm
      obtain rfl : fn = Tryz.f3 := (Option.some.inj (Tryz.func3.symm.trans hfn)).symm
      exact ⟨by kernel_rfl, fun j t ht => by
        rw [Tryz.params3] at ht
        have hm : t ∈ [24, 25] := by simpa using Array.mem_of_getElem? ht
        have hall : ([24, 25].all fun u => !Tryz.prog.wantsStandIn u) = true := by kernel_rfl
        exact (show Tryz.prog.wantsStandIn t = false by simpa using List.all_eq_true.1 hall t hm)⟩)
    (by kernel_rfl)
#print axioms proved
end Go.Proofs.YtgkfbagclkjilaaGreatDoor.FitsRows
