/-
  Layer 6, the document's answer: a step.
-/
import Derived.Test.YtgkfbagclkjilaaSv
set_option linter.unusedSimpArgs false
set_option linter.unusedVariables false
set_option maxRecDepth 100000
namespace Go.Proofs.Ytgkfbagclkjilaa
open Go Go.Ev Go.Proofs
open Go.Proofs.Ytgkfbagclkjilaa.Fr (fTo fOn fPlain fForked fJoined fClosed fChild fRoot fR isB fTo_len fOn_len fPlain_len fForked_len fJoined_len fClosed_len)
open Go.Proofs.Ytgkfbagclkjilaa.Ck (opI Walk Accs needsOf isGoes heldL depths stepD handlesOk subBits scopesOk forks)

abbrev RS (gm : Nat) (ps ss sr : Sl) (F st E : Int) (Q : Option Pt) (t : Tk) (so sk : Sl) (b : List Int) (rows : List Rw) (R : List HP) : List HP :=
  RL gm ps ss sr F st E (parV Q ++ rkV t so sk b) rows (slc 2 so (opV t.nest t.sc) :: slc 1 sk (kV t.sc) :: R)
theorem rpoint_s {op : Int} {w : World} {k : Bool → World → Prop} (h0 : 0 ≤ op) (h1 : op < 17) (hk : k (isPt op) w) : pelotonref02_Point op w k := by
  unfold pelotonref02_Point
  rcases Fr.op17 h0 h1 with h | h | h | h | h | h | h | h | h | h | h | h | h | h | h | h | h <;> subst h <;> exact hk
theorem samec_p {w w' : World} {p : Addr} {e : List Value} {n : Nat} {c : Prop} (hl : e.length = n) (h : ∀ j v, e[j]? = some v → w.cell? (p.add j) = some v) (h' : ∀ j v, e[j]? = some v → w'.cell? (p.add j) = some v) (hc : c) : samec n p w w' c := by
  refine ⟨fun k hk => ?_, hc⟩
  obtain ⟨v, hv⟩ : ∃ v, e[k]? = some v := ⟨_, List.getElem?_eq_getElem (by omega)⟩
  rw [h k v hv, h' k v hv]
theorem elOp : ElS Go.Proofs.Try.prog 87 2 16 (.agg #[.bool false, .int .i64 0]) := ⟨by kernel_rfl, rfl⟩
theorem elK : ElS Go.Proofs.Try.prog 88 1 8 (.int .i64 0) := ⟨by kernel_rfl, rfl⟩
section
variable {w0 w : World} {R : List HP} {gm : Nat} {ps ss sr : Sl} {P : List FnR} {F : Int} {m : Mc} {q : Nat} {t : Tk} {so sk : Sl} {b : List Int} {Q : Option Pt} {L : List HP} {f : HP → List HP} {n : Nat} {x : Bool × Int} {l : List (Bool × Int)}
theorem so_n (h : St w0 w L) [a : At L (slc 2 so) (opV n l) f] : so.n = l.length := by
  have := h.slen (sz := 2) (s := so) (vs := opV n l)
  rw [opV_len] at this; omega
theorem sk_n (h : St w0 w L) [a : At L (slc 1 sk) (kV l) f] : sk.n = l.length := by
  have := h.slen (sz := 1) (s := sk) (vs := kV l)
  rw [kV_len] at this; omega
theorem rcanc_s {k : Bool → World → Prop} (h : St w0 w (RS gm ps ss sr F m.steps 0 Q t so sk b m.rows R)) (hQ : PtOK q Q) (hf : t.f.length = 19) (hb : b.length = 5) (hl : t.sc.length < 1000)
    (hk : ∀ w', St w0 w' (RS gm ps ss sr F m.steps 0 Q t so sk b m.rows R) → k (t.off || t.sc.any (·.1)) w') : pelotonref06_Machine_cancelled (some ⟨gm, 0, none⟩) w k := by
  have hr := hQ.len
  unfold pelotonref06_Machine_cancelled pelotonref06_Machine_cancelled_b
  refine top_s h hr (rk_len hf hb) fun g o w2 T h => ?_
  have hsn := so_n (so := so) (n := t.nest) (l := t.sc) h
  refine nn_i ?_
  refine tB T h hr (rk_off hf) ?_
  refine iteB_i (fun hb1 => ?_) fun hb1 => ?_
  · have := hk w2 h
    rw [show t.off = true from hb1, Bool.true_or] at this; exact this
  rw [show t.off = false from hb1, Bool.false_or] at hk
  refine loopP_of (fun (i : Int) w' => ∃ j : Nat, i = (j : Int) ∧ j ≤ t.sc.length ∧ w' = w2 ∧ ∀ c, c < j → ∀ y, t.sc.reverse[c]? = some y → y.1 = false) (fun i _ => (t.sc.length - i).toNat) ⟨0, rfl, by omega, rfl, fun c hc => by omega⟩ ?_
  rintro _ _ ⟨j, rfl, hj, rfl, hno⟩ C hC
  refine nn_i ?_
  refine tS T h hr (x := so) (rk_so hf) ?_
  refine iteB_i (fun hb2 => ?_) fun hb2 => ?_
  · have hlt : j < t.sc.length := by have := of_decide_eq_true hb2; omega
    refine nn_i ?_
    refine tS T h hr (x := so) (rk_so hf) ?_
    obtain ⟨y, hy⟩ : ∃ y, t.sc.reverse[j]? = some y := ⟨_, List.getElem?_eq_getElem (by simpa using hlt)⟩
    refine ixS_h (sz := 2) (s := so) (vs := opV t.nest t.sc) h (by decide) (by omega) (by omega) fun ga oa _ hrd _ => ?_
    simp only [Int.toNat_natCast] at hrd
    refine ldB_i (n := y.1) (hrd h 0 _ (by decide) ?_) ?_
    · rw [Nat.add_zero, Nat.mul_comm, opV_get, hy]; rfl
    refine iteB_i (fun hb3 => ?_) fun hb3 => ?_
    · have := hk _ h
      have e : t.sc.any (·.1) = true := by
        rw [← List.any_reverse, List.any_eq_true]
        exact ⟨y, List.mem_of_getElem? hy, hb3⟩
      rw [e] at this; exact this
    · rw [show IntKind.wrap .i64 ((j : Int) + 1) = ((j + 1 : Nat) : Int) by rw [wrap_id ⟨by omega, by omega⟩]; simp]
      refine hC _ _ ⟨j + 1, rfl, by omega, rfl, fun c hc y' hy' => ?_⟩ (by omega)
      by_cases e : c = j
      · subst e; rw [hy] at hy'; cases hy'; exact hb3
      · exact hno c (by omega) y' hy'
  · have hje : j = t.sc.length := by have := of_decide_eq_false hb2; omega
    have := hk _ h
    have e : t.sc.any (·.1) = false := by
      rw [← List.any_reverse, List.any_eq_false]
      intro y hy
      obtain ⟨c, hc⟩ := List.mem_iff_getElem?.1 hy
      rw [hno c (by have := (List.getElem?_eq_some_iff.1 hc).1; simp at this; omega) y hc]; decide
    rw [e] at this; exact this
end
end Go.Proofs.Ytgkfbagclkjilaa
