/-
  Layer 6: what the laws ask: rows that are one, programs that are few; the chapter's examples.
-/
import Derived.Test.YtgkfbagclkjilaaSi
import Derived.Test.YtgkfbagclkjilaaFt
set_option linter.unusedSimpArgs false
set_option linter.unusedVariables false
set_option maxRecDepth 100000
namespace Go.Proofs.Ytgkfbagclkjilaa
open Go Go.Ev Go.Proofs
open Go.Proofs.Ytgkfbagclkjilaa.Fr (fTo fOn fPlain fForked fJoined fClosed fChild fRoot fR isB fTo_len fOn_len fPlain_len fForked_len fJoined_len fClosed_len)
open Go.Proofs.Ytgkfbagclkjilaa.Ck (opI Walk Accs needsOf isGoes heldL depths stepD handlesOk subBits scopesOk forks)

/-! ### what is computed -/
def goesN (P : List FnR) (F : Int) : Nat → Tk → Mc → Option Res
  | 0, _, _ => none
  | n + 1, t, m => match stp P F t m with
    | .fin m' => some (.ok m')
    | .bad e => some (.bad e)
    | .go t' m' => goesN P F n t' m'
    | .fork c m1 i => match goesN P F n c m1 with
      | some (.ok m2) => goesN P F n { t with f := fForked t.f i c.row } m2
      | some (.bad e) => some (.bad e)
      | none => none
theorem goesN_ok {P : List FnR} {F : Int} : ∀ {n : Nat} {t : Tk} {m : Mc} {r : Res}, goesN P F n t m = some r → Goes P F t m r
  | 0, _, _, _, h => by cases h
  | n + 1, t, m, r, h => by
    unfold goesN at h
    split at h
    · cases h; exact .fin (by assumption)
    · cases h; exact .bad (by assumption)
    · exact .go (by assumption) (goesN_ok h)
    · split at h
      · exact .fork (by assumption) (goesN_ok (by assumption)) (goesN_ok h)
      · cases h; exact .forkBad (by assumption) (goesN_ok (by assumption))
      · cases h
def accB (P : List FnR) (f : FnR) (H : List Int) : Bool := decide (0 ≤ f.needs ∧ f.needs ≤ 255 ∧ 1 ≤ f.code.length ∧ f.code.length ≤ 128) && (f.code.all fun x => Ck.chk x == 0) && ((List.range f.code.length).all fun i => Ck.wrongF P f.code.length (depths 0 f.code) H i (f.code.getD i []) == 0)
theorem acc_of {P : List FnR} {f : FnR} {H : List Int} (hH : heldL f.code f.needs = H) (h : accB P f H = true) : Ck.Acc P f := by
  unfold accB at h
  rw [Bool.and_eq_true, Bool.and_eq_true, decide_eq_true_eq, List.all_eq_true, List.all_eq_true] at h
  obtain ⟨⟨⟨a, b, c, d⟩, h2⟩, h3⟩ := h
  refine ⟨a, b, c, d, fun x hx => by simpa using h2 x hx, fun i x hx => ?_⟩
  have hi := (List.getElem?_eq_some_iff.1 hx).1
  have := h3 i (by simpa using hi)
  rw [hH]
  rw [List.getD_eq_getElem?_getD, hx] at this
  simpa using this

/-! ### rows -/
theorem eq_rw (r : Rw) {c : Bool → Prop} (hc : c true) : eqA ([(0, 0)] ++ ([(1, 0)] ++ ([(2, 0)] ++ ([(3, 0)] ++ ([(4, 0)] ++ ([(5, 0)] ++ ([(6, 2)] ++ []))))))) (rwV r).toArray (rwV r).toArray c := by
  unfold eqA
  have : eqOffs (rwV r).toArray (rwV r).toArray ([(0, 0)] ++ ([(1, 0)] ++ ([(2, 0)] ++ ([(3, 0)] ++ ([(4, 0)] ++ ([(5, 0)] ++ ([(6, 2)] ++ []))))))) = some true := by
    simp [eqOffs, eqC, rwV]
  rw [this]; exact hc
section
variable {w0 w : World} {L : List HP} {s s' : Sl} {rs : List Rw} {f f' : HP → List HP}
theorem rowA_h {i : Int} {r : Rw} {c : Array Value → Prop} (h : St w0 w L) [a : At L (slc 7 s) (rowsV rs) f] (h0 : 0 ≤ i) (hr : rs[i.toNat]? = some r) (hc : c (rwV r).toArray) : ixS s i 7 fun a => ldA 7 w a c := by
  have hn := rows_n (s := s) (rs := rs) h
  have hlt := (List.getElem?_eq_some_iff.1 hr).1
  refine ixS_h (sz := 7) (s := s) (vs := rowsV rs) h (by decide) h0 (by omega) fun g o _ hrd _ => ?_
  refine ldA_c (e := rwV r) rfl (fun j v hv => ?_) hc
  have hj : j < 7 := (List.getElem?_eq_some_iff.1 hv).1
  rw [add_mk]
  exact hrd h j v hj (by rw [rows_get hr hj]; exact hv)
theorem rows_same {k : Bool → World → Prop} (h : St w0 w L) [a : At L (slc 7 s) (rowsV rs) f] [a' : At L (slc 7 s') (rowsV rs) f'] (hl : rs.length < 1000000000) (hk : ∀ w', St w0 w' L → k true w') : pelotonlaw06_Rows s s' w k := by
  have hn := rows_n (s := s) (rs := rs) h
  have hn' := rows_n (s := s') (rs := rs) h
  unfold pelotonlaw06_Rows
  refine iteB_f (by rw [hn, hn']; simp) ?_
  refine loopP_of (fun (i : Int) w' => ∃ j : Nat, i = j ∧ j ≤ rs.length ∧ St w0 w' L) (fun i _ => (rs.length - i).toNat) ⟨0, rfl, by omega, h⟩ ?_
  rintro _ w3 ⟨j, rfl, hj, h⟩ C hC
  refine iteB_i (fun hb => ?_) fun hb => ?_
  · have hlt : j < rs.length := by have := of_decide_eq_true hb; omega
    refine drew_h h fun w4 h => ?_
    refine rowA_h (s := s) (rs := rs) (r := rs.getD j r0) h (by omega) (by rw [Int.toNat_natCast]; exact row_at hlt) ?_
    refine rowA_h (s := s') (rs := rs) (r := rs.getD j r0) h (by omega) (by rw [Int.toNat_natCast]; exact row_at hlt) ?_
    refine eq_rw _ (iteB_f rfl ?_)
    have e : IntKind.wrap .i64 ((j : Int) + 1) = ((j + 1 : Nat) : Int) := by rw [wrap_id ⟨by omega, by omega⟩]; simp
    rw [e]
    exact hC _ _ ⟨j + 1, rfl, by omega, h⟩ (by omega)
  · exact hk _ h
end
theorem small_s {w : World} {ps : Sl} {P : List FnR} {fuel : Int} {k : Bool → World → Prop} (hF : Funcs5 w ps P) (hc : ∀ b w', St w w' [] → (b = true → Ck.Few P ∧ fuel ≤ 3000) → k b w') : pelotonlaw06_small #[.slice ps.a ps.n ps.c] fuel w k := by
  unfold pelotonlaw06_small pelotonlaw06_small_b
  refine newC_h (.nil w) fun g1 w2 h => ?_
  refine ldW_h (g := g1) h rfl ?_
  refine Ck.few_s (hF.ext h.ext) fun b w5 h2 hb => ?_
  refine hc _ _ (h.on h2.ext).all fun q => ?_
  rw [Bool.and_eq_true, decide_eq_true_eq] at q
  exact ⟨hb q.1, q.2⟩

/-! ### the chapter's examples -/
def aF : List (List Int) := [[0, 2, 0, 0, 5], [16, 2, 0, 0, 0]]
def aP : List (List Int) := [[8, 1, 0, 0, 1], [9, 0, 1, 0, 0], [16, 0, 0, 0, 0]]
def aQ : List (List Int) := [[11, 0, 0, 0, 0], [13, 0, 0, 0, 0], [8, 1, 0, 0, 1], [12, 3, 0, 0, 0], [16, 3, 0, 0, 0]]
theorem heldF : heldL aF 0 = [0, 0] := (Ck.heldL_eval (l := aF) (needs := 0) 2 (by decide) (by decide) (by kernel_rfl)).trans (by kernel_rfl)
theorem heldP : heldL aP 0 = [0, 2, 2] := (Ck.heldL_eval (l := aP) (needs := 0) 3 (by decide) (by decide) (by kernel_rfl)).trans (by kernel_rfl)
theorem heldQ : heldL aQ 0 = [0, 0, 0, 2, 2] := (Ck.heldL_eval (l := aQ) (needs := 0) 5 (by decide) (by decide) (by kernel_rfl)).trans (by kernel_rfl)
theorem accs_p {s1 s2 : Sl} : Accs [⟨0, s1, aP⟩, ⟨0, s2, aF⟩] := ⟨by simp, by simp, rfl, fun f hf => by
  simp at hf
  rcases hf with rfl | rfl
  · exact acc_of heldP (by kernel_rfl)
  · exact acc_of heldF (by kernel_rfl)⟩
theorem accs_q {s1 s2 : Sl} : Accs [⟨0, s1, aQ⟩, ⟨0, s2, aF⟩] := ⟨by simp, by simp, rfl, fun f hf => by
  simp at hf
  rcases hf with rfl | rfl
  · exact acc_of heldQ (by kernel_rfl)
  · exact acc_of heldF (by kernel_rfl)⟩
def rP : List Rw := [⟨-1, 0, 0, 2, 5, 3, []⟩, ⟨0, 0, 1, 2, 5, 2, []⟩]
def rQ : List Rw := [⟨-1, 0, 0, 2, 1, 5, [true]⟩, ⟨0, 1, 1, 4, 0, 0, []⟩]
theorem run_p {s1 s2 : Sl} : RunR [⟨0, s1, aP⟩, ⟨0, s2, aF⟩] 100 rP 5 0 := .inr (.inr ⟨accs_p, by decide, by decide, .inl ⟨goesN_ok (n := 20) (by kernel_rfl), rfl⟩⟩)
theorem run_q {s1 s2 : Sl} : RunR [⟨0, s1, aQ⟩, ⟨0, s2, aF⟩] 100 rQ 5 0 := .inr (.inr ⟨accs_q, by decide, by decide, .inl ⟨goesN_ok (n := 20) (by kernel_rfl), rfl⟩⟩)
theorem two_funcs {w : World} {ga gb gf : Nat} {c1 c2 c3 : Nat} {l1 l2 : List (List Int)} (hb1 : Blk w ga (agI l1.flatten)) (hb2 : Blk w gb (agI l2.flatten)) (h1 : ∀ x ∈ l1, x.length = 5 ∧ ∀ y ∈ x, InI y) (h2 : ∀ x ∈ l2, x.length = 5 ∧ ∀ y ∈ x, InI y) (hl1 : l1.length ≤ 100) (hl2 : l2.length ≤ 100)
    (hb : Blk w gf #[.int .i64 0, .slice (some ⟨ga, 0, none⟩) l1.length c1, .int .i64 0, .slice (some ⟨gb, 0, none⟩) l2.length c2]) : Funcs5 w ⟨some ⟨gf, 0, none⟩, 2, c3⟩ [⟨0, ⟨some ⟨ga, 0, none⟩, l1.length, c1⟩, l1⟩, ⟨0, ⟨some ⟨gb, 0, none⟩, l2.length, c2⟩, l2⟩] := by
  have code : ∀ {g c : Nat} {l : List (List Int)}, Blk w g (agI l.flatten) → (∀ x ∈ l, x.length = 5 ∧ ∀ y ∈ x, InI y) → l.length ≤ 100 → Code5 w ⟨some ⟨g, 0, none⟩, l.length, c⟩ l := by
    intro g c l hb h5 hl
    refine Ck.code_blk hb h5 (fun i hi j hj => ?_) (by simp [reachBytes]; omega)
    rw [Nat.zero_add, Ck.flat_get (fun e he => (h5 e he).1) (e := l.getD i []) (by simp [hi]) hj]
  refine ⟨Ck.sls_rws (blk_slsN (n := 2) hb rfl _) (by decide) (by intro e he; simp [FnR.cells] at he; rcases he with rfl | rfl <;> rfl), fun x hx => ?_, by simp [reachBytes]⟩
  simp at hx
  rcases hx with rfl | rfl
  · exact ⟨(by decide : InI 0), code hb1 h1 hl1⟩
  · exact ⟨(by decide : InI 0), code hb2 h2 hl2⟩
theorem five_in : ∀ l ∈ [aF, aP, aQ], ∀ x ∈ l, x.length = 5 ∧ ∀ y ∈ x, InI y := by decide
theorem awake_s {w : World} {k : Bool → World → Prop} (hk : ∀ w', St w w' [] → k true w') : pelotonlaw06_awake w k := by
  unfold pelotonlaw06_awake pelotonlaw06_awake_b
  refine spl_i (agI (aF.flatten.take 5 ++ Fr.Z 5)) rfl (by kernel_rfl) (spl_i (agI aF.flatten) rfl (by kernel_rfl) ?_)
  refine newC_h (.nil w) fun g3 w4 h => newC_h h fun g5 w6 h => ?_
  refine stW_h (g := g5) h rfl rfl (by intro v hv; simp at hv; rcases hv with rfl | rfl <;> rfl) fun w7 h => ?_
  refine spl_i (agI (aP.flatten.take 5 ++ Fr.Z 10)) rfl (by kernel_rfl) (spl_i (agI (aP.flatten.take 10 ++ Fr.Z 5)) rfl (by kernel_rfl) (spl_i (agI aP.flatten) rfl (by kernel_rfl) ?_))
  refine newC_h h fun g11 w12 h => ?_
  refine ldW_h (g := g5) h rfl ?_
  refine spl_i #[.int .i64 0, .slice (some ⟨g11, 0, none⟩) 3 3, .int .i64 0, .slice none 0 0] rfl (by kernel_rfl) (spl_i #[.int .i64 0, .slice (some ⟨g11, 0, none⟩) 3 3, .int .i64 0, .slice (some ⟨g3, 0, none⟩) 2 2] rfl (by kernel_rfl) ?_)
  refine newC_h h fun g16 w17 h => newC_h h fun g18 w19 h => ?_
  refine stW_h (g := g18) h rfl rfl (by intro v hv; simp at hv; subst hv; rfl) fun w20 h => ?_
  refine spl_i (agI (aQ.flatten.take 5 ++ Fr.Z 20)) rfl (by kernel_rfl) (spl_i (agI (aQ.flatten.take 10 ++ Fr.Z 15)) rfl (by kernel_rfl) (spl_i (agI (aQ.flatten.take 15 ++ Fr.Z 10)) rfl (by kernel_rfl) (spl_i (agI (aQ.flatten.take 20 ++ Fr.Z 5)) rfl (by kernel_rfl) (spl_i (agI aQ.flatten) rfl (by kernel_rfl) ?_))))
  refine newC_h h fun g26 w27 h => ?_
  refine ldW_h (g := g5) h rfl ?_
  refine spl_i #[.int .i64 0, .slice (some ⟨g26, 0, none⟩) 5 5, .int .i64 0, .slice none 0 0] rfl (by kernel_rfl) (spl_i #[.int .i64 0, .slice (some ⟨g26, 0, none⟩) 5 5, .int .i64 0, .slice (some ⟨g3, 0, none⟩) 2 2] rfl (by kernel_rfl) ?_)
  refine newC_h h fun g31 w32 h => newC_h h fun g33 w34 h => ?_
  refine stW_h (g := g33) h rfl rfl (by intro v hv; simp at hv; subst hv; rfl) fun w35 h => ?_
  refine ldW_h (g := g18) h rfl ?_
  have f5 := five_in
  refine run_s (ps := ⟨some ⟨g16, 0, none⟩, 2, 2⟩) (two_funcs (c1 := 3) (c2 := 2) (l1 := aP) (l2 := aF) (h.blk (g := g11)) (h.blk (g := g3)) (f5 aP (by simp)) (f5 aF (by simp)) (by decide) (by decide) (h.blk (g := g16))) fun s1 r1 n1 e1 w38 h2 hR1 => ?_
  obtain ⟨rfl, rfl, rfl⟩ := hR1.det run_p
  have h := h.join h2
  simp only [List.cons_append, List.nil_append] at h
  refine ldW_h (g := g33) h rfl ?_
  refine run_s (ps := ⟨some ⟨g31, 0, none⟩, 2, 2⟩) (two_funcs (c1 := 5) (c2 := 2) (l1 := aQ) (l2 := aF) (h.blk (g := g26)) (h.blk (g := g3)) (f5 aQ (by simp)) (f5 aF (by simp)) (by decide) (by decide) (h.blk (g := g31))) fun s2 r2 n2 e2 w41 h2 hR2 => ?_
  obtain ⟨rfl, rfl, rfl⟩ := hR2.det run_q
  have h := h.join h2
  simp only [List.cons_append, List.nil_append] at h
  refine iteB_t rfl ?_
  refine spl_i #[.int .i64 (-1), .int .i64 0, .int .i64 0, .int .i64 2, .int .i64 5, .int .i64 3, .string (ByteArray.mk #[]), .int .i64 0, .int .i64 0, .int .i64 0, .int .i64 0, .int .i64 0, .int .i64 0, .string (ByteArray.mk #[])] rfl (by kernel_rfl) (spl_i (rowsV rP).toArray rfl (by kernel_rfl) ?_)
  refine newC_h h fun g44 w45 h => ?_
  have h : St w w45 (blk g44 (rowsV rP) :: _) := h
  have h := St.asS (g := g44) (n := 2) (sz := 7) h rfl (by decide) (rows_one _)
  refine rows_same (s := s1) (s' := ⟨some ⟨g44, 0, none⟩, 2, 2⟩) (rs := rP) h (by decide) fun w47 h => ?_
  refine iteB_t rfl ?_
  refine spl_i #[.int .i64 (-1), .int .i64 0, .int .i64 0, .int .i64 2, .int .i64 1, .int .i64 5, .string (ByteArray.mk #[49]), .int .i64 0, .int .i64 0, .int .i64 0, .int .i64 0, .int .i64 0, .int .i64 0, .string (ByteArray.mk #[])] rfl (by kernel_rfl) (spl_i (rowsV rQ).toArray rfl (by kernel_rfl) ?_)
  refine newC_h h fun g50 w51 h => ?_
  have h : St w w51 (blk g50 (rowsV rQ) :: _) := h
  have h := St.asS (g := g50) (n := 2) (sz := 7) h rfl (by decide) (rows_one _)
  refine rows_same (s := s2) (s' := ⟨some ⟨g50, 0, none⟩, 2, 2⟩) (rs := rQ) h (by decide) fun w47 h => ?_
  exact hk _ h.all
end Go.Proofs.Ytgkfbagclkjilaa
