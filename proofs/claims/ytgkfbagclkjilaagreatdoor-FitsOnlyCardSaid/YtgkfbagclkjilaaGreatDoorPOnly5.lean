/-
  From what a law's function does to the given statement where a row lists package-level variables (none of which the code reads).
  Layers 7 and 8: what the laws ask: tables that come in; small ones; the chapter's examples.
  Layer 8: the chapter's examples; what fits quietly fits; tables of one row.
  Layer 8: what fits quietly fits; how programs begin.
  Layer 8, in plain terms: of a row that has ended no other number, or number of steps, fits, and of no row another function, or scope.
  Package serial, as the evaluator gives it: panics, recursion, a deferred closure that recovers.
  Layer 6: scopes, rows, tasks in memory; what a step's parts do.
  Layer 6: join, open, close, leave.
  Layer 6: the next instruction; a step.
  Layer 6: a fork; a step.
  Layer 6: a step.
  Layer 6: a run of a task, and of those that it forks.
  Layer 6: serial.Run.
  Layer 6, in plain terms: how rows grow, steps add up, what more fuel does.
  Layer 8, in plain terms: what serial tells fits: a step of serial's is a step of a row that is followed.
  Layer 8, in plain terms: what serial tells fits: whole runs.
  Layer 8, in plain terms: what serial tells is a table, and fits.
  Layer 8, in plain terms: of a program that neither cancels nor opens a scope for a time, rows that fit quietly and have all come to something are followed by serial.
  Layer 8, in plain terms: rows that fit quietly are what serial comes to: step by step.
  What stands on serial.Run: printed by a program.
  Layer 8: what a program comes to, if one does it all, fits, and quietly: the law.
  Layer 8: of a program that neither cancels nor opens a scope for a time a table that fits quietly, all of whose rows have come to something, is the one that serial tells: the law.
-/
import Derived.Test.YtgkfbagclkjilaaGreatDoorPOnly4
import Derived.LaidMore
import Derived.SevenTiedAt
import Derived.Lay
import Derived.Stop.Joined
set_option linter.unusedSimpArgs false
set_option linter.unusedVariables false
set_option maxRecDepth 100000
namespace Go.Ev
open Go Go.RowKit Go.ChangeShapes Go.WideShapes
theorem law_liftedL {H : Type} {enc : TypeId × Value → H} {C : Checked} {os : Os} {K : FuncId} {fn : Func} {s : ChangeSpec} {tb : TypeId} {X : World → Array Value → Prop}
    (hX : ∀ (w w' : World) (args : Array Value), w.heap = w'.heap → X w args → X w' args)
    (own : ownKnob C.prog.godebug = none) (started : os.Started) (noInit : C.prog.inits.idxOf? K = none) (hfn : C.prog.funcs[K]? = some fn)
    (witness : ∃ (w : World) (tape : Tape) (i : Input), w.os = os ∧ (w.forCall tape i).Shaped C.prog ∧ i.vars = [] ∧ Input.okWide C.prog (w.forCall tape i) .any w.heap.size K i ∧
      ((s.pre enc C.prog fn [] false (w.forCall tape i).memory i.args ∧ X (w.forCall tape i).memory i.args) ∧ sizedMet enc C.prog fn (OpenSpec.ofChange s) false (w.forCall tape i).memory i.args) ∧ ({} : Assume).holds C.prog (lone (Frame.enter C.prog K i.args .normal) [] (w.forCall tape i)))
    (hvars : s.vars = []) (hl : laidOutB C.prog = true) (hrows : fn.params.toList.all (fun t => C.prog.readableRec t && decide (t < C.prog.types.size)) = true)
    (hres : fn.resultTypes = #[tb]) (htb : C.prog.underlying tb = some .bool)
    (hs : ∀ ds : List (DataW H), ds.length = fn.params.toList.length → s.fn H ds = { results := [.lit (.bool true)], args := ds })
    (walk : ∀ (W : World) (args : Array Value), Args C.prog W fn.params.toList args.toList →
      Calls C.prog K args W fun e W' => e = .returned (.bool true) ∧ Below W.heap.size W W') :
    ReturnsInHanded {} C os K .any (fun w args => (s.pre enc C.prog fn [] false w args ∧ X w args) ∧ sizedMet enc C.prog fn (OpenSpec.ofChange s) false w args) (s.post enc C.prog fn false true false false) := by
  refine returnsInHanded_of_change_and hX own started noInit hfn witness ?_
  intro W base args ds gs before hval hW _ hsz _ _
  have hW' := hW
  obtain ⟨p, q, hA, hV, rfl, hfz, hnd⟩ := hW
  rw [hvars] at hV
  obtain ⟨rfl, rfl⟩ := trodVars_none hV
  have hlen := trodAll_lens hA
  have hvt : s.plain.varTypes C.prog = [] := by simp [DataSpec.varTypes, ChangeSpec.plain, hvars]
  rw [hvt, List.append_nil, List.append_nil] at hsz
  have hargs := args_of (fun j t v ht hv => hval j t v (by simpa using ht) (by simpa using hv)) hA (fun n hn => by simpa using List.all_eq_true.1 hsz n hn)
  refine (walk W args hargs).mono fun e W' ⟨he, bel⟩ => ?_
  subst he
  refine ⟨_, rfl, ds, [], p ++ [], [], p, [], hW', ?_, ?_, ?_, bel.frame _, fun h => by cases h⟩
  · rw [List.append_nil, hs ds hlen, hres]
    exact trodAll_mk1 (shut_bool htb _)
  · rw [List.append_nil, hs ds hlen]
    exact trodAll_below hl bel hrows hA fun x hx => hW'.lt x (by simp [hx])
  · rw [List.append_nil, hs ds hlen, hvars]
    exact rfl
theorem Rdd.str {P : Program} {w : World} {t : TypeId} {cs : List Value} (ht : P.underlying t = some .string) (h : Rdd P w t cs) : ∃ s : ByteArray, cs = [.string s] ∧ s.size ≤ 9223372036854775807 := by
  obtain ⟨H, enc, spare, held, fuel, d, ps, h, _⟩ := h
  obtain ⟨s, h1, _, h2⟩ := DataW.trod_string ht h
  exact ⟨s, h1, by unfold maxLen at h2; exact h2⟩
end Go.Ev
namespace Go.Proofs.YtgkfbagclkjilaaGreatDoor.Ft
open Go Go.Ev Go.Proofs Go.Proofs.YtgkfbagclkjilaaGreatDoor
open Go.Proofs.YtgkfbagclkjilaaGreatDoor.Fr (fTo fOn fPlain fForked fJoined fClosed fChild fRoot fR isB fTo_len fOn_len fPlain_len fForked_len fJoined_len fClosed_len)
open Go.Proofs.YtgkfbagclkjilaaGreatDoor.Ck (opI Walk Accs needsOf isGoes heldL depths stepD handlesOk subBits scopesOk forks)
def rbI (r : Rb) : Prop := InI r.par ∧ InI r.inn ∧ InI r.fn ∧ InI r.kind ∧ InI r.v ∧ InI r.steps
theorem Rdd.row {w : World} {cs : List Value} (h : Rdd Tryz.prog w 40 cs) : ∃ r : Rb, cs = rbV r ∧ rbI r := by
  obtain ⟨hl, hall⟩ := Rdd.struct Tryz.underlying40 h
  have c3 : Tryz.prog.cellsOf 3 = 1 := by kernel_rfl
  have c2 : Tryz.prog.cellsOf 2 = 1 := by kernel_rfl
  have c9 : Tryz.prog.cellsOf 9 = 1 := by kernel_rfl
  have hlen : cs.length = 7 := by rw [hl]; kernel_rfl
  obtain ⟨n0, h0, i0⟩ := (show Rdd Tryz.prog w 3 ((cs.drop 0).take (Tryz.prog.cellsOf 3)) from hall 0 _ rfl).int Tryz.underlying3
  obtain ⟨n1, h1, i1⟩ := (show Rdd Tryz.prog w 3 ((cs.drop 1).take (Tryz.prog.cellsOf 3)) from hall 1 _ rfl).int Tryz.underlying3
  obtain ⟨n2, h2, i2⟩ := (show Rdd Tryz.prog w 3 ((cs.drop 2).take (Tryz.prog.cellsOf 3)) from hall 2 _ rfl).int Tryz.underlying3
  obtain ⟨n3, h3, i3⟩ := (show Rdd Tryz.prog w 3 ((cs.drop 3).take (Tryz.prog.cellsOf 3)) from hall 3 _ rfl).int Tryz.underlying3
  obtain ⟨n4, h4, i4⟩ := (show Rdd Tryz.prog w 2 ((cs.drop 4).take (Tryz.prog.cellsOf 2)) from hall 4 _ rfl).int Tryz.underlying2
  obtain ⟨n5, h5, i5⟩ := (show Rdd Tryz.prog w 3 ((cs.drop 5).take (Tryz.prog.cellsOf 3)) from hall 5 _ rfl).int Tryz.underlying3
  obtain ⟨n6, h6, i6⟩ := Rdd.str Tryz.underlying9 (show Rdd Tryz.prog w 9 ((cs.drop 6).take (Tryz.prog.cellsOf 9)) from hall 6 _ rfl)
  rw [c3] at h0 h1 h2 h3 h5
  rw [c2] at h4
  rw [c9] at h6
  match cs, hlen with
  | [a, b, c, d, e, f, g], _ =>
    simp at h0 h1 h2 h3 h4 h5 h6
    exact ⟨⟨n0, n1, n2, n3, n4, n5, n6⟩, by simp [rbV, h0, h1, h2, h3, h4, h5, h6], i0, i1, i2, i3, i4, i5⟩
theorem Arg.rows {w : World} {v : Value} (h : Arg Tryz.prog w 25 v) : ∃ (s : Sl) (l : List Rb), v = .slice s.a s.n s.c ∧ Tbl w s l ∧ ∀ r ∈ l, rbI r := by
  obtain ⟨s, rfl, hr⟩ := h.slice Tryz.underlying25
  obtain ⟨s', es, h1, h2, h3, h4, h5, hall⟩ := hr.slice Tryz.underlying25
  have : s = s' := by
    obtain ⟨a, n, c⟩ := s; obtain ⟨a', n', c'⟩ := s'
    simpa using h1
  subst this
  obtain ⟨l, rfl, hl⟩ := exists_map (f := rbV) (G := rbI) (es := es) fun e' he' => Rdd.row (hall e' he')
  have c7 : Tryz.prog.cellsOf 40 = 7 := by kernel_rfl
  have b64 : Tryz.prog.bytesOf 40 = 64 := by kernel_rfl
  rw [c7] at h2
  rw [b64] at h3
  exact ⟨s, l, rfl, ⟨h2, by unfold reachBytes at h3; simp at h3; omega⟩, hl⟩
structure Few7 (l : List Rb) : Prop where
  n : l.length ≤ 60
  cl : ∀ r ∈ l, r.cl.size ≤ 100
theorem few7_s {w : World} {s : Sl} {l : List Rb} {k : Bool → World → Prop} (hT : Tbl w s l) (hk : ∀ b, (b = true → Few7 l) → k b w) : pelotonlaw07_Few s w k := by
  have hn := hT.len
  unfold pelotonlaw07_Few
  refine loopP_of (fun (i : Int) w' => ∃ j : Nat, i = (j : Int) ∧ j ≤ l.length ∧ j ≤ 61 ∧ (∀ m : Nat, m < j → (rowAt l m).cl.size ≤ 100) ∧ w' = w) (fun i _ => (61 - i).toNat) ⟨0, rfl, by omega, by omega, fun m hm => by omega, rfl⟩ ?_
  rintro _ w' ⟨j, rfl, hj, hj61, hd, rfl⟩ C hC
  rw [hn]
  refine iteB_i (fun hb => ?_) fun hb => ?_
  · simp only [Bool.and_eq_true, decide_eq_true_eq] at hb
    refine ixR_h (e := rbV (rowAt l j)) hT.rws (St.nil w') (by omega) (by rw [rowAt_map (by omega)]) fun p hp => ?_
    refine (fun (hc : w'.cell? (p.add 6) = some (.string (rowAt l j).cl)) => ?_) (hp (St.nil w') rfl)
    have e : ∀ {c : ByteArray → Prop}, c (rowAt l j).cl → ldStr w' (p.add 6) c := fun h => by simp [ldStr, rd, hc, toStr, h]
    refine e ?_
    refine iteB_i (fun hb2 => hk _ fun q => by cases q) fun hb2 => ?_
    have hle : (rowAt l j).cl.size ≤ 100 := by have := of_decide_eq_false hb2; omega
    have hw1 : IntKind.wrap .i64 ((j : Int) + 1) = ((j + 1 : Nat) : Int) := by rw [wrap_id ⟨by omega, by omega⟩]; simp
    rw [hw1]
    refine hC _ _ ⟨j + 1, rfl, by omega, by omega, fun m hm => ?_, rfl⟩ (by omega)
    by_cases e : m = j
    · rw [e]; exact hle
    · exact hd m (by omega)
  · refine hk _ fun q => ?_
    have hle : l.length ≤ 60 := by have := of_decide_eq_true q; omega
    refine ⟨hle, fun r hr => ?_⟩
    have hjl : j = l.length := by
      have : ¬ ((j : Int) < l.length ∧ (j : Int) < 61) := by simpa using hb
      omega
    obtain ⟨m, hm, rfl⟩ := List.getElem_of_mem hr
    have := hd m (by omega)
    unfold rowAt at this
    rw [Int.toNat_natCast, List.getD_eq_getElem?_getD, List.getElem?_eq_getElem hm] at this
    exact this
structure Shrt (P : List FnR) (l : List Rb) : Prop where
  p : Ck.Few P
  t : Few7 l
  steps : ∀ i : Int, (rowAt l i).steps ≤ 3000
theorem short_s {w : World} {ps s : Sl} {P : List FnR} {l : List Rb} {k : Bool → World → Prop} (hF : Funcs5 w ps P) (hT : Tbl w s l) (hk : ∀ b w', St w w' [] → (b = true → Shrt P l) → k b w') : pelotonlaw08_Short #[.slice ps.a ps.n ps.c] s w k := by
  have hn := hT.len; have hf := hT.few
  unfold pelotonlaw08_Short pelotonlaw08_Short_b
  refine newC_h (.nil w) fun g1 w2 h => ?_
  refine joinP_i (fun z w' => (z = false → Ck.Few P ∧ Few7 l) ∧ St w w' []) (fun J hJ => ?_) ?_
  · refine ldW_h (n := 1) (g := g1) h rfl ?_
    refine Ck.few_s (hF.ext h.ext) fun b w5 h2 hb => ?_
    have h := ext_of h h2.ext
    refine iteB_i (fun hb1 => hJ _ _ ⟨(fun q => by cases q), h.all⟩) fun hb1 => ?_
    refine few7_s (hT.ext h.ext) fun b7 hb7 => ?_
    exact hJ _ _ ⟨fun q => ⟨hb (by simpa using hb1), hb7 (by simpa using q)⟩, h.all⟩
  rintro z w10 ⟨hz, h⟩
  refine iteB_i (fun hb => hk _ _ h fun q => by cases q) fun hb => ?_
  obtain ⟨hP, h7⟩ := hz hb
  refine loopP_of (fun (i : Int) w' => ∃ j : Nat, i = (j : Int) ∧ j ≤ l.length ∧ (∀ m : Nat, m < j → (rowAt l m).steps ≤ 3000) ∧ w' = w10) (fun i _ => (l.length - i).toNat) ⟨0, rfl, by omega, fun m hm => by omega, rfl⟩ ?_
  rintro _ w13 ⟨j, rfl, hj, hd, rfl⟩ C hC
  rw [hn]
  refine iteB_i (fun hb => ?_) fun hb => ?_
  · have hlt : j < l.length := by have := of_decide_eq_true hb; omega
    refine tI_h (j := 5) hT h (by omega) (by omega) rfl ?_
    refine iteB_i (fun hb2 => hk _ _ h fun q => by cases q) fun hb2 => ?_
    have hw1 : IntKind.wrap .i64 ((j : Int) + 1) = ((j + 1 : Nat) : Int) := by rw [wrap_id ⟨by omega, by omega⟩]; simp
    rw [hw1]
    refine hC _ _ ⟨j + 1, rfl, by omega, fun m hm => ?_, rfl⟩ (by omega)
    by_cases e : m = j
    · rw [e]; have := of_decide_eq_false hb2; omega
    · exact hd m (by omega)
  · refine hk _ _ h fun _ => ⟨hP, h7, fun i => ?_⟩
    have hjl : l.length ≤ j := by have := of_decide_eq_false hb; omega
    by_cases e : i.toNat < l.length
    · have := hd i.toNat (by omega)
      unfold rowAt at this ⊢
      rwa [Int.toNat_natCast] at this
    · unfold rowAt
      rw [List.getD_eq_getElem?_getD, List.getElem?_eq_none (by omega)]; decide
theorem Shrt.cl {P : List FnR} {l : List Rb} (h : Shrt P l) : ∀ r ∈ l, r.cl.size < 4611686018427387904 := fun r hr => by have := h.t.cl r hr; omega
theorem Shrt.len {P : List FnR} {l : List Rb} (h : Shrt P l) : l.length ≤ 1000000 := by have := h.t.n; omega
theorem fits_of {P : List FnR} {l : List Rb} {q : Bool} (hA : Accs P) (ht : tcheck l = 0) : fitsF P l q = fgo P l q l.length 0 bk0 := by
  unfold fitsF
  rw [if_neg (by rw [Ck.accs_iff.2 hA]; simp), if_neg (by rw [ht]; simp)]
def oneR (kind : Int) : List Rb := [⟨-1, 0, 0, kind, 0, 0, ByteArray.mk #[]⟩]
theorem ask_world (sc : Int × Int → Option ((Int × Int) × Bool)) : askB sc (-1, 0) = false := Ask.world.b
theorem fits_one4 {P : List FnR} (hA : Accs P) : fitsF P (oneR 4) false = (0, 0) := (fits_of hA (by kernel_rfl)).trans (by kernel_rfl)
theorem fends4 {P : List FnR} {x : Rb} {r : Rn} {b : Bk} (hk : x.kind = 4) : fends P true x r b (-1, 0) = false := by
  unfold fends
  rw [ask_world, if_neg (by omega), if_pos hk, Bool.not_false, Bool.and_true, Bool.or_true, if_pos rfl]
theorem fits_one4q {P : List FnR} (hA : Accs P) : fitsF P (oneR 4) true = (0, 25) := by
  rw [fits_of hA (by kernel_rfl)]
  show fgo P (oneR 4) true 1 0 bk0 = _
  rw [fgo_succ]
  have : frow P (oneR 4) true 0 bk0 = none := by
    unfold frow
    have e : (bk0.at 0).2 = (-1, 0) := rfl
    rw [if_neg (by decide), if_neg (by decide), e]
    have e0 : (rowAt (oneR 4) 0).steps.toNat = 0 := rfl
    rw [e0]
    unfold frun
    dsimp only
    rw [if_neg]
    intro h
    rw [fends4 rfl] at h
    exact absurd h.2.2 (by decide)
  rw [this]
end Go.Proofs.YtgkfbagclkjilaaGreatDoor.Ft
namespace Go.Proofs.YtgkfbagclkjilaaGreatDoor.Ft
open Go Go.Ev Go.Proofs Go.Proofs.YtgkfbagclkjilaaGreatDoor
open Go.Proofs.YtgkfbagclkjilaaGreatDoor.Fr (fTo fOn fPlain fForked fJoined fClosed fChild fRoot fR isB fTo_len fOn_len fPlain_len fForked_len fJoined_len fClosed_len)
open Go.Proofs.YtgkfbagclkjilaaGreatDoor.Ck (opI Walk Accs needsOf isGoes heldL depths stepD handlesOk subBits scopesOk forks)
theorem blk_slsN {w : World} {g sz : Nat} {l : List Value} {n : Nat} (hb : Blk w g l.toArray) (hn : l.length = n * sz) (c : Nat) : Sls sz w ⟨some ⟨g, 0, none⟩, n, c⟩ l :=
  ⟨hn, fun i v hv => ⟨_, rfl, by rw [add_mk, hb.cell]; simpa using hv⟩⟩
def aG : List (List Int) := [[16, 0, 0, 0, 0]]
def aP : List (List Int) := [[8, 1, 0, 0, 1], [9, 0, 1, 0, 0], [16, 0, 0, 0, 0]]
def accB (P : List FnR) (f : FnR) (H : List Int) : Bool := decide (0 ≤ f.needs ∧ f.needs ≤ 255 ∧ 1 ≤ f.code.length ∧ f.code.length ≤ 128) && (f.code.all fun x => Ck.chk x == 0) && ((List.range f.code.length).all fun i => Ck.wrongF P f.code.length (depths 0 f.code) H i (f.code.getD i []) == 0)
theorem acc_of {P : List FnR} {f : FnR} {H : List Int} (hH : heldL f.code f.needs = H) (h : accB P f H = true) : Ck.Acc P f := by
  unfold accB at h
  rw [Bool.and_eq_true, Bool.and_eq_true, decide_eq_true_eq, List.all_eq_true, List.all_eq_true] at h
  obtain ⟨⟨⟨a, b, c, d⟩, h2⟩, h3⟩ := h
  refine ⟨a, b, c, d, fun x hx => by simpa using h2 x hx, fun i x hx => ?_⟩
  have hi := (List.getElem?_eq_some_iff.1 hx).1
  have := h3 i (by simpa using hi)
  rw [hH]
  rw [List.getD_eq_getElem?_getD, hx] at this
  simpa using this
theorem heldG : heldL aG 0 = [0] := (Ck.heldL_eval (l := aG) (needs := 0) 1 (by decide) (by decide) (by kernel_rfl)).trans (by kernel_rfl)
theorem heldP : heldL aP 0 = [0, 2, 2] := (Ck.heldL_eval (l := aP) (needs := 0) 3 (by decide) (by decide) (by kernel_rfl)).trans (by kernel_rfl)
theorem accs_a {s1 s2 : Sl} : Accs [⟨0, s1, aP⟩, ⟨0, s2, aG⟩] := ⟨by simp, by simp, rfl, fun f hf => by
  simp at hf
  rcases hf with rfl | rfl
  · exact acc_of heldP (by kernel_rfl)
  · exact acc_of heldG (by kernel_rfl)⟩
def twoR : List Rb := [⟨-1, 0, 0, 1, 0, 1, ByteArray.mk #[]⟩, ⟨0, 0, 1, 0, 0, 0, ByteArray.mk #[]⟩]
theorem fits_two {s1 s2 : Sl} : fitsF [⟨0, s1, aP⟩, ⟨0, s2, aG⟩] twoR true = (0, 0) := (fits_of accs_a (by kernel_rfl)).trans (by kernel_rfl)
theorem two_funcs {w : World} {ga gb gf : Nat} {c1 c2 c3 : Nat} {l1 l2 : List (List Int)} (hb1 : Blk w ga (agI l1.flatten)) (hb2 : Blk w gb (agI l2.flatten)) (h1 : ∀ x ∈ l1, x.length = 5 ∧ ∀ y ∈ x, InI y) (h2 : ∀ x ∈ l2, x.length = 5 ∧ ∀ y ∈ x, InI y) (hl1 : l1.length ≤ 100) (hl2 : l2.length ≤ 100)
    (hb : Blk w gf #[.int .i64 0, .slice (some ⟨ga, 0, none⟩) l1.length c1, .int .i64 0, .slice (some ⟨gb, 0, none⟩) l2.length c2]) : Funcs5 w ⟨some ⟨gf, 0, none⟩, 2, c3⟩ [⟨0, ⟨some ⟨ga, 0, none⟩, l1.length, c1⟩, l1⟩, ⟨0, ⟨some ⟨gb, 0, none⟩, l2.length, c2⟩, l2⟩] := by
  have code : ∀ {g c : Nat} {l : List (List Int)}, Blk w g (agI l.flatten) → (∀ x ∈ l, x.length = 5 ∧ ∀ y ∈ x, InI y) → l.length ≤ 100 → Code5 w ⟨some ⟨g, 0, none⟩, l.length, c⟩ l := by
    intro g c l hb h5 hl
    refine Ck.code_blk hb h5 (fun i hi j hj => ?_) (by simp [reachBytes]; omega)
    rw [Nat.zero_add, Ck.flat_get (fun e he => (h5 e he).1) (e := l.getD i []) (by simp [hi]) hj]
  refine ⟨Ck.sls_rws (blk_slsN (n := 2) hb rfl _) (by decide) (by intro e he; simp [FnR.cells] at he; rcases he with rfl | rfl <;> rfl), fun x hx => ?_, by simp [reachBytes]⟩
  simp at hx
  rcases hx with rfl | rfl
  · exact ⟨(by decide : InI 0), code hb1 h1 hl1⟩
  · exact ⟨(by decide : InI 0), code hb2 h2 hl2⟩
theorem five_in : ∀ l ∈ [aG, aP], ∀ x ∈ l, x.length = 5 ∧ ∀ y ∈ x, InI y := by decide
theorem tbl_blk {w : World} {g n c : Nat} {l : List Rb} (hb : Blk w g (l.map rbV).flatten.toArray) (hn : l.length = n) (hl : n < 1000) : Tbl w ⟨some ⟨g, 0, none⟩, n, c⟩ l :=
  ⟨Ck.sls_rws (blk_slsN (n := n) hb (by rw [Ck.flat_len (sz := 7) (fun e he => by obtain ⟨r, _, rfl⟩ := List.mem_map.1 he; rfl), List.length_map, hn]) _) (by decide) (fun e he => by obtain ⟨r, _, rfl⟩ := List.mem_map.1 he; rfl), by omega⟩
theorem one_cl {kind : Int} : ∀ r ∈ oneR kind, r.cl.size < 4611686018427387904 := by intro r hr; simp [oneR] at hr; subst hr; exact (by decide : (ByteArray.mk #[]).size < 4611686018427387904)
theorem two_cl : ∀ r ∈ twoR, r.cl.size < 4611686018427387904 := by intro r hr; simp [twoR] at hr; rcases hr with rfl | rfl <;> decide
theorem awake_s {w : World} {k : Bool → World → Prop} (hk : ∀ w', St w w' [] → k true w') : pelotonlaw08_awake w k := by
  unfold pelotonlaw08_awake pelotonlaw08_awake_b
  refine spl_i (agI (aP.flatten.take 5 ++ Fr.Z 10)) rfl (by kernel_rfl) (spl_i (agI (aP.flatten.take 10 ++ Fr.Z 5)) rfl (by kernel_rfl) (spl_i (agI aP.flatten) rfl (by kernel_rfl) ?_))
  refine newC_h (.nil w) fun g4 w5 h => ?_
  refine spl_i (agI aG.flatten) rfl (by kernel_rfl) ?_
  refine newC_h h fun g7 w8 h => ?_
  refine spl_i #[.int .i64 0, .slice (some ⟨g4, 0, none⟩) 3 3, .int .i64 0, .slice none 0 0] rfl (by kernel_rfl) (spl_i #[.int .i64 0, .slice (some ⟨g4, 0, none⟩) 3 3, .int .i64 0, .slice (some ⟨g7, 0, none⟩) 1 1] rfl (by kernel_rfl) ?_)
  refine newC_h h fun g11 w12 h => newC_h h fun g13 w14 h => ?_
  refine stW_h (g := g13) h rfl rfl (by intro v hv; simp at hv; subst hv; rfl) fun w15 h => ?_
  refine spl_i ((oneR 4).map rbV).flatten.toArray rfl (by kernel_rfl) ?_
  refine newC_h h fun g17 w18 h => ?_
  have f5 := five_in
  have hF : ∀ {w'}, Ext w18 w' → Funcs5 w' ⟨some ⟨g11, 0, none⟩, 2, 2⟩ [⟨0, ⟨some ⟨g4, 0, none⟩, 3, 3⟩, aP⟩, ⟨0, ⟨some ⟨g7, 0, none⟩, 1, 1⟩, aG⟩] := fun he =>
    (two_funcs (c1 := 3) (c2 := 1) (c3 := 2) (l1 := aP) (l2 := aG) (h.blk (g := g4)) (h.blk (g := g7)) (f5 aP (by simp)) (f5 aG (by simp)) (by decide) (by decide) (h.blk (g := g11))).ext he
  have hT : ∀ {w'}, Ext w18 w' → Tbl w' ⟨some ⟨g17, 0, none⟩, 1, 1⟩ (oneR 4) := fun he => (tbl_blk (c := 1) (h.blk (g := g17)) rfl (by decide)).ext he
  have hN : ∀ g ∈ ([⟨0, ⟨some ⟨g4, 0, none⟩, 3, 3⟩, aP⟩, ⟨0, ⟨some ⟨g7, 0, none⟩, 1, 1⟩, aG⟩] : List FnR), InI g.needs := by
    intro g hg; simp at hg; rcases hg with rfl | rfl <;> exact (by decide : InI 0)
  refine ldW_h (g := g13) h rfl ?_
  refine Fits_s (ps := ⟨some ⟨g11, 0, none⟩, 2, 2⟩) (ls := ⟨some ⟨g17, 0, none⟩, 1, 1⟩) (l := oneR 4) (hF (Only.refl _ _)) (hT (Only.refl _ _)) hN (by decide) one_cl fun w21 he1 => ?_
  rw [fits_one4 accs_a]
  have h1 := ext_of h he1
  refine ldW_h (g := g13) h1 rfl ?_
  refine Quiet_s (ps := ⟨some ⟨g11, 0, none⟩, 2, 2⟩) (ls := ⟨some ⟨g17, 0, none⟩, 1, 1⟩) (l := oneR 4) (hF he1) (hT he1) hN (by decide) one_cl fun w24 he2 => ?_
  rw [fits_one4q accs_a]
  have h2 := ext_of h1 he2
  refine ldW_h (g := g13) h2 rfl ?_
  refine spl_i ((twoR.take 1).map rbV ++ [rbV rb0]).flatten.toArray rfl (by kernel_rfl) (spl_i (twoR.map rbV).flatten.toArray rfl (by kernel_rfl) ?_)
  refine newC_h h2 fun g28 w29 h3 => ?_
  refine Quiet_s (ps := ⟨some ⟨g11, 0, none⟩, 2, 2⟩) (ls := ⟨some ⟨g28, 0, none⟩, 2, 2⟩) (l := twoR) (two_funcs (c1 := 3) (c2 := 1) (c3 := 2) (l1 := aP) (l2 := aG) (h3.blk (g := g4)) (h3.blk (g := g7)) (f5 aP (by simp)) (f5 aG (by simp)) (by decide) (by decide) (h3.blk (g := g11))) (tbl_blk (c := 2) (h3.blk (g := g28)) rfl (by decide)) hN (by decide) two_cl fun w31 he4 => ?_
  rw [fits_two]
  exact hk _ (ext_of h3 he4).all
end Go.Proofs.YtgkfbagclkjilaaGreatDoor.Ft
namespace Go.Proofs.YtgkfbagclkjilaaGreatDoor.Ft
open Go Go.Ev Go.Proofs Go.Proofs.YtgkfbagclkjilaaGreatDoor
open Go.Proofs.YtgkfbagclkjilaaGreatDoor.Fr (fTo fOn fPlain fForked fJoined fClosed fChild fRoot fR isB fTo_len fOn_len fPlain_len fForked_len fJoined_len fClosed_len)
open Go.Proofs.YtgkfbagclkjilaaGreatDoor.Ck (opI Walk Accs needsOf isGoes heldL depths stepD handlesOk subBits scopesOk forks)
section
variable {P : List FnR} {l : List Rb} {row i : Int} {r r' : Rn} {b b' : Bk}
theorem fgo_ends {q : Bool} : ∀ {n : Nat} {i : Int} {b : Bk}, fgo P l q n i b = (0, 0) ∨ ∃ j, i ≤ j ∧ j < i + n ∧ fgo P l q n i b = (j, 25)
  | 0, i, b => .inl rfl
  | n + 1, i, b => by
    rw [fgo_succ]
    cases frow P l q i b with
    | none => exact .inr ⟨i, by omega, by omega, rfl⟩
    | some b' =>
      rcases fgo_ends (q := q) (n := n) (i := i + 1) (b := b') with h | ⟨j, h1, h2, h3⟩
      · exact .inl h
      · exact .inr ⟨j, by omega, by omega, h3⟩
end
end Go.Proofs.YtgkfbagclkjilaaGreatDoor.Ft
namespace Go.Proofs.YtgkfbagclkjilaaGreatDoor.Ft
open Go Go.Ev Go.Proofs Go.Proofs.YtgkfbagclkjilaaGreatDoor
open Go.Proofs.YtgkfbagclkjilaaGreatDoor.Fr (fTo fOn fPlain fForked fJoined fClosed fChild fRoot fR isB fTo_len fOn_len fPlain_len fForked_len fJoined_len fClosed_len)
open Go.Proofs.YtgkfbagclkjilaaGreatDoor.Ck (opI Walk Accs needsOf isGoes heldL depths stepD handlesOk subBits scopesOk forks)
section
variable {P : List FnR} {l m : List Rb} {t row i : Int} {r r' : Rn} {b b' c c' : Bk} {q : Bool} {inn : Int × Int} {n : Nat} {ks : List Int}
structure Tw (l m : List Rb) (t : Int) : Prop where
  len : m.length = l.length
  par : ∀ i, (rowAt m i).par = (rowAt l i).par
  kind : ∀ i, (rowAt m i).kind = (rowAt l i).kind
  same : ∀ i, 0 ≤ i → i ≠ t → rowAt m i = rowAt l i
theorem Tw.kids (h : Tw l m t) : kidsL m i = kidsL l i := by
  unfold kidsL
  rw [h.len]
  congr 1
  refine List.filter_congr fun k _ => ?_
  rw [h.par]
theorem frow_at (h : frow P l q i b = some b') : (rowAt l i).fn = (b.at i).1.getD 0 0 ∧ (rowAt l i).inn = (b.at i).2.2 := by
  unfold frow at h
  split at h
  · cases h
  · rename_i hn
    exact ⟨Classical.byContradiction fun q => hn (.inl q), Classical.byContradiction fun q => hn (.inr q)⟩
theorem frun_over (hk : r.kind ≠ 0) : frun P l q row (n + 1) r b = none := by
  rw [frun_succ]
  unfold fstp
  rw [if_pos hk]
theorem fact_nok {x : List Int} (hs : fact P l q row x r b = some (r', b')) (hk : t ∉ r.kids) : b'.beg t = b.beg t ∧ t ∉ r'.kids := by
  unfold fact at hs
  split at hs
  · split at hs
    · cases hs
    · rename_i k kr he
      cases hs
      rw [he] at hk
      refine ⟨?_, fun q => hk (List.mem_cons_of_mem _ q)⟩
      show upd b.beg k _ t = _
      unfold upd
      rw [if_neg (fun e => hk (by rw [e]; simp))]
  split at hs
  · split at hs
    · cases hs
    split at hs
    · cases hs; exact ⟨rfl, hk⟩
    · cases hs; exact ⟨rfl, hk⟩
  split at hs
  · cases hs; exact ⟨rfl, hk⟩
  split at hs
  · split at hs
    · cases hs
    split at hs
    · cases hs
    · cases hs; exact ⟨rfl, hk⟩
  split at hs
  · cases hs; exact ⟨rfl, hk⟩
  split at hs
  · cases hs; exact ⟨rfl, hk⟩
  · cases hs; exact ⟨rfl, hk⟩
theorem fstp_nok (hs : fstp P l q row r b = some (r', b')) (hk : t ∉ r.kids) : b'.beg t = b.beg t ∧ t ∉ r'.kids := by
  unfold fstp at hs
  split at hs
  · cases hs
  split at hs
  · cases hs; exact ⟨rfl, hk⟩
  · exact fact_nok hs hk
theorem frun_nok : ∀ {n : Nat} {r r' : Rn} {b b' : Bk}, frun P l q row n r b = some (r', b') → t ∉ r.kids → b'.beg t = b.beg t
  | 0, r, r', b, b', h, hk => by cases h; rfl
  | n + 1, r, r', b, b', h, hk => by
    rw [frun_succ] at h
    split at h
    · cases h
    · rename_i r1 b1 hst
      obtain ⟨h1, h2⟩ := fstp_nok hst hk
      rw [frun_nok h h2, h1]
theorem ri_start {Q : Int → Prop} {x : List Int × (Int × Int)} (hb : BI P Q b) (hi : 0 ≤ i) (hx : b.beg i = some x) (K : List Int) (hK : ∀ k ∈ K, Q k) :
    RI P Q i x.2 0 { rn0 l i x with kids := K } { b with sc := upd b.sc (i, 0) (x.2, false) } [0] ∧ BI P Q { b with sc := upd b.sc (i, 0) (x.2, false) } := by
  obtain ⟨hF, hin, hlt⟩ := hb.beg i x hx
  refine ⟨⟨hF.b, fun _ => hF, ⟨rfl, false, ?_⟩, rfl, ⟨Int.le_refl _, Int.le_refl _⟩, hK⟩, bi_sc hb (hb.sc.upd_of ⟨hi, Int.le_refl _⟩ ?_)⟩
  · show upd _ _ _ _ = _
    unfold upd; rw [if_pos rfl]
  · exact hin.imp id fun q => ⟨q, .inl hlt⟩
theorem frow_nok (h : frow P l q i b = some b') (hk : t ∉ kidsL l i) : b'.beg t = b.beg t := by
  unfold frow at h
  split at h
  · cases h
  split at h
  · cases h; rfl
  split at h
  · cases h
  · rename_i r1 c1 hr
    split at h
    · cases h; exact frun_nok (t := t) (r := rn0 l i (b.at i)) (b := { b with sc := upd b.sc (i, 0) ((b.at i).2, false) }) hr hk
    · cases h
end
end Go.Proofs.YtgkfbagclkjilaaGreatDoor.Ft
namespace Go.Proofs.YtgkfbagclkjilaaGreatDoor
open Go Go.Ev
abbrev ltFs0 : Array Value := #[(.int .i64 (0 : Int)), (.int .i64 (0 : Int)), (.int .i64 (0 : Int)), (.int .i64 (0 : Int)), (.int .i64 (0 : Int)), (.int .i64 (0 : Int)), (.int .i64 (0 : Int)), (.int .i64 (0 : Int)), (.int .i64 (0 : Int)), (.int .i64 (0 : Int)), (.int .i64 (0 : Int)), (.int .i64 (0 : Int)), (.int .i64 (0 : Int)), (.int .i64 (0 : Int)), (.int .i64 (0 : Int)), (.int .i64 (0 : Int)), (.int .i64 (0 : Int)), (.int .i64 (0 : Int)), (.int .i64 (0 : Int))]
def serial_deep_b  (s_0 : Option Addr) (w : World) (q : Value → World → Prop) (k : Unit → World → Prop) : Prop :=
 nn s_0 fun a1 =>
 ldI .i64 w (Addr.add a1 3) fun i2 =>
 iteB (decide (i2 ≥ (32 : Int))) (
 (q (.iface 62 (.int .i64 (23 : Int))) w)) (
 (k () w))
theorem e_serial_deep  (x : KT [.p]) (w : World) (k : KT [] → World → Prop) (q : Value → World → Prop) : evFn Go.Proofs.Tryz.prog (orcP [] q) 64 [] Go.Proofs.Tryz.f50 [] (valL [.p] x) w k = serial_deep_b  x w q k := by kernel_rfl
theorem s_serial_deep_b   : SoundP Go.Proofs.Tryz.prog n_serial_deep fun args w c q => unL [.p] args fun x => serial_deep_b  x w q fun r w => c (packV (valL [] r)) w :=
 sound_p (mask := 64) (h := []) (ds := []) mixed Go.Proofs.Tryz.func50 trivial
 [.p] [] (by kernel_rfl) (fun x w k q => serial_deep_b  x w q k) (fun x w k q => e_serial_deep  x w k q)
def serial_deep (s_0 : Option Addr) (w : World) (q : Value → World → Prop) (k : Unit → World → Prop) : Prop := serial_deep_b  s_0 w q k
def d_serial_deep : DecP := fun args w c q => unL [.p] args fun x => serial_deep x w q fun r w => c (packV (valL [] r)) w
theorem s_serial_deep : SoundP Go.Proofs.Tryz.prog n_serial_deep d_serial_deep := s_serial_deep_b  
def serial_scope_within (s_0 : Option Addr) (k_1 : Int) (w : World) (k : (Option Addr) → World → Prop) : Prop :=
 nn s_0 fun a1 =>
 ldI .i64 w (Addr.add a1 3) fun i2 =>
 newC w #[(.pointer s_0), (.bool false), (.int .i64 k_1), (.int .i64 (IntKind.wrap .i64 (i2 + (1 : Int))))] 75 fun a3 w4 =>
 (k (some a3) w4)
def d_serial_scope_within : Dec := fun args w c => unL [.p, (.i .i64)] args fun x => serial_scope_within x.1 x.2 w fun r w => c (packV (valL [.p] r)) w
theorem s_serial_scope_within : Sound Go.Proofs.Tryz.prog n_serial_scope_within d_serial_scope_within :=
 sound_of (mask := 19) (h := []) (ds := []) mixed Go.Proofs.Tryz.func27 trivial
 [.p, (.i .i64)] [.p] (by kernel_rfl) (fun x w k => serial_scope_within x.1 x.2 w k) (fun x w k => by kernel_rfl)
def serial_scope_cancelled (s_0 : Option Addr) (w : World) (k : (Bool) → World → Prop) : Prop :=
 loopP (S := (Option Addr)) (fun C1 p2 w3 =>
 iteB (!(Option.isNone p2)) (
 nn p2 fun a4 =>
 ldB w3 (Addr.add a4 1) fun b5 =>
 iteB b5 (
 (k true w3)) (
 nn p2 fun a6 =>
 ldP w3 (Addr.add a6 0) fun p7 =>
 (C1 p7 w3))) (
 (k false w3))) s_0 w
def d_serial_scope_cancelled : Dec := fun args w c => unL [.p] args fun x => serial_scope_cancelled x w fun r w => c (packV (valL [.b] r)) w
theorem s_serial_scope_cancelled : Sound Go.Proofs.Tryz.prog n_serial_scope_cancelled d_serial_scope_cancelled :=
 sound_of (mask := 4117) (h := [(2, [(0, .p)])]) (ds := []) mixed Go.Proofs.Tryz.func48 trivial
 [.p] [.b] (by kernel_rfl) (fun x w k => serial_scope_cancelled x w k) (fun x w k => by kernel_rfl)
def serial_machine_end (m_0 : Option Addr) (t_1 : Option Addr) (kind_2 : Int) (v_3 : Int) (w : World) (k : Unit → World → Prop) : Prop :=
 drew w fun w1 =>
 nn m_0 fun a2 =>
 ldS w1 (Addr.add a2 3) fun s3 =>
 nn t_1 fun a4 =>
 ldI .i64 w1 (Addr.add a4 19) fun i5 =>
 ixS s3 i5 7 fun a6 =>
 nn t_1 fun a7 =>
 ldI .i64 w1 (Addr.add (Addr.add a7 0) 18) fun i8 =>
 stC w1 (Addr.add a6 3) (.int .i64 kind_2) fun w9 =>
 stC w9 (Addr.add a6 4) (.int .i64 v_3) fun w10 =>
 stC w10 (Addr.add a6 5) (.int .i64 i8) fun w11 =>
 nn t_1 fun a12 =>
 stC w11 (Addr.add a12 23) (.bool true) fun w13 =>
 (k () w13)
def d_serial_machine_end : Dec := fun args w c => unL [.p, .p, (.i .i64), (.i .i64)] args fun x => serial_machine_end x.1 x.2.1 x.2.2.1 x.2.2.2 w fun r w => c (packV (valL [] r)) w
theorem s_serial_machine_end : Sound Go.Proofs.Tryz.prog n_serial_machine_end d_serial_machine_end :=
 sound_of (mask := 270) (h := []) (ds := []) mixed Go.Proofs.Tryz.func49 trivial
 [.p, .p, (.i .i64), (.i .i64)] [] (by kernel_rfl) (fun x w k => serial_machine_end x.1 x.2.1 x.2.2.1 x.2.2.2 w k) (fun x w k => by kernel_rfl)
def serial_machine_join_b (frame_Frame_Joined : Array Value → Array Value → Int → Int → World → ((Array Value × Int × Bool) → World → Prop) → Prop) (serial_machine_end : Option Addr → Option Addr → Int → Int → World → (Unit → World → Prop) → Prop) (m_0 : Option Addr) (t_1 : Option Addr) (i_2 : Array Value) (w : World) (k : Unit → World → Prop) : Prop :=
 newC w i_2 42 fun a1 w2 =>
 ldI .i64 w2 (Addr.add a1 2) fun i3 =>
 ldI .i64 w2 (Addr.add a1 0) fun i4 =>
 joinP (S := Int) (fun J5 =>
 iteB (i4 == (10 : Int)) (
 ldI .i64 w2 (Addr.add a1 3) fun i6 =>
 (J5 i6 w2)) (
 (J5 i3 w2))) fun i7 w8 =>
 drew w8 fun w9 =>
 nn m_0 fun a10 =>
 ldS w9 (Addr.add a10 3) fun s11 =>
 nn t_1 fun a12 =>
 ixP (Addr.add (Addr.add a12 0) 10) 8 i7 1 fun a13 =>
 ldI .i64 w9 a13 fun i14 =>
 ixS s11 i14 7 fun a15 =>
 ldA 7 w9 a15 fun cs16 =>
 newC w9 #[(.int .i64 (0 : Int)), (.int .i64 (0 : Int)), (.int .i64 (0 : Int)), (.int .i64 (0 : Int)), (.int .i64 (0 : Int)), (.int .i64 (0 : Int)), (.string (ByteArray.mk #[]))] 40 fun a17 w18 =>
 samec 7 a15 w9 w18 (
 samec 1 a13 w9 w18 (
 samec 1 (Addr.add a10 3) w9 w18 (
 stA 7 w18 a17 cs16 fun w19 =>
 joinP (S := (Addr × (Int × Bool))) (fun J20 =>
 drew w19 fun w21 =>
 nn t_1 fun a22 =>
 ldA 19 w21 (Addr.add a22 0) fun cs23 =>
 ldA 5 w21 a1 fun cs24 =>
 ldI .i64 w21 (Addr.add a17 3) fun i25 =>
 ldI .i64 w21 (Addr.add a17 4) fun i26 =>
 both (
 frame_Frame_Joined cs23 cs24 i25 i26 w21 fun x27 w28 =>
 newC w28 ltFs0 68 fun a29 w30 =>
 samec 1 (Addr.add a17 4) w21 w30 (
 samec 1 (Addr.add a17 3) w21 w30 (
 samec 5 a1 w21 w30 (
 samec 19 (Addr.add a22 0) w21 w30 (
 stA 19 w30 a29 (x27.1, (x27.2.1, x27.2.2)).1 fun w31 =>
 (J20 (a29, ((x27.1, (x27.2.1, x27.2.2)).2.1, (x27.1, (x27.2.1, x27.2.2)).2.2)) w31)))))) (
 newC w21 ltFs0 68 fun a32 w33 =>
 samec 1 (Addr.add a17 4) w21 w33 (
 samec 1 (Addr.add a17 3) w21 w33 (
 samec 5 a1 w21 w33 (
 samec 19 (Addr.add a22 0) w21 w33 (
 frame_Frame_Joined cs23 cs24 i25 i26 w33 fun x34 w35 =>
 stA 19 w35 a32 (x34.1, (x34.2.1, x34.2.2)).1 fun w36 =>
 (J20 (a32, ((x34.1, (x34.2.1, x34.2.2)).2.1, (x34.1, (x34.2.1, x34.2.2)).2.2)) w36))))))) fun x37 w38 =>
 ldA 19 w38 x37.1 fun cs39 =>
 nn t_1 fun a40 =>
 stA 19 w38 (Addr.add a40 0) cs39 fun w41 =>
 iteB x37.2.2 (
 serial_machine_end m_0 t_1 (3 : Int) x37.2.1 w41 fun _u w42 =>
 (k () w42)) (
 (k () w41)))))
theorem e_serial_machine_join (frame_Frame_Joined : Array Value → Array Value → Int → Int → World → ((Array Value × Int × Bool) → World → Prop) → Prop) (serial_machine_end : Option Addr → Option Addr → Int → Int → World → (Unit → World → Prop) → Prop) (x : KT [.p, .p, .ag]) (w : World) (k : KT [] → World → Prop) : evFn Go.Proofs.Tryz.prog (orcOf [(n_frame_Frame_Joined, (fun args w c => unL [.ag, .ag, (.i .i64), (.i .i64)] args fun x => frame_Frame_Joined x.1 x.2.1 x.2.2.1 x.2.2.2 w fun r w => c (packV (valL [.ag, (.i .i64), .b] r)) w)), (n_serial_machine_end, (fun args w c => unL [.p, .p, (.i .i64), (.i .i64)] args fun x => serial_machine_end x.1 x.2.1 x.2.2.1 x.2.2.2 w fun r w => c (packV (valL [] r)) w))]) 562949953456099 [(3, [(6, (.i .i64))]), (6, [(8, .a), (9, (.i .i64)), (10, .b)])] Go.Proofs.Tryz.f53 [] (valL [.p, .p, .ag] x) w k = serial_machine_join_b frame_Frame_Joined serial_machine_end x.1 x.2.1 x.2.2 w k := by kernel_rfl
def serial_machine_join (m_0 : Option Addr) (t_1 : Option Addr) (i_2 : Array Value) (w : World) (k : Unit → World → Prop) : Prop := serial_machine_join_b frame_Frame_Joined serial_machine_end m_0 t_1 i_2 w k
def d_serial_machine_join : Dec := fun args w c => unL [.p, .p, .ag] args fun x => serial_machine_join x.1 x.2.1 x.2.2 w fun r w => c (packV (valL [] r)) w
theorem s_serial_machine_join : Sound Go.Proofs.Tryz.prog n_serial_machine_join d_serial_machine_join :=
 sound_of (mask := 562949953456099) (h := [(3, [(6, (.i .i64))]), (6, [(8, .a), (9, (.i .i64)), (10, .b)])]) (ds := [(n_frame_Frame_Joined, d_frame_Frame_Joined), (n_serial_machine_end, d_serial_machine_end)]) mixed Go.Proofs.Tryz.func53 ⟨s_frame_Frame_Joined, s_serial_machine_end, trivial⟩
 [.p, .p, .ag] [] (by kernel_rfl) (fun x w k => serial_machine_join x.1 x.2.1 x.2.2 w k) (fun x w k => e_serial_machine_join frame_Frame_Joined serial_machine_end x w k)
def serial_machine_open_b (serial_scope_within : Option Addr → Int → World → ((Option Addr) → World → Prop) → Prop) (frame_Frame_Passed : Array Value → World → ((Array Value) → World → Prop) → Prop) (m_0 : Option Addr) (t_1 : Option Addr) (_2 : Array Value) (w : World) (k : Unit → World → Prop) : Prop :=
 newC w _2 42 fun a1 w2 =>
 nn t_1 fun a3 =>
 ldI .i64 w2 (Addr.add a3 22) fun i4 =>
 nn t_1 fun a5 =>
 stC w2 (Addr.add a5 22) (.int .i64 (IntKind.wrap .i64 (i4 + (1 : Int)))) fun w6 =>
 drew w6 fun w7 =>
 nn t_1 fun a8 =>
 ldP w7 (Addr.add a8 21) fun p9 =>
 nn t_1 fun a10 =>
 ldI .i64 w7 (Addr.add a10 22) fun i11 =>
 serial_scope_within p9 i11 w7 fun p12 w13 =>
 nn t_1 fun a14 =>
 stC w13 (Addr.add a14 21) (.pointer p12) fun w15 =>
 nn t_1 fun a16 =>
 ldA 19 w15 (Addr.add a16 0) fun cs17 =>
 frame_Frame_Passed cs17 w15 fun cs18 w19 =>
 nn t_1 fun a20 =>
 stA 19 w19 (Addr.add a20 0) cs18 fun w21 =>
 (k () w21)
theorem e_serial_machine_open (serial_scope_within : Option Addr → Int → World → ((Option Addr) → World → Prop) → Prop) (frame_Frame_Passed : Array Value → World → ((Array Value) → World → Prop) → Prop) (x : KT [.p, .p, .ag]) (w : World) (k : KT [] → World → Prop) : evFn Go.Proofs.Tryz.prog (orcOf [(n_serial_scope_within, (fun args w c => unL [.p, (.i .i64)] args fun x => serial_scope_within x.1 x.2 w fun r w => c (packV (valL [.p] r)) w)), (n_frame_Frame_Passed, (fun args w c => unL [.ag] args fun x => frame_Frame_Passed x w fun r w => c (packV (valL [.ag] r)) w))]) 2 [] Go.Proofs.Tryz.f54 [] (valL [.p, .p, .ag] x) w k = serial_machine_open_b serial_scope_within frame_Frame_Passed x.1 x.2.1 x.2.2 w k := by kernel_rfl
def serial_machine_open (m_0 : Option Addr) (t_1 : Option Addr) (_2 : Array Value) (w : World) (k : Unit → World → Prop) : Prop := serial_machine_open_b serial_scope_within frame_Frame_Passed m_0 t_1 _2 w k
def d_serial_machine_open : Dec := fun args w c => unL [.p, .p, .ag] args fun x => serial_machine_open x.1 x.2.1 x.2.2 w fun r w => c (packV (valL [] r)) w
theorem s_serial_machine_open : Sound Go.Proofs.Tryz.prog n_serial_machine_open d_serial_machine_open :=
 sound_of (mask := 2) (h := []) (ds := [(n_serial_scope_within, d_serial_scope_within), (n_frame_Frame_Passed, d_frame_Frame_Passed)]) mixed Go.Proofs.Tryz.func54 ⟨s_serial_scope_within, s_frame_Frame_Passed, trivial⟩
 [.p, .p, .ag] [] (by kernel_rfl) (fun x w k => serial_machine_open x.1 x.2.1 x.2.2 w k) (fun x w k => e_serial_machine_open serial_scope_within frame_Frame_Passed x w k)
def serial_machine_close_b (frame_Frame_Closed : Array Value → Array Value → Bool → World → ((Array Value) → World → Prop) → Prop) (m_0 : Option Addr) (t_1 : Option Addr) (i_2 : Array Value) (w : World) (k : Unit → World → Prop) : Prop :=
 newC w i_2 42 fun a1 w2 =>
 nn t_1 fun a3 =>
 ldP w2 (Addr.add a3 21) fun p4 =>
 nn p4 fun a5 =>
 ldB w2 (Addr.add a5 1) fun b6 =>
 joinP (S := ByteArray) (fun J7 =>
 iteB b6 (
 (J7 (ByteArray.mk #[49]) w2)) (
 (J7 (ByteArray.mk #[48]) w2))) fun t8 w9 =>
 drew w9 fun w10 =>
 nn m_0 fun a11 =>
 ldS w10 (Addr.add a11 3) fun s12 =>
 nn t_1 fun a13 =>
 ldI .i64 w10 (Addr.add a13 19) fun i14 =>
 ixS s12 i14 7 fun a15 =>
 ldStr w10 (Addr.add a15 6) fun t16 =>
 ((((((ByteArray.size t16) + (ByteArray.size t8)) : Nat) : Int) ≤ (9223372036854775807 : Int))) ∧ (
 ixS s12 i14 7 fun a17 =>
 stC w10 (Addr.add a17 6) (.string (t16 ++ t8)) fun w18 =>
 drew w18 fun w19 =>
 nn t_1 fun a20 =>
 ldA 19 w19 (Addr.add a20 0) fun cs21 =>
 ldA 5 w19 a1 fun cs22 =>
 nn t_1 fun a23 =>
 ldP w19 (Addr.add a23 21) fun p24 =>
 nn p24 fun a25 =>
 ldB w19 (Addr.add a25 1) fun b26 =>
 frame_Frame_Closed cs21 cs22 b26 w19 fun cs27 w28 =>
 nn t_1 fun a29 =>
 stA 19 w28 (Addr.add a29 0) cs27 fun w30 =>
 nn t_1 fun a31 =>
 ldP w30 (Addr.add a31 21) fun p32 =>
 nn p32 fun a33 =>
 ldP w30 (Addr.add a33 0) fun p34 =>
 nn t_1 fun a35 =>
 stC w30 (Addr.add a35 21) (.pointer p34) fun w36 =>
 (k () w36))
theorem e_serial_machine_close (frame_Frame_Closed : Array Value → Array Value → Bool → World → ((Array Value) → World → Prop) → Prop) (x : KT [.p, .p, .ag]) (w : World) (k : KT [] → World → Prop) : evFn Go.Proofs.Tryz.prog (orcOf [(n_frame_Frame_Closed, (fun args w c => unL [.ag, .ag, .b] args fun x => frame_Frame_Closed x.1 x.2.1 x.2.2 w fun r w => c (packV (valL [.ag] r)) w))]) 8291 [(3, [(6, .str)])] Go.Proofs.Tryz.f55 [] (valL [.p, .p, .ag] x) w k = serial_machine_close_b frame_Frame_Closed x.1 x.2.1 x.2.2 w k := by kernel_rfl
def serial_machine_close (m_0 : Option Addr) (t_1 : Option Addr) (i_2 : Array Value) (w : World) (k : Unit → World → Prop) : Prop := serial_machine_close_b frame_Frame_Closed m_0 t_1 i_2 w k
def d_serial_machine_close : Dec := fun args w c => unL [.p, .p, .ag] args fun x => serial_machine_close x.1 x.2.1 x.2.2 w fun r w => c (packV (valL [] r)) w
theorem s_serial_machine_close : Sound Go.Proofs.Tryz.prog n_serial_machine_close d_serial_machine_close :=
 sound_of (mask := 8291) (h := [(3, [(6, .str)])]) (ds := [(n_frame_Frame_Closed, d_frame_Frame_Closed)]) mixed Go.Proofs.Tryz.func55 ⟨s_frame_Frame_Closed, trivial⟩
 [.p, .p, .ag] [] (by kernel_rfl) (fun x w k => serial_machine_close x.1 x.2.1 x.2.2 w k) (fun x w k => e_serial_machine_close frame_Frame_Closed x w k)
def serial_machine_cancel_b (frame_Frame_Passed : Array Value → World → ((Array Value) → World → Prop) → Prop) (m_0 : Option Addr) (t_1 : Option Addr) (_2 : Array Value) (w : World) (k : Unit → World → Prop) : Prop :=
 newC w _2 42 fun a1 w2 =>
 nn t_1 fun a3 =>
 ldP w2 (Addr.add a3 21) fun p4 =>
 nn p4 fun a5 =>
 stC w2 (Addr.add a5 1) (.bool true) fun w6 =>
 nn t_1 fun a7 =>
 ldA 19 w6 (Addr.add a7 0) fun cs8 =>
 frame_Frame_Passed cs8 w6 fun cs9 w10 =>
 nn t_1 fun a11 =>
 stA 19 w10 (Addr.add a11 0) cs9 fun w12 =>
 (k () w12)
theorem e_serial_machine_cancel (frame_Frame_Passed : Array Value → World → ((Array Value) → World → Prop) → Prop) (x : KT [.p, .p, .ag]) (w : World) (k : KT [] → World → Prop) : evFn Go.Proofs.Tryz.prog (orcOf [(n_frame_Frame_Passed, (fun args w c => unL [.ag] args fun x => frame_Frame_Passed x w fun r w => c (packV (valL [.ag] r)) w))]) 2 [] Go.Proofs.Tryz.f56 [] (valL [.p, .p, .ag] x) w k = serial_machine_cancel_b frame_Frame_Passed x.1 x.2.1 x.2.2 w k := by kernel_rfl
def serial_machine_cancel (m_0 : Option Addr) (t_1 : Option Addr) (_2 : Array Value) (w : World) (k : Unit → World → Prop) : Prop := serial_machine_cancel_b frame_Frame_Passed m_0 t_1 _2 w k
def d_serial_machine_cancel : Dec := fun args w c => unL [.p, .p, .ag] args fun x => serial_machine_cancel x.1 x.2.1 x.2.2 w fun r w => c (packV (valL [] r)) w
theorem s_serial_machine_cancel : Sound Go.Proofs.Tryz.prog n_serial_machine_cancel d_serial_machine_cancel :=
 sound_of (mask := 2) (h := []) (ds := [(n_frame_Frame_Passed, d_frame_Frame_Passed)]) mixed Go.Proofs.Tryz.func56 ⟨s_frame_Frame_Passed, trivial⟩
 [.p, .p, .ag] [] (by kernel_rfl) (fun x w k => serial_machine_cancel x.1 x.2.1 x.2.2 w k) (fun x w k => e_serial_machine_cancel frame_Frame_Passed x w k)
def serial_machine_pass_b (frame_Frame_Passed : Array Value → World → ((Array Value) → World → Prop) → Prop) (m_0 : Option Addr) (t_1 : Option Addr) (_2 : Array Value) (w : World) (k : Unit → World → Prop) : Prop :=
 newC w _2 42 fun a1 w2 =>
 nn t_1 fun a3 =>
 ldA 19 w2 (Addr.add a3 0) fun cs4 =>
 frame_Frame_Passed cs4 w2 fun cs5 w6 =>
 nn t_1 fun a7 =>
 stA 19 w6 (Addr.add a7 0) cs5 fun w8 =>
 (k () w8)
theorem e_serial_machine_pass (frame_Frame_Passed : Array Value → World → ((Array Value) → World → Prop) → Prop) (x : KT [.p, .p, .ag]) (w : World) (k : KT [] → World → Prop) : evFn Go.Proofs.Tryz.prog (orcOf [(n_frame_Frame_Passed, (fun args w c => unL [.ag] args fun x => frame_Frame_Passed x w fun r w => c (packV (valL [.ag] r)) w))]) 2 [] Go.Proofs.Tryz.f57 [] (valL [.p, .p, .ag] x) w k = serial_machine_pass_b frame_Frame_Passed x.1 x.2.1 x.2.2 w k := by kernel_rfl
def serial_machine_pass (m_0 : Option Addr) (t_1 : Option Addr) (_2 : Array Value) (w : World) (k : Unit → World → Prop) : Prop := serial_machine_pass_b frame_Frame_Passed m_0 t_1 _2 w k
def d_serial_machine_pass : Dec := fun args w c => unL [.p, .p, .ag] args fun x => serial_machine_pass x.1 x.2.1 x.2.2 w fun r w => c (packV (valL [] r)) w
theorem s_serial_machine_pass : Sound Go.Proofs.Tryz.prog n_serial_machine_pass d_serial_machine_pass :=
 sound_of (mask := 2) (h := []) (ds := [(n_frame_Frame_Passed, d_frame_Frame_Passed)]) mixed Go.Proofs.Tryz.func57 ⟨s_frame_Frame_Passed, trivial⟩
 [.p, .p, .ag] [] (by kernel_rfl) (fun x w k => serial_machine_pass x.1 x.2.1 x.2.2 w k) (fun x w k => e_serial_machine_pass frame_Frame_Passed x w k)
def serial_machine_leave_b (frame_Frame_Passed : Array Value → World → ((Array Value) → World → Prop) → Prop) (serial_machine_end : Option Addr → Option Addr → Int → Int → World → (Unit → World → Prop) → Prop) (m_0 : Option Addr) (t_1 : Option Addr) (i_2 : Array Value) (w : World) (k : Unit → World → Prop) : Prop :=
 newC w i_2 42 fun a1 w2 =>
 nn t_1 fun a3 =>
 ldA 19 w2 (Addr.add a3 0) fun cs4 =>
 frame_Frame_Passed cs4 w2 fun cs5 w6 =>
 nn t_1 fun a7 =>
 stA 19 w6 (Addr.add a7 0) cs5 fun w8 =>
 ldI .i64 w8 (Addr.add a1 0) fun i9 =>
 iteB (i9 == (15 : Int)) (
 drew w8 fun w10 =>
 ldI .i64 w10 (Addr.add a1 1) fun i11 =>
 nn t_1 fun a12 =>
 ixP (Addr.add (Addr.add a12 0) 2) 8 i11 1 fun a13 =>
 ldI .i64 w10 a13 fun i14 =>
 serial_machine_end m_0 t_1 (3 : Int) i14 w10 fun _u w15 =>
 (k () w15)) (
 drew w8 fun w16 =>
 ldI .i64 w16 (Addr.add a1 1) fun i17 =>
 nn t_1 fun a18 =>
 ixP (Addr.add (Addr.add a18 0) 2) 8 i17 1 fun a19 =>
 ldI .i64 w16 a19 fun i20 =>
 serial_machine_end m_0 t_1 (2 : Int) i20 w16 fun _u w21 =>
 (k () w21))
theorem e_serial_machine_leave (frame_Frame_Passed : Array Value → World → ((Array Value) → World → Prop) → Prop) (serial_machine_end : Option Addr → Option Addr → Int → Int → World → (Unit → World → Prop) → Prop) (x : KT [.p, .p, .ag]) (w : World) (k : KT [] → World → Prop) : evFn Go.Proofs.Tryz.prog (orcOf [(n_frame_Frame_Passed, (fun args w c => unL [.ag] args fun x => frame_Frame_Passed x w fun r w => c (packV (valL [.ag] r)) w)), (n_serial_machine_end, (fun args w c => unL [.p, .p, (.i .i64), (.i .i64)] args fun x => serial_machine_end x.1 x.2.1 x.2.2.1 x.2.2.2 w fun r w => c (packV (valL [] r)) w))]) 131171 [] Go.Proofs.Tryz.f58 [] (valL [.p, .p, .ag] x) w k = serial_machine_leave_b frame_Frame_Passed serial_machine_end x.1 x.2.1 x.2.2 w k := by kernel_rfl
def serial_machine_leave (m_0 : Option Addr) (t_1 : Option Addr) (i_2 : Array Value) (w : World) (k : Unit → World → Prop) : Prop := serial_machine_leave_b frame_Frame_Passed serial_machine_end m_0 t_1 i_2 w k
def d_serial_machine_leave : Dec := fun args w c => unL [.p, .p, .ag] args fun x => serial_machine_leave x.1 x.2.1 x.2.2 w fun r w => c (packV (valL [] r)) w
theorem s_serial_machine_leave : Sound Go.Proofs.Tryz.prog n_serial_machine_leave d_serial_machine_leave :=
 sound_of (mask := 131171) (h := []) (ds := [(n_frame_Frame_Passed, d_frame_Frame_Passed), (n_serial_machine_end, d_serial_machine_end)]) mixed Go.Proofs.Tryz.func58 ⟨s_frame_Frame_Passed, s_serial_machine_end, trivial⟩
 [.p, .p, .ag] [] (by kernel_rfl) (fun x w k => serial_machine_leave x.1 x.2.1 x.2.2 w k) (fun x w k => e_serial_machine_leave frame_Frame_Passed serial_machine_end x w k)
def serial_machine_fork_b (frame_Frame_Child : Array Value → Array Value → Array Value → World → ((Array Value × Int) → World → Prop) → Prop) (frame_Frame_Forked : Array Value → Array Value → Int → World → ((Array Value) → World → Prop) → Prop) (serial_Run_2 : Array Value → Int → Option Addr → Addr → World → (Value → World → Prop) → ((Int) → World → Prop) → Prop) (m_0 : Option Addr) (t_1 : Option Addr) (i_2 : Array Value) (w : World) (q : Value → World → Prop) (k : Unit → World → Prop) : Prop :=
 newC w i_2 42 fun a1 w2 =>
 joinP (S := Addr) (fun J3 =>
 drew w2 fun w4 =>
 nn t_1 fun a5 =>
 ldA 19 w4 (Addr.add a5 0) fun cs6 =>
 nn m_0 fun a7 =>
 ldA 1 w4 (Addr.add a7 0) fun cs8 =>
 ldA 5 w4 a1 fun cs9 =>
 both (
 frame_Frame_Child cs6 cs8 cs9 w4 fun x10 w11 =>
 newC w11 ltFs0 68 fun a12 w13 =>
 samec 5 a1 w4 w13 (
 samec 1 (Addr.add a7 0) w4 w13 (
 samec 19 (Addr.add a5 0) w4 w13 (
 stA 19 w13 a12 (x10.1, x10.2).1 fun w14 =>
 (J3 a12 w14))))) (
 newC w4 ltFs0 68 fun a15 w16 =>
 samec 5 a1 w4 w16 (
 samec 1 (Addr.add a7 0) w4 w16 (
 samec 19 (Addr.add a5 0) w4 w16 (
 frame_Frame_Child cs6 cs8 cs9 w16 fun x17 w18 =>
 stA 19 w18 a15 (x17.1, x17.2).1 fun w19 =>
 (J3 a15 w19)))))) fun a20 w21 =>
 drew w21 fun w22 =>
 nn t_1 fun a23 =>
 ldA 19 w22 (Addr.add a23 0) fun cs24 =>
 ldA 5 w22 a1 fun cs25 =>
 nn m_0 fun a26 =>
 ldV w22 (Addr.add a26 4) fun v27 =>
 ldA 19 w22 a20 fun cs28 =>
 nn t_1 fun a29 =>
 ldI .i64 w22 (Addr.add a29 19) fun i30 =>
 nn t_1 fun a31 =>
 ldP w22 (Addr.add a31 21) fun p32 =>
 callF (orcP [(n_frame_Frame_Child, (fun args w c _ => unL [.ag, .ag, .ag] args fun x => frame_Frame_Child x.1 x.2.1 x.2.2 w fun r w => c (packV (valL [.ag, (.i .i64)] r)) w)), (n_frame_Frame_Forked, (fun args w c _ => unL [.ag, .ag, (.i .i64)] args fun x => frame_Frame_Forked x.1 x.2.1 x.2.2 w fun r w => c (packV (valL [.ag] r)) w)), (n_serial_Run_2, (fun args w c q => unL [.ag, (.i .i64), .p, .a] args fun x => serial_Run_2 x.1 x.2.1 x.2.2.1 x.2.2.2 w q fun r w => c (packV (valL [(.i .i64)] r)) w))] q) v27 #[(.agg cs28), (.int .i64 i30), (.pointer p32)] w22 fun v33 w34 =>
 toI .i64 v33 fun i35 =>
 samec 5 a1 w22 w34 (
 samec 19 (Addr.add a23 0) w22 w34 (
 frame_Frame_Forked cs24 cs25 i35 w34 fun cs36 w37 =>
 nn t_1 fun a38 =>
 stA 19 w37 (Addr.add a38 0) cs36 fun w39 =>
 (k () w39)))
theorem e_serial_machine_fork (frame_Frame_Child : Array Value → Array Value → Array Value → World → ((Array Value × Int) → World → Prop) → Prop) (frame_Frame_Forked : Array Value → Array Value → Int → World → ((Array Value) → World → Prop) → Prop) (serial_Run_2 : Array Value → Int → Option Addr → Addr → World → (Value → World → Prop) → ((Int) → World → Prop) → Prop) (x : KT [.p, .p, .ag]) (w : World) (k : KT [] → World → Prop) (q : Value → World → Prop) : evFn Go.Proofs.Tryz.prog (orcP [(n_frame_Frame_Child, (fun args w c _ => unL [.ag, .ag, .ag] args fun x => frame_Frame_Child x.1 x.2.1 x.2.2 w fun r w => c (packV (valL [.ag, (.i .i64)] r)) w)), (n_frame_Frame_Forked, (fun args w c _ => unL [.ag, .ag, (.i .i64)] args fun x => frame_Frame_Forked x.1 x.2.1 x.2.2 w fun r w => c (packV (valL [.ag] r)) w)), (n_serial_Run_2, (fun args w c q => unL [.ag, (.i .i64), .p, .a] args fun x => serial_Run_2 x.1 x.2.1 x.2.2.1 x.2.2.2 w q fun r w => c (packV (valL [(.i .i64)] r)) w))] q) 99 [(1, [(6, .a)])] Go.Proofs.Tryz.f52 [] (valL [.p, .p, .ag] x) w k = serial_machine_fork_b frame_Frame_Child frame_Frame_Forked serial_Run_2 x.1 x.2.1 x.2.2 w q k := by kernel_rfl
theorem s_serial_machine_fork_b (frame_Frame_Child : Array Value → Array Value → Array Value → World → ((Array Value × Int) → World → Prop) → Prop) (frame_Frame_Forked : Array Value → Array Value → Int → World → ((Array Value) → World → Prop) → Prop) (serial_Run_2 : Array Value → Int → Option Addr → Addr → World → (Value → World → Prop) → ((Int) → World → Prop) → Prop) (h_frame_Frame_Child : SoundP Go.Proofs.Tryz.prog n_frame_Frame_Child (fun args w c _ => unL [.ag, .ag, .ag] args fun x => frame_Frame_Child x.1 x.2.1 x.2.2 w fun r w => c (packV (valL [.ag, (.i .i64)] r)) w)) (h_frame_Frame_Forked : SoundP Go.Proofs.Tryz.prog n_frame_Frame_Forked (fun args w c _ => unL [.ag, .ag, (.i .i64)] args fun x => frame_Frame_Forked x.1 x.2.1 x.2.2 w fun r w => c (packV (valL [.ag] r)) w)) (h_serial_Run_2 : SoundP Go.Proofs.Tryz.prog n_serial_Run_2 (fun args w c q => unL [.ag, (.i .i64), .p, .a] args fun x => serial_Run_2 x.1 x.2.1 x.2.2.1 x.2.2.2 w q fun r w => c (packV (valL [(.i .i64)] r)) w)) : SoundP Go.Proofs.Tryz.prog n_serial_machine_fork fun args w c q => unL [.p, .p, .ag] args fun x => serial_machine_fork_b frame_Frame_Child frame_Frame_Forked serial_Run_2 x.1 x.2.1 x.2.2 w q fun r w => c (packV (valL [] r)) w :=
 sound_p (mask := 99) (h := [(1, [(6, .a)])]) (ds := [(n_frame_Frame_Child, (fun args w c _ => unL [.ag, .ag, .ag] args fun x => frame_Frame_Child x.1 x.2.1 x.2.2 w fun r w => c (packV (valL [.ag, (.i .i64)] r)) w)), (n_frame_Frame_Forked, (fun args w c _ => unL [.ag, .ag, (.i .i64)] args fun x => frame_Frame_Forked x.1 x.2.1 x.2.2 w fun r w => c (packV (valL [.ag] r)) w)), (n_serial_Run_2, (fun args w c q => unL [.ag, (.i .i64), .p, .a] args fun x => serial_Run_2 x.1 x.2.1 x.2.2.1 x.2.2.2 w q fun r w => c (packV (valL [(.i .i64)] r)) w))]) mixed Go.Proofs.Tryz.func52 ⟨h_frame_Frame_Child, h_frame_Frame_Forked, h_serial_Run_2, trivial⟩
 [.p, .p, .ag] [] (by kernel_rfl) (fun x w k q => serial_machine_fork_b frame_Frame_Child frame_Frame_Forked serial_Run_2 x.1 x.2.1 x.2.2 w q k) (fun x w k q => e_serial_machine_fork frame_Frame_Child frame_Frame_Forked serial_Run_2 x w k q)
def serial_machine_step_b (frame_Frame_Next : Array Value → Array Value → World → ((Array Value × Int) → World → Prop) → Prop) (serial_scope_cancelled : Option Addr → World → ((Bool) → World → Prop) → Prop) (code_Point : Int → World → ((Bool) → World → Prop) → Prop) (serial_machine_end : Option Addr → Option Addr → Int → Int → World → (Unit → World → Prop) → Prop) (serial_deep : Option Addr → World → (Value → World → Prop) → (Unit → World → Prop) → Prop) (frame_Frame_Plain : Array Value → Array Value → World → ((Array Value × Bool) → World → Prop) → Prop) (serial_machine_fork : Option Addr → Option Addr → Array Value → World → (Value → World → Prop) → (Unit → World → Prop) → Prop) (serial_machine_join : Option Addr → Option Addr → Array Value → World → (Unit → World → Prop) → Prop) (serial_machine_open : Option Addr → Option Addr → Array Value → World → (Unit → World → Prop) → Prop) (serial_machine_close : Option Addr → Option Addr → Array Value → World → (Unit → World → Prop) → Prop) (serial_machine_cancel : Option Addr → Option Addr → Array Value → World → (Unit → World → Prop) → Prop) (serial_machine_pass : Option Addr → Option Addr → Array Value → World → (Unit → World → Prop) → Prop) (serial_machine_leave : Option Addr → Option Addr → Array Value → World → (Unit → World → Prop) → Prop) (m_0 : Option Addr) (t_1 : Option Addr) (w : World) (q : Value → World → Prop) (k : Unit → World → Prop) : Prop :=
 joinP (S := (Addr × Int)) (fun J1 =>
 drew w fun w2 =>
 nn t_1 fun a3 =>
 ldA 19 w2 (Addr.add a3 0) fun cs4 =>
 nn m_0 fun a5 =>
 ldA 1 w2 (Addr.add a5 0) fun cs6 =>
 both (
 frame_Frame_Next cs4 cs6 w2 fun x7 w8 =>
 newC w8 #[(.int .i64 (0 : Int)), (.int .i64 (0 : Int)), (.int .i64 (0 : Int)), (.int .i64 (0 : Int)), (.int .i64 (0 : Int))] 42 fun a9 w10 =>
 samec 1 (Addr.add a5 0) w2 w10 (
 samec 19 (Addr.add a3 0) w2 w10 (
 stA 5 w10 a9 (x7.1, x7.2).1 fun w11 =>
 (J1 (a9, (x7.1, x7.2).2) w11)))) (
 newC w2 #[(.int .i64 (0 : Int)), (.int .i64 (0 : Int)), (.int .i64 (0 : Int)), (.int .i64 (0 : Int)), (.int .i64 (0 : Int))] 42 fun a12 w13 =>
 samec 1 (Addr.add a5 0) w2 w13 (
 samec 19 (Addr.add a3 0) w2 w13 (
 frame_Frame_Next cs4 cs6 w13 fun x14 w15 =>
 stA 5 w15 a12 (x14.1, x14.2).1 fun w16 =>
 (J1 (a12, (x14.1, x14.2).2) w16))))) fun x17 w18 =>
 joinP (S := Unit) (fun J19 =>
 iteB (x17.2 != (0 : Int)) (
 (q (.iface 62 (.int .i64 x17.2)) w18)) (
 (J19 () w18))) fun u20 w21 =>
 joinP (S := Bool) (fun J22 =>
 nn t_1 fun a23 =>
 ldI .i64 w21 (Addr.add (Addr.add a23 0) 18) fun i24 =>
 iteB (i24 == (0 : Int)) (
 nn t_1 fun a25 =>
 ldP w21 (Addr.add a25 20) fun p26 =>
 serial_scope_cancelled p26 w21 fun b27 w28 =>
 (J22 b27 w28)) (
 ldI .i64 w21 (Addr.add x17.1 0) fun i29 =>
 code_Point i29 w21 fun b30 w31 =>
 iteB b30 (
 nn t_1 fun a32 =>
 ldP w31 (Addr.add a32 20) fun p33 =>
 serial_scope_cancelled p33 w31 fun b34 w35 =>
 (J22 b34 w35)) (
 (J22 false w31)))) fun b36 w37 =>
 iteB b36 (
 serial_machine_end m_0 t_1 (4 : Int) (0 : Int) w37 fun _u w38 =>
 (k () w38)) (
 drew w37 fun w39 =>
 nn m_0 fun a40 =>
 ldI .i64 w39 (Addr.add a40 2) fun i41 =>
 nn m_0 fun a42 =>
 ldI .i64 w39 (Addr.add a42 1) fun i43 =>
 joinP (S := Unit) (fun J44 =>
 iteB (decide (i41 ≥ i43)) (
 (q (.iface 62 (.int .i64 (22 : Int))) w39)) (
 (J44 () w39))) fun u45 w46 =>
 joinP (S := Bool) (fun J47 =>
 ldI .i64 w46 (Addr.add x17.1 0) fun i48 =>
 iteB (i48 == (8 : Int)) (
 (J47 true w46)) (
 ldI .i64 w46 (Addr.add x17.1 0) fun i49 =>
 (J47 (i49 == (11 : Int)) w46))) fun b50 w51 =>
 joinP (S := Unit) (fun J52 =>
 iteB b50 (
 nn t_1 fun a53 =>
 ldP w51 (Addr.add a53 21) fun p54 =>
 serial_deep p54 w51 q fun _u w55 =>
 (J52 () w55)) (
 (J52 () w51))) fun u56 w57 =>
 nn m_0 fun a58 =>
 ldI .i64 w57 (Addr.add a58 2) fun i59 =>
 nn m_0 fun a60 =>
 stC w57 (Addr.add a60 2) (.int .i64 (IntKind.wrap .i64 (i59 + (1 : Int)))) fun w61 =>
 joinP (S := (Addr × Bool)) (fun J62 =>
 drew w61 fun w63 =>
 nn t_1 fun a64 =>
 ldA 19 w63 (Addr.add a64 0) fun cs65 =>
 ldA 5 w63 x17.1 fun cs66 =>
 both (
 frame_Frame_Plain cs65 cs66 w63 fun x67 w68 =>
 newC w68 ltFs0 68 fun a69 w70 =>
 samec 5 x17.1 w63 w70 (
 samec 19 (Addr.add a64 0) w63 w70 (
 stA 19 w70 a69 (x67.1, x67.2).1 fun w71 =>
 (J62 (a69, (x67.1, x67.2).2) w71)))) (
 newC w63 ltFs0 68 fun a72 w73 =>
 samec 5 x17.1 w63 w73 (
 samec 19 (Addr.add a64 0) w63 w73 (
 frame_Frame_Plain cs65 cs66 w73 fun x74 w75 =>
 stA 19 w75 a72 (x74.1, x74.2).1 fun w76 =>
 (J62 (a72, (x74.1, x74.2).2) w76))))) fun x77 w78 =>
 iteB x77.2 (
 ldA 19 w78 x77.1 fun cs79 =>
 nn t_1 fun a80 =>
 stA 19 w78 (Addr.add a80 0) cs79 fun w81 =>
 (k () w81)) (
 newC w78 #[(.func (.func n_serial_machine_fork) #[(.pointer m_0)] #[]), (.func (.func n_serial_machine_join) #[(.pointer m_0)] #[]), (.func (.func n_serial_machine_join) #[(.pointer m_0)] #[]), (.func (.func n_serial_machine_open) #[(.pointer m_0)] #[]), (.func (.func n_serial_machine_close) #[(.pointer m_0)] #[]), (.func (.func n_serial_machine_cancel) #[(.pointer m_0)] #[]), (.func (.func n_serial_machine_pass) #[(.pointer m_0)] #[]), (.func (.func n_serial_machine_leave) #[(.pointer m_0)] #[]), (.func (.func n_serial_machine_leave) #[(.pointer m_0)] #[])] 110 fun a82 w83 =>
 drew w83 fun w84 =>
 ldI .i64 w84 (Addr.add x17.1 0) fun i85 =>
 ixS (Sl.mk (some a82) 9 9) (IntKind.wrap .i64 (i85 - (8 : Int))) 1 fun a86 =>
 ldV w84 a86 fun v87 =>
 ldA 5 w84 x17.1 fun cs88 =>
 callF (orcP [(n_frame_Frame_Next, (fun args w c _ => unL [.ag, .ag] args fun x => frame_Frame_Next x.1 x.2 w fun r w => c (packV (valL [.ag, (.i .i64)] r)) w)), (n_serial_scope_cancelled, (fun args w c _ => unL [.p] args fun x => serial_scope_cancelled x w fun r w => c (packV (valL [.b] r)) w)), (n_code_Point, (fun args w c _ => unL [(.i .i64)] args fun x => code_Point x w fun r w => c (packV (valL [.b] r)) w)), (n_serial_machine_end, (fun args w c _ => unL [.p, .p, (.i .i64), (.i .i64)] args fun x => serial_machine_end x.1 x.2.1 x.2.2.1 x.2.2.2 w fun r w => c (packV (valL [] r)) w)), (n_serial_deep, (fun args w c q => unL [.p] args fun x => serial_deep x w q fun r w => c (packV (valL [] r)) w)), (n_frame_Frame_Plain, (fun args w c _ => unL [.ag, .ag] args fun x => frame_Frame_Plain x.1 x.2 w fun r w => c (packV (valL [.ag, .b] r)) w)), (n_serial_machine_fork, (fun args w c q => unL [.p, .p, .ag] args fun x => serial_machine_fork x.1 x.2.1 x.2.2 w q fun r w => c (packV (valL [] r)) w)), (n_serial_machine_join, (fun args w c _ => unL [.p, .p, .ag] args fun x => serial_machine_join x.1 x.2.1 x.2.2 w fun r w => c (packV (valL [] r)) w)), (n_serial_machine_open, (fun args w c _ => unL [.p, .p, .ag] args fun x => serial_machine_open x.1 x.2.1 x.2.2 w fun r w => c (packV (valL [] r)) w)), (n_serial_machine_close, (fun args w c _ => unL [.p, .p, .ag] args fun x => serial_machine_close x.1 x.2.1 x.2.2 w fun r w => c (packV (valL [] r)) w)), (n_serial_machine_cancel, (fun args w c _ => unL [.p, .p, .ag] args fun x => serial_machine_cancel x.1 x.2.1 x.2.2 w fun r w => c (packV (valL [] r)) w)), (n_serial_machine_pass, (fun args w c _ => unL [.p, .p, .ag] args fun x => serial_machine_pass x.1 x.2.1 x.2.2 w fun r w => c (packV (valL [] r)) w)), (n_serial_machine_leave, (fun args w c _ => unL [.p, .p, .ag] args fun x => serial_machine_leave x.1 x.2.1 x.2.2 w fun r w => c (packV (valL [] r)) w))] q) v87 #[(.pointer t_1), (.agg cs88)] w84 fun v89 w90 =>
 unT [] v89 fun (u91 : Unit) =>
 (k () w90)))
theorem e_serial_machine_step (frame_Frame_Next : Array Value → Array Value → World → ((Array Value × Int) → World → Prop) → Prop) (serial_scope_cancelled : Option Addr → World → ((Bool) → World → Prop) → Prop) (code_Point : Int → World → ((Bool) → World → Prop) → Prop) (serial_machine_end : Option Addr → Option Addr → Int → Int → World → (Unit → World → Prop) → Prop) (serial_deep : Option Addr → World → (Value → World → Prop) → (Unit → World → Prop) → Prop) (frame_Frame_Plain : Array Value → Array Value → World → ((Array Value × Bool) → World → Prop) → Prop) (serial_machine_fork : Option Addr → Option Addr → Array Value → World → (Value → World → Prop) → (Unit → World → Prop) → Prop) (serial_machine_join : Option Addr → Option Addr → Array Value → World → (Unit → World → Prop) → Prop) (serial_machine_open : Option Addr → Option Addr → Array Value → World → (Unit → World → Prop) → Prop) (serial_machine_close : Option Addr → Option Addr → Array Value → World → (Unit → World → Prop) → Prop) (serial_machine_cancel : Option Addr → Option Addr → Array Value → World → (Unit → World → Prop) → Prop) (serial_machine_pass : Option Addr → Option Addr → Array Value → World → (Unit → World → Prop) → Prop) (serial_machine_leave : Option Addr → Option Addr → Array Value → World → (Unit → World → Prop) → Prop) (x : KT [.p, .p]) (w : World) (k : KT [] → World → Prop) (q : Value → World → Prop) : evFn Go.Proofs.Tryz.prog (orcP [(n_frame_Frame_Next, (fun args w c _ => unL [.ag, .ag] args fun x => frame_Frame_Next x.1 x.2 w fun r w => c (packV (valL [.ag, (.i .i64)] r)) w)), (n_serial_scope_cancelled, (fun args w c _ => unL [.p] args fun x => serial_scope_cancelled x w fun r w => c (packV (valL [.b] r)) w)), (n_code_Point, (fun args w c _ => unL [(.i .i64)] args fun x => code_Point x w fun r w => c (packV (valL [.b] r)) w)), (n_serial_machine_end, (fun args w c _ => unL [.p, .p, (.i .i64), (.i .i64)] args fun x => serial_machine_end x.1 x.2.1 x.2.2.1 x.2.2.2 w fun r w => c (packV (valL [] r)) w)), (n_serial_deep, (fun args w c q => unL [.p] args fun x => serial_deep x w q fun r w => c (packV (valL [] r)) w)), (n_frame_Frame_Plain, (fun args w c _ => unL [.ag, .ag] args fun x => frame_Frame_Plain x.1 x.2 w fun r w => c (packV (valL [.ag, .b] r)) w)), (n_serial_machine_fork, (fun args w c q => unL [.p, .p, .ag] args fun x => serial_machine_fork x.1 x.2.1 x.2.2 w q fun r w => c (packV (valL [] r)) w)), (n_serial_machine_join, (fun args w c _ => unL [.p, .p, .ag] args fun x => serial_machine_join x.1 x.2.1 x.2.2 w fun r w => c (packV (valL [] r)) w)), (n_serial_machine_open, (fun args w c _ => unL [.p, .p, .ag] args fun x => serial_machine_open x.1 x.2.1 x.2.2 w fun r w => c (packV (valL [] r)) w)), (n_serial_machine_close, (fun args w c _ => unL [.p, .p, .ag] args fun x => serial_machine_close x.1 x.2.1 x.2.2 w fun r w => c (packV (valL [] r)) w)), (n_serial_machine_cancel, (fun args w c _ => unL [.p, .p, .ag] args fun x => serial_machine_cancel x.1 x.2.1 x.2.2 w fun r w => c (packV (valL [] r)) w)), (n_serial_machine_pass, (fun args w c _ => unL [.p, .p, .ag] args fun x => serial_machine_pass x.1 x.2.1 x.2.2 w fun r w => c (packV (valL [] r)) w)), (n_serial_machine_leave, (fun args w c _ => unL [.p, .p, .ag] args fun x => serial_machine_leave x.1 x.2.1 x.2.2 w fun r w => c (packV (valL [] r)) w))] q) 38685635469058967005561331 [(0, [(4, .a), (5, (.i .i64))]), (2, []), (4, [(42, .b)]), (8, []), (10, [(63, .b)]), (11, []), (14, [(6, .a), (7, .b)])] Go.Proofs.Tryz.f28 [] (valL [.p, .p] x) w k = serial_machine_step_b frame_Frame_Next serial_scope_cancelled code_Point serial_machine_end serial_deep frame_Frame_Plain serial_machine_fork serial_machine_join serial_machine_open serial_machine_close serial_machine_cancel serial_machine_pass serial_machine_leave x.1 x.2 w q k := by kernel_rfl
theorem s_serial_machine_step_b (frame_Frame_Next : Array Value → Array Value → World → ((Array Value × Int) → World → Prop) → Prop) (serial_scope_cancelled : Option Addr → World → ((Bool) → World → Prop) → Prop) (code_Point : Int → World → ((Bool) → World → Prop) → Prop) (serial_machine_end : Option Addr → Option Addr → Int → Int → World → (Unit → World → Prop) → Prop) (serial_deep : Option Addr → World → (Value → World → Prop) → (Unit → World → Prop) → Prop) (frame_Frame_Plain : Array Value → Array Value → World → ((Array Value × Bool) → World → Prop) → Prop) (serial_machine_fork : Option Addr → Option Addr → Array Value → World → (Value → World → Prop) → (Unit → World → Prop) → Prop) (serial_machine_join : Option Addr → Option Addr → Array Value → World → (Unit → World → Prop) → Prop) (serial_machine_open : Option Addr → Option Addr → Array Value → World → (Unit → World → Prop) → Prop) (serial_machine_close : Option Addr → Option Addr → Array Value → World → (Unit → World → Prop) → Prop) (serial_machine_cancel : Option Addr → Option Addr → Array Value → World → (Unit → World → Prop) → Prop) (serial_machine_pass : Option Addr → Option Addr → Array Value → World → (Unit → World → Prop) → Prop) (serial_machine_leave : Option Addr → Option Addr → Array Value → World → (Unit → World → Prop) → Prop) (h_frame_Frame_Next : SoundP Go.Proofs.Tryz.prog n_frame_Frame_Next (fun args w c _ => unL [.ag, .ag] args fun x => frame_Frame_Next x.1 x.2 w fun r w => c (packV (valL [.ag, (.i .i64)] r)) w)) (h_serial_scope_cancelled : SoundP Go.Proofs.Tryz.prog n_serial_scope_cancelled (fun args w c _ => unL [.p] args fun x => serial_scope_cancelled x w fun r w => c (packV (valL [.b] r)) w)) (h_code_Point : SoundP Go.Proofs.Tryz.prog n_code_Point (fun args w c _ => unL [(.i .i64)] args fun x => code_Point x w fun r w => c (packV (valL [.b] r)) w)) (h_serial_machine_end : SoundP Go.Proofs.Tryz.prog n_serial_machine_end (fun args w c _ => unL [.p, .p, (.i .i64), (.i .i64)] args fun x => serial_machine_end x.1 x.2.1 x.2.2.1 x.2.2.2 w fun r w => c (packV (valL [] r)) w)) (h_serial_deep : SoundP Go.Proofs.Tryz.prog n_serial_deep (fun args w c q => unL [.p] args fun x => serial_deep x w q fun r w => c (packV (valL [] r)) w)) (h_frame_Frame_Plain : SoundP Go.Proofs.Tryz.prog n_frame_Frame_Plain (fun args w c _ => unL [.ag, .ag] args fun x => frame_Frame_Plain x.1 x.2 w fun r w => c (packV (valL [.ag, .b] r)) w)) (h_serial_machine_fork : SoundP Go.Proofs.Tryz.prog n_serial_machine_fork (fun args w c q => unL [.p, .p, .ag] args fun x => serial_machine_fork x.1 x.2.1 x.2.2 w q fun r w => c (packV (valL [] r)) w)) (h_serial_machine_join : SoundP Go.Proofs.Tryz.prog n_serial_machine_join (fun args w c _ => unL [.p, .p, .ag] args fun x => serial_machine_join x.1 x.2.1 x.2.2 w fun r w => c (packV (valL [] r)) w)) (h_serial_machine_open : SoundP Go.Proofs.Tryz.prog n_serial_machine_open (fun args w c _ => unL [.p, .p, .ag] args fun x => serial_machine_open x.1 x.2.1 x.2.2 w fun r w => c (packV (valL [] r)) w)) (h_serial_machine_close : SoundP Go.Proofs.Tryz.prog n_serial_machine_close (fun args w c _ => unL [.p, .p, .ag] args fun x => serial_machine_close x.1 x.2.1 x.2.2 w fun r w => c (packV (valL [] r)) w)) (h_serial_machine_cancel : SoundP Go.Proofs.Tryz.prog n_serial_machine_cancel (fun args w c _ => unL [.p, .p, .ag] args fun x => serial_machine_cancel x.1 x.2.1 x.2.2 w fun r w => c (packV (valL [] r)) w)) (h_serial_machine_pass : SoundP Go.Proofs.Tryz.prog n_serial_machine_pass (fun args w c _ => unL [.p, .p, .ag] args fun x => serial_machine_pass x.1 x.2.1 x.2.2 w fun r w => c (packV (valL [] r)) w)) (h_serial_machine_leave : SoundP Go.Proofs.Tryz.prog n_serial_machine_leave (fun args w c _ => unL [.p, .p, .ag] args fun x => serial_machine_leave x.1 x.2.1 x.2.2 w fun r w => c (packV (valL [] r)) w)) : SoundP Go.Proofs.Tryz.prog n_serial_machine_step fun args w c q => unL [.p, .p] args fun x => serial_machine_step_b frame_Frame_Next serial_scope_cancelled code_Point serial_machine_end serial_deep frame_Frame_Plain serial_machine_fork serial_machine_join serial_machine_open serial_machine_close serial_machine_cancel serial_machine_pass serial_machine_leave x.1 x.2 w q fun r w => c (packV (valL [] r)) w :=
 sound_p (mask := 38685635469058967005561331) (h := [(0, [(4, .a), (5, (.i .i64))]), (2, []), (4, [(42, .b)]), (8, []), (10, [(63, .b)]), (11, []), (14, [(6, .a), (7, .b)])]) (ds := [(n_frame_Frame_Next, (fun args w c _ => unL [.ag, .ag] args fun x => frame_Frame_Next x.1 x.2 w fun r w => c (packV (valL [.ag, (.i .i64)] r)) w)), (n_serial_scope_cancelled, (fun args w c _ => unL [.p] args fun x => serial_scope_cancelled x w fun r w => c (packV (valL [.b] r)) w)), (n_code_Point, (fun args w c _ => unL [(.i .i64)] args fun x => code_Point x w fun r w => c (packV (valL [.b] r)) w)), (n_serial_machine_end, (fun args w c _ => unL [.p, .p, (.i .i64), (.i .i64)] args fun x => serial_machine_end x.1 x.2.1 x.2.2.1 x.2.2.2 w fun r w => c (packV (valL [] r)) w)), (n_serial_deep, (fun args w c q => unL [.p] args fun x => serial_deep x w q fun r w => c (packV (valL [] r)) w)), (n_frame_Frame_Plain, (fun args w c _ => unL [.ag, .ag] args fun x => frame_Frame_Plain x.1 x.2 w fun r w => c (packV (valL [.ag, .b] r)) w)), (n_serial_machine_fork, (fun args w c q => unL [.p, .p, .ag] args fun x => serial_machine_fork x.1 x.2.1 x.2.2 w q fun r w => c (packV (valL [] r)) w)), (n_serial_machine_join, (fun args w c _ => unL [.p, .p, .ag] args fun x => serial_machine_join x.1 x.2.1 x.2.2 w fun r w => c (packV (valL [] r)) w)), (n_serial_machine_open, (fun args w c _ => unL [.p, .p, .ag] args fun x => serial_machine_open x.1 x.2.1 x.2.2 w fun r w => c (packV (valL [] r)) w)), (n_serial_machine_close, (fun args w c _ => unL [.p, .p, .ag] args fun x => serial_machine_close x.1 x.2.1 x.2.2 w fun r w => c (packV (valL [] r)) w)), (n_serial_machine_cancel, (fun args w c _ => unL [.p, .p, .ag] args fun x => serial_machine_cancel x.1 x.2.1 x.2.2 w fun r w => c (packV (valL [] r)) w)), (n_serial_machine_pass, (fun args w c _ => unL [.p, .p, .ag] args fun x => serial_machine_pass x.1 x.2.1 x.2.2 w fun r w => c (packV (valL [] r)) w)), (n_serial_machine_leave, (fun args w c _ => unL [.p, .p, .ag] args fun x => serial_machine_leave x.1 x.2.1 x.2.2 w fun r w => c (packV (valL [] r)) w))]) mixed Go.Proofs.Tryz.func28 ⟨h_frame_Frame_Next, h_serial_scope_cancelled, h_code_Point, h_serial_machine_end, h_serial_deep, h_frame_Frame_Plain, h_serial_machine_fork, h_serial_machine_join, h_serial_machine_open, h_serial_machine_close, h_serial_machine_cancel, h_serial_machine_pass, h_serial_machine_leave, trivial⟩
 [.p, .p] [] (by kernel_rfl) (fun x w k q => serial_machine_step_b frame_Frame_Next serial_scope_cancelled code_Point serial_machine_end serial_deep frame_Frame_Plain serial_machine_fork serial_machine_join serial_machine_open serial_machine_close serial_machine_cancel serial_machine_pass serial_machine_leave x.1 x.2 w q k) (fun x w k q => e_serial_machine_step frame_Frame_Next serial_scope_cancelled code_Point serial_machine_end serial_deep frame_Frame_Plain serial_machine_fork serial_machine_join serial_machine_open serial_machine_close serial_machine_cancel serial_machine_pass serial_machine_leave x w k q)
def serial_Run_2_b (serial_scope_within : Option Addr → Int → World → ((Option Addr) → World → Prop) → Prop) (serial_machine_step : Option Addr → Option Addr → World → (Value → World → Prop) → (Unit → World → Prop) → Prop) (f_0 : Array Value) (parent_1 : Int) (in_2 : Option Addr) (_3 : Addr) (w : World) (q : Value → World → Prop) (k : (Int) → World → Prop) : Prop :=
 newC w f_0 68 fun a1 w2 =>
 drew w2 fun w3 =>
 ldA 19 w3 a1 fun cs4 =>
 ldP w3 _3 fun p5 =>
 nn p5 fun a6 =>
 ldS w3 (Addr.add a6 3) fun s7 =>
 serial_scope_within in_2 (0 : Int) w3 fun p8 w9 =>
 samec 1 (Addr.add a6 3) w3 w9 (
 samec 1 _3 w3 w9 (
 samec 19 a1 w3 w9 (
 spl #[(.int .i64 (0 : Int)), (.int .i64 (0 : Int)), (.int .i64 (0 : Int)), (.int .i64 (0 : Int)), (.int .i64 (0 : Int)), (.int .i64 (0 : Int)), (.int .i64 (0 : Int)), (.int .i64 (0 : Int)), (.int .i64 (0 : Int)), (.int .i64 (0 : Int)), (.int .i64 (0 : Int)), (.int .i64 (0 : Int)), (.int .i64 (0 : Int)), (.int .i64 (0 : Int)), (.int .i64 (0 : Int)), (.int .i64 (0 : Int)), (.int .i64 (0 : Int)), (.int .i64 (0 : Int)), (.int .i64 (0 : Int)), (.int .i64 (0 : Int)), (.pointer none), (.pointer none), (.int .i64 (0 : Int)), (.bool false)] 0 19 cs4 fun cs10 =>
 newC w9 (Array.setIfInBounds (Array.setIfInBounds (Array.setIfInBounds cs10 19 (.int .i64 ((s7.n : Nat) : Int))) 20 (.pointer in_2)) 21 (.pointer p8)) 73 fun a11 w12 =>
 nn in_2 fun a13 =>
 ldI .i64 w12 (Addr.add a13 2) fun i14 =>
 joinP (S := Int) (fun J15 =>
 iteB (decide (parent_1 < (0 : Int))) (
 (J15 (0 : Int) w12)) (
 (J15 i14 w12))) fun i16 w17 =>
 drew w17 fun w18 =>
 ldP w18 _3 fun p19 =>
 ldP w18 _3 fun p20 =>
 nn p20 fun a21 =>
 ldS w18 (Addr.add a21 3) fun s22 =>
 ldI .i64 w18 (Addr.add a1 0) fun i23 =>
 samec 1 (Addr.add a21 3) w18 w18 (
 samec 1 _3 w18 w18 (
 samec 1 _3 w18 w18 (
 spl #[(.int .i64 (0 : Int)), (.int .i64 (0 : Int)), (.int .i64 (0 : Int)), (.int .i64 (0 : Int)), (.int .i64 (0 : Int)), (.int .i64 (0 : Int)), (.string (ByteArray.mk #[]))] 0 7 #[(.int .i64 parent_1), (.int .i64 i16), (.int .i64 i23), (.int .i64 (0 : Int)), (.int .i64 (0 : Int)), (.int .i64 (0 : Int)), (.string (ByteArray.mk #[]))] fun cs24 =>
 newC w18 cs24 40 fun a25 w26 =>
 samec 1 (Addr.add a21 3) w18 w26 (
 samec 1 _3 w18 w26 (
 samec 1 _3 w18 w26 (
 bApp Go.Proofs.Tryz.prog #[25, 25] 25 [(.slice s22.a s22.n s22.c), (.slice (some a25) 1 1)] w26 fun s27 w28 =>
 samec 1 _3 w18 w28 (
 nn p19 fun a29 =>
 stC w28 (Addr.add a29 3) (.slice s27.a s27.n s27.c) fun w30 =>
 loopP (S := Unit) (fun C31 u32 w33 =>
 ldB w33 (Addr.add a11 23) fun b34 =>
 iteB (!b34) (
 ldP w33 _3 fun p35 =>
 serial_machine_step p35 (some a11) w33 q fun _u w36 =>
 (C31 () w36)) (
 ldI .i64 w33 (Addr.add a11 19) fun i37 =>
 (k i37 w33))) () w30))))))))))
theorem e_serial_Run_2 (serial_scope_within : Option Addr → Int → World → ((Option Addr) → World → Prop) → Prop) (serial_machine_step : Option Addr → Option Addr → World → (Value → World → Prop) → (Unit → World → Prop) → Prop) (x : KT [.ag, (.i .i64), .p, .a]) (w : World) (k : KT [(.i .i64)] → World → Prop) (q : Value → World → Prop) : evFn Go.Proofs.Tryz.prog (orcP [(n_serial_scope_within, (fun args w c _ => unL [.p, (.i .i64)] args fun x => serial_scope_within x.1 x.2 w fun r w => c (packV (valL [.p] r)) w)), (n_serial_machine_step, (fun args w c q => unL [.p, .p] args fun x => serial_machine_step x.1 x.2 w q fun r w => c (packV (valL [] r)) w))] q) 35184439198622 [(4, [(9, (.i .i64))]), (8, [])] Go.Proofs.Tryz.f26 [(.i .i64)] (valL [.ag, (.i .i64), .p, .a] x) w k = serial_Run_2_b serial_scope_within serial_machine_step x.1 x.2.1 x.2.2.1 x.2.2.2 w q k := by kernel_rfl
theorem s_serial_Run_2_b (serial_scope_within : Option Addr → Int → World → ((Option Addr) → World → Prop) → Prop) (serial_machine_step : Option Addr → Option Addr → World → (Value → World → Prop) → (Unit → World → Prop) → Prop) (h_serial_scope_within : SoundP Go.Proofs.Tryz.prog n_serial_scope_within (fun args w c _ => unL [.p, (.i .i64)] args fun x => serial_scope_within x.1 x.2 w fun r w => c (packV (valL [.p] r)) w)) (h_serial_machine_step : SoundP Go.Proofs.Tryz.prog n_serial_machine_step (fun args w c q => unL [.p, .p] args fun x => serial_machine_step x.1 x.2 w q fun r w => c (packV (valL [] r)) w)) : SoundP Go.Proofs.Tryz.prog n_serial_Run_2 fun args w c q => unL [.ag, (.i .i64), .p, .a] args fun x => serial_Run_2_b serial_scope_within serial_machine_step x.1 x.2.1 x.2.2.1 x.2.2.2 w q fun r w => c (packV (valL [(.i .i64)] r)) w :=
 sound_p (mask := 35184439198622) (h := [(4, [(9, (.i .i64))]), (8, [])]) (ds := [(n_serial_scope_within, (fun args w c _ => unL [.p, (.i .i64)] args fun x => serial_scope_within x.1 x.2 w fun r w => c (packV (valL [.p] r)) w)), (n_serial_machine_step, (fun args w c q => unL [.p, .p] args fun x => serial_machine_step x.1 x.2 w q fun r w => c (packV (valL [] r)) w))]) mixed Go.Proofs.Tryz.func26 ⟨h_serial_scope_within, h_serial_machine_step, trivial⟩
 [.ag, (.i .i64), .p, .a] [(.i .i64)] (by kernel_rfl) (fun x w k q => serial_Run_2_b serial_scope_within serial_machine_step x.1 x.2.1 x.2.2.1 x.2.2.2 w q k) (fun x w k q => e_serial_Run_2 serial_scope_within serial_machine_step x w k q)
def serial_Run_1_R (c_0 : Addr) (c_1 : Addr) (c_2 : Addr) (w : World) (k : World → Prop) : Prop :=
 (k w)
def serial_Run_1_P (c_0 : Addr) (c_1 : Addr) (c_2 : Addr) (t : TypeId) (v : Value) (w : World) (k : World → Prop) : Prop :=
 tyA Go.Proofs.Tryz.prog (.iface t v) 20 62 true w fun v1 w2 =>
 unT [(.i .i64), .b] v1 fun (x3 : Int × Bool) =>
 iteB (!x3.2) (
 False) (
 stC w2 c_0 (.slice none 0 0) fun w4 =>
 stC w4 c_1 (.int .i64 (0 : Int)) fun w5 =>
 stC w5 c_2 (.int .i64 x3.1) fun w6 =>
 (k w6))
def serial_Run_1_Q (c_0 : Addr) (c_1 : Addr) (c_2 : Addr) (rv : Value) (w : World) (k : World → Prop) : Prop := match rv with | .iface t v => serial_Run_1_P c_0 c_1 c_2 t v w k | _ => False
theorem e_serial_Run_1_R (x : KT [.a, .a, .a]) (w : World) (k : World → Prop) : evRecv Go.Proofs.Tryz.prog (orcOf []) 262143 (dOf (rRc Go.Proofs.Tryz.f25)) (dOf (rAs Go.Proofs.Tryz.f25)) (rRest Go.Proofs.Tryz.f25) (valL [.a, .a, .a] x) .nilIface w k = serial_Run_1_R x.1 x.2.1 x.2.2 w k := by kernel_rfl
theorem e_serial_Run_1_P (x : KT [.a, .a, .a]) (t : TypeId) (v : Value) (w : World) (k : World → Prop) : evRecv Go.Proofs.Tryz.prog (orcOf []) 262143 (dOf (rRc Go.Proofs.Tryz.f25)) (dOf (rAs Go.Proofs.Tryz.f25)) (rRest Go.Proofs.Tryz.f25) (valL [.a, .a, .a] x) (.iface t v) w k = serial_Run_1_P x.1 x.2.1 x.2.2 t v w k := by kernel_rfl
theorem sr_serial_Run_1 : DR Go.Proofs.Tryz.prog n_serial_Run_1 fun l w k => unL [.a, .a, .a] l fun x => serial_Run_1_R x.1 x.2.1 x.2.2 w k := fun l w k h => by
 obtain ⟨x, rfl, h⟩ := unL_inv h
 exact recv_ret (mask := 262143) (rid := (rParts Go.Proofs.Tryz.f25).1) (rc := rRc Go.Proofs.Tryz.f25) (as_ := rAs Go.Proofs.Tryz.f25) (r := dOf (rRc Go.Proofs.Tryz.f25)) (s := dOf (rAs Go.Proofs.Tryz.f25)) (rest := rRest Go.Proofs.Tryz.f25) (n := 3) mixed Go.Proofs.Tryz.func25 (by kernel_rfl) (by kernel_rfl) (by kernel_rfl) (by kernel_rfl) (by kernel_rfl) ⟨by kernel_rfl, by kernel_rfl, by kernel_rfl, by kernel_rfl, by kernel_rfl, by kernel_rfl⟩ (orc_ok (l := []) trivial) _ w k ⟨by rfl, by rw [e_serial_Run_1_R]; exact h⟩
theorem sp_serial_Run_1 : DP Go.Proofs.Tryz.prog n_serial_Run_1 fun l v w k => unL [.a, .a, .a] l fun x => serial_Run_1_Q x.1 x.2.1 x.2.2 v w k := fun l rv w k h => by
 obtain ⟨x, rfl, h⟩ := unL_inv h
 cases rv with
 | iface t v => exact recv_pan (mask := 262143) (rid := (rParts Go.Proofs.Tryz.f25).1) (rc := rRc Go.Proofs.Tryz.f25) (as_ := rAs Go.Proofs.Tryz.f25) (r := dOf (rRc Go.Proofs.Tryz.f25)) (s := dOf (rAs Go.Proofs.Tryz.f25)) (rest := rRest Go.Proofs.Tryz.f25) (n := 3) mixed Go.Proofs.Tryz.func25 (by kernel_rfl) (by kernel_rfl) (by kernel_rfl) (by kernel_rfl) (by kernel_rfl) ⟨by kernel_rfl, by kernel_rfl, by kernel_rfl, by kernel_rfl, by kernel_rfl, by kernel_rfl⟩ (orc_ok (l := []) trivial) _ _ w k ⟨by rfl, by rw [e_serial_Run_1_P]; exact h⟩
 | _ => exact h.elim
def serial_Run_b (check_Accepts : Array Value → World → ((Bool) → World → Prop) → Prop) (frame_Root : World → ((Array Value) → World → Prop) → Prop) (serial_Run_2 : Array Value → Int → Option Addr → Addr → World → (Value → World → Prop) → ((Int) → World → Prop) → Prop) (R : Addr → Addr → Addr → World → (World → Prop) → Prop) (Q : Addr → Addr → Addr → Value → World → (World → Prop) → Prop) (p_0 : Array Value) (fuel_1 : Int) (w : World) (k : (Sl × Int × Int) → World → Prop) : Prop :=
 newC w p_0 24 fun a1 w2 =>
 newC w2 #[(.slice none 0 0)] 25 fun a3 w4 =>
 newC w4 #[(.int .i64 (0 : Int))] 3 fun a5 w6 =>
 newC w6 #[(.int .i64 (0 : Int))] 28 fun a7 w8 =>
 ldA 1 w8 a1 fun cs9 =>
 check_Accepts cs9 w8 fun b10 w11 =>
 iteB (!b10) (
 stC w11 a3 (.slice none 0 0) fun w12 =>
 stC w12 a5 (.int .i64 (0 : Int)) fun w13 =>
 stC w13 a7 (.int .i64 (24 : Int)) fun w14 =>
 ldS w14 a3 fun s15 =>
 ldI .i64 w14 a5 fun i16 =>
 ldI .i64 w14 a7 fun i17 =>
 (k (s15, (i16, i17)) w14)) (
 iteB ((decide (fuel_1 < (0 : Int))) || (decide (fuel_1 > (1048576 : Int)))) (
 stC w11 a3 (.slice none 0 0) fun w18 =>
 stC w18 a5 (.int .i64 (0 : Int)) fun w19 =>
 stC w19 a7 (.int .i64 (10 : Int)) fun w20 =>
 ldS w20 a3 fun s21 =>
 ldI .i64 w20 a5 fun i22 =>
 ldI .i64 w20 a7 fun i23 =>
 (k (s21, (i22, i23)) w20)) (
 ldA 1 w11 a1 fun cs24 =>
 spl #[(.slice none 0 0), (.int .i64 (0 : Int)), (.int .i64 (0 : Int)), (.slice none 0 0), .nilFunc] 0 1 cs24 fun cs25 =>
 newC w11 (Array.setIfInBounds cs25 1 (.int .i64 fuel_1)) 67 fun a26 w27 =>
 newC w27 #[(.pointer none)] 64 fun a28 w29 =>
 stC w29 a28 (.pointer (some a26)) fun w30 =>
 ldP w30 a28 fun p31 =>
 nn p31 fun a32 =>
 stC w30 (Addr.add a32 4) (.func (.func n_serial_Run_2) #[] #[(.pointer (some a28))]) fun w33 =>
 drew w33 fun w34 =>
 ldP w34 a28 fun p35 =>
 nn p35 fun a36 =>
 ldV w34 (Addr.add a36 4) fun v37 =>
 both (
 frame_Root  w34 fun cs44 w45 =>
 samec 1 (Addr.add a36 4) w34 w45 (
 samec 1 a28 w34 w45 (
 samec 1 (Addr.add a36 4) w34 w45 (
 samec 1 a28 w34 w45 (
 newC w45 #[(.pointer none), (.bool false), (.int .i64 (0 : Int)), (.int .i64 (0 : Int))] 75 fun a46 w47 =>
 samec 1 (Addr.add a36 4) w34 w47 (
 samec 1 a28 w34 w47 (
 callF (orcP [(n_check_Accepts, (fun args w c _ => unL [.ag] args fun x => check_Accepts x w fun r w => c (packV (valL [.b] r)) w)), (n_frame_Root, (fun args w c _ => unL [] args fun x => frame_Root  w fun r w => c (packV (valL [.ag] r)) w)), (n_serial_Run_2, (fun args w c q => unL [.ag, (.i .i64), .p, .a] args fun x => serial_Run_2 x.1 x.2.1 x.2.2.1 x.2.2.2 w q fun r w => c (packV (valL [(.i .i64)] r)) w))] (fun v48 w49 =>
 Q a3 a5 a7 v48 w49 fun w50 =>
 ldS w50 a3 fun s51 =>
 ldI .i64 w50 a5 fun i52 =>
 ldI .i64 w50 a7 fun i53 =>
 (k (s51, (i52, i53)) w50))) v37 #[(.agg cs44), (.int .i64 (-(1 : Int))), (.pointer (some a46))] w47 fun v54 w55 =>
 toI .i64 v54 fun i56 =>
 drew w55 fun w57 =>
 ldP w57 a28 fun p58 =>
 nn p58 fun a59 =>
 ldS w57 (Addr.add a59 3) fun s60 =>
 ldP w57 a28 fun p61 =>
 nn p61 fun a62 =>
 ldI .i64 w57 (Addr.add a62 2) fun i63 =>
 stC w57 a3 (.slice s60.a s60.n s60.c) fun w64 =>
 samec 1 (Addr.add a62 2) w57 w64 (
 samec 1 a28 w57 w64 (
 stC w64 a5 (.int .i64 i63) fun w65 =>
 stC w65 a7 (.int .i64 (0 : Int)) fun w66 =>
 R a3 a5 a7 w66 fun w67 =>
 ldS w67 a3 fun s68 =>
 ldI .i64 w67 a5 fun i69 =>
 ldI .i64 w67 a7 fun i70 =>
 (k (s68, (i69, i70)) w67)))))))))) (
 samec 1 (Addr.add a36 4) w34 w34 (
 samec 1 a28 w34 w34 (
 both (
 frame_Root  w34 fun cs77 w78 =>
 samec 1 (Addr.add a36 4) w34 w78 (
 samec 1 a28 w34 w78 (
 newC w78 #[(.pointer none), (.bool false), (.int .i64 (0 : Int)), (.int .i64 (0 : Int))] 75 fun a79 w80 =>
 samec 1 (Addr.add a36 4) w34 w80 (
 samec 1 a28 w34 w80 (
 callF (orcP [(n_check_Accepts, (fun args w c _ => unL [.ag] args fun x => check_Accepts x w fun r w => c (packV (valL [.b] r)) w)), (n_frame_Root, (fun args w c _ => unL [] args fun x => frame_Root  w fun r w => c (packV (valL [.ag] r)) w)), (n_serial_Run_2, (fun args w c q => unL [.ag, (.i .i64), .p, .a] args fun x => serial_Run_2 x.1 x.2.1 x.2.2.1 x.2.2.2 w q fun r w => c (packV (valL [(.i .i64)] r)) w))] (fun v81 w82 =>
 Q a3 a5 a7 v81 w82 fun w83 =>
 ldS w83 a3 fun s84 =>
 ldI .i64 w83 a5 fun i85 =>
 ldI .i64 w83 a7 fun i86 =>
 (k (s84, (i85, i86)) w83))) v37 #[(.agg cs77), (.int .i64 (-(1 : Int))), (.pointer (some a79))] w80 fun v87 w88 =>
 toI .i64 v87 fun i89 =>
 drew w88 fun w90 =>
 ldP w90 a28 fun p91 =>
 nn p91 fun a92 =>
 ldS w90 (Addr.add a92 3) fun s93 =>
 ldP w90 a28 fun p94 =>
 nn p94 fun a95 =>
 ldI .i64 w90 (Addr.add a95 2) fun i96 =>
 stC w90 a3 (.slice s93.a s93.n s93.c) fun w97 =>
 samec 1 (Addr.add a95 2) w90 w97 (
 samec 1 a28 w90 w97 (
 stC w97 a5 (.int .i64 i96) fun w98 =>
 stC w98 a7 (.int .i64 (0 : Int)) fun w99 =>
 R a3 a5 a7 w99 fun w100 =>
 ldS w100 a3 fun s101 =>
 ldI .i64 w100 a5 fun i102 =>
 ldI .i64 w100 a7 fun i103 =>
 (k (s101, (i102, i103)) w100)))))))) (
 newC w34 #[(.pointer none), (.bool false), (.int .i64 (0 : Int)), (.int .i64 (0 : Int))] 75 fun a104 w105 =>
 samec 1 (Addr.add a36 4) w34 w105 (
 samec 1 a28 w34 w105 (
 frame_Root  w105 fun cs112 w113 =>
 samec 1 (Addr.add a36 4) w34 w113 (
 samec 1 a28 w34 w113 (
 callF (orcP [(n_check_Accepts, (fun args w c _ => unL [.ag] args fun x => check_Accepts x w fun r w => c (packV (valL [.b] r)) w)), (n_frame_Root, (fun args w c _ => unL [] args fun x => frame_Root  w fun r w => c (packV (valL [.ag] r)) w)), (n_serial_Run_2, (fun args w c q => unL [.ag, (.i .i64), .p, .a] args fun x => serial_Run_2 x.1 x.2.1 x.2.2.1 x.2.2.2 w q fun r w => c (packV (valL [(.i .i64)] r)) w))] (fun v114 w115 =>
 Q a3 a5 a7 v114 w115 fun w116 =>
 ldS w116 a3 fun s117 =>
 ldI .i64 w116 a5 fun i118 =>
 ldI .i64 w116 a7 fun i119 =>
 (k (s117, (i118, i119)) w116))) v37 #[(.agg cs112), (.int .i64 (-(1 : Int))), (.pointer (some a104))] w113 fun v120 w121 =>
 toI .i64 v120 fun i122 =>
 drew w121 fun w123 =>
 ldP w123 a28 fun p124 =>
 nn p124 fun a125 =>
 ldS w123 (Addr.add a125 3) fun s126 =>
 ldP w123 a28 fun p127 =>
 nn p127 fun a128 =>
 ldI .i64 w123 (Addr.add a128 2) fun i129 =>
 stC w123 a3 (.slice s126.a s126.n s126.c) fun w130 =>
 samec 1 (Addr.add a128 2) w123 w130 (
 samec 1 a28 w123 w130 (
 stC w130 a5 (.int .i64 i129) fun w131 =>
 stC w131 a7 (.int .i64 (0 : Int)) fun w132 =>
 R a3 a5 a7 w132 fun w133 =>
 ldS w133 a3 fun s134 =>
 ldI .i64 w133 a5 fun i135 =>
 ldI .i64 w133 a7 fun i136 =>
 (k (s134, (i135, i136)) w133)))))))))))))
theorem e_serial_Run (check_Accepts : Array Value → World → ((Bool) → World → Prop) → Prop) (frame_Root : World → ((Array Value) → World → Prop) → Prop) (serial_Run_2 : Array Value → Int → Option Addr → Addr → World → (Value → World → Prop) → ((Int) → World → Prop) → Prop) (R : Addr → Addr → Addr → World → (World → Prop) → Prop) (Q : Addr → Addr → Addr → Value → World → (World → Prop) → Prop) (x : KT [.ag, (.i .i64)]) (w : World) (k : KT [.s, (.i .i64), (.i .i64)] → World → Prop) : evFnX Go.Proofs.Tryz.prog (orcOf [(n_check_Accepts, (fun args w c => unL [.ag] args fun x => check_Accepts x w fun r w => c (packV (valL [.b] r)) w)), (n_frame_Root, (fun args w c => unL [] args fun x => frame_Root  w fun r w => c (packV (valL [.ag] r)) w))]) (fun q => orcP [(n_check_Accepts, (fun args w c _ => unL [.ag] args fun x => check_Accepts x w fun r w => c (packV (valL [.b] r)) w)), (n_frame_Root, (fun args w c _ => unL [] args fun x => frame_Root  w fun r w => c (packV (valL [.ag] r)) w)), (n_serial_Run_2, (fun args w c q => unL [.ag, (.i .i64), .p, .a] args fun x => serial_Run_2 x.1 x.2.1 x.2.2.1 x.2.2.2 w q fun r w => c (packV (valL [(.i .i64)] r)) w))] q) (fun l w k => unL [.a, .a, .a] l fun x => R x.1 x.2.1 x.2.2 w k) (fun l v w k => unL [.a, .a, .a] l fun x => Q x.1 x.2.1 x.2.2 v w k) 4398046511103 (xPre Go.Proofs.Tryz.f13) (xD Go.Proofs.Tryz.f13) (xG Go.Proofs.Tryz.f13) (xCaps Go.Proofs.Tryz.f13) (xPost Go.Proofs.Tryz.f13) Go.Proofs.Tryz.f13 [.s, (.i .i64), (.i .i64)] (valL [.ag, (.i .i64)] x) w k = serial_Run_b check_Accepts frame_Root serial_Run_2 R Q x.1 x.2 w k := by kernel_rfl
theorem s_serial_Run_b (check_Accepts : Array Value → World → ((Bool) → World → Prop) → Prop) (frame_Root : World → ((Array Value) → World → Prop) → Prop) (serial_Run_2 : Array Value → Int → Option Addr → Addr → World → (Value → World → Prop) → ((Int) → World → Prop) → Prop) (R : Addr → Addr → Addr → World → (World → Prop) → Prop) (Q : Addr → Addr → Addr → Value → World → (World → Prop) → Prop) (hpre : AllSound Go.Proofs.Tryz.prog [(n_check_Accepts, (fun args w c => unL [.ag] args fun x => check_Accepts x w fun r w => c (packV (valL [.b] r)) w)), (n_frame_Root, (fun args w c => unL [] args fun x => frame_Root  w fun r w => c (packV (valL [.ag] r)) w))]) (hpost : AllSoundP Go.Proofs.Tryz.prog [(n_check_Accepts, (fun args w c _ => unL [.ag] args fun x => check_Accepts x w fun r w => c (packV (valL [.b] r)) w)), (n_frame_Root, (fun args w c _ => unL [] args fun x => frame_Root  w fun r w => c (packV (valL [.ag] r)) w)), (n_serial_Run_2, (fun args w c q => unL [.ag, (.i .i64), .p, .a] args fun x => serial_Run_2 x.1 x.2.1 x.2.2.1 x.2.2.2 w q fun r w => c (packV (valL [(.i .i64)] r)) w))]) (hR : DR Go.Proofs.Tryz.prog n_serial_Run_1 fun l w k => unL [.a, .a, .a] l fun x => R x.1 x.2.1 x.2.2 w k) (hP : DP Go.Proofs.Tryz.prog n_serial_Run_1 fun l v w k => unL [.a, .a, .a] l fun x => Q x.1 x.2.1 x.2.2 v w k) : Sound Go.Proofs.Tryz.prog n_serial_Run fun args w c => unL [.ag, (.i .i64)] args fun x => serial_Run_b check_Accepts frame_Root serial_Run_2 R Q x.1 x.2 w fun r w => c (packV (valL [.s, (.i .i64), (.i .i64)] r)) w :=
 sound_x (mask := 4398046511103) (rid := xRid Go.Proofs.Tryz.f13) (mk := xMk Go.Proofs.Tryz.f13) (df := xDf Go.Proofs.Tryz.f13) mixed Go.Proofs.Tryz.func13 (by kernel_rfl) ⟨by kernel_rfl, by kernel_rfl, by kernel_rfl, by kernel_rfl, by kernel_rfl, by kernel_rfl⟩ (by kernel_rfl) (by kernel_rfl) (orc_ok hpre) (fun q => orcP_ok hpost) hR hP [.ag, (.i .i64)] [.s, (.i .i64), (.i .i64)] (by kernel_rfl) (fun x w k => serial_Run_b check_Accepts frame_Root serial_Run_2 R Q x.1 x.2 w k) (fun x w k => e_serial_Run check_Accepts frame_Root serial_Run_2 R Q x w k)
abbrev RunT := Array Value → Int → Option Addr → Addr → World → (Value → World → Prop) → (Int → World → Prop) → Prop
def forkOf (run : RunT) := serial_machine_fork_b frame_Frame_Child frame_Frame_Forked run
def stepOf (run : RunT) := serial_machine_step_b frame_Frame_Next serial_scope_cancelled code_Point serial_machine_end serial_deep frame_Frame_Plain (forkOf run) serial_machine_join serial_machine_open serial_machine_close serial_machine_cancel serial_machine_pass serial_machine_leave
def runN : Nat → RunT
 | 0 => fun _ _ _ _ _ _ _ => False
 | n + 1 => serial_Run_2_b serial_scope_within (stepOf (runN n))
def decRun (run : RunT) : DecP := fun args w c q => unL [.ag, (.i .i64), .p, .a] args fun x => run x.1 x.2.1 x.2.2.1 x.2.2.2 w q fun r w => c (packV (valL [(.i .i64)] r)) w
theorem s_forkOf (run : RunT) (h : SoundP Go.Proofs.Tryz.prog n_serial_Run_2 (decRun run)) : SoundP Go.Proofs.Tryz.prog n_serial_machine_fork fun args w c q => unL [.p, .p, .ag] args fun x => forkOf run x.1 x.2.1 x.2.2 w q fun r w => c (packV (valL [] r)) w := s_serial_machine_fork_b frame_Frame_Child frame_Frame_Forked run (Sound.p s_frame_Frame_Child) (Sound.p s_frame_Frame_Forked) h
theorem s_stepOf (run : RunT) (h : SoundP Go.Proofs.Tryz.prog n_serial_Run_2 (decRun run)) : SoundP Go.Proofs.Tryz.prog n_serial_machine_step fun args w c q => unL [.p, .p] args fun x => stepOf run x.1 x.2 w q fun r w => c (packV (valL [] r)) w := s_serial_machine_step_b frame_Frame_Next serial_scope_cancelled code_Point serial_machine_end serial_deep frame_Frame_Plain (forkOf run) serial_machine_join serial_machine_open serial_machine_close serial_machine_cancel serial_machine_pass serial_machine_leave (Sound.p s_frame_Frame_Next) (Sound.p s_serial_scope_cancelled) (Sound.p s_code_Point) (Sound.p s_serial_machine_end) s_serial_deep (Sound.p s_frame_Frame_Plain) (s_forkOf run h) (Sound.p s_serial_machine_join) (Sound.p s_serial_machine_open) (Sound.p s_serial_machine_close) (Sound.p s_serial_machine_cancel) (Sound.p s_serial_machine_pass) (Sound.p s_serial_machine_leave)
theorem s_runN : ∀ n, SoundP Go.Proofs.Tryz.prog n_serial_Run_2 (decRun (runN n))
 | 0 => ⟨⟨_, Go.Proofs.Tryz.func26, by kernel_rfl, by kernel_rfl⟩, fun args w c q h => by
 obtain ⟨x, _, h⟩ := unL_inv h
 exact h.elim⟩
 | n + 1 => s_serial_Run_2_b serial_scope_within (stepOf (runN n)) (Sound.p s_serial_scope_within) (s_stepOf _ (s_runN n))
def serial_Run_2 : RunT := fun f p i c w q k => ∃ n, runN n f p i c w q k
theorem s_serial_Run_2 : SoundP Go.Proofs.Tryz.prog n_serial_Run_2 (decRun serial_Run_2) := ⟨(s_runN 0).1, fun args w c q h => by
 obtain ⟨x, hx, n, h⟩ := unL_inv h
 refine (s_runN n).2 args w c q ?_
 unfold decRun
 rw [hx, unL_val]
 exact h⟩
def serial_Run (p_0 : Array Value) (fuel_1 : Int) (w : World) (k : (Sl × Int × Int) → World → Prop) : Prop := serial_Run_b check_Accepts frame_Root serial_Run_2 serial_Run_1_R serial_Run_1_Q p_0 fuel_1 w k
def d_serial_Run : Dec := fun args w c => unL [.ag, (.i .i64)] args fun x => serial_Run x.1 x.2 w fun r w => c (packV (valL [.s, (.i .i64), (.i .i64)] r)) w
theorem s_serial_Run : Sound Go.Proofs.Tryz.prog n_serial_Run d_serial_Run := s_serial_Run_b check_Accepts frame_Root serial_Run_2 serial_Run_1_R serial_Run_1_Q ⟨s_check_Accepts, s_frame_Root, trivial⟩ ⟨(Sound.p s_check_Accepts), (Sound.p s_frame_Root), s_serial_Run_2, trivial⟩ sr_serial_Run_1 sp_serial_Run_1
end Go.Proofs.YtgkfbagclkjilaaGreatDoor
namespace Go.Proofs.YtgkfbagclkjilaaGreatDoor
open Go Go.Ev Go.Proofs
open Go.Proofs.YtgkfbagclkjilaaGreatDoor.Fr (fTo fOn fPlain fForked fJoined fClosed fChild fRoot fR isB fTo_len fOn_len fPlain_len fForked_len fJoined_len fClosed_len)
open Go.Proofs.YtgkfbagclkjilaaGreatDoor.Ck (opI Walk Accs needsOf isGoes heldL depths stepD handlesOk subBits scopesOk forks)
def told (l : List Bool) : ByteArray := ⟨(l.map fun b => if b then (49 : UInt8) else 48).toArray⟩
theorem told_len (l : List Bool) : (told l).size = l.length := by simp [told, ByteArray.size]
theorem told_app (l : List Bool) (b : Bool) : told l ++ ByteArray.mk #[if b then 49 else 48] = told (l ++ [b]) := by
  apply ByteArray.ext
  rw [ByteArray.data_append]
  simp [told]
def rwV (r : Rw) : List Value := [.int .i64 r.par, .int .i64 r.inn, .int .i64 r.fn, .int .i64 r.kind, .int .i64 r.v, .int .i64 r.steps, .string (told r.cl)]
def rowsV (rs : List Rw) : List Value := (rs.map rwV).flatten
theorem rows_all (rs : List Rw) : ∀ e ∈ rs.map rwV, e.length = 7 := by
  intro e he
  obtain ⟨r, _, rfl⟩ := List.mem_map.1 he
  rfl
theorem rows_get {rs : List Rw} {i j : Nat} {r : Rw} (h : rs[i]? = some r) (hj : j < 7) : (rowsV rs)[i * 7 + j]? = (rwV r)[j]? :=
  Ck.flat_get (rows_all rs) (by rw [List.getElem?_map, h]; rfl) hj
theorem rows_n {w0 w : World} {L : List HP} {s : Sl} {rs : List Rw} {f : HP → List HP} (h : St w0 w L) [a : At L (slc 7 s) (rowsV rs) f] : s.n = rs.length := by
  have := h.slen (sz := 7) (s := s) (vs := rowsV rs)
  unfold rowsV at this
  rw [Ck.flat_len (rows_all rs), List.length_map] at this
  omega
theorem rows_set {rs : List Rw} {i j : Nat} {r r' : Rw} {v : Value} (h : rs[i]? = some r) (hj : j < 7) (hv : (rwV r).set j v = rwV r') : (rowsV rs).set (i * 7 + j) v = rowsV (rs.set i r') := by
  unfold rowsV
  rw [Ck.flat_set (rows_all rs) (e := rwV r) (by rw [List.getElem?_map, h]; rfl) hj, hv, List.map_set]
theorem row_at {rs : List Rw} {i : Nat} (h : i < rs.length) : rs[i]? = some (rs.getD i r0) := by simp [List.getD_eq_getElem?_getD, h]
def Chn (w : World) : Option Addr → List (Bool × Int) → Prop
  | p, [] => p = none
  | p, x :: l => ∃ g p', p = some ⟨g, 0, none⟩ ∧ Blk w g #[.pointer p', .bool x.1, .int .i64 x.2, .int .i64 (l.length : Nat)] ∧ Chn w p' l
def emp : HP where
  p F w := ∀ g, ¬ F g
  lt := fun h hg => (h _ hg).elim
  keep := fun h _ => h
def seg (n : Nat) (pe : Option Addr) : Option Addr → List (Bool × Int) → HP
  | p, [] => pureHP (p = pe) emp
  | p, x :: l => exHP fun y : Nat × Option Addr => pureHP (p = some ⟨y.1, 0, none⟩) (sepHP [blk y.1 [.pointer y.2, .bool x.1, .int .i64 x.2, .int .i64 ((n + l.length : Nat) : Int)], seg n pe y.2 l])
section
variable {w0 w : World} {R : List HP} {n : Nat} {pe p : Option Addr} {x : Bool × Int} {l : List (Bool × Int)}
theorem seg_open (h : St w0 w (seg n pe p (x :: l) :: R)) : ∃ g p', p = some ⟨g, 0, none⟩ ∧ St w0 w (blk g [.pointer p', .bool x.1, .int .i64 x.2, .int .i64 ((n + l.length : Nat) : Int)] :: seg n pe p' l :: R) := by
  obtain ⟨y, h⟩ := St.some h
  obtain ⟨hp, h⟩ := h.pure
  exact ⟨y.1, y.2, hp, h.open⟩
theorem seg_shut {g : Nat} {p' : Option Addr} (h : St w0 w (blk g [.pointer p', .bool x.1, .int .i64 x.2, .int .i64 ((n + l.length : Nat) : Int)] :: seg n pe p' l :: R)) : St w0 w (seg n pe (some ⟨g, 0, none⟩) (x :: l) :: R) := by
  refine St.ex (X := fun y : Nat × Option Addr => pureHP (some ⟨g, 0, none⟩ = some (⟨y.1, 0, none⟩ : Addr)) (sepHP [blk y.1 [.pointer y.2, .bool x.1, .int .i64 x.2, .int .i64 ((n + l.length : Nat) : Int)], seg n pe y.2 l])) (g, p') (St.pur rfl (St.shut ?_))
  exact h
theorem seg_none (h : St w0 w (seg n pe p [] :: R)) : p = pe := by
  have h : St w0 w (pureHP (p = pe) emp :: R) := h
  exact h.pure.1
theorem seg_nil (h : St w0 w R) : St w0 w (seg n pe pe [] :: R) := by
  refine St.pur (p := pe = pe) rfl ?_
  exact h.new (.refl _ _) (F' := fun _ => False) (fun g hg => hg) fun _ h => h.elim
theorem seg_chn {B : List (Bool × Int)} (hB : St w0 w R → Chn w pe B) : ∀ {l : List (Bool × Int)} {p : Option Addr}, St w0 w (seg B.length pe p l :: R) → Chn w p (l ++ B)
  | [], p, h => by
    rw [seg_none h]
    exact hB h.drop
  | x :: l, p, h => by
    obtain ⟨g, p', hp, h⟩ := seg_open h
    refine ⟨g, p', hp, ?_, seg_chn hB h.drop⟩
    have := h.blk (g := g) (cs := [.pointer p', .bool x.1, .int .i64 x.2, .int .i64 ((B.length + l.length : Nat) : Int)])
    have e : (l ++ B).length = B.length + l.length := by simp; omega
    show Blk w g #[.pointer p', .bool x.1, .int .i64 x.2, .int .i64 (((l ++ B).length : Nat) : Int)]
    rw [e]
    exact this
theorem cancelled_s {k : Bool → World → Prop} : ∀ {l : List (Bool × Int)} {p : Option Addr}, Chn w p l → k (l.any (·.1)) w → ∃ n, iterP (fun (C1 : Option Addr → World → Prop) p2 w3 =>
    iteB (!(Option.isNone p2)) (
      nn p2 fun a4 =>
      ldB w3 (Addr.add a4 1) fun b5 =>
      iteB b5 (
        (k true w3)) (
        nn p2 fun a6 =>
        ldP w3 (Addr.add a6 0) fun p7 =>
        (C1 p7 w3))) (
      (k false w3))) n p w
  | [], p, h, hk => ⟨1, by
    cases h
    simpa [iterP, iteB] using hk⟩
  | x :: l, p, ⟨g, p', hp, hb, h⟩, hk => by
    subst hp
    cases hx : x.1 with
    | true =>
      refine ⟨1, ?_⟩
      unfold iterP
      refine iteB_t rfl (ldB_i (n := true) (by rw [add_mk, hb.cell]; simp [hx]) (iteB_t rfl ?_))
      rw [List.any_cons, hx] at hk; exact hk
    | false =>
      rw [List.any_cons, hx, Bool.false_or] at hk
      obtain ⟨n, hn⟩ := cancelled_s h hk
      refine ⟨n + 1, ?_⟩
      unfold iterP
      refine iteB_t rfl (ldB_i (n := false) (by rw [add_mk, hb.cell]; simp [hx]) (iteB_f rfl ?_))
      refine ldP_i (n := p') (by rw [add_mk, hb.cell]; simp) hn
theorem cancel_s {k : Bool → World → Prop} (h : Chn w p l) (hk : k (l.any (·.1)) w) : serial_scope_cancelled p w k := cancelled_s h hk
end
def tskV (t : Tk) (pi pl : Option Addr) (d : Bool) : List Value := ints t.f ++ [.int .i64 t.row, .pointer pi, .pointer pl, .int .i64 t.opened, .bool d]
section
variable {w0 w : World} {L R : List HP} {gm gt : Nat} {t : Tk} {m : Mc} {s : Sl} {A B C D : Value} {pi pl : Option Addr} {d : Bool} {i : List Int} {n : Nat}
theorem tsk_len (hf : t.f.length = 19) : (tskV t pi pl d).length = 24 := by simp [tskV, ints, hf]
theorem tsk_get {j : Nat} (hf : t.f.length = 19) (hj : j < 19) : (tskV t pi pl d)[j]? = some (.int .i64 (t.f.getD j 0)) := by
  unfold tskV
  rw [List.getElem?_append_left (by simp [ints, hf]; exact hj)]
  exact ints_getD (by omega)
theorem tsk_row (hf : t.f.length = 19) : (tskV t pi pl d)[19]? = some (.int .i64 t.row) := by
  unfold tskV; rw [List.getElem?_append_right (by simp [ints, hf])]; simp [ints, hf]
theorem tsk_pi (hf : t.f.length = 19) : (tskV t pi pl d)[20]? = some (.pointer pi) := by
  unfold tskV; rw [List.getElem?_append_right (by simp [ints, hf])]; simp [ints, hf]
theorem tsk_pl (hf : t.f.length = 19) : (tskV t pi pl d)[21]? = some (.pointer pl) := by
  unfold tskV; rw [List.getElem?_append_right (by simp [ints, hf])]; simp [ints, hf]
theorem tsk_op (hf : t.f.length = 19) : (tskV t pi pl d)[22]? = some (.int .i64 t.opened) := by
  unfold tskV; rw [List.getElem?_append_right (by simp [ints, hf])]; simp [ints, hf]
theorem tsk_done (hf : t.f.length = 19) : (tskV t pi pl d)[23]? = some (.bool d) := by
  unfold tskV; rw [List.getElem?_append_right (by simp [ints, hf])]; simp [ints, hf]
theorem tsk_f (hf : t.f.length = 19) : (((tskV t pi pl d).drop 0).take 19).toArray = agI t.f := by
  unfold tskV
  rw [List.drop_zero, List.take_append_of_le_length (by simp [ints, hf]), List.take_of_length_le (by simp [ints, hf])]
theorem tsk_setf {f' : List Int} (hf : t.f.length = 19) (hf' : f'.length = 19) : (tskV t pi pl d).take 0 ++ ((agI f').toList ++ (tskV t pi pl d).drop (0 + 19)) = tskV { t with f := f' } pi pl d := by
  unfold tskV
  rw [List.take_zero, List.nil_append, Nat.zero_add, List.drop_append_of_le_length (by simp [ints, hf]), List.drop_of_length_le (by simp [ints, hf])]
  rfl
theorem tsk_setdone (hf : t.f.length = 19) : (tskV t pi pl d).set 23 (.bool true) = tskV t pi pl true := by
  unfold tskV; rw [List.set_append_right _ _ (by simp [ints, hf])]; simp [ints, hf]
theorem tsk_setpl {p' : Option Addr} (hf : t.f.length = 19) : (tskV t pi pl d).set 21 (.pointer p') = tskV t pi p' d := by
  unfold tskV; rw [List.set_append_right _ _ (by simp [ints, hf])]; simp [ints, hf]
theorem tsk_setop {o : Int} (hf : t.f.length = 19) : (tskV t pi pl d).set 22 (.int .i64 o) = tskV { t with opened := o } pi pl d := by
  unfold tskV; rw [List.set_append_right _ _ (by simp [ints, hf])]; simp [ints, hf]
theorem end_s {kind v : Int} {k : Unit → World → Prop} (h : St w0 w (blk gm [A, B, C, .slice s.a s.n s.c, D] :: slc 7 s (rowsV m.rows) :: blk gt (tskV t pi pl d) :: R)) (hr : t.row < m.rows.length) (hf : t.f.length = 19)
    (hk : ∀ w', St w0 w' (blk gm [A, B, C, .slice s.a s.n s.c, D] :: slc 7 s (rowsV (m.fin t.row t.f kind v).rows) :: blk gt (tskV t pi pl true) :: R) → k () w') : serial_machine_end (some ⟨gm, 0, none⟩) (some ⟨gt, 0, none⟩) kind v w k := by
  have hn := rows_n (s := s) (rs := m.rows) h
  unfold serial_machine_end
  refine drew_h h fun w1 h => ?_
  refine nn_i ?_
  refine ldS_h (g := gm) (o := 0 + 3) h rfl ?_
  refine nn_i ?_
  refine ldI_h (g := gt) (o := 0 + 19) h (tsk_row hf) ?_
  refine ixS_h (sz := 7) (s := s) (vs := rowsV m.rows) h (by decide) (by omega) (by omega) fun g o _ hrd hst => ?_
  simp only [Int.toNat_natCast] at hrd hst
  refine nn_i ?_
  refine ldI_h (g := gt) (o := 0 + 0 + 18) h (tsk_get hf (by decide)) ?_
  have e0 := row_at hr
  refine hst h inferInstance 3 _ _ (by decide) rfl fun w2 h => ?_
  rw [rows_set (r' := { m.rows.getD t.row r0 with kind := kind }) e0 (by decide) rfl] at h
  refine hst h inferInstance 4 _ _ (by decide) rfl fun w3 h => ?_
  rw [rows_set (r := { m.rows.getD t.row r0 with kind := kind }) (r' := { m.rows.getD t.row r0 with kind := kind, v := v }) (List.getElem?_set_self (by omega)) (by decide) rfl, List.set_set] at h
  refine hst h inferInstance 5 _ _ (by decide) rfl fun w4 h => ?_
  rw [rows_set (r := { m.rows.getD t.row r0 with kind := kind, v := v }) (r' := { m.rows.getD t.row r0 with kind := kind, v := v, steps := t.f.getD 18 0 }) (List.getElem?_set_self (by omega)) (by decide) rfl, List.set_set] at h
  refine nn_i ?_
  refine stC_h (g := gt) (o := 0 + 23) h rfl (by rw [tsk_len hf]; decide) fun w5 h => ?_
  rw [tsk_setdone hf] at h
  exact hk _ h
theorem within_s {k : Option Addr → World → Prop} {q : Int} {x : Bool × Int} {l : List (Bool × Int)} {p : Option Addr} (h : St w0 w R) (hc : Chn w p (x :: l)) (hl : l.length < 1000)
    (hk : ∀ g w', St w0 w' (blk g [.pointer p, .bool false, .int .i64 q, .int .i64 ((l.length + 1 : Nat) : Int)] :: R) → k (some ⟨g, 0, none⟩) w') : serial_scope_within p q w k := by
  unfold serial_scope_within
  obtain ⟨g, p', rfl, hb, _⟩ := hc
  refine ldI_i (n := (l.length : Nat)) (by rw [add_mk, hb.cell]; simp) ?_
  refine newC_h h fun g2 w2 h => ?_
  have e : IntKind.wrap .i64 (((l.length : Nat) : Int) + 1) = ((l.length + 1 : Nat) : Int) := by rw [wrap_id ⟨by omega, by omega⟩]; simp
  have h : St w0 w2 (blk g2 [.pointer (some ⟨g, 0, none⟩), .bool false, .int .i64 q, .int .i64 (IntKind.wrap .i64 (((l.length : Nat) : Int) + 1))] :: R) := h
  rw [e] at h
  exact hk _ _ h
theorem deep_s {q : Value → World → Prop} {k : Unit → World → Prop} {x : Bool × Int} {l : List (Bool × Int)} {p : Option Addr} (hc : Chn w p (x :: l)) (h1 : 32 ≤ l.length → q (.iface 62 (.int .i64 23)) w) (h2 : l.length < 32 → k () w) : serial_deep p w q k := by
  unfold serial_deep serial_deep_b
  obtain ⟨g, p', rfl, hb, _⟩ := hc
  refine ldI_i (n := (l.length : Nat)) (by rw [add_mk, hb.cell]; simp) ?_
  refine iteB_i (fun hh => ?_) fun hh => ?_
  · exact h1 (by have := of_decide_eq_true hh; omega)
  · exact h2 (by have := of_decide_eq_false hh; omega)
theorem ext_of {w' : World} (h : St w0 w L) (he : Ext w w') : St w0 w' L := h.on he
theorem pass_s {k : Unit → World → Prop} (h : St w0 w (blk gt (tskV t pi pl d) :: R)) (hf : t.f.length = 19) (hk : ∀ w', St w0 w' (blk gt (tskV { t with f := fOn t.f } pi pl d) :: R) → k () w') : serial_machine_pass (some ⟨gm, 0, none⟩) (some ⟨gt, 0, none⟩) (agI i) w k := by
  unfold serial_machine_pass serial_machine_pass_b
  refine newC_h h fun g1 w2 h => ?_
  refine nn_i ?_
  refine ldA_h (n := 19) (g := gt) (o := 0 + 0) h (by rw [tsk_len hf]; decide) ?_
  rw [tsk_f hf]
  refine Fr.on_s hf fun w6 he => ?_
  have h := ext_of h he
  refine nn_i ?_
  refine stA_h (n := 19) (g := gt) (o := 0 + 0) (vs := agI (fOn t.f)) h (by simp [agI, ints, fOn_len, hf]) (by rw [tsk_len hf]; decide) (Ck.one_agI _) fun w8 h => ?_
  rw [tsk_setf hf (by rw [fOn_len, hf])] at h
  exact hk _ (h.rm 0 rfl)
theorem cancelm_s {k : Unit → World → Prop} {x : Bool × Int} {l : List (Bool × Int)} (h : St w0 w (blk gt (tskV t pi pl d) :: seg n pi pl (x :: l) :: R)) (hf : t.f.length = 19)
    (hk : ∀ w', St w0 w' (blk gt (tskV { t with f := fOn t.f } pi pl d) :: seg n pi pl ((true, x.2) :: l) :: R) → k () w') : serial_machine_cancel (some ⟨gm, 0, none⟩) (some ⟨gt, 0, none⟩) (agI i) w k := by
  unfold serial_machine_cancel serial_machine_cancel_b
  refine newC_h h fun g1 w2 h => ?_
  refine nn_i ?_
  refine ldP_h (g := gt) (o := 0 + 21) h (tsk_pl hf) ?_
  have h := (h.rm 0 rfl).swap
  obtain ⟨g, p', rfl, h⟩ := seg_open h
  refine nn_i ?_
  refine stC_h (g := g) (o := 0 + 1) (v := .bool true) h rfl (by simp) fun w6 h => ?_
  refine nn_i ?_
  refine ldA_h (n := 19) (g := gt) (o := 0 + 0) h (by rw [tsk_len hf]; decide) ?_
  rw [tsk_f hf]
  refine Fr.on_s hf fun w6 he => ?_
  have h := ext_of h he
  refine nn_i ?_
  refine stA_h (n := 19) (g := gt) (o := 0 + 0) (vs := agI (fOn t.f)) h (by simp [agI, ints, fOn_len, hf]) (by rw [tsk_len hf]; decide) (Ck.one_agI _) fun w8 h => ?_
  rw [tsk_setf hf (by rw [fOn_len, hf])] at h
  exact hk _ (seg_shut (x := (true, x.2)) h).swap
end
end Go.Proofs.YtgkfbagclkjilaaGreatDoor
namespace Go.Proofs.YtgkfbagclkjilaaGreatDoor
open Go Go.Ev Go.Proofs
open Go.Proofs.YtgkfbagclkjilaaGreatDoor.Fr (fTo fOn fPlain fForked fJoined fClosed fChild fRoot fR isB fTo_len fOn_len fPlain_len fForked_len fJoined_len fClosed_len)
open Go.Proofs.YtgkfbagclkjilaaGreatDoor.Ck (opI Walk Accs needsOf isGoes heldL depths stepD handlesOk subBits scopesOk forks)
theorem ldStr_i {w : World} {a : Addr} {n : ByteArray} {c : ByteArray → Prop} (h : w.cell? a = some (.string n)) (hc : c n) : ldStr w a c := by
  simp [ldStr, rd, h, toStr, hc]
section
variable {w0 w : World} {L R : List HP} {gm gt : Nat} {t : Tk} {m : Mc} {s : Sl} {A B C D : Value} {pi pl : Option Addr} {d : Bool} {i : List Int} {n : Nat}
theorem open_s {k : Unit → World → Prop} {B' : List (Bool × Int)} (h : St w0 w (blk gt (tskV t pi pl d) :: seg B'.length pi pl t.sc :: R)) (hB : ∀ w, St w0 w R → Chn w pi B') (hf : t.f.length = 19) (hsc : t.sc ≠ []) (hl : B'.length + t.sc.length ≤ 100) (ho : 0 ≤ t.opened ∧ t.opened ≤ 10000000)
    (hk : ∀ w' pl', St w0 w' (blk gt (tskV { t with f := fOn t.f, sc := (false, t.opened + 1) :: t.sc, opened := t.opened + 1 } pi pl' d) :: seg B'.length pi pl' ((false, t.opened + 1) :: t.sc) :: R) → k () w') : serial_machine_open (some ⟨gm, 0, none⟩) (some ⟨gt, 0, none⟩) (agI i) w k := by
  unfold serial_machine_open serial_machine_open_b
  refine newC_h h fun g1 w2 h => ?_
  have h : St w0 w2 (blk gt (tskV t pi pl d) :: seg B'.length pi pl t.sc :: R) := h.rm 0 rfl
  refine nn_i ?_
  refine ldI_h (g := gt) (o := 0 + 22) h (tsk_op hf) ?_
  refine nn_i ?_
  refine stC_h (g := gt) (o := 0 + 22) h rfl (by rw [tsk_len hf]; decide) fun w6 h => ?_
  rw [wrap_id ⟨by omega, by omega⟩, tsk_setop hf] at h
  refine drew_h h fun w7 h => ?_
  refine nn_i ?_
  refine ldP_h (g := gt) (o := 0 + 21) h (tsk_pl (t := { t with opened := t.opened + 1 }) hf) ?_
  refine nn_i ?_
  refine ldI_h (g := gt) (o := 0 + 22) h (tsk_op (t := { t with opened := t.opened + 1 }) hf) ?_
  have hc := seg_chn (hB w7) (h.rm 0 rfl)
  obtain ⟨x, l, e⟩ : ∃ x l, t.sc ++ B' = x :: l := by
    cases hs : t.sc with
    | nil => exact (hsc hs).elim
    | cons x l => exact ⟨x, l ++ B', rfl⟩
  rw [e] at hc
  have el : l.length + 1 = B'.length + t.sc.length := by have := congrArg List.length e; simp at this; omega
  refine within_s (q := t.opened + 1) h hc (by omega) fun g w13 h => ?_
  have h := h.swap
  refine nn_i ?_
  refine stC_h (g := gt) (o := 0 + 21) h rfl (by rw [tsk_len (t := { t with opened := t.opened + 1 }) hf]; decide) fun w15 h => ?_
  rw [tsk_setpl (t := { t with opened := t.opened + 1 }) hf] at h
  refine nn_i ?_
  refine ldA_h (n := 19) (g := gt) (o := 0 + 0) h (by rw [tsk_len (t := { t with opened := t.opened + 1 }) hf]; decide) ?_
  rw [tsk_f (t := { t with opened := t.opened + 1 }) hf]
  refine Fr.on_s hf fun w6 he => ?_
  have h := ext_of h he
  refine nn_i ?_
  refine stA_h (n := 19) (g := gt) (o := 0 + 0) (vs := agI (fOn t.f)) h (by simp [agI, ints, fOn_len, hf]) (by rw [tsk_len (t := { t with opened := t.opened + 1 }) hf]; decide) (Ck.one_agI _) fun w8 h => ?_
  rw [tsk_setf (t := { t with opened := t.opened + 1 }) hf (by rw [fOn_len, hf])] at h
  have h := h.swap
  rw [el] at h
  have h2 : St w0 w8 (blk g [.pointer pl, .bool false, .int .i64 (t.opened + 1), .int .i64 ((B'.length + t.sc.length : Nat) : Int)] :: seg B'.length pi pl t.sc :: blk gt (tskV { t with f := fOn t.f, sc := (false, t.opened + 1) :: t.sc, opened := t.opened + 1 } pi (some ⟨g, 0, none⟩) d) :: R) := h.perm (by repeat' (first | exact List.Perm.refl _ | refine perm_f 0 rfl ?_ | refine perm_f 1 rfl ?_ | refine perm_f 2 rfl ?_ | refine perm_f 3 rfl ?_ | refine perm_f 4 rfl ?_ | refine perm_f 5 rfl ?_ | refine perm_f 6 rfl ?_ | refine perm_f 7 rfl ?_))
  exact hk _ _ (seg_shut (x := (false, t.opened + 1)) h2).swap
theorem close_s {k : Unit → World → Prop} {x : Bool × Int} {l : List (Bool × Int)} (h : St w0 w (blk gm [A, B, C, .slice s.a s.n s.c, D] :: slc 7 s (rowsV m.rows) :: blk gt (tskV t pi pl d) :: seg n pi pl (x :: l) :: R)) (hf : t.f.length = 19) (h5 : i.length = 5) (hr : t.row < m.rows.length) (hc : (m.rows.getD t.row r0).cl.length < 100000000)
    (hk : ∀ w' pl', St w0 w' (blk gm [A, B, C, .slice s.a s.n s.c, D] :: slc 7 s (rowsV (m.told t.row x.1).rows) :: blk gt (tskV { t with f := fClosed t.f i x.1, sc := l } pi pl' d) :: seg n pi pl' l :: R) → k () w') : serial_machine_close (some ⟨gm, 0, none⟩) (some ⟨gt, 0, none⟩) (agI i) w k := by
  have hn := rows_n (s := s) (rs := m.rows) h
  unfold serial_machine_close serial_machine_close_b
  refine newC_h h fun g1 w2 h => ?_
  refine nn_i ?_
  refine ldP_h (g := gt) (o := 0 + 21) h (tsk_pl hf) ?_
  have h : St w0 w2 (seg n pi pl (x :: l) :: blk g1 (ints i) :: blk gm [A, B, C, .slice s.a s.n s.c, D] :: slc 7 s (rowsV m.rows) :: blk gt (tskV t pi pl d) :: R) := h.perm (by repeat' (first | exact List.Perm.refl _ | refine perm_f 0 rfl ?_ | refine perm_f 1 rfl ?_ | refine perm_f 2 rfl ?_ | refine perm_f 3 rfl ?_ | refine perm_f 4 rfl ?_ | refine perm_f 5 rfl ?_ | refine perm_f 6 rfl ?_ | refine perm_f 7 rfl ?_))
  obtain ⟨g, p', rfl, h⟩ := seg_open h
  refine nn_i ?_
  refine ldB_h (g := g) (o := 0 + 1) h rfl ?_
  refine joinP_i (fun z w' => z = (ByteArray.mk #[if x.1 then 49 else 48]) ∧ w' = w2) (fun J hJ => ?_) ?_
  · refine iteB_i (fun hb => hJ _ _ ⟨by rw [hb]; rfl, rfl⟩) fun hb => hJ _ _ ⟨by rw [hb]; rfl, rfl⟩
  rintro _ _ ⟨rfl, rfl⟩
  refine drew_h h fun w10 h => ?_
  refine nn_i ?_
  refine ldS_h (g := gm) (o := 0 + 3) h rfl ?_
  refine nn_i ?_
  refine ldI_h (g := gt) (o := 0 + 19) h (tsk_row hf) ?_
  have e0 := row_at hr
  have hrow6 : (rowsV m.rows)[t.row * 7 + 6]? = some (.string (told (m.rows.getD t.row r0).cl)) := by rw [rows_get e0 (by decide)]; rfl
  refine ixS_h (sz := 7) (s := s) (vs := rowsV m.rows) h (by decide) (by omega) (by omega) fun ga o _ hrd hst => ?_
  simp only [Int.toNat_natCast] at hrd
  have hcell := hrd h 6 _ (by decide) hrow6
  refine ldStr_i hcell ?_
  have es : (ByteArray.mk #[if x.1 then (49 : UInt8) else 48]).size = 1 := rfl
  refine ⟨by rw [told_len, es]; omega, ?_⟩
  refine ixS_h (sz := 7) (s := s) (vs := rowsV m.rows) h (by decide) (by omega) (by omega) fun ga o _ hrd hst => ?_
  simp only [Int.toNat_natCast] at hrd hst
  rw [told_app]
  refine hst h inferInstance 6 _ _ (by decide) rfl fun w18 h => ?_
  rw [rows_set (r' := { m.rows.getD t.row r0 with cl := (m.rows.getD t.row r0).cl ++ [x.1] }) e0 (by decide) rfl] at h
  refine drew_h h fun w19 h => ?_
  refine nn_i ?_
  refine ldA_h (n := 19) (g := gt) (o := 0 + 0) h (by rw [tsk_len hf]; decide) ?_
  rw [tsk_f hf]
  refine ldW_h (g := g1) h (by simp [ints, h5]) ?_
  refine nn_i ?_
  refine ldP_h (g := gt) (o := 0 + 21) h (tsk_pl hf) ?_
  refine nn_i ?_
  refine ldB_h (g := g) (o := 0 + 1) h rfl ?_
  refine Fr.closed_s hf h5 fun w28 he => ?_
  have h := ext_of h he
  refine nn_i ?_
  refine stA_h (n := 19) (g := gt) (o := 0 + 0) (vs := agI (fClosed t.f i x.1)) h (by simp [agI, ints, fClosed_len, hf]) (by rw [tsk_len hf]; decide) (Ck.one_agI _) fun w30 h => ?_
  rw [tsk_setf hf (by rw [fClosed_len, hf])] at h
  have hf2 : ({ t with f := fClosed t.f i x.1 } : Tk).f.length = 19 := by show (fClosed t.f i x.1).length = 19; rw [fClosed_len, hf]
  refine nn_i ?_
  refine ldP_h (g := gt) (o := 0 + 21) h (tsk_pl hf2) ?_
  refine nn_i ?_
  refine ldP_h (g := g) (o := 0 + 0) h rfl ?_
  refine nn_i ?_
  refine stC_h (g := gt) (o := 0 + 21) h rfl (by rw [tsk_len hf2]; decide) fun w36 h => ?_
  rw [tsk_setpl hf2] at h
  have h := (h.rm 2 rfl).rm 0 rfl
  refine hk _ p' (h.perm ?_)
  simp only [List.eraseIdx]
  repeat' (first | exact List.Perm.refl _ | refine perm_f 0 rfl ?_ | refine perm_f 1 rfl ?_ | refine perm_f 2 rfl ?_ | refine perm_f 3 rfl ?_ | refine perm_f 4 rfl ?_ | refine perm_f 5 rfl ?_ | refine perm_f 6 rfl ?_ | refine perm_f 7 rfl ?_)
theorem leave_s {k : Unit → World → Prop} (h : St w0 w (blk gm [A, B, C, .slice s.a s.n s.c, D] :: slc 7 s (rowsV m.rows) :: blk gt (tskV t pi pl d) :: R)) (hf : t.f.length = 19) (h5 : i.length = 5) (hr : t.row < m.rows.length) (hA : 0 ≤ i.getD 1 0 ∧ i.getD 1 0 < 8)
    (hk : ∀ w' t', St w0 w' (blk gm [A, B, C, .slice s.a s.n s.c, D] :: slc 7 s (rowsV (m.fin t.row (fOn t.f) (if i.getD 0 0 = 15 then 3 else 2) (fR (fOn t.f) (i.getD 1 0))).rows) :: blk gt (tskV t' pi pl true) :: R) → t'.f.length = 19 → t'.row = t.row → t'.sc = t.sc → k () w') : serial_machine_leave (some ⟨gm, 0, none⟩) (some ⟨gt, 0, none⟩) (agI i) w k := by
  unfold serial_machine_leave serial_machine_leave_b
  refine newC_h h fun g1 w2 h => ?_
  have h : St w0 w2 (blk g1 (ints i) :: blk gm [A, B, C, .slice s.a s.n s.c, D] :: slc 7 s (rowsV m.rows) :: blk gt (tskV t pi pl d) :: R) := h
  refine nn_i ?_
  refine ldA_h (n := 19) (g := gt) (o := 0 + 0) h (by rw [tsk_len hf]; decide) ?_
  rw [tsk_f hf]
  refine Fr.on_s hf fun w6 he => ?_
  have h := ext_of h he
  refine nn_i ?_
  refine stA_h (n := 19) (g := gt) (o := 0 + 0) (vs := agI (fOn t.f)) h (by simp [agI, ints, fOn_len, hf]) (by rw [tsk_len hf]; decide) (Ck.one_agI _) fun w8 h => ?_
  have hf2 : (fOn t.f).length = 19 := by rw [fOn_len, hf]
  rw [tsk_setf hf hf2] at h
  have hfp : ({ t with f := fOn t.f } : Tk).f.length = 19 := hf2
  have e2 : 0 + 0 + 2 + (i.getD 1 0).toNat * 1 = 2 + (i.getD 1 0).toNat := by omega
  refine ldI_h (g := g1) (o := 0 + 0) h (ints_getD (by omega)) ?_
  refine iteB_i (fun hb => ?_) fun hb => ?_
  · have hb : i.getD 0 0 = 15 := by simpa using hb
    rw [if_pos hb] at hk
    refine drew_h h fun w10 h => ?_
    refine ldI_h (g := g1) (o := 0 + 1) h (ints_getD (by omega)) ?_
    refine nn_i ?_
    refine ixP_i hA.1 (by have := hA.2; show i.getD 1 0 < ((8 : Nat) : Int); omega) ?_
    refine ldI_h (g := gt) (o := 0 + 0 + 2 + (i.getD 1 0).toNat * 1) h (by rw [e2]; exact tsk_get hfp (by omega)) ?_
    exact end_s (h.rm 0 rfl) hr hfp fun w' h => hk _ _ h hfp rfl rfl
  · have hb : ¬ i.getD 0 0 = 15 := by simpa using hb
    rw [if_neg hb] at hk
    refine drew_h h fun w10 h => ?_
    refine ldI_h (g := g1) (o := 0 + 1) h (ints_getD (by omega)) ?_
    refine nn_i ?_
    refine ixP_i hA.1 (by have := hA.2; show i.getD 1 0 < ((8 : Nat) : Int); omega) ?_
    refine ldI_h (g := gt) (o := 0 + 0 + 2 + (i.getD 1 0).toNat * 1) h (by rw [e2]; exact tsk_get hfp (by omega)) ?_
    exact end_s (h.rm 0 rfl) hr hfp fun w' h => hk _ _ h hfp rfl rfl
theorem join_s {k : Unit → World → Prop} {h' : Int} {r : Rw} (hh : h' = i.getD (if i.getD 0 0 = 10 then 3 else 2) 0) (h : St w0 w (blk gm [A, B, C, .slice s.a s.n s.c, D] :: slc 7 s (rowsV m.rows) :: blk gt (tskV t pi pl d) :: R)) (hf : t.f.length = 19) (h5 : i.length = 5) (hr : t.row < m.rows.length)
    (hA : 0 ≤ h' ∧ h' < 8) (h0 : 0 ≤ t.f.getD (10 + h'.toNat) 0) (hrow : m.rows[(t.f.getD (10 + h'.toNat) 0).toNat]? = some r)
    (hk1 : (fJoined t.f i r.kind r.v).2.2 = true → ∀ w' t', St w0 w' (blk gm [A, B, C, .slice s.a s.n s.c, D] :: slc 7 s (rowsV (m.fin t.row (fJoined t.f i r.kind r.v).1 3 (fJoined t.f i r.kind r.v).2.1).rows) :: blk gt (tskV t' pi pl true) :: R) → t'.f.length = 19 → t'.row = t.row → t'.sc = t.sc → k () w')
    (hk2 : (fJoined t.f i r.kind r.v).2.2 = false → ∀ w', St w0 w' (blk gm [A, B, C, .slice s.a s.n s.c, D] :: slc 7 s (rowsV m.rows) :: blk gt (tskV { t with f := (fJoined t.f i r.kind r.v).1 } pi pl d) :: R) → k () w') : serial_machine_join (some ⟨gm, 0, none⟩) (some ⟨gt, 0, none⟩) (agI i) w k := by
  have hn := rows_n (s := s) (rs := m.rows) h
  have hlt := (List.getElem?_eq_some_iff.1 hrow).1
  unfold serial_machine_join serial_machine_join_b
  refine newC_h h fun g1 w2 h => ?_
  have h : St w0 w2 (blk g1 (ints i) :: blk gm [A, B, C, .slice s.a s.n s.c, D] :: slc 7 s (rowsV m.rows) :: blk gt (tskV t pi pl d) :: R) := h
  refine ldI_h (g := g1) (o := 0 + 2) h (ints_getD (by omega)) ?_
  refine ldI_h (g := g1) (o := 0 + 0) h (ints_getD (by omega)) ?_
  refine joinP_i (fun z w' => z = h' ∧ w' = w2) (fun J hJ => ?_) ?_
  · refine iteB_i (fun hb => ?_) fun hb => ?_
    · have hb : i.getD 0 0 = 10 := by simpa using hb
      refine ldI_h (g := g1) (o := 0 + 3) h (ints_getD (by omega)) ?_
      exact hJ _ _ ⟨by rw [hh, if_pos hb], rfl⟩
    · have hb : ¬ i.getD 0 0 = 10 := by simpa using hb
      exact hJ _ _ ⟨by rw [hh, if_neg hb], rfl⟩
  rintro z _ ⟨hz, rfl⟩
  rw [hz]
  refine drew_h h fun w9 h => ?_
  refine nn_i ?_
  refine ldS_h (g := gm) (o := 0 + 3) h rfl ?_
  refine nn_i ?_
  refine ixP_i hA.1 (by omega) ?_
  have e2 : 0 + 0 + 10 + h'.toNat * 1 = 10 + h'.toNat := by omega
  refine ldI_h (g := gt) (o := 0 + 0 + 10 + h'.toNat * 1) h (by rw [e2]; exact tsk_get hf (by omega)) ?_
  refine ixS_h (sz := 7) (s := s) (vs := rowsV m.rows) h (by decide) h0 (by omega) fun ga o _ hrd hst => ?_
  have hcl : ∀ {w' : World} {L' : List HP} {f' : HP → List HP}, St w0 w' L' → [At L' (slc 7 s) (rowsV m.rows) f'] → ∀ j v, (rwV r)[j]? = some v → w'.cell? (Addr.add ⟨ga, o, none⟩ j) = some v := by
    intro w' L' f' h' _ j v hv
    have hj : j < 7 := (List.getElem?_eq_some_iff.1 hv).1
    rw [add_mk]
    exact hrd h' j v hj (by rw [rows_get hrow hj]; exact hv)
  refine ldA_c (e := rwV r) rfl (fun j v hv => hcl h j v hv) ?_
  refine newC_h h fun g17 w18 h18 => ?_
  refine ⟨fun j hj => ?_, ?_⟩
  · obtain ⟨v, hv⟩ : ∃ v, (rwV r)[j]? = some v := ⟨_, List.getElem?_eq_getElem hj⟩
    rw [hcl h18 j v hv, hcl h j v hv]
  refine samec_h (g := gt) (o := 0 + 0 + 10 + h'.toNat * 1) h h18 (samec_h (g := gm) (o := 0 + 3) h h18 ?_)
  refine stW_h (g := g17) h18 rfl rfl (by intro v hv; simp [rwV] at hv; rcases hv with rfl | rfl | rfl | rfl | rfl | rfl | rfl <;> rfl) fun w19 h => ?_
  have h : St w0 w19 (blk g17 (rwV r) :: blk g1 (ints i) :: blk gm [A, B, C, .slice s.a s.n s.c, D] :: slc 7 s (rowsV m.rows) :: blk gt (tskV t pi pl d) :: R) := h
  have hJl : (fJoined t.f i r.kind r.v).1.length = 19 := by rw [fJoined_len, hf]
  refine joinP_i (fun z w' => ∃ g, z = (⟨g, 0, none⟩, ((fJoined t.f i r.kind r.v).2.1, (fJoined t.f i r.kind r.v).2.2)) ∧ St w0 w' (blk g (ints (fJoined t.f i r.kind r.v).1) :: blk g17 (rwV r) :: blk g1 (ints i) :: blk gm [A, B, C, .slice s.a s.n s.c, D] :: slc 7 s (rowsV m.rows) :: blk gt (tskV t pi pl d) :: R)) (fun J hJ => ?_) ?_
  · refine drew_h h fun w21 h => ?_
    refine nn_i ?_
    refine ldA_h (n := 19) (g := gt) (o := 0 + 0) h (by rw [tsk_len hf]; decide) ?_
    rw [tsk_f hf]
    refine ldW_h (g := g1) h (by simp [ints, h5]) ?_
    refine ldI_h (g := g17) (o := 0 + 3) h rfl (ldI_h (g := g17) (o := 0 + 4) h rfl ⟨?_, ?_⟩)
    · refine Fr.joined_s hf h5 fun w28 he => ?_
      have h2 := ext_of h he
      refine newC_h h2 fun g29 w30 h2 => ?_
      refine samec_h (g := g17) (o := 0 + 4) h h2 (samec_h (g := g17) (o := 0 + 3) h h2 (samec_h (g := g1) (o := 0) h h2 (samec_h (g := gt) (o := 0 + 0) h h2 ?_)))
      refine stW_h (g := g29) h2 rfl (by simp [agI, ints, hJl]) (Ck.one_agI _) fun w31 h2 => ?_
      exact hJ _ _ ⟨g29, rfl, h2⟩
    · refine newC_h h fun g32 w33 h2 => ?_
      refine samec_h (g := g17) (o := 0 + 4) h h2 (samec_h (g := g17) (o := 0 + 3) h h2 (samec_h (g := g1) (o := 0) h h2 (samec_h (g := gt) (o := 0 + 0) h h2 ?_)))
      refine Fr.joined_s hf h5 fun w35 he => ?_
      have h2 := ext_of h2 he
      refine stW_h (g := g32) h2 rfl (by simp [agI, ints, hJl]) (Ck.one_agI _) fun w36 h2 => ?_
      exact hJ _ _ ⟨g32, rfl, h2⟩
  rintro _ w38 ⟨g, rfl, h⟩
  refine ldW_h (g := g) h (by simp [ints, hJl]) ?_
  refine nn_i ?_
  refine stA_h (n := 19) (g := gt) (o := 0 + 0) (vs := agI (fJoined t.f i r.kind r.v).1) h (by simp [agI, ints, hJl]) (by rw [tsk_len hf]; decide) (Ck.one_agI _) fun w41 h => ?_
  rw [tsk_setf hf hJl] at h
  refine iteB_i (fun hb => ?_) fun hb => ?_
  · refine end_s (t := { t with f := (fJoined t.f i r.kind r.v).1 }) (((h.rm 0 rfl).rm 0 rfl).rm 0 rfl) hr hJl fun w' h => ?_
    exact hk1 hb _ _ h hJl rfl rfl
  · exact hk2 hb _ (((h.rm 0 rfl).rm 0 rfl).rm 0 rfl)
end
end Go.Proofs.YtgkfbagclkjilaaGreatDoor
namespace Go.Proofs.YtgkfbagclkjilaaGreatDoor
open Go Go.Ev Go.Proofs
open Go.Proofs.YtgkfbagclkjilaaGreatDoor.Fr (fTo fOn fPlain fForked fJoined fClosed fChild fRoot fR isB fTo_len fOn_len fPlain_len fForked_len fJoined_len fClosed_len)
open Go.Proofs.YtgkfbagclkjilaaGreatDoor.Ck (opI Walk Accs needsOf isGoes heldL depths stepD handlesOk subBits scopesOk forks)
theorem next_s {f i : List Int} {ps : Sl} {P : List FnR} {w : World} {k : Array Value × Int → World → Prop} {g : FnR} (hF : Funcs5 w ps P) (hf : f.length = 19) (h0 : 0 ≤ f.getD 0 0) (hg : P[(f.getD 0 0).toNat]? = some g) (h1 : 0 ≤ f.getD 1 0)
    (hi : g.code[(f.getD 1 0).toNat]? = some i) (hk : ∀ w', Ext w w' → k (agI i, 0) w') : frame_Frame_Next (agI f) #[.slice ps.a ps.n ps.c] w k := by
  have hn := hF.len
  obtain ⟨_, hcd⟩ := hF.code g (List.mem_of_getElem? hg)
  have hcn := hcd.len
  have hlt := (List.getElem?_eq_some_iff.1 hg).1
  have hlt2 := (List.getElem?_eq_some_iff.1 hi).1
  have h5 := (hcd.five i (List.mem_of_getElem? hi)).1
  unfold frame_Frame_Next
  refine newC_h (.nil w) fun g1 w1 h => newC_h h fun g3 w3 h => newC_h h fun g5 w6 h => ?_
  have h : St w w6 [blk g5 (ints [0, 0, 0, 0, 0]), blk g3 [.slice ps.a ps.n ps.c], blk g1 (ints f)] := h
  refine joinP_i (fun b w' => b = false ∧ w' = w6) (fun J hJ => ?_) fun b v hbv => ?_
  · refine ldI_h (g := g1) (o := 0 + 0) h (ints_getD (by omega)) (iteB_f (by rw [decide_eq_false_iff_not]; show ¬ f.getD 0 0 < 0; omega) ?_)
    refine ldI_h (g := g1) (o := 0 + 0) h (ints_getD (by omega)) (ldS_h (g := g3) (o := 0 + 0) h rfl (hJ _ _ ⟨by rw [decide_eq_false_iff_not]; show ¬ f.getD 0 0 ≥ ((ps.n : Nat) : Int); omega, rfl⟩))
  rw [hbv.1, hbv.2]
  refine iteB_f rfl ?_
  refine ldS_h (g := g3) (o := 0 + 0) h rfl (ldI_h (g := g1) (o := 0 + 0) h (ints_getD (by omega)) ?_)
  refine ixR_h (i := f.getD 0 0) (e := FnR.cells g) hF.rws h h0 (by rw [List.getElem?_map, hg]; rfl) fun p hp => ?_
  refine ldS_i (s := g.sl) (hp h (j := 1) rfl) ?_
  refine joinP_i (fun b w' => b = false ∧ w' = w6) (fun J hJ => ?_) fun b v hbv => ?_
  · refine ldI_h (g := g1) (o := 0 + 1) h (ints_getD (by omega)) (iteB_f (by rw [decide_eq_false_iff_not]; show ¬ f.getD 1 0 < 0; omega) ?_)
    refine ldI_h (g := g1) (o := 0 + 1) h (ints_getD (by omega)) (hJ _ _ ⟨by rw [decide_eq_false_iff_not]; show ¬ f.getD 1 0 ≥ ((g.sl.n : Nat) : Int); omega, rfl⟩)
  rw [hbv.1, hbv.2]
  refine iteB_f rfl ?_
  refine ldI_h (g := g1) (o := 0 + 1) h (ints_getD (by omega)) ?_
  refine ixR_h (i := f.getD 1 0) (e := ints i) hcd.rws h h1 (by rw [List.getElem?_map, hi]; rfl) fun p hp => ?_
  refine ldA_c (e := ints i) (by simp [ints, h5]) (fun j v => hp h) ?_
  refine stW_h (g := g5) h rfl (by simp [ints, h5]) (Ck.one_agI _) fun w29 h => ?_
  have h : St w w29 [blk g5 (ints i), blk g3 [.slice ps.a ps.n ps.c], blk g1 (ints f)] := h
  refine ldW_h (g := g5) h (by simp [ints, h5]) ?_
  exact hk _ h.ext
theorem point_s {op : Int} {w : World} {k : Bool → World → Prop} (h0 : 0 ≤ op) (h1 : op < 17) (hk : k (isPt op) w) : code_Point op w k := by
  unfold code_Point
  rcases Fr.op17 h0 h1 with h | h | h | h | h | h | h | h | h | h | h | h | h | h | h | h | h <;> subst h <;> exact hk
theorem callP_i {l : List (Nat × DecP)} {q : Value → World → Prop} {id : FuncId} {first captured args : Array Value} {w : World} {c : Value → World → Prop} {d : DecP} (e : ∀ args w c, orcP l q (.func id) args w c = d args.toList w c q) (h : d (first ++ args ++ captured).toList w c q) : callF (orcP l q) (.func (.func id) first captured) args w c := by
  show orcP l q (.func id) (first ++ args ++ captured) w c
  rw [e]; exact h
abbrev dRun : Value → Value := fun c => .func (.func n_serial_Run_2) #[] #[c]
abbrev SSL (gc gm gt : Nat) (ps : Sl) (F : Int) (t : Tk) (pi pl : Option Addr) (nB : Nat) (m : Mc) (s : Sl) (d : Bool) (R : List HP) : List HP :=
  blk gm [.slice ps.a ps.n ps.c, .int .i64 F, .int .i64 m.steps, .slice s.a s.n s.c, dRun (.pointer (some ⟨gc, 0, none⟩))] :: slc 7 s (rowsV m.rows) :: blk gt (tskV t pi pl d) :: seg nB pi pl t.sc :: blk gc [.pointer (some ⟨gm, 0, none⟩)] :: R
abbrev MML (gc gm : Nat) (ps : Sl) (F : Int) (m : Mc) (s : Sl) (R : List HP) : List HP :=
  blk gm [.slice ps.a ps.n ps.c, .int .i64 F, .int .i64 m.steps, .slice s.a s.n s.c, dRun (.pointer (some ⟨gc, 0, none⟩))] :: slc 7 s (rowsV m.rows) :: blk gc [.pointer (some ⟨gm, 0, none⟩)] :: R
structure Sz (F : Int) (t : Tk) (m : Mc) : Prop where
  s0 : 0 ≤ m.steps
  sF : m.steps ≤ F
  F0 : F ≤ 1048576
  rl : (m.rows.length : Int) ≤ m.steps + 1
  cl : ∀ r ∈ m.rows, (r.cl.length : Int) ≤ m.steps
  op : 0 ≤ t.opened ∧ t.opened ≤ m.steps
theorem getD_mem {l : List Rw} {i : Nat} (h : i < l.length) : l.getD i r0 ∈ l := List.mem_of_getElem? (row_at h)
theorem set_cl {l : List Rw} {i : Nat} {r : Rw} {B : Int} (h : ∀ r ∈ l, (r.cl.length : Int) ≤ B) (hr : (r.cl.length : Int) ≤ B) : ∀ q ∈ l.set i r, (q.cl.length : Int) ≤ B := by
  intro q hq
  rcases List.mem_or_eq_of_mem_set hq with hq | rfl
  · exact h q hq
  · exact hr
theorem sz_fin {F : Int} {t : Tk} {m m' : Mc} {P : List FnR} (h : Sz F t m) (hr : t.row < m.rows.length) (hs : stp P F t m = .fin m') : Sz F t m' := by
  have h1 := h.s0; have h2 := h.sF; have h3 := h.F0; have h4 := h.rl; have h5 := h.op
  have key : ∀ m1 : Mc, m.steps ≤ m1.steps → m1.steps ≤ F → m1.rows = m.rows → ∀ f kind v, Sz F t (m1.fin t.row f kind v) := by
    intro m1 a b c f kind v
    have hcl : ∀ r ∈ m.rows, (r.cl.length : Int) ≤ m1.steps := fun r hr => by have := h.cl r hr; omega
    refine ⟨by show 0 ≤ m1.steps; omega, b, h3, by show ((m1.rows.set _ _).length : Int) ≤ m1.steps + 1; rw [List.length_set, c]; omega, ?_, ⟨h5.1, by show t.opened ≤ m1.steps; omega⟩⟩
    show ∀ r ∈ (m1.rows.set _ _), (r.cl.length : Int) ≤ m1.steps
    refine set_cl (by rw [c]; exact hcl) ?_
    rw [c]
    have := hcl _ (getD_mem (l := m.rows) hr)
    exact this
  unfold stp at hs
  split at hs
  · cases hs; exact key m (Int.le_refl _) h2 rfl _ _ _
  split at hs
  · cases hs
  split at hs
  · cases hs
  split at hs
  · cases hs
  unfold act at hs
  split at hs
  · cases hs
  split at hs
  · split at hs
    · cases hs; exact key { m with steps := m.steps + 1 } (by dsimp only; omega) (by dsimp only; omega) rfl _ _ _
    · cases hs
  split at hs
  · cases hs
  split at hs
  · cases hs
  split at hs
  · cases hs
  split at hs
  · cases hs
  cases hs
  exact key { m with steps := m.steps + 1 } (by dsimp only; omega) (by dsimp only; omega) rfl _ _ _
theorem sz_go {F : Int} {t t' : Tk} {m m' : Mc} {P : List FnR} (h : Sz F t m) (hr : t.row < m.rows.length) (hs : stp P F t m = .go t' m') : Sz F t' m' := by
  have h1 := h.s0; have h2 := h.sF; have h3 := h.F0; have h4 := h.rl; have h5 := h.op
  have hcl : ∀ r ∈ m.rows, (r.cl.length : Int) ≤ m.steps + 1 := fun r hr => by have := h.cl r hr; omega
  have key : ∀ t1 : Tk, 0 ≤ t1.opened ∧ t1.opened ≤ m.steps + 1 → m.steps < F → Sz F t1 { m with steps := m.steps + 1 } := fun t1 a b => ⟨by dsimp only; omega, by dsimp only; omega, h3, by dsimp only; omega, hcl, a⟩
  unfold stp at hs
  split at hs
  · cases hs
  split at hs
  · cases hs
  split at hs
  · cases hs
  split at hs
  · cases hs; exact key _ ⟨h5.1, by dsimp only; omega⟩ (by omega)
  unfold act at hs
  split at hs
  · cases hs
  split at hs
  · split at hs
    · cases hs
    · cases hs; exact key _ ⟨h5.1, by dsimp only; omega⟩ (by omega)
  split at hs
  · cases hs; exact key _ ⟨by dsimp only; omega, by dsimp only; omega⟩ (by omega)
  split at hs
  · cases hs
    refine ⟨by show 0 ≤ m.steps + 1; omega, by show m.steps + 1 ≤ F; omega, h3, by show ((m.rows.set _ _).length : Int) ≤ m.steps + 1 + 1; rw [List.length_set]; omega, ?_, ⟨h5.1, by show t.opened ≤ m.steps + 1; omega⟩⟩
    show ∀ r ∈ m.rows.set _ _, (r.cl.length : Int) ≤ m.steps + 1
    refine set_cl hcl ?_
    have := h.cl _ (getD_mem hr)
    simp only [List.length_append, List.length_cons, List.length_nil]
    show (((m.rows.getD t.row r0).cl.length + 1 : Nat) : Int) ≤ m.steps + 1
    omega
  split at hs
  · cases hs; exact key _ ⟨h5.1, by dsimp only; omega⟩ (by omega)
  split at hs
  · cases hs; exact key _ ⟨h5.1, by dsimp only; omega⟩ (by omega)
  cases hs
theorem sz_fork {F : Int} {t c : Tk} {m m' : Mc} {P : List FnR} {i : List Int} (h : Sz F t m) (hs : stp P F t m = .fork c m' i) : Sz F c m' := by
  have h1 := h.s0; have h2 := h.sF; have h3 := h.F0; have h4 := h.rl; have h5 := h.op
  obtain ⟨hlt, hst, _, _, _, rfl, hrows⟩ := stp_fork hs
  refine ⟨by omega, by omega, h3, by rw [hrows]; simp; omega, ?_, ⟨Int.le_refl _, by dsimp only; omega⟩⟩
  rw [hrows]
  intro r hr
  rcases List.mem_append.1 hr with hr | hr
  · have := h.cl r hr; omega
  · simp at hr; subst hr; simp; omega
theorem goes_sz {P : List FnR} {F : Int} (hA : Accs P) (hI : ∀ g ∈ P, InI g.needs) {t : Tk} {m : Mc} {r : Res} (hG : Goes P F t m r) : ∀ {m' : Mc}, r = .ok m' → Inv P t m → Sz F t m → 0 ≤ m'.steps ∧ m'.steps ≤ F ∧ F ≤ 1048576 ∧ (m'.rows.length : Int) ≤ m'.steps + 1 ∧ ∀ r ∈ m'.rows, (r.cl.length : Int) ≤ m'.steps := by
  induction hG with
  | fin h => intro m' e hi hz; cases e; have := sz_fin hz hi.row h; exact ⟨this.s0, this.sF, this.F0, this.rl, this.cl⟩
  | bad h => intro m' e; cases e
  | go h _ ih => intro m' e hi hz; exact ih e (inv_go hA hi h).1 (sz_go hz hi.row h)
  | forkBad h _ ih => intro m' e; cases e
  | fork h h1 _ ih1 ih2 =>
    intro m' e hi hz
    obtain ⟨k1, k2⟩ := inv_child hA hI hi h
    obtain ⟨k3, k4⟩ := goes_more hA hI h1 rfl k1
    obtain ⟨k5, k6⟩ := inv_forked hA hi h k3 k4
    obtain ⟨z1, z2, z3, z4, z5⟩ := ih1 rfl k1 (sz_fork hz h)
    have hle := h1.le rfl
    have hst := (stp_fork h).2.1
    exact ih2 e k5 ⟨z1, z2, z3, z4, z5, ⟨hz.op.1, by have := hz.op.2; dsimp only; omega⟩⟩
end Go.Proofs.YtgkfbagclkjilaaGreatDoor
namespace Go.Proofs.YtgkfbagclkjilaaGreatDoor
open Go Go.Ev Go.Proofs
open Go.Proofs.YtgkfbagclkjilaaGreatDoor.Fr (fTo fOn fPlain fForked fJoined fClosed fChild fRoot fR isB fTo_len fOn_len fPlain_len fForked_len fJoined_len fClosed_len)
open Go.Proofs.YtgkfbagclkjilaaGreatDoor.Ck (opI Walk Accs needsOf isGoes heldL depths stepD handlesOk subBits scopesOk forks)
theorem funcs_of {w : World} {ps : Sl} {P : List FnR} (hF : Funcs5 w ps P) : Fr.Funcs w ps (P.map fun g => (g.needs, g.sl)) := by
  have := hF.rws
  unfold Fr.Funcs
  rw [List.map_map]
  exact this
theorem does_s {w0 w : World} {L : List HP} {g : Nat} {vs : List Value} {v : Value} {j : Nat} {f : HP → List HP} {c : Value → Prop} (h : St w0 w L) [a : At L (blk g) vs f] (hj : j < 9) (hv : vs[j]? = some v) (hc : c v) : ixS ⟨some ⟨g, 0, none⟩, 9, 9⟩ (j : Int) 1 fun a => ldV w a c := by
  unfold ixS
  refine ⟨⟨by omega, by simp only; omega⟩, ?_⟩
  have e : (⟨g, 0, none⟩ : Addr).add (((j : Int)).toNat * 1) = ⟨g, j, none⟩ := by rw [add_mk, Int.toNat_natCast]; simp
  show ldV w _ c
  rw [e]
  exact ldV_h (g := g) (o := j) h hv hc
section
variable {w0 w : World} {R : List HP} {gc gm gt : Nat} {ps : Sl} {P : List FnR} {F : Int} {t : Tk} {m : Mc} {s : Sl} {pi pl : Option Addr} {B : List (Bool × Int)} {i : List Int} {q : Value → World → Prop}
theorem fork_s {run : RunT} {k : Unit → World → Prop} {Ok : Mc → Prop} {cf : List Int} {row : Nat} {st : Int} (hF : Funcs5 w0 ps P) (h : St w0 w (SSL gc gm gt ps F t pi pl B.length { m with steps := st } s false R)) (hB : ∀ w, St w0 w R → Chn w pi B) (hf : t.f.length = 19) (h5 : i.length = 5)
    (hi8 : isB i 8 = true) (hN : 0 ≤ i.getD 4 0) (hlt : (i.getD 4 0).toNat < P.length) (hcf : cf = fChild t.f (i.getD 4 0) (needsOf P (i.getD 4 0)))
    (hrun : ∀ w' R' kk, St w0 w' (MML gc gm ps F { m with steps := st } s R') → (∀ w, St w0 w R' → Chn w pl (t.sc ++ B)) → (∀ w, St w0 w R' → St w0 w R) →
      (∀ w'' m2 s2, Ok m2 → St w0 w'' (MML gc gm ps F m2 s2 R') → kk ((row : Nat) : Int) w'') → run (agI cf) t.row pl ⟨gc, 0, none⟩ w' q kk)
    (hk : ∀ m2 s2 w3, Ok m2 → St w0 w3 (SSL gc gm gt ps F { t with f := fForked t.f i row } pi pl B.length m2 s2 false R) → k () w3) : forkOf run (some ⟨gm, 0, none⟩) (some ⟨gt, 0, none⟩) (agI i) w q k := by
  unfold forkOf serial_machine_fork_b
  refine newC_h h fun g1 w2 h => ?_
  have h : St w0 w2 (blk g1 (ints i) :: SSL gc gm gt ps F t pi pl B.length { m with steps := st } s false R) := h
  have hcl : cf.length = 19 := by rw [hcf]; exact (child_get hf).1
  refine joinP_i (fun z w' => ∃ g, z = ⟨g, 0, none⟩ ∧ St w0 w' (blk g (ints cf) :: blk g1 (ints i) :: SSL gc gm gt ps F t pi pl B.length { m with steps := st } s false R)) (fun J hJ => ?_) ?_
  · refine drew_h h fun w4 h => ?_
    refine nn_i ?_
    refine ldA_h (n := 19) (g := gt) (o := 0 + 0) h (by rw [tsk_len hf]; decide) ?_
    rw [tsk_f hf]
    refine nn_i ?_
    refine ldA_h (n := 1) (g := gm) (o := 0 + 0) h (by simp) ?_
    refine ldW_h (g := g1) h (by simp [ints, h5]) ?_
    obtain ⟨g', hg'⟩ : ∃ g', P[(i.getD 4 0).toNat]? = some g' := ⟨_, List.getElem?_eq_getElem hlt⟩
    have hcs : ∀ {w' : World} {kk : Array Value × Int → World → Prop}, Ext w0 w' → (∀ w'', Ext w' w'' → kk (agI cf, 0) w'') → frame_Frame_Child (agI t.f) #[.slice ps.a ps.n ps.c] (agI i) w' kk := by
      intro w' kk he hkk
      refine Fr.child_s hf h5 (funcs_of (hF.ext he)) (fun q => by rw [hi8] at q; cases q) (fun _ q => by rw [List.length_map] at q; omega) fun _ x hx w'' he' => ?_
      rw [List.getElem?_map, hg'] at hx
      cases hx
      have := hkk w'' he'
      rw [hcf, Ck.needs_get hg'] at this
      exact this
    refine ⟨?_, ?_⟩
    · refine hcs h.ext fun w11 he => ?_
      have h2 := ext_of h he
      refine newC_h h2 fun g12 w13 h2 => ?_
      refine samec_h (g := g1) (o := 0) h h2 (samec_h (g := gm) (o := 0 + 0) h h2 (samec_h (g := gt) (o := 0 + 0) h h2 ?_))
      refine stW_h (g := g12) h2 rfl (by simp [agI, ints, hcl]) (Ck.one_agI _) fun w14 h2 => ?_
      exact hJ _ _ ⟨g12, rfl, h2⟩
    · refine newC_h h fun g15 w16 h2 => ?_
      refine samec_h (g := g1) (o := 0) h h2 (samec_h (g := gm) (o := 0 + 0) h h2 (samec_h (g := gt) (o := 0 + 0) h h2 ?_))
      refine hcs h2.ext fun w18 he => ?_
      have h2 := ext_of h2 he
      refine stW_h (g := g15) h2 rfl (by simp [agI, ints, hcl]) (Ck.one_agI _) fun w19 h2 => ?_
      exact hJ _ _ ⟨g15, rfl, h2⟩
  rintro _ w21 ⟨g, rfl, h⟩
  refine drew_h h fun w22 h => ?_
  refine nn_i ?_
  refine ldA_h (n := 19) (g := gt) (o := 0 + 0) h (by rw [tsk_len hf]; decide) ?_
  rw [tsk_f hf]
  refine ldW_h (g := g1) h (by simp [ints, h5]) ?_
  refine nn_i ?_
  refine ldV_h (g := gm) (o := 0 + 4) h rfl ?_
  refine ldW_h (g := g) h (by simp [ints, hcl]) ?_
  refine nn_i ?_
  refine ldI_h (g := gt) (o := 0 + 19) h (tsk_row hf) ?_
  refine nn_i ?_
  refine ldP_h (g := gt) (o := 0 + 21) h (tsk_pl hf) ?_
  refine callP_i (d := decRun run) (fun _ _ _ => rfl) ?_
  have hM : St w0 w22 (MML gc gm ps F { m with steps := st } s (blk g1 (ints i) :: blk gt (tskV t pi pl false) :: seg B.length pi pl t.sc :: R)) := (h.rm 0 rfl).perm (by simp only [List.eraseIdx]; repeat' (first | exact List.Perm.refl _ | refine perm_f 0 rfl ?_ | refine perm_f 1 rfl ?_ | refine perm_f 2 rfl ?_ | refine perm_f 3 rfl ?_ | refine perm_f 4 rfl ?_ | refine perm_f 5 rfl ?_ | refine perm_f 6 rfl ?_ | refine perm_f 7 rfl ?_))
  refine hrun w22 (blk g1 (ints i) :: blk gt (tskV t pi pl false) :: seg B.length pi pl t.sc :: R) _ hM (fun w hw => seg_chn (hB w) ((hw.rm 0 rfl).rm 0 rfl)) (fun w hw => ((hw.rm 0 rfl).rm 0 rfl).rm 0 rfl) fun w34 m2 s2 hOk h2 => ?_
  refine toI_i ?_
  refine samec_h (g := g1) (o := 0) h h2 (samec_h (g := gt) (o := 0 + 0) h h2 ?_)
  refine Fr.forked_s hf h5 fun w37 he => ?_
  have h2 := ext_of h2 he
  refine nn_i ?_
  refine stA_h (n := 19) (g := gt) (o := 0 + 0) (vs := agI (fForked t.f i row)) h2 (by simp [agI, ints, fForked_len, hf]) (by rw [tsk_len hf]; decide) (Ck.one_agI _) fun w39 h2 => ?_
  rw [tsk_setf hf (by rw [fForked_len, hf])] at h2
  exact hk m2 s2 _ hOk ((h2.rm 3 rfl).perm (by simp only [List.eraseIdx]; repeat' (first | exact List.Perm.refl _ | refine perm_f 0 rfl ?_ | refine perm_f 1 rfl ?_ | refine perm_f 2 rfl ?_ | refine perm_f 3 rfl ?_ | refine perm_f 4 rfl ?_ | refine perm_f 5 rfl ?_ | refine perm_f 6 rfl ?_ | refine perm_f 7 rfl ?_)))
end
end Go.Proofs.YtgkfbagclkjilaaGreatDoor
namespace Go.Proofs.YtgkfbagclkjilaaGreatDoor
open Go Go.Ev Go.Proofs
open Go.Proofs.YtgkfbagclkjilaaGreatDoor.Fr (fTo fOn fPlain fForked fJoined fClosed fChild fRoot fR isB fTo_len fOn_len fPlain_len fForked_len fJoined_len fClosed_len)
open Go.Proofs.YtgkfbagclkjilaaGreatDoor.Ck (opI Walk Accs needsOf isGoes heldL depths stepD handlesOk subBits scopesOk forks)
section
variable {w0 w : World} {R : List HP} {gc gm gt : Nat} {ps : Sl} {P : List FnR} {F : Int} {t : Tk} {m : Mc} {s : Sl} {pi pl : Option Addr} {B : List (Bool × Int)} {q : Value → World → Prop}
theorem step_s {run : RunT} {k : Unit → World → Prop} (hF : Funcs5 w0 ps P) (hA : Accs P) (hI : Inv P t m) (hz : Sz F t m) (hnest : t.nest + 1 = B.length) (hoff : t.off = B.any (·.1)) (hB : ∀ w, St w0 w R → Chn w pi B)
    (h : St w0 w (SSL gc gm gt ps F t pi pl B.length m s false R))
    (hfin : ∀ m' w' t' pl', stp P F t m = .fin m' → St w0 w' (SSL gc gm gt ps F t' pi pl' B.length m' s true R) → t'.f.length = 19 → t'.row = t.row → k () w')
    (hbad : ∀ e w', stp P F t m = .bad e → St w0 w' R → q (.iface 62 (.int .i64 e)) w')
    (hgo : ∀ t' m' w' pl', stp P F t m = .go t' m' → St w0 w' (SSL gc gm gt ps F t' pi pl' B.length m' s false R) → k () w')
    (hforkR : ∀ c m1 i, stp P F t m = .fork c m1 i → ∀ w' R' kk, St w0 w' (MML gc gm ps F { m with steps := m.steps + 1 } s R') → (∀ w, St w0 w R' → Chn w pl (t.sc ++ B)) → (∀ w, St w0 w R' → St w0 w R) →
      (∀ w'' m2 s2, Goes P F c m1 (.ok m2) → St w0 w'' (MML gc gm ps F m2 s2 R') → kk ((c.row : Nat) : Int) w'') → run (agI c.f) t.row pl ⟨gc, 0, none⟩ w' q kk)
    (hforkK : ∀ c m1 i m2 s2 w3, stp P F t m = .fork c m1 i → Goes P F c m1 (.ok m2) → St w0 w3 (SSL gc gm gt ps F { t with f := fForked t.f i c.row } pi pl B.length m2 s2 false R) → k () w3) : stepOf run (some ⟨gm, 0, none⟩) (some ⟨gt, 0, none⟩) w q k := by
  obtain ⟨g, hv, ha⟩ := hI.at hA
  obtain ⟨hp0, hp1⟩ := at_pc ha
  have hf := hI.len
  have hmem := List.mem_of_getElem? ha.ins
  obtain ⟨_, hcd⟩ := hF.code g (List.mem_of_getElem? ha.at0)
  have h5 := (hcd.five _ hmem).1
  have hck := Ck.chk0 ha.chk
  have hregs := Fr.chk_regs (chk_fr ha.chk)
  have hs0 := hz.s0; have hsF := hz.sF; have hF0 := hz.F0
  generalize hi : insAt P t.f = i at ha hmem h5 hck hregs
  have hop0 : 0 ≤ i.getD 0 0 := hck.1
  have hop1 : i.getD 0 0 < 17 := hck.2.1
  unfold stepOf serial_machine_step_b
  refine joinP_i (fun z w' => ∃ g, z = (⟨g, 0, none⟩, 0) ∧ St w0 w' (blk g (ints i) :: SSL gc gm gt ps F t pi pl B.length m s false R)) (fun J hJ => ?_) ?_
  · refine drew_h h fun w2 h => ?_
    refine nn_i ?_
    refine ldA_h (n := 19) (g := gt) (o := 0 + 0) h (by rw [tsk_len hf]; decide) ?_
    rw [tsk_f hf]
    refine nn_i ?_
    refine ldA_h (n := 1) (g := gm) (o := 0 + 0) h (by simp) ?_
    refine ⟨?_, ?_⟩
    · refine next_s (hF.ext h.ext) hf hI.f0 ha.at0 hp0 ha.ins fun w8 he => ?_
      have h2 := ext_of h he
      refine newC_h h2 fun g9 w10 h2 => ?_
      refine samec_h (g := gm) (o := 0 + 0) h h2 (samec_h (g := gt) (o := 0 + 0) h h2 ?_)
      refine stW_h (g := g9) h2 rfl (by simp [agI, ints, h5]) (Ck.one_agI _) fun w11 h2 => ?_
      exact hJ _ _ ⟨g9, rfl, h2⟩
    · refine newC_h h fun g12 w13 h2 => ?_
      refine samec_h (g := gm) (o := 0 + 0) h h2 (samec_h (g := gt) (o := 0 + 0) h h2 ?_)
      refine next_s (hF.ext h2.ext) hf hI.f0 ha.at0 hp0 ha.ins fun w15 he => ?_
      have h2 := ext_of h2 he
      refine stW_h (g := g12) h2 rfl (by simp [agI, ints, h5]) (Ck.one_agI _) fun w16 h2 => ?_
      exact hJ _ _ ⟨g12, rfl, h2⟩
  rintro _ w18 ⟨g1, rfl, h⟩
  refine joinP_i (fun _ w' => w' = w18) (fun J hJ => iteB_f rfl (hJ _ _ rfl)) fun _ w21 e21 => ?_
  rw [e21]
  have hcB : Chn w18 pi B := hB w18 (((((h.rm 0 rfl).rm 0 rfl).rm 0 rfl).rm 0 rfl).rm 0 rfl |>.rm 0 rfl)
  refine joinP_i (fun b w' => b = (t.off && ((t.f.getD 18 0 == 0) || isPt (i.getD 0 0))) ∧ w' = w18) (fun J hJ => ?_) fun b36 w37 hb36 => ?_
  · refine nn_i ?_
    refine ldI_h (g := gt) (o := 0 + 0 + 18) h (tsk_get hf (by decide)) ?_
    refine iteB_i (fun hb => ?_) fun hb => ?_
    · refine nn_i ?_
      refine ldP_h (g := gt) (o := 0 + 20) h (tsk_pi hf) ?_
      refine cancel_s hcB (hJ _ _ ⟨?_, rfl⟩)
      rw [hoff, show (t.f.getD 18 0 == 0) = true from hb, Bool.true_or, Bool.and_true]
    · refine ldI_h (g := g1) (o := 0 + 0) h (ints_getD (by omega)) ?_
      refine point_s hop0 hop1 ?_
      refine iteB_i (fun hb2 => ?_) fun hb2 => ?_
      · refine nn_i ?_
        refine ldP_h (g := gt) (o := 0 + 20) h (tsk_pi hf) ?_
        refine cancel_s hcB (hJ _ _ ⟨?_, rfl⟩)
        rw [hoff, show isPt (i.getD 0 0) = true from hb2, Bool.or_true, Bool.and_true]
      · refine hJ _ _ ⟨?_, rfl⟩
        rw [show (t.f.getD 18 0 == 0) = false from hb, show isPt (i.getD 0 0) = false from hb2, Bool.or_false, Bool.and_false]
  rw [hb36.1, hb36.2]
  refine iteB_i (fun hc => ?_) fun hc => ?_
  · refine end_s (m := m) (h.rm 0 rfl) hI.row hf fun w' h => ?_
    exact hfin _ _ _ _ (by unfold stp; rw [hi, if_pos hc]) h hf rfl
  have hc' : ¬ (t.off && ((t.f.getD 18 0 == 0) || isPt (i.getD 0 0))) = true := by rw [hc]; decide
  refine drew_h h fun w39 h => ?_
  refine nn_i ?_
  refine ldI_h (g := gm) (o := 0 + 2) h rfl ?_
  refine nn_i ?_
  refine ldI_h (g := gm) (o := 0 + 1) h rfl ?_
  have hRall : ∀ {w'}, St w0 w' (blk g1 (ints i) :: SSL gc gm gt ps F t pi pl B.length m s false R) → St w0 w' R := fun h => ((((((h.rm 0 rfl).rm 0 rfl).rm 0 rfl).rm 0 rfl).rm 0 rfl).rm 0 rfl)
  refine joinP_i (fun _ w' => w' = w39 ∧ m.steps < F) (fun J hJ => ?_) fun _ w46 e46 => ?_
  · refine iteB_i (fun hb => ?_) fun hb => ?_
    · have hb : m.steps ≥ F := of_decide_eq_true hb
      exact hbad 22 _ (by unfold stp; rw [hi, if_neg hc', if_pos hb]) (hRall h)
    · have hb : ¬ m.steps ≥ F := of_decide_eq_false hb
      exact hJ _ _ ⟨rfl, by omega⟩
  rw [e46.1]
  have hlt := e46.2
  have hnF : ¬ m.steps ≥ F := by omega
  refine joinP_i (fun b w' => w' = w39 ∧ b = ((i.getD 0 0 == 8) || (i.getD 0 0 == 11))) (fun J hJ => ?_) fun b50 w51 e51 => ?_
  · refine ldI_h (g := g1) (o := 0 + 0) h (ints_getD (by omega)) ?_
    refine iteB_i (fun hb => ?_) fun hb => ?_
    · exact hJ _ _ ⟨rfl, by rw [show (i.getD 0 0 == 8) = true from hb]; rfl⟩
    · refine ldI_h (g := g1) (o := 0 + 0) h (ints_getD (by omega)) (hJ _ _ ⟨rfl, ?_⟩)
      rw [show (i.getD 0 0 == 8) = false from hb]; rfl
  rw [e51.1, e51.2]
  have hcP : Chn w39 pl (t.sc ++ B) := seg_chn (hB w39) (((h.rm 0 rfl).rm 0 rfl).rm 0 rfl |>.rm 0 rfl |>.perm (by simp only [List.eraseIdx]; exact (List.Perm.refl _)) |> fun h : St w0 w39 (seg B.length pi pl t.sc :: blk gc [.pointer (some ⟨gm, 0, none⟩)] :: R) => h.rm 1 rfl)
  refine joinP_i (fun _ w' => w' = w39 ∧ ¬ ((i.getD 0 0 = 8 ∨ i.getD 0 0 = 11) ∧ 32 ≤ t.nest + t.sc.length)) (fun J hJ => ?_) fun _ w57 e57 => ?_
  · refine iteB_i (fun hb => ?_) fun hb => ?_
    · have hb : i.getD 0 0 = 8 ∨ i.getD 0 0 = 11 := by simpa using hb
      refine nn_i ?_
      refine ldP_h (g := gt) (o := 0 + 21) h (tsk_pl hf) ?_
      obtain ⟨x, l, e⟩ : ∃ x l, t.sc ++ B = x :: l := by
        cases hs : t.sc with
        | nil => exact (hI.sc hs).elim
        | cons x l => exact ⟨x, l ++ B, rfl⟩
      rw [e] at hcP
      have el : l.length + 1 = t.sc.length + B.length := by have := congrArg List.length e; simp at this; omega
      refine deep_s hcP (fun hd => ?_) fun hd => ?_
      · exact hbad 23 _ (by unfold stp; rw [hi, if_neg hc', if_neg hnF, if_pos ⟨hb, by omega⟩]) (hRall h)
      · exact hJ _ _ ⟨rfl, fun q => by omega⟩
    · exact hJ _ _ ⟨rfl, fun q => by
        rcases q.1 with q | q <;> rw [q] at hb <;> cases hb⟩
  rw [e57.1]
  have hnd := e57.2
  refine nn_i ?_
  refine ldI_h (g := gm) (o := 0 + 2) h rfl ?_
  refine nn_i ?_
  refine stC_h (g := gm) (o := 0 + 2) (v := .int .i64 (IntKind.wrap .i64 (m.steps + 1))) h rfl (by simp) fun w61 h => ?_
  rw [wrap_id ⟨by omega, by omega⟩] at h
  have h : St w0 w61 (blk g1 (ints i) :: SSL gc gm gt ps F t pi pl B.length { m with steps := m.steps + 1 } s false R) := h
  have hfl : (fPlain t.f i).1.length = 19 := fPlain_len hf
  refine joinP_i (fun z w' => ∃ g2, z = (⟨g2, 0, none⟩, (fPlain t.f i).2) ∧ St w0 w' (blk g2 (ints (fPlain t.f i).1) :: blk g1 (ints i) :: SSL gc gm gt ps F t pi pl B.length { m with steps := m.steps + 1 } s false R)) (fun J hJ => ?_) ?_
  · refine drew_h h fun w63 h => ?_
    refine nn_i ?_
    refine ldA_h (n := 19) (g := gt) (o := 0 + 0) h (by rw [tsk_len hf]; decide) ?_
    rw [tsk_f hf]
    refine ldW_h (g := g1) h (by simp [ints, h5]) ?_
    refine ⟨?_, ?_⟩
    · refine Fr.plain_F hf h5 fun w68 he => ?_
      have h2 := ext_of h he
      refine newC_h h2 fun g69 w70 h2 => ?_
      refine samec_h (g := g1) (o := 0) h h2 (samec_h (g := gt) (o := 0 + 0) h h2 ?_)
      refine stW_h (g := g69) h2 rfl (by simp [agI, ints, hfl]) (Ck.one_agI _) fun w71 h2 => ?_
      exact hJ _ _ ⟨g69, rfl, h2⟩
    · refine newC_h h fun g72 w73 h2 => ?_
      refine samec_h (g := g1) (o := 0) h h2 (samec_h (g := gt) (o := 0 + 0) h h2 ?_)
      refine Fr.plain_F hf h5 fun w75 he => ?_
      have h2 := ext_of h2 he
      refine stW_h (g := g72) h2 rfl (by simp [agI, ints, hfl]) (Ck.one_agI _) fun w76 h2 => ?_
      exact hJ _ _ ⟨g72, rfl, h2⟩
  rintro _ w78 ⟨g2, rfl, h⟩
  refine iteB_i (fun hp => ?_) fun hp => ?_
  · have hp : (fPlain t.f i).2 = true := hp
    refine ldW_h (g := g2) h (by simp [ints, hfl]) ?_
    refine nn_i ?_
    refine stA_h (n := 19) (g := gt) (o := 0 + 0) (vs := agI (fPlain t.f i).1) h (by simp [agI, ints, hfl]) (by rw [tsk_len hf]; decide) (Ck.one_agI _) fun w81 h => ?_
    rw [tsk_setf hf hfl] at h
    exact hgo { t with f := (fPlain t.f i).1 } { m with steps := m.steps + 1 } _ pl (by unfold stp; rw [hi, if_neg hc', if_neg hnF, if_neg hnd, if_pos hp]) ((h.rm 0 rfl).rm 0 rfl)
  have hp : (fPlain t.f i).2 = false := hp
  have hop := plain_not ha.chk hp
  have hstp : stp P F t m = act P i t { m with steps := m.steps + 1 } := by unfold stp; rw [hi, if_neg hc', if_neg hnF, if_neg hnd, if_neg (by rw [hp]; decide)]
  refine newC_h h fun g82 w83 h => ?_
  refine drew_h h fun w84 h => ?_
  refine ldI_h (g := g1) (o := 0 + 0) h (ints_getD (by omega)) ?_
  have hS : ∀ {w'}, St w0 w' (blk g82 (#[(.func (.func n_serial_machine_fork) #[(.pointer (some ⟨gm, 0, none⟩))] #[]), (.func (.func n_serial_machine_join) #[(.pointer (some ⟨gm, 0, none⟩))] #[]), (.func (.func n_serial_machine_join) #[(.pointer (some ⟨gm, 0, none⟩))] #[]), (.func (.func n_serial_machine_open) #[(.pointer (some ⟨gm, 0, none⟩))] #[]), (.func (.func n_serial_machine_close) #[(.pointer (some ⟨gm, 0, none⟩))] #[]), (.func (.func n_serial_machine_cancel) #[(.pointer (some ⟨gm, 0, none⟩))] #[]), (.func (.func n_serial_machine_pass) #[(.pointer (some ⟨gm, 0, none⟩))] #[]), (.func (.func n_serial_machine_leave) #[(.pointer (some ⟨gm, 0, none⟩))] #[]), (.func (.func n_serial_machine_leave) #[(.pointer (some ⟨gm, 0, none⟩))] #[])] : Array Value).toList :: blk g2 (ints (fPlain t.f i).1) :: blk g1 (ints i) :: SSL gc gm gt ps F t pi pl B.length { m with steps := m.steps + 1 } s false R) → St w0 w' (SSL gc gm gt ps F t pi pl B.length { m with steps := m.steps + 1 } s false R) := fun h => ((h.rm 0 rfl).rm 0 rfl).rm 0 rfl
  have hjoin : i.getD 0 0 = 9 ∨ i.getD 0 0 = 10 → ∀ w', St w0 w' (SSL gc gm gt ps F t pi pl B.length { m with steps := m.steps + 1 } s false R) → serial_machine_join (some ⟨gm, 0, none⟩) (some ⟨gt, 0, none⟩) (agI i) w' k := by
    intro h910 w' h
    obtain ⟨j0, j1, j2, r, hr, hk⟩ := at_join ha h910
    have hro : rOf i t { m with steps := m.steps + 1 } = r := by unfold rOf; rw [List.getD_eq_getElem?_getD]; dsimp only; rw [hr]; rfl
    refine join_s (m := { m with steps := m.steps + 1 }) (h' := hOf i) (r := r) rfl h hf h5 hI.row ⟨j0, j1⟩ j2 hr (fun hb w' t' h e1 e2 e3 => ?_) fun hb w' h => ?_
    · have h : St w0 w' (SSL gc gm gt ps F t' pi pl B.length (({ m with steps := m.steps + 1 } : Mc).fin t.row (fJoined t.f i r.kind r.v).1 3 (fJoined t.f i r.kind r.v).2.1) s true R) := by unfold SSL; rw [e3]; exact h
      exact hfin _ _ _ _ (by rw [hstp]; unfold act; rw [if_neg (by omega), if_pos h910, hro, if_pos hb]) h e1 e2
    · exact hgo { t with f := (fJoined t.f i r.kind r.v).1 } { m with steps := m.steps + 1 } _ _ (by rw [hstp]; unfold act; rw [if_neg (by omega), if_pos h910, hro, if_neg (by rw [hb]; decide)]) h
  have hleave : 15 ≤ i.getD 0 0 → ∀ w', St w0 w' (SSL gc gm gt ps F t pi pl B.length { m with steps := m.steps + 1 } s false R) → serial_machine_leave (some ⟨gm, 0, none⟩) (some ⟨gt, 0, none⟩) (agI i) w' k := by
    intro hl w' h
    refine leave_s (m := { m with steps := m.steps + 1 }) h hf h5 hI.row hregs.1 fun w' t' h e1 e2 e3 => ?_
    have h : St w0 w' (SSL gc gm gt ps F t' pi pl B.length (({ m with steps := m.steps + 1 } : Mc).fin t.row (fOn t.f) (if i.getD 0 0 = 15 then 3 else 2) (fR (fOn t.f) (i.getD 1 0))) s true R) := by unfold SSL; rw [e3]; exact h
    exact hfin _ _ _ _ (by rw [hstp]; unfold act; rw [if_neg (by omega), if_neg (by omega), if_neg (by omega), if_neg (by omega), if_neg (by omega), if_neg (by omega)]) h e1 e2
  obtain ⟨x, l, esc⟩ : ∃ x l, t.sc = x :: l := by
    cases hs : t.sc with
    | nil => exact (hI.sc hs).elim
    | cons x l => exact ⟨x, l, rfl⟩
  have hcases : i.getD 0 0 = 8 ∨ i.getD 0 0 = 9 ∨ i.getD 0 0 = 10 ∨ i.getD 0 0 = 11 ∨ i.getD 0 0 = 12 ∨ i.getD 0 0 = 13 ∨ i.getD 0 0 = 14 ∨ i.getD 0 0 = 15 ∨ i.getD 0 0 = 16 := by omega
  rcases hcases with ho | ho | ho | ho | ho | ho | ho | ho | ho
  · show ixS _ (IntKind.wrap .i64 (i.getD 0 0 - 8)) 1 _
    rw [ho, show IntKind.wrap .i64 ((8 : Int) - 8) = ((0 : Nat) : Int) by decide]
    refine does_s (g := g82) h (by decide) rfl ?_
    refine ldW_h (g := g1) h (by simp [ints, h5]) ?_
    refine callP_i (d := fun args w c q => unL [.p, .p, .ag] args fun x => forkOf run x.1 x.2.1 x.2.2 w q fun r w => c (packV (valL [] r)) w) (fun _ _ _ => rfl) ?_
    obtain ⟨c, m1, hs, hcf⟩ : ∃ c m1, stp P F t m = .fork c m1 i ∧ c.f = fChild t.f (i.getD 4 0) (needsOf P (i.getD 4 0)) := ⟨_, _, hstp.trans (by unfold act; rw [if_pos ho]), rfl⟩
    have hpl := (Ck.places_in ha.good.places).2 ho
    have h4 := hck.2.2.2.1 ho
    refine fork_s (Ok := fun m2 => Goes P F c m1 (.ok m2)) (cf := c.f) (row := c.row) hF (hS h) hB hf h5 (isB_of ha.chk ho) h4.1 (by omega) hcf (fun w' R' kk h1 h2 h3 h4 => ?_) fun m2 s2 w3 hOk h3 => ?_
    · exact hforkR _ _ _ hs w' R' kk h1 h2 h3 h4
    · exact hforkK _ _ _ m2 s2 w3 hs hOk h3
  · show ixS _ (IntKind.wrap .i64 (i.getD 0 0 - 8)) 1 _
    rw [ho, show IntKind.wrap .i64 ((9 : Int) - 8) = ((1 : Nat) : Int) by decide]
    refine does_s (g := g82) h (by decide) rfl ?_
    refine ldW_h (g := g1) h (by simp [ints, h5]) ?_
    refine callP_i (d := fun args w c q => unL [.p, .p, .ag] args fun x => serial_machine_join x.1 x.2.1 x.2.2 w fun r w => c (packV (valL [] r)) w) (fun _ _ _ => rfl) ?_
    exact hjoin (.inl ho) _ (hS h)
  · show ixS _ (IntKind.wrap .i64 (i.getD 0 0 - 8)) 1 _
    rw [ho, show IntKind.wrap .i64 ((10 : Int) - 8) = ((2 : Nat) : Int) by decide]
    refine does_s (g := g82) h (by decide) rfl ?_
    refine ldW_h (g := g1) h (by simp [ints, h5]) ?_
    refine callP_i (d := fun args w c q => unL [.p, .p, .ag] args fun x => serial_machine_join x.1 x.2.1 x.2.2 w fun r w => c (packV (valL [] r)) w) (fun _ _ _ => rfl) ?_
    exact hjoin (.inr ho) _ (hS h)
  · show ixS _ (IntKind.wrap .i64 (i.getD 0 0 - 8)) 1 _
    rw [ho, show IntKind.wrap .i64 ((11 : Int) - 8) = ((3 : Nat) : Int) by decide]
    refine does_s (g := g82) h (by decide) rfl ?_
    refine ldW_h (g := g1) h (by simp [ints, h5]) ?_
    refine callP_i (d := fun args w c q => unL [.p, .p, .ag] args fun x => serial_machine_open x.1 x.2.1 x.2.2 w fun r w => c (packV (valL [] r)) w) (fun _ _ _ => rfl) ?_
    have hn := hI.nest
    have hh : St w0 w84 (blk gt (tskV t pi pl false) :: seg B.length pi pl t.sc :: blk gm [.slice ps.a ps.n ps.c, .int .i64 F, .int .i64 (m.steps + 1), .slice s.a s.n s.c, dRun (.pointer (some ⟨gc, 0, none⟩))] :: slc 7 s (rowsV m.rows) :: blk gc [.pointer (some ⟨gm, 0, none⟩)] :: R) := (hS h).perm (by repeat' (first | exact List.Perm.refl _ | refine perm_f 0 rfl ?_ | refine perm_f 1 rfl ?_ | refine perm_f 2 rfl ?_ | refine perm_f 3 rfl ?_ | refine perm_f 4 rfl ?_ | refine perm_f 5 rfl ?_ | refine perm_f 6 rfl ?_ | refine perm_f 7 rfl ?_))
    refine open_s (gm := gm) (B' := B) hh (fun w hw => hB w (((hw.rm 0 rfl).rm 0 rfl).rm 0 rfl)) hf hI.sc (by omega) ⟨hz.op.1, by have := hz.op.2; omega⟩ fun w' pl' h => ?_
    exact hgo { t with f := fOn t.f, sc := (false, t.opened + 1) :: t.sc, opened := t.opened + 1 } { m with steps := m.steps + 1 } w' pl' (by rw [hstp]; unfold act; rw [if_neg (by omega), if_neg (by omega), if_pos ho]) (h.perm (by repeat' (first | exact List.Perm.refl _ | refine perm_f 0 rfl ?_ | refine perm_f 1 rfl ?_ | refine perm_f 2 rfl ?_ | refine perm_f 3 rfl ?_ | refine perm_f 4 rfl ?_ | refine perm_f 5 rfl ?_ | refine perm_f 6 rfl ?_ | refine perm_f 7 rfl ?_)))
  · show ixS _ (IntKind.wrap .i64 (i.getD 0 0 - 8)) 1 _
    rw [ho, show IntKind.wrap .i64 ((12 : Int) - 8) = ((4 : Nat) : Int) by decide]
    refine does_s (g := g82) h (by decide) rfl ?_
    refine ldW_h (g := g1) h (by simp [ints, h5]) ?_
    refine callP_i (d := fun args w c q => unL [.p, .p, .ag] args fun x => serial_machine_close x.1 x.2.1 x.2.2 w fun r w => c (packV (valL [] r)) w) (fun _ _ _ => rfl) ?_
    have hh : St w0 w84 (blk gm [.slice ps.a ps.n ps.c, .int .i64 F, .int .i64 (m.steps + 1), .slice s.a s.n s.c, dRun (.pointer (some ⟨gc, 0, none⟩))] :: slc 7 s (rowsV m.rows) :: blk gt (tskV t pi pl false) :: seg B.length pi pl (x :: l) :: blk gc [.pointer (some ⟨gm, 0, none⟩)] :: R) := by rw [← esc]; exact hS h
    refine close_s (m := { m with steps := m.steps + 1 }) hh hf h5 hI.row (by have := hz.cl _ (getD_mem (l := m.rows) hI.row); show (m.rows.getD t.row r0).cl.length < 100000000; omega) fun w' pl' h => ?_
    exact hgo { t with f := fClosed t.f i x.1, sc := l } (({ m with steps := m.steps + 1 } : Mc).told t.row x.1) w' pl' (by rw [hstp]; unfold act; rw [if_neg (by omega), if_neg (by omega), if_neg (by omega), if_pos ho, esc]; rfl) h
  · show ixS _ (IntKind.wrap .i64 (i.getD 0 0 - 8)) 1 _
    rw [ho, show IntKind.wrap .i64 ((13 : Int) - 8) = ((5 : Nat) : Int) by decide]
    refine does_s (g := g82) h (by decide) rfl ?_
    refine ldW_h (g := g1) h (by simp [ints, h5]) ?_
    refine callP_i (d := fun args w c q => unL [.p, .p, .ag] args fun x => serial_machine_cancel x.1 x.2.1 x.2.2 w fun r w => c (packV (valL [] r)) w) (fun _ _ _ => rfl) ?_
    have hh : St w0 w84 (blk gt (tskV t pi pl false) :: seg B.length pi pl (x :: l) :: blk gm [.slice ps.a ps.n ps.c, .int .i64 F, .int .i64 (m.steps + 1), .slice s.a s.n s.c, dRun (.pointer (some ⟨gc, 0, none⟩))] :: slc 7 s (rowsV m.rows) :: blk gc [.pointer (some ⟨gm, 0, none⟩)] :: R) := by rw [← esc]; exact (hS h).perm (by repeat' (first | exact List.Perm.refl _ | refine perm_f 0 rfl ?_ | refine perm_f 1 rfl ?_ | refine perm_f 2 rfl ?_ | refine perm_f 3 rfl ?_ | refine perm_f 4 rfl ?_ | refine perm_f 5 rfl ?_ | refine perm_f 6 rfl ?_ | refine perm_f 7 rfl ?_))
    refine cancelm_s (gm := gm) hh hf fun w' h => ?_
    exact hgo { t with f := fOn t.f, sc := (true, x.2) :: l } { m with steps := m.steps + 1 } w' pl (by rw [hstp]; unfold act; rw [if_neg (by omega), if_neg (by omega), if_neg (by omega), if_neg (by omega), if_pos ho, esc]; rfl) (h.perm (by repeat' (first | exact List.Perm.refl _ | refine perm_f 0 rfl ?_ | refine perm_f 1 rfl ?_ | refine perm_f 2 rfl ?_ | refine perm_f 3 rfl ?_ | refine perm_f 4 rfl ?_ | refine perm_f 5 rfl ?_ | refine perm_f 6 rfl ?_ | refine perm_f 7 rfl ?_)))
  · show ixS _ (IntKind.wrap .i64 (i.getD 0 0 - 8)) 1 _
    rw [ho, show IntKind.wrap .i64 ((14 : Int) - 8) = ((6 : Nat) : Int) by decide]
    refine does_s (g := g82) h (by decide) rfl ?_
    refine ldW_h (g := g1) h (by simp [ints, h5]) ?_
    refine callP_i (d := fun args w c q => unL [.p, .p, .ag] args fun x => serial_machine_pass x.1 x.2.1 x.2.2 w fun r w => c (packV (valL [] r)) w) (fun _ _ _ => rfl) ?_
    have hh : St w0 w84 (blk gt (tskV t pi pl false) :: seg B.length pi pl t.sc :: blk gm [.slice ps.a ps.n ps.c, .int .i64 F, .int .i64 (m.steps + 1), .slice s.a s.n s.c, dRun (.pointer (some ⟨gc, 0, none⟩))] :: slc 7 s (rowsV m.rows) :: blk gc [.pointer (some ⟨gm, 0, none⟩)] :: R) := (hS h).perm (by repeat' (first | exact List.Perm.refl _ | refine perm_f 0 rfl ?_ | refine perm_f 1 rfl ?_ | refine perm_f 2 rfl ?_ | refine perm_f 3 rfl ?_ | refine perm_f 4 rfl ?_ | refine perm_f 5 rfl ?_ | refine perm_f 6 rfl ?_ | refine perm_f 7 rfl ?_))
    refine pass_s (gm := gm) hh hf fun w' h => ?_
    exact hgo { t with f := fOn t.f } { m with steps := m.steps + 1 } w' pl (by rw [hstp]; unfold act; rw [if_neg (by omega), if_neg (by omega), if_neg (by omega), if_neg (by omega), if_neg (by omega), if_pos ho]) (h.perm (by repeat' (first | exact List.Perm.refl _ | refine perm_f 0 rfl ?_ | refine perm_f 1 rfl ?_ | refine perm_f 2 rfl ?_ | refine perm_f 3 rfl ?_ | refine perm_f 4 rfl ?_ | refine perm_f 5 rfl ?_ | refine perm_f 6 rfl ?_ | refine perm_f 7 rfl ?_)))
  · show ixS _ (IntKind.wrap .i64 (i.getD 0 0 - 8)) 1 _
    rw [ho, show IntKind.wrap .i64 ((15 : Int) - 8) = ((7 : Nat) : Int) by decide]
    refine does_s (g := g82) h (by decide) rfl ?_
    refine ldW_h (g := g1) h (by simp [ints, h5]) ?_
    refine callP_i (d := fun args w c q => unL [.p, .p, .ag] args fun x => serial_machine_leave x.1 x.2.1 x.2.2 w fun r w => c (packV (valL [] r)) w) (fun _ _ _ => rfl) ?_
    exact hleave (by omega) _ (hS h)
  · show ixS _ (IntKind.wrap .i64 (i.getD 0 0 - 8)) 1 _
    rw [ho, show IntKind.wrap .i64 ((16 : Int) - 8) = ((8 : Nat) : Int) by decide]
    refine does_s (g := g82) h (by decide) rfl ?_
    refine ldW_h (g := g1) h (by simp [ints, h5]) ?_
    refine callP_i (d := fun args w c q => unL [.p, .p, .ag] args fun x => serial_machine_leave x.1 x.2.1 x.2.2 w fun r w => c (packV (valL [] r)) w) (fun _ _ _ => rfl) ?_
    exact hleave (by omega) _ (hS h)
end
end Go.Proofs.YtgkfbagclkjilaaGreatDoor
namespace Go.Proofs.YtgkfbagclkjilaaGreatDoor
open Go Go.Ev Go.Proofs
open Go.Proofs.YtgkfbagclkjilaaGreatDoor.Fr (fTo fOn fPlain fForked fJoined fClosed fChild fRoot fR isB fTo_len fOn_len fPlain_len fForked_len fJoined_len fClosed_len)
open Go.Proofs.YtgkfbagclkjilaaGreatDoor.Ck (opI Walk Accs needsOf isGoes heldL depths stepD handlesOk subBits scopesOk forks)
theorem blk_slsN {w : World} {g sz : Nat} {l : List Value} {n : Nat} (hb : Blk w g l.toArray) (hn : l.length = n * sz) (c : Nat) : Sls sz w ⟨some ⟨g, 0, none⟩, n, c⟩ l :=
  ⟨hn, fun i v hv => ⟨_, rfl, by rw [add_mk, hb.cell]; simpa using hv⟩⟩
def zeroRow : Value := .agg #[.int .i64 0, .int .i64 0, .int .i64 0, .int .i64 0, .int .i64 0, .int .i64 0, .string (ByteArray.mk #[])]
theorem elR : ElS Go.Proofs.Tryz.prog 25 7 64 zeroRow := ⟨by kernel_rfl, rfl⟩
def lbody (run : RunT) (gc gt : Nat) (q : Value → World → Prop) (k : Int → World → Prop) : (Unit → World → Prop) → Unit → World → Prop := fun C31 u32 w33 =>
    ldB w33 (Addr.add ⟨gt, 0, none⟩ 23) fun b34 =>
    iteB (!b34) (
      ldP w33 ⟨gc, 0, none⟩ fun p35 =>
      stepOf run p35 (some ⟨gt, 0, none⟩) w33 q fun _u w36 =>
      (C31 () w36)) (
      ldI .i64 w33 (Addr.add ⟨gt, 0, none⟩ 19) fun i37 =>
      (k i37 w33))
def childT (cf : List Int) (row nest : Nat) (off : Bool) : Tk := ⟨cf, row, [(false, 0)], 0, nest, off⟩
abbrev zero24 : Array Value := #[(.int .i64 (0 : Int)), (.int .i64 (0 : Int)), (.int .i64 (0 : Int)), (.int .i64 (0 : Int)), (.int .i64 (0 : Int)), (.int .i64 (0 : Int)), (.int .i64 (0 : Int)), (.int .i64 (0 : Int)), (.int .i64 (0 : Int)), (.int .i64 (0 : Int)), (.int .i64 (0 : Int)), (.int .i64 (0 : Int)), (.int .i64 (0 : Int)), (.int .i64 (0 : Int)), (.int .i64 (0 : Int)), (.int .i64 (0 : Int)), (.int .i64 (0 : Int)), (.int .i64 (0 : Int)), (.int .i64 (0 : Int)), (.int .i64 (0 : Int)), (.pointer none), (.pointer none), (.int .i64 (0 : Int)), (.bool false)]
def newTask (cf : List Int) : Array Value := agI cf ++ #[.int .i64 0, .pointer none, .pointer none, .int .i64 0, .bool false]
theorem spl_task {cf : List Int} (hcl : cf.length = 19) : (agI cf).zipIdx.foldl (fun cs (x, j) => cs.setIfInBounds (0 + j) x) zero24 = newTask cf := by
  obtain ⟨c0, c1, c2, c3, c4, c5, c6, c7, c8, c9, c10, c11, c12, c13, c14, c15, c16, c17, c18, rfl⟩ := Fr.list19 hcl
  kernel_rfl
theorem new_task {cf : List Int} {n row nest : Nat} {off : Bool} {pin pl : Option Addr} (hcl : cf.length = 19) (hn : n = row) : (Array.setIfInBounds (Array.setIfInBounds (Array.setIfInBounds (newTask cf) 19 (.int .i64 ((n : Nat) : Int))) 20 (.pointer pin)) 21 (.pointer pl)).toList = tskV (childT cf row nest off) pin pl false := by
  subst hn
  obtain ⟨c0, c1, c2, c3, c4, c5, c6, c7, c8, c9, c10, c11, c12, c13, c14, c15, c16, c17, c18, rfl⟩ := Fr.list19 hcl
  kernel_rfl
theorem spl_row {a b c : Int} : (#[(.int .i64 a), (.int .i64 b), (.int .i64 c), (.int .i64 (0 : Int)), (.int .i64 (0 : Int)), (.int .i64 (0 : Int)), (.string (ByteArray.mk #[]))] : Array Value).zipIdx.foldl (fun cs (x, j) => cs.setIfInBounds (0 + j) x) #[(.int .i64 (0 : Int)), (.int .i64 (0 : Int)), (.int .i64 (0 : Int)), (.int .i64 (0 : Int)), (.int .i64 (0 : Int)), (.int .i64 (0 : Int)), (.string (ByteArray.mk #[]))] = (rwV ⟨a, b, c, 0, 0, 0, []⟩).toArray := by kernel_rfl
section
variable {w0 w : World} {R : List HP} {gc gm gt : Nat} {ps : Sl} {P : List FnR} {F : Int} {s : Sl} {q : Value → World → Prop}
theorem run2_s {run : RunT} {cf : List Int} {m : Mc} {pin : Option Addr} {x : Bool × Int} {l : List (Bool × Int)} {par : Int} {k : Int → World → Prop} (nest : Nat) (off : Bool) (h : St w0 w (MML gc gm ps F m s R)) (hin : ∀ w, St w0 w R → Chn w pin (x :: l)) (hcl : cf.length = 19) (hl : l.length < 1000) (hrl : m.rows.length < 10000000)
    (hk : ∀ w' gt pl s', St w0 w' (SSL gc gm gt ps F (childT cf m.rows.length nest off) pin pl (l.length + 1) { m with rows := m.rows ++ [⟨par, if par < 0 then 0 else x.2, cf.getD 0 0, 0, 0, 0, []⟩] } s' false R) → ∃ N, iterP (lbody run gc gt q k) N () w') :
    serial_Run_2_b serial_scope_within (stepOf run) (agI cf) par pin ⟨gc, 0, none⟩ w q k := by
  unfold serial_Run_2_b
  refine newC_h h fun g1 w2 h => ?_
  have h : St w0 w2 (blk g1 (ints cf) :: MML gc gm ps F m s R) := h
  refine drew_h h fun w3 h => ?_
  refine ldW_h (g := g1) h (by simp [ints, hcl]) ?_
  refine ldP_h (g := gc) (o := 0) h rfl ?_
  refine nn_i ?_
  refine ldS_h (g := gm) (o := 0 + 3) h rfl ?_
  have hR : ∀ {w'}, St w0 w' (blk g1 (ints cf) :: MML gc gm ps F m s R) → St w0 w' R := fun h => (((h.rm 0 rfl).rm 0 rfl).rm 0 rfl).rm 0 rfl
  have hn := rows_n (s := s) (rs := m.rows) h
  refine within_s (q := 0) h (hin w3 (hR h)) hl fun g8 w9 h2 => ?_
  refine samec_h (g := gm) (o := 0 + 3) h h2 (samec_h (g := gc) (o := 0) h h2 (samec_h (g := g1) (o := 0) h h2 ?_))
  refine spl_i (newTask cf) (by simp [agI, ints, hcl]) (spl_task hcl) ?_
  refine newC_h h2 fun g11 w12 h => ?_
  rw [new_task (nest := nest) (off := off) hcl hn] at h
  have hR : ∀ {w'}, St w0 w' (blk g11 (tskV (childT cf m.rows.length nest off) pin (some ⟨g8, 0, none⟩) false) :: blk g8 [.pointer pin, .bool false, .int .i64 0, .int .i64 ((l.length + 1 : Nat) : Int)] :: blk g1 (ints cf) :: MML gc gm ps F m s R) → St w0 w' R := fun h => hR (((h.rm 0 rfl).rm 0 rfl))
  obtain ⟨gi, pi', e1, hb, _⟩ := hin w12 (hR h)
  rw [e1]
  refine nn_i ?_
  refine ldI_i (n := x.2) (by rw [add_mk, hb.cell]; simp) ?_
  refine joinP_i (fun z w' => z = (if par < 0 then 0 else x.2) ∧ w' = w12) (fun J hJ => ?_) fun z w17 hz => ?_
  · refine iteB_i (fun hb => ?_) fun hb => ?_
    · exact hJ _ _ ⟨by rw [if_pos (of_decide_eq_true hb)], rfl⟩
    · exact hJ _ _ ⟨by rw [if_neg (of_decide_eq_false hb)], rfl⟩
  rw [hz.1, hz.2]
  refine drew_h h fun w18 h => ?_
  refine ldP_h (g := gc) (o := 0) h rfl ?_
  refine ldP_h (g := gc) (o := 0) h rfl ?_
  refine nn_i ?_
  refine ldS_h (g := gm) (o := 0 + 3) h rfl ?_
  refine ldI_h (g := g1) (o := 0 + 0) h (ints_getD (by omega)) ?_
  refine samec_self (samec_self (samec_self ?_))
  refine spl_i _ rfl spl_row ?_
  have h18 := h
  refine newC_h h fun g25 w26 h2 => ?_
  refine samec_h (g := gm) (o := 0 + 3) h h2 (samec_h (g := gc) (o := 0) h h2 (samec_h (g := gc) (o := 0) h h2 ?_))
  have h2 : St w0 w26 (blk g25 (rwV ⟨par, if par < 0 then 0 else x.2, cf.getD 0 0, 0, 0, 0, []⟩) :: _) := h2
  refine bApp_h (s := s) (vs := rowsV m.rows) (x := ⟨some ⟨g25, 0, none⟩, 1, 1⟩) (ys := rwV ⟨par, if par < 0 then 0 else x.2, cf.getD 0 0, 0, 0, 0, []⟩) h2 elR (by kernel_rfl) (blk_slsN (n := 1) (h2.blk (g := g25)) rfl 1) (by intro v hv; simp [rwV] at hv; rcases hv with rfl | rfl | rfl | rfl | rfl | rfl | rfl <;> rfl) (by simp only; omega) (by simp only; omega) fun s27 w28 h n2 => ?_
  refine samec_h (g := gc) (o := 0) h18 h ?_
  refine nn_i ?_
  refine stC_h (g := gm) (o := 0 + 3) (v := .slice s27.a s27.n s27.c) h rfl (by simp) fun w30 h => ?_
  have eR : rowsV m.rows ++ rwV ⟨par, if par < 0 then 0 else x.2, cf.getD 0 0, 0, 0, 0, []⟩ = rowsV (m.rows ++ [⟨par, if par < 0 then 0 else x.2, cf.getD 0 0, 0, 0, 0, []⟩]) := by simp [rowsV]
  rw [eR] at h
  have h3 := (h.rm 0 rfl).rm 2 rfl
  have h4 : St w0 w30 (blk g8 [.pointer pin, .bool false, .int .i64 0, .int .i64 ((l.length + 1 + ([] : List (Bool × Int)).length : Nat) : Int)] :: seg (l.length + 1) pin pin [] :: blk gm [.slice ps.a ps.n ps.c, .int .i64 F, .int .i64 m.steps, .slice s27.a s27.n s27.c, dRun (.pointer (some ⟨gc, 0, none⟩))] :: slc 7 s27 (rowsV (m.rows ++ [⟨par, if par < 0 then 0 else x.2, cf.getD 0 0, 0, 0, 0, []⟩])) :: blk g11 (tskV (childT cf m.rows.length nest off) pin (some ⟨g8, 0, none⟩) false) :: blk gc [.pointer (some ⟨gm, 0, none⟩)] :: R) :=
    (seg_nil (n := l.length + 1) (pe := pin) h3).perm (by simp only [List.eraseIdx]; repeat' (first | exact List.Perm.refl _ | refine perm_f 0 rfl ?_ | refine perm_f 1 rfl ?_ | refine perm_f 2 rfl ?_ | refine perm_f 3 rfl ?_ | refine perm_f 4 rfl ?_ | refine perm_f 5 rfl ?_ | refine perm_f 6 rfl ?_ | refine perm_f 7 rfl ?_))
  have h5 := seg_shut (x := (false, 0)) h4
  refine hk w30 g11 (some ⟨g8, 0, none⟩) s27 (h5.perm ?_)
  repeat' (first | exact List.Perm.refl _ | refine perm_f 0 rfl ?_ | refine perm_f 1 rfl ?_ | refine perm_f 2 rfl ?_ | refine perm_f 3 rfl ?_ | refine perm_f 4 rfl ?_ | refine perm_f 5 rfl ?_ | refine perm_f 6 rfl ?_ | refine perm_f 7 rfl ?_)
theorem loop_s (hF : Funcs5 w0 ps P) (hA : Accs P) {t : Tk} {m : Mc} {r : Res} (hG : Goes P F t m r) : ∀ (n : Nat) {w : World} {R : List HP} {gt : Nat} {pi pl : Option Addr} {s : Sl} {B : List (Bool × Int)} {q : Value → World → Prop} {kk : Int → World → Prop} (N : Nat), 33 ≤ n + t.nest → Inv P t m → Sz F t m → t.nest + 1 = B.length → t.off = B.any (·.1) → (∀ w, St w0 w R → Chn w pi B) →
    St w0 w (SSL gc gm gt ps F t pi pl B.length m s false R) → (∀ m' w' s', r = .ok m' → St w0 w' (MML gc gm ps F m' s' R) → kk t.row w') → (∀ e w', r = .bad e → St w0 w' R → q (.iface 62 (.int .i64 e)) w') → F - m.steps + 2 ≤ N → iterP (lbody (runN n) gc gt q kk) N () w := by
  have hNI : ∀ g ∈ P, InI g.needs := fun g hg => (hF.code g hg).1
  have hend : ∀ {run : RunT} {w' : World} {R : List HP} {gt : Nat} {t' : Tk} {m' : Mc} {pi pl' : Option Addr} {nB : Nat} {s : Sl} {q : Value → World → Prop} {kk : Int → World → Prop} {N : Nat}, 1 ≤ N → t'.f.length = 19 → St w0 w' (SSL gc gm gt ps F t' pi pl' nB m' s true R) → (∀ w', St w0 w' (MML gc gm ps F m' s R) → kk t'.row w') → iterP (lbody run gc gt q kk) N () w' := by
    intro run w' R gt t' m' pi pl' nB s q kk N hN hf h hk
    cases N with
    | zero => omega
    | succ N =>
      unfold iterP lbody
      refine ldB_h (g := gt) (o := 0 + 23) h (tsk_done hf) (iteB_f rfl ?_)
      refine ldI_h (g := gt) (o := 0 + 19) h (tsk_row hf) ?_
      exact hk _ ((h.rm 2 rfl).rm 2 rfl)
  induction hG with
  | fin hs =>
    intro n w R gt pi pl s B q kk N hn hI hz hnest hoff hB h hok hbad hN
    have hsF := hz.sF
    cases N with
    | zero => omega
    | succ N =>
      unfold iterP lbody
      refine ldB_h (g := gt) (o := 0 + 23) h (tsk_done hI.len) (iteB_t rfl ?_)
      refine ldP_h (g := gc) (o := 0) h rfl ?_
      refine step_s hF hA hI hz hnest hoff hB h (fun m' w' t' pl' e h hf hr => ?_) (fun e w' e2 => by rw [hs] at e2; cases e2) (fun _ _ _ _ e2 => by rw [hs] at e2; cases e2) (fun _ _ _ e2 => by rw [hs] at e2; cases e2) (fun _ _ _ _ _ _ e2 => by rw [hs] at e2; cases e2)
      rw [hs] at e; cases e
      refine hend (by omega) hf h fun w' h => ?_
      rw [hr]; exact hok _ _ _ rfl h
  | bad hs =>
    intro n w R gt pi pl s B q kk N hn hI hz hnest hoff hB h hok hbad hN
    have hsF := hz.sF
    cases N with
    | zero => omega
    | succ N =>
      unfold iterP lbody
      refine ldB_h (g := gt) (o := 0 + 23) h (tsk_done hI.len) (iteB_t rfl ?_)
      refine ldP_h (g := gc) (o := 0) h rfl ?_
      refine step_s hF hA hI hz hnest hoff hB h (fun _ _ _ _ e2 => by rw [hs] at e2; cases e2) (fun e w' e2 h => ?_) (fun _ _ _ _ e2 => by rw [hs] at e2; cases e2) (fun _ _ _ e2 => by rw [hs] at e2; cases e2) (fun _ _ _ _ _ _ e2 => by rw [hs] at e2; cases e2)
      rw [hs] at e2; cases e2
      exact hbad _ _ rfl h
  | go hs hG ih =>
    intro n w R gt pi pl s B q kk N hn hI hz hnest hoff hB h hok hbad hN
    have hsF := hz.sF
    have hst := stp_go hs
    cases N with
    | zero => omega
    | succ N =>
      unfold iterP lbody
      refine ldB_h (g := gt) (o := 0 + 23) h (tsk_done hI.len) (iteB_t rfl ?_)
      refine ldP_h (g := gc) (o := 0) h rfl ?_
      refine step_s hF hA hI hz hnest hoff hB h (fun _ _ _ _ e2 => by rw [hs] at e2; cases e2) (fun _ _ e2 => by rw [hs] at e2; cases e2) (fun t' m' w' pl' e2 h => ?_) (fun _ _ _ e2 => by rw [hs] at e2; cases e2) (fun _ _ _ _ _ _ e2 => by rw [hs] at e2; cases e2)
      rw [hs] at e2; cases e2
      refine ih n N (by rw [hst.2.2.2.1]; exact hn) (inv_go hA hI hs).1 (sz_go hz hI.row hs) (by rw [hst.2.2.2.1]; exact hnest) (by rw [hst.2.2.2.2]; exact hoff) hB h (fun m' w' s' e h => ?_) hbad (by omega)
      rw [hst.2.2.1]; exact hok _ _ _ e h
  | forkBad hs hG ih =>
    intro n w R gt pi pl s B q kk N hn hI hz hnest hoff hB h hok hbad hN
    have hsF := hz.sF
    rename_i t m c m1 i e
    cases N with
    | zero => omega
    | succ N =>
      unfold iterP lbody
      refine ldB_h (g := gt) (o := 0 + 23) h (tsk_done hI.len) (iteB_t rfl ?_)
      refine ldP_h (g := gc) (o := 0) h rfl ?_
      refine step_s hF hA hI hz hnest hoff hB h (fun _ _ _ _ e2 => by rw [hs] at e2; cases e2) (fun _ _ e2 => by rw [hs] at e2; cases e2) (fun _ _ _ _ e2 => by rw [hs] at e2; cases e2) (fun c' m1' i' e2 w' R' kk' h hin hRR hok' => ?_) (fun _ _ _ _ _ _ e2 hG' _ => by rw [hs] at e2; cases e2; cases hG.det hG')
      rw [hs] at e2; cases e2
      have hfk := stp_fork hs
      obtain ⟨k1, k2⟩ := inv_child hA hNI hI hs
      have kz := sz_fork hz hs
      obtain ⟨hlt, hst, hi, h8, hn32, hc, hrows⟩ := hfk
      cases n with
      | zero => omega
      | succ n' =>
        obtain ⟨x, l, esc, hx⟩ : ∃ x l, t.sc ++ B = x :: l ∧ x = t.sc.headD (false, 0) := by
          cases hs : t.sc with
          | nil => exact (hI.sc hs).elim
          | cons x l => exact ⟨x, l ++ B, rfl, rfl⟩
        have el : l.length + 1 = t.sc.length + B.length := by have := congrArg List.length esc; simp at this; omega
        have hrl := hz.rl
        have hsl : 1 ≤ t.sc.length := List.length_pos_iff.2 hI.sc
        have hF0 := hz.F0
        have hcn : c.nest = t.nest + t.sc.length := by rw [hc]
        have hco : c.off = (t.off || t.sc.any (·.1)) := by rw [hc]
        have hcr : c.row = m.rows.length := by rw [hc]
        have hcN : c.f.getD 0 0 = i.getD 4 0 := by rw [hc]; exact (child_get hI.len).2.1
        show serial_Run_2_b serial_scope_within (stepOf (runN n')) (agI c.f) t.row pl ⟨gc, 0, none⟩ w' q kk'
        refine run2_s (m := { m with steps := m.steps + 1 }) (x := x) (l := l) c.nest c.off h (by rw [← esc]; exact hin) k1.len (by omega) (by show m.rows.length < 10000000; omega) fun w'' gt' pl' s' h => ⟨(F - m1.steps + 2).toNat, ?_⟩
        have h : St w0 w'' (SSL gc gm gt' ps F c pl pl' (t.sc ++ B).length m1 s' false R') := by
          have e1 : c = childT c.f m.rows.length c.nest c.off := by rw [hc]; rfl
          have e2 : m1 = ⟨m.rows ++ [⟨(t.row : Int), if (t.row : Int) < 0 then 0 else x.2, c.f.getD 0 0, 0, 0, 0, []⟩], m.steps + 1⟩ := by
            rw [if_neg (by omega), hx, hcN, ← hrows, ← hst]
          rw [e2, esc]
          rw [e1]
          exact h
        refine ih n' _ (by omega) k1 kz (by rw [hcn, List.length_append]; omega) (by rw [hco, hoff, List.any_append, Bool.or_comm]) hin h (fun m' w' s' e => by cases e) (fun e w' er h => hbad e w' er (hRR _ h)) (by omega)
  | fork hs hG hG2 ih ih2 =>
    intro n w R gt pi pl s B q kk N hn hI hz hnest hoff hB h hok hbad hN
    have hsF := hz.sF
    rename_i t m c m1 i m2 r
    cases N with
    | zero => omega
    | succ N =>
      unfold iterP lbody
      refine ldB_h (g := gt) (o := 0 + 23) h (tsk_done hI.len) (iteB_t rfl ?_)
      refine ldP_h (g := gc) (o := 0) h rfl ?_
      refine step_s hF hA hI hz hnest hoff hB h (fun _ _ _ _ e2 => by rw [hs] at e2; cases e2) (fun _ _ e2 => by rw [hs] at e2; cases e2) (fun _ _ _ _ e2 => by rw [hs] at e2; cases e2) (fun c' m1' i' e2 w' R' kk' h hin hRR hok' => ?_) (fun c' m1' i' m2' s2 w3 e2 hG' h => ?_)
      · rw [hs] at e2; cases e2
        have hfk := stp_fork hs
        obtain ⟨k1, k2⟩ := inv_child hA hNI hI hs
        have kz := sz_fork hz hs
        obtain ⟨hlt, hst, hi, h8, hn32, hc, hrows⟩ := hfk
        cases n with
        | zero => omega
        | succ n' =>
          obtain ⟨x, l, esc, hx⟩ : ∃ x l, t.sc ++ B = x :: l ∧ x = t.sc.headD (false, 0) := by
            cases hs : t.sc with
            | nil => exact (hI.sc hs).elim
            | cons x l => exact ⟨x, l ++ B, rfl, rfl⟩
          have el : l.length + 1 = t.sc.length + B.length := by have := congrArg List.length esc; simp at this; omega
          have hrl := hz.rl
          have hsl : 1 ≤ t.sc.length := List.length_pos_iff.2 hI.sc
          have hF0 := hz.F0
          have hcn : c.nest = t.nest + t.sc.length := by rw [hc]
          have hco : c.off = (t.off || t.sc.any (·.1)) := by rw [hc]
          have hcr : c.row = m.rows.length := by rw [hc]
          have hcN : c.f.getD 0 0 = i.getD 4 0 := by rw [hc]; exact (child_get hI.len).2.1
          show serial_Run_2_b serial_scope_within (stepOf (runN n')) (agI c.f) t.row pl ⟨gc, 0, none⟩ w' q kk'
          refine run2_s (m := { m with steps := m.steps + 1 }) (x := x) (l := l) c.nest c.off h (by rw [← esc]; exact hin) k1.len (by omega) (by show m.rows.length < 10000000; omega) fun w'' gt' pl' s' h => ⟨(F - m1.steps + 2).toNat, ?_⟩
          have h : St w0 w'' (SSL gc gm gt' ps F c pl pl' (t.sc ++ B).length m1 s' false R') := by
            have e1 : c = childT c.f m.rows.length c.nest c.off := by rw [hc]; rfl
            have e2 : m1 = ⟨m.rows ++ [⟨(t.row : Int), if (t.row : Int) < 0 then 0 else x.2, c.f.getD 0 0, 0, 0, 0, []⟩], m.steps + 1⟩ := by
              rw [if_neg (by omega), hx, hcN, ← hrows, ← hst]
            rw [e2, esc]
            rw [e1]
            exact h
          refine ih n' _ (by omega) k1 kz (by rw [hcn, List.length_append]; omega) (by rw [hco, hoff, List.any_append, Bool.or_comm]) hin h (fun m' w' s' e h => hok' w' m' s' (by cases e; exact hG) h) (fun e w' er h => by cases er) (by omega)
      · rw [hs] at e2; cases e2
        cases hG.det hG'
        obtain ⟨k1, k2⟩ := inv_child hA hNI hI hs
        obtain ⟨k3, k4⟩ := goes_more hA hNI hG rfl k1
        obtain ⟨k5, k6⟩ := inv_forked hA hI hs k3 k4
        obtain ⟨z1, z2, z3, z4, z5⟩ := goes_sz hA hNI hG rfl k1 (sz_fork hz hs)
        have hle := hG.le rfl
        have hst := (stp_fork hs).2.1
        have hop := hz.op
        exact ih2 n N hn k5 ⟨z1, z2, z3, z4, z5, ⟨hop.1, by show t.opened ≤ m2.steps; omega⟩⟩ hnest hoff hB h hok hbad (by omega)
end
end Go.Proofs.YtgkfbagclkjilaaGreatDoor
namespace Go.Proofs.YtgkfbagclkjilaaGreatDoor
open Go Go.Ev Go.Proofs
open Go.Proofs.YtgkfbagclkjilaaGreatDoor.Fr (fTo fOn fPlain fForked fJoined fClosed fChild fRoot fR isB fTo_len fOn_len fPlain_len fForked_len fJoined_len fClosed_len)
open Go.Proofs.YtgkfbagclkjilaaGreatDoor.Ck (opI Walk Accs needsOf isGoes heldL depths stepD handlesOk subBits scopesOk forks)
def RunR (P : List FnR) (F : Int) (rows : List Rw) (n e : Int) : Prop :=
  (¬ Accs P ∧ rows = [] ∧ n = 0 ∧ e = 24) ∨ (Accs P ∧ (F < 0 ∨ F > 1048576) ∧ rows = [] ∧ n = 0 ∧ e = 10) ∨
  (Accs P ∧ 0 ≤ F ∧ F ≤ 1048576 ∧ ((Goes P F t0 m0 (.ok ⟨rows, n⟩) ∧ e = 0) ∨ (Goes P F t0 m0 (.bad e) ∧ rows = [] ∧ n = 0)))
theorem RunR.det {P : List FnR} {F : Int} {rows rows' : List Rw} {n n' e e' : Int} (h : RunR P F rows n e) (h' : RunR P F rows' n' e') : rows = rows' ∧ n = n' ∧ e = e' := by
  rcases h with ⟨a, rfl, rfl, rfl⟩ | ⟨a, b, rfl, rfl, rfl⟩ | ⟨a, b, c, d⟩
  · rcases h' with ⟨a', rfl, rfl, rfl⟩ | ⟨a', _⟩ | ⟨a', _⟩
    · exact ⟨rfl, rfl, rfl⟩
    · exact (a a').elim
    · exact (a a').elim
  · rcases h' with ⟨a', _⟩ | ⟨a', b', rfl, rfl, rfl⟩ | ⟨a', b', c', _⟩
    · exact (a' a).elim
    · exact ⟨rfl, rfl, rfl⟩
    · omega
  · rcases h' with ⟨a', _⟩ | ⟨a', b', _⟩ | ⟨a', b', c', d'⟩
    · exact (a' a).elim
    · omega
    · rcases d with ⟨d, rfl⟩ | ⟨d, rfl, rfl⟩
      · rcases d' with ⟨d', rfl⟩ | ⟨d', rfl, rfl⟩
        · have := d.det d'; cases this; exact ⟨rfl, rfl, rfl⟩
        · have := d.det d'; cases this
      · rcases d' with ⟨d', rfl⟩ | ⟨d', rfl, rfl⟩
        · have := d.det d'; cases this
        · have := d.det d'; cases this; exact ⟨rfl, rfl, rfl⟩
section
variable {w0 w : World} {R : List HP} {gc gm gt : Nat} {ps : Sl} {P : List FnR} {F : Int} {s : Sl} {q : Value → World → Prop}
theorem tyA_err {v : Value} {c : Value → World → Prop} (hc : c (.tuple #[v, .bool true]) w) : tyA Go.Proofs.Tryz.prog (.iface 62 v) 20 62 true w c := by
  unfold tyA
  have hr : (Instr.typeAssert (.iface 62 v) 20 62 true).run Go.Proofs.Tryz.prog w = .ok (.tuple #[v, .bool true]) w := by
    simp [Instr.typeAssert, run_underlying (@Go.Proofs.Tryz.underlying62)]
  rw [hr]; exact hc
theorem sz_root (h0 : 0 ≤ F) (h1 : F ≤ 1048576) : Sz F t0 m0 := ⟨by simp [m0], h0, h1, by simp [m0], by intro r hr; simp [m0] at hr; subst hr; simp [m0], ⟨Int.le_refl _, Int.le_refl _⟩⟩
theorem call_run {l : List (Nat × DecP)} {c : Value → World → Prop} {r : Res} (hF : Funcs5 w0 ps P) (hA : Accs P) (h0 : 0 ≤ F) (h1 : F ≤ 1048576) (hG : Goes P F t0 m0 r) {g46 : Nat} (e : ∀ args w c, orcP l q (.func n_serial_Run_2) args w c = decRun serial_Run_2 args.toList w c q)
    (h : St w0 w (blk g46 [.pointer none, .bool false, .int .i64 0, .int .i64 0] :: blk gc [.pointer (some ⟨gm, 0, none⟩)] :: blk gm [.slice ps.a ps.n ps.c, .int .i64 F, .int .i64 0, .slice none 0 0, dRun (.pointer (some ⟨gc, 0, none⟩))] :: R))
    (hok : ∀ m' w' s', r = .ok m' → St w0 w' (MML gc gm ps F m' s' R) → c (.int .i64 0) w') (hbad : ∀ e w', r = .bad e → St w0 w' R → q (.iface 62 (.int .i64 e)) w') :
    callF (orcP l q) (dRun (.pointer (some ⟨gc, 0, none⟩))) #[.agg (agI fRoot), .int .i64 (-1), .pointer (some ⟨g46, 0, none⟩)] w c := by
  have hNI : ∀ g ∈ P, InI g.needs := fun g hg => (hF.code g hg).1
  refine callP_i e ?_
  have h := h.nilS 7
  have hM : St w0 w (MML gc gm ps F ⟨[], 0⟩ ⟨none, 0, 0⟩ (blk g46 [.pointer none, .bool false, .int .i64 0, .int .i64 0] :: R)) := by
    have h2 : St w0 w (slc 7 ⟨none, 0, 0⟩ (rowsV []) :: _) := h
    exact h2.perm (by repeat' (first | exact List.Perm.refl _ | refine perm_f 0 rfl ?_ | refine perm_f 1 rfl ?_ | refine perm_f 2 rfl ?_ | refine perm_f 3 rfl ?_ | refine perm_f 4 rfl ?_ | refine perm_f 5 rfl ?_ | refine perm_f 6 rfl ?_ | refine perm_f 7 rfl ?_))
  have hin : ∀ w, St w0 w (blk g46 [.pointer none, .bool false, .int .i64 0, .int .i64 0] :: R) → Chn w (some ⟨g46, 0, none⟩) [(false, 0)] := fun w hw => ⟨g46, none, rfl, hw.blk (g := g46), rfl⟩
  refine ⟨35, ?_⟩
  show serial_Run_2_b serial_scope_within (stepOf (runN 34)) (agI fRoot) (-1) (some ⟨g46, 0, none⟩) ⟨gc, 0, none⟩ w q _
  refine run2_s (m := ⟨[], 0⟩) (x := (false, 0)) (l := []) 0 false hM hin rfl (by simp) (by simp) fun w' gt pl s' h => ⟨(F + 2).toNat, ?_⟩
  have h : St w0 w' (SSL gc gm gt ps F t0 (some ⟨g46, 0, none⟩) pl ([(false, (0 : Int))] : List (Bool × Int)).length m0 s' false (blk g46 [.pointer none, .bool false, .int .i64 0, .int .i64 0] :: R)) := h
  refine loop_s hF hA hG 34 _ (by simp [t0]) (inv_root hA hNI) (sz_root h0 h1) rfl rfl hin h (fun m' w' s' e h => hok m' w' s' e (h.rm 3 rfl)) (fun e w' er h => hbad e w' er (h.rm 0 rfl)) (by simp [m0]; omega)
theorem run_s {fuel : Int} {k : Sl × Int × Int → World → Prop} (hF : Funcs5 w ps P) (hc : ∀ s rows n e w', St w w' [slc 7 s (rowsV rows)] → RunR P fuel rows n e → k (s, (n, e)) w') : serial_Run #[.slice ps.a ps.n ps.c] fuel w k := by
  unfold serial_Run serial_Run_b
  refine newC_h (.nil w) fun g1 w2 h => newC_h h fun g3 w4 h => newC_h h fun g5 w6 h => newC_h h fun g7 w8 h => ?_
  have h : St w w8 [blk g7 [.int .i64 0], blk g5 [.int .i64 0], blk g3 [.slice none 0 0], blk g1 [.slice ps.a ps.n ps.c]] := h
  refine ldW_h (g := g1) h rfl ?_
  refine Ck.accepts_s (hF.ext h.ext) fun w11 h2 => ?_
  have h := h.on h2.ext
  rw [Ck.progF_zero]
  have hnil : ∀ {w'}, St w w' [blk g7 [.int .i64 0], blk g5 [.int .i64 0], blk g3 [.slice none 0 0], blk g1 [.slice ps.a ps.n ps.c]] → ∀ e, RunR P fuel [] 0 e →
      stC w' ⟨g3, 0, none⟩ (.slice none 0 0) fun w18 => stC w18 ⟨g5, 0, none⟩ (.int .i64 (0 : Int)) fun w19 => stC w19 ⟨g7, 0, none⟩ (.int .i64 e) fun w20 => ldS w20 ⟨g3, 0, none⟩ fun s21 => ldI .i64 w20 ⟨g5, 0, none⟩ fun i22 => ldI .i64 w20 ⟨g7, 0, none⟩ fun i23 => (k (s21, (i22, i23)) w20) := by
    intro w' h e hR
    refine stC_h (g := g3) (o := 0) h rfl (by simp) fun w18 h => stC_h (g := g5) (o := 0) h rfl (by simp) fun w19 h => stC_h (g := g7) (o := 0) h rfl (by simp) fun w20 h => ?_
    refine ldS_h (g := g3) (o := 0) (p := none) (n := 0) (m := 0) h rfl (ldI_h (g := g5) (o := 0) (n := 0) h rfl (ldI_h (g := g7) (o := 0) (n := e) h rfl ?_))
    exact hc _ [] 0 e _ ((h.all).nilS 7) hR
  refine iteB_i (fun hb => ?_) fun hb => ?_
  · have hno : ¬ Accs P := fun q => by rw [(Ck.accs_iff.2 q)] at hb; cases hb
    exact hnil h 24 (.inl ⟨hno, rfl, rfl, rfl⟩)
  have hA : Accs P := Ck.accs_iff.1 (by simpa using hb)
  refine iteB_i (fun hb => ?_) fun hb => ?_
  · exact hnil h 10 (.inr (.inl ⟨hA, by simpa using hb, rfl, rfl, rfl⟩))
  have hf0 : 0 ≤ fuel ∧ fuel ≤ 1048576 := by
    rw [Bool.or_eq_false_iff, decide_eq_false_iff_not, decide_eq_false_iff_not] at hb
    omega
  obtain ⟨r, hG⟩ := Goes.total P fuel _ t0 m0 (Nat.le_refl _)
  refine ldW_h (g := g1) h rfl ?_
  refine spl_i #[(.slice ps.a ps.n ps.c), (.int .i64 (0 : Int)), (.int .i64 (0 : Int)), (.slice none 0 0), .nilFunc] rfl rfl ?_
  refine newC_h h fun g26 w27 h => newC_h h fun g28 w29 h => ?_
  refine stC_h (g := g28) (o := 0) h rfl (by simp) fun w30 h => ?_
  refine ldP_h (g := g28) (o := 0) h rfl ?_
  refine nn_i ?_
  refine stC_h (g := g26) (o := 0 + 4) (v := .func (.func n_serial_Run_2) #[] #[(.pointer (some ⟨g28, 0, none⟩))]) h rfl (by simp) fun w33 h => ?_
  refine drew_h h fun w34 h => ?_
  refine ldP_h (g := g28) (o := 0) h rfl ?_
  refine nn_i ?_
  refine ldV_h (g := g26) (o := 0 + 4) h rfl ?_
  have h : St w w34 (blk g28 [.pointer (some ⟨g26, 0, none⟩)] :: blk g26 [.slice ps.a ps.n ps.c, .int .i64 fuel, .int .i64 0, .slice none 0 0, dRun (.pointer (some ⟨g28, 0, none⟩))] :: [blk g7 [.int .i64 0], blk g5 [.int .i64 0], blk g3 [.slice none 0 0], blk g1 [.slice ps.a ps.n ps.c]]) := h
  have hok : ∀ m' w55 s', r = .ok m' → St w w55 (MML g28 g26 ps fuel m' s' [blk g7 [.int .i64 0], blk g5 [.int .i64 0], blk g3 [.slice none 0 0], blk g1 [.slice ps.a ps.n ps.c]]) → 
        drew w55 fun w57 =>
        ldP w57 ⟨g28, 0, none⟩ fun p58 =>
        nn p58 fun a59 =>
        ldS w57 (Addr.add a59 3) fun s60 =>
        ldP w57 ⟨g28, 0, none⟩ fun p61 =>
        nn p61 fun a62 =>
        ldI .i64 w57 (Addr.add a62 2) fun i63 =>
        stC w57 ⟨g3, 0, none⟩ (.slice s60.a s60.n s60.c) fun w64 =>
        samec 1 (Addr.add a62 2) w57 w64 (
        samec 1 ⟨g28, 0, none⟩ w57 w64 (
        stC w64 ⟨g5, 0, none⟩ (.int .i64 i63) fun w65 =>
        stC w65 ⟨g7, 0, none⟩ (.int .i64 (0 : Int)) fun w66 =>
        serial_Run_1_R ⟨g3, 0, none⟩ ⟨g5, 0, none⟩ ⟨g7, 0, none⟩ w66 fun w67 =>
        ldS w67 ⟨g3, 0, none⟩ fun s68 =>
        ldI .i64 w67 ⟨g5, 0, none⟩ fun i69 =>
        ldI .i64 w67 ⟨g7, 0, none⟩ fun i70 =>
        (k (s68, (i69, i70)) w67))) := by
    intro m' w55 s' e h
    refine drew_h h fun w57 h => ?_
    refine ldP_h (g := g28) (o := 0) h rfl ?_
    refine nn_i ?_
    refine ldS_h (g := g26) (o := 0 + 3) h rfl ?_
    refine ldP_h (g := g28) (o := 0) h rfl ?_
    refine nn_i ?_
    refine ldI_h (g := g26) (o := 0 + 2) h rfl ?_
    refine stC_h (g := g3) (o := 0) (v := .slice s'.a s'.n s'.c) h rfl (by simp) fun w64 h2 => ?_
    refine samec_h (g := g26) (o := 0 + 2) h h2 (samec_h (g := g28) (o := 0) h h2 ?_)
    refine stC_h (g := g5) (o := 0) (v := .int .i64 m'.steps) h2 rfl (by simp) fun w65 h2 => ?_
    refine stC_h (g := g7) (o := 0) (v := .int .i64 0) h2 rfl (by simp) fun w66 h2 => ?_
    show ldS w66 _ _
    refine ldS_h (g := g3) (o := 0) h2 rfl (ldI_h (g := g5) (o := 0) h2 rfl (ldI_h (g := g7) (o := 0) h2 rfl ?_))
    refine hc s' m'.rows m'.steps 0 _ ?_ (.inr (.inr ⟨hA, hf0.1, hf0.2, .inl ⟨by rw [e] at hG; exact hG, rfl⟩⟩))
    exact (((((((h2.rm 0 rfl).rm 1 rfl).rm 1 rfl).rm 1 rfl).rm 1 rfl).rm 1 rfl))
  have hbad : ∀ e w49, r = .bad e → St w w49 [blk g7 [.int .i64 0], blk g5 [.int .i64 0], blk g3 [.slice none 0 0], blk g1 [.slice ps.a ps.n ps.c]] → serial_Run_1_Q ⟨g3, 0, none⟩ ⟨g5, 0, none⟩ ⟨g7, 0, none⟩ (.iface 62 (.int .i64 e)) w49 fun w50 =>
        ldS w50 ⟨g3, 0, none⟩ fun s51 =>
        ldI .i64 w50 ⟨g5, 0, none⟩ fun i52 =>
        ldI .i64 w50 ⟨g7, 0, none⟩ fun i53 =>
        (k (s51, (i52, i53)) w50) := by
    intro e w49 er h
    show serial_Run_1_P _ _ _ _ _ _ _
    unfold serial_Run_1_P
    refine tyA_err ?_
    show iteB (!true) False _
    refine iteB_f rfl ?_
    exact hnil h e (.inr (.inr ⟨hA, hf0.1, hf0.2, .inr ⟨by rw [er] at hG; exact hG, rfl, rfl⟩⟩))
  have eo : ∀ (q : Value → World → Prop) args w c, orcP [(n_check_Accepts, (fun args w c _ => unL [.ag] args fun x => check_Accepts x w fun r w => c (packV (valL [.b] r)) w)), (n_frame_Root, (fun args w c _ => unL [] args fun x => frame_Root  w fun r w => c (packV (valL [.ag] r)) w)), (n_serial_Run_2, (fun args w c q => unL [.ag, (.i .i64), .p, .a] args fun x => serial_Run_2 x.1 x.2.1 x.2.2.1 x.2.2.2 w q fun r w => c (packV (valL [(.i .i64)] r)) w))] q (.func n_serial_Run_2) args w c = decRun serial_Run_2 args.toList w c q := fun _ _ _ _ => rfl
  refine ⟨?_, ?_⟩
  · refine Fr.root_s fun w45 he => ?_
    have h2 := ext_of h he
    refine samec_h (g := g26) (o := 0 + 4) h h2 (samec_h (g := g28) (o := 0) h h2 (samec_h (g := g26) (o := 0 + 4) h h2 (samec_h (g := g28) (o := 0) h h2 ?_)))
    refine newC_h h2 fun g46 w47 h2 => ?_
    refine samec_h (g := g26) (o := 0 + 4) h h2 (samec_h (g := g28) (o := 0) h h2 ?_)
    exact call_run hF hA hf0.1 hf0.2 hG (eo _) h2 (fun m' w' s' e h => hok m' w' s' e h) (fun e w' er h => hbad e w' er h)
  · refine samec_self (samec_self ⟨?_, ?_⟩)
    · refine Fr.root_s fun w45 he => ?_
      have h2 := ext_of h he
      refine samec_h (g := g26) (o := 0 + 4) h h2 (samec_h (g := g28) (o := 0) h h2 ?_)
      refine newC_h h2 fun g46 w47 h2 => ?_
      refine samec_h (g := g26) (o := 0 + 4) h h2 (samec_h (g := g28) (o := 0) h h2 ?_)
      exact call_run hF hA hf0.1 hf0.2 hG (eo _) h2 (fun m' w' s' e h => hok m' w' s' e h) (fun e w' er h => hbad e w' er h)
    · refine newC_h h fun g46 w47 h2 => ?_
      refine samec_h (g := g26) (o := 0 + 4) h h2 (samec_h (g := g28) (o := 0) h h2 ?_)
      refine Fr.root_s fun w45 he => ?_
      have h2 := ext_of h2 he
      refine samec_h (g := g26) (o := 0 + 4) h h2 (samec_h (g := g28) (o := 0) h h2 ?_)
      exact call_run hF hA hf0.1 hf0.2 hG (eo _) h2 (fun m' w' s' e h => hok m' w' s' e h) (fun e w' er h => hbad e w' er h)
end
end Go.Proofs.YtgkfbagclkjilaaGreatDoor
namespace Go.Proofs.YtgkfbagclkjilaaGreatDoor
open Go Go.Ev Go.Proofs
open Go.Proofs.YtgkfbagclkjilaaGreatDoor.Fr (fTo fOn fPlain fForked fJoined fClosed fChild fRoot fR isB fTo_len fOn_len fPlain_len fForked_len fJoined_len fClosed_len)
open Go.Proofs.YtgkfbagclkjilaaGreatDoor.Ck (opI Walk Accs needsOf isGoes heldL depths stepD handlesOk subBits scopesOk forks)
def endRow (m : Mc) (row : Nat) (st kind v : Int) : List Rw := m.rows.set row { m.rows.getD row r0 with kind := kind, v := v, steps := st }
section
variable {P : List FnR} {F : Int} {t : Tk} {m : Mc}
theorem fin_how (hA : Accs P) (hI : Inv P t m) {m' : Mc} (h : stp P F t m = .fin m') : ∃ st kind v, m'.rows = endRow m t.row st kind v ∧
    ((t.off = true ∧ kind = 4 ∧ v = 0 ∧ m'.steps = m.steps ∧ st = t.f.getD 18 0) ∨ (m.steps < F ∧ (kind = 2 ∨ kind = 3) ∧ m'.steps = m.steps + 1 ∧ st = IntKind.i64.wrap (t.f.getD 18 0 + 1))) := by
  obtain ⟨g, hv, ha⟩ := hI.at hA
  unfold stp at h
  split at h
  · rename_i hb
    cases h
    exact ⟨_, 4, 0, rfl, .inl ⟨by rw [Bool.and_eq_true] at hb; exact hb.1, rfl, rfl, rfl, rfl⟩⟩
  split at h
  · cases h
  rename_i hF
  split at h
  · cases h
  split at h
  · cases h
  have hlt : m.steps < F := by omega
  unfold act at h
  split at h
  · cases h
  split at h
  · rename_i h910
    split at h
    · rename_i hb
      cases h
      refine ⟨_, 3, _, rfl, .inr ⟨hlt, .inr rfl, rfl, ?_⟩⟩
      revert hb
      unfold Fr.fJoined
      split
      · intro q; cases q
      · split
        · intro q; cases q
        · split
          · intro q; cases q
          · intro _; exact fTo_st hI.len
    · cases h
  split at h
  · cases h
  split at h
  · cases h
  split at h
  · cases h
  split at h
  · cases h
  cases h
  exact ⟨_, _, _, rfl, .inr ⟨hlt, by split; exact .inr rfl; exact .inl rfl, rfl, fTo_st hI.len⟩⟩
theorem go_how (hA : Accs P) (hI : Inv P t m) {t' : Tk} {m' : Mc} (h : stp P F t m = .go t' m') : (m'.rows = m.rows ∨ ∃ b, m'.rows = (m.told t.row b).rows ∧ ∃ x ∈ t.sc, b = x.1) ∧ t'.f.getD 18 0 = IntKind.i64.wrap (t.f.getD 18 0 + 1) ∧ (∀ h : Nat, h < 8 → t'.f.getD (10 + h) 0 = t.f.getD (10 + h) 0)
    ∧ ((∀ x ∈ t'.sc, x.1 = true → ∃ y ∈ t.sc, y.1 = true) ∨ (insAt P t.f).getD 0 0 = 13) := by
  obtain ⟨g, hv, ha⟩ := hI.at hA
  obtain ⟨hp0, hp1⟩ := at_pc ha
  have same : ∀ x ∈ t.sc, x.1 = true → ∃ y ∈ t.sc, y.1 = true := fun x hx h => ⟨x, hx, h⟩
  unfold stp at h
  split at h
  · cases h
  split at h
  · cases h
  split at h
  · cases h
  split at h
  · rename_i hp
    cases h
    refine ⟨.inl rfl, ?_⟩
    rcases plain_keep ha.chk hI.len hp0 hp1 hp with ⟨_, hk⟩ | ⟨_, _, hk⟩ <;> exact ⟨hk.st, hk.hs, .inl same⟩
  unfold act at h
  split at h
  · cases h
  split at h
  · rename_i h910
    obtain ⟨_, _, _, r, hr, hk⟩ := at_join ha h910
    split at h
    · cases h
    · rename_i hb
      cases h
      have hkk : rOf (insAt P t.f) t { m with steps := m.steps + 1 } = r := by unfold rOf; rw [List.getD_eq_getElem?_getD]; dsimp only; rw [hr]; rfl
      have k := joined_keep (f := t.f) (kind := (rOf (insAt P t.f) t { m with steps := m.steps + 1 }).kind) (v := (rOf (insAt P t.f) t { m with steps := m.steps + 1 }).v) ha.chk hI.len hp0 hp1 h910 (by rw [hkk]; exact hk) (by simpa using hb)
      exact ⟨.inl rfl, k.st, k.hs, .inl same⟩
  split at h
  · cases h
    have k := kp_on hI.len hp0 hp1
    refine ⟨.inl rfl, k.st, k.hs, .inl fun x hx hx1 => ?_⟩
    rcases List.mem_cons.1 hx with rfl | hx
    · cases hx1
    · exact ⟨x, hx, hx1⟩
  split at h
  · rename_i h12
    cases h
    have k := closed_keep (b := (t.sc.headD (false, 0)).1) ha.chk hI.len hp0 hp1 h12
    refine ⟨.inr ⟨_, rfl, ?_⟩, k.st, k.hs, .inl fun x hx hx1 => ⟨x, List.mem_of_mem_tail hx, hx1⟩⟩
    cases hs : t.sc with
    | nil => exact (hI.sc hs).elim
    | cons x l => exact ⟨x, by simp, rfl⟩
  split at h
  · rename_i h13
    cases h
    have k := kp_on hI.len hp0 hp1
    exact ⟨.inl rfl, k.st, k.hs, .inr h13⟩
  split at h
  · cases h
    have k := kp_on hI.len hp0 hp1
    exact ⟨.inl rfl, k.st, k.hs, .inl same⟩
  cases h
theorem told_len' {row : Nat} {b : Bool} : (m.told row b).rows.length = m.rows.length := by simp [Mc.told]
theorem endRow_len {row : Nat} {st kind v : Int} : (endRow m row st kind v).length = m.rows.length := by simp [endRow]
theorem told_ne {row j : Nat} {b : Bool} (h : j ≠ row) : (m.told row b).rows[j]? = m.rows[j]? := by simp [Mc.told, List.getElem?_set_ne (Ne.symm h)]
theorem endRow_ne {row j : Nat} {st kind v : Int} (h : j ≠ row) : (endRow m row st kind v)[j]? = m.rows[j]? := by simp [endRow, List.getElem?_set_ne (Ne.symm h)]
theorem told_at {row : Nat} {b : Bool} (h : row < m.rows.length) : (m.told row b).rows[row]? = some { m.rows.getD row r0 with cl := (m.rows.getD row r0).cl ++ [b] } := by simp [Mc.told, h]
theorem endRow_at {row : Nat} {st kind v : Int} (h : row < m.rows.length) : (endRow m row st kind v)[row]? = some { m.rows.getD row r0 with kind := kind, v := v, steps := st } := by simp [endRow, h]
theorem goes_keep (hA : Accs P) (hN : ∀ g ∈ P, InI g.needs) {r : Res} (hG : Goes P F t m r) : ∀ {m' : Mc}, r = .ok m' → Inv P t m → ∀ j, j < m.rows.length → j ≠ t.row → m'.rows[j]? = m.rows[j]? := by
  induction hG with
  | fin h =>
    intro m' e hI j hj hne; cases e
    obtain ⟨st, kind, v, e, _⟩ := fin_how hA hI h
    rw [e, endRow_ne hne]
  | bad h => intro m' e; cases e
  | go h hg ih =>
    intro m' e hI j hj hne
    obtain ⟨hr, _⟩ := go_how hA hI h
    have hl := stp_go h
    rw [ih e (inv_go hA hI h).1 j (by rcases hr with hr | ⟨b, hr, _⟩ <;> rw [hr]; exact hj; rw [told_len']; exact hj) (by rw [hl.2.2.1]; exact hne)]
    rcases hr with hr | ⟨b, hr, _⟩ <;> rw [hr]
    exact told_ne hne
  | forkBad h _ ih => intro m' e; cases e
  | fork h h1 h2 ih1 ih2 =>
    intro m' e hI j hj hne
    obtain ⟨k1, k2⟩ := inv_child hA hN hI h
    obtain ⟨k3, k4⟩ := goes_more hA hN h1 rfl k1
    obtain ⟨k5, k6⟩ := inv_forked hA hI h k3 k4
    obtain ⟨_, _, _, _, _, hc, hrows⟩ := stp_fork h
    rw [ih2 e k5 j (Nat.lt_of_lt_of_le hj k6.1) hne, ih1 rfl k1 j (by rw [hrows]; simp; omega) (by rw [hc]; dsimp only; omega), hrows, List.getElem?_append_left hj]
theorem goes_ends (hA : Accs P) (hN : ∀ g ∈ P, InI g.needs) {r : Res} (hG : Goes P F t m r) : ∀ {m' : Mc}, r = .ok m' → Inv P t m → ∀ j, m.rows.length ≤ j → j < m'.rows.length → Ended m'.rows j := by
  induction hG with
  | fin h =>
    intro m' e hI j hj hlt; cases e
    obtain ⟨st, kind, v, e, _⟩ := fin_how hA hI h
    rw [e, endRow_len] at hlt; omega
  | bad h => intro m' e; cases e
  | go h hg ih =>
    intro m' e hI j hj hlt
    obtain ⟨hr, _⟩ := go_how hA hI h
    exact ih e (inv_go hA hI h).1 j (by rcases hr with hr | ⟨b, hr, _⟩ <;> rw [hr]; exact hj; rw [told_len']; exact hj) hlt
  | forkBad h _ ih => intro m' e; cases e
  | fork h h1 h2 ih1 ih2 =>
    rename_i t m c m1 i m2 r
    intro m' e hI j hj hlt
    obtain ⟨k1, k2⟩ := inv_child hA hN hI h
    obtain ⟨k3, k4⟩ := goes_more hA hN h1 rfl k1
    obtain ⟨k5, k6⟩ := inv_forked hA hI h k3 k4
    obtain ⟨_, _, _, _, _, hc, hrows⟩ := stp_fork h
    have hm := goes_more hA hN h2 e k5
    by_cases hj2 : m2.rows.length ≤ j
    · exact ih2 e k5 j hj2 hlt
    · refine hm.1.2 j ?_
      by_cases hj1 : j = m.rows.length
      · rw [hc] at k4; rw [hj1]; exact k4
      · exact ih1 rfl k1 j (by rw [hrows]; simp; omega) (by omega)
def Par (rows : List Rw) (b : Nat) (lo : Int) : Prop := ∀ j r, b ≤ j → rows[j]? = some r → lo ≤ r.par ∧ r.par < j
theorem Par.end {row b : Nat} {lo st kind v : Int} (h : Par m.rows b lo) (hr : row < m.rows.length) : Par (endRow m row st kind v) b lo := by
  intro j r hj hjr
  by_cases e : j = row
  · subst e; rw [endRow_at hr] at hjr; cases hjr; exact (h j (m.rows.getD j r0) hj (row_at hr) :)
  · rw [endRow_ne e] at hjr; exact h j r hj hjr
theorem Par.told {row b : Nat} {lo : Int} {x : Bool} (h : Par m.rows b lo) (hr : row < m.rows.length) : Par (m.told row x).rows b lo := by
  intro j r hj hjr
  by_cases e : j = row
  · subst e; rw [told_at hr] at hjr; cases hjr; exact (h j (m.rows.getD j r0) hj (row_at hr) :)
  · rw [told_ne e] at hjr; exact h j r hj hjr
end
end Go.Proofs.YtgkfbagclkjilaaGreatDoor
namespace Go.Proofs.YtgkfbagclkjilaaGreatDoor.Ft
open Go Go.Ev Go.Proofs Go.Proofs.YtgkfbagclkjilaaGreatDoor
open Go.Proofs.YtgkfbagclkjilaaGreatDoor.Fr (fTo fOn fPlain fForked fJoined fClosed fChild fRoot fR isB fTo_len fOn_len fPlain_len fForked_len fJoined_len fClosed_len)
open Go.Proofs.YtgkfbagclkjilaaGreatDoor.Ck (opI Walk Accs needsOf isGoes heldL depths stepD handlesOk subBits scopesOk forks)
def bytes (l : List Bool) : List UInt8 := l.map fun b => if b then 49 else 48
def toRb (r : Rw) : Rb := ⟨r.par, r.inn, r.fn, r.kind, r.v, r.steps, told r.cl⟩
theorem told_bytes (l : List Bool) : (told l).data.toList = bytes l := by simp [told, bytes]
theorem rowAt_toRb {R : List Rw} {j : Nat} : rowAt (R.map toRb) (j : Int) = toRb (R.getD j r0) := by
  unfold rowAt
  rw [Int.toNat_natCast, List.getD_eq_getElem?_getD, List.getD_eq_getElem?_getD, List.getElem?_map]
  cases R[j]? with
  | none => rfl
  | some x => rfl
theorem rowAt_int {R : List Rw} {j : Int} (h : 0 ≤ j) : rowAt (R.map toRb) j = toRb (R.getD j.toNat r0) := by
  rw [← rowAt_toRb, Int.toNat_of_nonneg h]
def OwnQ (sc : Int × Int → Option ((Int × Int) × Bool)) (row : Int) (inn : Int × Int) : List (Bool × Int) → Prop
  | [] => False
  | [x] => x.2 = 0 ∧ sc (row, 0) = some (inn, x.1)
  | x :: y :: r => y.2 < x.2 ∧ sc (row, x.2) = some ((row, y.2), x.1) ∧ OwnQ sc row inn (y :: r)
section
variable {sc : Int × Int → Option ((Int × Int) × Bool)} {row : Int} {inn : Int × Int} {ts : List (Bool × Int)}
theorem OwnQ.head (h : OwnQ sc row inn ts) : ∃ a, sc (row, (ts.headD (false, 0)).2) = some (a, (ts.headD (false, 0)).1) := by
  match ts, h with
  | [x], ⟨h0, h1⟩ => exact ⟨inn, by simp only [List.headD_cons]; rw [h0]; exact h1⟩
  | x :: y :: r, ⟨_, h1, _⟩ => exact ⟨_, h1⟩
theorem OwnQ.le : ∀ {ts : List (Bool × Int)}, OwnQ sc row inn ts → ∀ x ∈ ts, 0 ≤ x.2 ∧ x.2 ≤ (ts.headD (false, 0)).2
  | [x], ⟨h0, _⟩, y, hy => by simp at hy; subst hy; simp [h0]
  | x :: z :: r, ⟨h0, _, h2⟩, y, hy => by
    have ih := OwnQ.le h2
    have hz := ih z (by simp)
    rcases List.mem_cons.1 hy with rfl | hy
    · simp only [List.headD_cons] at hz ⊢; omega
    · have := ih y hy; simp only [List.headD_cons] at this ⊢; omega
theorem OwnQ.new {s : Int × Int} {v : (Int × Int) × Bool} : ∀ {ts : List (Bool × Int)}, OwnQ sc row inn ts → (∀ x ∈ ts, s ≠ (row, x.2)) → OwnQ (upd sc s v) row inn ts
  | [x], ⟨h0, h1⟩, hs => ⟨h0, by unfold upd; rw [if_neg (fun e => hs x (by simp) (by rw [h0]; exact e.symm))]; exact h1⟩
  | x :: z :: r, ⟨h0, h1, h2⟩, hs => ⟨h0, by unfold upd; rw [if_neg (fun e => hs x (by simp) e.symm)]; exact h1, OwnQ.new h2 fun y hy => hs y (by simp [hy])⟩
theorem OwnQ.ask (hr : 0 ≤ row) : ∀ {ts : List (Bool × Int)}, OwnQ sc row inn ts → (ts.any (·.1) = true ∨ Ask sc inn true) → Ask sc (row, (ts.headD (false, 0)).2) true
  | [x], ⟨h0, h1⟩, h => by
    simp only [List.headD_cons]
    rw [h0]
    have hne : ((row, 0) : Int × Int) ≠ (-1, 0) := fun e => by have := congrArg Prod.fst e; dsimp only at this; omega
    obtain ⟨q, k⟩ := x
    cases q with
    | true => exact .yes hne h1
    | false =>
      refine .up hne h1 ?_
      rcases h with h | h
      · simp at h
      · exact h
  | x :: z :: r, ⟨h0, h1, h2⟩, h => by
    simp only [List.headD_cons]
    have hne : ((row, x.2) : Int × Int) ≠ (-1, 0) := fun e => by have := congrArg Prod.fst e; dsimp only at this; omega
    obtain ⟨q, k⟩ := x
    cases q with
    | true => exact .yes hne h1
    | false =>
      refine .up hne h1 (OwnQ.ask hr h2 ?_)
      rcases h with h | h
      · left; simpa using h
      · exact .inr h
end
def Mono (b b' : Bk) : Prop := ∀ s x, b.sc s = some x → ∃ q, b'.sc s = some (x.1, q) ∧ (x.2 = true → q = true)
theorem Mono.refl (b : Bk) : Mono b b := fun s x h => ⟨x.2, h, id⟩
theorem Mono.trans {a b c : Bk} (h : Mono a b) (k : Mono b c) : Mono a c := fun s x hx => by
  obtain ⟨q, h1, h2⟩ := h s x hx
  obtain ⟨q', h3, h4⟩ := k s _ h1
  exact ⟨q', h3, fun e => h4 (h2 e)⟩
theorem Ask.mono {b b' : Bk} (hm : Mono b b') {s : Int × Int} {x : Bool} (h : Ask b.sc s x) : x = true → Ask b'.sc s true := by
  induction h with
  | world => intro e; cases e
  | yes hne hs =>
    intro _
    obtain ⟨q, h1, h2⟩ := hm _ _ hs
    rw [h2 rfl] at h1
    exact .yes hne h1
  | up hne hs _ ih =>
    intro e
    obtain ⟨q, h1, h2⟩ := hm _ _ hs
    cases q with
    | true => exact .yes hne h1
    | false => exact .up hne h1 (ih e)
structure Mt (R : List Rw) (t : Tk) (m : Mc) (inn : Int × Int) (r : Rn) (b : Bk) : Prop where
  f : r.f = t.f
  kind : r.kind = 0
  last : r.last = ((t.row : Int), (t.sc.headD (false, 0)).2)
  op : r.opened = t.opened
  own : OwnQ b.sc t.row inn t.sc
  top : ∀ x ∈ t.sc, x.2 ≤ t.opened
  new : ∀ k, t.opened < k → b.sc ((t.row : Int), k) = none
  cl : bytes (m.rows.getD t.row r0).cl ++ r.cl = bytes (R.getD t.row r0).cl
section
variable {P : List FnR} {F : Int} {t : Tk} {m : Mc} {R : List Rw} {inn : Int × Int} {r : Rn} {b : Bk}
theorem Mt.s (h : Mt R t m inn r b) : ∃ a, b.sc r.last = some (a, (t.sc.headD (false, 0)).1) := by rw [h.last]; exact h.own.head
theorem Mt.s2 (h : Mt R t m inn r b) : (b.s r.last).2 = (t.sc.headD (false, 0)).1 := by
  obtain ⟨a, ha⟩ := h.s
  rw [bk_s ha]
theorem append_inj_head {A : Type} {x : A} {a b : List A} {k : List A} (h : a ++ k = (a ++ [x]) ++ b) : k = x :: b := by
  rw [List.append_assoc] at h
  simpa using List.append_cancel_left h
theorem go_fits (hA : Accs P) (hI : Inv P t m) {t' : Tk} {m' : Mc} (h : stp P F t m = .go t' m') (hM : Mt R t m inn r b) (hR : ∀ j, Ended m.rows j → R[j]? = m.rows[j]?) (hp : (m'.rows.getD t.row r0).cl <+: (R.getD t.row r0).cl) :
    ∃ r1 b1, fstp P (R.map toRb) true t.row r b = some (r1, b1) ∧ Mt R t' m' inn r1 b1 ∧ r1.kids = r.kids ∧ b1.beg = b.beg ∧ Mono b b1 ∧ ∀ s : Int × Int, s.1 ≠ t.row → b1.sc s = b.sc s := by
  obtain ⟨g, hv, ha⟩ := hI.at hA
  unfold stp at h
  split at h
  · cases h
  split at h
  · cases h
  split at h
  · cases h
  unfold fstp
  rw [if_neg (by rw [hM.kind]; simp), hM.f]
  split at h
  · rename_i hpl
    cases h
    rw [if_pos hpl]
    exact ⟨_, _, rfl, ⟨rfl, hM.kind, hM.last, hM.op, hM.own, hM.top, hM.new, hM.cl⟩, rfl, rfl, Mono.refl _, fun _ _ => rfl⟩
  rename_i hpl
  rw [if_neg hpl]
  unfold act at h
  unfold fact
  split at h
  · cases h
  rename_i h8
  rw [if_neg h8]
  split at h
  · rename_i h9
    rw [if_pos h9]
    obtain ⟨h0, h1, h2, x, hx, hk⟩ := at_join ha h9
    have ex : rOf (insAt P t.f) t { m with steps := m.steps + 1 } = x := by unfold rOf; rw [List.getD_eq_getElem?_getD]; dsimp only; rw [hx]; rfl
    have eR : rowAt (R.map toRb) (r.f.getD (10 + (hOf (insAt P t.f)).toNat) 0) = toRb x := by
      rw [hM.f, rowAt_int h2, List.getD_eq_getElem?_getD, hR _ ⟨x, hx, hk⟩, hx]; rfl
    rw [eR]
    rw [ex] at h
    have hk2 : ¬ (toRb x).kind < 2 := by show ¬ x.kind < 2; omega
    rw [if_neg hk2]
    rw [hM.f]
    split at h
    · cases h
    rename_i hb
    cases h
    have hb' : ¬ (fJoined t.f (insAt P t.f) (toRb x).kind (toRb x).v).2.2 = true := hb
    rw [if_neg hb']
    exact ⟨_, _, rfl, ⟨rfl, hM.kind, hM.last, hM.op, hM.own, hM.top, hM.new, hM.cl⟩, rfl, rfl, Mono.refl _, fun _ _ => rfl⟩
  rename_i h9
  rw [if_neg h9]
  split at h
  · rename_i h11
    rw [if_pos h11]
    cases h
    have hnew : ∀ x ∈ t.sc, (((t.row : Int), t.opened + 1) : Int × Int) ≠ ((t.row : Int), x.2) := fun x hx e => by
      have := hM.top x hx
      have e2 := congrArg Prod.snd e
      dsimp only at e2; omega
    refine ⟨_, _, rfl, ⟨by rw [hM.f], hM.kind, by rw [hM.op]; rfl, by rw [hM.op], ?_, ?_, ?_, hM.cl⟩, rfl, rfl, ?_, ?_⟩
    · have hO := hM.own.new (s := ((t.row : Int), t.opened + 1)) (v := (r.last, false)) hnew
      dsimp only
      rw [hM.op]
      cases hs : t.sc with
      | nil => exact (hI.sc hs).elim
      | cons x l =>
        rw [hs] at hO
        have hx := hM.top x (by rw [hs]; simp)
        refine ⟨by dsimp only; omega, ?_, hO⟩
        show upd b.sc _ _ _ = _
        unfold upd
        rw [if_pos rfl, hM.last, hs]; rfl
    · intro x hx
      dsimp only at hx ⊢
      rcases List.mem_cons.1 hx with rfl | hx
      · exact Int.le_refl _
      · have := hM.top x hx; omega
    · intro k hk
      dsimp only at hk ⊢
      rw [hM.op]
      unfold upd
      rw [if_neg (fun e => by have e2 := congrArg Prod.snd e; dsimp only at e2; omega)]
      exact hM.new k (by omega)
    · intro s x hx
      refine ⟨x.2, ?_, id⟩
      show upd b.sc _ _ s = _
      unfold upd
      rw [if_neg (fun e => ?_)]
      · exact hx
      · rw [hM.op] at e
        rw [e, hM.new _ (by omega)] at hx; cases hx
    · intro s hs
      show upd b.sc _ _ s = _
      unfold upd
      rw [if_neg (fun e => hs (by rw [e]))]
  rename_i h11
  rw [if_neg h11]
  split at h
  · rename_i h12
    rw [if_pos h12]
    have hl2 := at_scopes ha (.inl h12)
    cases h
    have hcl : r.cl = (if (t.sc.headD (false, 0)).1 then (49 : UInt8) else 48) :: bytes ((R.getD t.row r0).cl.drop ((m.rows.getD t.row r0).cl.length + 1)) := by
      obtain ⟨rest, hrest⟩ := hp
      have e1 : ((({ m with steps := m.steps + 1 } : Mc).told t.row (t.sc.headD (false, 0)).1).rows.getD t.row r0).cl = (m.rows.getD t.row r0).cl ++ [(t.sc.headD (false, 0)).1] := by
        rw [List.getD_eq_getElem?_getD, told_at (m := { m with steps := m.steps + 1 }) hI.row]; rfl
      rw [e1] at hrest
      have h2 := hM.cl
      rw [← hrest] at h2
      simp only [bytes, List.map_append, List.map_cons, List.map_nil] at h2
      have h3 := append_inj_head h2
      rw [h3, ← hrest]
      simp [bytes]
    rw [hcl]
    dsimp only
    have hq : ¬ (((b.s r.last).2 && !((if (t.sc.headD (false, 0)).1 then (49 : UInt8) else 48) == 49)) || (true && !(((if (t.sc.headD (false, 0)).1 then (49 : UInt8) else 48) == 49) == (b.s r.last).2))) = true := by
      rw [hM.s2]
      cases (t.sc.headD (false, 0)).1 <;> simp
    rw [if_neg hq]
    have e49 : ((if (t.sc.headD (false, 0)).1 then (49 : UInt8) else 48) == 49) = (t.sc.headD (false, 0)).1 := by
      cases (t.sc.headD (false, 0)).1 <;> simp
    rw [e49]
    refine ⟨_, _, rfl, ?_, rfl, rfl, Mono.refl _, fun _ _ => rfl⟩
    match hs : t.sc, hl2, hM.own with
    | [], hl2, _ => simp at hl2
    | [_], hl2, _ => simp at hl2
    | x :: y :: z, _, hO =>
      have hOw : OwnQ b.sc t.row inn (x :: y :: z) := by have := hM.own; rwa [hs] at this
      obtain ⟨o1, o2, o3⟩ := hOw
      refine ⟨by rw [hM.f], hM.kind, ?_, hM.op, o3, fun u hu => hM.top u (by rw [hs]; exact List.mem_cons_of_mem _ hu), hM.new, ?_⟩
      · have := hM.last
        rw [hs] at this
        simp only [List.headD_cons] at this
        rw [this, bk_s o2]
        rfl
      · dsimp only
        have e1 : ((({ m with steps := m.steps + 1 } : Mc).told t.row x.1).rows.getD t.row r0).cl = (m.rows.getD t.row r0).cl ++ [x.1] := by
          rw [List.getD_eq_getElem?_getD, told_at (m := { m with steps := m.steps + 1 }) hI.row]; rfl
        simp only [List.headD_cons]
        rw [e1, ← hM.cl, hcl, hs]
        simp [bytes]
  rename_i h12
  rw [if_neg h12]
  split at h
  · rename_i h13
    rw [if_pos h13]
    cases h
    obtain ⟨a, hsa⟩ := hM.s
    have ea : (b.s r.last).1 = a := by rw [bk_s hsa]
    refine ⟨_, _, rfl, ⟨by rw [hM.f], hM.kind, by rw [hM.last]; rfl, hM.op, ?_, ?_, ?_, hM.cl⟩, rfl, rfl, ?_, ?_⟩
    · dsimp only
      rw [ea]
      have hO := hM.own
      have hla := hM.last
      match hs : t.sc, hO with
      | [x], hO =>
        have hO : OwnQ b.sc t.row inn [x] := by have := hM.own; rwa [hs] at this
        rw [hs] at hla
        obtain ⟨o1, o2⟩ := hO
        simp only [List.headD_cons, List.tail_cons] at hla ⊢
        refine ⟨o1, ?_⟩
        unfold upd
        rw [if_pos (by rw [hla, o1])]
        rw [hla, o1, o2] at hsa
        have ea' : inn = a := by have := congrArg (fun o => o.map Prod.fst) hsa; simpa using this
        rw [ea']
      | x :: y :: z, hO =>
        have hO : OwnQ b.sc t.row inn (x :: y :: z) := by have := hM.own; rwa [hs] at this
        rw [hs] at hla
        obtain ⟨o1, o2, o3⟩ := hO
        simp only [List.headD_cons, List.tail_cons] at hla ⊢
        refine ⟨o1, ?_, o3.new fun u hu e => ?_⟩
        · unfold upd
          rw [if_pos (by rw [hla])]
          rw [hla, o2] at hsa
          have ea' : ((t.row : Int), y.2) = a := by have := congrArg (fun o => o.map Prod.fst) hsa; simpa using this
          rw [ea']
        · rw [hla] at e
          have e2 := congrArg Prod.snd e
          have := (o3.le u hu).2
          simp only [List.headD_cons] at this
          dsimp only at e2; omega
    · intro x hx
      dsimp only at hx ⊢
      rcases List.mem_cons.1 hx with rfl | hx
      · dsimp only
        cases hs : t.sc with
        | nil => exact (hI.sc hs).elim
        | cons y l => exact hM.top y (by rw [hs]; simp)
      · exact hM.top x (List.mem_of_mem_tail hx)
    · intro k hk
      dsimp only at hk ⊢
      unfold upd
      rw [if_neg (fun e => ?_)]
      · exact hM.new k hk
      · rw [← e, hM.new k hk] at hsa; cases hsa
    · intro s x hx
      show ∃ q, upd b.sc _ _ s = _ ∧ _
      unfold upd
      split
      · rename_i e
        rw [e, hsa] at hx
        cases hx
        exact ⟨true, by rw [ea], fun _ => rfl⟩
      · exact ⟨x.2, hx, id⟩
    · intro s hs
      show upd b.sc _ _ s = _
      unfold upd
      rw [if_neg (fun e => hs (by rw [e, hM.last]))]
  rename_i h13
  rw [if_neg h13]
  split at h
  · rename_i h14
    rw [if_pos h14]
    cases h
    exact ⟨_, _, rfl, ⟨by rw [hM.f], hM.kind, hM.last, hM.op, hM.own, hM.top, hM.new, hM.cl⟩, rfl, rfl, Mono.refl _, fun _ _ => rfl⟩
  · cases h
theorem fork_fits {c : Tk} {m1 : Mc} {i : List Int} {ks : List Int} {q : Bool} {l : List Rb} (h : stp P F t m = .fork c m1 i) (hM : Mt R t m inn r b) (hk : r.kids = (m.rows.length : Int) :: ks) :
    fstp P l q t.row r b = some ({ r with f := fForked t.f i c.row, kids := ks }, { b with beg := upd b.beg (m.rows.length : Int) (c.f, ((t.row : Int), (t.sc.headD (false, 0)).2)) }) := by
  obtain ⟨_, _, hi, h8, _, hc, _⟩ := stp_fork h
  unfold stp at h
  split at h
  · cases h
  split at h
  · cases h
  split at h
  · cases h
  split at h
  · cases h
  rename_i hpl
  unfold fstp
  rw [if_neg (by rw [hM.kind]; simp), hM.f, if_neg hpl]
  unfold fact
  rw [← hi, if_pos h8, hk]
  dsimp only
  rw [hM.f, hM.last, hc]
end
end Go.Proofs.YtgkfbagclkjilaaGreatDoor.Ft
namespace Go.Proofs.YtgkfbagclkjilaaGreatDoor.Ft
open Go Go.Ev Go.Proofs Go.Proofs.YtgkfbagclkjilaaGreatDoor
open Go.Proofs.YtgkfbagclkjilaaGreatDoor.Fr (fTo fOn fPlain fForked fJoined fClosed fChild fRoot fR isB fTo_len fOn_len fPlain_len fForked_len fJoined_len fClosed_len)
open Go.Proofs.YtgkfbagclkjilaaGreatDoor.Ck (opI Walk Accs needsOf isGoes heldL depths stepD handlesOk subBits scopesOk forks)
section
variable {P : List FnR} {F : Int} {t : Tk} {m : Mc} {R : List Rw} {inn : Int × Int} {r : Rn} {b : Bk}
def kidsR (l : List Rb) (row : Int) : Nat → Nat → List Int
  | _, 0 => []
  | a, n + 1 => if (rowAt l (a : Int)).par = row then (a : Int) :: kidsR l row (a + 1) n else kidsR l row (a + 1) n
theorem kidsR_succ {l : List Rb} {row : Int} {a n : Nat} : kidsR l row a (n + 1) = if (rowAt l (a : Int)).par = row then (a : Int) :: kidsR l row (a + 1) n else kidsR l row (a + 1) n := rfl
theorem kids_R {l : List Rb} {row : Int} : kidsL l row = kidsR l row 0 l.length := by
  have key : ∀ (n a : Nat), ((List.range' a n).filter fun k : Nat => (rowAt l (k : Int)).par == row).map (fun k : Nat => (k : Int)) = kidsR l row a n := by
    intro n
    induction n with
    | zero => intro a; rfl
    | succ n ih =>
      intro a
      rw [List.range'_succ, List.filter_cons]
      unfold kidsR
      by_cases e : (rowAt l (a : Int)).par = row
      · rw [if_pos (by simpa using e), if_pos e, List.map_cons, ih]
      · rw [if_neg (by simpa using e), if_neg e, ih]
  unfold kidsL
  rw [List.range_eq_range']
  exact key _ _
theorem kidsR_skip {l : List Rb} {row : Int} {n : Nat} : ∀ {k a : Nat}, (∀ j : Nat, a ≤ j → j < a + k → (rowAt l (j : Int)).par ≠ row) → kidsR l row a (k + n) = kidsR l row (a + k) n
  | 0, a, h => by simp
  | k + 1, a, h => by
    rw [show k + 1 + n = (k + n) + 1 by omega]
    rw [kidsR_succ, if_neg (h a (Nat.le_refl _) (by omega)), kidsR_skip (fun j h1 h2 => h j (by omega) (by omega)), show a + 1 + k = a + (k + 1) by omega]
theorem kidsR_le {l : List Rb} {row : Int} : ∀ {n a : Nat} {x : Int}, x ∈ kidsR l row a n → (a : Int) ≤ x
  | 0, a, x, h => by cases h
  | n + 1, a, x, h => by
    unfold kidsR at h
    split at h
    · rcases List.mem_cons.1 h with rfl | h
      · exact Int.le_refl _
      · have := kidsR_le h; omega
    · have := kidsR_le h; omega
end
end Go.Proofs.YtgkfbagclkjilaaGreatDoor.Ft
namespace Go.Proofs.YtgkfbagclkjilaaGreatDoor.Ft
open Go Go.Ev Go.Proofs Go.Proofs.YtgkfbagclkjilaaGreatDoor
open Go.Proofs.YtgkfbagclkjilaaGreatDoor.Fr (fTo fOn fPlain fForked fJoined fClosed fChild fRoot fR isB fTo_len fOn_len fPlain_len fForked_len fJoined_len fClosed_len)
open Go.Proofs.YtgkfbagclkjilaaGreatDoor.Ck (opI Walk Accs needsOf isGoes heldL depths stepD handlesOk subBits scopesOk forks)
section
variable {P : List FnR} {F : Int} {t : Tk} {m : Mc} {R : List Rw}
inductive Wi (R : List Rw) (o : Int) : Int → Prop where
  | self : Wi R o o
  | up {i : Int} : 0 ≤ i → i < R.length → Wi R o (R.getD i.toNat r0).par → Wi R o i
theorem Wi.trans {o o' i : Int} (h : Wi R o i) (k : Wi R o' o) : Wi R o' i := by
  induction h with
  | self => exact k
  | up a b _ ih => exact .up a b ih
end
end Go.Proofs.YtgkfbagclkjilaaGreatDoor.Ft
namespace Go.Proofs.YtgkfbagclkjilaaGreatDoor.Ft
open Go Go.Ev Go.Proofs Go.Proofs.YtgkfbagclkjilaaGreatDoor
open Go.Proofs.YtgkfbagclkjilaaGreatDoor.Fr (fTo fOn fPlain fForked fJoined fClosed fChild fRoot fR isB fTo_len fOn_len fPlain_len fForked_len fJoined_len fClosed_len)
open Go.Proofs.YtgkfbagclkjilaaGreatDoor.Ck (opI Walk Accs needsOf isGoes heldL depths stepD handlesOk subBits scopesOk forks)
def ofRb (r : Rb) : Rw := ⟨r.par, r.inn, r.fn, r.kind, r.v, r.steps, r.cl.data.toList.map fun c => c == 49⟩
theorem bytes_is01 : ∀ {l : List UInt8}, (l.all fun c => c == 48 || c == 49) = true → bytes (l.map fun c => c == 49) = l
  | [], _ => rfl
  | c :: l, h => by
    rw [List.all_cons, Bool.and_eq_true] at h
    have ih := bytes_is01 h.2
    unfold bytes at ih ⊢
    rw [List.map_cons, List.map_cons, ih]
    congr 1
    by_cases e : c = 49
    · subst e; rfl
    · have h48 : c = 48 := by
        have := h.1
        simp only [Bool.or_eq_true, beq_iff_eq] at this
        exact this.resolve_right e
      subst h48; rfl
theorem told_data (l : List Bool) : told l = ByteArray.mk (bytes l).toArray := rfl
theorem toRb_of {r : Rb} (h : is01 r.cl = true) : toRb (ofRb r) = r := by
  obtain ⟨a, b, c, d, e, f, cl⟩ := r
  unfold toRb ofRb
  dsimp only
  rw [told_data, bytes_is01 h]
theorem bytes_inj : ∀ {a b : List Bool}, bytes a = bytes b → a = b
  | [], [], _ => rfl
  | [], _ :: _, h => by cases h
  | _ :: _, [], h => by cases h
  | x :: a, y :: b, h => by
    unfold bytes at h
    rw [List.map_cons, List.map_cons, List.cons.injEq] at h
    have := bytes_inj (a := a) (b := b) h.2
    rw [this]
    congr 1
    have h1 := h.1
    cases x <;> cases y <;> first | rfl | cases h1
theorem bytes_app (a b : List Bool) : bytes (a ++ b) = bytes a ++ bytes b := by simp [bytes]
theorem bytes_len (a : List Bool) : (bytes a).length = a.length := by simp [bytes]
theorem prefix_bytes {a b : List Bool} {k : List UInt8} (h : bytes a ++ k = bytes b) : a <+: b := by
  refine ⟨b.drop a.length, ?_⟩
  apply bytes_inj
  rw [bytes_app, ← h]
  congr 1
  have : bytes (b.drop a.length) = (bytes b).drop a.length := by simp [bytes]
  rw [this, ← h, ← bytes_len a, List.drop_left]
section
variable {P : List FnR} {F : Int} {t : Tk} {m : Mc} {R : List Rw} {inn : Int × Int} {r : Rn} {b : Bk} {l : List Rb}
def NoAsk (b : Bk) : Prop := ∀ s x, b.sc s = some x → x.2 = false
theorem NoAsk.ask (h : NoAsk b) {s : Int × Int} {x : Bool} (k : Ask b.sc s x) : x = false := by
  induction k with
  | world => rfl
  | yes _ hs => have := h _ _ hs; cases this
  | up _ _ _ ih => exact ih
theorem NoAsk.askB (h : NoAsk b) {s : Int × Int} : askB b.sc s = false := by
  unfold Ft.askB
  rw [decide_eq_false_iff_not]
  intro k
  have := h.ask k
  cases this
theorem plain_op {Q : Int → Prop} {f : List Int} {d : Int} (hA : Accs P) (hp : Ck.plainF P = true) (h : FI P Q f d) : (insAt P f).getD 0 0 ≠ 13 := by
  obtain ⟨g, hv, ha⟩ := h.at hA
  have h1 : ∀ f ∈ P, ∀ x ∈ f.code, Ck.plainI x = true := by
    unfold Ck.plainF at hp
    intro f hf x hx
    exact List.all_eq_true.1 (List.all_eq_true.1 hp f hf) x hx
  have := h1 g (List.mem_of_getElem? ha.at0) _ (List.mem_of_getElem? ha.ins)
  intro q
  unfold Ck.plainI opI at this
  rw [q] at this
  cases this
theorem upd_noask {s : Int × Int} {a : Int × Int} (h : NoAsk b) {g : Int → Option (List Int × (Int × Int))} : NoAsk ⟨g, upd b.sc s (a, false)⟩ := by
  intro s' x hx
  dsimp only at hx
  unfold upd at hx
  split at hx
  · cases hx; rfl
  · exact h _ _ hx
theorem fstp_noask {q : Bool} {row : Int} {r' : Rn} {b' : Bk} (hno : (insAt P r.f).getD 0 0 ≠ 13) (hs : fstp P l q row r b = some (r', b')) (h : NoAsk b) : NoAsk b' := by
  unfold fstp at hs
  split at hs
  · cases hs
  split at hs
  · cases hs; exact h
  unfold fact at hs
  split at hs
  · split at hs
    · cases hs
    · cases hs; exact h
  split at hs
  · split at hs
    · cases hs
    split at hs
    · cases hs; exact h
    · cases hs; exact h
  split at hs
  · cases hs; exact upd_noask h
  split at hs
  · split at hs
    · cases hs
    split at hs
    · cases hs
    · cases hs; exact h
  split at hs
  · cases hs; exact h
  · cases hs; exact h
theorem frun_noask {q : Bool} {row : Int} {Q : Int → Prop} (hA : Accs P) (hN : ∀ g ∈ P, InI g.needs) (hp : Ck.plainF P = true) (hQ : ∀ j, Q j → (rowAt l j).kind ≤ 4) (h0 : 0 ≤ row) : ∀ {N n : Nat} {r r' : Rn} {b b' : Bk} {ks : List Int}, n + N ≤ 1048576 → RI P Q row inn n r b ks → BI P Q b → (∀ k ∈ r.kids, row < k) → frun P l q row N r b = some (r', b') → NoAsk b → NoAsk b'
  | 0, n, r, r', b, b', ks, hn, hr, hb, hk, hs, h => by cases hs; exact h
  | N + 1, n, r, r', b, b', ks, hn, hr, hb, hk, hs, h => by
    rw [frun_succ] at hs
    split at hs
    · cases hs
    · rename_i r1 b1 hst
      obtain ⟨hk0, ⟨ks', h1⟩, h2, _, ⟨j, h4⟩, _⟩ := fstp_ri hA hN hQ h0 (by omega) hr hb hk hst
      exact frun_noask hA hN hp hQ h0 (by omega) h1 h2 (fun k hk' => hk k (by rw [h4] at hk'; exact List.mem_of_mem_drop hk')) hs (fstp_noask (plain_op hA hp (hr.fi hk0)) hst h)
structure Ahead (P : List FnR) (l : List Rb) (i : Int) (b : Bk) : Prop where
  bi : BI P (fun j => 0 ≤ j ∧ j < l.length) b
  kn : Known l i b
  no : NoAsk b
  new : ∀ j k, i ≤ j → b.sc (j, k) = none
structure Fits1 (P : List FnR) (l : List Rb) (i : Int) (b b' : Bk) : Prop where
  ahead : Ahead P l i b
  next : Ahead P l (i + 1) b'
  how : ∃ x r', b.beg i = some x ∧ (rowAt l i).fn = x.1.getD 0 0 ∧ (rowAt l i).inn = x.2.2 ∧ frun P l true i (rowAt l i).steps.toNat (rn0 l i x) { b with sc := upd b.sc (i, 0) (x.2, false) } = some (r', b') ∧ r'.kids = [] ∧ r'.cl = [] ∧ r'.kind = (rowAt l i).kind ∧ r'.v = (rowAt l i).v
  kind : (rowAt l i).kind = 2 ∨ (rowAt l i).kind = 3
  keep : ∀ k, k ∉ kidsL l i → b'.beg k = b.beg k
theorem fits_one {i : Int} {b' : Bk} (hA : Accs P) (hN : ∀ g ∈ P, InI g.needs) (hp : Ck.plainF P = true) (hR : ∀ i : Nat, i < l.length → TRow l i) (hd : ∀ i : Nat, i < l.length → 2 ≤ (rowAt l (i : Int)).kind) (h0 : 0 ≤ i) (h1 : i < l.length) (ha : Ahead P l i b) (h : frow P l true i b = some b') : Fits1 P l i b b' := by
  have hTi := tr_int hR h0 h1
  have hsp := row_span hTi
  have hdi : 2 ≤ (rowAt l i).kind := by have := hd i.toNat (by omega); rwa [Int.toNat_of_nonneg h0] at this
  have hisS : (b.beg i).isSome = true := by
    refine ha.kn i h0 h1 ?_
    by_cases e : i = 0
    · exact .inl e
    · exact .inr (row_par hTi e h0).2.1
  obtain ⟨x, hx⟩ := Option.isSome_iff_exists.1 hisS
  have hat : b.at i = x := by unfold Bk.at; rw [hx]; rfl
  have hkn := frow_known hR h0 ha.kn h
  have hnok : ∀ k, k ∉ kidsL l i → b'.beg k = b.beg k := fun k hk => frow_nok h hk
  have hfa := frow_at h
  rw [hat] at hfa
  have hQ4 : ∀ j : Int, (0 ≤ j ∧ j < l.length) → (rowAt l j).kind ≤ 4 := fun j hj => (row_span (tr_int hR hj.1 hj.2)).2.2.2.2.1
  obtain ⟨hri, hbi⟩ := ri_start (l := l) ha.bi h0 hx (kidsL l i) (fun k hk => ⟨(mem_kids.1 hk).1, (mem_kids.1 hk).2.1⟩)
  have hkg := fun k hk => kids_gt hR k hk h0
  unfold frow at h
  split at h
  · cases h
  rw [if_neg (by omega), hat] at h
  split at h
  · cases h
  rename_i r1 b1 hrun
  split at h
  · rename_i hf
    cases h
    obtain ⟨_, hb2, hto, _, _⟩ := frun_ri hA hN hQ4 h0 _ 0 _ _ _ _ _ (by omega) hri hbi hkg hrun
    have hno1 : NoAsk { b with sc := upd b.sc (i, 0) (x.2, false) } := upd_noask ha.no
    have hno2 := frun_noask hA hN hp hQ4 h0 (by omega) hri hbi hkg hrun hno1
    have hfe := hf.2.2
    unfold fends at hfe
    have hk23 : (rowAt l i).kind = 2 ∨ (rowAt l i).kind = 3 := by
      refine Classical.byContradiction fun q => ?_
      rw [if_neg q, if_pos (by omega), hno2.askB] at hfe
      rw [if_pos (by simp)] at hfe
      cases hfe
    rw [if_pos hk23, Bool.and_eq_true, beq_iff_eq, beq_iff_eq] at hfe
    refine ⟨ha, ⟨hb2, hkn, hno2, fun j k hj => ?_⟩, ⟨x, r1, hx, hfa.1, hfa.2, hrun, List.eq_nil_of_length_eq_zero hf.1, List.eq_nil_of_length_eq_zero hf.2.1, hfe.1, hfe.2⟩, hk23, hnok⟩
    rw [hto.sc _ (by dsimp only; omega)]
    show upd b.sc _ _ _ = _
    unfold upd
    rw [if_neg (fun e => by have := congrArg Prod.fst e; dsimp only at this; omega)]
    exact ha.new j k (by omega)
  · cases h
theorem fits_books (hA : Accs P) (hN : ∀ g ∈ P, InI g.needs) (hp : Ck.plainF P = true) (hR : ∀ i : Nat, i < l.length → TRow l i) (hd : ∀ i : Nat, i < l.length → 2 ≤ (rowAt l (i : Int)).kind) : ∀ (n : Nat) (i : Nat) (b : Bk), i + n = l.length → Ahead P l i b → fgo P l true n i b = (0, 0) → ∃ bk : Nat → Bk, bk i = b ∧ ∀ j, i ≤ j → j < l.length → Fits1 P l j (bk j) (bk (j + 1))
  | 0, i, b, hn, ha, h => ⟨fun _ => b, rfl, fun j a c => by omega⟩
  | n + 1, i, b, hn, ha, h => by
    rw [fgo_succ] at h
    split at h
    · cases h
    rename_i b1 hb1
    have hf := fits_one hA hN hp hR hd (by omega) (by omega) ha hb1
    obtain ⟨bk, e, hbk⟩ := fits_books hA hN hp hR hd n (i + 1) b1 (by omega) hf.next h
    refine ⟨fun j => if j ≤ i then b else bk j, by simp, fun j a c => ?_⟩
    by_cases q : j = i
    · subst q
      simp only [Nat.le_refl, if_true]
      rw [if_neg (by omega), e]
      exact hf
    · simp only
      rw [if_neg (by omega), if_neg (by omega)]
      exact hbk j (by omega) c
theorem beg_keep {bk : Nat → Bk} {L : Nat} (hbk : ∀ j, j < L → Fits1 P l j (bk j) (bk (j + 1))) {k : Int} {a : Nat} : ∀ {d : Nat}, a + d ≤ L → (∀ j : Nat, a ≤ j → j < a + d → k ∉ kidsL l j) → (bk (a + d)).beg k = (bk a).beg k
  | 0, _, _ => rfl
  | d + 1, h, hk => by
    rw [show a + (d + 1) = (a + d) + 1 by omega, (hbk (a + d) (by omega)).keep k (hk (a + d) (by omega) (by omega))]
    exact beg_keep hbk (by omega) fun j h1 h2 => hk j h1 (by omega)
theorem within_le (hP : ∀ j : Int, 0 ≤ j → j < l.length → (rowAt l j).par < j) : ∀ {n : Nat} {x o : Int}, withinP l n x o = true → o ≤ x
  | 0, x, o, h => by cases h
  | n + 1, x, o, h => by
    unfold withinP at h
    split at h
    · cases h
    rename_i hx
    split at h
    · rename_i e; omega
    · have := within_le hP h
      have := hP x (by omega) (by omega)
      omega
theorem within_below (hP : ∀ j : Int, 0 ≤ j → j < l.length → (rowAt l j).par < j) {k i : Int} (hki : (rowAt l k).par = i) : ∀ {n : Nat} {x o e : Int}, (∀ j, k < j → j < e → k ≤ (rowAt l j).par) → withinP l n x o = true → k ≤ x → x < e → o < k → o ≤ i
  | 0, x, o, e, hK, h, _, _, _ => by cases h
  | n + 1, x, o, e, hK, h, h1, h2, h3 => by
    unfold withinP at h
    split at h
    · cases h
    rename_i hx
    rw [if_neg (by omega)] at h
    by_cases q : x = k
    · rw [q, hki] at h
      exact within_le hP h
    · have hlt := hP x (by omega) (by omega)
      exact within_below hP hki hK h (hK x (by omega) h2) (by omega) h3
theorem within_out (hP : ∀ j : Int, 0 ≤ j → j < l.length → (rowAt l j).par < j) {i : Int} {e : Int} : ∀ {n : Nat} {x o : Int}, (∀ y, e ≤ y → y ≤ x → (rowAt l y).par < i ∨ e ≤ (rowAt l y).par) → withinP l n x o = true → (e ≤ x ∨ x < i) → (e ≤ o ∨ o < i)
  | 0, x, o, hK, h, _ => by cases h
  | n + 1, x, o, hK, h, hx0 => by
    unfold withinP at h
    split at h
    · cases h
    rename_i hx
    split at h
    · rename_i q; rw [← q]; exact hx0
    · have hlt := hP x (by omega) (by omega)
      refine within_out hP (fun y a c => hK y a (by omega)) h ?_
      rcases hx0 with q | q
      · exact (hK x q (Int.le_refl _)).symm
      · right; omega
theorem no_kid (hP : ∀ j : Int, 0 ≤ j → j < l.length → (rowAt l j).par < j) (hW : ∀ j : Int, 0 < j → j < l.length → withinP l l.length (j - 1) (rowAt l j).par = true) {i e : Int} (he0 : 0 < e) (he : (rowAt l e).par < i) : ∀ (n : Nat) (j : Int), j = e + n → j < l.length → (rowAt l j).par < i ∨ e ≤ (rowAt l j).par := by
  intro n
  induction n using Nat.strongRecOn with
  | ind n ih =>
    intro j hj hl
    by_cases h0 : n = 0
    · left; rw [hj, h0]; simpa using he
    · have := within_out hP (i := i) (e := e) (fun y a c => ih (y - e).toNat (by omega) y (by omega) (by omega)) (hW j (by omega) hl) (.inl (by omega))
      exact this.symm
theorem go_told {t' : Tk} {m' : Mc} (h : stp P F t m = .go t' m') : m'.rows = m.rows ∨ ((insAt P t.f).getD 0 0 = 12 ∧ ¬ (fPlain t.f (insAt P t.f)).2 = true ∧ m'.rows = (m.told t.row (t.sc.headD (false, 0)).1).rows) := by
  unfold stp at h
  split at h
  · cases h
  split at h
  · cases h
  split at h
  · cases h
  split at h
  · cases h; exact .inl rfl
  rename_i hpl
  unfold act at h
  split at h
  · cases h
  split at h
  · split at h
    · cases h
    · cases h; exact .inl rfl
  split at h
  · cases h; exact .inl rfl
  split at h
  · rename_i h12; cases h; exact .inr ⟨h12, hpl, rfl⟩
  split at h
  · cases h; exact .inl rfl
  split at h
  · cases h; exact .inl rfl
  · cases h
theorem close_head {row : Int} {r1 : Rn} {b1 : Bk} (h12 : (insAt P r.f).getD 0 0 = 12) (hpl : ¬ (fPlain r.f (insAt P r.f)).2 = true) (hq : (b.s r.last).2 = false) (hs : fstp P l true row r b = some (r1, b1)) : ∃ c cs, r.cl = c :: cs ∧ (c == 49) = false := by
  unfold fstp at hs
  split at hs
  · cases hs
  unfold fact at hs
  rw [if_neg (by omega), if_neg (by omega), if_neg (by omega), if_pos h12] at hs
  split at hs
  · cases hs
  · rename_i c cs hc
    refine ⟨c, cs, hc, ?_⟩
    split at hs
    · cases hs
    · rename_i hn
      rw [hq] at hn
      cases e : (c == 49) with
      | false => rfl
      | true => rw [e] at hn; simp at hn
end
end Go.Proofs.YtgkfbagclkjilaaGreatDoor.Ft
namespace Go.Proofs.YtgkfbagclkjilaaGreatDoor.Ft
open Go Go.Ev Go.Proofs Go.Proofs.YtgkfbagclkjilaaGreatDoor
open Go.Proofs.YtgkfbagclkjilaaGreatDoor.Fr (fTo fOn fPlain fForked fJoined fClosed fChild fRoot fR isB fTo_len fOn_len fPlain_len fForked_len fJoined_len fClosed_len)
open Go.Proofs.YtgkfbagclkjilaaGreatDoor.Ck (opI Walk Accs needsOf isGoes heldL depths stepD handlesOk subBits scopesOk forks)
section
variable {P : List FnR} {F : Int} {t : Tk} {m : Mc} {R : List Rw} {inn : Int × Int} {r : Rn} {b : Bk} {l : List Rb}
def sumF (l : List Rb) (a : Nat) : Int := ((l.drop a).map Rb.steps).sum
theorem sumF_at {a : Nat} (h : a < l.length) : sumF l a = (rowAt l (a : Int)).steps + sumF l (a + 1) := by
  unfold sumF
  rw [List.drop_eq_getElem_cons h, List.map_cons, List.sum_cons]
  unfold rowAt
  rw [Int.toNat_natCast, List.getD_eq_getElem?_getD, List.getElem?_eq_getElem h]; rfl
theorem sumF_nonneg (h : ∀ i : Nat, i < l.length → 0 ≤ (rowAt l (i : Int)).steps) : ∀ (n a : Nat), a + n = l.length → 0 ≤ sumF l a
  | 0, a, e => by unfold sumF; rw [List.drop_of_length_le (by omega)]; exact Int.le_refl _
  | n + 1, a, e => by
    rw [sumF_at (by omega)]
    have := sumF_nonneg h n (a + 1) (by omega)
    have := h a (by omega)
    omega
theorem sumF_end {a : Nat} (h : l.length ≤ a) : sumF l a = 0 := by unfold sumF; rw [List.drop_of_length_le h]; rfl
theorem kidsR_mem {row : Int} : ∀ {n a : Nat} {x : Int}, x ∈ kidsR l row a n → (a : Int) ≤ x ∧ x < a + n ∧ (rowAt l x).par = row
  | 0, a, x, h => by cases h
  | n + 1, a, x, h => by
    unfold kidsR at h
    split at h
    · rename_i e
      rcases List.mem_cons.1 h with rfl | h
      · exact ⟨Int.le_refl _, by omega, e⟩
      · have := kidsR_mem h; exact ⟨by omega, by omega, this.2.2⟩
    · have := kidsR_mem h; exact ⟨by omega, by omega, this.2.2⟩
theorem rw_ext {a b : Rw} (h1 : a.par = b.par) (h2 : a.inn = b.inn) (h3 : a.fn = b.fn) (h4 : a.kind = b.kind) (h5 : a.v = b.v) (h6 : a.steps = b.steps) (h7 : a.cl = b.cl) : a = b := by
  cases a; cases b; simp only at h1 h2 h3 h4 h5 h6 h7; subst h1 h2 h3 h4 h5 h6 h7; rfl
theorem fin_step (hA : Accs P) (hI : Inv P t m) {m' : Mc} (h : stp P F t m = .fin m') (ho : t.off = false) (hM : Mt R t m inn r b) (hE : ∀ j, Ended m.rows j → R[j]? = m.rows[j]?) :
    ∃ f' kind v, m' = ({ m with steps := m.steps + 1 } : Mc).fin t.row f' kind v ∧ fstp P (R.map toRb) true t.row r b = some ({ r with f := f', kind := kind, v := v }, b) ∧ kind ≠ 0 ∧ f'.getD 18 0 = IntKind.i64.wrap (t.f.getD 18 0 + 1) := by
  obtain ⟨g, hv, ha⟩ := hI.at hA
  obtain ⟨hp0, hp1⟩ := at_pc ha
  unfold stp at h
  split at h
  · rename_i hb; rw [ho] at hb; simp at hb
  split at h
  · cases h
  split at h
  · cases h
  split at h
  · cases h
  rename_i hpl
  unfold fstp
  rw [if_neg (by rw [hM.kind]; simp), hM.f, if_neg hpl]
  unfold act at h
  unfold fact
  split at h
  · cases h
  rename_i h8
  rw [if_neg h8]
  split at h
  · rename_i h9
    rw [if_pos h9]
    obtain ⟨h0, h1, h2, x, hx, hkx⟩ := at_join ha h9
    have ex : rOf (insAt P t.f) t { m with steps := m.steps + 1 } = x := by unfold rOf; rw [List.getD_eq_getElem?_getD]; dsimp only; rw [hx]; rfl
    have eR : rowAt (R.map toRb) (r.f.getD (10 + (hOf (insAt P t.f)).toNat) 0) = toRb x := by
      rw [hM.f, rowAt_int h2, List.getD_eq_getElem?_getD, hE _ ⟨x, hx, hkx⟩, hx]; rfl
    rw [eR]
    rw [ex] at h
    have hk2 : ¬ (toRb x).kind < 2 := by show ¬ x.kind < 2; omega
    rw [if_neg hk2]
    split at h
    · rename_i hb
      cases h
      have hb' : (fJoined r.f (insAt P t.f) (toRb x).kind (toRb x).v).2.2 = true := by rw [hM.f]; exact hb
      rw [if_pos hb']
      refine ⟨_, _, _, rfl, by rw [hM.f]; rfl, by decide, ?_⟩
      revert hb
      unfold Fr.fJoined
      split
      · intro q; cases q
      · split
        · intro q; cases q
        · split
          · intro q; cases q
          · intro _; exact fTo_st hI.len
    · cases h
  rename_i h9
  rw [if_neg h9]
  split at h
  · cases h
  rename_i h11
  rw [if_neg h11]
  split at h
  · cases h
  rename_i h12
  rw [if_neg h12]
  split at h
  · cases h
  rename_i h13
  rw [if_neg h13]
  split at h
  · cases h
  rename_i h14
  rw [if_neg h14]
  cases h
  have hr := Fr.chk_regs (chk_fr ha.chk)
  have hop := plain_not ha.chk (by simpa using hpl)
  have e3 : fR (fOn t.f) ((insAt P t.f).getD 1 0) = fR r.f ((insAt P t.f).getD 1 0) := by
    rw [hM.f]
    unfold fR fOn
    exact fTo_get (by omega) (by omega)
  refine ⟨_, _, _, rfl, by rw [e3, hM.f], by split <;> decide, (kp_on hI.len hp0 hp1).st⟩
theorem stp_bad' {e : Int} (h : stp P F t m = .bad e) : e = 23 ∨ m.steps ≥ F := by
  unfold stp at h
  split at h
  · cases h
  split at h
  · exact .inr (by assumption)
  split at h
  · cases h; exact .inl rfl
  split at h
  · cases h
  exact (act_steps.2.1 _ h).elim
theorem stp_plain8 {c : Tk} {m1 : Mc} {i : List Int} (h : stp P F t m = .fork c m1 i) : ¬ (fPlain t.f (insAt P t.f)).2 = true := by
  unfold stp at h
  split at h
  · cases h
  split at h
  · cases h
  split at h
  · cases h
  split at h
  · cases h
  · assumption
structure Sml (P : List FnR) (l : List Rb) (R : List Rw) (F : Int) (bk : Nat → Bk) (t : Tk) (m : Mc) (N : Nat) (rn re : Rn) (b : Bk) (inn : Int × Int) (A : Int) : Prop where
  inv : Inv P t m
  row : t.row < l.length
  off : t.off = false
  fl : ∀ y ∈ t.sc, y.1 = false
  mt : Mt R t m inn rn b
  kids : rn.kids = kidsR l t.row m.rows.length (l.length - m.rows.length)
  run : frun P l true t.row N rn b = some (re, bk (t.row + 1))
  rk : re.kids = []
  rc : re.cl = []
  rki : re.kind = (rowAt l t.row).kind
  rv : re.v = (rowAt l t.row).v
  st : (rowAt l t.row).steps = t.f.getD 18 0 + N
  s18 : 0 ≤ t.f.getD 18 0
  len : m.rows.length ≤ l.length
  rows : ∀ j, j < m.rows.length → (R.getD j r0).par = (m.rows.getD j r0).par ∧ (R.getD j r0).inn = (m.rows.getD j r0).inn ∧ (R.getD j r0).fn = (m.rows.getD j r0).fn
  ended : ∀ j, Ended m.rows j → R[j]? = m.rows[j]?
  k0 : (m.rows.getD t.row r0).kind = 0
  J : m.rows.length < l.length → (rowAt l m.rows.length).par ≤ t.row
  K : ∀ j : Int, (t.row : Int) < j → j < m.rows.length → (t.row : Int) ≤ (rowAt l j).par
  A0 : 0 ≤ A
  fuel : m.steps + N + sumF l m.rows.length + A = F
structure Out (l : List Rb) (R : List Rw) (F : Int) (row : Nat) (m : Mc) (A : Int) : Prop where
  len : m.rows.length ≤ l.length
  rows : ∀ j, j < m.rows.length → (R.getD j r0).par = (m.rows.getD j r0).par ∧ (R.getD j r0).inn = (m.rows.getD j r0).inn ∧ (R.getD j r0).fn = (m.rows.getD j r0).fn
  ended : ∀ j, Ended m.rows j → R[j]? = m.rows[j]?
  J : m.rows.length < l.length → (rowAt l m.rows.length).par < row
  K : ∀ j : Int, (row : Int) < j → j < m.rows.length → (row : Int) ≤ (rowAt l j).par
  fuel : m.steps + sumF l m.rows.length + A = F
structure Ctx (P : List FnR) (l : List Rb) (R : List Rw) (F : Int) (bk : Nat → Bk) : Prop where
  acc : Accs P
  needs : ∀ g ∈ P, InI g.needs
  plain : Ck.plainF P = true
  map : R.map toRb = l
  tr : ∀ i : Nat, i < l.length → TRow l i
  bk : ∀ j, j < l.length → Fits1 P l j (bk j) (bk (j + 1))
  F0 : F ≤ 1048576
variable {bk : Nat → Bk} {N : Nat} {re : Rn} {A : Int}
theorem Ctx.par (h : Ctx P l R F bk) : ∀ j : Int, 0 ≤ j → j < l.length → (rowAt l j).par < j := by
  intro j h0 h1
  by_cases e : j = 0
  · have hp := (tr_int h.tr h0 h1).place
    unfold tPlace at hp
    rw [if_pos e] at hp
    have : (rowAt l j).par = -1 := by simpa using hp
    omega
  · exact (row_par (tr_int h.tr h0 h1) e h0).2.1
theorem Ctx.within (h : Ctx P l R F bk) : ∀ j : Int, 0 < j → j < l.length → withinP l l.length (j - 1) (rowAt l j).par = true := by
  intro j h0 h1
  have hp := (tr_int h.tr (by omega) h1).place
  unfold tPlace at hp
  rw [if_neg (by omega)] at hp
  simp only [Bool.and_eq_true] at hp
  exact hp.2.2
theorem Ctx.row (h : Ctx P l R F bk) (j : Nat) : rowAt l (j : Int) = toRb (R.getD j r0) := by rw [← rowAt_toRb, h.map]
theorem Ctx.sum (h : Ctx P l R F bk) {a : Nat} (ha : a ≤ l.length) : 0 ≤ sumF l a := sumF_nonneg (fun i hi => (row_span (h.tr i hi)).2.2.2.2.2.1) (l.length - a) a (by omega)
theorem Sml.pos (hc : Ctx P l R F bk) (h : Sml P l R F bk t m N r re b inn A) : ∃ N', N = N' + 1 ∧ ∃ r1 b1, fstp P l true t.row r b = some (r1, b1) ∧ frun P l true t.row N' r1 b1 = some (re, bk (t.row + 1)) := by
  cases N with
  | zero =>
    exfalso
    have hr := h.run
    have hk := (hc.bk t.row h.row).kind
    cases hr
    have := h.rki
    rw [h.mt.kind] at this
    omega
  | succ N =>
    refine ⟨N, rfl, ?_⟩
    have hr := h.run
    rw [frun_succ] at hr
    split at hr
    · cases hr
    · rename_i r1 b1 hst
      exact ⟨r1, b1, hst, hr⟩
theorem not_ended (hk : (m.rows.getD t.row r0).kind = 0) : ¬ Ended m.rows t.row := by
  rintro ⟨x, hx, hk'⟩
  rw [List.getD_eq_getElem?_getD, hx] at hk
  simp only [Option.getD_some] at hk
  omega
theorem sim_fin (hc : Ctx P l R F bk) (h : Sml P l R F bk t m N r re b inn A) {m' : Mc} (hs : stp P F t m = .fin m') : Out l R F t.row m' A := by
  obtain ⟨N, rfl, r1, b1, hst, hrun⟩ := h.pos hc
  obtain ⟨f', kind, v, rfl, hf, hk, h18⟩ := fin_step hc.acc h.inv hs h.off h.mt h.ended
  rw [hc.map, hst] at hf
  cases hf
  have hN : N = 0 := by
    cases N with
    | zero => rfl
    | succ N => rw [frun_over hk] at hrun; cases hrun
  subst hN
  obtain ⟨e1, e2⟩ : re = { r with f := f', kind := kind, v := v } ∧ bk (t.row + 1) = b := by
    have : some ({ r with f := f', kind := kind, v := v }, b) = some (re, bk (t.row + 1)) := hrun
    cases this; exact ⟨rfl, rfl⟩
  have hrk := h.rk
  have hrc := h.rc
  have hki := h.rki
  have hrv := h.rv
  rw [e1] at hrk hrc hki hrv
  dsimp only at hrk hrc hki hrv
  rw [hc.row] at hki hrv
  have hst' := h.st
  have hs18 := h.s18
  have hspan := (row_span (hc.tr t.row h.row)).2.2.2.2.2.2
  rw [wrap_id ⟨by omega, by omega⟩] at h18
  rw [hc.row] at hst'
  have hcl := h.mt.cl
  rw [hrc, List.append_nil] at hcl
  have hcl := bytes_inj hcl
  obtain ⟨q1, q2, q3⟩ := h.rows t.row h.inv.row
  have hRr : R.getD t.row r0 = { m.rows.getD t.row r0 with kind := kind, v := v, steps := f'.getD 18 0 } := by
    refine rw_ext q1 q2 q3 hki.symm hrv.symm ?_ hcl.symm
    have hst' : (R.getD t.row r0).steps = _ := hst'
    rw [hst', h18]; rfl
  have hRl : R.length = l.length := by rw [← hc.map, List.length_map]
  have hrows : (({ m with steps := m.steps + 1 } : Mc).fin t.row f' kind v).rows = endRow m t.row (f'.getD 18 0) kind v := rfl
  have hg : ∀ j, j < m.rows.length → ((({ m with steps := m.steps + 1 } : Mc).fin t.row f' kind v).rows.getD j r0).par = (m.rows.getD j r0).par ∧ ((({ m with steps := m.steps + 1 } : Mc).fin t.row f' kind v).rows.getD j r0).inn = (m.rows.getD j r0).inn ∧ ((({ m with steps := m.steps + 1 } : Mc).fin t.row f' kind v).rows.getD j r0).fn = (m.rows.getD j r0).fn := by
    intro j hj
    rw [hrows]
    by_cases e : j = t.row
    · subst e
      rw [List.getD_eq_getElem?_getD, endRow_at h.inv.row]; exact ⟨rfl, rfl, rfl⟩
    · rw [List.getD_eq_getElem?_getD, endRow_ne e, ← List.getD_eq_getElem?_getD]; exact ⟨rfl, rfl, rfl⟩
  refine ⟨by rw [hrows, endRow_len]; exact h.len, fun j hj => ?_, fun j hj => ?_, fun hlt => ?_, fun j a c => ?_, ?_⟩
  · rw [hrows, endRow_len] at hj
    obtain ⟨a1, a2, a3⟩ := hg j hj
    obtain ⟨c1, c2, c3⟩ := h.rows j hj
    exact ⟨c1.trans a1.symm, c2.trans a2.symm, c3.trans a3.symm⟩
  · rw [hrows] at hj ⊢
    by_cases e : j = t.row
    · subst e
      rw [endRow_at h.inv.row, row_at (by rw [hRl]; exact h.row), hRr]
    · rw [endRow_ne e]
      obtain ⟨x, hx, hkx⟩ := hj
      rw [endRow_ne e] at hx
      exact h.ended j ⟨x, hx, hkx⟩
  · rw [hrows, endRow_len] at hlt ⊢
    have hJ := h.J hlt
    refine Classical.byContradiction fun q => ?_
    have e : (rowAt l m.rows.length).par = t.row := by omega
    have hkk := h.kids
    rw [hrk, show l.length - m.rows.length = (l.length - m.rows.length - 1) + 1 by omega] at hkk
    rw [kidsR_succ, if_pos e] at hkk
    cases hkk
  · rw [hrows, endRow_len] at c
    exact h.K j a c
  · have := h.fuel
    rw [hrows, endRow_len]
    show m.steps + 1 + _ + _ = _
    omega
theorem sim_go (hc : Ctx P l R F bk) (h : Sml P l R F bk t m N r re b inn A) {t' : Tk} {m' : Mc} (hs : stp P F t m = .go t' m') : ∃ N' r1 b1, Sml P l R F bk t' m' N' r1 re b1 inn A := by
  obtain ⟨N, rfl, r1, b1, hst, hrun⟩ := h.pos hc
  obtain ⟨g1, g2, g3, _, g5⟩ := stp_go hs
  obtain ⟨hr, h18, _, hfl⟩ := go_how hc.acc h.inv hs
  have hI := (inv_go hc.acc h.inv hs).1
  have hst' := h.st
  have hs18 := h.s18
  have hspan := (row_span (hc.tr t.row h.row)).2.2.2.2.2.2
  rw [wrap_id ⟨by omega, by omega⟩] at h18
  have hhd : (t.sc.headD (false, 0)).1 = false := by
    cases e : t.sc with
    | nil => rfl
    | cons y z => exact h.fl y (by rw [e]; simp)
  have hl : m'.rows.length = m.rows.length := by rcases hr with hr | ⟨y, hr, _⟩ <;> rw [hr]; rw [told_len']
  have hp : (m'.rows.getD t.row r0).cl <+: (R.getD t.row r0).cl := by
    rcases go_told hs with e | ⟨h12, hpl, e⟩
    · rw [e]; exact prefix_bytes h.mt.cl
    · rw [List.getD_eq_getElem?_getD, e, told_at h.inv.row]
      obtain ⟨c, cs, hcc, hc49⟩ := close_head (by rw [h.mt.f]; exact h12) (by rw [h.mt.f]; exact hpl) (by rw [h.mt.s2]; exact hhd) hst
      have hmc := h.mt.cl
      rw [hcc] at hmc
      have h48 : c = 48 := by
        have hto := (hc.tr t.row h.row).told
        rw [hc.row] at hto
        have hto : is01 (told (R.getD t.row r0).cl) = true := hto
        unfold is01 at hto
        rw [told_bytes, ← hmc, List.all_eq_true] at hto
        have := hto c (by simp)
        rw [hc49, Bool.or_false, beq_iff_eq] at this
        exact this
      refine prefix_bytes (k := cs) ?_
      show bytes ((m.rows.getD t.row r0).cl ++ [(t.sc.headD (false, 0)).1]) ++ cs = _
      rw [bytes_app, hhd, ← hmc, h48]
      simp [bytes]
  obtain ⟨r1', b1', q1, q2, q3, q4, q5, q6⟩ := go_fits hc.acc h.inv hs h.mt h.ended hp
  rw [hc.map, hst] at q1
  cases q1
  have hno : (insAt P t.f).getD 0 0 ≠ 13 := by
    obtain ⟨g, hv, ha⟩ := h.inv.at hc.acc
    have h1 : ∀ f ∈ P, ∀ x ∈ f.code, Ck.plainI x = true := by
      have hp := hc.plain
      unfold Ck.plainF at hp
      intro f hf x hx
      exact List.all_eq_true.1 (List.all_eq_true.1 hp f hf) x hx
    have := h1 g (List.mem_of_getElem? ha.at0) _ (List.mem_of_getElem? ha.ins)
    intro q
    unfold Ck.plainI opI at this
    rw [q] at this
    cases this
  have hne := not_ended h.k0
  have hsame : ∀ j, j < m.rows.length → (m'.rows.getD j r0).par = (m.rows.getD j r0).par ∧ (m'.rows.getD j r0).inn = (m.rows.getD j r0).inn ∧ (m'.rows.getD j r0).fn = (m.rows.getD j r0).fn ∧ (m'.rows.getD j r0).kind = (m.rows.getD j r0).kind := by
    intro j hj
    rcases hr with hr | ⟨y, hr, _⟩
    · rw [hr]; exact ⟨rfl, rfl, rfl, rfl⟩
    · by_cases e : j = t.row
      · subst e
        rw [List.getD_eq_getElem?_getD, hr, told_at h.inv.row]; exact ⟨rfl, rfl, rfl, rfl⟩
      · rw [List.getD_eq_getElem?_getD, hr, told_ne e, ← List.getD_eq_getElem?_getD]; exact ⟨rfl, rfl, rfl, rfl⟩
  refine ⟨N, r1, b1, hI, by rw [g3]; exact h.row, by rw [g5]; exact h.off, fun y hy => ?_, q2, by rw [q3, g3, hl]; exact h.kids, by rw [g3]; exact hrun, h.rk, h.rc, by rw [g3]; exact h.rki, by rw [g3]; exact h.rv, by rw [g3, h18]; omega, by omega, by rw [hl]; exact h.len, fun j hj => ?_, fun j hj => ?_, ?_, by rw [hl, g3]; exact h.J, by rw [hl, g3]; exact h.K, h.A0, ?_⟩
  · rcases hfl with q | q
    · cases e : y.1 with
      | false => rfl
      | true =>
        obtain ⟨z, hz, hz1⟩ := q y hy e
        rw [h.fl z hz] at hz1; cases hz1
    · exact absurd q hno
  · obtain ⟨a1, a2, a3, _⟩ := hsame j (by omega)
    obtain ⟨c1, c2, c3⟩ := h.rows j (by omega)
    exact ⟨c1.trans a1.symm, c2.trans a2.symm, c3.trans a3.symm⟩
  · rcases hr with hr | ⟨y, hr, _⟩
    · rw [hr] at hj ⊢; exact h.ended j hj
    · have hjne : j ≠ t.row := fun e => by
        subst e
        obtain ⟨x, hx, hkx⟩ := hj
        rw [hr, told_at h.inv.row] at hx
        cases hx
        have := h.k0
        dsimp only at hkx; omega
      obtain ⟨x, hx, hkx⟩ := hj
      rw [hr, told_ne hjne] at hx ⊢
      exact h.ended j ⟨x, hx, hkx⟩
  · rw [g3]
    rw [(hsame t.row h.inv.row).2.2.2]; exact h.k0
  · have := h.fuel
    rw [hl, g2]; omega
theorem sim_fork (hc : Ctx P l R F bk) (h : Sml P l R F bk t m N r re b inn A) {c : Tk} {m1 : Mc} {i : List Int} (hs : stp P F t m = .fork c m1 i) :
    ∃ (N' : Nat) (A' : Int) (Nc : Nat) (rc rce : Rn) (bc : Bk) (ic : Int × Int), Sml P l R F bk c m1 Nc rc rce bc ic A' ∧
      ∀ m2, Goes P F c m1 (.ok m2) → Out l R F c.row m2 A' → ∃ r1 b1, Sml P l R F bk { t with f := fForked t.f i c.row } m2 N' r1 re b1 inn A := by
  obtain ⟨N, rfl, r1, b1, hst, hrun⟩ := h.pos hc
  have hA := hc.acc
  have hN := hc.needs
  have hI := h.inv
  obtain ⟨g, hv, ha⟩ := hI.at hA
  obtain ⟨hp0, hp1⟩ := at_pc ha
  obtain ⟨k1, k2⟩ := inv_child hA hN hI hs
  obtain ⟨g1, g2, gi, g8, _, hcc, hrows⟩ := stp_fork hs
  have hrow := hI.row
  have hl1 : m1.rows.length = m.rows.length + 1 := by rw [hrows]; simp
  have hcr : c.row = m.rows.length := by rw [hcc]
  have hst' := h.st
  have hs18 := h.s18
  have hspan := (row_span (hc.tr t.row h.row)).2.2.2.2.2.2
  have h18 := (forked_get (id := (c.row : Int)) ha.chk (by rw [← gi]; exact g8) hI.len hp0 hp1).2.2.2.1
  rw [← gi, wrap_id ⟨by omega, by omega⟩] at h18
  have hc18 : c.f.getD 18 0 = 0 := by rw [hcc]; exact (child_get hI.len).2.2.2.1
  have hc0 : c.f.getD 0 0 = i.getD 4 0 := by rw [hcc]; exact (child_get hI.len).2.1
  have hpl := stp_plain8 hs
  have hRl : R.length = l.length := by rw [← hc.map, List.length_map]
  -- the kid is the next row
  obtain ⟨k, kr, hkk⟩ : ∃ k kr, r.kids = k :: kr := by
    cases hk : r.kids with
    | nil =>
      exfalso
      unfold fstp at hst
      rw [if_neg (by rw [h.mt.kind]; simp), h.mt.f, if_neg hpl] at hst
      unfold fact at hst
      rw [← gi, if_pos g8, hk] at hst
      cases hst
    | cons k kr => exact ⟨k, kr, rfl⟩
  have hkm : k ∈ kidsR l t.row m.rows.length (l.length - m.rows.length) := by rw [← h.kids, hkk]; simp
  obtain ⟨hk1, hk2, hk3⟩ := kidsR_mem hkm
  have hlt : m.rows.length < l.length := by omega
  have hparm : (rowAt l m.rows.length).par = t.row := by
    refine Classical.byContradiction fun q => ?_
    have hJ := h.J hlt
    have hne : k ≠ m.rows.length := fun e => q (by rw [← e]; exact hk3)
    have := no_kid hc.par hc.within (i := (t.row : Int)) (e := (m.rows.length : Int)) (by omega) (by omega) (k - m.rows.length).toNat k (by omega) (by omega)
    rw [hk3] at this
    omega
  have hkids : r.kids = (m.rows.length : Int) :: kidsR l t.row (m.rows.length + 1) (l.length - m.rows.length - 1) := by
    rw [h.kids, show l.length - m.rows.length = (l.length - m.rows.length - 1) + 1 by omega]
    rw [kidsR_succ, if_pos hparm]
    rfl
  have hff := fork_fits (q := true) (l := l) hs h.mt hkids
  rw [hst] at hff
  obtain ⟨e1, e2⟩ := Prod.mk.inj (Option.some.inj hff)
  -- what the kid begins with
  have hno : (m.rows.length : Int) ∉ kidsR l t.row (m.rows.length + 1) (l.length - m.rows.length - 1) := fun q => by have := kidsR_le q; omega
  have hbeg1 : (bk (t.row + 1)).beg (m.rows.length : Int) = some (c.f, ((t.row : Int), (t.sc.headD (false, 0)).2)) := by
    rw [frun_nok hrun (by rw [e1]; exact hno), e2]
    show upd _ _ _ _ = _
    unfold upd; rw [if_pos rfl]
  have hbeg : (bk m.rows.length).beg (m.rows.length : Int) = some (c.f, ((t.row : Int), (t.sc.headD (false, 0)).2)) := by
    have := beg_keep (l := l) (P := P) (bk := bk) (L := l.length) hc.bk (k := (m.rows.length : Int)) (a := t.row + 1) (d := m.rows.length - (t.row + 1)) (by omega) (fun j a c q => by
      have := (mem_kids.1 q).2.2
      rw [hparm] at this; omega)
    rw [show t.row + 1 + (m.rows.length - (t.row + 1)) = m.rows.length by omega] at this
    rw [this, hbeg1]
  have hfk := hc.bk m.rows.length hlt
  obtain ⟨x, r', hx, hfn, hinn, hrunc, hrk, hrc, hrki, hrv⟩ := hfk.how
  rw [hbeg] at hx
  cases hx
  dsimp only at hfn hinn hrunc
  have hcast : (c.row : Int) = (m.rows.length : Int) := by rw [hcr]
  have hsteps := (row_span (hc.tr m.rows.length hlt)).2.2.2.2.2.1
  have em1 : m1.rows.getD c.row r0 = ⟨t.row, (t.sc.headD (false, 0)).2, i.getD 4 0, 0, 0, 0, []⟩ := by rw [hrows, hcr]; simp [List.getD_eq_getElem?_getD]
  have erow := hc.row m.rows.length
  refine ⟨N, A + N, (rowAt l (m.rows.length : Int)).steps.toNat, rn0 l (m.rows.length : Int) (c.f, ((t.row : Int), (t.sc.headD (false, 0)).2)), r', { bk m.rows.length with sc := upd (bk m.rows.length).sc ((m.rows.length : Int), 0) (((t.row : Int), (t.sc.headD (false, 0)).2), false) }, ((t.row : Int), (t.sc.headD (false, 0)).2), ?_, fun m2 hG hO => ?_⟩
  · refine ⟨k1, by rw [hcr]; exact hlt, ?_, ?_, ?_, ?_, ?_, hrk, hrc, by rw [hcast]; exact hrki, by rw [hcast]; exact hrv, ?_, by rw [hc18]; exact Int.le_refl _, by omega, fun j hj => ?_, fun j hj => ?_, by rw [em1], fun hq => ?_, fun j a d => by omega, ?_, ?_⟩
    · rw [hcc]; dsimp only
      rw [h.off, Bool.false_or, List.any_eq_false]
      intro y hy; rw [h.fl y hy]; decide
    · rw [hcc]; intro y hy; simp at hy; rw [hy]
    · refine ⟨rfl, rfl, by rw [hcc]; rfl, by rw [hcc]; rfl, ?_, ?_, fun k' hk' => ?_, ?_⟩
      · rw [hcast, hcc]
        refine ⟨rfl, ?_⟩
        show upd _ _ _ _ = _
        unfold upd; rw [if_pos rfl]
      · rw [hcc]; intro y hy; simp at hy; subst hy; exact Int.le_refl _
      · rw [hcast]
        have hk' : 0 < k' := by rw [hcc] at hk'; exact hk'
        show upd _ _ _ _ = _
        unfold upd
        rw [if_neg (fun e => by have e2 := congrArg Prod.snd e; dsimp only at e2; omega)]
        exact hfk.ahead.new _ k' (Int.le_refl _)
      · rw [em1]
        show [] ++ (rowAt l (m.rows.length : Int)).cl.data.toList = _
        rw [erow, hcr]
        show (told (R.getD m.rows.length r0).cl).data.toList = _
        rw [told_bytes]
    · show kidsL l (m.rows.length : Int) = _
      rw [kids_R, hcast]
      have := kidsR_skip (l := l) (row := (m.rows.length : Int)) (n := l.length - m1.rows.length) (k := m1.rows.length) (a := 0) (fun j _ hj => by
        have := hc.par j (by omega) (by omega)
        omega)
      rw [show m1.rows.length + (l.length - m1.rows.length) = l.length by omega, Nat.zero_add] at this
      exact this
    · rw [hcast, hcr]; exact hrunc
    · rw [hcast, hc18, Int.toNat_of_nonneg hsteps]; omega
    · by_cases q : j = m.rows.length
      · subst q
        rw [← hcr, em1, hcr]
        have e3 : (R.getD m.rows.length r0).par = t.row := by have := hparm; rw [erow] at this; exact this
        have e4 : (R.getD m.rows.length r0).inn = (t.sc.headD (false, 0)).2 := by rw [erow] at hinn; exact hinn
        have e5 : (R.getD m.rows.length r0).fn = i.getD 4 0 := by rw [erow, hc0] at hfn; exact hfn
        exact ⟨e3, e4, e5⟩
      · have : m1.rows.getD j r0 = m.rows.getD j r0 := by rw [List.getD_eq_getElem?_getD, hrows, List.getElem?_append_left (by omega), ← List.getD_eq_getElem?_getD]
        rw [this]; exact h.rows j (by omega)
    · have hjl : j < m.rows.length := by
        obtain ⟨y, hy, hky⟩ := hj
        have h1 := (List.getElem?_eq_some_iff.1 hy).1
        refine Classical.byContradiction fun q => ?_
        have : j = m.rows.length := by omega
        rw [this, hrows] at hy
        simp at hy; subst hy
        dsimp only at hky; omega
      obtain ⟨y, hy, hky⟩ := hj
      rw [hrows, List.getElem?_append_left hjl] at hy ⊢
      exact h.ended j ⟨y, hy, hky⟩
    · rw [hl1] at hq ⊢
      have := hc.par ((m.rows.length + 1 : Nat) : Int) (by omega) (by omega)
      rw [hcast]; omega
    · have := h.A0; omega
    · have := h.fuel
      rw [sumF_at hlt] at this
      rw [g2, hl1, Int.toNat_of_nonneg hsteps]; push_cast at this ⊢; omega
  · obtain ⟨k3, k4⟩ := goes_more hA hN hG rfl k1
    obtain ⟨k5, k6⟩ := inv_forked hA hI hs k3 k4
    have hl2 := k3.1
    have hkeep := goes_keep hA hN hG rfl k1 t.row (by omega) (by omega)
    have em2 : m2.rows.getD t.row r0 = m.rows.getD t.row r0 := by rw [List.getD_eq_getElem?_getD, hkeep, hrows, List.getElem?_append_left hrow, List.getD_eq_getElem?_getD]
    have hOl := hO.len
    have hOK := hO.K
    rw [hcr] at hOK
    refine ⟨r1, b1, k5, h.row, h.off, h.fl, ?_, ?_, hrun, h.rk, h.rc, h.rki, h.rv, by dsimp only; rw [h18]; omega, by dsimp only; omega, hOl, hO.rows, hO.ended, by rw [em2]; exact h.k0, fun hq => ?_, fun j a d => ?_, h.A0, ?_⟩
    · rw [e1, e2]
      exact ⟨rfl, h.mt.kind, h.mt.last, h.mt.op, h.mt.own, h.mt.top, h.mt.new, by dsimp only; rw [em2]; exact h.mt.cl⟩
    · rw [e1]
      dsimp only
      have := kidsR_skip (l := l) (row := (t.row : Int)) (n := l.length - m2.rows.length) (k := m2.rows.length - m1.rows.length) (a := m.rows.length + 1) (fun j a1 a2 => by
        have := hOK j (by omega) (by omega)
        omega)
      rw [show m2.rows.length - m1.rows.length + (l.length - m2.rows.length) = l.length - m.rows.length - 1 by omega, show m.rows.length + 1 + (m2.rows.length - m1.rows.length) = m2.rows.length by omega] at this
      exact this
    · have hJ2 := hO.J hq
      rw [hcr] at hJ2
      have hw := hc.within (m2.rows.length : Int) (by omega) (by omega)
      exact within_below hc.par (k := (m.rows.length : Int)) hparm (e := (m2.rows.length : Int)) (fun j a d => hOK j a d) hw (by omega) (by omega) hJ2
    · dsimp only at a ⊢
      by_cases q1 : j < m.rows.length
      · exact h.K j a q1
      · by_cases q2 : j = m.rows.length
        · rw [q2, hparm]; exact Int.le_refl _
        · have := hOK j (by omega) d; omega
    · have := hO.fuel
      omega
theorem goes_only (hc : Ctx P l R F bk) {r : Res} (hG : Goes P F t m r) : ∀ {N : Nat} {rn re : Rn} {b : Bk} {inn : Int × Int} {A : Int}, Sml P l R F bk t m N rn re b inn A → r = .bad 23 ∨ ∃ m', r = .ok m' ∧ Out l R F t.row m' A := by
  induction hG with
  | fin h => intro N rn re b inn A hS; exact .inr ⟨_, rfl, sim_fin hc hS h⟩
  | bad h =>
    intro N rn re b inn A hS
    rcases stp_bad' h with rfl | q
    · exact .inl rfl
    · exfalso
      obtain ⟨N, rfl, _⟩ := hS.pos hc
      have := hS.fuel
      have := hS.A0
      have := hc.sum hS.len
      omega
  | go h _ ih =>
    intro N rn re b inn A hS
    obtain ⟨N', r1, b1, hS'⟩ := sim_go hc hS h
    have := ih hS'
    rw [(stp_go h).2.2.1] at this
    exact this
  | forkBad h _ ih =>
    intro N rn re b inn A hS
    obtain ⟨N', A', Nc, rc, rce, bc, ic, hSc, _⟩ := sim_fork hc hS h
    rcases ih hSc with q | ⟨m', q, _⟩
    · exact .inl q
    · cases q
  | fork h h1 _ ih1 ih2 =>
    intro N rn re b inn A hS
    obtain ⟨N', A', Nc, rc, rce, bc, ic, hSc, hrest⟩ := sim_fork hc hS h
    rcases ih1 hSc with q | ⟨m', q, hO⟩
    · cases q
    · cases q
      obtain ⟨r1, b1, hS2⟩ := hrest _ h1 hO
      exact ih2 hS2
theorem only_fits (hA : Accs P) (hN : ∀ g ∈ P, InI g.needs) (hp : Ck.plainF P = true) (hd : ∀ i : Nat, i < l.length → 2 ≤ (rowAt l (i : Int)).kind) (hq : (fitsF P l true).2 = 0) (hF : F = sumF l 0) (hF0 : F ≤ 1048576) {r : Res} (hG : Goes P F t0 m0 r) :
    r = .bad 23 ∨ ∃ m', r = .ok m' ∧ m'.rows.map toRb = l ∧ m'.steps = F := by
  obtain ⟨hz, hgo⟩ : tcheck l = 0 ∧ fgo P l true l.length 0 bk0 = (0, 0) := by
    unfold fitsF at hq
    rw [if_neg (by rw [Ck.accs_iff.2 hA]; simp)] at hq
    split at hq
    · rename_i h2; exact absurd hq h2
    rename_i h2
    refine ⟨by simpa using h2, ?_⟩
    rcases fgo_ends (P := P) (l := l) (q := true) (n := l.length) (i := 0) (b := bk0) with q | ⟨j, _, _, q⟩
    · exact q
    · rw [q] at hq; cases hq
  obtain ⟨hl0, hR⟩ := tcheck_row hz
  have hA0 : Ahead P l 0 bk0 := ⟨bi_root hA hN, known_root hR, (fun s x hx => by cases hx), fun _ _ _ => rfl⟩
  obtain ⟨bk, e0, hbk⟩ := fits_books hA hN hp hR hd l.length 0 bk0 (by omega) hA0 hgo
  have hmap : (l.map ofRb).map toRb = l := by
    rw [List.map_map]
    conv => rhs; rw [← List.map_id l]
    refine List.map_congr_left fun x hx => ?_
    obtain ⟨i, hi, rfl⟩ := List.getElem_of_mem hx
    have := (hR i hi).told
    unfold rowAt at this
    rw [Int.toNat_natCast, List.getD_eq_getElem?_getD, List.getElem?_eq_getElem hi] at this
    exact toRb_of this
  have hc : Ctx P l (l.map ofRb) F bk := ⟨hA, hN, hp, hmap, hR, fun j hj => hbk j (Nat.zero_le _) hj, hF0⟩
  have hfk := hbk 0 (Nat.le_refl _) (by omega)
  rw [e0] at hfk
  obtain ⟨x, r', hx, hfn, hinn, hrunc, hrk, hrc, hrki, hrv⟩ := hfk.how
  have hx0 : x = (fRoot, (-1, 0)) := by
    have h1 : bk0.beg ((0 : Nat) : Int) = some (fRoot, (-1, 0)) := rfl
    rw [h1] at hx; cases hx; rfl
  subst hx0
  have hsteps := (row_span (hR 0 (by omega))).2.2.2.2.2.1
  have erow := hc.row 0
  have hp0 : ((l.map ofRb).getD 0 r0).par = -1 := by
    have hpp := (hR 0 (by omega)).place
    unfold tPlace at hpp
    rw [if_pos (by simp), erow, beq_iff_eq] at hpp
    exact hpp
  have hS : Sml P l (l.map ofRb) F bk t0 m0 (rowAt l ((0 : Nat) : Int)).steps.toNat (rn0 l ((0 : Nat) : Int) (fRoot, (-1, 0))) r' { bk0 with sc := upd bk0.sc (((0 : Nat) : Int), 0) ((-1, 0), false) } (-1, 0) 0 := by
    refine ⟨inv_root hA hN, by show 0 < l.length; omega, rfl, fun y hy => by simp [t0] at hy; rw [hy], ?_, ?_, hrunc, hrk, hrc, hrki, hrv, ?_, by decide, by show 1 ≤ l.length; omega, fun j hj => ?_, fun j hj => ?_, rfl, fun hq => ?_, fun j a d => ?_, Int.le_refl _, ?_⟩
    · refine ⟨rfl, rfl, rfl, rfl, ⟨rfl, ?_⟩, fun y hy => by simp [t0] at hy; subst hy; exact Int.le_refl _, fun k' hk' => ?_, ?_⟩
      · show upd bk0.sc (((0 : Nat) : Int), (0 : Int)) ((-1, 0), false) (((0 : Nat) : Int), (0 : Int)) = some ((-1, 0), false)
        unfold upd; rw [if_pos rfl]
      · show upd bk0.sc (((0 : Nat) : Int), (0 : Int)) ((-1, 0), false) (((0 : Nat) : Int), k') = none
        unfold upd
        have hk' : 0 < k' := hk'
        rw [if_neg (fun e => by have e2 := congrArg Prod.snd e; dsimp only at e2; omega)]
        rfl
      · show [] ++ (rowAt l ((0 : Nat) : Int)).cl.data.toList = _
        rw [erow]
        show (told ((l.map ofRb).getD 0 r0).cl).data.toList = _
        rw [told_bytes]; rfl
    · show kidsL l ((0 : Nat) : Int) = _
      rw [kids_R]
      have := kidsR_skip (l := l) (row := ((0 : Nat) : Int)) (n := l.length - 1) (k := 1) (a := 0) (fun j _ hj => by
        have := hc.par j (by omega) (by omega)
        omega)
      rw [show 1 + (l.length - 1) = l.length by omega] at this
      exact this
    · show (rowAt l ((0 : Nat) : Int)).steps = (0 : Int) + _
      rw [Int.toNat_of_nonneg hsteps]; omega
    · have hj0 : j = 0 := by have : j < 1 := hj; omega
      subst hj0
      refine ⟨hp0, ?_, ?_⟩
      · have := hinn; rw [erow] at this; exact this
      · have := hfn; rw [erow] at this; exact this
    · exfalso
      obtain ⟨y, hy, hky⟩ := hj
      have h1 := (List.getElem?_eq_some_iff.1 hy).1
      have hj0 : j = 0 := by have : j < 1 := h1; omega
      subst hj0
      have hy : some (⟨-1, 0, 0, 0, 0, 0, []⟩ : Rw) = some y := hy
      cases hy
      dsimp only at hky; omega
    · have := hc.par 1 (by omega) (by have : 1 < l.length := hq; omega)
      show (rowAt l ((1 : Nat) : Int)).par ≤ 0
      have e : ((1 : Nat) : Int) = 1 := rfl
      rw [e]; omega
    · have d : j < 1 := d
      have a : 0 < j := a
      omega
    · show (0 : Int) + _ + sumF l 1 + 0 = F
      have h01 : sumF l 0 = (rowAt l ((0 : Nat) : Int)).steps + sumF l 1 := sumF_at (by omega)
      rw [hF, h01, Int.toNat_of_nonneg hsteps]; omega
  rcases goes_only hc hG hS with q | ⟨m', q, hO⟩
  · exact .inl q
  · refine .inr ⟨m', q, ?_⟩
    subst q
    obtain ⟨hm, hend0⟩ := goes_more hA hN hG rfl (inv_root hA hN)
    have hends := goes_ends hA hN hG rfl (inv_root hA hN)
    have hlen1 : 1 ≤ m'.rows.length := hm.1
    have hlen : m'.rows.length = l.length := by
      refine Classical.byContradiction fun e => ?_
      have hlt : m'.rows.length < l.length := by have := hO.len; omega
      have h1 := hO.J hlt
      have h2 := (row_par (hR m'.rows.length hlt) (by omega) (by omega)).1
      have h1 : (rowAt l (m'.rows.length : Int)).par < 0 := h1
      omega
    have heq : m'.rows = l.map ofRb := by
      refine List.ext_getElem? fun j => ?_
      by_cases hj : j < m'.rows.length
      · refine (hO.ended j ?_).symm
        by_cases e : j = 0
        · rw [e]; exact hend0
        · exact hends j (by show 1 ≤ j; omega) hj
      · rw [List.getElem?_eq_none (by omega), List.getElem?_eq_none (by rw [List.length_map]; omega)]
    refine ⟨by rw [heq]; exact hmap, ?_⟩
    have := hO.fuel
    rw [sumF_end (by omega)] at this
    omega
end
end Go.Proofs.YtgkfbagclkjilaaGreatDoor.Ft
namespace Go.Proofs.YtgkfbagclkjilaaGreatDoor
open Go Go.Ev
def pelotonlaw08_FitsOnly_b (pelotonlaw08_Short : Array Value → Sl → World → ((Bool) → World → Prop) → Prop) (check_Plain : Array Value → World → ((Bool) → World → Prop) → Prop) (table_Done : Sl → World → ((Bool) → World → Prop) → Prop) (pelotonlaw08_awake : World → ((Bool) → World → Prop) → Prop) (fits_Quiet : Array Value → Sl → World → ((Int × Int) → World → Prop) → Prop) (pelotonlaw08_steps : Sl → World → ((Int) → World → Prop) → Prop) (serial_Run : Array Value → Int → World → ((Sl × Int × Int) → World → Prop) → Prop) (pelotonlaw06_Rows : Sl → Sl → World → ((Bool) → World → Prop) → Prop) (p_0 : Array Value) (l_1 : Sl) (w : World) (k : (Bool) → World → Prop) : Prop :=
 newC w p_0 24 fun a1 w2 =>
 joinP (S := Bool) (fun J3 =>
 ldA 1 w2 a1 fun cs4 =>
 pelotonlaw08_Short cs4 l_1 w2 fun b5 w6 =>
 iteB (!b5) (
 (J3 true w6)) (
 ldA 1 w6 a1 fun cs7 =>
 check_Plain cs7 w6 fun b8 w9 =>
 iteB (!b8) (
 (J3 true w9)) (
 table_Done l_1 w9 fun b10 w11 =>
 (J3 (!b10) w11)))) fun b12 w13 =>
 iteB b12 (
 pelotonlaw08_awake  w13 fun b14 w15 =>
 (k b14 w15)) (
 ldA 1 w13 a1 fun cs16 =>
 fits_Quiet cs16 l_1 w13 fun x17 w18 =>
 iteB ((x17.1, x17.2).2 != (0 : Int)) (
 pelotonlaw08_awake  w18 fun b19 w20 =>
 (k b19 w20)) (
 drew w18 fun w21 =>
 ldA 1 w21 a1 fun cs22 =>
 pelotonlaw08_steps l_1 w21 fun i23 w24 =>
 samec 1 a1 w21 w24 (
 serial_Run cs22 i23 w24 fun x25 w26 =>
 iteB ((x25.1, (x25.2.1, x25.2.2)).2.2 == (23 : Int)) (
 pelotonlaw08_awake  w26 fun b27 w28 =>
 (k b27 w28)) (
 iteB ((x25.1, (x25.2.1, x25.2.2)).2.2 == (0 : Int)) (
 pelotonlaw08_steps l_1 w26 fun i29 w30 =>
 iteB ((x25.1, (x25.2.1, x25.2.2)).2.1 == i29) (
 pelotonlaw06_Rows l_1 x25.1 w30 fun b31 w32 =>
 iteB b31 (
 pelotonlaw08_awake  w32 fun b33 w34 =>
 (k b33 w34)) (
 (k false w32))) (
 (k false w30))) (
 (k false w26))))))
theorem e_pelotonlaw08_FitsOnly (pelotonlaw08_Short : Array Value → Sl → World → ((Bool) → World → Prop) → Prop) (check_Plain : Array Value → World → ((Bool) → World → Prop) → Prop) (table_Done : Sl → World → ((Bool) → World → Prop) → Prop) (pelotonlaw08_awake : World → ((Bool) → World → Prop) → Prop) (fits_Quiet : Array Value → Sl → World → ((Int × Int) → World → Prop) → Prop) (pelotonlaw08_steps : Sl → World → ((Int) → World → Prop) → Prop) (serial_Run : Array Value → Int → World → ((Sl × Int × Int) → World → Prop) → Prop) (pelotonlaw06_Rows : Sl → Sl → World → ((Bool) → World → Prop) → Prop) (x : KT [.ag, .s]) (w : World) (k : KT [.b] → World → Prop) : evFn Go.Proofs.Tryz.prog (orcOf [(n_pelotonlaw08_Short, (fun args w c => unL [.ag, .s] args fun x => pelotonlaw08_Short x.1 x.2 w fun r w => c (packV (valL [.b] r)) w)), (n_check_Plain, (fun args w c => unL [.ag] args fun x => check_Plain x w fun r w => c (packV (valL [.b] r)) w)), (n_table_Done, (fun args w c => unL [.s] args fun x => table_Done x w fun r w => c (packV (valL [.b] r)) w)), (n_pelotonlaw08_awake, (fun args w c => unL [] args fun x => pelotonlaw08_awake  w fun r w => c (packV (valL [.b] r)) w)), (n_fits_Quiet, (fun args w c => unL [.ag, .s] args fun x => fits_Quiet x.1 x.2 w fun r w => c (packV (valL [(.i .i64), (.i .i64)] r)) w)), (n_pelotonlaw08_steps, (fun args w c => unL [.s] args fun x => pelotonlaw08_steps x w fun r w => c (packV (valL [(.i .i64)] r)) w)), (n_serial_Run, (fun args w c => unL [.ag, (.i .i64)] args fun x => serial_Run x.1 x.2 w fun r w => c (packV (valL [.s, (.i .i64), (.i .i64)] r)) w)), (n_pelotonlaw06_Rows, (fun args w c => unL [.s, .s] args fun x => pelotonlaw06_Rows x.1 x.2 w fun r w => c (packV (valL [.b] r)) w))]) 8800396379094 [(1, [(23, .b)])] Go.Proofs.Tryz.f6 [.b] (valL [.ag, .s] x) w k = pelotonlaw08_FitsOnly_b pelotonlaw08_Short check_Plain table_Done pelotonlaw08_awake fits_Quiet pelotonlaw08_steps serial_Run pelotonlaw06_Rows x.1 x.2 w k := by kernel_rfl
def pelotonlaw08_FitsOnly (p_0 : Array Value) (l_1 : Sl) (w : World) (k : (Bool) → World → Prop) : Prop := pelotonlaw08_FitsOnly_b pelotonlaw08_Short check_Plain table_Done pelotonlaw08_awake fits_Quiet pelotonlaw08_steps serial_Run pelotonlaw06_Rows p_0 l_1 w k
def d_pelotonlaw08_FitsOnly : Dec := fun args w c => unL [.ag, .s] args fun x => pelotonlaw08_FitsOnly x.1 x.2 w fun r w => c (packV (valL [.b] r)) w
theorem s_pelotonlaw08_FitsOnly : Sound Go.Proofs.Tryz.prog n_pelotonlaw08_FitsOnly d_pelotonlaw08_FitsOnly :=
 sound_of (mask := 8800396379094) (h := [(1, [(23, .b)])]) (ds := [(n_pelotonlaw08_Short, d_pelotonlaw08_Short), (n_check_Plain, d_check_Plain), (n_table_Done, d_table_Done), (n_pelotonlaw08_awake, d_pelotonlaw08_awake), (n_fits_Quiet, d_fits_Quiet), (n_pelotonlaw08_steps, d_pelotonlaw08_steps), (n_serial_Run, d_serial_Run), (n_pelotonlaw06_Rows, d_pelotonlaw06_Rows)]) mixed Go.Proofs.Tryz.func6 ⟨s_pelotonlaw08_Short, s_check_Plain, s_table_Done, s_pelotonlaw08_awake, s_fits_Quiet, s_pelotonlaw08_steps, s_serial_Run, s_pelotonlaw06_Rows, trivial⟩
 [.ag, .s] [.b] (by kernel_rfl) (fun x w k => pelotonlaw08_FitsOnly x.1 x.2 w k) (fun x w k => e_pelotonlaw08_FitsOnly pelotonlaw08_Short check_Plain table_Done pelotonlaw08_awake fits_Quiet pelotonlaw08_steps serial_Run pelotonlaw06_Rows x w k)
end Go.Proofs.YtgkfbagclkjilaaGreatDoor
namespace Go.Proofs.YtgkfbagclkjilaaGreatDoor.Ft
open Go Go.Ev Go.Proofs Go.Proofs.YtgkfbagclkjilaaGreatDoor
open Go.Proofs.YtgkfbagclkjilaaGreatDoor.Ck (Accs)
theorem rowsV_map (R : List Rw) : rowsV R = ((R.map toRb).map rbV).flatten := by
  unfold rowsV
  rw [List.map_map]
  rfl
theorem tbl_rows {w0 w : World} {L : List HP} {s : Sl} {R : List Rw} {f : HP → List HP} (h : St w0 w L) [a : At L (slc 7 s) (rowsV R) f] (hl : R.length < 4611686018427387904) : Tbl w s (R.map toRb) :=
  ⟨Ck.sls_rws (by rw [← rowsV_map]; exact (h.own (sz := 7) (s := s) (vs := rowsV R)).sls) (by decide) (fun e he => by obtain ⟨r, _, rfl⟩ := List.mem_map.1 he; rfl), by rw [List.length_map]; exact hl⟩
end Go.Proofs.YtgkfbagclkjilaaGreatDoor.Ft
namespace Go.Proofs.YtgkfbagclkjilaaGreatDoor.Ft
open Go Go.Ev Go.Proofs Go.Proofs.YtgkfbagclkjilaaGreatDoor
open Go.Proofs.YtgkfbagclkjilaaGreatDoor.Ck (Accs)
section
variable {w0 w : World} {L : List HP} {s s' : Sl} {l : List Rb}
theorem cameU_s {r : Rb} {k : Bool → World → Prop} (hk : ∀ w', Ext w w' → k (decide (r.kind ≥ 2)) w') : table_came (rbV r).toArray w k := by
  unfold table_came
  refine newC_h (.nil w) fun g w2 h => ?_
  exact ldI_h (g := g) (o := 0 + 3) h rfl (hk _ h.ext)
theorem done1_s {r : Rb} {k : Bool → World → Prop} (hk : ∀ w', Ext w w' → k (!(decide (r.kind ≥ 2))) w') : table_Done_1 (rbV r).toArray w k := by
  unfold table_Done_1 table_Done_1_b
  refine newC_h (.nil w) fun g w2 h => ?_
  refine ldW_h (n := 7) (g := g) h rfl ?_
  exact cameU_s fun w5 he => hk _ (h.ext.trans he)
theorem call_done1 {r : Rb} {c : Value → World → Prop} (h : table_Done_1 (rbV r).toArray w fun b w => c (.bool b) w) : d_table_Done_1 (#[] ++ #[Value.agg (rbV r).toArray] ++ #[]).toList w c := h
theorem done_s {k : Bool → World → Prop} (hT : Tbl w s l) (hk : ∀ b w', St w w' [] → (b = true → ∀ i : Nat, i < l.length → 2 ≤ (rowAt l (i : Int)).kind) → k b w') : table_Done s w k := by
  have hn := hT.len; have hf := hT.few
  unfold table_Done table_Done_b slices_ContainsFunc___api_Row_api_Row_ slices_ContainsFunc___api_Row_api_Row__b slices_IndexFunc___api_Row_api_Row_ slices_IndexFunc___api_Row_api_Row__b
  refine loopP_of (fun (i : Int) w' => ∃ j : Nat, i = (j : Int) ∧ j ≤ l.length ∧ (∀ m : Nat, m < j → 2 ≤ (rowAt l (m : Int)).kind) ∧ St w w' []) (fun i _ => (l.length - i).toNat) ⟨0, rfl, by omega, fun m hm => by omega, .nil w⟩ ?_
  rintro _ w3 ⟨j, rfl, hj, hd, h⟩ C hC
  dsimp only
  rw [hn]
  refine iteB_i (fun hb => ?_) fun hb => ?_
  · have hlt : j < l.length := by have := of_decide_eq_true hb; omega
    refine tA_h hT h (by omega) (by omega) fun p hp => ?_
    refine callF_i (d := d_table_Done_1) (fun _ _ _ => rfl) ?_
    refine call_done1 ?_
    refine done1_s fun w7 he => ?_
    have h := h.on he
    refine toB_i ?_
    refine iteB_i (fun hb2 => ?_) fun hb2 => ?_
    · refine hk _ _ h fun q => ?_
      rw [decide_eq_true (by omega)] at q; cases q
    · have hle : 2 ≤ (rowAt l (j : Int)).kind := by simpa using hb2
      have hw1 : IntKind.wrap .i64 ((j : Int) + 1) = ((j + 1 : Nat) : Int) := by rw [wrap_id ⟨by omega, by omega⟩]; simp
      rw [hw1]
      refine hC _ _ ⟨j + 1, rfl, by omega, fun m hm => ?_, h⟩ (by omega)
      by_cases e : m = j
      · rw [e]; exact hle
      · exact hd m (by omega)
  · have hjl : j = l.length := by have := of_decide_eq_false hb; omega
    refine hk _ _ h fun _ i hi => hd i (by omega)
theorem steps_s {k : Int → World → Prop} (hT : Tbl w s l) (hl : l.length ≤ 60) (h0 : ∀ i : Nat, i < l.length → 0 ≤ (rowAt l (i : Int)).steps) (h3 : ∀ i : Int, (rowAt l i).steps ≤ 3000) (hk : ∀ w', w' = w → k (sumF l 0) w') : pelotonlaw08_steps s w k := by
  have hn := hT.len; have hf := hT.few
  unfold pelotonlaw08_steps
  refine loopP_of (fun (x : Int × Int) w' => ∃ j : Nat, x.2 = (j : Int) ∧ j ≤ l.length ∧ x.1 + sumF l j = sumF l 0 ∧ 0 ≤ x.1 ∧ x.1 ≤ 3000 * j ∧ w' = w) (fun x _ => (l.length - x.2).toNat) ⟨0, rfl, by omega, by simp, Int.le_refl _, Int.le_refl _, rfl⟩ ?_
  rintro ⟨acc, _⟩ w3 ⟨j, rfl, hj, hs, ha0, ha1, rfl⟩ C hC
  dsimp only at hs ha0 ha1 ⊢
  rw [hn]
  refine iteB_i (fun hb => ?_) fun hb => ?_
  · have hlt : j < l.length := by have := of_decide_eq_true hb; omega
    refine tI_h (j := 5) hT (St.nil w3) (by omega) (by omega) rfl ?_
    have := h0 j hlt
    have := h3 (j : Int)
    have hw1 : IntKind.wrap .i64 ((j : Int) + 1) = ((j + 1 : Nat) : Int) := by rw [wrap_id ⟨by omega, by omega⟩]; simp
    rw [hw1, wrap_id ⟨by omega, by omega⟩]
    rw [sumF_at hlt] at hs
    exact hC _ _ ⟨j + 1, rfl, by omega, by dsimp only; omega, by dsimp only; omega, by dsimp only; push_cast; omega, rfl⟩ (by dsimp only; omega)
  · have hjl : l.length ≤ j := by have := of_decide_eq_false hb; omega
    rw [sumF_end hjl, Int.add_zero] at hs
    rw [hs]
    exact hk _ rfl
theorem eq_rb (r : Rb) {c : Bool → Prop} (hc : c true) : eqA ([(0, 0)] ++ ([(1, 0)] ++ ([(2, 0)] ++ ([(3, 0)] ++ ([(4, 0)] ++ ([(5, 0)] ++ ([(6, 2)] ++ []))))))) (rbV r).toArray (rbV r).toArray c := by
  unfold eqA
  have : eqOffs (rbV r).toArray (rbV r).toArray ([(0, 0)] ++ ([(1, 0)] ++ ([(2, 0)] ++ ([(3, 0)] ++ ([(4, 0)] ++ ([(5, 0)] ++ ([(6, 2)] ++ []))))))) = some true := by
    simp [eqOffs, eqC, rbV]
  rw [this]; exact hc
theorem rows_eq {k : Bool → World → Prop} (hT : Tbl w s l) (hT' : Tbl w s' l) (hl : l.length < 1000000000) (hk : ∀ w', St w w' [] → k true w') : pelotonlaw06_Rows s s' w k := by
  have hn := hT.len
  have hn' := hT'.len
  unfold pelotonlaw06_Rows
  refine iteB_f (by rw [hn, hn']; simp) ?_
  refine loopP_of (fun (i : Int) w' => ∃ j : Nat, i = j ∧ j ≤ l.length ∧ St w w' []) (fun i _ => (l.length - i).toNat) ⟨0, rfl, by omega, .nil w⟩ ?_
  rintro _ w3 ⟨j, rfl, hj, h⟩ C hC
  refine iteB_i (fun hb => ?_) fun hb => ?_
  · have hlt : j < l.length := by have := of_decide_eq_true hb; omega
    refine drew_h h fun w4 h => ?_
    refine tA_h hT h (by omega) (by omega) fun p hp => ?_
    refine tA_h hT' h (by omega) (by omega) fun p' hp' => ?_
    refine eq_rb _ (iteB_f rfl ?_)
    have e : IntKind.wrap .i64 ((j : Int) + 1) = ((j + 1 : Nat) : Int) := by rw [wrap_id ⟨by omega, by omega⟩]; simp
    rw [e]
    exact hC _ _ ⟨j + 1, rfl, by omega, h⟩ (by omega)
  · exact hk _ h
end
theorem law_only {w : World} {ps ls : Sl} {P : List FnR} {l : List Rb} {k : Bool → World → Prop} (hF : Funcs5 w ps P) (hT : Tbl w ls l) (hk : ∀ w', St w w' [] → k true w') : pelotonlaw08_FitsOnly #[.slice ps.a ps.n ps.c] ⟨ls.a, ls.n, ls.c⟩ w k := by
  have hN : ∀ g ∈ P, InI g.needs := fun g hg => (hF.code g hg).1
  unfold pelotonlaw08_FitsOnly pelotonlaw08_FitsOnly_b
  refine newC_h (.nil w) fun g1 w2 h => ?_
  have h : St w w2 [blk g1 [.slice ps.a ps.n ps.c]] := h
  refine joinP_i (fun z w' => St w w' [blk g1 [.slice ps.a ps.n ps.c]] ∧ (z = false → Shrt P l ∧ Ck.plainF P = true ∧ ∀ i : Nat, i < l.length → 2 ≤ (rowAt l (i : Int)).kind)) (fun J hJ => ?_) ?_
  · refine ldW_h (n := 1) (g := g1) h rfl ?_
    refine short_s (hF.ext h.ext) (hT.ext h.ext) fun b w5 h2 hs => ?_
    have h := ext_of h h2.ext
    refine iteB_i (fun hb => hJ _ _ ⟨h, fun q => by cases q⟩) fun hb => ?_
    have hS := hs (by simpa using hb)
    refine ldW_h (n := 1) (g := g1) h rfl ?_
    refine Ck.plain_s (hF.ext h.ext) hS.p fun w9 h2 => ?_
    have h := ext_of h h2.ext
    refine iteB_i (fun hb => hJ _ _ ⟨h, fun q => by cases q⟩) fun hb1 => ?_
    refine done_s (s := ⟨ls.a, ls.n, ls.c⟩) (hT.ext h.ext) fun b10 w11 h2 hd => ?_
    have h := ext_of h h2.ext
    exact hJ _ _ ⟨h, fun q => ⟨hS, by simpa using hb1, hd (by simpa using q)⟩⟩
  rintro z w13 ⟨h, hz⟩
  refine iteB_i (fun hb => ?_) fun hb => ?_
  · exact awake_s fun w7 h3 => hk _ (ext_of h h3.ext).all
  obtain ⟨hS, hp, hd⟩ := hz hb
  refine ldW_h (n := 1) (g := g1) h rfl ?_
  refine Quiet_s (hF.ext h.ext) (hT.ext h.ext) hN hS.len hS.cl fun w18 he => ?_
  have h := ext_of h he
  refine iteB_i (fun hb => ?_) fun hb => ?_
  · exact awake_s fun w7 h3 => hk _ (ext_of h h3.ext).all
  have hq : (fitsF P l true).2 = 0 := by simpa using hb
  obtain ⟨hA, htc⟩ : Accs P ∧ tcheck l = 0 := by
    unfold fitsF at hq
    split at hq
    · cases hq
    rename_i h1
    split at hq
    · rename_i h2; exact absurd hq h2
    rename_i h2
    exact ⟨Ck.accs_iff.1 (by simpa using h1), by simpa using h2⟩
  have hR := (tcheck_row htc).2
  have hst0 : ∀ i : Nat, i < l.length → 0 ≤ (rowAt l (i : Int)).steps := fun i hi => (row_span (hR i hi)).2.2.2.2.2.1
  have hl60 := hS.t.n
  have hsum : ∀ (n a : Nat), a + n = l.length → sumF l a ≤ 3000 * n := by
    intro n
    induction n with
    | zero => intro a e; rw [sumF_end (by omega)]; exact Int.le_refl _
    | succ n ih =>
      intro a e
      rw [sumF_at (by omega)]
      have := ih (a + 1) (by omega)
      have := hS.steps (a : Int)
      push_cast; omega
  have hs1 := hsum l.length 0 (by omega)
  have hs0 := sumF_nonneg hst0 l.length 0 (by omega)
  refine drew_h h fun w21 h => ?_
  refine ldW_h (n := 1) (g := g1) h rfl ?_
  refine steps_s (s := ⟨ls.a, ls.n, ls.c⟩) (hT.ext h.ext) hl60 hst0 hS.steps fun w24 he => ?_
  subst he
  refine samec_self ?_
  refine run_s (hF.ext h.ext) fun s rows n e w26 h2 hRr => ?_
  have h := h.join h2
  simp only [List.cons_append, List.nil_append] at h
  have hres : e = 23 ∨ (e = 0 ∧ rows.map toRb = l ∧ n = sumF l 0) := by
    rcases hRr with ⟨q, _⟩ | ⟨_, q, _⟩ | ⟨_, _, hf1, ⟨hG, q⟩ | ⟨hG, _, _⟩⟩
    · exact absurd hA q
    · omega
    · rcases only_fits hA hN hp hd hq rfl hf1 hG with q | ⟨m', q, q2, q3⟩
      · cases q
      · cases q; exact .inr ⟨by assumption, q2, q3⟩
    · rcases only_fits hA hN hp hd hq rfl hf1 hG with q | ⟨m', q, q2, q3⟩
      · cases q; exact .inl rfl
      · cases q
  refine iteB_i (fun hb => ?_) fun hb => ?_
  · exact awake_s fun w7 h3 => hk _ (ext_of h h3.ext).all
  obtain ⟨rfl, hrows, rfl⟩ := hres.resolve_left (by simpa using hb)
  refine iteB_t rfl ?_
  refine steps_s (s := ⟨ls.a, ls.n, ls.c⟩) (hT.ext h.ext) hl60 hst0 hS.steps fun w30 he => ?_
  subst he
  refine iteB_t (by simp) ?_
  have hT2 := tbl_rows (s := s) (R := rows) h (by have := congrArg List.length hrows; rw [List.length_map] at this; omega)
  rw [hrows] at hT2
  refine rows_eq (s := ⟨ls.a, ls.n, ls.c⟩) (s' := s) (hT.ext h.ext) hT2 (by omega) fun w32 h2 => ?_
  have h := ext_of h h2.ext
  refine iteB_t rfl ?_
  exact awake_s fun w7 h3 => hk _ (ext_of h h3.ext).all
end Go.Proofs.YtgkfbagclkjilaaGreatDoor.Ft
