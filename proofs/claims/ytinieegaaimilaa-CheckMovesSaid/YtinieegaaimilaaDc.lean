/-
  Layer 4: the law of ways through a function.
-/
import Derived.Test.YtinieegaaimilaaDb
set_option linter.unusedSimpArgs false
set_option linter.unusedVariables false
set_option maxRecDepth 100000
namespace Go.Proofs.Ytinieegaaimilaa
open Go Go.Ev Go.Proofs

theorem wrapU {a : Int} (h0 : 0 ≤ a) (h1 : a < 8) : IntKind.wrap .u64 a = a := by
  have e : ∀ m : Nat, m < 8 → IntKind.wrap .u64 (m : Int) = (m : Int) := by decide
  have := e a.toNat (by omega)
  rwa [Int.toNat_of_nonneg h0] at this
theorem inI_or (x y : Int) : InI (orI .i64 x y) := by rw [orI_bv]; exact inI_toInt _
theorem stepD_same {op : Int} {x : List Int} (h11 : opI x ≠ 11) (h12 : opI x ≠ 12) : stepD op x = op := by unfold stepD; rw [if_neg h11, if_neg h12]
theorem walk_start {P : List FnR} {f : FnR} (hA : Acc P f) (hN : InI f.needs) : Walk P f f.needs 0 0 := by
  have := hA.l0
  refine ⟨by omega, by omega, hN, fun h hh ht => ⟨ht, .zero⟩, ?_⟩
  cases hc : f.code with
  | nil => rw [hc] at this; simp at this
  | cons x l => rfl

theorem law_holds {w : World} {ps l2 : Sl} {P : List FnR} {bs : List Bool} {kk : Int} {k : Bool → World → Prop} (hF : Funcs5 w ps P) (hB : Rws 1 w l2 (bs.map fun b => [.bool b])) (hc : ∀ w', St w w' [] → k true w') : pelotonlaw04_CheckHolds #[.slice ps.a ps.n ps.c] kk l2 w k := by
  have hpn := hF.len
  have hbn : bs.length = l2.n := by have := hB.len; simpa using this
  unfold pelotonlaw04_CheckHolds pelotonlaw04_CheckHolds_b
  refine newC_h (.nil w) fun g1 w2 h => ?_
  refine joinP_i (fun b w' => (b = false → l2.n ≤ 300 ∧ Accs P ∧ 0 ≤ kk ∧ kk < P.length) ∧ St w w' [blk g1 [.slice ps.a ps.n ps.c]]) (fun J hJ => ?_) ?_
  · refine ldW_h (g := g1) h rfl (few_s (hF.ext h.ext) fun b w6 h2 hfew => ?_)
    have h := h.on h2.ext
    refine iteB_i (fun hb => hJ _ _ ⟨fun q => (by cases q), h⟩) fun hb => ?_
    simp only [Bool.or_eq_false_iff, Bool.not_eq_false', decide_eq_false_iff_not] at hb
    refine ldW_h (g := g1) h rfl (accepts_s (hF.ext h.ext) fun w9 h2 => ?_)
    have h := h.on h2.ext
    refine iteB_i (fun hb => hJ _ _ ⟨fun q => (by cases q), h⟩) fun hb2 => ?_
    rw [progF_zero] at hb2
    simp only [Bool.or_eq_false_iff, Bool.not_eq_false', decide_eq_false_iff_not, beq_iff_eq] at hb2
    refine ldS_h (g := g1) (o := 0) h rfl (hJ _ _ ⟨fun q => ?_, h⟩)
    have := of_decide_eq_false q
    dsimp only at this
    exact ⟨by omega, accs_iff.1 hb2.1, by omega, by omega⟩
  rintro b11 w12 ⟨hb0, h⟩
  have done : ∀ {w' : World} {L : List HP}, St w w' L → pelotonlaw04_awake w' fun b w => k b w := fun h => awake_s fun w' h2 => hc w' (h.all.on h2.ext)
  refine iteB_i (fun hb => done h) fun hb => ?_
  obtain ⟨hl300, hAs, hk1, hk2⟩ := hb0 hb
  obtain ⟨f, hf⟩ : ∃ f, P[kk.toNat]? = some f := ⟨_, List.getElem?_eq_getElem (by omega)⟩
  have hmem := List.mem_of_getElem? hf
  obtain ⟨hfN, hcd⟩ := hF.code f hmem
  have hsn := hcd.len
  have hA := hAs.all f hmem
  have hl1 := hA.l1
  refine ldS_h (g := g1) (o := 0) h rfl ?_
  refine ixR_h (e := FnR.cells f) hF.rws h (by omega) (by rw [List.getElem?_map, hf]; rfl) fun p hp => ldA_c (e := FnR.cells f) rfl (fun j v => hp h) ?_
  refine newC_h h fun g18 w9 h => stW_h (g := g18) h rfl rfl (by intro v hv; simp [FnR.cells] at hv; rcases hv with rfl | rfl <;> rfl) fun w20 h => ?_
  have h : St w w20 [blk g18 [.int .i64 f.needs, .slice f.sl.a f.sl.n f.sl.c], blk g1 [.slice ps.a ps.n ps.c]] := h
  refine ldI_h (g := g18) (o := 0) h rfl ?_
  refine loopP_of (fun (x : Int × Int × Int × Int) w' => ∃ j : Nat, x.2.2.2 = j ∧ j ≤ l2.n ∧ Walk P f x.1 x.2.1 x.2.2.1 ∧ St w w' [blk g18 [.int .i64 f.needs, .slice f.sl.a f.sl.n f.sl.c], blk g1 [.slice ps.a ps.n ps.c]])
    (fun x _ => ((l2.n : Int) - x.2.2.2).toNat) ⟨0, rfl, by omega, walk_start hA hfN, h⟩ ?_
  rintro ⟨hv, op, at', i⟩ w24 ⟨j, hj, hjn, hW, h⟩ C hC
  dsimp only at hj hW hC ⊢
  subst hj
  have ha0 := hW.a0; have ha1 := hW.a1
  refine iteB_i (fun hb => ?_) fun hb => ?_
  · have hjl : j < l2.n := by have := of_decide_eq_true hb; omega
    have hw1 : IntKind.wrap .i64 ((j : Int) + 1) = ((j + 1 : Nat) : Int) := by rw [wrap_id ⟨by omega, by omega⟩]; simp
    have hw2 : IntKind.wrap .i64 (at' + 1) = at' + 1 := wrap_id ⟨by omega, by omega⟩
    refine joinP_i (fun b w' => b = false ∧ w' = w24) (fun J hJ => ?_) ?_
    · refine iteB_f (by simp; omega) (ldS_h (g := g18) (o := 1) h rfl (hJ _ _ ⟨?_, rfl⟩))
      rw [decide_eq_false_iff_not]; dsimp only; omega
    rintro b w28 ⟨rfl, rfl⟩
    refine iteB_f rfl (ldS_h (g := g18) (o := 1) h rfl ?_)
    obtain ⟨x, hx⟩ : ∃ x, f.code[at'.toNat]? = some x := ⟨_, List.getElem?_eq_getElem (by omega)⟩
    have hg := walk_good hA hW hx
    have hin := places_in hg.places
    obtain ⟨ho0, ho17, hkg, hk8, hk9, hk10⟩ := chk0 (hA.ok x (List.mem_of_getElem? hx))
    refine ixC_h hcd h (by omega) hx fun p h5 hp => ldA_c (by simp [Go.Ev.ints, h5]) (fun j v => hp h) ?_
    refine newC_h h fun g w33 h => stW_h (g := g) h rfl (by simp [Go.Ev.ints, h5]) (one_agI _) fun w34 h => ?_
    have h : St w w34 [blk g (ints x), blk g18 [.int .i64 f.needs, .slice f.sl.a f.sl.n f.sl.c], blk g1 [.slice ps.a ps.n ps.c]] := h
    have ld : ∀ {o : Nat} {c : Int → Prop}, o < 5 → c (x.getD o 0) → ldI .i64 w34 (Addr.add ⟨g, 0, none⟩ o) c := by
      intro o c ho hc
      have := ldI_h (g := g) (o := o) (k := .i64) (n := x.getD o 0) (c := c) h (ints_get (by omega)) hc
      rw [add_mk, Nat.zero_add]; exact this
    have go : ∀ {hv' op' at2 : Int}, Walk P f hv' op' at2 → C (hv', op', at2, IntKind.wrap .i64 ((j : Int) + 1)) w34 := by
      intro hv' op' at2 hW'
      rw [hw1]
      exact hC _ _ ⟨j + 1, rfl, hjl, hW', h.drop⟩ (by dsimp only; omega)
    have nxt : ∀ (h6 : opI x ≠ 6) (h15 : opI x ≠ 15) (h16 : opI x ≠ 16) (h8 : opI x ≠ 8) (h11 : opI x ≠ 11) (h12 : opI x ≠ 12), C (hv, op, IntKind.wrap .i64 (at' + 1), IntKind.wrap .i64 ((j : Int) + 1)) w34 := by
      intro h6 h15 h16 h8 h11 h12
      rw [hw2]
      have := walk_next hA hW hx h6 h15 h16 h8
      rw [stepD_same h11 h12] at this
      exact go this
    refine ld (by omega) (iteB_i (fun hb => ?_) fun hb => ?_)
    · have ho : opI x = 16 := by simpa using hb
      refine iteB_t ?_ (done h)
      have := hg.scopes
      unfold scopesOk at this
      rw [if_neg (by rw [ho]; decide), if_pos (by rw [ho]; rfl), ← hW.open'] at this
      exact this
    have h16 : opI x ≠ 16 := by simpa using hb
    refine iteB_i (fun hb => done h) fun hb => ?_
    have h15 : opI x ≠ 15 := by simpa using hb
    refine iteB_i (fun hb => ?_) fun hb => ?_
    · have ho : opI x = 6 := by simpa using hb
      exact ld (by omega) (go (walk_goes hA hW hx (by unfold isGoes; rw [ho]; rfl)))
    have h6 : opI x ≠ 6 := by simpa using hb
    refine iteB_i (fun hb => ?_) fun hb => ?_
    · have ho : opI x = 7 := by simpa using hb
      have hbj : (bs.map fun b => [Value.bool b])[((j : Nat) : Int).toNat]? = some [.bool (bs.getD j false)] := by
        rw [Int.toNat_natCast, List.getElem?_map]; simp [show j < bs.length by omega]
      refine ixR_h (e := [.bool (bs.getD j false)]) hB h (by omega) hbj fun p hp => ldB_i (hp h (j := 0) rfl) ?_
      refine iteB_i (fun hb => ?_) fun hb => ?_
      · exact ld (by omega) (go (walk_goes hA hW hx (by unfold isGoes; rw [ho]; rfl)))
      · exact nxt h6 h15 h16 (by omega) (by omega) (by omega)
    have h7 : opI x ≠ 7 := by simpa using hb
    refine iteB_i (fun hb => ?_) fun hb => ?_
    · have ho : opI x = 11 := by simpa using hb
      rw [hw2]
      have := walk_next hA hW hx h6 h15 h16 (by omega)
      unfold stepD at this
      rw [if_pos ho] at this
      exact go this
    have h11 : opI x ≠ 11 := by simpa using hb
    refine joinP_i (fun b w' => b = ((opI x == 12) || (opI x == 13)) ∧ w' = w34) (fun J hJ => ?_) ?_
    · refine iteB_i (fun hb => ?_) fun hb => ?_
      · have hb' : (opI x == 12) = true := hb
        exact hJ _ _ ⟨by rw [hb']; rfl, rfl⟩
      · have hb' : (opI x == 12) = false := hb
        exact hJ _ _ ⟨by rw [hb']; rfl, rfl⟩
    rintro b45 w46 ⟨rfl, rfl⟩
    refine iteB_i (fun hb => ?_) fun hb => ?_
    · have hd : op ≥ 1 := by
        have := hg.scopes
        unfold scopesOk at this
        rw [if_pos hb, ← hW.open'] at this
        exact of_decide_eq_true this
      refine iteB_f (by rw [decide_eq_false_iff_not]; omega) (ld (by omega) (iteB_i (fun hb2 => ?_) fun hb2 => ?_))
      · have ho : opI x = 12 := by simpa using hb2
        rw [hw2]
        have := walk_next hA hW hx h6 h15 h16 (by omega)
        unfold stepD at this
        rw [if_neg h11, if_pos ho] at this
        exact go this
      · have h12 : opI x ≠ 12 := by simpa using hb2
        have h13 : opI x = 13 := by
          rw [Bool.or_eq_true] at hb
          rcases hb with q | q
          · exact (h12 (by simpa using q)).elim
          · simpa using q
        exact nxt h6 h15 h16 (by omega) h11 h12
    rw [Bool.or_eq_false_iff] at hb
    have h12 : opI x ≠ 12 := by simpa using hb.1
    refine iteB_i (fun hb => ?_) fun hb => ?_
    · have ho : opI x = 8 := by simpa using hb
      have hN := hk8 ho
      have hlt := hin.2 ho
      have hfn : P[(x.getD 4 0).toNat]? = some P[(x.getD 4 0).toNat] := List.getElem?_eq_getElem (by omega)
      have hAn := hAs.all _ (List.mem_of_getElem? hfn)
      refine joinP_i (fun b w' => b = false ∧ w' = w46) (fun J hJ => ?_) ?_
      · refine ld (by omega) (iteB_f (by rw [decide_eq_false_iff_not]; omega) (ld (by omega) (ldS_h (g := g1) (o := 0) h rfl (iteB_f (by rw [decide_eq_false_iff_not]; dsimp only; omega) ?_))))
        refine ld (by omega) (iteB_f (by rw [decide_eq_false_iff_not]; omega) (ld (by omega) (iteB_f (by rw [decide_eq_false_iff_not]; omega) (ldS_h (g := g1) (o := 0) h rfl (ld (by omega) ?_)))))
        refine ixR_h (e := FnR.cells P[(x.getD 4 0).toNat]) hF.rws h (by omega) (by rw [List.getElem?_map, hfn]; rfl) fun p hp => ldI_i (hp h rfl) (hJ _ _ ⟨?_, rfl⟩)
        have hsub : subBits P[(x.getD 4 0).toNat].needs hv = true := by
          have := hg.handles
          unfold handlesOk at this
          rw [if_neg (by rw [ho]; decide), if_neg (by rw [ho]; decide), if_pos (by rw [ho]; rfl), needs_get hfn] at this
          exact subBits_iff.2 fun h' hh ht => walk_held hW hh (subBits_iff.1 this h' hh ht)
        rw [andNot_sub hAn.n0 hAn.n1, hsub]; rfl
      rintro b58 w59 ⟨rfl, rfl⟩
      refine iteB_f rfl (ld (by omega) ?_)
      rw [wrapU hN.2.2.1 (by omega)]
      refine ⟨hN.2.2.1, ?_⟩
      dsimp only
      rw [hw2]
      obtain ⟨hz, hlt2⟩ := behind_next hA hW hx h6 h15 h16
      have hdn := depth_next hW hx hlt2
      rw [stepD_same h11 h12] at hdn
      refine go (walk_to hA.l1 hW hx hz (inI_or _ _) (fun h' hh ht => ?_) hdn.symm)
      rw [tb_or _ _ (by omega), Bool.or_eq_false_iff, tb_shl hN.2.2.1 (by omega) hh] at ht
      refine ⟨ht.1, ?_⟩
      have hne := of_decide_eq_false ht.2
      unfold forks
      rw [show (x.getD 1 0 == (h' : Int)) = false by simpa using hne, Bool.and_false]
    have h8 : opI x ≠ 8 := by simpa using hb
    have hbit : ∀ {B : Int}, 0 ≤ B → B ≤ 7 → tb ((heldL f.code f.needs).getD at'.toNat 0) B.toNat = true → shrI .i64 hv (IntKind.wrap .u64 B) fun i66 => (andI .i64 i66 1 == 0) = false := by
      intro B hB0 hB1 ht
      rw [wrapU hB0 (by omega)]
      refine ⟨hB0, ?_⟩
      dsimp only
      rw [and1' hW.inI hB0 (by omega), walk_held hW (by omega) ht]; rfl
    refine iteB_i (fun hb => ?_) fun hb => ?_
    · have ho : opI x = 9 := by simpa using hb
      have hB := hk9 ho
      refine joinP_i (fun b w' => b = false ∧ w' = w46) (fun J hJ => ?_) ?_
      · refine ld (by omega) (iteB_f (by rw [decide_eq_false_iff_not]; omega) (ld (by omega) (iteB_f (by rw [decide_eq_false_iff_not]; omega) (ld (by omega) ?_))))
        have ht : tb ((heldL f.code f.needs).getD at'.toNat 0) (x.getD 2 0).toNat = true := by
          have := hg.handles
          unfold handlesOk at this
          rwa [if_pos (by rw [ho]; rfl)] at this
        obtain ⟨q1, q2⟩ := hbit hB.1 hB.2 ht
        exact ⟨q1, hJ _ _ ⟨q2, rfl⟩⟩
      rintro b67 w68 ⟨rfl, rfl⟩
      exact iteB_f rfl (nxt h6 h15 h16 h8 h11 h12)
    have h9 : opI x ≠ 9 := by simpa using hb
    refine iteB_i (fun hb => ?_) fun hb => ?_
    · have ho : opI x = 10 := by simpa using hb
      have hB := hk10 ho
      refine joinP_i (fun b w' => b = false ∧ w' = w46) (fun J hJ => ?_) ?_
      · refine ld (by omega) (iteB_f (by rw [decide_eq_false_iff_not]; omega) (ld (by omega) (iteB_f (by rw [decide_eq_false_iff_not]; omega) (ld (by omega) ?_))))
        have ht : tb ((heldL f.code f.needs).getD at'.toNat 0) (x.getD 3 0).toNat = true := by
          have := hg.handles
          unfold handlesOk at this
          rwa [if_neg (by rw [ho]; decide), if_pos (by rw [ho]; rfl)] at this
        obtain ⟨q1, q2⟩ := hbit hB.1 hB.2 ht
        exact ⟨q1, hJ _ _ ⟨q2, rfl⟩⟩
      rintro b74 w75 ⟨rfl, rfl⟩
      exact iteB_f rfl (nxt h6 h15 h16 h8 h11 h12)
    exact nxt h6 h15 h16 h8 h11 h12
  · refine iteB_t (by rw [decide_eq_true_eq]; omega) (ldS_h (g := g18) (o := 1) h rfl (iteB_t (by rw [decide_eq_true_eq]; dsimp only; omega) (done h)))
end Go.Proofs.Ytinieegaaimilaa
