/-
  Layer 4: the law of a function that begins with a Check more.
-/
import Derived.Test.YtinieegaaimilaaDd
set_option linter.unusedSimpArgs false
set_option linter.unusedVariables false
set_option maxRecDepth 100000
namespace Go.Proofs.Ytinieegaaimilaa
open Go Go.Ev Go.Proofs

def rowsV (l : List (List Int)) : List Value := (l.map Go.Ev.ints).flatten
theorem rowsV_snoc (l : List (List Int)) (x : List Int) : rowsV (l ++ [x]) = rowsV l ++ ints x := by simp [rowsV]
theorem mv_wrap {x : List Int} (hg : isGoes x = true → 0 ≤ x.getD 4 0 ∧ x.getD 4 0 ≤ 126) : mv x = if isGoes x then x.set 4 (IntKind.wrap .i64 (x.getD 4 0 + 1)) else x := by
  unfold mv
  split
  · rename_i h
    have := hg h
    rw [wrap_id ⟨by omega, by omega⟩]
  · rfl

theorem moved_s {w : World} {s : Sl} {needs : Int} {l : List (List Int)} {k : Array Value → World → Prop} (hr : Code5 w s l) (hJ : Jok l) (hn : l.length ≤ 126)
    (hc : ∀ s' w', St w w' [slc 5 s' (rowsV (movedL l))] → s'.n = l.length + 1 → k #[.int .i64 needs, .slice s'.a s'.n s'.c] w') : pelotonlaw04_moved #[.int .i64 needs, .slice s.a s.n s.c] w k := by
  have hsn := hr.len
  unfold pelotonlaw04_moved
  refine newC_h (.nil w) fun g1 w2 h => newC_h h fun g3 w4 h => ldI_h (g := g1) (o := 0) h rfl ?_
  refine spl_i (agI ckI) rfl (by kernel_rfl) ?_
  refine newC_h h fun g7 w8 h => ?_
  have h : St w w8 [blk g7 (ints ckI), blk g3 [.int .i64 0, .slice none 0 0], blk g1 [.int .i64 needs, .slice s.a s.n s.c]] := h
  have h := h.asS (sz := 5) (g := g7) (n := 1) (cs := ints ckI) rfl (by omega) one_ints
  refine newC_h h fun g9 w10 h => stW_h (g := g9) h rfl rfl (by intro v hv; simp at hv; rcases hv with rfl | rfl <;> rfl) fun w11 h => ?_
  refine loopP_of (fun (i : Int) w' => ∃ dn rest t, l = dn ++ rest ∧ i = (dn.length : Int) ∧ t.n = dn.length + 1 ∧ St w w' [blk g9 [.int .i64 needs, .slice t.a t.n t.c], slc 5 t (rowsV (ckI :: dn.map mv)), blk g3 [.int .i64 0, .slice none 0 0], blk g1 [.int .i64 needs, .slice s.a s.n s.c]]) (fun i _ => ((s.n : Int) - i).toNat) ⟨[], l, ⟨some ⟨g7, 0, none⟩, 1, 1⟩, rfl, rfl, rfl, by simpa [rowsV] using h⟩ ?_
  rintro _ w14 ⟨dn, rest, t, hl, rfl, htn, h⟩ C hC
  refine ldS_h (g := g1) (o := 1) h rfl ?_
  cases rest with
  | nil =>
    refine iteB_f (by simp only [decide_eq_false_iff_not]; rw [hsn, hl]; simp) ?_
    refine ldW_h (g := g9) h rfl (stW_h (g := g3) h rfl rfl (by intro v hv; simp at hv; rcases hv with rfl | rfl <;> rfl) fun w41 h => ldW_h (g := g3) h rfl ?_)
    have e : dn = l := by rw [hl]; simp
    subst e
    exact hc t w41 (((h.rm 3 rfl).rm 2 rfl).rm 0 rfl) htn
  | cons x rest =>
    have hlen : l.length = dn.length + (rest.length + 1) := by rw [hl]; simp
    have hw1 : IntKind.wrap .i64 ((dn.length : Int) + 1) = ((dn ++ [x]).length : Int) := by rw [wrap_id ⟨by omega, by omega⟩]; simp
    have hx : l[dn.length]? = some x := by rw [hl]; simp
    obtain ⟨_, hgo⟩ := hJ x (List.mem_of_getElem? hx)
    refine iteB_t (by simp only [decide_eq_true_eq]; omega) (ldS_h (g := g1) (o := 1) h rfl ?_)
    refine ixC_h hr h (by omega) hx fun p h5 hp => ldA_c (by simp [Go.Ev.ints, h5]) (fun j v => hp h) ?_
    refine newC_h h fun g w20 h => stW_h (g := g) h rfl (by simp [Go.Ev.ints, h5]) (one_agI _) fun w21 h => ?_
    have h : St w w21 [blk g (ints x), blk g9 [.int .i64 needs, .slice t.a t.n t.c], slc 5 t (rowsV (ckI :: dn.map mv)), blk g3 [.int .i64 0, .slice none 0 0], blk g1 [.int .i64 needs, .slice s.a s.n s.c]] := h
    refine joinP_i (fun b w' => b = isGoes x ∧ w' = w21) (fun J hJ => ?_) ?_
    · refine ldI_h (g := g) (o := 0) h (ints_get (by omega)) (iteB_i (fun hb => ?_) fun hb => ?_)
      · have hb' : (opI x == 6) = true := hb
        exact hJ _ _ ⟨by unfold isGoes; rw [hb']; rfl, rfl⟩
      · have hb' : (opI x == 6) = false := hb
        exact ldI_h (g := g) (o := 0) h (ints_get (by omega)) (hJ _ _ ⟨by unfold isGoes; rw [hb']; rfl, rfl⟩)
    rintro b25 w26 ⟨rfl, rfl⟩
    refine joinP_i (fun _ w' => St w w' [blk g (ints (mv x)), blk g9 [.int .i64 needs, .slice t.a t.n t.c], slc 5 t (rowsV (ckI :: dn.map mv)), blk g3 [.int .i64 0, .slice none 0 0], blk g1 [.int .i64 needs, .slice s.a s.n s.c]]) (fun J hJ => ?_) ?_
    · have hmw := mv_wrap hgo
      refine iteB_i (fun hb => ?_) fun hb => ?_
      · rw [if_pos hb] at hmw
        refine ldI_h (g := g) (o := 4) h (ints_get (by omega)) (stC_h (g := g) (o := 4) h rfl (by simp [Go.Ev.ints, h5]) fun w29 h => hJ _ _ ?_)
        have e : (ints x).set 4 (.int .i64 (IntKind.wrap .i64 (x.getD 4 0 + 1))) = ints (mv x) := by rw [hmw]; simp [ints, List.map_set]
        rw [e] at h; exact h
      · rw [if_neg (by rw [hb]; simp)] at hmw
        rw [hmw] at hJ; exact hJ _ _ h
    rintro _ w31 h
    refine ldS_h (g := g9) (o := 1) h rfl (ldW_h (g := g) h (by simp [Go.Ev.ints, mv_len, h5]) ?_)
    refine spl_I (l := [0, 0, 0, 0, 0]) (l' := mv x) (by rw [mv_len, h5]) (by simp) ?_
    have e : ([0, 0, 0, 0, 0] : List Int).take 0 ++ (mv x ++ ([0, 0, 0, 0, 0] : List Int).drop (0 + 5)) = mv x := by simp
    rw [e]
    refine newC_h h fun g35 w36 h => ?_
    have h : St w w36 [blk g35 (ints (mv x)), blk g (ints (mv x)), blk g9 [.int .i64 needs, .slice t.a t.n t.c], slc 5 t (rowsV (ckI :: dn.map mv)), blk g3 [.int .i64 0, .slice none 0 0], blk g1 [.int .i64 needs, .slice s.a s.n s.c]] := h
    refine bApp_h (sz := 5) (b := 40) (z := .agg #[.int .i64 0, .int .i64 0, .int .i64 0, .int .i64 0, .int .i64 0]) (s := t) (vs := rowsV (ckI :: dn.map mv)) (x := ⟨some ⟨g35, 0, none⟩, 1, 1⟩) (ys := ints (mv x)) h ⟨by kernel_rfl, rfl⟩ (by kernel_rfl)
      (Sls.of_blk (g := g35) (cs := ints (mv x)) h (by simp [Go.Ev.ints, mv_len, h5])) one_ints (by simp only; omega) (by simp only; omega) fun s37 w38 h n37 => ?_
    refine stC_h (g := g9) (o := 1) h rfl (by simp) fun w39 h => ?_
    rw [hw1]
    refine hC _ _ ⟨dn ++ [x], rest, s37, by rw [hl]; simp, rfl, by simp only at n37; simp; omega, ?_⟩ (by simp; omega)
    have e2 : rowsV (ckI :: (dn ++ [x]).map mv) = rowsV (ckI :: dn.map mv) ++ ints (mv x) := by
      rw [← rowsV_snoc]; simp
    rw [e2]
    exact (h.rm 0 rfl).drop

theorem law_moves {w : World} {ps : Sl} {P : List FnR} {kk : Int} {k : Bool → World → Prop} (hF : Funcs5 w ps P) (hc : ∀ w', St w w' [] → k true w') : pelotonlaw04_CheckMoves #[.slice ps.a ps.n ps.c] kk w k := by
  have hpn := hF.len
  unfold pelotonlaw04_CheckMoves pelotonlaw04_CheckMoves_b
  have done : ∀ {w' : World} {L : List HP}, St w w' L → pelotonlaw04_awake w' fun b w => k b w := fun h => awake_s fun w' h2 => hc w' (h.all.on h2.ext)
  refine newC_h (.nil w) fun g1 w2 h => ?_
  refine joinP_i (fun b w' => (b = false → Few P ∧ 0 ≤ kk ∧ ∃ f, P[kk.toNat]? = some f ∧ 1 ≤ f.code.length ∧ f.code.length ≤ 126) ∧ St w w' [blk g1 [.slice ps.a ps.n ps.c]]) (fun J hJ => ?_) ?_
  · refine ldW_h (g := g1) h rfl (few_s (hF.ext h.ext) fun b w6 h2 hfew => ?_)
    have h := h.on h2.ext
    refine iteB_i (fun hb => hJ _ _ ⟨fun q => (by cases q), h⟩) fun hb => ?_
    simp only [Bool.or_eq_false_iff, Bool.not_eq_false', decide_eq_false_iff_not] at hb
    refine ldS_h (g := g1) (o := 0) h rfl (iteB_i (fun hb => hJ _ _ ⟨fun q => (by cases q), h⟩) fun hb2 => ?_)
    have hlt := of_decide_eq_false hb2
    dsimp only at hlt
    obtain ⟨f, hf⟩ : ∃ f, P[kk.toNat]? = some f := ⟨_, List.getElem?_eq_getElem (by omega)⟩
    have hcl := (hF.code f (List.mem_of_getElem? hf)).2.len
    have he : (P.map FnR.cells)[kk.toNat]? = some (FnR.cells f) := by rw [List.getElem?_map, hf]; rfl
    refine ldS_h (g := g1) (o := 0) h rfl (ixR_h (e := FnR.cells f) hF.rws h (by omega) he fun p hp => ldS_i (s := f.sl) (hp h rfl) ?_)
    refine iteB_i (fun hb => hJ _ _ ⟨fun q => (by cases q), h⟩) fun hb3 => ?_
    have h3 := of_decide_eq_false hb3
    refine ldS_h (g := g1) (o := 0) h rfl (ixR_h (e := FnR.cells f) hF.rws h (by omega) he fun p hp => ldS_i (s := f.sl) (hp h rfl) (hJ _ _ ⟨fun q => ?_, h⟩))
    have h4 := of_decide_eq_false q
    exact ⟨hfew hb.1, by omega, f, hf, by omega, by omega⟩
  rintro b14 w15 ⟨hb0, h⟩
  refine iteB_i (fun hb => done h) fun hb => ?_
  obtain ⟨hfew, hk1, f, hf, hl1, hl2⟩ := hb0 hb
  have hfn := hfew.n
  have hklt := (List.getElem?_eq_some_iff.1 hf).1
  have hmem := List.mem_of_getElem? hf
  obtain ⟨hfN, hcd⟩ := hF.code f hmem
  have hsn := hcd.len
  have he : (P.map FnR.cells)[kk.toNat]? = some (FnR.cells f) := by rw [List.getElem?_map, hf]; rfl
  refine joinP_i (fun _ w' => Jok f.code ∧ St w w' [blk g1 [.slice ps.a ps.n ps.c]]) (fun J hJ => ?_) ?_
  · refine loopP_of (fun (i : Int) w' => ∃ dn rest, f.code = dn ++ rest ∧ i = (dn.length : Int) ∧ Jok dn ∧ St w w' [blk g1 [.slice ps.a ps.n ps.c]]) (fun i _ => ((f.code.length : Int) - i).toNat) ⟨[], f.code, rfl, rfl, fun x hx => (by cases hx), h⟩ ?_
    rintro _ w21 ⟨dn, rest, hl, rfl, hjk, h⟩ C hC
    refine ldS_h (g := g1) (o := 0) h rfl (ixR_h (e := FnR.cells f) hF.rws h (by omega) he fun p hp => ldS_i (s := f.sl) (hp h rfl) ?_)
    cases rest with
    | nil =>
      refine iteB_f (by simp only [decide_eq_false_iff_not]; rw [hsn, hl]; simp) (hJ _ _ ⟨?_, h⟩)
      rw [hl]; simpa using hjk
    | cons x rest =>
      have hlen : f.code.length = dn.length + (rest.length + 1) := by rw [hl]; simp
      have hw1 : IntKind.wrap .i64 ((dn.length : Int) + 1) = ((dn ++ [x]).length : Int) := by rw [wrap_id ⟨by omega, by omega⟩]; simp
      have hx : f.code[dn.length]? = some x := by rw [hl]; simp
      refine iteB_t (by simp only [decide_eq_true_eq]; omega) ?_
      refine ldS_h (g := g1) (o := 0) h rfl (ixR_h (e := FnR.cells f) hF.rws h (by omega) he fun p hp => ldS_i (s := f.sl) (hp h rfl) ?_)
      refine ixC_h hcd h (by omega) hx fun p h5 hp => ldA_c (by simp [Go.Ev.ints, h5]) (fun j v => hp h) ?_
      refine newC_h h fun g w31 h => stW_h (g := g) h rfl (by simp [Go.Ev.ints, h5]) (one_agI _) fun w32 h => ?_
      have h : St w w32 [blk g (ints x), blk g1 [.slice ps.a ps.n ps.c]] := h
      refine joinP_i (fun b w' => (b = false → isGoes x = true → 0 ≤ x.getD 4 0 ∧ x.getD 4 0 ≤ 126) ∧ w' = w32) (fun J hJ => ?_) ?_
      · have N : ldI .i64 w32 (Addr.add ⟨g, 0, none⟩ 4) fun i35 =>
              iteB (decide (i35 < (0 : Int))) (
                (J true w32)) (
                ldI .i64 w32 (Addr.add ⟨g, 0, none⟩ 4) fun i36 =>
                (J (decide (i36 > (126 : Int))) w32)) := by
          refine ldI_h (g := g) (o := 4) h (ints_get (by omega)) (iteB_i (fun hb => hJ _ _ ⟨fun q => (by cases q), rfl⟩) fun hb => ?_)
          have h0 := of_decide_eq_false hb
          refine ldI_h (g := g) (o := 4) h (ints_get (by omega)) (hJ _ _ ⟨fun q _ => ?_, rfl⟩)
          have h1 := of_decide_eq_false q
          exact ⟨by omega, by omega⟩
        refine ldI_h (g := g) (o := 0) h (ints_get (by omega)) (iteB_i (fun hb => N) fun hb => ?_)
        have hb6 : (opI x == 6) = false := hb
        refine ldI_h (g := g) (o := 0) h (ints_get (by omega)) (iteB_i (fun hb => N) fun hb => ?_)
        have hb7 : (opI x == 7) = false := hb
        exact hJ _ _ ⟨fun _ q => (by unfold isGoes at q; rw [hb6, hb7] at q; cases q), rfl⟩
      rintro b40 w41 ⟨hb40, rfl⟩
      refine iteB_i (fun hb => done h) fun hb => ?_
      rw [hw1]
      refine hC _ _ ⟨dn ++ [x], rest, by rw [hl]; simp, rfl, fun y hy => ?_, h.drop⟩ (by simp; omega)
      rcases List.mem_append.1 hy with hy | hy
      · exact hjk y hy
      · simp at hy; subst hy
        exact ⟨h5, hb40 hb⟩
  rintro _ w45 ⟨hJ, h⟩
  refine newC_h h fun g46 w47 h => ldS_h (g := g46) (o := 0) h rfl (ldS_h (g := g1) (o := 0) h rfl ?_)
  have hall : ∀ e ∈ P.map FnR.cells, e.length = 2 := fun e he => by obtain ⟨x, hx, rfl⟩ := List.mem_map.1 he; rfl
  have hone : ∀ v ∈ (P.map FnR.cells).flatten, v.oneCell' = true := by
    intro v hv
    obtain ⟨e, he, hv⟩ := List.mem_flatten.1 hv
    obtain ⟨x, hx, rfl⟩ := List.mem_map.1 he
    simp [FnR.cells] at hv
    rcases hv with rfl | rfl <;> rfl
  refine bApp_h (sz := 2) (b := 32) (z := .agg #[.int .i64 0, .slice none 0 0]) (s := ⟨none, 0, 0⟩) (vs := []) (x := ps) (ys := (P.map FnR.cells).flatten) (h.nilS 2) ⟨by kernel_rfl, rfl⟩ (by kernel_rfl) (rws_flat (hF.ext h.ext).rws (by omega)) hone (by simp only; omega) (by simp only; omega) fun s50 w51 h n50 => ?_
  have n50' : s50.n = P.length := by simp only at n50; omega
  have h : St w w51 [slc 2 s50 (P.map FnR.cells).flatten, blk g46 [.slice none 0 0], blk g1 [.slice ps.a ps.n ps.c]] := h
  refine stC_h (g := g46) (o := 0) h rfl (by simp) fun w52 h => drew_h h fun w53 h => ?_
  have h : St w w53 [slc 2 s50 (P.map FnR.cells).flatten, blk g46 [.slice s50.a s50.n s50.c], blk g1 [.slice ps.a ps.n ps.c]] := h
  refine ldS_h (g := g46) (o := 0) h rfl (ldS_h (g := g1) (o := 0) h rfl ?_)
  refine ixR_h (e := FnR.cells f) hF.rws h (by omega) he fun p hp => ldA_c (e := FnR.cells f) rfl (fun j v => hp h) ?_
  have h53 := h
  refine moved_s (needs := f.needs) (s := f.sl) (l := f.code) (hcd.ext h.ext) hJ hl2 fun sm w59 h2 nm => ?_
  have h := h.join h2
  simp only [List.cons_append, List.nil_append] at h
  refine samec_h h53 h ?_
  refine ixS_h (s := s50) (vs := (P.map FnR.cells).flatten) h (by omega) (by omega) (by omega) fun ge oe _ hrd hwr => ?_
  refine ⟨rfl, hwr h inferInstance 0 _ _ (by omega) rfl fun w' h => hwr h inferInstance 1 _ _ (by omega) rfl fun w61 h => ?_⟩
  have hset : ((P.map FnR.cells).flatten.set (kk.toNat * 2 + 0) (.int .i64 f.needs)).set (kk.toNat * 2 + 1) (.slice sm.a sm.n sm.c) = ((P.set kk.toNat ⟨f.needs, sm, movedL f.code⟩).map FnR.cells).flatten := by
    rw [flat_set hall he (by omega), flat_set (e := (FnR.cells f).set 0 (.int .i64 f.needs)) (fun e he => ?_) (List.getElem?_set_self (by rw [List.length_map]; omega)) (by omega)]
    · rw [List.set_set, List.map_set]; rfl
    · rcases List.mem_or_eq_of_mem_set he with he | rfl
      · exact hall e he
      · rfl
  rw [hset] at h
  have hacc := accs_moved (s := sm) hf hJ hl1 hl2
  have hpl := plain_moved (s := sm) hf
  generalize hQ : P.set kk.toNat ⟨f.needs, sm, movedL f.code⟩ = Q at h hacc hpl
  have hQl : Q.length = P.length := by rw [← hQ]; simp
  have h5 : ∀ x ∈ movedL f.code, x.length = 5 ∧ ∀ y ∈ x, InI y := by
    intro x hx
    simp only [movedL] at hx
    rcases List.mem_cons.1 hx with rfl | hx
    · exact ⟨rfl, by decide⟩
    · obtain ⟨y, hy, rfl⟩ := List.mem_map.1 hx
      have hy5 := hcd.five y hy
      refine ⟨by rw [mv_len]; exact hy5.1, fun z hz => ?_⟩
      unfold mv at hz
      split at hz
      · rename_i hg
        rcases List.mem_or_eq_of_mem_set hz with hz | rfl
        · exact hy5.2 z hz
        · have := (hJ y hy).2 hg; exact ⟨by omega, by omega⟩
      · exact hy5.2 z hz
  have hQfew : Few Q := by
    refine ⟨by omega, fun g hg => ?_⟩
    rw [← hQ] at hg
    rcases List.mem_or_eq_of_mem_set hg with hg | rfl
    · exact hfew.c g hg
    · simp only [movedL_len]; omega
  have hQF : ∀ {w'}, St w w' [slc 5 sm (rowsV (movedL f.code)), slc 2 s50 (Q.map FnR.cells).flatten, blk g46 [.slice s50.a s50.n s50.c], blk g1 [.slice ps.a ps.n ps.c]] → Funcs5 w' s50 Q := by
    intro w' h
    refine funcs_own (P := Q) h (fun x hx => ?_) (by rw [hQl]; exact hF.few)
    rw [← hQ] at hx
    rcases List.mem_or_eq_of_mem_set hx with hx | rfl
    · exact ⟨(hF.code x hx).1, (hF.code x hx).2.ext h.ext⟩
    · refine ⟨hfN, code_own (l := movedL f.code) h h5 ?_⟩
      rw [movedL_len]; simp [reachBytes]; omega
  unfold wrFrom
  refine drew_h h fun w62 h => ldW_h (g := g1) h rfl ?_
  refine ldW_h (g := g46) h rfl ?_
  have h62 := h
  refine accepts_s (hF.ext h.ext) fun w66 h2 => ?_
  have h := h.on h2.ext
  refine samec_h h62 h (accepts_s (hQF h) fun w68 h2 => ?_)
  have h := h.on h2.ext
  refine iteB_t ?_ ?_
  · rw [progF_zero, progF_zero]
    have : ((progF P).2.2 == 0) = ((progF Q).2.2 == 0) := by
      rw [Bool.eq_iff_iff, beq_iff_eq, beq_iff_eq, accs_iff, accs_iff]; exact hacc.symm
    rw [this]; simp
  refine ldW_h (g := g1) h rfl ?_
  refine ldW_h (g := g46) h rfl ?_
  have h68 := h
  refine plain_s (hF.ext h.ext) hfew fun w72 h2 => ?_
  have h := h.on h2.ext
  refine samec_h h68 h (plain_s (hQF h) hQfew fun w74 h2 => ?_)
  have h := h.on h2.ext
  exact iteB_t (by rw [hpl]; simp) (done h)
end Go.Proofs.Ytinieegaaimilaa
