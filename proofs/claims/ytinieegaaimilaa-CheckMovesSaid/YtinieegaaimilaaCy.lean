/-
  Layer 4: the law of functions that need more.
-/
import Derived.Test.YtinieegaaimilaaCx
set_option linter.unusedSimpArgs false
set_option linter.unusedVariables false
set_option maxRecDepth 100000
namespace Go.Proofs.Ytinieegaaimilaa
open Go Go.Ev Go.Proofs

/-! ### the plain law -/
theorem chk_codes (x : List Int) : chk x = 0 ∨ chk x = 10 ∨ chk x = 13 := by
  unfold chk; split
  · exact .inr (.inr rfl)
  · split
    · exact .inl rfl
    · exact .inr (.inl rfl)
theorem firstBad_code : ∀ {l : List (List Int)} {i : Nat}, (firstBad i l).2 ≠ 16
  | [], i => by simp [firstBad]
  | x :: l, i => by
    unfold firstBad; split
    · have := chk_codes x; simp only; omega
    · exact firstBad_code
theorem shapeF_code (needs : Int) (l : List (List Int)) : (shapeF needs l).2 ≠ 16 := by
  unfold shapeF; split
  · simp
  · split
    · simp
    · exact firstBad_code
theorem shapes_code : ∀ {l : List FnR} {k : Nat} {x : Int × Int × Int}, shapes k l = some x → x.2.2 ≠ 16
  | [], _, _, h => by cases h
  | f :: l, k, x, h => by
    unfold shapes at h
    split at h
    · cases h; exact shapeF_code _ _
    · exact shapes_code h
theorem faults_some {P : List FnR} : ∀ {l : List FnR} {k : Nat} {a i e : Int}, faults P k l = some (a, i, e) → ∃ m f, l[m]? = some f ∧ a = ((k + m : Nat) : Int) ∧ fault1 P f = some (i, e)
  | [], _, _, _, _, h => by cases h
  | f :: l, k, a, i, e, h => by
    unfold faults at h
    split at h
    · rename_i i' e' he
      cases h
      exact ⟨0, f, rfl, rfl, he⟩
    · obtain ⟨m, g, h1, h2, h3⟩ := faults_some h
      exact ⟨m + 1, g, by simpa using h1, by rw [h2]; congr 1; omega, h3⟩
theorem funcFault_at {P : List FnR} {n : Nat} {D H : List Int} : ∀ {l : List (List Int)} {i : Nat} {a e : Int}, funcFault P n D H i l = some (a, e) → ∃ m x, l[m]? = some x ∧ a = ((i + m : Nat) : Int) ∧ wrongF P n D H (i + m) x = e
  | [], _, _, _, h => by cases h
  | x :: l, i, a, e, h => by
    unfold funcFault at h
    split at h
    · cases h; exact ⟨0, x, rfl, rfl, rfl⟩
    · obtain ⟨m, y, h1, h2, h3⟩ := funcFault_at h
      exact ⟨m + 1, y, by simpa using h1, by rw [h2]; congr 1; omega, by rw [show i + (m + 1) = i + 1 + m by omega]; exact h3⟩
section
variable {P : List FnR} {n : Nat} {D H : List Int} {i : Nat} {x : List Int}
theorem ask_v0 : askE P n D H i x 0 = 0 ∨ askE P n D H i x 0 = 10 := by
  show placesE P.length n x = 0 ∨ placesE P.length n x = 10
  unfold placesE; split <;> simp
theorem ask_v1 : askE P n D H i x 1 = 0 ∨ askE P n D H i x 1 = 11 := by
  show lastE n i x = 0 ∨ lastE n i x = 11
  unfold lastE; split <;> simp
theorem ask_v2 : askE P n D H i x 2 = 0 ∨ askE P n D H i x 2 = 15 := by
  show (if scopesOk D i x then (0 : Int) else 15) = 0 ∨ (if scopesOk D i x then (0 : Int) else 15) = 15
  split <;> simp
theorem wrong16 (h : wrongF P n D H i x = 16) : handlesOk P (H.getD i 0) x = false := by
  unfold wrongF at h
  split at h
  · rcases ask_v0 (P := P) (n := n) (D := D) (H := H) (i := i) (x := x) with e | e <;> rw [e] at h <;> omega
  · split at h
    · rcases ask_v1 (P := P) (n := n) (D := D) (H := H) (i := i) (x := x) with e | e <;> rw [e] at h <;> omega
    · split at h
      · rcases ask_v2 (P := P) (n := n) (D := D) (H := H) (i := i) (x := x) with e | e <;> rw [e] at h <;> omega
      · have h : (if handlesOk P (H.getD i 0) x then (0 : Int) else 16) = 16 := h
        cases q : handlesOk P (H.getD i 0) x with
        | false => rfl
        | true => rw [q] at h; simp at h
end
theorem held_all {l : List (List Int)} {i : Nat} (h : i < l.length) : (heldL l 255).getD i 0 = 255 := by
  rw [heldL_get h]
  have : rs (heldB l 255 (i : Int)) 8 = rs (fun _ => true) 8 := rs_congr fun h hh => heldB_iff.2 (.inl (tb255 hh))
  rw [this]; rfl
theorem handles_all {P : List FnR} {x : List Int} (hx : chk x = 0) : handlesOk P 255 x = true := by
  obtain ⟨_, _, _, _, h9, h10⟩ := chk0 hx
  unfold handlesOk
  split
  · rename_i q
    have := h9 (by simpa using q)
    exact tb255 (by omega)
  · split
    · rename_i q
      have := h10 (by simpa using q)
      exact tb255 (by omega)
    · split
      · exact subBits_iff.2 fun h hh _ => tb255 hh
      · rfl
theorem needs_plain {P : List FnR} {k : Nat} {sl : Sl} {code : List (List Int)} (hk : P[k]? = some ⟨255, sl, code⟩) (h1 : 1 ≤ k) : ¬ ((progF P).1 = (k : Int) ∧ (progF P).2.2 = 16) := by
  rintro ⟨ha, he⟩
  unfold progF at ha he
  split at ha
  · exfalso; dsimp only at ha; omega
  · rename_i hno
    rw [if_neg hno] at he
    cases hs : shapes 0 P with
    | some x => rw [hs] at he; exact shapes_code hs he
    | none =>
      rw [hs] at he ha
      simp only at he ha
      split at ha
      · exfalso; dsimp only at ha; omega
      · rename_i hn0
        rw [if_neg hn0] at he
        cases hf : faults P 0 P with
        | none => rw [hf] at he; simp at he
        | some x =>
          obtain ⟨a, i, e⟩ := x
          rw [hf] at he ha
          simp only at he ha
          subst he ha
          obtain ⟨m, f, hm, hkm, hfl⟩ := faults_some hf
          obtain rfl : m = k := by omega
          rw [hk] at hm; cases hm
          unfold fault1 at hfl
          obtain ⟨j, x, hx, _, hw⟩ := funcFault_at hfl
          have hh := wrong16 hw
          have hj : j < code.length := (List.getElem?_eq_some_iff.1 hx).1
          rw [Nat.zero_add, held_all hj] at hh
          have hok := (shape_zero (shapes_none hs _ (List.mem_of_getElem? hk))).2.2.2.2 x (List.mem_of_getElem? hx)
          rw [handles_all hok] at hh; cases hh

theorem law_needs {w : World} {ps : Sl} {P : List FnR} {kk : Int} {k : Bool → World → Prop} (hF : Funcs5 w ps P) (hc : ∀ w', St w w' [] → k true w') : pelotonlaw04_CheckNeeds #[.slice ps.a ps.n ps.c] kk w k := by
  have hpn := hF.len
  unfold pelotonlaw04_CheckNeeds pelotonlaw04_CheckNeeds_b
  refine newC_h (.nil w) fun g1 w2 h => ?_
  refine joinP_i (fun b w' => (b = false → Few P ∧ 1 ≤ kk ∧ kk < P.length) ∧ St w w' [blk g1 [.slice ps.a ps.n ps.c]]) (fun J hJ => ?_) ?_
  · refine ldW_h (g := g1) h rfl ?_
    refine few_s (hF.ext h.ext) fun b w6 h2 hfew => ?_
    have h := h.on h2.ext
    refine iteB_i (fun hb => hJ _ _ ⟨fun q => (by cases q), h⟩) fun hb => ?_
    simp only [Bool.or_eq_false_iff, Bool.not_eq_false', decide_eq_false_iff_not] at hb
    refine ldS_h (g := g1) (o := 0) h rfl (hJ _ _ ⟨fun q => ?_, h⟩)
    have := of_decide_eq_false q
    dsimp only at this
    exact ⟨hfew hb.1, by omega, by omega⟩
  rintro b w9 ⟨hb0, h⟩
  refine iteB_i (fun hb => awake_s fun w' h2 => hc w' (h.all.on h2.ext)) fun hb => ?_
  obtain ⟨hfew, hk1, hk2⟩ := hb0 hb
  have hfn := hfew.n
  obtain ⟨f, hf⟩ : ∃ f, P[kk.toNat]? = some f := ⟨_, List.getElem?_eq_getElem (by omega)⟩
  have hfc := hfew.c f (List.mem_of_getElem? hf)
  have hcd := (hF.code f (List.mem_of_getElem? hf)).2
  have hsn := hcd.len
  refine newC_h h fun g12 w13 h => ldS_h (g := g12) (o := 0) h rfl (ldS_h (g := g1) (o := 0) h rfl ?_)
  have hall : ∀ e ∈ P.map FnR.cells, e.length = 2 := fun e he => by obtain ⟨x, hx, rfl⟩ := List.mem_map.1 he; rfl
  have hone : ∀ v ∈ (P.map FnR.cells).flatten, v.oneCell' = true := by
    intro v hv
    obtain ⟨e, he, hv⟩ := List.mem_flatten.1 hv
    obtain ⟨x, hx, rfl⟩ := List.mem_map.1 he
    simp [FnR.cells] at hv
    rcases hv with rfl | rfl <;> rfl
  refine bApp_h (sz := 2) (b := 32) (z := .agg #[.int .i64 0, .slice none 0 0]) (s := ⟨none, 0, 0⟩) (vs := []) (x := ps) (ys := (P.map FnR.cells).flatten) (h.nilS 2) ⟨by kernel_rfl, rfl⟩ (by kernel_rfl) (rws_flat (hF.ext h.ext).rws (by omega)) hone (by simp only; omega) (by simp only; omega) fun s16 w17 h n16 => ?_
  have n16' : s16.n = P.length := by simp only at n16; omega
  have h : St w w17 [slc 2 s16 (P.map FnR.cells).flatten, blk g12 [.slice none 0 0], blk g1 [.slice ps.a ps.n ps.c]] := h
  refine stC_h (g := g12) (o := 0) h rfl (by simp) fun w18 h => drew_h h fun w19 h => ?_
  have h : St w w19 [slc 2 s16 (P.map FnR.cells).flatten, blk g12 [.slice s16.a s16.n s16.c], blk g1 [.slice ps.a ps.n ps.c]] := h
  have he : (P.map FnR.cells)[kk.toNat]? = some (FnR.cells f) := by rw [List.getElem?_map, hf]; rfl
  refine ldS_h (g := g12) (o := 0) h rfl (ldS_h (g := g1) (o := 0) h rfl ?_)
  refine ixR_h (e := FnR.cells f) hF.rws h (by omega) he fun p hp => ldS_i (s := f.sl) (hp h rfl) (samec_self ?_)
  refine ixS_h (s := s16) (vs := (P.map FnR.cells).flatten) h (by omega) (by omega) (by omega) fun ge oe _ hrd hwr => ?_
  refine ⟨rfl, hwr h inferInstance 0 _ _ (by omega) rfl fun w' h => hwr h inferInstance 1 _ _ (by omega) rfl fun w25 h => ?_⟩
  have hset : ((P.map FnR.cells).flatten.set (kk.toNat * 2 + 0) (.int .i64 255)).set (kk.toNat * 2 + 1) (.slice f.sl.a f.sl.n f.sl.c) = ((P.set kk.toNat ⟨255, f.sl, f.code⟩).map FnR.cells).flatten := by
    rw [flat_set hall he (by omega), flat_set (e := (FnR.cells f).set 0 (.int .i64 255)) (fun e he => ?_) (List.getElem?_set_self (by rw [List.length_map]; omega)) (by omega)]
    · rw [List.set_set, List.map_set]; rfl
    · rcases List.mem_or_eq_of_mem_set he with he | rfl
      · exact hall e he
      · rfl
  rw [hset] at h
  generalize hQ : P.set kk.toNat ⟨255, f.sl, f.code⟩ = Q at h
  have hQk : Q[kk.toNat]? = some ⟨255, f.sl, f.code⟩ := by rw [← hQ]; exact List.getElem?_set_self (by omega)
  have hQl : Q.length = P.length := by rw [← hQ]; simp
  have hQF : ∀ {w'}, St w w' [slc 2 s16 (Q.map FnR.cells).flatten, blk g12 [.slice s16.a s16.n s16.c], blk g1 [.slice ps.a ps.n ps.c]] → Funcs5 w' s16 Q := by
    intro w' h
    refine funcs_own (P := Q) h (fun x hx => ?_) (by rw [hQl]; exact hF.few)
    rw [← hQ] at hx
    rcases List.mem_or_eq_of_mem_set hx with hx | rfl
    · exact ⟨(hF.code x hx).1, (hF.code x hx).2.ext h.ext⟩
    · exact ⟨show InI 255 by decide, hcd.ext h.ext⟩
  refine ldS_h (g := g1) (o := 0) h rfl ?_
  refine ixR_h (e := FnR.cells f) hF.rws h (by omega) he fun p hp => ldA_c (e := FnR.cells f) rfl (fun j v => hp h) ?_
  refine heldL_s (needs := f.needs) (hcd.ext h.ext) (by omega) fun s29 w30 h2 n29 => ?_
  have hj := h.join h2
  simp only [List.cons_append, List.nil_append] at hj
  have h := h.on h2.ext
  refine ldS_h (g := g12) (o := 0) h rfl ?_
  refine ixR_h (e := FnR.cells ⟨255, f.sl, f.code⟩) (hQF h).rws (St.nil w30) (by omega) (by rw [List.getElem?_map, hQk]; rfl) fun p hp => ldA_c (e := FnR.cells ⟨255, f.sl, f.code⟩) rfl (fun j v => hp (St.nil w30)) ?_
  refine heldL_s (needs := 255) (hcd.ext h.ext) (by omega) fun s34 w35 h2 n34 => ?_
  have h := hj.join h2
  simp only [List.cons_append, List.nil_append] at h
  refine joinP_i (fun b w' => b = false ∧ w' = w35) (fun J hJ => ?_) ?_
  · refine iteB_f (by rw [n29, n34]; simp) ?_
    refine ldS_h (g := g1) (o := 0) h rfl ?_
    refine ixR_h (e := FnR.cells f) hF.rws h (by omega) he fun p hp => ldS_i (s := f.sl) (hp h rfl) ?_
    exact hJ _ _ ⟨by rw [n29, hsn]; simp, rfl⟩
  rintro b w41 ⟨rfl, rfl⟩
  refine iteB_f rfl ?_
  refine joinP_i (fun _ w' => St w w' [slc 2 s16 (Q.map FnR.cells).flatten, blk g12 [.slice s16.a s16.n s16.c], blk g1 [.slice ps.a ps.n ps.c]]) (fun J hJ => ?_) fun _ w57 h => ?_
  · refine loopP_of (fun (i : Int) w' => ∃ j : Nat, i = j ∧ j ≤ s29.n ∧ St w w' [slc 1 s34 (ints (heldL f.code 255)), slc 1 s29 (ints (heldL f.code f.needs)), slc 2 s16 (Q.map FnR.cells).flatten, blk g12 [.slice s16.a s16.n s16.c], blk g1 [.slice ps.a ps.n ps.c]]) (fun i _ => ((s29.n : Int) - i).toNat) ⟨0, rfl, by omega, h⟩ ?_
    rintro _ w45 ⟨j, rfl, hjn, h⟩ C hC
    refine iteB_i (fun hb => ?_) fun hb => ?_
    · have hlt : j < s29.n := by have := of_decide_eq_true hb; omega
      have hw1 : IntKind.wrap .i64 ((j : Int) + 1) = ((j + 1 : Nat) : Int) := by rw [wrap_id ⟨by omega, by omega⟩]; simp
      refine joinP_i (fun b w' => b = false ∧ St w w' [slc 1 s34 (ints (heldL f.code 255)), slc 1 s29 (ints (heldL f.code f.needs)), slc 2 s16 (Q.map FnR.cells).flatten, blk g12 [.slice s16.a s16.n s16.c], blk g1 [.slice ps.a ps.n ps.c]]) (fun J hJ => ?_) ?_
      · have hl1 : (heldL f.code 255).length = f.code.length := heldL_len _ _
        have hl2 : (heldL f.code f.needs).length = f.code.length := heldL_len _ _
        refine drew_h h fun w47 h => ixI_h (s := s34) (xs := heldL f.code 255) h (by omega) (by omega) ?_
        rw [Int.toNat_natCast, held_all (by omega)]
        refine iteB_f (by simp) ?_
        refine ixI_h (s := s29) (xs := heldL f.code f.needs) h (by omega) (by omega) (ixI_h (s := s34) (xs := heldL f.code 255) h (by omega) (by omega) ?_)
        rw [Int.toNat_natCast, held_all (by omega), heldL_get (by omega)]
        have hbd := rs_bounds (heldB f.code f.needs (j : Int)) 8
        refine hJ _ _ ⟨?_, h⟩
        rw [andNot_sub hbd.1 (by omega), subBits_iff.2 fun h hh _ => tb255 hh]; rfl
      rintro b w55 ⟨rfl, h⟩
      refine iteB_f rfl ?_
      rw [hw1]
      exact hC _ _ ⟨j + 1, rfl, hlt, h⟩ (by omega)
    · exact hJ _ _ h.drop.drop
  · refine ldW_h (g := g12) h rfl ?_
    refine program_s (hQF h) fun w60 h2 => ?_
    have h := h.on h2.ext
    refine newC_h h fun g61 w62 h => stW_h (g := g61) h rfl rfl (one_agI _) fun w63 h => ?_
    refine ldI_h (g := g61) (o := 0) (n := (progF Q).1) h rfl (iteB_i (fun hb => awake_s fun w' h2 => hc w' (h.all.on h2.ext)) fun hb => ?_)
    refine ldI_h (g := g61) (o := 2) (n := (progF Q).2.2) h rfl (iteB_i (fun hb => awake_s fun w' h2 => hc w' (h.all.on h2.ext)) fun hb2 => ?_)
    refine (needs_plain hQk (by omega) ⟨?_, by simpa using hb2⟩).elim
    have : (progF Q).1 = kk := by simpa using hb
    omega
end Go.Proofs.Ytinieegaaimilaa
