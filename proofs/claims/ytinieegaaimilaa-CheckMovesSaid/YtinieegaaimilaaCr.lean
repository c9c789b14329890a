/-
  Layer 4: the judge's four questions.
-/
import Derived.Test.YtinieegaaimilaaCq
set_option linter.unusedSimpArgs false
set_option linter.unusedVariables false
set_option maxRecDepth 100000
namespace Go.Proofs.Ytinieegaaimilaa
open Go Go.Ev Go.Proofs

theorem ixC_h {w0 w : World} {L : List HP} {s : Sl} {l : List (List Int)} {x : List Int} {i : Int} {c : Addr → Prop} (hr : Code5 w0 s l) (h : St w0 w L) (h0 : 0 ≤ i) (hx : l[i.toNat]? = some x)
    (hc : ∀ p : Addr, x.length = 5 → (∀ {w' L'}, St w0 w' L' → ∀ {j v}, (Go.Ev.ints x)[j]? = some v → w'.cell? (p.add j) = some v) → c p) : ixS s i 5 c :=
  ixR_h (e := Go.Ev.ints x) hr.rws h h0 (by rw [List.getElem?_map, hx]; rfl) fun p hp => hc p ((hr.five x (List.mem_of_getElem? hx)).1) hp
theorem samec_e {n : Nat} {a : Addr} {e : List Value} {w w' : World} {c : Prop} (he : n ≤ e.length) (h : ∀ {j v}, e[j]? = some v → w.cell? (a.add j) = some v) (h' : ∀ {j v}, e[j]? = some v → w'.cell? (a.add j) = some v) (hc : c) : samec n a w w' c :=
  ⟨fun k hk => by rw [h (List.getElem?_eq_getElem (by omega)), h' (List.getElem?_eq_getElem (by omega))], hc⟩

theorem chk0 {x : List Int} (h : chk x = 0) : 0 ≤ opI x ∧ opI x < 17 ∧ (isGoes x = true → 0 ≤ x.getD 4 0 ∧ x.getD 4 0 ≤ 127) ∧ (opI x = 8 → 0 ≤ x.getD 4 0 ∧ x.getD 4 0 ≤ 31 ∧ 0 ≤ x.getD 1 0 ∧ x.getD 1 0 ≤ 7) ∧ (opI x = 9 → 0 ≤ x.getD 2 0 ∧ x.getD 2 0 ≤ 7) ∧ (opI x = 10 → 0 ≤ x.getD 3 0 ∧ x.getD 3 0 ≤ 7) := by
  unfold chk at h
  split at h
  · cases h
  · rename_i hno
    split at h
    · rename_i hf
      unfold fits at hf
      rw [List.all_eq_true] at hf
      have f0 := hf 0 (by decide)
      have f1 := hf 1 (by decide)
      have f2 := hf 2 (by decide)
      have f3 := hf 3 (by decide)
      refine ⟨by omega, by omega, fun hg => ?_, fun ho => ?_, fun ho => ?_, fun ho => ?_⟩
      · have : opI x = 6 ∨ opI x = 7 := by unfold isGoes at hg; simpa using hg
        unfold fit at f3
        rcases this with ho | ho <;> rw [ho] at f3 <;> simp [kinds, kflat, spanOf] at f3 ⊢ <;> omega
      · unfold fit at f3 f0
        rw [ho] at f3 f0; simp [kinds, kflat, spanOf] at f3 f0 ⊢; omega
      · unfold fit at f1
        rw [ho] at f1; simp [kinds, kflat, spanOf] at f1 ⊢; omega
      · unfold fit at f2
        rw [ho] at f2; simp [kinds, kflat, spanOf] at f2 ⊢; omega
    · cases h

section
variable {w0 w : World} {gj : Nat} {ps s sd sh : Sl} {P : List FnR} {l : List (List Int)} {D H : List Int} {R : List HP} {i : Nat} {x : List Int} {k : Int → World → Prop}

theorem places_s (h : St w0 w (blk gj [.slice ps.a ps.n ps.c, .slice s.a s.n s.c, .slice sd.a sd.n sd.c, .slice sh.a sh.n sh.c] :: R)) (hr : Code5 w0 s l) (hx : l[i]? = some x) (hpn : ps.n = P.length)
    (hc : ∀ w', St w0 w' (blk gj [.slice ps.a ps.n ps.c, .slice s.a s.n s.c, .slice sd.a sd.n sd.c, .slice sh.a sh.n sh.c] :: R) → k (placesE P.length l.length x) w') : check_judge_places (some ⟨gj, 0, none⟩) (i : Int) w k := by
  have hsn := hr.len
  unfold check_judge_places check_judge_places_b
  refine nn_i (ldS_h (g := gj) (o := 1) h rfl (ixC_h hr h (by omega) hx fun p h5 hp => ldA_c (by simp [Go.Ev.ints, h5]) (fun j v => hp h) ?_))
  refine newC_h h fun g w6 h => stW_h (g := g) h rfl (by simp [Go.Ev.ints, h5]) (one_agI _) fun w7 h => ?_
  have h : St w0 w7 (blk g (ints x) :: blk gj [.slice ps.a ps.n ps.c, .slice s.a s.n s.c, .slice sd.a sd.n sd.c, .slice sh.a sh.n sh.c] :: R) := h
  refine joinP_i (fun b w' => b = ((isGoes x && decide (x.getD 4 0 ≥ l.length)) || ((opI x == 8) && decide (x.getD 4 0 ≥ P.length))) ∧ St w0 w' (blk g (ints x) :: blk gj [.slice ps.a ps.n ps.c, .slice s.a s.n s.c, .slice sd.a sd.n sd.c, .slice sh.a sh.n sh.c] :: R)) (fun J hJ => ?_) ?_
  · refine drew_h h fun w9 h => ldI_h (g := g) (o := 0) h (ints_get (by omega)) ?_
    have second : (isGoes x && decide (x.getD 4 0 ≥ l.length)) = false → ldI .i64 w9 (Addr.add ⟨g, 0, none⟩ 0) fun i16 =>
        iteB (i16 == (8 : Int)) (
          ldI .i64 w9 (Addr.add ⟨g, 0, none⟩ 4) fun i17 =>
          nn (some ⟨gj, 0, none⟩) fun a18 =>
          ldS w9 (Addr.add (Addr.add a18 0) 0) fun s19 =>
          (J (decide (i17 ≥ ((s19.n : Nat) : Int))) w9)) (
          (J false w9)) := by
      intro ha
      refine ldI_h (g := g) (o := 0) h (ints_get (by omega)) (iteB_i (fun hb => ?_) fun hb => ?_)
      · refine ldI_h (g := g) (o := 4) h (ints_get (by omega)) (nn_i (ldS_h (g := gj) (o := 0) h rfl (hJ _ _ ⟨?_, h⟩)))
        have hb' : (opI x == 8) = true := hb
        dsimp only; rw [ha, hb', hpn]; rfl
      · refine hJ _ _ ⟨?_, h⟩
        have hb' : (opI x == 8) = false := hb
        rw [ha, hb']; rfl
    show iteB _ _ _
    refine iteB_i (fun hg => ?_) fun hg => ?_
    · have hg' : isGoes x = true := hg
      refine ldI_h (g := g) (o := 4) h (ints_get (by omega)) (nn_i (ldS_h (g := gj) (o := 1) h rfl (iteB_i (fun hb => ?_) fun hb => ?_)))
      · refine hJ _ _ ⟨?_, h⟩
        dsimp only at hb
        rw [hsn] at hb
        rw [hg', hb]; rfl
      · dsimp only at hb
        rw [hsn] at hb
        exact second (by rw [hg', hb]; rfl)
    · have hg' : isGoes x = false := hg
      exact second (by rw [hg']; rfl)
  rintro b w25 ⟨rfl, h⟩
  unfold placesE at hc
  refine iteB_i (fun hb => ?_) fun hb => ?_
  · rw [hb] at hc; exact hc _ h.drop
  · rw [hb] at hc; exact hc _ h.drop

theorem last_s (h : St w0 w (blk gj [.slice ps.a ps.n ps.c, .slice s.a s.n s.c, .slice sd.a sd.n sd.c, .slice sh.a sh.n sh.c] :: R)) (hr : Code5 w0 s l) (hx : l[i]? = some x) (hn : l.length ≤ 1000)
    (hc : ∀ w', St w0 w' (blk gj [.slice ps.a ps.n ps.c, .slice s.a s.n s.c, .slice sd.a sd.n sd.c, .slice sh.a sh.n sh.c] :: R) → k (lastE l.length i x) w') : check_judge_last (some ⟨gj, 0, none⟩) (i : Int) w k := by
  have hsn := hr.len
  unfold check_judge_last check_judge_last_b
  refine nn_i (ldS_h (g := gj) (o := 1) h rfl (ixC_h hr h (by omega) hx fun p h5 hp => ldI_i (hp h (ints_get (by omega))) ?_))
  refine joinP_i (fun b w' => b = (((i : Int) == (l.length : Int) - 1) && (opI x != 6) && !isEnds x) ∧ w' = w) (fun J hJ => ?_) ?_
  · refine nn_i (ldS_h (g := gj) (o := 1) h rfl ?_)
    have hw : IntKind.wrap .i64 (((s.n : Nat) : Int) - 1) = (l.length : Int) - 1 := by rw [hsn, wrap_id ⟨by omega, by omega⟩]
    dsimp only
    rw [hw]
    refine iteB_i (fun hb => ?_) fun hb => ?_
    · exact hJ _ _ ⟨by have hb' : ((i : Int) == (l.length : Int) - 1 && (opI x != 6)) = true := hb
                       rw [hb']; rfl, rfl⟩
    · exact hJ _ _ ⟨by have hb' : ((i : Int) == (l.length : Int) - 1 && (opI x != 6)) = false := hb
                       rw [hb']; rfl, rfl⟩
  rintro b w25 ⟨rfl, rfl⟩
  unfold lastE at hc
  refine iteB_i (fun hb => ?_) fun hb => ?_
  · rw [hb] at hc; exact hc _ h
  · rw [hb] at hc; exact hc _ h

theorem scopes_s (h : St w0 w (blk gj [.slice ps.a ps.n ps.c, .slice s.a s.n s.c, .slice sd.a sd.n sd.c, .slice sh.a sh.n sh.c] :: slc 1 sd (ints D) :: R)) (hr : Code5 w0 s l) (hx : l[i]? = some x) (hn : l.length ≤ 1000) (hD : D.length = l.length)
    (h0 : isGoes x = true → 0 ≤ x.getD 4 0 ∧ x.getD 4 0 < l.length)
    (hc : ∀ w', St w0 w' (blk gj [.slice ps.a ps.n ps.c, .slice s.a s.n s.c, .slice sd.a sd.n sd.c, .slice sh.a sh.n sh.c] :: slc 1 sd (ints D) :: R) → k (if scopesOk D i x then 0 else 15) w') : check_judge_scopes (some ⟨gj, 0, none⟩) (i : Int) w k := by
  have hsn := hr.len
  have hil : i < l.length := (List.getElem?_eq_some_iff.1 hx).1
  unfold check_judge_scopes
  refine drew_h h fun w1 h => ?_
  refine nn_i (ldS_h (g := gj) (o := 1) h rfl (ixC_h hr h (by omega) hx fun p h5 hp => ldA_c (by simp [Go.Ev.ints, h5]) (fun j v => hp h) ?_))
  refine nn_i (ldS_h (g := gj) (o := 2) h rfl ?_)
  have hdn : D.length = sd.n := by have := h.slen (sz := 1) (s := sd) (vs := ints D); simpa using this
  refine ixS_h (s := sd) (vs := ints D) h (by omega) (by omega) (by omega) fun gd od _ hrd _ => ?_
  have hget : (ints D)[((i : Nat) : Int).toNat * 1 + 0]? = some (.int .i64 (D.getD i 0)) := by
    rw [show ((i : Nat) : Int).toNat * 1 + 0 = i by omega]; exact ints_getD (by omega)
  refine ldI_i (hrd h 0 _ (by omega) hget) ?_
  have h1 := h
  refine newC_h h fun g w11 h => ?_
  refine samec_1 (hrd h1 0 _ (by omega) hget) (hrd h 0 _ (by omega) hget) ?_
  refine samec_h h1 h ?_
  refine samec_e (e := ints x) (by simp [Go.Ev.ints, h5]) (fun {j v} => hp h1) (fun {j v} => hp h) ?_
  refine samec_h h1 h ?_
  refine stW_h (g := g) h rfl (by simp [Go.Ev.ints, h5]) (one_agI _) fun w12 h => ?_
  refine samec_1 (hrd h1 0 _ (by omega) hget) (hrd h 0 _ (by omega) hget) ?_
  refine samec_h h1 h ?_
  have h : St w0 w12 (blk g (ints x) :: blk gj [.slice ps.a ps.n ps.c, .slice s.a s.n s.c, .slice sd.a sd.n sd.c, .slice sh.a sh.n sh.c] :: slc 1 sd (ints D) :: R) := h
  refine ldI_h (g := g) (o := 0) h (ints_get (by omega)) ?_
  refine joinP_i (fun b w' => b = ((opI x == 12) || (opI x == 13)) ∧ w' = w12) (fun J hJ => ?_) ?_
  · refine iteB_i (fun hb => ?_) fun hb => ?_
    · have hb' : (opI x == 12) = true := hb
      exact hJ _ _ ⟨by rw [hb']; rfl, rfl⟩
    · have hb' : (opI x == 12) = false := hb
      exact hJ _ _ ⟨by rw [hb']; rfl, rfl⟩
  rintro b15 w16 ⟨rfl, rfl⟩
  refine joinP_i (fun b w' => b = scopesOk D i x ∧ St w0 w' (blk g (ints x) :: blk gj [.slice ps.a ps.n ps.c, .slice s.a s.n s.c, .slice sd.a sd.n sd.c, .slice sh.a sh.n sh.c] :: slc 1 sd (ints D) :: R)) (fun J hJ => ?_) ?_
  · unfold scopesOk at hJ
    refine iteB_i (fun hb => ?_) fun hb => ?_
    · rw [if_pos hb] at hJ; exact hJ _ _ ⟨rfl, h⟩
    · rw [if_neg (by rw [hb]; simp)] at hJ
      refine iteB_i (fun hb2 => ?_) fun hb2 => ?_
      · have hb' : (opI x == 16) = true := hb2
        rw [if_pos hb'] at hJ; exact hJ _ _ ⟨rfl, h⟩
      · have hb' : (opI x == 16) = false := hb2
        rw [if_neg (by rw [hb']; simp)] at hJ
        refine joinP_i (fun b w' => b = isGoes x ∧ w' = w16) (fun J2 hJ2 => ?_) ?_
        · refine iteB_i (fun hb => ?_) fun hb => ?_
          · have hb' : (opI x == 6) = true := hb
            exact hJ2 _ _ ⟨by unfold isGoes; rw [hb']; rfl, rfl⟩
          · have hb' : (opI x == 6) = false := hb
            exact hJ2 _ _ ⟨by unfold isGoes; rw [hb']; rfl, rfl⟩
        rintro b19 w20 ⟨rfl, rfl⟩
        refine iteB_i (fun hg => ?_) fun hg => ?_
        · rw [if_pos hg] at hJ
          have hN := h0 hg
          refine drew_h h fun w21 h => nn_i (ldS_h (g := gj) (o := 2) h rfl (ldI_h (g := g) (o := 4) h (ints_get (by omega)) ?_))
          refine ixI_h (s := sd) (xs := D) h hN.1 (by omega) ?_
          exact hJ _ _ ⟨rfl, h⟩
        · rw [if_neg (by rw [hg]; simp)] at hJ
          exact hJ _ _ ⟨rfl, h⟩
  rintro b27 w28 ⟨rfl, h⟩
  refine iteB_i (fun hb => ?_) fun hb => ?_
  · have hb' : scopesOk D i x = false := by simpa using hb
    rw [hb'] at hc; exact hc _ h.drop
  · have hb' : scopesOk D i x = true := by simpa using hb
    rw [hb'] at hc; exact hc _ h.drop
end
end Go.Proofs.Ytinieegaaimilaa
