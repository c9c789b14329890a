/-
  Layer 4: the document's answer: what is wrong with an instruction.
-/
import Derived.Test.YtinieegaaimilaaCy
set_option linter.unusedSimpArgs false
set_option linter.unusedVariables false
set_option maxRecDepth 100000
namespace Go.Proofs.Ytinieegaaimilaa
open Go Go.Ev Go.Proofs

def placesB (nf n : Nat) (x : List Int) : Bool := (isGoes x && decide (x.getD 4 0 ≥ n)) || ((opI x == 8) && decide (x.getD 4 0 ≥ nf))
def lastB (n : Nat) (i : Nat) (x : List Int) : Bool := ((i : Int) == (n : Int) - 1) && (opI x != 6) && !isEnds x
section
variable {P : List FnR} {n : Nat} {D H : List Int} {i : Nat} {x : List Int}
theorem wrong_1 (h : placesB P.length n x = true) : wrongF P n D H i x = 10 := by
  have e : askE P n D H i x 0 = 10 := if_pos h
  unfold wrongF; rw [e]; rfl
theorem ask0 (h : placesB P.length n x = false) : askE P n D H i x 0 = 0 := if_neg (by unfold placesB at h; rw [h]; simp)
theorem wrong_2 (h : placesB P.length n x = false) (h2 : lastB n i x = true) : wrongF P n D H i x = 11 := by
  have e : askE P n D H i x 1 = 11 := if_pos h2
  unfold wrongF; rw [ask0 h, e]; rfl
theorem ask1 (h2 : lastB n i x = false) : askE P n D H i x 1 = 0 := if_neg (by unfold lastB at h2; rw [h2]; simp)
theorem wrong_3 (h : placesB P.length n x = false) (h2 : lastB n i x = false) (h3 : scopesOk D i x = false) : wrongF P n D H i x = 15 := by
  have e : askE P n D H i x 2 = 15 := if_neg (by rw [h3]; simp)
  unfold wrongF; rw [ask0 h, ask1 h2, e]; rfl
theorem wrong_4 (h : placesB P.length n x = false) (h2 : lastB n i x = false) (h3 : scopesOk D i x = true) : wrongF P n D H i x = if handlesOk P (H.getD i 0) x then 0 else 16 := by
  have e : askE P n D H i x 2 = 0 := if_pos h3
  unfold wrongF; rw [ask0 h, ask1 h2, e]; rfl
theorem places_in (h : placesB P.length n x = false) : (isGoes x = true → x.getD 4 0 < n) ∧ (opI x = 8 → x.getD 4 0 < P.length) := by
  unfold placesB at h
  rw [Bool.or_eq_false_iff] at h
  refine ⟨fun hg => ?_, fun ho => ?_⟩
  · have := h.1
    rw [hg, Bool.true_and] at this
    have := of_decide_eq_false this
    omega
  · have := h.2
    rw [show (opI x == 8) = true by simpa using ho, Bool.true_and] at this
    have := of_decide_eq_false this
    omega
end
theorem bitB_tb {n h : Int} (hn : InI n) (h0 : 0 ≤ h) (h1 : h < 64) : bitB n h = tb n h.toNat := and1 hn h0 h1

theorem wrong_s {w0 w : World} {ps s sd sh : Sl} {P : List FnR} {l : List (List Int)} {D H : List Int} {R : List HP} {needs : Int} {i : Nat} {x : List Int} {k : Int → World → Prop}
    (h : St w0 w (slc 1 sd (ints D) :: slc 1 sh (ints H) :: R)) (hr : Code5 w0 s l) (hF : Funcs5 w0 ps P) (hx : l[i]? = some x) (hn : l.length ≤ 1000) (hD : D.length = l.length) (hH : H.length = l.length)
    (hok : chk x = 0) (hHb : ∀ v ∈ H, 0 ≤ v ∧ v ≤ 255)
    (hc : ∀ w', St w0 w' (slc 1 sd (ints D) :: slc 1 sh (ints H) :: R) → k (wrongF P l.length D H i x) w') : pelotonref04_wrong #[.slice ps.a ps.n ps.c] #[.int .i64 needs, .slice s.a s.n s.c] (i : Int) sd sh w k := by
  have hsn := hr.len
  have hpn := hF.len
  have hil : i < l.length := (List.getElem?_eq_some_iff.1 hx).1
  obtain ⟨_, _, hkg, hk8, hk9, hk10⟩ := chk0 hok
  unfold pelotonref04_wrong pelotonref04_wrong_b
  refine newC_h h fun g1 w2 h => newC_h h fun g3 w4 h => ldS_h (g := g3) (o := 1) h rfl ?_
  refine ixC_h hr h (by omega) hx fun p h5 hp => ldA_c (by simp [Go.Ev.ints, h5]) (fun j v => hp h) ?_
  refine newC_h h fun g w6 h => stW_h (g := g) h rfl (by simp [Go.Ev.ints, h5]) (one_agI _) fun w10 h => ?_
  have h : St w0 w10 (blk g (ints x) :: blk g3 [.int .i64 needs, .slice s.a s.n s.c] :: blk g1 [.slice ps.a ps.n ps.c] :: slc 1 sd (ints D) :: slc 1 sh (ints H) :: R) := h
  refine joinP_i (fun b w' => b = isGoes x ∧ w' = w10) (fun J hJ => ?_) ?_
  · refine ldI_h (g := g) (o := 0) h (ints_get (by omega)) (iteB_i (fun hb => ?_) fun hb => ?_)
    · have hb' : (opI x == 6) = true := hb
      exact hJ _ _ ⟨by unfold isGoes; rw [hb']; rfl, rfl⟩
    · have hb' : (opI x == 6) = false := hb
      exact ldI_h (g := g) (o := 0) h (ints_get (by omega)) (hJ _ _ ⟨by unfold isGoes; rw [hb']; rfl, rfl⟩)
  rintro b14 w15 ⟨rfl, rfl⟩
  refine joinP_i (fun b w' => b = placesB P.length l.length x ∧ w' = w15) (fun J hJ => ?_) ?_
  · have second : (isGoes x && decide (x.getD 4 0 ≥ l.length)) = false → ldI .i64 w15 (Addr.add ⟨g, 0, none⟩ 0) fun i16 =>
        iteB (i16 == (8 : Int)) (
          ldI .i64 w15 (Addr.add ⟨g, 0, none⟩ 4) fun i17 =>
          ldS w15 (Addr.add ⟨g1, 0, none⟩ 0) fun s19 =>
          (J (decide (i17 ≥ ((s19.n : Nat) : Int))) w15)) (
          (J false w15)) := by
      intro ha
      refine ldI_h (g := g) (o := 0) h (ints_get (by omega)) (iteB_i (fun hb => ?_) fun hb => ?_)
      · refine ldI_h (g := g) (o := 4) h (ints_get (by omega)) (ldS_h (g := g1) (o := 0) h rfl (hJ _ _ ⟨?_, rfl⟩))
        have hb' : (opI x == 8) = true := hb
        unfold placesB
        dsimp only; rw [ha, hb', hpn]; rfl
      · refine hJ _ _ ⟨?_, rfl⟩
        have hb' : (opI x == 8) = false := hb
        unfold placesB
        rw [ha, hb']; rfl
    refine iteB_i (fun hg => ?_) fun hg => ?_
    · refine ldI_h (g := g) (o := 4) h (ints_get (by omega)) (ldS_h (g := g3) (o := 1) h rfl (iteB_i (fun hb => ?_) fun hb => ?_))
      · refine hJ _ _ ⟨?_, rfl⟩
        dsimp only at hb
        rw [hsn] at hb
        unfold placesB
        rw [hg, hb]; rfl
      · dsimp only at hb
        rw [hsn] at hb
        exact second (by rw [hg, hb]; rfl)
    · exact second (by rw [hg]; rfl)
  rintro b25 w26 ⟨rfl, rfl⟩
  refine iteB_i (fun hp1 => ?_) fun hp1 => ?_
  · rw [wrong_1 hp1] at hc; exact hc _ h.drop.drop.drop
  have hin := places_in hp1
  refine joinP_i (fun b w' => b = lastB l.length i x ∧ w' = w26) (fun J hJ => ?_) ?_
  · refine ldS_h (g := g3) (o := 1) h rfl ?_
    have hw : IntKind.wrap .i64 (((s.n : Nat) : Int) - 1) = (l.length : Int) - 1 := by rw [hsn, wrap_id ⟨by omega, by omega⟩]
    dsimp only
    rw [hw]
    unfold lastB isEnds at hJ
    refine iteB_i (fun hb => ?_) fun hb => ?_
    · rw [hb] at hJ
      refine ldI_h (g := g) (o := 0) h (ints_get (by omega)) (iteB_i (fun hb => ?_) fun hb => ?_)
      · have hb' : (opI x != 6) = true := hb
        rw [hb'] at hJ
        refine ldI_h (g := g) (o := 0) h (ints_get (by omega)) (iteB_i (fun hb => ?_) fun hb => ?_)
        · have hb' : (opI x != 16) = true := hb
          have hb2 : (opI x == 16) = false := by simpa [bne] using hb'
          rw [hb2] at hJ
          refine ldI_h (g := g) (o := 0) h (ints_get (by omega)) (hJ _ _ ⟨?_, rfl⟩)
          rfl
        · have hb' : (opI x != 16) = false := hb
          have hb2 : (opI x == 16) = true := by simpa [bne] using hb'
          rw [hb2] at hJ
          exact hJ _ _ ⟨by simp, rfl⟩
      · have hb' : (opI x != 6) = false := hb
        rw [hb'] at hJ
        exact hJ _ _ ⟨by simp, rfl⟩
    · rw [hb] at hJ
      exact hJ _ _ ⟨by simp, rfl⟩
  rintro b32 w33 ⟨rfl, rfl⟩
  refine iteB_i (fun hp2 => ?_) fun hp2 => ?_
  · rw [wrong_2 hp1 hp2] at hc; exact hc _ h.drop.drop.drop
  have hdn : D.length = sd.n := by have := h.slen (sz := 1) (s := sd) (vs := ints D); simpa using this
  have hhn : H.length = sh.n := by have := h.slen (sz := 1) (s := sh) (vs := ints H); simpa using this
  refine joinP_i (fun b w' => b = !scopesOk D i x ∧ St w0 w' (blk g (ints x) :: blk g3 [.int .i64 needs, .slice s.a s.n s.c] :: blk g1 [.slice ps.a ps.n ps.c] :: slc 1 sd (ints D) :: slc 1 sh (ints H) :: R)) (fun J hJ => ?_) ?_
  · refine drew_h h fun w35 h => ?_
    have op : ∀ {c : Int → Prop}, c (opI x) → ldI .i64 w35 (Addr.add ⟨g, 0, none⟩ 0) c := fun hc => ldI_h (g := g) (o := 0) h (ints_get (by omega)) hc
    have dd : ∀ {c : Int → Prop}, c (D.getD i 0) → ixS sd (i : Int) 1 fun a => ldI .i64 w35 a c := fun hc => ixI_h (s := sd) (xs := D) h (by omega) (by omega) (by rw [Int.toNat_natCast]; exact hc)
    have gp : (isGoes x = true → scopesOk D i x = (D.getD (x.getD 4 0).toNat 0 == D.getD i 0)) → (isGoes x = false → scopesOk D i x = true) → iteB (isGoes x) (
                ldI .i64 w35 (Addr.add ⟨g, 0, none⟩ 4) fun i76 =>
                ixS sd i76 1 fun a77 =>
                ldI .i64 w35 a77 fun i78 =>
                ixS sd (i : Int) 1 fun a79 =>
                ldI .i64 w35 a79 fun i80 =>
                (J (i78 != i80) w35)) (
                (J false w35)) := by
      intro h1 h2
      refine iteB_i (fun hg => ?_) fun hg => ?_
      · have := (hkg hg).1; have := hin.1 hg
        refine ldI_h (g := g) (o := 4) h (ints_get (by omega)) (ixI_h (s := sd) (xs := D) h (by omega) (by omega) (dd (hJ _ _ ⟨?_, h⟩)))
        rw [h1 hg]; rfl
      · exact hJ _ _ ⟨by rw [h2 hg]; rfl, h⟩
    have ng : ∀ {o : Int}, opI x = o → o ≠ 6 → o ≠ 7 → isGoes x = false := by
      intro o ho h6 h7
      unfold isGoes; rw [ho]; simp [h6, h7]
    refine op (iteB_i (fun hb => ?_) fun hb => ?_)
    · have ho : opI x = 12 := by simpa using hb
      have hg := ng ho (by decide) (by decide)
      have e : scopesOk D i x = decide (D.getD i 0 ≥ 1) := if_pos (by rw [ho]; rfl)
      refine dd (iteB_i (fun hb => ?_) fun hb => ?_)
      · have := of_decide_eq_true hb
        exact hJ _ _ ⟨by rw [e, decide_eq_false (by omega)]; rfl, h⟩
      · have := of_decide_eq_false hb
        refine op (iteB_f (by rw [ho]; rfl) (gp (fun q => by rw [hg] at q; cases q) fun _ => by rw [e]; exact decide_eq_true (by omega)))
    · have hn12 : (opI x == 12) = false := hb
      refine op (iteB_i (fun hb => ?_) fun hb => ?_)
      · have ho : opI x = 13 := by simpa using hb
        have hg := ng ho (by decide) (by decide)
        have e : scopesOk D i x = decide (D.getD i 0 ≥ 1) := if_pos (by rw [ho]; rfl)
        refine dd (iteB_i (fun hb => ?_) fun hb => ?_)
        · have := of_decide_eq_true hb
          exact hJ _ _ ⟨by rw [e, decide_eq_false (by omega)]; rfl, h⟩
        · have := of_decide_eq_false hb
          refine op (iteB_f (by rw [ho]; rfl) (gp (fun q => by rw [hg] at q; cases q) fun _ => by rw [e]; exact decide_eq_true (by omega)))
      · have hn13 : (opI x == 13) = false := hb
        have e0 : scopesOk D i x = if opI x == 16 then D.getD i 0 == 0 else if isGoes x then D.getD (x.getD 4 0).toNat 0 == D.getD i 0 else true := if_neg (by rw [hn12, hn13]; simp)
        refine op (iteB_i (fun hb => ?_) fun hb => ?_)
        · have ho : opI x = 16 := by simpa using hb
          have hg := ng ho (by decide) (by decide)
          rw [if_pos hb] at e0
          refine dd (iteB_i (fun hb => ?_) fun hb => ?_)
          · have : (D.getD i 0 == 0) = false := by simpa [bne] using hb
            exact hJ _ _ ⟨by rw [e0, this]; rfl, h⟩
          · have : (D.getD i 0 == 0) = true := by simpa [bne] using hb
            exact gp (fun q => by rw [hg] at q; cases q) fun _ => by rw [e0, this]
        · rw [if_neg (by rw [hb]; simp)] at e0
          exact gp (fun q => by rw [e0, if_pos q]) fun q => by rw [e0, if_neg (by rw [q]; simp)]
  rintro b81 w82 ⟨rfl, h⟩
  refine iteB_i (fun hp3 => ?_) fun hp3 => ?_
  · rw [wrong_3 hp1 hp2 (by simpa using hp3)] at hc; exact hc _ h.drop.drop.drop
  rw [wrong_4 hp1 hp2 (by simpa using hp3)] at hc
  have hv : 0 ≤ H.getD i 0 ∧ H.getD i 0 ≤ 255 := by
    have e : H.getD i 0 = H[i] := by simp [show i < H.length by omega]
    rw [e]; exact hHb _ (List.getElem_mem _)
  have hvI : InI (H.getD i 0) := ⟨by omega, by omega⟩
  generalize hhv : H.getD i 0 = hv' at hc hvI
  refine joinP_i (fun b w' => b = (((opI x == 9) && !tb hv' (x.getD 2 0).toNat) || ((opI x == 10) && !tb hv' (x.getD 3 0).toNat)) ∧ St w0 w' (blk g (ints x) :: blk g3 [.int .i64 needs, .slice s.a s.n s.c] :: blk g1 [.slice ps.a ps.n ps.c] :: slc 1 sd (ints D) :: slc 1 sh (ints H) :: R)) (fun J hJ => ?_) ?_
  · refine drew_h h fun w84 h => ?_
    have hh : ∀ {c : Int → Prop}, c hv' → ixS sh (i : Int) 1 fun a => ldI .i64 w84 a c := fun hc => ixI_h (s := sh) (xs := H) h (by omega) (by omega) (by rw [Int.toNat_natCast, hhv]; exact hc)
    have op : ∀ {c : Int → Prop}, c (opI x) → ldI .i64 w84 (Addr.add ⟨g, 0, none⟩ 0) c := fun hc => ldI_h (g := g) (o := 0) h (ints_get (by omega)) hc
    refine op (iteB_i (fun hb => ?_) fun hb => ?_)
    · have ho : opI x = 9 := by simpa using hb
      have hB := hk9 ho
      refine hh (ldI_h (g := g) (o := 2) h (ints_get (by omega)) (bit_s (by omega) (by omega) ?_))
      rw [bitB_tb hvI (by omega) (by omega)]
      rw [ho] at hJ
      refine iteB_i (fun hb => hJ _ _ ⟨by rw [hb]; rfl, h⟩) fun hb => ?_
      refine op (iteB_f (by rw [ho]; rfl) (hJ _ _ ⟨by rw [hb]; rfl, h⟩))
    · have hb9 : (opI x == 9) = false := hb
      rw [hb9] at hJ
      refine op (iteB_i (fun hb => ?_) fun hb => ?_)
      · have ho : opI x = 10 := by simpa using hb
        have hB := hk10 ho
        refine hh (ldI_h (g := g) (o := 3) h (ints_get (by omega)) (bit_s (by omega) (by omega) ?_))
        rw [bitB_tb hvI (by omega) (by omega)]
        refine hJ _ _ ⟨by rw [hb]; rfl, h⟩
      · exact hJ _ _ ⟨by rw [hb]; rfl, h⟩
  rintro b103 w104 ⟨rfl, h⟩
  refine iteB_i (fun hp4 => ?_) fun hp4 => ?_
  · have : handlesOk P hv' x = false := by
      unfold handlesOk
      rw [Bool.or_eq_true, Bool.and_eq_true, Bool.and_eq_true] at hp4
      rcases hp4 with ⟨q, q2⟩ | ⟨q, q2⟩
      · rw [if_pos q]; simpa using q2
      · have ho : opI x = 10 := by simpa using q
        rw [if_neg (by rw [ho]; decide), if_pos q]; simpa using q2
    rw [this] at hc; exact hc _ h.drop.drop.drop
  refine loopP_of (fun (y : Int) w' => ∃ j : Nat, y = (j : Int) ∧ j ≤ 8 ∧ (opI x = 8 → ∀ h', h' < j → tb (needsOf P (x.getD 4 0)) h' = true → tb hv' h' = true) ∧ St w0 w' (blk g (ints x) :: blk g3 [.int .i64 needs, .slice s.a s.n s.c] :: blk g1 [.slice ps.a ps.n ps.c] :: slc 1 sd (ints D) :: slc 1 sh (ints H) :: R)) (fun y _ => (8 - y).toNat) ⟨0, rfl, by omega, fun _ h' hh' => by omega, h⟩ ?_
  rintro _ w107 ⟨j, rfl, hj, hall, h⟩ C hC
  refine iteB_i (fun hb => ?_) fun hb => ?_
  · have hj8 : j < 8 := by have := of_decide_eq_true hb; omega
    have hw2 : IntKind.wrap .i64 ((j : Int) + 1) = ((j + 1 : Nat) : Int) := by rw [wrap_id ⟨by omega, by omega⟩]; simp
    refine joinP_i (fun b w' => b = ((opI x == 8) && (tb (needsOf P (x.getD 4 0)) j && !tb hv' j)) ∧ w' = w107) (fun J hJ => ?_) ?_
    · refine ldI_h (g := g) (o := 0) h (ints_get (by omega)) (iteB_i (fun hb => ?_) fun hb => ?_)
      · have ho : opI x = 8 := by simpa using hb
        have h8 := hk8 ho
        have hlt := hin.2 ho
        have hf : P[(x.getD 4 0).toNat]? = some P[(x.getD 4 0).toNat] := List.getElem?_eq_getElem (by omega)
        have hfI := (hF.code _ (List.mem_of_getElem? hf)).1
        refine ldS_h (g := g1) (o := 0) h rfl (ldI_h (g := g) (o := 4) h (ints_get (by omega)) ?_)
        refine ixR_h (e := FnR.cells P[(x.getD 4 0).toNat]) hF.rws h (by omega) (by rw [List.getElem?_map, hf]; rfl) fun p hp2 => ldI_i (hp2 h rfl) ?_
        refine bit_s (by omega) (by omega) ?_
        rw [bitB_tb hfI (by omega) (by omega), Int.toNat_natCast]
        rw [needs_get hf, ho] at hJ
        refine iteB_i (fun hb => ?_) fun hb => ?_
        · refine ixI_h (s := sh) (xs := H) h (by omega) (by omega) (bit_s (by omega) (by omega) ?_)
          rw [Int.toNat_natCast, hhv, bitB_tb hvI (by omega) (by omega), Int.toNat_natCast]
          exact hJ _ _ ⟨by rw [hb]; rfl, rfl⟩
        · exact hJ _ _ ⟨by rw [hb]; rfl, rfl⟩
      · have hb' : (opI x == 8) = false := hb
        exact hJ _ _ ⟨by rw [hb']; rfl, rfl⟩
    rintro b120 w121 ⟨rfl, rfl⟩
    refine iteB_i (fun hb => ?_) fun hb => ?_
    · simp only [Bool.and_eq_true, Bool.not_eq_true', beq_iff_eq] at hb
      have : handlesOk P hv' x = false := by
        unfold handlesOk
        rw [if_neg (by rw [hb.1]; decide), if_neg (by rw [hb.1]; decide), if_pos (by rw [hb.1]; rfl)]
        cases hs : subBits (needsOf P (x.getD 4 0)) hv' with
        | false => rfl
        | true =>
          have := subBits_iff.1 hs j hj8 hb.2.1
          rw [hb.2.2] at this; cases this
      rw [this] at hc; exact hc _ h.drop.drop.drop
    · rw [hw2]
      refine hC _ _ ⟨j + 1, rfl, hj8, fun ho h' hh' ht => ?_, h⟩ (by omega)
      by_cases q : h' = j
      · subst q
        rw [show (opI x == 8) = true by simpa using ho, ht] at hb
        simpa using hb
      · exact hall ho h' (by omega) ht
  · have hj8 : j = 8 := by have := of_decide_eq_false hb; omega
    subst hj8
    have : handlesOk P hv' x = true := by
      unfold handlesOk
      rw [Bool.or_eq_false_iff] at hp4
      split
      · rename_i q
        have := hp4.1; rw [q] at this; simpa using this
      · split
        · rename_i q
          have := hp4.2; rw [q] at this; simpa using this
        · split
          · rename_i q
            exact subBits_iff.2 fun h' hh' ht => hall (by simpa using q) h' hh' ht
          · rfl
    rw [this] at hc; exact hc _ h.drop.drop.drop
end Go.Proofs.Ytinieegaaimilaa
