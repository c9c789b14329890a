/-
  Layer 6: a program with another first function; the law of two forks.
-/
import Derived.Test.YtgkfbagclkjilaaSp
set_option linter.unusedSimpArgs false
set_option linter.unusedVariables false
set_option maxRecDepth 100000
namespace Go.Proofs.Ytgkfbagclkjilaa
open Go Go.Ev Go.Proofs
open Go.Proofs.Ytgkfbagclkjilaa.Fr (fTo fOn fPlain fForked fJoined fClosed fChild fRoot fR isB fTo_len fOn_len fPlain_len fForked_len fJoined_len fClosed_len)
open Go.Proofs.Ytgkfbagclkjilaa.Ck (opI Walk Accs needsOf isGoes heldL depths stepD handlesOk subBits scopesOk forks)
section
variable {w0 w : World} {L : List HP} {sz : Nat} {s : Sl} {vs : List Value} {f : HP → List HP}
/-- an element is written whole -/
theorem ixStA_h {i : Int} {x : Array Value} {c : World → Prop} (h : St w0 w L) [a : At L (slc sz s) vs f] (hsz : 0 < sz) (h0 : 0 ≤ i) (h1 : i < s.n) (hx : x.size = sz) (hone : ∀ v ∈ x, v.oneCell' = true)
    (hc : ∀ w', St w0 w' (f (slc sz s (vs.take (i.toNat * sz) ++ (x.toList ++ vs.drop (i.toNat * sz + sz))))) → c w') : ixS s i sz fun a => stA sz w a x c := by
  have ho : OwnS sz w s vs := h.own
  have hi : i.toNat < s.n := by omega
  have hlt : i.toNat * sz + sz ≤ s.n * sz := by
    rw [← Nat.succ_mul]; exact Nat.mul_le_mul_right _ hi
  have hcsz : s.n * sz ≤ s.c * sz := Nat.mul_le_mul_right _ ho.cap
  have hvl := ho.len
  rcases ho.row with ⟨h2, h3⟩ | ⟨g, off, cs, h2, h3, h4, h5⟩
  · have := ho.cap; omega
  · unfold ixS
    rw [h2]
    refine ⟨⟨h0, h1⟩, ?_⟩
    rw [add_mk]
    refine stA_i h3 hx (by omega) hone fun w' cs' k1 k2 k3 k4 k5 k6 => hc w' (h.turn' a fun F1 hF => ⟨k5.mono fun k _ hk => (hF.1 k).2 (by simp [Sl.blk, h2, hk]), F1, ⟨hF.1, ?_⟩, fun k hk => .inl hk⟩)
    have hxl : x.toList.length = sz := by simpa using hx
    refine ⟨by simp only [List.length_append, List.length_take, List.length_drop, hxl]; omega, ho.cap, ho.max, fun v hv => ?_, .inr ⟨g, off, cs', h2, k1, by omega, fun k u hk => ?_⟩⟩
    · rcases List.mem_append.1 hv with hv | hv
      · exact ho.one v (List.mem_of_mem_take hv)
      · rcases List.mem_append.1 hv with hv | hv
        · exact hone v (by simpa using hv)
        · exact ho.one v (List.mem_of_mem_drop hv)
    · by_cases q1 : k < i.toNat * sz
      · rw [List.getElem?_append_left (by simp; omega), List.getElem?_take_of_lt q1] at hk
        rw [k3 _ (by omega)]; exact h5 k u hk
      · rw [List.getElem?_append_right (by simp; omega)] at hk
        simp only [List.length_take] at hk
        rw [show k - min (i.toNat * sz) vs.length = k - i.toNat * sz by omega] at hk
        by_cases q2 : k < i.toNat * sz + sz
        · rw [List.getElem?_append_left (by omega)] at hk
          have := k4 (k - i.toNat * sz) (by omega)
          rw [show off + i.toNat * sz + (k - i.toNat * sz) = off + k by omega] at this
          rw [this]; simpa using hk
        · rw [List.getElem?_append_right (by omega), List.getElem?_drop, hxl] at hk
          rw [show i.toNat * sz + sz + (k - i.toNat * sz - sz) = k by omega] at hk
          rw [k3 _ (by omega)]; exact h5 k u hk
end
def zeroFn : Value := .agg #[.int .i64 0, .slice none 0 0]
theorem elFn : ElS Go.Proofs.Try.prog 22 2 32 zeroFn := ⟨by kernel_rfl, rfl⟩
theorem cells_one (P : List FnR) : ∀ v ∈ (P.map FnR.cells).flatten, v.oneCell' = true := by
  intro v hv
  obtain ⟨e, he, hv⟩ := List.mem_flatten.1 hv
  obtain ⟨r, _, rfl⟩ := List.mem_map.1 he
  simp [FnR.cells] at hv
  rcases hv with rfl | rfl <;> rfl
theorem with_s {w : World} {ps sc : Sl} {f0 : FnR} {T : List FnR} {code : List (List Int)} {k : Array Value → World → Prop} (hF : Funcs5 w ps (f0 :: T)) (hl : T.length < 1000)
    (hk : ∀ s' w', St w w' [slc 2 s' (((⟨0, sc, code⟩ : FnR) :: T).map FnR.cells).flatten] → k #[.slice s'.a s'.n s'.c] w') : pelotonlaw06_with #[.slice ps.a ps.n ps.c] sc w k := by
  have hn := hF.len
  simp only [List.length_cons] at hn
  unfold pelotonlaw06_with
  refine newC_h (.nil w) fun g1 w2 h => newC_h h fun g3 w4 h => newC_h h fun g5 w6 h => ?_
  refine ldS_h (g := g5) (o := 0 + 0) (p := none) (n := 0) (m := 0) h rfl ?_
  refine ldS_h (g := g1) (o := 0 + 0) h rfl ?_
  have h := h.nilS 2
  refine bApp_h (s := ⟨none, 0, 0⟩) (vs := []) (x := ps) (ys := ((f0 :: T).map FnR.cells).flatten) h elFn (by kernel_rfl) (Ck.rws_flat (hF.ext h.ext).rws (by decide)) (cells_one _) (by simp only; omega) (by simp only; omega) fun s9 w10 h n9 => ?_
  simp only [Nat.zero_add, List.nil_append] at n9 h
  refine stC_h (g := g5) (o := 0 + 0) (v := .slice s9.a s9.n s9.c) h rfl (by simp) fun w11 h => ?_
  refine ldS_h (g := g5) (o := 0 + 0) (p := s9.a) (n := s9.n) (m := s9.c) h rfl ?_
  refine ixStA_h (s := s9) (vs := ((f0 :: T).map FnR.cells).flatten) h (by decide) (by omega) (by omega) rfl (by intro v hv; simp at hv; rcases hv with rfl | rfl <;> rfl) fun w14 h => ?_
  refine ldW_h (g := g5) h rfl ?_
  refine stW_h (g := g3) h rfl rfl (by intro v hv; simp at hv; subst hv; rfl) fun w16 h => ?_
  refine ldW_h (g := g3) h rfl ?_
  refine hk s9 _ ?_
  exact ((h.rm 1 rfl).rm 1 rfl).rm 1 rfl
theorem flat_rows {c : Nat} {w : World} {g : Nat} {l : List (List Int)} (hb : Blk w g (agI l.flatten)) (h5 : ∀ x ∈ l, x.length = 5 ∧ ∀ y ∈ x, InI y) (hl : l.length ≤ 100) : Code5 w ⟨some ⟨g, 0, none⟩, l.length, c⟩ l := by
  refine Ck.code_blk hb h5 (fun i hi j hj => ?_) (by simp [reachBytes]; omega)
  rw [Nat.zero_add, Ck.flat_get (fun e he => (h5 e he).1) (e := l.getD i []) (by simp [hi]) hj]
theorem heldT (V k : Int) : heldL (cT V k) 0 = [0, 0, 2, 6] := (Ck.heldL_eval (l := cT V k) (needs := 0) 4 (by simp [cT]) (by simp [cT]) (by kernel_rfl)).trans (by kernel_rfl)
theorem accs_T {f0 : FnR} {T : List FnR} {V k : Int} {sc : Sl} (hA : Accs (f0 :: T)) (hV0 : -2147483648 ≤ V) (hV1 : V ≤ 2147483647) (hk1 : 1 ≤ k) (hk2 : k < ((f0 :: T).length : Nat)) (hnd : needsOf (f0 :: T) k = 0) : Accs (⟨0, sc, cT V k⟩ :: T) := by
  have hn1 := hA.n1
  refine accs_with (H := [0, 0, 2, 6]) hA rfl (by simp [cT]) (fun x hx => ?_) (heldT V k) (by kernel_rfl) fun x hx h8 => ?_
  · simp [cT] at hx
    rcases hx with rfl | rfl | rfl | rfl
    · exact chk_const (.inl rfl) hV0 hV1
    · exact chk_fork (.inr (.inl rfl)) (by omega) (by omega)
    · exact chk_fork (.inr (.inr (.inl rfl))) (by omega) (by omega)
    · decide
  · simp [cT] at hx
    rcases hx with rfl | rfl | rfl | rfl
    · cases h8
    · exact ⟨hk2, hnd⟩
    · exact ⟨hk2, hnd⟩
    · cases h8
theorem needs_T {f0 f1 : FnR} {T : List FnR} {k : Int} (hk : 1 ≤ k) : needsOf (f1 :: T) k = needsOf (f0 :: T) k := by
  unfold needsOf
  cases hz : k.toNat with
  | zero => omega
  | succ n => rfl
theorem law_twice {w : World} {ps : Sl} {P : List FnR} {fuel c v : Int} {k : Bool → World → Prop} (hF : Funcs5 w ps P) (hcI : InI c) (hvI : InI v) (hc : ∀ w', St w w' [] → k true w') : pelotonlaw06_SerialTwice #[.slice ps.a ps.n ps.c] fuel #[.int .i64 c, .int .i64 v] w k := by
  have hN : ∀ g ∈ P, InI g.needs := fun g hg => (hF.code g hg).1
  have hpn := hF.len
  unfold pelotonlaw06_SerialTwice pelotonlaw06_SerialTwice_b
  refine newC_h (.nil w) fun g1 w2 h => newC_h h fun g3 w4 h => ?_
  have h : St w w4 [blk g3 [.int .i64 c, .int .i64 v], blk g1 [.slice ps.a ps.n ps.c]] := h
  refine joinP_i (fun b w' => St w w' [blk g3 [.int .i64 c, .int .i64 v], blk g1 [.slice ps.a ps.n ps.c]] ∧ (b = false → Ck.Few P ∧ fuel ≤ 3000 ∧ Accs P ∧ 1 ≤ c ∧ c < P.length ∧ needsOf P c = 0 ∧ -2147483648 ≤ v ∧ v ≤ 2147483647)) (fun J hJ => ?_) fun b w22 hbw => ?_
  · refine ldW_h (g := g1) h rfl ?_
    refine small_s (hF.ext h.ext) fun b4 w5 h2 hsm => ?_
    have h := h.on h2.ext
    refine iteB_i (fun hb => hJ _ _ ⟨h, fun q => by cases q⟩) fun hb => ?_
    obtain ⟨hfew, hfu⟩ := hsm (by simpa using hb)
    refine ldW_h (g := g1) h rfl ?_
    refine Ck.accepts_s (hF.ext h.ext) fun w11 h2 => ?_
    have h := h.on h2.ext
    rw [Ck.progF_zero]
    refine iteB_i (fun hb => hJ _ _ ⟨h, fun q => by cases q⟩) fun hb => ?_
    have hA : Accs P := Ck.accs_iff.1 (by simpa using hb)
    refine ldI_h (g := g3) (o := 0 + 0) h rfl (iteB_i (fun hb => hJ _ _ ⟨h, fun q => by cases q⟩) fun hb1 => ?_)
    refine ldI_h (g := g3) (o := 0 + 0) h rfl (ldS_h (g := g1) (o := 0 + 0) h rfl (iteB_i (fun hb => hJ _ _ ⟨h, fun q => by cases q⟩) fun hb2 => ?_))
    have hb1 := of_decide_eq_false hb1
    have hb2 := of_decide_eq_false hb2
    dsimp only at hb2
    obtain ⟨f, hf⟩ : ∃ f, P[c.toNat]? = some f := ⟨_, List.getElem?_eq_getElem (by omega)⟩
    refine ldS_h (g := g1) (o := 0 + 0) h rfl (ldI_h (g := g3) (o := 0 + 0) h rfl ?_)
    refine ixR_h (e := FnR.cells f) hF.rws h (by omega) (by rw [List.getElem?_map, hf]; rfl) fun p hp => ldI_i (hp h rfl) ?_
    refine iteB_i (fun hb => hJ _ _ ⟨h, fun q => by cases q⟩) fun hb3 => ?_
    have hb3 : f.needs = 0 := by simpa using hb3
    refine ldI_h (g := g3) (o := 0 + 1) h rfl (iteB_i (fun hb => hJ _ _ ⟨h, fun q => by cases q⟩) fun hb4 => ?_)
    have hb4 := of_decide_eq_false hb4
    refine ldI_h (g := g3) (o := 0 + 1) h rfl (hJ _ _ ⟨h, fun q => ?_⟩)
    have hb5 := of_decide_eq_false q
    exact ⟨hfew, hfu, hA, by omega, by omega, by rw [Ck.needs_get hf, hb3], by omega, by omega⟩
  obtain ⟨h, hp⟩ := hbw
  refine iteB_i (fun hb => awake_s fun w7 h2 => hc _ (h.on h2.ext).all) fun hb => ?_
  obtain ⟨hfew, hfu, hA, hc1, hc2, hnd, hv1, hv2⟩ := hp hb
  have hlen := hA.n1
  refine ldW_h (g := g1) h rfl ?_
  refine ldI_h (g := g3) (o := 0 + 1) h rfl (ldI_h (g := g3) (o := 0 + 0) h rfl (ldI_h (g := g3) (o := 0 + 0) h rfl ?_))
  refine spl_i (agI ((cT v c).flatten.take 5 ++ Fr.Z 15)) rfl (by kernel_rfl) (spl_i (agI ((cT v c).flatten.take 10 ++ Fr.Z 10)) rfl (by kernel_rfl) (spl_i (agI ((cT v c).flatten.take 15 ++ Fr.Z 5)) rfl (by kernel_rfl) (spl_i (agI (cT v c).flatten) rfl (by kernel_rfl) ?_)))
  refine newC_h h fun g33 w34 h => ?_
  obtain ⟨f0, T, rfl⟩ : ∃ f0 T, P = f0 :: T := by
    cases P with
    | nil => have := hA.n0; simp at this
    | cons f0 T => exact ⟨f0, T, rfl⟩
  simp only [List.length_cons] at hlen
  refine with_s (code := cT v c) (hF.ext h.ext) (by omega) fun s' w36 h2 => ?_
  have hcode : ∀ {w' : World}, Blk w' g33 (agI (cT v c).flatten) → Code5 w' ⟨some ⟨g33, 0, none⟩, 4, 4⟩ (cT v c) := fun hb => flat_rows (l := cT v c) hb (by
    intro x hx
    simp [cT] at hx
    rcases hx with rfl | rfl | rfl | rfl <;> refine ⟨rfl, fun y hy => ?_⟩ <;> simp at hy <;> rcases hy with rfl | rfl | rfl | rfl <;> first | exact hvI | exact hcI | decide) (by simp [cT])
  have hNT : ∀ g ∈ ((⟨0, ⟨some ⟨g33, 0, none⟩, 4, 4⟩, cT v c⟩ : FnR) :: T), InI g.needs := by
    intro g hg
    rcases List.mem_cons.1 hg with rfl | hg
    · exact (by decide : InI 0)
    · exact hN g (by simp [hg])
  have hAT : Accs (⟨0, ⟨some ⟨g33, 0, none⟩, 4, 4⟩, cT v c⟩ :: T) := accs_T hA hv1 hv2 hc1 (by exact_mod_cast hc2) hnd
  have hndT : needsOf ((⟨0, ⟨some ⟨g33, 0, none⟩, 4, 4⟩, cT v c⟩ : FnR) :: T) c = 0 := by rw [needs_T (f0 := f0) hc1]; exact hnd
  have h36 := h.join h2
  simp only [List.cons_append, List.nil_append] at h36
  refine newC_h h36 fun g37 w38 h => ?_
  refine stW_h (g := g37) h rfl rfl (by intro v hv; simp at hv; subst hv; rfl) fun w39 h => ?_
  refine ldW_h (g := g37) h rfl ?_
  have hFT : Funcs5 w39 s' ((⟨0, ⟨some ⟨g33, 0, none⟩, 4, 4⟩, cT v c⟩ : FnR) :: T) := Ck.funcs_own h (fun x hx => by
    rcases List.mem_cons.1 hx with rfl | hx
    · exact ⟨(by decide : InI 0), hcode (h.blk (g := g33))⟩
    · have := (hF.ext h.ext).code x (by simp [hx]); exact this) (by simp [reachBytes]; omega)
  refine run_s hFT fun s1 r1 n1 e1 w42 h2 hR1 => ?_
  have h := h.join h2
  simp only [List.cons_append, List.nil_append] at h
  have hs1 := rows_n (s := s1) (rs := r1) h
  refine iteB_i (fun hb => ?_) fun hb => ?_
  · have he : e1 ≠ 0 := by simpa using hb
    refine iteB_t ?_ (awake_s fun w15 h2 => hc _ (h.on h2.ext).all)
    show (((e1 == 22) || (e1 == 23)) || ((e1 == 10) && decide (fuel < 0))) = true
    rcases hR1 with ⟨a, _, _, rfl⟩ | ⟨_, q, _, _, rfl⟩ | ⟨a, b, c, ⟨_, q⟩ | ⟨d, _, _⟩⟩
    · exact (a hAT).elim
    · rw [decide_eq_true (by omega)]; rfl
    · exact (he q).elim
    · rcases goes_bad d rfl with rfl | rfl <;> rfl
  have he : e1 = 0 := by simpa using hb
  obtain ⟨_, hf0', hf1', hG⟩ := hR1.ok he
  obtain ⟨n, hn1, hln, hp1, hp2, hall⟩ := twice_rows (mz := ⟨r1, n1⟩) hAT hNT rfl rfl (chk_fr (chk_const (.inl rfl) hv1 hv2)) (chk_fr (chk_fork (.inr (.inl rfl)) (by omega) (by simp only [List.length_cons] at hc2; omega))) (chk_fr (chk_fork (.inr (.inr (.inl rfl))) (by omega) (by simp only [List.length_cons] at hc2; omega))) hndT hG
  have hsz := goes_sz hAT hNT hG rfl (inv_root hAT hNT) (sz_root hf0' hf1')
  dsimp only at hln hp1 hp2 hall hsz ⊢
  have hrl := hsz.2.2.2.1
  have hdiv : divV .i64 (IntKind.wrap .i64 (((s1.n : Nat) : Int) - 1)) 2 = (n : Int) := by
    rw [hs1, hln, show (((2 * n + 1 : Nat) : Int) - 1) = 2 * (n : Int) by omega, wrap_id ⟨by omega, by omega⟩]
    unfold divV
    rw [Int.mul_comm, Int.mul_tdiv_cancel _ (by decide), wrap_id ⟨by omega, by omega⟩]
  simp only [hdiv]
  have ew : ∀ j : Nat, j ≤ n + 1 → IntKind.wrap .i64 ((n : Int) + (j : Int)) = ((n + j : Nat) : Int) := fun j hj => by rw [wrap_id ⟨by omega, by omega⟩]; simp
  have ew1 : IntKind.wrap .i64 ((n : Int) + 1) = ((n + 1 : Nat) : Int) := ew 1 (by omega)
  have getr : ∀ j, j < r1.length → r1[(j : Int).toNat]? = some (r1.getD j r0) := fun j hj => by rw [Int.toNat_natCast]; exact row_at hj
  refine joinP_i (fun b w' => b = false ∧ w' = w42) (fun J hJ => ?_) fun b w51 hbw => ?_
  · refine iteB_f ?_ ?_
    · rw [hs1, hln, Bool.or_eq_false_iff, decide_eq_false (by omega)]
      refine ⟨?_, rfl⟩
      rw [bne_eq_false_iff_eq]
      have e2 : IntKind.wrap .i64 (2 * (n : Int)) = 2 * (n : Int) := wrap_id ⟨by omega, by omega⟩
      rw [e2, wrap_id ⟨by omega, by omega⟩]; omega
    · refine rowI_h (s := s1) (rs := r1) (r := r1.getD 1 r0) (j := 0) (i := ((1 : Nat) : Int)) h (by omega) (getr 1 (by omega)) rfl ?_
      refine iteB_f (by rw [hp1]; rfl) ?_
      rw [ew1]
      refine rowI_h (s := s1) (rs := r1) (r := r1.getD (n + 1) r0) (j := 0) (i := ((n + 1 : Nat) : Int)) h (by omega) (getr (n + 1) (by omega)) rfl ?_
      exact hJ _ _ ⟨by rw [hp2]; rfl, rfl⟩
  rw [hbw.1, hbw.2]
  refine iteB_f rfl ?_
  refine loopP_of (fun (i : Int) w' => ∃ j : Nat, i = (j : Int) ∧ 1 ≤ j ∧ j ≤ n + 1 ∧ St w w' [slc 7 s1 (rowsV r1)]) (fun i _ => (n + 1 - i).toNat) ⟨1, rfl, by omega, by omega, ?_⟩ ?_
  · exact ((((h.rm 1 rfl).rm 1 rfl).rm 1 rfl).rm 1 rfl).rm 1 rfl
  rintro _ w54 ⟨j, rfl, hj1, hj2, h⟩ C hC
  refine iteB_i (fun hb => ?_) fun hb => ?_
  · have hjn : j ≤ n := by have := of_decide_eq_true hb; omega
    refine rowA_h (s := s1) (rs := r1) (r := r1.getD j r0) h (by omega) (getr j (by omega)) ?_
    refine newC_h h fun g57 w58 h => ?_
    refine stW_h (g := g57) h rfl rfl (by intro v hv; simp [rwV] at hv; rcases hv with rfl | rfl | rfl | rfl | rfl | rfl | rfl <;> rfl) fun w59 h => ?_
    rw [ew j (by omega)]
    refine rowA_h (s := s1) (rs := r1) (r := r1.getD (n + j) r0) h (by omega) (getr (n + j) (by omega)) ?_
    refine newC_h h fun g62 w63 h => ?_
    refine stW_h (g := g62) h rfl rfl (by intro v hv; simp [rwV] at hv; rcases hv with rfl | rfl | rfl | rfl | rfl | rfl | rfl <;> rfl) fun w64 h => ?_
    have h : St w w64 [blk g62 (rwV (r1.getD (n + j) r0)), blk g57 (rwV (r1.getD j r0)), slc 7 s1 (rowsV r1)] := h
    have hal := hall j hj1 hjn
    refine joinP_i (fun _ w' => St w w' [blk g62 (rwV (r1.getD j r0)), blk g57 (rwV (r1.getD j r0)), slc 7 s1 (rowsV r1)]) (fun J hJ => ?_) fun _ w69 h => ?_
    · refine iteB_i (fun hb => ?_) fun hb => ?_
      · have hj : 1 < j := by have := of_decide_eq_true hb; omega
        rw [if_pos hj] at hal
        refine ldI_h (g := g62) (o := 0 + 0) (n := (r1.getD (n + j) r0).par) h rfl ?_
        have hpb : IntKind.wrap .i64 ((r1.getD (n + j) r0).par - (n : Int)) = (r1.getD j r0).par := by
          have hp := (root_sum hAT hNT hf1' hf0' hG).2.2.2.2.2 j _ (by omega) (row_at (by dsimp only; omega))
          dsimp only at hp
          rw [hal]
          dsimp only
          rw [show (r1.getD j r0).par + (n : Int) - (n : Int) = (r1.getD j r0).par by omega, wrap_id ⟨by omega, by omega⟩]
        rw [hpb]
        refine stC_h (g := g62) (o := 0 + 0) (v := .int .i64 (r1.getD j r0).par) h rfl (by simp [rwV]) fun w67 h => hJ _ _ ?_
        rw [hal] at h
        exact h
      · have hj : ¬ 1 < j := by have := of_decide_eq_false hb; omega
        rw [if_neg hj] at hal
        rw [hal] at h
        exact hJ _ _ h
    refine ldW_h (g := g57) h rfl (ldW_h (g := g62) h rfl ?_)
    refine eq_rw _ (iteB_f rfl ?_)
    rw [show IntKind.wrap .i64 ((j : Int) + 1) = ((j + 1 : Nat) : Int) by rw [wrap_id ⟨by omega, by omega⟩]; simp]
    exact hC _ _ ⟨j + 1, rfl, by omega, by omega, (h.rm 0 rfl).rm 0 rfl⟩ (by omega)
  · exact awake_s fun w36 h2 => hc _ (h.on h2.ext).all
end Go.Proofs.Ytgkfbagclkjilaa
