/-
  Layer 6: the law of programs that are plain.
-/
import Derived.Test.YtgkfbagclkjilaaSl
set_option linter.unusedSimpArgs false
set_option linter.unusedVariables false
set_option maxRecDepth 100000
namespace Go.Proofs.Ytgkfbagclkjilaa
open Go Go.Ev Go.Proofs
open Go.Proofs.Ytgkfbagclkjilaa.Fr (fTo fOn fPlain fForked fJoined fClosed fChild fRoot fR isB fTo_len fOn_len fPlain_len fForked_len fJoined_len fClosed_len)
open Go.Proofs.Ytgkfbagclkjilaa.Ck (opI Walk Accs needsOf isGoes heldL depths stepD handlesOk subBits scopesOk forks)

def Cool (rows : List Rw) : Prop := ∀ r ∈ rows, (r.kind = 0 ∨ r.kind = 2 ∨ r.kind = 3) ∧ ∀ b ∈ r.cl, b = false
theorem goes_cool {P : List FnR} {F : Int} (hA : Accs P) (hN : ∀ g ∈ P, InI g.needs) (hp : Ck.plainF P = true) {t : Tk} {m : Mc} {r : Res} (hG : Goes P F t m r) : ∀ {m' : Mc}, r = .ok m' → Inv P t m → t.off = false → (∀ x ∈ t.sc, x.1 = false) → Cool m.rows → Cool m'.rows := by
  induction hG with
  | fin h =>
    intro m' e hI ho hs hc; cases e
    obtain ⟨st, kind, v, e, hh⟩ := fin_how hA hI h
    rw [e]
    intro r hr
    rcases List.mem_or_eq_of_mem_set hr with hr | rfl
    · exact hc r hr
    · have := hc _ (getD_mem hI.row)
      refine ⟨?_, this.2⟩
      rcases hh with ⟨q, _⟩ | ⟨_, q, _⟩
      · rw [ho] at q; cases q
      · exact .inr q
  | bad h => intro m' e; cases e
  | go h hg ih =>
    rename_i t m t' m' r
    intro m'' e hI ho hs hc
    obtain ⟨hr, _, _, hsc⟩ := go_how hA hI h
    obtain ⟨g1, g2, g3, g4, g5⟩ := stp_go h
    have hno : (insAt P t.f).getD 0 0 ≠ 13 := by
      obtain ⟨g, hv, ha⟩ := hI.at hA
      have h1 : ∀ f ∈ P, ∀ x ∈ f.code, Ck.plainI x = true := by
        unfold Ck.plainF at hp
        intro f hf x hx
        exact List.all_eq_true.1 (List.all_eq_true.1 hp f hf) x hx
      have := h1 g (List.mem_of_getElem? ha.at0) _ (List.mem_of_getElem? ha.ins)
      intro q
      unfold Ck.plainI opI at this
      rw [q] at this
      cases this
    refine ih e (inv_go hA hI h).1 (by rw [g5]; exact ho) ?_ ?_
    · intro x hx
      rcases hsc with hsc | hsc
      · cases hx1 : x.1 with
        | false => rfl
        | true =>
          obtain ⟨y, hy, hy1⟩ := hsc x hx hx1
          rw [hs y hy] at hy1; cases hy1
      · exact (hno hsc).elim
    · rcases hr with hr | ⟨b, hr, x, hx, hb⟩ <;> rw [hr]
      · exact hc
      · intro r hr
        rcases List.mem_or_eq_of_mem_set hr with hr | rfl
        · exact hc r hr
        · have := hc _ (getD_mem hI.row)
          refine ⟨this.1, fun b' hb' => ?_⟩
          rcases List.mem_append.1 hb' with hb' | hb'
          · exact this.2 b' hb'
          · simp at hb'; rw [hb', hb]; exact hs x hx
  | forkBad h _ ih => intro m' e; cases e
  | fork h h1 h2 ih1 ih2 =>
    rename_i t m c m1 i m2 r
    intro m' e hI ho hs hc
    obtain ⟨k1, k2⟩ := inv_child hA hN hI h
    obtain ⟨k3, k4⟩ := goes_more hA hN h1 rfl k1
    obtain ⟨k5, k6⟩ := inv_forked hA hI h k3 k4
    obtain ⟨q1, q2, q3, q4, _, hcc, hrows⟩ := stp_fork h
    refine ih2 e k5 ho hs (ih1 rfl k1 ?_ ?_ ?_)
    · rw [hcc]; dsimp only
      rw [ho, Bool.false_or, List.any_eq_false]
      intro x hx; rw [hs x hx]; decide
    · rw [hcc]; simp
    · rw [hrows]
      intro r hr
      rcases List.mem_append.1 hr with hr | hr
      · exact hc r hr
      · simp at hr; rw [hr]; simp
theorem rowT_h {w0 w : World} {L : List HP} {s : Sl} {rs : List Rw} {f : HP → List HP} {i : Int} {r : Rw} {c : ByteArray → Prop} (h : St w0 w L) [a : At L (slc 7 s) (rowsV rs) f] (h0 : 0 ≤ i) (hr : rs[i.toNat]? = some r) (hc : c (told r.cl)) : ixS s i 7 fun a => ldStr w (Addr.add a 6) c := by
  have hn := rows_n (s := s) (rs := rs) h
  have hlt := (List.getElem?_eq_some_iff.1 hr).1
  refine ixS_h (sz := 7) (s := s) (vs := rowsV rs) h (by decide) h0 (by omega) fun g o _ hrd _ => ?_
  refine ldStr_i ?_ hc
  rw [add_mk]
  exact hrd h 6 _ (by decide) (by rw [rows_get hr (by decide)]; rfl)
theorem told_at' {l : List Bool} {q : Nat} (h : q < l.length) (h0 : ∀ b ∈ l, b = false) : (told l)[q]? = some 48 := by
  have hs : q < (told l).size := by rw [told_len]; exact h
  rw [getElem?_pos (told l) q hs]
  show some ((told l).data[q]) = _
  have e : l[q] = false := h0 _ (List.getElem_mem h)
  simp [told, e]
theorem law_plain {w : World} {ps : Sl} {P : List FnR} {fuel : Int} {k : Bool → World → Prop} (hF : Funcs5 w ps P) (hc : ∀ w', St w w' [] → k true w') : pelotonlaw06_SerialPlain #[.slice ps.a ps.n ps.c] fuel w k := by
  have hN : ∀ g ∈ P, InI g.needs := fun g hg => (hF.code g hg).1
  unfold pelotonlaw06_SerialPlain pelotonlaw06_SerialPlain_b
  refine newC_h (.nil w) fun g1 w2 h => ?_
  refine joinP_i (fun b w' => St w w' [blk g1 [.slice ps.a ps.n ps.c]] ∧ (b = false → Ck.plainF P = true)) (fun J hJ => ?_) fun b w11 hbw => ?_
  · refine ldW_h (g := g1) h rfl ?_
    refine small_s (hF.ext h.ext) fun b4 w5 h2 hsm => ?_
    have h := h.on h2.ext
    refine iteB_i (fun hb => hJ _ _ ⟨h, fun q => by cases q⟩) fun hb => ?_
    have hb4 : b4 = true := by simpa using hb
    refine ldW_h (g := g1) h rfl ?_
    refine Ck.plain_s (hF.ext h.ext) (hsm hb4).1 fun w9 h2 => ?_
    exact hJ _ _ ⟨h.on h2.ext, fun q => by simpa using q⟩
  obtain ⟨h, hp⟩ := hbw
  refine iteB_i (fun hb => awake_s fun w7 h2 => hc _ (h.on h2.ext).all) fun hb => ?_
  have hp := hp hb
  refine ldW_h (g := g1) h rfl ?_
  refine run_s (hF.ext h.ext) fun s1 r1 n1 e1 w10 h2 hR1 => ?_
  have h := h.join h2
  simp only [List.cons_append, List.nil_append] at h
  have hall : (∀ r ∈ r1, (r.kind = 2 ∨ r.kind = 3) ∧ (∀ b ∈ r.cl, b = false) ∧ r.cl.length ≤ 2000000) ∧ r1.length ≤ 2000000 := by
    by_cases he : e1 = 0
    · obtain ⟨hA, h0, h1, hG⟩ := hR1.ok he
      have hI := inv_root hA hN
      have a := goes_cool hA hN hp hG rfl hI rfl (by simp [t0]) (by intro r hr; simp [m0] at hr; subst hr; simp)
      have b := goes_ends hA hN hG rfl hI
      have c := goes_more hA hN hG rfl hI
      have d := goes_sz hA hN hG rfl hI (sz_root h0 h1)
      dsimp only at a b c d
      refine ⟨fun r hr => ⟨?_, (a r hr).2, by have := d.2.2.2.2 r hr; omega⟩, by omega⟩
      obtain ⟨j, hj⟩ := List.mem_iff_getElem?.1 hr
      have hj1 := (List.getElem?_eq_some_iff.1 hj).1
      have he : Ended r1 j := by
        by_cases q : j = 0
        · subst q; exact c.2
        · exact b j (by simp [m0]; omega) hj1
      obtain ⟨r', hr', hk⟩ := he
      rw [hj] at hr'; cases hr'
      rcases (a r hr).1 with q | q | q <;> omega
    · obtain ⟨rfl, rfl⟩ := hR1.no he
      exact ⟨by simp, by simp⟩
  obtain ⟨hall, hlen⟩ := hall
  have hs1 := rows_n (s := s1) (rs := r1) h
  refine loopP_of (fun (i : Int) w' => ∃ j : Nat, i = (j : Int) ∧ j ≤ r1.length ∧ St w w' [slc 7 s1 (rowsV r1), blk g1 [.slice ps.a ps.n ps.c]]) (fun i _ => (r1.length - i).toNat) ⟨0, rfl, by omega, h⟩ ?_
  rintro _ w19 ⟨j, rfl, hj, h⟩ C hC
  refine iteB_i (fun hb => ?_) fun hb => ?_
  · have hlt : j < r1.length := by have := of_decide_eq_true hb; dsimp only at this; omega
    have hr := row_at hlt
    obtain ⟨hk, hcl, hcn⟩ := hall _ (getD_mem hlt)
    refine joinP_i (fun b w' => b = false ∧ w' = w19) (fun J hJ => ?_) fun b w26 hbw => ?_
    · refine rowI_h (s := s1) (rs := r1) (r := r1.getD j r0) (j := 3) (i := (j : Int)) h (by omega) (by rw [Int.toNat_natCast]; exact hr) rfl ?_
      refine iteB_i (fun hb => ?_) fun hb => hJ _ _ ⟨rfl, rfl⟩
      refine rowI_h (s := s1) (rs := r1) (r := r1.getD j r0) (j := 3) (i := (j : Int)) h (by omega) (by rw [Int.toNat_natCast]; exact hr) rfl ?_
      refine hJ _ _ ⟨?_, rfl⟩
      have : (r1.getD j r0).kind ≠ 2 := by simpa using hb
      have : (r1.getD j r0).kind = 3 := by omega
      rw [this]; rfl
    rw [hbw.1, hbw.2]
    refine iteB_f rfl ?_
    have e2 : IntKind.wrap .i64 ((j : Int) + 1) = ((j + 1 : Nat) : Int) := by rw [wrap_id ⟨by omega, by omega⟩]; simp
    refine loopP_of (fun (i : Int) w' => ∃ q : Nat, i = (q : Int) ∧ q ≤ (r1.getD j r0).cl.length ∧ w' = w19) (fun i _ => ((r1.getD j r0).cl.length - i).toNat) ⟨0, rfl, by omega, rfl⟩ ?_
    rintro _ _ ⟨q, rfl, hq, rfl⟩ C2 hC2
    refine rowT_h (s := s1) (rs := r1) (r := r1.getD j r0) (i := (j : Int)) h (by omega) (by rw [Int.toNat_natCast]; exact hr) ?_
    rw [told_len]
    refine iteB_i (fun hb => ?_) fun hb => ?_
    · have hq2 : q < (r1.getD j r0).cl.length := by have := of_decide_eq_true hb; omega
      refine rowT_h (s := s1) (rs := r1) (r := r1.getD j r0) (i := (j : Int)) h (by omega) (by rw [Int.toNat_natCast]; exact hr) ?_
      unfold ixStr
      refine ⟨by omega, ?_⟩
      rw [Int.toNat_natCast, told_at' hq2 hcl]
      refine iteB_f rfl ?_
      have e3 : IntKind.wrap .i64 ((q : Int) + 1) = ((q + 1 : Nat) : Int) := by rw [wrap_id ⟨by omega, by omega⟩]; simp
      rw [e3]
      exact hC2 _ _ ⟨q + 1, rfl, by omega, rfl⟩ (by omega)
    · rw [e2]
      exact hC _ _ ⟨j + 1, rfl, by omega, h⟩ (by omega)
  · exact awake_s fun w36 h2 => hc _ (h.on h2.ext).all
end Go.Proofs.Ytgkfbagclkjilaa
