/-
  Layer 6: join, open, close, leave.
-/
import Derived.Test.YtgkfbagclkjilaaSc
set_option linter.unusedSimpArgs false
set_option linter.unusedVariables false
set_option maxRecDepth 100000
namespace Go.Proofs.Ytgkfbagclkjilaa
open Go Go.Ev Go.Proofs
open Go.Proofs.Ytgkfbagclkjilaa.Fr (fTo fOn fPlain fForked fJoined fClosed fChild fRoot fR isB fTo_len fOn_len fPlain_len fForked_len fJoined_len fClosed_len)
open Go.Proofs.Ytgkfbagclkjilaa.Ck (opI Walk Accs needsOf isGoes heldL depths stepD handlesOk subBits scopesOk forks)
theorem ldStr_i {w : World} {a : Addr} {n : ByteArray} {c : ByteArray → Prop} (h : w.cell? a = some (.string n)) (hc : c n) : ldStr w a c := by
  simp [ldStr, rd, h, toStr, hc]
section
variable {w0 w : World} {L R : List HP} {gm gt : Nat} {t : Tk} {m : Mc} {s : Sl} {A B C D : Value} {pi pl : Option Addr} {d : Bool} {i : List Int} {n : Nat}
theorem ins_cell {j : Nat} (h5 : i.length = 5) (hj : j < 5) : (agI i).toList[j]? = some (.int .i64 (i.getD j 0)) := by
  show (ints i)[j]? = _
  exact ints_getD (by omega)
theorem open_s {k : Unit → World → Prop} {B' : List (Bool × Int)} (h : St w0 w (blk gt (tskV t pi pl d) :: seg B'.length pi pl t.sc :: R)) (hB : ∀ w, St w0 w R → Chn w pi B') (hf : t.f.length = 19) (hsc : t.sc ≠ []) (hl : B'.length + t.sc.length ≤ 100) (ho : 0 ≤ t.opened ∧ t.opened ≤ 10000000)
    (hk : ∀ w' pl', St w0 w' (blk gt (tskV { t with f := fOn t.f, sc := (false, t.opened + 1) :: t.sc, opened := t.opened + 1 } pi pl' d) :: seg B'.length pi pl' ((false, t.opened + 1) :: t.sc) :: R) → k () w') : serial_machine_open (some ⟨gm, 0, none⟩) (some ⟨gt, 0, none⟩) (agI i) w k := by
  unfold serial_machine_open serial_machine_open_b
  refine newC_h h fun g1 w2 h => ?_
  have h : St w0 w2 (blk gt (tskV t pi pl d) :: seg B'.length pi pl t.sc :: R) := h.rm 0 rfl
  refine nn_i ?_
  refine ldI_h (g := gt) (o := 0 + 22) h (tsk_op hf) ?_
  refine nn_i ?_
  refine stC_h (g := gt) (o := 0 + 22) h rfl (by rw [tsk_len hf]; decide) fun w6 h => ?_
  rw [wrap_id ⟨by omega, by omega⟩, tsk_setop hf] at h
  refine drew_h h fun w7 h => ?_
  refine nn_i ?_
  refine ldP_h (g := gt) (o := 0 + 21) h (tsk_pl (t := { t with opened := t.opened + 1 }) hf) ?_
  refine nn_i ?_
  refine ldI_h (g := gt) (o := 0 + 22) h (tsk_op (t := { t with opened := t.opened + 1 }) hf) ?_
  have hc := seg_chn (hB w7) (h.rm 0 rfl)
  obtain ⟨x, l, e⟩ : ∃ x l, t.sc ++ B' = x :: l := by
    cases hs : t.sc with
    | nil => exact (hsc hs).elim
    | cons x l => exact ⟨x, l ++ B', rfl⟩
  rw [e] at hc
  have el : l.length + 1 = B'.length + t.sc.length := by have := congrArg List.length e; simp at this; omega
  refine within_s (q := t.opened + 1) h hc (by omega) fun g w13 h => ?_
  have h := h.swap
  refine nn_i ?_
  refine stC_h (g := gt) (o := 0 + 21) h rfl (by rw [tsk_len (t := { t with opened := t.opened + 1 }) hf]; decide) fun w15 h => ?_
  rw [tsk_setpl (t := { t with opened := t.opened + 1 }) hf] at h
  refine nn_i ?_
  refine ldA_h (n := 19) (g := gt) (o := 0 + 0) h (by rw [tsk_len (t := { t with opened := t.opened + 1 }) hf]; decide) ?_
  rw [tsk_f (t := { t with opened := t.opened + 1 }) hf]
  refine Fr.on_s hf fun w6 he => ?_
  have h := ext_of h he
  refine nn_i ?_
  refine stA_h (n := 19) (g := gt) (o := 0 + 0) (vs := agI (fOn t.f)) h (by simp [agI, ints, fOn_len, hf]) (by rw [tsk_len (t := { t with opened := t.opened + 1 }) hf]; decide) (Ck.one_agI _) fun w8 h => ?_
  rw [tsk_setf (t := { t with opened := t.opened + 1 }) hf (by rw [fOn_len, hf])] at h
  have h := h.swap
  rw [el] at h
  have h2 : St w0 w8 (blk g [.pointer pl, .bool false, .int .i64 (t.opened + 1), .int .i64 ((B'.length + t.sc.length : Nat) : Int)] :: seg B'.length pi pl t.sc :: blk gt (tskV { t with f := fOn t.f, sc := (false, t.opened + 1) :: t.sc, opened := t.opened + 1 } pi (some ⟨g, 0, none⟩) d) :: R) := h.perm (by repeat' (first | exact List.Perm.refl _ | refine perm_f 0 rfl ?_ | refine perm_f 1 rfl ?_ | refine perm_f 2 rfl ?_ | refine perm_f 3 rfl ?_ | refine perm_f 4 rfl ?_ | refine perm_f 5 rfl ?_ | refine perm_f 6 rfl ?_ | refine perm_f 7 rfl ?_))
  exact hk _ _ (seg_shut (x := (false, t.opened + 1)) h2).swap
theorem close_s {k : Unit → World → Prop} {x : Bool × Int} {l : List (Bool × Int)} (h : St w0 w (blk gm [A, B, C, .slice s.a s.n s.c, D] :: slc 7 s (rowsV m.rows) :: blk gt (tskV t pi pl d) :: seg n pi pl (x :: l) :: R)) (hf : t.f.length = 19) (h5 : i.length = 5) (hr : t.row < m.rows.length) (hc : (m.rows.getD t.row r0).cl.length < 100000000)
    (hk : ∀ w' pl', St w0 w' (blk gm [A, B, C, .slice s.a s.n s.c, D] :: slc 7 s (rowsV (m.told t.row x.1).rows) :: blk gt (tskV { t with f := fClosed t.f i x.1, sc := l } pi pl' d) :: seg n pi pl' l :: R) → k () w') : serial_machine_close (some ⟨gm, 0, none⟩) (some ⟨gt, 0, none⟩) (agI i) w k := by
  have hn := rows_n (s := s) (rs := m.rows) h
  unfold serial_machine_close serial_machine_close_b
  refine newC_h h fun g1 w2 h => ?_
  refine nn_i ?_
  refine ldP_h (g := gt) (o := 0 + 21) h (tsk_pl hf) ?_
  have h : St w0 w2 (seg n pi pl (x :: l) :: blk g1 (ints i) :: blk gm [A, B, C, .slice s.a s.n s.c, D] :: slc 7 s (rowsV m.rows) :: blk gt (tskV t pi pl d) :: R) := h.perm (by repeat' (first | exact List.Perm.refl _ | refine perm_f 0 rfl ?_ | refine perm_f 1 rfl ?_ | refine perm_f 2 rfl ?_ | refine perm_f 3 rfl ?_ | refine perm_f 4 rfl ?_ | refine perm_f 5 rfl ?_ | refine perm_f 6 rfl ?_ | refine perm_f 7 rfl ?_))
  obtain ⟨g, p', rfl, h⟩ := seg_open h
  refine nn_i ?_
  refine ldB_h (g := g) (o := 0 + 1) h rfl ?_
  refine joinP_i (fun z w' => z = (ByteArray.mk #[if x.1 then 49 else 48]) ∧ w' = w2) (fun J hJ => ?_) ?_
  · refine iteB_i (fun hb => hJ _ _ ⟨by rw [hb]; rfl, rfl⟩) fun hb => hJ _ _ ⟨by rw [hb]; rfl, rfl⟩
  rintro _ _ ⟨rfl, rfl⟩
  refine drew_h h fun w10 h => ?_
  refine nn_i ?_
  refine ldS_h (g := gm) (o := 0 + 3) h rfl ?_
  refine nn_i ?_
  refine ldI_h (g := gt) (o := 0 + 19) h (tsk_row hf) ?_
  have e0 := row_at hr
  have hrow6 : (rowsV m.rows)[t.row * 7 + 6]? = some (.string (told (m.rows.getD t.row r0).cl)) := by rw [rows_get e0 (by decide)]; rfl
  refine ixS_h (sz := 7) (s := s) (vs := rowsV m.rows) h (by decide) (by omega) (by omega) fun ga o _ hrd hst => ?_
  simp only [Int.toNat_natCast] at hrd
  have hcell := hrd h 6 _ (by decide) hrow6
  refine ldStr_i hcell ?_
  have es : (ByteArray.mk #[if x.1 then (49 : UInt8) else 48]).size = 1 := rfl
  refine ⟨by rw [told_len, es]; omega, ?_⟩
  refine ixS_h (sz := 7) (s := s) (vs := rowsV m.rows) h (by decide) (by omega) (by omega) fun ga o _ hrd hst => ?_
  simp only [Int.toNat_natCast] at hrd hst
  rw [told_app]
  refine hst h inferInstance 6 _ _ (by decide) rfl fun w18 h => ?_
  rw [rows_set (r' := { m.rows.getD t.row r0 with cl := (m.rows.getD t.row r0).cl ++ [x.1] }) e0 (by decide) rfl] at h
  refine drew_h h fun w19 h => ?_
  refine nn_i ?_
  refine ldA_h (n := 19) (g := gt) (o := 0 + 0) h (by rw [tsk_len hf]; decide) ?_
  rw [tsk_f hf]
  refine ldW_h (g := g1) h (by simp [ints, h5]) ?_
  refine nn_i ?_
  refine ldP_h (g := gt) (o := 0 + 21) h (tsk_pl hf) ?_
  refine nn_i ?_
  refine ldB_h (g := g) (o := 0 + 1) h rfl ?_
  refine Fr.closed_s hf h5 fun w28 he => ?_
  have h := ext_of h he
  refine nn_i ?_
  refine stA_h (n := 19) (g := gt) (o := 0 + 0) (vs := agI (fClosed t.f i x.1)) h (by simp [agI, ints, fClosed_len, hf]) (by rw [tsk_len hf]; decide) (Ck.one_agI _) fun w30 h => ?_
  rw [tsk_setf hf (by rw [fClosed_len, hf])] at h
  have hf2 : ({ t with f := fClosed t.f i x.1 } : Tk).f.length = 19 := by show (fClosed t.f i x.1).length = 19; rw [fClosed_len, hf]
  refine nn_i ?_
  refine ldP_h (g := gt) (o := 0 + 21) h (tsk_pl hf2) ?_
  refine nn_i ?_
  refine ldP_h (g := g) (o := 0 + 0) h rfl ?_
  refine nn_i ?_
  refine stC_h (g := gt) (o := 0 + 21) h rfl (by rw [tsk_len hf2]; decide) fun w36 h => ?_
  rw [tsk_setpl hf2] at h
  have h := (h.rm 2 rfl).rm 0 rfl
  refine hk _ p' (h.perm ?_)
  simp only [List.eraseIdx]
  repeat' (first | exact List.Perm.refl _ | refine perm_f 0 rfl ?_ | refine perm_f 1 rfl ?_ | refine perm_f 2 rfl ?_ | refine perm_f 3 rfl ?_ | refine perm_f 4 rfl ?_ | refine perm_f 5 rfl ?_ | refine perm_f 6 rfl ?_ | refine perm_f 7 rfl ?_)
theorem leave_s {k : Unit → World → Prop} (h : St w0 w (blk gm [A, B, C, .slice s.a s.n s.c, D] :: slc 7 s (rowsV m.rows) :: blk gt (tskV t pi pl d) :: R)) (hf : t.f.length = 19) (h5 : i.length = 5) (hr : t.row < m.rows.length) (hA : 0 ≤ i.getD 1 0 ∧ i.getD 1 0 < 8)
    (hk : ∀ w' t', St w0 w' (blk gm [A, B, C, .slice s.a s.n s.c, D] :: slc 7 s (rowsV (m.fin t.row (fOn t.f) (if i.getD 0 0 = 15 then 3 else 2) (fR (fOn t.f) (i.getD 1 0))).rows) :: blk gt (tskV t' pi pl true) :: R) → t'.f.length = 19 → t'.row = t.row → t'.sc = t.sc → k () w') : serial_machine_leave (some ⟨gm, 0, none⟩) (some ⟨gt, 0, none⟩) (agI i) w k := by
  unfold serial_machine_leave serial_machine_leave_b
  refine newC_h h fun g1 w2 h => ?_
  have h : St w0 w2 (blk g1 (ints i) :: blk gm [A, B, C, .slice s.a s.n s.c, D] :: slc 7 s (rowsV m.rows) :: blk gt (tskV t pi pl d) :: R) := h
  refine nn_i ?_
  refine ldA_h (n := 19) (g := gt) (o := 0 + 0) h (by rw [tsk_len hf]; decide) ?_
  rw [tsk_f hf]
  refine Fr.on_s hf fun w6 he => ?_
  have h := ext_of h he
  refine nn_i ?_
  refine stA_h (n := 19) (g := gt) (o := 0 + 0) (vs := agI (fOn t.f)) h (by simp [agI, ints, fOn_len, hf]) (by rw [tsk_len hf]; decide) (Ck.one_agI _) fun w8 h => ?_
  have hf2 : (fOn t.f).length = 19 := by rw [fOn_len, hf]
  rw [tsk_setf hf hf2] at h
  have hfp : ({ t with f := fOn t.f } : Tk).f.length = 19 := hf2
  have e2 : 0 + 0 + 2 + (i.getD 1 0).toNat * 1 = 2 + (i.getD 1 0).toNat := by omega
  refine ldI_h (g := g1) (o := 0 + 0) h (ints_getD (by omega)) ?_
  refine iteB_i (fun hb => ?_) fun hb => ?_
  · have hb : i.getD 0 0 = 15 := by simpa using hb
    rw [if_pos hb] at hk
    refine drew_h h fun w10 h => ?_
    refine ldI_h (g := g1) (o := 0 + 1) h (ints_getD (by omega)) ?_
    refine nn_i ?_
    refine ixP_i hA.1 (by have := hA.2; show i.getD 1 0 < ((8 : Nat) : Int); omega) ?_
    refine ldI_h (g := gt) (o := 0 + 0 + 2 + (i.getD 1 0).toNat * 1) h (by rw [e2]; exact tsk_get hfp (by omega)) ?_
    exact end_s (h.rm 0 rfl) hr hfp fun w' h => hk _ _ h hfp rfl rfl
  · have hb : ¬ i.getD 0 0 = 15 := by simpa using hb
    rw [if_neg hb] at hk
    refine drew_h h fun w10 h => ?_
    refine ldI_h (g := g1) (o := 0 + 1) h (ints_getD (by omega)) ?_
    refine nn_i ?_
    refine ixP_i hA.1 (by have := hA.2; show i.getD 1 0 < ((8 : Nat) : Int); omega) ?_
    refine ldI_h (g := gt) (o := 0 + 0 + 2 + (i.getD 1 0).toNat * 1) h (by rw [e2]; exact tsk_get hfp (by omega)) ?_
    exact end_s (h.rm 0 rfl) hr hfp fun w' h => hk _ _ h hfp rfl rfl
theorem join_s {k : Unit → World → Prop} {h' : Int} {r : Rw} (hh : h' = i.getD (if i.getD 0 0 = 10 then 3 else 2) 0) (h : St w0 w (blk gm [A, B, C, .slice s.a s.n s.c, D] :: slc 7 s (rowsV m.rows) :: blk gt (tskV t pi pl d) :: R)) (hf : t.f.length = 19) (h5 : i.length = 5) (hr : t.row < m.rows.length)
    (hA : 0 ≤ h' ∧ h' < 8) (h0 : 0 ≤ t.f.getD (10 + h'.toNat) 0) (hrow : m.rows[(t.f.getD (10 + h'.toNat) 0).toNat]? = some r)
    (hk1 : (fJoined t.f i r.kind r.v).2.2 = true → ∀ w' t', St w0 w' (blk gm [A, B, C, .slice s.a s.n s.c, D] :: slc 7 s (rowsV (m.fin t.row (fJoined t.f i r.kind r.v).1 3 (fJoined t.f i r.kind r.v).2.1).rows) :: blk gt (tskV t' pi pl true) :: R) → t'.f.length = 19 → t'.row = t.row → t'.sc = t.sc → k () w')
    (hk2 : (fJoined t.f i r.kind r.v).2.2 = false → ∀ w', St w0 w' (blk gm [A, B, C, .slice s.a s.n s.c, D] :: slc 7 s (rowsV m.rows) :: blk gt (tskV { t with f := (fJoined t.f i r.kind r.v).1 } pi pl d) :: R) → k () w') : serial_machine_join (some ⟨gm, 0, none⟩) (some ⟨gt, 0, none⟩) (agI i) w k := by
  have hn := rows_n (s := s) (rs := m.rows) h
  have hlt := (List.getElem?_eq_some_iff.1 hrow).1
  unfold serial_machine_join serial_machine_join_b
  refine newC_h h fun g1 w2 h => ?_
  have h : St w0 w2 (blk g1 (ints i) :: blk gm [A, B, C, .slice s.a s.n s.c, D] :: slc 7 s (rowsV m.rows) :: blk gt (tskV t pi pl d) :: R) := h
  refine ldI_h (g := g1) (o := 0 + 2) h (ints_getD (by omega)) ?_
  refine ldI_h (g := g1) (o := 0 + 0) h (ints_getD (by omega)) ?_
  refine joinP_i (fun z w' => z = h' ∧ w' = w2) (fun J hJ => ?_) ?_
  · refine iteB_i (fun hb => ?_) fun hb => ?_
    · have hb : i.getD 0 0 = 10 := by simpa using hb
      refine ldI_h (g := g1) (o := 0 + 3) h (ints_getD (by omega)) ?_
      exact hJ _ _ ⟨by rw [hh, if_pos hb], rfl⟩
    · have hb : ¬ i.getD 0 0 = 10 := by simpa using hb
      exact hJ _ _ ⟨by rw [hh, if_neg hb], rfl⟩
  rintro z _ ⟨hz, rfl⟩
  rw [hz]
  refine drew_h h fun w9 h => ?_
  refine nn_i ?_
  refine ldS_h (g := gm) (o := 0 + 3) h rfl ?_
  refine nn_i ?_
  refine ixP_i hA.1 (by omega) ?_
  have e2 : 0 + 0 + 10 + h'.toNat * 1 = 10 + h'.toNat := by omega
  refine ldI_h (g := gt) (o := 0 + 0 + 10 + h'.toNat * 1) h (by rw [e2]; exact tsk_get hf (by omega)) ?_
  refine ixS_h (sz := 7) (s := s) (vs := rowsV m.rows) h (by decide) h0 (by omega) fun ga o _ hrd hst => ?_
  have hcl : ∀ {w' : World} {L' : List HP} {f' : HP → List HP}, St w0 w' L' → [At L' (slc 7 s) (rowsV m.rows) f'] → ∀ j v, (rwV r)[j]? = some v → w'.cell? (Addr.add ⟨ga, o, none⟩ j) = some v := by
    intro w' L' f' h' _ j v hv
    have hj : j < 7 := (List.getElem?_eq_some_iff.1 hv).1
    rw [add_mk]
    exact hrd h' j v hj (by rw [rows_get hrow hj]; exact hv)
  refine ldA_c (e := rwV r) rfl (fun j v hv => hcl h j v hv) ?_
  refine newC_h h fun g17 w18 h18 => ?_
  refine ⟨fun j hj => ?_, ?_⟩
  · obtain ⟨v, hv⟩ : ∃ v, (rwV r)[j]? = some v := ⟨_, List.getElem?_eq_getElem hj⟩
    rw [hcl h18 j v hv, hcl h j v hv]
  refine samec_h (g := gt) (o := 0 + 0 + 10 + h'.toNat * 1) h h18 (samec_h (g := gm) (o := 0 + 3) h h18 ?_)
  refine stW_h (g := g17) h18 rfl rfl (by intro v hv; simp [rwV] at hv; rcases hv with rfl | rfl | rfl | rfl | rfl | rfl | rfl <;> rfl) fun w19 h => ?_
  have h : St w0 w19 (blk g17 (rwV r) :: blk g1 (ints i) :: blk gm [A, B, C, .slice s.a s.n s.c, D] :: slc 7 s (rowsV m.rows) :: blk gt (tskV t pi pl d) :: R) := h
  have hJl : (fJoined t.f i r.kind r.v).1.length = 19 := by rw [fJoined_len, hf]
  refine joinP_i (fun z w' => ∃ g, z = (⟨g, 0, none⟩, ((fJoined t.f i r.kind r.v).2.1, (fJoined t.f i r.kind r.v).2.2)) ∧ St w0 w' (blk g (ints (fJoined t.f i r.kind r.v).1) :: blk g17 (rwV r) :: blk g1 (ints i) :: blk gm [A, B, C, .slice s.a s.n s.c, D] :: slc 7 s (rowsV m.rows) :: blk gt (tskV t pi pl d) :: R)) (fun J hJ => ?_) ?_
  · refine drew_h h fun w21 h => ?_
    refine nn_i ?_
    refine ldA_h (n := 19) (g := gt) (o := 0 + 0) h (by rw [tsk_len hf]; decide) ?_
    rw [tsk_f hf]
    refine ldW_h (g := g1) h (by simp [ints, h5]) ?_
    refine ldI_h (g := g17) (o := 0 + 3) h rfl (ldI_h (g := g17) (o := 0 + 4) h rfl ⟨?_, ?_⟩)
    · refine Fr.joined_s hf h5 fun w28 he => ?_
      have h2 := ext_of h he
      refine newC_h h2 fun g29 w30 h2 => ?_
      refine samec_h (g := g17) (o := 0 + 4) h h2 (samec_h (g := g17) (o := 0 + 3) h h2 (samec_h (g := g1) (o := 0) h h2 (samec_h (g := gt) (o := 0 + 0) h h2 ?_)))
      refine stW_h (g := g29) h2 rfl (by simp [agI, ints, hJl]) (Ck.one_agI _) fun w31 h2 => ?_
      exact hJ _ _ ⟨g29, rfl, h2⟩
    · refine newC_h h fun g32 w33 h2 => ?_
      refine samec_h (g := g17) (o := 0 + 4) h h2 (samec_h (g := g17) (o := 0 + 3) h h2 (samec_h (g := g1) (o := 0) h h2 (samec_h (g := gt) (o := 0 + 0) h h2 ?_)))
      refine Fr.joined_s hf h5 fun w35 he => ?_
      have h2 := ext_of h2 he
      refine stW_h (g := g32) h2 rfl (by simp [agI, ints, hJl]) (Ck.one_agI _) fun w36 h2 => ?_
      exact hJ _ _ ⟨g32, rfl, h2⟩
  rintro _ w38 ⟨g, rfl, h⟩
  refine ldW_h (g := g) h (by simp [ints, hJl]) ?_
  refine nn_i ?_
  refine stA_h (n := 19) (g := gt) (o := 0 + 0) (vs := agI (fJoined t.f i r.kind r.v).1) h (by simp [agI, ints, hJl]) (by rw [tsk_len hf]; decide) (Ck.one_agI _) fun w41 h => ?_
  rw [tsk_setf hf hJl] at h
  refine iteB_i (fun hb => ?_) fun hb => ?_
  · refine end_s (t := { t with f := (fJoined t.f i r.kind r.v).1 }) (((h.rm 0 rfl).rm 0 rfl).rm 0 rfl) hr hJl fun w' h => ?_
    exact hk1 hb _ _ h hJl rfl rfl
  · exact hk2 hb _ (((h.rm 0 rfl).rm 0 rfl).rm 0 rfl)
end
end Go.Proofs.Ytgkfbagclkjilaa
