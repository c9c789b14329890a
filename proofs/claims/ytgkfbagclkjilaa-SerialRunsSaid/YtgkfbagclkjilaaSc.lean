/-
  Layer 6: scopes, rows, tasks in memory; what a step's parts do.
-/
import Derived.Test.YtgkfbagclkjilaaSb
import Derived.Test.YtgkfbagclkjilaaFs
import Derived.Test.YtgkfbagclkjilaaCkB
set_option linter.unusedSimpArgs false
set_option linter.unusedVariables false
set_option maxRecDepth 100000
namespace Go.Proofs.Ytgkfbagclkjilaa
open Go Go.Ev Go.Proofs
open Go.Proofs.Ytgkfbagclkjilaa.Fr (fTo fOn fPlain fForked fJoined fClosed fChild fRoot fR isB fTo_len fOn_len fPlain_len fForked_len fJoined_len fClosed_len)
open Go.Proofs.Ytgkfbagclkjilaa.Ck (opI Walk Accs needsOf isGoes heldL depths stepD handlesOk subBits scopesOk forks)

/-! ### rows -/
def told (l : List Bool) : ByteArray := ⟨(l.map fun b => if b then (49 : UInt8) else 48).toArray⟩
theorem told_len (l : List Bool) : (told l).size = l.length := by simp [told, ByteArray.size]
theorem told_app (l : List Bool) (b : Bool) : told l ++ ByteArray.mk #[if b then 49 else 48] = told (l ++ [b]) := by
  apply ByteArray.ext
  rw [ByteArray.data_append]
  simp [told]
def rwV (r : Rw) : List Value := [.int .i64 r.par, .int .i64 r.inn, .int .i64 r.fn, .int .i64 r.kind, .int .i64 r.v, .int .i64 r.steps, .string (told r.cl)]
def rowsV (rs : List Rw) : List Value := (rs.map rwV).flatten
theorem rwV_len (r : Rw) : (rwV r).length = 7 := rfl
theorem rows_all (rs : List Rw) : ∀ e ∈ rs.map rwV, e.length = 7 := by
  intro e he
  obtain ⟨r, _, rfl⟩ := List.mem_map.1 he
  rfl
theorem rows_get {rs : List Rw} {i j : Nat} {r : Rw} (h : rs[i]? = some r) (hj : j < 7) : (rowsV rs)[i * 7 + j]? = (rwV r)[j]? :=
  Ck.flat_get (rows_all rs) (by rw [List.getElem?_map, h]; rfl) hj
theorem rows_one (rs : List Rw) : ∀ v ∈ rowsV rs, v.oneCell' = true := by
  intro v hv
  obtain ⟨e, he, hv⟩ := List.mem_flatten.1 hv
  obtain ⟨r, _, rfl⟩ := List.mem_map.1 he
  simp [rwV] at hv
  rcases hv with rfl | rfl | rfl | rfl | rfl | rfl | rfl <;> rfl
theorem rows_n {w0 w : World} {L : List HP} {s : Sl} {rs : List Rw} {f : HP → List HP} (h : St w0 w L) [a : At L (slc 7 s) (rowsV rs) f] : s.n = rs.length := by
  have := h.slen (sz := 7) (s := s) (vs := rowsV rs)
  unfold rowsV at this
  rw [Ck.flat_len (rows_all rs), List.length_map] at this
  omega
theorem rows_set {rs : List Rw} {i j : Nat} {r r' : Rw} {v : Value} (h : rs[i]? = some r) (hj : j < 7) (hv : (rwV r).set j v = rwV r') : (rowsV rs).set (i * 7 + j) v = rowsV (rs.set i r') := by
  unfold rowsV
  rw [Ck.flat_set (rows_all rs) (e := rwV r) (by rw [List.getElem?_map, h]; rfl) hj, hv, List.map_set]
theorem row_at {rs : List Rw} {i : Nat} (h : i < rs.length) : rs[i]? = some (rs.getD i r0) := by simp [List.getD_eq_getElem?_getD, h]

/-! ### scopes -/
/-- a scope and those around it, as it can be read -/
def Chn (w : World) : Option Addr → List (Bool × Int) → Prop
  | p, [] => p = none
  | p, x :: l => ∃ g p', p = some ⟨g, 0, none⟩ ∧ Blk w g #[.pointer p', .bool x.1, .int .i64 x.2, .int .i64 (l.length : Nat)] ∧ Chn w p' l
def emp : HP where
  p F w := ∀ g, ¬ F g
  lt := fun h hg => (h _ hg).elim
  keep := fun h _ => h
/-- own scopes: from p to pe, n around pe -/
def seg (n : Nat) (pe : Option Addr) : Option Addr → List (Bool × Int) → HP
  | p, [] => pureHP (p = pe) emp
  | p, x :: l => exHP fun y : Nat × Option Addr => pureHP (p = some ⟨y.1, 0, none⟩) (sepHP [blk y.1 [.pointer y.2, .bool x.1, .int .i64 x.2, .int .i64 ((n + l.length : Nat) : Int)], seg n pe y.2 l])
section
variable {w0 w : World} {R : List HP} {n : Nat} {pe p : Option Addr} {x : Bool × Int} {l : List (Bool × Int)}
theorem seg_open (h : St w0 w (seg n pe p (x :: l) :: R)) : ∃ g p', p = some ⟨g, 0, none⟩ ∧ St w0 w (blk g [.pointer p', .bool x.1, .int .i64 x.2, .int .i64 ((n + l.length : Nat) : Int)] :: seg n pe p' l :: R) := by
  obtain ⟨y, h⟩ := St.some h
  obtain ⟨hp, h⟩ := h.pure
  exact ⟨y.1, y.2, hp, h.open⟩
theorem seg_shut {g : Nat} {p' : Option Addr} (h : St w0 w (blk g [.pointer p', .bool x.1, .int .i64 x.2, .int .i64 ((n + l.length : Nat) : Int)] :: seg n pe p' l :: R)) : St w0 w (seg n pe (some ⟨g, 0, none⟩) (x :: l) :: R) := by
  refine St.ex (X := fun y : Nat × Option Addr => pureHP (some ⟨g, 0, none⟩ = some (⟨y.1, 0, none⟩ : Addr)) (sepHP [blk y.1 [.pointer y.2, .bool x.1, .int .i64 x.2, .int .i64 ((n + l.length : Nat) : Int)], seg n pe y.2 l])) (g, p') (St.pur rfl (St.shut ?_))
  exact h
theorem seg_none (h : St w0 w (seg n pe p [] :: R)) : p = pe := by
  have h : St w0 w (pureHP (p = pe) emp :: R) := h
  exact h.pure.1
theorem seg_nil (h : St w0 w R) : St w0 w (seg n pe pe [] :: R) := by
  refine St.pur (p := pe = pe) rfl ?_
  exact h.new (.refl _ _) (F' := fun _ => False) (fun g hg => hg) fun _ h => h.elim
theorem seg_chn {B : List (Bool × Int)} (hB : St w0 w R → Chn w pe B) : ∀ {l : List (Bool × Int)} {p : Option Addr}, St w0 w (seg B.length pe p l :: R) → Chn w p (l ++ B)
  | [], p, h => by
    rw [seg_none h]
    exact hB h.drop
  | x :: l, p, h => by
    obtain ⟨g, p', hp, h⟩ := seg_open h
    refine ⟨g, p', hp, ?_, seg_chn hB h.drop⟩
    have := h.blk (g := g) (cs := [.pointer p', .bool x.1, .int .i64 x.2, .int .i64 ((B.length + l.length : Nat) : Int)])
    have e : (l ++ B).length = B.length + l.length := by simp; omega
    show Blk w g #[.pointer p', .bool x.1, .int .i64 x.2, .int .i64 (((l ++ B).length : Nat) : Int)]
    rw [e]
    exact this
theorem chn_ext : ∀ {l : List (Bool × Int)} {p : Option Addr} {w w' : World}, Chn w p l → Ext w w' → Chn w' p l
  | [], _, _, _, h, _ => h
  | x :: l, _, _, _, ⟨g, p', hp, hb, h⟩, he => ⟨g, p', hp, hb.ext he, chn_ext h he⟩
theorem cancelled_s {k : Bool → World → Prop} : ∀ {l : List (Bool × Int)} {p : Option Addr}, Chn w p l → k (l.any (·.1)) w → ∃ n, iterP (fun (C1 : Option Addr → World → Prop) p2 w3 =>
    iteB (!(Option.isNone p2)) (
      nn p2 fun a4 =>
      ldB w3 (Addr.add a4 1) fun b5 =>
      iteB b5 (
        (k true w3)) (
        nn p2 fun a6 =>
        ldP w3 (Addr.add a6 0) fun p7 =>
        (C1 p7 w3))) (
      (k false w3))) n p w
  | [], p, h, hk => ⟨1, by
    cases h
    simpa [iterP, iteB] using hk⟩
  | x :: l, p, ⟨g, p', hp, hb, h⟩, hk => by
    subst hp
    cases hx : x.1 with
    | true =>
      refine ⟨1, ?_⟩
      unfold iterP
      refine iteB_t rfl (ldB_i (n := true) (by rw [add_mk, hb.cell]; simp [hx]) (iteB_t rfl ?_))
      rw [List.any_cons, hx] at hk; exact hk
    | false =>
      rw [List.any_cons, hx, Bool.false_or] at hk
      obtain ⟨n, hn⟩ := cancelled_s h hk
      refine ⟨n + 1, ?_⟩
      unfold iterP
      refine iteB_t rfl (ldB_i (n := false) (by rw [add_mk, hb.cell]; simp [hx]) (iteB_f rfl ?_))
      refine ldP_i (n := p') (by rw [add_mk, hb.cell]; simp) hn
theorem cancel_s {k : Bool → World → Prop} (h : Chn w p l) (hk : k (l.any (·.1)) w) : serial_scope_cancelled p w k := cancelled_s h hk
end

/-! ### tasks -/
def tskV (t : Tk) (pi pl : Option Addr) (d : Bool) : List Value := ints t.f ++ [.int .i64 t.row, .pointer pi, .pointer pl, .int .i64 t.opened, .bool d]
section
variable {w0 w : World} {L R : List HP} {gm gt : Nat} {t : Tk} {m : Mc} {s : Sl} {A B C D : Value} {pi pl : Option Addr} {d : Bool} {i : List Int} {n : Nat}
theorem tsk_len (hf : t.f.length = 19) : (tskV t pi pl d).length = 24 := by simp [tskV, ints, hf]
theorem tsk_get {j : Nat} (hf : t.f.length = 19) (hj : j < 19) : (tskV t pi pl d)[j]? = some (.int .i64 (t.f.getD j 0)) := by
  unfold tskV
  rw [List.getElem?_append_left (by simp [ints, hf]; exact hj)]
  exact ints_getD (by omega)
theorem tsk_row (hf : t.f.length = 19) : (tskV t pi pl d)[19]? = some (.int .i64 t.row) := by
  unfold tskV; rw [List.getElem?_append_right (by simp [ints, hf])]; simp [ints, hf]
theorem tsk_pi (hf : t.f.length = 19) : (tskV t pi pl d)[20]? = some (.pointer pi) := by
  unfold tskV; rw [List.getElem?_append_right (by simp [ints, hf])]; simp [ints, hf]
theorem tsk_pl (hf : t.f.length = 19) : (tskV t pi pl d)[21]? = some (.pointer pl) := by
  unfold tskV; rw [List.getElem?_append_right (by simp [ints, hf])]; simp [ints, hf]
theorem tsk_op (hf : t.f.length = 19) : (tskV t pi pl d)[22]? = some (.int .i64 t.opened) := by
  unfold tskV; rw [List.getElem?_append_right (by simp [ints, hf])]; simp [ints, hf]
theorem tsk_done (hf : t.f.length = 19) : (tskV t pi pl d)[23]? = some (.bool d) := by
  unfold tskV; rw [List.getElem?_append_right (by simp [ints, hf])]; simp [ints, hf]
theorem tsk_f (hf : t.f.length = 19) : (((tskV t pi pl d).drop 0).take 19).toArray = agI t.f := by
  unfold tskV
  rw [List.drop_zero, List.take_append_of_le_length (by simp [ints, hf]), List.take_of_length_le (by simp [ints, hf])]
theorem tsk_setf {f' : List Int} (hf : t.f.length = 19) (hf' : f'.length = 19) : (tskV t pi pl d).take 0 ++ ((agI f').toList ++ (tskV t pi pl d).drop (0 + 19)) = tskV { t with f := f' } pi pl d := by
  unfold tskV
  rw [List.take_zero, List.nil_append, Nat.zero_add, List.drop_append_of_le_length (by simp [ints, hf]), List.drop_of_length_le (by simp [ints, hf])]
  rfl
theorem tsk_setdone (hf : t.f.length = 19) : (tskV t pi pl d).set 23 (.bool true) = tskV t pi pl true := by
  unfold tskV; rw [List.set_append_right _ _ (by simp [ints, hf])]; simp [ints, hf]
theorem tsk_setpl {p' : Option Addr} (hf : t.f.length = 19) : (tskV t pi pl d).set 21 (.pointer p') = tskV t pi p' d := by
  unfold tskV; rw [List.set_append_right _ _ (by simp [ints, hf])]; simp [ints, hf]
theorem tsk_setop {o : Int} (hf : t.f.length = 19) : (tskV t pi pl d).set 22 (.int .i64 o) = tskV { t with opened := o } pi pl d := by
  unfold tskV; rw [List.set_append_right _ _ (by simp [ints, hf])]; simp [ints, hf]

theorem end_s {kind v : Int} {k : Unit → World → Prop} (h : St w0 w (blk gm [A, B, C, .slice s.a s.n s.c, D] :: slc 7 s (rowsV m.rows) :: blk gt (tskV t pi pl d) :: R)) (hr : t.row < m.rows.length) (hf : t.f.length = 19)
    (hk : ∀ w', St w0 w' (blk gm [A, B, C, .slice s.a s.n s.c, D] :: slc 7 s (rowsV (m.fin t.row t.f kind v).rows) :: blk gt (tskV t pi pl true) :: R) → k () w') : serial_machine_end (some ⟨gm, 0, none⟩) (some ⟨gt, 0, none⟩) kind v w k := by
  have hn := rows_n (s := s) (rs := m.rows) h
  unfold serial_machine_end
  refine drew_h h fun w1 h => ?_
  refine nn_i ?_
  refine ldS_h (g := gm) (o := 0 + 3) h rfl ?_
  refine nn_i ?_
  refine ldI_h (g := gt) (o := 0 + 19) h (tsk_row hf) ?_
  refine ixS_h (sz := 7) (s := s) (vs := rowsV m.rows) h (by decide) (by omega) (by omega) fun g o _ hrd hst => ?_
  simp only [Int.toNat_natCast] at hrd hst
  refine nn_i ?_
  refine ldI_h (g := gt) (o := 0 + 0 + 18) h (tsk_get hf (by decide)) ?_
  have e0 := row_at hr
  refine hst h inferInstance 3 _ _ (by decide) rfl fun w2 h => ?_
  rw [rows_set (r' := { m.rows.getD t.row r0 with kind := kind }) e0 (by decide) rfl] at h
  refine hst h inferInstance 4 _ _ (by decide) rfl fun w3 h => ?_
  rw [rows_set (r := { m.rows.getD t.row r0 with kind := kind }) (r' := { m.rows.getD t.row r0 with kind := kind, v := v }) (List.getElem?_set_self (by omega)) (by decide) rfl, List.set_set] at h
  refine hst h inferInstance 5 _ _ (by decide) rfl fun w4 h => ?_
  rw [rows_set (r := { m.rows.getD t.row r0 with kind := kind, v := v }) (r' := { m.rows.getD t.row r0 with kind := kind, v := v, steps := t.f.getD 18 0 }) (List.getElem?_set_self (by omega)) (by decide) rfl, List.set_set] at h
  refine nn_i ?_
  refine stC_h (g := gt) (o := 0 + 23) h rfl (by rw [tsk_len hf]; decide) fun w5 h => ?_
  rw [tsk_setdone hf] at h
  exact hk _ h
theorem within_s {k : Option Addr → World → Prop} {q : Int} {x : Bool × Int} {l : List (Bool × Int)} {p : Option Addr} (h : St w0 w R) (hc : Chn w p (x :: l)) (hl : l.length < 1000)
    (hk : ∀ g w', St w0 w' (blk g [.pointer p, .bool false, .int .i64 q, .int .i64 ((l.length + 1 : Nat) : Int)] :: R) → k (some ⟨g, 0, none⟩) w') : serial_scope_within p q w k := by
  unfold serial_scope_within
  obtain ⟨g, p', rfl, hb, _⟩ := hc
  refine ldI_i (n := (l.length : Nat)) (by rw [add_mk, hb.cell]; simp) ?_
  refine newC_h h fun g2 w2 h => ?_
  have e : IntKind.wrap .i64 (((l.length : Nat) : Int) + 1) = ((l.length + 1 : Nat) : Int) := by rw [wrap_id ⟨by omega, by omega⟩]; simp
  have h : St w0 w2 (blk g2 [.pointer (some ⟨g, 0, none⟩), .bool false, .int .i64 q, .int .i64 (IntKind.wrap .i64 (((l.length : Nat) : Int) + 1))] :: R) := h
  rw [e] at h
  exact hk _ _ h
theorem deep_s {q : Value → World → Prop} {k : Unit → World → Prop} {x : Bool × Int} {l : List (Bool × Int)} {p : Option Addr} (hc : Chn w p (x :: l)) (h1 : 32 ≤ l.length → q (.iface 45 (.int .i64 23)) w) (h2 : l.length < 32 → k () w) : serial_deep p w q k := by
  unfold serial_deep serial_deep_b
  obtain ⟨g, p', rfl, hb, _⟩ := hc
  refine ldI_i (n := (l.length : Nat)) (by rw [add_mk, hb.cell]; simp) ?_
  refine iteB_i (fun hh => ?_) fun hh => ?_
  · exact h1 (by have := of_decide_eq_true hh; omega)
  · exact h2 (by have := of_decide_eq_false hh; omega)

theorem ext_of {w' : World} (h : St w0 w L) (he : Ext w w') : St w0 w' L := h.on he

theorem pass_s {k : Unit → World → Prop} (h : St w0 w (blk gt (tskV t pi pl d) :: R)) (hf : t.f.length = 19) (hk : ∀ w', St w0 w' (blk gt (tskV { t with f := fOn t.f } pi pl d) :: R) → k () w') : serial_machine_pass (some ⟨gm, 0, none⟩) (some ⟨gt, 0, none⟩) (agI i) w k := by
  unfold serial_machine_pass serial_machine_pass_b
  refine newC_h h fun g1 w2 h => ?_
  refine nn_i ?_
  refine ldA_h (n := 19) (g := gt) (o := 0 + 0) h (by rw [tsk_len hf]; decide) ?_
  rw [tsk_f hf]
  refine Fr.on_s hf fun w6 he => ?_
  have h := ext_of h he
  refine nn_i ?_
  refine stA_h (n := 19) (g := gt) (o := 0 + 0) (vs := agI (fOn t.f)) h (by simp [agI, ints, fOn_len, hf]) (by rw [tsk_len hf]; decide) (Ck.one_agI _) fun w8 h => ?_
  rw [tsk_setf hf (by rw [fOn_len, hf])] at h
  exact hk _ (h.rm 0 rfl)
theorem cancelm_s {k : Unit → World → Prop} {x : Bool × Int} {l : List (Bool × Int)} (h : St w0 w (blk gt (tskV t pi pl d) :: seg n pi pl (x :: l) :: R)) (hf : t.f.length = 19)
    (hk : ∀ w', St w0 w' (blk gt (tskV { t with f := fOn t.f } pi pl d) :: seg n pi pl ((true, x.2) :: l) :: R) → k () w') : serial_machine_cancel (some ⟨gm, 0, none⟩) (some ⟨gt, 0, none⟩) (agI i) w k := by
  unfold serial_machine_cancel serial_machine_cancel_b
  refine newC_h h fun g1 w2 h => ?_
  refine nn_i ?_
  refine ldP_h (g := gt) (o := 0 + 21) h (tsk_pl hf) ?_
  have h := (h.rm 0 rfl).swap
  obtain ⟨g, p', rfl, h⟩ := seg_open h
  refine nn_i ?_
  refine stC_h (g := g) (o := 0 + 1) (v := .bool true) h rfl (by simp) fun w6 h => ?_
  refine nn_i ?_
  refine ldA_h (n := 19) (g := gt) (o := 0 + 0) h (by rw [tsk_len hf]; decide) ?_
  rw [tsk_f hf]
  refine Fr.on_s hf fun w6 he => ?_
  have h := ext_of h he
  refine nn_i ?_
  refine stA_h (n := 19) (g := gt) (o := 0 + 0) (vs := agI (fOn t.f)) h (by simp [agI, ints, fOn_len, hf]) (by rw [tsk_len hf]; decide) (Ck.one_agI _) fun w8 h => ?_
  rw [tsk_setf hf (by rw [fOn_len, hf])] at h
  exact hk _ (seg_shut (x := (true, x.2)) h).swap
end
end Go.Proofs.Ytgkfbagclkjilaa
