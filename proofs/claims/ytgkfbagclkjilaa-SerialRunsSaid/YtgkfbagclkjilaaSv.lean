/-
  Layer 6, the document's answer: a task ends; a task more.
-/
import Derived.Test.YtgkfbagclkjilaaSu
set_option linter.unusedSimpArgs false
set_option linter.unusedVariables false
set_option maxRecDepth 100000
namespace Go.Proofs.Ytgkfbagclkjilaa
open Go Go.Ev Go.Proofs
open Go.Proofs.Ytgkfbagclkjilaa.Fr (fTo fOn fPlain fForked fJoined fClosed fChild fRoot fR isB fTo_len fOn_len fPlain_len fForked_len fJoined_len fClosed_len)
open Go.Proofs.Ytgkfbagclkjilaa.Ck (opI Walk Accs needsOf isGoes heldL depths stepD handlesOk subBits scopesOk forks)

abbrev RL (gm : Nat) (ps ss sr : Sl) (F st E : Int) (stack : List Value) (rows : List Rw) (R : List HP) : List HP :=
  blk gm [.slice ps.a ps.n ps.c, .slice ss.a ss.n ss.c, .slice sr.a sr.n sr.c, .int .i64 st, .int .i64 F, .int .i64 E] :: slc 29 ss stack :: slc 7 sr (rowsV rows) :: R
structure Pt where
  rest : List Value
  t : Tk
  so : Sl
  sk : Sl
  b : List Int
def parV : Option Pt → List Value
  | none => []
  | some p => p.rest ++ rkV p.t p.so p.sk p.b
def parF (b : List Int) (row : Nat) : Option Pt → List Value
  | none => []
  | some p => p.rest ++ rkV { p.t with f := fForked p.t.f b row } p.so p.sk p.b
def PtOK : Nat → Option Pt → Prop
  | q, none => q = 0
  | q, some p => p.t.f.length = 19 ∧ p.b.length = 5 ∧ ∃ q', q = q' + 1 ∧ p.rest.length = q' * 29
theorem PtOK.len {q : Nat} {Q : Option Pt} (h : PtOK q Q) : (parV Q).length = q * 29 := by
  cases Q with
  | none => rw [show q = 0 from h]; rfl
  | some p =>
    obtain ⟨h1, h2, q', rfl, h3⟩ := h
    show (p.rest ++ rkV p.t p.so p.sk p.b).length = _
    rw [List.length_append, rk_len h1 h2, h3]; omega
section
variable {w0 w : World} {R : List HP} {gm : Nat} {ps ss sr : Sl} {F st E : Int} {rest e : List Value} {rows : List Rw} {m : Mc} {q : Nat} {t : Tk} {so sk : Sl} {b : List Int} {Q : Option Pt}
theorem top_s {k : Option Addr → World → Prop} (h : St w0 w (RL gm ps ss sr F st E (rest ++ e) rows R)) (hr : rest.length = q * 29) (he : e.length = 29)
    (hk : ∀ g o w', Top ss 29 q g o → St w0 w' (RL gm ps ss sr F st E (rest ++ e) rows R) → k (some ⟨g, o, none⟩) w') : pelotonref06_Machine_top (some ⟨gm, 0, none⟩) w k := by
  have hn := h.slen (sz := 29) (s := ss) (vs := rest ++ e)
  have hm := (h.own (sz := 29) (s := ss) (vs := rest ++ e)).max
  have hcap := (h.own (sz := 29) (s := ss) (vs := rest ++ e)).cap
  rw [List.length_append, hr, he] at hn
  have hnq : ss.n = q + 1 := by omega
  unfold pelotonref06_Machine_top
  refine drew_h h fun w1 h => ?_
  refine nn_i ?_
  refine ldS_h (g := gm) (o := 0 + 1) h rfl ?_
  refine nn_i ?_
  refine ldS_h (g := gm) (o := 0 + 1) h rfl ?_
  dsimp only
  rw [show IntKind.wrap .i64 (((ss.n : Nat) : Int) - 1) = (q : Int) by rw [wrap_id ⟨by omega, by omega⟩]; omega]
  refine top_of (s := ss) (sz := 29) (vs := rest ++ e) h (by decide) (by omega) (by omega) fun g o T => ?_
  rw [Int.toNat_natCast] at T
  exact hk g o _ T h
theorem rends_s {kind v : Int} {k : Unit → World → Prop} (h : St w0 w (RL gm ps ss sr F st E (parV Q ++ rkV t so sk b) m.rows R)) (hQ : PtOK q Q) (hf : t.f.length = 19) (hb : b.length = 5) (hrow : t.row < m.rows.length)
    (hk : ∀ ss' w', St w0 w' (RL gm ps ss' sr F st E (parF b t.row Q) (m.fin t.row t.f kind v).rows R) → k () w') : pelotonref06_Machine_ends (some ⟨gm, 0, none⟩) kind v w k := by
  have hr := hQ.len
  have hsr := rows_n (s := sr) (rs := m.rows) h
  unfold pelotonref06_Machine_ends pelotonref06_Machine_ends_b
  refine top_s h hr (rk_len hf hb) fun g o w2 T h => ?_
  refine drew_h h fun w3 h => ?_
  refine nn_i ?_
  refine ldS_h (g := gm) (o := 0 + 2) h rfl ?_
  refine nn_i ?_
  refine tI T h hr (rk_row hf) ?_
  refine ixS_h (sz := 7) (s := sr) (vs := rowsV m.rows) h (by decide) (by omega) (by omega) fun ga oa _ hrd hst => ?_
  simp only [Int.toNat_natCast] at hrd hst
  have e0 := row_at hrow
  refine hst h inferInstance 3 _ _ (by decide) rfl fun w9 h => ?_
  rw [rows_set (r' := { m.rows.getD t.row r0 with kind := kind }) e0 (by decide) rfl] at h
  refine hst h inferInstance 4 _ _ (by decide) rfl fun w10 h => ?_
  rw [rows_set (r := { m.rows.getD t.row r0 with kind := kind }) (r' := { m.rows.getD t.row r0 with kind := kind, v := v }) (List.getElem?_set_self (by omega)) (by decide) rfl, List.set_set] at h
  refine nn_i ?_
  refine tI T h hr (rk_get hf (j := 18) (by decide)) ?_
  refine hst h inferInstance 5 _ _ (by decide) rfl fun w13 h => ?_
  rw [rows_set (r := { m.rows.getD t.row r0 with kind := kind, v := v }) (r' := { m.rows.getD t.row r0 with kind := kind, v := v, steps := t.f.getD 18 0 }) (List.getElem?_set_self (by omega)) (by decide) rfl, List.set_set] at h
  have h : St w0 w13 (RL gm ps ss sr F st E (parV Q ++ rkV t so sk b) (m.fin t.row t.f kind v).rows R) := h
  refine nn_i ?_
  refine tI T h hr (rk_row hf) ?_
  refine nn_i ?_
  refine tA T h hr (j := 24) (n := 5) (by rw [rk_len hf hb]; decide) ?_
  rw [rk_by hf hb]
  refine newC_h h fun g18 w19 h => ?_
  refine stW_h (g := g18) h rfl (by simp [agI, ints, hb]) (Ck.one_agI _) fun w20 h => ?_
  have h : St w0 w20 (blk g18 (ints b) :: RL gm ps ss sr F st E (parV Q ++ rkV t so sk b) (m.fin t.row t.f kind v).rows R) := h
  refine drew_h h fun w21 h => ?_
  refine nn_i ?_
  refine ldS_h (g := gm) (o := 0 + 1) h rfl ?_
  refine nn_i ?_
  refine ldS_h (g := gm) (o := 0 + 1) h rfl ?_
  have hn := h.slen (sz := 29) (s := ss) (vs := parV Q ++ rkV t so sk b)
  have hm := (h.own (sz := 29) (s := ss) (vs := parV Q ++ rkV t so sk b)).max
  have hcap := (h.own (sz := 29) (s := ss) (vs := parV Q ++ rkV t so sk b)).cap
  rw [List.length_append, hr, rk_len hf hb] at hn
  have hnq : ss.n = q + 1 := by omega
  dsimp only
  rw [show IntKind.wrap .i64 (((ss.n : Nat) : Int) - 1) = (q : Int) by rw [wrap_id ⟨by omega, by omega⟩]; omega]
  refine slS_h (s := ss) (sz := 29) (vs := parV Q ++ rkV t so sk b) h (by decide) (by omega) (by omega) fun d hd h => ?_
  have ev : ((parV Q ++ rkV t so sk b).drop ((0 : Int).toNat * 29)).take (((q : Int).toNat - (0 : Int).toNat) * 29) = parV Q := by
    rw [Int.toNat_natCast, show (0 : Int).toNat = 0 from rfl, Nat.zero_mul, List.drop_zero, Nat.sub_zero, ← hr, List.take_left]
  rw [ev] at h
  have hd : d.n = q := by rw [hd]; simp
  refine nn_i ?_
  refine stC_h (g := gm) (o := 0 + 1) (v := .slice d.a d.n d.c) h rfl (by simp) fun w28 h => ?_
  have h : St w0 w28 (blk g18 (ints b) :: RL gm ps d sr F st E (parV Q) (m.fin t.row t.f kind v).rows R) := h
  refine nn_i ?_
  refine ldS_h (g := gm) (o := 0 + 1) h rfl ?_
  cases Q with
  | none =>
    have hq0 : q = 0 := hQ
    refine iteB_f (by rw [decide_eq_false_iff_not]; dsimp only; omega) ?_
    exact hk d _ (h.rm 0 rfl)
  | some p =>
    obtain ⟨hpf, hpb, q', hq', hpr⟩ := hQ
    refine iteB_t (by rw [decide_eq_true_eq]; dsimp only; omega) ?_
    refine drew_h h fun w31 h => ?_
    refine ldW_h (g := g18) h (by simp [ints, hb]) ?_
    have hP : ∀ {w'}, St w0 w' (blk g18 (ints b) :: RL gm ps d sr F st E (parV (some p)) (m.fin t.row t.f kind v).rows R) → St w0 w' (RL gm ps d sr F st E (p.rest ++ rkV p.t p.so p.sk p.b) (m.fin t.row t.f kind v).rows (blk g18 (ints b) :: R)) := fun h => h.perm (by repeat' (first | exact List.Perm.refl _ | refine perm_f 0 rfl ?_ | refine perm_f 1 rfl ?_ | refine perm_f 2 rfl ?_ | refine perm_f 3 rfl ?_ | refine perm_f 4 rfl ?_ | refine perm_f 5 rfl ?_ | refine perm_f 6 rfl ?_ | refine perm_f 7 rfl ?_))
    refine top_s (hP h) hpr (rk_len hpf hpb) fun g2 o2 w34 T2 h34 => ?_
    refine samec_h (g := g18) (o := 0) h h34 ?_
    refine top_s h34 hpr (rk_len hpf hpb) fun g3 o3 w36 T3 h36 => ?_
    refine samec_h (g := g18) (o := 0) h h36 ?_
    refine nn_i ?_
    refine tA T3 h36 hpr (j := 0) (n := 19) (by rw [rk_len hpf hpb]; decide) ?_
    rw [rk_f hpf]
    refine Fr.rforked_s hpf hb fun w40 he => ?_
    have h := ext_of h36 he
    refine nn_i ?_
    refine tW T2 h hpr (rk_len hpf hpb) (j := 0) (n := 19) (xs := agI (fForked p.t.f b t.row)) (by simp [agI, ints, fForked_len, hpf]) (by decide) (Ck.one_agI _) fun w42 h => ?_
    rw [rk_setf hpf (by rw [fForked_len, hpf])] at h
    exact hk d _ (h.rm 3 rfl)
abbrev zero29 : Array Value := #[(.int .i64 (0 : Int)), (.int .i64 (0 : Int)), (.int .i64 (0 : Int)), (.int .i64 (0 : Int)), (.int .i64 (0 : Int)), (.int .i64 (0 : Int)), (.int .i64 (0 : Int)), (.int .i64 (0 : Int)), (.int .i64 (0 : Int)), (.int .i64 (0 : Int)), (.int .i64 (0 : Int)), (.int .i64 (0 : Int)), (.int .i64 (0 : Int)), (.int .i64 (0 : Int)), (.int .i64 (0 : Int)), (.int .i64 (0 : Int)), (.int .i64 (0 : Int)), (.int .i64 (0 : Int)), (.int .i64 (0 : Int)), (.int .i64 (0 : Int)), (.slice none 0 0), (.slice none 0 0), (.int .i64 (0 : Int)), (.bool false), (.int .i64 (0 : Int)), (.int .i64 (0 : Int)), (.int .i64 (0 : Int)), (.int .i64 (0 : Int)), (.int .i64 (0 : Int))]
theorem elTk : ElS Go.Proofs.Try.prog 65 29 264 (.agg zero29) := ⟨by kernel_rfl, rfl⟩
theorem list5 {l : List Int} (h : l.length = 5) : ∃ a b c d e, l = [a, b, c, d, e] := by
  match l, h with
  | [a, b, c, d, e], _ => exact ⟨a, b, c, d, e, rfl⟩
def newTk (f : List Int) : Array Value := agI f ++ #[.int .i64 0, .slice none 0 0, .slice none 0 0, .int .i64 0, .bool false, .int .i64 0, .int .i64 0, .int .i64 0, .int .i64 0, .int .i64 0]
theorem spl_a {f : List Int} (hf : f.length = 19) : (agI f).zipIdx.foldl (fun cs (x, j) => cs.setIfInBounds (0 + j) x) zero29 = newTk f := by
  obtain ⟨c0, c1, c2, c3, c4, c5, c6, c7, c8, c9, c10, c11, c12, c13, c14, c15, c16, c17, c18, rfl⟩ := Fr.list19 hf
  kernel_rfl
def kidTk (f : List Int) (row nest : Nat) (off : Bool) : Tk := ⟨f, row, [(false, 0)], 0, nest, off⟩
theorem spl_b {f b : List Int} {row n nest : Nat} {off : Bool} {a1 a2 : Addr} (hf : f.length = 19) (hb : b.length = 5) (hn : n = row) : (agI b).zipIdx.foldl (fun cs (x, j) => cs.setIfInBounds (24 + j) x) (Array.setIfInBounds (Array.setIfInBounds (Array.setIfInBounds (Array.setIfInBounds (newTk f) 19 (.int .i64 ((n : Nat) : Int))) 20 (.slice (some a1) 1 1)) 21 (.slice (some a2) 1 1)) 23 (.bool off)) = (rkV (kidTk f row nest off) ⟨some a1, 1, 1⟩ ⟨some a2, 1, 1⟩ b).toArray := by
  subst hn
  obtain ⟨c0, c1, c2, c3, c4, c5, c6, c7, c8, c9, c10, c11, c12, c13, c14, c15, c16, c17, c18, rfl⟩ := Fr.list19 hf
  obtain ⟨b0, b1, b2, b3, b4, rfl⟩ := list5 hb
  kernel_rfl
theorem spl_c {f b : List Int} {row nest : Nat} {off : Bool} {s1 s2 : Sl} (hf : f.length = 19) (hb : b.length = 5) : (rkV (kidTk f row nest off) s1 s2 b).toArray.zipIdx.foldl (fun cs (x, j) => cs.setIfInBounds (0 + j) x) zero29 = (rkV (kidTk f row nest off) s1 s2 b).toArray := by
  obtain ⟨c0, c1, c2, c3, c4, c5, c6, c7, c8, c9, c10, c11, c12, c13, c14, c15, c16, c17, c18, rfl⟩ := Fr.list19 hf
  obtain ⟨b0, b1, b2, b3, b4, rfl⟩ := list5 hb
  kernel_rfl
theorem spl_d {a : Bool} {n : Int} : (#[(.bool a), (.int .i64 n)] : Array Value).zipIdx.foldl (fun cs (x, j) => cs.setIfInBounds (0 + j) x) #[(.bool false), (.int .i64 (0 : Int))] = #[(.bool a), (.int .i64 n)] := by kernel_rfl
theorem radd_s {f : List Int} {par inn : Int} {off : Bool} {nest : Nat} {stack : List Value} {k : Unit → World → Prop} (h : St w0 w (RL gm ps ss sr F st E stack rows R)) (hf : f.length = 19) (hb : b.length = 5) (hrl : rows.length < 10000000) (hst : stack.length = q * 29) (hq : q < 1000) (hnest : nest < 1000)
    (hk : ∀ w' ss' sr' so sk, St w0 w' (RL gm ps ss' sr' F st E (stack ++ rkV (kidTk f rows.length nest off) so sk b) (rows ++ [⟨par, inn, f.getD 0 0, 0, 0, 0, []⟩]) (slc 2 so (opV nest [(false, 0)]) :: slc 1 sk (kV [(false, 0)]) :: R)) → k () w') :
    pelotonref06_Machine_add (some ⟨gm, 0, none⟩) (agI f) par inn off (nest : Int) (agI b) w k := by
  have hsr := rows_n (s := sr) (rs := rows) h
  have hsn := h.slen (sz := 29) (s := ss) (vs := stack)
  have hssn : ss.n = q := by omega
  unfold pelotonref06_Machine_add
  refine newC_h h fun g1 w2 h => newC_h h fun g3 w4 h => ?_
  have h : St w0 w4 (blk g3 (ints b) :: blk g1 (ints f) :: RL gm ps ss sr F st E stack rows R) := h
  refine nn_i ?_
  refine ldS_h (g := gm) (o := 0 + 2) h rfl ?_
  refine drew_h h fun w7 h => ?_
  refine nn_i ?_
  refine ldS_h (g := gm) (o := 0 + 2) h rfl ?_
  refine ldI_h (g := g1) (o := 0 + 0) h (ints_getD (by omega)) ?_
  refine samec_self ?_
  refine spl_i _ rfl spl_row ?_
  have h7 := h
  refine newC_h h fun g12 w13 h2 => ?_
  refine samec_h (g := gm) (o := 0 + 2) h7 h2 ?_
  have h2 : St w0 w13 (blk g12 (rwV ⟨par, inn, f.getD 0 0, 0, 0, 0, []⟩) :: _) := h2
  refine bApp_h (s := sr) (vs := rowsV rows) (x := ⟨some ⟨g12, 0, none⟩, 1, 1⟩) (ys := rwV ⟨par, inn, f.getD 0 0, 0, 0, 0, []⟩) h2 elR (by kernel_rfl) (blk_slsN (n := 1) (h2.blk (g := g12)) rfl 1) (by intro v hv; simp [rwV] at hv; rcases hv with rfl | rfl | rfl | rfl | rfl | rfl | rfl <;> rfl) (by simp only; omega) (by simp only; omega) fun sr' w15 h n2 => ?_
  refine nn_i ?_
  refine stC_h (g := gm) (o := 0 + 2) (v := .slice sr'.a sr'.n sr'.c) h rfl (by simp) fun w17 h => ?_
  have eR : rowsV rows ++ rwV ⟨par, inn, f.getD 0 0, 0, 0, 0, []⟩ = rowsV (rows ++ [⟨par, inn, f.getD 0 0, 0, 0, 0, []⟩]) := by simp [rowsV]
  rw [eR] at h
  have h : St w0 w17 (blk g3 (ints b) :: blk g1 (ints f) :: RL gm ps ss sr' F st E stack (rows ++ [⟨par, inn, f.getD 0 0, 0, 0, 0, []⟩]) R) := h.rm 0 rfl
  refine drew_h h fun w18 h => ?_
  refine nn_i ?_
  refine ldS_h (g := gm) (o := 0 + 1) h rfl ?_
  refine ldW_h (g := g1) h (by simp [ints, hf]) ?_
  refine ldW_h (g := g3) h (by simp [ints, hb]) ?_
  have ew : IntKind.wrap .i64 ((nest : Int) + 1) = ((nest + 1 + ([] : List (Bool × Int)).length : Nat) : Int) := by rw [wrap_id ⟨by omega, by omega⟩]; simp
  rw [ew]
  -- the end of all three orders
  have fin : ∀ {w27 : World} {ga gk : Nat}, St w0 w27 (blk ga [.bool false, .int .i64 ((nest + 1 + ([] : List (Bool × Int)).length : Nat) : Int)] :: blk gk [.int .i64 0] :: blk g3 (ints b) :: blk g1 (ints f) :: RL gm ps ss sr' F st E stack (rows ++ [⟨par, inn, f.getD 0 0, 0, 0, 0, []⟩]) R) →
      newC w27 (rkV (kidTk f rows.length nest off) ⟨some ⟨ga, 0, none⟩, 1, 1⟩ ⟨some ⟨gk, 0, none⟩, 1, 1⟩ b).toArray 90 fun a31 w32 =>
      samec 1 (Addr.add ⟨gm, 0, none⟩ 1) w18 w32 (
      bApp Go.Proofs.Try.prog #[65, 65] 65 [(.slice ss.a ss.n ss.c), (.slice (some a31) 1 1)] w32 fun s33 w34 =>
      nn (some ⟨gm, 0, none⟩) fun a35 =>
      stC w34 (Addr.add a35 1) (.slice s33.a s33.n s33.c) fun w36 =>
      (k () w36)) := by
    intro w27 ga gk h2
    refine newC_h h2 fun g31 w32 h2 => ?_
    refine samec_h (g := gm) (o := 0 + 1) h h2 ?_
    have h2 : St w0 w32 (blk g31 (rkV (kidTk f rows.length nest off) ⟨some ⟨ga, 0, none⟩, 1, 1⟩ ⟨some ⟨gk, 0, none⟩, 1, 1⟩ b) :: _) := h2
    refine bApp_h (s := ss) (vs := stack) (x := ⟨some ⟨g31, 0, none⟩, 1, 1⟩) (ys := rkV (kidTk f rows.length nest off) ⟨some ⟨ga, 0, none⟩, 1, 1⟩ ⟨some ⟨gk, 0, none⟩, 1, 1⟩ b) h2 elTk (by kernel_rfl) (blk_slsN (n := 1) (h2.blk (g := g31)) (rk_len hf hb) 1) (rk_one hf) (by simp only; omega) (by simp only; omega) fun ss' w34 h2 n2 => ?_
    refine nn_i ?_
    refine stC_h (g := gm) (o := 0 + 1) (v := .slice ss'.a ss'.n ss'.c) h2 rfl (by simp) fun w36 h2 => ?_
    have h3 : St w0 w36 (blk ga [.bool false, .int .i64 ((nest + 1 + ([] : List (Bool × Int)).length : Nat) : Int)] :: blk gk [.int .i64 0] :: blk g3 (ints b) :: blk g1 (ints f) :: RL gm ps ss' sr' F st E (stack ++ rkV (kidTk f rows.length nest off) ⟨some ⟨ga, 0, none⟩, 1, 1⟩ ⟨some ⟨gk, 0, none⟩, 1, 1⟩ b) (rows ++ [⟨par, inn, f.getD 0 0, 0, 0, 0, []⟩]) R) := h2.rm 0 rfl
    have h4 := St.asS (g := ga) (n := 1) (sz := 2) h3 rfl (by decide) (by intro v hv; simp at hv; rcases hv with rfl | rfl <;> rfl)
    have h4 : St w0 w36 (slc 2 ⟨some ⟨ga, 0, none⟩, 1, 1⟩ (opV nest [(false, 0)]) :: blk gk [.int .i64 0] :: blk g3 (ints b) :: blk g1 (ints f) :: RL gm ps ss' sr' F st E (stack ++ rkV (kidTk f rows.length nest off) ⟨some ⟨ga, 0, none⟩, 1, 1⟩ ⟨some ⟨gk, 0, none⟩, 1, 1⟩ b) (rows ++ [⟨par, inn, f.getD 0 0, 0, 0, 0, []⟩]) R) := h4
    have h5 := St.asS (g := gk) (n := 1) (sz := 1) h4 rfl (by decide) (by intro v hv; simp at hv; subst hv; rfl)
    have h5 : St w0 w36 (slc 2 ⟨some ⟨ga, 0, none⟩, 1, 1⟩ (opV nest [(false, 0)]) :: slc 1 ⟨some ⟨gk, 0, none⟩, 1, 1⟩ (kV [(false, 0)]) :: blk g3 (ints b) :: blk g1 (ints f) :: RL gm ps ss' sr' F st E (stack ++ rkV (kidTk f rows.length nest off) ⟨some ⟨ga, 0, none⟩, 1, 1⟩ ⟨some ⟨gk, 0, none⟩, 1, 1⟩ b) (rows ++ [⟨par, inn, f.getD 0 0, 0, 0, 0, []⟩]) R) := h5
    refine hk w36 ss' sr' ⟨some ⟨ga, 0, none⟩, 1, 1⟩ ⟨some ⟨gk, 0, none⟩, 1, 1⟩ (((h5.rm 2 rfl).rm 2 rfl).perm ?_)
    simp only [List.eraseIdx]
    repeat' (first | exact List.Perm.refl _ | refine perm_f 0 rfl ?_ | refine perm_f 1 rfl ?_ | refine perm_f 2 rfl ?_ | refine perm_f 3 rfl ?_ | refine perm_f 4 rfl ?_ | refine perm_f 5 rfl ?_ | refine perm_f 6 rfl ?_ | refine perm_f 7 rfl ?_)
  have hs29 : ∀ s1 s2 : Sl, (rkV (kidTk f rows.length nest off) s1 s2 b).toArray.size = 29 := fun s1 s2 => by simpa using rk_len (t := kidTk f rows.length nest off) hf hb
  refine ⟨samec_self (samec_self (samec_self ⟨?_, ?_⟩)), ?_⟩
  · refine spl_i _ rfl spl_d ?_
    refine newC_h h fun g24 w25 h2 => ?_
    refine samec_h (g := g3) (o := 0) h h2 (samec_h (g := g1) (o := 0) h h2 (samec_h (g := gm) (o := 0 + 1) h h2 ?_))
    refine newC_h h2 fun g26 w27 h2 => ?_
    refine samec_h (g := g3) (o := 0) h h2 (samec_h (g := g1) (o := 0) h h2 (samec_h (g := gm) (o := 0 + 1) h h2 ?_))
    refine spl_i _ (by simp [ints, hf]) (spl_a hf) ?_
    refine spl_i _ (by simp [ints, hb]) (spl_b (nest := nest) hf hb hsr) ?_
    refine samec_h (g := gm) (o := 0 + 1) h h2 ?_
    refine spl_i _ (hs29 _ _) (spl_c hf hb) ?_
    exact fin (h2.perm (by repeat' (first | exact List.Perm.refl _ | refine perm_f 0 rfl ?_ | refine perm_f 1 rfl ?_ | refine perm_f 2 rfl ?_ | refine perm_f 3 rfl ?_ | refine perm_f 4 rfl ?_ | refine perm_f 5 rfl ?_ | refine perm_f 6 rfl ?_ | refine perm_f 7 rfl ?_)))
  · refine newC_h h fun g37 w38 h2 => ?_
    refine samec_h (g := g3) (o := 0) h h2 (samec_h (g := g1) (o := 0) h h2 (samec_h (g := gm) (o := 0 + 1) h h2 ?_))
    refine spl_i _ rfl spl_d ?_
    refine newC_h h2 fun g40 w41 h2 => ?_
    refine samec_h (g := g3) (o := 0) h h2 (samec_h (g := g1) (o := 0) h h2 (samec_h (g := gm) (o := 0 + 1) h h2 ?_))
    refine spl_i _ (by simp [ints, hf]) (spl_a hf) ?_
    refine spl_i _ (by simp [ints, hb]) (spl_b (nest := nest) hf hb hsr) ?_
    refine samec_h (g := gm) (o := 0 + 1) h h2 ?_
    refine spl_i _ (hs29 _ _) (spl_c hf hb) ?_
    exact fin (h2.perm (by repeat' (first | exact List.Perm.refl _ | refine perm_f 0 rfl ?_ | refine perm_f 1 rfl ?_ | refine perm_f 2 rfl ?_ | refine perm_f 3 rfl ?_ | refine perm_f 4 rfl ?_ | refine perm_f 5 rfl ?_ | refine perm_f 6 rfl ?_ | refine perm_f 7 rfl ?_)))
  · refine newC_h h fun g37 w38 h2 => ?_
    refine samec_h (g := g3) (o := 0) h h2 (samec_h (g := g1) (o := 0) h h2 (samec_h (g := gm) (o := 0 + 1) h h2 ?_))
    refine samec_h (g := g3) (o := 0) h h2 (samec_h (g := g1) (o := 0) h h2 (samec_h (g := gm) (o := 0 + 1) h h2 ?_))
    refine spl_i _ rfl spl_d ?_
    refine newC_h h2 fun g40 w41 h2 => ?_
    refine samec_h (g := g3) (o := 0) h h2 (samec_h (g := g1) (o := 0) h h2 (samec_h (g := gm) (o := 0 + 1) h h2 ?_))
    refine spl_i _ (by simp [ints, hf]) (spl_a hf) ?_
    refine spl_i _ (by simp [ints, hb]) (spl_b (nest := nest) hf hb hsr) ?_
    refine samec_h (g := gm) (o := 0 + 1) h h2 ?_
    refine spl_i _ (hs29 _ _) (spl_c hf hb) ?_
    exact fin (h2.perm (by repeat' (first | exact List.Perm.refl _ | refine perm_f 0 rfl ?_ | refine perm_f 1 rfl ?_ | refine perm_f 2 rfl ?_ | refine perm_f 3 rfl ?_ | refine perm_f 4 rfl ?_ | refine perm_f 5 rfl ?_ | refine perm_f 6 rfl ?_ | refine perm_f 7 rfl ?_)))
end
end Go.Proofs.Ytgkfbagclkjilaa
