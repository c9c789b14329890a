/-
  Layer 7: what a table is: the code.
  Layer 7: what a table is, and a row's rows: the code.
  Layer 8, in plain terms: what stays true of a row while it is followed.
  The next instruction; which ones are points: the code.
  Layer 8: a row that is followed, in memory; what it is asked of scopes; what instructions do.
  Layer 8: what instructions do, in memory.
  Layer 8: closes, forks, joins, in memory.
  Layer 8: a step.
  Layer 8: how a row that was followed stands; all its steps.
  Layer 8: a row, followed.
  Layer 8, in plain terms: what rows begin with; all rows, one by one.
  Layer 8: all rows: the code.
  From what a law's function does to the given statement where a row lists package-level variables (none of which the code reads).
  Layers 7 and 8: what the laws ask: tables that come in; small ones; the chapter's examples.
  Layer 8: the chapter's examples; what fits quietly fits; tables of one row.
  Layer 7: the document's answer: tables, kids.
  Elements of several cells: read whole, written whole; their cells in a row.
  Layer 8: what fits quietly fits; how programs begin.
  Layer 8, in plain terms: of a row that has ended no other number, or number of steps, fits, and of no row another function, or scope.
  Layer 8: the document's answer: scopes as numbers; what is known, in memory.
-/
import Derived.Test.YtgkfbagclkjilaaGreatDoorPRows4
import Derived.LaidMore
import Derived.SevenTiedAt
import Derived.Lay
import Derived.Stop.Joined
set_option linter.unusedSimpArgs false
set_option linter.unusedVariables false
set_option maxRecDepth 100000
namespace Go.Proofs.YtgkfbagclkjilaaGreatDoor.Ft
open Go Go.Ev Go.Proofs Go.Proofs.YtgkfbagclkjilaaGreatDoor
structure Tbl (w : World) (s : Sl) (l : List Rb) : Prop where
  rws : Rws 7 w s (l.map rbV)
  few : l.length < 4611686018427387904
theorem Tbl.ext {w w' : World} {s : Sl} {l : List Rb} (h : Tbl w s l) (he : Ext w w') : Tbl w' s l := ⟨h.rws.ext he, h.few⟩
theorem Tbl.len {w : World} {s : Sl} {l : List Rb} (h : Tbl w s l) : s.n = l.length := by have := h.rws.len; simpa using this.symm
theorem rbV_len {r : Rb} : (rbV r).length = 7 := rfl
theorem rowAt_get {l : List Rb} {i : Int} (h : i.toNat < l.length) : l[i.toNat]? = some (rowAt l i) := by
  unfold rowAt; rw [List.getD_eq_getElem?_getD, List.getElem?_eq_getElem h]; rfl
theorem rowAt_map {l : List Rb} {i : Int} (h : i.toNat < l.length) : (l.map rbV)[i.toNat]? = some (rbV (rowAt l i)) := by
  rw [List.getElem?_map, rowAt_get h]; rfl
theorem one_rb {r : Rb} : ∀ v ∈ (rbV r).toArray, v.oneCell' = true := by
  intro v hv; simp [rbV] at hv; rcases hv with rfl | rfl | rfl | rfl | rfl | rfl | rfl <;> rfl
section
variable {w0 w : World} {L : List HP} {s : Sl} {l : List Rb} {i o : Int}
theorem tI_h {j : Nat} {n : Int} {c : Int → Prop} (hT : Tbl w0 s l) (h : St w0 w L) (h0 : 0 ≤ i) (h1 : i < l.length) (hj : (rbV (rowAt l i))[j]? = some (.int .i64 n)) (hc : c n) : ixS s i 7 fun a => ldI .i64 w (Addr.add a j) c :=
  ixR_h hT.rws h h0 (rowAt_map (by omega)) fun p hp => ldI_i (hp h hj) hc
theorem tA_h {c : Addr → Array Value → Prop} (hT : Tbl w0 s l) (h : St w0 w L) (h0 : 0 ≤ i) (h1 : i < l.length) (hc : ∀ p : Addr, (∀ {w' L'}, St w0 w' L' → ∀ {j v}, (rbV (rowAt l i))[j]? = some v → w'.cell? (p.add j) = some v) → c p (rbV (rowAt l i)).toArray) : ixS s i 7 fun a => ldA 7 w a fun cs => c a cs :=
  ixR_h hT.rws h h0 (rowAt_map (by omega)) fun p hp => ldA_c rbV_len (fun j v => hp h) (hc p hp)
theorem samecT {w' : World} {n : Nat} {p : Addr} {e : List Value} {c : Prop} (h1 : ∀ j v, e[j]? = some v → w.cell? (p.add j) = some v) (h2 : ∀ j v, e[j]? = some v → w'.cell? (p.add j) = some v) (hn : n ≤ e.length) (hc : c) : samec n p w w' c :=
  ⟨fun j hj => by
    have hlt : j < e.length := by omega
    rw [h1 j _ (List.getElem?_eq_getElem hlt), h2 j _ (List.getElem?_eq_getElem hlt)], hc⟩
theorem within_s {k : Bool → World → Prop} (hT : Tbl w0 s l) (h : St w0 w L) (hk : k (withinP l l.length i o) w) : table_Within s i o w k := by
  have hn := hT.len; have hf := hT.few
  unfold table_Within
  generalize hG : withinP l l.length i o = W at hk
  refine loopP_of (fun (x : Int × Int) w' => ∃ j : Nat, x.2 = (j : Int) ∧ j ≤ l.length ∧ withinP l (l.length - j) x.1 o = W ∧ w' = w) (fun x _ => (l.length - x.2).toNat) ⟨0, rfl, by omega, hG, rfl⟩ ?_
  rintro ⟨x, _⟩ _ ⟨j, rfl, hj, hw, rfl⟩ C hC
  dsimp only at hw ⊢
  refine iteB_i (fun hb => ?_) fun hb => ?_
  · have hlt : j < l.length := by have := of_decide_eq_true hb; omega
    obtain ⟨m, hm⟩ : ∃ m, l.length - j = m + 1 := ⟨l.length - j - 1, by omega⟩
    rw [hm] at hw
    unfold withinP at hw
    refine iteB_i (fun hb => ?_) fun hb => ?_
    · have hc : x < 0 ∨ (l.length : Int) ≤ x := by
        simp only [Bool.or_eq_true, decide_eq_true_eq] at hb; omega
      rw [if_pos hc] at hw
      rw [hw]; exact hk
    · have hc : ¬ (x < 0 ∨ (l.length : Int) ≤ x) := by
        simp only [Bool.or_eq_false_iff, decide_eq_false_iff_not] at hb; omega
      rw [if_neg hc] at hw
      refine iteB_i (fun hb => ?_) fun hb => ?_
      · rw [if_pos (by simpa using hb)] at hw
        rw [hw]; exact hk
      · rw [if_neg (by simpa using hb)] at hw
        refine tI_h (j := 0) hT h (by omega) (by omega) rfl ?_
        refine hC _ _ ⟨j + 1, ?_, by omega, ?_, rfl⟩ (by dsimp only; rw [wrap_id ⟨by omega, by omega⟩]; omega)
        · dsimp only; rw [wrap_id ⟨by omega, by omega⟩]; simp
        · rw [show l.length - (j + 1) = m by omega]; exact hw
  · have : j = l.length := by have := of_decide_eq_false hb; omega
    subst this
    rw [Nat.sub_self] at hw
    unfold withinP at hw
    rw [← hw] at hk; exact hk
end
section
variable {w : World} {s : Sl} {l : List Rb} {i : Int}
theorem came_s {r : Rb} {k : Bool → World → Prop} (hk : ∀ w', Ext w w' → k (decide (2 ≤ r.kind)) w') : table_came (rbV r).toArray w k := by
  unfold table_came
  refine newC_h (.nil w) fun g w2 h => ?_
  exact ldI_h (g := g) (o := 0 + 3) h rfl (hk _ h.ext)
theorem row_s {k : Array Value → World → Prop} (hT : Tbl w s l) (h0 : 0 ≤ i) (h1 : i < l.length) (hk : ∀ w', Ext w w' → k (rbV (rowAt l i)).toArray w') : table_look_row #[.slice s.a s.n s.c, .int .i64 i] w k := by
  unfold table_look_row
  refine newC_h (.nil w) fun g1 w2 h => newC_h h fun g3 w4 h => ?_
  refine ldS_h (g := g1) (o := 0 + 0) h rfl ?_
  refine ldI_h (g := g1) (o := 0 + 1) h rfl ?_
  refine tA_h hT h h0 h1 fun p hp => ?_
  refine stW_h (g := g3) h rfl rfl one_rb fun w9 h => ?_
  refine ldW_h (g := g3) h rfl ?_
  exact hk _ h.ext
theorem place_s {k : Bool → World → Prop} (hT : Tbl w s l) (h0 : 0 ≤ i) (h1 : i < l.length) (hk : ∀ w', Ext w w' → k (tPlace l i) w') : table_look_place #[.slice s.a s.n s.c, .int .i64 i] w k := by
  unfold table_look_place table_look_place_b
  have hf := hT.few
  refine newC_h (.nil w) fun g1 w2 h => ldW_h (g := g1) h rfl ?_
  refine row_s (hT.ext h.ext) h0 h1 fun w5 he => ?_
  have h := h.on he
  refine ldI_h (g := g1) (o := 0 + 1) h rfl ?_
  unfold tPlace at hk
  refine iteB_i (fun hb => ?_) fun hb => ?_
  · rw [if_pos (by simpa using hb)] at hk; exact hk _ h.ext
  · rw [if_neg (by simpa using hb)] at hk
    refine iteB_i (fun hb => ?_) fun hb => ?_
    · have hb1 : decide (0 ≤ (rowAt l i).par) = true := hb
      rw [hb1, Bool.true_and] at hk
      refine ldI_h (g := g1) (o := 0 + 1) h rfl ?_
      refine iteB_i (fun hb => ?_) fun hb => ?_
      · have hb1 : decide ((rowAt l i).par < i) = true := hb
        rw [hb1, Bool.true_and] at hk
        refine ldS_h (g := g1) (o := 0 + 0) h rfl ?_
        refine ldI_h (g := g1) (o := 0 + 1) h rfl ?_
        refine within_s (L := []) (hT.ext h.ext) (St.nil _) ?_
        rw [wrap_id ⟨by omega, by omega⟩]
        exact hk _ h.ext
      · have hb1 : decide ((rowAt l i).par < i) = false := hb
        rw [hb1, Bool.false_and] at hk
        exact hk _ h.ext
    · have hb1 : decide (0 ≤ (rowAt l i).par) = false := hb
      rw [hb1, Bool.false_and] at hk
      exact hk _ h.ext
theorem span_s {k : Bool → World → Prop} (hT : Tbl w s l) (h0 : 0 ≤ i) (h1 : i < l.length) (hk : ∀ w', Ext w w' → k (tSpan i (rowAt l i)) w') : table_look_span #[.slice s.a s.n s.c, .int .i64 i] w k := by
  unfold table_look_span table_look_span_b
  refine newC_h (.nil w) fun g1 w2 h => ldW_h (g := g1) h rfl ?_
  refine row_s (hT.ext h.ext) h0 h1 fun w5 he => ?_
  have h := h.on he
  refine newC_h h fun g6 w7 h => ?_
  refine stW_h (g := g6) h rfl rfl one_rb fun w8 h => ?_
  generalize rowAt l i = r at hk h
  unfold tSpan at hk
  have tail : ∀ {c : Bool → Prop}, c (decide (0 ≤ r.fn) && (decide (r.fn < 32) && (decide (0 ≤ r.kind) && (decide (r.kind ≤ 4) && (decide (0 ≤ r.steps) && decide (r.steps ≤ 1048576)))))) →
      ldI .i64 w8 (Addr.add ⟨g6, 0, none⟩ 2) fun i11 => iteB (decide (i11 ≥ (0 : Int))) (ldI .i64 w8 (Addr.add ⟨g6, 0, none⟩ 2) fun i12 => iteB (decide (i12 < (32 : Int))) (ldI .i64 w8 (Addr.add ⟨g6, 0, none⟩ 3) fun i13 => iteB (decide (i13 ≥ (0 : Int))) (
            ldI .i64 w8 (Addr.add ⟨g6, 0, none⟩ 3) fun i14 => iteB (decide (i14 ≤ (4 : Int))) (ldI .i64 w8 (Addr.add ⟨g6, 0, none⟩ 5) fun i15 => iteB (decide (i15 ≥ (0 : Int))) (ldI .i64 w8 (Addr.add ⟨g6, 0, none⟩ 5) fun i16 => c (decide (i16 ≤ (1048576 : Int)))) (c false)) (c false)) (c false)) (c false)) (c false) := by
    intro c hc
    refine ldI_h (g := g6) (o := 0 + 2) h rfl ?_
    refine iteB_i (fun hb => ?_) fun hb => ?_
    · rw [show decide (0 ≤ r.fn) = true from hb, Bool.true_and] at hc
      refine ldI_h (g := g6) (o := 0 + 2) h rfl ?_
      refine iteB_i (fun hb => ?_) fun hb => ?_
      · rw [show decide (r.fn < 32) = true from hb, Bool.true_and] at hc
        refine ldI_h (g := g6) (o := 0 + 3) h rfl ?_
        refine iteB_i (fun hb => ?_) fun hb => ?_
        · rw [show decide (0 ≤ r.kind) = true from hb, Bool.true_and] at hc
          refine ldI_h (g := g6) (o := 0 + 3) h rfl ?_
          refine iteB_i (fun hb => ?_) fun hb => ?_
          · rw [show decide (r.kind ≤ 4) = true from hb, Bool.true_and] at hc
            refine ldI_h (g := g6) (o := 0 + 5) h rfl ?_
            refine iteB_i (fun hb => ?_) fun hb => ?_
            · rw [show decide (0 ≤ r.steps) = true from hb, Bool.true_and] at hc
              exact ldI_h (g := g6) (o := 0 + 5) h rfl hc
            · rw [show decide (0 ≤ r.steps) = false from hb, Bool.false_and] at hc; exact hc
          · rw [show decide (r.kind ≤ 4) = false from hb, Bool.false_and] at hc; exact hc
        · rw [show decide (0 ≤ r.kind) = false from hb, Bool.false_and] at hc; exact hc
      · rw [show decide (r.fn < 32) = false from hb, Bool.false_and] at hc; exact hc
    · rw [show decide (0 ≤ r.fn) = false from hb, Bool.false_and] at hc; exact hc
  refine ldI_h (g := g6) (o := 0 + 1) h rfl ?_
  refine iteB_i (fun hb => ?_) fun hb => ?_
  · rw [show decide (0 ≤ r.inn) = true from hb, Bool.true_and] at hk
    refine ldI_h (g := g1) (o := 0 + 1) h rfl ?_
    refine iteB_i (fun hb => ?_) fun hb => ?_
    · rw [show decide (0 < i) = true from hb, Bool.true_or, Bool.true_and] at hk
      exact tail (c := fun b => k b w8) (hk _ h.ext)
    · rw [show decide (0 < i) = false from hb, Bool.false_or] at hk
      refine ldI_h (g := g6) (o := 0 + 1) h rfl ?_
      refine iteB_i (fun hb => ?_) fun hb => ?_
      · rw [show (r.inn == 0) = true from hb, Bool.true_and] at hk
        exact tail (c := fun b => k b w8) (hk _ h.ext)
      · rw [show (r.inn == 0) = false from hb, Bool.false_and] at hk
        exact hk _ h.ext
  · rw [show decide (0 ≤ r.inn) = false from hb, Bool.false_and] at hk; exact hk _ h.ext
end
theorem bytes_loop (b : ByteArray) : ∀ (n i : Nat) (r : List UInt8), b.size - i = n → ByteArray.toList.loop b i r = r.reverse ++ b.data.toList.drop i
  | 0, i, r, h => by
    unfold ByteArray.toList.loop
    have : ¬ i < b.size := by omega
    rw [if_neg this, List.drop_of_length_le (by rw [Array.length_toList]; show b.size ≤ i; omega)]; simp
  | n+1, i, r, h => by
    unfold ByteArray.toList.loop
    have hi : i < b.size := by omega
    rw [if_pos hi, bytes_loop b n (i+1) _ (by omega)]
    have hl : i < b.data.toList.length := by rw [Array.length_toList]; exact hi
    rw [List.drop_eq_getElem_cons hl]
    have : b.get! i = b.data.toList[i] := by
      show b.data[i]! = _
      rw [getElem!_pos b.data i hi]; simp
    rw [this]
    simp
theorem bytes_toList (b : ByteArray) : b.toList = b.data.toList := by
  unfold ByteArray.toList
  rw [bytes_loop b _ 0 [] rfl]; simp
theorem of_nt {x : Bool} (h : (!x) = false) : x = true := by cases x <;> simp at h ⊢
theorem of_ny {x : Bool} (h : (!x) = true) : x = false := by cases x <;> simp at h ⊢
def asV : List Value := (List.range 256).map fun j => .bool (j == 48 || j == 49)
theorem asV_at {c : Int} (h0 : 0 ≤ c) (h1 : c < 256) : asV[c.toNat]? = some (.bool (c == 48 || c == 49)) := by
  unfold asV
  rw [List.getElem?_map, List.getElem?_range (by omega)]
  simp only [Option.map_some]
  congr 2
  have e1 : (c.toNat == 48) = (c == 48) := by rw [Bool.eq_iff_iff]; simp; omega
  have e2 : (c.toNat == 49) = (c == 49) := by rw [Bool.eq_iff_iff]; simp; omega
  rw [e1, e2]
theorem asV_one : ∀ v ∈ asV.toArray, v.oneCell' = true := by
  intro v hv; simp [asV] at hv; obtain ⟨j, _, rfl⟩ := hv; rfl
section
variable {w0 w : World} {L : List HP} {g : Nat} {f : HP → List HP}
theorem contains_s {c : Int} {k : Bool → World → Prop} (h : St w0 w L) [a : At L (blk g) asV f] (h0 : 0 ≤ c) (h1 : c < 256) (hk : k (c == 48 || c == 49) w) : strings_asciiSet_contains (some ⟨g, 0, none⟩) c w k := by
  unfold strings_asciiSet_contains
  refine nn_i ⟨⟨h0, by omega⟩, ?_⟩
  show ldB w (Addr.add ⟨g, 0, none⟩ (c.toNat * 1)) _
  rw [Nat.mul_one, add_mk, Nat.zero_add]
  exact ldB_h (g := g) (o := c.toNat) h (asV_at h0 h1) hk
end
theorem ext_list (t : ByteArray) (a b : Nat) : (t.extract a b).data.toList = (t.data.toList.drop a).take (b - a) := by
  rw [ByteArray.data_extract, Array.toList_extract]
theorem ixStr_at {t : ByteArray} {n : Nat} {b : UInt8} {c : Int → Prop} (h : t.data.toList[n]? = some b) (hc : c b.toNat) : ixStr t n c := by
  refine ⟨by omega, ?_⟩
  have : t[((n : Int)).toNat]? = some b := by
    rw [Int.toNat_natCast]
    have hlt : n < t.data.size := by have := (List.getElem?_eq_some_iff.1 h).1; simpa using this
    have e : t[n]? = some (t[n]'hlt) := getElem?_pos t n hlt
    rw [e]
    rw [← h]
    have : t.data.toList[n]? = some (t.data[n]'hlt) := by rw [Array.getElem?_toList, Array.getElem?_eq_getElem hlt]
    rw [this]; rfl
  rw [this]; exact hc
theorem sz_list (t : ByteArray) : t.size = t.data.toList.length := by rw [Array.length_toList]; rfl
theorem byte_in {b : UInt8} : ((b.toNat : Int) == 48 || (b.toNat : Int) == 49) = (b == 48 || b == 49) := by
  have e1 : ((b.toNat : Int) == 48) = (b == 48) := by
    rw [Bool.eq_iff_iff]; simp only [beq_iff_eq]
    constructor
    · intro h; apply UInt8.toNat_inj.1; have : b.toNat = 48 := by omega
      rw [this]; rfl
    · rintro rfl; rfl
  have e2 : ((b.toNat : Int) == 49) = (b == 49) := by
    rw [Bool.eq_iff_iff]; simp only [beq_iff_eq]
    constructor
    · intro h; apply UInt8.toNat_inj.1; have : b.toNat = 49 := by omega
      rw [this]; rfl
    · rintro rfl; rfl
  rw [e1, e2]
section
variable {w0 w : World} {L : List HP} {g : Nat} {f : HP → List HP} {t : ByteArray}
theorem byte_lt (b : UInt8) : (b.toNat : Int) < 256 := by have := b.toNat_lt; omega
theorem trimR_s {k : ByteArray → World → Prop} (hs : t.size < 4611686018427387904) (h : St w0 w L) [a : At L (blk g) asV f] (hk : ∀ t', is01 t' = is01 t → t'.size ≤ t.size → k t' w) : strings_trimRightASCII t (some ⟨g, 0, none⟩) w k := by
  unfold strings_trimRightASCII strings_trimRightASCII_b
  refine loopP_of (fun (x : ByteArray) w' => is01 x = is01 t ∧ x.size ≤ t.size ∧ w' = w) (fun x _ => x.size) ⟨rfl, Nat.le_refl _, rfl⟩ ?_
  rintro x _ ⟨hx, hz, rfl⟩ C hC
  refine iteB_i (fun hb => ?_) fun hb => hk _ hx hz
  have hpos : 0 < x.size := by have := of_decide_eq_true hb; omega
  have ew : IntKind.wrap .i64 ((x.size : Int) - 1) = ((x.size - 1 : Nat) : Int) := by rw [wrap_id ⟨by omega, by omega⟩]; omega
  rw [ew]
  have hl : x.size = x.data.toList.length := sz_list x
  obtain ⟨b, hbb⟩ : ∃ b, x.data.toList[x.size - 1]? = some b := ⟨_, List.getElem?_eq_getElem (by omega)⟩
  refine ixStr_at hbb ?_
  refine contains_s h (by omega) (byte_lt b) ?_
  rw [byte_in]
  refine iteB_i (fun hb => hk _ hx hz) fun hb => ?_
  have hb : (b == 48 || b == 49) = true := of_nt hb
  refine ⟨⟨by omega, by omega⟩, ⟨by omega, by omega⟩, ?_⟩
  have hd : (x.extract 0 (x.size - 1)).data.toList = x.data.toList.take (x.size - 1) := by rw [ext_list]; simp
  have hsz : (x.extract 0 (x.size - 1)).size = x.size - 1 := by rw [sz_list, hd, List.length_take, ← hl]; omega
  simp only [Int.toNat_zero, Int.toNat_natCast]
  refine hC _ _ ⟨?_, by rw [hsz]; omega, rfl⟩ (by rw [hsz]; omega)
  rw [← hx]
  unfold is01
  rw [hd]
  have e : x.data.toList = x.data.toList.take (x.size - 1) ++ [b] := by
    refine (List.take_append_drop (x.size - 1) x.data.toList).symm.trans ?_
    congr 1
    rw [List.drop_eq_getElem_cons (by omega)]
    rw [List.getElem?_eq_getElem (by omega)] at hbb
    rw [Option.some.inj hbb, List.drop_of_length_le (by omega)]
  refine Eq.trans ?_ (congrArg (fun q : List UInt8 => q.all fun c => c == 48 || c == 49) e.symm)
  rw [List.all_append]
  simp only [List.all_cons, List.all_nil, Bool.and_true, hb]
theorem trimL_s {k : ByteArray → World → Prop} (hs : t.size < 4611686018427387904) (h : St w0 w L) [a : At L (blk g) asV f] (hk : ∀ t', strEqB t' (ByteArray.mk #[]) = is01 t → k t' w) : strings_trimLeftASCII t (some ⟨g, 0, none⟩) w k := by
  unfold strings_trimLeftASCII strings_trimLeftASCII_b
  refine loopP_of (fun (x : ByteArray) w' => is01 x = is01 t ∧ x.size ≤ t.size ∧ w' = w) (fun x _ => x.size) ⟨rfl, Nat.le_refl _, rfl⟩ ?_
  rintro x _ ⟨hx, hz, rfl⟩ C hC
  have hl : x.size = x.data.toList.length := sz_list x
  refine iteB_i (fun hb => ?_) fun hb => hk _ ?_
  · have hpos : 0 < x.size := by have := of_decide_eq_true hb; omega
    obtain ⟨b, r, hbr⟩ : ∃ b r, x.data.toList = b :: r := by
      cases e : x.data.toList with
      | nil => rw [e, List.length_nil] at hl; omega
      | cons b r => exact ⟨b, r, rfl⟩
    refine ixStr_at (n := 0) (b := b) (by rw [hbr]; rfl) ?_
    refine contains_s h (by omega) (byte_lt b) ?_
    rw [byte_in]
    have hi : is01 x = ((b == 48 || b == 49) && r.all fun c => c == 48 || c == 49) := by unfold is01; rw [hbr]; rfl
    refine iteB_i (fun hb => hk _ ?_) fun hb => ?_
    · rw [← hx, hi, of_ny hb, Bool.false_and]
      unfold strEqB
      rw [bytes_toList, bytes_toList, hbr]; rfl
    · have hb : (b == 48 || b == 49) = true := of_nt hb
      refine ⟨⟨by omega, by omega⟩, ⟨by omega, by omega⟩, ?_⟩
      have hd : (x.extract 1 x.size).data.toList = r := by
        rw [ext_list, hbr]
        simp only [List.drop_succ_cons, List.drop_zero]
        exact List.take_of_length_le (by rw [hl, hbr]; simp)
      have hsz : (x.extract 1 x.size).size = x.size - 1 := by rw [sz_list, hd, hl, hbr]; simp
      simp only [Int.toNat_one, Int.toNat_natCast]
      refine hC _ _ ⟨?_, by rw [hsz]; omega, rfl⟩ (by rw [hsz]; omega)
      rw [← hx, hi, hb, Bool.true_and]
      unfold is01; rw [hd]
  · have h0 : x.size = 0 := by have := of_decide_eq_false hb; omega
    have e : x.data.toList = [] := List.length_eq_zero_iff.1 (by omega)
    rw [← hx]
    unfold strEqB is01
    rw [bytes_toList, bytes_toList, e]; rfl
end
end Go.Proofs.YtgkfbagclkjilaaGreatDoor.Ft
namespace Go.Proofs.YtgkfbagclkjilaaGreatDoor.Ft
open Go Go.Ev Go.Proofs Go.Proofs.YtgkfbagclkjilaaGreatDoor
theorem as_len : asV.length = 256 := by simp [asV]
theorem asSet : (((List.replicate 256 (Value.bool false)).set 48 (.bool true)).set 49 (.bool true)) = asV := by kernel_rfl
section
variable {w : World} {s : Sl} {l : List Rb} {i : Int} {t : ByteArray}
theorem asciiSet_s {k : Array Value × Bool → World → Prop} (hk : ∀ w', Ext w w' → k (asV.toArray, true) w') : strings_makeASCIISet (ByteArray.mk #[48, 49]) w k := by
  unfold strings_makeASCIISet
  refine newC_h (.nil w) fun g w2 h => ?_
  have h : St w w2 [blk g (List.replicate 256 (Value.bool false))] := h
  refine ⟨3, ?_⟩
  unfold iterP
  refine iteB_t rfl (ixStr_at (n := 0) (b := 48) rfl ?_)
  refine iteB_f rfl ⟨⟨by decide, by decide⟩, ?_⟩
  refine stC_h (g := g) (o := 48) h rfl (by simp) fun w3 h => ?_
  unfold iterP
  refine iteB_t rfl (ixStr_at (n := 1) (b := 49) rfl ?_)
  refine iteB_f rfl ⟨⟨by decide, by decide⟩, ?_⟩
  refine stC_h (g := g) (o := 49) h rfl (by simp) fun w4 h => ?_
  rw [asSet] at h
  unfold iterP
  refine iteB_f rfl ?_
  refine ldW_h (g := g) h as_len ?_
  refine stW_h (g := g) h as_len (by simp [as_len]) asV_one fun w5 h => ?_
  refine ldW_h (g := g) h (by simp [as_len]) ?_
  exact hk _ h.ext
theorem trim_s {k : ByteArray → World → Prop} (hs : t.size < 4611686018427387904) (hk : ∀ t' w', Ext w w' → strEqB t' (ByteArray.mk #[]) = is01 t → k t' w') : strings_Trim t (ByteArray.mk #[48, 49]) w k := by
  unfold strings_Trim strings_Trim_b
  have e0 : strEqB (ByteArray.mk #[48, 49]) (ByteArray.mk #[]) = false := by unfold strEqB; rw [bytes_toList, bytes_toList]; rfl
  rw [e0, Bool.or_false]
  refine iteB_i (fun hb => ?_) fun hb => ?_
  · refine hk _ _ (.refl _ _) ?_
    rw [hb]
    unfold strEqB at hb
    rw [bytes_toList, bytes_toList] at hb
    have : t.data.toList = [] := by
      have e : ({ data := #[] } : ByteArray).data.toList = [] := rfl
      rw [e] at hb
      simpa using hb
    unfold is01; rw [this]; rfl
  refine joinP_i (fun b w' => b = false ∧ w' = w) (fun J hJ => iteB_f rfl (hJ _ _ ⟨rfl, rfl⟩)) fun b w4 hbw => ?_
  rw [hbw.1, hbw.2]
  refine iteB_f rfl ?_
  refine asciiSet_s fun w13 he => ?_
  refine newC_h (.of_ext he) fun g w15 h => ?_
  refine stW_h (n := 256) (g := g) h (by kernel_rfl) (by simp [as_len]) asV_one fun w16 h => ?_
  have h : St w w16 [blk g asV] := h
  refine iteB_t rfl ?_
  refine trimR_s hs h fun t' h1 h2 => ?_
  refine trimL_s (by omega) h fun t2 h3 => ?_
  exact hk _ _ h.ext (by rw [h3, h1])
theorem told_s {k : Bool → World → Prop} (hT : Tbl w s l) (h0 : 0 ≤ i) (h1 : i < l.length) (hs : (rowAt l i).cl.size < 4611686018427387904) (hk : ∀ w', Ext w w' → k (is01 (rowAt l i).cl) w') : table_look_told #[.slice s.a s.n s.c, .int .i64 i] w k := by
  unfold table_look_told table_look_told_b
  refine newC_h (.nil w) fun g1 w2 h => ldW_h (g := g1) h rfl ?_
  refine row_s (hT.ext h.ext) h0 h1 fun w5 he => ?_
  have h := h.on he
  unfold ptA
  rw [show (rbV (rowAt l i)).toArray[6]? = some (.string (rowAt l i).cl) from rfl]
  show strings_Trim (rowAt l i).cl _ _ _
  refine trim_s hs fun t' w9 he2 e => ?_
  rw [e]
  exact hk _ (h.ext.trans he2)
theorem strEq_nil : strEqB t (ByteArray.mk #[]) = (t.size == 0) := by
  unfold strEqB; rw [bytes_toList, bytes_toList, sz_list]
  cases t.data.toList with
  | nil => rfl
  | cons a l => rfl
theorem state_s {k : Bool → World → Prop} (hT : Tbl w s l) (h0 : 0 ≤ i) (h1 : i < l.length) (hp : i ≠ 0 → 0 ≤ (rowAt l i).par ∧ (rowAt l i).par < l.length) (hk : ∀ w', Ext w w' → k (tState l i (rowAt l i)) w') : table_look_state #[.slice s.a s.n s.c, .int .i64 i] w k := by
  unfold table_look_state table_look_state_b
  refine newC_h (.nil w) fun g1 w2 h => ldW_h (g := g1) h rfl ?_
  refine row_s (hT.ext h.ext) h0 h1 fun w5 he => ?_
  have h := h.on he
  refine newC_h h fun g6 w7 h => ?_
  refine stW_h (g := g6) h rfl rfl one_rb fun w8 h => ?_
  unfold tState at hk
  refine joinP_i (fun b w' => b = ((rowAt l i).v != 0 && ((rowAt l i).kind != 2 && (rowAt l i).kind != 3)) ∧ w' = w8) (fun J hJ => ?_) fun b w' hb => ?_
  · refine ldI_h (g := g6) (o := 0 + 4) h rfl ?_
    refine iteB_i (fun hb => ?_) fun hb => hJ _ _ ⟨by rw [show ((rowAt l i).v != 0) = false from hb]; rfl, rfl⟩
    rw [show ((rowAt l i).v != 0) = true from hb, Bool.true_and] at hJ
    refine ldI_h (g := g6) (o := 0 + 3) h rfl ?_
    refine iteB_i (fun hb => ?_) fun hb => hJ _ _ ⟨by rw [show ((rowAt l i).kind != 2) = false from hb]; rfl, rfl⟩
    exact ldI_h (g := g6) (o := 0 + 3) h rfl (hJ _ _ ⟨by rw [show ((rowAt l i).kind != 2) = true from hb]; rfl, rfl⟩)
  rw [hb.2, hb.1]
  refine iteB_i (fun hb => ?_) fun hb => ?_
  · rw [hb] at hk; exact hk _ h.ext
  rw [hb, Bool.not_false, Bool.true_and] at hk
  refine joinP_i (fun b w' => b = ((rowAt l i).kind == 0 && ((rowAt l i).steps != 0 || (rowAt l i).cl.size != 0)) ∧ w' = w8) (fun J hJ => ?_) fun b w' hb => ?_
  · refine ldI_h (g := g6) (o := 0 + 3) h rfl ?_
    refine iteB_i (fun hb => ?_) fun hb => hJ _ _ ⟨by rw [show ((rowAt l i).kind == 0) = false from hb]; rfl, rfl⟩
    rw [show ((rowAt l i).kind == 0) = true from hb, Bool.true_and] at hJ
    refine ldI_h (g := g6) (o := 0 + 5) h rfl ?_
    refine iteB_i (fun hb => hJ _ _ ⟨by rw [show ((rowAt l i).steps != 0) = true from hb]; rfl, rfl⟩) fun hb => ?_
    refine ldStr_h (g := g6) (o := 0 + 6) h rfl ?_
    rw [strEq_nil]
    exact hJ _ _ ⟨by rw [show ((rowAt l i).steps != 0) = false from hb]; rfl, rfl⟩
  rw [hb.2, hb.1]
  refine iteB_i (fun hb => ?_) fun hb => ?_
  · rw [hb] at hk; exact hk _ h.ext
  rw [hb, Bool.not_false, Bool.true_and] at hk
  refine ldI_h (g := g1) (o := 0 + 1) h rfl ?_
  refine iteB_i (fun hb => ?_) fun hb => ?_
  · rw [show (i == 0) = true from hb] at hk; exact hk _ h.ext
  rw [show (i == 0) = false from hb, Bool.false_or] at hk
  obtain ⟨hp0, hp1⟩ := hp (by simpa using hb)
  refine ldS_h (g := g1) (o := 0 + 0) h rfl ?_
  refine ldI_h (g := g6) (o := 0 + 0) h rfl ?_
  refine tA_h hT h hp0 hp1 fun p hpc => ?_
  refine newC_h h fun g26 w27 h => ?_
  refine stW_h (g := g26) h rfl rfl one_rb fun w28 h => ?_
  refine ldI_h (g := g26) (o := 0 + 3) h rfl ?_
  refine iteB_i (fun hb => ?_) fun hb => ?_
  · rw [show ((rowAt l (rowAt l i).par).kind != 0) = true from hb, Bool.true_and] at hk
    refine ldW_h (g := g26) h rfl ?_
    refine came_s (r := rowAt l (rowAt l i).par) fun w32 he => ?_
    have h := h.on he
    refine iteB_i (fun hb => ?_) fun hb => ?_
    · rw [hb, Bool.true_or] at hk; exact hk _ h.ext
    · rw [hb, Bool.false_or] at hk
      refine ldW_h (g := g6) h rfl ?_
      exact came_s (r := rowAt l i) fun w35 he => hk _ (h.ext.trans he)
  · rw [show ((rowAt l (rowAt l i).par).kind != 0) = false from hb, Bool.false_and] at hk; exact hk _ h.ext
def askL (s : Sl) (i : Int) : List Value := [.func (.func n_table_look_place) #[.agg #[.slice s.a s.n s.c, .int .i64 i]] #[], .int .i64 11, .func (.func n_table_look_span) #[.agg #[.slice s.a s.n s.c, .int .i64 i]] #[], .int .i64 10,
  .func (.func n_table_look_told) #[.agg #[.slice s.a s.n s.c, .int .i64 i]] #[], .int .i64 11, .func (.func n_table_look_state) #[.agg #[.slice s.a s.n s.c, .int .i64 i]] #[], .int .i64 19]
theorem ask_step {w0 : World} {g : Nat} {id : FuncId} {code : Int} {cs : Array Value} {j : Nat} {L : List HP} {f : HP → List HP} {t : TypeId} (h : St w0 w L) [a : At L (blk g) (askL s i) f] (hj : j < 4)
    (hv : (askL s i)[j * 2]? = some (.func (.func id) #[.agg cs] #[])) (he : (askL s i)[j * 2 + 1]? = some (.int .i64 code)) {k : Addr → World → Prop}
    (hk : ∀ g' w', St w0 w' (blk g' [.func (.func id) #[.agg cs] #[], .int .i64 code] :: L) → k ⟨g', 0, none⟩ w') :
    ixS (Sl.mk (some ⟨g, 0, none⟩) 4 4) (j : Int) 2 fun a17 => ldA 2 w a17 fun cs18 => newC w #[.nilFunc, (.int .i64 (0 : Int))] t fun a19 w20 => stA 2 w20 a19 cs18 fun w21 => k a19 w21 := by
  refine ⟨⟨by omega, by simp only; omega⟩, ?_⟩
  have e : (⟨g, 0, none⟩ : Addr).add (((j : Int)).toNat * 2) = ⟨g, j * 2, none⟩ := by rw [add_mk, Int.toNat_natCast]; simp
  show ldA 2 w ((⟨g, 0, none⟩ : Addr).add (((j : Int)).toNat * 2)) _
  rw [e]
  refine ldA_h (n := 2) (g := g) (o := j * 2) h (by simp [askL]; omega) ?_
  have e2 : (((askL s i).drop (j * 2)).take 2) = [.func (.func id) #[.agg cs] #[], .int .i64 code] := by
    have h1 : j * 2 < (askL s i).length := by simp [askL]; omega
    have h2 : j * 2 + 1 < (askL s i).length := by simp [askL]; omega
    rw [List.drop_eq_getElem_cons h1, List.drop_eq_getElem_cons h2]
    rw [List.getElem?_eq_getElem h1] at hv
    rw [List.getElem?_eq_getElem h2] at he
    rw [Option.some.inj hv, Option.some.inj he]; rfl
  rw [e2]
  refine newC_h h fun g' w20 h => ?_
  refine stW_h (n := 2) (g := g') h rfl rfl (by intro v hv; simp at hv; rcases hv with rfl | rfl <;> rfl) fun w21 h => ?_
  exact hk _ _ h
theorem a_place {cs : Array Value} {c : Value → World → Prop} (h : table_look_place cs w fun r w => c (.bool r) w) : d_table_look_place [.agg cs] w c := h
theorem a_span {cs : Array Value} {c : Value → World → Prop} (h : table_look_span cs w fun r w => c (.bool r) w) : d_table_look_span [.agg cs] w c := h
theorem a_told {cs : Array Value} {c : Value → World → Prop} (h : table_look_told cs w fun r w => c (.bool r) w) : d_table_look_told [.agg cs] w c := h
theorem a_state {cs : Array Value} {c : Value → World → Prop} (h : table_look_state cs w fun r w => c (.bool r) w) : d_table_look_state [.agg cs] w c := h
theorem toB_i {n : Bool} {c : Bool → Prop} (h : c n) : toB (.bool n) c := h
theorem callF_1 {orc : Oracle} {id : FuncId} {a : Value} {w : World} {c : Value → World → Prop} {d : Dec} (e : ∀ args w c, orc (.func id) args w c = d args.toList w c) (h : d [a] w c) : callF orc (.func (.func id) #[a] #[]) #[] w c :=
  callF_i e h
theorem check_s {k : Int → World → Prop} (hT : Tbl w s l) (h0 : 0 ≤ i) (h1 : i < l.length) (hs : (rowAt l i).cl.size < 4611686018427387904) (hk : ∀ w', Ext w w' → k (tRow l i) w') : table_check s i w k := by
  unfold table_check table_check_b
  unfold tRow at hk
  refine newC_h (.nil w) fun g1 w2 h => stW_h (n := 2) (g := g1) h rfl rfl (by intro v hv; simp at hv; rcases hv with rfl | rfl <;> rfl) fun w3 h => ?_
  refine ldW_h (g := g1) h rfl (ldW_h (g := g1) h rfl (ldW_h (g := g1) h rfl (ldW_h (g := g1) h rfl ?_)))
  refine spl_V _ rfl (by simp) rfl ?_
  refine spl_V _ rfl (by simp) rfl ?_
  refine spl_V _ rfl (by simp) rfl ?_
  refine spl_V _ rfl (by simp) rfl ?_
  refine newC_h h fun g12 w13 h => ?_
  have h : St w w13 (blk g12 (askL s i) :: [blk g1 [.slice s.a s.n s.c, .int .i64 i]]) := h
  refine ⟨5, ?_⟩
  unfold iterP
  refine iteB_t rfl (ask_step (j := 0) (g := g12) h (by omega) rfl rfl fun g' w' h => ?_)
  refine ldV_h (g := g') (o := 0 + 0) h rfl ?_
  refine callF_1 (d := d_table_look_place) (fun _ _ _ => rfl) (a_place (place_s (hT.ext h.ext) h0 h1 fun w' he => ?_))
  have h := h.on he
  refine toB_i ?_
  refine iteB_i (fun hb => ?_) fun hb => ?_
  · rw [if_pos (of_ny hb)] at hk
    exact ldI_h (g := g') (o := 0 + 1) h rfl (hk _ h.ext)
  have hb := of_nt hb
  rw [if_neg (by rw [hb]; decide)] at hk
  have h := h.drop
  have hp : i ≠ 0 → 0 ≤ (rowAt l i).par ∧ (rowAt l i).par < l.length := fun hi => by
    unfold tPlace at hb
    rw [if_neg hi] at hb
    simp only [Bool.and_eq_true, decide_eq_true_eq] at hb
    omega
  unfold iterP
  refine iteB_t rfl (ask_step (j := 1) (g := g12) h (by omega) rfl rfl fun g' w' h => ?_)
  refine ldV_h (g := g') (o := 0 + 0) h rfl ?_
  refine callF_1 (d := d_table_look_span) (fun _ _ _ => rfl) (a_span (span_s (hT.ext h.ext) h0 h1 fun w' he => ?_))
  have h := h.on he
  refine toB_i ?_
  refine iteB_i (fun hb => ?_) fun hb => ?_
  · rw [if_pos (of_ny hb)] at hk
    exact ldI_h (g := g') (o := 0 + 1) h rfl (hk _ h.ext)
  have hb := of_nt hb
  rw [if_neg (by rw [hb]; decide)] at hk
  have h := h.drop
  unfold iterP
  refine iteB_t rfl (ask_step (j := 2) (g := g12) h (by omega) rfl rfl fun g' w' h => ?_)
  refine ldV_h (g := g') (o := 0 + 0) h rfl ?_
  refine callF_1 (d := d_table_look_told) (fun _ _ _ => rfl) (a_told (told_s (hT.ext h.ext) h0 h1 hs fun w' he => ?_))
  have h := h.on he
  refine toB_i ?_
  refine iteB_i (fun hb => ?_) fun hb => ?_
  · rw [if_pos (of_ny hb)] at hk
    exact ldI_h (g := g') (o := 0 + 1) h rfl (hk _ h.ext)
  have hb := of_nt hb
  rw [if_neg (by rw [hb]; decide)] at hk
  have h := h.drop
  unfold iterP
  refine iteB_t rfl (ask_step (j := 3) (g := g12) h (by omega) rfl rfl fun g' w' h => ?_)
  refine ldV_h (g := g') (o := 0 + 0) h rfl ?_
  refine callF_1 (d := d_table_look_state) (fun _ _ _ => rfl) (a_state (state_s (hT.ext h.ext) h0 h1 hp fun w' he => ?_))
  have h := h.on he
  refine toB_i ?_
  refine iteB_i (fun hb => ?_) fun hb => ?_
  · rw [if_pos (of_ny hb)] at hk
    exact ldI_h (g := g') (o := 0 + 1) h rfl (hk _ h.ext)
  have hb := of_nt hb
  rw [if_neg (by rw [hb]; decide)] at hk
  have h := h.drop
  unfold iterP
  exact iteB_f rfl (hk _ h.ext)
theorem Check_s {k : Int → World → Prop} (hT : Tbl w s l) (hs : ∀ r ∈ l, r.cl.size < 4611686018427387904) (hk : ∀ w', Ext w w' → k (tcheck l) w') : table_Check s w k := by
  have hn := hT.len; have hf := hT.few
  unfold table_Check table_Check_b
  unfold tcheck at hk
  refine iteB_i (fun hb => ?_) fun hb => ?_
  · rw [if_pos (by have : ((s.n : Nat) : Int) = 0 := by simpa using hb
                   omega)] at hk
    exact hk _ (.refl _ _)
  rw [if_neg (by have : ¬ ((s.n : Nat) : Int) = 0 := by simpa using hb
                 omega)] at hk
  generalize hG : tChk l l.length 0 = W at hk
  refine loopP_of (fun (x : Int) w' => ∃ j : Nat, x = (j : Int) ∧ j ≤ l.length ∧ tChk l (l.length - j) j = W ∧ Ext w w') (fun x _ => (l.length - x).toNat) ⟨0, rfl, by omega, hG, .refl _ _⟩ ?_
  rintro _ w' ⟨j, rfl, hj, hw, he⟩ C hC
  refine iteB_i (fun hb => ?_) fun hb => ?_
  · have hlt : j < l.length := by have := of_decide_eq_true hb; omega
    obtain ⟨m, hm⟩ : ∃ m, l.length - j = m + 1 := ⟨l.length - j - 1, by omega⟩
    rw [hm] at hw
    unfold tChk at hw
    refine check_s (hT.ext he) (by omega) (by omega) (hs _ (List.mem_of_getElem? (rowAt_get (by omega)))) fun w5 he2 => ?_
    refine iteB_i (fun hb => ?_) fun hb => ?_
    · rw [if_neg (by simpa using hb)] at hw
      rw [hw]; exact hk _ (he.trans he2)
    · rw [if_pos (by simpa using hb)] at hw
      refine hC _ _ ⟨j + 1, ?_, by omega, ?_, he.trans he2⟩ (by rw [wrap_id ⟨by omega, by omega⟩]; omega)
      · rw [wrap_id ⟨by omega, by omega⟩]; simp
      · rw [show l.length - (j + 1) = m by omega]; exact hw
  · have : j = l.length := by have := of_decide_eq_false hb; omega
    subst this
    rw [Nat.sub_self] at hw
    unfold tChk at hw
    rw [hw]; exact hk _ he
def kidsT (l : List Rb) (i : Int) (n : Nat) : List Int := ((List.range n).filter fun k : Nat => (rowAt l (k : Int)).par == i).map fun k : Nat => (k : Int)
theorem kidsT_succ {n : Nat} : kidsT l i (n + 1) = kidsT l i n ++ (if (rowAt l n).par == i then [(n : Int)] else []) := by
  unfold kidsT
  rw [List.range_succ, List.filter_append, List.map_append]
  congr 1
  by_cases h : (rowAt l n).par == i
  · rw [if_pos h]; simp only [List.filter_cons, h, if_true, List.filter_nil, List.map_cons, List.map_nil]
  · rw [if_neg h]; simp only [List.filter_cons, h, if_false, Bool.false_eq_true, List.filter_nil, List.map_nil]
theorem kidsT_len {n : Nat} : (kidsT l i n).length ≤ n := by
  unfold kidsT
  rw [List.length_map]
  exact Nat.le_trans (List.length_filter_le _ _) (by simp)
theorem Kids_s {w0 : World} {L : List HP} {k : Sl → World → Prop} (hT : Tbl w0 s l) (h : St w0 w L) (hl : l.length ≤ 1000000) (hk : ∀ sk w', St w0 w' (slc 1 sk (ints (kidsL l i)) :: L) → sk.n = (kidsL l i).length → k sk w') : table_Kids s i w k := by
  have hn := hT.len
  unfold table_Kids
  refine loopP_of (fun (x : Sl × Int) w' => ∃ j : Nat, x.2 = (j : Int) ∧ j ≤ l.length ∧ St w0 w' (slc 1 x.1 (ints (kidsT l i j)) :: L)) (fun x _ => (l.length - x.2).toNat) ⟨0, rfl, by omega, h.nilS 1⟩ ?_
  rintro ⟨sk, _⟩ w' ⟨j, rfl, hj, h⟩ C hC
  dsimp only at h ⊢
  have hsl := h.slen (sz := 1) (s := sk)
  have hkl := kidsT_len (l := l) (i := i) (n := j)
  have hsn : sk.n = (kidsT l i j).length := by simp [ints] at hsl; omega
  have ew : IntKind.wrap .i64 ((j : Int) + 1) = ((j + 1 : Nat) : Int) := by rw [wrap_id ⟨by omega, by omega⟩]; simp
  refine iteB_i (fun hb => ?_) fun hb => ?_
  · have hlt : j < l.length := by have := of_decide_eq_true hb; omega
    refine tA_h hT h (by omega) (by omega) fun p hp => ?_
    refine newC_h h fun g w7 h => ?_
    refine stW_h (g := g) h rfl rfl one_rb fun w8 h => ?_
    refine ldI_h (g := g) (o := 0 + 0) h rfl ?_
    have h := h.drop
    refine iteB_i (fun hb => ?_) fun hb => ?_
    · refine newC_h h fun g10 w11 h => ?_
      refine bApp_h (s := sk) (vs := ints (kidsT l i j)) (x := ⟨some ⟨g10, 0, none⟩, 1, 1⟩) (ys := [.int .i64 j]) h (Ck.elI (by kernel_rfl)) (by kernel_rfl) (blk_sls (n := 1) (l := [.int .i64 j]) (h.blk (g := g10)) rfl 1) (by simp [Value.oneCell']) (by simp only; omega) (by simp only; omega) fun s12 w13 h n12 => ?_
      rw [ew]
      refine hC _ _ ⟨j + 1, rfl, by omega, ?_⟩ (by dsimp only; omega)
      have h := h.drop
      rw [kidsT_succ, if_pos (show ((rowAt l j).par == i) = true from hb)]
      have e : ints (kidsT l i j ++ [(j : Int)]) = ints (kidsT l i j) ++ [.int .i64 j] := by simp [ints]
      rw [e]; exact h
    · rw [ew]
      refine hC _ _ ⟨j + 1, rfl, by omega, ?_⟩ (by dsimp only; omega)
      rw [kidsT_succ, if_neg (by rw [show ((rowAt l j).par == i) = false from hb]; decide), List.append_nil]; exact h
  · have : j = l.length := by have := of_decide_eq_false hb; omega
    subst this
    exact hk sk _ h hsn
end
end Go.Proofs.YtgkfbagclkjilaaGreatDoor.Ft
namespace Go.Proofs.YtgkfbagclkjilaaGreatDoor.Ft
open Go Go.Ev Go.Proofs Go.Proofs.YtgkfbagclkjilaaGreatDoor
open Go.Proofs.YtgkfbagclkjilaaGreatDoor.Fr (fTo fOn fPlain fForked fJoined fClosed fChild fRoot fR isB fTo_len fOn_len fPlain_len fForked_len fJoined_len fClosed_len)
open Go.Proofs.YtgkfbagclkjilaaGreatDoor.Ck (opI Walk Accs needsOf isGoes heldL depths stepD handlesOk subBits scopesOk forks)
section
variable {P : List FnR} {Q : Int → Prop} {l : List Rb} {q : Bool} {row : Int} {inn : Int × Int} {n : Nat} {r r' : Rn} {b b' : Bk} {ks : List Int}
theorem Own.ne {sc : Int × Int → Option ((Int × Int) × Bool)} (h : Own sc row inn ks) : ks ≠ [] := by intro e; subst e; exact h
theorem Own.some {sc : Int × Int → Option ((Int × Int) × Bool)} (h : Own sc row inn ks) : ∃ x, sc (row, ks.headD 0) = some x := by
  match ks, h with
  | [k], ⟨_, q, h⟩ => exact ⟨_, h⟩
  | k :: k' :: r, ⟨_, ⟨q, h⟩, _⟩ => exact ⟨_, h⟩
theorem Own.len {sc : Int × Int → Option ((Int × Int) × Bool)} : ∀ {ks : List Int}, Own sc row inn ks → (ks.length : Int) ≤ ks.headD 0 + 1
  | [k], ⟨h0, _⟩ => by simp [h0]
  | k :: k' :: r, ⟨h0, _, h2⟩ => by have := Own.len h2; simp at this ⊢; omega
theorem FB.kp {f f' : List Int} {pc : Int} (h : FB P f) (k : Kp f f' pc) : FB P f' := ⟨by rw [k.len, h.len], by rw [k.fn]; exact h.f0, by rw [k.fn]; exact h.fn⟩
theorem joined_bad {f i : List Int} {kind v : Int} (hf : f.length = 19) (hb : (fJoined f i kind v).2.2 = true) : Kp f (fJoined f i kind v).1 (f.getD 1 0) := by
  revert hb
  unfold Fr.fJoined
  split
  · intro q; cases q
  split
  · intro q; cases q
  split
  · intro q; cases q
  · intro _; exact kp_to hf
theorem bk_s {s : Int × Int} {x : (Int × Int) × Bool} (h : b.sc s = some x) : b.s s = x := by unfold Bk.s; rw [h]; rfl
structure BTo (row : Int) (kids : List Int) (b b' : Bk) : Prop where
  sc : ∀ s : Int × Int, s.1 ≠ row → b'.sc s = b.sc s
  some : ∀ s : Int × Int, (b.sc s).isSome = true → (b'.sc s).isSome = true
  beg : ∀ i, i ∉ kids → b'.beg i = b.beg i
theorem BTo.refl (row : Int) (kids : List Int) (b : Bk) : BTo row kids b b := ⟨fun _ _ => rfl, fun _ h => h, fun _ _ => rfl⟩
theorem bi_sc {s : Int × Int} {x : (Int × Int) × Bool} (h : BI P Q b) (h2 : ScI (upd b.sc s x)) : BI P Q { b with sc := upd b.sc s x } :=
  ⟨h2, fun i y hy => by
    obtain ⟨h3, h4, h5⟩ := h.beg i y hy
    exact ⟨h3, h4.imp id fun q => isSome_upd q, h5⟩⟩
theorem bto_sc {kids : List Int} {k : Int} {x : (Int × Int) × Bool} : BTo row kids b { b with sc := upd b.sc (row, k) x } :=
  ⟨fun s hs => by show upd b.sc (row, k) x s = _; unfold upd; rw [if_neg (fun e => hs (by rw [e]))], fun s h => isSome_upd h, fun _ _ => rfl⟩
theorem fstp_ri (hA : Accs P) (hN : ∀ g ∈ P, InI g.needs) (hQ : ∀ j, Q j → (rowAt l j).kind ≤ 4) (h0 : 0 ≤ row) (hn : (n : Int) < 1048576) (h : RI P Q row inn n r b ks) (hb : BI P Q b) (hk : ∀ k ∈ r.kids, row < k) (hs : fstp P l q row r b = some (r', b')) :
    r.kind = 0 ∧ (∃ ks', RI P Q row inn (n + 1) r' b' ks') ∧ BI P Q b' ∧ BTo row r.kids b b' ∧ (∃ m, r'.kids = r.kids.drop m) ∧ ∃ m, r'.cl = r.cl.drop m := by
  unfold fstp at hs
  split at hs
  · cases hs
  rename_i hk0
  have hk0 : r.kind = 0 := by omega
  have hfi := h.fi hk0
  obtain ⟨g, hv, ha⟩ := hfi.at hA
  obtain ⟨hp0, hp1⟩ := fat_pc ha
  have hlen := hfi.len
  have hop := h.op
  have hne := h.own.ne
  have hkl : 1 ≤ ks.length := List.length_pos_iff.2 hne
  have hol := h.own.len
  refine ⟨hk0, ?_⟩
  have fin : ∀ {r2 : Rn} {f' : List Int} {pc : Int}, Kp r.f f' pc → r2 = { r with f := f', kind := r2.kind, v := r2.v } → (r2.kind = 0 → FI P Q f' ((ks.length : Int) - 1)) → (∃ ks', RI P Q row inn (n + 1) r2 b ks') ∧ BI P Q b ∧ BTo row r.kids b b ∧ (∃ m, r2.kids = r.kids.drop m) ∧ ∃ m, r2.cl = r.cl.drop m := by
    intro r2 f' pc hkp e hf
    rw [e]
    exact ⟨⟨ks, h.fb.kp hkp, hf, h.own, h.last, ⟨hop.1, by have := hop.2; push_cast; omega⟩, h.kids⟩, hb, BTo.refl _ _ _, ⟨0, rfl⟩, ⟨0, rfl⟩⟩
  split at hs
  · rename_i hp
    cases hs
    rcases plain_keep ha.chk hlen hp0 hp1 hp with ⟨hgo, hkp⟩ | ⟨h7, h6, hkp⟩
    · exact fin hkp rfl fun _ => fi_goes hfi ha hgo hkp
    · exact fin hkp rfl fun _ => fi_next hfi ha h6 (by omega) (by omega) (by omega) hkp (by unfold stepD; rw [if_neg (by omega), if_neg (by omega)])
  rename_i hp
  have hp8 := plain_not ha.chk (by simpa using hp)
  generalize hi : insAt P r.f = i at *
  unfold fact at hs
  split at hs
  · rename_i h8
    split at hs
    · cases hs
    · rename_i k kr hkk
      cases hs
      have hkQ := h.kids k (by rw [hkk]; simp)
      have hF := fi_forked hfi ha h8 hkQ
      have hC := fi_child hA hN hfi ha h8
      obtain ⟨x, hx⟩ := h.own.some
      refine ⟨⟨ks, hF.b, fun _ => hF, h.own, h.last, ⟨hop.1, by have := hop.2; push_cast; omega⟩, fun j hj => h.kids j (by rw [hkk]; simp [hj])⟩, ⟨hb.sc, fun j y hy => ?_⟩, ⟨fun _ _ => rfl, fun _ h => h, fun j hj => ?_⟩, ⟨1, by rw [hkk]; rfl⟩, ⟨0, rfl⟩⟩
      · dsimp only at hy
        unfold upd at hy
        split at hy
        · rename_i e
          cases hy; subst e
          refine ⟨hC, .inr (by rw [h.last, hx]; rfl), ?_⟩
          dsimp only; rw [h.last]; exact hk _ (by rw [hkk]; simp)
        · exact hb.beg j y hy
      · show upd b.beg k _ j = _
        unfold upd; rw [if_neg (fun e => hj (by rw [hkk, e]; simp))]
  rename_i h8
  split at hs
  · rename_i h9
    obtain ⟨hh0, hh1, hq⟩ := fat_join ha h9
    have hk4 := hQ _ hq
    split at hs
    · cases hs
    rename_i hk2
    split at hs
    · rename_i hbad
      cases hs
      exact fin (joined_bad hlen hbad) rfl fun q => by cases q
    · rename_i hbad
      cases hs
      have hk3 : (rowAt l (r.f.getD (10 + (hOf i).toNat) 0)).kind = 2 ∨ (rowAt l (r.f.getD (10 + (hOf i).toNat) 0)).kind = 3 ∨ (rowAt l (r.f.getD (10 + (hOf i).toNat) 0)).kind = 4 := by omega
      have hkp := joined_keep (v := (rowAt l (r.f.getD (10 + (hOf i).toNat) 0)).v) ha.chk hlen hp0 hp1 h9 hk3 (by simpa using hbad)
      exact fin hkp rfl fun _ => fi_next hfi ha (by unfold opI; omega) (by unfold opI; omega) (by unfold opI; omega) (by unfold opI; omega) hkp (by unfold stepD opI; rw [if_neg (by omega), if_neg (by omega)])
  rename_i h9
  split at hs
  · rename_i h11
    cases hs
    have hkp := kp_on hlen hp0 hp1
    obtain ⟨x, hx⟩ := h.own.some
    have hF : FI P Q (fOn r.f) (((r.opened + 1) :: ks).length - 1) := fi_next hfi ha (by unfold opI; omega) (by unfold opI; omega) (by unfold opI; omega) (by unfold opI; omega) hkp (by unfold stepD opI; rw [if_pos h11, wrap_id ⟨by omega, by omega⟩]; simp)
    have hfr : ∀ k ∈ ks, ((row, r.opened + 1) : Int × Int) ≠ (row, k) := fun k hk e => by
      have := (h.own.le k hk).2
      have e2 := congrArg Prod.snd e
      dsimp only at e2
      omega
    have h0k := (h.own.le _ (List.head_mem hne)).1
    have ehd : ks.head hne = ks.headD 0 := by cases ks with
      | nil => exact absurd rfl hne
      | cons a t => rfl
    rw [ehd] at h0k
    have hsc : ScI (upd b.sc (row, r.opened + 1) (r.last, false)) := hb.sc.upd_of ⟨h0, by dsimp only; omega⟩ (.inr ⟨by dsimp only; rw [h.last, hx]; rfl, .inr ⟨by dsimp only; rw [h.last], by dsimp only; rw [h.last]; dsimp only; omega⟩⟩)
    refine ⟨⟨(r.opened + 1) :: ks, h.fb.kp hkp, fun _ => hF, ?_, rfl, ⟨by simp, by have := hop.2; push_cast; omega⟩, h.kids⟩, bi_sc hb hsc, bto_sc, ⟨0, rfl⟩, ⟨0, rfl⟩⟩
    have hO := h.own.upd_of (s := (row, r.opened + 1)) (x := (r.last, false)) (.inr hfr)
    match ks, hne, hO, h.last, hop with
    | k :: kr, _, hO, hl, hop =>
      refine ⟨by simp at hop; omega, ⟨false, ?_⟩, hO⟩
      show upd _ _ _ _ = _
      unfold upd; rw [if_pos rfl, hl]; rfl
  rename_i h11
  split at hs
  · rename_i h12
    have hd := fat_scopes ha (.inl h12)
    split at hs
    · cases hs
    · rename_i c cs hcl
      split at hs
      · cases hs
      · cases hs
        match ks, hd, h, hol, hop with
        | [], hd, _, _, _ => simp at hd
        | [_], hd, _, _, _ => simp at hd
        | k :: k' :: kr, hd, h, hol, hop =>
          obtain ⟨hkk, ⟨qq, hq1⟩, hO⟩ := h.own
          have hkp := closed_keep (b := (c == 49)) ha.chk hlen hp0 hp1 h12
          have hF : FI P Q (fClosed r.f i (c == 49)) ((((k' :: kr).length : Nat) : Int) - 1) := fi_next hfi ha (by unfold opI; omega) (by unfold opI; omega) (by unfold opI; omega) (by unfold opI; omega) hkp (by unfold stepD opI; rw [if_neg h11, if_pos h12, wrap_id ⟨by omega, by omega⟩]; simp)
          have hl : (b.s r.last).1 = (row, k') := by
            have := h.last
            simp only [List.headD_cons] at this
            rw [this, bk_s hq1]
          refine ⟨⟨k' :: kr, h.fb.kp hkp, fun _ => hF, hO, hl, ⟨by simp at hop ⊢; omega, by have := hop.2; push_cast; omega⟩, h.kids⟩, hb, BTo.refl _ _ _, ⟨0, rfl⟩, ⟨1, by rw [hcl]; rfl⟩⟩
  rename_i h12
  split at hs
  · rename_i h13
    cases hs
    have hkp := kp_on hlen hp0 hp1
    obtain ⟨x, hx⟩ := h.own.some
    have hF : FI P Q (fOn r.f) ((ks.length : Int) - 1) := fi_next hfi ha (by unfold opI; omega) (by unfold opI; omega) (by unfold opI; omega) (by unfold opI; omega) hkp (by unfold stepD opI; rw [if_neg h11, if_neg h12])
    have hl := h.last
    have e1 : b.s r.last = x := by rw [hl]; exact bk_s hx
    obtain ⟨u1, u2, u3⟩ := hb.sc.up _ _ hx
    have hsc : ScI (upd b.sc r.last ((b.s r.last).1, true)) := hb.sc.upd_of (by rw [hl]; exact ⟨u1, u2⟩) (by rw [e1, hl]; exact u3)
    refine ⟨⟨ks, h.fb.kp hkp, fun _ => hF, h.own.upd_of (.inl ⟨x.2, by rw [hl, ← hl, e1, hl, hx]⟩), hl, ⟨hop.1, by have := hop.2; push_cast; omega⟩, h.kids⟩, bi_sc hb hsc, ?_, ⟨0, rfl⟩, ⟨0, rfl⟩⟩
    rw [hl]; exact bto_sc
  rename_i h13
  have hkp := kp_on hlen hp0 hp1
  split at hs
  · rename_i h14
    cases hs
    exact fin hkp rfl fun _ => fi_next hfi ha (by unfold opI; omega) (by unfold opI; omega) (by unfold opI; omega) (by unfold opI; omega) hkp (by unfold stepD opI; rw [if_neg h11, if_neg h12])
  · cases hs
    refine fin hkp rfl fun q => ?_
    dsimp only at q
    split at q <;> omega
end
end Go.Proofs.YtgkfbagclkjilaaGreatDoor.Ft
namespace Go.Proofs.YtgkfbagclkjilaaGreatDoor.Ft
open Go Go.Ev Go.Proofs Go.Proofs.YtgkfbagclkjilaaGreatDoor
open Go.Proofs.YtgkfbagclkjilaaGreatDoor.Fr (fTo fOn fPlain fForked fJoined fClosed fChild fRoot fR isB fTo_len fOn_len fPlain_len fForked_len fJoined_len fClosed_len)
open Go.Proofs.YtgkfbagclkjilaaGreatDoor.Ck (opI Walk Accs needsOf isGoes heldL depths stepD handlesOk subBits scopesOk forks)
theorem next_s {f i : List Int} {ps : Sl} {P : List FnR} {w : World} {k : Array Value × Int → World → Prop} {g : FnR} (hF : Funcs5 w ps P) (hf : f.length = 19) (h0 : 0 ≤ f.getD 0 0) (hg : P[(f.getD 0 0).toNat]? = some g) (h1 : 0 ≤ f.getD 1 0)
    (hi : g.code[(f.getD 1 0).toNat]? = some i) (hk : ∀ w', Ext w w' → k (agI i, 0) w') : frame_Frame_Next (agI f) #[.slice ps.a ps.n ps.c] w k := by
  have hn := hF.len
  obtain ⟨_, hcd⟩ := hF.code g (List.mem_of_getElem? hg)
  have hcn := hcd.len
  have hlt := (List.getElem?_eq_some_iff.1 hg).1
  have hlt2 := (List.getElem?_eq_some_iff.1 hi).1
  have h5 := (hcd.five i (List.mem_of_getElem? hi)).1
  unfold frame_Frame_Next
  refine newC_h (.nil w) fun g1 w1 h => newC_h h fun g3 w3 h => newC_h h fun g5 w6 h => ?_
  have h : St w w6 [blk g5 (ints [0, 0, 0, 0, 0]), blk g3 [.slice ps.a ps.n ps.c], blk g1 (ints f)] := h
  refine joinP_i (fun b w' => b = false ∧ w' = w6) (fun J hJ => ?_) fun b v hbv => ?_
  · refine ldI_h (g := g1) (o := 0 + 0) h (ints_getD (by omega)) (iteB_f (by rw [decide_eq_false_iff_not]; show ¬ f.getD 0 0 < 0; omega) ?_)
    refine ldI_h (g := g1) (o := 0 + 0) h (ints_getD (by omega)) (ldS_h (g := g3) (o := 0 + 0) h rfl (hJ _ _ ⟨by rw [decide_eq_false_iff_not]; show ¬ f.getD 0 0 ≥ ((ps.n : Nat) : Int); omega, rfl⟩))
  rw [hbv.1, hbv.2]
  refine iteB_f rfl ?_
  refine ldS_h (g := g3) (o := 0 + 0) h rfl (ldI_h (g := g1) (o := 0 + 0) h (ints_getD (by omega)) ?_)
  refine ixR_h (i := f.getD 0 0) (e := FnR.cells g) hF.rws h h0 (by rw [List.getElem?_map, hg]; rfl) fun p hp => ?_
  refine ldS_i (s := g.sl) (hp h (j := 1) rfl) ?_
  refine joinP_i (fun b w' => b = false ∧ w' = w6) (fun J hJ => ?_) fun b v hbv => ?_
  · refine ldI_h (g := g1) (o := 0 + 1) h (ints_getD (by omega)) (iteB_f (by rw [decide_eq_false_iff_not]; show ¬ f.getD 1 0 < 0; omega) ?_)
    refine ldI_h (g := g1) (o := 0 + 1) h (ints_getD (by omega)) (hJ _ _ ⟨by rw [decide_eq_false_iff_not]; show ¬ f.getD 1 0 ≥ ((g.sl.n : Nat) : Int); omega, rfl⟩)
  rw [hbv.1, hbv.2]
  refine iteB_f rfl ?_
  refine ldI_h (g := g1) (o := 0 + 1) h (ints_getD (by omega)) ?_
  refine ixR_h (i := f.getD 1 0) (e := ints i) hcd.rws h h1 (by rw [List.getElem?_map, hi]; rfl) fun p hp => ?_
  refine ldA_c (e := ints i) (by simp [ints, h5]) (fun j v => hp h) ?_
  refine stW_h (g := g5) h rfl (by simp [ints, h5]) (Ck.one_agI _) fun w29 h => ?_
  have h : St w w29 [blk g5 (ints i), blk g3 [.slice ps.a ps.n ps.c], blk g1 (ints f)] := h
  refine ldW_h (g := g5) h (by simp [ints, h5]) ?_
  exact hk _ h.ext
theorem point_s {op : Int} {w : World} {k : Bool → World → Prop} (h0 : 0 ≤ op) (h1 : op < 17) (hk : k (isPt op) w) : code_Point op w k := by
  unfold code_Point
  rcases Fr.op17 h0 h1 with h | h | h | h | h | h | h | h | h | h | h | h | h | h | h | h | h <;> subst h <;> exact hk
end Go.Proofs.YtgkfbagclkjilaaGreatDoor.Ft
namespace Go.Proofs.YtgkfbagclkjilaaGreatDoor.Ft
open Go Go.Ev Go.Proofs Go.Proofs.YtgkfbagclkjilaaGreatDoor
open Go.Proofs.YtgkfbagclkjilaaGreatDoor.Fr (fTo fOn fPlain fForked fJoined fClosed fChild fRoot fR isB fTo_len fOn_len fPlain_len fForked_len fJoined_len fClosed_len)
open Go.Proofs.YtgkfbagclkjilaaGreatDoor.Ck (opI Walk Accs needsOf isGoes heldL depths stepD handlesOk subBits scopesOk forks)
def evB (x : List Int × (Int × Int)) : Value := .agg (agI (x.1 ++ [x.2.1, x.2.2]))
def evS (x : (Int × Int) × Bool) : Value := .agg #[.int .i64 x.1.1, .int .i64 x.1.2, .bool x.2]
def bookV (ps ls : Sl) (q : Bool) (gB gS : Nat) : List Value := [.slice ps.a ps.n ps.c, .slice ls.a ls.n ls.c, .bool q, .map (some gB), .map (some gS)]
def runV (gb : Nat) (row : Int) (sk : Sl) (r : Rn) : List Value := .pointer (some ⟨gb, 0, none⟩) :: (ints r.f ++ [.int .i64 row, .slice sk.a sk.n sk.c, .string (ByteArray.mk r.cl.toArray), .int .i64 r.last.1, .int .i64 r.last.2, .int .i64 r.opened, .int .i64 r.kind, .int .i64 r.v])
theorem mapB : MapC Tryz.prog 86 3 85 ekI evB bg0 := mapC_int (by kernel_rfl) (by kernel_rfl) (by kernel_rfl)
theorem mapS : MapC Tryz.prog 87 82 117 ekP evS sc0 := mapC_pair (by kernel_rfl) Tryz.underlying82 ⟨by decide, rfl, by kernel_rfl⟩ ⟨by decide, rfl, by kernel_rfl⟩ (by kernel_rfl) (by kernel_rfl)
section
variable {gb : Nat} {row : Int} {sk : Sl} {r : Rn}
theorem run_len (hf : r.f.length = 19) : (runV gb row sk r).length = 28 := by simp [runV, ints, hf]
theorem run_get {j : Nat} (hf : r.f.length = 19) (hj : j < 19) : (runV gb row sk r)[1 + j]? = some (.int .i64 (r.f.getD j 0)) := by
  unfold runV
  rw [Nat.add_comm, List.getElem?_cons_succ, List.getElem?_append_left (by simp [ints, hf]; exact hj)]
  exact ints_getD (by omega)
theorem run_row (hf : r.f.length = 19) : (runV gb row sk r)[20]? = some (.int .i64 row) := by
  cases r with
  | mk f kids cl last opened kind v =>
    dsimp only at hf
    obtain ⟨x0, x1, x2, x3, x4, x5, x6, x7, x8, x9, x10, x11, x12, x13, x14, x15, x16, x17, x18, rfl⟩ := Fr.list19 hf
    rfl
theorem run_kids (hf : r.f.length = 19) : (runV gb row sk r)[21]? = some (.slice sk.a sk.n sk.c) := by
  cases r with
  | mk f kids cl last opened kind v =>
    dsimp only at hf
    obtain ⟨x0, x1, x2, x3, x4, x5, x6, x7, x8, x9, x10, x11, x12, x13, x14, x15, x16, x17, x18, rfl⟩ := Fr.list19 hf
    rfl
theorem run_cl (hf : r.f.length = 19) : (runV gb row sk r)[22]? = some (.string (ByteArray.mk r.cl.toArray)) := by
  cases r with
  | mk f kids cl last opened kind v =>
    dsimp only at hf
    obtain ⟨x0, x1, x2, x3, x4, x5, x6, x7, x8, x9, x10, x11, x12, x13, x14, x15, x16, x17, x18, rfl⟩ := Fr.list19 hf
    rfl
theorem run_op (hf : r.f.length = 19) : (runV gb row sk r)[25]? = some (.int .i64 r.opened) := by
  cases r with
  | mk f kids cl last opened kind v =>
    dsimp only at hf
    obtain ⟨x0, x1, x2, x3, x4, x5, x6, x7, x8, x9, x10, x11, x12, x13, x14, x15, x16, x17, x18, rfl⟩ := Fr.list19 hf
    rfl
theorem run_kind (hf : r.f.length = 19) : (runV gb row sk r)[26]? = some (.int .i64 r.kind) := by
  cases r with
  | mk f kids cl last opened kind v =>
    dsimp only at hf
    obtain ⟨x0, x1, x2, x3, x4, x5, x6, x7, x8, x9, x10, x11, x12, x13, x14, x15, x16, x17, x18, rfl⟩ := Fr.list19 hf
    rfl
theorem run_v (hf : r.f.length = 19) : (runV gb row sk r)[27]? = some (.int .i64 r.v) := by
  cases r with
  | mk f kids cl last opened kind v =>
    dsimp only at hf
    obtain ⟨x0, x1, x2, x3, x4, x5, x6, x7, x8, x9, x10, x11, x12, x13, x14, x15, x16, x17, x18, rfl⟩ := Fr.list19 hf
    rfl
theorem run_f (hf : r.f.length = 19) : (((runV gb row sk r).drop (0 + 1)).take 19).toArray = agI r.f := by
  cases r with
  | mk f kids cl last opened kind v =>
    dsimp only at hf
    obtain ⟨x0, x1, x2, x3, x4, x5, x6, x7, x8, x9, x10, x11, x12, x13, x14, x15, x16, x17, x18, rfl⟩ := Fr.list19 hf
    rfl
theorem run_last (hf : r.f.length = 19) : (((runV gb row sk r).drop (0 + 23)).take 2).toArray = #[.int .i64 r.last.1, .int .i64 r.last.2] := by
  cases r with
  | mk f kids cl last opened kind v =>
    dsimp only at hf
    obtain ⟨x0, x1, x2, x3, x4, x5, x6, x7, x8, x9, x10, x11, x12, x13, x14, x15, x16, x17, x18, rfl⟩ := Fr.list19 hf
    rfl
theorem run_setf {f' : List Int} (hf : r.f.length = 19) (hf' : f'.length = 19) : (runV gb row sk r).take (0 + 1) ++ ((agI f').toList ++ (runV gb row sk r).drop (0 + 1 + 19)) = runV gb row sk { r with f := f' } := by
  cases r with
  | mk f kids cl last opened kind v =>
    dsimp only at hf
    obtain ⟨x0, x1, x2, x3, x4, x5, x6, x7, x8, x9, x10, x11, x12, x13, x14, x15, x16, x17, x18, rfl⟩ := Fr.list19 hf
    obtain ⟨y0, y1, y2, y3, y4, y5, y6, y7, y8, y9, y10, y11, y12, y13, y14, y15, y16, y17, y18, rfl⟩ := Fr.list19 hf'
    rfl
theorem run_setlast {a b : Int} (hf : r.f.length = 19) : (runV gb row sk r).take (0 + 23) ++ (#[Value.int .i64 a, .int .i64 b].toList ++ (runV gb row sk r).drop (0 + 23 + 2)) = runV gb row sk { r with last := (a, b) } := by
  cases r with
  | mk f kids cl last opened kind v =>
    dsimp only at hf
    obtain ⟨x0, x1, x2, x3, x4, x5, x6, x7, x8, x9, x10, x11, x12, x13, x14, x15, x16, x17, x18, rfl⟩ := Fr.list19 hf
    rfl
theorem run_setcl {cl' : List UInt8} (hf : r.f.length = 19) : (runV gb row sk r).set (0 + 22) (.string (ByteArray.mk cl'.toArray)) = runV gb row sk { r with cl := cl' } := by
  cases r with
  | mk f kids cl last opened kind v =>
    dsimp only at hf
    obtain ⟨x0, x1, x2, x3, x4, x5, x6, x7, x8, x9, x10, x11, x12, x13, x14, x15, x16, x17, x18, rfl⟩ := Fr.list19 hf
    rfl
theorem run_setop {o : Int} (hf : r.f.length = 19) : (runV gb row sk r).set (0 + 25) (.int .i64 o) = runV gb row sk { r with opened := o } := by
  cases r with
  | mk f kids cl last opened kind v =>
    dsimp only at hf
    obtain ⟨x0, x1, x2, x3, x4, x5, x6, x7, x8, x9, x10, x11, x12, x13, x14, x15, x16, x17, x18, rfl⟩ := Fr.list19 hf
    rfl
theorem run_setkind {o : Int} (hf : r.f.length = 19) : (runV gb row sk r).set (0 + 26) (.int .i64 o) = runV gb row sk { r with kind := o } := by
  cases r with
  | mk f kids cl last opened kind v =>
    dsimp only at hf
    obtain ⟨x0, x1, x2, x3, x4, x5, x6, x7, x8, x9, x10, x11, x12, x13, x14, x15, x16, x17, x18, rfl⟩ := Fr.list19 hf
    rfl
theorem run_setv {o : Int} (hf : r.f.length = 19) : (runV gb row sk r).set (0 + 27) (.int .i64 o) = runV gb row sk { r with v := o } := by
  cases r with
  | mk f kids cl last opened kind v =>
    dsimp only at hf
    obtain ⟨x0, x1, x2, x3, x4, x5, x6, x7, x8, x9, x10, x11, x12, x13, x14, x15, x16, x17, x18, rfl⟩ := Fr.list19 hf
    rfl
theorem run_setkids {s' : Sl} {ks : List Int} (hf : r.f.length = 19) : (runV gb row sk r).set (0 + 21) (.slice s'.a s'.n s'.c) = runV gb row s' { r with kids := ks } := by
  cases r with
  | mk f kids cl last opened kind v =>
    dsimp only at hf
    obtain ⟨x0, x1, x2, x3, x4, x5, x6, x7, x8, x9, x10, x11, x12, x13, x14, x15, x16, x17, x18, rfl⟩ := Fr.list19 hf
    rfl
end
abbrev FP (gr gb gB gS : Nat) (ps ls : Sl) (q : Bool) (row : Int) (sk : Sl) (r : Rn) (b : Bk) (R : List HP) : List HP :=
  blk gr (runV gb row sk r) :: blk gb (bookV ps ls q gB gS) :: gm ekI evB gB b.beg :: gm ekP evS gS b.sc :: slc 1 sk (ints r.kids) :: R
section
variable {w0 w : World} {L R : List HP} {gr gb gB gS : Nat} {ps ls sk : Sl} {q : Bool} {row : Int} {r : Rn} {b : Bk} {i : List Int} {f f2 : HP → List HP} {sc : Int × Int → Option ((Int × Int) × Bool)}
theorem world_s {k : Array Value → World → Prop} (hk : ∀ w', Ext w w' → k #[.int .i64 (-1), .int .i64 0] w') : fits_world w k := by
  unfold fits_world
  refine newC_h (.nil w) fun g w2 h => ?_
  refine stW_h (n := 2) (g := g) h rfl rfl (by intro v hv; simp at hv; rcases hv with rfl | rfl <;> rfl) fun w3 h => ?_
  exact ldW_h (g := g) h rfl (hk _ h.ext)
inductive AskH (sc : Int × Int → Option ((Int × Int) × Bool)) : Nat → Int × Int → Bool → Prop where
  | world {n} : AskH sc n (-1, 0) false
  | yes {n s a} : s ≠ (-1, 0) → sc s = some (a, true) → AskH sc n s true
  | up {n s a b} : s ≠ (-1, 0) → sc s = some (a, false) → AskH sc n a b → AskH sc (n + 1) s b
theorem Ask.h {s : Int × Int} {x : Bool} (h : Ask sc s x) : ∃ n, AskH sc n s x := by
  induction h with
  | world => exact ⟨0, .world⟩
  | yes h1 h2 => exact ⟨0, .yes h1 h2⟩
  | up h1 h2 _ ih => obtain ⟨n, h⟩ := ih; exact ⟨n + 1, .up h1 h2 h⟩
theorem pair_ne {s : Int × Int} (h : s ≠ (-1, 0)) : ((s.1 == (-1 : Int)) && ((s.2 == (0 : Int)) && true)) = false := by
  rw [Bool.and_true, Bool.and_eq_false_iff, beq_eq_false_iff_ne, beq_eq_false_iff_ne]
  by_cases e : s.1 = -1
  · exact .inr fun e2 => h (Prod.ext e e2)
  · exact .inl e
theorem one_s {x : (Int × Int) × Bool} : ∀ v ∈ #[Value.int .i64 x.1.1, .int .i64 x.1.2, .bool x.2], v.oneCell' = true := by intro v hv; simp at hv; rcases hv with rfl | rfl | rfl <;> rfl
theorem one_p {x y : Int} : ∀ v ∈ #[Value.int .i64 x, .int .i64 y], v.oneCell' = true := by intro v hv; simp at hv; rcases hv with rfl | rfl <;> rfl
theorem toAS {x : (Int × Int) × Bool} {c : Array Value → Prop} (h : c #[.int .i64 x.1.1, .int .i64 x.1.2, .bool x.2]) : toA (evS x) c := h
theorem lookS_h {s : Int × Int} {c : Value → World → Prop} (h : St w0 w L) [a : At L (gm ekP evS gS) sc f] (hc : c (evS ((sc s).getD sc0)) w) : Go.Ev.look Go.Proofs.Tryz.prog 87 (.map (some gS)) (.agg #[.int .i64 s.1, .int .i64 s.2]) false w c :=
  gmLook_h (k := s) mapS h hc
theorem loopN {S : Type} {F : (S → World → Prop) → S → World → Prop} (I : Nat → S → World → Prop) {n : Nat} {s : S} {w : World} (h0 : I n s w)
    (h : ∀ n s w, I n s w → ∀ C : S → World → Prop, (∀ m s' w', m < n → I m s' w' → C s' w') → F C s w) : loopP F s w := by
  have key : ∀ N n s w, n ≤ N → I n s w → iterP F (N + 1) s w := by
    intro N
    induction N with
    | zero => intro n s w hn hI; exact h n s w hI _ fun m s' w' hlt _ => by omega
    | succ N ih => intro n s w hn hI; exact h n s w hI _ fun m s' w' hlt hI' => ih m s' w' (by omega) hI'
  exact ⟨_, key n n s w (Nat.le_refl _) h0⟩
theorem asked_s {k : Bool → World → Prop} {s : Int × Int} {x : Bool} (h : St w0 w L) [a1 : At L (blk gb) (bookV ps ls q gB gS) f] [a2 : At L (gm ekP evS gS) sc f2] (ha : Ask sc s x) (hk : ∀ w', St w0 w' L → k x w') : fits_book_asked (some ⟨gb, 0, none⟩) #[.int .i64 s.1, .int .i64 s.2] w k := by
  unfold fits_book_asked fits_book_asked_b
  obtain ⟨n, ha⟩ := ha.h
  refine newC_h h fun g w2 h => ?_
  refine loopN (fun n _ w' => ∃ s : Int × Int, AskH sc n s x ∧ St w0 w' (blk g [.int .i64 s.1, .int .i64 s.2] :: L)) (n := n) ⟨s, ha, h⟩ ?_
  rintro n _ w5 ⟨s, ha, h⟩ C hC
  refine drew_h h fun w6 h => ?_
  refine ldW_h (n := 2) (g := g) h rfl ?_
  refine world_s fun w9 he => ?_
  have h9 := h.on he
  refine samec_h (g := g) (o := 0) h h9 ?_
  have he2 : eqOffs #[Value.int .i64 s.1, .int .i64 s.2] #[Value.int .i64 (-1), .int .i64 0] ([(0, 0)] ++ ([(1, 0)] ++ [])) = some ((s.1 == (-1 : Int)) && ((s.2 == (0 : Int)) && true)) := by simp [eqOffs, eqC]
  show eqA _ #[Value.int .i64 s.1, .int .i64 s.2] #[Value.int .i64 (-1), .int .i64 0] _
  unfold eqA
  rw [he2]
  have h := h9
  dsimp only
  by_cases e : s = (-1, 0)
  · subst e
    refine iteB_f rfl ?_
    cases ha with
    | world => exact hk _ h.drop
    | yes n _ => exact absurd rfl n
    | up n _ _ => exact absurd rfl n
  rw [pair_ne e]
  refine iteB_t rfl ?_
  refine joinP_i (fun z w' => ∃ g', z = ⟨g', 0, none⟩ ∧ St w0 w' (blk g' [.int .i64 ((sc s).getD sc0).1.1, .int .i64 ((sc s).getD sc0).1.2, .bool ((sc s).getD sc0).2] :: blk g [.int .i64 s.1, .int .i64 s.2] :: L)) (fun J hJ => ?_) ?_
  · refine drew_h h fun w12 h => ?_
    refine nn_i ?_
    refine ldM_h (g := gb) (o := 0 + 4) h rfl ?_
    refine ldW_h (n := 2) (g := g) h rfl ?_
    refine ⟨?_, ?_⟩
    · refine lookS_h h ?_
      refine toAS ?_
      refine newC_h h fun g' w20 h2 => ?_
      refine samec_h (g := g) (o := 0) h h2 (samec_h (g := gb) (o := 0 + 4) h h2 ?_)
      refine stW_h (n := 3) (g := g') h2 rfl rfl one_s fun w21 h2 => ?_
      exact hJ _ _ ⟨g', rfl, h2⟩
    · refine newC_h h fun g' w20 h2 => ?_
      refine samec_h (g := g) (o := 0) h h2 (samec_h (g := gb) (o := 0 + 4) h h2 ?_)
      refine lookS_h h2 ?_
      refine toAS ?_
      refine stW_h (n := 3) (g := g') h2 rfl rfl one_s fun w21 h2 => ?_
      exact hJ _ _ ⟨g', rfl, h2⟩
  rintro _ w29 ⟨g', rfl, h⟩
  refine ldB_h (g := g') (o := 0 + 2) h rfl ?_
  cases ha with
  | world => exact absurd rfl e
  | yes _ hx =>
    rw [hx]
    exact iteB_t rfl (hk _ h.drop.drop)
  | up _ hx ha =>
    rw [hx] at h ⊢
    refine iteB_f rfl ?_
    refine ldA_h (n := 2) (g := g') (o := 0 + 0) h (by simp) ?_
    refine stW_h (n := 2) (g := g) h rfl rfl one_p fun w32 h => ?_
    exact hC _ _ _ (Nat.lt_succ_self _) ⟨_, ha, h.drop⟩
end
end Go.Proofs.YtgkfbagclkjilaaGreatDoor.Ft
namespace Go.Proofs.YtgkfbagclkjilaaGreatDoor.Ft
open Go Go.Ev Go.Proofs Go.Proofs.YtgkfbagclkjilaaGreatDoor
open Go.Proofs.YtgkfbagclkjilaaGreatDoor.Fr (fTo fOn fPlain fForked fJoined fClosed fChild fRoot fR isB fTo_len fOn_len fPlain_len fForked_len fJoined_len fClosed_len)
open Go.Proofs.YtgkfbagclkjilaaGreatDoor.Ck (opI Walk Accs needsOf isGoes heldL depths stepD handlesOk subBits scopesOk forks)
theorem ext_of {w0 w w' : World} {L : List HP} (h : St w0 w L) (he : Ext w w') : St w0 w' L := h.on he
section
variable {w0 w : World} {L R : List HP} {gr gb gB gS : Nat} {ps ls sk : Sl} {q : Bool} {row : Int} {r : Rn} {b : Bk} {i : List Int} {ia : Array Value} {k : Bool → World → Prop}
theorem pass_s (h : St w0 w (FP gr gb gB gS ps ls q row sk r b R)) (hf : r.f.length = 19) (hk : ∀ w', St w0 w' (FP gr gb gB gS ps ls q row sk { r with f := fOn r.f } b R) → k true w') : fits_run_pass (some ⟨gr, 0, none⟩) ia w k := by
  unfold fits_run_pass fits_run_pass_b
  refine newC_h h fun g1 w2 h => ?_
  have h := h.drop
  refine nn_i ?_
  refine ldA_h (n := 19) (g := gr) (o := 0 + 1) h (by rw [run_len hf]; decide) ?_
  rw [run_f hf]
  refine Fr.on_s hf fun w6 he => ?_
  have h := ext_of h he
  refine nn_i ?_
  refine stA_h (n := 19) (g := gr) (o := 0 + 1) (vs := agI (fOn r.f)) h (by simp [agI, ints, fOn_len, hf]) (by rw [run_len hf]; decide) (Ck.one_agI _) fun w8 h => ?_
  rw [run_setf hf (by rw [fOn_len, hf])] at h
  exact hk _ h
theorem open_s (h : St w0 w (FP gr gb gB gS ps ls q row sk r b R)) (hf : r.f.length = 19) (ho : 0 ≤ r.opened ∧ r.opened ≤ 10000000)
    (hk : ∀ w', St w0 w' (FP gr gb gB gS ps ls q row sk { r with f := fOn r.f, opened := r.opened + 1, last := (row, r.opened + 1) } { b with sc := upd b.sc (row, r.opened + 1) (r.last, false) } R) → k true w') : fits_run_open (some ⟨gr, 0, none⟩) ia w k := by
  unfold fits_run_open fits_run_open_b
  refine newC_h h fun g1 w2 h => ?_
  have h := h.drop
  refine nn_i ?_
  refine ldI_h (g := gr) (o := 0 + 25) h (run_op hf) ?_
  refine nn_i ?_
  refine stC_h (g := gr) (o := 0 + 25) h rfl (by rw [run_len hf]; decide) fun w6 h => ?_
  rw [wrap_id ⟨by omega, by omega⟩, run_setop hf] at h
  have h : St w0 w6 (FP gr gb gB gS ps ls q row sk { r with opened := r.opened + 1 } b R) := h
  refine joinP_i (fun z w' => ∃ g, z = ⟨g, 0, none⟩ ∧ St w0 w' (blk g [.int .i64 row, .int .i64 (r.opened + 1)] :: FP gr gb gB gS ps ls q row sk { r with opened := r.opened + 1 } b R)) (fun J hJ => ?_) ?_
  · refine drew_h h fun w8 h => ?_
    refine nn_i ?_
    refine ldI_h (g := gr) (o := 0 + 20) h (run_row (r := { r with opened := r.opened + 1 }) hf) ?_
    refine nn_i ?_
    refine ldI_h (g := gr) (o := 0 + 25) h (run_op (r := { r with opened := r.opened + 1 }) hf) ?_
    refine ⟨?_, ?_⟩
    · refine newC_h h fun g13 w14 h2 => ?_
      refine samec_h (g := gr) (o := 0 + 25) h h2 (samec_h (g := gr) (o := 0 + 20) h h2 ?_)
      refine stW_h (n := 2) (g := g13) h2 rfl rfl one_p fun w15 h2 => ?_
      exact hJ _ _ ⟨g13, rfl, h2⟩
    · refine newC_h h fun g13 w14 h2 => ?_
      refine samec_h (g := gr) (o := 0 + 25) h h2 (samec_h (g := gr) (o := 0 + 20) h h2 ?_)
      refine stW_h (n := 2) (g := g13) h2 rfl rfl one_p fun w15 h2 => ?_
      exact hJ _ _ ⟨g13, rfl, h2⟩
  rintro _ w20 ⟨g, rfl, h⟩
  refine drew_h h fun w21 h => ?_
  refine nn_i ?_
  refine ldP_h (g := gr) (o := 0 + 0) h rfl ?_
  refine nn_i ?_
  refine ldM_h (g := gb) (o := 0 + 4) h rfl ?_
  refine ldW_h (n := 2) (g := g) h rfl ?_
  refine nn_i ?_
  refine ldA_h (n := 2) (g := gr) (o := 0 + 23) h (by rw [run_len (r := { r with opened := r.opened + 1 }) hf]; decide) ?_
  rw [run_last (r := { r with opened := r.opened + 1 }) hf]
  refine spl_V (acc := [.int .i64 0, .int .i64 0, .bool false]) (cs := [.int .i64 r.last.1, .int .i64 r.last.2]) [.int .i64 r.last.1, .int .i64 r.last.2, .bool false] rfl (by simp) rfl ?_
  refine samec_self (samec_self (samec_self ?_))
  refine gmPut_h (ek := ekP) (ev := evS) (k := (row, r.opened + 1)) (y := (r.last, false)) mapS h fun w30 h => ?_
  refine ldW_h (n := 2) (g := g) h rfl ?_
  refine nn_i ?_
  refine stA_h (n := 2) (g := gr) (o := 0 + 23) (vs := #[.int .i64 row, .int .i64 (r.opened + 1)]) h rfl (by rw [run_len (r := { r with opened := r.opened + 1 }) hf]; decide) one_p fun w33 h => ?_
  rw [run_setlast (r := { r with opened := r.opened + 1 }) hf] at h
  have h : St w0 w33 (FP gr gb gB gS ps ls q row sk { r with opened := r.opened + 1, last := (row, r.opened + 1) } { b with sc := upd b.sc (row, r.opened + 1) (r.last, false) } R) := h.drop
  exact pass_s h hf hk
theorem cancel_s (h : St w0 w (FP gr gb gB gS ps ls q row sk r b R)) (hf : r.f.length = 19)
    (hk : ∀ w', St w0 w' (FP gr gb gB gS ps ls q row sk { r with f := fOn r.f } { b with sc := upd b.sc r.last ((b.s r.last).1, true) } R) → k true w') : fits_run_cancel (some ⟨gr, 0, none⟩) ia w k := by
  unfold fits_run_cancel fits_run_cancel_b
  refine newC_h h fun g1 w2 h => ?_
  have h := h.drop
  refine joinP_i (fun z w' => ∃ g, z = ⟨g, 0, none⟩ ∧ St w0 w' (blk g [.int .i64 (b.s r.last).1.1, .int .i64 (b.s r.last).1.2, .bool (b.s r.last).2] :: FP gr gb gB gS ps ls q row sk r b R)) (fun J hJ => ?_) ?_
  · refine drew_h h fun w4 h => ?_
    refine nn_i ?_
    refine ldP_h (g := gr) (o := 0 + 0) h rfl ?_
    refine nn_i ?_
    refine ldM_h (g := gb) (o := 0 + 4) h rfl ?_
    refine nn_i ?_
    refine ldA_h (n := 2) (g := gr) (o := 0 + 23) h (by rw [run_len hf]; decide) ?_
    rw [run_last hf]
    refine ⟨?_, ?_⟩
    · refine lookS_h h ?_
      refine toAS ?_
      refine newC_h h fun g14 w15 h2 => ?_
      refine samec_h (g := gr) (o := 0 + 23) h h2 (samec_h (g := gb) (o := 0 + 4) h h2 (samec_h (g := gr) (o := 0 + 0) h h2 ?_))
      refine stW_h (n := 3) (g := g14) h2 rfl rfl one_s fun w16 h2 => ?_
      exact hJ _ _ ⟨g14, rfl, h2⟩
    · refine newC_h h fun g14 w15 h2 => ?_
      refine samec_h (g := gr) (o := 0 + 23) h h2 (samec_h (g := gb) (o := 0 + 4) h h2 (samec_h (g := gr) (o := 0 + 0) h h2 ?_))
      refine lookS_h h2 ?_
      refine toAS ?_
      refine stW_h (n := 3) (g := g14) h2 rfl rfl one_s fun w16 h2 => ?_
      exact hJ _ _ ⟨g14, rfl, h2⟩
  rintro _ w24 ⟨g, rfl, h⟩
  refine stC_h (g := g) (o := 0 + 2) (v := .bool true) h rfl (by simp) fun w25 h => ?_
  refine drew_h h fun w26 h => ?_
  refine nn_i ?_
  refine ldP_h (g := gr) (o := 0 + 0) h rfl ?_
  refine nn_i ?_
  refine ldM_h (g := gb) (o := 0 + 4) h rfl ?_
  refine nn_i ?_
  refine ldA_h (n := 2) (g := gr) (o := 0 + 23) h (by rw [run_len hf]; decide) ?_
  rw [run_last hf]
  refine ldW_h (n := 3) (g := g) h rfl ?_
  refine gmPut_h (ek := ekP) (ev := evS) (k := r.last) (y := ((b.s r.last).1, true)) mapS h fun w34 h => ?_
  have h : St w0 w34 (FP gr gb gB gS ps ls q row sk r { b with sc := upd b.sc r.last ((b.s r.last).1, true) } R) := h.drop
  exact pass_s h hf hk
theorem leave_s (h : St w0 w (FP gr gb gB gS ps ls q row sk r b R)) (hf : r.f.length = 19) (h5 : i.length = 5) (hA : 0 ≤ i.getD 1 0 ∧ i.getD 1 0 < 8)
    (hk : ∀ w', St w0 w' (FP gr gb gB gS ps ls q row sk { r with f := fOn r.f, kind := if i.getD 0 0 = 15 then 3 else 2, v := fR r.f (i.getD 1 0) } b R) → k true w') : fits_run_leave (some ⟨gr, 0, none⟩) (agI i) w k := by
  unfold fits_run_leave fits_run_leave_b
  refine newC_h h fun g1 w2 h => ?_
  have h : St w0 w2 (blk g1 (ints i) :: FP gr gb gB gS ps ls q row sk r b R) := h
  refine drew_h h fun w3 h => ?_
  refine nn_i ?_
  refine ldA_h (n := 19) (g := gr) (o := 0 + 1) h (by rw [run_len hf]; decide) ?_
  rw [run_f hf]
  refine ldI_h (g := g1) (o := 0 + 1) h (ints_getD (by omega)) ?_
  refine nn_i ?_
  refine ixP_i hA.1 (by have := hA.2; show i.getD 1 0 < ((8 : Nat) : Int); omega) ?_
  have ev : (runV gb row sk r)[0 + 1 + 2 + (i.getD 1 0).toNat * 1]? = some (.int .i64 (fR r.f (i.getD 1 0))) := by
    have := run_get (gb := gb) (row := row) (sk := sk) (r := r) (j := 2 + (i.getD 1 0).toNat) hf (by omega)
    rw [show 0 + 1 + 2 + (i.getD 1 0).toNat * 1 = 1 + (2 + (i.getD 1 0).toNat) by omega]
    exact this
  refine ldI_h (g := gr) (o := 0 + 1 + 2 + (i.getD 1 0).toNat * 1) h ev ?_
  refine Fr.on_s hf fun w11 he => ?_
  have h2 := ext_of h he
  refine samec_h (g := gr) (o := 0 + 1 + 2 + (i.getD 1 0).toNat * 1) h h2 (samec_h (g := g1) (o := 0 + 1) h h2 ?_)
  refine nn_i ?_
  refine stA_h (n := 19) (g := gr) (o := 0 + 1) (vs := agI (fOn r.f)) h2 (by simp [agI, ints, fOn_len, hf]) (by rw [run_len hf]; decide) (Ck.one_agI _) fun w13 h => ?_
  rw [run_setf hf (by rw [fOn_len, hf])] at h
  have hf2 : ({ r with f := fOn r.f } : Rn).f.length = 19 := by show (fOn r.f).length = 19; rw [fOn_len, hf]
  refine nn_i ?_
  refine stC_h (g := gr) (o := 0 + 26) h rfl (by rw [run_len hf2]; decide) fun w15 h => ?_
  rw [run_setkind hf2] at h
  refine nn_i ?_
  refine stC_h (g := gr) (o := 0 + 27) h rfl (by rw [run_len (r := { r with f := fOn r.f, kind := 2 }) hf2]; decide) fun w17 h => ?_
  rw [run_setv (r := { r with f := fOn r.f, kind := 2 }) hf2] at h
  refine ldI_h (g := g1) (o := 0 + 0) h (ints_getD (by omega)) ?_
  refine iteB_i (fun hb => ?_) fun hb => ?_
  · refine nn_i ?_
    refine stC_h (g := gr) (o := 0 + 26) h rfl (by rw [run_len (r := { r with f := fOn r.f, kind := 2, v := fR r.f (i.getD 1 0) }) hf2]; decide) fun w20 h => ?_
    rw [run_setkind (r := { r with f := fOn r.f, kind := 2, v := fR r.f (i.getD 1 0) }) hf2] at h
    rw [if_pos (by simpa using hb)] at hk
    exact hk _ h.drop
  · rw [if_neg (by simpa using hb)] at hk
    exact hk _ h.drop
end
end Go.Proofs.YtgkfbagclkjilaaGreatDoor.Ft
namespace Go.Proofs.YtgkfbagclkjilaaGreatDoor.Ft
open Go Go.Ev Go.Proofs Go.Proofs.YtgkfbagclkjilaaGreatDoor
open Go.Proofs.YtgkfbagclkjilaaGreatDoor.Fr (fTo fOn fPlain fForked fJoined fClosed fChild fRoot fR isB fTo_len fOn_len fPlain_len fForked_len fJoined_len fClosed_len)
open Go.Proofs.YtgkfbagclkjilaaGreatDoor.Ck (opI Walk Accs needsOf isGoes heldL depths stepD handlesOk subBits scopesOk forks)
theorem byte_49 {c : UInt8} : ((c.toNat : Int) == 49) = (c == 49) := by
  rw [Bool.eq_iff_iff]; simp only [beq_iff_eq]
  constructor
  · intro h; apply UInt8.toNat_inj.1; have : c.toNat = 49 := by omega
    rw [this]; rfl
  · rintro rfl; rfl
theorem bytes_ext {a b : ByteArray} (h : a.data.toList = b.data.toList) : a = b := by
  cases a; cases b; congr 1; exact Array.toList_inj.1 h
theorem mk_tail {c : UInt8} {cs : List UInt8} : (ByteArray.mk (c :: cs).toArray).extract 1 (ByteArray.mk (c :: cs).toArray).size = ByteArray.mk cs.toArray := by
  apply bytes_ext
  rw [ext_list, sz_list]
  simp
theorem funcs_of {w : World} {ps : Sl} {P : List FnR} (hF : Funcs5 w ps P) : Fr.Funcs w ps (P.map fun g => (g.needs, g.sl)) := by
  have := hF.rws
  unfold Fr.Funcs
  rw [List.map_map]
  exact this
def Z21 : List Value := [.int .i64 (0 : Int), .int .i64 (0 : Int), .int .i64 (0 : Int), .int .i64 (0 : Int), .int .i64 (0 : Int), .int .i64 (0 : Int), .int .i64 (0 : Int), .int .i64 (0 : Int), .int .i64 (0 : Int), .int .i64 (0 : Int), .int .i64 (0 : Int), .int .i64 (0 : Int), .int .i64 (0 : Int), .int .i64 (0 : Int), .int .i64 (0 : Int), .int .i64 (0 : Int), .int .i64 (0 : Int), .int .i64 (0 : Int), .int .i64 (0 : Int), .int .i64 (0 : Int), .int .i64 (0 : Int)]
theorem spl_beg0 {cf : List Int} {x y : Int} {c : Array Value → Prop} (hc : cf.length = 19) (h : c (agI (cf ++ [x, y]))) : spl Z21.toArray 0 19 (agI cf) fun cs41 => spl cs41 19 2 #[.int .i64 x, .int .i64 y] c := by
  have hl : (ints cf).length = 19 := by simp [ints, hc]
  have e1 : Z21.take 0 ++ (ints cf ++ Z21.drop (0 + 19)) = ints cf ++ [.int .i64 0, .int .i64 0] := rfl
  have e : ints (cf ++ [x, y]) = ints cf ++ [.int .i64 x, .int .i64 y] := by simp [ints]
  have e2 : (ints cf ++ [Value.int .i64 0, .int .i64 0]).take 19 ++ ([Value.int .i64 x, .int .i64 y] ++ (ints cf ++ [Value.int .i64 0, .int .i64 0]).drop (19 + 2)) = ints (cf ++ [x, y]) := by
    rw [e, List.take_append_of_le_length (by omega), List.take_of_length_le (by omega), List.drop_of_length_le (by simp [hl])]
    simp
  have h2 : spl (ints cf ++ [Value.int .i64 0, .int .i64 0]).toArray 19 2 #[.int .i64 x, .int .i64 y] c := spl_V (cs := [Value.int .i64 x, .int .i64 y]) _ rfl (by simp [hl]) e2 h
  exact spl_V (acc := Z21) (cs := ints cf) _ hl (by decide) e1 h2
theorem spl_beg {cf : List Int} {x y : Int} {c : Array Value → Prop} (hc : cf.length = 19) (h : c (agI (cf ++ [x, y]))) : spl #[(.int .i64 (0 : Int)), (.int .i64 (0 : Int)), (.int .i64 (0 : Int)), (.int .i64 (0 : Int)), (.int .i64 (0 : Int)), (.int .i64 (0 : Int)), (.int .i64 (0 : Int)), (.int .i64 (0 : Int)), (.int .i64 (0 : Int)), (.int .i64 (0 : Int)), (.int .i64 (0 : Int)), (.int .i64 (0 : Int)), (.int .i64 (0 : Int)), (.int .i64 (0 : Int)), (.int .i64 (0 : Int)), (.int .i64 (0 : Int)), (.int .i64 (0 : Int)), (.int .i64 (0 : Int)), (.int .i64 (0 : Int)), (.int .i64 (0 : Int)), (.int .i64 (0 : Int))] 0 19 (agI cf) fun cs41 => spl cs41 19 2 #[.int .i64 x, .int .i64 y] c := spl_beg0 hc h
section
variable {w0 w : World} {L R : List HP} {gr gb gB gS : Nat} {ps ls sk : Sl} {q : Bool} {row : Int} {r : Rn} {b : Bk} {i : List Int} {ia : Array Value} {k : Bool → World → Prop} {P : List FnR} {l : List Rb}
theorem close_s (h : St w0 w (FP gr gb gB gS ps ls q row sk r b R)) (hf : r.f.length = 19) (h5 : i.length = 5)
    (h0 : ∀ w', (r.cl = [] ∨ ∃ c cs, r.cl = c :: cs ∧ (((b.s r.last).2 && !(c == 49)) || (q && !((c == 49) == (b.s r.last).2))) = true) → St w0 w' (FP gr gb gB gS ps ls q row sk r b R) → k false w')
    (h1 : ∀ w' c cs, r.cl = c :: cs → (((b.s r.last).2 && !(c == 49)) || (q && !((c == 49) == (b.s r.last).2))) = false → St w0 w' (FP gr gb gB gS ps ls q row sk { r with f := fClosed r.f i (c == 49), cl := cs, last := (b.s r.last).1 } b R) → k true w') : fits_run_close (some ⟨gr, 0, none⟩) (agI i) w k := by
  unfold fits_run_close fits_run_close_b
  refine newC_h h fun g1 w2 h => ?_
  have h : St w0 w2 (blk g1 (ints i) :: FP gr gb gB gS ps ls q row sk r b R) := h
  refine nn_i ?_
  refine ldStr_h (g := gr) (o := 0 + 22) h (run_cl hf) ?_
  rw [strEq_nil]
  cases hcl : r.cl with
  | nil =>
    refine iteB_t rfl ?_
    exact h0 _ (.inl hcl) h.drop
  | cons c cs =>
    refine iteB_f rfl ?_
    have hgo := h1
    refine joinP_i (fun z w' => ∃ g, z = (⟨g, 0, none⟩, c == 49) ∧ St w0 w' (blk g [.int .i64 (b.s r.last).1.1, .int .i64 (b.s r.last).1.2, .bool (b.s r.last).2] :: blk g1 (ints i) :: FP gr gb gB gS ps ls q row sk r b R)) (fun J hJ => ?_) ?_
    · refine drew_h h fun w6 h => ?_
      refine nn_i ?_
      refine ldP_h (g := gr) (o := 0 + 0) h rfl ?_
      refine nn_i ?_
      refine ldM_h (g := gb) (o := 0 + 4) h rfl ?_
      refine nn_i ?_
      refine ldA_h (n := 2) (g := gr) (o := 0 + 23) h (by rw [run_len hf]; decide) ?_
      rw [run_last hf]
      refine nn_i ?_
      refine ldStr_h (g := gr) (o := 0 + 22) h (run_cl hf) ?_
      rw [hcl]
      refine ixStr_at (n := 0) (b := c) (by simp) ?_
      rw [byte_49]
      refine ⟨?_, ?_⟩
      · refine lookS_h h ?_
        refine toAS ?_
        refine samec_self ?_
        refine newC_h h fun g14 w15 h2 => ?_
        refine samec_h (g := gr) (o := 0 + 22) h h2 (samec_h (g := gr) (o := 0 + 23) h h2 (samec_h (g := gb) (o := 0 + 4) h h2 (samec_h (g := gr) (o := 0 + 0) h h2 ?_)))
        refine stW_h (n := 3) (g := g14) h2 rfl rfl one_s fun w16 h2 => ?_
        refine samec_h (g := gr) (o := 0 + 22) h h2 ?_
        exact hJ _ _ ⟨g14, rfl, h2⟩
      · refine newC_h h fun g14 w15 h2 => ?_
        refine samec_h (g := gr) (o := 0 + 22) h h2 (samec_h (g := gr) (o := 0 + 23) h h2 (samec_h (g := gb) (o := 0 + 4) h h2 (samec_h (g := gr) (o := 0 + 0) h h2 ?_)))
        refine lookS_h h2 ?_
        refine toAS ?_
        refine samec_h (g := gr) (o := 0 + 22) h h2 ?_
        refine stW_h (n := 3) (g := g14) h2 rfl rfl one_s fun w16 h2 => ?_
        refine samec_h (g := gr) (o := 0 + 22) h h2 ?_
        exact hJ _ _ ⟨g14, rfl, h2⟩
    rintro _ w29 ⟨g, rfl, h⟩
    refine joinP_i (fun z w' => w' = w29 ∧ z = (((b.s r.last).2 && !(c == 49)) || (q && !((c == 49) == (b.s r.last).2)))) (fun J hJ => ?_) ?_
    · refine ldB_h (g := g) (o := 0 + 2) h rfl ?_
      refine iteB_i (fun hb => ?_) fun hb => ?_
      · exact hJ _ _ ⟨rfl, by rw [show ((b.s r.last).2 && !(c == 49)) = true from hb]; rfl⟩
      · rw [show ((b.s r.last).2 && !(c == 49)) = false from hb, Bool.false_or] at hJ
        refine nn_i ?_
        refine ldP_h (g := gr) (o := 0 + 0) h rfl ?_
        refine nn_i ?_
        refine ldB_h (g := gb) (o := 0 + 2) h rfl ?_
        refine iteB_i (fun hq => ?_) fun hq => ?_
        · subst hq
          refine ldB_h (g := g) (o := 0 + 2) h rfl ?_
          exact hJ _ _ ⟨rfl, rfl⟩
        · subst hq
          exact hJ _ _ ⟨rfl, rfl⟩
    rintro _ w38 ⟨rfl, rfl⟩
    refine iteB_i (fun hb => ?_) fun hb => ?_
    · exact h0 _ (.inr ⟨c, cs, hcl, hb⟩) h.drop.drop
    have hres := fun w' => h1 w' c cs hcl hb
    refine drew_h h fun w39 h => ?_
    refine nn_i ?_
    refine ldA_h (n := 19) (g := gr) (o := 0 + 1) h (by rw [run_len hf]; decide) ?_
    rw [run_f hf]
    refine ldW_h (g := g1) h (by simp [ints, h5]) ?_
    refine nn_i ?_
    refine ldStr_h (g := gr) (o := 0 + 22) h (run_cl hf) ?_
    rw [hcl]
    have hsz : (ByteArray.mk (c :: cs).toArray).size = cs.length + 1 := by rw [sz_list]; simp
    refine ⟨⟨by omega, by omega⟩, ⟨by omega, by omega⟩, ?_⟩
    simp only [Int.toNat_one, Int.toNat_natCast]
    rw [mk_tail]
    refine ldA_h (n := 2) (g := g) (o := 0 + 0) h (by simp) ?_
    refine Fr.closed_s hf h5 fun w48 he => ?_
    have h2 := ext_of h he
    refine samec_h (g := g) (o := 0 + 0) h h2 (samec_h (g := gr) (o := 0 + 22) h h2 ?_)
    refine nn_i ?_
    refine stA_h (n := 19) (g := gr) (o := 0 + 1) (vs := agI (fClosed r.f i (c == 49))) h2 (by simp [agI, ints, fClosed_len, hf]) (by rw [run_len hf]; decide) (Ck.one_agI _) fun w50 h2 => ?_
    rw [run_setf hf (by rw [fClosed_len, hf])] at h2
    have hf2 : ({ r with f := fClosed r.f i (c == 49) } : Rn).f.length = 19 := by show (fClosed r.f i (c == 49)).length = 19; rw [fClosed_len, hf]
    refine samec_h (g := g) (o := 0 + 0) h h2 ?_
    refine nn_i ?_
    refine stC_h (g := gr) (o := 0 + 22) h2 rfl (by rw [run_len hf2]; decide) fun w52 h2 => ?_
    rw [run_setcl hf2] at h2
    refine samec_h (g := g) (o := 0 + 0) h h2 ?_
    refine nn_i ?_
    refine stA_h (n := 2) (g := gr) (o := 0 + 23) (vs := #[.int .i64 (b.s r.last).1.1, .int .i64 (b.s r.last).1.2]) h2 rfl (by rw [run_len (r := { r with f := fClosed r.f i (c == 49), cl := cs }) hf2]; decide) one_p fun w54 h2 => ?_
    rw [run_setlast (r := { r with f := fClosed r.f i (c == 49), cl := cs }) hf2] at h2
    exact hres w54 h2.drop.drop
theorem fork_s (h : St w0 w (FP gr gb gB gS ps ls q row sk r b R)) (hF : Funcs5 w0 ps P) (hf : r.f.length = 19) (h5 : i.length = 5) (hi8 : isB i 8 = true) (hN : 0 ≤ i.getD 4 0) (hlt : (i.getD 4 0).toNat < P.length)
    (h0 : ∀ w', r.kids = [] → St w0 w' (FP gr gb gB gS ps ls q row sk r b R) → k false w')
    (h1 : ∀ w' sk' c cs, r.kids = c :: cs → St w0 w' (FP gr gb gB gS ps ls q row sk' { r with f := fForked r.f i c, kids := cs } { b with beg := upd b.beg c (fChild r.f (i.getD 4 0) (needsOf P (i.getD 4 0)), r.last) } R) → k true w') : fits_run_fork (some ⟨gr, 0, none⟩) (agI i) w k := by
  unfold fits_run_fork fits_run_fork_b
  refine newC_h h fun g1 w2 h => ?_
  have h : St w0 w2 (blk g1 (ints i) :: FP gr gb gB gS ps ls q row sk r b R) := h
  obtain ⟨g', hg'⟩ : ∃ g', P[(i.getD 4 0).toNat]? = some g' := ⟨_, List.getElem?_eq_getElem hlt⟩
  obtain ⟨c1, c2, c3, c4, c5⟩ := child_get (f := r.f) (n := i.getD 4 0) (needs := g'.needs) hf
  rw [← Ck.needs_get hg'] at c1
  generalize hcf : fChild r.f (i.getD 4 0) (needsOf P (i.getD 4 0)) = cf at c1 h1
  refine joinP_i (fun z w' => ∃ g, z = (⟨g, 0, none⟩, 0) ∧ St w0 w' (blk g (ints cf) :: blk g1 (ints i) :: FP gr gb gB gS ps ls q row sk r b R)) (fun J hJ => ?_) ?_
  · refine drew_h h fun w4 h => ?_
    refine nn_i ?_
    refine ldA_h (n := 19) (g := gr) (o := 0 + 1) h (by rw [run_len hf]; decide) ?_
    rw [run_f hf]
    refine nn_i ?_
    refine ldP_h (g := gr) (o := 0 + 0) h rfl ?_
    refine nn_i ?_
    refine ldA_h (n := 1) (g := gb) (o := 0 + 0) h (by simp [bookV]) ?_
    refine ldW_h (g := g1) h (by simp [ints, h5]) ?_
    have hcs : ∀ {w' : World} {kk : Array Value × Int → World → Prop}, Ext w0 w' → (∀ w'', Ext w' w'' → kk (agI cf, 0) w'') → frame_Frame_Child (agI r.f) #[.slice ps.a ps.n ps.c] (agI i) w' kk := by
      intro w' kk he hkk
      refine Fr.child_s hf h5 (funcs_of (hF.ext he)) (fun q => by rw [hi8] at q; cases q) (fun _ q => by rw [List.length_map] at q; omega) fun _ x hx w'' he' => ?_
      rw [List.getElem?_map, hg'] at hx
      cases hx
      have := hkk w'' he'
      rw [← hcf, Ck.needs_get hg'] at this
      exact this
    refine ⟨?_, ?_⟩
    · refine hcs h.ext fun w13 he => ?_
      have h2 := ext_of h he
      refine newC_h h2 fun g14 w15 h2 => ?_
      refine samec_h (g := g1) (o := 0) h h2 (samec_h (g := gb) (o := 0 + 0) h h2 (samec_h (g := gr) (o := 0 + 0) h h2 (samec_h (g := gr) (o := 0 + 1) h h2 ?_)))
      refine stW_h (g := g14) h2 rfl (by simp [agI, ints, c1]) (Ck.one_agI _) fun w16 h2 => ?_
      exact hJ _ _ ⟨g14, rfl, h2⟩
    · refine newC_h h fun g14 w15 h2 => ?_
      refine samec_h (g := g1) (o := 0) h h2 (samec_h (g := gb) (o := 0 + 0) h h2 (samec_h (g := gr) (o := 0 + 0) h h2 (samec_h (g := gr) (o := 0 + 1) h h2 ?_)))
      refine hcs h2.ext fun w20 he => ?_
      have h2 := ext_of h2 he
      refine stW_h (g := g14) h2 rfl (by simp [agI, ints, c1]) (Ck.one_agI _) fun w21 h2 => ?_
      exact hJ _ _ ⟨g14, rfl, h2⟩
  rintro _ w23 ⟨g, rfl, h⟩
  have hsl := h.slen (sz := 1) (s := sk)
  have hsn : sk.n = r.kids.length := by simp [ints] at hsl; omega
  refine joinP_i (fun z w' => w' = w23 ∧ z = (((r.kids.length : Nat) : Int) == 0)) (fun J hJ => ?_) ?_
  · refine iteB_f rfl ?_
    refine nn_i ?_
    refine ldS_h (g := gr) (o := 0 + 21) h (run_kids hf) ?_
    rw [hsn]
    exact hJ _ _ ⟨rfl, rfl⟩
  rintro _ w28 ⟨rfl, rfl⟩
  cases hks : r.kids with
  | nil => exact iteB_t rfl (h0 _ hks h.drop.drop)
  | cons c cs =>
    refine iteB_f (by rw [List.length_cons]; rw [beq_eq_false_iff_ne]; omega) ?_
    have hres := fun w' sk' => h1 w' sk' c cs hks
    have hkl : r.kids.length = cs.length + 1 := by rw [hks]; rfl
    have hg0 : r.kids.getD (0 : Int).toNat 0 = c := by rw [hks]; rfl
    refine drew_h h fun w29 h => ?_
    refine nn_i ?_
    refine ldP_h (g := gr) (o := 0 + 0) h rfl ?_
    refine nn_i ?_
    refine ldM_h (g := gb) (o := 0 + 3) h rfl ?_
    refine nn_i ?_
    refine ldS_h (g := gr) (o := 0 + 21) h (run_kids hf) ?_
    have hc0 : (ints r.kids)[(0 : Int).toNat * 1 + 0]? = some (.int .i64 c) := by rw [hks]; rfl
    refine ixS_h (sz := 1) (s := sk) (vs := ints r.kids) h (by omega) (by omega) (by omega) fun ga o _ hrd _ => ?_
    refine ldI_i (hrd h 0 _ (by omega) hc0) ?_
    refine ldW_h (n := 19) (g := g) h (by simp [ints, c1]) ?_
    refine nn_i ?_
    refine ldA_h (n := 2) (g := gr) (o := 0 + 23) h (by rw [run_len hf]; decide) ?_
    rw [run_last hf]
    refine spl_beg c1 ?_
    refine samec_self (samec_self (samec_self (samec_self ?_)))
    refine gmPut_h (ek := ekI) (ev := evB) (k := c) (y := (cf, r.last)) mapB h fun w43 h => ?_
    have h : St w0 w43 (blk g (ints cf) :: blk g1 (ints i) :: FP gr gb gB gS ps ls q row sk r { b with beg := upd b.beg c (cf, r.last) } R) := h
    refine drew_h h fun w44 h => ?_
    refine nn_i ?_
    refine ldA_h (n := 19) (g := gr) (o := 0 + 1) h (by rw [run_len hf]; decide) ?_
    rw [run_f hf]
    refine ldW_h (g := g1) h (by simp [ints, h5]) ?_
    refine nn_i ?_
    refine ldS_h (g := gr) (o := 0 + 21) h (run_kids hf) ?_
    refine ixI_h (s := sk) (xs := r.kids) h (by omega) (by omega) ?_
    rw [hg0]
    refine Fr.forked_s hf h5 fun w53 he => ?_
    have h := ext_of h he
    refine nn_i ?_
    refine stA_h (n := 19) (g := gr) (o := 0 + 1) (vs := agI (fForked r.f i c)) h (by simp [agI, ints, fForked_len, hf]) (by rw [run_len hf]; decide) (Ck.one_agI _) fun w55 h => ?_
    rw [run_setf hf (by rw [fForked_len, hf])] at h
    have hf2 : ({ r with f := fForked r.f i c } : Rn).f.length = 19 := by show (fForked r.f i c).length = 19; rw [fForked_len, hf]
    refine nn_i ?_
    refine ldS_h (g := gr) (o := 0 + 21) h (run_kids hf2) ?_
    refine slL_h (s := sk) (sz := 1) (vs := ints r.kids) h (by omega) (by omega) fun d hd h => ?_
    refine nn_i ?_
    refine stC_h (g := gr) (o := 0 + 21) h rfl (by rw [run_len hf2]; decide) fun w60 h => ?_
    rw [run_setkids (ks := cs) hf2] at h
    have ed : (ints r.kids).drop ((1 : Int).toNat * 1) = ints cs := by rw [hks]; rfl
    rw [ed] at h
    exact hres w60 d h.drop.drop
theorem join_s {h' : Int} (h : St w0 w (FP gr gb gB gS ps ls q row sk r b R)) (hT : Tbl w0 ls l) (hf : r.f.length = 19) (h5 : i.length = 5) (hh : h' = hOf i) (hA : 0 ≤ h' ∧ h' < 8) (h0 : 0 ≤ r.f.getD (10 + h'.toNat) 0) (h1 : r.f.getD (10 + h'.toNat) 0 < l.length)
    (hk0 : (rowAt l (r.f.getD (10 + h'.toNat) 0)).kind < 2 → ∀ w', St w0 w' (FP gr gb gB gS ps ls q row sk r b R) → k false w')
    (hk1 : ¬ (rowAt l (r.f.getD (10 + h'.toNat) 0)).kind < 2 → (fJoined r.f i (rowAt l (r.f.getD (10 + h'.toNat) 0)).kind (rowAt l (r.f.getD (10 + h'.toNat) 0)).v).2.2 = true → ∀ w', St w0 w' (FP gr gb gB gS ps ls q row sk { r with f := (fJoined r.f i (rowAt l (r.f.getD (10 + h'.toNat) 0)).kind (rowAt l (r.f.getD (10 + h'.toNat) 0)).v).1, kind := 3, v := (fJoined r.f i (rowAt l (r.f.getD (10 + h'.toNat) 0)).kind (rowAt l (r.f.getD (10 + h'.toNat) 0)).v).2.1 } b R) → k true w')
    (hk2 : ¬ (rowAt l (r.f.getD (10 + h'.toNat) 0)).kind < 2 → (fJoined r.f i (rowAt l (r.f.getD (10 + h'.toNat) 0)).kind (rowAt l (r.f.getD (10 + h'.toNat) 0)).v).2.2 = false → ∀ w', St w0 w' (FP gr gb gB gS ps ls q row sk { r with f := (fJoined r.f i (rowAt l (r.f.getD (10 + h'.toNat) 0)).kind (rowAt l (r.f.getD (10 + h'.toNat) 0)).v).1 } b R) → k true w') : fits_run_join (some ⟨gr, 0, none⟩) (agI i) w k := by
  unfold fits_run_join fits_run_join_b
  refine newC_h h fun g1 w2 h => ?_
  have h : St w0 w2 (blk g1 (ints i) :: FP gr gb gB gS ps ls q row sk r b R) := h
  refine ldI_h (g := g1) (o := 0 + 2) h (ints_getD (by omega)) ?_
  refine ldI_h (g := g1) (o := 0 + 0) h (ints_getD (by omega)) ?_
  refine joinP_i (fun z w' => z = h' ∧ w' = w2) (fun J hJ => ?_) ?_
  · unfold hOf at hh
    refine iteB_i (fun hb => ?_) fun hb => ?_
    · have hb : i.getD 0 0 = 10 := by simpa using hb
      refine ldI_h (g := g1) (o := 0 + 3) h (ints_getD (by omega)) ?_
      exact hJ _ _ ⟨by rw [hh, if_pos hb], rfl⟩
    · have hb : ¬ i.getD 0 0 = 10 := by simpa using hb
      exact hJ _ _ ⟨by rw [hh, if_neg hb], rfl⟩
  rintro z _ ⟨hz, rfl⟩
  rw [hz]
  refine drew_h h fun w9 h => ?_
  refine nn_i ?_
  refine ldP_h (g := gr) (o := 0 + 0) h rfl ?_
  refine nn_i ?_
  refine ldS_h (g := gb) (o := 0 + 1) h rfl ?_
  refine nn_i ?_
  refine ixP_i hA.1 (by omega) ?_
  have ev : (runV gb row sk r)[0 + 1 + 10 + h'.toNat * 1]? = some (.int .i64 (r.f.getD (10 + h'.toNat) 0)) := by
    have := run_get (gb := gb) (row := row) (sk := sk) (r := r) (j := 10 + h'.toNat) hf (by omega)
    rw [show 0 + 1 + 10 + h'.toNat * 1 = 1 + (10 + h'.toNat) by omega]
    exact this
  refine ldI_h (g := gr) (o := 0 + 1 + 10 + h'.toNat * 1) h ev ?_
  generalize hj : r.f.getD (10 + h'.toNat) 0 = j at *
  refine tA_h hT h h0 h1 fun p hp => ?_
  generalize hx : rowAt l j = x at *
  refine newC_h h fun g19 w20 h2 => ?_
  refine samecT (e := rbV x) (fun j v => hp h) (fun j v => hp h2) (Nat.le_of_eq rbV_len.symm) ?_
  refine samec_h (g := gr) (o := 0 + 1 + 10 + h'.toNat * 1) h h2 (samec_h (g := gb) (o := 0 + 1) h h2 (samec_h (g := gr) (o := 0 + 0) h h2 ?_))
  refine stW_h (g := g19) h2 rfl rfl one_rb fun w21 h => ?_
  refine ldI_h (g := g19) (o := 0 + 3) h rfl ?_
  refine iteB_i (fun hb => ?_) fun hb => ?_
  · exact hk0 (of_decide_eq_true hb) _ h.drop.drop
  have hk2' := of_decide_eq_false hb
  have hfl : (fJoined r.f i x.kind x.v).1.length = 19 := by rw [fJoined_len, hf]
  refine joinP_i (fun z w' => ∃ g, z = (⟨g, 0, none⟩, (fJoined r.f i x.kind x.v).2.1, (fJoined r.f i x.kind x.v).2.2) ∧ St w0 w' (blk g (ints (fJoined r.f i x.kind x.v).1) :: blk g19 (rbV x) :: blk g1 (ints i) :: FP gr gb gB gS ps ls q row sk r b R)) (fun J hJ => ?_) ?_
  · refine drew_h h fun w24 h => ?_
    refine nn_i ?_
    refine ldA_h (n := 19) (g := gr) (o := 0 + 1) h (by rw [run_len hf]; decide) ?_
    rw [run_f hf]
    refine ldW_h (g := g1) h (by simp [ints, h5]) ?_
    refine ldI_h (g := g19) (o := 0 + 3) h rfl ?_
    refine ldI_h (g := g19) (o := 0 + 4) h rfl ?_
    refine ⟨?_, ?_⟩
    · refine Fr.joined_s hf h5 fun w31 he => ?_
      have h2 := ext_of h he
      refine newC_h h2 fun g32 w33 h2 => ?_
      refine samec_h (g := g19) (o := 0 + 4) h h2 (samec_h (g := g19) (o := 0 + 3) h h2 (samec_h (g := g1) (o := 0) h h2 (samec_h (g := gr) (o := 0 + 1) h h2 ?_)))
      refine stW_h (g := g32) h2 rfl (by simp [agI, ints, hfl]) (Ck.one_agI _) fun w34 h2 => ?_
      exact hJ _ _ ⟨g32, rfl, h2⟩
    · refine newC_h h fun g32 w33 h2 => ?_
      refine samec_h (g := g19) (o := 0 + 4) h h2 (samec_h (g := g19) (o := 0 + 3) h h2 (samec_h (g := g1) (o := 0) h h2 (samec_h (g := gr) (o := 0 + 1) h h2 ?_)))
      refine Fr.joined_s hf h5 fun w31 he => ?_
      have h2 := ext_of h2 he
      refine stW_h (g := g32) h2 rfl (by simp [agI, ints, hfl]) (Ck.one_agI _) fun w34 h2 => ?_
      exact hJ _ _ ⟨g32, rfl, h2⟩
  rintro _ w41 ⟨g, rfl, h⟩
  refine ldW_h (n := 19) (g := g) h (by simp [ints, hfl]) ?_
  refine nn_i ?_
  refine stA_h (n := 19) (g := gr) (o := 0 + 1) (vs := agI (fJoined r.f i x.kind x.v).1) h (by simp [agI, ints, hfl]) (by rw [run_len hf]; decide) (Ck.one_agI _) fun w44 h => ?_
  rw [run_setf hf hfl] at h
  have hf2 : ({ r with f := (fJoined r.f i x.kind x.v).1 } : Rn).f.length = 19 := hfl
  refine iteB_i (fun hb => ?_) fun hb => ?_
  · refine nn_i ?_
    refine stC_h (g := gr) (o := 0 + 26) h rfl (by rw [run_len hf2]; decide) fun w46 h => ?_
    rw [run_setkind hf2] at h
    refine nn_i ?_
    refine stC_h (g := gr) (o := 0 + 27) h rfl (by rw [run_len (r := { r with f := (fJoined r.f i x.kind x.v).1, kind := 3 }) hf2]; decide) fun w48 h => ?_
    rw [run_setv (r := { r with f := (fJoined r.f i x.kind x.v).1, kind := 3 }) hf2] at h
    exact hk1 hk2' hb _ h.drop.drop.drop
  · exact hk2 hk2' hb _ h.drop.drop.drop
end
end Go.Proofs.YtgkfbagclkjilaaGreatDoor.Ft
namespace Go.Proofs.YtgkfbagclkjilaaGreatDoor.Ft
open Go Go.Ev Go.Proofs Go.Proofs.YtgkfbagclkjilaaGreatDoor
open Go.Proofs.YtgkfbagclkjilaaGreatDoor.Fr (fTo fOn fPlain fForked fJoined fClosed fChild fRoot fR isB fTo_len fOn_len fPlain_len fForked_len fJoined_len fClosed_len)
open Go.Proofs.YtgkfbagclkjilaaGreatDoor.Ck (opI Walk Accs needsOf isGoes heldL depths stepD handlesOk subBits scopesOk forks)
theorem does_s {w0 w : World} {L : List HP} {g : Nat} {vs : List Value} {v : Value} {j : Nat} {f : HP → List HP} {c : Value → Prop} (h : St w0 w L) [a : At L (blk g) vs f] (hj : j < 9) (hv : vs[j]? = some v) (hc : c v) : ixS ⟨some ⟨g, 0, none⟩, 9, 9⟩ (j : Int) 1 fun a => ldV w a c := by
  unfold ixS
  refine ⟨⟨by omega, by simp only; omega⟩, ?_⟩
  have e : (⟨g, 0, none⟩ : Addr).add (((j : Int)).toNat * 1) = ⟨g, j, none⟩ := by rw [add_mk, Int.toNat_natCast]; simp
  show ldV w _ c
  rw [e]
  exact ldV_h (g := g) (o := j) h hv hc
theorem next_any {f : List Int} {ps : Sl} {P : List FnR} {w : World} {k : Array Value × Int → World → Prop} (hF : Funcs5 w ps P) (hf : FB P f) (hk : ∀ i e w', i.length = 5 → Ext w w' → k (agI i, e) w') : frame_Frame_Next (agI f) #[.slice ps.a ps.n ps.c] w k := by
  obtain ⟨g, hg⟩ := hf.fn
  have h0 := hf.f0
  have hlen := hf.len
  obtain ⟨_, hcd⟩ := hF.code g (List.mem_of_getElem? hg)
  by_cases hin : 0 ≤ f.getD 1 0 ∧ (f.getD 1 0).toNat < g.code.length
  · have hi : g.code[(f.getD 1 0).toNat]? = some (g.code[(f.getD 1 0).toNat]'hin.2) := List.getElem?_eq_getElem hin.2
    refine next_s hF hf.len h0 hg hin.1 hi fun w' he => hk _ _ _ ?_ he
    exact (hcd.five _ (List.getElem_mem hin.2)).1
  have hn := hF.len
  have hcn := hcd.len
  have hlt := (List.getElem?_eq_some_iff.1 hg).1
  unfold frame_Frame_Next
  refine newC_h (.nil w) fun g1 w1 h => newC_h h fun g3 w3 h => newC_h h fun g5 w6 h => ?_
  have h : St w w6 [blk g5 (ints [0, 0, 0, 0, 0]), blk g3 [.slice ps.a ps.n ps.c], blk g1 (ints f)] := h
  refine joinP_i (fun b w' => b = false ∧ w' = w6) (fun J hJ => ?_) fun b v hbv => ?_
  · refine ldI_h (g := g1) (o := 0 + 0) h (ints_getD (by omega)) (iteB_f (by rw [decide_eq_false_iff_not]; show ¬ f.getD 0 0 < 0; omega) ?_)
    refine ldI_h (g := g1) (o := 0 + 0) h (ints_getD (by omega)) (ldS_h (g := g3) (o := 0 + 0) h rfl (hJ _ _ ⟨by rw [decide_eq_false_iff_not]; show ¬ f.getD 0 0 ≥ ((ps.n : Nat) : Int); omega, rfl⟩))
  rw [hbv.1, hbv.2]
  refine iteB_f rfl ?_
  refine ldS_h (g := g3) (o := 0 + 0) h rfl (ldI_h (g := g1) (o := 0 + 0) h (ints_getD (by omega)) ?_)
  refine ixR_h (i := f.getD 0 0) (e := FnR.cells g) hF.rws h h0 (by rw [List.getElem?_map, hg]; rfl) fun p hp => ?_
  refine ldS_i (s := g.sl) (hp h (j := 1) rfl) ?_
  refine joinP_i (fun b w' => b = true ∧ w' = w6) (fun J hJ => ?_) fun b v hbv => ?_
  · refine ldI_h (g := g1) (o := 0 + 1) h (ints_getD (by omega)) ?_
    refine iteB_i (fun hb => hJ _ _ ⟨rfl, rfl⟩) fun hb => ?_
    have hb : ¬ f.getD 1 0 < 0 := of_decide_eq_false hb
    refine ldI_h (g := g1) (o := 0 + 1) h (ints_getD (by omega)) (hJ _ _ ⟨by rw [decide_eq_true_eq]; show f.getD 1 0 ≥ ((g.sl.n : Nat) : Int); omega, rfl⟩)
  rw [hbv.1, hbv.2]
  refine iteB_t rfl ?_
  refine stW_h (n := 5) (g := g5) h rfl rfl (Ck.one_agI [0, 0, 0, 0, 0]) fun w24 h => ?_
  refine ldW_h (n := 5) (g := g5) h rfl ?_
  exact hk [0, 0, 0, 0, 0] _ _ rfl h.ext
abbrev doesL : List Value := [.func (.func n_fits_run_fork) #[] #[], .func (.func n_fits_run_join) #[] #[], .func (.func n_fits_run_join) #[] #[], .func (.func n_fits_run_open) #[] #[], .func (.func n_fits_run_close) #[] #[], .func (.func n_fits_run_cancel) #[] #[], .func (.func n_fits_run_pass) #[] #[], .func (.func n_fits_run_leave) #[] #[], .func (.func n_fits_run_leave) #[] #[]]
section
variable {w0 w : World} {L R : List HP} {gr gb gB gS : Nat} {ps ls sk : Sl} {q : Bool} {row : Int} {r : Rn} {b : Bk} {i : List Int} {ia : Array Value} {k : Bool → World → Prop} {P : List FnR} {l : List Rb} {Q : Int → Prop} {inn : Int × Int} {n : Nat} {ks : List Int}
theorem step_s (hF : Funcs5 w0 ps P) (hT : Tbl w0 ls l) (hA : Accs P) (hri : RI P Q row inn n r b ks) (hQ : ∀ j, Q j → 0 ≤ j ∧ j < l.length) (hn : (n : Int) < 1048576) (h : St w0 w (FP gr gb gB gS ps ls q row sk r b R))
    (h0 : ∀ w', fstp P l q row r b = none → St w0 w' (FP gr gb gB gS ps ls q row sk r b R) → k false w')
    (h1 : ∀ w' sk' r' b', fstp P l q row r b = some (r', b') → St w0 w' (FP gr gb gB gS ps ls q row sk' r' b' R) → k true w') : fits_run_step (some ⟨gr, 0, none⟩) w k := by
  have hf := hri.fb.len
  unfold fits_run_step fits_run_step_b
  by_cases hk0 : r.kind = 0
  case neg =>
    refine joinP_i (fun z w' => ∃ g e, z = (⟨g, 0, none⟩, e) ∧ St w0 w' (FP gr gb gB gS ps ls q row sk r b R)) (fun J hJ => ?_) ?_
    · refine drew_h h fun w2 h => ?_
      refine nn_i ?_
      refine ldA_h (n := 19) (g := gr) (o := 0 + 1) h (by rw [run_len hf]; decide) ?_
      rw [run_f hf]
      refine nn_i ?_
      refine ldP_h (g := gr) (o := 0 + 0) h rfl ?_
      refine nn_i ?_
      refine ldA_h (n := 1) (g := gb) (o := 0 + 0) h (by simp [bookV]) ?_
      refine ⟨?_, ?_⟩
      · refine next_any (hF.ext h.ext) hri.fb fun i e w10 h5 he => ?_
        have h2 := ext_of h he
        refine newC_h h2 fun g11 w12 h2 => ?_
        refine samec_h (g := gb) (o := 0 + 0) h h2 (samec_h (g := gr) (o := 0 + 0) h h2 (samec_h (g := gr) (o := 0 + 1) h h2 ?_))
        refine stW_h (g := g11) h2 rfl (by simp [agI, ints, h5]) (Ck.one_agI _) fun w13 h2 => ?_
        exact hJ _ _ ⟨g11, e, rfl, h2.drop⟩
      · refine newC_h h fun g11 w12 h2 => ?_
        refine samec_h (g := gb) (o := 0 + 0) h h2 (samec_h (g := gr) (o := 0 + 0) h h2 (samec_h (g := gr) (o := 0 + 1) h h2 ?_))
        refine next_any (hF.ext h2.ext) hri.fb fun i e w10 h5 he => ?_
        have h2 := ext_of h2 he
        refine stW_h (g := g11) h2 rfl (by simp [agI, ints, h5]) (Ck.one_agI _) fun w13 h2 => ?_
        exact hJ _ _ ⟨g11, e, rfl, h2.drop⟩
    rintro _ w20 ⟨g, e, rfl, h⟩
    refine joinP_i (fun z w' => z = true ∧ w' = w20) (fun J hJ => ?_) ?_
    · refine iteB_i (fun hb => hJ _ _ ⟨rfl, rfl⟩) fun hb => ?_
      refine nn_i ?_
      refine ldI_h (g := gr) (o := 0 + 26) h (run_kind hf) ?_
      exact hJ _ _ ⟨by simpa using hk0, rfl⟩
    rintro _ _ ⟨rfl, rfl⟩
    refine iteB_t rfl ?_
    exact h0 _ (by unfold fstp; rw [if_pos hk0]) h
  have hfi := hri.fi hk0
  obtain ⟨g, hv, ha⟩ := hfi.at hA
  obtain ⟨hp0, hp1⟩ := fat_pc ha
  have hmem := List.mem_of_getElem? ha.ins
  obtain ⟨_, hcd⟩ := hF.code g (List.mem_of_getElem? ha.at0)
  have h5 := (hcd.five _ hmem).1
  have hck := Ck.chk0 ha.chk
  have hregs := Fr.chk_regs (chk_fr ha.chk)
  have hop := hri.op
  generalize hi : insAt P r.f = i at ha hmem h5 hck hregs
  have hop0 : 0 ≤ i.getD 0 0 := hck.1
  have hop1 : i.getD 0 0 < 17 := hck.2.1
  refine joinP_i (fun z w' => ∃ g, z = (⟨g, 0, none⟩, 0) ∧ St w0 w' (blk g (ints i) :: FP gr gb gB gS ps ls q row sk r b R)) (fun J hJ => ?_) ?_
  · refine drew_h h fun w2 h => ?_
    refine nn_i ?_
    refine ldA_h (n := 19) (g := gr) (o := 0 + 1) h (by rw [run_len hf]; decide) ?_
    rw [run_f hf]
    refine nn_i ?_
    refine ldP_h (g := gr) (o := 0 + 0) h rfl ?_
    refine nn_i ?_
    refine ldA_h (n := 1) (g := gb) (o := 0 + 0) h (by simp [bookV]) ?_
    refine ⟨?_, ?_⟩
    · refine next_s (hF.ext h.ext) hf hfi.f0 ha.at0 hp0 ha.ins fun w10 he => ?_
      have h2 := ext_of h he
      refine newC_h h2 fun g11 w12 h2 => ?_
      refine samec_h (g := gb) (o := 0 + 0) h h2 (samec_h (g := gr) (o := 0 + 0) h h2 (samec_h (g := gr) (o := 0 + 1) h h2 ?_))
      refine stW_h (g := g11) h2 rfl (by simp [agI, ints, h5]) (Ck.one_agI _) fun w13 h2 => ?_
      exact hJ _ _ ⟨g11, rfl, h2⟩
    · refine newC_h h fun g11 w12 h2 => ?_
      refine samec_h (g := gb) (o := 0 + 0) h h2 (samec_h (g := gr) (o := 0 + 0) h h2 (samec_h (g := gr) (o := 0 + 1) h h2 ?_))
      refine next_s (hF.ext h2.ext) hf hfi.f0 ha.at0 hp0 ha.ins fun w10 he => ?_
      have h2 := ext_of h2 he
      refine stW_h (g := g11) h2 rfl (by simp [agI, ints, h5]) (Ck.one_agI _) fun w13 h2 => ?_
      exact hJ _ _ ⟨g11, rfl, h2⟩
  rintro _ w20 ⟨g1, rfl, h⟩
  refine joinP_i (fun z w' => z = false ∧ w' = w20) (fun J hJ => ?_) ?_
  · refine iteB_f rfl ?_
    refine nn_i ?_
    refine ldI_h (g := gr) (o := 0 + 26) h (run_kind hf) ?_
    exact hJ _ _ ⟨by rw [hk0]; rfl, rfl⟩
  rintro _ w25 ⟨rfl, rfl⟩
  refine iteB_f rfl ?_
  have hfl : (fPlain r.f i).1.length = 19 := fPlain_len hf
  refine joinP_i (fun z w' => ∃ g2, z = (⟨g2, 0, none⟩, (fPlain r.f i).2) ∧ St w0 w' (blk g2 (ints (fPlain r.f i).1) :: blk g1 (ints i) :: FP gr gb gB gS ps ls q row sk r b R)) (fun J hJ => ?_) ?_
  · refine drew_h h fun w27 h => ?_
    refine nn_i ?_
    refine ldA_h (n := 19) (g := gr) (o := 0 + 1) h (by rw [run_len hf]; decide) ?_
    rw [run_f hf]
    refine ldW_h (g := g1) h (by simp [ints, h5]) ?_
    refine ⟨?_, ?_⟩
    · refine Fr.plain_F hf h5 fun w32 he => ?_
      have h2 := ext_of h he
      refine newC_h h2 fun g33 w34 h2 => ?_
      refine samec_h (g := g1) (o := 0) h h2 (samec_h (g := gr) (o := 0 + 1) h h2 ?_)
      refine stW_h (g := g33) h2 rfl (by simp [agI, ints, hfl]) (Ck.one_agI _) fun w35 h2 => ?_
      exact hJ _ _ ⟨g33, rfl, h2⟩
    · refine newC_h h fun g33 w34 h2 => ?_
      refine samec_h (g := g1) (o := 0) h h2 (samec_h (g := gr) (o := 0 + 1) h h2 ?_)
      refine Fr.plain_F hf h5 fun w32 he => ?_
      have h2 := ext_of h2 he
      refine stW_h (g := g33) h2 rfl (by simp [agI, ints, hfl]) (Ck.one_agI _) fun w35 h2 => ?_
      exact hJ _ _ ⟨g33, rfl, h2⟩
  rintro _ w42 ⟨g2, rfl, h⟩
  refine iteB_i (fun hp => ?_) fun hp => ?_
  · have hp : (fPlain r.f i).2 = true := hp
    refine ldW_h (g := g2) h (by simp [ints, hfl]) ?_
    refine nn_i ?_
    refine stA_h (n := 19) (g := gr) (o := 0 + 1) (vs := agI (fPlain r.f i).1) h (by simp [agI, ints, hfl]) (by rw [run_len hf]; decide) (Ck.one_agI _) fun w45 h => ?_
    rw [run_setf hf hfl] at h
    exact h1 _ _ _ _ (by unfold fstp; rw [hi, if_neg (by simpa using hk0), if_pos hp]) h.drop.drop
  have hp : (fPlain r.f i).2 = false := hp
  have hop8 := plain_not ha.chk hp
  have hstp : fstp P l q row r b = fact P l q row i r b := by unfold fstp; rw [hi, if_neg (by simpa using hk0), if_neg (by rw [hp]; decide)]
  rw [hstp] at h0 h1
  refine newC_h h fun g46 w47 h => ?_
  refine drew_h h fun w48 h => ?_
  have h : St w0 w48 (blk g46 doesL :: blk g2 (ints (fPlain r.f i).1) :: blk g1 (ints i) :: FP gr gb gB gS ps ls q row sk r b R) := h
  refine ldI_h (g := g1) (o := 0 + 0) h (ints_getD (by omega)) ?_
  have hS := h.drop.drop.drop
  have hjoin : i.getD 0 0 = 9 ∨ i.getD 0 0 = 10 → fits_run_join (some ⟨gr, 0, none⟩) (agI i) w48 k := by
    intro h910
    obtain ⟨j0, j1, jq⟩ := fat_join ha h910
    obtain ⟨q0, q1⟩ := hQ _ jq
    refine join_s hS hT hf h5 rfl ⟨j0, j1⟩ q0 q1 (fun hb w' h => ?_) (fun hb hc w' h => ?_) fun hb hc w' h => ?_
    · exact h0 _ (by unfold fact; rw [if_neg (by omega), if_pos h910, if_pos hb]) h
    · exact h1 _ _ _ _ (by unfold fact; rw [if_neg (by omega), if_pos h910, if_neg hb, if_pos hc]) h
    · exact h1 _ _ _ _ (by unfold fact; rw [if_neg (by omega), if_pos h910, if_neg hb, if_neg (by rw [hc]; decide)]) h
  have hleave : 15 ≤ i.getD 0 0 → fits_run_leave (some ⟨gr, 0, none⟩) (agI i) w48 k := by
    intro hl
    refine leave_s hS hf h5 hregs.1 fun w' h => ?_
    exact h1 _ _ _ _ (by unfold fact; rw [if_neg (by omega), if_neg (by omega), if_neg (by omega), if_neg (by omega), if_neg (by omega), if_neg (by omega)]) h
  have hcases : i.getD 0 0 = 8 ∨ i.getD 0 0 = 9 ∨ i.getD 0 0 = 10 ∨ i.getD 0 0 = 11 ∨ i.getD 0 0 = 12 ∨ i.getD 0 0 = 13 ∨ i.getD 0 0 = 14 ∨ i.getD 0 0 = 15 ∨ i.getD 0 0 = 16 := by omega
  rcases hcases with ho | ho | ho | ho | ho | ho | ho | ho | ho
  · show ixS _ (IntKind.wrap .i64 (i.getD 0 0 - 8)) 1 _
    rw [ho, show IntKind.wrap .i64 ((8 : Int) - 8) = ((0 : Nat) : Int) by decide]
    refine does_s (g := g46) h (by decide) rfl ?_
    refine ldW_h (g := g1) h (by simp [ints, h5]) ?_
    refine callF_i (d := d_fits_run_fork) (fun _ _ _ => rfl) ?_
    show fits_run_fork (some ⟨gr, 0, none⟩) (agI i) w48 k
    have hpl := (Ck.places_in ha.good.places).2 ho
    have h4 := hck.2.2.2.1 ho
    refine fork_s hS hF hf h5 (isB_of ha.chk ho) h4.1 (by omega) (fun w' hk h => ?_) fun w' sk' c cs hk h => ?_
    · exact h0 _ (by unfold fact; rw [if_pos ho, hk]) h
    · exact h1 _ _ _ _ (by unfold fact; rw [if_pos ho, hk]) h
  · show ixS _ (IntKind.wrap .i64 (i.getD 0 0 - 8)) 1 _
    rw [ho, show IntKind.wrap .i64 ((9 : Int) - 8) = ((1 : Nat) : Int) by decide]
    refine does_s (g := g46) h (by decide) rfl ?_
    refine ldW_h (g := g1) h (by simp [ints, h5]) ?_
    refine callF_i (d := d_fits_run_join) (fun _ _ _ => rfl) ?_
    show fits_run_join (some ⟨gr, 0, none⟩) (agI i) w48 k
    exact hjoin (.inl ho)
  · show ixS _ (IntKind.wrap .i64 (i.getD 0 0 - 8)) 1 _
    rw [ho, show IntKind.wrap .i64 ((10 : Int) - 8) = ((2 : Nat) : Int) by decide]
    refine does_s (g := g46) h (by decide) rfl ?_
    refine ldW_h (g := g1) h (by simp [ints, h5]) ?_
    refine callF_i (d := d_fits_run_join) (fun _ _ _ => rfl) ?_
    show fits_run_join (some ⟨gr, 0, none⟩) (agI i) w48 k
    exact hjoin (.inr ho)
  · show ixS _ (IntKind.wrap .i64 (i.getD 0 0 - 8)) 1 _
    rw [ho, show IntKind.wrap .i64 ((11 : Int) - 8) = ((3 : Nat) : Int) by decide]
    refine does_s (g := g46) h (by decide) rfl ?_
    refine ldW_h (g := g1) h (by simp [ints, h5]) ?_
    refine callF_i (d := d_fits_run_open) (fun _ _ _ => rfl) ?_
    show fits_run_open (some ⟨gr, 0, none⟩) (agI i) w48 k
    have h00 : 0 ≤ ks.headD 0 := by
      have hne := hri.own.ne
      have := (hri.own.le _ (List.head_mem hne)).1
      cases ks with
      | nil => exact absurd rfl hne
      | cons a t => exact this
    refine open_s hS hf (by omega) fun w' h => ?_
    exact h1 _ _ _ _ (by unfold fact; rw [if_neg (by omega), if_neg (by omega), if_pos ho]) h
  · show ixS _ (IntKind.wrap .i64 (i.getD 0 0 - 8)) 1 _
    rw [ho, show IntKind.wrap .i64 ((12 : Int) - 8) = ((4 : Nat) : Int) by decide]
    refine does_s (g := g46) h (by decide) rfl ?_
    refine ldW_h (g := g1) h (by simp [ints, h5]) ?_
    refine callF_i (d := d_fits_run_close) (fun _ _ _ => rfl) ?_
    show fits_run_close (some ⟨gr, 0, none⟩) (agI i) w48 k
    refine close_s hS hf h5 (fun w' hc h => ?_) fun w' c cs hc hb h => ?_
    · refine h0 _ ?_ h
      unfold fact
      rw [if_neg (by omega), if_neg (by omega), if_neg (by omega), if_pos ho]
      rcases hc with hc | ⟨c, cs, hc, hb⟩
      · rw [hc]
      · rw [hc]; dsimp only; rw [if_pos hb]
    · refine h1 _ _ _ _ ?_ h
      unfold fact
      rw [if_neg (by omega), if_neg (by omega), if_neg (by omega), if_pos ho, hc]
      dsimp only
      rw [if_neg (by rw [hb]; decide)]
  · show ixS _ (IntKind.wrap .i64 (i.getD 0 0 - 8)) 1 _
    rw [ho, show IntKind.wrap .i64 ((13 : Int) - 8) = ((5 : Nat) : Int) by decide]
    refine does_s (g := g46) h (by decide) rfl ?_
    refine ldW_h (g := g1) h (by simp [ints, h5]) ?_
    refine callF_i (d := d_fits_run_cancel) (fun _ _ _ => rfl) ?_
    show fits_run_cancel (some ⟨gr, 0, none⟩) (agI i) w48 k
    refine cancel_s hS hf fun w' h => ?_
    exact h1 _ _ _ _ (by unfold fact; rw [if_neg (by omega), if_neg (by omega), if_neg (by omega), if_neg (by omega), if_pos ho]) h
  · show ixS _ (IntKind.wrap .i64 (i.getD 0 0 - 8)) 1 _
    rw [ho, show IntKind.wrap .i64 ((14 : Int) - 8) = ((6 : Nat) : Int) by decide]
    refine does_s (g := g46) h (by decide) rfl ?_
    refine ldW_h (g := g1) h (by simp [ints, h5]) ?_
    refine callF_i (d := d_fits_run_pass) (fun _ _ _ => rfl) ?_
    show fits_run_pass (some ⟨gr, 0, none⟩) (agI i) w48 k
    refine pass_s hS hf fun w' h => ?_
    exact h1 _ _ _ _ (by unfold fact; rw [if_neg (by omega), if_neg (by omega), if_neg (by omega), if_neg (by omega), if_neg (by omega), if_pos ho]) h
  · show ixS _ (IntKind.wrap .i64 (i.getD 0 0 - 8)) 1 _
    rw [ho, show IntKind.wrap .i64 ((15 : Int) - 8) = ((7 : Nat) : Int) by decide]
    refine does_s (g := g46) h (by decide) rfl ?_
    refine ldW_h (g := g1) h (by simp [ints, h5]) ?_
    refine callF_i (d := d_fits_run_leave) (fun _ _ _ => rfl) ?_
    show fits_run_leave (some ⟨gr, 0, none⟩) (agI i) w48 k
    exact hleave (by omega)
  · show ixS _ (IntKind.wrap .i64 (i.getD 0 0 - 8)) 1 _
    rw [ho, show IntKind.wrap .i64 ((16 : Int) - 8) = ((8 : Nat) : Int) by decide]
    refine does_s (g := g46) h (by decide) rfl ?_
    refine ldW_h (g := g1) h (by simp [ints, h5]) ?_
    refine callF_i (d := d_fits_run_leave) (fun _ _ _ => rfl) ?_
    show fits_run_leave (some ⟨gr, 0, none⟩) (agI i) w48 k
    exact hleave (by omega)
end
end Go.Proofs.YtgkfbagclkjilaaGreatDoor.Ft
namespace Go.Proofs.YtgkfbagclkjilaaGreatDoor.Ft
open Go Go.Ev Go.Proofs Go.Proofs.YtgkfbagclkjilaaGreatDoor
open Go.Proofs.YtgkfbagclkjilaaGreatDoor.Fr (fTo fOn fPlain fForked fJoined fClosed fChild fRoot fR isB fTo_len fOn_len fPlain_len fForked_len fJoined_len fClosed_len)
open Go.Proofs.YtgkfbagclkjilaaGreatDoor.Ck (opI Walk Accs needsOf isGoes heldL depths stepD handlesOk subBits scopesOk forks)
section
variable {w0 w : World} {L R : List HP} {gr gb gB gS : Nat} {ps ls sk : Sl} {q : Bool} {row : Int} {r r' : Rn} {b b' : Bk} {i : List Int} {ia : Array Value} {k : Bool → World → Prop} {P : List FnR} {l : List Rb} {Q : Int → Prop} {inn : Int × Int} {n m : Nat} {ks : List Int}
theorem ends_s (hF : Funcs5 w0 ps P) (hT : Tbl w0 ls l) (hA : Accs P) (hri : RI P Q row inn n r b ks) (hb : BI P Q b) (hin : inn = (-1, 0) ∨ (b.sc inn).isSome = true) (hr0 : 0 ≤ row) (hr1 : row < l.length)
    (h : St w0 w (FP gr gb gB gS ps ls q row sk r b R)) (hk : ∀ w', St w0 w' (FP gr gb gB gS ps ls q row sk r b R) → k (fends P q (rowAt l row) r b inn) w') : fits_run_ends (some ⟨gr, 0, none⟩) #[.int .i64 inn.1, .int .i64 inn.2] w k := by
  have hf := hri.fb.len
  unfold fits_run_ends fits_run_ends_b
  unfold fends at hk
  refine newC_h h fun g1 w2 h => ?_
  refine drew_h h fun w3 h => ?_
  refine nn_i ?_
  refine ldP_h (g := gr) (o := 0 + 0) h rfl ?_
  refine nn_i ?_
  refine ldS_h (g := gb) (o := 0 + 1) h rfl ?_
  refine nn_i ?_
  refine ldI_h (g := gr) (o := 0 + 20) h (run_row hf) ?_
  refine tA_h hT h hr0 hr1 fun p hp => ?_
  generalize rowAt l row = x at *
  refine newC_h h fun g12 w13 h2 => ?_
  refine samecT (e := rbV x) (fun j v => hp h) (fun j v => hp h2) (Nat.le_of_eq rbV_len.symm) ?_
  refine samec_h (g := gr) (o := 0 + 20) h h2 (samec_h (g := gb) (o := 0 + 1) h h2 (samec_h (g := gr) (o := 0 + 0) h h2 ?_))
  refine stW_h (g := g12) h2 rfl rfl one_rb fun w14 h => ?_
  have h : St w0 w14 (blk g12 (rbV x) :: blk g1 [.int .i64 inn.1, .int .i64 inn.2] :: FP gr gb gB gS ps ls q row sk r b R) := h
  refine ldI_h (g := g12) (o := 0 + 3) h rfl ?_
  refine joinP_i (fun z w' => z = decide (x.kind = 2 ∨ x.kind = 3) ∧ w' = w14) (fun J hJ => ?_) ?_
  · refine iteB_i (fun hb => hJ _ _ ⟨?_, rfl⟩) fun hb => hJ _ _ ⟨?_, rfl⟩
    · have e : x.kind = 2 := by simpa using hb
      rw [e]; rfl
    · have e : ¬ x.kind = 2 := by simpa using hb
      rw [Bool.eq_iff_iff]; simp [e]
  rintro _ w18 ⟨rfl, rfl⟩
  refine iteB_i (fun hb2 => ?_) fun hb2 => ?_
  · rw [if_pos (of_decide_eq_true hb2)] at hk
    refine drew_h h fun w19 h => ?_
    refine nn_i ?_
    refine ldI_h (g := gr) (o := 0 + 26) h (run_kind hf) ?_
    refine ldI_h (g := g12) (o := 0 + 3) h rfl ?_
    refine iteB_i (fun hb => ?_) fun hb => ?_
    · rw [show (r.kind == x.kind) = true from hb, Bool.true_and] at hk
      refine nn_i ?_
      refine ldI_h (g := gr) (o := 0 + 27) h (run_v hf) ?_
      exact ldI_h (g := g12) (o := 0 + 4) h rfl (hk _ h.drop.drop)
    · rw [show (r.kind == x.kind) = false from hb, Bool.false_and] at hk
      exact hk _ h.drop.drop
  rw [if_neg (of_decide_eq_false hb2)] at hk
  refine iteB_i (fun hb4 => ?_) fun hb4 => by rw [if_neg (by simpa using hb4)] at hk; exact hk _ h.drop.drop
  rw [if_pos (by simpa using hb4)] at hk
  refine joinP_i (fun z w' => ∃ g i e, z = (⟨g, 0, none⟩, e) ∧ i.length = 5 ∧ (r.kind = 0 → i = insAt P r.f ∧ e = 0) ∧ St w0 w' (blk g (ints i) :: blk g12 (rbV x) :: blk g1 [.int .i64 inn.1, .int .i64 inn.2] :: FP gr gb gB gS ps ls q row sk r b R)) (fun J hJ => ?_) ?_
  · refine drew_h h fun w27 h => ?_
    refine nn_i ?_
    refine ldA_h (n := 19) (g := gr) (o := 0 + 1) h (by rw [run_len hf]; decide) ?_
    rw [run_f hf]
    refine nn_i ?_
    refine ldP_h (g := gr) (o := 0 + 0) h rfl ?_
    refine nn_i ?_
    refine ldA_h (n := 1) (g := gb) (o := 0 + 0) h (by simp [bookV]) ?_
    have hnx : ∀ {w' : World} {kk : Array Value × Int → World → Prop}, Ext w0 w' → (∀ i e w'', i.length = 5 → (r.kind = 0 → i = insAt P r.f ∧ e = 0) → Ext w' w'' → kk (agI i, e) w'') → frame_Frame_Next (agI r.f) #[.slice ps.a ps.n ps.c] w' kk := by
      intro w' kk he hkk
      by_cases hk0 : r.kind = 0
      · have hfi := hri.fi hk0
        obtain ⟨g, hv, ha⟩ := hfi.at hA
        obtain ⟨hp0, hp1⟩ := fat_pc ha
        obtain ⟨_, hcd⟩ := hF.code g (List.mem_of_getElem? ha.at0)
        exact next_s (hF.ext he) hf hfi.f0 ha.at0 hp0 ha.ins fun w'' he2 => hkk _ _ _ (hcd.five _ (List.mem_of_getElem? ha.ins)).1 (fun _ => ⟨rfl, rfl⟩) he2
      · exact next_any (hF.ext he) hri.fb fun i e w'' h5 he2 => hkk _ _ _ h5 (fun q => absurd q hk0) he2
    refine ⟨?_, ?_⟩
    · refine hnx h.ext fun i e w10 h5 hie he => ?_
      have h2 := ext_of h he
      refine newC_h h2 fun g11 w12 h2 => ?_
      refine samec_h (g := gb) (o := 0 + 0) h h2 (samec_h (g := gr) (o := 0 + 0) h h2 (samec_h (g := gr) (o := 0 + 1) h h2 ?_))
      refine stW_h (g := g11) h2 rfl (by simp [agI, ints, h5]) (Ck.one_agI _) fun w13 h2 => ?_
      exact hJ _ _ ⟨g11, i, e, rfl, h5, hie, h2⟩
    · refine newC_h h fun g11 w12 h2 => ?_
      refine samec_h (g := gb) (o := 0 + 0) h h2 (samec_h (g := gr) (o := 0 + 0) h h2 (samec_h (g := gr) (o := 0 + 1) h h2 ?_))
      refine hnx h2.ext fun i e w10 h5 hie he => ?_
      have h2 := ext_of h2 he
      refine stW_h (g := g11) h2 rfl (by simp [agI, ints, h5]) (Ck.one_agI _) fun w13 h2 => ?_
      exact hJ _ _ ⟨g11, i, e, rfl, h5, hie, h2⟩
  rintro _ w45 ⟨g, i, e, rfl, h5, hie, h⟩
  refine joinP_i (fun z w' => z = (r.kind != 0 || (q && !(askB b.sc inn))) ∧ St w0 w' (blk g (ints i) :: blk g12 (rbV x) :: blk g1 [.int .i64 inn.1, .int .i64 inn.2] :: FP gr gb gB gS ps ls q row sk r b R)) (fun J hJ => ?_) ?_
  · refine drew_h h fun w47 h => ?_
    refine nn_i ?_
    refine ldI_h (g := gr) (o := 0 + 26) h (run_kind hf) ?_
    refine iteB_i (fun hb => hJ _ _ ⟨by rw [show (r.kind != 0) = true from hb]; rfl, h⟩) fun hb5 => ?_
    rw [show (r.kind != 0) = false from hb5, Bool.false_or] at hJ
    refine nn_i ?_
    refine ldP_h (g := gr) (o := 0 + 0) h rfl ?_
    refine nn_i ?_
    refine ldB_h (g := gb) (o := 0 + 2) h rfl ?_
    refine iteB_i (fun hq => ?_) fun hq => ?_
    · subst hq
      refine nn_i ?_
      refine ldP_h (g := gr) (o := 0 + 0) h rfl ?_
      refine ldW_h (n := 2) (g := g1) h rfl ?_
      refine asked_s (s := inn) (ps := ps) (ls := ls) (q := true) (gB := gB) (gS := gS) h (ask_ex hb.sc hin) fun w58 h => ?_
      exact hJ _ _ ⟨rfl, h⟩
    · subst hq
      exact hJ _ _ ⟨rfl, h⟩
  rintro _ w60 ⟨rfl, h⟩
  refine iteB_i (fun hb6 => ?_) fun hb6 => ?_
  · rw [if_pos hb6] at hk; exact hk _ h.drop.drop.drop
  rw [if_neg (by rw [hb6]; decide)] at hk
  have hk0 : r.kind = 0 := by
    rw [Bool.or_eq_false_iff] at hb6
    simpa using hb6.1
  obtain ⟨ei, ee⟩ := hie hk0
  subst ee
  refine ldI_h (g := g12) (o := 0 + 5) h rfl ?_
  refine iteB_i (fun hb7 => ?_) fun hb7 => ?_
  · rw [show (x.steps == 0) = true from hb7, Bool.true_or] at hk; exact hk _ h.drop.drop.drop
  rw [show (x.steps == 0) = false from hb7, Bool.false_or] at hk
  refine iteB_t rfl ?_
  obtain ⟨g', hv, ha⟩ := (hri.fi hk0).at hA
  have hck := Ck.chk0 ha.chk
  have hop0 : 0 ≤ (insAt P r.f).getD 0 0 := hck.1
  have hop1 : (insAt P r.f).getD 0 0 < 17 := hck.2.1
  refine ldI_h (g := g) (o := 0 + 0) h (ints_getD (by omega)) ?_
  rw [ei]
  refine point_s hop0 hop1 ?_
  exact hk _ h.drop.drop.drop
theorem frun_succ : frun P l q row (n + 1) r b = (match fstp P l q row r b with | none => none | some (r', b') => frun P l q row n r' b') := rfl
theorem frun_add : ∀ {n m : Nat} {r : Rn} {b : Bk}, frun P l q row (n + m) r b = (match frun P l q row n r b with | none => none | some (r', b') => frun P l q row m r' b')
  | 0, m, r, b => by rw [Nat.zero_add]; rfl
  | n + 1, m, r, b => by
    rw [show n + 1 + m = (n + m) + 1 by omega, frun_succ, frun_succ]
    cases fstp P l q row r b with
    | none => rfl
    | some x => exact frun_add
theorem BTo.trans {kids kids' : List Int} {a b c : Bk} (h : BTo row kids a b) (k : BTo row kids' b c) (hs : ∀ i, i ∈ kids' → i ∈ kids) : BTo row kids a c :=
  ⟨fun s hs' => (k.sc s hs').trans (h.sc s hs'), fun s q => k.some s (h.some s q), fun i hi => (k.beg i fun q => hi (hs i q)).trans (h.beg i hi)⟩
theorem frun_ri (hA : Accs P) (hN : ∀ g ∈ P, InI g.needs) (hQ : ∀ j, Q j → (rowAt l j).kind ≤ 4) (h0 : 0 ≤ row) (m : Nat) : ∀ (n : Nat) (r r' : Rn) (b b' : Bk) (ks : List Int), n + m ≤ 1048576 → RI P Q row inn n r b ks → BI P Q b → (∀ k ∈ r.kids, row < k) → frun P l q row m r b = some (r', b') →
    (∃ ks', RI P Q row inn (n + m) r' b' ks') ∧ BI P Q b' ∧ BTo row r.kids b b' ∧ (∃ j, r'.kids = r.kids.drop j) ∧ ∃ j, r'.cl = r.cl.drop j := by
  induction m with
  | zero =>
    intro n r r' b b' ks hn h hb hk hs
    cases hs
    exact ⟨⟨ks, h⟩, hb, BTo.refl _ _ _, ⟨0, rfl⟩, ⟨0, rfl⟩⟩
  | succ m ih =>
    intro n r r' b b' ks hn h hb hk hs
    rw [frun_succ] at hs
    split at hs
    · cases hs
    · rename_i r1 b1 hst
      obtain ⟨_, ⟨ks1, h1⟩, hb1, ht1, ⟨j1, e1⟩, ⟨j2, e2⟩⟩ := fstp_ri hA hN hQ h0 (by omega) h hb hk hst
      have hsub : ∀ i, i ∈ r1.kids → i ∈ r.kids := fun i hi => by rw [e1] at hi; exact List.mem_of_mem_drop hi
      obtain ⟨⟨ks2, h2⟩, hb2, ht2, ⟨j3, e3⟩, ⟨j4, e4⟩⟩ := ih (n + 1) r1 r' b1 b' ks1 (by omega) h1 hb1 (fun k hk' => hk k (hsub k hk')) hs
      refine ⟨⟨ks2, by rw [show n + (m + 1) = n + 1 + m by omega]; exact h2⟩, hb2, ht1.trans ht2 hsub, ⟨j1 + j3, by rw [e3, e1, List.drop_drop]⟩, ⟨j2 + j4, by rw [e4, e2, List.drop_drop]⟩⟩
end
end Go.Proofs.YtgkfbagclkjilaaGreatDoor.Ft
namespace Go.Proofs.YtgkfbagclkjilaaGreatDoor.Ft
open Go Go.Ev Go.Proofs Go.Proofs.YtgkfbagclkjilaaGreatDoor
open Go.Proofs.YtgkfbagclkjilaaGreatDoor.Fr (fTo fOn fPlain fForked fJoined fClosed fChild fRoot fR isB fTo_len fOn_len fPlain_len fForked_len fJoined_len fClosed_len)
open Go.Proofs.YtgkfbagclkjilaaGreatDoor.Ck (opI Walk Accs needsOf isGoes heldL depths stepD handlesOk subBits scopesOk forks)
theorem toAB {x : List Int × (Int × Int)} {c : Array Value → Prop} (h : c (agI (x.1 ++ [x.2.1, x.2.2]))) : toA (evB x) c := h
theorem beg_len {x : List Int × (Int × Int)} (h : x.1.length = 19) : (agI (x.1 ++ [x.2.1, x.2.2])).size = 21 := by simp [agI, ints, h]
abbrev BP (gb gB gS : Nat) (ps ls : Sl) (q : Bool) (b : Bk) (R : List HP) : List HP := blk gb (bookV ps ls q gB gS) :: gm ekI evB gB b.beg :: gm ekP evS gS b.sc :: R
def Z28 (gb : Nat) : List Value := [.pointer (some ⟨gb, 0, none⟩), .int .i64 (0 : Int), .int .i64 (0 : Int), .int .i64 (0 : Int), .int .i64 (0 : Int), .int .i64 (0 : Int), .int .i64 (0 : Int), .int .i64 (0 : Int), .int .i64 (0 : Int), .int .i64 (0 : Int), .int .i64 (0 : Int), .int .i64 (0 : Int), .int .i64 (0 : Int), .int .i64 (0 : Int), .int .i64 (0 : Int), .int .i64 (0 : Int), .int .i64 (0 : Int), .int .i64 (0 : Int), .int .i64 (0 : Int), .int .i64 (0 : Int), .int .i64 (0 : Int), .slice none 0 0, .string (ByteArray.mk #[]), .int .i64 (0 : Int), .int .i64 (0 : Int), .int .i64 (0 : Int), .int .i64 (0 : Int), .int .i64 (0 : Int)]
theorem spl_run0 {gb : Nat} {f : List Int} {x y z u v : Value} {c : Array Value → Prop} (hc : f.length = 19) (h : c (Value.pointer (some ⟨gb, 0, none⟩) :: (ints f ++ [x, y, z, u, v, .int .i64 0, .int .i64 0, .int .i64 0])).toArray) :
    spl (Z28 gb).toArray 1 19 (agI f) fun cs84 => spl (Array.setIfInBounds (Array.setIfInBounds (Array.setIfInBounds cs84 20 x) 21 y) 22 z) 23 2 #[u, v] c := by
  have hl : (ints f).length = 19 := by simp [ints, hc]
  have e1 : (Z28 gb).take 1 ++ (ints f ++ (Z28 gb).drop (1 + 19)) = .pointer (some ⟨gb, 0, none⟩) :: (ints f ++ (Z28 gb).drop 20) := rfl
  have e2 : (((Value.pointer (some ⟨gb, 0, none⟩) :: (ints f ++ (Z28 gb).drop 20)).set 20 x).set 21 y).set 22 z = .pointer (some ⟨gb, 0, none⟩) :: (ints f ++ [x, y, z, .int .i64 0, .int .i64 0, .int .i64 0, .int .i64 0, .int .i64 0]) := by
    simp only [List.set_cons_succ]
    rw [List.set_append_right _ _ (by omega), List.set_append_right _ _ (by omega), List.set_append_right _ _ (by omega), hl]
    rfl
  have e3 : (Value.pointer (some ⟨gb, 0, none⟩) :: (ints f ++ [x, y, z, .int .i64 0, .int .i64 0, .int .i64 0, .int .i64 0, .int .i64 0])).take 23 ++ ([u, v] ++ (Value.pointer (some ⟨gb, 0, none⟩) :: (ints f ++ [x, y, z, .int .i64 0, .int .i64 0, .int .i64 0, .int .i64 0, .int .i64 0])).drop (23 + 2)) = .pointer (some ⟨gb, 0, none⟩) :: (ints f ++ [x, y, z, u, v, .int .i64 0, .int .i64 0, .int .i64 0]) := by
    rw [List.take_succ_cons, List.drop_succ_cons, List.take_append, List.take_of_length_le (by omega : (ints f).length ≤ 22), List.drop_append, List.drop_of_length_le (by omega : (ints f).length ≤ 24), hl]
    simp
  have h2 : spl (Value.pointer (some ⟨gb, 0, none⟩) :: (ints f ++ [x, y, z, .int .i64 0, .int .i64 0, .int .i64 0, .int .i64 0, .int .i64 0])).toArray 23 2 #[u, v] c := spl_V (cs := [u, v]) _ rfl (by simp [hl]) e3 h
  refine spl_V (acc := Z28 gb) (cs := ints f) _ hl (by simp [Z28]) e1 ?_
  rw [List.setIfInBounds_toArray, List.setIfInBounds_toArray, List.setIfInBounds_toArray, e2]
  exact h2
section
variable {w0 w : World} {L R : List HP} {gr gb gB gS : Nat} {ps ls sk : Sl} {q : Bool} {i : Int} {r r' : Rn} {b b' : Bk} {k : Bool → World → Prop} {P : List FnR} {l : List Rb} {Q : Int → Prop} {f : HP → List HP} {φ : Int → Option (List Int × (Int × Int))}
theorem lookB_h {i : Int} {c : Value → World → Prop} (h : St w0 w L) [a : At L (gm ekI evB gB) φ f] (hc : c (evB ((φ i).getD bg0)) w) : Go.Ev.look Go.Proofs.Tryz.prog 86 (.map (some gB)) (.int .i64 i) false w c :=
  gmLook_h (ek := ekI) (ev := evB) (k := i) mapB h hc
theorem fits_s {x0 : List Int × (Int × Int)} (hF : Funcs5 w0 ps P) (hT : Tbl w0 ls l) (hA : Accs P) (hN : ∀ g ∈ P, InI g.needs) (hlen : l.length ≤ 1000000) (hQ0 : ∀ j, Q j → 0 ≤ j ∧ j < l.length) (hQ : ∀ j, Q j → (rowAt l j).kind ≤ 4) (hb : BI P Q b) (h0 : 0 ≤ i) (h1 : i < l.length)
    (hs0 : 0 ≤ (rowAt l i).steps) (hs1 : (rowAt l i).steps ≤ 1048576) (hkQ : ∀ k ∈ kidsL l i, Q k) (hki : ∀ k ∈ kidsL l i, i < k) (hat : b.beg i = some x0) (h : St w0 w (BP gb gB gS ps ls q b R))
    (hk0 : ∀ w', frow P l q i b = none → Ext w0 w' → k false w') (hk1 : ∀ w' b', frow P l q i b = some b' → BI P Q b' → BTo i (kidsL l i) b b' → St w0 w' (BP gb gB gS ps ls q b' R) → k true w') : fits_book_fits (some ⟨gb, 0, none⟩) i w k := by
  have hbat : b.at i = x0 := by unfold Bk.at; rw [hat]; rfl
  obtain ⟨hfi, hin, hlt⟩ := hb.beg i x0 hat
  have hbl : ((b.beg i).getD bg0).1.length = 19 := by rw [hat]; exact hfi.len
  have hbl2 : x0.1.length = 19 := hfi.len
  unfold fits_book_fits fits_book_fits_b
  unfold frow at hk0 hk1
  rw [hbat] at hk0 hk1
  refine joinP_i (fun z w' => ∃ g1 g2, z = (⟨g1, 0, none⟩, ⟨g2, 0, none⟩) ∧ St w0 w' (blk g1 (rbV (rowAt l i)) :: blk g2 (ints (x0.1 ++ [x0.2.1, x0.2.2])) :: BP gb gB gS ps ls q b R)) (fun J hJ0 => ?_) ?_
  · have hJ : ∀ z w', (∃ g1 g2, z = (⟨g1, 0, none⟩, ⟨g2, 0, none⟩) ∧ St w0 w' (blk g1 (rbV (rowAt l i)).toArray.toList :: blk g2 (agI (((b.beg i).getD bg0).1 ++ [((b.beg i).getD bg0).2.1, ((b.beg i).getD bg0).2.2])).toList :: BP gb gB gS ps ls q b R)) → J z w' := by
      intro z w' hz
      rw [hat] at hz
      exact hJ0 z w' hz
    refine drew_h h fun w2 h2 => ?_
    refine nn_i ?_
    refine ldS_h (g := gb) (o := 0 + 1) h2 rfl ?_
    refine tA_h hT h2 h0 h1 fun p hp => ?_
    refine nn_i ?_
    refine ldM_h (g := gb) (o := 0 + 3) h2 rfl ?_
    refine ⟨?_, ?_⟩
    · refine lookB_h h2 ?_
      refine toAB ?_
      refine samec_self ?_
      refine samec_self ?_
      refine ⟨?_, ?_⟩
      · refine newC_h h2 fun g12 w13 h13 => ?_
        refine samec_h (g := gb) (o := 0 + 3) h2 h13 ?_
        refine samecT (e := rbV (rowAt l i)) (fun j v => hp h2) (fun j v => hp h13) (Nat.le_of_eq rbV_len.symm) ?_
        refine samec_h (g := gb) (o := 0 + 1) h2 h13 ?_
        refine newC_h h13 fun g14 w15 h15 => ?_
        refine samec_h (g := gb) (o := 0 + 3) h2 h15 ?_
        refine samecT (e := rbV (rowAt l i)) (fun j v => hp h2) (fun j v => hp h15) (Nat.le_of_eq rbV_len.symm) ?_
        refine samec_h (g := gb) (o := 0 + 1) h2 h15 ?_
        refine stW_h (n := 7) (g := g12) h15 rfl rfl one_rb fun w16 h16 => ?_
        refine samec_h (g := gb) (o := 0 + 3) h2 h16 ?_
        refine stW_h (n := 21) (g := g14) h16 rfl (beg_len hbl) (Ck.one_agI _) fun w17 h17 => ?_
        exact hJ _ _ ⟨g12, g14, rfl, h17.swap⟩
      · refine newC_h h2 fun g18 w19 h19 => ?_
        refine samec_h (g := gb) (o := 0 + 3) h2 h19 ?_
        refine samecT (e := rbV (rowAt l i)) (fun j v => hp h2) (fun j v => hp h19) (Nat.le_of_eq rbV_len.symm) ?_
        refine samec_h (g := gb) (o := 0 + 1) h2 h19 ?_
        refine newC_h h19 fun g20 w21 h21 => ?_
        refine samec_h (g := gb) (o := 0 + 3) h2 h21 ?_
        refine samecT (e := rbV (rowAt l i)) (fun j v => hp h2) (fun j v => hp h21) (Nat.le_of_eq rbV_len.symm) ?_
        refine samec_h (g := gb) (o := 0 + 1) h2 h21 ?_
        refine stW_h (n := 7) (g := g20) h21 rfl rfl one_rb fun w22 h22 => ?_
        refine samec_h (g := gb) (o := 0 + 3) h2 h22 ?_
        refine stW_h (n := 21) (g := g18) h22 rfl (beg_len hbl) (Ck.one_agI _) fun w23 h23 => ?_
        exact hJ _ _ ⟨g20, g18, rfl, h23⟩
    · refine ⟨?_, ?_⟩
      · refine newC_h h2 fun g24 w25 h25 => ?_
        refine samec_h (g := gb) (o := 0 + 3) h2 h25 ?_
        refine samecT (e := rbV (rowAt l i)) (fun j v => hp h2) (fun j v => hp h25) (Nat.le_of_eq rbV_len.symm) ?_
        refine samec_h (g := gb) (o := 0 + 1) h2 h25 ?_
        refine ⟨?_, ?_⟩
        · refine lookB_h h25 ?_
          refine toAB ?_
          refine samecT (e := rbV (rowAt l i)) (fun j v => hp h2) (fun j v => hp h25) (Nat.le_of_eq rbV_len.symm) ?_
          refine samec_h (g := gb) (o := 0 + 1) h2 h25 ?_
          refine newC_h h25 fun g29 w30 h30 => ?_
          refine samec_h (g := gb) (o := 0 + 3) h2 h30 ?_
          refine samecT (e := rbV (rowAt l i)) (fun j v => hp h2) (fun j v => hp h30) (Nat.le_of_eq rbV_len.symm) ?_
          refine samec_h (g := gb) (o := 0 + 1) h2 h30 ?_
          refine stW_h (n := 7) (g := g24) h30 rfl rfl one_rb fun w31 h31 => ?_
          refine samec_h (g := gb) (o := 0 + 3) h2 h31 ?_
          refine stW_h (n := 21) (g := g29) h31 rfl (beg_len hbl) (Ck.one_agI _) fun w32 h32 => ?_
          exact hJ _ _ ⟨g24, g29, rfl, h32.swap⟩
        · refine newC_h h25 fun g33 w34 h34 => ?_
          refine samec_h (g := gb) (o := 0 + 3) h2 h34 ?_
          refine samecT (e := rbV (rowAt l i)) (fun j v => hp h2) (fun j v => hp h34) (Nat.le_of_eq rbV_len.symm) ?_
          refine samec_h (g := gb) (o := 0 + 1) h2 h34 ?_
          refine ⟨?_, ?_⟩
          · refine lookB_h h34 ?_
            refine toAB ?_
            refine samecT (e := rbV (rowAt l i)) (fun j v => hp h2) (fun j v => hp h34) (Nat.le_of_eq rbV_len.symm) ?_
            refine samec_h (g := gb) (o := 0 + 1) h2 h34 ?_
            refine stW_h (n := 7) (g := g24) h34 rfl rfl one_rb fun w38 h38 => ?_
            refine samec_h (g := gb) (o := 0 + 3) h2 h38 ?_
            refine stW_h (n := 21) (g := g33) h38 rfl (beg_len hbl) (Ck.one_agI _) fun w39 h39 => ?_
            exact hJ _ _ ⟨g24, g33, rfl, h39.swap⟩
          · refine stW_h (n := 7) (g := g24) h34 rfl rfl one_rb fun w40 h40 => ?_
            refine samec_h (g := gb) (o := 0 + 3) h2 h40 ?_
            refine lookB_h h40 ?_
            refine toAB ?_
            refine samecT (e := rbV (rowAt l i)) (fun j v => hp h2) (fun j v => hp h40) (Nat.le_of_eq rbV_len.symm) ?_
            refine samec_h (g := gb) (o := 0 + 1) h2 h40 ?_
            refine stW_h (n := 21) (g := g33) h40 rfl (beg_len hbl) (Ck.one_agI _) fun w44 h44 => ?_
            exact hJ _ _ ⟨g24, g33, rfl, h44.swap⟩
      · refine newC_h h2 fun g45 w46 h46 => ?_
        refine samec_h (g := gb) (o := 0 + 3) h2 h46 ?_
        refine samecT (e := rbV (rowAt l i)) (fun j v => hp h2) (fun j v => hp h46) (Nat.le_of_eq rbV_len.symm) ?_
        refine samec_h (g := gb) (o := 0 + 1) h2 h46 ?_
        refine ⟨?_, ?_⟩
        · refine lookB_h h46 ?_
          refine toAB ?_
          refine samecT (e := rbV (rowAt l i)) (fun j v => hp h2) (fun j v => hp h46) (Nat.le_of_eq rbV_len.symm) ?_
          refine samec_h (g := gb) (o := 0 + 1) h2 h46 ?_
          refine newC_h h46 fun g50 w51 h51 => ?_
          refine samec_h (g := gb) (o := 0 + 3) h2 h51 ?_
          refine samecT (e := rbV (rowAt l i)) (fun j v => hp h2) (fun j v => hp h51) (Nat.le_of_eq rbV_len.symm) ?_
          refine samec_h (g := gb) (o := 0 + 1) h2 h51 ?_
          refine stW_h (n := 7) (g := g50) h51 rfl rfl one_rb fun w52 h52 => ?_
          refine samec_h (g := gb) (o := 0 + 3) h2 h52 ?_
          refine stW_h (n := 21) (g := g45) h52 rfl (beg_len hbl) (Ck.one_agI _) fun w53 h53 => ?_
          exact hJ _ _ ⟨g50, g45, rfl, h53⟩
        · refine newC_h h46 fun g54 w55 h55 => ?_
          refine samec_h (g := gb) (o := 0 + 3) h2 h55 ?_
          refine samecT (e := rbV (rowAt l i)) (fun j v => hp h2) (fun j v => hp h55) (Nat.le_of_eq rbV_len.symm) ?_
          refine samec_h (g := gb) (o := 0 + 1) h2 h55 ?_
          refine ⟨?_, ?_⟩
          · refine lookB_h h55 ?_
            refine toAB ?_
            refine samecT (e := rbV (rowAt l i)) (fun j v => hp h2) (fun j v => hp h55) (Nat.le_of_eq rbV_len.symm) ?_
            refine samec_h (g := gb) (o := 0 + 1) h2 h55 ?_
            refine stW_h (n := 7) (g := g54) h55 rfl rfl one_rb fun w59 h59 => ?_
            refine samec_h (g := gb) (o := 0 + 3) h2 h59 ?_
            refine stW_h (n := 21) (g := g45) h59 rfl (beg_len hbl) (Ck.one_agI _) fun w60 h60 => ?_
            exact hJ _ _ ⟨g54, g45, rfl, h60⟩
          · refine stW_h (n := 7) (g := g54) h55 rfl rfl one_rb fun w61 h61 => ?_
            refine samec_h (g := gb) (o := 0 + 3) h2 h61 ?_
            refine lookB_h h61 ?_
            refine toAB ?_
            refine samecT (e := rbV (rowAt l i)) (fun j v => hp h2) (fun j v => hp h61) (Nat.le_of_eq rbV_len.symm) ?_
            refine samec_h (g := gb) (o := 0 + 1) h2 h61 ?_
            refine stW_h (n := 21) (g := g45) h61 rfl (beg_len hbl) (Ck.one_agI _) fun w65 h65 => ?_
            exact hJ _ _ ⟨g54, g45, rfl, h65⟩
  rintro _ w67 ⟨g1, g2, rfl, h⟩
  have hx0 : (ints (x0.1 ++ [x0.2.1, x0.2.2]))[0 + 0 + 0]? = some (.int .i64 (x0.1.getD 0 0)) := by
    have := ints_getD (xs := x0.1 ++ [x0.2.1, x0.2.2]) (i := 0) (by rw [List.length_append]; omega)
    rw [List.getD_eq_getElem?_getD, List.getElem?_append_left (by omega), ← List.getD_eq_getElem?_getD] at this
    exact this
  have hx20 : (ints (x0.1 ++ [x0.2.1, x0.2.2]))[0 + 19 + 1]? = some (.int .i64 x0.2.2) := by
    unfold ints
    rw [List.map_append, List.getElem?_append_right (by simp [hbl2])]
    simp [hbl2]
  have hx19 : (((ints (x0.1 ++ [x0.2.1, x0.2.2])).drop (0 + 19)).take 2).toArray = #[.int .i64 x0.2.1, .int .i64 x0.2.2] := by
    unfold ints
    rw [List.map_append, List.drop_append_of_le_length (by simp [hbl2]), List.drop_of_length_le (by simp [hbl2])]
    rfl
  have hxf : (((ints (x0.1 ++ [x0.2.1, x0.2.2])).drop (0 + 0)).take 19).toArray = agI x0.1 := by
    unfold ints
    rw [List.map_append, List.drop_zero, List.take_append_of_le_length (by simp [hbl2]), List.take_of_length_le (by simp [hbl2])]
  have hxl : (ints (x0.1 ++ [x0.2.1, x0.2.2])).length = 21 := by simp [ints, hbl2]
  refine joinP_i (fun z w' => z = decide ((rowAt l i).fn ≠ x0.1.getD 0 0 ∨ (rowAt l i).inn ≠ x0.2.2) ∧ w' = w67) (fun J hJ => ?_) ?_
  · refine ldI_h (g := g1) (o := 0 + 2) h rfl ?_
    refine ldI_h (g := g2) (o := 0 + 0 + 0) h hx0 ?_
    refine iteB_i (fun hb => hJ _ _ ⟨?_, rfl⟩) fun hb => ?_
    · have : (rowAt l i).fn ≠ x0.1.getD 0 0 := by simpa using hb
      exact (decide_eq_true (.inl this)).symm
    · have hb : (rowAt l i).fn = x0.1.getD 0 0 := by simpa using hb
      refine ldI_h (g := g1) (o := 0 + 1) h rfl ?_
      refine ldI_h (g := g2) (o := 0 + 19 + 1) h hx20 ?_
      refine hJ _ _ ⟨?_, rfl⟩
      rw [Bool.eq_iff_iff]; simp [hb]
  rintro _ w74 ⟨rfl, rfl⟩
  refine iteB_i (fun hb1 => ?_) fun hb1 => ?_
  · rw [if_pos (of_decide_eq_true hb1)] at hk0; exact hk0 _ rfl h.ext
  rw [if_neg (of_decide_eq_false hb1)] at hk0 hk1
  refine ldI_h (g := g1) (o := 0 + 3) h rfl ?_
  refine iteB_i (fun hb2 => ?_) fun hb2 => ?_
  · rw [if_pos (by simpa using hb2)] at hk1; exact hk1 _ _ rfl hb (BTo.refl _ _ _) h.drop.drop
  rw [if_neg (by simpa using hb2)] at hk0 hk1
  refine joinP_i (fun z w' => ∃ g sk, z = some ⟨g, 0, none⟩ ∧ St w0 w' (blk g (runV gb i sk (rn0 l i x0)) :: slc 1 sk (ints (kidsL l i)) :: blk g1 (rbV (rowAt l i)) :: blk g2 (ints (x0.1 ++ [x0.2.1, x0.2.2])) :: BP gb gB gS ps ls q b R)) (fun J hJ0 => ?_) ?_
  · have hJ : ∀ z w', (∃ g sk, z = some ⟨g, 0, none⟩ ∧ St w0 w' (blk g (.pointer (some ⟨gb, 0, none⟩) :: (ints x0.1 ++ [.int .i64 i, .slice sk.a sk.n sk.c, .string (rowAt l i).cl, .int .i64 i, .int .i64 0, .int .i64 0, .int .i64 0, .int .i64 0])) :: slc 1 sk (ints (kidsL l i)) :: blk g1 (rbV (rowAt l i)) :: blk g2 (ints (x0.1 ++ [x0.2.1, x0.2.2])) :: BP gb gB gS ps ls q b R)) → J z w' := by
      rintro z w' ⟨g, sk, hz, hS⟩
      refine hJ0 z w' ⟨g, sk, hz, ?_⟩
      have ec : ByteArray.mk (rowAt l i).cl.data.toList.toArray = (rowAt l i).cl := by rw [Array.toArray_toList]
      unfold runV rn0
      dsimp only
      rw [ec]
      exact hS
    refine drew_h h fun w77 h => ?_
    refine ldA_h (n := 19) (g := g2) (o := 0 + 0) h (by rw [hxl]; decide) ?_
    rw [hxf]
    refine nn_i ?_
    refine ldS_h (g := gb) (o := 0 + 1) h rfl ?_
    refine ldStr_h (g := g1) (o := 0 + 6) h rfl ?_
    refine ⟨?_, ?_⟩
    · refine Kids_s hT h hlen fun sk w83 h2 hn => ?_
      refine samec_h (g := g1) (o := 0 + 6) h h2 (samec_h (g := g2) (o := 0 + 0) h h2 (samec_h (g := g1) (o := 0 + 6) h h2 (samec_h (g := gb) (o := 0 + 1) h h2 (samec_h (g := g2) (o := 0 + 0) h h2 ?_))))
      refine spl_run0 hbl2 ?_
      refine newC_h h2 fun g w87 h2 => ?_
      exact hJ _ _ ⟨g, sk, rfl, h2⟩
    · refine samec_self (samec_self (samec_self ?_))
      refine Kids_s hT h hlen fun sk w83 h2 hn => ?_
      refine samec_h (g := g1) (o := 0 + 6) h h2 (samec_h (g := g2) (o := 0 + 0) h h2 ?_)
      refine spl_run0 hbl2 ?_
      refine newC_h h2 fun g w87 h2 => ?_
      exact hJ _ _ ⟨g, sk, rfl, h2⟩
  rintro _ w95 ⟨gr, sk, rfl, h⟩
  have hrf : (rn0 l i x0).f.length = 19 := hbl2
  refine drew_h h fun w96 h => ?_
  refine nn_i ?_
  refine ldM_h (g := gb) (o := 0 + 4) h rfl ?_
  refine nn_i ?_
  refine ldA_h (n := 2) (g := gr) (o := 0 + 23) h (by rw [run_len hrf]; decide) ?_
  rw [run_last hrf]
  refine ldA_h (n := 2) (g := g2) (o := 0 + 19) h (by rw [hxl]; decide) ?_
  rw [hx19]
  refine spl_V (acc := [.int .i64 0, .int .i64 0, .bool false]) (cs := [.int .i64 x0.2.1, .int .i64 x0.2.2]) [.int .i64 x0.2.1, .int .i64 x0.2.2, .bool false] rfl (by simp) rfl ?_
  refine samec_self (samec_self ?_)
  refine gmPut_h (ek := ekP) (ev := evS) (k := (i, 0)) (y := (x0.2, false)) mapS h fun w103 h => ?_
  generalize hbb : ({ b with sc := upd b.sc (i, 0) (x0.2, false) } : Bk) = bb at hk0 hk1
  have hbs : bb.sc = upd b.sc (i, 0) (x0.2, false) := by rw [← hbb]
  have hbg : bb.beg = b.beg := by rw [← hbb]
  have h : St w0 w103 (FP gr gb gB gS ps ls q i sk (rn0 l i x0) bb (blk g1 (rbV (rowAt l i)) :: blk g2 (ints (x0.1 ++ [x0.2.1, x0.2.2])) :: R)) := by
    unfold FP
    rw [hbs, hbg]
    exact h.perm (by repeat' (first | exact List.Perm.refl _ | refine perm_f 0 rfl ?_ | refine perm_f 1 rfl ?_ | refine perm_f 2 rfl ?_ | refine perm_f 3 rfl ?_ | refine perm_f 4 rfl ?_ | refine perm_f 5 rfl ?_ | refine perm_f 6 rfl ?_ | refine perm_f 7 rfl ?_))
  have hsc : ScI bb.sc := by
    rw [hbs]
    exact hb.sc.upd_of ⟨h0, Int.le_refl _⟩ (hin.imp id fun q => ⟨q, .inl hlt⟩)
  have hBI : BI P Q bb := ⟨hsc, fun j y hy => by
    rw [hbg] at hy
    obtain ⟨a1, a2, a3⟩ := hb.beg j y hy
    exact ⟨a1, a2.imp id fun q => by rw [hbs]; exact isSome_upd q, a3⟩⟩
  have hRI : RI P Q i x0.2 0 (rn0 l i x0) bb [0] := by
    refine ⟨hfi.b, fun _ => hfi, ⟨rfl, false, ?_⟩, rfl, ⟨Int.le_refl _, Int.le_refl _⟩, hkQ⟩
    rw [hbs]; unfold upd; rw [if_pos rfl]
  have hTo : BTo i (kidsL l i) b bb := by rw [← hbb]; exact bto_sc
  have hin2 : ∀ b', BTo i (kidsL l i) bb b' → x0.2 = (-1, 0) ∨ (b'.sc x0.2).isSome = true := fun b' ht => hin.imp id fun q => ht.some _ (by rw [hbs]; exact isSome_upd q)
  generalize hsn : (rowAt l i).steps.toNat = n at hk0 hk1
  have hst : (rowAt l i).steps = n := by omega
  have hn : n ≤ 1048576 := by omega
  refine loopP_of (fun (x : (Bool × Int) × List Nat) w' => ∃ (j : Nat) (sk : Sl) (r : Rn) (b' : Bk), x = ((false, (j : Int)), []) ∧ j ≤ n ∧ St w0 w' (FP gr gb gB gS ps ls q i sk r b' (blk g1 (rbV (rowAt l i)) :: blk g2 (ints (x0.1 ++ [x0.2.1, x0.2.2])) :: R)) ∧ frun P l q i j (rn0 l i x0) bb = some (r, b')) (fun x _ => n - x.1.2.toNat) ⟨0, sk, rn0 l i x0, bb, rfl, by omega, h, rfl⟩ ?_
  rintro _ w106 ⟨j, sk, r, b', rfl, hj, h, hrun⟩ C hC
  obtain ⟨⟨ks, hri⟩, hbi, hto, _, _⟩ := frun_ri hA hN hQ h0 j 0 _ _ _ _ _ (by omega) hRI hBI hki hrun
  rw [Nat.zero_add] at hri
  have hf := hri.fb.len
  refine ldI_h (g := g1) (o := 0 + 5) h rfl ?_
  rw [hst]
  refine iteB_i (fun hb => ?_) fun hb => ?_
  · have hlt : j < n := by have := of_decide_eq_true hb; dsimp only at this; omega
    have hadd := frun_add (P := P) (l := l) (q := q) (row := i) (n := j) (m := n - j) (r := rn0 l i x0) (b := bb)
    rw [show j + (n - j) = n by omega, hrun] at hadd
    obtain ⟨m, hm⟩ : ∃ m, n - j = m + 1 := ⟨n - j - 1, by omega⟩
    rw [hm] at hadd
    dsimp only at hadd
    rw [frun_succ] at hadd
    refine step_s hF hT hA hri hQ0 (by omega) h (fun w' hs h => ?_) fun w' sk' r' b2 hs h => ?_
    · rw [hs] at hadd
      refine iteB_t rfl ?_
      show k false w'
      rw [hadd] at hk0
      exact hk0 _ rfl h.ext
    · refine iteB_f rfl ?_
      have ew : IntKind.wrap .i64 ((j : Int) + 1) = ((j + 1 : Nat) : Int) := by rw [wrap_id ⟨by omega, by omega⟩]; simp
      dsimp only
      rw [ew]
      refine hC _ _ ⟨j + 1, sk', r', b2, rfl, by omega, h, ?_⟩ (by dsimp only; omega)
      rw [frun_add, hrun]
      dsimp only
      rw [frun_succ, hs]; rfl
  · have hjn : j = n := by have := of_decide_eq_false hb; dsimp only at this; omega
    subst hjn
    rw [hrun] at hk0 hk1
    dsimp only at hk0 hk1
    have hsl := h.slen (sz := 1) (s := sk)
    have hskn : sk.n = r.kids.length := by simp [ints] at hsl; omega
    have hclz : (strEqB (ByteArray.mk r.cl.toArray) (ByteArray.mk #[])) = decide (r.cl.length = 0) := by
      rw [strEq_nil, sz_list, Bool.eq_iff_iff]; simp
    refine joinP_i (fun z w' => z = decide (r.kids.length = 0 ∧ r.cl.length = 0 ∧ fends P q (rowAt l i) r b' x0.2 = true) ∧ St w0 w' (BP gb gB gS ps ls q b' R)) (fun J hJ => ?_) ?_
    · have hS : ∀ {w'}, St w0 w' (FP gr gb gB gS ps ls q i sk r b' (blk g1 (rbV (rowAt l i)) :: blk g2 (ints (x0.1 ++ [x0.2.1, x0.2.2])) :: R)) → St w0 w' (BP gb gB gS ps ls q b' R) := fun h => ((h.rm 6 rfl).rm 5 rfl |>.rm 4 rfl |>.rm 0 rfl)
      refine nn_i ?_
      refine ldS_h (g := gr) (o := 0 + 21) h (run_kids hf) ?_
      rw [hskn]
      refine iteB_i (fun hb => ?_) fun hb => ?_
      · have hb : r.kids.length = 0 := by have : ((r.kids.length : Nat) : Int) = 0 := by simpa using hb
                                          omega
        refine nn_i ?_
        refine ldStr_h (g := gr) (o := 0 + 22) h (run_cl hf) ?_
        rw [hclz]
        refine iteB_i (fun hb2 => ?_) fun hb2 => ?_
        · refine ldA_h (n := 2) (g := g2) (o := 0 + 19) h (by rw [hxl]; decide) ?_
          rw [hx19]
          refine ends_s hF hT hA hri hbi (hin2 _ hto) h0 h1 h fun w118 h => ?_
          refine hJ _ _ ⟨?_, hS h⟩
          rw [Bool.eq_iff_iff]; simp [hb, of_decide_eq_true hb2]
        · refine hJ _ _ ⟨?_, hS h⟩
          rw [Bool.eq_iff_iff]; simp; exact fun _ q => absurd (by rw [q]; rfl) (of_decide_eq_false hb2)
      · refine hJ _ _ ⟨?_, hS h⟩
        have hb : ¬ r.kids.length = 0 := by have : ¬ ((r.kids.length : Nat) : Int) = 0 := by simpa using hb
                                            omega
        rw [Bool.eq_iff_iff]; simp; exact fun q => absurd (by rw [q]; rfl) hb
    rintro _ w120 ⟨rfl, h⟩
    show k _ w120
    by_cases hfin : r.kids.length = 0 ∧ r.cl.length = 0 ∧ fends P q (rowAt l i) r b' x0.2 = true
    · rw [decide_eq_true hfin]
      exact hk1 _ b' (by rw [if_pos hfin]) hbi (hTo.trans hto fun _ q => q) h
    · rw [decide_eq_false hfin]
      exact hk0 _ (by rw [if_neg hfin]) h.ext
end
end Go.Proofs.YtgkfbagclkjilaaGreatDoor.Ft
namespace Go.Proofs.YtgkfbagclkjilaaGreatDoor.Ft
open Go Go.Ev Go.Proofs Go.Proofs.YtgkfbagclkjilaaGreatDoor
open Go.Proofs.YtgkfbagclkjilaaGreatDoor.Fr (fTo fOn fPlain fForked fJoined fClosed fChild fRoot fR isB fTo_len fOn_len fPlain_len fForked_len fJoined_len fClosed_len)
open Go.Proofs.YtgkfbagclkjilaaGreatDoor.Ck (opI Walk Accs needsOf isGoes heldL depths stepD handlesOk subBits scopesOk forks)
section
variable {P : List FnR} {l : List Rb} {q : Bool} {row i : Int} {r r' : Rn} {b b' : Bk} {Q : Int → Prop}
structure Kd (r : Rn) (b : Bk) (r' : Rn) (b' : Bk) : Prop where
  keep : ∀ k, (b.beg k).isSome = true → (b'.beg k).isSome = true
  kids : ∀ k ∈ r.kids, k ∈ r'.kids ∨ (b'.beg k).isSome = true
theorem Kd.refl (e : r'.kids = r.kids) (e2 : b'.beg = b.beg) : Kd r b r' b' := ⟨fun k h => by rw [e2]; exact h, fun k h => .inl (by rw [e]; exact h)⟩
theorem Kd.trans {r2 : Rn} {b2 : Bk} (h : Kd r b r' b') (k : Kd r' b' r2 b2) : Kd r b r2 b2 :=
  ⟨fun j q => k.keep j (h.keep j q), fun j q => by rcases h.kids j q with q | q; · exact k.kids j q
                                                   · exact .inr (k.keep j q)⟩
theorem fact_kd {x : List Int} (hs : fact P l q row x r b = some (r', b')) : Kd r b r' b' := by
  unfold fact at hs
  split at hs
  · split at hs
    · cases hs
    · rename_i k ks hk
      cases hs
      refine ⟨fun j hj => isSome_upd hj, fun j hj => ?_⟩
      rw [hk] at hj
      rcases List.mem_cons.1 hj with rfl | hj
      · right; show (upd b.beg _ _ _).isSome = true; unfold upd; rw [if_pos rfl]; rfl
      · exact .inl hj
  split at hs
  · split at hs
    · cases hs
    split at hs
    · cases hs; exact .refl rfl rfl
    · cases hs; exact .refl rfl rfl
  split at hs
  · cases hs; exact .refl rfl rfl
  split at hs
  · split at hs
    · cases hs
    split at hs
    · cases hs
    · cases hs; exact .refl rfl rfl
  split at hs
  · cases hs; exact .refl rfl rfl
  split at hs
  · cases hs; exact .refl rfl rfl
  · cases hs; exact .refl rfl rfl
theorem fstp_kd (hs : fstp P l q row r b = some (r', b')) : Kd r b r' b' := by
  unfold fstp at hs
  split at hs
  · cases hs
  split at hs
  · cases hs; exact .refl rfl rfl
  · exact fact_kd hs
theorem frun_kd : ∀ {n : Nat} {r r' : Rn} {b b' : Bk}, frun P l q row n r b = some (r', b') → Kd r b r' b'
  | 0, r, r', b, b', h => by cases h; exact .refl rfl rfl
  | n + 1, r, r', b, b', h => by
    rw [frun_succ] at h
    split at h
    · cases h
    · rename_i r1 b1 hst
      exact (fstp_kd hst).trans (frun_kd h)
def Known (l : List Rb) (j : Int) (b : Bk) : Prop := ∀ m : Int, 0 ≤ m → m < l.length → (m = 0 ∨ (rowAt l m).par < j) → (b.beg m).isSome = true
theorem row_par (h : TRow l i) (hi : i ≠ 0) (h0 : 0 ≤ i) : 0 ≤ (rowAt l i).par ∧ (rowAt l i).par < i ∧ (rowAt l (rowAt l i).par).kind ≠ 0 := by
  have hp := h.place
  have hst := h.state
  unfold tPlace at hp
  rw [if_neg hi] at hp
  simp only [Bool.and_eq_true, decide_eq_true_eq] at hp
  unfold tState at hst
  simp only [Bool.and_eq_true, Bool.or_eq_true] at hst
  refine ⟨hp.1, hp.2.1, ?_⟩
  rcases hst.2.2 with e | e
  · exact absurd (by simpa using e) hi
  · simpa using e.1
theorem row_span (h : TRow l i) : 0 ≤ (rowAt l i).inn ∧ 0 ≤ (rowAt l i).fn ∧ (rowAt l i).fn < 32 ∧ 0 ≤ (rowAt l i).kind ∧ (rowAt l i).kind ≤ 4 ∧ 0 ≤ (rowAt l i).steps ∧ (rowAt l i).steps ≤ 1048576 := by
  have hp := h.span
  unfold tSpan at hp
  simp only [Bool.and_eq_true, decide_eq_true_eq] at hp
  exact ⟨hp.1, hp.2.2.1, hp.2.2.2.1, hp.2.2.2.2.1, hp.2.2.2.2.2.1, hp.2.2.2.2.2.2.1, hp.2.2.2.2.2.2.2⟩
theorem tr_int (hT : ∀ i : Nat, i < l.length → TRow l i) (h0 : 0 ≤ i) (h1 : i < l.length) : TRow l i := by
  have := hT i.toNat (by omega)
  rwa [Int.toNat_of_nonneg h0] at this
theorem kids_gt (hT : ∀ i : Nat, i < l.length → TRow l i) : ∀ k ∈ kidsL l i, 0 ≤ i → i < k := by
  intro k hk h0
  obtain ⟨h1, h2, h3⟩ := mem_kids.1 hk
  have ht := tr_int hT h1 h2
  by_cases e : k = 0
  · have hp := ht.place
    unfold tPlace at hp
    rw [if_pos e] at hp
    have : (rowAt l k).par = -1 := by simpa using hp
    omega
  · have := row_par ht e h1; omega
theorem frow_kd (h : frow P l q i b = some b') : ∀ k, (b.beg k).isSome = true → (b'.beg k).isSome = true := by
  unfold frow at h
  split at h
  · cases h
  split at h
  · cases h; exact fun _ h => h
  split at h
  · cases h
  · rename_i r b2 hrun
    split at h
    · cases h; exact (frun_kd hrun).keep
    · cases h
theorem frow_known (hT : ∀ i : Nat, i < l.length → TRow l i) (h0 : 0 ≤ i) (hK : Known l i b) (h : frow P l q i b = some b') : Known l (i + 1) b' := by
  intro m hm0 hm1 hm
  have hkeep := frow_kd h m
  by_cases e : m = 0 ∨ (rowAt l m).par < i
  · exact hkeep (hK m hm0 hm1 e)
  have hmp : (rowAt l m).par = i := by omega
  have hm0' : m ≠ 0 := fun e' => e (.inl e')
  have hpk := (row_par (tr_int hT hm0 hm1) hm0' hm0).2.2
  rw [hmp] at hpk
  have hmk : m ∈ kidsL l i := mem_kids.2 ⟨hm0, hm1, hmp⟩
  unfold frow at h
  split at h
  · cases h
  try rw [if_neg hpk] at h
  split at h
  · cases h
  · rename_i r b2 hrun
    split at h
    · rename_i hf
      cases h
      rcases (frun_kd hrun).kids m hmk with hq | hq
      · have : r.kids = [] := List.eq_nil_of_length_eq_zero hf.1
        rw [this] at hq; cases hq
      · exact hq
    · cases h
theorem fi_root (hA : Accs P) (hN : ∀ g ∈ P, InI g.needs) : FI P Q fRoot 0 := by
  obtain ⟨g, hg⟩ : ∃ g, P[0]? = some g := ⟨_, List.getElem?_eq_getElem hA.n0⟩
  have hgm := List.mem_of_getElem? hg
  have hnd : g.needs = 0 := by rw [← Ck.needs_get (P := P) (n := 0) (f := g) (by simpa using hg)]; exact hA.root
  refine ⟨rfl, by decide, g, hg, 0, ?_, fun h hh ht => ?_⟩
  · have := Ck.walk_start (hA.all g hgm) (hN g hgm)
    rw [hnd] at this
    exact this
  · exfalso
    have : ∀ k : Nat, k < 8 → tb 0 k = false := by decide
    rw [this h hh] at ht; cases ht
theorem bi_root (hA : Accs P) (hN : ∀ g ∈ P, InI g.needs) : BI P Q bk0 := by
  refine ⟨⟨fun s x hx => by cases hx⟩, fun i x hx => ?_⟩
  unfold bk0 upd at hx
  dsimp only at hx
  split at hx
  · rename_i e
    cases hx
    exact ⟨fi_root hA hN, .inl rfl, by rw [e]; decide⟩
  · cases hx
theorem known_root (hT : ∀ i : Nat, i < l.length → TRow l i) : Known l 0 bk0 := by
  intro m h0 h1 hm
  have hz : m = 0 := by
    rcases hm with e | e
    · exact e
    · by_cases e0 : m = 0
      · exact e0
      · have := row_par (tr_int hT h0 h1) e0 h0; omega
  subst hz
  rfl
end
end Go.Proofs.YtgkfbagclkjilaaGreatDoor.Ft
namespace Go.Proofs.YtgkfbagclkjilaaGreatDoor.Ft
open Go Go.Ev Go.Proofs Go.Proofs.YtgkfbagclkjilaaGreatDoor
open Go.Proofs.YtgkfbagclkjilaaGreatDoor.Fr (fTo fOn fPlain fForked fJoined fClosed fChild fRoot fR isB fTo_len fOn_len fPlain_len fForked_len fJoined_len fClosed_len)
open Go.Proofs.YtgkfbagclkjilaaGreatDoor.Ck (opI Walk Accs needsOf isGoes heldL depths stepD handlesOk subBits scopesOk forks)
section
variable {w0 w : World} {L R : List HP} {gr gb gB gS : Nat} {ps ls sk : Sl} {q : Bool} {i : Int} {r r' : Rn} {b b' : Bk} {P : List FnR} {l : List Rb} {Q : Int → Prop} {f : HP → List HP} {φ : Int → Option (List Int × (Int × Int))}
theorem newBook_h {t : TypeId} {c : Addr → World → Prop} (h : St w0 w L) (hc : ∀ g w', St w0 w' (blk g (bookV ps ls q gB gS) :: L) → c ⟨g, 0, none⟩ w') :
    newC w (Array.setIfInBounds (Array.setIfInBounds (Array.setIfInBounds (Array.setIfInBounds #[.slice ps.a ps.n ps.c, .slice none 0 0, .bool false, .map none, .map none] 1 (.slice ls.a ls.n ls.c)) 2 (.bool q)) 3 (.map (some gB))) 4 (.map (some gS))) t c :=
  newC_h h hc
theorem spl_book {c : Array Value → Prop} (hc : c #[.slice ps.a ps.n ps.c, .slice none 0 0, .bool false, .map none, .map none]) : spl #[(.slice none 0 0), (.slice none 0 0), (.bool false), (.map none), (.map none)] 0 1 #[.slice ps.a ps.n ps.c] c :=
  spl_V (acc := [.slice none 0 0, .slice none 0 0, .bool false, .map none, .map none]) (cs := [.slice ps.a ps.n ps.c]) [.slice ps.a ps.n ps.c, .slice none 0 0, .bool false, .map none, .map none] rfl (by simp) rfl hc
theorem fgo_zero : fgo P l q 0 i b = (0, 0) := rfl
theorem fgo_succ {n : Nat} : fgo P l q (n + 1) i b = (match frow P l q i b with | none => (i, 25) | some b' => fgo P l q n (i + 1) b') := rfl
theorem row2_s {ga : Nat} {k : Bool → World → Prop} {Y : List HP} (h : St w0 w (blk ga [.pointer (some ⟨gb, 0, none⟩)] :: Y)) (hc : fits_book_fits (some ⟨gb, 0, none⟩) i w k) : fits_all_2 i ⟨ga, 0, none⟩ w k := by
  unfold fits_all_2 fits_all_2_b
  exact ldP_h (g := ga) h rfl hc
theorem fa_0_s {w w12 w25 : World} {J : Addr → World → Prop} {g1 g3 g15 g24 : Nat} {ps ls : Sl} {q : Bool} (hJ : ∀ z w', (∃ ga gb gB gS, z = (⟨ga, 0, none⟩ : Addr) ∧ St w w' [blk ga [.pointer (some ⟨gb, 0, none⟩)], blk gb (bookV ps ls q gB gS), gm ekI evB gB (fun q => if q = 0 then some (fRoot, (-1, 0)) else none), gm ekP evS gS (fun _ => none), blk g3 [.slice ls.a ls.n ls.c], blk g1 [.slice ps.a ps.n ps.c]]) → J z w') (hRl : fRoot.length = 19) (h12 : St w w12 [blk g3 [.slice ls.a ls.n ls.c], blk g1 [.slice ps.a ps.n ps.c]]) (h : St w w25 [gm ekI evB g15 (fun q => if q = 0 then some (fRoot, (-1, 0)) else none), gm ekP evS g24 (fun _ => none), blk g3 [.slice ls.a ls.n ls.c], blk g1 [.slice ps.a ps.n ps.c]]) : fa_0 #[.slice ps.a ps.n ps.c] w25 ⟨ls.a, ls.n, ls.c⟩ q (some g15) (some g24) ⟨g3, 0, none⟩ w12 ⟨g1, 0, none⟩ J := by
  unfold fa_0
  refine ⟨?_, ?_⟩
  · refine spl_book ?_
    refine ⟨?_, ?_⟩
    · refine newBook_h (gB := g15) (gS := g24) h fun g27 w28 h28 => ?_
      refine newC_h h28 fun g29 w30 h30 => ?_
      refine samec_h (g := g3) (o := 0) h12 h30 ?_
      refine samec_h (g := g1) (o := 0) h12 h30 ?_
      refine stC_h (g := g29) h30 rfl (by decide) fun w31 h31 => ?_
      exact hJ _ _ ⟨g29, g27, g15, g24, rfl, h31.perm (perm_f 0 rfl (perm_f 0 rfl (perm_f 0 rfl (perm_f 0 rfl (perm_f 0 rfl (perm_f 0 rfl (.refl _)))))))⟩
    · refine newC_h h fun g32 w33 h33 => ?_
      refine samec_h (g := g3) (o := 0) h12 h33 ?_
      refine samec_h (g := g1) (o := 0) h12 h33 ?_
      refine newBook_h (gB := g15) (gS := g24) h33 fun g34 w35 h35 => ?_
      refine stC_h (g := g32) h35 rfl (by decide) fun w36 h36 => ?_
      exact hJ _ _ ⟨g32, g34, g15, g24, rfl, h36.perm (perm_f 1 rfl (perm_f 0 rfl (perm_f 0 rfl (perm_f 0 rfl (perm_f 0 rfl (perm_f 0 rfl (.refl _)))))))⟩
  · refine newC_h h fun g37 w38 h38 => ?_
    refine samec_h (g := g3) (o := 0) h12 h38 ?_
    refine samec_h (g := g1) (o := 0) h12 h38 ?_
    refine spl_book ?_
    refine newBook_h (gB := g15) (gS := g24) h38 fun g40 w41 h41 => ?_
    refine stC_h (g := g37) h41 rfl (by decide) fun w42 h42 => ?_
    exact hJ _ _ ⟨g37, g40, g15, g24, rfl, h42.perm (perm_f 1 rfl (perm_f 0 rfl (perm_f 0 rfl (perm_f 0 rfl (perm_f 0 rfl (perm_f 0 rfl (.refl _)))))))⟩
theorem fa_1_s {w w12 w52 : World} {J : Addr → World → Prop} {g1 g3 g15 g51 : Nat} {ps ls : Sl} {q : Bool} (hJ : ∀ z w', (∃ ga gb gB gS, z = (⟨ga, 0, none⟩ : Addr) ∧ St w w' [blk ga [.pointer (some ⟨gb, 0, none⟩)], blk gb (bookV ps ls q gB gS), gm ekI evB gB (fun q => if q = 0 then some (fRoot, (-1, 0)) else none), gm ekP evS gS (fun _ => none), blk g3 [.slice ls.a ls.n ls.c], blk g1 [.slice ps.a ps.n ps.c]]) → J z w') (hRl : fRoot.length = 19) (h12 : St w w12 [blk g3 [.slice ls.a ls.n ls.c], blk g1 [.slice ps.a ps.n ps.c]]) (h : St w w52 [gm ekI evB g15 (fun _ => none), gm ekP evS g51 (fun _ => none), blk g3 [.slice ls.a ls.n ls.c], blk g1 [.slice ps.a ps.n ps.c]]) : fa_1 (some g15) (agI (fRoot ++ [-1, 0])) w52 ⟨g3, 0, none⟩ w12 ⟨g1, 0, none⟩ #[.slice ps.a ps.n ps.c] ⟨ls.a, ls.n, ls.c⟩ q (some g51) J := by
  unfold fa_1
  refine ⟨?_, ?_⟩
  · refine gmPut_h (ek := ekI) (ev := evB) (k := 0) (y := (fRoot, (-1, 0))) mapB h fun w53 h53 => ?_
    refine samec_h (g := g3) (o := 0) h12 h53 ?_
    refine samec_h (g := g1) (o := 0) h12 h53 ?_
    exact fa_0_s hJ hRl h12 (h53.perm (perm_f 0 rfl (perm_f 0 rfl (perm_f 0 rfl (perm_f 0 rfl (.refl _))))))
  · refine newC_h h fun g71 w72 h72 => ?_
    refine samec_h (g := g3) (o := 0) h12 h72 ?_
    refine samec_h (g := g1) (o := 0) h12 h72 ?_
    refine gmPut_h (ek := ekI) (ev := evB) (k := 0) (y := (fRoot, (-1, 0))) mapB h72 fun w73 h73 => ?_
    refine samec_h (g := g3) (o := 0) h12 h73 ?_
    refine samec_h (g := g1) (o := 0) h12 h73 ?_
    refine spl_book ?_
    refine newBook_h (gB := g15) (gS := g51) h73 fun g75 w76 h76 => ?_
    refine stC_h (g := g71) h76 rfl (by decide) fun w77 h77 => ?_
    exact hJ _ _ ⟨g71, g75, g15, g51, rfl, h77.perm (perm_f 1 rfl (perm_f 0 rfl (perm_f 0 rfl (perm_f 0 rfl (perm_f 0 rfl (perm_f 0 rfl (.refl _)))))))⟩
theorem fa_2_s {w w12 w79 : World} {J : Addr → World → Prop} {g1 g3 g15 g78 : Nat} {ps ls : Sl} {q : Bool} (hJ : ∀ z w', (∃ ga gb gB gS, z = (⟨ga, 0, none⟩ : Addr) ∧ St w w' [blk ga [.pointer (some ⟨gb, 0, none⟩)], blk gb (bookV ps ls q gB gS), gm ekI evB gB (fun q => if q = 0 then some (fRoot, (-1, 0)) else none), gm ekP evS gS (fun _ => none), blk g3 [.slice ls.a ls.n ls.c], blk g1 [.slice ps.a ps.n ps.c]]) → J z w') (hRl : fRoot.length = 19) (h12 : St w w12 [blk g3 [.slice ls.a ls.n ls.c], blk g1 [.slice ps.a ps.n ps.c]]) (h : St w w79 [blk g78 [.pointer none], gm ekI evB g15 (fun _ => none), blk g3 [.slice ls.a ls.n ls.c], blk g1 [.slice ps.a ps.n ps.c]]) : fa_2 (some g15) (agI (fRoot ++ [-1, 0])) w79 ⟨g3, 0, none⟩ w12 ⟨g1, 0, none⟩ #[.slice ps.a ps.n ps.c] ⟨ls.a, ls.n, ls.c⟩ q ⟨g78, 0, none⟩ J := by
  unfold fa_2
  refine ⟨?_, ?_⟩
  · refine gmPut_h (ek := ekI) (ev := evB) (k := 0) (y := (fRoot, (-1, 0))) mapB h fun w80 h80 => ?_
    refine samec_h (g := g3) (o := 0) h12 h80 ?_
    refine samec_h (g := g1) (o := 0) h12 h80 ?_
    refine mkGm_h ekP evS h80 fun g81 w82 h82 => ?_
    refine samec_h (g := g3) (o := 0) h12 h82 ?_
    refine samec_h (g := g1) (o := 0) h12 h82 ?_
    refine spl_book ?_
    refine newBook_h (gB := g15) (gS := g81) h82 fun g84 w85 h85 => ?_
    refine stC_h (g := g78) h85 rfl (by decide) fun w86 h86 => ?_
    exact hJ _ _ ⟨g78, g84, g15, g81, rfl, h86.perm (perm_f 2 rfl (perm_f 0 rfl (perm_f 1 rfl (perm_f 0 rfl (perm_f 0 rfl (perm_f 0 rfl (.refl _)))))))⟩
  · refine mkGm_h ekP evS h fun g87 w88 h88 => ?_
    refine samec_h (g := g3) (o := 0) h12 h88 ?_
    refine samec_h (g := g1) (o := 0) h12 h88 ?_
    refine gmPut_h (ek := ekI) (ev := evB) (k := 0) (y := (fRoot, (-1, 0))) mapB h88 fun w89 h89 => ?_
    refine samec_h (g := g3) (o := 0) h12 h89 ?_
    refine samec_h (g := g1) (o := 0) h12 h89 ?_
    refine spl_book ?_
    refine newBook_h (gB := g15) (gS := g87) h89 fun g91 w92 h92 => ?_
    refine stC_h (g := g78) h92 rfl (by decide) fun w93 h93 => ?_
    exact hJ _ _ ⟨g78, g91, g15, g87, rfl, h93.perm (perm_f 2 rfl (perm_f 0 rfl (perm_f 1 rfl (perm_f 0 rfl (perm_f 0 rfl (perm_f 0 rfl (.refl _)))))))⟩
theorem fa_3_s {w w12 w20 : World} {J : Addr → World → Prop} {g1 g3 g15 : Nat} {ps ls : Sl} {q : Bool} (hJ : ∀ z w', (∃ ga gb gB gS, z = (⟨ga, 0, none⟩ : Addr) ∧ St w w' [blk ga [.pointer (some ⟨gb, 0, none⟩)], blk gb (bookV ps ls q gB gS), gm ekI evB gB (fun q => if q = 0 then some (fRoot, (-1, 0)) else none), gm ekP evS gS (fun _ => none), blk g3 [.slice ls.a ls.n ls.c], blk g1 [.slice ps.a ps.n ps.c]]) → J z w') (hRl : fRoot.length = 19) (h12 : St w w12 [blk g3 [.slice ls.a ls.n ls.c], blk g1 [.slice ps.a ps.n ps.c]]) (h : St w w20 [gm ekI evB g15 (fun _ => none), blk g3 [.slice ls.a ls.n ls.c], blk g1 [.slice ps.a ps.n ps.c]]) : fa_3 (some g15) (agI (fRoot ++ [-1, 0])) w20 ⟨g3, 0, none⟩ w12 ⟨g1, 0, none⟩ #[.slice ps.a ps.n ps.c] ⟨ls.a, ls.n, ls.c⟩ q J := by
  unfold fa_3
  refine ⟨?_, ?_⟩
  · refine gmPut_h (ek := ekI) (ev := evB) (k := 0) (y := (fRoot, (-1, 0))) mapB h fun w23 h23 => ?_
    refine samec_h (g := g3) (o := 0) h12 h23 ?_
    refine samec_h (g := g1) (o := 0) h12 h23 ?_
    refine ⟨?_, ?_⟩
    · refine mkGm_h ekP evS h23 fun g24 w25 h25 => ?_
      refine samec_h (g := g3) (o := 0) h12 h25 ?_
      refine samec_h (g := g1) (o := 0) h12 h25 ?_
      exact fa_0_s hJ hRl h12 (h25.perm (perm_f 1 rfl (perm_f 0 rfl (perm_f 0 rfl (perm_f 0 rfl (.refl _))))))
    · refine newC_h h23 fun g43 w44 h44 => ?_
      refine samec_h (g := g3) (o := 0) h12 h44 ?_
      refine samec_h (g := g1) (o := 0) h12 h44 ?_
      refine mkGm_h ekP evS h44 fun g45 w46 h46 => ?_
      refine samec_h (g := g3) (o := 0) h12 h46 ?_
      refine samec_h (g := g1) (o := 0) h12 h46 ?_
      refine spl_book ?_
      refine newBook_h (gB := g15) (gS := g45) h46 fun g48 w49 h49 => ?_
      refine stC_h (g := g43) h49 rfl (by decide) fun w50 h50 => ?_
      exact hJ _ _ ⟨g43, g48, g15, g45, rfl, h50.perm (perm_f 2 rfl (perm_f 0 rfl (perm_f 1 rfl (perm_f 0 rfl (perm_f 0 rfl (perm_f 0 rfl (.refl _)))))))⟩
  · refine ⟨?_, ?_⟩
    · refine mkGm_h ekP evS h fun g51 w52 h52 => ?_
      refine samec_h (g := g3) (o := 0) h12 h52 ?_
      refine samec_h (g := g1) (o := 0) h12 h52 ?_
      exact fa_1_s hJ hRl h12 (h52.perm (perm_f 1 rfl (perm_f 0 rfl (perm_f 0 rfl (perm_f 0 rfl (.refl _))))))
    · refine newC_h h fun g78 w79 h79 => ?_
      refine samec_h (g := g3) (o := 0) h12 h79 ?_
      refine samec_h (g := g1) (o := 0) h12 h79 ?_
      exact fa_2_s hJ hRl h12 (h79.perm (perm_f 0 rfl (perm_f 0 rfl (perm_f 0 rfl (perm_f 0 rfl (.refl _))))))
theorem fa_4_s {w w12 w95 : World} {J : Addr → World → Prop} {g1 g3 g15 g94 : Nat} {ps ls : Sl} {q : Bool} (hJ : ∀ z w', (∃ ga gb gB gS, z = (⟨ga, 0, none⟩ : Addr) ∧ St w w' [blk ga [.pointer (some ⟨gb, 0, none⟩)], blk gb (bookV ps ls q gB gS), gm ekI evB gB (fun q => if q = 0 then some (fRoot, (-1, 0)) else none), gm ekP evS gS (fun _ => none), blk g3 [.slice ls.a ls.n ls.c], blk g1 [.slice ps.a ps.n ps.c]]) → J z w') (hRl : fRoot.length = 19) (h12 : St w w12 [blk g3 [.slice ls.a ls.n ls.c], blk g1 [.slice ps.a ps.n ps.c]]) (h : St w w95 [gm ekI evB g15 (fun _ => none), gm ekP evS g94 (fun _ => none), blk g3 [.slice ls.a ls.n ls.c], blk g1 [.slice ps.a ps.n ps.c]]) : fa_4 (agI fRoot) #[.int .i64 (-1), .int .i64 0] ⟨g3, 0, none⟩ w12 w95 ⟨g1, 0, none⟩ (some g15) #[.slice ps.a ps.n ps.c] ⟨ls.a, ls.n, ls.c⟩ q (some g94) J := by
  unfold fa_4
  refine ⟨?_, ?_⟩
  · refine spl_beg hRl ?_
    refine samec_h (g := g3) (o := 0) h12 h ?_
    refine samec_h (g := g1) (o := 0) h12 h ?_
    exact fa_1_s hJ hRl h12 (h.perm (perm_f 0 rfl (perm_f 0 rfl (perm_f 0 rfl (perm_f 0 rfl (.refl _))))))
  · refine newC_h h fun g123 w124 h124 => ?_
    refine samec_h (g := g3) (o := 0) h12 h124 ?_
    refine samec_h (g := g1) (o := 0) h12 h124 ?_
    refine spl_beg hRl ?_
    refine samec_h (g := g3) (o := 0) h12 h124 ?_
    refine samec_h (g := g1) (o := 0) h12 h124 ?_
    refine gmPut_h (ek := ekI) (ev := evB) (k := 0) (y := (fRoot, (-1, 0))) mapB h124 fun w127 h127 => ?_
    refine samec_h (g := g3) (o := 0) h12 h127 ?_
    refine samec_h (g := g1) (o := 0) h12 h127 ?_
    refine spl_book ?_
    refine newBook_h (gB := g15) (gS := g94) h127 fun g129 w130 h130 => ?_
    refine stC_h (g := g123) h130 rfl (by decide) fun w131 h131 => ?_
    exact hJ _ _ ⟨g123, g129, g15, g94, rfl, h131.perm (perm_f 1 rfl (perm_f 0 rfl (perm_f 0 rfl (perm_f 0 rfl (perm_f 0 rfl (perm_f 0 rfl (.refl _)))))))⟩
theorem fa_5_s {w w12 w133 : World} {J : Addr → World → Prop} {g1 g3 g15 g132 : Nat} {ps ls : Sl} {q : Bool} (hJ : ∀ z w', (∃ ga gb gB gS, z = (⟨ga, 0, none⟩ : Addr) ∧ St w w' [blk ga [.pointer (some ⟨gb, 0, none⟩)], blk gb (bookV ps ls q gB gS), gm ekI evB gB (fun q => if q = 0 then some (fRoot, (-1, 0)) else none), gm ekP evS gS (fun _ => none), blk g3 [.slice ls.a ls.n ls.c], blk g1 [.slice ps.a ps.n ps.c]]) → J z w') (hRl : fRoot.length = 19) (h12 : St w w12 [blk g3 [.slice ls.a ls.n ls.c], blk g1 [.slice ps.a ps.n ps.c]]) (h : St w w133 [blk g132 [.pointer none], gm ekI evB g15 (fun _ => none), blk g3 [.slice ls.a ls.n ls.c], blk g1 [.slice ps.a ps.n ps.c]]) : fa_5 (agI fRoot) #[.int .i64 (-1), .int .i64 0] ⟨g3, 0, none⟩ w12 w133 ⟨g1, 0, none⟩ (some g15) #[.slice ps.a ps.n ps.c] ⟨ls.a, ls.n, ls.c⟩ q ⟨g132, 0, none⟩ J := by
  unfold fa_5
  refine ⟨?_, ?_⟩
  · refine spl_beg hRl ?_
    refine samec_h (g := g3) (o := 0) h12 h ?_
    refine samec_h (g := g1) (o := 0) h12 h ?_
    exact fa_2_s hJ hRl h12 (h.perm (perm_f 0 rfl (perm_f 0 rfl (perm_f 0 rfl (perm_f 0 rfl (.refl _))))))
  · refine mkGm_h ekP evS h fun g150 w151 h151 => ?_
    refine samec_h (g := g3) (o := 0) h12 h151 ?_
    refine samec_h (g := g1) (o := 0) h12 h151 ?_
    refine spl_beg hRl ?_
    refine samec_h (g := g3) (o := 0) h12 h151 ?_
    refine samec_h (g := g1) (o := 0) h12 h151 ?_
    refine gmPut_h (ek := ekI) (ev := evB) (k := 0) (y := (fRoot, (-1, 0))) mapB h151 fun w154 h154 => ?_
    refine samec_h (g := g3) (o := 0) h12 h154 ?_
    refine samec_h (g := g1) (o := 0) h12 h154 ?_
    refine spl_book ?_
    refine newBook_h (gB := g15) (gS := g150) h154 fun g156 w157 h157 => ?_
    refine stC_h (g := g132) h157 rfl (by decide) fun w158 h158 => ?_
    exact hJ _ _ ⟨g132, g156, g15, g150, rfl, h158.perm (perm_f 2 rfl (perm_f 0 rfl (perm_f 1 rfl (perm_f 0 rfl (perm_f 0 rfl (perm_f 0 rfl (.refl _)))))))⟩
theorem fa_6_s {w w12 w20 : World} {J : Addr → World → Prop} {g1 g3 g15 : Nat} {ps ls : Sl} {q : Bool} (hJ : ∀ z w', (∃ ga gb gB gS, z = (⟨ga, 0, none⟩ : Addr) ∧ St w w' [blk ga [.pointer (some ⟨gb, 0, none⟩)], blk gb (bookV ps ls q gB gS), gm ekI evB gB (fun q => if q = 0 then some (fRoot, (-1, 0)) else none), gm ekP evS gS (fun _ => none), blk g3 [.slice ls.a ls.n ls.c], blk g1 [.slice ps.a ps.n ps.c]]) → J z w') (hRl : fRoot.length = 19) (h12 : St w w12 [blk g3 [.slice ls.a ls.n ls.c], blk g1 [.slice ps.a ps.n ps.c]]) (h : St w w20 [gm ekI evB g15 (fun _ => none), blk g3 [.slice ls.a ls.n ls.c], blk g1 [.slice ps.a ps.n ps.c]]) : fa_6 (agI fRoot) #[.int .i64 (-1), .int .i64 0] ⟨g3, 0, none⟩ w12 w20 ⟨g1, 0, none⟩ (some g15) #[.slice ps.a ps.n ps.c] ⟨ls.a, ls.n, ls.c⟩ q J := by
  unfold fa_6
  refine ⟨?_, ?_⟩
  · refine spl_beg hRl ?_
    refine samec_h (g := g3) (o := 0) h12 h ?_
    refine samec_h (g := g1) (o := 0) h12 h ?_
    exact fa_3_s hJ hRl h12 (h.perm (perm_f 0 rfl (perm_f 0 rfl (perm_f 0 rfl (.refl _)))))
  · refine ⟨?_, ?_⟩
    · refine mkGm_h ekP evS h fun g94 w95 h95 => ?_
      refine samec_h (g := g3) (o := 0) h12 h95 ?_
      refine samec_h (g := g1) (o := 0) h12 h95 ?_
      exact fa_4_s hJ hRl h12 (h95.perm (perm_f 1 rfl (perm_f 0 rfl (perm_f 0 rfl (perm_f 0 rfl (.refl _))))))
    · refine newC_h h fun g132 w133 h133 => ?_
      refine samec_h (g := g3) (o := 0) h12 h133 ?_
      refine samec_h (g := g1) (o := 0) h12 h133 ?_
      exact fa_5_s hJ hRl h12 (h133.perm (perm_f 0 rfl (perm_f 0 rfl (perm_f 0 rfl (perm_f 0 rfl (.refl _))))))
theorem fa_7_s {w w12 w160 : World} {J : Addr → World → Prop} {g1 g3 g15 g159 : Nat} {ps ls : Sl} {q : Bool} (hJ : ∀ z w', (∃ ga gb gB gS, z = (⟨ga, 0, none⟩ : Addr) ∧ St w w' [blk ga [.pointer (some ⟨gb, 0, none⟩)], blk gb (bookV ps ls q gB gS), gm ekI evB gB (fun q => if q = 0 then some (fRoot, (-1, 0)) else none), gm ekP evS gS (fun _ => none), blk g3 [.slice ls.a ls.n ls.c], blk g1 [.slice ps.a ps.n ps.c]]) → J z w') (hRl : fRoot.length = 19) (h12 : St w w12 [blk g3 [.slice ls.a ls.n ls.c], blk g1 [.slice ps.a ps.n ps.c]]) (h : St w w160 [gm ekI evB g15 (fun _ => none), gm ekP evS g159 (fun _ => none), blk g3 [.slice ls.a ls.n ls.c], blk g1 [.slice ps.a ps.n ps.c]]) : fa_7 fits_world w160 ⟨g3, 0, none⟩ w12 ⟨g1, 0, none⟩ (agI fRoot) (some g15) #[.slice ps.a ps.n ps.c] ⟨ls.a, ls.n, ls.c⟩ q (some g159) J := by
  unfold fa_7
  refine ⟨?_, ?_⟩
  · refine world_s fun w162 he => ?_
    have h162 := ext_of h he
    refine samec_h (g := g3) (o := 0) h12 h162 ?_
    refine samec_h (g := g1) (o := 0) h12 h162 ?_
    exact fa_4_s hJ hRl h12 (h162.perm (perm_f 0 rfl (perm_f 0 rfl (perm_f 0 rfl (perm_f 0 rfl (.refl _))))))
  · refine newC_h h fun g199 w200 h200 => ?_
    refine samec_h (g := g3) (o := 0) h12 h200 ?_
    refine samec_h (g := g1) (o := 0) h12 h200 ?_
    refine world_s fun w202 he => ?_
    have h202 := ext_of h200 he
    refine samec_h (g := g3) (o := 0) h12 h202 ?_
    refine samec_h (g := g1) (o := 0) h12 h202 ?_
    refine spl_beg hRl ?_
    refine samec_h (g := g3) (o := 0) h12 h202 ?_
    refine samec_h (g := g1) (o := 0) h12 h202 ?_
    refine gmPut_h (ek := ekI) (ev := evB) (k := 0) (y := (fRoot, (-1, 0))) mapB h202 fun w205 h205 => ?_
    refine samec_h (g := g3) (o := 0) h12 h205 ?_
    refine samec_h (g := g1) (o := 0) h12 h205 ?_
    refine spl_book ?_
    refine newBook_h (gB := g15) (gS := g159) h205 fun g207 w208 h208 => ?_
    refine stC_h (g := g199) h208 rfl (by decide) fun w209 h209 => ?_
    exact hJ _ _ ⟨g199, g207, g15, g159, rfl, h209.perm (perm_f 1 rfl (perm_f 0 rfl (perm_f 0 rfl (perm_f 0 rfl (perm_f 0 rfl (perm_f 0 rfl (.refl _)))))))⟩
theorem fa_8_s {w w12 w211 : World} {J : Addr → World → Prop} {g1 g3 g15 g210 : Nat} {ps ls : Sl} {q : Bool} (hJ : ∀ z w', (∃ ga gb gB gS, z = (⟨ga, 0, none⟩ : Addr) ∧ St w w' [blk ga [.pointer (some ⟨gb, 0, none⟩)], blk gb (bookV ps ls q gB gS), gm ekI evB gB (fun q => if q = 0 then some (fRoot, (-1, 0)) else none), gm ekP evS gS (fun _ => none), blk g3 [.slice ls.a ls.n ls.c], blk g1 [.slice ps.a ps.n ps.c]]) → J z w') (hRl : fRoot.length = 19) (h12 : St w w12 [blk g3 [.slice ls.a ls.n ls.c], blk g1 [.slice ps.a ps.n ps.c]]) (h : St w w211 [blk g210 [.pointer none], gm ekI evB g15 (fun _ => none), blk g3 [.slice ls.a ls.n ls.c], blk g1 [.slice ps.a ps.n ps.c]]) : fa_8 fits_world w211 ⟨g3, 0, none⟩ w12 ⟨g1, 0, none⟩ (agI fRoot) (some g15) #[.slice ps.a ps.n ps.c] ⟨ls.a, ls.n, ls.c⟩ q ⟨g210, 0, none⟩ J := by
  unfold fa_8
  refine ⟨?_, ?_⟩
  · refine world_s fun w213 he => ?_
    have h213 := ext_of h he
    refine samec_h (g := g3) (o := 0) h12 h213 ?_
    refine samec_h (g := g1) (o := 0) h12 h213 ?_
    exact fa_5_s hJ hRl h12 (h213.perm (perm_f 0 rfl (perm_f 0 rfl (perm_f 0 rfl (perm_f 0 rfl (.refl _))))))
  · refine mkGm_h ekP evS h fun g239 w240 h240 => ?_
    refine samec_h (g := g3) (o := 0) h12 h240 ?_
    refine samec_h (g := g1) (o := 0) h12 h240 ?_
    refine world_s fun w242 he => ?_
    have h242 := ext_of h240 he
    refine samec_h (g := g3) (o := 0) h12 h242 ?_
    refine samec_h (g := g1) (o := 0) h12 h242 ?_
    refine spl_beg hRl ?_
    refine samec_h (g := g3) (o := 0) h12 h242 ?_
    refine samec_h (g := g1) (o := 0) h12 h242 ?_
    refine gmPut_h (ek := ekI) (ev := evB) (k := 0) (y := (fRoot, (-1, 0))) mapB h242 fun w245 h245 => ?_
    refine samec_h (g := g3) (o := 0) h12 h245 ?_
    refine samec_h (g := g1) (o := 0) h12 h245 ?_
    refine spl_book ?_
    refine newBook_h (gB := g15) (gS := g239) h245 fun g247 w248 h248 => ?_
    refine stC_h (g := g210) h248 rfl (by decide) fun w249 h249 => ?_
    exact hJ _ _ ⟨g210, g247, g15, g239, rfl, h249.perm (perm_f 2 rfl (perm_f 0 rfl (perm_f 1 rfl (perm_f 0 rfl (perm_f 0 rfl (perm_f 0 rfl (.refl _)))))))⟩
theorem fa_9_s {w w12 w18 : World} {J : Addr → World → Prop} {g1 g3 g15 : Nat} {ps ls : Sl} {q : Bool} (hJ : ∀ z w', (∃ ga gb gB gS, z = (⟨ga, 0, none⟩ : Addr) ∧ St w w' [blk ga [.pointer (some ⟨gb, 0, none⟩)], blk gb (bookV ps ls q gB gS), gm ekI evB gB (fun q => if q = 0 then some (fRoot, (-1, 0)) else none), gm ekP evS gS (fun _ => none), blk g3 [.slice ls.a ls.n ls.c], blk g1 [.slice ps.a ps.n ps.c]]) → J z w') (hRl : fRoot.length = 19) (h12 : St w w12 [blk g3 [.slice ls.a ls.n ls.c], blk g1 [.slice ps.a ps.n ps.c]]) (h : St w w18 [gm ekI evB g15 (fun _ => none), blk g3 [.slice ls.a ls.n ls.c], blk g1 [.slice ps.a ps.n ps.c]]) : fa_9 fits_world w18 ⟨g3, 0, none⟩ w12 ⟨g1, 0, none⟩ (agI fRoot) (some g15) #[.slice ps.a ps.n ps.c] ⟨ls.a, ls.n, ls.c⟩ q J := by
  unfold fa_9
  refine ⟨?_, ?_⟩
  · refine world_s fun w20 he => ?_
    have h20 := ext_of h he
    refine samec_h (g := g3) (o := 0) h12 h20 ?_
    refine samec_h (g := g1) (o := 0) h12 h20 ?_
    exact fa_6_s hJ hRl h12 (h20.perm (perm_f 0 rfl (perm_f 0 rfl (perm_f 0 rfl (.refl _)))))
  · refine ⟨?_, ?_⟩
    · refine mkGm_h ekP evS h fun g159 w160 h160 => ?_
      refine samec_h (g := g3) (o := 0) h12 h160 ?_
      refine samec_h (g := g1) (o := 0) h12 h160 ?_
      exact fa_7_s hJ hRl h12 (h160.perm (perm_f 1 rfl (perm_f 0 rfl (perm_f 0 rfl (perm_f 0 rfl (.refl _))))))
    · refine newC_h h fun g210 w211 h211 => ?_
      refine samec_h (g := g3) (o := 0) h12 h211 ?_
      refine samec_h (g := g1) (o := 0) h12 h211 ?_
      exact fa_8_s hJ hRl h12 (h211.perm (perm_f 0 rfl (perm_f 0 rfl (perm_f 0 rfl (perm_f 0 rfl (.refl _))))))
theorem fa_10_s {w w12 w251 : World} {J : Addr → World → Prop} {g1 g3 g15 g250 : Nat} {ps ls : Sl} {q : Bool} (hJ : ∀ z w', (∃ ga gb gB gS, z = (⟨ga, 0, none⟩ : Addr) ∧ St w w' [blk ga [.pointer (some ⟨gb, 0, none⟩)], blk gb (bookV ps ls q gB gS), gm ekI evB gB (fun q => if q = 0 then some (fRoot, (-1, 0)) else none), gm ekP evS gS (fun _ => none), blk g3 [.slice ls.a ls.n ls.c], blk g1 [.slice ps.a ps.n ps.c]]) → J z w') (hRl : fRoot.length = 19) (h12 : St w w12 [blk g3 [.slice ls.a ls.n ls.c], blk g1 [.slice ps.a ps.n ps.c]]) (h : St w w251 [gm ekI evB g15 (fun _ => none), gm ekP evS g250 (fun _ => none), blk g3 [.slice ls.a ls.n ls.c], blk g1 [.slice ps.a ps.n ps.c]]) : fa_10 frame_Root w251 ⟨g3, 0, none⟩ w12 ⟨g1, 0, none⟩ fits_world (some g15) #[.slice ps.a ps.n ps.c] ⟨ls.a, ls.n, ls.c⟩ q (some g250) J := by
  unfold fa_10
  refine ⟨?_, ?_⟩
  · refine Fr.root_s fun w253 he => ?_
    have h253 := ext_of h he
    refine samec_h (g := g3) (o := 0) h12 h253 ?_
    refine samec_h (g := g1) (o := 0) h12 h253 ?_
    exact fa_7_s hJ hRl h12 (h253.perm (perm_f 0 rfl (perm_f 0 rfl (perm_f 0 rfl (perm_f 0 rfl (.refl _))))))
  · refine newC_h h fun g303 w304 h304 => ?_
    refine samec_h (g := g3) (o := 0) h12 h304 ?_
    refine samec_h (g := g1) (o := 0) h12 h304 ?_
    refine Fr.root_s fun w306 he => ?_
    have h306 := ext_of h304 he
    refine samec_h (g := g3) (o := 0) h12 h306 ?_
    refine samec_h (g := g1) (o := 0) h12 h306 ?_
    refine world_s fun w308 he => ?_
    have h308 := ext_of h306 he
    refine samec_h (g := g3) (o := 0) h12 h308 ?_
    refine samec_h (g := g1) (o := 0) h12 h308 ?_
    refine spl_beg hRl ?_
    refine samec_h (g := g3) (o := 0) h12 h308 ?_
    refine samec_h (g := g1) (o := 0) h12 h308 ?_
    refine gmPut_h (ek := ekI) (ev := evB) (k := 0) (y := (fRoot, (-1, 0))) mapB h308 fun w311 h311 => ?_
    refine samec_h (g := g3) (o := 0) h12 h311 ?_
    refine samec_h (g := g1) (o := 0) h12 h311 ?_
    refine spl_book ?_
    refine newBook_h (gB := g15) (gS := g250) h311 fun g313 w314 h314 => ?_
    refine stC_h (g := g303) h314 rfl (by decide) fun w315 h315 => ?_
    exact hJ _ _ ⟨g303, g313, g15, g250, rfl, h315.perm (perm_f 1 rfl (perm_f 0 rfl (perm_f 0 rfl (perm_f 0 rfl (perm_f 0 rfl (perm_f 0 rfl (.refl _)))))))⟩
theorem fa_11_s {w w12 w317 : World} {J : Addr → World → Prop} {g1 g3 g15 g316 : Nat} {ps ls : Sl} {q : Bool} (hJ : ∀ z w', (∃ ga gb gB gS, z = (⟨ga, 0, none⟩ : Addr) ∧ St w w' [blk ga [.pointer (some ⟨gb, 0, none⟩)], blk gb (bookV ps ls q gB gS), gm ekI evB gB (fun q => if q = 0 then some (fRoot, (-1, 0)) else none), gm ekP evS gS (fun _ => none), blk g3 [.slice ls.a ls.n ls.c], blk g1 [.slice ps.a ps.n ps.c]]) → J z w') (hRl : fRoot.length = 19) (h12 : St w w12 [blk g3 [.slice ls.a ls.n ls.c], blk g1 [.slice ps.a ps.n ps.c]]) (h : St w w317 [blk g316 [.pointer none], gm ekI evB g15 (fun _ => none), blk g3 [.slice ls.a ls.n ls.c], blk g1 [.slice ps.a ps.n ps.c]]) : fa_11 frame_Root w317 ⟨g3, 0, none⟩ w12 ⟨g1, 0, none⟩ fits_world (some g15) #[.slice ps.a ps.n ps.c] ⟨ls.a, ls.n, ls.c⟩ q ⟨g316, 0, none⟩ J := by
  unfold fa_11
  refine ⟨?_, ?_⟩
  · refine Fr.root_s fun w319 he => ?_
    have h319 := ext_of h he
    refine samec_h (g := g3) (o := 0) h12 h319 ?_
    refine samec_h (g := g1) (o := 0) h12 h319 ?_
    exact fa_8_s hJ hRl h12 (h319.perm (perm_f 0 rfl (perm_f 0 rfl (perm_f 0 rfl (perm_f 0 rfl (.refl _))))))
  · refine mkGm_h ekP evS h fun g358 w359 h359 => ?_
    refine samec_h (g := g3) (o := 0) h12 h359 ?_
    refine samec_h (g := g1) (o := 0) h12 h359 ?_
    refine Fr.root_s fun w361 he => ?_
    have h361 := ext_of h359 he
    refine samec_h (g := g3) (o := 0) h12 h361 ?_
    refine samec_h (g := g1) (o := 0) h12 h361 ?_
    refine world_s fun w363 he => ?_
    have h363 := ext_of h361 he
    refine samec_h (g := g3) (o := 0) h12 h363 ?_
    refine samec_h (g := g1) (o := 0) h12 h363 ?_
    refine spl_beg hRl ?_
    refine samec_h (g := g3) (o := 0) h12 h363 ?_
    refine samec_h (g := g1) (o := 0) h12 h363 ?_
    refine gmPut_h (ek := ekI) (ev := evB) (k := 0) (y := (fRoot, (-1, 0))) mapB h363 fun w366 h366 => ?_
    refine samec_h (g := g3) (o := 0) h12 h366 ?_
    refine samec_h (g := g1) (o := 0) h12 h366 ?_
    refine spl_book ?_
    refine newBook_h (gB := g15) (gS := g358) h366 fun g368 w369 h369 => ?_
    refine stC_h (g := g316) h369 rfl (by decide) fun w370 h370 => ?_
    exact hJ _ _ ⟨g316, g368, g15, g358, rfl, h370.perm (perm_f 2 rfl (perm_f 0 rfl (perm_f 1 rfl (perm_f 0 rfl (perm_f 0 rfl (perm_f 0 rfl (.refl _)))))))⟩
theorem fa_12_s {w w12 w824 : World} {J : Addr → World → Prop} {g1 g3 g823 : Nat} {ps ls : Sl} {q : Bool} (hJ : ∀ z w', (∃ ga gb gB gS, z = (⟨ga, 0, none⟩ : Addr) ∧ St w w' [blk ga [.pointer (some ⟨gb, 0, none⟩)], blk gb (bookV ps ls q gB gS), gm ekI evB gB (fun q => if q = 0 then some (fRoot, (-1, 0)) else none), gm ekP evS gS (fun _ => none), blk g3 [.slice ls.a ls.n ls.c], blk g1 [.slice ps.a ps.n ps.c]]) → J z w') (hRl : fRoot.length = 19) (h12 : St w w12 [blk g3 [.slice ls.a ls.n ls.c], blk g1 [.slice ps.a ps.n ps.c]]) (h : St w w824 [gm ekP evS g823 (fun _ => none), blk g3 [.slice ls.a ls.n ls.c], blk g1 [.slice ps.a ps.n ps.c]]) : fa_12 w824 ⟨g3, 0, none⟩ w12 ⟨g1, 0, none⟩ (agI (fRoot ++ [-1, 0])) #[.slice ps.a ps.n ps.c] ⟨ls.a, ls.n, ls.c⟩ q (some g823) J := by
  unfold fa_12
  refine ⟨?_, ?_⟩
  · refine mkGm_h ekI evB h fun g825 w826 h826 => ?_
    refine samec_h (g := g3) (o := 0) h12 h826 ?_
    refine samec_h (g := g1) (o := 0) h12 h826 ?_
    exact fa_1_s hJ hRl h12 (h826.perm (perm_f 0 rfl (perm_f 0 rfl (perm_f 0 rfl (perm_f 0 rfl (.refl _))))))
  · refine newC_h h fun g852 w853 h853 => ?_
    refine samec_h (g := g3) (o := 0) h12 h853 ?_
    refine samec_h (g := g1) (o := 0) h12 h853 ?_
    refine mkGm_h ekI evB h853 fun g854 w855 h855 => ?_
    refine samec_h (g := g3) (o := 0) h12 h855 ?_
    refine samec_h (g := g1) (o := 0) h12 h855 ?_
    refine gmPut_h (ek := ekI) (ev := evB) (k := 0) (y := (fRoot, (-1, 0))) mapB h855 fun w856 h856 => ?_
    refine samec_h (g := g3) (o := 0) h12 h856 ?_
    refine samec_h (g := g1) (o := 0) h12 h856 ?_
    refine spl_book ?_
    refine newBook_h (gB := g854) (gS := g823) h856 fun g858 w859 h859 => ?_
    refine stC_h (g := g852) h859 rfl (by decide) fun w860 h860 => ?_
    exact hJ _ _ ⟨g852, g858, g854, g823, rfl, h860.perm (perm_f 2 rfl (perm_f 0 rfl (perm_f 0 rfl (perm_f 0 rfl (perm_f 0 rfl (perm_f 0 rfl (.refl _)))))))⟩
theorem fa_13_s {w w12 w862 : World} {J : Addr → World → Prop} {g1 g3 g861 : Nat} {ps ls : Sl} {q : Bool} (hJ : ∀ z w', (∃ ga gb gB gS, z = (⟨ga, 0, none⟩ : Addr) ∧ St w w' [blk ga [.pointer (some ⟨gb, 0, none⟩)], blk gb (bookV ps ls q gB gS), gm ekI evB gB (fun q => if q = 0 then some (fRoot, (-1, 0)) else none), gm ekP evS gS (fun _ => none), blk g3 [.slice ls.a ls.n ls.c], blk g1 [.slice ps.a ps.n ps.c]]) → J z w') (hRl : fRoot.length = 19) (h12 : St w w12 [blk g3 [.slice ls.a ls.n ls.c], blk g1 [.slice ps.a ps.n ps.c]]) (h : St w w862 [blk g861 [.pointer none], blk g3 [.slice ls.a ls.n ls.c], blk g1 [.slice ps.a ps.n ps.c]]) : fa_13 w862 ⟨g3, 0, none⟩ w12 ⟨g1, 0, none⟩ (agI (fRoot ++ [-1, 0])) #[.slice ps.a ps.n ps.c] ⟨ls.a, ls.n, ls.c⟩ q ⟨g861, 0, none⟩ J := by
  unfold fa_13
  refine ⟨?_, ?_⟩
  · refine mkGm_h ekI evB h fun g863 w864 h864 => ?_
    refine samec_h (g := g3) (o := 0) h12 h864 ?_
    refine samec_h (g := g1) (o := 0) h12 h864 ?_
    exact fa_2_s hJ hRl h12 (h864.perm (perm_f 1 rfl (perm_f 0 rfl (perm_f 0 rfl (perm_f 0 rfl (.refl _))))))
  · refine mkGm_h ekP evS h fun g879 w880 h880 => ?_
    refine samec_h (g := g3) (o := 0) h12 h880 ?_
    refine samec_h (g := g1) (o := 0) h12 h880 ?_
    refine mkGm_h ekI evB h880 fun g881 w882 h882 => ?_
    refine samec_h (g := g3) (o := 0) h12 h882 ?_
    refine samec_h (g := g1) (o := 0) h12 h882 ?_
    refine gmPut_h (ek := ekI) (ev := evB) (k := 0) (y := (fRoot, (-1, 0))) mapB h882 fun w883 h883 => ?_
    refine samec_h (g := g3) (o := 0) h12 h883 ?_
    refine samec_h (g := g1) (o := 0) h12 h883 ?_
    refine spl_book ?_
    refine newBook_h (gB := g881) (gS := g879) h883 fun g885 w886 h886 => ?_
    refine stC_h (g := g861) h886 rfl (by decide) fun w887 h887 => ?_
    exact hJ _ _ ⟨g861, g885, g881, g879, rfl, h887.perm (perm_f 3 rfl (perm_f 0 rfl (perm_f 0 rfl (perm_f 0 rfl (perm_f 0 rfl (perm_f 0 rfl (.refl _)))))))⟩
theorem fa_14_s {w w12 w967 : World} {J : Addr → World → Prop} {g1 g3 g888 g966 : Nat} {ps ls : Sl} {q : Bool} (hJ : ∀ z w', (∃ ga gb gB gS, z = (⟨ga, 0, none⟩ : Addr) ∧ St w w' [blk ga [.pointer (some ⟨gb, 0, none⟩)], blk gb (bookV ps ls q gB gS), gm ekI evB gB (fun q => if q = 0 then some (fRoot, (-1, 0)) else none), gm ekP evS gS (fun _ => none), blk g3 [.slice ls.a ls.n ls.c], blk g1 [.slice ps.a ps.n ps.c]]) → J z w') (hRl : fRoot.length = 19) (h12 : St w w12 [blk g3 [.slice ls.a ls.n ls.c], blk g1 [.slice ps.a ps.n ps.c]]) (h : St w w967 [blk g966 [.pointer none], gm ekP evS g888 (fun _ => none), blk g3 [.slice ls.a ls.n ls.c], blk g1 [.slice ps.a ps.n ps.c]]) : fa_14 w967 ⟨g3, 0, none⟩ w12 ⟨g1, 0, none⟩ (agI fRoot) #[.int .i64 (-1), .int .i64 0] #[.slice ps.a ps.n ps.c] ⟨ls.a, ls.n, ls.c⟩ q (some g888) ⟨g966, 0, none⟩ J := by
  unfold fa_14
  refine ⟨?_, ?_⟩
  · refine mkGm_h ekI evB h fun g968 w969 h969 => ?_
    refine samec_h (g := g3) (o := 0) h12 h969 ?_
    refine samec_h (g := g1) (o := 0) h12 h969 ?_
    refine spl_beg hRl ?_
    refine samec_h (g := g3) (o := 0) h12 h969 ?_
    refine samec_h (g := g1) (o := 0) h12 h969 ?_
    refine gmPut_h (ek := ekI) (ev := evB) (k := 0) (y := (fRoot, (-1, 0))) mapB h969 fun w972 h972 => ?_
    refine samec_h (g := g3) (o := 0) h12 h972 ?_
    refine samec_h (g := g1) (o := 0) h12 h972 ?_
    refine spl_book ?_
    refine newBook_h (gB := g968) (gS := g888) h972 fun g974 w975 h975 => ?_
    refine stC_h (g := g966) h975 rfl (by decide) fun w976 h976 => ?_
    exact hJ _ _ ⟨g966, g974, g968, g888, rfl, h976.perm (perm_f 2 rfl (perm_f 0 rfl (perm_f 0 rfl (perm_f 0 rfl (perm_f 0 rfl (perm_f 0 rfl (.refl _)))))))⟩
  · refine spl_beg hRl ?_
    refine samec_h (g := g3) (o := 0) h12 h ?_
    refine samec_h (g := g1) (o := 0) h12 h ?_
    refine mkGm_h ekI evB h fun g979 w980 h980 => ?_
    refine samec_h (g := g3) (o := 0) h12 h980 ?_
    refine samec_h (g := g1) (o := 0) h12 h980 ?_
    refine gmPut_h (ek := ekI) (ev := evB) (k := 0) (y := (fRoot, (-1, 0))) mapB h980 fun w981 h981 => ?_
    refine samec_h (g := g3) (o := 0) h12 h981 ?_
    refine samec_h (g := g1) (o := 0) h12 h981 ?_
    refine spl_book ?_
    refine newBook_h (gB := g979) (gS := g888) h981 fun g983 w984 h984 => ?_
    refine stC_h (g := g966) h984 rfl (by decide) fun w985 h985 => ?_
    exact hJ _ _ ⟨g966, g983, g979, g888, rfl, h985.perm (perm_f 2 rfl (perm_f 0 rfl (perm_f 0 rfl (perm_f 0 rfl (perm_f 0 rfl (perm_f 0 rfl (.refl _)))))))⟩
theorem fa_15_s {w w12 w889 : World} {J : Addr → World → Prop} {g1 g3 g888 : Nat} {ps ls : Sl} {q : Bool} (hJ : ∀ z w', (∃ ga gb gB gS, z = (⟨ga, 0, none⟩ : Addr) ∧ St w w' [blk ga [.pointer (some ⟨gb, 0, none⟩)], blk gb (bookV ps ls q gB gS), gm ekI evB gB (fun q => if q = 0 then some (fRoot, (-1, 0)) else none), gm ekP evS gS (fun _ => none), blk g3 [.slice ls.a ls.n ls.c], blk g1 [.slice ps.a ps.n ps.c]]) → J z w') (hRl : fRoot.length = 19) (h12 : St w w12 [blk g3 [.slice ls.a ls.n ls.c], blk g1 [.slice ps.a ps.n ps.c]]) (h : St w w889 [gm ekP evS g888 (fun _ => none), blk g3 [.slice ls.a ls.n ls.c], blk g1 [.slice ps.a ps.n ps.c]]) : fa_15 w889 ⟨g3, 0, none⟩ w12 ⟨g1, 0, none⟩ (agI fRoot) #[.int .i64 (-1), .int .i64 0] #[.slice ps.a ps.n ps.c] ⟨ls.a, ls.n, ls.c⟩ q (some g888) J := by
  unfold fa_15
  refine ⟨?_, ?_⟩
  · refine mkGm_h ekI evB h fun g890 w891 h891 => ?_
    refine samec_h (g := g3) (o := 0) h12 h891 ?_
    refine samec_h (g := g1) (o := 0) h12 h891 ?_
    exact fa_4_s hJ hRl h12 (h891.perm (perm_f 0 rfl (perm_f 0 rfl (perm_f 0 rfl (perm_f 0 rfl (.refl _))))))
  · refine ⟨?_, ?_⟩
    · refine spl_beg hRl ?_
      refine samec_h (g := g3) (o := 0) h12 h ?_
      refine samec_h (g := g1) (o := 0) h12 h ?_
      exact fa_12_s hJ hRl h12 (h.perm (perm_f 0 rfl (perm_f 0 rfl (perm_f 0 rfl (.refl _)))))
    · refine newC_h h fun g966 w967 h967 => ?_
      refine samec_h (g := g3) (o := 0) h12 h967 ?_
      refine samec_h (g := g1) (o := 0) h12 h967 ?_
      exact fa_14_s hJ hRl h12 (h967.perm (perm_f 0 rfl (perm_f 0 rfl (perm_f 0 rfl (perm_f 0 rfl (.refl _))))))
theorem fa_16_s {w w12 w987 : World} {J : Addr → World → Prop} {g1 g3 g986 : Nat} {ps ls : Sl} {q : Bool} (hJ : ∀ z w', (∃ ga gb gB gS, z = (⟨ga, 0, none⟩ : Addr) ∧ St w w' [blk ga [.pointer (some ⟨gb, 0, none⟩)], blk gb (bookV ps ls q gB gS), gm ekI evB gB (fun q => if q = 0 then some (fRoot, (-1, 0)) else none), gm ekP evS gS (fun _ => none), blk g3 [.slice ls.a ls.n ls.c], blk g1 [.slice ps.a ps.n ps.c]]) → J z w') (hRl : fRoot.length = 19) (h12 : St w w12 [blk g3 [.slice ls.a ls.n ls.c], blk g1 [.slice ps.a ps.n ps.c]]) (h : St w w987 [blk g986 [.pointer none], blk g3 [.slice ls.a ls.n ls.c], blk g1 [.slice ps.a ps.n ps.c]]) : fa_16 w987 ⟨g3, 0, none⟩ w12 ⟨g1, 0, none⟩ (agI fRoot) #[.int .i64 (-1), .int .i64 0] #[.slice ps.a ps.n ps.c] ⟨ls.a, ls.n, ls.c⟩ q ⟨g986, 0, none⟩ J := by
  unfold fa_16
  refine ⟨?_, ?_⟩
  · refine mkGm_h ekI evB h fun g988 w989 h989 => ?_
    refine samec_h (g := g3) (o := 0) h12 h989 ?_
    refine samec_h (g := g1) (o := 0) h12 h989 ?_
    exact fa_5_s hJ hRl h12 (h989.perm (perm_f 1 rfl (perm_f 0 rfl (perm_f 0 rfl (perm_f 0 rfl (.refl _))))))
  · refine ⟨?_, ?_⟩
    · refine spl_beg hRl ?_
      refine samec_h (g := g3) (o := 0) h12 h ?_
      refine samec_h (g := g1) (o := 0) h12 h ?_
      exact fa_13_s hJ hRl h12 (h.perm (perm_f 0 rfl (perm_f 0 rfl (perm_f 0 rfl (.refl _)))))
    · refine mkGm_h ekP evS h fun g1042 w1043 h1043 => ?_
      refine samec_h (g := g3) (o := 0) h12 h1043 ?_
      refine samec_h (g := g1) (o := 0) h12 h1043 ?_
      exact fa_14_s hJ hRl h12 (h1043.perm (perm_f 1 rfl (perm_f 0 rfl (perm_f 0 rfl (perm_f 0 rfl (.refl _))))))
theorem fa_17_s {w w12 w1214 : World} {J : Addr → World → Prop} {g1 g3 g1062 g1213 : Nat} {ps ls : Sl} {q : Bool} (hJ : ∀ z w', (∃ ga gb gB gS, z = (⟨ga, 0, none⟩ : Addr) ∧ St w w' [blk ga [.pointer (some ⟨gb, 0, none⟩)], blk gb (bookV ps ls q gB gS), gm ekI evB gB (fun q => if q = 0 then some (fRoot, (-1, 0)) else none), gm ekP evS gS (fun _ => none), blk g3 [.slice ls.a ls.n ls.c], blk g1 [.slice ps.a ps.n ps.c]]) → J z w') (hRl : fRoot.length = 19) (h12 : St w w12 [blk g3 [.slice ls.a ls.n ls.c], blk g1 [.slice ps.a ps.n ps.c]]) (h : St w w1214 [blk g1213 [.pointer none], gm ekP evS g1062 (fun _ => none), blk g3 [.slice ls.a ls.n ls.c], blk g1 [.slice ps.a ps.n ps.c]]) : fa_17 w1214 ⟨g3, 0, none⟩ w12 ⟨g1, 0, none⟩ fits_world (agI fRoot) #[.slice ps.a ps.n ps.c] ⟨ls.a, ls.n, ls.c⟩ q (some g1062) ⟨g1213, 0, none⟩ J := by
  unfold fa_17
  refine ⟨?_, ?_⟩
  · refine mkGm_h ekI evB h fun g1215 w1216 h1216 => ?_
    refine samec_h (g := g3) (o := 0) h12 h1216 ?_
    refine samec_h (g := g1) (o := 0) h12 h1216 ?_
    refine world_s fun w1218 he => ?_
    have h1218 := ext_of h1216 he
    refine samec_h (g := g3) (o := 0) h12 h1218 ?_
    refine samec_h (g := g1) (o := 0) h12 h1218 ?_
    refine spl_beg hRl ?_
    refine samec_h (g := g3) (o := 0) h12 h1218 ?_
    refine samec_h (g := g1) (o := 0) h12 h1218 ?_
    refine gmPut_h (ek := ekI) (ev := evB) (k := 0) (y := (fRoot, (-1, 0))) mapB h1218 fun w1221 h1221 => ?_
    refine samec_h (g := g3) (o := 0) h12 h1221 ?_
    refine samec_h (g := g1) (o := 0) h12 h1221 ?_
    refine spl_book ?_
    refine newBook_h (gB := g1215) (gS := g1062) h1221 fun g1223 w1224 h1224 => ?_
    refine stC_h (g := g1213) h1224 rfl (by decide) fun w1225 h1225 => ?_
    exact hJ _ _ ⟨g1213, g1223, g1215, g1062, rfl, h1225.perm (perm_f 2 rfl (perm_f 0 rfl (perm_f 0 rfl (perm_f 0 rfl (perm_f 0 rfl (perm_f 0 rfl (.refl _)))))))⟩
  · refine world_s fun w1227 he => ?_
    have h1227 := ext_of h he
    refine samec_h (g := g3) (o := 0) h12 h1227 ?_
    refine samec_h (g := g1) (o := 0) h12 h1227 ?_
    exact fa_14_s hJ hRl h12 (h1227.perm (perm_f 0 rfl (perm_f 0 rfl (perm_f 0 rfl (perm_f 0 rfl (.refl _))))))
theorem fa_18_s {w w12 w1063 : World} {J : Addr → World → Prop} {g1 g3 g1062 : Nat} {ps ls : Sl} {q : Bool} (hJ : ∀ z w', (∃ ga gb gB gS, z = (⟨ga, 0, none⟩ : Addr) ∧ St w w' [blk ga [.pointer (some ⟨gb, 0, none⟩)], blk gb (bookV ps ls q gB gS), gm ekI evB gB (fun q => if q = 0 then some (fRoot, (-1, 0)) else none), gm ekP evS gS (fun _ => none), blk g3 [.slice ls.a ls.n ls.c], blk g1 [.slice ps.a ps.n ps.c]]) → J z w') (hRl : fRoot.length = 19) (h12 : St w w12 [blk g3 [.slice ls.a ls.n ls.c], blk g1 [.slice ps.a ps.n ps.c]]) (h : St w w1063 [gm ekP evS g1062 (fun _ => none), blk g3 [.slice ls.a ls.n ls.c], blk g1 [.slice ps.a ps.n ps.c]]) : fa_18 w1063 ⟨g3, 0, none⟩ w12 ⟨g1, 0, none⟩ fits_world (agI fRoot) #[.slice ps.a ps.n ps.c] ⟨ls.a, ls.n, ls.c⟩ q (some g1062) J := by
  unfold fa_18
  refine ⟨?_, ?_⟩
  · refine mkGm_h ekI evB h fun g1064 w1065 h1065 => ?_
    refine samec_h (g := g3) (o := 0) h12 h1065 ?_
    refine samec_h (g := g1) (o := 0) h12 h1065 ?_
    exact fa_7_s hJ hRl h12 (h1065.perm (perm_f 0 rfl (perm_f 0 rfl (perm_f 0 rfl (perm_f 0 rfl (.refl _))))))
  · refine ⟨?_, ?_⟩
    · refine world_s fun w1116 he => ?_
      have h1116 := ext_of h he
      refine samec_h (g := g3) (o := 0) h12 h1116 ?_
      refine samec_h (g := g1) (o := 0) h12 h1116 ?_
      exact fa_15_s hJ hRl h12 (h1116.perm (perm_f 0 rfl (perm_f 0 rfl (perm_f 0 rfl (.refl _)))))
    · refine newC_h h fun g1213 w1214 h1214 => ?_
      refine samec_h (g := g3) (o := 0) h12 h1214 ?_
      refine samec_h (g := g1) (o := 0) h12 h1214 ?_
      exact fa_17_s hJ hRl h12 (h1214.perm (perm_f 0 rfl (perm_f 0 rfl (perm_f 0 rfl (perm_f 0 rfl (.refl _))))))
theorem fa_19_s {w w12 w1247 : World} {J : Addr → World → Prop} {g1 g3 g1246 : Nat} {ps ls : Sl} {q : Bool} (hJ : ∀ z w', (∃ ga gb gB gS, z = (⟨ga, 0, none⟩ : Addr) ∧ St w w' [blk ga [.pointer (some ⟨gb, 0, none⟩)], blk gb (bookV ps ls q gB gS), gm ekI evB gB (fun q => if q = 0 then some (fRoot, (-1, 0)) else none), gm ekP evS gS (fun _ => none), blk g3 [.slice ls.a ls.n ls.c], blk g1 [.slice ps.a ps.n ps.c]]) → J z w') (hRl : fRoot.length = 19) (h12 : St w w12 [blk g3 [.slice ls.a ls.n ls.c], blk g1 [.slice ps.a ps.n ps.c]]) (h : St w w1247 [blk g1246 [.pointer none], blk g3 [.slice ls.a ls.n ls.c], blk g1 [.slice ps.a ps.n ps.c]]) : fa_19 w1247 ⟨g3, 0, none⟩ w12 ⟨g1, 0, none⟩ fits_world (agI fRoot) #[.slice ps.a ps.n ps.c] ⟨ls.a, ls.n, ls.c⟩ q ⟨g1246, 0, none⟩ J := by
  unfold fa_19
  refine ⟨?_, ?_⟩
  · refine mkGm_h ekI evB h fun g1248 w1249 h1249 => ?_
    refine samec_h (g := g3) (o := 0) h12 h1249 ?_
    refine samec_h (g := g1) (o := 0) h12 h1249 ?_
    exact fa_8_s hJ hRl h12 (h1249.perm (perm_f 1 rfl (perm_f 0 rfl (perm_f 0 rfl (perm_f 0 rfl (.refl _))))))
  · refine ⟨?_, ?_⟩
    · refine world_s fun w1289 he => ?_
      have h1289 := ext_of h he
      refine samec_h (g := g3) (o := 0) h12 h1289 ?_
      refine samec_h (g := g1) (o := 0) h12 h1289 ?_
      exact fa_16_s hJ hRl h12 (h1289.perm (perm_f 0 rfl (perm_f 0 rfl (perm_f 0 rfl (.refl _)))))
    · refine mkGm_h ekP evS h fun g1364 w1365 h1365 => ?_
      refine samec_h (g := g3) (o := 0) h12 h1365 ?_
      refine samec_h (g := g1) (o := 0) h12 h1365 ?_
      exact fa_17_s hJ hRl h12 (h1365.perm (perm_f 1 rfl (perm_f 0 rfl (perm_f 0 rfl (perm_f 0 rfl (.refl _))))))
theorem fa_20_s {w w12 w1650 : World} {J : Addr → World → Prop} {g1 g3 g1397 g1649 : Nat} {ps ls : Sl} {q : Bool} (hJ : ∀ z w', (∃ ga gb gB gS, z = (⟨ga, 0, none⟩ : Addr) ∧ St w w' [blk ga [.pointer (some ⟨gb, 0, none⟩)], blk gb (bookV ps ls q gB gS), gm ekI evB gB (fun q => if q = 0 then some (fRoot, (-1, 0)) else none), gm ekP evS gS (fun _ => none), blk g3 [.slice ls.a ls.n ls.c], blk g1 [.slice ps.a ps.n ps.c]]) → J z w') (hRl : fRoot.length = 19) (h12 : St w w12 [blk g3 [.slice ls.a ls.n ls.c], blk g1 [.slice ps.a ps.n ps.c]]) (h : St w w1650 [blk g1649 [.pointer none], gm ekP evS g1397 (fun _ => none), blk g3 [.slice ls.a ls.n ls.c], blk g1 [.slice ps.a ps.n ps.c]]) : fa_20 w1650 ⟨g3, 0, none⟩ w12 ⟨g1, 0, none⟩ frame_Root fits_world #[.slice ps.a ps.n ps.c] ⟨ls.a, ls.n, ls.c⟩ q (some g1397) ⟨g1649, 0, none⟩ J := by
  unfold fa_20
  refine ⟨?_, ?_⟩
  · refine mkGm_h ekI evB h fun g1651 w1652 h1652 => ?_
    refine samec_h (g := g3) (o := 0) h12 h1652 ?_
    refine samec_h (g := g1) (o := 0) h12 h1652 ?_
    refine Fr.root_s fun w1654 he => ?_
    have h1654 := ext_of h1652 he
    refine samec_h (g := g3) (o := 0) h12 h1654 ?_
    refine samec_h (g := g1) (o := 0) h12 h1654 ?_
    refine world_s fun w1656 he => ?_
    have h1656 := ext_of h1654 he
    refine samec_h (g := g3) (o := 0) h12 h1656 ?_
    refine samec_h (g := g1) (o := 0) h12 h1656 ?_
    refine spl_beg hRl ?_
    refine samec_h (g := g3) (o := 0) h12 h1656 ?_
    refine samec_h (g := g1) (o := 0) h12 h1656 ?_
    refine gmPut_h (ek := ekI) (ev := evB) (k := 0) (y := (fRoot, (-1, 0))) mapB h1656 fun w1659 h1659 => ?_
    refine samec_h (g := g3) (o := 0) h12 h1659 ?_
    refine samec_h (g := g1) (o := 0) h12 h1659 ?_
    refine spl_book ?_
    refine newBook_h (gB := g1651) (gS := g1397) h1659 fun g1661 w1662 h1662 => ?_
    refine stC_h (g := g1649) h1662 rfl (by decide) fun w1663 h1663 => ?_
    exact hJ _ _ ⟨g1649, g1661, g1651, g1397, rfl, h1663.perm (perm_f 2 rfl (perm_f 0 rfl (perm_f 0 rfl (perm_f 0 rfl (perm_f 0 rfl (perm_f 0 rfl (.refl _)))))))⟩
  · refine Fr.root_s fun w1665 he => ?_
    have h1665 := ext_of h he
    refine samec_h (g := g3) (o := 0) h12 h1665 ?_
    refine samec_h (g := g1) (o := 0) h12 h1665 ?_
    exact fa_17_s hJ hRl h12 (h1665.perm (perm_f 0 rfl (perm_f 0 rfl (perm_f 0 rfl (perm_f 0 rfl (.refl _))))))
theorem fits_all_s {k : Int × Int → World → Prop} (hF : Funcs5 w ps P) (hT : Tbl w ls l) (hN : ∀ g ∈ P, InI g.needs) (hlen : l.length ≤ 1000000) (hcl : ∀ r ∈ l, r.cl.size < 4611686018427387904)
    (hk : ∀ w', Ext w w' → k (fitsF P l q) w') : fits_all #[.slice ps.a ps.n ps.c] ⟨ls.a, ls.n, ls.c⟩ q w k := by
  unfold fits_all fits_all_b
  refine newC_h (.nil w) fun g1 w2 h => ?_
  refine newC_h h fun g3 w4 h => ?_
  refine ldW_h (n := 1) (g := g1) h rfl ?_
  refine Ck.accepts_s (hF.ext h.ext) fun w7 h7 => ?_
  have h := ext_of h h7.ext
  rw [Ck.progF_zero]
  unfold fitsF at hk
  refine iteB_i (fun hb => ?_) fun hb => ?_
  · rw [if_pos (by simpa using hb)] at hk; exact hk _ h.ext
  have hz : (Ck.progF P).2.2 = 0 := by simpa using hb
  rw [if_neg (by simpa using hz)] at hk
  have hA := Ck.accs_iff.1 hz
  refine ldS_h (g := g3) h rfl ?_
  refine Check_s (hT.ext h.ext) hcl fun w10 he => ?_
  have h := ext_of h he
  refine iteB_i (fun hb => ?_) fun hb => ?_
  · have hb : ¬ tcheck l = 0 := by simpa using hb
    rw [if_pos hb] at hk; exact hk _ h.ext
  have hz : tcheck l = 0 := by simpa using hb
  rw [if_neg (by simpa using hz)] at hk
  obtain ⟨hl0, hTR⟩ := tcheck_row hz
  refine joinP_i (fun z w' => ∃ ga gb gB gS, z = ⟨ga, 0, none⟩ ∧ St w w' (blk ga [.pointer (some ⟨gb, 0, none⟩)] :: BP gb gB gS ps ls q bk0 [blk g3 [.slice ls.a ls.n ls.c], blk g1 [.slice ps.a ps.n ps.c]])) (fun J hJ0 => ?_) ?_
  · have hJ : ∀ z w', (∃ ga gb gB gS, z = ⟨ga, 0, none⟩ ∧ St w w' [blk ga [.pointer (some ⟨gb, 0, none⟩)], blk gb (bookV ps ls q gB gS), gm ekI evB gB (fun q => if q = 0 then some (fRoot, (-1, 0)) else none), gm ekP evS gS (fun _ => none), blk g3 [.slice ls.a ls.n ls.c], blk g1 [.slice ps.a ps.n ps.c]]) → J z w' := hJ0
    have hRl : fRoot.length = 19 := rfl
    refine drew_h h fun w12 h12 => ?_
    refine ldW_h (n := 1) (g := g1) h12 rfl ?_
    refine ldS_h (g := g3) h12 rfl ?_
    refine ⟨?_, ?_⟩
    · refine mkGm_h ekI evB h12 fun g15 w16 h16 => ?_
      refine samec_h (g := g3) (o := 0) h12 h16 ?_
      refine samec_h (g := g1) (o := 0) h12 h16 ?_
      refine ⟨?_, ?_⟩
      · refine Fr.root_s fun w18 he => ?_
        have h18 := ext_of h16 he
        refine samec_h (g := g3) (o := 0) h12 h18 ?_
        refine samec_h (g := g1) (o := 0) h12 h18 ?_
        exact fa_9_s hJ hRl h12 (h18.perm (perm_f 0 rfl (perm_f 0 rfl (perm_f 0 rfl (.refl _)))))
      · refine ⟨?_, ?_⟩
        · refine mkGm_h ekP evS h16 fun g250 w251 h251 => ?_
          refine samec_h (g := g3) (o := 0) h12 h251 ?_
          refine samec_h (g := g1) (o := 0) h12 h251 ?_
          exact fa_10_s hJ hRl h12 (h251.perm (perm_f 1 rfl (perm_f 0 rfl (perm_f 0 rfl (perm_f 0 rfl (.refl _))))))
        · refine newC_h h16 fun g316 w317 h317 => ?_
          refine samec_h (g := g3) (o := 0) h12 h317 ?_
          refine samec_h (g := g1) (o := 0) h12 h317 ?_
          exact fa_11_s hJ hRl h12 (h317.perm (perm_f 0 rfl (perm_f 0 rfl (perm_f 0 rfl (perm_f 0 rfl (.refl _))))))
    · refine ⟨?_, ?_⟩
      · refine Fr.root_s fun w372 he => ?_
        have h372 := ext_of h12 he
        refine samec_h (g := g3) (o := 0) h12 h372 ?_
        refine samec_h (g := g1) (o := 0) h12 h372 ?_
        refine ⟨?_, ?_⟩
        · refine mkGm_h ekI evB h372 fun g373 w374 h374 => ?_
          refine samec_h (g := g3) (o := 0) h12 h374 ?_
          refine samec_h (g := g1) (o := 0) h12 h374 ?_
          exact fa_9_s hJ hRl h12 (h374.perm (perm_f 0 rfl (perm_f 0 rfl (perm_f 0 rfl (.refl _)))))
        · refine ⟨?_, ?_⟩
          · refine world_s fun w607 he => ?_
            have h607 := ext_of h372 he
            refine samec_h (g := g3) (o := 0) h12 h607 ?_
            refine samec_h (g := g1) (o := 0) h12 h607 ?_
            refine ⟨?_, ?_⟩
            · refine mkGm_h ekI evB h607 fun g608 w609 h609 => ?_
              refine samec_h (g := g3) (o := 0) h12 h609 ?_
              refine samec_h (g := g1) (o := 0) h12 h609 ?_
              exact fa_6_s hJ hRl h12 (h609.perm (perm_f 0 rfl (perm_f 0 rfl (perm_f 0 rfl (.refl _)))))
            · refine ⟨?_, ?_⟩
              · refine spl_beg hRl ?_
                refine samec_h (g := g3) (o := 0) h12 h607 ?_
                refine samec_h (g := g1) (o := 0) h12 h607 ?_
                refine ⟨?_, ?_⟩
                · refine mkGm_h ekI evB h607 fun g750 w751 h751 => ?_
                  refine samec_h (g := g3) (o := 0) h12 h751 ?_
                  refine samec_h (g := g1) (o := 0) h12 h751 ?_
                  exact fa_3_s hJ hRl h12 (h751.perm (perm_f 0 rfl (perm_f 0 rfl (perm_f 0 rfl (.refl _)))))
                · refine ⟨?_, ?_⟩
                  · refine mkGm_h ekP evS h607 fun g823 w824 h824 => ?_
                    refine samec_h (g := g3) (o := 0) h12 h824 ?_
                    refine samec_h (g := g1) (o := 0) h12 h824 ?_
                    exact fa_12_s hJ hRl h12 (h824.perm (perm_f 0 rfl (perm_f 0 rfl (perm_f 0 rfl (.refl _)))))
                  · refine newC_h h607 fun g861 w862 h862 => ?_
                    refine samec_h (g := g3) (o := 0) h12 h862 ?_
                    refine samec_h (g := g1) (o := 0) h12 h862 ?_
                    exact fa_13_s hJ hRl h12 (h862.perm (perm_f 0 rfl (perm_f 0 rfl (perm_f 0 rfl (.refl _)))))
              · refine ⟨?_, ?_⟩
                · refine mkGm_h ekP evS h607 fun g888 w889 h889 => ?_
                  refine samec_h (g := g3) (o := 0) h12 h889 ?_
                  refine samec_h (g := g1) (o := 0) h12 h889 ?_
                  exact fa_15_s hJ hRl h12 (h889.perm (perm_f 0 rfl (perm_f 0 rfl (perm_f 0 rfl (.refl _)))))
                · refine newC_h h607 fun g986 w987 h987 => ?_
                  refine samec_h (g := g3) (o := 0) h12 h987 ?_
                  refine samec_h (g := g1) (o := 0) h12 h987 ?_
                  exact fa_16_s hJ hRl h12 (h987.perm (perm_f 0 rfl (perm_f 0 rfl (perm_f 0 rfl (.refl _)))))
          · refine ⟨?_, ?_⟩
            · refine mkGm_h ekP evS h372 fun g1062 w1063 h1063 => ?_
              refine samec_h (g := g3) (o := 0) h12 h1063 ?_
              refine samec_h (g := g1) (o := 0) h12 h1063 ?_
              exact fa_18_s hJ hRl h12 (h1063.perm (perm_f 0 rfl (perm_f 0 rfl (perm_f 0 rfl (.refl _)))))
            · refine newC_h h372 fun g1246 w1247 h1247 => ?_
              refine samec_h (g := g3) (o := 0) h12 h1247 ?_
              refine samec_h (g := g1) (o := 0) h12 h1247 ?_
              exact fa_19_s hJ hRl h12 (h1247.perm (perm_f 0 rfl (perm_f 0 rfl (perm_f 0 rfl (.refl _)))))
      · refine ⟨?_, ?_⟩
        · refine mkGm_h ekP evS h12 fun g1397 w1398 h1398 => ?_
          refine samec_h (g := g3) (o := 0) h12 h1398 ?_
          refine samec_h (g := g1) (o := 0) h12 h1398 ?_
          refine ⟨?_, ?_⟩
          · refine mkGm_h ekI evB h1398 fun g1399 w1400 h1400 => ?_
            refine samec_h (g := g3) (o := 0) h12 h1400 ?_
            refine samec_h (g := g1) (o := 0) h12 h1400 ?_
            exact fa_10_s hJ hRl h12 (h1400.perm (perm_f 0 rfl (perm_f 0 rfl (perm_f 0 rfl (perm_f 0 rfl (.refl _))))))
          · refine ⟨?_, ?_⟩
            · refine Fr.root_s fun w1466 he => ?_
              have h1466 := ext_of h1398 he
              refine samec_h (g := g3) (o := 0) h12 h1466 ?_
              refine samec_h (g := g1) (o := 0) h12 h1466 ?_
              exact fa_18_s hJ hRl h12 (h1466.perm (perm_f 0 rfl (perm_f 0 rfl (perm_f 0 rfl (.refl _)))))
            · refine newC_h h1398 fun g1649 w1650 h1650 => ?_
              refine samec_h (g := g3) (o := 0) h12 h1650 ?_
              refine samec_h (g := g1) (o := 0) h12 h1650 ?_
              exact fa_20_s hJ hRl h12 (h1650.perm (perm_f 0 rfl (perm_f 0 rfl (perm_f 0 rfl (perm_f 0 rfl (.refl _))))))
        · refine newC_h h12 fun g1697 w1698 h1698 => ?_
          refine samec_h (g := g3) (o := 0) h12 h1698 ?_
          refine samec_h (g := g1) (o := 0) h12 h1698 ?_
          refine ⟨?_, ?_⟩
          · refine mkGm_h ekI evB h1698 fun g1699 w1700 h1700 => ?_
            refine samec_h (g := g3) (o := 0) h12 h1700 ?_
            refine samec_h (g := g1) (o := 0) h12 h1700 ?_
            exact fa_11_s hJ hRl h12 (h1700.perm (perm_f 1 rfl (perm_f 0 rfl (perm_f 0 rfl (perm_f 0 rfl (.refl _))))))
          · refine ⟨?_, ?_⟩
            · refine Fr.root_s fun w1755 he => ?_
              have h1755 := ext_of h1698 he
              refine samec_h (g := g3) (o := 0) h12 h1755 ?_
              refine samec_h (g := g1) (o := 0) h12 h1755 ?_
              exact fa_19_s hJ hRl h12 (h1755.perm (perm_f 0 rfl (perm_f 0 rfl (perm_f 0 rfl (.refl _)))))
            · refine mkGm_h ekP evS h1698 fun g1905 w1906 h1906 => ?_
              refine samec_h (g := g3) (o := 0) h12 h1906 ?_
              refine samec_h (g := g1) (o := 0) h12 h1906 ?_
              exact fa_20_s hJ hRl h12 (h1906.perm (perm_f 1 rfl (perm_f 0 rfl (perm_f 0 rfl (perm_f 0 rfl (.refl _))))))
  rintro _ w1954 ⟨ga, gb, gB, gS, rfl, h⟩
  unfold fits_all_1 fits_all_1_b
  refine ldS_h (g := g3) h rfl ?_
  have hLn := hT.len
  refine loopP_of (fun (i : Int) w' => ∃ (j : Nat) (b : Bk), i = j ∧ j ≤ l.length ∧ St w w' (blk ga [.pointer (some ⟨gb, 0, none⟩)] :: BP gb gB gS ps ls q b [blk g3 [.slice ls.a ls.n ls.c], blk g1 [.slice ps.a ps.n ps.c]]) ∧ BI P (fun j => 0 ≤ j ∧ j < l.length) b ∧ Known l j b ∧ fgo P l q l.length 0 bk0 = fgo P l q (l.length - j) j b) (fun i _ => l.length - i.toNat) ⟨0, bk0, rfl, Nat.zero_le _, h, bi_root hA hN, known_root hTR, rfl⟩ ?_
  rintro _ w4' ⟨j, b, rfl, hj, h, hbi, hkn, hgo⟩ C hC
  dsimp only
  rw [hLn]
  refine iteB_i (fun hb => ?_) fun hb => ?_
  · have hlt : j < l.length := by have := of_decide_eq_true hb; omega
    obtain ⟨n, hn⟩ : ∃ n, l.length - j = n + 1 := ⟨l.length - j - 1, by omega⟩
    rw [hn] at hgo
    rw [fgo_succ] at hgo
    have hTj := hTR j hlt
    have hsp := row_span hTj
    have hbj : (b.beg j).isSome = true := by
      refine hkn j (by omega) (by omega) ?_
      by_cases e : (j : Int) = 0
      · exact .inl e
      · exact .inr (row_par hTj e (by omega)).2.1
    obtain ⟨x0, hat⟩ := Option.isSome_iff_exists.1 hbj
    refine callF_i (d := d_fits_all_2) (fun _ _ _ => rfl) ?_
    show fits_all_2 (j : Int) ⟨ga, 0, none⟩ w4' fun r w => _
    refine row2_s h ?_
    have h' : St w w4' (BP gb gB gS ps ls q b [blk ga [.pointer (some ⟨gb, 0, none⟩)], blk g3 [.slice ls.a ls.n ls.c], blk g1 [.slice ps.a ps.n ps.c]]) := h.perm (by repeat' (first | exact List.Perm.refl _ | refine perm_f 0 rfl ?_ | refine perm_f 1 rfl ?_ | refine perm_f 2 rfl ?_ | refine perm_f 3 rfl ?_ | refine perm_f 4 rfl ?_ | refine perm_f 5 rfl ?_ | refine perm_f 6 rfl ?_ | refine perm_f 7 rfl ?_))
    refine fits_s (Q := fun j => 0 ≤ j ∧ j < l.length) hF hT hA hN hlen (fun _ h => h) (fun j hj => (row_span (tr_int hTR hj.1 hj.2)).2.2.2.2.1) hbi (by omega) (by omega) hsp.2.2.2.2.2.1 hsp.2.2.2.2.2.2 (fun k hk => ⟨(mem_kids.1 hk).1, (mem_kids.1 hk).2.1⟩) (fun k hk => kids_gt hTR k hk (by omega)) hat h' (fun w' hs he => ?_) fun w' b' hs hbi' hto h => ?_
    · rw [hs] at hgo
      refine toB_i ?_
      refine iteB_t rfl ?_
      show k ((j : Int), 25) w'
      rw [hgo] at hk
      exact hk _ he
    · rw [hs] at hgo
      refine toB_i ?_
      refine iteB_f rfl ?_
      have ew : IntKind.wrap .i64 ((j : Int) + 1) = ((j + 1 : Nat) : Int) := by rw [wrap_id ⟨by omega, by omega⟩]; simp
      rw [ew]
      refine hC _ _ ⟨j + 1, b', rfl, by omega, h.perm (by repeat' (first | exact List.Perm.refl _ | refine perm_f 0 rfl ?_ | refine perm_f 1 rfl ?_ | refine perm_f 2 rfl ?_ | refine perm_f 3 rfl ?_ | refine perm_f 4 rfl ?_ | refine perm_f 5 rfl ?_ | refine perm_f 6 rfl ?_ | refine perm_f 7 rfl ?_)), hbi', frow_known hTR (by omega) hkn hs, ?_⟩ (by omega)
      rw [hgo, show l.length - (j + 1) = n by omega]
      rfl
  · have hge : l.length - j = 0 := by have := of_decide_eq_false hb; omega
    rw [hge] at hgo
    rw [fgo_zero] at hgo
    show k (0, 0) w4'
    rw [hgo] at hk
    exact hk _ h.ext
theorem Fits_s {k : Int × Int → World → Prop} (hF : Funcs5 w ps P) (hT : Tbl w ls l) (hN : ∀ g ∈ P, InI g.needs) (hlen : l.length ≤ 1000000) (hcl : ∀ r ∈ l, r.cl.size < 4611686018427387904)
    (hk : ∀ w', Ext w w' → k (fitsF P l false) w') : fits_Fits #[.slice ps.a ps.n ps.c] ⟨ls.a, ls.n, ls.c⟩ w k := by
  unfold fits_Fits fits_Fits_b
  refine newC_h (.nil w) fun g1 w2 h => ?_
  refine ldW_h (n := 1) (g := g1) h rfl ?_
  exact fits_all_s (hF.ext h.ext) (hT.ext h.ext) hN hlen hcl fun w' he => hk _ (h.ext.trans he)
theorem Quiet_s {k : Int × Int → World → Prop} (hF : Funcs5 w ps P) (hT : Tbl w ls l) (hN : ∀ g ∈ P, InI g.needs) (hlen : l.length ≤ 1000000) (hcl : ∀ r ∈ l, r.cl.size < 4611686018427387904)
    (hk : ∀ w', Ext w w' → k (fitsF P l true) w') : fits_Quiet #[.slice ps.a ps.n ps.c] ⟨ls.a, ls.n, ls.c⟩ w k := by
  unfold fits_Quiet fits_Quiet_b
  refine newC_h (.nil w) fun g1 w2 h => ?_
  refine ldW_h (n := 1) (g := g1) h rfl ?_
  exact fits_all_s (hF.ext h.ext) (hT.ext h.ext) hN hlen hcl fun w' he => hk _ (h.ext.trans he)
end
end Go.Proofs.YtgkfbagclkjilaaGreatDoor.Ft
namespace Go.Ev
open Go Go.RowKit Go.ChangeShapes Go.WideShapes
theorem law_liftedL {H : Type} {enc : TypeId × Value → H} {C : Checked} {os : Os} {K : FuncId} {fn : Func} {s : ChangeSpec} {tb : TypeId} {X : World → Array Value → Prop}
    (hX : ∀ (w w' : World) (args : Array Value), w.heap = w'.heap → X w args → X w' args)
    (own : ownKnob C.prog.godebug = none) (started : os.Started) (noInit : C.prog.inits.idxOf? K = none) (hfn : C.prog.funcs[K]? = some fn)
    (witness : ∃ (w : World) (tape : Tape) (i : Input), w.os = os ∧ (w.forCall tape i).Shaped C.prog ∧ i.vars = [] ∧ Input.okWide C.prog (w.forCall tape i) .any w.heap.size K i ∧
      ((s.pre enc C.prog fn [] false (w.forCall tape i).memory i.args ∧ X (w.forCall tape i).memory i.args) ∧ sizedMet enc C.prog fn (OpenSpec.ofChange s) false (w.forCall tape i).memory i.args) ∧ ({} : Assume).holds C.prog (lone (Frame.enter C.prog K i.args .normal) [] (w.forCall tape i)))
    (hvars : s.vars = []) (hl : laidOutB C.prog = true) (hrows : fn.params.toList.all (fun t => C.prog.readableRec t && decide (t < C.prog.types.size)) = true)
    (hres : fn.resultTypes = #[tb]) (htb : C.prog.underlying tb = some .bool)
    (hs : ∀ ds : List (DataW H), ds.length = fn.params.toList.length → s.fn H ds = { results := [.lit (.bool true)], args := ds })
    (walk : ∀ (W : World) (args : Array Value), Args C.prog W fn.params.toList args.toList →
      Calls C.prog K args W fun e W' => e = .returned (.bool true) ∧ Below W.heap.size W W') :
    ReturnsInHanded {} C os K .any (fun w args => (s.pre enc C.prog fn [] false w args ∧ X w args) ∧ sizedMet enc C.prog fn (OpenSpec.ofChange s) false w args) (s.post enc C.prog fn false true false false) := by
  refine returnsInHanded_of_change_and hX own started noInit hfn witness ?_
  intro W base args ds gs before hval hW _ hsz _ _
  have hW' := hW
  obtain ⟨p, q, hA, hV, rfl, hfz, hnd⟩ := hW
  rw [hvars] at hV
  obtain ⟨rfl, rfl⟩ := trodVars_none hV
  have hlen := trodAll_lens hA
  have hvt : s.plain.varTypes C.prog = [] := by simp [DataSpec.varTypes, ChangeSpec.plain, hvars]
  rw [hvt, List.append_nil, List.append_nil] at hsz
  have hargs := args_of (fun j t v ht hv => hval j t v (by simpa using ht) (by simpa using hv)) hA (fun n hn => by simpa using List.all_eq_true.1 hsz n hn)
  refine (walk W args hargs).mono fun e W' ⟨he, bel⟩ => ?_
  subst he
  refine ⟨_, rfl, ds, [], p ++ [], [], p, [], hW', ?_, ?_, ?_, bel.frame _, fun h => by cases h⟩
  · rw [List.append_nil, hs ds hlen, hres]
    exact trodAll_mk1 (shut_bool htb _)
  · rw [List.append_nil, hs ds hlen]
    exact trodAll_below hl bel hrows hA fun x hx => hW'.lt x (by simp [hx])
  · rw [List.append_nil, hs ds hlen, hvars]
    exact rfl
theorem Rdd.str {P : Program} {w : World} {t : TypeId} {cs : List Value} (ht : P.underlying t = some .string) (h : Rdd P w t cs) : ∃ s : ByteArray, cs = [.string s] ∧ s.size ≤ 9223372036854775807 := by
  obtain ⟨H, enc, spare, held, fuel, d, ps, h, _⟩ := h
  obtain ⟨s, h1, _, h2⟩ := DataW.trod_string ht h
  exact ⟨s, h1, by unfold maxLen at h2; exact h2⟩
end Go.Ev
namespace Go.Proofs.YtgkfbagclkjilaaGreatDoor.Ft
open Go Go.Ev Go.Proofs Go.Proofs.YtgkfbagclkjilaaGreatDoor
open Go.Proofs.YtgkfbagclkjilaaGreatDoor.Fr (fTo fOn fPlain fForked fJoined fClosed fChild fRoot fR isB fTo_len fOn_len fPlain_len fForked_len fJoined_len fClosed_len)
open Go.Proofs.YtgkfbagclkjilaaGreatDoor.Ck (opI Walk Accs needsOf isGoes heldL depths stepD handlesOk subBits scopesOk forks)
def rbI (r : Rb) : Prop := InI r.par ∧ InI r.inn ∧ InI r.fn ∧ InI r.kind ∧ InI r.v ∧ InI r.steps
theorem Rdd.row {w : World} {cs : List Value} (h : Rdd Tryz.prog w 40 cs) : ∃ r : Rb, cs = rbV r ∧ rbI r := by
  obtain ⟨hl, hall⟩ := Rdd.struct Tryz.underlying40 h
  have c3 : Tryz.prog.cellsOf 3 = 1 := by kernel_rfl
  have c2 : Tryz.prog.cellsOf 2 = 1 := by kernel_rfl
  have c9 : Tryz.prog.cellsOf 9 = 1 := by kernel_rfl
  have hlen : cs.length = 7 := by rw [hl]; kernel_rfl
  obtain ⟨n0, h0, i0⟩ := (show Rdd Tryz.prog w 3 ((cs.drop 0).take (Tryz.prog.cellsOf 3)) from hall 0 _ rfl).int Tryz.underlying3
  obtain ⟨n1, h1, i1⟩ := (show Rdd Tryz.prog w 3 ((cs.drop 1).take (Tryz.prog.cellsOf 3)) from hall 1 _ rfl).int Tryz.underlying3
  obtain ⟨n2, h2, i2⟩ := (show Rdd Tryz.prog w 3 ((cs.drop 2).take (Tryz.prog.cellsOf 3)) from hall 2 _ rfl).int Tryz.underlying3
  obtain ⟨n3, h3, i3⟩ := (show Rdd Tryz.prog w 3 ((cs.drop 3).take (Tryz.prog.cellsOf 3)) from hall 3 _ rfl).int Tryz.underlying3
  obtain ⟨n4, h4, i4⟩ := (show Rdd Tryz.prog w 2 ((cs.drop 4).take (Tryz.prog.cellsOf 2)) from hall 4 _ rfl).int Tryz.underlying2
  obtain ⟨n5, h5, i5⟩ := (show Rdd Tryz.prog w 3 ((cs.drop 5).take (Tryz.prog.cellsOf 3)) from hall 5 _ rfl).int Tryz.underlying3
  obtain ⟨n6, h6, i6⟩ := Rdd.str Tryz.underlying9 (show Rdd Tryz.prog w 9 ((cs.drop 6).take (Tryz.prog.cellsOf 9)) from hall 6 _ rfl)
  rw [c3] at h0 h1 h2 h3 h5
  rw [c2] at h4
  rw [c9] at h6
  match cs, hlen with
  | [a, b, c, d, e, f, g], _ =>
    simp at h0 h1 h2 h3 h4 h5 h6
    exact ⟨⟨n0, n1, n2, n3, n4, n5, n6⟩, by simp [rbV, h0, h1, h2, h3, h4, h5, h6], i0, i1, i2, i3, i4, i5⟩
theorem Arg.rows {w : World} {v : Value} (h : Arg Tryz.prog w 25 v) : ∃ (s : Sl) (l : List Rb), v = .slice s.a s.n s.c ∧ Tbl w s l ∧ ∀ r ∈ l, rbI r := by
  obtain ⟨s, rfl, hr⟩ := h.slice Tryz.underlying25
  obtain ⟨s', es, h1, h2, h3, h4, h5, hall⟩ := hr.slice Tryz.underlying25
  have : s = s' := by
    obtain ⟨a, n, c⟩ := s; obtain ⟨a', n', c'⟩ := s'
    simpa using h1
  subst this
  obtain ⟨l, rfl, hl⟩ := exists_map (f := rbV) (G := rbI) (es := es) fun e' he' => Rdd.row (hall e' he')
  have c7 : Tryz.prog.cellsOf 40 = 7 := by kernel_rfl
  have b64 : Tryz.prog.bytesOf 40 = 64 := by kernel_rfl
  rw [c7] at h2
  rw [b64] at h3
  exact ⟨s, l, rfl, ⟨h2, by unfold reachBytes at h3; simp at h3; omega⟩, hl⟩
structure Few7 (l : List Rb) : Prop where
  n : l.length ≤ 60
  cl : ∀ r ∈ l, r.cl.size ≤ 100
theorem few7_s {w : World} {s : Sl} {l : List Rb} {k : Bool → World → Prop} (hT : Tbl w s l) (hk : ∀ b, (b = true → Few7 l) → k b w) : pelotonlaw07_Few s w k := by
  have hn := hT.len
  unfold pelotonlaw07_Few
  refine loopP_of (fun (i : Int) w' => ∃ j : Nat, i = (j : Int) ∧ j ≤ l.length ∧ j ≤ 61 ∧ (∀ m : Nat, m < j → (rowAt l m).cl.size ≤ 100) ∧ w' = w) (fun i _ => (61 - i).toNat) ⟨0, rfl, by omega, by omega, fun m hm => by omega, rfl⟩ ?_
  rintro _ w' ⟨j, rfl, hj, hj61, hd, rfl⟩ C hC
  rw [hn]
  refine iteB_i (fun hb => ?_) fun hb => ?_
  · simp only [Bool.and_eq_true, decide_eq_true_eq] at hb
    refine ixR_h (e := rbV (rowAt l j)) hT.rws (St.nil w') (by omega) (by rw [rowAt_map (by omega)]) fun p hp => ?_
    refine (fun (hc : w'.cell? (p.add 6) = some (.string (rowAt l j).cl)) => ?_) (hp (St.nil w') rfl)
    have e : ∀ {c : ByteArray → Prop}, c (rowAt l j).cl → ldStr w' (p.add 6) c := fun h => by simp [ldStr, rd, hc, toStr, h]
    refine e ?_
    refine iteB_i (fun hb2 => hk _ fun q => by cases q) fun hb2 => ?_
    have hle : (rowAt l j).cl.size ≤ 100 := by have := of_decide_eq_false hb2; omega
    have hw1 : IntKind.wrap .i64 ((j : Int) + 1) = ((j + 1 : Nat) : Int) := by rw [wrap_id ⟨by omega, by omega⟩]; simp
    rw [hw1]
    refine hC _ _ ⟨j + 1, rfl, by omega, by omega, fun m hm => ?_, rfl⟩ (by omega)
    by_cases e : m = j
    · rw [e]; exact hle
    · exact hd m (by omega)
  · refine hk _ fun q => ?_
    have hle : l.length ≤ 60 := by have := of_decide_eq_true q; omega
    refine ⟨hle, fun r hr => ?_⟩
    have hjl : j = l.length := by
      have : ¬ ((j : Int) < l.length ∧ (j : Int) < 61) := by simpa using hb
      omega
    obtain ⟨m, hm, rfl⟩ := List.getElem_of_mem hr
    have := hd m (by omega)
    unfold rowAt at this
    rw [Int.toNat_natCast, List.getD_eq_getElem?_getD, List.getElem?_eq_getElem hm] at this
    exact this
structure Shrt (P : List FnR) (l : List Rb) : Prop where
  p : Ck.Few P
  t : Few7 l
  steps : ∀ i : Int, (rowAt l i).steps ≤ 3000
theorem short_s {w : World} {ps s : Sl} {P : List FnR} {l : List Rb} {k : Bool → World → Prop} (hF : Funcs5 w ps P) (hT : Tbl w s l) (hk : ∀ b w', St w w' [] → (b = true → Shrt P l) → k b w') : pelotonlaw08_Short #[.slice ps.a ps.n ps.c] s w k := by
  have hn := hT.len; have hf := hT.few
  unfold pelotonlaw08_Short pelotonlaw08_Short_b
  refine newC_h (.nil w) fun g1 w2 h => ?_
  refine joinP_i (fun z w' => (z = false → Ck.Few P ∧ Few7 l) ∧ St w w' []) (fun J hJ => ?_) ?_
  · refine ldW_h (n := 1) (g := g1) h rfl ?_
    refine Ck.few_s (hF.ext h.ext) fun b w5 h2 hb => ?_
    have h := ext_of h h2.ext
    refine iteB_i (fun hb1 => hJ _ _ ⟨(fun q => by cases q), h.all⟩) fun hb1 => ?_
    refine few7_s (hT.ext h.ext) fun b7 hb7 => ?_
    exact hJ _ _ ⟨fun q => ⟨hb (by simpa using hb1), hb7 (by simpa using q)⟩, h.all⟩
  rintro z w10 ⟨hz, h⟩
  refine iteB_i (fun hb => hk _ _ h fun q => by cases q) fun hb => ?_
  obtain ⟨hP, h7⟩ := hz hb
  refine loopP_of (fun (i : Int) w' => ∃ j : Nat, i = (j : Int) ∧ j ≤ l.length ∧ (∀ m : Nat, m < j → (rowAt l m).steps ≤ 3000) ∧ w' = w10) (fun i _ => (l.length - i).toNat) ⟨0, rfl, by omega, fun m hm => by omega, rfl⟩ ?_
  rintro _ w13 ⟨j, rfl, hj, hd, rfl⟩ C hC
  rw [hn]
  refine iteB_i (fun hb => ?_) fun hb => ?_
  · have hlt : j < l.length := by have := of_decide_eq_true hb; omega
    refine tI_h (j := 5) hT h (by omega) (by omega) rfl ?_
    refine iteB_i (fun hb2 => hk _ _ h fun q => by cases q) fun hb2 => ?_
    have hw1 : IntKind.wrap .i64 ((j : Int) + 1) = ((j + 1 : Nat) : Int) := by rw [wrap_id ⟨by omega, by omega⟩]; simp
    rw [hw1]
    refine hC _ _ ⟨j + 1, rfl, by omega, fun m hm => ?_, rfl⟩ (by omega)
    by_cases e : m = j
    · rw [e]; have := of_decide_eq_false hb2; omega
    · exact hd m (by omega)
  · refine hk _ _ h fun _ => ⟨hP, h7, fun i => ?_⟩
    have hjl : l.length ≤ j := by have := of_decide_eq_false hb; omega
    by_cases e : i.toNat < l.length
    · have := hd i.toNat (by omega)
      unfold rowAt at this ⊢
      rwa [Int.toNat_natCast] at this
    · unfold rowAt
      rw [List.getD_eq_getElem?_getD, List.getElem?_eq_none (by omega)]; decide
theorem Shrt.cl {P : List FnR} {l : List Rb} (h : Shrt P l) : ∀ r ∈ l, r.cl.size < 4611686018427387904 := fun r hr => by have := h.t.cl r hr; omega
theorem Shrt.len {P : List FnR} {l : List Rb} (h : Shrt P l) : l.length ≤ 1000000 := by have := h.t.n; omega
theorem fits_of {P : List FnR} {l : List Rb} {q : Bool} (hA : Accs P) (ht : tcheck l = 0) : fitsF P l q = fgo P l q l.length 0 bk0 := by
  unfold fitsF
  rw [if_neg (by rw [Ck.accs_iff.2 hA]; simp), if_neg (by rw [ht]; simp)]
def oneR (kind : Int) : List Rb := [⟨-1, 0, 0, kind, 0, 0, ByteArray.mk #[]⟩]
theorem ask_world (sc : Int × Int → Option ((Int × Int) × Bool)) : askB sc (-1, 0) = false := Ask.world.b
theorem fits_one4 {P : List FnR} (hA : Accs P) : fitsF P (oneR 4) false = (0, 0) := (fits_of hA (by kernel_rfl)).trans (by kernel_rfl)
theorem fends4 {P : List FnR} {x : Rb} {r : Rn} {b : Bk} (hk : x.kind = 4) : fends P true x r b (-1, 0) = false := by
  unfold fends
  rw [ask_world, if_neg (by omega), if_pos hk, Bool.not_false, Bool.and_true, Bool.or_true, if_pos rfl]
theorem fits_one4q {P : List FnR} (hA : Accs P) : fitsF P (oneR 4) true = (0, 25) := by
  rw [fits_of hA (by kernel_rfl)]
  show fgo P (oneR 4) true 1 0 bk0 = _
  rw [fgo_succ]
  have : frow P (oneR 4) true 0 bk0 = none := by
    unfold frow
    have e : (bk0.at 0).2 = (-1, 0) := rfl
    rw [if_neg (by decide), if_neg (by decide), e]
    have e0 : (rowAt (oneR 4) 0).steps.toNat = 0 := rfl
    rw [e0]
    unfold frun
    dsimp only
    rw [if_neg]
    intro h
    rw [fends4 rfl] at h
    exact absurd h.2.2 (by decide)
  rw [this]
end Go.Proofs.YtgkfbagclkjilaaGreatDoor.Ft
namespace Go.Proofs.YtgkfbagclkjilaaGreatDoor.Ft
open Go Go.Ev Go.Proofs Go.Proofs.YtgkfbagclkjilaaGreatDoor
open Go.Proofs.YtgkfbagclkjilaaGreatDoor.Fr (fTo fOn fPlain fForked fJoined fClosed fChild fRoot fR isB fTo_len fOn_len fPlain_len fForked_len fJoined_len fClosed_len)
open Go.Proofs.YtgkfbagclkjilaaGreatDoor.Ck (opI Walk Accs needsOf isGoes heldL depths stepD handlesOk subBits scopesOk forks)
theorem blk_slsN {w : World} {g sz : Nat} {l : List Value} {n : Nat} (hb : Blk w g l.toArray) (hn : l.length = n * sz) (c : Nat) : Sls sz w ⟨some ⟨g, 0, none⟩, n, c⟩ l :=
  ⟨hn, fun i v hv => ⟨_, rfl, by rw [add_mk, hb.cell]; simpa using hv⟩⟩
def aG : List (List Int) := [[16, 0, 0, 0, 0]]
def aP : List (List Int) := [[8, 1, 0, 0, 1], [9, 0, 1, 0, 0], [16, 0, 0, 0, 0]]
def accB (P : List FnR) (f : FnR) (H : List Int) : Bool := decide (0 ≤ f.needs ∧ f.needs ≤ 255 ∧ 1 ≤ f.code.length ∧ f.code.length ≤ 128) && (f.code.all fun x => Ck.chk x == 0) && ((List.range f.code.length).all fun i => Ck.wrongF P f.code.length (depths 0 f.code) H i (f.code.getD i []) == 0)
theorem acc_of {P : List FnR} {f : FnR} {H : List Int} (hH : heldL f.code f.needs = H) (h : accB P f H = true) : Ck.Acc P f := by
  unfold accB at h
  rw [Bool.and_eq_true, Bool.and_eq_true, decide_eq_true_eq, List.all_eq_true, List.all_eq_true] at h
  obtain ⟨⟨⟨a, b, c, d⟩, h2⟩, h3⟩ := h
  refine ⟨a, b, c, d, fun x hx => by simpa using h2 x hx, fun i x hx => ?_⟩
  have hi := (List.getElem?_eq_some_iff.1 hx).1
  have := h3 i (by simpa using hi)
  rw [hH]
  rw [List.getD_eq_getElem?_getD, hx] at this
  simpa using this
theorem heldG : heldL aG 0 = [0] := (Ck.heldL_eval (l := aG) (needs := 0) 1 (by decide) (by decide) (by kernel_rfl)).trans (by kernel_rfl)
theorem heldP : heldL aP 0 = [0, 2, 2] := (Ck.heldL_eval (l := aP) (needs := 0) 3 (by decide) (by decide) (by kernel_rfl)).trans (by kernel_rfl)
theorem accs_a {s1 s2 : Sl} : Accs [⟨0, s1, aP⟩, ⟨0, s2, aG⟩] := ⟨by simp, by simp, rfl, fun f hf => by
  simp at hf
  rcases hf with rfl | rfl
  · exact acc_of heldP (by kernel_rfl)
  · exact acc_of heldG (by kernel_rfl)⟩
def twoR : List Rb := [⟨-1, 0, 0, 1, 0, 1, ByteArray.mk #[]⟩, ⟨0, 0, 1, 0, 0, 0, ByteArray.mk #[]⟩]
theorem fits_two {s1 s2 : Sl} : fitsF [⟨0, s1, aP⟩, ⟨0, s2, aG⟩] twoR true = (0, 0) := (fits_of accs_a (by kernel_rfl)).trans (by kernel_rfl)
theorem two_funcs {w : World} {ga gb gf : Nat} {c1 c2 c3 : Nat} {l1 l2 : List (List Int)} (hb1 : Blk w ga (agI l1.flatten)) (hb2 : Blk w gb (agI l2.flatten)) (h1 : ∀ x ∈ l1, x.length = 5 ∧ ∀ y ∈ x, InI y) (h2 : ∀ x ∈ l2, x.length = 5 ∧ ∀ y ∈ x, InI y) (hl1 : l1.length ≤ 100) (hl2 : l2.length ≤ 100)
    (hb : Blk w gf #[.int .i64 0, .slice (some ⟨ga, 0, none⟩) l1.length c1, .int .i64 0, .slice (some ⟨gb, 0, none⟩) l2.length c2]) : Funcs5 w ⟨some ⟨gf, 0, none⟩, 2, c3⟩ [⟨0, ⟨some ⟨ga, 0, none⟩, l1.length, c1⟩, l1⟩, ⟨0, ⟨some ⟨gb, 0, none⟩, l2.length, c2⟩, l2⟩] := by
  have code : ∀ {g c : Nat} {l : List (List Int)}, Blk w g (agI l.flatten) → (∀ x ∈ l, x.length = 5 ∧ ∀ y ∈ x, InI y) → l.length ≤ 100 → Code5 w ⟨some ⟨g, 0, none⟩, l.length, c⟩ l := by
    intro g c l hb h5 hl
    refine Ck.code_blk hb h5 (fun i hi j hj => ?_) (by simp [reachBytes]; omega)
    rw [Nat.zero_add, Ck.flat_get (fun e he => (h5 e he).1) (e := l.getD i []) (by simp [hi]) hj]
  refine ⟨Ck.sls_rws (blk_slsN (n := 2) hb rfl _) (by decide) (by intro e he; simp [FnR.cells] at he; rcases he with rfl | rfl <;> rfl), fun x hx => ?_, by simp [reachBytes]⟩
  simp at hx
  rcases hx with rfl | rfl
  · exact ⟨(by decide : InI 0), code hb1 h1 hl1⟩
  · exact ⟨(by decide : InI 0), code hb2 h2 hl2⟩
theorem five_in : ∀ l ∈ [aG, aP], ∀ x ∈ l, x.length = 5 ∧ ∀ y ∈ x, InI y := by decide
theorem tbl_blk {w : World} {g n c : Nat} {l : List Rb} (hb : Blk w g (l.map rbV).flatten.toArray) (hn : l.length = n) (hl : n < 1000) : Tbl w ⟨some ⟨g, 0, none⟩, n, c⟩ l :=
  ⟨Ck.sls_rws (blk_slsN (n := n) hb (by rw [Ck.flat_len (sz := 7) (fun e he => by obtain ⟨r, _, rfl⟩ := List.mem_map.1 he; rfl), List.length_map, hn]) _) (by decide) (fun e he => by obtain ⟨r, _, rfl⟩ := List.mem_map.1 he; rfl), by omega⟩
theorem one_cl {kind : Int} : ∀ r ∈ oneR kind, r.cl.size < 4611686018427387904 := by intro r hr; simp [oneR] at hr; subst hr; exact (by decide : (ByteArray.mk #[]).size < 4611686018427387904)
theorem two_cl : ∀ r ∈ twoR, r.cl.size < 4611686018427387904 := by intro r hr; simp [twoR] at hr; rcases hr with rfl | rfl <;> decide
theorem awake_s {w : World} {k : Bool → World → Prop} (hk : ∀ w', St w w' [] → k true w') : pelotonlaw08_awake w k := by
  unfold pelotonlaw08_awake pelotonlaw08_awake_b
  refine spl_i (agI (aP.flatten.take 5 ++ Fr.Z 10)) rfl (by kernel_rfl) (spl_i (agI (aP.flatten.take 10 ++ Fr.Z 5)) rfl (by kernel_rfl) (spl_i (agI aP.flatten) rfl (by kernel_rfl) ?_))
  refine newC_h (.nil w) fun g4 w5 h => ?_
  refine spl_i (agI aG.flatten) rfl (by kernel_rfl) ?_
  refine newC_h h fun g7 w8 h => ?_
  refine spl_i #[.int .i64 0, .slice (some ⟨g4, 0, none⟩) 3 3, .int .i64 0, .slice none 0 0] rfl (by kernel_rfl) (spl_i #[.int .i64 0, .slice (some ⟨g4, 0, none⟩) 3 3, .int .i64 0, .slice (some ⟨g7, 0, none⟩) 1 1] rfl (by kernel_rfl) ?_)
  refine newC_h h fun g11 w12 h => newC_h h fun g13 w14 h => ?_
  refine stW_h (g := g13) h rfl rfl (by intro v hv; simp at hv; subst hv; rfl) fun w15 h => ?_
  refine spl_i ((oneR 4).map rbV).flatten.toArray rfl (by kernel_rfl) ?_
  refine newC_h h fun g17 w18 h => ?_
  have f5 := five_in
  have hF : ∀ {w'}, Ext w18 w' → Funcs5 w' ⟨some ⟨g11, 0, none⟩, 2, 2⟩ [⟨0, ⟨some ⟨g4, 0, none⟩, 3, 3⟩, aP⟩, ⟨0, ⟨some ⟨g7, 0, none⟩, 1, 1⟩, aG⟩] := fun he =>
    (two_funcs (c1 := 3) (c2 := 1) (c3 := 2) (l1 := aP) (l2 := aG) (h.blk (g := g4)) (h.blk (g := g7)) (f5 aP (by simp)) (f5 aG (by simp)) (by decide) (by decide) (h.blk (g := g11))).ext he
  have hT : ∀ {w'}, Ext w18 w' → Tbl w' ⟨some ⟨g17, 0, none⟩, 1, 1⟩ (oneR 4) := fun he => (tbl_blk (c := 1) (h.blk (g := g17)) rfl (by decide)).ext he
  have hN : ∀ g ∈ ([⟨0, ⟨some ⟨g4, 0, none⟩, 3, 3⟩, aP⟩, ⟨0, ⟨some ⟨g7, 0, none⟩, 1, 1⟩, aG⟩] : List FnR), InI g.needs := by
    intro g hg; simp at hg; rcases hg with rfl | rfl <;> exact (by decide : InI 0)
  refine ldW_h (g := g13) h rfl ?_
  refine Fits_s (ps := ⟨some ⟨g11, 0, none⟩, 2, 2⟩) (ls := ⟨some ⟨g17, 0, none⟩, 1, 1⟩) (l := oneR 4) (hF (Only.refl _ _)) (hT (Only.refl _ _)) hN (by decide) one_cl fun w21 he1 => ?_
  rw [fits_one4 accs_a]
  have h1 := ext_of h he1
  refine ldW_h (g := g13) h1 rfl ?_
  refine Quiet_s (ps := ⟨some ⟨g11, 0, none⟩, 2, 2⟩) (ls := ⟨some ⟨g17, 0, none⟩, 1, 1⟩) (l := oneR 4) (hF he1) (hT he1) hN (by decide) one_cl fun w24 he2 => ?_
  rw [fits_one4q accs_a]
  have h2 := ext_of h1 he2
  refine ldW_h (g := g13) h2 rfl ?_
  refine spl_i ((twoR.take 1).map rbV ++ [rbV rb0]).flatten.toArray rfl (by kernel_rfl) (spl_i (twoR.map rbV).flatten.toArray rfl (by kernel_rfl) ?_)
  refine newC_h h2 fun g28 w29 h3 => ?_
  refine Quiet_s (ps := ⟨some ⟨g11, 0, none⟩, 2, 2⟩) (ls := ⟨some ⟨g28, 0, none⟩, 2, 2⟩) (l := twoR) (two_funcs (c1 := 3) (c2 := 1) (c3 := 2) (l1 := aP) (l2 := aG) (h3.blk (g := g4)) (h3.blk (g := g7)) (f5 aP (by simp)) (f5 aG (by simp)) (by decide) (by decide) (h3.blk (g := g11))) (tbl_blk (c := 2) (h3.blk (g := g28)) rfl (by decide)) hN (by decide) two_cl fun w31 he4 => ?_
  rw [fits_two]
  exact hk _ (ext_of h3 he4).all
end Go.Proofs.YtgkfbagclkjilaaGreatDoor.Ft
namespace Go.Proofs.YtgkfbagclkjilaaGreatDoor.Ft
open Go Go.Ev Go.Proofs Go.Proofs.YtgkfbagclkjilaaGreatDoor
theorem not_t {b : Bool} (h : (!b) = true) : b = false := by simpa using h
theorem not_f {b : Bool} (h : (!b) = false) : b = true := by simpa using h
section
variable {w0 w : World} {L : List HP} {s : Sl} {l : List Rb} {i o : Int}
theorem rcame_s {r : Rb} {k : Bool → World → Prop} (hk : ∀ w', Ext w w' → k (decide (r.kind ≥ 2)) w') : pelotonref07_Came (rbV r).toArray w k := by
  unfold pelotonref07_Came
  refine newC_h (.nil w) fun g w2 h => ?_
  exact ldI_h (g := g) (o := 0 + 3) h rfl (hk _ h.ext)
theorem rwithin_s {k : Bool → World → Prop} (hT : Tbl w0 s l) (h : St w0 w L) (hk : k (withinP l (l.length + 1) i o) w) : pelotonref07_Within s i o w k := by
  have hn := hT.len; have hf := hT.few
  unfold pelotonref07_Within
  generalize hG : withinP l (l.length + 1) i o = W at hk
  refine loopP_of (fun (x : Int × Int) w' => ∃ j : Nat, x.2 = (j : Int) ∧ j ≤ l.length + 1 ∧ withinP l (l.length + 1 - j) x.1 o = W ∧ w' = w) (fun x _ => (l.length + 1 - x.2).toNat) ⟨0, rfl, by omega, hG, rfl⟩ ?_
  rintro ⟨x, _⟩ _ ⟨j, rfl, hj, hw, rfl⟩ C hC
  dsimp only at hw ⊢
  rw [hn]
  refine iteB_i (fun hb => ?_) fun hb => ?_
  · simp only [Bool.and_eq_true, decide_eq_true_eq] at hb
    obtain ⟨m, hm⟩ : ∃ m, l.length + 1 - j = m + 1 := ⟨l.length - j, by omega⟩
    rw [hm] at hw
    unfold withinP at hw
    rw [if_neg (by omega)] at hw
    refine iteB_i (fun hb2 => ?_) fun hb2 => ?_
    · rw [if_pos (by simpa using hb2)] at hw
      rw [hw]; exact hk
    · rw [if_neg (by simpa using hb2)] at hw
      refine tI_h (j := 0) hT h (by omega) (by omega) rfl ?_
      have ew : IntKind.wrap .i64 ((j : Int) + 1) = ((j + 1 : Nat) : Int) := by rw [wrap_id ⟨by omega, by omega⟩]; simp
      rw [ew]
      exact hC _ _ ⟨j + 1, rfl, by omega, by rw [show l.length + 1 - (j + 1) = m by omega]; exact hw, rfl⟩ (by dsimp only; omega)
  · have hc : ¬ ((j : Int) ≤ l.length ∧ x ≥ 0 ∧ x < l.length) := by
      intro q
      rw [decide_eq_true q.1, decide_eq_true q.2.1, decide_eq_true q.2.2] at hb
      cases hb
    have hW : W = false := by
      rw [← hw]
      by_cases e : l.length + 1 - j = 0
      · rw [e]; rfl
      · obtain ⟨m, hm⟩ : ∃ m, l.length + 1 - j = m + 1 := ⟨l.length - j, by omega⟩
        rw [hm]
        unfold withinP
        rw [if_pos (by omega)]
    rw [hW] at hk; exact hk
theorem rbinary_s {cl : ByteArray} {k : Bool → World → Prop} (hs : cl.size < 4611686018427387904) (hk : k (is01 cl) w) : pelotonref07_binary cl w k := by
  unfold pelotonref07_binary
  have hlen : cl.size = cl.data.toList.length := by rw [Array.length_toList]; rfl
  refine loopP_of (fun (i : Int) w' => ∃ j : Nat, i = (j : Int) ∧ j ≤ cl.size ∧ ((cl.data.toList.drop j).all fun c => c == 48 || c == 49) = is01 cl ∧ w' = w) (fun i _ => (cl.size - i).toNat) ⟨0, rfl, by omega, rfl, rfl⟩ ?_
  rintro _ w3 ⟨j, rfl, hj, hd, rfl⟩ C hC
  refine iteB_i (fun hb => ?_) fun hb => ?_
  · have hlt : j < cl.size := by have := of_decide_eq_true hb; omega
    have hlt2 : j < cl.data.toList.length := by omega
    have hget : cl.data.toList[j]? = some cl.data.toList[j] := List.getElem?_eq_getElem hlt2
    rw [List.drop_eq_getElem_cons hlt2, List.all_cons] at hd
    generalize hc : cl.data.toList[j] = c at hd hget
    have h48 : ((c.toNat : Int) != 48) = !(c == 48) := by
      by_cases e : c = 48
      · subst e; rfl
      · have h1 : (c == 48) = false := beq_eq_false_iff_ne.2 e
        rw [h1]
        have : (c.toNat : Int) ≠ 48 := fun q => e (UInt8.toNat_inj.1 (by
          have h3 : c.toNat = 48 := by omega
          rw [h3]; rfl))
        simpa using this
    have h49 : ((c.toNat : Int) != 49) = !(c == 49) := by
      by_cases e : c = 49
      · subst e; rfl
      · have h1 : (c == 49) = false := beq_eq_false_iff_ne.2 e
        rw [h1]
        have : (c.toNat : Int) ≠ 49 := fun q => e (UInt8.toNat_inj.1 (by
          have h3 : c.toNat = 49 := by omega
          rw [h3]; rfl))
        simpa using this
    refine joinP_i (fun z w' => z = !(c == 48 || c == 49) ∧ w' = w3) (fun J hJ => ?_) ?_
    · refine ixStr_at (n := j) (b := c) hget ?_
      rw [h48]
      refine iteB_i (fun hb2 => ?_) fun hb2 => ?_
      · refine ixStr_at (n := j) (b := c) hget ?_
        rw [h49]
        refine hJ _ _ ⟨?_, rfl⟩
        have : (c == 48) = false := by simpa using hb2
        rw [this, Bool.false_or]
      · refine hJ _ _ ⟨?_, rfl⟩
        have : (c == 48) = true := by simpa using hb2
        rw [this]; rfl
    rintro z _ ⟨rfl, rfl⟩
    refine iteB_i (fun hb2 => ?_) fun hb2 => ?_
    · have : (c == 48 || c == 49) = false := not_t hb2
      rw [this, Bool.false_and] at hd
      rw [← hd] at hk; exact hk
    · have : (c == 48 || c == 49) = true := not_f hb2
      rw [this, Bool.true_and] at hd
      have ew : IntKind.wrap .i64 ((j : Int) + 1) = ((j + 1 : Nat) : Int) := by rw [wrap_id ⟨by omega, by omega⟩]; simp
      rw [ew]
      exact hC _ _ ⟨j + 1, rfl, by omega, hd, rfl⟩ (by omega)
  · have hjl : cl.data.toList.length ≤ j := by have := of_decide_eq_false hb; omega
    rw [List.drop_of_length_le hjl] at hd
    rw [← hd] at hk; exact hk
theorem strEq_nil' {t : ByteArray} : (!(strEqB t (ByteArray.mk #[]))) = (t.size != 0) := by
  rw [strEq_nil]; rfl
theorem rright_s {k : Int → World → Prop} (hT : Tbl w s l) (h0 : 0 ≤ i) (h1 : i < l.length) (hcl : (rowAt l i).cl.size < 4611686018427387904) (hW : i ≠ 0 → 0 ≤ (rowAt l i).par → (rowAt l i).par < i → withinP l (l.length + 1) (i - 1) (rowAt l i).par = withinP l l.length (i - 1) (rowAt l i).par) (hk : ∀ w', Ext w w' → k (tRow l i) w') : pelotonref07_right s i w k := by
  have hf := hT.few
  unfold pelotonref07_right pelotonref07_right_b
  refine tA_h hT (.nil w) h0 h1 fun p hp => ?_
  refine newC_h (.nil w) fun g w4 h => ?_
  refine stW_h (n := 7) (g := g) h rfl rfl one_rb fun w5 h => ?_
  generalize hr : rowAt l i = r at *
  have h : St w w5 [blk g (rbV r)] := h
  unfold tRow at hk
  rw [hr] at hk
  refine joinP_i (fun z w' => z = !(tPlace l i) ∧ St w w' [blk g (rbV r)]) (fun J hJ => ?_) ?_
  · unfold tPlace at hJ
    rw [hr] at hJ
    refine iteB_i (fun hb => ?_) fun hb => ?_
    · have e0 : i = 0 := by simpa using hb
      rw [if_pos e0] at hJ
      refine ldI_h (g := g) (o := 0 + 0) h rfl ?_
      refine iteB_i (fun hb2 => ?_) fun hb2 => ?_
      · exact hJ _ _ ⟨by have : r.par ≠ -1 := by simpa using hb2
                         rw [beq_eq_false_iff_ne.2 this]; rfl, h⟩
      · refine iteB_f (by simp; omega) ?_
        exact hJ _ _ ⟨by have : r.par = -1 := by simpa using hb2
                         rw [this]; rfl, h⟩
    · have e0 : i ≠ 0 := by simpa using hb
      rw [if_neg e0] at hJ
      refine iteB_t (by simp; omega) ?_
      refine ldI_h (g := g) (o := 0 + 0) h rfl ?_
      refine iteB_i (fun hb2 => ?_) fun hb2 => ?_
      · exact hJ _ _ ⟨by have : r.par < 0 := of_decide_eq_true hb2
                         rw [decide_eq_false (by omega)]; rfl, h⟩
      have p0 : 0 ≤ r.par := by have := of_decide_eq_false hb2; omega
      rw [decide_eq_true p0, Bool.true_and] at hJ
      refine ldI_h (g := g) (o := 0 + 0) h rfl ?_
      refine iteB_i (fun hb2 => ?_) fun hb2 => ?_
      · exact hJ _ _ ⟨by have : r.par ≥ i := of_decide_eq_true hb2
                         rw [decide_eq_false (by omega)]; rfl, h⟩
      have p1 : r.par < i := by have := of_decide_eq_false hb2; omega
      rw [decide_eq_true p1, Bool.true_and] at hJ
      refine ldI_h (g := g) (o := 0 + 0) h rfl ?_
      rw [wrap_id ⟨by omega, by omega⟩]
      refine rwithin_s hT h ?_
      rw [hW e0 p0 p1]
      exact hJ _ _ ⟨rfl, h⟩
  rintro z w19 ⟨rfl, h⟩
  refine iteB_i (fun hb => ?_) fun hb => ?_
  · rw [if_pos (by simpa using hb)] at hk; exact hk _ h.ext
  have hpl : tPlace l i = true := by simpa using hb
  rw [if_neg (by rw [hpl]; simp)] at hk
  refine joinP_i (fun z w' => z = !(tSpan i r) ∧ St w w' [blk g (rbV r)]) (fun J hJ => ?_) ?_
  · unfold tSpan at hJ
    refine ldI_h (g := g) (o := 0 + 1) h rfl ?_
    refine iteB_i (fun hb => ?_) fun hb => ?_
    · exact hJ _ _ ⟨by have : r.inn < 0 := of_decide_eq_true hb
                       rw [decide_eq_false (by omega)]; rfl, h⟩
    rw [decide_eq_true (by have := of_decide_eq_false hb; omega), Bool.true_and] at hJ
    have rest : (∀ z w', z = !(decide (0 ≤ r.fn) && (decide (r.fn < 32) && (decide (0 ≤ r.kind) && (decide (r.kind ≤ 4) && (decide (0 ≤ r.steps) && decide (r.steps ≤ 1048576)))))) ∧ St w w' [blk g (rbV r)] → J z w') →
        ldI .i64 w19 (Addr.add ⟨g, 0, none⟩ 2) fun i23 =>
            iteB (decide (i23 < (0 : Int))) (
              (J true w19)) (
              ldI .i64 w19 (Addr.add ⟨g, 0, none⟩ 2) fun i24 =>
              iteB (decide (i24 > (31 : Int))) (
                (J true w19)) (
                ldI .i64 w19 (Addr.add ⟨g, 0, none⟩ 3) fun i25 =>
                iteB (decide (i25 < (0 : Int))) (
                  (J true w19)) (
                  ldI .i64 w19 (Addr.add ⟨g, 0, none⟩ 3) fun i26 =>
                  iteB (decide (i26 > (4 : Int))) (
                    (J true w19)) (
                    ldI .i64 w19 (Addr.add ⟨g, 0, none⟩ 5) fun i27 =>
                    iteB (decide (i27 < (0 : Int))) (
                      (J true w19)) (
                      ldI .i64 w19 (Addr.add ⟨g, 0, none⟩ 5) fun i28 =>
                      (J (decide (i28 > (1048576 : Int))) w19)))))) := by
      intro hJ
      refine ldI_h (g := g) (o := 0 + 2) h rfl ?_
      refine iteB_i (fun hb => ?_) fun hb => ?_
      · exact hJ _ _ ⟨by have : r.fn < 0 := of_decide_eq_true hb
                         rw [decide_eq_false (by omega)]; rfl, h⟩
      rw [decide_eq_true (by have := of_decide_eq_false hb; omega), Bool.true_and] at hJ
      refine ldI_h (g := g) (o := 0 + 2) h rfl ?_
      refine iteB_i (fun hb => ?_) fun hb => ?_
      · exact hJ _ _ ⟨by have : r.fn > 31 := of_decide_eq_true hb
                         rw [decide_eq_false (by omega)]; rfl, h⟩
      rw [decide_eq_true (by have := of_decide_eq_false hb; omega), Bool.true_and] at hJ
      refine ldI_h (g := g) (o := 0 + 3) h rfl ?_
      refine iteB_i (fun hb => ?_) fun hb => ?_
      · exact hJ _ _ ⟨by have : r.kind < 0 := of_decide_eq_true hb
                         rw [decide_eq_false (by omega)]; rfl, h⟩
      rw [decide_eq_true (by have := of_decide_eq_false hb; omega), Bool.true_and] at hJ
      refine ldI_h (g := g) (o := 0 + 3) h rfl ?_
      refine iteB_i (fun hb => ?_) fun hb => ?_
      · exact hJ _ _ ⟨by have : r.kind > 4 := of_decide_eq_true hb
                         rw [decide_eq_false (by omega)]; rfl, h⟩
      rw [decide_eq_true (by have := of_decide_eq_false hb; omega), Bool.true_and] at hJ
      refine ldI_h (g := g) (o := 0 + 5) h rfl ?_
      refine iteB_i (fun hb => ?_) fun hb => ?_
      · exact hJ _ _ ⟨by have : r.steps < 0 := of_decide_eq_true hb
                         rw [decide_eq_false (by omega)]; rfl, h⟩
      rw [decide_eq_true (by have := of_decide_eq_false hb; omega), Bool.true_and] at hJ
      refine ldI_h (g := g) (o := 0 + 5) h rfl ?_
      refine hJ _ _ ⟨?_, h⟩
      by_cases e : r.steps ≤ 1048576
      · rw [decide_eq_true e, decide_eq_false (by omega)]; rfl
      · rw [decide_eq_false e, decide_eq_true (by omega)]; rfl
    refine iteB_i (fun hb => ?_) fun hb => ?_
    · have e0 : i = 0 := by simpa using hb
      rw [decide_eq_false (by omega : ¬ 0 < i), Bool.false_or] at hJ
      refine ldI_h (g := g) (o := 0 + 1) h rfl ?_
      refine iteB_i (fun hb2 => ?_) fun hb2 => ?_
      · exact hJ _ _ ⟨by have : r.inn ≠ 0 := by simpa using hb2
                         rw [beq_eq_false_iff_ne.2 this]; rfl, h⟩
      · have : r.inn = 0 := by simpa using hb2
        rw [this] at hJ
        exact rest hJ
    · have e0 : i ≠ 0 := by simpa using hb
      rw [decide_eq_true (by omega : 0 < i), Bool.true_or, Bool.true_and] at hJ
      exact rest hJ
  rintro z w36 ⟨rfl, h⟩
  refine iteB_i (fun hb => ?_) fun hb => ?_
  · rw [if_pos (by simpa using hb)] at hk; exact hk _ h.ext
  rw [if_neg (by simpa using hb)] at hk
  refine ldStr_h (g := g) (o := 0 + 6) h rfl ?_
  refine rbinary_s hcl ?_
  refine iteB_i (fun hb => ?_) fun hb => ?_
  · rw [if_pos (by simpa using hb)] at hk; exact hk _ h.ext
  rw [if_neg (by simpa using hb)] at hk
  unfold tState at hk
  refine joinP_i (fun z w' => z = !(!(r.v != 0 && (r.kind != 2 && r.kind != 3)) && !(r.kind == 0 && (r.steps != 0 || r.cl.size != 0))) ∧ St w w' [blk g (rbV r)]) (fun J hJ => ?_) ?_
  · have rest : (∀ z w', z = (r.kind == 0 && (r.steps != 0 || r.cl.size != 0)) ∧ St w w' [blk g (rbV r)] → J z w') →
        ldI .i64 w36 (Addr.add ⟨g, 0, none⟩ 3) fun i44 =>
                iteB (i44 == (0 : Int)) (
                  ldI .i64 w36 (Addr.add ⟨g, 0, none⟩ 5) fun i45 =>
                  iteB (i45 != (0 : Int)) (
                    (J true w36)) (
                    ldStr w36 (Addr.add ⟨g, 0, none⟩ 6) fun t46 =>
                    (J (!(strEqB t46 (ByteArray.mk #[]))) w36))) (
                  (J false w36)) := by
      intro hJ
      refine ldI_h (g := g) (o := 0 + 3) h rfl ?_
      refine iteB_i (fun hb => ?_) fun hb => ?_
      · rw [show (r.kind == 0) = true from hb, Bool.true_and] at hJ
        refine ldI_h (g := g) (o := 0 + 5) h rfl ?_
        refine iteB_i (fun hb => ?_) fun hb => ?_
        · exact hJ _ _ ⟨by rw [show (r.steps != 0) = true from hb]; rfl, h⟩
        · rw [show (r.steps != 0) = false from hb, Bool.false_or] at hJ
          refine ldStr_h (g := g) (o := 0 + 6) h rfl ?_
          exact hJ _ _ ⟨strEq_nil', h⟩
      · exact hJ _ _ ⟨by rw [show (r.kind == 0) = false from hb]; rfl, h⟩
    refine ldI_h (g := g) (o := 0 + 4) h rfl ?_
    refine iteB_i (fun hb => ?_) fun hb => ?_
    · rw [show (r.v != 0) = true from hb, Bool.true_and] at hJ
      refine ldI_h (g := g) (o := 0 + 3) h rfl ?_
      refine iteB_i (fun hb => ?_) fun hb => ?_
      · rw [show (r.kind != 2) = true from hb, Bool.true_and] at hJ
        refine ldI_h (g := g) (o := 0 + 3) h rfl ?_
        refine iteB_i (fun hb => ?_) fun hb => ?_
        · exact hJ _ _ ⟨by rw [show (r.kind != 3) = true from hb]; rfl, h⟩
        · rw [show (r.kind != 3) = false from hb] at hJ
          exact rest fun z w' hz => hJ z w' ⟨by rw [hz.1]; simp, hz.2⟩
      · rw [show (r.kind != 2) = false from hb, Bool.false_and] at hJ
        exact rest fun z w' hz => hJ z w' ⟨by rw [hz.1]; simp, hz.2⟩
    · rw [show (r.v != 0) = false from hb, Bool.false_and] at hJ
      exact rest fun z w' hz => hJ z w' ⟨by rw [hz.1]; simp, hz.2⟩
  rintro z w54 ⟨rfl, h⟩
  generalize hA : (!(r.v != 0 && (r.kind != 2 && r.kind != 3))) = A at hk
  generalize hB : (!(r.kind == 0 && (r.steps != 0 || r.cl.size != 0))) = B at hk
  refine iteB_i (fun hb => ?_) fun hb => ?_
  · have hab : (A && B) = false := not_t hb
    rw [← Bool.and_assoc, hab, Bool.false_and, if_pos rfl] at hk
    exact hk _ h.ext
  have hab : (A && B) = true := not_f hb
  rw [← Bool.and_assoc, hab, Bool.true_and] at hk
  refine joinP_i (fun z w' => z = !(i == 0 || ((rowAt l r.par).kind != 0 && (!(decide (2 ≤ (rowAt l r.par).kind)) || decide (2 ≤ r.kind)))) ∧ St w w' [blk g (rbV r)]) (fun J hJ => ?_) ?_
  · refine iteB_i (fun hb => ?_) fun hb => ?_
    · have e0 : 0 < i := of_decide_eq_true hb
      rw [show (i == 0) = false by rw [beq_eq_false_iff_ne]; omega, Bool.false_or] at hJ
      have hp' : 0 ≤ r.par ∧ r.par < i := by
        unfold tPlace at hpl
        rw [if_neg (by omega), hr] at hpl
        simp only [Bool.and_eq_true, decide_eq_true_eq] at hpl
        exact ⟨hpl.1, hpl.2.1⟩
      refine ldI_h (g := g) (o := 0 + 0) h rfl ?_
      refine tI_h (j := 3) hT h hp'.1 (by omega) rfl ?_
      refine iteB_i (fun hb => ?_) fun hb => ?_
      · exact hJ _ _ ⟨by have : (rowAt l r.par).kind = 0 := by simpa using hb
                         rw [this]; rfl, h⟩
      have hk0 : ((rowAt l r.par).kind != 0) = true := by simpa using hb
      rw [hk0, Bool.true_and] at hJ
      refine ldI_h (g := g) (o := 0 + 0) h rfl ?_
      refine tA_h hT h hp'.1 (by omega) fun p' hp'' => ?_
      refine rcame_s fun w63 he => ?_
      have h := h.on he
      refine iteB_i (fun hb => ?_) fun hb => ?_
      · have h2 : decide (2 ≤ (rowAt l r.par).kind) = true := hb
        rw [h2, Bool.not_true, Bool.false_or] at hJ
        refine ldW_h (n := 7) (g := g) h rfl ?_
        refine rcame_s fun w66 he => ?_
        exact hJ _ _ ⟨rfl, h.on he⟩
      · have h2 : decide (2 ≤ (rowAt l r.par).kind) = false := hb
        rw [h2, Bool.not_false, Bool.true_or] at hJ
        exact hJ _ _ ⟨rfl, h⟩
    · have e0 : i = 0 := by have := of_decide_eq_false hb; omega
      rw [show (i == 0) = true by rw [beq_iff_eq]; exact e0, Bool.true_or] at hJ
      exact hJ _ _ ⟨rfl, h⟩
  rintro z w68 ⟨rfl, h⟩
  refine iteB_i (fun hb => ?_) fun hb => ?_
  · rw [if_pos (not_t hb)] at hk; exact hk _ h.ext
  · rw [if_neg (by rw [not_f hb]; simp)] at hk; exact hk _ h.ext
theorem within_more (hP : ∀ j : Int, 0 ≤ j → j ≤ i → j < l.length → (rowAt l j).par < j) : ∀ {n m : Nat} {x o : Int}, x ≤ i → x.toNat < n → x.toNat < m → 0 ≤ x → withinP l n x o = withinP l m x o
  | 0, m, x, o, _, h, _, _ => by omega
  | n + 1, 0, x, o, _, _, h, _ => by omega
  | n + 1, m + 1, x, o, hi, h1, h2, h0 => by
    unfold withinP
    split
    · rfl
    split
    · rfl
    rename_i hx hne
    have hlt := hP x h0 hi (by omega)
    by_cases e : (rowAt l x).par < 0
    · have key : ∀ n, withinP l n (rowAt l x).par o = false := by
        intro n
        cases n with
        | zero => rfl
        | succ n => unfold withinP; rw [if_pos (.inl e)]
      rw [key, key]
    · exact within_more hP (by omega) (by omega) (by omega) (by omega)
theorem rcheck7_s {k : Int → World → Prop} (hT : Tbl w s l) (hcl : ∀ r ∈ l, r.cl.size < 4611686018427387904) (hk : ∀ w', Ext w w' → k (tcheck l) w') : pelotonref07_Check s w k := by
  have hn := hT.len; have hf := hT.few
  unfold pelotonref07_Check pelotonref07_Check_b
  unfold tcheck at hk
  rw [hn]
  refine iteB_i (fun hb => ?_) fun hb => ?_
  · rw [if_pos (by have : (l.length : Int) = 0 := by simpa using hb
                   omega)] at hk
    exact hk _ (.refl _ _)
  rw [if_neg (by have : ¬ (l.length : Int) = 0 := by simpa using hb
                 omega)] at hk
  generalize hG : tChk l l.length 0 = W at hk
  refine loopP_of (fun (i : Int) w' => ∃ j : Nat, i = (j : Int) ∧ j ≤ l.length ∧ tChk l (l.length - j) j = W ∧ (∀ m : Nat, m < j → TRow l m) ∧ Ext w w') (fun i _ => (l.length - i).toNat) ⟨0, rfl, by omega, hG, fun m hm => by omega, .refl _ _⟩ ?_
  rintro _ w3 ⟨j, rfl, hj, hw, hd, he⟩ C hC
  refine iteB_i (fun hb => ?_) fun hb => ?_
  · have hlt : j < l.length := by have := of_decide_eq_true hb; omega
    obtain ⟨m, hm⟩ : ∃ m, l.length - j = m + 1 := ⟨l.length - j - 1, by omega⟩
    rw [hm] at hw
    unfold tChk at hw
    have hm' : (rowAt l (j : Int)) ∈ l := by
      have := rowAt_get (l := l) (i := (j : Int)) (by omega)
      exact List.mem_of_getElem? this
    refine rright_s (hT.ext he) (by omega) (by omega) (hcl _ hm') (fun e0 p0 p1 => ?_) fun w5 he2 => ?_
    · refine within_more (i := (j : Int) - 1) (fun y y0 y1 y2 => ?_) (Int.le_refl _) (by omega) (by omega) (by omega)
      have ht := hd y.toNat (by omega)
      rw [Int.toNat_of_nonneg y0] at ht
      by_cases e : y = 0
      · have hp := ht.place
        unfold tPlace at hp
        rw [if_pos e] at hp
        have : (rowAt l y).par = -1 := by simpa using hp
        omega
      · exact (row_par ht e y0).2.1
    · have he := he.trans he2
      refine iteB_i (fun hb => ?_) fun hb => ?_
      · have : tRow l (j : Int) ≠ 0 := by simpa using hb
        rw [if_neg this] at hw
        rw [hw]; exact hk _ he
      · have : tRow l (j : Int) = 0 := by simpa using hb
        rw [if_pos this] at hw
        have ew : IntKind.wrap .i64 ((j : Int) + 1) = ((j + 1 : Nat) : Int) := by rw [wrap_id ⟨by omega, by omega⟩]; simp
        rw [ew]
        refine hC _ _ ⟨j + 1, rfl, by omega, ?_, fun q hq => ?_, he⟩ (by omega)
        · rw [show l.length - (j + 1) = m by omega]; exact hw
        · by_cases e : q = j
          · rw [e]; exact tRow_zero this
          · exact hd q (by omega)
  · have hjl : l.length - j = 0 := by have := of_decide_eq_false hb; omega
    rw [hjl] at hw
    have hw : (0 : Int) = W := hw
    rw [← hw] at hk
    exact hk _ he
theorem rkids_s {w0 : World} {L : List HP} {k : Sl → World → Prop} (hT : Tbl w0 s l) (h : St w0 w L) (hl : l.length ≤ 1000000) (hk : ∀ sk w', St w0 w' (slc 1 sk (ints (kidsL l i)) :: L) → sk.n = (kidsL l i).length → k sk w') : pelotonref07_Kids s i w k := by
  have hn := hT.len
  unfold pelotonref07_Kids
  refine loopP_of (fun (x : Sl × Int) w' => ∃ j : Nat, x.2 = (j : Int) ∧ j ≤ l.length ∧ St w0 w' (slc 1 x.1 (ints (kidsT l i j)) :: L)) (fun x _ => (l.length - x.2).toNat) ⟨0, rfl, by omega, h.nilS 1⟩ ?_
  rintro ⟨sk, _⟩ w' ⟨j, rfl, hj, h⟩ C hC
  dsimp only at h ⊢
  have hsl := h.slen (sz := 1) (s := sk)
  have hkl := kidsT_len (l := l) (i := i) (n := j)
  have hsn : sk.n = (kidsT l i j).length := by simp [ints] at hsl; omega
  have ew : IntKind.wrap .i64 ((j : Int) + 1) = ((j + 1 : Nat) : Int) := by rw [wrap_id ⟨by omega, by omega⟩]; simp
  rw [hn]
  refine iteB_i (fun hb => ?_) fun hb => ?_
  · have hlt : j < l.length := by have := of_decide_eq_true hb; omega
    refine tI_h (j := 0) hT h (by omega) (by omega) rfl ?_
    refine iteB_i (fun hb => ?_) fun hb => ?_
    · refine newC_h h fun g10 w11 h => ?_
      refine bApp_h (s := sk) (vs := ints (kidsT l i j)) (x := ⟨some ⟨g10, 0, none⟩, 1, 1⟩) (ys := [.int .i64 j]) h (Ck.elI (by kernel_rfl)) (by kernel_rfl) (blk_sls (n := 1) (l := [.int .i64 j]) (h.blk (g := g10)) rfl 1) (by simp [Value.oneCell']) (by simp only; omega) (by simp only; omega) fun s12 w13 h n12 => ?_
      rw [ew]
      refine hC _ _ ⟨j + 1, rfl, by omega, ?_⟩ (by dsimp only; omega)
      have h := h.drop
      rw [kidsT_succ, if_pos (show ((rowAt l j).par == i) = true from hb)]
      have e : ints (kidsT l i j ++ [(j : Int)]) = ints (kidsT l i j) ++ [.int .i64 j] := by simp [ints]
      rw [e]; exact h
    · rw [ew]
      refine hC _ _ ⟨j + 1, rfl, by omega, ?_⟩ (by dsimp only; omega)
      rw [kidsT_succ, if_neg (by rw [show ((rowAt l j).par == i) = false from hb]; decide), List.append_nil]; exact h
  · have : j = l.length := by have := of_decide_eq_false hb; omega
    subst this
    exact hk sk _ h hsn
end
end Go.Proofs.YtgkfbagclkjilaaGreatDoor.Ft
namespace Go.Proofs.YtgkfbagclkjilaaGreatDoor.Ft
open Go Go.Ev Go.Proofs Go.Proofs.YtgkfbagclkjilaaGreatDoor
open Go.Proofs.YtgkfbagclkjilaaGreatDoor.Fr (fTo fOn fPlain fForked fJoined fClosed fChild fRoot fR isB fTo_len fOn_len fPlain_len fForked_len fJoined_len fClosed_len)
open Go.Proofs.YtgkfbagclkjilaaGreatDoor.Ck (opI Walk Accs needsOf isGoes heldL depths stepD handlesOk subBits scopesOk forks)
section
variable {w0 w : World} {L : List HP} {sz : Nat} {s : Sl} {vs : List Value} {f : HP → List HP}
theorem ixLdA_h {i : Int} {c : Array Value → Prop} (h : St w0 w L) [a : At L (slc sz s) vs f] (hsz : 0 < sz) (h0 : 0 ≤ i) (h1 : i < s.n)
    (hc : c ((vs.drop (i.toNat * sz)).take sz).toArray) : ixS s i sz fun a => ldA sz w a c := by
  refine ixS_h h hsz h0 h1 fun g o _ hr _ => ?_
  have hlen := h.slen (sz := sz) (s := s) (vs := vs)
  have hlt : i.toNat * sz + sz ≤ s.n * sz := by
    rw [← Nat.succ_mul]; exact Nat.mul_le_mul_right _ (by omega)
  have hl : ((vs.drop (i.toNat * sz)).take sz).length = sz := by simp; omega
  refine ldA_c hl (fun j v hv => ?_) hc
  have hj : j < sz := by have := (List.getElem?_eq_some_iff.1 hv).1; omega
  rw [List.getElem?_take_of_lt hj, List.getElem?_drop] at hv
  rw [add_mk]
  exact hr h j v hj hv
theorem ixStA_h {i : Int} {x : Array Value} {c : World → Prop} (h : St w0 w L) [a : At L (slc sz s) vs f] (hsz : 0 < sz) (h0 : 0 ≤ i) (h1 : i < s.n) (hx : x.size = sz) (hone : ∀ v ∈ x, v.oneCell' = true)
    (hc : ∀ w', St w0 w' (f (slc sz s (vs.take (i.toNat * sz) ++ (x.toList ++ vs.drop (i.toNat * sz + sz))))) → c w') : ixS s i sz fun a => stA sz w a x c := by
  have ho : OwnS sz w s vs := h.own
  have hi : i.toNat < s.n := by omega
  have hlt : i.toNat * sz + sz ≤ s.n * sz := by
    rw [← Nat.succ_mul]; exact Nat.mul_le_mul_right _ hi
  have hcsz : s.n * sz ≤ s.c * sz := Nat.mul_le_mul_right _ ho.cap
  have hvl := ho.len
  rcases ho.row with ⟨h2, h3⟩ | ⟨g, off, cs, h2, h3, h4, h5⟩
  · have := ho.cap; omega
  · unfold ixS
    rw [h2]
    refine ⟨⟨h0, h1⟩, ?_⟩
    rw [add_mk]
    refine stA_i h3 hx (by omega) hone fun w' cs' k1 k2 k3 k4 k5 k6 => hc w' (h.turn' a fun F1 hF => ⟨k5.mono fun k _ hk => (hF.1 k).2 (by simp [Sl.blk, h2, hk]), F1, ⟨hF.1, ?_⟩, fun k hk => .inl hk⟩)
    have hxl : x.toList.length = sz := by simpa using hx
    refine ⟨by simp only [List.length_append, List.length_take, List.length_drop, hxl]; omega, ho.cap, ho.max, fun v hv => ?_, .inr ⟨g, off, cs', h2, k1, by omega, fun k u hk => ?_⟩⟩
    · rcases List.mem_append.1 hv with hv | hv
      · exact ho.one v (List.mem_of_mem_take hv)
      · rcases List.mem_append.1 hv with hv | hv
        · exact hone v (by simpa using hv)
        · exact ho.one v (List.mem_of_mem_drop hv)
    · by_cases q1 : k < i.toNat * sz
      · rw [List.getElem?_append_left (by simp; omega), List.getElem?_take_of_lt q1] at hk
        rw [k3 _ (by omega)]; exact h5 k u hk
      · rw [List.getElem?_append_right (by simp; omega)] at hk
        simp only [List.length_take] at hk
        rw [show k - min (i.toNat * sz) vs.length = k - i.toNat * sz by omega] at hk
        by_cases q2 : k < i.toNat * sz + sz
        · rw [List.getElem?_append_left (by omega)] at hk
          have := k4 (k - i.toNat * sz) (by omega)
          rw [show off + i.toNat * sz + (k - i.toNat * sz) = off + k by omega] at this
          rw [this]; simpa using hk
        · rw [List.getElem?_append_right (by omega), List.getElem?_drop, hxl] at hk
          rw [show i.toNat * sz + sz + (k - i.toNat * sz - sz) = k by omega] at hk
          rw [k3 _ (by omega)]; exact h5 k u hk
end
theorem flat_chunk {A : Type} {sz : Nat} : ∀ {es : List (List A)} {i : Nat} {e : List A}, (∀ e ∈ es, e.length = sz) → es[i]? = some e → (es.flatten.drop (i * sz)).take sz = e
  | x :: es, 0, e, h, he => by
    simp at he; subst he
    have := h x (by simp)
    simp [← this]
  | x :: es, i + 1, e, h, he => by
    have hx := h x (by simp)
    rw [List.flatten_cons, List.drop_append, hx, List.drop_of_length_le (by rw [hx, Nat.succ_mul]; omega), List.nil_append, show (i + 1) * sz - sz = i * sz by rw [Nat.succ_mul]; omega]
    exact flat_chunk (fun e he => h e (by simp [he])) (by simpa using he)
theorem flat_put {A : Type} {sz : Nat} {x : List A} : ∀ {es : List (List A)} {i : Nat}, (∀ e ∈ es, e.length = sz) → i < es.length → es.flatten.take (i * sz) ++ (x ++ es.flatten.drop (i * sz + sz)) = (es.set i x).flatten
  | y :: es, 0, h, hi => by
    have hy := h y (by simp)
    rw [Nat.zero_mul, List.take_zero, List.nil_append, Nat.zero_add, List.flatten_cons, List.drop_append, hy, List.drop_of_length_le (by omega), List.nil_append, Nat.sub_self, List.drop_zero]; rfl
  | y :: es, i + 1, h, hi => by
    have hy := h y (by simp)
    rw [List.flatten_cons, List.take_append, hy, List.take_of_length_le (by rw [hy, Nat.succ_mul]; omega), List.drop_append, hy, List.drop_of_length_le (by rw [hy, Nat.succ_mul]; omega), List.nil_append, show (i + 1) * sz - sz = i * sz by rw [Nat.succ_mul]; omega, show (i + 1) * sz + sz - sz = i * sz + sz by rw [Nat.succ_mul]; omega, List.append_assoc, flat_put (fun e he => h e (by simp [he])) (by simpa using hi)]
    rfl
end Go.Proofs.YtgkfbagclkjilaaGreatDoor.Ft
namespace Go.Proofs.YtgkfbagclkjilaaGreatDoor.Ft
open Go Go.Ev Go.Proofs Go.Proofs.YtgkfbagclkjilaaGreatDoor
open Go.Proofs.YtgkfbagclkjilaaGreatDoor.Fr (fTo fOn fPlain fForked fJoined fClosed fChild fRoot fR isB fTo_len fOn_len fPlain_len fForked_len fJoined_len fClosed_len)
open Go.Proofs.YtgkfbagclkjilaaGreatDoor.Ck (opI Walk Accs needsOf isGoes heldL depths stepD handlesOk subBits scopesOk forks)
section
variable {P : List FnR} {l : List Rb} {row i : Int} {r r' : Rn} {b b' : Bk}
end
end Go.Proofs.YtgkfbagclkjilaaGreatDoor.Ft
namespace Go.Proofs.YtgkfbagclkjilaaGreatDoor.Ft
open Go Go.Ev Go.Proofs Go.Proofs.YtgkfbagclkjilaaGreatDoor
open Go.Proofs.YtgkfbagclkjilaaGreatDoor.Fr (fTo fOn fPlain fForked fJoined fClosed fChild fRoot fR isB fTo_len fOn_len fPlain_len fForked_len fJoined_len fClosed_len)
open Go.Proofs.YtgkfbagclkjilaaGreatDoor.Ck (opI Walk Accs needsOf isGoes heldL depths stepD handlesOk subBits scopesOk forks)
section
variable {P : List FnR} {l m : List Rb} {t row i : Int} {r r' : Rn} {b b' c c' : Bk} {q : Bool} {inn : Int × Int} {n : Nat} {ks : List Int}
structure Tw (l m : List Rb) (t : Int) : Prop where
  len : m.length = l.length
  par : ∀ i, (rowAt m i).par = (rowAt l i).par
  kind : ∀ i, (rowAt m i).kind = (rowAt l i).kind
  same : ∀ i, 0 ≤ i → i ≠ t → rowAt m i = rowAt l i
theorem Tw.kids (h : Tw l m t) : kidsL m i = kidsL l i := by
  unfold kidsL
  rw [h.len]
  congr 1
  refine List.filter_congr fun k _ => ?_
  rw [h.par]
theorem frun_over (hk : r.kind ≠ 0) : frun P l q row (n + 1) r b = none := by
  rw [frun_succ]
  unfold fstp
  rw [if_pos hk]
theorem ri_start {Q : Int → Prop} {x : List Int × (Int × Int)} (hb : BI P Q b) (hi : 0 ≤ i) (hx : b.beg i = some x) (K : List Int) (hK : ∀ k ∈ K, Q k) :
    RI P Q i x.2 0 { rn0 l i x with kids := K } { b with sc := upd b.sc (i, 0) (x.2, false) } [0] ∧ BI P Q { b with sc := upd b.sc (i, 0) (x.2, false) } := by
  obtain ⟨hF, hin, hlt⟩ := hb.beg i x hx
  refine ⟨⟨hF.b, fun _ => hF, ⟨rfl, false, ?_⟩, rfl, ⟨Int.le_refl _, Int.le_refl _⟩, hK⟩, bi_sc hb (hb.sc.upd_of ⟨hi, Int.le_refl _⟩ ?_)⟩
  · show upd _ _ _ _ = _
    unfold upd; rw [if_pos rfl]
  · exact hin.imp id fun q => ⟨q, .inl hlt⟩
theorem bk_upd {s s' : Int × Int} {x : (Int × Int) × Bool} {g : Int → Option (List Int × (Int × Int))} : Bk.s ⟨g, upd b.sc s x⟩ s' = if s' = s then x else b.s s' := by
  unfold Bk.s upd
  dsimp only
  split <;> rfl
end
end Go.Proofs.YtgkfbagclkjilaaGreatDoor.Ft
namespace Go.Proofs.YtgkfbagclkjilaaGreatDoor.Ft
open Go Go.Ev Go.Proofs Go.Proofs.YtgkfbagclkjilaaGreatDoor
open Go.Proofs.YtgkfbagclkjilaaGreatDoor.Fr (fTo fOn fPlain fForked fJoined fClosed fChild fRoot fR isB fTo_len fOn_len fPlain_len fForked_len fJoined_len fClosed_len)
open Go.Proofs.YtgkfbagclkjilaaGreatDoor.Ck (opI Walk Accs needsOf isGoes heldL depths stepD handlesOk subBits scopesOk forks)
abbrev Key := Int × Int
def idxK (s : Key) : List Key → Nat
  | [] => 0
  | x :: r => if x = s then 0 else idxK s r + 1
theorem idxK_at {s : Key} : ∀ {K : List Key}, s ∈ K → K[idxK s K]? = some s
  | x :: r, h => by
    unfold idxK
    split
    · rename_i e; rw [e]; rfl
    · rename_i e
      rcases List.mem_cons.1 h with q | q
      · exact absurd q.symm e
      · rw [List.getElem?_cons_succ]; exact idxK_at q
theorem idxK_lt {s : Key} {K : List Key} (h : s ∈ K) : idxK s K < K.length := (List.getElem?_eq_some_iff.1 (idxK_at h)).1
theorem idxK_app {s : Key} {r : List Key} : ∀ {K : List Key}, s ∈ K → idxK s (K ++ r) = idxK s K
  | x :: K, h => by
    rw [List.cons_append]
    unfold idxK
    split
    · rfl
    · rename_i e
      rcases List.mem_cons.1 h with q | q
      · exact absurd q.symm e
      · rw [idxK_app q]
theorem idxK_new {s : Key} : ∀ {K : List Key}, s ∉ K → idxK s (K ++ [s]) = K.length
  | [], _ => by unfold idxK; simp
  | x :: K, h => by
    rw [List.cons_append]
    unfold idxK
    rw [if_neg (fun e => h (by rw [e]; simp)), idxK_new (fun q => h (by simp [q]))]; rfl
theorem nodup_get {A : Type} {t : A} : ∀ {K : List A} {i j : Nat}, K.Nodup → K[i]? = some t → K[j]? = some t → i = j
  | [], i, j, _, h, _ => by simp at h
  | x :: K, 0, 0, _, _, _ => rfl
  | x :: K, 0, j + 1, hn, h1, h2 => by
    simp at h1; subst h1
    rw [List.getElem?_cons_succ] at h2
    exact absurd (List.mem_of_getElem? h2) (List.nodup_cons.1 hn).1
  | x :: K, i + 1, 0, hn, h1, h2 => by
    simp at h2; subst h2
    rw [List.getElem?_cons_succ] at h1
    exact absurd (List.mem_of_getElem? h1) (List.nodup_cons.1 hn).1
  | x :: K, i + 1, j + 1, hn, h1, h2 => by
    rw [List.getElem?_cons_succ] at h1 h2
    rw [nodup_get (List.nodup_cons.1 hn).2 h1 h2]
def scV (b : Bk) (K : List Key) (s : Key) : List Value := if s = (-1, 0) then [.int .i64 (-1), .bool false] else [.int .i64 ((idxK (b.s s).1 K : Nat) : Int), .bool (b.s s).2]
def scsV (b : Bk) (K : List Key) : List Value := (K.map (scV b K)).flatten
structure KI (b : Bk) (K : List Key) : Prop where
  w0 : K.head? = some (-1, 0)
  nd : K.Nodup
  mem : ∀ s, s ∈ K ↔ (s = (-1, 0) ∨ (b.sc s).isSome = true)
  up : ∀ s x, b.sc s = some x → x.1 ∈ K
def bgV (b : Bk) (K : List Key) (j : Int) : List Value := match b.beg j with
  | some x => ints x.1 ++ [.int .i64 x.2.2, .int .i64 ((idxK x.2 K : Nat) : Int)]
  | none => ints (List.replicate 21 0)
def begsV (b : Bk) (K : List Key) (n : Nat) : List Value := ((List.range n).map fun j : Nat => bgV b K (j : Int)).flatten
def rbookV (ps ls sB sS : Sl) (q : Bool) : List Value := [.slice ps.a ps.n ps.c, .slice ls.a ls.n ls.c, .slice sB.a sB.n sB.c, .slice sS.a sS.n sS.c, .bool q]
def rrunV (r : Rn) (sk so sz : Sl) (used closes : Nat) : List Value := ints r.f ++ [.slice sk.a sk.n sk.c, .int .i64 (used : Int), .int .i64 (closes : Int), .slice so.a so.n so.c, .slice sz.a sz.n sz.c, .int .i64 r.opened, .int .i64 r.kind, .int .i64 r.v]
theorem scV_len {b : Bk} {K : List Key} {s : Key} : (scV b K s).length = 2 := by unfold scV; split <;> rfl
theorem scsV_len {b : Bk} {K : List Key} : (scsV b K).length = K.length * 2 := by
  unfold scsV
  rw [Ck.flat_len (sz := 2) (fun e he => by obtain ⟨s, _, rfl⟩ := List.mem_map.1 he; exact scV_len), List.length_map]
theorem scsV_get {b : Bk} {K : List Key} {s : Key} {i j : Nat} (h : K[i]? = some s) (hj : j < 2) : (scsV b K)[i * 2 + j]? = (scV b K s)[j]? := by
  unfold scsV
  refine Ck.flat_get (fun e he => by obtain ⟨s, _, rfl⟩ := List.mem_map.1 he; exact scV_len) (by rw [List.getElem?_map, h]; rfl) hj
theorem bgV_len {b : Bk} {K : List Key} {j : Int} (h : ∀ x, b.beg j = some x → x.1.length = 19) : (bgV b K j).length = 21 := by
  unfold bgV
  split
  · rename_i x hx
    simp [ints, h x hx]
  · simp [ints]
theorem elSc : ElS Go.Proofs.Tryz.prog 51 2 16 (.agg #[.int .i64 0, .bool false]) := ⟨by kernel_rfl, rfl⟩
section
variable {w0 w : World} {L R : List HP} {gb : Nat} {ps ls sB sS : Sl} {q : Bool} {b : Bk} {K : List Key}
theorem rscope_s {around : Int} {vs : List Value} {k : Int → World → Prop} (h : St w0 w (blk gb (rbookV ps ls sB sS q) :: slc 2 sS vs :: R)) (hn : sS.n < 100000000)
    (hk : ∀ s' w', St w0 w' (blk gb (rbookV ps ls sB s' q) :: slc 2 s' (vs ++ [.int .i64 around, .bool false]) :: R) → s'.n = sS.n + 1 → k (sS.n : Int) w') : pelotonref08_Book_scope (some ⟨gb, 0, none⟩) around w k := by
  unfold pelotonref08_Book_scope
  refine nn_i ?_
  refine ldS_h (g := gb) (o := 0 + 3) h rfl ?_
  refine spl_i #[.int .i64 around, .bool false] rfl rfl ?_
  refine newC_h h fun g4 w5 h => ?_
  refine bApp_h (s := sS) (vs := vs) (x := ⟨some ⟨g4, 0, none⟩, 1, 1⟩) (ys := [.int .i64 around, .bool false]) h elSc (by kernel_rfl) (blk_slsN (n := 1) (l := [.int .i64 around, .bool false]) (h.blk (g := g4)) rfl 1) (by intro v hv; simp at hv; rcases hv with rfl | rfl <;> rfl) (by simp only; omega) (by simp only; omega) fun s6 w7 h n6 => ?_
  have h := h.drop
  refine nn_i ?_
  refine stC_h (g := gb) (o := 0 + 3) h rfl (by simp [rbookV]) fun w9 h => ?_
  refine nn_i ?_
  refine ldS_h (g := gb) (o := 0 + 3) h rfl ?_
  have h : St w0 w9 (blk gb (rbookV ps ls sB s6 q) :: slc 2 s6 (vs ++ [.int .i64 around, .bool false]) :: R) := h
  have n6' : s6.n = sS.n + 1 := n6
  have ew : IntKind.wrap .i64 (((s6.n : Nat) : Int) - (1 : Int)) = (sS.n : Int) := by rw [wrap_id ⟨by omega, by omega⟩]; omega
  show k (IntKind.wrap .i64 (((s6.n : Nat) : Int) - (1 : Int))) w9
  rw [ew]
  exact hk s6 w9 h n6'
theorem KI.zero (h : KI b K) : K[0]? = some (-1, 0) := by rw [← List.head?_eq_getElem?]; exact h.w0
theorem rasked_s {s : Key} {x : Bool} {k : Bool → World → Prop} {f f2 : HP → List HP} (h : St w0 w L) [a1 : At L (blk gb) (rbookV ps ls sB sS q) f] [a2 : At L (slc 2 sS) (scsV b K) f2] (hK : KI b K) (ha : Ask b.sc s x) (hs : s ∈ K) (hk : k x w) : pelotonref08_Book_asked (some ⟨gb, 0, none⟩) (idxK s K : Nat) w k := by
  unfold pelotonref08_Book_asked
  obtain ⟨n, ha⟩ := ha.h
  have hsl := h.slen (sz := 2) (s := sS) (vs := scsV b K)
  rw [scsV_len] at hsl
  have hn : sS.n = K.length := by omega
  refine loopN (fun n (i : Int) w' => w' = w ∧ ((i = -1 ∧ x = false) ∨ ∃ s : Key, i = (idxK s K : Nat) ∧ s ∈ K ∧ (∃ m, n = m + 1 ∧ AskH b.sc m s x))) (n := n + 1) ⟨rfl, .inr ⟨s, rfl, hs, n, rfl, ha⟩⟩ ?_
  rintro n i w3 ⟨rfl, hi⟩ C hC
  rcases hi with ⟨rfl, rfl⟩ | ⟨s, rfl, hs, m, rfl, ha⟩
  · refine iteB_f rfl hk
  · refine iteB_t (by simp) ?_
    refine nn_i ?_
    refine ldS_h (g := gb) (o := 0 + 3) h rfl ?_
    have hlt := idxK_lt hs
    have hget := idxK_at hs
    refine ixS_h (sz := 2) (s := sS) (vs := scsV b K) h (by decide) (by omega) (by omega) fun ga o _ hrd _ => ?_
    rw [Int.toNat_natCast] at hrd
    by_cases e : s = (-1, 0)
    · have e1 : (scV b K s)[1]? = some (.bool false) := by unfold scV; rw [if_pos e]; rfl
      have e0 : (scV b K s)[0]? = some (.int .i64 (-1)) := by unfold scV; rw [if_pos e]; rfl
      refine ldB_i (hrd h 1 _ (by decide) (by rw [scsV_get hget (by decide)]; exact e1)) ?_
      refine iteB_f rfl ?_
      refine nn_i ?_
      refine ldS_h (g := gb) (o := 0 + 3) h rfl ?_
      refine ixS_h (sz := 2) (s := sS) (vs := scsV b K) h (by decide) (by omega) (by omega) fun ga o _ hrd _ => ?_
      rw [Int.toNat_natCast] at hrd
      have h0 := hrd h 0 _ (by decide) (by rw [scsV_get hget (by decide)]; exact e0)
      refine ldI_i h0 ?_
      have hx : x = false := by
        cases ha with
        | world => rfl
        | yes n _ => exact absurd e n
        | up n _ _ => exact absurd e n
      exact hC m _ _ (Nat.lt_succ_self _) ⟨rfl, .inl ⟨rfl, hx⟩⟩
    · have e1 : (scV b K s)[1]? = some (.bool (b.s s).2) := by unfold scV; rw [if_neg e]; rfl
      have e0 : (scV b K s)[0]? = some (.int .i64 ((idxK (b.s s).1 K : Nat) : Int)) := by unfold scV; rw [if_neg e]; rfl
      refine ldB_i (hrd h 1 _ (by decide) (by rw [scsV_get hget (by decide)]; exact e1)) ?_
      cases ha with
      | world => exact absurd rfl e
      | yes _ hx =>
        rw [bk_s hx]
        exact iteB_t rfl hk
      | @up m' _ a _ _ hx ha =>
        rw [bk_s hx]
        refine iteB_f rfl ?_
        refine nn_i ?_
        refine ldS_h (g := gb) (o := 0 + 3) h rfl ?_
        refine ixS_h (sz := 2) (s := sS) (vs := scsV b K) h (by decide) (by omega) (by omega) fun ga o _ hrd _ => ?_
        rw [Int.toNat_natCast] at hrd
        have h0 := hrd h 0 _ (by decide) (by rw [scsV_get hget (by decide)]; exact e0)
        rw [bk_s hx] at h0
        refine ldI_i h0 ?_
        exact hC (m' + 1) _ _ (by omega) ⟨rfl, .inr ⟨a, rfl, hK.up _ _ hx, m', rfl, ha⟩⟩
theorem KI.app {s a : Key} (hK : KI b K) (hs : s ∉ K) (ha : a ∈ K) {g : Int → Option (List Int × (Int × Int))} : KI ⟨g, upd b.sc s (a, false)⟩ (K ++ [s]) := by
  have hne : s ≠ (-1, 0) := fun e => hs (by rw [e]; exact (hK.mem _).2 (.inl rfl))
  refine ⟨?_, ?_, fun t => ?_, fun t x hx => ?_⟩
  · have := hK.w0
    cases hk : K with
    | nil => rw [hk] at this; cases this
    | cons y r => rw [hk] at this; exact this
  · rw [List.nodup_append]
    refine ⟨hK.nd, by simp, fun x hx y hy e => ?_⟩
    simp at hy
    rw [e, hy] at hx; exact hs hx
  · dsimp only
    unfold upd
    rw [List.mem_append, hK.mem t]
    constructor
    · rintro (h | h)
      · rcases h with h | h
        · exact .inl h
        · right; split <;> simp_all
      · simp at h; right; rw [if_pos h]; rfl
    · rintro (h | h)
      · exact .inl (.inl h)
      · split at h
        · right; simp_all
        · exact .inl (.inr h)
  · dsimp only at hx
    unfold upd at hx
    rw [List.mem_append]
    split at hx
    · cases hx; exact .inl ha
    · exact .inl (hK.up t x hx)
theorem scsV_app {s a : Key} (hK : KI b K) (hs : s ∉ K) (ha : a ∈ K) {g : Int → Option (List Int × (Int × Int))} : scsV ⟨g, upd b.sc s (a, false)⟩ (K ++ [s]) = scsV b K ++ [.int .i64 ((idxK a K : Nat) : Int), .bool false] := by
  have hne : s ≠ (-1, 0) := fun e => hs (by rw [e]; exact (hK.mem _).2 (.inl rfl))
  unfold scsV
  rw [List.map_append, List.flatten_append]
  congr 1
  · congr 1
    refine List.map_congr_left fun t ht => ?_
    unfold scV
    have hts : t ≠ s := fun e => hs (by rw [← e]; exact ht)
    split
    · rfl
    · rename_i hne'
      rw [bk_upd, if_neg hts]
      have hx : (b.s t).1 ∈ K := by
        rcases (hK.mem t).1 ht with e | e
        · exact absurd e hne'
        · obtain ⟨x, hx⟩ := Option.isSome_iff_exists.1 e
          rw [bk_s hx]; exact hK.up _ _ hx
      rw [idxK_app hx]
  · simp only [List.map_cons, List.map_nil, List.flatten_cons, List.flatten_nil, List.append_nil]
    unfold scV
    rw [if_neg hne, bk_upd, if_pos rfl, idxK_app ha]
theorem bgV_app {s : Key} {sc' : Key → Option (Key × Bool)} {j : Int} (h : ∀ x, b.beg j = some x → x.2 ∈ K) : bgV ⟨b.beg, sc'⟩ (K ++ [s]) j = bgV b K j := by
  unfold bgV
  dsimp only
  split
  · rename_i x hx
    rw [idxK_app (h x hx)]
  · rfl
theorem begsV_app {s : Key} {sc' : Key → Option (Key × Bool)} {n : Nat} (h : ∀ j x, b.beg j = some x → x.2 ∈ K) : begsV ⟨b.beg, sc'⟩ (K ++ [s]) n = begsV b K n := by
  unfold begsV
  congr 1
  refine List.map_congr_left fun j _ => bgV_app (h j)
theorem begsV_len {n : Nat} (h : ∀ j x, b.beg j = some x → x.1.length = 19) : (begsV b K n).length = n * 21 := by
  unfold begsV
  rw [Ck.flat_len (sz := 21) (fun e he => by obtain ⟨j, _, rfl⟩ := List.mem_map.1 he; exact bgV_len (h j)), List.length_map, List.length_range]
theorem begsV_rows {n : Nat} (h : ∀ j x, b.beg j = some x → x.1.length = 19) : ∀ e ∈ (List.range n).map fun j : Nat => bgV b K (j : Int), e.length = 21 := fun e he => by
  obtain ⟨j, _, rfl⟩ := List.mem_map.1 he; exact bgV_len (h j)
theorem scsV_ask {s a : Key} {x : Bool} (hK : KI b K) (hx : b.sc s = some (a, x)) (hne : s ≠ (-1, 0)) : scsV { b with sc := upd b.sc s (a, true) } K = (scsV b K).set (idxK s K * 2 + 1) (.bool true) := by
  have hs : s ∈ K := (hK.mem s).2 (.inr (by rw [hx]; rfl))
  have hget := idxK_at hs
  have hlt := idxK_lt hs
  unfold scsV
  have e1 : (K.map (scV b K))[idxK s K]? = some (scV b K s) := by rw [List.getElem?_map, hget]; rfl
  rw [Ck.flat_set (fun e he => by obtain ⟨s, _, rfl⟩ := List.mem_map.1 he; exact scV_len) e1 (by decide)]
  congr 1
  refine List.ext_getElem? fun i => ?_
  rw [List.getElem?_map, List.getElem?_set, List.getElem?_map, List.length_map]
  by_cases e : idxK s K = i
  · subst e
    rw [if_pos rfl, if_pos hlt, hget]
    simp only [Option.map_some]
    unfold scV
    rw [if_neg hne, if_neg hne, bk_upd, if_pos rfl, bk_s hx]; rfl
  · rw [if_neg e]
    cases hi : K[i]? with
    | none => rfl
    | some t =>
      have hts : t ≠ s := fun q => by
        subst q
        have := nodup_get hK.nd hi hget
        exact e this.symm
      simp only [Option.map_some]
      unfold scV
      split
      · rfl
      · rw [bk_upd, if_neg hts]
theorem KI.ask {s a : Key} {x : Bool} (hK : KI b K) (hx : b.sc s = some (a, x)) : KI { b with sc := upd b.sc s (a, true) } K := by
  refine ⟨hK.w0, hK.nd, fun t => ?_, fun t y hy => ?_⟩
  · rw [hK.mem t]
    dsimp only
    unfold upd
    by_cases e : t = s
    · rw [if_pos e, e, hx]; simp
    · rw [if_neg e]
  · dsimp only at hy
    unfold upd at hy
    split at hy
    · rename_i e; cases hy; show a ∈ K; exact hK.up _ _ hx
    · exact hK.up t y hy
end
end Go.Proofs.YtgkfbagclkjilaaGreatDoor.Ft
