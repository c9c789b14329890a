/-
  Memory, as the proofs over the evaluator speak of it: blocks, slices that are read, slices that are owned; a rule for each primitive.
-/
import Derived.Test.YtgkfbagclkjilaaEvH
import Derived.Deep.AppendSrc
import Derived.Laws.MakeOwn
import Derived.Laws.CopyRow
set_option linter.unusedSimpArgs false
namespace Go.Ev
open Go Go.RowKit

/-! ### worlds -/
/-- only blocks of S have turned, of those that were there -/
structure Only (S : Nat → Prop) (w w' : World) : Prop where
  os : w'.os = w.os
  tape : w'.tape = w.tape
  output : w'.output = w.output
  size : w.heap.size ≤ w'.heap.size
  block : ∀ k, k < w.heap.size → ¬ S k → w'.heap[k]? = w.heap[k]?

/-- nothing that was there has turned -/
abbrev Ext (w w' : World) : Prop := Only (fun _ => False) w w'

theorem Only.refl (S : Nat → Prop) (w : World) : Only S w w := ⟨rfl, rfl, rfl, Nat.le_refl _, fun _ _ _ => rfl⟩
theorem Only.trans {S T U : Nat → Prop} {a b c : World} (h : Only S a b) (k : Only T b c) (hS : ∀ k, k < a.heap.size → S k → U k) (hT : ∀ k, k < a.heap.size → T k → U k) : Only U a c :=
  ⟨k.os.trans h.os, k.tape.trans h.tape, k.output.trans h.output, Nat.le_trans h.size k.size, fun i hi hU =>
    (k.block i (Nat.lt_of_lt_of_le hi h.size) (fun hx => hU (hT i hi hx))).trans (h.block i hi (fun hx => hU (hS i hi hx)))⟩
theorem Only.mono {S T : Nat → Prop} {a b : World} (h : Only S a b) (hS : ∀ k, k < a.heap.size → S k → T k) : Only T a b := ⟨h.os, h.tape, h.output, h.size, fun k hk hT => h.block k hk fun hx => hT (hS k hk hx)⟩
theorem Ext.trans {a b c : World} (h : Ext a b) (k : Ext b c) : Ext a c := Only.trans h k (fun _ _ h => h) (fun _ _ h => h)
theorem Ext.only {S : Nat → Prop} {a b : World} (h : Ext a b) : Only S a b := Only.mono h fun _ _ h => h.elim
theorem Only.below {S : Nat → Prop} {w w' : World} {B : Nat} (h : Only S w w') (hB : B ≤ w.heap.size) (hS : ∀ k, S k → B ≤ k) : Below B w w' :=
  ⟨h.os, h.tape, h.output, h.size, fun k hk => h.block k (Nat.lt_of_lt_of_le hk hB) fun hx => by have := hS k hx; omega⟩
theorem Ext.below {w w' : World} (h : Ext w w') : Below w.heap.size w w' := Only.below h (Nat.le_refl _) fun _ h => h.elim
theorem Only.of_below {w w' : World} {B : Nat} (h : Below B w w') : Only (fun k => B ≤ k) w w' := ⟨h.os, h.tape, h.output, h.size, fun k _ hn => h.block k (by omega)⟩

theorem Ext.then {T : Nat → Prop} {a b c : World} (h : Ext a b) (k : Only T b c) (hT : ∀ g, T g → a.heap.size ≤ g) : Ext a c := Only.trans h k (fun _ _ h => h) fun g hg ht => by have := hT g ht; omega
theorem Only.cell {S : Nat → Prop} {w w' : World} (h : Only S w w') {p : Addr} (hS : ¬ S p.block) {v : Value} (hv : w.cell? p = some v) : w'.cell? p = some v :=
  (World.cell?_of_block (h.block p.block (World.block_lt_of_cell? w p hv) hS)).trans hv
theorem Ext.cell {w w' : World} (h : Ext w w') {p : Addr} {v : Value} (hv : w.cell? p = some v) : w'.cell? p = some v := Only.cell h (fun h => h) hv

theorem ext_drew (w : World) : Ext w w.drew := ⟨rfl, rfl, rfl, Nat.le_refl _, fun _ _ _ => rfl⟩
theorem ext_alloc (w : World) (o : Obj) : Ext w (w.alloc o) := ⟨rfl, rfl, rfl, by simp, fun k hk _ => Go.heap_alloc_old w o hk⟩
theorem only_setCell (w : World) (p : Addr) (v : Value) : Only (fun k => k = p.block) w (w.setCell p v) :=
  ⟨rfl, rfl, rfl, by simp [World.setCell], fun k _ hk => heap_setCell_other w p k v hk⟩

@[simp] theorem add_mk (g o n : Nat) : (Addr.mk g o none).add n = ⟨g, o + n, none⟩ := by
  unfold Addr.add; split <;> simp_all

/-! ### blocks -/
def Blk (w : World) (g : Nat) (cs : Array Value) : Prop := ∃ e, w.heap[g]? = some (.cells cs e (0, 0))
theorem Blk.lt {w : World} {g : Nat} {cs : Array Value} (h : Blk w g cs) : g < w.heap.size := by
  obtain ⟨e, h⟩ := h; exact (Array.getElem?_eq_some_iff.1 h).1
theorem Blk.cell {w : World} {g : Nat} {cs : Array Value} (h : Blk w g cs) (i : Nat) : w.cell? ⟨g, i, none⟩ = cs[i]? := by
  obtain ⟨e, h⟩ := h; exact cell_of_row w g i cs e _ h
theorem Blk.frozen {w : World} {g : Nat} {cs : Array Value} (h : Blk w g cs) (i : Nat) : w.frozen? ⟨g, i, none⟩ = false := by
  obtain ⟨e, h⟩ := h; exact frozen_of_row w g i cs e h
theorem Blk.keep {S : Nat → Prop} {w w' : World} {g : Nat} {cs : Array Value} (h : Blk w g cs) (ho : Only S w w') (hg : ¬ S g) : Blk w' g cs := by
  have := ho.block g h.lt hg
  obtain ⟨e, h⟩ := h
  exact ⟨e, this.trans h⟩
theorem Blk.ext {w w' : World} {g : Nat} {cs : Array Value} (h : Blk w g cs) (ho : Ext w w') : Blk w' g cs := h.keep ho fun h => h
theorem Blk.new (w : World) (cs : Array Value) (t : TypeId) : Blk (w.alloc (.cells cs t)) w.heap.size cs := ⟨t, heap_alloc_new w _⟩
theorem Blk.set {w : World} {g : Nat} {cs : Array Value} (h : Blk w g cs) (i : Nat) (v : Value) : Blk (w.setCell ⟨g, i, none⟩ v) g (cs.setIfInBounds i v) := by
  obtain ⟨e, h⟩ := h; exact ⟨e, heap_setCell_same w g i cs e v h⟩

/-! ### rules -/
theorem newC_i {w : World} {cs : Array Value} {t : TypeId} {c : Addr → World → Prop} (h : ∀ g w', g = w.heap.size → w'.heap.size = g + 1 → Blk w' g cs → Ext w w' → c ⟨g, 0, none⟩ w') : newC w cs t c :=
  h _ _ rfl (by simp) (Blk.new w cs t) (ext_alloc w _)
theorem drew_i {w : World} {c : World → Prop} (h : ∀ w', w'.heap = w.heap → Ext w w' → c w') : drew w c := h _ rfl (ext_drew w)
theorem iteB_i {b : Bool} {x y : Prop} (h1 : b = true → x) (h2 : b = false → y) : iteB b x y := by cases b; exact h2 rfl; exact h1 rfl
@[simp] theorem iteB_true (x y : Prop) : iteB true x y = x := rfl
@[simp] theorem iteB_false (x y : Prop) : iteB false x y = y := rfl
theorem iteB_t {b : Bool} {x y : Prop} (hb : b = true) (h : x) : iteB b x y := by subst hb; exact h
theorem iteB_f {b : Bool} {x y : Prop} (hb : b = false) (h : y) : iteB b x y := by subst hb; exact h
theorem joinP_i {S : Type} {body : (S → World → Prop) → Prop} {rest : S → World → Prop} (I : S → World → Prop) (h1 : ∀ J : S → World → Prop, (∀ x w, I x w → J x w) → body J) (h2 : ∀ x w, I x w → rest x w) : joinP body rest := h1 rest h2
theorem joinP_d {S : Type} {body : (S → World → Prop) → Prop} {rest : S → World → Prop} (h : body rest) : joinP body rest := h

theorem ldI_i {k : IntKind} {w : World} {a : Addr} {c : Int → Prop} {n : Int} (h : w.cell? a = some (.int k n)) (hc : c n) : ldI k w a c := by simp [ldI, rd, h, toI, hc]
theorem ldB_i {w : World} {a : Addr} {c : Bool → Prop} {n : Bool} (h : w.cell? a = some (.bool n)) (hc : c n) : ldB w a c := by simp [ldB, rd, h, toB, hc]
theorem ldP_i {w : World} {a : Addr} {c : Option Addr → Prop} {n : Option Addr} (h : w.cell? a = some (.pointer n)) (hc : c n) : ldP w a c := by simp [ldP, rd, h, toP, hc]
theorem ldS_i {w : World} {a : Addr} {c : Sl → Prop} {s : Sl} (h : w.cell? a = some (.slice s.a s.n s.c)) (hc : c s) : ldS w a c := by simp [ldS, rd, h, toS, hc]
theorem stC_i {w : World} {g o : Nat} {cs : Array Value} {v : Value} {c : World → Prop} (h1 : v.oneCell' = true) (hb : Blk w g cs) (ho : o < cs.size)
    (hc : ∀ w', Blk w' g (cs.setIfInBounds o v) → w'.heap.size = w.heap.size → Only (fun k => k = g) w w' → c w') : stC w ⟨g, o, none⟩ v c :=
  ⟨h1, by rw [hb.cell]; simp [ho], hb.frozen o, hc _ (hb.set o v) (by simp [World.setCell]) (only_setCell w ⟨g, o, none⟩ v)⟩

theorem wrap_in {x : Int} (h : -9223372036854775808 ≤ x ∧ x ≤ 9223372036854775807) : IntKind.i64.wrap x = x := IntWalk.i64_in x h
theorem nn_i {a : Addr} {c : Addr → Prop} (h : c a) : nn (some a) c := h
theorem remI_i {x y : Int} {c : Int → Prop} (hy : y ≠ 0) (h : c (x.tmod y)) : remI x y c := ⟨hy, h⟩
theorem divI_i {k : IntKind} {x y : Int} {c : Int → Prop} (hy : y ≠ 0) (h : c (divV k x y)) : divI k x y c := ⟨hy, h⟩
theorem shrI_i {k : IntKind} {x y : Int} {c : Int → Prop} (hy : 0 ≤ y) (h : c (shrV k x y)) : shrI k x y c := ⟨hy, h⟩
theorem shlI_i {k : IntKind} {x y : Int} {c : Int → Prop} (hy : 0 ≤ y) (h : c (shlV k x y)) : shlI k x y c := ⟨hy, h⟩

/-! ### slices that are read (sz cells an element) -/
structure Sls (sz : Nat) (w : World) (s : Sl) (vs : List Value) : Prop where
  len : vs.length = s.n * sz
  cell : ∀ i v, vs[i]? = some v → ∃ p, s.a = some p ∧ w.cell? (p.add i) = some v

theorem Sls.keep {S : Nat → Prop} {sz : Nat} {w w' : World} {s : Sl} {vs : List Value} (h : Sls sz w s vs) (ho : Only S w w') (hs : ∀ p, s.a = some p → ¬ S p.block) : Sls sz w' s vs :=
  ⟨h.len, fun i v hv => by
    obtain ⟨p, hp, hc⟩ := h.cell i v hv
    refine ⟨p, hp, ho.cell ?_ hc⟩
    have : (p.add i).block = p.block := by unfold Addr.add; split <;> rfl
    rw [this]; exact hs p hp⟩
theorem Sls.ext {sz : Nat} {w w' : World} {s : Sl} {vs : List Value} (h : Sls sz w s vs) (ho : Ext w w') : Sls sz w' s vs := h.keep ho fun _ _ h => h
theorem Sls.nil (sz : Nat) (w : World) : Sls sz w ⟨none, 0, 0⟩ [] := ⟨by simp, fun i v h => by simp at h⟩
/-- an element is looked at -/
theorem ixS_i {w : World} {s : Sl} {vs : List Value} {sz : Nat} {i : Int} {c : Addr → Prop} (h : Sls sz w s vs) (hsz : 0 < sz) (h0 : 0 ≤ i) (h1 : i < s.n)
    (hc : ∀ p, s.a = some p → (∀ j v, j < sz → vs[i.toNat * sz + j]? = some v → w.cell? ((p.add (i.toNat * sz)).add j) = some v) → c (p.add (i.toNat * sz))) : ixS s i sz c := by
  have hi : i.toNat < s.n := by omega
  have hlt : i.toNat * sz < vs.length := by rw [h.len]; exact Nat.mul_lt_mul_of_pos_right hi hsz
  obtain ⟨p, hp, _⟩ := h.cell (i.toNat * sz) vs[i.toNat * sz] (by simp [hlt])
  unfold ixS
  rw [hp]
  refine ⟨⟨h0, h1⟩, hc p hp fun j v hj hv => ?_⟩
  obtain ⟨q, hq, hcell⟩ := h.cell _ v hv
  rw [hp] at hq; cases hq
  have : (p.add (i.toNat * sz)).add j = p.add (i.toNat * sz + j) := by
    unfold Addr.add
    by_cases h1 : i.toNat * sz = 0 <;> by_cases h2 : j = 0 <;> simp_all [Nat.add_assoc]
  rw [this]; exact hcell
/-- a slice of ints -/
abbrev ints (xs : List Int) : List Value := xs.map (Value.int .i64)
abbrev SlI (w : World) (s : Sl) (xs : List Int) : Prop := Sls 1 w s (ints xs)
theorem SlI.len {w : World} {s : Sl} {xs : List Int} (h : SlI w s xs) : s.n = xs.length := by have := Sls.len h; simp at this; omega
theorem ixI {w w2 : World} {s : Sl} {xs : List Int} {i : Int} {c : Int → Prop} (h : SlI w s xs) (h0 : 0 ≤ i) (h1 : i < s.n) (hw : Ext w w2) (hc : ∀ x, xs[i.toNat]? = some x → c x) : ixS s i 1 fun a => ldI .i64 w2 a c := by
  refine ixS_i h (by omega) h0 h1 fun p _ hcell => ?_
  have hlen := SlI.len h
  have hlt : i.toNat < xs.length := by omega
  have := hcell 0 (.int .i64 xs[i.toNat]) (by omega) (by simp [hlt])
  exact ldI_i (hw.cell (by simpa [add_zero] using this)) (hc _ (by simp [hlt]))

/-! ### slices that are owned (one cell an element) -/
def Sl.blk (s : Sl) : Option Nat := s.a.map (·.block)
structure Own (w : World) (B : Nat) (s : Sl) (xs : List Value) : Prop where
  len : xs.length = s.n
  cap : s.n ≤ s.c
  max : s.c ≤ 9223372036854775807
  one : ∀ x ∈ xs, x.oneCell' = true
  row : (s.a = none ∧ s.c = 0) ∨ ∃ g off cs, s.a = some ⟨g, off, none⟩ ∧ B ≤ g ∧ Blk w g cs ∧ off + s.c ≤ cs.size ∧ ∀ i v, xs[i]? = some v → cs[off + i]? = some v

theorem Own.nil (w : World) (B : Nat) : Own w B ⟨none, 0, 0⟩ [] := ⟨rfl, Nat.le_refl _, by simp, by simp, .inl ⟨rfl, rfl⟩⟩
theorem Own.sls {w : World} {B : Nat} {s : Sl} {xs : List Value} (h : Own w B s xs) : Sls 1 w s xs := by
  refine ⟨by rw [h.len]; simp, fun i v hv => ?_⟩
  rcases h.row with ⟨h1, h2⟩ | ⟨g, off, cs, h1, _, h3, _, h5⟩
  · have h0 := h.cap
    have h6 : i < xs.length := (List.getElem?_eq_some_iff.1 hv).1
    have h7 := h.len
    omega
  · exact ⟨_, h1, by rw [add_mk, h3.cell]; exact h5 i v hv⟩
theorem Own.keep {S : Nat → Prop} {w w' : World} {B : Nat} {s : Sl} {xs : List Value} (h : Own w B s xs) (ho : Only S w w') (hs : ∀ g, s.blk = some g → ¬ S g) : Own w' B s xs := by
  refine ⟨h.len, h.cap, h.max, h.one, h.row.imp id ?_⟩
  rintro ⟨g, off, cs, h1, h2, h3, h4, h5⟩
  exact ⟨g, off, cs, h1, h2, h3.keep ho (hs g (by simp [Sl.blk, h1])), h4, h5⟩
theorem Own.ext {w w' : World} {B : Nat} {s : Sl} {xs : List Value} (h : Own w B s xs) (ho : Ext w w') : Own w' B s xs := h.keep ho fun _ _ h => h
theorem Own.below {w : World} {B : Nat} {s : Sl} {xs : List Value} (h : Own w B s xs) {g : Nat} (hg : s.blk = some g) : B ≤ g ∧ g < w.heap.size := by
  rcases h.row with ⟨h1, _⟩ | ⟨g', off, cs, h1, h2, h3, _⟩
  · simp [Sl.blk, h1] at hg
  · simp [Sl.blk, h1] at hg; subst hg; exact ⟨h2, h3.lt⟩
theorem Own.mono {w : World} {B B' : Nat} {s : Sl} {xs : List Value} (h : Own w B s xs) (hB : B' ≤ B) : Own w B' s xs := by
  refine ⟨h.len, h.cap, h.max, h.one, h.row.imp id ?_⟩
  rintro ⟨g, off, cs, h1, h2, h3⟩
  exact ⟨g, off, cs, h1, Nat.le_trans hB h2, h3⟩
theorem Own.out {w : World} {B B' : Nat} {s : Sl} {xs : List Value} (h : Own w B s xs) (hB : B' ≤ B) : ∀ g, s.blk = some g → B' ≤ g := fun _ hg => Nat.le_trans hB (h.below hg).1
theorem one_ints {xs : List Int} : ∀ v ∈ ints xs, v.oneCell' = true := by
  intro v hv; obtain ⟨x, _, rfl⟩ := List.mem_map.1 hv; rfl
theorem blk_sls {w : World} {g : Nat} {l : List Value} {n : Nat} (hb : Blk w g l.toArray) (hn : l.length = n) (c : Nat) : Sls 1 w ⟨some ⟨g, 0, none⟩, n, c⟩ l :=
  ⟨by simp [hn], fun i v hv => ⟨_, rfl, by rw [add_mk, hb.cell]; simpa using hv⟩⟩
/-- a block that was just made, as a slice -/
theorem Own.new {w : World} {g B : Nat} {l : List Value} {n : Nat} (hb : Blk w g l.toArray) (hB : B ≤ g) (hn : l.length = n) (hm : n ≤ 9223372036854775807) (h1 : ∀ x ∈ l, x.oneCell' = true) : Own w B ⟨some ⟨g, 0, none⟩, n, n⟩ l :=
  ⟨hn, Nat.le_refl _, hm, h1, .inr ⟨g, 0, l.toArray, rfl, hB, hb, by simp [hn], fun i v hv => by simpa using hv⟩⟩

/-- an element's type: one cell, so many bytes, its zero -/
def ElT (P : Program) (t e : TypeId) (b : Nat) (z : Value) : Prop := P.underlying t = some (.slice e) ∧ (P.info? e).map (fun i => (i.size, i.bytes, i.zero)) = some (1, b, some z)
theorem ElT.info {P : Program} {t e : TypeId} {b : Nat} {z : Value} (h : ElT P t e b z) : ∃ i, P.info? e = some i ∧ i.size = 1 ∧ i.bytes = b ∧ i.zero = some z := by
  have h2 := h.2
  cases hi : P.info? e with
  | none => simp [hi] at h2
  | some i => simp [hi] at h2; exact ⟨i, rfl, h2⟩

theorem firstCells_read {P : Program} {w : World} {s : Sl} {vs : List Value} (h : Sls 1 w s vs) : (Builtin.firstCells 1 s.n (.slice s.a s.n s.c)).run P w = .ok vs.toArray w := by
  cases ha : s.a with
  | none =>
    have : vs = [] := by
      cases vs with
      | nil => rfl
      | cons v l => obtain ⟨p, hp, _⟩ := h.cell 0 v rfl; rw [ha] at hp; cases hp
    subst this
    exact run_firstCells_none w 1 s.n s.n s.c
  | some p =>
    exact run_firstCells_some w 1 s.n p s.n s.c vs (by rw [h.len]) fun j v hv => by
      obtain ⟨q, hq, hc⟩ := h.cell j v hv
      rw [ha] at hq; cases hq; exact hc
theorem src_of {P : Program} {w : World} {tx e' : TypeId} (hk : P.underlying tx = some (.slice e')) {s : Sl} {vs : List Value} (h : Sls 1 w s vs) (h1 : ∀ v ∈ vs, v.oneCell' = true) : Src P 1 tx (.slice s.a s.n s.c) s.n vs w :=
  ⟨.inl ⟨e', hk⟩, fun _ => rfl, firstCells_read h, firstCells_read (h.ext (ext_drew w)), by rw [h.len], h1⟩

theorem setCells_blk {e : TypeId} : ∀ (l : List Value) (w : World) (g o : Nat) (cs : Array Value), w.heap[g]? = some (.cells cs e (0, 0)) → o + l.length ≤ cs.size →
    ∃ cs', (w.setCells g o l).heap[g]? = some (.cells cs' e (0, 0)) ∧ cs'.size = cs.size ∧ (∀ j, j < o ∨ o + l.length ≤ j → cs'[j]? = cs[j]?) ∧ (∀ i v, l[i]? = some v → cs'[o + i]? = some v) ∧ Only (fun k => k = g) w (w.setCells g o l) ∧ (w.setCells g o l).heap.size = w.heap.size
  | [], w, g, o, cs, h, _ => ⟨cs, h, rfl, fun _ _ => rfl, fun i v hv => by simp at hv, .refl _ _, rfl⟩
  | v :: l, w, g, o, cs, h, hl => by
    simp only [List.length_cons] at hl
    obtain ⟨cs', h1, h2, h3, h4, h5, h6⟩ := setCells_blk l (w.setCell ⟨g, o, none⟩ v) g (o + 1) (cs.setIfInBounds o v) (heap_setCell_same w g o cs e v h) (by simp; omega)
    refine ⟨cs', h1, by simpa using h2, fun j hj => ?_, fun i u hu => ?_, Only.trans (only_setCell w ⟨g, o, none⟩ v) h5 (fun _ _ h => h) (fun _ _ h => h), by rw [World.setCells, h6]; simp [World.setCell]⟩
    · rw [h3 j (by simp only [List.length_cons] at hj; omega)]
      rw [Array.getElem?_setIfInBounds_ne (by simp only [List.length_cons] at hj; omega)]
    · cases i with
      | zero =>
        simp at hu; subst hu
        rw [h3 (o + 0) (by omega), Nat.add_zero, Array.getElem?_setIfInBounds_self]
        rw [if_pos (by omega)]
      | succ i =>
        have := h4 i u (by simpa using hu)
        rwa [show o + (i + 1) = o + 1 + i by omega]

/-- append, onto a slice that is owned -/
theorem bApp_i {P : Program} {t tx e e' : TypeId} {ty : TypeId} {b : Nat} {z : Value} {w : World} {B : Nat} {s x : Sl} {xs ys : List Value} {c : Sl → World → Prop} (ht : ElT P t e b z) (hz1 : z.oneCell' = true) (hk : P.underlying tx = some (.slice e'))
    (hown : Own w B s xs) (hsrc : Sls 1 w x ys) (h1 : ∀ v ∈ ys, v.oneCell' = true) (hB : B ≤ w.heap.size) (hbytes : (xs.length + ys.length) * b ≤ 140737488355328) (h63 : xs.length + ys.length ≤ 9223372036854775807)
    (hc : ∀ s' w', Own w' B s' (xs ++ ys) → Only (fun k => s.blk = some k) w w' → (s'.blk = s.blk ∨ ∃ g, s'.blk = some g ∧ w.heap.size ≤ g) → c s' w') :
    bApp P #[t, tx] ty [.slice s.a s.n s.c, .slice x.a x.n x.c] w c := by
  obtain ⟨i, hi, hsz, hby, hzi⟩ := ht.info
  have hs := src_of hk hsrc h1
  have hxn : x.n = ys.length := by have := hsrc.len; omega
  have hone : ∀ v ∈ xs ++ ys, v.oneCell' = true := fun v hv => (List.mem_append.1 hv).elim (hown.one v) (h1 v)
  unfold bApp
  by_cases hroom : s.n + x.n ≤ s.c
  · rcases hown.row with ⟨h2, h3⟩ | ⟨g, off, cs, h2, h3, h4, h5, h6⟩
    · -- nil, and nothing to append
      have hx0 : x.n = 0 := by omega
      have hs0 : s.n = 0 := by omega
      have hys : ys = [] := List.eq_nil_of_length_eq_zero (by omega)
      have hxs : xs = [] := List.eq_nil_of_length_eq_zero (by have := hown.len; omega)
      subst hys; subst hxs
      rw [h2, hs0, h3]
      have hr : (Builtin.append_ #[t, tx] ty #[.slice none 0 0, .slice x.a x.n x.c]).run P w = .ok (.slice none 0 0) w := by
        have hk' := hs.cells
        simp only [List.toArray] at hk'
        have hlen := hs.len w
        rw [hx0] at hlen hk' ⊢
        simp [Builtin.append_, run_underlying ht.1, run_underlying hk, sizeOf, typeInfo, hi, hsz, Builtin.lenOf, Builtin.firstCells] at hk' ⊢
        cases hxa : x.a <;> simp [Builtin.firstCells, hxa, loadCells, loadCellsFrom]
      simp only [List.toArray] at *
      rw [hr]
      show c ⟨none, 0, 0⟩ w
      exact hc _ _ (by simpa using Own.nil w B) (.refl _ _) (.inl (by simp [Sl.blk, h2]))
    · obtain ⟨ee, h4'⟩ := h4
      have hlen := hown.len
      have hcell : ∀ j, j < ys.length → (w.cell? ⟨g, off + s.n * i.size + j, none⟩).isSome = true := by
        intro j hj
        rw [hsz, Nat.mul_one, (show Blk w g cs from ⟨ee, h4'⟩).cell]
        have : off + s.n + j < cs.size := by omega
        simp [this]
      have hfro : ∀ j, j < ys.length → w.frozen? ⟨g, off + s.n * i.size + j, none⟩ = false := fun j _ => (show Blk w g cs from ⟨ee, h4'⟩).frozen _
      rw [← hsz] at hs
      have hr := run_append_room_src w t tx ty e i ht.1 hi g off s.n s.c _ x.n ys hs hroom hcell hfro
      obtain ⟨cs', k1, k2, k3, k4, k5, k6⟩ := setCells_blk ys w g (off + s.n) cs h4' (by omega)
      rw [hsz, Nat.mul_one] at hr
      rw [h2]
      simp only [List.toArray] at *
      rw [hr]
      show c ⟨some ⟨g, off, none⟩, s.n + x.n, s.c⟩ _
      refine hc _ _ ⟨by simp; omega, hroom, hown.max, hone, .inr ⟨g, off, cs', rfl, h3, ⟨ee, k1⟩, by rw [k2]; exact h5, fun j v hv => ?_⟩⟩ (k5.mono fun k _ hk => by simp [Sl.blk, h2, hk]) (.inl (by simp [Sl.blk, h2]))
      by_cases hj : j < xs.length
      · rw [List.getElem?_append_left hj] at hv
        rw [k3 _ (by omega)]
        exact h6 j v hv
      · rw [List.getElem?_append_right (by omega)] at hv
        have := k4 _ v hv
        rwa [show off + s.n + (j - xs.length) = off + j by omega] at this
  · -- a new row
    have hg : s.c < s.n + x.n := by omega
    have hlen := hown.len
    have hfit : Builtin.nextslicecap (s.n + x.n) s.c * i.bytes ≤ 281474976710656 := growslice_fits hg (by rw [hby, hxn, ← hlen]; exact hbytes)
    have hold := firstCells_read (P := P) (hown.sls.ext (ext_drew w))
    rw [← hsz] at hold hs
    have hr := run_append_grow_src w t tx ty e i z ht.1 hi hzi s.a s.n s.c xs hold _ x.n ys hs hg (by omega) hfit
    simp only [List.toArray] at *
    rw [hr]
    have hge := grownCap_ge w (s.n + x.n) s.c e
    have hcm := grownCap_le_maxLen w (s.n + x.n) s.c e (by unfold maxLen; omega)
    unfold maxLen at hcm
    show c ⟨some ⟨w.heap.size, 0, none⟩, s.n + x.n, _⟩ _
    have hzs : z.cells.size = 1 := by rw [cells_one hz1]; rfl
    refine hc _ _ ⟨by simp; omega, hge, hcm, hone, .inr ⟨w.heap.size, 0, _, rfl, hB, Blk.new w.drew _ e, ?_, fun j v hv => ?_⟩⟩ (Ext.only ((ext_drew w).trans (ext_alloc _ _))) (.inr ⟨w.heap.size, rfl, Nat.le_refl _⟩)
    · simp [size_zeroCells, hzs]; omega
    · have hj : j < (xs ++ ys).length := (List.getElem?_eq_some_iff.1 hv).1
      rw [Nat.zero_add, Array.getElem?_append_left (by simpa using hj)]
      simpa using hv


/-! ### parts of a slice that is owned -/
/-- d is s from its element lo on (or empty) -/
structure Part (s : Sl) (lo : Nat) (d : Sl) : Prop where
  addr : d.a = s.a.map (·.add lo) ∨ d.n = 0
  fits : lo + d.n ≤ s.n
theorem Part.all (s : Sl) : Part s 0 s := ⟨.inl (by cases s.a <;> simp [add_zero]), by omega⟩

theorem Own.off {w : World} {B : Nat} {s d : Sl} {xs ys : List Value} {lo : Nat} (h : Own w B s xs) (hy : ys.length = d.n) (hc : d.n ≤ d.c) (hcc : lo + d.c ≤ s.c) (ha : d.a = s.a.map (·.add lo) ∨ (d.a = s.a ∧ d.c = 0)) (hv : ∀ i v, ys[i]? = some v → xs[lo + i]? = some v) : Own w B d ys := by
  have hmax := h.max
  refine ⟨hy, hc, by omega, fun x hx => ?_, ?_⟩
  · obtain ⟨i, hi, rfl⟩ := List.getElem_of_mem hx
    have := hv i ys[i] (by simp [hi])
    exact h.one _ (List.mem_of_getElem? this)
  · rcases h.row with ⟨h1, h2⟩ | ⟨g, off, cs, h1, h2, h3, h4, h5⟩
    · refine .inl ⟨?_, by omega⟩
      rcases ha with ha | ⟨ha, _⟩ <;> rw [ha, h1] <;> rfl
    · rcases ha with ha | ⟨ha, hd0⟩
      · exact .inr ⟨g, off + lo, cs, by rw [ha, h1]; simp, h2, h3, by omega, fun i v hi => by rw [Nat.add_assoc]; exact h5 _ _ (hv i v hi)⟩
      · have hy0 : ys = [] := List.eq_nil_of_length_eq_zero (by omega)
        subst hy0
        exact .inr ⟨g, off, cs, by rw [ha, h1], h2, h3, by omega, fun i v hi => by simp at hi⟩

theorem slL_own {w : World} {B : Nat} {s : Sl} {xs : List Value} {lo : Int} {c : Sl → Prop} (h : Own w B s xs) (h0 : 0 ≤ lo) (h1 : lo ≤ s.n)
    (hc : ∀ d, Part s lo.toNat d → d.n = s.n - lo.toNat → d.blk = s.blk → Own w B d (xs.drop lo.toNat) → c d) : slL s 1 lo c := by
  have hcap := h.cap; have hlen := h.len
  refine ⟨⟨h0, h1⟩, hc _ ⟨?_, by simp; omega⟩ rfl ?_ (h.off (lo := lo.toNat) (by simp; omega) (by simp; omega) (by simp; omega) ?_ fun i v hi => by simpa using hi)⟩
  · by_cases hq : s.c = lo.toNat
    · right; simp; omega
    · left; simp [hq]
  · by_cases hq : s.c = lo.toNat
    · simp [Sl.blk, hq]
    · simp only [Sl.blk, hq, if_false]
      cases s.a with
      | none => rfl
      | some p => simp [Addr.add]; split <;> rfl
  · by_cases hq : s.c = lo.toNat
    · right; simp [hq]
    · left; simp [hq]

theorem slS_own {w : World} {B : Nat} {s : Sl} {xs : List Value} {lo hi : Int} {c : Sl → Prop} (h : Own w B s xs) (h0 : 0 ≤ lo) (h1 : lo ≤ hi) (h2 : hi ≤ s.n)
    (hc : ∀ d, Part s lo.toNat d → d.n = hi.toNat - lo.toNat → d.blk = s.blk → Own w B d ((xs.drop lo.toNat).take (hi.toNat - lo.toNat)) → c d) : slS s 1 lo hi c := by
  have hcap := h.cap; have hlen := h.len
  refine ⟨⟨by omega, by omega⟩, ⟨h0, h1⟩, hc _ ⟨?_, by simp; omega⟩ rfl ?_ (h.off (lo := lo.toNat) (by simp; omega) (by simp; omega) (by simp; omega) ?_ fun i v hi => ?_)⟩
  · by_cases hq : s.c = lo.toNat
    · right; simp; omega
    · left; simp [hq]
  · by_cases hq : s.c = lo.toNat
    · simp [Sl.blk, hq]
    · simp only [Sl.blk, hq, if_false]
      cases s.a with
      | none => rfl
      | some p => simp [Addr.add]; split <;> rfl
  · by_cases hq : s.c = lo.toNat
    · right; simp [hq]
    · left; simp [hq]
  · rw [List.getElem?_take] at hi
    split at hi
    · simpa using hi
    · cases hi

theorem only_setRow (w : World) (g : Nat) (cs : Array Value) : Only (fun k => k = g) w (w.setRow g cs) :=
  ⟨rfl, rfl, rfl, by simp [World.setRow], fun k _ hk => by simp [World.setRow, Array.getElem?_modify, Ne.symm hk]⟩

/-- copy, into a part of a slice that is owned -/
theorem bCopy_i {P : Program} {t tx e : TypeId} {ty : TypeId} {b : Nat} {z : Value} {w : World} {B lo : Nat} {s d x : Sl} {xs ys : List Value} {c : Int → World → Prop} (ht : ElT P t e b z)
    (hown : Own w B s xs) (hd : Part s lo d) (hsrc : Sls 1 w x ys) (h1 : ∀ v ∈ ys, v.oneCell' = true)
    (hc : ∀ w', Own w' B s (xs.take lo ++ (ys.take (min d.n x.n) ++ xs.drop (lo + min d.n x.n))) → Only (fun k => s.blk = some k) w w' → w'.heap.size = w.heap.size → c (min d.n x.n : Nat) w') :
    bCopy P #[t, tx] ty [.slice d.a d.n d.c, .slice x.a x.n x.c] w c := by
  obtain ⟨i, hi, hsz, hby, hzi⟩ := ht.info
  have hxn : x.n = ys.length := by have := hsrc.len; omega
  have hlen := hown.len
  have hfits := hd.fits
  unfold bCopy
  have hread : (Builtin.firstCells i.size (min d.n x.n) (.slice x.a x.n x.c)).run P w = .ok (ys.take (min d.n x.n)).toArray w := by
    rw [hsz]
    by_cases hxa : x.a = none
    · have : ys = [] := by
        cases ys with
        | nil => rfl
        | cons v l => obtain ⟨p, hp, _⟩ := hsrc.cell 0 v rfl; rw [hxa] at hp; cases hp
      subst this
      rw [hxa, List.take_nil]; exact run_firstCells_none w 1 _ _ _
    · obtain ⟨p, hp⟩ := Option.ne_none_iff_exists'.1 hxa
      rw [hp]
      refine run_firstCells_some w 1 _ p _ _ _ (by simp; omega) fun j v hv => ?_
      rw [List.getElem?_take] at hv
      split at hv
      · obtain ⟨q, hq, hcl⟩ := hsrc.cell j v hv
        rw [hp] at hq; cases hq; exact hcl
      · cases hv
  have hread2 : (Builtin.firstCells i.size (min x.n d.n) (.slice x.a x.n x.c)).run P w = .ok (ys.take (min d.n x.n)).toArray w := by rw [Nat.min_comm]; exact hread
  have hcopy : (Builtin.copy_ #[t, tx] ty #[.slice d.a d.n d.c, .slice x.a x.n x.c]).run P w = match d.a with
      | some a => ((storeCells a (ys.take (min d.n x.n))).run P w).andThen fun _ w => .ok (goInt ((min d.n x.n : Nat) : Int)) w
      | none => .ok (goInt ((min d.n x.n : Nat) : Int)) w := by
    have e1 : Nat.min x.n d.n = min d.n x.n := Nat.min_comm _ _
    cases hda : d.a <;> simp [Builtin.copy_, run_underlying ht.1, Builtin.lenOf, sizeOf, typeInfo, hi, e1, hread]
  simp only [List.toArray] at *
  rw [hcopy]
  by_cases hm : min d.n x.n = 0
  · have := hc w (by rw [hm]; simpa using hown) (.refl _ _) rfl
    rw [hm] at this ⊢
    cases d.a <;> exact this
  · rcases hown.row with ⟨h2, h3⟩ | ⟨g, off, cs, h2, h3, h4, h5, h6⟩
    · have := hown.cap; omega
    · have hda : d.a = some ⟨g, off + lo, none⟩ := by
        rcases hd.addr with h | h
        · rw [h, h2]; simp
        · omega
      obtain ⟨ee, h4'⟩ := h4
      have hcap := hown.cap
      have hst := run_storeCells_at P g (off + lo) ee (ys.take (min d.n x.n)) 0 cs w h4' (by simp; omega) fun v hv => h1 v (List.mem_of_mem_take hv)
      rw [hda]
      simp only [Nat.add_zero] at hst
      simp only [hst, Result.andThen_ok]
      show c (min d.n x.n : Nat) _
      refine hc _ ⟨by simp; omega, hcap, hown.max, fun v hv => ?_, .inr ⟨g, off, _, h2, h3, ⟨ee, setRow_heap w g cs _ ee (0, 0) h4'⟩, by simp; omega, fun i v hv => ?_⟩⟩ ((only_setRow w g _).mono fun k _ hk => by simp [Sl.blk, h2, hk]) (by simp [World.setRow])
      · rcases List.mem_append.1 hv with hv | hv
        · exact hown.one v (List.mem_of_mem_take hv)
        · rcases List.mem_append.1 hv with hv | hv
          · exact h1 v (List.mem_of_mem_take hv)
          · exact hown.one v (List.mem_of_mem_drop hv)
      · have hi : i < s.n := by
          have := (List.getElem?_eq_some_iff.1 hv).1
          simp at this; omega
        simp only [List.getElem?_toArray]
        by_cases c1 : i < lo
        · rw [List.getElem?_append_left (by simp; omega), List.getElem?_take_of_lt c1] at hv
          rw [List.append_assoc, List.getElem?_append_left (by simp; omega), List.getElem?_take_of_lt (by omega)]
          simpa using h6 i v hv
        · rw [List.getElem?_append_right (by simp; omega)] at hv
          rw [List.append_assoc, List.getElem?_append_right (by simp; omega)]
          have el : (List.take lo xs).length = lo := by simp; omega
          have el2 : (List.take (off + lo) cs.toList).length = off + lo := by simp; omega
          rw [el] at hv
          rw [el2, show off + i - (off + lo) = i - lo by omega]
          by_cases c2 : i - lo < min d.n x.n
          · rw [List.getElem?_append_left (by simp; omega)] at hv ⊢
            exact hv
          · rw [List.getElem?_append_right (by simp; omega)] at hv ⊢
            rw [List.getElem?_drop] at hv ⊢
            have el3 : (List.take (min d.n x.n) ys).length = min d.n x.n := by simp; omega
            rw [el3] at hv ⊢
            rw [show lo + min d.n x.n + (i - lo - min d.n x.n) = i by omega] at hv
            rw [show off + lo + min d.n x.n + (i - lo - min d.n x.n) = off + i by omega]
            simpa using h6 i v hv

/-- make -/
theorem mkSl_i {P : Program} {t e : TypeId} {b : Nat} {z : Value} {w : World} {B : Nat} {n : Nat} {kl kc : IntKind} {c : Sl → World → Prop} (ht : ElT P t e b z) (hz1 : z.oneCell' = true) (hB : B ≤ w.heap.size)
    (hbytes : b * n ≤ 281474976710656) (h63 : n ≤ 9223372036854775807)
    (hc : ∀ s w', Own w' B s (List.replicate n z) → Ext w w' → s.n = n → s.c = n → s.blk = some w.heap.size → w'.heap.size = w.heap.size + 1 → c s w') : mkSl P t (.int kl (n : Int)) (.int kc (n : Int)) w c := by
  obtain ⟨i, hi, hsz, hby, hzi⟩ := ht.info
  have hb' : (i.bytes : Int) * (n : Int) ≤ 281474976710656 := by
    have h : ((b * n : Nat) : Int) ≤ 281474976710656 := by omega
    rw [Int.natCast_mul] at h
    rwa [hby]
  have hr := run_make (P := P) w t e i z ht.1 hi hzi kl kc n n (by omega) (Int.le_refl _) hb' (by omega)
  unfold mkSl
  rw [hr, hsz, Nat.mul_one, cells_one hz1]
  have hrow : madeCells #[z] n = (List.replicate n z).toArray := by
    apply Array.ext
    · simp [madeCells]
    · intro j h1 h2
      simp [madeCells, Nat.mod_one]
  rw [Int.toNat_natCast, hrow]
  show c ⟨some ⟨w.heap.size, 0, none⟩, n, n⟩ _
  exact hc _ _ (Own.new (Blk.new w _ e) hB (by simp) h63 fun x hx => by rw [(List.mem_replicate.1 hx).2]; exact hz1) (ext_alloc w _) rfl rfl rfl (by simp)

/-- an array is stored -/
theorem wrFrom_i {g o : Nat} : ∀ (l : List Value) (w : World) (i : Nat) (cs : Array Value) (c : World → Prop), Blk w g cs → o + i + l.length ≤ cs.size → (∀ v ∈ l, v.oneCell' = true) →
    (∀ w' cs', Blk w' g cs' → cs'.size = cs.size → (∀ j, j < o + i ∨ o + i + l.length ≤ j → cs'[j]? = cs[j]?) → (∀ j v, l[j]? = some v → cs'[o + i + j]? = some v) → Only (fun k => k = g) w w' → w'.heap.size = w.heap.size → c w') → wrFrom w ⟨g, o, none⟩ i l c
  | [], w, i, cs, c, hb, _, _, hc => hc w cs hb rfl (fun _ _ => rfl) (fun j v h => by simp at h) (.refl _ _) rfl
  | v :: l, w, i, cs, c, hb, hl, h1, hc => by
    simp only [List.length_cons] at hl
    unfold wrFrom
    rw [add_mk]
    refine stC_i (h1 v (by simp)) hb (by omega) fun w1 hb1 hs1 ho1 => ?_
    refine wrFrom_i l w1 (i + 1) _ c hb1 (by simp; omega) (fun x hx => h1 x (by simp [hx])) fun w2 cs2 hb2 hz2 hk2 hv2 ho2 hs2 => ?_
    refine hc w2 cs2 hb2 (by simpa using hz2) (fun j hj => ?_) (fun j u hu => ?_) (ho1.trans ho2 (fun _ _ h => h) fun _ _ h => h) (hs2.trans hs1)
    · rw [hk2 j (by simp only [List.length_cons] at hj; omega)]
      rw [Array.getElem?_setIfInBounds_ne (by simp only [List.length_cons] at hj; omega)]
    · cases j with
      | zero =>
        simp at hu; subst hu
        rw [hk2 (o + i + 0) (by omega), Nat.add_zero, Array.getElem?_setIfInBounds_self]
        rw [if_pos (by omega)]
      | succ j =>
        have := hv2 j u (by simpa using hu)
        rwa [show o + i + (j + 1) = o + (i + 1) + j by omega]
theorem stA_i {n g o : Nat} {w : World} {cs vs : Array Value} {c : World → Prop} (hb : Blk w g cs) (hn : vs.size = n) (hl : o + n ≤ cs.size) (h1 : ∀ v ∈ vs, v.oneCell' = true)
    (hc : ∀ w' cs', Blk w' g cs' → cs'.size = cs.size → (∀ j, j < o ∨ o + n ≤ j → cs'[j]? = cs[j]?) → (∀ j, j < n → cs'[o + j]? = vs[j]?) → Only (fun k => k = g) w w' → w'.heap.size = w.heap.size → c w') : stA n w ⟨g, o, none⟩ vs c := by
  refine ⟨hn, wrFrom_i vs.toList w 0 cs c hb (by simpa [hn] using hl) (fun v hv => h1 v (by simpa using hv)) fun w' cs' h1 h2 h3 h4 h5 h6 => hc w' cs' h1 h2 (fun j hj => h3 j (by simpa [hn] using hj)) (fun j hj => ?_) h5 h6⟩
  have := h4 j vs[j] (by simp [hn, hj])
  rw [Nat.add_zero] at this
  rw [this]; simp [hn, hj]
/-- an array is loaded -/
theorem rdFrom_i {w : World} {g o : Nat} {cs : Array Value} (hb : Blk w g cs) : ∀ (n i : Nat), o + i + n ≤ cs.size → rdFrom w ⟨g, o, none⟩ i n = some ((cs.toList.drop (o + i)).take n)
  | 0, i, _ => by simp [rdFrom]
  | n + 1, i, h => by
    unfold rdFrom
    rw [add_mk, hb.cell, rdFrom_i hb n (i + 1) (by omega)]
    have e : cs.toList.drop (o + i) = cs[o + i] :: cs.toList.drop (o + (i + 1)) := by
      rw [List.drop_eq_getElem_cons (by simp; omega)]; rfl
    rw [e]
    simp [show o + i < cs.size by omega]
theorem ldA_i {n g o : Nat} {w : World} {cs : Array Value} {c : Array Value → Prop} (hb : Blk w g cs) (hl : o + n ≤ cs.size) (hc : c ((cs.toList.drop o).take n).toArray) : ldA n w ⟨g, o, none⟩ c := by
  unfold ldA
  rw [rdFrom_i hb n 0 (by omega)]
  exact hc

theorem ixP_i {g o len sz : Nat} {i : Int} {c : Addr → Prop} (h0 : 0 ≤ i) (h1 : i < len) (hc : c ⟨g, o + i.toNat * sz, none⟩) : ixP ⟨g, o, none⟩ len i sz c := ⟨⟨h0, h1⟩, by rw [add_mk]; exact hc⟩

end Go.Ev
