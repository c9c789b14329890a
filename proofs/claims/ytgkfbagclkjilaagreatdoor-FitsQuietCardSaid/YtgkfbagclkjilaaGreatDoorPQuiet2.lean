/-
  Memory, as the proofs over the evaluator speak of it: blocks, slices that are read, slices that are owned; a rule for each primitive.
  Numbers and bits of the machine's words.
  From what a law's function does to the given statement: parameters of whatever types, unchanged; the result true.
  The functions of this seat, as the evaluator gives them: printed by a program; each tied to its function by the kernel.
  The functions of this seat, as the evaluator gives them: printed by a program; each tied to its function by the kernel.
-/
import Derived.Test.YtgkfbagclkjilaaGreatDoorPQuiet1
import Derived.Deep.AppendSrc
import Derived.Laws.MakeOwn
import Derived.Laws.CopyRow
import Derived.OpenShut
import Derived.JoinedOf
import Derived.SizedLaws
import Derived.Test.YtgkfbagclkjilaaGreatDoorProg
import Derived.KernelRfl
set_option linter.unusedSimpArgs false
set_option linter.unusedVariables false
set_option maxRecDepth 100000
namespace Go.Ev
open Go Go.RowKit
structure Only (S : Nat → Prop) (w w' : World) : Prop where
  os : w'.os = w.os
  tape : w'.tape = w.tape
  output : w'.output = w.output
  size : w.heap.size ≤ w'.heap.size
  block : ∀ k, k < w.heap.size → ¬ S k → w'.heap[k]? = w.heap[k]?
abbrev Ext (w w' : World) : Prop := Only (fun _ => False) w w'
theorem Only.refl (S : Nat → Prop) (w : World) : Only S w w := ⟨rfl, rfl, rfl, Nat.le_refl _, fun _ _ _ => rfl⟩
theorem Only.trans {S T U : Nat → Prop} {a b c : World} (h : Only S a b) (k : Only T b c) (hS : ∀ k, k < a.heap.size → S k → U k) (hT : ∀ k, k < a.heap.size → T k → U k) : Only U a c :=
  ⟨k.os.trans h.os, k.tape.trans h.tape, k.output.trans h.output, Nat.le_trans h.size k.size, fun i hi hU =>
    (k.block i (Nat.lt_of_lt_of_le hi h.size) (fun hx => hU (hT i hi hx))).trans (h.block i hi (fun hx => hU (hS i hi hx)))⟩
theorem Only.mono {S T : Nat → Prop} {a b : World} (h : Only S a b) (hS : ∀ k, k < a.heap.size → S k → T k) : Only T a b := ⟨h.os, h.tape, h.output, h.size, fun k hk hT => h.block k hk fun hx => hT (hS k hk hx)⟩
theorem Ext.trans {a b c : World} (h : Ext a b) (k : Ext b c) : Ext a c := Only.trans h k (fun _ _ h => h) (fun _ _ h => h)
theorem Ext.only {S : Nat → Prop} {a b : World} (h : Ext a b) : Only S a b := Only.mono h fun _ _ h => h.elim
theorem Only.below {S : Nat → Prop} {w w' : World} {B : Nat} (h : Only S w w') (hB : B ≤ w.heap.size) (hS : ∀ k, S k → B ≤ k) : Below B w w' :=
  ⟨h.os, h.tape, h.output, h.size, fun k hk => h.block k (Nat.lt_of_lt_of_le hk hB) fun hx => by have := hS k hx; omega⟩
theorem Ext.below {w w' : World} (h : Ext w w') : Below w.heap.size w w' := Only.below h (Nat.le_refl _) fun _ h => h.elim
theorem Ext.then {T : Nat → Prop} {a b c : World} (h : Ext a b) (k : Only T b c) (hT : ∀ g, T g → a.heap.size ≤ g) : Ext a c := Only.trans h k (fun _ _ h => h) fun g hg ht => by have := hT g ht; omega
theorem Only.cell {S : Nat → Prop} {w w' : World} (h : Only S w w') {p : Addr} (hS : ¬ S p.block) {v : Value} (hv : w.cell? p = some v) : w'.cell? p = some v :=
  (World.cell?_of_block (h.block p.block (World.block_lt_of_cell? w p hv) hS)).trans hv
theorem Ext.cell {w w' : World} (h : Ext w w') {p : Addr} {v : Value} (hv : w.cell? p = some v) : w'.cell? p = some v := Only.cell h (fun h => h) hv
theorem ext_drew (w : World) : Ext w w.drew := ⟨rfl, rfl, rfl, Nat.le_refl _, fun _ _ _ => rfl⟩
theorem ext_alloc (w : World) (o : Obj) : Ext w (w.alloc o) := ⟨rfl, rfl, rfl, by simp, fun k hk _ => Go.heap_alloc_old w o hk⟩
theorem only_setCell (w : World) (p : Addr) (v : Value) : Only (fun k => k = p.block) w (w.setCell p v) :=
  ⟨rfl, rfl, rfl, by simp [World.setCell], fun k _ hk => heap_setCell_other w p k v hk⟩
@[simp] theorem add_mk (g o n : Nat) : (Addr.mk g o none).add n = ⟨g, o + n, none⟩ := by
  unfold Addr.add; split <;> simp_all
def Blk (w : World) (g : Nat) (cs : Array Value) : Prop := ∃ e, w.heap[g]? = some (.cells cs e (0, 0))
theorem Blk.lt {w : World} {g : Nat} {cs : Array Value} (h : Blk w g cs) : g < w.heap.size := by
  obtain ⟨e, h⟩ := h; exact (Array.getElem?_eq_some_iff.1 h).1
theorem Blk.cell {w : World} {g : Nat} {cs : Array Value} (h : Blk w g cs) (i : Nat) : w.cell? ⟨g, i, none⟩ = cs[i]? := by
  obtain ⟨e, h⟩ := h; exact cell_of_row w g i cs e _ h
theorem Blk.frozen {w : World} {g : Nat} {cs : Array Value} (h : Blk w g cs) (i : Nat) : w.frozen? ⟨g, i, none⟩ = false := by
  obtain ⟨e, h⟩ := h; exact frozen_of_row w g i cs e h
theorem Blk.keep {S : Nat → Prop} {w w' : World} {g : Nat} {cs : Array Value} (h : Blk w g cs) (ho : Only S w w') (hg : ¬ S g) : Blk w' g cs := by
  have := ho.block g h.lt hg
  obtain ⟨e, h⟩ := h
  exact ⟨e, this.trans h⟩
theorem Blk.ext {w w' : World} {g : Nat} {cs : Array Value} (h : Blk w g cs) (ho : Ext w w') : Blk w' g cs := h.keep ho fun h => h
theorem Blk.new (w : World) (cs : Array Value) (t : TypeId) : Blk (w.alloc (.cells cs t)) w.heap.size cs := ⟨t, heap_alloc_new w _⟩
theorem Blk.set {w : World} {g : Nat} {cs : Array Value} (h : Blk w g cs) (i : Nat) (v : Value) : Blk (w.setCell ⟨g, i, none⟩ v) g (cs.setIfInBounds i v) := by
  obtain ⟨e, h⟩ := h; exact ⟨e, heap_setCell_same w g i cs e v h⟩
theorem newC_i {w : World} {cs : Array Value} {t : TypeId} {c : Addr → World → Prop} (h : ∀ g w', g = w.heap.size → w'.heap.size = g + 1 → Blk w' g cs → Ext w w' → c ⟨g, 0, none⟩ w') : newC w cs t c :=
  h _ _ rfl (by simp) (Blk.new w cs t) (ext_alloc w _)
theorem drew_i {w : World} {c : World → Prop} (h : ∀ w', w'.heap = w.heap → Ext w w' → c w') : drew w c := h _ rfl (ext_drew w)
theorem iteB_i {b : Bool} {x y : Prop} (h1 : b = true → x) (h2 : b = false → y) : iteB b x y := by cases b; exact h2 rfl; exact h1 rfl
@[simp] theorem iteB_true (x y : Prop) : iteB true x y = x := rfl
@[simp] theorem iteB_false (x y : Prop) : iteB false x y = y := rfl
theorem iteB_t {b : Bool} {x y : Prop} (hb : b = true) (h : x) : iteB b x y := by subst hb; exact h
theorem iteB_f {b : Bool} {x y : Prop} (hb : b = false) (h : y) : iteB b x y := by subst hb; exact h
theorem joinP_i {S : Type} {body : (S → World → Prop) → Prop} {rest : S → World → Prop} (I : S → World → Prop) (h1 : ∀ J : S → World → Prop, (∀ x w, I x w → J x w) → body J) (h2 : ∀ x w, I x w → rest x w) : joinP body rest := h1 rest h2
theorem joinP_d {S : Type} {body : (S → World → Prop) → Prop} {rest : S → World → Prop} (h : body rest) : joinP body rest := h
theorem ldI_i {k : IntKind} {w : World} {a : Addr} {c : Int → Prop} {n : Int} (h : w.cell? a = some (.int k n)) (hc : c n) : ldI k w a c := by simp [ldI, rd, h, toI, hc]
theorem ldB_i {w : World} {a : Addr} {c : Bool → Prop} {n : Bool} (h : w.cell? a = some (.bool n)) (hc : c n) : ldB w a c := by simp [ldB, rd, h, toB, hc]
theorem ldP_i {w : World} {a : Addr} {c : Option Addr → Prop} {n : Option Addr} (h : w.cell? a = some (.pointer n)) (hc : c n) : ldP w a c := by simp [ldP, rd, h, toP, hc]
theorem ldS_i {w : World} {a : Addr} {c : Sl → Prop} {s : Sl} (h : w.cell? a = some (.slice s.a s.n s.c)) (hc : c s) : ldS w a c := by simp [ldS, rd, h, toS, hc]
theorem stC_i {w : World} {g o : Nat} {cs : Array Value} {v : Value} {c : World → Prop} (h1 : v.oneCell' = true) (hb : Blk w g cs) (ho : o < cs.size)
    (hc : ∀ w', Blk w' g (cs.setIfInBounds o v) → w'.heap.size = w.heap.size → Only (fun k => k = g) w w' → c w') : stC w ⟨g, o, none⟩ v c :=
  ⟨h1, by rw [hb.cell]; simp [ho], hb.frozen o, hc _ (hb.set o v) (by simp [World.setCell]) (only_setCell w ⟨g, o, none⟩ v)⟩
theorem nn_i {a : Addr} {c : Addr → Prop} (h : c a) : nn (some a) c := h
theorem shrI_i {k : IntKind} {x y : Int} {c : Int → Prop} (hy : 0 ≤ y) (h : c (shrV k x y)) : shrI k x y c := ⟨hy, h⟩
theorem shlI_i {k : IntKind} {x y : Int} {c : Int → Prop} (hy : 0 ≤ y) (h : c (shlV k x y)) : shlI k x y c := ⟨hy, h⟩
structure Sls (sz : Nat) (w : World) (s : Sl) (vs : List Value) : Prop where
  len : vs.length = s.n * sz
  cell : ∀ i v, vs[i]? = some v → ∃ p, s.a = some p ∧ w.cell? (p.add i) = some v
theorem Sls.keep {S : Nat → Prop} {sz : Nat} {w w' : World} {s : Sl} {vs : List Value} (h : Sls sz w s vs) (ho : Only S w w') (hs : ∀ p, s.a = some p → ¬ S p.block) : Sls sz w' s vs :=
  ⟨h.len, fun i v hv => by
    obtain ⟨p, hp, hc⟩ := h.cell i v hv
    refine ⟨p, hp, ho.cell ?_ hc⟩
    have : (p.add i).block = p.block := by unfold Addr.add; split <;> rfl
    rw [this]; exact hs p hp⟩
theorem Sls.ext {sz : Nat} {w w' : World} {s : Sl} {vs : List Value} (h : Sls sz w s vs) (ho : Ext w w') : Sls sz w' s vs := h.keep ho fun _ _ h => h
theorem Sls.nil (sz : Nat) (w : World) : Sls sz w ⟨none, 0, 0⟩ [] := ⟨by simp, fun i v h => by simp at h⟩
abbrev ints (xs : List Int) : List Value := xs.map (Value.int .i64)
abbrev SlI (w : World) (s : Sl) (xs : List Int) : Prop := Sls 1 w s (ints xs)
theorem SlI.len {w : World} {s : Sl} {xs : List Int} (h : SlI w s xs) : s.n = xs.length := by have := Sls.len h; simp at this; omega
def Sl.blk (s : Sl) : Option Nat := s.a.map (·.block)
structure Own (w : World) (B : Nat) (s : Sl) (xs : List Value) : Prop where
  len : xs.length = s.n
  cap : s.n ≤ s.c
  max : s.c ≤ 9223372036854775807
  one : ∀ x ∈ xs, x.oneCell' = true
  row : (s.a = none ∧ s.c = 0) ∨ ∃ g off cs, s.a = some ⟨g, off, none⟩ ∧ B ≤ g ∧ Blk w g cs ∧ off + s.c ≤ cs.size ∧ ∀ i v, xs[i]? = some v → cs[off + i]? = some v
theorem Own.nil (w : World) (B : Nat) : Own w B ⟨none, 0, 0⟩ [] := ⟨rfl, Nat.le_refl _, by simp, by simp, .inl ⟨rfl, rfl⟩⟩
theorem Own.sls {w : World} {B : Nat} {s : Sl} {xs : List Value} (h : Own w B s xs) : Sls 1 w s xs := by
  refine ⟨by rw [h.len]; simp, fun i v hv => ?_⟩
  rcases h.row with ⟨h1, h2⟩ | ⟨g, off, cs, h1, _, h3, _, h5⟩
  · have h0 := h.cap
    have h6 : i < xs.length := (List.getElem?_eq_some_iff.1 hv).1
    have h7 := h.len
    omega
  · exact ⟨_, h1, by rw [add_mk, h3.cell]; exact h5 i v hv⟩
theorem Own.keep {S : Nat → Prop} {w w' : World} {B : Nat} {s : Sl} {xs : List Value} (h : Own w B s xs) (ho : Only S w w') (hs : ∀ g, s.blk = some g → ¬ S g) : Own w' B s xs := by
  refine ⟨h.len, h.cap, h.max, h.one, h.row.imp id ?_⟩
  rintro ⟨g, off, cs, h1, h2, h3, h4, h5⟩
  exact ⟨g, off, cs, h1, h2, h3.keep ho (hs g (by simp [Sl.blk, h1])), h4, h5⟩
theorem Own.ext {w w' : World} {B : Nat} {s : Sl} {xs : List Value} (h : Own w B s xs) (ho : Ext w w') : Own w' B s xs := h.keep ho fun _ _ h => h
theorem Own.below {w : World} {B : Nat} {s : Sl} {xs : List Value} (h : Own w B s xs) {g : Nat} (hg : s.blk = some g) : B ≤ g ∧ g < w.heap.size := by
  rcases h.row with ⟨h1, _⟩ | ⟨g', off, cs, h1, h2, h3, _⟩
  · simp [Sl.blk, h1] at hg
  · simp [Sl.blk, h1] at hg; subst hg; exact ⟨h2, h3.lt⟩
theorem Own.mono {w : World} {B B' : Nat} {s : Sl} {xs : List Value} (h : Own w B s xs) (hB : B' ≤ B) : Own w B' s xs := by
  refine ⟨h.len, h.cap, h.max, h.one, h.row.imp id ?_⟩
  rintro ⟨g, off, cs, h1, h2, h3⟩
  exact ⟨g, off, cs, h1, Nat.le_trans hB h2, h3⟩
theorem Own.out {w : World} {B B' : Nat} {s : Sl} {xs : List Value} (h : Own w B s xs) (hB : B' ≤ B) : ∀ g, s.blk = some g → B' ≤ g := fun _ hg => Nat.le_trans hB (h.below hg).1
theorem one_ints {xs : List Int} : ∀ v ∈ ints xs, v.oneCell' = true := by
  intro v hv; obtain ⟨x, _, rfl⟩ := List.mem_map.1 hv; rfl
theorem blk_sls {w : World} {g : Nat} {l : List Value} {n : Nat} (hb : Blk w g l.toArray) (hn : l.length = n) (c : Nat) : Sls 1 w ⟨some ⟨g, 0, none⟩, n, c⟩ l :=
  ⟨by simp [hn], fun i v hv => ⟨_, rfl, by rw [add_mk, hb.cell]; simpa using hv⟩⟩
theorem Own.new {w : World} {g B : Nat} {l : List Value} {n : Nat} (hb : Blk w g l.toArray) (hB : B ≤ g) (hn : l.length = n) (hm : n ≤ 9223372036854775807) (h1 : ∀ x ∈ l, x.oneCell' = true) : Own w B ⟨some ⟨g, 0, none⟩, n, n⟩ l :=
  ⟨hn, Nat.le_refl _, hm, h1, .inr ⟨g, 0, l.toArray, rfl, hB, hb, by simp [hn], fun i v hv => by simpa using hv⟩⟩
def ElT (P : Program) (t e : TypeId) (b : Nat) (z : Value) : Prop := P.underlying t = some (.slice e) ∧ (P.info? e).map (fun i => (i.size, i.bytes, i.zero)) = some (1, b, some z)
theorem ElT.info {P : Program} {t e : TypeId} {b : Nat} {z : Value} (h : ElT P t e b z) : ∃ i, P.info? e = some i ∧ i.size = 1 ∧ i.bytes = b ∧ i.zero = some z := by
  have h2 := h.2
  cases hi : P.info? e with
  | none => simp [hi] at h2
  | some i => simp [hi] at h2; exact ⟨i, rfl, h2⟩
theorem setCells_blk {e : TypeId} : ∀ (l : List Value) (w : World) (g o : Nat) (cs : Array Value), w.heap[g]? = some (.cells cs e (0, 0)) → o + l.length ≤ cs.size →
    ∃ cs', (w.setCells g o l).heap[g]? = some (.cells cs' e (0, 0)) ∧ cs'.size = cs.size ∧ (∀ j, j < o ∨ o + l.length ≤ j → cs'[j]? = cs[j]?) ∧ (∀ i v, l[i]? = some v → cs'[o + i]? = some v) ∧ Only (fun k => k = g) w (w.setCells g o l) ∧ (w.setCells g o l).heap.size = w.heap.size
  | [], w, g, o, cs, h, _ => ⟨cs, h, rfl, fun _ _ => rfl, fun i v hv => by simp at hv, .refl _ _, rfl⟩
  | v :: l, w, g, o, cs, h, hl => by
    simp only [List.length_cons] at hl
    obtain ⟨cs', h1, h2, h3, h4, h5, h6⟩ := setCells_blk l (w.setCell ⟨g, o, none⟩ v) g (o + 1) (cs.setIfInBounds o v) (heap_setCell_same w g o cs e v h) (by simp; omega)
    refine ⟨cs', h1, by simpa using h2, fun j hj => ?_, fun i u hu => ?_, Only.trans (only_setCell w ⟨g, o, none⟩ v) h5 (fun _ _ h => h) (fun _ _ h => h), by rw [World.setCells, h6]; simp [World.setCell]⟩
    · rw [h3 j (by simp only [List.length_cons] at hj; omega)]
      rw [Array.getElem?_setIfInBounds_ne (by simp only [List.length_cons] at hj; omega)]
    · cases i with
      | zero =>
        simp at hu; subst hu
        rw [h3 (o + 0) (by omega), Nat.add_zero, Array.getElem?_setIfInBounds_self]
        rw [if_pos (by omega)]
      | succ i =>
        have := h4 i u (by simpa using hu)
        rwa [show o + (i + 1) = o + 1 + i by omega]
structure Part (s : Sl) (lo : Nat) (d : Sl) : Prop where
  addr : d.a = s.a.map (·.add lo) ∨ d.n = 0
  fits : lo + d.n ≤ s.n
theorem Part.all (s : Sl) : Part s 0 s := ⟨.inl (by cases s.a <;> simp [add_zero]), by omega⟩
theorem Own.off {w : World} {B : Nat} {s d : Sl} {xs ys : List Value} {lo : Nat} (h : Own w B s xs) (hy : ys.length = d.n) (hc : d.n ≤ d.c) (hcc : lo + d.c ≤ s.c) (ha : d.a = s.a.map (·.add lo) ∨ (d.a = s.a ∧ d.c = 0)) (hv : ∀ i v, ys[i]? = some v → xs[lo + i]? = some v) : Own w B d ys := by
  have hmax := h.max
  refine ⟨hy, hc, by omega, fun x hx => ?_, ?_⟩
  · obtain ⟨i, hi, rfl⟩ := List.getElem_of_mem hx
    have := hv i ys[i] (by simp [hi])
    exact h.one _ (List.mem_of_getElem? this)
  · rcases h.row with ⟨h1, h2⟩ | ⟨g, off, cs, h1, h2, h3, h4, h5⟩
    · refine .inl ⟨?_, by omega⟩
      rcases ha with ha | ⟨ha, _⟩ <;> rw [ha, h1] <;> rfl
    · rcases ha with ha | ⟨ha, hd0⟩
      · exact .inr ⟨g, off + lo, cs, by rw [ha, h1]; simp, h2, h3, by omega, fun i v hi => by rw [Nat.add_assoc]; exact h5 _ _ (hv i v hi)⟩
      · have hy0 : ys = [] := List.eq_nil_of_length_eq_zero (by omega)
        subst hy0
        exact .inr ⟨g, off, cs, by rw [ha, h1], h2, h3, by omega, fun i v hi => by simp at hi⟩
theorem mkSl_i {P : Program} {t e : TypeId} {b : Nat} {z : Value} {w : World} {B : Nat} {n : Nat} {kl kc : IntKind} {c : Sl → World → Prop} (ht : ElT P t e b z) (hz1 : z.oneCell' = true) (hB : B ≤ w.heap.size)
    (hbytes : b * n ≤ 281474976710656) (h63 : n ≤ 9223372036854775807)
    (hc : ∀ s w', Own w' B s (List.replicate n z) → Ext w w' → s.n = n → s.c = n → s.blk = some w.heap.size → w'.heap.size = w.heap.size + 1 → c s w') : mkSl P t (.int kl (n : Int)) (.int kc (n : Int)) w c := by
  obtain ⟨i, hi, hsz, hby, hzi⟩ := ht.info
  have hb' : (i.bytes : Int) * (n : Int) ≤ 281474976710656 := by
    have h : ((b * n : Nat) : Int) ≤ 281474976710656 := by omega
    rw [Int.natCast_mul] at h
    rwa [hby]
  have hr := run_make (P := P) w t e i z ht.1 hi hzi kl kc n n (by omega) (Int.le_refl _) hb' (by omega)
  unfold mkSl
  rw [hr, hsz, Nat.mul_one, cells_one hz1]
  have hrow : madeCells #[z] n = (List.replicate n z).toArray := by
    apply Array.ext
    · simp [madeCells]
    · intro j h1 h2
      simp [madeCells, Nat.mod_one]
  rw [Int.toNat_natCast, hrow]
  show c ⟨some ⟨w.heap.size, 0, none⟩, n, n⟩ _
  exact hc _ _ (Own.new (Blk.new w _ e) hB (by simp) h63 fun x hx => by rw [(List.mem_replicate.1 hx).2]; exact hz1) (ext_alloc w _) rfl rfl rfl (by simp)
theorem wrFrom_i {g o : Nat} : ∀ (l : List Value) (w : World) (i : Nat) (cs : Array Value) (c : World → Prop), Blk w g cs → o + i + l.length ≤ cs.size → (∀ v ∈ l, v.oneCell' = true) →
    (∀ w' cs', Blk w' g cs' → cs'.size = cs.size → (∀ j, j < o + i ∨ o + i + l.length ≤ j → cs'[j]? = cs[j]?) → (∀ j v, l[j]? = some v → cs'[o + i + j]? = some v) → Only (fun k => k = g) w w' → w'.heap.size = w.heap.size → c w') → wrFrom w ⟨g, o, none⟩ i l c
  | [], w, i, cs, c, hb, _, _, hc => hc w cs hb rfl (fun _ _ => rfl) (fun j v h => by simp at h) (.refl _ _) rfl
  | v :: l, w, i, cs, c, hb, hl, h1, hc => by
    simp only [List.length_cons] at hl
    unfold wrFrom
    rw [add_mk]
    refine stC_i (h1 v (by simp)) hb (by omega) fun w1 hb1 hs1 ho1 => ?_
    refine wrFrom_i l w1 (i + 1) _ c hb1 (by simp; omega) (fun x hx => h1 x (by simp [hx])) fun w2 cs2 hb2 hz2 hk2 hv2 ho2 hs2 => ?_
    refine hc w2 cs2 hb2 (by simpa using hz2) (fun j hj => ?_) (fun j u hu => ?_) (ho1.trans ho2 (fun _ _ h => h) fun _ _ h => h) (hs2.trans hs1)
    · rw [hk2 j (by simp only [List.length_cons] at hj; omega)]
      rw [Array.getElem?_setIfInBounds_ne (by simp only [List.length_cons] at hj; omega)]
    · cases j with
      | zero =>
        simp at hu; subst hu
        rw [hk2 (o + i + 0) (by omega), Nat.add_zero, Array.getElem?_setIfInBounds_self]
        rw [if_pos (by omega)]
      | succ j =>
        have := hv2 j u (by simpa using hu)
        rwa [show o + i + (j + 1) = o + (i + 1) + j by omega]
theorem stA_i {n g o : Nat} {w : World} {cs vs : Array Value} {c : World → Prop} (hb : Blk w g cs) (hn : vs.size = n) (hl : o + n ≤ cs.size) (h1 : ∀ v ∈ vs, v.oneCell' = true)
    (hc : ∀ w' cs', Blk w' g cs' → cs'.size = cs.size → (∀ j, j < o ∨ o + n ≤ j → cs'[j]? = cs[j]?) → (∀ j, j < n → cs'[o + j]? = vs[j]?) → Only (fun k => k = g) w w' → w'.heap.size = w.heap.size → c w') : stA n w ⟨g, o, none⟩ vs c := by
  refine ⟨hn, wrFrom_i vs.toList w 0 cs c hb (by simpa [hn] using hl) (fun v hv => h1 v (by simpa using hv)) fun w' cs' h1 h2 h3 h4 h5 h6 => hc w' cs' h1 h2 (fun j hj => h3 j (by simpa [hn] using hj)) (fun j hj => ?_) h5 h6⟩
  have := h4 j vs[j] (by simp [hn, hj])
  rw [Nat.add_zero] at this
  rw [this]; simp [hn, hj]
theorem rdFrom_i {w : World} {g o : Nat} {cs : Array Value} (hb : Blk w g cs) : ∀ (n i : Nat), o + i + n ≤ cs.size → rdFrom w ⟨g, o, none⟩ i n = some ((cs.toList.drop (o + i)).take n)
  | 0, i, _ => by simp [rdFrom]
  | n + 1, i, h => by
    unfold rdFrom
    rw [add_mk, hb.cell, rdFrom_i hb n (i + 1) (by omega)]
    have e : cs.toList.drop (o + i) = cs[o + i] :: cs.toList.drop (o + (i + 1)) := by
      rw [List.drop_eq_getElem_cons (by simp; omega)]; rfl
    rw [e]
    simp [show o + i < cs.size by omega]
theorem ldA_i {n g o : Nat} {w : World} {cs : Array Value} {c : Array Value → Prop} (hb : Blk w g cs) (hl : o + n ≤ cs.size) (hc : c ((cs.toList.drop o).take n).toArray) : ldA n w ⟨g, o, none⟩ c := by
  unfold ldA
  rw [rdFrom_i hb n 0 (by omega)]
  exact hc
theorem ixP_i {g o len sz : Nat} {i : Int} {c : Addr → Prop} (h0 : 0 ≤ i) (h1 : i < len) (hc : c ⟨g, o + i.toNat * sz, none⟩) : ixP ⟨g, o, none⟩ len i sz c := ⟨⟨h0, h1⟩, by rw [add_mk]; exact hc⟩
end Go.Ev
namespace Go.Ev
open Go
def InI (x : Int) : Prop := -9223372036854775808 ≤ x ∧ x ≤ 9223372036854775807
instance (x : Int) : Decidable (InI x) := inferInstanceAs (Decidable (_ ∧ _))
abbrev bv (x : Int) : BitVec 64 := BitVec.ofInt 64 x
theorem bv_toInt {x : Int} (h : InI x) : (bv x).toInt = x := by
  rw [BitVec.toInt_ofInt, Int.bmod_eq_of_le (by simp [InI] at h; omega) (by simp [InI] at h; omega)]
theorem wrap_bv (b : BitVec 64) : IntKind.i64.wrap (b.toNat : Int) = b.toInt := by
  rw [IntKind.wrap_i64, BitVec.toInt_eq_toNat_cond]
  have := b.isLt
  split <;> omega
theorem inI_toInt (b : BitVec 64) : InI b.toInt := by
  have h1 := b.toInt_lt; have h2 := b.le_toInt
  simp at h1 h2
  exact ⟨by omega, by omega⟩
theorem wrapI (x : Int) : IntKind.i64.wrap x = (bv x).toInt := by
  rw [IntKind.wrap_i64, BitVec.toInt_ofInt, Int.bmod_def]
  split <;> omega
theorem wrap_id {x : Int} (h : InI x) : IntKind.i64.wrap x = x := by rw [wrapI, bv_toInt h]
theorem andI_bv (x y : Int) : andI .i64 x y = (bv x &&& bv y).toInt := wrap_bv _
theorem orI_bv (x y : Int) : orI .i64 x y = (bv x ||| bv y).toInt := wrap_bv _
theorem andNotI_bv (x y : Int) : andNotI .i64 x y = (bv x &&& ~~~ bv y).toInt := wrap_bv _
theorem bv_of_toInt (b : BitVec 64) : bv b.toInt = b := BitVec.ofInt_toInt
theorem shrV_bv {x i : Int} (h : InI x) (h1 : i < 64) : shrV .i64 x i = ((bv x).sshiftRight i.toNat).toInt := by
  rw [BitVec.toInt_sshiftRight, bv_toInt h]
  unfold shrV
  have : min i.toNat IntKind.i64.bits = i.toNat := by simp [IntKind.bits]; omega
  rw [this, Int.shiftRight_eq_div_pow, Int.fdiv_eq_ediv_of_nonneg _ (by exact_mod_cast Nat.zero_le (2 ^ i.toNat))]
  simp
def tb (x : Int) (i : Nat) : Bool := (bv x).getLsbD i
theorem and1 {x i : Int} (h : InI x) (h0 : 0 ≤ i) (h1 : i < 64) : (andI .i64 (shrV .i64 x i) 1 == 1) = tb x i.toNat := by
  rw [andI_bv, shrV_bv h h1, bv_of_toInt]
  have e : bv 1 = 1#64 := by decide
  rw [e, BitVec.and_one_eq_setWidth_ofBool_getLsbD, BitVec.getLsbD_sshiftRight]
  have : (decide (64 ≤ 0)) = false := by decide
  simp only [this, Bool.not_false, Bool.true_and, Nat.add_zero]
  rw [if_pos (by omega)]
  unfold tb
  cases (bv x).getLsbD i.toNat <;> decide
theorem tb_andNot (x y : Int) {i : Nat} (h : i < 64) : tb (andNotI .i64 x y) i = (tb x i && !tb y i) := by
  unfold tb; rw [andNotI_bv, bv_of_toInt]; simp [h]
end Go.Ev
namespace Go.Ev
open Go Go.RowKit Go.ChangeShapes Go.WideShapes
theorem trodAll_below {H : Type} {enc : TypeId × Value → H} {P : Program} (hl : laidOutB P = true) {W W' : World} (hb : Below W.heap.size W W') :
    ∀ {ts : List TypeId} {vs : List Value} {ds : List (DataW H)} {ps : List MemPlace}, ts.all (fun t => P.readableRec t && decide (t < P.types.size)) = true → DataW.TrodAll enc P W 0 (fun _ => true) true ts vs ds ps → (∀ x ∈ ps, x.block < W.heap.size) →
      DataW.TrodAll enc P W' 0 (fun b => decide (b < W.heap.size)) true ts vs ds ps
  | [], [], [], _, _, h, _ => h
  | [], _ :: _, _, _, _, h, _ => h.elim
  | [], [], _ :: _, _, _, h, _ => h.elim
  | _ :: _, [], _, _, _, h, _ => h.elim
  | _ :: _, _ :: _, [], _, _, h, _ => h.elim
  | t :: ts, v :: vs, d :: ds, ps, hr, h, hlt => by
    obtain ⟨p, q, h1, h2, rfl⟩ := h
    simp only [List.all_cons, Bool.and_eq_true, decide_eq_true_eq] at hr
    exact ⟨p, q, Below.trod hl hr.1.1 hr.1.2 h1 hb (fun x hx => hlt x (by simp [hx])), trodAll_below hl hb hr.2 h2 (fun x hx => hlt x (by simp [hx])), rfl⟩
theorem trodAll_lens {H : Type} {enc : TypeId × Value → H} {P : Program} {w : World} {base : Nat} {spare : Nat → Bool} {held : Bool} :
    ∀ {ts : List TypeId} {vs : List Value} {ds : List (DataW H)} {ps : List MemPlace}, DataW.TrodAll enc P w base spare held ts vs ds ps → ds.length = ts.length
  | [], [], [], _, _ => rfl
  | [], _ :: _, _, _, h => h.elim
  | [], [], _ :: _, _, h => h.elim
  | _ :: _, [], _, _, h => h.elim
  | _ :: _, _ :: _, [], _, h => h.elim
  | _ :: _, _ :: _, _ :: _, _, h => by
    obtain ⟨p, q, h1, h2, rfl⟩ := h
    simp [trodAll_lens h2]
def Rdd (P : Program) (w : World) (t : TypeId) (cs : List Value) : Prop :=
  ∃ (H : Type) (enc : TypeId × Value → H) (spare : Nat → Bool) (held : Bool) (fuel : Nat) (d : DataW H) (ps : List MemPlace),
    DataW.trod enc P w 0 spare held fuel t cs = some (d, ps) ∧ ∀ n ∈ d.weights P t, n ≤ reachBytes
structure Arg (P : Program) (w : World) (t : TypeId) (v : Value) : Prop where
  form : ∃ base, Value.okWide P w .any base t v
  reads : Rdd P w t v.cells.toList
def Args (P : Program) (w : World) : List TypeId → List Value → Prop
  | [], [] => True
  | t :: ts, v :: vs => Arg P w t v ∧ Args P w ts vs
  | _, _ => False
theorem Args.cons {P : Program} {w : World} {t : TypeId} {ts : List TypeId} {vs : List Value} (h : Args P w (t :: ts) vs) : ∃ v vs', vs = v :: vs' ∧ Arg P w t v ∧ Args P w ts vs' := by
  cases vs with
  | nil => exact h.elim
  | cons v vs => exact ⟨v, vs, rfl, h.1, h.2⟩
theorem Args.nil {P : Program} {w : World} {vs : List Value} (h : Args P w [] vs) : vs = [] := by
  cases vs with
  | nil => rfl
  | cons v vs => exact h.elim
theorem args_of {H : Type} {enc : TypeId × Value → H} {P : Program} {w : World} :
    ∀ {ts : List TypeId} {vs : List Value} {ds : List (DataW H)} {ps : List MemPlace} {base : Nat}, (∀ (j : Nat) t v, ts[j]? = some t → vs[j]? = some v → Value.okWide P w .any base t v) →
      DataW.TrodAll enc P w 0 (fun _ => true) true ts vs ds ps → (∀ n ∈ DataW.weightsEach P ts ds, n ≤ reachBytes) → Args P w ts vs
  | [], [], [], _, _, _, _, _ => trivial
  | [], _ :: _, _, _, _, _, h, _ => h.elim
  | [], [], _ :: _, _, _, _, h, _ => h.elim
  | _ :: _, [], _, _, _, _, h, _ => h.elim
  | _ :: _, _ :: _, [], _, _, _, h, _ => h.elim
  | t :: ts, v :: vs, d :: ds, _, base, hv, h, hw => by
    obtain ⟨p, q, ⟨fuel, h1⟩, h2, rfl⟩ := h
    simp only [DataW.weightsEach, List.mem_append] at hw
    exact ⟨⟨⟨base, hv 0 t v rfl rfl⟩, ⟨H, enc, _, _, fuel, d, p, h1, fun n hn => hw n (.inl hn)⟩⟩, args_of (fun j t' v' ht hv' => hv (j + 1) t' v' (by simpa using ht) (by simpa using hv')) h2 fun n hn => hw n (.inr hn)⟩
section
variable {P : Program} {w : World}
theorem inI_wf {n : Int} (h : (Lit.int .i64 n).wf = true) : InI n := by
  simp [Lit.wf, IntKind.min, IntKind.max, IntKind.signed, IntKind.bits] at h
  exact ⟨by omega, by omega⟩
theorem Rdd.int {t : TypeId} {cs : List Value} (ht : P.underlying t = some (.int .i64)) (h : Rdd P w t cs) : ∃ n, cs = [.int .i64 n] ∧ InI n := by
  obtain ⟨H, enc, spare, held, fuel, d, ps, h, _⟩ := h
  cases fuel with
  | zero => simp [DataW.trod] at h
  | succ m =>
    unfold DataW.trod at h
    rw [ht] at h
    split at h <;> simp_all
    rename_i hk
    obtain ⟨⟨_, h2⟩, _⟩ := h
    subst hk
    exact inI_wf h2
theorem Rdd.bool {t : TypeId} {cs : List Value} (ht : P.underlying t = some .bool) (h : Rdd P w t cs) : ∃ n, cs = [.bool n] := by
  obtain ⟨H, enc, spare, held, fuel, d, ps, h, _⟩ := h
  cases fuel with
  | zero => simp [DataW.trod] at h
  | succ m =>
    unfold DataW.trod at h
    rw [ht] at h
    split at h <;> simp_all
theorem weightsAll_mem {H : Type} {e : TypeId} : ∀ {ds : List (DataW H)} {d : DataW H} {n : Nat}, d ∈ ds → n ∈ d.weights P e → n ∈ DataW.weightsAll P e ds
  | d0 :: ds, d, n, hd, hn => by
    simp only [DataW.weightsAll, List.mem_append]
    rcases List.mem_cons.1 hd with rfl | hd
    · exact .inl hn
    · exact .inr (weightsAll_mem hd hn)
theorem Rdd.struct {t : TypeId} {fs : Array Field} {cs : List Value} (ht : P.underlying t = some (.struct fs)) (h : Rdd P w t cs) :
    cs.length = P.cellsOf t ∧ ∀ (i : Nat) (f : Field), fs[i]? = some f → Rdd P w f.type ((cs.drop f.offset).take (P.cellsOf f.type)) := by
  obtain ⟨H, enc, spare, held, fuel, d, ps, h, hw⟩ := h
  obtain ⟨xs, n, _, hx, hl, hxl, hall⟩ := DataW.trod_struct ht h
  cases hx
  refine ⟨hl, fun i f hf => ?_⟩
  have hi : i < xs.length := by rw [hxl]; exact (Array.getElem?_eq_some_iff.1 hf).1
  have := hall i f hf
  rw [List.getElem?_eq_getElem hi] at this
  refine ⟨H, enc, spare, held, n, xs[i].1, xs[i].2, this, fun m hm => hw m ?_⟩
  simp only [DataW.weights, ht]
  exact DataW.weights_mem_each (j := i) (t := f.type) (d := xs[i].1) (by simp [hf]) (by simp [hi]) m hm
theorem Rdd.array {t e : TypeId} {k : Nat} {cs : List Value} (ht : P.underlying t = some (.array k e)) (h : Rdd P w t cs) :
    cs.length = P.cellsOf t ∧ ∀ i, i < k → Rdd P w e ((cs.drop (i * P.cellsOf e)).take (P.cellsOf e)) := by
  obtain ⟨H, enc, spare, held, fuel, d, ps, h, hw⟩ := h
  obtain ⟨xs, n, _, hx, hl, hxl, hall⟩ := DataW.trod_array ht h
  cases hx
  refine ⟨hl, fun i hi => ?_⟩
  have := hall i hi
  rw [List.getElem?_eq_getElem (by omega)] at this
  refine ⟨H, enc, spare, held, n, xs[i].1, xs[i].2, this, fun m hm => hw m ?_⟩
  simp only [DataW.weights, ht]
  exact weightsAll_mem (List.mem_map.2 ⟨xs[i], List.getElem_mem _, rfl⟩) hm
structure Rws (sz : Nat) (w : World) (s : Sl) (es : List (List Value)) : Prop where
  len : es.length = s.n
  row : ∀ i e, es[i]? = some e → e.length = sz ∧ ∃ p, s.a = some p ∧ ∀ j v, e[j]? = some v → w.cell? ((p.add (i * sz)).add j) = some v
theorem Rws.keep {S : Nat → Prop} {sz : Nat} {w w' : World} {s : Sl} {es : List (List Value)} (h : Rws sz w s es) (ho : Only S w w') (hs : ∀ p, s.a = some p → ¬ S p.block) : Rws sz w' s es :=
  ⟨h.len, fun i e he => by
    obtain ⟨h1, p, hp, hc⟩ := h.row i e he
    refine ⟨h1, p, hp, fun j v hv => ho.cell ?_ (hc j v hv)⟩
    have : ((p.add (i * sz)).add j).block = p.block := by rw [block_add, block_add]
    rw [this]; exact hs p hp⟩
theorem Rws.ext {sz : Nat} {w w' : World} {s : Sl} {es : List (List Value)} (h : Rws sz w s es) (ho : Ext w w') : Rws sz w' s es := h.keep ho fun _ _ h => h
theorem ixR_i {w : World} {s : Sl} {es : List (List Value)} {sz : Nat} {i : Int} {c : Addr → Prop} (h : Rws sz w s es) (h0 : 0 ≤ i) (h1 : i < s.n)
    (hc : ∀ p e, es[i.toNat]? = some e → e.length = sz → (∀ j v, e[j]? = some v → w.cell? (p.add j) = some v) → c p) : ixS s i sz c := by
  have hlen := h.len
  obtain ⟨h2, p, hp, hcell⟩ := h.row i.toNat es[i.toNat] (List.getElem?_eq_getElem (by omega))
  unfold ixS
  rw [hp]
  exact ⟨⟨h0, h1⟩, hc _ _ (List.getElem?_eq_getElem (by omega)) h2 hcell⟩
theorem Rws.sls {s : Sl} {xs : List Value} (h : Rws 1 w s (xs.map fun v => [v])) : Sls 1 w s xs := by
  refine ⟨by have := h.len; simpa using this, fun i v hv => ?_⟩
  obtain ⟨_, p, hp, hc⟩ := h.row i [v] (by simp [hv])
  refine ⟨p, hp, ?_⟩
  have := hc 0 v rfl
  rwa [Nat.mul_one, add_zero] at this
theorem cells_get {base n : Nat} {a : Addr} {vs : List Value} (h : w.cells? base a n = some vs) : vs.length = n ∧ ∀ j v, vs[j]? = some v → w.cell? (a.add j) = some v := by
  have hs := World.cells?_some h
  refine ⟨by simpa using hs.2.1, fun j v hv => ?_⟩
  have hj := (List.getElem?_eq_some_iff.1 hv).1
  have := hs.2.2 j (by omega)
  rw [this]; exact hv
theorem Rdd.slice {t e : TypeId} {cs : List Value} (ht : P.underlying t = some (.slice e)) (h : Rdd P w t cs) :
    ∃ (s : Sl) (es : List (List Value)), cs = [.slice s.a s.n s.c] ∧ Rws (P.cellsOf e) w s es ∧ es.length * P.bytesOf e ≤ reachBytes ∧ s.n ≤ s.c ∧ s.c ≤ 9223372036854775807 ∧ ∀ e' ∈ es, Rdd P w e e' := by
  obtain ⟨H, enc, spare, held, fuel, d, ps, h, hw⟩ := h
  rcases DataW.trod_slice ht h with ⟨rfl, _⟩ | ⟨a, len, cap, elems, rest, n, _, rfl, hx, hb, hl, hm, hlen, hel, hsp, hns⟩
  · exact ⟨⟨none, 0, 0⟩, [], rfl, ⟨rfl, fun i e h => by simp at h⟩, by simp, Nat.le_refl _, by simp, by simp⟩
  · cases hx
    simp only [DataW.weights, ht] at hw
    have each : ∀ i, i < len → ∃ vs, w.cells? 0 (a.add (i * P.cellsOf e)) (P.cellsOf e) = some vs ∧ ∃ x, elems[i]? = some x ∧ DataW.trod enc P w 0 spare held n e vs = some x := by
      intro i hi
      have h1 := hel i hi
      rw [List.getElem?_eq_getElem (by omega)] at h1
      cases hc : w.cells? 0 (a.add (i * P.cellsOf e)) (P.cellsOf e) with
      | none => rw [hc] at h1; simp at h1
      | some vs => rw [hc] at h1; exact ⟨vs, rfl, elems[i], List.getElem?_eq_getElem (by omega), h1⟩
    refine ⟨⟨some a, len, cap⟩, (List.range len).map fun i => (w.cells? 0 (a.add (i * P.cellsOf e)) (P.cellsOf e)).getD [], rfl, ⟨by simp, fun i e' he => ?_⟩, ?_, hl, by unfold maxLen at hm; exact hm, fun e' he' => ?_⟩
    · have hi : i < len := by have := (List.getElem?_eq_some_iff.1 he).1; simpa using this
      obtain ⟨vs, hvs, _⟩ := each i hi
      simp [hi, hvs] at he
      subst he
      obtain ⟨h1, h2⟩ := cells_get hvs
      exact ⟨h1, a, rfl, h2⟩
    · have := hw ((elems.length + rest.length) * P.bytesOf e) (by simp)
      simp only [List.length_map, List.length_range] at this ⊢
      exact Nat.le_trans (Nat.mul_le_mul_right _ (by omega)) this
    · obtain ⟨i, hi, rfl⟩ := List.mem_map.1 he'
      obtain ⟨vs, hvs, x, hx, ht'⟩ := each i (by simpa using hi)
      rw [hvs]
      refine ⟨H, enc, spare, held, n, x.1, x.2, ht', fun m hm => hw m ?_⟩
      refine List.mem_cons_of_mem _ (List.mem_append.2 (.inl (weightsAll_mem (List.mem_map.2 ⟨x, List.mem_of_getElem? hx, rfl⟩) hm)))
theorem exists_map {A B : Type} {f : A → B} {G : A → Prop} : ∀ {es : List B}, (∀ e ∈ es, ∃ x, e = f x ∧ G x) → ∃ l : List A, es = l.map f ∧ ∀ x ∈ l, G x
  | [], _ => ⟨[], rfl, by simp⟩
  | e :: es, h => by
    obtain ⟨x, rfl, hx⟩ := h e (by simp)
    obtain ⟨l, rfl, hl⟩ := exists_map (es := es) fun e he => h e (by simp [he])
    exact ⟨x :: l, rfl, fun y hy => by rcases List.mem_cons.1 hy with rfl | hy; exact hx; exact hl y hy⟩
theorem Rdd.ints {t e : TypeId} {cs : List Value} (ht : P.underlying t = some (.slice e)) (he : P.underlying e = some (.int .i64)) (hc : P.cellsOf e = 1) (hb : P.bytesOf e = 8) (h : Rdd P w t cs) :
    ∃ (s : Sl) (xs : List Int), cs = [.slice s.a s.n s.c] ∧ SlI w s xs ∧ xs.length * 8 ≤ reachBytes ∧ ∀ x ∈ xs, InI x := by
  obtain ⟨s, es, rfl, hr, hbytes, hnc, hcm, hall⟩ := h.slice ht
  obtain ⟨xs, rfl, hx⟩ := exists_map (f := fun n => [Value.int .i64 n]) (G := InI) fun e' he' => (hall e' he').int he
  rw [hc] at hr
  rw [hb] at hbytes
  refine ⟨s, xs, rfl, Rws.sls (by simpa [Go.Ev.ints, Function.comp_def] using hr), by simpa using hbytes, hx⟩
theorem Arg.int {t : TypeId} {v : Value} (ht : P.underlying t = some (.int .i64)) (h : Arg P w t v) : ∃ n, v = .int .i64 n ∧ InI n := by
  obtain ⟨b, hf⟩ := h.form
  obtain ⟨n, rfl⟩ := okWide_int ht hf
  obtain ⟨m, hm, hI⟩ := h.reads.int ht
  have : n = m := by simpa [Value.cells] using hm
  exact ⟨n, rfl, this ▸ hI⟩
theorem Arg.bool {t : TypeId} {v : Value} (ht : P.underlying t = some .bool) (h : Arg P w t v) : ∃ n, v = .bool n := by
  obtain ⟨b, hf⟩ := h.form
  exact okWide_bool ht hf
theorem Arg.agg {t : TypeId} {v : Value} (ht : (∃ n e, P.underlying t = some (.array n e)) ∨ ∃ fs, P.underlying t = some (.struct fs)) (h : Arg P w t v) : ∃ cs, v = .agg cs ∧ Rdd P w t cs.toList := by
  obtain ⟨b, hf⟩ := h.form
  have hv : ∃ cs, v = .agg cs := by
    rcases ht with ⟨n, e, ht⟩ | ⟨fs, ht⟩
    all_goals
      simp only [Value.okWide, ht] at hf
      obtain ⟨cs, h1, _⟩ := hf
      exact ⟨cs, h1⟩
  obtain ⟨cs, rfl⟩ := hv
  exact ⟨cs, rfl, by simpa [Value.cells] using h.reads⟩
theorem Arg.slice {t e : TypeId} {v : Value} (ht : P.underlying t = some (.slice e)) (h : Arg P w t v) : ∃ s : Sl, v = .slice s.a s.n s.c ∧ Rdd P w t [v] := by
  obtain ⟨b, hf⟩ := h.form
  obtain ⟨a, n, c, rfl⟩ := okWide_slice ht hf
  exact ⟨⟨a, n, c⟩, rfl, by simpa [Value.cells] using h.reads⟩
theorem Arg.ints {t e : TypeId} {v : Value} (ht : P.underlying t = some (.slice e)) (he : P.underlying e = some (.int .i64)) (hc : P.cellsOf e = 1) (hb : P.bytesOf e = 8) (h : Arg P w t v) :
    ∃ (s : Sl) (xs : List Int), v = .slice s.a s.n s.c ∧ SlI w s xs ∧ xs.length * 8 ≤ reachBytes ∧ ∀ x ∈ xs, InI x := by
  obtain ⟨s, rfl, hr⟩ := h.slice ht
  obtain ⟨s', xs, h1, h2, h3, h4⟩ := hr.ints ht he hc hb
  have : s = s' := by
    obtain ⟨a, n, c⟩ := s; obtain ⟨a', n', c'⟩ := s'
    simpa using h1
  subst this
  exact ⟨s, xs, rfl, h2, h3, h4⟩
end
def flatB (P : Program) : Nat → TypeId → Bool
  | 0, _ => false
  | n + 1, t => match P.underlying t with
    | some (.int .i64) => true
    | some (.struct fs) => fs.all (fun f => flatB P n f.type) && (List.range (P.cellsOf t)).all fun j => fs.any fun f => decide (f.offset ≤ j ∧ j < f.offset + P.cellsOf f.type)
    | some (.array k e) => flatB P n e && decide (P.cellsOf t = k * P.cellsOf e) && decide (0 < P.cellsOf e)
    | _ => false
theorem mem_part {cs : List Value} {o n j : Nat} (h0 : o ≤ j) (h1 : j < o + n) (h2 : j < cs.length) : cs[j] ∈ (cs.drop o).take n := by
  apply List.mem_of_getElem? (i := j - o)
  rw [List.getElem?_take_of_lt (by omega), List.getElem?_drop, show o + (j - o) = j by omega, List.getElem?_eq_getElem h2]
theorem Rdd.flat {P : Program} {w : World} : ∀ {n : Nat} {t : TypeId} {cs : List Value}, flatB P n t = true → Rdd P w t cs → ∀ c ∈ cs, ∃ z, c = .int .i64 z ∧ InI z
  | 0, _, _, h, _ => by cases h
  | n + 1, t, cs, h, hr => by
    unfold flatB at h
    split at h
    · rename_i ht
      obtain ⟨z, rfl, hz⟩ := hr.int ht
      intro c hc
      rw [List.mem_singleton] at hc
      exact ⟨z, hc, hz⟩
    · rename_i fs ht
      obtain ⟨hl, hf⟩ := hr.struct ht
      simp only [Bool.and_eq_true, List.all_eq_true] at h
      intro c hc
      obtain ⟨j, hj, rfl⟩ := List.getElem_of_mem hc
      have h2 := h.2 j (by simp; omega)
      obtain ⟨i, hi, hfi⟩ := Array.any_eq_true.1 h2
      have hfi := of_decide_eq_true hfi
      have hflat := (Array.all_eq_true.1 h.1) i hi
      exact Rdd.flat hflat (hf i fs[i] (by simp)) _ (mem_part hfi.1 hfi.2 hj)
    · rename_i k e ht
      obtain ⟨hl, hf⟩ := hr.array ht
      simp only [Bool.and_eq_true, decide_eq_true_eq] at h
      obtain ⟨⟨h1, h2⟩, h3⟩ := h
      intro c hc
      obtain ⟨j, hj, rfl⟩ := List.getElem_of_mem hc
      have hdiv : j / P.cellsOf e < k := by
        rw [Nat.div_lt_iff_lt_mul h3]; omega
      have hm := Nat.div_add_mod j (P.cellsOf e)
      have hlt := Nat.mod_lt j h3
      rw [Nat.mul_comm] at hm
      exact Rdd.flat h1 (hf (j / P.cellsOf e) hdiv) _ (mem_part (by omega) (by omega) hj)
    · cases h
theorem Rdd.len {P : Program} {w : World} {t : TypeId} {cs : List Value} (ht : (∃ n e, P.underlying t = some (.array n e)) ∨ ∃ fs, P.underlying t = some (.struct fs)) (h : Rdd P w t cs) : cs.length = P.cellsOf t := by
  rcases ht with ⟨n, e, ht⟩ | ⟨fs, ht⟩
  · exact (h.array ht).1
  · exact (h.struct ht).1
theorem Arg.flat {P : Program} {w : World} {t : TypeId} {v : Value} {n k : Nat} (ht : (∃ n e, P.underlying t = some (.array n e)) ∨ ∃ fs, P.underlying t = some (.struct fs)) (hf : flatB P n t = true) (hc : P.cellsOf t = k) (h : Arg P w t v) :
    ∃ xs : List Int, v = .agg (Go.Ev.ints xs).toArray ∧ xs.length = k ∧ ∀ y ∈ xs, InI y := by
  obtain ⟨cs, rfl, hr⟩ := h.agg ht
  obtain ⟨xs, hx, hI⟩ := exists_map (hr.flat hf)
  refine ⟨xs, ?_, ?_, hI⟩
  · have : cs = (xs.map (Value.int .i64)).toArray := by rw [← hx]
    rw [this]
  · have := hr.len ht
    rw [hx, hc] at this
    simpa using this
theorem unV_v : ∀ (k : K) (x : k.T) (c : k.T → Prop), unV k (k.v x) c = c x
  | .i k, x, c => by simp [unV, K.v, toI]
  | .b, x, c => rfl
  | .p, x, c => rfl
  | .a, x, c => rfl
  | .s, x, c => rfl
  | .str, x, c => rfl
  | .m, x, c => rfl
  | .ag, x, c => rfl
  | .raw, x, c => rfl
theorem unL_val : ∀ (ks : List K) (x : KT ks) (c : KT ks → Prop), unL ks (valL ks x) c = c x
  | [], x, c => rfl
  | [k], x, c => unV_v k x c
  | k :: (y :: r), x, c => by
    show unV k (k.v x.1) (fun z => unL (y :: r) (valL (y :: r) x.2) fun xs => c (z, xs)) = c x
    rw [unV_v, unL_val (y :: r)]; rfl
theorem Sound.call {P : Program} {f : FuncId} {aks rks : List K} {F : KT aks → World → (KT rks → World → Prop) → Prop} (h : Sound P f fun args w c => unL aks args fun x => F x w fun r w => c (packV (valL rks r)) w) {args : Array Value} {W : World} {Q : Ending → World → Prop} (x : KT aks) (ha : args.toList = valL aks x)
    (hF : F x W fun r w => Q (.returned (packV (valL rks r))) w) : Calls P f args W Q := by
  refine (h.2 args W (fun v w => Q (.returned v) w) ?_).mono ?_
  · rw [ha]
    show unL aks (valL aks x) _
    rw [unL_val]; exact hF
  · rintro e w' ⟨v, rfl, hv⟩; exact hv
end Go.Ev
namespace Go.Proofs.YtgkfbagclkjilaaGreatDoor
open Go Go.Ev
abbrev ltFu10 : Array Value := #[(.int .i64 (0 : Int)), (.int .i64 (0 : Int)), (.int .i64 (0 : Int)), (.int .i64 (0 : Int)), (.int .i64 (0 : Int)), (.int .i64 (0 : Int)), (.int .i64 (0 : Int)), (.int .i64 (0 : Int)), (.int .i64 (0 : Int)), (.int .i64 (0 : Int)), (.int .i64 (0 : Int)), (.int .i64 (0 : Int)), (.int .i64 (0 : Int)), (.int .i64 (0 : Int)), (.int .i64 (0 : Int)), (.int .i64 (0 : Int)), (.int .i64 (0 : Int)), (.int .i64 (0 : Int)), (.int .i64 (0 : Int))]
abbrev ltFu11 : Array Value := #[(.int .i64 (0 : Int)), (.int .i64 (0 : Int)), (.int .i64 (0 : Int)), (.int .i64 (0 : Int)), (.int .i64 (0 : Int))]
abbrev ltFu12 : Array Value := #[(.int .i64 (0 : Int)), (.int .i64 (0 : Int)), (.int .i64 (0 : Int)), (.int .i64 (0 : Int)), (.int .i64 (0 : Int)), (.int .i64 (0 : Int)), (.string (ByteArray.mk #[]))]
abbrev ltFu13 : Array Value := #[(.int .i64 (0 : Int)), (.int .i64 (0 : Int)), (.int .i64 (0 : Int)), (.int .i64 (0 : Int)), (.int .i64 (0 : Int)), (.int .i64 (0 : Int)), (.int .i64 (0 : Int)), (.int .i64 (0 : Int)), (.int .i64 (0 : Int)), (.int .i64 (0 : Int)), (.int .i64 (0 : Int)), (.int .i64 (0 : Int)), (.int .i64 (0 : Int)), (.int .i64 (0 : Int)), (.int .i64 (0 : Int)), (.int .i64 (0 : Int)), (.int .i64 (0 : Int)), (.int .i64 (0 : Int)), (.int .i64 (0 : Int)), (.int .i64 (0 : Int)), (.int .i64 (0 : Int))]
abbrev ltFu14 : Array Value := #[(.int .i64 (0 : Int)), (.int .i64 (0 : Int)), (.int .i64 (0 : Int)), (.int .i64 (0 : Int)), (.int .i64 (0 : Int)), (.int .i64 (0 : Int)), (.int .i64 (0 : Int)), (.int .i64 (0 : Int)), (.int .i64 (0 : Int)), (.int .i64 (0 : Int)), (.int .i64 (0 : Int)), (.int .i64 (0 : Int)), (.int .i64 (0 : Int)), (.int .i64 (0 : Int)), (.int .i64 (0 : Int)), (.int .i64 (0 : Int)), (.int .i64 (0 : Int)), (.int .i64 (0 : Int)), (.int .i64 (0 : Int)), (.int .i64 (0 : Int)), (.int .i64 (0 : Int)), (.int .i64 (0 : Int)), (.int .i64 (0 : Int)), (.int .i64 (0 : Int)), (.int .i64 (0 : Int)), (.int .i64 (0 : Int)), (.int .i64 (0 : Int)), (.int .i64 (0 : Int)), (.int .i64 (0 : Int)), (.int .i64 (0 : Int)), (.int .i64 (0 : Int)), (.int .i64 (0 : Int)), (.int .i64 (0 : Int)), (.int .i64 (0 : Int)), (.int .i64 (0 : Int)), (.int .i64 (0 : Int)), (.int .i64 (0 : Int)), (.int .i64 (0 : Int)), (.int .i64 (0 : Int)), (.int .i64 (0 : Int)), (.int .i64 (0 : Int)), (.int .i64 (0 : Int)), (.int .i64 (0 : Int)), (.int .i64 (0 : Int)), (.int .i64 (0 : Int)), (.int .i64 (0 : Int)), (.int .i64 (0 : Int)), (.int .i64 (0 : Int)), (.int .i64 (0 : Int)), (.int .i64 (0 : Int)), (.int .i64 (0 : Int)), (.int .i64 (0 : Int)), (.int .i64 (0 : Int)), (.int .i64 (0 : Int)), (.int .i64 (0 : Int)), (.int .i64 (0 : Int)), (.int .i64 (0 : Int)), (.int .i64 (0 : Int)), (.int .i64 (0 : Int)), (.int .i64 (0 : Int)), (.int .i64 (0 : Int)), (.int .i64 (0 : Int)), (.int .i64 (0 : Int)), (.int .i64 (0 : Int)), (.int .i64 (0 : Int)), (.int .i64 (0 : Int)), (.int .i64 (0 : Int)), (.int .i64 (0 : Int))]
abbrev ltFu15 : Array Value := #[(.bool false), (.bool false), (.bool false), (.bool false), (.bool false), (.bool false), (.bool false), (.bool false), (.bool false), (.bool false), (.bool false), (.bool false), (.bool false), (.bool false), (.bool false), (.bool false), (.bool false), (.bool false), (.bool false), (.bool false), (.bool false), (.bool false), (.bool false), (.bool false), (.bool false), (.bool false), (.bool false), (.bool false), (.bool false), (.bool false), (.bool false), (.bool false), (.bool false), (.bool false), (.bool false), (.bool false), (.bool false), (.bool false), (.bool false), (.bool false), (.bool false), (.bool false), (.bool false), (.bool false), (.bool false), (.bool false), (.bool false), (.bool false), (.bool false), (.bool false), (.bool false), (.bool false), (.bool false), (.bool false), (.bool false), (.bool false), (.bool false), (.bool false), (.bool false), (.bool false), (.bool false), (.bool false), (.bool false), (.bool false), (.bool false), (.bool false), (.bool false), (.bool false), (.bool false), (.bool false), (.bool false), (.bool false), (.bool false), (.bool false), (.bool false), (.bool false), (.bool false), (.bool false), (.bool false), (.bool false), (.bool false), (.bool false), (.bool false), (.bool false), (.bool false), (.bool false), (.bool false), (.bool false), (.bool false), (.bool false), (.bool false), (.bool false), (.bool false), (.bool false), (.bool false), (.bool false), (.bool false), (.bool false), (.bool false), (.bool false), (.bool false), (.bool false), (.bool false), (.bool false), (.bool false), (.bool false), (.bool false), (.bool false), (.bool false), (.bool false), (.bool false), (.bool false), (.bool false), (.bool false), (.bool false), (.bool false), (.bool false), (.bool false), (.bool false), (.bool false), (.bool false), (.bool false), (.bool false), (.bool false), (.bool false), (.bool false), (.bool false), (.bool false), (.bool false), (.bool false), (.bool false), (.bool false), (.bool false), (.bool false), (.bool false), (.bool false), (.bool false), (.bool false), (.bool false), (.bool false), (.bool false), (.bool false), (.bool false), (.bool false), (.bool false), (.bool false), (.bool false), (.bool false), (.bool false), (.bool false), (.bool false), (.bool false), (.bool false), (.bool false), (.bool false), (.bool false), (.bool false), (.bool false), (.bool false), (.bool false), (.bool false), (.bool false), (.bool false), (.bool false), (.bool false), (.bool false), (.bool false), (.bool false), (.bool false), (.bool false), (.bool false), (.bool false), (.bool false), (.bool false), (.bool false), (.bool false), (.bool false), (.bool false), (.bool false), (.bool false), (.bool false), (.bool false), (.bool false), (.bool false), (.bool false), (.bool false), (.bool false), (.bool false), (.bool false), (.bool false), (.bool false), (.bool false), (.bool false), (.bool false), (.bool false), (.bool false), (.bool false), (.bool false), (.bool false), (.bool false), (.bool false), (.bool false), (.bool false), (.bool false), (.bool false), (.bool false), (.bool false), (.bool false), (.bool false), (.bool false), (.bool false), (.bool false), (.bool false), (.bool false), (.bool false), (.bool false), (.bool false), (.bool false), (.bool false), (.bool false), (.bool false), (.bool false), (.bool false), (.bool false), (.bool false), (.bool false), (.bool false), (.bool false), (.bool false), (.bool false), (.bool false), (.bool false), (.bool false), (.bool false), (.bool false), (.bool false), (.bool false), (.bool false), (.bool false), (.bool false), (.bool false), (.bool false), (.bool false), (.bool false), (.bool false), (.bool false), (.bool false), (.bool false), (.bool false), (.bool false), (.bool false), (.bool false), (.bool false), (.bool false), (.bool false), (.bool false)]
theorem mixed : Go.Proofs.Tryz.prog.follows .mixedOrders = true := by kernel_rfl
abbrev n_pelotonlaw08_FitsQuiet : Nat := 4
abbrev n_pelotonlaw08_Short : Nat := 7
abbrev n_pelotonlaw08_awake : Nat := 8
abbrev n_fits_Fits : Nat := 9
abbrev n_pelotonref08_Fits : Nat := 10
abbrev n_fits_Quiet : Nat := 11
abbrev n_pelotonlaw02_Few : Nat := 12
abbrev n_pelotonlaw07_Few : Nat := 18
abbrev n_fits_all : Nat := 19
abbrev n_pelotonref04_Accepts : Nat := 20
abbrev n_pelotonref07_Check : Nat := 21
abbrev n_pelotonref05_Root : Nat := 22
abbrev n_pelotonref08_Book_fits : Nat := 23
abbrev n_check_Accepts : Nat := 24
abbrev n_frame_Root : Nat := 29
abbrev n_table_came : Nat := 32
abbrev n_table_Check : Nat := 33
abbrev n_fits_world : Nat := 34
abbrev n_fits_all_1 : Nat := 35
abbrev n_fits_all_2 : Nat := 36
abbrev n_fits_book_fits : Nat := 37
abbrev n_pelotonref04_Program : Nat := 38
abbrev n_pelotonref07_right : Nat := 39
abbrev n_pelotonref07_Kids : Nat := 40
abbrev n_pelotonref08_Book_scope : Nat := 41
abbrev n_pelotonref08_Book_step : Nat := 42
abbrev n_pelotonref08_Book_asked : Nat := 43
abbrev n_pelotonref02_Point : Nat := 44
abbrev n_check_Program : Nat := 45
abbrev n_frame_Frame_Next : Nat := 46
abbrev n_code_Point : Nat := 47
abbrev n_frame_Frame_Plain : Nat := 51
abbrev n_table_check : Nat := 60
abbrev n_table_Kids : Nat := 61
abbrev n_fits_run_step : Nat := 62
abbrev n_fits_run_ends : Nat := 63
abbrev n_pelotonref04_shape : Nat := 64
abbrev n_pelotonref04_Depths : Nat := 65
abbrev n_pelotonref04_Held : Nat := 66
abbrev n_pelotonref04_wrong : Nat := 67
abbrev n_pelotonref07_Within : Nat := 68
abbrev n_pelotonref07_binary : Nat := 69
abbrev n_pelotonref07_Came : Nat := 70
abbrev n_pelotonref05_Task_Plain : Nat := 71
abbrev n_pelotonref05_Task_Child : Nat := 72
abbrev n_pelotonref05_Task_Forked : Nat := 73
abbrev n_pelotonref05_Task_Joined : Nat := 74
abbrev n_pelotonref05_Task_On : Nat := 75
abbrev n_pelotonref05_Task_Closed : Nat := 76
abbrev n_check_shape : Nat := 77
abbrev n_check_function : Nat := 78
abbrev n_code_Check : Nat := 79
abbrev n_frame_Frame_to : Nat := 80
abbrev n_frame_Frame_Passed : Nat := 81
abbrev n_frame_Frame_sums : Nat := 82
abbrev n_frame_Frame_Child : Nat := 83
abbrev n_frame_Frame_Forked : Nat := 84
abbrev n_frame_Frame_Joined : Nat := 85
abbrev n_frame_Frame_Closed : Nat := 86
abbrev n_table_look_place : Nat := 87
abbrev n_table_look_span : Nat := 88
abbrev n_table_look_told : Nat := 89
abbrev n_table_look_state : Nat := 90
abbrev n_fits_run_fork : Nat := 91
abbrev n_fits_run_join : Nat := 92
abbrev n_fits_run_open : Nat := 93
abbrev n_fits_run_close : Nat := 94
abbrev n_fits_run_cancel : Nat := 95
abbrev n_fits_run_pass : Nat := 96
abbrev n_fits_run_leave : Nat := 97
abbrev n_fits_book_asked : Nat := 98
abbrev n_pelotonref02_Check : Nat := 99
abbrev n_pelotonref04_without : Nat := 100
abbrev n_pelotonref04_bit : Nat := 101
abbrev n_pelotonref05_Task_With : Nat := 102
abbrev n_pelotonref05_Task_To : Nat := 103
abbrev n_pelotonref05_is : Nat := 104
abbrev n_check_Depths : Nat := 105
abbrev n_check_Held : Nat := 106
abbrev n_check_judge_places : Nat := 107
abbrev n_check_judge_last : Nat := 108
abbrev n_check_judge_scopes : Nat := 109
abbrev n_check_judge_handles : Nat := 110
abbrev n_code_operands : Nat := 111
abbrev n_code_span : Nat := 112
abbrev n_frame_Frame_sums_1 : Nat := 113
abbrev n_frame_Frame_sums_2 : Nat := 114
abbrev n_frame_Frame_sums_3 : Nat := 115
abbrev n_frame_Frame_sums_4 : Nat := 116
abbrev n_frame_Frame_sums_5 : Nat := 117
abbrev n_frame_Frame_sums_6 : Nat := 118
abbrev n_frame_one : Nat := 119
abbrev n_frame_may : Nat := 120
abbrev n_table_look_row : Nat := 121
abbrev n_table_Within : Nat := 122
abbrev n_strings_Trim : Nat := 123
abbrev n_pelotonref02_spans : Nat := 124
abbrev n_pelotonref04_Behind : Nat := 125
abbrev n_check_flow_meet : Nat := 126
abbrev n_check_behind : Nat := 127
abbrev n_check_goes : Nat := 128
abbrev n_check_ends : Nat := 129
abbrev n_strings_trimLeftByte : Nat := 130
abbrev n_strings_trimRightByte : Nat := 131
abbrev n_strings_makeASCIISet : Nat := 132
abbrev n_strings_trimLeftASCII : Nat := 133
abbrev n_strings_trimRightASCII : Nat := 134
abbrev n_strings_trimLeftUnicode : Nat := 135
abbrev n_strings_trimRightUnicode : Nat := 136
abbrev n_check_behind_1 : Nat := 137
abbrev n_strings_asciiSet_contains : Nat := 138
def pelotonlaw02_Few (p_0 : Array Value) (w : World) (k : (Bool) → World → Prop) : Prop :=
 newC w p_0 24 fun a1 w2 =>
 loopP (S := Int) (fun C3 i4 w5 =>
 ldS w5 (Addr.add a1 0) fun s6 =>
 iteB ((decide (i4 < ((s6.n : Nat) : Int))) && (decide (i4 < (41 : Int)))) (
 ldS w5 (Addr.add a1 0) fun s7 =>
 ixS s7 i4 2 fun a8 =>
 ldS w5 (Addr.add a8 1) fun s9 =>
 iteB (decide (((s9.n : Nat) : Int) > (140 : Int))) (
 (k false w5)) (
 (C3 (IntKind.wrap .i64 (i4 + (1 : Int))) w5))) (
 ldS w5 (Addr.add a1 0) fun s10 =>
 (k (decide (((s10.n : Nat) : Int) ≤ (40 : Int))) w5))) (0 : Int) w2
def d_pelotonlaw02_Few : Dec := fun args w c => unL [.ag] args fun x => pelotonlaw02_Few x w fun r w => c (packV (valL [.b] r)) w
theorem s_pelotonlaw02_Few : Sound Go.Proofs.Tryz.prog n_pelotonlaw02_Few d_pelotonlaw02_Few :=
 sound_of (mask := 4198414) (h := [(3, [(3, (.i .i64))])]) (ds := []) mixed Go.Proofs.Tryz.func12 trivial
 [.ag] [.b] (by kernel_rfl) (fun x w k => pelotonlaw02_Few x w k) (fun x w k => by kernel_rfl)
def pelotonlaw07_Few (l_0 : Sl) (w : World) (k : (Bool) → World → Prop) : Prop :=
 loopP (S := Int) (fun C1 i2 w3 =>
 iteB ((decide (i2 < ((l_0.n : Nat) : Int))) && (decide (i2 < (61 : Int)))) (
 ixS l_0 i2 7 fun a4 =>
 ldStr w3 (Addr.add a4 6) fun t5 =>
 iteB (decide ((((ByteArray.size t5) : Nat) : Int) > (100 : Int))) (
 (k false w3)) (
 (C1 (IntKind.wrap .i64 (i2 + (1 : Int))) w3))) (
 (k (decide (((l_0.n : Nat) : Int) ≤ (60 : Int))) w3))) (0 : Int) w
def d_pelotonlaw07_Few : Dec := fun args w c => unL [.s] args fun x => pelotonlaw07_Few x w fun r w => c (packV (valL [.b] r)) w
theorem s_pelotonlaw07_Few : Sound Go.Proofs.Tryz.prog n_pelotonlaw07_Few d_pelotonlaw07_Few :=
 sound_of (mask := 1050637) (h := [(3, [(3, (.i .i64))])]) (ds := []) mixed Go.Proofs.Tryz.func18 trivial
 [.s] [.b] (by kernel_rfl) (fun x w k => pelotonlaw07_Few x w k) (fun x w k => by kernel_rfl)
def pelotonlaw08_Short_b (pelotonlaw02_Few : Array Value → World → ((Bool) → World → Prop) → Prop) (pelotonlaw07_Few : Sl → World → ((Bool) → World → Prop) → Prop) (p_0 : Array Value) (l_1 : Sl) (w : World) (k : (Bool) → World → Prop) : Prop :=
 newC w p_0 24 fun a1 w2 =>
 joinP (S := Bool) (fun J3 =>
 ldA 1 w2 a1 fun cs4 =>
 pelotonlaw02_Few cs4 w2 fun b5 w6 =>
 iteB (!b5) (
 (J3 true w6)) (
 pelotonlaw07_Few l_1 w6 fun b7 w8 =>
 (J3 (!b7) w8))) fun b9 w10 =>
 iteB b9 (
 (k false w10)) (
 loopP (S := Int) (fun C11 i12 w13 =>
 iteB (decide (i12 < ((l_1.n : Nat) : Int))) (
 ixS l_1 i12 7 fun a14 =>
 ldI .i64 w13 (Addr.add a14 5) fun i15 =>
 iteB (decide (i15 > (3000 : Int))) (
 (k false w13)) (
 (C11 (IntKind.wrap .i64 (i12 + (1 : Int))) w13))) (
 (k true w13))) (0 : Int) w10)
theorem e_pelotonlaw08_Short (pelotonlaw02_Few : Array Value → World → ((Bool) → World → Prop) → Prop) (pelotonlaw07_Few : Sl → World → ((Bool) → World → Prop) → Prop) (x : KT [.ag, .s]) (w : World) (k : KT [.b] → World → Prop) : evFn Go.Proofs.Tryz.prog (orcOf [(n_pelotonlaw02_Few, (fun args w c => unL [.ag] args fun x => pelotonlaw02_Few x w fun r w => c (packV (valL [.b] r)) w)), (n_pelotonlaw07_Few, (fun args w c => unL [.s] args fun x => pelotonlaw07_Few x w fun r w => c (packV (valL [.b] r)) w))]) 33693750 [(1, [(13, .b)]), (6, [(5, (.i .i64))])] Go.Proofs.Tryz.f7 [.b] (valL [.ag, .s] x) w k = pelotonlaw08_Short_b pelotonlaw02_Few pelotonlaw07_Few x.1 x.2 w k := by kernel_rfl
def pelotonlaw08_Short (p_0 : Array Value) (l_1 : Sl) (w : World) (k : (Bool) → World → Prop) : Prop := pelotonlaw08_Short_b pelotonlaw02_Few pelotonlaw07_Few p_0 l_1 w k
def d_pelotonlaw08_Short : Dec := fun args w c => unL [.ag, .s] args fun x => pelotonlaw08_Short x.1 x.2 w fun r w => c (packV (valL [.b] r)) w
theorem s_pelotonlaw08_Short : Sound Go.Proofs.Tryz.prog n_pelotonlaw08_Short d_pelotonlaw08_Short :=
 sound_of (mask := 33693750) (h := [(1, [(13, .b)]), (6, [(5, (.i .i64))])]) (ds := [(n_pelotonlaw02_Few, d_pelotonlaw02_Few), (n_pelotonlaw07_Few, d_pelotonlaw07_Few)]) mixed Go.Proofs.Tryz.func7 ⟨s_pelotonlaw02_Few, s_pelotonlaw07_Few, trivial⟩
 [.ag, .s] [.b] (by kernel_rfl) (fun x w k => pelotonlaw08_Short x.1 x.2 w k) (fun x w k => e_pelotonlaw08_Short pelotonlaw02_Few pelotonlaw07_Few x w k)
def code_operands (op_0 : Int) (w : World) (k : (Array Value) → World → Prop) : Prop :=
 newC w #[(.int .i64 (0 : Int)), (.int .i64 (0 : Int)), (.int .i64 (0 : Int)), (.int .i64 (0 : Int))] 164 fun a1 w2 =>
 spl ltFu14 0 4 #[(.int .i64 (1 : Int)), (.int .i64 (0 : Int)), (.int .i64 (0 : Int)), (.int .i64 (5 : Int))] fun cs3 =>
 spl cs3 4 4 #[(.int .i64 (1 : Int)), (.int .i64 (1 : Int)), (.int .i64 (0 : Int)), (.int .i64 (0 : Int))] fun cs4 =>
 spl cs4 8 4 #[(.int .i64 (1 : Int)), (.int .i64 (1 : Int)), (.int .i64 (1 : Int)), (.int .i64 (0 : Int))] fun cs5 =>
 spl cs5 12 4 #[(.int .i64 (1 : Int)), (.int .i64 (1 : Int)), (.int .i64 (1 : Int)), (.int .i64 (0 : Int))] fun cs6 =>
 spl cs6 16 4 #[(.int .i64 (1 : Int)), (.int .i64 (1 : Int)), (.int .i64 (1 : Int)), (.int .i64 (0 : Int))] fun cs7 =>
 spl cs7 20 4 #[(.int .i64 (1 : Int)), (.int .i64 (1 : Int)), (.int .i64 (1 : Int)), (.int .i64 (0 : Int))] fun cs8 =>
 spl cs8 24 4 #[(.int .i64 (0 : Int)), (.int .i64 (0 : Int)), (.int .i64 (0 : Int)), (.int .i64 (2 : Int))] fun cs9 =>
 spl cs9 28 4 #[(.int .i64 (1 : Int)), (.int .i64 (0 : Int)), (.int .i64 (0 : Int)), (.int .i64 (2 : Int))] fun cs10 =>
 spl cs10 32 4 #[(.int .i64 (1 : Int)), (.int .i64 (0 : Int)), (.int .i64 (0 : Int)), (.int .i64 (3 : Int))] fun cs11 =>
 spl cs11 36 4 #[(.int .i64 (1 : Int)), (.int .i64 (1 : Int)), (.int .i64 (0 : Int)), (.int .i64 (0 : Int))] fun cs12 =>
 spl cs12 40 4 #[(.int .i64 (1 : Int)), (.int .i64 (1 : Int)), (.int .i64 (1 : Int)), (.int .i64 (0 : Int))] fun cs13 =>
 spl cs13 44 4 #[(.int .i64 (0 : Int)), (.int .i64 (0 : Int)), (.int .i64 (0 : Int)), (.int .i64 (4 : Int))] fun cs14 =>
 spl cs14 48 4 #[(.int .i64 (1 : Int)), (.int .i64 (0 : Int)), (.int .i64 (0 : Int)), (.int .i64 (0 : Int))] fun cs15 =>
 spl cs15 52 4 #[(.int .i64 (0 : Int)), (.int .i64 (0 : Int)), (.int .i64 (0 : Int)), (.int .i64 (0 : Int))] fun cs16 =>
 spl cs16 56 4 #[(.int .i64 (0 : Int)), (.int .i64 (0 : Int)), (.int .i64 (0 : Int)), (.int .i64 (0 : Int))] fun cs17 =>
 spl cs17 60 4 #[(.int .i64 (1 : Int)), (.int .i64 (0 : Int)), (.int .i64 (0 : Int)), (.int .i64 (0 : Int))] fun cs18 =>
 spl cs18 64 4 #[(.int .i64 (1 : Int)), (.int .i64 (0 : Int)), (.int .i64 (0 : Int)), (.int .i64 (0 : Int))] fun cs19 =>
 newC w2 ltFu14 180 fun a20 w21 =>
 stA 68 w21 a20 cs19 fun w22 =>
 ixP a20 17 op_0 4 fun a23 =>
 ldA 4 w22 a23 fun cs24 =>
 stA 4 w22 a1 cs24 fun w25 =>
 ldA 4 w25 a1 fun cs26 =>
 (k cs26 w25)
def d_code_operands : Dec := fun args w c => unL [(.i .i64)] args fun x => code_operands x w fun r w => c (packV (valL [.ag] r)) w
theorem s_code_operands : Sound Go.Proofs.Tryz.prog n_code_operands d_code_operands :=
 sound_of (mask := 13) (h := []) (ds := []) mixed Go.Proofs.Tryz.func111 trivial
 [(.i .i64)] [.ag] (by kernel_rfl) (fun x w k => code_operands x w k) (fun x w k => by kernel_rfl)
def code_span (kind_0 : Int) (w : World) (k : (Int × Int) → World → Prop) : Prop :=
 iteB (kind_0 == (1 : Int)) (
 (k ((0 : Int), (7 : Int)) w)) (
 iteB (kind_0 == (2 : Int)) (
 (k ((0 : Int), (127 : Int)) w)) (
 iteB (kind_0 == (3 : Int)) (
 (k ((0 : Int), (31 : Int)) w)) (
 iteB (kind_0 == (4 : Int)) (
 (k ((0 : Int), (65535 : Int)) w)) (
 iteB (kind_0 == (5 : Int)) (
 (k ((-(2147483648 : Int)), (2147483647 : Int)) w)) (
 (k ((0 : Int), (0 : Int)) w))))))
def d_code_span : Dec := fun args w c => unL [(.i .i64)] args fun x => code_span x w fun r w => c (packV (valL [(.i .i64), (.i .i64)] r)) w
theorem s_code_span : Sound Go.Proofs.Tryz.prog n_code_span d_code_span :=
 sound_of (mask := 10941) (h := []) (ds := []) mixed Go.Proofs.Tryz.func112 trivial
 [(.i .i64)] [(.i .i64), (.i .i64)] (by kernel_rfl) (fun x w k => code_span x w k) (fun x w k => by kernel_rfl)
def code_Check_b (code_operands : Int → World → ((Array Value) → World → Prop) → Prop) (code_span : Int → World → ((Int × Int) → World → Prop) → Prop) (i_0 : Array Value) (w : World) (k : (Int) → World → Prop) : Prop :=
 newC w i_0 42 fun a1 w2 =>
 joinP (S := Bool) (fun J3 =>
 ldI .i64 w2 (Addr.add a1 0) fun i4 =>
 iteB (decide (i4 < (0 : Int))) (
 (J3 true w2)) (
 ldI .i64 w2 (Addr.add a1 0) fun i5 =>
 (J3 (decide (i5 ≥ (17 : Int))) w2))) fun b6 w7 =>
 iteB b6 (
 (k (13 : Int) w7)) (
 ldI .i64 w7 (Addr.add a1 0) fun i8 =>
 code_operands i8 w7 fun cs9 w10 =>
 newC w10 #[(.int .i64 (0 : Int)), (.int .i64 (0 : Int)), (.int .i64 (0 : Int)), (.int .i64 (0 : Int))] 164 fun a11 w12 =>
 stA 4 w12 a11 cs9 fun w13 =>
 ldI .i64 w13 (Addr.add a1 1) fun i14 =>
 ldI .i64 w13 (Addr.add a1 2) fun i15 =>
 ldI .i64 w13 (Addr.add a1 3) fun i16 =>
 ldI .i64 w13 (Addr.add a1 4) fun i17 =>
 loopP (S := (Int × Int)) (fun C18 x19 w20 =>
 iteB (decide (x19.2 < (4 : Int))) (
 ixA #[(.int .i64 i14), (.int .i64 i15), (.int .i64 i16), (.int .i64 i17)] 4 x19.2 fun v21 =>
 toI .i64 v21 fun i22 =>
 ixP a11 4 x19.2 1 fun a23 =>
 ldI .i64 w20 a23 fun i24 =>
 code_span i24 w20 fun x25 w26 =>
 iteB ((decide (i22 < (x25.1, x25.2).1)) || (decide (i22 > (x25.1, x25.2).2))) (
 (k (10 : Int) w26)) (
 (C18 (x19.1, (IntKind.wrap .i64 (x19.2 + (1 : Int)))) w26))) (
 (k x19.1 w20))) ((0 : Int), (0 : Int)) w13)
theorem e_code_Check (code_operands : Int → World → ((Array Value) → World → Prop) → Prop) (code_span : Int → World → ((Int × Int) → World → Prop) → Prop) (x : KT [.ag]) (w : World) (k : KT [(.i .i64)] → World → Prop) : evFn Go.Proofs.Tryz.prog (orcOf [(n_code_operands, (fun args w c => unL [(.i .i64)] args fun x => code_operands x w fun r w => c (packV (valL [.ag] r)) w)), (n_code_span, (fun args w c => unL [(.i .i64)] args fun x => code_span x w fun r w => c (packV (valL [(.i .i64), (.i .i64)] r)) w))]) 140739367469566 [(1, [(16, .b)]), (8, [(4, (.i .i64)), (29, (.i .i64))])] Go.Proofs.Tryz.f79 [(.i .i64)] (valL [.ag] x) w k = code_Check_b code_operands code_span x w k := by kernel_rfl
def code_Check (i_0 : Array Value) (w : World) (k : (Int) → World → Prop) : Prop := code_Check_b code_operands code_span i_0 w k
def d_code_Check : Dec := fun args w c => unL [.ag] args fun x => code_Check x w fun r w => c (packV (valL [(.i .i64)] r)) w
theorem s_code_Check : Sound Go.Proofs.Tryz.prog n_code_Check d_code_Check :=
 sound_of (mask := 140739367469566) (h := [(1, [(16, .b)]), (8, [(4, (.i .i64)), (29, (.i .i64))])]) (ds := [(n_code_operands, d_code_operands), (n_code_span, d_code_span)]) mixed Go.Proofs.Tryz.func79 ⟨s_code_operands, s_code_span, trivial⟩
 [.ag] [(.i .i64)] (by kernel_rfl) (fun x w k => code_Check x w k) (fun x w k => e_code_Check code_operands code_span x w k)
def check_shape_b (code_Check : Array Value → World → ((Int) → World → Prop) → Prop) (f_0 : Array Value) (w : World) (k : (Int × Int) → World → Prop) : Prop :=
 newC w f_0 45 fun a1 w2 =>
 joinP (S := Bool) (fun J3 =>
 ldI .i64 w2 (Addr.add a1 0) fun i4 =>
 iteB (decide (i4 < (0 : Int))) (
 (J3 true w2)) (
 ldI .i64 w2 (Addr.add a1 0) fun i5 =>
 (J3 (decide (i5 > (255 : Int))) w2))) fun b6 w7 =>
 iteB b6 (
 (k ((-(1 : Int)), (10 : Int)) w7)) (
 joinP (S := Bool) (fun J8 =>
 ldS w7 (Addr.add a1 1) fun s9 =>
 iteB (decide (((s9.n : Nat) : Int) < (1 : Int))) (
 (J8 true w7)) (
 ldS w7 (Addr.add a1 1) fun s10 =>
 (J8 (decide (((s10.n : Nat) : Int) > (128 : Int))) w7))) fun b11 w12 =>
 iteB b11 (
 (k ((-(1 : Int)), (12 : Int)) w12)) (
 ldS w12 (Addr.add a1 1) fun s13 =>
 loopP (S := Int) (fun C14 i15 w16 =>
 iteB (decide (i15 < ((s13.n : Nat) : Int))) (
 ixS s13 i15 5 fun a17 =>
 ldA 5 w16 a17 fun cs18 =>
 newC w16 ltFu11 42 fun a19 w20 =>
 stA 5 w20 a19 cs18 fun w21 =>
 ldA 5 w21 a19 fun cs22 =>
 code_Check cs22 w21 fun i23 w24 =>
 iteB (i23 != (0 : Int)) (
 (k (i15, i23) w24)) (
 (C14 (IntKind.wrap .i64 (i15 + (1 : Int))) w24))) (
 (k ((0 : Int), (0 : Int)) w16))) (0 : Int) w12))
theorem e_check_shape (code_Check : Array Value → World → ((Int) → World → Prop) → Prop) (x : KT [.ag]) (w : World) (k : KT [(.i .i64), (.i .i64)] → World → Prop) : evFn Go.Proofs.Tryz.prog (orcOf [(n_code_Check, (fun args w c => unL [.ag] args fun x => code_Check x w fun r w => c (packV (valL [(.i .i64)] r)) w))]) 69742903422 [(1, [(14, .b)]), (4, [(24, .b)]), (9, [(28, (.i .i64))])] Go.Proofs.Tryz.f77 [(.i .i64), (.i .i64)] (valL [.ag] x) w k = check_shape_b code_Check x w k := by kernel_rfl
def check_shape (f_0 : Array Value) (w : World) (k : (Int × Int) → World → Prop) : Prop := check_shape_b code_Check f_0 w k
def d_check_shape : Dec := fun args w c => unL [.ag] args fun x => check_shape x w fun r w => c (packV (valL [(.i .i64), (.i .i64)] r)) w
theorem s_check_shape : Sound Go.Proofs.Tryz.prog n_check_shape d_check_shape :=
 sound_of (mask := 69742903422) (h := [(1, [(14, .b)]), (4, [(24, .b)]), (9, [(28, (.i .i64))])]) (ds := [(n_code_Check, d_code_Check)]) mixed Go.Proofs.Tryz.func77 ⟨s_code_Check, trivial⟩
 [.ag] [(.i .i64), (.i .i64)] (by kernel_rfl) (fun x w k => check_shape x w k) (fun x w k => e_check_shape code_Check x w k)
def check_Depths (code_0 : Sl) (w : World) (k : (Sl) → World → Prop) : Prop :=
 mkSl Go.Proofs.Tryz.prog 96 (.int .i64 ((code_0.n : Nat) : Int)) (.int .i64 ((code_0.n : Nat) : Int)) w fun s1 w2 =>
 loopP (S := (Int × Int)) (fun C3 x4 w5 =>
 iteB (decide (x4.2 < ((code_0.n : Nat) : Int))) (
 ixS code_0 x4.2 5 fun a6 =>
 ldA 5 w5 a6 fun cs7 =>
 newC w5 ltFu11 42 fun a8 w9 =>
 stA 5 w9 a8 cs7 fun w10 =>
 ixS s1 x4.2 1 fun a11 =>
 stC w10 a11 (.int .i64 x4.1) fun w12 =>
 ldI .i64 w12 (Addr.add a8 0) fun i13 =>
 iteB (i13 == (11 : Int)) (
 (C3 ((IntKind.wrap .i64 (x4.1 + (1 : Int))), (IntKind.wrap .i64 (x4.2 + (1 : Int)))) w12)) (
 iteB (i13 == (12 : Int)) (
 (C3 ((IntKind.wrap .i64 (x4.1 - (1 : Int))), (IntKind.wrap .i64 (x4.2 + (1 : Int)))) w12)) (
 (C3 (x4.1, (IntKind.wrap .i64 (x4.2 + (1 : Int)))) w12)))) (
 (k s1 w5))) ((0 : Int), (0 : Int)) w2
def d_check_Depths : Dec := fun args w c => unL [.s] args fun x => check_Depths x w fun r w => c (packV (valL [.s] r)) w
theorem s_check_Depths : Sound Go.Proofs.Tryz.prog n_check_Depths d_check_Depths :=
 sound_of (mask := 146816125) (h := [(5, [(4, (.i .i64)), (12, (.i .i64))])]) (ds := []) mixed Go.Proofs.Tryz.func105 trivial
 [.s] [.s] (by kernel_rfl) (fun x w k => check_Depths x w k) (fun x w k => by kernel_rfl)
def check_flow_meet (w_0 : Option Addr) (i_1 : Int) (have_2 : Int) (w : World) (k : Unit → World → Prop) : Prop :=
 nn w_0 fun a1 =>
 ldS w (Addr.add a1 1) fun s2 =>
 ixS s2 i_1 1 fun a3 =>
 ldI .i64 w a3 fun i4 =>
 joinP (S := Bool) (fun J5 =>
 nn w_0 fun a6 =>
 ldS w (Addr.add a6 2) fun s7 =>
 ixS s7 i_1 1 fun a8 =>
 ldB w a8 fun b9 =>
 iteB b9 (
 nn w_0 fun a10 =>
 ldS w (Addr.add a10 1) fun s11 =>
 ixS s11 i_1 1 fun a12 =>
 ldI .i64 w a12 fun i13 =>
 (J5 ((andI .i64 i4 have_2) == i13) w)) (
 (J5 false w))) fun b14 w15 =>
 iteB b14 (
 (k () w15)) (
 drew w15 fun w16 =>
 nn w_0 fun a17 =>
 ldS w16 (Addr.add a17 2) fun s18 =>
 nn w_0 fun a19 =>
 ldS w16 (Addr.add a19 1) fun s20 =>
 ixS s18 i_1 1 fun a21 =>
 stC w16 a21 (.bool true) fun w22 =>
 ixS s20 i_1 1 fun a23 =>
 stC w22 a23 (.int .i64 (andI .i64 i4 have_2)) fun w24 =>
 nn w_0 fun a25 =>
 ldS w24 (Addr.add a25 3) fun s26 =>
 newC w24 #[(.int .i64 i_1)] 3 fun a27 w28 =>
 bApp Go.Proofs.Tryz.prog #[96, 96] 96 [(.slice s26.a s26.n s26.c), (.slice (some a27) 1 1)] w28 fun s29 w30 =>
 nn w_0 fun a31 =>
 stC w30 (Addr.add a31 3) (.slice s29.a s29.n s29.c) fun w32 =>
 (k () w32))
def d_check_flow_meet : Dec := fun args w c => unL [.p, (.i .i64), (.i .i64)] args fun x => check_flow_meet x.1 x.2.1 x.2.2 w fun r w => c (packV (valL [] r)) w
theorem s_check_flow_meet : Sound Go.Proofs.Tryz.prog n_check_flow_meet d_check_flow_meet :=
 sound_of (mask := 8589934659) (h := [(1, [(33, .b)])]) (ds := []) mixed Go.Proofs.Tryz.func126 trivial
 [.p, (.i .i64), (.i .i64)] [] (by kernel_rfl) (fun x w k => check_flow_meet x.1 x.2.1 x.2.2 w k) (fun x w k => by kernel_rfl)
def check_behind (l_0 : Sl) (i_1 : Int) (w : World) (k : (Value) → World → Prop) : Prop :=
 newC w #[(.slice l_0.a l_0.n l_0.c)] 43 fun a1 w2 =>
 newC w2 #[(.int .i64 i_1)] 3 fun a3 w4 =>
 (k (.func (.func n_check_behind_1) #[] #[(.pointer (some a1)), (.pointer (some a3))]) w4)
def d_check_behind : Dec := fun args w c => unL [.s, (.i .i64)] args fun x => check_behind x.1 x.2 w fun r w => c (packV (valL [.raw] r)) w
theorem s_check_behind : Sound Go.Proofs.Tryz.prog n_check_behind d_check_behind :=
 sound_of (mask := 28) (h := []) (ds := []) mixed Go.Proofs.Tryz.func127 trivial
 [.s, (.i .i64)] [.raw] (by kernel_rfl) (fun x w k => check_behind x.1 x.2 w k) (fun x w k => by kernel_rfl)
def check_goes (op_0 : Int) (w : World) (k : (Bool) → World → Prop) : Prop :=
 (k ((op_0 == (6 : Int)) || (op_0 == (7 : Int))) w)
def d_check_goes : Dec := fun args w c => unL [(.i .i64)] args fun x => check_goes x w fun r w => c (packV (valL [.b] r)) w
theorem s_check_goes : Sound Go.Proofs.Tryz.prog n_check_goes d_check_goes :=
 sound_of (mask := 5) (h := []) (ds := []) mixed Go.Proofs.Tryz.func128 trivial
 [(.i .i64)] [.b] (by kernel_rfl) (fun x w k => check_goes x w k) (fun x w k => by kernel_rfl)
def check_ends (op_0 : Int) (w : World) (k : (Bool) → World → Prop) : Prop :=
 (k ((op_0 == (16 : Int)) || (op_0 == (15 : Int))) w)
def d_check_ends : Dec := fun args w c => unL [(.i .i64)] args fun x => check_ends x w fun r w => c (packV (valL [.b] r)) w
theorem s_check_ends : Sound Go.Proofs.Tryz.prog n_check_ends d_check_ends :=
 sound_of (mask := 5) (h := []) (ds := []) mixed Go.Proofs.Tryz.func129 trivial
 [(.i .i64)] [.b] (by kernel_rfl) (fun x w k => check_ends x w k) (fun x w k => by kernel_rfl)
def check_behind_1_b (Y : Nat → Dec) (check_goes : Int → World → ((Bool) → World → Prop) → Prop) (check_ends : Int → World → ((Bool) → World → Prop) → Prop) (yield_0 : Value) (_1 : Addr) (_2 : Addr) (w : World) (k : Unit → World → Prop) : Prop :=
 ldS w _1 fun s1 =>
 ldI .i64 w _2 fun i2 =>
 ixS s1 i2 5 fun a3 =>
 ldA 5 w a3 fun cs4 =>
 newC w ltFu11 42 fun a5 w6 =>
 stA 5 w6 a5 cs4 fun w7 =>
 joinP (S := Bool) (fun J8 =>
 ldI .i64 w7 (Addr.add a5 0) fun i9 =>
 check_goes i9 w7 fun b10 w11 =>
 iteB b10 (
 ldI .i64 w11 (Addr.add a5 4) fun i12 =>
 iteB (decide (i12 ≥ (0 : Int))) (
 ldI .i64 w11 (Addr.add a5 4) fun i13 =>
 ldS w11 _1 fun s14 =>
 iteB (decide (i13 < ((s14.n : Nat) : Int))) (
 ldI .i64 w11 (Addr.add a5 4) fun i15 =>
 callF (orcY [(n_check_goes, (fun args w c => unL [(.i .i64)] args fun x => check_goes x w fun r w => c (packV (valL [.b] r)) w)), (n_check_ends, (fun args w c => unL [(.i .i64)] args fun x => check_ends x w fun r w => c (packV (valL [.b] r)) w))] Y) yield_0 #[(.int .i64 i15)] w11 fun v16 w17 =>
 toB v16 fun b18 =>
 (J8 (!b18) w17)) (
 (J8 false w11))) (
 (J8 false w11))) (
 (J8 false w11))) fun b19 w20 =>
 iteB b19 (
 (k () w20)) (
 joinP (S := Bool) (fun J21 =>
 ldI .i64 w20 (Addr.add a5 0) fun i22 =>
 iteB (i22 != (6 : Int)) (
 ldI .i64 w20 (Addr.add a5 0) fun i23 =>
 check_ends i23 w20 fun b24 w25 =>
 iteB (!b24) (
 ldI .i64 w25 _2 fun i26 =>
 ldS w25 _1 fun s27 =>
 (J21 (decide ((IntKind.wrap .i64 (i26 + (1 : Int))) < ((s27.n : Nat) : Int))) w25)) (
 (J21 false w25))) (
 (J21 false w20))) fun b28 w29 =>
 iteB b28 (
 ldI .i64 w29 _2 fun i30 =>
 callF (orcY [(n_check_goes, (fun args w c => unL [(.i .i64)] args fun x => check_goes x w fun r w => c (packV (valL [.b] r)) w)), (n_check_ends, (fun args w c => unL [(.i .i64)] args fun x => check_ends x w fun r w => c (packV (valL [.b] r)) w))] Y) yield_0 #[(.int .i64 (IntKind.wrap .i64 (i30 + (1 : Int))))] w29 fun v31 w32 =>
 toB v31 fun b33 =>
 (k () w32)) (
 (k () w29)))
theorem e_check_behind_1 (Y : Nat → Dec) (check_goes : Int → World → ((Bool) → World → Prop) → Prop) (check_ends : Int → World → ((Bool) → World → Prop) → Prop) (x : KT [.raw, .a, .a]) (w : World) (k : KT [] → World → Prop) : evFn Go.Proofs.Tryz.prog (orcY [(n_check_goes, (fun args w c => unL [(.i .i64)] args fun x => check_goes x w fun r w => c (packV (valL [.b] r)) w)), (n_check_ends, (fun args w c => unL [(.i .i64)] args fun x => check_ends x w fun r w => c (packV (valL [.b] r)) w))] Y) 70369817919511 [(1, [(30, .b)]), (3, [(46, .b)])] Go.Proofs.Tryz.f137 [] (valL [.raw, .a, .a] x) w k = check_behind_1_b Y check_goes check_ends x.1 x.2.1 x.2.2 w k := by kernel_rfl
def check_behind_1 (Y : Nat → Dec) (yield_0 : Value) (_1 : Addr) (_2 : Addr) (w : World) (k : Unit → World → Prop) : Prop := check_behind_1_b Y check_goes check_ends yield_0 _1 _2 w k
def i_check_behind_1 (Y : Nat → Dec) : Dec := fun args w c => unL [.raw, .a, .a] args fun x => check_behind_1 Y x.1 x.2.1 x.2.2 w fun r w => c (packV (valL [] r)) w
theorem s_check_behind_1 : SoundI Go.Proofs.Tryz.prog n_check_behind_1 i_check_behind_1 := fun Y hY =>
 sound_orc (mask := 70369817919511) (h := [(1, [(30, .b)]), (3, [(46, .b)])]) mixed Go.Proofs.Tryz.func137 (orcY_ok (l := [(n_check_goes, d_check_goes), (n_check_ends, d_check_ends)]) ⟨s_check_goes, s_check_ends, trivial⟩ hY)
 [.raw, .a, .a] [] (by kernel_rfl) (fun x w k => check_behind_1 Y x.1 x.2.1 x.2.2 w k) (fun x w k => e_check_behind_1 Y check_goes check_ends x w k)
def check_Held_b (I : OrcI) (check_flow_meet : Option Addr → Int → Int → World → (Unit → World → Prop) → Prop) (check_behind : Sl → Int → World → ((Value) → World → Prop) → Prop) (f_0 : Array Value) (w : World) (k : (Sl) → World → Prop) : Prop :=
 newC w f_0 45 fun a1 w2 =>
 ldS w2 (Addr.add a1 1) fun s3 =>
 joinP (S := Addr) (fun J4 =>
 drew w2 fun w5 =>
 ldS w5 (Addr.add a1 1) fun s6 =>
 both (
 mkSl Go.Proofs.Tryz.prog 96 (.int .i64 ((s3.n : Nat) : Int)) (.int .i64 ((s3.n : Nat) : Int)) w5 fun s7 w8 =>
 samec 1 (Addr.add a1 1) w5 w8 (
 both (
 mkSl Go.Proofs.Tryz.prog 152 (.int .i64 ((s3.n : Nat) : Int)) (.int .i64 ((s3.n : Nat) : Int)) w8 fun s9 w10 =>
 samec 1 (Addr.add a1 1) w5 w10 (
 both (
 both (
 newC w10 #[(.slice s6.a s6.n s6.c), (.slice s7.a s7.n s7.c), (.slice s9.a s9.n s9.c), (.slice none 0 0)] 175 fun a11 w12 =>
 newC w12 #[(.pointer none)] 173 fun a13 w14 =>
 samec 1 (Addr.add a1 1) w5 w14 (
 stC w14 a13 (.pointer (some a11)) fun w15 =>
 (J4 a13 w15))) (
 newC w10 #[(.pointer none)] 173 fun a16 w17 =>
 samec 1 (Addr.add a1 1) w5 w17 (
 newC w17 #[(.slice s6.a s6.n s6.c), (.slice s7.a s7.n s7.c), (.slice s9.a s9.n s9.c), (.slice none 0 0)] 175 fun a18 w19 =>
 stC w19 a16 (.pointer (some a18)) fun w20 =>
 (J4 a16 w20)))) (
 newC w10 #[(.pointer none)] 173 fun a21 w22 =>
 samec 1 (Addr.add a1 1) w5 w22 (
 newC w22 #[(.slice s6.a s6.n s6.c), (.slice s7.a s7.n s7.c), (.slice s9.a s9.n s9.c), (.slice none 0 0)] 175 fun a23 w24 =>
 stC w24 a21 (.pointer (some a23)) fun w25 =>
 (J4 a21 w25))))) (
 newC w8 #[(.pointer none)] 173 fun a26 w27 =>
 samec 1 (Addr.add a1 1) w5 w27 (
 mkSl Go.Proofs.Tryz.prog 152 (.int .i64 ((s3.n : Nat) : Int)) (.int .i64 ((s3.n : Nat) : Int)) w27 fun s28 w29 =>
 samec 1 (Addr.add a1 1) w5 w29 (
 newC w29 #[(.slice s6.a s6.n s6.c), (.slice s7.a s7.n s7.c), (.slice s28.a s28.n s28.c), (.slice none 0 0)] 175 fun a30 w31 =>
 stC w31 a26 (.pointer (some a30)) fun w32 =>
 (J4 a26 w32)))))) (
 both (
 mkSl Go.Proofs.Tryz.prog 152 (.int .i64 ((s3.n : Nat) : Int)) (.int .i64 ((s3.n : Nat) : Int)) w5 fun s33 w34 =>
 samec 1 (Addr.add a1 1) w5 w34 (
 both (
 mkSl Go.Proofs.Tryz.prog 96 (.int .i64 ((s3.n : Nat) : Int)) (.int .i64 ((s3.n : Nat) : Int)) w34 fun s35 w36 =>
 samec 1 (Addr.add a1 1) w5 w36 (
 both (
 both (
 newC w36 #[(.slice s6.a s6.n s6.c), (.slice s35.a s35.n s35.c), (.slice s33.a s33.n s33.c), (.slice none 0 0)] 175 fun a37 w38 =>
 newC w38 #[(.pointer none)] 173 fun a39 w40 =>
 samec 1 (Addr.add a1 1) w5 w40 (
 stC w40 a39 (.pointer (some a37)) fun w41 =>
 (J4 a39 w41))) (
 newC w36 #[(.pointer none)] 173 fun a42 w43 =>
 samec 1 (Addr.add a1 1) w5 w43 (
 newC w43 #[(.slice s6.a s6.n s6.c), (.slice s35.a s35.n s35.c), (.slice s33.a s33.n s33.c), (.slice none 0 0)] 175 fun a44 w45 =>
 stC w45 a42 (.pointer (some a44)) fun w46 =>
 (J4 a42 w46)))) (
 newC w36 #[(.pointer none)] 173 fun a47 w48 =>
 samec 1 (Addr.add a1 1) w5 w48 (
 newC w48 #[(.slice s6.a s6.n s6.c), (.slice s35.a s35.n s35.c), (.slice s33.a s33.n s33.c), (.slice none 0 0)] 175 fun a49 w50 =>
 stC w50 a47 (.pointer (some a49)) fun w51 =>
 (J4 a47 w51))))) (
 newC w34 #[(.pointer none)] 173 fun a52 w53 =>
 samec 1 (Addr.add a1 1) w5 w53 (
 mkSl Go.Proofs.Tryz.prog 96 (.int .i64 ((s3.n : Nat) : Int)) (.int .i64 ((s3.n : Nat) : Int)) w53 fun s54 w55 =>
 samec 1 (Addr.add a1 1) w5 w55 (
 newC w55 #[(.slice s6.a s6.n s6.c), (.slice s54.a s54.n s54.c), (.slice s33.a s33.n s33.c), (.slice none 0 0)] 175 fun a56 w57 =>
 stC w57 a52 (.pointer (some a56)) fun w58 =>
 (J4 a52 w58)))))) (
 newC w5 #[(.pointer none)] 173 fun a59 w60 =>
 samec 1 (Addr.add a1 1) w5 w60 (
 both (
 mkSl Go.Proofs.Tryz.prog 96 (.int .i64 ((s3.n : Nat) : Int)) (.int .i64 ((s3.n : Nat) : Int)) w60 fun s61 w62 =>
 samec 1 (Addr.add a1 1) w5 w62 (
 mkSl Go.Proofs.Tryz.prog 152 (.int .i64 ((s3.n : Nat) : Int)) (.int .i64 ((s3.n : Nat) : Int)) w62 fun s63 w64 =>
 samec 1 (Addr.add a1 1) w5 w64 (
 newC w64 #[(.slice s6.a s6.n s6.c), (.slice s61.a s61.n s61.c), (.slice s63.a s63.n s63.c), (.slice none 0 0)] 175 fun a65 w66 =>
 stC w66 a59 (.pointer (some a65)) fun w67 =>
 (J4 a59 w67)))) (
 mkSl Go.Proofs.Tryz.prog 152 (.int .i64 ((s3.n : Nat) : Int)) (.int .i64 ((s3.n : Nat) : Int)) w60 fun s68 w69 =>
 samec 1 (Addr.add a1 1) w5 w69 (
 mkSl Go.Proofs.Tryz.prog 96 (.int .i64 ((s3.n : Nat) : Int)) (.int .i64 ((s3.n : Nat) : Int)) w69 fun s70 w71 =>
 samec 1 (Addr.add a1 1) w5 w71 (
 newC w71 #[(.slice s6.a s6.n s6.c), (.slice s70.a s70.n s70.c), (.slice s68.a s68.n s68.c), (.slice none 0 0)] 175 fun a72 w73 =>
 stC w73 a59 (.pointer (some a72)) fun w74 =>
 (J4 a59 w74)))))))) fun a75 w76 =>
 ldP w76 a75 fun p77 =>
 nn p77 fun a78 =>
 ldS w76 (Addr.add a78 1) fun s79 =>
 joinP (S := Unit) (fun J80 =>
 loopP (S := Int) (fun C81 i82 w83 =>
 iteB (decide (i82 < ((s79.n : Nat) : Int))) (
 ldP w83 a75 fun p84 =>
 nn p84 fun a85 =>
 ldS w83 (Addr.add a85 1) fun s86 =>
 ixS s86 i82 1 fun a87 =>
 stC w83 a87 (.int .i64 (255 : Int)) fun w88 =>
 (C81 (IntKind.wrap .i64 (i82 + (1 : Int))) w88)) (
 (J80 () w83))) (0 : Int) w76) fun u89 w90 =>
 iteB (((s3.n : Nat) : Int) == (0 : Int)) (
 ldP w90 a75 fun p91 =>
 nn p91 fun a92 =>
 ldS w90 (Addr.add a92 1) fun s93 =>
 (k s93 w90)) (
 ldP w90 a75 fun p94 =>
 ldI .i64 w90 (Addr.add a1 0) fun i95 =>
 check_flow_meet p94 (0 : Int) (andI .i64 i95 (255 : Int)) w90 fun _u w96 =>
 loopP (S := (Unit × List Nat)) (fun C97 x98 w99 =>
 ldP w99 a75 fun p100 =>
 nn p100 fun a101 =>
 ldS w99 (Addr.add a101 3) fun s102 =>
 iteB (((s102.n : Nat) : Int) == (0 : Int)) (
 ldP w99 a75 fun p103 =>
 nn p103 fun a104 =>
 ldS w99 (Addr.add a104 1) fun s105 =>
 takeP x98.2 w99 fun w106 =>
 (k s105 w106)) (
 ldP w99 a75 fun p107 =>
 nn p107 fun a108 =>
 ldS w99 (Addr.add a108 3) fun s109 =>
 ixS s109 (0 : Int) 1 fun a110 =>
 ldI .i64 w99 a110 fun i111 =>
 drew w99 fun w112 =>
 ldP w112 a75 fun p113 =>
 ldP w112 a75 fun p114 =>
 nn p114 fun a115 =>
 ldS w112 (Addr.add a115 3) fun s116 =>
 slL s116 1 (1 : Int) fun s117 =>
 nn p113 fun a118 =>
 stC w112 (Addr.add a118 3) (.slice s117.a s117.n s117.c) fun w119 =>
 ldP w119 a75 fun p120 =>
 nn p120 fun a121 =>
 ldS w119 (Addr.add a121 1) fun s122 =>
 ixS s122 i111 1 fun a123 =>
 ldI .i64 w119 a123 fun i124 =>
 newC w119 #[(.int .i64 (0 : Int))] 3 fun a125 w126 =>
 stC w126 a125 (.int .i64 i124) fun w127 =>
 ldS w127 (Addr.add a1 1) fun s128 =>
 ixS s128 i111 5 fun a129 =>
 ldA 5 w127 a129 fun cs130 =>
 newC w127 ltFu11 42 fun a131 w132 =>
 stA 5 w132 a131 cs130 fun w133 =>
 joinP (S := Bool) (fun J134 =>
 ldI .i64 w133 (Addr.add a131 0) fun i135 =>
 iteB (i135 == (8 : Int)) (
 ldI .i64 w133 (Addr.add a131 1) fun i136 =>
 iteB (decide (i136 ≥ (0 : Int))) (
 ldI .i64 w133 (Addr.add a131 1) fun i137 =>
 (J134 (decide (i137 < (8 : Int))) w133)) (
 (J134 false w133))) (
 (J134 false w133))) fun b138 w139 =>
 joinP (S := Unit) (fun J140 =>
 iteB b138 (
 drew w139 fun w141 =>
 ldI .i64 w141 a125 fun i142 =>
 ldI .i64 w141 (Addr.add a131 1) fun i143 =>
 shlI .i64 (1 : Int) i143 fun i144 =>
 stC w141 a125 (.int .i64 (orI .i64 i142 i144)) fun w145 =>
 (J140 () w145)) (
 (J140 () w139))) fun u146 w147 =>
 ldS w147 (Addr.add a1 1) fun s148 =>
 check_behind s148 i111 w147 fun v149 w150 =>
 rangeF I [(.i .i64)] v149 w150 (fun (x151 : Int) w152 C153 =>
 ldP w152 a75 fun p156 =>
 ldI .i64 w152 a125 fun i157 =>
 check_flow_meet p156 x151 i157 w152 fun _u w158 =>
 (C153 w158)) fun D154 w155 =>
 (C97 ((), (D154 :: x98.2)) w155))) ((), []) w96)
theorem e_check_Held (I : OrcI) (check_flow_meet : Option Addr → Int → Int → World → (Unit → World → Prop) → Prop) (check_behind : Sl → Int → World → ((Value) → World → Prop) → Prop) (x : KT [.ag]) (w : World) (k : KT [.s] → World → Prop) : evFn2 Go.Proofs.Tryz.prog (orcOf [(n_check_flow_meet, (fun args w c => unL [.p, (.i .i64), (.i .i64)] args fun x => check_flow_meet x.1 x.2.1 x.2.2 w fun r w => c (packV (valL [] r)) w)), (n_check_behind, (fun args w c => unL [.s, (.i .i64)] args fun x => check_behind x.1 x.2 w fun r w => c (packV (valL [.raw] r)) w))]) I 60886842892212147944375827038718 [(1, []), (3, [(4, .a)]), (5, []), (6, [(26, (.i .i64))]), (24, [(95, .b)]), (25, []), (29, [(105, (.i .i64))])] Go.Proofs.Tryz.f106 [.s] (valL [.ag] x) w k = check_Held_b I check_flow_meet check_behind x w k := by kernel_rfl
def check_Held (f_0 : Array Value) (w : World) (k : (Sl) → World → Prop) : Prop := check_Held_b (orcI [(n_check_behind_1, i_check_behind_1)]) check_flow_meet check_behind f_0 w k
def d_check_Held : Dec := fun args w c => unL [.ag] args fun x => check_Held x w fun r w => c (packV (valL [.s] r)) w
theorem s_check_Held : Sound Go.Proofs.Tryz.prog n_check_Held d_check_Held :=
 sound_of2 (mask := 60886842892212147944375827038718) (h := [(1, []), (3, [(4, .a)]), (5, []), (6, [(26, (.i .i64))]), (24, [(95, .b)]), (25, []), (29, [(105, (.i .i64))])]) mixed Go.Proofs.Tryz.func106 (orc_ok (l := [(n_check_flow_meet, d_check_flow_meet), (n_check_behind, d_check_behind)]) ⟨s_check_flow_meet, s_check_behind, trivial⟩) (orcI_ok (l := [(n_check_behind_1, i_check_behind_1)]) ⟨s_check_behind_1, trivial⟩)
 [.ag] [.s] (by kernel_rfl) (fun x w k => check_Held x w k) (fun x w k => e_check_Held (orcI [(n_check_behind_1, i_check_behind_1)]) check_flow_meet check_behind x w k)
def check_judge_places_b (check_goes : Int → World → ((Bool) → World → Prop) → Prop) (j_0 : Option Addr) (i_1 : Int) (w : World) (k : (Int) → World → Prop) : Prop :=
 nn j_0 fun a1 =>
 ldS w (Addr.add a1 1) fun s2 =>
 ixS s2 i_1 5 fun a3 =>
 ldA 5 w a3 fun cs4 =>
 newC w ltFu11 42 fun a5 w6 =>
 stA 5 w6 a5 cs4 fun w7 =>
 joinP (S := Bool) (fun J8 =>
 drew w7 fun w9 =>
 ldI .i64 w9 (Addr.add a5 0) fun i10 =>
 check_goes i10 w9 fun b11 w12 =>
 iteB b11 (
 ldI .i64 w12 (Addr.add a5 4) fun i13 =>
 nn j_0 fun a14 =>
 ldS w12 (Addr.add a14 1) fun s15 =>
 iteB (decide (i13 ≥ ((s15.n : Nat) : Int))) (
 (J8 true w12)) (
 ldI .i64 w12 (Addr.add a5 0) fun i16 =>
 iteB (i16 == (8 : Int)) (
 ldI .i64 w12 (Addr.add a5 4) fun i17 =>
 nn j_0 fun a18 =>
 ldS w12 (Addr.add (Addr.add a18 0) 0) fun s19 =>
 (J8 (decide (i17 ≥ ((s19.n : Nat) : Int))) w12)) (
 (J8 false w12)))) (
 ldI .i64 w12 (Addr.add a5 0) fun i20 =>
 iteB (i20 == (8 : Int)) (
 ldI .i64 w12 (Addr.add a5 4) fun i21 =>
 nn j_0 fun a22 =>
 ldS w12 (Addr.add (Addr.add a22 0) 0) fun s23 =>
 (J8 (decide (i21 ≥ ((s23.n : Nat) : Int))) w12)) (
 (J8 false w12)))) fun b24 w25 =>
 iteB b24 (
 (k (10 : Int) w25)) (
 (k (0 : Int) w25))
theorem e_check_judge_places (check_goes : Int → World → ((Bool) → World → Prop) → Prop) (x : KT [.p, (.i .i64)]) (w : World) (k : KT [(.i .i64)] → World → Prop) : evFn Go.Proofs.Tryz.prog (orcOf [(n_check_goes, (fun args w c => unL [(.i .i64)] args fun x => check_goes x w fun r w => c (packV (valL [.b] r)) w))]) 2199023255603 [(2, [(41, .b)])] Go.Proofs.Tryz.f107 [(.i .i64)] (valL [.p, (.i .i64)] x) w k = check_judge_places_b check_goes x.1 x.2 w k := by kernel_rfl
def check_judge_places (j_0 : Option Addr) (i_1 : Int) (w : World) (k : (Int) → World → Prop) : Prop := check_judge_places_b check_goes j_0 i_1 w k
def d_check_judge_places : Dec := fun args w c => unL [.p, (.i .i64)] args fun x => check_judge_places x.1 x.2 w fun r w => c (packV (valL [(.i .i64)] r)) w
theorem s_check_judge_places : Sound Go.Proofs.Tryz.prog n_check_judge_places d_check_judge_places :=
 sound_of (mask := 2199023255603) (h := [(2, [(41, .b)])]) (ds := [(n_check_goes, d_check_goes)]) mixed Go.Proofs.Tryz.func107 ⟨s_check_goes, trivial⟩
 [.p, (.i .i64)] [(.i .i64)] (by kernel_rfl) (fun x w k => check_judge_places x.1 x.2 w k) (fun x w k => e_check_judge_places check_goes x w k)
def check_judge_last_b (check_ends : Int → World → ((Bool) → World → Prop) → Prop) (j_0 : Option Addr) (i_1 : Int) (w : World) (k : (Int) → World → Prop) : Prop :=
 nn j_0 fun a1 =>
 ldS w (Addr.add a1 1) fun s2 =>
 ixS s2 i_1 5 fun a3 =>
 ldI .i64 w (Addr.add a3 0) fun i4 =>
 joinP (S := Bool) (fun J5 =>
 nn j_0 fun a6 =>
 ldS w (Addr.add a6 1) fun s7 =>
 iteB ((i_1 == (IntKind.wrap .i64 (((s7.n : Nat) : Int) - (1 : Int)))) && (i4 != (6 : Int))) (
 check_ends i4 w fun b8 w9 =>
 (J5 (!b8) w9)) (
 (J5 false w))) fun b10 w11 =>
 iteB b10 (
 (k (11 : Int) w11)) (
 (k (0 : Int) w11))
theorem e_check_judge_last (check_ends : Int → World → ((Bool) → World → Prop) → Prop) (x : KT [.p, (.i .i64)]) (w : World) (k : KT [(.i .i64)] → World → Prop) : evFn Go.Proofs.Tryz.prog (orcOf [(n_check_ends, (fun args w c => unL [(.i .i64)] args fun x => check_ends x w fun r w => c (packV (valL [.b] r)) w))]) 1073741875 [(2, [(30, .b)])] Go.Proofs.Tryz.f108 [(.i .i64)] (valL [.p, (.i .i64)] x) w k = check_judge_last_b check_ends x.1 x.2 w k := by kernel_rfl
def check_judge_last (j_0 : Option Addr) (i_1 : Int) (w : World) (k : (Int) → World → Prop) : Prop := check_judge_last_b check_ends j_0 i_1 w k
def d_check_judge_last : Dec := fun args w c => unL [.p, (.i .i64)] args fun x => check_judge_last x.1 x.2 w fun r w => c (packV (valL [(.i .i64)] r)) w
theorem s_check_judge_last : Sound Go.Proofs.Tryz.prog n_check_judge_last d_check_judge_last :=
 sound_of (mask := 1073741875) (h := [(2, [(30, .b)])]) (ds := [(n_check_ends, d_check_ends)]) mixed Go.Proofs.Tryz.func108 ⟨s_check_ends, trivial⟩
 [.p, (.i .i64)] [(.i .i64)] (by kernel_rfl) (fun x w k => check_judge_last x.1 x.2 w k) (fun x w k => e_check_judge_last check_ends x w k)
def check_judge_scopes (j_0 : Option Addr) (i_1 : Int) (w : World) (k : (Int) → World → Prop) : Prop :=
 drew w fun w1 =>
 nn j_0 fun a2 =>
 ldS w1 (Addr.add a2 1) fun s3 =>
 ixS s3 i_1 5 fun a4 =>
 ldA 5 w1 a4 fun cs5 =>
 nn j_0 fun a6 =>
 ldS w1 (Addr.add a6 2) fun s7 =>
 ixS s7 i_1 1 fun a8 =>
 ldI .i64 w1 a8 fun i9 =>
 newC w1 ltFu11 42 fun a10 w11 =>
 samec 1 a8 w1 w11 (
 samec 1 (Addr.add a6 2) w1 w11 (
 samec 5 a4 w1 w11 (
 samec 1 (Addr.add a2 1) w1 w11 (
 stA 5 w11 a10 cs5 fun w12 =>
 samec 1 a8 w1 w12 (
 samec 1 (Addr.add a6 2) w1 w12 (
 ldI .i64 w12 (Addr.add a10 0) fun i13 =>
 joinP (S := Bool) (fun J14 =>
 iteB (i13 == (12 : Int)) (
 (J14 (i13 == (12 : Int)) w12)) (
 (J14 (i13 == (13 : Int)) w12))) fun b15 w16 =>
 joinP (S := Bool) (fun J17 =>
 iteB b15 (
 (J17 (decide (i9 ≥ (1 : Int))) w16)) (
 iteB (i13 == (16 : Int)) (
 (J17 (i9 == (0 : Int)) w16)) (
 joinP (S := Bool) (fun J18 =>
 iteB (i13 == (6 : Int)) (
 (J18 (i13 == (6 : Int)) w16)) (
 (J18 (i13 == (7 : Int)) w16))) fun b19 w20 =>
 iteB b19 (
 drew w20 fun w21 =>
 nn j_0 fun a22 =>
 ldS w21 (Addr.add a22 2) fun s23 =>
 ldI .i64 w21 (Addr.add a10 4) fun i24 =>
 ixS s23 i24 1 fun a25 =>
 ldI .i64 w21 a25 fun i26 =>
 (J17 (i26 == i9) w21)) (
 (J17 true w20))))) fun b27 w28 =>
 iteB (!b27) (
 (k (15 : Int) w28)) (
 (k (0 : Int) w28))))))))
def d_check_judge_scopes : Dec := fun args w c => unL [.p, (.i .i64)] args fun x => check_judge_scopes x.1 x.2 w fun r w => c (packV (valL [(.i .i64)] r)) w
theorem s_check_judge_scopes : Sound Go.Proofs.Tryz.prog n_check_judge_scopes d_check_judge_scopes :=
 sound_of (mask := 140746640326899) (h := [(6, [(24, .b)]), (8, [(7, .b)]), (14, [(33, .b)])]) (ds := []) mixed Go.Proofs.Tryz.func109 trivial
 [.p, (.i .i64)] [(.i .i64)] (by kernel_rfl) (fun x w k => check_judge_scopes x.1 x.2 w k) (fun x w k => by kernel_rfl)
def check_judge_handles (j_0 : Option Addr) (i_1 : Int) (w : World) (k : (Int) → World → Prop) : Prop :=
 nn j_0 fun a1 =>
 ldS w (Addr.add a1 1) fun s2 =>
 ixS s2 i_1 5 fun a3 =>
 ldA 5 w a3 fun cs4 =>
 newC w ltFu11 42 fun a5 w6 =>
 stA 5 w6 a5 cs4 fun w7 =>
 ldI .i64 w7 (Addr.add a5 0) fun i8 =>
 joinP (S := Int) (fun J9 =>
 iteB (i8 == (9 : Int)) (
 ldI .i64 w7 (Addr.add a5 2) fun i10 =>
 shlI .i64 (1 : Int) i10 fun i11 =>
 (J9 i11 w7)) (
 iteB (i8 == (10 : Int)) (
 ldI .i64 w7 (Addr.add a5 3) fun i12 =>
 shlI .i64 (1 : Int) i12 fun i13 =>
 (J9 i13 w7)) (
 iteB (i8 == (8 : Int)) (
 drew w7 fun w14 =>
 nn j_0 fun a15 =>
 ldS w14 (Addr.add (Addr.add a15 0) 0) fun s16 =>
 ldI .i64 w14 (Addr.add a5 4) fun i17 =>
 ixS s16 i17 2 fun a18 =>
 ldI .i64 w14 (Addr.add a18 0) fun i19 =>
 (J9 i19 w14)) (
 (J9 (0 : Int) w7))))) fun i20 w21 =>
 nn j_0 fun a22 =>
 ldS w21 (Addr.add a22 3) fun s23 =>
 ixS s23 i_1 1 fun a24 =>
 ldI .i64 w21 a24 fun i25 =>
 iteB ((andNotI .i64 i20 i25) != (0 : Int)) (
 (k (16 : Int) w21)) (
 (k (0 : Int) w21))
def d_check_judge_handles : Dec := fun args w c => unL [.p, (.i .i64)] args fun x => check_judge_handles x.1 x.2 w fun r w => c (packV (valL [(.i .i64)] r)) w
theorem s_check_judge_handles : Sound Go.Proofs.Tryz.prog n_check_judge_handles d_check_judge_handles :=
 sound_of (mask := 140737557659763) (h := [(6, [(6, (.i .i64))])]) (ds := []) mixed Go.Proofs.Tryz.func110 trivial
 [.p, (.i .i64)] [(.i .i64)] (by kernel_rfl) (fun x w k => check_judge_handles x.1 x.2 w k) (fun x w k => by kernel_rfl)
def check_function_b (check_Depths : Sl → World → ((Sl) → World → Prop) → Prop) (check_Held : Array Value → World → ((Sl) → World → Prop) → Prop) (check_judge_places : Option Addr → Int → World → ((Int) → World → Prop) → Prop) (check_judge_last : Option Addr → Int → World → ((Int) → World → Prop) → Prop) (check_judge_scopes : Option Addr → Int → World → ((Int) → World → Prop) → Prop) (check_judge_handles : Option Addr → Int → World → ((Int) → World → Prop) → Prop) (p_0 : Array Value) (k_1 : Int) (w : World) (k : (Array Value) → World → Prop) : Prop :=
 newC w p_0 24 fun a1 w2 =>
 newC w2 #[(.int .i64 (0 : Int)), (.int .i64 (0 : Int)), (.int .i64 (0 : Int))] 102 fun a3 w4 =>
 ldS w4 (Addr.add a1 0) fun s5 =>
 ixS s5 k_1 2 fun a6 =>
 ldA 2 w4 a6 fun cs7 =>
 newC w4 #[(.int .i64 (0 : Int)), (.slice none 0 0)] 45 fun a8 w9 =>
 stA 2 w9 a8 cs7 fun w10 =>
 drew w10 fun w11 =>
 ldA 1 w11 a1 fun cs12 =>
 ldS w11 (Addr.add a8 1) fun s13 =>
 ldS w11 (Addr.add a8 1) fun s14 =>
 ldA 2 w11 a8 fun cs15 =>
 check_Depths s14 w11 fun s16 w17 =>
 samec 2 a8 w11 w17 (
 samec 1 (Addr.add a8 1) w11 w17 (
 samec 1 a1 w11 w17 (
 check_Held cs15 w17 fun s18 w19 =>
 samec 1 (Addr.add a8 1) w11 w19 (
 samec 1 a1 w11 w19 (
 spl #[(.slice none 0 0), (.slice none 0 0), (.slice none 0 0), (.slice none 0 0)] 0 1 cs12 fun cs20 =>
 newC w19 (Array.setIfInBounds (Array.setIfInBounds (Array.setIfInBounds cs20 1 (.slice s13.a s13.n s13.c)) 2 (.slice s16.a s16.n s16.c)) 3 (.slice s18.a s18.n s18.c)) 161 fun a21 w22 =>
 newC w22 #[(.func (.func n_check_judge_places) #[(.pointer (some a21))] #[]), (.func (.func n_check_judge_last) #[(.pointer (some a21))] #[]), (.func (.func n_check_judge_scopes) #[(.pointer (some a21))] #[]), (.func (.func n_check_judge_handles) #[(.pointer (some a21))] #[])] 162 fun a23 w24 =>
 ldS w24 (Addr.add a8 1) fun s25 =>
 loopP (S := Int) (fun C26 i27 w28 =>
 iteB (decide (i27 < ((s25.n : Nat) : Int))) (
 loopP (S := Int) (fun C29 i30 w31 =>
 iteB (decide (i30 < ((4 : Nat) : Int))) (
 ixS (Sl.mk (some a23) 4 4) i30 1 fun a32 =>
 ldV w31 a32 fun v33 =>
 callF (orcOf [(n_check_Depths, (fun args w c => unL [.s] args fun x => check_Depths x w fun r w => c (packV (valL [.s] r)) w)), (n_check_Held, (fun args w c => unL [.ag] args fun x => check_Held x w fun r w => c (packV (valL [.s] r)) w)), (n_check_judge_places, (fun args w c => unL [.p, (.i .i64)] args fun x => check_judge_places x.1 x.2 w fun r w => c (packV (valL [(.i .i64)] r)) w)), (n_check_judge_last, (fun args w c => unL [.p, (.i .i64)] args fun x => check_judge_last x.1 x.2 w fun r w => c (packV (valL [(.i .i64)] r)) w)), (n_check_judge_scopes, (fun args w c => unL [.p, (.i .i64)] args fun x => check_judge_scopes x.1 x.2 w fun r w => c (packV (valL [(.i .i64)] r)) w)), (n_check_judge_handles, (fun args w c => unL [.p, (.i .i64)] args fun x => check_judge_handles x.1 x.2 w fun r w => c (packV (valL [(.i .i64)] r)) w))]) v33 #[(.int .i64 i27)] w31 fun v34 w35 =>
 toI .i64 v34 fun i36 =>
 iteB (i36 != (0 : Int)) (
 stA 3 w35 a3 #[(.int .i64 k_1), (.int .i64 i27), (.int .i64 i36)] fun w37 =>
 ldA 3 w37 a3 fun cs38 =>
 (k cs38 w37)) (
 (C29 (IntKind.wrap .i64 (i30 + (1 : Int))) w35))) (
 (C26 (IntKind.wrap .i64 (i27 + (1 : Int))) w31))) (0 : Int) w28) (
 stA 3 w28 a3 #[(.int .i64 (0 : Int)), (.int .i64 (0 : Int)), (.int .i64 (0 : Int))] fun w39 =>
 ldA 3 w39 a3 fun cs40 =>
 (k cs40 w39))) (0 : Int) w24)))))
theorem e_check_function (check_Depths : Sl → World → ((Sl) → World → Prop) → Prop) (check_Held : Array Value → World → ((Sl) → World → Prop) → Prop) (check_judge_places : Option Addr → Int → World → ((Int) → World → Prop) → Prop) (check_judge_last : Option Addr → Int → World → ((Int) → World → Prop) → Prop) (check_judge_scopes : Option Addr → Int → World → ((Int) → World → Prop) → Prop) (check_judge_handles : Option Addr → Int → World → ((Int) → World → Prop) → Prop) (x : KT [.ag, (.i .i64)]) (w : World) (k : KT [.ag] → World → Prop) : evFn Go.Proofs.Tryz.prog (orcOf [(n_check_Depths, (fun args w c => unL [.s] args fun x => check_Depths x w fun r w => c (packV (valL [.s] r)) w)), (n_check_Held, (fun args w c => unL [.ag] args fun x => check_Held x w fun r w => c (packV (valL [.s] r)) w)), (n_check_judge_places, (fun args w c => unL [.p, (.i .i64)] args fun x => check_judge_places x.1 x.2 w fun r w => c (packV (valL [(.i .i64)] r)) w)), (n_check_judge_last, (fun args w c => unL [.p, (.i .i64)] args fun x => check_judge_last x.1 x.2 w fun r w => c (packV (valL [(.i .i64)] r)) w)), (n_check_judge_scopes, (fun args w c => unL [.p, (.i .i64)] args fun x => check_judge_scopes x.1 x.2 w fun r w => c (packV (valL [(.i .i64)] r)) w)), (n_check_judge_handles, (fun args w c => unL [.p, (.i .i64)] args fun x => check_judge_handles x.1 x.2 w fun r w => c (packV (valL [(.i .i64)] r)) w))]) 4571494470389238 [(6, [(39, (.i .i64))]), (13, [(44, (.i .i64))])] Go.Proofs.Tryz.f78 [.ag] (valL [.ag, (.i .i64)] x) w k = check_function_b check_Depths check_Held check_judge_places check_judge_last check_judge_scopes check_judge_handles x.1 x.2 w k := by kernel_rfl
def check_function (p_0 : Array Value) (k_1 : Int) (w : World) (k : (Array Value) → World → Prop) : Prop := check_function_b check_Depths check_Held check_judge_places check_judge_last check_judge_scopes check_judge_handles p_0 k_1 w k
def d_check_function : Dec := fun args w c => unL [.ag, (.i .i64)] args fun x => check_function x.1 x.2 w fun r w => c (packV (valL [.ag] r)) w
theorem s_check_function : Sound Go.Proofs.Tryz.prog n_check_function d_check_function :=
 sound_of (mask := 4571494470389238) (h := [(6, [(39, (.i .i64))]), (13, [(44, (.i .i64))])]) (ds := [(n_check_Depths, d_check_Depths), (n_check_Held, d_check_Held), (n_check_judge_places, d_check_judge_places), (n_check_judge_last, d_check_judge_last), (n_check_judge_scopes, d_check_judge_scopes), (n_check_judge_handles, d_check_judge_handles)]) mixed Go.Proofs.Tryz.func78 ⟨s_check_Depths, s_check_Held, s_check_judge_places, s_check_judge_last, s_check_judge_scopes, s_check_judge_handles, trivial⟩
 [.ag, (.i .i64)] [.ag] (by kernel_rfl) (fun x w k => check_function x.1 x.2 w k) (fun x w k => e_check_function check_Depths check_Held check_judge_places check_judge_last check_judge_scopes check_judge_handles x w k)
def check_Program_b (check_shape : Array Value → World → ((Int × Int) → World → Prop) → Prop) (check_function : Array Value → Int → World → ((Array Value) → World → Prop) → Prop) (p_0 : Array Value) (w : World) (k : (Array Value) → World → Prop) : Prop :=
 newC w p_0 24 fun a1 w2 =>
 newC w2 #[(.int .i64 (0 : Int)), (.int .i64 (0 : Int)), (.int .i64 (0 : Int))] 102 fun a3 w4 =>
 joinP (S := Bool) (fun J5 =>
 ldS w4 (Addr.add a1 0) fun s6 =>
 iteB (decide (((s6.n : Nat) : Int) < (1 : Int))) (
 (J5 true w4)) (
 ldS w4 (Addr.add a1 0) fun s7 =>
 (J5 (decide (((s7.n : Nat) : Int) > (32 : Int))) w4))) fun b8 w9 =>
 iteB b8 (
 stA 3 w9 a3 #[(.int .i64 (-(1 : Int))), (.int .i64 (-(1 : Int))), (.int .i64 (12 : Int))] fun w10 =>
 ldA 3 w10 a3 fun cs11 =>
 (k cs11 w10)) (
 ldS w9 (Addr.add a1 0) fun s12 =>
 joinP (S := Unit) (fun J13 =>
 loopP (S := Int) (fun C14 i15 w16 =>
 iteB (decide (i15 < ((s12.n : Nat) : Int))) (
 ixS s12 i15 2 fun a17 =>
 ldA 2 w16 a17 fun cs18 =>
 newC w16 #[(.int .i64 (0 : Int)), (.slice none 0 0)] 45 fun a19 w20 =>
 stA 2 w20 a19 cs18 fun w21 =>
 ldA 2 w21 a19 fun cs22 =>
 check_shape cs22 w21 fun x23 w24 =>
 iteB ((x23.1, x23.2).2 != (0 : Int)) (
 stA 3 w24 a3 #[(.int .i64 i15), (.int .i64 (x23.1, x23.2).1), (.int .i64 (x23.1, x23.2).2)] fun w25 =>
 ldA 3 w25 a3 fun cs26 =>
 (k cs26 w25)) (
 (C14 (IntKind.wrap .i64 (i15 + (1 : Int))) w24))) (
 (J13 () w16))) (0 : Int) w9) fun u27 w28 =>
 ldS w28 (Addr.add a1 0) fun s29 =>
 ixS s29 (0 : Int) 2 fun a30 =>
 ldI .i64 w28 (Addr.add a30 0) fun i31 =>
 iteB (i31 != (0 : Int)) (
 stA 3 w28 a3 #[(.int .i64 (0 : Int)), (.int .i64 (-(1 : Int))), (.int .i64 (16 : Int))] fun w32 =>
 ldA 3 w32 a3 fun cs33 =>
 (k cs33 w32)) (
 ldS w28 (Addr.add a1 0) fun s34 =>
 loopP (S := Int) (fun C35 i36 w37 =>
 iteB (decide (i36 < ((s34.n : Nat) : Int))) (
 ldA 1 w37 a1 fun cs38 =>
 check_function cs38 i36 w37 fun cs39 w40 =>
 newC w40 #[(.int .i64 (0 : Int)), (.int .i64 (0 : Int)), (.int .i64 (0 : Int))] 102 fun a41 w42 =>
 stA 3 w42 a41 cs39 fun w43 =>
 ldA 3 w43 a41 fun cs44 =>
 eqA ([(0, 0)] ++ ([(1, 0)] ++ ([(2, 0)] ++ []))) cs44 #[(.int .i64 (0 : Int)), (.int .i64 (0 : Int)), (.int .i64 (0 : Int))] fun b45 =>
 iteB (!b45) (
 ldA 3 w43 a41 fun cs46 =>
 stA 3 w43 a3 cs46 fun w47 =>
 ldA 3 w47 a3 fun cs48 =>
 (k cs48 w47)) (
 (C35 (IntKind.wrap .i64 (i36 + (1 : Int))) w43))) (
 stA 3 w37 a3 #[(.int .i64 (0 : Int)), (.int .i64 (0 : Int)), (.int .i64 (0 : Int))] fun w49 =>
 ldA 3 w49 a3 fun cs50 =>
 (k cs50 w49))) (0 : Int) w28))
theorem e_check_Program (check_shape : Array Value → World → ((Int × Int) → World → Prop) → Prop) (check_function : Array Value → Int → World → ((Array Value) → World → Prop) → Prop) (x : KT [.ag]) (w : World) (k : KT [.ag] → World → Prop) : evFn Go.Proofs.Tryz.prog (orcOf [(n_check_shape, (fun args w c => unL [.ag] args fun x => check_shape x w fun r w => c (packV (valL [(.i .i64), (.i .i64)] r)) w)), (n_check_function, (fun args w c => unL [.ag, (.i .i64)] args fun x => check_function x.1 x.2 w fun r w => c (packV (valL [.ag] r)) w))]) 292206227409338878 [(1, [(18, .b)]), (5, []), (6, [(23, (.i .i64))]), (21, [(50, (.i .i64))])] Go.Proofs.Tryz.f45 [.ag] (valL [.ag] x) w k = check_Program_b check_shape check_function x w k := by kernel_rfl
def check_Program (p_0 : Array Value) (w : World) (k : (Array Value) → World → Prop) : Prop := check_Program_b check_shape check_function p_0 w k
def d_check_Program : Dec := fun args w c => unL [.ag] args fun x => check_Program x w fun r w => c (packV (valL [.ag] r)) w
theorem s_check_Program : Sound Go.Proofs.Tryz.prog n_check_Program d_check_Program :=
 sound_of (mask := 292206227409338878) (h := [(1, [(18, .b)]), (5, []), (6, [(23, (.i .i64))]), (21, [(50, (.i .i64))])]) (ds := [(n_check_shape, d_check_shape), (n_check_function, d_check_function)]) mixed Go.Proofs.Tryz.func45 ⟨s_check_shape, s_check_function, trivial⟩
 [.ag] [.ag] (by kernel_rfl) (fun x w k => check_Program x w k) (fun x w k => e_check_Program check_shape check_function x w k)
def check_Accepts_b (check_Program : Array Value → World → ((Array Value) → World → Prop) → Prop) (p_0 : Array Value) (w : World) (k : (Bool) → World → Prop) : Prop :=
 newC w p_0 24 fun a1 w2 =>
 ldA 1 w2 a1 fun cs3 =>
 check_Program cs3 w2 fun cs4 w5 =>
 eqA ([(0, 0)] ++ ([(1, 0)] ++ ([(2, 0)] ++ []))) cs4 #[(.int .i64 (0 : Int)), (.int .i64 (0 : Int)), (.int .i64 (0 : Int))] fun b6 =>
 (k b6 w5)
theorem e_check_Accepts (check_Program : Array Value → World → ((Array Value) → World → Prop) → Prop) (x : KT [.ag]) (w : World) (k : KT [.b] → World → Prop) : evFn Go.Proofs.Tryz.prog (orcOf [(n_check_Program, (fun args w c => unL [.ag] args fun x => check_Program x w fun r w => c (packV (valL [.ag] r)) w))]) 6 [] Go.Proofs.Tryz.f24 [.b] (valL [.ag] x) w k = check_Accepts_b check_Program x w k := by kernel_rfl
def check_Accepts (p_0 : Array Value) (w : World) (k : (Bool) → World → Prop) : Prop := check_Accepts_b check_Program p_0 w k
def d_check_Accepts : Dec := fun args w c => unL [.ag] args fun x => check_Accepts x w fun r w => c (packV (valL [.b] r)) w
theorem s_check_Accepts : Sound Go.Proofs.Tryz.prog n_check_Accepts d_check_Accepts :=
 sound_of (mask := 6) (h := []) (ds := [(n_check_Program, d_check_Program)]) mixed Go.Proofs.Tryz.func24 ⟨s_check_Program, trivial⟩
 [.ag] [.b] (by kernel_rfl) (fun x w k => check_Accepts x w k) (fun x w k => e_check_Accepts check_Program x w k)
def table_look_row (x_0 : Array Value) (w : World) (k : (Array Value) → World → Prop) : Prop :=
 newC w x_0 146 fun a1 w2 =>
 newC w2 ltFu12 40 fun a3 w4 =>
 ldS w4 (Addr.add a1 0) fun s5 =>
 ldI .i64 w4 (Addr.add a1 1) fun i6 =>
 ixS s5 i6 7 fun a7 =>
 ldA 7 w4 a7 fun cs8 =>
 stA 7 w4 a3 cs8 fun w9 =>
 ldA 7 w9 a3 fun cs10 =>
 (k cs10 w9)
def d_table_look_row : Dec := fun args w c => unL [.ag] args fun x => table_look_row x w fun r w => c (packV (valL [.ag] r)) w
theorem s_table_look_row : Sound Go.Proofs.Tryz.prog n_table_look_row d_table_look_row :=
 sound_of (mask := 6) (h := []) (ds := []) mixed Go.Proofs.Tryz.func121 trivial
 [.ag] [.ag] (by kernel_rfl) (fun x w k => table_look_row x w k) (fun x w k => by kernel_rfl)
def table_Within (l_0 : Sl) (i_1 : Int) (of_2 : Int) (w : World) (k : (Bool) → World → Prop) : Prop :=
 loopP (S := (Int × Int)) (fun C1 x2 w3 =>
 iteB (decide (x2.2 < ((l_0.n : Nat) : Int))) (
 iteB ((decide (x2.1 < (0 : Int))) || (decide (x2.1 ≥ ((l_0.n : Nat) : Int)))) (
 (k false w3)) (
 iteB (x2.1 == of_2) (
 (k true w3)) (
 ixS l_0 x2.1 7 fun a4 =>
 ldI .i64 w3 (Addr.add a4 0) fun i5 =>
 (C1 (i5, (IntKind.wrap .i64 (x2.2 + (1 : Int)))) w3)))) (
 (k false w3))) (i_1, (0 : Int)) w
def d_table_Within : Dec := fun args w c => unL [.s, (.i .i64), (.i .i64)] args fun x => table_Within x.1 x.2.1 x.2.2 w fun r w => c (packV (valL [.b] r)) w
theorem s_table_Within : Sound Go.Proofs.Tryz.prog n_table_Within d_table_Within :=
 sound_of (mask := 2361159) (h := [(3, [(1, (.i .i64)), (9, (.i .i64))])]) (ds := []) mixed Go.Proofs.Tryz.func122 trivial
 [.s, (.i .i64), (.i .i64)] [.b] (by kernel_rfl) (fun x w k => table_Within x.1 x.2.1 x.2.2 w k) (fun x w k => by kernel_rfl)
def table_look_place_b (table_look_row : Array Value → World → ((Array Value) → World → Prop) → Prop) (table_Within : Sl → Int → Int → World → ((Bool) → World → Prop) → Prop) (x_0 : Array Value) (w : World) (k : (Bool) → World → Prop) : Prop :=
 newC w x_0 146 fun a1 w2 =>
 ldA 2 w2 a1 fun cs3 =>
 table_look_row cs3 w2 fun cs4 w5 =>
 ptA cs4 0 fun v6 =>
 toI .i64 v6 fun i7 =>
 ldI .i64 w5 (Addr.add a1 1) fun i8 =>
 iteB (i8 == (0 : Int)) (
 (k (i7 == (-(1 : Int))) w5)) (
 iteB (decide (i7 ≥ (0 : Int))) (
 ldI .i64 w5 (Addr.add a1 1) fun i9 =>
 iteB (decide (i7 < i9)) (
 ldS w5 (Addr.add a1 0) fun s10 =>
 ldI .i64 w5 (Addr.add a1 1) fun i11 =>
 table_Within s10 (IntKind.wrap .i64 (i11 - (1 : Int))) i7 w5 fun b12 w13 =>
 (k b12 w13)) (
 (k false w5))) (
 (k false w5)))
theorem e_table_look_place (table_look_row : Array Value → World → ((Array Value) → World → Prop) → Prop) (table_Within : Sl → Int → Int → World → ((Bool) → World → Prop) → Prop) (x : KT [.ag]) (w : World) (k : KT [.b] → World → Prop) : evFn Go.Proofs.Tryz.prog (orcOf [(n_table_look_row, (fun args w c => unL [.ag] args fun x => table_look_row x w fun r w => c (packV (valL [.ag] r)) w)), (n_table_Within, (fun args w c => unL [.s, (.i .i64), (.i .i64)] args fun x => table_Within x.1 x.2.1 x.2.2 w fun r w => c (packV (valL [.b] r)) w))]) 526 [] Go.Proofs.Tryz.f87 [.b] (valL [.ag] x) w k = table_look_place_b table_look_row table_Within x w k := by kernel_rfl
def table_look_place (x_0 : Array Value) (w : World) (k : (Bool) → World → Prop) : Prop := table_look_place_b table_look_row table_Within x_0 w k
def d_table_look_place : Dec := fun args w c => unL [.ag] args fun x => table_look_place x w fun r w => c (packV (valL [.b] r)) w
theorem s_table_look_place : Sound Go.Proofs.Tryz.prog n_table_look_place d_table_look_place :=
 sound_of (mask := 526) (h := []) (ds := [(n_table_look_row, d_table_look_row), (n_table_Within, d_table_Within)]) mixed Go.Proofs.Tryz.func87 ⟨s_table_look_row, s_table_Within, trivial⟩
 [.ag] [.b] (by kernel_rfl) (fun x w k => table_look_place x w k) (fun x w k => e_table_look_place table_look_row table_Within x w k)
def table_look_span_b (table_look_row : Array Value → World → ((Array Value) → World → Prop) → Prop) (x_0 : Array Value) (w : World) (k : (Bool) → World → Prop) : Prop :=
 newC w x_0 146 fun a1 w2 =>
 ldA 2 w2 a1 fun cs3 =>
 table_look_row cs3 w2 fun cs4 w5 =>
 newC w5 ltFu12 40 fun a6 w7 =>
 stA 7 w7 a6 cs4 fun w8 =>
 ldI .i64 w8 (Addr.add a6 1) fun i9 =>
 iteB (decide (i9 ≥ (0 : Int))) (
 ldI .i64 w8 (Addr.add a1 1) fun i10 =>
 iteB (decide (i10 > (0 : Int))) (
 ldI .i64 w8 (Addr.add a6 2) fun i11 =>
 iteB (decide (i11 ≥ (0 : Int))) (
 ldI .i64 w8 (Addr.add a6 2) fun i12 =>
 iteB (decide (i12 < (32 : Int))) (
 ldI .i64 w8 (Addr.add a6 3) fun i13 =>
 iteB (decide (i13 ≥ (0 : Int))) (
 ldI .i64 w8 (Addr.add a6 3) fun i14 =>
 iteB (decide (i14 ≤ (4 : Int))) (
 ldI .i64 w8 (Addr.add a6 5) fun i15 =>
 iteB (decide (i15 ≥ (0 : Int))) (
 ldI .i64 w8 (Addr.add a6 5) fun i16 =>
 (k (decide (i16 ≤ (1048576 : Int))) w8)) (
 (k false w8))) (
 (k false w8))) (
 (k false w8))) (
 (k false w8))) (
 (k false w8))) (
 ldI .i64 w8 (Addr.add a6 1) fun i17 =>
 iteB (i17 == (0 : Int)) (
 ldI .i64 w8 (Addr.add a6 2) fun i18 =>
 iteB (decide (i18 ≥ (0 : Int))) (
 ldI .i64 w8 (Addr.add a6 2) fun i19 =>
 iteB (decide (i19 < (32 : Int))) (
 ldI .i64 w8 (Addr.add a6 3) fun i20 =>
 iteB (decide (i20 ≥ (0 : Int))) (
 ldI .i64 w8 (Addr.add a6 3) fun i21 =>
 iteB (decide (i21 ≤ (4 : Int))) (
 ldI .i64 w8 (Addr.add a6 5) fun i22 =>
 iteB (decide (i22 ≥ (0 : Int))) (
 ldI .i64 w8 (Addr.add a6 5) fun i23 =>
 (k (decide (i23 ≤ (1048576 : Int))) w8)) (
 (k false w8))) (
 (k false w8))) (
 (k false w8))) (
 (k false w8))) (
 (k false w8))) (
 (k false w8)))) (
 (k false w8))
theorem e_table_look_span (table_look_row : Array Value → World → ((Array Value) → World → Prop) → Prop) (x : KT [.ag]) (w : World) (k : KT [.b] → World → Prop) : evFn Go.Proofs.Tryz.prog (orcOf [(n_table_look_row, (fun args w c => unL [.ag] args fun x => table_look_row x w fun r w => c (packV (valL [.ag] r)) w))]) 14 [] Go.Proofs.Tryz.f88 [.b] (valL [.ag] x) w k = table_look_span_b table_look_row x w k := by kernel_rfl
def table_look_span (x_0 : Array Value) (w : World) (k : (Bool) → World → Prop) : Prop := table_look_span_b table_look_row x_0 w k
def d_table_look_span : Dec := fun args w c => unL [.ag] args fun x => table_look_span x w fun r w => c (packV (valL [.b] r)) w
theorem s_table_look_span : Sound Go.Proofs.Tryz.prog n_table_look_span d_table_look_span :=
 sound_of (mask := 14) (h := []) (ds := [(n_table_look_row, d_table_look_row)]) mixed Go.Proofs.Tryz.func88 ⟨s_table_look_row, trivial⟩
 [.ag] [.b] (by kernel_rfl) (fun x w k => table_look_span x w k) (fun x w k => e_table_look_span table_look_row x w k)
def strings_trimRightByte (s_0 : ByteArray) (c_1 : Int) (w : World) (k : (ByteArray) → World → Prop) : Prop :=
 loopP (S := ByteArray) (fun C1 t2 w3 =>
 joinP (S := Bool) (fun J4 =>
 iteB (decide ((((ByteArray.size t2) : Nat) : Int) > (0 : Int))) (
 ixStr t2 (IntKind.wrap .i64 ((((ByteArray.size t2) : Nat) : Int) - (1 : Int))) fun i5 =>
 (J4 (i5 == c_1) w3)) (
 (J4 false w3))) fun b6 w7 =>
 iteB b6 (
 slStr t2 (0 : Int) (IntKind.wrap .i64 ((((ByteArray.size t2) : Nat) : Int) - (1 : Int))) fun t8 =>
 (C1 t8 w7)) (
 (k t2 w7))) s_0 w
def d_strings_trimRightByte : Dec := fun args w c => unL [.str, (.i .u8)] args fun x => strings_trimRightByte x.1 x.2 w fun r w => c (packV (valL [.str] r)) w
theorem s_strings_trimRightByte : Sound Go.Proofs.Tryz.prog n_strings_trimRightByte d_strings_trimRightByte :=
 sound_of (mask := 65555) (h := [(2, [(0, .str)]), (3, [(16, .b)])]) (ds := []) mixed Go.Proofs.Tryz.func131 trivial
 [.str, (.i .u8)] [.str] (by kernel_rfl) (fun x w k => strings_trimRightByte x.1 x.2 w k) (fun x w k => by kernel_rfl)
def strings_trimLeftByte (s_0 : ByteArray) (c_1 : Int) (w : World) (k : (ByteArray) → World → Prop) : Prop :=
 loopP (S := ByteArray) (fun C1 t2 w3 =>
 joinP (S := Bool) (fun J4 =>
 iteB (decide ((((ByteArray.size t2) : Nat) : Int) > (0 : Int))) (
 ixStr t2 (0 : Int) fun i5 =>
 (J4 (i5 == c_1) w3)) (
 (J4 false w3))) fun b6 w7 =>
 iteB b6 (
 slStr t2 (1 : Int) (((ByteArray.size t2) : Nat) : Int) fun t8 =>
 (C1 t8 w7)) (
 (k t2 w7))) s_0 w
def d_strings_trimLeftByte : Dec := fun args w c => unL [.str, (.i .u8)] args fun x => strings_trimLeftByte x.1 x.2 w fun r w => c (packV (valL [.str] r)) w
theorem s_strings_trimLeftByte : Sound Go.Proofs.Tryz.prog n_strings_trimLeftByte d_strings_trimLeftByte :=
 sound_of (mask := 8211) (h := [(2, [(0, .str)]), (3, [(13, .b)])]) (ds := []) mixed Go.Proofs.Tryz.func130 trivial
 [.str, (.i .u8)] [.str] (by kernel_rfl) (fun x w k => strings_trimLeftByte x.1 x.2 w k) (fun x w k => by kernel_rfl)
def strings_makeASCIISet (chars_0 : ByteArray) (w : World) (k : (Array Value × Bool) → World → Prop) : Prop :=
 newC w ltFu15 183 fun a1 w2 =>
 loopP (S := Int) (fun C3 i4 w5 =>
 iteB (decide (i4 < (((ByteArray.size chars_0) : Nat) : Int))) (
 ixStr chars_0 i4 fun i6 =>
 iteB (decide (i6 ≥ (128 : Int))) (
 ldA 256 w5 a1 fun cs7 =>
 stA 256 w5 a1 cs7 fun w8 =>
 ldA 256 w8 a1 fun cs9 =>
 (k (cs9, false) w8)) (
 ixP a1 256 i6 1 fun a10 =>
 stC w5 a10 (.bool true) fun w11 =>
 (C3 (IntKind.wrap .i64 (i4 + (1 : Int))) w11))) (
 ldA 256 w5 a1 fun cs12 =>
 stA 256 w5 a1 cs12 fun w13 =>
 ldA 256 w13 a1 fun cs14 =>
 (k (cs14, true) w13))) (0 : Int) w2
def d_strings_makeASCIISet : Dec := fun args w c => unL [.str] args fun x => strings_makeASCIISet x w fun r w => c (packV (valL [.ag, .b] r)) w
theorem s_strings_makeASCIISet : Sound Go.Proofs.Tryz.prog n_strings_makeASCIISet d_strings_makeASCIISet :=
 sound_of (mask := 66109) (h := [(3, [(4, (.i .i64))])]) (ds := []) mixed Go.Proofs.Tryz.func132 trivial
 [.str] [.ag, .b] (by kernel_rfl) (fun x w k => strings_makeASCIISet x w k) (fun x w k => by kernel_rfl)
def strings_asciiSet_contains (as_0 : Option Addr) (c_1 : Int) (w : World) (k : (Bool) → World → Prop) : Prop :=
 nn as_0 fun a1 =>
 ixP a1 256 c_1 1 fun a2 =>
 ldB w a2 fun b3 =>
 (k b3 w)
def d_strings_asciiSet_contains : Dec := fun args w c => unL [.p, (.i .u8)] args fun x => strings_asciiSet_contains x.1 x.2 w fun r w => c (packV (valL [.b] r)) w
theorem s_strings_asciiSet_contains : Sound Go.Proofs.Tryz.prog n_strings_asciiSet_contains d_strings_asciiSet_contains :=
 sound_of (mask := 19) (h := []) (ds := []) mixed Go.Proofs.Tryz.func138 trivial
 [.p, (.i .u8)] [.b] (by kernel_rfl) (fun x w k => strings_asciiSet_contains x.1 x.2 w k) (fun x w k => by kernel_rfl)
def strings_trimRightASCII_b (strings_asciiSet_contains : Option Addr → Int → World → ((Bool) → World → Prop) → Prop) (s_0 : ByteArray) (as_1 : Option Addr) (w : World) (k : (ByteArray) → World → Prop) : Prop :=
 loopP (S := ByteArray) (fun C1 t2 w3 =>
 iteB (decide ((((ByteArray.size t2) : Nat) : Int) > (0 : Int))) (
 ixStr t2 (IntKind.wrap .i64 ((((ByteArray.size t2) : Nat) : Int) - (1 : Int))) fun i4 =>
 strings_asciiSet_contains as_1 i4 w3 fun b5 w6 =>
 iteB (!b5) (
 (k t2 w6)) (
 slStr t2 (0 : Int) (IntKind.wrap .i64 ((((ByteArray.size t2) : Nat) : Int) - (1 : Int))) fun t7 =>
 (C1 t7 w6))) (
 (k t2 w3))) s_0 w
theorem e_strings_trimRightASCII (strings_asciiSet_contains : Option Addr → Int → World → ((Bool) → World → Prop) → Prop) (x : KT [.str, .p]) (w : World) (k : KT [.str] → World → Prop) : evFn Go.Proofs.Tryz.prog (orcOf [(n_strings_asciiSet_contains, (fun args w c => unL [.p, (.i .u8)] args fun x => strings_asciiSet_contains x.1 x.2 w fun r w => c (packV (valL [.b] r)) w))]) 32915 [(2, [(0, .str)])] Go.Proofs.Tryz.f134 [.str] (valL [.str, .p] x) w k = strings_trimRightASCII_b strings_asciiSet_contains x.1 x.2 w k := by kernel_rfl
def strings_trimRightASCII (s_0 : ByteArray) (as_1 : Option Addr) (w : World) (k : (ByteArray) → World → Prop) : Prop := strings_trimRightASCII_b strings_asciiSet_contains s_0 as_1 w k
def d_strings_trimRightASCII : Dec := fun args w c => unL [.str, .p] args fun x => strings_trimRightASCII x.1 x.2 w fun r w => c (packV (valL [.str] r)) w
theorem s_strings_trimRightASCII : Sound Go.Proofs.Tryz.prog n_strings_trimRightASCII d_strings_trimRightASCII :=
 sound_of (mask := 32915) (h := [(2, [(0, .str)])]) (ds := [(n_strings_asciiSet_contains, d_strings_asciiSet_contains)]) mixed Go.Proofs.Tryz.func134 ⟨s_strings_asciiSet_contains, trivial⟩
 [.str, .p] [.str] (by kernel_rfl) (fun x w k => strings_trimRightASCII x.1 x.2 w k) (fun x w k => e_strings_trimRightASCII strings_asciiSet_contains x w k)
def strings_trimLeftASCII_b (strings_asciiSet_contains : Option Addr → Int → World → ((Bool) → World → Prop) → Prop) (s_0 : ByteArray) (as_1 : Option Addr) (w : World) (k : (ByteArray) → World → Prop) : Prop :=
 loopP (S := ByteArray) (fun C1 t2 w3 =>
 iteB (decide ((((ByteArray.size t2) : Nat) : Int) > (0 : Int))) (
 ixStr t2 (0 : Int) fun i4 =>
 strings_asciiSet_contains as_1 i4 w3 fun b5 w6 =>
 iteB (!b5) (
 (k t2 w6)) (
 slStr t2 (1 : Int) (((ByteArray.size t2) : Nat) : Int) fun t7 =>
 (C1 t7 w6))) (
 (k t2 w3))) s_0 w
theorem e_strings_trimLeftASCII (strings_asciiSet_contains : Option Addr → Int → World → ((Bool) → World → Prop) → Prop) (x : KT [.str, .p]) (w : World) (k : KT [.str] → World → Prop) : evFn Go.Proofs.Tryz.prog (orcOf [(n_strings_asciiSet_contains, (fun args w c => unL [.p, (.i .u8)] args fun x => strings_asciiSet_contains x.1 x.2 w fun r w => c (packV (valL [.b] r)) w))]) 4243 [(2, [(0, .str)])] Go.Proofs.Tryz.f133 [.str] (valL [.str, .p] x) w k = strings_trimLeftASCII_b strings_asciiSet_contains x.1 x.2 w k := by kernel_rfl
def strings_trimLeftASCII (s_0 : ByteArray) (as_1 : Option Addr) (w : World) (k : (ByteArray) → World → Prop) : Prop := strings_trimLeftASCII_b strings_asciiSet_contains s_0 as_1 w k
def d_strings_trimLeftASCII : Dec := fun args w c => unL [.str, .p] args fun x => strings_trimLeftASCII x.1 x.2 w fun r w => c (packV (valL [.str] r)) w
theorem s_strings_trimLeftASCII : Sound Go.Proofs.Tryz.prog n_strings_trimLeftASCII d_strings_trimLeftASCII :=
 sound_of (mask := 4243) (h := [(2, [(0, .str)])]) (ds := [(n_strings_asciiSet_contains, d_strings_asciiSet_contains)]) mixed Go.Proofs.Tryz.func133 ⟨s_strings_asciiSet_contains, trivial⟩
 [.str, .p] [.str] (by kernel_rfl) (fun x w k => strings_trimLeftASCII x.1 x.2 w k) (fun x w k => e_strings_trimLeftASCII strings_asciiSet_contains x w k)
def strings_trimRightUnicode (s_0 : ByteArray) (cutset_1 : ByteArray) (w : World) (k : (ByteArray) → World → Prop) : Prop := False
def d_strings_trimRightUnicode : Dec := fun args w c => unL [.str, .str] args fun x => strings_trimRightUnicode x.1 x.2 w fun r w => c (packV (valL [.str] r)) w
theorem s_strings_trimRightUnicode : Sound Go.Proofs.Tryz.prog n_strings_trimRightUnicode d_strings_trimRightUnicode := ⟨⟨_, Go.Proofs.Tryz.func136, by kernel_rfl, by kernel_rfl⟩, fun args w c h => by
 obtain ⟨x, _, h⟩ := unL_inv h
 exact h.elim⟩
def strings_trimLeftUnicode (s_0 : ByteArray) (cutset_1 : ByteArray) (w : World) (k : (ByteArray) → World → Prop) : Prop := False
def d_strings_trimLeftUnicode : Dec := fun args w c => unL [.str, .str] args fun x => strings_trimLeftUnicode x.1 x.2 w fun r w => c (packV (valL [.str] r)) w
theorem s_strings_trimLeftUnicode : Sound Go.Proofs.Tryz.prog n_strings_trimLeftUnicode d_strings_trimLeftUnicode := ⟨⟨_, Go.Proofs.Tryz.func135, by kernel_rfl, by kernel_rfl⟩, fun args w c h => by
 obtain ⟨x, _, h⟩ := unL_inv h
 exact h.elim⟩
def strings_Trim_b (strings_trimRightByte : ByteArray → Int → World → ((ByteArray) → World → Prop) → Prop) (strings_trimLeftByte : ByteArray → Int → World → ((ByteArray) → World → Prop) → Prop) (strings_makeASCIISet : ByteArray → World → ((Array Value × Bool) → World → Prop) → Prop) (strings_trimRightASCII : ByteArray → Option Addr → World → ((ByteArray) → World → Prop) → Prop) (strings_trimLeftASCII : ByteArray → Option Addr → World → ((ByteArray) → World → Prop) → Prop) (strings_trimRightUnicode : ByteArray → ByteArray → World → ((ByteArray) → World → Prop) → Prop) (strings_trimLeftUnicode : ByteArray → ByteArray → World → ((ByteArray) → World → Prop) → Prop) (s_0 : ByteArray) (cutset_1 : ByteArray) (w : World) (k : (ByteArray) → World → Prop) : Prop :=
 iteB ((strEqB s_0 (ByteArray.mk #[])) || (strEqB cutset_1 (ByteArray.mk #[]))) (
 (k s_0 w)) (
 joinP (S := Bool) (fun J1 =>
 iteB ((((ByteArray.size cutset_1) : Nat) : Int) == (1 : Int)) (
 ixStr cutset_1 (0 : Int) fun i2 =>
 (J1 (decide (i2 < (128 : Int))) w)) (
 (J1 false w))) fun b3 w4 =>
 iteB b3 (
 drew w4 fun w5 =>
 ixStr cutset_1 (0 : Int) fun i6 =>
 ixStr cutset_1 (0 : Int) fun i7 =>
 strings_trimRightByte s_0 i6 w5 fun t8 w9 =>
 strings_trimLeftByte t8 i7 w9 fun t10 w11 =>
 (k t10 w11)) (
 strings_makeASCIISet cutset_1 w4 fun x12 w13 =>
 newC w13 ltFu15 183 fun a14 w15 =>
 stA 256 w15 a14 (x12.1, x12.2).1 fun w16 =>
 iteB (x12.1, x12.2).2 (
 strings_trimRightASCII s_0 (some a14) w16 fun t17 w18 =>
 strings_trimLeftASCII t17 (some a14) w18 fun t19 w20 =>
 (k t19 w20)) (
 strings_trimRightUnicode s_0 cutset_1 w16 fun t21 w22 =>
 strings_trimLeftUnicode t21 cutset_1 w22 fun t23 w24 =>
 (k t23 w24))))
theorem e_strings_Trim (strings_trimRightByte : ByteArray → Int → World → ((ByteArray) → World → Prop) → Prop) (strings_trimLeftByte : ByteArray → Int → World → ((ByteArray) → World → Prop) → Prop) (strings_makeASCIISet : ByteArray → World → ((Array Value × Bool) → World → Prop) → Prop) (strings_trimRightASCII : ByteArray → Option Addr → World → ((ByteArray) → World → Prop) → Prop) (strings_trimLeftASCII : ByteArray → Option Addr → World → ((ByteArray) → World → Prop) → Prop) (strings_trimRightUnicode : ByteArray → ByteArray → World → ((ByteArray) → World → Prop) → Prop) (strings_trimLeftUnicode : ByteArray → ByteArray → World → ((ByteArray) → World → Prop) → Prop) (x : KT [.str, .str]) (w : World) (k : KT [.str] → World → Prop) : evFn Go.Proofs.Tryz.prog (orcOf [(n_strings_trimRightByte, (fun args w c => unL [.str, (.i .u8)] args fun x => strings_trimRightByte x.1 x.2 w fun r w => c (packV (valL [.str] r)) w)), (n_strings_trimLeftByte, (fun args w c => unL [.str, (.i .u8)] args fun x => strings_trimLeftByte x.1 x.2 w fun r w => c (packV (valL [.str] r)) w)), (n_strings_makeASCIISet, (fun args w c => unL [.str] args fun x => strings_makeASCIISet x w fun r w => c (packV (valL [.ag, .b] r)) w)), (n_strings_trimRightASCII, (fun args w c => unL [.str, .p] args fun x => strings_trimRightASCII x.1 x.2 w fun r w => c (packV (valL [.str] r)) w)), (n_strings_trimLeftASCII, (fun args w c => unL [.str, .p] args fun x => strings_trimLeftASCII x.1 x.2 w fun r w => c (packV (valL [.str] r)) w)), (n_strings_trimRightUnicode, (fun args w c => unL [.str, .str] args fun x => strings_trimRightUnicode x.1 x.2 w fun r w => c (packV (valL [.str] r)) w)), (n_strings_trimLeftUnicode, (fun args w c => unL [.str, .str] args fun x => strings_trimLeftUnicode x.1 x.2 w fun r w => c (packV (valL [.str] r)) w))]) 17181970547 [(4, [(21, .b)])] Go.Proofs.Tryz.f123 [.str] (valL [.str, .str] x) w k = strings_Trim_b strings_trimRightByte strings_trimLeftByte strings_makeASCIISet strings_trimRightASCII strings_trimLeftASCII strings_trimRightUnicode strings_trimLeftUnicode x.1 x.2 w k := by kernel_rfl
def strings_Trim (s_0 : ByteArray) (cutset_1 : ByteArray) (w : World) (k : (ByteArray) → World → Prop) : Prop := strings_Trim_b strings_trimRightByte strings_trimLeftByte strings_makeASCIISet strings_trimRightASCII strings_trimLeftASCII strings_trimRightUnicode strings_trimLeftUnicode s_0 cutset_1 w k
def d_strings_Trim : Dec := fun args w c => unL [.str, .str] args fun x => strings_Trim x.1 x.2 w fun r w => c (packV (valL [.str] r)) w
theorem s_strings_Trim : Sound Go.Proofs.Tryz.prog n_strings_Trim d_strings_Trim :=
 sound_of (mask := 17181970547) (h := [(4, [(21, .b)])]) (ds := [(n_strings_trimRightByte, d_strings_trimRightByte), (n_strings_trimLeftByte, d_strings_trimLeftByte), (n_strings_makeASCIISet, d_strings_makeASCIISet), (n_strings_trimRightASCII, d_strings_trimRightASCII), (n_strings_trimLeftASCII, d_strings_trimLeftASCII), (n_strings_trimRightUnicode, d_strings_trimRightUnicode), (n_strings_trimLeftUnicode, d_strings_trimLeftUnicode)]) mixed Go.Proofs.Tryz.func123 ⟨s_strings_trimRightByte, s_strings_trimLeftByte, s_strings_makeASCIISet, s_strings_trimRightASCII, s_strings_trimLeftASCII, s_strings_trimRightUnicode, s_strings_trimLeftUnicode, trivial⟩
 [.str, .str] [.str] (by kernel_rfl) (fun x w k => strings_Trim x.1 x.2 w k) (fun x w k => e_strings_Trim strings_trimRightByte strings_trimLeftByte strings_makeASCIISet strings_trimRightASCII strings_trimLeftASCII strings_trimRightUnicode strings_trimLeftUnicode x w k)
def table_look_told_b (table_look_row : Array Value → World → ((Array Value) → World → Prop) → Prop) (strings_Trim : ByteArray → ByteArray → World → ((ByteArray) → World → Prop) → Prop) (x_0 : Array Value) (w : World) (k : (Bool) → World → Prop) : Prop :=
 newC w x_0 146 fun a1 w2 =>
 ldA 2 w2 a1 fun cs3 =>
 table_look_row cs3 w2 fun cs4 w5 =>
 ptA cs4 6 fun v6 =>
 toStr v6 fun t7 =>
 strings_Trim t7 (ByteArray.mk #[48, 49]) w5 fun t8 w9 =>
 (k (strEqB t8 (ByteArray.mk #[])) w9)
theorem e_table_look_told (table_look_row : Array Value → World → ((Array Value) → World → Prop) → Prop) (strings_Trim : ByteArray → ByteArray → World → ((ByteArray) → World → Prop) → Prop) (x : KT [.ag]) (w : World) (k : KT [.b] → World → Prop) : evFn Go.Proofs.Tryz.prog (orcOf [(n_table_look_row, (fun args w c => unL [.ag] args fun x => table_look_row x w fun r w => c (packV (valL [.ag] r)) w)), (n_strings_Trim, (fun args w c => unL [.str, .str] args fun x => strings_Trim x.1 x.2 w fun r w => c (packV (valL [.str] r)) w))]) 6 [] Go.Proofs.Tryz.f89 [.b] (valL [.ag] x) w k = table_look_told_b table_look_row strings_Trim x w k := by kernel_rfl
def table_look_told (x_0 : Array Value) (w : World) (k : (Bool) → World → Prop) : Prop := table_look_told_b table_look_row strings_Trim x_0 w k
def d_table_look_told : Dec := fun args w c => unL [.ag] args fun x => table_look_told x w fun r w => c (packV (valL [.b] r)) w
theorem s_table_look_told : Sound Go.Proofs.Tryz.prog n_table_look_told d_table_look_told :=
 sound_of (mask := 6) (h := []) (ds := [(n_table_look_row, d_table_look_row), (n_strings_Trim, d_strings_Trim)]) mixed Go.Proofs.Tryz.func89 ⟨s_table_look_row, s_strings_Trim, trivial⟩
 [.ag] [.b] (by kernel_rfl) (fun x w k => table_look_told x w k) (fun x w k => e_table_look_told table_look_row strings_Trim x w k)
def table_came (r_0 : Array Value) (w : World) (k : (Bool) → World → Prop) : Prop :=
 newC w r_0 40 fun a1 w2 =>
 ldI .i64 w2 (Addr.add a1 3) fun i3 =>
 (k (decide (i3 ≥ (2 : Int))) w2)
def d_table_came : Dec := fun args w c => unL [.ag] args fun x => table_came x w fun r w => c (packV (valL [.b] r)) w
theorem s_table_came : Sound Go.Proofs.Tryz.prog n_table_came d_table_came :=
 sound_of (mask := 6) (h := []) (ds := []) mixed Go.Proofs.Tryz.func32 trivial
 [.ag] [.b] (by kernel_rfl) (fun x w k => table_came x w k) (fun x w k => by kernel_rfl)
def table_look_state_b (table_look_row : Array Value → World → ((Array Value) → World → Prop) → Prop) (table_came : Array Value → World → ((Bool) → World → Prop) → Prop) (x_0 : Array Value) (w : World) (k : (Bool) → World → Prop) : Prop :=
 newC w x_0 146 fun a1 w2 =>
 ldA 2 w2 a1 fun cs3 =>
 table_look_row cs3 w2 fun cs4 w5 =>
 newC w5 ltFu12 40 fun a6 w7 =>
 stA 7 w7 a6 cs4 fun w8 =>
 joinP (S := Bool) (fun J9 =>
 ldI .i64 w8 (Addr.add a6 4) fun i10 =>
 iteB (i10 != (0 : Int)) (
 ldI .i64 w8 (Addr.add a6 3) fun i11 =>
 iteB (i11 != (2 : Int)) (
 ldI .i64 w8 (Addr.add a6 3) fun i12 =>
 (J9 (i12 != (3 : Int)) w8)) (
 (J9 false w8))) (
 (J9 false w8))) fun b13 w14 =>
 iteB b13 (
 (k false w14)) (
 joinP (S := Bool) (fun J15 =>
 ldI .i64 w14 (Addr.add a6 3) fun i16 =>
 iteB (i16 == (0 : Int)) (
 ldI .i64 w14 (Addr.add a6 5) fun i17 =>
 iteB (i17 != (0 : Int)) (
 (J15 true w14)) (
 ldStr w14 (Addr.add a6 6) fun t18 =>
 (J15 (!(strEqB t18 (ByteArray.mk #[]))) w14))) (
 (J15 false w14))) fun b19 w20 =>
 iteB b19 (
 (k false w20)) (
 ldI .i64 w20 (Addr.add a1 1) fun i21 =>
 iteB (i21 == (0 : Int)) (
 (k true w20)) (
 ldS w20 (Addr.add a1 0) fun s22 =>
 ldI .i64 w20 (Addr.add a6 0) fun i23 =>
 ixS s22 i23 7 fun a24 =>
 ldA 7 w20 a24 fun cs25 =>
 newC w20 ltFu12 40 fun a26 w27 =>
 stA 7 w27 a26 cs25 fun w28 =>
 ldI .i64 w28 (Addr.add a26 3) fun i29 =>
 iteB (i29 != (0 : Int)) (
 ldA 7 w28 a26 fun cs30 =>
 table_came cs30 w28 fun b31 w32 =>
 iteB (!b31) (
 (k true w32)) (
 ldA 7 w32 a6 fun cs33 =>
 table_came cs33 w32 fun b34 w35 =>
 (k b34 w35))) (
 (k false w28)))))
theorem e_table_look_state (table_look_row : Array Value → World → ((Array Value) → World → Prop) → Prop) (table_came : Array Value → World → ((Bool) → World → Prop) → Prop) (x : KT [.ag]) (w : World) (k : KT [.b] → World → Prop) : evFn Go.Proofs.Tryz.prog (orcOf [(n_table_look_row, (fun args w c => unL [.ag] args fun x => table_look_row x w fun r w => c (packV (valL [.ag] r)) w)), (n_table_came, (fun args w c => unL [.ag] args fun x => table_came x w fun r w => c (packV (valL [.b] r)) w))]) 38655229982 [(2, [(19, .b)]), (5, [(32, .b)])] Go.Proofs.Tryz.f90 [.b] (valL [.ag] x) w k = table_look_state_b table_look_row table_came x w k := by kernel_rfl
def table_look_state (x_0 : Array Value) (w : World) (k : (Bool) → World → Prop) : Prop := table_look_state_b table_look_row table_came x_0 w k
def d_table_look_state : Dec := fun args w c => unL [.ag] args fun x => table_look_state x w fun r w => c (packV (valL [.b] r)) w
theorem s_table_look_state : Sound Go.Proofs.Tryz.prog n_table_look_state d_table_look_state :=
 sound_of (mask := 38655229982) (h := [(2, [(19, .b)]), (5, [(32, .b)])]) (ds := [(n_table_look_row, d_table_look_row), (n_table_came, d_table_came)]) mixed Go.Proofs.Tryz.func90 ⟨s_table_look_row, s_table_came, trivial⟩
 [.ag] [.b] (by kernel_rfl) (fun x w k => table_look_state x w k) (fun x w k => e_table_look_state table_look_row table_came x w k)
def table_check_b (table_look_place : Array Value → World → ((Bool) → World → Prop) → Prop) (table_look_span : Array Value → World → ((Bool) → World → Prop) → Prop) (table_look_told : Array Value → World → ((Bool) → World → Prop) → Prop) (table_look_state : Array Value → World → ((Bool) → World → Prop) → Prop) (l_0 : Sl) (i_1 : Int) (w : World) (k : (Int) → World → Prop) : Prop :=
 newC w #[(.slice none 0 0), (.int .i64 (0 : Int))] 146 fun a1 w2 =>
 stA 2 w2 a1 #[(.slice l_0.a l_0.n l_0.c), (.int .i64 i_1)] fun w3 =>
 ldA 2 w3 a1 fun cs4 =>
 ldA 2 w3 a1 fun cs5 =>
 ldA 2 w3 a1 fun cs6 =>
 ldA 2 w3 a1 fun cs7 =>
 spl #[.nilFunc, (.int .i64 (0 : Int)), .nilFunc, (.int .i64 (0 : Int)), .nilFunc, (.int .i64 (0 : Int)), .nilFunc, (.int .i64 (0 : Int))] 0 2 #[(.func (.func n_table_look_place) #[(.agg cs4)] #[]), (.int .i64 (11 : Int))] fun cs8 =>
 spl cs8 2 2 #[(.func (.func n_table_look_span) #[(.agg cs5)] #[]), (.int .i64 (10 : Int))] fun cs9 =>
 spl cs9 4 2 #[(.func (.func n_table_look_told) #[(.agg cs6)] #[]), (.int .i64 (11 : Int))] fun cs10 =>
 spl cs10 6 2 #[(.func (.func n_table_look_state) #[(.agg cs7)] #[]), (.int .i64 (19 : Int))] fun cs11 =>
 newC w3 cs11 147 fun a12 w13 =>
 loopP (S := Int) (fun C14 i15 w16 =>
 iteB (decide (i15 < ((4 : Nat) : Int))) (
 ixS (Sl.mk (some a12) 4 4) i15 2 fun a17 =>
 ldA 2 w16 a17 fun cs18 =>
 newC w16 #[.nilFunc, (.int .i64 (0 : Int))] 147 fun a19 w20 =>
 stA 2 w20 a19 cs18 fun w21 =>
 ldV w21 (Addr.add a19 0) fun v22 =>
 callF (orcOf [(n_table_look_place, (fun args w c => unL [.ag] args fun x => table_look_place x w fun r w => c (packV (valL [.b] r)) w)), (n_table_look_span, (fun args w c => unL [.ag] args fun x => table_look_span x w fun r w => c (packV (valL [.b] r)) w)), (n_table_look_told, (fun args w c => unL [.ag] args fun x => table_look_told x w fun r w => c (packV (valL [.b] r)) w)), (n_table_look_state, (fun args w c => unL [.ag] args fun x => table_look_state x w fun r w => c (packV (valL [.b] r)) w))]) v22 #[] w21 fun v23 w24 =>
 toB v23 fun b25 =>
 iteB (!b25) (
 ldI .i64 w24 (Addr.add a19 1) fun i26 =>
 (k i26 w24)) (
 (C14 (IntKind.wrap .i64 (i15 + (1 : Int))) w24))) (
 (k (0 : Int) w16))) (0 : Int) w13
theorem e_table_check (table_look_place : Array Value → World → ((Bool) → World → Prop) → Prop) (table_look_span : Array Value → World → ((Bool) → World → Prop) → Prop) (table_look_told : Array Value → World → ((Bool) → World → Prop) → Prop) (table_look_state : Array Value → World → ((Bool) → World → Prop) → Prop) (x : KT [.s, (.i .i64)]) (w : World) (k : KT [(.i .i64)] → World → Prop) : evFn Go.Proofs.Tryz.prog (orcOf [(n_table_look_place, (fun args w c => unL [.ag] args fun x => table_look_place x w fun r w => c (packV (valL [.b] r)) w)), (n_table_look_span, (fun args w c => unL [.ag] args fun x => table_look_span x w fun r w => c (packV (valL [.b] r)) w)), (n_table_look_told, (fun args w c => unL [.ag] args fun x => table_look_told x w fun r w => c (packV (valL [.b] r)) w)), (n_table_look_state, (fun args w c => unL [.ag] args fun x => table_look_state x w fun r w => c (packV (valL [.b] r)) w))]) 4420796595 [(4, [(25, (.i .i64))])] Go.Proofs.Tryz.f60 [(.i .i64)] (valL [.s, (.i .i64)] x) w k = table_check_b table_look_place table_look_span table_look_told table_look_state x.1 x.2 w k := by kernel_rfl
def table_check (l_0 : Sl) (i_1 : Int) (w : World) (k : (Int) → World → Prop) : Prop := table_check_b table_look_place table_look_span table_look_told table_look_state l_0 i_1 w k
def d_table_check : Dec := fun args w c => unL [.s, (.i .i64)] args fun x => table_check x.1 x.2 w fun r w => c (packV (valL [(.i .i64)] r)) w
theorem s_table_check : Sound Go.Proofs.Tryz.prog n_table_check d_table_check :=
 sound_of (mask := 4420796595) (h := [(4, [(25, (.i .i64))])]) (ds := [(n_table_look_place, d_table_look_place), (n_table_look_span, d_table_look_span), (n_table_look_told, d_table_look_told), (n_table_look_state, d_table_look_state)]) mixed Go.Proofs.Tryz.func60 ⟨s_table_look_place, s_table_look_span, s_table_look_told, s_table_look_state, trivial⟩
 [.s, (.i .i64)] [(.i .i64)] (by kernel_rfl) (fun x w k => table_check x.1 x.2 w k) (fun x w k => e_table_check table_look_place table_look_span table_look_told table_look_state x w k)
def table_Check_b (table_check : Sl → Int → World → ((Int) → World → Prop) → Prop) (l_0 : Sl) (w : World) (k : (Int) → World → Prop) : Prop :=
 iteB (((l_0.n : Nat) : Int) == (0 : Int)) (
 (k (17 : Int) w)) (
 loopP (S := Int) (fun C1 i2 w3 =>
 iteB (decide (i2 < ((l_0.n : Nat) : Int))) (
 table_check l_0 i2 w3 fun i4 w5 =>
 iteB (i4 != (0 : Int)) (
 (k i4 w5)) (
 (C1 (IntKind.wrap .i64 (i2 + (1 : Int))) w5))) (
 (k (0 : Int) w3))) (0 : Int) w)
theorem e_table_Check (table_check : Sl → Int → World → ((Int) → World → Prop) → Prop) (x : KT [.s]) (w : World) (k : KT [(.i .i64)] → World → Prop) : evFn Go.Proofs.Tryz.prog (orcOf [(n_table_check, (fun args w c => unL [.s, (.i .i64)] args fun x => table_check x.1 x.2 w fun r w => c (packV (valL [(.i .i64)] r)) w))]) 134813 [(6, [(10, (.i .i64))])] Go.Proofs.Tryz.f33 [(.i .i64)] (valL [.s] x) w k = table_Check_b table_check x w k := by kernel_rfl
def table_Check (l_0 : Sl) (w : World) (k : (Int) → World → Prop) : Prop := table_Check_b table_check l_0 w k
def d_table_Check : Dec := fun args w c => unL [.s] args fun x => table_Check x w fun r w => c (packV (valL [(.i .i64)] r)) w
theorem s_table_Check : Sound Go.Proofs.Tryz.prog n_table_Check d_table_Check :=
 sound_of (mask := 134813) (h := [(6, [(10, (.i .i64))])]) (ds := [(n_table_check, d_table_check)]) mixed Go.Proofs.Tryz.func33 ⟨s_table_check, trivial⟩
 [.s] [(.i .i64)] (by kernel_rfl) (fun x w k => table_Check x w k) (fun x w k => e_table_Check table_check x w k)
def frame_Root  (w : World) (k : (Array Value) → World → Prop) : Prop :=
 newC w ltFu10 68 fun a1 w2 =>
 newC w2 ltFu10 68 fun a3 w4 =>
 loopP (S := Int) (fun C5 i6 w7 =>
 iteB (decide (i6 < (8 : Int))) (
 ixP (Addr.add a3 10) 8 i6 1 fun a8 =>
 stC w7 a8 (.int .i64 (-(1 : Int))) fun w9 =>
 (C5 (IntKind.wrap .i64 (i6 + (1 : Int))) w9)) (
 ldA 19 w7 a3 fun cs10 =>
 stA 19 w7 a1 cs10 fun w11 =>
 ldA 19 w11 a1 fun cs12 =>
 (k cs12 w11))) (0 : Int) w4
def d_frame_Root : Dec := fun args w c => unL [] args fun x => frame_Root  w fun r w => c (packV (valL [.ag] r)) w
theorem s_frame_Root : Sound Go.Proofs.Tryz.prog n_frame_Root d_frame_Root :=
 sound_of (mask := 31) (h := [(4, [(3, (.i .i64))])]) (ds := []) mixed Go.Proofs.Tryz.func29 trivial
 [] [.ag] (by kernel_rfl) (fun x w k => frame_Root  w k) (fun x w k => by kernel_rfl)
def fits_world  (w : World) (k : (Array Value) → World → Prop) : Prop :=
 newC w #[(.int .i64 (0 : Int)), (.int .i64 (0 : Int))] 82 fun a1 w2 =>
 stA 2 w2 a1 #[(.int .i64 (-(1 : Int))), (.int .i64 (0 : Int))] fun w3 =>
 ldA 2 w3 a1 fun cs4 =>
 (k cs4 w3)
def d_fits_world : Dec := fun args w c => unL [] args fun x => fits_world  w fun r w => c (packV (valL [.ag] r)) w
theorem s_fits_world : Sound Go.Proofs.Tryz.prog n_fits_world d_fits_world :=
 sound_of (mask := 1) (h := []) (ds := []) mixed Go.Proofs.Tryz.func34 trivial
 [] [.ag] (by kernel_rfl) (fun x w k => fits_world  w k) (fun x w k => by kernel_rfl)
def table_Kids (l_0 : Sl) (i_1 : Int) (w : World) (k : (Sl) → World → Prop) : Prop :=
 loopP (S := (Sl × Int)) (fun C1 x2 w3 =>
 iteB (decide (x2.2 < ((l_0.n : Nat) : Int))) (
 ixS l_0 x2.2 7 fun a4 =>
 ldA 7 w3 a4 fun cs5 =>
 newC w3 ltFu12 40 fun a6 w7 =>
 stA 7 w7 a6 cs5 fun w8 =>
 ldI .i64 w8 (Addr.add a6 0) fun i9 =>
 iteB (i9 == i_1) (
 newC w8 #[(.int .i64 x2.2)] 3 fun a10 w11 =>
 bApp Go.Proofs.Tryz.prog #[96, 96] 96 [(.slice x2.1.a x2.1.n x2.1.c), (.slice (some a10) 1 1)] w11 fun s12 w13 =>
 (C1 (s12, (IntKind.wrap .i64 (x2.2 + (1 : Int)))) w13)) (
 (C1 (x2.1, (IntKind.wrap .i64 (x2.2 + (1 : Int)))) w8))) (
 (k x2.1 w3))) ((Sl.mk none 0 0), (0 : Int)) w
def d_table_Kids : Dec := fun args w c => unL [.s, (.i .i64)] args fun x => table_Kids x.1 x.2 w fun r w => c (packV (valL [.s] r)) w
theorem s_table_Kids : Sound Go.Proofs.Tryz.prog n_table_Kids d_table_Kids :=
 sound_of (mask := 266227) (h := [(4, [(5, .s), (10, (.i .i64))])]) (ds := []) mixed Go.Proofs.Tryz.func61 trivial
 [.s, (.i .i64)] [.s] (by kernel_rfl) (fun x w k => table_Kids x.1 x.2 w k) (fun x w k => by kernel_rfl)
def frame_Frame_Next (f_0 : Array Value) (p_1 : Array Value) (w : World) (k : (Array Value × Int) → World → Prop) : Prop :=
 newC w f_0 68 fun a1 w2 =>
 newC w2 p_1 24 fun a3 w4 =>
 newC w4 ltFu11 42 fun a5 w6 =>
 joinP (S := Bool) (fun J7 =>
 ldI .i64 w6 (Addr.add a1 0) fun i8 =>
 iteB (decide (i8 < (0 : Int))) (
 (J7 true w6)) (
 ldI .i64 w6 (Addr.add a1 0) fun i9 =>
 ldS w6 (Addr.add a3 0) fun s10 =>
 (J7 (decide (i9 ≥ ((s10.n : Nat) : Int))) w6))) fun b11 w12 =>
 iteB b11 (
 stA 5 w12 a5 ltFu11 fun w13 =>
 ldA 5 w13 a5 fun cs14 =>
 (k (cs14, (17 : Int)) w13)) (
 ldS w12 (Addr.add a3 0) fun s15 =>
 ldI .i64 w12 (Addr.add a1 0) fun i16 =>
 ixS s15 i16 2 fun a17 =>
 ldS w12 (Addr.add a17 1) fun s18 =>
 joinP (S := Bool) (fun J19 =>
 ldI .i64 w12 (Addr.add a1 1) fun i20 =>
 iteB (decide (i20 < (0 : Int))) (
 (J19 true w12)) (
 ldI .i64 w12 (Addr.add a1 1) fun i21 =>
 (J19 (decide (i21 ≥ ((s18.n : Nat) : Int))) w12))) fun b22 w23 =>
 iteB b22 (
 stA 5 w23 a5 ltFu11 fun w24 =>
 ldA 5 w24 a5 fun cs25 =>
 (k (cs25, (17 : Int)) w24)) (
 ldI .i64 w23 (Addr.add a1 1) fun i26 =>
 ixS s18 i26 5 fun a27 =>
 ldA 5 w23 a27 fun cs28 =>
 stA 5 w23 a5 cs28 fun w29 =>
 ldA 5 w29 a5 fun cs30 =>
 (k (cs30, (0 : Int)) w29)))
def d_frame_Frame_Next : Dec := fun args w c => unL [.ag, .ag] args fun x => frame_Frame_Next x.1 x.2 w fun r w => c (packV (valL [.ag, (.i .i64)] r)) w
theorem s_frame_Frame_Next : Sound Go.Proofs.Tryz.prog n_frame_Frame_Next d_frame_Frame_Next :=
 sound_of (mask := 34359869564) (h := [(1, [(17, .b)]), (5, [(35, .b)])]) (ds := []) mixed Go.Proofs.Tryz.func46 trivial
 [.ag, .ag] [.ag, (.i .i64)] (by kernel_rfl) (fun x w k => frame_Frame_Next x.1 x.2 w k) (fun x w k => by kernel_rfl)
def frame_Frame_to (f_0 : Array Value) (pc_1 : Int) (w : World) (k : (Array Value) → World → Prop) : Prop :=
 newC w f_0 68 fun a1 w2 =>
 newC w2 ltFu10 68 fun a3 w4 =>
 stC w4 (Addr.add a1 1) (.int .i64 pc_1) fun w5 =>
 ldI .i64 w5 (Addr.add a1 18) fun i6 =>
 stC w5 (Addr.add a1 18) (.int .i64 (IntKind.wrap .i64 (i6 + (1 : Int)))) fun w7 =>
 ldA 19 w7 a1 fun cs8 =>
 stA 19 w7 a3 cs8 fun w9 =>
 ldA 19 w9 a3 fun cs10 =>
 (k cs10 w9)
def d_frame_Frame_to : Dec := fun args w c => unL [.ag, (.i .i64)] args fun x => frame_Frame_to x.1 x.2 w fun r w => c (packV (valL [.ag] r)) w
theorem s_frame_Frame_to : Sound Go.Proofs.Tryz.prog n_frame_Frame_to d_frame_Frame_to :=
 sound_of (mask := 22) (h := []) (ds := []) mixed Go.Proofs.Tryz.func80 trivial
 [.ag, (.i .i64)] [.ag] (by kernel_rfl) (fun x w k => frame_Frame_to x.1 x.2 w k) (fun x w k => by kernel_rfl)
def frame_Frame_Passed_b (frame_Frame_to : Array Value → Int → World → ((Array Value) → World → Prop) → Prop) (f_0 : Array Value) (w : World) (k : (Array Value) → World → Prop) : Prop :=
 newC w f_0 68 fun a1 w2 =>
 newC w2 ltFu10 68 fun a3 w4 =>
 ldA 19 w4 a1 fun cs5 =>
 ldI .i64 w4 (Addr.add a1 1) fun i6 =>
 frame_Frame_to cs5 (IntKind.wrap .i64 (i6 + (1 : Int))) w4 fun cs7 w8 =>
 stA 19 w8 a3 cs7 fun w9 =>
 ldA 19 w9 a3 fun cs10 =>
 (k cs10 w9)
theorem e_frame_Frame_Passed (frame_Frame_to : Array Value → Int → World → ((Array Value) → World → Prop) → Prop) (x : KT [.ag]) (w : World) (k : KT [.ag] → World → Prop) : evFn Go.Proofs.Tryz.prog (orcOf [(n_frame_Frame_to, (fun args w c => unL [.ag, (.i .i64)] args fun x => frame_Frame_to x.1 x.2 w fun r w => c (packV (valL [.ag] r)) w))]) 6 [] Go.Proofs.Tryz.f81 [.ag] (valL [.ag] x) w k = frame_Frame_Passed_b frame_Frame_to x w k := by kernel_rfl
def frame_Frame_Passed (f_0 : Array Value) (w : World) (k : (Array Value) → World → Prop) : Prop := frame_Frame_Passed_b frame_Frame_to f_0 w k
def d_frame_Frame_Passed : Dec := fun args w c => unL [.ag] args fun x => frame_Frame_Passed x w fun r w => c (packV (valL [.ag] r)) w
theorem s_frame_Frame_Passed : Sound Go.Proofs.Tryz.prog n_frame_Frame_Passed d_frame_Frame_Passed :=
 sound_of (mask := 6) (h := []) (ds := [(n_frame_Frame_to, d_frame_Frame_to)]) mixed Go.Proofs.Tryz.func81 ⟨s_frame_Frame_to, trivial⟩
 [.ag] [.ag] (by kernel_rfl) (fun x w k => frame_Frame_Passed x w k) (fun x w k => e_frame_Frame_Passed frame_Frame_to x w k)
def frame_Frame_sums (f_0 : Array Value) (i_1 : Array Value) (w : World) (k : (Sl) → World → Prop) : Prop :=
 newC w f_0 68 fun a1 w2 =>
 newC w2 i_1 42 fun a3 w4 =>
 joinP (S := (Addr × Addr)) (fun J5 =>
 drew w4 fun w6 =>
 ldI .i64 w6 (Addr.add a3 2) fun i7 =>
 ixP (Addr.add a1 2) 8 i7 1 fun a8 =>
 ldI .i64 w6 a8 fun i9 =>
 ldI .i64 w6 (Addr.add a3 3) fun i10 =>
 ixP (Addr.add a1 2) 8 i10 1 fun a11 =>
 ldI .i64 w6 a11 fun i12 =>
 both (
 newC w6 #[(.int .i64 (0 : Int))] 2 fun a13 w14 =>
 samec 1 a11 w6 w14 (
 samec 1 (Addr.add a3 3) w6 w14 (
 samec 1 a8 w6 w14 (
 samec 1 (Addr.add a3 2) w6 w14 (
 newC w14 #[(.int .i64 (0 : Int))] 2 fun a15 w16 =>
 samec 1 a11 w6 w16 (
 samec 1 (Addr.add a3 3) w6 w16 (
 samec 1 a8 w6 w16 (
 samec 1 (Addr.add a3 2) w6 w16 (
 stC w16 a13 (.int .i64 i9) fun w17 =>
 samec 1 a11 w6 w17 (
 samec 1 (Addr.add a3 3) w6 w17 (
 stC w17 a15 (.int .i64 i12) fun w18 =>
 (J5 (a13, a15) w18)))))))))))) (
 newC w6 #[(.int .i64 (0 : Int))] 2 fun a19 w20 =>
 samec 1 a11 w6 w20 (
 samec 1 (Addr.add a3 3) w6 w20 (
 samec 1 a8 w6 w20 (
 samec 1 (Addr.add a3 2) w6 w20 (
 newC w20 #[(.int .i64 (0 : Int))] 2 fun a21 w22 =>
 samec 1 a11 w6 w22 (
 samec 1 (Addr.add a3 3) w6 w22 (
 samec 1 a8 w6 w22 (
 samec 1 (Addr.add a3 2) w6 w22 (
 stC w22 a21 (.int .i64 i9) fun w23 =>
 samec 1 a11 w6 w23 (
 samec 1 (Addr.add a3 3) w6 w23 (
 stC w23 a19 (.int .i64 i12) fun w24 =>
 (J5 (a21, a19) w24))))))))))))) fun x25 w26 =>
 newC w26 #[(.func (.func n_frame_Frame_sums_1) #[] #[(.pointer (some a3))]), (.func (.func n_frame_Frame_sums_2) #[] #[(.pointer (some x25.1))]), (.func (.func n_frame_Frame_sums_3) #[] #[(.pointer (some x25.1)), (.pointer (some x25.2))]), (.func (.func n_frame_Frame_sums_4) #[] #[(.pointer (some x25.1)), (.pointer (some x25.2))]), (.func (.func n_frame_Frame_sums_5) #[] #[(.pointer (some x25.1)), (.pointer (some x25.2))]), (.func (.func n_frame_Frame_sums_6) #[] #[(.pointer (some x25.1)), (.pointer (some x25.2))])] 136 fun a27 w28 =>
 (k (Sl.mk (some a27) 6 6) w28)
def d_frame_Frame_sums : Dec := fun args w c => unL [.ag, .ag] args fun x => frame_Frame_sums x.1 x.2 w fun r w => c (packV (valL [.s] r)) w
theorem s_frame_Frame_sums : Sound Go.Proofs.Tryz.prog n_frame_Frame_sums d_frame_Frame_sums :=
 sound_of (mask := 124) (h := [(1, [(5, .a), (6, .a)])]) (ds := []) mixed Go.Proofs.Tryz.func82 trivial
 [.ag, .ag] [.s] (by kernel_rfl) (fun x w k => frame_Frame_sums x.1 x.2 w k) (fun x w k => by kernel_rfl)
def frame_Frame_sums_1 (_0 : Addr) (w : World) (k : (Int) → World → Prop) : Prop :=
 ldI .i64 w (Addr.add _0 4) fun i1 =>
 (k i1 w)
def d_frame_Frame_sums_1 : Dec := fun args w c => unL [.a] args fun x => frame_Frame_sums_1 x w fun r w => c (packV (valL [(.i .i64)] r)) w
theorem s_frame_Frame_sums_1 : Sound Go.Proofs.Tryz.prog n_frame_Frame_sums_1 d_frame_Frame_sums_1 :=
 sound_of (mask := 3) (h := []) (ds := []) mixed Go.Proofs.Tryz.func113 trivial
 [.a] [(.i .i64)] (by kernel_rfl) (fun x w k => frame_Frame_sums_1 x w k) (fun x w k => by kernel_rfl)
def frame_Frame_sums_2 (_0 : Addr) (w : World) (k : (Int) → World → Prop) : Prop :=
 ldI .i64 w _0 fun i1 =>
 (k i1 w)
def d_frame_Frame_sums_2 : Dec := fun args w c => unL [.a] args fun x => frame_Frame_sums_2 x w fun r w => c (packV (valL [(.i .i64)] r)) w
theorem s_frame_Frame_sums_2 : Sound Go.Proofs.Tryz.prog n_frame_Frame_sums_2 d_frame_Frame_sums_2 :=
 sound_of (mask := 3) (h := []) (ds := []) mixed Go.Proofs.Tryz.func114 trivial
 [.a] [(.i .i64)] (by kernel_rfl) (fun x w k => frame_Frame_sums_2 x w k) (fun x w k => by kernel_rfl)
def frame_Frame_sums_3 (_0 : Addr) (_1 : Addr) (w : World) (k : (Int) → World → Prop) : Prop :=
 ldI .i64 w _0 fun i1 =>
 ldI .i64 w _1 fun i2 =>
 (k (IntKind.wrap .i64 (i1 + i2)) w)
def d_frame_Frame_sums_3 : Dec := fun args w c => unL [.a, .a] args fun x => frame_Frame_sums_3 x.1 x.2 w fun r w => c (packV (valL [(.i .i64)] r)) w
theorem s_frame_Frame_sums_3 : Sound Go.Proofs.Tryz.prog n_frame_Frame_sums_3 d_frame_Frame_sums_3 :=
 sound_of (mask := 7) (h := []) (ds := []) mixed Go.Proofs.Tryz.func115 trivial
 [.a, .a] [(.i .i64)] (by kernel_rfl) (fun x w k => frame_Frame_sums_3 x.1 x.2 w k) (fun x w k => by kernel_rfl)
def frame_Frame_sums_4 (_0 : Addr) (_1 : Addr) (w : World) (k : (Int) → World → Prop) : Prop :=
 ldI .i64 w _0 fun i1 =>
 ldI .i64 w _1 fun i2 =>
 (k (IntKind.wrap .i64 (i1 - i2)) w)
def d_frame_Frame_sums_4 : Dec := fun args w c => unL [.a, .a] args fun x => frame_Frame_sums_4 x.1 x.2 w fun r w => c (packV (valL [(.i .i64)] r)) w
theorem s_frame_Frame_sums_4 : Sound Go.Proofs.Tryz.prog n_frame_Frame_sums_4 d_frame_Frame_sums_4 :=
 sound_of (mask := 7) (h := []) (ds := []) mixed Go.Proofs.Tryz.func116 trivial
 [.a, .a] [(.i .i64)] (by kernel_rfl) (fun x w k => frame_Frame_sums_4 x.1 x.2 w k) (fun x w k => by kernel_rfl)
def frame_Frame_sums_5 (_0 : Addr) (_1 : Addr) (w : World) (k : (Int) → World → Prop) : Prop :=
 ldI .i64 w _0 fun i1 =>
 ldI .i64 w _1 fun i2 =>
 (k (IntKind.wrap .i64 (i1 * i2)) w)
def d_frame_Frame_sums_5 : Dec := fun args w c => unL [.a, .a] args fun x => frame_Frame_sums_5 x.1 x.2 w fun r w => c (packV (valL [(.i .i64)] r)) w
theorem s_frame_Frame_sums_5 : Sound Go.Proofs.Tryz.prog n_frame_Frame_sums_5 d_frame_Frame_sums_5 :=
 sound_of (mask := 7) (h := []) (ds := []) mixed Go.Proofs.Tryz.func117 trivial
 [.a, .a] [(.i .i64)] (by kernel_rfl) (fun x w k => frame_Frame_sums_5 x.1 x.2 w k) (fun x w k => by kernel_rfl)
def frame_one (is_0 : Bool) (w : World) (k : (Int) → World → Prop) : Prop :=
 iteB is_0 (
 (k (1 : Int) w)) (
 (k (0 : Int) w))
def d_frame_one : Dec := fun args w c => unL [.b] args fun x => frame_one x w fun r w => c (packV (valL [(.i .i64)] r)) w
theorem s_frame_one : Sound Go.Proofs.Tryz.prog n_frame_one d_frame_one :=
 sound_of (mask := 13) (h := []) (ds := []) mixed Go.Proofs.Tryz.func119 trivial
 [.b] [(.i .i64)] (by kernel_rfl) (fun x w k => frame_one x w k) (fun x w k => by kernel_rfl)
def frame_Frame_sums_6_b (frame_one : Bool → World → ((Int) → World → Prop) → Prop) (_0 : Addr) (_1 : Addr) (w : World) (k : (Int) → World → Prop) : Prop :=
 ldI .i64 w _0 fun i1 =>
 ldI .i64 w _1 fun i2 =>
 frame_one (decide (i1 < i2)) w fun i3 w4 =>
 (k i3 w4)
theorem e_frame_Frame_sums_6 (frame_one : Bool → World → ((Int) → World → Prop) → Prop) (x : KT [.a, .a]) (w : World) (k : KT [(.i .i64)] → World → Prop) : evFn Go.Proofs.Tryz.prog (orcOf [(n_frame_one, (fun args w c => unL [.b] args fun x => frame_one x w fun r w => c (packV (valL [(.i .i64)] r)) w))]) 7 [] Go.Proofs.Tryz.f118 [(.i .i64)] (valL [.a, .a] x) w k = frame_Frame_sums_6_b frame_one x.1 x.2 w k := by kernel_rfl
def frame_Frame_sums_6 (_0 : Addr) (_1 : Addr) (w : World) (k : (Int) → World → Prop) : Prop := frame_Frame_sums_6_b frame_one _0 _1 w k
def d_frame_Frame_sums_6 : Dec := fun args w c => unL [.a, .a] args fun x => frame_Frame_sums_6 x.1 x.2 w fun r w => c (packV (valL [(.i .i64)] r)) w
theorem s_frame_Frame_sums_6 : Sound Go.Proofs.Tryz.prog n_frame_Frame_sums_6 d_frame_Frame_sums_6 :=
 sound_of (mask := 7) (h := []) (ds := [(n_frame_one, d_frame_one)]) mixed Go.Proofs.Tryz.func118 ⟨s_frame_one, trivial⟩
 [.a, .a] [(.i .i64)] (by kernel_rfl) (fun x w k => frame_Frame_sums_6 x.1 x.2 w k) (fun x w k => e_frame_Frame_sums_6 frame_one x w k)
def frame_Frame_Plain_b (code_Check : Array Value → World → ((Int) → World → Prop) → Prop) (frame_Frame_to : Array Value → Int → World → ((Array Value) → World → Prop) → Prop) (frame_Frame_Passed : Array Value → World → ((Array Value) → World → Prop) → Prop) (frame_Frame_sums : Array Value → Array Value → World → ((Sl) → World → Prop) → Prop) (frame_Frame_sums_1 : Addr → World → ((Int) → World → Prop) → Prop) (frame_Frame_sums_2 : Addr → World → ((Int) → World → Prop) → Prop) (frame_Frame_sums_3 : Addr → Addr → World → ((Int) → World → Prop) → Prop) (frame_Frame_sums_4 : Addr → Addr → World → ((Int) → World → Prop) → Prop) (frame_Frame_sums_5 : Addr → Addr → World → ((Int) → World → Prop) → Prop) (frame_Frame_sums_6 : Addr → Addr → World → ((Int) → World → Prop) → Prop) (f_0 : Array Value) (i_1 : Array Value) (w : World) (k : (Array Value × Bool) → World → Prop) : Prop :=
 newC w f_0 68 fun a1 w2 =>
 newC w2 i_1 42 fun a3 w4 =>
 newC w4 ltFu10 68 fun a5 w6 =>
 ldA 5 w6 a3 fun cs7 =>
 code_Check cs7 w6 fun i8 w9 =>
 iteB (i8 != (0 : Int)) (
 ldA 19 w9 a1 fun cs10 =>
 stA 19 w9 a5 cs10 fun w11 =>
 ldA 19 w11 a5 fun cs12 =>
 (k (cs12, false) w11)) (
 ldI .i64 w9 (Addr.add a3 0) fun i13 =>
 joinP (S := Bool) (fun J14 =>
 iteB (i13 == (6 : Int)) (
 (J14 (i13 == (6 : Int)) w9)) (
 ldI .i64 w9 (Addr.add a3 0) fun i15 =>
 iteB (i15 == (7 : Int)) (
 ldI .i64 w9 (Addr.add a3 1) fun i16 =>
 ixP (Addr.add a1 2) 8 i16 1 fun a17 =>
 ldI .i64 w9 a17 fun i18 =>
 (J14 (i18 != (0 : Int)) w9)) (
 (J14 false w9)))) fun b19 w20 =>
 iteB b19 (
 ldA 19 w20 a1 fun cs21 =>
 ldI .i64 w20 (Addr.add a3 4) fun i22 =>
 frame_Frame_to cs21 i22 w20 fun cs23 w24 =>
 stA 19 w24 a5 cs23 fun w25 =>
 ldA 19 w25 a5 fun cs26 =>
 (k (cs26, true) w25)) (
 ldI .i64 w20 (Addr.add a3 0) fun i27 =>
 iteB (i27 == (7 : Int)) (
 ldA 19 w20 a1 fun cs28 =>
 frame_Frame_Passed cs28 w20 fun cs29 w30 =>
 stA 19 w30 a5 cs29 fun w31 =>
 ldA 19 w31 a5 fun cs32 =>
 (k (cs32, true) w31)) (
 ldI .i64 w20 (Addr.add a3 0) fun i33 =>
 iteB (decide (i33 > (5 : Int))) (
 ldA 19 w20 a1 fun cs34 =>
 stA 19 w20 a5 cs34 fun w35 =>
 ldA 19 w35 a5 fun cs36 =>
 (k (cs36, false) w35)) (
 drew w20 fun w37 =>
 ldI .i64 w37 (Addr.add a3 1) fun i38 =>
 ldA 19 w37 a1 fun cs39 =>
 ldA 5 w37 a3 fun cs40 =>
 ldI .i64 w37 (Addr.add a3 0) fun i41 =>
 frame_Frame_sums cs39 cs40 w37 fun s42 w43 =>
 samec 1 (Addr.add a3 0) w37 w43 (
 samec 1 (Addr.add a3 1) w37 w43 (
 ixS s42 i41 1 fun a44 =>
 ldV w43 a44 fun v45 =>
 callF (orcOf [(n_code_Check, (fun args w c => unL [.ag] args fun x => code_Check x w fun r w => c (packV (valL [(.i .i64)] r)) w)), (n_frame_Frame_to, (fun args w c => unL [.ag, (.i .i64)] args fun x => frame_Frame_to x.1 x.2 w fun r w => c (packV (valL [.ag] r)) w)), (n_frame_Frame_Passed, (fun args w c => unL [.ag] args fun x => frame_Frame_Passed x w fun r w => c (packV (valL [.ag] r)) w)), (n_frame_Frame_sums, (fun args w c => unL [.ag, .ag] args fun x => frame_Frame_sums x.1 x.2 w fun r w => c (packV (valL [.s] r)) w)), (n_frame_Frame_sums_1, (fun args w c => unL [.a] args fun x => frame_Frame_sums_1 x w fun r w => c (packV (valL [(.i .i64)] r)) w)), (n_frame_Frame_sums_2, (fun args w c => unL [.a] args fun x => frame_Frame_sums_2 x w fun r w => c (packV (valL [(.i .i64)] r)) w)), (n_frame_Frame_sums_3, (fun args w c => unL [.a, .a] args fun x => frame_Frame_sums_3 x.1 x.2 w fun r w => c (packV (valL [(.i .i64)] r)) w)), (n_frame_Frame_sums_4, (fun args w c => unL [.a, .a] args fun x => frame_Frame_sums_4 x.1 x.2 w fun r w => c (packV (valL [(.i .i64)] r)) w)), (n_frame_Frame_sums_5, (fun args w c => unL [.a, .a] args fun x => frame_Frame_sums_5 x.1 x.2 w fun r w => c (packV (valL [(.i .i64)] r)) w)), (n_frame_Frame_sums_6, (fun args w c => unL [.a, .a] args fun x => frame_Frame_sums_6 x.1 x.2 w fun r w => c (packV (valL [(.i .i64)] r)) w))]) v45 #[] w43 fun v46 w47 =>
 toI .i64 v46 fun i48 =>
 samec 1 (Addr.add a3 1) w37 w47 (
 ixP (Addr.add a1 2) 8 i38 1 fun a49 =>
 stC w47 a49 (.int .i64 i48) fun w50 =>
 ldA 19 w50 a1 fun cs51 =>
 frame_Frame_Passed cs51 w50 fun cs52 w53 =>
 stA 19 w53 a5 cs52 fun w54 =>
 ldA 19 w54 a5 fun cs55 =>
 (k (cs55, true) w54))))))))
theorem e_frame_Frame_Plain (code_Check : Array Value → World → ((Int) → World → Prop) → Prop) (frame_Frame_to : Array Value → Int → World → ((Array Value) → World → Prop) → Prop) (frame_Frame_Passed : Array Value → World → ((Array Value) → World → Prop) → Prop) (frame_Frame_sums : Array Value → Array Value → World → ((Sl) → World → Prop) → Prop) (frame_Frame_sums_1 : Addr → World → ((Int) → World → Prop) → Prop) (frame_Frame_sums_2 : Addr → World → ((Int) → World → Prop) → Prop) (frame_Frame_sums_3 : Addr → Addr → World → ((Int) → World → Prop) → Prop) (frame_Frame_sums_4 : Addr → Addr → World → ((Int) → World → Prop) → Prop) (frame_Frame_sums_5 : Addr → Addr → World → ((Int) → World → Prop) → Prop) (frame_Frame_sums_6 : Addr → Addr → World → ((Int) → World → Prop) → Prop) (x : KT [.ag, .ag]) (w : World) (k : KT [.ag, .b] → World → Prop) : evFn Go.Proofs.Tryz.prog (orcOf [(n_code_Check, (fun args w c => unL [.ag] args fun x => code_Check x w fun r w => c (packV (valL [(.i .i64)] r)) w)), (n_frame_Frame_to, (fun args w c => unL [.ag, (.i .i64)] args fun x => frame_Frame_to x.1 x.2 w fun r w => c (packV (valL [.ag] r)) w)), (n_frame_Frame_Passed, (fun args w c => unL [.ag] args fun x => frame_Frame_Passed x w fun r w => c (packV (valL [.ag] r)) w)), (n_frame_Frame_sums, (fun args w c => unL [.ag, .ag] args fun x => frame_Frame_sums x.1 x.2 w fun r w => c (packV (valL [.s] r)) w)), (n_frame_Frame_sums_1, (fun args w c => unL [.a] args fun x => frame_Frame_sums_1 x w fun r w => c (packV (valL [(.i .i64)] r)) w)), (n_frame_Frame_sums_2, (fun args w c => unL [.a] args fun x => frame_Frame_sums_2 x w fun r w => c (packV (valL [(.i .i64)] r)) w)), (n_frame_Frame_sums_3, (fun args w c => unL [.a, .a] args fun x => frame_Frame_sums_3 x.1 x.2 w fun r w => c (packV (valL [(.i .i64)] r)) w)), (n_frame_Frame_sums_4, (fun args w c => unL [.a, .a] args fun x => frame_Frame_sums_4 x.1 x.2 w fun r w => c (packV (valL [(.i .i64)] r)) w)), (n_frame_Frame_sums_5, (fun args w c => unL [.a, .a] args fun x => frame_Frame_sums_5 x.1 x.2 w fun r w => c (packV (valL [(.i .i64)] r)) w)), (n_frame_Frame_sums_6, (fun args w c => unL [.a, .a] args fun x => frame_Frame_sums_6 x.1 x.2 w fun r w => c (packV (valL [(.i .i64)] r)) w))]) 34896610620 [(6, [(10, .b)])] Go.Proofs.Tryz.f51 [.ag, .b] (valL [.ag, .ag] x) w k = frame_Frame_Plain_b code_Check frame_Frame_to frame_Frame_Passed frame_Frame_sums frame_Frame_sums_1 frame_Frame_sums_2 frame_Frame_sums_3 frame_Frame_sums_4 frame_Frame_sums_5 frame_Frame_sums_6 x.1 x.2 w k := by kernel_rfl
def frame_Frame_Plain (f_0 : Array Value) (i_1 : Array Value) (w : World) (k : (Array Value × Bool) → World → Prop) : Prop := frame_Frame_Plain_b code_Check frame_Frame_to frame_Frame_Passed frame_Frame_sums frame_Frame_sums_1 frame_Frame_sums_2 frame_Frame_sums_3 frame_Frame_sums_4 frame_Frame_sums_5 frame_Frame_sums_6 f_0 i_1 w k
def d_frame_Frame_Plain : Dec := fun args w c => unL [.ag, .ag] args fun x => frame_Frame_Plain x.1 x.2 w fun r w => c (packV (valL [.ag, .b] r)) w
theorem s_frame_Frame_Plain : Sound Go.Proofs.Tryz.prog n_frame_Frame_Plain d_frame_Frame_Plain :=
 sound_of (mask := 34896610620) (h := [(6, [(10, .b)])]) (ds := [(n_code_Check, d_code_Check), (n_frame_Frame_to, d_frame_Frame_to), (n_frame_Frame_Passed, d_frame_Frame_Passed), (n_frame_Frame_sums, d_frame_Frame_sums), (n_frame_Frame_sums_1, d_frame_Frame_sums_1), (n_frame_Frame_sums_2, d_frame_Frame_sums_2), (n_frame_Frame_sums_3, d_frame_Frame_sums_3), (n_frame_Frame_sums_4, d_frame_Frame_sums_4), (n_frame_Frame_sums_5, d_frame_Frame_sums_5), (n_frame_Frame_sums_6, d_frame_Frame_sums_6)]) mixed Go.Proofs.Tryz.func51 ⟨s_code_Check, s_frame_Frame_to, s_frame_Frame_Passed, s_frame_Frame_sums, s_frame_Frame_sums_1, s_frame_Frame_sums_2, s_frame_Frame_sums_3, s_frame_Frame_sums_4, s_frame_Frame_sums_5, s_frame_Frame_sums_6, trivial⟩
 [.ag, .ag] [.ag, .b] (by kernel_rfl) (fun x w k => frame_Frame_Plain x.1 x.2 w k) (fun x w k => e_frame_Frame_Plain code_Check frame_Frame_to frame_Frame_Passed frame_Frame_sums frame_Frame_sums_1 frame_Frame_sums_2 frame_Frame_sums_3 frame_Frame_sums_4 frame_Frame_sums_5 frame_Frame_sums_6 x w k)
def frame_may_b (code_Check : Array Value → World → ((Int) → World → Prop) → Prop) (i_0 : Array Value) (op_1 : Int) (w : World) (k : (Bool) → World → Prop) : Prop :=
 newC w i_0 42 fun a1 w2 =>
 ldI .i64 w2 (Addr.add a1 0) fun i3 =>
 iteB (i3 == op_1) (
 ldA 5 w2 a1 fun cs4 =>
 code_Check cs4 w2 fun i5 w6 =>
 (k (i5 == (0 : Int)) w6)) (
 (k false w2))
theorem e_frame_may (code_Check : Array Value → World → ((Int) → World → Prop) → Prop) (x : KT [.ag, (.i .i64)]) (w : World) (k : KT [.b] → World → Prop) : evFn Go.Proofs.Tryz.prog (orcOf [(n_code_Check, (fun args w c => unL [.ag] args fun x => code_Check x w fun r w => c (packV (valL [(.i .i64)] r)) w))]) 22 [] Go.Proofs.Tryz.f120 [.b] (valL [.ag, (.i .i64)] x) w k = frame_may_b code_Check x.1 x.2 w k := by kernel_rfl
def frame_may (i_0 : Array Value) (op_1 : Int) (w : World) (k : (Bool) → World → Prop) : Prop := frame_may_b code_Check i_0 op_1 w k
def d_frame_may : Dec := fun args w c => unL [.ag, (.i .i64)] args fun x => frame_may x.1 x.2 w fun r w => c (packV (valL [.b] r)) w
theorem s_frame_may : Sound Go.Proofs.Tryz.prog n_frame_may d_frame_may :=
 sound_of (mask := 22) (h := []) (ds := [(n_code_Check, d_code_Check)]) mixed Go.Proofs.Tryz.func120 ⟨s_code_Check, trivial⟩
 [.ag, (.i .i64)] [.b] (by kernel_rfl) (fun x w k => frame_may x.1 x.2 w k) (fun x w k => e_frame_may code_Check x w k)
def frame_Frame_Child_b (frame_may : Array Value → Int → World → ((Bool) → World → Prop) → Prop) (frame_Root : World → ((Array Value) → World → Prop) → Prop) (f_0 : Array Value) (p_1 : Array Value) (i_2 : Array Value) (w : World) (k : (Array Value × Int) → World → Prop) : Prop :=
 newC w f_0 68 fun a1 w2 =>
 newC w2 p_1 24 fun a3 w4 =>
 newC w4 i_2 42 fun a5 w6 =>
 newC w6 ltFu10 68 fun a7 w8 =>
 ldA 5 w8 a5 fun cs9 =>
 frame_may cs9 (8 : Int) w8 fun b10 w11 =>
 iteB (!b10) (
 stA 19 w11 a7 ltFu10 fun w12 =>
 ldA 19 w12 a7 fun cs13 =>
 (k (cs13, (1 : Int)) w12)) (
 ldI .i64 w11 (Addr.add a5 4) fun i14 =>
 ldS w11 (Addr.add a3 0) fun s15 =>
 iteB (decide (i14 ≥ ((s15.n : Nat) : Int))) (
 stA 19 w11 a7 ltFu10 fun w16 =>
 ldA 19 w16 a7 fun cs17 =>
 (k (cs17, (17 : Int)) w16)) (
 frame_Root  w11 fun cs18 w19 =>
 newC w19 ltFu10 68 fun a20 w21 =>
 stA 19 w21 a20 cs18 fun w22 =>
 drew w22 fun w23 =>
 ldI .i64 w23 (Addr.add a5 4) fun i24 =>
 ldA 8 w23 (Addr.add a1 2) fun cs25 =>
 stC w23 (Addr.add a20 0) (.int .i64 i24) fun w26 =>
 samec 8 (Addr.add a1 2) w23 w26 (
 stA 8 w26 (Addr.add a20 2) cs25 fun w27 =>
 loopP (S := Int) (fun C28 i29 w30 =>
 iteB (decide (i29 < (8 : Int))) (
 drew w30 fun w31 =>
 ldS w31 (Addr.add a3 0) fun s32 =>
 ldI .i64 w31 (Addr.add a5 4) fun i33 =>
 ixS s32 i33 2 fun a34 =>
 ldI .i64 w31 (Addr.add a34 0) fun i35 =>
 shlI .i64 (1 : Int) i29 fun i36 =>
 iteB ((andI .i64 i35 i36) != (0 : Int)) (
 ixP (Addr.add a1 10) 8 i29 1 fun a37 =>
 ldI .i64 w31 a37 fun i38 =>
 ixP (Addr.add a20 10) 8 i29 1 fun a39 =>
 stC w31 a39 (.int .i64 i38) fun w40 =>
 (C28 (IntKind.wrap .i64 (i29 + (1 : Int))) w40)) (
 (C28 (IntKind.wrap .i64 (i29 + (1 : Int))) w31))) (
 ldA 19 w30 a20 fun cs41 =>
 stA 19 w30 a7 cs41 fun w42 =>
 ldA 19 w42 a7 fun cs43 =>
 (k (cs43, (0 : Int)) w42))) (0 : Int) w27)))
theorem e_frame_Frame_Child (frame_may : Array Value → Int → World → ((Bool) → World → Prop) → Prop) (frame_Root : World → ((Array Value) → World → Prop) → Prop) (x : KT [.ag, .ag, .ag]) (w : World) (k : KT [.ag, (.i .i64)] → World → Prop) : evFn Go.Proofs.Tryz.prog (orcOf [(n_frame_may, (fun args w c => unL [.ag, (.i .i64)] args fun x => frame_may x.1 x.2 w fun r w => c (packV (valL [.b] r)) w)), (n_frame_Root, (fun args w c => unL [] args fun x => frame_Root  w fun r w => c (packV (valL [.ag] r)) w))]) 2199829091320 [(11, [(28, (.i .i64))])] Go.Proofs.Tryz.f83 [.ag, (.i .i64)] (valL [.ag, .ag, .ag] x) w k = frame_Frame_Child_b frame_may frame_Root x.1 x.2.1 x.2.2 w k := by kernel_rfl
def frame_Frame_Child (f_0 : Array Value) (p_1 : Array Value) (i_2 : Array Value) (w : World) (k : (Array Value × Int) → World → Prop) : Prop := frame_Frame_Child_b frame_may frame_Root f_0 p_1 i_2 w k
def d_frame_Frame_Child : Dec := fun args w c => unL [.ag, .ag, .ag] args fun x => frame_Frame_Child x.1 x.2.1 x.2.2 w fun r w => c (packV (valL [.ag, (.i .i64)] r)) w
theorem s_frame_Frame_Child : Sound Go.Proofs.Tryz.prog n_frame_Frame_Child d_frame_Frame_Child :=
 sound_of (mask := 2199829091320) (h := [(11, [(28, (.i .i64))])]) (ds := [(n_frame_may, d_frame_may), (n_frame_Root, d_frame_Root)]) mixed Go.Proofs.Tryz.func83 ⟨s_frame_may, s_frame_Root, trivial⟩
 [.ag, .ag, .ag] [.ag, (.i .i64)] (by kernel_rfl) (fun x w k => frame_Frame_Child x.1 x.2.1 x.2.2 w k) (fun x w k => e_frame_Frame_Child frame_may frame_Root x w k)
def frame_Frame_Forked_b (frame_may : Array Value → Int → World → ((Bool) → World → Prop) → Prop) (frame_Frame_Passed : Array Value → World → ((Array Value) → World → Prop) → Prop) (f_0 : Array Value) (i_1 : Array Value) (id_2 : Int) (w : World) (k : (Array Value) → World → Prop) : Prop :=
 newC w f_0 68 fun a1 w2 =>
 newC w2 i_1 42 fun a3 w4 =>
 newC w4 ltFu10 68 fun a5 w6 =>
 ldA 5 w6 a3 fun cs7 =>
 frame_may cs7 (8 : Int) w6 fun b8 w9 =>
 iteB (!b8) (
 ldA 19 w9 a1 fun cs10 =>
 stA 19 w9 a5 cs10 fun w11 =>
 ldA 19 w11 a5 fun cs12 =>
 (k cs12 w11)) (
 ldI .i64 w9 (Addr.add a3 1) fun i13 =>
 ixP (Addr.add a1 10) 8 i13 1 fun a14 =>
 stC w9 a14 (.int .i64 id_2) fun w15 =>
 ldA 19 w15 a1 fun cs16 =>
 frame_Frame_Passed cs16 w15 fun cs17 w18 =>
 stA 19 w18 a5 cs17 fun w19 =>
 ldA 19 w19 a5 fun cs20 =>
 (k cs20 w19))
theorem e_frame_Frame_Forked (frame_may : Array Value → Int → World → ((Bool) → World → Prop) → Prop) (frame_Frame_Passed : Array Value → World → ((Array Value) → World → Prop) → Prop) (x : KT [.ag, .ag, (.i .i64)]) (w : World) (k : KT [.ag] → World → Prop) : evFn Go.Proofs.Tryz.prog (orcOf [(n_frame_may, (fun args w c => unL [.ag, (.i .i64)] args fun x => frame_may x.1 x.2 w fun r w => c (packV (valL [.b] r)) w)), (n_frame_Frame_Passed, (fun args w c => unL [.ag] args fun x => frame_Frame_Passed x w fun r w => c (packV (valL [.ag] r)) w))]) 604 [] Go.Proofs.Tryz.f84 [.ag] (valL [.ag, .ag, (.i .i64)] x) w k = frame_Frame_Forked_b frame_may frame_Frame_Passed x.1 x.2.1 x.2.2 w k := by kernel_rfl
def frame_Frame_Forked (f_0 : Array Value) (i_1 : Array Value) (id_2 : Int) (w : World) (k : (Array Value) → World → Prop) : Prop := frame_Frame_Forked_b frame_may frame_Frame_Passed f_0 i_1 id_2 w k
def d_frame_Frame_Forked : Dec := fun args w c => unL [.ag, .ag, (.i .i64)] args fun x => frame_Frame_Forked x.1 x.2.1 x.2.2 w fun r w => c (packV (valL [.ag] r)) w
theorem s_frame_Frame_Forked : Sound Go.Proofs.Tryz.prog n_frame_Frame_Forked d_frame_Frame_Forked :=
 sound_of (mask := 604) (h := []) (ds := [(n_frame_may, d_frame_may), (n_frame_Frame_Passed, d_frame_Frame_Passed)]) mixed Go.Proofs.Tryz.func84 ⟨s_frame_may, s_frame_Frame_Passed, trivial⟩
 [.ag, .ag, (.i .i64)] [.ag] (by kernel_rfl) (fun x w k => frame_Frame_Forked x.1 x.2.1 x.2.2 w k) (fun x w k => e_frame_Frame_Forked frame_may frame_Frame_Passed x w k)
def fits_run_fork_b (frame_Frame_Child : Array Value → Array Value → Array Value → World → ((Array Value × Int) → World → Prop) → Prop) (frame_Frame_Forked : Array Value → Array Value → Int → World → ((Array Value) → World → Prop) → Prop) (r_0 : Option Addr) (i_1 : Array Value) (w : World) (k : (Bool) → World → Prop) : Prop :=
 newC w i_1 42 fun a1 w2 =>
 joinP (S := (Addr × Int)) (fun J3 =>
 drew w2 fun w4 =>
 nn r_0 fun a5 =>
 ldA 19 w4 (Addr.add a5 1) fun cs6 =>
 nn r_0 fun a7 =>
 ldP w4 (Addr.add a7 0) fun p8 =>
 nn p8 fun a9 =>
 ldA 1 w4 (Addr.add a9 0) fun cs10 =>
 ldA 5 w4 a1 fun cs11 =>
 both (
 frame_Frame_Child cs6 cs10 cs11 w4 fun x12 w13 =>
 newC w13 ltFu10 68 fun a14 w15 =>
 samec 5 a1 w4 w15 (
 samec 1 (Addr.add a9 0) w4 w15 (
 samec 1 (Addr.add a7 0) w4 w15 (
 samec 19 (Addr.add a5 1) w4 w15 (
 stA 19 w15 a14 (x12.1, x12.2).1 fun w16 =>
 (J3 (a14, (x12.1, x12.2).2) w16)))))) (
 newC w4 ltFu10 68 fun a17 w18 =>
 samec 5 a1 w4 w18 (
 samec 1 (Addr.add a9 0) w4 w18 (
 samec 1 (Addr.add a7 0) w4 w18 (
 samec 19 (Addr.add a5 1) w4 w18 (
 frame_Frame_Child cs6 cs10 cs11 w18 fun x19 w20 =>
 stA 19 w20 a17 (x19.1, x19.2).1 fun w21 =>
 (J3 (a17, (x19.1, x19.2).2) w21))))))) fun x22 w23 =>
 joinP (S := Bool) (fun J24 =>
 iteB (x22.2 != (0 : Int)) (
 (J24 true w23)) (
 nn r_0 fun a25 =>
 ldS w23 (Addr.add a25 21) fun s26 =>
 (J24 (((s26.n : Nat) : Int) == (0 : Int)) w23))) fun b27 w28 =>
 iteB b27 (
 (k false w28)) (
 drew w28 fun w29 =>
 nn r_0 fun a30 =>
 ldP w29 (Addr.add a30 0) fun p31 =>
 nn p31 fun a32 =>
 ldM w29 (Addr.add a32 3) fun p33 =>
 nn r_0 fun a34 =>
 ldS w29 (Addr.add a34 21) fun s35 =>
 ixS s35 (0 : Int) 1 fun a36 =>
 ldI .i64 w29 a36 fun i37 =>
 ldA 19 w29 x22.1 fun cs38 =>
 nn r_0 fun a39 =>
 ldA 2 w29 (Addr.add a39 23) fun cs40 =>
 spl ltFu13 0 19 cs38 fun cs41 =>
 spl cs41 19 2 cs40 fun cs42 =>
 samec 1 a36 w29 w29 (
 samec 1 (Addr.add a34 21) w29 w29 (
 samec 1 (Addr.add a32 3) w29 w29 (
 samec 1 (Addr.add a30 0) w29 w29 (
 mapPut Go.Proofs.Tryz.prog 86 (.map p33) (.int .i64 i37) (.agg cs42) w29 fun w43 =>
 drew w43 fun w44 =>
 nn r_0 fun a45 =>
 ldA 19 w44 (Addr.add a45 1) fun cs46 =>
 ldA 5 w44 a1 fun cs47 =>
 nn r_0 fun a48 =>
 ldS w44 (Addr.add a48 21) fun s49 =>
 ixS s49 (0 : Int) 1 fun a50 =>
 ldI .i64 w44 a50 fun i51 =>
 frame_Frame_Forked cs46 cs47 i51 w44 fun cs52 w53 =>
 nn r_0 fun a54 =>
 stA 19 w53 (Addr.add a54 1) cs52 fun w55 =>
 nn r_0 fun a56 =>
 ldS w55 (Addr.add a56 21) fun s57 =>
 slL s57 1 (1 : Int) fun s58 =>
 nn r_0 fun a59 =>
 stC w55 (Addr.add a59 21) (.slice s58.a s58.n s58.c) fun w60 =>
 (k true w60))))))
theorem e_fits_run_fork (frame_Frame_Child : Array Value → Array Value → Array Value → World → ((Array Value × Int) → World → Prop) → Prop) (frame_Frame_Forked : Array Value → Array Value → Int → World → ((Array Value) → World → Prop) → Prop) (x : KT [.p, .ag]) (w : World) (k : KT [.b] → World → Prop) : evFn Go.Proofs.Tryz.prog (orcOf [(n_frame_Frame_Child, (fun args w c => unL [.ag, .ag, .ag] args fun x => frame_Frame_Child x.1 x.2.1 x.2.2 w fun r w => c (packV (valL [.ag, (.i .i64)] r)) w)), (n_frame_Frame_Forked, (fun args w c => unL [.ag, .ag, (.i .i64)] args fun x => frame_Frame_Forked x.1 x.2.1 x.2.2 w fun r w => c (packV (valL [.ag] r)) w))]) 4294967417 [(1, [(5, .a), (6, (.i .i64))]), (2, [(32, .b)])] Go.Proofs.Tryz.f91 [.b] (valL [.p, .ag] x) w k = fits_run_fork_b frame_Frame_Child frame_Frame_Forked x.1 x.2 w k := by kernel_rfl
def fits_run_fork (r_0 : Option Addr) (i_1 : Array Value) (w : World) (k : (Bool) → World → Prop) : Prop := fits_run_fork_b frame_Frame_Child frame_Frame_Forked r_0 i_1 w k
def d_fits_run_fork : Dec := fun args w c => unL [.p, .ag] args fun x => fits_run_fork x.1 x.2 w fun r w => c (packV (valL [.b] r)) w
theorem s_fits_run_fork : Sound Go.Proofs.Tryz.prog n_fits_run_fork d_fits_run_fork :=
 sound_of (mask := 4294967417) (h := [(1, [(5, .a), (6, (.i .i64))]), (2, [(32, .b)])]) (ds := [(n_frame_Frame_Child, d_frame_Frame_Child), (n_frame_Frame_Forked, d_frame_Frame_Forked)]) mixed Go.Proofs.Tryz.func91 ⟨s_frame_Frame_Child, s_frame_Frame_Forked, trivial⟩
 [.p, .ag] [.b] (by kernel_rfl) (fun x w k => fits_run_fork x.1 x.2 w k) (fun x w k => e_fits_run_fork frame_Frame_Child frame_Frame_Forked x w k)
def frame_Frame_Joined_b (frame_may : Array Value → Int → World → ((Bool) → World → Prop) → Prop) (frame_Frame_Passed : Array Value → World → ((Array Value) → World → Prop) → Prop) (frame_Frame_to : Array Value → Int → World → ((Array Value) → World → Prop) → Prop) (f_0 : Array Value) (i_1 : Array Value) (kind_2 : Int) (v_3 : Int) (w : World) (k : (Array Value × Int × Bool) → World → Prop) : Prop :=
 newC w f_0 68 fun a1 w2 =>
 newC w2 i_1 42 fun a3 w4 =>
 newC w4 ltFu10 68 fun a5 w6 =>
 joinP (S := Bool) (fun J7 =>
 iteB ((decide (kind_2 < (2 : Int))) || (decide (kind_2 > (4 : Int)))) (
 (J7 true w6)) (
 ldA 5 w6 a3 fun cs8 =>
 frame_may cs8 (9 : Int) w6 fun b9 w10 =>
 iteB (!b9) (
 ldA 5 w10 a3 fun cs11 =>
 frame_may cs11 (10 : Int) w10 fun b12 w13 =>
 (J7 (!b12) w13)) (
 (J7 false w10)))) fun b14 w15 =>
 iteB b14 (
 ldA 19 w15 a1 fun cs16 =>
 stA 19 w15 a5 cs16 fun w17 =>
 ldA 19 w17 a5 fun cs18 =>
 (k (cs18, ((0 : Int), false)) w17)) (
 joinP (S := Int) (fun J19 =>
 ldI .i64 w15 (Addr.add a3 0) fun i20 =>
 iteB (i20 == (10 : Int)) (
 joinP (S := Int) (fun J21 =>
 iteB (kind_2 == (4 : Int)) (
 (J21 (0 : Int) w15)) (
 (J21 v_3 w15))) fun i22 w23 =>
 drew w23 fun w24 =>
 ldI .i64 w24 (Addr.add a3 1) fun i25 =>
 ldI .i64 w24 (Addr.add a3 2) fun i26 =>
 ixP (Addr.add a1 2) 8 i25 1 fun a27 =>
 stC w24 a27 (.int .i64 i22) fun w28 =>
 samec 1 (Addr.add a3 2) w24 w28 (
 ixP (Addr.add a1 2) 8 i26 1 fun a29 =>
 stC w28 a29 (.int .i64 (IntKind.wrap .i64 (kind_2 - (2 : Int)))) fun w30 =>
 ldA 19 w30 a1 fun cs31 =>
 frame_Frame_Passed cs31 w30 fun cs32 w33 =>
 stA 19 w33 a5 cs32 fun w34 =>
 ldA 19 w34 a5 fun cs35 =>
 (k (cs35, ((0 : Int), false)) w34))) (
 iteB (kind_2 == (2 : Int)) (
 ldI .i64 w15 (Addr.add a3 1) fun i36 =>
 ixP (Addr.add a1 2) 8 i36 1 fun a37 =>
 stC w15 a37 (.int .i64 v_3) fun w38 =>
 ldA 19 w38 a1 fun cs39 =>
 frame_Frame_Passed cs39 w38 fun cs40 w41 =>
 stA 19 w41 a5 cs40 fun w42 =>
 ldA 19 w42 a5 fun cs43 =>
 (k (cs43, ((0 : Int), false)) w42)) (
 iteB (kind_2 == (4 : Int)) (
 (J19 (-(1 : Int)) w15)) (
 (J19 v_3 w15))))) fun i44 w45 =>
 ldA 19 w45 a1 fun cs46 =>
 ldI .i64 w45 (Addr.add a1 1) fun i47 =>
 frame_Frame_to cs46 i47 w45 fun cs48 w49 =>
 stA 19 w49 a5 cs48 fun w50 =>
 ldA 19 w50 a5 fun cs51 =>
 (k (cs51, (i44, true)) w50))
theorem e_frame_Frame_Joined (frame_may : Array Value → Int → World → ((Bool) → World → Prop) → Prop) (frame_Frame_Passed : Array Value → World → ((Array Value) → World → Prop) → Prop) (frame_Frame_to : Array Value → Int → World → ((Array Value) → World → Prop) → Prop) (x : KT [.ag, .ag, (.i .i64), (.i .i64)]) (w : World) (k : KT [.ag, (.i .i64), .b] → World → Prop) : evFn Go.Proofs.Tryz.prog (orcOf [(n_frame_may, (fun args w c => unL [.ag, (.i .i64)] args fun x => frame_may x.1 x.2 w fun r w => c (packV (valL [.b] r)) w)), (n_frame_Frame_Passed, (fun args w c => unL [.ag] args fun x => frame_Frame_Passed x w fun r w => c (packV (valL [.ag] r)) w)), (n_frame_Frame_to, (fun args w c => unL [.ag, (.i .i64)] args fun x => frame_Frame_to x.1 x.2 w fun r w => c (packV (valL [.ag] r)) w))]) 588746065724 [(1, [(26, .b)]), (5, [(3, (.i .i64))]), (16, [(3, (.i .i64))])] Go.Proofs.Tryz.f85 [.ag, (.i .i64), .b] (valL [.ag, .ag, (.i .i64), (.i .i64)] x) w k = frame_Frame_Joined_b frame_may frame_Frame_Passed frame_Frame_to x.1 x.2.1 x.2.2.1 x.2.2.2 w k := by kernel_rfl
def frame_Frame_Joined (f_0 : Array Value) (i_1 : Array Value) (kind_2 : Int) (v_3 : Int) (w : World) (k : (Array Value × Int × Bool) → World → Prop) : Prop := frame_Frame_Joined_b frame_may frame_Frame_Passed frame_Frame_to f_0 i_1 kind_2 v_3 w k
def d_frame_Frame_Joined : Dec := fun args w c => unL [.ag, .ag, (.i .i64), (.i .i64)] args fun x => frame_Frame_Joined x.1 x.2.1 x.2.2.1 x.2.2.2 w fun r w => c (packV (valL [.ag, (.i .i64), .b] r)) w
theorem s_frame_Frame_Joined : Sound Go.Proofs.Tryz.prog n_frame_Frame_Joined d_frame_Frame_Joined :=
 sound_of (mask := 588746065724) (h := [(1, [(26, .b)]), (5, [(3, (.i .i64))]), (16, [(3, (.i .i64))])]) (ds := [(n_frame_may, d_frame_may), (n_frame_Frame_Passed, d_frame_Frame_Passed), (n_frame_Frame_to, d_frame_Frame_to)]) mixed Go.Proofs.Tryz.func85 ⟨s_frame_may, s_frame_Frame_Passed, s_frame_Frame_to, trivial⟩
 [.ag, .ag, (.i .i64), (.i .i64)] [.ag, (.i .i64), .b] (by kernel_rfl) (fun x w k => frame_Frame_Joined x.1 x.2.1 x.2.2.1 x.2.2.2 w k) (fun x w k => e_frame_Frame_Joined frame_may frame_Frame_Passed frame_Frame_to x w k)
def fits_run_join_b (frame_Frame_Joined : Array Value → Array Value → Int → Int → World → ((Array Value × Int × Bool) → World → Prop) → Prop) (r_0 : Option Addr) (i_1 : Array Value) (w : World) (k : (Bool) → World → Prop) : Prop :=
 newC w i_1 42 fun a1 w2 =>
 ldI .i64 w2 (Addr.add a1 2) fun i3 =>
 ldI .i64 w2 (Addr.add a1 0) fun i4 =>
 joinP (S := Int) (fun J5 =>
 iteB (i4 == (10 : Int)) (
 ldI .i64 w2 (Addr.add a1 3) fun i6 =>
 (J5 i6 w2)) (
 (J5 i3 w2))) fun i7 w8 =>
 drew w8 fun w9 =>
 nn r_0 fun a10 =>
 ldP w9 (Addr.add a10 0) fun p11 =>
 nn p11 fun a12 =>
 ldS w9 (Addr.add a12 1) fun s13 =>
 nn r_0 fun a14 =>
 ixP (Addr.add (Addr.add a14 1) 10) 8 i7 1 fun a15 =>
 ldI .i64 w9 a15 fun i16 =>
 ixS s13 i16 7 fun a17 =>
 ldA 7 w9 a17 fun cs18 =>
 newC w9 ltFu12 40 fun a19 w20 =>
 samec 7 a17 w9 w20 (
 samec 1 a15 w9 w20 (
 samec 1 (Addr.add a12 1) w9 w20 (
 samec 1 (Addr.add a10 0) w9 w20 (
 stA 7 w20 a19 cs18 fun w21 =>
 ldI .i64 w21 (Addr.add a19 3) fun i22 =>
 iteB (decide (i22 < (2 : Int))) (
 (k false w21)) (
 joinP (S := (Addr × (Int × Bool))) (fun J23 =>
 drew w21 fun w24 =>
 nn r_0 fun a25 =>
 ldA 19 w24 (Addr.add a25 1) fun cs26 =>
 ldA 5 w24 a1 fun cs27 =>
 ldI .i64 w24 (Addr.add a19 3) fun i28 =>
 ldI .i64 w24 (Addr.add a19 4) fun i29 =>
 both (
 frame_Frame_Joined cs26 cs27 i28 i29 w24 fun x30 w31 =>
 newC w31 ltFu10 68 fun a32 w33 =>
 samec 1 (Addr.add a19 4) w24 w33 (
 samec 1 (Addr.add a19 3) w24 w33 (
 samec 5 a1 w24 w33 (
 samec 19 (Addr.add a25 1) w24 w33 (
 stA 19 w33 a32 (x30.1, (x30.2.1, x30.2.2)).1 fun w34 =>
 (J23 (a32, ((x30.1, (x30.2.1, x30.2.2)).2.1, (x30.1, (x30.2.1, x30.2.2)).2.2)) w34)))))) (
 newC w24 ltFu10 68 fun a35 w36 =>
 samec 1 (Addr.add a19 4) w24 w36 (
 samec 1 (Addr.add a19 3) w24 w36 (
 samec 5 a1 w24 w36 (
 samec 19 (Addr.add a25 1) w24 w36 (
 frame_Frame_Joined cs26 cs27 i28 i29 w36 fun x37 w38 =>
 stA 19 w38 a35 (x37.1, (x37.2.1, x37.2.2)).1 fun w39 =>
 (J23 (a35, ((x37.1, (x37.2.1, x37.2.2)).2.1, (x37.1, (x37.2.1, x37.2.2)).2.2)) w39))))))) fun x40 w41 =>
 ldA 19 w41 x40.1 fun cs42 =>
 nn r_0 fun a43 =>
 stA 19 w41 (Addr.add a43 1) cs42 fun w44 =>
 iteB x40.2.2 (
 nn r_0 fun a45 =>
 stC w44 (Addr.add a45 26) (.int .i64 (3 : Int)) fun w46 =>
 nn r_0 fun a47 =>
 stC w46 (Addr.add a47 27) (.int .i64 x40.2.1) fun w48 =>
 (k true w48)) (
 (k true w44)))))))
theorem e_fits_run_join (frame_Frame_Joined : Array Value → Array Value → Int → Int → World → ((Array Value × Int × Bool) → World → Prop) → Prop) (x : KT [.p, .ag]) (w : World) (k : KT [.b] → World → Prop) : evFn Go.Proofs.Tryz.prog (orcOf [(n_frame_Frame_Joined, (fun args w c => unL [.ag, .ag, (.i .i64), (.i .i64)] args fun x => frame_Frame_Joined x.1 x.2.1 x.2.2.1 x.2.2.2 w fun r w => c (packV (valL [.ag, (.i .i64), .b] r)) w))]) 18014432869237753 [(3, [(5, (.i .i64))]), (9, [(7, .a), (8, (.i .i64)), (9, .b)])] Go.Proofs.Tryz.f92 [.b] (valL [.p, .ag] x) w k = fits_run_join_b frame_Frame_Joined x.1 x.2 w k := by kernel_rfl
def fits_run_join (r_0 : Option Addr) (i_1 : Array Value) (w : World) (k : (Bool) → World → Prop) : Prop := fits_run_join_b frame_Frame_Joined r_0 i_1 w k
def d_fits_run_join : Dec := fun args w c => unL [.p, .ag] args fun x => fits_run_join x.1 x.2 w fun r w => c (packV (valL [.b] r)) w
theorem s_fits_run_join : Sound Go.Proofs.Tryz.prog n_fits_run_join d_fits_run_join :=
 sound_of (mask := 18014432869237753) (h := [(3, [(5, (.i .i64))]), (9, [(7, .a), (8, (.i .i64)), (9, .b)])]) (ds := [(n_frame_Frame_Joined, d_frame_Frame_Joined)]) mixed Go.Proofs.Tryz.func92 ⟨s_frame_Frame_Joined, trivial⟩
 [.p, .ag] [.b] (by kernel_rfl) (fun x w k => fits_run_join x.1 x.2 w k) (fun x w k => e_fits_run_join frame_Frame_Joined x w k)
def fits_run_pass_b (frame_Frame_Passed : Array Value → World → ((Array Value) → World → Prop) → Prop) (r_0 : Option Addr) (_1 : Array Value) (w : World) (k : (Bool) → World → Prop) : Prop :=
 newC w _1 42 fun a1 w2 =>
 nn r_0 fun a3 =>
 ldA 19 w2 (Addr.add a3 1) fun cs4 =>
 frame_Frame_Passed cs4 w2 fun cs5 w6 =>
 nn r_0 fun a7 =>
 stA 19 w6 (Addr.add a7 1) cs5 fun w8 =>
 (k true w8)
theorem e_fits_run_pass (frame_Frame_Passed : Array Value → World → ((Array Value) → World → Prop) → Prop) (x : KT [.p, .ag]) (w : World) (k : KT [.b] → World → Prop) : evFn Go.Proofs.Tryz.prog (orcOf [(n_frame_Frame_Passed, (fun args w c => unL [.ag] args fun x => frame_Frame_Passed x w fun r w => c (packV (valL [.ag] r)) w))]) 17 [] Go.Proofs.Tryz.f96 [.b] (valL [.p, .ag] x) w k = fits_run_pass_b frame_Frame_Passed x.1 x.2 w k := by kernel_rfl
def fits_run_pass (r_0 : Option Addr) (_1 : Array Value) (w : World) (k : (Bool) → World → Prop) : Prop := fits_run_pass_b frame_Frame_Passed r_0 _1 w k
def d_fits_run_pass : Dec := fun args w c => unL [.p, .ag] args fun x => fits_run_pass x.1 x.2 w fun r w => c (packV (valL [.b] r)) w
theorem s_fits_run_pass : Sound Go.Proofs.Tryz.prog n_fits_run_pass d_fits_run_pass :=
 sound_of (mask := 17) (h := []) (ds := [(n_frame_Frame_Passed, d_frame_Frame_Passed)]) mixed Go.Proofs.Tryz.func96 ⟨s_frame_Frame_Passed, trivial⟩
 [.p, .ag] [.b] (by kernel_rfl) (fun x w k => fits_run_pass x.1 x.2 w k) (fun x w k => e_fits_run_pass frame_Frame_Passed x w k)
def fits_run_open_b (fits_run_pass : Option Addr → Array Value → World → ((Bool) → World → Prop) → Prop) (r_0 : Option Addr) (_1 : Array Value) (w : World) (k : (Bool) → World → Prop) : Prop :=
 newC w _1 42 fun a1 w2 =>
 nn r_0 fun a3 =>
 ldI .i64 w2 (Addr.add a3 25) fun i4 =>
 nn r_0 fun a5 =>
 stC w2 (Addr.add a5 25) (.int .i64 (IntKind.wrap .i64 (i4 + (1 : Int)))) fun w6 =>
 joinP (S := Addr) (fun J7 =>
 drew w6 fun w8 =>
 nn r_0 fun a9 =>
 ldI .i64 w8 (Addr.add a9 20) fun i10 =>
 nn r_0 fun a11 =>
 ldI .i64 w8 (Addr.add a11 25) fun i12 =>
 both (
 newC w8 #[(.int .i64 (0 : Int)), (.int .i64 (0 : Int))] 82 fun a13 w14 =>
 samec 1 (Addr.add a11 25) w8 w14 (
 samec 1 (Addr.add a9 20) w8 w14 (
 stA 2 w14 a13 #[(.int .i64 i10), (.int .i64 i12)] fun w15 =>
 (J7 a13 w15)))) (
 newC w8 #[(.int .i64 (0 : Int)), (.int .i64 (0 : Int))] 82 fun a16 w17 =>
 samec 1 (Addr.add a11 25) w8 w17 (
 samec 1 (Addr.add a9 20) w8 w17 (
 stA 2 w17 a16 #[(.int .i64 i10), (.int .i64 i12)] fun w18 =>
 (J7 a16 w18))))) fun a19 w20 =>
 drew w20 fun w21 =>
 nn r_0 fun a22 =>
 ldP w21 (Addr.add a22 0) fun p23 =>
 nn p23 fun a24 =>
 ldM w21 (Addr.add a24 4) fun p25 =>
 ldA 2 w21 a19 fun cs26 =>
 nn r_0 fun a27 =>
 ldA 2 w21 (Addr.add a27 23) fun cs28 =>
 spl #[(.int .i64 (0 : Int)), (.int .i64 (0 : Int)), (.bool false)] 0 2 cs28 fun cs29 =>
 samec 2 a19 w21 w21 (
 samec 1 (Addr.add a24 4) w21 w21 (
 samec 1 (Addr.add a22 0) w21 w21 (
 mapPut Go.Proofs.Tryz.prog 87 (.map p25) (.agg cs26) (.agg cs29) w21 fun w30 =>
 ldA 2 w30 a19 fun cs31 =>
 nn r_0 fun a32 =>
 stA 2 w30 (Addr.add a32 23) cs31 fun w33 =>
 fits_run_pass r_0 ltFu11 w33 fun b34 w35 =>
 (k b34 w35))))
theorem e_fits_run_open (fits_run_pass : Option Addr → Array Value → World → ((Bool) → World → Prop) → Prop) (x : KT [.p, .ag]) (w : World) (k : KT [.b] → World → Prop) : evFn Go.Proofs.Tryz.prog (orcOf [(n_fits_run_pass, (fun args w c => unL [.p, .ag] args fun x => fits_run_pass x.1 x.2 w fun r w => c (packV (valL [.b] r)) w))]) 49 [(2, [(5, .a)])] Go.Proofs.Tryz.f93 [.b] (valL [.p, .ag] x) w k = fits_run_open_b fits_run_pass x.1 x.2 w k := by kernel_rfl
def fits_run_open (r_0 : Option Addr) (_1 : Array Value) (w : World) (k : (Bool) → World → Prop) : Prop := fits_run_open_b fits_run_pass r_0 _1 w k
def d_fits_run_open : Dec := fun args w c => unL [.p, .ag] args fun x => fits_run_open x.1 x.2 w fun r w => c (packV (valL [.b] r)) w
theorem s_fits_run_open : Sound Go.Proofs.Tryz.prog n_fits_run_open d_fits_run_open :=
 sound_of (mask := 49) (h := [(2, [(5, .a)])]) (ds := [(n_fits_run_pass, d_fits_run_pass)]) mixed Go.Proofs.Tryz.func93 ⟨s_fits_run_pass, trivial⟩
 [.p, .ag] [.b] (by kernel_rfl) (fun x w k => fits_run_open x.1 x.2 w k) (fun x w k => e_fits_run_open fits_run_pass x w k)
def frame_Frame_Closed_b (frame_may : Array Value → Int → World → ((Bool) → World → Prop) → Prop) (frame_one : Bool → World → ((Int) → World → Prop) → Prop) (frame_Frame_Passed : Array Value → World → ((Array Value) → World → Prop) → Prop) (f_0 : Array Value) (i_1 : Array Value) (asked_2 : Bool) (w : World) (k : (Array Value) → World → Prop) : Prop :=
 newC w f_0 68 fun a1 w2 =>
 newC w2 i_1 42 fun a3 w4 =>
 newC w4 ltFu10 68 fun a5 w6 =>
 ldA 19 w6 a1 fun cs7 =>
 newC w6 ltFu10 68 fun a8 w9 =>
 stA 19 w9 a8 cs7 fun w10 =>
 ldA 5 w10 a3 fun cs11 =>
 frame_may cs11 (12 : Int) w10 fun b12 w13 =>
 iteB b12 (
 drew w13 fun w14 =>
 ldI .i64 w14 (Addr.add a3 1) fun i15 =>
 frame_one asked_2 w14 fun i16 w17 =>
 samec 1 (Addr.add a3 1) w14 w17 (
 ixP (Addr.add a8 2) 8 i15 1 fun a18 =>
 stC w17 a18 (.int .i64 i16) fun w19 =>
 ldA 19 w19 a8 fun cs20 =>
 frame_Frame_Passed cs20 w19 fun cs21 w22 =>
 stA 19 w22 a5 cs21 fun w23 =>
 ldA 19 w23 a5 fun cs24 =>
 (k cs24 w23))) (
 ldA 19 w13 a1 fun cs25 =>
 stA 19 w13 a5 cs25 fun w26 =>
 ldA 19 w26 a5 fun cs27 =>
 (k cs27 w26))
theorem e_frame_Frame_Closed (frame_may : Array Value → Int → World → ((Bool) → World → Prop) → Prop) (frame_one : Bool → World → ((Int) → World → Prop) → Prop) (frame_Frame_Passed : Array Value → World → ((Array Value) → World → Prop) → Prop) (x : KT [.ag, .ag, .b]) (w : World) (k : KT [.ag] → World → Prop) : evFn Go.Proofs.Tryz.prog (orcOf [(n_frame_may, (fun args w c => unL [.ag, (.i .i64)] args fun x => frame_may x.1 x.2 w fun r w => c (packV (valL [.b] r)) w)), (n_frame_one, (fun args w c => unL [.b] args fun x => frame_one x w fun r w => c (packV (valL [(.i .i64)] r)) w)), (n_frame_Frame_Passed, (fun args w c => unL [.ag] args fun x => frame_Frame_Passed x w fun r w => c (packV (valL [.ag] r)) w))]) 1244 [] Go.Proofs.Tryz.f86 [.ag] (valL [.ag, .ag, .b] x) w k = frame_Frame_Closed_b frame_may frame_one frame_Frame_Passed x.1 x.2.1 x.2.2 w k := by kernel_rfl
def frame_Frame_Closed (f_0 : Array Value) (i_1 : Array Value) (asked_2 : Bool) (w : World) (k : (Array Value) → World → Prop) : Prop := frame_Frame_Closed_b frame_may frame_one frame_Frame_Passed f_0 i_1 asked_2 w k
def d_frame_Frame_Closed : Dec := fun args w c => unL [.ag, .ag, .b] args fun x => frame_Frame_Closed x.1 x.2.1 x.2.2 w fun r w => c (packV (valL [.ag] r)) w
theorem s_frame_Frame_Closed : Sound Go.Proofs.Tryz.prog n_frame_Frame_Closed d_frame_Frame_Closed :=
 sound_of (mask := 1244) (h := []) (ds := [(n_frame_may, d_frame_may), (n_frame_one, d_frame_one), (n_frame_Frame_Passed, d_frame_Frame_Passed)]) mixed Go.Proofs.Tryz.func86 ⟨s_frame_may, s_frame_one, s_frame_Frame_Passed, trivial⟩
 [.ag, .ag, .b] [.ag] (by kernel_rfl) (fun x w k => frame_Frame_Closed x.1 x.2.1 x.2.2 w k) (fun x w k => e_frame_Frame_Closed frame_may frame_one frame_Frame_Passed x w k)
def fits_run_close_b (frame_Frame_Closed : Array Value → Array Value → Bool → World → ((Array Value) → World → Prop) → Prop) (r_0 : Option Addr) (i_1 : Array Value) (w : World) (k : (Bool) → World → Prop) : Prop :=
 newC w i_1 42 fun a1 w2 =>
 nn r_0 fun a3 =>
 ldStr w2 (Addr.add a3 22) fun t4 =>
 iteB (strEqB t4 (ByteArray.mk #[])) (
 (k false w2)) (
 joinP (S := (Addr × Bool)) (fun J5 =>
 drew w2 fun w6 =>
 nn r_0 fun a7 =>
 ldP w6 (Addr.add a7 0) fun p8 =>
 nn p8 fun a9 =>
 ldM w6 (Addr.add a9 4) fun p10 =>
 nn r_0 fun a11 =>
 ldA 2 w6 (Addr.add a11 23) fun cs12 =>
 nn r_0 fun a13 =>
 ldStr w6 (Addr.add a13 22) fun t14 =>
 ixStr t14 (0 : Int) fun i15 =>
 both (
 Go.Ev.look Go.Proofs.Tryz.prog 87 (.map p10) (.agg cs12) false w6 fun v16 w17 =>
 toA v16 fun cs18 =>
 samec 1 (Addr.add a13 22) w6 w17 (
 newC w17 #[(.int .i64 (0 : Int)), (.int .i64 (0 : Int)), (.bool false)] 117 fun a19 w20 =>
 samec 1 (Addr.add a13 22) w6 w20 (
 samec 2 (Addr.add a11 23) w6 w20 (
 samec 1 (Addr.add a9 4) w6 w20 (
 samec 1 (Addr.add a7 0) w6 w20 (
 stA 3 w20 a19 cs18 fun w21 =>
 samec 1 (Addr.add a13 22) w6 w21 (
 (J5 (a19, (i15 == (49 : Int))) w21)))))))) (
 newC w6 #[(.int .i64 (0 : Int)), (.int .i64 (0 : Int)), (.bool false)] 117 fun a22 w23 =>
 samec 1 (Addr.add a13 22) w6 w23 (
 samec 2 (Addr.add a11 23) w6 w23 (
 samec 1 (Addr.add a9 4) w6 w23 (
 samec 1 (Addr.add a7 0) w6 w23 (
 Go.Ev.look Go.Proofs.Tryz.prog 87 (.map p10) (.agg cs12) false w23 fun v24 w25 =>
 toA v24 fun cs26 =>
 samec 1 (Addr.add a13 22) w6 w25 (
 stA 3 w25 a22 cs26 fun w27 =>
 samec 1 (Addr.add a13 22) w6 w27 (
 (J5 (a22, (i15 == (49 : Int))) w27))))))))) fun x28 w29 =>
 joinP (S := Bool) (fun J30 =>
 ldB w29 (Addr.add x28.1 2) fun b31 =>
 iteB (b31 && (!x28.2)) (
 (J30 true w29)) (
 nn r_0 fun a32 =>
 ldP w29 (Addr.add a32 0) fun p33 =>
 nn p33 fun a34 =>
 ldB w29 (Addr.add a34 2) fun b35 =>
 iteB b35 (
 ldB w29 (Addr.add x28.1 2) fun b36 =>
 (J30 (!(x28.2 == b36)) w29)) (
 (J30 false w29)))) fun b37 w38 =>
 iteB b37 (
 (k false w38)) (
 drew w38 fun w39 =>
 nn r_0 fun a40 =>
 ldA 19 w39 (Addr.add a40 1) fun cs41 =>
 ldA 5 w39 a1 fun cs42 =>
 nn r_0 fun a43 =>
 ldStr w39 (Addr.add a43 22) fun t44 =>
 slStr t44 (1 : Int) (((ByteArray.size t44) : Nat) : Int) fun t45 =>
 ldA 2 w39 (Addr.add x28.1 0) fun cs46 =>
 frame_Frame_Closed cs41 cs42 x28.2 w39 fun cs47 w48 =>
 samec 2 (Addr.add x28.1 0) w39 w48 (
 samec 1 (Addr.add a43 22) w39 w48 (
 nn r_0 fun a49 =>
 stA 19 w48 (Addr.add a49 1) cs47 fun w50 =>
 samec 2 (Addr.add x28.1 0) w39 w50 (
 nn r_0 fun a51 =>
 stC w50 (Addr.add a51 22) (.string t45) fun w52 =>
 samec 2 (Addr.add x28.1 0) w39 w52 (
 nn r_0 fun a53 =>
 stA 2 w52 (Addr.add a53 23) cs46 fun w54 =>
 (k true w54)))))))
theorem e_fits_run_close (frame_Frame_Closed : Array Value → Array Value → Bool → World → ((Array Value) → World → Prop) → Prop) (x : KT [.p, .ag]) (w : World) (k : KT [.b] → World → Prop) : evFn Go.Proofs.Tryz.prog (orcOf [(n_frame_Frame_Closed, (fun args w c => unL [.ag, .ag, .b] args fun x => frame_Frame_Closed x.1 x.2.1 x.2.2 w fun r w => c (packV (valL [.ag] r)) w))]) 1125899906844793 [(4, [(5, .a), (6, .b)]), (5, [(50, .b)])] Go.Proofs.Tryz.f94 [.b] (valL [.p, .ag] x) w k = fits_run_close_b frame_Frame_Closed x.1 x.2 w k := by kernel_rfl
def fits_run_close (r_0 : Option Addr) (i_1 : Array Value) (w : World) (k : (Bool) → World → Prop) : Prop := fits_run_close_b frame_Frame_Closed r_0 i_1 w k
def d_fits_run_close : Dec := fun args w c => unL [.p, .ag] args fun x => fits_run_close x.1 x.2 w fun r w => c (packV (valL [.b] r)) w
theorem s_fits_run_close : Sound Go.Proofs.Tryz.prog n_fits_run_close d_fits_run_close :=
 sound_of (mask := 1125899906844793) (h := [(4, [(5, .a), (6, .b)]), (5, [(50, .b)])]) (ds := [(n_frame_Frame_Closed, d_frame_Frame_Closed)]) mixed Go.Proofs.Tryz.func94 ⟨s_frame_Frame_Closed, trivial⟩
 [.p, .ag] [.b] (by kernel_rfl) (fun x w k => fits_run_close x.1 x.2 w k) (fun x w k => e_fits_run_close frame_Frame_Closed x w k)
def fits_run_cancel_b (fits_run_pass : Option Addr → Array Value → World → ((Bool) → World → Prop) → Prop) (r_0 : Option Addr) (_1 : Array Value) (w : World) (k : (Bool) → World → Prop) : Prop :=
 newC w _1 42 fun a1 w2 =>
 joinP (S := Addr) (fun J3 =>
 drew w2 fun w4 =>
 nn r_0 fun a5 =>
 ldP w4 (Addr.add a5 0) fun p6 =>
 nn p6 fun a7 =>
 ldM w4 (Addr.add a7 4) fun p8 =>
 nn r_0 fun a9 =>
 ldA 2 w4 (Addr.add a9 23) fun cs10 =>
 both (
 Go.Ev.look Go.Proofs.Tryz.prog 87 (.map p8) (.agg cs10) false w4 fun v11 w12 =>
 toA v11 fun cs13 =>
 newC w12 #[(.int .i64 (0 : Int)), (.int .i64 (0 : Int)), (.bool false)] 117 fun a14 w15 =>
 samec 2 (Addr.add a9 23) w4 w15 (
 samec 1 (Addr.add a7 4) w4 w15 (
 samec 1 (Addr.add a5 0) w4 w15 (
 stA 3 w15 a14 cs13 fun w16 =>
 (J3 a14 w16))))) (
 newC w4 #[(.int .i64 (0 : Int)), (.int .i64 (0 : Int)), (.bool false)] 117 fun a17 w18 =>
 samec 2 (Addr.add a9 23) w4 w18 (
 samec 1 (Addr.add a7 4) w4 w18 (
 samec 1 (Addr.add a5 0) w4 w18 (
 Go.Ev.look Go.Proofs.Tryz.prog 87 (.map p8) (.agg cs10) false w18 fun v19 w20 =>
 toA v19 fun cs21 =>
 stA 3 w20 a17 cs21 fun w22 =>
 (J3 a17 w22)))))) fun a23 w24 =>
 stC w24 (Addr.add a23 2) (.bool true) fun w25 =>
 drew w25 fun w26 =>
 nn r_0 fun a27 =>
 ldP w26 (Addr.add a27 0) fun p28 =>
 nn p28 fun a29 =>
 ldM w26 (Addr.add a29 4) fun p30 =>
 nn r_0 fun a31 =>
 ldA 2 w26 (Addr.add a31 23) fun cs32 =>
 ldA 3 w26 a23 fun cs33 =>
 mapPut Go.Proofs.Tryz.prog 87 (.map p30) (.agg cs32) (.agg cs33) w26 fun w34 =>
 fits_run_pass r_0 ltFu11 w34 fun b35 w36 =>
 (k b35 w36)
theorem e_fits_run_cancel (fits_run_pass : Option Addr → Array Value → World → ((Bool) → World → Prop) → Prop) (x : KT [.p, .ag]) (w : World) (k : KT [.b] → World → Prop) : evFn Go.Proofs.Tryz.prog (orcOf [(n_fits_run_pass, (fun args w c => unL [.p, .ag] args fun x => fits_run_pass x.1 x.2 w fun r w => c (packV (valL [.b] r)) w))]) 49 [(1, [(5, .a)])] Go.Proofs.Tryz.f95 [.b] (valL [.p, .ag] x) w k = fits_run_cancel_b fits_run_pass x.1 x.2 w k := by kernel_rfl
def fits_run_cancel (r_0 : Option Addr) (_1 : Array Value) (w : World) (k : (Bool) → World → Prop) : Prop := fits_run_cancel_b fits_run_pass r_0 _1 w k
def d_fits_run_cancel : Dec := fun args w c => unL [.p, .ag] args fun x => fits_run_cancel x.1 x.2 w fun r w => c (packV (valL [.b] r)) w
theorem s_fits_run_cancel : Sound Go.Proofs.Tryz.prog n_fits_run_cancel d_fits_run_cancel :=
 sound_of (mask := 49) (h := [(1, [(5, .a)])]) (ds := [(n_fits_run_pass, d_fits_run_pass)]) mixed Go.Proofs.Tryz.func95 ⟨s_fits_run_pass, trivial⟩
 [.p, .ag] [.b] (by kernel_rfl) (fun x w k => fits_run_cancel x.1 x.2 w k) (fun x w k => e_fits_run_cancel fits_run_pass x w k)
def fits_run_leave_b (frame_Frame_Passed : Array Value → World → ((Array Value) → World → Prop) → Prop) (r_0 : Option Addr) (i_1 : Array Value) (w : World) (k : (Bool) → World → Prop) : Prop :=
 newC w i_1 42 fun a1 w2 =>
 drew w2 fun w3 =>
 nn r_0 fun a4 =>
 ldA 19 w3 (Addr.add a4 1) fun cs5 =>
 ldI .i64 w3 (Addr.add a1 1) fun i6 =>
 nn r_0 fun a7 =>
 ixP (Addr.add (Addr.add a7 1) 2) 8 i6 1 fun a8 =>
 ldI .i64 w3 a8 fun i9 =>
 frame_Frame_Passed cs5 w3 fun cs10 w11 =>
 samec 1 a8 w3 w11 (
 samec 1 (Addr.add a1 1) w3 w11 (
 nn r_0 fun a12 =>
 stA 19 w11 (Addr.add a12 1) cs10 fun w13 =>
 nn r_0 fun a14 =>
 stC w13 (Addr.add a14 26) (.int .i64 (2 : Int)) fun w15 =>
 nn r_0 fun a16 =>
 stC w15 (Addr.add a16 27) (.int .i64 i9) fun w17 =>
 ldI .i64 w17 (Addr.add a1 0) fun i18 =>
 iteB (i18 == (15 : Int)) (
 nn r_0 fun a19 =>
 stC w17 (Addr.add a19 26) (.int .i64 (3 : Int)) fun w20 =>
 (k true w20)) (
 (k true w17))))
theorem e_fits_run_leave (frame_Frame_Passed : Array Value → World → ((Array Value) → World → Prop) → Prop) (x : KT [.p, .ag]) (w : World) (k : KT [.b] → World → Prop) : evFn Go.Proofs.Tryz.prog (orcOf [(n_frame_Frame_Passed, (fun args w c => unL [.ag] args fun x => frame_Frame_Passed x w fun r w => c (packV (valL [.ag] r)) w))]) 536870937 [] Go.Proofs.Tryz.f97 [.b] (valL [.p, .ag] x) w k = fits_run_leave_b frame_Frame_Passed x.1 x.2 w k := by kernel_rfl
def fits_run_leave (r_0 : Option Addr) (i_1 : Array Value) (w : World) (k : (Bool) → World → Prop) : Prop := fits_run_leave_b frame_Frame_Passed r_0 i_1 w k
def d_fits_run_leave : Dec := fun args w c => unL [.p, .ag] args fun x => fits_run_leave x.1 x.2 w fun r w => c (packV (valL [.b] r)) w
theorem s_fits_run_leave : Sound Go.Proofs.Tryz.prog n_fits_run_leave d_fits_run_leave :=
 sound_of (mask := 536870937) (h := []) (ds := [(n_frame_Frame_Passed, d_frame_Frame_Passed)]) mixed Go.Proofs.Tryz.func97 ⟨s_frame_Frame_Passed, trivial⟩
 [.p, .ag] [.b] (by kernel_rfl) (fun x w k => fits_run_leave x.1 x.2 w k) (fun x w k => e_fits_run_leave frame_Frame_Passed x w k)
def fits_run_step_b (frame_Frame_Next : Array Value → Array Value → World → ((Array Value × Int) → World → Prop) → Prop) (frame_Frame_Plain : Array Value → Array Value → World → ((Array Value × Bool) → World → Prop) → Prop) (fits_run_fork : Option Addr → Array Value → World → ((Bool) → World → Prop) → Prop) (fits_run_join : Option Addr → Array Value → World → ((Bool) → World → Prop) → Prop) (fits_run_open : Option Addr → Array Value → World → ((Bool) → World → Prop) → Prop) (fits_run_close : Option Addr → Array Value → World → ((Bool) → World → Prop) → Prop) (fits_run_cancel : Option Addr → Array Value → World → ((Bool) → World → Prop) → Prop) (fits_run_pass : Option Addr → Array Value → World → ((Bool) → World → Prop) → Prop) (fits_run_leave : Option Addr → Array Value → World → ((Bool) → World → Prop) → Prop) (r_0 : Option Addr) (w : World) (k : (Bool) → World → Prop) : Prop :=
 joinP (S := (Addr × Int)) (fun J1 =>
 drew w fun w2 =>
 nn r_0 fun a3 =>
 ldA 19 w2 (Addr.add a3 1) fun cs4 =>
 nn r_0 fun a5 =>
 ldP w2 (Addr.add a5 0) fun p6 =>
 nn p6 fun a7 =>
 ldA 1 w2 (Addr.add a7 0) fun cs8 =>
 both (
 frame_Frame_Next cs4 cs8 w2 fun x9 w10 =>
 newC w10 ltFu11 42 fun a11 w12 =>
 samec 1 (Addr.add a7 0) w2 w12 (
 samec 1 (Addr.add a5 0) w2 w12 (
 samec 19 (Addr.add a3 1) w2 w12 (
 stA 5 w12 a11 (x9.1, x9.2).1 fun w13 =>
 (J1 (a11, (x9.1, x9.2).2) w13))))) (
 newC w2 ltFu11 42 fun a14 w15 =>
 samec 1 (Addr.add a7 0) w2 w15 (
 samec 1 (Addr.add a5 0) w2 w15 (
 samec 19 (Addr.add a3 1) w2 w15 (
 frame_Frame_Next cs4 cs8 w15 fun x16 w17 =>
 stA 5 w17 a14 (x16.1, x16.2).1 fun w18 =>
 (J1 (a14, (x16.1, x16.2).2) w18)))))) fun x19 w20 =>
 joinP (S := Bool) (fun J21 =>
 iteB (x19.2 != (0 : Int)) (
 (J21 true w20)) (
 nn r_0 fun a22 =>
 ldI .i64 w20 (Addr.add a22 26) fun i23 =>
 (J21 (i23 != (0 : Int)) w20))) fun b24 w25 =>
 iteB b24 (
 (k false w25)) (
 joinP (S := (Addr × Bool)) (fun J26 =>
 drew w25 fun w27 =>
 nn r_0 fun a28 =>
 ldA 19 w27 (Addr.add a28 1) fun cs29 =>
 ldA 5 w27 x19.1 fun cs30 =>
 both (
 frame_Frame_Plain cs29 cs30 w27 fun x31 w32 =>
 newC w32 ltFu10 68 fun a33 w34 =>
 samec 5 x19.1 w27 w34 (
 samec 19 (Addr.add a28 1) w27 w34 (
 stA 19 w34 a33 (x31.1, x31.2).1 fun w35 =>
 (J26 (a33, (x31.1, x31.2).2) w35)))) (
 newC w27 ltFu10 68 fun a36 w37 =>
 samec 5 x19.1 w27 w37 (
 samec 19 (Addr.add a28 1) w27 w37 (
 frame_Frame_Plain cs29 cs30 w37 fun x38 w39 =>
 stA 19 w39 a36 (x38.1, x38.2).1 fun w40 =>
 (J26 (a36, (x38.1, x38.2).2) w40))))) fun x41 w42 =>
 iteB x41.2 (
 ldA 19 w42 x41.1 fun cs43 =>
 nn r_0 fun a44 =>
 stA 19 w42 (Addr.add a44 1) cs43 fun w45 =>
 (k true w45)) (
 newC w42 #[(.func (.func n_fits_run_fork) #[] #[]), (.func (.func n_fits_run_join) #[] #[]), (.func (.func n_fits_run_join) #[] #[]), (.func (.func n_fits_run_open) #[] #[]), (.func (.func n_fits_run_close) #[] #[]), (.func (.func n_fits_run_cancel) #[] #[]), (.func (.func n_fits_run_pass) #[] #[]), (.func (.func n_fits_run_leave) #[] #[]), (.func (.func n_fits_run_leave) #[] #[])] 149 fun a46 w47 =>
 drew w47 fun w48 =>
 ldI .i64 w48 (Addr.add x19.1 0) fun i49 =>
 ixS (Sl.mk (some a46) 9 9) (IntKind.wrap .i64 (i49 - (8 : Int))) 1 fun a50 =>
 ldV w48 a50 fun v51 =>
 ldA 5 w48 x19.1 fun cs52 =>
 callF (orcOf [(n_frame_Frame_Next, (fun args w c => unL [.ag, .ag] args fun x => frame_Frame_Next x.1 x.2 w fun r w => c (packV (valL [.ag, (.i .i64)] r)) w)), (n_frame_Frame_Plain, (fun args w c => unL [.ag, .ag] args fun x => frame_Frame_Plain x.1 x.2 w fun r w => c (packV (valL [.ag, .b] r)) w)), (n_fits_run_fork, (fun args w c => unL [.p, .ag] args fun x => fits_run_fork x.1 x.2 w fun r w => c (packV (valL [.b] r)) w)), (n_fits_run_join, (fun args w c => unL [.p, .ag] args fun x => fits_run_join x.1 x.2 w fun r w => c (packV (valL [.b] r)) w)), (n_fits_run_open, (fun args w c => unL [.p, .ag] args fun x => fits_run_open x.1 x.2 w fun r w => c (packV (valL [.b] r)) w)), (n_fits_run_close, (fun args w c => unL [.p, .ag] args fun x => fits_run_close x.1 x.2 w fun r w => c (packV (valL [.b] r)) w)), (n_fits_run_cancel, (fun args w c => unL [.p, .ag] args fun x => fits_run_cancel x.1 x.2 w fun r w => c (packV (valL [.b] r)) w)), (n_fits_run_pass, (fun args w c => unL [.p, .ag] args fun x => fits_run_pass x.1 x.2 w fun r w => c (packV (valL [.b] r)) w)), (n_fits_run_leave, (fun args w c => unL [.p, .ag] args fun x => fits_run_leave x.1 x.2 w fun r w => c (packV (valL [.b] r)) w))]) v51 #[(.pointer r_0), (.agg cs52)] w48 fun v53 w54 =>
 toB v53 fun b55 =>
 (k b55 w54)))
theorem e_fits_run_step (frame_Frame_Next : Array Value → Array Value → World → ((Array Value × Int) → World → Prop) → Prop) (frame_Frame_Plain : Array Value → Array Value → World → ((Array Value × Bool) → World → Prop) → Prop) (fits_run_fork : Option Addr → Array Value → World → ((Bool) → World → Prop) → Prop) (fits_run_join : Option Addr → Array Value → World → ((Bool) → World → Prop) → Prop) (fits_run_open : Option Addr → Array Value → World → ((Bool) → World → Prop) → Prop) (fits_run_close : Option Addr → Array Value → World → ((Bool) → World → Prop) → Prop) (fits_run_cancel : Option Addr → Array Value → World → ((Bool) → World → Prop) → Prop) (fits_run_pass : Option Addr → Array Value → World → ((Bool) → World → Prop) → Prop) (fits_run_leave : Option Addr → Array Value → World → ((Bool) → World → Prop) → Prop) (x : KT [.p]) (w : World) (k : KT [.b] → World → Prop) : evFn Go.Proofs.Tryz.prog (orcOf [(n_frame_Frame_Next, (fun args w c => unL [.ag, .ag] args fun x => frame_Frame_Next x.1 x.2 w fun r w => c (packV (valL [.ag, (.i .i64)] r)) w)), (n_frame_Frame_Plain, (fun args w c => unL [.ag, .ag] args fun x => frame_Frame_Plain x.1 x.2 w fun r w => c (packV (valL [.ag, .b] r)) w)), (n_fits_run_fork, (fun args w c => unL [.p, .ag] args fun x => fits_run_fork x.1 x.2 w fun r w => c (packV (valL [.b] r)) w)), (n_fits_run_join, (fun args w c => unL [.p, .ag] args fun x => fits_run_join x.1 x.2 w fun r w => c (packV (valL [.b] r)) w)), (n_fits_run_open, (fun args w c => unL [.p, .ag] args fun x => fits_run_open x.1 x.2 w fun r w => c (packV (valL [.b] r)) w)), (n_fits_run_close, (fun args w c => unL [.p, .ag] args fun x => fits_run_close x.1 x.2 w fun r w => c (packV (valL [.b] r)) w)), (n_fits_run_cancel, (fun args w c => unL [.p, .ag] args fun x => fits_run_cancel x.1 x.2 w fun r w => c (packV (valL [.b] r)) w)), (n_fits_run_pass, (fun args w c => unL [.p, .ag] args fun x => fits_run_pass x.1 x.2 w fun r w => c (packV (valL [.b] r)) w)), (n_fits_run_leave, (fun args w c => unL [.p, .ag] args fun x => fits_run_leave x.1 x.2 w fun r w => c (packV (valL [.b] r)) w))]) 2201170739453 [(1, [(3, .a), (4, (.i .i64))]), (2, [(31, .b)]), (5, [(5, .a), (6, .b)])] Go.Proofs.Tryz.f62 [.b] (valL [.p] x) w k = fits_run_step_b frame_Frame_Next frame_Frame_Plain fits_run_fork fits_run_join fits_run_open fits_run_close fits_run_cancel fits_run_pass fits_run_leave x w k := by kernel_rfl
def fits_run_step (r_0 : Option Addr) (w : World) (k : (Bool) → World → Prop) : Prop := fits_run_step_b frame_Frame_Next frame_Frame_Plain fits_run_fork fits_run_join fits_run_open fits_run_close fits_run_cancel fits_run_pass fits_run_leave r_0 w k
def d_fits_run_step : Dec := fun args w c => unL [.p] args fun x => fits_run_step x w fun r w => c (packV (valL [.b] r)) w
theorem s_fits_run_step : Sound Go.Proofs.Tryz.prog n_fits_run_step d_fits_run_step :=
 sound_of (mask := 2201170739453) (h := [(1, [(3, .a), (4, (.i .i64))]), (2, [(31, .b)]), (5, [(5, .a), (6, .b)])]) (ds := [(n_frame_Frame_Next, d_frame_Frame_Next), (n_frame_Frame_Plain, d_frame_Frame_Plain), (n_fits_run_fork, d_fits_run_fork), (n_fits_run_join, d_fits_run_join), (n_fits_run_open, d_fits_run_open), (n_fits_run_close, d_fits_run_close), (n_fits_run_cancel, d_fits_run_cancel), (n_fits_run_pass, d_fits_run_pass), (n_fits_run_leave, d_fits_run_leave)]) mixed Go.Proofs.Tryz.func62 ⟨s_frame_Frame_Next, s_frame_Frame_Plain, s_fits_run_fork, s_fits_run_join, s_fits_run_open, s_fits_run_close, s_fits_run_cancel, s_fits_run_pass, s_fits_run_leave, trivial⟩
 [.p] [.b] (by kernel_rfl) (fun x w k => fits_run_step x w k) (fun x w k => e_fits_run_step frame_Frame_Next frame_Frame_Plain fits_run_fork fits_run_join fits_run_open fits_run_close fits_run_cancel fits_run_pass fits_run_leave x w k)
def fits_book_asked_b (fits_world : World → ((Array Value) → World → Prop) → Prop) (b_0 : Option Addr) (s_1 : Array Value) (w : World) (k : (Bool) → World → Prop) : Prop :=
 newC w s_1 82 fun a1 w2 =>
 loopP (S := Unit) (fun C3 u4 w5 =>
 drew w5 fun w6 =>
 ldA 2 w6 a1 fun cs7 =>
 fits_world  w6 fun cs8 w9 =>
 samec 2 a1 w6 w9 (
 eqA ([(0, 0)] ++ ([(1, 0)] ++ [])) cs7 cs8 fun b10 =>
 iteB (!b10) (
 joinP (S := Addr) (fun J11 =>
 drew w9 fun w12 =>
 nn b_0 fun a13 =>
 ldM w12 (Addr.add a13 4) fun p14 =>
 ldA 2 w12 a1 fun cs15 =>
 both (
 Go.Ev.look Go.Proofs.Tryz.prog 87 (.map p14) (.agg cs15) false w12 fun v16 w17 =>
 toA v16 fun cs18 =>
 newC w17 #[(.int .i64 (0 : Int)), (.int .i64 (0 : Int)), (.bool false)] 117 fun a19 w20 =>
 samec 2 a1 w12 w20 (
 samec 1 (Addr.add a13 4) w12 w20 (
 stA 3 w20 a19 cs18 fun w21 =>
 (J11 a19 w21)))) (
 newC w12 #[(.int .i64 (0 : Int)), (.int .i64 (0 : Int)), (.bool false)] 117 fun a22 w23 =>
 samec 2 a1 w12 w23 (
 samec 1 (Addr.add a13 4) w12 w23 (
 Go.Ev.look Go.Proofs.Tryz.prog 87 (.map p14) (.agg cs15) false w23 fun v24 w25 =>
 toA v24 fun cs26 =>
 stA 3 w25 a22 cs26 fun w27 =>
 (J11 a22 w27))))) fun a28 w29 =>
 ldB w29 (Addr.add a28 2) fun b30 =>
 iteB b30 (
 (k true w29)) (
 ldA 2 w29 (Addr.add a28 0) fun cs31 =>
 stA 2 w29 a1 cs31 fun w32 =>
 (C3 () w32))) (
 (k false w9)))) () w2
theorem e_fits_book_asked (fits_world : World → ((Array Value) → World → Prop) → Prop) (x : KT [.p, .ag]) (w : World) (k : KT [.b] → World → Prop) : evFn Go.Proofs.Tryz.prog (orcOf [(n_fits_world, (fun args w c => unL [] args fun x => fits_world  w fun r w => c (packV (valL [.ag] r)) w))]) 65849 [(2, []), (6, [(5, .a)])] Go.Proofs.Tryz.f98 [.b] (valL [.p, .ag] x) w k = fits_book_asked_b fits_world x.1 x.2 w k := by kernel_rfl
def fits_book_asked (b_0 : Option Addr) (s_1 : Array Value) (w : World) (k : (Bool) → World → Prop) : Prop := fits_book_asked_b fits_world b_0 s_1 w k
def d_fits_book_asked : Dec := fun args w c => unL [.p, .ag] args fun x => fits_book_asked x.1 x.2 w fun r w => c (packV (valL [.b] r)) w
theorem s_fits_book_asked : Sound Go.Proofs.Tryz.prog n_fits_book_asked d_fits_book_asked :=
 sound_of (mask := 65849) (h := [(2, []), (6, [(5, .a)])]) (ds := [(n_fits_world, d_fits_world)]) mixed Go.Proofs.Tryz.func98 ⟨s_fits_world, trivial⟩
 [.p, .ag] [.b] (by kernel_rfl) (fun x w k => fits_book_asked x.1 x.2 w k) (fun x w k => e_fits_book_asked fits_world x w k)
def code_Point (op_0 : Int) (w : World) (k : (Bool) → World → Prop) : Prop :=
 joinP (S := Bool) (fun J1 =>
 iteB (op_0 == (6 : Int)) (
 (J1 (op_0 == (6 : Int)) w)) (
 iteB (op_0 == (7 : Int)) (
 (J1 (op_0 == (7 : Int)) w)) (
 iteB (op_0 == (8 : Int)) (
 (J1 (op_0 == (8 : Int)) w)) (
 iteB (op_0 == (9 : Int)) (
 (J1 (op_0 == (9 : Int)) w)) (
 iteB (op_0 == (10 : Int)) (
 (J1 (op_0 == (10 : Int)) w)) (
 iteB (op_0 == (11 : Int)) (
 (J1 (op_0 == (11 : Int)) w)) (
 iteB (op_0 == (12 : Int)) (
 (J1 (op_0 == (12 : Int)) w)) (
 (J1 (op_0 == (14 : Int)) w))))))))) fun b2 w3 =>
 iteB b2 (
 (k true w3)) (
 (k false w3))
def d_code_Point : Dec := fun args w c => unL [(.i .i64)] args fun x => code_Point x w fun r w => c (packV (valL [.b] r)) w
theorem s_code_Point : Sound Go.Proofs.Tryz.prog n_code_Point d_code_Point :=
 sound_of (mask := 29) (h := [(4, [(4, .b)])]) (ds := []) mixed Go.Proofs.Tryz.func47 trivial
 [(.i .i64)] [.b] (by kernel_rfl) (fun x w k => code_Point x w k) (fun x w k => by kernel_rfl)
def fits_run_ends_b (frame_Frame_Next : Array Value → Array Value → World → ((Array Value × Int) → World → Prop) → Prop) (fits_book_asked : Option Addr → Array Value → World → ((Bool) → World → Prop) → Prop) (code_Point : Int → World → ((Bool) → World → Prop) → Prop) (r_0 : Option Addr) (in_1 : Array Value) (w : World) (k : (Bool) → World → Prop) : Prop :=
 newC w in_1 82 fun a1 w2 =>
 drew w2 fun w3 =>
 nn r_0 fun a4 =>
 ldP w3 (Addr.add a4 0) fun p5 =>
 nn p5 fun a6 =>
 ldS w3 (Addr.add a6 1) fun s7 =>
 nn r_0 fun a8 =>
 ldI .i64 w3 (Addr.add a8 20) fun i9 =>
 ixS s7 i9 7 fun a10 =>
 ldA 7 w3 a10 fun cs11 =>
 newC w3 ltFu12 40 fun a12 w13 =>
 samec 7 a10 w3 w13 (
 samec 1 (Addr.add a8 20) w3 w13 (
 samec 1 (Addr.add a6 1) w3 w13 (
 samec 1 (Addr.add a4 0) w3 w13 (
 stA 7 w13 a12 cs11 fun w14 =>
 ldI .i64 w14 (Addr.add a12 3) fun i15 =>
 joinP (S := Bool) (fun J16 =>
 iteB (i15 == (2 : Int)) (
 (J16 (i15 == (2 : Int)) w14)) (
 (J16 (i15 == (3 : Int)) w14))) fun b17 w18 =>
 iteB b17 (
 drew w18 fun w19 =>
 nn r_0 fun a20 =>
 ldI .i64 w19 (Addr.add a20 26) fun i21 =>
 ldI .i64 w19 (Addr.add a12 3) fun i22 =>
 iteB (i21 == i22) (
 nn r_0 fun a23 =>
 ldI .i64 w19 (Addr.add a23 27) fun i24 =>
 ldI .i64 w19 (Addr.add a12 4) fun i25 =>
 (k (i24 == i25) w19)) (
 (k false w19))) (
 iteB (i15 == (4 : Int)) (
 joinP (S := (Addr × Int)) (fun J26 =>
 drew w18 fun w27 =>
 nn r_0 fun a28 =>
 ldA 19 w27 (Addr.add a28 1) fun cs29 =>
 nn r_0 fun a30 =>
 ldP w27 (Addr.add a30 0) fun p31 =>
 nn p31 fun a32 =>
 ldA 1 w27 (Addr.add a32 0) fun cs33 =>
 both (
 frame_Frame_Next cs29 cs33 w27 fun x34 w35 =>
 newC w35 ltFu11 42 fun a36 w37 =>
 samec 1 (Addr.add a32 0) w27 w37 (
 samec 1 (Addr.add a30 0) w27 w37 (
 samec 19 (Addr.add a28 1) w27 w37 (
 stA 5 w37 a36 (x34.1, x34.2).1 fun w38 =>
 (J26 (a36, (x34.1, x34.2).2) w38))))) (
 newC w27 ltFu11 42 fun a39 w40 =>
 samec 1 (Addr.add a32 0) w27 w40 (
 samec 1 (Addr.add a30 0) w27 w40 (
 samec 19 (Addr.add a28 1) w27 w40 (
 frame_Frame_Next cs29 cs33 w40 fun x41 w42 =>
 stA 5 w42 a39 (x41.1, x41.2).1 fun w43 =>
 (J26 (a39, (x41.1, x41.2).2) w43)))))) fun x44 w45 =>
 joinP (S := Bool) (fun J46 =>
 drew w45 fun w47 =>
 nn r_0 fun a48 =>
 ldI .i64 w47 (Addr.add a48 26) fun i49 =>
 iteB (i49 != (0 : Int)) (
 (J46 true w47)) (
 nn r_0 fun a50 =>
 ldP w47 (Addr.add a50 0) fun p51 =>
 nn p51 fun a52 =>
 ldB w47 (Addr.add a52 2) fun b53 =>
 iteB b53 (
 nn r_0 fun a54 =>
 ldP w47 (Addr.add a54 0) fun p55 =>
 ldA 2 w47 a1 fun cs56 =>
 fits_book_asked p55 cs56 w47 fun b57 w58 =>
 (J46 (!b57) w58)) (
 (J46 false w47)))) fun b59 w60 =>
 iteB b59 (
 (k false w60)) (
 ldI .i64 w60 (Addr.add a12 5) fun i61 =>
 iteB (i61 == (0 : Int)) (
 (k true w60)) (
 iteB (x44.2 == (0 : Int)) (
 ldI .i64 w60 (Addr.add x44.1 0) fun i62 =>
 code_Point i62 w60 fun b63 w64 =>
 (k b63 w64)) (
 (k false w60))))) (
 (k true w18)))))))
theorem e_fits_run_ends (frame_Frame_Next : Array Value → Array Value → World → ((Array Value × Int) → World → Prop) → Prop) (fits_book_asked : Option Addr → Array Value → World → ((Bool) → World → Prop) → Prop) (code_Point : Int → World → ((Bool) → World → Prop) → Prop) (x : KT [.p, .ag]) (w : World) (k : KT [.b] → World → Prop) : evFn Go.Proofs.Tryz.prog (orcOf [(n_frame_Frame_Next, (fun args w c => unL [.ag, .ag] args fun x => frame_Frame_Next x.1 x.2 w fun r w => c (packV (valL [.ag, (.i .i64)] r)) w)), (n_fits_book_asked, (fun args w c => unL [.p, .ag] args fun x => fits_book_asked x.1 x.2 w fun r w => c (packV (valL [.b] r)) w)), (n_code_Point, (fun args w c => unL [(.i .i64)] args fun x => code_Point x w fun r w => c (packV (valL [.b] r)) w))]) 2417851639233656408506617 [(5, [(23, .b)]), (11, [(6, .a), (7, (.i .i64))]), (12, [(81, .b)])] Go.Proofs.Tryz.f63 [.b] (valL [.p, .ag] x) w k = fits_run_ends_b frame_Frame_Next fits_book_asked code_Point x.1 x.2 w k := by kernel_rfl
def fits_run_ends (r_0 : Option Addr) (in_1 : Array Value) (w : World) (k : (Bool) → World → Prop) : Prop := fits_run_ends_b frame_Frame_Next fits_book_asked code_Point r_0 in_1 w k
def d_fits_run_ends : Dec := fun args w c => unL [.p, .ag] args fun x => fits_run_ends x.1 x.2 w fun r w => c (packV (valL [.b] r)) w
theorem s_fits_run_ends : Sound Go.Proofs.Tryz.prog n_fits_run_ends d_fits_run_ends :=
 sound_of (mask := 2417851639233656408506617) (h := [(5, [(23, .b)]), (11, [(6, .a), (7, (.i .i64))]), (12, [(81, .b)])]) (ds := [(n_frame_Frame_Next, d_frame_Frame_Next), (n_fits_book_asked, d_fits_book_asked), (n_code_Point, d_code_Point)]) mixed Go.Proofs.Tryz.func63 ⟨s_frame_Frame_Next, s_fits_book_asked, s_code_Point, trivial⟩
 [.p, .ag] [.b] (by kernel_rfl) (fun x w k => fits_run_ends x.1 x.2 w k) (fun x w k => e_fits_run_ends frame_Frame_Next fits_book_asked code_Point x w k)
def fits_book_fits_b (I : OrcI) (table_Kids : Sl → Int → World → ((Sl) → World → Prop) → Prop) (fits_run_step : Option Addr → World → ((Bool) → World → Prop) → Prop) (fits_run_ends : Option Addr → Array Value → World → ((Bool) → World → Prop) → Prop) (b_0 : Option Addr) (i_1 : Int) (w : World) (k : (Bool) → World → Prop) : Prop :=
 joinP (S := (Addr × Addr)) (fun J1 =>
 drew w fun w2 =>
 nn b_0 fun a3 =>
 ldS w2 (Addr.add a3 1) fun s4 =>
 ixS s4 i_1 7 fun a5 =>
 ldA 7 w2 a5 fun cs6 =>
 nn b_0 fun a7 =>
 ldM w2 (Addr.add a7 3) fun p8 =>
 both (
 Go.Ev.look Go.Proofs.Tryz.prog 86 (.map p8) (.int .i64 i_1) false w2 fun v9 w10 =>
 toA v9 fun cs11 =>
 samec 7 a5 w2 w10 (
 samec 1 (Addr.add a3 1) w2 w10 (
 both (
 newC w10 ltFu12 40 fun a12 w13 =>
 samec 1 (Addr.add a7 3) w2 w13 (
 samec 7 a5 w2 w13 (
 samec 1 (Addr.add a3 1) w2 w13 (
 newC w13 ltFu13 85 fun a14 w15 =>
 samec 1 (Addr.add a7 3) w2 w15 (
 samec 7 a5 w2 w15 (
 samec 1 (Addr.add a3 1) w2 w15 (
 stA 7 w15 a12 cs6 fun w16 =>
 samec 1 (Addr.add a7 3) w2 w16 (
 stA 21 w16 a14 cs11 fun w17 =>
 (J1 (a12, a14) w17))))))))) (
 newC w10 ltFu13 85 fun a18 w19 =>
 samec 1 (Addr.add a7 3) w2 w19 (
 samec 7 a5 w2 w19 (
 samec 1 (Addr.add a3 1) w2 w19 (
 newC w19 ltFu12 40 fun a20 w21 =>
 samec 1 (Addr.add a7 3) w2 w21 (
 samec 7 a5 w2 w21 (
 samec 1 (Addr.add a3 1) w2 w21 (
 stA 7 w21 a20 cs6 fun w22 =>
 samec 1 (Addr.add a7 3) w2 w22 (
 stA 21 w22 a18 cs11 fun w23 =>
 (J1 (a20, a18) w23)))))))))))) (
 both (
 newC w2 ltFu12 40 fun a24 w25 =>
 samec 1 (Addr.add a7 3) w2 w25 (
 samec 7 a5 w2 w25 (
 samec 1 (Addr.add a3 1) w2 w25 (
 both (
 Go.Ev.look Go.Proofs.Tryz.prog 86 (.map p8) (.int .i64 i_1) false w25 fun v26 w27 =>
 toA v26 fun cs28 =>
 samec 7 a5 w2 w27 (
 samec 1 (Addr.add a3 1) w2 w27 (
 newC w27 ltFu13 85 fun a29 w30 =>
 samec 1 (Addr.add a7 3) w2 w30 (
 samec 7 a5 w2 w30 (
 samec 1 (Addr.add a3 1) w2 w30 (
 stA 7 w30 a24 cs6 fun w31 =>
 samec 1 (Addr.add a7 3) w2 w31 (
 stA 21 w31 a29 cs28 fun w32 =>
 (J1 (a24, a29) w32)))))))) (
 newC w25 ltFu13 85 fun a33 w34 =>
 samec 1 (Addr.add a7 3) w2 w34 (
 samec 7 a5 w2 w34 (
 samec 1 (Addr.add a3 1) w2 w34 (
 both (
 Go.Ev.look Go.Proofs.Tryz.prog 86 (.map p8) (.int .i64 i_1) false w34 fun v35 w36 =>
 toA v35 fun cs37 =>
 samec 7 a5 w2 w36 (
 samec 1 (Addr.add a3 1) w2 w36 (
 stA 7 w36 a24 cs6 fun w38 =>
 samec 1 (Addr.add a7 3) w2 w38 (
 stA 21 w38 a33 cs37 fun w39 =>
 (J1 (a24, a33) w39))))) (
 stA 7 w34 a24 cs6 fun w40 =>
 samec 1 (Addr.add a7 3) w2 w40 (
 Go.Ev.look Go.Proofs.Tryz.prog 86 (.map p8) (.int .i64 i_1) false w40 fun v41 w42 =>
 toA v41 fun cs43 =>
 samec 7 a5 w2 w42 (
 samec 1 (Addr.add a3 1) w2 w42 (
 stA 21 w42 a33 cs43 fun w44 =>
 (J1 (a24, a33) w44))))))))))))) (
 newC w2 ltFu13 85 fun a45 w46 =>
 samec 1 (Addr.add a7 3) w2 w46 (
 samec 7 a5 w2 w46 (
 samec 1 (Addr.add a3 1) w2 w46 (
 both (
 Go.Ev.look Go.Proofs.Tryz.prog 86 (.map p8) (.int .i64 i_1) false w46 fun v47 w48 =>
 toA v47 fun cs49 =>
 samec 7 a5 w2 w48 (
 samec 1 (Addr.add a3 1) w2 w48 (
 newC w48 ltFu12 40 fun a50 w51 =>
 samec 1 (Addr.add a7 3) w2 w51 (
 samec 7 a5 w2 w51 (
 samec 1 (Addr.add a3 1) w2 w51 (
 stA 7 w51 a50 cs6 fun w52 =>
 samec 1 (Addr.add a7 3) w2 w52 (
 stA 21 w52 a45 cs49 fun w53 =>
 (J1 (a50, a45) w53)))))))) (
 newC w46 ltFu12 40 fun a54 w55 =>
 samec 1 (Addr.add a7 3) w2 w55 (
 samec 7 a5 w2 w55 (
 samec 1 (Addr.add a3 1) w2 w55 (
 both (
 Go.Ev.look Go.Proofs.Tryz.prog 86 (.map p8) (.int .i64 i_1) false w55 fun v56 w57 =>
 toA v56 fun cs58 =>
 samec 7 a5 w2 w57 (
 samec 1 (Addr.add a3 1) w2 w57 (
 stA 7 w57 a54 cs6 fun w59 =>
 samec 1 (Addr.add a7 3) w2 w59 (
 stA 21 w59 a45 cs58 fun w60 =>
 (J1 (a54, a45) w60))))) (
 stA 7 w55 a54 cs6 fun w61 =>
 samec 1 (Addr.add a7 3) w2 w61 (
 Go.Ev.look Go.Proofs.Tryz.prog 86 (.map p8) (.int .i64 i_1) false w61 fun v62 w63 =>
 toA v62 fun cs64 =>
 samec 7 a5 w2 w63 (
 samec 1 (Addr.add a3 1) w2 w63 (
 stA 21 w63 a45 cs64 fun w65 =>
 (J1 (a54, a45) w65))))))))))))))) fun x66 w67 =>
 joinP (S := Bool) (fun J68 =>
 ldI .i64 w67 (Addr.add x66.1 2) fun i69 =>
 ldI .i64 w67 (Addr.add (Addr.add x66.2 0) 0) fun i70 =>
 iteB (i69 != i70) (
 (J68 true w67)) (
 ldI .i64 w67 (Addr.add x66.1 1) fun i71 =>
 ldI .i64 w67 (Addr.add (Addr.add x66.2 19) 1) fun i72 =>
 (J68 (i71 != i72) w67))) fun b73 w74 =>
 iteB b73 (
 (k false w74)) (
 ldI .i64 w74 (Addr.add x66.1 3) fun i75 =>
 iteB (i75 == (0 : Int)) (
 (k true w74)) (
 joinP (S := (Option Addr)) (fun J76 =>
 drew w74 fun w77 =>
 ldA 19 w77 (Addr.add x66.2 0) fun cs78 =>
 nn b_0 fun a79 =>
 ldS w77 (Addr.add a79 1) fun s80 =>
 ldStr w77 (Addr.add x66.1 6) fun t81 =>
 both (
 table_Kids s80 i_1 w77 fun s82 w83 =>
 samec 1 (Addr.add x66.1 6) w77 w83 (
 samec 19 (Addr.add x66.2 0) w77 w83 (
 samec 1 (Addr.add x66.1 6) w77 w83 (
 samec 1 (Addr.add a79 1) w77 w83 (
 samec 19 (Addr.add x66.2 0) w77 w83 (
 spl #[(.pointer b_0), (.int .i64 (0 : Int)), (.int .i64 (0 : Int)), (.int .i64 (0 : Int)), (.int .i64 (0 : Int)), (.int .i64 (0 : Int)), (.int .i64 (0 : Int)), (.int .i64 (0 : Int)), (.int .i64 (0 : Int)), (.int .i64 (0 : Int)), (.int .i64 (0 : Int)), (.int .i64 (0 : Int)), (.int .i64 (0 : Int)), (.int .i64 (0 : Int)), (.int .i64 (0 : Int)), (.int .i64 (0 : Int)), (.int .i64 (0 : Int)), (.int .i64 (0 : Int)), (.int .i64 (0 : Int)), (.int .i64 (0 : Int)), (.int .i64 (0 : Int)), (.slice none 0 0), (.string (ByteArray.mk #[])), (.int .i64 (0 : Int)), (.int .i64 (0 : Int)), (.int .i64 (0 : Int)), (.int .i64 (0 : Int)), (.int .i64 (0 : Int))] 1 19 cs78 fun cs84 =>
 spl (Array.setIfInBounds (Array.setIfInBounds (Array.setIfInBounds cs84 20 (.int .i64 i_1)) 21 (.slice s82.a s82.n s82.c)) 22 (.string t81)) 23 2 #[(.int .i64 i_1), (.int .i64 (0 : Int))] fun cs85 =>
 newC w83 cs85 115 fun a86 w87 =>
 (J76 (some a86) w87))))))) (
 samec 1 (Addr.add x66.1 6) w77 w77 (
 samec 1 (Addr.add a79 1) w77 w77 (
 samec 19 (Addr.add x66.2 0) w77 w77 (
 table_Kids s80 i_1 w77 fun s88 w89 =>
 samec 1 (Addr.add x66.1 6) w77 w89 (
 samec 19 (Addr.add x66.2 0) w77 w89 (
 spl #[(.pointer b_0), (.int .i64 (0 : Int)), (.int .i64 (0 : Int)), (.int .i64 (0 : Int)), (.int .i64 (0 : Int)), (.int .i64 (0 : Int)), (.int .i64 (0 : Int)), (.int .i64 (0 : Int)), (.int .i64 (0 : Int)), (.int .i64 (0 : Int)), (.int .i64 (0 : Int)), (.int .i64 (0 : Int)), (.int .i64 (0 : Int)), (.int .i64 (0 : Int)), (.int .i64 (0 : Int)), (.int .i64 (0 : Int)), (.int .i64 (0 : Int)), (.int .i64 (0 : Int)), (.int .i64 (0 : Int)), (.int .i64 (0 : Int)), (.int .i64 (0 : Int)), (.slice none 0 0), (.string (ByteArray.mk #[])), (.int .i64 (0 : Int)), (.int .i64 (0 : Int)), (.int .i64 (0 : Int)), (.int .i64 (0 : Int)), (.int .i64 (0 : Int))] 1 19 cs78 fun cs90 =>
 spl (Array.setIfInBounds (Array.setIfInBounds (Array.setIfInBounds cs90 20 (.int .i64 i_1)) 21 (.slice s88.a s88.n s88.c)) 22 (.string t81)) 23 2 #[(.int .i64 i_1), (.int .i64 (0 : Int))] fun cs91 =>
 newC w89 cs91 115 fun a92 w93 =>
 (J76 (some a92) w93)))))))) fun p94 w95 =>
 drew w95 fun w96 =>
 nn b_0 fun a97 =>
 ldM w96 (Addr.add a97 4) fun p98 =>
 nn p94 fun a99 =>
 ldA 2 w96 (Addr.add a99 23) fun cs100 =>
 ldA 2 w96 (Addr.add x66.2 19) fun cs101 =>
 spl #[(.int .i64 (0 : Int)), (.int .i64 (0 : Int)), (.bool false)] 0 2 cs101 fun cs102 =>
 samec 2 (Addr.add a99 23) w96 w96 (
 samec 1 (Addr.add a97 4) w96 w96 (
 mapPut Go.Proofs.Tryz.prog 87 (.map p98) (.agg cs100) (.agg cs102) w96 fun w103 =>
 loopP (S := ((Bool × Int) × List Nat)) (fun C104 x105 w106 =>
 ldI .i64 w106 (Addr.add x66.1 5) fun i107 =>
 iteB (decide (x105.1.2 < i107)) (
 fits_run_step p94 w106 fun b108 w109 =>
 iteB (!b108) (
 takeP x105.2 w109 fun w110 =>
 (k x105.1.1 w110)) (
 (C104 ((x105.1.1, (IntKind.wrap .i64 (x105.1.2 + (1 : Int)))), x105.2) w109))) (
 joinP (S := Bool) (fun J111 =>
 nn p94 fun a112 =>
 ldS w106 (Addr.add a112 21) fun s113 =>
 iteB (((s113.n : Nat) : Int) == (0 : Int)) (
 nn p94 fun a114 =>
 ldStr w106 (Addr.add a114 22) fun t115 =>
 iteB (strEqB t115 (ByteArray.mk #[])) (
 ldA 2 w106 (Addr.add x66.2 19) fun cs116 =>
 fits_run_ends p94 cs116 w106 fun b117 w118 =>
 (J111 b117 w118)) (
 (J111 false w106))) (
 (J111 false w106))) fun b119 w120 =>
 takeP x105.2 w120 fun w121 =>
 (k b119 w121))) ((false, (0 : Int)), []) w103))))
theorem e_fits_book_fits (I : OrcI) (table_Kids : Sl → Int → World → ((Sl) → World → Prop) → Prop) (fits_run_step : Option Addr → World → ((Bool) → World → Prop) → Prop) (fits_run_ends : Option Addr → Array Value → World → ((Bool) → World → Prop) → Prop) (x : KT [.p, (.i .i64)]) (w : World) (k : KT [.b] → World → Prop) : evFn2 Go.Proofs.Tryz.prog (orcOf [(n_table_Kids, (fun args w c => unL [.s, (.i .i64)] args fun x => table_Kids x.1 x.2 w fun r w => c (packV (valL [.s] r)) w)), (n_fits_run_step, (fun args w c => unL [.p] args fun x => fits_run_step x w fun r w => c (packV (valL [.b] r)) w)), (n_fits_run_ends, (fun args w c => unL [.p, .ag] args fun x => fits_run_ends x.1 x.2 w fun r w => c (packV (valL [.b] r)) w))]) I 10625324587075177022451 [(1, [(8, .b), (9, (.i .i64))]), (2, [(5, .a), (6, .a)]), (3, [(36, .b)]), (9, [(7, .p)]), (18, [(8, .b)])] Go.Proofs.Tryz.f37 [.b] (valL [.p, (.i .i64)] x) w k = fits_book_fits_b I table_Kids fits_run_step fits_run_ends x.1 x.2 w k := by kernel_rfl
def fits_book_fits (b_0 : Option Addr) (i_1 : Int) (w : World) (k : (Bool) → World → Prop) : Prop := fits_book_fits_b (orcI []) table_Kids fits_run_step fits_run_ends b_0 i_1 w k
def d_fits_book_fits : Dec := fun args w c => unL [.p, (.i .i64)] args fun x => fits_book_fits x.1 x.2 w fun r w => c (packV (valL [.b] r)) w
theorem s_fits_book_fits : Sound Go.Proofs.Tryz.prog n_fits_book_fits d_fits_book_fits :=
 sound_of2 (mask := 10625324587075177022451) (h := [(1, [(8, .b), (9, (.i .i64))]), (2, [(5, .a), (6, .a)]), (3, [(36, .b)]), (9, [(7, .p)]), (18, [(8, .b)])]) mixed Go.Proofs.Tryz.func37 (orc_ok (l := [(n_table_Kids, d_table_Kids), (n_fits_run_step, d_fits_run_step), (n_fits_run_ends, d_fits_run_ends)]) ⟨s_table_Kids, s_fits_run_step, s_fits_run_ends, trivial⟩) (orcI_ok (l := []) trivial)
 [.p, (.i .i64)] [.b] (by kernel_rfl) (fun x w k => fits_book_fits x.1 x.2 w k) (fun x w k => e_fits_book_fits (orcI []) table_Kids fits_run_step fits_run_ends x w k)
def fits_all_2_b (fits_book_fits : Option Addr → Int → World → ((Bool) → World → Prop) → Prop) (i_0 : Int) (_1 : Addr) (w : World) (k : (Bool) → World → Prop) : Prop :=
 ldP w _1 fun p1 =>
 fits_book_fits p1 i_0 w fun b2 w3 =>
 (k b2 w3)
theorem e_fits_all_2 (fits_book_fits : Option Addr → Int → World → ((Bool) → World → Prop) → Prop) (x : KT [(.i .i64), .a]) (w : World) (k : KT [.b] → World → Prop) : evFn Go.Proofs.Tryz.prog (orcOf [(n_fits_book_fits, (fun args w c => unL [.p, (.i .i64)] args fun x => fits_book_fits x.1 x.2 w fun r w => c (packV (valL [.b] r)) w))]) 11 [] Go.Proofs.Tryz.f36 [.b] (valL [(.i .i64), .a] x) w k = fits_all_2_b fits_book_fits x.1 x.2 w k := by kernel_rfl
def fits_all_2 (i_0 : Int) (_1 : Addr) (w : World) (k : (Bool) → World → Prop) : Prop := fits_all_2_b fits_book_fits i_0 _1 w k
def d_fits_all_2 : Dec := fun args w c => unL [(.i .i64), .a] args fun x => fits_all_2 x.1 x.2 w fun r w => c (packV (valL [.b] r)) w
theorem s_fits_all_2 : Sound Go.Proofs.Tryz.prog n_fits_all_2 d_fits_all_2 :=
 sound_of (mask := 11) (h := []) (ds := [(n_fits_book_fits, d_fits_book_fits)]) mixed Go.Proofs.Tryz.func36 ⟨s_fits_book_fits, trivial⟩
 [(.i .i64), .a] [.b] (by kernel_rfl) (fun x w k => fits_all_2 x.1 x.2 w k) (fun x w k => e_fits_all_2 fits_book_fits x w k)
def fits_all_1_b (fits_all_2 : Int → Addr → World → ((Bool) → World → Prop) → Prop) (right_0 : Value) (_1 : Addr) (w : World) (k : (Int × Int) → World → Prop) : Prop :=
 ldS w _1 fun s1 =>
 loopP (S := Int) (fun C2 i3 w4 =>
 iteB (decide (i3 < ((s1.n : Nat) : Int))) (
 callF (orcOf [(n_fits_all_2, (fun args w c => unL [(.i .i64), .a] args fun x => fits_all_2 x.1 x.2 w fun r w => c (packV (valL [.b] r)) w))]) right_0 #[(.int .i64 i3)] w4 fun v5 w6 =>
 toB v5 fun b7 =>
 iteB (!b7) (
 (k (i3, (25 : Int)) w6)) (
 (C2 (IntKind.wrap .i64 (i3 + (1 : Int))) w6))) (
 (k ((0 : Int), (0 : Int)) w4))) (0 : Int) w
theorem e_fits_all_1 (fits_all_2 : Int → Addr → World → ((Bool) → World → Prop) → Prop) (x : KT [.raw, .a]) (w : World) (k : KT [(.i .i64), (.i .i64)] → World → Prop) : evFn Go.Proofs.Tryz.prog (orcOf [(n_fits_all_2, (fun args w c => unL [(.i .i64), .a] args fun x => fits_all_2 x.1 x.2 w fun r w => c (packV (valL [.b] r)) w))]) 17339 [(3, [(8, (.i .i64))])] Go.Proofs.Tryz.f35 [(.i .i64), (.i .i64)] (valL [.raw, .a] x) w k = fits_all_1_b fits_all_2 x.1 x.2 w k := by kernel_rfl
def fits_all_1 (right_0 : Value) (_1 : Addr) (w : World) (k : (Int × Int) → World → Prop) : Prop := fits_all_1_b fits_all_2 right_0 _1 w k
def d_fits_all_1 : Dec := fun args w c => unL [.raw, .a] args fun x => fits_all_1 x.1 x.2 w fun r w => c (packV (valL [(.i .i64), (.i .i64)] r)) w
theorem s_fits_all_1 : Sound Go.Proofs.Tryz.prog n_fits_all_1 d_fits_all_1 :=
 sound_of (mask := 17339) (h := [(3, [(8, (.i .i64))])]) (ds := [(n_fits_all_2, d_fits_all_2)]) mixed Go.Proofs.Tryz.func35 ⟨s_fits_all_2, trivial⟩
 [.raw, .a] [(.i .i64), (.i .i64)] (by kernel_rfl) (fun x w k => fits_all_1 x.1 x.2 w k) (fun x w k => e_fits_all_1 fits_all_2 x w k)
end Go.Proofs.YtgkfbagclkjilaaGreatDoor
namespace Go.Proofs.YtgkfbagclkjilaaGreatDoor
open Go Go.Ev
abbrev ltFu20 : Array Value := #[(.int .i64 (0 : Int)), (.int .i64 (0 : Int)), (.int .i64 (0 : Int)), (.int .i64 (0 : Int)), (.int .i64 (0 : Int)), (.int .i64 (0 : Int)), (.int .i64 (0 : Int)), (.int .i64 (0 : Int)), (.int .i64 (0 : Int)), (.int .i64 (0 : Int)), (.int .i64 (0 : Int)), (.int .i64 (0 : Int)), (.int .i64 (0 : Int)), (.int .i64 (0 : Int)), (.int .i64 (0 : Int)), (.int .i64 (0 : Int)), (.int .i64 (0 : Int)), (.int .i64 (0 : Int)), (.int .i64 (0 : Int)), (.int .i64 (0 : Int)), (.int .i64 (0 : Int))]
def fa_0 (cs13 : Array Value) (w25 : World) (s14 : Sl) (quiet_2 : Bool) (p15 : Option Nat) (p24 : Option Nat) (a3 : Addr) (w12 : World) (a1 : Addr) (J11 : (Addr → World → Prop)) : Prop :=
 both (
 spl #[(.slice none 0 0), (.slice none 0 0), (.bool false), (.map none), (.map none)] 0 1 cs13 fun cs26 =>
 both (
 newC w25 (Array.setIfInBounds (Array.setIfInBounds (Array.setIfInBounds (Array.setIfInBounds cs26 1 (.slice s14.a s14.n s14.c)) 2 (.bool quiet_2)) 3 (.map p15)) 4 (.map p24)) 89 fun a27 w28 =>
 newC w28 #[(.pointer none)] 80 fun a29 w30 =>
 samec 1 a3 w12 w30 (
 samec 1 a1 w12 w30 (
 stC w30 a29 (.pointer (some a27)) fun w31 =>
 (J11 a29 w31)))) (
 newC w25 #[(.pointer none)] 80 fun a32 w33 =>
 samec 1 a3 w12 w33 (
 samec 1 a1 w12 w33 (
 newC w33 (Array.setIfInBounds (Array.setIfInBounds (Array.setIfInBounds (Array.setIfInBounds cs26 1 (.slice s14.a s14.n s14.c)) 2 (.bool quiet_2)) 3 (.map p15)) 4 (.map p24)) 89 fun a34 w35 =>
 stC w35 a32 (.pointer (some a34)) fun w36 =>
 (J11 a32 w36))))) (
 newC w25 #[(.pointer none)] 80 fun a37 w38 =>
 samec 1 a3 w12 w38 (
 samec 1 a1 w12 w38 (
 spl #[(.slice none 0 0), (.slice none 0 0), (.bool false), (.map none), (.map none)] 0 1 cs13 fun cs39 =>
 newC w38 (Array.setIfInBounds (Array.setIfInBounds (Array.setIfInBounds (Array.setIfInBounds cs39 1 (.slice s14.a s14.n s14.c)) 2 (.bool quiet_2)) 3 (.map p15)) 4 (.map p24)) 89 fun a40 w41 =>
 stC w41 a37 (.pointer (some a40)) fun w42 =>
 (J11 a37 w42))))
def fa_1 (p15 : Option Nat) (cs22 : Array Value) (w52 : World) (a3 : Addr) (w12 : World) (a1 : Addr) (cs13 : Array Value) (s14 : Sl) (quiet_2 : Bool) (p51 : Option Nat) (J11 : (Addr → World → Prop)) : Prop :=
 both (
 mapPut Go.Proofs.Tryz.prog 86 (.map p15) (.int .i64 (0 : Int)) (.agg cs22) w52 fun w53 =>
 samec 1 a3 w12 w53 (
 samec 1 a1 w12 w53 (
 fa_0 cs13 w53 s14 quiet_2 p15 p51 a3 w12 a1 J11))) (
 newC w52 #[(.pointer none)] 80 fun a71 w72 =>
 samec 1 a3 w12 w72 (
 samec 1 a1 w12 w72 (
 mapPut Go.Proofs.Tryz.prog 86 (.map p15) (.int .i64 (0 : Int)) (.agg cs22) w72 fun w73 =>
 samec 1 a3 w12 w73 (
 samec 1 a1 w12 w73 (
 spl #[(.slice none 0 0), (.slice none 0 0), (.bool false), (.map none), (.map none)] 0 1 cs13 fun cs74 =>
 newC w73 (Array.setIfInBounds (Array.setIfInBounds (Array.setIfInBounds (Array.setIfInBounds cs74 1 (.slice s14.a s14.n s14.c)) 2 (.bool quiet_2)) 3 (.map p15)) 4 (.map p51)) 89 fun a75 w76 =>
 stC w76 a71 (.pointer (some a75)) fun w77 =>
 (J11 a71 w77))))))
def fa_2 (p15 : Option Nat) (cs22 : Array Value) (w79 : World) (a3 : Addr) (w12 : World) (a1 : Addr) (cs13 : Array Value) (s14 : Sl) (quiet_2 : Bool) (a78 : Addr) (J11 : (Addr → World → Prop)) : Prop :=
 both (
 mapPut Go.Proofs.Tryz.prog 86 (.map p15) (.int .i64 (0 : Int)) (.agg cs22) w79 fun w80 =>
 samec 1 a3 w12 w80 (
 samec 1 a1 w12 w80 (
 mkMap Go.Proofs.Tryz.prog 87 none w80 fun p81 w82 =>
 samec 1 a3 w12 w82 (
 samec 1 a1 w12 w82 (
 spl #[(.slice none 0 0), (.slice none 0 0), (.bool false), (.map none), (.map none)] 0 1 cs13 fun cs83 =>
 newC w82 (Array.setIfInBounds (Array.setIfInBounds (Array.setIfInBounds (Array.setIfInBounds cs83 1 (.slice s14.a s14.n s14.c)) 2 (.bool quiet_2)) 3 (.map p15)) 4 (.map p81)) 89 fun a84 w85 =>
 stC w85 a78 (.pointer (some a84)) fun w86 =>
 (J11 a78 w86)))))) (
 mkMap Go.Proofs.Tryz.prog 87 none w79 fun p87 w88 =>
 samec 1 a3 w12 w88 (
 samec 1 a1 w12 w88 (
 mapPut Go.Proofs.Tryz.prog 86 (.map p15) (.int .i64 (0 : Int)) (.agg cs22) w88 fun w89 =>
 samec 1 a3 w12 w89 (
 samec 1 a1 w12 w89 (
 spl #[(.slice none 0 0), (.slice none 0 0), (.bool false), (.map none), (.map none)] 0 1 cs13 fun cs90 =>
 newC w89 (Array.setIfInBounds (Array.setIfInBounds (Array.setIfInBounds (Array.setIfInBounds cs90 1 (.slice s14.a s14.n s14.c)) 2 (.bool quiet_2)) 3 (.map p15)) 4 (.map p87)) 89 fun a91 w92 =>
 stC w92 a78 (.pointer (some a91)) fun w93 =>
 (J11 a78 w93))))))
def fa_3 (p15 : Option Nat) (cs22 : Array Value) (w20 : World) (a3 : Addr) (w12 : World) (a1 : Addr) (cs13 : Array Value) (s14 : Sl) (quiet_2 : Bool) (J11 : (Addr → World → Prop)) : Prop :=
 both (
 mapPut Go.Proofs.Tryz.prog 86 (.map p15) (.int .i64 (0 : Int)) (.agg cs22) w20 fun w23 =>
 samec 1 a3 w12 w23 (
 samec 1 a1 w12 w23 (
 both (
 mkMap Go.Proofs.Tryz.prog 87 none w23 fun p24 w25 =>
 samec 1 a3 w12 w25 (
 samec 1 a1 w12 w25 (
 fa_0 cs13 w25 s14 quiet_2 p15 p24 a3 w12 a1 J11))) (
 newC w23 #[(.pointer none)] 80 fun a43 w44 =>
 samec 1 a3 w12 w44 (
 samec 1 a1 w12 w44 (
 mkMap Go.Proofs.Tryz.prog 87 none w44 fun p45 w46 =>
 samec 1 a3 w12 w46 (
 samec 1 a1 w12 w46 (
 spl #[(.slice none 0 0), (.slice none 0 0), (.bool false), (.map none), (.map none)] 0 1 cs13 fun cs47 =>
 newC w46 (Array.setIfInBounds (Array.setIfInBounds (Array.setIfInBounds (Array.setIfInBounds cs47 1 (.slice s14.a s14.n s14.c)) 2 (.bool quiet_2)) 3 (.map p15)) 4 (.map p45)) 89 fun a48 w49 =>
 stC w49 a43 (.pointer (some a48)) fun w50 =>
 (J11 a43 w50))))))))) (
 both (
 mkMap Go.Proofs.Tryz.prog 87 none w20 fun p51 w52 =>
 samec 1 a3 w12 w52 (
 samec 1 a1 w12 w52 (
 fa_1 p15 cs22 w52 a3 w12 a1 cs13 s14 quiet_2 p51 J11))) (
 newC w20 #[(.pointer none)] 80 fun a78 w79 =>
 samec 1 a3 w12 w79 (
 samec 1 a1 w12 w79 (
 fa_2 p15 cs22 w79 a3 w12 a1 cs13 s14 quiet_2 a78 J11))))
def fa_4 (cs17 : Array Value) (cs19 : Array Value) (a3 : Addr) (w12 : World) (w95 : World) (a1 : Addr) (p15 : Option Nat) (cs13 : Array Value) (s14 : Sl) (quiet_2 : Bool) (p94 : Option Nat) (J11 : (Addr → World → Prop)) : Prop :=
 both (
 spl ltFu20 0 19 cs17 fun cs96 =>
 spl cs96 19 2 cs19 fun cs97 =>
 samec 1 a3 w12 w95 (
 samec 1 a1 w12 w95 (
 fa_1 p15 cs97 w95 a3 w12 a1 cs13 s14 quiet_2 p94 J11))) (
 newC w95 #[(.pointer none)] 80 fun a123 w124 =>
 samec 1 a3 w12 w124 (
 samec 1 a1 w12 w124 (
 spl ltFu20 0 19 cs17 fun cs125 =>
 spl cs125 19 2 cs19 fun cs126 =>
 samec 1 a3 w12 w124 (
 samec 1 a1 w12 w124 (
 mapPut Go.Proofs.Tryz.prog 86 (.map p15) (.int .i64 (0 : Int)) (.agg cs126) w124 fun w127 =>
 samec 1 a3 w12 w127 (
 samec 1 a1 w12 w127 (
 spl #[(.slice none 0 0), (.slice none 0 0), (.bool false), (.map none), (.map none)] 0 1 cs13 fun cs128 =>
 newC w127 (Array.setIfInBounds (Array.setIfInBounds (Array.setIfInBounds (Array.setIfInBounds cs128 1 (.slice s14.a s14.n s14.c)) 2 (.bool quiet_2)) 3 (.map p15)) 4 (.map p94)) 89 fun a129 w130 =>
 stC w130 a123 (.pointer (some a129)) fun w131 =>
 (J11 a123 w131))))))))
def fa_5 (cs17 : Array Value) (cs19 : Array Value) (a3 : Addr) (w12 : World) (w133 : World) (a1 : Addr) (p15 : Option Nat) (cs13 : Array Value) (s14 : Sl) (quiet_2 : Bool) (a132 : Addr) (J11 : (Addr → World → Prop)) : Prop :=
 both (
 spl ltFu20 0 19 cs17 fun cs134 =>
 spl cs134 19 2 cs19 fun cs135 =>
 samec 1 a3 w12 w133 (
 samec 1 a1 w12 w133 (
 fa_2 p15 cs135 w133 a3 w12 a1 cs13 s14 quiet_2 a132 J11))) (
 mkMap Go.Proofs.Tryz.prog 87 none w133 fun p150 w151 =>
 samec 1 a3 w12 w151 (
 samec 1 a1 w12 w151 (
 spl ltFu20 0 19 cs17 fun cs152 =>
 spl cs152 19 2 cs19 fun cs153 =>
 samec 1 a3 w12 w151 (
 samec 1 a1 w12 w151 (
 mapPut Go.Proofs.Tryz.prog 86 (.map p15) (.int .i64 (0 : Int)) (.agg cs153) w151 fun w154 =>
 samec 1 a3 w12 w154 (
 samec 1 a1 w12 w154 (
 spl #[(.slice none 0 0), (.slice none 0 0), (.bool false), (.map none), (.map none)] 0 1 cs13 fun cs155 =>
 newC w154 (Array.setIfInBounds (Array.setIfInBounds (Array.setIfInBounds (Array.setIfInBounds cs155 1 (.slice s14.a s14.n s14.c)) 2 (.bool quiet_2)) 3 (.map p15)) 4 (.map p150)) 89 fun a156 w157 =>
 stC w157 a132 (.pointer (some a156)) fun w158 =>
 (J11 a132 w158))))))))
def fa_6 (cs17 : Array Value) (cs19 : Array Value) (a3 : Addr) (w12 : World) (w20 : World) (a1 : Addr) (p15 : Option Nat) (cs13 : Array Value) (s14 : Sl) (quiet_2 : Bool) (J11 : (Addr → World → Prop)) : Prop :=
 both (
 spl ltFu20 0 19 cs17 fun cs21 =>
 spl cs21 19 2 cs19 fun cs22 =>
 samec 1 a3 w12 w20 (
 samec 1 a1 w12 w20 (
 fa_3 p15 cs22 w20 a3 w12 a1 cs13 s14 quiet_2 J11))) (
 both (
 mkMap Go.Proofs.Tryz.prog 87 none w20 fun p94 w95 =>
 samec 1 a3 w12 w95 (
 samec 1 a1 w12 w95 (
 fa_4 cs17 cs19 a3 w12 w95 a1 p15 cs13 s14 quiet_2 p94 J11))) (
 newC w20 #[(.pointer none)] 80 fun a132 w133 =>
 samec 1 a3 w12 w133 (
 samec 1 a1 w12 w133 (
 fa_5 cs17 cs19 a3 w12 w133 a1 p15 cs13 s14 quiet_2 a132 J11))))
def fa_7 (fits_world : (World → (Array Value → World → Prop) → Prop)) (w160 : World) (a3 : Addr) (w12 : World) (a1 : Addr) (cs17 : Array Value) (p15 : Option Nat) (cs13 : Array Value) (s14 : Sl) (quiet_2 : Bool) (p159 : Option Nat) (J11 : (Addr → World → Prop)) : Prop :=
 both (
 fits_world w160 fun cs161 w162 =>
 samec 1 a3 w12 w162 (
 samec 1 a1 w12 w162 (
 fa_4 cs17 cs161 a3 w12 w162 a1 p15 cs13 s14 quiet_2 p159 J11))) (
 newC w160 #[(.pointer none)] 80 fun a199 w200 =>
 samec 1 a3 w12 w200 (
 samec 1 a1 w12 w200 (
 fits_world w200 fun cs201 w202 =>
 samec 1 a3 w12 w202 (
 samec 1 a1 w12 w202 (
 spl ltFu20 0 19 cs17 fun cs203 =>
 spl cs203 19 2 cs201 fun cs204 =>
 samec 1 a3 w12 w202 (
 samec 1 a1 w12 w202 (
 mapPut Go.Proofs.Tryz.prog 86 (.map p15) (.int .i64 (0 : Int)) (.agg cs204) w202 fun w205 =>
 samec 1 a3 w12 w205 (
 samec 1 a1 w12 w205 (
 spl #[(.slice none 0 0), (.slice none 0 0), (.bool false), (.map none), (.map none)] 0 1 cs13 fun cs206 =>
 newC w205 (Array.setIfInBounds (Array.setIfInBounds (Array.setIfInBounds (Array.setIfInBounds cs206 1 (.slice s14.a s14.n s14.c)) 2 (.bool quiet_2)) 3 (.map p15)) 4 (.map p159)) 89 fun a207 w208 =>
 stC w208 a199 (.pointer (some a207)) fun w209 =>
 (J11 a199 w209))))))))))
def fa_8 (fits_world : (World → (Array Value → World → Prop) → Prop)) (w211 : World) (a3 : Addr) (w12 : World) (a1 : Addr) (cs17 : Array Value) (p15 : Option Nat) (cs13 : Array Value) (s14 : Sl) (quiet_2 : Bool) (a210 : Addr) (J11 : (Addr → World → Prop)) : Prop :=
 both (
 fits_world w211 fun cs212 w213 =>
 samec 1 a3 w12 w213 (
 samec 1 a1 w12 w213 (
 fa_5 cs17 cs212 a3 w12 w213 a1 p15 cs13 s14 quiet_2 a210 J11))) (
 mkMap Go.Proofs.Tryz.prog 87 none w211 fun p239 w240 =>
 samec 1 a3 w12 w240 (
 samec 1 a1 w12 w240 (
 fits_world w240 fun cs241 w242 =>
 samec 1 a3 w12 w242 (
 samec 1 a1 w12 w242 (
 spl ltFu20 0 19 cs17 fun cs243 =>
 spl cs243 19 2 cs241 fun cs244 =>
 samec 1 a3 w12 w242 (
 samec 1 a1 w12 w242 (
 mapPut Go.Proofs.Tryz.prog 86 (.map p15) (.int .i64 (0 : Int)) (.agg cs244) w242 fun w245 =>
 samec 1 a3 w12 w245 (
 samec 1 a1 w12 w245 (
 spl #[(.slice none 0 0), (.slice none 0 0), (.bool false), (.map none), (.map none)] 0 1 cs13 fun cs246 =>
 newC w245 (Array.setIfInBounds (Array.setIfInBounds (Array.setIfInBounds (Array.setIfInBounds cs246 1 (.slice s14.a s14.n s14.c)) 2 (.bool quiet_2)) 3 (.map p15)) 4 (.map p239)) 89 fun a247 w248 =>
 stC w248 a210 (.pointer (some a247)) fun w249 =>
 (J11 a210 w249))))))))))
def fa_9 (fits_world : (World → (Array Value → World → Prop) → Prop)) (w18 : World) (a3 : Addr) (w12 : World) (a1 : Addr) (cs17 : Array Value) (p15 : Option Nat) (cs13 : Array Value) (s14 : Sl) (quiet_2 : Bool) (J11 : (Addr → World → Prop)) : Prop :=
 both (
 fits_world w18 fun cs19 w20 =>
 samec 1 a3 w12 w20 (
 samec 1 a1 w12 w20 (
 fa_6 cs17 cs19 a3 w12 w20 a1 p15 cs13 s14 quiet_2 J11))) (
 both (
 mkMap Go.Proofs.Tryz.prog 87 none w18 fun p159 w160 =>
 samec 1 a3 w12 w160 (
 samec 1 a1 w12 w160 (
 fa_7 fits_world w160 a3 w12 a1 cs17 p15 cs13 s14 quiet_2 p159 J11))) (
 newC w18 #[(.pointer none)] 80 fun a210 w211 =>
 samec 1 a3 w12 w211 (
 samec 1 a1 w12 w211 (
 fa_8 fits_world w211 a3 w12 a1 cs17 p15 cs13 s14 quiet_2 a210 J11))))
def fa_10 (frame_Root : (World → (Array Value → World → Prop) → Prop)) (w251 : World) (a3 : Addr) (w12 : World) (a1 : Addr) (fits_world : (World → (Array Value → World → Prop) → Prop)) (p15 : Option Nat) (cs13 : Array Value) (s14 : Sl) (quiet_2 : Bool) (p250 : Option Nat) (J11 : (Addr → World → Prop)) : Prop :=
 both (
 frame_Root w251 fun cs252 w253 =>
 samec 1 a3 w12 w253 (
 samec 1 a1 w12 w253 (
 fa_7 fits_world w253 a3 w12 a1 cs252 p15 cs13 s14 quiet_2 p250 J11))) (
 newC w251 #[(.pointer none)] 80 fun a303 w304 =>
 samec 1 a3 w12 w304 (
 samec 1 a1 w12 w304 (
 frame_Root w304 fun cs305 w306 =>
 samec 1 a3 w12 w306 (
 samec 1 a1 w12 w306 (
 fits_world w306 fun cs307 w308 =>
 samec 1 a3 w12 w308 (
 samec 1 a1 w12 w308 (
 spl ltFu20 0 19 cs305 fun cs309 =>
 spl cs309 19 2 cs307 fun cs310 =>
 samec 1 a3 w12 w308 (
 samec 1 a1 w12 w308 (
 mapPut Go.Proofs.Tryz.prog 86 (.map p15) (.int .i64 (0 : Int)) (.agg cs310) w308 fun w311 =>
 samec 1 a3 w12 w311 (
 samec 1 a1 w12 w311 (
 spl #[(.slice none 0 0), (.slice none 0 0), (.bool false), (.map none), (.map none)] 0 1 cs13 fun cs312 =>
 newC w311 (Array.setIfInBounds (Array.setIfInBounds (Array.setIfInBounds (Array.setIfInBounds cs312 1 (.slice s14.a s14.n s14.c)) 2 (.bool quiet_2)) 3 (.map p15)) 4 (.map p250)) 89 fun a313 w314 =>
 stC w314 a303 (.pointer (some a313)) fun w315 =>
 (J11 a303 w315))))))))))))
def fa_11 (frame_Root : (World → (Array Value → World → Prop) → Prop)) (w317 : World) (a3 : Addr) (w12 : World) (a1 : Addr) (fits_world : (World → (Array Value → World → Prop) → Prop)) (p15 : Option Nat) (cs13 : Array Value) (s14 : Sl) (quiet_2 : Bool) (a316 : Addr) (J11 : (Addr → World → Prop)) : Prop :=
 both (
 frame_Root w317 fun cs318 w319 =>
 samec 1 a3 w12 w319 (
 samec 1 a1 w12 w319 (
 fa_8 fits_world w319 a3 w12 a1 cs318 p15 cs13 s14 quiet_2 a316 J11))) (
 mkMap Go.Proofs.Tryz.prog 87 none w317 fun p358 w359 =>
 samec 1 a3 w12 w359 (
 samec 1 a1 w12 w359 (
 frame_Root w359 fun cs360 w361 =>
 samec 1 a3 w12 w361 (
 samec 1 a1 w12 w361 (
 fits_world w361 fun cs362 w363 =>
 samec 1 a3 w12 w363 (
 samec 1 a1 w12 w363 (
 spl ltFu20 0 19 cs360 fun cs364 =>
 spl cs364 19 2 cs362 fun cs365 =>
 samec 1 a3 w12 w363 (
 samec 1 a1 w12 w363 (
 mapPut Go.Proofs.Tryz.prog 86 (.map p15) (.int .i64 (0 : Int)) (.agg cs365) w363 fun w366 =>
 samec 1 a3 w12 w366 (
 samec 1 a1 w12 w366 (
 spl #[(.slice none 0 0), (.slice none 0 0), (.bool false), (.map none), (.map none)] 0 1 cs13 fun cs367 =>
 newC w366 (Array.setIfInBounds (Array.setIfInBounds (Array.setIfInBounds (Array.setIfInBounds cs367 1 (.slice s14.a s14.n s14.c)) 2 (.bool quiet_2)) 3 (.map p15)) 4 (.map p358)) 89 fun a368 w369 =>
 stC w369 a316 (.pointer (some a368)) fun w370 =>
 (J11 a316 w370))))))))))))
def fa_12 (w824 : World) (a3 : Addr) (w12 : World) (a1 : Addr) (cs749 : Array Value) (cs13 : Array Value) (s14 : Sl) (quiet_2 : Bool) (p823 : Option Nat) (J11 : (Addr → World → Prop)) : Prop :=
 both (
 mkMap Go.Proofs.Tryz.prog 86 none w824 fun p825 w826 =>
 samec 1 a3 w12 w826 (
 samec 1 a1 w12 w826 (
 fa_1 p825 cs749 w826 a3 w12 a1 cs13 s14 quiet_2 p823 J11))) (
 newC w824 #[(.pointer none)] 80 fun a852 w853 =>
 samec 1 a3 w12 w853 (
 samec 1 a1 w12 w853 (
 mkMap Go.Proofs.Tryz.prog 86 none w853 fun p854 w855 =>
 samec 1 a3 w12 w855 (
 samec 1 a1 w12 w855 (
 mapPut Go.Proofs.Tryz.prog 86 (.map p854) (.int .i64 (0 : Int)) (.agg cs749) w855 fun w856 =>
 samec 1 a3 w12 w856 (
 samec 1 a1 w12 w856 (
 spl #[(.slice none 0 0), (.slice none 0 0), (.bool false), (.map none), (.map none)] 0 1 cs13 fun cs857 =>
 newC w856 (Array.setIfInBounds (Array.setIfInBounds (Array.setIfInBounds (Array.setIfInBounds cs857 1 (.slice s14.a s14.n s14.c)) 2 (.bool quiet_2)) 3 (.map p854)) 4 (.map p823)) 89 fun a858 w859 =>
 stC w859 a852 (.pointer (some a858)) fun w860 =>
 (J11 a852 w860))))))))
def fa_13 (w862 : World) (a3 : Addr) (w12 : World) (a1 : Addr) (cs749 : Array Value) (cs13 : Array Value) (s14 : Sl) (quiet_2 : Bool) (a861 : Addr) (J11 : (Addr → World → Prop)) : Prop :=
 both (
 mkMap Go.Proofs.Tryz.prog 86 none w862 fun p863 w864 =>
 samec 1 a3 w12 w864 (
 samec 1 a1 w12 w864 (
 fa_2 p863 cs749 w864 a3 w12 a1 cs13 s14 quiet_2 a861 J11))) (
 mkMap Go.Proofs.Tryz.prog 87 none w862 fun p879 w880 =>
 samec 1 a3 w12 w880 (
 samec 1 a1 w12 w880 (
 mkMap Go.Proofs.Tryz.prog 86 none w880 fun p881 w882 =>
 samec 1 a3 w12 w882 (
 samec 1 a1 w12 w882 (
 mapPut Go.Proofs.Tryz.prog 86 (.map p881) (.int .i64 (0 : Int)) (.agg cs749) w882 fun w883 =>
 samec 1 a3 w12 w883 (
 samec 1 a1 w12 w883 (
 spl #[(.slice none 0 0), (.slice none 0 0), (.bool false), (.map none), (.map none)] 0 1 cs13 fun cs884 =>
 newC w883 (Array.setIfInBounds (Array.setIfInBounds (Array.setIfInBounds (Array.setIfInBounds cs884 1 (.slice s14.a s14.n s14.c)) 2 (.bool quiet_2)) 3 (.map p881)) 4 (.map p879)) 89 fun a885 w886 =>
 stC w886 a861 (.pointer (some a885)) fun w887 =>
 (J11 a861 w887))))))))
def fa_14 (w967 : World) (a3 : Addr) (w12 : World) (a1 : Addr) (cs371 : Array Value) (cs606 : Array Value) (cs13 : Array Value) (s14 : Sl) (quiet_2 : Bool) (p888 : Option Nat) (a966 : Addr) (J11 : (Addr → World → Prop)) : Prop :=
 both (
 mkMap Go.Proofs.Tryz.prog 86 none w967 fun p968 w969 =>
 samec 1 a3 w12 w969 (
 samec 1 a1 w12 w969 (
 spl ltFu20 0 19 cs371 fun cs970 =>
 spl cs970 19 2 cs606 fun cs971 =>
 samec 1 a3 w12 w969 (
 samec 1 a1 w12 w969 (
 mapPut Go.Proofs.Tryz.prog 86 (.map p968) (.int .i64 (0 : Int)) (.agg cs971) w969 fun w972 =>
 samec 1 a3 w12 w972 (
 samec 1 a1 w12 w972 (
 spl #[(.slice none 0 0), (.slice none 0 0), (.bool false), (.map none), (.map none)] 0 1 cs13 fun cs973 =>
 newC w972 (Array.setIfInBounds (Array.setIfInBounds (Array.setIfInBounds (Array.setIfInBounds cs973 1 (.slice s14.a s14.n s14.c)) 2 (.bool quiet_2)) 3 (.map p968)) 4 (.map p888)) 89 fun a974 w975 =>
 stC w975 a966 (.pointer (some a974)) fun w976 =>
 (J11 a966 w976)))))))) (
 spl ltFu20 0 19 cs371 fun cs977 =>
 spl cs977 19 2 cs606 fun cs978 =>
 samec 1 a3 w12 w967 (
 samec 1 a1 w12 w967 (
 mkMap Go.Proofs.Tryz.prog 86 none w967 fun p979 w980 =>
 samec 1 a3 w12 w980 (
 samec 1 a1 w12 w980 (
 mapPut Go.Proofs.Tryz.prog 86 (.map p979) (.int .i64 (0 : Int)) (.agg cs978) w980 fun w981 =>
 samec 1 a3 w12 w981 (
 samec 1 a1 w12 w981 (
 spl #[(.slice none 0 0), (.slice none 0 0), (.bool false), (.map none), (.map none)] 0 1 cs13 fun cs982 =>
 newC w981 (Array.setIfInBounds (Array.setIfInBounds (Array.setIfInBounds (Array.setIfInBounds cs982 1 (.slice s14.a s14.n s14.c)) 2 (.bool quiet_2)) 3 (.map p979)) 4 (.map p888)) 89 fun a983 w984 =>
 stC w984 a966 (.pointer (some a983)) fun w985 =>
 (J11 a966 w985))))))))
def fa_15 (w889 : World) (a3 : Addr) (w12 : World) (a1 : Addr) (cs371 : Array Value) (cs606 : Array Value) (cs13 : Array Value) (s14 : Sl) (quiet_2 : Bool) (p888 : Option Nat) (J11 : (Addr → World → Prop)) : Prop :=
 both (
 mkMap Go.Proofs.Tryz.prog 86 none w889 fun p890 w891 =>
 samec 1 a3 w12 w891 (
 samec 1 a1 w12 w891 (
 fa_4 cs371 cs606 a3 w12 w891 a1 p890 cs13 s14 quiet_2 p888 J11))) (
 both (
 spl ltFu20 0 19 cs371 fun cs928 =>
 spl cs928 19 2 cs606 fun cs929 =>
 samec 1 a3 w12 w889 (
 samec 1 a1 w12 w889 (
 fa_12 w889 a3 w12 a1 cs929 cs13 s14 quiet_2 p888 J11))) (
 newC w889 #[(.pointer none)] 80 fun a966 w967 =>
 samec 1 a3 w12 w967 (
 samec 1 a1 w12 w967 (
 fa_14 w967 a3 w12 a1 cs371 cs606 cs13 s14 quiet_2 p888 a966 J11))))
def fa_16 (w987 : World) (a3 : Addr) (w12 : World) (a1 : Addr) (cs371 : Array Value) (cs606 : Array Value) (cs13 : Array Value) (s14 : Sl) (quiet_2 : Bool) (a986 : Addr) (J11 : (Addr → World → Prop)) : Prop :=
 both (
 mkMap Go.Proofs.Tryz.prog 86 none w987 fun p988 w989 =>
 samec 1 a3 w12 w989 (
 samec 1 a1 w12 w989 (
 fa_5 cs371 cs606 a3 w12 w989 a1 p988 cs13 s14 quiet_2 a986 J11))) (
 both (
 spl ltFu20 0 19 cs371 fun cs1015 =>
 spl cs1015 19 2 cs606 fun cs1016 =>
 samec 1 a3 w12 w987 (
 samec 1 a1 w12 w987 (
 fa_13 w987 a3 w12 a1 cs1016 cs13 s14 quiet_2 a986 J11))) (
 mkMap Go.Proofs.Tryz.prog 87 none w987 fun p1042 w1043 =>
 samec 1 a3 w12 w1043 (
 samec 1 a1 w12 w1043 (
 fa_14 w1043 a3 w12 a1 cs371 cs606 cs13 s14 quiet_2 p1042 a986 J11))))
def fa_17 (w1214 : World) (a3 : Addr) (w12 : World) (a1 : Addr) (fits_world : (World → (Array Value → World → Prop) → Prop)) (cs371 : Array Value) (cs13 : Array Value) (s14 : Sl) (quiet_2 : Bool) (p1062 : Option Nat) (a1213 : Addr) (J11 : (Addr → World → Prop)) : Prop :=
 both (
 mkMap Go.Proofs.Tryz.prog 86 none w1214 fun p1215 w1216 =>
 samec 1 a3 w12 w1216 (
 samec 1 a1 w12 w1216 (
 fits_world w1216 fun cs1217 w1218 =>
 samec 1 a3 w12 w1218 (
 samec 1 a1 w12 w1218 (
 spl ltFu20 0 19 cs371 fun cs1219 =>
 spl cs1219 19 2 cs1217 fun cs1220 =>
 samec 1 a3 w12 w1218 (
 samec 1 a1 w12 w1218 (
 mapPut Go.Proofs.Tryz.prog 86 (.map p1215) (.int .i64 (0 : Int)) (.agg cs1220) w1218 fun w1221 =>
 samec 1 a3 w12 w1221 (
 samec 1 a1 w12 w1221 (
 spl #[(.slice none 0 0), (.slice none 0 0), (.bool false), (.map none), (.map none)] 0 1 cs13 fun cs1222 =>
 newC w1221 (Array.setIfInBounds (Array.setIfInBounds (Array.setIfInBounds (Array.setIfInBounds cs1222 1 (.slice s14.a s14.n s14.c)) 2 (.bool quiet_2)) 3 (.map p1215)) 4 (.map p1062)) 89 fun a1223 w1224 =>
 stC w1224 a1213 (.pointer (some a1223)) fun w1225 =>
 (J11 a1213 w1225)))))))))) (
 fits_world w1214 fun cs1226 w1227 =>
 samec 1 a3 w12 w1227 (
 samec 1 a1 w12 w1227 (
 fa_14 w1227 a3 w12 a1 cs371 cs1226 cs13 s14 quiet_2 p1062 a1213 J11)))
def fa_18 (w1063 : World) (a3 : Addr) (w12 : World) (a1 : Addr) (fits_world : (World → (Array Value → World → Prop) → Prop)) (cs371 : Array Value) (cs13 : Array Value) (s14 : Sl) (quiet_2 : Bool) (p1062 : Option Nat) (J11 : (Addr → World → Prop)) : Prop :=
 both (
 mkMap Go.Proofs.Tryz.prog 86 none w1063 fun p1064 w1065 =>
 samec 1 a3 w12 w1065 (
 samec 1 a1 w12 w1065 (
 fa_7 fits_world w1065 a3 w12 a1 cs371 p1064 cs13 s14 quiet_2 p1062 J11))) (
 both (
 fits_world w1063 fun cs1115 w1116 =>
 samec 1 a3 w12 w1116 (
 samec 1 a1 w12 w1116 (
 fa_15 w1116 a3 w12 a1 cs371 cs1115 cs13 s14 quiet_2 p1062 J11))) (
 newC w1063 #[(.pointer none)] 80 fun a1213 w1214 =>
 samec 1 a3 w12 w1214 (
 samec 1 a1 w12 w1214 (
 fa_17 w1214 a3 w12 a1 fits_world cs371 cs13 s14 quiet_2 p1062 a1213 J11))))
def fa_19 (w1247 : World) (a3 : Addr) (w12 : World) (a1 : Addr) (fits_world : (World → (Array Value → World → Prop) → Prop)) (cs371 : Array Value) (cs13 : Array Value) (s14 : Sl) (quiet_2 : Bool) (a1246 : Addr) (J11 : (Addr → World → Prop)) : Prop :=
 both (
 mkMap Go.Proofs.Tryz.prog 86 none w1247 fun p1248 w1249 =>
 samec 1 a3 w12 w1249 (
 samec 1 a1 w12 w1249 (
 fa_8 fits_world w1249 a3 w12 a1 cs371 p1248 cs13 s14 quiet_2 a1246 J11))) (
 both (
 fits_world w1247 fun cs1288 w1289 =>
 samec 1 a3 w12 w1289 (
 samec 1 a1 w12 w1289 (
 fa_16 w1289 a3 w12 a1 cs371 cs1288 cs13 s14 quiet_2 a1246 J11))) (
 mkMap Go.Proofs.Tryz.prog 87 none w1247 fun p1364 w1365 =>
 samec 1 a3 w12 w1365 (
 samec 1 a1 w12 w1365 (
 fa_17 w1365 a3 w12 a1 fits_world cs371 cs13 s14 quiet_2 p1364 a1246 J11))))
def fa_20 (w1650 : World) (a3 : Addr) (w12 : World) (a1 : Addr) (frame_Root : (World → (Array Value → World → Prop) → Prop)) (fits_world : (World → (Array Value → World → Prop) → Prop)) (cs13 : Array Value) (s14 : Sl) (quiet_2 : Bool) (p1397 : Option Nat) (a1649 : Addr) (J11 : (Addr → World → Prop)) : Prop :=
 both (
 mkMap Go.Proofs.Tryz.prog 86 none w1650 fun p1651 w1652 =>
 samec 1 a3 w12 w1652 (
 samec 1 a1 w12 w1652 (
 frame_Root w1652 fun cs1653 w1654 =>
 samec 1 a3 w12 w1654 (
 samec 1 a1 w12 w1654 (
 fits_world w1654 fun cs1655 w1656 =>
 samec 1 a3 w12 w1656 (
 samec 1 a1 w12 w1656 (
 spl ltFu20 0 19 cs1653 fun cs1657 =>
 spl cs1657 19 2 cs1655 fun cs1658 =>
 samec 1 a3 w12 w1656 (
 samec 1 a1 w12 w1656 (
 mapPut Go.Proofs.Tryz.prog 86 (.map p1651) (.int .i64 (0 : Int)) (.agg cs1658) w1656 fun w1659 =>
 samec 1 a3 w12 w1659 (
 samec 1 a1 w12 w1659 (
 spl #[(.slice none 0 0), (.slice none 0 0), (.bool false), (.map none), (.map none)] 0 1 cs13 fun cs1660 =>
 newC w1659 (Array.setIfInBounds (Array.setIfInBounds (Array.setIfInBounds (Array.setIfInBounds cs1660 1 (.slice s14.a s14.n s14.c)) 2 (.bool quiet_2)) 3 (.map p1651)) 4 (.map p1397)) 89 fun a1661 w1662 =>
 stC w1662 a1649 (.pointer (some a1661)) fun w1663 =>
 (J11 a1649 w1663)))))))))))) (
 frame_Root w1650 fun cs1664 w1665 =>
 samec 1 a3 w12 w1665 (
 samec 1 a1 w12 w1665 (
 fa_17 w1665 a3 w12 a1 fits_world cs1664 cs13 s14 quiet_2 p1397 a1649 J11)))
def fits_all_b (check_Accepts : Array Value → World → ((Bool) → World → Prop) → Prop) (table_Check : Sl → World → ((Int) → World → Prop) → Prop) (frame_Root : World → ((Array Value) → World → Prop) → Prop) (fits_world : World → ((Array Value) → World → Prop) → Prop) (fits_all_1 : Value → Addr → World → ((Int × Int) → World → Prop) → Prop) (p_0 : Array Value) (l_1 : Sl) (quiet_2 : Bool) (w : World) (k : (Int × Int) → World → Prop) : Prop := newC w p_0 24 fun a1 w2 =>
 newC w2 #[(.slice l_1.a l_1.n l_1.c)] 25 fun a3 w4 =>
 ldA 1 w4 a1 fun cs5 =>
 check_Accepts cs5 w4 fun b6 w7 =>
 iteB (!b6) ( (k ((0 : Int), (24 : Int)) w7)) ( ldS w7 a3 fun s8 =>
 table_Check s8 w7 fun i9 w10 =>
 iteB (i9 != (0 : Int)) ( (k ((0 : Int), i9) w10)) ( joinP (S := Addr) (fun J11 =>
 drew w10 fun w12 =>
 ldA 1 w12 a1 fun cs13 =>
 ldS w12 a3 fun s14 =>
 both (
 mkMap Go.Proofs.Tryz.prog 86 none w12 fun p15 w16 =>
 samec 1 a3 w12 w16 (
 samec 1 a1 w12 w16 (
 both (
 frame_Root w16 fun cs17 w18 =>
 samec 1 a3 w12 w18 (
 samec 1 a1 w12 w18 (
 fa_9 fits_world w18 a3 w12 a1 cs17 p15 cs13 s14 quiet_2 J11))) (
 both (
 mkMap Go.Proofs.Tryz.prog 87 none w16 fun p250 w251 =>
 samec 1 a3 w12 w251 (
 samec 1 a1 w12 w251 (
 fa_10 frame_Root w251 a3 w12 a1 fits_world p15 cs13 s14 quiet_2 p250 J11))) (
 newC w16 #[(.pointer none)] 80 fun a316 w317 =>
 samec 1 a3 w12 w317 (
 samec 1 a1 w12 w317 (
 fa_11 frame_Root w317 a3 w12 a1 fits_world p15 cs13 s14 quiet_2 a316 J11))))))) (
 both (
 frame_Root w12 fun cs371 w372 =>
 samec 1 a3 w12 w372 (
 samec 1 a1 w12 w372 (
 both (
 mkMap Go.Proofs.Tryz.prog 86 none w372 fun p373 w374 =>
 samec 1 a3 w12 w374 (
 samec 1 a1 w12 w374 (
 fa_9 fits_world w374 a3 w12 a1 cs371 p373 cs13 s14 quiet_2 J11))) (
 both (
 fits_world w372 fun cs606 w607 =>
 samec 1 a3 w12 w607 (
 samec 1 a1 w12 w607 (
 both (
 mkMap Go.Proofs.Tryz.prog 86 none w607 fun p608 w609 =>
 samec 1 a3 w12 w609 (
 samec 1 a1 w12 w609 (
 fa_6 cs371 cs606 a3 w12 w609 a1 p608 cs13 s14 quiet_2 J11))) (
 both (
 spl ltFu20 0 19 cs371 fun cs748 =>
 spl cs748 19 2 cs606 fun cs749 =>
 samec 1 a3 w12 w607 (
 samec 1 a1 w12 w607 (
 both (
 mkMap Go.Proofs.Tryz.prog 86 none w607 fun p750 w751 =>
 samec 1 a3 w12 w751 (
 samec 1 a1 w12 w751 (
 fa_3 p750 cs749 w751 a3 w12 a1 cs13 s14 quiet_2 J11))) (
 both (
 mkMap Go.Proofs.Tryz.prog 87 none w607 fun p823 w824 =>
 samec 1 a3 w12 w824 (
 samec 1 a1 w12 w824 (
 fa_12 w824 a3 w12 a1 cs749 cs13 s14 quiet_2 p823 J11))) (
 newC w607 #[(.pointer none)] 80 fun a861 w862 =>
 samec 1 a3 w12 w862 (
 samec 1 a1 w12 w862 (
 fa_13 w862 a3 w12 a1 cs749 cs13 s14 quiet_2 a861 J11))))))) (
 both (
 mkMap Go.Proofs.Tryz.prog 87 none w607 fun p888 w889 =>
 samec 1 a3 w12 w889 (
 samec 1 a1 w12 w889 (
 fa_15 w889 a3 w12 a1 cs371 cs606 cs13 s14 quiet_2 p888 J11))) (
 newC w607 #[(.pointer none)] 80 fun a986 w987 =>
 samec 1 a3 w12 w987 (
 samec 1 a1 w12 w987 (
 fa_16 w987 a3 w12 a1 cs371 cs606 cs13 s14 quiet_2 a986 J11)))))))) (
 both (
 mkMap Go.Proofs.Tryz.prog 87 none w372 fun p1062 w1063 =>
 samec 1 a3 w12 w1063 (
 samec 1 a1 w12 w1063 (
 fa_18 w1063 a3 w12 a1 fits_world cs371 cs13 s14 quiet_2 p1062 J11))) (
 newC w372 #[(.pointer none)] 80 fun a1246 w1247 =>
 samec 1 a3 w12 w1247 (
 samec 1 a1 w12 w1247 (
 fa_19 w1247 a3 w12 a1 fits_world cs371 cs13 s14 quiet_2 a1246 J11)))))))) (
 both (
 mkMap Go.Proofs.Tryz.prog 87 none w12 fun p1397 w1398 =>
 samec 1 a3 w12 w1398 (
 samec 1 a1 w12 w1398 (
 both (
 mkMap Go.Proofs.Tryz.prog 86 none w1398 fun p1399 w1400 =>
 samec 1 a3 w12 w1400 (
 samec 1 a1 w12 w1400 (
 fa_10 frame_Root w1400 a3 w12 a1 fits_world p1399 cs13 s14 quiet_2 p1397 J11))) (
 both (
 frame_Root w1398 fun cs1465 w1466 =>
 samec 1 a3 w12 w1466 (
 samec 1 a1 w12 w1466 (
 fa_18 w1466 a3 w12 a1 fits_world cs1465 cs13 s14 quiet_2 p1397 J11))) (
 newC w1398 #[(.pointer none)] 80 fun a1649 w1650 =>
 samec 1 a3 w12 w1650 (
 samec 1 a1 w12 w1650 (
 fa_20 w1650 a3 w12 a1 frame_Root fits_world cs13 s14 quiet_2 p1397 a1649 J11))))))) (
 newC w12 #[(.pointer none)] 80 fun a1697 w1698 =>
 samec 1 a3 w12 w1698 (
 samec 1 a1 w12 w1698 (
 both (
 mkMap Go.Proofs.Tryz.prog 86 none w1698 fun p1699 w1700 =>
 samec 1 a3 w12 w1700 (
 samec 1 a1 w12 w1700 (
 fa_11 frame_Root w1700 a3 w12 a1 fits_world p1699 cs13 s14 quiet_2 a1697 J11))) (
 both (
 frame_Root w1698 fun cs1754 w1755 =>
 samec 1 a3 w12 w1755 (
 samec 1 a1 w12 w1755 (
 fa_19 w1755 a3 w12 a1 fits_world cs1754 cs13 s14 quiet_2 a1697 J11))) (
 mkMap Go.Proofs.Tryz.prog 87 none w1698 fun p1905 w1906 =>
 samec 1 a3 w12 w1906 (
 samec 1 a1 w12 w1906 (
 fa_20 w1906 a3 w12 a1 frame_Root fits_world cs13 s14 quiet_2 p1905 a1697 J11)))))))))) fun a1953 w1954 =>
 fits_all_1 (.func (.func n_fits_all_2) #[] #[(.pointer (some a1953))]) a3 w1954 fun x1955 w1956 =>
 (k ((x1955.1, x1955.2).1, (x1955.1, x1955.2).2) w1956)))
 theorem e_fits_all (check_Accepts : Array Value → World → ((Bool) → World → Prop) → Prop) (table_Check : Sl → World → ((Int) → World → Prop) → Prop) (frame_Root : World → ((Array Value) → World → Prop) → Prop) (fits_world : World → ((Array Value) → World → Prop) → Prop) (fits_all_1 : Value → Addr → World → ((Int × Int) → World → Prop) → Prop) (x : KT [.ag, .s, .b]) (w : World) (k : KT [(.i .i64), (.i .i64)] → World → Prop) : evFn Go.Proofs.Tryz.prog (orcOf [(n_check_Accepts, (fun args w c => unL [.ag] args fun x => check_Accepts x w fun r w => c (packV (valL [.b] r)) w)), (n_table_Check, (fun args w c => unL [.s] args fun x => table_Check x w fun r w => c (packV (valL [(.i .i64)] r)) w)), (n_frame_Root, (fun args w c => unL [] args fun x => frame_Root  w fun r w => c (packV (valL [.ag] r)) w)), (n_fits_world, (fun args w c => unL [] args fun x => fits_world  w fun r w => c (packV (valL [.ag] r)) w)), (n_fits_all_1, (fun args w c => unL [.raw, .a] args fun x => fits_all_1 x.1 x.2 w fun r w => c (packV (valL [(.i .i64), (.i .i64)] r)) w))]) 141276 [(8, [(9, .a)])] Go.Proofs.Tryz.f19 [(.i .i64), (.i .i64)] (valL [.ag, .s, .b] x) w k = fits_all_b check_Accepts table_Check frame_Root fits_world fits_all_1 x.1 x.2.1 x.2.2 w k := by kernel_rfl
def fits_all (p_0 : Array Value) (l_1 : Sl) (quiet_2 : Bool) (w : World) (k : (Int × Int) → World → Prop) : Prop := fits_all_b check_Accepts table_Check frame_Root fits_world fits_all_1 p_0 l_1 quiet_2 w k
def d_fits_all : Dec := fun args w c => unL [.ag, .s, .b] args fun x => fits_all x.1 x.2.1 x.2.2 w fun r w => c (packV (valL [(.i .i64), (.i .i64)] r)) w
theorem s_fits_all : Sound Go.Proofs.Tryz.prog n_fits_all d_fits_all :=
 sound_of (mask := 141276) (h := [(8, [(9, .a)])]) (ds := [(n_check_Accepts, d_check_Accepts), (n_table_Check, d_table_Check), (n_frame_Root, d_frame_Root), (n_fits_world, d_fits_world), (n_fits_all_1, d_fits_all_1)]) mixed Go.Proofs.Tryz.func19 ⟨s_check_Accepts, s_table_Check, s_frame_Root, s_fits_world, s_fits_all_1, trivial⟩
 [.ag, .s, .b] [(.i .i64), (.i .i64)] (by kernel_rfl) (fun x w k => fits_all x.1 x.2.1 x.2.2 w k) (fun x w k => e_fits_all check_Accepts table_Check frame_Root fits_world fits_all_1 x w k)
end Go.Proofs.YtgkfbagclkjilaaGreatDoor
