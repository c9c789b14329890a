/-
  What a proof holds of memory, as a list of parts that lie apart: blocks, slices; a rule for each primitive.
-/
import Derived.Test.YtgkfbagclkjilaaEvP
import Derived.Test.YtgkfbagclkjilaaEvT
set_option linter.unusedSimpArgs false
set_option linter.unusedVariables false
namespace Go.Ev
open Go Go.RowKit

/-- a part: which blocks it lies in, and how -/
structure HP where
  p : (Nat → Prop) → World → Prop
  lt : ∀ {F w g}, p F w → F g → g < w.heap.size
  keep : ∀ {F w w'}, p F w → (∀ g, F g → w'.heap[g]? = w.heap[g]?) → p F w'

def sepP : List HP → (Nat → Prop) → World → Prop
  | [], F, _ => ∀ g, ¬ F g
  | R :: L, F, w => ∃ F1 F2, R.p F1 w ∧ sepP L F2 w ∧ (∀ g, F1 g → ¬ F2 g) ∧ ∀ g, F g ↔ (F1 g ∨ F2 g)
theorem sepP_lt : ∀ {L : List HP} {F w g}, sepP L F w → F g → g < w.heap.size
  | [], F, w, g, h, hg => (h g hg).elim
  | R :: L, F, w, g, ⟨F1, F2, h1, h2, _, e⟩, hg => by
    rcases (e g).1 hg with hg | hg
    · exact R.lt h1 hg
    · exact sepP_lt h2 hg
theorem sepP_keep : ∀ {L : List HP} {F w w'}, sepP L F w → (∀ g, F g → w'.heap[g]? = w.heap[g]?) → sepP L F w'
  | [], F, w, w', h, _ => h
  | R :: L, F, w, w', ⟨F1, F2, h1, h2, hd, e⟩, hk =>
    ⟨F1, F2, R.keep h1 fun g hg => hk g ((e g).2 (.inl hg)), sepP_keep h2 fun g hg => hk g ((e g).2 (.inr hg)), hd, e⟩
theorem sepP_iff : ∀ {L : List HP} {F G w}, (∀ g, F g ↔ G g) → sepP L F w → sepP L G w
  | [], F, G, w, hfg, h => fun g hg => h g ((hfg g).2 hg)
  | R :: L, F, G, w, hfg, ⟨F1, F2, h1, h2, hd, e⟩ => ⟨F1, F2, h1, h2, hd, fun g => (hfg g).symm.trans (e g)⟩
theorem sepP_swap {R S : HP} {L : List HP} {F w} (h : sepP (R :: S :: L) F w) : sepP (S :: R :: L) F w := by
  obtain ⟨F1, F2, h1, ⟨F3, F4, h3, h4, hd', e'⟩, hd, e⟩ := h
  refine ⟨F3, fun g => F1 g ∨ F4 g, h3, ⟨F1, F4, h1, h4, fun g hg hg4 => hd g hg ((e' g).2 (.inr hg4)), fun g => Iff.rfl⟩, fun g hg hor => ?_, fun g => ?_⟩
  · rcases hor with h | h
    · exact hd g h ((e' g).2 (.inl hg))
    · exact hd' g hg h
  · rw [e, e']; constructor <;> (intro h; rcases h with h | h | h <;> simp [h])

/-- what a proof holds -/
structure St (w0 w : World) (L : List HP) : Prop where
  ext : Ext w0 w
  sep : ∃ F, sepP L F w ∧ ∀ g, F g → w0.heap.size ≤ g

theorem St.nil (w : World) : St w w [] := ⟨.refl _ _, fun _ => False, fun _ h => h, fun _ h => h.elim⟩
theorem St.of_ext {w0 w : World} (h : Ext w0 w) : St w0 w [] := ⟨h, fun _ => False, fun _ h => h, fun _ h => h.elim⟩
/-- a later world: nothing that was there has turned -/
theorem St.on {w0 w w' : World} {L : List HP} (h : St w0 w L) (he : Ext w w') : St w0 w' L := by
  obtain ⟨h1, F, h2, h3⟩ := h
  exact ⟨h1.trans he, F, sepP_keep h2 fun g hg => he.block g (sepP_lt h2 hg) fun h => h, h3⟩
theorem St.swap {w0 w : World} {R S : HP} {L : List HP} (h : St w0 w (R :: S :: L)) : St w0 w (S :: R :: L) := by
  obtain ⟨h1, F, h2, h3⟩ := h
  exact ⟨h1, F, sepP_swap h2, h3⟩
theorem St.drop {w0 w : World} {R : HP} {L : List HP} (h : St w0 w (R :: L)) : St w0 w L := by
  obtain ⟨h1, F, ⟨F1, F2, h2, h4, h5, e⟩, h3⟩ := h
  exact ⟨h1, F2, h4, fun g hg => h3 g ((e g).2 (.inr hg))⟩
/-- nothing is held any more -/
theorem St.all {w0 w : World} {L : List HP} (h : St w0 w L) : St w0 w [] := St.of_ext h.ext
/-- a new part -/
theorem St.new {w0 w w' : World} {L : List HP} {X : HP} {F' : Nat → Prop} (h : St w0 w L) (he : Ext w w') (hx : X.p F' w') (hf : ∀ g, F' g → w.heap.size ≤ g) : St w0 w' (X :: L) := by
  obtain ⟨h1, F, h2, h3⟩ := h
  refine ⟨h1.trans he, fun g => F' g ∨ F g, ⟨F', F, hx, sepP_keep h2 fun g hg => he.block g (sepP_lt h2 hg) fun h => h, fun g hg hg2 => ?_, fun _ => Iff.rfl⟩, fun g hg => ?_⟩
  · have := hf g hg; have := sepP_lt h2 hg2; omega
  · rcases hg with hg | hg
    · have := hf g hg; have := h1.size; omega
    · exact h3 g hg
/-- a part turns -/
theorem St.turn {w0 w w' : World} {L : List HP} {R X : HP} (h : St w0 w (R :: L)) (hx : ∀ F1, R.p F1 w → Only F1 w w' ∧ ∃ F', X.p F' w' ∧ ∀ g, F' g → F1 g ∨ w.heap.size ≤ g) : St w0 w' (X :: L) := by
  obtain ⟨h1, F, ⟨F1, F2, h2, h4, h5, e⟩, h3⟩ := h
  obtain ⟨ho, F', hx, hf⟩ := hx F1 h2
  have hk2 : sepP L F2 w' := sepP_keep h4 fun g hg => ho.block g (sepP_lt h4 hg) fun h => h5 g h hg
  refine ⟨h1.then ho fun g hg => h3 g ((e g).2 (.inl hg)), fun g => F' g ∨ F2 g, ⟨F', F2, hx, hk2, fun g hg hg2 => ?_, fun _ => Iff.rfl⟩, fun g hg => ?_⟩
  · rcases hf g hg with h | h
    · exact h5 g h hg2
    · have := sepP_lt h4 hg2; omega
  · rcases hg with hg | hg
    · rcases hf g hg with h | h
      · exact h3 g ((e g).2 (.inl h))
      · have := h1.size; omega
    · exact h3 g ((e g).2 (.inr hg))
theorem St.look {w0 w : World} {R : HP} {L : List HP} (h : St w0 w (R :: L)) : ∃ F, R.p F w ∧ ∀ g, F g → w0.heap.size ≤ g := by
  obtain ⟨h1, F, ⟨F1, F2, h2, h4, h5, e⟩, h3⟩ := h
  exact ⟨F1, h2, fun g hg => h3 g ((e g).2 (.inl hg))⟩
/-- from an earlier world's view -/
theorem St.trans {a b c : World} {L : List HP} (h : Ext a b) (k : St b c L) : St a c L := by
  obtain ⟨h1, F, h2, h3⟩ := k
  exact ⟨h.trans h1, F, h2, fun g hg => by have := h3 g hg; have := h.size; omega⟩
/-- a part is another one -/
theorem St.conv {w0 w : World} {R X : HP} {L : List HP} (h : St w0 w (R :: L)) (hx : ∀ F, R.p F w → X.p F w) : St w0 w (X :: L) := by
  obtain ⟨h1, F, ⟨F1, F2, h2, h4, h5, e⟩, h3⟩ := h
  exact ⟨h1, F, ⟨F1, F2, hx F1 h2, h4, h5, e⟩, h3⟩

/-! ### one of the parts -/
class At {α : Type} (L : List HP) (k : α → HP) (x : outParam α) (f : outParam (HP → List HP)) : Prop where
  split : ∃ R, (∀ {F w}, sepP L F w → sepP (k x :: R) F w) ∧ ∀ {X F w}, sepP (X :: R) F w → sepP (f X) F w
instance (priority := high) At.here {α : Type} {L : List HP} {k : α → HP} {x : α} : At (k x :: L) k x (fun X => X :: L) := ⟨⟨L, id, id⟩⟩
instance At.there {α : Type} {L : List HP} {k : α → HP} {x : α} {Y : HP} {f : HP → List HP} [a : At L k x f] : At (Y :: L) k x (fun X => Y :: f X) := by
  constructor
  obtain ⟨R, h1, h2⟩ := a.split
  refine ⟨Y :: R, fun h => sepP_swap ?_, fun h => ?_⟩
  · obtain ⟨F1, F2, k2, k4, k5, e⟩ := h
    exact ⟨F1, F2, k2, h1 k4, k5, e⟩
  · obtain ⟨F1, F2, k2, k4, k5, e⟩ := sepP_swap h
    exact ⟨F1, F2, k2, h2 k4, k5, e⟩
/-- it goes to the front, and back -/
theorem At.out {α : Type} {L : List HP} {k : α → HP} {x : α} {f : HP → List HP} (a : At L k x f) : ∃ R, (∀ {w0 w}, St w0 w L → St w0 w (k x :: R)) ∧ ∀ {X w0 w}, St w0 w (X :: R) → St w0 w (f X) := by
  obtain ⟨R, h1, h2⟩ := a.split
  exact ⟨R, fun ⟨a, F, b, c⟩ => ⟨a, F, h1 b, c⟩, fun ⟨a, F, b, c⟩ => ⟨a, F, h2 b, c⟩⟩
theorem St.look' {α : Type} {w0 w : World} {L : List HP} {k : α → HP} {x : α} {f : HP → List HP} (h : St w0 w L) (a : At L k x f) : ∃ F, (k x).p F w ∧ ∀ g, F g → w0.heap.size ≤ g := by
  obtain ⟨R, h1, h2⟩ := a.out
  exact (h1 h).look
theorem St.turn' {α : Type} {w0 w w' : World} {L : List HP} {k : α → HP} {x : α} {f : HP → List HP} {X : HP} (h : St w0 w L) (a : At L k x f) (hx : ∀ F1, (k x).p F1 w → Only F1 w w' ∧ ∃ F', X.p F' w' ∧ ∀ g, F' g → F1 g ∨ w.heap.size ≤ g) : St w0 w' (f X) := by
  obtain ⟨R, h1, h2⟩ := a.out
  exact h2 ((h1 h).turn hx)
theorem St.conv' {α : Type} {w0 w : World} {L : List HP} {k : α → HP} {x : α} {f : HP → List HP} {X : HP} (h : St w0 w L) (a : At L k x f) (hx : ∀ F, (k x).p F w → X.p F w) : St w0 w (f X) := by
  obtain ⟨R, h1, h2⟩ := a.out
  exact h2 ((h1 h).conv hx)

/-- a part goes to the front -/
theorem sepP_front : ∀ {L : List HP} {n : Nat} {X : HP} {F w}, L[n]? = some X → sepP L F w → sepP (X :: L.eraseIdx n) F w
  | [], n, X, F, w, h, _ => by simp at h
  | R :: L, 0, X, F, w, h, hs => by simp at h; subst h; exact hs
  | R :: L, n + 1, X, F, w, h, ⟨F1, F2, h1, h2, h3, h4⟩ => by
    have := sepP_front (L := L) (n := n) (by simpa using h) h2
    exact sepP_swap ⟨F1, F2, h1, this, h3, h4⟩
theorem St.front {w0 w : World} {L : List HP} (h : St w0 w L) (n : Nat) {X : HP} (e : L[n]? = some X) : St w0 w (X :: L.eraseIdx n) := ⟨h.ext, by obtain ⟨F, h1, h2⟩ := h.sep; exact ⟨F, sepP_front e h1, h2⟩⟩
/-- a part is let go -/
theorem St.rm {w0 w : World} {L : List HP} (h : St w0 w L) (n : Nat) {X : HP} (e : L[n]? = some X) : St w0 w (L.eraseIdx n) := (h.front n e).drop

theorem St.rot2 {w0 w : World} {L : List HP} {A B C D : HP} (h : St w0 w (A :: B :: C :: D :: L)) : St w0 w (C :: D :: A :: B :: L) := by
  have h1 := h.front 3 (X := D) rfl
  simp only [List.eraseIdx] at h1
  have h2 := h1.front 3 (X := C) rfl
  simp only [List.eraseIdx] at h2
  exact h2
theorem samec_self {n : Nat} {a : Addr} {w : World} {c : Prop} (hc : c) : samec n a w w c := ⟨fun _ _ => rfl, hc⟩

/-! ### blocks -/
def blk (g : Nat) (cs : List Value) : HP where
  p F w := (∀ k, F k ↔ k = g) ∧ Blk w g cs.toArray
  lt := fun ⟨e, h⟩ hg => by rw [(e _).1 hg]; exact h.lt
  keep := fun ⟨e, h⟩ hk => ⟨e, by obtain ⟨t, h⟩ := h; exact ⟨t, (hk _ ((e _).2 rfl)).trans h⟩⟩
section
variable {w0 w : World} {L : List HP} {g : Nat} {cs : List Value} {f : HP → List HP}
theorem St.blk (h : St w0 w L) [a : At L (blk g) cs f] : Blk w g cs.toArray := by
  obtain ⟨F, h1, _⟩ := h.look' a
  exact h1.2
theorem St.ge (h : St w0 w L) [a : At L (Ev.blk g) cs f] : w0.heap.size ≤ g := by
  obtain ⟨F, h1, h2⟩ := h.look' a
  exact h2 g ((h1.1 g).2 rfl)
theorem newC_h {a : Array Value} {t : TypeId} {c : Addr → World → Prop} (h : St w0 w L) (hc : ∀ g w', St w0 w' (Ev.blk g a.toList :: L) → c ⟨g, 0, none⟩ w') : newC w a t c :=
  newC_i fun g w' hg hs hb he => hc g w' (h.new he (F' := fun k => k = g) ⟨fun _ => Iff.rfl, hb⟩ fun k hk => by omega)
theorem drew_h {c : World → Prop} (h : St w0 w L) (hc : ∀ w', St w0 w' L → c w') : drew w c := drew_i fun w' _ he => hc w' (h.on he)
theorem stC_h {o : Nat} {v : Value} {c : World → Prop} (h : St w0 w L) [a : At L (Ev.blk g) cs f] (h1 : v.oneCell' = true) (ho : o < cs.length) (hc : ∀ w', St w0 w' (f (Ev.blk g (cs.set o v))) → c w') : stC w ⟨g, o, none⟩ v c := by
  refine stC_i h1 h.blk (by simpa using ho) fun w' hb hs hon => hc w' (h.turn' a fun F1 hF => ⟨hon.mono fun k _ hk => (hF.1 k).2 hk, fun k => k = g, ⟨fun _ => Iff.rfl, ?_⟩, fun k hk => .inl ((hF.1 k).2 hk)⟩)
  rw [List.setIfInBounds_toArray] at hb; exact hb
theorem ldI_h {k : IntKind} {o : Nat} {n : Int} {c : Int → Prop} (h : St w0 w L) [a : At L (Ev.blk g) cs f] (hv : cs[o]? = some (.int k n)) (hc : c n) : ldI k w ⟨g, o, none⟩ c := ldI_i (by rw [h.blk.cell]; simpa using hv) hc
theorem ldB_h {o : Nat} {n : Bool} {c : Bool → Prop} (h : St w0 w L) [a : At L (Ev.blk g) cs f] (hv : cs[o]? = some (.bool n)) (hc : c n) : ldB w ⟨g, o, none⟩ c := ldB_i (by rw [h.blk.cell]; simpa using hv) hc
theorem ldP_h {o : Nat} {n : Option Addr} {c : Option Addr → Prop} (h : St w0 w L) [a : At L (Ev.blk g) cs f] (hv : cs[o]? = some (.pointer n)) (hc : c n) : ldP w ⟨g, o, none⟩ c := ldP_i (by rw [h.blk.cell]; simpa using hv) hc
theorem ldS_h {o : Nat} {p : Option Addr} {n m : Nat} {c : Sl → Prop} (h : St w0 w L) [a : At L (Ev.blk g) cs f] (hv : cs[o]? = some (.slice p n m)) (hc : c ⟨p, n, m⟩) : ldS w ⟨g, o, none⟩ c := ldS_i (s := ⟨p, n, m⟩) (by rw [h.blk.cell]; simpa using hv) hc
theorem ldStr_h {o : Nat} {n : ByteArray} {c : ByteArray → Prop} (h : St w0 w L) [a : At L (Ev.blk g) cs f] (hv : cs[o]? = some (.string n)) (hc : c n) : ldStr w ⟨g, o, none⟩ c := by
  have : w.cell? ⟨g, o, none⟩ = some (.string n) := by rw [h.blk.cell]; simpa using hv
  simp [ldStr, rd, this, toStr, hc]
theorem ldM_h {o : Nat} {n : Option Nat} {c : Option Nat → Prop} (h : St w0 w L) [a : At L (Ev.blk g) cs f] (hv : cs[o]? = some (.map n)) (hc : c n) : ldM w ⟨g, o, none⟩ c := by
  have : w.cell? ⟨g, o, none⟩ = some (.map n) := by rw [h.blk.cell]; simpa using hv
  simp [ldM, rd, this, toM, hc]
theorem ldV_h {o : Nat} {v : Value} {c : Value → Prop} (h : St w0 w L) [a : At L (Ev.blk g) cs f] (hv : cs[o]? = some v) (hc : c v) : ldV w ⟨g, o, none⟩ c := ldV_i (by rw [h.blk.cell]; simpa using hv) hc
theorem ldA_h {n o : Nat} {c : Array Value → Prop} (h : St w0 w L) [a : At L (Ev.blk g) cs f] (hl : o + n ≤ cs.length) (hc : c ((cs.drop o).take n).toArray) : ldA n w ⟨g, o, none⟩ c := ldA_i h.blk (by simpa using hl) hc
/-- a whole block is read -/
theorem ldW_h {n : Nat} {c : Array Value → Prop} (h : St w0 w L) [a : At L (Ev.blk g) cs f] (hl : cs.length = n) (hc : c cs.toArray) : ldA n w ⟨g, 0, none⟩ c := by
  refine ldA_h h (by omega) ?_
  rw [List.drop_zero, List.take_of_length_le (by omega)]; exact hc
theorem stA_h {n o : Nat} {vs : Array Value} {c : World → Prop} (h : St w0 w L) [a : At L (Ev.blk g) cs f] (hn : vs.size = n) (hl : o + n ≤ cs.length) (h1 : ∀ v ∈ vs, v.oneCell' = true)
    (hc : ∀ w', St w0 w' (f (Ev.blk g (cs.take o ++ (vs.toList ++ cs.drop (o + n))))) → c w') : stA n w ⟨g, o, none⟩ vs c := by
  refine stA_i h.blk hn (by simpa using hl) h1 fun w' cs' hb hz hk hv hon hs => hc w' (h.turn' a fun F1 hF => ⟨hon.mono fun k _ hk => (hF.1 k).2 hk, fun k => k = g, ⟨fun _ => Iff.rfl, ?_⟩, fun k hk => .inl ((hF.1 k).2 hk)⟩)
  refine blk_eq hb fun j => ?_
  have hz' : cs'.size = cs.length := by simpa using hz
  simp only [List.getElem?_toArray]
  by_cases h1 : j < o
  · rw [hk j (.inl h1)]
    rw [List.getElem?_append_left (by simp; omega), List.getElem?_take_of_lt h1]; simp
  · by_cases h2 : j < o + n
    · have := hv (j - o) (by omega)
      rw [show o + (j - o) = j by omega] at this
      rw [this]
      rw [List.getElem?_append_right (by simp; omega), List.getElem?_append_left (by simp; omega)]
      simp only [List.length_take, Array.getElem?_toList]
      congr 1; omega
    · rw [hk j (.inr (by omega))]
      rw [List.getElem?_append_right (by simp; omega), List.getElem?_append_right (by simp; omega), List.getElem?_drop]
      simp only [List.length_take, List.getElem?_toArray, Array.length_toList]
      congr 1; omega
/-- a whole block is written -/
theorem stW_h {n : Nat} {vs : Array Value} {c : World → Prop} (h : St w0 w L) [a : At L (Ev.blk g) cs f] (hl : cs.length = n) (hn : vs.size = n) (h1 : ∀ v ∈ vs, v.oneCell' = true) (hc : ∀ w', St w0 w' (f (Ev.blk g vs.toList)) → c w') : stA n w ⟨g, 0, none⟩ vs c :=
  stA_h h hn (by omega) h1 fun w' h' => hc w' (by
    have e : cs.take 0 ++ (vs.toList ++ cs.drop (0 + n)) = vs.toList := by simp [List.drop_eq_nil_of_le, hl]
    rwa [e] at h')
/-- a load that was done stands -/
theorem samec_h {w0' w' : World} {L' : List HP} {f' : HP → List HP} {n o : Nat} {c : Prop} (h : St w0 w L) (h' : St w0' w' L') [a : At L (Ev.blk g) cs f] [a' : At L' (Ev.blk g) cs f'] (hc : c) : samec n ⟨g, o, none⟩ w w' c := samec_B h.blk h'.blk hc
end

/-! ### slices that are owned: sz cells an element -/
structure OwnS (sz : Nat) (w : World) (s : Sl) (vs : List Value) : Prop where
  len : vs.length = s.n * sz
  cap : s.n ≤ s.c
  max : s.c ≤ 9223372036854775807
  one : ∀ x ∈ vs, x.oneCell' = true
  row : (s.a = none ∧ s.c = 0) ∨ ∃ g off cs, s.a = some ⟨g, off, none⟩ ∧ Blk w g cs ∧ off + s.c * sz ≤ cs.size ∧ ∀ i v, vs[i]? = some v → cs[off + i]? = some v
theorem OwnS.keep {sz : Nat} {w w' : World} {s : Sl} {vs : List Value} (h : OwnS sz w s vs) (hk : ∀ g, s.blk = some g → w'.heap[g]? = w.heap[g]?) : OwnS sz w' s vs := by
  refine ⟨h.len, h.cap, h.max, h.one, h.row.imp id ?_⟩
  rintro ⟨g, off, cs, h1, h2, h3⟩
  refine ⟨g, off, cs, h1, ?_, h3⟩
  obtain ⟨t, h2⟩ := h2
  exact ⟨t, (hk g (by simp [Sl.blk, h1])).trans h2⟩
theorem OwnS.sls {sz : Nat} {w : World} {s : Sl} {vs : List Value} (h : OwnS sz w s vs) : Sls sz w s vs := by
  refine ⟨h.len, fun i v hv => ?_⟩
  rcases h.row with ⟨h1, h2⟩ | ⟨g, off, cs, h1, h3, _, h5⟩
  · have h0 := h.cap
    have h6 : i < vs.length := (List.getElem?_eq_some_iff.1 hv).1
    have h7 := h.len
    have : s.n = 0 := by omega
    have h8 : vs.length = 0 := by rw [h7, this]; simp
    omega
  · exact ⟨_, h1, by rw [add_mk, h3.cell]; exact h5 i v hv⟩
def slc (sz : Nat) (s : Sl) (vs : List Value) : HP where
  p F w := (∀ k, F k ↔ s.blk = some k) ∧ OwnS sz w s vs
  lt := fun ⟨e, h⟩ hg => by
    have hg := (e _).1 hg
    rcases h.row with ⟨h1, _⟩ | ⟨g', off, cs, h1, h3, _⟩
    · simp [Sl.blk, h1] at hg
    · simp [Sl.blk, h1] at hg; subst hg; exact h3.lt
  keep := fun ⟨e, h⟩ hk => ⟨e, h.keep fun g hg => hk g ((e g).2 hg)⟩
section
variable {w0 w : World} {L : List HP} {sz : Nat} {s : Sl} {vs : List Value} {f : HP → List HP}
theorem St.own (h : St w0 w L) [a : At L (slc sz s) vs f] : OwnS sz w s vs := by
  obtain ⟨F, h1, _⟩ := h.look' a
  exact h1.2
theorem St.slen (h : St w0 w L) [a : At L (slc sz s) vs f] : vs.length = s.n * sz := h.own.len
theorem OwnS.nil (sz : Nat) (w : World) : OwnS sz w ⟨none, 0, 0⟩ [] := ⟨by simp, Nat.le_refl _, by simp, by simp, .inl ⟨rfl, rfl⟩⟩
/-- the nil slice is owned -/
theorem St.nilS (h : St w0 w L) (sz : Nat) : St w0 w (slc sz ⟨none, 0, 0⟩ [] :: L) := by
  exact h.new (.refl _ _) (F' := fun _ => False) ⟨fun k => by simp [Sl.blk], OwnS.nil sz w⟩ fun _ h => h.elim
/-- a block that was just made, as a slice -/
theorem OwnS.new {g n : Nat} {l : List Value} (hb : Blk w g l.toArray) (hn : l.length = n * sz) (hm : n ≤ 9223372036854775807) (h1 : ∀ x ∈ l, x.oneCell' = true) : OwnS sz w ⟨some ⟨g, 0, none⟩, n, n⟩ l :=
  ⟨hn, Nat.le_refl _, hm, h1, .inr ⟨g, 0, l.toArray, rfl, hb, by simp [hn], fun i v hv => by simpa using hv⟩⟩
theorem St.asS {g n : Nat} {cs : List Value} (h : St w0 w L) [a : At L (Ev.blk g) cs f] (hn : cs.length = n * sz) (hm : n ≤ 9223372036854775807) (h1 : ∀ x ∈ cs, x.oneCell' = true) : St w0 w (f (slc sz ⟨some ⟨g, 0, none⟩, n, n⟩ cs)) :=
  h.conv' a fun F hF => ⟨fun k => by rw [hF.1]; simp [Sl.blk, eq_comm], OwnS.new hF.2 hn hm h1⟩

/-- an element is looked at, in a slice that is owned -/
theorem ixS_h {i : Int} {c : Addr → Prop} (h : St w0 w L) [a : At L (slc sz s) vs f] (hsz : 0 < sz) (h0 : 0 ≤ i) (h1 : i < s.n)
    (hc : ∀ g o, s.blk = some g → (∀ {w' L' f'}, St w0 w' L' → [At L' (slc sz s) vs f'] → ∀ j v, j < sz → vs[i.toNat * sz + j]? = some v → w'.cell? ⟨g, o + j, none⟩ = some v) →
      (∀ {w' : World} {L' : List HP} {vs' : List Value} {f' : HP → List HP} (h' : St w0 w' L') (a' : At L' (slc sz s) vs' f') (j : Nat) (v : Value) (c' : World → Prop), j < sz → v.oneCell' = true →
        (∀ w'', St w0 w'' (f' (slc sz s (vs'.set (i.toNat * sz + j) v))) → c' w'') → stC w' ⟨g, o + j, none⟩ v c') → c ⟨g, o, none⟩) : ixS s i sz c := by
  have ho : OwnS sz w s vs := h.own
  have hi : i.toNat < s.n := by omega
  have hlt : i.toNat * sz + sz ≤ s.n * sz := by
    rw [← Nat.succ_mul]; exact Nat.mul_le_mul_right _ hi
  rcases ho.row with ⟨h2, h3⟩ | ⟨g, off, cs, h2, h3, h4, h5⟩
  · have := ho.cap; omega
  · unfold ixS
    rw [h2]
    refine ⟨⟨h0, h1⟩, ?_⟩
    rw [add_mk]
    refine hc g _ (by simp [Sl.blk, h2]) ?_ ?_
    · intro w' L' f' h' a' j v hj hv
      obtain ⟨p, hp, hcl⟩ := (h'.own (sz := sz) (s := s) (vs := vs)).sls.cell _ v hv
      rw [h2] at hp; cases hp
      rw [add_mk] at hcl
      rw [Nat.add_assoc]; exact hcl
    · intro w' L' vs' f' h' a' j v c' hj hv1 hc'
      have ho' : OwnS sz w' s vs' := h'.own
      rcases ho'.row with ⟨h2', _⟩ | ⟨g', off', cs', h2', h3', h4', h5'⟩
      · rw [h2] at h2'; cases h2'
      · rw [h2] at h2'; cases h2'
        have hc1 := ho'.cap
        have hcsz : s.n * sz ≤ s.c * sz := Nat.mul_le_mul_right _ hc1
        refine stC_i hv1 h3' (by omega) fun w'' hb hs hon => hc' w'' (h'.turn' a' fun F1 hF => ⟨hon.mono fun k _ hk => (hF.1 k).2 (by simp [Sl.blk, h2, hk]), F1, ⟨hF.1, ?_⟩, fun k hk => .inl hk⟩)
        refine ⟨by rw [List.length_set]; exact ho'.len, ho'.cap, ho'.max, fun x hx => ?_, .inr ⟨g, off, _, h2, hb, by simpa using h4', fun k u hk => ?_⟩⟩
        · rcases List.mem_or_eq_of_mem_set hx with hx | rfl
          · exact ho'.one x hx
          · exact hv1
        · by_cases hkj : i.toNat * sz + j = k
          · subst hkj
            have hlt2 : i.toNat * sz + j < vs'.length := by rw [ho'.len]; omega
            rw [List.getElem?_set_self hlt2] at hk
            cases hk
            rw [show off + i.toNat * sz + j = off + (i.toNat * sz + j) by omega, Array.getElem?_setIfInBounds_self, if_pos (by rw [ho'.len] at hlt2; omega)]
          · rw [List.getElem?_set_ne hkj] at hk
            rw [Array.getElem?_setIfInBounds_ne (by omega)]
            exact h5' k u hk

/-! ### append, copy, make, parts -/
/-- an element's type: so many cells, so many bytes, its zero -/
def elInfo (P : Program) (t : TypeId) : Option (Nat × Nat × Option Value) := match P.underlying t with
  | some (.slice e) => (P.info? e).map fun i => (i.size, i.bytes, i.zero)
  | _ => none
structure ElS (P : Program) (t : TypeId) (sz b : Nat) (z : Value) : Prop where
  info : elInfo P t = some (sz, b, some z)
  size : z.cells.size = sz
theorem ElS.out {P : Program} {t : TypeId} {b : Nat} {z : Value} (h : ElS P t sz b z) : ∃ e i, P.underlying t = some (.slice e) ∧ P.info? e = some i ∧ i.size = sz ∧ i.bytes = b ∧ i.zero = some z := by
  have h2 := h.info
  unfold elInfo at h2
  split at h2
  · rename_i e he
    cases hi : P.info? e with
    | none => simp [hi] at h2
    | some i => simp [hi] at h2; exact ⟨e, i, he, hi, h2⟩
  · cases h2
/-- a row's type -/
def isSl (P : Program) (t : TypeId) : Bool := match P.underlying t with | some (.slice _) => true | _ => false
theorem isSl_out {P : Program} {t : TypeId} (h : isSl P t = true) : ∃ e, P.underlying t = some (.slice e) := by
  unfold isSl at h
  split at h
  · exact ⟨_, by assumption⟩
  · cases h

theorem firstS_read {P : Program} {x : Sl} {ys : List Value} {n : Nat} (h : Sls sz w x ys) (hn : n ≤ x.n) : (Builtin.firstCells sz n (.slice x.a x.n x.c)).run P w = .ok (ys.take (n * sz)).toArray w := by
  have hlen := h.len
  have hle : n * sz ≤ ys.length := by rw [hlen]; exact Nat.mul_le_mul_right _ hn
  cases ha : x.a with
  | none =>
    have : ys = [] := by
      cases ys with
      | nil => rfl
      | cons v l => obtain ⟨p, hp, _⟩ := h.cell 0 v rfl; rw [ha] at hp; cases hp
    subst this
    rw [List.take_nil]
    exact run_firstCells_none w sz n x.n x.c
  | some p =>
    exact run_firstCells_some w sz n p x.n x.c (ys.take (n * sz)) (by rw [List.length_take]; omega) fun j v hv => by
      rw [List.getElem?_take] at hv
      split at hv
      · obtain ⟨q, hq, hc⟩ := h.cell j v hv
        rw [ha] at hq; cases hq; exact hc
      · cases hv
theorem srcS_of {P : Program} {tx e' : TypeId} (hk : P.underlying tx = some (.slice e')) {x : Sl} {ys : List Value} (h : Sls sz w x ys) (h1 : ∀ v ∈ ys, v.oneCell' = true) : Src P sz tx (.slice x.a x.n x.c) x.n ys w := by
  have e : ys.take (x.n * sz) = ys := List.take_of_length_le (by rw [h.len]; exact Nat.le_refl _)
  refine ⟨.inl ⟨e', hk⟩, fun _ => rfl, ?_, ?_, by rw [h.len], h1⟩
  · have := firstS_read (P := P) h (Nat.le_refl _); rwa [e] at this
  · have := firstS_read (P := P) (h.ext (ext_drew w)) (Nat.le_refl _); rwa [e] at this

/-- append, onto a slice that is owned -/
theorem OwnS.app {P : Program} {t tx : TypeId} {ty : TypeId} {b : Nat} {z : Value} {x : Sl} {ys : List Value} {c : Sl → World → Prop} (hown : OwnS sz w s vs) (ht : ElS P t sz b z) (hk : isSl P tx = true)
    (hsrc : Sls sz w x ys) (h1 : ∀ v ∈ ys, v.oneCell' = true) (hbytes : (s.n + x.n) * b ≤ 140737488355328) (h63 : s.n + x.n ≤ 9223372036854775807)
    (hc : ∀ s' w', OwnS sz w' s' (vs ++ ys) → Only (fun k => s.blk = some k) w w' → (s'.blk = s.blk ∨ ∃ g, s'.blk = some g ∧ w.heap.size ≤ g) → s'.n = s.n + x.n → c s' w') :
    bApp P #[t, tx] ty [.slice s.a s.n s.c, .slice x.a x.n x.c] w c := by
  obtain ⟨e, i, hte, hi, hsz, hby, hzi⟩ := ht.out
  obtain ⟨e', hk⟩ := isSl_out hk
  have hs := srcS_of (P := P) hk hsrc h1
  have hyl := hsrc.len
  have hlen := hown.len
  have hone : ∀ v ∈ vs ++ ys, v.oneCell' = true := fun v hv => (List.mem_append.1 hv).elim (hown.one v) (h1 v)
  have hmul : (s.n + x.n) * sz = s.n * sz + x.n * sz := Nat.add_mul _ _ _
  unfold bApp
  by_cases hroom : s.n + x.n ≤ s.c
  · rcases hown.row with ⟨h2, h3⟩ | ⟨g, off, cs, h2, h4, h5, h6⟩
    · have hx0 : x.n = 0 := by omega
      have hs0 : s.n = 0 := by omega
      have hys : ys = [] := List.eq_nil_of_length_eq_zero (by rw [hyl, hx0, Nat.zero_mul])
      have hxs : vs = [] := List.eq_nil_of_length_eq_zero (by rw [hlen, hs0, Nat.zero_mul])
      subst hys; subst hxs
      rw [h2, hs0, h3]
      have hr : (Builtin.append_ #[t, tx] ty #[.slice none 0 0, .slice x.a x.n x.c]).run P w = .ok (.slice none 0 0) w := by
        have hk' := hs.cells
        simp only [List.toArray] at hk'
        have hlen := hs.len w
        rw [hx0] at hlen hk' ⊢
        simp [Builtin.append_, run_underlying hte, run_underlying hk, sizeOf, typeInfo, hi, hsz, Builtin.lenOf, Builtin.firstCells] at hk' ⊢
        cases hxa : x.a <;> simp [Builtin.firstCells, hxa, loadCells, loadCellsFrom]
      simp only [List.toArray] at *
      rw [hr]
      show c ⟨none, 0, 0⟩ w
      exact hc _ _ (by simpa using OwnS.nil sz w) (.refl _ _) (.inl (by simp [Sl.blk, h2])) (by rw [hs0, hx0])
    · obtain ⟨ee, h4'⟩ := h4
      have hcap : (s.n + x.n) * sz ≤ s.c * sz := Nat.mul_le_mul_right _ hroom
      have hcell : ∀ j, j < ys.length → (w.cell? ⟨g, off + s.n * i.size + j, none⟩).isSome = true := by
        intro j hj
        rw [hsz, (show Blk w g cs from ⟨ee, h4'⟩).cell]
        have : off + s.n * sz + j < cs.size := by omega
        simp [this]
      have hfro : ∀ j, j < ys.length → w.frozen? ⟨g, off + s.n * i.size + j, none⟩ = false := fun j _ => (show Blk w g cs from ⟨ee, h4'⟩).frozen _
      rw [← hsz] at hs
      have hr := run_append_room_src w t tx ty e i hte hi g off s.n s.c _ x.n ys hs hroom hcell hfro
      obtain ⟨cs', k1, k2, k3, k4, k5, k6⟩ := setCells_blk ys w g (off + s.n * sz) cs h4' (by omega)
      rw [hsz] at hr
      rw [h2]
      simp only [List.toArray] at *
      rw [hr]
      show c ⟨some ⟨g, off, none⟩, s.n + x.n, s.c⟩ _
      refine hc _ _ ⟨by simp; omega, hroom, hown.max, hone, .inr ⟨g, off, cs', rfl, ⟨ee, k1⟩, by rw [k2]; exact h5, fun j v hv => ?_⟩⟩ (k5.mono fun k _ hk => by simp [Sl.blk, h2, hk]) (.inl (by simp [Sl.blk, h2])) rfl
      by_cases hj : j < vs.length
      · rw [List.getElem?_append_left hj] at hv
        rw [k3 _ (by omega)]
        exact h6 j v hv
      · rw [List.getElem?_append_right (by omega)] at hv
        have := k4 _ v hv
        rwa [show off + s.n * sz + (j - vs.length) = off + j by omega] at this
  · have hg : s.c < s.n + x.n := by omega
    have hfit : Builtin.nextslicecap (s.n + x.n) s.c * i.bytes ≤ 281474976710656 := growslice_fits hg (by rw [hby]; exact hbytes)
    have e0 : vs.take (s.n * sz) = vs := List.take_of_length_le (by omega)
    have hold := firstS_read (P := P) (hown.sls.ext (ext_drew w)) (Nat.le_refl _)
    rw [e0] at hold
    rw [← hsz] at hold hs
    have hr := run_append_grow_src w t tx ty e i z hte hi hzi s.a s.n s.c vs hold _ x.n ys hs hg (by omega) hfit
    simp only [List.toArray] at *
    rw [hr]
    have hge := grownCap_ge w (s.n + x.n) s.c e
    have hcm := grownCap_le_maxLen w (s.n + x.n) s.c e (by unfold maxLen; omega)
    unfold maxLen at hcm
    show c ⟨some ⟨w.heap.size, 0, none⟩, s.n + x.n, _⟩ _
    have hzs : z.cells.size = sz := ht.size
    refine hc _ _ ⟨by simp; omega, hge, hcm, hone, .inr ⟨w.heap.size, 0, _, rfl, Blk.new w.drew _ e, ?_, fun j v hv => ?_⟩⟩ (Ext.only ((ext_drew w).trans (ext_alloc _ _))) (.inr ⟨w.heap.size, rfl, Nat.le_refl _⟩) rfl
    · have h9 : (s.n + x.n) * sz ≤ grownCap w (s.n + x.n) s.c e * sz := Nat.mul_le_mul_right _ hge
      rw [Array.size_append, size_zeroCells, hzs, Nat.sub_mul]
      simp only [List.size_toArray, List.length_append]
      omega
    · have hj : j < (vs ++ ys).length := (List.getElem?_eq_some_iff.1 hv).1
      rw [Nat.zero_add, Array.getElem?_append_left (by simpa using hj)]
      simpa using hv
theorem bApp_h {P : Program} {t tx : TypeId} {ty : TypeId} {b : Nat} {z : Value} {x : Sl} {ys : List Value} {c : Sl → World → Prop} (h : St w0 w L) [a : At L (slc sz s) vs f] (ht : ElS P t sz b z) (hk : isSl P tx = true)
    (hsrc : Sls sz w x ys) (h1 : ∀ v ∈ ys, v.oneCell' = true) (hbytes : (s.n + x.n) * b ≤ 140737488355328) (h63 : s.n + x.n ≤ 9223372036854775807)
    (hc : ∀ s' w', St w0 w' (f (slc sz s' (vs ++ ys))) → s'.n = s.n + x.n → c s' w') : bApp P #[t, tx] ty [.slice s.a s.n s.c, .slice x.a x.n x.c] w c :=
  OwnS.app h.own ht hk hsrc h1 hbytes h63 fun s' w' ho hon hb hn => hc s' w' (h.turn' a fun F1 hF => ⟨hon.mono fun k _ hk => (hF.1 k).2 hk, fun k => s'.blk = some k, ⟨fun _ => Iff.rfl, ho⟩, fun k hk => by
    rcases hb with hb | ⟨g, hg, hge⟩
    · exact .inl ((hF.1 k).2 (by rw [← hb]; exact hk))
    · rw [hg] at hk; cases hk; exact .inr hge⟩) hn
/-- a block, as a slice that is read -/
theorem Sls.of_blk {g n c : Nat} {cs : List Value} {fr : HP → List HP} (h : St w0 w L) [a : At L (Ev.blk g) cs fr] (hn : cs.length = n * sz) : Sls sz w ⟨some ⟨g, 0, none⟩, n, c⟩ cs :=
  ⟨hn, fun i v hv => ⟨_, rfl, by rw [add_mk, h.blk.cell]; simpa using hv⟩⟩

theorem OwnS.off {d : Sl} {ys : List Value} {lo : Nat} (h : OwnS sz w s vs) (hy : ys.length = d.n * sz) (hc : d.n ≤ d.c) (hcc : lo + d.c ≤ s.c) (ha : d.a = s.a.map (·.add (lo * sz)) ∨ (d.a = s.a ∧ d.c = 0)) (hv : ∀ i v, ys[i]? = some v → vs[lo * sz + i]? = some v) : OwnS sz w d ys := by
  have hmax := h.max
  have hm : (lo + d.c) * sz ≤ s.c * sz := Nat.mul_le_mul_right _ hcc
  rw [Nat.add_mul] at hm
  refine ⟨hy, hc, by omega, fun x hx => ?_, ?_⟩
  · obtain ⟨i, hi, rfl⟩ := List.getElem_of_mem hx
    have := hv i ys[i] (by simp [hi])
    exact h.one _ (List.mem_of_getElem? this)
  · rcases h.row with ⟨h1, h2⟩ | ⟨g, off, cs, h1, h3, h4, h5⟩
    · refine .inl ⟨?_, by omega⟩
      rcases ha with ha | ⟨ha, _⟩ <;> rw [ha, h1] <;> rfl
    · rcases ha with ha | ⟨ha, hd0⟩
      · exact .inr ⟨g, off + lo * sz, cs, by rw [ha, h1]; simp, h3, by omega, fun i v hi => by rw [Nat.add_assoc]; exact h5 _ _ (hv i v hi)⟩
      · have hy0 : ys = [] := List.eq_nil_of_length_eq_zero (by rw [hy]; have : d.n = 0 := by omega
                                                                rw [this, Nat.zero_mul])
        subst hy0
        exact .inr ⟨g, off, cs, by rw [ha, h1], h3, by rw [hd0, Nat.zero_mul]; omega, fun i v hi => by simp at hi⟩
/-- s[lo:] -/
theorem slL_h {lo : Int} {c : Sl → Prop} (h : St w0 w L) [a : At L (slc sz s) vs f] (h0 : 0 ≤ lo) (h1 : lo ≤ s.n)
    (hc : ∀ d : Sl, d.n = s.n - lo.toNat → St w0 w (f (slc sz d (vs.drop (lo.toNat * sz)))) → c d) : slL s sz lo c := by
  have ho : OwnS sz w s vs := h.own
  have hcap := ho.cap; have hlen := ho.len
  refine ⟨⟨h0, h1⟩, hc _ rfl (h.conv' a fun F hF => ⟨fun k => ?_, ho.off (lo := lo.toNat) (by simp [hlen, Nat.sub_mul]) (by simp; omega) (by simp; omega) ?_ fun i v hi => by simpa using hi⟩)⟩
  · rw [hF.1]
    by_cases hq : s.c = lo.toNat
    · simp [Sl.blk, hq]
    · simp only [Sl.blk, hq, if_false]
      cases s.a with
      | none => simp
      | some p => simp [Addr.add]; split <;> rfl
  · by_cases hq : s.c = lo.toNat
    · right; simp [hq]
    · left; simp [hq]
/-- s[lo:hi] -/
theorem slS_h {lo hi : Int} {c : Sl → Prop} (h : St w0 w L) [a : At L (slc sz s) vs f] (h0 : 0 ≤ lo) (h1 : lo ≤ hi) (h2 : hi ≤ s.n)
    (hc : ∀ d : Sl, d.n = hi.toNat - lo.toNat → St w0 w (f (slc sz d ((vs.drop (lo.toNat * sz)).take ((hi.toNat - lo.toNat) * sz)))) → c d) : slS s sz lo hi c := by
  have ho : OwnS sz w s vs := h.own
  have hcap := ho.cap; have hlen := ho.len
  have hm : (hi.toNat - lo.toNat) * sz ≤ (s.n - lo.toNat) * sz := Nat.mul_le_mul_right _ (by omega)
  refine ⟨⟨by omega, by omega⟩, ⟨h0, h1⟩, hc _ rfl (h.conv' a fun F hF => ⟨fun k => ?_, ho.off (lo := lo.toNat) ?_ (by simp; omega) (by simp; omega) ?_ fun i v hi => ?_⟩)⟩
  · rw [hF.1]
    by_cases hq : s.c = lo.toNat
    · simp [Sl.blk, hq]
    · simp only [Sl.blk, hq, if_false]
      cases s.a with
      | none => simp
      | some p => simp [Addr.add]; split <;> rfl
  · rw [List.length_take, List.length_drop, hlen, ← Nat.sub_mul]; exact Nat.min_eq_left hm
  · by_cases hq : s.c = lo.toNat
    · right; simp [hq]
    · left; simp [hq]
  · rw [List.getElem?_take] at hi
    split at hi
    · simpa using hi
    · cases hi

/-- make -/
theorem mkSl_h {P : Program} {t : TypeId} {b : Nat} {z : Value} {n : Nat} {kl kc : IntKind} {c : Sl → World → Prop} (h : St w0 w L) (ht : ElS P t 1 b z) (hz1 : z.oneCell' = true)
    (hbytes : b * n ≤ 281474976710656) (h63 : n ≤ 9223372036854775807)
    (hc : ∀ s w', St w0 w' (slc 1 s (List.replicate n z) :: L) → s.n = n → c s w') : mkSl P t (.int kl (n : Int)) (.int kc (n : Int)) w c := by
  obtain ⟨e, i, hte, hi, hsz, hby, hzi⟩ := ht.out
  refine mkSl_i (B := w.heap.size) (e := e) ⟨hte, by rw [hi]; simp [hsz, hby, hzi]⟩ hz1 (Nat.le_refl _) hbytes h63 fun s w' ho he h1 h2 h3 h4 => hc s w' (h.new he (F' := fun k => s.blk = some k) ⟨fun _ => Iff.rfl, ?_⟩ fun k hk => ?_) h1
  · refine ⟨by simp [h1], ho.cap, ho.max, ho.one, ho.row.imp id ?_⟩
    rintro ⟨g, off, cs, e1, e2, e3, e4, e5⟩
    exact ⟨g, off, cs, e1, e3, by simpa using e4, e5⟩
  · rw [h3] at hk; cases hk; exact Nat.le_refl _

/-- append of a new row: so many zeros -/
theorem OwnS.appZ {P : Program} {t tx : TypeId} {ty : TypeId} {b : Nat} {z : Value} {n : Nat} {kk : IntKind} {c : Sl → World → Prop} (hown : OwnS 1 w s vs) (ht : ElS P t 1 b z) (hk : P.underlying tx = some (.int .i64)) (hz1 : z.oneCell' = true)
    (hfull : s.n = s.c) (hn : 0 < n) (hbytes : (s.n + n) * b ≤ 140737488355328) (h63 : s.n + n ≤ 9223372036854775807)
    (hc : ∀ s' w', OwnS 1 w' s' (vs ++ List.replicate n z) → Ext w w' → s'.blk = some w.heap.size → s'.n = s.n + n → c s' w') :
    bApp P #[t, tx] ty [.slice s.a s.n s.c, .int .i64 (n : Int)] w c := by
  obtain ⟨e, i, hte, hi, hsz, hby, hzi⟩ := ht.out
  have hlen := hown.len
  unfold bApp
  have hg : s.c < s.n + n := by omega
  have hnot : ¬ (s.n + n ≤ s.c) := by omega
  have hfit : Builtin.nextslicecap (s.n + n) s.c * i.bytes ≤ 281474976710656 := growslice_fits hg (by rw [hby]; exact hbytes)
  have e0 : vs.take (s.n * 1) = vs := List.take_of_length_le (by omega)
  have hold := firstS_read (P := P) (hown.sls.ext (ext_drew w)) (Nat.le_refl _)
  rw [e0] at hold
  have hge := grownCap_ge w (s.n + n) s.c e
  have hcm := grownCap_le_maxLen w (s.n + n) s.c e (by unfold maxLen; omega)
  unfold maxLen at hcm
  have hw : IntKind.i64.wrap (n : Int) = n := wrap_in ⟨by omega, by omega⟩
  have hb2 : n * b ≤ 140737488355328 := Nat.le_trans (Nat.mul_le_mul_right _ (by omega)) hbytes
  have hb3 : ¬ (281474976710656 < (n : Int) * (b : Int)) := by
    have : ((n * b : Nat) : Int) ≤ 140737488355328 := by omega
    rw [Int.natCast_mul] at this; omega
  have h63' : ¬ (9223372036854775807 < ((s.n : Int) + (n : Int))) := by omega
  have h48' : ¬ (281474976710656 < Builtin.nextslicecap (s.n + n) s.c * b) := by rw [← hby]; omega
  have hneg : ¬ ((n : Int) < 0) := by omega
  have hn0 : n ≠ 0 := by omega
  have hzc : Builtin.zeroCells #[z] n = (List.replicate n z).toArray := by
    apply Array.ext
    · simp [size_zeroCells]
    · intro j h1 h2
      simp [Builtin.zeroCells, Nat.mod_one]
  have hr : (Builtin.append_ #[t, tx] ty #[.slice s.a s.n s.c, .int .i64 (n : Int)]).run P w =
      .ok (.slice (some ⟨w.heap.size, 0, none⟩) (s.n + n) (grownCap w (s.n + n) s.c e)) (w.drew.alloc (.cells ((vs ++ List.replicate n z).toArray ++ Builtin.zeroCells z.cells (grownCap w (s.n + n) s.c e - (s.n + n))) e)) := by
    simp [Builtin.append_, run_underlying hte, run_underlying hk, sizeOf, typeInfo, zeroValue, hi, hzi, hsz, hby, hw, hb3, hneg, hnot, h63', h48', hn0, Question.forced, hold, newRow, grownCap, asInt, asIntOf, cells_one hz1, hzc]
    congr 2
    apply Array.ext'
    simp [List.append_assoc]
  simp only [List.toArray] at *
  rw [hr]
  show c ⟨some ⟨w.heap.size, 0, none⟩, s.n + n, _⟩ _
  refine hc _ _ ⟨by simp; omega, hge, hcm, fun v hv => (List.mem_append.1 hv).elim (hown.one v) fun hv => by rw [(List.mem_replicate.1 hv).2]; exact hz1, .inr ⟨w.heap.size, 0, _, rfl, Blk.new w.drew _ e, ?_, fun j v hv => ?_⟩⟩ ((ext_drew w).trans (ext_alloc _ _)) rfl rfl
  · rw [Array.size_append, size_zeroCells, ht.size]
    simp only [List.size_toArray, List.length_append, List.length_replicate]
    omega
  · have hj : j < (vs ++ List.replicate n z).length := (List.getElem?_eq_some_iff.1 hv).1
    rw [Nat.zero_add, Array.getElem?_append_left (by simpa using hj)]
    simpa using hv
theorem bAppZ_h {P : Program} {t tx : TypeId} {ty : TypeId} {b : Nat} {z : Value} {n : Nat} {c : Sl → World → Prop} (h : St w0 w L) [a : At L (slc 1 s) vs f] (ht : ElS P t 1 b z) (hk : P.underlying tx = some (.int .i64)) (hz1 : z.oneCell' = true)
    (hfull : s.n = s.c) (hn : 0 < n) (hbytes : (s.n + n) * b ≤ 140737488355328) (h63 : s.n + n ≤ 9223372036854775807)
    (hc : ∀ s' w', St w0 w' (f (slc 1 s' (vs ++ List.replicate n z))) → s'.n = s.n + n → c s' w') : bApp P #[t, tx] ty [.slice s.a s.n s.c, .int .i64 (n : Int)] w c :=
  OwnS.appZ (kk := .i64) h.own ht hk hz1 hfull hn hbytes h63 fun s' w' ho he hb hn' => hc s' w' (h.turn' a fun F1 hF => ⟨he.only, fun k => s'.blk = some k, ⟨fun _ => Iff.rfl, ho⟩, fun k hk => by
    rw [hb] at hk; cases hk; exact .inr (Nat.le_refl _)⟩) hn'
/-- s[lo:hi:max] -/
theorem slS3_h {hi mx : Int} {c : Sl → Prop} (h : St w0 w L) [a : At L (slc sz s) vs f] (h1 : 0 ≤ hi) (h2 : hi ≤ s.n) (h3 : hi ≤ mx) (h4 : mx ≤ s.c)
    (hc : ∀ d : Sl, d.n = hi.toNat → d.c = mx.toNat → St w0 w (f (slc sz d (vs.take (hi.toNat * sz)))) → c d) : slS3 s sz 0 hi mx c := by
  have ho : OwnS sz w s vs := h.own
  have hcap := ho.cap; have hlen := ho.len
  have hm : hi.toNat * sz ≤ s.n * sz := Nat.mul_le_mul_right _ (by omega)
  refine ⟨⟨by omega, by omega⟩, ⟨h1, h3⟩, ⟨Int.le_refl _, h1⟩, hc _ (by simp) (by simp) (h.conv' a fun F hF => ⟨fun k => ?_, ho.off (lo := 0) ?_ (by simp; omega) (by simp; omega) ?_ fun i v hi => ?_⟩)⟩
  · rw [hF.1]
    by_cases hq : mx.toNat = (0 : Int).toNat
    · simp [Sl.blk, hq]
    · simp only [Sl.blk, hq, if_false]
      cases s.a with
      | none => simp
      | some p => simp [Addr.add]
  · rw [List.length_take, hlen]
    simp only [Int.toNat_zero, Nat.sub_zero]
    exact Nat.min_eq_left hm
  · by_cases hq : mx.toNat = (0 : Int).toNat
    · right; simp at hq; simp [hq]
    · left; simp only [hq, if_false]; rfl
  · rw [List.getElem?_take] at hi
    split at hi
    · simpa using hi
    · cases hi

/-! ### parts made of parts -/
def sepHP (A : List HP) : HP where
  p := sepP A
  lt := sepP_lt
  keep := sepP_keep
def exHP {α : Type} (X : α → HP) : HP where
  p F w := ∃ a, (X a).p F w
  lt := fun ⟨a, h⟩ hg => (X a).lt h hg
  keep := fun ⟨a, h⟩ hk => ⟨a, (X a).keep h hk⟩
def pureHP (p : Prop) (X : HP) : HP where
  p F w := p ∧ X.p F w
  lt := fun ⟨_, h⟩ hg => X.lt h hg
  keep := fun ⟨a, h⟩ hk => ⟨a, X.keep h hk⟩
theorem sepP_assoc : ∀ {A B : List HP} {F w}, sepP (sepHP A :: B) F w ↔ sepP (A ++ B) F w
  | [], B, F, w => by
    constructor
    · rintro ⟨F1, F2, h1, h2, _, e⟩
      exact sepP_iff (fun g => by rw [e]; exact ⟨.inr, fun h => h.elim (fun h => (h1 g h).elim) id⟩) h2
    · intro h
      exact ⟨fun _ => False, F, fun g hg => hg, h, fun g hg => hg.elim, fun g => by simp⟩
  | R :: A, B, F, w => by
    constructor
    · rintro ⟨F1, F2, ⟨G1, G2, k1, k2, kd, ke⟩, h2, hd, e⟩
      refine ⟨G1, fun g => G2 g ∨ F2 g, k1, sepP_assoc.1 ⟨G2, F2, k2, h2, fun g hg => hd g ((ke g).2 (.inr hg)), fun _ => Iff.rfl⟩, fun g hg hor => ?_, fun g => ?_⟩
      · rcases hor with h | h
        · exact kd g hg h
        · exact hd g ((ke g).2 (.inl hg)) h
      · rw [e, ke, or_assoc]
    · rintro ⟨G1, G2, k1, k2, kd, ke⟩
      obtain ⟨F1, F2, h1, h2, hd, e⟩ := sepP_assoc.2 k2
      refine ⟨fun g => G1 g ∨ F1 g, F2, ⟨G1, F1, k1, h1, fun g hg hf => kd g hg ((e g).2 (.inl hf)), fun _ => Iff.rfl⟩, h2, fun g hg hf => ?_, fun g => ?_⟩
      · rcases hg with h | h
        · exact kd g h ((e g).2 (.inr hf))
        · exact hd g h hf
      · rw [ke, e, or_assoc]
theorem St.open {A B : List HP} (h : St w0 w (sepHP A :: B)) : St w0 w (A ++ B) := ⟨h.ext, by obtain ⟨F, h1, h2⟩ := h.sep; exact ⟨F, sepP_assoc.1 h1, h2⟩⟩
theorem St.shut {A B : List HP} (h : St w0 w (A ++ B)) : St w0 w (sepHP A :: B) := ⟨h.ext, by obtain ⟨F, h1, h2⟩ := h.sep; exact ⟨F, sepP_assoc.2 h1, h2⟩⟩
theorem St.some {α : Type} {X : α → HP} (h : St w0 w (exHP X :: L)) : ∃ a, St w0 w (X a :: L) := by
  obtain ⟨h1, F, ⟨F1, F2, ⟨a, h2⟩, h4⟩, h3⟩ := h
  exact ⟨a, h1, F, ⟨F1, F2, h2, h4⟩, h3⟩
theorem St.ex {α : Type} {X : α → HP} (a : α) (h : St w0 w (X a :: L)) : St w0 w (exHP X :: L) := h.conv fun F hF => ⟨a, hF⟩
theorem St.pure {p : Prop} {X : HP} (h : St w0 w (pureHP p X :: L)) : p ∧ St w0 w (X :: L) := by
  obtain ⟨F, hF, _⟩ := h.look
  exact ⟨hF.1, h.conv fun F hF => hF.2⟩
theorem St.pur {p : Prop} {X : HP} (hp : p) (h : St w0 w (X :: L)) : St w0 w (pureHP p X :: L) := h.conv fun F hF => ⟨hp, hF⟩

/-! ### elements: loads and stores -/
theorem ints_getD {xs : List Int} {i : Nat} (h : i < xs.length) : (ints xs)[i]? = some (.int .i64 (xs.getD i 0)) := by
  simp [ints, List.getD_eq_getElem?_getD, h]
theorem ixI_h {xs : List Int} {i : Int} {c : Int → Prop} (h : St w0 w L) [a : At L (slc 1 s) (ints xs) f] (h0 : 0 ≤ i) (h1 : i < xs.length) (hc : c (xs.getD i.toNat 0)) : ixS s i 1 fun a => ldI .i64 w a c := by
  have hn : xs.length = s.n := by have := h.slen (sz := 1) (s := s) (vs := ints xs); simpa using this
  refine ixS_h h (by omega) h0 (by omega) fun g o _ hr _ => ldI_i ?_ hc
  have := hr h 0 _ (by omega) (ints_getD (i := i.toNat * 1 + 0) (by omega))
  simpa using this
theorem ixIst_h {xs : List Int} {i : Int} {x : Int} {c : World → Prop} (h : St w0 w L) [a : At L (slc 1 s) (ints xs) f] (h0 : 0 ≤ i) (h1 : i < xs.length) (hc : ∀ w', St w0 w' (f (slc 1 s (ints (xs.set i.toNat x)))) → c w') : ixS s i 1 fun a => stC w a (.int .i64 x) c := by
  have hn : xs.length = s.n := by have := h.slen (sz := 1) (s := s) (vs := ints xs); simpa using this
  refine ixS_h h (by omega) h0 (by omega) fun g o _ _ hs => ?_
  have := hs h a 0 (.int .i64 x) c (by omega) rfl fun w' h' => hc w' (by
    have e : (ints xs).set (i.toNat * 1 + 0) (.int .i64 x) = ints (xs.set i.toNat x) := by simp [ints, List.map_set]
    rwa [e] at h')
  simpa using this
/-- a part of an element -/
theorem ixE_h {i : Int} {c : Addr → Prop} (h : St w0 w L) [a : At L (slc sz s) vs f] (hsz : 0 < sz) (h0 : 0 ≤ i) (h1 : i < s.n)
    (hc : ∀ g o, (∀ j v, j < sz → vs[i.toNat * sz + j]? = some v → w.cell? ⟨g, o + j, none⟩ = some v) →
      (∀ (j : Nat) (v : Value) (c' : World → Prop), j < sz → v.oneCell' = true → (∀ w'', St w0 w'' (f (slc sz s (vs.set (i.toNat * sz + j) v))) → c' w'') → stC w ⟨g, o + j, none⟩ v c') → c ⟨g, o, none⟩) : ixS s i sz c :=
  ixS_h h hsz h0 h1 fun g o _ hr hs => hc g o (fun j v hj hv => hr h j v hj hv) fun j v c' hj h1 hc' => hs h a j v c' hj h1 hc'
theorem samec_1 {a : Addr} {v : Value} {w' : World} {c : Prop} (h : w.cell? a = some v) (h' : w'.cell? a = some v) (hc : c) : samec 1 a w w' c :=
  ⟨fun k hk => by
    have : k = 0 := by omega
    subst this
    rw [add_zero, h, h'], hc⟩
end
/-- an element of a row that was there, whatever has turned since -/
theorem ixR_h {w0 w : World} {L : List HP} {sz : Nat} {s : Sl} {es : List (List Value)} {e : List Value} {i : Int} {c : Addr → Prop} (hR : Rws sz w0 s es) (h : St w0 w L) (h0 : 0 ≤ i) (he : es[i.toNat]? = some e)
    (hc : ∀ p : Addr, (∀ {w' L'}, St w0 w' L' → ∀ {j v}, e[j]? = some v → w'.cell? (p.add j) = some v) → c p) : ixS s i sz c := by
  have hlen := hR.len
  have hlt := (List.getElem?_eq_some_iff.1 he).1
  refine ixR_i hR h0 (by omega) fun p e' he' hl hcell => hc p fun {w' L'} hS {j v} hv => ?_
  rw [he] at he'; cases he'
  exact hS.ext.cell (hcell j v hv)
/-- a number of a row that was there -/
theorem ixB_h {w0 w : World} {L : List HP} {s : Sl} {xs : List Int} {i : Int} {c : Addr → Prop} (hR : SlI w0 s xs) (h : St w0 w L) (h0 : 0 ≤ i) (h1 : i < xs.length)
    (hc : ∀ p : Addr, (∀ {w' L'}, St w0 w' L' → w'.cell? p = some (.int .i64 (xs.getD i.toNat 0))) → c p) : ixS s i 1 c := by
  have hlen := SlI.len hR
  refine ixS_i hR (by omega) h0 (by omega) fun p _ hcell => hc _ fun {w' L'} hS => hS.ext.cell ?_
  have hg : (ints xs)[i.toNat * 1 + 0]? = some (.int .i64 (xs.getD i.toNat 0)) := by
    rw [Nat.mul_one, Nat.add_zero]; exact ints_getD (by omega)
  have := hcell 0 _ (by omega) hg
  rwa [add_zero] at this
theorem St.same {α : Type} {w0 w : World} {L : List HP} {k : α → HP} {x : α} {f : HP → List HP} (h : St w0 w L) (a : At L k x f) : St w0 w (f (k x)) := by
  obtain ⟨R, h1, h2⟩ := a.out
  exact h2 (h1 h)
/-- a function value is called -/
theorem callF_i {orc : Oracle} {id : FuncId} {first captured args : Array Value} {w : World} {c : Value → World → Prop} {d : Dec} (e : ∀ args w c, orc (.func id) args w c = d args.toList w c) (h : d (first ++ args ++ captured).toList w c) : callF orc (.func (.func id) first captured) args w c := by
  show orc (.func id) (first ++ args ++ captured) w c
  rw [e]; exact h
end Go.Ev
