/-
  Ranges over functions, over parts: a loop's record, marks, yields.
-/
import Derived.Test.YtgkfbagclkjilaaEvS
import Derived.Test.YtgkfbagclkjilaaEvR
set_option linter.unusedSimpArgs false
set_option linter.unusedVariables false
namespace Go.Ev
open Go Go.RowKit

/-- a block, whatever it is -/
def obj (g : Nat) (o : Obj) : HP where
  p F w := (∀ k, F k ↔ k = g) ∧ w.heap[g]? = some o
  lt := fun ⟨e, h⟩ hg => by rw [(e _).1 hg]; exact (Array.getElem?_eq_some_iff.1 h).1
  keep := fun ⟨e, h⟩ hk => ⟨e, (hk _ ((e _).2 rfl)).trans h⟩
/-- marks that are not taken -/
def mks (ds : List Nat) : HP where
  p F w := ds.Nodup ∧ (∀ k, F k ↔ k ∈ ds) ∧ ∀ D ∈ ds, w.heap[D]? = some (.deferred (some []))
  lt := fun ⟨_, e, h⟩ hg => (Array.getElem?_eq_some_iff.1 (h _ ((e _).1 hg))).1
  keep := fun ⟨n, e, h⟩ hk => ⟨n, e, fun D hD => (hk _ ((e _).2 hD)).trans (h D hD)⟩

theorem putObj_only (w : World) (g : Nat) (o : Obj) : Only (fun k => k = g) w (w.putObj g o) :=
  ⟨rfl, rfl, rfl, by simp [World.putObj], fun k _ hn => World.putObj_heap_other hn⟩
theorem alloc_ext (w : World) (o : Obj) : Ext w (w.alloc o) :=
  ⟨rfl, rfl, rfl, by show w.heap.size ≤ (w.heap.push o).size; simp, fun k hk _ => by show (w.heap.push o)[k]? = _; rw [Array.getElem?_push_lt hk]; simp [hk]⟩

section
variable {w0 w : World} {L : List HP} {g : Nat} {f : HP → List HP}
theorem obj_at {o : Obj} (h : St w0 w L) [a : At L (Ev.obj g) o f] : w.heap[g]? = some o := by
  obtain ⟨F, h1, _⟩ := h.look' a
  exact h1.2
theorem putObj_h {o : Obj} (o' : Obj) (h : St w0 w L) [a : At L (Ev.obj g) o f] : St w0 (w.putObj g o') (f (Ev.obj g o')) := by
  have hlt := (Array.getElem?_eq_some_iff.1 (obj_at (g := g) (o := o) h)).1
  exact h.turn' a fun F1 hF => ⟨(putObj_only w g o').mono fun k _ hk => (hF.1 k).2 hk, fun k => k = g, ⟨fun _ => Iff.rfl, World.putObj_heap_same hlt⟩, fun k hk => .inl ((hF.1 k).2 hk)⟩
theorem alloc_h (o : Obj) (h : St w0 w L) : St w0 (w.alloc o) (Ev.obj w.heap.size o :: L) :=
  h.new (alloc_ext w o) (F' := fun k => k = w.heap.size) ⟨fun _ => Iff.rfl, World.alloc_heap_new w o⟩ fun k hk => Nat.le_of_eq hk.symm

theorem mks_nil (h : St w0 w L) : St w0 w (mks [] :: L) :=
  h.new (.refl _ _) (F' := fun _ => False) ⟨.nil, fun k => by simp, fun D hD => by cases hD⟩ fun _ h => h.elim
theorem mks_cons {D : Nat} {ds : List Nat} (h : St w0 w (Ev.obj D (.deferred (some [])) :: mks ds :: L)) : St w0 w (mks (D :: ds) :: L) := by
  obtain ⟨h1, F, ⟨F1, F2, ⟨e1, k1⟩, ⟨F3, F4, ⟨n3, e3, k3⟩, h4, d34, e34⟩, d12, e12⟩, h3⟩ := h
  have hn : D ∉ ds := fun hD => d12 D ((e1 D).2 rfl) ((e34 D).2 (.inl ((e3 D).2 hD)))
  refine ⟨h1, F, ⟨fun k => F1 k ∨ F3 k, F4, ⟨List.nodup_cons.2 ⟨hn, n3⟩, fun k => by simp [e1, e3], fun D' hD => ?_⟩, h4, fun k hk h4k => ?_, fun k => ?_⟩, h3⟩
  · rcases List.mem_cons.1 hD with rfl | hD
    · exact k1
    · exact k3 D' hD
  · rcases hk with hk | hk
    · exact d12 k hk ((e34 k).2 (.inr h4k))
    · exact d34 k hk h4k
  · rw [e12, e34]; exact or_assoc.symm
theorem mks_uncons {D : Nat} {ds : List Nat} (h : St w0 w (mks (D :: ds) :: L)) : St w0 w (Ev.obj D (.deferred (some [])) :: mks ds :: L) := by
  obtain ⟨h1, F, ⟨F1, F4, ⟨n, e1, k1⟩, h4, d14, e14⟩, h3⟩ := h
  obtain ⟨hn, n3⟩ := List.nodup_cons.1 n
  refine ⟨h1, F, ⟨fun k => k = D, fun k => k ∈ ds ∨ F4 k, ⟨fun _ => Iff.rfl, k1 D (by simp)⟩, ⟨fun k => k ∈ ds, F4, ⟨n3, fun _ => Iff.rfl, fun D' hD => k1 D' (by simp [hD])⟩, h4, fun k hk h4k => d14 k ((e1 k).2 (by simp [hk])) h4k, fun _ => Iff.rfl⟩, fun k hk hor => ?_, fun k => ?_⟩, h3⟩
  · subst hk
    rcases hor with h | h
    · exact hn h
    · exact d14 k ((e1 k).2 (by simp)) h
  · rw [e14, e1]; simp [or_assoc]
/-- marks are taken -/
theorem takeP_h : ∀ {ds : List Nat} {w : World} {c : World → Prop}, St w0 w (mks ds :: L) → (∀ w', St w0 w' L → c w') → takeP ds w c
  | [], w, c, h, hc => hc w h.drop
  | D :: ds, w, c, h, hc => by
    have h := mks_uncons h
    refine ⟨obj_at h, takeP_h (St.drop (R := Ev.obj D (.deferred none)) (putObj_h (g := D) (o := .deferred (some [])) (f := fun X => X :: mks ds :: L) (.deferred none) h)) hc⟩

/-- what a loop's rounds are to its iterator -/
def rY (l : Nat) (R : LoopState → Obj) (kk : List K) (body : KT kk → World → (World → Prop) → Prop) : Nat → Dec := fun n args w1 c =>
  n = l ∧ w1.heap[l]? = some (R .ready) ∧ unL kk args fun y => body y (w1.putObj l (R .busy)) fun w4 => w4.heap[l]? = some (R .busy) ∧ c (.bool true) (w4.putObj l (R .ready))
theorem rangeF_h {I : OrcI} {kk : List K} {gf : FuncId} {first lb : Array Value} {body : KT kk → World → (World → Prop) → Prop} {fin : Nat → World → Prop} (h : St w0 w L)
    (hI : ∀ (l D : Nat) (R : LoopState → Obj) (w1 : World), St w0 w1 (obj l (R .ready) :: obj D (.deferred (some [])) :: L) →
      I gf (rY l R kk body) (first.toList ++ (.func (.yield l) #[] #[] :: lb.toList)) w1 fun _ w5 => w5.heap[l]? = some (R .ready) ∧ fin D (w5.putObj l (R .exhausted))) :
    rangeF I kk (.func (.func gf) first lb) w body fin := by
  intro R hR
  have h1 := alloc_h (R .ready) (alloc_h (.deferred (some [])) h)
  have e : (w.alloc (.deferred (some []))).heap.size = w.heap.size + 1 := by show (w.heap.push _).size = _; simp
  rw [e] at h1
  exact hI _ _ R _ h1
/-- a round -/
theorem rY_h {l : Nat} {R : LoopState → Obj} {kk : List K} {body : KT kk → World → (World → Prop) → Prop} {args : List Value} {c : Value → World → Prop} (y : KT kk) (hy : ∀ c : KT kk → Prop, c y → unL kk args c)
    (h : St w0 w L) [a : At L (Ev.obj l) (R .ready) f]
    (hb : ∀ w', St w0 w' (f (Ev.obj l (R .busy))) → body y w' fun w4 => w4.heap[l]? = some (R .busy) ∧ c (.bool true) (w4.putObj l (R .ready))) : rY l R kk body l args w c :=
  ⟨rfl, obj_at h, hy _ (hb _ (putObj_h _ h))⟩
/-- the record turns -/
theorem rec_h {o o' : Obj} {c : World → Prop} (h : St w0 w L) [a : At L (Ev.obj g) o f] (hc : ∀ w', St w0 w' (f (Ev.obj g o')) → c w') : w.heap[g]? = some o ∧ c (w.putObj g o') :=
  ⟨obj_at h, hc _ (putObj_h _ h)⟩
/-- a call of what a loop hands in -/
theorem yield_i {l : List (Nat × Dec)} {Y : Nat → Dec} {n : Nat} {args : Array Value} {c : Value → World → Prop} (h : Y n args.toList w c) : callF (orcY l Y) (.func (.yield n) #[] #[]) args w c := by
  show Y n (#[] ++ args).toList w c
  simpa using h
end

/-- what is held apart -/
theorem St.join {w0 w w' : World} {L M : List HP} (h : St w0 w L) (k : St w w' M) : St w0 w' (M ++ L) := by
  obtain ⟨e1, FL, hL, bL⟩ := h
  obtain ⟨e2, FM, hM, bM⟩ := k
  refine ⟨e1.trans e2, fun g => FM g ∨ FL g, sepP_assoc.1 ⟨FM, FL, hM, sepP_keep hL fun g hg => e2.block g (sepP_lt hL hg) fun h => h, fun g hg hg2 => ?_, fun _ => Iff.rfl⟩, fun g hg => ?_⟩
  · have := bM g hg; have := sepP_lt hL hg2; omega
  · have := e1.size
    rcases hg with hg | hg
    · have := bM g hg; omega
    · exact bL g hg

theorem rdFrom_c {w : World} {p : Addr} : ∀ (n i : Nat) (e : List Value), e.length = i + n → (∀ j v, e[j]? = some v → w.cell? (p.add j) = some v) → rdFrom w p i n = some (e.drop i)
  | 0, i, e, hl, _ => by rw [List.drop_eq_nil_of_le (by omega)]; rfl
  | n + 1, i, e, hl, h => by
    have hi : i < e.length := by omega
    have h1 := h i e[i] (List.getElem?_eq_getElem hi)
    have h2 := rdFrom_c n (i + 1) e (by omega) h
    rw [List.drop_eq_getElem_cons hi]
    simp [rdFrom, rd, h1, h2]
/-- a row is read -/
theorem ldA_c {n : Nat} {w : World} {p : Addr} {e : List Value} {c : Array Value → Prop} (hl : e.length = n) (h : ∀ j v, e[j]? = some v → w.cell? (p.add j) = some v) (hc : c e.toArray) : ldA n w p c := by
  unfold ldA
  rw [rdFrom_c n 0 e (by omega) h]
  exact hc

/-! ### the parts, in another order -/
theorem sepP_perm {L M : List HP} (hp : L.Perm M) : ∀ {F w}, sepP L F w → sepP M F w := by
  induction hp with
  | nil => exact id
  | cons x _ ih => rintro F w ⟨F1, F2, h1, h2, h3, h4⟩; exact ⟨F1, F2, h1, ih h2, h3, h4⟩
  | swap x y l => exact fun h => sepP_swap h
  | trans _ _ ih1 ih2 => exact fun h => ih2 (ih1 h)
theorem St.perm {w0 w : World} {L M : List HP} (h : St w0 w L) (hp : L.Perm M) : St w0 w M := ⟨h.ext, by obtain ⟨F, h1, h2⟩ := h.sep; exact ⟨F, sepP_perm hp h1, h2⟩⟩
theorem perm_front : ∀ {L : List HP} {n : Nat} {X : HP}, L[n]? = some X → L.Perm (X :: L.eraseIdx n)
  | [], n, X, h => by simp at h
  | R :: L, 0, X, h => by simp at h; subst h; exact .refl _
  | R :: L, n + 1, X, h => ((perm_front (L := L) (n := n) (by simpa using h)).cons R).trans (.swap _ _ _)
theorem perm_f (n : Nat) {L M : List HP} {X : HP} (e : L[n]? = some X) (h : (L.eraseIdx n).Perm M) : L.Perm (X :: M) := by
  have := perm_front e
  exact this.trans (h.cons X)
end Go.Ev
