/-
  Arguments that are programs: functions, their instructions.
-/
import Derived.Test.YtgkfbagclkjilaaEvT
set_option linter.unusedSimpArgs false
set_option linter.unusedVariables false
namespace Go.Ev
open Go Go.RowKit

/-- a function: its needs, where its instructions lie, these (five numbers each) -/
structure FnR where
  needs : Int
  sl : Sl
  code : List (List Int)
/-- the types of an instruction, of a row of these, of a function, of a row of these, of a program, of a number -/
structure ProgT (P : Program) (ti tc tf ts tp tn : TypeId) : Prop where
  i : ∃ fs, P.underlying ti = some (.struct fs)
  iflat : flatB P 4 ti = true
  ic : P.cellsOf ti = 5
  ib : P.bytesOf ti = 40
  c : P.underlying tc = some (.slice ti)
  f : ∃ f0 f1 : Field, P.underlying tf = some (.struct #[f0, f1]) ∧ f0.type = tn ∧ f0.offset = 0 ∧ f1.type = tc ∧ f1.offset = 1
  n : P.underlying tn = some (.int .i64)
  nc : P.cellsOf tn = 1
  cc : P.cellsOf tc = 1
  fc : P.cellsOf tf = 2
  fb : P.bytesOf tf = 32
  s : P.underlying ts = some (.slice tf)
  sc : P.cellsOf ts = 1
  p : ∃ f0 : Field, P.underlying tp = some (.struct #[f0]) ∧ f0.type = ts ∧ f0.offset = 0
  pc : P.cellsOf tp = 1

section
variable {P : Program} {w : World} {ti tc tf ts tp tn : TypeId}
/-- a row of instructions -/
structure Code5 (w : World) (s : Sl) (l : List (List Int)) : Prop where
  rws : Rws 5 w s (l.map Go.Ev.ints)
  five : ∀ i ∈ l, i.length = 5 ∧ ∀ y ∈ i, InI y
  few : l.length * 40 ≤ reachBytes
theorem Code5.len {s : Sl} {l : List (List Int)} (h : Code5 w s l) : s.n = l.length := by have := h.rws.len; simp at this; omega
theorem Code5.ext {w' : World} {s : Sl} {l : List (List Int)} (h : Code5 w s l) (he : Ext w w') : Code5 w' s l := ⟨h.rws.ext he, h.five, h.few⟩
theorem Rdd.code (T : ProgT P ti tc tf ts tp tn) {cs : List Value} (h : Rdd P w tc cs) : ∃ (s : Sl) (l : List (List Int)), cs = [.slice s.a s.n s.c] ∧ Code5 w s l := by
  obtain ⟨s, es, rfl, hr, hb, h1, h2, hall⟩ := h.slice T.c
  obtain ⟨fs, hti⟩ := T.i
  obtain ⟨l, rfl, hl⟩ := exists_map (f := Go.Ev.ints) (G := fun i : List Int => i.length = 5 ∧ ∀ y ∈ i, InI y) (es := es) fun e he => by
    obtain ⟨xs, hx, hI⟩ := exists_map ((hall e he).flat T.iflat)
    refine ⟨xs, hx, ?_, hI⟩
    have := (hall e he).len (.inr ⟨fs, hti⟩)
    rw [hx, T.ic] at this; simpa using this
  rw [T.ic] at hr
  refine ⟨s, l, rfl, hr, hl, ?_⟩
  rw [T.ib] at hb; simpa using hb
/-- functions -/
def FnR.cells (x : FnR) : List Value := [.int .i64 x.needs, .slice x.sl.a x.sl.n x.sl.c]
structure Funcs5 (w : World) (s : Sl) (l : List FnR) : Prop where
  rws : Rws 2 w s (l.map FnR.cells)
  code : ∀ x ∈ l, InI x.needs ∧ Code5 w x.sl x.code
  few : l.length * 32 ≤ reachBytes
theorem Funcs5.len {s : Sl} {l : List FnR} (h : Funcs5 w s l) : s.n = l.length := by have := h.rws.len; simp at this; omega
theorem Funcs5.ext {w' : World} {s : Sl} {l : List FnR} (h : Funcs5 w s l) (he : Ext w w') : Funcs5 w' s l := ⟨h.rws.ext he, fun x hx => ⟨(h.code x hx).1, (h.code x hx).2.ext he⟩, h.few⟩
theorem Rdd.func (T : ProgT P ti tc tf ts tp tn) {cs : List Value} (h : Rdd P w tf cs) : ∃ x : FnR, cs = x.cells ∧ InI x.needs ∧ Code5 w x.sl x.code := by
  obtain ⟨f0, f1, hf, e1, e2, e3, e4⟩ := T.f
  obtain ⟨hl, hall⟩ := h.struct hf
  have h0 := hall 0 f0 (by simp)
  have h1 := hall 1 f1 (by simp)
  rw [e1, e2, T.nc] at h0
  rw [e3, e4, T.cc] at h1
  obtain ⟨n, hn, hI⟩ := h0.int T.n
  obtain ⟨s, l, hs, hc⟩ := h1.code T
  refine ⟨⟨n, s, l⟩, ?_, hI, hc⟩
  have hlen : cs.length = 2 := by rw [hl, T.fc]
  match cs, hlen with
  | [a, b], _ => simp at hn hs; simp [FnR.cells, hn, hs]
theorem Rdd.funcs (T : ProgT P ti tc tf ts tp tn) {cs : List Value} (h : Rdd P w ts cs) : ∃ (s : Sl) (l : List FnR), cs = [.slice s.a s.n s.c] ∧ Funcs5 w s l := by
  obtain ⟨s, es, rfl, hr, hb, h1, h2, hall⟩ := h.slice T.s
  obtain ⟨l, rfl, hl⟩ := exists_map (f := FnR.cells) (G := fun x => InI x.needs ∧ Code5 w x.sl x.code) (es := es) fun e he => (hall e he).func T
  rw [T.fc] at hr
  rw [T.fb] at hb
  exact ⟨s, l, rfl, hr, hl, by simpa using hb⟩
theorem Rdd.program (T : ProgT P ti tc tf ts tp tn) {cs : List Value} (h : Rdd P w tp cs) : ∃ (s : Sl) (l : List FnR), cs = [.slice s.a s.n s.c] ∧ Funcs5 w s l := by
  obtain ⟨f0, hf, e1, e2⟩ := T.p
  obtain ⟨hl, hall⟩ := h.struct hf
  have h0 := hall 0 f0 (by simp)
  rw [e1, e2, T.sc] at h0
  have hlen : cs.length = 1 := by rw [hl, T.pc]
  match cs, hlen with
  | [a], _ => exact Rdd.funcs T (by simpa using h0)
theorem Arg.program (T : ProgT P ti tc tf ts tp tn) {v : Value} (h : Arg P w tp v) : ∃ (s : Sl) (l : List FnR), v = .agg #[.slice s.a s.n s.c] ∧ Funcs5 w s l := by
  obtain ⟨f0, hf, e1, e2⟩ := T.p
  obtain ⟨cs, rfl, hr⟩ := h.agg (.inr ⟨_, hf⟩)
  obtain ⟨s, l, hcs, hF⟩ := hr.program T
  refine ⟨s, l, ?_, hF⟩
  congr 1
  exact Array.ext' hcs
end
/-- rows of numbers: a slice of structs of so many -/
theorem Arg.rowsI {P : Program} {w : World} {t e : TypeId} {v : Value} {n k b : Nat} (ht : P.underlying t = some (.slice e)) (he : (∃ n e', P.underlying e = some (.array n e')) ∨ ∃ fs, P.underlying e = some (.struct fs)) (hf : flatB P n e = true) (hk : P.cellsOf e = k) (hb : P.bytesOf e = b) (h : Arg P w t v) :
    ∃ (s : Sl) (es : List (List Int)), v = .slice s.a s.n s.c ∧ Rws k w s (es.map Go.Ev.ints) ∧ (∀ x ∈ es, x.length = k ∧ ∀ y ∈ x, InI y) ∧ es.length * b ≤ reachBytes := by
  obtain ⟨s, rfl, hr⟩ := h.slice ht
  obtain ⟨s', es, h1, h2, h3, h4, h5, hall⟩ := hr.slice ht
  have : s = s' := by
    obtain ⟨a, n, c⟩ := s; obtain ⟨a', n', c'⟩ := s'
    simpa using h1
  subst this
  obtain ⟨l, rfl, hl⟩ := exists_map (f := Go.Ev.ints) (G := fun i : List Int => i.length = k ∧ ∀ y ∈ i, InI y) (es := es) fun e' he' => by
    obtain ⟨xs, hx, hI⟩ := exists_map ((hall e' he').flat hf)
    refine ⟨xs, hx, ?_, hI⟩
    have := (hall e' he').len he
    rw [hx, hk] at this; simpa using this
  rw [hk] at h2
  rw [hb] at h3
  exact ⟨s, l, rfl, h2, hl, by simpa using h3⟩
end Go.Ev
