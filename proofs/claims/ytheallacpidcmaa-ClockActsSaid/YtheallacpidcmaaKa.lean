/-
  Maps of numbers to numbers, over parts of memory; methods through an interface value.
-/
import Derived.Test.YtheallacpidcmaaEvS
import Derived.Test.YtheallacpidcmaaEvU
import Derived.MapKept
set_option linter.unusedSimpArgs false
set_option linter.unusedVariables false
set_option maxRecDepth 100000
namespace Go.Ev
open Go Go.RowKit

/-- a map's entries: key, value, birth -/
def mpE (t : List (Int × Int × Nat)) : List MapEntry := t.map fun x => ⟨.int .i64 x.1, .int .i64 x.2.1, x.2.2⟩
/-- a map, at block g -/
def mp (g : Nat) (l : List (Int × Int)) : HP := exHP fun q : { t : List (Int × Int × Nat) // t.map (fun x => (x.1, x.2.1)) = l } × Nat => obj g (.map (mpE q.1.1).toArray q.2)
def fnd (k : Int) : List (Int × Int × Nat) → Nat → Option (Nat × Value)
  | [], _ => none
  | x :: r, i => if x.1 = k then some (i, .int .i64 x.2.1) else fnd k r (i + 1)
theorem findNow_int (k : Int) : ∀ (t : List (Int × Int × Nat)) (i : Nat), Instr.findNow (.int .i64) (.int .i64 k) (mpE t) i = some (fnd k t i)
  | [], i => rfl
  | x :: r, i => by
    unfold mpE
    simp only [List.map_cons, Instr.findNow, Instr.sameNow, if_true]
    by_cases h : x.1 = k
    · have : (k == x.1) = true := by simp [h]
      rw [this]
      simp [fnd, h]
    · have : (k == x.1) = false := by rw [beq_eq_false_iff_ne]; exact fun q => h q.symm
      rw [this]
      have ih := findNow_int k r (i + 1)
      unfold mpE at ih
      simp only [ih, fnd, if_neg h]
/-- what a map has -/
def mget (l : List (Int × Int)) (k : Int) : Option Int := (l.find? fun x => x.1 == k).map (·.2)
theorem fnd_none {k : Int} : ∀ {t : List (Int × Int × Nat)} {i : Nat}, fnd k t i = none → mget (t.map fun x => (x.1, x.2.1)) k = none
  | [], _, _ => rfl
  | x :: r, i, h => by
    unfold fnd at h
    split at h
    · cases h
    · rename_i hx
      have := fnd_none h
      unfold mget at this ⊢
      simp only [List.map_cons, List.find?_cons]
      rw [show (x.1 == k) = false by rw [beq_eq_false_iff_ne]; exact hx]
      exact this
theorem fnd_some {k : Int} : ∀ {t : List (Int × Int × Nat)} {i j : Nat} {v : Value}, fnd k t i = some (j, v) → i ≤ j ∧ ∃ n x, v = .int .i64 n ∧ mget (t.map fun x => (x.1, x.2.1)) k = some n ∧ t[j - i]? = some x ∧ x.1 = k
  | [], _, _, _, h => by cases h
  | x :: r, i, j, v, h => by
    unfold fnd at h
    split at h
    · rename_i hx
      cases h
      refine ⟨Nat.le_refl _, x.2.1, x, rfl, ?_, by simp, hx⟩
      unfold mget
      simp only [List.map_cons, List.find?_cons]
      rw [show (x.1 == k) = true by simp [hx]]
      rfl
    · rename_i hx
      obtain ⟨h1, n, y, h2, h3, h4, h5⟩ := fnd_some h
      refine ⟨by omega, n, y, h2, ?_, ?_, h5⟩
      · unfold mget at h3 ⊢
        simp only [List.map_cons, List.find?_cons]
        rw [show (x.1 == k) = false by rw [beq_eq_false_iff_ne]; exact hx]
        exact h3
      · rw [show j - i = (j - (i + 1)) + 1 by omega]; simpa using h4
section
variable {P : Program} {w0 w : World} {L : List HP} {g : Nat} {l : List (Int × Int)} {f : HP → List HP}
theorem mp_at (h : St w0 w L) [a : At L (mp g) l f] : ∃ (t : List (Int × Int × Nat)) (n : Nat), t.map (fun x => (x.1, x.2.1)) = l ∧ w.heap[g]? = some (.map (mpE t).toArray n) := by
  obtain ⟨R, ho, hc⟩ := a.out
  obtain ⟨⟨⟨t, ht⟩, n⟩, h⟩ := (ho h).some
  exact ⟨t, n, ht, obj_at (g := g) h⟩
theorem mp_open (h : St w0 w (mp g l :: L)) : ∃ (t : List (Int × Int × Nat)) (n : Nat), t.map (fun x => (x.1, x.2.1)) = l ∧ St w0 w (obj g (.map (mpE t).toArray n) :: L) := by
  obtain ⟨⟨⟨t, ht⟩, n⟩, h⟩ := h.some
  exact ⟨t, n, ht, h⟩
theorem mp_shut {t : List (Int × Int × Nat)} {n : Nat} (h : St w0 w (obj g (.map (mpE t).toArray n) :: L)) : St w0 w (mp g (t.map fun x => (x.1, x.2.1)) :: L) :=
  St.ex (X := fun q : { t' : List (Int × Int × Nat) // t'.map (fun x => (x.1, x.2.1)) = t.map (fun x => (x.1, x.2.1)) } × Nat => obj g (.map (mpE q.1.1).toArray q.2)) (⟨t, rfl⟩, n) h
structure MpT (P : Program) (m k e : TypeId) : Prop where
  m : P.underlying m = some (.map k e)
  k : P.underlying k = some (.int .i64)
  z : zOf P e = some (.int .i64 0)
theorem isKey_int (k : Int) : MapKept.IsKey (.int .i64) (.int .i64 k) := by simp [MapKept.IsKey]
theorem mkMap_h {m : TypeId} {c : Option Nat → World → Prop} (h : St w0 w L) (hc : ∀ g w', St w0 w' (mp g [] :: L) → c (some g) w') : mkMap P m none w c := by
  have hr : (Instr.makeMap m none).run P w = .ok (.map (some w.heap.size)) (w.alloc (.map #[] 0)) := by
    simp only [Instr.makeMap, Sem.run_bind, run_newObj, Result.andThen_ok, Sem.run_pure, World.alloc_eq]
  unfold mkMap
  rw [hr]
  show c (some w.heap.size) _
  refine hc _ _ ?_
  have h2 := alloc_h (.map #[] 0) h
  exact mp_shut (t := []) (n := 0) h2
theorem look_h {m kt et : TypeId} {k : Int} {c : Value → World → Prop} (ht : MpT P m kt et) (h : St w0 w L) [a : At L (mp g) l f] (hc : c (.tuple #[.int .i64 ((mget l k).getD 0), .bool (mget l k).isSome]) w) : look P m (.map (some g)) (.int .i64 k) true w c := by
  obtain ⟨t, n, htl, hb⟩ := mp_at (g := g) h
  have hf := MapKept.run_findKey (P := P) (w := w) (kt := kt) (l := mpE t) ht.k (findNow_int k t 0)
  have hck : ∀ e, (Instr.checkKey e 10000 kt (.int .i64 k)).run P w = .ok () w := fun e => MapKept.run_checkKey (P := P) ht.k (isKey_int k) e 9999
  have hz : (zeroValue et).run P w = .ok (.int .i64 0) w := run_zero ht.z
  unfold look
  cases hq : fnd k t 0 with
  | none =>
    rw [hq] at hf
    have hm := fnd_none hq
    rw [htl] at hm
    rw [hm] at hc
    have hr : (Instr.lookup m (.map (some g)) (.int .i64 k) true).run P w = .ok (.tuple #[.int .i64 0, .bool false]) w := by
      simp only [Instr.lookup, Sem.run_bind, run_kOf ht.m, Result.andThen_ok, MapKept.run_getObj_map hb, Sem.run_pure, hck, hf, hz, if_true]
    rw [hr]; exact hc
  | some r =>
    obtain ⟨j, v⟩ := r
    rw [hq] at hf
    obtain ⟨_, n2, x, rfl, hm, _⟩ := fnd_some hq
    rw [htl] at hm
    rw [hm] at hc
    have hr : (Instr.lookup m (.map (some g)) (.int .i64 k) true).run P w = .ok (.tuple #[.int .i64 n2, .bool true]) w := by
      simp only [Instr.lookup, Sem.run_bind, run_kOf ht.m, Result.andThen_ok, MapKept.run_getObj_map hb, Sem.run_pure, hck, hf, if_true]
    rw [hr]; exact hc
theorem map_erase {α β : Type} (f : α → β) : ∀ (l : List α) (i : Nat), (l.eraseIdx i).map f = (l.map f).eraseIdx i
  | [], _ => rfl
  | _ :: _, 0 => rfl
  | _ :: l, i + 1 => by simp [map_erase f l i]
/-- one that is not there -/
theorem mapPut_h {m kt et : TypeId} {k x : Int} {c : World → Prop} (ht : MpT P m kt et) (h : St w0 w L) [a : At L (mp g) l f] (hno : mget l k = none) (hc : ∀ w', St w0 w' (f (mp g (l ++ [(k, x)]))) → c w') : mapPut P m (.map (some g)) (.int .i64 k) (.int .i64 x) w c := by
  obtain ⟨R, ho, hcl⟩ := a.out
  obtain ⟨t, n, htl, h⟩ := mp_open (ho h)
  have hb := obj_at (g := g) h
  have hf := MapKept.run_findKey (P := P) (w := w) (kt := kt) (l := mpE t) ht.k (findNow_int k t 0)
  have hck : (Instr.checkKey false 10000 kt (.int .i64 k)).run P w = .ok () w := MapKept.run_checkKey (P := P) ht.k (isKey_int k) false 9999
  cases hq : fnd k t 0 with
  | some r =>
    obtain ⟨j, v⟩ := r
    obtain ⟨_, n2, x, rfl, hm, _⟩ := fnd_some hq
    rw [htl, hno] at hm; cases hm
  | none =>
    rw [hq] at hf
    have hset : ∀ o, (setObj g o).run P w = .ok () (w.putObj g o) := fun o => by
      rw [MapKept.run_setObj_map o hb]; rfl
    have hr : (Instr.mapUpdate m (.map (some g)) (.int .i64 k) (.int .i64 x)).run P w = .ok () (w.putObj g (.map ((mpE t).toArray.push ⟨.int .i64 k, .int .i64 x, n⟩) (n + 1))) := by
      simp only [Instr.mapUpdate, Sem.run_bind, run_kOf ht.m, Result.andThen_ok, MapKept.run_getObj_map hb, Sem.run_pure, hck, hf, hset]
    unfold mapPut
    rw [hr]
    refine hc _ (hcl ?_)
    have e : (mpE t).toArray.push ⟨.int .i64 k, .int .i64 x, n⟩ = (mpE (t ++ [(k, x, n)])).toArray := by simp [mpE]
    rw [e]
    have h2 := putObj_h (g := g) (.map (mpE (t ++ [(k, x, n)])).toArray (n + 1)) h
    have h3 := mp_shut h2
    rw [List.map_append, htl] at h3
    exact h3
theorem eraseIdx_filter {k : Int} : ∀ {t : List (Int × Int × Nat)} {j : Nat} {x}, (t.map (·.1)).Nodup → t[j]? = some x → x.1 = k → (t.eraseIdx j).map (fun x => (x.1, x.2.1)) = (t.map fun x => (x.1, x.2.1)).filter fun x => x.1 ≠ k
  | [], j, x, _, h, _ => by simp at h
  | y :: r, 0, x, hn, h, hx => by
    simp only [List.getElem?_cons_zero, Option.some.injEq] at h
    subst h
    rw [List.map_cons, List.nodup_cons] at hn
    simp only [List.eraseIdx_cons_zero, List.map_cons]
    rw [List.filter_cons_of_neg (by simp [hx])]
    symm
    rw [List.filter_eq_self]
    intro z hz
    obtain ⟨u, hu, rfl⟩ := List.mem_map.1 hz
    simp only [ne_eq, decide_eq_true_eq]
    rintro rfl
    exact hn.1 (List.mem_map.2 ⟨u, hu, hx.symm⟩)
  | y :: r, j + 1, x, hn, h, hx => by
    simp only [List.getElem?_cons_succ] at h
    rw [List.map_cons, List.nodup_cons] at hn
    have ih := eraseIdx_filter hn.2 h hx
    simp only [List.eraseIdx_cons_succ, List.map_cons]
    rw [List.filter_cons_of_pos, ih]
    simp only [ne_eq, decide_eq_true_eq]
    rintro e
    exact hn.1 (List.mem_map.2 ⟨x, List.mem_of_getElem? h, by rw [hx, e]⟩)
theorem bDel_h {m kt et t2 : TypeId} {k : Int} {c : Value → World → Prop} (ht : MpT P m kt et) (h : St w0 w L) [a : At L (mp g) l f] (hnd : (l.map (·.1)).Nodup) (hin : (mget l k).isSome = true) (hc : ∀ w', St w0 w' (f (mp g (l.filter fun x => x.1 ≠ k))) → c (.tuple #[]) w') : bDel P #[m, kt] t2 [.map (some g), .int .i64 k] w c := by
  obtain ⟨R, ho, hcl⟩ := a.out
  obtain ⟨t, n, htl, h⟩ := mp_open (ho h)
  have hb := obj_at (g := g) h
  have hf := MapKept.run_findKey (P := P) (w := w) (kt := kt) (l := mpE t) ht.k (findNow_int k t 0)
  have hck : ∀ e, (Instr.checkKey e 10000 kt (.int .i64 k)).run P w = .ok () w := fun e => MapKept.run_checkKey (P := P) ht.k (isKey_int k) e 9999
  have hset : ∀ o, (setObj g o).run P w = .ok () (w.putObj g o) := fun o => by
    rw [MapKept.run_setObj_map o hb]; rfl
  cases hq : fnd k t 0 with
  | none =>
    have hm := fnd_none hq
    rw [htl] at hm; rw [hm] at hin; cases hin
  | some r =>
    obtain ⟨j, v⟩ := r
    rw [hq] at hf
    obtain ⟨_, n2, x, rfl, hm, hx, hxk⟩ := fnd_some hq
    rw [Nat.sub_zero] at hx
    have hr : (Builtin.delete_ #[m, kt] t2 #[.map (some g), .int .i64 k]).run P w = .ok (.tuple #[]) (w.putObj g (.map ((mpE t).toArray.eraseIdxIfInBounds j) n)) := by
      have e0 : (#[m, kt] : Array TypeId)[0]? = some m := rfl
      have e1 : (#[Value.map (some g), .int .i64 k] : Array Value)[0]? = some (.map (some g)) := rfl
      have e2 : (#[Value.map (some g), .int .i64 k] : Array Value)[1]? = some (.int .i64 k) := rfl
      simp only [Builtin.delete_, e0, e1, e2, Sem.run_bind, run_kOf ht.m, Result.andThen_ok, MapKept.run_getObj_map hb, Sem.run_pure, hck, hf, hset]
    unfold bDel
    have e3 : ([Value.map (some g), .int .i64 k] : List Value).toArray = #[.map (some g), .int .i64 k] := rfl
    rw [e3, hr]
    refine hc _ (hcl ?_)
    have hjl : j < t.length := (List.getElem?_eq_some_iff.1 hx).1
    have e : (mpE t).toArray.eraseIdxIfInBounds j = (mpE (t.eraseIdx j)).toArray := by
      unfold mpE
      rw [map_erase]
      simp [Array.eraseIdxIfInBounds, hjl]
    rw [e]
    have h2 := putObj_h (g := g) (.map (mpE (t.eraseIdx j)).toArray n) h
    have h3 := mp_shut h2
    have hnd' : (t.map (·.1)).Nodup := by rw [← htl, List.map_map] at hnd; exact hnd
    rw [eraseIdx_filter hnd' hx hxk, htl] at h3
    exact h3
end

/-! ### methods of a pointer that an interface value holds -/
section
variable {P : Program} {w : World} {t e : TypeId} {i : TypeInfo} {m : Method} {name : String} {a : Addr} {f : FuncId} {orc : Oracle} {args : Array Value} {c : Value → World → Prop}
theorem run_method_p {n : Nat} (hi : P.info? t = some i) (hm : (i.methods.find? fun m => m.name == name) = some m) (hp : m.path = #[]) (hf : m.func = some (f, true)) (hu : P.underlying t = some (.pointer e)) :
    (method (n + 1) t (.pointer (some a)) name).run P w = .ok (f, .pointer (some a)) w := by
  have hti : (typeInfo t).run P w = .ok i w := by simp [typeInfo, hi]
  simp only [method, Sem.run_bind, hti, Result.andThen_ok, hm, hp, Array.toList_empty, List.isEmpty_nil, follow, Sem.run_pure, hf, receiverAt, run_kOf hu, Place.get]
theorem emp_path : (#[] : Array FieldStep).isEmpty = true := rfl
theorem run_wrap {ts : Array TypeId} {t2 : TypeId} {x y : String} : (Builtin.ssaWrapNilChk_ ts t2 #[.pointer (some a), strVal x, strVal y]).run P w = .ok (.pointer (some a)) w := rfl
theorem run_method_v {n : Nat} {s : Sl} {e2 : TypeId} (hi : P.info? t = some i) (hm : (i.methods.find? fun m => m.name == name) = some m) (hp : m.path = #[]) (hf : m.func = some (f, false)) (hu : P.underlying t = some (.pointer e)) (hk : kOf P e = .s) (he : P.underlying e = some (.slice e2)) (hcell : w.cell? a = some (.slice s.a s.n s.c)) :
    (method (n + 1) t (.pointer (some a)) name).run P w = .ok (f, .slice s.a s.n s.c) w := by
  have hti : (typeInfo t).run P w = .ok i w := by simp [typeInfo, hi]
  have hl : (loadVar e a).run P w = .ok (.slice s.a s.n s.c) w := by
    simp only [Sem.run_bind, loadVar, isAgg_no he (by rw [hk]; simp), Bool.false_eq_true, if_false, run_load, hcell, Result.andThen_ok]
  simp only [method, Sem.run_bind, hti, Result.andThen_ok, hm, hp, Array.toList_empty, List.isEmpty_nil, follow, Sem.run_pure, hf, receiverAt, run_kOf hu, Place.get, emp_path, if_true, run_wrap, asAddr, hl]
theorem callM_p (hi : P.info? t = some i) (hm : (i.methods.find? fun m => m.name == name) = some m) (hp : m.path = #[]) (hf : m.func = some (f, true)) (hu : P.underlying t = some (.pointer e)) (hn : P.types.size ≠ 0)
    (h : orc (.func f) (#[.pointer (some a)] ++ args) w c) : callM orc P (.iface t (.pointer (some a))) name args w c := by
  obtain ⟨n, hn⟩ : ∃ n, P.types.size + Made.depth = n + 1 := ⟨P.types.size + Made.depth - 1, by omega⟩
  unfold callM
  dsimp only
  rw [hn, run_method_p hi hm hp hf hu]
  exact h
theorem callM_v {s : Sl} {e2 : TypeId} (hi : P.info? t = some i) (hm : (i.methods.find? fun m => m.name == name) = some m) (hp : m.path = #[]) (hf : m.func = some (f, false)) (hu : P.underlying t = some (.pointer e)) (hk : kOf P e = .s) (he : P.underlying e = some (.slice e2)) (hn : P.types.size ≠ 0) (hcell : w.cell? a = some (.slice s.a s.n s.c))
    (h : orc (.func f) (#[.slice s.a s.n s.c] ++ args) w c) : callM orc P (.iface t (.pointer (some a))) name args w c := by
  obtain ⟨n, hn⟩ : ∃ n, P.types.size + Made.depth = n + 1 := ⟨P.types.size + Made.depth - 1, by omega⟩
  unfold callM
  dsimp only
  rw [hn, run_method_v hi hm hp hf hu hk he hcell]
  exact h
end
end Go.Ev
