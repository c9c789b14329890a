/-
  From what a law's function does to the given statement: parameters of whatever types, unchanged; the result true.
-/
import Derived.Test.YtgkfbagclkjilaaEvI
import Derived.OpenShut
import Derived.JoinedOf
import Derived.SizedLaws
set_option linter.unusedSimpArgs false
set_option linter.unusedVariables false
namespace Go.Ev
open Go Go.RowKit Go.ChangeShapes Go.WideShapes

theorem trodAll_below {H : Type} {enc : TypeId × Value → H} {P : Program} (hl : laidOutB P = true) {W W' : World} (hb : Below W.heap.size W W') :
    ∀ {ts : List TypeId} {vs : List Value} {ds : List (DataW H)} {ps : List MemPlace}, ts.all (fun t => P.readableRec t && decide (t < P.types.size)) = true → DataW.TrodAll enc P W 0 (fun _ => true) true ts vs ds ps → (∀ x ∈ ps, x.block < W.heap.size) →
      DataW.TrodAll enc P W' 0 (fun b => decide (b < W.heap.size)) true ts vs ds ps
  | [], [], [], _, _, h, _ => h
  | [], _ :: _, _, _, _, h, _ => h.elim
  | [], [], _ :: _, _, _, h, _ => h.elim
  | _ :: _, [], _, _, _, h, _ => h.elim
  | _ :: _, _ :: _, [], _, _, h, _ => h.elim
  | t :: ts, v :: vs, d :: ds, ps, hr, h, hlt => by
    obtain ⟨p, q, h1, h2, rfl⟩ := h
    simp only [List.all_cons, Bool.and_eq_true, decide_eq_true_eq] at hr
    exact ⟨p, q, Below.trod hl hr.1.1 hr.1.2 h1 hb (fun x hx => hlt x (by simp [hx])), trodAll_below hl hb hr.2 h2 (fun x hx => hlt x (by simp [hx])), rfl⟩

theorem trodAll_lens {H : Type} {enc : TypeId × Value → H} {P : Program} {w : World} {base : Nat} {spare : Nat → Bool} {held : Bool} :
    ∀ {ts : List TypeId} {vs : List Value} {ds : List (DataW H)} {ps : List MemPlace}, DataW.TrodAll enc P w base spare held ts vs ds ps → ds.length = ts.length
  | [], [], [], _, _ => rfl
  | [], _ :: _, _, _, h => h.elim
  | [], [], _ :: _, _, h => h.elim
  | _ :: _, [], _, _, h => h.elim
  | _ :: _, _ :: _, [], _, h => h.elim
  | _ :: _, _ :: _, _ :: _, _, h => by
    obtain ⟨p, q, h1, h2, rfl⟩ := h
    simp [trodAll_lens h2]

/-! ### what comes in -/
/-- cells that read as a type's, with slices of no more than so many bytes -/
def Rdd (P : Program) (w : World) (t : TypeId) (cs : List Value) : Prop :=
  ∃ (H : Type) (enc : TypeId × Value → H) (spare : Nat → Bool) (held : Bool) (fuel : Nat) (d : DataW H) (ps : List MemPlace),
    DataW.trod enc P w 0 spare held fuel t cs = some (d, ps) ∧ ∀ n ∈ d.weights P t, n ≤ reachBytes
/-- an argument -/
structure Arg (P : Program) (w : World) (t : TypeId) (v : Value) : Prop where
  form : ∃ base, Value.okWide P w .any base t v
  reads : Rdd P w t v.cells.toList
def Args (P : Program) (w : World) : List TypeId → List Value → Prop
  | [], [] => True
  | t :: ts, v :: vs => Arg P w t v ∧ Args P w ts vs
  | _, _ => False
theorem Args.cons {P : Program} {w : World} {t : TypeId} {ts : List TypeId} {vs : List Value} (h : Args P w (t :: ts) vs) : ∃ v vs', vs = v :: vs' ∧ Arg P w t v ∧ Args P w ts vs' := by
  cases vs with
  | nil => exact h.elim
  | cons v vs => exact ⟨v, vs, rfl, h.1, h.2⟩
theorem Args.nil {P : Program} {w : World} {vs : List Value} (h : Args P w [] vs) : vs = [] := by
  cases vs with
  | nil => rfl
  | cons v vs => exact h.elim

theorem args_of {H : Type} {enc : TypeId × Value → H} {P : Program} {w : World} :
    ∀ {ts : List TypeId} {vs : List Value} {ds : List (DataW H)} {ps : List MemPlace} {base : Nat}, (∀ (j : Nat) t v, ts[j]? = some t → vs[j]? = some v → Value.okWide P w .any base t v) →
      DataW.TrodAll enc P w 0 (fun _ => true) true ts vs ds ps → (∀ n ∈ DataW.weightsEach P ts ds, n ≤ reachBytes) → Args P w ts vs
  | [], [], [], _, _, _, _, _ => trivial
  | [], _ :: _, _, _, _, _, h, _ => h.elim
  | [], [], _ :: _, _, _, _, h, _ => h.elim
  | _ :: _, [], _, _, _, _, h, _ => h.elim
  | _ :: _, _ :: _, [], _, _, _, h, _ => h.elim
  | t :: ts, v :: vs, d :: ds, _, base, hv, h, hw => by
    obtain ⟨p, q, ⟨fuel, h1⟩, h2, rfl⟩ := h
    simp only [DataW.weightsEach, List.mem_append] at hw
    exact ⟨⟨⟨base, hv 0 t v rfl rfl⟩, ⟨H, enc, _, _, fuel, d, p, h1, fun n hn => hw n (.inl hn)⟩⟩, args_of (fun j t' v' ht hv' => hv (j + 1) t' v' (by simpa using ht) (by simpa using hv')) h2 fun n hn => hw n (.inr hn)⟩

theorem law_lifted {H : Type} {enc : TypeId × Value → H} {C : Checked} {os : Os} {K : FuncId} {fn : Func} {s : ChangeSpec} {tb : TypeId}
    (own : ownKnob C.prog.godebug = none) (started : os.Started) (noInit : C.prog.inits.idxOf? K = none) (hfn : C.prog.funcs[K]? = some fn)
    (witness : ∃ (w : World) (tape : Tape) (i : Input), w.os = os ∧ (w.forCall tape i).Shaped C.prog ∧ i.vars = [] ∧ Input.okWide C.prog (w.forCall tape i) .any w.heap.size K i ∧
      s.pre6 enc C.prog fn [] false (w.forCall tape i).memory i.args ∧ ({} : Assume).holds C.prog (lone (Frame.enter C.prog K i.args .normal) [] (w.forCall tape i)))
    (hvars : s.vars = []) (hl : laidOutB C.prog = true) (hrows : fn.params.toList.all (fun t => C.prog.readableRec t && decide (t < C.prog.types.size)) = true)
    (hres : fn.resultTypes = #[tb]) (htb : C.prog.underlying tb = some .bool)
    (hs : ∀ ds : List (DataW H), ds.length = fn.params.toList.length → s.fn H ds = { results := [.lit (.bool true)], args := ds })
    (walk : ∀ (W : World) (args : Array Value), Args C.prog W fn.params.toList args.toList →
      Calls C.prog K args W fun e W' => e = .returned (.bool true) ∧ Below W.heap.size W W') :
    ReturnsInHanded {} C os K .any (s.pre6 enc C.prog fn [] false) (s.post enc C.prog fn false true false false) := by
  refine returnsInHanded_of_change_sized own started noInit hfn witness ?_
  intro W base args ds gs before hval hW _ hsz _
  have hW' := hW
  obtain ⟨p, q, hA, hV, rfl, hfz, hnd⟩ := hW
  rw [hvars] at hV
  obtain ⟨rfl, rfl⟩ := trodVars_none hV
  have hlen := trodAll_lens hA
  have hvt : s.plain.varTypes C.prog = [] := by simp [DataSpec.varTypes, ChangeSpec.plain, hvars]
  rw [hvt, List.append_nil, List.append_nil] at hsz
  have hargs := args_of (fun j t v ht hv => hval j t v (by simpa using ht) (by simpa using hv)) hA (fun n hn => by simpa using List.all_eq_true.1 hsz n hn)
  refine (walk W args hargs).mono fun e W' ⟨he, bel⟩ => ?_
  subst he
  refine ⟨_, rfl, ds, [], p ++ [], [], p, [], hW', ?_, ?_, ?_, bel.frame _, fun h => by cases h⟩
  · rw [List.append_nil, hs ds hlen, hres]
    exact trodAll_mk1 (shut_bool htb _)
  · rw [List.append_nil, hs ds hlen]
    exact trodAll_below hl bel hrows hA fun x hx => hW'.lt x (by simp [hx])
  · rw [List.append_nil, hs ds hlen, hvars]
    exact rfl

section
variable {P : Program} {w : World}

theorem inI_wf {n : Int} (h : (Lit.int .i64 n).wf = true) : InI n := by
  simp [Lit.wf, IntKind.min, IntKind.max, IntKind.signed, IntKind.bits] at h
  exact ⟨by omega, by omega⟩

/-- a number, among cells -/
theorem Rdd.int {t : TypeId} {cs : List Value} (ht : P.underlying t = some (.int .i64)) (h : Rdd P w t cs) : ∃ n, cs = [.int .i64 n] ∧ InI n := by
  obtain ⟨H, enc, spare, held, fuel, d, ps, h, _⟩ := h
  cases fuel with
  | zero => simp [DataW.trod] at h
  | succ m =>
    unfold DataW.trod at h
    rw [ht] at h
    split at h <;> simp_all
    rename_i hk
    obtain ⟨⟨_, h2⟩, _⟩ := h
    subst hk
    exact inI_wf h2
theorem Rdd.bool {t : TypeId} {cs : List Value} (ht : P.underlying t = some .bool) (h : Rdd P w t cs) : ∃ n, cs = [.bool n] := by
  obtain ⟨H, enc, spare, held, fuel, d, ps, h, _⟩ := h
  cases fuel with
  | zero => simp [DataW.trod] at h
  | succ m =>
    unfold DataW.trod at h
    rw [ht] at h
    split at h <;> simp_all

theorem weightsAll_mem {H : Type} {e : TypeId} : ∀ {ds : List (DataW H)} {d : DataW H} {n : Nat}, d ∈ ds → n ∈ d.weights P e → n ∈ DataW.weightsAll P e ds
  | d0 :: ds, d, n, hd, hn => by
    simp only [DataW.weightsAll, List.mem_append]
    rcases List.mem_cons.1 hd with rfl | hd
    · exact .inl hn
    · exact .inr (weightsAll_mem hd hn)

/-- a struct: its fields -/
theorem Rdd.struct {t : TypeId} {fs : Array Field} {cs : List Value} (ht : P.underlying t = some (.struct fs)) (h : Rdd P w t cs) :
    cs.length = P.cellsOf t ∧ ∀ (i : Nat) (f : Field), fs[i]? = some f → Rdd P w f.type ((cs.drop f.offset).take (P.cellsOf f.type)) := by
  obtain ⟨H, enc, spare, held, fuel, d, ps, h, hw⟩ := h
  obtain ⟨xs, n, _, hx, hl, hxl, hall⟩ := DataW.trod_struct ht h
  cases hx
  refine ⟨hl, fun i f hf => ?_⟩
  have hi : i < xs.length := by rw [hxl]; exact (Array.getElem?_eq_some_iff.1 hf).1
  have := hall i f hf
  rw [List.getElem?_eq_getElem hi] at this
  refine ⟨H, enc, spare, held, n, xs[i].1, xs[i].2, this, fun m hm => hw m ?_⟩
  simp only [DataW.weights, ht]
  exact DataW.weights_mem_each (j := i) (t := f.type) (d := xs[i].1) (by simp [hf]) (by simp [hi]) m hm

/-- an array: its elements -/
theorem Rdd.array {t e : TypeId} {k : Nat} {cs : List Value} (ht : P.underlying t = some (.array k e)) (h : Rdd P w t cs) :
    cs.length = P.cellsOf t ∧ ∀ i, i < k → Rdd P w e ((cs.drop (i * P.cellsOf e)).take (P.cellsOf e)) := by
  obtain ⟨H, enc, spare, held, fuel, d, ps, h, hw⟩ := h
  obtain ⟨xs, n, _, hx, hl, hxl, hall⟩ := DataW.trod_array ht h
  cases hx
  refine ⟨hl, fun i hi => ?_⟩
  have := hall i hi
  rw [List.getElem?_eq_getElem (by omega)] at this
  refine ⟨H, enc, spare, held, n, xs[i].1, xs[i].2, this, fun m hm => hw m ?_⟩
  simp only [DataW.weights, ht]
  exact weightsAll_mem (List.mem_map.2 ⟨xs[i], List.getElem_mem _, rfl⟩) hm

/-- a slice's rows, sz cells each -/
structure Rws (sz : Nat) (w : World) (s : Sl) (es : List (List Value)) : Prop where
  len : es.length = s.n
  row : ∀ i e, es[i]? = some e → e.length = sz ∧ ∃ p, s.a = some p ∧ ∀ j v, e[j]? = some v → w.cell? ((p.add (i * sz)).add j) = some v
theorem Rws.keep {S : Nat → Prop} {sz : Nat} {w w' : World} {s : Sl} {es : List (List Value)} (h : Rws sz w s es) (ho : Only S w w') (hs : ∀ p, s.a = some p → ¬ S p.block) : Rws sz w' s es :=
  ⟨h.len, fun i e he => by
    obtain ⟨h1, p, hp, hc⟩ := h.row i e he
    refine ⟨h1, p, hp, fun j v hv => ho.cell ?_ (hc j v hv)⟩
    have : ((p.add (i * sz)).add j).block = p.block := by rw [block_add, block_add]
    rw [this]; exact hs p hp⟩
theorem Rws.ext {sz : Nat} {w w' : World} {s : Sl} {es : List (List Value)} (h : Rws sz w s es) (ho : Ext w w') : Rws sz w' s es := h.keep ho fun _ _ h => h
theorem ixR_i {w : World} {s : Sl} {es : List (List Value)} {sz : Nat} {i : Int} {c : Addr → Prop} (h : Rws sz w s es) (h0 : 0 ≤ i) (h1 : i < s.n)
    (hc : ∀ p e, es[i.toNat]? = some e → e.length = sz → (∀ j v, e[j]? = some v → w.cell? (p.add j) = some v) → c p) : ixS s i sz c := by
  have hlen := h.len
  obtain ⟨h2, p, hp, hcell⟩ := h.row i.toNat es[i.toNat] (List.getElem?_eq_getElem (by omega))
  unfold ixS
  rw [hp]
  exact ⟨⟨h0, h1⟩, hc _ _ (List.getElem?_eq_getElem (by omega)) h2 hcell⟩
/-- one cell a row -/
theorem Rws.sls {s : Sl} {xs : List Value} (h : Rws 1 w s (xs.map fun v => [v])) : Sls 1 w s xs := by
  refine ⟨by have := h.len; simpa using this, fun i v hv => ?_⟩
  obtain ⟨_, p, hp, hc⟩ := h.row i [v] (by simp [hv])
  refine ⟨p, hp, ?_⟩
  have := hc 0 v rfl
  rwa [Nat.mul_one, add_zero] at this

theorem cells_get {base n : Nat} {a : Addr} {vs : List Value} (h : w.cells? base a n = some vs) : vs.length = n ∧ ∀ j v, vs[j]? = some v → w.cell? (a.add j) = some v := by
  have hs := World.cells?_some h
  refine ⟨by simpa using hs.2.1, fun j v hv => ?_⟩
  have hj := (List.getElem?_eq_some_iff.1 hv).1
  have := hs.2.2 j (by omega)
  rw [this]; exact hv

/-- a slice: its rows -/
theorem Rdd.slice {t e : TypeId} {cs : List Value} (ht : P.underlying t = some (.slice e)) (h : Rdd P w t cs) :
    ∃ (s : Sl) (es : List (List Value)), cs = [.slice s.a s.n s.c] ∧ Rws (P.cellsOf e) w s es ∧ es.length * P.bytesOf e ≤ reachBytes ∧ s.n ≤ s.c ∧ s.c ≤ 9223372036854775807 ∧ ∀ e' ∈ es, Rdd P w e e' := by
  obtain ⟨H, enc, spare, held, fuel, d, ps, h, hw⟩ := h
  rcases DataW.trod_slice ht h with ⟨rfl, _⟩ | ⟨a, len, cap, elems, rest, n, _, rfl, hx, hb, hl, hm, hlen, hel, hsp, hns⟩
  · exact ⟨⟨none, 0, 0⟩, [], rfl, ⟨rfl, fun i e h => by simp at h⟩, by simp, Nat.le_refl _, by simp, by simp⟩
  · cases hx
    simp only [DataW.weights, ht] at hw
    have each : ∀ i, i < len → ∃ vs, w.cells? 0 (a.add (i * P.cellsOf e)) (P.cellsOf e) = some vs ∧ ∃ x, elems[i]? = some x ∧ DataW.trod enc P w 0 spare held n e vs = some x := by
      intro i hi
      have h1 := hel i hi
      rw [List.getElem?_eq_getElem (by omega)] at h1
      cases hc : w.cells? 0 (a.add (i * P.cellsOf e)) (P.cellsOf e) with
      | none => rw [hc] at h1; simp at h1
      | some vs => rw [hc] at h1; exact ⟨vs, rfl, elems[i], List.getElem?_eq_getElem (by omega), h1⟩
    refine ⟨⟨some a, len, cap⟩, (List.range len).map fun i => (w.cells? 0 (a.add (i * P.cellsOf e)) (P.cellsOf e)).getD [], rfl, ⟨by simp, fun i e' he => ?_⟩, ?_, hl, by unfold maxLen at hm; exact hm, fun e' he' => ?_⟩
    · have hi : i < len := by have := (List.getElem?_eq_some_iff.1 he).1; simpa using this
      obtain ⟨vs, hvs, _⟩ := each i hi
      simp [hi, hvs] at he
      subst he
      obtain ⟨h1, h2⟩ := cells_get hvs
      exact ⟨h1, a, rfl, h2⟩
    · have := hw ((elems.length + rest.length) * P.bytesOf e) (by simp)
      simp only [List.length_map, List.length_range] at this ⊢
      exact Nat.le_trans (Nat.mul_le_mul_right _ (by omega)) this
    · obtain ⟨i, hi, rfl⟩ := List.mem_map.1 he'
      obtain ⟨vs, hvs, x, hx, ht'⟩ := each i (by simpa using hi)
      rw [hvs]
      refine ⟨H, enc, spare, held, n, x.1, x.2, ht', fun m hm => hw m ?_⟩
      refine List.mem_cons_of_mem _ (List.mem_append.2 (.inl (weightsAll_mem (List.mem_map.2 ⟨x, List.mem_of_getElem? hx, rfl⟩) hm)))

theorem exists_map {A B : Type} {f : A → B} {G : A → Prop} : ∀ {es : List B}, (∀ e ∈ es, ∃ x, e = f x ∧ G x) → ∃ l : List A, es = l.map f ∧ ∀ x ∈ l, G x
  | [], _ => ⟨[], rfl, by simp⟩
  | e :: es, h => by
    obtain ⟨x, rfl, hx⟩ := h e (by simp)
    obtain ⟨l, rfl, hl⟩ := exists_map (es := es) fun e he => h e (by simp [he])
    exact ⟨x :: l, rfl, fun y hy => by rcases List.mem_cons.1 hy with rfl | hy; exact hx; exact hl y hy⟩

/-- a slice of numbers -/
theorem Rdd.ints {t e : TypeId} {cs : List Value} (ht : P.underlying t = some (.slice e)) (he : P.underlying e = some (.int .i64)) (hc : P.cellsOf e = 1) (hb : P.bytesOf e = 8) (h : Rdd P w t cs) :
    ∃ (s : Sl) (xs : List Int), cs = [.slice s.a s.n s.c] ∧ SlI w s xs ∧ xs.length * 8 ≤ reachBytes ∧ ∀ x ∈ xs, InI x := by
  obtain ⟨s, es, rfl, hr, hbytes, hnc, hcm, hall⟩ := h.slice ht
  obtain ⟨xs, rfl, hx⟩ := exists_map (f := fun n => [Value.int .i64 n]) (G := InI) fun e' he' => (hall e' he').int he
  rw [hc] at hr
  rw [hb] at hbytes
  refine ⟨s, xs, rfl, Rws.sls (by simpa [Go.Ev.ints, Function.comp_def] using hr), by simpa using hbytes, hx⟩

theorem take1 {l : List Value} {i : Nat} {v : Value} (h : (l.drop i).take 1 = [v]) : l[i]? = some v := by
  have := congrArg (·[0]?) h
  simpa [List.getElem?_take, List.getElem?_drop] using this

/-- an array of numbers -/
theorem Rdd.arrI {t e : TypeId} {n : Nat} {cs : List Value} (ht : P.underlying t = some (.array n e)) (he : P.underlying e = some (.int .i64)) (hce : P.cellsOf e = 1) (hct : P.cellsOf t = n)
    (h : Rdd P w t cs) : ∃ xs : List Int, cs = Go.Ev.ints xs ∧ xs.length = n ∧ ∀ y ∈ xs, InI y := by
  obtain ⟨hl, hall⟩ := h.array ht
  rw [hct] at hl
  rw [hce] at hall
  have each : ∀ c ∈ cs, ∃ z, c = .int .i64 z ∧ InI z := by
    intro c hc
    obtain ⟨i, hi, rfl⟩ := List.getElem_of_mem hc
    have h1 := hall i (by omega)
    rw [Nat.mul_one] at h1
    obtain ⟨z, hz, hI⟩ := h1.int he
    have := take1 hz
    rw [List.getElem?_eq_getElem hi] at this
    exact ⟨z, by simpa using this, hI⟩
  obtain ⟨xs, rfl, hx⟩ := exists_map each
  exact ⟨xs, rfl, by simpa using hl, hx⟩

theorem Arg.int {t : TypeId} {v : Value} (ht : P.underlying t = some (.int .i64)) (h : Arg P w t v) : ∃ n, v = .int .i64 n ∧ InI n := by
  obtain ⟨b, hf⟩ := h.form
  obtain ⟨n, rfl⟩ := okWide_int ht hf
  obtain ⟨m, hm, hI⟩ := h.reads.int ht
  have : n = m := by simpa [Value.cells] using hm
  exact ⟨n, rfl, this ▸ hI⟩
theorem Arg.bool {t : TypeId} {v : Value} (ht : P.underlying t = some .bool) (h : Arg P w t v) : ∃ n, v = .bool n := by
  obtain ⟨b, hf⟩ := h.form
  exact okWide_bool ht hf
theorem Arg.agg {t : TypeId} {v : Value} (ht : (∃ n e, P.underlying t = some (.array n e)) ∨ ∃ fs, P.underlying t = some (.struct fs)) (h : Arg P w t v) : ∃ cs, v = .agg cs ∧ Rdd P w t cs.toList := by
  obtain ⟨b, hf⟩ := h.form
  have hv : ∃ cs, v = .agg cs := by
    rcases ht with ⟨n, e, ht⟩ | ⟨fs, ht⟩
    all_goals
      simp only [Value.okWide, ht] at hf
      obtain ⟨cs, h1, _⟩ := hf
      exact ⟨cs, h1⟩
  obtain ⟨cs, rfl⟩ := hv
  exact ⟨cs, rfl, by simpa [Value.cells] using h.reads⟩
theorem Arg.slice {t e : TypeId} {v : Value} (ht : P.underlying t = some (.slice e)) (h : Arg P w t v) : ∃ s : Sl, v = .slice s.a s.n s.c ∧ Rdd P w t [v] := by
  obtain ⟨b, hf⟩ := h.form
  obtain ⟨a, n, c, rfl⟩ := okWide_slice ht hf
  exact ⟨⟨a, n, c⟩, rfl, by simpa [Value.cells] using h.reads⟩
theorem Arg.ints {t e : TypeId} {v : Value} (ht : P.underlying t = some (.slice e)) (he : P.underlying e = some (.int .i64)) (hc : P.cellsOf e = 1) (hb : P.bytesOf e = 8) (h : Arg P w t v) :
    ∃ (s : Sl) (xs : List Int), v = .slice s.a s.n s.c ∧ SlI w s xs ∧ xs.length * 8 ≤ reachBytes ∧ ∀ x ∈ xs, InI x := by
  obtain ⟨s, rfl, hr⟩ := h.slice ht
  obtain ⟨s', xs, h1, h2, h3, h4⟩ := hr.ints ht he hc hb
  have : s = s' := by
    obtain ⟨a, n, c⟩ := s; obtain ⟨a', n', c'⟩ := s'
    simpa using h1
  subst this
  exact ⟨s, xs, rfl, h2, h3, h4⟩
theorem Arg.arrI {t e : TypeId} {n : Nat} {v : Value} (ht : P.underlying t = some (.array n e)) (he : P.underlying e = some (.int .i64)) (hce : P.cellsOf e = 1) (hct : P.cellsOf t = n) (h : Arg P w t v) :
    ∃ xs : List Int, v = .agg (Go.Ev.ints xs).toArray ∧ xs.length = n ∧ ∀ y ∈ xs, InI y := by
  obtain ⟨cs, rfl, hr⟩ := h.agg (.inl ⟨n, e, ht⟩)
  obtain ⟨xs, h1, h2, h3⟩ := hr.arrI ht he hce hct
  exact ⟨xs, by rw [← h1], h2, h3⟩
end

/-! ### flat types: numbers alone -/
def flatB (P : Program) : Nat → TypeId → Bool
  | 0, _ => false
  | n + 1, t => match P.underlying t with
    | some (.int .i64) => true
    | some (.struct fs) => fs.all (fun f => flatB P n f.type) && (List.range (P.cellsOf t)).all fun j => fs.any fun f => decide (f.offset ≤ j ∧ j < f.offset + P.cellsOf f.type)
    | some (.array k e) => flatB P n e && decide (P.cellsOf t = k * P.cellsOf e) && decide (0 < P.cellsOf e)
    | _ => false

theorem mem_part {cs : List Value} {o n j : Nat} (h0 : o ≤ j) (h1 : j < o + n) (h2 : j < cs.length) : cs[j] ∈ (cs.drop o).take n := by
  apply List.mem_of_getElem? (i := j - o)
  rw [List.getElem?_take_of_lt (by omega), List.getElem?_drop, show o + (j - o) = j by omega, List.getElem?_eq_getElem h2]

theorem Rdd.flat {P : Program} {w : World} : ∀ {n : Nat} {t : TypeId} {cs : List Value}, flatB P n t = true → Rdd P w t cs → ∀ c ∈ cs, ∃ z, c = .int .i64 z ∧ InI z
  | 0, _, _, h, _ => by cases h
  | n + 1, t, cs, h, hr => by
    unfold flatB at h
    split at h
    · rename_i ht
      obtain ⟨z, rfl, hz⟩ := hr.int ht
      intro c hc
      rw [List.mem_singleton] at hc
      exact ⟨z, hc, hz⟩
    · rename_i fs ht
      obtain ⟨hl, hf⟩ := hr.struct ht
      simp only [Bool.and_eq_true, List.all_eq_true] at h
      intro c hc
      obtain ⟨j, hj, rfl⟩ := List.getElem_of_mem hc
      have h2 := h.2 j (by simp; omega)
      obtain ⟨i, hi, hfi⟩ := Array.any_eq_true.1 h2
      have hfi := of_decide_eq_true hfi
      have hflat := (Array.all_eq_true.1 h.1) i hi
      exact Rdd.flat hflat (hf i fs[i] (by simp)) _ (mem_part hfi.1 hfi.2 hj)
    · rename_i k e ht
      obtain ⟨hl, hf⟩ := hr.array ht
      simp only [Bool.and_eq_true, decide_eq_true_eq] at h
      obtain ⟨⟨h1, h2⟩, h3⟩ := h
      intro c hc
      obtain ⟨j, hj, rfl⟩ := List.getElem_of_mem hc
      have hdiv : j / P.cellsOf e < k := by
        rw [Nat.div_lt_iff_lt_mul h3]; omega
      have hm := Nat.div_add_mod j (P.cellsOf e)
      have hlt := Nat.mod_lt j h3
      rw [Nat.mul_comm] at hm
      exact Rdd.flat h1 (hf (j / P.cellsOf e) hdiv) _ (mem_part (by omega) (by omega) hj)
    · cases h

theorem Rdd.len {P : Program} {w : World} {t : TypeId} {cs : List Value} (ht : (∃ n e, P.underlying t = some (.array n e)) ∨ ∃ fs, P.underlying t = some (.struct fs)) (h : Rdd P w t cs) : cs.length = P.cellsOf t := by
  rcases ht with ⟨n, e, ht⟩ | ⟨fs, ht⟩
  · exact (h.array ht).1
  · exact (h.struct ht).1
/-- a struct, or an array, of numbers -/
theorem Arg.flat {P : Program} {w : World} {t : TypeId} {v : Value} {n k : Nat} (ht : (∃ n e, P.underlying t = some (.array n e)) ∨ ∃ fs, P.underlying t = some (.struct fs)) (hf : flatB P n t = true) (hc : P.cellsOf t = k) (h : Arg P w t v) :
    ∃ xs : List Int, v = .agg (Go.Ev.ints xs).toArray ∧ xs.length = k ∧ ∀ y ∈ xs, InI y := by
  obtain ⟨cs, rfl, hr⟩ := h.agg ht
  obtain ⟨xs, hx, hI⟩ := exists_map (hr.flat hf)
  refine ⟨xs, ?_, ?_, hI⟩
  · have : cs = (xs.map (Value.int .i64)).toArray := by rw [← hx]
    rw [this]
  · have := hr.len ht
    rw [hx, hc] at this
    simpa using this

/-! ### a function, called on decoded arguments -/
theorem unV_v : ∀ (k : K) (x : k.T) (c : k.T → Prop), unV k (k.v x) c = c x
  | .i k, x, c => by simp [unV, K.v, toI]
  | .b, x, c => rfl
  | .p, x, c => rfl
  | .a, x, c => rfl
  | .s, x, c => rfl
  | .str, x, c => rfl
  | .m, x, c => rfl
  | .ag, x, c => rfl
  | .raw, x, c => rfl
theorem unL_val : ∀ (ks : List K) (x : KT ks) (c : KT ks → Prop), unL ks (valL ks x) c = c x
  | [], x, c => rfl
  | [k], x, c => unV_v k x c
  | k :: (y :: r), x, c => by
    show unV k (k.v x.1) (fun z => unL (y :: r) (valL (y :: r) x.2) fun xs => c (z, xs)) = c x
    rw [unV_v, unL_val (y :: r)]; rfl
theorem Sound.call {P : Program} {f : FuncId} {aks rks : List K} {F : KT aks → World → (KT rks → World → Prop) → Prop} (h : Sound P f fun args w c => unL aks args fun x => F x w fun r w => c (packV (valL rks r)) w) {args : Array Value} {W : World} {Q : Ending → World → Prop} (x : KT aks) (ha : args.toList = valL aks x)
    (hF : F x W fun r w => Q (.returned (packV (valL rks r))) w) : Calls P f args W Q := by
  refine (h.2 args W (fun v w => Q (.returned v) w) ?_).mono ?_
  · rw [ha]
    show unL aks (valL aks x) _
    rw [unL_val]; exact hF
  · rintro e w' ⟨v, rfl, hv⟩; exact hv
end Go.Ev
