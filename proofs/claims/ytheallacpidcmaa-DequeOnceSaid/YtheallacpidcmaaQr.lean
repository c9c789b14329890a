/-
  Layer 10: each thing is taken once.
-/
import Derived.Test.YtheallacpidcmaaQr0
set_option linter.unusedSimpArgs false
set_option linter.unusedVariables false
set_option maxRecDepth 100000
namespace Go.Proofs.Ytheallacpidcmaa
open Go Go.Ev Go.Proofs

section
variable {l0 most j K had : Int} {n next : Nat} {M : Mac} {R : Rg} {ops : Ops} {busy : List Bool} {top : List Int} {ins : List Bool} {pushes : Bool}
theorem Onc.turn (h : Onc l0 most n j K M R ops busy top ins next pushes had) {i g : Nat} {O O' : Dop} {M' : Mac} (hi : i < 4) (hb : busy.getD i false = true) (ho : ops.getD i none = some (g, O)) (hO' : (O.step M i).1 = O') (hM' : (O.step M i).2 = M') (hn2 : (next : Int) ≤ n + 1) (hj : j + 1 ≤ 900) :
    ∃ R', M'.steps = (M.tick i).steps ∧
    ((O'.how = 0 ∧ Onc l0 most n j K M' R' (ops.set i (some (g, O'))) busy top ins next pushes had) ∨
     (O'.how = 2 ∧ 1 ≤ i ∧ Onc l0 most n j K M' R' (ops.set i (some (g, O'))) busy top ins next pushes had) ∨
     (O'.how = 3 ∧ (i = 0 → pushes = false ∧ nums ins = []) ∧ Onc l0 most n j K M' R' (ops.set i (some (g, O'))) (busy.set i false) top ins next pushes had) ∨
     (O'.how = 4 ∧ i = 0 ∧ pushes = true ∧ had = pwr most ∧ Onc l0 most n j K M' R' (ops.set i (some (g, O'))) (busy.set i false) top ins next pushes had) ∨
     (O'.how = 5 ∧ 1 ≤ i ∧ top.getD i 0 < M'.T ∧ Onc l0 most n j K M' R' (ops.set i (some (g, O'))) (busy.set i false) top ins next pushes had) ∨
     (O'.how = 1 ∧ i = 0 ∧ pushes = true ∧ (had ≥ pwr most → top.getD i 0 < M'.T) ∧ Onc l0 most n (j + 1) K M' R' (ops.set i (some (g, O'))) (busy.set i false) top (ins.set next true) (next + 1) pushes had) ∨
     (O'.how = 1 ∧ (i = 0 → pushes = false) ∧ 1 ≤ O'.got ∧ O'.got < next ∧ O'.got < ins.length ∧ ins.getD O'.got.toNat false = true ∧
       (i = 0 → (nums (ins.set O'.got.toNat false)).length = (nums ((ins.set O'.got.toNat false).take O'.got.toNat)).length) ∧ (1 ≤ i → nums ((ins.set O'.got.toNat false).take O'.got.toNat) = []) ∧
       Onc l0 most n j K M' R' (ops.set i (some (g, O'))) (busy.set i false) top (ins.set O'.got.toNat false) next pushes had)) := by
  by_cases h0 : i = 0
  · subst h0
    obtain ⟨R', h1, h2⟩ := h.step_own hb ho hO' hM' hn2 hj
    refine ⟨R', h1, ?_⟩
    rcases h2 with ⟨a, b⟩ | ⟨a, b, c, d⟩ | ⟨a, b, c, d⟩ | ⟨a, b, ⟨r, c⟩, d⟩ | ⟨a, b, c, d⟩
    · exact .inl ⟨a, b⟩
    · exact .inr (.inr (.inr (.inr (.inr (.inl ⟨a, rfl, b, c, d⟩)))))
    · exact .inr (.inr (.inr (.inl ⟨a, rfl, b, c, d⟩)))
    · have hm := nums_mem (l := ins) (g := O'.got) (by rw [c]; simp)
      have h1 := h.ins1 _ hm.2.2
      obtain ⟨e1, e2⟩ := nums_last c
      exact .inr (.inr (.inr (.inr (.inr (.inr ⟨a, fun _ => b, by omega, by omega, hm.2.1, hm.2.2, fun _ => by rw [e1, e2], fun q => by omega, d⟩)))))
    · exact .inr (.inr (.inl ⟨a, fun _ => ⟨b, c⟩, d⟩))
  · obtain ⟨h1, h2⟩ := h.step_thf (by omega) hi hb ho hO' hM'
    refine ⟨R, h1, ?_⟩
    rcases h2 with ⟨a | a, b⟩ | ⟨a, b⟩ | ⟨a, b, c⟩ | ⟨a, ⟨r, c⟩, d⟩
    · exact .inl ⟨a, b⟩
    · exact .inr (.inl ⟨a, by omega, b⟩)
    · exact .inr (.inr (.inl ⟨a, fun q => (h0 q).elim, b⟩))
    · exact .inr (.inr (.inr (.inr (.inl ⟨a, by omega, b, c⟩))))
    · have hm := nums_mem (l := ins) (g := O'.got) (by rw [c]; simp)
      have h1 := h.ins1 _ hm.2.2
      obtain ⟨e1, e2⟩ := nums_first c
      exact .inr (.inr (.inr (.inr (.inr (.inr ⟨a, fun q => (h0 q).elim, by omega, by omega, hm.2.1, hm.2.2, fun q => (h0 q).elim, fun _ => e2, d⟩)))))
end

/-! ### in memory -/
theorem elB {P : Program} {t : TypeId} (h : elInfo P t = some (1, 1, some (.bool false))) : ElS P t 1 1 (.bool false) := ⟨h, rfl⟩
theorem bls_rep (n : Nat) : List.replicate n (Value.bool false) = bls (List.replicate n false) := by simp [bls]
def oopP : Option (Nat × Dop) → HP
  | none => sepHP []
  | some p => opP p.1 p.2
def opV : Option (Nat × Dop) → Value
  | none => .pointer none
  | some p => .pointer (some ⟨p.1, 0, none⟩)
abbrev omem (gm ga gd : Nat) (s28 s30 s32 s34 : Sl) (l0 most : Int) (M : Mac) (ins : List Bool) (ops : Ops) (busy : List Bool) (top : List Int) (T : List HP) : List HP :=
  mach gm M :: blk ga (ints [l0, most]) :: blk gd (ints [0, most]) :: slc 1 s28 (bls ins) :: slc 1 s30 (ops.map opV) :: slc 1 s32 (bls busy) :: slc 1 s34 (ints top) :: T
section
variable {w0 w : World} {L A : List HP}
theorem elP {P : Program} {t : TypeId} (h : elInfo P t = some (1, 8, some (.pointer none))) : ElS P t 1 8 (.pointer none) := ⟨h, rfl⟩
theorem ixVst_h {s : Sl} {vs : List Value} {v : Value} {i : Int} {f : HP → List HP} {c : World → Prop} (h : St w0 w L) [a : At L (slc 1 s) vs f] (h0 : 0 ≤ i) (h1 : i < vs.length) (hv : v.oneCell' = true) (hc : ∀ w', St w0 w' (f (slc 1 s (vs.set i.toNat v))) → c w') : ixS s i 1 fun a => stC w a v c := by
  have hn : vs.length = s.n := by have := h.slen (sz := 1) (s := s) (vs := vs); simpa using this
  refine ixS_h h (by omega) h0 (by omega) fun g o _ _ hs => ?_
  have := hs h a 0 v c (by omega) hv fun w' h' => hc w' (by
    have e : i.toNat * 1 + 0 = i.toNat := by omega
    rwa [e] at h')
  simpa using this
theorem ixPt_h {s : Sl} {vs : List Value} {i : Int} {p : Option Addr} {f : HP → List HP} {c : Option Addr → Prop} (h : St w0 w L) [a : At L (slc 1 s) vs f] (h0 : 0 ≤ i) (h1 : vs[i.toNat]? = some (.pointer p)) (hc : c p) : ixS s i 1 fun a => ldP w a c := by
  have hn : vs.length = s.n := by have := h.slen (sz := 1) (s := s) (vs := vs); simpa using this
  have hlt := (List.getElem?_eq_some_iff.1 h1).1
  refine ixS_h h (by omega) h0 (by omega) fun g o _ hr _ => ldP_i ?_ hc
  have := hr h 0 (.pointer p) (by omega) (by simpa using h1)
  simpa using this
theorem perm_mid {α : Type} {a : α} {A X Y : List α} (h : X.Perm (a :: Y)) : (A ++ X).Perm (a :: (A ++ Y)) := (h.append_left A).trans List.perm_middle
theorem ops_out {i g : Nat} {O : Dop} {ops : Ops} (h : St w0 w (A ++ ops.map oopP)) (hi : i < ops.length) (ho : ops.getD i none = some (g, O)) : St w0 w (opP g O :: (A ++ (ops.map oopP).eraseIdx i)) := by
  have hp := perm_mid (A := A) (perm_at (l := ops.map oopP) (i := i) (by simpa using hi))
  have e : (ops.map oopP)[i]'(by simpa using hi) = opP g O := by
    rw [List.getElem_map]
    have : ops[i] = some (g, O) := by
      rw [List.getD_eq_getElem?_getD, List.getElem?_eq_getElem hi] at ho
      simpa using ho
    rw [this]; rfl
  rw [e] at hp
  exact h.perm hp
theorem ops_drop {i : Nat} {ops : Ops} (h : St w0 w (A ++ ops.map oopP)) (hi : i < ops.length) : St w0 w (A ++ (ops.map oopP).eraseIdx i) :=
  (h.perm (perm_mid (A := A) (perm_at (l := ops.map oopP) (i := i) (by simpa using hi)))).drop
theorem ops_in {i g : Nat} {O : Dop} {ops : Ops} (h : St w0 w (opP g O :: (A ++ (ops.map oopP).eraseIdx i))) (hi : i < ops.length) : St w0 w (A ++ (ops.set i (some (g, O))).map oopP) := by
  have e : (ops.set i (some (g, O))).map oopP = (ops.map oopP).set i (opP g O) := by rw [List.map_set]; rfl
  rw [e]
  exact h.perm (List.perm_middle.symm.trans ((perm_set (l := ops.map oopP) (x := opP g O) (by simpa using hi)).append_left A))
theorem erase_set {i : Nat} {x : Option (Nat × Dop)} {ops : Ops} : ((ops.set i x).map oopP).eraseIdx i = (ops.map oopP).eraseIdx i := by
  rw [List.map_set]
  have : ∀ {l : List HP} {i : Nat} {y : HP}, (l.set i y).eraseIdx i = l.eraseIdx i := by
    intro l
    induction l with
    | nil => intro i y; rfl
    | cons z l ih =>
      intro i y
      cases i with
      | zero => rfl
      | succ i => simp [ih]
  exact this
theorem ops_val {i g : Nat} {O : Dop} {ops : Ops} (ho : ops.getD i none = some (g, O)) (hi : i < ops.length) : (ops.map opV)[i]? = some (.pointer (some ⟨g, 0, none⟩)) := by
  rw [List.getElem?_map]
  rw [List.getD_eq_getElem?_getD, List.getElem?_eq_getElem hi] at ho
  rw [List.getElem?_eq_getElem hi]
  have : ops[i] = some (g, O) := by simpa using ho
  rw [this]; rfl
theorem tick_steps {M : Mac} {i : Nat} (hi : i < M.steps.length) : (M.tick i).steps.getD i 0 = IntKind.wrap .i64 (M.steps.getD i 0 + 1) := by
  unfold Mac.tick
  rw [Int.toNat_natCast]
  exact (getD_set hi).trans (if_pos rfl)

variable {l0 most : Int}
theorem law_once {l : Sl} {es : List (List Int)} {k : Bool → World → Prop} (hR : Rws 3 w l (es.map ints)) (h3 : ∀ x ∈ es, x.length = 3 ∧ ∀ y ∈ x, InI y) (hk : ∀ w', St w w' [] → k true w') : pelotonlaw10_DequeOnce #[.int .i64 l0, .int .i64 most] l w k := by
  have hnl : l.n = es.length := by have := hR.len; simpa using this.symm
  unfold pelotonlaw10_DequeOnce pelotonlaw10_DequeOnce_b
  refine setup_s (wks := 4) (.inr rfl) hk fun hlo hg gm ga gd w20 h => ?_
  have hlg := of_decide_eq_true hlo
  have hle := of_decide_eq_false hg
  refine pow_s (ga := ga) (o := 1) (n := most) h rfl rfl ⟨by omega, by omega⟩ ?_
  have hwn : IntKind.wrap .i64 ((l.n : Int) + 2) = ((es.length + 2 : Nat) : Int) := by rw [wrap_id ⟨by omega, by omega⟩]; omega
  rw [hwn]
  refine mkSl_h h (elB (by kernel_rfl)) rfl (by omega) (by omega) fun s28 w29 h n28 => ?_
  refine mkSl_h (n := 4) h (elP (by kernel_rfl)) rfl (by omega) (by omega) fun s30 w31 h n30 => ?_
  refine mkSl_h (n := 4) h (elB (by kernel_rfl)) rfl (by omega) (by omega) fun s32 w33 h n32 => ?_
  refine mkSl_h (n := 4) h (elI (by kernel_rfl)) rfl (by omega) (by omega) fun s34 w35 h n34 => ?_
  have C0 := calm_began (l0 := l0) (most := most) (wks := 4) (.inr rfl) hlo
  generalize (Mac.new 600 4).began 4 l0 = M0 at *
  have h : St w w35 [slc 1 s34 (ints (List.replicate 4 0)), slc 1 s32 (bls (List.replicate 4 false)), slc 1 s30 (List.map opV (List.replicate 4 none)), slc 1 s28 (bls (List.replicate (es.length + 2) false)), mach gm M0, blk ga (ints [l0, most]), blk gd (ints [0, most])] := by
    rw [ints_rep, bls_rep, bls_rep] at h
    exact h
  have h : St w w35 (omem gm ga gd s28 s30 s32 s34 l0 most M0 (List.replicate (es.length + 2) false) (List.replicate 4 none) (List.replicate 4 false) (List.replicate 4 0) []) := h.perm (by repeat' (first | exact List.Perm.refl _ | refine perm_f 0 rfl ?_ | refine perm_f 1 rfl ?_ | refine perm_f 2 rfl ?_ | refine perm_f 3 rfl ?_ | refine perm_f 4 rfl ?_ | refine perm_f 5 rfl ?_ | refine perm_f 6 rfl ?_ | refine perm_f 7 rfl ?_))
  have h : St w w35 (omem gm ga gd s28 s30 s32 s34 l0 most M0 (List.replicate (es.length + 2) false) (List.replicate 4 none) (List.replicate 4 false) (List.replicate 4 0) ((List.replicate 4 none : Ops).map oopP)) := by
    have h2 : St w w35 (sepHP [] :: sepHP [] :: sepHP [] :: sepHP [] :: omem gm ga gd s28 s30 s32 s34 l0 most M0 (List.replicate (es.length + 2) false) (List.replicate 4 none) (List.replicate 4 false) (List.replicate 4 0) []) := St.shut (A := []) (St.shut (A := []) (St.shut (A := []) (St.shut (A := []) h)))
    exact h2.perm (by
      show List.Perm _ (mach gm M0 :: blk ga (ints [l0, most]) :: blk gd (ints [0, most]) :: slc 1 s28 (bls (List.replicate (es.length + 2) false)) :: slc 1 s30 (List.map opV (List.replicate 4 none)) :: slc 1 s32 (bls (List.replicate 4 false)) :: slc 1 s34 (ints (List.replicate 4 0)) :: [sepHP [], sepHP [], sepHP [], sepHP []])
      exact (List.perm_append_comm (l₁ := [sepHP [], sepHP [], sepHP [], sepHP []]) (l₂ := omem gm ga gd s28 s30 s32 s34 l0 most M0 (List.replicate (es.length + 2) false) (List.replicate 4 none) (List.replicate 4 false) (List.replicate 4 0) [])))
  have O0 : Onc l0 most es.length (0 : Nat) (0 : Nat) M0 ⟨3, l0⟩ (List.replicate 4 none) (List.replicate 4 false) (List.replicate 4 0) (List.replicate (es.length + 2) false) 1 false 0 := by
    have hf : ∀ (m k : Nat), (List.replicate m false).getD k false = false := fun m k => by
      rw [List.getD_eq_getElem?_getD, List.getElem?_replicate]; split <;> rfl
    refine ⟨rfl, rfl, rfl, by simp, ⟨by omega, by omega⟩, fun k hk => ?_, C0.glo, C0.tl, fun _ => C0.len, fun i hi hb => ?_, fun O q => ?_, fun i p h1 h4 hb => ?_, ?_⟩
    · rw [hf] at hk; cases hk
    · rw [hf] at hb; cases hb
    · cases q
    · rw [hf] at hb; cases hb
    · show nums _ = Cont M0 ⟨3, l0⟩ none
      rw [C0.is]
      exact numsF_none _ _ fun k => hf _ k
  refine loopP_of (fun (x : Int × Bool × Int × Int) w' => ∃ (j next : Nat) (M : Mac) (R : Rg) (ops : Ops) (busy : List Bool) (top : List Int) (ins : List Bool), x.1 = next ∧ x.2.2.2 = j ∧ j ≤ es.length ∧ Onc l0 most es.length j j M R ops busy top ins next x.2.1 x.2.2.1 ∧ St w w' (omem gm ga gd s28 s30 s32 s34 l0 most M ins ops busy top (ops.map oopP))) (fun x _ => ((es.length : Int) - x.2.2.2).toNat) ⟨0, 1, _, _, _, _, _, _, rfl, rfl, by omega, O0, h⟩ ?_
  clear h O0 C0
  rintro ⟨_, pushes, had, _⟩ w38 ⟨j, next, M, R, ops, busy, top, ins, rfl, rfl, hj, hO, h⟩ C hCC
  dsimp only
  refine iteB_i (fun hb => ?_) fun _ => awake_s h hk
  have hjl : j < es.length := by have := of_decide_eq_true hb; omega
  have hlo4 := hO.lo; have hlb4 := hO.lb; have hlt4 := hO.lt; have hli := hO.li
  obtain ⟨hx3, hxI⟩ := h3 es[j] (List.getElem_mem hjl)
  have hex : (es.map ints)[((j : Int)).toNat]? = some (ints es[j]) := by rw [List.getElem?_map, Int.toNat_natCast, List.getElem?_eq_getElem hjl]; rfl
  generalize es[j] = x at *
  match x, hx3, hxI, hex with
  | [xa, xd, xx], _, hxI, hex =>
  have hwj : IntKind.wrap .i64 ((j : Int) + 1) = ((j + 1 : Nat) : Int) := by rw [wrap_id ⟨by omega, by omega⟩]; omega
  rw [hwj]
  refine ixR_h (e := ints [xa, xd, xx]) hR h (by omega) hex fun p hp => ldA_c (e := ints [xa, xd, xx]) rfl (fun j v => hp h) ?_
  refine who_s h fun i w42 hi h => ?_
  refine ixBl_h (s := s32) (xs := busy) h (by omega) (by omega) ?_
  rw [Int.toNat_natCast]
  refine joinP_i (fun (y : Bool × Int) w' => ∃ go O ops' busy' top', Onc l0 most es.length j ((j : Int) + 1) M R ops' busy' top' ins next y.1 y.2 ∧ busy'.getD i false = true ∧ ops'.getD i none = some (go, O) ∧ St w w' (opP go O :: omem gm ga gd s28 s30 s32 s34 l0 most M ins ops' busy' top' ((ops'.map oopP).eraseIdx i))) (fun J hJ => ?_) ?_
  · refine iteB_i (fun hb => ?_) fun hb => ?_
    · have hb : busy.getD i false = false := by simpa using hb
      have h : St w w42 (omem gm ga gd s28 s30 s32 s34 l0 most M ins ops busy top ((ops.map oopP).eraseIdx i)) := ops_drop (A := omem gm ga gd s28 s30 s32 s34 l0 most M ins ops busy top []) h (by omega)
      refine ixBlst_h (s := s32) (xs := busy) h (by omega) (by omega) fun w47 h => ?_
      rw [Int.toNat_natCast] at h
      refine ldI_h (g := gd) (o := 0) (n := 0) h rfl (peek_r (gm := gm) (M := M) h ?_)
      have hpk : M.peek 0 = M.T := by
        have hlen := hO.glo.len3
        unfold Mac.peek
        rw [if_pos (show M.given 0 = true from decide_eq_true ⟨by omega, by unfold Mac.len at hlen; omega⟩)]
      rw [hpk]
      refine ixIst_h (s := s34) (xs := top) h (by omega) (by omega) fun w52 h => ?_
      rw [Int.toNat_natCast] at h
      have hbs : (busy.set i true).getD i false = true := by rw [getD_set (by omega), if_pos rfl]
      refine iteB_i (fun hi0 => ?_) fun hi0 => ?_
      · have hi0 := of_decide_eq_true hi0
        refine ldW_h (g := gd) h rfl (steal_s (most := most) h fun go w55 h => ?_)
        refine ixVst_h (s := s30) (vs := ops.map opV) h (by omega) (by simp; omega) rfl fun w57 h => ?_
        rw [Int.toNat_natCast] at h
        refine hJ _ _ ⟨go, Dop.beg most 0 15, ops.set i (some (go, Dop.beg most 0 15)), busy.set i true, top.set i M.T, (hO.up (by omega) (by omega) (by omega)).begin_thf (by omega) hi, hbs, by rw [getD_set (by omega), if_pos rfl], ?_⟩
        unfold omem; rw [erase_set, List.map_set]
        exact h
      · have hi0 := of_decide_eq_false hi0
        have hi0 : i = 0 := by omega
        subst hi0
        refine ixR_h (e := ints [xa, xd, xx]) hR h (by omega) hex fun p hp => ldI_i (n := xd) (hp h rfl) ?_
        refine iteB_i (fun hpu => ?_) fun hpu => ?_
        · refine ldW_h (g := gd) h rfl (push_s (most := most) h fun go w62 h => ?_)
          refine ixVst_h (s := s30) (vs := ops.map opV) h (by omega) (by simp; omega) rfl fun w64 h => ?_
          have ho28 : OwnS 1 w64 s28 (bls ins) := h.own
          refine count_s ho28.sls (by omega) (hJ _ _ ⟨go, Dop.beg most next 0, ops.set 0 (some (go, Dop.beg most next 0)), busy.set 0 true, top.set 0 M.T, hO.begin_own hb (by omega) (.inl ⟨rfl, rfl, rfl⟩), hbs, by rw [getD_set (by omega), if_pos rfl], ?_⟩)
          unfold omem; rw [erase_set, List.map_set]
          exact h
        · refine ldW_h (g := gd) h rfl (pop_s (most := most) h fun go w69 h => ?_)
          refine ixVst_h (s := s30) (vs := ops.map opV) h (by omega) (by simp; omega) rfl fun w71 h => hJ _ _ ⟨go, Dop.beg most 0 8, ops.set 0 (some (go, Dop.beg most 0 8)), busy.set 0 true, top.set 0 M.T, hO.begin_own hb (by omega) (.inr ⟨rfl, rfl⟩), hbs, by rw [getD_set (by omega), if_pos rfl], ?_⟩
          unfold omem; rw [erase_set, List.map_set]
          exact h
    · have hb : busy.getD i false = true := by simpa using hb
      obtain ⟨⟨go, O⟩, hp⟩ := hO.has i hi hb
      exact hJ _ _ ⟨go, O, ops, busy, top, hO.up (by omega) (by omega) (by omega), hb, hp, ops_out (A := omem gm ga gd s28 s30 s32 s34 l0 most M ins ops busy top []) h (by omega) hp⟩
  rintro ⟨pushes, had⟩ w73 ⟨go, O, ops, busy, top, hO, hb, ho, h⟩
  dsimp only at hO ⊢
  have hlo4 := hO.lo; have hlb4 := hO.lb; have hlt4 := hO.lt; have hli := hO.li
  have hst5 := hO.glo.st
  have hcl : M.caller i = true := caller_of hst5 (by omega) (by omega)
  refine steps_s (g := gm) (M := M) h ?_
  rw [if_pos hcl, Int.toNat_natCast]
  refine ixPt_h (s := s30) (vs := ops.map opV) h (by omega) (by rw [Int.toNat_natCast]; exact ops_val ho (by omega)) ?_
  have hfine : O.Fine := by
    by_cases q : i = 0
    · subst q
      have hoo := ownO_is hb ho
      have ht := hO.tl
      rw [hoo] at ht
      exact own_fine ht (hO.own O hoo).1 hO.glo
    · exact thf_fine (hO.thf i (go, O) (by omega) hi hb ho).1
  obtain ⟨R', hsteps, hout⟩ := hO.turn hi hb ho rfl rfl (by have := hO.nx; omega) (by omega)
  refine step_r h hfine hO.glo.ok fun w79 h => ?_
  generalize (O.step M i).1 = O' at *
  generalize (O.step M i).2 = M' at *
  have hst5' : M'.steps.length = 5 := by rw [hsteps]; unfold Mac.tick; simp [hst5]
  have h : St w w79 (opP go O' :: omem gm ga gd s28 s30 s32 s34 l0 most M' ins ops busy top ((ops.map oopP).eraseIdx i)) := h
  refine steps_s (g := gm) (M := M') h ?_
  rw [if_pos (caller_of hst5' (by omega) (by omega)), Int.toNat_natCast, hsteps, tick_steps (by omega)]
  refine iteB_f (by simp) ?_
  refine ixPt_h (s := s30) (vs := ops.map opV) h (by omega) (by rw [Int.toNat_natCast]; exact ops_val ho (by omega)) ?_
  refine got_s (go := go) (O := O') h ?_
  have h : St w w79 (omem gm ga gd s28 s30 s32 s34 l0 most M' ins ops busy top ((ops.set i (some (go, O'))).map oopP)) := ops_in (A := omem gm ga gd s28 s30 s32 s34 l0 most M' ins ops busy top []) h (by omega)
  have hvs : (ops.set i (some (go, O'))).map opV = ops.map opV := by
    rw [List.map_set]
    have := ops_val ho (by omega)
    refine List.ext_getElem? fun k => ?_
    rw [List.getElem?_set]
    split
    · rename_i e; subst e; rw [this]; simp [hlo4, hi]; rfl
    · rfl
  have h : St w w79 (omem gm ga gd s28 s30 s32 s34 l0 most M' ins (ops.set i (some (go, O'))) busy top ((ops.set i (some (go, O'))).map oopP)) := by
    unfold omem; rw [hvs]; exact h
  generalize hops' : ops.set i (some (go, O')) = ops' at *
  refine iteB_i (fun hq => ?_) fun hq => ?_
  · have hq : O'.how = 0 := by simpa using hq
    rcases hout with ⟨_, hN⟩ | ⟨a, _⟩ | ⟨a, _⟩ | ⟨a, _⟩ | ⟨a, _⟩ | ⟨a, _⟩ | ⟨a, _⟩
    · exact hCC _ _ ⟨j + 1, next, M', R', ops', busy, top, ins, rfl, rfl, by omega, hN.up (by omega) (by omega) (by omega), h⟩ (by dsimp only; omega)
    all_goals omega
  have hq : ¬ O'.how = 0 := by simpa using hq
  -- is it still under way?
  obtain ⟨b, hbd⟩ : ∃ b : Bool, b = (O'.how == 2 && xd != 7) := ⟨_, rfl⟩
  refine joinP_i (fun (_ : Unit) w' => St w w' (omem gm ga gd s28 s30 s32 s34 l0 most M' ins ops' (busy.set i b) top (ops'.map oopP))) (fun J hJ => ?_) ?_
  · refine iteB_i (fun h2 => ?_) fun h2 => ?_
    · refine ixR_h (e := ints [xa, xd, xx]) hR h (by omega) hex fun p hp => ldI_i (n := xd) (hp h rfl) ?_
      rw [h2, Bool.true_and] at hbd
      rw [← hbd]
      refine ixBlst_h (s := s32) (xs := busy) h (by omega) (by omega) fun w90 h => hJ _ _ ?_
      rw [Int.toNat_natCast] at h; exact h
    · rw [h2, Bool.false_and] at hbd
      subst hbd
      refine ixBlst_h (s := s32) (xs := busy) h (by omega) (by omega) fun w92 h => hJ _ _ ?_
      rw [Int.toNat_natCast] at h; exact h
  clear h
  rintro _ w94 h
  have hb2 : O'.how ≠ 2 → b = false := fun q => by
    rw [hbd, show (O'.how == 2) = false by simpa using q]; rfl
  refine joinP_i (fun (nx : Int) w' => ∃ (ins' : List Bool) (next' : Nat), nx = next' ∧ Onc l0 most es.length ((j : Int) + 1) ((j : Int) + 1) M' R' ops' (busy.set i b) top ins' next' pushes had ∧ St w w' (omem gm ga gd s28 s30 s32 s34 l0 most M' ins' ops' (busy.set i b) top (ops'.map oopP))) (fun J hJ => ?_) ?_
  · rcases hout with ⟨a, _⟩ | ⟨a, hi1, hN⟩ | ⟨a, hi0, hN⟩ | ⟨a, hi0, hpu, hha, hN⟩ | ⟨a, hi1, hT, hN⟩ | ⟨a, hi0, hpu, hT, hN⟩ | ⟨a, hi0, hg1, hgn, hgl, hgi, hc0, hc1, hN⟩
    · exact (hq a).elim
    · rw [a]
      refine joinP_i (fun c w' => c = true ∧ w' = w94) (fun J2 hJ2 => iteB_t rfl (hJ2 _ _ ⟨rfl, rfl⟩)) ?_
      rintro c w98 ⟨rfl, rfl⟩
      refine iteB_t rfl (joinP_i (fun c w' => c = false ∧ w' = w98) (fun J2 hJ2 => iteB_f (by simp; omega) (hJ2 _ _ ⟨rfl, rfl⟩)) ?_)
      rintro c w103 ⟨rfl, rfl⟩
      exact iteB_f rfl (hJ _ _ ⟨ins, next, rfl, (hN.idle hi1 hi (fun _ => hb)).up (by omega) (by omega) (by omega), h⟩)
    · rw [hb2 (by omega)] at h hJ
      rw [a]
      refine joinP_i (fun c w' => c = true ∧ w' = w94) (fun J2 hJ2 => iteB_f rfl (hJ2 _ _ ⟨rfl, rfl⟩)) ?_
      rintro c w98 ⟨rfl, rfl⟩
      refine iteB_t rfl (joinP_i (fun c w' => c = false ∧ w' = w98) (fun J2 hJ2 => ?_) ?_)
      · refine iteB_i (fun z => ?_) fun z => hJ2 _ _ ⟨rfl, rfl⟩
        have z : i = 0 := by have : (i : Int) = 0 := by simpa using z
                             omega
        obtain ⟨z1, z2⟩ := hi0 z
        rw [z1]
        refine iteB_f rfl ?_
        have ho28 : OwnS 1 w98 s28 (bls ins) := h.own
        refine count_s ho28.sls (by omega) (hJ2 _ _ ⟨?_, rfl⟩)
        rw [z2]; rfl
      rintro c w103 ⟨rfl, rfl⟩
      exact iteB_f rfl (hJ _ _ ⟨ins, next, rfl, hN.up (by omega) (by omega) (by omega), h⟩)
    · rw [hb2 (by omega)] at h hJ
      rw [a]
      refine joinP_i (fun c w' => c = false ∧ w' = w94) (fun J2 hJ2 => iteB_f rfl (hJ2 _ _ ⟨rfl, rfl⟩)) ?_
      rintro c w98 ⟨rfl, rfl⟩
      refine iteB_f rfl (iteB_t rfl ?_)
      subst hi0
      rw [hpu, hha]
      exact iteB_f (by simp) (hJ _ _ ⟨ins, next, rfl, hN.up (by omega) (by omega) (by omega), h⟩)
    · rw [hb2 (by omega)] at h hJ
      rw [a]
      refine joinP_i (fun c w' => c = false ∧ w' = w94) (fun J2 hJ2 => iteB_f rfl (hJ2 _ _ ⟨rfl, rfl⟩)) ?_
      rintro c w98 ⟨rfl, rfl⟩
      refine iteB_f rfl (iteB_f rfl (iteB_t rfl ?_))
      refine joinP_i (fun c w' => c = false ∧ St w w' (omem gm ga gd s28 s30 s32 s34 l0 most M' ins ops' (busy.set i false) top (ops'.map oopP))) (fun J2 hJ2 => ?_) ?_
      · refine drew_h h fun w105 h => iteB_f (by rw [beq_eq_false_iff_ne]; omega) ?_
        refine ldI_h (g := gd) (o := 0) (n := 0) h rfl ?_
        refine ixK_h (s := s34) (xs := top) h (by omega) (by omega) fun p hp => ldI_i (hp h) (peek_r (gm := gm) (M := M') h (samec_1 (hp h) (hp h) (hJ2 _ _ ⟨?_, h⟩)))
        have hpk : M'.peek 0 = M'.T := by
          have hlen := hN.glo.len3
          unfold Mac.peek
          rw [if_pos (show M'.given 0 = true from decide_eq_true ⟨by omega, by unfold Mac.len at hlen; omega⟩)]
        rw [hpk, Int.toNat_natCast, decide_eq_false_iff_not]; omega
      rintro c w112 ⟨rfl, h⟩
      exact iteB_f rfl (hJ _ _ ⟨ins, next, rfl, hN.up (by omega) (by omega) (by omega), h⟩)
    · rw [hb2 (by omega)] at h hJ
      rw [a]
      refine joinP_i (fun c w' => c = false ∧ w' = w94) (fun J2 hJ2 => iteB_f rfl (hJ2 _ _ ⟨rfl, rfl⟩)) ?_
      rintro c w98 ⟨rfl, rfl⟩
      refine iteB_f rfl (iteB_f rfl (iteB_f rfl (iteB_t rfl ?_)))
      subst hi0
      rw [hpu] at hN hJ ⊢
      refine iteB_t rfl ?_
      refine joinP_i (fun (_ : Unit) w' => St w w' (omem gm ga gd s28 s30 s32 s34 l0 most M' ins ops' (busy.set 0 false) top (ops'.map oopP))) (fun J2 hJ2 => ?_) ?_
      · refine iteB_i (fun z => ?_) fun z => hJ2 _ _ h
        have z := of_decide_eq_true z
        refine drew_h h fun w114 h => ldI_h (g := gd) (o := 0) (n := 0) h rfl ?_
        refine ixK_h (s := s34) (xs := top) h (by omega) (by omega) fun p hp => ldI_i (hp h) (peek_r (gm := gm) (M := M') h (samec_1 (hp h) (hp h) ?_))
        have hpk : M'.peek 0 = M'.T := by
          have hlen := hN.glo.len3
          unfold Mac.peek
          rw [if_pos (show M'.given 0 = true from decide_eq_true ⟨by omega, by unfold Mac.len at hlen; omega⟩)]
        have := hT z
        exact iteB_f (by rw [hpk, Int.toNat_natCast, decide_eq_false_iff_not]; omega) (hJ2 _ _ h)
      clear h
      rintro _ w121 h
      have hnx := hO.nx
      refine ixBlst_h (s := s28) (xs := ins) h (by omega) (by omega) fun w123 h => ?_
      rw [Int.toNat_natCast] at h
      have hwx : IntKind.wrap .i64 ((next : Int) + 1) = ((next + 1 : Nat) : Int) := by rw [wrap_id ⟨by omega, by omega⟩]; omega
      rw [hwx]
      exact hJ _ _ ⟨ins.set next true, next + 1, rfl, hN.up (by omega) (by omega) (by omega), h⟩
    · rw [hb2 (by omega)] at h hJ
      have htell : O'.tell = O'.got := tell_done a
      rw [a, htell]
      refine joinP_i (fun c w' => c = false ∧ w' = w94) (fun J2 hJ2 => iteB_f rfl (hJ2 _ _ ⟨rfl, rfl⟩)) ?_
      rintro c w98 ⟨rfl, rfl⟩
      refine iteB_f rfl (iteB_f rfl (iteB_f rfl (iteB_t rfl ?_)))
      refine iteB_f ?_ ?_
      · by_cases z : i = 0
        · rw [hi0 z]; simp
        · have : ((i : Int) == 0) = false := by rw [beq_eq_false_iff_ne]; omega
          rw [this]; rfl
      refine joinP_i (fun c w' => c = false ∧ w' = w98) (fun J2 hJ2 => ?_) ?_
      · refine iteB_f ?_ ?_
        · rw [Bool.or_eq_false_iff, decide_eq_false_iff_not, decide_eq_false_iff_not]; omega
        · refine ixBl_h (s := s28) (xs := ins) h (by omega) (by omega) (hJ2 _ _ ⟨by rw [hgi]; rfl, rfl⟩)
      rintro c w128 ⟨rfl, rfl⟩
      refine iteB_f rfl (ixBlst_h (s := s28) (xs := ins) h (by omega) (by omega) fun w130 h => ?_)
      generalize hins : ins.set O'.got.toNat false = ins2 at *
      have hl2 : ins2.length = es.length + 2 := hN.li
      have cut : ∀ {w' : World} {c : Sl → Prop}, St w w' (omem gm ga gd s28 s30 s32 s34 l0 most M' ins2 ops' (busy.set i false) top (ops'.map oopP)) → (∀ d, Sls 1 w' d (bls (ins2.take O'.got.toNat)) → c d) → slS s28 1 0 O'.got c := by
        intro w' c h hc
        have ho28 : OwnS 1 w' s28 (bls ins2) := h.own
        have hn28 := sls_bl ho28.sls
        refine own_slS ho28 (by omega) (by omega) (by omega) fun d hd hs => hc d ?_
        have e : (List.drop (Int.toNat 0 * 1) (bls ins2)).take ((O'.got.toNat - Int.toNat 0) * 1) = bls (ins2.take O'.got.toNat) := by
          simp [bls, List.map_take]
        rwa [e] at hs
      refine joinP_i (fun c w' => c = false ∧ St w w' (omem gm ga gd s28 s30 s32 s34 l0 most M' ins2 ops' (busy.set i false) top (ops'.map oopP))) (fun J2 hJ2 => ?_) ?_
      · refine drew_h h fun w132 h => ?_
        have h : St w w132 (omem gm ga gd s28 s30 s32 s34 l0 most M' ins2 ops' (busy.set i false) top (ops'.map oopP)) := h
        have ho28 : OwnS 1 w132 s28 (bls ins2) := h.own
        by_cases z : i = 0
        · subst z
          refine iteB_t rfl (cut h fun d hd => ?_)
          refine count_s ho28.sls (by omega) (count_s hd (by simp; omega) ?_)
          refine iteB_f (by rw [hc0 rfl]; simp) (iteB_f rfl (hJ2 _ _ ⟨rfl, h⟩))
        · refine iteB_f (by rw [beq_eq_false_iff_ne]; omega) (iteB_t (by rw [decide_eq_true_eq]; omega) (cut h fun d hd => ?_))
          refine count_s hd (by simp; omega) (hJ2 _ _ ⟨?_, h⟩)
          rw [hc1 (by omega)]; rfl
      clear h
      rintro c w145 ⟨rfl, h⟩
      exact iteB_f rfl (hJ _ _ ⟨ins2, next, rfl, hN.up (by omega) (by omega) (by omega), h⟩)
  clear h
  rintro _ w147 ⟨ins', next', rfl, hN, h⟩
  have hli' := hN.li
  have hlb' := hN.lb
  refine joinP_i (fun c w' => c = false ∧ St w w' (omem gm ga gd s28 s30 s32 s34 l0 most M' ins' ops' (busy.set i b) top (ops'.map oopP))) (fun J hJ => ?_) ?_
  · refine ixBl_h (s := s32) (xs := busy.set i b) h (by omega) (by omega) ?_
    refine iteB_i (fun hq2 => ?_) fun hq2 => hJ _ _ ⟨rfl, h⟩
    have hq2 : (busy.set i b).getD 0 false = false := by simpa using hq2
    have hCa := hN.small hq2
    have hcn := hCa.count
    have hsm := hCa.small
    refine ldW_h (g := gd) h rfl (calm_list_s hCa h fun s152 w153 h => ?_)
    have ha : OwnS 1 w153 s152 (ints (nums ins')) := h.own
    have hb2 : OwnS 1 w153 s28 (bls ins') := h.own
    exact lies_s ha.sls hb2.sls (by omega) (by omega) (fun _ => hJ _ _ ⟨rfl, h.drop⟩) rfl
  clear h
  rintro c w157 ⟨rfl, h⟩
  exact iteB_f rfl (hCC _ _ ⟨j + 1, next', M', R', ops', busy.set i b, top, ins', rfl, rfl, by omega, hN, h⟩ (by dsimp only; omega))
end
end Go.Proofs.Ytheallacpidcmaa
