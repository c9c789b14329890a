/-
  Layer 4: rows that are owned; whether a program is accepted; the law of what is never come to.
-/
import Derived.Test.YtinieegaaimilaaCw
set_option linter.unusedSimpArgs false
set_option linter.unusedVariables false
set_option maxRecDepth 100000
namespace Go.Proofs.Ytinieegaaimilaa
open Go Go.Ev Go.Proofs

theorem flat_len {A : Type} {sz : Nat} : ∀ {es : List (List A)}, (∀ e ∈ es, e.length = sz) → es.flatten.length = es.length * sz
  | [], _ => by simp
  | e :: es, h => by
    have := flat_len (es := es) fun x hx => h x (by simp [hx])
    have he := h e (by simp)
    simp only [List.flatten_cons, List.length_append, List.length_cons, Nat.add_mul, Nat.one_mul]; omega
theorem flat_get {A : Type} {sz : Nat} : ∀ {es : List (List A)}, (∀ e ∈ es, e.length = sz) → ∀ {i j : Nat} {e : List A}, es[i]? = some e → j < sz → es.flatten[i * sz + j]? = e[j]?
  | [], _, i, j, e, he, _ => by simp at he
  | x :: es, h, 0, j, e, he, hj => by
    have hx := h x (by simp)
    simp at he; subst he
    rw [List.flatten_cons, Nat.zero_mul, Nat.zero_add, List.getElem?_append_left (by omega)]
  | x :: es, h, i + 1, j, e, he, hj => by
    have hx := h x (by simp)
    rw [List.flatten_cons, List.getElem?_append_right (by rw [hx, Nat.add_mul]; omega), hx, Nat.add_mul, Nat.one_mul]
    rw [show i * sz + sz + j - sz = i * sz + j by omega]
    exact flat_get (fun y hy => h y (by simp [hy])) (by simpa using he) hj
theorem flat_set {A : Type} {sz : Nat} : ∀ {es : List (List A)}, (∀ e ∈ es, e.length = sz) → ∀ {i j : Nat} {e : List A} {v : A}, es[i]? = some e → j < sz → es.flatten.set (i * sz + j) v = (es.set i (e.set j v)).flatten
  | [], _, i, j, e, v, he, _ => by simp at he
  | x :: es, h, 0, j, e, v, he, hj => by
    have hx := h x (by simp)
    simp at he; subst he
    rw [List.flatten_cons, Nat.zero_mul, Nat.zero_add, List.set_append_left (h := by omega)]; rfl
  | x :: es, h, i + 1, j, e, v, he, hj => by
    have hx := h x (by simp)
    rw [List.flatten_cons, List.set_append_right (h := by rw [hx, Nat.add_mul]; omega), hx, Nat.add_mul, Nat.one_mul]
    rw [show i * sz + sz + j - sz = i * sz + j by omega, flat_set (fun y hy => h y (by simp [hy])) (by simpa using he) hj]; rfl
theorem adr_add (p : Addr) (a b : Nat) : (p.add a).add b = p.add (a + b) := by
  by_cases ha : a = 0
  · subst ha; simp [Addr.add]
  · by_cases hb : b = 0
    · subst hb; simp [Addr.add]
    · have : a + b ≠ 0 := by omega
      simp [Addr.add, ha, hb, this, Nat.add_assoc]
theorem rws_flat {sz : Nat} {w : World} {s : Sl} {es : List (List Value)} (h : Rws sz w s es) (hsz : 0 < sz) : Sls sz w s es.flatten := by
  have hall : ∀ e ∈ es, e.length = sz := fun e he => by
    obtain ⟨i, hi, rfl⟩ := List.getElem_of_mem he
    exact (h.row i _ (List.getElem?_eq_getElem hi)).1
  refine ⟨by rw [flat_len hall, h.len], fun i v hv => ?_⟩
  have hlt : i < es.length * sz := by rw [← flat_len hall]; exact (List.getElem?_eq_some_iff.1 hv).1
  have hq : i / sz < es.length := Nat.div_lt_of_lt_mul (by rw [Nat.mul_comm]; exact hlt)
  have hr : i % sz < sz := Nat.mod_lt _ hsz
  have he : i / sz * sz + i % sz = i := by rw [Nat.mul_comm]; exact Nat.div_add_mod i sz
  have hx := List.getElem?_eq_getElem hq
  have hg := flat_get hall hx hr
  rw [he, hv] at hg
  obtain ⟨_, p, hp, hcell⟩ := h.row _ _ hx
  have := hcell _ _ hg.symm
  rw [adr_add, he] at this
  exact ⟨p, hp, this⟩
theorem sls_rws {sz : Nat} {w : World} {s : Sl} {es : List (List Value)} (h : Sls sz w s es.flatten) (hsz : 0 < sz) (hall : ∀ e ∈ es, e.length = sz) : Rws sz w s es := by
  have hl : es.length * sz = s.n * sz := by rw [← flat_len hall]; exact h.len
  refine ⟨Nat.eq_of_mul_eq_mul_right hsz hl, fun i e he => ?_⟩
  have hlen := hall e (List.mem_of_getElem? he)
  refine ⟨hlen, ?_⟩
  have h0 := flat_get hall he hsz
  obtain ⟨p, hp, _⟩ := h.cell (i * sz + 0) e[0] (by rw [h0]; exact List.getElem?_eq_getElem (by omega))
  refine ⟨p, hp, fun j v hv => ?_⟩
  have hj : j < sz := by have := (List.getElem?_eq_some_iff.1 hv).1; omega
  obtain ⟨p', hp', hc⟩ := h.cell (i * sz + j) v (by rw [flat_get hall he hj]; exact hv)
  rw [hp] at hp'; cases hp'
  rw [adr_add]; exact hc
theorem code_own {w0 w : World} {L : List HP} {s : Sl} {l : List (List Int)} {f : HP → List HP} (h : St w0 w L) [a : At L (slc 5 s) (l.map Go.Ev.ints).flatten f] (h5 : ∀ x ∈ l, x.length = 5 ∧ ∀ y ∈ x, InI y) (few : l.length * 40 ≤ reachBytes) : Code5 w s l :=
  ⟨sls_rws (h.own (sz := 5) (s := s) (vs := (l.map Go.Ev.ints).flatten)).sls (by omega) (fun e he => by obtain ⟨x, hx, rfl⟩ := List.mem_map.1 he; simp [Go.Ev.ints, (h5 x hx).1]), h5, few⟩
theorem funcs_own {w0 w : World} {L : List HP} {s : Sl} {P : List FnR} {f : HP → List HP} (h : St w0 w L) [a : At L (slc 2 s) (P.map FnR.cells).flatten f] (hP : ∀ x ∈ P, InI x.needs ∧ Code5 w x.sl x.code) (few : P.length * 32 ≤ reachBytes) : Funcs5 w s P :=
  ⟨sls_rws (h.own (sz := 2) (s := s) (vs := (P.map FnR.cells).flatten)).sls (by omega) (fun e he => by obtain ⟨x, hx, rfl⟩ := List.mem_map.1 he; rfl), hP, few⟩

/-! ### small programs, programs that are accepted -/
structure Few (P : List FnR) : Prop where
  n : P.length ≤ 40
  c : ∀ f ∈ P, f.code.length ≤ 140
theorem few_s {w : World} {ps : Sl} {P : List FnR} {k : Bool → World → Prop} (hF : Funcs5 w ps P) (hc : ∀ b w', St w w' [] → (b = true → Few P) → k b w') : pelotonlaw02_Few #[.slice ps.a ps.n ps.c] w k := by
  have hpn := hF.len
  unfold pelotonlaw02_Few
  refine newC_h (.nil w) fun g1 w2 h => ?_
  refine loopP_of (fun (i : Int) w' => ∃ dn rest, P = dn ++ rest ∧ i = (dn.length : Int) ∧ dn.length ≤ 41 ∧ (∀ f ∈ dn, f.code.length ≤ 140) ∧ St w w' [blk g1 [.slice ps.a ps.n ps.c]]) (fun i _ => (41 - i).toNat) ⟨[], P, rfl, rfl, by simp, by simp, h⟩ ?_
  rintro _ w5 ⟨dn, rest, hl, rfl, h41, hd, h⟩ C hC
  refine ldS_h (g := g1) (o := 0) h rfl (iteB_i (fun hb => ?_) fun hb => ?_)
  · simp only [Bool.and_eq_true, decide_eq_true_eq] at hb
    have hlt : dn.length < P.length := by omega
    obtain ⟨f, rest, rfl⟩ : ∃ f r, rest = f :: r := by
      cases rest with
      | nil => rw [hl] at hlt; simp at hlt
      | cons f r => exact ⟨f, r, rfl⟩
    have hx : P[dn.length]? = some f := by rw [hl]; simp
    have hcd := (hF.code f (List.mem_of_getElem? hx)).2
    have hcl := hcd.len
    refine ldS_h (g := g1) (o := 0) h rfl ?_
    refine ixR_h (e := FnR.cells f) hF.rws h (by omega) (by rw [List.getElem?_map, Int.toNat_natCast, hx]; rfl) fun p hp => ldS_i (s := f.sl) (hp h rfl) (iteB_i (fun hb2 => ?_) fun hb2 => ?_)
    · exact hc _ _ h.all fun q => by cases q
    · have hle : f.code.length ≤ 140 := by have := of_decide_eq_false hb2; omega
      have hw1 : IntKind.wrap .i64 ((dn.length : Int) + 1) = ((dn ++ [f]).length : Int) := by rw [wrap_id ⟨by omega, by omega⟩]; simp
      rw [hw1]
      refine hC _ _ ⟨dn ++ [f], rest, by rw [hl]; simp, rfl, by simp; omega, fun q hq => ?_, h⟩ (by simp; omega)
      rcases List.mem_append.1 hq with hq | hq
      · exact hd q hq
      · simp at hq; rw [hq]; exact hle
  · refine ldS_h (g := g1) (o := 0) h rfl (hc _ _ h.all fun q => ?_)
    have hle : P.length ≤ 40 := by have := of_decide_eq_true q; dsimp only at this; omega
    refine ⟨hle, fun f hf => ?_⟩
    cases rest with
    | nil => rw [hl] at hf; simp at hf; exact hd f hf
    | cons g r =>
      have h1 : dn.length < P.length := by rw [hl]; simp
      exfalso
      dsimp only at hb
      rw [decide_eq_true (by omega), decide_eq_true (by omega)] at hb
      cases hb
theorem accepts_s {w : World} {ps : Sl} {P : List FnR} {k : Bool → World → Prop} (hF : Funcs5 w ps P) (hc : ∀ w', St w w' [] → k (decide (tri (progF P) = [0, 0, 0])) w') : check_Accepts #[.slice ps.a ps.n ps.c] w k := by
  unfold check_Accepts check_Accepts_b
  refine newC_h (.nil w) fun g w2 h => ldW_h (g := g) h rfl (program_s (hF.ext h.ext) fun w' h2 => ?_)
  have h := h.on h2.ext
  exact eqA_I (n := 3) (xs := tri (progF P)) (ys := [0, 0, 0]) rfl rfl (hc w' h.all)

/-! ### what is never come to -/
theorem andI_comm (a b : Int) : andI .i64 a b = andI .i64 b a := by rw [andI_bv, andI_bv, BitVec.and_comm]
def ret : List Int := [16, 0, 0, 0, 0]
theorem dead_way {l : List (List Int)} {h i : Int} (hw : Way (ret :: l) h i) : i = 0 := by
  induction hw with
  | zero => rfl
  | @next i z _ _ hz ih =>
    subst ih
    have e : (ret :: l).getD (0 : Int).toNat [] = ret := rfl
    rw [e] at hz
    have : behind (ret :: l).length 0 ret = [] := by
      unfold behind yA yB; simp [ret, isGoes, isEnds]
    rw [this] at hz; cases hz
theorem dead_held {l : List (List Int)} {needs : Int} : (heldL (ret :: l) needs).getD 0 0 = andI .i64 needs 255 ∧ ∀ i : Nat, 0 < i → i < (ret :: l).length → (heldL (ret :: l) needs).getD i 0 = 255 := by
  constructor
  · rw [heldL_get (by simp)]
    have hb := and_le (a := 255) (b := needs) (by omega) (by omega)
    rw [andI_comm] at hb
    rw [← rs_tb hb.1 hb.2]
    refine rs_congr fun h hh => ?_
    rw [tb_and _ _ (by omega), tb255 hh, Bool.and_true]
    cases hq : heldB (ret :: l) needs ((0 : Nat) : Int) h with
    | true =>
      rcases heldB_iff.1 hq with q | q
      · exact q.symm
      · exact (q .zero).elim
    | false =>
      cases ht : tb needs h with
      | false => rfl
      | true => rw [heldB_iff.2 (.inl ht)] at hq; cases hq
  · intro i h0 h1
    rw [heldL_get h1]
    have : rs (heldB (ret :: l) needs (i : Int)) 8 = rs (fun _ => true) 8 := rs_congr fun h hh => heldB_iff.2 (.inr fun hw => by have := dead_way hw; omega)
    rw [this]; rfl
theorem law_dead {w : World} {s : Sl} {needs : Int} {l : List (List Int)} {k : Bool → World → Prop} (hr : Code5 w s l) (hc : ∀ w', St w w' [] → k true w') : pelotonlaw04_CheckDead needs s w k := by
  have hsn := hr.len
  unfold pelotonlaw04_CheckDead pelotonlaw04_CheckDead_b
  refine iteB_i (fun hb => awake_s hc) fun hb => ?_
  have h140 : s.n ≤ 140 := by have := of_decide_eq_false hb; omega
  refine spl_i (agI ret) rfl (by kernel_rfl) ?_
  refine newC_h (.nil w) fun g w5 h => ?_
  have h : St w w5 [blk g (ints ret)] := h
  have h := h.asS (sz := 5) (g := g) (n := 1) (cs := ints ret) rfl (by omega) one_ints
  have h5 : ∀ x ∈ ret :: l, x.length = 5 ∧ ∀ y ∈ x, InI y := by
    intro x hx
    rcases List.mem_cons.1 hx with rfl | hx
    · exact ⟨rfl, by decide⟩
    · exact hr.five x hx
  have hone : ∀ v ∈ (l.map Go.Ev.ints).flatten, v.oneCell' = true := by
    intro v hv
    obtain ⟨e, he, hv⟩ := List.mem_flatten.1 hv
    obtain ⟨x, hx, rfl⟩ := List.mem_map.1 he
    exact one_ints v hv
  refine bApp_h (sz := 5) (b := 40) (z := .agg #[.int .i64 0, .int .i64 0, .int .i64 0, .int .i64 0, .int .i64 0]) (s := ⟨some ⟨g, 0, none⟩, 1, 1⟩) (vs := ints ret) (x := s) (ys := (l.map Go.Ev.ints).flatten) h ⟨by kernel_rfl, rfl⟩ (by kernel_rfl) (rws_flat (hr.ext h.ext).rws (by omega)) hone (by simp only; omega) (by simp only; omega) fun s6 w7 h n6 => ?_
  have hcd : Code5 w7 s6 (ret :: l) := code_own (l := ret :: l) h h5 (by have := hr.few; simp [reachBytes] at this ⊢; omega)
  simp only at n6
  refine heldL_s (needs := needs) hcd (by simp; omega) fun s8 w9 h2 n8 => ?_
  have h := St.trans h.ext h2
  have n8' : s8.n = l.length + 1 := by rw [n8]; simp
  have hHl : (heldL (ret :: l) needs).length = l.length + 1 := by rw [heldL_len]; simp
  have hd := dead_held (l := l) (needs := needs)
  refine joinP_i (fun b w' => b = false ∧ w' = w9) (fun J hJ => ?_) ?_
  · refine iteB_f (by have : s8.n = s6.n := by omega
                      rw [this]; simp) ?_
    refine ixI_h (s := s8) (xs := heldL (ret :: l) needs) h (by omega) (by omega) ?_
    rw [show (0 : Int).toNat = 0 from rfl, hd.1]
    exact hJ _ _ ⟨by simp, rfl⟩
  rintro b w14 ⟨rfl, rfl⟩
  refine iteB_f rfl ?_
  refine loopP_of (fun (i : Int) w' => ∃ j : Nat, i = j ∧ 1 ≤ j ∧ j ≤ s8.n ∧ w' = w14) (fun i _ => ((s8.n : Int) - i).toNat) ⟨1, rfl, by omega, by omega, rfl⟩ ?_
  rintro _ _ ⟨j, rfl, hj1, hj, rfl⟩ C hC
  refine iteB_i (fun hb => ?_) fun hb => ?_
  · have hlt : j < s8.n := by have := of_decide_eq_true hb; omega
    have hw1 : IntKind.wrap .i64 ((j : Int) + 1) = ((j + 1 : Nat) : Int) := by rw [wrap_id ⟨by omega, by omega⟩]; simp
    refine ixI_h (s := s8) (xs := heldL (ret :: l) needs) h (by omega) (by omega) ?_
    rw [Int.toNat_natCast, hd.2 j (by omega) (by simp; omega), hw1]
    exact iteB_f (by simp) (hC _ _ ⟨j + 1, rfl, by omega, by omega, rfl⟩ (by omega))
  · exact awake_s fun w' h2 => hc w' (h.all.on h2.ext)
end Go.Proofs.Ytinieegaaimilaa
