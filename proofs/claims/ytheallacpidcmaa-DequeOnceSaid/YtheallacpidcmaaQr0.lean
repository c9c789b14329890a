/-
  Layer 10: an owner and three thieves.
-/
import Derived.Test.YtheallacpidcmaaQq
set_option linter.unusedSimpArgs false
set_option linter.unusedVariables false
set_option maxRecDepth 100000
namespace Go.Proofs.Ytheallacpidcmaa
open Go Go.Ev Go.Proofs

theorem getD_set {α : Type} {l : List α} {i k : Nat} {x d : α} (hi : i < l.length) : (l.set i x).getD k d = if i = k then x else l.getD k d := by
  simp only [List.getD_eq_getElem?_getD, List.getElem?_set]
  by_cases e : i = k
  · subst e; simp [hi]
  · simp [e]
abbrev Ops := List (Option (Nat × Dop))
/-- the owner's operation, if it has one under way -/
def ownO (busy : List Bool) (ops : Ops) : Option Dop := if busy.getD 0 false then (ops.getD 0 none).map (·.2) else none
structure Onc (l0 most : Int) (n : Nat) (j K : Int) (M : Mac) (R : Rg) (ops : Ops) (busy : List Bool) (top : List Int) (ins : List Bool) (next : Nat) (pushes : Bool) (had : Int) : Prop where
  lo : ops.length = 4
  lb : busy.length = 4
  lt : top.length = 4
  li : ins.length = n + 2
  nx : 1 ≤ next ∧ (next : Int) ≤ j + 1
  ins1 : ∀ k, ins.getD k false = true → 1 ≤ k ∧ k < next
  glo : Glo l0 most 5 M R
  tl : Tl K M R (ownO busy ops)
  len : ownO busy ops = none → M.len = R.At + R.pw
  has : ∀ i, i < 4 → busy.getD i false = true → ∃ p, ops.getD i none = some p
  own : ∀ O, ownO busy ops = some O → Own most K M R O ∧ (pushes = true ↔ O.next ≤ 7) ∧ (pushes = true → O.x = next ∧ had = M.B - top.getD 0 0 ∧ had ≤ pwr most ∧ top.getD 0 0 ≤ M.T ∧ (2 ≤ O.next → top.getD 0 0 ≤ O.t))
  thf : ∀ i p, 1 ≤ i → i < 4 → busy.getD i false = true → ops.getD i none = some p → Thf M R (Lof M (ownO busy ops)) p.2 ∧ top.getD i 0 ≤ M.T ∧ (16 ≤ p.2.next → top.getD i 0 ≤ p.2.t)
  is : nums ins = Cont M R (ownO busy ops)
section
variable {l0 most j K had : Int} {n next : Nat} {M : Mac} {R : Rg} {ops : Ops} {busy : List Bool} {top : List Int} {ins : List Bool} {pushes : Bool}
theorem ownO_far {i : Nat} {b : Bool} {x : Option (Nat × Dop)} (hi : 1 ≤ i) (hb : i < busy.length) (ho : i < ops.length) : ownO (busy.set i b) (ops.set i x) = ownO busy ops := by
  unfold ownO
  rw [getD_set hb, getD_set ho]; simp only [if_neg (show ¬ i = 0 by omega)]
theorem ownO_far1 {i : Nat} {b : Bool} (hi : 1 ≤ i) (hb : i < busy.length) : ownO (busy.set i b) ops = ownO busy ops := by
  unfold ownO
  rw [getD_set hb]; simp only [if_neg (show ¬ i = 0 by omega)]
theorem ownO_far2 {i : Nat} {x : Option (Nat × Dop)} (hi : 1 ≤ i) (ho : i < ops.length) : ownO busy (ops.set i x) = ownO busy ops := by
  unfold ownO
  rw [getD_set ho]; simp only [if_neg (show ¬ i = 0 by omega)]
theorem ownO_off {x : Option (Nat × Dop)} (hb : 0 < busy.length) : ownO (busy.set 0 false) (ops.set 0 x) = none := by
  unfold ownO
  rw [getD_set hb]; rfl
theorem ownO_on {g : Nat} {O : Dop} (hb : 0 < busy.length) (ho : 0 < ops.length) : ownO (busy.set 0 true) (ops.set 0 (some (g, O))) = some O := by
  unfold ownO
  rw [getD_set hb, getD_set ho]; rfl
theorem ownO_same {g : Nat} {O : Dop} (hb : busy.getD 0 false = true) (ho : 0 < ops.length) : ownO busy (ops.set 0 (some (g, O))) = some O := by
  unfold ownO
  rw [getD_set ho, if_pos hb]; rfl
theorem ownO_is {g : Nat} {O : Dop} (hb : busy.getD 0 false = true) (ho : ops.getD 0 none = some (g, O)) : ownO busy ops = some O := by
  unfold ownO
  rw [if_pos hb, ho]; rfl
theorem ownO_none (hb : busy.getD 0 false = false) : ownO busy ops = none := by
  unfold ownO
  rw [if_neg (by rw [hb]; simp)]
theorem Own.up {K' : Int} {O : Dop} (h : Own most K M R O) (hK : K ≤ K') : Own most K' M R O :=
  ⟨h.mo, h.how, h.n, fun q => by have := h.kb q; omega, h.b7, h.t7, h.r7, h.g5, h.l7, h.x7, h.c3, h.to5, h.c4, h.c5, h.len, h.b10, h.b14, h.r14, h.t12, h.t13, h.t14, h.won⟩
theorem Onc.up {j' K' : Int} (h : Onc l0 most n j K M R ops busy top ins next pushes had) (hj : j ≤ j') (hK : K ≤ K') (hK' : K' ≤ 1000) : Onc l0 most n j' K' M R ops busy top ins next pushes had :=
  ⟨h.lo, h.lb, h.lt, h.li, ⟨h.nx.1, by have := h.nx.2; omega⟩, h.ins1, h.glo, h.tl.up hK hK', h.len, h.has, fun O q => ⟨(h.own O q).1.up hK, (h.own O q).2⟩, h.thf, h.is⟩
theorem Onc.small (h : Onc l0 most n j K M R ops busy top ins next pushes had) (hb : busy.getD 0 false = false) : Calm l0 most 5 K M R (nums ins) := by
  have ho := ownO_none (ops := ops) hb
  have h1 := h.tl; have h2 := h.len; have h3 := h.is
  rw [ho] at h1 h2 h3
  exact ⟨h.glo, h1, h2 rfl, h3.symm⟩
theorem Onc.begin_own (h : Onc l0 most n j K M R ops busy top ins next pushes had) (hb : busy.getD 0 false = false) (hK : K + 1 ≤ 1000) {g : Nat} {pu : Bool} {had' : Int} {O : Dop}
    (hO : (pu = true ∧ O = Dop.beg most next 0 ∧ had' = (nums ins).length) ∨ (pu = false ∧ O = Dop.beg most 0 8)) : Onc l0 most n j (K + 1) M R (ops.set 0 (some (g, O))) (busy.set 0 true) (top.set 0 M.T) ins next pu had' := by
  have hC := h.small hb
  have hcn := hC.count
  have hsm := hC.small
  have hlo := h.lo; have hlb := h.lb; have hlt := h.lt
  have hon := ownO_on (busy := busy) (ops := ops) (g := g) (O := O) (by omega) (by omega)
  have hn10 : O.next ≤ 10 := by rcases hO with ⟨_, e, _⟩ | ⟨_, e⟩ <;> rw [e] <;> unfold Dop.beg <;> dsimp only <;> omega
  have hex : ∃ x nn, O = Dop.beg most x nn ∧ nn ≤ 10 := by
    rcases hO with ⟨_, e, _⟩ | ⟨_, e⟩
    · exact ⟨_, _, e, by omega⟩
    · exact ⟨_, _, e, by omega⟩
  have hlof : Lof M (some O) = Lof M (ownO busy ops) := by rw [lof_lo hn10, ownO_none hb]; rfl
  refine ⟨by simp [hlo], by simp [hlb], by simp [hlt], h.li, h.nx, h.ins1, h.glo, ?_, ?_, ?_, ?_, ?_, ?_⟩
  · rw [hon]
    obtain ⟨x, nn, e, hnn⟩ := hex
    rw [e]
    exact tl_beg (hC.tl.up (by omega) hK) hnn
  · rw [hon]; intro q; cases q
  · intro i hi hbi
    rw [getD_set (by omega)] at hbi ⊢
    by_cases e : 0 = i
    · rw [if_pos e]; exact ⟨_, rfl⟩
    · rw [if_neg e] at hbi ⊢; exact h.has i hi hbi
  · intro P q
    rw [hon] at q
    cases q
    rw [getD_set (by omega), if_pos rfl]
    rcases hO with ⟨e1, e, e3⟩ | ⟨e1, e⟩
    · subst e1; subst e; subst e3
      refine ⟨own_push hC.glo (hC.tl.up (by omega) hK) hC.len (by omega) _, by simp [Dop.beg], fun _ => ⟨rfl, hcn, by have := hC.room; have := Rg.pw_most hC.glo; omega, by omega, fun q => by unfold Dop.beg at q; dsimp only at q; omega⟩⟩
    · subst e1; subst e
      exact ⟨own_pop hC.glo (hC.tl.up (by omega) hK) hC.len, by simp [Dop.beg], fun q => by cases q⟩
  · intro i p h1 h4 hbi hp
    rw [getD_set (by omega), if_neg (by omega)] at hbi hp ⊢
    rw [hon, hlof]
    exact h.thf i p h1 h4 hbi hp
  · rw [hon]
    obtain ⟨x, nn, e, hnn⟩ := hex
    rw [e, cont_beg hnn, hC.is]
theorem Onc.begin_thf (h : Onc l0 most n j K M R ops busy top ins next pushes had) {i : Nat} (h1 : 1 ≤ i) (h4 : i < 4) {g : Nat} : Onc l0 most n j K M R (ops.set i (some (g, Dop.beg most 0 15))) (busy.set i true) (top.set i M.T) ins next pushes had := by
  have hlo := h.lo; have hlb := h.lb; have hlt := h.lt
  have hon := ownO_far (busy := busy) (ops := ops) (i := i) (b := true) (x := some (g, Dop.beg most 0 15)) h1 (by omega) (by omega)
  have ht0 : (top.set i M.T).getD 0 0 = top.getD 0 0 := by rw [getD_set (by omega), if_neg (by omega)]
  refine ⟨by simp [hlo], by simp [hlb], by simp [hlt], h.li, h.nx, h.ins1, h.glo, by rw [hon]; exact h.tl, by rw [hon]; exact h.len, ?_, by rw [hon, ht0]; exact h.own, ?_, by rw [hon]; exact h.is⟩
  · intro k hk hbi
    rw [getD_set (by omega)] at hbi ⊢
    by_cases e : i = k
    · rw [if_pos e]; exact ⟨_, rfl⟩
    · rw [if_neg e] at hbi ⊢; exact h.has k hk hbi
  · intro k p k1 k4 hbi hp
    rw [getD_set (by omega)] at hbi hp ⊢
    rw [hon]
    by_cases e : i = k
    · rw [if_pos e] at hp ⊢
      cases hp
      exact ⟨thf_beg _, Int.le_refl _, fun q => by unfold Dop.beg at q; dsimp only at q; omega⟩
    · rw [if_neg e] at hbi hp ⊢
      exact h.thf k p k1 k4 hbi hp
/-- a thief goes away -/
theorem Onc.idle (h : Onc l0 most n j K M R ops busy top ins next pushes had) {i : Nat} (h1 : 1 ≤ i) (h4 : i < 4) {b : Bool} (hb : b = true → busy.getD i false = true) : Onc l0 most n j K M R ops (busy.set i b) top ins next pushes had := by
  have hlo := h.lo; have hlb := h.lb; have hlt := h.lt
  have hon := ownO_far1 (busy := busy) (ops := ops) (i := i) (b := b) h1 (by omega)
  have hbb : ∀ k, (busy.set i b).getD k false = true → busy.getD k false = true := by
    intro k hk
    rw [getD_set (by omega)] at hk
    split at hk
    · rename_i e; subst e; exact hb hk
    · exact hk
  exact ⟨h.lo, by simp [hlb], h.lt, h.li, h.nx, h.ins1, h.glo, by rw [hon]; exact h.tl, by rw [hon]; exact h.len, fun k hk q => h.has k hk (hbb k q), by rw [hon]; exact h.own, fun k p k1 k4 q => by rw [hon]; exact h.thf k p k1 k4 (hbb k q), by rw [hon]; exact h.is⟩

theorem Onc.step_own (h : Onc l0 most n j K M R ops busy top ins next pushes had) {g : Nat} {O O' : Dop} {M' : Mac} (hb : busy.getD 0 false = true) (ho : ops.getD 0 none = some (g, O)) (hO' : (O.step M 0).1 = O') (hM' : (O.step M 0).2 = M') (hn2 : (next : Int) ≤ n + 1) (hj : j + 1 ≤ 900) :
    ∃ R', M'.steps = (M.tick 0).steps ∧
    ((O'.how = 0 ∧ Onc l0 most n j K M' R' (ops.set 0 (some (g, O'))) busy top ins next pushes had) ∨
     (O'.how = 1 ∧ pushes = true ∧ (had ≥ pwr most → top.getD 0 0 < M'.T) ∧ Onc l0 most n (j + 1) K M' R' (ops.set 0 (some (g, O'))) (busy.set 0 false) top (ins.set next true) (next + 1) pushes had) ∨
     (O'.how = 4 ∧ pushes = true ∧ had = pwr most ∧ Onc l0 most n j K M' R' (ops.set 0 (some (g, O'))) (busy.set 0 false) top ins next pushes had) ∨
     (O'.how = 1 ∧ pushes = false ∧ (∃ r, nums ins = r ++ [O'.got]) ∧ Onc l0 most n j K M' R' (ops.set 0 (some (g, O'))) (busy.set 0 false) top (ins.set O'.got.toNat false) next pushes had) ∨
     (O'.how = 3 ∧ pushes = false ∧ nums ins = [] ∧ Onc l0 most n j K M' R' (ops.set 0 (some (g, O'))) (busy.set 0 false) top ins next pushes had)) := by
  have hlo := h.lo; have hlb := h.lb; have hlt := h.lt; have hli := h.li
  have hoo := ownO_is hb ho
  have htl := h.tl
  rw [hoo] at htl
  obtain ⟨hown, hpu, hpx⟩ := h.own O hoo
  have his := h.is
  rw [hoo] at his
  obtain ⟨R', hr⟩ := own_step h.glo htl hown (caller_of (wk := 0) h.glo.st (by omega) (by omega))
  rw [hO', hM'] at hr
  refine ⟨R', hr.steps, ?_⟩
  have thfs : ∀ i p, 1 ≤ i → i < 4 → busy.getD i false = true → ops.getD i none = some p → Thf M' R' (Lof M' (after O')) p.2 ∧ top.getD i 0 ≤ M'.T ∧ (16 ≤ p.2.next → top.getD i 0 ≤ p.2.t) := by
    intro i p h1 h4 hbi hp
    obtain ⟨a, b, c⟩ := h.thf i p h1 h4 hbi hp
    rw [hoo] at a
    exact ⟨hr.thf _ a, by have := hr.mono; omega, c⟩
  have hom : ∀ i p, 1 ≤ i → (ops.set 0 (some (g, O'))).getD i none = some p → ops.getD i none = some p := fun i p h1 q => by
    rw [getD_set (by omega), if_neg (by omega)] at q; exact q
  have hbm : ∀ i, 1 ≤ i → (busy.set 0 false).getD i false = true → busy.getD i false = true := fun i h1 q => by
    rw [getD_set (by omega), if_neg (by omega)] at q; exact q
  have hb0 : (busy.set 0 false).getD 0 false = false := by rw [getD_set (by omega)]; rfl
  rcases hr.alt with ⟨ha, hown', hc⟩ | ⟨ha, hlen, halt⟩
  · refine .inl ⟨ha, ?_⟩
    have hon := ownO_same (ops := ops) (g := g) (O := O') hb (by omega)
    have haf : after O' = some O' := if_pos ha
    rw [haf] at thfs
    have ht' := hr.tl
    rw [haf] at ht'
    refine ⟨by simp [hlo], hlb, hlt, hli, h.nx, h.ins1, hr.glo, by rw [hon]; exact ht', (fun q => by rw [hon] at q; cases q), ?_, ?_, fun i p h1 h4 hbi hp => by rw [hon]; exact thfs i p h1 h4 hbi (hom i p h1 hp), by rw [hon, hc]; exact his⟩
    · intro i hi hbi
      rw [getD_set (by omega)]
      by_cases e : 0 = i
      · rw [if_pos e]; exact ⟨_, rfl⟩
      · rw [if_neg e]; exact h.has i hi hbi
    · intro P q
      rw [hon] at q
      cases q
      refine ⟨hown', by rw [hpu]; exact hr.kind, fun q => ?_⟩
      obtain ⟨p1, p2, p5, p3, p4⟩ := hpx q
      have h7 := hpu.1 q
      have hmu : O.next ≠ 7 := fun z => by
        have h1 := mu_5 (R := R) (O := O) (by omega) (by omega)
        have h2 := mu_pos hown'
        have h3 := (hr.mu ha).1
        omega
      have hbk := hr.bk (by omega)
      have htk := hr.tk (by omega)
      refine ⟨by rw [hr.x, p1], by rw [hbk]; exact p2, p5, by omega, fun q2 => ?_⟩
      by_cases q3 : 2 ≤ O.next
      · rw [hr.t2 q3 h7]; exact p4 q3
      · by_cases q1 : O.next = 1
        · rw [hr.t1 q1]; exact p3
        · have := hr.nx ha (by omega)
          unfold Nx at this
          omega
  · have haf : after O' = none := if_neg ha
    rw [haf] at thfs
    have ht' := hr.tl
    rw [haf] at ht'
    have hon := ownO_off (busy := busy) (ops := ops) (x := some (g, O')) (by omega)
    have base : ∀ (j' : Int) (ins' : List Bool) (next' : Nat), ins'.length = n + 2 → 1 ≤ next' ∧ (next' : Int) ≤ j' + 1 → (∀ k, ins'.getD k false = true → 1 ≤ k ∧ k < next') → nums ins' = Cont M' R' none → Onc l0 most n j' K M' R' (ops.set 0 (some (g, O'))) (busy.set 0 false) top ins' next' pushes had := by
      intro j' ins' next' a b c d
      refine ⟨by simp [hlo], by simp [hlb], hlt, a, b, c, hr.glo, by rw [hon]; exact ht', fun _ => hlen, ?_, fun P q => (by rw [hon] at q; cases q), fun i p h1 h4 hbi hp => by rw [hon]; exact thfs i p h1 h4 (hbm i h1 hbi) (hom i p h1 hp), by rw [hon]; exact d⟩
      intro i hi hbi
      rw [getD_set (by omega)]
      by_cases e : 0 = i
      · rw [if_pos e]; exact ⟨_, rfl⟩
      · rw [if_neg e]; exact h.has i hi (hbm i (by omega) hbi)
    have hCl : ((Cont M' R' none).length : Int) = M'.B - M'.T := cont_len ht'
    have htu := ht'.ur
    simp only [Uof] at htu
    rcases halt with ⟨a, b, c, d⟩ | ⟨a, b, c, d, e, f⟩ | ⟨a, b, c⟩ | ⟨a, b, c, d⟩
    · have hp := hpu.2 (by omega)
      obtain ⟨p1, p2, p5, p3, p4⟩ := hpx hp
      refine .inr (.inl ⟨b, hp, fun q => ?_, base (j + 1) _ (next + 1) (by simp [hli]) (by have := h.nx; omega) (fun k hk => ?_) ?_⟩)
      · have hpm := Rg.pw_most hr.glo
        have htk := hr.tk (by omega)
        have hlof := htl.tl
        have e1 : ((Cont M R (some O)).length : Int) = M.B - M.T := by
          unfold Cont Mac.vals
          rw [uof_lo (by omega), held_lo (by omega)]
          rw [lof_lo (by omega)] at hlof
          simp only [List.append_nil, List.length_map, List.length_range]
          omega
        have e2 : ((Cont M' R' none).length : Int) = M.B - M.T + 1 := by rw [c, List.length_append, ← e1]; simp
        omega
      · rw [getD_set (by omega)] at hk
        split at hk
        · have := h.nx; omega
        · have := h.ins1 k hk; omega
      · rw [nums_push (by omega) (fun k hk => (h.ins1 k hk).2), c, his, p1]
    · have hp := hpu.2 (by omega)
      obtain ⟨p1, p2, p5, p3, p4⟩ := hpx hp
      refine .inr (.inr (.inl ⟨b, hp, ?_, base j _ next hli h.nx h.ins1 (by rw [c]; exact his)⟩))
      have hpf := Rg.pw_full h.glo e
      have h1 := hown.b7 (by omega) (by omega)
      have h2 := p4 (by omega)
      have h3 := hown.t7 (by omega) (by omega)
      omega
    · have hp : pushes = false := by
        cases q : pushes with
        | true => have := hpu.1 q; omega
        | false => rfl
      rw [← his] at c
      refine .inr (.inr (.inr (.inl ⟨b, hp, ⟨_, c⟩, base j _ next (by simp [hli]) h.nx (fun k hk => ?_) (nums_last c).1⟩)))
      refine h.ins1 k ?_
      have hm := nums_mem (l := ins) (g := O'.got) (by rw [c]; simp)
      rw [getD_set (by omega)] at hk
      split at hk
      · cases hk
      · exact hk
    · have hp : pushes = false := by
        cases q : pushes with
        | true => have := hpu.1 q; omega
        | false => rfl
      rw [← his] at c
      exact .inr (.inr (.inr (.inr ⟨b, hp, c, base j _ next hli h.nx h.ins1 (by rw [c, d])⟩)))
theorem Onc.step_thf (h : Onc l0 most n j K M R ops busy top ins next pushes had) {i g : Nat} {O O' : Dop} {M' : Mac} (h1 : 1 ≤ i) (h4 : i < 4) (hb : busy.getD i false = true) (ho : ops.getD i none = some (g, O)) (hO' : (O.step M i).1 = O') (hM' : (O.step M i).2 = M') :
    M'.steps = (M.tick i).steps ∧
    (((O'.how = 0 ∨ O'.how = 2) ∧ Onc l0 most n j K M' R (ops.set i (some (g, O'))) busy top ins next pushes had) ∨
     (O'.how = 3 ∧ Onc l0 most n j K M' R (ops.set i (some (g, O'))) (busy.set i false) top ins next pushes had) ∨
     (O'.how = 5 ∧ top.getD i 0 < M'.T ∧ Onc l0 most n j K M' R (ops.set i (some (g, O'))) (busy.set i false) top ins next pushes had) ∨
     (O'.how = 1 ∧ (∃ r, nums ins = O'.got :: r) ∧ Onc l0 most n j K M' R (ops.set i (some (g, O'))) (busy.set i false) top (ins.set O'.got.toNat false) next pushes had)) := by
  have hlo := h.lo; have hlb := h.lb; have hlt := h.lt; have hli := h.li
  obtain ⟨ht, htt, htn⟩ := h.thf i (g, O) h1 h4 hb ho
  dsimp only at ht htn
  have hr := thf_step (wk := i) h.glo h.tl (fun P q => (h.own P q).1) ht (caller_of (wk := i) h.glo.st (by omega) (by omega))
  rw [hO', hM'] at hr
  refine ⟨hr.steps, ?_⟩
  have hmo := hr.mono
  have base : ∀ (busy' : List Bool) (ins' : List Bool), busy'.length = 4 → ownO busy' (ops.set i (some (g, O'))) = ownO busy ops → (∀ k, busy'.getD k false = true → busy.getD k false = true) → ins'.length = n + 2 → (∀ k, ins'.getD k false = true → 1 ≤ k ∧ k < next) → nums ins' = Cont M' R (ownO busy ops) →
      (busy'.getD i false = true → Thf M' R (Lof M' (ownO busy ops)) O' ∧ (16 ≤ O'.next → top.getD i 0 ≤ O'.t)) → Onc l0 most n j K M' R (ops.set i (some (g, O'))) busy' top ins' next pushes had := by
    intro busy' ins' a0 a b c d e f
    refine ⟨by simp [hlo], a0, hlt, c, h.nx, d, hr.glo, by rw [a]; exact hr.tl, fun q => by rw [a] at q; rw [hr.len]; exact h.len q, ?_, ?_, ?_, by rw [a]; exact e⟩
    · intro k hk hbi
      rw [getD_set (by omega)]
      by_cases e : i = k
      · rw [if_pos e]; exact ⟨_, rfl⟩
      · rw [if_neg e]; exact h.has k hk (b k hbi)
    · intro P q
      rw [a] at q
      obtain ⟨q1, q2, q3⟩ := h.own P q
      refine ⟨hr.own P q, q2, fun z => ?_⟩
      obtain ⟨z1, z2, z5, z3, z4⟩ := q3 z
      exact ⟨z1, by rw [hr.bk]; exact z2, z5, by omega, z4⟩
    · intro k p k1 k4 hbi hp
      rw [getD_set (by omega)] at hp
      rw [a]
      by_cases e : i = k
      · rw [if_pos e] at hp
        cases hp
        subst e
        obtain ⟨f1, f2⟩ := f hbi
        exact ⟨f1, by omega, f2⟩
      · rw [if_neg e] at hp
        obtain ⟨q1, q2, q3⟩ := h.thf k p k1 k4 (b k hbi) hp
        exact ⟨hr.thf _ q1, by omega, q3⟩
  have far2 := ownO_far2 (busy := busy) (ops := ops) (x := some (g, O')) h1 (by omega)
  have far := ownO_far (busy := busy) (ops := ops) (b := false) (x := some (g, O')) h1 (by omega) (by omega)
  have hbm : ∀ k, (busy.set i false).getD k false = true → busy.getD k false = true := fun k q => by
    rw [getD_set (by omega)] at q
    split at q
    · cases q
    · exact q
  have hbi : (busy.set i false).getD i false = true → False := fun q => by
    rw [getD_set (by omega), if_pos rfl] at q; cases q
  have hcell : M' = M.tick i → nums ins = Cont M' R (ownO busy ops) := fun e => by rw [e, cont_tick]; exact h.is
  rcases hr.alt with ⟨a, b, c, d, e⟩ | ⟨a, b, c, d⟩ | ⟨a, b, c, d⟩ | ⟨a, b, c, c2, d, e⟩
  · refine .inl ⟨a, base busy ins hlb far2 (fun _ q => q) hli h.ins1 (hcell d) fun _ => ⟨c, fun q => ?_⟩⟩
    by_cases q5 : O.next = 15
    · rw [hr.t1 q5]; exact htt
    · have := ht.n0
      rw [hr.t2 (by omega)]; exact htn (by omega)
  · exact .inr (.inl ⟨a, base _ ins (by simp [hlb]) far hbm hli h.ins1 (hcell d) fun q => (hbi q).elim⟩)
  · exact .inr (.inr (.inl ⟨a, by have := htn (by omega); omega, base _ ins (by simp [hlb]) far hbm hli h.ins1 (hcell d) fun q => (hbi q).elim⟩))
  · have hnum : nums ins = O'.got :: Cont M' R (ownO busy ops) := by rw [h.is, d, c2]
    refine .inr (.inr (.inr ⟨a, ⟨_, hnum⟩, base _ _ (by simp [hlb]) far hbm (by simp [hli]) (fun k hk => ?_) (nums_first hnum).1 fun q => (hbi q).elim⟩))
    refine h.ins1 k ?_
    have hm := nums_mem (l := ins) (g := O'.got) (by rw [hnum]; simp)
    rw [getD_set (by omega)] at hk
    split at hk
    · cases hk
    · exact hk
end
end Go.Proofs.Ytheallacpidcmaa
