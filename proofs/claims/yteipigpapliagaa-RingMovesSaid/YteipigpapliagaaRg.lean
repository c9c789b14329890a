/-
  Layer 9: rings that are given away, one behind the other.
-/
import Derived.Test.YteipigpapliagaaRe
set_option linter.unusedSimpArgs false
set_option linter.unusedVariables false
set_option maxRecDepth 100000
namespace Go.Proofs.Yteipigpapliagaa
open Go Go.Ev Go.Proofs

def newR (M : Mac) (wk log : Int) : Mac × Rg × Int :=
  if 0 ≤ log ∧ log ≤ 8 ∧ M.caller wk = true then (if M.room ((2 ^ log.toNat : Nat) : Int) then ((M.tick wk).grow ((2 ^ log.toNat : Nat) : Int), ⟨(M.cells.length : Nat), log⟩, 0) else (M, Rg.zero, 21)) else (M, Rg.zero, 10)

section
variable {w0 w : World} {L : List HP}
theorem rnew_S {g : Nat} {M : Mac} {f : HP → List HP} {wk log : Int} {k : Array Value × Int → World → Prop} (h : St w0 w L) [a : At L (mach g) M f] (hM : M.OK)
    (hk : ∀ w', St w0 w' (f (mach g (newR M wk log).1)) → k ((newR M wk log).2.1.ag, (newR M wk log).2.2) w') : ring_New (some ⟨g, 0, none⟩) wk log w k := by
  refine rnew_s h hM (fun h1 h2 h3 h4 w' hS => ?_) (fun h1 h2 h3 h4 w' hS => ?_) fun h1 w' hS => ?_
  · have e : newR M wk log = ((M.tick wk).grow ((2 ^ log.toNat : Nat) : Int), ⟨(M.cells.length : Nat), log⟩, 0) := by unfold newR; rw [if_pos ⟨h1, h2, h3⟩, if_pos h4]
    have := hk w'; rw [e] at this; exact this hS
  · have e : newR M wk log = (M, Rg.zero, 21) := by unfold newR; rw [if_pos ⟨h1, h2, h3⟩, if_neg (by rw [h4]; simp)]
    have := hk w'; rw [e] at this; exact this (hS.same a)
  · have e : newR M wk log = (M, Rg.zero, 10) := by unfold newR; rw [if_neg h1]
    have := hk w'; rw [e] at this; exact this (hS.same a)

theorem pow_right {log : Int} (h0 : 0 ≤ log) (h8 : log ≤ 8) : (Rg.mk 0 log).size = ((2 ^ log.toNat : Nat) : Int) ∧ (Rg.mk 0 log).right = true ∧ (2 ^ log.toNat : Nat) ≤ 256 ∧ 1 ≤ (2 ^ log.toNat : Nat) := by
  have hp := two_pow_small (n := log.toNat) (by omega)
  have hp0 : 0 < 2 ^ log.toNat := Nat.pow_pos (by omega)
  have hr : (Rg.mk 0 log).right = true := by
    unfold Rg.right Rg.pw
    rw [decide_eq_true_eq]
    dsimp only
    generalize (2 ^ log.toNat : Nat) = m at *
    omega
  refine ⟨?_, hr, hp, hp0⟩
  unfold Rg.size Rg.pw
  rw [if_pos hr]
theorem pow_wrong {log : Int} (h : ¬ (0 ≤ log ∧ log ≤ 8)) : (Rg.mk 0 log).size = 0 := by
  unfold Rg.size
  rw [if_neg]
  unfold Rg.right
  simp only [decide_eq_true_eq]
  omega

/-- a machine of four callers, that did so many operations -/
structure Four (M : Mac) (size : Int) (used did : Nat) : Prop where
  ok : M.OK
  sz : M.size = size
  used : M.cells.length = used
  st : ∃ a b c d : Nat, M.steps = [(a : Int), (b : Int), (c : Int), (d : Int)] ∧ a + b + c + d = did
theorem Four.caller {M : Mac} {size : Int} {used did : Nat} (h : Four M size used did) (wk : Int) : M.caller wk = decide (0 ≤ wk ∧ wk ≤ 3) := by
  obtain ⟨a, b, c, d, e, _⟩ := h.st
  unfold Mac.caller
  rw [e, decide_eq_decide]
  simp; omega
theorem Four.step {M : Mac} {size : Int} {used did : Nat} (h : Four M size used did) {wk n : Int} (h0 : 0 ≤ wk) (h3 : wk ≤ 3) (hn : 0 ≤ n) (hr : M.room n = true) (hd : did ≤ 1000) : Four ((M.tick wk).grow n) size (used + n.toNat) (did + 1) := by
  obtain ⟨a, b, c, d, e, hs⟩ := h.st
  unfold Mac.room at hr
  rw [decide_eq_true_eq] at hr
  have hok := h.ok.size
  refine ⟨⟨h.ok.size, ?_⟩, h.sz, ?_, ?_⟩
  · unfold Mac.grow Mac.tick; simp; omega
  · unfold Mac.grow Mac.tick; simp; exact h.used
  · unfold Mac.grow Mac.tick
    rw [e]
    have hw : ∀ x : Nat, x ≤ 1000 → IntKind.i64.wrap ((x : Int) + 1) = ((x + 1 : Nat) : Int) := fun x hx => by rw [wrap_id ⟨by omega, by omega⟩]; simp
    rcases (show wk = 0 ∨ wk = 1 ∨ wk = 2 ∨ wk = 3 by omega) with rfl | rfl | rfl | rfl
    · exact ⟨a + 1, b, c, d, by simp [hw a (by omega)], by omega⟩
    · exact ⟨a, b + 1, c, d, by simp [hw b (by omega)], by omega⟩
    · exact ⟨a, b, c + 1, d, by simp [hw c (by omega)], by omega⟩
    · exact ⟨a, b, c, d + 1, by simp [hw d (by omega)], by omega⟩

theorem law_new {size : Int} {s : Sl} {asks : List (Int × Int)} {k : Bool → World → Prop} (h : St w0 w L) (hR : Rws 2 w0 s (asks.map fun x => [.int .i64 x.1, .int .i64 x.2])) (hk : ∀ w', St w0 w' L → k true w') : pelotonlaw09_RingNew size s w k := by
  unfold pelotonlaw09_RingNew pelotonlaw09_RingNew_b
  refine iteB_i (fun h1 => awake9_s h hk) fun h1 => ?_
  simp only [Bool.or_eq_false_iff, decide_eq_false_iff_not] at h1
  have hlen : s.n = asks.length := by have := hR.len; simpa using this.symm
  have hOK : newOK size 3 = true := by unfold newOK; rw [decide_eq_true_eq]; omega
  refine cnew_s h (fun _ gm w1 hS => iteB_f rfl ?_) fun h => absurd hOK (by rw [h]; simp)
  have h4 : Four (Mac.new size 3) size 0 0 := ⟨⟨⟨by unfold Mac.new; dsimp only; omega, by unfold Mac.new; dsimp only; omega⟩, by unfold Mac.new; simp; omega⟩, rfl, rfl, 0, 0, 0, 0, rfl, rfl⟩
  refine loopP_of (fun (x : Int × Int × Int) w' => ∃ (i used did : Nat) (M : Mac), x = ((used : Int), (did : Int), (i : Int)) ∧ i ≤ asks.length ∧ did ≤ i ∧ (used : Int) ≤ size ∧ Four M size used did ∧ St w0 w' (mach gm M :: L)) (fun x _ => (asks.length - x.2.2).toNat)
    ⟨0, 0, 0, _, rfl, by omega, by omega, by omega, h4, hS⟩ ?_
  rintro _ w2 ⟨i, used, did, M, rfl, hi, hdi, hus, h4, hS⟩ C hC
  dsimp only
  refine iteB_i (fun hlt => ?_) fun hge => awake9_s hS fun w3 hS => hk _ hS.drop
  rw [decide_eq_true_eq] at hlt
  obtain ⟨⟨wk, log⟩, hx⟩ : ∃ x, asks[((i : Nat) : Int).toNat]? = some x := ⟨_, List.getElem?_eq_getElem (by simp; omega)⟩
  have he : (asks.map fun x => [Value.int .i64 x.1, Value.int .i64 x.2])[((i : Nat) : Int).toNat]? = some [.int .i64 wk, .int .i64 log] := by rw [List.getElem?_map, hx]; rfl
  refine joinP_i (fun y w' => ∃ g, y = (⟨g, 0, none⟩, (newR M wk log).2.2) ∧ St w0 w' (blk g [.int .i64 (newR M wk log).2.1.At, .int .i64 (newR M wk log).2.1.Log] :: mach gm (newR M wk log).1 :: L)) ?_ ?_
  · intro J hJ
    refine drew_h hS fun w3 hS3 => ?_
    refine ixR_h hR hS3 (by omega) he fun p hp => ldI_i (hp hS3 (j := 0) rfl) ?_
    refine ixR_h hR hS3 (by omega) he fun q hq => ldI_i (hq hS3 (j := 1) rfl) ⟨?_, ?_⟩
    · refine rnew_S (g := gm) (M := M) hS3 h4.ok fun w4 hS4 => ?_
      refine newC_h hS4 fun g w5 hS5 => ?_
      refine samec_1 (hq hS3 (j := 1) rfl) (hq hS5 (j := 1) rfl) (samec_1 (hp hS3 (j := 0) rfl) (hp hS5 (j := 0) rfl) ?_)
      refine stW_h hS5 rfl rfl (by simp [Value.oneCell']) fun w6 hS6 => hJ _ _ ⟨g, rfl, hS6⟩
    · refine newC_h hS3 fun g w5 hS5 => ?_
      refine samec_1 (hq hS3 (j := 1) rfl) (hq hS5 (j := 1) rfl) (samec_1 (hp hS3 (j := 0) rfl) (hp hS5 (j := 0) rfl) ?_)
      refine rnew_S (g := gm) (M := M) hS5 h4.ok fun w4 hS4 => ?_
      refine stW_h hS4 rfl rfl (by simp [Value.oneCell']) fun w6 hS6 => hJ _ _ ⟨g, rfl, hS6⟩
  rintro _ w3 ⟨g, rfl, hS⟩
  refine ixR_h hR hS (by omega) he fun q hq => ldI_i (hq hS (j := 1) rfl) ?_
  refine rsize_s (r := ⟨0, log⟩) hS fun w4 hS => ?_
  have hcal := h4.caller wk
  -- the three ways
  have hn : ∀ n, (Rg.mk 0 log).size = n → 0 ≤ n ∧ n ≤ 256 ∧ ((n = 0) ↔ ¬ (0 ≤ log ∧ log ≤ 8)) ∧ (n ≠ 0 → n = ((2 ^ log.toNat : Nat) : Int)) := by
    intro n hn
    by_cases hl : 0 ≤ log ∧ log ≤ 8
    · obtain ⟨h1, h2, h3, h4⟩ := pow_right hl.1 hl.2
      rw [← hn, h1]
      generalize (2 ^ log.toNat : Nat) = m at *
      refine ⟨by omega, by omega, ⟨fun h => by omega, fun h => absurd hl h⟩, fun _ => rfl⟩
    · rw [← hn, pow_wrong hl]; exact ⟨by omega, by omega, ⟨fun _ => hl, fun _ => rfl⟩, fun h => absurd rfl h⟩
  obtain ⟨n0, n1, n2, n3⟩ := hn _ rfl
  generalize (Rg.mk 0 log).size = n at *
  have hroom : M.room n = decide (n ≤ size - used) := by unfold Mac.room; rw [h4.sz, h4.used]
  have hsub : IntKind.i64.wrap (size - (used : Int)) = size - used := wrap_id ⟨by omega, by omega⟩
  refine joinP_i (fun y w' => y = decide (n = 0 ∨ wk < 0 ∨ wk > 3) ∧ w4 = w') ?_ ?_
  · intro J hJ
    refine iteB_i (fun h => hJ _ _ ⟨by rw [beq_iff_eq] at h; simp [h], rfl⟩) fun h => ?_
    have h : n ≠ 0 := by simpa using h
    refine ixR_h hR hS (by omega) he fun q hq => ldI_i (hq hS (j := 0) rfl) (iteB_i (fun h5 => hJ _ _ ⟨?_, rfl⟩) fun h5 => ?_)
    · rw [decide_eq_true_eq] at h5; rw [decide_eq_true (.inr (.inl h5))]
    rw [decide_eq_false_iff_not] at h5
    refine ixR_h hR hS (by omega) he fun q hq => ldI_i (hq hS (j := 0) rfl) (hJ _ _ ⟨?_, rfl⟩)
    rw [decide_eq_decide]; omega
  rintro _ _ ⟨rfl, rfl⟩
  refine joinP_i (fun y w' => y = (newR M wk log).2.2 ∧ w4 = w') ?_ ?_
  · intro J hJ
    refine iteB_i (fun h => hJ _ _ ⟨?_, rfl⟩) fun h => ?_
    · rw [decide_eq_true_eq] at h
      unfold newR
      rw [if_neg]
      rw [hcal, decide_eq_true_eq]
      intro hh
      have : ¬ n = 0 := fun e => (n2.1 e) ⟨hh.1, hh.2.1⟩
      omega
    · rw [decide_eq_false_iff_not] at h
      have hl : 0 ≤ log ∧ log ≤ 8 := by
        by_cases hl : 0 ≤ log ∧ log ≤ 8
        · exact hl
        · exact absurd (n2.2 hl) (by omega)
      have en := n3 (by omega)
      have hc3 : M.caller wk = true := by rw [hcal, decide_eq_true_eq]; omega
      rw [hsub]
      refine iteB_i (fun h5 => hJ _ _ ⟨?_, rfl⟩) fun h5 => hJ _ _ ⟨?_, rfl⟩
      · rw [decide_eq_true_eq] at h5
        unfold newR
        rw [if_pos ⟨hl.1, hl.2, hc3⟩, ← en, hroom, if_neg (by rw [decide_eq_true_eq]; omega)]
      · rw [decide_eq_false_iff_not] at h5
        unfold newR
        rw [if_pos ⟨hl.1, hl.2, hc3⟩, ← en, hroom, if_pos (by rw [decide_eq_true_eq]; omega)]
  rintro _ _ ⟨rfl, rfl⟩
  refine iteB_f (by simp) ?_
  have hw : IntKind.i64.wrap ((i : Int) + 1) = ((i + 1 : Nat) : Int) := by rw [wrap_id ⟨by omega, by omega⟩]; simp
  -- what the machine is behind it
  have key : ((newR M wk log).2.2 ≠ 0 ∧ (newR M wk log).1 = M ∧ (newR M wk log).2.1 = Rg.zero) ∨
      ((newR M wk log).2.2 = 0 ∧ n = ((2 ^ log.toNat : Nat) : Int) ∧ n ≠ 0 ∧ (newR M wk log).2.1 = ⟨(used : Int), log⟩ ∧ (used : Int) + n ≤ size ∧ (Rg.mk 0 log).right = true ∧ Four (newR M wk log).1 size (used + n.toNat) (did + 1)) := by
    by_cases h1 : 0 ≤ log ∧ log ≤ 8 ∧ M.caller wk = true
    · have hnz : n ≠ 0 := fun e => (n2.1 e) ⟨h1.1, h1.2.1⟩
      have en := n3 hnz
      by_cases h2 : M.room n = true
      · right
        have e : newR M wk log = ((M.tick wk).grow ((2 ^ log.toNat : Nat) : Int), ⟨(M.cells.length : Nat), log⟩, 0) := by unfold newR; rw [if_pos h1, if_pos (by rw [← en]; exact h2)]
        rw [e, h4.used]
        have h3 := h1.2.2
        rw [hcal, decide_eq_true_eq] at h3
        have h5 := h2
        rw [hroom, decide_eq_true_eq] at h5
        refine ⟨rfl, en, hnz, rfl, by omega, (pow_right h1.1 h1.2.1).2.1, ?_⟩
        rw [← en]
        exact h4.step h3.1 h3.2 n0 h2 (by omega)
      · left
        have e : newR M wk log = (M, Rg.zero, 21) := by unfold newR; rw [if_pos h1, if_neg (by rw [← en]; exact h2)]
        rw [e]; exact ⟨by show (21 : Int) ≠ 0; decide, rfl, rfl⟩
    · left
      have e : newR M wk log = (M, Rg.zero, 10) := by unfold newR; rw [if_neg h1]
      rw [e]; exact ⟨by show (10 : Int) ≠ 0; decide, rfl, rfl⟩
  generalize newR M wk log = out at *
  obtain ⟨M', r, e⟩ := out
  dsimp only at *
  -- at the end of a round
  have tail : ∀ (used' did' : Nat) (w' : World), Four M' size used' did' → did' ≤ i + 1 → (used' : Int) ≤ size → St w0 w' (blk g [.int .i64 r.At, .int .i64 r.Log] :: mach gm M' :: L) →
      joinP (S := Bool) (fun J56 =>
              cells_Machine_Used (some ⟨gm, 0, none⟩) w' fun i57 w58 =>
              iteB (i57 != (used' : Int)) (
                (J56 true w58)) (
                cells_Machine_Steps (some ⟨gm, 0, none⟩) (0 : Int) w58 fun i59 w60 =>
                cells_Machine_Steps (some ⟨gm, 0, none⟩) (1 : Int) w60 fun i61 w62 =>
                cells_Machine_Steps (some ⟨gm, 0, none⟩) (2 : Int) w62 fun i63 w64 =>
                cells_Machine_Steps (some ⟨gm, 0, none⟩) (3 : Int) w64 fun i65 w66 =>
                (J56 ((IntKind.wrap .i64 ((IntKind.wrap .i64 ((IntKind.wrap .i64 (i59 + i61)) + i63)) + i65)) != (did' : Int)) w66))) fun b67 w68 =>
            iteB b67 (
              (k false w68)) (
              (C ((used' : Int), (did' : Int), (IntKind.wrap .i64 ((i : Int) + (1 : Int)))) w68)) := by
    intro used' did' w' h4' hd' hu' hS
    refine joinP_i (fun y w'' => y = false ∧ w' = w'') ?_ ?_
    · intro J hJ
      obtain ⟨a, b, c, d, est, hsum⟩ := h4'.st
      have hcal' := h4'.caller
      refine used_s (g := gm) (M := M') hS (iteB_f (by rw [h4'.used]; simp) ?_)
      refine steps_s (g := gm) (M := M') hS (steps_s (g := gm) (M := M') hS (steps_s (g := gm) (M := M') hS (steps_s (g := gm) (M := M') hS (hJ _ _ ⟨?_, rfl⟩))))
      rw [hcal', hcal', hcal', hcal', est]
      simp
      rw [wrap_id (x := (a : Int) + b) ⟨by omega, by omega⟩, wrap_id (x := (a : Int) + b + c) ⟨by omega, by omega⟩, wrap_id ⟨by omega, by omega⟩]
      omega
    rintro _ _ ⟨rfl, rfl⟩
    exact iteB_f rfl (hC _ _ ⟨i + 1, used', did', M', by rw [hw], by omega, hd', hu', h4', hS.drop⟩ (by dsimp only; rw [hw]; omega))
  rcases key with ⟨k1, rfl, rfl⟩ | ⟨rfl, k2, k2', rfl, k3, k4, k5⟩
  · refine joinP_i (fun y w' => y = ((used : Int), (did : Int)) ∧ w4 = w') ?_ ?_
    · intro J hJ
      refine iteB_t (by simpa using k1) ?_
      refine ldW_h hS rfl ?_
      exact eq2_i (r := Rg.zero) (s := Rg.zero) (iteB_f rfl (hJ _ _ ⟨rfl, rfl⟩))
    rintro _ _ ⟨rfl, rfl⟩
    exact tail used did w4 h4 (by omega) hus hS
  · refine joinP_i (fun y w' => y = (((used + n.toNat : Nat) : Int), ((did + 1 : Nat) : Int)) ∧ St w0 w' (blk g [.int .i64 (used : Int), .int .i64 log] :: mach gm M' :: L)) ?_ ?_
    · intro J hJ
      refine iteB_f rfl ?_
      refine joinP_i (fun y w' => y = false ∧ St w0 w' (blk g [.int .i64 (used : Int), .int .i64 log] :: mach gm M' :: L)) ?_ ?_
      · intro J' hJ'
        refine drew_h hS fun w5 hS => ?_
        refine ldW_h hS rfl ?_
        refine ixR_h hR hS (by omega) he fun q hq => ldI_i (hq hS (j := 1) rfl) (samec_h hS hS ?_)
        refine eq2_i (r := ⟨(used : Int), log⟩) (s := ⟨(used : Int), log⟩) (iteB_f (by simp) ?_)
        refine ldW_h hS rfl ?_
        refine size_s (r := ⟨(used : Int), log⟩) hS fun w6 hS => hJ' _ _ ⟨?_, hS⟩
        have hpw : (Rg.mk (used : Int) log).pw = 2 ^ log.toNat := rfl
        have hk4 := Rg.right_out k4
        have hpw0 : (Rg.mk 0 log).pw = 2 ^ log.toNat := rfl
        rw [hpw0] at hk4
        have hs1 := h1.1
        have hr : (Rg.mk (used : Int) log).right = true := by
          unfold Rg.right
          rw [decide_eq_true_eq, hpw]
          dsimp only at *
          generalize (2 ^ log.toNat : Nat) = m at *
          omega
        have : (Rg.mk (used : Int) log).size = n := by unfold Rg.size; rw [if_pos hr, hpw, k2]
        rw [this]; simp
      rintro _ w5 ⟨rfl, hS⟩
      refine iteB_f rfl (hJ _ _ ⟨?_, hS⟩)
      rw [wrap_id (x := (used : Int) + n) ⟨by omega, by omega⟩, wrap_id (x := (did : Int) + 1) ⟨by omega, by omega⟩]
      congr 1
      omega
    rintro _ w5 ⟨rfl, hS⟩
    exact tail (used + n.toNat) (did + 1) w5 k5 (by omega) (by omega) hS
end
end Go.Proofs.Yteipigpapliagaa
