/-
  Layer 6, the document's answer: its stack of tasks in memory.
-/
import Derived.Test.YtgkfbagclkjilaaSj
set_option linter.unusedSimpArgs false
set_option linter.unusedVariables false
set_option maxRecDepth 100000
namespace Go.Proofs.Ytgkfbagclkjilaa
open Go Go.Ev Go.Proofs
open Go.Proofs.Ytgkfbagclkjilaa.Fr (fTo fOn fPlain fForked fJoined fClosed fChild fRoot fR isB fTo_len fOn_len fPlain_len fForked_len fJoined_len fClosed_len)
open Go.Proofs.Ytgkfbagclkjilaa.Ck (opI Walk Accs needsOf isGoes heldL depths stepD handlesOk subBits scopesOk forks)

/-! ### an element of a slice that is owned, by its address -/
structure Top (s : Sl) (sz i g o : Nat) : Prop where
  at' : ∃ off, s.a = some ⟨g, off, none⟩ ∧ o = off + i * sz
  lt : i < s.n
section
variable {w0 w : World} {L : List HP} {sz i g o : Nat} {s : Sl} {rest e : List Value} {f : HP → List HP}
theorem Top.blk (T : Top s sz i g o) {vs : List Value} (h : OwnS sz w s vs) : ∃ off cs, s.a = some ⟨g, off, none⟩ ∧ o = off + i * sz ∧ Blk w g cs ∧ off + s.c * sz ≤ cs.size ∧ ∀ k v, vs[k]? = some v → cs[off + k]? = some v := by
  obtain ⟨off, h1, h2⟩ := T.at'
  rcases h.row with ⟨h3, _⟩ | ⟨g', off', cs, h3, h4, h5, h6⟩
  · rw [h1] at h3; cases h3
  · rw [h1] at h3; cases h3
    exact ⟨off, cs, h1, h2, h4, h5, h6⟩
theorem Top.cell (T : Top s sz i g o) (h : St w0 w L) [a : At L (slc sz s) (rest ++ e) f] (hr : rest.length = i * sz) {j : Nat} {v : Value} (hv : e[j]? = some v) : w.cell? ⟨g, o + j, none⟩ = some v := by
  obtain ⟨off, cs, h1, h2, h3, h4, h5⟩ := T.blk (h.own (sz := sz) (s := s) (vs := rest ++ e))
  rw [h3.cell, h2, Nat.add_assoc]
  exact h5 _ _ (by rw [List.getElem?_append_right (by omega), show i * sz + j - rest.length = j by omega]; exact hv)
theorem tI (T : Top s sz i g o) (h : St w0 w L) [a : At L (slc sz s) (rest ++ e) f] (hr : rest.length = i * sz) {j : Nat} {k : IntKind} {n : Int} {c : Int → Prop} (hv : e[j]? = some (.int k n)) (hc : c n) : ldI k w ⟨g, o + j, none⟩ c := ldI_i (T.cell h hr hv) hc
theorem tB (T : Top s sz i g o) (h : St w0 w L) [a : At L (slc sz s) (rest ++ e) f] (hr : rest.length = i * sz) {j : Nat} {n : Bool} {c : Bool → Prop} (hv : e[j]? = some (.bool n)) (hc : c n) : ldB w ⟨g, o + j, none⟩ c := ldB_i (T.cell h hr hv) hc
theorem tS (T : Top s sz i g o) (h : St w0 w L) [a : At L (slc sz s) (rest ++ e) f] (hr : rest.length = i * sz) {j : Nat} {x : Sl} {c : Sl → Prop} (hv : e[j]? = some (.slice x.a x.n x.c)) (hc : c x) : ldS w ⟨g, o + j, none⟩ c := ldS_i (s := x) (T.cell h hr hv) hc
theorem tA (T : Top s sz i g o) (h : St w0 w L) [a : At L (slc sz s) (rest ++ e) f] (hr : rest.length = i * sz) {j n : Nat} {c : Array Value → Prop} (hl : j + n ≤ e.length) (hc : c ((e.drop j).take n).toArray) : ldA n w ⟨g, o + j, none⟩ c := by
  refine ldA_c (e := (e.drop j).take n) (by simp; omega) (fun k v hv => ?_) hc
  have hk : k < n := by have := (List.getElem?_eq_some_iff.1 hv).1; simp at this; omega
  rw [List.getElem?_take_of_lt hk, List.getElem?_drop] at hv
  rw [add_mk, Nat.add_assoc]
  exact T.cell h hr hv
theorem tSame (T : Top s sz i g o) {w0' w' : World} {L' : List HP} {f' : HP → List HP} (h : St w0 w L) (h' : St w0' w' L') [a : At L (slc sz s) (rest ++ e) f] [a' : At L' (slc sz s) (rest ++ e) f'] (hr : rest.length = i * sz) {j n : Nat} {c : Prop} (hl : j + n ≤ e.length) (hc : c) : samec n ⟨g, o + j, none⟩ w w' c := by
  refine ⟨fun k hk => ?_, hc⟩
  obtain ⟨v, hv⟩ : ∃ v, e[j + k]? = some v := ⟨_, List.getElem?_eq_getElem (by omega)⟩
  rw [add_mk, Nat.add_assoc, T.cell h hr hv, T.cell h' hr hv]
theorem tW (T : Top s sz i g o) (h : St w0 w L) [a : At L (slc sz s) (rest ++ e) f] (hr : rest.length = i * sz) (he : e.length = sz) {j n : Nat} {xs : Array Value} {c : World → Prop} (hx : xs.size = n) (hl : j + n ≤ sz) (hone : ∀ v ∈ xs, v.oneCell' = true)
    (hc : ∀ w', St w0 w' (f (slc sz s (rest ++ (e.take j ++ (xs.toList ++ e.drop (j + n)))))) → c w') : stA n w ⟨g, o + j, none⟩ xs c := by
  have ho : OwnS sz w s (rest ++ e) := h.own
  obtain ⟨off, cs, h1, h2, h3, h4, h5⟩ := T.blk ho
  have hcap := ho.cap
  have hlt := T.lt
  have hm : i * sz + sz ≤ s.c * sz := by rw [← Nat.succ_mul]; exact Nat.mul_le_mul_right _ (by omega)
  have hxl : xs.toList.length = n := by simpa using hx
  refine stA_i h3 hx (by omega) hone fun w' cs' k1 k2 k3 k4 k5 k6 => hc w' (h.turn' a fun F1 hF => ⟨k5.mono fun k _ hk => (hF.1 k).2 (by simp [Sl.blk, h1, hk]), F1, ⟨hF.1, ?_⟩, fun k hk => .inl hk⟩)
  refine ⟨?_, ho.cap, ho.max, fun v hv => ?_, .inr ⟨g, off, cs', h1, k1, by omega, fun k u hk => ?_⟩⟩
  · rw [← ho.len]; simp only [List.length_append, List.length_take, List.length_drop, hxl]; omega
  · rcases List.mem_append.1 hv with hv | hv
    · exact ho.one v (by simp [hv])
    · rcases List.mem_append.1 hv with hv | hv
      · exact ho.one v (by simp [List.mem_of_mem_take hv])
      · rcases List.mem_append.1 hv with hv | hv
        · exact hone v (by simpa using hv)
        · exact ho.one v (by simp [List.mem_of_mem_drop hv])
  · by_cases q0 : k < rest.length
    · rw [List.getElem?_append_left q0] at hk
      rw [k3 _ (by omega)]
      exact h5 k u (by rw [List.getElem?_append_left q0]; exact hk)
    · rw [List.getElem?_append_right (by omega)] at hk
      by_cases q1 : k - rest.length < j
      · rw [List.getElem?_append_left (by simp; omega), List.getElem?_take_of_lt q1] at hk
        rw [k3 _ (by omega)]
        exact h5 k u (by rw [List.getElem?_append_right (by omega)]; exact hk)
      · rw [List.getElem?_append_right (by simp; omega)] at hk
        simp only [List.length_take] at hk
        rw [show k - rest.length - min j e.length = k - rest.length - j by omega] at hk
        by_cases q2 : k - rest.length < j + n
        · rw [List.getElem?_append_left (by omega)] at hk
          have := k4 (k - rest.length - j) (by omega)
          rw [show off + k = o + j + (k - rest.length - j) by omega, this]
          simpa using hk
        · rw [List.getElem?_append_right (by omega), List.getElem?_drop] at hk
          rw [k3 _ (by omega)]
          refine h5 k u ?_
          rw [List.getElem?_append_right (by omega)]
          rw [← hk]; congr 1; omega
theorem tC (T : Top s sz i g o) (h : St w0 w L) [a : At L (slc sz s) (rest ++ e) f] (hr : rest.length = i * sz) (he : e.length = sz) {j : Nat} {v : Value} {c : World → Prop} (hl : j < sz) (h1 : v.oneCell' = true)
    (hc : ∀ w', St w0 w' (f (slc sz s (rest ++ e.set j v))) → c w') : stC w ⟨g, o + j, none⟩ v c := by
  have ho : OwnS sz w s (rest ++ e) := h.own
  obtain ⟨off, cs, q1, q2, q3, q4, q5⟩ := T.blk ho
  have hcap := ho.cap
  have hlt := T.lt
  have hm : i * sz + sz ≤ s.c * sz := by rw [← Nat.succ_mul]; exact Nat.mul_le_mul_right _ (by omega)
  refine stC_i h1 q3 (by omega) fun w'' hb hs hon => hc w'' (h.turn' a fun F1 hF => ⟨hon.mono fun k _ hk => (hF.1 k).2 (by simp [Sl.blk, q1, hk]), F1, ⟨hF.1, ?_⟩, fun k hk => .inl hk⟩)
  refine ⟨by rw [← ho.len]; simp, ho.cap, ho.max, fun x hx => ?_, .inr ⟨g, off, _, q1, hb, by simpa using q4, fun k u hk => ?_⟩⟩
  · rcases List.mem_append.1 hx with hx | hx
    · exact ho.one x (by simp [hx])
    · rcases List.mem_or_eq_of_mem_set hx with hx | rfl
      · exact ho.one x (by simp [hx])
      · exact h1
  · by_cases q0 : k < rest.length
    · rw [List.getElem?_append_left q0] at hk
      rw [Array.getElem?_setIfInBounds_ne (by omega)]
      exact q5 k u (by rw [List.getElem?_append_left q0]; exact hk)
    · rw [List.getElem?_append_right (by omega)] at hk
      by_cases hkj : j = k - rest.length
      · subst hkj
        rw [List.getElem?_set_self (by omega)] at hk
        cases hk
        rw [show o + (k - rest.length) = off + k by omega, Array.getElem?_setIfInBounds_self, if_pos (by
          have hkl : k < (rest ++ e).length := by simp; omega
          have := ho.len
          have hcs : s.n * sz ≤ s.c * sz := Nat.mul_le_mul_right _ hcap
          omega)]
      · rw [List.getElem?_set_ne hkj] at hk
        rw [Array.getElem?_setIfInBounds_ne (by omega)]
        exact q5 k u (by rw [List.getElem?_append_right (by omega)]; exact hk)
theorem top_of {vs : List Value} {x : Int} {c : Addr → Prop} (h : St w0 w L) [a : At L (slc sz s) vs f] (hsz : 0 < sz) (h0 : 0 ≤ x) (h1 : x < s.n) (hc : ∀ g o, Top s sz x.toNat g o → c ⟨g, o, none⟩) : ixS s x sz c := by
  have ho : OwnS sz w s vs := h.own
  rcases ho.row with ⟨h2, h3⟩ | ⟨g, off, cs, h2, h3, h4, h5⟩
  · have := ho.cap; omega
  · unfold ixS
    rw [h2]
    refine ⟨⟨h0, h1⟩, ?_⟩
    rw [add_mk]
    exact hc g _ ⟨⟨off, h2, rfl⟩, by omega⟩
/-- an element is read whole -/
theorem ixLdA_h {vs : List Value} {i : Int} {c : Array Value → Prop} (h : St w0 w L) [a : At L (slc sz s) vs f] (hsz : 0 < sz) (h0 : 0 ≤ i) (h1 : i < s.n)
    (hc : c ((vs.drop (i.toNat * sz)).take sz).toArray) : ixS s i sz fun a => ldA sz w a c := by
  refine ixS_h h hsz h0 h1 fun g o _ hr _ => ?_
  have hlen := h.slen (sz := sz) (s := s) (vs := vs)
  have hlt : i.toNat * sz + sz ≤ s.n * sz := by
    rw [← Nat.succ_mul]; exact Nat.mul_le_mul_right _ (by omega)
  have hl : ((vs.drop (i.toNat * sz)).take sz).length = sz := by simp; omega
  refine ldA_c hl (fun j v hv => ?_) hc
  have hj : j < sz := by have := (List.getElem?_eq_some_iff.1 hv).1; omega
  rw [List.getElem?_take_of_lt hj, List.getElem?_drop] at hv
  rw [add_mk]
  exact hr h j v hj hv
end

/-! ### the stack -/
def rkV (t : Tk) (so sk : Sl) (b : List Int) : List Value := ints t.f ++ ([.int .i64 t.row, .slice so.a so.n so.c, .slice sk.a sk.n sk.c, .int .i64 t.opened, .bool t.off] ++ ints b)
def opV (n : Nat) : List (Bool × Int) → List Value
  | [] => []
  | x :: l => opV n l ++ [.bool x.1, .int .i64 ((n + 1 + l.length : Nat) : Int)]
def kV : List (Bool × Int) → List Value
  | [] => []
  | x :: l => kV l ++ [.int .i64 x.2]
theorem opV_len (n : Nat) : ∀ l, (opV n l).length = 2 * l.length
  | [] => rfl
  | x :: l => by simp [opV, opV_len n l]; omega
theorem kV_len : ∀ l, (kV l).length = l.length
  | [] => rfl
  | x :: l => by simp [kV, kV_len l]
theorem opV_get (n : Nat) : ∀ (l : List (Bool × Int)) (j : Nat), (opV n l)[2 * j]? = (l.reverse[j]?).map fun x => .bool x.1
  | [], j => by simp [opV]
  | x :: l, j => by
    have ih := opV_get n l j
    have hl := opV_len n l
    unfold opV
    rw [List.reverse_cons]
    by_cases q : j < l.length
    · rw [List.getElem?_append_left (by omega), List.getElem?_append_left (by simpa using q)]; exact ih
    · rw [List.getElem?_append_right (by omega), List.getElem?_append_right (by simpa using q), hl]
      by_cases q2 : j = l.length
      · subst q2; simp
      · rw [List.getElem?_eq_none (by simp; omega), List.getElem?_eq_none (by simp; omega)]; rfl
section
variable {t : Tk} {so sk : Sl} {b : List Int}
theorem rk_len (hf : t.f.length = 19) (hb : b.length = 5) : (rkV t so sk b).length = 29 := by simp [rkV, ints, hf, hb]
theorem rk_get (hf : t.f.length = 19) {j : Nat} (hj : j < 19) : (rkV t so sk b)[j]? = some (.int .i64 (t.f.getD j 0)) := by
  unfold rkV
  rw [List.getElem?_append_left (by simp [ints, hf]; exact hj)]
  exact ints_getD (by omega)
theorem rk_hi (hf : t.f.length = 19) (j : Nat) : (rkV t so sk b)[19 + j]? = ([.int .i64 t.row, .slice so.a so.n so.c, .slice sk.a sk.n sk.c, .int .i64 t.opened, .bool t.off] ++ ints b)[j]? := by
  unfold rkV
  rw [List.getElem?_append_right (by simp [ints, hf])]
  simp [ints, hf]
theorem rk_row (hf : t.f.length = 19) : (rkV t so sk b)[19]? = some (.int .i64 t.row) := rk_hi hf 0
theorem rk_so (hf : t.f.length = 19) : (rkV t so sk b)[20]? = some (.slice so.a so.n so.c) := rk_hi hf 1
theorem rk_sk (hf : t.f.length = 19) : (rkV t so sk b)[21]? = some (.slice sk.a sk.n sk.c) := rk_hi hf 2
theorem rk_op (hf : t.f.length = 19) : (rkV t so sk b)[22]? = some (.int .i64 t.opened) := rk_hi hf 3
theorem rk_off (hf : t.f.length = 19) : (rkV t so sk b)[23]? = some (.bool t.off) := rk_hi hf 4
theorem rk_f (hf : t.f.length = 19) : (((rkV t so sk b).drop 0).take 19).toArray = agI t.f := by
  unfold rkV
  rw [List.drop_zero, List.take_append_of_le_length (by simp [ints, hf]), List.take_of_length_le (by simp [ints, hf])]
theorem rk_by (hf : t.f.length = 19) (hb : b.length = 5) : (((rkV t so sk b).drop 24).take 5).toArray = agI b := by
  unfold rkV
  rw [List.drop_append, List.drop_of_length_le (by simp [ints, hf])]
  simp [ints, hf, hb, agI]
  exact List.take_of_length_le (by simp [hb])
theorem rk_setf {f' : List Int} (hf : t.f.length = 19) (hf' : f'.length = 19) : (rkV t so sk b).take 0 ++ ((agI f').toList ++ (rkV t so sk b).drop (0 + 19)) = rkV { t with f := f' } so sk b := by
  unfold rkV
  rw [List.take_zero, List.nil_append, Nat.zero_add, List.drop_append_of_le_length (by simp [ints, hf]), List.drop_of_length_le (by simp [ints, hf])]
  rfl
theorem rk_set (hf : t.f.length = 19) (j : Nat) (v : Value) : (rkV t so sk b).set (19 + j) v = ints t.f ++ (([.int .i64 t.row, .slice so.a so.n so.c, .slice sk.a sk.n sk.c, .int .i64 t.opened, .bool t.off] : List Value) ++ ints b).set j v := by
  unfold rkV
  rw [List.set_append_right _ _ (by simp [ints, hf])]; simp [ints, hf]
theorem rk_setop {x : Int} (hf : t.f.length = 19) : (rkV t so sk b).set 22 (.int .i64 x) = rkV { t with opened := x } so sk b := rk_set hf 3 _
theorem rk_setso {s' : Sl} (hf : t.f.length = 19) : (rkV t so sk b).set 20 (.slice s'.a s'.n s'.c) = rkV t s' sk b := rk_set hf 1 _
theorem rk_setsk {s' : Sl} (hf : t.f.length = 19) : (rkV t so sk b).set 21 (.slice s'.a s'.n s'.c) = rkV t so s' b := rk_set hf 2 _
theorem rk_one (hf : t.f.length = 19) : ∀ v ∈ rkV t so sk b, v.oneCell' = true := by
  intro v hv
  unfold rkV at hv
  rcases List.mem_append.1 hv with hv | hv
  · exact one_ints v hv
  · rcases List.mem_append.1 hv with hv | hv
    · simp at hv; rcases hv with rfl | rfl | rfl | rfl | rfl <;> rfl
    · exact one_ints v hv
end
end Go.Proofs.Ytgkfbagclkjilaa
