/-
  The clock's deadlines in memory, and container/heap over them.
-/
import Derived.Test.YtheallacpidcmaaKb
import Derived.Test.YtheallacpidcmaaFc
set_option linter.unusedSimpArgs false
set_option linter.unusedVariables false
set_option maxRecDepth 100000
namespace Go.Ev
open Go Go.RowKit
section
variable {P : Program} {w0 w : World} {L : List HP} {sz : Nat} {s : Sl} {vs : List Value} {f : HP → List HP}
def isStr (P : Program) (t : TypeId) : Bool := match P.underlying t with | some (.struct _) => true | _ => false
theorem isStr_out {t : TypeId} (h : isStr P t = true) : ∃ fs, P.underlying t = some (.struct fs) := by
  unfold isStr at h
  split at h
  · exact ⟨_, by assumption⟩
  · cases h
theorem unT_0 {c : KT [] → Prop} (h : c ()) : unT [] (.tuple #[]) c := h
theorem unT_ag {x : Array Value} {b : Bool} {c : KT [.ag, .b] → Prop} (h : c (x, b)) : unT [.ag, .b] (.tuple #[.agg x, .bool b]) c := h
theorem tyA_h {t xt : TypeId} {v : Value} {c : Value → World → Prop} (hu : isStr P t = true) (hc : c (.tuple #[v, .bool true]) w) : tyA P (.iface t v) xt t true w c := by
  unfold tyA
  obtain ⟨fs, hu⟩ := isStr_out hu
  have hr : (Instr.typeAssert (.iface t v) xt t true).run P w = .ok (.tuple #[v, .bool true]) w := by
    simp [Instr.typeAssert, run_underlying hu]
  rw [hr]; exact hc
/-- an element is written whole -/
theorem ixStA_h {i : Int} {x : Array Value} {c : World → Prop} (h : St w0 w L) [a : At L (slc sz s) vs f] (hsz : 0 < sz) (h0 : 0 ≤ i) (h1 : i < s.n) (hx : x.size = sz) (hone : ∀ v ∈ x, v.oneCell' = true)
    (hc : ∀ w', St w0 w' (f (slc sz s (vs.take (i.toNat * sz) ++ (x.toList ++ vs.drop (i.toNat * sz + sz))))) → c w') : ixS s i sz fun a => stA sz w a x c := by
  have ho : OwnS sz w s vs := h.own
  have hi : i.toNat < s.n := by omega
  have hlt : i.toNat * sz + sz ≤ s.n * sz := by
    rw [← Nat.succ_mul]; exact Nat.mul_le_mul_right _ hi
  have hcsz : s.n * sz ≤ s.c * sz := Nat.mul_le_mul_right _ ho.cap
  have hvl := ho.len
  rcases ho.row with ⟨h2, h3⟩ | ⟨g, off, cs, h2, h3, h4, h5⟩
  · have := ho.cap; omega
  · unfold ixS
    rw [h2]
    refine ⟨⟨h0, h1⟩, ?_⟩
    rw [add_mk]
    refine stA_i h3 hx (by omega) hone fun w' cs' k1 k2 k3 k4 k5 k6 => hc w' (h.turn' a fun F1 hF => ⟨k5.mono fun k _ hk => (hF.1 k).2 (by simp [Sl.blk, h2, hk]), F1, ⟨hF.1, ?_⟩, fun k hk => .inl hk⟩)
    have hxl : x.toList.length = sz := by simpa using hx
    refine ⟨by simp only [List.length_append, List.length_take, List.length_drop, hxl]; omega, ho.cap, ho.max, fun v hv => ?_, .inr ⟨g, off, cs', h2, k1, by omega, fun k u hk => ?_⟩⟩
    · rcases List.mem_append.1 hv with hv | hv
      · exact ho.one v (List.mem_of_mem_take hv)
      · rcases List.mem_append.1 hv with hv | hv
        · exact hone v (by simpa using hv)
        · exact ho.one v (List.mem_of_mem_drop hv)
    · by_cases q1 : k < i.toNat * sz
      · rw [List.getElem?_append_left (by simp; omega), List.getElem?_take_of_lt q1] at hk
        rw [k3 _ (by omega)]; exact h5 k u hk
      · rw [List.getElem?_append_right (by simp; omega)] at hk
        simp only [List.length_take] at hk
        rw [show k - min (i.toNat * sz) vs.length = k - i.toNat * sz by omega] at hk
        by_cases q2 : k < i.toNat * sz + sz
        · rw [List.getElem?_append_left (by omega)] at hk
          have := k4 (k - i.toNat * sz) (by omega)
          rw [show off + i.toNat * sz + (k - i.toNat * sz) = off + k by omega] at this
          rw [this]; simpa using hk
        · rw [List.getElem?_append_right (by omega), List.getElem?_drop, hxl] at hk
          rw [show i.toNat * sz + sz + (k - i.toNat * sz - sz) = k by omega] at hk
          rw [k3 _ (by omega)]; exact h5 k u hk
/-- an element is read whole -/
theorem ixLdA_h {i : Int} {c : Array Value → Prop} (h : St w0 w L) [a : At L (slc sz s) vs f] (hsz : 0 < sz) (h0 : 0 ≤ i) (h1 : i < s.n)
    (hc : c ((vs.drop (i.toNat * sz)).take sz).toArray) : ixS s i sz fun a => ldA sz w a c := by
  refine ixS_h h hsz h0 h1 fun g o _ hr _ => ?_
  have hlen := h.slen (sz := sz) (s := s) (vs := vs)
  have hlt : i.toNat * sz + sz ≤ s.n * sz := by
    rw [← Nat.succ_mul]; exact Nat.mul_le_mul_right _ (by omega)
  have hl : ((vs.drop (i.toNat * sz)).take sz).length = sz := by simp; omega
  refine ldA_c hl (fun j v hv => ?_) hc
  have hj : j < sz := by have := (List.getElem?_eq_some_iff.1 hv).1; omega
  rw [List.getElem?_take_of_lt hj, List.getElem?_drop] at hv
  rw [add_mk]
  exact hr h j v hj hv
end
theorem elI1 {P : Program} {t : TypeId} (h : elInfo P t = some (1, 8, some (.int .i64 0))) : ElS P t 1 8 (.int .i64 0) := ⟨h, rfl⟩
/-- one of the parts turns, and a new one comes -/
theorem At.out2 {α : Type} {L : List HP} {k : α → HP} {x : α} {f : HP → List HP} (a : At L k x f) : ∃ R, (∀ {w0 w}, St w0 w L → St w0 w (k x :: R)) ∧ (∀ {X w0 w}, St w0 w (X :: R) → St w0 w (f X)) ∧ ∀ {X Y w0 w}, St w0 w (X :: Y :: R) → St w0 w (Y :: f X) := by
  obtain ⟨R, h1, h2⟩ := a.split
  refine ⟨R, fun ⟨a, F, b, c⟩ => ⟨a, F, h1 b, c⟩, fun ⟨a, F, b, c⟩ => ⟨a, F, h2 b, c⟩, fun h => ?_⟩
  obtain ⟨e, F, ⟨F1, F2, k1, k2, k3, k4⟩, c⟩ := h.swap
  exact ⟨e, F, ⟨F1, F2, k1, h2 k2, k3, k4⟩, c⟩
/-- a type's method -/
def mInfo (P : Program) (t : TypeId) (name : String) : Option (Bool × Option (FuncId × Bool)) := match P.info? t with
  | some i => match i.methods.find? fun m => m.name == name with
    | some m => some (m.path.isEmpty, m.func)
    | none => none
  | none => none
theorem mInfo_out {P : Program} {t : TypeId} {name : String} {r : Option (FuncId × Bool)} (h : mInfo P t name = some (true, r)) : ∃ i m, P.info? t = some i ∧ (i.methods.find? fun m => m.name == name) = some m ∧ m.path = #[] ∧ m.func = r := by
  unfold mInfo at h
  split at h
  · rename_i i hi
    split at h
    · rename_i m hm
      simp only [Option.some.injEq, Prod.mk.injEq] at h
      exact ⟨i, m, hi, hm, by simpa using h.1, h.2⟩
    · cases h
  · cases h
end Go.Ev
namespace Go.Proofs.Ytheallacpidcmaa
open Go Go.Ev Go.Proofs

def fl : DL → List Value
  | [] => []
  | x :: d => .int .i64 x.1 :: .int .i64 x.2 :: fl d
theorem fl_len : ∀ d : DL, (fl d).length = d.length * 2
  | [] => rfl
  | x :: d => by simp [fl, fl_len d]; omega
theorem fl_one : ∀ (d : DL), ∀ v ∈ fl d, v.oneCell' = true
  | [], v, h => by cases h
  | x :: d, v, h => by
    simp only [fl, List.mem_cons] at h
    rcases h with rfl | rfl | h
    · rfl
    · rfl
    · exact fl_one d v h
theorem fl_app : ∀ (d e : DL), fl (d ++ e) = fl d ++ fl e
  | [], e => rfl
  | x :: d, e => by simp [fl, fl_app d e]
theorem fl_take : ∀ (d : DL) (m : Nat), (fl d).take (m * 2) = fl (d.take m)
  | [], m => by simp [fl]
  | x :: d, 0 => by simp [fl]
  | x :: d, m + 1 => by
    rw [show (m + 1) * 2 = m * 2 + 1 + 1 by omega]
    simp [fl, fl_take d m]
theorem fl_drop : ∀ (d : DL) (m : Nat), (fl d).drop (m * 2) = fl (d.drop m)
  | [], m => by simp [fl]
  | x :: d, 0 => by simp [fl]
  | x :: d, m + 1 => by
    rw [show (m + 1) * 2 = m * 2 + 1 + 1 by omega]
    simp [fl, fl_drop d m]
theorem gd_cons {x : Int × Int} {d : DL} {k : Nat} : gd (x :: d) (k + 1) = gd d k := by simp [gd]
theorem fl_get0 : ∀ {d : DL} {i : Nat}, i < d.length → (fl d)[i * 2 + 0]? = some (.int .i64 (gd d i).1)
  | x :: d, 0, _ => rfl
  | x :: d, i + 1, h => by
    rw [show (i + 1) * 2 + 0 = (i * 2 + 0) + 1 + 1 by omega, gd_cons]
    simp only [fl, List.getElem?_cons_succ]
    exact fl_get0 (by simpa using h)
theorem fl_get1 : ∀ {d : DL} {i : Nat}, i < d.length → (fl d)[i * 2 + 1]? = some (.int .i64 (gd d i).2)
  | x :: d, 0, _ => rfl
  | x :: d, i + 1, h => by
    rw [show (i + 1) * 2 + 1 = (i * 2 + 1) + 1 + 1 by omega, gd_cons]
    simp only [fl, List.getElem?_cons_succ]
    exact fl_get1 (by simpa using h)
theorem fl_pair : ∀ {d : DL} {i : Nat}, i < d.length → ((fl d).drop (i * 2)).take 2 = [.int .i64 (gd d i).1, .int .i64 (gd d i).2]
  | x :: d, 0, _ => rfl
  | x :: d, i + 1, h => by
    rw [show (i + 1) * 2 = i * 2 + 1 + 1 by omega, gd_cons]
    simp only [fl, List.drop_succ_cons]
    exact fl_pair (by simpa using h)
theorem fl_set {x : Int × Int} : ∀ {d : DL} {i : Nat}, i < d.length → (fl d).take (i * 2) ++ ([.int .i64 x.1, .int .i64 x.2] ++ (fl d).drop (i * 2 + 2)) = fl (d.set i x)
  | y :: d, 0, _ => by simp [fl]
  | y :: d, i + 1, h => by
    rw [show (i + 1) * 2 = i * 2 + 1 + 1 by omega, show i * 2 + 1 + 1 + 2 = (i * 2 + 2) + 1 + 1 by omega]
    simp only [fl, List.take_succ_cons, List.drop_succ_cons, List.cons_append, List.set_cons_succ]
    rw [← fl_set (d := d) (by simpa using h)]
    rfl
section
variable {w0 w : World} {L : List HP} {s : Sl} {d : DL} {f : HP → List HP}
theorem St.dlen (h : St w0 w L) [a : At L (slc 2 s) (fl d) f] : s.n = d.length := by
  have := h.slen (sz := 2) (s := s) (vs := fl d); rw [fl_len] at this; omega
theorem ldE0_h {i : Int} {c : Int → Prop} (h : St w0 w L) [a : At L (slc 2 s) (fl d) f] (h0 : 0 ≤ i) (h1 : i < d.length) (hc : c (gd d i.toNat).1) : ixS s i 2 fun a => ldI .i64 w (Addr.add a 0) c := by
  have hn := St.dlen (s := s) (d := d) h
  refine ixS_h h (by omega) h0 (by omega) fun g o _ hr _ => ?_
  exact ldI_i (hr h 0 _ (by omega) (fl_get0 (by omega))) hc
theorem ldE1_h {i : Int} {c : Int → Prop} (h : St w0 w L) [a : At L (slc 2 s) (fl d) f] (h0 : 0 ≤ i) (h1 : i < d.length) (hc : c (gd d i.toNat).2) : ixS s i 2 fun a => ldI .i64 w (Addr.add a 1) c := by
  have hn := St.dlen (s := s) (d := d) h
  refine ixS_h h (by omega) h0 (by omega) fun g o _ hr _ => ?_
  rw [add_mk]
  exact ldI_i (hr h 1 _ (by omega) (fl_get1 (by omega))) hc
theorem ldEA_h {i : Int} {c : Array Value → Prop} (h : St w0 w L) [a : At L (slc 2 s) (fl d) f] (h0 : 0 ≤ i) (h1 : i < d.length) (hc : c #[.int .i64 (gd d i.toNat).1, .int .i64 (gd d i.toNat).2]) : ixS s i 2 fun a => ldA 2 w a c := by
  have hn := St.dlen (s := s) (d := d) h
  refine ixLdA_h h (by omega) h0 (by omega) ?_
  rw [fl_pair (by omega)]; exact hc
theorem stEA_h {i : Int} {x y : Int} {c : World → Prop} (h : St w0 w L) [a : At L (slc 2 s) (fl d) f] (h0 : 0 ≤ i) (h1 : i < d.length) (hc : ∀ w', St w0 w' (f (slc 2 s (fl (d.set i.toNat (x, y))))) → c w') : ixS s i 2 fun a => stA 2 w a #[.int .i64 x, .int .i64 y] c := by
  have hn := St.dlen (s := s) (d := d) h
  refine ixStA_h h (by omega) h0 (by omega) rfl (by intro v hv; simp at hv; rcases hv with rfl | rfl <;> rfl) fun w' h' => hc w' ?_
  rw [← fl_set (by omega)]; exact h'
/-- Less -/
theorem less_s {i j : Int} {c : Bool → World → Prop} (h : St w0 w L) [a : At L (slc 2 s) (fl d) f] (hi : 0 ≤ i ∧ i < d.length) (hj : 0 ≤ j ∧ j < d.length) (hc : ∀ w', St w0 w' L → c (decide (lt2 (gd d i.toNat) (gd d j.toNat))) w') : clock_due_Less s i j w c := by
  unfold clock_due_Less
  refine drew_h h fun w1 h => ?_
  refine ldE0_h (d := d) h hi.1 hi.2 ?_
  refine ldE0_h (d := d) h hj.1 hj.2 ?_
  refine iteB_i (fun hb => ?_) fun hb => ?_
  · have hb := of_decide_eq_true hb
    have e : lt2 (gd d i.toNat) (gd d j.toNat) := .inl hb
    have := hc w1 h
    rwa [decide_eq_true e] at this
  · have hb := of_decide_eq_false hb
    refine ldE0_h (d := d) h hi.1 hi.2 ?_
    refine ldE0_h (d := d) h hj.1 hj.2 ?_
    refine iteB_i (fun hb2 => ?_) fun hb2 => ?_
    · have hb2 : (gd d i.toNat).1 = (gd d j.toNat).1 := by simpa using hb2
      refine ldE1_h (d := d) h hi.1 hi.2 ?_
      refine ldE1_h (d := d) h hj.1 hj.2 ?_
      have := hc w1 h
      have e : decide (lt2 (gd d i.toNat) (gd d j.toNat)) = decide ((gd d i.toNat).2 < (gd d j.toNat).2) := by
        rw [decide_eq_decide]; unfold lt2; omega
      rwa [e] at this
    · have hb2 : (gd d i.toNat).1 ≠ (gd d j.toNat).1 := by simpa using hb2
      have := hc w1 h
      have e : ¬ lt2 (gd d i.toNat) (gd d j.toNat) := by unfold lt2; omega
      rwa [decide_eq_false e] at this
end
section
variable {w0 w : World} {R : List HP} {s : Sl} {d : DL}
/-- Swap -/
theorem swap_s {i j : Int} {B : HP} {c : Unit → World → Prop} (h : St w0 w (B :: slc 2 s (fl d) :: R)) (hi : 0 ≤ i ∧ i < d.length) (hj : 0 ≤ j ∧ j < d.length) (hc : ∀ w', St w0 w' (B :: slc 2 s (fl (swp d i.toNat j.toNat)) :: R) → c () w') : clock_due_Swap s i j w c := by
  unfold clock_due_Swap
  refine drew_h h fun w1 h => ?_
  refine ldEA_h (d := d) h hj.1 hj.2 ?_
  refine ldEA_h (d := d) h hi.1 hi.2 ?_
  refine stEA_h (d := d) h hi.1 hi.2 fun w2 h => ?_
  refine stEA_h (d := d.set i.toNat (gd d j.toNat)) h hj.1 (by simpa using hj.2) fun w3 h => ?_
  exact hc w3 h

/-! ### the methods, through the interface value -/
abbrev pv (g : Nat) : Value := .iface 142 (.pointer (some ⟨g, 1, none⟩))
abbrev dcs (now : Int) (gm : Nat) (s : Sl) : List Value := [.int .i64 now, .slice s.a s.n s.c, .map (some gm)]
variable {g gm : Nat} {now : Int} {orc : Oracle}
theorem n_types : Go.Proofs.Try.prog.types.size ≠ 0 := fun h => by
  have e : Nat.beq Go.Proofs.Try.prog.types.size 0 = false := by kernel_rfl
  rw [h] at e; cases e
theorem callV_s {name : String} {f : Nat} {args : Array Value} {c : Value → World → Prop} (hm : mInfo Go.Proofs.Try.prog 142 name = some (true, some (f, false))) (h : St w0 w (blk g (dcs now gm s) :: R)) (hc : orc (.func f) (#[.slice s.a s.n s.c] ++ args) w c) : callM orc Go.Proofs.Try.prog (pv g) name args w c := by
  obtain ⟨i, m, h1, h2, h3, h4⟩ := mInfo_out hm
  have hcell : w.cell? ⟨g, 1, none⟩ = some (.slice s.a s.n s.c) := by
    have hb := h.blk (g := g) (cs := dcs now gm s)
    rw [hb.cell]; rfl
  exact callM_v (e := 137) (e2 := 144) h1 h2 h3 h4 (by kernel_rfl) (by kernel_rfl) (by kernel_rfl) n_types hcell hc
theorem callP_s {name : String} {f : Nat} {args : Array Value} {c : Value → World → Prop} (hm : mInfo Go.Proofs.Try.prog 142 name = some (true, some (f, true))) (hc : orc (.func f) (#[.pointer (some ⟨g, 1, none⟩)] ++ args) w c) : callM orc Go.Proofs.Try.prog (pv g) name args w c := by
  obtain ⟨i, m, h1, h2, h3, h4⟩ := mInfo_out hm
  exact callM_p (e := 137) h1 h2 h3 h4 (by kernel_rfl) n_types hc
theorem mLess {i j : Int} {c : Value → World → Prop} (ho : ∀ args w c, orc (.func n_clock_due_Less) args w c = d_clock_due_Less args.toList w c) (h : St w0 w (blk g (dcs now gm s) :: slc 2 s (fl d) :: R)) (hi : 0 ≤ i ∧ i < d.length) (hj : 0 ≤ j ∧ j < d.length)
    (hc : ∀ w', St w0 w' (blk g (dcs now gm s) :: slc 2 s (fl d) :: R) → c (.bool (decide (lt2 (gd d i.toNat) (gd d j.toNat)))) w') : callM orc Go.Proofs.Try.prog (pv g) "Less" #[.int .i64 i, .int .i64 j] w c := by
  refine callV_s (f := n_clock_due_Less) (by kernel_rfl) h ?_
  rw [ho, show (#[Value.slice s.a s.n s.c] ++ #[Value.int IntKind.i64 i, Value.int IntKind.i64 j]).toList = [.slice s.a s.n s.c, .int .i64 i, .int .i64 j] by simp]
  show clock_due_Less s i j w (fun r w => c (packV (valL [.b] r)) w)
  exact less_s (d := d) h hi hj hc
theorem mSwap {i j : Int} {c : Value → World → Prop} (ho : ∀ args w c, orc (.func n_clock_due_Swap) args w c = d_clock_due_Swap args.toList w c) (h : St w0 w (blk g (dcs now gm s) :: slc 2 s (fl d) :: R)) (hi : 0 ≤ i ∧ i < d.length) (hj : 0 ≤ j ∧ j < d.length)
    (hc : ∀ w', St w0 w' (blk g (dcs now gm s) :: slc 2 s (fl (swp d i.toNat j.toNat)) :: R) → c (.tuple #[]) w') : callM orc Go.Proofs.Try.prog (pv g) "Swap" #[.int .i64 i, .int .i64 j] w c := by
  refine callV_s (f := n_clock_due_Swap) (by kernel_rfl) h ?_
  rw [ho, show (#[Value.slice s.a s.n s.c] ++ #[Value.int IntKind.i64 i, Value.int IntKind.i64 j]).toList = [.slice s.a s.n s.c, .int .i64 i, .int .i64 j] by simp]
  show clock_due_Swap s i j w (fun r w => c (packV (valL [] r)) w)
  exact swap_s (d := d) h hi hj hc
theorem mLen {c : Value → World → Prop} (ho : ∀ args w c, orc (.func n_clock_due_Len) args w c = d_clock_due_Len args.toList w c) (h : St w0 w (blk g (dcs now gm s) :: slc 2 s (fl d) :: R))
    (hc : c (.int .i64 (d.length : Int)) w) : callM orc Go.Proofs.Try.prog (pv g) "Len" #[] w c := by
  refine callV_s (f := n_clock_due_Len) (by kernel_rfl) h ?_
  rw [ho]
  show c (.int .i64 (s.n : Int)) w
  rw [St.dlen (s := s) (d := d) h]; exact hc
end
end Go.Proofs.Ytheallacpidcmaa
