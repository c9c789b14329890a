/-
  Layer 4: what is held: a pass of the loop's range.
-/
import Derived.Test.YtinieegaaimilaaCf
set_option linter.unusedSimpArgs false
set_option linter.unusedVariables false
set_option maxRecDepth 100000
namespace Go.Proofs.Ytinieegaaimilaa
open Go Go.Ev Go.Proofs

/-- a loop, with what is not seen in its state -/
theorem loopP_ghost {G S : Type} {f : (S → World → Prop) → S → World → Prop} (I : G → S → World → Prop) (μ : G → Nat) {g : G} {s : S} {w : World} (h0 : I g s w)
    (h : ∀ g s w, I g s w → ∀ C : S → World → Prop, (∀ g' s' w', I g' s' w' → μ g' < μ g → C s' w') → f C s w) : loopP f s w := by
  have key : ∀ n g s w, μ g ≤ n → I g s w → iterP f (n + 1) s w := by
    intro n
    induction n with
    | zero => intro g s w hn hI; exact h g s w hI _ fun g' s' w' _ hlt => by omega
    | succ n ih => intro g s w hn hI; exact h g s w hI _ fun g' s' w' hI' hlt => ih g' s' w' (by omega) hI'
  exact ⟨_, key _ g s w (Nat.le_refl _) h0⟩

theorem meets_snoc (hv : Int) (F : Fl) (ks : List Int) (z : Int) : F.meets hv (ks ++ [z]) = (F.meets hv ks).meet z hv := by simp [Fl.meets]

theorem orcI_one {n : Nat} {d : (Nat → Dec) → Dec} {Y : Nat → Dec} {args : List Value} {w : World} {c : Value → World → Prop} (h : d Y args w c) : orcI [(n, d)] n Y args w c := by
  unfold orcI
  rw [Nat.beq_refl]
  exact h
theorem it_call {Y : Nat → Dec} {v : Value} {a b : Addr} {w : World} {c : Value → World → Prop} (h : check_behind_1 Y v a b w fun r w => c (.tuple #[]) w) : i_check_behind_1 Y [v, .pointer (some a), .pointer (some b)] w c := h

theorem pass_s {w w' : World} {g gp gh ga : Nat} {s : Sl} {F : Fl} {l : List (List Int)} {x : List Int} {i hv : Int} {nv : Value} {ds : List Nat} {C : Unit × List Nat → World → Prop}
    (hS : St w w' [blk gh [.int .i64 hv], flow g (s, F), blk gp [.pointer (some ⟨g, 0, none⟩)], mks ds, blk ga [nv, .slice s.a s.n s.c]]) (hr : Code5 w s l) (hF : F.OK l.length) (hmu : F.mu ≤ 1000000) (hn : l.length ≤ 1000) (hi0 : 0 ≤ i) (hx : l[i.toNat]? = some x)
    (hc : ∀ D w'', St w w'' [mks (D :: ds), flow g (s, F.meets hv (behind l.length i x)), blk gp [.pointer (some ⟨g, 0, none⟩)], blk ga [nv, .slice s.a s.n s.c]] → C ((), D :: ds) w'') :
    check_behind s i w' fun v149 w150 => rangeF (orcI [(n_check_behind_1, i_check_behind_1)]) [.i .i64] v149 w150 (fun (x151 : Int) w152 C153 => ldP w152 ⟨gp, 0, none⟩ fun p156 => ldI .i64 w152 ⟨gh, 0, none⟩ fun i157 => check_flow_meet p156 x151 i157 w152 fun _u w158 => C153 w158) fun D154 w155 => C ((), D154 :: ds) w155 := by
  have hil : i.toNat < l.length := (List.getElem?_eq_some_iff.1 hx).1
  have hsn := hr.len
  unfold check_behind
  refine newC_h hS fun gc w1 hS => newC_h hS fun gi w2 hS => ?_
  refine rangeF_h hS fun lr D R w3 hS => ?_
  refine orcI_one (it_call (v := .func (.yield lr) #[] #[]) (a := ⟨gc, 0, none⟩) (b := ⟨gi, 0, none⟩) ?_)
  refine behind_s (x := x) (l := l) (code := s) (Lk := fun ks => [obj lr (R .ready), obj D (.deferred (some [])), blk gi [.int .i64 i], blk gc [.slice s.a s.n s.c], blk gh [.int .i64 hv], flow g (s, F.meets hv ks), blk gp [.pointer (some ⟨g, 0, none⟩)], mks ds, blk ga [nv, .slice s.a s.n s.c]])
    hS hi0 hx (fun {w ks} h => ⟨?_, ?_, hr.ext h.ext⟩) (fun {B ks z w c} h hp hcc => ?_) fun w4 h => ?_
  · rw [(h.blk (g := gc) (cs := [.slice s.a s.n s.c])).cell]; rfl
  · rw [(h.blk (g := gi) (cs := [.int .i64 i])).cell]; rfl
  · rw [hsn] at hp
    have hin := behind_in (x := x) (n := l.length) (i := i) (by omega) hi0 (by omega)
    have hpre : ∀ y ∈ ks ++ [z], 0 ≤ y ∧ y < l.length := fun y hy => hin y (hp.subset hy)
    have hz := hpre z (by simp)
    have hks := meets_ok (hv := hv) (zs := ks) hF fun y hy => hpre y (by simp [hy])
    refine rY_h (l := lr) (R := R) (kk := [.i .i64]) z (fun c hc => hc) h fun w5 h => ?_
    refine ldP_h (g := gp) (o := 0) h rfl (ldI_h (g := gh) (o := 0) h rfl ?_)
    have hlen : (F.meets hv ks).todo.length ≤ (F.meets hv ks).mu := by unfold Fl.mu; omega
    have hlen2 := hks.2
    refine meet_s (g := g) (code := s) (F := F.meets hv ks) h hz.1 (by rw [hks.1.held]; exact hz.2) (by rw [hks.1.held, hks.1.come]) (by omega) fun w6 h => ?_
    rw [← meets_snoc] at h
    exact rec_h (g := lr) (o := R .busy) (o' := R .ready) (c := c (.bool true)) h fun w7 h => hcc w7 h
  · have e : behind s.n i x = behind l.length i x := by rw [hsn]
    simp only [e] at h
    refine rec_h (g := lr) (o := R .ready) (o' := R .exhausted) (c := C ((), D :: ds)) h fun w5 h => hc D w5 ?_
    have h := h.perm (M := [obj D (.deferred (some [])), mks ds, flow g (s, F.meets hv (behind l.length i x)), blk gp [.pointer (some ⟨g, 0, none⟩)], blk ga [nv, .slice s.a s.n s.c], obj lr (R .exhausted), blk gi [.int .i64 i], blk gc [.slice s.a s.n s.c], blk gh [.int .i64 hv]]) (by repeat' (first | exact List.Perm.refl _ | refine perm_f 0 rfl ?_ | refine perm_f 1 rfl ?_ | refine perm_f 2 rfl ?_ | refine perm_f 3 rfl ?_ | refine perm_f 4 rfl ?_ | refine perm_f 5 rfl ?_ | refine perm_f 6 rfl ?_ | refine perm_f 7 rfl ?_))
    have h := mks_cons h
    exact ((((h.rm 7 rfl).rm 6 rfl).rm 5 rfl).rm 4 rfl)
end Go.Proofs.Ytinieegaaimilaa
