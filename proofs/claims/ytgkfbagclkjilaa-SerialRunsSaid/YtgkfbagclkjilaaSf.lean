/-
  Layer 6: a fork; a step.
-/
import Derived.Test.YtgkfbagclkjilaaSe
set_option linter.unusedSimpArgs false
set_option linter.unusedVariables false
set_option maxRecDepth 100000
namespace Go.Proofs.Ytgkfbagclkjilaa
open Go Go.Ev Go.Proofs
open Go.Proofs.Ytgkfbagclkjilaa.Fr (fTo fOn fPlain fForked fJoined fClosed fChild fRoot fR isB fTo_len fOn_len fPlain_len fForked_len fJoined_len fClosed_len)
open Go.Proofs.Ytgkfbagclkjilaa.Ck (opI Walk Accs needsOf isGoes heldL depths stepD handlesOk subBits scopesOk forks)

theorem unT_0 {c : KT [] → Prop} (h : c ()) : unT [] (.tuple #[]) c := h
theorem funcs_of {w : World} {ps : Sl} {P : List FnR} (hF : Funcs5 w ps P) : Fr.Funcs w ps (P.map fun g => (g.needs, g.sl)) := by
  have := hF.rws
  unfold Fr.Funcs
  rw [List.map_map]
  exact this
theorem does_s {w0 w : World} {L : List HP} {g : Nat} {vs : List Value} {v : Value} {j : Nat} {f : HP → List HP} {c : Value → Prop} (h : St w0 w L) [a : At L (blk g) vs f] (hj : j < 9) (hv : vs[j]? = some v) (hc : c v) : ixS ⟨some ⟨g, 0, none⟩, 9, 9⟩ (j : Int) 1 fun a => ldV w a c := by
  unfold ixS
  refine ⟨⟨by omega, by simp only; omega⟩, ?_⟩
  have e : (⟨g, 0, none⟩ : Addr).add (((j : Int)).toNat * 1) = ⟨g, j, none⟩ := by rw [add_mk, Int.toNat_natCast]; simp
  show ldV w _ c
  rw [e]
  exact ldV_h (g := g) (o := j) h hv hc
section
variable {w0 w : World} {R : List HP} {gc gm gt : Nat} {ps : Sl} {P : List FnR} {F : Int} {t : Tk} {m : Mc} {s : Sl} {pi pl : Option Addr} {B : List (Bool × Int)} {i : List Int} {q : Value → World → Prop}
theorem fork_s {run : RunT} {k : Unit → World → Prop} {Ok : Mc → Prop} {cf : List Int} {row : Nat} {st : Int} (hF : Funcs5 w0 ps P) (h : St w0 w (SSL gc gm gt ps F t pi pl B.length { m with steps := st } s false R)) (hB : ∀ w, St w0 w R → Chn w pi B) (hf : t.f.length = 19) (h5 : i.length = 5)
    (hi8 : isB i 8 = true) (hN : 0 ≤ i.getD 4 0) (hlt : (i.getD 4 0).toNat < P.length) (hcf : cf = fChild t.f (i.getD 4 0) (needsOf P (i.getD 4 0)))
    (hrun : ∀ w' R' kk, St w0 w' (MML gc gm ps F { m with steps := st } s R') → (∀ w, St w0 w R' → Chn w pl (t.sc ++ B)) → (∀ w, St w0 w R' → St w0 w R) →
      (∀ w'' m2 s2, Ok m2 → St w0 w'' (MML gc gm ps F m2 s2 R') → kk ((row : Nat) : Int) w'') → run (agI cf) t.row pl ⟨gc, 0, none⟩ w' q kk)
    (hk : ∀ m2 s2 w3, Ok m2 → St w0 w3 (SSL gc gm gt ps F { t with f := fForked t.f i row } pi pl B.length m2 s2 false R) → k () w3) : forkOf run (some ⟨gm, 0, none⟩) (some ⟨gt, 0, none⟩) (agI i) w q k := by
  unfold forkOf serial_machine_fork_b
  refine newC_h h fun g1 w2 h => ?_
  have h : St w0 w2 (blk g1 (ints i) :: SSL gc gm gt ps F t pi pl B.length { m with steps := st } s false R) := h
  have hcl : cf.length = 19 := by rw [hcf]; exact (child_get hf).1
  refine joinP_i (fun z w' => ∃ g, z = ⟨g, 0, none⟩ ∧ St w0 w' (blk g (ints cf) :: blk g1 (ints i) :: SSL gc gm gt ps F t pi pl B.length { m with steps := st } s false R)) (fun J hJ => ?_) ?_
  · refine drew_h h fun w4 h => ?_
    refine nn_i ?_
    refine ldA_h (n := 19) (g := gt) (o := 0 + 0) h (by rw [tsk_len hf]; decide) ?_
    rw [tsk_f hf]
    refine nn_i ?_
    refine ldA_h (n := 1) (g := gm) (o := 0 + 0) h (by simp) ?_
    refine ldW_h (g := g1) h (by simp [ints, h5]) ?_
    obtain ⟨g', hg'⟩ : ∃ g', P[(i.getD 4 0).toNat]? = some g' := ⟨_, List.getElem?_eq_getElem hlt⟩
    have hcs : ∀ {w' : World} {kk : Array Value × Int → World → Prop}, Ext w0 w' → (∀ w'', Ext w' w'' → kk (agI cf, 0) w'') → frame_Frame_Child (agI t.f) #[.slice ps.a ps.n ps.c] (agI i) w' kk := by
      intro w' kk he hkk
      refine Fr.child_s hf h5 (funcs_of (hF.ext he)) (fun q => by rw [hi8] at q; cases q) (fun _ q => by rw [List.length_map] at q; omega) fun _ x hx w'' he' => ?_
      rw [List.getElem?_map, hg'] at hx
      cases hx
      have := hkk w'' he'
      rw [hcf, Ck.needs_get hg'] at this
      exact this
    refine ⟨?_, ?_⟩
    · refine hcs h.ext fun w11 he => ?_
      have h2 := ext_of h he
      refine newC_h h2 fun g12 w13 h2 => ?_
      refine samec_h (g := g1) (o := 0) h h2 (samec_h (g := gm) (o := 0 + 0) h h2 (samec_h (g := gt) (o := 0 + 0) h h2 ?_))
      refine stW_h (g := g12) h2 rfl (by simp [agI, ints, hcl]) (Ck.one_agI _) fun w14 h2 => ?_
      exact hJ _ _ ⟨g12, rfl, h2⟩
    · refine newC_h h fun g15 w16 h2 => ?_
      refine samec_h (g := g1) (o := 0) h h2 (samec_h (g := gm) (o := 0 + 0) h h2 (samec_h (g := gt) (o := 0 + 0) h h2 ?_))
      refine hcs h2.ext fun w18 he => ?_
      have h2 := ext_of h2 he
      refine stW_h (g := g15) h2 rfl (by simp [agI, ints, hcl]) (Ck.one_agI _) fun w19 h2 => ?_
      exact hJ _ _ ⟨g15, rfl, h2⟩
  rintro _ w21 ⟨g, rfl, h⟩
  refine drew_h h fun w22 h => ?_
  refine nn_i ?_
  refine ldA_h (n := 19) (g := gt) (o := 0 + 0) h (by rw [tsk_len hf]; decide) ?_
  rw [tsk_f hf]
  refine ldW_h (g := g1) h (by simp [ints, h5]) ?_
  refine nn_i ?_
  refine ldV_h (g := gm) (o := 0 + 4) h rfl ?_
  refine ldW_h (g := g) h (by simp [ints, hcl]) ?_
  refine nn_i ?_
  refine ldI_h (g := gt) (o := 0 + 19) h (tsk_row hf) ?_
  refine nn_i ?_
  refine ldP_h (g := gt) (o := 0 + 21) h (tsk_pl hf) ?_
  refine callP_i (d := decRun run) (fun _ _ _ => rfl) ?_
  have hM : St w0 w22 (MML gc gm ps F { m with steps := st } s (blk g1 (ints i) :: blk gt (tskV t pi pl false) :: seg B.length pi pl t.sc :: R)) := (h.rm 0 rfl).perm (by simp only [List.eraseIdx]; repeat' (first | exact List.Perm.refl _ | refine perm_f 0 rfl ?_ | refine perm_f 1 rfl ?_ | refine perm_f 2 rfl ?_ | refine perm_f 3 rfl ?_ | refine perm_f 4 rfl ?_ | refine perm_f 5 rfl ?_ | refine perm_f 6 rfl ?_ | refine perm_f 7 rfl ?_))
  refine hrun w22 (blk g1 (ints i) :: blk gt (tskV t pi pl false) :: seg B.length pi pl t.sc :: R) _ hM (fun w hw => seg_chn (hB w) ((hw.rm 0 rfl).rm 0 rfl)) (fun w hw => ((hw.rm 0 rfl).rm 0 rfl).rm 0 rfl) fun w34 m2 s2 hOk h2 => ?_
  refine toI_i ?_
  refine samec_h (g := g1) (o := 0) h h2 (samec_h (g := gt) (o := 0 + 0) h h2 ?_)
  refine Fr.forked_s hf h5 fun w37 he => ?_
  have h2 := ext_of h2 he
  refine nn_i ?_
  refine stA_h (n := 19) (g := gt) (o := 0 + 0) (vs := agI (fForked t.f i row)) h2 (by simp [agI, ints, fForked_len, hf]) (by rw [tsk_len hf]; decide) (Ck.one_agI _) fun w39 h2 => ?_
  rw [tsk_setf hf (by rw [fForked_len, hf])] at h2
  exact hk m2 s2 _ hOk ((h2.rm 3 rfl).perm (by simp only [List.eraseIdx]; repeat' (first | exact List.Perm.refl _ | refine perm_f 0 rfl ?_ | refine perm_f 1 rfl ?_ | refine perm_f 2 rfl ?_ | refine perm_f 3 rfl ?_ | refine perm_f 4 rfl ?_ | refine perm_f 5 rfl ?_ | refine perm_f 6 rfl ?_ | refine perm_f 7 rfl ?_)))
end
end Go.Proofs.Ytgkfbagclkjilaa
