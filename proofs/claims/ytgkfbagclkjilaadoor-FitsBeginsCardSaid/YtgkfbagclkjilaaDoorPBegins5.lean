/-
  Layer 8: closes, forks, joins, in memory.
  Layer 8: a step.
  Layer 8: how a row that was followed stands; all its steps.
  Layer 8: a row, followed.
  Layer 8, in plain terms: what rows begin with; all rows, one by one.
-/
import Derived.Test.YtgkfbagclkjilaaDoorPBegins4
set_option linter.unusedSimpArgs false
set_option linter.unusedVariables false
set_option maxRecDepth 100000
namespace Go.Proofs.YtgkfbagclkjilaaDoor.Ft
open Go Go.Ev Go.Proofs Go.Proofs.YtgkfbagclkjilaaDoor
open Go.Proofs.YtgkfbagclkjilaaDoor.Fr (fTo fOn fPlain fForked fJoined fClosed fChild fRoot fR isB fTo_len fOn_len fPlain_len fForked_len fJoined_len fClosed_len)
open Go.Proofs.YtgkfbagclkjilaaDoor.Ck (opI Walk Accs needsOf isGoes heldL depths stepD handlesOk subBits scopesOk forks)
theorem byte_49 {c : UInt8} : ((c.toNat : Int) == 49) = (c == 49) := by
  rw [Bool.eq_iff_iff]; simp only [beq_iff_eq]
  constructor
  · intro h; apply UInt8.toNat_inj.1; have : c.toNat = 49 := by omega
    rw [this]; rfl
  · rintro rfl; rfl
theorem bytes_ext {a b : ByteArray} (h : a.data.toList = b.data.toList) : a = b := by
  cases a; cases b; congr 1; exact Array.toList_inj.1 h
theorem mk_tail {c : UInt8} {cs : List UInt8} : (ByteArray.mk (c :: cs).toArray).extract 1 (ByteArray.mk (c :: cs).toArray).size = ByteArray.mk cs.toArray := by
  apply bytes_ext
  rw [ext_list, sz_list]
  simp
theorem funcs_of {w : World} {ps : Sl} {P : List FnR} (hF : Funcs5 w ps P) : Fr.Funcs w ps (P.map fun g => (g.needs, g.sl)) := by
  have := hF.rws
  unfold Fr.Funcs
  rw [List.map_map]
  exact this
def Z21 : List Value := [.int .i64 (0 : Int), .int .i64 (0 : Int), .int .i64 (0 : Int), .int .i64 (0 : Int), .int .i64 (0 : Int), .int .i64 (0 : Int), .int .i64 (0 : Int), .int .i64 (0 : Int), .int .i64 (0 : Int), .int .i64 (0 : Int), .int .i64 (0 : Int), .int .i64 (0 : Int), .int .i64 (0 : Int), .int .i64 (0 : Int), .int .i64 (0 : Int), .int .i64 (0 : Int), .int .i64 (0 : Int), .int .i64 (0 : Int), .int .i64 (0 : Int), .int .i64 (0 : Int), .int .i64 (0 : Int)]
theorem spl_beg0 {cf : List Int} {x y : Int} {c : Array Value → Prop} (hc : cf.length = 19) (h : c (agI (cf ++ [x, y]))) : spl Z21.toArray 0 19 (agI cf) fun cs41 => spl cs41 19 2 #[.int .i64 x, .int .i64 y] c := by
  have hl : (ints cf).length = 19 := by simp [ints, hc]
  have e1 : Z21.take 0 ++ (ints cf ++ Z21.drop (0 + 19)) = ints cf ++ [.int .i64 0, .int .i64 0] := rfl
  have e : ints (cf ++ [x, y]) = ints cf ++ [.int .i64 x, .int .i64 y] := by simp [ints]
  have e2 : (ints cf ++ [Value.int .i64 0, .int .i64 0]).take 19 ++ ([Value.int .i64 x, .int .i64 y] ++ (ints cf ++ [Value.int .i64 0, .int .i64 0]).drop (19 + 2)) = ints (cf ++ [x, y]) := by
    rw [e, List.take_append_of_le_length (by omega), List.take_of_length_le (by omega), List.drop_of_length_le (by simp [hl])]
    simp
  have h2 : spl (ints cf ++ [Value.int .i64 0, .int .i64 0]).toArray 19 2 #[.int .i64 x, .int .i64 y] c := spl_V (cs := [Value.int .i64 x, .int .i64 y]) _ rfl (by simp [hl]) e2 h
  exact spl_V (acc := Z21) (cs := ints cf) _ hl (by decide) e1 h2
theorem spl_beg {cf : List Int} {x y : Int} {c : Array Value → Prop} (hc : cf.length = 19) (h : c (agI (cf ++ [x, y]))) : spl #[(.int .i64 (0 : Int)), (.int .i64 (0 : Int)), (.int .i64 (0 : Int)), (.int .i64 (0 : Int)), (.int .i64 (0 : Int)), (.int .i64 (0 : Int)), (.int .i64 (0 : Int)), (.int .i64 (0 : Int)), (.int .i64 (0 : Int)), (.int .i64 (0 : Int)), (.int .i64 (0 : Int)), (.int .i64 (0 : Int)), (.int .i64 (0 : Int)), (.int .i64 (0 : Int)), (.int .i64 (0 : Int)), (.int .i64 (0 : Int)), (.int .i64 (0 : Int)), (.int .i64 (0 : Int)), (.int .i64 (0 : Int)), (.int .i64 (0 : Int)), (.int .i64 (0 : Int))] 0 19 (agI cf) fun cs41 => spl cs41 19 2 #[.int .i64 x, .int .i64 y] c := spl_beg0 hc h
section
variable {w0 w : World} {L R : List HP} {gr gb gB gS : Nat} {ps ls sk : Sl} {q : Bool} {row : Int} {r : Rn} {b : Bk} {i : List Int} {ia : Array Value} {k : Bool → World → Prop} {P : List FnR} {l : List Rb}
theorem close_s (h : St w0 w (FP gr gb gB gS ps ls q row sk r b R)) (hf : r.f.length = 19) (h5 : i.length = 5)
    (h0 : ∀ w', (r.cl = [] ∨ ∃ c cs, r.cl = c :: cs ∧ (((b.s r.last).2 && !(c == 49)) || (q && !((c == 49) == (b.s r.last).2))) = true) → St w0 w' (FP gr gb gB gS ps ls q row sk r b R) → k false w')
    (h1 : ∀ w' c cs, r.cl = c :: cs → (((b.s r.last).2 && !(c == 49)) || (q && !((c == 49) == (b.s r.last).2))) = false → St w0 w' (FP gr gb gB gS ps ls q row sk { r with f := fClosed r.f i (c == 49), cl := cs, last := (b.s r.last).1 } b R) → k true w') : fits_run_close (some ⟨gr, 0, none⟩) (agI i) w k := by
  unfold fits_run_close fits_run_close_b
  refine newC_h h fun g1 w2 h => ?_
  have h : St w0 w2 (blk g1 (ints i) :: FP gr gb gB gS ps ls q row sk r b R) := h
  refine nn_i ?_
  refine ldStr_h (g := gr) (o := 0 + 22) h (run_cl hf) ?_
  rw [strEq_nil]
  cases hcl : r.cl with
  | nil =>
    refine iteB_t rfl ?_
    exact h0 _ (.inl hcl) h.drop
  | cons c cs =>
    refine iteB_f rfl ?_
    have hgo := h1
    refine joinP_i (fun z w' => ∃ g, z = (⟨g, 0, none⟩, c == 49) ∧ St w0 w' (blk g [.int .i64 (b.s r.last).1.1, .int .i64 (b.s r.last).1.2, .bool (b.s r.last).2] :: blk g1 (ints i) :: FP gr gb gB gS ps ls q row sk r b R)) (fun J hJ => ?_) ?_
    · refine drew_h h fun w6 h => ?_
      refine nn_i ?_
      refine ldP_h (g := gr) (o := 0 + 0) h rfl ?_
      refine nn_i ?_
      refine ldM_h (g := gb) (o := 0 + 4) h rfl ?_
      refine nn_i ?_
      refine ldA_h (n := 2) (g := gr) (o := 0 + 23) h (by rw [run_len hf]; decide) ?_
      rw [run_last hf]
      refine nn_i ?_
      refine ldStr_h (g := gr) (o := 0 + 22) h (run_cl hf) ?_
      rw [hcl]
      refine ixStr_at (n := 0) (b := c) (by simp) ?_
      rw [byte_49]
      refine ⟨?_, ?_⟩
      · refine lookS_h h ?_
        refine toAS ?_
        refine samec_self ?_
        refine newC_h h fun g14 w15 h2 => ?_
        refine samec_h (g := gr) (o := 0 + 22) h h2 (samec_h (g := gr) (o := 0 + 23) h h2 (samec_h (g := gb) (o := 0 + 4) h h2 (samec_h (g := gr) (o := 0 + 0) h h2 ?_)))
        refine stW_h (n := 3) (g := g14) h2 rfl rfl one_s fun w16 h2 => ?_
        refine samec_h (g := gr) (o := 0 + 22) h h2 ?_
        exact hJ _ _ ⟨g14, rfl, h2⟩
      · refine newC_h h fun g14 w15 h2 => ?_
        refine samec_h (g := gr) (o := 0 + 22) h h2 (samec_h (g := gr) (o := 0 + 23) h h2 (samec_h (g := gb) (o := 0 + 4) h h2 (samec_h (g := gr) (o := 0 + 0) h h2 ?_)))
        refine lookS_h h2 ?_
        refine toAS ?_
        refine samec_h (g := gr) (o := 0 + 22) h h2 ?_
        refine stW_h (n := 3) (g := g14) h2 rfl rfl one_s fun w16 h2 => ?_
        refine samec_h (g := gr) (o := 0 + 22) h h2 ?_
        exact hJ _ _ ⟨g14, rfl, h2⟩
    rintro _ w29 ⟨g, rfl, h⟩
    refine joinP_i (fun z w' => w' = w29 ∧ z = (((b.s r.last).2 && !(c == 49)) || (q && !((c == 49) == (b.s r.last).2)))) (fun J hJ => ?_) ?_
    · refine ldB_h (g := g) (o := 0 + 2) h rfl ?_
      refine iteB_i (fun hb => ?_) fun hb => ?_
      · exact hJ _ _ ⟨rfl, by rw [show ((b.s r.last).2 && !(c == 49)) = true from hb]; rfl⟩
      · rw [show ((b.s r.last).2 && !(c == 49)) = false from hb, Bool.false_or] at hJ
        refine nn_i ?_
        refine ldP_h (g := gr) (o := 0 + 0) h rfl ?_
        refine nn_i ?_
        refine ldB_h (g := gb) (o := 0 + 2) h rfl ?_
        refine iteB_i (fun hq => ?_) fun hq => ?_
        · subst hq
          refine ldB_h (g := g) (o := 0 + 2) h rfl ?_
          exact hJ _ _ ⟨rfl, rfl⟩
        · subst hq
          exact hJ _ _ ⟨rfl, rfl⟩
    rintro _ w38 ⟨rfl, rfl⟩
    refine iteB_i (fun hb => ?_) fun hb => ?_
    · exact h0 _ (.inr ⟨c, cs, hcl, hb⟩) h.drop.drop
    have hres := fun w' => h1 w' c cs hcl hb
    refine drew_h h fun w39 h => ?_
    refine nn_i ?_
    refine ldA_h (n := 19) (g := gr) (o := 0 + 1) h (by rw [run_len hf]; decide) ?_
    rw [run_f hf]
    refine ldW_h (g := g1) h (by simp [ints, h5]) ?_
    refine nn_i ?_
    refine ldStr_h (g := gr) (o := 0 + 22) h (run_cl hf) ?_
    rw [hcl]
    have hsz : (ByteArray.mk (c :: cs).toArray).size = cs.length + 1 := by rw [sz_list]; simp
    refine ⟨⟨by omega, by omega⟩, ⟨by omega, by omega⟩, ?_⟩
    simp only [Int.toNat_one, Int.toNat_natCast]
    rw [mk_tail]
    refine ldA_h (n := 2) (g := g) (o := 0 + 0) h (by simp) ?_
    refine Fr.closed_s hf h5 fun w48 he => ?_
    have h2 := ext_of h he
    refine samec_h (g := g) (o := 0 + 0) h h2 (samec_h (g := gr) (o := 0 + 22) h h2 ?_)
    refine nn_i ?_
    refine stA_h (n := 19) (g := gr) (o := 0 + 1) (vs := agI (fClosed r.f i (c == 49))) h2 (by simp [agI, ints, fClosed_len, hf]) (by rw [run_len hf]; decide) (Ck.one_agI _) fun w50 h2 => ?_
    rw [run_setf hf (by rw [fClosed_len, hf])] at h2
    have hf2 : ({ r with f := fClosed r.f i (c == 49) } : Rn).f.length = 19 := by show (fClosed r.f i (c == 49)).length = 19; rw [fClosed_len, hf]
    refine samec_h (g := g) (o := 0 + 0) h h2 ?_
    refine nn_i ?_
    refine stC_h (g := gr) (o := 0 + 22) h2 rfl (by rw [run_len hf2]; decide) fun w52 h2 => ?_
    rw [run_setcl hf2] at h2
    refine samec_h (g := g) (o := 0 + 0) h h2 ?_
    refine nn_i ?_
    refine stA_h (n := 2) (g := gr) (o := 0 + 23) (vs := #[.int .i64 (b.s r.last).1.1, .int .i64 (b.s r.last).1.2]) h2 rfl (by rw [run_len (r := { r with f := fClosed r.f i (c == 49), cl := cs }) hf2]; decide) one_p fun w54 h2 => ?_
    rw [run_setlast (r := { r with f := fClosed r.f i (c == 49), cl := cs }) hf2] at h2
    exact hres w54 h2.drop.drop
theorem fork_s (h : St w0 w (FP gr gb gB gS ps ls q row sk r b R)) (hF : Funcs5 w0 ps P) (hf : r.f.length = 19) (h5 : i.length = 5) (hi8 : isB i 8 = true) (hN : 0 ≤ i.getD 4 0) (hlt : (i.getD 4 0).toNat < P.length)
    (h0 : ∀ w', r.kids = [] → St w0 w' (FP gr gb gB gS ps ls q row sk r b R) → k false w')
    (h1 : ∀ w' sk' c cs, r.kids = c :: cs → St w0 w' (FP gr gb gB gS ps ls q row sk' { r with f := fForked r.f i c, kids := cs } { b with beg := upd b.beg c (fChild r.f (i.getD 4 0) (needsOf P (i.getD 4 0)), r.last) } R) → k true w') : fits_run_fork (some ⟨gr, 0, none⟩) (agI i) w k := by
  unfold fits_run_fork fits_run_fork_b
  refine newC_h h fun g1 w2 h => ?_
  have h : St w0 w2 (blk g1 (ints i) :: FP gr gb gB gS ps ls q row sk r b R) := h
  obtain ⟨g', hg'⟩ : ∃ g', P[(i.getD 4 0).toNat]? = some g' := ⟨_, List.getElem?_eq_getElem hlt⟩
  obtain ⟨c1, c2, c3, c4, c5⟩ := child_get (f := r.f) (n := i.getD 4 0) (needs := g'.needs) hf
  rw [← Ck.needs_get hg'] at c1
  generalize hcf : fChild r.f (i.getD 4 0) (needsOf P (i.getD 4 0)) = cf at c1 h1
  refine joinP_i (fun z w' => ∃ g, z = (⟨g, 0, none⟩, 0) ∧ St w0 w' (blk g (ints cf) :: blk g1 (ints i) :: FP gr gb gB gS ps ls q row sk r b R)) (fun J hJ => ?_) ?_
  · refine drew_h h fun w4 h => ?_
    refine nn_i ?_
    refine ldA_h (n := 19) (g := gr) (o := 0 + 1) h (by rw [run_len hf]; decide) ?_
    rw [run_f hf]
    refine nn_i ?_
    refine ldP_h (g := gr) (o := 0 + 0) h rfl ?_
    refine nn_i ?_
    refine ldA_h (n := 1) (g := gb) (o := 0 + 0) h (by simp [bookV]) ?_
    refine ldW_h (g := g1) h (by simp [ints, h5]) ?_
    have hcs : ∀ {w' : World} {kk : Array Value × Int → World → Prop}, Ext w0 w' → (∀ w'', Ext w' w'' → kk (agI cf, 0) w'') → frame_Frame_Child (agI r.f) #[.slice ps.a ps.n ps.c] (agI i) w' kk := by
      intro w' kk he hkk
      refine Fr.child_s hf h5 (funcs_of (hF.ext he)) (fun q => by rw [hi8] at q; cases q) (fun _ q => by rw [List.length_map] at q; omega) fun _ x hx w'' he' => ?_
      rw [List.getElem?_map, hg'] at hx
      cases hx
      have := hkk w'' he'
      rw [← hcf, Ck.needs_get hg'] at this
      exact this
    refine ⟨?_, ?_⟩
    · refine hcs h.ext fun w13 he => ?_
      have h2 := ext_of h he
      refine newC_h h2 fun g14 w15 h2 => ?_
      refine samec_h (g := g1) (o := 0) h h2 (samec_h (g := gb) (o := 0 + 0) h h2 (samec_h (g := gr) (o := 0 + 0) h h2 (samec_h (g := gr) (o := 0 + 1) h h2 ?_)))
      refine stW_h (g := g14) h2 rfl (by simp [agI, ints, c1]) (Ck.one_agI _) fun w16 h2 => ?_
      exact hJ _ _ ⟨g14, rfl, h2⟩
    · refine newC_h h fun g14 w15 h2 => ?_
      refine samec_h (g := g1) (o := 0) h h2 (samec_h (g := gb) (o := 0 + 0) h h2 (samec_h (g := gr) (o := 0 + 0) h h2 (samec_h (g := gr) (o := 0 + 1) h h2 ?_)))
      refine hcs h2.ext fun w20 he => ?_
      have h2 := ext_of h2 he
      refine stW_h (g := g14) h2 rfl (by simp [agI, ints, c1]) (Ck.one_agI _) fun w21 h2 => ?_
      exact hJ _ _ ⟨g14, rfl, h2⟩
  rintro _ w23 ⟨g, rfl, h⟩
  have hsl := h.slen (sz := 1) (s := sk)
  have hsn : sk.n = r.kids.length := by simp [ints] at hsl; omega
  refine joinP_i (fun z w' => w' = w23 ∧ z = (((r.kids.length : Nat) : Int) == 0)) (fun J hJ => ?_) ?_
  · refine iteB_f rfl ?_
    refine nn_i ?_
    refine ldS_h (g := gr) (o := 0 + 21) h (run_kids hf) ?_
    rw [hsn]
    exact hJ _ _ ⟨rfl, rfl⟩
  rintro _ w28 ⟨rfl, rfl⟩
  cases hks : r.kids with
  | nil => exact iteB_t rfl (h0 _ hks h.drop.drop)
  | cons c cs =>
    refine iteB_f (by rw [List.length_cons]; rw [beq_eq_false_iff_ne]; omega) ?_
    have hres := fun w' sk' => h1 w' sk' c cs hks
    have hkl : r.kids.length = cs.length + 1 := by rw [hks]; rfl
    have hg0 : r.kids.getD (0 : Int).toNat 0 = c := by rw [hks]; rfl
    refine drew_h h fun w29 h => ?_
    refine nn_i ?_
    refine ldP_h (g := gr) (o := 0 + 0) h rfl ?_
    refine nn_i ?_
    refine ldM_h (g := gb) (o := 0 + 3) h rfl ?_
    refine nn_i ?_
    refine ldS_h (g := gr) (o := 0 + 21) h (run_kids hf) ?_
    have hc0 : (ints r.kids)[(0 : Int).toNat * 1 + 0]? = some (.int .i64 c) := by rw [hks]; rfl
    refine ixS_h (sz := 1) (s := sk) (vs := ints r.kids) h (by omega) (by omega) (by omega) fun ga o _ hrd _ => ?_
    refine ldI_i (hrd h 0 _ (by omega) hc0) ?_
    refine ldW_h (n := 19) (g := g) h (by simp [ints, c1]) ?_
    refine nn_i ?_
    refine ldA_h (n := 2) (g := gr) (o := 0 + 23) h (by rw [run_len hf]; decide) ?_
    rw [run_last hf]
    refine spl_beg c1 ?_
    refine samec_self (samec_self (samec_self (samec_self ?_)))
    refine gmPut_h (ek := ekI) (ev := evB) (k := c) (y := (cf, r.last)) mapB h fun w43 h => ?_
    have h : St w0 w43 (blk g (ints cf) :: blk g1 (ints i) :: FP gr gb gB gS ps ls q row sk r { b with beg := upd b.beg c (cf, r.last) } R) := h
    refine drew_h h fun w44 h => ?_
    refine nn_i ?_
    refine ldA_h (n := 19) (g := gr) (o := 0 + 1) h (by rw [run_len hf]; decide) ?_
    rw [run_f hf]
    refine ldW_h (g := g1) h (by simp [ints, h5]) ?_
    refine nn_i ?_
    refine ldS_h (g := gr) (o := 0 + 21) h (run_kids hf) ?_
    refine ixI_h (s := sk) (xs := r.kids) h (by omega) (by omega) ?_
    rw [hg0]
    refine Fr.forked_s hf h5 fun w53 he => ?_
    have h := ext_of h he
    refine nn_i ?_
    refine stA_h (n := 19) (g := gr) (o := 0 + 1) (vs := agI (fForked r.f i c)) h (by simp [agI, ints, fForked_len, hf]) (by rw [run_len hf]; decide) (Ck.one_agI _) fun w55 h => ?_
    rw [run_setf hf (by rw [fForked_len, hf])] at h
    have hf2 : ({ r with f := fForked r.f i c } : Rn).f.length = 19 := by show (fForked r.f i c).length = 19; rw [fForked_len, hf]
    refine nn_i ?_
    refine ldS_h (g := gr) (o := 0 + 21) h (run_kids hf2) ?_
    refine slL_h (s := sk) (sz := 1) (vs := ints r.kids) h (by omega) (by omega) fun d hd h => ?_
    refine nn_i ?_
    refine stC_h (g := gr) (o := 0 + 21) h rfl (by rw [run_len hf2]; decide) fun w60 h => ?_
    rw [run_setkids (ks := cs) hf2] at h
    have ed : (ints r.kids).drop ((1 : Int).toNat * 1) = ints cs := by rw [hks]; rfl
    rw [ed] at h
    exact hres w60 d h.drop.drop
theorem join_s {h' : Int} (h : St w0 w (FP gr gb gB gS ps ls q row sk r b R)) (hT : Tbl w0 ls l) (hf : r.f.length = 19) (h5 : i.length = 5) (hh : h' = hOf i) (hA : 0 ≤ h' ∧ h' < 8) (h0 : 0 ≤ r.f.getD (10 + h'.toNat) 0) (h1 : r.f.getD (10 + h'.toNat) 0 < l.length)
    (hk0 : (rowAt l (r.f.getD (10 + h'.toNat) 0)).kind < 2 → ∀ w', St w0 w' (FP gr gb gB gS ps ls q row sk r b R) → k false w')
    (hk1 : ¬ (rowAt l (r.f.getD (10 + h'.toNat) 0)).kind < 2 → (fJoined r.f i (rowAt l (r.f.getD (10 + h'.toNat) 0)).kind (rowAt l (r.f.getD (10 + h'.toNat) 0)).v).2.2 = true → ∀ w', St w0 w' (FP gr gb gB gS ps ls q row sk { r with f := (fJoined r.f i (rowAt l (r.f.getD (10 + h'.toNat) 0)).kind (rowAt l (r.f.getD (10 + h'.toNat) 0)).v).1, kind := 3, v := (fJoined r.f i (rowAt l (r.f.getD (10 + h'.toNat) 0)).kind (rowAt l (r.f.getD (10 + h'.toNat) 0)).v).2.1 } b R) → k true w')
    (hk2 : ¬ (rowAt l (r.f.getD (10 + h'.toNat) 0)).kind < 2 → (fJoined r.f i (rowAt l (r.f.getD (10 + h'.toNat) 0)).kind (rowAt l (r.f.getD (10 + h'.toNat) 0)).v).2.2 = false → ∀ w', St w0 w' (FP gr gb gB gS ps ls q row sk { r with f := (fJoined r.f i (rowAt l (r.f.getD (10 + h'.toNat) 0)).kind (rowAt l (r.f.getD (10 + h'.toNat) 0)).v).1 } b R) → k true w') : fits_run_join (some ⟨gr, 0, none⟩) (agI i) w k := by
  unfold fits_run_join fits_run_join_b
  refine newC_h h fun g1 w2 h => ?_
  have h : St w0 w2 (blk g1 (ints i) :: FP gr gb gB gS ps ls q row sk r b R) := h
  refine ldI_h (g := g1) (o := 0 + 2) h (ints_getD (by omega)) ?_
  refine ldI_h (g := g1) (o := 0 + 0) h (ints_getD (by omega)) ?_
  refine joinP_i (fun z w' => z = h' ∧ w' = w2) (fun J hJ => ?_) ?_
  · unfold hOf at hh
    refine iteB_i (fun hb => ?_) fun hb => ?_
    · have hb : i.getD 0 0 = 10 := by simpa using hb
      refine ldI_h (g := g1) (o := 0 + 3) h (ints_getD (by omega)) ?_
      exact hJ _ _ ⟨by rw [hh, if_pos hb], rfl⟩
    · have hb : ¬ i.getD 0 0 = 10 := by simpa using hb
      exact hJ _ _ ⟨by rw [hh, if_neg hb], rfl⟩
  rintro z _ ⟨hz, rfl⟩
  rw [hz]
  refine drew_h h fun w9 h => ?_
  refine nn_i ?_
  refine ldP_h (g := gr) (o := 0 + 0) h rfl ?_
  refine nn_i ?_
  refine ldS_h (g := gb) (o := 0 + 1) h rfl ?_
  refine nn_i ?_
  refine ixP_i hA.1 (by omega) ?_
  have ev : (runV gb row sk r)[0 + 1 + 10 + h'.toNat * 1]? = some (.int .i64 (r.f.getD (10 + h'.toNat) 0)) := by
    have := run_get (gb := gb) (row := row) (sk := sk) (r := r) (j := 10 + h'.toNat) hf (by omega)
    rw [show 0 + 1 + 10 + h'.toNat * 1 = 1 + (10 + h'.toNat) by omega]
    exact this
  refine ldI_h (g := gr) (o := 0 + 1 + 10 + h'.toNat * 1) h ev ?_
  generalize hj : r.f.getD (10 + h'.toNat) 0 = j at *
  refine tA_h hT h h0 h1 fun p hp => ?_
  generalize hx : rowAt l j = x at *
  refine newC_h h fun g19 w20 h2 => ?_
  refine samecT (e := rbV x) (fun j v => hp h) (fun j v => hp h2) (Nat.le_of_eq rbV_len.symm) ?_
  refine samec_h (g := gr) (o := 0 + 1 + 10 + h'.toNat * 1) h h2 (samec_h (g := gb) (o := 0 + 1) h h2 (samec_h (g := gr) (o := 0 + 0) h h2 ?_))
  refine stW_h (g := g19) h2 rfl rfl one_rb fun w21 h => ?_
  refine ldI_h (g := g19) (o := 0 + 3) h rfl ?_
  refine iteB_i (fun hb => ?_) fun hb => ?_
  · exact hk0 (of_decide_eq_true hb) _ h.drop.drop
  have hk2' := of_decide_eq_false hb
  have hfl : (fJoined r.f i x.kind x.v).1.length = 19 := by rw [fJoined_len, hf]
  refine joinP_i (fun z w' => ∃ g, z = (⟨g, 0, none⟩, (fJoined r.f i x.kind x.v).2.1, (fJoined r.f i x.kind x.v).2.2) ∧ St w0 w' (blk g (ints (fJoined r.f i x.kind x.v).1) :: blk g19 (rbV x) :: blk g1 (ints i) :: FP gr gb gB gS ps ls q row sk r b R)) (fun J hJ => ?_) ?_
  · refine drew_h h fun w24 h => ?_
    refine nn_i ?_
    refine ldA_h (n := 19) (g := gr) (o := 0 + 1) h (by rw [run_len hf]; decide) ?_
    rw [run_f hf]
    refine ldW_h (g := g1) h (by simp [ints, h5]) ?_
    refine ldI_h (g := g19) (o := 0 + 3) h rfl ?_
    refine ldI_h (g := g19) (o := 0 + 4) h rfl ?_
    refine ⟨?_, ?_⟩
    · refine Fr.joined_s hf h5 fun w31 he => ?_
      have h2 := ext_of h he
      refine newC_h h2 fun g32 w33 h2 => ?_
      refine samec_h (g := g19) (o := 0 + 4) h h2 (samec_h (g := g19) (o := 0 + 3) h h2 (samec_h (g := g1) (o := 0) h h2 (samec_h (g := gr) (o := 0 + 1) h h2 ?_)))
      refine stW_h (g := g32) h2 rfl (by simp [agI, ints, hfl]) (Ck.one_agI _) fun w34 h2 => ?_
      exact hJ _ _ ⟨g32, rfl, h2⟩
    · refine newC_h h fun g32 w33 h2 => ?_
      refine samec_h (g := g19) (o := 0 + 4) h h2 (samec_h (g := g19) (o := 0 + 3) h h2 (samec_h (g := g1) (o := 0) h h2 (samec_h (g := gr) (o := 0 + 1) h h2 ?_)))
      refine Fr.joined_s hf h5 fun w31 he => ?_
      have h2 := ext_of h2 he
      refine stW_h (g := g32) h2 rfl (by simp [agI, ints, hfl]) (Ck.one_agI _) fun w34 h2 => ?_
      exact hJ _ _ ⟨g32, rfl, h2⟩
  rintro _ w41 ⟨g, rfl, h⟩
  refine ldW_h (n := 19) (g := g) h (by simp [ints, hfl]) ?_
  refine nn_i ?_
  refine stA_h (n := 19) (g := gr) (o := 0 + 1) (vs := agI (fJoined r.f i x.kind x.v).1) h (by simp [agI, ints, hfl]) (by rw [run_len hf]; decide) (Ck.one_agI _) fun w44 h => ?_
  rw [run_setf hf hfl] at h
  have hf2 : ({ r with f := (fJoined r.f i x.kind x.v).1 } : Rn).f.length = 19 := hfl
  refine iteB_i (fun hb => ?_) fun hb => ?_
  · refine nn_i ?_
    refine stC_h (g := gr) (o := 0 + 26) h rfl (by rw [run_len hf2]; decide) fun w46 h => ?_
    rw [run_setkind hf2] at h
    refine nn_i ?_
    refine stC_h (g := gr) (o := 0 + 27) h rfl (by rw [run_len (r := { r with f := (fJoined r.f i x.kind x.v).1, kind := 3 }) hf2]; decide) fun w48 h => ?_
    rw [run_setv (r := { r with f := (fJoined r.f i x.kind x.v).1, kind := 3 }) hf2] at h
    exact hk1 hk2' hb _ h.drop.drop.drop
  · exact hk2 hk2' hb _ h.drop.drop.drop
end
end Go.Proofs.YtgkfbagclkjilaaDoor.Ft
namespace Go.Proofs.YtgkfbagclkjilaaDoor.Ft
open Go Go.Ev Go.Proofs Go.Proofs.YtgkfbagclkjilaaDoor
open Go.Proofs.YtgkfbagclkjilaaDoor.Fr (fTo fOn fPlain fForked fJoined fClosed fChild fRoot fR isB fTo_len fOn_len fPlain_len fForked_len fJoined_len fClosed_len)
open Go.Proofs.YtgkfbagclkjilaaDoor.Ck (opI Walk Accs needsOf isGoes heldL depths stepD handlesOk subBits scopesOk forks)
theorem does_s {w0 w : World} {L : List HP} {g : Nat} {vs : List Value} {v : Value} {j : Nat} {f : HP → List HP} {c : Value → Prop} (h : St w0 w L) [a : At L (blk g) vs f] (hj : j < 9) (hv : vs[j]? = some v) (hc : c v) : ixS ⟨some ⟨g, 0, none⟩, 9, 9⟩ (j : Int) 1 fun a => ldV w a c := by
  unfold ixS
  refine ⟨⟨by omega, by simp only; omega⟩, ?_⟩
  have e : (⟨g, 0, none⟩ : Addr).add (((j : Int)).toNat * 1) = ⟨g, j, none⟩ := by rw [add_mk, Int.toNat_natCast]; simp
  show ldV w _ c
  rw [e]
  exact ldV_h (g := g) (o := j) h hv hc
theorem next_any {f : List Int} {ps : Sl} {P : List FnR} {w : World} {k : Array Value × Int → World → Prop} (hF : Funcs5 w ps P) (hf : FB P f) (hk : ∀ i e w', i.length = 5 → Ext w w' → k (agI i, e) w') : frame_Frame_Next (agI f) #[.slice ps.a ps.n ps.c] w k := by
  obtain ⟨g, hg⟩ := hf.fn
  have h0 := hf.f0
  have hlen := hf.len
  obtain ⟨_, hcd⟩ := hF.code g (List.mem_of_getElem? hg)
  by_cases hin : 0 ≤ f.getD 1 0 ∧ (f.getD 1 0).toNat < g.code.length
  · have hi : g.code[(f.getD 1 0).toNat]? = some (g.code[(f.getD 1 0).toNat]'hin.2) := List.getElem?_eq_getElem hin.2
    refine next_s hF hf.len h0 hg hin.1 hi fun w' he => hk _ _ _ ?_ he
    exact (hcd.five _ (List.getElem_mem hin.2)).1
  have hn := hF.len
  have hcn := hcd.len
  have hlt := (List.getElem?_eq_some_iff.1 hg).1
  unfold frame_Frame_Next
  refine newC_h (.nil w) fun g1 w1 h => newC_h h fun g3 w3 h => newC_h h fun g5 w6 h => ?_
  have h : St w w6 [blk g5 (ints [0, 0, 0, 0, 0]), blk g3 [.slice ps.a ps.n ps.c], blk g1 (ints f)] := h
  refine joinP_i (fun b w' => b = false ∧ w' = w6) (fun J hJ => ?_) fun b v hbv => ?_
  · refine ldI_h (g := g1) (o := 0 + 0) h (ints_getD (by omega)) (iteB_f (by rw [decide_eq_false_iff_not]; show ¬ f.getD 0 0 < 0; omega) ?_)
    refine ldI_h (g := g1) (o := 0 + 0) h (ints_getD (by omega)) (ldS_h (g := g3) (o := 0 + 0) h rfl (hJ _ _ ⟨by rw [decide_eq_false_iff_not]; show ¬ f.getD 0 0 ≥ ((ps.n : Nat) : Int); omega, rfl⟩))
  rw [hbv.1, hbv.2]
  refine iteB_f rfl ?_
  refine ldS_h (g := g3) (o := 0 + 0) h rfl (ldI_h (g := g1) (o := 0 + 0) h (ints_getD (by omega)) ?_)
  refine ixR_h (i := f.getD 0 0) (e := FnR.cells g) hF.rws h h0 (by rw [List.getElem?_map, hg]; rfl) fun p hp => ?_
  refine ldS_i (s := g.sl) (hp h (j := 1) rfl) ?_
  refine joinP_i (fun b w' => b = true ∧ w' = w6) (fun J hJ => ?_) fun b v hbv => ?_
  · refine ldI_h (g := g1) (o := 0 + 1) h (ints_getD (by omega)) ?_
    refine iteB_i (fun hb => hJ _ _ ⟨rfl, rfl⟩) fun hb => ?_
    have hb : ¬ f.getD 1 0 < 0 := of_decide_eq_false hb
    refine ldI_h (g := g1) (o := 0 + 1) h (ints_getD (by omega)) (hJ _ _ ⟨by rw [decide_eq_true_eq]; show f.getD 1 0 ≥ ((g.sl.n : Nat) : Int); omega, rfl⟩)
  rw [hbv.1, hbv.2]
  refine iteB_t rfl ?_
  refine stW_h (n := 5) (g := g5) h rfl rfl (Ck.one_agI [0, 0, 0, 0, 0]) fun w24 h => ?_
  refine ldW_h (n := 5) (g := g5) h rfl ?_
  exact hk [0, 0, 0, 0, 0] _ _ rfl h.ext
abbrev doesL : List Value := [.func (.func n_fits_run_fork) #[] #[], .func (.func n_fits_run_join) #[] #[], .func (.func n_fits_run_join) #[] #[], .func (.func n_fits_run_open) #[] #[], .func (.func n_fits_run_close) #[] #[], .func (.func n_fits_run_cancel) #[] #[], .func (.func n_fits_run_pass) #[] #[], .func (.func n_fits_run_leave) #[] #[], .func (.func n_fits_run_leave) #[] #[]]
section
variable {w0 w : World} {L R : List HP} {gr gb gB gS : Nat} {ps ls sk : Sl} {q : Bool} {row : Int} {r : Rn} {b : Bk} {i : List Int} {ia : Array Value} {k : Bool → World → Prop} {P : List FnR} {l : List Rb} {Q : Int → Prop} {inn : Int × Int} {n : Nat} {ks : List Int}
theorem step_s (hF : Funcs5 w0 ps P) (hT : Tbl w0 ls l) (hA : Accs P) (hri : RI P Q row inn n r b ks) (hQ : ∀ j, Q j → 0 ≤ j ∧ j < l.length) (hn : (n : Int) < 1048576) (h : St w0 w (FP gr gb gB gS ps ls q row sk r b R))
    (h0 : ∀ w', fstp P l q row r b = none → St w0 w' (FP gr gb gB gS ps ls q row sk r b R) → k false w')
    (h1 : ∀ w' sk' r' b', fstp P l q row r b = some (r', b') → St w0 w' (FP gr gb gB gS ps ls q row sk' r' b' R) → k true w') : fits_run_step (some ⟨gr, 0, none⟩) w k := by
  have hf := hri.fb.len
  unfold fits_run_step fits_run_step_b
  by_cases hk0 : r.kind = 0
  case neg =>
    refine joinP_i (fun z w' => ∃ g e, z = (⟨g, 0, none⟩, e) ∧ St w0 w' (FP gr gb gB gS ps ls q row sk r b R)) (fun J hJ => ?_) ?_
    · refine drew_h h fun w2 h => ?_
      refine nn_i ?_
      refine ldA_h (n := 19) (g := gr) (o := 0 + 1) h (by rw [run_len hf]; decide) ?_
      rw [run_f hf]
      refine nn_i ?_
      refine ldP_h (g := gr) (o := 0 + 0) h rfl ?_
      refine nn_i ?_
      refine ldA_h (n := 1) (g := gb) (o := 0 + 0) h (by simp [bookV]) ?_
      refine ⟨?_, ?_⟩
      · refine next_any (hF.ext h.ext) hri.fb fun i e w10 h5 he => ?_
        have h2 := ext_of h he
        refine newC_h h2 fun g11 w12 h2 => ?_
        refine samec_h (g := gb) (o := 0 + 0) h h2 (samec_h (g := gr) (o := 0 + 0) h h2 (samec_h (g := gr) (o := 0 + 1) h h2 ?_))
        refine stW_h (g := g11) h2 rfl (by simp [agI, ints, h5]) (Ck.one_agI _) fun w13 h2 => ?_
        exact hJ _ _ ⟨g11, e, rfl, h2.drop⟩
      · refine newC_h h fun g11 w12 h2 => ?_
        refine samec_h (g := gb) (o := 0 + 0) h h2 (samec_h (g := gr) (o := 0 + 0) h h2 (samec_h (g := gr) (o := 0 + 1) h h2 ?_))
        refine next_any (hF.ext h2.ext) hri.fb fun i e w10 h5 he => ?_
        have h2 := ext_of h2 he
        refine stW_h (g := g11) h2 rfl (by simp [agI, ints, h5]) (Ck.one_agI _) fun w13 h2 => ?_
        exact hJ _ _ ⟨g11, e, rfl, h2.drop⟩
    rintro _ w20 ⟨g, e, rfl, h⟩
    refine joinP_i (fun z w' => z = true ∧ w' = w20) (fun J hJ => ?_) ?_
    · refine iteB_i (fun hb => hJ _ _ ⟨rfl, rfl⟩) fun hb => ?_
      refine nn_i ?_
      refine ldI_h (g := gr) (o := 0 + 26) h (run_kind hf) ?_
      exact hJ _ _ ⟨by simpa using hk0, rfl⟩
    rintro _ _ ⟨rfl, rfl⟩
    refine iteB_t rfl ?_
    exact h0 _ (by unfold fstp; rw [if_pos hk0]) h
  have hfi := hri.fi hk0
  obtain ⟨g, hv, ha⟩ := hfi.at hA
  obtain ⟨hp0, hp1⟩ := fat_pc ha
  have hmem := List.mem_of_getElem? ha.ins
  obtain ⟨_, hcd⟩ := hF.code g (List.mem_of_getElem? ha.at0)
  have h5 := (hcd.five _ hmem).1
  have hck := Ck.chk0 ha.chk
  have hregs := Fr.chk_regs (chk_fr ha.chk)
  have hop := hri.op
  generalize hi : insAt P r.f = i at ha hmem h5 hck hregs
  have hop0 : 0 ≤ i.getD 0 0 := hck.1
  have hop1 : i.getD 0 0 < 17 := hck.2.1
  refine joinP_i (fun z w' => ∃ g, z = (⟨g, 0, none⟩, 0) ∧ St w0 w' (blk g (ints i) :: FP gr gb gB gS ps ls q row sk r b R)) (fun J hJ => ?_) ?_
  · refine drew_h h fun w2 h => ?_
    refine nn_i ?_
    refine ldA_h (n := 19) (g := gr) (o := 0 + 1) h (by rw [run_len hf]; decide) ?_
    rw [run_f hf]
    refine nn_i ?_
    refine ldP_h (g := gr) (o := 0 + 0) h rfl ?_
    refine nn_i ?_
    refine ldA_h (n := 1) (g := gb) (o := 0 + 0) h (by simp [bookV]) ?_
    refine ⟨?_, ?_⟩
    · refine next_s (hF.ext h.ext) hf hfi.f0 ha.at0 hp0 ha.ins fun w10 he => ?_
      have h2 := ext_of h he
      refine newC_h h2 fun g11 w12 h2 => ?_
      refine samec_h (g := gb) (o := 0 + 0) h h2 (samec_h (g := gr) (o := 0 + 0) h h2 (samec_h (g := gr) (o := 0 + 1) h h2 ?_))
      refine stW_h (g := g11) h2 rfl (by simp [agI, ints, h5]) (Ck.one_agI _) fun w13 h2 => ?_
      exact hJ _ _ ⟨g11, rfl, h2⟩
    · refine newC_h h fun g11 w12 h2 => ?_
      refine samec_h (g := gb) (o := 0 + 0) h h2 (samec_h (g := gr) (o := 0 + 0) h h2 (samec_h (g := gr) (o := 0 + 1) h h2 ?_))
      refine next_s (hF.ext h2.ext) hf hfi.f0 ha.at0 hp0 ha.ins fun w10 he => ?_
      have h2 := ext_of h2 he
      refine stW_h (g := g11) h2 rfl (by simp [agI, ints, h5]) (Ck.one_agI _) fun w13 h2 => ?_
      exact hJ _ _ ⟨g11, rfl, h2⟩
  rintro _ w20 ⟨g1, rfl, h⟩
  refine joinP_i (fun z w' => z = false ∧ w' = w20) (fun J hJ => ?_) ?_
  · refine iteB_f rfl ?_
    refine nn_i ?_
    refine ldI_h (g := gr) (o := 0 + 26) h (run_kind hf) ?_
    exact hJ _ _ ⟨by rw [hk0]; rfl, rfl⟩
  rintro _ w25 ⟨rfl, rfl⟩
  refine iteB_f rfl ?_
  have hfl : (fPlain r.f i).1.length = 19 := fPlain_len hf
  refine joinP_i (fun z w' => ∃ g2, z = (⟨g2, 0, none⟩, (fPlain r.f i).2) ∧ St w0 w' (blk g2 (ints (fPlain r.f i).1) :: blk g1 (ints i) :: FP gr gb gB gS ps ls q row sk r b R)) (fun J hJ => ?_) ?_
  · refine drew_h h fun w27 h => ?_
    refine nn_i ?_
    refine ldA_h (n := 19) (g := gr) (o := 0 + 1) h (by rw [run_len hf]; decide) ?_
    rw [run_f hf]
    refine ldW_h (g := g1) h (by simp [ints, h5]) ?_
    refine ⟨?_, ?_⟩
    · refine Fr.plain_F hf h5 fun w32 he => ?_
      have h2 := ext_of h he
      refine newC_h h2 fun g33 w34 h2 => ?_
      refine samec_h (g := g1) (o := 0) h h2 (samec_h (g := gr) (o := 0 + 1) h h2 ?_)
      refine stW_h (g := g33) h2 rfl (by simp [agI, ints, hfl]) (Ck.one_agI _) fun w35 h2 => ?_
      exact hJ _ _ ⟨g33, rfl, h2⟩
    · refine newC_h h fun g33 w34 h2 => ?_
      refine samec_h (g := g1) (o := 0) h h2 (samec_h (g := gr) (o := 0 + 1) h h2 ?_)
      refine Fr.plain_F hf h5 fun w32 he => ?_
      have h2 := ext_of h2 he
      refine stW_h (g := g33) h2 rfl (by simp [agI, ints, hfl]) (Ck.one_agI _) fun w35 h2 => ?_
      exact hJ _ _ ⟨g33, rfl, h2⟩
  rintro _ w42 ⟨g2, rfl, h⟩
  refine iteB_i (fun hp => ?_) fun hp => ?_
  · have hp : (fPlain r.f i).2 = true := hp
    refine ldW_h (g := g2) h (by simp [ints, hfl]) ?_
    refine nn_i ?_
    refine stA_h (n := 19) (g := gr) (o := 0 + 1) (vs := agI (fPlain r.f i).1) h (by simp [agI, ints, hfl]) (by rw [run_len hf]; decide) (Ck.one_agI _) fun w45 h => ?_
    rw [run_setf hf hfl] at h
    exact h1 _ _ _ _ (by unfold fstp; rw [hi, if_neg (by simpa using hk0), if_pos hp]) h.drop.drop
  have hp : (fPlain r.f i).2 = false := hp
  have hop8 := plain_not ha.chk hp
  have hstp : fstp P l q row r b = fact P l q row i r b := by unfold fstp; rw [hi, if_neg (by simpa using hk0), if_neg (by rw [hp]; decide)]
  rw [hstp] at h0 h1
  refine newC_h h fun g46 w47 h => ?_
  refine drew_h h fun w48 h => ?_
  have h : St w0 w48 (blk g46 doesL :: blk g2 (ints (fPlain r.f i).1) :: blk g1 (ints i) :: FP gr gb gB gS ps ls q row sk r b R) := h
  refine ldI_h (g := g1) (o := 0 + 0) h (ints_getD (by omega)) ?_
  have hS := h.drop.drop.drop
  have hjoin : i.getD 0 0 = 9 ∨ i.getD 0 0 = 10 → fits_run_join (some ⟨gr, 0, none⟩) (agI i) w48 k := by
    intro h910
    obtain ⟨j0, j1, jq⟩ := fat_join ha h910
    obtain ⟨q0, q1⟩ := hQ _ jq
    refine join_s hS hT hf h5 rfl ⟨j0, j1⟩ q0 q1 (fun hb w' h => ?_) (fun hb hc w' h => ?_) fun hb hc w' h => ?_
    · exact h0 _ (by unfold fact; rw [if_neg (by omega), if_pos h910, if_pos hb]) h
    · exact h1 _ _ _ _ (by unfold fact; rw [if_neg (by omega), if_pos h910, if_neg hb, if_pos hc]) h
    · exact h1 _ _ _ _ (by unfold fact; rw [if_neg (by omega), if_pos h910, if_neg hb, if_neg (by rw [hc]; decide)]) h
  have hleave : 15 ≤ i.getD 0 0 → fits_run_leave (some ⟨gr, 0, none⟩) (agI i) w48 k := by
    intro hl
    refine leave_s hS hf h5 hregs.1 fun w' h => ?_
    exact h1 _ _ _ _ (by unfold fact; rw [if_neg (by omega), if_neg (by omega), if_neg (by omega), if_neg (by omega), if_neg (by omega), if_neg (by omega)]) h
  have hcases : i.getD 0 0 = 8 ∨ i.getD 0 0 = 9 ∨ i.getD 0 0 = 10 ∨ i.getD 0 0 = 11 ∨ i.getD 0 0 = 12 ∨ i.getD 0 0 = 13 ∨ i.getD 0 0 = 14 ∨ i.getD 0 0 = 15 ∨ i.getD 0 0 = 16 := by omega
  rcases hcases with ho | ho | ho | ho | ho | ho | ho | ho | ho
  · show ixS _ (IntKind.wrap .i64 (i.getD 0 0 - 8)) 1 _
    rw [ho, show IntKind.wrap .i64 ((8 : Int) - 8) = ((0 : Nat) : Int) by decide]
    refine does_s (g := g46) h (by decide) rfl ?_
    refine ldW_h (g := g1) h (by simp [ints, h5]) ?_
    refine callF_i (d := d_fits_run_fork) (fun _ _ _ => rfl) ?_
    show fits_run_fork (some ⟨gr, 0, none⟩) (agI i) w48 k
    have hpl := (Ck.places_in ha.good.places).2 ho
    have h4 := hck.2.2.2.1 ho
    refine fork_s hS hF hf h5 (isB_of ha.chk ho) h4.1 (by omega) (fun w' hk h => ?_) fun w' sk' c cs hk h => ?_
    · exact h0 _ (by unfold fact; rw [if_pos ho, hk]) h
    · exact h1 _ _ _ _ (by unfold fact; rw [if_pos ho, hk]) h
  · show ixS _ (IntKind.wrap .i64 (i.getD 0 0 - 8)) 1 _
    rw [ho, show IntKind.wrap .i64 ((9 : Int) - 8) = ((1 : Nat) : Int) by decide]
    refine does_s (g := g46) h (by decide) rfl ?_
    refine ldW_h (g := g1) h (by simp [ints, h5]) ?_
    refine callF_i (d := d_fits_run_join) (fun _ _ _ => rfl) ?_
    show fits_run_join (some ⟨gr, 0, none⟩) (agI i) w48 k
    exact hjoin (.inl ho)
  · show ixS _ (IntKind.wrap .i64 (i.getD 0 0 - 8)) 1 _
    rw [ho, show IntKind.wrap .i64 ((10 : Int) - 8) = ((2 : Nat) : Int) by decide]
    refine does_s (g := g46) h (by decide) rfl ?_
    refine ldW_h (g := g1) h (by simp [ints, h5]) ?_
    refine callF_i (d := d_fits_run_join) (fun _ _ _ => rfl) ?_
    show fits_run_join (some ⟨gr, 0, none⟩) (agI i) w48 k
    exact hjoin (.inr ho)
  · show ixS _ (IntKind.wrap .i64 (i.getD 0 0 - 8)) 1 _
    rw [ho, show IntKind.wrap .i64 ((11 : Int) - 8) = ((3 : Nat) : Int) by decide]
    refine does_s (g := g46) h (by decide) rfl ?_
    refine ldW_h (g := g1) h (by simp [ints, h5]) ?_
    refine callF_i (d := d_fits_run_open) (fun _ _ _ => rfl) ?_
    show fits_run_open (some ⟨gr, 0, none⟩) (agI i) w48 k
    have h00 : 0 ≤ ks.headD 0 := by
      have hne := hri.own.ne
      have := (hri.own.le _ (List.head_mem hne)).1
      cases ks with
      | nil => exact absurd rfl hne
      | cons a t => exact this
    refine open_s hS hf (by omega) fun w' h => ?_
    exact h1 _ _ _ _ (by unfold fact; rw [if_neg (by omega), if_neg (by omega), if_pos ho]) h
  · show ixS _ (IntKind.wrap .i64 (i.getD 0 0 - 8)) 1 _
    rw [ho, show IntKind.wrap .i64 ((12 : Int) - 8) = ((4 : Nat) : Int) by decide]
    refine does_s (g := g46) h (by decide) rfl ?_
    refine ldW_h (g := g1) h (by simp [ints, h5]) ?_
    refine callF_i (d := d_fits_run_close) (fun _ _ _ => rfl) ?_
    show fits_run_close (some ⟨gr, 0, none⟩) (agI i) w48 k
    refine close_s hS hf h5 (fun w' hc h => ?_) fun w' c cs hc hb h => ?_
    · refine h0 _ ?_ h
      unfold fact
      rw [if_neg (by omega), if_neg (by omega), if_neg (by omega), if_pos ho]
      rcases hc with hc | ⟨c, cs, hc, hb⟩
      · rw [hc]
      · rw [hc]; dsimp only; rw [if_pos hb]
    · refine h1 _ _ _ _ ?_ h
      unfold fact
      rw [if_neg (by omega), if_neg (by omega), if_neg (by omega), if_pos ho, hc]
      dsimp only
      rw [if_neg (by rw [hb]; decide)]
  · show ixS _ (IntKind.wrap .i64 (i.getD 0 0 - 8)) 1 _
    rw [ho, show IntKind.wrap .i64 ((13 : Int) - 8) = ((5 : Nat) : Int) by decide]
    refine does_s (g := g46) h (by decide) rfl ?_
    refine ldW_h (g := g1) h (by simp [ints, h5]) ?_
    refine callF_i (d := d_fits_run_cancel) (fun _ _ _ => rfl) ?_
    show fits_run_cancel (some ⟨gr, 0, none⟩) (agI i) w48 k
    refine cancel_s hS hf fun w' h => ?_
    exact h1 _ _ _ _ (by unfold fact; rw [if_neg (by omega), if_neg (by omega), if_neg (by omega), if_neg (by omega), if_pos ho]) h
  · show ixS _ (IntKind.wrap .i64 (i.getD 0 0 - 8)) 1 _
    rw [ho, show IntKind.wrap .i64 ((14 : Int) - 8) = ((6 : Nat) : Int) by decide]
    refine does_s (g := g46) h (by decide) rfl ?_
    refine ldW_h (g := g1) h (by simp [ints, h5]) ?_
    refine callF_i (d := d_fits_run_pass) (fun _ _ _ => rfl) ?_
    show fits_run_pass (some ⟨gr, 0, none⟩) (agI i) w48 k
    refine pass_s hS hf fun w' h => ?_
    exact h1 _ _ _ _ (by unfold fact; rw [if_neg (by omega), if_neg (by omega), if_neg (by omega), if_neg (by omega), if_neg (by omega), if_pos ho]) h
  · show ixS _ (IntKind.wrap .i64 (i.getD 0 0 - 8)) 1 _
    rw [ho, show IntKind.wrap .i64 ((15 : Int) - 8) = ((7 : Nat) : Int) by decide]
    refine does_s (g := g46) h (by decide) rfl ?_
    refine ldW_h (g := g1) h (by simp [ints, h5]) ?_
    refine callF_i (d := d_fits_run_leave) (fun _ _ _ => rfl) ?_
    show fits_run_leave (some ⟨gr, 0, none⟩) (agI i) w48 k
    exact hleave (by omega)
  · show ixS _ (IntKind.wrap .i64 (i.getD 0 0 - 8)) 1 _
    rw [ho, show IntKind.wrap .i64 ((16 : Int) - 8) = ((8 : Nat) : Int) by decide]
    refine does_s (g := g46) h (by decide) rfl ?_
    refine ldW_h (g := g1) h (by simp [ints, h5]) ?_
    refine callF_i (d := d_fits_run_leave) (fun _ _ _ => rfl) ?_
    show fits_run_leave (some ⟨gr, 0, none⟩) (agI i) w48 k
    exact hleave (by omega)
end
end Go.Proofs.YtgkfbagclkjilaaDoor.Ft
namespace Go.Proofs.YtgkfbagclkjilaaDoor.Ft
open Go Go.Ev Go.Proofs Go.Proofs.YtgkfbagclkjilaaDoor
open Go.Proofs.YtgkfbagclkjilaaDoor.Fr (fTo fOn fPlain fForked fJoined fClosed fChild fRoot fR isB fTo_len fOn_len fPlain_len fForked_len fJoined_len fClosed_len)
open Go.Proofs.YtgkfbagclkjilaaDoor.Ck (opI Walk Accs needsOf isGoes heldL depths stepD handlesOk subBits scopesOk forks)
section
variable {w0 w : World} {L R : List HP} {gr gb gB gS : Nat} {ps ls sk : Sl} {q : Bool} {row : Int} {r r' : Rn} {b b' : Bk} {i : List Int} {ia : Array Value} {k : Bool → World → Prop} {P : List FnR} {l : List Rb} {Q : Int → Prop} {inn : Int × Int} {n m : Nat} {ks : List Int}
theorem ends_s (hF : Funcs5 w0 ps P) (hT : Tbl w0 ls l) (hA : Accs P) (hri : RI P Q row inn n r b ks) (hb : BI P Q b) (hin : inn = (-1, 0) ∨ (b.sc inn).isSome = true) (hr0 : 0 ≤ row) (hr1 : row < l.length)
    (h : St w0 w (FP gr gb gB gS ps ls q row sk r b R)) (hk : ∀ w', St w0 w' (FP gr gb gB gS ps ls q row sk r b R) → k (fends P q (rowAt l row) r b inn) w') : fits_run_ends (some ⟨gr, 0, none⟩) #[.int .i64 inn.1, .int .i64 inn.2] w k := by
  have hf := hri.fb.len
  unfold fits_run_ends fits_run_ends_b
  unfold fends at hk
  refine newC_h h fun g1 w2 h => ?_
  refine drew_h h fun w3 h => ?_
  refine nn_i ?_
  refine ldP_h (g := gr) (o := 0 + 0) h rfl ?_
  refine nn_i ?_
  refine ldS_h (g := gb) (o := 0 + 1) h rfl ?_
  refine nn_i ?_
  refine ldI_h (g := gr) (o := 0 + 20) h (run_row hf) ?_
  refine tA_h hT h hr0 hr1 fun p hp => ?_
  generalize rowAt l row = x at *
  refine newC_h h fun g12 w13 h2 => ?_
  refine samecT (e := rbV x) (fun j v => hp h) (fun j v => hp h2) (Nat.le_of_eq rbV_len.symm) ?_
  refine samec_h (g := gr) (o := 0 + 20) h h2 (samec_h (g := gb) (o := 0 + 1) h h2 (samec_h (g := gr) (o := 0 + 0) h h2 ?_))
  refine stW_h (g := g12) h2 rfl rfl one_rb fun w14 h => ?_
  have h : St w0 w14 (blk g12 (rbV x) :: blk g1 [.int .i64 inn.1, .int .i64 inn.2] :: FP gr gb gB gS ps ls q row sk r b R) := h
  refine ldI_h (g := g12) (o := 0 + 3) h rfl ?_
  refine joinP_i (fun z w' => z = decide (x.kind = 2 ∨ x.kind = 3) ∧ w' = w14) (fun J hJ => ?_) ?_
  · refine iteB_i (fun hb => hJ _ _ ⟨?_, rfl⟩) fun hb => hJ _ _ ⟨?_, rfl⟩
    · have e : x.kind = 2 := by simpa using hb
      rw [e]; rfl
    · have e : ¬ x.kind = 2 := by simpa using hb
      rw [Bool.eq_iff_iff]; simp [e]
  rintro _ w18 ⟨rfl, rfl⟩
  refine iteB_i (fun hb2 => ?_) fun hb2 => ?_
  · rw [if_pos (of_decide_eq_true hb2)] at hk
    refine drew_h h fun w19 h => ?_
    refine nn_i ?_
    refine ldI_h (g := gr) (o := 0 + 26) h (run_kind hf) ?_
    refine ldI_h (g := g12) (o := 0 + 3) h rfl ?_
    refine iteB_i (fun hb => ?_) fun hb => ?_
    · rw [show (r.kind == x.kind) = true from hb, Bool.true_and] at hk
      refine nn_i ?_
      refine ldI_h (g := gr) (o := 0 + 27) h (run_v hf) ?_
      exact ldI_h (g := g12) (o := 0 + 4) h rfl (hk _ h.drop.drop)
    · rw [show (r.kind == x.kind) = false from hb, Bool.false_and] at hk
      exact hk _ h.drop.drop
  rw [if_neg (of_decide_eq_false hb2)] at hk
  refine iteB_i (fun hb4 => ?_) fun hb4 => by rw [if_neg (by simpa using hb4)] at hk; exact hk _ h.drop.drop
  rw [if_pos (by simpa using hb4)] at hk
  refine joinP_i (fun z w' => ∃ g i e, z = (⟨g, 0, none⟩, e) ∧ i.length = 5 ∧ (r.kind = 0 → i = insAt P r.f ∧ e = 0) ∧ St w0 w' (blk g (ints i) :: blk g12 (rbV x) :: blk g1 [.int .i64 inn.1, .int .i64 inn.2] :: FP gr gb gB gS ps ls q row sk r b R)) (fun J hJ => ?_) ?_
  · refine drew_h h fun w27 h => ?_
    refine nn_i ?_
    refine ldA_h (n := 19) (g := gr) (o := 0 + 1) h (by rw [run_len hf]; decide) ?_
    rw [run_f hf]
    refine nn_i ?_
    refine ldP_h (g := gr) (o := 0 + 0) h rfl ?_
    refine nn_i ?_
    refine ldA_h (n := 1) (g := gb) (o := 0 + 0) h (by simp [bookV]) ?_
    have hnx : ∀ {w' : World} {kk : Array Value × Int → World → Prop}, Ext w0 w' → (∀ i e w'', i.length = 5 → (r.kind = 0 → i = insAt P r.f ∧ e = 0) → Ext w' w'' → kk (agI i, e) w'') → frame_Frame_Next (agI r.f) #[.slice ps.a ps.n ps.c] w' kk := by
      intro w' kk he hkk
      by_cases hk0 : r.kind = 0
      · have hfi := hri.fi hk0
        obtain ⟨g, hv, ha⟩ := hfi.at hA
        obtain ⟨hp0, hp1⟩ := fat_pc ha
        obtain ⟨_, hcd⟩ := hF.code g (List.mem_of_getElem? ha.at0)
        exact next_s (hF.ext he) hf hfi.f0 ha.at0 hp0 ha.ins fun w'' he2 => hkk _ _ _ (hcd.five _ (List.mem_of_getElem? ha.ins)).1 (fun _ => ⟨rfl, rfl⟩) he2
      · exact next_any (hF.ext he) hri.fb fun i e w'' h5 he2 => hkk _ _ _ h5 (fun q => absurd q hk0) he2
    refine ⟨?_, ?_⟩
    · refine hnx h.ext fun i e w10 h5 hie he => ?_
      have h2 := ext_of h he
      refine newC_h h2 fun g11 w12 h2 => ?_
      refine samec_h (g := gb) (o := 0 + 0) h h2 (samec_h (g := gr) (o := 0 + 0) h h2 (samec_h (g := gr) (o := 0 + 1) h h2 ?_))
      refine stW_h (g := g11) h2 rfl (by simp [agI, ints, h5]) (Ck.one_agI _) fun w13 h2 => ?_
      exact hJ _ _ ⟨g11, i, e, rfl, h5, hie, h2⟩
    · refine newC_h h fun g11 w12 h2 => ?_
      refine samec_h (g := gb) (o := 0 + 0) h h2 (samec_h (g := gr) (o := 0 + 0) h h2 (samec_h (g := gr) (o := 0 + 1) h h2 ?_))
      refine hnx h2.ext fun i e w10 h5 hie he => ?_
      have h2 := ext_of h2 he
      refine stW_h (g := g11) h2 rfl (by simp [agI, ints, h5]) (Ck.one_agI _) fun w13 h2 => ?_
      exact hJ _ _ ⟨g11, i, e, rfl, h5, hie, h2⟩
  rintro _ w45 ⟨g, i, e, rfl, h5, hie, h⟩
  refine joinP_i (fun z w' => z = (r.kind != 0 || (q && !(askB b.sc inn))) ∧ St w0 w' (blk g (ints i) :: blk g12 (rbV x) :: blk g1 [.int .i64 inn.1, .int .i64 inn.2] :: FP gr gb gB gS ps ls q row sk r b R)) (fun J hJ => ?_) ?_
  · refine drew_h h fun w47 h => ?_
    refine nn_i ?_
    refine ldI_h (g := gr) (o := 0 + 26) h (run_kind hf) ?_
    refine iteB_i (fun hb => hJ _ _ ⟨by rw [show (r.kind != 0) = true from hb]; rfl, h⟩) fun hb5 => ?_
    rw [show (r.kind != 0) = false from hb5, Bool.false_or] at hJ
    refine nn_i ?_
    refine ldP_h (g := gr) (o := 0 + 0) h rfl ?_
    refine nn_i ?_
    refine ldB_h (g := gb) (o := 0 + 2) h rfl ?_
    refine iteB_i (fun hq => ?_) fun hq => ?_
    · subst hq
      refine nn_i ?_
      refine ldP_h (g := gr) (o := 0 + 0) h rfl ?_
      refine ldW_h (n := 2) (g := g1) h rfl ?_
      refine asked_s (s := inn) (ps := ps) (ls := ls) (q := true) (gB := gB) (gS := gS) h (ask_ex hb.sc hin) fun w58 h => ?_
      exact hJ _ _ ⟨rfl, h⟩
    · subst hq
      exact hJ _ _ ⟨rfl, h⟩
  rintro _ w60 ⟨rfl, h⟩
  refine iteB_i (fun hb6 => ?_) fun hb6 => ?_
  · rw [if_pos hb6] at hk; exact hk _ h.drop.drop.drop
  rw [if_neg (by rw [hb6]; decide)] at hk
  have hk0 : r.kind = 0 := by
    rw [Bool.or_eq_false_iff] at hb6
    simpa using hb6.1
  obtain ⟨ei, ee⟩ := hie hk0
  subst ee
  refine ldI_h (g := g12) (o := 0 + 5) h rfl ?_
  refine iteB_i (fun hb7 => ?_) fun hb7 => ?_
  · rw [show (x.steps == 0) = true from hb7, Bool.true_or] at hk; exact hk _ h.drop.drop.drop
  rw [show (x.steps == 0) = false from hb7, Bool.false_or] at hk
  refine iteB_t rfl ?_
  obtain ⟨g', hv, ha⟩ := (hri.fi hk0).at hA
  have hck := Ck.chk0 ha.chk
  have hop0 : 0 ≤ (insAt P r.f).getD 0 0 := hck.1
  have hop1 : (insAt P r.f).getD 0 0 < 17 := hck.2.1
  refine ldI_h (g := g) (o := 0 + 0) h (ints_getD (by omega)) ?_
  rw [ei]
  refine point_s hop0 hop1 ?_
  exact hk _ h.drop.drop.drop
theorem frun_succ : frun P l q row (n + 1) r b = (match fstp P l q row r b with | none => none | some (r', b') => frun P l q row n r' b') := rfl
theorem frun_add : ∀ {n m : Nat} {r : Rn} {b : Bk}, frun P l q row (n + m) r b = (match frun P l q row n r b with | none => none | some (r', b') => frun P l q row m r' b')
  | 0, m, r, b => by rw [Nat.zero_add]; rfl
  | n + 1, m, r, b => by
    rw [show n + 1 + m = (n + m) + 1 by omega, frun_succ, frun_succ]
    cases fstp P l q row r b with
    | none => rfl
    | some x => exact frun_add
theorem BTo.trans {kids kids' : List Int} {a b c : Bk} (h : BTo row kids a b) (k : BTo row kids' b c) (hs : ∀ i, i ∈ kids' → i ∈ kids) : BTo row kids a c :=
  ⟨fun s hs' => (k.sc s hs').trans (h.sc s hs'), fun s q => k.some s (h.some s q), fun i hi => (k.beg i fun q => hi (hs i q)).trans (h.beg i hi)⟩
theorem frun_ri (hA : Accs P) (hN : ∀ g ∈ P, InI g.needs) (hQ : ∀ j, Q j → (rowAt l j).kind ≤ 4) (h0 : 0 ≤ row) (m : Nat) : ∀ (n : Nat) (r r' : Rn) (b b' : Bk) (ks : List Int), n + m ≤ 1048576 → RI P Q row inn n r b ks → BI P Q b → (∀ k ∈ r.kids, row < k) → frun P l q row m r b = some (r', b') →
    (∃ ks', RI P Q row inn (n + m) r' b' ks') ∧ BI P Q b' ∧ BTo row r.kids b b' ∧ (∃ j, r'.kids = r.kids.drop j) ∧ ∃ j, r'.cl = r.cl.drop j := by
  induction m with
  | zero =>
    intro n r r' b b' ks hn h hb hk hs
    cases hs
    exact ⟨⟨ks, h⟩, hb, BTo.refl _ _ _, ⟨0, rfl⟩, ⟨0, rfl⟩⟩
  | succ m ih =>
    intro n r r' b b' ks hn h hb hk hs
    rw [frun_succ] at hs
    split at hs
    · cases hs
    · rename_i r1 b1 hst
      obtain ⟨_, ⟨ks1, h1⟩, hb1, ht1, ⟨j1, e1⟩, ⟨j2, e2⟩⟩ := fstp_ri hA hN hQ h0 (by omega) h hb hk hst
      have hsub : ∀ i, i ∈ r1.kids → i ∈ r.kids := fun i hi => by rw [e1] at hi; exact List.mem_of_mem_drop hi
      obtain ⟨⟨ks2, h2⟩, hb2, ht2, ⟨j3, e3⟩, ⟨j4, e4⟩⟩ := ih (n + 1) r1 r' b1 b' ks1 (by omega) h1 hb1 (fun k hk' => hk k (hsub k hk')) hs
      refine ⟨⟨ks2, by rw [show n + (m + 1) = n + 1 + m by omega]; exact h2⟩, hb2, ht1.trans ht2 hsub, ⟨j1 + j3, by rw [e3, e1, List.drop_drop]⟩, ⟨j2 + j4, by rw [e4, e2, List.drop_drop]⟩⟩
end
end Go.Proofs.YtgkfbagclkjilaaDoor.Ft
namespace Go.Proofs.YtgkfbagclkjilaaDoor.Ft
open Go Go.Ev Go.Proofs Go.Proofs.YtgkfbagclkjilaaDoor
open Go.Proofs.YtgkfbagclkjilaaDoor.Fr (fTo fOn fPlain fForked fJoined fClosed fChild fRoot fR isB fTo_len fOn_len fPlain_len fForked_len fJoined_len fClosed_len)
open Go.Proofs.YtgkfbagclkjilaaDoor.Ck (opI Walk Accs needsOf isGoes heldL depths stepD handlesOk subBits scopesOk forks)
theorem toAB {x : List Int × (Int × Int)} {c : Array Value → Prop} (h : c (agI (x.1 ++ [x.2.1, x.2.2]))) : toA (evB x) c := h
theorem beg_len {x : List Int × (Int × Int)} (h : x.1.length = 19) : (agI (x.1 ++ [x.2.1, x.2.2])).size = 21 := by simp [agI, ints, h]
abbrev BP (gb gB gS : Nat) (ps ls : Sl) (q : Bool) (b : Bk) (R : List HP) : List HP := blk gb (bookV ps ls q gB gS) :: gm ekI evB gB b.beg :: gm ekP evS gS b.sc :: R
def Z28 (gb : Nat) : List Value := [.pointer (some ⟨gb, 0, none⟩), .int .i64 (0 : Int), .int .i64 (0 : Int), .int .i64 (0 : Int), .int .i64 (0 : Int), .int .i64 (0 : Int), .int .i64 (0 : Int), .int .i64 (0 : Int), .int .i64 (0 : Int), .int .i64 (0 : Int), .int .i64 (0 : Int), .int .i64 (0 : Int), .int .i64 (0 : Int), .int .i64 (0 : Int), .int .i64 (0 : Int), .int .i64 (0 : Int), .int .i64 (0 : Int), .int .i64 (0 : Int), .int .i64 (0 : Int), .int .i64 (0 : Int), .int .i64 (0 : Int), .slice none 0 0, .string (ByteArray.mk #[]), .int .i64 (0 : Int), .int .i64 (0 : Int), .int .i64 (0 : Int), .int .i64 (0 : Int), .int .i64 (0 : Int)]
theorem spl_run0 {gb : Nat} {f : List Int} {x y z u v : Value} {c : Array Value → Prop} (hc : f.length = 19) (h : c (Value.pointer (some ⟨gb, 0, none⟩) :: (ints f ++ [x, y, z, u, v, .int .i64 0, .int .i64 0, .int .i64 0])).toArray) :
    spl (Z28 gb).toArray 1 19 (agI f) fun cs84 => spl (Array.setIfInBounds (Array.setIfInBounds (Array.setIfInBounds cs84 20 x) 21 y) 22 z) 23 2 #[u, v] c := by
  have hl : (ints f).length = 19 := by simp [ints, hc]
  have e1 : (Z28 gb).take 1 ++ (ints f ++ (Z28 gb).drop (1 + 19)) = .pointer (some ⟨gb, 0, none⟩) :: (ints f ++ (Z28 gb).drop 20) := rfl
  have e2 : (((Value.pointer (some ⟨gb, 0, none⟩) :: (ints f ++ (Z28 gb).drop 20)).set 20 x).set 21 y).set 22 z = .pointer (some ⟨gb, 0, none⟩) :: (ints f ++ [x, y, z, .int .i64 0, .int .i64 0, .int .i64 0, .int .i64 0, .int .i64 0]) := by
    simp only [List.set_cons_succ]
    rw [List.set_append_right _ _ (by omega), List.set_append_right _ _ (by omega), List.set_append_right _ _ (by omega), hl]
    rfl
  have e3 : (Value.pointer (some ⟨gb, 0, none⟩) :: (ints f ++ [x, y, z, .int .i64 0, .int .i64 0, .int .i64 0, .int .i64 0, .int .i64 0])).take 23 ++ ([u, v] ++ (Value.pointer (some ⟨gb, 0, none⟩) :: (ints f ++ [x, y, z, .int .i64 0, .int .i64 0, .int .i64 0, .int .i64 0, .int .i64 0])).drop (23 + 2)) = .pointer (some ⟨gb, 0, none⟩) :: (ints f ++ [x, y, z, u, v, .int .i64 0, .int .i64 0, .int .i64 0]) := by
    rw [List.take_succ_cons, List.drop_succ_cons, List.take_append, List.take_of_length_le (by omega : (ints f).length ≤ 22), List.drop_append, List.drop_of_length_le (by omega : (ints f).length ≤ 24), hl]
    simp
  have h2 : spl (Value.pointer (some ⟨gb, 0, none⟩) :: (ints f ++ [x, y, z, .int .i64 0, .int .i64 0, .int .i64 0, .int .i64 0, .int .i64 0])).toArray 23 2 #[u, v] c := spl_V (cs := [u, v]) _ rfl (by simp [hl]) e3 h
  refine spl_V (acc := Z28 gb) (cs := ints f) _ hl (by simp [Z28]) e1 ?_
  rw [List.setIfInBounds_toArray, List.setIfInBounds_toArray, List.setIfInBounds_toArray, e2]
  exact h2
section
variable {w0 w : World} {L R : List HP} {gr gb gB gS : Nat} {ps ls sk : Sl} {q : Bool} {i : Int} {r r' : Rn} {b b' : Bk} {k : Bool → World → Prop} {P : List FnR} {l : List Rb} {Q : Int → Prop} {f : HP → List HP} {φ : Int → Option (List Int × (Int × Int))}
theorem lookB_h {i : Int} {c : Value → World → Prop} (h : St w0 w L) [a : At L (gm ekI evB gB) φ f] (hc : c (evB ((φ i).getD bg0)) w) : Go.Ev.look Go.Proofs.Tryd.prog 59 (.map (some gB)) (.int .i64 i) false w c :=
  gmLook_h (ek := ekI) (ev := evB) (k := i) mapB h hc
theorem fits_s {x0 : List Int × (Int × Int)} (hF : Funcs5 w0 ps P) (hT : Tbl w0 ls l) (hA : Accs P) (hN : ∀ g ∈ P, InI g.needs) (hlen : l.length ≤ 1000000) (hQ0 : ∀ j, Q j → 0 ≤ j ∧ j < l.length) (hQ : ∀ j, Q j → (rowAt l j).kind ≤ 4) (hb : BI P Q b) (h0 : 0 ≤ i) (h1 : i < l.length)
    (hs0 : 0 ≤ (rowAt l i).steps) (hs1 : (rowAt l i).steps ≤ 1048576) (hkQ : ∀ k ∈ kidsL l i, Q k) (hki : ∀ k ∈ kidsL l i, i < k) (hat : b.beg i = some x0) (h : St w0 w (BP gb gB gS ps ls q b R))
    (hk0 : ∀ w', frow P l q i b = none → Ext w0 w' → k false w') (hk1 : ∀ w' b', frow P l q i b = some b' → BI P Q b' → BTo i (kidsL l i) b b' → St w0 w' (BP gb gB gS ps ls q b' R) → k true w') : fits_book_fits (some ⟨gb, 0, none⟩) i w k := by
  have hbat : b.at i = x0 := by unfold Bk.at; rw [hat]; rfl
  obtain ⟨hfi, hin, hlt⟩ := hb.beg i x0 hat
  have hbl : ((b.beg i).getD bg0).1.length = 19 := by rw [hat]; exact hfi.len
  have hbl2 : x0.1.length = 19 := hfi.len
  unfold fits_book_fits fits_book_fits_b
  unfold frow at hk0 hk1
  rw [hbat] at hk0 hk1
  refine joinP_i (fun z w' => ∃ g1 g2, z = (⟨g1, 0, none⟩, ⟨g2, 0, none⟩) ∧ St w0 w' (blk g1 (rbV (rowAt l i)) :: blk g2 (ints (x0.1 ++ [x0.2.1, x0.2.2])) :: BP gb gB gS ps ls q b R)) (fun J hJ0 => ?_) ?_
  · have hJ : ∀ z w', (∃ g1 g2, z = (⟨g1, 0, none⟩, ⟨g2, 0, none⟩) ∧ St w0 w' (blk g1 (rbV (rowAt l i)).toArray.toList :: blk g2 (agI (((b.beg i).getD bg0).1 ++ [((b.beg i).getD bg0).2.1, ((b.beg i).getD bg0).2.2])).toList :: BP gb gB gS ps ls q b R)) → J z w' := by
      intro z w' hz
      rw [hat] at hz
      exact hJ0 z w' hz
    refine drew_h h fun w2 h2 => ?_
    refine nn_i ?_
    refine ldS_h (g := gb) (o := 0 + 1) h2 rfl ?_
    refine tA_h hT h2 h0 h1 fun p hp => ?_
    refine nn_i ?_
    refine ldM_h (g := gb) (o := 0 + 3) h2 rfl ?_
    refine ⟨?_, ?_⟩
    · refine lookB_h h2 ?_
      refine toAB ?_
      refine samec_self ?_
      refine samec_self ?_
      refine ⟨?_, ?_⟩
      · refine newC_h h2 fun g12 w13 h13 => ?_
        refine samec_h (g := gb) (o := 0 + 3) h2 h13 ?_
        refine samecT (e := rbV (rowAt l i)) (fun j v => hp h2) (fun j v => hp h13) (Nat.le_of_eq rbV_len.symm) ?_
        refine samec_h (g := gb) (o := 0 + 1) h2 h13 ?_
        refine newC_h h13 fun g14 w15 h15 => ?_
        refine samec_h (g := gb) (o := 0 + 3) h2 h15 ?_
        refine samecT (e := rbV (rowAt l i)) (fun j v => hp h2) (fun j v => hp h15) (Nat.le_of_eq rbV_len.symm) ?_
        refine samec_h (g := gb) (o := 0 + 1) h2 h15 ?_
        refine stW_h (n := 7) (g := g12) h15 rfl rfl one_rb fun w16 h16 => ?_
        refine samec_h (g := gb) (o := 0 + 3) h2 h16 ?_
        refine stW_h (n := 21) (g := g14) h16 rfl (beg_len hbl) (Ck.one_agI _) fun w17 h17 => ?_
        exact hJ _ _ ⟨g12, g14, rfl, h17.swap⟩
      · refine newC_h h2 fun g18 w19 h19 => ?_
        refine samec_h (g := gb) (o := 0 + 3) h2 h19 ?_
        refine samecT (e := rbV (rowAt l i)) (fun j v => hp h2) (fun j v => hp h19) (Nat.le_of_eq rbV_len.symm) ?_
        refine samec_h (g := gb) (o := 0 + 1) h2 h19 ?_
        refine newC_h h19 fun g20 w21 h21 => ?_
        refine samec_h (g := gb) (o := 0 + 3) h2 h21 ?_
        refine samecT (e := rbV (rowAt l i)) (fun j v => hp h2) (fun j v => hp h21) (Nat.le_of_eq rbV_len.symm) ?_
        refine samec_h (g := gb) (o := 0 + 1) h2 h21 ?_
        refine stW_h (n := 7) (g := g20) h21 rfl rfl one_rb fun w22 h22 => ?_
        refine samec_h (g := gb) (o := 0 + 3) h2 h22 ?_
        refine stW_h (n := 21) (g := g18) h22 rfl (beg_len hbl) (Ck.one_agI _) fun w23 h23 => ?_
        exact hJ _ _ ⟨g20, g18, rfl, h23⟩
    · refine ⟨?_, ?_⟩
      · refine newC_h h2 fun g24 w25 h25 => ?_
        refine samec_h (g := gb) (o := 0 + 3) h2 h25 ?_
        refine samecT (e := rbV (rowAt l i)) (fun j v => hp h2) (fun j v => hp h25) (Nat.le_of_eq rbV_len.symm) ?_
        refine samec_h (g := gb) (o := 0 + 1) h2 h25 ?_
        refine ⟨?_, ?_⟩
        · refine lookB_h h25 ?_
          refine toAB ?_
          refine samecT (e := rbV (rowAt l i)) (fun j v => hp h2) (fun j v => hp h25) (Nat.le_of_eq rbV_len.symm) ?_
          refine samec_h (g := gb) (o := 0 + 1) h2 h25 ?_
          refine newC_h h25 fun g29 w30 h30 => ?_
          refine samec_h (g := gb) (o := 0 + 3) h2 h30 ?_
          refine samecT (e := rbV (rowAt l i)) (fun j v => hp h2) (fun j v => hp h30) (Nat.le_of_eq rbV_len.symm) ?_
          refine samec_h (g := gb) (o := 0 + 1) h2 h30 ?_
          refine stW_h (n := 7) (g := g24) h30 rfl rfl one_rb fun w31 h31 => ?_
          refine samec_h (g := gb) (o := 0 + 3) h2 h31 ?_
          refine stW_h (n := 21) (g := g29) h31 rfl (beg_len hbl) (Ck.one_agI _) fun w32 h32 => ?_
          exact hJ _ _ ⟨g24, g29, rfl, h32.swap⟩
        · refine newC_h h25 fun g33 w34 h34 => ?_
          refine samec_h (g := gb) (o := 0 + 3) h2 h34 ?_
          refine samecT (e := rbV (rowAt l i)) (fun j v => hp h2) (fun j v => hp h34) (Nat.le_of_eq rbV_len.symm) ?_
          refine samec_h (g := gb) (o := 0 + 1) h2 h34 ?_
          refine ⟨?_, ?_⟩
          · refine lookB_h h34 ?_
            refine toAB ?_
            refine samecT (e := rbV (rowAt l i)) (fun j v => hp h2) (fun j v => hp h34) (Nat.le_of_eq rbV_len.symm) ?_
            refine samec_h (g := gb) (o := 0 + 1) h2 h34 ?_
            refine stW_h (n := 7) (g := g24) h34 rfl rfl one_rb fun w38 h38 => ?_
            refine samec_h (g := gb) (o := 0 + 3) h2 h38 ?_
            refine stW_h (n := 21) (g := g33) h38 rfl (beg_len hbl) (Ck.one_agI _) fun w39 h39 => ?_
            exact hJ _ _ ⟨g24, g33, rfl, h39.swap⟩
          · refine stW_h (n := 7) (g := g24) h34 rfl rfl one_rb fun w40 h40 => ?_
            refine samec_h (g := gb) (o := 0 + 3) h2 h40 ?_
            refine lookB_h h40 ?_
            refine toAB ?_
            refine samecT (e := rbV (rowAt l i)) (fun j v => hp h2) (fun j v => hp h40) (Nat.le_of_eq rbV_len.symm) ?_
            refine samec_h (g := gb) (o := 0 + 1) h2 h40 ?_
            refine stW_h (n := 21) (g := g33) h40 rfl (beg_len hbl) (Ck.one_agI _) fun w44 h44 => ?_
            exact hJ _ _ ⟨g24, g33, rfl, h44.swap⟩
      · refine newC_h h2 fun g45 w46 h46 => ?_
        refine samec_h (g := gb) (o := 0 + 3) h2 h46 ?_
        refine samecT (e := rbV (rowAt l i)) (fun j v => hp h2) (fun j v => hp h46) (Nat.le_of_eq rbV_len.symm) ?_
        refine samec_h (g := gb) (o := 0 + 1) h2 h46 ?_
        refine ⟨?_, ?_⟩
        · refine lookB_h h46 ?_
          refine toAB ?_
          refine samecT (e := rbV (rowAt l i)) (fun j v => hp h2) (fun j v => hp h46) (Nat.le_of_eq rbV_len.symm) ?_
          refine samec_h (g := gb) (o := 0 + 1) h2 h46 ?_
          refine newC_h h46 fun g50 w51 h51 => ?_
          refine samec_h (g := gb) (o := 0 + 3) h2 h51 ?_
          refine samecT (e := rbV (rowAt l i)) (fun j v => hp h2) (fun j v => hp h51) (Nat.le_of_eq rbV_len.symm) ?_
          refine samec_h (g := gb) (o := 0 + 1) h2 h51 ?_
          refine stW_h (n := 7) (g := g50) h51 rfl rfl one_rb fun w52 h52 => ?_
          refine samec_h (g := gb) (o := 0 + 3) h2 h52 ?_
          refine stW_h (n := 21) (g := g45) h52 rfl (beg_len hbl) (Ck.one_agI _) fun w53 h53 => ?_
          exact hJ _ _ ⟨g50, g45, rfl, h53⟩
        · refine newC_h h46 fun g54 w55 h55 => ?_
          refine samec_h (g := gb) (o := 0 + 3) h2 h55 ?_
          refine samecT (e := rbV (rowAt l i)) (fun j v => hp h2) (fun j v => hp h55) (Nat.le_of_eq rbV_len.symm) ?_
          refine samec_h (g := gb) (o := 0 + 1) h2 h55 ?_
          refine ⟨?_, ?_⟩
          · refine lookB_h h55 ?_
            refine toAB ?_
            refine samecT (e := rbV (rowAt l i)) (fun j v => hp h2) (fun j v => hp h55) (Nat.le_of_eq rbV_len.symm) ?_
            refine samec_h (g := gb) (o := 0 + 1) h2 h55 ?_
            refine stW_h (n := 7) (g := g54) h55 rfl rfl one_rb fun w59 h59 => ?_
            refine samec_h (g := gb) (o := 0 + 3) h2 h59 ?_
            refine stW_h (n := 21) (g := g45) h59 rfl (beg_len hbl) (Ck.one_agI _) fun w60 h60 => ?_
            exact hJ _ _ ⟨g54, g45, rfl, h60⟩
          · refine stW_h (n := 7) (g := g54) h55 rfl rfl one_rb fun w61 h61 => ?_
            refine samec_h (g := gb) (o := 0 + 3) h2 h61 ?_
            refine lookB_h h61 ?_
            refine toAB ?_
            refine samecT (e := rbV (rowAt l i)) (fun j v => hp h2) (fun j v => hp h61) (Nat.le_of_eq rbV_len.symm) ?_
            refine samec_h (g := gb) (o := 0 + 1) h2 h61 ?_
            refine stW_h (n := 21) (g := g45) h61 rfl (beg_len hbl) (Ck.one_agI _) fun w65 h65 => ?_
            exact hJ _ _ ⟨g54, g45, rfl, h65⟩
  rintro _ w67 ⟨g1, g2, rfl, h⟩
  have hx0 : (ints (x0.1 ++ [x0.2.1, x0.2.2]))[0 + 0 + 0]? = some (.int .i64 (x0.1.getD 0 0)) := by
    have := ints_getD (xs := x0.1 ++ [x0.2.1, x0.2.2]) (i := 0) (by rw [List.length_append]; omega)
    rw [List.getD_eq_getElem?_getD, List.getElem?_append_left (by omega), ← List.getD_eq_getElem?_getD] at this
    exact this
  have hx20 : (ints (x0.1 ++ [x0.2.1, x0.2.2]))[0 + 19 + 1]? = some (.int .i64 x0.2.2) := by
    unfold ints
    rw [List.map_append, List.getElem?_append_right (by simp [hbl2])]
    simp [hbl2]
  have hx19 : (((ints (x0.1 ++ [x0.2.1, x0.2.2])).drop (0 + 19)).take 2).toArray = #[.int .i64 x0.2.1, .int .i64 x0.2.2] := by
    unfold ints
    rw [List.map_append, List.drop_append_of_le_length (by simp [hbl2]), List.drop_of_length_le (by simp [hbl2])]
    rfl
  have hxf : (((ints (x0.1 ++ [x0.2.1, x0.2.2])).drop (0 + 0)).take 19).toArray = agI x0.1 := by
    unfold ints
    rw [List.map_append, List.drop_zero, List.take_append_of_le_length (by simp [hbl2]), List.take_of_length_le (by simp [hbl2])]
  have hxl : (ints (x0.1 ++ [x0.2.1, x0.2.2])).length = 21 := by simp [ints, hbl2]
  refine joinP_i (fun z w' => z = decide ((rowAt l i).fn ≠ x0.1.getD 0 0 ∨ (rowAt l i).inn ≠ x0.2.2) ∧ w' = w67) (fun J hJ => ?_) ?_
  · refine ldI_h (g := g1) (o := 0 + 2) h rfl ?_
    refine ldI_h (g := g2) (o := 0 + 0 + 0) h hx0 ?_
    refine iteB_i (fun hb => hJ _ _ ⟨?_, rfl⟩) fun hb => ?_
    · have : (rowAt l i).fn ≠ x0.1.getD 0 0 := by simpa using hb
      exact (decide_eq_true (.inl this)).symm
    · have hb : (rowAt l i).fn = x0.1.getD 0 0 := by simpa using hb
      refine ldI_h (g := g1) (o := 0 + 1) h rfl ?_
      refine ldI_h (g := g2) (o := 0 + 19 + 1) h hx20 ?_
      refine hJ _ _ ⟨?_, rfl⟩
      rw [Bool.eq_iff_iff]; simp [hb]
  rintro _ w74 ⟨rfl, rfl⟩
  refine iteB_i (fun hb1 => ?_) fun hb1 => ?_
  · rw [if_pos (of_decide_eq_true hb1)] at hk0; exact hk0 _ rfl h.ext
  rw [if_neg (of_decide_eq_false hb1)] at hk0 hk1
  refine ldI_h (g := g1) (o := 0 + 3) h rfl ?_
  refine iteB_i (fun hb2 => ?_) fun hb2 => ?_
  · rw [if_pos (by simpa using hb2)] at hk1; exact hk1 _ _ rfl hb (BTo.refl _ _ _) h.drop.drop
  rw [if_neg (by simpa using hb2)] at hk0 hk1
  refine joinP_i (fun z w' => ∃ g sk, z = some ⟨g, 0, none⟩ ∧ St w0 w' (blk g (runV gb i sk (rn0 l i x0)) :: slc 1 sk (ints (kidsL l i)) :: blk g1 (rbV (rowAt l i)) :: blk g2 (ints (x0.1 ++ [x0.2.1, x0.2.2])) :: BP gb gB gS ps ls q b R)) (fun J hJ0 => ?_) ?_
  · have hJ : ∀ z w', (∃ g sk, z = some ⟨g, 0, none⟩ ∧ St w0 w' (blk g (.pointer (some ⟨gb, 0, none⟩) :: (ints x0.1 ++ [.int .i64 i, .slice sk.a sk.n sk.c, .string (rowAt l i).cl, .int .i64 i, .int .i64 0, .int .i64 0, .int .i64 0, .int .i64 0])) :: slc 1 sk (ints (kidsL l i)) :: blk g1 (rbV (rowAt l i)) :: blk g2 (ints (x0.1 ++ [x0.2.1, x0.2.2])) :: BP gb gB gS ps ls q b R)) → J z w' := by
      rintro z w' ⟨g, sk, hz, hS⟩
      refine hJ0 z w' ⟨g, sk, hz, ?_⟩
      have ec : ByteArray.mk (rowAt l i).cl.data.toList.toArray = (rowAt l i).cl := by rw [Array.toArray_toList]
      unfold runV rn0
      dsimp only
      rw [ec]
      exact hS
    refine drew_h h fun w77 h => ?_
    refine ldA_h (n := 19) (g := g2) (o := 0 + 0) h (by rw [hxl]; decide) ?_
    rw [hxf]
    refine nn_i ?_
    refine ldS_h (g := gb) (o := 0 + 1) h rfl ?_
    refine ldStr_h (g := g1) (o := 0 + 6) h rfl ?_
    refine ⟨?_, ?_⟩
    · refine Kids_s hT h hlen fun sk w83 h2 hn => ?_
      refine samec_h (g := g1) (o := 0 + 6) h h2 (samec_h (g := g2) (o := 0 + 0) h h2 (samec_h (g := g1) (o := 0 + 6) h h2 (samec_h (g := gb) (o := 0 + 1) h h2 (samec_h (g := g2) (o := 0 + 0) h h2 ?_))))
      refine spl_run0 hbl2 ?_
      refine newC_h h2 fun g w87 h2 => ?_
      exact hJ _ _ ⟨g, sk, rfl, h2⟩
    · refine samec_self (samec_self (samec_self ?_))
      refine Kids_s hT h hlen fun sk w83 h2 hn => ?_
      refine samec_h (g := g1) (o := 0 + 6) h h2 (samec_h (g := g2) (o := 0 + 0) h h2 ?_)
      refine spl_run0 hbl2 ?_
      refine newC_h h2 fun g w87 h2 => ?_
      exact hJ _ _ ⟨g, sk, rfl, h2⟩
  rintro _ w95 ⟨gr, sk, rfl, h⟩
  have hrf : (rn0 l i x0).f.length = 19 := hbl2
  refine drew_h h fun w96 h => ?_
  refine nn_i ?_
  refine ldM_h (g := gb) (o := 0 + 4) h rfl ?_
  refine nn_i ?_
  refine ldA_h (n := 2) (g := gr) (o := 0 + 23) h (by rw [run_len hrf]; decide) ?_
  rw [run_last hrf]
  refine ldA_h (n := 2) (g := g2) (o := 0 + 19) h (by rw [hxl]; decide) ?_
  rw [hx19]
  refine spl_V (acc := [.int .i64 0, .int .i64 0, .bool false]) (cs := [.int .i64 x0.2.1, .int .i64 x0.2.2]) [.int .i64 x0.2.1, .int .i64 x0.2.2, .bool false] rfl (by simp) rfl ?_
  refine samec_self (samec_self ?_)
  refine gmPut_h (ek := ekP) (ev := evS) (k := (i, 0)) (y := (x0.2, false)) mapS h fun w103 h => ?_
  generalize hbb : ({ b with sc := upd b.sc (i, 0) (x0.2, false) } : Bk) = bb at hk0 hk1
  have hbs : bb.sc = upd b.sc (i, 0) (x0.2, false) := by rw [← hbb]
  have hbg : bb.beg = b.beg := by rw [← hbb]
  have h : St w0 w103 (FP gr gb gB gS ps ls q i sk (rn0 l i x0) bb (blk g1 (rbV (rowAt l i)) :: blk g2 (ints (x0.1 ++ [x0.2.1, x0.2.2])) :: R)) := by
    unfold FP
    rw [hbs, hbg]
    exact h.perm (by repeat' (first | exact List.Perm.refl _ | refine perm_f 0 rfl ?_ | refine perm_f 1 rfl ?_ | refine perm_f 2 rfl ?_ | refine perm_f 3 rfl ?_ | refine perm_f 4 rfl ?_ | refine perm_f 5 rfl ?_ | refine perm_f 6 rfl ?_ | refine perm_f 7 rfl ?_))
  have hsc : ScI bb.sc := by
    rw [hbs]
    exact hb.sc.upd_of ⟨h0, Int.le_refl _⟩ (hin.imp id fun q => ⟨q, .inl hlt⟩)
  have hBI : BI P Q bb := ⟨hsc, fun j y hy => by
    rw [hbg] at hy
    obtain ⟨a1, a2, a3⟩ := hb.beg j y hy
    exact ⟨a1, a2.imp id fun q => by rw [hbs]; exact isSome_upd q, a3⟩⟩
  have hRI : RI P Q i x0.2 0 (rn0 l i x0) bb [0] := by
    refine ⟨hfi.b, fun _ => hfi, ⟨rfl, false, ?_⟩, rfl, ⟨Int.le_refl _, Int.le_refl _⟩, hkQ⟩
    rw [hbs]; unfold upd; rw [if_pos rfl]
  have hTo : BTo i (kidsL l i) b bb := by rw [← hbb]; exact bto_sc
  have hin2 : ∀ b', BTo i (kidsL l i) bb b' → x0.2 = (-1, 0) ∨ (b'.sc x0.2).isSome = true := fun b' ht => hin.imp id fun q => ht.some _ (by rw [hbs]; exact isSome_upd q)
  generalize hsn : (rowAt l i).steps.toNat = n at hk0 hk1
  have hst : (rowAt l i).steps = n := by omega
  have hn : n ≤ 1048576 := by omega
  refine loopP_of (fun (x : (Bool × Int) × List Nat) w' => ∃ (j : Nat) (sk : Sl) (r : Rn) (b' : Bk), x = ((false, (j : Int)), []) ∧ j ≤ n ∧ St w0 w' (FP gr gb gB gS ps ls q i sk r b' (blk g1 (rbV (rowAt l i)) :: blk g2 (ints (x0.1 ++ [x0.2.1, x0.2.2])) :: R)) ∧ frun P l q i j (rn0 l i x0) bb = some (r, b')) (fun x _ => n - x.1.2.toNat) ⟨0, sk, rn0 l i x0, bb, rfl, by omega, h, rfl⟩ ?_
  rintro _ w106 ⟨j, sk, r, b', rfl, hj, h, hrun⟩ C hC
  obtain ⟨⟨ks, hri⟩, hbi, hto, _, _⟩ := frun_ri hA hN hQ h0 j 0 _ _ _ _ _ (by omega) hRI hBI hki hrun
  rw [Nat.zero_add] at hri
  have hf := hri.fb.len
  refine ldI_h (g := g1) (o := 0 + 5) h rfl ?_
  rw [hst]
  refine iteB_i (fun hb => ?_) fun hb => ?_
  · have hlt : j < n := by have := of_decide_eq_true hb; dsimp only at this; omega
    have hadd := frun_add (P := P) (l := l) (q := q) (row := i) (n := j) (m := n - j) (r := rn0 l i x0) (b := bb)
    rw [show j + (n - j) = n by omega, hrun] at hadd
    obtain ⟨m, hm⟩ : ∃ m, n - j = m + 1 := ⟨n - j - 1, by omega⟩
    rw [hm] at hadd
    dsimp only at hadd
    rw [frun_succ] at hadd
    refine step_s hF hT hA hri hQ0 (by omega) h (fun w' hs h => ?_) fun w' sk' r' b2 hs h => ?_
    · rw [hs] at hadd
      refine iteB_t rfl ?_
      show k false w'
      rw [hadd] at hk0
      exact hk0 _ rfl h.ext
    · refine iteB_f rfl ?_
      have ew : IntKind.wrap .i64 ((j : Int) + 1) = ((j + 1 : Nat) : Int) := by rw [wrap_id ⟨by omega, by omega⟩]; simp
      dsimp only
      rw [ew]
      refine hC _ _ ⟨j + 1, sk', r', b2, rfl, by omega, h, ?_⟩ (by dsimp only; omega)
      rw [frun_add, hrun]
      dsimp only
      rw [frun_succ, hs]; rfl
  · have hjn : j = n := by have := of_decide_eq_false hb; dsimp only at this; omega
    subst hjn
    rw [hrun] at hk0 hk1
    dsimp only at hk0 hk1
    have hsl := h.slen (sz := 1) (s := sk)
    have hskn : sk.n = r.kids.length := by simp [ints] at hsl; omega
    have hclz : (strEqB (ByteArray.mk r.cl.toArray) (ByteArray.mk #[])) = decide (r.cl.length = 0) := by
      rw [strEq_nil, sz_list, Bool.eq_iff_iff]; simp
    refine joinP_i (fun z w' => z = decide (r.kids.length = 0 ∧ r.cl.length = 0 ∧ fends P q (rowAt l i) r b' x0.2 = true) ∧ St w0 w' (BP gb gB gS ps ls q b' R)) (fun J hJ => ?_) ?_
    · have hS : ∀ {w'}, St w0 w' (FP gr gb gB gS ps ls q i sk r b' (blk g1 (rbV (rowAt l i)) :: blk g2 (ints (x0.1 ++ [x0.2.1, x0.2.2])) :: R)) → St w0 w' (BP gb gB gS ps ls q b' R) := fun h => ((h.rm 6 rfl).rm 5 rfl |>.rm 4 rfl |>.rm 0 rfl)
      refine nn_i ?_
      refine ldS_h (g := gr) (o := 0 + 21) h (run_kids hf) ?_
      rw [hskn]
      refine iteB_i (fun hb => ?_) fun hb => ?_
      · have hb : r.kids.length = 0 := by have : ((r.kids.length : Nat) : Int) = 0 := by simpa using hb
                                          omega
        refine nn_i ?_
        refine ldStr_h (g := gr) (o := 0 + 22) h (run_cl hf) ?_
        rw [hclz]
        refine iteB_i (fun hb2 => ?_) fun hb2 => ?_
        · refine ldA_h (n := 2) (g := g2) (o := 0 + 19) h (by rw [hxl]; decide) ?_
          rw [hx19]
          refine ends_s hF hT hA hri hbi (hin2 _ hto) h0 h1 h fun w118 h => ?_
          refine hJ _ _ ⟨?_, hS h⟩
          rw [Bool.eq_iff_iff]; simp [hb, of_decide_eq_true hb2]
        · refine hJ _ _ ⟨?_, hS h⟩
          rw [Bool.eq_iff_iff]; simp; exact fun _ q => absurd (by rw [q]; rfl) (of_decide_eq_false hb2)
      · refine hJ _ _ ⟨?_, hS h⟩
        have hb : ¬ r.kids.length = 0 := by have : ¬ ((r.kids.length : Nat) : Int) = 0 := by simpa using hb
                                            omega
        rw [Bool.eq_iff_iff]; simp; exact fun q => absurd (by rw [q]; rfl) hb
    rintro _ w120 ⟨rfl, h⟩
    show k _ w120
    by_cases hfin : r.kids.length = 0 ∧ r.cl.length = 0 ∧ fends P q (rowAt l i) r b' x0.2 = true
    · rw [decide_eq_true hfin]
      exact hk1 _ b' (by rw [if_pos hfin]) hbi (hTo.trans hto fun _ q => q) h
    · rw [decide_eq_false hfin]
      exact hk0 _ (by rw [if_neg hfin]) h.ext
end
end Go.Proofs.YtgkfbagclkjilaaDoor.Ft
namespace Go.Proofs.YtgkfbagclkjilaaDoor.Ft
open Go Go.Ev Go.Proofs Go.Proofs.YtgkfbagclkjilaaDoor
open Go.Proofs.YtgkfbagclkjilaaDoor.Fr (fTo fOn fPlain fForked fJoined fClosed fChild fRoot fR isB fTo_len fOn_len fPlain_len fForked_len fJoined_len fClosed_len)
open Go.Proofs.YtgkfbagclkjilaaDoor.Ck (opI Walk Accs needsOf isGoes heldL depths stepD handlesOk subBits scopesOk forks)
section
variable {P : List FnR} {l : List Rb} {q : Bool} {row i : Int} {r r' : Rn} {b b' : Bk} {Q : Int → Prop}
structure Kd (r : Rn) (b : Bk) (r' : Rn) (b' : Bk) : Prop where
  keep : ∀ k, (b.beg k).isSome = true → (b'.beg k).isSome = true
  kids : ∀ k ∈ r.kids, k ∈ r'.kids ∨ (b'.beg k).isSome = true
theorem Kd.refl (e : r'.kids = r.kids) (e2 : b'.beg = b.beg) : Kd r b r' b' := ⟨fun k h => by rw [e2]; exact h, fun k h => .inl (by rw [e]; exact h)⟩
theorem Kd.trans {r2 : Rn} {b2 : Bk} (h : Kd r b r' b') (k : Kd r' b' r2 b2) : Kd r b r2 b2 :=
  ⟨fun j q => k.keep j (h.keep j q), fun j q => by rcases h.kids j q with q | q; · exact k.kids j q
                                                   · exact .inr (k.keep j q)⟩
theorem fact_kd {x : List Int} (hs : fact P l q row x r b = some (r', b')) : Kd r b r' b' := by
  unfold fact at hs
  split at hs
  · split at hs
    · cases hs
    · rename_i k ks hk
      cases hs
      refine ⟨fun j hj => isSome_upd hj, fun j hj => ?_⟩
      rw [hk] at hj
      rcases List.mem_cons.1 hj with rfl | hj
      · right; show (upd b.beg _ _ _).isSome = true; unfold upd; rw [if_pos rfl]; rfl
      · exact .inl hj
  split at hs
  · split at hs
    · cases hs
    split at hs
    · cases hs; exact .refl rfl rfl
    · cases hs; exact .refl rfl rfl
  split at hs
  · cases hs; exact .refl rfl rfl
  split at hs
  · split at hs
    · cases hs
    split at hs
    · cases hs
    · cases hs; exact .refl rfl rfl
  split at hs
  · cases hs; exact .refl rfl rfl
  split at hs
  · cases hs; exact .refl rfl rfl
  · cases hs; exact .refl rfl rfl
theorem fstp_kd (hs : fstp P l q row r b = some (r', b')) : Kd r b r' b' := by
  unfold fstp at hs
  split at hs
  · cases hs
  split at hs
  · cases hs; exact .refl rfl rfl
  · exact fact_kd hs
theorem frun_kd : ∀ {n : Nat} {r r' : Rn} {b b' : Bk}, frun P l q row n r b = some (r', b') → Kd r b r' b'
  | 0, r, r', b, b', h => by cases h; exact .refl rfl rfl
  | n + 1, r, r', b, b', h => by
    rw [frun_succ] at h
    split at h
    · cases h
    · rename_i r1 b1 hst
      exact (fstp_kd hst).trans (frun_kd h)
def Known (l : List Rb) (j : Int) (b : Bk) : Prop := ∀ m : Int, 0 ≤ m → m < l.length → (m = 0 ∨ (rowAt l m).par < j) → (b.beg m).isSome = true
theorem row_par (h : TRow l i) (hi : i ≠ 0) (h0 : 0 ≤ i) : 0 ≤ (rowAt l i).par ∧ (rowAt l i).par < i ∧ (rowAt l (rowAt l i).par).kind ≠ 0 := by
  have hp := h.place
  have hst := h.state
  unfold tPlace at hp
  rw [if_neg hi] at hp
  simp only [Bool.and_eq_true, decide_eq_true_eq] at hp
  unfold tState at hst
  simp only [Bool.and_eq_true, Bool.or_eq_true] at hst
  refine ⟨hp.1, hp.2.1, ?_⟩
  rcases hst.2.2 with e | e
  · exact absurd (by simpa using e) hi
  · simpa using e.1
theorem row_span (h : TRow l i) : 0 ≤ (rowAt l i).inn ∧ 0 ≤ (rowAt l i).fn ∧ (rowAt l i).fn < 32 ∧ 0 ≤ (rowAt l i).kind ∧ (rowAt l i).kind ≤ 4 ∧ 0 ≤ (rowAt l i).steps ∧ (rowAt l i).steps ≤ 1048576 := by
  have hp := h.span
  unfold tSpan at hp
  simp only [Bool.and_eq_true, decide_eq_true_eq] at hp
  exact ⟨hp.1, hp.2.2.1, hp.2.2.2.1, hp.2.2.2.2.1, hp.2.2.2.2.2.1, hp.2.2.2.2.2.2.1, hp.2.2.2.2.2.2.2⟩
theorem tr_int (hT : ∀ i : Nat, i < l.length → TRow l i) (h0 : 0 ≤ i) (h1 : i < l.length) : TRow l i := by
  have := hT i.toNat (by omega)
  rwa [Int.toNat_of_nonneg h0] at this
theorem kids_gt (hT : ∀ i : Nat, i < l.length → TRow l i) : ∀ k ∈ kidsL l i, 0 ≤ i → i < k := by
  intro k hk h0
  obtain ⟨h1, h2, h3⟩ := mem_kids.1 hk
  have ht := tr_int hT h1 h2
  by_cases e : k = 0
  · have hp := ht.place
    unfold tPlace at hp
    rw [if_pos e] at hp
    have : (rowAt l k).par = -1 := by simpa using hp
    omega
  · have := row_par ht e h1; omega
theorem frow_kd (h : frow P l q i b = some b') : ∀ k, (b.beg k).isSome = true → (b'.beg k).isSome = true := by
  unfold frow at h
  split at h
  · cases h
  split at h
  · cases h; exact fun _ h => h
  split at h
  · cases h
  · rename_i r b2 hrun
    split at h
    · cases h; exact (frun_kd hrun).keep
    · cases h
theorem frow_known (hT : ∀ i : Nat, i < l.length → TRow l i) (h0 : 0 ≤ i) (hK : Known l i b) (h : frow P l q i b = some b') : Known l (i + 1) b' := by
  intro m hm0 hm1 hm
  have hkeep := frow_kd h m
  by_cases e : m = 0 ∨ (rowAt l m).par < i
  · exact hkeep (hK m hm0 hm1 e)
  have hmp : (rowAt l m).par = i := by omega
  have hm0' : m ≠ 0 := fun e' => e (.inl e')
  have hpk := (row_par (tr_int hT hm0 hm1) hm0' hm0).2.2
  rw [hmp] at hpk
  have hmk : m ∈ kidsL l i := mem_kids.2 ⟨hm0, hm1, hmp⟩
  unfold frow at h
  split at h
  · cases h
  try rw [if_neg hpk] at h
  split at h
  · cases h
  · rename_i r b2 hrun
    split at h
    · rename_i hf
      cases h
      rcases (frun_kd hrun).kids m hmk with hq | hq
      · have : r.kids = [] := List.eq_nil_of_length_eq_zero hf.1
        rw [this] at hq; cases hq
      · exact hq
    · cases h
theorem fi_root (hA : Accs P) (hN : ∀ g ∈ P, InI g.needs) : FI P Q fRoot 0 := by
  obtain ⟨g, hg⟩ : ∃ g, P[0]? = some g := ⟨_, List.getElem?_eq_getElem hA.n0⟩
  have hgm := List.mem_of_getElem? hg
  have hnd : g.needs = 0 := by rw [← Ck.needs_get (P := P) (n := 0) (f := g) (by simpa using hg)]; exact hA.root
  refine ⟨rfl, by decide, g, hg, 0, ?_, fun h hh ht => ?_⟩
  · have := Ck.walk_start (hA.all g hgm) (hN g hgm)
    rw [hnd] at this
    exact this
  · exfalso
    have : ∀ k : Nat, k < 8 → tb 0 k = false := by decide
    rw [this h hh] at ht; cases ht
theorem bi_root (hA : Accs P) (hN : ∀ g ∈ P, InI g.needs) : BI P Q bk0 := by
  refine ⟨⟨fun s x hx => by cases hx⟩, fun i x hx => ?_⟩
  unfold bk0 upd at hx
  dsimp only at hx
  split at hx
  · rename_i e
    cases hx
    exact ⟨fi_root hA hN, .inl rfl, by rw [e]; decide⟩
  · cases hx
theorem known_root (hT : ∀ i : Nat, i < l.length → TRow l i) : Known l 0 bk0 := by
  intro m h0 h1 hm
  have hz : m = 0 := by
    rcases hm with e | e
    · exact e
    · by_cases e0 : m = 0
      · exact e0
      · have := row_par (tr_int hT h0 h1) e0 h0; omega
  subst hz
  rfl
end
end Go.Proofs.YtgkfbagclkjilaaDoor.Ft
