/-
  Layer 8, in plain terms: of a row that has ended no other number, or number of steps, fits, and of no row another function, or scope.
  Layer 8: of a row that has ended no other number, or number of steps, fits, and of no row another function, or scope: the law.
-/
import Derived.Test.YtgkfbagclkjilaaDoorPTurned6
set_option linter.unusedSimpArgs false
set_option linter.unusedVariables false
set_option maxRecDepth 100000
namespace Go.Proofs.YtgkfbagclkjilaaDoor.Ft
open Go Go.Ev Go.Proofs Go.Proofs.YtgkfbagclkjilaaDoor
open Go.Proofs.YtgkfbagclkjilaaDoor.Fr (fTo fOn fPlain fForked fJoined fClosed fChild fRoot fR isB fTo_len fOn_len fPlain_len fForked_len fJoined_len fClosed_len)
open Go.Proofs.YtgkfbagclkjilaaDoor.Ck (opI Walk Accs needsOf isGoes heldL depths stepD handlesOk subBits scopesOk forks)
section
variable {P : List FnR} {l m : List Rb} {t row i : Int} {r r' : Rn} {b b' c c' : Bk} {q : Bool} {inn : Int × Int} {n : Nat} {ks : List Int}
structure Tw (l m : List Rb) (t : Int) : Prop where
  len : m.length = l.length
  par : ∀ i, (rowAt m i).par = (rowAt l i).par
  kind : ∀ i, (rowAt m i).kind = (rowAt l i).kind
  same : ∀ i, 0 ≤ i → i ≠ t → rowAt m i = rowAt l i
theorem Tw.kids (h : Tw l m t) : kidsL m i = kidsL l i := by
  unfold kidsL
  rw [h.len]
  congr 1
  refine List.filter_congr fun k _ => ?_
  rw [h.par]
theorem fact_same {x : List Int} (hk : ∀ i, (rowAt m i).kind = (rowAt l i).kind) (hv : ∀ i, (rowAt m i).v = (rowAt l i).v) : fact P m q row x r b = fact P l q row x r b := by
  unfold fact
  rw [hk, hv]
theorem fstp_same (hk : ∀ i, (rowAt m i).kind = (rowAt l i).kind) (hv : ∀ i, (rowAt m i).v = (rowAt l i).v) : fstp P m q row r b = fstp P l q row r b := by
  unfold fstp
  rw [fact_same hk hv]
theorem frun_same (hk : ∀ i, (rowAt m i).kind = (rowAt l i).kind) (hv : ∀ i, (rowAt m i).v = (rowAt l i).v) : ∀ {n : Nat} {r : Rn} {b : Bk}, frun P m q row n r b = frun P l q row n r b
  | 0, r, b => rfl
  | n + 1, r, b => by
    rw [frun_succ, frun_succ, fstp_same hk hv]
    cases fstp P l q row r b with
    | none => rfl
    | some x => exact frun_same hk hv
theorem fgo_upto : ∀ {n : Nat} {i : Int} {b : Bk}, i ≤ t → t < i + n → (∀ j b, i ≤ j → j < t → frow P m q j b = frow P l q j b) → fgo P l q n i b = (0, 0) →
    ∃ b' b'', frow P l q t b' = some b'' ∧ (fgo P m q n i b = (0, 0) → ∃ b3, frow P m q t b' = some b3)
  | 0, i, b, h1, h2, _, _ => by omega
  | n + 1, i, b, h1, h2, hs, h => by
    rw [fgo_succ] at h
    split at h
    · cases h
    · rename_i b1 hb
      by_cases e : i = t
      · subst e
        refine ⟨b, b1, hb, fun h' => ?_⟩
        rw [fgo_succ] at h'
        split at h'
        · cases h'
        · exact ⟨_, by assumption⟩
      · obtain ⟨x, y, h3, h4⟩ := fgo_upto (by omega) (by omega) (fun j b hj ht => hs j b (by omega) ht) h
        refine ⟨x, y, h3, fun h' => h4 ?_⟩
        rw [fgo_succ, hs i b (by omega) (by omega), hb] at h'
        exact h'
theorem frow_at (h : frow P l q i b = some b') : (rowAt l i).fn = (b.at i).1.getD 0 0 ∧ (rowAt l i).inn = (b.at i).2.2 := by
  unfold frow at h
  split at h
  · cases h
  · rename_i hn
    exact ⟨Classical.byContradiction fun q => hn (.inl q), Classical.byContradiction fun q => hn (.inr q)⟩
theorem frow_same (hk : ∀ i, (rowAt m i).kind = (rowAt l i).kind) (hv : ∀ i, (rowAt m i).v = (rowAt l i).v) (hks : kidsL m i = kidsL l i) (he : rowAt m i = rowAt l i) : frow P m q i b = frow P l q i b := by
  unfold frow rn0
  rw [he, hks, frun_same hk hv]
theorem frun_over (hk : r.kind ≠ 0) : frun P l q row (n + 1) r b = none := by
  rw [frun_succ]
  unfold fstp
  rw [if_pos hk]
theorem frun_steps {n' : Nat} {r1 r2 : Rn} {b1 b2 : Bk} (h1 : frun P l q row n r b = some (r1, b1)) (h2 : frun P l q row n' r b = some (r2, b2)) (e1 : r1.kind ≠ 0) (e2 : r2.kind ≠ 0) : n = n' := by
  have key : ∀ {n n' : Nat} {r1 r2 : Rn} {b1 b2 : Bk}, frun P l q row n r b = some (r1, b1) → frun P l q row n' r b = some (r2, b2) → r1.kind ≠ 0 → ¬ n < n' := by
    intro n n' r1 r2 b1 b2 h1 h2 e1 hlt
    rw [show n' = n + ((n' - n - 1) + 1) by omega, frun_add, h1] at h2
    dsimp only at h2
    rw [frun_over e1] at h2
    cases h2
  have := key h1 h2 e1
  have := key h2 h1 e2
  omega
theorem frow_ended (h : frow P l q i b = some b') (hk : (rowAt l i).kind = 2 ∨ (rowAt l i).kind = 3) :
    ∃ r1 b1, frun P l q i (rowAt l i).steps.toNat (rn0 l i (b.at i)) { b with sc := upd b.sc (i, 0) ((b.at i).2, false) } = some (r1, b1) ∧ r1.kind = (rowAt l i).kind ∧ r1.v = (rowAt l i).v := by
  unfold frow at h
  split at h
  · cases h
  rw [if_neg (by omega)] at h
  split at h
  · cases h
  · rename_i r1 b1 hr
    split at h
    · rename_i hf
      refine ⟨r1, b1, hr, ?_⟩
      have h3 := hf.2.2
      unfold fends at h3
      rw [if_pos hk] at h3
      simpa using h3
    · cases h
theorem turned_same (hT : Tw l m t) (hv : ∀ i, (rowAt m i).v = (rowAt l i).v) (h0 : 0 ≤ t) (h1 : t < l.length) (hl : fgo P l q l.length 0 bk0 = (0, 0)) (hm : fgo P m q m.length 0 bk0 = (0, 0)) :
    ∃ b b' b'', frow P l q t b = some b' ∧ frow P m q t b = some b'' := by
  obtain ⟨x, y, h3, h4⟩ := fgo_upto (m := m) (t := t) h0 (by omega) (fun j b hj ht => frow_same hT.kind hv hT.kids (hT.same j hj (by omega))) hl
  rw [← hT.len] at h4
  obtain ⟨z, hz⟩ := h4 hm
  exact ⟨x, y, z, h3, hz⟩
theorem turned_fn (hT : Tw l m t) (hv : ∀ i, (rowAt m i).v = (rowAt l i).v) (h0 : 0 ≤ t) (h1 : t < l.length) (hl : fgo P l q l.length 0 bk0 = (0, 0)) (hm : fgo P m q m.length 0 bk0 = (0, 0)) : (rowAt m t).fn = (rowAt l t).fn ∧ (rowAt m t).inn = (rowAt l t).inn := by
  obtain ⟨b, b', b'', h2, h3⟩ := turned_same hT hv h0 h1 hl hm
  have a := frow_at h2
  have c := frow_at h3
  exact ⟨c.1.trans a.1.symm, c.2.trans a.2.symm⟩
theorem turned_steps (hT : Tw l m t) (hv : ∀ i, (rowAt m i).v = (rowAt l i).v) (hcl : (rowAt m t).cl = (rowAt l t).cl) (h0 : 0 ≤ t) (h1 : t < l.length) (hk : (rowAt l t).kind = 2 ∨ (rowAt l t).kind = 3) (hs : 0 ≤ (rowAt l t).steps) (hs' : 0 ≤ (rowAt m t).steps) (hl : fgo P l q l.length 0 bk0 = (0, 0)) (hm : fgo P m q m.length 0 bk0 = (0, 0)) : (rowAt m t).steps = (rowAt l t).steps := by
  obtain ⟨b, b', b'', h2, h3⟩ := turned_same hT hv h0 h1 hl hm
  obtain ⟨r1, b1, e1, k1, v1⟩ := frow_ended h2 hk
  obtain ⟨r2, b2, e2, k2, v2⟩ := frow_ended h3 (by rw [hT.kind]; exact hk)
  unfold rn0 at e1 e2
  rw [hT.kids, hcl, frun_same hT.kind hv] at e2
  rw [hT.kind] at k2
  have := frun_steps e1 e2 (by omega) (by omega)
  omega
def Nt (t j : Int) : Prop := 0 ≤ j ∧ j ≠ t
theorem fact_take {x K : List Int} (hK : x.getD 0 0 = 8 → K = r.kids.take 1) (hs : fact P l q row x r b = some (r', b')) : ∃ K', fact P l q row x { r with kids := K } b = some ({ r' with kids := K' }, b') := by
  unfold fact at hs ⊢
  split at hs
  · rename_i h8
    split at hs
    · cases hs
    · rename_i k kr hk
      cases hs
      rw [if_pos h8, hK h8, hk]
      exact ⟨[], rfl⟩
  rename_i h8
  rw [if_neg h8]
  split at hs
  · rename_i h9
    rw [if_pos h9]
    split at hs
    · cases hs
    rename_i hk
    rw [if_neg hk]
    split at hs
    · rename_i hb; cases hs; rw [if_pos hb]; exact ⟨K, rfl⟩
    · rename_i hb; cases hs; rw [if_neg hb]; exact ⟨K, rfl⟩
  rename_i h9
  rw [if_neg h9]
  split at hs
  · rename_i h11; cases hs; rw [if_pos h11]; exact ⟨K, rfl⟩
  rename_i h11
  rw [if_neg h11]
  split at hs
  · rename_i h12
    rw [if_pos h12]
    split at hs
    · cases hs
    · rename_i u us hc
      split at hs
      · cases hs
      · rename_i hq
        cases hs
        dsimp only
        rw [hc]
        dsimp only
        rw [if_neg hq]
        exact ⟨K, rfl⟩
  rename_i h12
  rw [if_neg h12]
  split at hs
  · rename_i h13; cases hs; rw [if_pos h13]; exact ⟨K, rfl⟩
  rename_i h13
  rw [if_neg h13]
  split at hs
  · rename_i h14; cases hs; rw [if_pos h14]; exact ⟨K, rfl⟩
  · rename_i h14; cases hs; rw [if_neg h14]; exact ⟨K, rfl⟩
theorem fstp_take {K : List Int} (hK : (insAt P r.f).getD 0 0 = 8 → K = r.kids.take 1) (hs : fstp P l q row r b = some (r', b')) : ∃ K', fstp P l q row { r with kids := K } b = some ({ r' with kids := K' }, b') := by
  unfold fstp at hs ⊢
  split at hs
  · cases hs
  rename_i h0
  rw [if_neg h0]
  split at hs
  · rename_i hp; cases hs; rw [if_pos hp]; exact ⟨K, rfl⟩
  · rename_i hp; rw [if_neg hp]; exact fact_take hK hs
theorem ri_kids {Q : Int → Prop} {K K' : List Int} (h : RI P Q row inn n { r with kids := K } b ks) (hk : ∀ k ∈ K', Q k) : RI P Q row inn n { r with kids := K' } b ks :=
  ⟨h.fb, h.fi, h.own, h.last, h.op, hk⟩
theorem step_nt (hA : Accs P) (hN : ∀ g ∈ P, InI g.needs) (hk4 : ∀ j, (rowAt l j).kind ≤ 4) (h0 : 0 ≤ row) (hn : (n : Int) < 1048576) (h : RI P (Nt t) row inn n { r with kids := [] } b ks) (hb : BI P (Nt t) b) (hkd : ∀ k ∈ r.kids, row < k)
    (hne : (insAt P r.f).getD 0 0 = 8 → r.kids.head? ≠ some t) (hs : fstp P l q row r b = some (r', b')) : (∃ ks', RI P (Nt t) row inn (n + 1) { r' with kids := [] } b' ks') ∧ BI P (Nt t) b' := by
  by_cases h8 : (insAt P r.f).getD 0 0 = 8
  · obtain ⟨K', hs'⟩ := fstp_take (K := r.kids.take 1) (fun _ => rfl) hs
    have hR : RI P (Nt t) row inn n { r with kids := r.kids.take 1 } b ks := ri_kids h fun k hk => by
      have hm := hkd k (List.mem_of_mem_take hk)
      refine ⟨by omega, fun e => hne h8 ?_⟩
      cases hq : r.kids with
      | nil => rw [hq] at hk; cases hk
      | cons a u => rw [hq] at hk; simp at hk; subst hk; rw [e]; rfl
    obtain ⟨_, ⟨ks', h2⟩, h3, _⟩ := fstp_ri hA hN (fun j _ => hk4 j) h0 hn hR hb (fun k hk => hkd k (List.mem_of_mem_take hk)) hs'
    exact ⟨⟨ks', ri_kids (r := r') h2 (fun k hk => by cases hk)⟩, h3⟩
  · obtain ⟨K', hs'⟩ := fstp_take (K := []) (fun q => absurd q h8) hs
    obtain ⟨_, ⟨ks', h2⟩, h3, _⟩ := fstp_ri hA hN (fun j _ => hk4 j) h0 hn h hb (fun k hk => by cases hk) hs'
    exact ⟨⟨ks', ri_kids (r := r') h2 (fun k hk => by cases hk)⟩, h3⟩
theorem fstp_nt {d : Int} (hA : Accs P) (hT : Tw l m t) (hfi : r.kind = 0 → FI P (Nt t) r.f d) : fstp P m q row r b = fstp P l q row r b := by
  unfold fstp
  by_cases hk : r.kind ≠ 0
  · rw [if_pos hk, if_pos hk]
  rw [if_neg hk, if_neg hk]
  obtain ⟨g, hv, ha⟩ := (hfi (by omega)).at hA
  split
  · rfl
  unfold fact
  by_cases h8 : (insAt P r.f).getD 0 0 = 8
  · rw [if_pos h8, if_pos h8]
  rw [if_neg h8, if_neg h8]
  by_cases h9 : (insAt P r.f).getD 0 0 = 9 ∨ (insAt P r.f).getD 0 0 = 10
  · obtain ⟨_, _, hq1, hq2⟩ := fat_join ha h9
    rw [hT.same _ hq1 hq2]
  · rw [if_neg h9, if_neg h9]
theorem fact_nok {x : List Int} (hs : fact P l q row x r b = some (r', b')) (hk : t ∉ r.kids) : b'.beg t = b.beg t ∧ t ∉ r'.kids := by
  unfold fact at hs
  split at hs
  · split at hs
    · cases hs
    · rename_i k kr he
      cases hs
      rw [he] at hk
      refine ⟨?_, fun q => hk (List.mem_cons_of_mem _ q)⟩
      show upd b.beg k _ t = _
      unfold upd
      rw [if_neg (fun e => hk (by rw [e]; simp))]
  split at hs
  · split at hs
    · cases hs
    split at hs
    · cases hs; exact ⟨rfl, hk⟩
    · cases hs; exact ⟨rfl, hk⟩
  split at hs
  · cases hs; exact ⟨rfl, hk⟩
  split at hs
  · split at hs
    · cases hs
    split at hs
    · cases hs
    · cases hs; exact ⟨rfl, hk⟩
  split at hs
  · cases hs; exact ⟨rfl, hk⟩
  split at hs
  · cases hs; exact ⟨rfl, hk⟩
  · cases hs; exact ⟨rfl, hk⟩
theorem fstp_nok (hs : fstp P l q row r b = some (r', b')) (hk : t ∉ r.kids) : b'.beg t = b.beg t ∧ t ∉ r'.kids := by
  unfold fstp at hs
  split at hs
  · cases hs
  split at hs
  · cases hs; exact ⟨rfl, hk⟩
  · exact fact_nok hs hk
theorem frun_nok : ∀ {n : Nat} {r r' : Rn} {b b' : Bk}, frun P l q row n r b = some (r', b') → t ∉ r.kids → b'.beg t = b.beg t
  | 0, r, r', b, b', h, hk => by cases h; rfl
  | n + 1, r, r', b, b', h, hk => by
    rw [frun_succ] at h
    split at h
    · cases h
    · rename_i r1 b1 hst
      obtain ⟨h1, h2⟩ := fstp_nok hst hk
      rw [frun_nok h h2, h1]
theorem fstp_kids (hs : fstp P l q row r b = some (r', b')) : (r'.kids = r.kids ∧ b'.beg = b.beg) ∨ ((insAt P r.f).getD 0 0 = 8 ∧ ∃ k, r.kids = k :: r'.kids ∧ b'.beg = upd b.beg k (fChild r.f ((insAt P r.f).getD 4 0) (needsOf P ((insAt P r.f).getD 4 0)), r.last)) := by
  unfold fstp at hs
  split at hs
  · cases hs
  split at hs
  · cases hs; exact .inl ⟨rfl, rfl⟩
  unfold fact at hs
  split at hs
  · rename_i h8
    split at hs
    · cases hs
    · rename_i k kr he
      cases hs
      exact .inr ⟨h8, k, he, rfl⟩
  split at hs
  · split at hs
    · cases hs
    split at hs
    · cases hs; exact .inl ⟨rfl, rfl⟩
    · cases hs; exact .inl ⟨rfl, rfl⟩
  split at hs
  · cases hs; exact .inl ⟨rfl, rfl⟩
  split at hs
  · split at hs
    · cases hs
    split at hs
    · cases hs
    · cases hs; exact .inl ⟨rfl, rfl⟩
  split at hs
  · cases hs; exact .inl ⟨rfl, rfl⟩
  split at hs
  · cases hs; exact .inl ⟨rfl, rfl⟩
  · cases hs; exact .inl ⟨rfl, rfl⟩
theorem fstp_kind (hs : fstp P l q row r b = some (r', b')) : r.kind = 0 := by
  unfold fstp at hs
  split at hs
  · cases hs
  · omega
theorem frun_both (hA : Accs P) (hN : ∀ g ∈ P, InI g.needs) (hT : Tw l m t) (hk4 : ∀ j, (rowAt l j).kind ≤ 4) (h0 : 0 ≤ row) : ∀ {N n : Nat} {r r1 r2 : Rn} {b b1 b2 : Bk} {ks : List Int}, n + N ≤ 1048576 → RI P (Nt t) row inn n { r with kids := [] } b ks → BI P (Nt t) b → (∀ k ∈ r.kids, row < k) → r.kids.Nodup →
    frun P l q row N r b = some (r1, b1) → frun P m q row N r b = some (r2, b2) → (r1 = r2 ∧ b1 = b2 ∧ BI P (Nt t) b1) ∨ (t ∈ r.kids ∧ ∃ x, b1.beg t = some x ∧ b2.beg t = some x ∧ FI P (Nt t) x.1 0)
  | 0, n, r, r1, r2, b, b1, b2, ks, hn, hr, hb, hk, hd, h1, h2 => by
    cases h1; cases h2
    exact .inl ⟨rfl, rfl, hb⟩
  | N + 1, n, r, r1, r2, b, b1, b2, ks, hn, hr, hb, hk, hd, h1, h2 => by
    rw [frun_succ] at h1 h2
    rw [fstp_nt (r := r) hA hT hr.fi] at h2
    split at h1
    · cases h1
    · rename_i rA bA hst
      rw [hst] at h2
      dsimp only at h2
      have hk0 := fstp_kind hst
      rcases fstp_kids hst with ⟨e1, e2⟩ | ⟨h8, k, e1, e2⟩
      · by_cases h8 : (insAt P r.f).getD 0 0 = 8 ∧ r.kids.head? = some t
        · exfalso
          unfold fstp at hst
          rw [if_neg (by omega)] at hst
          obtain ⟨g, hv, ha⟩ := (hr.fi hk0).at hA
          have ha : FAt P (Nt t) r.f ((ks.length : Int) - 1) g hv (insAt P r.f) := ha
          split at hst
          · rename_i hp
            rcases plain_keep ha.chk (hr.fi hk0).len (fat_pc ha).1 (fat_pc ha).2 hp with ⟨hgo, hkp⟩ | ⟨h7, h6, hkp⟩
            · unfold isGoes opI at hgo; rw [h8.1] at hgo; revert hgo; decide
            · have h9 : opI (insAt P r.f) = 8 := h8.1
              omega
          · unfold fact at hst
            rw [if_pos h8.1] at hst
            split at hst
            · cases hst
            · rename_i k kr he
              cases hst
              have := congrArg List.length (e1.trans he)
              simp at this
        · obtain ⟨⟨ks', h3⟩, h4⟩ := step_nt hA hN hk4 h0 (by omega) hr hb hk (fun a => fun e => h8 ⟨a, e⟩) hst
          have := frun_both hA hN hT hk4 h0 (by omega) h3 h4 (by rw [e1]; exact hk) (by rw [e1]; exact hd) h1 h2
          rw [e1] at this
          exact this
      · by_cases he : k = t
        · subst he
          rw [e1] at hd
          have hnk := (List.nodup_cons.1 hd).1
          refine .inr ⟨by rw [e1]; simp, (fChild r.f ((insAt P r.f).getD 4 0) (needsOf P ((insAt P r.f).getD 4 0)), r.last), ?_, ?_, ?_⟩
          · rw [frun_nok h1 hnk, e2]; unfold upd; rw [if_pos rfl]
          · rw [frun_nok h2 hnk, e2]; unfold upd; rw [if_pos rfl]
          · obtain ⟨g, hv, ha⟩ := (hr.fi hk0).at hA
            exact fi_child hA hN (hr.fi hk0) ha h8
        · obtain ⟨⟨ks', h3⟩, h4⟩ := step_nt hA hN hk4 h0 (by omega) hr hb hk (fun _ => by rw [e1]; simpa using he) hst
          have := frun_both hA hN hT hk4 h0 (by omega) h3 h4 (fun j hj => hk j (by rw [e1]; simp [hj])) (by rw [e1] at hd; exact (List.nodup_cons.1 hd).2) h1 h2
          rcases this with q | ⟨q, q2⟩
          · exact .inl q
          · exact .inr ⟨by rw [e1]; simp [q], q2⟩
theorem kids_nodup : (kidsL l i).Nodup := by
  unfold kidsL
  exact List.Pairwise.map _ (fun a b (e : a ≠ b) q => e (by have q : (a : Int) = (b : Int) := q; omega)) (List.Pairwise.filter _ List.nodup_range)
theorem ri_start {Q : Int → Prop} {x : List Int × (Int × Int)} (hb : BI P Q b) (hi : 0 ≤ i) (hx : b.beg i = some x) (K : List Int) (hK : ∀ k ∈ K, Q k) :
    RI P Q i x.2 0 { rn0 l i x with kids := K } { b with sc := upd b.sc (i, 0) (x.2, false) } [0] ∧ BI P Q { b with sc := upd b.sc (i, 0) (x.2, false) } := by
  obtain ⟨hF, hin, hlt⟩ := hb.beg i x hx
  refine ⟨⟨hF.b, fun _ => hF, ⟨rfl, false, ?_⟩, rfl, ⟨Int.le_refl _, Int.le_refl _⟩, hK⟩, bi_sc hb (hb.sc.upd_of ⟨hi, Int.le_refl _⟩ ?_)⟩
  · show upd _ _ _ _ = _
    unfold upd; rw [if_pos rfl]
  · exact hin.imp id fun q => ⟨q, .inl hlt⟩
theorem frow_both (hA : Accs P) (hN : ∀ g ∈ P, InI g.needs) (hT : Tw l m t) (hR : ∀ i : Nat, i < l.length → TRow l i) (hk4 : ∀ j, (rowAt l j).kind ≤ 4) (h0 : 0 ≤ i) (h1 : i < l.length) (hne : i ≠ t) {b1 b2 : Bk} (hb : BI P (Nt t) b) (hx : (b.beg i).isSome = true)
    (hl : frow P l q i b = some b1) (hm : frow P m q i b = some b2) : (b1 = b2 ∧ BI P (Nt t) b1) ∨ (t ∈ kidsL l i ∧ ∃ x, b1.beg t = some x ∧ b2.beg t = some x ∧ FI P (Nt t) x.1 0) := by
  obtain ⟨x, hx⟩ := Option.isSome_iff_exists.1 hx
  have hat : b.at i = x := by unfold Bk.at; rw [hx]; rfl
  have hsp := row_span (tr_int hR h0 h1)
  unfold frow at hl hm
  rw [hat] at hl hm
  rw [hT.same i h0 hne] at hm
  split at hl
  · cases hl
  rename_i hq
  rw [if_neg hq] at hm
  split at hl
  · rename_i hz
    rw [if_pos hz] at hm
    cases hl; cases hm
    exact .inl ⟨rfl, hb⟩
  rename_i hz
  rw [if_neg hz] at hm
  have er : rn0 m i x = rn0 l i x := by unfold rn0; rw [hT.kids, hT.same i h0 hne]
  rw [er] at hm
  obtain ⟨hri, hbi⟩ := ri_start (l := l) (Q := Nt t) hb h0 hx [] (fun k hk => by cases hk)
  split at hl
  · cases hl
  rename_i r1 c1 hr1
  split at hm
  · cases hm
  rename_i r2 c2 hr2
  have key := frun_both hA hN hT hk4 h0 (by omega) hri hbi (fun k hk => kids_gt hR k hk h0) kids_nodup hr1 hr2
  split at hl
  · cases hl
    split at hm
    · cases hm
      exact key.imp (fun ⟨_, a, b⟩ => ⟨a, b⟩) id
    · cases hm
  · cases hl
theorem frow_nok (h : frow P l q i b = some b') (hk : t ∉ kidsL l i) : b'.beg t = b.beg t := by
  unfold frow at h
  split at h
  · cases h
  split at h
  · cases h; rfl
  split at h
  · cases h
  · rename_i r1 c1 hr
    split at h
    · cases h; exact frun_nok (t := t) (r := rn0 l i (b.at i)) (b := { b with sc := upd b.sc (i, 0) ((b.at i).2, false) }) hr hk
    · cases h
theorem fgo_both (hA : Accs P) (hN : ∀ g ∈ P, InI g.needs) (hT : Tw l m t) (hR : ∀ i : Nat, i < l.length → TRow l i) (hk4 : ∀ j, (rowAt l j).kind ≤ 4) (ht : t < l.length) : ∀ {n : Nat} {i : Int} {b c : Bk}, 0 ≤ i → i ≤ t → (l.length : Int) = i + n → fgo P l q n i b = (0, 0) → fgo P m q n i c = (0, 0) →
    ((b = c ∧ BI P (Nt t) b ∧ Known l i b) ∨ ((rowAt l t).par < i ∧ ∃ x, b.beg t = some x ∧ c.beg t = some x ∧ FI P (Nt t) x.1 0)) →
    ∃ x b c b' c', b.beg t = some x ∧ c.beg t = some x ∧ FI P (Nt t) x.1 0 ∧ frow P l q t b = some b' ∧ frow P m q t c = some c'
  | 0, i, b, c, h0, h1, hn, _, _, _ => by omega
  | n + 1, i, b, c, h0, h1, hn, hl, hm, hI => by
    rw [fgo_succ] at hl hm
    split at hl
    · cases hl
    rename_i b1 hb1
    split at hm
    · cases hm
    rename_i c1 hc1
    by_cases e : i = t
    · subst e
      rcases hI with ⟨rfl, hb, hK⟩ | ⟨_, x, h3, h4, h5⟩
      · have : (b.beg i).isSome = true := by
          refine hK i h0 ht ?_
          by_cases e : i = 0
          · exact .inl e
          · exact .inr (row_par (tr_int hR h0 ht) e h0).2.1
        obtain ⟨x, hx⟩ := Option.isSome_iff_exists.1 this
        exact ⟨x, b, b, b1, c1, hx, hx, (hb.beg i x hx).1, hb1, hc1⟩
      · exact ⟨x, b, c, b1, c1, h3, h4, h5, hb1, hc1⟩
    · refine fgo_both hA hN hT hR hk4 ht (by omega) (by omega) (by omega) hl hm ?_
      rcases hI with ⟨rfl, hb, hK⟩ | ⟨hp, x, h3, h4, h5⟩
      · have hK' := frow_known hR h0 hK hb1
        have hi : (b.beg i).isSome = true := by
          refine hK i h0 (by omega) ?_
          by_cases e : i = 0
          · exact .inl e
          · exact .inr (row_par (tr_int hR h0 (by omega)) e h0).2.1
        rcases frow_both hA hN hT hR hk4 h0 (by omega) e hb hi hb1 hc1 with ⟨a, a2⟩ | ⟨a, x, a2⟩
        · exact .inl ⟨a, a2, hK'⟩
        · exact .inr ⟨by have := (mem_kids.1 a).2.2; omega, x, a2⟩
      · have hno : t ∉ kidsL l i := fun hk => by have := (mem_kids.1 hk).2.2; omega
        refine .inr ⟨by omega, x, ?_, ?_, h5⟩
        · rw [frow_nok hb1 hno, h3]
        · rw [frow_nok hc1 (by rw [hT.kids]; exact hno), h4]
def Sim (row o : Int) (b c : Bk) : Prop := ∀ k, 0 ≤ k → k ≤ o → (b.s (row, k)).2 = (c.s (row, k)).2 ∧ (k ≠ 0 → (b.s (row, k)).1 = (c.s (row, k)).1)
theorem bk_upd {s s' : Int × Int} {x : (Int × Int) × Bool} {g : Int → Option (List Int × (Int × Int))} : Bk.s ⟨g, upd b.sc s x⟩ s' = if s' = s then x else b.s s' := by
  unfold Bk.s upd
  dsimp only
  split <;> rfl
theorem fstp_model {d : Int} (hA : Accs P) (hT : Tw l m row) (hr : RI P (Nt row) row inn n r b ks) (hS : Sim row r.opened b c) (hs : fstp P m false row r c = some (r', c')) : ∃ b', fstp P l false row r b = some (r', b') ∧ Sim row r'.opened b' c' := by
  have hk0 := fstp_kind hs
  have hfi := hr.fi hk0
  rw [fstp_nt hA hT hr.fi] at hs
  obtain ⟨g, hv, ha⟩ := hfi.at hA
  have hh0 := (hr.own.le _ (List.head_mem hr.own.ne)).1
  have ehd : ks.head hr.own.ne = ks.headD 0 := by cases ks with
    | nil => exact absurd rfl hr.own.ne
    | cons a t => rfl
  rw [ehd] at hh0
  have hop := hr.op
  have hlast := hS _ hh0 hop.1
  rw [← hr.last] at hlast
  unfold fstp at hs ⊢
  rw [if_neg (by omega)] at hs ⊢
  split at hs
  · rename_i hp; cases hs; rw [if_pos hp]; exact ⟨b, rfl, hS⟩
  rename_i hp
  rw [if_neg hp]
  unfold fact at hs ⊢
  split at hs
  · rename_i h8
    rw [if_pos h8]
    split at hs
    · cases hs
    · rename_i k kr hk
      cases hs
      exact ⟨_, rfl, hS⟩
  rename_i h8
  rw [if_neg h8]
  split at hs
  · rename_i h9
    rw [if_pos h9]
    split at hs
    · cases hs
    rename_i hk
    rw [if_neg hk]
    split at hs
    · rename_i hb; cases hs; rw [if_pos hb]; exact ⟨b, rfl, hS⟩
    · rename_i hb; cases hs; rw [if_neg hb]; exact ⟨b, rfl, hS⟩
  rename_i h9
  rw [if_neg h9]
  split at hs
  · rename_i h11; cases hs; rw [if_pos h11]
    refine ⟨_, rfl, fun k k0 k1 => ?_⟩
    rw [bk_upd, bk_upd]
    split
    · exact ⟨rfl, fun _ => rfl⟩
    · rename_i hne
      refine hS k k0 ?_
      by_cases e : k = r.opened + 1
      · exact absurd (by rw [e]) hne
      · dsimp only at k1; omega
  rename_i h11
  rw [if_neg h11]
  split at hs
  · rename_i h12
    rw [if_pos h12]
    split at hs
    · cases hs
    · rename_i u us hc
      split at hs
      · cases hs
      · rename_i hq
        cases hs
        have hd := fat_scopes ha (.inl h12)
        have h2 : ks.headD 0 ≠ 0 := by
          match ks, hd, hr.own with
          | [], hd, _ => simp at hd
          | [_], hd, _ => simp at hd
          | k :: k' :: kr, _, hO =>
            obtain ⟨hkk, _, hO⟩ := hO
            have := (hO.le k' (by simp)).1
            simp only [List.headD_cons]; omega
        have h3 : (b.s r.last).1 = (c.s r.last).1 := by
          have := (hS _ hh0 hop.1).2 h2
          rw [← hr.last] at this
          exact this
        rw [if_neg (by rw [hlast.1]; exact hq), h3]
        exact ⟨b, rfl, hS⟩
  rename_i h12
  rw [if_neg h12]
  split at hs
  · rename_i h13; cases hs; rw [if_pos h13]
    refine ⟨_, rfl, fun k k0 k1 => ?_⟩
    rw [bk_upd, bk_upd]
    split
    · rename_i e
      refine ⟨rfl, fun hk => ?_⟩
      have := (hS k k0 k1).2 hk
      rw [e] at this
      exact this
    · exact hS k k0 k1
  rename_i h13
  rw [if_neg h13]
  split at hs
  · rename_i h14; cases hs; rw [if_pos h14]; exact ⟨b, rfl, hS⟩
  · rename_i h14; cases hs; rw [if_neg h14]; exact ⟨b, rfl, hS⟩
theorem frun_model (hA : Accs P) (hN : ∀ g ∈ P, InI g.needs) (hT : Tw l m row) (hk4 : ∀ j, (rowAt l j).kind ≤ 4) (h0 : 0 ≤ row) : ∀ {N n : Nat} {r r' : Rn} {b c c' : Bk} {ks : List Int}, n + N ≤ 1048576 → RI P (Nt row) row inn n r b ks → BI P (Nt row) b → (∀ k ∈ r.kids, row < k) → Sim row r.opened b c →
    frun P m false row N r c = some (r', c') → ∃ b', frun P l false row N r b = some (r', b')
  | 0, n, r, r', b, c, c', ks, hn, hr, hb, hk, hS, h => by cases h; exact ⟨b, rfl⟩
  | N + 1, n, r, r', b, c, c', ks, hn, hr, hb, hk, hS, h => by
    rw [frun_succ] at h
    split at h
    · cases h
    · rename_i rA cA hst
      obtain ⟨b1, hst', hS'⟩ := fstp_model (d := 0) hA hT hr hS hst
      obtain ⟨_, ⟨ks', h1⟩, h2, h3, ⟨j, h4⟩, _⟩ := fstp_ri hA hN (fun j _ => hk4 j) h0 (by omega) hr hb hk hst'
      obtain ⟨b2, h5⟩ := frun_model hA hN hT hk4 h0 (by omega) h1 h2 (fun k hk' => hk k (by rw [h4] at hk'; exact List.mem_of_mem_drop hk')) hS' h
      exact ⟨b2, by rw [frun_succ, hst']; exact h5⟩
theorem bi_model {x : List Int × (Int × Int)} {Q : Int → Prop} (hF : FI P Q x.1 0) (h0 : 0 ≤ t) : BI P Q ⟨upd (fun _ => none) t (x.1, (-1, 0)), fun _ => none⟩ := by
  refine ⟨⟨fun s y hy => by cases hy⟩, fun j y hy => ?_⟩
  unfold upd at hy
  dsimp only at hy
  split at hy
  · rename_i e
    cases hy
    exact ⟨hF, .inl rfl, by dsimp only; omega⟩
  · cases hy
theorem turned_v (hA : Accs P) (hN : ∀ g ∈ P, InI g.needs) (hT : Tw l m t) (hR : ∀ i : Nat, i < l.length → TRow l i) (hcl : (rowAt m t).cl = (rowAt l t).cl) (hst : (rowAt m t).steps = (rowAt l t).steps) (h0 : 0 ≤ t) (h1 : t < l.length) (hk : (rowAt l t).kind = 2 ∨ (rowAt l t).kind = 3)
    (hl : fgo P l false l.length 0 bk0 = (0, 0)) (hm : fgo P m false m.length 0 bk0 = (0, 0)) : (rowAt m t).v = (rowAt l t).v := by
  have hk4 : ∀ j, (rowAt l j).kind ≤ 4 := fun j => by
    by_cases e : j.toNat < l.length
    · have := (row_span (hR j.toNat e)).2.2.2.2.1
      unfold rowAt at this ⊢
      rwa [Int.toNat_natCast] at this
    · unfold rowAt
      rw [List.getD_eq_getElem?_getD, List.getElem?_eq_none (by omega)]; decide
  rw [hT.len] at hm
  have hstart : ((bk0 = bk0 ∧ BI P (Nt t) bk0 ∧ Known l 0 bk0) ∨ ((rowAt l t).par < 0 ∧ ∃ x, bk0.beg t = some x ∧ bk0.beg t = some x ∧ FI P (Nt t) x.1 0)) := .inl ⟨rfl, bi_root hA hN, known_root hR⟩
  obtain ⟨x, b, c, b', c', hb, hc, hF, hbr, hcr⟩ := fgo_both hA hN hT hR hk4 h1 (Int.le_refl _) h0 (by omega) hl hm hstart
  have hsp := row_span (tr_int hR h0 h1)
  obtain ⟨r1, b1, e1, k1, v1⟩ := frow_ended hbr hk
  obtain ⟨r2, b2, e2, k2, v2⟩ := frow_ended hcr (by rw [hT.kind]; exact hk)
  have hab : b.at t = x := by unfold Bk.at; rw [hb]; rfl
  have hac : c.at t = x := by unfold Bk.at; rw [hc]; rfl
  rw [hab] at e1
  rw [hac] at e2
  have er : rn0 m t x = rn0 l t x := by unfold rn0; rw [hT.kids, hcl]
  rw [er, hst] at e2
  have hbm : BI P (Nt t) ⟨upd (fun _ => none) t (x.1, (-1, 0)), fun _ => none⟩ := bi_model hF h0
  have hkg := fun k hk => kids_gt hR k hk h0
  obtain ⟨hri, hbi⟩ := ri_start (l := l) (i := t) (x := (x.1, (-1, 0))) hbm h0 (by show (if t = t then some (x.1, ((-1 : Int), (0 : Int))) else none) = _; rw [if_pos rfl]) (kidsL l t) (fun k hk => ⟨by have := hkg k hk; omega, by have := hkg k hk; omega⟩)
  have hS : ∀ d : Bk, Sim t 0 ({ (⟨upd (fun _ => none) t (x.1, (-1, 0)), fun _ => none⟩ : Bk) with sc := upd (fun _ => none) (t, 0) ((-1, 0), false) }) { d with sc := upd d.sc (t, 0) (x.2, false) } := by
    intro d k k0 k1
    have : k = 0 := by omega
    subst this
    refine ⟨?_, fun q => absurd rfl q⟩
    show ((if ((t, 0) : Int × Int) = (t, 0) then some (((-1 : Int), (0 : Int)), false) else none).getD sc0).2 = ((if ((t, 0) : Int × Int) = (t, 0) then some (x.2, false) else d.sc (t, 0)).getD sc0).2
    rw [if_pos rfl, if_pos rfl]; rfl
  obtain ⟨d1, f1⟩ := frun_model (l := l) (m := l) hA hN ⟨rfl, fun _ => rfl, fun _ => rfl, fun _ _ _ => rfl⟩ hk4 h0 (by omega) hri hbi hkg (hS b) e1
  obtain ⟨d2, f2⟩ := frun_model hA hN hT hk4 h0 (by omega) hri hbi hkg (hS c) e2
  rw [f1] at f2
  cases f2
  omega
end
end Go.Proofs.YtgkfbagclkjilaaDoor.Ft
namespace Go.Proofs.YtgkfbagclkjilaaDoor.Ft
open Go Go.Ev Go.Proofs Go.Proofs.YtgkfbagclkjilaaDoor
open Go.Proofs.YtgkfbagclkjilaaDoor.Fr (fTo fOn fPlain fForked fJoined fClosed fChild fRoot fR isB fTo_len fOn_len fPlain_len fForked_len fJoined_len fClosed_len)
open Go.Proofs.YtgkfbagclkjilaaDoor.Ck (opI Walk Accs needsOf isGoes heldL depths stepD handlesOk subBits scopesOk forks)
section
variable {w0 w : World} {L : List HP} {sz : Nat} {s : Sl} {vs : List Value} {f : HP → List HP}
theorem ixLdA_h {i : Int} {c : Array Value → Prop} (h : St w0 w L) [a : At L (slc sz s) vs f] (hsz : 0 < sz) (h0 : 0 ≤ i) (h1 : i < s.n)
    (hc : c ((vs.drop (i.toNat * sz)).take sz).toArray) : ixS s i sz fun a => ldA sz w a c := by
  refine ixS_h h hsz h0 h1 fun g o _ hr _ => ?_
  have hlen := h.slen (sz := sz) (s := s) (vs := vs)
  have hlt : i.toNat * sz + sz ≤ s.n * sz := by
    rw [← Nat.succ_mul]; exact Nat.mul_le_mul_right _ (by omega)
  have hl : ((vs.drop (i.toNat * sz)).take sz).length = sz := by simp; omega
  refine ldA_c hl (fun j v hv => ?_) hc
  have hj : j < sz := by have := (List.getElem?_eq_some_iff.1 hv).1; omega
  rw [List.getElem?_take_of_lt hj, List.getElem?_drop] at hv
  rw [add_mk]
  exact hr h j v hj hv
theorem ixStA_h {i : Int} {x : Array Value} {c : World → Prop} (h : St w0 w L) [a : At L (slc sz s) vs f] (hsz : 0 < sz) (h0 : 0 ≤ i) (h1 : i < s.n) (hx : x.size = sz) (hone : ∀ v ∈ x, v.oneCell' = true)
    (hc : ∀ w', St w0 w' (f (slc sz s (vs.take (i.toNat * sz) ++ (x.toList ++ vs.drop (i.toNat * sz + sz))))) → c w') : ixS s i sz fun a => stA sz w a x c := by
  have ho : OwnS sz w s vs := h.own
  have hi : i.toNat < s.n := by omega
  have hlt : i.toNat * sz + sz ≤ s.n * sz := by
    rw [← Nat.succ_mul]; exact Nat.mul_le_mul_right _ hi
  have hcsz : s.n * sz ≤ s.c * sz := Nat.mul_le_mul_right _ ho.cap
  have hvl := ho.len
  rcases ho.row with ⟨h2, h3⟩ | ⟨g, off, cs, h2, h3, h4, h5⟩
  · have := ho.cap; omega
  · unfold ixS
    rw [h2]
    refine ⟨⟨h0, h1⟩, ?_⟩
    rw [add_mk]
    refine stA_i h3 hx (by omega) hone fun w' cs' k1 k2 k3 k4 k5 k6 => hc w' (h.turn' a fun F1 hF => ⟨k5.mono fun k _ hk => (hF.1 k).2 (by simp [Sl.blk, h2, hk]), F1, ⟨hF.1, ?_⟩, fun k hk => .inl hk⟩)
    have hxl : x.toList.length = sz := by simpa using hx
    refine ⟨by simp only [List.length_append, List.length_take, List.length_drop, hxl]; omega, ho.cap, ho.max, fun v hv => ?_, .inr ⟨g, off, cs', h2, k1, by omega, fun k u hk => ?_⟩⟩
    · rcases List.mem_append.1 hv with hv | hv
      · exact ho.one v (List.mem_of_mem_take hv)
      · rcases List.mem_append.1 hv with hv | hv
        · exact hone v (by simpa using hv)
        · exact ho.one v (List.mem_of_mem_drop hv)
    · by_cases q1 : k < i.toNat * sz
      · rw [List.getElem?_append_left (by simp; omega), List.getElem?_take_of_lt q1] at hk
        rw [k3 _ (by omega)]; exact h5 k u hk
      · rw [List.getElem?_append_right (by simp; omega)] at hk
        simp only [List.length_take] at hk
        rw [show k - min (i.toNat * sz) vs.length = k - i.toNat * sz by omega] at hk
        by_cases q2 : k < i.toNat * sz + sz
        · rw [List.getElem?_append_left (by omega)] at hk
          have := k4 (k - i.toNat * sz) (by omega)
          rw [show off + i.toNat * sz + (k - i.toNat * sz) = off + k by omega] at this
          rw [this]; simpa using hk
        · rw [List.getElem?_append_right (by omega), List.getElem?_drop, hxl] at hk
          rw [show i.toNat * sz + sz + (k - i.toNat * sz - sz) = k by omega] at hk
          rw [k3 _ (by omega)]; exact h5 k u hk
end
theorem flat_chunk {A : Type} {sz : Nat} : ∀ {es : List (List A)} {i : Nat} {e : List A}, (∀ e ∈ es, e.length = sz) → es[i]? = some e → (es.flatten.drop (i * sz)).take sz = e
  | x :: es, 0, e, h, he => by
    simp at he; subst he
    have := h x (by simp)
    simp [← this]
  | x :: es, i + 1, e, h, he => by
    have hx := h x (by simp)
    rw [List.flatten_cons, List.drop_append, hx, List.drop_of_length_le (by rw [hx, Nat.succ_mul]; omega), List.nil_append, show (i + 1) * sz - sz = i * sz by rw [Nat.succ_mul]; omega]
    exact flat_chunk (fun e he => h e (by simp [he])) (by simpa using he)
theorem flat_put {A : Type} {sz : Nat} {x : List A} : ∀ {es : List (List A)} {i : Nat}, (∀ e ∈ es, e.length = sz) → i < es.length → es.flatten.take (i * sz) ++ (x ++ es.flatten.drop (i * sz + sz)) = (es.set i x).flatten
  | y :: es, 0, h, hi => by
    have hy := h y (by simp)
    rw [Nat.zero_mul, List.take_zero, List.nil_append, Nat.zero_add, List.flatten_cons, List.drop_append, hy, List.drop_of_length_le (by omega), List.nil_append, Nat.sub_self, List.drop_zero]; rfl
  | y :: es, i + 1, h, hi => by
    have hy := h y (by simp)
    rw [List.flatten_cons, List.take_append, hy, List.take_of_length_le (by rw [hy, Nat.succ_mul]; omega), List.drop_append, hy, List.drop_of_length_le (by rw [hy, Nat.succ_mul]; omega), List.nil_append, show (i + 1) * sz - sz = i * sz by rw [Nat.succ_mul]; omega, show (i + 1) * sz + sz - sz = i * sz + sz by rw [Nat.succ_mul]; omega, List.append_assoc, flat_put (fun e he => h e (by simp [he])) (by simpa using hi)]
    rfl
theorem elRow : ElS Go.Proofs.Tryd.prog 25 7 64 (.agg #[.int .i64 0, .int .i64 0, .int .i64 0, .int .i64 0, .int .i64 0, .int .i64 0, .string (ByteArray.mk #[])]) := ⟨by kernel_rfl, rfl⟩
theorem rows_one (l : List Rb) : ∀ v ∈ (l.map rbV).flatten, v.oneCell' = true := by
  intro v hv
  obtain ⟨e, he, hv⟩ := List.mem_flatten.1 hv
  obtain ⟨r, _, rfl⟩ := List.mem_map.1 he
  exact one_rb v (by simpa using hv)
theorem rows_len (l : List Rb) : ∀ e ∈ l.map rbV, e.length = 7 := fun e he => by obtain ⟨r, _, rfl⟩ := List.mem_map.1 he; rfl
theorem wrap_ne {x y : Int} (hx : InI x) (h0 : y ≠ 0) (h1 : -3000 ≤ y) (h2 : y ≤ 3000) : IntKind.wrap .i64 (x + y) ≠ x := by
  have hx1 := hx.1; have hx2 := hx.2
  rw [IntKind.wrap_i64]
  omega
def Trn (r r' : Rb) : Prop :=
  (r' = { r with fn := r'.fn } ∧ r'.fn ≠ r.fn) ∨ (r' = { r with inn := r'.inn } ∧ r'.inn ≠ r.inn) ∨ ((r.kind = 2 ∨ r.kind = 3) ∧ ((r' = { r with v := r'.v } ∧ r'.v ≠ r.v) ∨ (r' = { r with steps := r'.steps } ∧ r'.steps ≠ r.steps)))
theorem Trn.keep {r r' : Rb} (h : Trn r r') : r'.par = r.par ∧ r'.kind = r.kind ∧ r'.cl = r.cl := by
  rcases h with ⟨e, _⟩ | ⟨e, _⟩ | ⟨_, ⟨e, _⟩ | ⟨e, _⟩⟩ <;> rw [e] <;> exact ⟨rfl, rfl, rfl⟩
theorem rowAt_set {l : List Rb} {t : Nat} {r : Rb} (ht : t < l.length) {i : Int} : rowAt (l.set t r) i = if i.toNat = t then r else rowAt l i := by
  unfold rowAt
  rw [List.getD_eq_getElem?_getD, List.getD_eq_getElem?_getD, List.getElem?_set]
  by_cases e : t = i.toNat
  · rw [if_pos e, if_pos (by omega), if_pos e.symm]; rfl
  · rw [if_neg e, if_neg (fun q => e q.symm)]
theorem fits_zero {P : List FnR} {l : List Rb} (h : (fitsF P l false).2 = 0) : Accs P ∧ tcheck l = 0 ∧ fgo P l false l.length 0 bk0 = (0, 0) := by
  unfold fitsF at h
  split at h
  · cases h
  rename_i h1
  split at h
  · rename_i h2; exact absurd h h2
  rename_i h2
  refine ⟨Ck.accs_iff.1 (by simpa using h1), by simpa using h2, ?_⟩
  rcases fgo_ends (P := P) (l := l) (q := false) (n := l.length) (i := 0) (b := bk0) with q | ⟨j, _, _, q⟩
  · exact q
  · rw [q] at h; cases h
theorem turned_not {P : List FnR} {l : List Rb} {t : Nat} {r' : Rb} (hN : ∀ g ∈ P, InI g.needs) (ht : t < l.length) (hr : Trn (rowAt l (t : Int)) r') (h : (fitsF P l false).2 = 0) : (fitsF P (l.set t r') false).2 ≠ 0 := by
  intro h'
  obtain ⟨hA, hc, hg⟩ := fits_zero h
  obtain ⟨_, hc', hg'⟩ := fits_zero h'
  obtain ⟨kp, kk, kc⟩ := hr.keep
  have hR := (tcheck_row hc).2
  have hR' := (tcheck_row hc').2
  have hti : ((t : Int)).toNat = t := Int.toNat_natCast t
  have eat : rowAt (l.set t r') (t : Int) = r' := by rw [rowAt_set ht, hti, if_pos rfl]
  have hsame : ∀ {X : Type} {φ : Rb → X}, φ r' = φ (rowAt l (t : Int)) → ∀ i, φ (rowAt (l.set t r') i) = φ (rowAt l i) := by
    intro X φ e i
    rw [rowAt_set ht]
    split
    · rename_i ei
      rw [e]
      unfold rowAt
      rw [hti, ei]
    · rfl
  have hT : Tw l (l.set t r') (t : Int) := ⟨by simp, hsame (φ := Rb.par) kp, hsame (φ := Rb.kind) kk, fun i h0 hne => by rw [rowAt_set ht, if_neg (by omega)]⟩
  have h0 : (0 : Int) ≤ (t : Int) := by omega
  have h1 : (t : Int) < l.length := by omega
  have s1 := row_span (hR t ht)
  have s2 := row_span (hR' t (by simpa using ht))
  rcases hr with ⟨e, hne⟩ | ⟨e, hne⟩ | ⟨hk, ⟨e, hne⟩ | ⟨e, hne⟩⟩
  · have := (turned_fn hT (hsame (φ := Rb.v) (by rw [e])) h0 h1 hg hg').1
    rw [eat] at this; exact hne this
  · have := (turned_fn hT (hsame (φ := Rb.v) (by rw [e])) h0 h1 hg hg').2
    rw [eat] at this; exact hne this
  · have := turned_v hA hN hT hR (by rw [eat, kc]) (by rw [eat, e]) h0 h1 hk hg hg'
    rw [eat] at this; exact hne this
  · have := turned_steps hT (hsame (φ := Rb.v) (by rw [e])) (by rw [eat, kc]) h0 h1 hk s1.2.2.2.2.2.1 s2.2.2.2.2.2.1 hg hg'
    rw [eat] at this; exact hne this
theorem law_turned {w : World} {ps ls : Sl} {P : List FnR} {l : List Rb} {tr ty tf : Int} {k : Bool → World → Prop} (hF : Funcs5 w ps P) (hT : Tbl w ls l) (hI : ∀ r ∈ l, rbI r) (hk : ∀ w', St w w' [] → k true w') : pelotonlaw08_FitsTurned #[.slice ps.a ps.n ps.c] ⟨ls.a, ls.n, ls.c⟩ #[.int .i64 tr, .int .i64 ty, .int .i64 tf] w k := by
  have hN : ∀ g ∈ P, InI g.needs := fun g hg => (hF.code g hg).1
  have hn := hT.len
  unfold pelotonlaw08_FitsTurned pelotonlaw08_FitsTurned_b
  refine newC_h (.nil w) fun g1 w2 h => ?_
  refine newC_h h fun g3 w4 h => ?_
  have h : St w w4 [blk g3 [.int .i64 tr, .int .i64 ty, .int .i64 tf], blk g1 [.slice ps.a ps.n ps.c]] := h
  refine joinP_i (fun z w' => St w w' [blk g3 [.int .i64 tr, .int .i64 ty, .int .i64 tf], blk g1 [.slice ps.a ps.n ps.c]] ∧ (z = false → Shrt P l ∧ 0 ≤ tr ∧ tr < l.length ∧ ty ≠ 0 ∧ -3000 ≤ ty ∧ ty ≤ 3000)) (fun J hJ => ?_) ?_
  · refine ldW_h (n := 1) (g := g1) h rfl ?_
    refine short_s (hF.ext h.ext) (hT.ext h.ext) fun b w5 h2 hs => ?_
    have h := ext_of h h2.ext
    refine iteB_i (fun hb => hJ _ _ ⟨h, fun q => by cases q⟩) fun hb => ?_
    have hS := hs (by simpa using hb)
    refine ldI_h (g := g3) (o := 0 + 0) h rfl ?_
    refine iteB_i (fun hb => hJ _ _ ⟨h, fun q => by cases q⟩) fun hb1 => ?_
    refine ldI_h (g := g3) (o := 0 + 0) h rfl ?_
    refine iteB_i (fun hb => hJ _ _ ⟨h, fun q => by cases q⟩) fun hb2 => ?_
    refine ldI_h (g := g3) (o := 0 + 1) h rfl ?_
    refine iteB_i (fun hb => hJ _ _ ⟨h, fun q => by cases q⟩) fun hb3 => ?_
    refine ldI_h (g := g3) (o := 0 + 1) h rfl ?_
    refine iteB_i (fun hb => hJ _ _ ⟨h, fun q => by cases q⟩) fun hb4 => ?_
    refine ldI_h (g := g3) (o := 0 + 1) h rfl ?_
    refine hJ _ _ ⟨h, fun hb5 => ⟨hS, ?_⟩⟩
    simp only [decide_eq_false_iff_not, beq_eq_false_iff_ne] at hb1 hb2 hb3 hb4 hb5
    exact ⟨by omega, by omega, hb3, by omega, by omega⟩
  rintro z w15 ⟨h, hz⟩
  refine iteB_i (fun hb => ?_) fun hb => ?_
  · exact awake_s fun w7 h3 => hk _ (ext_of h h3.ext).all
  obtain ⟨hS, t0, t1, y0, y1, y2⟩ := hz hb
  obtain ⟨t, rfl⟩ := Int.eq_ofNat_of_zero_le t0
  have ht : t < l.length := by omega
  have hl60 := hS.t.n
  refine ldW_h (n := 1) (g := g1) h rfl ?_
  refine Fits_s (hF.ext h.ext) (hT.ext h.ext) hN hS.len hS.cl fun w20 he => ?_
  have h := ext_of h he
  refine iteB_i (fun hb => ?_) fun hb => ?_
  · exact awake_s fun w7 h3 => hk _ (ext_of h h3.ext).all
  have hz : (fitsF P l false).2 = 0 := by simpa using hb
  have h := h.nilS 7
  refine bApp_h (s := ⟨none, 0, 0⟩) (vs := []) (x := ls) (ys := (l.map rbV).flatten) h elRow (by kernel_rfl) (Ck.rws_flat (hT.ext h.ext).rws (by decide)) (rows_one l) (by simp only; omega) (by simp only; omega) fun s23 w24 h n23 => ?_
  simp only [Nat.zero_add, List.nil_append] at n23 h
  refine ldI_h (g := g3) (o := 0 + 0) h rfl ?_
  refine ixLdA_h (s := s23) (vs := (l.map rbV).flatten) h (by decide) (by omega) (by omega) ?_
  have erow : (l.map rbV)[t]? = some (rbV (rowAt l (t : Int))) := by have := rowAt_map (l := l) (i := (t : Int)) (by omega); rwa [Int.toNat_natCast] at this
  rw [Int.toNat_natCast, flat_chunk (rows_len l) erow]
  generalize hr : rowAt l (t : Int) = r at *
  have hrI : rbI r := by
    have e2 : l[t]? = some r := by have := rowAt_get (l := l) (i := (t : Int)) (by omega); rwa [Int.toNat_natCast, hr] at this
    exact hI r (List.mem_of_getElem? e2)
  refine newC_h h fun g28 w29 h => ?_
  refine stW_h (n := 7) (g := g28) h rfl rfl one_rb fun w30 h => ?_
  have h : St w w30 (blk g28 (rbV r) :: slc 7 s23 (l.map rbV).flatten :: [blk g3 [.int .i64 t, .int .i64 ty, .int .i64 tf], blk g1 [.slice ps.a ps.n ps.c]]) := h
  refine joinP_i (fun z w' => w' = w30 ∧ (z = true → r.kind = 2 ∨ r.kind = 3)) (fun J hJ => ?_) ?_
  · refine ldI_h (g := g28) (o := 0 + 3) h rfl ?_
    refine iteB_i (fun hb => hJ _ _ ⟨rfl, fun _ => .inl (by simpa using hb)⟩) fun hb => ?_
    refine ldI_h (g := g28) (o := 0 + 3) h rfl ?_
    exact hJ _ _ ⟨rfl, fun q => .inr (by simpa using q)⟩
  rintro ended _ ⟨rfl, hend⟩
  refine ldI_h (g := g3) (o := 0 + 2) h rfl ?_
  refine joinP_i (fun _ w' => ∃ r', Trn r r' ∧ St w w' (blk g28 (rbV r') :: slc 7 s23 (l.map rbV).flatten :: [blk g3 [.int .i64 t, .int .i64 ty, .int .i64 tf], blk g1 [.slice ps.a ps.n ps.c]])) (fun J hJ => ?_) ?_
  · refine iteB_i (fun hb => ?_) fun hb => ?_
    · refine ldI_h (g := g28) (o := 0 + 2) h rfl ?_
      refine ldI_h (g := g3) (o := 0 + 1) h rfl ?_
      refine stC_h (g := g28) (o := 0 + 2) h rfl (by simp [rbV]) fun w40 h => ?_
      exact hJ _ _ ⟨{ r with fn := IntKind.wrap .i64 (r.fn + ty) }, .inl ⟨rfl, wrap_ne hrI.2.2.1 y0 y1 y2⟩, h⟩
    refine iteB_i (fun hb => ?_) fun hb => ?_
    · refine ldI_h (g := g28) (o := 0 + 1) h rfl ?_
      refine ldI_h (g := g3) (o := 0 + 1) h rfl ?_
      refine stC_h (g := g28) (o := 0 + 1) h rfl (by simp [rbV]) fun w40 h => ?_
      exact hJ _ _ ⟨{ r with inn := IntKind.wrap .i64 (r.inn + ty) }, .inr (.inl ⟨rfl, wrap_ne hrI.2.1 y0 y1 y2⟩), h⟩
    refine iteB_i (fun hb => ?_) fun hb => ?_
    · refine iteB_i (fun hb => ?_) fun hb => ?_
      · exact awake_s fun w7 h3 => hk _ (ext_of h h3.ext).all
      refine ldI_h (g := g28) (o := 0 + 4) h rfl ?_
      refine ldI_h (g := g3) (o := 0 + 1) h rfl ?_
      refine stC_h (g := g28) (o := 0 + 4) h rfl (by simp [rbV]) fun w40 h => ?_
      exact hJ _ _ ⟨{ r with v := IntKind.wrap .i64 (r.v + ty) }, .inr (.inr ⟨hend (by simpa using hb), .inl ⟨rfl, wrap_ne hrI.2.2.2.2.1 y0 y1 y2⟩⟩), h⟩
    · refine iteB_i (fun hb => ?_) fun hb => ?_
      · exact awake_s fun w7 h3 => hk _ (ext_of h h3.ext).all
      refine ldI_h (g := g28) (o := 0 + 5) h rfl ?_
      refine ldI_h (g := g3) (o := 0 + 1) h rfl ?_
      refine stC_h (g := g28) (o := 0 + 5) h rfl (by simp [rbV]) fun w40 h => ?_
      exact hJ _ _ ⟨{ r with steps := IntKind.wrap .i64 (r.steps + ty) }, .inr (.inr ⟨hend (by simpa using hb), .inr ⟨rfl, wrap_ne hrI.2.2.2.2.2 y0 y1 y2⟩⟩), h⟩
  rintro _ w55 ⟨r', hr', h⟩
  refine ldI_h (g := g3) (o := 0 + 0) h rfl ?_
  refine ldW_h (n := 7) (g := g28) h rfl ?_
  refine ixStA_h (s := s23) (vs := (l.map rbV).flatten) h (by decide) (by omega) (by omega) rfl one_rb fun w59 h => ?_
  have emap : (l.map rbV).set t (rbV r') = (l.set t r').map rbV := by rw [List.map_set]
  rw [Int.toNat_natCast, flat_put (rows_len l) (by simpa using ht), emap] at h
  refine ldW_h (n := 1) (g := g1) h rfl ?_
  have hT' : Tbl w59 s23 (l.set t r') := ⟨Ck.sls_rws (h.own (sz := 7) (s := s23) (vs := ((l.set t r').map rbV).flatten)).sls (by decide) (rows_len _), by simp; omega⟩
  have hcl' : ∀ x ∈ l.set t r', x.cl.size < 4611686018427387904 := by
    intro x hx
    rcases List.mem_or_eq_of_mem_set hx with hx | rfl
    · exact hS.cl x hx
    · rw [hr'.keep.2.2, ← hr]
      refine hS.cl _ (List.mem_of_getElem? (rowAt_get (l := l) (i := (t : Int)) (by omega)))
  refine Fits_s (hF.ext h.ext) hT' hN (by simp; omega) hcl' fun w62 he => ?_
  have h := ext_of h he
  refine iteB_t ?_ ?_
  · have := turned_not hN ht (by rw [hr]; exact hr') hz
    simpa using this
  · exact awake_s fun w7 h3 => hk _ (ext_of h h3.ext).all
end Go.Proofs.YtgkfbagclkjilaaDoor.Ft
