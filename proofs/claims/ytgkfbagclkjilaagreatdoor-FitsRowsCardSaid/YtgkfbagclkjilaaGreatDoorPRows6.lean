/-
  Layer 8: the document's answer: a step of a row.
  Layer 8: the document's answer: what instructions do.
  Layer 8: the document's answer: what instructions do: joins, scopes, ends.
  Layer 8: the document's answer: what instructions do with scopes; a step.
  Layer 8: the document's answer: a step.
  Layer 8: the document's answer: a row.
  Layer 8: the document's answer: a row, followed.
  Layer 8: the document's answer: which tables fit.
  Layer 8: which tables may come of a program; the laws.
-/
import Derived.Test.YtgkfbagclkjilaaGreatDoorPRows5
set_option linter.unusedSimpArgs false
set_option linter.unusedVariables false
set_option maxRecDepth 100000
namespace Go.Proofs.YtgkfbagclkjilaaGreatDoor.Ft
open Go Go.Ev Go.Proofs Go.Proofs.YtgkfbagclkjilaaGreatDoor
open Go.Proofs.YtgkfbagclkjilaaGreatDoor.Fr (fTo fOn fPlain fForked fJoined fClosed fChild fRoot fR isB fTo_len fOn_len fPlain_len fForked_len fJoined_len fClosed_len)
open Go.Proofs.YtgkfbagclkjilaaGreatDoor.Ck (opI Walk Accs needsOf isGoes heldL depths stepD handlesOk subBits scopesOk forks)
section
variable {r : Rn} {sk so sz : Sl} {u c : Nat}
theorem rr_len (hf : r.f.length = 19) : (rrunV r sk so sz u c).length = 27 := by simp [rrunV, ints, hf]
theorem rr_f (hf : r.f.length = 19) : (((rrunV r sk so sz u c).drop (0 + 0)).take 19).toArray = agI r.f := by
  have : (rrunV r sk so sz u c).take 19 = ints r.f := by
    unfold rrunV
    rw [List.take_append_of_le_length (by simp [ints, hf]), List.take_of_length_le (by simp [ints, hf])]
  rw [Nat.add_zero, List.drop_zero, this]
theorem rr_get {j : Nat} (hf : r.f.length = 19) (hj : j < 19) : (rrunV r sk so sz u c)[j]? = some (.int .i64 (r.f.getD j 0)) := by
  unfold rrunV
  rw [List.getElem?_append_left (by simp [ints, hf]; exact hj)]
  exact ints_getD (by omega)
theorem rr_hi {j : Nat} (hf : r.f.length = 19) : (rrunV r sk so sz u c)[19 + j]? = ([.slice sk.a sk.n sk.c, .int .i64 (u : Int), .int .i64 (c : Int), .slice so.a so.n so.c, .slice sz.a sz.n sz.c, .int .i64 r.opened, .int .i64 r.kind, .int .i64 r.v] : List Value)[j]? := by
  unfold rrunV
  rw [List.getElem?_append_right (by simp [ints, hf]), show 19 + j - (ints r.f).length = j by simp [ints, hf]]
theorem rr_set {j : Nat} {v : Value} (hf : r.f.length = 19) : (rrunV r sk so sz u c).set (0 + (19 + j)) v = ints r.f ++ ([.slice sk.a sk.n sk.c, .int .i64 (u : Int), .int .i64 (c : Int), .slice so.a so.n so.c, .slice sz.a sz.n sz.c, .int .i64 r.opened, .int .i64 r.kind, .int .i64 r.v] : List Value).set j v := by
  unfold rrunV
  rw [Nat.zero_add, List.set_append_right _ _ (by simp [ints, hf]), show 19 + j - (ints r.f).length = j by simp [ints, hf]]
theorem rr_setf {f' : List Int} (hf : r.f.length = 19) (hf' : f'.length = 19) : (rrunV r sk so sz u c).take (0 + 0) ++ ((agI f').toList ++ (rrunV r sk so sz u c).drop (0 + 0 + 19)) = rrunV { r with f := f' } sk so sz u c := by
  unfold rrunV
  rw [Nat.add_zero, List.take_zero, List.nil_append, Nat.zero_add, List.drop_append_of_le_length (by simp [ints, hf]), List.drop_of_length_le (by simp [ints, hf]), List.nil_append]
end
theorem Own.uniq {sc : Key → Option (Key × Bool)} {row : Int} {inn : Key} (hne : inn.1 ≠ row) : ∀ {ks ks' : List Int}, Own sc row inn ks → Own sc row inn ks' → ks.headD 0 = ks'.headD 0 → ks = ks'
  | [k], [k'], ⟨a, _⟩, ⟨b, _⟩, _ => by rw [a, b]
  | [k], k' :: k2 :: r, ⟨a, q, h⟩, ⟨b, ⟨q', h'⟩, _⟩, e => by
    simp only [List.headD_cons] at e
    rw [e, h'] at h
    have := congrArg (fun x : Option (Key × Bool) => x.map fun y => y.1.1) h
    simp at this
    exact absurd this.symm hne
  | k' :: k2 :: r, [k], ⟨b, ⟨q', h'⟩, _⟩, ⟨a, q, h⟩, e => by
    simp only [List.headD_cons] at e
    rw [← e, h'] at h
    have := congrArg (fun x : Option (Key × Bool) => x.map fun y => y.1.1) h
    simp at this
    exact absurd this.symm hne
  | k :: k1 :: r, k' :: k2 :: r', ⟨a, ⟨q, h⟩, hr⟩, ⟨b, ⟨q', h'⟩, hr'⟩, e => by
    simp only [List.headD_cons] at e
    subst e
    rw [h'] at h
    have e2 : k2 = k1 := by
      have := congrArg (fun x : Option (Key × Bool) => x.map fun y => y.1.2) h
      simpa using this
    subst e2
    rw [Own.uniq hne hr hr' rfl]
def opnL (K : List Key) (row : Int) (ks : List Int) : List Int := ks.reverse.map fun k => ((idxK (row, k) K : Nat) : Int)
abbrev RP (gb gr : Nat) (ps ls sB sS : Sl) (q : Bool) (n : Nat) (b : Bk) (K : List Key) (ka : List Int) (sk so sz : Sl) (row : Int) (ks : List Int) (r : Rn) (u c : Nat) (R : List HP) : List HP :=
  blk gb (rbookV ps ls sB sS q) :: slc 2 sS (scsV b K) :: slc 21 sB (begsV b K n) :: blk gr (rrunV r sk so sz u c) :: slc 1 sk (ints ka) :: slc 1 so (ints (opnL K row ks)) :: slc 1 sz (ints ks.reverse) :: R
structure Rx (P : List FnR) (l : List Rb) (Q : Int → Prop) (row : Int) (inn : Key) (n : Nat) (r : Rn) (b : Bk) (K : List Key) (ks ka : List Int) (u c : Nat) : Prop where
  ri : RI P Q row inn n r b ks
  bi : BI P Q b
  ki : KI b K
  kl : K.length ≤ 3000000 + n
  kids : r.kids = ka.drop u
  u : u ≤ ka.length
  cl : r.cl = (rowAt l row).cl.data.toList.drop c
  c : c ≤ (rowAt l row).cl.size
  gt : ∀ k ∈ r.kids, row < k
  new : ∀ k, r.opened < k → b.sc (row, k) = none
theorem head_rev {ks : List Int} (h : ks ≠ []) : (ks.reverse)[ks.length - 1]? = some (ks.headD 0) := by
  cases ks with
  | nil => exact absurd rfl h
  | cons a t => simp
theorem opn_head {K : List Key} {row : Int} {ks : List Int} (h : ks ≠ []) : (opnL K row ks)[ks.length - 1]? = some ((idxK (row, ks.headD 0) K : Nat) : Int) := by
  unfold opnL
  rw [List.getElem?_map, head_rev h]; rfl
theorem opn_len {K : List Key} {row : Int} {ks : List Int} : (opnL K row ks).length = ks.length := by simp [opnL]
theorem getD_of {l : List Int} {i : Nat} {x : Int} (h : l[i]? = some x) : l.getD i 0 = x := by rw [List.getD_eq_getElem?_getD, h]; rfl
section
variable {w0 w : World} {L R : List HP} {gb gr : Nat} {ps ls sB sS sk so sz : Sl} {q : Bool} {row : Int} {inn : Key} {r : Rn} {b : Bk} {K : List Key} {ks ka : List Int} {u c n : Nat} {P : List FnR} {l : List Rb} {Q : Int → Prop} {k : Bool → World → Prop}
theorem Rx.key (h : Rx P l Q row inn n r b K ks ka u c) : (row, ks.headD 0) ∈ K := by
  obtain ⟨x, hx⟩ := h.ri.own.some
  exact (h.ki.mem _).2 (.inr (by rw [hx]; rfl))
theorem Rx.inne (h : Rx P l Q row inn n r b K ks ka u c) (hr : 0 ≤ row) : inn.1 ≠ row := by
  intro e
  have hle := h.ri.own.le
  have hO := h.ri.own
  have key : ∀ {ks : List Int}, Own b.sc row inn ks → ∃ q, b.sc (row, 0) = some (inn, q) := by
    intro ks
    induction ks with
    | nil => intro h; exact h.elim
    | cons a t ih =>
      intro h
      cases t with
      | nil => obtain ⟨a0, q, h⟩ := h; subst a0; exact ⟨q, h⟩
      | cons a' t => exact ih h.2.2
  obtain ⟨q, hq⟩ := key hO
  obtain ⟨_, _, h3⟩ := h.bi.sc.up _ _ hq
  rcases h3 with h3 | ⟨h4, h3 | h3⟩
  · dsimp only at h3; rw [h3] at e; dsimp only at e; omega
  · dsimp only at h3; omega
  · dsimp only at h3
    obtain ⟨y, hy⟩ := Option.isSome_iff_exists.1 h4
    have := (h.bi.sc.up _ _ hy).2.1
    dsimp only at this; omega
theorem Rx.same {f' : List Int} {kind v : Int} {r1 : Rn} (h : Rx P l Q row inn n r b K ks ka u c) (hA : Accs P) (hN : ∀ g ∈ P, InI g.needs) (hQ : ∀ j, Q j → (rowAt l j).kind ≤ 4) (h0 : 0 ≤ row) (hn : (n : Int) < 1048576) (hr : r1 = { r with f := f', kind := kind, v := v }) (hs : fstp P l q row r b = some (r1, b)) : Rx P l Q row inn (n + 1) r1 b K ks ka u c := by
  subst hr
  obtain ⟨_, ⟨ks', h1⟩, h2, _⟩ := fstp_ri hA hN hQ h0 hn h.ri h.bi h.gt hs
  have e : ks' = ks := by
    refine Own.uniq (h.inne h0) h1.own h.ri.own ?_
    have a := h1.last
    have c := h.ri.last
    rw [show ({ r with f := f', kind := kind, v := v } : Rn).last = r.last from rfl, c] at a
    exact (congrArg Prod.snd a).symm
  subst e
  exact ⟨h1, h2, h.ki, by have := h.kl; omega, h.kids, h.u, h.cl, h.c, h.gt, h.new⟩
theorem rins_s {kk : Addr → World → Prop} (hF : Funcs5 w0 ps P) (hA : Accs P) (hx : Rx P l Q row inn n r b K ks ka u c) (hk0 : r.kind = 0) (h : St w0 w (RP gb gr ps ls sB sS q l.length b K ka sk so sz row ks r u c R)) (hk : ∀ g w', St w0 w' (blk g (ints (insAt P r.f)) :: RP gb gr ps ls sB sS q l.length b K ka sk so sz row ks r u c R) → kk ⟨g, 0, none⟩ w') :
    nn (some ⟨gb, 0, none⟩) fun a2 =>
    ldS w (Addr.add (Addr.add a2 0) 0) fun s3 =>
    nn (some ⟨gr, 0, none⟩) fun a4 =>
    ldI .i64 w (Addr.add (Addr.add a4 0) 0) fun i5 =>
    ixS s3 i5 2 fun a6 =>
    ldS w (Addr.add a6 1) fun s7 =>
    nn (some ⟨gr, 0, none⟩) fun a8 =>
    ldI .i64 w (Addr.add (Addr.add a8 0) 1) fun i9 =>
    ixS s7 i9 5 fun a10 =>
    ldA 5 w a10 fun cs11 =>
    newC w #[(.int .i64 (0 : Int)), (.int .i64 (0 : Int)), (.int .i64 (0 : Int)), (.int .i64 (0 : Int)), (.int .i64 (0 : Int))] 42 fun a12 w13 =>
    samec 5 a10 w w13 (
    samec 1 (Addr.add (Addr.add a8 0) 1) w w13 (
    samec 1 (Addr.add a6 1) w w13 (
    samec 1 (Addr.add (Addr.add a4 0) 0) w w13 (
    samec 1 (Addr.add (Addr.add a2 0) 0) w w13 (
    stA 5 w13 a12 cs11 fun w14 => kk a12 w14))))) := by
  have hf := hx.ri.fb.len
  obtain ⟨g', hv, ha⟩ := (hx.ri.fi hk0).at hA
  have hg := ha.at0
  have hgm := List.mem_of_getElem? hg
  have hcode := (hF.code g' hgm).2
  have h5 := (hcode.five _ (List.mem_of_getElem? ha.ins)).1
  refine nn_i ?_
  refine ldS_h (g := gb) (o := 0 + 0 + 0) h rfl ?_
  refine nn_i ?_
  refine ldI_h (g := gr) (o := 0 + 0 + 0) h (rr_get (j := 0) hf (by decide)) ?_
  refine ixR_h (e := g'.cells) hF.rws h hx.ri.fb.f0 (by rw [List.getElem?_map, hg]; rfl) fun p hp => ?_
  refine ldS_i (s := g'.sl) (hp h (j := 1) rfl) ?_
  refine nn_i ?_
  refine ldI_h (g := gr) (o := 0 + 0 + 1) h (rr_get (j := 1) hf (by decide)) ?_
  refine ixR_h (e := ints (insAt P r.f)) hcode.rws h ha.walk.a0 (by rw [List.getElem?_map, ha.ins]; rfl) fun p2 hp2 => ?_
  refine ldA_c (e := ints (insAt P r.f)) (by simp [ints, h5]) (fun j v hv => hp2 h hv) ?_
  refine newC_h h fun g12 w13 h2 => ?_
  refine samecT (e := ints (insAt P r.f)) (fun j v hv => hp2 h hv) (fun j v hv => hp2 h2 hv) (by simp [ints, h5]) ?_
  refine samec_h (g := gr) (o := 0 + 0 + 1) h h2 ?_
  refine samec_1 (hp h (j := 1) rfl) (hp h2 (j := 1) rfl) ?_
  refine samec_h (g := gr) (o := 0 + 0 + 0) h h2 (samec_h (g := gb) (o := 0 + 0 + 0) h h2 ?_)
  refine stW_h (n := 5) (g := g12) h2 rfl (by simp [ints, h5]) (Ck.one_agI _) fun w14 h2 => ?_
  exact hk g12 w14 h2
end
end Go.Proofs.YtgkfbagclkjilaaGreatDoor.Ft
namespace Go.Proofs.YtgkfbagclkjilaaGreatDoor.Ft
open Go Go.Ev Go.Proofs Go.Proofs.YtgkfbagclkjilaaGreatDoor
open Go.Proofs.YtgkfbagclkjilaaGreatDoor.Fr (fTo fOn fPlain fForked fJoined fClosed fChild fRoot fR isB fTo_len fOn_len fPlain_len fForked_len fJoined_len fClosed_len)
open Go.Proofs.YtgkfbagclkjilaaGreatDoor.Ck (opI Walk Accs needsOf isGoes heldL depths stepD handlesOk subBits scopesOk forks)
theorem rspl {cf : List Int} {c : Array Value → Prop} (hc : cf.length = 19) (h : c (ints cf ++ ([.int .i64 0, .int .i64 0] : List Value)).toArray) : spl Z21.toArray 0 19 (agI cf) c := by
  have hl : (ints cf).length = 19 := by simp [ints, hc]
  refine spl_V (acc := Z21) (cs := ints cf) (ints cf ++ ([.int .i64 0, .int .i64 0] : List Value)) hl (by decide) ?_ h
  rw [List.take_zero, List.nil_append]; rfl
theorem rspl_set {cf : List Int} {x y : Value} (hc : cf.length = 19) : Array.setIfInBounds (Array.setIfInBounds (ints cf ++ ([.int .i64 0, .int .i64 0] : List Value)).toArray 19 x) 20 y = (ints cf ++ ([x, y] : List Value)).toArray := by
  have hl : (ints cf).length = 19 := by simp [ints, hc]
  rw [List.setIfInBounds_toArray, List.setIfInBounds_toArray, List.set_append_right _ _ (by omega), List.set_append_right _ _ (by omega), hl]
  rfl
theorem begsV_put {b : Bk} {K : List Key} {n : Nat} {j : Int} {x : List Int × Key} (h0 : 0 ≤ j) (h1 : j < n) (hb : ∀ i x, b.beg i = some x → x.1.length = 19) : (begsV b K n).take (j.toNat * 21) ++ ((ints x.1 ++ ([.int .i64 x.2.2, .int .i64 ((idxK x.2 K : Nat) : Int)] : List Value)) ++ (begsV b K n).drop (j.toNat * 21 + 21)) = begsV { b with beg := upd b.beg j x } K n := by
  unfold begsV
  rw [flat_put (begsV_rows hb) (by simp; omega)]
  congr 1
  refine List.ext_getElem? fun i => ?_
  rw [List.getElem?_set, List.length_map, List.length_range]
  by_cases hi : i < n
  · rw [List.getElem?_map, List.getElem?_map, List.getElem?_range hi]
    simp only [Option.map_some]
    by_cases e : j.toNat = i
    · rw [if_pos e, if_pos (by omega)]
      unfold bgV upd
      dsimp only
      rw [if_pos (by omega)]
    · rw [if_neg e]
      unfold bgV upd
      dsimp only
      rw [if_neg (by omega)]
  · rw [List.getElem?_map, List.getElem?_map, List.getElem?_eq_none (by simp; omega)]
    rw [if_neg (by omega)]
    rfl
section
variable {w0 w : World} {L R : List HP} {gb gr gi : Nat} {ps ls sB sS sk so sz : Sl} {q : Bool} {row : Int} {inn : Key} {r : Rn} {b : Bk} {K : List Key} {ks ka : List Int} {u c n : Nat} {P : List FnR} {l : List Rb} {Q : Int → Prop} {k : Bool → World → Prop} {i : List Int}
theorem Rx.so_n (hx : Rx P l Q row inn n r b K ks ka u c) {X : List HP} {f : HP → List HP} (h : St w0 w X) [a : At X (slc 1 so) (ints (opnL K row ks)) f] : so.n = ks.length := by
  have := h.slen (sz := 1) (s := so) (vs := ints (opnL K row ks))
  simp [ints, opn_len] at this
  omega
theorem Rx.ks1 (hx : Rx P l Q row inn n r b K ks ka u c) : 1 ≤ ks.length ∧ ks.length ≤ n + 1 := by
  have h1 := List.length_pos_iff.2 hx.ri.own.ne
  have h2 := hx.ri.own.len
  have := hx.ri.op
  omega
theorem Rx.last_idx (hx : Rx P l Q row inn n r b K ks ka u c) (hn : (n : Int) < 1048576) (hso : so.n = ks.length) : IntKind.wrap .i64 (((so.n : Nat) : Int) - (1 : Int)) = ((ks.length - 1 : Nat) : Int) := by
  have := hx.ks1
  rw [wrap_id ⟨by omega, by omega⟩]; omega
theorem rfork_s (hF : Funcs5 w0 ps P) (hA : Accs P) (hN : ∀ g ∈ P, InI g.needs) (hQ : ∀ j, Q j → 0 ≤ j ∧ j < l.length) (hQ4 : ∀ j, Q j → (rowAt l j).kind ≤ 4) (hl : l.length ≤ 1000000) (h0 : 0 ≤ row) (hn : (n : Int) < 1048576) (hx : Rx P l Q row inn n r b K ks ka u c) (hka : ka.length ≤ 1000000) (hk0 : r.kind = 0) (hi : insAt P r.f = i) (hp : (fPlain r.f i).2 = false) (ho : i.getD 0 0 = 8)
    (h : St w0 w (blk gi (ints i) :: RP gb gr ps ls sB sS q l.length b K ka sk so sz row ks r u c R))
    (hf : ∀ w', fstp P l q row r b = none → Ext w0 w' → k false w')
    (ht : ∀ w' r' b' u', fstp P l q row r b = some (r', b') → Rx P l Q row inn (n + 1) r' b' K ks ka u' c → St w0 w' (RP gb gr ps ls sB sS q l.length b' K ka sk so sz row ks r' u' c R) → k true w') :
      drew w fun w38 =>
      nn (some ⟨gr, 0, none⟩) fun a39 =>
      ldI .i64 w38 (Addr.add a39 20) fun i40 =>
      nn (some ⟨gr, 0, none⟩) fun a41 =>
      ldS w38 (Addr.add a41 19) fun s42 =>
      iteB (decide (i40 ≥ ((s42.n : Nat) : Int))) (
        (k false w38)) (
        drew w38 fun w43 =>
        nn (some ⟨gr, 0, none⟩) fun a44 =>
        ldS w43 (Addr.add a44 19) fun s45 =>
        nn (some ⟨gr, 0, none⟩) fun a46 =>
        ldI .i64 w43 (Addr.add a46 20) fun i47 =>
        ixS s45 i47 1 fun a48 =>
        ldI .i64 w43 a48 fun i49 =>
        nn (some ⟨gr, 0, none⟩) fun a50 =>
        ldI .i64 w43 (Addr.add a50 20) fun i51 =>
        nn (some ⟨gr, 0, none⟩) fun a52 =>
        stC w43 (Addr.add a52 20) (.int .i64 (IntKind.wrap .i64 (i51 + (1 : Int)))) fun w53 =>
        drew w53 fun w54 =>
        nn (some ⟨gb, 0, none⟩) fun a55 =>
        ldS w54 (Addr.add a55 2) fun s56 =>
        nn (some ⟨gr, 0, none⟩) fun a57 =>
        ldA 19 w54 (Addr.add a57 0) fun cs58 =>
        ldI .i64 w54 (Addr.add ⟨gi, 0, none⟩ 4) fun i59 =>
        nn (some ⟨gb, 0, none⟩) fun a60 =>
        ldS w54 (Addr.add (Addr.add a60 0) 0) fun s61 =>
        ldI .i64 w54 (Addr.add ⟨gi, 0, none⟩ 4) fun i62 =>
        ixS s61 i62 2 fun a63 =>
        ldI .i64 w54 (Addr.add a63 0) fun i64 =>
        nn (some ⟨gr, 0, none⟩) fun a65 =>
        ldS w54 (Addr.add a65 23) fun s66 =>
        ixS s66 (IntKind.wrap .i64 (((so.n : Nat) : Int) - (1 : Int))) 1 fun a67 =>
        ldI .i64 w54 a67 fun i68 =>
        nn (some ⟨gr, 0, none⟩) fun a69 =>
        ldS w54 (Addr.add a69 22) fun s70 =>
        ixS s70 (IntKind.wrap .i64 (((so.n : Nat) : Int) - (1 : Int))) 1 fun a71 =>
        ldI .i64 w54 a71 fun i72 =>
        pelotonref05_Task_Child cs58 i59 i64 w54 fun cs73 w74 =>
        samec 1 a71 w54 w74 (
        samec 1 (Addr.add a69 22) w54 w74 (
        samec 1 a67 w54 w74 (
        samec 1 (Addr.add a65 23) w54 w74 (
        samec 1 (Addr.add a55 2) w54 w74 (
        spl Z21.toArray 0 19 cs73 fun cs75 =>
        samec 1 (Addr.add a55 2) w54 w74 (
        ixS s56 i49 21 fun a76 =>
        stA 21 w74 a76 (Array.setIfInBounds (Array.setIfInBounds cs75 19 (.int .i64 i68)) 20 (.int .i64 i72)) fun w77 =>
        drew w77 fun w78 =>
        nn (some ⟨gr, 0, none⟩) fun a79 =>
        ldA 19 w78 (Addr.add a79 0) fun cs80 =>
        ldA 5 w78 ⟨gi, 0, none⟩ fun cs81 =>
        pelotonref05_Task_Forked cs80 cs81 i49 w78 fun cs82 w83 =>
        nn (some ⟨gr, 0, none⟩) fun a84 =>
        stA 19 w83 (Addr.add a84 0) cs82 fun w85 =>
        (k true w85)))))))) := by
  have hfl := hx.ri.fb.len
  obtain ⟨g', hv, ha⟩ := (hx.ri.fi hk0).at hA
  rw [hi] at ha
  have h5 : i.length = 5 := by
    have hcode := (hF.code g' (List.mem_of_getElem? ha.at0)).2
    exact (hcode.five _ (List.mem_of_getElem? ha.ins)).1
  obtain ⟨g2, hg2, h40, hnd, hA0, hA1, _⟩ := fat_fork ha ho
  have hks := hx.ks1
  have hki := hx.kids
  have hstp : fstp P l q row r b = fact P l q row i r b := by unfold fstp; rw [hi, if_neg (by omega), if_neg (by rw [hp]; decide)]
  rw [hstp] at hf ht
  have hsk : ∀ {w'}, St w0 w' (blk gi (ints i) :: RP gb gr ps ls sB sS q l.length b K ka sk so sz row ks r u c R) → sk.n = ka.length := fun h => by
    have := h.slen (sz := 1) (s := sk) (vs := ints ka)
    simp [ints] at this; omega
  refine drew_h h fun w38 h => ?_
  have hskn := hsk h
  refine nn_i ?_
  refine ldI_h (g := gr) (o := 0 + 20) h (rr_hi (j := 1) hfl) ?_
  refine nn_i ?_
  refine ldS_h (g := gr) (o := 0 + 19) h (rr_hi (j := 0) hfl) ?_
  refine iteB_i (fun hb => ?_) fun hb => ?_
  · have hge : u ≥ ka.length := by have := of_decide_eq_true hb; dsimp only at this; omega
    have hkn : r.kids = [] := by rw [hki, List.drop_of_length_le hge]
    exact hf _ (by unfold fact; rw [if_pos ho, hkn]) h.ext
  have hlt : u < ka.length := by have := of_decide_eq_false hb; dsimp only at this; omega
  have hkk : r.kids = ka.getD u 0 :: ka.drop (u + 1) := by
    rw [hki, List.drop_eq_getElem_cons hlt, List.getD_eq_getElem?_getD, List.getElem?_eq_getElem hlt]; rfl
  generalize hkid : ka.getD u 0 = kid at hkk
  obtain ⟨kq0, kq1⟩ := hQ kid (hx.ri.kids kid (by rw [hkk]; simp))
  have hres : fact P l q row i r b = some ({ r with f := fForked r.f i kid, kids := ka.drop (u + 1) }, { b with beg := upd b.beg kid (fChild r.f (i.getD 4 0) (needsOf P (i.getD 4 0)), r.last) }) := by
    unfold fact; rw [if_pos ho, hkk]
  refine drew_h h fun w43 h => ?_
  refine nn_i ?_
  refine ldS_h (g := gr) (o := 0 + 19) h (rr_hi (j := 0) hfl) ?_
  refine nn_i ?_
  refine ldI_h (g := gr) (o := 0 + 20) h (rr_hi (j := 1) hfl) ?_
  refine ixI_h (s := sk) (xs := ka) h (by omega) (by omega) ?_
  rw [Int.toNat_natCast, hkid]
  refine nn_i ?_
  refine ldI_h (g := gr) (o := 0 + 20) h (rr_hi (j := 1) hfl) ?_
  refine nn_i ?_
  refine stC_h (g := gr) (o := 0 + 20) h rfl (by rw [rr_len hfl]; decide) fun w53 h => ?_
  have eu : IntKind.wrap .i64 ((u : Int) + 1) = ((u + 1 : Nat) : Int) := by rw [wrap_id ⟨by omega, by omega⟩]; simp
  rw [rr_set (j := 1) hfl, eu] at h
  have h : St w0 w53 (blk gi (ints i) :: RP gb gr ps ls sB sS q l.length b K ka sk so sz row ks r (u + 1) c R) := h
  refine drew_h h fun w54 h => ?_
  refine nn_i ?_
  refine ldS_h (g := gb) (o := 0 + 2) h rfl ?_
  refine nn_i ?_
  refine ldA_h (n := 19) (g := gr) (o := 0 + 0) h (by rw [rr_len hfl]; decide) ?_
  rw [rr_f hfl]
  refine ldI_h (g := gi) (o := 0 + 4) h (ints_getD (by omega)) ?_
  refine nn_i ?_
  refine ldS_h (g := gb) (o := 0 + 0 + 0) h rfl ?_
  refine ldI_h (g := gi) (o := 0 + 4) h (ints_getD (by omega)) ?_
  refine ixR_h (e := g2.cells) hF.rws h h40 (by rw [List.getElem?_map, hg2]; rfl) fun p hp => ?_
  refine ldI_i (hp h (j := 0) rfl) ?_
  refine nn_i ?_
  refine ldS_h (g := gr) (o := 0 + 23) h (rr_hi (j := 4) hfl) ?_
  have hso := hx.so_n (so := so) h
  have hszn : sz.n = ks.length := by
    have := h.slen (sz := 1) (s := sz) (vs := ints ks.reverse)
    simp [ints] at this; omega
  rw [hx.last_idx hn hso]
  have e1 : (ints ks.reverse)[((ks.length - 1 : Nat) : Int).toNat * 1 + 0]? = some (.int .i64 (ks.headD 0)) := by
    rw [Int.toNat_natCast, Nat.mul_one, Nat.add_zero]
    simp only [ints, List.getElem?_map, head_rev hx.ri.own.ne]; rfl
  have e2 : (ints (opnL K row ks))[((ks.length - 1 : Nat) : Int).toNat * 1 + 0]? = some (.int .i64 ((idxK (row, ks.headD 0) K : Nat) : Int)) := by
    rw [Int.toNat_natCast, Nat.mul_one, Nat.add_zero]
    simp only [ints, List.getElem?_map, opn_head hx.ri.own.ne]; rfl
  refine ixS_h (sz := 1) (s := sz) (vs := ints ks.reverse) h (by decide) (by omega) (by omega) fun ga1 o1 _ hrd1 _ => ?_
  refine ldI_i (hrd1 h 0 _ (by decide) e1) ?_
  refine nn_i ?_
  refine ldS_h (g := gr) (o := 0 + 22) h (rr_hi (j := 3) hfl) ?_
  refine ixS_h (sz := 1) (s := so) (vs := ints (opnL K row ks)) h (by decide) (by omega) (by omega) fun ga2 o2 _ hrd2 _ => ?_
  refine ldI_i (hrd2 h 0 _ (by decide) e2) ?_
  refine Fr.rchild_s hfl (hN _ (List.mem_of_getElem? hg2)) fun w74 he => ?_
  have h2 := ext_of h he
  refine samec_1 (hrd2 h 0 _ (by decide) e2) (hrd2 h2 0 _ (by decide) e2) ?_
  refine samec_h (g := gr) (o := 0 + 22) h h2 ?_
  refine samec_1 (hrd1 h 0 _ (by decide) e1) (hrd1 h2 0 _ (by decide) e1) ?_
  refine samec_h (g := gr) (o := 0 + 23) h h2 (samec_h (g := gb) (o := 0 + 2) h h2 ?_)
  obtain ⟨c1, _⟩ := child_get (f := r.f) (n := i.getD 4 0) (needs := g2.needs) hfl
  refine rspl c1 ?_
  refine samec_h (g := gb) (o := 0 + 2) h h2 ?_
  rw [rspl_set c1]
  have hbl : ∀ j x, b.beg j = some x → x.1.length = 19 := fun j x hj => (hx.bi.beg j x hj).1.len
  have hBn : sB.n = l.length := by
    have := h2.slen (sz := 21) (s := sB) (vs := begsV b K l.length)
    rw [begsV_len hbl] at this; omega
  have hlc : (ints (fChild r.f (i.getD 4 0) g2.needs)).length = 19 := by simp only [ints, List.length_map, c1]
  refine ixStA_h (s := sB) (vs := begsV b K l.length) h2 (by decide) kq0 (by omega) (by rw [List.size_toArray, List.length_append, hlc]; rfl) (by
    intro v hv
    rcases List.mem_append.1 (by simpa using hv : v ∈ ints (fChild r.f (i.getD 4 0) g2.needs) ++ ([.int .i64 (ks.headD 0), .int .i64 ((idxK (row, ks.headD 0) K : Nat) : Int)] : List Value)) with hv | hv
    · exact Ck.one_agI _ v (by simpa [agI] using hv)
    · simp at hv; rcases hv with rfl | rfl <;> rfl) fun w77 h => ?_
  have elast : r.last = (row, ks.headD 0) := hx.ri.last
  have eput := begsV_put (b := b) (K := K) (n := l.length) (j := kid) (x := (fChild r.f (i.getD 4 0) (needsOf P (i.getD 4 0)), r.last)) kq0 (by omega) hbl
  rw [elast, hnd] at eput
  dsimp only at eput
  have h : St w0 w77 (blk gi (ints i) :: RP gb gr ps ls sB sS q l.length { b with beg := upd b.beg kid (fChild r.f (i.getD 4 0) (needsOf P (i.getD 4 0)), r.last) } K ka sk so sz row ks r (u + 1) c R) := by
    rw [hnd, elast]
    rw [List.toList_toArray, eput] at h
    exact h
  refine drew_h h fun w78 h => ?_
  refine nn_i ?_
  refine ldA_h (n := 19) (g := gr) (o := 0 + 0) h (by rw [rr_len hfl]; decide) ?_
  rw [rr_f hfl]
  refine ldW_h (g := gi) h (by simp [ints, h5]) ?_
  refine Fr.rforked_s hfl h5 fun w83 he => ?_
  have h := ext_of h he
  refine nn_i ?_
  refine stA_h (n := 19) (g := gr) (o := 0 + 0) (vs := agI (fForked r.f i kid)) h (by simp [agI, ints, fForked_len, hfl]) (by rw [rr_len hfl]; decide) (Ck.one_agI _) fun w85 h => ?_
  rw [rr_setf hfl (by rw [fForked_len, hfl])] at h
  have hfst : fstp P l q row r b = some ({ r with f := fForked r.f i kid, kids := ka.drop (u + 1) }, { b with beg := upd b.beg kid (fChild r.f (i.getD 4 0) (needsOf P (i.getD 4 0)), r.last) }) := by rw [hstp, hres]
  obtain ⟨_, ⟨ks', h1⟩, hb2, _⟩ := fstp_ri hA hN hQ4 h0 hn hx.ri hx.bi hx.gt hfst
  have eks : ks' = ks := by
    refine Own.uniq (hx.inne h0) h1.own hx.ri.own ?_
    have a := h1.last
    rw [show ({ r with f := fForked r.f i kid, kids := ka.drop (u + 1) } : Rn).last = r.last from rfl, elast] at a
    exact (congrArg Prod.snd a).symm
  subst eks
  exact ht w85 _ _ (u + 1) hres ⟨h1, hb2, ⟨hx.ki.w0, hx.ki.nd, hx.ki.mem, hx.ki.up⟩, by have := hx.kl; omega, rfl, by omega, hx.cl, hx.c, fun j hj => hx.gt j (by rw [hkk]; exact List.mem_cons_of_mem _ hj), hx.new⟩ h.drop
end
end Go.Proofs.YtgkfbagclkjilaaGreatDoor.Ft
namespace Go.Proofs.YtgkfbagclkjilaaGreatDoor.Ft
open Go Go.Ev Go.Proofs Go.Proofs.YtgkfbagclkjilaaGreatDoor
open Go.Proofs.YtgkfbagclkjilaaGreatDoor.Fr (fTo fOn fPlain fForked fJoined fClosed fChild fRoot fR isB fTo_len fOn_len fPlain_len fForked_len fJoined_len fClosed_len)
open Go.Proofs.YtgkfbagclkjilaaGreatDoor.Ck (opI Walk Accs needsOf isGoes heldL depths stepD handlesOk subBits scopesOk forks)
structure Cx (P : List FnR) (l : List Rb) (Q : Int → Prop) (w0 : World) (ps ls : Sl) (row : Int) : Prop where
  fn : Funcs5 w0 ps P
  tb : Tbl w0 ls l
  acc : Accs P
  nd : ∀ g ∈ P, InI g.needs
  q : ∀ j, Q j → 0 ≤ j ∧ j < l.length
  q4 : ∀ j, Q j → (rowAt l j).kind ≤ 4
  len : l.length ≤ 1000000
  r0 : 0 ≤ row
  r1 : row < l.length
  told : is01 (rowAt l row).cl = true
  csz : (rowAt l row).cl.size < 1000000000
theorem told_nth {cl : ByteArray} {j : Nat} (h : is01 cl = true) (hj : j < cl.size) : ∃ x : UInt8, cl.data.toList[j]? = some x ∧ (x = 48 ∨ x = 49) ∧ cl.data.toList.drop j = x :: cl.data.toList.drop (j + 1) := by
  have hl : cl.size = cl.data.toList.length := by rw [Array.length_toList]; rfl
  have hlt : j < cl.data.toList.length := by omega
  refine ⟨cl.data.toList[j], List.getElem?_eq_getElem hlt, ?_, List.drop_eq_getElem_cons hlt⟩
  unfold is01 at h
  rw [List.all_eq_true] at h
  have := h _ (List.getElem_mem hlt)
  simpa using this
section
variable {w0 w : World} {R : List HP} {gb gr gi : Nat} {ps ls sB sS sk so sz : Sl} {q : Bool} {row : Int} {inn : Key} {r : Rn} {b : Bk} {K : List Key} {ks ka : List Int} {u c n : Nat} {P : List FnR} {l : List Rb} {Q : Int → Prop} {k : Bool → World → Prop} {i : List Int}
theorem rjoin_s {z7 z19 : Array Value} (hz7 : z7.toList.length = 7) (hz19 : z19.toList.length = 19) (hC : Cx P l Q w0 ps ls row) (hn : (n : Int) < 1048576) (hx : Rx P l Q row inn n r b K ks ka u c) (hk0 : r.kind = 0) (hi : insAt P r.f = i) (hp : (fPlain r.f i).2 = false) (ho : i.getD 0 0 = 9 ∨ i.getD 0 0 = 10)
    (h : St w0 w (blk gi (ints i) :: RP gb gr ps ls sB sS q l.length b K ka sk so sz row ks r u c R))
    (hf : ∀ w', fstp P l q row r b = none → Ext w0 w' → k false w')
    (ht : ∀ w' r', fstp P l q row r b = some (r', b) → Rx P l Q row inn (n + 1) r' b K ks ka u c → St w0 w' (RP gb gr ps ls sB sS q l.length b K ka sk so sz row ks r' u c R) → k true w') :
        ldI .i64 w (Addr.add ⟨gi, 0, none⟩ 2) fun i89 =>
        ldI .i64 w (Addr.add ⟨gi, 0, none⟩ 0) fun i90 =>
        joinP (S := Int) (fun J91 =>
          iteB (i90 == (10 : Int)) (
            ldI .i64 w (Addr.add ⟨gi, 0, none⟩ 3) fun i92 =>
            (J91 i92 w)) (
            (J91 i89 w))) fun i93 w94 =>
        drew w94 fun w95 =>
        nn (some ⟨gb, 0, none⟩) fun a96 =>
        ldS w95 (Addr.add a96 1) fun s97 =>
        nn (some ⟨gr, 0, none⟩) fun a98 =>
        ixP (Addr.add (Addr.add a98 0) 10) 8 i93 1 fun a99 =>
        ldI .i64 w95 a99 fun i100 =>
        ixS s97 i100 7 fun a101 =>
        ldA 7 w95 a101 fun cs102 =>
        newC w95 z7 40 fun a103 w104 =>
        samec 7 a101 w95 w104 (
        samec 1 a99 w95 w104 (
        samec 1 (Addr.add a96 1) w95 w104 (
        stA 7 w104 a103 cs102 fun w105 =>
        ldA 7 w105 a103 fun cs106 =>
        pelotonref07_Came cs106 w105 fun b107 w108 =>
        iteB (!b107) (
          (k false w108)) (
          joinP (S := (Addr × (Int × Bool))) (fun J109 =>
            drew w108 fun w110 =>
            nn (some ⟨gr, 0, none⟩) fun a111 =>
            ldA 19 w110 (Addr.add a111 0) fun cs112 =>
            ldA 5 w110 ⟨gi, 0, none⟩ fun cs113 =>
            ldI .i64 w110 (Addr.add a103 3) fun i114 =>
            ldI .i64 w110 (Addr.add a103 4) fun i115 =>
            both (
              pelotonref05_Task_Joined cs112 cs113 i114 i115 w110 fun x116 w117 =>
              newC w117 z19 57 fun a118 w119 =>
              samec 1 (Addr.add a103 4) w110 w119 (
              samec 1 (Addr.add a103 3) w110 w119 (
              samec 5 ⟨gi, 0, none⟩ w110 w119 (
              samec 19 (Addr.add a111 0) w110 w119 (
              stA 19 w119 a118 (x116.1, (x116.2.1, x116.2.2)).1 fun w120 =>
              (J109 (a118, ((x116.1, (x116.2.1, x116.2.2)).2.1, (x116.1, (x116.2.1, x116.2.2)).2.2)) w120)))))) (
              newC w110 z19 57 fun a121 w122 =>
              samec 1 (Addr.add a103 4) w110 w122 (
              samec 1 (Addr.add a103 3) w110 w122 (
              samec 5 ⟨gi, 0, none⟩ w110 w122 (
              samec 19 (Addr.add a111 0) w110 w122 (
              pelotonref05_Task_Joined cs112 cs113 i114 i115 w122 fun x123 w124 =>
              stA 19 w124 a121 (x123.1, (x123.2.1, x123.2.2)).1 fun w125 =>
              (J109 (a121, ((x123.1, (x123.2.1, x123.2.2)).2.1, (x123.1, (x123.2.1, x123.2.2)).2.2)) w125))))))) fun x126 w127 =>
          ldA 19 w127 x126.1 fun cs128 =>
          nn (some ⟨gr, 0, none⟩) fun a129 =>
          stA 19 w127 (Addr.add a129 0) cs128 fun w130 =>
          iteB x126.2.2 (
            nn (some ⟨gr, 0, none⟩) fun a131 =>
            stC w130 (Addr.add a131 25) (.int .i64 (3 : Int)) fun w132 =>
            nn (some ⟨gr, 0, none⟩) fun a133 =>
            stC w132 (Addr.add a133 26) (.int .i64 x126.2.1) fun w134 =>
            (k true w134)) (
            (k true w130)))))) := by
  have hfl := hx.ri.fb.len
  obtain ⟨g', hv, ha⟩ := (hx.ri.fi hk0).at hC.acc
  rw [hi] at ha
  have h5 : i.length = 5 := by
    have hcode := (hC.fn.code g' (List.mem_of_getElem? ha.at0)).2
    exact (hcode.five _ (List.mem_of_getElem? ha.ins)).1
  obtain ⟨j0, j1, jq⟩ := fat_join ha ho
  obtain ⟨q0, q1⟩ := hC.q _ jq
  have hstp : fstp P l q row r b = fact P l q row i r b := by unfold fstp; rw [hi, if_neg (by omega), if_neg (by rw [hp]; decide)]
  have hT := hC.tb
  refine ldI_h (g := gi) (o := 0 + 2) h (ints_getD (by omega)) ?_
  refine ldI_h (g := gi) (o := 0 + 0) h (ints_getD (by omega)) ?_
  refine joinP_i (fun z w' => z = hOf i ∧ w' = w) (fun J hJ => ?_) ?_
  · unfold hOf at hJ
    refine iteB_i (fun hb => ?_) fun hb => ?_
    · have hb : i.getD 0 0 = 10 := by simpa using hb
      refine ldI_h (g := gi) (o := 0 + 3) h (ints_getD (by omega)) ?_
      exact hJ _ _ ⟨by rw [if_pos hb], rfl⟩
    · have hb : i.getD 0 0 ≠ 10 := by simpa using hb
      exact hJ _ _ ⟨by rw [if_neg hb], rfl⟩
  rintro _ _ ⟨rfl, rfl⟩
  refine drew_h h fun w95 h => ?_
  refine nn_i ?_
  refine ldS_h (g := gb) (o := 0 + 1) h rfl ?_
  refine nn_i ?_
  refine ixP_i j0 (by omega) ?_
  have ev : (rrunV r sk so sz u c)[0 + 0 + 10 + (hOf i).toNat * 1]? = some (.int .i64 (r.f.getD (10 + (hOf i).toNat) 0)) := by
    rw [show 0 + 0 + 10 + (hOf i).toNat * 1 = 10 + (hOf i).toNat by omega]
    exact rr_get hfl (by omega)
  refine ldI_h (g := gr) (o := 0 + 0 + 10 + (hOf i).toNat * 1) h ev ?_
  generalize hgH : r.f.getD (10 + (hOf i).toNat) 0 = H at *
  refine tA_h hT h q0 q1 fun p hpp => ?_
  refine newC_h h fun g103 w104 h2 => ?_
  refine samecT (e := rbV (rowAt l H)) (fun j v hv => hpp h hv) (fun j v hv => hpp h2 hv) (by rw [rbV_len]; decide) ?_
  refine samec_h (g := gr) (o := 0 + 0 + 10 + (hOf i).toNat * 1) h h2 (samec_h (g := gb) (o := 0 + 1) h h2 ?_)
  refine stW_h (n := 7) (g := g103) h2 hz7 rfl one_rb fun w105 h => ?_
  refine ldW_h (n := 7) (g := g103) h rfl ?_
  refine rcame_s fun w108 he => ?_
  have h := h.on he
  have h : St w0 w108 (blk g103 (rbV (rowAt l H)) :: blk gi (ints i) :: RP gb gr ps ls sB sS q l.length b K ka sk so sz row ks r u c R) := h
  have hfact : fact P l q row i r b = if (rowAt l H).kind < 2 then none else if (fJoined r.f i (rowAt l H).kind (rowAt l H).v).2.2 then some ({ r with f := (fJoined r.f i (rowAt l H).kind (rowAt l H).v).1, kind := 3, v := (fJoined r.f i (rowAt l H).kind (rowAt l H).v).2.1 }, b) else some ({ r with f := (fJoined r.f i (rowAt l H).kind (rowAt l H).v).1 }, b) := by
    unfold fact; rw [if_neg (by omega), if_pos ho, hgH]
  refine iteB_i (fun hb => ?_) fun hb => ?_
  · have hlt : (rowAt l H).kind < 2 := by have := of_decide_eq_false (not_t hb); omega
    exact hf _ (by rw [hstp, hfact, if_pos hlt]) h.ext
  have hge : ¬ (rowAt l H).kind < 2 := by have := of_decide_eq_true (not_f hb); omega
  rw [if_neg hge] at hfact
  generalize hJ : fJoined r.f i (rowAt l H).kind (rowAt l H).v = jn at hfact
  have hjl : jn.1.length = 19 := by rw [← hJ, fJoined_len, hfl]
  refine joinP_i (fun z w' => ∃ g, z = (⟨g, 0, none⟩, jn.2.1, jn.2.2) ∧ St w0 w' (blk g (ints jn.1) :: blk g103 (rbV (rowAt l H)) :: blk gi (ints i) :: RP gb gr ps ls sB sS q l.length b K ka sk so sz row ks r u c R)) (fun J hJ2 => ?_) ?_
  · refine drew_h h fun w110 h => ?_
    refine nn_i ?_
    refine ldA_h (n := 19) (g := gr) (o := 0 + 0) h (by rw [rr_len hfl]; decide) ?_
    rw [rr_f hfl]
    refine ldW_h (g := gi) h (by simp [ints, h5]) ?_
    refine ldI_h (g := g103) (o := 0 + 3) h rfl ?_
    refine ldI_h (g := g103) (o := 0 + 4) h rfl ?_
    refine ⟨?_, ?_⟩
    · refine Fr.rjoined_s hfl h5 fun w117 he => ?_
      rw [hJ]
      have h2 := ext_of h he
      refine newC_h h2 fun g w119 h2 => ?_
      refine samec_h (g := g103) (o := 0 + 4) h h2 (samec_h (g := g103) (o := 0 + 3) h h2 (samec_h (g := gi) (o := 0) h h2 (samec_h (g := gr) (o := 0 + 0) h h2 ?_)))
      refine stW_h (g := g) h2 hz19 (by simp [agI, ints, hjl]) (Ck.one_agI _) fun w120 h2 => ?_
      exact hJ2 _ _ ⟨g, rfl, h2⟩
    · refine newC_h h fun g w122 h2 => ?_
      refine samec_h (g := g103) (o := 0 + 4) h h2 (samec_h (g := g103) (o := 0 + 3) h h2 (samec_h (g := gi) (o := 0) h h2 (samec_h (g := gr) (o := 0 + 0) h h2 ?_)))
      refine Fr.rjoined_s hfl h5 fun w124 he => ?_
      rw [hJ]
      have h2 := ext_of h2 he
      refine stW_h (g := g) h2 hz19 (by simp [agI, ints, hjl]) (Ck.one_agI _) fun w125 h2 => ?_
      exact hJ2 _ _ ⟨g, rfl, h2⟩
  rintro _ w127 ⟨g, rfl, h⟩
  refine ldW_h (g := g) h (by simp [ints, hjl]) ?_
  refine nn_i ?_
  refine stA_h (n := 19) (g := gr) (o := 0 + 0) (vs := agI jn.1) h (by simp [agI, ints, hjl]) (by rw [rr_len hfl]; decide) (Ck.one_agI _) fun w130 h => ?_
  rw [rr_setf hfl hjl] at h
  have hfl2 : ({ r with f := jn.1 } : Rn).f.length = 19 := hjl
  refine iteB_i (fun hb => ?_) fun hb => ?_
  · have hb : jn.2.2 = true := hb
    rw [if_pos hb] at hfact
    refine nn_i ?_
    refine stC_h (g := gr) (o := 0 + 25) h rfl (by rw [rr_len hfl2]; decide) fun w132 h => ?_
    rw [rr_set (j := 6) hfl2] at h
    have h : St w0 w132 (blk g (ints jn.1) :: blk g103 (rbV (rowAt l H)) :: blk gi (ints i) :: RP gb gr ps ls sB sS q l.length b K ka sk so sz row ks { r with f := jn.1, kind := 3 } u c R) := h
    refine nn_i ?_
    refine stC_h (g := gr) (o := 0 + 26) h rfl (by rw [rr_len (r := { r with f := jn.1, kind := 3 }) hfl2]; decide) fun w134 h => ?_
    rw [rr_set (j := 7) (r := { r with f := jn.1, kind := 3 }) hfl2] at h
    have h : St w0 w134 (blk g (ints jn.1) :: blk g103 (rbV (rowAt l H)) :: blk gi (ints i) :: RP gb gr ps ls sB sS q l.length b K ka sk so sz row ks { r with f := jn.1, kind := 3, v := jn.2.1 } u c R) := h
    have hfst := hstp.trans hfact
    exact ht w134 _ hfst (hx.same hC.acc hC.nd hC.q4 hC.r0 hn rfl hfst) h.drop.drop.drop
  · have hb : jn.2.2 = false := hb
    rw [if_neg (by rw [hb]; decide)] at hfact
    have hfst := hstp.trans hfact
    exact ht w130 _ hfst (hx.same (f' := jn.1) (kind := r.kind) (v := r.v) hC.acc hC.nd hC.q4 hC.r0 hn rfl hfst) h.drop.drop.drop
theorem rpass_s (hC : Cx P l Q w0 ps ls row) (hn : (n : Int) < 1048576) (hx : Rx P l Q row inn n r b K ks ka u c) (hk0 : r.kind = 0) (hi : insAt P r.f = i) (hp : (fPlain r.f i).2 = false) (ho : i.getD 0 0 = 14)
    (h : St w0 w (blk gi (ints i) :: RP gb gr ps ls sB sS q l.length b K ka sk so sz row ks r u c R))
    (ht : ∀ w' r', fstp P l q row r b = some (r', b) → Rx P l Q row inn (n + 1) r' b K ks ka u c → St w0 w' (RP gb gr ps ls sB sS q l.length b K ka sk so sz row ks r' u c R) → k true w') :
                nn (some ⟨gr, 0, none⟩) fun a237 =>
                ldA 19 w (Addr.add a237 0) fun cs238 =>
                pelotonref05_Task_On cs238 w fun cs239 w240 =>
                nn (some ⟨gr, 0, none⟩) fun a241 =>
                stA 19 w240 (Addr.add a241 0) cs239 fun w242 =>
                (k true w242) := by
  have hfl := hx.ri.fb.len
  have hfst : fstp P l q row r b = some ({ r with f := fOn r.f }, b) := by
    unfold fstp; rw [hi, if_neg (by omega), if_neg (by rw [hp]; decide)]
    unfold fact; rw [if_neg (by omega), if_neg (by omega), if_neg (by omega), if_neg (by omega), if_neg (by omega), if_pos ho]
  refine nn_i ?_
  refine ldA_h (n := 19) (g := gr) (o := 0 + 0) h (by rw [rr_len hfl]; decide) ?_
  rw [rr_f hfl]
  refine Fr.ron_s hfl fun w240 he => ?_
  have h := ext_of h he
  refine nn_i ?_
  refine stA_h (n := 19) (g := gr) (o := 0 + 0) (vs := agI (fOn r.f)) h (by simp [agI, ints, fOn_len, hfl]) (by rw [rr_len hfl]; decide) (Ck.one_agI _) fun w242 h => ?_
  rw [rr_setf hfl (by rw [fOn_len, hfl])] at h
  exact ht w242 _ hfst (hx.same (f' := fOn r.f) (kind := r.kind) (v := r.v) hC.acc hC.nd hC.q4 hC.r0 hn rfl hfst) h.drop
theorem rleave_s (hC : Cx P l Q w0 ps ls row) (hn : (n : Int) < 1048576) (hx : Rx P l Q row inn n r b K ks ka u c) (hk0 : r.kind = 0) (hi : insAt P r.f = i) (hp : (fPlain r.f i).2 = false) (ho : 15 ≤ i.getD 0 0)
    (h : St w0 w (blk gi (ints i) :: RP gb gr ps ls sB sS q l.length b K ka sk so sz row ks r u c R))
    (ht : ∀ w' r', fstp P l q row r b = some (r', b) → Rx P l Q row inn (n + 1) r' b K ks ka u c → St w0 w' (RP gb gr ps ls sB sS q l.length b K ka sk so sz row ks r' u c R) → k true w') :
                nn (some ⟨gr, 0, none⟩) fun a243 =>
                ldA 19 w (Addr.add a243 0) fun cs244 =>
                pelotonref05_Task_On cs244 w fun cs245 w246 =>
                nn (some ⟨gr, 0, none⟩) fun a247 =>
                stA 19 w246 (Addr.add a247 0) cs245 fun w248 =>
                drew w248 fun w249 =>
                ldI .i64 w249 (Addr.add ⟨gi, 0, none⟩ 1) fun i250 =>
                nn (some ⟨gr, 0, none⟩) fun a251 =>
                ixP (Addr.add (Addr.add a251 0) 2) 8 i250 1 fun a252 =>
                ldI .i64 w249 a252 fun i253 =>
                nn (some ⟨gr, 0, none⟩) fun a254 =>
                stC w249 (Addr.add a254 26) (.int .i64 i253) fun w255 =>
                nn (some ⟨gr, 0, none⟩) fun a256 =>
                stC w255 (Addr.add a256 25) (.int .i64 (2 : Int)) fun w257 =>
                ldI .i64 w257 (Addr.add ⟨gi, 0, none⟩ 0) fun i258 =>
                iteB (i258 == (15 : Int)) (
                  nn (some ⟨gr, 0, none⟩) fun a259 =>
                  stC w257 (Addr.add a259 25) (.int .i64 (3 : Int)) fun w260 =>
                  (k true w260)) (
                  (k true w257)) := by
  have hfl := hx.ri.fb.len
  obtain ⟨g', hv, ha⟩ := (hx.ri.fi hk0).at hC.acc
  rw [hi] at ha
  have h5 : i.length = 5 := by
    have hcode := (hC.fn.code g' (List.mem_of_getElem? ha.at0)).2
    exact (hcode.five _ (List.mem_of_getElem? ha.ins)).1
  have hregs := (Fr.chk_regs (chk_fr ha.chk)).1
  have hfst : fstp P l q row r b = some ({ r with f := fOn r.f, kind := if i.getD 0 0 = 15 then 3 else 2, v := fR r.f (i.getD 1 0) }, b) := by
    unfold fstp; rw [hi, if_neg (by omega), if_neg (by rw [hp]; decide)]
    unfold fact; rw [if_neg (by omega), if_neg (by omega), if_neg (by omega), if_neg (by omega), if_neg (by omega), if_neg (by omega)]
  have hol : (fOn r.f).length = 19 := by rw [fOn_len, hfl]
  refine nn_i ?_
  refine ldA_h (n := 19) (g := gr) (o := 0 + 0) h (by rw [rr_len hfl]; decide) ?_
  rw [rr_f hfl]
  refine Fr.ron_s hfl fun w246 he => ?_
  have h := ext_of h he
  refine nn_i ?_
  refine stA_h (n := 19) (g := gr) (o := 0 + 0) (vs := agI (fOn r.f)) h (by simp [agI, ints, hol]) (by rw [rr_len hfl]; decide) (Ck.one_agI _) fun w248 h => ?_
  rw [rr_setf hfl hol] at h
  have hfl2 : ({ r with f := fOn r.f } : Rn).f.length = 19 := hol
  refine drew_h h fun w249 h => ?_
  refine ldI_h (g := gi) (o := 0 + 1) h (ints_getD (by omega)) ?_
  refine nn_i ?_
  refine ixP_i hregs.1 (by have := hregs.2; show i.getD 1 0 < ((8 : Nat) : Int); omega) ?_
  have ev : (rrunV { r with f := fOn r.f } sk so sz u c)[0 + 0 + 2 + (i.getD 1 0).toNat * 1]? = some (.int .i64 (fR r.f (i.getD 1 0))) := by
    rw [show 0 + 0 + 2 + (i.getD 1 0).toNat * 1 = 2 + (i.getD 1 0).toNat by omega, rr_get hfl2 (by omega)]
    congr 2
    unfold fR fOn
    exact fTo_get (by omega) (by omega)
  refine ldI_h (g := gr) (o := 0 + 0 + 2 + (i.getD 1 0).toNat * 1) h ev ?_
  refine nn_i ?_
  refine stC_h (g := gr) (o := 0 + 26) h rfl (by rw [rr_len hfl2]; decide) fun w255 h => ?_
  rw [rr_set (j := 7) hfl2] at h
  have h : St w0 w255 (blk gi (ints i) :: RP gb gr ps ls sB sS q l.length b K ka sk so sz row ks { r with f := fOn r.f, v := fR r.f (i.getD 1 0) } u c R) := h
  refine nn_i ?_
  refine stC_h (g := gr) (o := 0 + 25) h rfl (by rw [rr_len (r := { r with f := fOn r.f, v := fR r.f (i.getD 1 0) }) hfl2]; decide) fun w257 h => ?_
  rw [rr_set (j := 6) (r := { r with f := fOn r.f, v := fR r.f (i.getD 1 0) }) hfl2] at h
  have h : St w0 w257 (blk gi (ints i) :: RP gb gr ps ls sB sS q l.length b K ka sk so sz row ks { r with f := fOn r.f, kind := 2, v := fR r.f (i.getD 1 0) } u c R) := h
  refine ldI_h (g := gi) (o := 0 + 0) h (ints_getD (by omega)) ?_
  refine iteB_i (fun hb => ?_) fun hb => ?_
  · have hb : i.getD 0 0 = 15 := by simpa using hb
    rw [if_pos hb] at hfst
    refine nn_i ?_
    refine stC_h (g := gr) (o := 0 + 25) h rfl (by rw [rr_len (r := { r with f := fOn r.f, kind := 2, v := fR r.f (i.getD 1 0) }) hfl2]; decide) fun w260 h => ?_
    rw [rr_set (j := 6) (r := { r with f := fOn r.f, kind := 2, v := fR r.f (i.getD 1 0) }) hfl2] at h
    have h : St w0 w260 (blk gi (ints i) :: RP gb gr ps ls sB sS q l.length b K ka sk so sz row ks { r with f := fOn r.f, kind := 3, v := fR r.f (i.getD 1 0) } u c R) := h
    exact ht w260 _ hfst (hx.same hC.acc hC.nd hC.q4 hC.r0 hn rfl hfst) h.drop
  · have hb : i.getD 0 0 ≠ 15 := by simpa using hb
    rw [if_neg hb] at hfst
    exact ht w257 _ hfst (hx.same hC.acc hC.nd hC.q4 hC.r0 hn rfl hfst) h.drop
end
end Go.Proofs.YtgkfbagclkjilaaGreatDoor.Ft
namespace Go.Proofs.YtgkfbagclkjilaaGreatDoor.Ft
open Go Go.Ev Go.Proofs Go.Proofs.YtgkfbagclkjilaaGreatDoor
open Go.Proofs.YtgkfbagclkjilaaGreatDoor.Fr (fTo fOn fPlain fForked fJoined fClosed fChild fRoot fR isB fTo_len fOn_len fPlain_len fForked_len fJoined_len fClosed_len)
open Go.Proofs.YtgkfbagclkjilaaGreatDoor.Ck (opI Walk Accs needsOf isGoes heldL depths stepD handlesOk subBits scopesOk forks)
theorem Own.mem {sc : Key → Option (Key × Bool)} {row : Int} {inn : Key} : ∀ {ks : List Int}, Own sc row inn ks → ∀ k ∈ ks, (sc (row, k)).isSome = true
  | [k], ⟨h0, q, h⟩, j, hj => by simp at hj; subst hj; rw [h]; rfl
  | k :: k' :: r, ⟨_, ⟨q, h⟩, h2⟩, j, hj => by
    rcases List.mem_cons.1 hj with rfl | hj
    · rw [h]; rfl
    · exact Own.mem h2 j hj
theorem opn_app {K : List Key} {row o : Int} {ks : List Int} (hs : (row, o) ∉ K) (hm : ∀ k ∈ ks, (row, k) ∈ K) : opnL (K ++ [(row, o)]) row (o :: ks) = opnL K row ks ++ [(K.length : Int)] := by
  unfold opnL
  rw [List.reverse_cons, List.map_append, List.map_cons, List.map_nil, idxK_new hs]
  congr 1
  refine List.map_congr_left fun k hk => ?_
  rw [idxK_app (hm k (by simpa using hk))]
theorem opn_tail {K : List Key} {row x : Int} {t : List Int} : (opnL K row (x :: t)).take t.length = opnL K row t := by
  unfold opnL
  rw [List.reverse_cons, List.map_append, List.take_append_of_le_length (by simp), List.take_of_length_le (by simp)]
theorem ints_app (a b : List Int) : ints (a ++ b) = ints a ++ ints b := by simp [ints]
theorem ints_take (a : List Int) (n : Nat) : (ints a).take n = ints (a.take n) := by simp [ints, List.map_take]
section
variable {w0 w : World} {R : List HP} {gb gr gi : Nat} {ps ls sB sS sk so sz : Sl} {q : Bool} {row : Int} {inn : Key} {r : Rn} {b : Bk} {K : List Key} {ks ka : List Int} {u c n : Nat} {P : List FnR} {l : List Rb} {Q : Int → Prop} {k : Bool → World → Prop} {i : List Int}
theorem Rx.mem (hx : Rx P l Q row inn n r b K ks ka u c) : ∀ k ∈ ks, (row, k) ∈ K := fun k hk => (hx.ki.mem _).2 (.inr (hx.ri.own.mem k hk))
theorem Rx.beg (hx : Rx P l Q row inn n r b K ks ka u c) : ∀ j x, b.beg j = some x → x.2 ∈ K := fun j x h => (hx.ki.mem _).2 (hx.bi.beg j x h).2.1
theorem Rx.sS_n (hx : Rx P l Q row inn n r b K ks ka u c) {X : List HP} {f : HP → List HP} (h : St w0 w X) [a : At X (slc 2 sS) (scsV b K) f] : sS.n = K.length := by
  have := h.slen (sz := 2) (s := sS) (vs := scsV b K)
  rw [scsV_len] at this
  omega
theorem Rx.lastE (hx : Rx P l Q row inn n r b K ks ka u c) : (opnL K row ks)[ks.length - 1]? = some ((idxK r.last K : Nat) : Int) := by
  rw [hx.ri.last]; exact opn_head hx.ri.own.ne
theorem ropen_s (hC : Cx P l Q w0 ps ls row) (hn : (n : Int) < 1048576) (hx : Rx P l Q row inn n r b K ks ka u c) (hk0 : r.kind = 0) (hi : insAt P r.f = i) (hp : (fPlain r.f i).2 = false) (ho : i.getD 0 0 = 11)
    (h : St w0 w (blk gi (ints i) :: RP gb gr ps ls sB sS q l.length b K ka sk so sz row ks r u c R))
    (ht : ∀ w' r' b' K' ks' sS' so' sz', (∃ e, K' = K ++ e) → fstp P l q row r b = some (r', b') → Rx P l Q row inn (n + 1) r' b' K' ks' ka u c → St w0 w' (RP gb gr ps ls sB sS' q l.length b' K' ka sk so' sz' row ks' r' u c R) → k true w') :
          nn (some ⟨gr, 0, none⟩) fun a135 =>
          ldI .i64 w (Addr.add a135 24) fun i136 =>
          nn (some ⟨gr, 0, none⟩) fun a137 =>
          stC w (Addr.add a137 24) (.int .i64 (IntKind.wrap .i64 (i136 + (1 : Int)))) fun w138 =>
          drew w138 fun w139 =>
          nn (some ⟨gr, 0, none⟩) fun a140 =>
          ldS w139 (Addr.add a140 23) fun s141 =>
          nn (some ⟨gr, 0, none⟩) fun a142 =>
          ldI .i64 w139 (Addr.add a142 24) fun i143 =>
          newC w139 #[(.int .i64 i143)] 3 fun a144 w145 =>
          samec 1 (Addr.add a140 23) w139 w145 (
          bApp Go.Proofs.Tryz.prog #[96, 96] 96 [(.slice s141.a s141.n s141.c), (.slice (some a144) 1 1)] w145 fun s146 w147 =>
          nn (some ⟨gr, 0, none⟩) fun a148 =>
          stC w147 (Addr.add a148 23) (.slice s146.a s146.n s146.c) fun w149 =>
          drew w149 fun w150 =>
          nn (some ⟨gr, 0, none⟩) fun a151 =>
          ldS w150 (Addr.add a151 22) fun s152 =>
          nn (some ⟨gr, 0, none⟩) fun a153 =>
          ldS w150 (Addr.add a153 22) fun s154 =>
          ixS s154 (IntKind.wrap .i64 (((so.n : Nat) : Int) - (1 : Int))) 1 fun a155 =>
          ldI .i64 w150 a155 fun i156 =>
          pelotonref08_Book_scope (some ⟨gb, 0, none⟩) i156 w150 fun i157 w158 =>
          samec 1 (Addr.add a151 22) w150 w158 (
          newC w158 #[(.int .i64 i157)] 3 fun a159 w160 =>
          samec 1 (Addr.add a151 22) w150 w160 (
          bApp Go.Proofs.Tryz.prog #[96, 96] 96 [(.slice s152.a s152.n s152.c), (.slice (some a159) 1 1)] w160 fun s161 w162 =>
          nn (some ⟨gr, 0, none⟩) fun a163 =>
          stC w162 (Addr.add a163 22) (.slice s161.a s161.n s161.c) fun w164 =>
          nn (some ⟨gr, 0, none⟩) fun a165 =>
          ldA 19 w164 (Addr.add a165 0) fun cs166 =>
          pelotonref05_Task_On cs166 w164 fun cs167 w168 =>
          nn (some ⟨gr, 0, none⟩) fun a169 =>
          stA 19 w168 (Addr.add a169 0) cs167 fun w170 =>
          (k true w170)))) := by
  have hfl := hx.ri.fb.len
  have hop := hx.ri.op
  have hks := hx.ks1
  have hle := hx.ri.own.le
  have hh0 : 0 ≤ ks.headD 0 := by
    have := (hle _ (List.head_mem hx.ri.own.ne)).1
    rwa [show ks.head hx.ri.own.ne = ks.headD 0 by cases ks with
      | nil => exact absurd rfl hx.ri.own.ne
      | cons a t => rfl] at this
  have hfst : fstp P l q row r b = some ({ r with f := fOn r.f, opened := r.opened + 1, last := (row, r.opened + 1) }, { b with sc := upd b.sc (row, r.opened + 1) (r.last, false) }) := by
    unfold fstp; rw [hi, if_neg (by omega), if_neg (by rw [hp]; decide)]
    unfold fact; rw [if_neg (by omega), if_neg (by omega), if_pos ho]
  have hnone : b.sc (row, r.opened + 1) = none := hx.new _ (by omega)
  have hr0 := hC.r0
  have hnK : (row, r.opened + 1) ∉ K := fun hm => by
    rcases (hx.ki.mem _).1 hm with e | e
    · have := congrArg Prod.fst e; dsimp only at this; omega
    · rw [hnone] at e; cases e
  have hlK : r.last ∈ K := by rw [hx.ri.last]; exact hx.key
  refine nn_i ?_
  refine ldI_h (g := gr) (o := 0 + 24) h (rr_hi (j := 5) hfl) ?_
  refine nn_i ?_
  refine stC_h (g := gr) (o := 0 + 24) h rfl (by rw [rr_len hfl]; decide) fun w138 h => ?_
  rw [wrap_id ⟨by omega, by omega⟩, rr_set (j := 5) hfl] at h
  have h : St w0 w138 (blk gi (ints i) :: RP gb gr ps ls sB sS q l.length b K ka sk so sz row ks { r with opened := r.opened + 1 } u c R) := h
  have hfl1 : ({ r with opened := r.opened + 1 } : Rn).f.length = 19 := hfl
  refine drew_h h fun w139 h => ?_
  refine nn_i ?_
  refine ldS_h (g := gr) (o := 0 + 23) h (rr_hi (r := { r with opened := r.opened + 1 }) (j := 4) hfl1) ?_
  refine nn_i ?_
  refine ldI_h (g := gr) (o := 0 + 24) h (rr_hi (r := { r with opened := r.opened + 1 }) (j := 5) hfl1) ?_
  refine newC_h h fun g144 w145 h2 => ?_
  refine samec_h (g := gr) (o := 0 + 23) h h2 ?_
  have hszn : sz.n = ks.length := by
    have := h2.slen (sz := 1) (s := sz) (vs := ints ks.reverse)
    simp [ints] at this; omega
  refine bApp_h (s := sz) (vs := ints ks.reverse) (x := ⟨some ⟨g144, 0, none⟩, 1, 1⟩) (ys := [.int .i64 (r.opened + 1)]) h2 (Ck.elI (by kernel_rfl)) (by kernel_rfl) (blk_sls (n := 1) (l := [.int .i64 (r.opened + 1)]) (h2.blk (g := g144)) rfl 1) (by simp [Value.oneCell']) (by simp only; omega) (by simp only; omega) fun s146 w147 h n146 => ?_
  have h := h.drop
  have ez : ints ks.reverse ++ [Value.int .i64 (r.opened + 1)] = ints ((r.opened + 1) :: ks).reverse := by rw [List.reverse_cons, ints_app]; rfl
  rw [ez] at h
  refine nn_i ?_
  refine stC_h (g := gr) (o := 0 + 23) h rfl (by rw [rr_len (r := { r with opened := r.opened + 1 }) hfl1]; decide) fun w149 h => ?_
  rw [rr_set (r := { r with opened := r.opened + 1 }) (j := 4) hfl1] at h
  have h : St w0 w149 (blk gi (ints i) :: blk gb (rbookV ps ls sB sS q) :: slc 2 sS (scsV b K) :: slc 21 sB (begsV b K l.length) :: blk gr (rrunV { r with opened := r.opened + 1 } sk so s146 u c) :: slc 1 sk (ints ka) :: slc 1 so (ints (opnL K row ks)) :: slc 1 s146 (ints ((r.opened + 1) :: ks).reverse) :: R) := h
  refine drew_h h fun w150 h => ?_
  refine nn_i ?_
  refine ldS_h (g := gr) (o := 0 + 22) h (rr_hi (r := { r with opened := r.opened + 1 }) (j := 3) hfl1) ?_
  refine nn_i ?_
  refine ldS_h (g := gr) (o := 0 + 22) h (rr_hi (r := { r with opened := r.opened + 1 }) (j := 3) hfl1) ?_
  have hso := hx.so_n (so := so) h
  have hsS := hx.sS_n (sS := sS) h
  rw [hx.last_idx hn hso]
  refine ixI_h (s := so) (xs := opnL K row ks) h (by omega) (by rw [opn_len]; omega) ?_
  rw [Int.toNat_natCast, getD_of hx.lastE]
  have h' : St w0 w150 (blk gb (rbookV ps ls sB sS q) :: slc 2 sS (scsV b K) :: blk gi (ints i) :: slc 21 sB (begsV b K l.length) :: blk gr (rrunV { r with opened := r.opened + 1 } sk so s146 u c) :: slc 1 sk (ints ka) :: slc 1 so (ints (opnL K row ks)) :: slc 1 s146 (ints ((r.opened + 1) :: ks).reverse) :: R) := h.perm (by repeat' (first | exact List.Perm.refl _ | refine perm_f 0 rfl ?_ | refine perm_f 1 rfl ?_ | refine perm_f 2 rfl ?_ | refine perm_f 3 rfl ?_ | refine perm_f 4 rfl ?_ | refine perm_f 5 rfl ?_ | refine perm_f 6 rfl ?_ | refine perm_f 7 rfl ?_))
  have hkl := hx.kl
  refine rscope_s (sS := sS) (vs := scsV b K) h' (by omega) fun sS' w158 h2 nS => ?_
  have hb' : scsV b K ++ [.int .i64 ((idxK r.last K : Nat) : Int), .bool false] = scsV { b with sc := upd b.sc (row, r.opened + 1) (r.last, false) } (K ++ [(row, r.opened + 1)]) := (scsV_app (g := b.beg) hx.ki hnK hlK).symm
  have hg' : begsV b K l.length = begsV { b with sc := upd b.sc (row, r.opened + 1) (r.last, false) } (K ++ [(row, r.opened + 1)]) l.length := (begsV_app hx.beg).symm
  rw [hb', hg'] at h2
  generalize hB : ({ b with sc := upd b.sc (row, r.opened + 1) (r.last, false) } : Bk) = b2 at h2 hfst
  generalize hK2 : K ++ [(row, r.opened + 1)] = K2 at h2
  refine samec_h (g := gr) (o := 0 + 22) h h2 ?_
  refine newC_h h2 fun g159 w160 h3 => ?_
  refine samec_h (g := gr) (o := 0 + 22) h h3 ?_
  refine bApp_h (s := so) (vs := ints (opnL K row ks)) (x := ⟨some ⟨g159, 0, none⟩, 1, 1⟩) (ys := [.int .i64 (sS.n : Int)]) h3 (Ck.elI (by kernel_rfl)) (by kernel_rfl) (blk_sls (n := 1) (l := [.int .i64 (sS.n : Int)]) (h3.blk (g := g159)) rfl 1) (by simp [Value.oneCell']) (by simp only; omega) (by simp only; omega) fun s161 w162 h n161 => ?_
  have h := h.drop
  have eo : ints (opnL K row ks) ++ [Value.int .i64 (sS.n : Int)] = ints (opnL K2 row ((r.opened + 1) :: ks)) := by
    rw [← hK2, opn_app hnK hx.mem, ints_app, hsS]; rfl
  rw [eo] at h
  refine nn_i ?_
  refine stC_h (g := gr) (o := 0 + 22) h rfl (by rw [rr_len (r := { r with opened := r.opened + 1 }) hfl1]; decide) fun w164 h => ?_
  rw [rr_set (r := { r with opened := r.opened + 1 }) (j := 3) hfl1] at h
  refine nn_i ?_
  have h : St w0 w164 (blk gb (rbookV ps ls sB sS' q) :: slc 2 sS' (scsV b2 K2) :: blk gi (ints i) :: slc 21 sB (begsV b2 K2 l.length) :: blk gr (rrunV { r with opened := r.opened + 1 } sk s161 s146 u c) :: slc 1 sk (ints ka) :: slc 1 s161 (ints (opnL K2 row ((r.opened + 1) :: ks))) :: slc 1 s146 (ints ((r.opened + 1) :: ks).reverse) :: R) := h
  refine ldA_h (n := 19) (g := gr) (o := 0 + 0) h (by rw [rr_len (r := { r with opened := r.opened + 1 }) hfl1]; decide) ?_
  rw [rr_f (r := { r with opened := r.opened + 1 }) hfl1]
  refine Fr.ron_s hfl fun w168 he => ?_
  have h := ext_of h he
  refine nn_i ?_
  refine stA_h (n := 19) (g := gr) (o := 0 + 0) (vs := agI (fOn r.f)) h (by simp [agI, ints, fOn_len, hfl]) (by rw [rr_len (r := { r with opened := r.opened + 1 }) hfl1]; decide) (Ck.one_agI _) fun w170 h => ?_
  rw [rr_setf (r := { r with opened := r.opened + 1 }) hfl1 (by rw [fOn_len, hfl])] at h
  have h : St w0 w170 (RP gb gr ps ls sB sS' q l.length b2 K2 ka sk s161 s146 row ((r.opened + 1) :: ks) { r with f := fOn r.f, opened := r.opened + 1, last := (row, r.opened + 1) } u c R) := (St.drop (R := blk gi (ints i)) (h.perm (by repeat' (first | exact List.Perm.refl _ | refine perm_f 0 rfl ?_ | refine perm_f 1 rfl ?_ | refine perm_f 2 rfl ?_ | refine perm_f 3 rfl ?_ | refine perm_f 4 rfl ?_ | refine perm_f 5 rfl ?_ | refine perm_f 6 rfl ?_ | refine perm_f 7 rfl ?_))))
  obtain ⟨_, ⟨ks', h1⟩, hb2, _⟩ := fstp_ri hC.acc hC.nd hC.q4 hC.r0 hn hx.ri hx.bi hx.gt hfst
  have hfr : ∀ k ∈ ks, ((row, r.opened + 1) : Key) ≠ (row, k) := fun k hk e => by
    have := (hle k hk).2
    have e2 := congrArg Prod.snd e
    dsimp only at e2; omega
  have hO2 : Own b2.sc row inn ((r.opened + 1) :: ks) := by
    have hO := hx.ri.own.upd_of (s := (row, r.opened + 1)) (x := (r.last, false)) (.inr hfr)
    rw [← hB]
    have hl := hx.ri.last
    match ks, hks, hO, hl, hop with
    | [], hks, _, _, _ => simp at hks
    | y :: t, _, hO, hl, hop =>
      refine ⟨by simp only [List.headD_cons] at hop; omega, ⟨false, ?_⟩, hO⟩
      show upd _ _ _ _ = _
      unfold upd
      rw [if_pos rfl, hl]; rfl
  have eks : ks' = (r.opened + 1) :: ks := by
    refine Own.uniq (hx.inne hC.r0) h1.own hO2 ?_
    have a := h1.last
    exact (congrArg Prod.snd a).symm
  rw [eks] at h1
  refine ht w170 _ b2 K2 ((r.opened + 1) :: ks) sS' s161 s146 ⟨_, hK2.symm⟩ hfst ⟨h1, hb2, by rw [← hB, ← hK2]; exact hx.ki.app hnK hlK, by rw [← hK2, List.length_append]; simp only [List.length_cons, List.length_nil]; omega, hx.kids, hx.u, hx.cl, hx.c, hx.gt, fun j hj => ?_⟩ h
  rw [← hB]
  dsimp only at hj ⊢
  unfold upd
  rw [if_neg (fun e => by have e2 := congrArg Prod.snd e; dsimp only at e2; omega)]
  exact hx.new j (by omega)
theorem rcancel_s (hC : Cx P l Q w0 ps ls row) (hn : (n : Int) < 1048576) (hx : Rx P l Q row inn n r b K ks ka u c) (hk0 : r.kind = 0) (hi : insAt P r.f = i) (hp : (fPlain r.f i).2 = false) (ho : i.getD 0 0 = 13)
    (h : St w0 w (blk gi (ints i) :: RP gb gr ps ls sB sS q l.length b K ka sk so sz row ks r u c R))
    (ht : ∀ w' r' b', fstp P l q row r b = some (r', b') → Rx P l Q row inn (n + 1) r' b' K ks ka u c → St w0 w' (RP gb gr ps ls sB sS q l.length b' K ka sk so sz row ks r' u c R) → k true w') :
              drew w fun w222 =>
              nn (some ⟨gb, 0, none⟩) fun a223 =>
              ldS w222 (Addr.add a223 3) fun s224 =>
              nn (some ⟨gr, 0, none⟩) fun a225 =>
              ldS w222 (Addr.add a225 22) fun s226 =>
              ixS s226 (IntKind.wrap .i64 (((so.n : Nat) : Int) - (1 : Int))) 1 fun a227 =>
              ldI .i64 w222 a227 fun i228 =>
              ixS s224 i228 2 fun a229 =>
              stC w222 (Addr.add a229 1) (.bool true) fun w230 =>
              nn (some ⟨gr, 0, none⟩) fun a231 =>
              ldA 19 w230 (Addr.add a231 0) fun cs232 =>
              pelotonref05_Task_On cs232 w230 fun cs233 w234 =>
              nn (some ⟨gr, 0, none⟩) fun a235 =>
              stA 19 w234 (Addr.add a235 0) cs233 fun w236 =>
              (k true w236) := by
  have hfl := hx.ri.fb.len
  have hr0 := hC.r0
  have hks := hx.ks1
  have hlK : r.last ∈ K := by rw [hx.ri.last]; exact hx.key
  obtain ⟨x, hsx⟩ := hx.ri.own.some
  rw [← hx.ri.last] at hsx
  obtain ⟨a, xq⟩ := x
  have hne : r.last ≠ (-1, 0) := fun e => by
    rw [hx.ri.last] at e
    have := congrArg Prod.fst e
    dsimp only at this; omega
  have ea : (b.s r.last).1 = a := by rw [bk_s hsx]
  have hfst : fstp P l q row r b = some ({ r with f := fOn r.f }, { b with sc := upd b.sc r.last (a, true) }) := by
    unfold fstp; rw [hi, if_neg (by omega), if_neg (by rw [hp]; decide)]
    unfold fact; rw [if_neg (by omega), if_neg (by omega), if_neg (by omega), if_neg (by omega), if_pos ho, ea]
  refine drew_h h fun w222 h => ?_
  refine nn_i ?_
  refine ldS_h (g := gb) (o := 0 + 3) h rfl ?_
  refine nn_i ?_
  refine ldS_h (g := gr) (o := 0 + 22) h (rr_hi (j := 3) hfl) ?_
  have hso := hx.so_n (so := so) h
  have hsS := hx.sS_n (sS := sS) h
  rw [hx.last_idx hn hso]
  refine ixI_h (s := so) (xs := opnL K row ks) h (by omega) (by rw [opn_len]; omega) ?_
  rw [Int.toNat_natCast, getD_of hx.lastE]
  have hlt := idxK_lt hlK
  refine ixE_h (sz := 2) (s := sS) (vs := scsV b K) h (by decide) (by omega) (by omega) fun g o hrd hst => ?_
  rw [add_mk]
  refine hst 1 (.bool true) _ (by decide) rfl fun w230 h => ?_
  rw [Int.toNat_natCast, ← scsV_ask hx.ki hsx hne] at h
  have h : St w0 w230 (blk gi (ints i) :: RP gb gr ps ls sB sS q l.length { b with sc := upd b.sc r.last (a, true) } K ka sk so sz row ks r u c R) := h
  refine nn_i ?_
  refine ldA_h (n := 19) (g := gr) (o := 0 + 0) h (by rw [rr_len hfl]; decide) ?_
  rw [rr_f hfl]
  refine Fr.ron_s hfl fun w234 he => ?_
  have h := ext_of h he
  refine nn_i ?_
  refine stA_h (n := 19) (g := gr) (o := 0 + 0) (vs := agI (fOn r.f)) h (by simp [agI, ints, fOn_len, hfl]) (by rw [rr_len hfl]; decide) (Ck.one_agI _) fun w236 h => ?_
  rw [rr_setf hfl (by rw [fOn_len, hfl])] at h
  obtain ⟨_, ⟨ks', h1⟩, hb2, _⟩ := fstp_ri hC.acc hC.nd hC.q4 hC.r0 hn hx.ri hx.bi hx.gt hfst
  have hO2 : Own (upd b.sc r.last (a, true)) row inn ks := hx.ri.own.upd_of (.inl ⟨xq, hsx⟩)
  have eks : ks' = ks := by
    refine Own.uniq (hx.inne hC.r0) h1.own hO2 ?_
    have a1 := h1.last
    have a2 := hx.ri.last
    rw [show ({ r with f := fOn r.f } : Rn).last = r.last from rfl, a2] at a1
    exact (congrArg Prod.snd a1).symm
  subst eks
  refine ht w236 _ _ hfst ⟨h1, hb2, hx.ki.ask hsx, by have := hx.kl; omega, hx.kids, hx.u, hx.cl, hx.c, hx.gt, fun j hj => ?_⟩ h.drop
  dsimp only at hj ⊢
  unfold upd
  rw [if_neg (fun e => by rw [← e, hx.new j hj] at hsx; cases hsx)]
  exact hx.new j hj
theorem rclose_s (hC : Cx P l Q w0 ps ls row) (hn : (n : Int) < 1048576) (hx : Rx P l Q row inn n r b K ks ka u c) (hk0 : r.kind = 0) (hi : insAt P r.f = i) (hp : (fPlain r.f i).2 = false) (ho : i.getD 0 0 = 12)
    (h : St w0 w (blk gi (ints i) :: RP gb gr ps ls sB sS q l.length b K ka sk so sz row ks r u c R))
    (hf : ∀ w', fstp P l q row r b = none → Ext w0 w' → k false w')
    (ht : ∀ w' r' ks' so' sz', fstp P l q row r b = some (r', b) → Rx P l Q row inn (n + 1) r' b K ks' ka u (c + 1) → St w0 w' (RP gb gr ps ls sB sS q l.length b K ka sk so' sz' row ks' r' u (c + 1) R) → k true w') :
            nn (some ⟨gb, 0, none⟩) fun a171 =>
            ldS w (Addr.add a171 1) fun s172 =>
            ixS s172 row 7 fun a173 =>
            ldStr w (Addr.add a173 6) fun t174 =>
            drew w fun w175 =>
            nn (some ⟨gb, 0, none⟩) fun a176 =>
            ldS w175 (Addr.add a176 3) fun s177 =>
            nn (some ⟨gr, 0, none⟩) fun a178 =>
            ldS w175 (Addr.add a178 22) fun s179 =>
            ixS s179 (IntKind.wrap .i64 (((so.n : Nat) : Int) - (1 : Int))) 1 fun a180 =>
            ldI .i64 w175 a180 fun i181 =>
            ixS s177 i181 2 fun a182 =>
            ldB w175 (Addr.add a182 1) fun b183 =>
            joinP (S := Bool) (fun J184 =>
              nn (some ⟨gr, 0, none⟩) fun a185 =>
              ldI .i64 w175 (Addr.add a185 21) fun i186 =>
              iteB (decide (i186 ≥ (((ByteArray.size t174) : Nat) : Int))) (
                (J184 true w175)) (
                nn (some ⟨gr, 0, none⟩) fun a187 =>
                ldI .i64 w175 (Addr.add a187 21) fun i188 =>
                ixStr t174 i188 fun i189 =>
                iteB ((i189 == (48 : Int)) && b183) (
                  (J184 true w175)) (
                  nn (some ⟨gb, 0, none⟩) fun a190 =>
                  ldB w175 (Addr.add a190 4) fun b191 =>
                  iteB b191 (
                    nn (some ⟨gr, 0, none⟩) fun a192 =>
                    ldI .i64 w175 (Addr.add a192 21) fun i193 =>
                    ixStr t174 i193 fun i194 =>
                    (J184 ((i194 == (49 : Int)) && (!b183)) w175)) (
                    (J184 (false && (!b183)) w175))))) fun b195 w196 =>
            iteB b195 (
              (k false w196)) (
              drew w196 fun w197 =>
              nn (some ⟨gr, 0, none⟩) fun a198 =>
              ldA 19 w197 (Addr.add a198 0) fun cs199 =>
              ldA 5 w197 ⟨gi, 0, none⟩ fun cs200 =>
              nn (some ⟨gr, 0, none⟩) fun a201 =>
              ldI .i64 w197 (Addr.add a201 21) fun i202 =>
              ixStr t174 i202 fun i203 =>
              pelotonref05_Task_Closed cs199 cs200 (i203 == (49 : Int)) w197 fun cs204 w205 =>
              nn (some ⟨gr, 0, none⟩) fun a206 =>
              stA 19 w205 (Addr.add a206 0) cs204 fun w207 =>
              nn (some ⟨gr, 0, none⟩) fun a208 =>
              ldI .i64 w207 (Addr.add a208 21) fun i209 =>
              nn (some ⟨gr, 0, none⟩) fun a210 =>
              stC w207 (Addr.add a210 21) (.int .i64 (IntKind.wrap .i64 (i209 + (1 : Int)))) fun w211 =>
              nn (some ⟨gr, 0, none⟩) fun a212 =>
              ldS w211 (Addr.add a212 22) fun s213 =>
              slS s213 1 (0 : Int) (IntKind.wrap .i64 (((so.n : Nat) : Int) - (1 : Int))) fun s214 =>
              nn (some ⟨gr, 0, none⟩) fun a215 =>
              stC w211 (Addr.add a215 22) (.slice s214.a s214.n s214.c) fun w216 =>
              nn (some ⟨gr, 0, none⟩) fun a217 =>
              ldS w216 (Addr.add a217 23) fun s218 =>
              slS s218 1 (0 : Int) (IntKind.wrap .i64 (((so.n : Nat) : Int) - (1 : Int))) fun s219 =>
              nn (some ⟨gr, 0, none⟩) fun a220 =>
              stC w216 (Addr.add a220 23) (.slice s219.a s219.n s219.c) fun w221 =>
              (k true w221)) := by
  have hfl := hx.ri.fb.len
  have hr0 := hC.r0
  have hr1 := hC.r1
  have hks := hx.ks1
  obtain ⟨g', hv, ha⟩ := (hx.ri.fi hk0).at hC.acc
  rw [hi] at ha
  have h5 : i.length = 5 := by
    have hcode := (hC.fn.code g' (List.mem_of_getElem? ha.at0)).2
    exact (hcode.five _ (List.mem_of_getElem? ha.ins)).1
  have hd := fat_scopes ha (.inl ho)
  have hlK : r.last ∈ K := by rw [hx.ri.last]; exact hx.key
  have hne : r.last ≠ (-1, 0) := fun e => by
    rw [hx.ri.last] at e
    have := congrArg Prod.fst e
    dsimp only at this; omega
  generalize hcl : (rowAt l row).cl = cl at *
  have htold := hC.told
  rw [hcl] at htold
  have hcsz := hC.csz
  rw [hcl] at hcsz
  have hxcl := hx.cl
  have hxc := hx.c
  rw [hcl] at hxcl hxc
  have hstp : fstp P l q row r b = match r.cl with
      | [] => none
      | x :: xs => if ((b.s r.last).2 && !(x == 49)) || (q && !((x == 49) == (b.s r.last).2)) then none else some ({ r with f := fClosed r.f i (x == 49), cl := xs, last := (b.s r.last).1 }, b) := by
    unfold fstp; rw [hi, if_neg (by omega), if_neg (by rw [hp]; decide)]
    unfold fact; rw [if_neg (by omega), if_neg (by omega), if_neg (by omega), if_pos ho]
    rfl
  refine nn_i ?_
  refine ldS_h (g := gb) (o := 0 + 1) h rfl ?_
  refine ixR_h (e := rbV (rowAt l row)) hC.tb.rws h hr0 (rowAt_map (by omega)) fun p hpp => ?_
  refine (fun (hc : w.cell? (p.add 6) = some (.string cl)) => ?_) (hpp h (by rw [← hcl]; rfl))
  have est : ∀ {c : ByteArray → Prop}, c cl → ldStr w (p.add 6) c := fun h => by simp [ldStr, rd, hc, toStr, h]
  refine est ?_
  refine drew_h h fun w175 h => ?_
  refine nn_i ?_
  refine ldS_h (g := gb) (o := 0 + 3) h rfl ?_
  refine nn_i ?_
  refine ldS_h (g := gr) (o := 0 + 22) h (rr_hi (j := 3) hfl) ?_
  have hso := hx.so_n (so := so) h
  have hsS := hx.sS_n (sS := sS) h
  have hszn : sz.n = ks.length := by
    have := h.slen (sz := 1) (s := sz) (vs := ints ks.reverse)
    simp [ints] at this; omega
  have hidx := hx.last_idx hn hso
  rw [hidx]
  refine ixI_h (s := so) (xs := opnL K row ks) h (by omega) (by rw [opn_len]; omega) ?_
  rw [Int.toNat_natCast, getD_of hx.lastE]
  have hlt := idxK_lt hlK
  have hget := idxK_at hlK
  refine ixS_h (sz := 2) (s := sS) (vs := scsV b K) h (by decide) (by omega) (by omega) fun ga o _ hrd _ => ?_
  rw [Int.toNat_natCast] at hrd
  have e1 : (scV b K r.last)[1]? = some (.bool (b.s r.last).2) := by unfold scV; rw [if_neg hne]; rfl
  refine ldB_i (hrd h 1 _ (by decide) (by rw [scsV_get hget (by decide)]; exact e1)) ?_
  generalize hmine : (b.s r.last).2 = mine at hstp
  refine joinP_i (fun z w' => (z = true ∧ fstp P l q row r b = none ∨ z = false ∧ c < cl.size ∧ ∃ x, cl.data.toList[c]? = some x ∧ cl.data.toList.drop c = x :: cl.data.toList.drop (c + 1) ∧ fstp P l q row r b = some ({ r with f := fClosed r.f i (x == 49), cl := cl.data.toList.drop (c + 1), last := (b.s r.last).1 }, b)) ∧ w' = w175) (fun J hJ => ?_) ?_
  · refine nn_i ?_
    refine ldI_h (g := gr) (o := 0 + 21) h (rr_hi (j := 2) hfl) ?_
    refine iteB_i (fun hb => ?_) fun hb => ?_
    · have hge : cl.data.toList.length ≤ c := by
        have := of_decide_eq_true hb
        have h3 : cl.data.toList.length = cl.size := by rw [Array.length_toList]; rfl
        omega
      rw [List.drop_of_length_le hge] at hxcl
      rw [hxcl] at hstp
      exact hJ _ _ ⟨.inl ⟨rfl, hstp⟩, rfl⟩
    have hltc : c < cl.size := by have := of_decide_eq_false hb; omega
    obtain ⟨x, hx1, hx2, hx3⟩ := told_nth htold hltc
    rw [hx3] at hxcl
    rw [hxcl] at hstp
    dsimp only at hstp
    refine nn_i ?_
    refine ldI_h (g := gr) (o := 0 + 21) h (rr_hi (j := 2) hfl) ?_
    refine ixStr_at (n := c) (b := x) hx1 ?_
    have key : ∀ z : Bool, z = ((mine && !(x == 49)) || (q && !((x == 49) == mine))) → J z w175 := by
      intro z hz
      refine hJ _ _ ⟨?_, rfl⟩
      cases z with
      | true => rw [if_pos hz.symm] at hstp; exact .inl ⟨rfl, hstp⟩
      | false => rw [if_neg (by rw [← hz]; decide)] at hstp; exact .inr ⟨rfl, hltc, x, hx1, hx3, hstp⟩
    refine iteB_i (fun hb => ?_) fun hb => ?_
    · refine key true ?_
      rw [Bool.and_eq_true] at hb
      have hx48 : x = 48 := by
        rcases hx2 with e | e
        · exact e
        · subst e; have := hb.1; simp at this
      rw [hb.2, hx48]; rfl
    · refine nn_i ?_
      refine ldB_h (g := gb) (o := 0 + 4) h rfl ?_
      refine iteB_i (fun hq => ?_) fun hq => ?_
      · refine nn_i ?_
        refine ldI_h (g := gr) (o := 0 + 21) h (rr_hi (j := 2) hfl) ?_
        refine ixStr_at (n := c) (b := x) hx1 ?_
        refine key _ ?_
        subst hq
        rcases hx2 with e | e
        · subst e
          have hm : mine = false := by cases mine with
            | false => rfl
            | true => simp at hb
          rw [hm]; rfl
        · subst e; cases mine <;> rfl
      · refine key _ ?_
        subst hq
        rcases hx2 with e | e
        · subst e
          have hm : mine = false := by cases mine with
            | false => rfl
            | true => simp at hb
          rw [hm]; rfl
        · subst e; cases mine <;> rfl
  rintro z w196 ⟨hz, rfl⟩
  refine iteB_i (fun hb => ?_) fun hb => ?_
  · rcases hz with ⟨_, e⟩ | ⟨e, _⟩
    · exact hf _ e h.ext
    · rw [hb] at e; cases e
  obtain ⟨_, hltc, x, hx1, hx3, hfst⟩ := hz.resolve_left (fun q => by rw [hb] at q; cases q.1)
  have hcll : (fClosed r.f i (x == 49)).length = 19 := by rw [fClosed_len, hfl]
  refine drew_h h fun w197 h => ?_
  refine nn_i ?_
  refine ldA_h (n := 19) (g := gr) (o := 0 + 0) h (by rw [rr_len hfl]; decide) ?_
  rw [rr_f hfl]
  refine ldW_h (g := gi) h (by simp [ints, h5]) ?_
  refine nn_i ?_
  refine ldI_h (g := gr) (o := 0 + 21) h (rr_hi (j := 2) hfl) ?_
  refine ixStr_at (n := c) (b := x) hx1 ?_
  rw [byte_49]
  refine Fr.rclosed_s hfl h5 fun w205 he => ?_
  have h := ext_of h he
  refine nn_i ?_
  refine stA_h (n := 19) (g := gr) (o := 0 + 0) (vs := agI (fClosed r.f i (x == 49))) h (by simp [agI, ints, hcll]) (by rw [rr_len hfl]; decide) (Ck.one_agI _) fun w207 h => ?_
  rw [rr_setf hfl hcll] at h
  generalize hr2 : ({ r with f := fClosed r.f i (x == 49) } : Rn) = r2 at h
  have hfl2 : r2.f.length = 19 := by rw [← hr2]; exact hcll
  refine nn_i ?_
  refine ldI_h (g := gr) (o := 0 + 21) h (rr_hi (j := 2) hfl2) ?_
  refine nn_i ?_
  refine stC_h (g := gr) (o := 0 + 21) h rfl (by rw [rr_len hfl2]; decide) fun w211 h => ?_
  have ec : IntKind.wrap .i64 ((c : Int) + 1) = ((c + 1 : Nat) : Int) := by rw [wrap_id ⟨by omega, by omega⟩]; simp
  rw [rr_set (j := 2) hfl2, ec] at h
  have h : St w0 w211 (blk gi (ints i) :: RP gb gr ps ls sB sS q l.length b K ka sk so sz row ks r2 u (c + 1) R) := h
  refine nn_i ?_
  refine ldS_h (g := gr) (o := 0 + 22) h (rr_hi (j := 3) hfl2) ?_
  obtain ⟨x0, kt, rfl⟩ : ∃ x0 kt, ks = x0 :: kt := by
    cases ks with
    | nil => simp at hks
    | cons a t => exact ⟨a, t, rfl⟩
  simp only [List.length_cons] at hidx hso hszn hks hd
  refine slS_h (sz := 1) (s := so) (vs := ints (opnL K row (x0 :: kt))) h (by omega) (by omega) (by simp only [List.length_cons]; omega) fun so' _ h => ?_
  have eo : ((ints (opnL K row (x0 :: kt))).drop ((0 : Int).toNat * 1)).take ((((((x0 :: kt).length - 1 : Nat) : Int)).toNat - (0 : Int).toNat) * 1) = ints (opnL K row kt) := by
    rw [Int.toNat_natCast]
    simp only [Int.toNat_zero, Nat.zero_mul, List.drop_zero, Nat.sub_zero, Nat.mul_one, List.length_cons, Nat.add_sub_cancel]
    rw [ints_take, opn_tail]
  rw [eo] at h
  refine nn_i ?_
  refine stC_h (g := gr) (o := 0 + 22) h rfl (by rw [rr_len hfl2]; decide) fun w216 h => ?_
  rw [rr_set (j := 3) hfl2] at h
  have h : St w0 w216 (blk gi (ints i) :: blk gb (rbookV ps ls sB sS q) :: slc 2 sS (scsV b K) :: slc 21 sB (begsV b K l.length) :: blk gr (rrunV r2 sk so' sz u (c + 1)) :: slc 1 sk (ints ka) :: slc 1 so' (ints (opnL K row kt)) :: slc 1 sz (ints (x0 :: kt).reverse) :: R) := h
  refine nn_i ?_
  refine ldS_h (g := gr) (o := 0 + 23) h (rr_hi (j := 4) hfl2) ?_
  refine slS_h (sz := 1) (s := sz) (vs := ints (x0 :: kt).reverse) h (by omega) (by omega) (by simp only [List.length_cons]; omega) fun sz' _ h => ?_
  have ez : ((ints (x0 :: kt).reverse).drop ((0 : Int).toNat * 1)).take ((((((x0 :: kt).length - 1 : Nat) : Int)).toNat - (0 : Int).toNat) * 1) = ints kt.reverse := by
    rw [Int.toNat_natCast]
    simp only [Int.toNat_zero, Nat.zero_mul, List.drop_zero, Nat.sub_zero, Nat.mul_one, List.length_cons, Nat.add_sub_cancel]
    rw [ints_take, List.reverse_cons, List.take_append_of_le_length (by simp), List.take_of_length_le (by simp)]
  rw [ez] at h
  refine nn_i ?_
  refine stC_h (g := gr) (o := 0 + 23) h rfl (by rw [rr_len hfl2]; decide) fun w221 h => ?_
  rw [rr_set (j := 4) hfl2] at h
  obtain ⟨_, ⟨ks', h1⟩, hb2, _⟩ := fstp_ri hC.acc hC.nd hC.q4 hC.r0 hn hx.ri hx.bi hx.gt hfst
  have hO := hx.ri.own
  obtain ⟨y0, kt, rfl⟩ : ∃ y0 t, kt = y0 :: t := by
    cases kt with
    | nil => simp at hd
    | cons a t => exact ⟨a, t, rfl⟩
  obtain ⟨o1, ⟨qq, o2⟩, o3⟩ := hO
  have hl : (b.s r.last).1 = (row, y0) := by
    have := hx.ri.last
    simp only [List.headD_cons] at this
    rw [this, bk_s o2]
  have eks : ks' = y0 :: kt := by
    refine Own.uniq (hx.inne hC.r0) h1.own o3 ?_
    have a1 := h1.last
    rw [show ({ r with f := fClosed r.f i (x == 49), cl := cl.data.toList.drop (c + 1), last := (b.s r.last).1 } : Rn).last = (b.s r.last).1 from rfl, hl] at a1
    exact (congrArg Prod.snd a1).symm
  subst eks
  refine ht w221 _ _ so' sz' hfst ⟨h1, hb2, hx.ki, by have := hx.kl; omega, hx.kids, hx.u, by rw [hcl], by rw [hcl]; omega, hx.gt, hx.new⟩ ?_
  have h : St w0 w221 (blk gi (ints i) :: blk gb (rbookV ps ls sB sS q) :: slc 2 sS (scsV b K) :: slc 21 sB (begsV b K l.length) :: blk gr (rrunV r2 sk so' sz' u (c + 1)) :: slc 1 sk (ints ka) :: slc 1 so' (ints (opnL K row (y0 :: kt))) :: slc 1 sz' (ints (y0 :: kt).reverse) :: R) := h
  rw [← hr2] at h
  exact h.drop
end
end Go.Proofs.YtgkfbagclkjilaaGreatDoor.Ft
namespace Go.Proofs.YtgkfbagclkjilaaGreatDoor.Ft
open Go Go.Ev Go.Proofs Go.Proofs.YtgkfbagclkjilaaGreatDoor
open Go.Proofs.YtgkfbagclkjilaaGreatDoor.Fr (fTo fOn fPlain fForked fJoined fClosed fChild fRoot fR isB fTo_len fOn_len fPlain_len fForked_len fJoined_len fClosed_len)
open Go.Proofs.YtgkfbagclkjilaaGreatDoor.Ck (opI Walk Accs needsOf isGoes heldL depths stepD handlesOk subBits scopesOk forks)
section
variable {w0 w : World} {R : List HP} {gb gr gi : Nat} {ps ls sB sS sk so sz : Sl} {q : Bool} {row : Int} {inn : Key} {r : Rn} {b : Bk} {K : List Key} {ks ka : List Int} {u c n : Nat} {P : List FnR} {l : List Rb} {Q : Int → Prop} {k : Bool → World → Prop} {i : List Int}
theorem rstep_s (hC : Cx P l Q w0 ps ls row) (hn : (n : Int) < 1048576) (hx : Rx P l Q row inn n r b K ks ka u c) (hka : ka.length ≤ 1000000) (hk0 : r.kind = 0)
    (h : St w0 w (RP gb gr ps ls sB sS q l.length b K ka sk so sz row ks r u c R))
    (hf : ∀ w', fstp P l q row r b = none → Ext w0 w' → k false w')
    (ht : ∀ w' r' b' K' ks' sS' so' sz' u' c', (∃ e, K' = K ++ e) → fstp P l q row r b = some (r', b') → Rx P l Q row inn (n + 1) r' b' K' ks' ka u' c' → St w0 w' (RP gb gr ps ls sB sS' q l.length b' K' ka sk so' sz' row ks' r' u' c' R) → k true w') :
    pelotonref08_Book_step (some ⟨gb, 0, none⟩) (some ⟨gr, 0, none⟩) row w k := by
  have hfl := hx.ri.fb.len
  obtain ⟨g', hv, ha⟩ := (hx.ri.fi hk0).at hC.acc
  have h5 : (insAt P r.f).length = 5 := by
    have hcode := (hC.fn.code g' (List.mem_of_getElem? ha.at0)).2
    exact (hcode.five _ (List.mem_of_getElem? ha.ins)).1
  have hchk := ha.chk
  clear ha
  unfold pelotonref08_Book_step pelotonref08_Book_step_b
  refine drew_h h fun w1 h => ?_
  refine rins_s hC.fn hC.acc hx hk0 h fun g12 w14 h => ?_
  generalize hi : insAt P r.f = i at h h5 hchk
  have hpl : (fPlain r.f i).1.length = 19 := fPlain_len hfl
  refine joinP_i (fun z w' => ∃ g, z = (⟨g, 0, none⟩, (fPlain r.f i).2) ∧ St w0 w' (blk g (ints (fPlain r.f i).1) :: blk g12 (ints i) :: RP gb gr ps ls sB sS q l.length b K ka sk so sz row ks r u c R)) (fun J hJ => ?_) ?_
  · refine drew_h h fun w16 h => ?_
    refine nn_i ?_
    refine ldA_h (n := 19) (g := gr) (o := 0 + 0) h (by rw [rr_len hfl]; decide) ?_
    rw [rr_f hfl]
    refine ldW_h (g := g12) h (by simp [ints, h5]) ?_
    refine ⟨?_, ?_⟩
    · refine Fr.rplain_s hfl h5 fun w21 he => ?_
      have h2 := ext_of h he
      refine newC_h h2 fun g w23 h2 => ?_
      refine samec_h (g := g12) (o := 0) h h2 (samec_h (g := gr) (o := 0 + 0) h h2 ?_)
      refine stW_h (g := g) h2 rfl (by simp [agI, ints, hpl]) (Ck.one_agI _) fun w24 h2 => ?_
      exact hJ _ _ ⟨g, rfl, h2⟩
    · refine newC_h h fun g w26 h2 => ?_
      refine samec_h (g := g12) (o := 0) h h2 (samec_h (g := gr) (o := 0 + 0) h h2 ?_)
      refine Fr.rplain_s hfl h5 fun w28 he => ?_
      have h2 := ext_of h2 he
      refine stW_h (g := g) h2 rfl (by simp [agI, ints, hpl]) (Ck.one_agI _) fun w29 h2 => ?_
      exact hJ _ _ ⟨g, rfl, h2⟩
  rintro _ w31 ⟨g, rfl, h⟩
  refine iteB_i (fun hp => ?_) fun hp => ?_
  · have hp : (fPlain r.f i).2 = true := hp
    have hfst : fstp P l q row r b = some ({ r with f := (fPlain r.f i).1 }, b) := by
      unfold fstp; rw [hi, if_neg (by omega), if_pos hp]
    refine ldW_h (g := g) h (by simp [ints, hpl]) ?_
    refine nn_i ?_
    refine stA_h (n := 19) (g := gr) (o := 0 + 0) (vs := agI (fPlain r.f i).1) h (by simp [agI, ints, hpl]) (by rw [rr_len hfl]; decide) (Ck.one_agI _) fun w34 h => ?_
    rw [rr_setf hfl hpl] at h
    exact ht w34 _ _ K ks sS so sz u c ⟨[], by simp⟩ hfst (hx.same (f' := (fPlain r.f i).1) (kind := r.kind) (v := r.v) hC.acc hC.nd hC.q4 hC.r0 hn rfl hfst) h.drop.drop
  have hp : (fPlain r.f i).2 = false := hp
  have hop := plain_not hchk hp
  refine nn_i ?_
  refine ldS_h (g := gr) (o := 0 + 22) h (rr_hi (j := 3) hfl) ?_
  refine ldI_h (g := g12) (o := 0 + 0) h (ints_getD (by omega)) ?_
  have h := h.drop
  refine iteB_i (fun hb => ?_) fun hb => ?_
  · have ho : i.getD 0 0 = 8 := by simpa using hb
    exact rfork_s hC.fn hC.acc hC.nd hC.q hC.q4 hC.len hC.r0 hn hx hka hk0 hi hp ho h hf fun w' r' b' u' h1 h2 h3 => ht w' r' b' K ks sS so sz u' c ⟨[], by simp⟩ h1 h2 h3
  have h8 : i.getD 0 0 ≠ 8 := by simpa using hb
  refine joinP_i (fun z w' => (z = true → i.getD 0 0 = 9 ∨ i.getD 0 0 = 10) ∧ (z = false → i.getD 0 0 ≠ 9 ∧ i.getD 0 0 ≠ 10) ∧ w' = w31) (fun J hJ => ?_) ?_
  · refine iteB_i (fun hb => ?_) fun hb => ?_
    · have ho : i.getD 0 0 = 9 := by simpa using hb
      exact hJ _ _ ⟨fun _ => .inl ho, (fun e => by rw [show i.getD (0 + 0) 0 = 9 from ho] at e; cases e), rfl⟩
    · have ho : i.getD 0 0 ≠ 9 := by simpa using hb
      refine hJ _ _ ⟨fun e => .inr (by simpa using e), fun e => ⟨ho, by simpa using e⟩, rfl⟩
  rintro z _ ⟨hz1, hz2, rfl⟩
  refine iteB_i (fun hb => ?_) fun hb => ?_
  · exact rjoin_s rfl rfl hC hn hx hk0 hi hp (hz1 hb) h hf fun w' r' h1 h2 h3 => ht w' r' b K ks sS so sz u c ⟨[], by simp⟩ h1 h2 h3
  obtain ⟨h9, h10⟩ := hz2 hb
  refine iteB_i (fun hb => ?_) fun hb => ?_
  · have ho : i.getD 0 0 = 11 := by simpa using hb
    exact ropen_s hC hn hx hk0 hi hp ho h fun w' r' b' K' ks' sS' so' sz' he h1 h2 h3 => ht w' r' b' K' ks' sS' so' sz' u c he h1 h2 h3
  have h11 : i.getD 0 0 ≠ 11 := by simpa using hb
  refine iteB_i (fun hb => ?_) fun hb => ?_
  · have ho : i.getD 0 0 = 12 := by simpa using hb
    exact rclose_s hC hn hx hk0 hi hp ho h hf fun w' r' ks' so' sz' h1 h2 h3 => ht w' r' b K ks' sS so' sz' u (c + 1) ⟨[], by simp⟩ h1 h2 h3
  have h12 : i.getD 0 0 ≠ 12 := by simpa using hb
  refine iteB_i (fun hb => ?_) fun hb => ?_
  · have ho : i.getD 0 0 = 13 := by simpa using hb
    exact rcancel_s hC hn hx hk0 hi hp ho h fun w' r' b' h1 h2 h3 => ht w' r' b' K ks sS so sz u c ⟨[], by simp⟩ h1 h2 h3
  have h13 : i.getD 0 0 ≠ 13 := by simpa using hb
  refine iteB_i (fun hb => ?_) fun hb => ?_
  · have ho : i.getD 0 0 = 14 := by simpa using hb
    exact rpass_s hC hn hx hk0 hi hp ho h fun w' r' h1 h2 h3 => ht w' r' b K ks sS so sz u c ⟨[], by simp⟩ h1 h2 h3
  have h14 : i.getD 0 0 ≠ 14 := by simpa using hb
  exact rleave_s hC hn hx hk0 hi hp (by omega) h fun w' r' h1 h2 h3 => ht w' r' b K ks sS so sz u c ⟨[], by simp⟩ h1 h2 h3
end
end Go.Proofs.YtgkfbagclkjilaaGreatDoor.Ft
namespace Go.Proofs.YtgkfbagclkjilaaGreatDoor.Ft
open Go Go.Ev Go.Proofs Go.Proofs.YtgkfbagclkjilaaGreatDoor
open Go.Proofs.YtgkfbagclkjilaaGreatDoor.Fr (fTo fOn fPlain fForked fJoined fClosed fChild fRoot fR isB fTo_len fOn_len fPlain_len fForked_len fJoined_len fClosed_len)
open Go.Proofs.YtgkfbagclkjilaaGreatDoor.Ck (opI Walk Accs needsOf isGoes heldL depths stepD handlesOk subBits scopesOk forks)
def Zr : List Value := [.int .i64 (0 : Int), .int .i64 (0 : Int), .int .i64 (0 : Int), .int .i64 (0 : Int), .int .i64 (0 : Int), .int .i64 (0 : Int), .int .i64 (0 : Int), .int .i64 (0 : Int), .int .i64 (0 : Int), .int .i64 (0 : Int), .int .i64 (0 : Int), .int .i64 (0 : Int), .int .i64 (0 : Int), .int .i64 (0 : Int), .int .i64 (0 : Int), .int .i64 (0 : Int), .int .i64 (0 : Int), .int .i64 (0 : Int), .int .i64 (0 : Int), .slice none 0 0, .int .i64 (0 : Int), .int .i64 (0 : Int), .slice none 0 0, .slice none 0 0, .int .i64 (0 : Int), .int .i64 (0 : Int), .int .i64 (0 : Int)]
theorem rrun_spl {f : List Int} {c : Array Value → Prop} (hc : f.length = 19) (h : c (ints f ++ ([.slice none 0 0, .int .i64 (0 : Int), .int .i64 (0 : Int), .slice none 0 0, .slice none 0 0, .int .i64 (0 : Int), .int .i64 (0 : Int), .int .i64 (0 : Int)] : List Value)).toArray) : spl Zr.toArray 0 19 (agI f) c := by
  have hl : (ints f).length = 19 := by simp [ints, hc]
  refine spl_V (acc := Zr) (cs := ints f) _ hl (by decide) ?_ h
  rw [List.take_zero, List.nil_append]; rfl
theorem rrun_set {f : List Int} {x y z : Value} (hc : f.length = 19) : Array.setIfInBounds (Array.setIfInBounds (Array.setIfInBounds (ints f ++ ([.slice none 0 0, .int .i64 (0 : Int), .int .i64 (0 : Int), .slice none 0 0, .slice none 0 0, .int .i64 (0 : Int), .int .i64 (0 : Int), .int .i64 (0 : Int)] : List Value)).toArray 19 x) 22 y) 23 z = (ints f ++ ([x, .int .i64 (0 : Int), .int .i64 (0 : Int), y, z, .int .i64 (0 : Int), .int .i64 (0 : Int), .int .i64 (0 : Int)] : List Value)).toArray := by
  have hl : (ints f).length = 19 := by simp [ints, hc]
  rw [List.setIfInBounds_toArray, List.setIfInBounds_toArray, List.setIfInBounds_toArray, List.set_append_right _ _ (by omega), List.set_append_right _ _ (by omega), List.set_append_right _ _ (by omega), hl]
  rfl
theorem isPt_r {op : Int} (h0 : 0 ≤ op) (h1 : op < 17) : ((((((((op == (6 : Int)) || (op == (7 : Int))) || (op == (8 : Int))) || (op == (9 : Int))) || (op == (10 : Int))) || (op == (11 : Int))) || (op == (12 : Int))) || (op == (14 : Int))) = isPt op := by
  obtain ⟨m, rfl⟩ := Int.eq_ofNat_of_zero_le h0
  have hm : m < 17 := by omega
  have key : ∀ m : Nat, m < 17 → (((((((((m : Int) == (6 : Int)) || ((m : Int) == (7 : Int))) || ((m : Int) == (8 : Int))) || ((m : Int) == (9 : Int))) || ((m : Int) == (10 : Int))) || ((m : Int) == (11 : Int))) || ((m : Int) == (12 : Int))) || ((m : Int) == (14 : Int))) = isPt (m : Int) := by decide
  exact key m hm
section
variable {w0 w : World} {R : List HP} {gb : Nat} {ps ls sB sS : Sl} {q : Bool} {row : Int} {b : Bk} {K : List Key} {n : Nat} {P : List FnR} {l : List Rb} {Q : Int → Prop} {k : Bool → World → Prop} {x0 : List Int × Key}
theorem cell_h {L : List HP} {g o : Nat} {cs : List Value} {v : Value} {f : HP → List HP} (h : St w0 w L) [a : At L (blk g) cs f] (hv : cs[o]? = some v) : w.cell? ⟨g, o, none⟩ = some v := by
  rw [h.blk.cell]; simpa using hv
theorem rmake_s {k : Option Addr → World → Prop} {z5 z12 : Nat} {B X : List Value} (hl : l.length ≤ 1000000) (hT : Tbl w0 ls l) (hK : KI b K) (hkl : K.length < 100000000) (hr0 : 0 ≤ row) (hf : x0.1.length = 19) (hx2 : x0.2 ∈ K) (hnew : (row, 0) ∉ K) (hbeg : ∀ j x, b.beg j = some x → x.2 ∈ K) (hB0 : ∀ {w' L' f'}, St w0 w' L' → [At L' (blk z12) B f'] → True) (hBl : B = ints x0.1 ++ ([.int .i64 x0.2.2, .int .i64 ((idxK x0.2 K : Nat) : Int)] : List Value))
    (h : St w0 w (blk z12 B :: blk z5 X :: blk gb (rbookV ps ls sB sS q) :: slc 2 sS (scsV b K) :: slc 21 sB (begsV b K l.length) :: R))
    (hk : ∀ g sk so sz sS' w', St w0 w' (blk z12 B :: blk z5 X :: RP gb g ps ls sB sS' q l.length { b with sc := upd b.sc (row, 0) (x0.2, false) } (K ++ [(row, 0)]) (kidsL l row) sk so sz row [0] (rn0 l row x0) 0 0 R) → k (some ⟨g, 0, none⟩) w') :
        drew w fun w24 =>
        ldA 19 w24 (Addr.add ⟨z12, 0, none⟩ 0) fun cs25 =>
        nn (some ⟨gb, 0, none⟩) fun a26 =>
        ldS w24 (Addr.add a26 1) fun s27 =>
        ldI .i64 w24 (Addr.add ⟨z12, 0, none⟩ 20) fun i28 =>
        both (
          pelotonref07_Kids s27 row w24 fun s29 w30 =>
          samec 1 (Addr.add ⟨z12, 0, none⟩ 20) w24 w30 (
          samec 19 (Addr.add ⟨z12, 0, none⟩ 0) w24 w30 (
          both (
            pelotonref08_Book_scope (some ⟨gb, 0, none⟩) i28 w30 fun i31 w32 =>
            samec 19 (Addr.add ⟨z12, 0, none⟩ 0) w24 w32 (
            both (
              newC w32 #[(.int .i64 i31)] 3 fun a33 w34 =>
              samec 19 (Addr.add ⟨z12, 0, none⟩ 0) w24 w34 (
              newC w34 #[(.int .i64 (0 : Int))] 3 fun a35 w36 =>
              samec 1 (Addr.add ⟨z12, 0, none⟩ 20) w24 w36 (
              samec 1 (Addr.add a26 1) w24 w36 (
              samec 19 (Addr.add ⟨z12, 0, none⟩ 0) w24 w36 (
              spl Zr.toArray 0 19 cs25 fun cs37 =>
              newC w36 (Array.setIfInBounds (Array.setIfInBounds (Array.setIfInBounds cs37 19 (.slice s29.a s29.n s29.c)) 22 (.slice (some a33) 1 1)) 23 (.slice (some a35) 1 1)) 100 fun a38 w39 =>
              (k (some a38) w39)))))) (
              newC w32 #[(.int .i64 (0 : Int))] 3 fun a40 w41 =>
              samec 1 (Addr.add ⟨z12, 0, none⟩ 20) w24 w41 (
              samec 1 (Addr.add a26 1) w24 w41 (
              samec 19 (Addr.add ⟨z12, 0, none⟩ 0) w24 w41 (
              newC w41 #[(.int .i64 i31)] 3 fun a42 w43 =>
              samec 19 (Addr.add ⟨z12, 0, none⟩ 0) w24 w43 (
              spl Zr.toArray 0 19 cs25 fun cs44 =>
              newC w43 (Array.setIfInBounds (Array.setIfInBounds (Array.setIfInBounds cs44 19 (.slice s29.a s29.n s29.c)) 22 (.slice (some a42) 1 1)) 23 (.slice (some a40) 1 1)) 100 fun a45 w46 =>
              (k (some a45) w46)))))))) (
            newC w30 #[(.int .i64 (0 : Int))] 3 fun a47 w48 =>
            samec 1 (Addr.add ⟨z12, 0, none⟩ 20) w24 w48 (
            samec 1 (Addr.add a26 1) w24 w48 (
            samec 19 (Addr.add ⟨z12, 0, none⟩ 0) w24 w48 (
            pelotonref08_Book_scope (some ⟨gb, 0, none⟩) i28 w48 fun i49 w50 =>
            samec 19 (Addr.add ⟨z12, 0, none⟩ 0) w24 w50 (
            newC w50 #[(.int .i64 i49)] 3 fun a51 w52 =>
            samec 19 (Addr.add ⟨z12, 0, none⟩ 0) w24 w52 (
            spl Zr.toArray 0 19 cs25 fun cs53 =>
            newC w52 (Array.setIfInBounds (Array.setIfInBounds (Array.setIfInBounds cs53 19 (.slice s29.a s29.n s29.c)) 22 (.slice (some a51) 1 1)) 23 (.slice (some a47) 1 1)) 100 fun a54 w55 =>
            (k (some a54) w55)))))))))) (
          newC w24 #[(.int .i64 (0 : Int))] 3 fun a56 w57 =>
          samec 1 (Addr.add ⟨z12, 0, none⟩ 20) w24 w57 (
          samec 1 (Addr.add a26 1) w24 w57 (
          samec 19 (Addr.add ⟨z12, 0, none⟩ 0) w24 w57 (
          pelotonref07_Kids s27 row w57 fun s58 w59 =>
          samec 1 (Addr.add ⟨z12, 0, none⟩ 20) w24 w59 (
          samec 19 (Addr.add ⟨z12, 0, none⟩ 0) w24 w59 (
          pelotonref08_Book_scope (some ⟨gb, 0, none⟩) i28 w59 fun i60 w61 =>
          samec 19 (Addr.add ⟨z12, 0, none⟩ 0) w24 w61 (
          newC w61 #[(.int .i64 i60)] 3 fun a62 w63 =>
          samec 19 (Addr.add ⟨z12, 0, none⟩ 0) w24 w63 (
          spl Zr.toArray 0 19 cs25 fun cs64 =>
          newC w63 (Array.setIfInBounds (Array.setIfInBounds (Array.setIfInBounds cs64 19 (.slice s58.a s58.n s58.c)) 22 (.slice (some a62) 1 1)) 23 (.slice (some a56) 1 1)) 100 fun a65 w66 =>
          (k (some a65) w66))))))))) := by
  have hlB : B.length = 21 := by rw [hBl]; simp [ints, hf]
  have hB19 : ((B.drop (0 + 0)).take 19).toArray = agI x0.1 := by
    rw [hBl, Nat.add_zero, List.drop_zero, List.take_append_of_le_length (by simp [ints, hf]), List.take_of_length_le (by simp [ints, hf])]
  have hB20 : B[0 + 20]? = some (.int .i64 ((idxK x0.2 K : Nat) : Int)) := by
    rw [hBl, List.getElem?_append_right (by simp [ints, hf])]; simp [ints, hf]
  have hsc : scsV b K ++ [.int .i64 ((idxK x0.2 K : Nat) : Int), .bool false] = scsV { b with sc := upd b.sc (row, 0) (x0.2, false) } (K ++ [(row, 0)]) := (scsV_app (g := b.beg) hK hnew hx2).symm
  have hbg : begsV b K l.length = begsV { b with sc := upd b.sc (row, 0) (x0.2, false) } (K ++ [(row, 0)]) l.length := (begsV_app hbeg).symm
  have hop : [Value.int .i64 (K.length : Int)] = ints (opnL (K ++ [(row, 0)]) row [0]) := by
    unfold opnL
    simp only [List.reverse_cons, List.reverse_nil, List.nil_append, List.map_cons, List.map_nil]
    rw [idxK_new hnew]
  have fin : ∀ {ga gz sk sS' w'}, St w0 w' (blk z12 B :: blk z5 X :: blk gb (rbookV ps ls sB sS' q) :: slc 2 sS' (scsV b K ++ [.int .i64 ((idxK x0.2 K : Nat) : Int), .bool false]) :: slc 21 sB (begsV b K l.length) :: slc 1 sk (ints (kidsL l row)) :: blk ga [.int .i64 (K.length : Int)] :: blk gz [.int .i64 (0 : Int)] :: R) →
      (spl Zr.toArray 0 19 (agI x0.1) fun cs37 =>
              newC w' (Array.setIfInBounds (Array.setIfInBounds (Array.setIfInBounds cs37 19 (.slice sk.a sk.n sk.c)) 22 (.slice (some ⟨ga, 0, none⟩) 1 1)) 23 (.slice (some ⟨gz, 0, none⟩) 1 1)) 100 fun a38 w39 =>
              (k (some a38) w39)) := by
    intro ga gz sk sS' w' h
    refine rrun_spl hf ?_
    rw [rrun_set hf]
    have h := h.asS (sz := 1) (g := ga) (n := 1) (cs := [.int .i64 (K.length : Int)]) rfl (by decide) (by intro v hv; simp at hv; subst hv; rfl)
    have h := h.asS (sz := 1) (g := gz) (n := 1) (cs := [.int .i64 (0 : Int)]) rfl (by decide) (by intro v hv; simp at hv; subst hv; rfl)
    rw [hsc, hbg, hop] at h
    refine newC_h h fun g w39 h => ?_
    refine hk g sk ⟨some ⟨ga, 0, none⟩, 1, 1⟩ ⟨some ⟨gz, 0, none⟩, 1, 1⟩ sS' w39 ?_
    have h : St w0 w39 (blk g (rrunV (rn0 l row x0) sk ⟨some ⟨ga, 0, none⟩, 1, 1⟩ ⟨some ⟨gz, 0, none⟩, 1, 1⟩ 0 0) :: (blk z12 B :: blk z5 X :: blk gb (rbookV ps ls sB sS' q) :: slc 2 sS' (scsV { b with sc := upd b.sc (row, 0) (x0.2, false) } (K ++ [(row, 0)])) :: slc 21 sB (begsV { b with sc := upd b.sc (row, 0) (x0.2, false) } (K ++ [(row, 0)]) l.length) :: slc 1 sk (ints (kidsL l row)) :: slc 1 ⟨some ⟨ga, 0, none⟩, 1, 1⟩ (ints (opnL (K ++ [(row, 0)]) row [0])) :: slc 1 ⟨some ⟨gz, 0, none⟩, 1, 1⟩ (ints [0].reverse) :: R)) := h
    exact h.perm (by repeat' (first | exact List.Perm.refl _ | refine perm_f 0 rfl ?_ | refine perm_f 1 rfl ?_ | refine perm_f 2 rfl ?_ | refine perm_f 3 rfl ?_ | refine perm_f 4 rfl ?_ | refine perm_f 5 rfl ?_ | refine perm_f 6 rfl ?_ | refine perm_f 7 rfl ?_))
  refine drew_h h fun w24 h => ?_
  refine ldA_h (n := 19) (g := z12) (o := 0 + 0) h (by rw [hlB]; decide) ?_
  rw [hB19]
  refine nn_i ?_
  refine ldS_h (g := gb) (o := 0 + 1) h rfl ?_
  refine ldI_h (g := z12) (o := 0 + 20) h hB20 ?_
  have hn0 : sS.n = K.length := by
    have := h.slen (sz := 2) (s := sS) (vs := scsV b K)
    rw [scsV_len] at this
    omega
  refine ⟨?_, ?_⟩
  · refine rkids_s (s := ⟨ls.a, ls.n, ls.c⟩) hT h hl fun sk w30 h2 nk => ?_
    refine samec_h (g := z12) (o := 0 + 20) h h2 (samec_h (g := z12) (o := 0 + 0) h h2 ?_)
    refine ⟨?_, ?_⟩
    · have h2' : St w0 w30 (blk gb (rbookV ps ls sB sS q) :: slc 2 sS (scsV b K) :: (blk z12 B :: blk z5 X :: slc 21 sB (begsV b K l.length) :: slc 1 sk (ints (kidsL l row)) :: R)) := h2.perm (by repeat' (first | exact List.Perm.refl _ | refine perm_f 0 rfl ?_ | refine perm_f 1 rfl ?_ | refine perm_f 2 rfl ?_ | refine perm_f 3 rfl ?_ | refine perm_f 4 rfl ?_ | refine perm_f 5 rfl ?_ | refine perm_f 6 rfl ?_ | refine perm_f 7 rfl ?_))
      refine rscope_s (sS := sS) (vs := scsV b K) h2' (by omega) fun sS' w32 h3 nS => ?_
      rw [hn0]
      refine samec_h (g := z12) (o := 0 + 0) h h3 ?_
      refine ⟨?_, ?_⟩
      · refine newC_h h3 fun ga w34 h4 => ?_
        refine samec_h (g := z12) (o := 0 + 0) h h4 ?_
        refine newC_h h4 fun gz w36 h5 => ?_
        refine samec_h (g := z12) (o := 0 + 20) h h5 (samec_1 (cell_h (g := gb) (o := 0 + 1) h rfl) (cell_h (g := gb) (o := 0 + 1) h5 rfl) (samec_h (g := z12) (o := 0 + 0) h h5 ?_))
        refine fin (sS' := sS') ?_
        have h6 : St w0 w36 (blk gz [.int .i64 (0 : Int)] :: blk ga [.int .i64 (K.length : Int)] :: blk gb (rbookV ps ls sB sS' q) :: slc 2 sS' (scsV b K ++ [.int .i64 ((idxK x0.2 K : Nat) : Int), .bool false]) :: blk z12 B :: blk z5 X :: slc 21 sB (begsV b K l.length) :: slc 1 sk (ints (kidsL l row)) :: R) := h5
        exact h6.perm (by repeat' (first | exact List.Perm.refl _ | refine perm_f 0 rfl ?_ | refine perm_f 1 rfl ?_ | refine perm_f 2 rfl ?_ | refine perm_f 3 rfl ?_ | refine perm_f 4 rfl ?_ | refine perm_f 5 rfl ?_ | refine perm_f 6 rfl ?_ | refine perm_f 7 rfl ?_))
      · refine newC_h h3 fun gz w41 h4 => ?_
        refine samec_h (g := z12) (o := 0 + 20) h h4 (samec_1 (cell_h (g := gb) (o := 0 + 1) h rfl) (cell_h (g := gb) (o := 0 + 1) h4 rfl) (samec_h (g := z12) (o := 0 + 0) h h4 ?_))
        refine newC_h h4 fun ga w43 h5 => ?_
        refine samec_h (g := z12) (o := 0 + 0) h h5 ?_
        refine fin (sS' := sS') ?_
        have h6 : St w0 w43 (blk ga [.int .i64 (K.length : Int)] :: blk gz [.int .i64 (0 : Int)] :: blk gb (rbookV ps ls sB sS' q) :: slc 2 sS' (scsV b K ++ [.int .i64 ((idxK x0.2 K : Nat) : Int), .bool false]) :: blk z12 B :: blk z5 X :: slc 21 sB (begsV b K l.length) :: slc 1 sk (ints (kidsL l row)) :: R) := h5
        exact h6.perm (by repeat' (first | exact List.Perm.refl _ | refine perm_f 0 rfl ?_ | refine perm_f 1 rfl ?_ | refine perm_f 2 rfl ?_ | refine perm_f 3 rfl ?_ | refine perm_f 4 rfl ?_ | refine perm_f 5 rfl ?_ | refine perm_f 6 rfl ?_ | refine perm_f 7 rfl ?_))
    · refine newC_h h2 fun gz w48 h3 => ?_
      refine samec_h (g := z12) (o := 0 + 20) h h3 (samec_h (g := gb) (o := 0 + 1) h h3 (samec_h (g := z12) (o := 0 + 0) h h3 ?_))
      have h3' : St w0 w48 (blk gb (rbookV ps ls sB sS q) :: slc 2 sS (scsV b K) :: (blk z12 B :: blk z5 X :: slc 21 sB (begsV b K l.length) :: slc 1 sk (ints (kidsL l row)) :: blk gz [.int .i64 (0 : Int)] :: R)) := h3.perm (by repeat' (first | exact List.Perm.refl _ | refine perm_f 0 rfl ?_ | refine perm_f 1 rfl ?_ | refine perm_f 2 rfl ?_ | refine perm_f 3 rfl ?_ | refine perm_f 4 rfl ?_ | refine perm_f 5 rfl ?_ | refine perm_f 6 rfl ?_ | refine perm_f 7 rfl ?_))
      refine rscope_s (sS := sS) (vs := scsV b K) h3' (by omega) fun sS' w50 h4 nS => ?_
      rw [hn0]
      refine samec_h (g := z12) (o := 0 + 0) h h4 ?_
      refine newC_h h4 fun ga w52 h5 => ?_
      refine samec_h (g := z12) (o := 0 + 0) h h5 ?_
      refine fin (sS' := sS') ?_
      have h6 : St w0 w52 (blk ga [.int .i64 (K.length : Int)] :: blk gb (rbookV ps ls sB sS' q) :: slc 2 sS' (scsV b K ++ [.int .i64 ((idxK x0.2 K : Nat) : Int), .bool false]) :: blk z12 B :: blk z5 X :: slc 21 sB (begsV b K l.length) :: slc 1 sk (ints (kidsL l row)) :: blk gz [.int .i64 (0 : Int)] :: R) := h5
      exact h6.perm (by repeat' (first | exact List.Perm.refl _ | refine perm_f 0 rfl ?_ | refine perm_f 1 rfl ?_ | refine perm_f 2 rfl ?_ | refine perm_f 3 rfl ?_ | refine perm_f 4 rfl ?_ | refine perm_f 5 rfl ?_ | refine perm_f 6 rfl ?_ | refine perm_f 7 rfl ?_))
  · refine newC_h h fun gz w57 h2 => ?_
    refine samec_h (g := z12) (o := 0 + 20) h h2 (samec_h (g := gb) (o := 0 + 1) h h2 (samec_h (g := z12) (o := 0 + 0) h h2 ?_))
    refine rkids_s (s := ⟨ls.a, ls.n, ls.c⟩) hT h2 hl fun sk w59 h3 nk => ?_
    refine samec_h (g := z12) (o := 0 + 20) h h3 (samec_h (g := z12) (o := 0 + 0) h h3 ?_)
    have h3' : St w0 w59 (blk gb (rbookV ps ls sB sS q) :: slc 2 sS (scsV b K) :: (blk z12 B :: blk z5 X :: slc 21 sB (begsV b K l.length) :: slc 1 sk (ints (kidsL l row)) :: blk gz [.int .i64 (0 : Int)] :: R)) := h3.perm (by repeat' (first | exact List.Perm.refl _ | refine perm_f 0 rfl ?_ | refine perm_f 1 rfl ?_ | refine perm_f 2 rfl ?_ | refine perm_f 3 rfl ?_ | refine perm_f 4 rfl ?_ | refine perm_f 5 rfl ?_ | refine perm_f 6 rfl ?_ | refine perm_f 7 rfl ?_))
    refine rscope_s (sS := sS) (vs := scsV b K) h3' (by omega) fun sS' w61 h4 nS => ?_
    rw [hn0]
    refine samec_h (g := z12) (o := 0 + 0) h h4 ?_
    refine newC_h h4 fun ga w63 h5 => ?_
    refine samec_h (g := z12) (o := 0 + 0) h h5 ?_
    refine fin (sS' := sS') ?_
    have h6 : St w0 w63 (blk ga [.int .i64 (K.length : Int)] :: blk gb (rbookV ps ls sB sS' q) :: slc 2 sS' (scsV b K ++ [.int .i64 ((idxK x0.2 K : Nat) : Int), .bool false]) :: blk z12 B :: blk z5 X :: slc 21 sB (begsV b K l.length) :: slc 1 sk (ints (kidsL l row)) :: blk gz [.int .i64 (0 : Int)] :: R) := h5
    exact h6.perm (by repeat' (first | exact List.Perm.refl _ | refine perm_f 0 rfl ?_ | refine perm_f 1 rfl ?_ | refine perm_f 2 rfl ?_ | refine perm_f 3 rfl ?_ | refine perm_f 4 rfl ?_ | refine perm_f 5 rfl ?_ | refine perm_f 6 rfl ?_ | refine perm_f 7 rfl ?_))
end
end Go.Proofs.YtgkfbagclkjilaaGreatDoor.Ft
namespace Go.Proofs.YtgkfbagclkjilaaGreatDoor.Ft
open Go Go.Ev Go.Proofs Go.Proofs.YtgkfbagclkjilaaGreatDoor
open Go.Proofs.YtgkfbagclkjilaaGreatDoor.Fr (fTo fOn fPlain fForked fJoined fClosed fChild fRoot fR isB fTo_len fOn_len fPlain_len fForked_len fJoined_len fClosed_len)
open Go.Proofs.YtgkfbagclkjilaaGreatDoor.Ck (opI Walk Accs needsOf isGoes heldL depths stepD handlesOk subBits scopesOk forks)
theorem idxK_pre {s : Key} {K K' : List Key} (h : ∃ e, K' = K ++ e) (hs : s ∈ K) : idxK s K' = idxK s K ∧ s ∈ K' := by
  obtain ⟨e, rfl⟩ := h
  exact ⟨idxK_app hs, List.mem_append_left _ hs⟩
section
variable {w0 w : World} {R : List HP} {gb : Nat} {ps ls sB sS : Sl} {q : Bool} {row : Int} {b : Bk} {K : List Key} {n : Nat} {P : List FnR} {l : List Rb} {Q : Int → Prop} {k : Bool → World → Prop} {x0 : List Int × Key}
theorem rrow_s (hC : Cx P l Q w0 ps ls row) (hbi : BI P Q b) (hK : KI b K) (hkl : K.length ≤ 3000000 + n) (hn : n + 1 + (rowAt l row).steps.toNat < 1048576) (hat : b.beg row = some x0) (hnew : ∀ k, b.sc (row, k) = none) (hkg : ∀ k ∈ kidsL l row, row < k) (hkQ : ∀ k ∈ kidsL l row, Q k) (hs0 : 0 ≤ (rowAt l row).steps)
    (h : St w0 w (blk gb (rbookV ps ls sB sS q) :: slc 2 sS (scsV b K) :: slc 21 sB (begsV b K l.length) :: R))
    (h0 : ∀ w', frow P l q row b = none → Ext w0 w' → k false w')
    (h1 : ∀ w' b' K' sS', frow P l q row b = some b' → BI P Q b' → KI b' K' → K'.length ≤ 3000000 + (n + 1 + (rowAt l row).steps.toNat) → BTo row (kidsL l row) b b' → St w0 w' (blk gb (rbookV ps ls sB sS' q) :: slc 2 sS' (scsV b' K') :: slc 21 sB (begsV b' K' l.length) :: R) → k true w') :
    pelotonref08_Book_fits (some ⟨gb, 0, none⟩) row w k := by
  obtain ⟨hfi, hin, hlt⟩ := hbi.beg row x0 hat
  have hfl := hfi.len
  have hr0 := hC.r0
  have hr1 := hC.r1
  have hbl : ∀ j x, b.beg j = some x → x.1.length = 19 := fun j x hj => (hbi.beg j x hj).1.len
  have hbm : ∀ j x, b.beg j = some x → x.2 ∈ K := fun j x hj => (hK.mem _).2 (hbi.beg j x hj).2.1
  have hx2 := hbm row x0 hat
  have hnK : (row, 0) ∉ K := fun hm => by
    rcases (hK.mem _).1 hm with e | e
    · have := congrArg Prod.fst e; dsimp only at this; omega
    · rw [hnew 0] at e; cases e
  have hbat : b.at row = x0 := by unfold Bk.at; rw [hat]; rfl
  unfold frow at h0 h1
  rw [hbat] at h0 h1
  generalize hX : rowAt l row = X at *
  unfold pelotonref08_Book_fits pelotonref08_Book_fits_b
  refine nn_i ?_
  refine ldS_h (g := gb) (o := 0 + 1) h rfl ?_
  refine tA_h hC.tb h hr0 hr1 fun p hp => ?_
  refine newC_h h fun g5 w6 h => ?_
  refine stW_h (n := 7) (g := g5) h rfl rfl one_rb fun w7 h => ?_
  rw [hX] at h
  refine nn_i ?_
  refine ldS_h (g := gb) (o := 0 + 2) h rfl ?_
  have hBn : sB.n = l.length := by
    have := h.slen (sz := 21) (s := sB) (vs := begsV b K l.length)
    rw [begsV_len hbl] at this; omega
  refine ixLdA_h (s := sB) (vs := begsV b K l.length) h (by decide) hr0 (by omega) ?_
  have hget : ((List.range l.length).map fun j : Nat => bgV b K (j : Int))[row.toNat]? = some (bgV b K row) := by
    rw [List.getElem?_map, List.getElem?_range (by omega)]
    simp only [Option.map_some]
    rw [Int.toNat_of_nonneg hr0]
  unfold begsV
  rw [flat_chunk (begsV_rows hbl) hget]
  have hbv : bgV b K row = ints x0.1 ++ ([.int .i64 x0.2.2, .int .i64 ((idxK x0.2 K : Nat) : Int)] : List Value) := by unfold bgV; rw [hat]
  have hbvl : (bgV b K row).length = 21 := bgV_len (fun x hx => hbl row x hx)
  refine newC_h h fun g12 w13 h => ?_
  refine stW_h (n := 21) (g := g12) h rfl (by simp [hbvl]) (by
    intro v hv
    rw [hbv] at hv
    rcases List.mem_append.1 (by simpa using hv : v ∈ ints x0.1 ++ ([.int .i64 x0.2.2, .int .i64 ((idxK x0.2 K : Nat) : Int)] : List Value)) with hv | hv
    · exact Ck.one_agI _ v (by simpa [agI] using hv)
    · simp at hv; rcases hv with rfl | rfl <;> rfl) fun w14 h => ?_
  generalize hB : bgV b K row = B at h hbv hbvl
  have h : St w0 w14 (blk g12 B :: blk g5 (rbV X) :: blk gb (rbookV ps ls sB sS q) :: slc 2 sS (scsV b K) :: slc 21 sB (begsV b K l.length) :: R) := h
  have hB0 : B[0 + 0 + 0]? = some (.int .i64 (x0.1.getD 0 0)) := by rw [hbv, List.getElem?_append_left (by simp [ints, hfl])]; exact ints_getD (by omega)
  have hB19 : B[0 + 19]? = some (.int .i64 x0.2.2) := by rw [hbv, List.getElem?_append_right (by simp [ints, hfl])]; simp [ints, hfl]
  have hB20 : B[0 + 20]? = some (.int .i64 ((idxK x0.2 K : Nat) : Int)) := by rw [hbv, List.getElem?_append_right (by simp [ints, hfl])]; simp [ints, hfl]
  refine joinP_i (fun z w' => (z = true ↔ (X.fn ≠ x0.1.getD 0 0 ∨ X.inn ≠ x0.2.2)) ∧ w' = w14) (fun J hJ => ?_) ?_
  · refine ldI_h (g := g5) (o := 0 + 2) h rfl ?_
    refine ldI_h (g := g12) (o := 0 + 0 + 0) h hB0 ?_
    refine iteB_i (fun hb => ?_) fun hb => ?_
    · have hb : X.fn ≠ x0.1.getD 0 0 := by simpa using hb
      exact hJ _ _ ⟨⟨fun _ => .inl hb, fun _ => rfl⟩, rfl⟩
    · have hb : X.fn = x0.1.getD 0 0 := by simpa using hb
      refine ldI_h (g := g5) (o := 0 + 1) h rfl ?_
      refine ldI_h (g := g12) (o := 0 + 19) h hB19 ?_
      refine hJ _ _ ⟨⟨fun e => .inr (by simpa using e), fun e => ?_⟩, rfl⟩
      have := e.resolve_left (fun q => q hb)
      simpa using this
  rintro z _ ⟨hz, rfl⟩
  refine iteB_i (fun hb => ?_) fun hb => ?_
  · rw [if_pos (hz.1 hb)] at h0; exact h0 _ rfl h.ext
  rw [if_neg (fun e => by rw [hz.2 e] at hb; cases hb)] at h0 h1
  refine ldI_h (g := g5) (o := 0 + 3) h rfl ?_
  refine iteB_i (fun hb => ?_) fun hb => ?_
  · have hb : X.kind = 0 := by simpa using hb
    rw [if_pos hb] at h1
    exact h1 _ b K sS rfl hbi hK (by omega) (BTo.refl _ _ _) h.drop.drop
  have hkind : X.kind ≠ 0 := by simpa using hb
  rw [if_neg hkind] at h0 h1
  refine joinP_i (fun z w' => ∃ g sk so sz sS', z = some ⟨g, 0, none⟩ ∧ St w0 w' (blk g12 B :: blk g5 (rbV X) :: RP gb g ps ls sB sS' q l.length { b with sc := upd b.sc (row, 0) (x0.2, false) } (K ++ [(row, 0)]) (kidsL l row) sk so sz row [0] (rn0 l row x0) 0 0 R)) (fun J hJ => ?_) ?_
  · exact rmake_s (ls := ls) (B := B) hC.len hC.tb hK (by omega) hr0 hfl hx2 hnK hbm (fun _ => trivial) hbv h fun g sk so sz sS' w' h => hJ _ _ ⟨g, sk, so, sz, sS', rfl, h⟩
  rintro _ w68 ⟨g, sk, so, sz, sS1, rfl, h⟩
  obtain ⟨hri, hbi2⟩ := ri_start (l := l) hbi hr0 hat (kidsL l row) hkQ
  have hKn : KI { b with sc := upd b.sc (row, 0) (x0.2, false) } (K ++ [(row, 0)]) := hK.app hnK hx2
  have hkaL : (kidsL l row).length ≤ 1000000 := by
    unfold kidsL
    rw [List.length_map]
    refine Nat.le_trans (List.length_filter_le _ _) ?_
    rw [List.length_range]; exact hC.len
  have hri1 : RI P Q row x0.2 (n + 1) (rn0 l row x0) { b with sc := upd b.sc (row, 0) (x0.2, false) } [0] := by
    have : RI P Q row x0.2 0 { rn0 l row x0 with kids := kidsL l row } { b with sc := upd b.sc (row, 0) (x0.2, false) } [0] := hri
    exact ⟨this.fb, this.fi, this.own, this.last, ⟨this.op.1, by have := this.op.2; show (0 : Int) ≤ ((n + 1 : Nat) : Int); omega⟩, this.kids⟩
  have hRx : Rx P l Q row x0.2 (n + 1) (rn0 l row x0) { b with sc := upd b.sc (row, 0) (x0.2, false) } (K ++ [(row, 0)]) [0] (kidsL l row) 0 0 :=
    ⟨hri1, hbi2, hKn, by rw [List.length_append]; simp only [List.length_cons, List.length_nil]; omega, rfl, Nat.zero_le _, rfl, Nat.zero_le _, hkg, fun j hj => by
      have hj : 0 < j := hj
      show upd _ _ _ _ = _
      unfold upd
      rw [if_neg (fun e => by have e2 := congrArg Prod.snd e; dsimp only at e2; omega)]
      exact hnew j⟩
  generalize hN : X.steps.toNat = N at *
  generalize hT : frun P l q row N (rn0 l row x0) { b with sc := upd b.sc (row, 0) (x0.2, false) } = T at h0 h1
  have hXs : X.steps = (N : Int) := by omega
  refine joinP_i (fun _ w' => ∃ r b2 K2 ks sk so sz sS2 u c, T = some (r, b2) ∧ Rx P l Q row x0.2 (n + 1 + N) r b2 K2 ks (kidsL l row) u c ∧ (∃ e, K2 = (K ++ [(row, 0)]) ++ e) ∧ St w0 w' (blk g12 B :: blk g5 (rbV X) :: RP gb g ps ls sB sS2 q l.length b2 K2 (kidsL l row) sk so sz row ks r u c R)) (fun J hJ => ?_) ?_
  · refine loopP_of (fun (i : Int) w' => ∃ j : Nat, ∃ r b2 K2 ks sk so sz sS2 u c, i = (j : Int) ∧ j ≤ N ∧ frun P l q row (N - j) r b2 = T ∧ Rx P l Q row x0.2 (n + 1 + j) r b2 K2 ks (kidsL l row) u c ∧ (∃ e, K2 = (K ++ [(row, 0)]) ++ e) ∧ St w0 w' (blk g12 B :: blk g5 (rbV X) :: RP gb g ps ls sB sS2 q l.length b2 K2 (kidsL l row) sk so sz row ks r u c R)) (fun i _ => (N - i).toNat) ⟨0, _, _, _, _, _, _, _, _, _, _, rfl, Nat.zero_le _, hT, hRx, ⟨[], by simp⟩, h⟩ ?_
    rintro _ w72 ⟨j, r, b2, K2, ks, sk, so, sz, sS2, u, c, rfl, hj, hfr, hx, hpre, h⟩ C hC2
    refine ldI_h (g := g5) (o := 0 + 5) h rfl ?_
    rw [hXs]
    refine iteB_i (fun hb => ?_) fun hb => ?_
    · have hlt : j < N := by have := of_decide_eq_true hb; omega
      obtain ⟨m, hm⟩ : ∃ m, N - j = m + 1 := ⟨N - j - 1, by omega⟩
      rw [hm] at hfr
      have hrl := hx.ri.fb.len
      refine joinP_i (fun z w' => (z = true ∧ T = none ∧ Ext w0 w') ∨ (z = false ∧ ∃ r' b' K' ks' sk so' sz' sS' u' c', frun P l q row m r' b' = T ∧ Rx P l Q row x0.2 (n + 1 + (j + 1)) r' b' K' ks' (kidsL l row) u' c' ∧ (∃ e, K' = (K ++ [(row, 0)]) ++ e) ∧ St w0 w' (blk g12 B :: blk g5 (rbV X) :: RP gb g ps ls sB sS' q l.length b' K' (kidsL l row) sk so' sz' row ks' r' u' c' R))) (fun J2 hJ2 => ?_) ?_
      · refine nn_i ?_
        refine ldI_h (g := g) (o := 0 + 25) h (rr_hi (j := 6) hrl) ?_
        refine iteB_i (fun hb => ?_) fun hb => ?_
        · have hb : r.kind ≠ 0 := by simpa using hb
          refine hJ2 _ _ (.inl ⟨rfl, ?_, h.ext⟩)
          rw [← hfr]; exact frun_over hb
        · have hb : r.kind = 0 := by simpa using hb
          have h' : St w0 w72 (RP gb g ps ls sB sS2 q l.length b2 K2 (kidsL l row) sk so sz row ks r u c (blk g12 B :: blk g5 (rbV X) :: R)) := h.perm (by repeat' (first | exact List.Perm.refl _ | refine perm_f 0 rfl ?_ | refine perm_f 1 rfl ?_ | refine perm_f 2 rfl ?_ | refine perm_f 3 rfl ?_ | refine perm_f 4 rfl ?_ | refine perm_f 5 rfl ?_ | refine perm_f 6 rfl ?_ | refine perm_f 7 rfl ?_))
          refine rstep_s hC (by omega) hx hkaL hb h' (fun w' e he => ?_) fun w' r' b' K' ks' sS' so' sz' u' c' he e hx' h => ?_
          · refine hJ2 _ _ (.inl ⟨rfl, ?_, he⟩)
            rw [← hfr, frun_succ, e]
          · refine hJ2 _ _ (.inr ⟨rfl, r', b', K', ks', sk, so', sz', sS', u', c', ?_, hx', ?_, h.perm (by repeat' (first | exact List.Perm.refl _ | refine perm_f 0 rfl ?_ | refine perm_f 1 rfl ?_ | refine perm_f 2 rfl ?_ | refine perm_f 3 rfl ?_ | refine perm_f 4 rfl ?_ | refine perm_f 5 rfl ?_ | refine perm_f 6 rfl ?_ | refine perm_f 7 rfl ?_))⟩)
            · rw [← hfr, frun_succ, e]
            · obtain ⟨e1, rfl⟩ := hpre
              obtain ⟨e2, rfl⟩ := he
              exact ⟨e1 ++ e2, by simp⟩
      rintro z w80 (⟨rfl, hTn, he⟩ | ⟨rfl, r', b', K', ks', sk, so', sz', sS', u', c', hfr', hx', hpre', h⟩)
      · refine iteB_t rfl ?_
        rw [hTn] at h0
        exact h0 _ rfl he
      · refine iteB_f rfl ?_
        have ew : IntKind.wrap .i64 ((j : Int) + 1) = ((j + 1 : Nat) : Int) := by rw [wrap_id ⟨by omega, by omega⟩]; simp
        rw [ew]
        exact hC2 _ _ ⟨j + 1, r', b', K', ks', sk, so', sz', sS', u', c', rfl, by omega, by rw [show N - (j + 1) = m by omega]; exact hfr', hx', hpre', h⟩ (by omega)
    · have hjn : j = N := by have := of_decide_eq_false hb; omega
      subst hjn
      rw [Nat.sub_self] at hfr
      exact hJ _ _ ⟨r, b2, K2, ks, sk, so, sz, sS2, u, c, hfr.symm, hx, hpre, h⟩
  rintro _ w82 ⟨r, b2, K2, ks, sk, so, sz, sS2, u, c, hTs, hx, hpre, h⟩
  rw [hTs] at h0 h1
  dsimp only at h0 h1
  have hrl := hx.ri.fb.len
  have hbto : BTo row (kidsL l row) b b2 := by
    have hb0 : BTo row (kidsL l row) b { b with sc := upd b.sc (row, 0) (x0.2, false) } := bto_sc
    have hrun : frun P l q row N (rn0 l row x0) { b with sc := upd b.sc (row, 0) (x0.2, false) } = some (r, b2) := hT.trans hTs
    obtain ⟨_, _, ht, _⟩ := frun_ri hC.acc hC.nd hC.q4 hr0 N 0 _ _ _ _ _ (by omega) hri hbi2 hkg hrun
    exact hb0.trans ht fun i hi => hi
  have hin2 := idxK_pre (s := x0.2) (K := K) (K' := K2) (by obtain ⟨e, rfl⟩ := hpre; exact ⟨[(row, 0)] ++ e, by simp⟩) hx2
  have hout : ∀ z w', z = true → fends P q X r b2 x0.2 = true → r.kids.length = 0 ∧ r.cl.length = 0 → St w0 w' (blk g12 B :: blk g5 (rbV X) :: RP gb g ps ls sB sS2 q l.length b2 K2 (kidsL l row) sk so sz row ks r u c R) → k z w' := by
    intro z w' hz hfe hkc h
    rw [if_pos ⟨hkc.1, hkc.2, hfe⟩] at h1
    subst hz
    refine h1 _ b2 K2 sS2 rfl hx.bi hx.ki hx.kl hbto ?_
    have h : St w0 w' (blk g12 B :: blk g5 (rbV X) :: blk gb (rbookV ps ls sB sS2 q) :: slc 2 sS2 (scsV b2 K2) :: slc 21 sB (begsV b2 K2 l.length) :: blk g (rrunV r sk so sz u c) :: slc 1 sk (ints (kidsL l row)) :: slc 1 so (ints (opnL K2 row ks)) :: slc 1 sz (ints ks.reverse) :: R) := h
    exact (((((h.drop.drop).rm 3 rfl).rm 3 rfl).rm 3 rfl).rm 3 rfl)
  have hno : ∀ w', ¬ (r.kids.length = 0 ∧ r.cl.length = 0 ∧ fends P q X r b2 x0.2 = true) → Ext w0 w' → k false w' := fun w' e he => by
    rw [if_neg e] at h0; exact h0 _ rfl he
  have hkl2 : r.kids.length = (kidsL l row).length - u := by rw [hx.kids, List.length_drop]
  have hu := hx.u
  have hcl2 : r.cl.length = X.cl.size - c := by
    have := hx.cl
    rw [hX] at this
    rw [this, List.length_drop, Array.length_toList]; rfl
  have hc2 := hx.c
  rw [hX] at hc2
  refine joinP_i (fun z w' => (z = true ∧ ¬ (r.kids.length = 0 ∧ r.cl.length = 0) ∨ z = false ∧ (r.kids.length = 0 ∧ r.cl.length = 0)) ∧ St w0 w' (blk g12 B :: blk g5 (rbV X) :: RP gb g ps ls sB sS2 q l.length b2 K2 (kidsL l row) sk so sz row ks r u c R)) (fun J hJ => ?_) ?_
  · refine drew_h h fun w84 h => ?_
    have hskn : sk.n = (kidsL l row).length := by
      have := h.slen (sz := 1) (s := sk) (vs := ints (kidsL l row))
      simp [ints] at this; omega
    refine nn_i ?_
    refine ldI_h (g := g) (o := 0 + 20) h (rr_hi (j := 1) hrl) ?_
    refine nn_i ?_
    refine ldS_h (g := g) (o := 0 + 19) h (rr_hi (j := 0) hrl) ?_
    refine iteB_i (fun hb => ?_) fun hb => ?_
    · have hb : (u : Int) ≠ (sk.n : Int) := by simpa using hb
      exact hJ _ _ ⟨.inl ⟨rfl, fun e => by omega⟩, h⟩
    · have hb : (u : Int) = (sk.n : Int) := by simpa using hb
      refine nn_i ?_
      refine ldI_h (g := g) (o := 0 + 21) h (rr_hi (j := 2) hrl) ?_
      refine ldStr_h (g := g5) (o := 0 + 6) h rfl ?_
      cases hz : ((c : Int) != ((X.cl.size : Nat) : Int)) with
      | true =>
        have : (c : Int) ≠ (X.cl.size : Int) := by simpa using hz
        exact hJ _ _ ⟨.inl ⟨rfl, fun e => by omega⟩, h⟩
      | false =>
        have : (c : Int) = (X.cl.size : Int) := by simpa using hz
        exact hJ _ _ ⟨.inr ⟨rfl, by omega, by omega⟩, h⟩
  rintro z w93 ⟨hz, h⟩
  refine iteB_i (fun hb => ?_) fun hb => ?_
  · have hz := (hz.resolve_right (fun e => by rw [hb] at e; cases e.1)).2
    exact hno _ (fun e => hz ⟨e.1, e.2.1⟩) h.ext
  have hkc := (hz.resolve_left (fun e => by rw [hb] at e; cases e.1)).2
  clear hz
  have hfin : ∀ z w', z = fends P q X r b2 x0.2 → St w0 w' (blk g12 B :: blk g5 (rbV X) :: RP gb g ps ls sB sS2 q l.length b2 K2 (kidsL l row) sk so sz row ks r u c R) → k z w' := by
    intro z w' hz h
    cases z with
    | true => exact hout _ _ rfl hz.symm hkc h
    | false => exact hno _ (fun e => by rw [← hz] at e; cases e.2.2) h.ext
  unfold fends at hfin
  refine ldI_h (g := g5) (o := 0 + 3) h rfl ?_
  refine joinP_i (fun z w' => (z = true → X.kind = 2 ∨ X.kind = 3) ∧ (z = false → X.kind ≠ 2 ∧ X.kind ≠ 3) ∧ w' = w93) (fun J hJ => ?_) ?_
  · refine iteB_i (fun hb => ?_) fun hb => ?_
    · have e2 : X.kind = 2 := by simpa using hb
      exact hJ _ _ ⟨fun _ => .inl e2, (fun e => by rw [show (X.kind == 2) = true from hb] at e; cases e), rfl⟩
    · have e2 : X.kind ≠ 2 := by simpa using hb
      exact hJ _ _ ⟨fun e => .inr (by simpa using e), fun e => ⟨e2, by simpa using e⟩, rfl⟩
  rintro z w97 ⟨hz1, hz2, rfl⟩
  refine iteB_i (fun hb => ?_) fun hb => ?_
  · rw [if_pos (hz1 hb)] at hfin
    refine drew_h h fun w98 h => ?_
    refine nn_i ?_
    refine ldI_h (g := g) (o := 0 + 25) h (rr_hi (j := 6) hrl) ?_
    refine ldI_h (g := g5) (o := 0 + 3) h rfl ?_
    refine iteB_i (fun hb => ?_) fun hb => ?_
    · rw [show (r.kind == X.kind) = true from hb, Bool.true_and] at hfin
      refine nn_i ?_
      refine ldI_h (g := g) (o := 0 + 26) h (rr_hi (j := 7) hrl) ?_
      refine ldI_h (g := g5) (o := 0 + 4) h rfl ?_
      exact hfin _ _ rfl h
    · rw [show (r.kind == X.kind) = false from hb, Bool.false_and] at hfin
      exact hfin _ _ rfl h
  obtain ⟨h2n, h3n⟩ := hz2 hb
  rw [if_neg (by omega)] at hfin
  refine iteB_i (fun hb => ?_) fun hb => ?_
  · have h4 : X.kind = 4 := by simpa using hb
    rw [if_pos h4] at hfin
    have hask : Ask b2.sc x0.2 (askB b2.sc x0.2) := ask_ex hx.bi.sc ((hx.ki.mem _).1 hin2.2)
    refine joinP_i (fun z w' => z = (r.kind != 0 || (q && !(askB b2.sc x0.2))) ∧ w' = w97) (fun J hJ => ?_) ?_
    · refine nn_i ?_
      refine ldI_h (g := g) (o := 0 + 25) h (rr_hi (j := 6) hrl) ?_
      refine iteB_i (fun hb => ?_) fun hb => ?_
      · exact hJ _ _ ⟨by rw [show (r.kind != 0) = true from hb]; rfl, rfl⟩
      · rw [show (r.kind != 0) = false from hb, Bool.false_or] at hJ
        refine nn_i ?_
        refine ldB_h (g := gb) (o := 0 + 4) h rfl ?_
        refine iteB_i (fun hq => ?_) fun hq => ?_
        · subst hq
          refine ldI_h (g := g12) (o := 0 + 20) h hB20 ?_
          rw [← hin2.1]
          refine rasked_s h hx.ki hask hin2.2 ?_
          exact hJ _ _ ⟨rfl, rfl⟩
        · subst hq
          exact hJ _ _ ⟨rfl, rfl⟩
    rintro z _ ⟨rfl, rfl⟩
    refine iteB_i (fun hb => ?_) fun hb => ?_
    · rw [if_pos hb] at hfin; exact hfin _ _ rfl h
    rw [if_neg (by rw [hb]; decide)] at hfin
    have hk0 : r.kind = 0 := by
      rw [Bool.or_eq_false_iff] at hb
      simpa using hb.1
    refine drew_h h fun w115 h => ?_
    refine ldI_h (g := g5) (o := 0 + 5) h rfl ?_
    refine iteB_i (fun hb => ?_) fun hb => ?_
    · rw [show (X.steps == 0) = true from hb, Bool.true_or] at hfin; exact hfin _ _ rfl h
    rw [show (X.steps == 0) = false from hb, Bool.false_or] at hfin
    obtain ⟨g', hv, ha⟩ := (hx.ri.fi hk0).at hC.acc
    have hg := ha.at0
    have hcode := (hC.fn.code g' (List.mem_of_getElem? hg)).2
    have h5 := (hcode.five _ (List.mem_of_getElem? ha.ins)).1
    have hck := Ck.chk0 ha.chk
    refine nn_i ?_
    refine ldS_h (g := gb) (o := 0 + 0 + 0) h rfl ?_
    refine nn_i ?_
    refine ldI_h (g := g) (o := 0 + 0 + 0) h (rr_get (j := 0) hrl (by decide)) ?_
    refine ixR_h (e := g'.cells) hC.fn.rws h hx.ri.fb.f0 (by rw [List.getElem?_map, hg]; rfl) fun p1 hp1 => ?_
    refine ldS_i (s := g'.sl) (hp1 h (j := 1) rfl) ?_
    refine nn_i ?_
    refine ldI_h (g := g) (o := 0 + 0 + 1) h (rr_get (j := 1) hrl (by decide)) ?_
    refine ixR_h (e := ints (insAt P r.f)) hcode.rws h ha.walk.a0 (by rw [List.getElem?_map, ha.ins]; rfl) fun p2 hp2 => ?_
    refine ldI_i (hp2 h (j := 0) (ints_getD (by omega))) ?_
    unfold pelotonref02_Point
    rw [isPt_r hck.1 hck.2.1]
    exact hfin _ _ rfl h
  · have h4 : X.kind ≠ 4 := by simpa using hb
    rw [if_neg h4] at hfin
    exact hfin _ _ rfl h
end
end Go.Proofs.YtgkfbagclkjilaaGreatDoor.Ft
namespace Go.Proofs.YtgkfbagclkjilaaGreatDoor.Ft
open Go Go.Ev Go.Proofs Go.Proofs.YtgkfbagclkjilaaGreatDoor
open Go.Proofs.YtgkfbagclkjilaaGreatDoor.Fr (fTo fOn fPlain fForked fJoined fClosed fChild fRoot fR isB fTo_len fOn_len fPlain_len fForked_len fJoined_len fClosed_len)
open Go.Proofs.YtgkfbagclkjilaaGreatDoor.Ck (opI Walk Accs needsOf isGoes heldL depths stepD handlesOk subBits scopesOk forks)
theorem made_all {sz : Nat} {v : Value} (hsz : 0 < sz) (n : Nat) : madeCells (List.replicate sz v).toArray n = (List.replicate n v).toArray := by
  apply Array.ext
  · simp [madeCells]
  · intro j h1 h2
    have hj : j % sz < sz := Nat.mod_lt _ hsz
    simp [madeCells, hj]
theorem mkSlZ_h {P : Program} {t : TypeId} {b sz : Nat} {z v : Value} {n : Nat} {kl kc : IntKind} {c : Sl → World → Prop} {w0 w : World} {L : List HP} (h : St w0 w L) (ht : ElS P t sz b z) (hz : z.cells = (List.replicate sz v).toArray) (hsz : 0 < sz) (hv : v.oneCell' = true)
    (hbytes : b * n ≤ 281474976710656) (h63 : n ≤ 9223372036854775807)
    (hc : ∀ s w', St w0 w' (slc sz s (List.replicate (n * sz) v) :: L) → s.n = n → c s w') : mkSl P t (.int kl (n : Int)) (.int kc (n : Int)) w c := by
  obtain ⟨e, i, hte, hi, hs, hby, hzi⟩ := ht.out
  have hb' : (i.bytes : Int) * (n : Int) ≤ 281474976710656 := by
    have h : ((b * n : Nat) : Int) ≤ 281474976710656 := by omega
    rw [Int.natCast_mul] at h
    rwa [hby]
  have hr := run_make (P := P) w t e i z hte hi hzi kl kc n n (by omega) (Int.le_refl _) hb' (by omega)
  unfold mkSl
  rw [hr, hs, hz, Int.toNat_natCast, made_all hsz]
  show c ⟨some ⟨w.heap.size, 0, none⟩, n, n⟩ _
  refine hc _ _ (h.new (ext_alloc w _) (F' := fun k => k = w.heap.size) ⟨fun k => by simp [Sl.blk, eq_comm], OwnS.new (Blk.new w _ e) (by simp) h63 fun x hx => by rw [(List.mem_replicate.1 hx).2]; exact hv⟩ fun k hk => by rw [hk]; exact Nat.le_refl _) rfl
theorem elBg : ElS Go.Proofs.Tryz.prog 48 21 168 (.agg #[.int .i64 0, .int .i64 0, .int .i64 0, .int .i64 0, .int .i64 0, .int .i64 0, .int .i64 0, .int .i64 0, .int .i64 0, .int .i64 0, .int .i64 0, .int .i64 0, .int .i64 0, .int .i64 0, .int .i64 0, .int .i64 0, .int .i64 0, .int .i64 0, .int .i64 0, .int .i64 0, .int .i64 0]) := ⟨by kernel_rfl, rfl⟩
def bkN : Bk := ⟨fun _ => none, fun _ => none⟩
theorem rep_flat {v : Value} {m : Nat} : ∀ n : Nat, ((List.range n).map fun _ : Nat => List.replicate m v).flatten = List.replicate (n * m) v := by
  intro n
  rw [List.map_const', List.length_range, List.flatten_replicate_replicate]
theorem begsV_nil {K : List Key} {n : Nat} : begsV bkN K n = List.replicate (n * 21) (.int .i64 0) := by
  unfold begsV
  rw [← rep_flat n]
  rfl
theorem begsV_bk0 {n : Nat} (hn : 0 < n) : (List.replicate (n * 21) (Value.int .i64 0)).take ((0 : Int).toNat * 21) ++ ((ints fRoot ++ ([.int .i64 0, .int .i64 0] : List Value)) ++ (List.replicate (n * 21) (Value.int .i64 0)).drop ((0 : Int).toNat * 21 + 21)) = begsV bk0 [(-1, 0)] n := by
  have := begsV_put (b := bkN) (K := [(-1, 0)]) (n := n) (j := 0) (x := (fRoot, (-1, 0))) (by decide) (by omega) (fun i x h => by cases h)
  rw [begsV_nil] at this
  exact this
theorem ki_root : KI bk0 [(-1, 0)] := ⟨rfl, by simp, fun s => by simp [bk0], fun s x hx => by cases hx⟩
theorem scs_root : scsV bk0 [(-1, 0)] = [.int .i64 (-1), .bool false] := by simp [scsV, scV]
section
variable {w : World} {ps ls : Sl} {P : List FnR} {l : List Rb} {q : Bool}
theorem raccepts_s {k : Bool → World → Prop} (hF : Funcs5 w ps P) (hfew : Ck.Few P) (hc : ∀ w', St w w' [] → k ((Ck.progF P).2.2 == 0) w') : pelotonref04_Accepts #[.slice ps.a ps.n ps.c] w k := by
  unfold pelotonref04_Accepts pelotonref04_Accepts_b
  refine newC_h (.nil w) fun g w2 h => ldW_h (g := g) h rfl (Ck.rprogram_s (hF.ext h.ext) hfew fun w' h2 => ?_)
  have h := h.on h2.ext
  exact hc w' h.all
theorem spl_rbook {c : Array Value → Prop} (hc : c #[.slice ps.a ps.n ps.c, .slice none 0 0, .slice none 0 0, .slice none 0 0, .bool false]) : spl #[(.slice none 0 0), (.slice none 0 0), (.slice none 0 0), (.slice none 0 0), (.bool false)] 0 1 #[.slice ps.a ps.n ps.c] c :=
  spl_V (acc := [.slice none 0 0, .slice none 0 0, .slice none 0 0, .slice none 0 0, .bool false]) (cs := [.slice ps.a ps.n ps.c]) [.slice ps.a ps.n ps.c, .slice none 0 0, .slice none 0 0, .slice none 0 0, .bool false] rfl (by simp) rfl hc
theorem rFits_s {k : Int × Int → World → Prop} (hF : Funcs5 w ps P) (hT : Tbl w ls l) (hS : Shrt P l)
    (hk : ∀ w', Ext w w' → k (fitsF P l q) w') : pelotonref08_Fits #[.slice ps.a ps.n ps.c] ⟨ls.a, ls.n, ls.c⟩ q w k := by
  have hN : ∀ g ∈ P, InI g.needs := fun g hg => (hF.code g hg).1
  have hl60 := hS.t.n
  have hLn := hT.len
  unfold pelotonref08_Fits pelotonref08_Fits_b
  refine newC_h (.nil w) fun g1 w2 h => ?_
  have h : St w w2 [blk g1 [.slice ps.a ps.n ps.c]] := h
  refine ldW_h (n := 1) (g := g1) h rfl ?_
  refine raccepts_s (hF.ext h.ext) hS.p fun w5 h2 => ?_
  have h := ext_of h h2.ext
  unfold fitsF at hk
  refine iteB_i (fun hb => ?_) fun hb => ?_
  · rw [if_pos (by simpa using hb)] at hk; exact hk _ h.ext
  have hz : (Ck.progF P).2.2 = 0 := by simpa using hb
  rw [if_neg (by simpa using hz)] at hk
  have hA := Ck.accs_iff.1 hz
  refine rcheck7_s (s := ⟨ls.a, ls.n, ls.c⟩) (hT.ext h.ext) hS.cl fun w7 he => ?_
  have h := ext_of h he
  refine iteB_i (fun hb => ?_) fun hb => ?_
  · have hb : ¬ tcheck l = 0 := by simpa using hb
    rw [if_pos hb] at hk; exact hk _ h.ext
  have hz : tcheck l = 0 := by simpa using hb
  rw [if_neg (by simpa using hz)] at hk
  obtain ⟨hl0, hTR⟩ := tcheck_row hz
  have hlp : 0 < l.length := by omega
  refine joinP_i (fun z w' => ∃ gb sB sS, z = some ⟨gb, 0, none⟩ ∧ sB.n = l.length ∧ St w w' (blk gb (rbookV ps ls sB sS q) :: slc 2 sS [.int .i64 (-1), .bool false] :: slc 21 sB (List.replicate (l.length * 21) (.int .i64 0)) :: [blk g1 [.slice ps.a ps.n ps.c]])) (fun J hJ => ?_) ?_
  · have hmk : ∀ {w1 : World} {L : List HP} {c : Sl → World → Prop}, St w w1 L → (∀ s w', St w w' (slc 21 s (List.replicate (l.length * 21) (.int .i64 0)) :: L) → s.n = l.length → c s w') → mkSl Go.Proofs.Tryz.prog 48 (.int .i64 ((ls.n : Nat) : Int)) (.int .i64 ((ls.n : Nat) : Int)) w1 c := fun h hc => by
      rw [hLn]
      exact mkSlZ_h h elBg rfl (by decide) rfl (by omega) (by omega) hc
    refine drew_h h fun w9 h9 => ?_
    refine ldW_h (n := 1) (g := g1) h9 rfl ?_
    refine ⟨?_, samec_h (g := g1) (o := 0) h9 h9 ⟨?_, ?_⟩⟩
    · refine hmk h9 fun sB w12 h hn => ?_
      refine samec_h (g := g1) (o := 0) h9 h (samec_h (g := g1) (o := 0) h9 h ?_)
      refine spl_i #[.int .i64 (-1), .bool false] rfl rfl ?_
      refine newC_h h fun g14 w15 h => ?_
      refine samec_h (g := g1) (o := 0) h9 h ?_
      refine spl_rbook ?_
      refine newC_h h fun g17 w18 h => ?_
      have h : St w w18 (blk g17 (rbookV ps ls sB ⟨some ⟨g14, 0, none⟩, 1, 1⟩ q) :: blk g14 [.int .i64 (-1), .bool false] :: slc 21 sB (List.replicate (l.length * 21) (.int .i64 0)) :: [blk g1 [.slice ps.a ps.n ps.c]]) := h
      have h := h.asS (g := g14) (sz := 2) (n := 1) rfl (by decide) (by intro x hx; simp at hx; rcases hx with rfl | rfl <;> rfl)
      exact hJ _ _ ⟨g17, sB, _, rfl, hn, h⟩
    · refine hmk h9 fun sB w12 h hn => ?_
      refine samec_h (g := g1) (o := 0) h9 h ?_
      refine spl_i #[.int .i64 (-1), .bool false] rfl rfl ?_
      refine newC_h h fun g14 w15 h => ?_
      refine samec_h (g := g1) (o := 0) h9 h ?_
      refine spl_rbook ?_
      refine newC_h h fun g17 w18 h => ?_
      have h : St w w18 (blk g17 (rbookV ps ls sB ⟨some ⟨g14, 0, none⟩, 1, 1⟩ q) :: blk g14 [.int .i64 (-1), .bool false] :: slc 21 sB (List.replicate (l.length * 21) (.int .i64 0)) :: [blk g1 [.slice ps.a ps.n ps.c]]) := h
      have h := h.asS (g := g14) (sz := 2) (n := 1) rfl (by decide) (by intro x hx; simp at hx; rcases hx with rfl | rfl <;> rfl)
      exact hJ _ _ ⟨g17, sB, _, rfl, hn, h⟩
    · refine spl_i #[.int .i64 (-1), .bool false] rfl rfl ?_
      refine newC_h h9 fun g14 w15 h => ?_
      refine samec_h (g := g1) (o := 0) h9 h ?_
      refine hmk h fun sB w12 h hn => ?_
      refine samec_h (g := g1) (o := 0) h9 h ?_
      refine spl_rbook ?_
      refine newC_h h fun g17 w18 h => ?_
      have h : St w w18 (blk g17 (rbookV ps ls sB ⟨some ⟨g14, 0, none⟩, 1, 1⟩ q) :: slc 21 sB (List.replicate (l.length * 21) (.int .i64 0)) :: blk g14 [.int .i64 (-1), .bool false] :: [blk g1 [.slice ps.a ps.n ps.c]]) := h
      have h := h.asS (g := g14) (sz := 2) (n := 1) rfl (by decide) (by intro x hx; simp at hx; rcases hx with rfl | rfl <;> rfl)
      exact hJ _ _ ⟨g17, sB, _, rfl, hn, h.perm (by repeat' (first | exact List.Perm.refl _ | refine perm_f 0 rfl ?_ | refine perm_f 1 rfl ?_ | refine perm_f 2 rfl ?_ | refine perm_f 3 rfl ?_ | refine perm_f 4 rfl ?_ | refine perm_f 5 rfl ?_ | refine perm_f 6 rfl ?_ | refine perm_f 7 rfl ?_))⟩
  rintro _ w36 ⟨gb, sB, sS, rfl, hsn, h⟩
  refine drew_h h fun w37 h => ?_
  refine nn_i ?_
  refine ldS_h (g := gb) (o := 0 + 2) h rfl ?_
  refine Fr.rroot_s fun w41 he => ?_
  have h2 := ext_of h he
  refine samec_h (g := gb) (o := 0 + 2) h h2 ?_
  refine spl_i (ints fRoot ++ ([.int .i64 0, .int .i64 0] : List Value)).toArray rfl (by kernel_rfl) ?_
  refine samec_h (g := gb) (o := 0 + 2) h h2 ?_
  refine ixStA_h (s := sB) (vs := List.replicate (l.length * 21) (.int .i64 0)) h2 (by decide) (Int.le_refl _) (by omega) rfl (by
    intro v hv
    rcases List.mem_append.1 (by simpa using hv : v ∈ ints fRoot ++ ([.int .i64 0, .int .i64 0] : List Value)) with hv | hv
    · exact Ck.one_agI _ v (by simpa [agI] using hv)
    · simp at hv; rw [hv]; rfl) fun w44 h => ?_
  rw [List.toList_toArray, begsV_bk0 hlp] at h
  have h : St w w44 (blk gb (rbookV ps ls sB sS q) :: slc 2 sS (scsV bk0 [(-1, 0)]) :: slc 21 sB (begsV bk0 [(-1, 0)] l.length) :: [blk g1 [.slice ps.a ps.n ps.c]]) := by
    rw [scs_root]; exact h
  rw [hLn]
  refine loopP_of (fun (i : Int) w' => ∃ (j : Nat) (b : Bk) (K : List Key) (sS : Sl), i = j ∧ j ≤ l.length ∧ St w w' (blk gb (rbookV ps ls sB sS q) :: slc 2 sS (scsV b K) :: slc 21 sB (begsV b K l.length) :: [blk g1 [.slice ps.a ps.n ps.c]]) ∧ BI P (fun j => 0 ≤ j ∧ j < l.length) b ∧ KI b K ∧ K.length ≤ 3000000 + 3001 * j ∧ Known l j b ∧ (∀ i : Int, j ≤ i → ∀ k, b.sc (i, k) = none) ∧ fgo P l q l.length 0 bk0 = fgo P l q (l.length - j) j b) (fun i _ => l.length - i.toNat) ⟨0, bk0, [(-1, 0)], sS, rfl, Nat.zero_le _, h, bi_root hA hN, ki_root, by simp, known_root hTR, fun _ _ _ => rfl, rfl⟩ ?_
  rintro _ w4' ⟨j, b, K, sS, rfl, hj, h, hbi, hKI, hKl, hkn, hsn0, hgo⟩ C hC
  refine iteB_i (fun hb => ?_) fun hb => ?_
  · have hlt : j < l.length := by have := of_decide_eq_true hb; omega
    obtain ⟨n, hn⟩ : ∃ n, l.length - j = n + 1 := ⟨l.length - j - 1, by omega⟩
    rw [hn] at hgo
    rw [fgo_succ] at hgo
    have hTj := hTR j hlt
    have hsp := row_span hTj
    have hst := hS.steps j
    have hbj : (b.beg j).isSome = true := by
      refine hkn j (by omega) (by omega) ?_
      by_cases e : (j : Int) = 0
      · exact .inl e
      · exact .inr (row_par hTj e (by omega)).2.1
    obtain ⟨x0, hat⟩ := Option.isSome_iff_exists.1 hbj
    have hmem : rowAt l (j : Int) ∈ l := by
      unfold rowAt
      rw [Int.toNat_natCast, List.getD_eq_getElem?_getD, List.getElem?_eq_getElem hlt]
      exact List.getElem_mem hlt
    have hcs := hS.t.cl _ hmem
    have hCx : Cx P l (fun j => 0 ≤ j ∧ j < l.length) w ps ls (j : Int) := ⟨hF, hT, hA, hN, fun _ h => h, fun j hj => (row_span (tr_int hTR hj.1 hj.2)).2.2.2.2.1, hS.len, by omega, by omega, hTj.told, by omega⟩
    refine rrow_s (n := 3001 * j) hCx hbi hKI hKl (by omega) hat (fun k => hsn0 j (Int.le_refl _) k) (fun k hk => kids_gt hTR k hk (by omega)) (fun k hk => ⟨(mem_kids.1 hk).1, (mem_kids.1 hk).2.1⟩) hsp.2.2.2.2.2.1 h (fun w' hs he => ?_) fun w' b' K' sS' hs hbi' hKI' hKl' hto h => ?_
    · rw [hs] at hgo
      refine iteB_t rfl ?_
      show k ((j : Int), 25) w'
      rw [hgo] at hk
      exact hk _ he
    · rw [hs] at hgo
      refine iteB_f rfl ?_
      have ew : IntKind.wrap .i64 ((j : Int) + 1) = ((j + 1 : Nat) : Int) := by rw [wrap_id ⟨by omega, by omega⟩]; simp
      rw [ew]
      refine hC _ _ ⟨j + 1, b', K', sS', rfl, by omega, h, hbi', hKI', by omega, frow_known hTR (by omega) hkn hs, fun i hi k => ?_, ?_⟩ (by omega)
      · rw [hto.sc (i, k) (by dsimp only; omega)]
        exact hsn0 i (by omega) k
      · rw [hgo, show l.length - (j + 1) = n by omega]
        rfl
  · have hge : l.length - j = 0 := by have := of_decide_eq_false hb; omega
    rw [hge] at hgo
    rw [fgo_zero] at hgo
    show k (0, 0) w4'
    rw [hgo] at hk
    exact hk _ h.ext
end
end Go.Proofs.YtgkfbagclkjilaaGreatDoor.Ft
namespace Go.Proofs.YtgkfbagclkjilaaGreatDoor.Ft
open Go Go.Ev Go.Proofs Go.Proofs.YtgkfbagclkjilaaGreatDoor
open Go.Proofs.YtgkfbagclkjilaaGreatDoor.Ck (Accs)
theorem law_rows {w : World} {ps ls : Sl} {P : List FnR} {l : List Rb} {k : Bool → World → Prop} (hF : Funcs5 w ps P) (hT : Tbl w ls l) (hk : ∀ w', St w w' [] → k true w') : pelotonlaw08_FitsRows #[.slice ps.a ps.n ps.c] ⟨ls.a, ls.n, ls.c⟩ w k := by
  have hN : ∀ g ∈ P, InI g.needs := fun g hg => (hF.code g hg).1
  unfold pelotonlaw08_FitsRows pelotonlaw08_FitsRows_b
  refine newC_h (.nil w) fun g1 w2 h => ?_
  have h : St w w2 [blk g1 [.slice ps.a ps.n ps.c]] := h
  refine ldW_h (n := 1) (g := g1) h rfl ?_
  refine short_s (hF.ext h.ext) (hT.ext h.ext) fun b w5 h2 hs => ?_
  have h := ext_of h h2.ext
  refine iteB_i (fun hb => ?_) fun hb => ?_
  · exact awake_s fun w7 h3 => hk _ (ext_of h h3.ext).all
  have hS := hs (by simpa using hb)
  refine ldW_h (n := 1) (g := g1) h rfl ?_
  refine Fits_s (hF.ext h.ext) (hT.ext h.ext) hN hS.len hS.cl fun w10 he => ?_
  have h := ext_of h he
  refine ldW_h (n := 1) (g := g1) h rfl ?_
  refine rFits_s (q := false) (hF.ext h.ext) (hT.ext h.ext) hS fun w13 he => ?_
  have h := ext_of h he
  refine iteB_t (by simp) ?_
  exact awake_s fun w7 h3 => hk _ (ext_of h h3.ext).all
end Go.Proofs.YtgkfbagclkjilaaGreatDoor.Ft
