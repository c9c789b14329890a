/-
  Layer 8: all rows: the code.
  From what a law's function does to the given statement where a row lists package-level variables (none of which the code reads).
  Layers 7 and 8: what the laws ask: tables that come in; small ones; the chapter's examples.
  Layer 8: the chapter's examples; what fits quietly fits; tables of one row.
  Layer 8: what fits quietly fits; how programs begin.
-/
import Derived.Test.YtgkfbagclkjilaaDoorPBegins5
import Derived.LaidMore
import Derived.SevenTiedAt
import Derived.Lay
import Derived.Stop.Joined
set_option linter.unusedSimpArgs false
set_option linter.unusedVariables false
set_option maxRecDepth 100000
namespace Go.Proofs.YtgkfbagclkjilaaDoor.Ft
open Go Go.Ev Go.Proofs Go.Proofs.YtgkfbagclkjilaaDoor
open Go.Proofs.YtgkfbagclkjilaaDoor.Fr (fTo fOn fPlain fForked fJoined fClosed fChild fRoot fR isB fTo_len fOn_len fPlain_len fForked_len fJoined_len fClosed_len)
open Go.Proofs.YtgkfbagclkjilaaDoor.Ck (opI Walk Accs needsOf isGoes heldL depths stepD handlesOk subBits scopesOk forks)
section
variable {w0 w : World} {L R : List HP} {gr gb gB gS : Nat} {ps ls sk : Sl} {q : Bool} {i : Int} {r r' : Rn} {b b' : Bk} {P : List FnR} {l : List Rb} {Q : Int → Prop} {f : HP → List HP} {φ : Int → Option (List Int × (Int × Int))}
theorem newBook_h {t : TypeId} {c : Addr → World → Prop} (h : St w0 w L) (hc : ∀ g w', St w0 w' (blk g (bookV ps ls q gB gS) :: L) → c ⟨g, 0, none⟩ w') :
    newC w (Array.setIfInBounds (Array.setIfInBounds (Array.setIfInBounds (Array.setIfInBounds #[.slice ps.a ps.n ps.c, .slice none 0 0, .bool false, .map none, .map none] 1 (.slice ls.a ls.n ls.c)) 2 (.bool q)) 3 (.map (some gB))) 4 (.map (some gS))) t c :=
  newC_h h hc
theorem spl_book {c : Array Value → Prop} (hc : c #[.slice ps.a ps.n ps.c, .slice none 0 0, .bool false, .map none, .map none]) : spl #[(.slice none 0 0), (.slice none 0 0), (.bool false), (.map none), (.map none)] 0 1 #[.slice ps.a ps.n ps.c] c :=
  spl_V (acc := [.slice none 0 0, .slice none 0 0, .bool false, .map none, .map none]) (cs := [.slice ps.a ps.n ps.c]) [.slice ps.a ps.n ps.c, .slice none 0 0, .bool false, .map none, .map none] rfl (by simp) rfl hc
theorem fgo_zero : fgo P l q 0 i b = (0, 0) := rfl
theorem fgo_succ {n : Nat} : fgo P l q (n + 1) i b = (match frow P l q i b with | none => (i, 25) | some b' => fgo P l q n (i + 1) b') := rfl
theorem row2_s {ga : Nat} {k : Bool → World → Prop} {Y : List HP} (h : St w0 w (blk ga [.pointer (some ⟨gb, 0, none⟩)] :: Y)) (hc : fits_book_fits (some ⟨gb, 0, none⟩) i w k) : fits_all_2 i ⟨ga, 0, none⟩ w k := by
  unfold fits_all_2 fits_all_2_b
  exact ldP_h (g := ga) h rfl hc
theorem fits_all_s {k : Int × Int → World → Prop} (hF : Funcs5 w ps P) (hT : Tbl w ls l) (hN : ∀ g ∈ P, InI g.needs) (hlen : l.length ≤ 1000000) (hcl : ∀ r ∈ l, r.cl.size < 4611686018427387904)
    (hk : ∀ w', Ext w w' → k (fitsF P l q) w') : fits_all #[.slice ps.a ps.n ps.c] ⟨ls.a, ls.n, ls.c⟩ q w k := by
  unfold fits_all fits_all_b
  refine newC_h (.nil w) fun g1 w2 h => ?_
  refine newC_h h fun g3 w4 h => ?_
  refine ldW_h (n := 1) (g := g1) h rfl ?_
  refine Ck.accepts_s (hF.ext h.ext) fun w7 h7 => ?_
  have h := ext_of h h7.ext
  rw [Ck.progF_zero]
  unfold fitsF at hk
  refine iteB_i (fun hb => ?_) fun hb => ?_
  · rw [if_pos (by simpa using hb)] at hk; exact hk _ h.ext
  have hz : (Ck.progF P).2.2 = 0 := by simpa using hb
  rw [if_neg (by simpa using hz)] at hk
  have hA := Ck.accs_iff.1 hz
  refine ldS_h (g := g3) h rfl ?_
  refine Check_s (hT.ext h.ext) hcl fun w10 he => ?_
  have h := ext_of h he
  refine iteB_i (fun hb => ?_) fun hb => ?_
  · have hb : ¬ tcheck l = 0 := by simpa using hb
    rw [if_pos hb] at hk; exact hk _ h.ext
  have hz : tcheck l = 0 := by simpa using hb
  rw [if_neg (by simpa using hz)] at hk
  obtain ⟨hl0, hTR⟩ := tcheck_row hz
  refine joinP_i (fun z w' => ∃ ga gb gB gS, z = ⟨ga, 0, none⟩ ∧ St w w' (blk ga [.pointer (some ⟨gb, 0, none⟩)] :: BP gb gB gS ps ls q bk0 [blk g3 [.slice ls.a ls.n ls.c], blk g1 [.slice ps.a ps.n ps.c]])) (fun J hJ0 => ?_) ?_
  · have hJ : ∀ z w', (∃ ga gb gB gS, z = ⟨ga, 0, none⟩ ∧ St w w' [blk ga [.pointer (some ⟨gb, 0, none⟩)], blk gb (bookV ps ls q gB gS), gm ekI evB gB (fun q => if q = 0 then some (fRoot, (-1, 0)) else none), gm ekP evS gS (fun _ => none), blk g3 [.slice ls.a ls.n ls.c], blk g1 [.slice ps.a ps.n ps.c]]) → J z w' := hJ0
    have hRl : fRoot.length = 19 := rfl
    refine drew_h h fun w12 h12 => ?_
    refine ldW_h (n := 1) (g := g1) h12 rfl ?_
    refine ldS_h (g := g3) h12 rfl ?_
    refine ⟨?_, ?_⟩
    · refine mkGm_h ekI evB h12 fun g15 w16 h16 => ?_
      refine samec_h (g := g3) (o := 0) h12 h16 ?_
      refine samec_h (g := g1) (o := 0) h12 h16 ?_
      refine ⟨?_, ?_⟩
      · refine Fr.root_s fun w18 he => ?_
        have h18 := ext_of h16 he
        refine samec_h (g := g3) (o := 0) h12 h18 ?_
        refine samec_h (g := g1) (o := 0) h12 h18 ?_
        refine ⟨?_, ?_⟩
        · refine world_s fun w20 he => ?_
          have h20 := ext_of h18 he
          refine samec_h (g := g3) (o := 0) h12 h20 ?_
          refine samec_h (g := g1) (o := 0) h12 h20 ?_
          refine ⟨?_, ?_⟩
          · refine spl_beg hRl ?_
            refine samec_h (g := g3) (o := 0) h12 h20 ?_
            refine samec_h (g := g1) (o := 0) h12 h20 ?_
            refine ⟨?_, ?_⟩
            · refine gmPut_h (ek := ekI) (ev := evB) (k := 0) (y := (fRoot, (-1, 0))) mapB h20 fun w23 h23 => ?_
              refine samec_h (g := g3) (o := 0) h12 h23 ?_
              refine samec_h (g := g1) (o := 0) h12 h23 ?_
              refine ⟨?_, ?_⟩
              · refine mkGm_h ekP evS h23 fun g24 w25 h25 => ?_
                refine samec_h (g := g3) (o := 0) h12 h25 ?_
                refine samec_h (g := g1) (o := 0) h12 h25 ?_
                refine ⟨?_, ?_⟩
                · refine spl_book ?_
                  refine ⟨?_, ?_⟩
                  · refine newBook_h (gB := g15) (gS := g24) h25 fun g27 w28 h28 => ?_
                    refine newC_h h28 fun g29 w30 h30 => ?_
                    refine samec_h (g := g3) (o := 0) h12 h30 ?_
                    refine samec_h (g := g1) (o := 0) h12 h30 ?_
                    refine stC_h (g := g29) h30 rfl (by decide) fun w31 h31 => ?_
                    exact hJ _ _ ⟨g29, g27, g15, g24, rfl, h31.perm (perm_f 0 rfl (perm_f 0 rfl (perm_f 1 rfl (perm_f 0 rfl (perm_f 0 rfl (perm_f 0 rfl (.refl _)))))))⟩
                  · refine newC_h h25 fun g32 w33 h33 => ?_
                    refine samec_h (g := g3) (o := 0) h12 h33 ?_
                    refine samec_h (g := g1) (o := 0) h12 h33 ?_
                    refine newBook_h (gB := g15) (gS := g24) h33 fun g34 w35 h35 => ?_
                    refine stC_h (g := g32) h35 rfl (by decide) fun w36 h36 => ?_
                    exact hJ _ _ ⟨g32, g34, g15, g24, rfl, h36.perm (perm_f 1 rfl (perm_f 0 rfl (perm_f 1 rfl (perm_f 0 rfl (perm_f 0 rfl (perm_f 0 rfl (.refl _)))))))⟩
                · refine newC_h h25 fun g37 w38 h38 => ?_
                  refine samec_h (g := g3) (o := 0) h12 h38 ?_
                  refine samec_h (g := g1) (o := 0) h12 h38 ?_
                  refine spl_book ?_
                  refine newBook_h (gB := g15) (gS := g24) h38 fun g40 w41 h41 => ?_
                  refine stC_h (g := g37) h41 rfl (by decide) fun w42 h42 => ?_
                  exact hJ _ _ ⟨g37, g40, g15, g24, rfl, h42.perm (perm_f 1 rfl (perm_f 0 rfl (perm_f 1 rfl (perm_f 0 rfl (perm_f 0 rfl (perm_f 0 rfl (.refl _)))))))⟩
              · refine newC_h h23 fun g43 w44 h44 => ?_
                refine samec_h (g := g3) (o := 0) h12 h44 ?_
                refine samec_h (g := g1) (o := 0) h12 h44 ?_
                refine mkGm_h ekP evS h44 fun g45 w46 h46 => ?_
                refine samec_h (g := g3) (o := 0) h12 h46 ?_
                refine samec_h (g := g1) (o := 0) h12 h46 ?_
                refine spl_book ?_
                refine newBook_h (gB := g15) (gS := g45) h46 fun g48 w49 h49 => ?_
                refine stC_h (g := g43) h49 rfl (by decide) fun w50 h50 => ?_
                exact hJ _ _ ⟨g43, g48, g15, g45, rfl, h50.perm (perm_f 2 rfl (perm_f 0 rfl (perm_f 1 rfl (perm_f 0 rfl (perm_f 0 rfl (perm_f 0 rfl (.refl _)))))))⟩
            · refine ⟨?_, ?_⟩
              · refine mkGm_h ekP evS h20 fun g51 w52 h52 => ?_
                refine samec_h (g := g3) (o := 0) h12 h52 ?_
                refine samec_h (g := g1) (o := 0) h12 h52 ?_
                refine ⟨?_, ?_⟩
                · refine gmPut_h (ek := ekI) (ev := evB) (k := 0) (y := (fRoot, (-1, 0))) mapB h52 fun w53 h53 => ?_
                  refine samec_h (g := g3) (o := 0) h12 h53 ?_
                  refine samec_h (g := g1) (o := 0) h12 h53 ?_
                  refine ⟨?_, ?_⟩
                  · refine spl_book ?_
                    refine ⟨?_, ?_⟩
                    · refine newBook_h (gB := g15) (gS := g51) h53 fun g55 w56 h56 => ?_
                      refine newC_h h56 fun g57 w58 h58 => ?_
                      refine samec_h (g := g3) (o := 0) h12 h58 ?_
                      refine samec_h (g := g1) (o := 0) h12 h58 ?_
                      refine stC_h (g := g57) h58 rfl (by decide) fun w59 h59 => ?_
                      exact hJ _ _ ⟨g57, g55, g15, g51, rfl, h59.perm (perm_f 0 rfl (perm_f 0 rfl (perm_f 1 rfl (perm_f 0 rfl (perm_f 0 rfl (perm_f 0 rfl (.refl _)))))))⟩
                    · refine newC_h h53 fun g60 w61 h61 => ?_
                      refine samec_h (g := g3) (o := 0) h12 h61 ?_
                      refine samec_h (g := g1) (o := 0) h12 h61 ?_
                      refine newBook_h (gB := g15) (gS := g51) h61 fun g62 w63 h63 => ?_
                      refine stC_h (g := g60) h63 rfl (by decide) fun w64 h64 => ?_
                      exact hJ _ _ ⟨g60, g62, g15, g51, rfl, h64.perm (perm_f 1 rfl (perm_f 0 rfl (perm_f 1 rfl (perm_f 0 rfl (perm_f 0 rfl (perm_f 0 rfl (.refl _)))))))⟩
                  · refine newC_h h53 fun g65 w66 h66 => ?_
                    refine samec_h (g := g3) (o := 0) h12 h66 ?_
                    refine samec_h (g := g1) (o := 0) h12 h66 ?_
                    refine spl_book ?_
                    refine newBook_h (gB := g15) (gS := g51) h66 fun g68 w69 h69 => ?_
                    refine stC_h (g := g65) h69 rfl (by decide) fun w70 h70 => ?_
                    exact hJ _ _ ⟨g65, g68, g15, g51, rfl, h70.perm (perm_f 1 rfl (perm_f 0 rfl (perm_f 1 rfl (perm_f 0 rfl (perm_f 0 rfl (perm_f 0 rfl (.refl _)))))))⟩
                · refine newC_h h52 fun g71 w72 h72 => ?_
                  refine samec_h (g := g3) (o := 0) h12 h72 ?_
                  refine samec_h (g := g1) (o := 0) h12 h72 ?_
                  refine gmPut_h (ek := ekI) (ev := evB) (k := 0) (y := (fRoot, (-1, 0))) mapB h72 fun w73 h73 => ?_
                  refine samec_h (g := g3) (o := 0) h12 h73 ?_
                  refine samec_h (g := g1) (o := 0) h12 h73 ?_
                  refine spl_book ?_
                  refine newBook_h (gB := g15) (gS := g51) h73 fun g75 w76 h76 => ?_
                  refine stC_h (g := g71) h76 rfl (by decide) fun w77 h77 => ?_
                  exact hJ _ _ ⟨g71, g75, g15, g51, rfl, h77.perm (perm_f 1 rfl (perm_f 0 rfl (perm_f 1 rfl (perm_f 0 rfl (perm_f 0 rfl (perm_f 0 rfl (.refl _)))))))⟩
              · refine newC_h h20 fun g78 w79 h79 => ?_
                refine samec_h (g := g3) (o := 0) h12 h79 ?_
                refine samec_h (g := g1) (o := 0) h12 h79 ?_
                refine ⟨?_, ?_⟩
                · refine gmPut_h (ek := ekI) (ev := evB) (k := 0) (y := (fRoot, (-1, 0))) mapB h79 fun w80 h80 => ?_
                  refine samec_h (g := g3) (o := 0) h12 h80 ?_
                  refine samec_h (g := g1) (o := 0) h12 h80 ?_
                  refine mkGm_h ekP evS h80 fun g81 w82 h82 => ?_
                  refine samec_h (g := g3) (o := 0) h12 h82 ?_
                  refine samec_h (g := g1) (o := 0) h12 h82 ?_
                  refine spl_book ?_
                  refine newBook_h (gB := g15) (gS := g81) h82 fun g84 w85 h85 => ?_
                  refine stC_h (g := g78) h85 rfl (by decide) fun w86 h86 => ?_
                  exact hJ _ _ ⟨g78, g84, g15, g81, rfl, h86.perm (perm_f 2 rfl (perm_f 0 rfl (perm_f 1 rfl (perm_f 0 rfl (perm_f 0 rfl (perm_f 0 rfl (.refl _)))))))⟩
                · refine mkGm_h ekP evS h79 fun g87 w88 h88 => ?_
                  refine samec_h (g := g3) (o := 0) h12 h88 ?_
                  refine samec_h (g := g1) (o := 0) h12 h88 ?_
                  refine gmPut_h (ek := ekI) (ev := evB) (k := 0) (y := (fRoot, (-1, 0))) mapB h88 fun w89 h89 => ?_
                  refine samec_h (g := g3) (o := 0) h12 h89 ?_
                  refine samec_h (g := g1) (o := 0) h12 h89 ?_
                  refine spl_book ?_
                  refine newBook_h (gB := g15) (gS := g87) h89 fun g91 w92 h92 => ?_
                  refine stC_h (g := g78) h92 rfl (by decide) fun w93 h93 => ?_
                  exact hJ _ _ ⟨g78, g91, g15, g87, rfl, h93.perm (perm_f 2 rfl (perm_f 0 rfl (perm_f 1 rfl (perm_f 0 rfl (perm_f 0 rfl (perm_f 0 rfl (.refl _)))))))⟩
          · refine ⟨?_, ?_⟩
            · refine mkGm_h ekP evS h20 fun g94 w95 h95 => ?_
              refine samec_h (g := g3) (o := 0) h12 h95 ?_
              refine samec_h (g := g1) (o := 0) h12 h95 ?_
              refine ⟨?_, ?_⟩
              · refine spl_beg hRl ?_
                refine samec_h (g := g3) (o := 0) h12 h95 ?_
                refine samec_h (g := g1) (o := 0) h12 h95 ?_
                refine ⟨?_, ?_⟩
                · refine gmPut_h (ek := ekI) (ev := evB) (k := 0) (y := (fRoot, (-1, 0))) mapB h95 fun w98 h98 => ?_
                  refine samec_h (g := g3) (o := 0) h12 h98 ?_
                  refine samec_h (g := g1) (o := 0) h12 h98 ?_
                  refine ⟨?_, ?_⟩
                  · refine spl_book ?_
                    refine ⟨?_, ?_⟩
                    · refine newBook_h (gB := g15) (gS := g94) h98 fun g100 w101 h101 => ?_
                      refine newC_h h101 fun g102 w103 h103 => ?_
                      refine samec_h (g := g3) (o := 0) h12 h103 ?_
                      refine samec_h (g := g1) (o := 0) h12 h103 ?_
                      refine stC_h (g := g102) h103 rfl (by decide) fun w104 h104 => ?_
                      exact hJ _ _ ⟨g102, g100, g15, g94, rfl, h104.perm (perm_f 0 rfl (perm_f 0 rfl (perm_f 1 rfl (perm_f 0 rfl (perm_f 0 rfl (perm_f 0 rfl (.refl _)))))))⟩
                    · refine newC_h h98 fun g105 w106 h106 => ?_
                      refine samec_h (g := g3) (o := 0) h12 h106 ?_
                      refine samec_h (g := g1) (o := 0) h12 h106 ?_
                      refine newBook_h (gB := g15) (gS := g94) h106 fun g107 w108 h108 => ?_
                      refine stC_h (g := g105) h108 rfl (by decide) fun w109 h109 => ?_
                      exact hJ _ _ ⟨g105, g107, g15, g94, rfl, h109.perm (perm_f 1 rfl (perm_f 0 rfl (perm_f 1 rfl (perm_f 0 rfl (perm_f 0 rfl (perm_f 0 rfl (.refl _)))))))⟩
                  · refine newC_h h98 fun g110 w111 h111 => ?_
                    refine samec_h (g := g3) (o := 0) h12 h111 ?_
                    refine samec_h (g := g1) (o := 0) h12 h111 ?_
                    refine spl_book ?_
                    refine newBook_h (gB := g15) (gS := g94) h111 fun g113 w114 h114 => ?_
                    refine stC_h (g := g110) h114 rfl (by decide) fun w115 h115 => ?_
                    exact hJ _ _ ⟨g110, g113, g15, g94, rfl, h115.perm (perm_f 1 rfl (perm_f 0 rfl (perm_f 1 rfl (perm_f 0 rfl (perm_f 0 rfl (perm_f 0 rfl (.refl _)))))))⟩
                · refine newC_h h95 fun g116 w117 h117 => ?_
                  refine samec_h (g := g3) (o := 0) h12 h117 ?_
                  refine samec_h (g := g1) (o := 0) h12 h117 ?_
                  refine gmPut_h (ek := ekI) (ev := evB) (k := 0) (y := (fRoot, (-1, 0))) mapB h117 fun w118 h118 => ?_
                  refine samec_h (g := g3) (o := 0) h12 h118 ?_
                  refine samec_h (g := g1) (o := 0) h12 h118 ?_
                  refine spl_book ?_
                  refine newBook_h (gB := g15) (gS := g94) h118 fun g120 w121 h121 => ?_
                  refine stC_h (g := g116) h121 rfl (by decide) fun w122 h122 => ?_
                  exact hJ _ _ ⟨g116, g120, g15, g94, rfl, h122.perm (perm_f 1 rfl (perm_f 0 rfl (perm_f 1 rfl (perm_f 0 rfl (perm_f 0 rfl (perm_f 0 rfl (.refl _)))))))⟩
              · refine newC_h h95 fun g123 w124 h124 => ?_
                refine samec_h (g := g3) (o := 0) h12 h124 ?_
                refine samec_h (g := g1) (o := 0) h12 h124 ?_
                refine spl_beg hRl ?_
                refine samec_h (g := g3) (o := 0) h12 h124 ?_
                refine samec_h (g := g1) (o := 0) h12 h124 ?_
                refine gmPut_h (ek := ekI) (ev := evB) (k := 0) (y := (fRoot, (-1, 0))) mapB h124 fun w127 h127 => ?_
                refine samec_h (g := g3) (o := 0) h12 h127 ?_
                refine samec_h (g := g1) (o := 0) h12 h127 ?_
                refine spl_book ?_
                refine newBook_h (gB := g15) (gS := g94) h127 fun g129 w130 h130 => ?_
                refine stC_h (g := g123) h130 rfl (by decide) fun w131 h131 => ?_
                exact hJ _ _ ⟨g123, g129, g15, g94, rfl, h131.perm (perm_f 1 rfl (perm_f 0 rfl (perm_f 1 rfl (perm_f 0 rfl (perm_f 0 rfl (perm_f 0 rfl (.refl _)))))))⟩
            · refine newC_h h20 fun g132 w133 h133 => ?_
              refine samec_h (g := g3) (o := 0) h12 h133 ?_
              refine samec_h (g := g1) (o := 0) h12 h133 ?_
              refine ⟨?_, ?_⟩
              · refine spl_beg hRl ?_
                refine samec_h (g := g3) (o := 0) h12 h133 ?_
                refine samec_h (g := g1) (o := 0) h12 h133 ?_
                refine ⟨?_, ?_⟩
                · refine gmPut_h (ek := ekI) (ev := evB) (k := 0) (y := (fRoot, (-1, 0))) mapB h133 fun w136 h136 => ?_
                  refine samec_h (g := g3) (o := 0) h12 h136 ?_
                  refine samec_h (g := g1) (o := 0) h12 h136 ?_
                  refine mkGm_h ekP evS h136 fun g137 w138 h138 => ?_
                  refine samec_h (g := g3) (o := 0) h12 h138 ?_
                  refine samec_h (g := g1) (o := 0) h12 h138 ?_
                  refine spl_book ?_
                  refine newBook_h (gB := g15) (gS := g137) h138 fun g140 w141 h141 => ?_
                  refine stC_h (g := g132) h141 rfl (by decide) fun w142 h142 => ?_
                  exact hJ _ _ ⟨g132, g140, g15, g137, rfl, h142.perm (perm_f 2 rfl (perm_f 0 rfl (perm_f 1 rfl (perm_f 0 rfl (perm_f 0 rfl (perm_f 0 rfl (.refl _)))))))⟩
                · refine mkGm_h ekP evS h133 fun g143 w144 h144 => ?_
                  refine samec_h (g := g3) (o := 0) h12 h144 ?_
                  refine samec_h (g := g1) (o := 0) h12 h144 ?_
                  refine gmPut_h (ek := ekI) (ev := evB) (k := 0) (y := (fRoot, (-1, 0))) mapB h144 fun w145 h145 => ?_
                  refine samec_h (g := g3) (o := 0) h12 h145 ?_
                  refine samec_h (g := g1) (o := 0) h12 h145 ?_
                  refine spl_book ?_
                  refine newBook_h (gB := g15) (gS := g143) h145 fun g147 w148 h148 => ?_
                  refine stC_h (g := g132) h148 rfl (by decide) fun w149 h149 => ?_
                  exact hJ _ _ ⟨g132, g147, g15, g143, rfl, h149.perm (perm_f 2 rfl (perm_f 0 rfl (perm_f 1 rfl (perm_f 0 rfl (perm_f 0 rfl (perm_f 0 rfl (.refl _)))))))⟩
              · refine mkGm_h ekP evS h133 fun g150 w151 h151 => ?_
                refine samec_h (g := g3) (o := 0) h12 h151 ?_
                refine samec_h (g := g1) (o := 0) h12 h151 ?_
                refine spl_beg hRl ?_
                refine samec_h (g := g3) (o := 0) h12 h151 ?_
                refine samec_h (g := g1) (o := 0) h12 h151 ?_
                refine gmPut_h (ek := ekI) (ev := evB) (k := 0) (y := (fRoot, (-1, 0))) mapB h151 fun w154 h154 => ?_
                refine samec_h (g := g3) (o := 0) h12 h154 ?_
                refine samec_h (g := g1) (o := 0) h12 h154 ?_
                refine spl_book ?_
                refine newBook_h (gB := g15) (gS := g150) h154 fun g156 w157 h157 => ?_
                refine stC_h (g := g132) h157 rfl (by decide) fun w158 h158 => ?_
                exact hJ _ _ ⟨g132, g156, g15, g150, rfl, h158.perm (perm_f 2 rfl (perm_f 0 rfl (perm_f 1 rfl (perm_f 0 rfl (perm_f 0 rfl (perm_f 0 rfl (.refl _)))))))⟩
        · refine ⟨?_, ?_⟩
          · refine mkGm_h ekP evS h18 fun g159 w160 h160 => ?_
            refine samec_h (g := g3) (o := 0) h12 h160 ?_
            refine samec_h (g := g1) (o := 0) h12 h160 ?_
            refine ⟨?_, ?_⟩
            · refine world_s fun w162 he => ?_
              have h162 := ext_of h160 he
              refine samec_h (g := g3) (o := 0) h12 h162 ?_
              refine samec_h (g := g1) (o := 0) h12 h162 ?_
              refine ⟨?_, ?_⟩
              · refine spl_beg hRl ?_
                refine samec_h (g := g3) (o := 0) h12 h162 ?_
                refine samec_h (g := g1) (o := 0) h12 h162 ?_
                refine ⟨?_, ?_⟩
                · refine gmPut_h (ek := ekI) (ev := evB) (k := 0) (y := (fRoot, (-1, 0))) mapB h162 fun w165 h165 => ?_
                  refine samec_h (g := g3) (o := 0) h12 h165 ?_
                  refine samec_h (g := g1) (o := 0) h12 h165 ?_
                  refine ⟨?_, ?_⟩
                  · refine spl_book ?_
                    refine ⟨?_, ?_⟩
                    · refine newBook_h (gB := g15) (gS := g159) h165 fun g167 w168 h168 => ?_
                      refine newC_h h168 fun g169 w170 h170 => ?_
                      refine samec_h (g := g3) (o := 0) h12 h170 ?_
                      refine samec_h (g := g1) (o := 0) h12 h170 ?_
                      refine stC_h (g := g169) h170 rfl (by decide) fun w171 h171 => ?_
                      exact hJ _ _ ⟨g169, g167, g15, g159, rfl, h171.perm (perm_f 0 rfl (perm_f 0 rfl (perm_f 1 rfl (perm_f 0 rfl (perm_f 0 rfl (perm_f 0 rfl (.refl _)))))))⟩
                    · refine newC_h h165 fun g172 w173 h173 => ?_
                      refine samec_h (g := g3) (o := 0) h12 h173 ?_
                      refine samec_h (g := g1) (o := 0) h12 h173 ?_
                      refine newBook_h (gB := g15) (gS := g159) h173 fun g174 w175 h175 => ?_
                      refine stC_h (g := g172) h175 rfl (by decide) fun w176 h176 => ?_
                      exact hJ _ _ ⟨g172, g174, g15, g159, rfl, h176.perm (perm_f 1 rfl (perm_f 0 rfl (perm_f 1 rfl (perm_f 0 rfl (perm_f 0 rfl (perm_f 0 rfl (.refl _)))))))⟩
                  · refine newC_h h165 fun g177 w178 h178 => ?_
                    refine samec_h (g := g3) (o := 0) h12 h178 ?_
                    refine samec_h (g := g1) (o := 0) h12 h178 ?_
                    refine spl_book ?_
                    refine newBook_h (gB := g15) (gS := g159) h178 fun g180 w181 h181 => ?_
                    refine stC_h (g := g177) h181 rfl (by decide) fun w182 h182 => ?_
                    exact hJ _ _ ⟨g177, g180, g15, g159, rfl, h182.perm (perm_f 1 rfl (perm_f 0 rfl (perm_f 1 rfl (perm_f 0 rfl (perm_f 0 rfl (perm_f 0 rfl (.refl _)))))))⟩
                · refine newC_h h162 fun g183 w184 h184 => ?_
                  refine samec_h (g := g3) (o := 0) h12 h184 ?_
                  refine samec_h (g := g1) (o := 0) h12 h184 ?_
                  refine gmPut_h (ek := ekI) (ev := evB) (k := 0) (y := (fRoot, (-1, 0))) mapB h184 fun w185 h185 => ?_
                  refine samec_h (g := g3) (o := 0) h12 h185 ?_
                  refine samec_h (g := g1) (o := 0) h12 h185 ?_
                  refine spl_book ?_
                  refine newBook_h (gB := g15) (gS := g159) h185 fun g187 w188 h188 => ?_
                  refine stC_h (g := g183) h188 rfl (by decide) fun w189 h189 => ?_
                  exact hJ _ _ ⟨g183, g187, g15, g159, rfl, h189.perm (perm_f 1 rfl (perm_f 0 rfl (perm_f 1 rfl (perm_f 0 rfl (perm_f 0 rfl (perm_f 0 rfl (.refl _)))))))⟩
              · refine newC_h h162 fun g190 w191 h191 => ?_
                refine samec_h (g := g3) (o := 0) h12 h191 ?_
                refine samec_h (g := g1) (o := 0) h12 h191 ?_
                refine spl_beg hRl ?_
                refine samec_h (g := g3) (o := 0) h12 h191 ?_
                refine samec_h (g := g1) (o := 0) h12 h191 ?_
                refine gmPut_h (ek := ekI) (ev := evB) (k := 0) (y := (fRoot, (-1, 0))) mapB h191 fun w194 h194 => ?_
                refine samec_h (g := g3) (o := 0) h12 h194 ?_
                refine samec_h (g := g1) (o := 0) h12 h194 ?_
                refine spl_book ?_
                refine newBook_h (gB := g15) (gS := g159) h194 fun g196 w197 h197 => ?_
                refine stC_h (g := g190) h197 rfl (by decide) fun w198 h198 => ?_
                exact hJ _ _ ⟨g190, g196, g15, g159, rfl, h198.perm (perm_f 1 rfl (perm_f 0 rfl (perm_f 1 rfl (perm_f 0 rfl (perm_f 0 rfl (perm_f 0 rfl (.refl _)))))))⟩
            · refine newC_h h160 fun g199 w200 h200 => ?_
              refine samec_h (g := g3) (o := 0) h12 h200 ?_
              refine samec_h (g := g1) (o := 0) h12 h200 ?_
              refine world_s fun w202 he => ?_
              have h202 := ext_of h200 he
              refine samec_h (g := g3) (o := 0) h12 h202 ?_
              refine samec_h (g := g1) (o := 0) h12 h202 ?_
              refine spl_beg hRl ?_
              refine samec_h (g := g3) (o := 0) h12 h202 ?_
              refine samec_h (g := g1) (o := 0) h12 h202 ?_
              refine gmPut_h (ek := ekI) (ev := evB) (k := 0) (y := (fRoot, (-1, 0))) mapB h202 fun w205 h205 => ?_
              refine samec_h (g := g3) (o := 0) h12 h205 ?_
              refine samec_h (g := g1) (o := 0) h12 h205 ?_
              refine spl_book ?_
              refine newBook_h (gB := g15) (gS := g159) h205 fun g207 w208 h208 => ?_
              refine stC_h (g := g199) h208 rfl (by decide) fun w209 h209 => ?_
              exact hJ _ _ ⟨g199, g207, g15, g159, rfl, h209.perm (perm_f 1 rfl (perm_f 0 rfl (perm_f 1 rfl (perm_f 0 rfl (perm_f 0 rfl (perm_f 0 rfl (.refl _)))))))⟩
          · refine newC_h h18 fun g210 w211 h211 => ?_
            refine samec_h (g := g3) (o := 0) h12 h211 ?_
            refine samec_h (g := g1) (o := 0) h12 h211 ?_
            refine ⟨?_, ?_⟩
            · refine world_s fun w213 he => ?_
              have h213 := ext_of h211 he
              refine samec_h (g := g3) (o := 0) h12 h213 ?_
              refine samec_h (g := g1) (o := 0) h12 h213 ?_
              refine ⟨?_, ?_⟩
              · refine spl_beg hRl ?_
                refine samec_h (g := g3) (o := 0) h12 h213 ?_
                refine samec_h (g := g1) (o := 0) h12 h213 ?_
                refine ⟨?_, ?_⟩
                · refine gmPut_h (ek := ekI) (ev := evB) (k := 0) (y := (fRoot, (-1, 0))) mapB h213 fun w216 h216 => ?_
                  refine samec_h (g := g3) (o := 0) h12 h216 ?_
                  refine samec_h (g := g1) (o := 0) h12 h216 ?_
                  refine mkGm_h ekP evS h216 fun g217 w218 h218 => ?_
                  refine samec_h (g := g3) (o := 0) h12 h218 ?_
                  refine samec_h (g := g1) (o := 0) h12 h218 ?_
                  refine spl_book ?_
                  refine newBook_h (gB := g15) (gS := g217) h218 fun g220 w221 h221 => ?_
                  refine stC_h (g := g210) h221 rfl (by decide) fun w222 h222 => ?_
                  exact hJ _ _ ⟨g210, g220, g15, g217, rfl, h222.perm (perm_f 2 rfl (perm_f 0 rfl (perm_f 1 rfl (perm_f 0 rfl (perm_f 0 rfl (perm_f 0 rfl (.refl _)))))))⟩
                · refine mkGm_h ekP evS h213 fun g223 w224 h224 => ?_
                  refine samec_h (g := g3) (o := 0) h12 h224 ?_
                  refine samec_h (g := g1) (o := 0) h12 h224 ?_
                  refine gmPut_h (ek := ekI) (ev := evB) (k := 0) (y := (fRoot, (-1, 0))) mapB h224 fun w225 h225 => ?_
                  refine samec_h (g := g3) (o := 0) h12 h225 ?_
                  refine samec_h (g := g1) (o := 0) h12 h225 ?_
                  refine spl_book ?_
                  refine newBook_h (gB := g15) (gS := g223) h225 fun g227 w228 h228 => ?_
                  refine stC_h (g := g210) h228 rfl (by decide) fun w229 h229 => ?_
                  exact hJ _ _ ⟨g210, g227, g15, g223, rfl, h229.perm (perm_f 2 rfl (perm_f 0 rfl (perm_f 1 rfl (perm_f 0 rfl (perm_f 0 rfl (perm_f 0 rfl (.refl _)))))))⟩
              · refine mkGm_h ekP evS h213 fun g230 w231 h231 => ?_
                refine samec_h (g := g3) (o := 0) h12 h231 ?_
                refine samec_h (g := g1) (o := 0) h12 h231 ?_
                refine spl_beg hRl ?_
                refine samec_h (g := g3) (o := 0) h12 h231 ?_
                refine samec_h (g := g1) (o := 0) h12 h231 ?_
                refine gmPut_h (ek := ekI) (ev := evB) (k := 0) (y := (fRoot, (-1, 0))) mapB h231 fun w234 h234 => ?_
                refine samec_h (g := g3) (o := 0) h12 h234 ?_
                refine samec_h (g := g1) (o := 0) h12 h234 ?_
                refine spl_book ?_
                refine newBook_h (gB := g15) (gS := g230) h234 fun g236 w237 h237 => ?_
                refine stC_h (g := g210) h237 rfl (by decide) fun w238 h238 => ?_
                exact hJ _ _ ⟨g210, g236, g15, g230, rfl, h238.perm (perm_f 2 rfl (perm_f 0 rfl (perm_f 1 rfl (perm_f 0 rfl (perm_f 0 rfl (perm_f 0 rfl (.refl _)))))))⟩
            · refine mkGm_h ekP evS h211 fun g239 w240 h240 => ?_
              refine samec_h (g := g3) (o := 0) h12 h240 ?_
              refine samec_h (g := g1) (o := 0) h12 h240 ?_
              refine world_s fun w242 he => ?_
              have h242 := ext_of h240 he
              refine samec_h (g := g3) (o := 0) h12 h242 ?_
              refine samec_h (g := g1) (o := 0) h12 h242 ?_
              refine spl_beg hRl ?_
              refine samec_h (g := g3) (o := 0) h12 h242 ?_
              refine samec_h (g := g1) (o := 0) h12 h242 ?_
              refine gmPut_h (ek := ekI) (ev := evB) (k := 0) (y := (fRoot, (-1, 0))) mapB h242 fun w245 h245 => ?_
              refine samec_h (g := g3) (o := 0) h12 h245 ?_
              refine samec_h (g := g1) (o := 0) h12 h245 ?_
              refine spl_book ?_
              refine newBook_h (gB := g15) (gS := g239) h245 fun g247 w248 h248 => ?_
              refine stC_h (g := g210) h248 rfl (by decide) fun w249 h249 => ?_
              exact hJ _ _ ⟨g210, g247, g15, g239, rfl, h249.perm (perm_f 2 rfl (perm_f 0 rfl (perm_f 1 rfl (perm_f 0 rfl (perm_f 0 rfl (perm_f 0 rfl (.refl _)))))))⟩
      · refine ⟨?_, ?_⟩
        · refine mkGm_h ekP evS h16 fun g250 w251 h251 => ?_
          refine samec_h (g := g3) (o := 0) h12 h251 ?_
          refine samec_h (g := g1) (o := 0) h12 h251 ?_
          refine ⟨?_, ?_⟩
          · refine Fr.root_s fun w253 he => ?_
            have h253 := ext_of h251 he
            refine samec_h (g := g3) (o := 0) h12 h253 ?_
            refine samec_h (g := g1) (o := 0) h12 h253 ?_
            refine ⟨?_, ?_⟩
            · refine world_s fun w255 he => ?_
              have h255 := ext_of h253 he
              refine samec_h (g := g3) (o := 0) h12 h255 ?_
              refine samec_h (g := g1) (o := 0) h12 h255 ?_
              refine ⟨?_, ?_⟩
              · refine spl_beg hRl ?_
                refine samec_h (g := g3) (o := 0) h12 h255 ?_
                refine samec_h (g := g1) (o := 0) h12 h255 ?_
                refine ⟨?_, ?_⟩
                · refine gmPut_h (ek := ekI) (ev := evB) (k := 0) (y := (fRoot, (-1, 0))) mapB h255 fun w258 h258 => ?_
                  refine samec_h (g := g3) (o := 0) h12 h258 ?_
                  refine samec_h (g := g1) (o := 0) h12 h258 ?_
                  refine ⟨?_, ?_⟩
                  · refine spl_book ?_
                    refine ⟨?_, ?_⟩
                    · refine newBook_h (gB := g15) (gS := g250) h258 fun g260 w261 h261 => ?_
                      refine newC_h h261 fun g262 w263 h263 => ?_
                      refine samec_h (g := g3) (o := 0) h12 h263 ?_
                      refine samec_h (g := g1) (o := 0) h12 h263 ?_
                      refine stC_h (g := g262) h263 rfl (by decide) fun w264 h264 => ?_
                      exact hJ _ _ ⟨g262, g260, g15, g250, rfl, h264.perm (perm_f 0 rfl (perm_f 0 rfl (perm_f 1 rfl (perm_f 0 rfl (perm_f 0 rfl (perm_f 0 rfl (.refl _)))))))⟩
                    · refine newC_h h258 fun g265 w266 h266 => ?_
                      refine samec_h (g := g3) (o := 0) h12 h266 ?_
                      refine samec_h (g := g1) (o := 0) h12 h266 ?_
                      refine newBook_h (gB := g15) (gS := g250) h266 fun g267 w268 h268 => ?_
                      refine stC_h (g := g265) h268 rfl (by decide) fun w269 h269 => ?_
                      exact hJ _ _ ⟨g265, g267, g15, g250, rfl, h269.perm (perm_f 1 rfl (perm_f 0 rfl (perm_f 1 rfl (perm_f 0 rfl (perm_f 0 rfl (perm_f 0 rfl (.refl _)))))))⟩
                  · refine newC_h h258 fun g270 w271 h271 => ?_
                    refine samec_h (g := g3) (o := 0) h12 h271 ?_
                    refine samec_h (g := g1) (o := 0) h12 h271 ?_
                    refine spl_book ?_
                    refine newBook_h (gB := g15) (gS := g250) h271 fun g273 w274 h274 => ?_
                    refine stC_h (g := g270) h274 rfl (by decide) fun w275 h275 => ?_
                    exact hJ _ _ ⟨g270, g273, g15, g250, rfl, h275.perm (perm_f 1 rfl (perm_f 0 rfl (perm_f 1 rfl (perm_f 0 rfl (perm_f 0 rfl (perm_f 0 rfl (.refl _)))))))⟩
                · refine newC_h h255 fun g276 w277 h277 => ?_
                  refine samec_h (g := g3) (o := 0) h12 h277 ?_
                  refine samec_h (g := g1) (o := 0) h12 h277 ?_
                  refine gmPut_h (ek := ekI) (ev := evB) (k := 0) (y := (fRoot, (-1, 0))) mapB h277 fun w278 h278 => ?_
                  refine samec_h (g := g3) (o := 0) h12 h278 ?_
                  refine samec_h (g := g1) (o := 0) h12 h278 ?_
                  refine spl_book ?_
                  refine newBook_h (gB := g15) (gS := g250) h278 fun g280 w281 h281 => ?_
                  refine stC_h (g := g276) h281 rfl (by decide) fun w282 h282 => ?_
                  exact hJ _ _ ⟨g276, g280, g15, g250, rfl, h282.perm (perm_f 1 rfl (perm_f 0 rfl (perm_f 1 rfl (perm_f 0 rfl (perm_f 0 rfl (perm_f 0 rfl (.refl _)))))))⟩
              · refine newC_h h255 fun g283 w284 h284 => ?_
                refine samec_h (g := g3) (o := 0) h12 h284 ?_
                refine samec_h (g := g1) (o := 0) h12 h284 ?_
                refine spl_beg hRl ?_
                refine samec_h (g := g3) (o := 0) h12 h284 ?_
                refine samec_h (g := g1) (o := 0) h12 h284 ?_
                refine gmPut_h (ek := ekI) (ev := evB) (k := 0) (y := (fRoot, (-1, 0))) mapB h284 fun w287 h287 => ?_
                refine samec_h (g := g3) (o := 0) h12 h287 ?_
                refine samec_h (g := g1) (o := 0) h12 h287 ?_
                refine spl_book ?_
                refine newBook_h (gB := g15) (gS := g250) h287 fun g289 w290 h290 => ?_
                refine stC_h (g := g283) h290 rfl (by decide) fun w291 h291 => ?_
                exact hJ _ _ ⟨g283, g289, g15, g250, rfl, h291.perm (perm_f 1 rfl (perm_f 0 rfl (perm_f 1 rfl (perm_f 0 rfl (perm_f 0 rfl (perm_f 0 rfl (.refl _)))))))⟩
            · refine newC_h h253 fun g292 w293 h293 => ?_
              refine samec_h (g := g3) (o := 0) h12 h293 ?_
              refine samec_h (g := g1) (o := 0) h12 h293 ?_
              refine world_s fun w295 he => ?_
              have h295 := ext_of h293 he
              refine samec_h (g := g3) (o := 0) h12 h295 ?_
              refine samec_h (g := g1) (o := 0) h12 h295 ?_
              refine spl_beg hRl ?_
              refine samec_h (g := g3) (o := 0) h12 h295 ?_
              refine samec_h (g := g1) (o := 0) h12 h295 ?_
              refine gmPut_h (ek := ekI) (ev := evB) (k := 0) (y := (fRoot, (-1, 0))) mapB h295 fun w298 h298 => ?_
              refine samec_h (g := g3) (o := 0) h12 h298 ?_
              refine samec_h (g := g1) (o := 0) h12 h298 ?_
              refine spl_book ?_
              refine newBook_h (gB := g15) (gS := g250) h298 fun g300 w301 h301 => ?_
              refine stC_h (g := g292) h301 rfl (by decide) fun w302 h302 => ?_
              exact hJ _ _ ⟨g292, g300, g15, g250, rfl, h302.perm (perm_f 1 rfl (perm_f 0 rfl (perm_f 1 rfl (perm_f 0 rfl (perm_f 0 rfl (perm_f 0 rfl (.refl _)))))))⟩
          · refine newC_h h251 fun g303 w304 h304 => ?_
            refine samec_h (g := g3) (o := 0) h12 h304 ?_
            refine samec_h (g := g1) (o := 0) h12 h304 ?_
            refine Fr.root_s fun w306 he => ?_
            have h306 := ext_of h304 he
            refine samec_h (g := g3) (o := 0) h12 h306 ?_
            refine samec_h (g := g1) (o := 0) h12 h306 ?_
            refine world_s fun w308 he => ?_
            have h308 := ext_of h306 he
            refine samec_h (g := g3) (o := 0) h12 h308 ?_
            refine samec_h (g := g1) (o := 0) h12 h308 ?_
            refine spl_beg hRl ?_
            refine samec_h (g := g3) (o := 0) h12 h308 ?_
            refine samec_h (g := g1) (o := 0) h12 h308 ?_
            refine gmPut_h (ek := ekI) (ev := evB) (k := 0) (y := (fRoot, (-1, 0))) mapB h308 fun w311 h311 => ?_
            refine samec_h (g := g3) (o := 0) h12 h311 ?_
            refine samec_h (g := g1) (o := 0) h12 h311 ?_
            refine spl_book ?_
            refine newBook_h (gB := g15) (gS := g250) h311 fun g313 w314 h314 => ?_
            refine stC_h (g := g303) h314 rfl (by decide) fun w315 h315 => ?_
            exact hJ _ _ ⟨g303, g313, g15, g250, rfl, h315.perm (perm_f 1 rfl (perm_f 0 rfl (perm_f 1 rfl (perm_f 0 rfl (perm_f 0 rfl (perm_f 0 rfl (.refl _)))))))⟩
        · refine newC_h h16 fun g316 w317 h317 => ?_
          refine samec_h (g := g3) (o := 0) h12 h317 ?_
          refine samec_h (g := g1) (o := 0) h12 h317 ?_
          refine ⟨?_, ?_⟩
          · refine Fr.root_s fun w319 he => ?_
            have h319 := ext_of h317 he
            refine samec_h (g := g3) (o := 0) h12 h319 ?_
            refine samec_h (g := g1) (o := 0) h12 h319 ?_
            refine ⟨?_, ?_⟩
            · refine world_s fun w321 he => ?_
              have h321 := ext_of h319 he
              refine samec_h (g := g3) (o := 0) h12 h321 ?_
              refine samec_h (g := g1) (o := 0) h12 h321 ?_
              refine ⟨?_, ?_⟩
              · refine spl_beg hRl ?_
                refine samec_h (g := g3) (o := 0) h12 h321 ?_
                refine samec_h (g := g1) (o := 0) h12 h321 ?_
                refine ⟨?_, ?_⟩
                · refine gmPut_h (ek := ekI) (ev := evB) (k := 0) (y := (fRoot, (-1, 0))) mapB h321 fun w324 h324 => ?_
                  refine samec_h (g := g3) (o := 0) h12 h324 ?_
                  refine samec_h (g := g1) (o := 0) h12 h324 ?_
                  refine mkGm_h ekP evS h324 fun g325 w326 h326 => ?_
                  refine samec_h (g := g3) (o := 0) h12 h326 ?_
                  refine samec_h (g := g1) (o := 0) h12 h326 ?_
                  refine spl_book ?_
                  refine newBook_h (gB := g15) (gS := g325) h326 fun g328 w329 h329 => ?_
                  refine stC_h (g := g316) h329 rfl (by decide) fun w330 h330 => ?_
                  exact hJ _ _ ⟨g316, g328, g15, g325, rfl, h330.perm (perm_f 2 rfl (perm_f 0 rfl (perm_f 1 rfl (perm_f 0 rfl (perm_f 0 rfl (perm_f 0 rfl (.refl _)))))))⟩
                · refine mkGm_h ekP evS h321 fun g331 w332 h332 => ?_
                  refine samec_h (g := g3) (o := 0) h12 h332 ?_
                  refine samec_h (g := g1) (o := 0) h12 h332 ?_
                  refine gmPut_h (ek := ekI) (ev := evB) (k := 0) (y := (fRoot, (-1, 0))) mapB h332 fun w333 h333 => ?_
                  refine samec_h (g := g3) (o := 0) h12 h333 ?_
                  refine samec_h (g := g1) (o := 0) h12 h333 ?_
                  refine spl_book ?_
                  refine newBook_h (gB := g15) (gS := g331) h333 fun g335 w336 h336 => ?_
                  refine stC_h (g := g316) h336 rfl (by decide) fun w337 h337 => ?_
                  exact hJ _ _ ⟨g316, g335, g15, g331, rfl, h337.perm (perm_f 2 rfl (perm_f 0 rfl (perm_f 1 rfl (perm_f 0 rfl (perm_f 0 rfl (perm_f 0 rfl (.refl _)))))))⟩
              · refine mkGm_h ekP evS h321 fun g338 w339 h339 => ?_
                refine samec_h (g := g3) (o := 0) h12 h339 ?_
                refine samec_h (g := g1) (o := 0) h12 h339 ?_
                refine spl_beg hRl ?_
                refine samec_h (g := g3) (o := 0) h12 h339 ?_
                refine samec_h (g := g1) (o := 0) h12 h339 ?_
                refine gmPut_h (ek := ekI) (ev := evB) (k := 0) (y := (fRoot, (-1, 0))) mapB h339 fun w342 h342 => ?_
                refine samec_h (g := g3) (o := 0) h12 h342 ?_
                refine samec_h (g := g1) (o := 0) h12 h342 ?_
                refine spl_book ?_
                refine newBook_h (gB := g15) (gS := g338) h342 fun g344 w345 h345 => ?_
                refine stC_h (g := g316) h345 rfl (by decide) fun w346 h346 => ?_
                exact hJ _ _ ⟨g316, g344, g15, g338, rfl, h346.perm (perm_f 2 rfl (perm_f 0 rfl (perm_f 1 rfl (perm_f 0 rfl (perm_f 0 rfl (perm_f 0 rfl (.refl _)))))))⟩
            · refine mkGm_h ekP evS h319 fun g347 w348 h348 => ?_
              refine samec_h (g := g3) (o := 0) h12 h348 ?_
              refine samec_h (g := g1) (o := 0) h12 h348 ?_
              refine world_s fun w350 he => ?_
              have h350 := ext_of h348 he
              refine samec_h (g := g3) (o := 0) h12 h350 ?_
              refine samec_h (g := g1) (o := 0) h12 h350 ?_
              refine spl_beg hRl ?_
              refine samec_h (g := g3) (o := 0) h12 h350 ?_
              refine samec_h (g := g1) (o := 0) h12 h350 ?_
              refine gmPut_h (ek := ekI) (ev := evB) (k := 0) (y := (fRoot, (-1, 0))) mapB h350 fun w353 h353 => ?_
              refine samec_h (g := g3) (o := 0) h12 h353 ?_
              refine samec_h (g := g1) (o := 0) h12 h353 ?_
              refine spl_book ?_
              refine newBook_h (gB := g15) (gS := g347) h353 fun g355 w356 h356 => ?_
              refine stC_h (g := g316) h356 rfl (by decide) fun w357 h357 => ?_
              exact hJ _ _ ⟨g316, g355, g15, g347, rfl, h357.perm (perm_f 2 rfl (perm_f 0 rfl (perm_f 1 rfl (perm_f 0 rfl (perm_f 0 rfl (perm_f 0 rfl (.refl _)))))))⟩
          · refine mkGm_h ekP evS h317 fun g358 w359 h359 => ?_
            refine samec_h (g := g3) (o := 0) h12 h359 ?_
            refine samec_h (g := g1) (o := 0) h12 h359 ?_
            refine Fr.root_s fun w361 he => ?_
            have h361 := ext_of h359 he
            refine samec_h (g := g3) (o := 0) h12 h361 ?_
            refine samec_h (g := g1) (o := 0) h12 h361 ?_
            refine world_s fun w363 he => ?_
            have h363 := ext_of h361 he
            refine samec_h (g := g3) (o := 0) h12 h363 ?_
            refine samec_h (g := g1) (o := 0) h12 h363 ?_
            refine spl_beg hRl ?_
            refine samec_h (g := g3) (o := 0) h12 h363 ?_
            refine samec_h (g := g1) (o := 0) h12 h363 ?_
            refine gmPut_h (ek := ekI) (ev := evB) (k := 0) (y := (fRoot, (-1, 0))) mapB h363 fun w366 h366 => ?_
            refine samec_h (g := g3) (o := 0) h12 h366 ?_
            refine samec_h (g := g1) (o := 0) h12 h366 ?_
            refine spl_book ?_
            refine newBook_h (gB := g15) (gS := g358) h366 fun g368 w369 h369 => ?_
            refine stC_h (g := g316) h369 rfl (by decide) fun w370 h370 => ?_
            exact hJ _ _ ⟨g316, g368, g15, g358, rfl, h370.perm (perm_f 2 rfl (perm_f 0 rfl (perm_f 1 rfl (perm_f 0 rfl (perm_f 0 rfl (perm_f 0 rfl (.refl _)))))))⟩
    · refine ⟨?_, ?_⟩
      · refine Fr.root_s fun w372 he => ?_
        have h372 := ext_of h12 he
        refine samec_h (g := g3) (o := 0) h12 h372 ?_
        refine samec_h (g := g1) (o := 0) h12 h372 ?_
        refine ⟨?_, ?_⟩
        · refine mkGm_h ekI evB h372 fun g373 w374 h374 => ?_
          refine samec_h (g := g3) (o := 0) h12 h374 ?_
          refine samec_h (g := g1) (o := 0) h12 h374 ?_
          refine ⟨?_, ?_⟩
          · refine world_s fun w376 he => ?_
            have h376 := ext_of h374 he
            refine samec_h (g := g3) (o := 0) h12 h376 ?_
            refine samec_h (g := g1) (o := 0) h12 h376 ?_
            refine ⟨?_, ?_⟩
            · refine spl_beg hRl ?_
              refine samec_h (g := g3) (o := 0) h12 h376 ?_
              refine samec_h (g := g1) (o := 0) h12 h376 ?_
              refine ⟨?_, ?_⟩
              · refine gmPut_h (ek := ekI) (ev := evB) (k := 0) (y := (fRoot, (-1, 0))) mapB h376 fun w379 h379 => ?_
                refine samec_h (g := g3) (o := 0) h12 h379 ?_
                refine samec_h (g := g1) (o := 0) h12 h379 ?_
                refine ⟨?_, ?_⟩
                · refine mkGm_h ekP evS h379 fun g380 w381 h381 => ?_
                  refine samec_h (g := g3) (o := 0) h12 h381 ?_
                  refine samec_h (g := g1) (o := 0) h12 h381 ?_
                  refine ⟨?_, ?_⟩
                  · refine spl_book ?_
                    refine ⟨?_, ?_⟩
                    · refine newBook_h (gB := g373) (gS := g380) h381 fun g383 w384 h384 => ?_
                      refine newC_h h384 fun g385 w386 h386 => ?_
                      refine samec_h (g := g3) (o := 0) h12 h386 ?_
                      refine samec_h (g := g1) (o := 0) h12 h386 ?_
                      refine stC_h (g := g385) h386 rfl (by decide) fun w387 h387 => ?_
                      exact hJ _ _ ⟨g385, g383, g373, g380, rfl, h387.perm (perm_f 0 rfl (perm_f 0 rfl (perm_f 1 rfl (perm_f 0 rfl (perm_f 0 rfl (perm_f 0 rfl (.refl _)))))))⟩
                    · refine newC_h h381 fun g388 w389 h389 => ?_
                      refine samec_h (g := g3) (o := 0) h12 h389 ?_
                      refine samec_h (g := g1) (o := 0) h12 h389 ?_
                      refine newBook_h (gB := g373) (gS := g380) h389 fun g390 w391 h391 => ?_
                      refine stC_h (g := g388) h391 rfl (by decide) fun w392 h392 => ?_
                      exact hJ _ _ ⟨g388, g390, g373, g380, rfl, h392.perm (perm_f 1 rfl (perm_f 0 rfl (perm_f 1 rfl (perm_f 0 rfl (perm_f 0 rfl (perm_f 0 rfl (.refl _)))))))⟩
                  · refine newC_h h381 fun g393 w394 h394 => ?_
                    refine samec_h (g := g3) (o := 0) h12 h394 ?_
                    refine samec_h (g := g1) (o := 0) h12 h394 ?_
                    refine spl_book ?_
                    refine newBook_h (gB := g373) (gS := g380) h394 fun g396 w397 h397 => ?_
                    refine stC_h (g := g393) h397 rfl (by decide) fun w398 h398 => ?_
                    exact hJ _ _ ⟨g393, g396, g373, g380, rfl, h398.perm (perm_f 1 rfl (perm_f 0 rfl (perm_f 1 rfl (perm_f 0 rfl (perm_f 0 rfl (perm_f 0 rfl (.refl _)))))))⟩
                · refine newC_h h379 fun g399 w400 h400 => ?_
                  refine samec_h (g := g3) (o := 0) h12 h400 ?_
                  refine samec_h (g := g1) (o := 0) h12 h400 ?_
                  refine mkGm_h ekP evS h400 fun g401 w402 h402 => ?_
                  refine samec_h (g := g3) (o := 0) h12 h402 ?_
                  refine samec_h (g := g1) (o := 0) h12 h402 ?_
                  refine spl_book ?_
                  refine newBook_h (gB := g373) (gS := g401) h402 fun g404 w405 h405 => ?_
                  refine stC_h (g := g399) h405 rfl (by decide) fun w406 h406 => ?_
                  exact hJ _ _ ⟨g399, g404, g373, g401, rfl, h406.perm (perm_f 2 rfl (perm_f 0 rfl (perm_f 1 rfl (perm_f 0 rfl (perm_f 0 rfl (perm_f 0 rfl (.refl _)))))))⟩
              · refine ⟨?_, ?_⟩
                · refine mkGm_h ekP evS h376 fun g407 w408 h408 => ?_
                  refine samec_h (g := g3) (o := 0) h12 h408 ?_
                  refine samec_h (g := g1) (o := 0) h12 h408 ?_
                  refine ⟨?_, ?_⟩
                  · refine gmPut_h (ek := ekI) (ev := evB) (k := 0) (y := (fRoot, (-1, 0))) mapB h408 fun w409 h409 => ?_
                    refine samec_h (g := g3) (o := 0) h12 h409 ?_
                    refine samec_h (g := g1) (o := 0) h12 h409 ?_
                    refine ⟨?_, ?_⟩
                    · refine spl_book ?_
                      refine ⟨?_, ?_⟩
                      · refine newBook_h (gB := g373) (gS := g407) h409 fun g411 w412 h412 => ?_
                        refine newC_h h412 fun g413 w414 h414 => ?_
                        refine samec_h (g := g3) (o := 0) h12 h414 ?_
                        refine samec_h (g := g1) (o := 0) h12 h414 ?_
                        refine stC_h (g := g413) h414 rfl (by decide) fun w415 h415 => ?_
                        exact hJ _ _ ⟨g413, g411, g373, g407, rfl, h415.perm (perm_f 0 rfl (perm_f 0 rfl (perm_f 1 rfl (perm_f 0 rfl (perm_f 0 rfl (perm_f 0 rfl (.refl _)))))))⟩
                      · refine newC_h h409 fun g416 w417 h417 => ?_
                        refine samec_h (g := g3) (o := 0) h12 h417 ?_
                        refine samec_h (g := g1) (o := 0) h12 h417 ?_
                        refine newBook_h (gB := g373) (gS := g407) h417 fun g418 w419 h419 => ?_
                        refine stC_h (g := g416) h419 rfl (by decide) fun w420 h420 => ?_
                        exact hJ _ _ ⟨g416, g418, g373, g407, rfl, h420.perm (perm_f 1 rfl (perm_f 0 rfl (perm_f 1 rfl (perm_f 0 rfl (perm_f 0 rfl (perm_f 0 rfl (.refl _)))))))⟩
                    · refine newC_h h409 fun g421 w422 h422 => ?_
                      refine samec_h (g := g3) (o := 0) h12 h422 ?_
                      refine samec_h (g := g1) (o := 0) h12 h422 ?_
                      refine spl_book ?_
                      refine newBook_h (gB := g373) (gS := g407) h422 fun g424 w425 h425 => ?_
                      refine stC_h (g := g421) h425 rfl (by decide) fun w426 h426 => ?_
                      exact hJ _ _ ⟨g421, g424, g373, g407, rfl, h426.perm (perm_f 1 rfl (perm_f 0 rfl (perm_f 1 rfl (perm_f 0 rfl (perm_f 0 rfl (perm_f 0 rfl (.refl _)))))))⟩
                  · refine newC_h h408 fun g427 w428 h428 => ?_
                    refine samec_h (g := g3) (o := 0) h12 h428 ?_
                    refine samec_h (g := g1) (o := 0) h12 h428 ?_
                    refine gmPut_h (ek := ekI) (ev := evB) (k := 0) (y := (fRoot, (-1, 0))) mapB h428 fun w429 h429 => ?_
                    refine samec_h (g := g3) (o := 0) h12 h429 ?_
                    refine samec_h (g := g1) (o := 0) h12 h429 ?_
                    refine spl_book ?_
                    refine newBook_h (gB := g373) (gS := g407) h429 fun g431 w432 h432 => ?_
                    refine stC_h (g := g427) h432 rfl (by decide) fun w433 h433 => ?_
                    exact hJ _ _ ⟨g427, g431, g373, g407, rfl, h433.perm (perm_f 1 rfl (perm_f 0 rfl (perm_f 1 rfl (perm_f 0 rfl (perm_f 0 rfl (perm_f 0 rfl (.refl _)))))))⟩
                · refine newC_h h376 fun g434 w435 h435 => ?_
                  refine samec_h (g := g3) (o := 0) h12 h435 ?_
                  refine samec_h (g := g1) (o := 0) h12 h435 ?_
                  refine ⟨?_, ?_⟩
                  · refine gmPut_h (ek := ekI) (ev := evB) (k := 0) (y := (fRoot, (-1, 0))) mapB h435 fun w436 h436 => ?_
                    refine samec_h (g := g3) (o := 0) h12 h436 ?_
                    refine samec_h (g := g1) (o := 0) h12 h436 ?_
                    refine mkGm_h ekP evS h436 fun g437 w438 h438 => ?_
                    refine samec_h (g := g3) (o := 0) h12 h438 ?_
                    refine samec_h (g := g1) (o := 0) h12 h438 ?_
                    refine spl_book ?_
                    refine newBook_h (gB := g373) (gS := g437) h438 fun g440 w441 h441 => ?_
                    refine stC_h (g := g434) h441 rfl (by decide) fun w442 h442 => ?_
                    exact hJ _ _ ⟨g434, g440, g373, g437, rfl, h442.perm (perm_f 2 rfl (perm_f 0 rfl (perm_f 1 rfl (perm_f 0 rfl (perm_f 0 rfl (perm_f 0 rfl (.refl _)))))))⟩
                  · refine mkGm_h ekP evS h435 fun g443 w444 h444 => ?_
                    refine samec_h (g := g3) (o := 0) h12 h444 ?_
                    refine samec_h (g := g1) (o := 0) h12 h444 ?_
                    refine gmPut_h (ek := ekI) (ev := evB) (k := 0) (y := (fRoot, (-1, 0))) mapB h444 fun w445 h445 => ?_
                    refine samec_h (g := g3) (o := 0) h12 h445 ?_
                    refine samec_h (g := g1) (o := 0) h12 h445 ?_
                    refine spl_book ?_
                    refine newBook_h (gB := g373) (gS := g443) h445 fun g447 w448 h448 => ?_
                    refine stC_h (g := g434) h448 rfl (by decide) fun w449 h449 => ?_
                    exact hJ _ _ ⟨g434, g447, g373, g443, rfl, h449.perm (perm_f 2 rfl (perm_f 0 rfl (perm_f 1 rfl (perm_f 0 rfl (perm_f 0 rfl (perm_f 0 rfl (.refl _)))))))⟩
            · refine ⟨?_, ?_⟩
              · refine mkGm_h ekP evS h376 fun g450 w451 h451 => ?_
                refine samec_h (g := g3) (o := 0) h12 h451 ?_
                refine samec_h (g := g1) (o := 0) h12 h451 ?_
                refine ⟨?_, ?_⟩
                · refine spl_beg hRl ?_
                  refine samec_h (g := g3) (o := 0) h12 h451 ?_
                  refine samec_h (g := g1) (o := 0) h12 h451 ?_
                  refine ⟨?_, ?_⟩
                  · refine gmPut_h (ek := ekI) (ev := evB) (k := 0) (y := (fRoot, (-1, 0))) mapB h451 fun w454 h454 => ?_
                    refine samec_h (g := g3) (o := 0) h12 h454 ?_
                    refine samec_h (g := g1) (o := 0) h12 h454 ?_
                    refine ⟨?_, ?_⟩
                    · refine spl_book ?_
                      refine ⟨?_, ?_⟩
                      · refine newBook_h (gB := g373) (gS := g450) h454 fun g456 w457 h457 => ?_
                        refine newC_h h457 fun g458 w459 h459 => ?_
                        refine samec_h (g := g3) (o := 0) h12 h459 ?_
                        refine samec_h (g := g1) (o := 0) h12 h459 ?_
                        refine stC_h (g := g458) h459 rfl (by decide) fun w460 h460 => ?_
                        exact hJ _ _ ⟨g458, g456, g373, g450, rfl, h460.perm (perm_f 0 rfl (perm_f 0 rfl (perm_f 1 rfl (perm_f 0 rfl (perm_f 0 rfl (perm_f 0 rfl (.refl _)))))))⟩
                      · refine newC_h h454 fun g461 w462 h462 => ?_
                        refine samec_h (g := g3) (o := 0) h12 h462 ?_
                        refine samec_h (g := g1) (o := 0) h12 h462 ?_
                        refine newBook_h (gB := g373) (gS := g450) h462 fun g463 w464 h464 => ?_
                        refine stC_h (g := g461) h464 rfl (by decide) fun w465 h465 => ?_
                        exact hJ _ _ ⟨g461, g463, g373, g450, rfl, h465.perm (perm_f 1 rfl (perm_f 0 rfl (perm_f 1 rfl (perm_f 0 rfl (perm_f 0 rfl (perm_f 0 rfl (.refl _)))))))⟩
                    · refine newC_h h454 fun g466 w467 h467 => ?_
                      refine samec_h (g := g3) (o := 0) h12 h467 ?_
                      refine samec_h (g := g1) (o := 0) h12 h467 ?_
                      refine spl_book ?_
                      refine newBook_h (gB := g373) (gS := g450) h467 fun g469 w470 h470 => ?_
                      refine stC_h (g := g466) h470 rfl (by decide) fun w471 h471 => ?_
                      exact hJ _ _ ⟨g466, g469, g373, g450, rfl, h471.perm (perm_f 1 rfl (perm_f 0 rfl (perm_f 1 rfl (perm_f 0 rfl (perm_f 0 rfl (perm_f 0 rfl (.refl _)))))))⟩
                  · refine newC_h h451 fun g472 w473 h473 => ?_
                    refine samec_h (g := g3) (o := 0) h12 h473 ?_
                    refine samec_h (g := g1) (o := 0) h12 h473 ?_
                    refine gmPut_h (ek := ekI) (ev := evB) (k := 0) (y := (fRoot, (-1, 0))) mapB h473 fun w474 h474 => ?_
                    refine samec_h (g := g3) (o := 0) h12 h474 ?_
                    refine samec_h (g := g1) (o := 0) h12 h474 ?_
                    refine spl_book ?_
                    refine newBook_h (gB := g373) (gS := g450) h474 fun g476 w477 h477 => ?_
                    refine stC_h (g := g472) h477 rfl (by decide) fun w478 h478 => ?_
                    exact hJ _ _ ⟨g472, g476, g373, g450, rfl, h478.perm (perm_f 1 rfl (perm_f 0 rfl (perm_f 1 rfl (perm_f 0 rfl (perm_f 0 rfl (perm_f 0 rfl (.refl _)))))))⟩
                · refine newC_h h451 fun g479 w480 h480 => ?_
                  refine samec_h (g := g3) (o := 0) h12 h480 ?_
                  refine samec_h (g := g1) (o := 0) h12 h480 ?_
                  refine spl_beg hRl ?_
                  refine samec_h (g := g3) (o := 0) h12 h480 ?_
                  refine samec_h (g := g1) (o := 0) h12 h480 ?_
                  refine gmPut_h (ek := ekI) (ev := evB) (k := 0) (y := (fRoot, (-1, 0))) mapB h480 fun w483 h483 => ?_
                  refine samec_h (g := g3) (o := 0) h12 h483 ?_
                  refine samec_h (g := g1) (o := 0) h12 h483 ?_
                  refine spl_book ?_
                  refine newBook_h (gB := g373) (gS := g450) h483 fun g485 w486 h486 => ?_
                  refine stC_h (g := g479) h486 rfl (by decide) fun w487 h487 => ?_
                  exact hJ _ _ ⟨g479, g485, g373, g450, rfl, h487.perm (perm_f 1 rfl (perm_f 0 rfl (perm_f 1 rfl (perm_f 0 rfl (perm_f 0 rfl (perm_f 0 rfl (.refl _)))))))⟩
              · refine newC_h h376 fun g488 w489 h489 => ?_
                refine samec_h (g := g3) (o := 0) h12 h489 ?_
                refine samec_h (g := g1) (o := 0) h12 h489 ?_
                refine ⟨?_, ?_⟩
                · refine spl_beg hRl ?_
                  refine samec_h (g := g3) (o := 0) h12 h489 ?_
                  refine samec_h (g := g1) (o := 0) h12 h489 ?_
                  refine ⟨?_, ?_⟩
                  · refine gmPut_h (ek := ekI) (ev := evB) (k := 0) (y := (fRoot, (-1, 0))) mapB h489 fun w492 h492 => ?_
                    refine samec_h (g := g3) (o := 0) h12 h492 ?_
                    refine samec_h (g := g1) (o := 0) h12 h492 ?_
                    refine mkGm_h ekP evS h492 fun g493 w494 h494 => ?_
                    refine samec_h (g := g3) (o := 0) h12 h494 ?_
                    refine samec_h (g := g1) (o := 0) h12 h494 ?_
                    refine spl_book ?_
                    refine newBook_h (gB := g373) (gS := g493) h494 fun g496 w497 h497 => ?_
                    refine stC_h (g := g488) h497 rfl (by decide) fun w498 h498 => ?_
                    exact hJ _ _ ⟨g488, g496, g373, g493, rfl, h498.perm (perm_f 2 rfl (perm_f 0 rfl (perm_f 1 rfl (perm_f 0 rfl (perm_f 0 rfl (perm_f 0 rfl (.refl _)))))))⟩
                  · refine mkGm_h ekP evS h489 fun g499 w500 h500 => ?_
                    refine samec_h (g := g3) (o := 0) h12 h500 ?_
                    refine samec_h (g := g1) (o := 0) h12 h500 ?_
                    refine gmPut_h (ek := ekI) (ev := evB) (k := 0) (y := (fRoot, (-1, 0))) mapB h500 fun w501 h501 => ?_
                    refine samec_h (g := g3) (o := 0) h12 h501 ?_
                    refine samec_h (g := g1) (o := 0) h12 h501 ?_
                    refine spl_book ?_
                    refine newBook_h (gB := g373) (gS := g499) h501 fun g503 w504 h504 => ?_
                    refine stC_h (g := g488) h504 rfl (by decide) fun w505 h505 => ?_
                    exact hJ _ _ ⟨g488, g503, g373, g499, rfl, h505.perm (perm_f 2 rfl (perm_f 0 rfl (perm_f 1 rfl (perm_f 0 rfl (perm_f 0 rfl (perm_f 0 rfl (.refl _)))))))⟩
                · refine mkGm_h ekP evS h489 fun g506 w507 h507 => ?_
                  refine samec_h (g := g3) (o := 0) h12 h507 ?_
                  refine samec_h (g := g1) (o := 0) h12 h507 ?_
                  refine spl_beg hRl ?_
                  refine samec_h (g := g3) (o := 0) h12 h507 ?_
                  refine samec_h (g := g1) (o := 0) h12 h507 ?_
                  refine gmPut_h (ek := ekI) (ev := evB) (k := 0) (y := (fRoot, (-1, 0))) mapB h507 fun w510 h510 => ?_
                  refine samec_h (g := g3) (o := 0) h12 h510 ?_
                  refine samec_h (g := g1) (o := 0) h12 h510 ?_
                  refine spl_book ?_
                  refine newBook_h (gB := g373) (gS := g506) h510 fun g512 w513 h513 => ?_
                  refine stC_h (g := g488) h513 rfl (by decide) fun w514 h514 => ?_
                  exact hJ _ _ ⟨g488, g512, g373, g506, rfl, h514.perm (perm_f 2 rfl (perm_f 0 rfl (perm_f 1 rfl (perm_f 0 rfl (perm_f 0 rfl (perm_f 0 rfl (.refl _)))))))⟩
          · refine ⟨?_, ?_⟩
            · refine mkGm_h ekP evS h374 fun g515 w516 h516 => ?_
              refine samec_h (g := g3) (o := 0) h12 h516 ?_
              refine samec_h (g := g1) (o := 0) h12 h516 ?_
              refine ⟨?_, ?_⟩
              · refine world_s fun w518 he => ?_
                have h518 := ext_of h516 he
                refine samec_h (g := g3) (o := 0) h12 h518 ?_
                refine samec_h (g := g1) (o := 0) h12 h518 ?_
                refine ⟨?_, ?_⟩
                · refine spl_beg hRl ?_
                  refine samec_h (g := g3) (o := 0) h12 h518 ?_
                  refine samec_h (g := g1) (o := 0) h12 h518 ?_
                  refine ⟨?_, ?_⟩
                  · refine gmPut_h (ek := ekI) (ev := evB) (k := 0) (y := (fRoot, (-1, 0))) mapB h518 fun w521 h521 => ?_
                    refine samec_h (g := g3) (o := 0) h12 h521 ?_
                    refine samec_h (g := g1) (o := 0) h12 h521 ?_
                    refine ⟨?_, ?_⟩
                    · refine spl_book ?_
                      refine ⟨?_, ?_⟩
                      · refine newBook_h (gB := g373) (gS := g515) h521 fun g523 w524 h524 => ?_
                        refine newC_h h524 fun g525 w526 h526 => ?_
                        refine samec_h (g := g3) (o := 0) h12 h526 ?_
                        refine samec_h (g := g1) (o := 0) h12 h526 ?_
                        refine stC_h (g := g525) h526 rfl (by decide) fun w527 h527 => ?_
                        exact hJ _ _ ⟨g525, g523, g373, g515, rfl, h527.perm (perm_f 0 rfl (perm_f 0 rfl (perm_f 1 rfl (perm_f 0 rfl (perm_f 0 rfl (perm_f 0 rfl (.refl _)))))))⟩
                      · refine newC_h h521 fun g528 w529 h529 => ?_
                        refine samec_h (g := g3) (o := 0) h12 h529 ?_
                        refine samec_h (g := g1) (o := 0) h12 h529 ?_
                        refine newBook_h (gB := g373) (gS := g515) h529 fun g530 w531 h531 => ?_
                        refine stC_h (g := g528) h531 rfl (by decide) fun w532 h532 => ?_
                        exact hJ _ _ ⟨g528, g530, g373, g515, rfl, h532.perm (perm_f 1 rfl (perm_f 0 rfl (perm_f 1 rfl (perm_f 0 rfl (perm_f 0 rfl (perm_f 0 rfl (.refl _)))))))⟩
                    · refine newC_h h521 fun g533 w534 h534 => ?_
                      refine samec_h (g := g3) (o := 0) h12 h534 ?_
                      refine samec_h (g := g1) (o := 0) h12 h534 ?_
                      refine spl_book ?_
                      refine newBook_h (gB := g373) (gS := g515) h534 fun g536 w537 h537 => ?_
                      refine stC_h (g := g533) h537 rfl (by decide) fun w538 h538 => ?_
                      exact hJ _ _ ⟨g533, g536, g373, g515, rfl, h538.perm (perm_f 1 rfl (perm_f 0 rfl (perm_f 1 rfl (perm_f 0 rfl (perm_f 0 rfl (perm_f 0 rfl (.refl _)))))))⟩
                  · refine newC_h h518 fun g539 w540 h540 => ?_
                    refine samec_h (g := g3) (o := 0) h12 h540 ?_
                    refine samec_h (g := g1) (o := 0) h12 h540 ?_
                    refine gmPut_h (ek := ekI) (ev := evB) (k := 0) (y := (fRoot, (-1, 0))) mapB h540 fun w541 h541 => ?_
                    refine samec_h (g := g3) (o := 0) h12 h541 ?_
                    refine samec_h (g := g1) (o := 0) h12 h541 ?_
                    refine spl_book ?_
                    refine newBook_h (gB := g373) (gS := g515) h541 fun g543 w544 h544 => ?_
                    refine stC_h (g := g539) h544 rfl (by decide) fun w545 h545 => ?_
                    exact hJ _ _ ⟨g539, g543, g373, g515, rfl, h545.perm (perm_f 1 rfl (perm_f 0 rfl (perm_f 1 rfl (perm_f 0 rfl (perm_f 0 rfl (perm_f 0 rfl (.refl _)))))))⟩
                · refine newC_h h518 fun g546 w547 h547 => ?_
                  refine samec_h (g := g3) (o := 0) h12 h547 ?_
                  refine samec_h (g := g1) (o := 0) h12 h547 ?_
                  refine spl_beg hRl ?_
                  refine samec_h (g := g3) (o := 0) h12 h547 ?_
                  refine samec_h (g := g1) (o := 0) h12 h547 ?_
                  refine gmPut_h (ek := ekI) (ev := evB) (k := 0) (y := (fRoot, (-1, 0))) mapB h547 fun w550 h550 => ?_
                  refine samec_h (g := g3) (o := 0) h12 h550 ?_
                  refine samec_h (g := g1) (o := 0) h12 h550 ?_
                  refine spl_book ?_
                  refine newBook_h (gB := g373) (gS := g515) h550 fun g552 w553 h553 => ?_
                  refine stC_h (g := g546) h553 rfl (by decide) fun w554 h554 => ?_
                  exact hJ _ _ ⟨g546, g552, g373, g515, rfl, h554.perm (perm_f 1 rfl (perm_f 0 rfl (perm_f 1 rfl (perm_f 0 rfl (perm_f 0 rfl (perm_f 0 rfl (.refl _)))))))⟩
              · refine newC_h h516 fun g555 w556 h556 => ?_
                refine samec_h (g := g3) (o := 0) h12 h556 ?_
                refine samec_h (g := g1) (o := 0) h12 h556 ?_
                refine world_s fun w558 he => ?_
                have h558 := ext_of h556 he
                refine samec_h (g := g3) (o := 0) h12 h558 ?_
                refine samec_h (g := g1) (o := 0) h12 h558 ?_
                refine spl_beg hRl ?_
                refine samec_h (g := g3) (o := 0) h12 h558 ?_
                refine samec_h (g := g1) (o := 0) h12 h558 ?_
                refine gmPut_h (ek := ekI) (ev := evB) (k := 0) (y := (fRoot, (-1, 0))) mapB h558 fun w561 h561 => ?_
                refine samec_h (g := g3) (o := 0) h12 h561 ?_
                refine samec_h (g := g1) (o := 0) h12 h561 ?_
                refine spl_book ?_
                refine newBook_h (gB := g373) (gS := g515) h561 fun g563 w564 h564 => ?_
                refine stC_h (g := g555) h564 rfl (by decide) fun w565 h565 => ?_
                exact hJ _ _ ⟨g555, g563, g373, g515, rfl, h565.perm (perm_f 1 rfl (perm_f 0 rfl (perm_f 1 rfl (perm_f 0 rfl (perm_f 0 rfl (perm_f 0 rfl (.refl _)))))))⟩
            · refine newC_h h374 fun g566 w567 h567 => ?_
              refine samec_h (g := g3) (o := 0) h12 h567 ?_
              refine samec_h (g := g1) (o := 0) h12 h567 ?_
              refine ⟨?_, ?_⟩
              · refine world_s fun w569 he => ?_
                have h569 := ext_of h567 he
                refine samec_h (g := g3) (o := 0) h12 h569 ?_
                refine samec_h (g := g1) (o := 0) h12 h569 ?_
                refine ⟨?_, ?_⟩
                · refine spl_beg hRl ?_
                  refine samec_h (g := g3) (o := 0) h12 h569 ?_
                  refine samec_h (g := g1) (o := 0) h12 h569 ?_
                  refine ⟨?_, ?_⟩
                  · refine gmPut_h (ek := ekI) (ev := evB) (k := 0) (y := (fRoot, (-1, 0))) mapB h569 fun w572 h572 => ?_
                    refine samec_h (g := g3) (o := 0) h12 h572 ?_
                    refine samec_h (g := g1) (o := 0) h12 h572 ?_
                    refine mkGm_h ekP evS h572 fun g573 w574 h574 => ?_
                    refine samec_h (g := g3) (o := 0) h12 h574 ?_
                    refine samec_h (g := g1) (o := 0) h12 h574 ?_
                    refine spl_book ?_
                    refine newBook_h (gB := g373) (gS := g573) h574 fun g576 w577 h577 => ?_
                    refine stC_h (g := g566) h577 rfl (by decide) fun w578 h578 => ?_
                    exact hJ _ _ ⟨g566, g576, g373, g573, rfl, h578.perm (perm_f 2 rfl (perm_f 0 rfl (perm_f 1 rfl (perm_f 0 rfl (perm_f 0 rfl (perm_f 0 rfl (.refl _)))))))⟩
                  · refine mkGm_h ekP evS h569 fun g579 w580 h580 => ?_
                    refine samec_h (g := g3) (o := 0) h12 h580 ?_
                    refine samec_h (g := g1) (o := 0) h12 h580 ?_
                    refine gmPut_h (ek := ekI) (ev := evB) (k := 0) (y := (fRoot, (-1, 0))) mapB h580 fun w581 h581 => ?_
                    refine samec_h (g := g3) (o := 0) h12 h581 ?_
                    refine samec_h (g := g1) (o := 0) h12 h581 ?_
                    refine spl_book ?_
                    refine newBook_h (gB := g373) (gS := g579) h581 fun g583 w584 h584 => ?_
                    refine stC_h (g := g566) h584 rfl (by decide) fun w585 h585 => ?_
                    exact hJ _ _ ⟨g566, g583, g373, g579, rfl, h585.perm (perm_f 2 rfl (perm_f 0 rfl (perm_f 1 rfl (perm_f 0 rfl (perm_f 0 rfl (perm_f 0 rfl (.refl _)))))))⟩
                · refine mkGm_h ekP evS h569 fun g586 w587 h587 => ?_
                  refine samec_h (g := g3) (o := 0) h12 h587 ?_
                  refine samec_h (g := g1) (o := 0) h12 h587 ?_
                  refine spl_beg hRl ?_
                  refine samec_h (g := g3) (o := 0) h12 h587 ?_
                  refine samec_h (g := g1) (o := 0) h12 h587 ?_
                  refine gmPut_h (ek := ekI) (ev := evB) (k := 0) (y := (fRoot, (-1, 0))) mapB h587 fun w590 h590 => ?_
                  refine samec_h (g := g3) (o := 0) h12 h590 ?_
                  refine samec_h (g := g1) (o := 0) h12 h590 ?_
                  refine spl_book ?_
                  refine newBook_h (gB := g373) (gS := g586) h590 fun g592 w593 h593 => ?_
                  refine stC_h (g := g566) h593 rfl (by decide) fun w594 h594 => ?_
                  exact hJ _ _ ⟨g566, g592, g373, g586, rfl, h594.perm (perm_f 2 rfl (perm_f 0 rfl (perm_f 1 rfl (perm_f 0 rfl (perm_f 0 rfl (perm_f 0 rfl (.refl _)))))))⟩
              · refine mkGm_h ekP evS h567 fun g595 w596 h596 => ?_
                refine samec_h (g := g3) (o := 0) h12 h596 ?_
                refine samec_h (g := g1) (o := 0) h12 h596 ?_
                refine world_s fun w598 he => ?_
                have h598 := ext_of h596 he
                refine samec_h (g := g3) (o := 0) h12 h598 ?_
                refine samec_h (g := g1) (o := 0) h12 h598 ?_
                refine spl_beg hRl ?_
                refine samec_h (g := g3) (o := 0) h12 h598 ?_
                refine samec_h (g := g1) (o := 0) h12 h598 ?_
                refine gmPut_h (ek := ekI) (ev := evB) (k := 0) (y := (fRoot, (-1, 0))) mapB h598 fun w601 h601 => ?_
                refine samec_h (g := g3) (o := 0) h12 h601 ?_
                refine samec_h (g := g1) (o := 0) h12 h601 ?_
                refine spl_book ?_
                refine newBook_h (gB := g373) (gS := g595) h601 fun g603 w604 h604 => ?_
                refine stC_h (g := g566) h604 rfl (by decide) fun w605 h605 => ?_
                exact hJ _ _ ⟨g566, g603, g373, g595, rfl, h605.perm (perm_f 2 rfl (perm_f 0 rfl (perm_f 1 rfl (perm_f 0 rfl (perm_f 0 rfl (perm_f 0 rfl (.refl _)))))))⟩
        · refine ⟨?_, ?_⟩
          · refine world_s fun w607 he => ?_
            have h607 := ext_of h372 he
            refine samec_h (g := g3) (o := 0) h12 h607 ?_
            refine samec_h (g := g1) (o := 0) h12 h607 ?_
            refine ⟨?_, ?_⟩
            · refine mkGm_h ekI evB h607 fun g608 w609 h609 => ?_
              refine samec_h (g := g3) (o := 0) h12 h609 ?_
              refine samec_h (g := g1) (o := 0) h12 h609 ?_
              refine ⟨?_, ?_⟩
              · refine spl_beg hRl ?_
                refine samec_h (g := g3) (o := 0) h12 h609 ?_
                refine samec_h (g := g1) (o := 0) h12 h609 ?_
                refine ⟨?_, ?_⟩
                · refine gmPut_h (ek := ekI) (ev := evB) (k := 0) (y := (fRoot, (-1, 0))) mapB h609 fun w612 h612 => ?_
                  refine samec_h (g := g3) (o := 0) h12 h612 ?_
                  refine samec_h (g := g1) (o := 0) h12 h612 ?_
                  refine ⟨?_, ?_⟩
                  · refine mkGm_h ekP evS h612 fun g613 w614 h614 => ?_
                    refine samec_h (g := g3) (o := 0) h12 h614 ?_
                    refine samec_h (g := g1) (o := 0) h12 h614 ?_
                    refine ⟨?_, ?_⟩
                    · refine spl_book ?_
                      refine ⟨?_, ?_⟩
                      · refine newBook_h (gB := g608) (gS := g613) h614 fun g616 w617 h617 => ?_
                        refine newC_h h617 fun g618 w619 h619 => ?_
                        refine samec_h (g := g3) (o := 0) h12 h619 ?_
                        refine samec_h (g := g1) (o := 0) h12 h619 ?_
                        refine stC_h (g := g618) h619 rfl (by decide) fun w620 h620 => ?_
                        exact hJ _ _ ⟨g618, g616, g608, g613, rfl, h620.perm (perm_f 0 rfl (perm_f 0 rfl (perm_f 1 rfl (perm_f 0 rfl (perm_f 0 rfl (perm_f 0 rfl (.refl _)))))))⟩
                      · refine newC_h h614 fun g621 w622 h622 => ?_
                        refine samec_h (g := g3) (o := 0) h12 h622 ?_
                        refine samec_h (g := g1) (o := 0) h12 h622 ?_
                        refine newBook_h (gB := g608) (gS := g613) h622 fun g623 w624 h624 => ?_
                        refine stC_h (g := g621) h624 rfl (by decide) fun w625 h625 => ?_
                        exact hJ _ _ ⟨g621, g623, g608, g613, rfl, h625.perm (perm_f 1 rfl (perm_f 0 rfl (perm_f 1 rfl (perm_f 0 rfl (perm_f 0 rfl (perm_f 0 rfl (.refl _)))))))⟩
                    · refine newC_h h614 fun g626 w627 h627 => ?_
                      refine samec_h (g := g3) (o := 0) h12 h627 ?_
                      refine samec_h (g := g1) (o := 0) h12 h627 ?_
                      refine spl_book ?_
                      refine newBook_h (gB := g608) (gS := g613) h627 fun g629 w630 h630 => ?_
                      refine stC_h (g := g626) h630 rfl (by decide) fun w631 h631 => ?_
                      exact hJ _ _ ⟨g626, g629, g608, g613, rfl, h631.perm (perm_f 1 rfl (perm_f 0 rfl (perm_f 1 rfl (perm_f 0 rfl (perm_f 0 rfl (perm_f 0 rfl (.refl _)))))))⟩
                  · refine newC_h h612 fun g632 w633 h633 => ?_
                    refine samec_h (g := g3) (o := 0) h12 h633 ?_
                    refine samec_h (g := g1) (o := 0) h12 h633 ?_
                    refine mkGm_h ekP evS h633 fun g634 w635 h635 => ?_
                    refine samec_h (g := g3) (o := 0) h12 h635 ?_
                    refine samec_h (g := g1) (o := 0) h12 h635 ?_
                    refine spl_book ?_
                    refine newBook_h (gB := g608) (gS := g634) h635 fun g637 w638 h638 => ?_
                    refine stC_h (g := g632) h638 rfl (by decide) fun w639 h639 => ?_
                    exact hJ _ _ ⟨g632, g637, g608, g634, rfl, h639.perm (perm_f 2 rfl (perm_f 0 rfl (perm_f 1 rfl (perm_f 0 rfl (perm_f 0 rfl (perm_f 0 rfl (.refl _)))))))⟩
                · refine ⟨?_, ?_⟩
                  · refine mkGm_h ekP evS h609 fun g640 w641 h641 => ?_
                    refine samec_h (g := g3) (o := 0) h12 h641 ?_
                    refine samec_h (g := g1) (o := 0) h12 h641 ?_
                    refine ⟨?_, ?_⟩
                    · refine gmPut_h (ek := ekI) (ev := evB) (k := 0) (y := (fRoot, (-1, 0))) mapB h641 fun w642 h642 => ?_
                      refine samec_h (g := g3) (o := 0) h12 h642 ?_
                      refine samec_h (g := g1) (o := 0) h12 h642 ?_
                      refine ⟨?_, ?_⟩
                      · refine spl_book ?_
                        refine ⟨?_, ?_⟩
                        · refine newBook_h (gB := g608) (gS := g640) h642 fun g644 w645 h645 => ?_
                          refine newC_h h645 fun g646 w647 h647 => ?_
                          refine samec_h (g := g3) (o := 0) h12 h647 ?_
                          refine samec_h (g := g1) (o := 0) h12 h647 ?_
                          refine stC_h (g := g646) h647 rfl (by decide) fun w648 h648 => ?_
                          exact hJ _ _ ⟨g646, g644, g608, g640, rfl, h648.perm (perm_f 0 rfl (perm_f 0 rfl (perm_f 1 rfl (perm_f 0 rfl (perm_f 0 rfl (perm_f 0 rfl (.refl _)))))))⟩
                        · refine newC_h h642 fun g649 w650 h650 => ?_
                          refine samec_h (g := g3) (o := 0) h12 h650 ?_
                          refine samec_h (g := g1) (o := 0) h12 h650 ?_
                          refine newBook_h (gB := g608) (gS := g640) h650 fun g651 w652 h652 => ?_
                          refine stC_h (g := g649) h652 rfl (by decide) fun w653 h653 => ?_
                          exact hJ _ _ ⟨g649, g651, g608, g640, rfl, h653.perm (perm_f 1 rfl (perm_f 0 rfl (perm_f 1 rfl (perm_f 0 rfl (perm_f 0 rfl (perm_f 0 rfl (.refl _)))))))⟩
                      · refine newC_h h642 fun g654 w655 h655 => ?_
                        refine samec_h (g := g3) (o := 0) h12 h655 ?_
                        refine samec_h (g := g1) (o := 0) h12 h655 ?_
                        refine spl_book ?_
                        refine newBook_h (gB := g608) (gS := g640) h655 fun g657 w658 h658 => ?_
                        refine stC_h (g := g654) h658 rfl (by decide) fun w659 h659 => ?_
                        exact hJ _ _ ⟨g654, g657, g608, g640, rfl, h659.perm (perm_f 1 rfl (perm_f 0 rfl (perm_f 1 rfl (perm_f 0 rfl (perm_f 0 rfl (perm_f 0 rfl (.refl _)))))))⟩
                    · refine newC_h h641 fun g660 w661 h661 => ?_
                      refine samec_h (g := g3) (o := 0) h12 h661 ?_
                      refine samec_h (g := g1) (o := 0) h12 h661 ?_
                      refine gmPut_h (ek := ekI) (ev := evB) (k := 0) (y := (fRoot, (-1, 0))) mapB h661 fun w662 h662 => ?_
                      refine samec_h (g := g3) (o := 0) h12 h662 ?_
                      refine samec_h (g := g1) (o := 0) h12 h662 ?_
                      refine spl_book ?_
                      refine newBook_h (gB := g608) (gS := g640) h662 fun g664 w665 h665 => ?_
                      refine stC_h (g := g660) h665 rfl (by decide) fun w666 h666 => ?_
                      exact hJ _ _ ⟨g660, g664, g608, g640, rfl, h666.perm (perm_f 1 rfl (perm_f 0 rfl (perm_f 1 rfl (perm_f 0 rfl (perm_f 0 rfl (perm_f 0 rfl (.refl _)))))))⟩
                  · refine newC_h h609 fun g667 w668 h668 => ?_
                    refine samec_h (g := g3) (o := 0) h12 h668 ?_
                    refine samec_h (g := g1) (o := 0) h12 h668 ?_
                    refine ⟨?_, ?_⟩
                    · refine gmPut_h (ek := ekI) (ev := evB) (k := 0) (y := (fRoot, (-1, 0))) mapB h668 fun w669 h669 => ?_
                      refine samec_h (g := g3) (o := 0) h12 h669 ?_
                      refine samec_h (g := g1) (o := 0) h12 h669 ?_
                      refine mkGm_h ekP evS h669 fun g670 w671 h671 => ?_
                      refine samec_h (g := g3) (o := 0) h12 h671 ?_
                      refine samec_h (g := g1) (o := 0) h12 h671 ?_
                      refine spl_book ?_
                      refine newBook_h (gB := g608) (gS := g670) h671 fun g673 w674 h674 => ?_
                      refine stC_h (g := g667) h674 rfl (by decide) fun w675 h675 => ?_
                      exact hJ _ _ ⟨g667, g673, g608, g670, rfl, h675.perm (perm_f 2 rfl (perm_f 0 rfl (perm_f 1 rfl (perm_f 0 rfl (perm_f 0 rfl (perm_f 0 rfl (.refl _)))))))⟩
                    · refine mkGm_h ekP evS h668 fun g676 w677 h677 => ?_
                      refine samec_h (g := g3) (o := 0) h12 h677 ?_
                      refine samec_h (g := g1) (o := 0) h12 h677 ?_
                      refine gmPut_h (ek := ekI) (ev := evB) (k := 0) (y := (fRoot, (-1, 0))) mapB h677 fun w678 h678 => ?_
                      refine samec_h (g := g3) (o := 0) h12 h678 ?_
                      refine samec_h (g := g1) (o := 0) h12 h678 ?_
                      refine spl_book ?_
                      refine newBook_h (gB := g608) (gS := g676) h678 fun g680 w681 h681 => ?_
                      refine stC_h (g := g667) h681 rfl (by decide) fun w682 h682 => ?_
                      exact hJ _ _ ⟨g667, g680, g608, g676, rfl, h682.perm (perm_f 2 rfl (perm_f 0 rfl (perm_f 1 rfl (perm_f 0 rfl (perm_f 0 rfl (perm_f 0 rfl (.refl _)))))))⟩
              · refine ⟨?_, ?_⟩
                · refine mkGm_h ekP evS h609 fun g683 w684 h684 => ?_
                  refine samec_h (g := g3) (o := 0) h12 h684 ?_
                  refine samec_h (g := g1) (o := 0) h12 h684 ?_
                  refine ⟨?_, ?_⟩
                  · refine spl_beg hRl ?_
                    refine samec_h (g := g3) (o := 0) h12 h684 ?_
                    refine samec_h (g := g1) (o := 0) h12 h684 ?_
                    refine ⟨?_, ?_⟩
                    · refine gmPut_h (ek := ekI) (ev := evB) (k := 0) (y := (fRoot, (-1, 0))) mapB h684 fun w687 h687 => ?_
                      refine samec_h (g := g3) (o := 0) h12 h687 ?_
                      refine samec_h (g := g1) (o := 0) h12 h687 ?_
                      refine ⟨?_, ?_⟩
                      · refine spl_book ?_
                        refine ⟨?_, ?_⟩
                        · refine newBook_h (gB := g608) (gS := g683) h687 fun g689 w690 h690 => ?_
                          refine newC_h h690 fun g691 w692 h692 => ?_
                          refine samec_h (g := g3) (o := 0) h12 h692 ?_
                          refine samec_h (g := g1) (o := 0) h12 h692 ?_
                          refine stC_h (g := g691) h692 rfl (by decide) fun w693 h693 => ?_
                          exact hJ _ _ ⟨g691, g689, g608, g683, rfl, h693.perm (perm_f 0 rfl (perm_f 0 rfl (perm_f 1 rfl (perm_f 0 rfl (perm_f 0 rfl (perm_f 0 rfl (.refl _)))))))⟩
                        · refine newC_h h687 fun g694 w695 h695 => ?_
                          refine samec_h (g := g3) (o := 0) h12 h695 ?_
                          refine samec_h (g := g1) (o := 0) h12 h695 ?_
                          refine newBook_h (gB := g608) (gS := g683) h695 fun g696 w697 h697 => ?_
                          refine stC_h (g := g694) h697 rfl (by decide) fun w698 h698 => ?_
                          exact hJ _ _ ⟨g694, g696, g608, g683, rfl, h698.perm (perm_f 1 rfl (perm_f 0 rfl (perm_f 1 rfl (perm_f 0 rfl (perm_f 0 rfl (perm_f 0 rfl (.refl _)))))))⟩
                      · refine newC_h h687 fun g699 w700 h700 => ?_
                        refine samec_h (g := g3) (o := 0) h12 h700 ?_
                        refine samec_h (g := g1) (o := 0) h12 h700 ?_
                        refine spl_book ?_
                        refine newBook_h (gB := g608) (gS := g683) h700 fun g702 w703 h703 => ?_
                        refine stC_h (g := g699) h703 rfl (by decide) fun w704 h704 => ?_
                        exact hJ _ _ ⟨g699, g702, g608, g683, rfl, h704.perm (perm_f 1 rfl (perm_f 0 rfl (perm_f 1 rfl (perm_f 0 rfl (perm_f 0 rfl (perm_f 0 rfl (.refl _)))))))⟩
                    · refine newC_h h684 fun g705 w706 h706 => ?_
                      refine samec_h (g := g3) (o := 0) h12 h706 ?_
                      refine samec_h (g := g1) (o := 0) h12 h706 ?_
                      refine gmPut_h (ek := ekI) (ev := evB) (k := 0) (y := (fRoot, (-1, 0))) mapB h706 fun w707 h707 => ?_
                      refine samec_h (g := g3) (o := 0) h12 h707 ?_
                      refine samec_h (g := g1) (o := 0) h12 h707 ?_
                      refine spl_book ?_
                      refine newBook_h (gB := g608) (gS := g683) h707 fun g709 w710 h710 => ?_
                      refine stC_h (g := g705) h710 rfl (by decide) fun w711 h711 => ?_
                      exact hJ _ _ ⟨g705, g709, g608, g683, rfl, h711.perm (perm_f 1 rfl (perm_f 0 rfl (perm_f 1 rfl (perm_f 0 rfl (perm_f 0 rfl (perm_f 0 rfl (.refl _)))))))⟩
                  · refine newC_h h684 fun g712 w713 h713 => ?_
                    refine samec_h (g := g3) (o := 0) h12 h713 ?_
                    refine samec_h (g := g1) (o := 0) h12 h713 ?_
                    refine spl_beg hRl ?_
                    refine samec_h (g := g3) (o := 0) h12 h713 ?_
                    refine samec_h (g := g1) (o := 0) h12 h713 ?_
                    refine gmPut_h (ek := ekI) (ev := evB) (k := 0) (y := (fRoot, (-1, 0))) mapB h713 fun w716 h716 => ?_
                    refine samec_h (g := g3) (o := 0) h12 h716 ?_
                    refine samec_h (g := g1) (o := 0) h12 h716 ?_
                    refine spl_book ?_
                    refine newBook_h (gB := g608) (gS := g683) h716 fun g718 w719 h719 => ?_
                    refine stC_h (g := g712) h719 rfl (by decide) fun w720 h720 => ?_
                    exact hJ _ _ ⟨g712, g718, g608, g683, rfl, h720.perm (perm_f 1 rfl (perm_f 0 rfl (perm_f 1 rfl (perm_f 0 rfl (perm_f 0 rfl (perm_f 0 rfl (.refl _)))))))⟩
                · refine newC_h h609 fun g721 w722 h722 => ?_
                  refine samec_h (g := g3) (o := 0) h12 h722 ?_
                  refine samec_h (g := g1) (o := 0) h12 h722 ?_
                  refine ⟨?_, ?_⟩
                  · refine spl_beg hRl ?_
                    refine samec_h (g := g3) (o := 0) h12 h722 ?_
                    refine samec_h (g := g1) (o := 0) h12 h722 ?_
                    refine ⟨?_, ?_⟩
                    · refine gmPut_h (ek := ekI) (ev := evB) (k := 0) (y := (fRoot, (-1, 0))) mapB h722 fun w725 h725 => ?_
                      refine samec_h (g := g3) (o := 0) h12 h725 ?_
                      refine samec_h (g := g1) (o := 0) h12 h725 ?_
                      refine mkGm_h ekP evS h725 fun g726 w727 h727 => ?_
                      refine samec_h (g := g3) (o := 0) h12 h727 ?_
                      refine samec_h (g := g1) (o := 0) h12 h727 ?_
                      refine spl_book ?_
                      refine newBook_h (gB := g608) (gS := g726) h727 fun g729 w730 h730 => ?_
                      refine stC_h (g := g721) h730 rfl (by decide) fun w731 h731 => ?_
                      exact hJ _ _ ⟨g721, g729, g608, g726, rfl, h731.perm (perm_f 2 rfl (perm_f 0 rfl (perm_f 1 rfl (perm_f 0 rfl (perm_f 0 rfl (perm_f 0 rfl (.refl _)))))))⟩
                    · refine mkGm_h ekP evS h722 fun g732 w733 h733 => ?_
                      refine samec_h (g := g3) (o := 0) h12 h733 ?_
                      refine samec_h (g := g1) (o := 0) h12 h733 ?_
                      refine gmPut_h (ek := ekI) (ev := evB) (k := 0) (y := (fRoot, (-1, 0))) mapB h733 fun w734 h734 => ?_
                      refine samec_h (g := g3) (o := 0) h12 h734 ?_
                      refine samec_h (g := g1) (o := 0) h12 h734 ?_
                      refine spl_book ?_
                      refine newBook_h (gB := g608) (gS := g732) h734 fun g736 w737 h737 => ?_
                      refine stC_h (g := g721) h737 rfl (by decide) fun w738 h738 => ?_
                      exact hJ _ _ ⟨g721, g736, g608, g732, rfl, h738.perm (perm_f 2 rfl (perm_f 0 rfl (perm_f 1 rfl (perm_f 0 rfl (perm_f 0 rfl (perm_f 0 rfl (.refl _)))))))⟩
                  · refine mkGm_h ekP evS h722 fun g739 w740 h740 => ?_
                    refine samec_h (g := g3) (o := 0) h12 h740 ?_
                    refine samec_h (g := g1) (o := 0) h12 h740 ?_
                    refine spl_beg hRl ?_
                    refine samec_h (g := g3) (o := 0) h12 h740 ?_
                    refine samec_h (g := g1) (o := 0) h12 h740 ?_
                    refine gmPut_h (ek := ekI) (ev := evB) (k := 0) (y := (fRoot, (-1, 0))) mapB h740 fun w743 h743 => ?_
                    refine samec_h (g := g3) (o := 0) h12 h743 ?_
                    refine samec_h (g := g1) (o := 0) h12 h743 ?_
                    refine spl_book ?_
                    refine newBook_h (gB := g608) (gS := g739) h743 fun g745 w746 h746 => ?_
                    refine stC_h (g := g721) h746 rfl (by decide) fun w747 h747 => ?_
                    exact hJ _ _ ⟨g721, g745, g608, g739, rfl, h747.perm (perm_f 2 rfl (perm_f 0 rfl (perm_f 1 rfl (perm_f 0 rfl (perm_f 0 rfl (perm_f 0 rfl (.refl _)))))))⟩
            · refine ⟨?_, ?_⟩
              · refine spl_beg hRl ?_
                refine samec_h (g := g3) (o := 0) h12 h607 ?_
                refine samec_h (g := g1) (o := 0) h12 h607 ?_
                refine ⟨?_, ?_⟩
                · refine mkGm_h ekI evB h607 fun g750 w751 h751 => ?_
                  refine samec_h (g := g3) (o := 0) h12 h751 ?_
                  refine samec_h (g := g1) (o := 0) h12 h751 ?_
                  refine ⟨?_, ?_⟩
                  · refine gmPut_h (ek := ekI) (ev := evB) (k := 0) (y := (fRoot, (-1, 0))) mapB h751 fun w752 h752 => ?_
                    refine samec_h (g := g3) (o := 0) h12 h752 ?_
                    refine samec_h (g := g1) (o := 0) h12 h752 ?_
                    refine ⟨?_, ?_⟩
                    · refine mkGm_h ekP evS h752 fun g753 w754 h754 => ?_
                      refine samec_h (g := g3) (o := 0) h12 h754 ?_
                      refine samec_h (g := g1) (o := 0) h12 h754 ?_
                      refine ⟨?_, ?_⟩
                      · refine spl_book ?_
                        refine ⟨?_, ?_⟩
                        · refine newBook_h (gB := g750) (gS := g753) h754 fun g756 w757 h757 => ?_
                          refine newC_h h757 fun g758 w759 h759 => ?_
                          refine samec_h (g := g3) (o := 0) h12 h759 ?_
                          refine samec_h (g := g1) (o := 0) h12 h759 ?_
                          refine stC_h (g := g758) h759 rfl (by decide) fun w760 h760 => ?_
                          exact hJ _ _ ⟨g758, g756, g750, g753, rfl, h760.perm (perm_f 0 rfl (perm_f 0 rfl (perm_f 1 rfl (perm_f 0 rfl (perm_f 0 rfl (perm_f 0 rfl (.refl _)))))))⟩
                        · refine newC_h h754 fun g761 w762 h762 => ?_
                          refine samec_h (g := g3) (o := 0) h12 h762 ?_
                          refine samec_h (g := g1) (o := 0) h12 h762 ?_
                          refine newBook_h (gB := g750) (gS := g753) h762 fun g763 w764 h764 => ?_
                          refine stC_h (g := g761) h764 rfl (by decide) fun w765 h765 => ?_
                          exact hJ _ _ ⟨g761, g763, g750, g753, rfl, h765.perm (perm_f 1 rfl (perm_f 0 rfl (perm_f 1 rfl (perm_f 0 rfl (perm_f 0 rfl (perm_f 0 rfl (.refl _)))))))⟩
                      · refine newC_h h754 fun g766 w767 h767 => ?_
                        refine samec_h (g := g3) (o := 0) h12 h767 ?_
                        refine samec_h (g := g1) (o := 0) h12 h767 ?_
                        refine spl_book ?_
                        refine newBook_h (gB := g750) (gS := g753) h767 fun g769 w770 h770 => ?_
                        refine stC_h (g := g766) h770 rfl (by decide) fun w771 h771 => ?_
                        exact hJ _ _ ⟨g766, g769, g750, g753, rfl, h771.perm (perm_f 1 rfl (perm_f 0 rfl (perm_f 1 rfl (perm_f 0 rfl (perm_f 0 rfl (perm_f 0 rfl (.refl _)))))))⟩
                    · refine newC_h h752 fun g772 w773 h773 => ?_
                      refine samec_h (g := g3) (o := 0) h12 h773 ?_
                      refine samec_h (g := g1) (o := 0) h12 h773 ?_
                      refine mkGm_h ekP evS h773 fun g774 w775 h775 => ?_
                      refine samec_h (g := g3) (o := 0) h12 h775 ?_
                      refine samec_h (g := g1) (o := 0) h12 h775 ?_
                      refine spl_book ?_
                      refine newBook_h (gB := g750) (gS := g774) h775 fun g777 w778 h778 => ?_
                      refine stC_h (g := g772) h778 rfl (by decide) fun w779 h779 => ?_
                      exact hJ _ _ ⟨g772, g777, g750, g774, rfl, h779.perm (perm_f 2 rfl (perm_f 0 rfl (perm_f 1 rfl (perm_f 0 rfl (perm_f 0 rfl (perm_f 0 rfl (.refl _)))))))⟩
                  · refine ⟨?_, ?_⟩
                    · refine mkGm_h ekP evS h751 fun g780 w781 h781 => ?_
                      refine samec_h (g := g3) (o := 0) h12 h781 ?_
                      refine samec_h (g := g1) (o := 0) h12 h781 ?_
                      refine ⟨?_, ?_⟩
                      · refine gmPut_h (ek := ekI) (ev := evB) (k := 0) (y := (fRoot, (-1, 0))) mapB h781 fun w782 h782 => ?_
                        refine samec_h (g := g3) (o := 0) h12 h782 ?_
                        refine samec_h (g := g1) (o := 0) h12 h782 ?_
                        refine ⟨?_, ?_⟩
                        · refine spl_book ?_
                          refine ⟨?_, ?_⟩
                          · refine newBook_h (gB := g750) (gS := g780) h782 fun g784 w785 h785 => ?_
                            refine newC_h h785 fun g786 w787 h787 => ?_
                            refine samec_h (g := g3) (o := 0) h12 h787 ?_
                            refine samec_h (g := g1) (o := 0) h12 h787 ?_
                            refine stC_h (g := g786) h787 rfl (by decide) fun w788 h788 => ?_
                            exact hJ _ _ ⟨g786, g784, g750, g780, rfl, h788.perm (perm_f 0 rfl (perm_f 0 rfl (perm_f 1 rfl (perm_f 0 rfl (perm_f 0 rfl (perm_f 0 rfl (.refl _)))))))⟩
                          · refine newC_h h782 fun g789 w790 h790 => ?_
                            refine samec_h (g := g3) (o := 0) h12 h790 ?_
                            refine samec_h (g := g1) (o := 0) h12 h790 ?_
                            refine newBook_h (gB := g750) (gS := g780) h790 fun g791 w792 h792 => ?_
                            refine stC_h (g := g789) h792 rfl (by decide) fun w793 h793 => ?_
                            exact hJ _ _ ⟨g789, g791, g750, g780, rfl, h793.perm (perm_f 1 rfl (perm_f 0 rfl (perm_f 1 rfl (perm_f 0 rfl (perm_f 0 rfl (perm_f 0 rfl (.refl _)))))))⟩
                        · refine newC_h h782 fun g794 w795 h795 => ?_
                          refine samec_h (g := g3) (o := 0) h12 h795 ?_
                          refine samec_h (g := g1) (o := 0) h12 h795 ?_
                          refine spl_book ?_
                          refine newBook_h (gB := g750) (gS := g780) h795 fun g797 w798 h798 => ?_
                          refine stC_h (g := g794) h798 rfl (by decide) fun w799 h799 => ?_
                          exact hJ _ _ ⟨g794, g797, g750, g780, rfl, h799.perm (perm_f 1 rfl (perm_f 0 rfl (perm_f 1 rfl (perm_f 0 rfl (perm_f 0 rfl (perm_f 0 rfl (.refl _)))))))⟩
                      · refine newC_h h781 fun g800 w801 h801 => ?_
                        refine samec_h (g := g3) (o := 0) h12 h801 ?_
                        refine samec_h (g := g1) (o := 0) h12 h801 ?_
                        refine gmPut_h (ek := ekI) (ev := evB) (k := 0) (y := (fRoot, (-1, 0))) mapB h801 fun w802 h802 => ?_
                        refine samec_h (g := g3) (o := 0) h12 h802 ?_
                        refine samec_h (g := g1) (o := 0) h12 h802 ?_
                        refine spl_book ?_
                        refine newBook_h (gB := g750) (gS := g780) h802 fun g804 w805 h805 => ?_
                        refine stC_h (g := g800) h805 rfl (by decide) fun w806 h806 => ?_
                        exact hJ _ _ ⟨g800, g804, g750, g780, rfl, h806.perm (perm_f 1 rfl (perm_f 0 rfl (perm_f 1 rfl (perm_f 0 rfl (perm_f 0 rfl (perm_f 0 rfl (.refl _)))))))⟩
                    · refine newC_h h751 fun g807 w808 h808 => ?_
                      refine samec_h (g := g3) (o := 0) h12 h808 ?_
                      refine samec_h (g := g1) (o := 0) h12 h808 ?_
                      refine ⟨?_, ?_⟩
                      · refine gmPut_h (ek := ekI) (ev := evB) (k := 0) (y := (fRoot, (-1, 0))) mapB h808 fun w809 h809 => ?_
                        refine samec_h (g := g3) (o := 0) h12 h809 ?_
                        refine samec_h (g := g1) (o := 0) h12 h809 ?_
                        refine mkGm_h ekP evS h809 fun g810 w811 h811 => ?_
                        refine samec_h (g := g3) (o := 0) h12 h811 ?_
                        refine samec_h (g := g1) (o := 0) h12 h811 ?_
                        refine spl_book ?_
                        refine newBook_h (gB := g750) (gS := g810) h811 fun g813 w814 h814 => ?_
                        refine stC_h (g := g807) h814 rfl (by decide) fun w815 h815 => ?_
                        exact hJ _ _ ⟨g807, g813, g750, g810, rfl, h815.perm (perm_f 2 rfl (perm_f 0 rfl (perm_f 1 rfl (perm_f 0 rfl (perm_f 0 rfl (perm_f 0 rfl (.refl _)))))))⟩
                      · refine mkGm_h ekP evS h808 fun g816 w817 h817 => ?_
                        refine samec_h (g := g3) (o := 0) h12 h817 ?_
                        refine samec_h (g := g1) (o := 0) h12 h817 ?_
                        refine gmPut_h (ek := ekI) (ev := evB) (k := 0) (y := (fRoot, (-1, 0))) mapB h817 fun w818 h818 => ?_
                        refine samec_h (g := g3) (o := 0) h12 h818 ?_
                        refine samec_h (g := g1) (o := 0) h12 h818 ?_
                        refine spl_book ?_
                        refine newBook_h (gB := g750) (gS := g816) h818 fun g820 w821 h821 => ?_
                        refine stC_h (g := g807) h821 rfl (by decide) fun w822 h822 => ?_
                        exact hJ _ _ ⟨g807, g820, g750, g816, rfl, h822.perm (perm_f 2 rfl (perm_f 0 rfl (perm_f 1 rfl (perm_f 0 rfl (perm_f 0 rfl (perm_f 0 rfl (.refl _)))))))⟩
                · refine ⟨?_, ?_⟩
                  · refine mkGm_h ekP evS h607 fun g823 w824 h824 => ?_
                    refine samec_h (g := g3) (o := 0) h12 h824 ?_
                    refine samec_h (g := g1) (o := 0) h12 h824 ?_
                    refine ⟨?_, ?_⟩
                    · refine mkGm_h ekI evB h824 fun g825 w826 h826 => ?_
                      refine samec_h (g := g3) (o := 0) h12 h826 ?_
                      refine samec_h (g := g1) (o := 0) h12 h826 ?_
                      refine ⟨?_, ?_⟩
                      · refine gmPut_h (ek := ekI) (ev := evB) (k := 0) (y := (fRoot, (-1, 0))) mapB h826 fun w827 h827 => ?_
                        refine samec_h (g := g3) (o := 0) h12 h827 ?_
                        refine samec_h (g := g1) (o := 0) h12 h827 ?_
                        refine ⟨?_, ?_⟩
                        · refine spl_book ?_
                          refine ⟨?_, ?_⟩
                          · refine newBook_h (gB := g825) (gS := g823) h827 fun g829 w830 h830 => ?_
                            refine newC_h h830 fun g831 w832 h832 => ?_
                            refine samec_h (g := g3) (o := 0) h12 h832 ?_
                            refine samec_h (g := g1) (o := 0) h12 h832 ?_
                            refine stC_h (g := g831) h832 rfl (by decide) fun w833 h833 => ?_
                            exact hJ _ _ ⟨g831, g829, g825, g823, rfl, h833.perm (perm_f 0 rfl (perm_f 0 rfl (perm_f 0 rfl (perm_f 0 rfl (perm_f 0 rfl (perm_f 0 rfl (.refl _)))))))⟩
                          · refine newC_h h827 fun g834 w835 h835 => ?_
                            refine samec_h (g := g3) (o := 0) h12 h835 ?_
                            refine samec_h (g := g1) (o := 0) h12 h835 ?_
                            refine newBook_h (gB := g825) (gS := g823) h835 fun g836 w837 h837 => ?_
                            refine stC_h (g := g834) h837 rfl (by decide) fun w838 h838 => ?_
                            exact hJ _ _ ⟨g834, g836, g825, g823, rfl, h838.perm (perm_f 1 rfl (perm_f 0 rfl (perm_f 0 rfl (perm_f 0 rfl (perm_f 0 rfl (perm_f 0 rfl (.refl _)))))))⟩
                        · refine newC_h h827 fun g839 w840 h840 => ?_
                          refine samec_h (g := g3) (o := 0) h12 h840 ?_
                          refine samec_h (g := g1) (o := 0) h12 h840 ?_
                          refine spl_book ?_
                          refine newBook_h (gB := g825) (gS := g823) h840 fun g842 w843 h843 => ?_
                          refine stC_h (g := g839) h843 rfl (by decide) fun w844 h844 => ?_
                          exact hJ _ _ ⟨g839, g842, g825, g823, rfl, h844.perm (perm_f 1 rfl (perm_f 0 rfl (perm_f 0 rfl (perm_f 0 rfl (perm_f 0 rfl (perm_f 0 rfl (.refl _)))))))⟩
                      · refine newC_h h826 fun g845 w846 h846 => ?_
                        refine samec_h (g := g3) (o := 0) h12 h846 ?_
                        refine samec_h (g := g1) (o := 0) h12 h846 ?_
                        refine gmPut_h (ek := ekI) (ev := evB) (k := 0) (y := (fRoot, (-1, 0))) mapB h846 fun w847 h847 => ?_
                        refine samec_h (g := g3) (o := 0) h12 h847 ?_
                        refine samec_h (g := g1) (o := 0) h12 h847 ?_
                        refine spl_book ?_
                        refine newBook_h (gB := g825) (gS := g823) h847 fun g849 w850 h850 => ?_
                        refine stC_h (g := g845) h850 rfl (by decide) fun w851 h851 => ?_
                        exact hJ _ _ ⟨g845, g849, g825, g823, rfl, h851.perm (perm_f 1 rfl (perm_f 0 rfl (perm_f 0 rfl (perm_f 0 rfl (perm_f 0 rfl (perm_f 0 rfl (.refl _)))))))⟩
                    · refine newC_h h824 fun g852 w853 h853 => ?_
                      refine samec_h (g := g3) (o := 0) h12 h853 ?_
                      refine samec_h (g := g1) (o := 0) h12 h853 ?_
                      refine mkGm_h ekI evB h853 fun g854 w855 h855 => ?_
                      refine samec_h (g := g3) (o := 0) h12 h855 ?_
                      refine samec_h (g := g1) (o := 0) h12 h855 ?_
                      refine gmPut_h (ek := ekI) (ev := evB) (k := 0) (y := (fRoot, (-1, 0))) mapB h855 fun w856 h856 => ?_
                      refine samec_h (g := g3) (o := 0) h12 h856 ?_
                      refine samec_h (g := g1) (o := 0) h12 h856 ?_
                      refine spl_book ?_
                      refine newBook_h (gB := g854) (gS := g823) h856 fun g858 w859 h859 => ?_
                      refine stC_h (g := g852) h859 rfl (by decide) fun w860 h860 => ?_
                      exact hJ _ _ ⟨g852, g858, g854, g823, rfl, h860.perm (perm_f 2 rfl (perm_f 0 rfl (perm_f 0 rfl (perm_f 0 rfl (perm_f 0 rfl (perm_f 0 rfl (.refl _)))))))⟩
                  · refine newC_h h607 fun g861 w862 h862 => ?_
                    refine samec_h (g := g3) (o := 0) h12 h862 ?_
                    refine samec_h (g := g1) (o := 0) h12 h862 ?_
                    refine ⟨?_, ?_⟩
                    · refine mkGm_h ekI evB h862 fun g863 w864 h864 => ?_
                      refine samec_h (g := g3) (o := 0) h12 h864 ?_
                      refine samec_h (g := g1) (o := 0) h12 h864 ?_
                      refine ⟨?_, ?_⟩
                      · refine gmPut_h (ek := ekI) (ev := evB) (k := 0) (y := (fRoot, (-1, 0))) mapB h864 fun w865 h865 => ?_
                        refine samec_h (g := g3) (o := 0) h12 h865 ?_
                        refine samec_h (g := g1) (o := 0) h12 h865 ?_
                        refine mkGm_h ekP evS h865 fun g866 w867 h867 => ?_
                        refine samec_h (g := g3) (o := 0) h12 h867 ?_
                        refine samec_h (g := g1) (o := 0) h12 h867 ?_
                        refine spl_book ?_
                        refine newBook_h (gB := g863) (gS := g866) h867 fun g869 w870 h870 => ?_
                        refine stC_h (g := g861) h870 rfl (by decide) fun w871 h871 => ?_
                        exact hJ _ _ ⟨g861, g869, g863, g866, rfl, h871.perm (perm_f 3 rfl (perm_f 0 rfl (perm_f 1 rfl (perm_f 0 rfl (perm_f 0 rfl (perm_f 0 rfl (.refl _)))))))⟩
                      · refine mkGm_h ekP evS h864 fun g872 w873 h873 => ?_
                        refine samec_h (g := g3) (o := 0) h12 h873 ?_
                        refine samec_h (g := g1) (o := 0) h12 h873 ?_
                        refine gmPut_h (ek := ekI) (ev := evB) (k := 0) (y := (fRoot, (-1, 0))) mapB h873 fun w874 h874 => ?_
                        refine samec_h (g := g3) (o := 0) h12 h874 ?_
                        refine samec_h (g := g1) (o := 0) h12 h874 ?_
                        refine spl_book ?_
                        refine newBook_h (gB := g863) (gS := g872) h874 fun g876 w877 h877 => ?_
                        refine stC_h (g := g861) h877 rfl (by decide) fun w878 h878 => ?_
                        exact hJ _ _ ⟨g861, g876, g863, g872, rfl, h878.perm (perm_f 3 rfl (perm_f 0 rfl (perm_f 1 rfl (perm_f 0 rfl (perm_f 0 rfl (perm_f 0 rfl (.refl _)))))))⟩
                    · refine mkGm_h ekP evS h862 fun g879 w880 h880 => ?_
                      refine samec_h (g := g3) (o := 0) h12 h880 ?_
                      refine samec_h (g := g1) (o := 0) h12 h880 ?_
                      refine mkGm_h ekI evB h880 fun g881 w882 h882 => ?_
                      refine samec_h (g := g3) (o := 0) h12 h882 ?_
                      refine samec_h (g := g1) (o := 0) h12 h882 ?_
                      refine gmPut_h (ek := ekI) (ev := evB) (k := 0) (y := (fRoot, (-1, 0))) mapB h882 fun w883 h883 => ?_
                      refine samec_h (g := g3) (o := 0) h12 h883 ?_
                      refine samec_h (g := g1) (o := 0) h12 h883 ?_
                      refine spl_book ?_
                      refine newBook_h (gB := g881) (gS := g879) h883 fun g885 w886 h886 => ?_
                      refine stC_h (g := g861) h886 rfl (by decide) fun w887 h887 => ?_
                      exact hJ _ _ ⟨g861, g885, g881, g879, rfl, h887.perm (perm_f 3 rfl (perm_f 0 rfl (perm_f 0 rfl (perm_f 0 rfl (perm_f 0 rfl (perm_f 0 rfl (.refl _)))))))⟩
              · refine ⟨?_, ?_⟩
                · refine mkGm_h ekP evS h607 fun g888 w889 h889 => ?_
                  refine samec_h (g := g3) (o := 0) h12 h889 ?_
                  refine samec_h (g := g1) (o := 0) h12 h889 ?_
                  refine ⟨?_, ?_⟩
                  · refine mkGm_h ekI evB h889 fun g890 w891 h891 => ?_
                    refine samec_h (g := g3) (o := 0) h12 h891 ?_
                    refine samec_h (g := g1) (o := 0) h12 h891 ?_
                    refine ⟨?_, ?_⟩
                    · refine spl_beg hRl ?_
                      refine samec_h (g := g3) (o := 0) h12 h891 ?_
                      refine samec_h (g := g1) (o := 0) h12 h891 ?_
                      refine ⟨?_, ?_⟩
                      · refine gmPut_h (ek := ekI) (ev := evB) (k := 0) (y := (fRoot, (-1, 0))) mapB h891 fun w894 h894 => ?_
                        refine samec_h (g := g3) (o := 0) h12 h894 ?_
                        refine samec_h (g := g1) (o := 0) h12 h894 ?_
                        refine ⟨?_, ?_⟩
                        · refine spl_book ?_
                          refine ⟨?_, ?_⟩
                          · refine newBook_h (gB := g890) (gS := g888) h894 fun g896 w897 h897 => ?_
                            refine newC_h h897 fun g898 w899 h899 => ?_
                            refine samec_h (g := g3) (o := 0) h12 h899 ?_
                            refine samec_h (g := g1) (o := 0) h12 h899 ?_
                            refine stC_h (g := g898) h899 rfl (by decide) fun w900 h900 => ?_
                            exact hJ _ _ ⟨g898, g896, g890, g888, rfl, h900.perm (perm_f 0 rfl (perm_f 0 rfl (perm_f 0 rfl (perm_f 0 rfl (perm_f 0 rfl (perm_f 0 rfl (.refl _)))))))⟩
                          · refine newC_h h894 fun g901 w902 h902 => ?_
                            refine samec_h (g := g3) (o := 0) h12 h902 ?_
                            refine samec_h (g := g1) (o := 0) h12 h902 ?_
                            refine newBook_h (gB := g890) (gS := g888) h902 fun g903 w904 h904 => ?_
                            refine stC_h (g := g901) h904 rfl (by decide) fun w905 h905 => ?_
                            exact hJ _ _ ⟨g901, g903, g890, g888, rfl, h905.perm (perm_f 1 rfl (perm_f 0 rfl (perm_f 0 rfl (perm_f 0 rfl (perm_f 0 rfl (perm_f 0 rfl (.refl _)))))))⟩
                        · refine newC_h h894 fun g906 w907 h907 => ?_
                          refine samec_h (g := g3) (o := 0) h12 h907 ?_
                          refine samec_h (g := g1) (o := 0) h12 h907 ?_
                          refine spl_book ?_
                          refine newBook_h (gB := g890) (gS := g888) h907 fun g909 w910 h910 => ?_
                          refine stC_h (g := g906) h910 rfl (by decide) fun w911 h911 => ?_
                          exact hJ _ _ ⟨g906, g909, g890, g888, rfl, h911.perm (perm_f 1 rfl (perm_f 0 rfl (perm_f 0 rfl (perm_f 0 rfl (perm_f 0 rfl (perm_f 0 rfl (.refl _)))))))⟩
                      · refine newC_h h891 fun g912 w913 h913 => ?_
                        refine samec_h (g := g3) (o := 0) h12 h913 ?_
                        refine samec_h (g := g1) (o := 0) h12 h913 ?_
                        refine gmPut_h (ek := ekI) (ev := evB) (k := 0) (y := (fRoot, (-1, 0))) mapB h913 fun w914 h914 => ?_
                        refine samec_h (g := g3) (o := 0) h12 h914 ?_
                        refine samec_h (g := g1) (o := 0) h12 h914 ?_
                        refine spl_book ?_
                        refine newBook_h (gB := g890) (gS := g888) h914 fun g916 w917 h917 => ?_
                        refine stC_h (g := g912) h917 rfl (by decide) fun w918 h918 => ?_
                        exact hJ _ _ ⟨g912, g916, g890, g888, rfl, h918.perm (perm_f 1 rfl (perm_f 0 rfl (perm_f 0 rfl (perm_f 0 rfl (perm_f 0 rfl (perm_f 0 rfl (.refl _)))))))⟩
                    · refine newC_h h891 fun g919 w920 h920 => ?_
                      refine samec_h (g := g3) (o := 0) h12 h920 ?_
                      refine samec_h (g := g1) (o := 0) h12 h920 ?_
                      refine spl_beg hRl ?_
                      refine samec_h (g := g3) (o := 0) h12 h920 ?_
                      refine samec_h (g := g1) (o := 0) h12 h920 ?_
                      refine gmPut_h (ek := ekI) (ev := evB) (k := 0) (y := (fRoot, (-1, 0))) mapB h920 fun w923 h923 => ?_
                      refine samec_h (g := g3) (o := 0) h12 h923 ?_
                      refine samec_h (g := g1) (o := 0) h12 h923 ?_
                      refine spl_book ?_
                      refine newBook_h (gB := g890) (gS := g888) h923 fun g925 w926 h926 => ?_
                      refine stC_h (g := g919) h926 rfl (by decide) fun w927 h927 => ?_
                      exact hJ _ _ ⟨g919, g925, g890, g888, rfl, h927.perm (perm_f 1 rfl (perm_f 0 rfl (perm_f 0 rfl (perm_f 0 rfl (perm_f 0 rfl (perm_f 0 rfl (.refl _)))))))⟩
                  · refine ⟨?_, ?_⟩
                    · refine spl_beg hRl ?_
                      refine samec_h (g := g3) (o := 0) h12 h889 ?_
                      refine samec_h (g := g1) (o := 0) h12 h889 ?_
                      refine ⟨?_, ?_⟩
                      · refine mkGm_h ekI evB h889 fun g930 w931 h931 => ?_
                        refine samec_h (g := g3) (o := 0) h12 h931 ?_
                        refine samec_h (g := g1) (o := 0) h12 h931 ?_
                        refine ⟨?_, ?_⟩
                        · refine gmPut_h (ek := ekI) (ev := evB) (k := 0) (y := (fRoot, (-1, 0))) mapB h931 fun w932 h932 => ?_
                          refine samec_h (g := g3) (o := 0) h12 h932 ?_
                          refine samec_h (g := g1) (o := 0) h12 h932 ?_
                          refine ⟨?_, ?_⟩
                          · refine spl_book ?_
                            refine ⟨?_, ?_⟩
                            · refine newBook_h (gB := g930) (gS := g888) h932 fun g934 w935 h935 => ?_
                              refine newC_h h935 fun g936 w937 h937 => ?_
                              refine samec_h (g := g3) (o := 0) h12 h937 ?_
                              refine samec_h (g := g1) (o := 0) h12 h937 ?_
                              refine stC_h (g := g936) h937 rfl (by decide) fun w938 h938 => ?_
                              exact hJ _ _ ⟨g936, g934, g930, g888, rfl, h938.perm (perm_f 0 rfl (perm_f 0 rfl (perm_f 0 rfl (perm_f 0 rfl (perm_f 0 rfl (perm_f 0 rfl (.refl _)))))))⟩
                            · refine newC_h h932 fun g939 w940 h940 => ?_
                              refine samec_h (g := g3) (o := 0) h12 h940 ?_
                              refine samec_h (g := g1) (o := 0) h12 h940 ?_
                              refine newBook_h (gB := g930) (gS := g888) h940 fun g941 w942 h942 => ?_
                              refine stC_h (g := g939) h942 rfl (by decide) fun w943 h943 => ?_
                              exact hJ _ _ ⟨g939, g941, g930, g888, rfl, h943.perm (perm_f 1 rfl (perm_f 0 rfl (perm_f 0 rfl (perm_f 0 rfl (perm_f 0 rfl (perm_f 0 rfl (.refl _)))))))⟩
                          · refine newC_h h932 fun g944 w945 h945 => ?_
                            refine samec_h (g := g3) (o := 0) h12 h945 ?_
                            refine samec_h (g := g1) (o := 0) h12 h945 ?_
                            refine spl_book ?_
                            refine newBook_h (gB := g930) (gS := g888) h945 fun g947 w948 h948 => ?_
                            refine stC_h (g := g944) h948 rfl (by decide) fun w949 h949 => ?_
                            exact hJ _ _ ⟨g944, g947, g930, g888, rfl, h949.perm (perm_f 1 rfl (perm_f 0 rfl (perm_f 0 rfl (perm_f 0 rfl (perm_f 0 rfl (perm_f 0 rfl (.refl _)))))))⟩
                        · refine newC_h h931 fun g950 w951 h951 => ?_
                          refine samec_h (g := g3) (o := 0) h12 h951 ?_
                          refine samec_h (g := g1) (o := 0) h12 h951 ?_
                          refine gmPut_h (ek := ekI) (ev := evB) (k := 0) (y := (fRoot, (-1, 0))) mapB h951 fun w952 h952 => ?_
                          refine samec_h (g := g3) (o := 0) h12 h952 ?_
                          refine samec_h (g := g1) (o := 0) h12 h952 ?_
                          refine spl_book ?_
                          refine newBook_h (gB := g930) (gS := g888) h952 fun g954 w955 h955 => ?_
                          refine stC_h (g := g950) h955 rfl (by decide) fun w956 h956 => ?_
                          exact hJ _ _ ⟨g950, g954, g930, g888, rfl, h956.perm (perm_f 1 rfl (perm_f 0 rfl (perm_f 0 rfl (perm_f 0 rfl (perm_f 0 rfl (perm_f 0 rfl (.refl _)))))))⟩
                      · refine newC_h h889 fun g957 w958 h958 => ?_
                        refine samec_h (g := g3) (o := 0) h12 h958 ?_
                        refine samec_h (g := g1) (o := 0) h12 h958 ?_
                        refine mkGm_h ekI evB h958 fun g959 w960 h960 => ?_
                        refine samec_h (g := g3) (o := 0) h12 h960 ?_
                        refine samec_h (g := g1) (o := 0) h12 h960 ?_
                        refine gmPut_h (ek := ekI) (ev := evB) (k := 0) (y := (fRoot, (-1, 0))) mapB h960 fun w961 h961 => ?_
                        refine samec_h (g := g3) (o := 0) h12 h961 ?_
                        refine samec_h (g := g1) (o := 0) h12 h961 ?_
                        refine spl_book ?_
                        refine newBook_h (gB := g959) (gS := g888) h961 fun g963 w964 h964 => ?_
                        refine stC_h (g := g957) h964 rfl (by decide) fun w965 h965 => ?_
                        exact hJ _ _ ⟨g957, g963, g959, g888, rfl, h965.perm (perm_f 2 rfl (perm_f 0 rfl (perm_f 0 rfl (perm_f 0 rfl (perm_f 0 rfl (perm_f 0 rfl (.refl _)))))))⟩
                    · refine newC_h h889 fun g966 w967 h967 => ?_
                      refine samec_h (g := g3) (o := 0) h12 h967 ?_
                      refine samec_h (g := g1) (o := 0) h12 h967 ?_
                      refine ⟨?_, ?_⟩
                      · refine mkGm_h ekI evB h967 fun g968 w969 h969 => ?_
                        refine samec_h (g := g3) (o := 0) h12 h969 ?_
                        refine samec_h (g := g1) (o := 0) h12 h969 ?_
                        refine spl_beg hRl ?_
                        refine samec_h (g := g3) (o := 0) h12 h969 ?_
                        refine samec_h (g := g1) (o := 0) h12 h969 ?_
                        refine gmPut_h (ek := ekI) (ev := evB) (k := 0) (y := (fRoot, (-1, 0))) mapB h969 fun w972 h972 => ?_
                        refine samec_h (g := g3) (o := 0) h12 h972 ?_
                        refine samec_h (g := g1) (o := 0) h12 h972 ?_
                        refine spl_book ?_
                        refine newBook_h (gB := g968) (gS := g888) h972 fun g974 w975 h975 => ?_
                        refine stC_h (g := g966) h975 rfl (by decide) fun w976 h976 => ?_
                        exact hJ _ _ ⟨g966, g974, g968, g888, rfl, h976.perm (perm_f 2 rfl (perm_f 0 rfl (perm_f 0 rfl (perm_f 0 rfl (perm_f 0 rfl (perm_f 0 rfl (.refl _)))))))⟩
                      · refine spl_beg hRl ?_
                        refine samec_h (g := g3) (o := 0) h12 h967 ?_
                        refine samec_h (g := g1) (o := 0) h12 h967 ?_
                        refine mkGm_h ekI evB h967 fun g979 w980 h980 => ?_
                        refine samec_h (g := g3) (o := 0) h12 h980 ?_
                        refine samec_h (g := g1) (o := 0) h12 h980 ?_
                        refine gmPut_h (ek := ekI) (ev := evB) (k := 0) (y := (fRoot, (-1, 0))) mapB h980 fun w981 h981 => ?_
                        refine samec_h (g := g3) (o := 0) h12 h981 ?_
                        refine samec_h (g := g1) (o := 0) h12 h981 ?_
                        refine spl_book ?_
                        refine newBook_h (gB := g979) (gS := g888) h981 fun g983 w984 h984 => ?_
                        refine stC_h (g := g966) h984 rfl (by decide) fun w985 h985 => ?_
                        exact hJ _ _ ⟨g966, g983, g979, g888, rfl, h985.perm (perm_f 2 rfl (perm_f 0 rfl (perm_f 0 rfl (perm_f 0 rfl (perm_f 0 rfl (perm_f 0 rfl (.refl _)))))))⟩
                · refine newC_h h607 fun g986 w987 h987 => ?_
                  refine samec_h (g := g3) (o := 0) h12 h987 ?_
                  refine samec_h (g := g1) (o := 0) h12 h987 ?_
                  refine ⟨?_, ?_⟩
                  · refine mkGm_h ekI evB h987 fun g988 w989 h989 => ?_
                    refine samec_h (g := g3) (o := 0) h12 h989 ?_
                    refine samec_h (g := g1) (o := 0) h12 h989 ?_
                    refine ⟨?_, ?_⟩
                    · refine spl_beg hRl ?_
                      refine samec_h (g := g3) (o := 0) h12 h989 ?_
                      refine samec_h (g := g1) (o := 0) h12 h989 ?_
                      refine ⟨?_, ?_⟩
                      · refine gmPut_h (ek := ekI) (ev := evB) (k := 0) (y := (fRoot, (-1, 0))) mapB h989 fun w992 h992 => ?_
                        refine samec_h (g := g3) (o := 0) h12 h992 ?_
                        refine samec_h (g := g1) (o := 0) h12 h992 ?_
                        refine mkGm_h ekP evS h992 fun g993 w994 h994 => ?_
                        refine samec_h (g := g3) (o := 0) h12 h994 ?_
                        refine samec_h (g := g1) (o := 0) h12 h994 ?_
                        refine spl_book ?_
                        refine newBook_h (gB := g988) (gS := g993) h994 fun g996 w997 h997 => ?_
                        refine stC_h (g := g986) h997 rfl (by decide) fun w998 h998 => ?_
                        exact hJ _ _ ⟨g986, g996, g988, g993, rfl, h998.perm (perm_f 3 rfl (perm_f 0 rfl (perm_f 1 rfl (perm_f 0 rfl (perm_f 0 rfl (perm_f 0 rfl (.refl _)))))))⟩
                      · refine mkGm_h ekP evS h989 fun g999 w1000 h1000 => ?_
                        refine samec_h (g := g3) (o := 0) h12 h1000 ?_
                        refine samec_h (g := g1) (o := 0) h12 h1000 ?_
                        refine gmPut_h (ek := ekI) (ev := evB) (k := 0) (y := (fRoot, (-1, 0))) mapB h1000 fun w1001 h1001 => ?_
                        refine samec_h (g := g3) (o := 0) h12 h1001 ?_
                        refine samec_h (g := g1) (o := 0) h12 h1001 ?_
                        refine spl_book ?_
                        refine newBook_h (gB := g988) (gS := g999) h1001 fun g1003 w1004 h1004 => ?_
                        refine stC_h (g := g986) h1004 rfl (by decide) fun w1005 h1005 => ?_
                        exact hJ _ _ ⟨g986, g1003, g988, g999, rfl, h1005.perm (perm_f 3 rfl (perm_f 0 rfl (perm_f 1 rfl (perm_f 0 rfl (perm_f 0 rfl (perm_f 0 rfl (.refl _)))))))⟩
                    · refine mkGm_h ekP evS h989 fun g1006 w1007 h1007 => ?_
                      refine samec_h (g := g3) (o := 0) h12 h1007 ?_
                      refine samec_h (g := g1) (o := 0) h12 h1007 ?_
                      refine spl_beg hRl ?_
                      refine samec_h (g := g3) (o := 0) h12 h1007 ?_
                      refine samec_h (g := g1) (o := 0) h12 h1007 ?_
                      refine gmPut_h (ek := ekI) (ev := evB) (k := 0) (y := (fRoot, (-1, 0))) mapB h1007 fun w1010 h1010 => ?_
                      refine samec_h (g := g3) (o := 0) h12 h1010 ?_
                      refine samec_h (g := g1) (o := 0) h12 h1010 ?_
                      refine spl_book ?_
                      refine newBook_h (gB := g988) (gS := g1006) h1010 fun g1012 w1013 h1013 => ?_
                      refine stC_h (g := g986) h1013 rfl (by decide) fun w1014 h1014 => ?_
                      exact hJ _ _ ⟨g986, g1012, g988, g1006, rfl, h1014.perm (perm_f 3 rfl (perm_f 0 rfl (perm_f 1 rfl (perm_f 0 rfl (perm_f 0 rfl (perm_f 0 rfl (.refl _)))))))⟩
                  · refine ⟨?_, ?_⟩
                    · refine spl_beg hRl ?_
                      refine samec_h (g := g3) (o := 0) h12 h987 ?_
                      refine samec_h (g := g1) (o := 0) h12 h987 ?_
                      refine ⟨?_, ?_⟩
                      · refine mkGm_h ekI evB h987 fun g1017 w1018 h1018 => ?_
                        refine samec_h (g := g3) (o := 0) h12 h1018 ?_
                        refine samec_h (g := g1) (o := 0) h12 h1018 ?_
                        refine ⟨?_, ?_⟩
                        · refine gmPut_h (ek := ekI) (ev := evB) (k := 0) (y := (fRoot, (-1, 0))) mapB h1018 fun w1019 h1019 => ?_
                          refine samec_h (g := g3) (o := 0) h12 h1019 ?_
                          refine samec_h (g := g1) (o := 0) h12 h1019 ?_
                          refine mkGm_h ekP evS h1019 fun g1020 w1021 h1021 => ?_
                          refine samec_h (g := g3) (o := 0) h12 h1021 ?_
                          refine samec_h (g := g1) (o := 0) h12 h1021 ?_
                          refine spl_book ?_
                          refine newBook_h (gB := g1017) (gS := g1020) h1021 fun g1023 w1024 h1024 => ?_
                          refine stC_h (g := g986) h1024 rfl (by decide) fun w1025 h1025 => ?_
                          exact hJ _ _ ⟨g986, g1023, g1017, g1020, rfl, h1025.perm (perm_f 3 rfl (perm_f 0 rfl (perm_f 1 rfl (perm_f 0 rfl (perm_f 0 rfl (perm_f 0 rfl (.refl _)))))))⟩
                        · refine mkGm_h ekP evS h1018 fun g1026 w1027 h1027 => ?_
                          refine samec_h (g := g3) (o := 0) h12 h1027 ?_
                          refine samec_h (g := g1) (o := 0) h12 h1027 ?_
                          refine gmPut_h (ek := ekI) (ev := evB) (k := 0) (y := (fRoot, (-1, 0))) mapB h1027 fun w1028 h1028 => ?_
                          refine samec_h (g := g3) (o := 0) h12 h1028 ?_
                          refine samec_h (g := g1) (o := 0) h12 h1028 ?_
                          refine spl_book ?_
                          refine newBook_h (gB := g1017) (gS := g1026) h1028 fun g1030 w1031 h1031 => ?_
                          refine stC_h (g := g986) h1031 rfl (by decide) fun w1032 h1032 => ?_
                          exact hJ _ _ ⟨g986, g1030, g1017, g1026, rfl, h1032.perm (perm_f 3 rfl (perm_f 0 rfl (perm_f 1 rfl (perm_f 0 rfl (perm_f 0 rfl (perm_f 0 rfl (.refl _)))))))⟩
                      · refine mkGm_h ekP evS h987 fun g1033 w1034 h1034 => ?_
                        refine samec_h (g := g3) (o := 0) h12 h1034 ?_
                        refine samec_h (g := g1) (o := 0) h12 h1034 ?_
                        refine mkGm_h ekI evB h1034 fun g1035 w1036 h1036 => ?_
                        refine samec_h (g := g3) (o := 0) h12 h1036 ?_
                        refine samec_h (g := g1) (o := 0) h12 h1036 ?_
                        refine gmPut_h (ek := ekI) (ev := evB) (k := 0) (y := (fRoot, (-1, 0))) mapB h1036 fun w1037 h1037 => ?_
                        refine samec_h (g := g3) (o := 0) h12 h1037 ?_
                        refine samec_h (g := g1) (o := 0) h12 h1037 ?_
                        refine spl_book ?_
                        refine newBook_h (gB := g1035) (gS := g1033) h1037 fun g1039 w1040 h1040 => ?_
                        refine stC_h (g := g986) h1040 rfl (by decide) fun w1041 h1041 => ?_
                        exact hJ _ _ ⟨g986, g1039, g1035, g1033, rfl, h1041.perm (perm_f 3 rfl (perm_f 0 rfl (perm_f 0 rfl (perm_f 0 rfl (perm_f 0 rfl (perm_f 0 rfl (.refl _)))))))⟩
                    · refine mkGm_h ekP evS h987 fun g1042 w1043 h1043 => ?_
                      refine samec_h (g := g3) (o := 0) h12 h1043 ?_
                      refine samec_h (g := g1) (o := 0) h12 h1043 ?_
                      refine ⟨?_, ?_⟩
                      · refine mkGm_h ekI evB h1043 fun g1044 w1045 h1045 => ?_
                        refine samec_h (g := g3) (o := 0) h12 h1045 ?_
                        refine samec_h (g := g1) (o := 0) h12 h1045 ?_
                        refine spl_beg hRl ?_
                        refine samec_h (g := g3) (o := 0) h12 h1045 ?_
                        refine samec_h (g := g1) (o := 0) h12 h1045 ?_
                        refine gmPut_h (ek := ekI) (ev := evB) (k := 0) (y := (fRoot, (-1, 0))) mapB h1045 fun w1048 h1048 => ?_
                        refine samec_h (g := g3) (o := 0) h12 h1048 ?_
                        refine samec_h (g := g1) (o := 0) h12 h1048 ?_
                        refine spl_book ?_
                        refine newBook_h (gB := g1044) (gS := g1042) h1048 fun g1050 w1051 h1051 => ?_
                        refine stC_h (g := g986) h1051 rfl (by decide) fun w1052 h1052 => ?_
                        exact hJ _ _ ⟨g986, g1050, g1044, g1042, rfl, h1052.perm (perm_f 3 rfl (perm_f 0 rfl (perm_f 0 rfl (perm_f 0 rfl (perm_f 0 rfl (perm_f 0 rfl (.refl _)))))))⟩
                      · refine spl_beg hRl ?_
                        refine samec_h (g := g3) (o := 0) h12 h1043 ?_
                        refine samec_h (g := g1) (o := 0) h12 h1043 ?_
                        refine mkGm_h ekI evB h1043 fun g1055 w1056 h1056 => ?_
                        refine samec_h (g := g3) (o := 0) h12 h1056 ?_
                        refine samec_h (g := g1) (o := 0) h12 h1056 ?_
                        refine gmPut_h (ek := ekI) (ev := evB) (k := 0) (y := (fRoot, (-1, 0))) mapB h1056 fun w1057 h1057 => ?_
                        refine samec_h (g := g3) (o := 0) h12 h1057 ?_
                        refine samec_h (g := g1) (o := 0) h12 h1057 ?_
                        refine spl_book ?_
                        refine newBook_h (gB := g1055) (gS := g1042) h1057 fun g1059 w1060 h1060 => ?_
                        refine stC_h (g := g986) h1060 rfl (by decide) fun w1061 h1061 => ?_
                        exact hJ _ _ ⟨g986, g1059, g1055, g1042, rfl, h1061.perm (perm_f 3 rfl (perm_f 0 rfl (perm_f 0 rfl (perm_f 0 rfl (perm_f 0 rfl (perm_f 0 rfl (.refl _)))))))⟩
          · refine ⟨?_, ?_⟩
            · refine mkGm_h ekP evS h372 fun g1062 w1063 h1063 => ?_
              refine samec_h (g := g3) (o := 0) h12 h1063 ?_
              refine samec_h (g := g1) (o := 0) h12 h1063 ?_
              refine ⟨?_, ?_⟩
              · refine mkGm_h ekI evB h1063 fun g1064 w1065 h1065 => ?_
                refine samec_h (g := g3) (o := 0) h12 h1065 ?_
                refine samec_h (g := g1) (o := 0) h12 h1065 ?_
                refine ⟨?_, ?_⟩
                · refine world_s fun w1067 he => ?_
                  have h1067 := ext_of h1065 he
                  refine samec_h (g := g3) (o := 0) h12 h1067 ?_
                  refine samec_h (g := g1) (o := 0) h12 h1067 ?_
                  refine ⟨?_, ?_⟩
                  · refine spl_beg hRl ?_
                    refine samec_h (g := g3) (o := 0) h12 h1067 ?_
                    refine samec_h (g := g1) (o := 0) h12 h1067 ?_
                    refine ⟨?_, ?_⟩
                    · refine gmPut_h (ek := ekI) (ev := evB) (k := 0) (y := (fRoot, (-1, 0))) mapB h1067 fun w1070 h1070 => ?_
                      refine samec_h (g := g3) (o := 0) h12 h1070 ?_
                      refine samec_h (g := g1) (o := 0) h12 h1070 ?_
                      refine ⟨?_, ?_⟩
                      · refine spl_book ?_
                        refine ⟨?_, ?_⟩
                        · refine newBook_h (gB := g1064) (gS := g1062) h1070 fun g1072 w1073 h1073 => ?_
                          refine newC_h h1073 fun g1074 w1075 h1075 => ?_
                          refine samec_h (g := g3) (o := 0) h12 h1075 ?_
                          refine samec_h (g := g1) (o := 0) h12 h1075 ?_
                          refine stC_h (g := g1074) h1075 rfl (by decide) fun w1076 h1076 => ?_
                          exact hJ _ _ ⟨g1074, g1072, g1064, g1062, rfl, h1076.perm (perm_f 0 rfl (perm_f 0 rfl (perm_f 0 rfl (perm_f 0 rfl (perm_f 0 rfl (perm_f 0 rfl (.refl _)))))))⟩
                        · refine newC_h h1070 fun g1077 w1078 h1078 => ?_
                          refine samec_h (g := g3) (o := 0) h12 h1078 ?_
                          refine samec_h (g := g1) (o := 0) h12 h1078 ?_
                          refine newBook_h (gB := g1064) (gS := g1062) h1078 fun g1079 w1080 h1080 => ?_
                          refine stC_h (g := g1077) h1080 rfl (by decide) fun w1081 h1081 => ?_
                          exact hJ _ _ ⟨g1077, g1079, g1064, g1062, rfl, h1081.perm (perm_f 1 rfl (perm_f 0 rfl (perm_f 0 rfl (perm_f 0 rfl (perm_f 0 rfl (perm_f 0 rfl (.refl _)))))))⟩
                      · refine newC_h h1070 fun g1082 w1083 h1083 => ?_
                        refine samec_h (g := g3) (o := 0) h12 h1083 ?_
                        refine samec_h (g := g1) (o := 0) h12 h1083 ?_
                        refine spl_book ?_
                        refine newBook_h (gB := g1064) (gS := g1062) h1083 fun g1085 w1086 h1086 => ?_
                        refine stC_h (g := g1082) h1086 rfl (by decide) fun w1087 h1087 => ?_
                        exact hJ _ _ ⟨g1082, g1085, g1064, g1062, rfl, h1087.perm (perm_f 1 rfl (perm_f 0 rfl (perm_f 0 rfl (perm_f 0 rfl (perm_f 0 rfl (perm_f 0 rfl (.refl _)))))))⟩
                    · refine newC_h h1067 fun g1088 w1089 h1089 => ?_
                      refine samec_h (g := g3) (o := 0) h12 h1089 ?_
                      refine samec_h (g := g1) (o := 0) h12 h1089 ?_
                      refine gmPut_h (ek := ekI) (ev := evB) (k := 0) (y := (fRoot, (-1, 0))) mapB h1089 fun w1090 h1090 => ?_
                      refine samec_h (g := g3) (o := 0) h12 h1090 ?_
                      refine samec_h (g := g1) (o := 0) h12 h1090 ?_
                      refine spl_book ?_
                      refine newBook_h (gB := g1064) (gS := g1062) h1090 fun g1092 w1093 h1093 => ?_
                      refine stC_h (g := g1088) h1093 rfl (by decide) fun w1094 h1094 => ?_
                      exact hJ _ _ ⟨g1088, g1092, g1064, g1062, rfl, h1094.perm (perm_f 1 rfl (perm_f 0 rfl (perm_f 0 rfl (perm_f 0 rfl (perm_f 0 rfl (perm_f 0 rfl (.refl _)))))))⟩
                  · refine newC_h h1067 fun g1095 w1096 h1096 => ?_
                    refine samec_h (g := g3) (o := 0) h12 h1096 ?_
                    refine samec_h (g := g1) (o := 0) h12 h1096 ?_
                    refine spl_beg hRl ?_
                    refine samec_h (g := g3) (o := 0) h12 h1096 ?_
                    refine samec_h (g := g1) (o := 0) h12 h1096 ?_
                    refine gmPut_h (ek := ekI) (ev := evB) (k := 0) (y := (fRoot, (-1, 0))) mapB h1096 fun w1099 h1099 => ?_
                    refine samec_h (g := g3) (o := 0) h12 h1099 ?_
                    refine samec_h (g := g1) (o := 0) h12 h1099 ?_
                    refine spl_book ?_
                    refine newBook_h (gB := g1064) (gS := g1062) h1099 fun g1101 w1102 h1102 => ?_
                    refine stC_h (g := g1095) h1102 rfl (by decide) fun w1103 h1103 => ?_
                    exact hJ _ _ ⟨g1095, g1101, g1064, g1062, rfl, h1103.perm (perm_f 1 rfl (perm_f 0 rfl (perm_f 0 rfl (perm_f 0 rfl (perm_f 0 rfl (perm_f 0 rfl (.refl _)))))))⟩
                · refine newC_h h1065 fun g1104 w1105 h1105 => ?_
                  refine samec_h (g := g3) (o := 0) h12 h1105 ?_
                  refine samec_h (g := g1) (o := 0) h12 h1105 ?_
                  refine world_s fun w1107 he => ?_
                  have h1107 := ext_of h1105 he
                  refine samec_h (g := g3) (o := 0) h12 h1107 ?_
                  refine samec_h (g := g1) (o := 0) h12 h1107 ?_
                  refine spl_beg hRl ?_
                  refine samec_h (g := g3) (o := 0) h12 h1107 ?_
                  refine samec_h (g := g1) (o := 0) h12 h1107 ?_
                  refine gmPut_h (ek := ekI) (ev := evB) (k := 0) (y := (fRoot, (-1, 0))) mapB h1107 fun w1110 h1110 => ?_
                  refine samec_h (g := g3) (o := 0) h12 h1110 ?_
                  refine samec_h (g := g1) (o := 0) h12 h1110 ?_
                  refine spl_book ?_
                  refine newBook_h (gB := g1064) (gS := g1062) h1110 fun g1112 w1113 h1113 => ?_
                  refine stC_h (g := g1104) h1113 rfl (by decide) fun w1114 h1114 => ?_
                  exact hJ _ _ ⟨g1104, g1112, g1064, g1062, rfl, h1114.perm (perm_f 1 rfl (perm_f 0 rfl (perm_f 0 rfl (perm_f 0 rfl (perm_f 0 rfl (perm_f 0 rfl (.refl _)))))))⟩
              · refine ⟨?_, ?_⟩
                · refine world_s fun w1116 he => ?_
                  have h1116 := ext_of h1063 he
                  refine samec_h (g := g3) (o := 0) h12 h1116 ?_
                  refine samec_h (g := g1) (o := 0) h12 h1116 ?_
                  refine ⟨?_, ?_⟩
                  · refine mkGm_h ekI evB h1116 fun g1117 w1118 h1118 => ?_
                    refine samec_h (g := g3) (o := 0) h12 h1118 ?_
                    refine samec_h (g := g1) (o := 0) h12 h1118 ?_
                    refine ⟨?_, ?_⟩
                    · refine spl_beg hRl ?_
                      refine samec_h (g := g3) (o := 0) h12 h1118 ?_
                      refine samec_h (g := g1) (o := 0) h12 h1118 ?_
                      refine ⟨?_, ?_⟩
                      · refine gmPut_h (ek := ekI) (ev := evB) (k := 0) (y := (fRoot, (-1, 0))) mapB h1118 fun w1121 h1121 => ?_
                        refine samec_h (g := g3) (o := 0) h12 h1121 ?_
                        refine samec_h (g := g1) (o := 0) h12 h1121 ?_
                        refine ⟨?_, ?_⟩
                        · refine spl_book ?_
                          refine ⟨?_, ?_⟩
                          · refine newBook_h (gB := g1117) (gS := g1062) h1121 fun g1123 w1124 h1124 => ?_
                            refine newC_h h1124 fun g1125 w1126 h1126 => ?_
                            refine samec_h (g := g3) (o := 0) h12 h1126 ?_
                            refine samec_h (g := g1) (o := 0) h12 h1126 ?_
                            refine stC_h (g := g1125) h1126 rfl (by decide) fun w1127 h1127 => ?_
                            exact hJ _ _ ⟨g1125, g1123, g1117, g1062, rfl, h1127.perm (perm_f 0 rfl (perm_f 0 rfl (perm_f 0 rfl (perm_f 0 rfl (perm_f 0 rfl (perm_f 0 rfl (.refl _)))))))⟩
                          · refine newC_h h1121 fun g1128 w1129 h1129 => ?_
                            refine samec_h (g := g3) (o := 0) h12 h1129 ?_
                            refine samec_h (g := g1) (o := 0) h12 h1129 ?_
                            refine newBook_h (gB := g1117) (gS := g1062) h1129 fun g1130 w1131 h1131 => ?_
                            refine stC_h (g := g1128) h1131 rfl (by decide) fun w1132 h1132 => ?_
                            exact hJ _ _ ⟨g1128, g1130, g1117, g1062, rfl, h1132.perm (perm_f 1 rfl (perm_f 0 rfl (perm_f 0 rfl (perm_f 0 rfl (perm_f 0 rfl (perm_f 0 rfl (.refl _)))))))⟩
                        · refine newC_h h1121 fun g1133 w1134 h1134 => ?_
                          refine samec_h (g := g3) (o := 0) h12 h1134 ?_
                          refine samec_h (g := g1) (o := 0) h12 h1134 ?_
                          refine spl_book ?_
                          refine newBook_h (gB := g1117) (gS := g1062) h1134 fun g1136 w1137 h1137 => ?_
                          refine stC_h (g := g1133) h1137 rfl (by decide) fun w1138 h1138 => ?_
                          exact hJ _ _ ⟨g1133, g1136, g1117, g1062, rfl, h1138.perm (perm_f 1 rfl (perm_f 0 rfl (perm_f 0 rfl (perm_f 0 rfl (perm_f 0 rfl (perm_f 0 rfl (.refl _)))))))⟩
                      · refine newC_h h1118 fun g1139 w1140 h1140 => ?_
                        refine samec_h (g := g3) (o := 0) h12 h1140 ?_
                        refine samec_h (g := g1) (o := 0) h12 h1140 ?_
                        refine gmPut_h (ek := ekI) (ev := evB) (k := 0) (y := (fRoot, (-1, 0))) mapB h1140 fun w1141 h1141 => ?_
                        refine samec_h (g := g3) (o := 0) h12 h1141 ?_
                        refine samec_h (g := g1) (o := 0) h12 h1141 ?_
                        refine spl_book ?_
                        refine newBook_h (gB := g1117) (gS := g1062) h1141 fun g1143 w1144 h1144 => ?_
                        refine stC_h (g := g1139) h1144 rfl (by decide) fun w1145 h1145 => ?_
                        exact hJ _ _ ⟨g1139, g1143, g1117, g1062, rfl, h1145.perm (perm_f 1 rfl (perm_f 0 rfl (perm_f 0 rfl (perm_f 0 rfl (perm_f 0 rfl (perm_f 0 rfl (.refl _)))))))⟩
                    · refine newC_h h1118 fun g1146 w1147 h1147 => ?_
                      refine samec_h (g := g3) (o := 0) h12 h1147 ?_
                      refine samec_h (g := g1) (o := 0) h12 h1147 ?_
                      refine spl_beg hRl ?_
                      refine samec_h (g := g3) (o := 0) h12 h1147 ?_
                      refine samec_h (g := g1) (o := 0) h12 h1147 ?_
                      refine gmPut_h (ek := ekI) (ev := evB) (k := 0) (y := (fRoot, (-1, 0))) mapB h1147 fun w1150 h1150 => ?_
                      refine samec_h (g := g3) (o := 0) h12 h1150 ?_
                      refine samec_h (g := g1) (o := 0) h12 h1150 ?_
                      refine spl_book ?_
                      refine newBook_h (gB := g1117) (gS := g1062) h1150 fun g1152 w1153 h1153 => ?_
                      refine stC_h (g := g1146) h1153 rfl (by decide) fun w1154 h1154 => ?_
                      exact hJ _ _ ⟨g1146, g1152, g1117, g1062, rfl, h1154.perm (perm_f 1 rfl (perm_f 0 rfl (perm_f 0 rfl (perm_f 0 rfl (perm_f 0 rfl (perm_f 0 rfl (.refl _)))))))⟩
                  · refine ⟨?_, ?_⟩
                    · refine spl_beg hRl ?_
                      refine samec_h (g := g3) (o := 0) h12 h1116 ?_
                      refine samec_h (g := g1) (o := 0) h12 h1116 ?_
                      refine ⟨?_, ?_⟩
                      · refine mkGm_h ekI evB h1116 fun g1157 w1158 h1158 => ?_
                        refine samec_h (g := g3) (o := 0) h12 h1158 ?_
                        refine samec_h (g := g1) (o := 0) h12 h1158 ?_
                        refine ⟨?_, ?_⟩
                        · refine gmPut_h (ek := ekI) (ev := evB) (k := 0) (y := (fRoot, (-1, 0))) mapB h1158 fun w1159 h1159 => ?_
                          refine samec_h (g := g3) (o := 0) h12 h1159 ?_
                          refine samec_h (g := g1) (o := 0) h12 h1159 ?_
                          refine ⟨?_, ?_⟩
                          · refine spl_book ?_
                            refine ⟨?_, ?_⟩
                            · refine newBook_h (gB := g1157) (gS := g1062) h1159 fun g1161 w1162 h1162 => ?_
                              refine newC_h h1162 fun g1163 w1164 h1164 => ?_
                              refine samec_h (g := g3) (o := 0) h12 h1164 ?_
                              refine samec_h (g := g1) (o := 0) h12 h1164 ?_
                              refine stC_h (g := g1163) h1164 rfl (by decide) fun w1165 h1165 => ?_
                              exact hJ _ _ ⟨g1163, g1161, g1157, g1062, rfl, h1165.perm (perm_f 0 rfl (perm_f 0 rfl (perm_f 0 rfl (perm_f 0 rfl (perm_f 0 rfl (perm_f 0 rfl (.refl _)))))))⟩
                            · refine newC_h h1159 fun g1166 w1167 h1167 => ?_
                              refine samec_h (g := g3) (o := 0) h12 h1167 ?_
                              refine samec_h (g := g1) (o := 0) h12 h1167 ?_
                              refine newBook_h (gB := g1157) (gS := g1062) h1167 fun g1168 w1169 h1169 => ?_
                              refine stC_h (g := g1166) h1169 rfl (by decide) fun w1170 h1170 => ?_
                              exact hJ _ _ ⟨g1166, g1168, g1157, g1062, rfl, h1170.perm (perm_f 1 rfl (perm_f 0 rfl (perm_f 0 rfl (perm_f 0 rfl (perm_f 0 rfl (perm_f 0 rfl (.refl _)))))))⟩
                          · refine newC_h h1159 fun g1171 w1172 h1172 => ?_
                            refine samec_h (g := g3) (o := 0) h12 h1172 ?_
                            refine samec_h (g := g1) (o := 0) h12 h1172 ?_
                            refine spl_book ?_
                            refine newBook_h (gB := g1157) (gS := g1062) h1172 fun g1174 w1175 h1175 => ?_
                            refine stC_h (g := g1171) h1175 rfl (by decide) fun w1176 h1176 => ?_
                            exact hJ _ _ ⟨g1171, g1174, g1157, g1062, rfl, h1176.perm (perm_f 1 rfl (perm_f 0 rfl (perm_f 0 rfl (perm_f 0 rfl (perm_f 0 rfl (perm_f 0 rfl (.refl _)))))))⟩
                        · refine newC_h h1158 fun g1177 w1178 h1178 => ?_
                          refine samec_h (g := g3) (o := 0) h12 h1178 ?_
                          refine samec_h (g := g1) (o := 0) h12 h1178 ?_
                          refine gmPut_h (ek := ekI) (ev := evB) (k := 0) (y := (fRoot, (-1, 0))) mapB h1178 fun w1179 h1179 => ?_
                          refine samec_h (g := g3) (o := 0) h12 h1179 ?_
                          refine samec_h (g := g1) (o := 0) h12 h1179 ?_
                          refine spl_book ?_
                          refine newBook_h (gB := g1157) (gS := g1062) h1179 fun g1181 w1182 h1182 => ?_
                          refine stC_h (g := g1177) h1182 rfl (by decide) fun w1183 h1183 => ?_
                          exact hJ _ _ ⟨g1177, g1181, g1157, g1062, rfl, h1183.perm (perm_f 1 rfl (perm_f 0 rfl (perm_f 0 rfl (perm_f 0 rfl (perm_f 0 rfl (perm_f 0 rfl (.refl _)))))))⟩
                      · refine newC_h h1116 fun g1184 w1185 h1185 => ?_
                        refine samec_h (g := g3) (o := 0) h12 h1185 ?_
                        refine samec_h (g := g1) (o := 0) h12 h1185 ?_
                        refine mkGm_h ekI evB h1185 fun g1186 w1187 h1187 => ?_
                        refine samec_h (g := g3) (o := 0) h12 h1187 ?_
                        refine samec_h (g := g1) (o := 0) h12 h1187 ?_
                        refine gmPut_h (ek := ekI) (ev := evB) (k := 0) (y := (fRoot, (-1, 0))) mapB h1187 fun w1188 h1188 => ?_
                        refine samec_h (g := g3) (o := 0) h12 h1188 ?_
                        refine samec_h (g := g1) (o := 0) h12 h1188 ?_
                        refine spl_book ?_
                        refine newBook_h (gB := g1186) (gS := g1062) h1188 fun g1190 w1191 h1191 => ?_
                        refine stC_h (g := g1184) h1191 rfl (by decide) fun w1192 h1192 => ?_
                        exact hJ _ _ ⟨g1184, g1190, g1186, g1062, rfl, h1192.perm (perm_f 2 rfl (perm_f 0 rfl (perm_f 0 rfl (perm_f 0 rfl (perm_f 0 rfl (perm_f 0 rfl (.refl _)))))))⟩
                    · refine newC_h h1116 fun g1193 w1194 h1194 => ?_
                      refine samec_h (g := g3) (o := 0) h12 h1194 ?_
                      refine samec_h (g := g1) (o := 0) h12 h1194 ?_
                      refine ⟨?_, ?_⟩
                      · refine mkGm_h ekI evB h1194 fun g1195 w1196 h1196 => ?_
                        refine samec_h (g := g3) (o := 0) h12 h1196 ?_
                        refine samec_h (g := g1) (o := 0) h12 h1196 ?_
                        refine spl_beg hRl ?_
                        refine samec_h (g := g3) (o := 0) h12 h1196 ?_
                        refine samec_h (g := g1) (o := 0) h12 h1196 ?_
                        refine gmPut_h (ek := ekI) (ev := evB) (k := 0) (y := (fRoot, (-1, 0))) mapB h1196 fun w1199 h1199 => ?_
                        refine samec_h (g := g3) (o := 0) h12 h1199 ?_
                        refine samec_h (g := g1) (o := 0) h12 h1199 ?_
                        refine spl_book ?_
                        refine newBook_h (gB := g1195) (gS := g1062) h1199 fun g1201 w1202 h1202 => ?_
                        refine stC_h (g := g1193) h1202 rfl (by decide) fun w1203 h1203 => ?_
                        exact hJ _ _ ⟨g1193, g1201, g1195, g1062, rfl, h1203.perm (perm_f 2 rfl (perm_f 0 rfl (perm_f 0 rfl (perm_f 0 rfl (perm_f 0 rfl (perm_f 0 rfl (.refl _)))))))⟩
                      · refine spl_beg hRl ?_
                        refine samec_h (g := g3) (o := 0) h12 h1194 ?_
                        refine samec_h (g := g1) (o := 0) h12 h1194 ?_
                        refine mkGm_h ekI evB h1194 fun g1206 w1207 h1207 => ?_
                        refine samec_h (g := g3) (o := 0) h12 h1207 ?_
                        refine samec_h (g := g1) (o := 0) h12 h1207 ?_
                        refine gmPut_h (ek := ekI) (ev := evB) (k := 0) (y := (fRoot, (-1, 0))) mapB h1207 fun w1208 h1208 => ?_
                        refine samec_h (g := g3) (o := 0) h12 h1208 ?_
                        refine samec_h (g := g1) (o := 0) h12 h1208 ?_
                        refine spl_book ?_
                        refine newBook_h (gB := g1206) (gS := g1062) h1208 fun g1210 w1211 h1211 => ?_
                        refine stC_h (g := g1193) h1211 rfl (by decide) fun w1212 h1212 => ?_
                        exact hJ _ _ ⟨g1193, g1210, g1206, g1062, rfl, h1212.perm (perm_f 2 rfl (perm_f 0 rfl (perm_f 0 rfl (perm_f 0 rfl (perm_f 0 rfl (perm_f 0 rfl (.refl _)))))))⟩
                · refine newC_h h1063 fun g1213 w1214 h1214 => ?_
                  refine samec_h (g := g3) (o := 0) h12 h1214 ?_
                  refine samec_h (g := g1) (o := 0) h12 h1214 ?_
                  refine ⟨?_, ?_⟩
                  · refine mkGm_h ekI evB h1214 fun g1215 w1216 h1216 => ?_
                    refine samec_h (g := g3) (o := 0) h12 h1216 ?_
                    refine samec_h (g := g1) (o := 0) h12 h1216 ?_
                    refine world_s fun w1218 he => ?_
                    have h1218 := ext_of h1216 he
                    refine samec_h (g := g3) (o := 0) h12 h1218 ?_
                    refine samec_h (g := g1) (o := 0) h12 h1218 ?_
                    refine spl_beg hRl ?_
                    refine samec_h (g := g3) (o := 0) h12 h1218 ?_
                    refine samec_h (g := g1) (o := 0) h12 h1218 ?_
                    refine gmPut_h (ek := ekI) (ev := evB) (k := 0) (y := (fRoot, (-1, 0))) mapB h1218 fun w1221 h1221 => ?_
                    refine samec_h (g := g3) (o := 0) h12 h1221 ?_
                    refine samec_h (g := g1) (o := 0) h12 h1221 ?_
                    refine spl_book ?_
                    refine newBook_h (gB := g1215) (gS := g1062) h1221 fun g1223 w1224 h1224 => ?_
                    refine stC_h (g := g1213) h1224 rfl (by decide) fun w1225 h1225 => ?_
                    exact hJ _ _ ⟨g1213, g1223, g1215, g1062, rfl, h1225.perm (perm_f 2 rfl (perm_f 0 rfl (perm_f 0 rfl (perm_f 0 rfl (perm_f 0 rfl (perm_f 0 rfl (.refl _)))))))⟩
                  · refine world_s fun w1227 he => ?_
                    have h1227 := ext_of h1214 he
                    refine samec_h (g := g3) (o := 0) h12 h1227 ?_
                    refine samec_h (g := g1) (o := 0) h12 h1227 ?_
                    refine ⟨?_, ?_⟩
                    · refine mkGm_h ekI evB h1227 fun g1228 w1229 h1229 => ?_
                      refine samec_h (g := g3) (o := 0) h12 h1229 ?_
                      refine samec_h (g := g1) (o := 0) h12 h1229 ?_
                      refine spl_beg hRl ?_
                      refine samec_h (g := g3) (o := 0) h12 h1229 ?_
                      refine samec_h (g := g1) (o := 0) h12 h1229 ?_
                      refine gmPut_h (ek := ekI) (ev := evB) (k := 0) (y := (fRoot, (-1, 0))) mapB h1229 fun w1232 h1232 => ?_
                      refine samec_h (g := g3) (o := 0) h12 h1232 ?_
                      refine samec_h (g := g1) (o := 0) h12 h1232 ?_
                      refine spl_book ?_
                      refine newBook_h (gB := g1228) (gS := g1062) h1232 fun g1234 w1235 h1235 => ?_
                      refine stC_h (g := g1213) h1235 rfl (by decide) fun w1236 h1236 => ?_
                      exact hJ _ _ ⟨g1213, g1234, g1228, g1062, rfl, h1236.perm (perm_f 2 rfl (perm_f 0 rfl (perm_f 0 rfl (perm_f 0 rfl (perm_f 0 rfl (perm_f 0 rfl (.refl _)))))))⟩
                    · refine spl_beg hRl ?_
                      refine samec_h (g := g3) (o := 0) h12 h1227 ?_
                      refine samec_h (g := g1) (o := 0) h12 h1227 ?_
                      refine mkGm_h ekI evB h1227 fun g1239 w1240 h1240 => ?_
                      refine samec_h (g := g3) (o := 0) h12 h1240 ?_
                      refine samec_h (g := g1) (o := 0) h12 h1240 ?_
                      refine gmPut_h (ek := ekI) (ev := evB) (k := 0) (y := (fRoot, (-1, 0))) mapB h1240 fun w1241 h1241 => ?_
                      refine samec_h (g := g3) (o := 0) h12 h1241 ?_
                      refine samec_h (g := g1) (o := 0) h12 h1241 ?_
                      refine spl_book ?_
                      refine newBook_h (gB := g1239) (gS := g1062) h1241 fun g1243 w1244 h1244 => ?_
                      refine stC_h (g := g1213) h1244 rfl (by decide) fun w1245 h1245 => ?_
                      exact hJ _ _ ⟨g1213, g1243, g1239, g1062, rfl, h1245.perm (perm_f 2 rfl (perm_f 0 rfl (perm_f 0 rfl (perm_f 0 rfl (perm_f 0 rfl (perm_f 0 rfl (.refl _)))))))⟩
            · refine newC_h h372 fun g1246 w1247 h1247 => ?_
              refine samec_h (g := g3) (o := 0) h12 h1247 ?_
              refine samec_h (g := g1) (o := 0) h12 h1247 ?_
              refine ⟨?_, ?_⟩
              · refine mkGm_h ekI evB h1247 fun g1248 w1249 h1249 => ?_
                refine samec_h (g := g3) (o := 0) h12 h1249 ?_
                refine samec_h (g := g1) (o := 0) h12 h1249 ?_
                refine ⟨?_, ?_⟩
                · refine world_s fun w1251 he => ?_
                  have h1251 := ext_of h1249 he
                  refine samec_h (g := g3) (o := 0) h12 h1251 ?_
                  refine samec_h (g := g1) (o := 0) h12 h1251 ?_
                  refine ⟨?_, ?_⟩
                  · refine spl_beg hRl ?_
                    refine samec_h (g := g3) (o := 0) h12 h1251 ?_
                    refine samec_h (g := g1) (o := 0) h12 h1251 ?_
                    refine ⟨?_, ?_⟩
                    · refine gmPut_h (ek := ekI) (ev := evB) (k := 0) (y := (fRoot, (-1, 0))) mapB h1251 fun w1254 h1254 => ?_
                      refine samec_h (g := g3) (o := 0) h12 h1254 ?_
                      refine samec_h (g := g1) (o := 0) h12 h1254 ?_
                      refine mkGm_h ekP evS h1254 fun g1255 w1256 h1256 => ?_
                      refine samec_h (g := g3) (o := 0) h12 h1256 ?_
                      refine samec_h (g := g1) (o := 0) h12 h1256 ?_
                      refine spl_book ?_
                      refine newBook_h (gB := g1248) (gS := g1255) h1256 fun g1258 w1259 h1259 => ?_
                      refine stC_h (g := g1246) h1259 rfl (by decide) fun w1260 h1260 => ?_
                      exact hJ _ _ ⟨g1246, g1258, g1248, g1255, rfl, h1260.perm (perm_f 3 rfl (perm_f 0 rfl (perm_f 1 rfl (perm_f 0 rfl (perm_f 0 rfl (perm_f 0 rfl (.refl _)))))))⟩
                    · refine mkGm_h ekP evS h1251 fun g1261 w1262 h1262 => ?_
                      refine samec_h (g := g3) (o := 0) h12 h1262 ?_
                      refine samec_h (g := g1) (o := 0) h12 h1262 ?_
                      refine gmPut_h (ek := ekI) (ev := evB) (k := 0) (y := (fRoot, (-1, 0))) mapB h1262 fun w1263 h1263 => ?_
                      refine samec_h (g := g3) (o := 0) h12 h1263 ?_
                      refine samec_h (g := g1) (o := 0) h12 h1263 ?_
                      refine spl_book ?_
                      refine newBook_h (gB := g1248) (gS := g1261) h1263 fun g1265 w1266 h1266 => ?_
                      refine stC_h (g := g1246) h1266 rfl (by decide) fun w1267 h1267 => ?_
                      exact hJ _ _ ⟨g1246, g1265, g1248, g1261, rfl, h1267.perm (perm_f 3 rfl (perm_f 0 rfl (perm_f 1 rfl (perm_f 0 rfl (perm_f 0 rfl (perm_f 0 rfl (.refl _)))))))⟩
                  · refine mkGm_h ekP evS h1251 fun g1268 w1269 h1269 => ?_
                    refine samec_h (g := g3) (o := 0) h12 h1269 ?_
                    refine samec_h (g := g1) (o := 0) h12 h1269 ?_
                    refine spl_beg hRl ?_
                    refine samec_h (g := g3) (o := 0) h12 h1269 ?_
                    refine samec_h (g := g1) (o := 0) h12 h1269 ?_
                    refine gmPut_h (ek := ekI) (ev := evB) (k := 0) (y := (fRoot, (-1, 0))) mapB h1269 fun w1272 h1272 => ?_
                    refine samec_h (g := g3) (o := 0) h12 h1272 ?_
                    refine samec_h (g := g1) (o := 0) h12 h1272 ?_
                    refine spl_book ?_
                    refine newBook_h (gB := g1248) (gS := g1268) h1272 fun g1274 w1275 h1275 => ?_
                    refine stC_h (g := g1246) h1275 rfl (by decide) fun w1276 h1276 => ?_
                    exact hJ _ _ ⟨g1246, g1274, g1248, g1268, rfl, h1276.perm (perm_f 3 rfl (perm_f 0 rfl (perm_f 1 rfl (perm_f 0 rfl (perm_f 0 rfl (perm_f 0 rfl (.refl _)))))))⟩
                · refine mkGm_h ekP evS h1249 fun g1277 w1278 h1278 => ?_
                  refine samec_h (g := g3) (o := 0) h12 h1278 ?_
                  refine samec_h (g := g1) (o := 0) h12 h1278 ?_
                  refine world_s fun w1280 he => ?_
                  have h1280 := ext_of h1278 he
                  refine samec_h (g := g3) (o := 0) h12 h1280 ?_
                  refine samec_h (g := g1) (o := 0) h12 h1280 ?_
                  refine spl_beg hRl ?_
                  refine samec_h (g := g3) (o := 0) h12 h1280 ?_
                  refine samec_h (g := g1) (o := 0) h12 h1280 ?_
                  refine gmPut_h (ek := ekI) (ev := evB) (k := 0) (y := (fRoot, (-1, 0))) mapB h1280 fun w1283 h1283 => ?_
                  refine samec_h (g := g3) (o := 0) h12 h1283 ?_
                  refine samec_h (g := g1) (o := 0) h12 h1283 ?_
                  refine spl_book ?_
                  refine newBook_h (gB := g1248) (gS := g1277) h1283 fun g1285 w1286 h1286 => ?_
                  refine stC_h (g := g1246) h1286 rfl (by decide) fun w1287 h1287 => ?_
                  exact hJ _ _ ⟨g1246, g1285, g1248, g1277, rfl, h1287.perm (perm_f 3 rfl (perm_f 0 rfl (perm_f 1 rfl (perm_f 0 rfl (perm_f 0 rfl (perm_f 0 rfl (.refl _)))))))⟩
              · refine ⟨?_, ?_⟩
                · refine world_s fun w1289 he => ?_
                  have h1289 := ext_of h1247 he
                  refine samec_h (g := g3) (o := 0) h12 h1289 ?_
                  refine samec_h (g := g1) (o := 0) h12 h1289 ?_
                  refine ⟨?_, ?_⟩
                  · refine mkGm_h ekI evB h1289 fun g1290 w1291 h1291 => ?_
                    refine samec_h (g := g3) (o := 0) h12 h1291 ?_
                    refine samec_h (g := g1) (o := 0) h12 h1291 ?_
                    refine ⟨?_, ?_⟩
                    · refine spl_beg hRl ?_
                      refine samec_h (g := g3) (o := 0) h12 h1291 ?_
                      refine samec_h (g := g1) (o := 0) h12 h1291 ?_
                      refine ⟨?_, ?_⟩
                      · refine gmPut_h (ek := ekI) (ev := evB) (k := 0) (y := (fRoot, (-1, 0))) mapB h1291 fun w1294 h1294 => ?_
                        refine samec_h (g := g3) (o := 0) h12 h1294 ?_
                        refine samec_h (g := g1) (o := 0) h12 h1294 ?_
                        refine mkGm_h ekP evS h1294 fun g1295 w1296 h1296 => ?_
                        refine samec_h (g := g3) (o := 0) h12 h1296 ?_
                        refine samec_h (g := g1) (o := 0) h12 h1296 ?_
                        refine spl_book ?_
                        refine newBook_h (gB := g1290) (gS := g1295) h1296 fun g1298 w1299 h1299 => ?_
                        refine stC_h (g := g1246) h1299 rfl (by decide) fun w1300 h1300 => ?_
                        exact hJ _ _ ⟨g1246, g1298, g1290, g1295, rfl, h1300.perm (perm_f 3 rfl (perm_f 0 rfl (perm_f 1 rfl (perm_f 0 rfl (perm_f 0 rfl (perm_f 0 rfl (.refl _)))))))⟩
                      · refine mkGm_h ekP evS h1291 fun g1301 w1302 h1302 => ?_
                        refine samec_h (g := g3) (o := 0) h12 h1302 ?_
                        refine samec_h (g := g1) (o := 0) h12 h1302 ?_
                        refine gmPut_h (ek := ekI) (ev := evB) (k := 0) (y := (fRoot, (-1, 0))) mapB h1302 fun w1303 h1303 => ?_
                        refine samec_h (g := g3) (o := 0) h12 h1303 ?_
                        refine samec_h (g := g1) (o := 0) h12 h1303 ?_
                        refine spl_book ?_
                        refine newBook_h (gB := g1290) (gS := g1301) h1303 fun g1305 w1306 h1306 => ?_
                        refine stC_h (g := g1246) h1306 rfl (by decide) fun w1307 h1307 => ?_
                        exact hJ _ _ ⟨g1246, g1305, g1290, g1301, rfl, h1307.perm (perm_f 3 rfl (perm_f 0 rfl (perm_f 1 rfl (perm_f 0 rfl (perm_f 0 rfl (perm_f 0 rfl (.refl _)))))))⟩
                    · refine mkGm_h ekP evS h1291 fun g1308 w1309 h1309 => ?_
                      refine samec_h (g := g3) (o := 0) h12 h1309 ?_
                      refine samec_h (g := g1) (o := 0) h12 h1309 ?_
                      refine spl_beg hRl ?_
                      refine samec_h (g := g3) (o := 0) h12 h1309 ?_
                      refine samec_h (g := g1) (o := 0) h12 h1309 ?_
                      refine gmPut_h (ek := ekI) (ev := evB) (k := 0) (y := (fRoot, (-1, 0))) mapB h1309 fun w1312 h1312 => ?_
                      refine samec_h (g := g3) (o := 0) h12 h1312 ?_
                      refine samec_h (g := g1) (o := 0) h12 h1312 ?_
                      refine spl_book ?_
                      refine newBook_h (gB := g1290) (gS := g1308) h1312 fun g1314 w1315 h1315 => ?_
                      refine stC_h (g := g1246) h1315 rfl (by decide) fun w1316 h1316 => ?_
                      exact hJ _ _ ⟨g1246, g1314, g1290, g1308, rfl, h1316.perm (perm_f 3 rfl (perm_f 0 rfl (perm_f 1 rfl (perm_f 0 rfl (perm_f 0 rfl (perm_f 0 rfl (.refl _)))))))⟩
                  · refine ⟨?_, ?_⟩
                    · refine spl_beg hRl ?_
                      refine samec_h (g := g3) (o := 0) h12 h1289 ?_
                      refine samec_h (g := g1) (o := 0) h12 h1289 ?_
                      refine ⟨?_, ?_⟩
                      · refine mkGm_h ekI evB h1289 fun g1319 w1320 h1320 => ?_
                        refine samec_h (g := g3) (o := 0) h12 h1320 ?_
                        refine samec_h (g := g1) (o := 0) h12 h1320 ?_
                        refine ⟨?_, ?_⟩
                        · refine gmPut_h (ek := ekI) (ev := evB) (k := 0) (y := (fRoot, (-1, 0))) mapB h1320 fun w1321 h1321 => ?_
                          refine samec_h (g := g3) (o := 0) h12 h1321 ?_
                          refine samec_h (g := g1) (o := 0) h12 h1321 ?_
                          refine mkGm_h ekP evS h1321 fun g1322 w1323 h1323 => ?_
                          refine samec_h (g := g3) (o := 0) h12 h1323 ?_
                          refine samec_h (g := g1) (o := 0) h12 h1323 ?_
                          refine spl_book ?_
                          refine newBook_h (gB := g1319) (gS := g1322) h1323 fun g1325 w1326 h1326 => ?_
                          refine stC_h (g := g1246) h1326 rfl (by decide) fun w1327 h1327 => ?_
                          exact hJ _ _ ⟨g1246, g1325, g1319, g1322, rfl, h1327.perm (perm_f 3 rfl (perm_f 0 rfl (perm_f 1 rfl (perm_f 0 rfl (perm_f 0 rfl (perm_f 0 rfl (.refl _)))))))⟩
                        · refine mkGm_h ekP evS h1320 fun g1328 w1329 h1329 => ?_
                          refine samec_h (g := g3) (o := 0) h12 h1329 ?_
                          refine samec_h (g := g1) (o := 0) h12 h1329 ?_
                          refine gmPut_h (ek := ekI) (ev := evB) (k := 0) (y := (fRoot, (-1, 0))) mapB h1329 fun w1330 h1330 => ?_
                          refine samec_h (g := g3) (o := 0) h12 h1330 ?_
                          refine samec_h (g := g1) (o := 0) h12 h1330 ?_
                          refine spl_book ?_
                          refine newBook_h (gB := g1319) (gS := g1328) h1330 fun g1332 w1333 h1333 => ?_
                          refine stC_h (g := g1246) h1333 rfl (by decide) fun w1334 h1334 => ?_
                          exact hJ _ _ ⟨g1246, g1332, g1319, g1328, rfl, h1334.perm (perm_f 3 rfl (perm_f 0 rfl (perm_f 1 rfl (perm_f 0 rfl (perm_f 0 rfl (perm_f 0 rfl (.refl _)))))))⟩
                      · refine mkGm_h ekP evS h1289 fun g1335 w1336 h1336 => ?_
                        refine samec_h (g := g3) (o := 0) h12 h1336 ?_
                        refine samec_h (g := g1) (o := 0) h12 h1336 ?_
                        refine mkGm_h ekI evB h1336 fun g1337 w1338 h1338 => ?_
                        refine samec_h (g := g3) (o := 0) h12 h1338 ?_
                        refine samec_h (g := g1) (o := 0) h12 h1338 ?_
                        refine gmPut_h (ek := ekI) (ev := evB) (k := 0) (y := (fRoot, (-1, 0))) mapB h1338 fun w1339 h1339 => ?_
                        refine samec_h (g := g3) (o := 0) h12 h1339 ?_
                        refine samec_h (g := g1) (o := 0) h12 h1339 ?_
                        refine spl_book ?_
                        refine newBook_h (gB := g1337) (gS := g1335) h1339 fun g1341 w1342 h1342 => ?_
                        refine stC_h (g := g1246) h1342 rfl (by decide) fun w1343 h1343 => ?_
                        exact hJ _ _ ⟨g1246, g1341, g1337, g1335, rfl, h1343.perm (perm_f 3 rfl (perm_f 0 rfl (perm_f 0 rfl (perm_f 0 rfl (perm_f 0 rfl (perm_f 0 rfl (.refl _)))))))⟩
                    · refine mkGm_h ekP evS h1289 fun g1344 w1345 h1345 => ?_
                      refine samec_h (g := g3) (o := 0) h12 h1345 ?_
                      refine samec_h (g := g1) (o := 0) h12 h1345 ?_
                      refine ⟨?_, ?_⟩
                      · refine mkGm_h ekI evB h1345 fun g1346 w1347 h1347 => ?_
                        refine samec_h (g := g3) (o := 0) h12 h1347 ?_
                        refine samec_h (g := g1) (o := 0) h12 h1347 ?_
                        refine spl_beg hRl ?_
                        refine samec_h (g := g3) (o := 0) h12 h1347 ?_
                        refine samec_h (g := g1) (o := 0) h12 h1347 ?_
                        refine gmPut_h (ek := ekI) (ev := evB) (k := 0) (y := (fRoot, (-1, 0))) mapB h1347 fun w1350 h1350 => ?_
                        refine samec_h (g := g3) (o := 0) h12 h1350 ?_
                        refine samec_h (g := g1) (o := 0) h12 h1350 ?_
                        refine spl_book ?_
                        refine newBook_h (gB := g1346) (gS := g1344) h1350 fun g1352 w1353 h1353 => ?_
                        refine stC_h (g := g1246) h1353 rfl (by decide) fun w1354 h1354 => ?_
                        exact hJ _ _ ⟨g1246, g1352, g1346, g1344, rfl, h1354.perm (perm_f 3 rfl (perm_f 0 rfl (perm_f 0 rfl (perm_f 0 rfl (perm_f 0 rfl (perm_f 0 rfl (.refl _)))))))⟩
                      · refine spl_beg hRl ?_
                        refine samec_h (g := g3) (o := 0) h12 h1345 ?_
                        refine samec_h (g := g1) (o := 0) h12 h1345 ?_
                        refine mkGm_h ekI evB h1345 fun g1357 w1358 h1358 => ?_
                        refine samec_h (g := g3) (o := 0) h12 h1358 ?_
                        refine samec_h (g := g1) (o := 0) h12 h1358 ?_
                        refine gmPut_h (ek := ekI) (ev := evB) (k := 0) (y := (fRoot, (-1, 0))) mapB h1358 fun w1359 h1359 => ?_
                        refine samec_h (g := g3) (o := 0) h12 h1359 ?_
                        refine samec_h (g := g1) (o := 0) h12 h1359 ?_
                        refine spl_book ?_
                        refine newBook_h (gB := g1357) (gS := g1344) h1359 fun g1361 w1362 h1362 => ?_
                        refine stC_h (g := g1246) h1362 rfl (by decide) fun w1363 h1363 => ?_
                        exact hJ _ _ ⟨g1246, g1361, g1357, g1344, rfl, h1363.perm (perm_f 3 rfl (perm_f 0 rfl (perm_f 0 rfl (perm_f 0 rfl (perm_f 0 rfl (perm_f 0 rfl (.refl _)))))))⟩
                · refine mkGm_h ekP evS h1247 fun g1364 w1365 h1365 => ?_
                  refine samec_h (g := g3) (o := 0) h12 h1365 ?_
                  refine samec_h (g := g1) (o := 0) h12 h1365 ?_
                  refine ⟨?_, ?_⟩
                  · refine mkGm_h ekI evB h1365 fun g1366 w1367 h1367 => ?_
                    refine samec_h (g := g3) (o := 0) h12 h1367 ?_
                    refine samec_h (g := g1) (o := 0) h12 h1367 ?_
                    refine world_s fun w1369 he => ?_
                    have h1369 := ext_of h1367 he
                    refine samec_h (g := g3) (o := 0) h12 h1369 ?_
                    refine samec_h (g := g1) (o := 0) h12 h1369 ?_
                    refine spl_beg hRl ?_
                    refine samec_h (g := g3) (o := 0) h12 h1369 ?_
                    refine samec_h (g := g1) (o := 0) h12 h1369 ?_
                    refine gmPut_h (ek := ekI) (ev := evB) (k := 0) (y := (fRoot, (-1, 0))) mapB h1369 fun w1372 h1372 => ?_
                    refine samec_h (g := g3) (o := 0) h12 h1372 ?_
                    refine samec_h (g := g1) (o := 0) h12 h1372 ?_
                    refine spl_book ?_
                    refine newBook_h (gB := g1366) (gS := g1364) h1372 fun g1374 w1375 h1375 => ?_
                    refine stC_h (g := g1246) h1375 rfl (by decide) fun w1376 h1376 => ?_
                    exact hJ _ _ ⟨g1246, g1374, g1366, g1364, rfl, h1376.perm (perm_f 3 rfl (perm_f 0 rfl (perm_f 0 rfl (perm_f 0 rfl (perm_f 0 rfl (perm_f 0 rfl (.refl _)))))))⟩
                  · refine world_s fun w1378 he => ?_
                    have h1378 := ext_of h1365 he
                    refine samec_h (g := g3) (o := 0) h12 h1378 ?_
                    refine samec_h (g := g1) (o := 0) h12 h1378 ?_
                    refine ⟨?_, ?_⟩
                    · refine mkGm_h ekI evB h1378 fun g1379 w1380 h1380 => ?_
                      refine samec_h (g := g3) (o := 0) h12 h1380 ?_
                      refine samec_h (g := g1) (o := 0) h12 h1380 ?_
                      refine spl_beg hRl ?_
                      refine samec_h (g := g3) (o := 0) h12 h1380 ?_
                      refine samec_h (g := g1) (o := 0) h12 h1380 ?_
                      refine gmPut_h (ek := ekI) (ev := evB) (k := 0) (y := (fRoot, (-1, 0))) mapB h1380 fun w1383 h1383 => ?_
                      refine samec_h (g := g3) (o := 0) h12 h1383 ?_
                      refine samec_h (g := g1) (o := 0) h12 h1383 ?_
                      refine spl_book ?_
                      refine newBook_h (gB := g1379) (gS := g1364) h1383 fun g1385 w1386 h1386 => ?_
                      refine stC_h (g := g1246) h1386 rfl (by decide) fun w1387 h1387 => ?_
                      exact hJ _ _ ⟨g1246, g1385, g1379, g1364, rfl, h1387.perm (perm_f 3 rfl (perm_f 0 rfl (perm_f 0 rfl (perm_f 0 rfl (perm_f 0 rfl (perm_f 0 rfl (.refl _)))))))⟩
                    · refine spl_beg hRl ?_
                      refine samec_h (g := g3) (o := 0) h12 h1378 ?_
                      refine samec_h (g := g1) (o := 0) h12 h1378 ?_
                      refine mkGm_h ekI evB h1378 fun g1390 w1391 h1391 => ?_
                      refine samec_h (g := g3) (o := 0) h12 h1391 ?_
                      refine samec_h (g := g1) (o := 0) h12 h1391 ?_
                      refine gmPut_h (ek := ekI) (ev := evB) (k := 0) (y := (fRoot, (-1, 0))) mapB h1391 fun w1392 h1392 => ?_
                      refine samec_h (g := g3) (o := 0) h12 h1392 ?_
                      refine samec_h (g := g1) (o := 0) h12 h1392 ?_
                      refine spl_book ?_
                      refine newBook_h (gB := g1390) (gS := g1364) h1392 fun g1394 w1395 h1395 => ?_
                      refine stC_h (g := g1246) h1395 rfl (by decide) fun w1396 h1396 => ?_
                      exact hJ _ _ ⟨g1246, g1394, g1390, g1364, rfl, h1396.perm (perm_f 3 rfl (perm_f 0 rfl (perm_f 0 rfl (perm_f 0 rfl (perm_f 0 rfl (perm_f 0 rfl (.refl _)))))))⟩
      · refine ⟨?_, ?_⟩
        · refine mkGm_h ekP evS h12 fun g1397 w1398 h1398 => ?_
          refine samec_h (g := g3) (o := 0) h12 h1398 ?_
          refine samec_h (g := g1) (o := 0) h12 h1398 ?_
          refine ⟨?_, ?_⟩
          · refine mkGm_h ekI evB h1398 fun g1399 w1400 h1400 => ?_
            refine samec_h (g := g3) (o := 0) h12 h1400 ?_
            refine samec_h (g := g1) (o := 0) h12 h1400 ?_
            refine ⟨?_, ?_⟩
            · refine Fr.root_s fun w1402 he => ?_
              have h1402 := ext_of h1400 he
              refine samec_h (g := g3) (o := 0) h12 h1402 ?_
              refine samec_h (g := g1) (o := 0) h12 h1402 ?_
              refine ⟨?_, ?_⟩
              · refine world_s fun w1404 he => ?_
                have h1404 := ext_of h1402 he
                refine samec_h (g := g3) (o := 0) h12 h1404 ?_
                refine samec_h (g := g1) (o := 0) h12 h1404 ?_
                refine ⟨?_, ?_⟩
                · refine spl_beg hRl ?_
                  refine samec_h (g := g3) (o := 0) h12 h1404 ?_
                  refine samec_h (g := g1) (o := 0) h12 h1404 ?_
                  refine ⟨?_, ?_⟩
                  · refine gmPut_h (ek := ekI) (ev := evB) (k := 0) (y := (fRoot, (-1, 0))) mapB h1404 fun w1407 h1407 => ?_
                    refine samec_h (g := g3) (o := 0) h12 h1407 ?_
                    refine samec_h (g := g1) (o := 0) h12 h1407 ?_
                    refine ⟨?_, ?_⟩
                    · refine spl_book ?_
                      refine ⟨?_, ?_⟩
                      · refine newBook_h (gB := g1399) (gS := g1397) h1407 fun g1409 w1410 h1410 => ?_
                        refine newC_h h1410 fun g1411 w1412 h1412 => ?_
                        refine samec_h (g := g3) (o := 0) h12 h1412 ?_
                        refine samec_h (g := g1) (o := 0) h12 h1412 ?_
                        refine stC_h (g := g1411) h1412 rfl (by decide) fun w1413 h1413 => ?_
                        exact hJ _ _ ⟨g1411, g1409, g1399, g1397, rfl, h1413.perm (perm_f 0 rfl (perm_f 0 rfl (perm_f 0 rfl (perm_f 0 rfl (perm_f 0 rfl (perm_f 0 rfl (.refl _)))))))⟩
                      · refine newC_h h1407 fun g1414 w1415 h1415 => ?_
                        refine samec_h (g := g3) (o := 0) h12 h1415 ?_
                        refine samec_h (g := g1) (o := 0) h12 h1415 ?_
                        refine newBook_h (gB := g1399) (gS := g1397) h1415 fun g1416 w1417 h1417 => ?_
                        refine stC_h (g := g1414) h1417 rfl (by decide) fun w1418 h1418 => ?_
                        exact hJ _ _ ⟨g1414, g1416, g1399, g1397, rfl, h1418.perm (perm_f 1 rfl (perm_f 0 rfl (perm_f 0 rfl (perm_f 0 rfl (perm_f 0 rfl (perm_f 0 rfl (.refl _)))))))⟩
                    · refine newC_h h1407 fun g1419 w1420 h1420 => ?_
                      refine samec_h (g := g3) (o := 0) h12 h1420 ?_
                      refine samec_h (g := g1) (o := 0) h12 h1420 ?_
                      refine spl_book ?_
                      refine newBook_h (gB := g1399) (gS := g1397) h1420 fun g1422 w1423 h1423 => ?_
                      refine stC_h (g := g1419) h1423 rfl (by decide) fun w1424 h1424 => ?_
                      exact hJ _ _ ⟨g1419, g1422, g1399, g1397, rfl, h1424.perm (perm_f 1 rfl (perm_f 0 rfl (perm_f 0 rfl (perm_f 0 rfl (perm_f 0 rfl (perm_f 0 rfl (.refl _)))))))⟩
                  · refine newC_h h1404 fun g1425 w1426 h1426 => ?_
                    refine samec_h (g := g3) (o := 0) h12 h1426 ?_
                    refine samec_h (g := g1) (o := 0) h12 h1426 ?_
                    refine gmPut_h (ek := ekI) (ev := evB) (k := 0) (y := (fRoot, (-1, 0))) mapB h1426 fun w1427 h1427 => ?_
                    refine samec_h (g := g3) (o := 0) h12 h1427 ?_
                    refine samec_h (g := g1) (o := 0) h12 h1427 ?_
                    refine spl_book ?_
                    refine newBook_h (gB := g1399) (gS := g1397) h1427 fun g1429 w1430 h1430 => ?_
                    refine stC_h (g := g1425) h1430 rfl (by decide) fun w1431 h1431 => ?_
                    exact hJ _ _ ⟨g1425, g1429, g1399, g1397, rfl, h1431.perm (perm_f 1 rfl (perm_f 0 rfl (perm_f 0 rfl (perm_f 0 rfl (perm_f 0 rfl (perm_f 0 rfl (.refl _)))))))⟩
                · refine newC_h h1404 fun g1432 w1433 h1433 => ?_
                  refine samec_h (g := g3) (o := 0) h12 h1433 ?_
                  refine samec_h (g := g1) (o := 0) h12 h1433 ?_
                  refine spl_beg hRl ?_
                  refine samec_h (g := g3) (o := 0) h12 h1433 ?_
                  refine samec_h (g := g1) (o := 0) h12 h1433 ?_
                  refine gmPut_h (ek := ekI) (ev := evB) (k := 0) (y := (fRoot, (-1, 0))) mapB h1433 fun w1436 h1436 => ?_
                  refine samec_h (g := g3) (o := 0) h12 h1436 ?_
                  refine samec_h (g := g1) (o := 0) h12 h1436 ?_
                  refine spl_book ?_
                  refine newBook_h (gB := g1399) (gS := g1397) h1436 fun g1438 w1439 h1439 => ?_
                  refine stC_h (g := g1432) h1439 rfl (by decide) fun w1440 h1440 => ?_
                  exact hJ _ _ ⟨g1432, g1438, g1399, g1397, rfl, h1440.perm (perm_f 1 rfl (perm_f 0 rfl (perm_f 0 rfl (perm_f 0 rfl (perm_f 0 rfl (perm_f 0 rfl (.refl _)))))))⟩
              · refine newC_h h1402 fun g1441 w1442 h1442 => ?_
                refine samec_h (g := g3) (o := 0) h12 h1442 ?_
                refine samec_h (g := g1) (o := 0) h12 h1442 ?_
                refine world_s fun w1444 he => ?_
                have h1444 := ext_of h1442 he
                refine samec_h (g := g3) (o := 0) h12 h1444 ?_
                refine samec_h (g := g1) (o := 0) h12 h1444 ?_
                refine spl_beg hRl ?_
                refine samec_h (g := g3) (o := 0) h12 h1444 ?_
                refine samec_h (g := g1) (o := 0) h12 h1444 ?_
                refine gmPut_h (ek := ekI) (ev := evB) (k := 0) (y := (fRoot, (-1, 0))) mapB h1444 fun w1447 h1447 => ?_
                refine samec_h (g := g3) (o := 0) h12 h1447 ?_
                refine samec_h (g := g1) (o := 0) h12 h1447 ?_
                refine spl_book ?_
                refine newBook_h (gB := g1399) (gS := g1397) h1447 fun g1449 w1450 h1450 => ?_
                refine stC_h (g := g1441) h1450 rfl (by decide) fun w1451 h1451 => ?_
                exact hJ _ _ ⟨g1441, g1449, g1399, g1397, rfl, h1451.perm (perm_f 1 rfl (perm_f 0 rfl (perm_f 0 rfl (perm_f 0 rfl (perm_f 0 rfl (perm_f 0 rfl (.refl _)))))))⟩
            · refine newC_h h1400 fun g1452 w1453 h1453 => ?_
              refine samec_h (g := g3) (o := 0) h12 h1453 ?_
              refine samec_h (g := g1) (o := 0) h12 h1453 ?_
              refine Fr.root_s fun w1455 he => ?_
              have h1455 := ext_of h1453 he
              refine samec_h (g := g3) (o := 0) h12 h1455 ?_
              refine samec_h (g := g1) (o := 0) h12 h1455 ?_
              refine world_s fun w1457 he => ?_
              have h1457 := ext_of h1455 he
              refine samec_h (g := g3) (o := 0) h12 h1457 ?_
              refine samec_h (g := g1) (o := 0) h12 h1457 ?_
              refine spl_beg hRl ?_
              refine samec_h (g := g3) (o := 0) h12 h1457 ?_
              refine samec_h (g := g1) (o := 0) h12 h1457 ?_
              refine gmPut_h (ek := ekI) (ev := evB) (k := 0) (y := (fRoot, (-1, 0))) mapB h1457 fun w1460 h1460 => ?_
              refine samec_h (g := g3) (o := 0) h12 h1460 ?_
              refine samec_h (g := g1) (o := 0) h12 h1460 ?_
              refine spl_book ?_
              refine newBook_h (gB := g1399) (gS := g1397) h1460 fun g1462 w1463 h1463 => ?_
              refine stC_h (g := g1452) h1463 rfl (by decide) fun w1464 h1464 => ?_
              exact hJ _ _ ⟨g1452, g1462, g1399, g1397, rfl, h1464.perm (perm_f 1 rfl (perm_f 0 rfl (perm_f 0 rfl (perm_f 0 rfl (perm_f 0 rfl (perm_f 0 rfl (.refl _)))))))⟩
          · refine ⟨?_, ?_⟩
            · refine Fr.root_s fun w1466 he => ?_
              have h1466 := ext_of h1398 he
              refine samec_h (g := g3) (o := 0) h12 h1466 ?_
              refine samec_h (g := g1) (o := 0) h12 h1466 ?_
              refine ⟨?_, ?_⟩
              · refine mkGm_h ekI evB h1466 fun g1467 w1468 h1468 => ?_
                refine samec_h (g := g3) (o := 0) h12 h1468 ?_
                refine samec_h (g := g1) (o := 0) h12 h1468 ?_
                refine ⟨?_, ?_⟩
                · refine world_s fun w1470 he => ?_
                  have h1470 := ext_of h1468 he
                  refine samec_h (g := g3) (o := 0) h12 h1470 ?_
                  refine samec_h (g := g1) (o := 0) h12 h1470 ?_
                  refine ⟨?_, ?_⟩
                  · refine spl_beg hRl ?_
                    refine samec_h (g := g3) (o := 0) h12 h1470 ?_
                    refine samec_h (g := g1) (o := 0) h12 h1470 ?_
                    refine ⟨?_, ?_⟩
                    · refine gmPut_h (ek := ekI) (ev := evB) (k := 0) (y := (fRoot, (-1, 0))) mapB h1470 fun w1473 h1473 => ?_
                      refine samec_h (g := g3) (o := 0) h12 h1473 ?_
                      refine samec_h (g := g1) (o := 0) h12 h1473 ?_
                      refine ⟨?_, ?_⟩
                      · refine spl_book ?_
                        refine ⟨?_, ?_⟩
                        · refine newBook_h (gB := g1467) (gS := g1397) h1473 fun g1475 w1476 h1476 => ?_
                          refine newC_h h1476 fun g1477 w1478 h1478 => ?_
                          refine samec_h (g := g3) (o := 0) h12 h1478 ?_
                          refine samec_h (g := g1) (o := 0) h12 h1478 ?_
                          refine stC_h (g := g1477) h1478 rfl (by decide) fun w1479 h1479 => ?_
                          exact hJ _ _ ⟨g1477, g1475, g1467, g1397, rfl, h1479.perm (perm_f 0 rfl (perm_f 0 rfl (perm_f 0 rfl (perm_f 0 rfl (perm_f 0 rfl (perm_f 0 rfl (.refl _)))))))⟩
                        · refine newC_h h1473 fun g1480 w1481 h1481 => ?_
                          refine samec_h (g := g3) (o := 0) h12 h1481 ?_
                          refine samec_h (g := g1) (o := 0) h12 h1481 ?_
                          refine newBook_h (gB := g1467) (gS := g1397) h1481 fun g1482 w1483 h1483 => ?_
                          refine stC_h (g := g1480) h1483 rfl (by decide) fun w1484 h1484 => ?_
                          exact hJ _ _ ⟨g1480, g1482, g1467, g1397, rfl, h1484.perm (perm_f 1 rfl (perm_f 0 rfl (perm_f 0 rfl (perm_f 0 rfl (perm_f 0 rfl (perm_f 0 rfl (.refl _)))))))⟩
                      · refine newC_h h1473 fun g1485 w1486 h1486 => ?_
                        refine samec_h (g := g3) (o := 0) h12 h1486 ?_
                        refine samec_h (g := g1) (o := 0) h12 h1486 ?_
                        refine spl_book ?_
                        refine newBook_h (gB := g1467) (gS := g1397) h1486 fun g1488 w1489 h1489 => ?_
                        refine stC_h (g := g1485) h1489 rfl (by decide) fun w1490 h1490 => ?_
                        exact hJ _ _ ⟨g1485, g1488, g1467, g1397, rfl, h1490.perm (perm_f 1 rfl (perm_f 0 rfl (perm_f 0 rfl (perm_f 0 rfl (perm_f 0 rfl (perm_f 0 rfl (.refl _)))))))⟩
                    · refine newC_h h1470 fun g1491 w1492 h1492 => ?_
                      refine samec_h (g := g3) (o := 0) h12 h1492 ?_
                      refine samec_h (g := g1) (o := 0) h12 h1492 ?_
                      refine gmPut_h (ek := ekI) (ev := evB) (k := 0) (y := (fRoot, (-1, 0))) mapB h1492 fun w1493 h1493 => ?_
                      refine samec_h (g := g3) (o := 0) h12 h1493 ?_
                      refine samec_h (g := g1) (o := 0) h12 h1493 ?_
                      refine spl_book ?_
                      refine newBook_h (gB := g1467) (gS := g1397) h1493 fun g1495 w1496 h1496 => ?_
                      refine stC_h (g := g1491) h1496 rfl (by decide) fun w1497 h1497 => ?_
                      exact hJ _ _ ⟨g1491, g1495, g1467, g1397, rfl, h1497.perm (perm_f 1 rfl (perm_f 0 rfl (perm_f 0 rfl (perm_f 0 rfl (perm_f 0 rfl (perm_f 0 rfl (.refl _)))))))⟩
                  · refine newC_h h1470 fun g1498 w1499 h1499 => ?_
                    refine samec_h (g := g3) (o := 0) h12 h1499 ?_
                    refine samec_h (g := g1) (o := 0) h12 h1499 ?_
                    refine spl_beg hRl ?_
                    refine samec_h (g := g3) (o := 0) h12 h1499 ?_
                    refine samec_h (g := g1) (o := 0) h12 h1499 ?_
                    refine gmPut_h (ek := ekI) (ev := evB) (k := 0) (y := (fRoot, (-1, 0))) mapB h1499 fun w1502 h1502 => ?_
                    refine samec_h (g := g3) (o := 0) h12 h1502 ?_
                    refine samec_h (g := g1) (o := 0) h12 h1502 ?_
                    refine spl_book ?_
                    refine newBook_h (gB := g1467) (gS := g1397) h1502 fun g1504 w1505 h1505 => ?_
                    refine stC_h (g := g1498) h1505 rfl (by decide) fun w1506 h1506 => ?_
                    exact hJ _ _ ⟨g1498, g1504, g1467, g1397, rfl, h1506.perm (perm_f 1 rfl (perm_f 0 rfl (perm_f 0 rfl (perm_f 0 rfl (perm_f 0 rfl (perm_f 0 rfl (.refl _)))))))⟩
                · refine newC_h h1468 fun g1507 w1508 h1508 => ?_
                  refine samec_h (g := g3) (o := 0) h12 h1508 ?_
                  refine samec_h (g := g1) (o := 0) h12 h1508 ?_
                  refine world_s fun w1510 he => ?_
                  have h1510 := ext_of h1508 he
                  refine samec_h (g := g3) (o := 0) h12 h1510 ?_
                  refine samec_h (g := g1) (o := 0) h12 h1510 ?_
                  refine spl_beg hRl ?_
                  refine samec_h (g := g3) (o := 0) h12 h1510 ?_
                  refine samec_h (g := g1) (o := 0) h12 h1510 ?_
                  refine gmPut_h (ek := ekI) (ev := evB) (k := 0) (y := (fRoot, (-1, 0))) mapB h1510 fun w1513 h1513 => ?_
                  refine samec_h (g := g3) (o := 0) h12 h1513 ?_
                  refine samec_h (g := g1) (o := 0) h12 h1513 ?_
                  refine spl_book ?_
                  refine newBook_h (gB := g1467) (gS := g1397) h1513 fun g1515 w1516 h1516 => ?_
                  refine stC_h (g := g1507) h1516 rfl (by decide) fun w1517 h1517 => ?_
                  exact hJ _ _ ⟨g1507, g1515, g1467, g1397, rfl, h1517.perm (perm_f 1 rfl (perm_f 0 rfl (perm_f 0 rfl (perm_f 0 rfl (perm_f 0 rfl (perm_f 0 rfl (.refl _)))))))⟩
              · refine ⟨?_, ?_⟩
                · refine world_s fun w1519 he => ?_
                  have h1519 := ext_of h1466 he
                  refine samec_h (g := g3) (o := 0) h12 h1519 ?_
                  refine samec_h (g := g1) (o := 0) h12 h1519 ?_
                  refine ⟨?_, ?_⟩
                  · refine mkGm_h ekI evB h1519 fun g1520 w1521 h1521 => ?_
                    refine samec_h (g := g3) (o := 0) h12 h1521 ?_
                    refine samec_h (g := g1) (o := 0) h12 h1521 ?_
                    refine ⟨?_, ?_⟩
                    · refine spl_beg hRl ?_
                      refine samec_h (g := g3) (o := 0) h12 h1521 ?_
                      refine samec_h (g := g1) (o := 0) h12 h1521 ?_
                      refine ⟨?_, ?_⟩
                      · refine gmPut_h (ek := ekI) (ev := evB) (k := 0) (y := (fRoot, (-1, 0))) mapB h1521 fun w1524 h1524 => ?_
                        refine samec_h (g := g3) (o := 0) h12 h1524 ?_
                        refine samec_h (g := g1) (o := 0) h12 h1524 ?_
                        refine ⟨?_, ?_⟩
                        · refine spl_book ?_
                          refine ⟨?_, ?_⟩
                          · refine newBook_h (gB := g1520) (gS := g1397) h1524 fun g1526 w1527 h1527 => ?_
                            refine newC_h h1527 fun g1528 w1529 h1529 => ?_
                            refine samec_h (g := g3) (o := 0) h12 h1529 ?_
                            refine samec_h (g := g1) (o := 0) h12 h1529 ?_
                            refine stC_h (g := g1528) h1529 rfl (by decide) fun w1530 h1530 => ?_
                            exact hJ _ _ ⟨g1528, g1526, g1520, g1397, rfl, h1530.perm (perm_f 0 rfl (perm_f 0 rfl (perm_f 0 rfl (perm_f 0 rfl (perm_f 0 rfl (perm_f 0 rfl (.refl _)))))))⟩
                          · refine newC_h h1524 fun g1531 w1532 h1532 => ?_
                            refine samec_h (g := g3) (o := 0) h12 h1532 ?_
                            refine samec_h (g := g1) (o := 0) h12 h1532 ?_
                            refine newBook_h (gB := g1520) (gS := g1397) h1532 fun g1533 w1534 h1534 => ?_
                            refine stC_h (g := g1531) h1534 rfl (by decide) fun w1535 h1535 => ?_
                            exact hJ _ _ ⟨g1531, g1533, g1520, g1397, rfl, h1535.perm (perm_f 1 rfl (perm_f 0 rfl (perm_f 0 rfl (perm_f 0 rfl (perm_f 0 rfl (perm_f 0 rfl (.refl _)))))))⟩
                        · refine newC_h h1524 fun g1536 w1537 h1537 => ?_
                          refine samec_h (g := g3) (o := 0) h12 h1537 ?_
                          refine samec_h (g := g1) (o := 0) h12 h1537 ?_
                          refine spl_book ?_
                          refine newBook_h (gB := g1520) (gS := g1397) h1537 fun g1539 w1540 h1540 => ?_
                          refine stC_h (g := g1536) h1540 rfl (by decide) fun w1541 h1541 => ?_
                          exact hJ _ _ ⟨g1536, g1539, g1520, g1397, rfl, h1541.perm (perm_f 1 rfl (perm_f 0 rfl (perm_f 0 rfl (perm_f 0 rfl (perm_f 0 rfl (perm_f 0 rfl (.refl _)))))))⟩
                      · refine newC_h h1521 fun g1542 w1543 h1543 => ?_
                        refine samec_h (g := g3) (o := 0) h12 h1543 ?_
                        refine samec_h (g := g1) (o := 0) h12 h1543 ?_
                        refine gmPut_h (ek := ekI) (ev := evB) (k := 0) (y := (fRoot, (-1, 0))) mapB h1543 fun w1544 h1544 => ?_
                        refine samec_h (g := g3) (o := 0) h12 h1544 ?_
                        refine samec_h (g := g1) (o := 0) h12 h1544 ?_
                        refine spl_book ?_
                        refine newBook_h (gB := g1520) (gS := g1397) h1544 fun g1546 w1547 h1547 => ?_
                        refine stC_h (g := g1542) h1547 rfl (by decide) fun w1548 h1548 => ?_
                        exact hJ _ _ ⟨g1542, g1546, g1520, g1397, rfl, h1548.perm (perm_f 1 rfl (perm_f 0 rfl (perm_f 0 rfl (perm_f 0 rfl (perm_f 0 rfl (perm_f 0 rfl (.refl _)))))))⟩
                    · refine newC_h h1521 fun g1549 w1550 h1550 => ?_
                      refine samec_h (g := g3) (o := 0) h12 h1550 ?_
                      refine samec_h (g := g1) (o := 0) h12 h1550 ?_
                      refine spl_beg hRl ?_
                      refine samec_h (g := g3) (o := 0) h12 h1550 ?_
                      refine samec_h (g := g1) (o := 0) h12 h1550 ?_
                      refine gmPut_h (ek := ekI) (ev := evB) (k := 0) (y := (fRoot, (-1, 0))) mapB h1550 fun w1553 h1553 => ?_
                      refine samec_h (g := g3) (o := 0) h12 h1553 ?_
                      refine samec_h (g := g1) (o := 0) h12 h1553 ?_
                      refine spl_book ?_
                      refine newBook_h (gB := g1520) (gS := g1397) h1553 fun g1555 w1556 h1556 => ?_
                      refine stC_h (g := g1549) h1556 rfl (by decide) fun w1557 h1557 => ?_
                      exact hJ _ _ ⟨g1549, g1555, g1520, g1397, rfl, h1557.perm (perm_f 1 rfl (perm_f 0 rfl (perm_f 0 rfl (perm_f 0 rfl (perm_f 0 rfl (perm_f 0 rfl (.refl _)))))))⟩
                  · refine ⟨?_, ?_⟩
                    · refine spl_beg hRl ?_
                      refine samec_h (g := g3) (o := 0) h12 h1519 ?_
                      refine samec_h (g := g1) (o := 0) h12 h1519 ?_
                      refine ⟨?_, ?_⟩
                      · refine mkGm_h ekI evB h1519 fun g1560 w1561 h1561 => ?_
                        refine samec_h (g := g3) (o := 0) h12 h1561 ?_
                        refine samec_h (g := g1) (o := 0) h12 h1561 ?_
                        refine ⟨?_, ?_⟩
                        · refine gmPut_h (ek := ekI) (ev := evB) (k := 0) (y := (fRoot, (-1, 0))) mapB h1561 fun w1562 h1562 => ?_
                          refine samec_h (g := g3) (o := 0) h12 h1562 ?_
                          refine samec_h (g := g1) (o := 0) h12 h1562 ?_
                          refine ⟨?_, ?_⟩
                          · refine spl_book ?_
                            refine ⟨?_, ?_⟩
                            · refine newBook_h (gB := g1560) (gS := g1397) h1562 fun g1564 w1565 h1565 => ?_
                              refine newC_h h1565 fun g1566 w1567 h1567 => ?_
                              refine samec_h (g := g3) (o := 0) h12 h1567 ?_
                              refine samec_h (g := g1) (o := 0) h12 h1567 ?_
                              refine stC_h (g := g1566) h1567 rfl (by decide) fun w1568 h1568 => ?_
                              exact hJ _ _ ⟨g1566, g1564, g1560, g1397, rfl, h1568.perm (perm_f 0 rfl (perm_f 0 rfl (perm_f 0 rfl (perm_f 0 rfl (perm_f 0 rfl (perm_f 0 rfl (.refl _)))))))⟩
                            · refine newC_h h1562 fun g1569 w1570 h1570 => ?_
                              refine samec_h (g := g3) (o := 0) h12 h1570 ?_
                              refine samec_h (g := g1) (o := 0) h12 h1570 ?_
                              refine newBook_h (gB := g1560) (gS := g1397) h1570 fun g1571 w1572 h1572 => ?_
                              refine stC_h (g := g1569) h1572 rfl (by decide) fun w1573 h1573 => ?_
                              exact hJ _ _ ⟨g1569, g1571, g1560, g1397, rfl, h1573.perm (perm_f 1 rfl (perm_f 0 rfl (perm_f 0 rfl (perm_f 0 rfl (perm_f 0 rfl (perm_f 0 rfl (.refl _)))))))⟩
                          · refine newC_h h1562 fun g1574 w1575 h1575 => ?_
                            refine samec_h (g := g3) (o := 0) h12 h1575 ?_
                            refine samec_h (g := g1) (o := 0) h12 h1575 ?_
                            refine spl_book ?_
                            refine newBook_h (gB := g1560) (gS := g1397) h1575 fun g1577 w1578 h1578 => ?_
                            refine stC_h (g := g1574) h1578 rfl (by decide) fun w1579 h1579 => ?_
                            exact hJ _ _ ⟨g1574, g1577, g1560, g1397, rfl, h1579.perm (perm_f 1 rfl (perm_f 0 rfl (perm_f 0 rfl (perm_f 0 rfl (perm_f 0 rfl (perm_f 0 rfl (.refl _)))))))⟩
                        · refine newC_h h1561 fun g1580 w1581 h1581 => ?_
                          refine samec_h (g := g3) (o := 0) h12 h1581 ?_
                          refine samec_h (g := g1) (o := 0) h12 h1581 ?_
                          refine gmPut_h (ek := ekI) (ev := evB) (k := 0) (y := (fRoot, (-1, 0))) mapB h1581 fun w1582 h1582 => ?_
                          refine samec_h (g := g3) (o := 0) h12 h1582 ?_
                          refine samec_h (g := g1) (o := 0) h12 h1582 ?_
                          refine spl_book ?_
                          refine newBook_h (gB := g1560) (gS := g1397) h1582 fun g1584 w1585 h1585 => ?_
                          refine stC_h (g := g1580) h1585 rfl (by decide) fun w1586 h1586 => ?_
                          exact hJ _ _ ⟨g1580, g1584, g1560, g1397, rfl, h1586.perm (perm_f 1 rfl (perm_f 0 rfl (perm_f 0 rfl (perm_f 0 rfl (perm_f 0 rfl (perm_f 0 rfl (.refl _)))))))⟩
                      · refine newC_h h1519 fun g1587 w1588 h1588 => ?_
                        refine samec_h (g := g3) (o := 0) h12 h1588 ?_
                        refine samec_h (g := g1) (o := 0) h12 h1588 ?_
                        refine mkGm_h ekI evB h1588 fun g1589 w1590 h1590 => ?_
                        refine samec_h (g := g3) (o := 0) h12 h1590 ?_
                        refine samec_h (g := g1) (o := 0) h12 h1590 ?_
                        refine gmPut_h (ek := ekI) (ev := evB) (k := 0) (y := (fRoot, (-1, 0))) mapB h1590 fun w1591 h1591 => ?_
                        refine samec_h (g := g3) (o := 0) h12 h1591 ?_
                        refine samec_h (g := g1) (o := 0) h12 h1591 ?_
                        refine spl_book ?_
                        refine newBook_h (gB := g1589) (gS := g1397) h1591 fun g1593 w1594 h1594 => ?_
                        refine stC_h (g := g1587) h1594 rfl (by decide) fun w1595 h1595 => ?_
                        exact hJ _ _ ⟨g1587, g1593, g1589, g1397, rfl, h1595.perm (perm_f 2 rfl (perm_f 0 rfl (perm_f 0 rfl (perm_f 0 rfl (perm_f 0 rfl (perm_f 0 rfl (.refl _)))))))⟩
                    · refine newC_h h1519 fun g1596 w1597 h1597 => ?_
                      refine samec_h (g := g3) (o := 0) h12 h1597 ?_
                      refine samec_h (g := g1) (o := 0) h12 h1597 ?_
                      refine ⟨?_, ?_⟩
                      · refine mkGm_h ekI evB h1597 fun g1598 w1599 h1599 => ?_
                        refine samec_h (g := g3) (o := 0) h12 h1599 ?_
                        refine samec_h (g := g1) (o := 0) h12 h1599 ?_
                        refine spl_beg hRl ?_
                        refine samec_h (g := g3) (o := 0) h12 h1599 ?_
                        refine samec_h (g := g1) (o := 0) h12 h1599 ?_
                        refine gmPut_h (ek := ekI) (ev := evB) (k := 0) (y := (fRoot, (-1, 0))) mapB h1599 fun w1602 h1602 => ?_
                        refine samec_h (g := g3) (o := 0) h12 h1602 ?_
                        refine samec_h (g := g1) (o := 0) h12 h1602 ?_
                        refine spl_book ?_
                        refine newBook_h (gB := g1598) (gS := g1397) h1602 fun g1604 w1605 h1605 => ?_
                        refine stC_h (g := g1596) h1605 rfl (by decide) fun w1606 h1606 => ?_
                        exact hJ _ _ ⟨g1596, g1604, g1598, g1397, rfl, h1606.perm (perm_f 2 rfl (perm_f 0 rfl (perm_f 0 rfl (perm_f 0 rfl (perm_f 0 rfl (perm_f 0 rfl (.refl _)))))))⟩
                      · refine spl_beg hRl ?_
                        refine samec_h (g := g3) (o := 0) h12 h1597 ?_
                        refine samec_h (g := g1) (o := 0) h12 h1597 ?_
                        refine mkGm_h ekI evB h1597 fun g1609 w1610 h1610 => ?_
                        refine samec_h (g := g3) (o := 0) h12 h1610 ?_
                        refine samec_h (g := g1) (o := 0) h12 h1610 ?_
                        refine gmPut_h (ek := ekI) (ev := evB) (k := 0) (y := (fRoot, (-1, 0))) mapB h1610 fun w1611 h1611 => ?_
                        refine samec_h (g := g3) (o := 0) h12 h1611 ?_
                        refine samec_h (g := g1) (o := 0) h12 h1611 ?_
                        refine spl_book ?_
                        refine newBook_h (gB := g1609) (gS := g1397) h1611 fun g1613 w1614 h1614 => ?_
                        refine stC_h (g := g1596) h1614 rfl (by decide) fun w1615 h1615 => ?_
                        exact hJ _ _ ⟨g1596, g1613, g1609, g1397, rfl, h1615.perm (perm_f 2 rfl (perm_f 0 rfl (perm_f 0 rfl (perm_f 0 rfl (perm_f 0 rfl (perm_f 0 rfl (.refl _)))))))⟩
                · refine newC_h h1466 fun g1616 w1617 h1617 => ?_
                  refine samec_h (g := g3) (o := 0) h12 h1617 ?_
                  refine samec_h (g := g1) (o := 0) h12 h1617 ?_
                  refine ⟨?_, ?_⟩
                  · refine mkGm_h ekI evB h1617 fun g1618 w1619 h1619 => ?_
                    refine samec_h (g := g3) (o := 0) h12 h1619 ?_
                    refine samec_h (g := g1) (o := 0) h12 h1619 ?_
                    refine world_s fun w1621 he => ?_
                    have h1621 := ext_of h1619 he
                    refine samec_h (g := g3) (o := 0) h12 h1621 ?_
                    refine samec_h (g := g1) (o := 0) h12 h1621 ?_
                    refine spl_beg hRl ?_
                    refine samec_h (g := g3) (o := 0) h12 h1621 ?_
                    refine samec_h (g := g1) (o := 0) h12 h1621 ?_
                    refine gmPut_h (ek := ekI) (ev := evB) (k := 0) (y := (fRoot, (-1, 0))) mapB h1621 fun w1624 h1624 => ?_
                    refine samec_h (g := g3) (o := 0) h12 h1624 ?_
                    refine samec_h (g := g1) (o := 0) h12 h1624 ?_
                    refine spl_book ?_
                    refine newBook_h (gB := g1618) (gS := g1397) h1624 fun g1626 w1627 h1627 => ?_
                    refine stC_h (g := g1616) h1627 rfl (by decide) fun w1628 h1628 => ?_
                    exact hJ _ _ ⟨g1616, g1626, g1618, g1397, rfl, h1628.perm (perm_f 2 rfl (perm_f 0 rfl (perm_f 0 rfl (perm_f 0 rfl (perm_f 0 rfl (perm_f 0 rfl (.refl _)))))))⟩
                  · refine world_s fun w1630 he => ?_
                    have h1630 := ext_of h1617 he
                    refine samec_h (g := g3) (o := 0) h12 h1630 ?_
                    refine samec_h (g := g1) (o := 0) h12 h1630 ?_
                    refine ⟨?_, ?_⟩
                    · refine mkGm_h ekI evB h1630 fun g1631 w1632 h1632 => ?_
                      refine samec_h (g := g3) (o := 0) h12 h1632 ?_
                      refine samec_h (g := g1) (o := 0) h12 h1632 ?_
                      refine spl_beg hRl ?_
                      refine samec_h (g := g3) (o := 0) h12 h1632 ?_
                      refine samec_h (g := g1) (o := 0) h12 h1632 ?_
                      refine gmPut_h (ek := ekI) (ev := evB) (k := 0) (y := (fRoot, (-1, 0))) mapB h1632 fun w1635 h1635 => ?_
                      refine samec_h (g := g3) (o := 0) h12 h1635 ?_
                      refine samec_h (g := g1) (o := 0) h12 h1635 ?_
                      refine spl_book ?_
                      refine newBook_h (gB := g1631) (gS := g1397) h1635 fun g1637 w1638 h1638 => ?_
                      refine stC_h (g := g1616) h1638 rfl (by decide) fun w1639 h1639 => ?_
                      exact hJ _ _ ⟨g1616, g1637, g1631, g1397, rfl, h1639.perm (perm_f 2 rfl (perm_f 0 rfl (perm_f 0 rfl (perm_f 0 rfl (perm_f 0 rfl (perm_f 0 rfl (.refl _)))))))⟩
                    · refine spl_beg hRl ?_
                      refine samec_h (g := g3) (o := 0) h12 h1630 ?_
                      refine samec_h (g := g1) (o := 0) h12 h1630 ?_
                      refine mkGm_h ekI evB h1630 fun g1642 w1643 h1643 => ?_
                      refine samec_h (g := g3) (o := 0) h12 h1643 ?_
                      refine samec_h (g := g1) (o := 0) h12 h1643 ?_
                      refine gmPut_h (ek := ekI) (ev := evB) (k := 0) (y := (fRoot, (-1, 0))) mapB h1643 fun w1644 h1644 => ?_
                      refine samec_h (g := g3) (o := 0) h12 h1644 ?_
                      refine samec_h (g := g1) (o := 0) h12 h1644 ?_
                      refine spl_book ?_
                      refine newBook_h (gB := g1642) (gS := g1397) h1644 fun g1646 w1647 h1647 => ?_
                      refine stC_h (g := g1616) h1647 rfl (by decide) fun w1648 h1648 => ?_
                      exact hJ _ _ ⟨g1616, g1646, g1642, g1397, rfl, h1648.perm (perm_f 2 rfl (perm_f 0 rfl (perm_f 0 rfl (perm_f 0 rfl (perm_f 0 rfl (perm_f 0 rfl (.refl _)))))))⟩
            · refine newC_h h1398 fun g1649 w1650 h1650 => ?_
              refine samec_h (g := g3) (o := 0) h12 h1650 ?_
              refine samec_h (g := g1) (o := 0) h12 h1650 ?_
              refine ⟨?_, ?_⟩
              · refine mkGm_h ekI evB h1650 fun g1651 w1652 h1652 => ?_
                refine samec_h (g := g3) (o := 0) h12 h1652 ?_
                refine samec_h (g := g1) (o := 0) h12 h1652 ?_
                refine Fr.root_s fun w1654 he => ?_
                have h1654 := ext_of h1652 he
                refine samec_h (g := g3) (o := 0) h12 h1654 ?_
                refine samec_h (g := g1) (o := 0) h12 h1654 ?_
                refine world_s fun w1656 he => ?_
                have h1656 := ext_of h1654 he
                refine samec_h (g := g3) (o := 0) h12 h1656 ?_
                refine samec_h (g := g1) (o := 0) h12 h1656 ?_
                refine spl_beg hRl ?_
                refine samec_h (g := g3) (o := 0) h12 h1656 ?_
                refine samec_h (g := g1) (o := 0) h12 h1656 ?_
                refine gmPut_h (ek := ekI) (ev := evB) (k := 0) (y := (fRoot, (-1, 0))) mapB h1656 fun w1659 h1659 => ?_
                refine samec_h (g := g3) (o := 0) h12 h1659 ?_
                refine samec_h (g := g1) (o := 0) h12 h1659 ?_
                refine spl_book ?_
                refine newBook_h (gB := g1651) (gS := g1397) h1659 fun g1661 w1662 h1662 => ?_
                refine stC_h (g := g1649) h1662 rfl (by decide) fun w1663 h1663 => ?_
                exact hJ _ _ ⟨g1649, g1661, g1651, g1397, rfl, h1663.perm (perm_f 2 rfl (perm_f 0 rfl (perm_f 0 rfl (perm_f 0 rfl (perm_f 0 rfl (perm_f 0 rfl (.refl _)))))))⟩
              · refine Fr.root_s fun w1665 he => ?_
                have h1665 := ext_of h1650 he
                refine samec_h (g := g3) (o := 0) h12 h1665 ?_
                refine samec_h (g := g1) (o := 0) h12 h1665 ?_
                refine ⟨?_, ?_⟩
                · refine mkGm_h ekI evB h1665 fun g1666 w1667 h1667 => ?_
                  refine samec_h (g := g3) (o := 0) h12 h1667 ?_
                  refine samec_h (g := g1) (o := 0) h12 h1667 ?_
                  refine world_s fun w1669 he => ?_
                  have h1669 := ext_of h1667 he
                  refine samec_h (g := g3) (o := 0) h12 h1669 ?_
                  refine samec_h (g := g1) (o := 0) h12 h1669 ?_
                  refine spl_beg hRl ?_
                  refine samec_h (g := g3) (o := 0) h12 h1669 ?_
                  refine samec_h (g := g1) (o := 0) h12 h1669 ?_
                  refine gmPut_h (ek := ekI) (ev := evB) (k := 0) (y := (fRoot, (-1, 0))) mapB h1669 fun w1672 h1672 => ?_
                  refine samec_h (g := g3) (o := 0) h12 h1672 ?_
                  refine samec_h (g := g1) (o := 0) h12 h1672 ?_
                  refine spl_book ?_
                  refine newBook_h (gB := g1666) (gS := g1397) h1672 fun g1674 w1675 h1675 => ?_
                  refine stC_h (g := g1649) h1675 rfl (by decide) fun w1676 h1676 => ?_
                  exact hJ _ _ ⟨g1649, g1674, g1666, g1397, rfl, h1676.perm (perm_f 2 rfl (perm_f 0 rfl (perm_f 0 rfl (perm_f 0 rfl (perm_f 0 rfl (perm_f 0 rfl (.refl _)))))))⟩
                · refine world_s fun w1678 he => ?_
                  have h1678 := ext_of h1665 he
                  refine samec_h (g := g3) (o := 0) h12 h1678 ?_
                  refine samec_h (g := g1) (o := 0) h12 h1678 ?_
                  refine ⟨?_, ?_⟩
                  · refine mkGm_h ekI evB h1678 fun g1679 w1680 h1680 => ?_
                    refine samec_h (g := g3) (o := 0) h12 h1680 ?_
                    refine samec_h (g := g1) (o := 0) h12 h1680 ?_
                    refine spl_beg hRl ?_
                    refine samec_h (g := g3) (o := 0) h12 h1680 ?_
                    refine samec_h (g := g1) (o := 0) h12 h1680 ?_
                    refine gmPut_h (ek := ekI) (ev := evB) (k := 0) (y := (fRoot, (-1, 0))) mapB h1680 fun w1683 h1683 => ?_
                    refine samec_h (g := g3) (o := 0) h12 h1683 ?_
                    refine samec_h (g := g1) (o := 0) h12 h1683 ?_
                    refine spl_book ?_
                    refine newBook_h (gB := g1679) (gS := g1397) h1683 fun g1685 w1686 h1686 => ?_
                    refine stC_h (g := g1649) h1686 rfl (by decide) fun w1687 h1687 => ?_
                    exact hJ _ _ ⟨g1649, g1685, g1679, g1397, rfl, h1687.perm (perm_f 2 rfl (perm_f 0 rfl (perm_f 0 rfl (perm_f 0 rfl (perm_f 0 rfl (perm_f 0 rfl (.refl _)))))))⟩
                  · refine spl_beg hRl ?_
                    refine samec_h (g := g3) (o := 0) h12 h1678 ?_
                    refine samec_h (g := g1) (o := 0) h12 h1678 ?_
                    refine mkGm_h ekI evB h1678 fun g1690 w1691 h1691 => ?_
                    refine samec_h (g := g3) (o := 0) h12 h1691 ?_
                    refine samec_h (g := g1) (o := 0) h12 h1691 ?_
                    refine gmPut_h (ek := ekI) (ev := evB) (k := 0) (y := (fRoot, (-1, 0))) mapB h1691 fun w1692 h1692 => ?_
                    refine samec_h (g := g3) (o := 0) h12 h1692 ?_
                    refine samec_h (g := g1) (o := 0) h12 h1692 ?_
                    refine spl_book ?_
                    refine newBook_h (gB := g1690) (gS := g1397) h1692 fun g1694 w1695 h1695 => ?_
                    refine stC_h (g := g1649) h1695 rfl (by decide) fun w1696 h1696 => ?_
                    exact hJ _ _ ⟨g1649, g1694, g1690, g1397, rfl, h1696.perm (perm_f 2 rfl (perm_f 0 rfl (perm_f 0 rfl (perm_f 0 rfl (perm_f 0 rfl (perm_f 0 rfl (.refl _)))))))⟩
        · refine newC_h h12 fun g1697 w1698 h1698 => ?_
          refine samec_h (g := g3) (o := 0) h12 h1698 ?_
          refine samec_h (g := g1) (o := 0) h12 h1698 ?_
          refine ⟨?_, ?_⟩
          · refine mkGm_h ekI evB h1698 fun g1699 w1700 h1700 => ?_
            refine samec_h (g := g3) (o := 0) h12 h1700 ?_
            refine samec_h (g := g1) (o := 0) h12 h1700 ?_
            refine ⟨?_, ?_⟩
            · refine Fr.root_s fun w1702 he => ?_
              have h1702 := ext_of h1700 he
              refine samec_h (g := g3) (o := 0) h12 h1702 ?_
              refine samec_h (g := g1) (o := 0) h12 h1702 ?_
              refine ⟨?_, ?_⟩
              · refine world_s fun w1704 he => ?_
                have h1704 := ext_of h1702 he
                refine samec_h (g := g3) (o := 0) h12 h1704 ?_
                refine samec_h (g := g1) (o := 0) h12 h1704 ?_
                refine ⟨?_, ?_⟩
                · refine spl_beg hRl ?_
                  refine samec_h (g := g3) (o := 0) h12 h1704 ?_
                  refine samec_h (g := g1) (o := 0) h12 h1704 ?_
                  refine ⟨?_, ?_⟩
                  · refine gmPut_h (ek := ekI) (ev := evB) (k := 0) (y := (fRoot, (-1, 0))) mapB h1704 fun w1707 h1707 => ?_
                    refine samec_h (g := g3) (o := 0) h12 h1707 ?_
                    refine samec_h (g := g1) (o := 0) h12 h1707 ?_
                    refine mkGm_h ekP evS h1707 fun g1708 w1709 h1709 => ?_
                    refine samec_h (g := g3) (o := 0) h12 h1709 ?_
                    refine samec_h (g := g1) (o := 0) h12 h1709 ?_
                    refine spl_book ?_
                    refine newBook_h (gB := g1699) (gS := g1708) h1709 fun g1711 w1712 h1712 => ?_
                    refine stC_h (g := g1697) h1712 rfl (by decide) fun w1713 h1713 => ?_
                    exact hJ _ _ ⟨g1697, g1711, g1699, g1708, rfl, h1713.perm (perm_f 3 rfl (perm_f 0 rfl (perm_f 1 rfl (perm_f 0 rfl (perm_f 0 rfl (perm_f 0 rfl (.refl _)))))))⟩
                  · refine mkGm_h ekP evS h1704 fun g1714 w1715 h1715 => ?_
                    refine samec_h (g := g3) (o := 0) h12 h1715 ?_
                    refine samec_h (g := g1) (o := 0) h12 h1715 ?_
                    refine gmPut_h (ek := ekI) (ev := evB) (k := 0) (y := (fRoot, (-1, 0))) mapB h1715 fun w1716 h1716 => ?_
                    refine samec_h (g := g3) (o := 0) h12 h1716 ?_
                    refine samec_h (g := g1) (o := 0) h12 h1716 ?_
                    refine spl_book ?_
                    refine newBook_h (gB := g1699) (gS := g1714) h1716 fun g1718 w1719 h1719 => ?_
                    refine stC_h (g := g1697) h1719 rfl (by decide) fun w1720 h1720 => ?_
                    exact hJ _ _ ⟨g1697, g1718, g1699, g1714, rfl, h1720.perm (perm_f 3 rfl (perm_f 0 rfl (perm_f 1 rfl (perm_f 0 rfl (perm_f 0 rfl (perm_f 0 rfl (.refl _)))))))⟩
                · refine mkGm_h ekP evS h1704 fun g1721 w1722 h1722 => ?_
                  refine samec_h (g := g3) (o := 0) h12 h1722 ?_
                  refine samec_h (g := g1) (o := 0) h12 h1722 ?_
                  refine spl_beg hRl ?_
                  refine samec_h (g := g3) (o := 0) h12 h1722 ?_
                  refine samec_h (g := g1) (o := 0) h12 h1722 ?_
                  refine gmPut_h (ek := ekI) (ev := evB) (k := 0) (y := (fRoot, (-1, 0))) mapB h1722 fun w1725 h1725 => ?_
                  refine samec_h (g := g3) (o := 0) h12 h1725 ?_
                  refine samec_h (g := g1) (o := 0) h12 h1725 ?_
                  refine spl_book ?_
                  refine newBook_h (gB := g1699) (gS := g1721) h1725 fun g1727 w1728 h1728 => ?_
                  refine stC_h (g := g1697) h1728 rfl (by decide) fun w1729 h1729 => ?_
                  exact hJ _ _ ⟨g1697, g1727, g1699, g1721, rfl, h1729.perm (perm_f 3 rfl (perm_f 0 rfl (perm_f 1 rfl (perm_f 0 rfl (perm_f 0 rfl (perm_f 0 rfl (.refl _)))))))⟩
              · refine mkGm_h ekP evS h1702 fun g1730 w1731 h1731 => ?_
                refine samec_h (g := g3) (o := 0) h12 h1731 ?_
                refine samec_h (g := g1) (o := 0) h12 h1731 ?_
                refine world_s fun w1733 he => ?_
                have h1733 := ext_of h1731 he
                refine samec_h (g := g3) (o := 0) h12 h1733 ?_
                refine samec_h (g := g1) (o := 0) h12 h1733 ?_
                refine spl_beg hRl ?_
                refine samec_h (g := g3) (o := 0) h12 h1733 ?_
                refine samec_h (g := g1) (o := 0) h12 h1733 ?_
                refine gmPut_h (ek := ekI) (ev := evB) (k := 0) (y := (fRoot, (-1, 0))) mapB h1733 fun w1736 h1736 => ?_
                refine samec_h (g := g3) (o := 0) h12 h1736 ?_
                refine samec_h (g := g1) (o := 0) h12 h1736 ?_
                refine spl_book ?_
                refine newBook_h (gB := g1699) (gS := g1730) h1736 fun g1738 w1739 h1739 => ?_
                refine stC_h (g := g1697) h1739 rfl (by decide) fun w1740 h1740 => ?_
                exact hJ _ _ ⟨g1697, g1738, g1699, g1730, rfl, h1740.perm (perm_f 3 rfl (perm_f 0 rfl (perm_f 1 rfl (perm_f 0 rfl (perm_f 0 rfl (perm_f 0 rfl (.refl _)))))))⟩
            · refine mkGm_h ekP evS h1700 fun g1741 w1742 h1742 => ?_
              refine samec_h (g := g3) (o := 0) h12 h1742 ?_
              refine samec_h (g := g1) (o := 0) h12 h1742 ?_
              refine Fr.root_s fun w1744 he => ?_
              have h1744 := ext_of h1742 he
              refine samec_h (g := g3) (o := 0) h12 h1744 ?_
              refine samec_h (g := g1) (o := 0) h12 h1744 ?_
              refine world_s fun w1746 he => ?_
              have h1746 := ext_of h1744 he
              refine samec_h (g := g3) (o := 0) h12 h1746 ?_
              refine samec_h (g := g1) (o := 0) h12 h1746 ?_
              refine spl_beg hRl ?_
              refine samec_h (g := g3) (o := 0) h12 h1746 ?_
              refine samec_h (g := g1) (o := 0) h12 h1746 ?_
              refine gmPut_h (ek := ekI) (ev := evB) (k := 0) (y := (fRoot, (-1, 0))) mapB h1746 fun w1749 h1749 => ?_
              refine samec_h (g := g3) (o := 0) h12 h1749 ?_
              refine samec_h (g := g1) (o := 0) h12 h1749 ?_
              refine spl_book ?_
              refine newBook_h (gB := g1699) (gS := g1741) h1749 fun g1751 w1752 h1752 => ?_
              refine stC_h (g := g1697) h1752 rfl (by decide) fun w1753 h1753 => ?_
              exact hJ _ _ ⟨g1697, g1751, g1699, g1741, rfl, h1753.perm (perm_f 3 rfl (perm_f 0 rfl (perm_f 1 rfl (perm_f 0 rfl (perm_f 0 rfl (perm_f 0 rfl (.refl _)))))))⟩
          · refine ⟨?_, ?_⟩
            · refine Fr.root_s fun w1755 he => ?_
              have h1755 := ext_of h1698 he
              refine samec_h (g := g3) (o := 0) h12 h1755 ?_
              refine samec_h (g := g1) (o := 0) h12 h1755 ?_
              refine ⟨?_, ?_⟩
              · refine mkGm_h ekI evB h1755 fun g1756 w1757 h1757 => ?_
                refine samec_h (g := g3) (o := 0) h12 h1757 ?_
                refine samec_h (g := g1) (o := 0) h12 h1757 ?_
                refine ⟨?_, ?_⟩
                · refine world_s fun w1759 he => ?_
                  have h1759 := ext_of h1757 he
                  refine samec_h (g := g3) (o := 0) h12 h1759 ?_
                  refine samec_h (g := g1) (o := 0) h12 h1759 ?_
                  refine ⟨?_, ?_⟩
                  · refine spl_beg hRl ?_
                    refine samec_h (g := g3) (o := 0) h12 h1759 ?_
                    refine samec_h (g := g1) (o := 0) h12 h1759 ?_
                    refine ⟨?_, ?_⟩
                    · refine gmPut_h (ek := ekI) (ev := evB) (k := 0) (y := (fRoot, (-1, 0))) mapB h1759 fun w1762 h1762 => ?_
                      refine samec_h (g := g3) (o := 0) h12 h1762 ?_
                      refine samec_h (g := g1) (o := 0) h12 h1762 ?_
                      refine mkGm_h ekP evS h1762 fun g1763 w1764 h1764 => ?_
                      refine samec_h (g := g3) (o := 0) h12 h1764 ?_
                      refine samec_h (g := g1) (o := 0) h12 h1764 ?_
                      refine spl_book ?_
                      refine newBook_h (gB := g1756) (gS := g1763) h1764 fun g1766 w1767 h1767 => ?_
                      refine stC_h (g := g1697) h1767 rfl (by decide) fun w1768 h1768 => ?_
                      exact hJ _ _ ⟨g1697, g1766, g1756, g1763, rfl, h1768.perm (perm_f 3 rfl (perm_f 0 rfl (perm_f 1 rfl (perm_f 0 rfl (perm_f 0 rfl (perm_f 0 rfl (.refl _)))))))⟩
                    · refine mkGm_h ekP evS h1759 fun g1769 w1770 h1770 => ?_
                      refine samec_h (g := g3) (o := 0) h12 h1770 ?_
                      refine samec_h (g := g1) (o := 0) h12 h1770 ?_
                      refine gmPut_h (ek := ekI) (ev := evB) (k := 0) (y := (fRoot, (-1, 0))) mapB h1770 fun w1771 h1771 => ?_
                      refine samec_h (g := g3) (o := 0) h12 h1771 ?_
                      refine samec_h (g := g1) (o := 0) h12 h1771 ?_
                      refine spl_book ?_
                      refine newBook_h (gB := g1756) (gS := g1769) h1771 fun g1773 w1774 h1774 => ?_
                      refine stC_h (g := g1697) h1774 rfl (by decide) fun w1775 h1775 => ?_
                      exact hJ _ _ ⟨g1697, g1773, g1756, g1769, rfl, h1775.perm (perm_f 3 rfl (perm_f 0 rfl (perm_f 1 rfl (perm_f 0 rfl (perm_f 0 rfl (perm_f 0 rfl (.refl _)))))))⟩
                  · refine mkGm_h ekP evS h1759 fun g1776 w1777 h1777 => ?_
                    refine samec_h (g := g3) (o := 0) h12 h1777 ?_
                    refine samec_h (g := g1) (o := 0) h12 h1777 ?_
                    refine spl_beg hRl ?_
                    refine samec_h (g := g3) (o := 0) h12 h1777 ?_
                    refine samec_h (g := g1) (o := 0) h12 h1777 ?_
                    refine gmPut_h (ek := ekI) (ev := evB) (k := 0) (y := (fRoot, (-1, 0))) mapB h1777 fun w1780 h1780 => ?_
                    refine samec_h (g := g3) (o := 0) h12 h1780 ?_
                    refine samec_h (g := g1) (o := 0) h12 h1780 ?_
                    refine spl_book ?_
                    refine newBook_h (gB := g1756) (gS := g1776) h1780 fun g1782 w1783 h1783 => ?_
                    refine stC_h (g := g1697) h1783 rfl (by decide) fun w1784 h1784 => ?_
                    exact hJ _ _ ⟨g1697, g1782, g1756, g1776, rfl, h1784.perm (perm_f 3 rfl (perm_f 0 rfl (perm_f 1 rfl (perm_f 0 rfl (perm_f 0 rfl (perm_f 0 rfl (.refl _)))))))⟩
                · refine mkGm_h ekP evS h1757 fun g1785 w1786 h1786 => ?_
                  refine samec_h (g := g3) (o := 0) h12 h1786 ?_
                  refine samec_h (g := g1) (o := 0) h12 h1786 ?_
                  refine world_s fun w1788 he => ?_
                  have h1788 := ext_of h1786 he
                  refine samec_h (g := g3) (o := 0) h12 h1788 ?_
                  refine samec_h (g := g1) (o := 0) h12 h1788 ?_
                  refine spl_beg hRl ?_
                  refine samec_h (g := g3) (o := 0) h12 h1788 ?_
                  refine samec_h (g := g1) (o := 0) h12 h1788 ?_
                  refine gmPut_h (ek := ekI) (ev := evB) (k := 0) (y := (fRoot, (-1, 0))) mapB h1788 fun w1791 h1791 => ?_
                  refine samec_h (g := g3) (o := 0) h12 h1791 ?_
                  refine samec_h (g := g1) (o := 0) h12 h1791 ?_
                  refine spl_book ?_
                  refine newBook_h (gB := g1756) (gS := g1785) h1791 fun g1793 w1794 h1794 => ?_
                  refine stC_h (g := g1697) h1794 rfl (by decide) fun w1795 h1795 => ?_
                  exact hJ _ _ ⟨g1697, g1793, g1756, g1785, rfl, h1795.perm (perm_f 3 rfl (perm_f 0 rfl (perm_f 1 rfl (perm_f 0 rfl (perm_f 0 rfl (perm_f 0 rfl (.refl _)))))))⟩
              · refine ⟨?_, ?_⟩
                · refine world_s fun w1797 he => ?_
                  have h1797 := ext_of h1755 he
                  refine samec_h (g := g3) (o := 0) h12 h1797 ?_
                  refine samec_h (g := g1) (o := 0) h12 h1797 ?_
                  refine ⟨?_, ?_⟩
                  · refine mkGm_h ekI evB h1797 fun g1798 w1799 h1799 => ?_
                    refine samec_h (g := g3) (o := 0) h12 h1799 ?_
                    refine samec_h (g := g1) (o := 0) h12 h1799 ?_
                    refine ⟨?_, ?_⟩
                    · refine spl_beg hRl ?_
                      refine samec_h (g := g3) (o := 0) h12 h1799 ?_
                      refine samec_h (g := g1) (o := 0) h12 h1799 ?_
                      refine ⟨?_, ?_⟩
                      · refine gmPut_h (ek := ekI) (ev := evB) (k := 0) (y := (fRoot, (-1, 0))) mapB h1799 fun w1802 h1802 => ?_
                        refine samec_h (g := g3) (o := 0) h12 h1802 ?_
                        refine samec_h (g := g1) (o := 0) h12 h1802 ?_
                        refine mkGm_h ekP evS h1802 fun g1803 w1804 h1804 => ?_
                        refine samec_h (g := g3) (o := 0) h12 h1804 ?_
                        refine samec_h (g := g1) (o := 0) h12 h1804 ?_
                        refine spl_book ?_
                        refine newBook_h (gB := g1798) (gS := g1803) h1804 fun g1806 w1807 h1807 => ?_
                        refine stC_h (g := g1697) h1807 rfl (by decide) fun w1808 h1808 => ?_
                        exact hJ _ _ ⟨g1697, g1806, g1798, g1803, rfl, h1808.perm (perm_f 3 rfl (perm_f 0 rfl (perm_f 1 rfl (perm_f 0 rfl (perm_f 0 rfl (perm_f 0 rfl (.refl _)))))))⟩
                      · refine mkGm_h ekP evS h1799 fun g1809 w1810 h1810 => ?_
                        refine samec_h (g := g3) (o := 0) h12 h1810 ?_
                        refine samec_h (g := g1) (o := 0) h12 h1810 ?_
                        refine gmPut_h (ek := ekI) (ev := evB) (k := 0) (y := (fRoot, (-1, 0))) mapB h1810 fun w1811 h1811 => ?_
                        refine samec_h (g := g3) (o := 0) h12 h1811 ?_
                        refine samec_h (g := g1) (o := 0) h12 h1811 ?_
                        refine spl_book ?_
                        refine newBook_h (gB := g1798) (gS := g1809) h1811 fun g1813 w1814 h1814 => ?_
                        refine stC_h (g := g1697) h1814 rfl (by decide) fun w1815 h1815 => ?_
                        exact hJ _ _ ⟨g1697, g1813, g1798, g1809, rfl, h1815.perm (perm_f 3 rfl (perm_f 0 rfl (perm_f 1 rfl (perm_f 0 rfl (perm_f 0 rfl (perm_f 0 rfl (.refl _)))))))⟩
                    · refine mkGm_h ekP evS h1799 fun g1816 w1817 h1817 => ?_
                      refine samec_h (g := g3) (o := 0) h12 h1817 ?_
                      refine samec_h (g := g1) (o := 0) h12 h1817 ?_
                      refine spl_beg hRl ?_
                      refine samec_h (g := g3) (o := 0) h12 h1817 ?_
                      refine samec_h (g := g1) (o := 0) h12 h1817 ?_
                      refine gmPut_h (ek := ekI) (ev := evB) (k := 0) (y := (fRoot, (-1, 0))) mapB h1817 fun w1820 h1820 => ?_
                      refine samec_h (g := g3) (o := 0) h12 h1820 ?_
                      refine samec_h (g := g1) (o := 0) h12 h1820 ?_
                      refine spl_book ?_
                      refine newBook_h (gB := g1798) (gS := g1816) h1820 fun g1822 w1823 h1823 => ?_
                      refine stC_h (g := g1697) h1823 rfl (by decide) fun w1824 h1824 => ?_
                      exact hJ _ _ ⟨g1697, g1822, g1798, g1816, rfl, h1824.perm (perm_f 3 rfl (perm_f 0 rfl (perm_f 1 rfl (perm_f 0 rfl (perm_f 0 rfl (perm_f 0 rfl (.refl _)))))))⟩
                  · refine ⟨?_, ?_⟩
                    · refine spl_beg hRl ?_
                      refine samec_h (g := g3) (o := 0) h12 h1797 ?_
                      refine samec_h (g := g1) (o := 0) h12 h1797 ?_
                      refine ⟨?_, ?_⟩
                      · refine mkGm_h ekI evB h1797 fun g1827 w1828 h1828 => ?_
                        refine samec_h (g := g3) (o := 0) h12 h1828 ?_
                        refine samec_h (g := g1) (o := 0) h12 h1828 ?_
                        refine ⟨?_, ?_⟩
                        · refine gmPut_h (ek := ekI) (ev := evB) (k := 0) (y := (fRoot, (-1, 0))) mapB h1828 fun w1829 h1829 => ?_
                          refine samec_h (g := g3) (o := 0) h12 h1829 ?_
                          refine samec_h (g := g1) (o := 0) h12 h1829 ?_
                          refine mkGm_h ekP evS h1829 fun g1830 w1831 h1831 => ?_
                          refine samec_h (g := g3) (o := 0) h12 h1831 ?_
                          refine samec_h (g := g1) (o := 0) h12 h1831 ?_
                          refine spl_book ?_
                          refine newBook_h (gB := g1827) (gS := g1830) h1831 fun g1833 w1834 h1834 => ?_
                          refine stC_h (g := g1697) h1834 rfl (by decide) fun w1835 h1835 => ?_
                          exact hJ _ _ ⟨g1697, g1833, g1827, g1830, rfl, h1835.perm (perm_f 3 rfl (perm_f 0 rfl (perm_f 1 rfl (perm_f 0 rfl (perm_f 0 rfl (perm_f 0 rfl (.refl _)))))))⟩
                        · refine mkGm_h ekP evS h1828 fun g1836 w1837 h1837 => ?_
                          refine samec_h (g := g3) (o := 0) h12 h1837 ?_
                          refine samec_h (g := g1) (o := 0) h12 h1837 ?_
                          refine gmPut_h (ek := ekI) (ev := evB) (k := 0) (y := (fRoot, (-1, 0))) mapB h1837 fun w1838 h1838 => ?_
                          refine samec_h (g := g3) (o := 0) h12 h1838 ?_
                          refine samec_h (g := g1) (o := 0) h12 h1838 ?_
                          refine spl_book ?_
                          refine newBook_h (gB := g1827) (gS := g1836) h1838 fun g1840 w1841 h1841 => ?_
                          refine stC_h (g := g1697) h1841 rfl (by decide) fun w1842 h1842 => ?_
                          exact hJ _ _ ⟨g1697, g1840, g1827, g1836, rfl, h1842.perm (perm_f 3 rfl (perm_f 0 rfl (perm_f 1 rfl (perm_f 0 rfl (perm_f 0 rfl (perm_f 0 rfl (.refl _)))))))⟩
                      · refine mkGm_h ekP evS h1797 fun g1843 w1844 h1844 => ?_
                        refine samec_h (g := g3) (o := 0) h12 h1844 ?_
                        refine samec_h (g := g1) (o := 0) h12 h1844 ?_
                        refine mkGm_h ekI evB h1844 fun g1845 w1846 h1846 => ?_
                        refine samec_h (g := g3) (o := 0) h12 h1846 ?_
                        refine samec_h (g := g1) (o := 0) h12 h1846 ?_
                        refine gmPut_h (ek := ekI) (ev := evB) (k := 0) (y := (fRoot, (-1, 0))) mapB h1846 fun w1847 h1847 => ?_
                        refine samec_h (g := g3) (o := 0) h12 h1847 ?_
                        refine samec_h (g := g1) (o := 0) h12 h1847 ?_
                        refine spl_book ?_
                        refine newBook_h (gB := g1845) (gS := g1843) h1847 fun g1849 w1850 h1850 => ?_
                        refine stC_h (g := g1697) h1850 rfl (by decide) fun w1851 h1851 => ?_
                        exact hJ _ _ ⟨g1697, g1849, g1845, g1843, rfl, h1851.perm (perm_f 3 rfl (perm_f 0 rfl (perm_f 0 rfl (perm_f 0 rfl (perm_f 0 rfl (perm_f 0 rfl (.refl _)))))))⟩
                    · refine mkGm_h ekP evS h1797 fun g1852 w1853 h1853 => ?_
                      refine samec_h (g := g3) (o := 0) h12 h1853 ?_
                      refine samec_h (g := g1) (o := 0) h12 h1853 ?_
                      refine ⟨?_, ?_⟩
                      · refine mkGm_h ekI evB h1853 fun g1854 w1855 h1855 => ?_
                        refine samec_h (g := g3) (o := 0) h12 h1855 ?_
                        refine samec_h (g := g1) (o := 0) h12 h1855 ?_
                        refine spl_beg hRl ?_
                        refine samec_h (g := g3) (o := 0) h12 h1855 ?_
                        refine samec_h (g := g1) (o := 0) h12 h1855 ?_
                        refine gmPut_h (ek := ekI) (ev := evB) (k := 0) (y := (fRoot, (-1, 0))) mapB h1855 fun w1858 h1858 => ?_
                        refine samec_h (g := g3) (o := 0) h12 h1858 ?_
                        refine samec_h (g := g1) (o := 0) h12 h1858 ?_
                        refine spl_book ?_
                        refine newBook_h (gB := g1854) (gS := g1852) h1858 fun g1860 w1861 h1861 => ?_
                        refine stC_h (g := g1697) h1861 rfl (by decide) fun w1862 h1862 => ?_
                        exact hJ _ _ ⟨g1697, g1860, g1854, g1852, rfl, h1862.perm (perm_f 3 rfl (perm_f 0 rfl (perm_f 0 rfl (perm_f 0 rfl (perm_f 0 rfl (perm_f 0 rfl (.refl _)))))))⟩
                      · refine spl_beg hRl ?_
                        refine samec_h (g := g3) (o := 0) h12 h1853 ?_
                        refine samec_h (g := g1) (o := 0) h12 h1853 ?_
                        refine mkGm_h ekI evB h1853 fun g1865 w1866 h1866 => ?_
                        refine samec_h (g := g3) (o := 0) h12 h1866 ?_
                        refine samec_h (g := g1) (o := 0) h12 h1866 ?_
                        refine gmPut_h (ek := ekI) (ev := evB) (k := 0) (y := (fRoot, (-1, 0))) mapB h1866 fun w1867 h1867 => ?_
                        refine samec_h (g := g3) (o := 0) h12 h1867 ?_
                        refine samec_h (g := g1) (o := 0) h12 h1867 ?_
                        refine spl_book ?_
                        refine newBook_h (gB := g1865) (gS := g1852) h1867 fun g1869 w1870 h1870 => ?_
                        refine stC_h (g := g1697) h1870 rfl (by decide) fun w1871 h1871 => ?_
                        exact hJ _ _ ⟨g1697, g1869, g1865, g1852, rfl, h1871.perm (perm_f 3 rfl (perm_f 0 rfl (perm_f 0 rfl (perm_f 0 rfl (perm_f 0 rfl (perm_f 0 rfl (.refl _)))))))⟩
                · refine mkGm_h ekP evS h1755 fun g1872 w1873 h1873 => ?_
                  refine samec_h (g := g3) (o := 0) h12 h1873 ?_
                  refine samec_h (g := g1) (o := 0) h12 h1873 ?_
                  refine ⟨?_, ?_⟩
                  · refine mkGm_h ekI evB h1873 fun g1874 w1875 h1875 => ?_
                    refine samec_h (g := g3) (o := 0) h12 h1875 ?_
                    refine samec_h (g := g1) (o := 0) h12 h1875 ?_
                    refine world_s fun w1877 he => ?_
                    have h1877 := ext_of h1875 he
                    refine samec_h (g := g3) (o := 0) h12 h1877 ?_
                    refine samec_h (g := g1) (o := 0) h12 h1877 ?_
                    refine spl_beg hRl ?_
                    refine samec_h (g := g3) (o := 0) h12 h1877 ?_
                    refine samec_h (g := g1) (o := 0) h12 h1877 ?_
                    refine gmPut_h (ek := ekI) (ev := evB) (k := 0) (y := (fRoot, (-1, 0))) mapB h1877 fun w1880 h1880 => ?_
                    refine samec_h (g := g3) (o := 0) h12 h1880 ?_
                    refine samec_h (g := g1) (o := 0) h12 h1880 ?_
                    refine spl_book ?_
                    refine newBook_h (gB := g1874) (gS := g1872) h1880 fun g1882 w1883 h1883 => ?_
                    refine stC_h (g := g1697) h1883 rfl (by decide) fun w1884 h1884 => ?_
                    exact hJ _ _ ⟨g1697, g1882, g1874, g1872, rfl, h1884.perm (perm_f 3 rfl (perm_f 0 rfl (perm_f 0 rfl (perm_f 0 rfl (perm_f 0 rfl (perm_f 0 rfl (.refl _)))))))⟩
                  · refine world_s fun w1886 he => ?_
                    have h1886 := ext_of h1873 he
                    refine samec_h (g := g3) (o := 0) h12 h1886 ?_
                    refine samec_h (g := g1) (o := 0) h12 h1886 ?_
                    refine ⟨?_, ?_⟩
                    · refine mkGm_h ekI evB h1886 fun g1887 w1888 h1888 => ?_
                      refine samec_h (g := g3) (o := 0) h12 h1888 ?_
                      refine samec_h (g := g1) (o := 0) h12 h1888 ?_
                      refine spl_beg hRl ?_
                      refine samec_h (g := g3) (o := 0) h12 h1888 ?_
                      refine samec_h (g := g1) (o := 0) h12 h1888 ?_
                      refine gmPut_h (ek := ekI) (ev := evB) (k := 0) (y := (fRoot, (-1, 0))) mapB h1888 fun w1891 h1891 => ?_
                      refine samec_h (g := g3) (o := 0) h12 h1891 ?_
                      refine samec_h (g := g1) (o := 0) h12 h1891 ?_
                      refine spl_book ?_
                      refine newBook_h (gB := g1887) (gS := g1872) h1891 fun g1893 w1894 h1894 => ?_
                      refine stC_h (g := g1697) h1894 rfl (by decide) fun w1895 h1895 => ?_
                      exact hJ _ _ ⟨g1697, g1893, g1887, g1872, rfl, h1895.perm (perm_f 3 rfl (perm_f 0 rfl (perm_f 0 rfl (perm_f 0 rfl (perm_f 0 rfl (perm_f 0 rfl (.refl _)))))))⟩
                    · refine spl_beg hRl ?_
                      refine samec_h (g := g3) (o := 0) h12 h1886 ?_
                      refine samec_h (g := g1) (o := 0) h12 h1886 ?_
                      refine mkGm_h ekI evB h1886 fun g1898 w1899 h1899 => ?_
                      refine samec_h (g := g3) (o := 0) h12 h1899 ?_
                      refine samec_h (g := g1) (o := 0) h12 h1899 ?_
                      refine gmPut_h (ek := ekI) (ev := evB) (k := 0) (y := (fRoot, (-1, 0))) mapB h1899 fun w1900 h1900 => ?_
                      refine samec_h (g := g3) (o := 0) h12 h1900 ?_
                      refine samec_h (g := g1) (o := 0) h12 h1900 ?_
                      refine spl_book ?_
                      refine newBook_h (gB := g1898) (gS := g1872) h1900 fun g1902 w1903 h1903 => ?_
                      refine stC_h (g := g1697) h1903 rfl (by decide) fun w1904 h1904 => ?_
                      exact hJ _ _ ⟨g1697, g1902, g1898, g1872, rfl, h1904.perm (perm_f 3 rfl (perm_f 0 rfl (perm_f 0 rfl (perm_f 0 rfl (perm_f 0 rfl (perm_f 0 rfl (.refl _)))))))⟩
            · refine mkGm_h ekP evS h1698 fun g1905 w1906 h1906 => ?_
              refine samec_h (g := g3) (o := 0) h12 h1906 ?_
              refine samec_h (g := g1) (o := 0) h12 h1906 ?_
              refine ⟨?_, ?_⟩
              · refine mkGm_h ekI evB h1906 fun g1907 w1908 h1908 => ?_
                refine samec_h (g := g3) (o := 0) h12 h1908 ?_
                refine samec_h (g := g1) (o := 0) h12 h1908 ?_
                refine Fr.root_s fun w1910 he => ?_
                have h1910 := ext_of h1908 he
                refine samec_h (g := g3) (o := 0) h12 h1910 ?_
                refine samec_h (g := g1) (o := 0) h12 h1910 ?_
                refine world_s fun w1912 he => ?_
                have h1912 := ext_of h1910 he
                refine samec_h (g := g3) (o := 0) h12 h1912 ?_
                refine samec_h (g := g1) (o := 0) h12 h1912 ?_
                refine spl_beg hRl ?_
                refine samec_h (g := g3) (o := 0) h12 h1912 ?_
                refine samec_h (g := g1) (o := 0) h12 h1912 ?_
                refine gmPut_h (ek := ekI) (ev := evB) (k := 0) (y := (fRoot, (-1, 0))) mapB h1912 fun w1915 h1915 => ?_
                refine samec_h (g := g3) (o := 0) h12 h1915 ?_
                refine samec_h (g := g1) (o := 0) h12 h1915 ?_
                refine spl_book ?_
                refine newBook_h (gB := g1907) (gS := g1905) h1915 fun g1917 w1918 h1918 => ?_
                refine stC_h (g := g1697) h1918 rfl (by decide) fun w1919 h1919 => ?_
                exact hJ _ _ ⟨g1697, g1917, g1907, g1905, rfl, h1919.perm (perm_f 3 rfl (perm_f 0 rfl (perm_f 0 rfl (perm_f 0 rfl (perm_f 0 rfl (perm_f 0 rfl (.refl _)))))))⟩
              · refine Fr.root_s fun w1921 he => ?_
                have h1921 := ext_of h1906 he
                refine samec_h (g := g3) (o := 0) h12 h1921 ?_
                refine samec_h (g := g1) (o := 0) h12 h1921 ?_
                refine ⟨?_, ?_⟩
                · refine mkGm_h ekI evB h1921 fun g1922 w1923 h1923 => ?_
                  refine samec_h (g := g3) (o := 0) h12 h1923 ?_
                  refine samec_h (g := g1) (o := 0) h12 h1923 ?_
                  refine world_s fun w1925 he => ?_
                  have h1925 := ext_of h1923 he
                  refine samec_h (g := g3) (o := 0) h12 h1925 ?_
                  refine samec_h (g := g1) (o := 0) h12 h1925 ?_
                  refine spl_beg hRl ?_
                  refine samec_h (g := g3) (o := 0) h12 h1925 ?_
                  refine samec_h (g := g1) (o := 0) h12 h1925 ?_
                  refine gmPut_h (ek := ekI) (ev := evB) (k := 0) (y := (fRoot, (-1, 0))) mapB h1925 fun w1928 h1928 => ?_
                  refine samec_h (g := g3) (o := 0) h12 h1928 ?_
                  refine samec_h (g := g1) (o := 0) h12 h1928 ?_
                  refine spl_book ?_
                  refine newBook_h (gB := g1922) (gS := g1905) h1928 fun g1930 w1931 h1931 => ?_
                  refine stC_h (g := g1697) h1931 rfl (by decide) fun w1932 h1932 => ?_
                  exact hJ _ _ ⟨g1697, g1930, g1922, g1905, rfl, h1932.perm (perm_f 3 rfl (perm_f 0 rfl (perm_f 0 rfl (perm_f 0 rfl (perm_f 0 rfl (perm_f 0 rfl (.refl _)))))))⟩
                · refine world_s fun w1934 he => ?_
                  have h1934 := ext_of h1921 he
                  refine samec_h (g := g3) (o := 0) h12 h1934 ?_
                  refine samec_h (g := g1) (o := 0) h12 h1934 ?_
                  refine ⟨?_, ?_⟩
                  · refine mkGm_h ekI evB h1934 fun g1935 w1936 h1936 => ?_
                    refine samec_h (g := g3) (o := 0) h12 h1936 ?_
                    refine samec_h (g := g1) (o := 0) h12 h1936 ?_
                    refine spl_beg hRl ?_
                    refine samec_h (g := g3) (o := 0) h12 h1936 ?_
                    refine samec_h (g := g1) (o := 0) h12 h1936 ?_
                    refine gmPut_h (ek := ekI) (ev := evB) (k := 0) (y := (fRoot, (-1, 0))) mapB h1936 fun w1939 h1939 => ?_
                    refine samec_h (g := g3) (o := 0) h12 h1939 ?_
                    refine samec_h (g := g1) (o := 0) h12 h1939 ?_
                    refine spl_book ?_
                    refine newBook_h (gB := g1935) (gS := g1905) h1939 fun g1941 w1942 h1942 => ?_
                    refine stC_h (g := g1697) h1942 rfl (by decide) fun w1943 h1943 => ?_
                    exact hJ _ _ ⟨g1697, g1941, g1935, g1905, rfl, h1943.perm (perm_f 3 rfl (perm_f 0 rfl (perm_f 0 rfl (perm_f 0 rfl (perm_f 0 rfl (perm_f 0 rfl (.refl _)))))))⟩
                  · refine spl_beg hRl ?_
                    refine samec_h (g := g3) (o := 0) h12 h1934 ?_
                    refine samec_h (g := g1) (o := 0) h12 h1934 ?_
                    refine mkGm_h ekI evB h1934 fun g1946 w1947 h1947 => ?_
                    refine samec_h (g := g3) (o := 0) h12 h1947 ?_
                    refine samec_h (g := g1) (o := 0) h12 h1947 ?_
                    refine gmPut_h (ek := ekI) (ev := evB) (k := 0) (y := (fRoot, (-1, 0))) mapB h1947 fun w1948 h1948 => ?_
                    refine samec_h (g := g3) (o := 0) h12 h1948 ?_
                    refine samec_h (g := g1) (o := 0) h12 h1948 ?_
                    refine spl_book ?_
                    refine newBook_h (gB := g1946) (gS := g1905) h1948 fun g1950 w1951 h1951 => ?_
                    refine stC_h (g := g1697) h1951 rfl (by decide) fun w1952 h1952 => ?_
                    exact hJ _ _ ⟨g1697, g1950, g1946, g1905, rfl, h1952.perm (perm_f 3 rfl (perm_f 0 rfl (perm_f 0 rfl (perm_f 0 rfl (perm_f 0 rfl (perm_f 0 rfl (.refl _)))))))⟩
  rintro _ w1954 ⟨ga, gb, gB, gS, rfl, h⟩
  unfold fits_all_1 fits_all_1_b
  refine ldS_h (g := g3) h rfl ?_
  have hLn := hT.len
  refine loopP_of (fun (i : Int) w' => ∃ (j : Nat) (b : Bk), i = j ∧ j ≤ l.length ∧ St w w' (blk ga [.pointer (some ⟨gb, 0, none⟩)] :: BP gb gB gS ps ls q b [blk g3 [.slice ls.a ls.n ls.c], blk g1 [.slice ps.a ps.n ps.c]]) ∧ BI P (fun j => 0 ≤ j ∧ j < l.length) b ∧ Known l j b ∧ fgo P l q l.length 0 bk0 = fgo P l q (l.length - j) j b) (fun i _ => l.length - i.toNat) ⟨0, bk0, rfl, Nat.zero_le _, h, bi_root hA hN, known_root hTR, rfl⟩ ?_
  rintro _ w4' ⟨j, b, rfl, hj, h, hbi, hkn, hgo⟩ C hC
  dsimp only
  rw [hLn]
  refine iteB_i (fun hb => ?_) fun hb => ?_
  · have hlt : j < l.length := by have := of_decide_eq_true hb; omega
    obtain ⟨n, hn⟩ : ∃ n, l.length - j = n + 1 := ⟨l.length - j - 1, by omega⟩
    rw [hn] at hgo
    rw [fgo_succ] at hgo
    have hTj := hTR j hlt
    have hsp := row_span hTj
    have hbj : (b.beg j).isSome = true := by
      refine hkn j (by omega) (by omega) ?_
      by_cases e : (j : Int) = 0
      · exact .inl e
      · exact .inr (row_par hTj e (by omega)).2.1
    obtain ⟨x0, hat⟩ := Option.isSome_iff_exists.1 hbj
    refine callF_i (d := d_fits_all_2) (fun _ _ _ => rfl) ?_
    show fits_all_2 (j : Int) ⟨ga, 0, none⟩ w4' fun r w => _
    refine row2_s h ?_
    have h' : St w w4' (BP gb gB gS ps ls q b [blk ga [.pointer (some ⟨gb, 0, none⟩)], blk g3 [.slice ls.a ls.n ls.c], blk g1 [.slice ps.a ps.n ps.c]]) := h.perm (by repeat' (first | exact List.Perm.refl _ | refine perm_f 0 rfl ?_ | refine perm_f 1 rfl ?_ | refine perm_f 2 rfl ?_ | refine perm_f 3 rfl ?_ | refine perm_f 4 rfl ?_ | refine perm_f 5 rfl ?_ | refine perm_f 6 rfl ?_ | refine perm_f 7 rfl ?_))
    refine fits_s (Q := fun j => 0 ≤ j ∧ j < l.length) hF hT hA hN hlen (fun _ h => h) (fun j hj => (row_span (tr_int hTR hj.1 hj.2)).2.2.2.2.1) hbi (by omega) (by omega) hsp.2.2.2.2.2.1 hsp.2.2.2.2.2.2 (fun k hk => ⟨(mem_kids.1 hk).1, (mem_kids.1 hk).2.1⟩) (fun k hk => kids_gt hTR k hk (by omega)) hat h' (fun w' hs he => ?_) fun w' b' hs hbi' hto h => ?_
    · rw [hs] at hgo
      refine toB_i ?_
      refine iteB_t rfl ?_
      show k ((j : Int), 25) w'
      rw [hgo] at hk
      exact hk _ he
    · rw [hs] at hgo
      refine toB_i ?_
      refine iteB_f rfl ?_
      have ew : IntKind.wrap .i64 ((j : Int) + 1) = ((j + 1 : Nat) : Int) := by rw [wrap_id ⟨by omega, by omega⟩]; simp
      rw [ew]
      refine hC _ _ ⟨j + 1, b', rfl, by omega, h.perm (by repeat' (first | exact List.Perm.refl _ | refine perm_f 0 rfl ?_ | refine perm_f 1 rfl ?_ | refine perm_f 2 rfl ?_ | refine perm_f 3 rfl ?_ | refine perm_f 4 rfl ?_ | refine perm_f 5 rfl ?_ | refine perm_f 6 rfl ?_ | refine perm_f 7 rfl ?_)), hbi', frow_known hTR (by omega) hkn hs, ?_⟩ (by omega)
      rw [hgo, show l.length - (j + 1) = n by omega]
      rfl
  · have hge : l.length - j = 0 := by have := of_decide_eq_false hb; omega
    rw [hge] at hgo
    rw [fgo_zero] at hgo
    show k (0, 0) w4'
    rw [hgo] at hk
    exact hk _ h.ext
theorem Fits_s {k : Int × Int → World → Prop} (hF : Funcs5 w ps P) (hT : Tbl w ls l) (hN : ∀ g ∈ P, InI g.needs) (hlen : l.length ≤ 1000000) (hcl : ∀ r ∈ l, r.cl.size < 4611686018427387904)
    (hk : ∀ w', Ext w w' → k (fitsF P l false) w') : fits_Fits #[.slice ps.a ps.n ps.c] ⟨ls.a, ls.n, ls.c⟩ w k := by
  unfold fits_Fits fits_Fits_b
  refine newC_h (.nil w) fun g1 w2 h => ?_
  refine ldW_h (n := 1) (g := g1) h rfl ?_
  exact fits_all_s (hF.ext h.ext) (hT.ext h.ext) hN hlen hcl fun w' he => hk _ (h.ext.trans he)
theorem Quiet_s {k : Int × Int → World → Prop} (hF : Funcs5 w ps P) (hT : Tbl w ls l) (hN : ∀ g ∈ P, InI g.needs) (hlen : l.length ≤ 1000000) (hcl : ∀ r ∈ l, r.cl.size < 4611686018427387904)
    (hk : ∀ w', Ext w w' → k (fitsF P l true) w') : fits_Quiet #[.slice ps.a ps.n ps.c] ⟨ls.a, ls.n, ls.c⟩ w k := by
  unfold fits_Quiet fits_Quiet_b
  refine newC_h (.nil w) fun g1 w2 h => ?_
  refine ldW_h (n := 1) (g := g1) h rfl ?_
  exact fits_all_s (hF.ext h.ext) (hT.ext h.ext) hN hlen hcl fun w' he => hk _ (h.ext.trans he)
end
end Go.Proofs.YtgkfbagclkjilaaDoor.Ft
namespace Go.Ev
open Go Go.RowKit Go.ChangeShapes Go.WideShapes
theorem law_liftedL {H : Type} {enc : TypeId × Value → H} {C : Checked} {os : Os} {K : FuncId} {fn : Func} {s : ChangeSpec} {tb : TypeId} {X : World → Array Value → Prop}
    (hX : ∀ (w w' : World) (args : Array Value), w.heap = w'.heap → X w args → X w' args)
    (own : ownKnob C.prog.godebug = none) (started : os.Started) (noInit : C.prog.inits.idxOf? K = none) (hfn : C.prog.funcs[K]? = some fn)
    (witness : ∃ (w : World) (tape : Tape) (i : Input), w.os = os ∧ (w.forCall tape i).Shaped C.prog ∧ i.vars = [] ∧ Input.okWide C.prog (w.forCall tape i) .any w.heap.size K i ∧
      ((s.pre enc C.prog fn [] false (w.forCall tape i).memory i.args ∧ X (w.forCall tape i).memory i.args) ∧ sizedMet enc C.prog fn (OpenSpec.ofChange s) false (w.forCall tape i).memory i.args) ∧ ({} : Assume).holds C.prog (lone (Frame.enter C.prog K i.args .normal) [] (w.forCall tape i)))
    (hvars : s.vars = []) (hl : laidOutB C.prog = true) (hrows : fn.params.toList.all (fun t => C.prog.readableRec t && decide (t < C.prog.types.size)) = true)
    (hres : fn.resultTypes = #[tb]) (htb : C.prog.underlying tb = some .bool)
    (hs : ∀ ds : List (DataW H), ds.length = fn.params.toList.length → s.fn H ds = { results := [.lit (.bool true)], args := ds })
    (walk : ∀ (W : World) (args : Array Value), Args C.prog W fn.params.toList args.toList →
      Calls C.prog K args W fun e W' => e = .returned (.bool true) ∧ Below W.heap.size W W') :
    ReturnsInHanded {} C os K .any (fun w args => (s.pre enc C.prog fn [] false w args ∧ X w args) ∧ sizedMet enc C.prog fn (OpenSpec.ofChange s) false w args) (s.post enc C.prog fn false true false false) := by
  refine returnsInHanded_of_change_and hX own started noInit hfn witness ?_
  intro W base args ds gs before hval hW _ hsz _ _
  have hW' := hW
  obtain ⟨p, q, hA, hV, rfl, hfz, hnd⟩ := hW
  rw [hvars] at hV
  obtain ⟨rfl, rfl⟩ := trodVars_none hV
  have hlen := trodAll_lens hA
  have hvt : s.plain.varTypes C.prog = [] := by simp [DataSpec.varTypes, ChangeSpec.plain, hvars]
  rw [hvt, List.append_nil, List.append_nil] at hsz
  have hargs := args_of (fun j t v ht hv => hval j t v (by simpa using ht) (by simpa using hv)) hA (fun n hn => by simpa using List.all_eq_true.1 hsz n hn)
  refine (walk W args hargs).mono fun e W' ⟨he, bel⟩ => ?_
  subst he
  refine ⟨_, rfl, ds, [], p ++ [], [], p, [], hW', ?_, ?_, ?_, bel.frame _, fun h => by cases h⟩
  · rw [List.append_nil, hs ds hlen, hres]
    exact trodAll_mk1 (shut_bool htb _)
  · rw [List.append_nil, hs ds hlen]
    exact trodAll_below hl bel hrows hA fun x hx => hW'.lt x (by simp [hx])
  · rw [List.append_nil, hs ds hlen, hvars]
    exact rfl
theorem Rdd.str {P : Program} {w : World} {t : TypeId} {cs : List Value} (ht : P.underlying t = some .string) (h : Rdd P w t cs) : ∃ s : ByteArray, cs = [.string s] ∧ s.size ≤ 9223372036854775807 := by
  obtain ⟨H, enc, spare, held, fuel, d, ps, h, _⟩ := h
  obtain ⟨s, h1, _, h2⟩ := DataW.trod_string ht h
  exact ⟨s, h1, by unfold maxLen at h2; exact h2⟩
end Go.Ev
namespace Go.Proofs.YtgkfbagclkjilaaDoor.Ft
open Go Go.Ev Go.Proofs Go.Proofs.YtgkfbagclkjilaaDoor
open Go.Proofs.YtgkfbagclkjilaaDoor.Fr (fTo fOn fPlain fForked fJoined fClosed fChild fRoot fR isB fTo_len fOn_len fPlain_len fForked_len fJoined_len fClosed_len)
open Go.Proofs.YtgkfbagclkjilaaDoor.Ck (opI Walk Accs needsOf isGoes heldL depths stepD handlesOk subBits scopesOk forks)
def rbI (r : Rb) : Prop := InI r.par ∧ InI r.inn ∧ InI r.fn ∧ InI r.kind ∧ InI r.v ∧ InI r.steps
theorem Rdd.row {w : World} {cs : List Value} (h : Rdd Tryd.prog w 34 cs) : ∃ r : Rb, cs = rbV r ∧ rbI r := by
  obtain ⟨hl, hall⟩ := Rdd.struct Tryd.underlying34 h
  have c3 : Tryd.prog.cellsOf 3 = 1 := by kernel_rfl
  have c2 : Tryd.prog.cellsOf 2 = 1 := by kernel_rfl
  have c9 : Tryd.prog.cellsOf 9 = 1 := by kernel_rfl
  have hlen : cs.length = 7 := by rw [hl]; kernel_rfl
  obtain ⟨n0, h0, i0⟩ := (show Rdd Tryd.prog w 3 ((cs.drop 0).take (Tryd.prog.cellsOf 3)) from hall 0 _ rfl).int Tryd.underlying3
  obtain ⟨n1, h1, i1⟩ := (show Rdd Tryd.prog w 3 ((cs.drop 1).take (Tryd.prog.cellsOf 3)) from hall 1 _ rfl).int Tryd.underlying3
  obtain ⟨n2, h2, i2⟩ := (show Rdd Tryd.prog w 3 ((cs.drop 2).take (Tryd.prog.cellsOf 3)) from hall 2 _ rfl).int Tryd.underlying3
  obtain ⟨n3, h3, i3⟩ := (show Rdd Tryd.prog w 3 ((cs.drop 3).take (Tryd.prog.cellsOf 3)) from hall 3 _ rfl).int Tryd.underlying3
  obtain ⟨n4, h4, i4⟩ := (show Rdd Tryd.prog w 2 ((cs.drop 4).take (Tryd.prog.cellsOf 2)) from hall 4 _ rfl).int Tryd.underlying2
  obtain ⟨n5, h5, i5⟩ := (show Rdd Tryd.prog w 3 ((cs.drop 5).take (Tryd.prog.cellsOf 3)) from hall 5 _ rfl).int Tryd.underlying3
  obtain ⟨n6, h6, i6⟩ := Rdd.str Tryd.underlying9 (show Rdd Tryd.prog w 9 ((cs.drop 6).take (Tryd.prog.cellsOf 9)) from hall 6 _ rfl)
  rw [c3] at h0 h1 h2 h3 h5
  rw [c2] at h4
  rw [c9] at h6
  match cs, hlen with
  | [a, b, c, d, e, f, g], _ =>
    simp at h0 h1 h2 h3 h4 h5 h6
    exact ⟨⟨n0, n1, n2, n3, n4, n5, n6⟩, by simp [rbV, h0, h1, h2, h3, h4, h5, h6], i0, i1, i2, i3, i4, i5⟩
theorem Arg.rows {w : World} {v : Value} (h : Arg Tryd.prog w 25 v) : ∃ (s : Sl) (l : List Rb), v = .slice s.a s.n s.c ∧ Tbl w s l ∧ ∀ r ∈ l, rbI r := by
  obtain ⟨s, rfl, hr⟩ := h.slice Tryd.underlying25
  obtain ⟨s', es, h1, h2, h3, h4, h5, hall⟩ := hr.slice Tryd.underlying25
  have : s = s' := by
    obtain ⟨a, n, c⟩ := s; obtain ⟨a', n', c'⟩ := s'
    simpa using h1
  subst this
  obtain ⟨l, rfl, hl⟩ := exists_map (f := rbV) (G := rbI) (es := es) fun e' he' => Rdd.row (hall e' he')
  have c7 : Tryd.prog.cellsOf 34 = 7 := by kernel_rfl
  have b64 : Tryd.prog.bytesOf 34 = 64 := by kernel_rfl
  rw [c7] at h2
  rw [b64] at h3
  exact ⟨s, l, rfl, ⟨h2, by unfold reachBytes at h3; simp at h3; omega⟩, hl⟩
structure Few7 (l : List Rb) : Prop where
  n : l.length ≤ 60
  cl : ∀ r ∈ l, r.cl.size ≤ 100
structure Shrt (P : List FnR) (l : List Rb) : Prop where
  p : Ck.Few P
  t : Few7 l
  steps : ∀ i : Int, (rowAt l i).steps ≤ 3000
theorem Shrt.cl {P : List FnR} {l : List Rb} (h : Shrt P l) : ∀ r ∈ l, r.cl.size < 4611686018427387904 := fun r hr => by have := h.t.cl r hr; omega
theorem Shrt.len {P : List FnR} {l : List Rb} (h : Shrt P l) : l.length ≤ 1000000 := by have := h.t.n; omega
theorem fits_of {P : List FnR} {l : List Rb} {q : Bool} (hA : Accs P) (ht : tcheck l = 0) : fitsF P l q = fgo P l q l.length 0 bk0 := by
  unfold fitsF
  rw [if_neg (by rw [Ck.accs_iff.2 hA]; simp), if_neg (by rw [ht]; simp)]
def oneR (kind : Int) : List Rb := [⟨-1, 0, 0, kind, 0, 0, ByteArray.mk #[]⟩]
theorem ask_world (sc : Int × Int → Option ((Int × Int) × Bool)) : askB sc (-1, 0) = false := Ask.world.b
theorem fits_one0 {P : List FnR} {q : Bool} (hA : Accs P) : fitsF P (oneR 0) q = (0, 0) := (fits_of hA (by kernel_rfl)).trans (by kernel_rfl)
theorem fits_one1 {P : List FnR} {q : Bool} (hA : Accs P) : fitsF P (oneR 1) q = (0, 0) := (fits_of hA (by kernel_rfl)).trans (by kernel_rfl)
theorem fits_one4 {P : List FnR} (hA : Accs P) : fitsF P (oneR 4) false = (0, 0) := (fits_of hA (by kernel_rfl)).trans (by kernel_rfl)
theorem fends4 {P : List FnR} {x : Rb} {r : Rn} {b : Bk} (hk : x.kind = 4) : fends P true x r b (-1, 0) = false := by
  unfold fends
  rw [ask_world, if_neg (by omega), if_pos hk, Bool.not_false, Bool.and_true, Bool.or_true, if_pos rfl]
theorem fits_one4q {P : List FnR} (hA : Accs P) : fitsF P (oneR 4) true = (0, 25) := by
  rw [fits_of hA (by kernel_rfl)]
  show fgo P (oneR 4) true 1 0 bk0 = _
  rw [fgo_succ]
  have : frow P (oneR 4) true 0 bk0 = none := by
    unfold frow
    have e : (bk0.at 0).2 = (-1, 0) := rfl
    rw [if_neg (by decide), if_neg (by decide), e]
    have e0 : (rowAt (oneR 4) 0).steps.toNat = 0 := rfl
    rw [e0]
    unfold frun
    dsimp only
    rw [if_neg]
    intro h
    rw [fends4 rfl] at h
    exact absurd h.2.2 (by decide)
  rw [this]
end Go.Proofs.YtgkfbagclkjilaaDoor.Ft
namespace Go.Proofs.YtgkfbagclkjilaaDoor.Ft
open Go Go.Ev Go.Proofs Go.Proofs.YtgkfbagclkjilaaDoor
open Go.Proofs.YtgkfbagclkjilaaDoor.Fr (fTo fOn fPlain fForked fJoined fClosed fChild fRoot fR isB fTo_len fOn_len fPlain_len fForked_len fJoined_len fClosed_len)
open Go.Proofs.YtgkfbagclkjilaaDoor.Ck (opI Walk Accs needsOf isGoes heldL depths stepD handlesOk subBits scopesOk forks)
theorem blk_slsN {w : World} {g sz : Nat} {l : List Value} {n : Nat} (hb : Blk w g l.toArray) (hn : l.length = n * sz) (c : Nat) : Sls sz w ⟨some ⟨g, 0, none⟩, n, c⟩ l :=
  ⟨hn, fun i v hv => ⟨_, rfl, by rw [add_mk, hb.cell]; simpa using hv⟩⟩
def aG : List (List Int) := [[16, 0, 0, 0, 0]]
def aP : List (List Int) := [[8, 1, 0, 0, 1], [9, 0, 1, 0, 0], [16, 0, 0, 0, 0]]
def accB (P : List FnR) (f : FnR) (H : List Int) : Bool := decide (0 ≤ f.needs ∧ f.needs ≤ 255 ∧ 1 ≤ f.code.length ∧ f.code.length ≤ 128) && (f.code.all fun x => Ck.chk x == 0) && ((List.range f.code.length).all fun i => Ck.wrongF P f.code.length (depths 0 f.code) H i (f.code.getD i []) == 0)
theorem acc_of {P : List FnR} {f : FnR} {H : List Int} (hH : heldL f.code f.needs = H) (h : accB P f H = true) : Ck.Acc P f := by
  unfold accB at h
  rw [Bool.and_eq_true, Bool.and_eq_true, decide_eq_true_eq, List.all_eq_true, List.all_eq_true] at h
  obtain ⟨⟨⟨a, b, c, d⟩, h2⟩, h3⟩ := h
  refine ⟨a, b, c, d, fun x hx => by simpa using h2 x hx, fun i x hx => ?_⟩
  have hi := (List.getElem?_eq_some_iff.1 hx).1
  have := h3 i (by simpa using hi)
  rw [hH]
  rw [List.getD_eq_getElem?_getD, hx] at this
  simpa using this
theorem heldG : heldL aG 0 = [0] := (Ck.heldL_eval (l := aG) (needs := 0) 1 (by decide) (by decide) (by kernel_rfl)).trans (by kernel_rfl)
theorem heldP : heldL aP 0 = [0, 2, 2] := (Ck.heldL_eval (l := aP) (needs := 0) 3 (by decide) (by decide) (by kernel_rfl)).trans (by kernel_rfl)
theorem accs_a {s1 s2 : Sl} : Accs [⟨0, s1, aP⟩, ⟨0, s2, aG⟩] := ⟨by simp, by simp, rfl, fun f hf => by
  simp at hf
  rcases hf with rfl | rfl
  · exact acc_of heldP (by kernel_rfl)
  · exact acc_of heldG (by kernel_rfl)⟩
def twoR : List Rb := [⟨-1, 0, 0, 1, 0, 1, ByteArray.mk #[]⟩, ⟨0, 0, 1, 0, 0, 0, ByteArray.mk #[]⟩]
theorem fits_two {s1 s2 : Sl} : fitsF [⟨0, s1, aP⟩, ⟨0, s2, aG⟩] twoR true = (0, 0) := (fits_of accs_a (by kernel_rfl)).trans (by kernel_rfl)
theorem two_funcs {w : World} {ga gb gf : Nat} {c1 c2 c3 : Nat} {l1 l2 : List (List Int)} (hb1 : Blk w ga (agI l1.flatten)) (hb2 : Blk w gb (agI l2.flatten)) (h1 : ∀ x ∈ l1, x.length = 5 ∧ ∀ y ∈ x, InI y) (h2 : ∀ x ∈ l2, x.length = 5 ∧ ∀ y ∈ x, InI y) (hl1 : l1.length ≤ 100) (hl2 : l2.length ≤ 100)
    (hb : Blk w gf #[.int .i64 0, .slice (some ⟨ga, 0, none⟩) l1.length c1, .int .i64 0, .slice (some ⟨gb, 0, none⟩) l2.length c2]) : Funcs5 w ⟨some ⟨gf, 0, none⟩, 2, c3⟩ [⟨0, ⟨some ⟨ga, 0, none⟩, l1.length, c1⟩, l1⟩, ⟨0, ⟨some ⟨gb, 0, none⟩, l2.length, c2⟩, l2⟩] := by
  have code : ∀ {g c : Nat} {l : List (List Int)}, Blk w g (agI l.flatten) → (∀ x ∈ l, x.length = 5 ∧ ∀ y ∈ x, InI y) → l.length ≤ 100 → Code5 w ⟨some ⟨g, 0, none⟩, l.length, c⟩ l := by
    intro g c l hb h5 hl
    refine Ck.code_blk hb h5 (fun i hi j hj => ?_) (by simp [reachBytes]; omega)
    rw [Nat.zero_add, Ck.flat_get (fun e he => (h5 e he).1) (e := l.getD i []) (by simp [hi]) hj]
  refine ⟨Ck.sls_rws (blk_slsN (n := 2) hb rfl _) (by decide) (by intro e he; simp [FnR.cells] at he; rcases he with rfl | rfl <;> rfl), fun x hx => ?_, by simp [reachBytes]⟩
  simp at hx
  rcases hx with rfl | rfl
  · exact ⟨(by decide : InI 0), code hb1 h1 hl1⟩
  · exact ⟨(by decide : InI 0), code hb2 h2 hl2⟩
theorem five_in : ∀ l ∈ [aG, aP], ∀ x ∈ l, x.length = 5 ∧ ∀ y ∈ x, InI y := by decide
theorem tbl_blk {w : World} {g n c : Nat} {l : List Rb} (hb : Blk w g (l.map rbV).flatten.toArray) (hn : l.length = n) (hl : n < 1000) : Tbl w ⟨some ⟨g, 0, none⟩, n, c⟩ l :=
  ⟨Ck.sls_rws (blk_slsN (n := n) hb (by rw [Ck.flat_len (sz := 7) (fun e he => by obtain ⟨r, _, rfl⟩ := List.mem_map.1 he; rfl), List.length_map, hn]) _) (by decide) (fun e he => by obtain ⟨r, _, rfl⟩ := List.mem_map.1 he; rfl), by omega⟩
theorem one_cl {kind : Int} : ∀ r ∈ oneR kind, r.cl.size < 4611686018427387904 := by intro r hr; simp [oneR] at hr; subst hr; exact (by decide : (ByteArray.mk #[]).size < 4611686018427387904)
theorem two_cl : ∀ r ∈ twoR, r.cl.size < 4611686018427387904 := by intro r hr; simp [twoR] at hr; rcases hr with rfl | rfl <;> decide
theorem awake_s {w : World} {k : Bool → World → Prop} (hk : ∀ w', St w w' [] → k true w') : pelotonlaw08_awake w k := by
  unfold pelotonlaw08_awake pelotonlaw08_awake_b
  refine spl_i (agI (aP.flatten.take 5 ++ Fr.Z 10)) rfl (by kernel_rfl) (spl_i (agI (aP.flatten.take 10 ++ Fr.Z 5)) rfl (by kernel_rfl) (spl_i (agI aP.flatten) rfl (by kernel_rfl) ?_))
  refine newC_h (.nil w) fun g4 w5 h => ?_
  refine spl_i (agI aG.flatten) rfl (by kernel_rfl) ?_
  refine newC_h h fun g7 w8 h => ?_
  refine spl_i #[.int .i64 0, .slice (some ⟨g4, 0, none⟩) 3 3, .int .i64 0, .slice none 0 0] rfl (by kernel_rfl) (spl_i #[.int .i64 0, .slice (some ⟨g4, 0, none⟩) 3 3, .int .i64 0, .slice (some ⟨g7, 0, none⟩) 1 1] rfl (by kernel_rfl) ?_)
  refine newC_h h fun g11 w12 h => newC_h h fun g13 w14 h => ?_
  refine stW_h (g := g13) h rfl rfl (by intro v hv; simp at hv; subst hv; rfl) fun w15 h => ?_
  refine spl_i ((oneR 4).map rbV).flatten.toArray rfl (by kernel_rfl) ?_
  refine newC_h h fun g17 w18 h => ?_
  have f5 := five_in
  have hF : ∀ {w'}, Ext w18 w' → Funcs5 w' ⟨some ⟨g11, 0, none⟩, 2, 2⟩ [⟨0, ⟨some ⟨g4, 0, none⟩, 3, 3⟩, aP⟩, ⟨0, ⟨some ⟨g7, 0, none⟩, 1, 1⟩, aG⟩] := fun he =>
    (two_funcs (c1 := 3) (c2 := 1) (c3 := 2) (l1 := aP) (l2 := aG) (h.blk (g := g4)) (h.blk (g := g7)) (f5 aP (by simp)) (f5 aG (by simp)) (by decide) (by decide) (h.blk (g := g11))).ext he
  have hT : ∀ {w'}, Ext w18 w' → Tbl w' ⟨some ⟨g17, 0, none⟩, 1, 1⟩ (oneR 4) := fun he => (tbl_blk (c := 1) (h.blk (g := g17)) rfl (by decide)).ext he
  have hN : ∀ g ∈ ([⟨0, ⟨some ⟨g4, 0, none⟩, 3, 3⟩, aP⟩, ⟨0, ⟨some ⟨g7, 0, none⟩, 1, 1⟩, aG⟩] : List FnR), InI g.needs := by
    intro g hg; simp at hg; rcases hg with rfl | rfl <;> exact (by decide : InI 0)
  refine ldW_h (g := g13) h rfl ?_
  refine Fits_s (ps := ⟨some ⟨g11, 0, none⟩, 2, 2⟩) (ls := ⟨some ⟨g17, 0, none⟩, 1, 1⟩) (l := oneR 4) (hF (Only.refl _ _)) (hT (Only.refl _ _)) hN (by decide) one_cl fun w21 he1 => ?_
  rw [fits_one4 accs_a]
  have h1 := ext_of h he1
  refine ldW_h (g := g13) h1 rfl ?_
  refine Quiet_s (ps := ⟨some ⟨g11, 0, none⟩, 2, 2⟩) (ls := ⟨some ⟨g17, 0, none⟩, 1, 1⟩) (l := oneR 4) (hF he1) (hT he1) hN (by decide) one_cl fun w24 he2 => ?_
  rw [fits_one4q accs_a]
  have h2 := ext_of h1 he2
  refine ldW_h (g := g13) h2 rfl ?_
  refine spl_i ((twoR.take 1).map rbV ++ [rbV rb0]).flatten.toArray rfl (by kernel_rfl) (spl_i (twoR.map rbV).flatten.toArray rfl (by kernel_rfl) ?_)
  refine newC_h h2 fun g28 w29 h3 => ?_
  refine Quiet_s (ps := ⟨some ⟨g11, 0, none⟩, 2, 2⟩) (ls := ⟨some ⟨g28, 0, none⟩, 2, 2⟩) (l := twoR) (two_funcs (c1 := 3) (c2 := 1) (c3 := 2) (l1 := aP) (l2 := aG) (h3.blk (g := g4)) (h3.blk (g := g7)) (f5 aP (by simp)) (f5 aG (by simp)) (by decide) (by decide) (h3.blk (g := g11))) (tbl_blk (c := 2) (h3.blk (g := g28)) rfl (by decide)) hN (by decide) two_cl fun w31 he4 => ?_
  rw [fits_two]
  exact hk _ (ext_of h3 he4).all
end Go.Proofs.YtgkfbagclkjilaaDoor.Ft
namespace Go.Proofs.YtgkfbagclkjilaaDoor.Ft
open Go Go.Ev Go.Proofs Go.Proofs.YtgkfbagclkjilaaDoor
open Go.Proofs.YtgkfbagclkjilaaDoor.Fr (fTo fOn fPlain fForked fJoined fClosed fChild fRoot fR isB fTo_len fOn_len fPlain_len fForked_len fJoined_len fClosed_len)
open Go.Proofs.YtgkfbagclkjilaaDoor.Ck (opI Walk Accs needsOf isGoes heldL depths stepD handlesOk subBits scopesOk forks)
section
variable {P : List FnR} {l : List Rb} {row i : Int} {r r' : Rn} {b b' : Bk}
end
theorem law_begins {w : World} {ps : Sl} {P : List FnR} {k : Bool → World → Prop} (hF : Funcs5 w ps P) (hk : ∀ w', St w w' [] → k true w') : pelotonlaw08_FitsBegins #[.slice ps.a ps.n ps.c] w k := by
  have hN : ∀ g ∈ P, InI g.needs := fun g hg => (hF.code g hg).1
  unfold pelotonlaw08_FitsBegins pelotonlaw08_FitsBegins_b
  refine newC_h (.nil w) fun g1 w2 h => ?_
  refine ldW_h (n := 1) (g := g1) h rfl ?_
  refine Ck.few_s (hF.ext h.ext) fun b w5 h2 hs => ?_
  have h := ext_of h h2.ext
  refine iteB_i (fun hb => ?_) fun hb => ?_
  · exact awake_s fun w7 h3 => hk _ (ext_of h h3.ext).all
  refine ldW_h (n := 1) (g := g1) h rfl ?_
  refine Ck.accepts_s (hF.ext h.ext) fun w10 h10 => ?_
  have h := ext_of h h10.ext
  rw [Ck.progF_zero]
  have key : ∀ kind : Int, (kind = 0 ∨ kind = 1 ∨ kind = 4) → ∀ q : Bool, (fitsF P (oneR kind) q).2 = if (Ck.progF P).2.2 = 0 then (if kind = 4 ∧ q = true then 25 else 0) else 24 := by
    intro kind hkd q
    by_cases hz : (Ck.progF P).2.2 = 0
    · rw [if_pos hz]
      have hA := Ck.accs_iff.1 hz
      rcases hkd with rfl | rfl | rfl
      · rw [fits_one0 hA]; rfl
      · rw [fits_one1 hA]; rfl
      · cases q with
        | false => rw [fits_one4 hA]; rfl
        | true => rw [fits_one4q hA]; rfl
    · rw [if_neg hz]; unfold fitsF; rw [if_pos hz]
  generalize hz : (Ck.progF P).2.2 = z at key
  refine joinP_i (fun x w' => x = (if z = 0 then (0, 25) else (24, 24)) ∧ w' = w10) (fun J hJ => ?_) ?_
  · refine iteB_i (fun hb => hJ _ _ ⟨?_, rfl⟩) fun hb => hJ _ _ ⟨?_, rfl⟩
    · rw [if_neg (by simpa using hb)]
    · rw [if_pos (by simpa using hb)]
  rintro _ w13 ⟨rfl, rfl⟩
  refine ldW_h (n := 1) (g := g1) h rfl ?_
  refine spl_i ((oneR 0).map rbV).flatten.toArray rfl (by kernel_rfl) ?_
  refine newC_h h fun g16 w17 h2 => ?_
  refine Fits_s (ls := ⟨some ⟨g16, 0, none⟩, 1, 1⟩) (l := oneR 0) (hF.ext h2.ext) (tbl_blk (c := 1) (h2.blk (g := g16)) rfl (by decide)) hN (by decide) one_cl fun w19 he => ?_
  have h := (ext_of h2 he).drop
  refine ldW_h (n := 1) (g := g1) h rfl ?_
  refine spl_i ((oneR 1).map rbV).flatten.toArray rfl (by kernel_rfl) ?_
  refine newC_h h fun g22 w23 h2 => ?_
  refine Quiet_s (ls := ⟨some ⟨g22, 0, none⟩, 1, 1⟩) (l := oneR 1) (hF.ext h2.ext) (tbl_blk (c := 1) (h2.blk (g := g22)) rfl (by decide)) hN (by decide) one_cl fun w25 he => ?_
  have h := (ext_of h2 he).drop
  refine ldW_h (n := 1) (g := g1) h rfl ?_
  refine spl_i ((oneR 4).map rbV).flatten.toArray rfl (by kernel_rfl) ?_
  refine newC_h h fun g28 w29 h2 => ?_
  refine Fits_s (ls := ⟨some ⟨g28, 0, none⟩, 1, 1⟩) (l := oneR 4) (hF.ext h2.ext) (tbl_blk (c := 1) (h2.blk (g := g28)) rfl (by decide)) hN (by decide) one_cl fun w31 he => ?_
  have h := (ext_of h2 he).drop
  refine ldW_h (n := 1) (g := g1) h rfl ?_
  refine spl_i ((oneR 4).map rbV).flatten.toArray rfl (by kernel_rfl) ?_
  refine newC_h h fun g34 w35 h2 => ?_
  refine Quiet_s (ls := ⟨some ⟨g34, 0, none⟩, 1, 1⟩) (l := oneR 4) (hF.ext h2.ext) (tbl_blk (c := 1) (h2.blk (g := g34)) rfl (by decide)) hN (by decide) one_cl fun w37 he => ?_
  have h := (ext_of h2 he).drop
  refine iteB_t ?_ ?_
  · dsimp only
    rw [key 0 (.inl rfl), key 1 (.inr (.inl rfl)), key 4 (.inr (.inr rfl)), key 4 (.inr (.inr rfl))]
    by_cases hz0 : z = 0
    · rw [if_pos hz0, if_pos hz0, if_pos hz0, if_pos hz0, if_pos hz0]; decide
    · rw [if_neg hz0, if_neg hz0, if_neg hz0, if_neg hz0, if_neg hz0]; decide
  · exact awake_s fun w7 h3 => hk _ (ext_of h h3.ext).all
end Go.Proofs.YtgkfbagclkjilaaDoor.Ft
