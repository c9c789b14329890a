/-
  Parts of the proof of LNil: printed by a program out of longer texts.
-/
import Derived.Test.YthidhjhkmjjckaaGreatDoorPNil4
set_option linter.unusedSimpArgs false
set_option linter.unusedVariables false
set_option maxRecDepth 100000
open List renaming getElem?_eq_some_iff→kO,getElem?_eq_getElem→kq,getD_eq_getElem?_getD→nr,getElem?_append_left→sY,getElem?_append_right→uK,getElem?_set_ne→rG,getElem?_set_self→uw,mem_of_getElem?→r0,getElem?_map→pB,eraseIdx→Iy,insertIdx_succ_cons→aAd,insertIdx_zero→aAe,replicate→dM,mem_append→B0,length_append→tW,all_eq_true→xz
open Go.Sem renaming run_pure→cO,run_bind→cQ
open Go.Result renaming andThen_ok→cJ
open Bool renaming or_eq_false_iff→j5,and_eq_true→iW
open Option renaming isNone→ej
open Go.IntKind renaming wrap→aL
open Int renaming toNat_natCast→kY
open Array renaming setIfInBounds→eM,getElem?_eq_some_iff→AO
open Nat renaming le_refl→iN
open Go.Addr renaming add→aX
namespace Go.Proofs.YthidhjhkmjjckaaGreatDoor
open Go Go.Ev Go.Proofs
open Ko (oE CK)
open Fr (dO)
section
variable {w0 w:World} {L R:List HP} {l:Lc} {P:List ea} {aa:List Nat} {G:Gl} {gw b c d x y a a':Nat} {W:Wk} {k:Unit→aq} {sp st sw so sc:Sl} {q:Wq} {f:HP→List HP} {t t' tt:Tk} {s':List Nat} {vs:List Value} {i:List Int} {nd:Nd} {p:Pl} {os:List (Nat×Wk)} {bx:List Int}
theorem akV{p:Addr}{wT:Bool}{c:Value→aq}(h:fu wT p w λ_ w=>c (.tuple #[]) w):CD [.bool wT,.pointer (some p)] w c:=h
theorem aiv{p:Addr}{wT:Bool}{c:Value→aq}(h:eR wT p w λ_ w=>c (.tuple #[]) w):BB [.bool wT,.pointer (some p)] w c:=h
theorem aoD{p r:Addr}{wT:Bool}{c:Value→aq}(h:gv wT p r w λ_ w=>c (.tuple #[]) w):DU [.bool wT,.pointer (some p),.pointer (some r)] w c:=h
def amV(W:Wk)(t:Tk):Prop:=match W.seen with
 | .nx i=>i.length=5∧t.f.length=19∧((dO t.f i).2=false→8≤i.getD 0 0∧i.getD 0 0≤16)
 | .c .sK=>True
 | .c .wW=>True
 |_=>False
theorem akW{lk:Lk}(hF:j2 w0 l.ps P)(h:qB w0 w l aa gw G W R)(he:G.err=0)(hs:W.stack=x::s')(ht:G.ts[x]?=some t)(hl:W.look=some lk)(hd:lk.done=false)(hsc:nR G.C lk.at_=some nd)(hc:G.M.can W.id nd.at_=true)(hn:amV W t)
  (hk:Fin w0 l aa gw R k (looking l G W lk nd x t)):eF (some ⟨gw,0,none⟩) w k:=by
 obtain⟨id,dq,wait,stack,back,cR,op,after,look,seen,step,left,late,fits,got,none_,jc,home,target,kind,bK,blocked,again,CO,mark,dy,own,said,bits,pM⟩:=W;dsimp only at hl hs hc;subst hl;obtain⟨sp,st,sw,q,hq,h⟩:=dN h;unfold eF u4;unfold looking at hk;dsimp only[mN]at h hk;with_reducible repeat' (first|refine an ?_|refine aK h λw h=> ?_|refine dL h ?_|refine dX h ?_|fail)
 have h:=h.fr 1;have h:=h.fr 3;have h:=h.fr 16;refine ahF (C:=G.C) (M:=G.M) h hd hsc hc λw h=> ?_;have h:=h.bk 16;have h:=h.bk 3;have h:=h.bk 1;with_reducible repeat' (first|refine an ?_|refine dL h ?_|refine lJ ?_|fail)
 refine aF (λhb=> ?_) λhb=> ?_
 ·have hb:(lk.go G.M nd).done=true:=by simpa using hb
  rw[if_pos hb]at hk;with_reducible repeat' (first|refine an ?_|refine td h ?_|fail)
  have h:wY w0 w l aa gw (G.tick id) ⟨id,dq,wait,stack,back,cR,op,after,some (lk.go G.M nd),seen,step,left,late,fits,got,none_,jc,home,target,kind,bK,blocked,again,CO,mark,dy,own,said,bits,pM⟩ R sp st sw q:=h;replace hq:q.Ok aa gw ⟨id,dq,wait,stack,back,cR,op,after,some (lk.go G.M nd),seen,step,left,late,fits,got,none_,jc,home,target,kind,bK,blocked,again,CO,mark,dy,own,said,bits,pM⟩:={hq with};unfold amV at hn;unfold RU at hk;have hv:=hq.seen;cases seen with
  |nx i=>
   obtain⟨b,c',hb',Ek,h5,hv⟩:=hv;rw[hv];refine bX (d:=DU) (λ_ _ _=>rfl) (aoD ?_);exact atg (P:=P) (i:=i) hF hq h hb' Ek h5 he hs ht hn.2.1 hn.2.2 hk
  |c f=>
   obtain⟨b,hb',hv⟩:=hv;rw[hv];cases f<;>first|exact hn.elim|skip
   ·refine bX (d:=CD) (λ_ _ _=>rfl) (akV ?_);exact aov hq h hb' hs ht hk
   ·refine bX (d:=BB) (λ_ _ _=>rfl) (aiv ?_);exact akN hq h hb' hk
  |m f=>exact hn.elim
  |no=>exact hn.elim
  |any=>exact hn.elim
  |aw y=>exact hn.elim
  |sh kk=>exact hn.elim
  |Vo y kk=>exact hn.elim
  |Bp y kk=>exact hn.elim
  |hl m z=>exact hn.elim
 ·have hb:(lk.go G.M nd).done=false:=by simpa using hb
  rw[if_neg (by rw[hb];simp)]at hk
  exact hk _ (bn (G:=G.tick id) (q:=q) (by exact{hq with}) h)
theorem atx{n gj:Nat}{Wj:Wk}{c:Array Value→Prop}(h:St w0 w L)[a:At L (lP (qt l aa)) os f](hn:os[n]?=some (gj,Wj))(hc:c #[.int .i64 Wj.dq,.int .i64 l.log]):bG 2 w (aX ⟨gj,0,none⟩ 2) c:=by
 obtain⟨R,ho,_⟩:=a.out;obtain⟨q,hq,h2⟩:=ace (Iz (ho h) hn);refine bA (g:=gj) h2 vw ?_;exact hc
theorem aoE{p:Option Addr}{c:Value→aq}(h:gY p w λ_ w=>c (.tuple #[]) w):EN [.pointer p] w c:=h
theorem aiw{p:Option Addr}{c:Value→aq}(h:fq p w λ_ w=>c (.tuple #[]) w):CC [.pointer p] w c:=h
structure Zs (l:Lc) (os:List (Nat×Wk)) (bx:List Int) (W:Wk):Prop where
 none_:W.none_= .m .yL∨(W.none_= .m .nothing∧W.wait.how=1)
 left:∀j r,W.left=j::r→∃(jn gj n:Nat) (Wj:Wk),j=((jn:Nat):Int)∧l.wa[jn]?=some gj∧os[n]?=some (gj,Wj)∧Wj.dq=bx.getD jn 0
theorem YG(h:qB w0 w l aa gw G W (lP (qt l aa) os::R))(hv:Zs l os bx W)(hk:Fin w0 l aa gw (lP (qt l aa) os::R) k (Kc l G W t bx)):bR (some ⟨gw,0,none⟩) w k:=by
 obtain⟨sp,st,sw,q,hq,h⟩:=dN h;unfold bR vW;unfold Kc at hk;have hn:=uN (s:=q.sl) (vs:=ints W.left) h;have hvl:=hv.left;with_reducible repeat' (first|refine an ?_|refine mJ h ?_|fail)
 refine aF (λhb=> ?_) λhb=> ?_
 ·have hb:W.left=[]:=by
   have:((q.sl.n:Nat):Int)=0:=by simpa using hb
   simp at hn;exact List.eq_nil_of_length_eq_zero ah
  rw[hb]at hk;dsimp only at hk;unfold akL at hk;with_reducible repeat' (first|refine an ?_|refine td h ?_|fail)
  have hr:=hq.none_;rcases hv.none_ with hd|⟨hd,hw⟩
  ·rw[hd]at hk hr;obtain hr:q.Yy=mt gw .yL:=hr;rw[hr];rw[if_pos rfl]at hk;refine bX (d:=EN) (λ_ _ _=>rfl) (aoE ?_);exact atc (bn hq h) hk
  ·rw[hd]at hk hr;obtain hr:q.Yy=mt gw .nothing:=hr;rw[hr];rw[if_neg gD]at hk;refine bX (d:=CC) (λ_ _ _=>rfl) (aiw ?_);exact akS (bn hq h) hw hk
 ·cases hleft:W.left with
  |nil=>
   rw[hleft]at hn;simp at hn;simp[hn]at hb
  |cons j r=>
   obtain⟨jn,gj,n,Wj,rfl,hj,hos,hdq⟩:=hvl j r hleft;rw[hleft]at hk h;dsimp only at hk;rw[kY,←hdq]at hk;have E7:=uN (s:=q.sl) (vs:=ints (((jn:Nat):Int)::r)) h;simp at E7;with_reducible repeat' (first|refine an ?_|refine aK h λw h=> ?_|refine dL h ?_|refine mJ h ?_|fail)
   refine vI (s:=q.sl) (vs:=ints (((jn:Nat):Int)::r)) h gD (x:=((jn:Nat):Int)) rfl ?_;refine vP (s:=sw) (vs:=l.wa.map pt) h ah (acs hj) ?_;with_reducible repeat' (first|refine an ?_|refine mJ h ?_|fail)
   refine ap6 (sz:=1) (s:=q.sl) (vs:=ints (((jn:Nat):Int)::r)) h gD ah λdd hdd h=> ?_;have h:St w0 w (ax l.gs (l.cs sp st sw G.steps G.err)::bN l.gm G.M::Cr l.gk G.T::scp l.gc G.C::rws 4 sp (G.P.map uy)::bQ 1 st (aa.map pt)::bQ 1 sw (l.wa.map pt)::oE l.gt G.time::KS l.gd G.D::L6 aa G.ts::
    ax gw (W.cs l q)::ax q.gwt (W.wait.cells l.told)::bQ 1 q.ss q.rV.reverse::bQ 1 q.sb q.y9.reverse::bQ 1 dd (ints r)::mN (uu q.go) W.op::mN (λk:Lk=>ax q.gl (k.cells l.gc)) W.look::mN (λo:jz=>ax q.gp (o.cells l.sp q.gp)) W.step::fz q.B::lP (qt l aa) os::R):=h
   with_reducible repeat' (first|refine an ?_|refine eL h λw h=> ?_|fail)
   refine atx (l:=l) (aa:=aa) h hos ?_;refine arR h λgo w h=> ?_;have h:=AF (K:=mN (uu q.go)) h;unfold bt;with_reducible repeat' (first|refine an ?_|refine eL h λw h=> ?_|fail)
   exact hk _ (bn (q:={q with go:=go,pe:=mt gw .o7,JW:=mt gw .TH,sl:=dd}) (by exact{hq with cR:=rfl,after:=rfl}) h)
end
end Go.Proofs.YthidhjhkmjjckaaGreatDoor
namespace Go.Proofs.YthidhjhkmjjckaaGreatDoor
open Go Go.Ev Go.Proofs
open Ko (oE CK)
section
variable {w0 w:World} {L R:List HP} {l:Lc} {P:List ea} {aa:List Nat} {G:Gl} {gw b c d x y a a':Nat} {W:Wk} {k:Unit→aq} {sp st sw so sc:Sl} {q:Wq} {f:HP→List HP} {t t' tt:Tk} {s':List Nat} {vs:List Value} {i:List Int} {nd:Nd} {p:Pl} {os:List (Nat×Wk)} {bx:List Int}
theorem aty{M:bO}{wk:Int}(h:M.OK):(M.tick wk).OK:=⟨h.size,h.fit⟩
theorem aoF(h:qB w0 w l aa gw G W (lP (qt l aa) os::R))(hM:G.M.OK)(hs:l.sp.OK)(hc:G.M.can W.id l.idle=true)(hg:G.M.given (l.sp.at_+1)=true)(h1:1≤l.wa.length)(h2:l.wa.length≤16)(h3:0≤W.id)(h4:W.id<l.wa.length)
  (hv:Zs l os bx {W with left:=Vg (G.D.headD 0) (xk W.id (l.sp.bits G.M) (G.M.get l.idle) l.wa.length)}) (hk:Fin w0 l aa gw (lP (qt l aa) os::R) k (others l G W t bx)):fa (some ⟨gw,0,none⟩) w k:=by
 obtain⟨sp,st,sw,q,hq,h⟩:=dN h;unfold fa wh;unfold others at hk;have hn:=uN (s:=sw) (vs:=l.wa.map pt) h;rw[List.length_map]at hn;with_reducible repeat' (first|refine an ?_|refine aK h λw h=> ?_|refine dL h ?_|refine dX h ?_|refine pi h ?_|fail)
 refine arH (M:=G.M) h hc λw h=> ?_;with_reducible repeat' (first|refine an ?_|refine aK h λw h=> ?_|refine dL h ?_|refine dX h ?_|refine mJ h ?_|refine pi h ?_|refine ij ?_|refine lJ ?_|fail)
 refine anY (D:=G.D) h λw h=> ?_;with_reducible repeat' (first|refine kr h ?_|fail)
 refine aeh (s:=l.sp) (M:=G.M.tick W.id) h hs (aty hM) hg λw h=> ?_;with_reducible repeat' (first|refine kr h ?_|fail)
 refine arV (n:=((sw.n:Nat):Int)) h ah ah h3 ah λs1 w h=> ?_;have h:=AF (K:=bQ 1 q.sl) h;rw[kY,hn]at h;with_reducible repeat' (first|refine an ?_|refine dL h ?_|refine eL h λw h=> ?_|refine ij ?_|refine lJ ?_|fail)
 exact YG (t:=t) (G:={G.tick W.id with D:=G.D.tail}) (W:={W with left:=Vg (G.D.headD 0) (xk W.id (l.sp.bits G.M) (G.M.get l.idle) l.wa.length)}) (bn (G:={G.tick W.id with D:=G.D.tail}) (W:={W with left:=Vg (G.D.headD 0) (xk W.id (l.sp.bits G.M) (G.M.get l.idle) l.wa.length)}) (q:={q with sl:=s1}) (by exact{hq with}) h) hv hk
theorem atz{me z:Int}{pt':Option Addr}{tg:Option Nat}{k:Bool→aq}(h:wY w0 w l aa gw G W R sp st sw q)(hb:(b,[pt gw])∈q.B)(hcb:(c,[.int .i64 me])∈q.B)(hdb:(d,[.pointer pt'])∈q.B)(hT:abK G.T)
  (hp:match tg with|none=>pt'=none|some x=> ∃a,aa[x]?=some a∧pt'=some ⟨a,0,none⟩) (htg:∀y,tg=some y→y<G.ts.length)
  (hk:∀w',wY w0 w' l aa gw G W R sp st sw q→k (match tg with|none=>RI G.T z me|some y=>RI G.T z me||RI G.T z (G.vp y)) w'):gu z ⟨b,0,none⟩ ⟨c,0,none⟩ ⟨d,0,none⟩ w k:=by
 unfold gu vY;with_reducible repeat' (first|refine an ?_|refine aK h λw h=> ?_|refine dL h ?_|refine Eo h hb ?_|refine fzI h hcb ?_|fail)
 refine Zj (T:=G.T) h hT λw h=> ?_;refine aF (λhd=> ?_) λhd=> ?_
 ·have:=hk w h;cases tg with
  |none=>dsimp only at this;rw[hd]at this;exact this
  |some y=>dsimp only at this;rw[hd]at this;exact this
 ·with_reducible repeat' (first|refine Eo h hdb ?_|fail)
  cases tg with
  |none=>
   obtain rfl:pt'=none:=hp;have:=hk w h;dsimp only at this;rw[hd]at this;exact bp rfl this
  |some y=>
   obtain⟨a',hy,rfl⟩:=hp;have GJ:=htg y rfl;have Ma:G.ts[y]?=some (G.ts[y]'GJ):=kq GJ;refine bH rfl ?_;obtain⟨hp,so,sc,h⟩:=nH h hy Ma;with_reducible repeat' (first|refine an ?_|refine dL h ?_|refine dX h ?_|refine Eo h hb ?_|refine Eo h hdb ?_|fail)
   have h:=oF hp h;refine Zj (T:=G.T) h hT λw h=> ?_;have:=hk w h;dsimp only at this;rw[hd,Bool.false_or]at this;have e:G.vp y=(G.ts[y]'GJ).id:=by unfold Gl.vp;rw[Ma]
   rw[e]at this;exact this
end
section
variable {w0 w:World} {L R:List HP} {l:Lc} {P:List ea} {aa:List Nat} {G:Gl} {gw b c d x y a a':Nat} {W:Wk} {k:Unit→aq} {sp st sw so sc:Sl} {q:Wq} {f:HP→List HP} {t t' tt:Tk} {s':List Nat} {vs:List Value} {i:List Int} {nd:Nd} {p:Pl} {os:List (Nat×Wk)} {bx:List Int}
theorem aw8{z:Int}{c:Value→aq}(h:ia z w λr w=>c (.bool r) w):ud [.int .i64 z] w c:=h
theorem aAm{z:Int}{p r s:Addr}{c:Value→aq}(h:gu z p r s w λr w=>c (.bool r) w):vZ [.int .i64 z,.pointer (some p),.pointer (some r),.pointer (some s)] w c:=h
theorem akY{z:Int}{p:Addr}{c:Value→aq}(h:eN z p w λ_ w=>c (.tuple #[]) w):By [.int .i64 z,.pointer (some p)] w c:=h
theorem aoG{z:Int}{p:Option Addr}{c:Value→aq}(h:cU p z w λ_ w=>c (.tuple #[]) w):EO [.pointer p,.int .i64 z] w c:=h
def aix(G:Gl)(W:Wk):Prop:=match W.fits with
 | .any=>True
 | .hl _ tg=>abK G.T∧∀y,tg=some y→y<G.ts.length
 |_=>False
theorem aw9{bZ:eb}{z:Int}{c:Value→aq}(hd:aix G W)(e1:∀args w c,bZ (.func j6) args w c=ud args.toList w c)(e2:∀args w c,bZ (.func lH) args w c=vZ args.toList w c)
  (hq:q.Ok aa gw W) (h:wY w0 w l aa gw G W R sp st sw q) (hk:∀w',wY w0 w' l aa gw G W R sp st sw q→c (.bool (YC G W G.vp z)) w'):mT bZ q.Yx #[.int .i64 z] w c:=by
 unfold aix at hd;unfold YC at hk;have hv:=hq.fits;revert hd hk hv;cases hag:W.fits<;>intro hd hk hv<;>first|exact hd.elim|skip
 ·obtain hv:q.Yx=ayB:=hv;rw[hv];refine bX (d:=ud) e1 (aw8 ?_);exact hk w h
 ·rename_i me tg;obtain⟨b,c',d',p,hb,Ek,ol,hp,hv⟩:=hv;rw[hv];refine bX (d:=vZ) e2 (aAm ?_);refine atz (tg:=tg) h hb Ek ol hd.1 (by revert hp;cases tg<;>exact λh=>h) hd.2 λw h=> ?_
  have:=hk w h;cases tg with
  |none=>exact this
  |some y=>exact this
theorem aAn{CV:Int}(h:qB w0 w l aa gw G W (lP (qt l aa) os::R))(hop:W.op.isSome=true)(hf:aix G W)(hv:Zs l os bx W)(hk:Fin w0 l aa gw (lP (qt l aa) os::R) k (TH l G W t bx G.vp CV)):jx (some ⟨gw,0,none⟩) CV w k:=by
 obtain⟨sp,st,sw,q,hq,h⟩:=dN h;unfold jx A5;unfold TH at hk;have hvf:=hq.fits.one;refine bU (λb w=>b=decide (CV≠2∨YC G W G.vp (got W)=false)∧wY w0 w l aa gw G W (lP (qt l aa) os::R) sp st sw q) (λJ hJ=> ?_) ?_
 ·with_reducible repeat' (first|refine aK h λw h=> ?_|fail)
  refine aF (λhb=> ?_) λhb=> ?_
  ·exact hJ _ _ ⟨by simp at hb;simp[hb],h⟩
  ·with_reducible repeat' (first|refine an ?_|refine dL h ?_|refine td h ?_|fail)
   refine agp h hop ?_;with_reducible repeat' (first|refine gA ?_|fail)
   refine aw9 hf (λ_ _ _=>rfl) (λ_ _ _=>rfl) hq h λw h=> ?_;refine afs ?_;refine hJ _ _ ⟨?_,h⟩;have hb:CV=2:=by simpa using hb
   show(!(YC G W G.vp (amM W.op)))=_;cases hfb:YC G W G.vp (amM W.op)<;>simp[hb,hfb]
 clear h;rintro _ w ⟨rfl,h⟩;refine aF (λhb=> ?_) λhb=> ?_
 ·rw[if_pos (of_decide_eq_true hb)]at hk;exact YG (bn hq h) hv hk
 ·rw[if_neg (of_decide_eq_false hb)]at hk;with_reducible repeat' (first|refine an ?_|refine eL h λw h=> ?_|fail)
  exact hk _ (bn (q:={q with JW:=mt gw .Am}) (by exact{hq with after:=rfl}) h)
theorem atA{CV:Int}(h:qB w0 w l aa gw G W (lP (qt l aa) os::R))(hop:W.op.isSome=true)(hg:W.got= .c .Sx∨W.got= .m .Bo)(hv:Zs l os bx {W with late:=true})(hk:Fin w0 l aa gw (lP (qt l aa) os::R) k (Am l G W t bx CV)):gZ (some ⟨gw,0,none⟩) CV w k:=by
 obtain⟨sp,st,sw,q,hq,h⟩:=dN h;unfold gZ xV;unfold Am at hk;refine aF (λhb=> ?_) λhb=> ?_
 ·rw[if_pos (by simpa using hb)]at hk
  unfold ata at hk;with_reducible repeat' (first|refine an ?_|refine aK h λw h=> ?_|refine dL h ?_|refine td h ?_|fail)
  refine agp h hop ?_;with_reducible repeat' (first|refine gA ?_|fail)
  have hr:=hq.got;rcases hg with hd|hd
  ·rw[hd]at hk hr;obtain⟨b,hb',hr⟩:=hr;rw[hr];rw[if_neg gD]at hk;refine bX (d:=By) (λ_ _ _=>rfl) (akY ?_);exact aoq hq h hb' hk
  ·rw[hd]at hk hr;obtain hr:q.aib=mt gw .Bo:=hr;rw[hr];rw[if_pos rfl]at hk;refine bX (d:=EO) (λ_ _ _=>rfl) (aoG ?_);exact air (bn hq h) hk
 ·rw[if_neg (by simpa using hb)]at hk
  with_reducible repeat' (first|refine an ?_|refine eL h λw h=> ?_|fail)
  exact YG (W:={W with late:=true}) (bn (W:={W with late:=true}) (q:=q) (by exact{hq with}) h) hv hk
end
section
variable {w0 w:World} {L R:List HP} {l:Lc} {P:List ea} {aa:List Nat} {G:Gl} {gw b c d x y a a':Nat} {W:Wk} {k:Unit→aq} {sp st sw so sc:Sl} {q:Wq} {f:HP→List HP} {t t' tt:Tk} {s':List Nat} {vs:List Value} {i:List Int} {nd:Nd} {p:Pl} {os:List (Nat×Wk)} {bx:List Int}
theorem aoH{p:Addr}{z:Int}{c:Value→aq}(h:fZ z p w λ_ w=>c (.tuple #[]) w):DO [.int .i64 z,.pointer (some p)] w c:=h
theorem aiy{p:Addr}{z:Int}{c:Value→aq}(h:eO z p w λ_ w=>c (.tuple #[]) w):Bz [.int .i64 z,.pointer (some p)] w c:=h
theorem aiz{p:Addr}{z:Int}{c:Value→aq}(h:eP z p w λ_ w=>c (.tuple #[]) w):BA [.int .i64 z,.pointer (some p)] w c:=h
theorem axa{p:Option Addr}{z:Int}{c:Value→aq}(h:jx p z w λ_ w=>c (.tuple #[]) w):HA [.pointer p,.int .i64 z] w c:=h
theorem aoI{p:Option Addr}{z:Int}{c:Value→aq}(h:gZ p z w λ_ w=>c (.tuple #[]) w):EQ [.pointer p,.int .i64 z] w c:=h
def Zt(l:Lc)(os:List (Nat×Wk))(bx:List Int)(G:Gl)(W:Wk)(x:Nat)(t:Tk):Prop:=match W.after with
 | .c .FA=>True
 | .c .tQ=>True
 | .c .sJ=>(∃s',W.stack=x::s')∧G.ts[x]?=some t∧(W.dy= .m .vu∨W.dy= .c .Cs)
 | .m .TH=>aix G W∧Zs l os bx W
 | .m .Am=>(W.got= .c .Sx∨W.got= .m .Bo)∧Zs l os bx {W with late:=true}
 |_=>False
theorem akZ{O:bw}(h:qB w0 w l aa gw G W (lP (qt l aa) os::R))(he:G.err=0)(hM:G.M.OK)(hop:W.op=some O)(hf:O.Gs)(hno:(O.step G.M W.id).1.how=6→(O.step G.M W.id).1.err≠0)
  (ha:(O.step G.M W.id).1.how≠0→(O.step G.M W.id).1.how≠6→Zt l os bx (G.mem (O.step G.M W.id).2) {W with op:=some (O.step G.M W.id).1} x t)
  (hk:Fin w0 l aa gw (lP (qt l aa) os::R) k (o7 l G W O t bx G.vp)):eE (some ⟨gw,0,none⟩) w k:=by
 obtain⟨id,dq,wait,stack,back,cR,op,after,look,seen,step,left,late,fits,got,none_,jc,home,target,kind,bK,blocked,again,CO,mark,dy,own,said,bits,pM⟩:=W;dsimp only at hop ha hno;subst hop;obtain⟨sp,st,sw,q,hq,h⟩:=dN h;unfold eE uY;unfold o7 at hk;dsimp only[mN]at h hk;with_reducible repeat' (first|refine an ?_|refine aK h λw h=> ?_|refine dL h ?_|refine dX h ?_|fail)
 have h:=h.fr 1;have h:=h.fr 15;refine aml (M:=G.M) (O:=O) h hf hM λw h=> ?_;have h:=h.bk 15;have h:=h.bk 1;generalize O.step G.M id=r at h hk ha hno ⊢;have h:wY w0 w l aa gw (G.mem r.2) ⟨id,dq,wait,stack,back,cR,some r.1,after,look,seen,step,left,late,fits,got,none_,jc,home,target,kind,bK,blocked,again,CO,mark,dy,own,said,bits,pM⟩ (lP (qt l aa) os::R) sp st sw q:=h;replace hq:q.Ok aa gw ⟨id,dq,wait,stack,back,cR,some r.1,after,look,seen,step,left,late,fits,got,none_,jc,home,target,kind,bK,blocked,again,CO,mark,dy,own,said,bits,pM⟩:={hq with};refine aF (λhb=> ?_) λhb=> ?_
 ·have hb:r.1.how=0:=by simpa using hb
  rw[if_pos hb]at hk;exact hk _ (bn hq h)
 have hb:¬r.1.how=0:=by simpa using hb
 rw[if_neg hb]at hk;refine aF (λjP=> ?_) λjP=> ?_
 ·have jP:r.1.how=6:=by simpa using jP
  rw[if_pos jP]at hk;with_reducible repeat' (first|refine an ?_|refine aK h λw h=> ?_|refine dL h ?_|fail)
  have h2:St w0 w (uu q.go r.1::_):=h.front 15 rfl;refine azP (O:=r.1) (go:=q.go) h2 ?_;with_reducible repeat' (first|refine gA ?_|fail)
  refine Ka h (hno jP) he λw h=> ?_;exact hk _ (bn (G:=(G.mem r.2).fail r.1.err) hq h)
 have jP:¬r.1.how=6:=by simpa using jP
 rw[if_neg jP]at hk;replace ha:=ha hb jP;unfold Zt at ha;unfold y3 at hk;have hv:=hq.after;with_reducible repeat' (first|refine an ?_|refine td h ?_|fail)
 cases after with
 |c f=>
  obtain⟨b,hb',hv⟩:=hv;rw[hv];cases f<;>first|exact ha.elim|skip
  ·refine bX (d:=DO) (λ_ _ _=>rfl) (aoH ?_);exact atb hq h hb' rfl hk
  ·refine bX (d:=Bz) (λ_ _ _=>rfl) (aiy ?_);exact akO hq h hb' hk
  ·refine bX (d:=BA) (λ_ _ _=>rfl) (aiz ?_);obtain⟨⟨s',hs⟩,ht,hd⟩:=ha;exact akQ hq h hb' rfl hs ht hd hk
 |m f=>
  obtain hv:q.JW=mt gw f:=hv;rw[hv];cases f<;>first|exact ha.elim|skip
  ·refine bX (d:=HA) (λ_ _ _=>rfl) (axa ?_);exact aAn (bn hq h) rfl ha.1 ha.2 hk
  ·refine bX (d:=EQ) (λ_ _ _=>rfl) (aoI ?_);exact atA (bn hq h) rfl ha.1 ha.2 hk
 |nx i=>exact ha.elim
 |no=>exact ha.elim
 |any=>exact ha.elim
 |aw y=>exact ha.elim
 |sh kk=>exact ha.elim
 |Vo y kk=>exact ha.elim
 |Bp y kk=>exact ha.elim
 |hl m z=>exact ha.elim
end
open Fr (Ay m8 dO eC c9 iv jb nF oH qp j1 qb pK pL pJ)
section
variable {w0 w:World} {L R:List HP} {l:Lc} {P:List ea} {aa:List Nat} {G:Gl} {gw b c d x y a a':Nat} {W:Wk} {k:Unit→aq} {sp st sw so sc:Sl} {q:Wq} {f:HP→List HP} {t t' tt:Tk} {s':List Nat} {vs:List Value} {i:List Int} {nd:Nd} {p:Pl}
theorem aCQ:GI Tryz.prog 120 2 16 (.agg #[.int .i64 0,.int .i64 0]):=⟨bf,bf⟩
theorem ayH:GI Tryz.prog 69 1 8 (.int .i64 0):=⟨bf,bf⟩
theorem atB(hF:j2 w0 l.ps P)(hI:In P t.f i)(h:qB w0 w l aa gw G W R)(he:G.err=0)(hs:W.stack=x::s')(ht:G.ts[x]?=some t)(ho:t.cI≠ [])(hM:G.M.OK)(py:G.M.caller W.id=true)(hC:G.C.length≤1000000)(hP:G.P.length≤1000000)(hsc:nR G.C t.j3.1=some nd)
  (BY:0≤t.j3.1∧G.P[t.j3.1.toNat]?=some p) (hl1:t.scopes.length≤1000000) (hl2:t.cI.length≤1000000) (htm:G.time.2.length≤100000∧CK G.time) (Ui:i.getD 4 0>0→(Ko.CM G.time (G.C.length:Nat) (i.getD 4 0)).1=0)
  (hk:Fin w0 l aa gw R k (opens l P G W x t nd p.2.1)):fN (some ⟨gw,0,none⟩) w k:=by
 obtain⟨o,m,wZ⟩:∃o m,t.cI=o++[m]:=⟨_,_,(List.dropLast_concat_getLast ho).symm⟩;obtain⟨sp,st,sw,q,hq,h⟩:=dN h;obtain⟨a,vs,ha,hst,hvs⟩:=mO hq hs;obtain⟨hp,so,sc,h⟩:=nH h ha ht;unfold fN yl;unfold opens at hk;rw[BU wZ]at hsc BY hk;rw[hI.ins]at hk;have hf:=hI.len;have h5:=hI.Gu;dsimp only at hk;refine Gx h he (λhb w h=> ?_) λhb w h=> ?_
 ·rw[if_pos hb]at hk;with_reducible repeat' (first|refine qx ?_|fail)
  exact hk _ (bn (G:=G.fail 22) hq (oF (G:=G.fail 22) ⟨hp.len,hp.a,hp.t⟩ h))
 rw[if_neg hb]at hk;with_reducible repeat' (first|refine ij ?_|fail)
 refine kX h hst vw λw h=> ?_;refine I7 hF hI h hst λw h=> ?_;obtain⟨i0,i1,i2,i3,i4,rfl⟩:=I6 h5;have e4:([i0,i1,i2,i3,i4]:List Int).getD 4 0=i4:=rfl;rw[e4]at hk Ui;with_reducible repeat' (first|refine an ?_|refine aK h λw h=> ?_|refine dL h ?_|refine dX h ?_|refine qX h λw h=> ?_|refine av h λgx w h=> ?_|fail)
 obtain⟨gc,lI⟩:∃n,n=gx:=⟨_,rfl⟩;subst lI;refine BG h wZ λw h=> ?_;with_reducible repeat' (first|refine kr h ?_|fail)
 refine ptI (by rfl) ?_
 refine afY (C:=G.C) (M:=G.M) h hsc py hM hC (λhd w h=> ?_) (λhd hr w h=> ?_) λhd hr w h=> ?_
 ·rw[if_pos hd]at hk;with_reducible repeat' (first|refine an ?_|refine dL h ?_|fail)
  refine Ka h gD he λw h=> ?_;exact hk _ (bn (G:=G.fail 23) hq (oF (G:=G.fail 23) ⟨hp.len,hp.a,hp.t⟩ (h.rm 0 rfl)))
 ·rw[if_neg hd,if_pos hr]at hk;with_reducible repeat' (first|refine an ?_|refine dL h ?_|fail)
  refine Ka h gD he λw h=> ?_;exact hk _ (bn (G:=G.fail 21) hq (oF (G:=G.fail 21) ⟨hp.len,hp.a,hp.t⟩ (h.rm 0 rfl)))
 ·rw[if_neg hd,if_neg (by rw[hr];simp)]at hk
  have atC:=uN (s:=sc) (vs:=ints t.scopes) h;have atC:sc.n=t.scopes.length:=by simpa using atC
  with_reducible repeat' (first|refine an ?_|refine aK h λw h=> ?_|refine dL h ?_|refine dX h ?_|refine mJ h ?_|refine ij ?_|refine lJ ?_|fail)
  refine BG h wZ λw h=> ?_;with_reducible repeat' (first|refine kr h ?_|fail)
  refine ptI (by rfl) ?_
  refine rI (sz:=4) (s:=sp) (es:=G.P.map uy) h BY.1 (e:=uy p) (j:=1) (by rw[pB,BY.2];rfl) rfl ?_
  with_reducible repeat' (first|refine kr h ?_|fail)
  refine NQ rfl rfl ?_;with_reducible repeat' (first|refine av h λgx w h=> ?_|refine kr h ?_|fail)
  refine ad3 (sz:=4) (s:=sp) (es:=G.P.map uy) (e:=uy (t.id,((sc.n:Nat):Int),p.2.1,false)) h ato bf rfl ah (by simp[Value.oneCell']) (by simpa using hP) ah λs1 w h hn=> ?_
  have h:=h.El 0;have e1:G.P.map uy++[uy (t.id,((sc.n:Nat):Int),p.2.1,false)]=(G.P++[(t.id,((t.scopes.length:Nat):Int),p.2.1,false)]).map uy:=by rw[atC];simp
  rw[e1]at h;with_reducible repeat' (first|refine an ?_|refine mJ h ?_|refine eL h λw h=> ?_|refine av h λgx w h=> ?_|refine kr h ?_|fail)
  refine Ld (s:=sc) (vs:=ints t.scopes) h ayH bf rfl (by simpa using hl1) ah λs2 w h E7=> ?_
  have h:=h.El 0;have e2:ints t.scopes++[.int .i64 ((G.C.length:Nat):Int)]=ints (t.scopes++[((G.C.length:Nat):Int)]):=by simp[ints]
  rw[e2]at h;with_reducible repeat' (first|refine an ?_|refine aK h λw h=> ?_|refine dX h ?_|refine mJ h ?_|refine eL h λw h=> ?_|refine gA ?_|fail)
  refine NQ rfl rfl ?_;with_reducible repeat' (first|refine av h λgx w h=> ?_|refine kr h ?_|fail)
  refine ad3 (sz:=2) (s:=so) (es:=t.cI.map Az) (e:=Az (((G.C.length:Nat):Int),W.mark)) h aCQ bf rfl ah (by simp[Value.oneCell']) (by simpa using hl2) ah λs3 w h hn3=> ?_
  have h:=h.El 0;have e3:t.cI.map Az++[Az (((G.C.length:Nat):Int),W.mark)]=(t.cI++[(((G.C.length:Nat):Int),W.mark)]).map Az:=by simp
  rw[e3]at h;with_reducible repeat' (first|refine an ?_|refine eL h λw h=> ?_|fail)
  refine bU (fun(b:Bool) w=>b=false∧St w0 w (ax gc (ints [i0,i1,i2,i3,i4])::TL l aa gw {G with M:=(G.M.tick W.id).grow 2,C:=G.C++[⟨m.1,wr (nd.nest+1),(G.M.cells.length:Nat)⟩],P:=G.P++[(t.id,((t.scopes.length:Nat):Int),p.2.1,false)],time:=if i4>0 then(G.time.1,(Ko.CM G.time (G.C.length:Nat) i4).2)else G.time} W R s1 st sw q x a {t with scopes:=t.scopes++[((G.C.length:Nat):Int)],cI:=t.cI++[(((G.C.length:Nat):Int),W.mark)]} s3 s2)) (λJ hJ=> ?_) ?_
  ·with_reducible repeat' (first|refine aK h λw h=> ?_|refine dX h ?_|fail)
   refine aF (λhb=> ?_) λhb=> ?_
   ·have hb:i4>0:=of_decide_eq_true hb;rw[if_pos hb]at hJ;with_reducible repeat' (first|refine an ?_|refine dL h ?_|refine dX h ?_|fail)
    refine Ko.az4 (now:=G.time.1) (S:=G.time.2) htm.1 htm.2 h λw h=> ?_;rw[show(Ko.CM (G.time.1,G.time.2) ((G.C.length:Nat):Int) i4).1=0 from Ui hb];with_reducible repeat' (first|refine kr h ?_|refine lJ ?_|fail)
    exact hJ _ _ ⟨rfl,h⟩
   ·have hb:¬i4>0:=of_decide_eq_false hb;rw[if_neg hb]at hJ;exact hJ _ _ ⟨rfl,h⟩
  clear h;rintro _ w ⟨rfl,h⟩;with_reducible repeat' (first|refine an ?_|refine pi h ?_|refine ij ?_|fail)
  refine SC (t:=t) h hf λw h=> ?_;with_reducible repeat' (first|refine an ?_|fail)
  refine An (t:={t with scopes:=t.scopes++[((G.C.length:Nat):Int)],cI:=t.cI++[(((G.C.length:Nat):Int),W.mark)]}) h (by rw[j1,hf]) λw h=> ?_
  have h:=h.El 0;unfold aG;with_reducible repeat' (first|refine an ?_|refine dL h ?_|refine dX h ?_|refine eL h λw h=> ?_|fail)
  exact hk _ (bn (q:={q with pe:=mt gw .next}) (by exact{hq with cR:=rfl}) (vo (t':={t with scopes:=t.scopes++[((G.C.length:Nat):Int)],cI:=t.cI++[(((G.C.length:Nat):Int),W.mark)],f:=m8 t.f})
   (G:=({G with M:=(G.M.tick W.id).grow 2,C:=G.C++[⟨m.1,wr (nd.nest+1),(G.M.cells.length:Nat)⟩],P:=G.P++[(t.id,((t.scopes.length:Nat):Int),p.2.1,false)],time:=if i4>0 then(G.time.1,(Ko.CM G.time (G.C.length:Nat) i4).2)else G.time}:Gl).lK) (W:=W.go .next) ⟨hp.len,hp.a,hp.t⟩ h))
end
section
variable {w0 w:World} {L R:List HP} {l:Lc} {P:List ea} {aa:List Nat} {G:Gl} {gw b c d x y a a':Nat} {W:Wk} {sp st sw so sc:Sl} {q:Wq} {f:HP→List HP} {t t' tt:Tk} {s':List Nat} {vs:List Value} {i:List Int} {nd:Nd} {p:Pl}
abbrev SL(l:Lc)(aa:List Nat)(G:Gl)(R:List HP)(sp st sw:Sl):List HP:=ax l.gs (l.cs sp st sw G.steps G.err)::bN l.gm G.M::Cr l.gk G.T::scp l.gc G.C::rws 4 sp (G.P.map uy)::bQ 1 st (aa.map pt)::bQ 1 sw (l.wa.map pt)::oE l.gt G.time::KS l.gd G.D::L6 aa G.ts::R
theorem ak0{g:Nat}{X Y:List Value}(h:St w0 w (ax g X::L))(e:X=Y):St w0 w (ax g Y::L):=e▸h
theorem atD{wk parent lN own:Int}{fr:List Int}{k:Int→aq}(h:St w0 w (SL l aa G R sp st sw))(hf:fr.length=19)(hM:G.M.OK)(py:G.M.caller wk=true)(Zu:(parent= -1∧G.T=[])∨∃t,Gq G.T parent=some t∧t.kids.length≤1000000)(hT:G.T.length≤1000000)(hn:aa.length≤1000000)(hown:0≤own∧own<G.P.length)
  (h1:G.M.room 3=true→∀g CV w',St w0 w' (SL l (aa++[g]) (G.more wk parent lN own fr) R sp CV sw)→k 0 w') (h2:G.M.room 3=false→∀w',St w0 w' (SL l aa G R sp st sw)→k 21 w'):eY (some ⟨l.gs,0,none⟩) wk parent lN own (eV fr) w k:=by
 unfold eY Cb;refine av h λgf w h=> ?_;with_reducible repeat' (first|refine an ?_|refine dL h ?_|fail)
 refine av7 (M:=G.M) h py hM (λhr w h=> ?_) λhr w h=> ?_
 ·with_reducible repeat' (first|refine an ?_|refine dL h ?_|refine qX h λw h=> ?_|refine av h λgx w h=> ?_|refine ij ?_|fail)
  obtain⟨g7,lI⟩:∃n,n=gx:=⟨_,rfl⟩;subst lI;refine awc (T:=G.T) h Zu hT λw h=> ?_;with_reducible repeat' (first|refine an ?_|refine aK h λw h=> ?_|refine mJ h ?_|refine pn h ?_|refine ij ?_|fail)
  refine amO h hf ?_;obtain⟨f0,f1,f2,f3,f4,f5,f6,f7,f8,f9,f10,f11,f12,f13,f14,f15,f16,f17,f18,rfl⟩:=Fr.af5 hf;with_reducible repeat' (first|refine av h λgx w h=> ?_|refine kr h ?_|refine po h ?_|fail)
  obtain⟨gn,lI⟩:∃n,n=gx:=⟨_,rfl⟩;subst lI;refine⟨rfl,?_⟩;refine⟨rfl,?_⟩;with_reducible repeat' (first|refine av h λgx w h=> ?_|refine kr h ?_|fail)
  obtain⟨gp,lI⟩:∃n,n=gx:=⟨_,rfl⟩;subst lI;obtain⟨gt,lI⟩:∃n,n=gx:=⟨_,rfl⟩;subst lI;refine Ld (s:=st) (vs:=aa.map pt) h amR bf rfl (by simpa using hn) ah λs1 w h uz=> ?_
  have h:=h.El 0;have ep:aa.map pt++[.pointer (some ⟨gt,0,none⟩)]=(aa++[gt]).map pt:=by simp
  rw[ep]at h;with_reducible repeat' (first|refine an ?_|refine mJ h ?_|refine eL h λw h=> ?_|fail)
  have Yo:own.toNat<G.P.length:=ah;refine rW (sz:=4) (s:=sp) (es:=G.P.map uy) h hown.1 (e:=uy (G.P[own.toNat]'Yo)) (by rw[pB,kq Yo];rfl) ah rfl (by simp[Value.oneCell']) λw h=> ?_
  have e2:(G.P.map uy).set own.toNat [.int .i64 ((G.T.length:Nat):Int),.int .i64 0,.int .i64 0,.bool false]=(G.P.set own.toNat (((G.T.length:Nat):Int),0,0,false)).map uy:=by rw[List.map_set]
  have e3:∀(z:Int),(#[.int .i64 z,.int .i64 0,.int .i64 0,.bool false]:Array Value).toList=[.int .i64 z,.int .i64 0,.int .i64 0,.bool false]:=λ_=>rfl;rw[e3,e2]at h;have h:=h.El 2;have h:=h.El 2;have h:=St.asS (g:=gn) (n:=1) (sz:=1) h (by rfl) ah (by intro v hv;simp at hv;subst hv;rfl)
  have h:=h.fr 11;have hl:aa.length=G.ts.length:=NW h;have h:=h.fr 2;have h:St w0 w (rws 2 ⟨none,0,0⟩ (([]:List (Int×Int)).map Az)::_):=St.pur (by intro e he;cases he) (h.Jx 2)
  have h:=h.fr 3;have h:=ak0 (Y:=Tk.cells ⟨none,0,0⟩ ⟨some ⟨gn,0,none⟩,1,1⟩ ⟨(G.T.length:Nat),lN,own,(G.M.cells.length:Nat),[f0,f1,f2,f3,f4,f5,f6,f7,f8,f9,f10,f11,f12,f13,f14,f15,f16,f17,f18],ByteArray.mk #[],[],[own],0,0⟩) h bf;have h:=awJ (t':=⟨(G.T.length:Nat),lN,own,(G.M.cells.length:Nat),[f0,f1,f2,f3,f4,f5,f6,f7,f8,f9,f10,f11,f12,f13,f14,f15,f16,f17,f18],ByteArray.mk #[],[],[own],0,0⟩) (g:=gt) (so:=⟨none,0,0⟩) (sc:=⟨some ⟨gn,0,none⟩,1,1⟩) hl h;have h:=h.bk 9;exact h1 hr gt s1 w h
 ·with_reducible repeat' (first|refine qX h λw h=> ?_|refine av h λgx w h=> ?_|refine qx ?_|fail)
  exact h2 hr w ((h.rm 0 rfl).rm 0 rfl)
end
end Go.Proofs.YthidhjhkmjjckaaGreatDoor
namespace Go.Proofs.YthidhjhkmjjckaaGreatDoor
open Go Go.Ev Go.Proofs
section
variable {w0 w:World} {L R:List HP} {l:Lc} {aa m:List Nat} {os:List (Nat×Wk)}
theorem atE{x:Nat×Wk}{F:Nat→Prop}{w:World}(h:(qt l aa x).p F w):(qt l (aa++m) x).p F w:=by
 obtain⟨q,hq,h⟩:=h;exact⟨q,hq.qD,h⟩
theorem aiA{α:Type}{X Y:α→HP}(hXY:∀a F w,(X a).p F w→(Y a).p F w):∀{l:List α} {F:Nat→Prop} {w:World},uL (l.map X) F w→uL (l.map Y) F w
 |[],_,_,h=>h
 |a::l,F,w,⟨F1,F2,h1,h2,h3⟩=>⟨F1,F2,hXY _ _ _ h1,aiA hXY h2,h3⟩
theorem amW(h:St w0 w (lP (qt l aa) os::R)):St w0 w (lP (qt l (aa++m)) os::R):=by
 obtain⟨h1,F,⟨F1,F2,h2,h4,h5,e⟩,h3⟩:=h;exact⟨h1,F,⟨F1,F2,aiA (λa F w h=>atE h) h2,h4,h5,e⟩,h3⟩
end
open Ko (oE CK)
open Fr (Ay m8 dO eC c9 iv jb nF oH qp j1 qb pK pL pJ)
section
variable {w0 w:World} {L R:List HP} {l:Lc} {P:List ea} {aa:List Nat} {G:Gl} {gw b c d x y a a':Nat} {W:Wk} {k:Unit→aq} {sp st sw so sc:Sl} {q:Wq} {f:HP→List HP} {t t' tt:Tk} {s':List Nat} {vs:List Value} {i:List Int} {nd:Nd} {p:Pl} {os:List (Nat×Wk)}
theorem aiB{f:List Int}{n m:Int}(hf:f.length=19):(jb f n m).length=19:=by
 unfold jb;simp[Fr.Xg,hf]
theorem aiC{ps:Sl}{g:ea}{k:Array Value×Int→aq}(h:St w0 w L)(hF:j2 w0 ps P)(hf:t.f.length=19)(h5:i.length=5)(h8:oH i 8=true)(hg:P[(i.getD 4 0).toNat]?=some g)(hk:∀w',St w0 w' L→k (eV (jb t.f (i.getD 4 0) g.aY),0) w'):iR (frV t.f).toArray #[.slice ps.a ps.n ps.c] (eV i) w k:=by
 rw[NV hf];have hF':=(hF.ext h.ext);refine Fr.asr (fs:=P.map λx=>(x.aY,x.sl)) hf h5 ?_ (λe=> ?_) (λ_ e=> ?_) λ_ z hz w' he=> ?_
 ·have hr:=hF'.rws;unfold Fr.NS;rw[List.map_map];exact hr
 ·rw[h8]at e;cases e
 ·have:=(kO.1 hg).1;rw[List.length_map]at e;omega
 ·rw[pB,hg]at hz;cases hz
  exact hk w' (h.on he)
theorem aoK{z:Int}{k:Array Value→aq}(h:St w0 w L)(hf:t.f.length=19)(h5:i.length=5)(hk:∀w',St w0 w' L→k (eV (eC t.f i z)) w'):iS (frV t.f).toArray (eV i) z w k:=by
 rw[NV hf];exact Fr.an6 hf h5 λw' he=>hk w' (h.on he)
theorem atF{g:ea}(hF:j2 w0 l.ps P)(hI:In P t.f i)(h:qB w0 w l aa gw G W (lP (qt l aa) os::R))(he:G.err=0)(hs:W.stack=x::s')(ht:G.ts[x]?=some t)(ho:t.cI≠ [])(h8:oH i 8=true)(hg:P[(i.getD 4 0).toNat]?=some g)
  (hM:G.M.OK) (py:G.M.caller W.id=true) (Zu:∃t',Gq G.T t.id=some t'∧t'.kids.length≤1000000) (hT:G.T.length≤1000000) (hn:aa.length≤1000000) (hown:0≤W.own∧W.own<G.P.length)
  (hk:∀I8 w',qB w0 w' l I8 gw (Kb l P G W x t).1 (Kb l P G W x t).2 (lP (qt l I8) os::R)→k () w'):fM (some ⟨gw,0,none⟩) w k:=by
 obtain⟨o,m,wZ⟩:∃o m,t.cI=o++[m]:=⟨_,_,(List.dropLast_concat_getLast ho).symm⟩;obtain⟨sp,st,sw,q,hq,h⟩:=dN h;obtain⟨a,vs,ha,hst,hvs⟩:=mO hq hs;obtain⟨hp,so,sc,h⟩:=nH h ha ht;unfold fM yh;unfold Kb at hk;rw[BU wZ,hI.ins]at hk;dsimp only at hk;have hf:=hI.len;have h5:=hI.Gu;have hnd:Ed P (i.getD 4 0)=g.aY:=by unfold Ed;rw[hg]
 rw[hnd]at hk;refine Gx h he (λhb w h=> ?_) λhb w h=> ?_
 ·rw[if_pos hb]at hk;with_reducible repeat' (first|refine qx ?_|fail)
  exact hk aa _ (bn (G:=G.fail 22) hq (oF (G:=G.fail 22) ⟨hp.len,hp.a,hp.t⟩ h))
 rw[if_neg hb]at hk;with_reducible repeat' (first|refine ij ?_|fail)
 refine kX h hst vw λw h=> ?_;refine I7 hF hI h hst λw h=> ?_;obtain⟨i0,i1,i2,i3,i4,hi⟩:=I6 h5;subst hi;with_reducible repeat' (first|refine qX h λw h=> ?_|refine av h λgx w h=> ?_|fail)
 obtain⟨gc,lI⟩:∃n,n=gx:=⟨_,rfl⟩;subst lI;have ad5:(jb t.f i4 g.aY).length=19:=aiB hf;refine bU (fun(x2:Addr×Int) w=> ∃g2,x2=(⟨g2,0,none⟩,0)∧St w0 w (ax g2 (ints (jb t.f i4 g.aY))::ax gc (ints [i0,i1,i2,i3,i4])::TL l aa gw G W (lP (qt l aa) os::R) sp st sw q x a t so sc)) (λJ hJ=> ?_) ?_
 ·with_reducible repeat' (first|refine an ?_|refine aK h λw h=> ?_|refine dL h ?_|refine pi h ?_|refine pn h ?_|refine av h λgx w h=> ?_|refine kr h ?_|refine po h ?_|refine lu ?_ ?_|fail)
  ·refine aiC (t:=t) (i:=[i0,i1,i2,i3,i4]) (g:=g) h hF hf h5 h8 hg λw h=> ?_;with_reducible repeat' (first|refine av h λgx w h=> ?_|refine kr h ?_|refine po h ?_|fail)
   refine aex h rfl ad5 λw h=> ?_;exact hJ _ _ ⟨_,rfl,h⟩
  ·refine aiC (t:=t) (i:=[i0,i1,i2,i3,i4]) (g:=g) h hF hf h5 h8 hg λw h=> ?_;refine aex h rfl ad5 λw h=> ?_;exact hJ _ _ ⟨_,rfl,h⟩
 clear h;rintro _ w ⟨g2,rfl,h⟩;refine Qf ?_;with_reducible repeat' (first|refine an ?_|refine aK h λw h=> ?_|refine dL h ?_|refine dX h ?_|refine ij ?_|refine lJ ?_|fail)
 refine amO h ad5 ?_;refine BG h wZ λw h=> ?_;with_reducible repeat' (first|refine kr h ?_|refine po h ?_|fail)
 refine ptI (by rfl) ?_
 have h:=h.bk 23;have h:=h.bk 22;have h:=oF (R:=ax gc (ints [i0,i1,i2,i3,i4])::ax g2 (ints (jb t.f i4 g.aY))::lP (qt l aa) os::R) hp h;refine atD (aa:=aa) (G:=G) h ad5 hM py (.inr Zu) hT hn hown (λhr gn CV w h=> ?_) λhr w h=> ?_
 ·rw[if_neg (by rw[hr];simp)]at hk
  have ayI:=uN (s:=CV) (vs:=(aa++[gn]).map pt) h;have hm':=(h.own (sz:=1) (s:=CV) (vs:=(aa++[gn]).map pt)).max;have Ek:=(h.own (sz:=1) (s:=CV) (vs:=(aa++[gn]).map pt)).cap;have e0:aL .i64 (((CV.n:Nat):Int) - 1)=(G.ts.length:Nat):=by
   rw[List.length_map,tW,hp.len]at ayI;simp only[List.length_cons,List.length_nil]at ayI;rw[lO ⟨ah,ah⟩];omega
  with_reducible repeat' (first|refine an ?_|refine aK h λw h=> ?_|refine kr h ?_|refine ij ?_|refine lJ ?_|fail)
  obtain⟨hp',so',sc',h⟩:=nH (aa:=aa++[gn]) (G:=G.more W.id t.id m.1 W.own (jb t.f i4 g.aY)) (W:=W) (q:=q) h (Sy ha) (sY (kO.1 ht).1|>.trans ht);with_reducible repeat' (first|refine an ?_|refine dL h ?_|refine mJ h ?_|refine pi h ?_|refine pn h ?_|fail)
  refine aoK (t:=t) (i:=[i0,i1,i2,i3,i4]) h hf h5 λw h=> ?_;with_reducible repeat' (first|refine an ?_|fail)
  refine An h (by rw[pK,hf]) λw h=> ?_
  unfold aG;with_reducible repeat' (first|refine an ?_|refine dL h ?_|refine dX h ?_|refine mJ h ?_|refine eL h λw h=> ?_|fail)
  have h:=h.El 22;have h:=h.El 22;have h:=h.fr 22;have h:=amW (m:=[gn]) h;have h:=h.bk 22;simp only[e0]at h;exact hk (aa++[gn]) _ (bn (q:={q with pe:=mt gw .sV}) (by exact{hq.qD with cR:=rfl}) (vo (t':={t with f:=eC t.f [i0,i1,i2,i3,i4] (G.ts.length:Nat)}) (G:=(G.more W.id t.id m.1 W.own (jb t.f i4 g.aY)).lK) (W:={W with jc:=(G.ts.length:Nat),cR:= .m .sV}) ⟨hp'.len,hp'.a,hp'.t⟩ h))
 ·rw[if_pos hr]at hk;with_reducible repeat' (first|refine kr h ?_|fail)
  refine Ka h gD he λw h=> ?_;have h:=h.El 19;have h:=h.El 19;exact hk aa _ (bn (G:=G.fail 21) hq h)
end
end Go.Proofs.YthidhjhkmjjckaaGreatDoor
namespace Go.Proofs.YthidhjhkmjjckaaGreatDoor
open Go Go.Ev Go.Proofs
open Ko (oE CK)
open Fr (Ay m8 dO eC c9 iv jb nF oH)
abbrev tk0:Tk:=⟨0,0,0,0,[],ByteArray.mk #[],[],[],0,0⟩
def Gl.tk(G:Gl)(x:Nat):Tk:=(G.ts[x]?).getD tk0
def Gl.nd(G:Gl)(s:Int):Nd:=(nR G.C s).getD ⟨0,0,0⟩
def Gl.pk(G:Gl)(s:Int):Int:=match G.P[s.toNat]? with|some p=>p.2.1|none=>0
theorem Gl.Ao(G:Gl){x:Nat}(h:x<G.ts.length):G.ts[x]?=some (G.tk x):=by
 unfold Gl.tk;rw[kq h];rfl
theorem Gl.aAo(G:Gl){s:Int}(h:s<G.P.length)(h0:0≤s):∃p,G.P[s.toNat]?=some p∧G.pk s=p.2.1:=by
 have h1:s.toNat<G.P.length:=ah;exact⟨_,kq h1,by unfold Gl.pk;rw[kq h1]⟩
def YH(l:Lc)(P:List ea)(G:Gl)(W:Wk)(bx:List Int):SW:=
 let x:=W.stack.headD 0
 let t:=G.tk x
 match W.cR with
 | .m .rest=>rest l G W
 | .m .o7=>match W.op with|some O=>o7 l G W O t bx G.vp|none=>(G,W)
 | .m .looking=>match W.look with|some k=>looking l G W k (G.nd k.at_) x t|none=>(G,W)
 | .m .tell=>N2 l G W
 | .m .others=>others l G W t bx
 | .m .wU=>match W.step with|some o=>wU l G W o|none=>(G,W)
 | .m .RN=>RN l G W
 | .m .I0=>I0 l G W
 | .m .sU=>sU G W (G.tk W.jc.toNat)
 | .m .start=>N3 l G W W.jc.toNat (G.tk W.jc.toNat)
 | .m .next=>Vt l P G W x t
 | .m .fork=>fork G W t (G.nd t.j3.1)
 | .m .wV=>Kb l P G W x t
 | .m .sV=>sV l G W (G.nd t.j3.1)
 | .m .join=>join l P G W t
 | .m .cI=>cI G W
 | .m .opens=>opens l P G W x t (G.nd t.j3.1) (G.pk t.j3.1)
 | .m .close=>close_ G W t
 | .m .gC=>gC l P G W x t (G.nd t.j3.1)
 | .m .cancel=>cancel l G W x t (G.nd t.j3.1)
 | .m .pass=>pass l G W x t
 | .m .leave=>leave l P G W x t
 | .m .put=>put G W t
 | .m .fin=>fin G W t
 | .m .asks=>asks G W t
 | .m .gone=>gone G W (G.nd t.lN)
 | .m .asked=>asked G W t (G.tk (W.target.getD 0)) (W.target.getD 0)
 | .m .joined=>joined l P G W x t (G.tk (W.target.getD 0))
 | .m .tP=>tP l G W t
 | .m .qU=>qU l G W
 | .m .rR=>rR G W t (G.nd t.j3.1)
 | .m .register=>register G W (G.tk (W.target.getD 0))
 | .m .block=>match W.step with|some o=>block l G W o|none=>(G,W)
 | .m .HI=>HI l G W t
 | .m .stops=>stops l G W x t G.vp G.Vv
 | .aw y=>FG l G W t y
 | .sh k=>(G,shut W k t)
 |_=>(G,W)
structure Gz (G:Gl) (W:Wk) (x:Nat) (t:Tk):Prop where
 s:W.stack=x::W.stack.tail
 t:G.ts[x]?=some t
abbrev GA(G:Gl)(s:Int):Prop:=nR G.C s=some (G.nd s)
abbrev Zv(P:List ea)(f:List Int):Prop:=In P f (bz P f)∧(0≤(bz P f).getD 0 0∧(bz P f).getD 0 0<17)∧((dO f (bz P f)).2=false→8≤(bz P f).getD 0 0∧(bz P f).getD 0 0≤16)
abbrev aiD(G:Gl)(W:Wk):Prop:=W.target=some (W.target.getD 0)∧W.target.getD 0<G.ts.length
abbrev aCS(l:Lc)(os:List (Nat×Wk))(bx:List Int)(G:Gl)(W:Wk):Prop:=∃O,W.op=some O∧O.Gs∧((O.step G.M W.id).1.how=6→(O.step G.M W.id).1.err≠0)∧
 ((O.step G.M W.id).1.how≠0→(O.step G.M W.id).1.how≠6→Zt l os bx (G.mem (O.step G.M W.id).2) {W with op:=some (O.step G.M W.id).1} (W.stack.headD 0) (G.tk (W.stack.headD 0)))
structure aeA (l:Lc):Prop where
 sp:l.sp.OK
 w1:1≤l.wa.length
 w16:l.wa.length≤16
def aiE(l:Lc)(P:List ea)(os:List (Nat×Wk))(bx:List Int)(G:Gl)(W:Wk):Prop:=
 let x:=W.stack.headD 0
 let t:=G.tk x
 match W.cR with
 | .m .rest=>G.M.can W.id l.told=true
 | .m .o7=>aCS l os bx G W
 | .m .looking=> ∃k,Gz G W x t∧W.look=some k∧k.done=false∧GA G k.at_∧G.M.can W.id (G.nd k.at_).at_=true∧amV W t
 | .m .tell=>G.M.can W.id l.told=true
 | .m .others=>G.M.can W.id l.idle=true∧G.M.given (l.sp.at_+1)=true∧(0≤W.id∧W.id<l.wa.length)∧Zs l os bx {W with left:=Vg (G.D.headD 0) (xk W.id (l.sp.bits G.M) (G.M.get l.idle) l.wa.length)}
 | .m .wU=> ∃o,W.step=some o∧o.Gs l.sp G.M W.id
 | .m .RN=>(0≤W.id∧W.id≤16)∧G.M.can W.id l.idle=true∧W.wait.how=1
 | .m .I0=>(0≤W.id∧W.id≤16)∧G.M.can W.id l.idle=true
 | .m .sU=>(0≤W.jc∧W.jc<G.ts.length)∧G.M.can W.id ((G.tk W.jc.toNat).jt+0)=true
 | .m .start=>(0≤W.jc∧W.jc<G.ts.length)∧y7 W.dq∧G.M.can W.id (W.dq+1)=true∧GA G (G.tk W.jc.toNat).lN∧W.stack.length≤100000∧W.back.length≤100000
 | .m .next=>Gz G W x t∧Zv P t.f∧GA G t.lN
 | .m .fork=>Gz G W x t∧t.cI≠ []∧G.M.caller W.id=true∧G.C.length≤1000000∧G.P.length≤1000000∧GA G t.j3.1
 | .m .wV=>Gz G W x t∧t.cI≠ []∧Zv P t.f∧oH (bz P t.f) 8=true∧(∃g,P[((bz P t.f).getD 4 0).toNat]?=some g)∧G.M.caller W.id=true∧(∃t',Gq G.T t.id=some t'∧t'.kids.length≤1000000)∧G.T.length≤1000000∧G.ts.length≤1000000∧(0≤W.own∧W.own<G.P.length)
 | .m .sV=>Gz G W x t∧t.cI≠ []∧GA G t.j3.1∧G.M.can W.id ((G.nd t.j3.1).at_+1)=true
 | .m .join=>Gz G W x t∧Zv P t.f∧(0≤Gy (bz P t.f)∧Gy (bz P t.f)<8)∧(0≤t.f.getD (10+(Gy (bz P t.f)).toNat) 0∧t.f.getD (10+(Gy (bz P t.f)).toNat) 0<G.ts.length)∧G.M.can W.id l.told=true∧GA G t.lN
 | .m .cI=>y7 W.dq∧G.M.can W.id (W.dq+1)=true
 | .m .opens=>Gz G W x t∧t.cI≠ []∧Zv P t.f∧G.M.caller W.id=true∧G.C.length≤1000000∧G.P.length≤1000000∧GA G t.j3.1∧(0≤t.j3.1∧t.j3.1<G.P.length)∧t.scopes.length≤1000000∧t.cI.length≤1000000∧(G.time.2.length≤100000∧CK G.time)∧((bz P t.f).getD 4 0>0→(Ko.CM G.time (G.C.length:Nat) ((bz P t.f).getD 4 0)).1=0)
 | .m .close=>Gz G W x t∧t.cI≠ []
 | .m .gC=>Gz G W x t∧t.cI≠ []∧Zv P t.f∧Dr G t.j3.1∧GA G t.j3.1∧G.M.can W.id (G.nd t.j3.1).at_=true∧t.gC.size≤1000000
 | .m .cancel=>Gz G W x t∧t.cI≠ []∧t.f.length=19∧GA G t.j3.1∧G.M.can W.id (G.nd t.j3.1).at_=true
 | .m .pass=>Gz G W x t∧t.f.length=19
 | .m .leave=>Gz G W x t∧Zv P t.f∧(0≤(bz P t.f).getD 1 0∧(bz P t.f).getD 1 0<8)
 | .m .put=>Gz G W x t∧G.M.can W.id (t.jt+1)=true
 | .m .fin=>Gz G W x t∧(2≤t.kind∧t.kind≤4)∧G.M.can W.id (t.jt+0)=true
 | .m .asks=>Gz G W x t∧G.M.can W.id (t.jt+2)=true
 | .m .gone=>Gz G W x t∧(∃kb bs,W.back=kb::bs∧bs.length=W.stack.tail.length)∧GA G t.lN∧G.M.can W.id ((G.nd t.lN).at_+1)=true
 | .m .asked=>Gz G W x t∧t.cI≠ []∧aiD G W∧G.M.can W.id ((G.tk (W.target.getD 0)).jt+0)=true
 | .m .joined=>Gz G W x t∧Zv P t.f∧aiD G W∧G.M.can W.id ((G.tk (W.target.getD 0)).jt+1)=true
 | .m .tP=>Gz G W x t∧(W.dy= .m .vu∨W.dy= .c .Cs)∧y7 W.dq∧G.M.can W.id (W.dq+1)=true
 | .m .qU=>G.M.can W.id l.told=true
 | .m .rR=>Gz G W x t∧t.cI≠ []∧GA G t.j3.1∧G.M.can W.id ((G.nd t.j3.1).at_+1)=true
 | .m .register=>aiD G W∧(0≤W.id∧W.id≤16)∧G.M.can W.id ((G.tk (W.target.getD 0)).jt+2)=true
 | .m .block=> ∃o,W.step=some o∧o.Gs l.sp G.M W.id
 | .m .HI=>Gz G W x t∧aey G W t∧G.M.can W.id l.told=true∧GA G t.lN
 | .m .stops=>Gz G W x t∧(0≤W.id∧W.id≤16)∧(W.blocked=true→(W.step.getD (jz.CT 0 2)).Gs l.sp G.M W.id)∧(W.blocked=false→W.bK=true→aiD G W∧G.M.can W.id ((G.tk (W.target.getD 0)).jt+2)=true)∧(W.blocked=false→W.bK=false→amU G W t)
 | .aw y=>Gz G W x t∧y<G.ts.length∧G.M.can W.id l.told=true∧GA G t.lN
 | .sh k=>Gz G W x t∧t.cI≠ []
 |_=>False
section
variable {w:World}
theorem atG{p:Option Addr}{c:Value→aq}(h:gN p w λ_ w=>c (.tuple #[]) w):zV [.pointer p] w c:=h
theorem aiF{p:Option Addr}{c:Value→aq}(h:eE p w λ_ w=>c (.tuple #[]) w):uZ [.pointer p] w c:=h
theorem aiG{p:Option Addr}{c:Value→aq}(h:eF p w λ_ w=>c (.tuple #[]) w):u5 [.pointer p] w c:=h
theorem atH{p:Option Addr}{c:Value→aq}(h:gK p w λ_ w=>c (.tuple #[]) w):zP [.pointer p] w c:=h
theorem ak1{p:Option Addr}{c:Value→aq}(h:fa p w λ_ w=>c (.tuple #[]) w):wi [.pointer p] w c:=h
theorem ak2{p:Option Addr}{c:Value→aq}(h:fb p w λ_ w=>c (.tuple #[]) w):wm [.pointer p] w c:=h
theorem axc{p:Option Addr}{c:Value→aq}(h:iD p w λ_ w=>c (.tuple #[]) w):A9 [.pointer p] w c:=h
theorem atI{p:Option Addr}{c:Value→aq}(h:gL p w λ_ w=>c (.tuple #[]) w):zR [.pointer p] w c:=h
theorem ak3{p:Option Addr}{c:Value→aq}(h:fc p w λ_ w=>c (.tuple #[]) w):wu [.pointer p] w c:=h
theorem aoL{p:Option Addr}{c:Value→aq}(h:fL p w λ_ w=>c (.tuple #[]) w):ye [.pointer p] w c:=h
theorem atJ{p:Option Addr}{c:Value→aq}(h:gM p w λ_ w=>c (.tuple #[]) w):zT [.pointer p] w c:=h
theorem atK{p:Option Addr}{c:Value→aq}(h:gO p w λ_ w=>c (.tuple #[]) w):zX [.pointer p] w c:=h
theorem aoM{p:Option Addr}{c:Value→aq}(h:fM p w λ_ w=>c (.tuple #[]) w):yj [.pointer p] w c:=h
theorem ak4{p:Option Addr}{c:Value→aq}(h:fe p w λ_ w=>c (.tuple #[]) w):wz [.pointer p] w c:=h
theorem atL{p:Option Addr}{c:Value→aq}(h:gP p w λ_ w=>c (.tuple #[]) w):z0 [.pointer p] w c:=h
theorem axd{p:Option Addr}{c:Value→aq}(h:gQ p w λ_ w=>c (.tuple #[]) w):z6 [.pointer p] w c:=h
theorem aoN{p:Option Addr}{c:Value→aq}(h:fN p w λ_ w=>c (.tuple #[]) w):ym [.pointer p] w c:=h
theorem aoO{p:Option Addr}{c:Value→aq}(h:fO p w λ_ w=>c (.tuple #[]) w):yo [.pointer p] w c:=h
theorem ak5{p:Option Addr}{c:Value→aq}(h:ff p w λ_ w=>c (.tuple #[]) w):wE [.pointer p] w c:=h
theorem ak6{p:Option Addr}{c:Value→aq}(h:fg p w λ_ w=>c (.tuple #[]) w):wG [.pointer p] w c:=h
theorem atM{p:Option Addr}{c:Value→aq}(h:gR p w λ_ w=>c (.tuple #[]) w):Aa [.pointer p] w c:=h
theorem aoP{p:Option Addr}{c:Value→aq}(h:fP p w λ_ w=>c (.tuple #[]) w):yu [.pointer p] w c:=h
theorem axe{p:Option Addr}{c:Value→aq}(h:iF p w λ_ w=>c (.tuple #[]) w):Bf [.pointer p] w c:=h
theorem axf{p:Option Addr}{c:Value→aq}(h:iG p w λ_ w=>c (.tuple #[]) w):Bh [.pointer p] w c:=h
theorem atN{p:Option Addr}{c:Value→aq}(h:gS p w λ_ w=>c (.tuple #[]) w):Af [.pointer p] w c:=h
theorem atO{p:Option Addr}{c:Value→aq}(h:gT p w λ_ w=>c (.tuple #[]) w):Ah [.pointer p] w c:=h
theorem aoQ{p:Option Addr}{c:Value→aq}(h:fQ p w λ_ w=>c (.tuple #[]) w):yx [.pointer p] w c:=h
theorem ak7{p:Option Addr}{c:Value→aq}(h:fh p w λ_ w=>c (.tuple #[]) w):wK [.pointer p] w c:=h
theorem ak8{p:Option Addr}{c:Value→aq}(h:fj p w λ_ w=>c (.tuple #[]) w):wM [.pointer p] w c:=h
theorem aiH{p:Option Addr}{c:Value→aq}(h:eH p w λ_ w=>c (.tuple #[]) w):vc [.pointer p] w c:=h
theorem aiI{p:Option Addr}{c:Value→aq}(h:eI p w λ_ w=>c (.tuple #[]) w):vf [.pointer p] w c:=h
theorem agt{p:Option Addr}{c:Value→aq}(h:ec p w λ_ w=>c (.tuple #[]) w):um [.pointer p] w c:=h
theorem aoR{p:Option Addr}{c:Value→aq}(h:fS p w λ_ w=>c (.tuple #[]) w):yE [.pointer p] w c:=h
theorem atP{p:Option Addr}{c:Value→aq}(h:gU p w λ_ w=>c (.tuple #[]) w):Aj [.pointer p] w c:=h
theorem aoS{p:Option Addr}{c:Value→aq}(h:fT p w λ_ w=>c (.tuple #[]) w):yG [.pointer p] w c:=h
end
structure atQ (bZ:eb):Prop where
 aAp:∀args w c,bZ (.func fV) args w c=zV args.toList w c
 aoT:∀args w c,bZ (.func kH) args w c=uZ args.toList w c
 aoU:∀args w c,bZ (.func kI) args w c=u5 args.toList w c
 N2:∀args w c,bZ (.func mZ) args w c=zP args.toList w c
 atS:∀args w c,bZ (.func lB) args w c=wi args.toList w c
 atT:∀args w c,bZ (.func lC) args w c=wm args.toList w c
 aCT:∀args w c,bZ (.func mb) args w c=A9 args.toList w c
 aAq:∀args w c,bZ (.func mY) args w c=zR args.toList w c
 atU:∀args w c,bZ (.func lA) args w c=wu args.toList w c
 N3:∀args w c,bZ (.func mz) args w c=ye args.toList w c
 Vt:∀args w c,bZ (.func fW) args w c=zT args.toList w c
 aAr:∀args w c,bZ (.func kZ) args w c=zX args.toList w c
 Kb:∀args w c,bZ (.func mA) args w c=yj args.toList w c
 atV:∀args w c,bZ (.func lE) args w c=wz args.toList w c
 aAs:∀args w c,bZ (.func je) args w c=z0 args.toList w c
 aCU:∀args w c,bZ (.func k7) args w c=z6 args.toList w c
 axg:∀args w c,bZ (.func mB) args w c=ym args.toList w c
 close_:∀args w c,bZ (.func kz) args w c=yo args.toList w c
 atW:∀args w c,bZ (.func lD) args w c=wE args.toList w c
 atX:∀args w c,bZ (.func jW) args w c=wG args.toList w c
 aAt:∀args w c,bZ (.func k8) args w c=Aa args.toList w c
 axh:∀args w c,bZ (.func iK) args w c=yu args.toList w c
 aCV:∀args w c,bZ (.func nI) args w c=Bf args.toList w c
 aCW:∀args w c,bZ (.func nJ) args w c=Bh args.toList w c
 aAu:∀args w c,bZ (.func m0) args w c=Af args.toList w c
 aAv:∀args w c,bZ (.func m3) args w c=Ah args.toList w c
 axi:∀args w c,bZ (.func mD) args w c=yx args.toList w c
 atY:∀args w c,bZ (.func lG) args w c=wK args.toList w c
 atZ:∀args w c,bZ (.func lF) args w c=wM args.toList w c
 aoV:∀args w c,bZ (.func kJ) args w c=vc args.toList w c
 aoW:∀args w c,bZ (.func kK) args w c=vf args.toList w c
 ak9:∀args w c,bZ (.func j7) args w c=um args.toList w c
 axj:∀args w c,bZ (.func mG) args w c=yE args.toList w c
 aAw:∀args w c,bZ (.func m4) args w c=Aj args.toList w c
 axk:∀args w c,bZ (.func mE) args w c=yG args.toList w c
 aw:∀args w c,bZ (.func eJ) args w c=oC args.toList w c
 sh:∀args w c,bZ (.func fE) args w c=pH args.toList w c
section
variable {w0 w:World} {R:List HP} {l:Lc} {P:List ea} {aa:List Nat} {G:Gl} {gw:Nat} {W:Wk} {sp st sw:Sl} {q:Wq} {os:List (Nat×Wk)} {bx:List Int} {bZ:eb}
theorem aCX{c:Value→aq}(hF:j2 w0 l.ps P)(hT:TZ w0)(hl:aeA l)(hq:q.Ok aa gw W)(hO:wY w0 w l aa gw G W (lP (qt l aa) os::R) sp st sw q)(he:G.err=0)(hM:G.M.OK)(hkn:atQ bZ)(hok:aiE l P os bx G W)
  (hk:∀I8 w',qB w0 w' l I8 gw (YH l P G W bx).1 (YH l P G W bx).2 (lP (qt l I8) os::R)→c (.tuple #[]) w'):mT bZ q.pe #[] w c:=by
 have kw:Fin w0 l aa gw (lP (qt l aa) os::R) (λ_ w=>c (.tuple #[]) w) (YH l P G W bx):=λw' h=>hk aa w' h;have hv:=hq.cR;have h:=bn hq hO;unfold aiE at hok;unfold YH at hk kw;generalize hx:W.stack.headD 0=x at hok hk kw;generalize N5:G.tk x=t at hok hk kw;cases bP:W.cR with
 |m f=>
  rw[bP]at hok hk kw hv;dsimp only at hok hk kw;obtain hv:q.pe=mt gw f:=hv;rw[hv];cases f with
  |rest=>
   dsimp only at hok hk kw;refine bX (d:=zV) hkn.aAp (atG ?_);exact awU h hok kw
  |o7=>
   dsimp only at hok hk kw;subst hx;subst N5;refine bX (d:=uZ) hkn.aoT (aiF ?_);obtain⟨O,hop,hf,hno,ha⟩:=hok;rw[hop]at kw;exact akZ h he hM hop hf hno ha kw
  |looking=>
   dsimp only at hok hk kw;refine bX (d:=u5) hkn.aoU (aiG ?_);obtain⟨lk,ht,hlk,hd,hsc,hc,hn⟩:=hok;rw[hlk]at kw;exact akW hF h he ht.s ht.t hlk hd hsc hc hn kw
  |tell=>
   dsimp only at hok hk kw;refine bX (d:=zP) hkn.N2 (atH ?_);exact atd h hok kw
  |others=>
   dsimp only at hok hk kw;refine bX (d:=wi) hkn.atS (ak1 ?_);exact aoF h hM hl.sp hok.1 hok.2.1 hl.w1 hl.w16 hok.2.2.1.1 hok.2.2.1.2 (by have h4:=hok.2.2.2;rw[←bP]at h4;exact h4) kw
  |wU=>
   dsimp only at hok hk kw;refine bX (d:=wm) hkn.atT (ak2 ?_);obtain⟨o,ho,hf⟩:=hok;rw[ho]at kw;exact aor h hT hl.sp hM ho hf kw
  |RN=>
   dsimp only at hok hk kw;refine bX (d:=A9) hkn.aCT (axc ?_);exact aAf h hok.1 hok.2.1 hok.2.2 kw
  |I0=>
   dsimp only at hok hk kw;refine bX (d:=zR) hkn.aAq (atI ?_);exact awV h hok.1 hok.2 kw
  |sU=>
   dsimp only at hok hk kw;refine bX (d:=wu) hkn.atU (ak3 ?_);exact aos h ah (G.Ao ah) hM hok.2 kw
  |start=>
   dsimp only at hok hk kw;refine bX (d:=ye) hkn.N3 (aoL ?_);exact atm h he ah (G.Ao ah) hok.2.1 hok.2.2.1 hok.2.2.2.1 hok.2.2.2.2.1 hok.2.2.2.2.2 kw
  |next=>
   dsimp only at hok hk kw;refine bX (d:=zT) hkn.Vt (atJ ?_);obtain⟨ht,hI,hsc⟩:=hok;exact awY hF hI.1 h he ht.s ht.t hsc hI.2.1 hI.2.2 kw
  |fork=>
   dsimp only at hok hk kw;refine bX (d:=zX) hkn.aAr (atK ?_);obtain⟨ht,ho,py,hC,hP,hsc⟩:=hok;exact aw1 h he ht.s ht.t ho hM py hC hP hsc kw
  |wV=>
   dsimp only at hok hk kw;refine bX (d:=yj) hkn.Kb (aoM ?_);obtain⟨ht,ho,hI,h8,⟨g,hg⟩,py,Zu,hTl,hn,hown⟩:=hok;have hna:aa.length≤1000000:=by
    obtain⟨sp,st,sw,q,hq,h⟩:=dN h;rw[xl h];exact hn
   exact atF hF hI.1 h he ht.s ht.t ho h8 hg hM py Zu hTl hna hown hk
  |sV=>
   dsimp only at hok hk kw;refine bX (d:=wz) hkn.atV (ak4 ?_);obtain⟨ht,ho,hsc,hc⟩:=hok;exact aoz h ht.s ht.t ho hM hsc hc kw
  |join=>
   dsimp only at hok hk kw;refine bX (d:=z0) hkn.aAs (atL ?_);obtain⟨ht,hI,hh,hy,hc,hsc⟩:=hok;exact aw6 hF hI.1 h ht.s ht.t hh (y:=((G.tk x).f.getD (10+(Gy (bz P (G.tk x).f)).toNat) 0).toNat) ah (G.Ao ah) hc hsc kw
  |cI=>
   dsimp only at hok hk kw;refine bX (d:=z6) hkn.aCU (axd ?_);exact awW h hok.1 hok.2 kw
  |opens=>
   dsimp only at hok hk kw;refine bX (d:=ym) hkn.axg (aoN ?_);obtain⟨ht,ho,hI,py,hC,hP,hsc,BY,h1,h2,htm,Ui⟩:=hok;obtain⟨p,hp,hp2⟩:=G.aAo BY.2 BY.1;rw[hp2]at kw;exact atB hF hI.1 h he ht.s ht.t ho hM py hC hP hsc ⟨BY.1,hp⟩ h1 h2 htm Ui kw
  |close=>
   dsimp only at hok hk kw;refine bX (d:=yo) hkn.close_ (aoO ?_);obtain⟨ht,ho⟩:=hok;exact ate h ht.s ht.t ho kw
  |gC=>
   dsimp only at hok hk kw;refine bX (d:=wE) hkn.atW (ak5 ?_);obtain⟨ht,ho,hI,hd,hsc,hc,hz⟩:=hok;exact aoy hF hI.1 h he ht.s ht.t ho hd hsc hc hz kw
  |cancel=>
   dsimp only at hok hk kw;refine bX (d:=wG) hkn.atX (ak6 ?_);obtain⟨ht,ho,hf,hsc,hc⟩:=hok;exact aow h he ht.s ht.t hf ho hsc hc kw
  |pass=>
   dsimp only at hok hk kw;refine bX (d:=Aa) hkn.aAt (atM ?_);exact awZ h he hok.1.s hok.1.t hok.2 kw
  |leave=>
   dsimp only at hok hk kw;refine bX (d:=yu) hkn.axh (aoP ?_);exact atj hF hok.2.1.1 h he hok.1.s hok.1.t hok.2.2 kw
  |put=>
   dsimp only at hok hk kw;refine bX (d:=Bf) hkn.aCV (axe ?_);exact aAg h hok.1.s hok.1.t hM hok.2 kw
  |fin=>
   dsimp only at hok hk kw;refine bX (d:=Bh) hkn.aCW (axf ?_);exact aAh h hok.1.s hok.1.t hM hok.2.1 hok.2.2 kw
  |asks=>
   dsimp only at hok hk kw;refine bX (d:=Af) hkn.aAu (atN ?_);exact awX h hok.1.s hok.1.t hM hok.2 kw
  |gone=>
   dsimp only at hok hk kw;refine bX (d:=Ah) hkn.aAv (atO ?_);obtain⟨ht,⟨kb,bs,AP,jP⟩,hsc,hc⟩:=hok;exact aw0 h ht.s AP jP ht.t hM hsc hc kw
  |asked=>
   dsimp only at hok hk kw;refine bX (d:=yx) hkn.axi (aoQ ?_);obtain⟨ht,ho,⟨hy,GJ⟩,hc⟩:=hok;exact atp h ht.s ht.t hM hy (G.Ao GJ) hc ho kw
  |joined=>
   dsimp only at hok hk kw;refine bX (d:=wK) hkn.atY (ak7 ?_);obtain⟨ht,hI,⟨hy,GJ⟩,hc⟩:=hok;exact aoC hF hI.1 h he ht.s ht.t hM hy (G.Ao GJ) hc kw
  |tP=>
   dsimp only at hok hk kw;refine bX (d:=wM) hkn.atZ (ak8 ?_);exact aoB h hok.1.s hok.1.t hok.2.1 hok.2.2.1 hok.2.2.2 kw
  |qU=>
   dsimp only at hok hk kw;refine bX (d:=vc) hkn.aoV (aiH ?_);exact akM h hok kw
  |rR=>
   dsimp only at hok hk kw;refine bX (d:=vf) hkn.aoW (aiI ?_);obtain⟨ht,ho,hsc,hc⟩:=hok;exact akR h ht.s ht.t ho hM hsc hc kw
  |register=>
   dsimp only at hok hk kw;refine bX (d:=um) hkn.ak9 (agt ?_);obtain⟨⟨hy,GJ⟩,hw,hc⟩:=hok;exact ait h hy (G.Ao GJ) hM hw hc kw
  |block=>
   dsimp only at hok hk kw;refine bX (d:=yE) hkn.axj (aoR ?_);obtain⟨o,ho,hf⟩:=hok;rw[ho]at kw;exact atr h hT hl.sp hM ho hf kw
  |HI=>
   dsimp only at hok hk kw;refine bX (d:=Aj) hkn.aAw (atP ?_);obtain⟨ht,ha,hc,hsc⟩:=hok;exact aw3 h ht.s ht.t ha hc hsc kw
  |stops=>
   dsimp only at hok hk kw;refine bX (d:=yG) hkn.axk (aoS ?_);obtain⟨ht,hw,h1,h2,h3⟩:=hok;exact atw h hT ht.s ht.t hl.sp hM hw h1 (λa b=>⟨_,_,(h2 a b).1.1,G.Ao (h2 a b).1.2,(h2 a b).2⟩) h3 kw
  |_=>exact hok.elim
 |aw y=>
  rw[bP]at hok hk kw hv;dsimp only at hok hk kw;obtain⟨ht,hy,hc,hsc⟩:=hok;obtain⟨b,c',a',hb,hay,Ek,hv⟩:=hv;rw[hv];refine bX (d:=oC) hkn.aw (att ?_);exact ayF hq hO hb Ek ht.s ht.t hay hc hsc kw
 |sh kk=>
  rw[bP]at hok hk kw hv;dsimp only at hok hk kw;obtain⟨ht,ho⟩:=hok;obtain⟨b,c',u,hb,hu,Ek,hv⟩:=hv;rw[hv];refine bX (d:=pH) hkn.sh (atu ?_);exact ayG hq hO hb Ek hu ht.s ht.t ho kw
 |_=>rw[bP]at hok;exact hok.elim
end
end Go.Proofs.YthidhjhkmjjckaaGreatDoor
namespace Go.Proofs.YthidhjhkmjjckaaGreatDoor
open Go Go.Ev Go.Proofs
open Ko (oE CK)
abbrev Ap(w0 w:World)(l:Lc)(aa:List Nat)(G:Gl)(Ws:List Wk)(R:List HP):Prop:=St w0 w (Uk l aa G::lP (qt l aa) (l.wa.zip Ws)::R)
def YI(l:Lc)(P:List ea)(G:Gl)(Ws:List Wk)(n:Int):(Gl×List Wk)×Bool:=
 if 0≤n∧n<Ws.length then
  match Ws[n.toNat]? with
  |some W=>if yW (l.sp.bits G.M) W.id=true∧W.wait.parked G.M l.told=false then(((YH l P G W (Ws.map (·.dq))).1,Ws.set n.toNat (YH l P G W (Ws.map (·.dq))).2),true)else((G,Ws),false)
  |none=>((G,Ws),false)
 else((G,Ws),false)
section
variable {w0 w:World} {R:List HP} {l:Lc} {P:List ea} {aa:List Nat} {G:Gl} {Ws:List Wk} {n:Int} {gw:Nat} {W:Wk}
theorem aoX{i:Nat}(h:Ap w0 w l aa G Ws R)(ha:l.wa[i]?=some gw)(hW:Ws[i]?=some W):qB w0 w l aa gw G W (lP (qt l aa) ((l.wa.zip Ws).eraseIdx i)::R):=by
 have h2:St w0 w (qt l aa (gw,W)::lP (qt l aa) ((l.wa.zip Ws).eraseIdx i)::Uk l aa G::R):=Iz h.swap (by rw[List.getElem?_zip_eq_some];exact⟨ha,hW⟩)
 have h3:=h2.front 2 rfl;simpa only[Iy]using h3
theorem aeB{i:Nat}{I8:List Nat}{G':Gl}{W':Wk}(hl:l.wa.length=Ws.length)(ha:l.wa[i]?=some gw)(h:qB w0 w l I8 gw G' W' (lP (qt l I8) ((l.wa.zip Ws).eraseIdx i)::R)):Ap w0 w l I8 G' (Ws.set i W') R:=by
 have hi:=(kO.1 ha).1;have h2:St w0 w (qt l I8 (gw,W')::lP (qt l I8) ((l.wa.zip Ws).eraseIdx i)::Uk l I8 G'::R):=St.back 2 h;have h3:=aac h2 (by simp;omega)
 have e:(l.wa.zip Ws).set i (gw,W')=l.wa.zip (Ws.set i W'):=by
  apply List.ext_getElem?;intro j;by_cases hj:i=j
  ·subst hj;rw[uw (by simp;omega)]
   symm;rw[List.getElem?_zip_eq_some];exact⟨ha,by rw[uw ah]⟩
  ·rw[rG hj,List.zip,List.getElem?_zipWith,List.getElem?_zipWith,rG hj]
 rw[e]at h3;exact h3.swap
theorem aiJ:atQ (j4 [(sC,(abx dA)),(qJ,(ahr cP)),(kH,(cg eE)),(kI,(cg eF)),(mZ,(cg gK)),(lB,(cg fa)),(mb,(cg iD)),(mY,(cg gL)),(lC,(cg fb)),(lA,(cg fc)),(mz,(cg fL)),(fW,(cg gM)),(fV,(cg gN)),(kZ,(cg gO)),(mA,(cg fM)),(lE,(cg fe)),(je,(cg gP)),(k7,(cg gQ)),(mB,(cg fN)),(kz,(cg fO)),(lD,(cg ff)),(jW,(cg fg)),(k8,(cg gR)),(iK,(cg fP)),(nI,(cg iF)),(nJ,(cg iG)),(m0,(cg gS)),(m3,(cg gT)),(mD,(cg fQ)),(lG,(cg fh)),(lF,(cg fj)),(kJ,(cg eH)),(kK,(cg eI)),(j7,(cg ec)),(mG,(cg fS)),(m4,(cg gU)),(mE,(cg fT)),(eJ,(JN cy)),(fE,(JN cL))]):=by
 constructor<;>intro _ _ _<;>rfl
theorem at1{k:Bool→aq}(hlen:l.wa.length=Ws.length)(hn:¬(0≤n∧n<Ws.length))(h:Ap w0 w l aa G Ws R)(hk:∀w',Ap w0 w' l aa G Ws R→k false w'):jy (some ⟨l.gs,0,none⟩) n w k:=by
 unfold jy uD;obtain⟨sp,st,sw,h⟩:=AA h;have hn5:=uN (s:=sw) (vs:=l.wa.map pt) h;rw[List.length_map]at hn5;refine bU (λb w=>b=true∧St w0 w (SL l aa G (lP (qt l aa) (l.wa.zip Ws)::R) sp st sw)) (λJ hJ=> ?_) ?_
 ·refine aF (λhb=> ?_) λhb=> ?_
  ·exact hJ _ _ ⟨rfl,h⟩
  with_reducible repeat' (first|refine an ?_|refine mJ h ?_|fail)
  refine hJ _ _ ⟨?_,h⟩;have hb:¬n<0:=by simpa using hb
  simp;omega
 clear h;rintro _ w ⟨rfl,h⟩;refine bH rfl ?_;exact hk _ (vn h)
theorem at3{i:Nat}(hW:Ws[i]?=some W):Ws.set i W=Ws:=by
 apply List.ext_getElem?;intro j;by_cases hj:i=j
 ·subst hj;rw[uw (kO.1 hW).1,hW]
 ·rw[rG hj]
abbrev agu(w0 w:World)(l:Lc)(aa:List Nat)(G:Gl)(Ws:List Wk)(R:List HP)(n:Int)(gw:Nat)(W:Wk)(sp st sw:Sl)(q:Wq):Prop:=wY w0 w l aa gw G W (lP (qt l aa) ((l.wa.zip Ws).eraseIdx n.toNat)::R) sp st sw q
theorem aoY{q:Wq}{sp st sw:Sl}{k:Bool→aq}(hl:aeA l)(hM:G.M.OK)(hg:G.M.given (l.sp.at_+1)=true)(ht:G.M.given l.told=true)(h:agu w0 w l aa G Ws R n gw W sp st sw q)
  (hk:∀w',agu w0 w' l aa G Ws R n gw W sp st sw q→k (!(yW (l.sp.bits G.M) W.id)||W.wait.parked G.M l.told) w'):
  drew w λw11=>nn (some ⟨l.gs,0,none⟩) λa12=>bG 3 w11 (aX a12 14) λcs13=>nn (some ⟨l.gs,0,none⟩) λa14=>aR w11 (aX a14 7) λp15=>nn (some (⟨gw,0,none⟩:Addr)) λa16=>aN .i64 w11 (aX a16 1) λi17=>
   dA cs13 p15 i17 w11 λb18 w19=>ap (!b18) (k true w19) (nn (some (⟨gw,0,none⟩:Addr)) λa20=>aR w19 (aX a20 4) λp21=>nn (some ⟨l.gs,0,none⟩) λa22=>aR w19 (aX a22 7) λp23=>cP p21 p23 w19 λb24 w25=>(k b24 w25)):=by
 with_reducible repeat' (first|refine an ?_|refine aK h λw h=> ?_|refine dL h ?_|refine dX h ?_|refine pi h ?_|fail)
 refine awh (s:=l.sp) (M:=G.M) h hl.sp hM hg λw h=> ?_;cases FQ:yW (l.sp.bits G.M) W.id with
 |false=>
  rw[FQ]at hk;exact bH rfl (hk _ h)
 |true=>
  rw[FQ]at hk;refine bp rfl ?_;with_reducible repeat' (first|refine an ?_|refine dL h ?_|fail)
  exact aj5 (x:=W.wait) (M:=G.M) h ht λw h=>hk w h
theorem axl{k:Bool→aq}(hF:j2 w0 l.ps P)(hT:TZ w0)(hl:aeA l)(hlen:l.wa.length=Ws.length)(hM:G.M.OK)(he:G.err=0)(hg:G.M.given (l.sp.at_+1)=true)(ht:G.M.given l.told=true)
  (hok:∀i W,Ws[i]?=some W→yW (l.sp.bits G.M) W.id=true→W.wait.parked G.M l.told=false→aiE l P ((l.wa.zip Ws).eraseIdx i) (Ws.map (·.dq)) G W) (h:Ap w0 w l aa G Ws R)
  (hk:∀I8 w',Ap w0 w' l I8 (YI l P G Ws n).1.1 (YI l P G Ws n).1.2 R→k (YI l P G Ws n).2 w'):jy (some ⟨l.gs,0,none⟩) n w k:=by
 unfold YI at hk;by_cases hn:0≤n∧n<Ws.length;rotate_left
 ·rw[if_neg hn]at hk;exact at1 hlen hn h λw' h'=>hk aa w' h'
 rw[if_pos hn]at hk;have hi:n.toNat<Ws.length:=ah;have hW:Ws[n.toNat]?=some (Ws[n.toNat]'hi):=kq hi;have ha:l.wa[n.toNat]?=some (l.wa[n.toNat]' ah):=kq ah;generalize Ws[n.toNat]'hi=W at hW;generalize l.wa[n.toNat]' ah=gw at ha;rw[hW]at hk;dsimp only at hk;have hok:=hok _ _ hW;have hB:=aoX h ha hW;clear h;obtain⟨sp,st,sw,q,hq,h⟩:=dN hB;clear hB;have hn5:=uN (s:=sw) (vs:=l.wa.map pt) h;rw[List.length_map]at hn5;unfold jy uD;refine bU (λb w=>b=false∧agu w0 w l aa G Ws R n gw W sp st sw q) (λJ hJ=> ?_) ?_
 ·refine bp (by simp;omega) ?_
  with_reducible repeat' (first|refine an ?_|refine mJ h ?_|fail)
  exact hJ _ _ ⟨by simp;omega,h⟩
 clear h;rintro _ w ⟨rfl,h⟩;refine bp rfl ?_;with_reducible repeat' (first|refine an ?_|refine mJ h ?_|fail)
 refine vP (s:=sw) (vs:=l.wa.map pt) h hn.1 (x:=some ⟨gw,0,none⟩) (by rw[pB,ha];rfl) ?_
 refine bU (λb w=>b=(!(yW (l.sp.bits G.M) W.id)||W.wait.parked G.M l.told)∧agu w0 w l aa G Ws R n gw W sp st sw q) (λJ hJ=> ?_) ?_
 ·exact aoY hl hM hg ht h λw' h'=>hJ _ _ ⟨rfl,h'⟩
 clear h;rintro _ w ⟨rfl,h⟩;by_cases FQ:yW (l.sp.bits G.M) W.id=true∧W.wait.parked G.M l.told=false
 ·rw[if_pos FQ]at hk;refine bp (by rw[FQ.1,FQ.2];rfl) ?_
  have hv:=hq.cR.one;with_reducible repeat' (first|refine an ?_|refine td h ?_|fail)
  refine aCX (P:=P) (bx:=Ws.map (·.dq)) hF hT hl hq h he hM aiJ (hok FQ.1 FQ.2) λI8 w' h'=> ?_;generalize YH l P G W (Ws.map (·.dq))=r at hk h';have h2:=aeB hlen ha h';exact akp (hk I8 w' h2)
 ·rw[if_neg FQ]at hk;refine bH ?_ ?_
  ·cases h1:yW (l.sp.bits G.M) W.id<;>cases h2:W.wait.parked G.M l.told<;>first|rfl|exact absurd ⟨h1,h2⟩ FQ
  have h3:=aeB hlen ha (bn hq h);rw[at3 hW]at h3;exact hk aa _ h3
end
def Gl.EX(G:Gl)(wk s:Int):Gl:=G.mem (G.M.cs wk (G.nd s).at_ 0 1).1
def sg(wk:Int)(G:Gl):List Int→Gl
 |[]=>G
 |s::ids=>sg wk (G.EX wk s) ids
def Ul(l:Lc)(G:Gl)(ids:List Int):Gl:=if ids.length=0 then G else(sg l.wa.length G ids).mem ((sg l.wa.length G ids).M.ad l.wa.length l.told 1)
def YJ(l:Lc)(G:Gl)(n:Int):Gl×Bool:=if Ko.RM G.time.1 n=true then(Ul l {G with time:=(G.time.1+n,Ko.NU G.time.2 (G.time.1+n))} (Ko.ids (Ko.ab8 G.time.2 (G.time.1+n))),true)else(G,false)
def iH(G:Gl)(o:List (Int×Int)):List Int:=0::o.flatMap λp=>(G.tk p.1.toNat).scopes
def YK(G:Gl)(s:Int):Bool:=match G.P[s.toNat]? with|some p=>p.2.2.2|none=>false
def YL(l:Lc)(G:Gl)(o:List (Int×Int))(n:Int):Gl×Bool:=
 if 0≤n∧n<(iH G o).length then(if YK G ((iH G o).getD n.toNat 0)then(G,false)else(Ul l G [(iH G o).getD n.toNat 0],true))else(G,false)
def RV(l:Lc)(P:List ea)(G:Gl)(Ws:List Wk)(o:List (Int×Int))(kind n:Int):(Gl×List Wk)×Bool:=
 if G.err≠0 then((G,Ws),false)
 else if kind=0 then YI l P G Ws n
 else if kind=1 then(((YJ l G n).1,Ws),(YJ l G n).2)
 else if kind=2 then(if G.D.length<1024 then(({G with D:=G.D++[n]},Ws),true)else((G,Ws),false))
 else if kind=3 then(((YL l G o n).1,Ws),(YL l G o n).2)
 else((G,Ws),false)
section
variable {w0 w:World} {L R:List HP} {l:Lc} {P:List ea} {aa:List Nat} {G:Gl} {Ws:List Wk} {n:Int} {gw:Nat} {W:Wk} {sp st sw:Sl}
theorem aeC(wk:Int):∀(G:Gl) (a b:List Int),sg wk G (a++b)=sg wk (sg wk G a) b
 |G,[],b=>rfl
 |G,s::a,b=>aeC wk (G.EX wk s) a b
theorem aoZ{M:bO}{wk a o x:Int}:(M.cs wk a o x).1.steps.length=M.steps.length∧(M.cs wk a o x).1.cells.length=M.cells.length∧(M.cs wk a o x).1.size=M.size:=by
 unfold bO.cs;split
 ·exact⟨by unfold bO.put bO.tick;simp,by unfold bO.put bO.tick;simp,rfl⟩
 ·exact⟨by unfold bO.tick;simp,rfl,rfl⟩
theorem Vw(wk:Int):∀(ids:List Int) (G:Gl),(sg wk G ids).M.steps.length=G.M.steps.length∧(sg wk G ids).M.cells.length=G.M.cells.length∧(sg wk G ids).M.size=G.M.size∧sg wk G ids=G.mem (sg wk G ids).M
 |[],G=>⟨rfl,rfl,rfl,rfl⟩
 |s::ids,G=>by
  obtain⟨h1,h2,h3,h4⟩:=Vw wk ids (G.EX wk s);obtain⟨a,b,c⟩:=aoZ (M:=G.M) (wk:=wk) (a:=(G.nd s).at_) (o:=0) (x:=1);exact⟨h1.trans a,h2.trans b,h3.trans c,by show sg wk (G.EX wk s) ids=_;rw[h4];rfl⟩
theorem If{M M':bO}{wk a:Int}(h1:M'.steps.length=M.steps.length)(h2:M'.cells.length=M.cells.length):M'.can wk a=M.can wk a:=by unfold bO.can bO.caller bO.given;rw[h1,h2]
theorem amX{ids:List Int}{s:Sl}{k:Unit→aq}(h:St w0 w (bQ 1 s (ints ids)::SL l aa G R sp st sw))(hs:∀x∈ids,nR G.C x=some (G.nd x)∧G.M.can l.wa.length (G.nd x).at_=true)(ht:G.M.can l.wa.length l.told=true)
  (hk:∀w',St w0 w' (SL l aa (Ul l G ids) R sp st sw)→k () w'):fm (some ⟨l.gs,0,none⟩) s w k:=by
 unfold fm Cm;have xj:=uN (s:=s) (vs:=ints ids) h;have VP:=(h.own (sz:=1) (s:=s) (vs:=ints ids)).max;have hcp:=(h.own (sz:=1) (s:=s) (vs:=ints ids)).cap;have vq:(ints ids).length=ids.length:=by simp[ints]
 rw[vq]at xj;have hwn:sw.n=l.wa.length:=by have:=uN (s:=sw) (vs:=l.wa.map pt) h;rwa[List.length_map]at this
 with_reducible repeat' (first|refine an ?_|refine mJ h ?_|fail)
 refine bU (λ_ w=>St w0 w (bQ 1 s (ints ids)::SL l aa (sg l.wa.length G ids) R sp st sw)) (λJ hJ=> ?_) ?_
 ·refine Qn (G:=Nat) (λj i w=>i=(j:Int)∧j≤ids.length∧St w0 w (bQ 1 s (ints ids)::SL l aa (sg l.wa.length G (ids.take j)) R sp st sw)) (λj=>ids.length - j) (g:=0) ⟨rfl,ah,h⟩ ?_;clear h;rintro j i w ⟨rfl,hj,h⟩ C hC;by_cases hlt:j<ids.length
  ·refine bH (by simp;omega) ?_
   obtain⟨b1,b2,b3,b4⟩:=Vw (l.wa.length:Nat) (ids.take j) G;have hx:=hs (ids[j]'hlt) (List.getElem_mem _);refine vI (s:=s) (vs:=ints ids) h ah (x:=ids[j]'hlt) (by simp[ints,hlt]) ?_
   with_reducible repeat' (first|refine an ?_|refine aK h λw h=> ?_|refine dL h ?_|fail)
   have hC':nR (sg (l.wa.length:Nat) G (ids.take j)).C (ids[j]'hlt)=some (G.nd (ids[j]'hlt)):=by rw[b4];exact hx.1
   rw[show((sw.n:Nat):Int)=((l.wa.length:Nat):Int) by rw[hwn]]
   refine arD (C:=(sg (l.wa.length:Nat) G (ids.take j)).C) (M:=(sg (l.wa.length:Nat) G (ids.take j)).M) h hC' (by rw[If b1 b2];exact hx.2) λw h=> ?_
   with_reducible repeat' (first|refine lJ ?_|fail)
   refine hC (j+1) _ _ ⟨?_,ah,?_⟩ ah
   ·rw[lO ⟨ah,ah⟩];omega
   ·have e:ids.take (j+1)=ids.take j++[ids[j]'hlt]:=by rw[List.take_add_one,kq hlt];rfl
    rw[e,aeC];have e2:sg (l.wa.length:Nat) (sg (l.wa.length:Nat) G (ids.take j)) [ids[j]'hlt]=(sg (l.wa.length:Nat) G (ids.take j)).mem ((sg (l.wa.length:Nat) G (ids.take j)).M.cs (l.wa.length:Nat) (G.nd (ids[j]'hlt)).at_ 0 1).1:=by
     show Gl.EX _ _ _=_;unfold Gl.EX;have:(sg (l.wa.length:Nat) G (ids.take j)).nd (ids[j]'hlt)=G.nd (ids[j]'hlt):=by unfold Gl.nd;rw[b4];rfl
     rw[this]
    rw[e2];exact h
  ·refine bp (by simp;omega) ?_
   have e:ids.take j=ids:=List.take_of_length_le ah;rw[e]at h;exact hJ _ _ h
 clear h;rintro _ w h;unfold Ul at hk;by_cases h0:ids.length=0
 ·rw[if_pos h0]at hk;refine bp (by simp;omega) ?_
  have e:ids=[]:=List.eq_nil_of_length_eq_zero h0;subst e;exact hk w h.drop
 ·rw[if_neg h0]at hk;refine bH (by simp;omega) ?_
  obtain⟨b1,b2,b3,b4⟩:=Vw (l.wa.length:Nat) ids G;with_reducible repeat' (first|refine an ?_|refine aK h λw h=> ?_|refine dL h ?_|refine pi h ?_|fail)
  rw[show((sw.n:Nat):Int)=((l.wa.length:Nat):Int) by rw[hwn]]
  refine ami (M:=(sg (l.wa.length:Nat) G ids).M) h (by rw[If b1 b2];exact ht) λw h=> ?_
  with_reducible repeat' (first|refine lJ ?_|fail)
  have h:=h.drop;rw[show SL l aa ((sg (l.wa.length:Nat) G ids).mem ((sg (l.wa.length:Nat) G ids).M.ad (l.wa.length:Nat) l.told 1)) R sp st sw=SL l aa ((sg (l.wa.length:Nat) G ids).mem ((sg (l.wa.length:Nat) G ids).M.ad (l.wa.length:Nat) l.told 1)) R sp st sw from rfl]at hk;exact hk w h
end
structure Lm where
 base:Int
 spare:Int
 cells:Int
 fuel:Int
 deep:Int
 log:Int
structure Ad where
 gs:Nat
 gm:Nat
 gk:Nat
 gc:Nat
 gt:Nat
 gd:Nat
 ga:Nat
def Lm.n(m:Lm):Nat:=(m.base+m.spare).toNat
abbrev nT(a:Ad)(ps:Sl)(m:Lm)(wa:List Nat):Lc:=⟨a.gs,a.gm,a.gk,a.gc,a.gt,a.gd,ps,m.base,m.spare,m.cells,m.fuel,m.deep,m.log,0,1,⟨4,m.base,m.spare⟩,wa⟩
def cs0(a:Ad)(ps:Sl)(m:Lm):List Value:=[.slice ps.a ps.n ps.c,.int .i64 m.base,.int .i64 m.spare,.int .i64 m.cells,.int .i64 m.fuel,.int .i64 m.deep,.int .i64 m.log,pt a.gm,pt a.gk,.pointer none,.slice (some ⟨a.ga,0,none⟩) 1 1,.slice none 0 0,.int .i64 0,.int .i64 0,.int .i64 0,.int .i64 0,.int .i64 0,pt a.gt,pt a.gd,.slice none 0 0,.int .i64 0,.int .i64 0]
def ml1(m:Lm):bO:=((bO.new m.cells m.n).tick m.n).grow 1
def ml2(m:Lm):bO:=((ml1 m).tick m.n).grow 1
def ml3(m:Lm):bO:=((ml2 m).tick m.n).grow 2
def ml4(m:Lm):bO:=((ml3 m).tick m.n).grow 2
structure Lm.OK (m:Lm):Prop where
 base:1≤m.base∧m.base≤16
 spare:0≤m.spare∧m.spare≤16 - m.base
 cells:1≤m.cells∧m.cells≤1048576
 fuel:0≤m.fuel∧m.fuel≤1048576
 deep:1≤m.deep∧m.deep≤1000
 log:0≤m.log∧m.log≤8
section
variable {w0 w:World} {L R:List HP} {a:Ad} {ps:Sl} {m:Lm} {M:bO} {gm:Nat} {wk:Int} {f:HP→List HP}
theorem amY{w1 w':World}{L':List HP}{f':HP→List HP}{g o j n:Nat}{cs cs':List Value}{z:Nat}{c:Prop}(h:St w0 w L)(h':St w1 w' L')[a:At L (ax g) cs f][a':At L' (ax g) cs' f'](e:(cs.drop (o+j+n)).take z=(cs'.drop (o+j+n)).take z)(hc:c):ai z (aX (aX ⟨g,o,none⟩ j) n) w w' c:=by rw[c8];exact asq h h' e hc
theorem at4{k:Option Addr×Int→aq}(h:St w0 w L)[a2:At L (bN gm) M f](hw:M.caller wk=true)(hM:M.OK)
  (hk:M.room 2=true→∀g w',St w0 w' (scp g [⟨-1,0,(M.cells.length:Nat)⟩]::f (bN gm ((M.tick wk).grow 2)))→k (some ⟨g,0,none⟩,0) w') (GF:M.room 2=false→∀w',St w0 w' L→k (none,21) w'):ua (some ⟨gm,0,none⟩) wk w k:=by
 unfold ua MM;refine bp rfl ?_;refine Gp (M:=M) h hM (λ_ _ hr w h=> ?_) (λ_ _ hr=> ?_) λhn=>(hn ⟨hw,ah⟩).elim
 ·refine bp rfl ?_;refine NQ rfl rfl ?_;refine av h λga w h=>av h λgg w h=> ?_;have h:=h.asS (g:=ga) (n:=1) (sz:=3) (cs:=Nd.cells ⟨-1,0,(M.cells.length:Nat)⟩) rfl ah (by simp[Nd.cells,Value.oneCell'])
  refine hk hr gg w (aea (s:=⟨some ⟨ga,0,none⟩,1,1⟩) ?_);obtain⟨h1,F,⟨F1,F2,hx,hy,hz,e⟩,h3⟩:=h;obtain⟨F3,F4,h4,h5,h6,h7⟩:=hy;refine⟨h1,F,⟨F1,F2,hx,⟨F3,F4,⟨?_,?_⟩,h5,h6,h7⟩,hz,e⟩,h3⟩
  ·intro e' he;simp at he;rw[he];rfl
  ·simpa using h4
 ·refine bH rfl ?_;exact GF hr w h
theorem aiK(hm:m.OK):(bO.new m.cells m.n).OK∧(bO.new m.cells m.n).caller m.n=true:=by
 obtain⟨h1,h2,h3,_⟩:=hm;refine⟨⟨h3,by show((0:Nat):Int)≤m.cells;omega⟩,?_⟩
 unfold bO.caller bO.new;simp;omega
theorem agv{M:bO}{n:Int}(h:M.OK)(h0:0≤n)(hr:M.room n=true):((M.tick wk).grow n).OK:=by
 unfold bO.room at hr;simp only[decide_eq_true_eq]at hr;have:=xw (M:=M.tick wk) h0;have ht:(M.tick wk).cells.length=M.cells.length:=rfl;refine⟨h.size,?_⟩;show((((M.tick wk).grow n).cells.length:Nat):Int)≤M.size;rw[this,ht];omega
theorem GB{M:bO}{wk' n:Int}(h:M.caller wk=true):((M.tick wk').grow n).caller wk=true:=by
 unfold bO.caller bO.grow bO.tick at*
 simpa using h
theorem aiL{k:Int→aq}(hm:m.OK)(h:St w0 w (ax a.gs (cs0 a ps m)::bN a.gm (bO.new m.cells m.n)::R))
  (h1:6≤m.cells→∀gc w',St w0 w' (scp gc [⟨-1,0,2⟩]::ax a.gs ((nT {a with gc:=gc} ps m []).cs ⟨some ⟨a.ga,0,none⟩,1,1⟩ ⟨none,0,0⟩ ⟨none,0,0⟩ 0 0)::bN a.gm (ml4 m)::R)→k 0 w')
  (h2:¬6≤m.cells→∀w' X Y,St w0 w' (X::Y::R)→k 21 w'):fo (some ⟨a.gs,0,none⟩) m.n w k:=by
 obtain⟨hM0,hc0⟩:=aiK hm;have hrm:∀(M:bO) (z:Int),M.size=m.cells→(M.room z=true↔z+(M.cells.length:Nat)≤m.cells):=λM z e=>by unfold bO.room;rw[e];simp;omega
 unfold fo uV;unfold cs0 at h;with_reducible repeat' (first|refine an ?_|refine dL h ?_|fail)
 refine arE (M:=bO.new m.cells m.n) h hc0 hM0 (λhr w h=> ?_) λhr w h=> ?_;rotate_left
 ·have hno:¬6≤m.cells:=λq=>by have:=(hrm (bO.new m.cells m.n) 1 rfl).2 (by show 1+((0:Nat):Int)≤_;omega);rw[hr]at this;cases this
  with_reducible repeat' (first|refine an ?_|refine HV h λw h=> ?_|refine qx ?_|fail)
  exact h2 hno _ _ _ h
 have hM1:=agv (wk:=m.n) hM0 ah hr;have GG:=GB (wk':=m.n) (n:=1) hc0;with_reducible repeat' (first|refine an ?_|refine dL h ?_|refine HV h λw h=> ?_|refine ij ?_|fail)
 refine arF (M:=ml1 m) h GG hM1 (λhr w h=> ?_) λhr w h=> ?_;rotate_left
 ·have hno:¬6≤m.cells:=λq=>by have:=(hrm (ml1 m) 1 rfl).2 (by show 1+((1:Nat):Int)≤_;omega);rw[hr]at this;cases this
  with_reducible repeat' (first|refine an ?_|refine HV h λw h=> ?_|refine qx ?_|fail)
  exact h2 hno _ _ _ h
 have hM2:=agv (wk:=m.n) hM1 ah hr;have hc2:=GB (wk':=m.n) (n:=1) GG;with_reducible repeat' (first|refine an ?_|refine dL h ?_|refine HV h λw h=> ?_|refine ij ?_|fail)
 refine at4 (M:=ml2 m) h hc2 hM2 (λhr gc w h=> ?_) λhr w h=> ?_;rotate_left
 ·have hno:¬6≤m.cells:=λq=>by have:=(hrm (ml2 m) 2 rfl).2 (by show 2+((2:Nat):Int)≤_;omega);rw[hr]at this;cases this
  with_reducible repeat' (first|refine an ?_|refine eL h λw h=> ?_|refine qx ?_|fail)
  exact h2 hno _ _ _ h
 have hM3:=agv (wk:=m.n) hM2 ah hr;have hc3:=GB (wk':=m.n) (n:=2) hc2;with_reducible repeat' (first|refine an ?_|refine aK h λw h=> ?_|refine dL h ?_|refine yU h ?_|refine eL h λw h=> ?_|refine ij ?_|fail)
 refine ar1 (M:=ml3 m) h ⟨hm.base.1,hm.base.2,hm.spare.1,hm.spare.2⟩ hc3 hM3 (λhr w h=> ?_) λhr w h=> ?_;rotate_left
 ·have hno:¬6≤m.cells:=λq=>by have:=(hrm (ml3 m) 2 rfl).2 (by show 2+((4:Nat):Int)≤_;omega);rw[hr]at this;cases this
  with_reducible repeat' (first|refine an ?_|refine HV h λw h=> ?_|fail)
  exact h2 hno _ _ _ h.drop
 with_reducible repeat' (first|refine an ?_|refine HV h λw h=> ?_|fail)
 have aCZ:=(hrm (ml3 m) 2 rfl).1 hr;refine h1 (by have e:((ml3 m).cells.length:Nat)=4:=rfl;rw[e]at aCZ;omega) gc w ?_
 exact h
end
def Z1(id dq:Int):Wk:=⟨id,dq,⟨0,0⟩,[],[],.m .rest,none,.no,none,.no,none,[],false,.no,.no,.no,0,.no,none,0,false,false,.no,.no,0,.no,0,.no,0,.no⟩
def Lm.lg(m:Lm):Int:=if m.log<2 then m.log else 2
def Lm.one(m:Lm):Int:=3+Fx m.lg
def nM(m:Lm):Nat→bO
 |0=>ml4 m
 |v+1=>(nM m v).IY m.n m.lg
def tR(m:Lm)(v:Nat):Int:=6+v*m.one
def Jk(m:Lm)(v:Nat):List Wk:=(List.range v).map λi:Nat=>Z1 i (tR m i)
section
variable {w0 w:World} {L R:List HP} {a:Ad} {ps:Sl} {m:Lm} {M:bO} {gm gc:Nat} {wk:Int} {f:HP→List HP}
theorem Lm.acy(hm:m.OK):0≤m.lg∧m.lg≤m.log∧m.lg≤8:=by have:=hm.log;unfold Lm.lg;split<;>omega
theorem Lm.Ke(hm:m.OK):4≤m.one∧m.one≤259:=by have:=m.acy hm;have:=abQ this.1 this.2.2;unfold Lm.one;omega
theorem SD(hm:m.OK):∀v:Nat,6+v*m.one≤m.cells→(nM m v).OK∧(nM m v).caller m.n=true∧(((nM m v).cells.length:Nat):Int)=6+v*m.one∧(nM m v).size=m.cells∧(nM m v).steps.length=m.n+1
 |0,h=>by
  obtain⟨h1,h2⟩:=aiK hm;refine⟨⟨hm.cells,?_⟩,?_,?_,rfl,?_⟩
  ·show(((nM m 0).cells.length:Nat):Int)≤m.cells;have:(nM m 0).cells.length=6:=rfl;rw[this];omega
  ·exact GB (GB (GB (GB h2)))
  ·have:(nM m 0).cells.length=6:=rfl;rw[this];omega
  ·show(ml4 m).steps.length=_;unfold ml4 ml3 ml2 ml1 bO.grow bO.tick bO.new;simp
 |v+1,h=>by
  have ho:=m.Ke hm;have e1:((v+1:Nat):Int)*m.one=v*m.one+m.one:=by rw[Int.natCast_add,Int.add_mul];omega
  obtain⟨h1,h2,h3,h4,h5⟩:=SD hm v ah;have hlen:(((nM m (v+1)).cells.length:Nat):Int)=6+((v+1:Nat):Int)*m.one:=by
   show(((nM m v).IY m.n m.lg).cells.length:Nat)=(_:Int);unfold bO.IY;have:=xw (M:=(nM m v).tick m.n) (n:=3+Fx m.lg) (by unfold Lm.one at ho;omega)
   have e2:((nM m v).tick m.n).cells.length=(nM m v).cells.length:=rfl;have e3:(((((nM m v).tick m.n).grow (3+Fx m.lg)).tick m.n).put (((nM m v).cells.length:Nat)+2) (Rg.word ⟨(((nM m v).cells.length:Nat):Int)+3,m.lg⟩)).cells.length=(((nM m v).tick m.n).grow (3+Fx m.lg)).cells.length:=by unfold bO.put bO.tick;simp
   rw[e3,this,e2,h3,e1];unfold Lm.one;omega
  refine⟨⟨by show 1≤(nM m (v+1)).size∧_;exact⟨by show 1≤(nM m v).size;rw[h4];exact hm.cells.1,by show(nM m v).size≤_;rw[h4];exact hm.cells.2⟩,by rw[hlen];show _≤(nM m v).size;rw[h4];exact h⟩,?_,hlen,h4,?_⟩
  ·show((nM m v).IY m.n m.lg).caller m.n=true;unfold bO.IY bO.caller bO.put bO.grow bO.tick;unfold bO.caller at h2;simpa using h2
  ·show((nM m v).IY m.n m.lg).steps.length=_;unfold bO.IY bO.put bO.grow bO.tick;simpa using h5
theorem aAx{l:Lc}{gw gt:Nat}{v d:Int}(h:St w0 w (ax gw [pt l.gs,.int .i64 v,.int .i64 d,.int .i64 l.log,pt gt,.slice none 0 0,.slice none 0 0,mt gw .rest,.pointer none,.nilFunc,.pointer none,.nilFunc,.pointer none,.slice none 0 0,.bool false,.nilFunc,.nilFunc,.nilFunc,.int .i64 0,.nilFunc,.pointer none,.int .i64 0,.bool false,.bool false,.nilFunc,.nilFunc,.int .i64 0,.nilFunc,.int .i64 0,.nilFunc,.int .i64 0,.nilFunc]::ax gt (Wt.cells l.told ⟨0,0⟩)::R)):St w0 w (qt l [] (gw,Z1 v d)::R):=by
 refine aic (W:=Z1 v d) (q:=⟨gt,⟨none,0,0⟩,[],⟨none,0,0⟩,[],mt gw .rest,0,.nilFunc,0,.nilFunc,0,⟨none,0,0⟩,.nilFunc,.nilFunc,.nilFunc,.nilFunc,none,.nilFunc,.nilFunc,.nilFunc,.nilFunc,.nilFunc,[]⟩) ?_ ?_
 ·exact⟨.nil,.nil,rfl,rfl,rfl,rfl,rfl,rfl,rfl,rfl,rfl,rfl,rfl,rfl,rfl⟩
 ·have h:=asP h;have h:St w0 w (mN (λo:jz=>ax 0 (o.cells l.sp 0)) (Z1 v d).step::_):=St.shut (A:=[]) h;have h:St w0 w (mN (λk:Lk=>ax 0 (k.cells l.gc)) (Z1 v d).look::_):=St.shut (A:=[]) h;have h:St w0 w (mN (uu 0) (Z1 v d).op::_):=St.shut (A:=[]) h;have h:=((h.Jx 1).Jx 1).Jx 1;exact St.as9 (A:=[_,_,_,_,_,_,_]) (B:=[_,_]) h
theorem aC0:GI Tryz.prog 105 1 8 (.pointer none):=⟨bf,bf⟩
abbrev LW(a:Ad)(ps:Sl)(m:Lm)(sw:Sl)(wa:List Nat)(M:bO)(v:Nat)(R:List HP):List HP:=ax a.gs ((nT a ps m []).cs ⟨some ⟨a.ga,0,none⟩,1,1⟩ ⟨none,0,0⟩ sw 0 0)::bN a.gm M::bQ 1 sw (wa.map pt)::lP (qt (nT a ps m []) []) (wa.zip (Jk m v))::R
theorem ao1{m:Lm}{v:Nat}:Jk m (v+1)=Jk m v++[Z1 v (tR m v)]:=by unfold Jk;rw[List.range_succ,List.map_append];rfl
theorem adA{k:Int→aq}(hm:m.OK)(h:St w0 w (LW a ps m ⟨none,0,0⟩ [] (ml4 m) 0 R))(h6:6≤m.cells)
  (h1:6+m.n*m.one≤m.cells→∀sw wa w',wa.length=m.n→St w0 w' (LW a ps m sw wa (nM m m.n) m.n R)→k 0 w')
  (h2:¬6+m.n*m.one≤m.cells→∀w' L',St w0 w' (L'++R)→k 21 w'):er (some ⟨a.gs,0,none⟩) m.n w k:=by
 have aC1:m.n≤16:=by have:=hm.base;have:=hm.spare;unfold Lm.n;omega
 have YM:=m.acy hm;have hone:=m.Ke hm;have hlo:aah m.lg m.log=true:=by unfold aah;simp only[decide_eq_true_eq];exact⟨YM.1,YM.2.1,hm.log.2⟩
 unfold er th;refine Qn (G:=Nat×Sl×List Nat) (λq i w=>i=((q.1:Nat):Int)∧q.1≤m.n∧q.2.2.length=q.1∧6+q.1*m.one≤m.cells∧St w0 w (LW a ps m q.2.1 q.2.2 (nM m q.1) q.1 R)) (λq=>m.n - q.1) (g:=(0,⟨none,0,0⟩,[])) ⟨rfl,ah,rfl,ah,h⟩ ?_;clear h;rintro⟨v,sw,wa⟩ i w ⟨hi,hv,CW,hc,h⟩ C hC;dsimp only at hi hv CW hc h;subst hi;obtain⟨hMo,hMc,hMl,hMs,hMt⟩:=SD hm v hc;by_cases hlt:v<m.n;rotate_left
 ·have e:v=m.n:=ah;subst e;exact bp bh (h1 hc sw wa w CW h)
 refine bH (by simp;omega) ?_
 have hroom:(nM m v).room (3+Fx m.lg)=true↔6+((v+1:Nat):Int)*m.one≤m.cells:=by
  have e1:((v+1:Nat):Int)*m.one=v*m.one+m.one:=by rw[Int.natCast_add,Int.add_mul];omega
  unfold bO.room;rw[hMs,hMl,e1];unfold Lm.one;simp only[decide_eq_true_eq];omega
 have hmono:∀z:Nat,z≤m.n→6+m.n*m.one≤m.cells→6+z*m.one≤m.cells:=λz hz hq=>by
  have:(z:Int)*m.one≤m.n*m.one:=Int.mul_le_mul_of_nonneg_right ah ah;omega
 refine bU (fun(x:Addr×Int) w=>(x.2=0∧6+((v+1:Nat):Int)*m.one≤m.cells∧∃g,x.1=⟨g,0,none⟩∧St w0 w (ax g [.int .i64 (tR m v),.int .i64 m.log]::LW a ps m sw wa (nM m (v+1)) v R))∨(x.2=21∧¬6+m.n*m.one≤m.cells∧∃L',St w0 w (L'++R))) (λJ hJ=> ?_) ?_
 ·with_reducible repeat' (first|refine an ?_|refine aK h λw h=> ?_|refine dL h ?_|refine yU h ?_|refine av h λgx w h=> ?_|refine kr h ?_|refine lu ?_ ?_|refine amY (by assumption) h vw ?_|fail)
  ·refine amn (M:=nM m v) (log:=m.lg) (most:=m.log) h hMo hMc hlo (λhr w h=> ?_) λhr w h=> ?_
   ·with_reducible repeat' (first|refine qX h λw h=> ?_|refine av h λgx w h=> ?_|refine kr h ?_|refine amY (by assumption) h vw ?_|fail)
    rw[hMl]at h;exact hJ _ _ (.inl ⟨rfl,hroom.1 hr,_,rfl,h⟩)
   ·with_reducible repeat' (first|refine qX h λw h=> ?_|refine av h λgx w h=> ?_|refine kr h ?_|refine amY (by assumption) h vw ?_|fail)
    exact hJ _ _ (.inr ⟨rfl,λq=>by rw[hroom.2 (hmono _ ah q)]at hr;(cases hr),[_,_,_,_,_],h⟩)
  ·refine amn (M:=nM m v) (log:=m.lg) (most:=m.log) h hMo hMc hlo (λhr w h=> ?_) λhr w h=> ?_
   ·with_reducible repeat' (first|refine qX h λw h=> ?_|fail)
    rw[hMl]at h;exact hJ _ _ (.inl ⟨rfl,hroom.1 hr,_,rfl,h⟩)
   ·with_reducible repeat' (first|refine qX h λw h=> ?_|fail)
    exact hJ _ _ (.inr ⟨rfl,λq=>by rw[hroom.2 (hmono _ ah q)]at hr;(cases hr),[_,_,_,_,_],h⟩)
 clear h;rintro⟨ad,e⟩ w hx;dsimp only at hx;rcases hx with⟨rfl,GG,g,rfl,h⟩|⟨rfl,hno,L',h⟩;rotate_left
 ·exact bH rfl (h2 hno w L' h)
 refine bp rfl ?_;with_reducible repeat' (first|refine an ?_|refine aK h λw h=> ?_|refine pi h ?_|refine pn h ?_|fail)
 refine av8 h λgt w h=> ?_;with_reducible repeat' (first|refine po h ?_|fail)
 refine qH (#[pt a.gs,.int .i64 v,.int .i64 (tR m v),.int .i64 m.log,.pointer none,.slice none 0 0,.slice none 0 0,.nilFunc,.pointer none,.nilFunc,.pointer none,.nilFunc,.pointer none,.slice none 0 0,.bool false,.nilFunc,.nilFunc,.nilFunc,.int .i64 0,.nilFunc,.pointer none,.int .i64 0,.bool false,.bool false,.nilFunc,.nilFunc,.int .i64 0,.nilFunc,.int .i64 0,.nilFunc,.int .i64 0,.nilFunc]) rfl bf ?_;with_reducible repeat' (first|refine an ?_|refine mJ h ?_|refine eL h λw h=> ?_|refine av h λgx w h=> ?_|fail)
 obtain⟨gn,lI⟩:∃n,n=gx:=⟨_,rfl⟩;subst lI;with_reducible repeat' (first|refine an ?_|refine aK h λw h=> ?_|refine dL h ?_|refine dX h ?_|refine FU h ?_|refine mJ h ?_|refine td h ?_|refine La h ?_|refine oI h ?_|refine GM h ?_|refine OB h ?_|refine B3 h ?_|refine MD h ?_|refine OC h ?_|refine pi h ?_|refine pn h ?_|refine yU h ?_|refine eL h λw h=> ?_|refine xB h λw h=> ?_|refine HV h λw h=> ?_|refine qX h λw h=> ?_|refine av h λgx w h=> ?_|refine gA ?_|refine kr h ?_|refine po h ?_|refine lu ?_ ?_|refine ij ?_|refine qx ?_|refine Jf ?_|fail)
 obtain⟨gw,lI⟩:∃n,n=gx:=⟨_,rfl⟩;subst lI;have hwl:(wa.map pt).length≤16:=by rw[List.length_map,CW];omega
 refine Ld (s:=sw) (vs:=wa.map pt) h aC0 bf rfl ah ah λs2 w h E7=> ?_;with_reducible repeat' (first|refine an ?_|refine eL h λw h=> ?_|fail)
 have h:=h.El 0;have h:=h.El 2;have h:=ak0 (Y:=[pt a.gs,.int .i64 v,.int .i64 (tR m v),.int .i64 m.log,pt gt,.slice none 0 0,.slice none 0 0,mt gw .rest,.pointer none,.nilFunc,.pointer none,.nilFunc,.pointer none,.slice none 0 0,.bool false,.nilFunc,.nilFunc,.nilFunc,.int .i64 0,.nilFunc,.pointer none,.int .i64 0,.bool false,.bool false,.nilFunc,.nilFunc,.int .i64 0,.nilFunc,.int .i64 0,.nilFunc,.int .i64 0,.nilFunc]) h bf;have h:=aAx (l:=nT a ps m []) h;have h:=ak0 (Y:=(nT a ps m []).cs ⟨some ⟨a.ga,0,none⟩,1,1⟩ ⟨none,0,0⟩ s2 0 0) h.swap bf;have h:=h.fr 4;have h:=h.fr 2;have h:=V9 h;have h:=h.bk 3;have e1:wa.zip (Jk m v)++[(gw,Z1 v (tR m v))]=(wa++[gw]).zip (Jk m (v+1)):=by
  rw[ao1,List.zip_append (by rw[CW];unfold Jk;simp)];rfl
 have e2:wa.map pt++[.pointer (some ⟨gw,0,none⟩)]=(wa++[gw]).map pt:=by simp
 rw[e1,e2]at h;refine hC (v+1,s2,wa++[gw]) _ _ ⟨?_,by dsimp only;omega,by simp[CW],GG,h⟩ (by dsimp only;omega)
 rw[lO ⟨ah,ah⟩];rfl
end
end Go.Proofs.YthidhjhkmjjckaaGreatDoor
namespace Go.Proofs.YthidhjhkmjjckaaGreatDoor
open Go Go.Ev Go.Proofs
open Fr (Ay m8 dO eC c9 iv jb nF fR oH qp j1 qb pK pL pJ)
open Ck (fU I4 qc Gw pN rX nS Bq rz BE sv wV)
theorem aiM{f:List Int}{pc:Int}{j:Nat}(h1:j≠1)(h18:j≠18):(Ay f pc).getD j 0=f.getD j 0:=by
 unfold Ay;simp only[nr,rG (Ne.symm h18),rG (Ne.symm h1)]
theorem axp{f:List Int}{pc:Int}(h:1<f.length):(Ay f pc).getD 1 0=pc:=by
 unfold Ay;simp only[nr,rG (by decide:(18:Nat)≠1)]
 rw[uw h];rfl
theorem axq{f:List Int}{pc:Int}(h:f.length=19):(Ay f pc).getD 18 0=IntKind.i64.wrap (f.getD 18 0+1):=by
 unfold Ay;simp only[nr];rw[uw (by simp;omega),rG (by decide:(1:Nat)≠18)];rfl
theorem mP{f:List Int}{j i:Nat}{v:Int}(h:i≠j):(f.set i v).getD j 0=f.getD j 0:=by
 simp only[nr,rG h]
theorem at6{f:List Int}{i:Nat}{v:Int}(h:i<f.length):(f.set i v).getD i 0=v:=by
 simp[nr,h]
structure Kp (f f':List Int) (pc:Int):Prop where
 len:f'.length=f.length
 fn:f'.getD 0 0=f.getD 0 0
 pc:f'.getD 1 0=pc
 st:f'.getD 18 0=IntKind.i64.wrap (f.getD 18 0+1)
 hs:∀h:Nat,h<8→f'.getD (10+h) 0=f.getD (10+h) 0
theorem at7{f:List Int}{pc:Int}(h:f.length=19):Kp f (Ay f pc) pc:=
 ⟨qp,aiM gD gD,axp ah,axq h,λk hk=>aiM ah ah⟩
theorem RW{f:List Int}(h:f.length=19)(h0:0≤f.getD 1 0)(h1:f.getD 1 0<1000):Kp f (m8 f) (f.getD 1 0+1):=by
 have:=at7 (pc:=f.getD 1 0+1) h;unfold Fr.m8;rwa[dQ ⟨ah,ah⟩]
theorem Xt{f f':List Int}{pc:Int}{r:Nat}{v:Int}(hr:r<8)(k:Kp (f.set (2+r) v) f' pc):Kp f f' pc:=
 ⟨by rw[k.len,List.length_set],by rw[k.fn,mP ah],k.pc,by rw[k.st,mP ah],λh hh=>by rw[k.hs h hh,mP ah]⟩
theorem aiN:∀op,op<17→∀j,j<4→((Ck.I3.drop (op*4)).take 4).getD j 0=Fr.nG.getD (4*op+j) 0:=gD
theorem alb(k:Int):Ck.pI k=Fr.Vk k:=by
 unfold Ck.pI Fr.Vk;by_cases h1:k=1
 ·subst h1;rfl
 by_cases h2:k=2
 ·subst h2;rfl
 by_cases h3:k=3
 ·subst h3;rfl
 by_cases h4:k=4
 ·subst h4;rfl
 by_cases h5:k=5
 ·subst h5;rfl
 rw[if_neg h1,if_neg h2,if_neg h3,if_neg h4,if_neg h5];simp[beq_eq_false_iff_ne.2 h1,beq_eq_false_iff_ne.2 h2,beq_eq_false_iff_ne.2 h3,beq_eq_false_iff_ne.2 h4,beq_eq_false_iff_ne.2 h5]
theorem FH{x:List Int}(h:Ck.oD x=0):Fr.oD x=0:=by
 unfold Ck.oD at h;split at h
 ·cases h
 ·rename_i hno;split at h
  ·rename_i hf;unfold fU at hno hf;refine Fr.aej ah λj hj=> ?_;unfold Ck.fits at hf;rw[xz]at hf;have:=hf j (by simpa using hj)
   unfold Ck.fit Ck.kinds at this;rw[aiN _ ah j hj,alb]at this;unfold Fr.FF Fr.pI;simp only[Bool.not_eq_true',j5,decide_eq_false_iff_not]at this;simp only[decide_eq_true_eq];omega
  ·cases h
theorem aan{i:List Int}{op:Int}(hc:Ck.oD i=0)(h:i.getD 0 0=op):oH i op=true:=by unfold Fr.oH;rw[h,FH hc];simp
theorem aiO{f i:List Int}(hc:Ck.oD i=0)(hf:f.length=19)(h0:0≤f.getD 1 0)(h1:f.getD 1 0<1000)(hp:(dO f i).2=true):
  (pN i=true∧Kp f (dO f i).1 (i.getD 4 0))∨(fU i≤7∧fU i≠6∧Kp f (dO f i).1 (f.getD 1 0+1)):=by
 have hr:=Fr.vl (FH hc);unfold fU;revert hp;unfold Fr.dO;rw[if_neg (by rw[FH hc];simp)]
 split
 ·rename_i hb;intro _;exact .inl ⟨by
   rcases hb with hb|hb
   ·show((i.getD 0 0==6)||(i.getD 0 0==7))=true;rw[hb];rfl
   ·show((i.getD 0 0==6)||(i.getD 0 0==7))=true;rw[hb.1];rfl,at7 hf⟩
 ·split
  ·rename_i hb;intro _;exact .inr ⟨ah,ah,RW hf h0 h1⟩
  ·split
   ·intro q;cases q
   ·rename_i h6 h7 h5;intro _;have hlt:(i.getD 1 0).toNat<8:=ah;refine .inr ⟨ah,ah,Xt (r:=(i.getD 1 0).toNat) (v:=Fr.RL f i) hlt ?_⟩;have:=RW (f:=f.set (2+(i.getD 1 0).toNat) (Fr.RL f i)) (by simpa using hf) (by rw[mP ah];exact h0) (by rw[mP ah];exact h1)
    rwa[mP ah]at this
theorem acz{f i:List Int}(hc:Ck.oD i=0)(hp:(dO f i).2=false):8≤i.getD 0 0∧i.getD 0 0≤16:=by
 have hk:=Ck.aes hc;unfold fU at hk;revert hp;unfold Fr.dO;rw[if_neg (by rw[FH hc];simp)]
 split
 ·intro q;cases q
 ·split
  ·intro q;cases q
  ·split
   ·rename_i h6 h7 h5;intro _;omega
   ·intro q;cases q
theorem agw{f i:List Int}{kind v:Int}(hc:Ck.oD i=0)(hf:f.length=19)(h0:0≤f.getD 1 0)(h1:f.getD 1 0<1000)(ho:i.getD 0 0=9∨i.getD 0 0=10)(hk:kind=2∨kind=3∨kind=4)
  (hb:(c9 f i kind v).2.2=false):Kp f (c9 f i kind v).1 (f.getD 1 0+1):=by
 have hr:=Fr.vl (FH hc);revert hb;unfold Fr.c9;rw[if_neg (by rcases ho with ho|ho<;>rw[aan hc ho] <;>simp<;>omega)]
 split
 ·intro _;have:=RW (f:=(f.set (2+(i.getD 1 0).toNat) (if kind=4 then 0 else v)).set (2+(i.getD 2 0).toNat) (IntKind.i64.wrap (kind - 2))) (by simpa using hf) (by rw[mP ah,mP ah];exact h0) (by rw[mP ah,mP ah];exact h1)
  rw[mP ah,mP ah]at this;exact Xt ah (Xt ah this)
 ·split
  ·intro _;have:=RW (f:=(f.set (2+(i.getD 1 0).toNat) v)) (by simpa using hf) (by rw[mP ah];exact h0) (by rw[mP ah];exact h1)
   rw[mP ah]at this;exact Xt ah this
  ·intro q;cases q
theorem agx{f i:List Int}{b:Bool}(hc:Ck.oD i=0)(hf:f.length=19)(h0:0≤f.getD 1 0)(h1:f.getD 1 0<1000)(ho:i.getD 0 0=12):Kp f (iv f i b) (f.getD 1 0+1):=by
 have hr:=Fr.vl (FH hc);unfold Fr.iv;rw[if_pos (aan hc ho)];have:=RW (f:=f.set (2+(i.getD 1 0).toNat) (if b then 1 else 0)) (by simpa using hf) (by rw[mP ah];exact h0) (by rw[mP ah];exact h1)
 rw[mP ah]at this;exact Xt ah this
theorem acA{f:List Int}{n aY:Int}(hf:f.length=19):(jb f n aY).length=19∧(jb f n aY).getD 0 0=n∧(jb f n aY).getD 1 0=0∧(jb f n aY).getD 18 0=0∧∀h:Nat,h<8→(jb f n aY).getD (10+h) 0=if tb aY h then f.getD (10+h) 0 else -1:=by
 obtain⟨x0,x1,x2,x3,x4,x5,x6,x7,x8,x9,x10,x11,x12,x13,x14,x15,x16,x17,x18,rfl⟩:=Fr.af5 hf;refine⟨rfl,rfl,rfl,rfl,λh hh=> ?_⟩;match h,hh with
 |0,_=>rfl
 |1,_=>rfl
 |2,_=>rfl
 |3,_=>rfl
 |4,_=>rfl
 |5,_=>rfl
 |6,_=>rfl
 |7,_=>rfl
theorem aiP{f i:List Int}{id:Int}(hc:Ck.oD i=0)(h8:i.getD 0 0=8)(hf:f.length=19)(h0:0≤f.getD 1 0)(h1:f.getD 1 0<1000):(eC f i id).length=19∧(eC f i id).getD 0 0=f.getD 0 0∧(eC f i id).getD 1 0=f.getD 1 0+1
  ∧(eC f i id).getD 18 0=IntKind.i64.wrap (f.getD 18 0+1)∧∀h:Nat,h<8→(eC f i id).getD (10+h) 0=if i.getD 1 0=h then id else f.getD (10+h) 0:=by
 have hr:=Fr.vl (FH hc);unfold Fr.eC;rw[if_pos (aan hc h8)];have k:=RW (f:=f.set (10+(i.getD 1 0).toNat) id) (by simpa using hf) (by rw[mP ah];exact h0) (by rw[mP ah];exact h1)
 refine⟨by rw[k.len,List.length_set,hf],by rw[k.fn,mP ah],by rw[k.pc,mP ah],?_,λh hh=> ?_⟩
 ·rw[k.st];by_cases e:10+(i.getD 1 0).toNat=18
  ·omega
  ·rw[mP e]
 ·rw[k.hs h hh];split
  ·rename_i e;have:10+(i.getD 1 0).toNat=10+h:=ah;rw[this,at6 ah]
  ·rw[mP ah]
structure FI (P:List ea) (H:Int→Prop) (f:List Int) (d:Nat):Prop where
 len:f.length=19
 f0:0≤f.getD 0 0
 d1:1≤d
 fn:∃g,P[(f.getD 0 0).toNat]?=some g∧∃hv,I4 P g hv ((d:Int) - 1) (f.getD 1 0)∧∀h:Nat,h<8→tb hv h=true→H (f.getD (10+h) 0)
theorem FI.imp{P:List ea}{H H':Int→Prop}{f:List Int}{d:Nat}(h:FI P H f d)(hH:∀y,H y→H' y):FI P H' f d:=by
 obtain⟨g,hg,hv,hW,hh⟩:=h.fn;exact⟨h.len,h.f0,h.d1,g,hg,hv,hW,λk hk ht=>hH _ (hh k hk ht)⟩
structure FAt (P:List ea) (H:Int→Prop) (f:List Int) (d:Nat) (g:ea) (hv:Int) (i:List Int):Prop where
 at0:P[(f.getD 0 0).toNat]?=some g
 acc:Ck.Acc P g
 walk:I4 P g hv ((d:Int) - 1) (f.getD 1 0)
 hds:∀h:Nat,h<8→tb hv h=true→H (f.getD (10+h) 0)
 ins:g.code[(f.getD 1 0).toNat]?=some i
 oD:Ck.oD i=0
 good:Ck.Good P g.code.length (nS 0 g.code) (rX g.code g.aY) (f.getD 1 0).toNat i
section
variable {P:List ea} {H:Int→Prop} {f:List Int} {d:Nat}
theorem FI.at(hA:qc P)(h:FI P H f d):∃g hv,FAt P H f d g hv (bz P f):=by
 obtain⟨g,hg,hv,hW,hH⟩:=h.fn;have hacc:=hA.all g (r0 hg);have h0:=hW.a0;have h1:=hW.a1;have e:bz P f=g.code.getD (f.getD 1 0).toNat []:=by unfold bz;rw[hg]
 have hlt:(f.getD 1 0).toNat<g.code.length:=ah;have hi:g.code[(f.getD 1 0).toNat]?=some (bz P f):=by
  rw[e,nr (l:=g.code),kq hlt,Option.getD_some]
 exact⟨g,hv,hg,hacc,hW,hH,hi,hacc.ok _ (r0 hi),Ck.N1 hacc hW hi⟩
theorem FI.oD(hA:qc P)(h:FI P H f d):Ck.oD (bz P f)=0:=by obtain⟨g,hv,ha⟩:=h.at hA;exact ha.oD
theorem FI.op(hA:qc P)(h:FI P H f d):0≤(bz P f).getD 0 0∧(bz P f).getD 0 0<17:=by
 have hk:=Ck.aes (h.oD hA);unfold fU at hk;exact⟨hk.1,ah⟩
theorem FI.Gu{w:World}{ps:Sl}(hF:j2 w ps P)(hA:qc P)(h:FI P H f d):(bz P f).length=5:=by
 obtain⟨g,hv,ha⟩:=h.at hA;exact((hF.code g (r0 ha.at0)).2.Gu _ (r0 ha.ins)).1
theorem FI.Zw{w:World}{ps:Sl}(hF:j2 w ps P)(hA:qc P)(h:FI P H f d):Zv P f:=by
 obtain⟨g,hv,ha⟩:=h.at hA;refine⟨⟨h.len,h.f0,ha.walk.a0,⟨g,ha.at0,ha.ins⟩,h.Gu hF hA⟩,h.op hA,λhp=>acz ha.oD hp⟩
theorem FI.aAz(hA:qc P)(h:FI P H f d):(0≤(bz P f).getD 0 0∧(bz P f).getD 0 0<17)∧((dO f (bz P f)).2=false→8≤(bz P f).getD 0 0∧(bz P f).getD 0 0≤16):=by
 obtain⟨g,hv,ha⟩:=h.at hA;exact⟨h.op hA,λhp=>acz ha.oD hp⟩
theorem FAt.pc{g:ea}{hv:Int}{i:List Int}(ha:FAt P H f d g hv i):0≤f.getD 1 0∧f.getD 1 0<1000:=by
 have h0:=ha.walk.a0;have h1:=ha.walk.a1;have:=ha.acc.l1;omega
theorem FI.next{g:ea}{hv:Int}{i f':List Int}{d':Nat}(h:FI P H f d)(ha:FAt P H f d g hv i)(h6:fU i≠6)(h15:fU i≠15)(h16:fU i≠16)(h8:fU i≠8)(hk:Kp f f' (f.getD 1 0+1))(hd:1≤d')
  (hl:((d':Int) - 1)=Bq ((d:Int) - 1) i):FI P H f' d':=by
 have hlen:=h.len;refine⟨by rw[hk.len,hlen],by rw[hk.fn];exact h.f0,hd,g,by rw[hk.fn];exact ha.at0,hv,?_,λk hk' ht=>by rw[hk.hs k hk'];exact ha.hds k hk' ht⟩
 rw[hl,hk.pc];exact Ck.akJ ha.acc ha.walk ha.ins h6 h15 h16 h8
theorem FI.goes{g:ea}{hv:Int}{i f':List Int}(h:FI P H f d)(ha:FAt P H f d g hv i)(CU:pN i=true)(hk:Kp f f' (i.getD 4 0)):FI P H f' d:=by
 have hlen:=h.len;refine⟨by rw[hk.len,hlen],by rw[hk.fn];exact h.f0,h.d1,g,by rw[hk.fn];exact ha.at0,hv,?_,λk hk' ht=>by rw[hk.hs k hk'];exact ha.hds k hk' ht⟩
 rw[hk.pc];exact Ck.akK ha.acc ha.walk ha.ins CU
theorem FI.plain(hA:qc P)(h:FI P H f d)(hp:(dO f (bz P f)).2=true):FI P H (dO f (bz P f)).1 d:=by
 obtain⟨g,hv,ha⟩:=h.at hA;obtain⟨Fv,Bp⟩:=ha.pc;rcases aiO ha.oD h.len Fv Bp hp with⟨CU,hk⟩|⟨h7,h6,hk⟩
 ·exact h.goes ha CU hk
 ·exact h.next ha h6 ah ah ah hk h.d1 (by unfold Bq;rw[if_neg ah,if_neg ah])
theorem FI.on(hA:qc P)(h:FI P H f d)(ho:(bz P f).getD 0 0=13∨(bz P f).getD 0 0=14):FI P H (m8 f) d:=by
 obtain⟨g,hv,ha⟩:=h.at hA;obtain⟨Fv,Bp⟩:=ha.pc;refine h.next ha (by unfold fU;omega) (by unfold fU;omega) (by unfold fU;omega) (by unfold fU;omega) (RW h.len Fv Bp) h.d1 ?_
 unfold Bq fU;rw[if_neg ah,if_neg ah]
theorem FI.opens(hA:qc P)(h:FI P H f d)(hd:d≤100000)(ho:(bz P f).getD 0 0=11):FI P H (m8 f) (d+1):=by
 obtain⟨g,hv,ha⟩:=h.at hA;obtain⟨Fv,Bp⟩:=ha.pc;have:=h.d1;refine h.next ha (by unfold fU;omega) (by unfold fU;omega) (by unfold fU;omega) (by unfold fU;omega) (RW h.len Fv Bp) ah ?_
 unfold Bq fU;rw[if_pos ho,dQ ⟨ah,ah⟩];omega
theorem FI.scopes(hA:qc P)(h:FI P H f d)(ho:(bz P f).getD 0 0=12∨(bz P f).getD 0 0=13):2≤d:=by
 obtain⟨g,hv,ha⟩:=h.at hA;have hg:=ha.good.scopes;have hop:=ha.walk.akI;unfold sv fU at hg;rw[if_pos (by rcases ho with h|h<;>rw[h] <;>rfl)]at hg
 have:=of_decide_eq_true hg;omega
theorem FI.gC{b:Bool}(hA:qc P)(h:FI P H f d)(hd:d≤100000)(ho:(bz P f).getD 0 0=12):FI P H (iv f (bz P f) b) (d - 1):=by
 obtain⟨g,hv,ha⟩:=h.at hA;obtain⟨Fv,Bp⟩:=ha.pc;have:=h.scopes hA (.inl ho);refine h.next ha (by unfold fU;omega) (by unfold fU;omega) (by unfold fU;omega) (by unfold fU;omega) (agx ha.oD h.len Fv Bp ho) ah ?_
 unfold Bq fU;rw[if_neg ah,if_pos ho,dQ ⟨ah,ah⟩];omega
theorem FI.joined{kind v:Int}(hA:qc P)(h:FI P H f d)(ho:(bz P f).getD 0 0=9∨(bz P f).getD 0 0=10)(hk:kind=2∨kind=3∨kind=4)(hb:(c9 f (bz P f) kind v).2.2=false):FI P H (c9 f (bz P f) kind v).1 d:=by
 obtain⟨g,hv,ha⟩:=h.at hA;obtain⟨Fv,Bp⟩:=ha.pc;refine h.next ha (by unfold fU;omega) (by unfold fU;omega) (by unfold fU;omega) (by unfold fU;omega) (agw ha.oD h.len Fv Bp ho hk hb) h.d1 ?_
 unfold Bq fU;rw[if_neg ah,if_neg ah]
theorem FI.hand(hA:qc P)(h:FI P H f d)(ho:(bz P f).getD 0 0=9∨(bz P f).getD 0 0=10):(0≤Gy (bz P f)∧Gy (bz P f)<8)∧H (f.getD (10+(Gy (bz P f)).toNat) 0):=by
 obtain⟨g,hv,ha⟩:=h.at hA;have hr:=Fr.vl (FH ha.oD);have hg:=ha.good.aio;unfold rz at hg;unfold fU at hg;unfold Gy;rcases ho with h|h
 ·rw[if_neg ah];rw[if_pos (by rw[h];rfl)]at hg
  exact⟨hr.2.1,ha.hds _ ah (Ck.Vs ha.walk ah hg)⟩
 ·rw[if_pos h];rw[if_neg (by rw[h];decide),if_pos (by rw[h];rfl)]at hg
  exact⟨hr.2.2,ha.hds _ ah (Ck.Vs ha.walk ah hg)⟩
theorem FI.aC4(hA:qc P)(h:FI P H f d):0≤(bz P f).getD 1 0∧(bz P f).getD 1 0<8:=(Fr.vl (FH (h.oD hA))).1
theorem FI.fork(hA:qc P)(h:FI P H f d)(h8:(bz P f).getD 0 0=8):∃g',P[((bz P f).getD 4 0).toNat]?=some g'∧0≤(bz P f).getD 4 0∧Ed P ((bz P f).getD 4 0)=g'.aY∧(H (-1)∨True)∧FI P H (jb f ((bz P f).getD 4 0) g'.aY) 1:=by
 obtain⟨g,hv,ha⟩:=h.at hA;have BY:=(Ck.acm ha.good.places).2 h8;have hc:=(Ck.aes ha.oD).2.2.2.1 h8;have hr:=Fr.vl (FH ha.oD);obtain⟨g',K3⟩:∃g',P[((bz P f).getD 4 0).toNat]?=some g':=⟨_,kq ah⟩;have hh:=ha.good.aio;unfold rz fU at hh;rw[if_neg (by rw[h8];decide),if_neg (by rw[h8];decide),if_pos (by rw[h8];rfl),Ck.NY K3]at hh
 obtain⟨c1,c2,c3,c4,c5⟩:=acA (f:=f) (n:=(bz P f).getD 4 0) (aY:=g'.aY) h.len;have hacc:=hA.all g' (r0 K3);refine⟨g',K3,hc.1,by unfold Ed;rw[K3],.inr trivial,c1,by rw[c2];exact hc.1,iN 1,g',by rw[c2];exact K3,g'.aY,by rw[c3];exact Ck.Zr hacc ⟨by have:=hacc.n0;omega,by have:=hacc.n1;omega⟩,λk hk ht=> ?_⟩
 rw[c5 k hk,if_pos ht];exact ha.hds k hk (Ck.Vs ha.walk hk (Ck.AE.1 hh k hk ht))
theorem FI.sV{id:Int}(hA:qc P)(h:FI P H f d)(h8:(bz P f).getD 0 0=8)(vq:H id):FI P H (eC f (bz P f) id) d:=by
 obtain⟨g,hv,ha⟩:=h.at hA;obtain⟨Fv,Bp⟩:=ha.pc;obtain⟨f1,f2,f3,f4,f5⟩:=aiP (id:=id) ha.oD h8 h.len Fv Bp;refine⟨f1,by rw[f2];exact h.f0,h.d1,g,by rw[f2];exact ha.at0,Ck.L9 (bz P f) hv,?_,λk hk ht=> ?_⟩
 ·rw[f3];obtain⟨hz,hlt⟩:=Ck.Xs ha.acc ha.walk ha.ins (by unfold fU;omega) (by unfold fU;omega) (by unfold fU;omega)
  refine Ck.aco ha.acc.l1 ha.walk ha.ins hz ?_ (λk hk ht=> ?_) ?_
  ·unfold Ck.L9;split
   ·exact Ck.awS _ _
   ·exact ha.walk.inI
  ·rw[Ck.agj hk]at ht;simpa using ht
  ·rw[Ck.Zq ha.walk ha.ins hlt];unfold Bq fU;rw[if_neg ah,if_neg ah]
 ·rw[f5 k hk];split
  ·exact vq
  ·rename_i hne;rw[Ck.agj hk]at ht;have hf:wV (bz P f) k=false:=by unfold Ck.wV;rw[Bool.and_eq_false_iff];exact .inr (by simpa using hne)
   rw[hf,Bool.or_false]at ht;exact ha.hds k hk ht
theorem FI.root(hA:qc P):FI P H nF 1:=by
 have hn:=hA.n0;obtain⟨g,hg⟩:∃g,P[(0:Int).toNat]?=some g:=⟨_,kq (by simp;omega)⟩
 have hacc:=hA.all g (r0 hg);refine⟨rfl,by simp[Fr.nF],iN 1,g,hg,g.aY,Ck.Zr hacc ⟨by have:=hacc.n0;omega,by have:=hacc.n1;omega⟩,λk hk ht=> ?_⟩
 have:=Ck.NY hg;rw[hA.root]at this;rw[←this,Ck.Xl hk]at ht;cases ht
theorem FI.is8(hA:qc P)(h:FI P H f d){op:Int}(h8:(bz P f).getD 0 0=op):oH (bz P f) op=true:=aan (h.oD hA) h8
end
end Go.Proofs.YthidhjhkmjjckaaGreatDoor
namespace Go.Proofs.YthidhjhkmjjckaaGreatDoor
open Go Go.Ev Go.Proofs
open Ko (CK)
open Ck (qc)
inductive Ro
 |told|idle|Xu|PS
 |ask (s:Nat)|liv (s:Nat)
 |top (v:Nat)|bot (v:Nat)|Vx (v:Nat)|rg (v g k:Nat)
 |fk (x:Nat)|fv (x:Nat)|fw (x:Nat)
 deriving DecidableEq
def kM(ro:List Ro)(a:Int)(r:Ro):Prop:=0≤a∧ro[a.toNat]?=some r
section
variable {ro m:List Ro} {a b:Int} {r s:Ro} {M:bO}
theorem kM.ne(h:kM ro a r)(k:kM ro b s)(hn:r≠s):a≠b:=by
 intro e;subst e;have:=h.2;rw[k.2]at this;exact hn (Option.some.inj this).symm
theorem kM.qD(h:kM ro a r):kM (ro++m) a r:=⟨h.1,by rw[sY (kO.1 h.2).1];exact h.2⟩
theorem kM.lt(h:kM ro a r):a<ro.length:=by have:=(kO.1 h.2).1;have:=h.1;omega
theorem kM.new{k:Nat}(hk:m[k]?=some r)(ha:a=((ro.length+k:Nat):Int)):kM (ro++m) a r:=by
 subst ha;refine⟨ah,?_⟩;rw[kY,uK ah];rw[Nat.add_sub_cancel_left];exact hk
theorem kM.old(h:kM (ro++m) a r):kM ro a r∨∃k:Nat,m[k]?=some r∧a=((ro.length+k:Nat):Int):=by
 by_cases hl:a.toNat<ro.length
 ·exact .inl ⟨h.1,by have:=h.2;rwa[sY hl]at this⟩
 ·refine .inr ⟨a.toNat - ro.length,?_,by have:=h.1;omega⟩
  have:=h.2;rwa[uK ah]at this
theorem kM.given(h:kM ro a r)(hl:ro.length=M.cells.length):M.given a=true:=by
 have:=h.lt;have:=h.1;unfold bO.given;simp only[decide_eq_true_eq];omega
theorem kM.can{wk:Int}(h:kM ro a r)(hl:ro.length=M.cells.length)(hc:M.caller wk=true):M.can wk a=true:=by
 unfold bO.can;rw[hc,h.given hl];rfl
theorem RX{x:Int}(h0:0≤a)(h1:0≤b)(h:b≠a):(M.put a x).get b=M.get b:=by
 unfold bO.get bO.put;simp only[nr];rw[rG ah]
theorem aiQ{x:Int}(h0:0≤a)(h1:a<M.cells.length):(M.put a x).get a=x:=by
 unfold bO.get bO.put;simp only[nr];rw[uw ah];rfl
theorem xx{n:Int}(h0:0≤a)(h1:a<M.cells.length):(M.grow n).get a=M.get a:=by
 unfold bO.get bO.grow;simp only[nr];rw[sY ah]
theorem Xv{n:Int}(h1:(M.cells.length:Int)≤a):(M.grow n).get a=0:=by
 unfold bO.get bO.grow;simp only[nr];rw[uK ah];cases h:(dM n.toNat (0:Int))[a.toNat - M.cells.length]? with
 |none=>rfl
 |some v=>have:=List.eq_of_mem_replicate (r0 h);rw[this];rfl
@[simp] theorem tv {wk:Int}:(M.tick wk).get a=M.get a:=rfl
@[simp] theorem RY {wk:Int}:(M.tick wk).cells=M.cells:=rfl
@[simp] theorem aAA {wk:Int}:(M.tick wk).size=M.size:=rfl
@[simp] theorem aiR {x:Int}:(M.put a x).cells.length=M.cells.length:=by unfold bO.put;simp
@[simp] theorem size_put {x:Int}:(M.put a x).size=M.size:=rfl
@[simp] theorem alc {x:Int}:(M.put a x).steps=M.steps:=rfl
@[simp] theorem ayJ {n:Int}:(M.grow n).steps=M.steps:=rfl
@[simp] theorem aAB {n:Int}:(M.grow n).size=M.size:=rfl
theorem SE{n:Int}(h:0≤n):((M.grow n).cells.length:Int)=M.cells.length+n:=by unfold bO.grow;simp;omega
@[simp] theorem apt {wk:Int}:(M.tick wk).steps.length=M.steps.length:=by unfold bO.tick;simp
theorem I9{wk:Int}{n:Nat}(hn:M.steps.length=n+1)(h0:0≤wk)(h1:wk≤n):M.caller wk=true:=by
 unfold bO.caller;simp only[decide_eq_true_eq];omega
theorem Mb{x:Int}(h0:0≤a)(h1:a<M.cells.length)(hb:0≤b):(M.put a x).get b=if b=a then x else M.get b:=by
 split
 ·rename_i e;subst e;exact aiQ h0 h1
 ·rename_i e;exact RX h0 hb e
theorem aao{wk o x:Int}(h0:0≤a)(h1:a<M.cells.length)(hb:0≤b):(M.cs wk a o x).1.get b=if b=a∧M.get a=o then x else M.get b:=by
 unfold bO.cs;split
 ·rename_i e;dsimp only;rw[Mb h0 (by simpa using h1) hb,tv]
  by_cases hba:b=a
  ·simp[hba,e]
  ·simp[hba]
 ·rename_i e;simp[e]
theorem axr{wk o x:Int}:(M.cs wk a o x).2=decide (M.get a=o):=by
 unfold bO.cs;split
 ·rename_i e;simp[e]
 ·rename_i e;simp[e]
theorem axs{wk x:Int}(h0:0≤a)(h1:a<M.cells.length)(hb:0≤b):(M.ad wk a x).get b=if b=a then wr (M.get a+x)else M.get b:=by
 unfold bO.ad;rw[Mb h0 (by simpa using h1) hb,tv]
theorem agy(x:Int):xb (wr x):=by
 unfold wr xb aL;simp only[IntKind.bits,IntKind.signed];simp;omega
end
theorem Mc:∀{n:Nat} {l:List Nat},l.Nodup→(∀x∈l,x<n)→l.length≤n
 |0,l,_,h=>by
  cases l with
  |nil=>simp
  |cons x l=>exact absurd (h x bh) ah
 |n+1,l,hd,h=>by
  by_cases hn:n∈l
  ·have h1:=Mc (n:=n) (hd.erase n) λx hx=>by
    have h2:=(List.Nodup.mem_erase_iff hd).1 hx;have:=h x h2.2;omega
   rw[List.length_erase_of_mem hn]at h1;omega
  ·have:=Mc (n:=n) hd λx hx=>by
    have h2:=h x hx;have:x≠n:=λe=>hn (e▸hx);omega
   omega
structure Z2 (l:Lc) (ro:List Ro) (v:Nat) (R:Rg):Prop where
 right:R.right=true
 le:R.CS≤l.log
 cell:∀k:Nat,k<R.pw→kM ro (R.At+(k:Int)) (.rg v R.CS.toNat k)
theorem Z2.qD{l:Lc}{ro m:List Ro}{v:Nat}{R:Rg}(h:Z2 l ro v R):Z2 l (ro++m) v R:=⟨h.right,h.le,λk hk=>(h.cell k hk).qD⟩
theorem ao2{R:Rg}(h:R.right=true):0≤R.CS∧R.CS≤8∧0≤R.At∧R.At≤1048576 - R.pw:=by unfold Rg.right at h;simpa using h
theorem axt(R:Rg):1≤R.pw:=by unfold Rg.pw;exact Nat.pow_pos ah
theorem Z2.place{l:Lc}{ro:List Ro}{v:Nat}{R:Rg}(h:Z2 l ro v R)(i:Int):kM ro (R.place i) (.rg v R.CS.toNat (i % (R.pw:Int)).toNat):=by
 have hp:=axt R;have h1:=Int.emod_nonneg i (b:=(R.pw:Int)) ah;have h2:=Int.emod_lt_of_pos i (b:=(R.pw:Int)) ah;have:=h.cell (i % (R.pw:Int)).toNat ah;unfold Rg.place;rw[if_pos h.right];rwa[Int.toNat_of_nonneg h1]at this
def Ee(l:Lc)(ro:List Ro)(n:Nat):Ro→Int→Prop
 | .PS,x=>0≤x∧x<65536
 | .ask _,x=>x=0∨x=1
 | .rg _ _ _,x=>0≤x∧x<n
 | .top _,x=>xb x
 | .bot _,x=>xb x
 | .Vx v,x=> ∃R:Rg,x=R.word∧Z2 l ro v R
 | .fk _,x=>0≤x∧x≤4
 |_,_=>True
theorem Ee.qD{l:Lc}{ro m:List Ro}{n n':Nat}{r:Ro}{x:Int}(h:Ee l ro n r x)(hn:n≤n'):Ee l (ro++m) n' r x:=by
 cases r<;>try exact h
 ·obtain⟨R,h1,h2⟩:=h;exact⟨R,h1,h2.qD⟩
 ·exact⟨h.1,by have:=h.2;omega⟩
structure ScT (ro:List Ro) (s:Nat) (x:Nd):Prop where
 a:kM ro x.at_ (.ask s)
 b:kM ro (x.at_+1) (.liv s)
 n:0≤x.nest∧x.nest≤32
 p:s≠0→0≤x.parent∧x.parent<s
 w:s=0→x.parent= -1
structure TI (ro:List Ro) (nC:Nat) (x:Nat) (t:Tk):Prop where
 id:t.id=x
 k:kM ro t.jt (.fk x)
 v:kM ro (t.jt+1) (.fv x)
 w:kM ro (t.jt+2) (.fw x)
 Z3:0≤t.lN∧t.lN<nC
 own:0≤t.own∧t.own<nC
 cI:∀p∈t.cI,0≤p.1∧p.1<nC
 sn:t.gC.size+t.cI.length≤t.scopes.length
 sl:t.scopes.length≤nC
structure Ty (l:Lc) (ro:List Ro) (G:Gl):Prop where
 len:ro.length=G.M.cells.length
 ok:G.M.OK
 sz:G.M.size≤65536
 stp:G.M.steps.length=l.wa.length+1
 val:∀a r,kM ro a r→Ee l ro G.ts.length r (G.M.get a)
 told:kM ro l.told .told
 idle:kM ro l.idle .idle
 Xu:kM ro l.sp.at_ .Xu
 PS:kM ro (l.sp.at_+1) .PS
 sc:∀(s:Nat) x,G.C[s]?=some x→ScT ro s x
 tk:∀(x:Nat) t,G.ts[x]?=some t→TI ro G.C.length x t
 c1:1≤G.C.length
 t1:1≤G.ts.length
 pl:G.P.length=G.C.length
 kt:abK G.T
 kl:G.T.length=G.ts.length
 kk:∀(i:Nat) x,G.T[i]?=some x→x.kids.length≤G.T.length
 ck:CK G.time
 PT:∀y∈G.time.2,y.2<G.C.length
 cnt:2*G.C.length+3*G.ts.length≤G.M.cells.length
 dr:G.D.length≤1024
section
variable {l:Lc} {ro m:List Ro} {G G':Gl} {a v:Int} {r:Ro}
theorem Ty.cap(h:Ty l ro G):G.C.length≤32768∧G.ts.length≤32768∧G.P.length≤32768∧G.T.length≤32768:=by
 have h1:=h.ok.fit;have h2:=h.sz;have h3:=h.cnt;have h4:=h.pl;have h5:=h.kl;omega
theorem Ty.RZ(h:Ty l ro G){s:Int}(h0:0≤s)(h1:s<G.C.length):GA G s∧ScT ro s.toNat (G.nd s):=by
 have h2:s.toNat<G.C.length:=ah;have e:nR G.C s=some (G.C[s.toNat]'h2):=by unfold nR;rw[if_pos h0,kq h2]
 have e2:G.nd s=G.C[s.toNat]'h2:=by unfold Gl.nd;rw[e];rfl
 exact⟨by unfold GA;rw[e,e2],by rw[e2];exact h.sc _ _ (kq h2)⟩
theorem Ty.pR(h:Ty l ro G){x:Nat}(hx:x<G.ts.length):TI ro G.C.length x (G.tk x):=h.tk x _ (G.Ao hx)
theorem Ty.Z0(h:Ty l ro G):G.time.2.length≤100000:=by
 have h1:=h.ck.one;have h2:=h.PT;have h3:=h.ck.ids;have h4:=h.cap.1;have hd:((G.time.2.map (·.2)).map Int.toNat).Nodup:=by
  refine List.pairwise_map.2 (h1.imp_of_mem fun{a b} ha hb hab=> ?_);obtain⟨z,hz,rfl⟩:=List.mem_map.1 ha;obtain⟨u,hu,rfl⟩:=List.mem_map.1 hb;have a1:=h3 z hz;have a2:=h3 u hu;omega
 have:=Mc (n:=G.C.length) hd λx hx=>by
  obtain⟨y,hy,rfl⟩:=List.mem_map.1 hx;obtain⟨z,hz,rfl⟩:=List.mem_map.1 hy;have a1:=h2 z hz;have a2:=h3 z hz;omega
 simp at this;omega
theorem Ty.ayK{M:bO}(h:Ty l ro G)(hc:M.cells.length=G.M.cells.length)(hs:M.size=G.M.size)(hst:M.steps.length=G.M.steps.length)(hv:∀a r,kM ro a r→Ee l ro G.ts.length r (M.get a)):Ty l ro (G.mem M):=
 {h with len:=by rw[h.len];exact hc.symm,ok:=⟨by show 1≤M.size∧M.size≤_;rw[hs];exact h.ok.size,by have:=h.ok.fit;show(M.cells.length:Int)≤M.size;rw[hs,hc];exact this⟩,sz:=by show M.size≤_;rw[hs];exact h.sz,stp:=by show M.steps.length=_;rw[hst];exact h.stp,val:=hv,cnt:=by show _≤M.cells.length;rw[hc];exact h.cnt}
theorem Ty.tick(h:Ty l ro G)(wk:Int):Ty l ro (G.tick wk):=h.ayK rfl rfl bh h.val
theorem Ty.put{M:bO}(h:Ty l ro G)(hM:M.cells=G.M.cells∧M.size=G.M.size∧M.steps.length=G.M.steps.length)(hl:kM ro a r)(hv:Ee l ro G.ts.length r v):Ty l ro (G.mem (M.put a v)):=by
 obtain⟨h1,h2,h3⟩:=hM;refine h.ayK (by simp[h1]) h2 h3 λb s hb=> ?_
 have hlt:=hl.lt;rw[h.len]at hlt;rw[Mb hl.1 (by rw[h1];exact hlt) hb.1]
 split
 ·rename_i e;subst e;have:r=s:=by have q:=hl.2;rw[hb.2]at q;exact(Option.some.inj q).symm
  subst this;exact hv
 ·have:M.get b=G.M.get b:=by unfold bO.get;rw[h1]
  rw[this];exact h.val b s hb
theorem Ty.ad(h:Ty l ro G){wk x:Int}(hl:kM ro a r)(hv:Ee l ro G.ts.length r (wr (G.M.get a+x))):Ty l ro (G.mem (G.M.ad wk a x)):=h.put ⟨rfl,rfl,bh⟩ hl hv
theorem Ty.cs(h:Ty l ro G){wk o x:Int}(hl:kM ro a r)(hv:Ee l ro G.ts.length r x):Ty l ro (G.mem (G.M.cs wk a o x).1):=by
 unfold bO.cs;split
 ·exact h.put ⟨rfl,rfl,bh⟩ hl hv
 ·exact h.tick wk
theorem Ty.set(h:Ty l ro G){x:Nat}{t:Tk}(ht:x<G.ts.length→TI ro G.C.length x t):Ty l ro (G.set x t):=by
 have hn:(G.set x t).ts.length=G.ts.length:=by unfold Gl.set;simp
 refine{h with val:=by rw[hn];exact h.val,tk:=λy u hu=> ?_,t1:=by rw[hn];exact h.t1,kl:=by rw[hn];exact h.kl,cnt:=by rw[hn];exact h.cnt}
 by_cases e:x=y
 ·subst e;have hu:(G.ts.set x t)[x]?=some u:=hu;have hl:=(kO.1 hu).1;rw[List.length_set]at hl;rw[uw hl]at hu;cases hu
  exact ht hl
 ·have hu:(G.ts.set x t)[y]?=some u:=hu;rw[rG e]at hu;exact h.tk y u hu
end
end Go.Proofs.YthidhjhkmjjckaaGreatDoor
namespace Go.Proofs.YthidhjhkmjjckaaGreatDoor
open Go Go.Ev Go.Proofs
open Ko (CK)
theorem aiS{r:Rg}(h:r.right=true):Rg.of r.word=r:=by
 have hr:=Rg.Fw h;unfold Rg.of Rg.word;rw[if_pos h];obtain⟨a,l⟩:=r;simp only[Rg.mk.injEq]at*
 omega
structure Z4 (ro:List Ro) (v:Nat) (d:Int):Prop where
 top:kM ro d (.top v)
 bot:kM ro (d+1) (.bot v)
 Vx:kM ro (d+2) (.Vx v)
theorem Z4.qD{ro m:List Ro}{v:Nat}{d:Int}(h:Z4 ro v d):Z4 (ro++m) v d:=⟨h.top.qD,h.bot.qD,h.Vx.qD⟩
theorem o9{O:bw}{M:bO}{wk:Int}{r:HX}(hl:O.live=true)(hr:O.run M wk=r):O.step M wk=({r.1 with how:=if r.2.2.2=0 then r.2.2.1 else 6,err:=r.2.2.2},r.2.1):=by
 unfold bw.step;rw[if_pos hl,hr]
theorem xa{O:bw}(h:O.how=0):O.live=true:=by unfold bw.live;rw[h];rfl
theorem aAC{O:bw}(h:O.how=2):O.live=true:=by unfold bw.live;rw[h];rfl
def pS(M:bO)(d:Int):Rg:=Rg.of (M.get (d+2))
section
variable {l:Lc} {ro:List Ro} {M:bO} {wk d:Int} {v:Nat} {O:bw}
structure KY (M:bO) (wk d:Int) (O:bw):Prop where
 at_:O.at_=d
 c0:M.can wk d=true
 c1:M.can wk (d+1)=true
 c2:M.can wk (d+2)=true
 rr:(pS M d).right=true
theorem ale(h:KY M wk d O):O.read M wk=({O with ring:=pS M d},M.tick wk,0):=by
 have h2:=h.c2;have h3:=h.rr;unfold pS at h3 ⊢;rw[←h.at_]at h2 h3 ⊢;unfold bw.read;rw[if_pos h2,if_pos h3]
theorem amZ{a o x:Int}(h:M.can wk a=true):M.Vc wk a o x=((M.cs wk a o x).1,(M.cs wk a o x).2,0):=by
 rw[ahC h];unfold bO.cs;split<;>rfl
theorem st0(h:KY M wk d O)(hw:O.how=0)(hn:O.next=0):O.step M wk=({O with b:=M.get (d+1),next:=1,how:=0,err:=0},M.tick wk):=by
 obtain⟨rfl,h0,h1,h2,h3⟩:=h;rw[o9 (xa hw) (show O.run M wk=O.f0 M wk by simp only[bw.run,hn])]
 unfold bw.f0;rw[D7 h1];rfl
theorem st1(h:KY M wk d O)(hw:O.how=0)(hn:O.next=1):O.step M wk=({O with t:=M.get d,next:=2,how:=0,err:=0},M.tick wk):=by
 obtain⟨rfl,h0,h1,h2,h3⟩:=h;rw[o9 (xa hw) (show O.run M wk=O.f1 M wk by simp only[bw.run,hn])]
 unfold bw.f1;rw[D7 h0];rfl
theorem Yr(h:KY M wk d O)(hw:O.how=0)(hn:O.next=2):O.step M wk=
  (if wr (O.b - O.t)<(pS M d).size then{O with ring:=pS M d,next:=6,how:=0,err:=0}else if (pS M d).CS≥O.most then{O with ring:=pS M d,how:=4,err:=0}else{O with ring:=pS M d,next:=3,how:=0,err:=0},M.tick wk):=by
 have e:O.run M wk=(if wr (O.b - O.t)<(pS M d).size then({O with ring:=pS M d,next:=6},M.tick wk,0,0)else if (pS M d).CS≥O.most then({O with ring:=pS M d},M.tick wk,4,0)else({O with ring:=pS M d,next:=3},M.tick wk,0,0)):=by
  rw[show O.run M wk=O.f2 M wk by simp only[bw.run,hn]]
  unfold bw.f2;rw[ale h];simp
 rw[o9 (xa hw) e];split
 ·rfl
 ·split<;>rfl
theorem st3(h:KY M wk d O)(hw:O.how=0)(hn:O.next=3)(hl:0≤O.lg∧O.lg≤8)(hc:M.caller wk=true):O.step M wk=
  if M.room O.L1 then(if RG O.ring (O.L0 M) O.t O.b=0 then({O with to:=O.L0 M,copy:=some (Cp.begin O.ring (O.L0 M) O.t O.b),next:=4,how:=0,err:=0},(M.tick wk).grow O.L1)
   else({O with to:=O.L0 M,copy:=none,next:=4,how:=6,err:=RG O.ring (O.L0 M) O.t O.b},(M.tick wk).grow O.L1))else({O with how:=6,err:=21},M):=by
 have e:O.run M wk=O.f3 M wk:=by simp only[bw.run,hn]
 rw[o9 (xa hw) e];unfold bw.f3;rw[if_pos ⟨hl.1,hl.2,hc⟩];split
 ·split
  ·rfl
  ·dsimp only
 ·rfl
theorem st4{c:Cp}(hw:O.how=0)(hn:O.next=4)(hc:O.copy=some c)(hk:M.can wk c.spot=true):O.step M wk=
  if c.at_=c.jN then({O with next:=5,how:=0,err:=0},M)else if c.BR then({O with copy:=some (c.next 0),next:=if (c.next 0).at_=c.jN then 5 else 4,how:=0,err:=0},(M.tick wk).put c.spot c.has)
   else({O with copy:=some (c.next (M.get c.spot)),how:=0,err:=0},M.tick wk):=by
 have e:O.run M wk=O.f4 M wk c:=by simp only[bw.run,hn,hc]
 rw[o9 (xa hw) e];unfold bw.f4;rw[hn];split
 ·rfl
 ·split<;>rfl
theorem st5(h:KY M wk d O)(hw:O.how=0)(hn:O.next=5):O.step M wk=({O with ring:=O.to,next:=6,how:=0,err:=0},(M.tick wk).put (d+2) O.to.word):=by
 obtain⟨rfl,h0,h1,h2,h3⟩:=h;rw[o9 (xa hw) (show O.run M wk=O.f5 M wk by simp only[bw.run,hn])]
 unfold bw.f5;rw[Sr h2];rfl
theorem st6(hw:O.how=0)(hn:O.next=6)(hc:M.can wk (O.ring.place O.b)=true):O.step M wk=({O with next:=7,how:=0,err:=0},(M.tick wk).put (O.ring.place O.b) O.x):=by
 rw[o9 (xa hw) (show O.run M wk=O.f6 M wk by simp only[bw.run,hn])]
 unfold bw.f6;rw[Sr hc];rfl
theorem st7(h:KY M wk d O)(hw:O.how=0)(hn:O.next=7):O.step M wk=({O with how:=1,err:=0},(M.tick wk).put (d+1) (wr (O.b+1))):=by
 obtain⟨rfl,h0,h1,h2,h3⟩:=h;rw[o9 (xa hw) (show O.run M wk=O.f7 M wk by simp only[bw.run,hn])]
 unfold bw.f7;rw[Sr h1];rfl
theorem st8(h:KY M wk d O)(hw:O.how=0)(hn:O.next=8):O.step M wk=({O with b:=M.get (d+1),next:=9,how:=0,err:=0},M.tick wk):=by
 obtain⟨rfl,h0,h1,h2,h3⟩:=h;rw[o9 (xa hw) (show O.run M wk=O.f8 M wk by simp only[bw.run,hn])]
 unfold bw.f8;rw[D7 h1];rfl
theorem st9(h:KY M wk d O)(hw:O.how=0)(hn:O.next=9):O.step M wk=({O with ring:=pS M d,next:=10,how:=0,err:=0},M.tick wk):=by
 have h':KY M wk d {O with next:=10}:=⟨h.at_,h.c0,h.c1,h.c2,h.rr⟩
 rw[o9 (xa hw) (show O.run M wk=O.f9 M wk by simp only[bw.run,hn])]
 unfold bw.f9;rw[ale h'];rfl
theorem aDa(h:KY M wk d O)(hw:O.how=0)(hn:O.next=10):O.step M wk=({O with next:=11,how:=0,err:=0},(M.tick wk).put (d+1) (wr (O.b - 1))):=by
 obtain⟨rfl,h0,h1,h2,h3⟩:=h;rw[o9 (xa hw) (show O.run M wk=O.f10 M wk by simp only[bw.run,hn])]
 unfold bw.f10;rw[Sr h1];rfl
theorem aDb(h:KY M wk d O)(hw:O.how=0)(hn:O.next=11):O.step M wk=({O with t:=M.get d,next:=if M.get d>wr (O.b - 1)then 14 else 12,how:=0,err:=0},M.tick wk):=by
 obtain⟨rfl,h0,h1,h2,h3⟩:=h;rw[o9 (xa hw) (show O.run M wk=O.f11 M wk by simp only[bw.run,hn])]
 unfold bw.f11;rw[D7 h0];simp only[decide_eq_true_eq];rfl
theorem aDc(hw:O.how=0)(hn:O.next=12)(hc:M.can wk (O.ring.place (wr (O.b - 1)))=true):O.step M wk=({O with got:=M.get (O.ring.place (wr (O.b - 1))),next:=13,how:=if O.t<wr (O.b - 1)then 1 else 0,err:=0},M.tick wk):=by
 rw[o9 (xa hw) (show O.run M wk=O.f12 M wk by simp only[bw.run,hn])]
 unfold bw.f12;rw[D7 hc];simp only[decide_eq_true_eq];rfl
theorem aDd(h:KY M wk d O)(hw:O.how=0)(hn:O.next=13):O.step M wk=({O with won:=(M.cs wk d O.t (wr (O.t+1))).2,next:=14,how:=0,err:=0},(M.cs wk d O.t (wr (O.t+1))).1):=by
 obtain⟨rfl,h0,h1,h2,h3⟩:=h;rw[o9 (xa hw) (show O.run M wk=O.f13 M wk by simp only[bw.run,hn])]
 unfold bw.f13;rw[amZ h0];rfl
theorem aDe(h:KY M wk d O)(hw:O.how=0)(hn:O.next=14):O.step M wk=({O with how:=if O.won then 1 else 3,err:=0},(M.tick wk).put (d+1) O.b):=by
 obtain⟨rfl,h0,h1,h2,h3⟩:=h;rw[o9 (xa hw) (show O.run M wk=O.f14 M wk by simp only[bw.run,hn])]
 unfold bw.f14;rw[Sr h1];rfl
theorem aDf(h:KY M wk d O)(hw:O.how=0)(hn:O.next=15):O.step M wk=({O with t:=M.get d,next:=16,how:=0,err:=0},M.tick wk):=by
 obtain⟨rfl,h0,h1,h2,h3⟩:=h;rw[o9 (xa hw) (show O.run M wk=O.f15 M wk by simp only[bw.run,hn])]
 unfold bw.f15;rw[D7 h0];rfl
theorem aDg(h:KY M wk d O)(hw:O.how=0)(hn:O.next=16):O.step M wk=({O with b:=M.get (d+1),next:=17,how:=if O.t≥M.get (d+1)then 3 else 0,err:=0},M.tick wk):=by
 obtain⟨rfl,h0,h1,h2,h3⟩:=h;rw[o9 (xa hw) (show O.run M wk=O.f16 M wk by simp only[bw.run,hn])]
 unfold bw.f16;rw[D7 h1];simp only[decide_eq_true_eq];rfl
theorem aDh(h:KY M wk d O)(hw:O.how=0)(hn:O.next=17):O.step M wk=({O with ring:=pS M d,next:=18,how:=0,err:=0},M.tick wk):=by
 have h':KY M wk d {O with next:=18}:=⟨h.at_,h.c0,h.c1,h.c2,h.rr⟩
 rw[o9 (xa hw) (show O.run M wk=O.f17 M wk by simp only[bw.run,hn])]
 unfold bw.f17;rw[ale h'];rfl
theorem aDi(hw:O.how=0)(hn:O.next=18)(hc:M.can wk (O.ring.place O.t)=true):O.step M wk=({O with got:=M.get (O.ring.place O.t),next:=19,how:=2,err:=0},M.tick wk):=by
 rw[o9 (xa hw) (show O.run M wk=O.f18 M wk by simp only[bw.run,hn])]
 unfold bw.f18;rw[D7 hc];rfl
theorem stK(h:KY M wk d O)(hw:O.how=2)(hn:O.next=19):O.step M wk=({O with how:=if (M.cs wk d O.t (wr (O.t+1))).2 then 1 else 5,err:=0},(M.cs wk d O.t (wr (O.t+1))).1):=by
 obtain⟨rfl,h0,h1,h2,h3⟩:=h;rw[o9 (aAC hw) (show O.run M wk=O.f19 M wk by simp only[bw.run,hn])]
 unfold bw.f19;rw[amZ h0];cases (M.cs wk O.at_ O.t (wr (O.t+1))).2<;>rfl
end
structure BH (l:Lc) (ro:List Ro) (n:Nat) (v:Nat) (d:Int) (O:bw):Prop where
 at_:O.at_=d
 most:O.most=l.log
 b:xb O.b
 t:xb O.t
 x:0≤O.x∧O.x<n
 got:0≤O.got∧O.got<n
 nx:O.next≤19
 how:O.how=if O.next=19 then 2 else 0
 rg:(3≤O.next∧O.next≤7)∨(10≤O.next∧O.next≤13)∨18≤O.next→Z2 l ro v O.ring
 c2:O.next≤3→O.copy=none
 l3:O.next=3→O.ring.CS<l.log
 c4:O.next=4→∃c,O.copy=some c∧c.a=O.ring∧c.b=O.to∧0≤c.has∧c.has<n
 to:O.next=4∨O.next=5→Z2 l ro v O.to
def bw.kind(O:bw):Nat:=if O.next≤7 then 0 else if O.next≤14 then 1 else 2
theorem BH.imp{l:Lc}{ro m:List Ro}{n n' v:Nat}{d:Int}{O:bw}(h:BH l ro n v d O)(hn:n≤n'):BH l (ro++m) n' v d O:=
 {h with x:=⟨h.x.1,by have:=h.x.2;omega⟩,got:=⟨h.got.1,by have:=h.got.2;omega⟩,rg:=λq=>(h.rg q).qD,c4:=λq=>by obtain⟨c,h1,h2,h3,h4,h5⟩:=h.c4 q;exact⟨c,h1,h2,h3,h4,ah⟩,to:=λq=>(h.to q).qD}
def Ro.dq(v:Nat):Ro→Prop
 | .top u=>u=v
 | .bot u=>u=v
 | .Vx u=>u=v
 | .rg u _ _=>u=v
 |_=>False
structure OpR (l:Lc) (ro iI:List Ro) (G:Gl) (wk:Int) (v:Nat) (d:Int) (O:bw) (r:bw×bO):Prop where
 ty:Ty l iI (G.mem r.2)
 ext:∃m,iI=ro++m∧∀s∈m,s.dq v
 err:r.1.how=6→r.1.err≠0
 got:0≤r.1.got∧r.1.got<G.ts.length
 live:r.1.how=0∨r.1.how=2→BH l iI G.ts.length v d r.1∧r.1.kind=O.kind
 how:O.kind=2→(r.1.how=0∧O.next≤17∧r.1.next≤18)∨(r.1.how=2∧O.next=18)∨(r.1.how=3∧O.next=16)∨((r.1.how=1∨r.1.how=5)∧O.next=19)
 aiT:O.kind≠2→r.1.how=0∨r.1.how=1∨(r.1.how=3∧O.kind=1)∨(r.1.how=4∧O.kind=0)∨(r.1.how=6∧O.kind=0)
 same:∀a s,kM ro a s→¬s.dq v→r.2.get a=G.M.get a
 tick:r.2.steps=G.M.steps∨r.2.steps=(G.M.tick wk).steps
 used:G.M.cells.length≤r.2.cells.length
section
variable {l:Lc} {ro:List Ro} {G:Gl} {wk d:Int} {v:Nat} {O:bw}
theorem Ty.ring(h:Ty l ro G)(hd:Z4 ro v d):Z2 l ro v (pS G.M d):=by
 obtain⟨R,h1,h2⟩:=h.val _ _ hd.Vx;unfold pS;rw[h1,aiS h2.right];exact h2
theorem Ty.rdy(h:Ty l ro G)(hd:Z4 ro v d)(hc:G.M.caller wk=true)(ha:O.at_=d):KY G.M wk d O:=
 ⟨ha,hd.top.can h.len hc,hd.bot.can h.len hc,hd.Vx.can h.len hc,(h.ring hd).right⟩
theorem BH.phase(h:BH l ro G.ts.length v d O):O.next=0∨O.next=1∨O.next=2∨O.next=3∨O.next=4∨O.next=5∨O.next=6∨O.next=7∨O.next=8∨O.next=9∨O.next=10∨O.next=11∨O.next=12∨O.next=13∨O.next=14∨O.next=15∨O.next=16∨O.next=17∨O.next=18∨O.next=19:=by
 have:=h.nx;omega
theorem Ty.ao4(h:Ty l ro G){a x:Int}{r:Ro}{M:bO}(hM:M.cells=G.M.cells)(hl:kM ro a r)(hr:r.dq v):∀b s,kM ro b s→¬s.dq v→(M.put a x).get b=G.M.get b:=by
 intro b s hb hs;have hne:b≠a:=hb.ne hl (by rintro rfl;exact hs hr)
 rw[RX hl.1 hb.1 hne];unfold bO.get;rw[hM]
end
end Go.Proofs.YthidhjhkmjjckaaGreatDoor
namespace Go.Proofs.YthidhjhkmjjckaaGreatDoor
open Go Go.Ev Go.Proofs
open Ko (oE CK)
open Fr (nF)
section
variable {w0 w:World} {L R:List HP} {a:Ad} {ps:Sl} {m:Lm} {M:bO} {gm gc go:Nat} {wk d:Int} {f:HP→List HP}
theorem YN(m:Lm)(v:Nat):tR m (v+1)=tR m v+m.one:=by
 unfold tR;have:((v+1:Nat):Int)*m.one=v*m.one+m.one:=by rw[Int.natCast_add,Int.add_mul];omega
 rw[this];omega
theorem Xw(m:Lm)(h1:0≤m.one):∀{i v:Nat},i≤v→tR m i≤tR m v:=fun{i v} h=>by
 unfold tR;have:(i:Int)*m.one≤v*m.one:=Int.mul_le_mul_of_nonneg_right ah h1;omega
theorem alf{lg a':Int}(hl:0≤lg∧lg≤8)(h0:0≤a'):(M.IY wk lg).get a'=if a'=(M.cells.length:Nat)+2 then Rg.word ⟨(M.cells.length:Nat)+3,lg⟩else if a'<(M.cells.length:Nat)then M.get a' else 0:=by
 have hp:=abQ hl.1 hl.2;have hg:=xw (M:=M.tick wk) (n:=3+Fx lg) ah;have ht:(M.tick wk).cells.length=M.cells.length:=rfl;unfold bO.IY;rw[Mb (M:=((M.tick wk).grow (3+Fx lg)).tick wk) ah (by show _<((((M.tick wk).grow (3+Fx lg)).cells.length:Nat):Int);omega) h0]
 split
 ·rfl
 ·split
  ·rename_i h1 h2;show((M.tick wk).grow (3+Fx lg)).get a'=_;rw[xx h0 (by rw[ht];exact h2)];rfl
  ·rename_i h1 h2;show((M.tick wk).grow (3+Fx lg)).get a'=_;exact Xv (by rw[ht];omega)
theorem auc(a':Int):(ml4 m).get a'=0:=by
 have e:(ml4 m).cells=[0,0,0,0,0,0]:=rfl;unfold bO.get;rw[e];generalize a'.toNat=j;match j with
 |0=>rfl
 |1=>rfl
 |2=>rfl
 |3=>rfl
 |4=>rfl
 |5=>rfl
 |j+6=>rfl
theorem acC(hm:m.OK):∀v:Nat,6+v*m.one≤m.cells→(∀a':Int,0≤a'→a'<tR m v→(∀i:Nat,i<v→a'≠tR m i+2)→(nM m v).get a'=0)∧(∀i:Nat,i<v→(nM m v).get (tR m i+2)=Rg.word ⟨tR m i+3,m.lg⟩)
 |0,_=>⟨λa' _ _ _=>auc a',λi hi=>by omega⟩
 |v+1,h=>by
  have ho:=m.Ke hm;have YM:=m.acy hm;have e1:((v+1:Nat):Int)*m.one=v*m.one+m.one:=by rw[Int.natCast_add,Int.add_mul];omega
  obtain⟨h1,h2⟩:=acC hm v ah;obtain⟨_,_,hl,_⟩:=SD hm v ah;have hl:(((nM m v).cells.length:Nat):Int)=tR m v:=hl;have hb:∀a':Int,0≤a'→(nM m (v+1)).get a'=if a'=tR m v+2 then Rg.word ⟨tR m v+3,m.lg⟩else if a'<tR m v then(nM m v).get a' else 0:=λa' h0=>by
   show((nM m v).IY m.n m.lg).get a'=_;rw[alf ⟨YM.1,YM.2.2⟩ h0,hl]
  have VY:∀i:Nat,6≤tR m i:=λi=>by have:=Xw m ah (Nat.zero_le i);unfold tR at this ⊢;simp at this ⊢;omega
  refine⟨λa' h0 hlt hne=> ?_,λi hi=> ?_⟩
  ·rw[hb a' h0,if_neg (hne v ah)];split
   ·rename_i q;exact h1 a' h0 q λi hi=>hne i ah
   ·rfl
  ·rw[hb _ (by have:=VY i;omega)]
   by_cases e:i=v
   ·subst e;rw[if_pos rfl]
   ·have h3:=Xw m ah (show i+1≤v by omega)
    rw[YN]at h3;rw[if_neg ah,if_pos ah];exact h2 i ah
structure ayL (M:bO) (wk d:Int) (R:Rg):Prop where
 c0:M.can wk d=true
 c1:M.can wk (d+1)=true
 c2:M.can wk (d+2)=true
 c3:M.can wk (R.place 0)=true
 t:M.get d=0
 b:M.get (d+1)=0
 r:pS M d=R
 rr:R.right=true
 ne:d+2≠R.place 0
def aud(M:bO)(wk d:Int)(R:Rg):bO:=((((((M.tick wk).tick wk).tick wk).tick wk).put (R.place 0) 0).tick wk).put (d+1) 1
abbrev pO(d most:Int)(R:Rg)(next:Nat)(how:Int):bw:=⟨d,most,0,0,R,0,false,Rg.zero,none,next,how,0,0⟩
theorem aiU{most:Int}{R':Rg}(h:ayL M wk d R'):(bw.CT d most 0 0).step M wk=(pO d most Rg.zero 1 0,M.tick wk)∧(pO d most Rg.zero 1 0).step (M.tick wk) wk=(pO d most Rg.zero 2 0,(M.tick wk).tick wk)∧(pO d most Rg.zero 2 0).step ((M.tick wk).tick wk) wk=(pO d most R' 6 0,((M.tick wk).tick wk).tick wk)∧
  (pO d most R' 6 0).step (((M.tick wk).tick wk).tick wk) wk=(pO d most R' 7 0,((((M.tick wk).tick wk).tick wk).tick wk).put (R'.place 0) 0)∧(pO d most R' 7 0).step (((((M.tick wk).tick wk).tick wk).tick wk).put (R'.place 0) 0) wk=(pO d most R' 7 1,aud M wk d R'):=by
 obtain⟨c0,c1,c2,c3,t,b,r,rr,ne⟩:=h;have key:∀M':bO,M'.steps.length=M.steps.length→M'.cells.length=M.cells.length→(M'.get (d+2)=M.get (d+2))→∀O:bw,O.at_=d→KY M' wk d O:=λM' h1 h2 h3 O ho=>⟨ho,by rw[If h1 h2];exact c0,by rw[If h1 h2];exact c1,by rw[If h1 h2];exact c2,by unfold pS;rw[h3];unfold pS at r;rw[r];exact rr⟩
 have hs:∀M':bO,(M'.tick wk).steps.length=M'.steps.length:=λM'=>by unfold bO.tick;simp
 have hb0:wr ((0:Int) - 0)=0:=gD;have hp:(0:Int)<R'.size:=by unfold Rg.size;rw[if_pos rr];have:=(Rg.Fw rr).2.2.2.2.1;omega
 refine⟨?_,?_,?_,?_,?_⟩
 ·rw[st0 (key M rfl rfl rfl (bw.CT d most 0 0) rfl) rfl rfl,b];rfl
 ·rw[st1 (key (M.tick wk) (hs _) rfl rfl (pO d most Rg.zero 1 0) rfl) rfl rfl,tv,t]
 ·rw[Yr (key ((M.tick wk).tick wk) (by rw[hs,hs]) rfl rfl (pO d most Rg.zero 2 0) rfl) rfl rfl]
  have e:pS ((M.tick wk).tick wk) d=R':=r;rw[e,hb0,if_pos hp]
 ·have hc:(((M.tick wk).tick wk).tick wk).can wk (R'.place 0)=true:=(If (M':=((M.tick wk).tick wk).tick wk) (M:=M) (by rw[hs,hs,hs]) rfl).trans c3
  rw[st6 (O:=pO d most R' 6 0) rfl rfl hc]
 ·have h2:(((((M.tick wk).tick wk).tick wk).tick wk).put (R'.place 0) 0).get (d+2)=M.get (d+2):=by
   have g3:=oM c3;have g2:=oM c2;unfold bO.given at g3 g2;simp only[decide_eq_true_eq]at g3 g2;rw[Mb (M:=(((M.tick wk).tick wk).tick wk).tick wk) g3.1 g3.2 g2.1,if_neg ne];rfl
  rw[st7 (key _ (by rw[alc,hs,hs,hs,hs]) (by rw[aiR];rfl) h2 (pO d most R' 7 0) rfl) rfl rfl]
  rfl
end
def g0(m:Lm):Gl:=⟨nM m m.n,[],[⟨-1,0,2⟩],[(-1,0,0,false)],[],(0,[]),[],0,0⟩
def g1(m:Lm):Gl:={g0 m with M:=((nM m m.n).tick m.n).grow 2,C:=[⟨-1,0,2⟩,⟨0,1,((nM m m.n).cells.length:Nat)⟩],P:=[(-1,0,0,false),(-2,0,0,false)]}
def g2(m:Lm):Gl:=(g1 m).more m.n (-1) 0 1 nF
def g3(m:Lm):Gl:=(g2 m).mem ((g2 m).M.ad m.n 3 1)
def Oz(m:Lm):Gl:=(g3 m).mem (aud (g3 m).M m.n 6 ⟨9,m.lg⟩)
def HJ(m:Lm):List Wk:=Jk m m.n
def Lm.total(m:Lm):Int:=11+m.n*m.one
section
variable {w0 w:World} {L R:List HP} {a:Ad} {ps:Sl} {m:Lm} {M:bO} {gm gc go:Nat} {wk d:Int} {f:HP→List HP}
theorem frI:(Fr.nF).length=19:=rfl
structure aAD (m:Lm):Prop where
 n1:1≤m.n
 ok0:(nM m m.n).OK
 c0:(nM m m.n).caller m.n=true
 len:(((nM m m.n).cells.length:Nat):Int)=6+m.n*m.one
 size:(nM m m.n).size=m.cells
 ok1:(g1 m).M.OK
 c1:(g1 m).M.caller m.n=true
 ok2:(g2 m).M.OK
 c2:(g2 m).M.can m.n 3=true
 ok3:(g3 m).M.OK
 nd:ayL (g3 m).M m.n 6 ⟨9,m.lg⟩
theorem am0{M:bO}{wk a x:Int}:(M.ad wk a x).steps.length=M.steps.length∧(M.ad wk a x).cells.length=M.cells.length:=by
 unfold bO.ad bO.put bO.tick;simp
theorem SF{M:bO}{wk n:Int}:((M.tick wk).grow n).steps.length=M.steps.length:=by unfold bO.grow bO.tick;simp
theorem agz(hm:m.OK)(h:m.total≤m.cells):aAD m:=by
 unfold Lm.total at h;have ho:=m.Ke hm;have YM:=m.acy hm;have uz:1≤m.n:=by have:=hm.base;have:=hm.spare;unfold Lm.n;omega
 have hmul:m.one≤m.n*m.one:=by have:(1:Int)*m.one≤m.n*m.one:=Int.mul_le_mul_of_nonneg_right ah ah;omega
 obtain⟨h1,h2,h3,h4,h5⟩:=SD hm m.n ah;have Yj:=abQ YM.1 YM.2.2;have hone:m.one=3+Fx m.lg:=rfl;have l1:(((g1 m).M.cells.length:Nat):Int)=8+m.n*m.one:=by
  have:=xw (M:=(nM m m.n).tick m.n) (n:=2) ah;show((((nM m m.n).tick m.n).grow 2).cells.length:Nat)=(_:Int);rw[this];show(((nM m m.n).cells.length:Nat):Int)+2=_;rw[h3];omega
 have l2:(((g2 m).M.cells.length:Nat):Int)=11+m.n*m.one:=by
  have:=xw (M:=(g1 m).M.tick m.n) (n:=3) ah;show((((g1 m).M.tick m.n).grow 3).cells.length:Nat)=(_:Int);rw[this];show(((g1 m).M.cells.length:Nat):Int)+3=_;rw[l1];omega
 have l3:(((g3 m).M.cells.length:Nat):Int)=11+m.n*m.one:=by
  have:=(am0 (M:=(g2 m).M) (wk:=m.n) (a:=3) (x:=1)).2;show((((g2 m).M.ad m.n 3 1).cells.length:Nat):Int)=_;rw[this,l2]
 have s1:(g1 m).M.steps.length=m.n+1:=by rw[←h5];exact SF
 have s2:(g2 m).M.steps.length=m.n+1:=by rw[←s1];exact SF
 have s3:(g3 m).M.steps.length=m.n+1:=by rw[←s2];exact am0.1
 have c3:(g3 m).M.caller m.n=true:=I9 s3 ah ah;have hcan:∀x:Int,0≤x→x<11+m.n*m.one→(g3 m).M.can m.n x=true:=λx h0 h1=>by
  unfold bO.can bO.given;rw[c3,l3];simp only[Bool.true_and,decide_eq_true_eq];exact⟨h0,h1⟩
 have hz:(g1 m).M.size=m.cells∧(g2 m).M.size=m.cells∧(g3 m).M.size=m.cells:=⟨h4,h4,h4⟩;have hsz:=hm.cells;have sL:∀x:Int,0≤x→x<6+m.n*m.one→x≠3→(g3 m).M.get x=(nM m m.n).get x:=λx h0 hx hne=>by
  show((g2 m).M.ad m.n 3 1).get x=_;rw[axs ah (by rw[l2];omega) h0,if_neg hne]
  show(((g1 m).M.tick m.n).grow 3).get x=_;rw[xx h0 (by show x<(((g1 m).M.cells.length:Nat):Int);rw[l1];omega),tv]
  show(((nM m m.n).tick m.n).grow 2).get x=_;rw[xx h0 (by show x<(((nM m m.n).cells.length:Nat):Int);rw[h3];omega),tv]
 obtain⟨z1,z2⟩:=acC hm m.n ah;have VY:tR m 0=6:=by unfold tR;simp
 have hdn:tR m m.n=6+m.n*m.one:=rfl;have hne:∀x:Int,x<8→∀i:Nat,i<m.n→x≠tR m i+2:=λx hx i _=>by have:=Xw m ah (Nat.zero_le i);rw[VY]at this;omega
 have w0':(g3 m).M.get 8=Rg.word ⟨9,m.lg⟩:=by
  rw[sL 8 ah ah ah];have:=z2 0 ah;rw[VY]at this;exact this
 have hright:(Rg.mk 9 m.lg).right=true:=by
  unfold Rg.right;simp only[decide_eq_true_eq];unfold Fx at Yj;unfold Rg.pw;dsimp only;omega
 have BY:(Rg.mk 9 m.lg).place 0=9:=by unfold Rg.place;rw[if_pos hright];simp
 refine⟨uz,h1,h2,h3,h4,⟨by rw[hz.1];exact hsz,by rw[l1,hz.1];omega⟩,I9 s1 ah ah,⟨by rw[hz.2.1];exact hsz,by rw[l2,hz.2.1];omega⟩,?_,⟨by rw[hz.2.2];exact hsz,by rw[l3,hz.2.2];omega⟩,⟨hcan 6 ah ah,hcan 7 ah ah,hcan 8 ah ah,by rw[BY];exact hcan 9 ah ah,?_,?_,?_,hright,by rw[BY];decide⟩⟩
 ·have:=I9 s2 (wk:=m.n) ah ah;unfold bO.can bO.given;rw[this,l2];simp only[Bool.true_and,decide_eq_true_eq];omega
 ·rw[sL 6 ah ah ah];exact z1 6 ah (by rw[hdn];omega) (hne 6 ah)
 ·show(g3 m).M.get 7=0;rw[sL 7 ah ah ah];exact z1 7 ah (by rw[hdn];omega) (hne 7 ah)
 ·unfold pS;show Rg.of ((g3 m).M.get 8)=_;rw[w0'];exact aiS hright
theorem ao5{d most:Int}(h:y7 d):(bw.CT d most 0 0).Gs:=⟨λq=>by(cases q),λq=>by(cases q),by show 0≤19;omega,h⟩
theorem aap{d most:Int}{R:Rg}{nx:Nat}{how:Int}(h:y7 d)(h1:nx=1∨nx=2∨nx=6∨nx=7):(pO d most R nx how).Gs:=⟨λq=>by dsimp only at q;omega,λq=>by dsimp only at q;omega,by dsimp only;omega,h⟩
theorem BJ{M:bO}{wk:Int}(h:M.OK):(M.tick wk).OK:=⟨h.size,h.fit⟩
theorem axu{M:bO}{a x:Int}(h:M.OK):(M.put a x).OK:=⟨h.size,by have:=h.fit;show((M.put a x).cells.length:Int)≤M.size;rw[aiR];exact this⟩
theorem alg{wa:List Nat}{st sw sp:Sl}{k:Int→aq}(hm:m.OK)(hroom:6+m.n*m.one≤m.cells)(CW:wa.length=m.n)(h:St w0 w (SL (nT a ps m wa) [] (g0 m) (lP (qt (nT a ps m wa) []) (wa.zip (Jk m m.n))::R) sp st sw))
  (h1:m.total≤m.cells→∀aa w',Ap w0 w' (nT a ps m wa) aa (Oz m) (HJ m) R→k 0 w') (h2:¬m.total≤m.cells→∀w' L',St w0 w' (L'++R)→k 21 w'):fY (some ⟨a.gs,0,none⟩) m.n w k:=by
 obtain⟨ho1,ho2,Vh,TG,ZW⟩:=SD hm m.n hroom;have uz:1≤m.n:=by have:=hm.base;have:=hm.spare;unfold Lm.n;omega
 have aC1:m.n≤16:=by have:=hm.base;have:=hm.spare;unfold Lm.n;omega
 unfold fY vT;with_reducible repeat' (first|refine an ?_|refine aK h λw h=> ?_|refine dL h ?_|fail)
 refine afY (C:=[⟨-1,0,2⟩]) (x:=⟨-1,0,2⟩) (M:=nM m m.n) h rfl ho2 ho1 bh (λq=>by exact absurd q gD) (λ_ hr w h=> ?_) λ_ hr w h=> ?_
 ·refine bH rfl (h2 (λq=> ?_) w [_,_,_,_,_,_,_,_,_,_,_] h);unfold bO.room at hr;unfold Lm.total at q;simp only[decide_eq_false_iff_not]at hr;omega
 refine bp rfl ?_;with_reducible repeat' (first|refine an ?_|refine mJ h ?_|fail)
 refine NQ rfl rfl ?_;with_reducible repeat' (first|refine av h λgx w h=> ?_|fail)
 obtain⟨gp,lI⟩:∃n,n=gx:=⟨_,rfl⟩;subst lI;refine ad3 (sz:=4) (s:=sp) (es:=[uy (-1,0,0,false)]) (e:=uy (-2,0,0,false)) h ato bf rfl ah (by simp[Value.oneCell']) bh ah λsp2 w h hn=> ?_
 with_reducible repeat' (first|refine an ?_|refine eL h λw h=> ?_|fail)
 have h:=h.El 0;refine Fr.ams λw' he=> ?_;have h:=h.on he;have h:St w0 w' (SL (nT a ps m wa) [] (g1 m) (lP (qt (nT a ps m wa) []) (wa.zip (Jk m m.n))::R) sp2 st sw):=h;clear he;have hr2:∀z:Int,(nM m m.n).room 2=true→(g1 m).M.OK∧(((g1 m).M.cells.length:Nat):Int)=8+m.n*m.one:=λ_ hr=>by
  refine⟨agv ho1 ah hr,?_⟩;have:=xw (M:=(nM m m.n).tick m.n) (n:=2) ah;show((((nM m m.n).tick m.n).grow 2).cells.length:Nat)=(_:Int);rw[this];show(((nM m m.n).cells.length:Nat):Int)+2=_;rw[Vh];omega
 have hr:(nM m m.n).room 2=true:=by assumption
 obtain⟨hM1,hl1⟩:=hr2 0 hr;have GG:(g1 m).M.caller m.n=true:=GB ho2;refine atD (aa:=[]) (G:=g1 m) h frI hM1 GG (.inl ⟨rfl,rfl⟩) (by show 0≤1000000;omega) bh ⟨ah,by show(1:Int)<((2:Nat):Int);omega⟩ (λhr3 gn CV w h=> ?_) λhr3 w h=> ?_
 rotate_left
 ·refine bH rfl (h2 (λq=> ?_) w [_,_,_,_,_,_,_,_,_,_,_] h);unfold bO.room at hr3;unfold Lm.total at q;simp only[decide_eq_false_iff_not]at hr3;have:(g1 m).M.size=m.cells:=TG;omega
 refine bp rfl ?_;have htot:m.total≤m.cells:=by
  unfold bO.room at hr3;unfold Lm.total;simp only[decide_eq_true_eq]at hr3;have:(g1 m).M.size=m.cells:=TG;omega
 have hR:=agz hm htot;have h:St w0 w (SL (nT a ps m wa) [gn] (g2 m) (lP (qt (nT a ps m wa) []) (wa.zip (Jk m m.n))::R) sp2 CV sw):=h;with_reducible repeat' (first|refine an ?_|refine aK h λw h=> ?_|refine dL h ?_|fail)
 refine ahD (C:=(g2 m).C) (x:=⟨-1,0,2⟩) (M:=(g2 m).M) h rfl hR.c2 hR.ok2 λw h=> ?_;refine bp rfl ?_;have h:=h.fr 10;have h:=amW (m:=[gn]) h;rw[List.nil_append]at h;have h:St w0 w (lP (qt (nT a ps m wa) [gn]) (wa.zip (Jk m m.n))::SL (nT a ps m wa) [gn] (g3 m) R sp2 CV sw):=h;with_reducible repeat' (first|refine an ?_|refine mJ h ?_|fail)
 obtain⟨gw0,ha0⟩:∃g,wa[0]?=some g:=⟨_,kq ah⟩;have hw0:(Jk m m.n)[0]?=some (Z1 0 6):=by
  unfold Jk;rw[pB,List.getElem?_range ah];simp[tR]
 refine vP (s:=sw) (vs:=wa.map pt) h ah (x:=some ⟨gw0,0,none⟩) (by show(wa.map pt)[0]?=_;rw[pB,ha0];rfl) ?_
 with_reducible repeat' (first|refine an ?_|fail)
 refine atx (l:=nT a ps m wa) (aa:=[gn]) (n:=0) (gj:=gw0) (Wj:=Z1 0 6) h (by rw[List.getElem?_zip_eq_some];exact⟨ha0,hw0⟩) ?_
 refine amm h λgo w h=> ?_;have hA:y7 6:=⟨ah,ah⟩;obtain⟨p1,p2,p3,p4,p5⟩:=aiU (most:=m.log) hR.nd;have hone:∀(O O':bw) (M M':bO) (w:World) (G:Gl) (C:Int→aq),O.Gs→M.OK→O.step M m.n=(O',M')→G.mem M=G→St w0 w (uu go O::lP (qt (nT a ps m wa) [gn]) (wa.zip (Jk m m.n))::SL (nT a ps m wa) [gn] G R sp2 CV sw)→
   (∀w',St w0 w' (uu go O'::lP (qt (nT a ps m wa) [gn]) (wa.zip (Jk m m.n))::SL (nT a ps m wa) [gn] (G.mem M') R sp2 CV sw)→C O'.how w')→fF (some ⟨go,0,none⟩) (some ⟨a.gm,0,none⟩) m.n w C:=by
  intro O O' M M' w G C hf hM hst hGM h hc;rw[←hGM]at h;have h:=h.fr 3;refine aml (M:=M) (O:=O) h.swap hf hM λw h=> ?_;rw[hst]at h ⊢;have h:=h.swap;have h:=h.bk 3;exact hc w h
 refine bU (λi w=>i=1∧St w0 w (lP (qt (nT a ps m wa) [gn]) (wa.zip (Jk m m.n))::SL (nT a ps m wa) [gn] (Oz m) R sp2 CV sw)) (λJ hJ=> ?_) ?_
 ·refine⟨6,?_⟩;unfold jF;refine bH rfl ?_;with_reducible repeat' (first|refine an ?_|refine dL h ?_|fail)
  refine hone _ _ (g3 m).M _ w (g3 m) _ (ao5 hA) hR.ok3 p1 rfl h λw h=> ?_;unfold jF;refine bH rfl ?_;with_reducible repeat' (first|refine an ?_|refine dL h ?_|fail)
  refine hone _ _ _ _ w _ _ (aap hA (.inl rfl)) (BJ hR.ok3) p2 rfl h λw h=> ?_;unfold jF;refine bH rfl ?_;with_reducible repeat' (first|refine an ?_|refine dL h ?_|fail)
  refine hone _ _ _ _ w _ _ (aap hA (.inr (.inl rfl))) (BJ (BJ hR.ok3)) p3 rfl h λw h=> ?_;unfold jF;refine bH rfl ?_;with_reducible repeat' (first|refine an ?_|refine dL h ?_|fail)
  refine hone _ _ _ _ w _ _ (aap hA (.inr (.inr (.inl rfl)))) (BJ (BJ (BJ hR.ok3))) p4 rfl h λw h=> ?_;unfold jF;refine bH rfl ?_;with_reducible repeat' (first|refine an ?_|refine dL h ?_|fail)
  refine hone _ _ _ _ w _ _ (aap hA (.inr (.inr (.inr rfl)))) (axu (BJ (BJ (BJ (BJ hR.ok3))))) p5 rfl h λw h=> ?_;unfold jF;refine bp rfl ?_;exact hJ _ _ ⟨rfl,h.drop⟩
 clear h;rintro _ w ⟨rfl,h⟩;refine bp rfl ?_;exact h1 htot [gn] w (vn (St.back 10 h))
end
end Go.Proofs.YthidhjhkmjjckaaGreatDoor
namespace Go.Proofs.YthidhjhkmjjckaaGreatDoor
open Go Go.Ev Go.Proofs
open Ko (oE CK)
open Ck (yM tri)
section
variable {w0 w:World} {L R:List HP} {a:Ad} {ps:Sl} {m:Lm} {M:bO} {P:List ea} {gm gc go:Nat} {wk d:Int} {f:HP→List HP}
def nr1(ps:Sl):Array Value:=#[.slice ps.a ps.n ps.c,.int .i64 0,.int .i64 0,.int .i64 0,.int .i64 0,.int .i64 0,.int .i64 0,.pointer none,.pointer none,.pointer none,.slice none 0 0,.slice none 0 0,.int .i64 0,.int .i64 0,.int .i64 0,.int .i64 0,.int .i64 0,.pointer none,.pointer none,.slice none 0 0,.int .i64 0,.int .i64 0]
def nr2(ps:Sl)(m:Lm):Array Value:=#[.slice ps.a ps.n ps.c,.int .i64 m.base,.int .i64 m.spare,.int .i64 m.cells,.int .i64 m.fuel,.int .i64 m.deep,.int .i64 m.log,.pointer none,.pointer none,.pointer none,.slice none 0 0,.slice none 0 0,.int .i64 0,.int .i64 0,.int .i64 0,.int .i64 0,.int .i64 0,.pointer none,.pointer none,.slice none 0 0,.int .i64 0,.int .i64 0]
abbrev lmA(m:Lm):Array Value:=#[.int .i64 m.base,.int .i64 m.spare,.int .i64 m.cells,.int .i64 m.fuel,.int .i64 m.deep,.int .i64 m.log]
def Lm.okB(m:Lm):Bool:=decide (1≤m.base∧m.base≤16)&&(decide (0≤m.spare∧m.spare≤16 - m.base)&&(decide (1≤m.cells∧m.cells≤1048576)&&(decide (0≤m.fuel∧m.fuel≤1048576)&&(decide (1≤m.deep∧m.deep≤1000)&&decide (0≤m.log∧m.log≤8)))))
theorem aiV:m.okB=true↔m.OK:=by
 unfold Lm.okB;simp only[iW,decide_eq_true_eq];exact⟨fun⟨h1,h2,h3,h4,h5,h6⟩=>⟨h1,h2,h3,h4,h5,h6⟩,fun⟨h1,h2,h3,h4,h5,h6⟩=>⟨h1,h2,h3,h4,h5,h6⟩⟩
theorem ao6{k:Bool→aq}(h:St w0 w L)(hk:∀w',St w0 w' L→k m.okB w'):oA (lmA m) w k:=by
 unfold oA GS;have hw:∀(x lo hi:Int) (C:Bool→aq) (w:World),C (decide (lo≤x∧x≤hi)) w→iO x lo hi w C:=λx lo hi C w hC=>by
  unfold iO;have e:(decide (x≥lo)&&decide (x≤hi))=decide (lo≤x∧x≤hi):=by simp[ge_iff_le]
  rw[e];exact hC
 unfold Lm.okB at hk;refine av h λg w h=> ?_;with_reducible repeat' (first|refine dX h ?_|fail)
 refine hw _ _ _ _ _ (aF (λhb=> ?_) λhb=> ?_);rotate_left
 ·rw[hb]at hk;exact hk w h.drop
 have hb0:=of_decide_eq_true hb;rw[hb,Bool.true_and]at hk;with_reducible repeat' (first|refine dX h ?_|fail)
 have e:aL .i64 (16 - m.base)=16 - m.base:=dQ ⟨ah,ah⟩;rw[e];refine hw _ _ _ _ _ (aF (λhb=> ?_) λhb=> ?_);rotate_left
 ·rw[hb]at hk;exact hk w h.drop
 rw[hb,Bool.true_and]at hk;with_reducible repeat' (first|refine dX h ?_|fail)
 refine hw _ _ _ _ _ (aF (λhb=> ?_) λhb=> ?_);rotate_left
 ·rw[hb]at hk;exact hk w h.drop
 rw[hb,Bool.true_and]at hk;with_reducible repeat' (first|refine dX h ?_|fail)
 refine hw _ _ _ _ _ (aF (λhb=> ?_) λhb=> ?_);rotate_left
 ·rw[hb]at hk;exact hk w h.drop
 rw[hb,Bool.true_and]at hk;with_reducible repeat' (first|refine dX h ?_|fail)
 refine hw _ _ _ _ _ (aF (λhb=> ?_) λhb=> ?_);rotate_left
 ·rw[hb]at hk;exact hk w h.drop
 rw[hb,Bool.true_and]at hk;with_reducible repeat' (first|refine dX h ?_|fail)
 exact hw _ _ _ _ _ (hk w h.drop)
theorem St.acD:∀{A:List HP},St w0 w (A++R)→St w0 w R
 |[],h=>h
 |_::A,h=>St.acD (A:=A) (St.drop h)
theorem YO{x:Int}{c:Int→Prop}(h:c x):xy .i64 (.int .i64 x) c:=by unfold xy;simpa using h
theorem ao7{p:Option Addr}{i:Int}{c:Value→aq}(h:fo p i w λr w=>c (.int .i64 r) w):CA [.pointer p,.int .i64 i] w c:=h
theorem aiW{p:Option Addr}{i:Int}{c:Value→aq}(h:er p i w λr w=>c (.int .i64 r) w):AJ [.pointer p,.int .i64 i] w c:=h
theorem auh{p:Option Addr}{i:Int}{c:Value→aq}(h:fY p i w λr w=>c (.int .i64 r) w):DM [.pointer p,.int .i64 i] w c:=h
theorem akt{k:Option Addr×Int→aq}(hF:j2 w0 ps P)(h:St w0 w R)(h1:tri (yM P)=[0,0,0]→m.OK→m.total≤m.cells→∀a wa aa w',wa.length=m.n→Ap w0 w' (nT a ps m wa) aa (Oz m) (HJ m) R→k (some ⟨a.gs,0,none⟩,0) w')
  (h2:¬tri (yM P)=[0,0,0]→∀w',St w0 w' R→k (none,24) w') (h3:tri (yM P)=[0,0,0]→¬m.OK→∀w',St w0 w' R→k (none,10) w') (h4:tri (yM P)=[0,0,0]→m.OK→¬m.total≤m.cells→∀w',St w0 w' R→k (none,21) w'):
  pG #[.slice ps.a ps.n ps.c] (lmA m) w k:=by
 unfold pG MZ;refine av h λga1 w h=>av h λga3 w h=> ?_;with_reducible repeat' (first|refine pn h ?_|fail)
 refine Ck.akG (P:=P) (ps:=ps) (hF.ext h.ext) λw' hx=> ?_;have h:=h.on hx.ext;clear hx;refine aF (λhb=> ?_) λhb=> ?_
 ·exact h2 (by simpa using hb) _ h.drop.drop
 have hacc:tri (yM P)=[0,0,0]:=by simpa using hb
 replace h1:=h1 hacc;replace h3:=h3 hacc;replace h4:=h4 hacc;clear h2 hb;with_reducible repeat' (first|refine pn h ?_|fail)
 refine ao6 (m:=m) h λw h=> ?_;refine aF (λhb=> ?_) λhb=> ?_
 ·have:¬m.OK:=λq=>by rw[aiV.2 q]at hb;cases hb
  exact h3 this _ h.drop.drop
 have hm:m.OK:=aiV.1 (by simpa using hb)
 replace h1:=h1 hm;replace h4:=h4 hm;clear h3 hb;with_reducible repeat' (first|refine dX h ?_|fail)
 have hbs:=hm.base;have hsp:=hm.spare;have hnw:aL .i64 (m.base+m.spare)=(m.n:Int):=by rw[dQ ⟨ah,ah⟩];unfold Lm.n;omega
 have hnb:(m.n:Int)=m.base+m.spare:=by unfold Lm.n;omega
 rw[hnw];refine av1 (size:=m.cells) (wks:=m.n) h (λhok gm w h=> ?_) λhok=> ?_;rotate_left
 ·exfalso;unfold afW at hok;simp only[decide_eq_false_iff_not]at hok;have:=hm.cells;omega
 refine bp rfl ?_;refine bU (fun(p:Option Addr) w=> ∃gs gk gt gd gp X,p=some ⟨gs,0,none⟩∧X=cs0 ⟨gs,gm,gk,0,gt,gd,gp⟩ ps m∧St w0 w (ax gs X::Cr gk []::oE gt (0,[])::KS gd []::ax gp (uy (-1,0,0,false))::bN gm (bO.new m.cells m.n)::R)) (λJ hJ=> ?_) ?_
 ·with_reducible repeat' (first|refine aK h λw h=> ?_|refine pn h ?_|refine av h λgx w h=> ?_|refine gA ?_|refine po h ?_|refine lu ?_ ?_|refine anR h λgx w h=> ?_|refine Ko.akt h λgx w h=> ?_|refine arT h λgx w h=> ?_|refine NQ rfl rfl ?_|fail)
  all_goals
   refine qH (nr1 ps) rfl bf ?_;refine qH (nr2 ps m) rfl bf ?_;refine av h λgx w h=> ?_;have h:=h.El 6;have h:=h.El 6;exact hJ _ _ ⟨_,_,_,_,_,_,rfl,bf,h.perm GL⟩
 clear h;rintro _ w ⟨gs,gk,gt,gd,gp,X,rfl,rfl,h⟩;refine⟨rfl,⟨rfl,⟨rfl,?_⟩⟩⟩;with_reducible repeat' (first|refine av h λgx w h=> ?_|fail)
 obtain⟨gl,lI⟩:∃n,n=gx:=⟨_,rfl⟩;subst lI;refine⟨4,?_⟩;unfold jF;refine bH rfl ?_;with_reducible repeat' (first|refine an ?_|refine aK h λw h=> ?_|refine dL h ?_|refine dX h ?_|refine FU h ?_|refine mJ h ?_|refine td h ?_|refine La h ?_|refine oI h ?_|refine GM h ?_|refine OB h ?_|refine B3 h ?_|refine MD h ?_|refine OC h ?_|refine pi h ?_|refine pn h ?_|refine yU h ?_|refine eL h λw h=> ?_|refine xB h λw h=> ?_|refine HV h λw h=> ?_|refine qX h λw h=> ?_|refine av h λgx w h=> ?_|refine gA ?_|refine kr h ?_|refine po h ?_|refine lu ?_ ?_|refine ij ?_|refine qx ?_|refine Jf ?_|fail)
 refine amN h (Int.le_refl 0) gD (v:= .func (.func mR) #[pt gs] #[]) rfl ?_;refine bX (d:=CA) (λ_ _ _=>rfl) (ao7 ?_);have h:=h.fr 6;have h:=h.fr 2;refine aiL (a:=⟨gs,gm,gk,0,gt,gd,gp⟩) hm h (λh6 gc w h=> ?_) (λh6 w X Y h=> ?_);rotate_left
 ·have hno:¬m.total≤m.cells:=λq=>h6 (by have:=m.Ke hm;unfold Lm.total at q;have:(0:Int)≤m.n*m.one:=Int.mul_nonneg ah ah;omega)
  refine YO (bH rfl (h4 hno _ (St.acD (A:=[_,_,_,_,_,_,_]) h)))
 refine YO (bp rfl ?_);unfold jF;refine bH rfl ?_;with_reducible repeat' (first|refine an ?_|refine aK h λw h=> ?_|refine dL h ?_|refine dX h ?_|refine FU h ?_|refine mJ h ?_|refine td h ?_|refine La h ?_|refine oI h ?_|refine GM h ?_|refine OB h ?_|refine B3 h ?_|refine MD h ?_|refine OC h ?_|refine pi h ?_|refine pn h ?_|refine yU h ?_|refine eL h λw h=> ?_|refine xB h λw h=> ?_|refine HV h λw h=> ?_|refine qX h λw h=> ?_|refine av h λgx w h=> ?_|refine gA ?_|refine kr h ?_|refine po h ?_|refine lu ?_ ?_|refine ij ?_|refine qx ?_|refine Jf ?_|fail)
 refine amN h gD gD (v:= .func (.func lp) #[pt gs] #[]) rfl ?_;refine bX (d:=AJ) (λ_ _ _=>rfl) (aiW ?_);have h:=h.fr 2;have h:=h.fr 2;have h:=St.back 2 (h.Jx 1);have h:St w0 w (lP (qt (nT ⟨gs,gm,gk,gc,gt,gd,gp⟩ ps m []) []) ([].zip (Jk m 0))::_):=Wa h;have h:=St.back 3 h;refine adA (a:=⟨gs,gm,gk,gc,gt,gd,gp⟩) hm h h6 (λhw sw wa w CW h=> ?_) (λhw w L' h=> ?_);rotate_left
 ·have hno:¬m.total≤m.cells:=λq=>hw (by unfold Lm.total at q;omega)
  refine YO (bH rfl (h4 hno _ (St.acD (A:=[_,_,_,_,_,_]) (St.acD h))))
 refine YO (bp rfl ?_);unfold jF;refine bH rfl ?_;with_reducible repeat' (first|refine an ?_|refine aK h λw h=> ?_|refine dL h ?_|refine dX h ?_|refine FU h ?_|refine mJ h ?_|refine td h ?_|refine La h ?_|refine oI h ?_|refine GM h ?_|refine OB h ?_|refine B3 h ?_|refine MD h ?_|refine OC h ?_|refine pi h ?_|refine pn h ?_|refine yU h ?_|refine eL h λw h=> ?_|refine xB h λw h=> ?_|refine HV h λw h=> ?_|refine qX h λw h=> ?_|refine av h λgx w h=> ?_|refine gA ?_|refine kr h ?_|refine po h ?_|refine lu ?_ ?_|refine ij ?_|refine qx ?_|refine Jf ?_|fail)
 refine amN h gD gD (v:= .func (.func nu) #[pt gs] #[]) rfl ?_;refine bX (d:=DM) (λ_ _ _=>rfl) (auh ?_);have h:=h.fr 9;have h:=acv (sz:=4) h rfl (by intro v hv;simp[uy]at hv;rcases hv with rfl|rfl|rfl|rfl<;>rfl)
 have h:=h.fr 6;have h:=h.fr 5;have h:St w0 w (L6 [] []::_):=St.pur rfl (Wa h);have h:=h.fr 10;have h:=h.fr 10;have h:=h.fr 8;have h:=h.Jx 1;have h:=h.fr 7;have h:=h.fr 10;have h:=h.fr 11;have h:=h.fr 11;have h:=h.fr 11;have h:St w0 w (SL (nT ⟨gs,gm,gk,gc,gt,gd,gp⟩ ps m wa) [] (g0 m) (lP (qt (nT ⟨gs,gm,gk,gc,gt,gd,gp⟩ ps m wa) []) (wa.zip (Jk m m.n))::ax gl _::R) ⟨some ⟨gp,0,none⟩,1,1⟩ ⟨none,0,0⟩ sw):=h;refine alg (a:=⟨gs,gm,gk,gc,gt,gd,gp⟩) hm hw CW h (λht aa w h=> ?_) (λht w L' h=> ?_);rotate_left
 ·exact YO (bH rfl (h4 ht _ (St.acD h).drop))
 refine YO (bp rfl ?_);unfold jF;refine bp rfl ?_;exact h1 ht ⟨gs,gm,gk,gc,gt,gd,gp⟩ wa aa _ CW (h.rm 2 rfl)
end
end Go.Proofs.YthidhjhkmjjckaaGreatDoor
namespace Go.Proofs.YthidhjhkmjjckaaGreatDoor
open Go Go.Ev Go.Proofs
open Ko (CK)
section
variable {l:Lc} {ro:List Ro} {G:Gl} {wk d a x:Int} {v:Nat} {O O':bw} {r:Ro}
theorem qC(h:Ty l ro G)(he:O'.how=6→O'.err≠0)(hg:0≤O'.got∧O'.got<G.ts.length)(hl:O'.how=0∨O'.how=2→BH l ro G.ts.length v d O'∧O'.kind=O.kind)
  (h1:O.kind=2→(O'.how=0∧O.next≤17∧O'.next≤18)∨(O'.how=2∧O.next=18)∨(O'.how=3∧O.next=16)∨((O'.how=1∨O'.how=5)∧O.next=19)) (h2:O.kind≠2→O'.how=0∨O'.how=1∨(O'.how=3∧O.kind=1)∨(O'.how=4∧O.kind=0)∨(O'.how=6∧O.kind=0)):
  OpR l ro ro G wk v d O (O',G.M.tick wk):=
 {ty:=h.tick wk,ext:=⟨[],bh,bh⟩,err:=he,got:=hg,live:=hl,how:=h1,aiT:=h2,same:=λ_ _ _ _=>rfl,tick:= .inr rfl,used:=iN _}
theorem aeD(h:Ty l ro G)(he:O'.how=6→O'.err≠0)(hg:0≤O'.got∧O'.got<G.ts.length)(hl:O'.how=0∨O'.how=2→BH l ro G.ts.length v d O'∧O'.kind=O.kind)
  (h1:O.kind=2→(O'.how=0∧O.next≤17∧O'.next≤18)∨(O'.how=2∧O.next=18)∨(O'.how=3∧O.next=16)∨((O'.how=1∨O'.how=5)∧O.next=19)) (h2:O.kind≠2→O'.how=0∨O'.how=1∨(O'.how=3∧O.kind=1)∨(O'.how=4∧O.kind=0)∨(O'.how=6∧O.kind=0)):
  OpR l ro ro G wk v d O (O',G.M):=
 {ty:=h,ext:=⟨[],bh,bh⟩,err:=he,got:=hg,live:=hl,how:=h1,aiT:=h2,same:=λ_ _ _ _=>rfl,tick:= .inl rfl,used:=iN _}
theorem Ja(h:Ty l ro G)(hL:kM ro a r)(hr:r.dq v)(hv:Ee l ro G.ts.length r x)(he:O'.how=6→O'.err≠0)(hg:0≤O'.got∧O'.got<G.ts.length)(hl:O'.how=0∨O'.how=2→BH l ro G.ts.length v d O'∧O'.kind=O.kind)
  (h1:O.kind=2→(O'.how=0∧O.next≤17∧O'.next≤18)∨(O'.how=2∧O.next=18)∨(O'.how=3∧O.next=16)∨((O'.how=1∨O'.how=5)∧O.next=19)) (h2:O.kind≠2→O'.how=0∨O'.how=1∨(O'.how=3∧O.kind=1)∨(O'.how=4∧O.kind=0)∨(O'.how=6∧O.kind=0)):
  OpR l ro ro G wk v d O (O',(G.M.tick wk).put a x):=
 {ty:=h.put ⟨rfl,rfl,bh⟩ hL hv,ext:=⟨[],bh,bh⟩,err:=he,got:=hg,live:=hl,how:=h1,aiT:=h2,same:=h.ao4 rfl hL hr,tick:= .inr rfl,used:=by simp}
theorem am1{o:Int}(h:Ty l ro G)(hL:kM ro a r)(hr:r.dq v)(hv:Ee l ro G.ts.length r x)(he:O'.how=6→O'.err≠0)(hg:0≤O'.got∧O'.got<G.ts.length)(hl:O'.how=0∨O'.how=2→BH l ro G.ts.length v d O'∧O'.kind=O.kind)
  (h1:O.kind=2→(O'.how=0∧O.next≤17∧O'.next≤18)∨(O'.how=2∧O.next=18)∨(O'.how=3∧O.next=16)∨((O'.how=1∨O'.how=5)∧O.next=19)) (h2:O.kind≠2→O'.how=0∨O'.how=1∨(O'.how=3∧O.kind=1)∨(O'.how=4∧O.kind=0)∨(O'.how=6∧O.kind=0)):
  OpR l ro ro G wk v d O (O',(G.M.cs wk a o x).1):=by
 unfold bO.cs;split
 ·exact Ja h hL hr hv he hg hl h1 h2
 ·exact qC h he hg hl h1 h2
def Md(v g n:Nat):List Ro:=(List.range n).map λk=> .rg v g k
theorem Ty.alh{m:List Ro}{n:Int}(h:Ty l ro G)(hn:0≤n)(hm:m.length=n.toNat)(hr:G.M.room n=true)(hz:∀r∈m,Ee l (ro++m) G.ts.length r 0):Ty l (ro++m) (G.mem ((G.M.tick wk).grow n)):=by
 have hr:n≤G.M.size - G.M.cells.length:=by unfold bO.room at hr;simpa using hr
 have hlen:(((G.M.tick wk).grow n).cells.length:Int)=G.M.cells.length+n:=SE (M:=G.M.tick wk) hn;refine{h with len:=by rw[tW,hm,h.len];show _=((G.M.tick wk).grow n).cells.length;omega,ok:=⟨h.ok.size,by show(((G.M.tick wk).grow n).cells.length:Int)≤G.M.size;omega⟩,stp:=by show((G.M.tick wk).grow n).steps.length=_;simp[h.stp],val:=λa r hL=> ?_,told:=h.told.qD,idle:=h.idle.qD,Xu:=h.Xu.qD,PS:=h.PS.qD,sc:=λs x hs=> ?_,tk:=λx t ht=> ?_,cnt:=by show 2*G.C.length+3*G.ts.length≤((G.M.tick wk).grow n).cells.length;have:=h.cnt;omega}
 ·show Ee l (ro++m) G.ts.length r (((G.M.tick wk).grow n).get a);rcases hL.old with h1|⟨k,h1,h2⟩
  ·have:=h1.lt;rw[h.len]at this;rw[xx (M:=G.M.tick wk) h1.1 this,tv];exact(h.val a r h1).qD (iN _)
  ·rw[Xv (by show(G.M.cells.length:Int)≤a;rw[←h.len];omega)]
   exact hz r (r0 h1)
 ·have:=h.sc s x hs;exact{this with a:=this.a.qD,b:=this.b.qD}
 ·have:=h.tk x t ht;exact{this with k:=this.k.qD,v:=this.v.qD,w:=this.w.qD}
theorem aiX(YM:0≤l.log∧l.log≤8)(h:Ty l ro G)(hd:Z4 ro v d)(hc:G.M.caller wk=true)(hO:BH l ro G.ts.length v d O):∃iI,OpR l ro iI G wk v d O (O.step G.M wk):=by
 have hR:=h.rdy hd hc hO.at_;have agA:=h.ring hd;have hx:=hO.x;have hg:=hO.got;have hb:=h.val _ _ hd.bot;have ht:=h.val _ _ hd.top;have CP:=hO.how;have aF8:∃m,ro=ro++m∧∀s∈m,s.dq v:=⟨[],bh,bh⟩;rcases hO.phase with e|e|e|e|e|e|e|e|e|e|e|e|e|e|e|e|e|e|e|e
 ·have hw:O.how=0:=by rw[CP,e];rfl
  refine⟨ro,?_⟩;rw[st0 hR hw e];refine qC h bh hg (λ_=>⟨{hO with b:=hb,nx:=by simp,how:=rfl,rg:=by simp,c2:=λ_=>hO.c2 ah,l3:=by simp,c4:=by simp,to:=by simp},by simp[bw.kind,e]⟩) (by simp[bw.kind,e]) bh
 ·have hw:O.how=0:=by rw[CP,e];rfl
  refine⟨ro,?_⟩;rw[st1 hR hw e];refine qC h bh hg (λ_=>⟨{hO with t:=ht,nx:=by simp,how:=rfl,rg:=by simp,c2:=λ_=>hO.c2 ah,l3:=by simp,c4:=by simp,to:=by simp},by simp[bw.kind,e]⟩) (by simp[bw.kind,e]) bh
 ·have hw:O.how=0:=by rw[CP,e];rfl
  refine⟨ro,?_⟩;rw[Yr hR hw e];have hk:O.kind=0:=by simp[bw.kind,e]
  split
  ·refine qC h bh hg (λ_=>⟨{hO with nx:=by simp,how:=rfl,rg:=λ_=>agA,c2:=by simp,l3:=by simp,c4:=by simp,to:=by simp},by rw[hk];simp[bw.kind]⟩) (by simp[hk]) bh
  split
  ·refine qC h bh hg bh (by simp[hk]) (by simp[hk])
  ·rename_i hlt;refine qC h bh hg (λ_=>⟨{hO with nx:=by simp,how:=rfl,rg:=λ_=>agA,c2:=λ_=>hO.c2 ah,l3:=λ_=>by show(pS G.M d).CS< _;have:=hO.most;omega,c4:=by simp,to:=by simp},by rw[hk];simp[bw.kind]⟩) (by simp[hk]) bh
 ·have hw:O.how=0:=by rw[CP,e];rfl
  have hk:O.kind=0:=by simp[bw.kind,e]
  have G4:=hO.rg ah;have hl3:=hO.l3 e;have aF9:=(ao2 G4.right).1;have aGa:O.lg=O.ring.CS+1:=by unfold bw.lg;exact dQ ⟨ah,ah⟩
  rw[st3 hR hw e ah hc];have Fv:0≤O.L1:=Int.natCast_nonneg _;split
  ·rename_i hroom;have aDQ:O.L1≤G.M.size - G.M.cells.length:=by unfold bO.room at hroom;simpa using hroom
   have Vu:=h.alh (wk:=wk) (m:=Md v O.lg.toNat O.L1.toNat) Fv (by simp[Md]) hroom (λr hr=>by
    obtain⟨k,_,rfl⟩:=List.mem_map.1 hr;exact⟨ah,by have:=h.t1;omega⟩)
   have ayM:∃m,ro++Md v O.lg.toNat O.L1.toNat=ro++m∧∀s∈m,s.dq v:=⟨_,rfl,λs hs=>by obtain⟨k,_,rfl⟩:=List.mem_map.1 hs;rfl⟩
   have hto:Z2 l (ro++Md v O.lg.toNat O.L1.toNat) v (O.L0 G.M):=by
    have Yj:((O.L0 G.M).pw:Int)=O.L1:=by unfold Rg.pw bw.L0 bw.L1;rfl
    refine⟨?_,by show O.lg≤_;omega,λk hk'=> ?_⟩
    ·unfold Rg.right;simp only[decide_eq_true_eq];have:=h.ok.size;rw[Yj];show 0≤O.lg∧O.lg≤8∧0≤((G.M.cells.length:Nat):Int)∧((G.M.cells.length:Nat):Int)≤1048576 - O.L1;omega
    ·refine kM.new (k:=k) ?_ (by show((G.M.cells.length:Nat):Int)+k=_;rw[h.len];omega)
     unfold Md;rw[pB,List.getElem?_range ah];rfl
   have hsame:∀a s,kM ro a s→¬s.dq v→((G.M.tick wk).grow O.L1).get a=G.M.get a:=λa s hs _=>by
    have:=hs.lt;rw[h.len]at this;rw[xx (M:=G.M.tick wk) hs.1 this,tv]
   have aui:G.M.cells.length≤((G.M.tick wk).grow O.L1).cells.length:=by have:=SE (M:=G.M.tick wk) Fv;simp only[RY]at this;omega
   split
   ·refine⟨_,{ty:=Vu,ext:=ayM,err:=by simp,got:=hg,live:=λ_=>⟨?_,by rw[hk];simp[bw.kind]⟩,how:=by simp[hk],aiT:=by simp,same:=hsame,tick:= .inr rfl,used:=aui}⟩
    exact{hO.imp (m:=Md v O.lg.toNat O.L1.toNat) (iN _)with nx:=by simp,how:=rfl,rg:=λ_=>G4.qD,c2:=by simp,l3:=by simp,c4:=λ_=>⟨_,rfl,rfl,rfl,by show(0:Int)≤0;omega,by show(0:Int)< _;have:=h.t1;omega⟩,to:=λ_=>hto}
   ·rename_i hbe;exact⟨_,{ty:=Vu,ext:=ayM,err:=λ_=>hbe,got:=hg,live:=by simp,how:=by simp[hk],aiT:=by simp[hk],same:=hsame,tick:= .inr rfl,used:=aui}⟩
  ·exact⟨ro,aeD h bh hg bh (by simp[hk]) (by simp[hk])⟩
 ·have hw:O.how=0:=by rw[CP,e];rfl
  have hk:O.kind=0:=by simp[bw.kind,e]
  obtain⟨c,hcc,hca,hcb,hc0,GG⟩:=hO.c4 e;have G4:=hO.rg ah;have hto:=hO.to (.inl e);have aAE:∃r,kM ro c.spot r∧r.dq v∧(∀x:Int,0≤x∧x<G.ts.length→Ee l ro G.ts.length r x)∧(Ee l ro G.ts.length r (G.M.get c.spot)→0≤G.M.get c.spot∧G.M.get c.spot<G.ts.length):=by
   unfold Cp.spot;split
   ·rw[hcb];exact⟨_,hto.place _,rfl,λx hx=>hx,λq=>q⟩
   ·rw[hca];exact⟨_,G4.place _,rfl,λx hx=>hx,λq=>q⟩
  obtain⟨r,hs1,Io,UD,hs4⟩:=aAE;have hv:=hs4 (h.val _ _ hs1);refine⟨ro,?_⟩;rw[st4 hw e hcc (hs1.can h.len hc)];split
  ·exact aeD h bh hg (λ_=>⟨{hO with nx:=by simp,how:=rfl,rg:=λ_=>G4,c2:=by simp,l3:=by simp,c4:=by simp,to:=λ_=>hto},by rw[hk];simp[bw.kind]⟩) (by simp[hk]) bh
  split
  ·rename_i hld;have Yn:(c.next 0).a=c.a∧(c.next 0).b=c.b∧(c.next 0).has=c.has:=by unfold Cp.next;rw[if_pos hld];exact⟨rfl,rfl,rfl⟩
   refine Ja h hs1 Io (UD _ ⟨hc0,GG⟩) bh hg (λ_=>⟨?_,by rw[hk];unfold bw.kind;dsimp only;split<;>simp⟩) (by simp[hk]) bh
   exact{hO with nx:=by dsimp only;split<;>omega,how:=by dsimp only;split<;>rfl,rg:=λ_=>G4,c2:=λq=>by dsimp only at q;split at q<;>omega,l3:=λq=>by dsimp only at q;split at q<;>omega,c4:=λ_=>⟨_,rfl,by rw[Yn.1,hca],by rw[Yn.2.1,hcb],by rw[Yn.2.2];exact hc0,by rw[Yn.2.2];exact GG⟩,to:=λ_=>hto}
  ·rename_i hld;have Yn:(c.next (G.M.get c.spot)).a=c.a∧(c.next (G.M.get c.spot)).b=c.b∧(c.next (G.M.get c.spot)).has=G.M.get c.spot:=by unfold Cp.next;rw[if_neg hld];exact⟨rfl,rfl,rfl⟩
   refine qC h bh hg (λ_=>⟨?_,by rw[hk];simp[bw.kind,e]⟩) (by simp[hk]) bh
   exact{hO with how:=by dsimp only;rw[e];rfl,rg:=λ_=>G4,c2:=λq=>by dsimp only at q;omega,c4:=λ_=>⟨_,rfl,by rw[Yn.1,hca],by rw[Yn.2.1,hcb],by rw[Yn.2.2];exact hv.1,by rw[Yn.2.2];exact hv.2⟩}
 ·have hw:O.how=0:=by rw[CP,e];rfl
  have hk:O.kind=0:=by simp[bw.kind,e]
  have hto:=hO.to (.inr e);refine⟨ro,?_⟩;rw[st5 hR hw e];exact Ja h hd.Vx rfl ⟨_,rfl,hto⟩ bh hg (λ_=>⟨{hO with nx:=by simp,how:=rfl,rg:=λ_=>hto,c2:=by simp,l3:=by simp,c4:=by simp,to:=by simp},by rw[hk];simp[bw.kind]⟩) (by simp[hk]) bh
 ·have hw:O.how=0:=by rw[CP,e];rfl
  have hk:O.kind=0:=by simp[bw.kind,e]
  have G4:=hO.rg ah;refine⟨ro,?_⟩;rw[st6 hw e ((G4.place _).can h.len hc)];exact Ja h (G4.place _) rfl hx bh hg (λ_=>⟨{hO with nx:=by simp,how:=rfl,rg:=λ_=>G4,c2:=by simp,l3:=by simp,c4:=by simp,to:=by simp},by rw[hk];simp[bw.kind]⟩) (by simp[hk]) bh
 ·have hw:O.how=0:=by rw[CP,e];rfl
  have hk:O.kind=0:=by simp[bw.kind,e]
  refine⟨ro,?_⟩;rw[st7 hR hw e];exact Ja h hd.bot rfl (agy _) bh hg bh (by simp[hk]) bh
 ·have hw:O.how=0:=by rw[CP,e];rfl
  have hk:O.kind=1:=by simp[bw.kind,e]
  refine⟨ro,?_⟩;rw[st8 hR hw e];exact qC h bh hg (λ_=>⟨{hO with b:=hb,nx:=by simp,how:=rfl,rg:=by simp,c2:=by simp,l3:=by simp,c4:=by simp,to:=by simp},by rw[hk];simp[bw.kind]⟩) (by simp[hk]) bh
 ·have hw:O.how=0:=by rw[CP,e];rfl
  have hk:O.kind=1:=by simp[bw.kind,e]
  refine⟨ro,?_⟩;rw[st9 hR hw e];exact qC h bh hg (λ_=>⟨{hO with nx:=by simp,how:=rfl,rg:=λ_=>agA,c2:=by simp,l3:=by simp,c4:=by simp,to:=by simp},by rw[hk];simp[bw.kind]⟩) (by simp[hk]) bh
 ·have hw:O.how=0:=by rw[CP,e];rfl
  have hk:O.kind=1:=by simp[bw.kind,e]
  have G4:=hO.rg ah;refine⟨ro,?_⟩;rw[aDa hR hw e];exact Ja h hd.bot rfl (agy _) bh hg (λ_=>⟨{hO with nx:=by simp,how:=rfl,rg:=λ_=>G4,c2:=by simp,l3:=by simp,c4:=by simp,to:=by simp},by rw[hk];simp[bw.kind]⟩) (by simp[hk]) bh
 ·have hw:O.how=0:=by rw[CP,e];rfl
  have hk:O.kind=1:=by simp[bw.kind,e]
  have G4:=hO.rg ah;refine⟨ro,?_⟩;rw[aDb hR hw e];refine qC h bh hg (λ_=>⟨?_,by rw[hk];unfold bw.kind;dsimp only;split<;>simp⟩) (by simp[hk]) bh
  exact{hO with t:=ht,nx:=by dsimp only;split<;>omega,how:=by dsimp only;split<;>rfl,rg:=λ_=>G4,c2:=λq=>by dsimp only at q;split at q<;>omega,l3:=λq=>by dsimp only at q;split at q<;>omega,c4:=λq=>by dsimp only at q;split at q<;>omega,to:=λq=>by dsimp only at q;split at q<;>omega}
 ·have hw:O.how=0:=by rw[CP,e];rfl
  have hk:O.kind=1:=by simp[bw.kind,e]
  have G4:=hO.rg ah;have hv:=h.val _ _ (G4.place (wr (O.b - 1)));refine⟨ro,?_⟩;rw[aDc hw e ((G4.place _).can h.len hc)];refine qC h (by dsimp only;split<;>simp) hv (λq=>⟨?_,by rw[hk];simp[bw.kind]⟩) (by simp[hk]) (by dsimp only;intro _;split<;>simp)
  exact{hO with got:=hv,nx:=by simp,how:=by dsimp only at q ⊢;split<;>simp_all,rg:=λ_=>G4,c2:=by simp,l3:=by simp,c4:=by simp,to:=by simp}
 ·have hw:O.how=0:=by rw[CP,e];rfl
  have hk:O.kind=1:=by simp[bw.kind,e]
  refine⟨ro,?_⟩;rw[aDd hR hw e];exact am1 h hd.top rfl (agy _) bh hg (λ_=>⟨{hO with nx:=by simp,how:=rfl,rg:=by simp,c2:=by simp,l3:=by simp,c4:=by simp,to:=by simp},by rw[hk];simp[bw.kind]⟩) (by simp[hk]) bh
 ·have hw:O.how=0:=by rw[CP,e];rfl
  have hk:O.kind=1:=by simp[bw.kind,e]
  refine⟨ro,?_⟩;rw[aDe hR hw e];exact Ja h hd.bot rfl hO.b (by dsimp only;split<;>simp) hg (λq=>by dsimp only at q;split at q<;>simp at q) (by simp[hk]) (by dsimp only;intro _;split<;>simp[hk])
 ·have hw:O.how=0:=by rw[CP,e];rfl
  have hk:O.kind=2:=by simp[bw.kind,e]
  refine⟨ro,?_⟩;rw[aDf hR hw e];exact qC h bh hg (λ_=>⟨{hO with t:=ht,nx:=by simp,how:=rfl,rg:=by simp,c2:=by simp,l3:=by simp,c4:=by simp,to:=by simp},by rw[hk];simp[bw.kind]⟩) (by simp[e]) bh
 ·have hw:O.how=0:=by rw[CP,e];rfl
  have hk:O.kind=2:=by simp[bw.kind,e]
  refine⟨ro,?_⟩;rw[aDg hR hw e];refine qC h (by dsimp only;split<;>simp) hg (λq=>⟨?_,by rw[hk];simp[bw.kind]⟩) (by dsimp only;intro _;split<;>simp[e]) (by simp[hk])
  exact{hO with b:=hb,nx:=by simp,how:=by dsimp only at q ⊢;split<;>simp_all,rg:=by simp,c2:=by simp,l3:=by simp,c4:=by simp,to:=by simp}
 ·have hw:O.how=0:=by rw[CP,e];rfl
  have hk:O.kind=2:=by simp[bw.kind,e]
  refine⟨ro,?_⟩;rw[aDh hR hw e];exact qC h bh hg (λ_=>⟨{hO with nx:=by simp,how:=rfl,rg:=λ_=>agA,c2:=by simp,l3:=by simp,c4:=by simp,to:=by simp},by rw[hk];simp[bw.kind]⟩) (by simp[e]) bh
 ·have hw:O.how=0:=by rw[CP,e];rfl
  have hk:O.kind=2:=by simp[bw.kind,e]
  have G4:=hO.rg ah;have hv:=h.val _ _ (G4.place O.t);refine⟨ro,?_⟩;rw[aDi hw e ((G4.place _).can h.len hc)];exact qC h bh hv (λ_=>⟨{hO with got:=hv,nx:=by simp,how:=rfl,rg:=λ_=>G4,c2:=by simp,l3:=by simp,c4:=by simp,to:=by simp},by rw[hk];simp[bw.kind]⟩) (by simp[e]) (by simp[hk])
 ·have hw:O.how=2:=by rw[CP,e];rfl
  have hk:O.kind=2:=by simp[bw.kind,e]
  refine⟨ro,?_⟩;rw[stK hR hw e];refine am1 h hd.top rfl (agy _) (by dsimp only;split<;>simp) hg (λq=>by dsimp only at q;split at q<;>simp at q) (by dsimp only;intro _;split<;>simp[e]) (by simp[hk])
end
open Ck (qc)
def Gl.K(G:Gl)(x:Nat):Int:=G.M.get (G.tk x).jt
def Gl.V(G:Gl)(x:Nat):Int:=G.M.get ((G.tk x).jt+1)
inductive OA (C:List Nd):Int→Int→Prop
 |refl {s:Int}:0≤s→s<C.length→OA C s s
 |up {s a:Int} {x:Nd}:nR C s=some x→OA C x.parent a→OA C s a
def Vy(G:Gl)(s:Int):Prop:=∃x,nR G.C s=some x∧G.M.get x.at_≠0
def R1(G:Gl)(t:Tk):Prop:=∃a,OA G.C t.lN a∧Vy G a
abbrev HK(P:List ea)(t:Tk):Int:=(bz P t.f).getD 0 0
abbrev hand(P:List ea)(t:Tk):Int:=t.f.getD (10+(Gy (bz P t.f)).toNat) 0
structure Br (P:List ea) (n:Nat) (t:Tk):Prop where
 fi:FI P (λy=>0≤y∧y<n) t.f t.cI.length
 kind:t.kind=0
structure Ends (t:Tk):Prop where
 k2:2≤t.kind
 k4:t.kind≤4
structure N6 (P:List ea) (n:Nat) (t:Tk):Prop where
 fi:FI P (λy=>0≤y∧y<n) t.f 1
 cI:t.cI=[]
 cl:t.gC=ByteArray.mk #[]
 sc:t.scopes=[t.own]
 kind:t.kind=0
 st:t.f.getD 18 0=0
def qV(P:List ea)(n:Nat)(t:Tk):Kn→Prop
 | .m .next=>Br P n t
 | .aw y=>Br P n t∧(HK P t=9∨HK P t=10)∧hand P t=(y:Nat)∧y<n
 | .sh (.c .BS)=>Br P n t∧HK P t=12
 | .sh (.c .qq)=>Ends t∧t.cI≠ []
 |_=>False
def Ef(P:List ea)(G:Gl)(s:List Nat)(k:Kn):Prop:=match s with
 |[]=>k= .m .rest
 |x::_=>qV P G.ts.length (G.tk x) k
def Kf(P:List ea)(G:Gl):List Nat→List Kn→Prop
 |[],[]=>True
 |x::s,k::b=>x<G.ts.length∧Ef P G s k∧Kf P G s b
 |_,_=>False
structure q4 (P:List ea) (G:Gl) (W:Wk):Prop where
 ne:W.stack≠ []
 hm:qV P G.ts.length (G.tk (W.stack.headD 0)) W.again
 tg:match W.again with
  | .aw y=>W.target=some y
  | .sh k=>W.target=none∧W.pM=k
  |_=>False
def y4:Kn→Bool| .aw _=>true|_=>false
def R3:Kn→Bool| .sh _=>true|_=>false
structure CQ (l:Lc) (P:List ea) (G:Gl) (W:Wk):Prop where
 how:W.wait.how=1
 left:∀j∈W.left,0≤j∧j<l.wa.length∧j≠W.id
 what:(W.stack=[]∧W.fits= .any∧W.got= .c .Sx∧W.none_= .m .yL)∨(q4 P G W∧W.fits= .hl ((W.stack.headD 0:Nat):Int) W.target∧W.got= .m .Bo∧W.none_= .m .nothing)
def SpT(o:jz):Prop:=o.next≤6∧o.self<16∧(o.next=6→0≤o.on∧o.on<65536)
def cB(l:Lc)(P:List ea)(bx:List Int)(ro:List Ro)(G:Gl)(W:Wk):Prop:=
 let x:=W.stack.headD 0
 let t:=G.tk x
 let n:=G.ts.length
 let i:=W.id.toNat
 let own:=fun(O:bw) (k:Nat)=>BH l ro n i W.dq O∧O.kind=k
 let thf:=fun(O:bw)=> ∃u,u<l.wa.length∧u≠i∧BH l ro n u (bx.getD u 0) O∧O.kind=2
 let top:=W.stack≠ []
 match W.cR with
 | .m .rest=>W.stack=[]
 | .m .o7=> ∃O,W.op=some O∧(match W.after with
  | .c .FA=>W.stack=[]∧W.wait.how=1∧own O 1
  | .c .tQ=>top∧Br P n t∧(0≤W.jc∧W.jc<n)∧own O 0
  | .c .sJ=>q4 P G W∧(y4 W.again=true→W.dy= .m .vu∧W.wait.how=1)∧(R3 W.again=true→W.dy= .c .Cs)∧own O 1
  | .m .TH=>CQ l P G W∧thf O∧O.next≤18
  | .m .Am=>CQ l P G W∧thf O∧O.next=19
  |_=>False)
 | .m .looking=> ∃k,W.look=some k∧k.done=false∧(0≤k.at_∧k.at_<G.C.length)∧OA G.C t.lN k.at_∧top∧(match W.seen with
  | .nx i=>Br P n t∧i=bz P t.f
  | .c .sK=>q4 P G W∧y4 W.again=true∧W.wait.how=1
  | .c .wW=>Br P n t
  |_=>False)
 | .m .tell=>Ef P G W.stack W.said
 | .m .others=>CQ l P G {W with left:=[]}
 | .m .wU=>W.stack=[]∧W.wait.how=1∧∃o,W.step=some o∧SpT o
 | .m .RN=>W.stack=[]∧W.wait.how=1
 | .m .I0=>W.stack=[]
 | .m .sU=>(0≤W.jc∧W.jc<n)∧Ef P G W.stack W.home
 | .m .start=>(0≤W.jc∧W.jc<n)∧Ef P G W.stack W.home∧N6 P n (G.tk W.jc.toNat)
 | .m .next=>top∧Br P n t
 | .m .fork=>top∧Br P n t∧HK P t=8
 | .m .wV=>top∧Br P n t∧HK P t=8∧(0≤W.own∧W.own<G.C.length)
 | .m .sV=>top∧Br P n t∧(0≤W.jc∧W.jc<n)
 | .m .join=>top∧Br P n t∧(HK P t=9∨HK P t=10)
 | .m .cI=>top∧Br P n t∧HK P t=11
 | .m .opens=>top∧Br P n t∧HK P t=11
 | .m .close=>top∧Br P n t∧HK P t=12
 | .m .gC=>top∧Br P n t∧HK P t=12
 | .m .cancel=>top∧Br P n t∧HK P t=13
 | .m .pass=>top∧Br P n t∧HK P t=14
 | .m .leave=>top∧Br P n t∧(HK P t=15∨HK P t=16)
 | .m .put=>top∧Ends t∧t.cI=[]
 | .m .fin=>top∧Ends t∧t.cI=[]
 | .m .asks=>top∧Ends t∧t.cI=[]
 | .m .gone=>top∧Ends t∧t.cI=[]
 | .m .asked=>q4 P G W∧y4 W.again=true∧W.wait.how=1
 | .m .joined=>q4 P G W∧y4 W.again=true∧W.kind=G.K (W.target.getD 0)∧2≤W.kind
 | .m .tP=>q4 P G W∧(y4 W.again=true→W.dy= .m .vu∧W.wait.how=1)∧(R3 W.again=true→W.dy= .c .Cs)
 | .m .qU=>q4 P G W∧R3 W.again=true
 | .m .rR=>q4 P G W∧R3 W.again=true∧W.wait.how=1
 | .m .register=>q4 P G W∧y4 W.again=true
 | .m .block=>q4 P G W∧∃o,W.step=some o∧SpT o
 | .m .HI=>q4 P G W
 | .m .stops=>q4 P G W∧(W.blocked=true→∀o,W.step=some o→SpT o)∧(match W.o8 with
  | .m .cancelled=>y4 W.again=true∧R1 G t
  | .Vo y k=>y<n∧k=W.again
  | .Bp y k=>(0≤y∧y<n)∧k=W.again
  | .c .HZ=>y4 W.again=true∧W.kind=G.K (W.target.getD 0)∧2≤W.kind
  | .c .BS=>W.again= .sh (.c .BS)
  | .c .qq=>W.again= .sh (.c .qq)
  |_=>False)
 | .aw y=>top∧qV P n t (.aw y)
 | .sh k=>top∧qV P n t (.sh k)
 |_=>False
def Wk.waits(W:Wk):Bool:=match W.cR with
 | .m .o7=>(match W.after with| .c .sJ=>true| .m .TH=>decide (W.none_= .m .nothing)| .m .Am=>decide (W.none_= .m .nothing)|_=>false)
 | .m .looking=>(match W.seen with| .c .sK=>true|_=>false)
 | .m .others=>decide (W.none_= .m .nothing)
 | .m .asked=>true
 | .m .tP=>true
 | .m .qU=>true
 | .m .rR=>true
 | .m .register=>true
 | .m .block=>true
 | .m .HI=>true
 | .m .stops=>true
 | .aw _=>true
 | .sh _=>true
 |_=>false
structure Eg (W:Wk):Prop where
 no:W.waits=false→W.bK=false∧W.blocked=false
 R4:W.bK=true→y4 W.again=true
 ag:W.bK=true∨W.blocked=true→(y4 W.cR=true∨R3 W.cR=true)→W.again=W.cR
def Wk.hold(W:Wk):List Nat:=(if W.cR= .m .start then [W.jc.toNat]else [])++W.stack
structure WT (l:Lc) (P:List ea) (bx:List Int) (ro:List Ro) (G:Gl) (i:Nat) (W:Wk):Prop where
 id:W.id=i
 lt:i<l.wa.length
 dq:W.dq=bx.getD i 0
 bk:Kf P G W.stack W.back
 dp:(W.stack.length:Int)≤l.deep
 hl:∀x∈W.hold,x<G.ts.length
 ct:G.err=0→cB l P bx ro G W
 fl:G.err=0→Eg W
 run:∀x∈W.hold,G.K x=1∨(2≤G.K x∧W.stack.head?=some x∧(W.cR= .m .asks∨W.cR= .m .gone))
 nd:W.hold.Nodup
structure uv (ro iI:List Ro) (G G':Gl) (hold:List Nat):Prop where
 ext:∃m,iI=ro++m
 n:G.ts.length≤G'.ts.length
 ts:∀x,x<G.ts.length→x ∉ hold→G'.ts[x]?=G.ts[x]?
 ids:∀x,x<G.ts.length→(G'.tk x).lN=(G.tk x).lN∧(G'.tk x).own=(G.tk x).own∧(G'.tk x).jt=(G.tk x).jt
 C:∃m,G'.C=G.C++m
 K0:∀x,x<G.ts.length→G'.K x=0→G.K x=0
 K1:∀x,x<G.ts.length→x ∉ hold→1≤G.K x→G'.K x=G.K x∧G'.V x=G.V x
 K2:∀x,x<G.ts.length→2≤G.K x→G'.K x=G.K x∧G'.V x=G.V x
 ask:∀s,Vy G s→Vy G' s
section
variable {l:Lc} {P:List ea} {bx:List Int} {ro iI ro2:List Ro} {G G' G2:Gl} {hold:List Nat} {W:Wk} {t:Tk} {n n' i:Nat} {s a:Int} {k:Kn}
theorem OA.qD{m:List Nd}(h:OA G.C s a)(hC:G'.C=G.C++m):OA G'.C s a:=by
 rw[hC];induction h with
 |refl h0 h1=>exact .refl h0 (by simp;omega)
 |up h0 _ ih=>
  refine .up ?_ ih;obtain⟨_,h1,h2⟩:=su h0;unfold nR;rw[if_pos h1,sY (kO.1 h2).1,h2]
theorem uv.tk(h:uv ro iI G G' hold){x:Nat}(hx:x<G.ts.length)(hn:x ∉ hold):G'.tk x=G.tk x:=by
 unfold Gl.tk;rw[h.ts x hx hn]
theorem Br.imp(h:Br P n t)(hn:n≤n'):Br P n' t:=⟨h.fi.imp λy hy=>⟨hy.1,ah⟩,h.kind⟩
theorem N6.imp(h:N6 P n t)(hn:n≤n'):N6 P n' t:={h with fi:=h.fi.imp λy hy=>⟨hy.1,ah⟩}
theorem qV.imp(h:qV P n t k)(hn:n≤n'):qV P n' t k:=by
 unfold qV at h ⊢;split at h
 ·exact h.imp hn
 ·exact⟨h.1.imp hn,h.2.1,h.2.2.1,ah⟩
 ·exact⟨h.1.imp hn,h.2⟩
 ·exact h
 ·exact h.elim
theorem R1.imp(h:R1 G t)(he:uv ro iI G G' hold)(ht:∃x,x<G.ts.length∧G.tk x=t):R1 G' t:=by
 obtain⟨b,h1,h2⟩:=h;obtain⟨m,hm⟩:=he.C;exact⟨b,h1.qD hm,he.ask b h2⟩
theorem Ef.imp{st:List Nat}(h:Ef P G st k)(he:uv ro iI G G' hold)(hs:∀x∈st,x<G.ts.length∧x ∉ hold):Ef P G' st k:=by
 cases st with
 |nil=>exact h
 |cons x st=>
  have h:qV P G.ts.length (G.tk x) k:=h;have hx:=hs x bh;show qV P G'.ts.length (G'.tk x) k;rw[he.tk hx.1 hx.2];exact h.imp he.n
theorem Kf.imp(he:uv ro iI G G' hold):∀{st:List Nat} {b:List Kn},Kf P G st b→(∀x∈st,x<G.ts.length∧x ∉ hold)→Kf P G' st b
 |[],[],_,_=>trivial
 |[],_::_,h,_=>h.elim
 |_::_,[],h,_=>h.elim
 |x::st,k::b,⟨h1,h2,h3⟩,hs=>⟨by have:=he.n;omega,h2.imp he λy hy=>hs y (by simp[hy]),Kf.imp he h3 λy hy=>hs y (by simp[hy])⟩
theorem q4.imp(h:q4 P G W)(he:uv ro iI G G' hold)(hs:∀x∈W.stack,x<G.ts.length∧x ∉ hold):q4 P G' W:=by
 obtain⟨h1,h2,h3⟩:=h;refine⟨h1,?_,h3⟩;obtain⟨x,st,e⟩:=List.exists_cons_of_ne_nil h1;rw[e]at h2 ⊢;have hx:=hs x (by rw[e];simp)
 show qV P G'.ts.length (G'.tk x) W.again;rw[he.tk hx.1 hx.2];exact qV.imp h2 he.n
theorem CQ.imp(h:CQ l P G W)(he:uv ro iI G G' hold)(hs:∀x∈W.stack,x<G.ts.length∧x ∉ hold):CQ l P G' W:=
 ⟨h.how,h.left,h.what.imp id λq=>⟨q.1.imp he hs,q.2⟩⟩
theorem cB.imp(h:cB l P bx ro G W)(he:uv ro iI G G' hold)(hs:∀x∈W.hold,x<G.ts.length∧x ∉ hold):cB l P bx iI G' W:=by
 have hst:∀x∈W.stack,x<G.ts.length∧x ∉ hold:=λx hx=>hs x (by unfold Wk.hold;simp[hx])
 have CR:W.stack≠ []→G'.tk (W.stack.headD 0)=G.tk (W.stack.headD 0)∧W.stack.headD 0<G.ts.length:=λhne=>by
  obtain⟨x,st,e⟩:=List.exists_cons_of_ne_nil hne;have hx:=hst x (by rw[e];simp)
  rw[e];exact⟨he.tk hx.1 hx.2,hx.1⟩
 have hn:=he.n;obtain⟨m,hm⟩:=he.ext;obtain⟨mC,hC⟩:=he.C;have hCl:G.C.length≤G'.C.length:=by rw[hC];simp
 have R5:=fun(q:q4 P G W)=>q.imp he hst;have hSe:=fun(q:CQ l P G W)=>q.imp he hst;have hOp:∀{u:Nat} {d:Int} {O:bw},BH l ro G.ts.length u d O→BH l iI G'.ts.length u d O:=λq=>by rw[hm];exact q.imp hn
 have hKy:∀{y:Nat},y<G.ts.length→2≤G.K y→G'.K y=G.K y:=λh1 h2=>(he.K2 _ h1 h2).1;have hTg:q4 P G W→y4 W.again=true→W.target.getD 0<G.ts.length:=λq r=>by
  obtain⟨h1,h2,h3⟩:=q;revert h2 h3 r;cases W.again<;>intro r h2 h3<;>first|exact h3.elim|cases r|skip
  rename_i y;rw[h3];exact h2.2.2.2
 have Jb:W.stack≠ []→Br P G.ts.length (G.tk (W.stack.headD 0))→Br P G'.ts.length (G'.tk (W.stack.headD 0)):=λa b=>by rw[(CR a).1];exact b.imp hn
 unfold cB at h ⊢;dsimp only at h ⊢;split at h
 ·exact h
 ·obtain⟨O,h1,h2⟩:=h;refine⟨O,h1,?_⟩;split at h2
  ·exact⟨h2.1,h2.2.1,hOp h2.2.2.1,h2.2.2.2⟩
  ·exact⟨h2.1,Jb h2.1 h2.2.1,⟨h2.2.2.1.1,by have:=h2.2.2.1.2;omega⟩,hOp h2.2.2.2.1,h2.2.2.2.2⟩
  ·exact⟨R5 h2.1,h2.2.1,h2.2.2.1,hOp h2.2.2.2.1,h2.2.2.2.2⟩
  ·obtain⟨a1,⟨u,b1,b2,b3,b4⟩,a3⟩:=h2;exact⟨hSe a1,⟨u,b1,b2,hOp b3,b4⟩,a3⟩
  ·obtain⟨a1,⟨u,b1,b2,b3,b4⟩,a3⟩:=h2;exact⟨hSe a1,⟨u,b1,b2,hOp b3,b4⟩,a3⟩
  ·exact h2.elim
 ·obtain⟨k,h1,h2,h3,h4,h5,h6⟩:=h;refine⟨k,h1,h2,⟨h3.1,ah⟩,?_,h5,?_⟩
  ·rw[(CR h5).1];exact h4.qD hC
  ·split at h6
   ·exact⟨Jb h5 h6.1,by rw[(CR h5).1];exact h6.2⟩
   ·exact⟨R5 h6.1,h6.2⟩
   ·exact Jb h5 h6
   ·exact h6.elim
 ·exact Ef.imp h he hst
 ·exact CQ.imp (W:={W with left:=[]}) h he hst
 ·exact h
 ·exact h
 ·exact h
 ·exact⟨⟨h.1.1,by have:=h.1.2;omega⟩,h.2.imp he hst⟩
 ·rename_i bP;have hc:=hs W.jc.toNat (by unfold Wk.hold;rw[if_pos bP];simp)
  exact⟨⟨h.1.1,by have:=h.1.2;omega⟩,h.2.1.imp he hst,by rw[he.tk hc.1 hc.2];exact h.2.2.imp hn⟩
 ·exact⟨h.1,Jb h.1 h.2⟩
 ·exact⟨h.1,Jb h.1 h.2.1,by rw[(CR h.1).1];exact h.2.2⟩
 ·exact⟨h.1,Jb h.1 h.2.1,by rw[(CR h.1).1];exact h.2.2.1,⟨h.2.2.2.1,by have:=h.2.2.2.2;omega⟩⟩
 ·exact⟨h.1,Jb h.1 h.2.1,⟨h.2.2.1,by have:=h.2.2.2;omega⟩⟩
 ·exact⟨h.1,Jb h.1 h.2.1,by rw[(CR h.1).1];exact h.2.2⟩
 ·exact⟨h.1,Jb h.1 h.2.1,by rw[(CR h.1).1];exact h.2.2⟩
 ·exact⟨h.1,Jb h.1 h.2.1,by rw[(CR h.1).1];exact h.2.2⟩
 ·exact⟨h.1,Jb h.1 h.2.1,by rw[(CR h.1).1];exact h.2.2⟩
 ·exact⟨h.1,Jb h.1 h.2.1,by rw[(CR h.1).1];exact h.2.2⟩
 ·exact⟨h.1,Jb h.1 h.2.1,by rw[(CR h.1).1];exact h.2.2⟩
 ·exact⟨h.1,Jb h.1 h.2.1,by rw[(CR h.1).1];exact h.2.2⟩
 ·exact⟨h.1,Jb h.1 h.2.1,by rw[(CR h.1).1];exact h.2.2⟩
 ·exact⟨h.1,by rw[(CR h.1).1];exact h.2⟩
 ·exact⟨h.1,by rw[(CR h.1).1];exact h.2⟩
 ·exact⟨h.1,by rw[(CR h.1).1];exact h.2⟩
 ·exact⟨h.1,by rw[(CR h.1).1];exact h.2⟩
 ·exact⟨R5 h.1,h.2⟩
 ·exact⟨R5 h.1,h.2.1,by rw[hKy (hTg h.1 h.2.1) (by rw[←h.2.2.1];exact h.2.2.2)];exact h.2.2.1,h.2.2.2⟩
 ·exact⟨R5 h.1,h.2⟩
 ·exact⟨R5 h.1,h.2⟩
 ·exact⟨R5 h.1,h.2⟩
 ·exact⟨R5 h.1,h.2⟩
 ·exact⟨R5 h.1,h.2⟩
 ·exact R5 h
 ·refine⟨R5 h.1,h.2.1,?_⟩;have h3:=h.2.2;split at h3
  ·refine⟨h3.1,?_⟩;have ht:=CR h.1.ne;rw[ht.1];exact h3.2.imp he ⟨_,ht.2,rfl⟩
  ·exact⟨by have:=h3.1;omega,h3.2⟩
  ·exact⟨⟨h3.1.1,by have:=h3.1.2;omega⟩,h3.2⟩
  ·exact⟨h3.1,by rw[hKy (hTg h.1 h3.1) (by rw[←h3.2.1];exact h3.2.2)];exact h3.2.1,h3.2.2⟩
  ·exact h3
  ·exact h3
  ·exact h3.elim
 ·exact⟨h.1,by rw[(CR h.1).1];exact qV.imp h.2 hn⟩
 ·exact⟨h.1,by rw[(CR h.1).1];exact qV.imp h.2 hn⟩
 ·exact h.elim
theorem WT.imp(h:WT l P bx ro G i W)(he:uv ro iI G G' hold)(hs:∀x∈W.hold,x ∉ hold)(her:G'.err=0→G.err=0):WT l P bx iI G' i W:=by
 have hst:∀x∈W.stack,x<G.ts.length∧x ∉ hold:=λx hx=>⟨h.hl x (by unfold Wk.hold;simp[hx]),hs x (by unfold Wk.hold;simp[hx])⟩
 refine⟨h.id,h.lt,h.dq,h.bk.imp he hst,h.dp,λx hx=>by have:=h.hl x hx;have:=he.n;omega,λe=>(h.ct (her e)).imp he λx hx=>⟨h.hl x hx,hs x hx⟩,λe=>h.fl (her e),λx hx=> ?_,h.nd⟩
 have h1:=h.run x hx;have h2:=(he.K1 x (h.hl x hx) (hs x hx) (by rcases h1 with q|q<;>omega)).1
 rw[h2];exact h1
theorem uv.trans(h:uv ro iI G G' hold)(k:uv iI ro2 G' G2 hold)(hn:G'.ts.length=G.ts.length∨∀x,x∈hold→x<G.ts.length):uv ro ro2 G G2 hold:=by
 have h1:=h.n;have h2:=k.n;refine⟨?_,ah,λx hx hn=>by rw[k.ts x ah hn,h.ts x hx hn],λx hx=> ?_,?_,λx hx q=>h.K0 x hx (k.K0 x ah q),λx hx hn q=> ?_,λx hx q=> ?_,λs q=>k.ask s (h.ask s q)⟩
 ·obtain⟨m,e⟩:=h.ext;obtain⟨m2,e2⟩:=k.ext;exact⟨m++m2,by rw[e2,e,List.append_assoc]⟩
 ·have a:=h.ids x hx;have b:=k.ids x ah;rw[b.1,b.2.1,b.2.2];exact a
 ·obtain⟨m,e⟩:=h.C;obtain⟨m2,e2⟩:=k.C;exact⟨m++m2,by rw[e2,e,List.append_assoc]⟩
 ·have a:=h.K1 x hx hn q;have b:=k.K1 x ah hn (by rw[a.1];exact q)
  exact⟨by rw[b.1,a.1],by rw[b.2,a.2]⟩
 ·have a:=h.K2 x hx q;have b:=k.K2 x ah (by rw[a.1];exact q)
  exact⟨by rw[b.1,a.1],by rw[b.2,a.2]⟩
end
def Ro.Jl:Ro→Prop
 | .fk _=>True
 | .fv _=>True
 | .ask _=>True
 |_=>False
section
variable {l:Lc} {P:List ea} {bx:List Int} {ro iI:List Ro} {G G':Gl} {hold:List Nat} {W W':Wk} {t t':Tk} {n i x:Nat} {s a v:Int} {r:Ro}
theorem Jc(h:Ty l ro G){nd:Nd}(hs:nR G.C s=some nd):kM ro nd.at_ (.ask s.toNat):=(h.sc _ _ (su hs).2.2).a
theorem acE{m:List Ro}(h:Ty l ro G)(hx:iI=ro++m){mt:List Tk}(hts:G'.ts=G.ts++mt){mc:List Nd}(hC:G'.C=G.C++mc)(hg:∀a r,kM ro a r→r.Jl→G'.M.get a=G.M.get a):uv ro iI G G' hold:=by
 have N5:∀x,x<G.ts.length→G'.tk x=G.tk x:=λx hx=>by unfold Gl.tk;rw[hts,sY hx]
 have hK:∀x,x<G.ts.length→G'.K x=G.K x∧G'.V x=G.V x:=λx hx=>by
  have ht:=h.pR hx;unfold Gl.K Gl.V;rw[N5 x hx,hg _ _ ht.k trivial,hg _ _ ht.v trivial];exact⟨rfl,rfl⟩
 refine⟨⟨m,hx⟩,by rw[hts];simp,λx hx _=>by rw[hts,sY hx],λx hx=>by rw[N5 x hx];exact⟨rfl,rfl,rfl⟩,⟨mc,hC⟩,λx hx q=>by rw[←(hK x hx).1];exact q,λx hx _ _=>hK x hx,λx hx _=>hK x hx,λs ⟨nd,h1,h2⟩=> ?_⟩
 refine⟨nd,?_,by rw[hg _ _ (Jc h h1) trivial];exact h2⟩
 obtain⟨_,h3,h4⟩:=su h1;unfold nR;rw[if_pos h3,hC,sY (kO.1 h4).1,h4]
theorem acF{M:bO}(h:Ty l ro G)(hg:∀a r,kM ro a r→r.Jl→M.get a=G.M.get a):uv ro ro G (G.mem M) hold:=acE (m:=[]) (mt:=[]) (mc:=[]) h bh (by simp[Gl.mem]) (by simp[Gl.mem]) hg
theorem aeE(h:Ty l ro G){wk:Int}:uv ro ro G (G.tick wk) hold:=acF h λ_ _ _ _=>rfl
theorem xm{M:bO}(h:Ty l ro G)(hM:M.cells=G.M.cells)(hL:kM ro a r)(hr:¬r.Jl):∀b s,kM ro b s→s.Jl→(M.put a v).get b=G.M.get b:=λb s hb hs=>by
 have hne:b≠a:=hb.ne hL (by rintro rfl;exact hr hs)
 rw[RX hL.1 hb.1 hne];unfold bO.get;rw[hM]
theorem agB(h:Ty l ro G){wk y:Int}(hL:kM ro a r)(hr:¬r.Jl):uv ro ro G (G.mem (G.M.ad wk a y)) hold:=acF h (xm h rfl hL hr)
theorem axw(hx:x<G.ts.length):(G.set x t').tk x=t':=by unfold Gl.tk Gl.set;dsimp only;rw[uw hx];rfl
theorem am2{y:Nat}(hn:y≠x):(G.set x t').tk y=G.tk y:=by unfold Gl.tk Gl.set;dsimp only;rw[rG (Ne.symm hn)]
theorem aul:(G.set x t').ts.length=G.ts.length:=by unfold Gl.set;simp
theorem acG(hx:x∈hold)(hl:x<G.ts.length)(h1:t'.lN=(G.tk x).lN)(h2:t'.own=(G.tk x).own)(h3:t'.jt=(G.tk x).jt):uv ro ro G (G.set x t') hold:=by
 have ids:∀y,y<G.ts.length→((G.set x t').tk y).lN=(G.tk y).lN∧((G.set x t').tk y).own=(G.tk y).own∧((G.set x t').tk y).jt=(G.tk y).jt:=λy hy=>by
  by_cases e:y=x
  ·subst e;rw[axw hl];exact⟨h1,h2,h3⟩
  ·rw[am2 e];exact⟨rfl,rfl,rfl⟩
 have hK:∀y,y<G.ts.length→(G.set x t').K y=G.K y∧(G.set x t').V y=G.V y:=λy hy=>by unfold Gl.K Gl.V;rw[(ids y hy).2.2];exact⟨rfl,rfl⟩
 refine⟨⟨[],bh⟩,by rw[aul];exact iN _,λy hy hn=> ?_,ids,⟨[],by simp[Gl.set]⟩,λy hy q=>by rw[←(hK y hy).1];exact q,λy hy _ _=>hK y hy,λy hy _=>hK y hy,λs q=>q⟩
 have e:y≠x:=λe=>hn (e▸hx);unfold Gl.set;dsimp only;rw[rG (Ne.symm e)]
structure Cx (l:Lc) (P:List ea) (bx:List Int) (ro:List Ro) (G:Gl) (i:Nat) (W:Wk):Prop where
 lc:aeA l
 lg:0≤l.log∧l.log≤8
 acc:qc P
 ty:Ty l ro G
 wt:WT l P bx ro G i W
 dq:∀v,v<l.wa.length→Z4 ro v (bx.getD v 0)
 err:G.err=0
structure rC (l:Lc) (P:List ea) (bx:List Int) (ro iI:List Ro) (G:Gl) (i:Nat) (W:Wk) (r:SW):Prop where
 ty:Ty l iI r.1
 BK:uv ro iI G r.1 W.hold
 wt:WT l P bx iI r.1 i r.2
 hd:∀x∈r.2.hold,x∈W.hold∨(x<G.ts.length∧G.K x=0)
 fr:∀x,G.ts.length≤x→x<r.1.ts.length→N6 P r.1.ts.length (r.1.tk x)
theorem Cx.caller(c:Cx l P bx ro G i W):G.M.caller W.id=true:=I9 c.ty.stp (by rw[c.wt.id];omega) (by rw[c.wt.id];have:=c.wt.lt;omega)
theorem Cx.ct(c:Cx l P bx ro G i W):cB l P bx ro G W:=c.wt.ct c.err
theorem Cx.fl(c:Cx l P bx ro G i W):Eg W:=c.wt.fl c.err
theorem Cx.can(c:Cx l P bx ro G i W)(h:kM ro a r):G.M.can W.id a=true:=h.can c.ty.len c.caller
theorem Cx.own(c:Cx l P bx ro G i W):Z4 ro i W.dq:=by rw[c.wt.dq];exact c.dq i c.wt.lt
theorem Cx.idn(c:Cx l P bx ro G i W):W.id.toNat=i:=by rw[c.wt.id];simp
theorem Cx.top(c:Cx l P bx ro G i W)(h:W.stack≠ []):Gz G W (W.stack.headD 0) (G.tk (W.stack.headD 0))∧W.stack.headD 0<G.ts.length:=by
 obtain⟨x,st,e⟩:=List.exists_cons_of_ne_nil h;have hx:x<G.ts.length:=c.wt.hl x (by unfold Wk.hold;rw[e];simp)
 rw[e];exact⟨⟨by rw[e];rfl,G.Ao hx⟩,hx⟩
theorem ku(h:W.cR≠ .m .start):W.hold=W.stack:=by unfold Wk.hold;rw[if_neg h];rfl
theorem acH{st:List Nat}{b:List Kn}(e:G'.ts=G.ts):Kf P G st b→Kf P G' st b:=by
 intro h;have hm:∀st k,Ef P G st k→Ef P G' st k:=λst k q=>by
  cases st with
  |nil=>exact q
  |cons y st=>show qV P G'.ts.length (G'.tk y) k;unfold Gl.tk;rw[e];exact q
 induction st generalizing b with
 |nil=>cases b<;>first|trivial|exact h.elim
 |cons y st ih=>
  cases b with
  |nil=>exact h.elim
  |cons k b=>exact⟨by rw[e];exact h.1,hm _ _ h.2.1,ih h.2.2⟩
theorem aum{st:List Nat}{b:List Kn}(hn:G.ts.length≤G'.ts.length)(e:∀y∈st,G'.tk y=G.tk y):Kf P G st b→Kf P G' st b:=by
 intro h;induction st generalizing b with
 |nil=>cases b<;>first|trivial|exact h.elim
 |cons y st ih=>
  cases b with
  |nil=>exact h.elim
  |cons k b=>
   refine⟨by have:=h.1;omega,?_,ih (λz hz=>e z (by simp[hz])) h.2.2⟩
   have h2:=h.2.1;cases st with
   |nil=>exact h2
   |cons z st=>
    have h2:qV P G.ts.length (G.tk z) k:=h2;show qV P G'.ts.length (G'.tk z) k;rw[e z bh];exact qV.imp h2 hn
theorem axx{y:Nat}{st:List Nat}{b:List Kn}(hn:G.ts.length≤G'.ts.length)(e:∀z∈st,G'.tk z=G.tk z):Kf P G (y::st) b→Kf P G' (y::st) b:=by
 intro h;cases b with
 |nil=>exact h.elim
 |cons k b=>
  refine⟨by have:=h.1;omega,?_,aum hn e h.2.2⟩
  have h2:=h.2.1;cases st with
  |nil=>exact h2
  |cons z st=>
   have h2:qV P G.ts.length (G.tk z) k:=h2;show qV P G'.ts.length (G'.tk z) k;rw[e z bh];exact qV.imp h2 hn
theorem aeF{r:SW}(c:Cx l P bx ro G i W)(ty:Ty l iI r.1)(BK:uv ro iI G r.1 W.hold)(hst:r.2.stack=W.stack)(hbk:r.2.back=W.back)(vq:r.2.id=W.id)(hdq:r.2.dq=W.dq)
  (uz:W.cR≠ .m .start∧W.cR≠ .m .asks∧W.cR≠ .m .gone) (E7:r.2.cR≠ .m .start) (etk:∀y∈W.stack.tail,r.1.tk y=G.tk y) (hK:∀y∈W.stack,r.1.K y=G.K y)
  (ct:r.1.err=0→cB l P bx iI r.1 r.2) (fl:r.1.err=0→Eg r.2) (fr:∀x,G.ts.length≤x→x<r.1.ts.length→N6 P r.1.ts.length (r.1.tk x)):rC l P bx ro iI G i W r:=by
 have e1:=ku uz.1;have e2:r.2.hold=W.hold:=by rw[ku E7,hst,e1]
 refine⟨ty,BK,⟨by rw[vq];exact c.wt.id,c.wt.lt,by rw[hdq];exact c.wt.dq,?_,by rw[hst];exact c.wt.dp,λx hx=> ?_,ct,fl,λx hx=> ?_,by rw[e2];exact c.wt.nd⟩,λx hx=> .inl (by rw[←e2];exact hx),fr⟩
 ·rw[hst,hbk];have hb:=c.wt.bk;cases hs:W.stack with
  |nil=>rw[hs]at hb;cases ZY:W.back with
   |nil=>trivial
   |cons k b=>rw[ZY]at hb;exact hb.elim
  |cons y st=>rw[hs]at hb etk;exact axx BK.n etk hb
 ·have:=c.wt.hl x (by rw[←e2];exact hx);have:=BK.n;omega
 ·rw[e2]at hx;have h1:=c.wt.run x hx;rw[hK x (by rw[←e1];exact hx)]
  rcases h1 with h1|⟨_,_,h1|h1⟩
  ·exact .inl h1
  ·exact absurd h1 uz.2.1
  ·exact absurd h1 uz.2.2
theorem aAG(h:Ty l ro G)(hts:∀y,y<G.ts.length→(G'.tk y).jt=(G.tk y).jt)(hg:∀a r,kM ro a r→r.Jl→G'.M.get a=G.M.get a){y:Nat}(hy:y<G.ts.length):G'.K y=G.K y:=by
 unfold Gl.K;rw[hts y hy,hg _ _ (h.pR hy).k trivial]
theorem Eh{r:SW}{m:List Ro}{mc:List Nd}(c:Cx l P bx ro G i W)(ty:Ty l iI r.1)(hx:iI=ro++m)(hts:r.1.ts=G.ts)(hC:r.1.C=G.C++mc)(hg:∀a s,kM ro a s→s.Jl→r.1.M.get a=G.M.get a)
  (hst:r.2.stack=W.stack) (hbk:r.2.back=W.back) (vq:r.2.id=W.id) (hdq:r.2.dq=W.dq) (uz:W.cR≠ .m .start∧W.cR≠ .m .asks∧W.cR≠ .m .gone) (E7:r.2.cR≠ .m .start) (ct:r.1.err=0→cB l P bx iI r.1 r.2) (fl:r.1.err=0→Eg r.2):rC l P bx ro iI G i W r:=by
 have N5:∀y,r.1.tk y=G.tk y:=λy=>by unfold Gl.tk;rw[hts]
 refine aeF c ty (acE (m:=m) (mt:=[]) c.ty hx (by rw[hts];simp) hC hg) hst hbk vq hdq uz E7 (λy _=>N5 y) (λy hy=> ?_) ct fl λx h1 h2=>by rw[hts]at h2;omega
 exact aAG c.ty (λz _=>by rw[N5 z]) hg (c.wt.hl y (by rw[ku uz.1];exact hy))
theorem aun{r:SW}{m:List Ro}{mc:List Nd}(c:Cx l P bx ro G i W)(hne:W.stack≠ [])(ty:Ty l iI r.1)(hx:iI=ro++m)(hts:r.1.ts=G.ts.set (W.stack.headD 0) t')(hC:r.1.C=G.C++mc)(hg:∀a s,kM ro a s→s.Jl→r.1.M.get a=G.M.get a)
  (h1:t'.lN=(G.tk (W.stack.headD 0)).lN) (h2:t'.own=(G.tk (W.stack.headD 0)).own) (h3:t'.jt=(G.tk (W.stack.headD 0)).jt)
  (hst:r.2.stack=W.stack) (hbk:r.2.back=W.back) (vq:r.2.id=W.id) (hdq:r.2.dq=W.dq) (uz:W.cR≠ .m .start∧W.cR≠ .m .asks∧W.cR≠ .m .gone) (E7:r.2.cR≠ .m .start) (ct:r.1.err=0→cB l P bx iI r.1 r.2) (fl:r.1.err=0→Eg r.2):rC l P bx ro iI G i W r:=by
 obtain⟨x,st,e⟩:=List.exists_cons_of_ne_nil hne;have hx0:W.stack.headD 0=x:=by rw[e];rfl
 rw[hx0]at hts h1 h2 h3;have hmem:x∈W.hold:=by rw[ku uz.1,e];simp
 have hl:=c.wt.hl x hmem;have hnd:=c.wt.nd;rw[ku uz.1,e]at hnd;have hlen:r.1.ts.length=G.ts.length:=by rw[hts];simp
 have N5:∀y,y≠x→r.1.tk y=G.tk y:=λy hy=>by unfold Gl.tk;rw[hts,rG (Ne.symm hy)]
 have htx:r.1.tk x=t':=by unfold Gl.tk;rw[hts,uw hl];rfl
 have ids:∀y,y<G.ts.length→(r.1.tk y).lN=(G.tk y).lN∧(r.1.tk y).own=(G.tk y).own∧(r.1.tk y).jt=(G.tk y).jt:=λy hy=>by
  by_cases e:y=x
  ·subst e;rw[htx];exact⟨h1,h2,h3⟩
  ·rw[N5 y e];exact⟨rfl,rfl,rfl⟩
 have hK:∀y,y<G.ts.length→r.1.K y=G.K y∧r.1.V y=G.V y:=λy hy=>by
  have ht:=c.ty.pR hy;unfold Gl.K Gl.V;rw[(ids y hy).2.2,hg _ _ ht.k trivial,hg _ _ ht.v trivial];exact⟨rfl,rfl⟩
 refine aeF c ty ⟨⟨m,hx⟩,ah,λy hy hn=> ?_,ids,⟨mc,hC⟩,λy hy q=>by rw[←(hK y hy).1];exact q,λy hy _ _=>hK y hy,λy hy _=>hK y hy,λs ⟨nd,h1,h2⟩=> ?_⟩ hst hbk vq hdq uz E7 (λy hy=> ?_) (λy hy=> ?_) ct fl λx h1 h2=>by omega
 ·rw[hts,rG (by rintro rfl;exact hn hmem)]
 ·refine⟨nd,?_,by rw[hg _ _ (Jc c.ty h1) trivial];exact h2⟩
  obtain⟨_,h3,h4⟩:=su h1;unfold nR;rw[if_pos h3,hC,sY (kO.1 h4).1,h4]
 ·rw[e]at hy;exact N5 y (by rintro rfl;exact(List.nodup_cons.1 hnd).1 hy)
 ·exact(hK y (c.wt.hl y (by rw[ku uz.1];exact hy))).1
theorem agC(c:Cx l P bx ro G i W)(h0:W.waits=false)(h1:W'.bK=W.bK)(h2:W'.blocked=W.blocked):Eg W':=by
 obtain⟨a,b⟩:=c.fl.no h0;rw[a]at h1;rw[b]at h2;exact⟨λ_=>⟨h1,h2⟩,λq=>by rw[h1]at q;(cases q),λq=>by rw[h1,h2]at q;rcases q with q|q<;>(cases q)⟩
theorem R6(c:Cx l P bx ro G i W)(h1:W'.bK=W.bK)(h2:W'.blocked=W.blocked)(h3:W'.again=W.again)(h4:W'.waits=true)(h5:y4 W'.cR=false∧R3 W'.cR=false):Eg W':=
 ⟨λq=>by rw[h4]at q;(cases q),λq=>by rw[h3];exact c.fl.R4 (by rw[←h1];exact q),λ_ q=>by rw[h5.1,h5.2]at q;rcases q with q|q<;>(cases q)⟩
end
section
variable {l:Lc} {P:List ea} {bx:List Int} {ro iI:List Ro} {G G':Gl} {hold:List Nat} {W W':Wk} {t t':Tk} {n i x:Nat} {s a v:Int} {r:Ro}
theorem Xx{u:Nat}{d y:Int}{nx:Nat}(hn:1≤n)(hy:0≤y∧y<n)(h:nx=0∨nx=8∨nx=15):BH l ro n u d (bw.CT d l.log y nx):=by
 unfold bw.CT;have h0:xb 0:=⟨ah,ah⟩;exact⟨rfl,rfl,h0,h0,hy,⟨bh,by simp;omega⟩,by dsimp only;omega,by dsimp only;rcases h with h|h|h<;>subst h<;>rfl,λq=>by dsimp only at q;omega,λ_=>rfl,λq=>by dsimp only at q;omega,λq=>by dsimp only at q;omega,λq=>by dsimp only at q;omega⟩
theorem OA.snoc{C:List Nd}{nd:Nd}(h:OA C s a)(ha:nR C a=some nd)(h0:0≤nd.parent)(h1:nd.parent<C.length):OA C s nd.parent:=by
 induction h with
 |refl _ _=>exact .up ha (.refl h0 h1)
 |up h2 _ ih=>exact .up h2 (ih ha)
theorem aeG{nd:Nd}{pl:Pl}{tm:Int×List (Int×Int)}{wk:Int}(h:Ty l ro G)(hr:G.M.room 2=true)(hp:0≤nd.parent∧nd.parent<G.C.length)(hn:0≤nd.nest∧nd.nest≤32)(ha:nd.at_=(G.M.cells.length:Nat))
  (ck:CK tm) (PT:∀y∈tm.2,y.2<G.C.length+1):Ty l (ro++[.ask G.C.length,.liv G.C.length]) {G with M:=(G.M.tick wk).grow 2,C:=G.C++[nd],P:=G.P++[pl],time:=tm}:=by
 have h2:=h.alh (wk:=wk) (m:=[.ask G.C.length,.liv G.C.length]) (n:=2) ah rfl hr (λr hr=>by
  simp only[List.mem_cons,List.not_mem_nil,or_false]at hr;rcases hr with rfl|rfl
  ·exact .inl rfl
  ·trivial)
 have hl:(G.C++[nd]).length=G.C.length+1:=by simp
 refine{h2 with sc:=λs x hs=> ?_,tk:=λy t ht=> ?_,c1:=by show 1≤(G.C++[nd]).length;omega,pl:=by show(G.P++[pl]).length=(G.C++[nd]).length;rw[hl,tW,h.pl];rfl,ck:=ck,PT:=by show∀y∈tm.2,y.2<(G.C++[nd]).length;rw[hl];intro y hy;have:=PT y hy;omega,cnt:= ?_}
 ·have hs:(G.C++[nd])[s]?=some x:=hs;by_cases e:s<G.C.length
  ·rw[sY e]at hs;have:=h.sc s x hs;exact{this with a:=this.a.qD,b:=this.b.qD}
  ·have hlt:=(kO.1 hs).1;have e2:s=G.C.length:=ah;subst e2;rw[uK ah]at hs;simp at hs;subst hs;refine⟨kM.new (k:=0) rfl (by rw[ha,h.len];rfl),kM.new (k:=1) rfl (by rw[ha,h.len];omega),hn,λ_=>hp,λq=>by have:=h.c1;omega⟩
 ·have:=h.tk y t ht;show TI _ (G.C++[nd]).length y t;rw[hl];exact{this with k:=this.k.qD,v:=this.v.qD,w:=this.w.qD,Z3:=⟨this.Z3.1,by have:=this.Z3.2;omega⟩,own:=⟨this.own.1,by have:=this.own.2;omega⟩,cI:=λp hp=>⟨(this.cI p hp).1,by have:=(this.cI p hp).2;omega⟩,sl:=by have:=this.sl;omega}
 ·show 2*(G.C++[nd]).length+3*G.ts.length≤((G.M.tick wk).grow 2).cells.length;have:=SE (M:=G.M.tick wk) (n:=2) ah;simp only[RY]at this;have:=h.cnt;omega
theorem acI{T:List Kt}{p:Int}:(GX T p).length=T.length+1:=by unfold GX;split<;>simp
theorem aeH{T:List Kt}{p:Int}{t:Kt}(h:Gq T p=some t)(j:Nat):(GX T p)[j]?=if j=T.length then some ⟨p,t.kids.length,[]⟩else if j=p.toNat then some {t with kids:=t.kids++[(T.length:Int)]}else T[j]?:=by
 obtain⟨_,h0,h1⟩:=xu h;have hp:=(kO.1 h1).1;unfold GX;rw[h];dsimp only;split
 ·rename_i e;subst e;rw[uK bh];simp
 ·rename_i e;by_cases hj:j<T.length
  ·rw[sY (by simpa using hj)]
   split
   ·rename_i e2;subst e2;rw[uw hp]
   ·rename_i e2;rw[rG (Ne.symm e2)]
  ·rw[List.getElem?_eq_none (by simp;omega)]
   rw[if_neg ah,List.getElem?_eq_none ah]
theorem ao9{T:List Kt}{p:Int}{t:Kt}(hT:abK T)(h:Gq T p=some t):abK (GX T p):=by
 obtain⟨_,h0,h1⟩:=xu h;have hp:=(kO.1 h1).1;intro j y hy;rw[aeH h]at hy;split at hy
 ·rename_i e;subst e;cases hy;exact⟨by dsimp only;omega,by dsimp only;omega,by dsimp only;omega⟩
 ·split at hy
  ·rename_i e;subst e;cases hy;exact hT _ t h1
  ·exact hT j y hy
theorem aiY{T:List Kt}{p:Int}{t:Kt}(hk:∀(i:Nat) x,T[i]?=some x→x.kids.length≤T.length)(h:Gq T p=some t):∀(i:Nat) x,(GX T p)[i]?=some x→x.kids.length≤(GX T p).length:=by
 obtain⟨_,h0,h1⟩:=xu h;intro j y hy;rw[acI];rw[aeH h]at hy;split at hy
 ·cases hy;simp
 ·split at hy
  ·cases hy;have:=hk _ t h1;simp;omega
  ·have:=hk j y hy;omega
theorem auo{wk parent lN own:Int}{f:List Int}{kt:Kt}(h:Ty l ro G)(hr:G.M.room 3=true)(Zu:Gq G.T parent=some kt)(hi:0≤lN∧lN<G.C.length)(ho:0≤own∧own<G.C.length):
  Ty l (ro++[.fk G.ts.length,.fv G.ts.length,.fw G.ts.length]) (G.more wk parent lN own f):=by
 have h2:=h.alh (wk:=wk) (m:=[.fk G.ts.length,.fv G.ts.length,.fw G.ts.length]) (n:=3) ah rfl hr (λr hr=>by
  simp only[List.mem_cons,List.not_mem_nil,or_false]at hr;rcases hr with rfl|rfl|rfl
  ·exact⟨ah,ah⟩
  ·trivial
  ·trivial)
 unfold Gl.more;have hc:=h.c1;generalize hnt:(⟨(G.T.length:Nat),lN,own,(G.M.cells.length:Nat),f,ByteArray.mk #[],[],[own],0,0⟩:Tk)=nt;have hl:(G.ts++[nt]).length=G.ts.length+1:=by simp
 refine{h2 with val:=λa r hL=> ?_,tk:=λy t ht=> ?_,t1:=by show 1≤(G.ts++[nt]).length;omega,pl:=by show(List.set _ _ _).length=_;rw[List.length_set];exact h.pl,kt:=ao9 h.kt Zu,kl:=by show(GX G.T parent).length=(G.ts++[nt]).length;rw[acI,hl,h.kl],kk:=aiY h.kk Zu,cnt:= ?_}
 ·show Ee l _ (G.ts++[nt]).length r (((G.M.tick wk).grow 3).get a);have h3:Ee l _ G.ts.length r (((G.M.tick wk).grow 3).get a):=h2.val a r hL;have:=Ee.qD (m:=[]) h3 (by omega:G.ts.length≤(G.ts++[nt]).length)
  rwa[List.append_nil]at this
 ·have ht:(G.ts++[nt])[y]?=some t:=ht;by_cases e:y<G.ts.length
  ·rw[sY e]at ht;have:=h.tk y t ht;exact{this with k:=this.k.qD,v:=this.v.qD,w:=this.w.qD}
  ·have hlt:=(kO.1 ht).1;have e2:y=G.ts.length:=ah;subst e2;rw[uK ah]at ht;simp at ht;subst ht;subst hnt;refine⟨by show((G.T.length:Nat):Int)=_;rw[h.kl],kM.new (k:=0) rfl (by show((G.M.cells.length:Nat):Int)=_;rw[h.len];rfl),kM.new (k:=1) rfl (by show((G.M.cells.length:Nat):Int)+1=_;rw[h.len];omega),kM.new (k:=2) rfl (by show((G.M.cells.length:Nat):Int)+2=_;rw[h.len];omega),hi,ho,bh,Nat.zero_le 1,by simpa using hc⟩
 ·show 2*G.C.length+3*(G.ts++[nt]).length≤((G.M.tick wk).grow 3).cells.length;have:=SE (M:=G.M.tick wk) (n:=3) ah;simp only[RY]at this;have:=h.cnt;omega
structure Nx (l:Lc) (P:List ea) (bx:List Int) (ro:List Ro) (G:Gl) (W W':Wk):Prop where
 st:W'.stack=W.stack
 bk:W'.back=W.back
 id:W'.id=W.id
 dq:W'.dq=W.dq
 ns:W'.cR≠ .m .start
 ct:cB l P bx ro G W'
 fl:Eg W'
theorem oG(h1:W'.bK=false)(h2:W'.blocked=false):Eg W':=
 ⟨λ_=>⟨h1,h2⟩,λq=>by rw[h1]at q;(cases q),λq=>by rw[h1,h2]at q;rcases q with q|q<;>(cases q)⟩
theorem Zx(h:Eg W)(h1:W'.bK=W.bK)(h2:W'.blocked=W.blocked)(h3:W'.again=W.again)(h4:W'.waits=true)(h5:y4 W'.cR=false∧R3 W'.cR=false):Eg W':=
 ⟨λq=>by rw[h4]at q;(cases q),λq=>by rw[h3];exact h.R4 (by rw[←h1];exact q),λ_ q=>by rw[h5.1,h5.2]at q;rcases q with q|q<;>(cases q)⟩
theorem apa(vq:W.id<16)(hs:W.stack=[])(hw:W.wait.how=1)(h1:W.bK=false)(h2:W.blocked=false):Nx l P bx ro G W (yL l G W).2∧(yL l G W).1=G:=by
 unfold yL;dsimp only;refine⟨?_,rfl⟩;split
 ·exact⟨rfl,rfl,rfl,rfl,by simp[Wk.go],by unfold cB Wk.go;exact hs,oG h1 h2⟩
 split
 ·exact⟨rfl,rfl,rfl,rfl,bh,by unfold cB;exact⟨hs,hw,_,rfl,by unfold SpT jz.CT;exact⟨bh,vq,bh⟩⟩,oG h1 h2⟩
 ·exact⟨rfl,rfl,rfl,rfl,by simp[Wk.go],by unfold cB Wk.go;exact⟨hs,hw⟩,oG h1 h2⟩
theorem q4.cases(h:q4 P G W):(∃y,W.again= .aw y∧W.target=some y∧qV P G.ts.length (G.tk (W.stack.headD 0)) (.aw y))∨(∃k,W.again= .sh k∧W.target=none∧W.pM=k∧qV P G.ts.length (G.tk (W.stack.headD 0)) (.sh k)):=by
 obtain⟨h1,h2,h3⟩:=h;revert h2 h3;cases W.again<;>intro h2 h3<;>first|exact h3.elim|skip
 ·exact .inl ⟨_,rfl,h3,h2⟩
 ·exact .inr ⟨_,rfl,h3.1,h3.2,h2⟩
theorem q4.of(h:q4 P G W)(h1:W'.stack=W.stack)(h2:W'.again=W.again)(h3:W'.target=W.target)(h4:W'.pM=W.pM):q4 P G W':=by
 obtain⟨a,b,c⟩:=h;exact⟨by rw[h1];exact a,by rw[h1,h2];exact b,by rw[h2,h3,h4];exact c⟩
theorem aiZ(ha:q4 P G W)(hw:W.wait.how=1)(hf:Eg W)(h0:W.waits=true):Nx l P bx ro G W (nothing G W).2∧(nothing G W).1=G:=by
 unfold nothing;dsimp only;refine⟨?_,rfl⟩;split
 ·have ct:cB l P bx ro G {W with cR:=W.again}:=by
   rcases ha.cases with⟨y,h1,h2,h3⟩|⟨k,h1,h2,h3,h4⟩
   ·unfold cB;rw[h1];exact⟨ha.ne,h3⟩
   ·unfold cB;rw[h1];exact⟨ha.ne,h4⟩
  refine⟨rfl,rfl,rfl,rfl,?_,ct,?_⟩
  ·rcases ha.cases with⟨y,h1,_⟩|⟨k,h1,_⟩<;>dsimp only<;>rw[h1] <;>simp
  ·refine⟨λq=> ?_,hf.R4,λ_ _=>rfl⟩;rcases ha.cases with⟨y,h1,_⟩|⟨k,h1,_⟩<;>unfold Wk.waits at q<;>dsimp only at q<;>rw[h1]at q<;>cases q
 split
 ·rename_i hb;have hb:W.target.isSome=true:=by simp at hb;exact hb.1
  refine⟨rfl,rfl,rfl,rfl,by simp[Wk.go],?_,Zx hf rfl rfl rfl rfl ⟨rfl,rfl⟩⟩
  unfold cB Wk.go;refine⟨ha.of rfl rfl rfl rfl,?_⟩;rcases ha.cases with⟨y,h1,_⟩|⟨k,h1,h2,_⟩
  ·dsimp only;rw[h1];rfl
  ·rw[h2]at hb;cases hb
 split
 ·exact⟨rfl,rfl,rfl,rfl,bh,by unfold cB;exact ha.of rfl rfl rfl rfl,Zx hf rfl rfl rfl rfl ⟨rfl,rfl⟩⟩
 ·exact⟨rfl,rfl,rfl,rfl,bh,by unfold cB;exact⟨ha.of rfl rfl rfl rfl,_,rfl,by unfold SpT jz.CT;simp⟩,Zx hf rfl rfl rfl rfl ⟨rfl,rfl⟩⟩
theorem Vz(Z5:1≤G.ts.length)(vq:W.id=i)(h16:i<16)(hS:CQ l P G W)(hf:Eg W)(h0:W.none_= .m .nothing→W.waits=true)(h2:W.stack=[]→W.bK=false∧W.blocked=false):
  Nx l P bx ro G W (Kc l G W t bx).2∧(Kc l G W t bx).1=G:=by
 unfold Kc;cases hl:W.left with
 |nil=>
  dsimp only;unfold akL;rcases hS.what with⟨a1,a2,a3,a4⟩|⟨a1,a2,a3,a4⟩
  ·rw[if_pos a4];exact apa ah a1 hS.how (h2 a1).1 (h2 a1).2
  ·rw[if_neg (by rw[a4];simp)];exact aiZ a1 hS.how hf (h0 a4)
 |cons j r=>
  dsimp only;have hj:=hS.left j (by rw[hl];simp)
  refine⟨⟨rfl,rfl,rfl,rfl,by simp[Wk.AG],?_,?_⟩,rfl⟩
  ·unfold cB Wk.AG;refine⟨_,rfl,⟨hS.how,λj' hj'=>hS.left j' (by rw[hl];simp[hj']),?_⟩,⟨j.toNat,ah,?_,Xx Z5 ⟨ah,ah⟩ ah,rfl⟩,by show 15≤18;omega⟩
   ·rcases hS.what with⟨a1,a2,a3,a4⟩|⟨a1,a2,a3,a4⟩
    ·exact .inl ⟨a1,a2,a3,a4⟩
    ·exact .inr ⟨a1.of rfl rfl rfl rfl,a2,a3,a4⟩
   ·have:=hj.2.2;show j.toNat≠W.id.toNat;rw[vq]at this ⊢;omega
  ·rcases hS.what with⟨a1,a2,a3,a4⟩|⟨a1,a2,a3,a4⟩
   ·exact oG (h2 a1).1 (h2 a1).2
   ·exact Zx hf rfl rfl rfl (by unfold Wk.waits Wk.AG;dsimp only;rw[a4];rfl) ⟨rfl,rfl⟩
theorem ai0(vq:t.id=((W.stack.headD 0:Nat):Int))(ha:q4 P G W)(hw:W.wait.how=1)(hf:Eg W):Nx l P bx ro G W (vu G W t).2∧(vu G W t).1=G:=by
 unfold vu;dsimp only;refine⟨⟨rfl,rfl,rfl,rfl,by simp[Wk.search],?_,Zx hf rfl rfl rfl rfl ⟨rfl,rfl⟩⟩,rfl⟩
 unfold cB Wk.search;exact⟨hw,bh,.inr ⟨ha.of rfl rfl rfl rfl,by dsimp only;rw[vq],rfl,rfl⟩⟩
theorem R7{k:Kn}(ha:q4 P G W)(hf:Eg W)(hk:match k with
  | .m .cancelled=>y4 W.again=true∧R1 G (G.tk (W.stack.headD 0))
  | .Vo y k=>y<G.ts.length∧k=W.again
  | .Bp y k=>(0≤y∧y<G.ts.length)∧k=W.again
  | .c .HZ=>y4 W.again=true∧W.kind=G.K (W.target.getD 0)∧2≤W.kind
  | .c .BS=>W.again= .sh (.c .BS)
  | .c .qq=>W.again= .sh (.c .qq)
  |_=>False):Nx l P bx ro G W (W.stop k):=by
 refine⟨rfl,rfl,rfl,rfl,by simp[Wk.stop],?_,Zx hf rfl rfl rfl rfl ⟨rfl,rfl⟩⟩
 unfold cB Wk.stop;exact⟨ha.of rfl rfl rfl rfl,λ_ o ho=>by(cases ho),hk⟩
theorem aeI{y:Int}(ha:q4 P G W)(hf:Eg W)(hy:0≤y∧y<G.ts.length):Nx l P bx ro G W (Bo G W y).2∧(Bo G W y).1=G:=by
 unfold Bo;exact⟨R7 (k:= .Bp y W.again) ha hf ⟨hy,rfl⟩,rfl⟩
theorem R8{y:Int}{k:Kn}(h1:W.bK=false)(h2:W.blocked=false)(hy:0≤y∧y<G.ts.length)(hk:Ef P G W.stack k):Nx l P bx ro G W (W.G3 y k):=
 ⟨rfl,rfl,rfl,rfl,by simp[Wk.G3],by unfold cB Wk.G3;exact⟨hy,hk⟩,oG h1 h2⟩
theorem Zy(vq:t.id=((W.stack.headD 0:Nat):Int))(ha:q4 P G W)(hf:Eg W)(h1:y4 W.again=true→W.dy= .m .vu∧W.wait.how=1)(h2:R3 W.again=true→W.dy= .c .Cs):Nx l P bx ro G W (dy G W t).2∧(dy G W t).1=G:=by
 unfold dy;rcases ha.cases with⟨y,e,_⟩|⟨k,e,_⟩
 ·have:=h1 (by rw[e];rfl)
  rw[if_pos this.1];exact ai0 vq ha this.2 hf
 ·have:=h2 (by rw[e];rfl)
  rw[if_neg (by rw[this];simp)]
  refine⟨⟨rfl,rfl,rfl,rfl,by simp[Wk.go],?_,Zx hf rfl rfl rfl rfl ⟨rfl,rfl⟩⟩,rfl⟩
  unfold cB Wk.go;exact⟨ha.of rfl rfl rfl rfl,by dsimp only;rw[e];rfl⟩
theorem Xy{k:Kn}(hne:W.stack≠ [])(hk:qV P G.ts.length (G.tk (W.stack.headD 0)) (.sh k))(hf:W.bK=false)(hf2:W.blocked=true→W.again= .sh k):Nx l P bx ro G W (shut W k t):=by
 refine⟨rfl,rfl,rfl,rfl,by simp[shut,Wk.drain],?_,?_⟩
 ·unfold cB shut Wk.drain;exact⟨⟨hne,hk,rfl,rfl⟩,λq=>by(cases q),λ_=>rfl⟩
 ·exact⟨λq=>by unfold Wk.waits shut Wk.drain at q;(cases q),λq=>by rw[show(shut W k t).bK=W.bK from rfl,hf]at q;(cases q),λ_ q=>by rcases q with q|q<;>(cases q)⟩
theorem N7(hne:W.stack≠ [])(ht:G.tk (W.stack.headD 0)=t)(he:Ends t)(h1:W.bK=false)(h2:W.blocked=false):Nx l P bx ro G W (unwind W t):=by
 unfold unwind;split
 ·rename_i h0;refine⟨rfl,rfl,rfl,rfl,by simp[Wk.go],?_,oG h1 h2⟩
  unfold cB Wk.go;dsimp only;rw[ht];exact⟨hne,he,List.eq_nil_of_length_eq_zero h0⟩
 ·rename_i h0;exact Xy hne (by rw[ht];exact⟨he,λq=>h0 (by rw[q];rfl)⟩) h1 (λq=>by rw[h2]at q;cases q)
end
section
variable {l:Lc} {P:List ea} {bx:List Int} {ro iI:List Ro} {G G':Gl} {hold:List Nat} {W W' W1:Wk} {t t':Tk} {n i x:Nat} {s a v:Int} {r:Ro}
abbrev eo(W:Wk):Prop:=W.cR≠ .m .start∧W.cR≠ .m .asks∧W.cR≠ .m .gone
theorem agD{r:SW}{m:List Ro}{mc:List Nd}(c:Cx l P bx ro G i W)(ty:Ty l iI r.1)(hx:iI=ro++m)(hts:r.1.ts=G.ts)(hC:r.1.C=G.C++mc)(hg:∀a s,kM ro a s→s.Jl→r.1.M.get a=G.M.get a)
  (uz:eo W) (h1:W1.stack=W.stack∧W1.back=W.back∧W1.id=W.id∧W1.dq=W.dq) (nx:r.1.err=0→Nx l P bx iI r.1 W1 r.2) (hs:r.2.stack=W1.stack∧r.2.back=W1.back∧r.2.id=W1.id∧r.2.dq=W1.dq∧r.2.cR≠ .m .start):rC l P bx ro iI G i W r:=
 Eh c ty hx hts hC hg (by rw[hs.1,h1.1]) (by rw[hs.2.1,h1.2.1]) (by rw[hs.2.2.1,h1.2.2.1]) (by rw[hs.2.2.2.1,h1.2.2.2]) uz hs.2.2.2.2 (λe=>(nx e).ct) (λe=>(nx e).fl)
theorem sM{r:SW}(c:Cx l P bx ro G i W)(hr:r.1=G∨r.1=G.tick W.id)(uz:eo W)(h1:W1.stack=W.stack∧W1.back=W.back∧W1.id=W.id∧W1.dq=W.dq)(nx:Nx l P bx ro r.1 W1 r.2):rC l P bx ro ro G i W r:=by
 have ty:Ty l ro r.1:=by rcases hr with e|e<;>rw[e];exact c.ty;exact c.ty.tick _
 refine agD (m:=[]) (mc:=[]) c ty bh ?_ ?_ (λa s _ _=> ?_) uz h1 (λ_=>nx) ⟨nx.st,nx.bk,nx.id,nx.dq,nx.ns⟩
 ·rcases hr with e|e<;>rw[e];rfl
 ·rcases hr with e|e<;>rw[e,List.append_nil];rfl
 ·rcases hr with e|e<;>rw[e];rfl
theorem Cx.tt(c:Cx l P bx ro G i W):Ty l ro (G.tick W.id):=c.ty.tick _
theorem axy(c:Cx l P bx ro G i W)(bP:W.cR= .m .rest):rC l P bx ro ro G i W (rest l G W):=by
 have ct:=c.ct;unfold cB at ct;rw[bP]at ct;dsimp only at ct;refine sM (W1:=W) c (.inr rfl) (by rw[eo,bP];decide) ⟨rfl,rfl,rfl,rfl⟩ ⟨rfl,rfl,rfl,rfl,by simp[rest,Wk.AG],?_,agC c (by unfold Wk.waits;rw[bP]) rfl rfl⟩
 unfold cB rest Wk.AG;exact⟨_,rfl,ct,rfl,Xx c.ty.t1 ⟨ah,by have:=c.ty.t1;show(0:Int)<G.ts.length;omega⟩ ah,rfl⟩
theorem axz(c:Cx l P bx ro G i W)(bP:W.cR= .m .tell):rC l P bx ro ro G i W (N2 l G W):=by
 have ct:=c.ct;unfold cB at ct;rw[bP]at ct;dsimp only at ct;have hf:=c.fl.no (by unfold Wk.waits;rw[bP])
 have ty:Ty l ro (N2 l G W).1:=c.ty.ad c.ty.told trivial;have ct2:cB l P bx ro (N2 l G W).1 (N2 l G W).2∧W.said≠ .m .start:=by
  unfold N2 cB;dsimp only;unfold Ef at ct;cases hs:W.stack with
  |nil=>rw[hs]at ct;dsimp only at ct;rw[ct];exact⟨rfl,bh⟩
  |cons y st=>
   rw[hs]at ct;dsimp only at ct;have YP:=ct;unfold qV at ct;split at ct
   ·rename_i e;rw[e];exact⟨⟨bh,ct⟩,bh⟩
   ·rename_i e;rw[e];rw[e]at YP;exact⟨⟨bh,YP⟩,bh⟩
   ·rename_i e;rw[e];rw[e]at YP;exact⟨⟨bh,YP⟩,bh⟩
   ·rename_i e;rw[e];rw[e]at YP;exact⟨⟨bh,YP⟩,bh⟩
   ·exact ct.elim
 exact Eh (m:=[]) (mc:=[]) c ty bh rfl (by rw[List.append_nil];rfl) (xm c.ty rfl c.ty.told (λq=>q)) rfl rfl rfl rfl (by rw[bP];decide) ct2.2 (λ_=>ct2.1) (λ_=>oG hf.1 hf.2)
theorem aAI(c:Cx l P bx ro G i W)(bP:W.cR= .m .RN):rC l P bx ro ro G i W (RN l G W):=by
 have ct:=c.ct;unfold cB at ct;rw[bP]at ct;dsimp only at ct;exact Eh (m:=[]) (mc:=[]) c (c.ty.ad c.ty.idle trivial) bh rfl (by rw[List.append_nil];rfl) (xm c.ty rfl c.ty.idle (λq=>q)) rfl rfl rfl rfl (by rw[bP];decide) (by simp[RN]) (λ_=>by unfold cB RN;exact ct.1) (λ_=>agC c (by unfold Wk.waits;rw[bP]) rfl rfl)
theorem axA(c:Cx l P bx ro G i W)(bP:W.cR= .m .I0):rC l P bx ro ro G i W (I0 l G W):=by
 have ct:=c.ct;unfold cB at ct;rw[bP]at ct;dsimp only at ct;exact Eh (m:=[]) (mc:=[]) c (c.ty.ad c.ty.idle trivial) bh rfl (by rw[List.append_nil];rfl) (xm c.ty rfl c.ty.idle (λq=>q)) rfl rfl rfl rfl (by rw[bP];decide) (by simp[I0]) (λ_=>by unfold cB I0;exact ct) (λ_=>agC c (by unfold Wk.waits;rw[bP]) rfl rfl)
theorem axB{a j:Int}(ha:0≤a∧a<65536)(hj:0≤j∧j<16):0≤Jn .i64 a (sx .i64 1 j)∧Jn .i64 a (sx .i64 1 j)<65536:=by
 obtain⟨x,rfl⟩:=Int.eq_ofNat_of_zero_le ha.1;obtain⟨y,rfl⟩:=Int.eq_ofNat_of_zero_le hj.1;have hs:∀y:Nat,y<16→sx .i64 1 (y:Int)=((2 ^ y:Nat):Int):=gD;rw[hs y ah];have ar0:∀a b:Int,Jn .i64 a b=IntKind.i64.wrap ((BitVec.ofInt 64 a ^^^ BitVec.ofInt 64 b).toNat:Nat):=λ_ _=>rfl;rw[ar0,BitVec.ofInt_natCast,BitVec.ofInt_natCast,BitVec.toNat_xor,BitVec.toNat_ofNat,BitVec.toNat_ofNat];have hy2:2 ^ y<2 ^ 16:=Nat.pow_lt_pow_right ah ah;rw[Nat.mod_eq_of_lt ah,Nat.mod_eq_of_lt ah];have h3:x ^^^ 2 ^ y<2 ^ 16:=Nat.xor_lt_two_pow ah hy2;rw[dQ ⟨ah,ah⟩];omega
structure SpR (l:Lc) (ro:List Ro) (G:Gl) (wk:Int) (r:jz×bO):Prop where
 ty:Ty l ro (G.mem r.2)
 sp:SpT r.1
 Jl:∀a s,kM ro a s→s.Jl→r.2.get a=G.M.get a
theorem alj{x:Nat}:Xe x 16<16:=by
 unfold Xe;split
 ·split
  ·omega
  ·rename_i h;unfold VD at h;split at h<;>omega
 ·omega
theorem alk{o:jz}(h:Ty l ro G)(ho:SpT o){wk:Int}:SpR l ro G wk (o.go l.sp G.M wk):=by
 obtain⟨h6,hs,ht⟩:=ho;have hb:=h.val _ _ h.PS;have hno:∀r:Ro,(r= .Xu∨r= .PS)→¬r.Jl:=λr q=>by rcases q with rfl|rfl<;>exact λq=>q
 unfold jz.go;split
 ·rename_i e;exact⟨h,⟨h6,hs,ht⟩,λ_ _ _ _=>rfl⟩
 ·unfold jz.more;exact⟨h.ad h.Xu trivial,⟨bh,hs,bh⟩,xm h rfl h.Xu (hno _ (.inl rfl))⟩
 ·unfold jz.less;exact⟨h.ad h.Xu trivial,⟨bh,hs,bh⟩,xm h rfl h.Xu (hno _ (.inl rfl))⟩
 ·unfold jz.look;exact⟨h.tick wk,⟨bh,hs,bh⟩,λ_ _ _ _=>rfl⟩
 ·unfold jz.need;refine⟨h.tick wk,?_,λ_ _ _ _=>rfl⟩;dsimp only;split
  ·exact⟨bh,alj,λ_=>hb⟩
  ·exact⟨bh,hs,bh⟩
 ·unfold jz.many;refine⟨h.tick wk,?_,λ_ _ _ _=>rfl⟩;dsimp only;split
  ·exact⟨bh,hs,λ_=>hb⟩
  ·exact⟨bh,hs,bh⟩
 ·rename_i n0 n1 n2 n3 n4 n5;unfold jz.adU;have e6:o.next=6:=by
   rcases (show o.next=0∨o.next=1∨o.next=2∨o.next=3∨o.next=4∨o.next=5∨o.next=6 by omega)with e|e|e|e|e|e|e<;>first|exact e|exact(n0 e).elim|exact(n1 e).elim|exact(n2 e).elim|exact(n3 e).elim|exact(n4 e).elim|exact(n5 e).elim
  refine⟨?_,?_,?_⟩
  ·exact h.cs h.PS (axB (ht e6) (by unfold YV;constructor<;>split<;>omega))
  ·dsimp only;split<;>exact⟨bh,hs,bh⟩
  ·dsimp only;unfold bO.cs;split
   ·exact xm h rfl h.PS (hno _ (.inr rfl))
   ·exact λ_ _ _ _=>rfl
theorem Cx.am3(c:Cx l P bx ro G i W):i<16∧W.id<16∧0≤W.id:=by have:=c.wt.lt;have:=c.lc.w16;have:=c.wt.id;omega
theorem apb{o:jz}(c:Cx l P bx ro G i W)(bP:W.cR= .m .wU)(hs:W.step=some o):rC l P bx ro ro G i W (wU l G W o):=by
 have ct:=c.ct;unfold cB at ct;rw[bP]at ct;dsimp only at ct;obtain⟨h1,h2,o',h3,h4⟩:=ct;rw[hs]at h3;cases h3;have hr:=alk (wk:=W.id) c.ty h4;have hf:=c.fl.no (by unfold Wk.waits;rw[bP])
 unfold wU;dsimp only;generalize o.go l.sp G.M W.id=r at hr ⊢;refine Eh (m:=[]) (mc:=[]) c hr.ty bh rfl (by rw[List.append_nil];rfl) hr.Jl (by dsimp only;split<;>rfl) (by dsimp only;split<;>rfl) (by dsimp only;split<;>rfl) (by dsimp only;split<;>rfl) (by rw[bP];decide) ?_ (λ_=> ?_) (λ_=> ?_)
 ·split
  ·dsimp only;split<;>simp
  ·rw[bP];simp
 ·split
  ·dsimp only;split
   ·unfold cB;exact h1
   ·unfold cB;exact⟨h1,h2⟩
  ·unfold cB;dsimp only;rw[bP];exact⟨h1,h2,_,rfl,hr.sp⟩
 ·dsimp only;split<;>exact oG hf.1 hf.2
theorem auq{o:jz}(c:Cx l P bx ro G i W)(bP:W.cR= .m .block)(hs:W.step=some o):rC l P bx ro ro G i W (block l G W o):=by
 have ct:=c.ct;unfold cB at ct;rw[bP]at ct;dsimp only at ct;obtain⟨h1,o',h3,h4⟩:=ct;rw[hs]at h3;cases h3;have hr:=alk (wk:=W.id) c.ty h4;unfold block;dsimp only;generalize o.go l.sp G.M W.id=r at hr ⊢;have e:(G.mem r.2).ts=G.ts:=rfl;have ha:q4 P (G.mem r.2) W:=⟨h1.ne,h1.hm,h1.tg⟩;refine Eh (m:=[]) (mc:=[]) c hr.ty bh rfl (by rw[List.append_nil];rfl) hr.Jl (by dsimp only;split<;>rfl) (by dsimp only;split<;>rfl) (by dsimp only;split<;>rfl) (by dsimp only;split<;>rfl) (by rw[bP];decide) ?_ (λ_=> ?_) (λ_=> ?_)
 ·split
  ·rcases h1.cases with⟨y,q,_⟩|⟨y,q,_⟩<;>dsimp only<;>rw[q] <;>simp
  ·rw[bP];simp
 ·dsimp only;split
  ·rcases ha.cases with⟨y,q,_,q2⟩|⟨y,q,_,_,q2⟩<;>unfold cB<;>dsimp only<;>rw[q] <;>exact⟨ha.ne,q2⟩
  ·unfold cB;dsimp only;rw[bP];exact⟨ha.of rfl rfl rfl rfl,_,rfl,hr.sp⟩
 ·dsimp only;split
  ·refine⟨λq=> ?_,c.fl.R4,λ_ _=>rfl⟩;rcases ha.cases with⟨y,q1,_⟩|⟨y,q1,_⟩<;>unfold Wk.waits at q<;>dsimp only at q<;>rw[q1]at q<;>cases q
  ·exact R6 c rfl rfl rfl (by unfold Wk.waits;dsimp only;rw[bP]) (by dsimp only;rw[bP];exact⟨rfl,rfl⟩)
end
section
variable {l:Lc} {P:List ea} {bx:List Int} {ro iI:List Ro} {G G':Gl} {hold:List Nat} {W W' W1:Wk} {t t':Tk} {n i x y:Nat} {s a v:Int} {r:Ro}
theorem Cx.tid(c:Cx l P bx ro G i W)(h:W.stack≠ []):(G.tk (W.stack.headD 0)).id=((W.stack.headD 0:Nat):Int):=(c.ty.pR (c.top h).2).id
theorem ai1{v:Int}{m:List Int}:∀j∈Vg v m,j∈m:=by
 intro j hj;unfold Vg at hj;rcases B0.1 hj with h|h
 ·exact List.mem_of_mem_drop h
 ·exact List.mem_of_mem_take h
theorem aeJ{self on idle:Int}{n:Nat}:∀j∈xk self on idle n,0≤j∧j<n∧j≠self:=by
 intro j hj;unfold xk at hj;obtain⟨k,hk,rfl⟩:=List.mem_map.1 hj;obtain⟨h1,h2⟩:=List.mem_filter.1 hk;have:=List.mem_range.1 h1;refine⟨by show 0≤((k:Nat):Int);omega,by show((k:Nat):Int)<n;omega,λe=> ?_⟩
 have e:((k:Nat):Int)=self:=e;unfold Zk at h2;simp[e]at h2
theorem apc(c:Cx l P bx ro G i W)(bP:W.cR= .m .others):rC l P bx ro ro G i W (others l G W t bx):=by
 have ct:=c.ct;unfold cB at ct;rw[bP]at ct;dsimp only at ct;have ty:Ty l ro {G.tick W.id with D:=G.D.tail}:={c.tt with dr:=by have:=c.ty.dr;show G.D.tail.length≤_;rw[List.length_tail];omega}
 unfold others;have hS:CQ l P {G.tick W.id with D:=G.D.tail} {W with left:=Vg (G.D.headD 0) (xk W.id (l.sp.bits G.M) (G.M.get l.idle) l.wa.length)}:=by
  refine⟨ct.how,λj hj=>aeJ j (ai1 j hj),?_⟩;rcases ct.what with⟨a1,a2⟩|⟨a1,a2⟩
  ·exact .inl ⟨a1,a2⟩
  ·exact .inr ⟨⟨a1.ne,a1.hm,a1.tg⟩,a2⟩
 have hw:W.none_= .m .nothing→W.waits=true:=λq=>by unfold Wk.waits;rw[bP];dsimp only;rw[q];rfl
 have nx:=Vz (bx:=bx) (ro:=ro) (t:=t) ty.t1 c.wt.id c.am3.1 hS (W:={W with left:=Vg (G.D.headD 0) (xk W.id (l.sp.bits G.M) (G.M.get l.idle) l.wa.length)}) ⟨λq=>c.fl.no q,c.fl.R4,c.fl.ag⟩ hw (λq=> ?_)
 ·refine agD (m:=[]) (mc:=[]) (W1:={W with left:=Vg (G.D.headD 0) (xk W.id (l.sp.bits G.M) (G.M.get l.idle) l.wa.length)}) c (by rw[nx.2];exact ty) bh (by rw[nx.2];rfl) (by rw[nx.2,List.append_nil];rfl) (λ_ _ _ _=>by rw[nx.2];rfl) (by rw[eo,bP];decide) ⟨rfl,rfl,rfl,rfl⟩ (λ_=>by rw[nx.2];exact nx.1) ⟨nx.1.st,nx.1.bk,nx.1.id,nx.1.dq,nx.1.ns⟩
 ·refine c.fl.no ?_;rcases ct.what with⟨a1,a2,a3,a4⟩|⟨a1,a2⟩
  ·have a4:W.none_= .m .yL:=a4;unfold Wk.waits;rw[bP];dsimp only;rw[a4];rfl
  ·exact absurd q a1.ne
theorem Xz{O:bw}{m:Nat}(h:0≤O.got∧O.got<m)(hm:1≤m):0≤O.tell∧O.tell<m:=by
 unfold bw.tell;split
 ·exact h
 ·omega
theorem CQ.of(h:CQ l P G W)(hg:G'.ts=G.ts)(h1:W'.stack=W.stack)(h2:W'.again=W.again)(h3:W'.target=W.target)(h4:W'.pM=W.pM)(h5:W'.wait=W.wait)(h6:W'.left=W.left)(h7:W'.id=W.id)(h8:W'.fits=W.fits)(h9:W'.got=W.got)(h10:W'.none_=W.none_):CQ l P G' W':=by
 refine⟨by rw[h5];exact h.how,by rw[h6,h7];exact h.left,?_⟩
 rw[h1,h3,h8,h9,h10];refine h.what.imp id λq=>⟨?_,q.2⟩;obtain⟨a,b,c⟩:=q.1;refine⟨by rw[h1];exact a,?_,by rw[h2,h3,h4];exact c⟩
 have:G'.tk (W.stack.headD 0)=G.tk (W.stack.headD 0):=by unfold Gl.tk;rw[hg]
 rw[h1,h2,hg,this];exact b
theorem aur{O:bw}(h1:W.cR= .m .o7)(h2:W.op=some O)(hi:W.id.toNat=i)(h:match W.after with
  | .c .FA=>W.stack=[]∧W.wait.how=1∧BH l ro G.ts.length i W.dq O∧O.kind=1
  | .c .tQ=>W.stack≠ []∧Br P G.ts.length (G.tk (W.stack.headD 0))∧(0≤W.jc∧W.jc<G.ts.length)∧BH l ro G.ts.length i W.dq O∧O.kind=0
  | .c .sJ=>q4 P G W∧(y4 W.again=true→W.dy= .m .vu∧W.wait.how=1)∧(R3 W.again=true→W.dy= .c .Cs)∧BH l ro G.ts.length i W.dq O∧O.kind=1
  | .m .TH=>CQ l P G W∧(∃u,u<l.wa.length∧u≠i∧BH l ro G.ts.length u (bx.getD u 0) O∧O.kind=2)∧O.next≤18
  | .m .Am=>CQ l P G W∧(∃u,u<l.wa.length∧u≠i∧BH l ro G.ts.length u (bx.getD u 0) O∧O.kind=2)∧O.next=19
  |_=>False):cB l P bx ro G W:=by
 unfold cB;dsimp only;rw[h1];dsimp only;subst hi;exact⟨O,h2,h⟩
theorem alm{O:bw}(c:Cx l P bx ro G i W)(hdl:bx.length=l.wa.length)(bP:W.cR= .m .o7)(hop:W.op=some O)(ht:t=G.tk (W.stack.headD 0)):∃iI,rC l P bx ro iI G i W (o7 l G W O t bx G.vp)∧True:=by
 have ct:=c.ct;unfold cB at ct;rw[bP]at ct;dsimp only at ct;obtain⟨O',hO',ct⟩:=ct;rw[hop]at hO';cases hO';have kN:eo W:=by rw[eo,bP];decide
 have aus:=c.idn;rw[aus]at ct;have main:∀(u:Nat) (d:Int),Z4 ro u d→BH l ro G.ts.length u d O→(∀(iI:List Ro) (r:bw×bO),OpR l ro iI G W.id u d O r→(r.1.how=0→cB l P bx iI (G.mem r.2) {W with op:=some r.1})∧(r.1.how≠0→r.1.how≠6→Nx l P bx iI (G.mem r.2) {W with op:=some r.1} (y3 l (G.mem r.2) {W with op:=some r.1} t bx G.vp r.1.how).2∧(y3 l (G.mem r.2) {W with op:=some r.1} t bx G.vp r.1.how).1=G.mem r.2))→∃iI,rC l P bx ro iI G i W (o7 l G W O t bx G.vp)∧True:=by
  intro u d hd hO aAK;obtain⟨iI,hr⟩:=aiX c.lg c.ty hd c.caller hO;obtain⟨h0,hn⟩:=aAK iI _ hr;refine⟨iI,?_,trivial⟩;have Me:∀a s,kM ro a s→s.Jl→(O.step G.M W.id).2.get a=G.M.get a:=λa s hs hp=>hr.same a s hs (by cases s<;>first|exact hp.elim|exact λq=>q)
  obtain⟨m,hm,_⟩:=hr.ext;unfold o7;dsimp only;generalize O.step G.M W.id=r at hr h0 hn Me ⊢;split
  ·rename_i e;exact Eh (m:=m) (mc:=[]) c hr.ty hm rfl (by rw[List.append_nil];rfl) Me rfl rfl rfl rfl kN (by dsimp only;rw[bP];simp) (λ_=>h0 e) (λ_=>⟨λq=>c.fl.no q,c.fl.R4,c.fl.ag⟩)
  split
  ·rename_i e0 e;have her:=hr.err e;exact Eh (m:=m) (mc:=[]) c {hr.ty with} hm rfl (by rw[List.append_nil];rfl) Me rfl rfl rfl rfl kN (by dsimp only;rw[bP];simp) (λq=>absurd q her) (λq=>absurd q her)
  ·rename_i e0 e6;obtain⟨nx,e⟩:=hn e0 e6;exact agD (m:=m) (mc:=[]) (W1:={W with op:=some r.1}) c (by rw[e];exact hr.ty) hm (by rw[e];rfl) (by rw[e,List.append_nil];rfl) (λa s h1 h2=>by rw[e];exact Me a s h1 h2) kN ⟨rfl,rfl,rfl,rfl⟩ (λ_=>by rw[e];exact nx) ⟨nx.st,nx.bk,nx.id,nx.dq,nx.ns⟩
 have Z5:=c.ty.t1;have vq:∀h:W.stack≠ [],t.id=((W.stack.headD 0:Nat):Int):=λh=>by rw[ht];exact c.tid h
 have R5:∀(r:bw×bO),q4 P G W→q4 P (G.mem r.2) {W with op:=some r.1}:=λr q=>⟨q.ne,q.hm,q.tg⟩
 have hSe:∀(r:bw×bO),CQ l P G W→CQ l P (G.mem r.2) {W with op:=some r.1}:=λr q=>⟨q.how,q.left,q.what.imp id λz=>⟨R5 r z.1,z.2⟩⟩
 have hFl:∀(r:bw×bO),Eg {W with op:=some r.1}:=λr=>⟨λq=>c.fl.no q,c.fl.R4,c.fl.ag⟩
 have hct:∀{iI:List Ro} {r:bw×bO},(match W.after with
  | .c .FA=>W.stack=[]∧W.wait.how=1∧BH l iI G.ts.length i W.dq r.1∧r.1.kind=1
  | .c .tQ=>W.stack≠ []∧Br P G.ts.length (G.tk (W.stack.headD 0))∧(0≤W.jc∧W.jc<G.ts.length)∧BH l iI G.ts.length i W.dq r.1∧r.1.kind=0
  | .c .sJ=>q4 P (G.mem r.2) {W with op:=some r.1}∧(y4 W.again=true→W.dy= .m .vu∧W.wait.how=1)∧(R3 W.again=true→W.dy= .c .Cs)∧BH l iI G.ts.length i W.dq r.1∧r.1.kind=1
  | .m .TH=>CQ l P (G.mem r.2) {W with op:=some r.1}∧(∃u,u<l.wa.length∧u≠i∧BH l iI G.ts.length u (bx.getD u 0) r.1∧r.1.kind=2)∧r.1.next≤18
  | .m .Am=>CQ l P (G.mem r.2) {W with op:=some r.1}∧(∃u,u<l.wa.length∧u≠i∧BH l iI G.ts.length u (bx.getD u 0) r.1∧r.1.kind=2)∧r.1.next=19
  |_=>False)→cB l P bx iI (G.mem r.2) {W with op:=some r.1}:=λq=>aur (W:={W with op:=some _}) bP rfl aus q
 split at ct
 ·rename_i ha;obtain⟨a1,a2,a3,a4⟩:=ct;have hf:=c.fl.no (by unfold Wk.waits;rw[bP];dsimp only;rw[ha])
  have e1:∀(r:bw×bO) (st:Int),y3 l (G.mem r.2) {W with op:=some r.1} t bx G.vp st=FA (G.mem r.2) {W with op:=some r.1} st:=λr st=>by unfold y3;dsimp only;rw[ha]
  refine main i W.dq c.own a3 λiI r hr=>⟨λe=> ?_,λe e6=> ?_⟩
  ·obtain⟨b1,b2⟩:=hr.live (.inl e);refine hct ?_;rw[ha];exact⟨a1,a2,b1,by rw[b2,a4]⟩
  ·rw[e1];unfold FA;dsimp only;refine⟨?_,rfl⟩;split
   ·refine R8 hf.1 hf.2 (Xz hr.got Z5) ?_;show Ef P _ W.stack _;rw[a1];rfl
   ·exact⟨rfl,rfl,rfl,rfl,by simp[Wk.search],by unfold cB Wk.search;exact⟨a2,bh,.inl ⟨a1,rfl,rfl,rfl⟩⟩,oG hf.1 hf.2⟩
 ·rename_i ha;obtain⟨a1,a2,a3,a4,a5⟩:=ct;have hf:=c.fl.no (by unfold Wk.waits;rw[bP];dsimp only;rw[ha])
  have e1:∀(r:bw×bO) (st:Int),y3 l (G.mem r.2) {W with op:=some r.1} t bx G.vp st=tQ (G.mem r.2) {W with op:=some r.1} st:=λr st=>by unfold y3;dsimp only;rw[ha]
  refine main i W.dq c.own a4 λiI r hr=>⟨λe=> ?_,λe e6=> ?_⟩
  ·obtain⟨b1,b2⟩:=hr.live (.inl e);refine hct ?_;rw[ha];exact⟨a1,a2,a3,b1,by rw[b2,a5]⟩
  ·rw[e1];unfold tQ;dsimp only;refine⟨?_,rfl⟩;obtain⟨x,st,hst⟩:=List.exists_cons_of_ne_nil a1;have hm:Ef P (G.mem r.2) W.stack (.m .next):=by rw[hst]at a2 ⊢;exact a2
   split
   ·exact R8 hf.1 hf.2 a3 hm
   ·exact⟨rfl,rfl,rfl,rfl,by simp[Wk.I5],by unfold cB Wk.I5;exact hm,oG hf.1 hf.2⟩
 ·rename_i ha;obtain⟨a1,a2,a3,a4,a5⟩:=ct;have e1:∀(r:bw×bO) (st:Int),y3 l (G.mem r.2) {W with op:=some r.1} t bx G.vp st=sJ (G.mem r.2) {W with op:=some r.1} t st:=λr st=>by unfold y3;dsimp only;rw[ha]
  refine main i W.dq c.own a4 λiI r hr=>⟨λe=> ?_,λe e6=> ?_⟩
  ·obtain⟨b1,b2⟩:=hr.live (.inl e);refine hct ?_;rw[ha];exact⟨(R5 r a1).of rfl rfl rfl rfl,a2,a3,b1,by rw[b2,a5]⟩
  ·rw[e1];unfold sJ;split
   ·exact Zy (W:={W with op:=some r.1}) (vq a1.ne) (R5 r a1) (hFl r) a2 a3
   ·exact aeI (W:={W with op:=some r.1}) (R5 r a1) (hFl r) (Xz hr.got Z5)
 ·rename_i ha;obtain⟨a1,⟨u,a2,a3,a4,a5⟩,a6⟩:=ct;have hwt:W.none_= .m .nothing→W.waits=true:=λq=>by unfold Wk.waits;rw[bP];dsimp only;rw[ha];dsimp only;rw[q];rfl
  have hff:W.stack=[]→W.bK=false∧W.blocked=false:=λq=>by
   refine c.fl.no ?_;rcases a1.what with⟨_,_,_,z⟩|⟨z,_⟩
   ·unfold Wk.waits;rw[bP];dsimp only;rw[ha];dsimp only;rw[z];rfl
   ·exact absurd q z.ne
  have e1:∀(r:bw×bO) (st:Int),y3 l (G.mem r.2) {W with op:=some r.1} t bx G.vp st=TH l (G.mem r.2) {W with op:=some r.1} t bx G.vp st:=λr st=>by unfold y3;dsimp only;rw[ha]
  refine main u (bx.getD u 0) (c.dq u a2) a4 λiI r hr=>⟨λe=> ?_,λe e6=> ?_⟩
  ·obtain⟨b1,b2⟩:=hr.live (.inl e);have hh:=hr.how a5;refine hct ?_;rw[ha];exact⟨(hSe r a1).of rfl rfl rfl rfl rfl rfl rfl rfl rfl rfl rfl,⟨u,a2,a3,b1,by rw[b2,a5]⟩,ah⟩
  ·rw[e1];unfold TH;split
   ·exact Vz (G:=G.mem r.2) (W:={W with op:=some r.1}) Z5 c.wt.id c.am3.1 (hSe r a1) (hFl r) hwt hff
   ·rename_i hno;have e2:r.1.how=2:=by
     have:=not_or.1 hno;omega
    obtain⟨b1,b2⟩:=hr.live (.inr e2);have hh:=hr.how a5;refine⟨⟨rfl,rfl,rfl,rfl,by dsimp only;rw[bP];simp,?_,?_⟩,rfl⟩
    ·refine aur (W:={W with op:=some r.1,after:= .m .Am}) (i:=i) bP rfl aus ?_;refine⟨(hSe r a1).of rfl rfl rfl rfl rfl rfl rfl rfl rfl rfl rfl,⟨u,a2,a3,b1,by rw[b2,a5]⟩,?_⟩
     have:=b1.how;rw[e2]at this;apply Classical.byContradiction;intro q;rw[if_neg q]at this;cases this
    ·refine⟨λq=> ?_,c.fl.R4,λ_ q=>by dsimp only at q;rw[bP]at q;rcases q with q|q<;>cases q⟩
     unfold Wk.waits at q;dsimp only at q;rw[bP]at q;dsimp only at q;refine c.fl.no ?_;unfold Wk.waits;rw[bP];dsimp only;rw[ha];exact q
 ·rename_i ha;obtain⟨a1,⟨u,a2,a3,a4,a5⟩,a6⟩:=ct;have hwt:W.none_= .m .nothing→W.waits=true:=λq=>by unfold Wk.waits;rw[bP];dsimp only;rw[ha];dsimp only;rw[q];rfl
  have hff:W.stack=[]→W.bK=false∧W.blocked=false:=λq=>by
   refine c.fl.no ?_;rcases a1.what with⟨_,_,_,z⟩|⟨z,_⟩
   ·unfold Wk.waits;rw[bP];dsimp only;rw[ha];dsimp only;rw[z];rfl
   ·exact absurd q z.ne
  have e1:∀(r:bw×bO) (st:Int),y3 l (G.mem r.2) {W with op:=some r.1} t bx G.vp st=Am l (G.mem r.2) {W with op:=some r.1} t bx st:=λr st=>by unfold y3;dsimp only;rw[ha]
  refine main u (bx.getD u 0) (c.dq u a2) a4 λiI r hr=>⟨λe=> ?_,λe e6=> ?_⟩
  ·have hh:=hr.how a5;omega
  ·rw[e1];unfold Am;split
   ·unfold ata;rcases a1.what with⟨z1,z2,z3,z4⟩|⟨z1,z2,z3,z4⟩
    ·rw[if_neg (by dsimp only;rw[z3];simp)]
     refine⟨R8 (G:=G.mem r.2) (W:={W with op:=some r.1}) (hff z1).1 (hff z1).2 (Xz hr.got Z5) ?_,rfl⟩;show Ef P _ W.stack _;rw[z1];rfl
    ·rw[if_pos z3];exact aeI (W:={W with op:=some r.1}) (R5 r z1) (hFl r) (Xz hr.got Z5)
   ·have:=Vz (l:=l) (P:=P) (bx:=bx) (ro:=iI) (G:=G.mem r.2) (i:=i) (t:=t) (W:={W with op:=some r.1,late:=true}) Z5 c.wt.id c.am3.1 (a1.of rfl rfl rfl rfl rfl rfl rfl rfl rfl rfl rfl) ⟨λq=>c.fl.no q,c.fl.R4,c.fl.ag⟩ hwt hff
    exact⟨⟨this.1.st,this.1.bk,this.1.id,this.1.dq,this.1.ns,this.1.ct,this.1.fl⟩,this.2⟩
 ·exact ct.elim
theorem aAM(c:Cx l P bx ro G i W)(bP:W.cR= .m .cI):rC l P bx ro ro G i W (cI G W):=by
 have ct:=c.ct;unfold cB at ct;rw[bP]at ct;dsimp only at ct;exact sM (W1:=W) c (.inr rfl) (by rw[eo,bP];decide) ⟨rfl,rfl,rfl,rfl⟩ ⟨rfl,rfl,rfl,rfl,by simp[cI],by unfold cB cI;exact ct,agC c (by unfold Wk.waits;rw[bP]) rfl rfl⟩
theorem auu(c:Cx l P bx ro G i W)(bP:W.cR= .m .asked)(ht:t=G.tk (W.stack.headD 0)):rC l P bx ro ro G i W (asked G W t (G.tk (W.target.getD 0)) (W.target.getD 0)):=by
 have ct:=c.ct;unfold cB at ct;rw[bP]at ct;dsimp only at ct;obtain⟨a1,a2,a3⟩:=ct;obtain⟨y,h1,h2,h3⟩|⟨k,h1,_⟩:=a1.cases;rotate_left
 ·rw[h1]at a2;cases a2
 have hy:W.target.getD 0=y:=by rw[h2];rfl
 have hyn:y<G.ts.length:=h3.2.2.2;have ha:q4 P (G.tick W.id) W:=⟨a1.ne,a1.hm,a1.tg⟩;have hk:=c.ty.val _ _ (c.ty.pR hyn).k;unfold asked;dsimp only;rw[hy,Int.add_zero];refine sM (W1:=W) c (.inr rfl) (by rw[eo,bP];decide) ⟨rfl,rfl,rfl,rfl⟩ ?_
 dsimp only;split
 ·exact R7 (k:= .Vo y W.again) ha c.fl ⟨hyn,rfl⟩
 split
 ·refine⟨rfl,rfl,rfl,rfl,by simp[Wk.drain],?_,R6 c rfl rfl rfl rfl ⟨rfl,rfl⟩⟩
  unfold cB Wk.drain;exact⟨ha.of rfl rfl rfl rfl,λ_=>⟨rfl,a3⟩,λq=>by dsimp only at q;rw[h1]at q;cases q⟩
 ·rename_i n0 n1;have GF:G.M.get (G.tk y).jt=G.K y:=rfl;have:=R7 (l:=l) (P:=P) (bx:=bx) (ro:=ro) (G:=G.tick W.id) (W:={W with kind:=G.M.get (G.tk y).jt}) (k:= .c .HZ) (ha.of rfl rfl rfl rfl) ⟨λq=>c.fl.no q,c.fl.R4,c.fl.ag⟩ ⟨a2,by dsimp only;rw[hy];rfl,by dsimp only;have:=hk.1;omega⟩
  exact⟨this.st,this.bk,this.id,this.dq,this.ns,this.ct,this.fl⟩
theorem ape(c:Cx l P bx ro G i W)(bP:W.cR= .m .tP)(ht:t=G.tk (W.stack.headD 0)):rC l P bx ro ro G i W (tP l G W t):=by
 have ct:=c.ct;unfold cB at ct;rw[bP]at ct;dsimp only at ct;obtain⟨a1,a2,a3⟩:=ct;have ha:q4 P (G.tick W.id) W:=⟨a1.ne,a1.hm,a1.tg⟩;unfold tP;dsimp only;split
 ·have nx:=Zy (l:=l) (bx:=bx) (ro:=ro) (t:=t) (by rw[ht];exact c.tid a1.ne) ha c.fl a2 a3
  exact sM (W1:=W) c (.inr nx.2) (by rw[eo,bP];decide) ⟨rfl,rfl,rfl,rfl⟩ (by rw[nx.2];exact nx.1)
 ·refine sM (W1:=W) c (.inr rfl) (by rw[eo,bP];decide) ⟨rfl,rfl,rfl,rfl⟩ ⟨rfl,rfl,rfl,rfl,by simp[Wk.AG],?_,R6 c rfl rfl rfl rfl ⟨rfl,rfl⟩⟩
  unfold cB Wk.AG;exact⟨_,rfl,ha.of rfl rfl rfl rfl,a2,a3,Xx c.ty.t1 ⟨ah,by have:=c.ty.t1;show(0:Int)<G.ts.length;omega⟩ ah,rfl⟩
theorem aln(c:Cx l P bx ro G i W)(bP:W.cR= .m .qU):rC l P bx ro ro G i W (qU l G W):=by
 have ct:=c.ct;unfold cB at ct;rw[bP]at ct;dsimp only at ct;have ha:q4 P (G.tick W.id) W:=⟨ct.1.ne,ct.1.hm,ct.1.tg⟩;exact sM (W1:=W) c (.inr rfl) (by rw[eo,bP];decide) ⟨rfl,rfl,rfl,rfl⟩ ⟨rfl,rfl,rfl,rfl,by simp[qU],by unfold cB qU;exact⟨ha.of rfl rfl rfl rfl,ct.2,rfl⟩,R6 c rfl rfl rfl rfl ⟨rfl,rfl⟩⟩
theorem alo(c:Cx l P bx ro G i W)(bP:W.cR= .m .rR)(ht:t=G.tk (W.stack.headD 0)){nd:Nd}:rC l P bx ro ro G i W (rR G W t nd):=by
 have ct:=c.ct;unfold cB at ct;rw[bP]at ct;dsimp only at ct;obtain⟨a1,a2,a3⟩:=ct;have ha:q4 P (G.tick W.id) W:=⟨a1.ne,a1.hm,a1.tg⟩;unfold rR;split
 ·refine sM (W1:=W) c (.inr rfl) (by rw[eo,bP];decide) ⟨rfl,rfl,rfl,rfl⟩ ?_
  obtain⟨y,h1,_⟩|⟨k,h1,_,h3,h4⟩:=a1.cases
  ·rw[h1]at a2;cases a2
  refine R7 ha c.fl ?_;rw[h3];unfold qV at h4;split at h4
  ·rename_i e;cases e
  ·rename_i e;cases e
  ·rename_i e;cases e;exact h1
  ·rename_i e;cases e;exact h1
  ·exact h4.elim
 ·have nx:=ai0 (l:=l) (bx:=bx) (ro:=ro) (t:=t) (by rw[ht];exact c.tid a1.ne) ha a3 c.fl
  exact sM (W1:=W) c (.inr nx.2) (by rw[eo,bP];decide) ⟨rfl,rfl,rfl,rfl⟩ (by rw[nx.2];exact nx.1)
theorem ai2(c:Cx l P bx ro G i W)(bP:W.cR= .m .register):rC l P bx ro ro G i W (register G W (G.tk (W.target.getD 0))):=by
 have ct:=c.ct;unfold cB at ct;rw[bP]at ct;dsimp only at ct;obtain⟨a1,a2⟩:=ct;obtain⟨y,h1,h2,h3⟩|⟨k,h1,_⟩:=a1.cases;rotate_left
 ·rw[h1]at a2;cases a2
 have hy:W.target.getD 0=y:=by rw[h2];rfl
 have hl:=(c.ty.pR h3.2.2.2).w;unfold register;rw[hy];refine Eh (m:=[]) (mc:=[]) c (c.ty.ad hl trivial) bh rfl (by rw[List.append_nil];rfl) (xm c.ty rfl hl (λq=>q)) rfl rfl rfl rfl (by rw[bP];decide) (by dsimp only;rw[h1];simp) (λ_=> ?_) (λ_=> ?_)
 ·unfold cB;dsimp only;rw[h1];exact⟨a1.ne,h3⟩
 ·refine⟨λq=> ?_,λ_=>a2,λ_ _=>rfl⟩;unfold Wk.waits at q;dsimp only at q;rw[h1]at q;cases q
theorem VA{wk:Int}(c:Cx l P bx ro G i W)(hne:W.stack≠ [])(hk:qV P G.ts.length (G.tk (W.stack.headD 0)) (.aw y))(hf:W.bK=true∨W.blocked=true→W.again= .aw y)(hW:W1.stack=W.stack∧W1.back=W.back∧W1.id=W.id∧W1.dq=W.dq∧W1.bK=W.bK∧W1.blocked=W.blocked):
  Nx l P bx ro (G.tick wk) W1 (FG l G W1 (G.tk (W.stack.headD 0)) y).2:=by
 obtain⟨e1,e2,e3,e4,e5,e6⟩:=hW;have hin:=(c.ty.pR (c.top hne).2).Z3;refine⟨rfl,rfl,rfl,rfl,by simp[FG,Wk.looks],?_,?_⟩
 ·unfold cB FG Wk.looks;dsimp only;rw[e1];exact⟨_,rfl,rfl,hin,.refl hin.1 hin.2,hne,⟨hne,hk,rfl⟩,rfl,rfl⟩
 ·exact⟨λq=>by unfold Wk.waits FG Wk.looks at q;(cases q),λ_=>rfl,λ_ q=>by rcases q with q|q<;>(cases q)⟩
theorem aDq(c:Cx l P bx ro G i W)(bP:W.cR= .aw y)(ht:t=G.tk (W.stack.headD 0)):rC l P bx ro ro G i W (FG l G W t y):=by
 have ct:=c.ct;unfold cB at ct;rw[bP]at ct;dsimp only at ct;subst ht;refine sM (W1:=W) c (.inr rfl) (by rw[eo,bP];simp) ⟨rfl,rfl,rfl,rfl⟩ (VA (W1:=W) c ct.1 ct.2 (λq=> ?_) ⟨rfl,rfl,rfl,rfl,rfl,rfl⟩)
 rw[c.fl.ag q (by rw[bP];exact .inl rfl),bP]
theorem aDr{k:Kn}(c:Cx l P bx ro G i W)(bP:W.cR= .sh k)(ht:t=G.tk (W.stack.headD 0)):rC l P bx ro ro G i W (G,shut W k t):=by
 have ct:=c.ct;unfold cB at ct;rw[bP]at ct;dsimp only at ct;have hr:W.bK=false:=by
  cases h:W.bK with
  |false=>rfl
  |true=>
   have h1:=c.fl.R4 h;rw[c.fl.ag (.inl h) (by rw[bP];exact .inr rfl),bP]at h1
   cases h1
 exact sM (W1:=W) c (.inl rfl) (by rw[eo,bP];simp) ⟨rfl,rfl,rfl,rfl⟩ (Xy ct.1 ct.2 hr λq=>by rw[c.fl.ag (.inr q) (by rw[bP];exact .inr rfl),bP])
theorem axE(c:Cx l P bx ro G i W)(bP:W.cR= .m .HI)(ht:t=G.tk (W.stack.headD 0)):rC l P bx ro ro G i W (HI l G W t):=by
 have ct:=c.ct;unfold cB at ct;rw[bP]at ct;dsimp only at ct;subst ht;unfold HI again;dsimp only;obtain⟨y,h1,h2,h3⟩|⟨k,h1,h2,h3,h4⟩:=ct.cases
 ·rw[h1];dsimp only;have nx:=VA (l:=l) (bx:=bx) (ro:=ro) (wk:=W.id) (W1:={W with wait:=⟨0,W.wait.seen⟩}) c ct.ne h3 (λ_=>h1) ⟨rfl,rfl,rfl,rfl,rfl,rfl⟩
  exact sM (W1:={W with wait:=⟨0,W.wait.seen⟩}) c (.inr rfl) (by rw[eo,bP];simp) ⟨rfl,rfl,rfl,rfl⟩ nx
 ·rw[h1];dsimp only;have hr:W.bK=false:=by
   cases h:W.bK with
   |false=>rfl
   |true=>have h1':=c.fl.R4 h;rw[h1]at h1';cases h1'
  exact sM (W1:={W with wait:=⟨0,W.wait.seen⟩}) c (.inl rfl) (by rw[eo,bP];simp) ⟨rfl,rfl,rfl,rfl⟩ (Xy (W:={W with wait:=⟨0,W.wait.seen⟩}) ct.ne h4 hr λq=>h1)
theorem axF(c:Cx l P bx ro G i W)(bP:W.cR= .m .join)(ht:t=G.tk (W.stack.headD 0)):rC l P bx ro ro G i W (join l P G W t):=by
 have ct:=c.ct;unfold cB at ct;rw[bP]at ct;dsimp only at ct;subst ht;obtain⟨a1,a2,a3⟩:=ct;obtain⟨b1,b2⟩:=a2.fi.hand c.acc a3;have hf:=c.fl.no (by unfold Wk.waits;rw[bP])
 unfold join;dsimp only;have e:(if (bz P (G.tk (W.stack.headD 0)).f).getD 0 0=10 then(bz P (G.tk (W.stack.headD 0)).f).getD 3 0 else(bz P (G.tk (W.stack.headD 0)).f).getD 2 0)=Gy (bz P (G.tk (W.stack.headD 0)).f):=rfl
 rw[e];refine sM (W1:=W) c (.inr rfl) (by rw[eo,bP];decide) ⟨rfl,rfl,rfl,rfl⟩ (VA (W1:=W) c a1 ⟨a2,a3,?_,?_⟩ (λq=>by rw[hf.1,hf.2]at q;rcases q with q|q<;>cases q) ⟨rfl,rfl,rfl,rfl,rfl,rfl⟩)
 ·unfold hand;omega
 ·omega
end
open Fr (Ay m8 dO eC c9 iv jb nF oH)
structure Sm (t t':Tk):Prop where
 id:t'.id=t.id
 lN:t'.lN=t.lN
 own:t'.own=t.own
 jt:t'.jt=t.jt
section
variable {l:Lc} {P:List ea} {bx:List Int} {ro iI:List Ro} {G G' G1:Gl} {hold:List Nat} {W W' W1:Wk} {t t':Tk} {n i x y:Nat} {s a v:Int} {r:Ro}
theorem TI.to{nC:Nat}(h:TI ro nC x t)(hs:Sm t t')(ho:∀p∈t'.cI,0≤p.1∧p.1<nC)(hn:t'.gC.size+t'.cI.length≤t'.scopes.length)(hl:t'.scopes.length≤nC):TI ro nC x t':=
 ⟨by rw[hs.id];exact h.id,by rw[hs.jt];exact h.k,by rw[hs.jt];exact h.v,by rw[hs.jt];exact h.w,by rw[hs.lN];exact h.Z3,by rw[hs.own];exact h.own,ho,hn,hl⟩
theorem TI.f{nC:Nat}(h:TI ro nC x t){f:List Int}{kind v:Int}:TI ro nC x {t with f:=f,kind:=kind,v:=v}:=h.to ⟨rfl,rfl,rfl,rfl⟩ h.cI h.sn h.sl
theorem Cx.ne0(c:Cx l P bx ro G i W)(h:W.stack≠ []):∃x st,W.stack=x::st∧W.stack.headD 0=x∧x<G.ts.length:=by
 obtain⟨x,st,e⟩:=List.exists_cons_of_ne_nil h;exact⟨x,st,e,by rw[e];rfl,by have:=(c.top h).2;rw[e]at this;exact this⟩
theorem XA{r:Gl}(hr:r.ts=G.ts.set x t')(hx:x<G.ts.length):r.tk x=t'∧r.ts.length=G.ts.length:=by
 refine⟨?_,by rw[hr];simp⟩
 unfold Gl.tk;rw[hr,uw hx];rfl
theorem agE{r:SW}(M:bO)(steps:Int)(tm:Int×List (Int×Int))(p:List Pl)(c:Cx l P bx ro G i W)(hne:W.stack≠ [])(hx:W.stack.headD 0=x)(hr:r.1={G with M:=M,ts:=G.ts.set x t',steps:=steps,time:=tm,P:=p})
  (hM:Ty l ro (G.mem M)) (Me:∀a s,kM ro a s→s.Jl→M.get a=G.M.get a) (hs:Sm (G.tk x) t') (hT:TI ro G.C.length x t') (hck:CK tm) (aDs:∀y∈tm.2,y.2<G.C.length) (hp:p.length=G.P.length)
  (uz:eo W) (h3:W1.stack=W.stack∧W1.back=W.back∧W1.id=W.id∧W1.dq=W.dq) (nx:r.1.tk x=t'→r.1.ts.length=G.ts.length→Nx l P bx ro r.1 W1 r.2):rC l P bx ro ro G i W r:=by
 have qI:x<G.ts.length:=by rw[←hx];exact(c.top hne).2
 obtain⟨e1,e2⟩:=XA (r:=r.1) (by rw[hr]) qI
 replace nx:=nx e1 e2;have ty:Ty l ro r.1:=by
  rw[hr];have h:=hM.set (x:=x) (t:=t') (λ_=>hT);exact{h with ck:=hck,PT:=aDs,pl:=by show p.length=_;rw[hp];exact c.ty.pl}
 exact aun (m:=[]) (mc:=[]) (t':=t') c hne ty bh (by rw[hr,hx]) (by rw[hr,List.append_nil]) (λa s h4 h5=>by rw[hr];exact Me a s h4 h5) (by rw[hx];exact hs.lN) (by rw[hx];exact hs.own) (by rw[hx];exact hs.jt) (by rw[nx.st,h3.1]) (by rw[nx.bk,h3.2.1]) (by rw[nx.id,h3.2.2.1]) (by rw[nx.dq,h3.2.2.2]) uz nx.ns (λ_=>nx.ct) (λ_=>nx.fl)
theorem YQ{r:SW}(c:Cx l P bx ro G i W)(hne:W.stack≠ [])(hx:W.stack.headD 0=x)(hG:G1=G∨G1=G.tick W.id)(hr:r.1=G1.set x t'∨r.1=(G1.set x t').lK)(hs:Sm (G.tk x) t')(hT:TI ro G.C.length x t')
  (uz:eo W) (h3:W1.stack=W.stack∧W1.back=W.back∧W1.id=W.id∧W1.dq=W.dq) (nx:r.1.tk x=t'→r.1.ts.length=G.ts.length→Nx l P bx ro r.1 W1 r.2):rC l P bx ro ro G i W r:=by
 have hM:Ty l ro (G.mem G1.M):=by rcases hG with e|e<;>rw[e];exact c.ty;exact c.tt
 have hp:∀a s,kM ro a s→s.Jl→G1.M.get a=G.M.get a:=by intro a s _ _;rcases hG with e|e<;>rw[e];rfl
 rcases hr with hr|hr
 ·exact agE G1.M G.steps G.time G.P c hne hx (by rw[hr];rcases hG with e|e<;>rw[e] <;>rfl) hM hp hs hT c.ty.ck c.ty.PT rfl uz h3 nx
 ·exact agE G1.M (wr (G.steps+1)) G.time G.P c hne hx (by rw[hr];rcases hG with e|e<;>rw[e] <;>rfl) hM hp hs hT c.ty.ck c.ty.PT rfl uz h3 nx
theorem vr{e:Int}(c:Cx l P bx ro G i W)(hG:G1=G∨G1=G.tick W.id)(he:e≠0)(uz:eo W)(h3:W1.stack=W.stack∧W1.back=W.back∧W1.id=W.id∧W1.dq=W.dq∧W1.cR=W.cR):rC l P bx ro ro G i W (G1.fail e,W1):=by
 have ty:Ty l ro (G1.fail e):=by rcases hG with q|q<;>rw[q];exact{c.ty with};exact{c.tt with}
 refine agD (m:=[]) (mc:=[]) (W1:=W1) c ty bh ?_ ?_ (λa s _ _=> ?_) uz ⟨h3.1,h3.2.1,h3.2.2.1,h3.2.2.2.1⟩ (λq=>absurd q he) ⟨rfl,rfl,rfl,rfl,by rw[h3.2.2.2.2];exact uz.1⟩
 ·rcases hG with q|q<;>rw[q] <;>rfl
 ·rcases hG with q|q<;>rw[q,List.append_nil] <;>rfl
 ·rcases hG with q|q<;>rw[q] <;>rfl
theorem agF{kind v:Int}(c:Cx l P bx ro G i W)(hne:W.stack≠ [])(hx:W.stack.headD 0=x)(ht:t=G.tk x)(hG:G1=G∨G1=G.tick W.id)(hk:2≤kind∧kind≤4)(h1:W.bK=false)(h2:W.blocked=false)(uz:eo W)
  (h3:W1.stack=W.stack∧W1.back=W.back∧W1.id=W.id∧W1.dq=W.dq∧W1.bK=W.bK∧W1.blocked=W.blocked):rC l P bx ro ro G i W (ends G1 W1 x t kind v):=by
 have qI:x<G.ts.length:=by rw[←hx];exact(c.top hne).2
 subst ht;refine YQ (t':={G.tk x with kind:=kind,v:=v}) (G1:=G1) (W1:=W1) c hne hx hG (.inl rfl) ⟨rfl,rfl,rfl,rfl⟩ ((c.ty.pR qI).f (f:=(G.tk x).f)) uz ⟨h3.1,h3.2.1,h3.2.2.1,h3.2.2.2.1⟩ λe1 e2=> ?_
 have:=N7 (l:=l) (P:=P) (bx:=bx) (ro:=ro) (G:=(ends G1 W1 x (G.tk x) kind v).1) (W:=W1) (t:={G.tk x with kind:=kind,v:=v}) (by rw[h3.1];exact hne) (by rw[h3.1,hx];exact e1) ⟨hk.1,hk.2⟩ (by rw[h3.2.2.2.2.1];exact h1) (by rw[h3.2.2.2.2.2];exact h2)
 exact this
theorem am4(c:Cx l P bx ro G i W)(hne:W.stack≠ [])(hx:W.stack.headD 0=x)(ht:t=G.tk x)(hG:G1=G∨G1=G.tick W.id)(hR:Br P G.ts.length (G.tk x))(h1:W.bK=false)(h2:W.blocked=false)(uz:eo W)
  (h3:W1.stack=W.stack∧W1.back=W.back∧W1.id=W.id∧W1.dq=W.dq∧W1.bK=W.bK∧W1.blocked=W.blocked∧W1.cR=W.cR):rC l P bx ro ro G i W (aeu l G1 W1 x t (bz P t.f)):=by
 have qI:x<G.ts.length:=by rw[←hx];exact(c.top hne).2
 subst ht;unfold aeu;split
 ·exact vr c hG gD uz ⟨h3.1,h3.2.1,h3.2.2.1,h3.2.2.2.1,h3.2.2.2.2.2.2⟩
 split
 ·rename_i hp;refine YQ (t':={G.tk x with f:=(dO (G.tk x).f (bz P (G.tk x).f)).1}) (W1:=W1) c hne hx hG (.inr rfl) ⟨rfl,rfl,rfl,rfl⟩ ((c.ty.pR qI).f (kind:=(G.tk x).kind) (v:=(G.tk x).v)) uz ⟨h3.1,h3.2.1,h3.2.2.1,h3.2.2.2.1⟩ λe1 e2=> ?_
  refine⟨rfl,rfl,rfl,rfl,by simp[Wk.go],?_,oG (by rw[←h1];exact h3.2.2.2.2.1) (by rw[←h2];exact h3.2.2.2.2.2.1)⟩
  unfold cB Wk.go;dsimp only;rw[h3.1,hx];refine⟨hne,?_⟩;rw[show Gl.tk _ x=_ from e1];exact⟨(hR.fi.plain c.acc hp).imp λz hz=>⟨hz.1,by rw[e2];exact hz.2⟩,hR.kind⟩
 ·rename_i hp;have hop:=(hR.fi.aAz c.acc).2 (by simpa using hp)
  have Yn:Nx l P bx ro G1 W1 (W1.go (acq ((bz P (G.tk x).f).getD 0 0))):=by
   refine⟨rfl,rfl,rfl,rfl,?_,?_,oG (by rw[←h1];exact h3.2.2.2.2.1) (by rw[←h2];exact h3.2.2.2.2.2.1)⟩
   ·show Kn.m (acq ((bz P (G.tk x).f).getD 0 0))≠ .m .start;have:(bz P (G.tk x).f).getD 0 0=8∨(bz P (G.tk x).f).getD 0 0=9∨(bz P (G.tk x).f).getD 0 0=10∨(bz P (G.tk x).f).getD 0 0=11∨(bz P (G.tk x).f).getD 0 0=12∨(bz P (G.tk x).f).getD 0 0=13∨(bz P (G.tk x).f).getD 0 0=14∨(bz P (G.tk x).f).getD 0 0=15∨(bz P (G.tk x).f).getD 0 0=16:=ah;rcases this with e|e|e|e|e|e|e|e|e<;>rw[e] <;>decide
   ·have hst:W1.stack≠ []:=by rw[h3.1];exact hne
    have N5:G1.tk (W1.stack.headD 0)=G.tk x:=by rw[h3.1,hx];rcases hG with e|e<;>rw[e];rfl
    have hn:G1.ts.length=G.ts.length:=by rcases hG with e|e<;>rw[e];rfl
    have UB:Br P G1.ts.length (G1.tk (W1.stack.headD 0)):=by rw[N5,hn];exact hR
    have:(bz P (G.tk x).f).getD 0 0=8∨(bz P (G.tk x).f).getD 0 0=9∨(bz P (G.tk x).f).getD 0 0=10∨(bz P (G.tk x).f).getD 0 0=11∨(bz P (G.tk x).f).getD 0 0=12∨(bz P (G.tk x).f).getD 0 0=13∨(bz P (G.tk x).f).getD 0 0=14∨(bz P (G.tk x).f).getD 0 0=15∨(bz P (G.tk x).f).getD 0 0=16:=ah;have Um:HK P (G1.tk (W1.stack.headD 0))=(bz P (G.tk x).f).getD 0 0:=by rw[N5]
    rcases this with e|e|e|e|e|e|e|e|e<;>rw[e]at Um ⊢ <;>unfold cB Wk.go acq
    ·exact⟨hst,UB,Um⟩
    ·exact⟨hst,UB,.inl Um⟩
    ·exact⟨hst,UB,.inr Um⟩
    ·exact⟨hst,UB,Um⟩
    ·exact⟨hst,UB,Um⟩
    ·exact⟨hst,UB,Um⟩
    ·exact⟨hst,UB,Um⟩
    ·exact⟨hst,UB,.inl Um⟩
    ·exact⟨hst,UB,.inr Um⟩
  exact sM (W1:=W1) c hG uz ⟨h3.1,h3.2.1,h3.2.2.1,h3.2.2.2.1⟩ Yn
theorem axG(c:Cx l P bx ro G i W)(bP:W.cR= .m .next)(hx:W.stack.headD 0=x)(ht:t=G.tk x):rC l P bx ro ro G i W (Vt l P G W x t):=by
 have ct:=c.ct;unfold cB at ct;rw[bP]at ct;dsimp only at ct;obtain⟨a1,a2⟩:=ct;rw[hx]at a2;have hf:=c.fl.no (by unfold Wk.waits;rw[bP])
 subst ht;have hin:=(c.ty.pR (c.top a1).2).Z3;rw[hx]at hin;unfold Vt;split
 ·refine sM (W1:=W) c (.inl rfl) (by rw[eo,bP];decide) ⟨rfl,rfl,rfl,rfl⟩ ⟨rfl,rfl,rfl,rfl,by simp[Wk.looks],?_,oG hf.1 hf.2⟩
  unfold cB Wk.looks;dsimp only;rw[hx];exact⟨_,rfl,rfl,hin,.refl hin.1 hin.2,a1,a2,rfl⟩
 ·exact am4 c a1 hx rfl (.inl rfl) a2 hf.1 hf.2 (by rw[eo,bP];decide) ⟨rfl,rfl,rfl,rfl,rfl,rfl,rfl⟩
theorem auv{k:Lk}(h1:W.cR= .m .looking)(h2:W.look=some k)(hx:W.stack.headD 0=x)(a1:k.done=false)(a2:0≤k.at_∧k.at_<G.C.length)(a3:OA G.C (G.tk x).lN k.at_)(a4:W.stack≠ [])(a5:match W.seen with
  | .nx i=>Br P G.ts.length (G.tk x)∧i=bz P (G.tk x).f
  | .c .sK=>q4 P G W∧y4 W.again=true∧W.wait.how=1
  | .c .wW=>Br P G.ts.length (G.tk x)
  |_=>False):cB l P bx ro G W:=by
 unfold cB;dsimp only;rw[h1];dsimp only;subst hx;exact⟨k,h2,a1,a2,a3,a4,a5⟩
theorem alp{k:Lk}(c:Cx l P bx ro G i W)(bP:W.cR= .m .looking)(hk:W.look=some k)(hx:W.stack.headD 0=x)(ht:t=G.tk x):rC l P bx ro ro G i W (looking l G W k (G.nd k.at_) x t):=by
 have ct:=c.ct;unfold cB at ct;rw[bP]at ct;dsimp only at ct;obtain⟨k',hk',a1,a2,a3,a4,a5⟩:=ct;rw[hk]at hk';cases hk';rw[hx]at a3 a5;subst ht;obtain⟨hsc,FB⟩:=c.ty.RZ a2.1 a2.2;have kN:eo W:=by rw[eo,bP];decide
 unfold looking;dsimp only;split
 ·rename_i hd;have axH:(k.go G.M (G.nd k.at_)).wT=true→R1 G (G.tk x):=λq=>by
   unfold Lk.go at q;dsimp only at q;exact⟨k.at_,a3,_,hsc,by simpa using q⟩
  split at a5
  ·rename_i hs;have e1:∀b,RU l (G.tick W.id) {W with look:=some (k.go G.M (G.nd k.at_))} x (G.tk x) b=acr l (G.tick W.id) {W with look:=some (k.go G.M (G.nd k.at_))} x (G.tk x) _ b:=λb=>by unfold RU;dsimp only;rw[hs]
   rw[e1];have hf:=c.fl.no (by unfold Wk.waits;rw[bP];dsimp only;rw[hs])
   unfold acr;rw[a5.2];split
   ·exact agF c a4 hx rfl (.inr rfl) ⟨gD,gD⟩ hf.1 hf.2 kN ⟨rfl,rfl,rfl,rfl,rfl,rfl⟩
   ·exact am4 c a4 hx rfl (.inr rfl) a5.1 hf.1 hf.2 kN ⟨rfl,rfl,rfl,rfl,rfl,rfl,rfl⟩
  ·rename_i hs;have e1:∀b,RU l (G.tick W.id) {W with look:=some (k.go G.M (G.nd k.at_))} x (G.tk x) b=sK (G.tick W.id) {W with look:=some (k.go G.M (G.nd k.at_))} b:=λb=>by unfold RU;dsimp only;rw[hs]
   rw[e1];unfold sK;obtain⟨b1,b2,b3⟩:=a5;have ha:q4 P (G.tick W.id) {W with look:=some (k.go G.M (G.nd k.at_))}:=⟨b1.ne,b1.hm,b1.tg⟩;have hfl:Eg {W with look:=some (k.go G.M (G.nd k.at_))}:=⟨λq=>c.fl.no q,c.fl.R4,c.fl.ag⟩
   refine sM (W1:={W with look:=some (k.go G.M (G.nd k.at_))}) c (.inr rfl) kN ⟨rfl,rfl,rfl,rfl⟩ ?_;cases his:(k.go G.M (G.nd k.at_)).wT with
   |true=>
    rw[if_pos rfl];refine R7 (k:= .m .cancelled) ha hfl ⟨b2,?_⟩;show R1 (G.tick W.id) (G.tk (W.stack.headD 0));rw[hx];obtain⟨b,h1,h2⟩:=axH his;exact⟨b,h1,h2⟩
   |false=>
    rw[if_neg bh];exact⟨rfl,rfl,rfl,rfl,by simp[Wk.go],by unfold cB Wk.go;exact⟨ha.of rfl rfl rfl rfl,b2,b3⟩,Zx hfl rfl rfl rfl rfl ⟨rfl,rfl⟩⟩
  ·rename_i hs;have e1:∀b,RU l (G.tick W.id) {W with look:=some (k.go G.M (G.nd k.at_))} x (G.tk x) b=wW (G.tick W.id) {W with look:=some (k.go G.M (G.nd k.at_))} x (G.tk x) b:=λb=>by unfold RU;dsimp only;rw[hs]
   rw[e1];have hf:=c.fl.no (by unfold Wk.waits;rw[bP];dsimp only;rw[hs])
   unfold wW;split
   ·exact agF c a4 hx rfl (.inr rfl) ⟨gD,gD⟩ hf.1 hf.2 kN ⟨rfl,rfl,rfl,rfl,rfl,rfl⟩
   ·refine sM (W1:={W with look:=some (k.go G.M (G.nd k.at_))}) c (.inr rfl) kN ⟨rfl,rfl,rfl,rfl⟩ ⟨rfl,rfl,rfl,rfl,by simp[Wk.go],?_,oG hf.1 hf.2⟩
    unfold cB Wk.go;dsimp only;rw[hx];exact⟨a4,a5⟩
  ·exact a5.elim
 ·rename_i hd;have hd:(k.go G.M (G.nd k.at_)).done=false:=by simpa using hd
  have CU:(k.go G.M (G.nd k.at_)).at_=(G.nd k.at_).parent:=rfl;have h0:k.at_≠0:=by intro q;unfold Lk.go at hd;dsimp only at hd;rw[q]at hd;simp at hd
  have hp:=FB.p ah;refine Eh (m:=[]) (mc:=[]) c c.tt bh rfl (by rw[List.append_nil];rfl) (λ_ _ _ _=>rfl) rfl rfl rfl rfl kN (by dsimp only;rw[bP];simp) (λ_=> ?_) (λ_=>⟨λq=>c.fl.no q,c.fl.R4,c.fl.ag⟩)
  refine auv (G:=G.tick W.id) (W:={W with look:=some (k.go G.M (G.nd k.at_))}) bP rfl hx hd ⟨by rw[CU];omega,by rw[CU];show _<((G.C.length:Nat):Int);omega⟩ (by rw[CU];exact a3.snoc hsc ah ah) a4 ?_
  have hq:q4 P G W→q4 P (G.tick W.id) {W with look:=some (k.go G.M (G.nd k.at_))}:=λq=>⟨q.ne,q.hm,q.tg⟩
  show match W.seen with
   | .nx i=>Br P G.ts.length (G.tk x)∧i=bz P (G.tk x).f
   | .c .sK=>q4 P (G.tick W.id) {W with look:=some (k.go G.M (G.nd k.at_))}∧y4 W.again=true∧W.wait.how=1
   | .c .wW=>Br P G.ts.length (G.tk x)
   |_=>False
  generalize q4 P (G.tick W.id) {W with look:=some (k.go G.M (G.nd k.at_))}=Q at hq ⊢;split at a5<;>rename_i hs
  ·first|(rw[hs];exact a5)|exact a5
  ·first|(rw[hs];exact⟨hq a5.1,a5.2⟩)|exact⟨hq a5.1,a5.2⟩
  ·first|(rw[hs];exact a5)|exact a5
  ·exact a5.elim
end
section
variable {l:Lc} {P:List ea} {bx:List Int} {ro iI:List Ro} {G G' G1:Gl} {hold:List Nat} {W W' W1:Wk} {t t':Tk} {n i x y:Nat} {s a v:Int} {r:Ro}
theorem auw(h:t.cI≠ []):t.j3∈t.cI:=by
 obtain⟨o,m,wZ⟩:∃o m,t.cI=o++[m]:=⟨_,_,(List.dropLast_concat_getLast h).symm⟩;rw[BU wZ,wZ];simp
theorem Br.cI(h:Br P n t):t.cI≠ []:=by have:=h.fi.d1;intro q;rw[q]at this;simp at this
theorem Cx.j3(c:Cx l P bx ro G i W)(hx:x<G.ts.length)(ho:(G.tk x).cI≠ []):0≤(G.tk x).j3.1∧(G.tk x).j3.1<G.C.length:=(c.ty.pR hx).cI _ (auw ho)
theorem axI(c:Cx l P bx ro G i W)(bP:W.cR= .m .pass)(hx:W.stack.headD 0=x)(ht:t=G.tk x):rC l P bx ro ro G i W (pass l G W x t):=by
 have ct:=c.ct;unfold cB at ct;rw[bP]at ct;dsimp only at ct;obtain⟨a1,a2,a3⟩:=ct;rw[hx]at a2 a3;have qI:x<G.ts.length:=by rw[←hx];exact(c.top a1).2
 have hf:=c.fl.no (by unfold Wk.waits;rw[bP])
 have kN:eo W:=by rw[eo,bP];decide
 subst ht;unfold pass;split
 ·exact vr c (.inl rfl) gD kN ⟨rfl,rfl,rfl,rfl,rfl⟩
 ·refine YQ (t':={G.tk x with f:=m8 (G.tk x).f}) (W1:=W) c a1 hx (.inl rfl) (.inr rfl) ⟨rfl,rfl,rfl,rfl⟩ ((c.ty.pR qI).f (kind:=(G.tk x).kind) (v:=(G.tk x).v)) kN ⟨rfl,rfl,rfl,rfl⟩ λe1 e2=> ?_
  refine⟨rfl,rfl,rfl,rfl,by simp[Wk.go],?_,oG hf.1 hf.2⟩
  unfold cB Wk.go;dsimp only;rw[hx,show Gl.tk _ x=_ from e1];exact⟨a1,⟨(a2.fi.on c.acc (.inr a3)).imp λz hz=>⟨hz.1,by rw[e2];exact hz.2⟩,a2.kind⟩⟩
theorem apf(c:Cx l P bx ro G i W)(bP:W.cR= .m .cancel)(hx:W.stack.headD 0=x)(ht:t=G.tk x):rC l P bx ro ro G i W (cancel l G W x t (G.nd t.j3.1)):=by
 have ct:=c.ct;unfold cB at ct;rw[bP]at ct;dsimp only at ct;obtain⟨a1,a2,a3⟩:=ct;rw[hx]at a2 a3;have qI:x<G.ts.length:=by rw[←hx];exact(c.top a1).2
 have hf:=c.fl.no (by unfold Wk.waits;rw[bP])
 have kN:eo W:=by rw[eo,bP];decide
 subst ht;unfold cancel;split
 ·exact vr c (.inl rfl) gD kN ⟨rfl,rfl,rfl,rfl,rfl⟩
 have hin:=c.j3 qI a2.cI;obtain⟨hsc,FB⟩:=c.ty.RZ hin.1 hin.2;have hlt:=FB.a.lt;rw[c.ty.len]at hlt;have tyM:Ty l ro (G.mem (G.M.cs W.id (G.nd (G.tk x).j3.1).at_ 0 1).1):=c.ty.cs FB.a (.inr rfl);have sL:∀b,0≤b→(G.M.cs W.id (G.nd (G.tk x).j3.1).at_ 0 1).1.get b=if b=(G.nd (G.tk x).j3.1).at_∧G.M.get (G.nd (G.tk x).j3.1).at_=0 then 1 else G.M.get b:=λb hb=>aao FB.a.1 hlt hb
 have aDt:uv ro ro G (G.mem (G.M.cs W.id (G.nd (G.tk x).j3.1).at_ 0 1).1) W.hold:=by
  have hK:∀y,y<G.ts.length→(G.mem (G.M.cs W.id (G.nd (G.tk x).j3.1).at_ 0 1).1).K y=G.K y∧(G.mem (G.M.cs W.id (G.nd (G.tk x).j3.1).at_ 0 1).1).V y=G.V y:=λy hy=>by
   have hk:=(c.ty.pR hy).k;have hv:=(c.ty.pR hy).v;unfold Gl.K Gl.V;have e1:(G.mem (G.M.cs W.id (G.nd (G.tk x).j3.1).at_ 0 1).1).tk y=G.tk y:=rfl;rw[e1];have n1:=hk.ne FB.a bh;have n2:=hv.ne FB.a bh;show(G.M.cs _ _ _ _).1.get _=_∧(G.M.cs _ _ _ _).1.get _=_;rw[sL _ hk.1,if_neg (λq=>n1 q.1),sL _ hv.1,if_neg (λq=>n2 q.1)];exact⟨rfl,rfl⟩
  refine⟨⟨[],bh⟩,iN _,λ_ _ _=>rfl,λ_ _=>⟨rfl,rfl,rfl⟩,⟨[],by simp[Gl.mem]⟩,λy hy q=>by rw[←(hK y hy).1];exact q,λy hy _ _=>hK y hy,λy hy _=>hK y hy,λs' ⟨nd,h1,h2⟩=>⟨nd,h1,?_⟩⟩
  show(G.M.cs _ _ _ _).1.get _≠0;rw[sL _ (Jc c.ty h1).1];split
  ·decide
  ·exact h2
 obtain⟨e1,e2⟩:=XA (r:=((G.mem (G.M.cs W.id (G.nd (G.tk x).j3.1).at_ 0 1).1).set x {G.tk x with f:=m8 (G.tk x).f}).lK) (t':={G.tk x with f:=m8 (G.tk x).f}) (G:=G) rfl qI;have hT:TI ro G.C.length x {G.tk x with f:=m8 (G.tk x).f}:=(c.ty.pR qI).f (kind:=(G.tk x).kind) (v:=(G.tk x).v);have hmem:x∈W.hold:=by
  obtain⟨z,st,h1,h2,_⟩:=c.ne0 a1;rw[ku kN.1,h1,←hx,h2];simp
 have BK:uv ro ro G ((G.mem (G.M.cs W.id (G.nd (G.tk x).j3.1).at_ 0 1).1).set x {G.tk x with f:=m8 (G.tk x).f}).lK W.hold:=by
  have h:=aDt.trans (acG (t':={G.tk x with f:=m8 (G.tk x).f}) (G:=G.mem (G.M.cs W.id (G.nd (G.tk x).j3.1).at_ 0 1).1) (ro:=ro) hmem qI rfl rfl rfl) (.inl rfl);exact⟨h.ext,h.n,h.ts,h.ids,h.C,h.K0,h.K1,h.K2,h.ask⟩
 obtain⟨z,st,q1,q2,_⟩:=c.ne0 a1;have hz:z=x:=by rw[←hx,q2]
 subst hz;have hnd:=c.wt.nd;rw[ku kN.1,q1]at hnd;refine aeF c ?_ BK rfl rfl rfl rfl kN (by simp[Wk.I5]) (λy hy=> ?_) (λy hy=> ?_) (λ_=> ?_) (λ_=>oG hf.1 hf.2) (λy h1 h2=>by rw[e2]at h2;omega)
 ·have h:=tyM.set (x:=z) (t:={G.tk z with f:=m8 (G.tk z).f}) (λ_=>hT)
  exact{h with}
 ·rw[q1]at hy;show Gl.tk _ y=_;unfold Gl.tk;show(((G.ts.set z _))[y]?).getD tk0=_;rw[rG (by rintro rfl;exact(List.nodup_cons.1 hnd).1 hy)]
 ·have GJ:=c.wt.hl y (by rw[ku kN.1];exact hy)
  have h1:=c.wt.run y (by rw[ku kN.1];exact hy)
  have:=(BK.K2 y GJ);by_cases hy2:2≤G.K y
  ·exact(this hy2).1
  ·have hk:=(c.ty.pR GJ).k;have n1:=hk.ne FB.a bh;unfold Gl.K;rw[(BK.ids y GJ).2.2];show(G.M.cs _ _ _ _).1.get _=_;rw[sL _ hk.1,if_neg (λq=>n1 q.1)]
 ·unfold cB Wk.I5;dsimp only;rw[q1];show qV P _ (Gl.tk _ z) (.m .next)
  rw[show Gl.tk _ z=_ from e1];exact⟨(a2.fi.on c.acc (.inl a3)).imp λz hz=>⟨hz.1,by rw[e2];exact hz.2⟩,a2.kind⟩
theorem auy(c:Cx l P bx ro G i W)(bP:W.cR= .m .leave)(hx:W.stack.headD 0=x)(ht:t=G.tk x):rC l P bx ro ro G i W (leave l P G W x t):=by
 have ct:=c.ct;unfold cB at ct;rw[bP]at ct;dsimp only at ct;obtain⟨a1,a2,a3⟩:=ct;rw[hx]at a2 a3;have qI:x<G.ts.length:=by rw[←hx];exact(c.top a1).2
 have hf:=c.fl.no (by unfold Wk.waits;rw[bP])
 have kN:eo W:=by rw[eo,bP];decide
 subst ht;unfold leave;dsimp only;split
 ·exact vr c (.inl rfl) gD kN ⟨rfl,rfl,rfl,rfl,rfl⟩
 ·refine YQ (t':={G.tk x with f:=m8 (G.tk x).f,kind:=if (bz P (G.tk x).f).getD 0 0=15 then 3 else 2,v:=(G.tk x).f.getD (2+((bz P (G.tk x).f).getD 1 0).toNat) 0}) (W1:=W) c a1 hx (.inl rfl) (.inr rfl) ⟨rfl,rfl,rfl,rfl⟩ (c.ty.pR qI).f kN ⟨rfl,rfl,rfl,rfl⟩ λe1 e2=> ?_
  have hE:Ends {G.tk x with f:=m8 (G.tk x).f,kind:=if (bz P (G.tk x).f).getD 0 0=15 then 3 else 2,v:=(G.tk x).f.getD (2+((bz P (G.tk x).f).getD 1 0).toNat) 0}:=⟨by dsimp only;split<;>decide,by dsimp only;split<;>decide⟩
  exact N7 (t:={G.tk x with f:=m8 (G.tk x).f,kind:=if (bz P (G.tk x).f).getD 0 0=15 then 3 else 2,v:=(G.tk x).f.getD (2+((bz P (G.tk x).f).getD 1 0).toNat) 0}) a1 (by rw[hx];exact e1) hE hf.1 hf.2
theorem auz(c:Cx l P bx ro G i W)(bP:W.cR= .m .close)(hx:W.stack.headD 0=x)(ht:t=G.tk x):rC l P bx ro ro G i W (close_ G W t):=by
 have ct:=c.ct;unfold cB at ct;rw[bP]at ct;dsimp only at ct;obtain⟨a1,a2,a3⟩:=ct;have hf:=c.fl.no (by unfold Wk.waits;rw[bP])
 exact sM (W1:=W) c (.inl rfl) (by rw[eo,bP];decide) ⟨rfl,rfl,rfl,rfl⟩ (Xy a1 ⟨a2,a3⟩ hf.1 λq=>by rw[hf.2]at q;cases q)
theorem Zz{p:List Pl}{s:Int}:(BT p s).length=p.length:=by unfold BT;split<;>simp
theorem am5(h:t.cI≠ []):t.cI.dropLast.length+1=t.cI.length:=by
 have:=List.length_pos_iff.2 h;simp;omega
theorem apg(c:Cx l P bx ro G i W)(bP:W.cR= .m .gC)(hx:W.stack.headD 0=x)(ht:t=G.tk x):rC l P bx ro ro G i W (gC l P G W x t (G.nd t.j3.1)):=by
 have ct:=c.ct;unfold cB at ct;rw[bP]at ct;dsimp only at ct;obtain⟨a1,a2,a3⟩:=ct;rw[hx]at a2 a3;have qI:x<G.ts.length:=by rw[←hx];exact(c.top a1).2
 have hf:=c.fl.no (by unfold Wk.waits;rw[bP])
 have kN:eo W:=by rw[eo,bP];decide
 subst ht;have hT:=c.ty.pR qI;have hd:=a2.fi.scopes c.acc (.inl a3);have hdl:=am5 a2.cI;have hcap:=c.ty.cap;have xj:=hT.sn;have hsl:=hT.sl;unfold gC;dsimp only;split
 ·exact vr c (.inl rfl) gD kN ⟨rfl,rfl,rfl,rfl,rfl⟩
 generalize hb:(G.M.get (G.nd (G.tk x).j3.1).at_ !=0)=b;have hsz:((G.tk x).gC++(if b then ByteArray.mk #[49]else ByteArray.mk #[48])).size=(G.tk x).gC.size+1:=by cases b<;>simp<;>rfl
 refine agE (t':={G.tk x with cI:=(G.tk x).cI.dropLast,gC:=(G.tk x).gC++(if b then ByteArray.mk #[49]else ByteArray.mk #[48]),f:=iv (G.tk x).f (bz P (G.tk x).f) b}) (W1:=W) (G.M.tick W.id) (wr (G.steps+1)) (G.time.1,Ko.Ea G.time.2 (G.tk x).j3.1) (BT G.P (G.tk x).j3.1) c a1 hx rfl c.tt (λ_ _ _ _=>rfl) ⟨rfl,rfl,rfl,rfl⟩ ?_ (c.ty.ck.drop _) (λy hy=>c.ty.PT y (List.mem_filter.1 hy).1) Zz kN ⟨rfl,rfl,rfl,rfl⟩ λe1 e2=> ?_
 ·exact hT.to ⟨rfl,rfl,rfl,rfl⟩ (λp hp=>hT.cI p (List.dropLast_subset _ hp)) (by dsimp only;rw[hsz];omega) hsl
 ·refine⟨rfl,rfl,rfl,rfl,by simp[Wk.go],?_,oG hf.1 hf.2⟩
  unfold cB Wk.go;dsimp only;rw[hx,show Gl.tk _ x=_ from e1];refine⟨a1,⟨?_,a2.kind⟩⟩;have h:=a2.fi.gC (b:=b) c.acc ah a3;have e:(G.tk x).cI.dropLast.length=(G.tk x).cI.length - 1:=ah;show FI P _ (iv (G.tk x).f (bz P (G.tk x).f) b) (G.tk x).cI.dropLast.length;rw[e];exact h.imp λz hz=>⟨hz.1,by rw[e2];exact hz.2⟩
theorem aph(c:Cx l P bx ro G i W)(bP:W.cR= .m .joined)(hx:W.stack.headD 0=x)(ht:t=G.tk x):rC l P bx ro ro G i W (joined l P G W x t (G.tk (W.target.getD 0))):=by
 have ct:=c.ct;unfold cB at ct;rw[bP]at ct;dsimp only at ct;obtain⟨a1,a2,a3,a4⟩:=ct;obtain⟨y,h1,h2,h3⟩|⟨k,h1,_⟩:=a1.cases;rotate_left
 ·rw[h1]at a2;cases a2
 have qI:x<G.ts.length:=by rw[←hx];exact(c.top a1.ne).2
 have hf:=c.fl.no (by unfold Wk.waits;rw[bP])
 have kN:eo W:=by rw[eo,bP];decide
 subst ht;rw[hx]at h3;obtain⟨b1,b2,b3,b4⟩:=h3;have hkk:=c.ty.val _ _ (c.ty.pR b4).k;have hy:W.target.getD 0=y:=by rw[h2];rfl
 have hk4:W.kind=2∨W.kind=3∨W.kind=4:=by
  rw[a3,hy]at a4 ⊢;have:=hkk.2;unfold Gl.K at a4 ⊢;omega
 unfold joined;dsimp only;split
 ·exact vr c (.inl rfl) gD kN ⟨rfl,rfl,rfl,rfl,rfl⟩
 generalize hv:(if W.kind=4 then(0:Int)else G.M.get ((G.tk (W.target.getD 0)).jt+1))=v
 have hG:(if W.kind=4 then G else G.tick W.id)=G∨(if W.kind=4 then G else G.tick W.id)=G.tick W.id:=by split<;>simp
 split
 ·rename_i hb;refine YQ (t':={G.tk x with f:=(c9 (G.tk x).f (bz P (G.tk x).f) W.kind v).1,kind:=3,v:=(c9 (G.tk x).f (bz P (G.tk x).f) W.kind v).2.1}) (W1:=W.go .next) c a1.ne hx hG (.inr rfl) ⟨rfl,rfl,rfl,rfl⟩ (c.ty.pR qI).f kN ⟨rfl,rfl,rfl,rfl⟩ λe1 e2=> ?_
  exact N7 (W:=W.go .next) (t:={G.tk x with f:=(c9 (G.tk x).f (bz P (G.tk x).f) W.kind v).1,kind:=3,v:=(c9 (G.tk x).f (bz P (G.tk x).f) W.kind v).2.1}) a1.ne (by show Gl.tk _ (W.stack.headD 0)=_;rw[hx];exact e1) ⟨by show(2:Int)≤3;decide,by show(3:Int)≤4;decide⟩ hf.1 hf.2
 ·rename_i hb;refine YQ (t':={G.tk x with f:=(c9 (G.tk x).f (bz P (G.tk x).f) W.kind v).1}) (W1:=W) c a1.ne hx hG (.inr rfl) ⟨rfl,rfl,rfl,rfl⟩ ((c.ty.pR qI).f (kind:=(G.tk x).kind) (v:=(G.tk x).v)) kN ⟨rfl,rfl,rfl,rfl⟩ λe1 e2=> ?_
  refine⟨rfl,rfl,rfl,rfl,by simp[Wk.go],?_,oG hf.1 hf.2⟩
  unfold cB Wk.go;dsimp only;rw[hx,show Gl.tk _ x=_ from e1];exact⟨a1.ne,⟨(b1.fi.joined c.acc b2 hk4 (by simpa using hb)).imp λz hz=>⟨hz.1,by rw[e2];exact hz.2⟩,b1.kind⟩⟩
end
section
variable {l:Lc} {P:List ea} {bx:List Int} {ro iI:List Ro} {G G' G1:Gl} {hold:List Nat} {W W' W1:Wk} {t t':Tk} {n i x y:Nat} {s a v:Int} {r:Ro}
theorem ai4{z:Int}(h:0≤z∧z≤32):wr (z+1)=z+1:=dQ ⟨ah,ah⟩
theorem axJ(c:Cx l P bx ro G i W)(bP:W.cR= .m .fork)(hx:W.stack.headD 0=x)(ht:t=G.tk x):∃iI,rC l P bx ro iI G i W (fork G W t (G.nd t.j3.1)):=by
 have ct:=c.ct;unfold cB at ct;rw[bP]at ct;dsimp only at ct;obtain⟨a1,a2,a3⟩:=ct;rw[hx]at a2 a3;have qI:x<G.ts.length:=by rw[←hx];exact(c.top a1).2
 have hf:=c.fl.no (by unfold Wk.waits;rw[bP])
 have kN:eo W:=by rw[eo,bP];decide
 subst ht;have hin:=c.j3 qI a2.cI;obtain⟨hsc,FB⟩:=c.ty.RZ hin.1 hin.2;unfold fork;split
 ·exact⟨ro,vr c (.inl rfl) gD kN ⟨rfl,rfl,rfl,rfl,rfl⟩⟩
 rename_i hn;split
 ·exact⟨ro,vr c (.inl rfl) gD kN ⟨rfl,rfl,rfl,rfl,rfl⟩⟩
 rename_i hr;have hr:G.M.room 2=true:=by simpa using hr
 rw[ai4 FB.n]at hn ⊢;have xj:=FB.n;have ty:=aeG (nd:=⟨(G.tk x).j3.1,(G.nd (G.tk x).j3.1).nest+1,(G.M.cells.length:Nat)⟩) (pl:=(-2,0,0,false)) (tm:=G.time) (wk:=W.id) c.ty hr hin ⟨by dsimp only;omega,by dsimp only;omega⟩ rfl c.ty.ck (λy hy=>by have:=c.ty.PT y hy;omega)
 refine⟨_,Eh (m:=_) (mc:=_) c ty rfl rfl rfl (λa s hs _=> ?_) rfl rfl rfl rfl kN bh (λ_=> ?_) (λ_=>oG hf.1 hf.2)⟩
 ·have:=hs.lt;rw[c.ty.len]at this;show((G.M.tick W.id).grow 2).get a=_;rw[xx (M:=G.M.tick W.id) hs.1 this,tv]
 ·unfold cB;dsimp only;rw[hx];exact⟨a1,a2,a3,ah,by show((G.C.length:Nat):Int)<((G.C++[_]).length:Nat);simp;omega⟩
theorem api(c:Cx l P bx ro G i W)(bP:W.cR= .m .sV)(hx:W.stack.headD 0=x)(ht:t=G.tk x):rC l P bx ro ro G i W (sV l G W (G.nd t.j3.1)):=by
 have ct:=c.ct;unfold cB at ct;rw[bP]at ct;dsimp only at ct;obtain⟨a1,a2,a3⟩:=ct;rw[hx]at a2;have qI:x<G.ts.length:=by rw[←hx];exact(c.top a1).2
 have hf:=c.fl.no (by unfold Wk.waits;rw[bP])
 subst ht;have hin:=c.j3 qI a2.cI;obtain⟨hsc,FB⟩:=c.ty.RZ hin.1 hin.2;unfold sV;refine Eh (m:=[]) (mc:=[]) c (c.ty.ad FB.b trivial) bh rfl (by rw[List.append_nil];rfl) (xm c.ty rfl FB.b (λq=>q)) rfl rfl rfl rfl (by rw[bP];decide) (by simp[Wk.AG]) (λ_=> ?_) (λ_=>oG hf.1 hf.2)
 unfold cB Wk.AG;dsimp only;rw[hx];exact⟨_,rfl,a1,a2,a3,Xx c.ty.t1 a3 ah,rfl⟩
theorem auA(c:Cx l P bx ro G i W)(bP:W.cR= .m .wV)(hx:W.stack.headD 0=x)(ht:t=G.tk x):∃iI,rC l P bx ro iI G i W (Kb l P G W x t):=by
 have ct:=c.ct;unfold cB at ct;rw[bP]at ct;dsimp only at ct;obtain⟨a1,a2,a3,a4⟩:=ct;rw[hx]at a2 a3;have qI:x<G.ts.length:=by rw[←hx];exact(c.top a1).2
 have hf:=c.fl.no (by unfold Wk.waits;rw[bP])
 have kN:eo W:=by rw[eo,bP];decide
 subst ht;have hin:=c.j3 qI a2.cI;have hT:=c.ty.pR qI;unfold Kb;dsimp only;split
 ·exact⟨ro,vr c (.inl rfl) gD kN ⟨rfl,rfl,rfl,rfl,rfl⟩⟩
 split
 ·exact⟨ro,vr c (.inl rfl) gD kN ⟨rfl,rfl,rfl,rfl,rfl⟩⟩
 rename_i hr;have hr:G.M.room 3=true:=by simpa using hr
 obtain⟨g',g1,g2,g3,_,g5⟩:=a2.fi.fork c.acc a3;have ZD:∃kt,Gq G.T (G.tk x).id=some kt:=by
  rw[hT.id];exact abJ (by unfold AL;simp;have:=c.ty.kl;omega)
 obtain⟨kt,ZD⟩:=ZD;have ty:=auo (wk:=W.id) (f:=jb (G.tk x).f ((bz P (G.tk x).f).getD 4 0) (Ed P ((bz P (G.tk x).f).getD 4 0))) c.ty hr ZD hin a4;generalize hGm:G.more W.id (G.tk x).id (G.tk x).j3.1 W.own (jb (G.tk x).f ((bz P (G.tk x).f).getD 4 0) (Ed P ((bz P (G.tk x).f).getD 4 0)))=Gm at ty;have hts:Gm.ts=G.ts++[⟨(G.T.length:Nat),(G.tk x).j3.1,W.own,(G.M.cells.length:Nat),jb (G.tk x).f ((bz P (G.tk x).f).getD 4 0) (Ed P ((bz P (G.tk x).f).getD 4 0)),ByteArray.mk #[],[],[W.own],0,0⟩]:=by rw[←hGm];rfl
 have hlen:Gm.ts.length=G.ts.length+1:=by rw[hts];simp
 have hC:Gm.C=G.C:=by rw[←hGm];rfl
 have Me:∀a s,kM ro a s→s.Jl→Gm.M.get a=G.M.get a:=λa s hs _=>by
  have:=hs.lt;rw[c.ty.len]at this;rw[←hGm];show((G.M.tick W.id).grow 3).get a=_;rw[xx (M:=G.M.tick W.id) hs.1 this,tv]
 have auB:uv ro (ro++[.fk G.ts.length,.fv G.ts.length,.fw G.ts.length]) G Gm W.hold:=acE (mc:=[]) c.ty rfl hts (by rw[hC];simp) Me
 have hxm:Gm.tk x=G.tk x:=by unfold Gl.tk;rw[hts,sY qI]
 obtain⟨z,st,q1,q2,_⟩:=c.ne0 a1;have hz:z=x:=by rw[←hx,q2]
 subst hz;have hmem:z∈W.hold:=by rw[ku kN.1,q1];simp
 have hTf:TI (ro++[.fk G.ts.length,.fv G.ts.length,.fw G.ts.length]) Gm.C.length z {G.tk z with f:=eC (G.tk z).f (bz P (G.tk z).f) (G.ts.length:Nat)}:=by
  have:=ty.pR (x:=z) ah;rw[hxm]at this;exact this.f (kind:=(G.tk z).kind) (v:=(G.tk z).v)
 have ty2:Ty l (ro++[.fk G.ts.length,.fv G.ts.length,.fw G.ts.length]) (Gm.set z {G.tk z with f:=eC (G.tk z).f (bz P (G.tk z).f) (G.ts.length:Nat)}).lK:={ty.set (λ_=>hTf)with}
 have aDu:uv (ro++[.fk G.ts.length,.fv G.ts.length,.fw G.ts.length]) (ro++[.fk G.ts.length,.fv G.ts.length,.fw G.ts.length]) Gm (Gm.set z {G.tk z with f:=eC (G.tk z).f (bz P (G.tk z).f) (G.ts.length:Nat)}).lK W.hold:=by
  have h:=acG (ro:=ro++[.fk G.ts.length,.fv G.ts.length,.fw G.ts.length]) (t':={G.tk z with f:=eC (G.tk z).f (bz P (G.tk z).f) (G.ts.length:Nat)}) (G:=Gm) hmem ah (by rw[hxm]) (by rw[hxm]) (by rw[hxm])
  exact⟨h.ext,h.n,h.ts,h.ids,h.C,h.K0,h.K1,h.K2,h.ask⟩
 have BK:=auB.trans aDu (.inr λy hy=>c.wt.hl y hy);obtain⟨e1,e2⟩:=XA (r:=(Gm.set z {G.tk z with f:=eC (G.tk z).f (bz P (G.tk z).f) (G.ts.length:Nat)}).lK) (G:=Gm) rfl (by omega:z<Gm.ts.length)
 have hnd:=c.wt.nd;rw[ku kN.1,q1]at hnd;refine⟨_,aeF c ty2 BK rfl rfl rfl rfl kN bh (λy hy=> ?_) (λy hy=> ?_) (λ_=> ?_) (λ_=>oG hf.1 hf.2) (λy h1 h2=> ?_)⟩
 ·rw[q1]at hy;have GJ:=c.wt.hl y (by rw[ku kN.1,q1];simp[show y∈st from hy])
  show Gl.tk _ y=_;unfold Gl.tk;show(((Gm.ts.set z _))[y]?).getD tk0=_;rw[rG (by rintro rfl;exact(List.nodup_cons.1 hnd).1 hy),hts,sY GJ]
 ·have GJ:=c.wt.hl y (by rw[ku kN.1];exact hy)
  unfold Gl.K;rw[(BK.ids y GJ).2.2];exact Me _ _ (c.ty.pR GJ).k trivial
 ·unfold cB;dsimp only;rw[hx,show Gl.tk _ z=_ from e1];refine⟨a1,⟨?_,a2.kind⟩,ah,?_⟩
  ·exact(FI.sV (H:=λw=>0≤w∧w<((Gm.set z {G.tk z with f:=eC (G.tk z).f (bz P (G.tk z).f) (G.ts.length:Nat)}).lK.ts.length:Nat)) c.acc (a2.fi.imp λw hw=>⟨hw.1,by rw[e2];omega⟩) a3 ⟨ah,by rw[e2];omega⟩)
  ·show((G.ts.length:Nat):Int)<((Gm.set z {G.tk z with f:=eC (G.tk z).f (bz P (G.tk z).f) (G.ts.length:Nat)}).lK.ts.length:Nat);rw[e2];omega
 ·have hyn:y=G.ts.length:=by
   have h2:y<((Gm.set z {G.tk z with f:=eC (G.tk z).f (bz P (G.tk z).f) (G.ts.length:Nat)}).lK).ts.length:=h2;have:((Gm.set z {G.tk z with f:=eC (G.tk z).f (bz P (G.tk z).f) (G.ts.length:Nat)}).lK).ts.length=G.ts.length+1:=by rw[e2,hlen]
   omega
  subst hyn;have:Gl.tk (Gm.set z {G.tk z with f:=eC (G.tk z).f (bz P (G.tk z).f) (G.ts.length:Nat)}).lK G.ts.length=⟨(G.T.length:Nat),(G.tk z).j3.1,W.own,(G.M.cells.length:Nat),jb (G.tk z).f ((bz P (G.tk z).f).getD 4 0) (Ed P ((bz P (G.tk z).f).getD 4 0)),ByteArray.mk #[],[],[W.own],0,0⟩:=by
   unfold Gl.tk;show(((Gm.ts.set z _))[G.ts.length]?).getD tk0=_;rw[rG ah,hts,uK (iN _),Nat.sub_self];rfl
  rw[this,g3];have hst:=acA (f:=(G.tk z).f) (n:=(bz P (G.tk z).f).getD 4 0) (aY:=g'.aY) a2.fi.len;exact⟨g5.imp λw hw=>⟨hw.1,by rw[e2];omega⟩,rfl,rfl,rfl,rfl,hst.2.2.2.1⟩
theorem aeK{tm:Int×List (Int×Int)}{z m:Int}(hc:CK tm)(hz:0≤z)(vq:∀y∈tm.2,y.2<z)(hm:0<m∧m≤1099511627776):(Ko.CM tm z m).1=0∧∀y∈(Ko.CM tm z m).2,y.2<z+1:=by
 unfold Ko.CM;rw[if_neg (by unfold Ko.MT;omega)]
 have hn:¬Ko.has tm.2 z=true:=by
  intro q;obtain⟨y,h1,h2⟩:=Ko.Xj.1 q;have:=vq y h1;omega
 rw[if_neg hn];refine⟨rfl,λy hy=> ?_⟩;rcases Ko.ab9.1 hy with rfl|h
 ·dsimp only;omega
 ·have:=vq y h;omega
theorem auC(c:Cx l P bx ro G i W)(bP:W.cR= .m .opens)(hx:W.stack.headD 0=x)(ht:t=G.tk x)(hN:(bz P t.f).getD 4 0≤1099511627776){pk:Int}:∃iI,rC l P bx ro iI G i W (opens l P G W x t (G.nd t.j3.1) pk):=by
 have ct:=c.ct;unfold cB at ct;rw[bP]at ct;dsimp only at ct;obtain⟨a1,a2,a3⟩:=ct;rw[hx]at a2 a3;have qI:x<G.ts.length:=by rw[←hx];exact(c.top a1).2
 have hf:=c.fl.no (by unfold Wk.waits;rw[bP])
 have kN:eo W:=by rw[eo,bP];decide
 subst ht;have hin:=c.j3 qI a2.cI;obtain⟨hsc,FB⟩:=c.ty.RZ hin.1 hin.2;have hT:=c.ty.pR qI;unfold opens;dsimp only;split
 ·exact⟨ro,vr c (.inl rfl) gD kN ⟨rfl,rfl,rfl,rfl,rfl⟩⟩
 split
 ·exact⟨ro,vr c (.inl rfl) gD kN ⟨rfl,rfl,rfl,rfl,rfl⟩⟩
 rename_i hn;split
 ·exact⟨ro,vr c (.inl rfl) gD kN ⟨rfl,rfl,rfl,rfl,rfl⟩⟩
 rename_i hr;have hr:G.M.room 2=true:=by simpa using hr
 rw[ai4 FB.n]at hn ⊢;have xj:=FB.n;generalize htm:(if (bz P (G.tk x).f).getD 4 0>0 then(G.time.1,(Ko.CM G.time (G.C.length:Nat) ((bz P (G.tk x).f).getD 4 0)).2)else G.time)=tm
 have hck:CK tm∧∀y∈tm.2,y.2<G.C.length+1:=by
  rw[←htm];split
  ·exact⟨c.ty.ck.set _ _,(aeK c.ty.ck ah c.ty.PT ⟨ah,hN⟩).2⟩
  ·exact⟨c.ty.ck,λy hy=>by have:=c.ty.PT y hy;omega⟩
 have ty:=aeG (nd:=⟨(G.tk x).j3.1,(G.nd (G.tk x).j3.1).nest+1,(G.M.cells.length:Nat)⟩) (pl:=((G.tk x).id,(((G.tk x).scopes.length:Nat):Int),pk,false)) (tm:=tm) (wk:=W.id) c.ty hr hin ⟨by dsimp only;omega,by dsimp only;omega⟩ rfl hck.1 hck.2
 generalize hG1:({G with M:=(G.M.tick W.id).grow 2,C:=G.C++[⟨(G.tk x).j3.1,(G.nd (G.tk x).j3.1).nest+1,(G.M.cells.length:Nat)⟩],P:=G.P++[((G.tk x).id,(((G.tk x).scopes.length:Nat):Int),pk,false)],time:=tm}:Gl)=G1 at ty;have hts:G1.ts=G.ts:=by rw[←hG1]
 have hC:G1.C=G.C++[⟨(G.tk x).j3.1,(G.nd (G.tk x).j3.1).nest+1,(G.M.cells.length:Nat)⟩]:=by rw[←hG1]
 have hCl:G1.C.length=G.C.length+1:=by rw[hC];simp
 have htx:G1.tk x=G.tk x:=by unfold Gl.tk;rw[hts]
 have Me:∀a s,kM ro a s→s.Jl→G1.M.get a=G.M.get a:=λa s hs _=>by
  have:=hs.lt;rw[c.ty.len]at this;rw[←hG1];show((G.M.tick W.id).grow 2).get a=_;rw[xx (M:=G.M.tick W.id) hs.1 this,tv]
 have hT1:=ty.pR (x:=x) (by rw[hts];exact qI)
 rw[htx]at hT1;have aGb:=hT.sn;have aGc:=hT.sl;have hTo:TI (ro++[.ask G.C.length,.liv G.C.length]) G1.C.length x {G.tk x with scopes:=(G.tk x).scopes++[((G.C.length:Nat):Int)],cI:=(G.tk x).cI++[(((G.C.length:Nat):Int),W.mark)],f:=m8 (G.tk x).f}:=by
  refine hT1.to ⟨rfl,rfl,rfl,rfl⟩ (λp hp=> ?_) (by simp;omega) (by simp;omega)
  rcases B0.1 hp with h|h
  ·exact hT1.cI p h
  ·simp at h;subst h;dsimp only;omega
 have ty2:Ty l (ro++[.ask G.C.length,.liv G.C.length]) (G1.set x {G.tk x with scopes:=(G.tk x).scopes++[((G.C.length:Nat):Int)],cI:=(G.tk x).cI++[(((G.C.length:Nat):Int),W.mark)],f:=m8 (G.tk x).f}).lK:={ty.set (λ_=>hTo)with}
 obtain⟨e1,e2⟩:=XA (r:=(G1.set x {G.tk x with scopes:=(G.tk x).scopes++[((G.C.length:Nat):Int)],cI:=(G.tk x).cI++[(((G.C.length:Nat):Int),W.mark)],f:=m8 (G.tk x).f}).lK) (G:=G1) rfl (by rw[hts];exact qI)
 refine⟨_,aun (t':={G.tk x with scopes:=(G.tk x).scopes++[((G.C.length:Nat):Int)],cI:=(G.tk x).cI++[(((G.C.length:Nat):Int),W.mark)],f:=m8 (G.tk x).f}) c a1 ty2 rfl (by show List.set _ _ _=_;rw[hts,hx]) (by show G1.C=_;exact hC) Me (by rw[hx]) (by rw[hx]) (by rw[hx]) rfl rfl rfl rfl kN (by simp[Wk.go]) (λ_=> ?_) (λ_=>oG hf.1 hf.2)⟩
 unfold cB Wk.go;dsimp only;rw[hx,show Gl.tk _ x=_ from e1];refine⟨a1,⟨?_,a2.kind⟩⟩;have h:=a2.fi.opens c.acc (by have:=c.ty.cap;omega) a3
 show FI P _ (m8 (G.tk x).f) ((G.tk x).cI++[_]).length;rw[tW];exact h.imp λw hw=>⟨hw.1,by rw[show((G1.set x {G.tk x with scopes:=(G.tk x).scopes++[((G.C.length:Nat):Int)],cI:=(G.tk x).cI++[(((G.C.length:Nat):Int),W.mark)],f:=m8 (G.tk x).f}).lK).ts.length=_ from e2,hts];exact hw.2⟩
theorem Jd(c:Cx l P bx ro G i W)(kN:eo W)(hx:x∈W.stack):G.K x=1∧x<G.ts.length:=by
 have hm:x∈W.hold:=by rw[ku kN.1];exact hx
 refine⟨?_,c.wt.hl x hm⟩;rcases c.wt.run x hm with h|⟨_,_,h|h⟩
 ·exact h
 ·exact absurd h kN.2.1
 ·exact absurd h kN.2.2
theorem aAR(c:Cx l P bx ro G i W)(bP:W.cR= .m .put)(hx:W.stack.headD 0=x)(ht:t=G.tk x):rC l P bx ro ro G i W (put G W t):=by
 have ct:=c.ct;unfold cB at ct;rw[bP]at ct;dsimp only at ct;obtain⟨a1,a2,a3⟩:=ct;rw[hx]at a2 a3;have hf:=c.fl.no (by unfold Wk.waits;rw[bP])
 have kN:eo W:=by rw[eo,bP];decide
 subst ht;obtain⟨z,st,q1,q2,_⟩:=c.ne0 a1;have hz:z=x:=by rw[←hx,q2]
 subst hz;obtain⟨hK,qI⟩:=Jd c kN (x:=z) (by rw[q1];simp)
 unfold put;split
 ·refine sM (W1:=W) c (.inl rfl) kN ⟨rfl,rfl,rfl,rfl⟩ ⟨rfl,rfl,rfl,rfl,by simp[Wk.go],?_,oG hf.1 hf.2⟩
  unfold cB Wk.go;dsimp only;rw[hx];exact⟨a1,a2,a3⟩
 ·have hL:=(c.ty.pR qI).v;have hlt:=hL.lt;rw[c.ty.len]at hlt;have sL:∀b,0≤b→((G.M.tick W.id).put ((G.tk z).jt+1) (G.tk z).v).get b=if b=(G.tk z).jt+1 then(G.tk z).v else G.M.get b:=λb hb=>Mb (M:=G.M.tick W.id) hL.1 hlt hb
  have YR:∀y,y<G.ts.length→(G.mem ((G.M.tick W.id).put ((G.tk z).jt+1) (G.tk z).v)).K y=G.K y∧(y≠z→(G.mem ((G.M.tick W.id).put ((G.tk z).jt+1) (G.tk z).v)).V y=G.V y):=λy hy=>by
   have hk:=(c.ty.pR hy).k;have hv:=(c.ty.pR hy).v;refine⟨?_,λhne=> ?_⟩
   ·show((G.M.tick W.id).put _ _).get (G.tk y).jt=_;rw[sL _ hk.1,if_neg (hk.ne hL bh)];rfl
   ·show((G.M.tick W.id).put _ _).get ((G.tk y).jt+1)=_;rw[sL _ hv.1,if_neg (hv.ne hL (by simpa using hne))];rfl
  have hmem:z∈W.hold:=by rw[ku kN.1,q1];simp
  have BK:uv ro ro G (G.mem ((G.M.tick W.id).put ((G.tk z).jt+1) (G.tk z).v)) W.hold:=
   ⟨⟨[],bh⟩,iN _,λ_ _ _=>rfl,λ_ _=>⟨rfl,rfl,rfl⟩,⟨[],by simp[Gl.mem]⟩,λy hy q=>by rw[←(YR y hy).1];exact q,λy hy hn _=>⟨(YR y hy).1,(YR y hy).2 (by rintro rfl;exact hn hmem)⟩,λy hy h2=>⟨(YR y hy).1,(YR y hy).2 (by rintro rfl;omega)⟩,λs' ⟨nd,h1,h2⟩=>⟨nd,h1,by
    show((G.M.tick W.id).put _ _).get _≠0;have hl:=Jc c.ty h1;rw[sL _ hl.1,if_neg (hl.ne hL bh)];exact h2⟩⟩
  refine aeF c (c.ty.put ⟨rfl,rfl,bh⟩ hL trivial) BK rfl rfl rfl rfl kN (by simp[Wk.go]) (λ_ _=>rfl) (λy hy=>(YR y (c.wt.hl y (by rw[ku kN.1];exact hy))).1) (λ_=> ?_) (λ_=>oG hf.1 hf.2) (λy h1 h2=>by have h2:y<G.ts.length:=h2;omega)
  unfold cB Wk.go;dsimp only;rw[hx];exact⟨a1,a2,a3⟩
theorem aAS(c:Cx l P bx ro G i W)(bP:W.cR= .m .fin)(hx:W.stack.headD 0=x)(ht:t=G.tk x):rC l P bx ro ro G i W (fin G W t):=by
 have ct:=c.ct;unfold cB at ct;rw[bP]at ct;dsimp only at ct;obtain⟨a1,a2,a3⟩:=ct;rw[hx]at a2 a3;have hf:=c.fl.no (by unfold Wk.waits;rw[bP])
 have kN:eo W:=by rw[eo,bP];decide
 subst ht;obtain⟨z,st,q1,q2,_⟩:=c.ne0 a1;have hz:z=x:=by rw[←hx,q2]
 subst hz;obtain⟨hK,qI⟩:=Jd c kN (x:=z) (by rw[q1];simp)
 have GF:=a2.k2;have hk4:=a2.k4;have hL:=(c.ty.pR qI).k;have hlt:=hL.lt;rw[c.ty.len]at hlt;have hm:z∈W.hold:=by rw[ku kN.1,q1];simp
 have hnd:=c.wt.nd;rw[ku kN.1,q1]at hnd;unfold fin;rw[Int.add_zero];have sL:∀b,0≤b→(G.M.cs W.id (G.tk z).jt 1 (G.tk z).kind).1.get b=if b=(G.tk z).jt then(G.tk z).kind else G.M.get b:=λb hb=>by
  rw[aao hL.1 hlt hb];have:G.M.get (G.tk z).jt=1:=hK;simp[this]
 have YR:∀y,y<G.ts.length→(y≠z→(G.mem (G.M.cs W.id (G.tk z).jt 1 (G.tk z).kind).1).K y=G.K y)∧(G.mem (G.M.cs W.id (G.tk z).jt 1 (G.tk z).kind).1).V y=G.V y:=λy hy=>by
  have hk:=(c.ty.pR hy).k;have hv:=(c.ty.pR hy).v;refine⟨λhne=> ?_,?_⟩
  ·show(G.M.cs _ _ _ _).1.get (G.tk y).jt=_;rw[sL _ hk.1,if_neg (hk.ne hL (by simpa using hne))];rfl
  ·show(G.M.cs _ _ _ _).1.get ((G.tk y).jt+1)=_;rw[sL _ hv.1,if_neg (hv.ne hL bh)];rfl
 have hKz:(G.mem (G.M.cs W.id (G.tk z).jt 1 (G.tk z).kind).1).K z=(G.tk z).kind:=by
  show(G.M.cs _ _ _ _).1.get (G.tk z).jt=_;rw[sL _ hL.1,if_pos rfl]
 have ty:Ty l ro (G.mem (G.M.cs W.id (G.tk z).jt 1 (G.tk z).kind).1):=c.ty.cs hL ⟨ah,hk4⟩;have BK:uv ro ro G (G.mem (G.M.cs W.id (G.tk z).jt 1 (G.tk z).kind).1) W.hold:=
  ⟨⟨[],bh⟩,iN _,λ_ _ _=>rfl,λ_ _=>⟨rfl,rfl,rfl⟩,⟨[],by simp[Gl.mem]⟩,λy hy q=>by
   by_cases e:y=z
   ·subst e;rw[hKz]at q;omega
   ·rw[←(YR y hy).1 e];exact q,
  λy hy hn _=>⟨(YR y hy).1 (by rintro rfl;exact hn hm),(YR y hy).2⟩,λy hy h2=>⟨(YR y hy).1 (by rintro rfl;omega),(YR y hy).2⟩,λs' ⟨nd,h1,h2⟩=>⟨nd,h1,by
    show(G.M.cs _ _ _ _).1.get _≠0;have hl:=Jc c.ty h1;rw[sL _ hl.1,if_neg (hl.ne hL bh)];exact h2⟩⟩
 have e2:(W.go .asks).hold=W.hold:=by rw[ku (by simp[Wk.go]),ku kN.1];rfl
 refine⟨ty,BK,⟨c.wt.id,c.wt.lt,c.wt.dq,acH (G:=G) rfl c.wt.bk,c.wt.dp,λy hy=>c.wt.hl y (by rw[←e2];exact hy),λ_=> ?_,λ_=>oG hf.1 hf.2,λy hy=> ?_,by rw[e2];exact c.wt.nd⟩,λy hy=> .inl (by rw[←e2];exact hy),λy h1 h2=>by have h2:y<G.ts.length:=h2;omega⟩
 ·unfold cB Wk.go;dsimp only;rw[hx];exact⟨a1,a2,a3⟩
 ·rw[e2,ku kN.1,q1]at hy;rcases List.mem_cons.1 hy with rfl|hy
  ·refine .inr ⟨by rw[hKz];exact GF,by show W.stack.head?=_;rw[q1];rfl,.inl rfl⟩
  ·have hys:y∈W.stack:=by rw[q1];simp[hy]
   obtain⟨k1,k2⟩:=Jd c kN hys;refine .inl ?_;rw[(YR y k2).1 (λq=>(List.nodup_cons.1 hnd).1 (q▸hy))];exact k1
theorem axL(c:Cx l P bx ro G i W)(bP:W.cR= .m .asks)(ht:t=G.tk (W.stack.headD 0)):rC l P bx ro ro G i W (asks G W t):=by
 have ct:=c.ct;unfold cB at ct;rw[bP]at ct;dsimp only at ct;have hf:=c.fl.no (by unfold Wk.waits;rw[bP])
 have e1:W.hold=W.stack:=ku (by rw[bP];simp)
 have e2:(asks G W t).2.hold=W.hold:=by rw[ku (by simp[asks]),e1];rfl
 refine⟨c.tt,aeE c.ty,⟨c.wt.id,c.wt.lt,c.wt.dq,acH (G:=G) rfl c.wt.bk,c.wt.dp,λy hy=>c.wt.hl y (by rw[←e2];exact hy),λ_=>by unfold cB asks;exact ct,λ_=>oG hf.1 hf.2,λy hy=> ?_,by rw[e2];exact c.wt.nd⟩,λy hy=> .inl (by rw[←e2];exact hy),λy h1 h2=>by have h2:y<G.ts.length:=h2;omega⟩
 rw[e2]at hy;rcases c.wt.run y hy with h|⟨h1,h2,_⟩
 ·exact .inl h
 ·exact .inr ⟨h1,h2,.inr rfl⟩
theorem axM(c:Cx l P bx ro G i W)(bP:W.cR= .m .gone)(ht:t=G.tk (W.stack.headD 0)):rC l P bx ro ro G i W (gone G W (G.nd t.lN)):=by
 have ct:=c.ct;unfold cB at ct;rw[bP]at ct;dsimp only at ct;have hf:=c.fl.no (by unfold Wk.waits;rw[bP])
 subst ht;obtain⟨z,st,q1,q2,hzl⟩:=c.ne0 ct.1;have hin:=(c.ty.pR hzl).Z3;have e1:W.hold=z::st:=by rw[ku (by rw[bP];simp),q1]
 obtain⟨_,FB⟩:=c.ty.RZ hin.1 hin.2;rw[q2];have hbk:=c.wt.bk;rw[q1]at hbk;obtain⟨kb,bs,hb⟩:∃kb bs,W.back=kb::bs:=by
  cases hh:W.back with
  |nil=>rw[hh]at hbk;exact hbk.elim
  |cons kb bs=>exact⟨kb,bs,rfl⟩
 rw[hb]at hbk;obtain⟨_,hm,hbk⟩:=hbk;have ty:Ty l ro (gone G W (G.nd (G.tk z).lN)).1:=c.ty.ad FB.b trivial;have BK:uv ro ro G (gone G W (G.nd (G.tk z).lN)).1 W.hold:=agB c.ty FB.b (λq=>q);have Me:=xm (v:=wr (G.M.get ((G.nd (G.tk z).lN).at_+1)+ -1)) (M:=G.M.tick W.id) c.ty rfl FB.b (λq=>q);have aDw:cB l P bx ro (gone G W (G.nd (G.tk z).lN)).1 (gone G W (G.nd (G.tk z).lN)).2∧(gone G W (G.nd (G.tk z).lN)).2.cR≠ .m .start∧(gone G W (G.nd (G.tk z).lN)).2.stack=st∧(gone G W (G.nd (G.tk z).lN)).2.back=bs∧(gone G W (G.nd (G.tk z).lN)).2.cR≠ .m .asks:=by
  unfold gone;dsimp only;rw[hb,q1];dsimp only[List.headD,List.tail];split
  ·refine⟨?_,by simp[Wk.I5],rfl,rfl,by simp[Wk.I5]⟩
   unfold cB Wk.I5;exact hm
  ·unfold cB;dsimp only;cases hst:st with
   |nil=>
    rw[hst]at hm;have hm:kb= .m .rest:=hm;subst hm;exact⟨rfl,bh,rfl,rfl,bh⟩
   |cons u CV=>
    rw[hst]at hm;have hm:qV P G.ts.length (G.tk u) kb:=hm;have hm0:=hm;unfold qV at hm;split at hm
    ·exact⟨⟨bh,hm⟩,bh,rfl,rfl,bh⟩
    ·exact⟨⟨bh,hm0⟩,bh,rfl,rfl,bh⟩
    ·exact⟨⟨bh,hm0⟩,bh,rfl,rfl,bh⟩
    ·exact⟨⟨bh,hm0⟩,bh,rfl,rfl,bh⟩
    ·exact hm.elim
 obtain⟨d1,d2,d3,d4,d5⟩:=aDw;have e2:(gone G W (G.nd (G.tk z).lN)).2.hold=st:=by rw[ku d2,d3]
 have vq:(gone G W (G.nd (G.tk z).lN)).2.id=W.id∧(gone G W (G.nd (G.tk z).lN)).2.dq=W.dq∧(gone G W (G.nd (G.tk z).lN)).2.bK=W.bK∧(gone G W (G.nd (G.tk z).lN)).2.blocked=W.blocked:=by
  unfold gone;dsimp only;split<;>exact⟨rfl,rfl,rfl,rfl⟩
 have hnd:=c.wt.nd;rw[e1]at hnd;refine⟨ty,BK,⟨by rw[vq.1];exact c.wt.id,c.wt.lt,by rw[vq.2.1];exact c.wt.dq,by rw[d3,d4];exact acH (G:=G) rfl hbk,?_,λy hy=>c.wt.hl y (by rw[e2]at hy;rw[e1];simp[hy]),λ_=>d1,λ_=>oG (by rw[vq.2.2.1];exact hf.1) (by rw[vq.2.2.2];exact hf.2),λy hy=> ?_,by rw[e2];exact(List.nodup_cons.1 hnd).2⟩,λy hy=> .inl (by rw[e2]at hy;rw[e1];simp[hy]),λy h1 h2=>by have h2:y<G.ts.length:=h2;omega⟩
 ·rw[d3];have:=c.wt.dp;rw[q1]at this;simp at this;omega
 ·rw[e2]at hy;have hyh:y∈W.hold:=by rw[e1];simp[hy]
  have GJ:=c.wt.hl y hyh;have hKy:(gone G W (G.nd (G.tk z).lN)).1.K y=G.K y:=Me _ _ (c.ty.pR GJ).k trivial;rw[hKy];rcases c.wt.run y hyh with h|⟨_,h2,_⟩
  ·exact .inl h
  ·rw[q1]at h2;cases h2
   exact absurd hy (List.nodup_cons.1 hnd).1
theorem alq(c:Cx l P bx ro G i W)(hne:W.stack≠ [])(hx:W.stack.headD 0=x)(ht:t=G.tk x)(hE:Ends (G.tk x))(ho:(G.tk x).cI≠ [])(h1:W.bK=false)(h2:W.blocked=false)(kN:eo W):rC l P bx ro ro G i W (qq G W x t):=by
 have qI:x<G.ts.length:=by rw[←hx];exact(c.top hne).2
 subst ht;have hT:=c.ty.pR qI;have hdl:=am5 ho;have xj:=hT.sn;unfold qq;refine agE (t':={G.tk x with cI:=(G.tk x).cI.dropLast}) (W1:=W) G.M G.steps (G.time.1,Ko.Ea G.time.2 (G.tk x).j3.1) (BT G.P (G.tk x).j3.1) c hne hx rfl c.ty (λ_ _ _ _=>rfl) ⟨rfl,rfl,rfl,rfl⟩ ?_ (c.ty.ck.drop _) (λy hy=>c.ty.PT y (List.mem_filter.1 hy).1) Zz kN ⟨rfl,rfl,rfl,rfl⟩ λe1 e2=> ?_
 ·exact hT.to ⟨rfl,rfl,rfl,rfl⟩ (λp hp=>hT.cI p (List.dropLast_subset _ hp)) (by dsimp only;omega) hT.sl
 ·exact N7 (t:={G.tk x with cI:=(G.tk x).cI.dropLast}) hne (by rw[hx];exact e1) ⟨hE.k2,hE.k4⟩ h1 h2
theorem q4.to(h:q4 P G W)(hg:G'.ts=G.ts)(h1:W'.stack=W.stack)(h2:W'.again=W.again)(h3:W'.target=W.target)(h4:W'.pM=W.pM):q4 P G' W':=by
 obtain⟨a,b,c⟩:=h;refine⟨by rw[h1];exact a,?_,by rw[h2,h3,h4];exact c⟩
 have:G'.tk (W.stack.headD 0)=G.tk (W.stack.headD 0):=by unfold Gl.tk;rw[hg]
 rw[h1,h2,hg,this];exact b
theorem YS(h1:W'.cR= .m .stops)(ha:q4 P G W)(hg:G'.ts=G.ts)(hC:G'.C=G.C)(hK:∀z,z<G.ts.length→G'.K z=G.K z)(am6:∀s,Vy G s→Vy G' s)(e1:W'.stack=W.stack)(e2:W'.again=W.again)(e3:W'.target=W.target)(e4:W'.pM=W.pM)(e5:W'.o8=W.o8)(e6:W'.kind=W.kind)
  (hs:W'.blocked=true→∀o,W'.step=some o→SpT o) (h3:match W.o8 with
  | .m .cancelled=>y4 W.again=true∧R1 G (G.tk (W.stack.headD 0))
  | .Vo y k=>y<G.ts.length∧k=W.again
  | .Bp y k=>(0≤y∧y<G.ts.length)∧k=W.again
  | .c .HZ=>y4 W.again=true∧W.kind=G.K (W.target.getD 0)∧2≤W.kind
  | .c .BS=>W.again= .sh (.c .BS)
  | .c .qq=>W.again= .sh (.c .qq)
  |_=>False):cB l P bx ro G' W':=by
 unfold cB;dsimp only;rw[h1];dsimp only;refine⟨ha.to hg e1 e2 e3 e4,hs,?_⟩;rw[e1,e2,e3,e5,e6];have N5:∀z,G'.tk z=G.tk z:=λz=>by unfold Gl.tk;rw[hg]
 split at h3<;>rename_i e<;>try exact h3.elim
 all_goals try rw[e]
 ·refine⟨h3.1,?_⟩;obtain⟨b,h4,h5⟩:=h3.2;rw[N5];exact⟨b,by rw[hC];exact h4,am6 b h5⟩
 ·rw[hg];exact h3
 ·rw[hg];exact h3
 ·refine⟨h3.1,?_,h3.2.2⟩;obtain⟨y,q1,q2,q3⟩|⟨k,q1,_⟩:=ha.cases
  ·rw[q2]at h3 ⊢;show W.kind=G'.K y;rw[hK _ q3.2.2.2];exact h3.2.1
  ·rw[q1]at h3;cases h3.1
 ·exact h3
 ·exact h3
theorem auE(c:Cx l P bx ro G i W)(bP:W.cR= .m .stops)(hx:W.stack.headD 0=x)(ht:t=G.tk x):rC l P bx ro ro G i W (stops l G W x t G.vp G.Vv):=by
 have ct:=c.ct;unfold cB at ct;rw[bP]at ct;dsimp only at ct;obtain⟨a1,a2,a3⟩:=ct;have kN:eo W:=by rw[eo,bP];decide
 subst ht;have hag:q4 P G W:=a1;unfold stops;split
 ·rename_i hb;dsimp only;have hs:SpT (W.step.getD (jz.CT 0 2)):=by
   cases h:W.step with
   |none=>exact⟨gD,gD,gD⟩
   |some o=>exact a2 hb o h
  have hr:=alk (wk:=W.id) c.ty hs;generalize (W.step.getD (jz.CT 0 2)).go l.sp G.M W.id=r at hr ⊢;have hKs:∀z,z<G.ts.length→(G.mem r.2).K z=G.K z:=λz hz=>hr.Jl _ _ (c.ty.pR hz).k trivial;have hAs:∀s,Vy G s→Vy (G.mem r.2) s:=(acF (hold:=[]) c.ty hr.Jl).ask;refine Eh (m:=[]) (mc:=[]) c hr.ty bh rfl (by rw[List.append_nil];rfl) hr.Jl (by dsimp only;split<;>rfl) (by dsimp only;split<;>rfl) (by dsimp only;split<;>rfl) (by dsimp only;split<;>rfl) kN (by dsimp only;split<;>(dsimp only;rw[bP];simp)) (λ_=> ?_) (λ_=> ?_)
  ·dsimp only;split
   ·exact YS (W:=W) bP hag rfl rfl hKs hAs rfl rfl rfl rfl rfl rfl (λ_ o ho=>by cases ho) a3
   ·exact YS (W:=W) bP hag rfl rfl hKs hAs rfl rfl rfl rfl rfl rfl (λ_ o ho=>by cases ho;exact hr.sp) a3
  ·dsimp only;split
   ·refine⟨λq=> ?_,c.fl.R4,λ_ q=>by dsimp only at q;rw[bP]at q;rcases q with q|q<;>(cases q)⟩
    unfold Wk.waits at q;dsimp only at q;rw[bP]at q;cases q
   ·exact R6 c rfl rfl rfl (by unfold Wk.waits;dsimp only;rw[bP]) (by dsimp only;rw[bP];exact⟨rfl,rfl⟩)
 rename_i hb;have hb:W.blocked=false:=by simpa using hb
 split
 ·rename_i hr;have haw:=c.fl.R4 hr;obtain⟨y,h1,h2,h3⟩|⟨k,h1,_⟩:=a1.cases;rotate_left
  ·rw[h1]at haw;cases haw
  have hy:W.target.getD 0=y:=by rw[h2];rfl
  have GJ:y<G.ts.length:=h3.2.2.2;have hL:=(c.ty.pR GJ).w;have hfu:G.Vv y=(G.tk y).jt:=by unfold Gl.Vv Gl.tk;rw[kq GJ];rfl
  rw[hy,hfu];refine Eh (m:=[]) (mc:=[]) c (c.ty.ad hL trivial) bh rfl (by rw[List.append_nil];rfl) (xm c.ty rfl hL (λq=>q)) rfl rfl rfl rfl kN (by dsimp only;rw[bP];simp) (λ_=> ?_) (λ_=> ?_)
  ·exact YS (W:=W) bP hag rfl rfl (λz hz=>xm c.ty rfl hL (λq=>q) _ _ (c.ty.pR hz).k trivial) (agB (hold:=[]) c.ty hL (λq=>q)).ask rfl rfl rfl rfl rfl rfl a2 a3
  ·exact⟨λq=>by unfold Wk.waits at q;dsimp only at q;rw[bP]at q;(cases q),λq=>by(cases q),λ_ q=>by dsimp only at q;rw[bP]at q;rcases q with q|q<;>(cases q)⟩
 rename_i hr;have hr:W.bK=false:=by simpa using hr
 unfold o8;split at a3
 ·rename_i e;rw[e];exact agF c a1.ne hx rfl (.inl rfl) ⟨gD,gD⟩ hr hb kN ⟨rfl,rfl,rfl,rfl,rfl,rfl⟩
 ·rename_i y k e;rw[e];have vq:G.vp y=y:=by
   have:=(c.ty.pR a3.1).id;unfold Gl.vp;rw[G.Ao a3.1];exact this
  refine sM (W1:=W) c (.inl rfl) kN ⟨rfl,rfl,rfl,rfl⟩ (R8 hr hb (by dsimp only;rw[vq];have:=a3.1;omega) ?_)
  obtain⟨z,st,q1,q2,_⟩:=c.ne0 a1.ne;have:=a1.hm;rw[q2]at this;unfold Ef;dsimp only;rw[q1];dsimp only;rw[a3.2];exact this
 ·rename_i y k e;rw[e];refine sM (W1:=W) c (.inl rfl) kN ⟨rfl,rfl,rfl,rfl⟩ (R8 hr hb a3.1 ?_);obtain⟨z,st,q1,q2,_⟩:=c.ne0 a1.ne;have:=a1.hm;rw[q2]at this;unfold Ef;dsimp only;rw[q1];dsimp only;rw[a3.2];exact this
 ·rename_i e;rw[e];exact sM (W1:=W) c (.inl rfl) kN ⟨rfl,rfl,rfl,rfl⟩ ⟨rfl,rfl,rfl,rfl,by simp[Wk.go],by unfold cB Wk.go;exact⟨hag.of rfl rfl rfl rfl,a3.1,a3.2.1,a3.2.2⟩,oG hr hb⟩
 ·rename_i e;rw[e];have hm:=a1.hm;rw[a3]at hm;exact sM (W1:=W) c (.inl rfl) kN ⟨rfl,rfl,rfl,rfl⟩ ⟨rfl,rfl,rfl,rfl,by simp[Wk.go],by unfold cB Wk.go;exact⟨a1.ne,hm.1,hm.2⟩,oG hr hb⟩
 ·rename_i e;rw[e];have hm:=a1.hm;rw[a3,hx]at hm;exact alq c a1.ne hx rfl hm.1 hm.2 hr hb kN
 ·exact a3.elim
theorem apj(c:Cx l P bx ro G i W)(bP:W.cR= .m .sU)(hfr:∀y,y<G.ts.length→G.K y=0→N6 P G.ts.length (G.tk y)):rC l P bx ro ro G i W (sU G W (G.tk W.jc.toNat)):=by
 have ct:=c.ct;unfold cB at ct;rw[bP]at ct;dsimp only at ct;obtain⟨a1,a2⟩:=ct;have hf:=c.fl.no (by unfold Wk.waits;rw[bP])
 have kN:eo W:=by rw[eo,bP];decide
 have py:W.jc.toNat<G.ts.length:=ah;generalize hc:W.jc.toNat=y at py;have hL:=(c.ty.pR py).k;have hlt:=hL.lt;rw[c.ty.len]at hlt;unfold sU;rw[Int.add_zero];have h2:(G.M.cs W.id (G.tk y).jt 0 1).2=decide (G.K y=0):=axr;have sL:∀b,0≤b→(G.M.cs W.id (G.tk y).jt 0 1).1.get b=if b=(G.tk y).jt∧G.K y=0 then 1 else G.M.get b:=λb hb=>aao hL.1 hlt hb
 have hK:∀z,z<G.ts.length→(G.mem (G.M.cs W.id (G.tk y).jt 0 1).1).K z=(if z=y∧G.K y=0 then 1 else G.K z)∧(G.mem (G.M.cs W.id (G.tk y).jt 0 1).1).V z=G.V z:=λz hz=>by
  have hk:=(c.ty.pR hz).k;have hv:=(c.ty.pR hz).v;constructor
  ·show(G.M.cs _ _ _ _).1.get (G.tk z).jt=_;rw[sL _ hk.1];by_cases e:z=y
   ·subst e;simp;rfl
   ·rw[if_neg (λq=>hk.ne hL (by simpa using e) q.1),if_neg (λq=>e q.1)];rfl
  ·show(G.M.cs _ _ _ _).1.get ((G.tk z).jt+1)=_;rw[sL _ hv.1,if_neg (λq=>hv.ne hL bh q.1)];rfl
 have ty:Ty l ro (G.mem (G.M.cs W.id (G.tk y).jt 0 1).1):=c.ty.cs hL ⟨gD,gD⟩;have BK:uv ro ro G (G.mem (G.M.cs W.id (G.tk y).jt 0 1).1) W.hold:=
  ⟨⟨[],bh⟩,iN _,λ_ _ _=>rfl,λ_ _=>⟨rfl,rfl,rfl⟩,⟨[],by simp[Gl.mem]⟩,λz hz q=>by
   rw[(hK z hz).1]at q;split at q
   ·cases q
   ·exact q,
  λz hz _ q=>⟨by rw[(hK z hz).1,if_neg (by rintro⟨rfl,q2⟩;omega)],(hK z hz).2⟩,λz hz q=>⟨by rw[(hK z hz).1,if_neg (by rintro⟨rfl,q2⟩;omega)],(hK z hz).2⟩,λs' ⟨nd,h1,h2⟩=>⟨nd,h1,by
    show(G.M.cs _ _ _ _).1.get _≠0;have hl:=Jc c.ty h1;rw[sL _ hl.1,if_neg (λq=>hl.ne hL bh q.1)];exact h2⟩⟩
 have e1:=ku kN.1;have hrun:∀z∈W.stack,(G.mem (G.M.cs W.id (G.tk y).jt 0 1).1).K z=1:=λz hz=>by
  obtain⟨k1,k2⟩:=Jd c kN hz;rw[(hK z k2).1,if_neg (by rintro⟨rfl,q2⟩;omega)];exact k1
 rw[h2];by_cases h0:G.K y=0
 ·rw[if_pos (by simp[h0])]
  have hyn:y ∉ W.stack:=λq=>by have:=(Jd c kN q).1;omega
  have e2:({W with cR:= .m .start}:Wk).hold=y::W.stack:=by unfold Wk.hold;dsimp only;rw[if_pos rfl,hc];rfl
  refine⟨ty,BK,⟨c.wt.id,c.wt.lt,c.wt.dq,acH (G:=G) rfl c.wt.bk,c.wt.dp,λz hz=> ?_,λ_=> ?_,λ_=>oG hf.1 hf.2,λz hz=> ?_,?_⟩,λz hz=> ?_,λz h1 h2=>by have h2:z<G.ts.length:=h2;omega⟩
  ·rw[e2]at hz;rcases List.mem_cons.1 hz with rfl|hz
   ·exact py
   ·exact(Jd c kN hz).2
  ·unfold cB;dsimp only;rw[hc];exact⟨a1,a2,hfr y py h0⟩
  ·rw[e2]at hz;rcases List.mem_cons.1 hz with rfl|hz
   ·left;dsimp only;rw[(hK z py).1,if_pos ⟨rfl,h0⟩]
   ·exact .inl (hrun z hz)
  ·rw[e2];have:=c.wt.nd;rw[e1]at this;exact List.nodup_cons.2 ⟨hyn,this⟩
  ·rw[e2]at hz;rcases List.mem_cons.1 hz with rfl|hz
   ·exact .inr ⟨py,h0⟩
   ·exact .inl (by rw[e1];exact hz)
 ·rw[if_neg (by simp[h0])]
  have ct2:cB l P bx ro (G.mem (G.M.cs W.id (G.tk y).jt 0 1).1) {W with cR:=W.home}∧W.home≠ .m .start:=by
   unfold cB;dsimp only;unfold Ef at a2;cases hs:W.stack with
   |nil=>rw[hs]at a2;dsimp only at a2;rw[a2];exact⟨rfl,bh⟩
   |cons z st=>
    rw[hs]at a2;dsimp only at a2;have YP:=a2;unfold qV at a2;split at a2
    ·rename_i e;rw[e];exact⟨⟨bh,a2⟩,bh⟩
    ·rename_i e;rw[e];rw[e]at YP;exact⟨⟨bh,YP⟩,bh⟩
    ·rename_i e;rw[e];rw[e]at YP;exact⟨⟨bh,YP⟩,bh⟩
    ·rename_i e;rw[e];rw[e]at YP;exact⟨⟨bh,YP⟩,bh⟩
    ·exact a2.elim
  exact aeF c ty BK rfl rfl rfl rfl kN ct2.2 (λ_ _=>rfl) (λz hz=>by dsimp only;rw[hrun z hz,(Jd c kN hz).1]) (λ_=>ct2.1) (λ_=>oG hf.1 hf.2) (λz h1 h2=>by have h2:z<G.ts.length:=h2;omega)
theorem auF(c:Cx l P bx ro G i W)(bP:W.cR= .m .start)(hc:W.jc.toNat=y):rC l P bx ro ro G i W (N3 l G W y (G.tk y)):=by
 have ct:=c.ct;unfold cB at ct;rw[bP]at ct;dsimp only at ct;obtain⟨a1,a2,a3⟩:=ct;rw[hc]at a3;have hf:=c.fl.no (by unfold Wk.waits;rw[bP])
 have py:y<G.ts.length:=ah;have hT:=c.ty.pR py;have e1:W.hold=y::W.stack:=by unfold Wk.hold;rw[if_pos bP,hc];rfl
 unfold N3;split
 ·refine⟨{c.ty with},⟨⟨[],bh⟩,iN _,λ_ _ _=>rfl,λ_ _=>⟨rfl,rfl,rfl⟩,⟨[],by simp[Gl.fail]⟩,λ_ _ q=>q,λ_ _ _ _=>⟨rfl,rfl⟩,λ_ _ _=>⟨rfl,rfl⟩,λ_ q=>q⟩,⟨c.wt.id,c.wt.lt,c.wt.dq,acH (G:=G) rfl c.wt.bk,c.wt.dp,c.wt.hl,λq=>by(cases q),λq=>by(cases q),c.wt.run,c.wt.nd⟩,λz hz=> .inl hz,λz h1 h2=>by have h2:z<G.ts.length:=h2;omega⟩
 rename_i aFK;generalize hm:G.M.get (W.dq+1)=mk;have hT':TI ro G.C.length y {G.tk y with cI:=[((G.tk y).own,mk)]}:=hT.to ⟨rfl,rfl,rfl,rfl⟩ (λp hp=>by simp at hp;subst hp;exact hT.own) (by dsimp only;rw[a3.cl,a3.sc];exact iN 1) hT.sl
 obtain⟨e3,e4⟩:=XA (r:=(G.tick W.id).set y {G.tk y with cI:=[((G.tk y).own,mk)]}) (t':={G.tk y with cI:=[((G.tk y).own,mk)]}) (G:=G) rfl py;have ty:Ty l ro ((G.tick W.id).set y {G.tk y with cI:=[((G.tk y).own,mk)]}):=c.tt.set (λ_=>hT')
 have hmem:y∈W.hold:=by rw[e1];simp
 have BK:uv ro ro G ((G.tick W.id).set y {G.tk y with cI:=[((G.tk y).own,mk)]}) W.hold:=(aeE c.ty).trans (acG (G:=G.tick W.id) (ro:=ro) hmem py rfl rfl rfl) (.inl rfl);have hnd:=c.wt.nd;rw[e1]at hnd;have hys:=(List.nodup_cons.1 hnd).1;have N5:∀z∈W.stack,((G.tick W.id).set y {G.tk y with cI:=[((G.tk y).own,mk)]}).tk z=G.tk z:=λz hz=>am2 (G:=G.tick W.id) (by rintro rfl;exact hys hz)
 have e2:(({W with stack:=y::W.stack,back:=W.home::W.back}:Wk).looks (G.tk y).lN (.c .wW)).hold=W.hold:=by
  rw[ku (by simp[Wk.looks]),e1];rfl
 refine⟨ty,BK,⟨c.wt.id,c.wt.lt,c.wt.dq,?_,?_,λz hz=>by show z<List.length _;rw[e4];exact c.wt.hl z (by rw[←e2];exact hz),λ_=> ?_,λ_=>oG hf.1 hf.2,λz hz=> ?_,by rw[e2];exact c.wt.nd⟩,λz hz=> .inl (by rw[←e2];exact hz),λz h1 h2=>by rw[e4]at h2;omega⟩
 ·refine⟨by show y<List.length _;rw[e4];exact py,?_,aum (by rw[e4];exact iN _) N5 c.wt.bk⟩
  show Ef P _ W.stack W.home;cases hs:W.stack with
  |nil=>rw[hs]at a2;exact a2
  |cons z st=>
   rw[hs]at a2 N5;show qV P _ (Gl.tk _ z) _;rw[N5 z bh];exact qV.imp a2 (by rw[e4];exact iN _)
 ·show((y::W.stack).length:Int)≤l.deep;have:=c.wt.dp;simp;omega
 ·unfold cB Wk.looks;dsimp only[List.headD];rw[show Gl.tk _ y=_ from e3];exact⟨_,rfl,rfl,hT.Z3,.refl hT.Z3.1 hT.Z3.2,bh,⟨a3.fi.imp λw hw=>⟨hw.1,by rw[e4];exact hw.2⟩,a3.kind⟩⟩
 ·rw[e2]at hz;have hzl:=c.wt.hl z hz;have hK:((G.tick W.id).set y {G.tk y with cI:=[((G.tk y).own,mk)]}).K z=G.K z:=by
   unfold Gl.K;rw[(BK.ids z hzl).2.2];rfl
  rcases c.wt.run z hz with h|⟨_,_,h|h⟩
  ·exact .inl (hK.trans h)
  ·rw[bP]at h;cases h
  ·rw[bP]at h;cases h
end
end Go.Proofs.YthidhjhkmjjckaaGreatDoor
