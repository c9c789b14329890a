/-
  Parts of the proof of LMay: printed by a program out of longer texts.
-/
import Derived.Test.YthidhjhkmjjckaaGreatDoorPMay5
set_option linter.unusedSimpArgs false
set_option linter.unusedVariables false
set_option maxRecDepth 100000
open List renaming getElem?_eq_some_iff→kJ,getElem?_eq_getElem→j4,getD_eq_getElem?_getD→nI,getElem?_append_left→sZ,getElem?_append_right→uI,getElem?_set_ne→rK,getElem?_set_self→uu,mem_of_getElem?→q6,getElem?_map→pz,eraseIdx→Iw,insertIdx_succ_cons→azV,insertIdx_zero→azW,replicate→dM,mem_append→y7,length_append→tV,all_eq_true→xz
open Go.Sem renaming run_pure→cK,run_bind→cL
open Go.Result renaming andThen_ok→cF
open Bool renaming or_eq_false_iff→kx,and_eq_true→iZ
open Option renaming isNone→eL
open Go.IntKind renaming wrap→aG
open Int renaming toNat_natCast→kR
open Array renaming setIfInBounds→eM,getElem?_eq_some_iff→AL
open Nat renaming le_refl→iv
open Go.Addr renaming add→aY
namespace Go.Proofs.YthidhjhkmjjckaaGreatDoor
open Go Go.Ev Go.Proofs
open Ko (oe CK)
open Fr (dQ)
section
variable {w0 w:World} {L R:List HP} {l:Lc} {P:List dH} {aa:List Nat} {G:Gl} {gw b c d x y a a':Nat} {W:Wk} {k:Unit→aq} {sp st sw so sc:Sl} {q:Wq} {f:HP→List HP} {t t' tt:Tk} {s':List Nat} {vs:List Value} {i:List Int} {nd:Nd} {p:Pl} {os:List (Nat×Wk)} {bt:List Int}
theorem akC{p:Addr}{wT:Bool}{c:Value→aq}(h:fx wT p w λ_ w=>c (.tuple #[]) w):CD [.bool wT,.pointer (some p)] w c:=h
theorem aic{p:Addr}{wT:Bool}{c:Value→aq}(h:eR wT p w λ_ w=>c (.tuple #[]) w):BE [.bool wT,.pointer (some p)] w c:=h
theorem aok{p r:Addr}{wT:Bool}{c:Value→aq}(h:gC wT p r w λ_ w=>c (.tuple #[]) w):DS [.bool wT,.pointer (some p),.pointer (some r)] w c:=h
def amB(W:Wk)(t:Tk):Prop:=match W.seen with
 | .nx i=>i.length=5∧t.f.length=19∧((dQ t.f i).2=false→8≤i.getD 0 0∧i.getD 0 0≤16)
 | .c .sI=>True
 | .c .wW=>True
 |_=>False
theorem akD{lk:Lk}(hF:iN w0 l.ps P)(h:qE w0 w l aa gw G W R)(he:G.err=0)(hs:W.stack=x::s')(ht:G.ts[x]?=some t)(hl:W.look=some lk)(hd:lk.done=false)(hsc:oc G.C lk.at_=some nd)(hc:G.M.can W.id nd.at_=true)(hn:amB W t)
  (hk:Fin w0 l aa gw R k (looking l G W lk nd x t)):eF (some ⟨gw,0,none⟩) w k:=by
 obtain⟨id,dq,wait,stack,back,cM,op,after,look,seen,step,left,late,fits,got,none_,jk,home,target,kind,bH,blocked,again,CO,mark,dA,own,said,bits,pT⟩:=W;dsimp only at hl hs hc;subst hl;obtain⟨sp,st,sw,q,hq,h⟩:=dN h;unfold eF u5;unfold looking at hk;dsimp only[mX]at h hk;with_reducible repeat' (first|refine an ?_|refine aF h λw h=> ?_|refine da h ?_|refine cS h ?_|fail)
 have h:=h.fr 1;have h:=h.fr 3;have h:=h.fr 16;refine ahn (C:=G.C) (M:=G.M) h hd hsc hc λw h=> ?_;have h:=h.bk 16;have h:=h.bk 3;have h:=h.bk 1;with_reducible repeat' (first|refine an ?_|refine da h ?_|refine lT ?_|fail)
 refine ay (λhb=> ?_) λhb=> ?_
 ·have hb:(lk.go G.M nd).done=true:=by simpa using hb
  rw[if_pos hb]at hk;with_reducible repeat' (first|refine an ?_|refine pC h ?_|fail)
  have h:wX w0 w l aa gw (G.tick id) ⟨id,dq,wait,stack,back,cM,op,after,some (lk.go G.M nd),seen,step,left,late,fits,got,none_,jk,home,target,kind,bH,blocked,again,CO,mark,dA,own,said,bits,pT⟩ R sp st sw q:=h;replace hq:q.Ok aa gw ⟨id,dq,wait,stack,back,cM,op,after,some (lk.go G.M nd),seen,step,left,late,fits,got,none_,jk,home,target,kind,bH,blocked,again,CO,mark,dA,own,said,bits,pT⟩:={hq with};unfold amB at hn;unfold RK at hk;have hv:=hq.seen;cases seen with
  |nx i=>
   obtain⟨b,c',hb',Ei,h5,hv⟩:=hv;rw[hv];refine bU (d:=DS) (λ_ _ _=>rfl) (aok ?_);exact asT (P:=P) (i:=i) hF hq h hb' Ei h5 he hs ht hn.2.1 hn.2.2 hk
  |c f=>
   obtain⟨b,hb',hv⟩:=hv;rw[hv];cases f<;>first|exact hn.elim|skip
   ·refine bU (d:=CD) (λ_ _ _=>rfl) (akC ?_);exact aoc hq h hb' hs ht hk
   ·refine bU (d:=BE) (λ_ _ _=>rfl) (aic ?_);exact aku hq h hb' hk
  |m f=>exact hn.elim
  |no=>exact hn.elim
  |any=>exact hn.elim
  |aw y=>exact hn.elim
  |sh kk=>exact hn.elim
  |U7 y kk=>exact hn.elim
  |Bq y kk=>exact hn.elim
  |hl m z=>exact hn.elim
 ·have hb:(lk.go G.M nd).done=false:=by simpa using hb
  rw[if_neg (by rw[hb];simp)]at hk
  exact hk _ (bi (G:=G.tick id) (q:=q) (by exact{hq with}) h)
theorem ata{n gj:Nat}{Wj:Wk}{c:Array Value→Prop}(h:St w0 w L)[a:At L (lZ (qx l aa)) os f](hn:os[n]?=some (gj,Wj))(hc:c #[.int .i64 Wj.dq,.int .i64 l.log]):bD 2 w (aY ⟨gj,0,none⟩ 2) c:=by
 obtain⟨R,ho,_⟩:=a.out;obtain⟨q,hq,h2⟩:=abQ (Iy (ho h) hn);refine bA (g:=gj) h2 vw ?_;exact hc
theorem aol{p:Option Addr}{c:Value→aq}(h:ig p w λ_ w=>c (.tuple #[]) w):EO [.pointer p] w c:=h
theorem aid{p:Option Addr}{c:Value→aq}(h:fu p w λ_ w=>c (.tuple #[]) w):CC [.pointer p] w c:=h
structure Zb (l:Lc) (os:List (Nat×Wk)) (bt:List Int) (W:Wk):Prop where
 none_:W.none_= .m .yJ∨(W.none_= .m .nothing∧W.wait.how=1)
 left:∀j r,W.left=j::r→∃(jn gj n:Nat) (Wj:Wk),j=((jn:Nat):Int)∧l.wa[jn]?=some gj∧os[n]?=some (gj,Wj)∧Wj.dq=bt.getD jn 0
theorem Yp(h:qE w0 w l aa gw G W (lZ (qx l aa) os::R))(hv:Zb l os bt W)(hk:Fin w0 l aa gw (lZ (qx l aa) os::R) k (J0 l G W t bt)):bQ (some ⟨gw,0,none⟩) w k:=by
 obtain⟨sp,st,sw,q,hq,h⟩:=dN h;unfold bQ vX;unfold J0 at hk;have hn:=uN (s:=q.sl) (vs:=ints W.left) h;have hvl:=hv.left;with_reducible repeat' (first|refine an ?_|refine j5 h ?_|fail)
 refine ay (λhb=> ?_) λhb=> ?_
 ·have hb:W.left=[]:=by
   have:((q.sl.n:Nat):Int)=0:=by simpa using hb
   simp at hn;exact List.eq_nil_of_length_eq_zero ah
  rw[hb]at hk;dsimp only at hk;unfold akr at hk;with_reducible repeat' (first|refine an ?_|refine pC h ?_|fail)
  have hr:=hq.none_;rcases hv.none_ with hd|⟨hd,hw⟩
  ·rw[hd]at hk hr;obtain hr:q.Yg=mt gw .yJ:=hr;rw[hr];rw[if_pos rfl]at hk;refine bU (d:=EO) (λ_ _ _=>rfl) (aol ?_);exact asO (bi hq h) hk
  ·rw[hd]at hk hr;obtain hr:q.Yg=mt gw .nothing:=hr;rw[hr];rw[if_neg fY]at hk;refine bU (d:=CC) (λ_ _ _=>rfl) (aid ?_);exact akz (bi hq h) hw hk
 ·cases hleft:W.left with
  |nil=>
   rw[hleft]at hn;simp at hn;simp[hn]at hb
  |cons j r=>
   obtain⟨jn,gj,n,Wj,rfl,hj,hos,hdq⟩:=hvl j r hleft;rw[hleft]at hk h;dsimp only at hk;rw[kR,←hdq]at hk;have E7:=uN (s:=q.sl) (vs:=ints (((jn:Nat):Int)::r)) h;simp at E7;with_reducible repeat' (first|refine an ?_|refine aF h λw h=> ?_|refine da h ?_|refine j5 h ?_|fail)
   refine vI (s:=q.sl) (vs:=ints (((jn:Nat):Int)::r)) h fY (x:=((jn:Nat):Int)) rfl ?_;refine vP (s:=sw) (vs:=l.wa.map pt) h ah (ab3 hj) ?_;with_reducible repeat' (first|refine an ?_|refine j5 h ?_|fail)
   refine apM (sz:=1) (s:=q.sl) (vs:=ints (((jn:Nat):Int)::r)) h fY ah λdd hdd h=> ?_;have h:St w0 w (ax l.gs (l.cs sp st sw G.steps G.err)::bI l.gm G.M::Cr l.gk G.T::scp l.gc G.C::rws 4 sp (G.P.map uw)::bP 1 st (aa.map pt)::bP 1 sw (l.wa.map pt)::oe l.gt G.time::KO l.gd G.D::L1 aa G.ts::
    ax gw (W.cs l q)::ax q.gwt (W.wait.cells l.told)::bP 1 q.ss q.rV.reverse::bP 1 q.sb q.y3.reverse::bP 1 dd (ints r)::mX (uq q.go) W.op::mX (λk:Lk=>ax q.gl (k.cells l.gc)) W.look::mX (λo:jI=>ax q.gp (o.cells l.sp q.gp)) W.step::fz q.B::lZ (qx l aa) os::R):=h
   with_reducible repeat' (first|refine an ?_|refine dO h λw h=> ?_|fail)
   refine ata (l:=l) (aa:=aa) h hos ?_;refine arv h λgo w h=> ?_;have h:=AD (K:=mX (uq q.go)) h;unfold bl;with_reducible repeat' (first|refine an ?_|refine dO h λw h=> ?_|fail)
   exact hk _ (bi (q:={q with go:=go,px:=mt gw .pn,JT:=mt gw .Tv,sl:=dd}) (by exact{hq with cM:=rfl,after:=rfl}) h)
end
end Go.Proofs.YthidhjhkmjjckaaGreatDoor
namespace Go.Proofs.YthidhjhkmjjckaaGreatDoor
open Go Go.Ev Go.Proofs
open Ko (oe CK)
section
variable {w0 w:World} {L R:List HP} {l:Lc} {P:List dH} {aa:List Nat} {G:Gl} {gw b c d x y a a':Nat} {W:Wk} {k:Unit→aq} {sp st sw so sc:Sl} {q:Wq} {f:HP→List HP} {t t' tt:Tk} {s':List Nat} {vs:List Value} {i:List Int} {nd:Nd} {p:Pl} {os:List (Nat×Wk)} {bt:List Int}
theorem atb{M:bK}{wk:Int}(h:M.OK):(M.tick wk).OK:=⟨h.size,h.fit⟩
theorem aom(h:qE w0 w l aa gw G W (lZ (qx l aa) os::R))(hM:G.M.OK)(hs:l.sp.OK)(hc:G.M.can W.id l.idle=true)(hg:G.M.given (l.sp.at_+1)=true)(h1:1≤l.wa.length)(h2:l.wa.length≤16)(h3:0≤W.id)(h4:W.id<l.wa.length)
  (hv:Zb l os bt {W with left:=UZ (G.D.headD 0) (xh W.id (l.sp.bits G.M) (G.M.get l.idle) l.wa.length)}) (hk:Fin w0 l aa gw (lZ (qx l aa) os::R) k (others l G W t bt)):e9 (some ⟨gw,0,none⟩) w k:=by
 obtain⟨sp,st,sw,q,hq,h⟩:=dN h;unfold e9 wi;unfold others at hk;have hn:=uN (s:=sw) (vs:=l.wa.map pt) h;rw[List.length_map]at hn;with_reducible repeat' (first|refine an ?_|refine aF h λw h=> ?_|refine da h ?_|refine cS h ?_|refine mH h ?_|fail)
 refine ark (M:=G.M) h hc λw h=> ?_;with_reducible repeat' (first|refine an ?_|refine aF h λw h=> ?_|refine da h ?_|refine cS h ?_|refine j5 h ?_|refine mH h ?_|refine fE ?_|refine lT ?_|fail)
 refine anF (D:=G.D) h λw h=> ?_;with_reducible repeat' (first|refine ja h ?_|fail)
 refine ad0 (s:=l.sp) (M:=G.M.tick W.id) h hs (atb hM) hg λw h=> ?_;with_reducible repeat' (first|refine ja h ?_|fail)
 refine arz (n:=((sw.n:Nat):Int)) h ah ah h3 ah λs1 w h=> ?_;have h:=AD (K:=bP 1 q.sl) h;rw[kR,hn]at h;with_reducible repeat' (first|refine an ?_|refine da h ?_|refine dO h λw h=> ?_|refine fE ?_|refine lT ?_|fail)
 exact Yp (t:=t) (G:={G.tick W.id with D:=G.D.tail}) (W:={W with left:=UZ (G.D.headD 0) (xh W.id (l.sp.bits G.M) (G.M.get l.idle) l.wa.length)}) (bi (G:={G.tick W.id with D:=G.D.tail}) (W:={W with left:=UZ (G.D.headD 0) (xh W.id (l.sp.bits G.M) (G.M.get l.idle) l.wa.length)}) (q:={q with sl:=s1}) (by exact{hq with}) h) hv hk
theorem atc{me z:Int}{pt':Option Addr}{tg:Option Nat}{k:Bool→aq}(h:wX w0 w l aa gw G W R sp st sw q)(hb:(b,[pt gw])∈q.B)(hcb:(c,[.int .i64 me])∈q.B)(hdb:(d,[.pointer pt'])∈q.B)(hT:abp G.T)
  (hp:match tg with|none=>pt'=none|some x=> ∃a,aa[x]?=some a∧pt'=some ⟨a,0,none⟩) (htg:∀y,tg=some y→y<G.ts.length)
  (hk:∀w',wX w0 w' l aa gw G W R sp st sw q→k (match tg with|none=>Ry G.T z me|some y=>Ry G.T z me||Ry G.T z (G.vp y)) w'):gB z ⟨b,0,none⟩ ⟨c,0,none⟩ ⟨d,0,none⟩ w k:=by
 unfold gB vZ;with_reducible repeat' (first|refine an ?_|refine aF h λw h=> ?_|refine da h ?_|refine Eo h hb ?_|refine fzI h hcb ?_|fail)
 refine Y2 (T:=G.T) h hT λw h=> ?_;refine ay (λhd=> ?_) λhd=> ?_
 ·have:=hk w h;cases tg with
  |none=>dsimp only at this;rw[hd]at this;exact this
  |some y=>dsimp only at this;rw[hd]at this;exact this
 ·with_reducible repeat' (first|refine Eo h hdb ?_|fail)
  cases tg with
  |none=>
   obtain rfl:pt'=none:=hp;have:=hk w h;dsimp only at this;rw[hd]at this;exact bh rfl this
  |some y=>
   obtain⟨a',hy,rfl⟩:=hp;have GN:=htg y rfl;have L5:G.ts[y]?=some (G.ts[y]'GN):=j4 GN;refine bO rfl ?_;obtain⟨hp,so,sc,h⟩:=nU h hy L5;with_reducible repeat' (first|refine an ?_|refine da h ?_|refine cS h ?_|refine Eo h hb ?_|refine Eo h hdb ?_|fail)
   have h:=oQ hp h;refine Y2 (T:=G.T) h hT λw h=> ?_;have:=hk w h;dsimp only at this;rw[hd,Bool.false_or]at this;have e:G.vp y=(G.ts[y]'GN).id:=by unfold Gl.vp;rw[L5]
   rw[e]at this;exact this
end
section
variable {w0 w:World} {L R:List HP} {l:Lc} {P:List dH} {aa:List Nat} {G:Gl} {gw b c d x y a a':Nat} {W:Wk} {k:Unit→aq} {sp st sw so sc:Sl} {q:Wq} {f:HP→List HP} {t t' tt:Tk} {s':List Nat} {vs:List Value} {i:List Int} {nd:Nd} {p:Pl} {os:List (Nat×Wk)} {bt:List Int}
theorem awK{z:Int}{c:Value→aq}(h:iq z w λr w=>c (.bool r) w):ua [.int .i64 z] w c:=h
theorem az4{z:Int}{p r s:Addr}{c:Value→aq}(h:gB z p r s w λr w=>c (.bool r) w):wc [.int .i64 z,.pointer (some p),.pointer (some r),.pointer (some s)] w c:=h
theorem akF{z:Int}{p:Addr}{c:Value→aq}(h:eN z p w λ_ w=>c (.tuple #[]) w):BB [.int .i64 z,.pointer (some p)] w c:=h
theorem aon{z:Int}{p:Option Addr}{c:Value→aq}(h:cO p z w λ_ w=>c (.tuple #[]) w):EP [.pointer p,.int .i64 z] w c:=h
def aie(G:Gl)(W:Wk):Prop:=match W.fits with
 | .any=>True
 | .hl _ tg=>abp G.T∧∀y,tg=some y→y<G.ts.length
 |_=>False
theorem awL{bX:eb}{z:Int}{c:Value→aq}(hd:aie G W)(e1:∀args w c,bX (.func kz) args w c=ua args.toList w c)(e2:∀args w c,bX (.func lR) args w c=wc args.toList w c)
  (hq:q.Ok aa gw W) (h:wX w0 w l aa gw G W R sp st sw q) (hk:∀w',wX w0 w' l aa gw G W R sp st sw q→c (.bool (Yl G W G.vp z)) w'):m5 bX q.Yf #[.int .i64 z] w c:=by
 unfold aie at hd;unfold Yl at hk;have hv:=hq.fits;revert hd hk hv;cases hag:W.fits<;>intro hd hk hv<;>first|exact hd.elim|skip
 ·obtain hv:q.Yf=ayb:=hv;rw[hv];refine bU (d:=ua) e1 (awK ?_);exact hk w h
 ·rename_i me tg;obtain⟨b,c',d',p,hb,Ei,oD,hp,hv⟩:=hv;rw[hv];refine bU (d:=wc) e2 (az4 ?_);refine atc (tg:=tg) h hb Ei oD hd.1 (by revert hp;cases tg<;>exact λh=>h) hd.2 λw h=> ?_
  have:=hk w h;cases tg with
  |none=>exact this
  |some y=>exact this
theorem az5{CV:Int}(h:qE w0 w l aa gw G W (lZ (qx l aa) os::R))(hop:W.op.isSome=true)(hf:aie G W)(hv:Zb l os bt W)(hk:Fin w0 l aa gw (lZ (qx l aa) os::R) k (Tv l G W t bt G.vp CV)):jG (some ⟨gw,0,none⟩) CV w k:=by
 obtain⟨sp,st,sw,q,hq,h⟩:=dN h;unfold jG A7;unfold Tv at hk;have hvf:=hq.fits.one;refine bS (λb w=>b=decide (CV≠2∨Yl G W G.vp (got W)=false)∧wX w0 w l aa gw G W (lZ (qx l aa) os::R) sp st sw q) (λJ hJ=> ?_) ?_
 ·with_reducible repeat' (first|refine aF h λw h=> ?_|fail)
  refine ay (λhb=> ?_) λhb=> ?_
  ·exact hJ _ _ ⟨by simp at hb;simp[hb],h⟩
  ·with_reducible repeat' (first|refine an ?_|refine da h ?_|refine pC h ?_|fail)
   refine af7 h hop ?_;with_reducible repeat' (first|refine cP ?_|fail)
   refine awL hf (λ_ _ _=>rfl) (λ_ _ _=>rfl) hq h λw h=> ?_;refine afb ?_;refine hJ _ _ ⟨?_,h⟩;have hb:CV=2:=by simpa using hb
   show(!(Yl G W G.vp (ams W.op)))=_;cases hfb:Yl G W G.vp (ams W.op)<;>simp[hb,hfb]
 clear h;rintro _ w ⟨rfl,h⟩;refine ay (λhb=> ?_) λhb=> ?_
 ·rw[if_pos (of_decide_eq_true hb)]at hk;exact Yp (bi hq h) hv hk
 ·rw[if_neg (of_decide_eq_false hb)]at hk;with_reducible repeat' (first|refine an ?_|refine dO h λw h=> ?_|fail)
  exact hk _ (bi (q:={q with JT:=mt gw .Aj}) (by exact{hq with after:=rfl}) h)
theorem atd{CV:Int}(h:qE w0 w l aa gw G W (lZ (qx l aa) os::R))(hop:W.op.isSome=true)(hg:W.got= .c .Sj∨W.got= .m .Bp)(hv:Zb l os bt {W with late:=true})(hk:Fin w0 l aa gw (lZ (qx l aa) os::R) k (Aj l G W t bt CV)):ij (some ⟨gw,0,none⟩) CV w k:=by
 obtain⟨sp,st,sw,q,hq,h⟩:=dN h;unfold ij xU;unfold Aj at hk;refine ay (λhb=> ?_) λhb=> ?_
 ·rw[if_pos (by simpa using hb)]at hk
  unfold asM at hk;with_reducible repeat' (first|refine an ?_|refine aF h λw h=> ?_|refine da h ?_|refine pC h ?_|fail)
  refine af7 h hop ?_;with_reducible repeat' (first|refine cP ?_|fail)
  have hr:=hq.got;rcases hg with hd|hd
  ·rw[hd]at hk hr;obtain⟨b,hb',hr⟩:=hr;rw[hr];rw[if_neg fY]at hk;refine bU (d:=BB) (λ_ _ _=>rfl) (akF ?_);exact an7 hq h hb' hk
  ·rw[hd]at hk hr;obtain hr:q.ahS=mt gw .Bp:=hr;rw[hr];rw[if_pos rfl]at hk;refine bU (d:=EP) (λ_ _ _=>rfl) (aon ?_);exact ah8 (bi hq h) hk
 ·rw[if_neg (by simpa using hb)]at hk
  with_reducible repeat' (first|refine an ?_|refine dO h λw h=> ?_|fail)
  exact Yp (W:={W with late:=true}) (bi (W:={W with late:=true}) (q:=q) (by exact{hq with}) h) hv hk
end
section
variable {w0 w:World} {L R:List HP} {l:Lc} {P:List dH} {aa:List Nat} {G:Gl} {gw b c d x y a a':Nat} {W:Wk} {k:Unit→aq} {sp st sw so sc:Sl} {q:Wq} {f:HP→List HP} {t t' tt:Tk} {s':List Nat} {vs:List Value} {i:List Int} {nd:Nd} {p:Pl} {os:List (Nat×Wk)} {bt:List Int}
theorem aoo{p:Addr}{z:Int}{c:Value→aq}(h:gA z p w λ_ w=>c (.tuple #[]) w):DM [.int .i64 z,.pointer (some p)] w c:=h
theorem aif{p:Addr}{z:Int}{c:Value→aq}(h:eO z p w λ_ w=>c (.tuple #[]) w):BC [.int .i64 z,.pointer (some p)] w c:=h
theorem aih{p:Addr}{z:Int}{c:Value→aq}(h:eP z p w λ_ w=>c (.tuple #[]) w):BD [.int .i64 z,.pointer (some p)] w c:=h
theorem awM{p:Option Addr}{z:Int}{c:Value→aq}(h:jG p z w λ_ w=>c (.tuple #[]) w):HC [.pointer p,.int .i64 z] w c:=h
theorem aop{p:Option Addr}{z:Int}{c:Value→aq}(h:ij p z w λ_ w=>c (.tuple #[]) w):ER [.pointer p,.int .i64 z] w c:=h
def Zc(l:Lc)(os:List (Nat×Wk))(bt:List Int)(G:Gl)(W:Wk)(x:Nat)(t:Tk):Prop:=match W.after with
 | .c .FA=>True
 | .c .tP=>True
 | .c .sH=>(∃s',W.stack=x::s')∧G.ts[x]?=some t∧(W.dA= .m .vu∨W.dA= .c .Cs)
 | .m .Tv=>aie G W∧Zb l os bt W
 | .m .Aj=>(W.got= .c .Sj∨W.got= .m .Bp)∧Zb l os bt {W with late:=true}
 |_=>False
theorem akG{O:bp}(h:qE w0 w l aa gw G W (lZ (qx l aa) os::R))(he:G.err=0)(hM:G.M.OK)(hop:W.op=some O)(hf:O.Gu)(hno:(O.step G.M W.id).1.how=6→(O.step G.M W.id).1.err≠0)
  (ha:(O.step G.M W.id).1.how≠0→(O.step G.M W.id).1.how≠6→Zc l os bt (G.mem (O.step G.M W.id).2) {W with op:=some (O.step G.M W.id).1} x t)
  (hk:Fin w0 l aa gw (lZ (qx l aa) os::R) k (pn l G W O t bt G.vp)):eE (some ⟨gw,0,none⟩) w k:=by
 obtain⟨id,dq,wait,stack,back,cM,op,after,look,seen,step,left,late,fits,got,none_,jk,home,target,kind,bH,blocked,again,CO,mark,dA,own,said,bits,pT⟩:=W;dsimp only at hop ha hno;subst hop;obtain⟨sp,st,sw,q,hq,h⟩:=dN h;unfold eE uZ;unfold pn at hk;dsimp only[mX]at h hk;with_reducible repeat' (first|refine an ?_|refine aF h λw h=> ?_|refine da h ?_|refine cS h ?_|fail)
 have h:=h.fr 1;have h:=h.fr 15;refine al1 (M:=G.M) (O:=O) h hf hM λw h=> ?_;have h:=h.bk 15;have h:=h.bk 1;generalize O.step G.M id=r at h hk ha hno ⊢;have h:wX w0 w l aa gw (G.mem r.2) ⟨id,dq,wait,stack,back,cM,some r.1,after,look,seen,step,left,late,fits,got,none_,jk,home,target,kind,bH,blocked,again,CO,mark,dA,own,said,bits,pT⟩ (lZ (qx l aa) os::R) sp st sw q:=h;replace hq:q.Ok aa gw ⟨id,dq,wait,stack,back,cM,some r.1,after,look,seen,step,left,late,fits,got,none_,jk,home,target,kind,bH,blocked,again,CO,mark,dA,own,said,bits,pT⟩:={hq with};refine ay (λhb=> ?_) λhb=> ?_
 ·have hb:r.1.how=0:=by simpa using hb
  rw[if_pos hb]at hk;exact hk _ (bi hq h)
 have hb:¬r.1.how=0:=by simpa using hb
 rw[if_neg hb]at hk;refine ay (λjL=> ?_) λjL=> ?_
 ·have jL:r.1.how=6:=by simpa using jL
  rw[if_pos jL]at hk;with_reducible repeat' (first|refine an ?_|refine aF h λw h=> ?_|refine da h ?_|fail)
  have h2:St w0 w (uq q.go r.1::_):=h.front 15 rfl;refine azt (O:=r.1) (go:=q.go) h2 ?_;with_reducible repeat' (first|refine cP ?_|fail)
  refine JY h (hno jL) he λw h=> ?_;exact hk _ (bi (G:=(G.mem r.2).fail r.1.err) hq h)
 have jL:¬r.1.how=6:=by simpa using jL
 rw[if_neg jL]at hk;replace ha:=ha hb jL;unfold Zc at ha;unfold yV at hk;have hv:=hq.after;with_reducible repeat' (first|refine an ?_|refine pC h ?_|fail)
 cases after with
 |c f=>
  obtain⟨b,hb',hv⟩:=hv;rw[hv];cases f<;>first|exact ha.elim|skip
  ·refine bU (d:=DM) (λ_ _ _=>rfl) (aoo ?_);exact asN hq h hb' rfl hk
  ·refine bU (d:=BC) (λ_ _ _=>rfl) (aif ?_);exact akv hq h hb' hk
  ·refine bU (d:=BD) (λ_ _ _=>rfl) (aih ?_);obtain⟨⟨s',hs⟩,ht,hd⟩:=ha;exact akx hq h hb' rfl hs ht hd hk
 |m f=>
  obtain hv:q.JT=mt gw f:=hv;rw[hv];cases f<;>first|exact ha.elim|skip
  ·refine bU (d:=HC) (λ_ _ _=>rfl) (awM ?_);exact az5 (bi hq h) rfl ha.1 ha.2 hk
  ·refine bU (d:=ER) (λ_ _ _=>rfl) (aop ?_);exact atd (bi hq h) rfl ha.1 ha.2 hk
 |nx i=>exact ha.elim
 |no=>exact ha.elim
 |any=>exact ha.elim
 |aw y=>exact ha.elim
 |sh kk=>exact ha.elim
 |U7 y kk=>exact ha.elim
 |Bq y kk=>exact ha.elim
 |hl m z=>exact ha.elim
end
open Fr (Ax nu dQ eB dc iB jj nR oT qv kr qi pR pS pQ)
section
variable {w0 w:World} {L R:List HP} {l:Lc} {P:List dH} {aa:List Nat} {G:Gl} {gw b c d x y a a':Nat} {W:Wk} {k:Unit→aq} {sp st sw so sc:Sl} {q:Wq} {f:HP→List HP} {t t' tt:Tk} {s':List Nat} {vs:List Value} {i:List Int} {nd:Nd} {p:Pl}
theorem aCy:GM Tryz.prog 120 2 16 (.agg #[.int .i64 0,.int .i64 0]):=⟨be,be⟩
theorem ayh:GM Tryz.prog 69 1 8 (.int .i64 0):=⟨be,be⟩
theorem ate(hF:iN w0 l.ps P)(hI:In P t.f i)(h:qE w0 w l aa gw G W R)(he:G.err=0)(hs:W.stack=x::s')(ht:G.ts[x]?=some t)(ho:t.cD≠ [])(hM:G.M.OK)(pB:G.M.caller W.id=true)(hC:G.C.length≤1000000)(hP:G.P.length≤1000000)(hsc:oc G.C t.ku.1=some nd)
  (B2:0≤t.ku.1∧G.P[t.ku.1.toNat]?=some p) (hl1:t.scopes.length≤1000000) (hl2:t.cD.length≤1000000) (htm:G.time.2.length≤100000∧CK G.time) (TY:i.getD 4 0>0→(Ko.CM G.time (G.C.length:Nat) (i.getD 4 0)).1=0)
  (hk:Fin w0 l aa gw R k (opens l P G W x t nd p.2.1)):fP (some ⟨gw,0,none⟩) w k:=by
 obtain⟨o,m,wY⟩:∃o m,t.cD=o++[m]:=⟨_,_,(List.dropLast_concat_getLast ho).symm⟩;obtain⟨sp,st,sw,q,hq,h⟩:=dN h;obtain⟨a,vs,ha,hst,hvs⟩:=mY hq hs;obtain⟨hp,so,sc,h⟩:=nU h ha ht;unfold fP yj;unfold opens at hk;rw[BY wY]at hsc B2 hk;rw[hI.ins]at hk;have hf:=hI.len;have h5:=hI.Gw;dsimp only at hk;refine Gz h he (λhb w h=> ?_) λhb w h=> ?_
 ·rw[if_pos hb]at hk;with_reducible repeat' (first|refine nJ ?_|fail)
  exact hk _ (bi (G:=G.fail 22) hq (oQ (G:=G.fail 22) ⟨hp.len,hp.a,hp.t⟩ h))
 rw[if_neg hb]at hk;with_reducible repeat' (first|refine fE ?_|fail)
 refine lu h hst vw λw h=> ?_;refine I2 hF hI h hst λw h=> ?_;obtain⟨i0,i1,i2,i3,i4,rfl⟩:=I1 h5;have e4:([i0,i1,i2,i3,i4]:List Int).getD 4 0=i4:=rfl;rw[e4]at hk TY;with_reducible repeat' (first|refine an ?_|refine aF h λw h=> ?_|refine da h ?_|refine cS h ?_|refine nW h λw h=> ?_|refine av h λgx w h=> ?_|fail)
 obtain⟨gc,lS⟩:∃n,n=gx:=⟨_,rfl⟩;subst lS;refine BK h wY λw h=> ?_;with_reducible repeat' (first|refine ja h ?_|fail)
 refine ptI (by rfl) ?_
 refine afG (C:=G.C) (M:=G.M) h hsc pB hM hC (λhd w h=> ?_) (λhd hr w h=> ?_) λhd hr w h=> ?_
 ·rw[if_pos hd]at hk;with_reducible repeat' (first|refine an ?_|refine da h ?_|fail)
  refine JY h fY he λw h=> ?_;exact hk _ (bi (G:=G.fail 23) hq (oQ (G:=G.fail 23) ⟨hp.len,hp.a,hp.t⟩ (h.rm 0 rfl)))
 ·rw[if_neg hd,if_pos hr]at hk;with_reducible repeat' (first|refine an ?_|refine da h ?_|fail)
  refine JY h fY he λw h=> ?_;exact hk _ (bi (G:=G.fail 21) hq (oQ (G:=G.fail 21) ⟨hp.len,hp.a,hp.t⟩ (h.rm 0 rfl)))
 ·rw[if_neg hd,if_neg (by rw[hr];simp)]at hk
  have atf:=uN (s:=sc) (vs:=ints t.scopes) h;have atf:sc.n=t.scopes.length:=by simpa using atf
  with_reducible repeat' (first|refine an ?_|refine aF h λw h=> ?_|refine da h ?_|refine cS h ?_|refine j5 h ?_|refine fE ?_|refine lT ?_|fail)
  refine BK h wY λw h=> ?_;with_reducible repeat' (first|refine ja h ?_|fail)
  refine ptI (by rfl) ?_
  refine rI (sz:=4) (s:=sp) (es:=G.P.map uw) h B2.1 (e:=uw p) (j:=1) (by rw[pz,B2.2];rfl) rfl ?_
  with_reducible repeat' (first|refine ja h ?_|fail)
  refine NJ rfl rfl ?_;with_reducible repeat' (first|refine av h λgx w h=> ?_|refine ja h ?_|fail)
  refine adL (sz:=4) (s:=sp) (es:=G.P.map uw) (e:=uw (t.id,((sc.n:Nat):Int),p.2.1,false)) h as2 be rfl ah (by simp[Value.oneCell']) (by simpa using hP) ah λs1 w h hn=> ?_
  have h:=h.Ek 0;have e1:G.P.map uw++[uw (t.id,((sc.n:Nat):Int),p.2.1,false)]=(G.P++[(t.id,((t.scopes.length:Nat):Int),p.2.1,false)]).map uw:=by rw[atf];simp
  rw[e1]at h;with_reducible repeat' (first|refine an ?_|refine j5 h ?_|refine dO h λw h=> ?_|refine av h λgx w h=> ?_|refine ja h ?_|fail)
  refine K7 (s:=sc) (vs:=ints t.scopes) h ayh be rfl (by simpa using hl1) ah λs2 w h E7=> ?_
  have h:=h.Ek 0;have e2:ints t.scopes++[.int .i64 ((G.C.length:Nat):Int)]=ints (t.scopes++[((G.C.length:Nat):Int)]):=by simp[ints]
  rw[e2]at h;with_reducible repeat' (first|refine an ?_|refine aF h λw h=> ?_|refine cS h ?_|refine j5 h ?_|refine dO h λw h=> ?_|refine cP ?_|fail)
  refine NJ rfl rfl ?_;with_reducible repeat' (first|refine av h λgx w h=> ?_|refine ja h ?_|fail)
  refine adL (sz:=2) (s:=so) (es:=t.cD.map Ay) (e:=Ay (((G.C.length:Nat):Int),W.mark)) h aCy be rfl ah (by simp[Value.oneCell']) (by simpa using hl2) ah λs3 w h hn3=> ?_
  have h:=h.Ek 0;have e3:t.cD.map Ay++[Ay (((G.C.length:Nat):Int),W.mark)]=(t.cD++[(((G.C.length:Nat):Int),W.mark)]).map Ay:=by simp
  rw[e3]at h;with_reducible repeat' (first|refine an ?_|refine dO h λw h=> ?_|fail)
  refine bS (fun(b:Bool) w=>b=false∧St w0 w (ax gc (ints [i0,i1,i2,i3,i4])::TL l aa gw {G with M:=(G.M.tick W.id).grow 2,C:=G.C++[⟨m.1,wr (nd.nest+1),(G.M.cells.length:Nat)⟩],P:=G.P++[(t.id,((t.scopes.length:Nat):Int),p.2.1,false)],time:=if i4>0 then(G.time.1,(Ko.CM G.time (G.C.length:Nat) i4).2)else G.time} W R s1 st sw q x a {t with scopes:=t.scopes++[((G.C.length:Nat):Int)],cD:=t.cD++[(((G.C.length:Nat):Int),W.mark)]} s3 s2)) (λJ hJ=> ?_) ?_
  ·with_reducible repeat' (first|refine aF h λw h=> ?_|refine cS h ?_|fail)
   refine ay (λhb=> ?_) λhb=> ?_
   ·have hb:i4>0:=of_decide_eq_true hb;rw[if_pos hb]at hJ;with_reducible repeat' (first|refine an ?_|refine da h ?_|refine cS h ?_|fail)
    refine Ko.azI (now:=G.time.1) (S:=G.time.2) htm.1 htm.2 h λw h=> ?_;rw[show(Ko.CM (G.time.1,G.time.2) ((G.C.length:Nat):Int) i4).1=0 from TY hb];with_reducible repeat' (first|refine ja h ?_|refine lT ?_|fail)
    exact hJ _ _ ⟨rfl,h⟩
   ·have hb:¬i4>0:=of_decide_eq_false hb;rw[if_neg hb]at hJ;exact hJ _ _ ⟨rfl,h⟩
  clear h;rintro _ w ⟨rfl,h⟩;with_reducible repeat' (first|refine an ?_|refine mH h ?_|refine fE ?_|fail)
  refine Sr (t:=t) h hf λw h=> ?_;with_reducible repeat' (first|refine an ?_|fail)
  refine Ak (t:={t with scopes:=t.scopes++[((G.C.length:Nat):Int)],cD:=t.cD++[(((G.C.length:Nat):Int),W.mark)]}) h (by rw[kr,hf]) λw h=> ?_
  have h:=h.Ek 0;unfold aH;with_reducible repeat' (first|refine an ?_|refine da h ?_|refine cS h ?_|refine dO h λw h=> ?_|fail)
  exact hk _ (bi (q:={q with px:=mt gw .next}) (by exact{hq with cM:=rfl}) (vo (t':={t with scopes:=t.scopes++[((G.C.length:Nat):Int)],cD:=t.cD++[(((G.C.length:Nat):Int),W.mark)],f:=nu t.f})
   (G:=({G with M:=(G.M.tick W.id).grow 2,C:=G.C++[⟨m.1,wr (nd.nest+1),(G.M.cells.length:Nat)⟩],P:=G.P++[(t.id,((t.scopes.length:Nat):Int),p.2.1,false)],time:=if i4>0 then(G.time.1,(Ko.CM G.time (G.C.length:Nat) i4).2)else G.time}:Gl).lU) (W:=W.go .next) ⟨hp.len,hp.a,hp.t⟩ h))
end
section
variable {w0 w:World} {L R:List HP} {l:Lc} {P:List dH} {aa:List Nat} {G:Gl} {gw b c d x y a a':Nat} {W:Wk} {sp st sw so sc:Sl} {q:Wq} {f:HP→List HP} {t t' tt:Tk} {s':List Nat} {vs:List Value} {i:List Int} {nd:Nd} {p:Pl}
abbrev SL(l:Lc)(aa:List Nat)(G:Gl)(R:List HP)(sp st sw:Sl):List HP:=ax l.gs (l.cs sp st sw G.steps G.err)::bI l.gm G.M::Cr l.gk G.T::scp l.gc G.C::rws 4 sp (G.P.map uw)::bP 1 st (aa.map pt)::bP 1 sw (l.wa.map pt)::oe l.gt G.time::KO l.gd G.D::L1 aa G.ts::R
theorem akH{g:Nat}{X Y:List Value}(h:St w0 w (ax g X::L))(e:X=Y):St w0 w (ax g Y::L):=e▸h
theorem atg{wk parent lX own:Int}{fr:List Int}{k:Int→aq}(h:St w0 w (SL l aa G R sp st sw))(hf:fr.length=19)(hM:G.M.OK)(pB:G.M.caller wk=true)(Zd:(parent= -1∧G.T=[])∨∃t,Gs G.T parent=some t∧t.kids.length≤1000000)(hT:G.T.length≤1000000)(hn:aa.length≤1000000)(hown:0≤own∧own<G.P.length)
  (h1:G.M.room 3=true→∀g CV w',St w0 w' (SL l (aa++[g]) (G.more wk parent lX own fr) R sp CV sw)→k 0 w') (h2:G.M.room 3=false→∀w',St w0 w' (SL l aa G R sp st sw)→k 21 w'):eX (some ⟨l.gs,0,none⟩) wk parent lX own (eU fr) w k:=by
 unfold eX Ce;refine av h λgf w h=> ?_;with_reducible repeat' (first|refine an ?_|refine da h ?_|fail)
 refine avJ (M:=G.M) h pB hM (λhr w h=> ?_) λhr w h=> ?_
 ·with_reducible repeat' (first|refine an ?_|refine da h ?_|refine nW h λw h=> ?_|refine av h λgx w h=> ?_|refine fE ?_|fail)
  obtain⟨g7,lS⟩:∃n,n=gx:=⟨_,rfl⟩;subst lS;refine avO (T:=G.T) h Zd hT λw h=> ?_;with_reducible repeat' (first|refine an ?_|refine aF h λw h=> ?_|refine j5 h ?_|refine mI h ?_|refine fE ?_|fail)
  refine amu h hf ?_;obtain⟨f0,f1,f2,f3,f4,f5,f6,f7,f8,f9,f10,f11,f12,f13,f14,f15,f16,f17,f18,rfl⟩:=Fr.afN hf;with_reducible repeat' (first|refine av h λgx w h=> ?_|refine ja h ?_|refine mJ h ?_|fail)
  obtain⟨gn,lS⟩:∃n,n=gx:=⟨_,rfl⟩;subst lS;refine⟨rfl,?_⟩;refine⟨rfl,?_⟩;with_reducible repeat' (first|refine av h λgx w h=> ?_|refine ja h ?_|fail)
  obtain⟨gp,lS⟩:∃n,n=gx:=⟨_,rfl⟩;subst lS;obtain⟨gt,lS⟩:∃n,n=gx:=⟨_,rfl⟩;subst lS;refine K7 (s:=st) (vs:=aa.map pt) h amx be rfl (by simpa using hn) ah λs1 w h ux=> ?_
  have h:=h.Ek 0;have ep:aa.map pt++[.pointer (some ⟨gt,0,none⟩)]=(aa++[gt]).map pt:=by simp
  rw[ep]at h;with_reducible repeat' (first|refine an ?_|refine j5 h ?_|refine dO h λw h=> ?_|fail)
  have X5:own.toNat<G.P.length:=ah;refine rW (sz:=4) (s:=sp) (es:=G.P.map uw) h hown.1 (e:=uw (G.P[own.toNat]'X5)) (by rw[pz,j4 X5];rfl) ah rfl (by simp[Value.oneCell']) λw h=> ?_
  have e2:(G.P.map uw).set own.toNat [.int .i64 ((G.T.length:Nat):Int),.int .i64 0,.int .i64 0,.bool false]=(G.P.set own.toNat (((G.T.length:Nat):Int),0,0,false)).map uw:=by rw[List.map_set]
  have e3:∀(z:Int),(#[.int .i64 z,.int .i64 0,.int .i64 0,.bool false]:Array Value).toList=[.int .i64 z,.int .i64 0,.int .i64 0,.bool false]:=λ_=>rfl;rw[e3,e2]at h;have h:=h.Ek 2;have h:=h.Ek 2;have h:=St.asS (g:=gn) (n:=1) (sz:=1) h (by rfl) ah (by intro v hv;simp at hv;subst hv;rfl)
  have h:=h.fr 11;have hl:aa.length=G.ts.length:=NP h;have h:=h.fr 2;have h:St w0 w (rws 2 ⟨none,0,0⟩ (([]:List (Int×Int)).map Ay)::_):=St.pur (by intro e he;cases he) (h.Jv 2)
  have h:=h.fr 3;have h:=akH (Y:=Tk.cells ⟨none,0,0⟩ ⟨some ⟨gn,0,none⟩,1,1⟩ ⟨(G.T.length:Nat),lX,own,(G.M.cells.length:Nat),[f0,f1,f2,f3,f4,f5,f6,f7,f8,f9,f10,f11,f12,f13,f14,f15,f16,f17,f18],ByteArray.mk #[],[],[own],0,0⟩) h be;have h:=awl (t':=⟨(G.T.length:Nat),lX,own,(G.M.cells.length:Nat),[f0,f1,f2,f3,f4,f5,f6,f7,f8,f9,f10,f11,f12,f13,f14,f15,f16,f17,f18],ByteArray.mk #[],[],[own],0,0⟩) (g:=gt) (so:=⟨none,0,0⟩) (sc:=⟨some ⟨gn,0,none⟩,1,1⟩) hl h;have h:=h.bk 9;exact h1 hr gt s1 w h
 ·with_reducible repeat' (first|refine nW h λw h=> ?_|refine av h λgx w h=> ?_|refine nJ ?_|fail)
  exact h2 hr w ((h.rm 0 rfl).rm 0 rfl)
end
end Go.Proofs.YthidhjhkmjjckaaGreatDoor
namespace Go.Proofs.YthidhjhkmjjckaaGreatDoor
open Go Go.Ev Go.Proofs
section
variable {w0 w:World} {L R:List HP} {l:Lc} {aa m:List Nat} {os:List (Nat×Wk)}
theorem ath{x:Nat×Wk}{F:Nat→Prop}{w:World}(h:(qx l aa x).p F w):(qx l (aa++m) x).p F w:=by
 obtain⟨q,hq,h⟩:=h;exact⟨q,hq.qG,h⟩
theorem aii{α:Type}{X Y:α→HP}(hXY:∀a F w,(X a).p F w→(Y a).p F w):∀{l:List α} {F:Nat→Prop} {w:World},uK (l.map X) F w→uK (l.map Y) F w
 |[],_,_,h=>h
 |a::l,F,w,⟨F1,F2,h1,h2,h3⟩=>⟨F1,F2,hXY _ _ _ h1,aii hXY h2,h3⟩
theorem amC(h:St w0 w (lZ (qx l aa) os::R)):St w0 w (lZ (qx l (aa++m)) os::R):=by
 obtain⟨h1,F,⟨F1,F2,h2,h4,h5,e⟩,h3⟩:=h;exact⟨h1,F,⟨F1,F2,aii (λa F w h=>ath h) h2,h4,h5,e⟩,h3⟩
end
open Ko (oe CK)
open Fr (Ax nu dQ eB dc iB jj nR oT qv kr qi pR pS pQ)
section
variable {w0 w:World} {L R:List HP} {l:Lc} {P:List dH} {aa:List Nat} {G:Gl} {gw b c d x y a a':Nat} {W:Wk} {k:Unit→aq} {sp st sw so sc:Sl} {q:Wq} {f:HP→List HP} {t t' tt:Tk} {s':List Nat} {vs:List Value} {i:List Int} {nd:Nd} {p:Pl} {os:List (Nat×Wk)}
theorem aij{f:List Int}{n m:Int}(hf:f.length=19):(jj f n m).length=19:=by
 unfold jj;simp[Fr.WV,hf]
theorem aik{ps:Sl}{g:dH}{k:Array Value×Int→aq}(h:St w0 w L)(hF:iN w0 ps P)(hf:t.f.length=19)(h5:i.length=5)(h8:oT i 8=true)(hg:P[(i.getD 4 0).toNat]?=some g)(hk:∀w',St w0 w' L→k (eU (jj t.f (i.getD 4 0) g.aX),0) w'):iX (frV t.f).toArray #[.slice ps.a ps.n ps.c] (eU i) w k:=by
 rw[NO hf];have hF':=(hF.ext h.ext);refine Fr.ar1 (fs:=P.map λx=>(x.aX,x.sl)) hf h5 ?_ (λe=> ?_) (λ_ e=> ?_) λ_ z hz w' he=> ?_
 ·have hr:=hF'.rws;unfold Fr.NL;rw[List.map_map];exact hr
 ·rw[h8]at e;cases e
 ·have:=(kJ.1 hg).1;rw[List.length_map]at e;omega
 ·rw[pz,hg]at hz;cases hz
  exact hk w' (h.on he)
theorem aor{z:Int}{k:Array Value→aq}(h:St w0 w L)(hf:t.f.length=19)(h5:i.length=5)(hk:∀w',St w0 w' L→k (eU (eB t.f i z)) w'):jb (frV t.f).toArray (eU i) z w k:=by
 rw[NO hf];exact Fr.anN hf h5 λw' he=>hk w' (h.on he)
theorem ati{g:dH}(hF:iN w0 l.ps P)(hI:In P t.f i)(h:qE w0 w l aa gw G W (lZ (qx l aa) os::R))(he:G.err=0)(hs:W.stack=x::s')(ht:G.ts[x]?=some t)(ho:t.cD≠ [])(h8:oT i 8=true)(hg:P[(i.getD 4 0).toNat]?=some g)
  (hM:G.M.OK) (pB:G.M.caller W.id=true) (Zd:∃t',Gs G.T t.id=some t'∧t'.kids.length≤1000000) (hT:G.T.length≤1000000) (hn:aa.length≤1000000) (hown:0≤W.own∧W.own<G.P.length)
  (hk:∀I3 w',qE w0 w' l I3 gw (JZ l P G W x t).1 (JZ l P G W x t).2 (lZ (qx l I3) os::R)→k () w'):fO (some ⟨gw,0,none⟩) w k:=by
 obtain⟨o,m,wY⟩:∃o m,t.cD=o++[m]:=⟨_,_,(List.dropLast_concat_getLast ho).symm⟩;obtain⟨sp,st,sw,q,hq,h⟩:=dN h;obtain⟨a,vs,ha,hst,hvs⟩:=mY hq hs;obtain⟨hp,so,sc,h⟩:=nU h ha ht;unfold fO yg;unfold JZ at hk;rw[BY wY,hI.ins]at hk;dsimp only at hk;have hf:=hI.len;have h5:=hI.Gw;have hnd:Eb P (i.getD 4 0)=g.aX:=by unfold Eb;rw[hg]
 rw[hnd]at hk;refine Gz h he (λhb w h=> ?_) λhb w h=> ?_
 ·rw[if_pos hb]at hk;with_reducible repeat' (first|refine nJ ?_|fail)
  exact hk aa _ (bi (G:=G.fail 22) hq (oQ (G:=G.fail 22) ⟨hp.len,hp.a,hp.t⟩ h))
 rw[if_neg hb]at hk;with_reducible repeat' (first|refine fE ?_|fail)
 refine lu h hst vw λw h=> ?_;refine I2 hF hI h hst λw h=> ?_;obtain⟨i0,i1,i2,i3,i4,hi⟩:=I1 h5;subst hi;with_reducible repeat' (first|refine nW h λw h=> ?_|refine av h λgx w h=> ?_|fail)
 obtain⟨gc,lS⟩:∃n,n=gx:=⟨_,rfl⟩;subst lS;have adN:(jj t.f i4 g.aX).length=19:=aij hf;refine bS (fun(x2:Addr×Int) w=> ∃g2,x2=(⟨g2,0,none⟩,0)∧St w0 w (ax g2 (ints (jj t.f i4 g.aX))::ax gc (ints [i0,i1,i2,i3,i4])::TL l aa gw G W (lZ (qx l aa) os::R) sp st sw q x a t so sc)) (λJ hJ=> ?_) ?_
 ·with_reducible repeat' (first|refine an ?_|refine aF h λw h=> ?_|refine da h ?_|refine mH h ?_|refine mI h ?_|refine av h λgx w h=> ?_|refine ja h ?_|refine mJ h ?_|refine fX ?_ ?_|fail)
  ·refine aik (t:=t) (i:=[i0,i1,i2,i3,i4]) (g:=g) h hF hf h5 h8 hg λw h=> ?_;with_reducible repeat' (first|refine av h λgx w h=> ?_|refine ja h ?_|refine mJ h ?_|fail)
   refine aeg h rfl adN λw h=> ?_;exact hJ _ _ ⟨_,rfl,h⟩
  ·refine aik (t:=t) (i:=[i0,i1,i2,i3,i4]) (g:=g) h hF hf h5 h8 hg λw h=> ?_;refine aeg h rfl adN λw h=> ?_;exact hJ _ _ ⟨_,rfl,h⟩
 clear h;rintro _ w ⟨g2,rfl,h⟩;refine P2 ?_;with_reducible repeat' (first|refine an ?_|refine aF h λw h=> ?_|refine da h ?_|refine cS h ?_|refine fE ?_|refine lT ?_|fail)
 refine amu h adN ?_;refine BK h wY λw h=> ?_;with_reducible repeat' (first|refine ja h ?_|refine mJ h ?_|fail)
 refine ptI (by rfl) ?_
 have h:=h.bk 23;have h:=h.bk 22;have h:=oQ (R:=ax gc (ints [i0,i1,i2,i3,i4])::ax g2 (ints (jj t.f i4 g.aX))::lZ (qx l aa) os::R) hp h;refine atg (aa:=aa) (G:=G) h adN hM pB (.inr Zd) hT hn hown (λhr gn CV w h=> ?_) λhr w h=> ?_
 ·rw[if_neg (by rw[hr];simp)]at hk
  have ayi:=uN (s:=CV) (vs:=(aa++[gn]).map pt) h;have hm':=(h.own (sz:=1) (s:=CV) (vs:=(aa++[gn]).map pt)).max;have Ei:=(h.own (sz:=1) (s:=CV) (vs:=(aa++[gn]).map pt)).cap;have e0:aG .i64 (((CV.n:Nat):Int) - 1)=(G.ts.length:Nat):=by
   rw[List.length_map,tV,hp.len]at ayi;simp only[List.length_cons,List.length_nil]at ayi;rw[lY ⟨ah,ah⟩];omega
  with_reducible repeat' (first|refine an ?_|refine aF h λw h=> ?_|refine ja h ?_|refine fE ?_|refine lT ?_|fail)
  obtain⟨hp',so',sc',h⟩:=nU (aa:=aa++[gn]) (G:=G.more W.id t.id m.1 W.own (jj t.f i4 g.aX)) (W:=W) (q:=q) h (Sk ha) (sZ (kJ.1 ht).1|>.trans ht);with_reducible repeat' (first|refine an ?_|refine da h ?_|refine j5 h ?_|refine mH h ?_|refine mI h ?_|fail)
  refine aor (t:=t) (i:=[i0,i1,i2,i3,i4]) h hf h5 λw h=> ?_;with_reducible repeat' (first|refine an ?_|fail)
  refine Ak h (by rw[pR,hf]) λw h=> ?_
  unfold aH;with_reducible repeat' (first|refine an ?_|refine da h ?_|refine cS h ?_|refine j5 h ?_|refine dO h λw h=> ?_|fail)
  have h:=h.Ek 22;have h:=h.Ek 22;have h:=h.fr 22;have h:=amC (m:=[gn]) h;have h:=h.bk 22;simp only[e0]at h;exact hk (aa++[gn]) _ (bi (q:={q with px:=mt gw .sV}) (by exact{hq.qG with cM:=rfl}) (vo (t':={t with f:=eB t.f [i0,i1,i2,i3,i4] (G.ts.length:Nat)}) (G:=(G.more W.id t.id m.1 W.own (jj t.f i4 g.aX)).lU) (W:={W with jk:=(G.ts.length:Nat),cM:= .m .sV}) ⟨hp'.len,hp'.a,hp'.t⟩ h))
 ·rw[if_pos hr]at hk;with_reducible repeat' (first|refine ja h ?_|fail)
  refine JY h fY he λw h=> ?_;have h:=h.Ek 19;have h:=h.Ek 19;exact hk aa _ (bi (G:=G.fail 21) hq h)
end
end Go.Proofs.YthidhjhkmjjckaaGreatDoor
namespace Go.Proofs.YthidhjhkmjjckaaGreatDoor
open Go Go.Ev Go.Proofs
open Ko (oe CK)
open Fr (Ax nu dQ eB dc iB jj nR oT)
abbrev tk0:Tk:=⟨0,0,0,0,[],ByteArray.mk #[],[],[],0,0⟩
def Gl.tk(G:Gl)(x:Nat):Tk:=(G.ts[x]?).getD tk0
def Gl.nd(G:Gl)(s:Int):Nd:=(oc G.C s).getD ⟨0,0,0⟩
def Gl.pk(G:Gl)(s:Int):Int:=match G.P[s.toNat]? with|some p=>p.2.1|none=>0
theorem Gl.Al(G:Gl){x:Nat}(h:x<G.ts.length):G.ts[x]?=some (G.tk x):=by
 unfold Gl.tk;rw[j4 h];rfl
theorem Gl.az6(G:Gl){s:Int}(h:s<G.P.length)(h0:0≤s):∃p,G.P[s.toNat]?=some p∧G.pk s=p.2.1:=by
 have h1:s.toNat<G.P.length:=ah;exact⟨_,j4 h1,by unfold Gl.pk;rw[j4 h1]⟩
def Yq(l:Lc)(P:List dH)(G:Gl)(W:Wk)(bt:List Int):SW:=
 let x:=W.stack.headD 0
 let t:=G.tk x
 match W.cM with
 | .m .rest=>rest l G W
 | .m .pn=>match W.op with|some O=>pn l G W O t bt G.vp|none=>(G,W)
 | .m .looking=>match W.look with|some k=>looking l G W k (G.nd k.at_) x t|none=>(G,W)
 | .m .tell=>NV l G W
 | .m .others=>others l G W t bt
 | .m .wU=>match W.step with|some o=>wU l G W o|none=>(G,W)
 | .m .RD=>RD l G W
 | .m .IU=>IU l G W
 | .m .sU=>sU G W (G.tk W.jk.toNat)
 | .m .start=>NW l G W W.jk.toNat (G.tk W.jk.toNat)
 | .m .next=>Vc l P G W x t
 | .m .fork=>fork G W t (G.nd t.ku.1)
 | .m .wV=>JZ l P G W x t
 | .m .sV=>sV l G W (G.nd t.ku.1)
 | .m .join=>join l P G W t
 | .m .cD=>cD G W
 | .m .opens=>opens l P G W x t (G.nd t.ku.1) (G.pk t.ku.1)
 | .m .close=>close_ G W t
 | .m .gF=>gF l P G W x t (G.nd t.ku.1)
 | .m .cancel=>cancel l G W x t (G.nd t.ku.1)
 | .m .pass=>pass l G W x t
 | .m .leave=>leave l P G W x t
 | .m .put=>put G W t
 | .m .fin=>fin G W t
 | .m .asks=>asks G W t
 | .m .gone=>gone G W (G.nd t.lX)
 | .m .asked=>asked G W t (G.tk (W.target.getD 0)) (W.target.getD 0)
 | .m .joined=>joined l P G W x t (G.tk (W.target.getD 0))
 | .m .tO=>tO l G W t
 | .m .qV=>qV l G W
 | .m .rT=>rT G W t (G.nd t.ku.1)
 | .m .register=>register G W (G.tk (W.target.getD 0))
 | .m .block=>match W.step with|some o=>block l G W o|none=>(G,W)
 | .m .HJ=>HJ l G W t
 | .m .stops=>stops l G W x t G.vp G.Vd
 | .aw y=>FH l G W t y
 | .sh k=>(G,shut W k t)
 |_=>(G,W)
structure GB (G:Gl) (W:Wk) (x:Nat) (t:Tk):Prop where
 s:W.stack=x::W.stack.tail
 t:G.ts[x]?=some t
abbrev GC(G:Gl)(s:Int):Prop:=oc G.C s=some (G.nd s)
abbrev Ze(P:List dH)(f:List Int):Prop:=In P f (bu P f)∧(0≤(bu P f).getD 0 0∧(bu P f).getD 0 0<17)∧((dQ f (bu P f)).2=false→8≤(bu P f).getD 0 0∧(bu P f).getD 0 0≤16)
abbrev ail(G:Gl)(W:Wk):Prop:=W.target=some (W.target.getD 0)∧W.target.getD 0<G.ts.length
abbrev aCA(l:Lc)(os:List (Nat×Wk))(bt:List Int)(G:Gl)(W:Wk):Prop:=∃O,W.op=some O∧O.Gu∧((O.step G.M W.id).1.how=6→(O.step G.M W.id).1.err≠0)∧
 ((O.step G.M W.id).1.how≠0→(O.step G.M W.id).1.how≠6→Zc l os bt (G.mem (O.step G.M W.id).2) {W with op:=some (O.step G.M W.id).1} (W.stack.headD 0) (G.tk (W.stack.headD 0)))
structure aej (l:Lc):Prop where
 sp:l.sp.OK
 w1:1≤l.wa.length
 w16:l.wa.length≤16
def aim(l:Lc)(P:List dH)(os:List (Nat×Wk))(bt:List Int)(G:Gl)(W:Wk):Prop:=
 let x:=W.stack.headD 0
 let t:=G.tk x
 match W.cM with
 | .m .rest=>G.M.can W.id l.told=true
 | .m .pn=>aCA l os bt G W
 | .m .looking=> ∃k,GB G W x t∧W.look=some k∧k.done=false∧GC G k.at_∧G.M.can W.id (G.nd k.at_).at_=true∧amB W t
 | .m .tell=>G.M.can W.id l.told=true
 | .m .others=>G.M.can W.id l.idle=true∧G.M.given (l.sp.at_+1)=true∧(0≤W.id∧W.id<l.wa.length)∧Zb l os bt {W with left:=UZ (G.D.headD 0) (xh W.id (l.sp.bits G.M) (G.M.get l.idle) l.wa.length)}
 | .m .wU=> ∃o,W.step=some o∧o.Gu l.sp G.M W.id
 | .m .RD=>(0≤W.id∧W.id≤16)∧G.M.can W.id l.idle=true∧W.wait.how=1
 | .m .IU=>(0≤W.id∧W.id≤16)∧G.M.can W.id l.idle=true
 | .m .sU=>(0≤W.jk∧W.jk<G.ts.length)∧G.M.can W.id ((G.tk W.jk.toNat).jC+0)=true
 | .m .start=>(0≤W.jk∧W.jk<G.ts.length)∧yY W.dq∧G.M.can W.id (W.dq+1)=true∧GC G (G.tk W.jk.toNat).lX∧W.stack.length≤100000∧W.back.length≤100000
 | .m .next=>GB G W x t∧Ze P t.f∧GC G t.lX
 | .m .fork=>GB G W x t∧t.cD≠ []∧G.M.caller W.id=true∧G.C.length≤1000000∧G.P.length≤1000000∧GC G t.ku.1
 | .m .wV=>GB G W x t∧t.cD≠ []∧Ze P t.f∧oT (bu P t.f) 8=true∧(∃g,P[((bu P t.f).getD 4 0).toNat]?=some g)∧G.M.caller W.id=true∧(∃t',Gs G.T t.id=some t'∧t'.kids.length≤1000000)∧G.T.length≤1000000∧G.ts.length≤1000000∧(0≤W.own∧W.own<G.P.length)
 | .m .sV=>GB G W x t∧t.cD≠ []∧GC G t.ku.1∧G.M.can W.id ((G.nd t.ku.1).at_+1)=true
 | .m .join=>GB G W x t∧Ze P t.f∧(0≤GA (bu P t.f)∧GA (bu P t.f)<8)∧(0≤t.f.getD (10+(GA (bu P t.f)).toNat) 0∧t.f.getD (10+(GA (bu P t.f)).toNat) 0<G.ts.length)∧G.M.can W.id l.told=true∧GC G t.lX
 | .m .cD=>yY W.dq∧G.M.can W.id (W.dq+1)=true
 | .m .opens=>GB G W x t∧t.cD≠ []∧Ze P t.f∧G.M.caller W.id=true∧G.C.length≤1000000∧G.P.length≤1000000∧GC G t.ku.1∧(0≤t.ku.1∧t.ku.1<G.P.length)∧t.scopes.length≤1000000∧t.cD.length≤1000000∧(G.time.2.length≤100000∧CK G.time)∧((bu P t.f).getD 4 0>0→(Ko.CM G.time (G.C.length:Nat) ((bu P t.f).getD 4 0)).1=0)
 | .m .close=>GB G W x t∧t.cD≠ []
 | .m .gF=>GB G W x t∧t.cD≠ []∧Ze P t.f∧Dr G t.ku.1∧GC G t.ku.1∧G.M.can W.id (G.nd t.ku.1).at_=true∧t.gF.size≤1000000
 | .m .cancel=>GB G W x t∧t.cD≠ []∧t.f.length=19∧GC G t.ku.1∧G.M.can W.id (G.nd t.ku.1).at_=true
 | .m .pass=>GB G W x t∧t.f.length=19
 | .m .leave=>GB G W x t∧Ze P t.f∧(0≤(bu P t.f).getD 1 0∧(bu P t.f).getD 1 0<8)
 | .m .put=>GB G W x t∧G.M.can W.id (t.jC+1)=true
 | .m .fin=>GB G W x t∧(2≤t.kind∧t.kind≤4)∧G.M.can W.id (t.jC+0)=true
 | .m .asks=>GB G W x t∧G.M.can W.id (t.jC+2)=true
 | .m .gone=>GB G W x t∧(∃kb bs,W.back=kb::bs∧bs.length=W.stack.tail.length)∧GC G t.lX∧G.M.can W.id ((G.nd t.lX).at_+1)=true
 | .m .asked=>GB G W x t∧t.cD≠ []∧ail G W∧G.M.can W.id ((G.tk (W.target.getD 0)).jC+0)=true
 | .m .joined=>GB G W x t∧Ze P t.f∧ail G W∧G.M.can W.id ((G.tk (W.target.getD 0)).jC+1)=true
 | .m .tO=>GB G W x t∧(W.dA= .m .vu∨W.dA= .c .Cs)∧yY W.dq∧G.M.can W.id (W.dq+1)=true
 | .m .qV=>G.M.can W.id l.told=true
 | .m .rT=>GB G W x t∧t.cD≠ []∧GC G t.ku.1∧G.M.can W.id ((G.nd t.ku.1).at_+1)=true
 | .m .register=>ail G W∧(0≤W.id∧W.id≤16)∧G.M.can W.id ((G.tk (W.target.getD 0)).jC+2)=true
 | .m .block=> ∃o,W.step=some o∧o.Gu l.sp G.M W.id
 | .m .HJ=>GB G W x t∧aeh G W t∧G.M.can W.id l.told=true∧GC G t.lX
 | .m .stops=>GB G W x t∧(0≤W.id∧W.id≤16)∧(W.blocked=true→(W.step.getD (jI.CT 0 2)).Gu l.sp G.M W.id)∧(W.blocked=false→W.bH=true→ail G W∧G.M.can W.id ((G.tk (W.target.getD 0)).jC+2)=true)∧(W.blocked=false→W.bH=false→amA G W t)
 | .aw y=>GB G W x t∧y<G.ts.length∧G.M.can W.id l.told=true∧GC G t.lX
 | .sh k=>GB G W x t∧t.cD≠ []
 |_=>False
section
variable {w:World}
theorem atj{p:Option Addr}{c:Value→aq}(h:gS p w λ_ w=>c (.tuple #[]) w):zR [.pointer p] w c:=h
theorem ain{p:Option Addr}{c:Value→aq}(h:eE p w λ_ w=>c (.tuple #[]) w):u0 [.pointer p] w c:=h
theorem aio{p:Option Addr}{c:Value→aq}(h:eF p w λ_ w=>c (.tuple #[]) w):u9 [.pointer p] w c:=h
theorem atk{p:Option Addr}{c:Value→aq}(h:gP p w λ_ w=>c (.tuple #[]) w):zL [.pointer p] w c:=h
theorem akI{p:Option Addr}{c:Value→aq}(h:e9 p w λ_ w=>c (.tuple #[]) w):wj [.pointer p] w c:=h
theorem akJ{p:Option Addr}{c:Value→aq}(h:fa p w λ_ w=>c (.tuple #[]) w):wo [.pointer p] w c:=h
theorem awO{p:Option Addr}{c:Value→aq}(h:iJ p w λ_ w=>c (.tuple #[]) w):Bb [.pointer p] w c:=h
theorem atl{p:Option Addr}{c:Value→aq}(h:gQ p w λ_ w=>c (.tuple #[]) w):zN [.pointer p] w c:=h
theorem akK{p:Option Addr}{c:Value→aq}(h:fe p w λ_ w=>c (.tuple #[]) w):wv [.pointer p] w c:=h
theorem aos{p:Option Addr}{c:Value→aq}(h:fN p w λ_ w=>c (.tuple #[]) w):yd [.pointer p] w c:=h
theorem atm{p:Option Addr}{c:Value→aq}(h:gR p w λ_ w=>c (.tuple #[]) w):zP [.pointer p] w c:=h
theorem atn{p:Option Addr}{c:Value→aq}(h:gT p w λ_ w=>c (.tuple #[]) w):zT [.pointer p] w c:=h
theorem aot{p:Option Addr}{c:Value→aq}(h:fO p w λ_ w=>c (.tuple #[]) w):yh [.pointer p] w c:=h
theorem akL{p:Option Addr}{c:Value→aq}(h:ff p w λ_ w=>c (.tuple #[]) w):wA [.pointer p] w c:=h
theorem ato{p:Option Addr}{c:Value→aq}(h:gU p w λ_ w=>c (.tuple #[]) w):zW [.pointer p] w c:=h
theorem awP{p:Option Addr}{c:Value→aq}(h:gV p w λ_ w=>c (.tuple #[]) w):zY [.pointer p] w c:=h
theorem aou{p:Option Addr}{c:Value→aq}(h:fP p w λ_ w=>c (.tuple #[]) w):yl [.pointer p] w c:=h
theorem aov{p:Option Addr}{c:Value→aq}(h:fQ p w λ_ w=>c (.tuple #[]) w):yn [.pointer p] w c:=h
theorem akM{p:Option Addr}{c:Value→aq}(h:fg p w λ_ w=>c (.tuple #[]) w):wF [.pointer p] w c:=h
theorem akN{p:Option Addr}{c:Value→aq}(h:fh p w λ_ w=>c (.tuple #[]) w):wH [.pointer p] w c:=h
theorem atp{p:Option Addr}{c:Value→aq}(h:gW p w λ_ w=>c (.tuple #[]) w):z6 [.pointer p] w c:=h
theorem aow{p:Option Addr}{c:Value→aq}(h:fS p w λ_ w=>c (.tuple #[]) w):yq [.pointer p] w c:=h
theorem awQ{p:Option Addr}{c:Value→aq}(h:iL p w λ_ w=>c (.tuple #[]) w):Bh [.pointer p] w c:=h
theorem awR{p:Option Addr}{c:Value→aq}(h:iM p w λ_ w=>c (.tuple #[]) w):Bj [.pointer p] w c:=h
theorem atq{p:Option Addr}{c:Value→aq}(h:gX p w λ_ w=>c (.tuple #[]) w):Aa [.pointer p] w c:=h
theorem atr{p:Option Addr}{c:Value→aq}(h:gY p w λ_ w=>c (.tuple #[]) w):Ac [.pointer p] w c:=h
theorem aox{p:Option Addr}{c:Value→aq}(h:fT p w λ_ w=>c (.tuple #[]) w):yw [.pointer p] w c:=h
theorem akO{p:Option Addr}{c:Value→aq}(h:fj p w λ_ w=>c (.tuple #[]) w):wL [.pointer p] w c:=h
theorem akP{p:Option Addr}{c:Value→aq}(h:fm p w λ_ w=>c (.tuple #[]) w):wN [.pointer p] w c:=h
theorem aip{p:Option Addr}{c:Value→aq}(h:eH p w λ_ w=>c (.tuple #[]) w):ve [.pointer p] w c:=h
theorem aiq{p:Option Addr}{c:Value→aq}(h:eI p w λ_ w=>c (.tuple #[]) w):vg [.pointer p] w c:=h
theorem agb{p:Option Addr}{c:Value→aq}(h:ec p w λ_ w=>c (.tuple #[]) w):uk [.pointer p] w c:=h
theorem aoy{p:Option Addr}{c:Value→aq}(h:fU p w λ_ w=>c (.tuple #[]) w):yD [.pointer p] w c:=h
theorem att{p:Option Addr}{c:Value→aq}(h:gZ p w λ_ w=>c (.tuple #[]) w):Af [.pointer p] w c:=h
theorem aoz{p:Option Addr}{c:Value→aq}(h:fV p w λ_ w=>c (.tuple #[]) w):yF [.pointer p] w c:=h
end
structure atu (bX:eb):Prop where
 az7:∀args w c,bX (.func fZ) args w c=zR args.toList w c
 aoA:∀args w c,bX (.func kT) args w c=u0 args.toList w c
 aoB:∀args w c,bX (.func kU) args w c=u9 args.toList w c
 NV:∀args w c,bX (.func ni) args w c=zL args.toList w c
 atv:∀args w c,bX (.func lK) args w c=wj args.toList w c
 atw:∀args w c,bX (.func lM) args w c=wo args.toList w c
 aCB:∀args w c,bX (.func my) args w c=Bb args.toList w c
 az8:∀args w c,bX (.func ng) args w c=zN args.toList w c
 atx:∀args w c,bX (.func lJ) args w c=wv args.toList w c
 NW:∀args w c,bX (.func mL) args w c=yd args.toList w c
 Vc:∀args w c,bX (.func gu) args w c=zP args.toList w c
 az9:∀args w c,bX (.func lA) args w c=zT args.toList w c
 JZ:∀args w c,bX (.func mM) args w c=yh args.toList w c
 aty:∀args w c,bX (.func lO) args w c=wA args.toList w c
 aAa:∀args w c,bX (.func jm) args w c=zW args.toList w c
 aCC:∀args w c,bX (.func lB) args w c=zY args.toList w c
 awS:∀args w c,bX (.func mN) args w c=yl args.toList w c
 close_:∀args w c,bX (.func kM) args w c=yn args.toList w c
 atz:∀args w c,bX (.func lN) args w c=wF args.toList w c
 atA:∀args w c,bX (.func j7) args w c=wH args.toList w c
 aAb:∀args w c,bX (.func lC) args w c=z6 args.toList w c
 awT:∀args w c,bX (.func iR) args w c=yq args.toList w c
 aCD:∀args w c,bX (.func nX) args w c=Bh args.toList w c
 aCE:∀args w c,bX (.func nY) args w c=Bj args.toList w c
 aAc:∀args w c,bX (.func nj) args w c=Aa args.toList w c
 aAd:∀args w c,bX (.func nk) args w c=Ac args.toList w c
 awU:∀args w c,bX (.func mO) args w c=yw args.toList w c
 atB:∀args w c,bX (.func lQ) args w c=wL args.toList w c
 atC:∀args w c,bX (.func lP) args w c=wN args.toList w c
 aoC:∀args w c,bX (.func kV) args w c=ve args.toList w c
 aoD:∀args w c,bX (.func kW) args w c=vg args.toList w c
 akQ:∀args w c,bX (.func kA) args w c=uk args.toList w c
 awV:∀args w c,bX (.func mR) args w c=yD args.toList w c
 aAe:∀args w c,bX (.func nl) args w c=Af args.toList w c
 awW:∀args w c,bX (.func mP) args w c=yF args.toList w c
 aw:∀args w c,bX (.func eJ) args w c=oO args.toList w c
 sh:∀args w c,bX (.func fG) args w c=pM args.toList w c
section
variable {w0 w:World} {R:List HP} {l:Lc} {P:List dH} {aa:List Nat} {G:Gl} {gw:Nat} {W:Wk} {sp st sw:Sl} {q:Wq} {os:List (Nat×Wk)} {bt:List Int} {bX:eb}
theorem aCF{c:Value→aq}(hF:iN w0 l.ps P)(hT:TZ w0)(hl:aej l)(hq:q.Ok aa gw W)(hO:wX w0 w l aa gw G W (lZ (qx l aa) os::R) sp st sw q)(he:G.err=0)(hM:G.M.OK)(hkn:atu bX)(hok:aim l P os bt G W)
  (hk:∀I3 w',qE w0 w' l I3 gw (Yq l P G W bt).1 (Yq l P G W bt).2 (lZ (qx l I3) os::R)→c (.tuple #[]) w'):m5 bX q.px #[] w c:=by
 have kI:Fin w0 l aa gw (lZ (qx l aa) os::R) (λ_ w=>c (.tuple #[]) w) (Yq l P G W bt):=λw' h=>hk aa w' h;have hv:=hq.cM;have h:=bi hq hO;unfold aim at hok;unfold Yq at hk kI;generalize hx:W.stack.headD 0=x at hok hk kI;generalize NY:G.tk x=t at hok hk kI;cases bN:W.cM with
 |m f=>
  rw[bN]at hok hk kI hv;dsimp only at hok hk kI;obtain hv:q.px=mt gw f:=hv;rw[hv];cases f with
  |rest=>
   dsimp only at hok hk kI;refine bU (d:=zR) hkn.az7 (atj ?_);exact aww h hok kI
  |pn=>
   dsimp only at hok hk kI;subst hx;subst NY;refine bU (d:=u0) hkn.aoA (ain ?_);obtain⟨O,hop,hf,hno,ha⟩:=hok;rw[hop]at kI;exact akG h he hM hop hf hno ha kI
  |looking=>
   dsimp only at hok hk kI;refine bU (d:=u9) hkn.aoB (aio ?_);obtain⟨lk,ht,hlk,hd,hsc,hc,hn⟩:=hok;rw[hlk]at kI;exact akD hF h he ht.s ht.t hlk hd hsc hc hn kI
  |tell=>
   dsimp only at hok hk kI;refine bU (d:=zL) hkn.NV (atk ?_);exact asP h hok kI
  |others=>
   dsimp only at hok hk kI;refine bU (d:=wj) hkn.atv (akI ?_);exact aom h hM hl.sp hok.1 hok.2.1 hl.w1 hl.w16 hok.2.2.1.1 hok.2.2.1.2 (by have h4:=hok.2.2.2;rw[←bN]at h4;exact h4) kI
  |wU=>
   dsimp only at hok hk kI;refine bU (d:=wo) hkn.atw (akJ ?_);obtain⟨o,ho,hf⟩:=hok;rw[ho]at kI;exact an8 h hT hl.sp hM ho hf kI
  |RD=>
   dsimp only at hok hk kI;refine bU (d:=Bb) hkn.aCB (awO ?_);exact azX h hok.1 hok.2.1 hok.2.2 kI
  |IU=>
   dsimp only at hok hk kI;refine bU (d:=zN) hkn.az8 (atl ?_);exact awx h hok.1 hok.2 kI
  |sU=>
   dsimp only at hok hk kI;refine bU (d:=wv) hkn.atx (akK ?_);exact an9 h ah (G.Al ah) hM hok.2 kI
  |start=>
   dsimp only at hok hk kI;refine bU (d:=yd) hkn.NW (aos ?_);exact asZ h he ah (G.Al ah) hok.2.1 hok.2.2.1 hok.2.2.2.1 hok.2.2.2.2.1 hok.2.2.2.2.2 kI
  |next=>
   dsimp only at hok hk kI;refine bU (d:=zP) hkn.Vc (atm ?_);obtain⟨ht,hI,hsc⟩:=hok;exact awA hF hI.1 h he ht.s ht.t hsc hI.2.1 hI.2.2 kI
  |fork=>
   dsimp only at hok hk kI;refine bU (d:=zT) hkn.az9 (atn ?_);obtain⟨ht,ho,pB,hC,hP,hsc⟩:=hok;exact awD h he ht.s ht.t ho hM pB hC hP hsc kI
  |wV=>
   dsimp only at hok hk kI;refine bU (d:=yh) hkn.JZ (aot ?_);obtain⟨ht,ho,hI,h8,⟨g,hg⟩,pB,Zd,hTl,hn,hown⟩:=hok;have hna:aa.length≤1000000:=by
    obtain⟨sp,st,sw,q,hq,h⟩:=dN h;rw[xj h];exact hn
   exact ati hF hI.1 h he ht.s ht.t ho h8 hg hM pB Zd hTl hna hown hk
  |sV=>
   dsimp only at hok hk kI;refine bU (d:=wA) hkn.aty (akL ?_);obtain⟨ht,ho,hsc,hc⟩:=hok;exact aog h ht.s ht.t ho hM hsc hc kI
  |join=>
   dsimp only at hok hk kI;refine bU (d:=zW) hkn.aAa (ato ?_);obtain⟨ht,hI,hh,hy,hc,hsc⟩:=hok;exact awI hF hI.1 h ht.s ht.t hh (y:=((G.tk x).f.getD (10+(GA (bu P (G.tk x).f)).toNat) 0).toNat) ah (G.Al ah) hc hsc kI
  |cD=>
   dsimp only at hok hk kI;refine bU (d:=zY) hkn.aCC (awP ?_);exact awy h hok.1 hok.2 kI
  |opens=>
   dsimp only at hok hk kI;refine bU (d:=yl) hkn.awS (aou ?_);obtain⟨ht,ho,hI,pB,hC,hP,hsc,B2,h1,h2,htm,TY⟩:=hok;obtain⟨p,hp,hp2⟩:=G.az6 B2.2 B2.1;rw[hp2]at kI;exact ate hF hI.1 h he ht.s ht.t ho hM pB hC hP hsc ⟨B2.1,hp⟩ h1 h2 htm TY kI
  |close=>
   dsimp only at hok hk kI;refine bU (d:=yn) hkn.close_ (aov ?_);obtain⟨ht,ho⟩:=hok;exact asQ h ht.s ht.t ho kI
  |gF=>
   dsimp only at hok hk kI;refine bU (d:=wF) hkn.atz (akM ?_);obtain⟨ht,ho,hI,hd,hsc,hc,hz⟩:=hok;exact aof hF hI.1 h he ht.s ht.t ho hd hsc hc hz kI
  |cancel=>
   dsimp only at hok hk kI;refine bU (d:=wH) hkn.atA (akN ?_);obtain⟨ht,ho,hf,hsc,hc⟩:=hok;exact aod h he ht.s ht.t hf ho hsc hc kI
  |pass=>
   dsimp only at hok hk kI;refine bU (d:=z6) hkn.aAb (atp ?_);exact awB h he hok.1.s hok.1.t hok.2 kI
  |leave=>
   dsimp only at hok hk kI;refine bU (d:=yq) hkn.awT (aow ?_);exact asW hF hok.2.1.1 h he hok.1.s hok.1.t hok.2.2 kI
  |put=>
   dsimp only at hok hk kI;refine bU (d:=Bh) hkn.aCD (awQ ?_);exact azY h hok.1.s hok.1.t hM hok.2 kI
  |fin=>
   dsimp only at hok hk kI;refine bU (d:=Bj) hkn.aCE (awR ?_);exact azZ h hok.1.s hok.1.t hM hok.2.1 hok.2.2 kI
  |asks=>
   dsimp only at hok hk kI;refine bU (d:=Aa) hkn.aAc (atq ?_);exact awz h hok.1.s hok.1.t hM hok.2 kI
  |gone=>
   dsimp only at hok hk kI;refine bU (d:=Ac) hkn.aAd (atr ?_);obtain⟨ht,⟨kb,bs,AM,jL⟩,hsc,hc⟩:=hok;exact awC h ht.s AM jL ht.t hM hsc hc kI
  |asked=>
   dsimp only at hok hk kI;refine bU (d:=yw) hkn.awU (aox ?_);obtain⟨ht,ho,⟨hy,GN⟩,hc⟩:=hok;exact as3 h ht.s ht.t hM hy (G.Al GN) hc ho kI
  |joined=>
   dsimp only at hok hk kI;refine bU (d:=wL) hkn.atB (akO ?_);obtain⟨ht,hI,⟨hy,GN⟩,hc⟩:=hok;exact aoj hF hI.1 h he ht.s ht.t hM hy (G.Al GN) hc kI
  |tO=>
   dsimp only at hok hk kI;refine bU (d:=wN) hkn.atC (akP ?_);exact aoi h hok.1.s hok.1.t hok.2.1 hok.2.2.1 hok.2.2.2 kI
  |qV=>
   dsimp only at hok hk kI;refine bU (d:=ve) hkn.aoC (aip ?_);exact akt h hok kI
  |rT=>
   dsimp only at hok hk kI;refine bU (d:=vg) hkn.aoD (aiq ?_);obtain⟨ht,ho,hsc,hc⟩:=hok;exact aky h ht.s ht.t ho hM hsc hc kI
  |register=>
   dsimp only at hok hk kI;refine bU (d:=uk) hkn.akQ (agb ?_);obtain⟨⟨hy,GN⟩,hw,hc⟩:=hok;exact aia h hy (G.Al GN) hM hw hc kI
  |block=>
   dsimp only at hok hk kI;refine bU (d:=yD) hkn.awV (aoy ?_);obtain⟨o,ho,hf⟩:=hok;rw[ho]at kI;exact as5 h hT hl.sp hM ho hf kI
  |HJ=>
   dsimp only at hok hk kI;refine bU (d:=Af) hkn.aAe (att ?_);obtain⟨ht,ha,hc,hsc⟩:=hok;exact awF h ht.s ht.t ha hc hsc kI
  |stops=>
   dsimp only at hok hk kI;refine bU (d:=yF) hkn.awW (aoz ?_);obtain⟨ht,hw,h1,h2,h3⟩:=hok;exact as9 h hT ht.s ht.t hl.sp hM hw h1 (λa b=>⟨_,_,(h2 a b).1.1,G.Al (h2 a b).1.2,(h2 a b).2⟩) h3 kI
  |_=>exact hok.elim
 |aw y=>
  rw[bN]at hok hk kI hv;dsimp only at hok hk kI;obtain⟨ht,hy,hc,hsc⟩:=hok;obtain⟨b,c',a',hb,hay,Ei,hv⟩:=hv;rw[hv];refine bU (d:=oO) hkn.aw (as6 ?_);exact ayf hq hO hb Ei ht.s ht.t hay hc hsc kI
 |sh kk=>
  rw[bN]at hok hk kI hv;dsimp only at hok hk kI;obtain⟨ht,ho⟩:=hok;obtain⟨b,c',u,hb,hu,Ei,hv⟩:=hv;rw[hv];refine bU (d:=pM) hkn.sh (as7 ?_);exact ayg hq hO hb Ei hu ht.s ht.t ho kI
 |_=>rw[bN]at hok;exact hok.elim
end
end Go.Proofs.YthidhjhkmjjckaaGreatDoor
namespace Go.Proofs.YthidhjhkmjjckaaGreatDoor
open Go Go.Ev Go.Proofs
open Ko (oe CK)
abbrev xk(w0 w:World)(l:Lc)(aa:List Nat)(G:Gl)(Ws:List Wk)(R:List HP):Prop:=St w0 w (Ub l aa G::lZ (qx l aa) (l.wa.zip Ws)::R)
def Yr(l:Lc)(P:List dH)(G:Gl)(Ws:List Wk)(n:Int):(Gl×List Wk)×Bool:=
 if 0≤n∧n<Ws.length then
  match Ws[n.toNat]? with
  |some W=>if yR (l.sp.bits G.M) W.id=true∧W.wait.parked G.M l.told=false then(((Yq l P G W (Ws.map (·.dq))).1,Ws.set n.toNat (Yq l P G W (Ws.map (·.dq))).2),true)else((G,Ws),false)
  |none=>((G,Ws),false)
 else((G,Ws),false)
section
variable {w0 w:World} {R:List HP} {l:Lc} {P:List dH} {aa:List Nat} {G:Gl} {Ws:List Wk} {n:Int} {gw:Nat} {W:Wk}
theorem aoE{i:Nat}(h:xk w0 w l aa G Ws R)(ha:l.wa[i]?=some gw)(hW:Ws[i]?=some W):qE w0 w l aa gw G W (lZ (qx l aa) ((l.wa.zip Ws).eraseIdx i)::R):=by
 have h2:St w0 w (qx l aa (gw,W)::lZ (qx l aa) ((l.wa.zip Ws).eraseIdx i)::Ub l aa G::R):=Iy h.swap (by rw[List.getElem?_zip_eq_some];exact⟨ha,hW⟩)
 have h3:=h2.front 2 rfl;simpa only[Iw]using h3
theorem aek{i:Nat}{I3:List Nat}{G':Gl}{W':Wk}(hl:l.wa.length=Ws.length)(ha:l.wa[i]?=some gw)(h:qE w0 w l I3 gw G' W' (lZ (qx l I3) ((l.wa.zip Ws).eraseIdx i)::R)):xk w0 w l I3 G' (Ws.set i W') R:=by
 have hi:=(kJ.1 ha).1;have h2:St w0 w (qx l I3 (gw,W')::lZ (qx l I3) ((l.wa.zip Ws).eraseIdx i)::Ub l I3 G'::R):=St.back 2 h;have h3:=ZV h2 (by simp;omega)
 have e:(l.wa.zip Ws).set i (gw,W')=l.wa.zip (Ws.set i W'):=by
  apply List.ext_getElem?;intro j;by_cases hj:i=j
  ·subst hj;rw[uu (by simp;omega)]
   symm;rw[List.getElem?_zip_eq_some];exact⟨ha,by rw[uu ah]⟩
  ·rw[rK hj,List.zip,List.getElem?_zipWith,List.getElem?_zipWith,rK hj]
 rw[e]at h3;exact h3.swap
theorem air:atu (kw [(vE,(adP jB)),(tF,(alI gO)),(kT,(bY eE)),(kU,(bY eF)),(ni,(bY gP)),(lK,(bY e9)),(my,(bY iJ)),(ng,(bY gQ)),(lM,(bY fa)),(lJ,(bY fe)),(mL,(bY fN)),(gu,(bY gR)),(fZ,(bY gS)),(lA,(bY gT)),(mM,(bY fO)),(lO,(bY ff)),(jm,(bY gU)),(lB,(bY gV)),(mN,(bY fP)),(kM,(bY fQ)),(lN,(bY fg)),(j7,(bY fh)),(lC,(bY gW)),(iR,(bY fS)),(nX,(bY iL)),(nY,(bY iM)),(nj,(bY gX)),(nk,(bY gY)),(mO,(bY fT)),(lQ,(bY fj)),(lP,(bY fm)),(kV,(bY eH)),(kW,(bY eI)),(kA,(bY ec)),(mR,(bY fU)),(nl,(bY gZ)),(mP,(bY fV)),(eJ,(JL cu)),(fG,(JL cG))]):=by
 constructor<;>intro _ _ _<;>rfl
theorem atD{k:Bool→aq}(hlen:l.wa.length=Ws.length)(hn:¬(0≤n∧n<Ws.length))(h:xk w0 w l aa G Ws R)(hk:∀w',xk w0 w' l aa G Ws R→k false w'):jH (some ⟨l.gs,0,none⟩) n w k:=by
 unfold jH uB;obtain⟨sp,st,sw,h⟩:=xw h;have hn5:=uN (s:=sw) (vs:=l.wa.map pt) h;rw[List.length_map]at hn5;refine bS (λb w=>b=true∧St w0 w (SL l aa G (lZ (qx l aa) (l.wa.zip Ws)::R) sp st sw)) (λJ hJ=> ?_) ?_
 ·refine ay (λhb=> ?_) λhb=> ?_
  ·exact hJ _ _ ⟨rfl,h⟩
  with_reducible repeat' (first|refine an ?_|refine j5 h ?_|fail)
  refine hJ _ _ ⟨?_,h⟩;have hb:¬n<0:=by simpa using hb
  simp;omega
 clear h;rintro _ w ⟨rfl,h⟩;refine bO rfl ?_;exact hk _ (tw h)
theorem atF{i:Nat}(hW:Ws[i]?=some W):Ws.set i W=Ws:=by
 apply List.ext_getElem?;intro j;by_cases hj:i=j
 ·subst hj;rw[uu (kJ.1 hW).1,hW]
 ·rw[rK hj]
abbrev agc(w0 w:World)(l:Lc)(aa:List Nat)(G:Gl)(Ws:List Wk)(R:List HP)(n:Int)(gw:Nat)(W:Wk)(sp st sw:Sl)(q:Wq):Prop:=wX w0 w l aa gw G W (lZ (qx l aa) ((l.wa.zip Ws).eraseIdx n.toNat)::R) sp st sw q
theorem aoF{q:Wq}{sp st sw:Sl}{k:Bool→aq}(hl:aej l)(hM:G.M.OK)(hg:G.M.given (l.sp.at_+1)=true)(ht:G.M.given l.told=true)(h:agc w0 w l aa G Ws R n gw W sp st sw q)
  (hk:∀w',agc w0 w' l aa G Ws R n gw W sp st sw q→k (!(yR (l.sp.bits G.M) W.id)||W.wait.parked G.M l.told) w'):
  drew w λw11=>nn (some ⟨l.gs,0,none⟩) λa12=>bD 3 w11 (aY a12 14) λcs13=>nn (some ⟨l.gs,0,none⟩) λa14=>aR w11 (aY a14 7) λp15=>nn (some (⟨gw,0,none⟩:Addr)) λa16=>aN .i64 w11 (aY a16 1) λi17=>
   jB cs13 p15 i17 w11 λb18 w19=>ap (!b18) (k true w19) (nn (some (⟨gw,0,none⟩:Addr)) λa20=>aR w19 (aY a20 4) λp21=>nn (some ⟨l.gs,0,none⟩) λa22=>aR w19 (aY a22 7) λp23=>gO p21 p23 w19 λb24 w25=>(k b24 w25)):=by
 with_reducible repeat' (first|refine an ?_|refine aF h λw h=> ?_|refine da h ?_|refine cS h ?_|refine mH h ?_|fail)
 refine avT (s:=l.sp) (M:=G.M) h hl.sp hM hg λw h=> ?_;cases FR:yR (l.sp.bits G.M) W.id with
 |false=>
  rw[FR]at hk;exact bO rfl (hk _ h)
 |true=>
  rw[FR]at hk;refine bh rfl ?_;with_reducible repeat' (first|refine an ?_|refine da h ?_|fail)
  exact ajP (x:=W.wait) (M:=G.M) h ht λw h=>hk w h
theorem awX{k:Bool→aq}(hF:iN w0 l.ps P)(hT:TZ w0)(hl:aej l)(hlen:l.wa.length=Ws.length)(hM:G.M.OK)(he:G.err=0)(hg:G.M.given (l.sp.at_+1)=true)(ht:G.M.given l.told=true)
  (hok:∀i W,Ws[i]?=some W→yR (l.sp.bits G.M) W.id=true→W.wait.parked G.M l.told=false→aim l P ((l.wa.zip Ws).eraseIdx i) (Ws.map (·.dq)) G W) (h:xk w0 w l aa G Ws R)
  (hk:∀I3 w',xk w0 w' l I3 (Yr l P G Ws n).1.1 (Yr l P G Ws n).1.2 R→k (Yr l P G Ws n).2 w'):jH (some ⟨l.gs,0,none⟩) n w k:=by
 unfold Yr at hk;by_cases hn:0≤n∧n<Ws.length;rotate_left
 ·rw[if_neg hn]at hk;exact atD hlen hn h λw' h'=>hk aa w' h'
 rw[if_pos hn]at hk;have hi:n.toNat<Ws.length:=ah;have hW:Ws[n.toNat]?=some (Ws[n.toNat]'hi):=j4 hi;have ha:l.wa[n.toNat]?=some (l.wa[n.toNat]' ah):=j4 ah;generalize Ws[n.toNat]'hi=W at hW;generalize l.wa[n.toNat]' ah=gw at ha;rw[hW]at hk;dsimp only at hk;have hok:=hok _ _ hW;have hB:=aoE h ha hW;clear h;obtain⟨sp,st,sw,q,hq,h⟩:=dN hB;clear hB;have hn5:=uN (s:=sw) (vs:=l.wa.map pt) h;rw[List.length_map]at hn5;unfold jH uB;refine bS (λb w=>b=false∧agc w0 w l aa G Ws R n gw W sp st sw q) (λJ hJ=> ?_) ?_
 ·refine bh (by simp;omega) ?_
  with_reducible repeat' (first|refine an ?_|refine j5 h ?_|fail)
  exact hJ _ _ ⟨by simp;omega,h⟩
 clear h;rintro _ w ⟨rfl,h⟩;refine bh rfl ?_;with_reducible repeat' (first|refine an ?_|refine j5 h ?_|fail)
 refine vP (s:=sw) (vs:=l.wa.map pt) h hn.1 (x:=some ⟨gw,0,none⟩) (by rw[pz,ha];rfl) ?_
 refine bS (λb w=>b=(!(yR (l.sp.bits G.M) W.id)||W.wait.parked G.M l.told)∧agc w0 w l aa G Ws R n gw W sp st sw q) (λJ hJ=> ?_) ?_
 ·exact aoF hl hM hg ht h λw' h'=>hJ _ _ ⟨rfl,h'⟩
 clear h;rintro _ w ⟨rfl,h⟩;by_cases FR:yR (l.sp.bits G.M) W.id=true∧W.wait.parked G.M l.told=false
 ·rw[if_pos FR]at hk;refine bh (by rw[FR.1,FR.2];rfl) ?_
  have hv:=hq.cM.one;with_reducible repeat' (first|refine an ?_|refine pC h ?_|fail)
  refine aCF (P:=P) (bt:=Ws.map (·.dq)) hF hT hl hq h he hM air (hok FR.1 FR.2) λI3 w' h'=> ?_;generalize Yq l P G W (Ws.map (·.dq))=r at hk h';have h2:=aek hlen ha h';exact aj9 (hk I3 w' h2)
 ·rw[if_neg FR]at hk;refine bO ?_ ?_
  ·cases h1:yR (l.sp.bits G.M) W.id<;>cases h2:W.wait.parked G.M l.told<;>first|rfl|exact absurd ⟨h1,h2⟩ FR
  have h3:=aek hlen ha (bi hq h);rw[atF hW]at h3;exact hk aa _ h3
end
def Gl.EX(G:Gl)(wk s:Int):Gl:=G.mem (G.M.cs wk (G.nd s).at_ 0 1).1
def r8(wk:Int)(G:Gl):List Int→Gl
 |[]=>G
 |s::ids=>r8 wk (G.EX wk s) ids
def Uc(l:Lc)(G:Gl)(ids:List Int):Gl:=if ids.length=0 then G else(r8 l.wa.length G ids).mem ((r8 l.wa.length G ids).M.ad l.wa.length l.told 1)
def Ys(l:Lc)(G:Gl)(n:Int):Gl×Bool:=if Ko.RC G.time.1 n=true then(Uc l {G with time:=(G.time.1+n,Ko.NN G.time.2 (G.time.1+n))} (Ko.ids (Ko.abN G.time.2 (G.time.1+n))),true)else(G,false)
def iO(G:Gl)(o:List (Int×Int)):List Int:=0::o.flatMap λp=>(G.tk p.1.toNat).scopes
def Yt(G:Gl)(s:Int):Bool:=match G.P[s.toNat]? with|some p=>p.2.2.2|none=>false
def Yu(l:Lc)(G:Gl)(o:List (Int×Int))(n:Int):Gl×Bool:=
 if 0≤n∧n<(iO G o).length then(if Yt G ((iO G o).getD n.toNat 0)then(G,false)else(Uc l G [(iO G o).getD n.toNat 0],true))else(G,false)
def RL(l:Lc)(P:List dH)(G:Gl)(Ws:List Wk)(o:List (Int×Int))(kind n:Int):(Gl×List Wk)×Bool:=
 if G.err≠0 then((G,Ws),false)
 else if kind=0 then Yr l P G Ws n
 else if kind=1 then(((Ys l G n).1,Ws),(Ys l G n).2)
 else if kind=2 then(if G.D.length<1024 then(({G with D:=G.D++[n]},Ws),true)else((G,Ws),false))
 else if kind=3 then(((Yu l G o n).1,Ws),(Yu l G o n).2)
 else((G,Ws),false)
section
variable {w0 w:World} {L R:List HP} {l:Lc} {P:List dH} {aa:List Nat} {G:Gl} {Ws:List Wk} {n:Int} {gw:Nat} {W:Wk} {sp st sw:Sl}
theorem ael(wk:Int):∀(G:Gl) (a b:List Int),r8 wk G (a++b)=r8 wk (r8 wk G a) b
 |G,[],b=>rfl
 |G,s::a,b=>ael wk (G.EX wk s) a b
theorem aoG{M:bK}{wk a o x:Int}:(M.cs wk a o x).1.steps.length=M.steps.length∧(M.cs wk a o x).1.cells.length=M.cells.length∧(M.cs wk a o x).1.size=M.size:=by
 unfold bK.cs;split
 ·exact⟨by unfold bK.put bK.tick;simp,by unfold bK.put bK.tick;simp,rfl⟩
 ·exact⟨by unfold bK.tick;simp,rfl,rfl⟩
theorem Ve(wk:Int):∀(ids:List Int) (G:Gl),(r8 wk G ids).M.steps.length=G.M.steps.length∧(r8 wk G ids).M.cells.length=G.M.cells.length∧(r8 wk G ids).M.size=G.M.size∧r8 wk G ids=G.mem (r8 wk G ids).M
 |[],G=>⟨rfl,rfl,rfl,rfl⟩
 |s::ids,G=>by
  obtain⟨h1,h2,h3,h4⟩:=Ve wk ids (G.EX wk s);obtain⟨a,b,c⟩:=aoG (M:=G.M) (wk:=wk) (a:=(G.nd s).at_) (o:=0) (x:=1);exact⟨h1.trans a,h2.trans b,h3.trans c,by show r8 wk (G.EX wk s) ids=_;rw[h4];rfl⟩
theorem Ie{M M':bK}{wk a:Int}(h1:M'.steps.length=M.steps.length)(h2:M'.cells.length=M.cells.length):M'.can wk a=M.can wk a:=by unfold bK.can bK.caller bK.given;rw[h1,h2]
theorem amD{ids:List Int}{s:Sl}{k:Unit→aq}(h:St w0 w (bP 1 s (ints ids)::SL l aa G R sp st sw))(hs:∀x∈ids,oc G.C x=some (G.nd x)∧G.M.can l.wa.length (G.nd x).at_=true)(ht:G.M.can l.wa.length l.told=true)
  (hk:∀w',St w0 w' (SL l aa (Uc l G ids) R sp st sw)→k () w'):fo (some ⟨l.gs,0,none⟩) s w k:=by
 unfold fo Co;have xg:=uN (s:=s) (vs:=ints ids) h;have Vz:=(h.own (sz:=1) (s:=s) (vs:=ints ids)).max;have hcp:=(h.own (sz:=1) (s:=s) (vs:=ints ids)).cap;have vq:(ints ids).length=ids.length:=by simp[ints]
 rw[vq]at xg;have hwn:sw.n=l.wa.length:=by have:=uN (s:=sw) (vs:=l.wa.map pt) h;rwa[List.length_map]at this
 with_reducible repeat' (first|refine an ?_|refine j5 h ?_|fail)
 refine bS (λ_ w=>St w0 w (bP 1 s (ints ids)::SL l aa (r8 l.wa.length G ids) R sp st sw)) (λJ hJ=> ?_) ?_
 ·refine Qa (G:=Nat) (λj i w=>i=(j:Int)∧j≤ids.length∧St w0 w (bP 1 s (ints ids)::SL l aa (r8 l.wa.length G (ids.take j)) R sp st sw)) (λj=>ids.length - j) (g:=0) ⟨rfl,ah,h⟩ ?_;clear h;rintro j i w ⟨rfl,hj,h⟩ C hC;by_cases hlt:j<ids.length
  ·refine bO (by simp;omega) ?_
   obtain⟨b1,b2,b3,b4⟩:=Ve (l.wa.length:Nat) (ids.take j) G;have hx:=hs (ids[j]'hlt) (List.getElem_mem _);refine vI (s:=s) (vs:=ints ids) h ah (x:=ids[j]'hlt) (by simp[ints,hlt]) ?_
   with_reducible repeat' (first|refine an ?_|refine aF h λw h=> ?_|refine da h ?_|fail)
   have hC':oc (r8 (l.wa.length:Nat) G (ids.take j)).C (ids[j]'hlt)=some (G.nd (ids[j]'hlt)):=by rw[b4];exact hx.1
   rw[show((sw.n:Nat):Int)=((l.wa.length:Nat):Int) by rw[hwn]]
   refine arf (C:=(r8 (l.wa.length:Nat) G (ids.take j)).C) (M:=(r8 (l.wa.length:Nat) G (ids.take j)).M) h hC' (by rw[Ie b1 b2];exact hx.2) λw h=> ?_
   with_reducible repeat' (first|refine lT ?_|fail)
   refine hC (j+1) _ _ ⟨?_,ah,?_⟩ ah
   ·rw[lY ⟨ah,ah⟩];omega
   ·have e:ids.take (j+1)=ids.take j++[ids[j]'hlt]:=by rw[List.take_add_one,j4 hlt];rfl
    rw[e,ael];have e2:r8 (l.wa.length:Nat) (r8 (l.wa.length:Nat) G (ids.take j)) [ids[j]'hlt]=(r8 (l.wa.length:Nat) G (ids.take j)).mem ((r8 (l.wa.length:Nat) G (ids.take j)).M.cs (l.wa.length:Nat) (G.nd (ids[j]'hlt)).at_ 0 1).1:=by
     show Gl.EX _ _ _=_;unfold Gl.EX;have:(r8 (l.wa.length:Nat) G (ids.take j)).nd (ids[j]'hlt)=G.nd (ids[j]'hlt):=by unfold Gl.nd;rw[b4];rfl
     rw[this]
    rw[e2];exact h
  ·refine bh (by simp;omega) ?_
   have e:ids.take j=ids:=List.take_of_length_le ah;rw[e]at h;exact hJ _ _ h
 clear h;rintro _ w h;unfold Uc at hk;by_cases h0:ids.length=0
 ·rw[if_pos h0]at hk;refine bh (by simp;omega) ?_
  have e:ids=[]:=List.eq_nil_of_length_eq_zero h0;subst e;exact hk w h.drop
 ·rw[if_neg h0]at hk;refine bO (by simp;omega) ?_
  obtain⟨b1,b2,b3,b4⟩:=Ve (l.wa.length:Nat) ids G;with_reducible repeat' (first|refine an ?_|refine aF h λw h=> ?_|refine da h ?_|refine mH h ?_|fail)
  rw[show((sw.n:Nat):Int)=((l.wa.length:Nat):Int) by rw[hwn]]
  refine alY (M:=(r8 (l.wa.length:Nat) G ids).M) h (by rw[Ie b1 b2];exact ht) λw h=> ?_
  with_reducible repeat' (first|refine lT ?_|fail)
  have h:=h.drop;rw[show SL l aa ((r8 (l.wa.length:Nat) G ids).mem ((r8 (l.wa.length:Nat) G ids).M.ad (l.wa.length:Nat) l.told 1)) R sp st sw=SL l aa ((r8 (l.wa.length:Nat) G ids).mem ((r8 (l.wa.length:Nat) G ids).M.ad (l.wa.length:Nat) l.told 1)) R sp st sw from rfl]at hk;exact hk w h
end
structure Lm where
 base:Int
 spare:Int
 cells:Int
 fuel:Int
 deep:Int
 log:Int
structure Ad where
 gs:Nat
 gm:Nat
 gk:Nat
 gc:Nat
 gt:Nat
 gd:Nat
 ga:Nat
def Lm.n(m:Lm):Nat:=(m.base+m.spare).toNat
abbrev nV(a:Ad)(ps:Sl)(m:Lm)(wa:List Nat):Lc:=⟨a.gs,a.gm,a.gk,a.gc,a.gt,a.gd,ps,m.base,m.spare,m.cells,m.fuel,m.deep,m.log,0,1,⟨4,m.base,m.spare⟩,wa⟩
def cs0(a:Ad)(ps:Sl)(m:Lm):List Value:=[.slice ps.a ps.n ps.c,.int .i64 m.base,.int .i64 m.spare,.int .i64 m.cells,.int .i64 m.fuel,.int .i64 m.deep,.int .i64 m.log,pt a.gm,pt a.gk,.pointer none,.slice (some ⟨a.ga,0,none⟩) 1 1,.slice none 0 0,.int .i64 0,.int .i64 0,.int .i64 0,.int .i64 0,.int .i64 0,pt a.gt,pt a.gd,.slice none 0 0,.int .i64 0,.int .i64 0]
def ml1(m:Lm):bK:=((bK.new m.cells m.n).tick m.n).grow 1
def ml2(m:Lm):bK:=((ml1 m).tick m.n).grow 1
def ml3(m:Lm):bK:=((ml2 m).tick m.n).grow 2
def ml4(m:Lm):bK:=((ml3 m).tick m.n).grow 2
structure Lm.OK (m:Lm):Prop where
 base:1≤m.base∧m.base≤16
 spare:0≤m.spare∧m.spare≤16 - m.base
 cells:1≤m.cells∧m.cells≤1048576
 fuel:0≤m.fuel∧m.fuel≤1048576
 deep:1≤m.deep∧m.deep≤1000
 log:0≤m.log∧m.log≤8
section
variable {w0 w:World} {L R:List HP} {a:Ad} {ps:Sl} {m:Lm} {M:bK} {gm:Nat} {wk:Int} {f:HP→List HP}
theorem amE{w1 w':World}{L':List HP}{f':HP→List HP}{g o j n:Nat}{cs cs':List Value}{z:Nat}{c:Prop}(h:St w0 w L)(h':St w1 w' L')[a:At L (ax g) cs f][a':At L' (ax g) cs' f'](e:(cs.drop (o+j+n)).take z=(cs'.drop (o+j+n)).take z)(hc:c):ai z (aY (aY ⟨g,o,none⟩ j) n) w w' c:=by rw[cY];exact asq h h' e hc
theorem atG{k:Option Addr×Int→aq}(h:St w0 w L)[a2:At L (bI gm) M f](hw:M.caller wk=true)(hM:M.OK)
  (hk:M.room 2=true→∀g w',St w0 w' (scp g [⟨-1,0,(M.cells.length:Nat)⟩]::f (bI gm ((M.tick wk).grow 2)))→k (some ⟨g,0,none⟩,0) w') (GI:M.room 2=false→∀w',St w0 w' L→k (none,21) w'):tY (some ⟨gm,0,none⟩) wk w k:=by
 unfold tY MI;refine bh rfl ?_;refine Gr (M:=M) h hM (λ_ _ hr w h=> ?_) (λ_ _ hr=> ?_) λhn=>(hn ⟨hw,ah⟩).elim
 ·refine bh rfl ?_;refine NJ rfl rfl ?_;refine av h λga w h=>av h λgg w h=> ?_;have h:=h.asS (g:=ga) (n:=1) (sz:=3) (cs:=Nd.cells ⟨-1,0,(M.cells.length:Nat)⟩) rfl ah (by simp[Nd.cells,Value.oneCell'])
  refine hk hr gg w (adT (s:=⟨some ⟨ga,0,none⟩,1,1⟩) ?_);obtain⟨h1,F,⟨F1,F2,hx,hy,hz,e⟩,h3⟩:=h;obtain⟨F3,F4,h4,h5,h6,h7⟩:=hy;refine⟨h1,F,⟨F1,F2,hx,⟨F3,F4,⟨?_,?_⟩,h5,h6,h7⟩,hz,e⟩,h3⟩
  ·intro e' he;simp at he;rw[he];rfl
  ·simpa using h4
 ·refine bO rfl ?_;exact GI hr w h
theorem ais(hm:m.OK):(bK.new m.cells m.n).OK∧(bK.new m.cells m.n).caller m.n=true:=by
 obtain⟨h1,h2,h3,_⟩:=hm;refine⟨⟨h3,by show((0:Nat):Int)≤m.cells;omega⟩,?_⟩
 unfold bK.caller bK.new;simp;omega
theorem agd{M:bK}{n:Int}(h:M.OK)(h0:0≤n)(hr:M.room n=true):((M.tick wk).grow n).OK:=by
 unfold bK.room at hr;simp only[decide_eq_true_eq]at hr;have:=xu (M:=M.tick wk) h0;have ht:(M.tick wk).cells.length=M.cells.length:=rfl;refine⟨h.size,?_⟩;show((((M.tick wk).grow n).cells.length:Nat):Int)≤M.size;rw[this,ht];omega
theorem GD{M:bK}{wk' n:Int}(h:M.caller wk=true):((M.tick wk').grow n).caller wk=true:=by
 unfold bK.caller bK.grow bK.tick at*
 simpa using h
theorem ait{k:Int→aq}(hm:m.OK)(h:St w0 w (ax a.gs (cs0 a ps m)::bI a.gm (bK.new m.cells m.n)::R))
  (h1:6≤m.cells→∀gc w',St w0 w' (scp gc [⟨-1,0,2⟩]::ax a.gs ((nV {a with gc:=gc} ps m []).cs ⟨some ⟨a.ga,0,none⟩,1,1⟩ ⟨none,0,0⟩ ⟨none,0,0⟩ 0 0)::bI a.gm (ml4 m)::R)→k 0 w')
  (h2:¬6≤m.cells→∀w' X Y,St w0 w' (X::Y::R)→k 21 w'):fp (some ⟨a.gs,0,none⟩) m.n w k:=by
 obtain⟨hM0,hc0⟩:=ais hm;have hrm:∀(M:bK) (z:Int),M.size=m.cells→(M.room z=true↔z+(M.cells.length:Nat)≤m.cells):=λM z e=>by unfold bK.room;rw[e];simp;omega
 unfold fp uW;unfold cs0 at h;with_reducible repeat' (first|refine an ?_|refine da h ?_|fail)
 refine arh (M:=bK.new m.cells m.n) h hc0 hM0 (λhr w h=> ?_) λhr w h=> ?_;rotate_left
 ·have hno:¬6≤m.cells:=λq=>by have:=(hrm (bK.new m.cells m.n) 1 rfl).2 (by show 1+((0:Nat):Int)≤_;omega);rw[hr]at this;cases this
  with_reducible repeat' (first|refine an ?_|refine vC h λw h=> ?_|refine nJ ?_|fail)
  exact h2 hno _ _ _ h
 have hM1:=agd (wk:=m.n) hM0 ah hr;have GJ:=GD (wk':=m.n) (n:=1) hc0;with_reducible repeat' (first|refine an ?_|refine da h ?_|refine vC h λw h=> ?_|refine fE ?_|fail)
 refine ari (M:=ml1 m) h GJ hM1 (λhr w h=> ?_) λhr w h=> ?_;rotate_left
 ·have hno:¬6≤m.cells:=λq=>by have:=(hrm (ml1 m) 1 rfl).2 (by show 1+((1:Nat):Int)≤_;omega);rw[hr]at this;cases this
  with_reducible repeat' (first|refine an ?_|refine vC h λw h=> ?_|refine nJ ?_|fail)
  exact h2 hno _ _ _ h
 have hM2:=agd (wk:=m.n) hM1 ah hr;have hc2:=GD (wk':=m.n) (n:=1) GJ;with_reducible repeat' (first|refine an ?_|refine da h ?_|refine vC h λw h=> ?_|refine fE ?_|fail)
 refine atG (M:=ml2 m) h hc2 hM2 (λhr gc w h=> ?_) λhr w h=> ?_;rotate_left
 ·have hno:¬6≤m.cells:=λq=>by have:=(hrm (ml2 m) 2 rfl).2 (by show 2+((2:Nat):Int)≤_;omega);rw[hr]at this;cases this
  with_reducible repeat' (first|refine an ?_|refine dO h λw h=> ?_|refine nJ ?_|fail)
  exact h2 hno _ _ _ h
 have hM3:=agd (wk:=m.n) hM2 ah hr;have hc3:=GD (wk':=m.n) (n:=2) hc2;with_reducible repeat' (first|refine an ?_|refine aF h λw h=> ?_|refine da h ?_|refine pN h ?_|refine dO h λw h=> ?_|refine fE ?_|fail)
 refine arF (M:=ml3 m) h ⟨hm.base.1,hm.base.2,hm.spare.1,hm.spare.2⟩ hc3 hM3 (λhr w h=> ?_) λhr w h=> ?_;rotate_left
 ·have hno:¬6≤m.cells:=λq=>by have:=(hrm (ml3 m) 2 rfl).2 (by show 2+((4:Nat):Int)≤_;omega);rw[hr]at this;cases this
  with_reducible repeat' (first|refine an ?_|refine vC h λw h=> ?_|fail)
  exact h2 hno _ _ _ h.drop
 with_reducible repeat' (first|refine an ?_|refine vC h λw h=> ?_|fail)
 have atI:=(hrm (ml3 m) 2 rfl).1 hr;refine h1 (by have e:((ml3 m).cells.length:Nat)=4:=rfl;rw[e]at atI;omega) gc w ?_
 exact h
end
def ZK(id dq:Int):Wk:=⟨id,dq,⟨0,0⟩,[],[],.m .rest,none,.no,none,.no,none,[],false,.no,.no,.no,0,.no,none,0,false,false,.no,.no,0,.no,0,.no,0,.no⟩
def Lm.lg(m:Lm):Int:=if m.log<2 then m.log else 2
def Lm.one(m:Lm):Int:=3+En m.lg
def n8(m:Lm):Nat→bK
 |0=>ml4 m
 |v+1=>(n8 m v).IS m.n m.lg
def tQ(m:Lm)(v:Nat):Int:=6+v*m.one
def Ji(m:Lm)(v:Nat):List Wk:=(List.range v).map λi:Nat=>ZK i (tQ m i)
section
variable {w0 w:World} {L R:List HP} {a:Ad} {ps:Sl} {m:Lm} {M:bK} {gm gc:Nat} {wk:Int} {f:HP→List HP}
theorem Lm.ab7(hm:m.OK):0≤m.lg∧m.lg≤m.log∧m.lg≤8:=by have:=hm.log;unfold Lm.lg;split<;>omega
theorem Lm.Ka(hm:m.OK):4≤m.one∧m.one≤259:=by have:=m.ab7 hm;have:=abw this.1 this.2.2;unfold Lm.one;omega
theorem Ss(hm:m.OK):∀v:Nat,6+v*m.one≤m.cells→(n8 m v).OK∧(n8 m v).caller m.n=true∧(((n8 m v).cells.length:Nat):Int)=6+v*m.one∧(n8 m v).size=m.cells∧(n8 m v).steps.length=m.n+1
 |0,h=>by
  obtain⟨h1,h2⟩:=ais hm;refine⟨⟨hm.cells,?_⟩,?_,?_,rfl,?_⟩
  ·show(((n8 m 0).cells.length:Nat):Int)≤m.cells;have:(n8 m 0).cells.length=6:=rfl;rw[this];omega
  ·exact GD (GD (GD (GD h2)))
  ·have:(n8 m 0).cells.length=6:=rfl;rw[this];omega
  ·show(ml4 m).steps.length=_;unfold ml4 ml3 ml2 ml1 bK.grow bK.tick bK.new;simp
 |v+1,h=>by
  have ho:=m.Ka hm;have e1:((v+1:Nat):Int)*m.one=v*m.one+m.one:=by rw[Int.natCast_add,Int.add_mul];omega
  obtain⟨h1,h2,h3,h4,h5⟩:=Ss hm v ah;have hlen:(((n8 m (v+1)).cells.length:Nat):Int)=6+((v+1:Nat):Int)*m.one:=by
   show(((n8 m v).IS m.n m.lg).cells.length:Nat)=(_:Int);unfold bK.IS;have:=xu (M:=(n8 m v).tick m.n) (n:=3+En m.lg) (by unfold Lm.one at ho;omega)
   have e2:((n8 m v).tick m.n).cells.length=(n8 m v).cells.length:=rfl;have e3:(((((n8 m v).tick m.n).grow (3+En m.lg)).tick m.n).put (((n8 m v).cells.length:Nat)+2) (Rg.word ⟨(((n8 m v).cells.length:Nat):Int)+3,m.lg⟩)).cells.length=(((n8 m v).tick m.n).grow (3+En m.lg)).cells.length:=by unfold bK.put bK.tick;simp
   rw[e3,this,e2,h3,e1];unfold Lm.one;omega
  refine⟨⟨by show 1≤(n8 m (v+1)).size∧_;exact⟨by show 1≤(n8 m v).size;rw[h4];exact hm.cells.1,by show(n8 m v).size≤_;rw[h4];exact hm.cells.2⟩,by rw[hlen];show _≤(n8 m v).size;rw[h4];exact h⟩,?_,hlen,h4,?_⟩
  ·show((n8 m v).IS m.n m.lg).caller m.n=true;unfold bK.IS bK.caller bK.put bK.grow bK.tick;unfold bK.caller at h2;simpa using h2
  ·show((n8 m v).IS m.n m.lg).steps.length=_;unfold bK.IS bK.put bK.grow bK.tick;simpa using h5
theorem aAf{l:Lc}{gw gt:Nat}{v d:Int}(h:St w0 w (ax gw [pt l.gs,.int .i64 v,.int .i64 d,.int .i64 l.log,pt gt,.slice none 0 0,.slice none 0 0,mt gw .rest,.pointer none,.nilFunc,.pointer none,.nilFunc,.pointer none,.slice none 0 0,.bool false,.nilFunc,.nilFunc,.nilFunc,.int .i64 0,.nilFunc,.pointer none,.int .i64 0,.bool false,.bool false,.nilFunc,.nilFunc,.int .i64 0,.nilFunc,.int .i64 0,.nilFunc,.int .i64 0,.nilFunc]::ax gt (Wt.cells l.told ⟨0,0⟩)::R)):St w0 w (qx l [] (gw,ZK v d)::R):=by
 refine ahT (W:=ZK v d) (q:=⟨gt,⟨none,0,0⟩,[],⟨none,0,0⟩,[],mt gw .rest,0,.nilFunc,0,.nilFunc,0,⟨none,0,0⟩,.nilFunc,.nilFunc,.nilFunc,.nilFunc,none,.nilFunc,.nilFunc,.nilFunc,.nilFunc,.nilFunc,[]⟩) ?_ ?_
 ·exact⟨.nil,.nil,rfl,rfl,rfl,rfl,rfl,rfl,rfl,rfl,rfl,rfl,rfl,rfl,rfl⟩
 ·have h:=ast h;have h:St w0 w (mX (λo:jI=>ax 0 (o.cells l.sp 0)) (ZK v d).step::_):=St.shut (A:=[]) h;have h:St w0 w (mX (λk:Lk=>ax 0 (k.cells l.gc)) (ZK v d).look::_):=St.shut (A:=[]) h;have h:St w0 w (mX (uq 0) (ZK v d).op::_):=St.shut (A:=[]) h;have h:=((h.Jv 1).Jv 1).Jv 1;exact St.asL (A:=[_,_,_,_,_,_,_]) (B:=[_,_]) h
theorem aCH:GM Tryz.prog 105 1 8 (.pointer none):=⟨be,be⟩
abbrev LW(a:Ad)(ps:Sl)(m:Lm)(sw:Sl)(wa:List Nat)(M:bK)(v:Nat)(R:List HP):List HP:=ax a.gs ((nV a ps m []).cs ⟨some ⟨a.ga,0,none⟩,1,1⟩ ⟨none,0,0⟩ sw 0 0)::bI a.gm M::bP 1 sw (wa.map pt)::lZ (qx (nV a ps m []) []) (wa.zip (Ji m v))::R
theorem aoI{m:Lm}{v:Nat}:Ji m (v+1)=Ji m v++[ZK v (tQ m v)]:=by unfold Ji;rw[List.range_succ,List.map_append];rfl
theorem adh{k:Int→aq}(hm:m.OK)(h:St w0 w (LW a ps m ⟨none,0,0⟩ [] (ml4 m) 0 R))(h6:6≤m.cells)
  (h1:6+m.n*m.one≤m.cells→∀sw wa w',wa.length=m.n→St w0 w' (LW a ps m sw wa (n8 m m.n) m.n R)→k 0 w')
  (h2:¬6+m.n*m.one≤m.cells→∀w' L',St w0 w' (L'++R)→k 21 w'):eo (some ⟨a.gs,0,none⟩) m.n w k:=by
 have aCI:m.n≤16:=by have:=hm.base;have:=hm.spare;unfold Lm.n;omega
 have Tx:=m.ab7 hm;have hone:=m.Ka hm;have hlo:Z0 m.lg m.log=true:=by unfold Z0;simp only[decide_eq_true_eq];exact⟨Tx.1,Tx.2.1,hm.log.2⟩
 unfold eo th;refine Qa (G:=Nat×Sl×List Nat) (λq i w=>i=((q.1:Nat):Int)∧q.1≤m.n∧q.2.2.length=q.1∧6+q.1*m.one≤m.cells∧St w0 w (LW a ps m q.2.1 q.2.2 (n8 m q.1) q.1 R)) (λq=>m.n - q.1) (g:=(0,⟨none,0,0⟩,[])) ⟨rfl,ah,rfl,ah,h⟩ ?_;clear h;rintro⟨v,sw,wa⟩ i w ⟨hi,hv,BL,hc,h⟩ C hC;dsimp only at hi hv BL hc h;subst hi;obtain⟨hMo,hMc,hMl,hMs,hMt⟩:=Ss hm v hc;by_cases hlt:v<m.n;rotate_left
 ·have e:v=m.n:=ah;subst e;exact bh bc (h1 hc sw wa w BL h)
 refine bO (by simp;omega) ?_
 have hroom:(n8 m v).room (3+En m.lg)=true↔6+((v+1:Nat):Int)*m.one≤m.cells:=by
  have e1:((v+1:Nat):Int)*m.one=v*m.one+m.one:=by rw[Int.natCast_add,Int.add_mul];omega
  unfold bK.room;rw[hMs,hMl,e1];unfold Lm.one;simp only[decide_eq_true_eq];omega
 have hmono:∀z:Nat,z≤m.n→6+m.n*m.one≤m.cells→6+z*m.one≤m.cells:=λz hz hq=>by
  have:(z:Int)*m.one≤m.n*m.one:=Int.mul_le_mul_of_nonneg_right ah ah;omega
 refine bS (fun(x:Addr×Int) w=>(x.2=0∧6+((v+1:Nat):Int)*m.one≤m.cells∧∃g,x.1=⟨g,0,none⟩∧St w0 w (ax g [.int .i64 (tQ m v),.int .i64 m.log]::LW a ps m sw wa (n8 m (v+1)) v R))∨(x.2=21∧¬6+m.n*m.one≤m.cells∧∃L',St w0 w (L'++R))) (λJ hJ=> ?_) ?_
 ·with_reducible repeat' (first|refine an ?_|refine aF h λw h=> ?_|refine da h ?_|refine pN h ?_|refine av h λgx w h=> ?_|refine ja h ?_|refine fX ?_ ?_|refine amE (by assumption) h vw ?_|fail)
  ·refine al3 (M:=n8 m v) (log:=m.lg) (most:=m.log) h hMo hMc hlo (λhr w h=> ?_) λhr w h=> ?_
   ·with_reducible repeat' (first|refine nW h λw h=> ?_|refine av h λgx w h=> ?_|refine ja h ?_|refine amE (by assumption) h vw ?_|fail)
    rw[hMl]at h;exact hJ _ _ (.inl ⟨rfl,hroom.1 hr,_,rfl,h⟩)
   ·with_reducible repeat' (first|refine nW h λw h=> ?_|refine av h λgx w h=> ?_|refine ja h ?_|refine amE (by assumption) h vw ?_|fail)
    exact hJ _ _ (.inr ⟨rfl,λq=>by rw[hroom.2 (hmono _ ah q)]at hr;(cases hr),[_,_,_,_,_],h⟩)
  ·refine al3 (M:=n8 m v) (log:=m.lg) (most:=m.log) h hMo hMc hlo (λhr w h=> ?_) λhr w h=> ?_
   ·with_reducible repeat' (first|refine nW h λw h=> ?_|fail)
    rw[hMl]at h;exact hJ _ _ (.inl ⟨rfl,hroom.1 hr,_,rfl,h⟩)
   ·with_reducible repeat' (first|refine nW h λw h=> ?_|fail)
    exact hJ _ _ (.inr ⟨rfl,λq=>by rw[hroom.2 (hmono _ ah q)]at hr;(cases hr),[_,_,_,_,_],h⟩)
 clear h;rintro⟨ad,e⟩ w hx;dsimp only at hx;rcases hx with⟨rfl,GJ,g,rfl,h⟩|⟨rfl,hno,L',h⟩;rotate_left
 ·exact bO rfl (h2 hno w L' h)
 refine bh rfl ?_;with_reducible repeat' (first|refine an ?_|refine aF h λw h=> ?_|refine mH h ?_|refine mI h ?_|fail)
 refine avK h λgt w h=> ?_;with_reducible repeat' (first|refine mJ h ?_|fail)
 refine qK (#[pt a.gs,.int .i64 v,.int .i64 (tQ m v),.int .i64 m.log,.pointer none,.slice none 0 0,.slice none 0 0,.nilFunc,.pointer none,.nilFunc,.pointer none,.nilFunc,.pointer none,.slice none 0 0,.bool false,.nilFunc,.nilFunc,.nilFunc,.int .i64 0,.nilFunc,.pointer none,.int .i64 0,.bool false,.bool false,.nilFunc,.nilFunc,.int .i64 0,.nilFunc,.int .i64 0,.nilFunc,.int .i64 0,.nilFunc]) rfl be ?_;with_reducible repeat' (first|refine an ?_|refine j5 h ?_|refine dO h λw h=> ?_|refine av h λgx w h=> ?_|fail)
 obtain⟨gn,lS⟩:∃n,n=gx:=⟨_,rfl⟩;subst lS;with_reducible repeat' (first|refine an ?_|refine aF h λw h=> ?_|refine da h ?_|refine cS h ?_|refine uL h ?_|refine j5 h ?_|refine pC h ?_|refine zb h ?_|refine lW h ?_|refine vt h ?_|refine AO h ?_|refine sY h ?_|refine Ar h ?_|refine AP h ?_|refine mH h ?_|refine mI h ?_|refine pN h ?_|refine dO h λw h=> ?_|refine qY h λw h=> ?_|refine vC h λw h=> ?_|refine nW h λw h=> ?_|refine av h λgx w h=> ?_|refine cP ?_|refine ja h ?_|refine mJ h ?_|refine fX ?_ ?_|refine fE ?_|refine nJ ?_|refine xB ?_|fail)
 obtain⟨gw,lS⟩:∃n,n=gx:=⟨_,rfl⟩;subst lS;have hwl:(wa.map pt).length≤16:=by rw[List.length_map,BL];omega
 refine K7 (s:=sw) (vs:=wa.map pt) h aCH be rfl ah ah λs2 w h E7=> ?_;with_reducible repeat' (first|refine an ?_|refine dO h λw h=> ?_|fail)
 have h:=h.Ek 0;have h:=h.Ek 2;have h:=akH (Y:=[pt a.gs,.int .i64 v,.int .i64 (tQ m v),.int .i64 m.log,pt gt,.slice none 0 0,.slice none 0 0,mt gw .rest,.pointer none,.nilFunc,.pointer none,.nilFunc,.pointer none,.slice none 0 0,.bool false,.nilFunc,.nilFunc,.nilFunc,.int .i64 0,.nilFunc,.pointer none,.int .i64 0,.bool false,.bool false,.nilFunc,.nilFunc,.int .i64 0,.nilFunc,.int .i64 0,.nilFunc,.int .i64 0,.nilFunc]) h be;have h:=aAf (l:=nV a ps m []) h;have h:=akH (Y:=(nV a ps m []).cs ⟨some ⟨a.ga,0,none⟩,1,1⟩ ⟨none,0,0⟩ s2 0 0) h.swap be;have h:=h.fr 4;have h:=h.fr 2;have h:=VR h;have h:=h.bk 3;have e1:wa.zip (Ji m v)++[(gw,ZK v (tQ m v))]=(wa++[gw]).zip (Ji m (v+1)):=by
  rw[aoI,List.zip_append (by rw[BL];unfold Ji;simp)];rfl
 have e2:wa.map pt++[.pointer (some ⟨gw,0,none⟩)]=(wa++[gw]).map pt:=by simp
 rw[e1,e2]at h;refine hC (v+1,s2,wa++[gw]) _ _ ⟨?_,by dsimp only;omega,by simp[BL],GJ,h⟩ (by dsimp only;omega)
 rw[lY ⟨ah,ah⟩];rfl
end
end Go.Proofs.YthidhjhkmjjckaaGreatDoor
namespace Go.Proofs.YthidhjhkmjjckaaGreatDoor
open Go Go.Ev Go.Proofs
open Fr (Ax nu dQ eB dc iB jj nR fR oT qv kr qi pR pS pQ)
open Ck (fW IZ pV Gy pU rE nT Br rF BH sr wV)
theorem aiu{f:List Int}{pc:Int}{j:Nat}(h1:j≠1)(h18:j≠18):(Ax f pc).getD j 0=f.getD j 0:=by
 unfold Ax;simp only[nI,rK (Ne.symm h18),rK (Ne.symm h1)]
theorem aw1{f:List Int}{pc:Int}(h:1<f.length):(Ax f pc).getD 1 0=pc:=by
 unfold Ax;simp only[nI,rK (by decide:(18:Nat)≠1)]
 rw[uu h];rfl
theorem aw2{f:List Int}{pc:Int}(h:f.length=19):(Ax f pc).getD 18 0=IntKind.i64.wrap (f.getD 18 0+1):=by
 unfold Ax;simp only[nI];rw[uu (by simp;omega),rK (by decide:(1:Nat)≠18)];rfl
theorem mZ{f:List Int}{j i:Nat}{v:Int}(h:i≠j):(f.set i v).getD j 0=f.getD j 0:=by
 simp only[nI,rK h]
theorem atJ{f:List Int}{i:Nat}{v:Int}(h:i<f.length):(f.set i v).getD i 0=v:=by
 simp[nI,h]
structure Kp (f f':List Int) (pc:Int):Prop where
 len:f'.length=f.length
 fn:f'.getD 0 0=f.getD 0 0
 pc:f'.getD 1 0=pc
 st:f'.getD 18 0=IntKind.i64.wrap (f.getD 18 0+1)
 hs:∀h:Nat,h<8→f'.getD (10+h) 0=f.getD (10+h) 0
theorem atK{f:List Int}{pc:Int}(h:f.length=19):Kp f (Ax f pc) pc:=
 ⟨qv,aiu fY fY,aw1 ah,aw2 h,λk hk=>aiu ah ah⟩
theorem RM{f:List Int}(h:f.length=19)(h0:0≤f.getD 1 0)(h1:f.getD 1 0<1000):Kp f (nu f) (f.getD 1 0+1):=by
 have:=atK (pc:=f.getD 1 0+1) h;unfold Fr.nu;rwa[cT ⟨ah,ah⟩]
theorem Xa{f f':List Int}{pc:Int}{r:Nat}{v:Int}(hr:r<8)(k:Kp (f.set (2+r) v) f' pc):Kp f f' pc:=
 ⟨by rw[k.len,List.length_set],by rw[k.fn,mZ ah],k.pc,by rw[k.st,mZ ah],λh hh=>by rw[k.hs h hh,mZ ah]⟩
theorem aiv:∀op,op<17→∀j,j<4→((Ck.IY.drop (op*4)).take 4).getD j 0=Fr.nS.getD (4*op+j) 0:=fY
theorem akS(k:Int):Ck.pP k=Fr.U3 k:=by
 unfold Ck.pP Fr.U3;by_cases h1:k=1
 ·subst h1;rfl
 by_cases h2:k=2
 ·subst h2;rfl
 by_cases h3:k=3
 ·subst h3;rfl
 by_cases h4:k=4
 ·subst h4;rfl
 by_cases h5:k=5
 ·subst h5;rfl
 rw[if_neg h1,if_neg h2,if_neg h3,if_neg h4,if_neg h5];simp[beq_eq_false_iff_ne.2 h1,beq_eq_false_iff_ne.2 h2,beq_eq_false_iff_ne.2 h3,beq_eq_false_iff_ne.2 h4,beq_eq_false_iff_ne.2 h5]
theorem FJ{x:List Int}(h:Ck.oP x=0):Fr.oP x=0:=by
 unfold Ck.oP at h;split at h
 ·cases h
 ·rename_i hno;split at h
  ·rename_i hf;unfold fW at hno hf;refine Fr.ad2 ah λj hj=> ?_;unfold Ck.fits at hf;rw[xz]at hf;have:=hf j (by simpa using hj)
   unfold Ck.fit Ck.kinds at this;rw[aiv _ ah j hj,akS]at this;unfold Fr.FG Fr.pP;simp only[Bool.not_eq_true',kx,decide_eq_false_iff_not]at this;simp only[decide_eq_true_eq];omega
  ·cases h
theorem Z6{i:List Int}{op:Int}(hc:Ck.oP i=0)(h:i.getD 0 0=op):oT i op=true:=by unfold Fr.oT;rw[h,FJ hc];simp
theorem aiw{f i:List Int}(hc:Ck.oP i=0)(hf:f.length=19)(h0:0≤f.getD 1 0)(h1:f.getD 1 0<1000)(hp:(dQ f i).2=true):
  (pU i=true∧Kp f (dQ f i).1 (i.getD 4 0))∨(fW i≤7∧fW i≠6∧Kp f (dQ f i).1 (f.getD 1 0+1)):=by
 have hr:=Fr.vn (FJ hc);unfold fW;revert hp;unfold Fr.dQ;rw[if_neg (by rw[FJ hc];simp)]
 split
 ·rename_i hb;intro _;exact .inl ⟨by
   rcases hb with hb|hb
   ·show((i.getD 0 0==6)||(i.getD 0 0==7))=true;rw[hb];rfl
   ·show((i.getD 0 0==6)||(i.getD 0 0==7))=true;rw[hb.1];rfl,atK hf⟩
 ·split
  ·rename_i hb;intro _;exact .inr ⟨ah,ah,RM hf h0 h1⟩
  ·split
   ·intro q;cases q
   ·rename_i h6 h7 h5;intro _;have hlt:(i.getD 1 0).toNat<8:=ah;refine .inr ⟨ah,ah,Xa (r:=(i.getD 1 0).toNat) (v:=Fr.RB f i) hlt ?_⟩;have:=RM (f:=f.set (2+(i.getD 1 0).toNat) (Fr.RB f i)) (by simpa using hf) (by rw[mZ ah];exact h0) (by rw[mZ ah];exact h1)
    rwa[mZ ah]at this
theorem ab8{f i:List Int}(hc:Ck.oP i=0)(hp:(dQ f i).2=false):8≤i.getD 0 0∧i.getD 0 0≤16:=by
 have hk:=Ck.aeb hc;unfold fW at hk;revert hp;unfold Fr.dQ;rw[if_neg (by rw[FJ hc];simp)]
 split
 ·intro q;cases q
 ·split
  ·intro q;cases q
  ·split
   ·rename_i h6 h7 h5;intro _;omega
   ·intro q;cases q
theorem age{f i:List Int}{kind v:Int}(hc:Ck.oP i=0)(hf:f.length=19)(h0:0≤f.getD 1 0)(h1:f.getD 1 0<1000)(ho:i.getD 0 0=9∨i.getD 0 0=10)(hk:kind=2∨kind=3∨kind=4)
  (hb:(dc f i kind v).2.2=false):Kp f (dc f i kind v).1 (f.getD 1 0+1):=by
 have hr:=Fr.vn (FJ hc);revert hb;unfold Fr.dc;rw[if_neg (by rcases ho with ho|ho<;>rw[Z6 hc ho] <;>simp<;>omega)]
 split
 ·intro _;have:=RM (f:=(f.set (2+(i.getD 1 0).toNat) (if kind=4 then 0 else v)).set (2+(i.getD 2 0).toNat) (IntKind.i64.wrap (kind - 2))) (by simpa using hf) (by rw[mZ ah,mZ ah];exact h0) (by rw[mZ ah,mZ ah];exact h1)
  rw[mZ ah,mZ ah]at this;exact Xa ah (Xa ah this)
 ·split
  ·intro _;have:=RM (f:=(f.set (2+(i.getD 1 0).toNat) v)) (by simpa using hf) (by rw[mZ ah];exact h0) (by rw[mZ ah];exact h1)
   rw[mZ ah]at this;exact Xa ah this
  ·intro q;cases q
theorem agf{f i:List Int}{b:Bool}(hc:Ck.oP i=0)(hf:f.length=19)(h0:0≤f.getD 1 0)(h1:f.getD 1 0<1000)(ho:i.getD 0 0=12):Kp f (iB f i b) (f.getD 1 0+1):=by
 have hr:=Fr.vn (FJ hc);unfold Fr.iB;rw[if_pos (Z6 hc ho)];have:=RM (f:=f.set (2+(i.getD 1 0).toNat) (if b then 1 else 0)) (by simpa using hf) (by rw[mZ ah];exact h0) (by rw[mZ ah];exact h1)
 rw[mZ ah]at this;exact Xa ah this
theorem ab9{f:List Int}{n aX:Int}(hf:f.length=19):(jj f n aX).length=19∧(jj f n aX).getD 0 0=n∧(jj f n aX).getD 1 0=0∧(jj f n aX).getD 18 0=0∧∀h:Nat,h<8→(jj f n aX).getD (10+h) 0=if tb aX h then f.getD (10+h) 0 else -1:=by
 obtain⟨x0,x1,x2,x3,x4,x5,x6,x7,x8,x9,x10,x11,x12,x13,x14,x15,x16,x17,x18,rfl⟩:=Fr.afN hf;refine⟨rfl,rfl,rfl,rfl,λh hh=> ?_⟩;match h,hh with
 |0,_=>rfl
 |1,_=>rfl
 |2,_=>rfl
 |3,_=>rfl
 |4,_=>rfl
 |5,_=>rfl
 |6,_=>rfl
 |7,_=>rfl
theorem aix{f i:List Int}{id:Int}(hc:Ck.oP i=0)(h8:i.getD 0 0=8)(hf:f.length=19)(h0:0≤f.getD 1 0)(h1:f.getD 1 0<1000):(eB f i id).length=19∧(eB f i id).getD 0 0=f.getD 0 0∧(eB f i id).getD 1 0=f.getD 1 0+1
  ∧(eB f i id).getD 18 0=IntKind.i64.wrap (f.getD 18 0+1)∧∀h:Nat,h<8→(eB f i id).getD (10+h) 0=if i.getD 1 0=h then id else f.getD (10+h) 0:=by
 have hr:=Fr.vn (FJ hc);unfold Fr.eB;rw[if_pos (Z6 hc h8)];have k:=RM (f:=f.set (10+(i.getD 1 0).toNat) id) (by simpa using hf) (by rw[mZ ah];exact h0) (by rw[mZ ah];exact h1)
 refine⟨by rw[k.len,List.length_set,hf],by rw[k.fn,mZ ah],by rw[k.pc,mZ ah],?_,λh hh=> ?_⟩
 ·rw[k.st];by_cases e:10+(i.getD 1 0).toNat=18
  ·omega
  ·rw[mZ e]
 ·rw[k.hs h hh];split
  ·rename_i e;have:10+(i.getD 1 0).toNat=10+h:=ah;rw[this,atJ ah]
  ·rw[mZ ah]
structure FI (P:List dH) (H:Int→Prop) (f:List Int) (d:Nat):Prop where
 len:f.length=19
 f0:0≤f.getD 0 0
 d1:1≤d
 fn:∃g,P[(f.getD 0 0).toNat]?=some g∧∃hv,IZ P g hv ((d:Int) - 1) (f.getD 1 0)∧∀h:Nat,h<8→tb hv h=true→H (f.getD (10+h) 0)
theorem FI.imp{P:List dH}{H H':Int→Prop}{f:List Int}{d:Nat}(h:FI P H f d)(hH:∀y,H y→H' y):FI P H' f d:=by
 obtain⟨g,hg,hv,hW,hh⟩:=h.fn;exact⟨h.len,h.f0,h.d1,g,hg,hv,hW,λk hk ht=>hH _ (hh k hk ht)⟩
structure FAt (P:List dH) (H:Int→Prop) (f:List Int) (d:Nat) (g:dH) (hv:Int) (i:List Int):Prop where
 at0:P[(f.getD 0 0).toNat]?=some g
 acc:Ck.Acc P g
 walk:IZ P g hv ((d:Int) - 1) (f.getD 1 0)
 hds:∀h:Nat,h<8→tb hv h=true→H (f.getD (10+h) 0)
 ins:g.code[(f.getD 1 0).toNat]?=some i
 oP:Ck.oP i=0
 good:Ck.Good P g.code.length (nT 0 g.code) (rE g.code g.aX) (f.getD 1 0).toNat i
section
variable {P:List dH} {H:Int→Prop} {f:List Int} {d:Nat}
theorem FI.at(hA:pV P)(h:FI P H f d):∃g hv,FAt P H f d g hv (bu P f):=by
 obtain⟨g,hg,hv,hW,hH⟩:=h.fn;have hacc:=hA.all g (q6 hg);have h0:=hW.a0;have h1:=hW.a1;have e:bu P f=g.code.getD (f.getD 1 0).toNat []:=by unfold bu;rw[hg]
 have hlt:(f.getD 1 0).toNat<g.code.length:=ah;have hi:g.code[(f.getD 1 0).toNat]?=some (bu P f):=by
  rw[e,nI (l:=g.code),j4 hlt,Option.getD_some]
 exact⟨g,hv,hg,hacc,hW,hH,hi,hacc.ok _ (q6 hi),Ck.NU hacc hW hi⟩
theorem FI.oP(hA:pV P)(h:FI P H f d):Ck.oP (bu P f)=0:=by obtain⟨g,hv,ha⟩:=h.at hA;exact ha.oP
theorem FI.op(hA:pV P)(h:FI P H f d):0≤(bu P f).getD 0 0∧(bu P f).getD 0 0<17:=by
 have hk:=Ck.aeb (h.oP hA);unfold fW at hk;exact⟨hk.1,ah⟩
theorem FI.Gw{w:World}{ps:Sl}(hF:iN w ps P)(hA:pV P)(h:FI P H f d):(bu P f).length=5:=by
 obtain⟨g,hv,ha⟩:=h.at hA;exact((hF.code g (q6 ha.at0)).2.Gw _ (q6 ha.ins)).1
theorem FI.Zf{w:World}{ps:Sl}(hF:iN w ps P)(hA:pV P)(h:FI P H f d):Ze P f:=by
 obtain⟨g,hv,ha⟩:=h.at hA;refine⟨⟨h.len,h.f0,ha.walk.a0,⟨g,ha.at0,ha.ins⟩,h.Gw hF hA⟩,h.op hA,λhp=>ab8 ha.oP hp⟩
theorem FI.aAh(hA:pV P)(h:FI P H f d):(0≤(bu P f).getD 0 0∧(bu P f).getD 0 0<17)∧((dQ f (bu P f)).2=false→8≤(bu P f).getD 0 0∧(bu P f).getD 0 0≤16):=by
 obtain⟨g,hv,ha⟩:=h.at hA;exact⟨h.op hA,λhp=>ab8 ha.oP hp⟩
theorem FAt.pc{g:dH}{hv:Int}{i:List Int}(ha:FAt P H f d g hv i):0≤f.getD 1 0∧f.getD 1 0<1000:=by
 have h0:=ha.walk.a0;have h1:=ha.walk.a1;have:=ha.acc.l1;omega
theorem FI.next{g:dH}{hv:Int}{i f':List Int}{d':Nat}(h:FI P H f d)(ha:FAt P H f d g hv i)(h6:fW i≠6)(h15:fW i≠15)(h16:fW i≠16)(h8:fW i≠8)(hk:Kp f f' (f.getD 1 0+1))(hd:1≤d')
  (hl:((d':Int) - 1)=Br ((d:Int) - 1) i):FI P H f' d':=by
 have hlen:=h.len;refine⟨by rw[hk.len,hlen],by rw[hk.fn];exact h.f0,hd,g,by rw[hk.fn];exact ha.at0,hv,?_,λk hk' ht=>by rw[hk.hs k hk'];exact ha.hds k hk' ht⟩
 rw[hl,hk.pc];exact Ck.akp ha.acc ha.walk ha.ins h6 h15 h16 h8
theorem FI.goes{g:dH}{hv:Int}{i f':List Int}(h:FI P H f d)(ha:FAt P H f d g hv i)(CU:pU i=true)(hk:Kp f f' (i.getD 4 0)):FI P H f' d:=by
 have hlen:=h.len;refine⟨by rw[hk.len,hlen],by rw[hk.fn];exact h.f0,h.d1,g,by rw[hk.fn];exact ha.at0,hv,?_,λk hk' ht=>by rw[hk.hs k hk'];exact ha.hds k hk' ht⟩
 rw[hk.pc];exact Ck.akq ha.acc ha.walk ha.ins CU
theorem FI.plain(hA:pV P)(h:FI P H f d)(hp:(dQ f (bu P f)).2=true):FI P H (dQ f (bu P f)).1 d:=by
 obtain⟨g,hv,ha⟩:=h.at hA;obtain⟨Fw,Bq⟩:=ha.pc;rcases aiw ha.oP h.len Fw Bq hp with⟨CU,hk⟩|⟨h7,h6,hk⟩
 ·exact h.goes ha CU hk
 ·exact h.next ha h6 ah ah ah hk h.d1 (by unfold Br;rw[if_neg ah,if_neg ah])
theorem FI.on(hA:pV P)(h:FI P H f d)(ho:(bu P f).getD 0 0=13∨(bu P f).getD 0 0=14):FI P H (nu f) d:=by
 obtain⟨g,hv,ha⟩:=h.at hA;obtain⟨Fw,Bq⟩:=ha.pc;refine h.next ha (by unfold fW;omega) (by unfold fW;omega) (by unfold fW;omega) (by unfold fW;omega) (RM h.len Fw Bq) h.d1 ?_
 unfold Br fW;rw[if_neg ah,if_neg ah]
theorem FI.opens(hA:pV P)(h:FI P H f d)(hd:d≤100000)(ho:(bu P f).getD 0 0=11):FI P H (nu f) (d+1):=by
 obtain⟨g,hv,ha⟩:=h.at hA;obtain⟨Fw,Bq⟩:=ha.pc;have:=h.d1;refine h.next ha (by unfold fW;omega) (by unfold fW;omega) (by unfold fW;omega) (by unfold fW;omega) (RM h.len Fw Bq) ah ?_
 unfold Br fW;rw[if_pos ho,cT ⟨ah,ah⟩];omega
theorem FI.scopes(hA:pV P)(h:FI P H f d)(ho:(bu P f).getD 0 0=12∨(bu P f).getD 0 0=13):2≤d:=by
 obtain⟨g,hv,ha⟩:=h.at hA;have hg:=ha.good.scopes;have hop:=ha.walk.ako;unfold sr fW at hg;rw[if_pos (by rcases ho with h|h<;>rw[h] <;>rfl)]at hg
 have:=of_decide_eq_true hg;omega
theorem FI.gF{b:Bool}(hA:pV P)(h:FI P H f d)(hd:d≤100000)(ho:(bu P f).getD 0 0=12):FI P H (iB f (bu P f) b) (d - 1):=by
 obtain⟨g,hv,ha⟩:=h.at hA;obtain⟨Fw,Bq⟩:=ha.pc;have:=h.scopes hA (.inl ho);refine h.next ha (by unfold fW;omega) (by unfold fW;omega) (by unfold fW;omega) (by unfold fW;omega) (agf ha.oP h.len Fw Bq ho) ah ?_
 unfold Br fW;rw[if_neg ah,if_pos ho,cT ⟨ah,ah⟩];omega
theorem FI.joined{kind v:Int}(hA:pV P)(h:FI P H f d)(ho:(bu P f).getD 0 0=9∨(bu P f).getD 0 0=10)(hk:kind=2∨kind=3∨kind=4)(hb:(dc f (bu P f) kind v).2.2=false):FI P H (dc f (bu P f) kind v).1 d:=by
 obtain⟨g,hv,ha⟩:=h.at hA;obtain⟨Fw,Bq⟩:=ha.pc;refine h.next ha (by unfold fW;omega) (by unfold fW;omega) (by unfold fW;omega) (by unfold fW;omega) (age ha.oP h.len Fw Bq ho hk hb) h.d1 ?_
 unfold Br fW;rw[if_neg ah,if_neg ah]
theorem FI.hand(hA:pV P)(h:FI P H f d)(ho:(bu P f).getD 0 0=9∨(bu P f).getD 0 0=10):(0≤GA (bu P f)∧GA (bu P f)<8)∧H (f.getD (10+(GA (bu P f)).toNat) 0):=by
 obtain⟨g,hv,ha⟩:=h.at hA;have hr:=Fr.vn (FJ ha.oP);have hg:=ha.good.ah5;unfold rF at hg;unfold fW at hg;unfold GA;rcases ho with h|h
 ·rw[if_neg ah];rw[if_pos (by rw[h];rfl)]at hg
  exact⟨hr.2.1,ha.hds _ ah (Ck.Vb ha.walk ah hg)⟩
 ·rw[if_pos h];rw[if_neg (by rw[h];decide),if_pos (by rw[h];rfl)]at hg
  exact⟨hr.2.2,ha.hds _ ah (Ck.Vb ha.walk ah hg)⟩
theorem FI.aCL(hA:pV P)(h:FI P H f d):0≤(bu P f).getD 1 0∧(bu P f).getD 1 0<8:=(Fr.vn (FJ (h.oP hA))).1
theorem FI.fork(hA:pV P)(h:FI P H f d)(h8:(bu P f).getD 0 0=8):∃g',P[((bu P f).getD 4 0).toNat]?=some g'∧0≤(bu P f).getD 4 0∧Eb P ((bu P f).getD 4 0)=g'.aX∧(H (-1)∨True)∧FI P H (jj f ((bu P f).getD 4 0) g'.aX) 1:=by
 obtain⟨g,hv,ha⟩:=h.at hA;have B2:=(Ck.abX ha.good.places).2 h8;have hc:=(Ck.aeb ha.oP).2.2.2.1 h8;have hr:=Fr.vn (FJ ha.oP);obtain⟨g',KW⟩:∃g',P[((bu P f).getD 4 0).toNat]?=some g':=⟨_,j4 ah⟩;have hh:=ha.good.ah5;unfold rF fW at hh;rw[if_neg (by rw[h8];decide),if_neg (by rw[h8];decide),if_pos (by rw[h8];rfl),Ck.NR KW]at hh
 obtain⟨c1,c2,c3,c4,c5⟩:=ab9 (f:=f) (n:=(bu P f).getD 4 0) (aX:=g'.aX) h.len;have hacc:=hA.all g' (q6 KW);refine⟨g',KW,hc.1,by unfold Eb;rw[KW],.inr trivial,c1,by rw[c2];exact hc.1,iv 1,g',by rw[c2];exact KW,g'.aX,by rw[c3];exact Ck.Za hacc ⟨by have:=hacc.n0;omega,by have:=hacc.n1;omega⟩,λk hk ht=> ?_⟩
 rw[c5 k hk,if_pos ht];exact ha.hds k hk (Ck.Vb ha.walk hk (Ck.AB.1 hh k hk ht))
theorem FI.sV{id:Int}(hA:pV P)(h:FI P H f d)(h8:(bu P f).getD 0 0=8)(vq:H id):FI P H (eB f (bu P f) id) d:=by
 obtain⟨g,hv,ha⟩:=h.at hA;obtain⟨Fw,Bq⟩:=ha.pc;obtain⟨f1,f2,f3,f4,f5⟩:=aix (id:=id) ha.oP h8 h.len Fw Bq;refine⟨f1,by rw[f2];exact h.f0,h.d1,g,by rw[f2];exact ha.at0,Ck.L4 (bu P f) hv,?_,λk hk ht=> ?_⟩
 ·rw[f3];obtain⟨hz,hlt⟩:=Ck.W9 ha.acc ha.walk ha.ins (by unfold fW;omega) (by unfold fW;omega) (by unfold fW;omega)
  refine Ck.abZ ha.acc.l1 ha.walk ha.ins hz ?_ (λk hk ht=> ?_) ?_
  ·unfold Ck.L4;split
   ·exact Ck.awu _ _
   ·exact ha.walk.inI
  ·rw[Ck.af1 hk]at ht;simpa using ht
  ·rw[Ck.Y9 ha.walk ha.ins hlt];unfold Br fW;rw[if_neg ah,if_neg ah]
 ·rw[f5 k hk];split
  ·exact vq
  ·rename_i hne;rw[Ck.af1 hk]at ht;have hf:wV (bu P f) k=false:=by unfold Ck.wV;rw[Bool.and_eq_false_iff];exact .inr (by simpa using hne)
   rw[hf,Bool.or_false]at ht;exact ha.hds k hk ht
theorem FI.root(hA:pV P):FI P H nR 1:=by
 have hn:=hA.n0;obtain⟨g,hg⟩:∃g,P[(0:Int).toNat]?=some g:=⟨_,j4 (by simp;omega)⟩
 have hacc:=hA.all g (q6 hg);refine⟨rfl,by simp[Fr.nR],iv 1,g,hg,g.aX,Ck.Za hacc ⟨by have:=hacc.n0;omega,by have:=hacc.n1;omega⟩,λk hk ht=> ?_⟩
 have:=Ck.NR hg;rw[hA.root]at this;rw[←this,Ck.W2 hk]at ht;cases ht
theorem FI.is8(hA:pV P)(h:FI P H f d){op:Int}(h8:(bu P f).getD 0 0=op):oT (bu P f) op=true:=Z6 (h.oP hA) h8
end
end Go.Proofs.YthidhjhkmjjckaaGreatDoor
namespace Go.Proofs.YthidhjhkmjjckaaGreatDoor
open Go Go.Ev Go.Proofs
open Ko (CK)
open Ck (pV)
inductive Ro
 |told|idle|Xb|PE
 |ask (s:Nat)|liv (s:Nat)
 |top (v:Nat)|bot (v:Nat)|Vf (v:Nat)|rg (v g k:Nat)
 |fk (x:Nat)|fv (x:Nat)|fw (x:Nat)
 deriving DecidableEq
def kY(ro:List Ro)(a:Int)(r:Ro):Prop:=0≤a∧ro[a.toNat]?=some r
section
variable {ro m:List Ro} {a b:Int} {r s:Ro} {M:bK}
theorem kY.ne(h:kY ro a r)(k:kY ro b s)(hn:r≠s):a≠b:=by
 intro e;subst e;have:=h.2;rw[k.2]at this;exact hn (Option.some.inj this).symm
theorem kY.qG(h:kY ro a r):kY (ro++m) a r:=⟨h.1,by rw[sZ (kJ.1 h.2).1];exact h.2⟩
theorem kY.lt(h:kY ro a r):a<ro.length:=by have:=(kJ.1 h.2).1;have:=h.1;omega
theorem kY.new{k:Nat}(hk:m[k]?=some r)(ha:a=((ro.length+k:Nat):Int)):kY (ro++m) a r:=by
 subst ha;refine⟨ah,?_⟩;rw[kR,uI ah];rw[Nat.add_sub_cancel_left];exact hk
theorem kY.old(h:kY (ro++m) a r):kY ro a r∨∃k:Nat,m[k]?=some r∧a=((ro.length+k:Nat):Int):=by
 by_cases hl:a.toNat<ro.length
 ·exact .inl ⟨h.1,by have:=h.2;rwa[sZ hl]at this⟩
 ·refine .inr ⟨a.toNat - ro.length,?_,by have:=h.1;omega⟩
  have:=h.2;rwa[uI ah]at this
theorem kY.given(h:kY ro a r)(hl:ro.length=M.cells.length):M.given a=true:=by
 have:=h.lt;have:=h.1;unfold bK.given;simp only[decide_eq_true_eq];omega
theorem kY.can{wk:Int}(h:kY ro a r)(hl:ro.length=M.cells.length)(hc:M.caller wk=true):M.can wk a=true:=by
 unfold bK.can;rw[hc,h.given hl];rfl
theorem RN{x:Int}(h0:0≤a)(h1:0≤b)(h:b≠a):(M.put a x).get b=M.get b:=by
 unfold bK.get bK.put;simp only[nI];rw[rK ah]
theorem aiy{x:Int}(h0:0≤a)(h1:a<M.cells.length):(M.put a x).get a=x:=by
 unfold bK.get bK.put;simp only[nI];rw[uu ah];rfl
theorem xx{n:Int}(h0:0≤a)(h1:a<M.cells.length):(M.grow n).get a=M.get a:=by
 unfold bK.get bK.grow;simp only[nI];rw[sZ ah]
theorem Xc{n:Int}(h1:(M.cells.length:Int)≤a):(M.grow n).get a=0:=by
 unfold bK.get bK.grow;simp only[nI];rw[uI ah];cases h:(dM n.toNat (0:Int))[a.toNat - M.cells.length]? with
 |none=>rfl
 |some v=>have:=List.eq_of_mem_replicate (q6 h);rw[this];rfl
@[simp] theorem tA {wk:Int}:(M.tick wk).get a=M.get a:=rfl
@[simp] theorem RO {wk:Int}:(M.tick wk).cells=M.cells:=rfl
@[simp] theorem aAi {wk:Int}:(M.tick wk).size=M.size:=rfl
@[simp] theorem aiz {x:Int}:(M.put a x).cells.length=M.cells.length:=by unfold bK.put;simp
@[simp] theorem size_put {x:Int}:(M.put a x).size=M.size:=rfl
@[simp] theorem akT {x:Int}:(M.put a x).steps=M.steps:=rfl
@[simp] theorem ayj {n:Int}:(M.grow n).steps=M.steps:=rfl
@[simp] theorem aAj {n:Int}:(M.grow n).size=M.size:=rfl
theorem Su{n:Int}(h:0≤n):((M.grow n).cells.length:Int)=M.cells.length+n:=by unfold bK.grow;simp;omega
@[simp] theorem ao8 {wk:Int}:(M.tick wk).steps.length=M.steps.length:=by unfold bK.tick;simp
theorem I4{wk:Int}{n:Nat}(hn:M.steps.length=n+1)(h0:0≤wk)(h1:wk≤n):M.caller wk=true:=by
 unfold bK.caller;simp only[decide_eq_true_eq];omega
theorem L6{x:Int}(h0:0≤a)(h1:a<M.cells.length)(hb:0≤b):(M.put a x).get b=if b=a then x else M.get b:=by
 split
 ·rename_i e;subst e;exact aiy h0 h1
 ·rename_i e;exact RN h0 hb e
theorem Z7{wk o x:Int}(h0:0≤a)(h1:a<M.cells.length)(hb:0≤b):(M.cs wk a o x).1.get b=if b=a∧M.get a=o then x else M.get b:=by
 unfold bK.cs;split
 ·rename_i e;dsimp only;rw[L6 h0 (by simpa using h1) hb,tA]
  by_cases hba:b=a
  ·simp[hba,e]
  ·simp[hba]
 ·rename_i e;simp[e]
theorem aw3{wk o x:Int}:(M.cs wk a o x).2=decide (M.get a=o):=by
 unfold bK.cs;split
 ·rename_i e;simp[e]
 ·rename_i e;simp[e]
theorem aw4{wk x:Int}(h0:0≤a)(h1:a<M.cells.length)(hb:0≤b):(M.ad wk a x).get b=if b=a then wr (M.get a+x)else M.get b:=by
 unfold bK.ad;rw[L6 h0 (by simpa using h1) hb,tA]
theorem agh(x:Int):uJ (wr x):=by
 unfold wr uJ aG;simp only[IntKind.bits,IntKind.signed];simp;omega
end
theorem L7:∀{n:Nat} {l:List Nat},l.Nodup→(∀x∈l,x<n)→l.length≤n
 |0,l,_,h=>by
  cases l with
  |nil=>simp
  |cons x l=>exact absurd (h x bc) ah
 |n+1,l,hd,h=>by
  by_cases hn:n∈l
  ·have h1:=L7 (n:=n) (hd.erase n) λx hx=>by
    have h2:=(List.Nodup.mem_erase_iff hd).1 hx;have:=h x h2.2;omega
   rw[List.length_erase_of_mem hn]at h1;omega
  ·have:=L7 (n:=n) hd λx hx=>by
    have h2:=h x hx;have:x≠n:=λe=>hn (e▸hx);omega
   omega
structure ZL (l:Lc) (ro:List Ro) (v:Nat) (R:Rg):Prop where
 right:R.right=true
 le:R.CS≤l.log
 cell:∀k:Nat,k<R.pw→kY ro (R.At+(k:Int)) (.rg v R.CS.toNat k)
theorem ZL.qG{l:Lc}{ro m:List Ro}{v:Nat}{R:Rg}(h:ZL l ro v R):ZL l (ro++m) v R:=⟨h.right,h.le,λk hk=>(h.cell k hk).qG⟩
theorem aoJ{R:Rg}(h:R.right=true):0≤R.CS∧R.CS≤8∧0≤R.At∧R.At≤1048576 - R.pw:=by unfold Rg.right at h;simpa using h
theorem aw5(R:Rg):1≤R.pw:=by unfold Rg.pw;exact Nat.pow_pos ah
theorem ZL.place{l:Lc}{ro:List Ro}{v:Nat}{R:Rg}(h:ZL l ro v R)(i:Int):kY ro (R.place i) (.rg v R.CS.toNat (i % (R.pw:Int)).toNat):=by
 have hp:=aw5 R;have h1:=Int.emod_nonneg i (b:=(R.pw:Int)) ah;have h2:=Int.emod_lt_of_pos i (b:=(R.pw:Int)) ah;have:=h.cell (i % (R.pw:Int)).toNat ah;unfold Rg.place;rw[if_pos h.right];rwa[Int.toNat_of_nonneg h1]at this
def Ec(l:Lc)(ro:List Ro)(n:Nat):Ro→Int→Prop
 | .PE,x=>0≤x∧x<65536
 | .ask _,x=>x=0∨x=1
 | .rg _ _ _,x=>0≤x∧x<n
 | .top _,x=>uJ x
 | .bot _,x=>uJ x
 | .Vf v,x=> ∃R:Rg,x=R.word∧ZL l ro v R
 | .fk _,x=>0≤x∧x≤4
 |_,_=>True
theorem Ec.qG{l:Lc}{ro m:List Ro}{n n':Nat}{r:Ro}{x:Int}(h:Ec l ro n r x)(hn:n≤n'):Ec l (ro++m) n' r x:=by
 cases r<;>try exact h
 ·obtain⟨R,h1,h2⟩:=h;exact⟨R,h1,h2.qG⟩
 ·exact⟨h.1,by have:=h.2;omega⟩
structure ScT (ro:List Ro) (s:Nat) (x:Nd):Prop where
 a:kY ro x.at_ (.ask s)
 b:kY ro (x.at_+1) (.liv s)
 n:0≤x.nest∧x.nest≤32
 p:s≠0→0≤x.parent∧x.parent<s
 w:s=0→x.parent= -1
structure Tz (ro:List Ro) (nC:Nat) (x:Nat) (t:Tk):Prop where
 id:t.id=x
 k:kY ro t.jC (.fk x)
 v:kY ro (t.jC+1) (.fv x)
 w:kY ro (t.jC+2) (.fw x)
 ZM:0≤t.lX∧t.lX<nC
 own:0≤t.own∧t.own<nC
 cD:∀p∈t.cD,0≤p.1∧p.1<nC
 sn:t.gF.size+t.cD.length≤t.scopes.length
 sl:t.scopes.length≤nC
structure Ty (l:Lc) (ro:List Ro) (G:Gl):Prop where
 len:ro.length=G.M.cells.length
 ok:G.M.OK
 sz:G.M.size≤65536
 stp:G.M.steps.length=l.wa.length+1
 val:∀a r,kY ro a r→Ec l ro G.ts.length r (G.M.get a)
 told:kY ro l.told .told
 idle:kY ro l.idle .idle
 Xb:kY ro l.sp.at_ .Xb
 PE:kY ro (l.sp.at_+1) .PE
 sc:∀(s:Nat) x,G.C[s]?=some x→ScT ro s x
 tk:∀(x:Nat) t,G.ts[x]?=some t→Tz ro G.C.length x t
 c1:1≤G.C.length
 t1:1≤G.ts.length
 pl:G.P.length=G.C.length
 kt:abp G.T
 kl:G.T.length=G.ts.length
 kk:∀(i:Nat) x,G.T[i]?=some x→x.kids.length≤G.T.length
 ck:CK G.time
 PF:∀y∈G.time.2,y.2<G.C.length
 cnt:2*G.C.length+3*G.ts.length≤G.M.cells.length
 dr:G.D.length≤1024
section
variable {l:Lc} {ro m:List Ro} {G G':Gl} {a v:Int} {r:Ro}
theorem Ty.cap(h:Ty l ro G):G.C.length≤32768∧G.ts.length≤32768∧G.P.length≤32768∧G.T.length≤32768:=by
 have h1:=h.ok.fit;have h2:=h.sz;have h3:=h.cnt;have h4:=h.pl;have h5:=h.kl;omega
theorem Ty.RP(h:Ty l ro G){s:Int}(h0:0≤s)(h1:s<G.C.length):GC G s∧ScT ro s.toNat (G.nd s):=by
 have h2:s.toNat<G.C.length:=ah;have e:oc G.C s=some (G.C[s.toNat]'h2):=by unfold oc;rw[if_pos h0,j4 h2]
 have e2:G.nd s=G.C[s.toNat]'h2:=by unfold Gl.nd;rw[e];rfl
 exact⟨by unfold GC;rw[e,e2],by rw[e2];exact h.sc _ _ (j4 h2)⟩
theorem Ty.pX(h:Ty l ro G){x:Nat}(hx:x<G.ts.length):Tz ro G.C.length x (G.tk x):=h.tk x _ (G.Al hx)
theorem Ty.ZJ(h:Ty l ro G):G.time.2.length≤100000:=by
 have h1:=h.ck.one;have h2:=h.PF;have h3:=h.ck.ids;have h4:=h.cap.1;have hd:((G.time.2.map (·.2)).map Int.toNat).Nodup:=by
  refine List.pairwise_map.2 (h1.imp_of_mem fun{a b} ha hb hab=> ?_);obtain⟨z,hz,rfl⟩:=List.mem_map.1 ha;obtain⟨u,hu,rfl⟩:=List.mem_map.1 hb;have a1:=h3 z hz;have a2:=h3 u hu;omega
 have:=L7 (n:=G.C.length) hd λx hx=>by
  obtain⟨y,hy,rfl⟩:=List.mem_map.1 hx;obtain⟨z,hz,rfl⟩:=List.mem_map.1 hy;have a1:=h2 z hz;have a2:=h3 z hz;omega
 simp at this;omega
theorem Ty.ayk{M:bK}(h:Ty l ro G)(hc:M.cells.length=G.M.cells.length)(hs:M.size=G.M.size)(hst:M.steps.length=G.M.steps.length)(hv:∀a r,kY ro a r→Ec l ro G.ts.length r (M.get a)):Ty l ro (G.mem M):=
 {h with len:=by rw[h.len];exact hc.symm,ok:=⟨by show 1≤M.size∧M.size≤_;rw[hs];exact h.ok.size,by have:=h.ok.fit;show(M.cells.length:Int)≤M.size;rw[hs,hc];exact this⟩,sz:=by show M.size≤_;rw[hs];exact h.sz,stp:=by show M.steps.length=_;rw[hst];exact h.stp,val:=hv,cnt:=by show _≤M.cells.length;rw[hc];exact h.cnt}
theorem Ty.tick(h:Ty l ro G)(wk:Int):Ty l ro (G.tick wk):=h.ayk rfl rfl bc h.val
theorem Ty.put{M:bK}(h:Ty l ro G)(hM:M.cells=G.M.cells∧M.size=G.M.size∧M.steps.length=G.M.steps.length)(hl:kY ro a r)(hv:Ec l ro G.ts.length r v):Ty l ro (G.mem (M.put a v)):=by
 obtain⟨h1,h2,h3⟩:=hM;refine h.ayk (by simp[h1]) h2 h3 λb s hb=> ?_
 have hlt:=hl.lt;rw[h.len]at hlt;rw[L6 hl.1 (by rw[h1];exact hlt) hb.1]
 split
 ·rename_i e;subst e;have:r=s:=by have q:=hl.2;rw[hb.2]at q;exact(Option.some.inj q).symm
  subst this;exact hv
 ·have:M.get b=G.M.get b:=by unfold bK.get;rw[h1]
  rw[this];exact h.val b s hb
theorem Ty.ad(h:Ty l ro G){wk x:Int}(hl:kY ro a r)(hv:Ec l ro G.ts.length r (wr (G.M.get a+x))):Ty l ro (G.mem (G.M.ad wk a x)):=h.put ⟨rfl,rfl,bc⟩ hl hv
theorem Ty.cs(h:Ty l ro G){wk o x:Int}(hl:kY ro a r)(hv:Ec l ro G.ts.length r x):Ty l ro (G.mem (G.M.cs wk a o x).1):=by
 unfold bK.cs;split
 ·exact h.put ⟨rfl,rfl,bc⟩ hl hv
 ·exact h.tick wk
theorem Ty.set(h:Ty l ro G){x:Nat}{t:Tk}(ht:x<G.ts.length→Tz ro G.C.length x t):Ty l ro (G.set x t):=by
 have hn:(G.set x t).ts.length=G.ts.length:=by unfold Gl.set;simp
 refine{h with val:=by rw[hn];exact h.val,tk:=λy u hu=> ?_,t1:=by rw[hn];exact h.t1,kl:=by rw[hn];exact h.kl,cnt:=by rw[hn];exact h.cnt}
 by_cases e:x=y
 ·subst e;have hu:(G.ts.set x t)[x]?=some u:=hu;have hl:=(kJ.1 hu).1;rw[List.length_set]at hl;rw[uu hl]at hu;cases hu
  exact ht hl
 ·have hu:(G.ts.set x t)[y]?=some u:=hu;rw[rK e]at hu;exact h.tk y u hu
end
end Go.Proofs.YthidhjhkmjjckaaGreatDoor
namespace Go.Proofs.YthidhjhkmjjckaaGreatDoor
open Go Go.Ev Go.Proofs
open Ko (CK)
theorem aiA{r:Rg}(h:r.right=true):Rg.of r.word=r:=by
 have hr:=Rg.Fx h;unfold Rg.of Rg.word;rw[if_pos h];obtain⟨a,l⟩:=r;simp only[Rg.mk.injEq]at*
 omega
structure ZN (ro:List Ro) (v:Nat) (d:Int):Prop where
 top:kY ro d (.top v)
 bot:kY ro (d+1) (.bot v)
 Vf:kY ro (d+2) (.Vf v)
theorem ZN.qG{ro m:List Ro}{v:Nat}{d:Int}(h:ZN ro v d):ZN (ro++m) v d:=⟨h.top.qG,h.bot.qG,h.Vf.qG⟩
theorem pq{O:bp}{M:bK}{wk:Int}{r:HW}(hl:O.live=true)(hr:O.run M wk=r):O.step M wk=({r.1 with how:=if r.2.2.2=0 then r.2.2.1 else 6,err:=r.2.2.2},r.2.1):=by
 unfold bp.step;rw[if_pos hl,hr]
theorem wZ{O:bp}(h:O.how=0):O.live=true:=by unfold bp.live;rw[h];rfl
theorem aAk{O:bp}(h:O.how=2):O.live=true:=by unfold bp.live;rw[h];rfl
def pY(M:bK)(d:Int):Rg:=Rg.of (M.get (d+2))
section
variable {l:Lc} {ro:List Ro} {M:bK} {wk d:Int} {v:Nat} {O:bp}
structure KU (M:bK) (wk d:Int) (O:bp):Prop where
 at_:O.at_=d
 c0:M.can wk d=true
 c1:M.can wk (d+1)=true
 c2:M.can wk (d+2)=true
 rr:(pY M d).right=true
theorem akV(h:KU M wk d O):O.read M wk=({O with ring:=pY M d},M.tick wk,0):=by
 have h2:=h.c2;have h3:=h.rr;unfold pY at h3 ⊢;rw[←h.at_]at h2 h3 ⊢;unfold bp.read;rw[if_pos h2,if_pos h3]
theorem amF{a o x:Int}(h:M.can wk a=true):M.UU wk a o x=((M.cs wk a o x).1,(M.cs wk a o x).2,0):=by
 rw[ahk h];unfold bK.cs;split<;>rfl
theorem st0(h:KU M wk d O)(hw:O.how=0)(hn:O.next=0):O.step M wk=({O with b:=M.get (d+1),next:=1,how:=0,err:=0},M.tick wk):=by
 obtain⟨rfl,h0,h1,h2,h3⟩:=h;rw[pq (wZ hw) (show O.run M wk=O.f0 M wk by simp only[bp.run,hn])]
 unfold bp.f0;rw[D5 h1];rfl
theorem st1(h:KU M wk d O)(hw:O.how=0)(hn:O.next=1):O.step M wk=({O with t:=M.get d,next:=2,how:=0,err:=0},M.tick wk):=by
 obtain⟨rfl,h0,h1,h2,h3⟩:=h;rw[pq (wZ hw) (show O.run M wk=O.f1 M wk by simp only[bp.run,hn])]
 unfold bp.f1;rw[D5 h0];rfl
theorem X8(h:KU M wk d O)(hw:O.how=0)(hn:O.next=2):O.step M wk=
  (if wr (O.b - O.t)<(pY M d).size then{O with ring:=pY M d,next:=6,how:=0,err:=0}else if (pY M d).CS≥O.most then{O with ring:=pY M d,how:=4,err:=0}else{O with ring:=pY M d,next:=3,how:=0,err:=0},M.tick wk):=by
 have e:O.run M wk=(if wr (O.b - O.t)<(pY M d).size then({O with ring:=pY M d,next:=6},M.tick wk,0,0)else if (pY M d).CS≥O.most then({O with ring:=pY M d},M.tick wk,4,0)else({O with ring:=pY M d,next:=3},M.tick wk,0,0)):=by
  rw[show O.run M wk=O.f2 M wk by simp only[bp.run,hn]]
  unfold bp.f2;rw[akV h];simp
 rw[pq (wZ hw) e];split
 ·rfl
 ·split<;>rfl
theorem st3(h:KU M wk d O)(hw:O.how=0)(hn:O.next=3)(hl:0≤O.lg∧O.lg≤8)(hc:M.caller wk=true):O.step M wk=
  if M.room O.LV then(if Rw O.ring (O.LU M) O.t O.b=0 then({O with to:=O.LU M,copy:=some (Cp.begin O.ring (O.LU M) O.t O.b),next:=4,how:=0,err:=0},(M.tick wk).grow O.LV)
   else({O with to:=O.LU M,copy:=none,next:=4,how:=6,err:=Rw O.ring (O.LU M) O.t O.b},(M.tick wk).grow O.LV))else({O with how:=6,err:=21},M):=by
 have e:O.run M wk=O.f3 M wk:=by simp only[bp.run,hn]
 rw[pq (wZ hw) e];unfold bp.f3;rw[if_pos ⟨hl.1,hl.2,hc⟩];split
 ·split
  ·rfl
  ·dsimp only
 ·rfl
theorem st4{c:Cp}(hw:O.how=0)(hn:O.next=4)(hc:O.copy=some c)(hk:M.can wk c.spot=true):O.step M wk=
  if c.at_=c.jW then({O with next:=5,how:=0,err:=0},M)else if c.BV then({O with copy:=some (c.next 0),next:=if (c.next 0).at_=c.jW then 5 else 4,how:=0,err:=0},(M.tick wk).put c.spot c.has)
   else({O with copy:=some (c.next (M.get c.spot)),how:=0,err:=0},M.tick wk):=by
 have e:O.run M wk=O.f4 M wk c:=by simp only[bp.run,hn,hc]
 rw[pq (wZ hw) e];unfold bp.f4;rw[hn];split
 ·rfl
 ·split<;>rfl
theorem st5(h:KU M wk d O)(hw:O.how=0)(hn:O.next=5):O.step M wk=({O with ring:=O.to,next:=6,how:=0,err:=0},(M.tick wk).put (d+2) O.to.word):=by
 obtain⟨rfl,h0,h1,h2,h3⟩:=h;rw[pq (wZ hw) (show O.run M wk=O.f5 M wk by simp only[bp.run,hn])]
 unfold bp.f5;rw[Se h2];rfl
theorem st6(hw:O.how=0)(hn:O.next=6)(hc:M.can wk (O.ring.place O.b)=true):O.step M wk=({O with next:=7,how:=0,err:=0},(M.tick wk).put (O.ring.place O.b) O.x):=by
 rw[pq (wZ hw) (show O.run M wk=O.f6 M wk by simp only[bp.run,hn])]
 unfold bp.f6;rw[Se hc];rfl
theorem st7(h:KU M wk d O)(hw:O.how=0)(hn:O.next=7):O.step M wk=({O with how:=1,err:=0},(M.tick wk).put (d+1) (wr (O.b+1))):=by
 obtain⟨rfl,h0,h1,h2,h3⟩:=h;rw[pq (wZ hw) (show O.run M wk=O.f7 M wk by simp only[bp.run,hn])]
 unfold bp.f7;rw[Se h1];rfl
theorem st8(h:KU M wk d O)(hw:O.how=0)(hn:O.next=8):O.step M wk=({O with b:=M.get (d+1),next:=9,how:=0,err:=0},M.tick wk):=by
 obtain⟨rfl,h0,h1,h2,h3⟩:=h;rw[pq (wZ hw) (show O.run M wk=O.f8 M wk by simp only[bp.run,hn])]
 unfold bp.f8;rw[D5 h1];rfl
theorem st9(h:KU M wk d O)(hw:O.how=0)(hn:O.next=9):O.step M wk=({O with ring:=pY M d,next:=10,how:=0,err:=0},M.tick wk):=by
 have h':KU M wk d {O with next:=10}:=⟨h.at_,h.c0,h.c1,h.c2,h.rr⟩
 rw[pq (wZ hw) (show O.run M wk=O.f9 M wk by simp only[bp.run,hn])]
 unfold bp.f9;rw[akV h'];rfl
theorem aCR(h:KU M wk d O)(hw:O.how=0)(hn:O.next=10):O.step M wk=({O with next:=11,how:=0,err:=0},(M.tick wk).put (d+1) (wr (O.b - 1))):=by
 obtain⟨rfl,h0,h1,h2,h3⟩:=h;rw[pq (wZ hw) (show O.run M wk=O.f10 M wk by simp only[bp.run,hn])]
 unfold bp.f10;rw[Se h1];rfl
theorem aCS(h:KU M wk d O)(hw:O.how=0)(hn:O.next=11):O.step M wk=({O with t:=M.get d,next:=if M.get d>wr (O.b - 1)then 14 else 12,how:=0,err:=0},M.tick wk):=by
 obtain⟨rfl,h0,h1,h2,h3⟩:=h;rw[pq (wZ hw) (show O.run M wk=O.f11 M wk by simp only[bp.run,hn])]
 unfold bp.f11;rw[D5 h0];simp only[decide_eq_true_eq];rfl
theorem aCT(hw:O.how=0)(hn:O.next=12)(hc:M.can wk (O.ring.place (wr (O.b - 1)))=true):O.step M wk=({O with got:=M.get (O.ring.place (wr (O.b - 1))),next:=13,how:=if O.t<wr (O.b - 1)then 1 else 0,err:=0},M.tick wk):=by
 rw[pq (wZ hw) (show O.run M wk=O.f12 M wk by simp only[bp.run,hn])]
 unfold bp.f12;rw[D5 hc];simp only[decide_eq_true_eq];rfl
theorem aCU(h:KU M wk d O)(hw:O.how=0)(hn:O.next=13):O.step M wk=({O with won:=(M.cs wk d O.t (wr (O.t+1))).2,next:=14,how:=0,err:=0},(M.cs wk d O.t (wr (O.t+1))).1):=by
 obtain⟨rfl,h0,h1,h2,h3⟩:=h;rw[pq (wZ hw) (show O.run M wk=O.f13 M wk by simp only[bp.run,hn])]
 unfold bp.f13;rw[amF h0];rfl
theorem aCV(h:KU M wk d O)(hw:O.how=0)(hn:O.next=14):O.step M wk=({O with how:=if O.won then 1 else 3,err:=0},(M.tick wk).put (d+1) O.b):=by
 obtain⟨rfl,h0,h1,h2,h3⟩:=h;rw[pq (wZ hw) (show O.run M wk=O.f14 M wk by simp only[bp.run,hn])]
 unfold bp.f14;rw[Se h1];rfl
theorem aCW(h:KU M wk d O)(hw:O.how=0)(hn:O.next=15):O.step M wk=({O with t:=M.get d,next:=16,how:=0,err:=0},M.tick wk):=by
 obtain⟨rfl,h0,h1,h2,h3⟩:=h;rw[pq (wZ hw) (show O.run M wk=O.f15 M wk by simp only[bp.run,hn])]
 unfold bp.f15;rw[D5 h0];rfl
theorem aCX(h:KU M wk d O)(hw:O.how=0)(hn:O.next=16):O.step M wk=({O with b:=M.get (d+1),next:=17,how:=if O.t≥M.get (d+1)then 3 else 0,err:=0},M.tick wk):=by
 obtain⟨rfl,h0,h1,h2,h3⟩:=h;rw[pq (wZ hw) (show O.run M wk=O.f16 M wk by simp only[bp.run,hn])]
 unfold bp.f16;rw[D5 h1];simp only[decide_eq_true_eq];rfl
theorem aCY(h:KU M wk d O)(hw:O.how=0)(hn:O.next=17):O.step M wk=({O with ring:=pY M d,next:=18,how:=0,err:=0},M.tick wk):=by
 have h':KU M wk d {O with next:=18}:=⟨h.at_,h.c0,h.c1,h.c2,h.rr⟩
 rw[pq (wZ hw) (show O.run M wk=O.f17 M wk by simp only[bp.run,hn])]
 unfold bp.f17;rw[akV h'];rfl
theorem aCZ(hw:O.how=0)(hn:O.next=18)(hc:M.can wk (O.ring.place O.t)=true):O.step M wk=({O with got:=M.get (O.ring.place O.t),next:=19,how:=2,err:=0},M.tick wk):=by
 rw[pq (wZ hw) (show O.run M wk=O.f18 M wk by simp only[bp.run,hn])]
 unfold bp.f18;rw[D5 hc];rfl
theorem stK(h:KU M wk d O)(hw:O.how=2)(hn:O.next=19):O.step M wk=({O with how:=if (M.cs wk d O.t (wr (O.t+1))).2 then 1 else 5,err:=0},(M.cs wk d O.t (wr (O.t+1))).1):=by
 obtain⟨rfl,h0,h1,h2,h3⟩:=h;rw[pq (aAk hw) (show O.run M wk=O.f19 M wk by simp only[bp.run,hn])]
 unfold bp.f19;rw[amF h0];cases (M.cs wk O.at_ O.t (wr (O.t+1))).2<;>rfl
end
structure BM (l:Lc) (ro:List Ro) (n:Nat) (v:Nat) (d:Int) (O:bp):Prop where
 at_:O.at_=d
 most:O.most=l.log
 b:uJ O.b
 t:uJ O.t
 x:0≤O.x∧O.x<n
 got:0≤O.got∧O.got<n
 nx:O.next≤19
 how:O.how=if O.next=19 then 2 else 0
 rg:(3≤O.next∧O.next≤7)∨(10≤O.next∧O.next≤13)∨18≤O.next→ZL l ro v O.ring
 c2:O.next≤3→O.copy=none
 l3:O.next=3→O.ring.CS<l.log
 c4:O.next=4→∃c,O.copy=some c∧c.a=O.ring∧c.b=O.to∧0≤c.has∧c.has<n
 to:O.next=4∨O.next=5→ZL l ro v O.to
def bp.kind(O:bp):Nat:=if O.next≤7 then 0 else if O.next≤14 then 1 else 2
theorem BM.imp{l:Lc}{ro m:List Ro}{n n' v:Nat}{d:Int}{O:bp}(h:BM l ro n v d O)(hn:n≤n'):BM l (ro++m) n' v d O:=
 {h with x:=⟨h.x.1,by have:=h.x.2;omega⟩,got:=⟨h.got.1,by have:=h.got.2;omega⟩,rg:=λq=>(h.rg q).qG,c4:=λq=>by obtain⟨c,h1,h2,h3,h4,h5⟩:=h.c4 q;exact⟨c,h1,h2,h3,h4,ah⟩,to:=λq=>(h.to q).qG}
def Ro.dq(v:Nat):Ro→Prop
 | .top u=>u=v
 | .bot u=>u=v
 | .Vf u=>u=v
 | .rg u _ _=>u=v
 |_=>False
structure OpR (l:Lc) (ro iP:List Ro) (G:Gl) (wk:Int) (v:Nat) (d:Int) (O:bp) (r:bp×bK):Prop where
 ty:Ty l iP (G.mem r.2)
 ext:∃m,iP=ro++m∧∀s∈m,s.dq v
 err:r.1.how=6→r.1.err≠0
 got:0≤r.1.got∧r.1.got<G.ts.length
 live:r.1.how=0∨r.1.how=2→BM l iP G.ts.length v d r.1∧r.1.kind=O.kind
 how:O.kind=2→(r.1.how=0∧O.next≤17∧r.1.next≤18)∨(r.1.how=2∧O.next=18)∨(r.1.how=3∧O.next=16)∨((r.1.how=1∨r.1.how=5)∧O.next=19)
 aiB:O.kind≠2→r.1.how=0∨r.1.how=1∨(r.1.how=3∧O.kind=1)∨(r.1.how=4∧O.kind=0)∨(r.1.how=6∧O.kind=0)
 same:∀a s,kY ro a s→¬s.dq v→r.2.get a=G.M.get a
 tick:r.2.steps=G.M.steps∨r.2.steps=(G.M.tick wk).steps
 used:G.M.cells.length≤r.2.cells.length
section
variable {l:Lc} {ro:List Ro} {G:Gl} {wk d:Int} {v:Nat} {O:bp}
theorem Ty.ring(h:Ty l ro G)(hd:ZN ro v d):ZL l ro v (pY G.M d):=by
 obtain⟨R,h1,h2⟩:=h.val _ _ hd.Vf;unfold pY;rw[h1,aiA h2.right];exact h2
theorem Ty.rdy(h:Ty l ro G)(hd:ZN ro v d)(hc:G.M.caller wk=true)(ha:O.at_=d):KU G.M wk d O:=
 ⟨ha,hd.top.can h.len hc,hd.bot.can h.len hc,hd.Vf.can h.len hc,(h.ring hd).right⟩
theorem BM.phase(h:BM l ro G.ts.length v d O):O.next=0∨O.next=1∨O.next=2∨O.next=3∨O.next=4∨O.next=5∨O.next=6∨O.next=7∨O.next=8∨O.next=9∨O.next=10∨O.next=11∨O.next=12∨O.next=13∨O.next=14∨O.next=15∨O.next=16∨O.next=17∨O.next=18∨O.next=19:=by
 have:=h.nx;omega
theorem Ty.aoL(h:Ty l ro G){a x:Int}{r:Ro}{M:bK}(hM:M.cells=G.M.cells)(hl:kY ro a r)(hr:r.dq v):∀b s,kY ro b s→¬s.dq v→(M.put a x).get b=G.M.get b:=by
 intro b s hb hs;have hne:b≠a:=hb.ne hl (by rintro rfl;exact hs hr)
 rw[RN hl.1 hb.1 hne];unfold bK.get;rw[hM]
end
end Go.Proofs.YthidhjhkmjjckaaGreatDoor
namespace Go.Proofs.YthidhjhkmjjckaaGreatDoor
open Go Go.Ev Go.Proofs
open Ko (oe CK)
open Fr (nR)
section
variable {w0 w:World} {L R:List HP} {a:Ad} {ps:Sl} {m:Lm} {M:bK} {gm gc go:Nat} {wk d:Int} {f:HP→List HP}
theorem Yv(m:Lm)(v:Nat):tQ m (v+1)=tQ m v+m.one:=by
 unfold tQ;have:((v+1:Nat):Int)*m.one=v*m.one+m.one:=by rw[Int.natCast_add,Int.add_mul];omega
 rw[this];omega
theorem Xd(m:Lm)(h1:0≤m.one):∀{i v:Nat},i≤v→tQ m i≤tQ m v:=fun{i v} h=>by
 unfold tQ;have:(i:Int)*m.one≤v*m.one:=Int.mul_le_mul_of_nonneg_right ah h1;omega
theorem akW{lg a':Int}(hl:0≤lg∧lg≤8)(h0:0≤a'):(M.IS wk lg).get a'=if a'=(M.cells.length:Nat)+2 then Rg.word ⟨(M.cells.length:Nat)+3,lg⟩else if a'<(M.cells.length:Nat)then M.get a' else 0:=by
 have hp:=abw hl.1 hl.2;have hg:=xu (M:=M.tick wk) (n:=3+En lg) ah;have ht:(M.tick wk).cells.length=M.cells.length:=rfl;unfold bK.IS;rw[L6 (M:=((M.tick wk).grow (3+En lg)).tick wk) ah (by show _<((((M.tick wk).grow (3+En lg)).cells.length:Nat):Int);omega) h0]
 split
 ·rfl
 ·split
  ·rename_i h1 h2;show((M.tick wk).grow (3+En lg)).get a'=_;rw[xx h0 (by rw[ht];exact h2)];rfl
  ·rename_i h1 h2;show((M.tick wk).grow (3+En lg)).get a'=_;exact Xc (by rw[ht];omega)
theorem atN(a':Int):(ml4 m).get a'=0:=by
 have e:(ml4 m).cells=[0,0,0,0,0,0]:=rfl;unfold bK.get;rw[e];generalize a'.toNat=j;match j with
 |0=>rfl
 |1=>rfl
 |2=>rfl
 |3=>rfl
 |4=>rfl
 |5=>rfl
 |j+6=>rfl
theorem ace(hm:m.OK):∀v:Nat,6+v*m.one≤m.cells→(∀a':Int,0≤a'→a'<tQ m v→(∀i:Nat,i<v→a'≠tQ m i+2)→(n8 m v).get a'=0)∧(∀i:Nat,i<v→(n8 m v).get (tQ m i+2)=Rg.word ⟨tQ m i+3,m.lg⟩)
 |0,_=>⟨λa' _ _ _=>atN a',λi hi=>by omega⟩
 |v+1,h=>by
  have ho:=m.Ka hm;have Tx:=m.ab7 hm;have e1:((v+1:Nat):Int)*m.one=v*m.one+m.one:=by rw[Int.natCast_add,Int.add_mul];omega
  obtain⟨h1,h2⟩:=ace hm v ah;obtain⟨_,_,hl,_⟩:=Ss hm v ah;have hl:(((n8 m v).cells.length:Nat):Int)=tQ m v:=hl;have hb:∀a':Int,0≤a'→(n8 m (v+1)).get a'=if a'=tQ m v+2 then Rg.word ⟨tQ m v+3,m.lg⟩else if a'<tQ m v then(n8 m v).get a' else 0:=λa' h0=>by
   show((n8 m v).IS m.n m.lg).get a'=_;rw[akW ⟨Tx.1,Tx.2.2⟩ h0,hl]
  have VH:∀i:Nat,6≤tQ m i:=λi=>by have:=Xd m ah (Nat.zero_le i);unfold tQ at this ⊢;simp at this ⊢;omega
  refine⟨λa' h0 hlt hne=> ?_,λi hi=> ?_⟩
  ·rw[hb a' h0,if_neg (hne v ah)];split
   ·rename_i q;exact h1 a' h0 q λi hi=>hne i ah
   ·rfl
  ·rw[hb _ (by have:=VH i;omega)]
   by_cases e:i=v
   ·subst e;rw[if_pos rfl]
   ·have h3:=Xd m ah (show i+1≤v by omega)
    rw[Yv]at h3;rw[if_neg ah,if_pos ah];exact h2 i ah
structure ayl (M:bK) (wk d:Int) (R:Rg):Prop where
 c0:M.can wk d=true
 c1:M.can wk (d+1)=true
 c2:M.can wk (d+2)=true
 c3:M.can wk (R.place 0)=true
 t:M.get d=0
 b:M.get (d+1)=0
 r:pY M d=R
 rr:R.right=true
 ne:d+2≠R.place 0
def atO(M:bK)(wk d:Int)(R:Rg):bK:=((((((M.tick wk).tick wk).tick wk).tick wk).put (R.place 0) 0).tick wk).put (d+1) 1
abbrev pO(d most:Int)(R:Rg)(next:Nat)(how:Int):bp:=⟨d,most,0,0,R,0,false,Rg.zero,none,next,how,0,0⟩
theorem aiC{most:Int}{R':Rg}(h:ayl M wk d R'):(bp.CT d most 0 0).step M wk=(pO d most Rg.zero 1 0,M.tick wk)∧(pO d most Rg.zero 1 0).step (M.tick wk) wk=(pO d most Rg.zero 2 0,(M.tick wk).tick wk)∧(pO d most Rg.zero 2 0).step ((M.tick wk).tick wk) wk=(pO d most R' 6 0,((M.tick wk).tick wk).tick wk)∧
  (pO d most R' 6 0).step (((M.tick wk).tick wk).tick wk) wk=(pO d most R' 7 0,((((M.tick wk).tick wk).tick wk).tick wk).put (R'.place 0) 0)∧(pO d most R' 7 0).step (((((M.tick wk).tick wk).tick wk).tick wk).put (R'.place 0) 0) wk=(pO d most R' 7 1,atO M wk d R'):=by
 obtain⟨c0,c1,c2,c3,t,b,r,rr,ne⟩:=h;have key:∀M':bK,M'.steps.length=M.steps.length→M'.cells.length=M.cells.length→(M'.get (d+2)=M.get (d+2))→∀O:bp,O.at_=d→KU M' wk d O:=λM' h1 h2 h3 O ho=>⟨ho,by rw[Ie h1 h2];exact c0,by rw[Ie h1 h2];exact c1,by rw[Ie h1 h2];exact c2,by unfold pY;rw[h3];unfold pY at r;rw[r];exact rr⟩
 have hs:∀M':bK,(M'.tick wk).steps.length=M'.steps.length:=λM'=>by unfold bK.tick;simp
 have hb0:wr ((0:Int) - 0)=0:=fY;have hp:(0:Int)<R'.size:=by unfold Rg.size;rw[if_pos rr];have:=(Rg.Fx rr).2.2.2.2.1;omega
 refine⟨?_,?_,?_,?_,?_⟩
 ·rw[st0 (key M rfl rfl rfl (bp.CT d most 0 0) rfl) rfl rfl,b];rfl
 ·rw[st1 (key (M.tick wk) (hs _) rfl rfl (pO d most Rg.zero 1 0) rfl) rfl rfl,tA,t]
 ·rw[X8 (key ((M.tick wk).tick wk) (by rw[hs,hs]) rfl rfl (pO d most Rg.zero 2 0) rfl) rfl rfl]
  have e:pY ((M.tick wk).tick wk) d=R':=r;rw[e,hb0,if_pos hp]
 ·have hc:(((M.tick wk).tick wk).tick wk).can wk (R'.place 0)=true:=(Ie (M':=((M.tick wk).tick wk).tick wk) (M:=M) (by rw[hs,hs,hs]) rfl).trans c3
  rw[st6 (O:=pO d most R' 6 0) rfl rfl hc]
 ·have h2:(((((M.tick wk).tick wk).tick wk).tick wk).put (R'.place 0) 0).get (d+2)=M.get (d+2):=by
   have g3:=oW c3;have g2:=oW c2;unfold bK.given at g3 g2;simp only[decide_eq_true_eq]at g3 g2;rw[L6 (M:=(((M.tick wk).tick wk).tick wk).tick wk) g3.1 g3.2 g2.1,if_neg ne];rfl
  rw[st7 (key _ (by rw[akT,hs,hs,hs,hs]) (by rw[aiz];rfl) h2 (pO d most R' 7 0) rfl) rfl rfl]
  rfl
end
def g0(m:Lm):Gl:=⟨n8 m m.n,[],[⟨-1,0,2⟩],[(-1,0,0,false)],[],(0,[]),[],0,0⟩
def g1(m:Lm):Gl:={g0 m with M:=((n8 m m.n).tick m.n).grow 2,C:=[⟨-1,0,2⟩,⟨0,1,((n8 m m.n).cells.length:Nat)⟩],P:=[(-1,0,0,false),(-2,0,0,false)]}
def g2(m:Lm):Gl:=(g1 m).more m.n (-1) 0 1 nR
def g3(m:Lm):Gl:=(g2 m).mem ((g2 m).M.ad m.n 3 1)
def I5(m:Lm):Gl:=(g3 m).mem (atO (g3 m).M m.n 6 ⟨9,m.lg⟩)
def GF(m:Lm):List Wk:=Ji m m.n
def Lm.total(m:Lm):Int:=11+m.n*m.one
section
variable {w0 w:World} {L R:List HP} {a:Ad} {ps:Sl} {m:Lm} {M:bK} {gm gc go:Nat} {wk d:Int} {f:HP→List HP}
theorem frI:(Fr.nR).length=19:=rfl
structure aAl (m:Lm):Prop where
 n1:1≤m.n
 ok0:(n8 m m.n).OK
 c0:(n8 m m.n).caller m.n=true
 len:(((n8 m m.n).cells.length:Nat):Int)=6+m.n*m.one
 size:(n8 m m.n).size=m.cells
 ok1:(g1 m).M.OK
 c1:(g1 m).M.caller m.n=true
 ok2:(g2 m).M.OK
 c2:(g2 m).M.can m.n 3=true
 ok3:(g3 m).M.OK
 nd:ayl (g3 m).M m.n 6 ⟨9,m.lg⟩
theorem amG{M:bK}{wk a x:Int}:(M.ad wk a x).steps.length=M.steps.length∧(M.ad wk a x).cells.length=M.cells.length:=by
 unfold bK.ad bK.put bK.tick;simp
theorem Sv{M:bK}{wk n:Int}:((M.tick wk).grow n).steps.length=M.steps.length:=by unfold bK.grow bK.tick;simp
theorem acf(hm:m.OK)(h:m.total≤m.cells):aAl m:=by
 unfold Lm.total at h;have ho:=m.Ka hm;have Tx:=m.ab7 hm;have ux:1≤m.n:=by have:=hm.base;have:=hm.spare;unfold Lm.n;omega
 have hmul:m.one≤m.n*m.one:=by have:(1:Int)*m.one≤m.n*m.one:=Int.mul_le_mul_of_nonneg_right ah ah;omega
 obtain⟨h1,h2,h3,h4,h5⟩:=Ss hm m.n ah;have X0:=abw Tx.1 Tx.2.2;have hone:m.one=3+En m.lg:=rfl;have l1:(((g1 m).M.cells.length:Nat):Int)=8+m.n*m.one:=by
  have:=xu (M:=(n8 m m.n).tick m.n) (n:=2) ah;show((((n8 m m.n).tick m.n).grow 2).cells.length:Nat)=(_:Int);rw[this];show(((n8 m m.n).cells.length:Nat):Int)+2=_;rw[h3];omega
 have l2:(((g2 m).M.cells.length:Nat):Int)=11+m.n*m.one:=by
  have:=xu (M:=(g1 m).M.tick m.n) (n:=3) ah;show((((g1 m).M.tick m.n).grow 3).cells.length:Nat)=(_:Int);rw[this];show(((g1 m).M.cells.length:Nat):Int)+3=_;rw[l1];omega
 have l3:(((g3 m).M.cells.length:Nat):Int)=11+m.n*m.one:=by
  have:=(amG (M:=(g2 m).M) (wk:=m.n) (a:=3) (x:=1)).2;show((((g2 m).M.ad m.n 3 1).cells.length:Nat):Int)=_;rw[this,l2]
 have s1:(g1 m).M.steps.length=m.n+1:=by rw[←h5];exact Sv
 have s2:(g2 m).M.steps.length=m.n+1:=by rw[←s1];exact Sv
 have s3:(g3 m).M.steps.length=m.n+1:=by rw[←s2];exact amG.1
 have c3:(g3 m).M.caller m.n=true:=I4 s3 ah ah;have hcan:∀x:Int,0≤x→x<11+m.n*m.one→(g3 m).M.can m.n x=true:=λx h0 h1=>by
  unfold bK.can bK.given;rw[c3,l3];simp only[Bool.true_and,decide_eq_true_eq];exact⟨h0,h1⟩
 have hz:(g1 m).M.size=m.cells∧(g2 m).M.size=m.cells∧(g3 m).M.size=m.cells:=⟨h4,h4,h4⟩;have hsz:=hm.cells;have sK:∀x:Int,0≤x→x<6+m.n*m.one→x≠3→(g3 m).M.get x=(n8 m m.n).get x:=λx h0 hx hne=>by
  show((g2 m).M.ad m.n 3 1).get x=_;rw[aw4 ah (by rw[l2];omega) h0,if_neg hne]
  show(((g1 m).M.tick m.n).grow 3).get x=_;rw[xx h0 (by show x<(((g1 m).M.cells.length:Nat):Int);rw[l1];omega),tA]
  show(((n8 m m.n).tick m.n).grow 2).get x=_;rw[xx h0 (by show x<(((n8 m m.n).cells.length:Nat):Int);rw[h3];omega),tA]
 obtain⟨z1,z2⟩:=ace hm m.n ah;have VH:tQ m 0=6:=by unfold tQ;simp
 have hdn:tQ m m.n=6+m.n*m.one:=rfl;have hne:∀x:Int,x<8→∀i:Nat,i<m.n→x≠tQ m i+2:=λx hx i _=>by have:=Xd m ah (Nat.zero_le i);rw[VH]at this;omega
 have w0':(g3 m).M.get 8=Rg.word ⟨9,m.lg⟩:=by
  rw[sK 8 ah ah ah];have:=z2 0 ah;rw[VH]at this;exact this
 have hright:(Rg.mk 9 m.lg).right=true:=by
  unfold Rg.right;simp only[decide_eq_true_eq];unfold En at X0;unfold Rg.pw;dsimp only;omega
 have B2:(Rg.mk 9 m.lg).place 0=9:=by unfold Rg.place;rw[if_pos hright];simp
 refine⟨ux,h1,h2,h3,h4,⟨by rw[hz.1];exact hsz,by rw[l1,hz.1];omega⟩,I4 s1 ah ah,⟨by rw[hz.2.1];exact hsz,by rw[l2,hz.2.1];omega⟩,?_,⟨by rw[hz.2.2];exact hsz,by rw[l3,hz.2.2];omega⟩,⟨hcan 6 ah ah,hcan 7 ah ah,hcan 8 ah ah,by rw[B2];exact hcan 9 ah ah,?_,?_,?_,hright,by rw[B2];decide⟩⟩
 ·have:=I4 s2 (wk:=m.n) ah ah;unfold bK.can bK.given;rw[this,l2];simp only[Bool.true_and,decide_eq_true_eq];omega
 ·rw[sK 6 ah ah ah];exact z1 6 ah (by rw[hdn];omega) (hne 6 ah)
 ·show(g3 m).M.get 7=0;rw[sK 7 ah ah ah];exact z1 7 ah (by rw[hdn];omega) (hne 7 ah)
 ·unfold pY;show Rg.of ((g3 m).M.get 8)=_;rw[w0'];exact aiA hright
theorem aoM{d most:Int}(h:yY d):(bp.CT d most 0 0).Gu:=⟨λq=>by(cases q),λq=>by(cases q),by show 0≤19;omega,h⟩
theorem Z8{d most:Int}{R:Rg}{nx:Nat}{how:Int}(h:yY d)(h1:nx=1∨nx=2∨nx=6∨nx=7):(pO d most R nx how).Gu:=⟨λq=>by dsimp only at q;omega,λq=>by dsimp only at q;omega,by dsimp only;omega,h⟩
theorem BN{M:bK}{wk:Int}(h:M.OK):(M.tick wk).OK:=⟨h.size,h.fit⟩
theorem aw6{M:bK}{a x:Int}(h:M.OK):(M.put a x).OK:=⟨h.size,by have:=h.fit;show((M.put a x).cells.length:Int)≤M.size;rw[aiz];exact this⟩
theorem akX{wa:List Nat}{st sw sp:Sl}{k:Int→aq}(hm:m.OK)(hroom:6+m.n*m.one≤m.cells)(BL:wa.length=m.n)(h:St w0 w (SL (nV a ps m wa) [] (g0 m) (lZ (qx (nV a ps m wa) []) (wa.zip (Ji m m.n))::R) sp st sw))
  (h1:m.total≤m.cells→∀aa w',xk w0 w' (nV a ps m wa) aa (I5 m) (GF m) R→k 0 w') (h2:¬m.total≤m.cells→∀w' L',St w0 w' (L'++R)→k 21 w'):gy (some ⟨a.gs,0,none⟩) m.n w k:=by
 obtain⟨ho1,ho2,U0,Tu,ZF⟩:=Ss hm m.n hroom;have ux:1≤m.n:=by have:=hm.base;have:=hm.spare;unfold Lm.n;omega
 have aCI:m.n≤16:=by have:=hm.base;have:=hm.spare;unfold Lm.n;omega
 unfold gy vU;with_reducible repeat' (first|refine an ?_|refine aF h λw h=> ?_|refine da h ?_|fail)
 refine afG (C:=[⟨-1,0,2⟩]) (x:=⟨-1,0,2⟩) (M:=n8 m m.n) h rfl ho2 ho1 bc (λq=>by exact absurd q fY) (λ_ hr w h=> ?_) λ_ hr w h=> ?_
 ·refine bO rfl (h2 (λq=> ?_) w [_,_,_,_,_,_,_,_,_,_,_] h);unfold bK.room at hr;unfold Lm.total at q;simp only[decide_eq_false_iff_not]at hr;omega
 refine bh rfl ?_;with_reducible repeat' (first|refine an ?_|refine j5 h ?_|fail)
 refine NJ rfl rfl ?_;with_reducible repeat' (first|refine av h λgx w h=> ?_|fail)
 obtain⟨gp,lS⟩:∃n,n=gx:=⟨_,rfl⟩;subst lS;refine adL (sz:=4) (s:=sp) (es:=[uw (-1,0,0,false)]) (e:=uw (-2,0,0,false)) h as2 be rfl ah (by simp[Value.oneCell']) bc ah λsp2 w h hn=> ?_
 with_reducible repeat' (first|refine an ?_|refine dO h λw h=> ?_|fail)
 have h:=h.Ek 0;refine Fr.al7 λw' he=> ?_;have h:=h.on he;have h:St w0 w' (SL (nV a ps m wa) [] (g1 m) (lZ (qx (nV a ps m wa) []) (wa.zip (Ji m m.n))::R) sp2 st sw):=h;clear he;have hr2:∀z:Int,(n8 m m.n).room 2=true→(g1 m).M.OK∧(((g1 m).M.cells.length:Nat):Int)=8+m.n*m.one:=λ_ hr=>by
  refine⟨agd ho1 ah hr,?_⟩;have:=xu (M:=(n8 m m.n).tick m.n) (n:=2) ah;show((((n8 m m.n).tick m.n).grow 2).cells.length:Nat)=(_:Int);rw[this];show(((n8 m m.n).cells.length:Nat):Int)+2=_;rw[U0];omega
 have hr:(n8 m m.n).room 2=true:=by assumption
 obtain⟨hM1,hl1⟩:=hr2 0 hr;have GJ:(g1 m).M.caller m.n=true:=GD ho2;refine atg (aa:=[]) (G:=g1 m) h frI hM1 GJ (.inl ⟨rfl,rfl⟩) (by show 0≤1000000;omega) bc ⟨ah,by show(1:Int)<((2:Nat):Int);omega⟩ (λhr3 gn CV w h=> ?_) λhr3 w h=> ?_
 rotate_left
 ·refine bO rfl (h2 (λq=> ?_) w [_,_,_,_,_,_,_,_,_,_,_] h);unfold bK.room at hr3;unfold Lm.total at q;simp only[decide_eq_false_iff_not]at hr3;have:(g1 m).M.size=m.cells:=Tu;omega
 refine bh rfl ?_;have htot:m.total≤m.cells:=by
  unfold bK.room at hr3;unfold Lm.total;simp only[decide_eq_true_eq]at hr3;have:(g1 m).M.size=m.cells:=Tu;omega
 have hR:=acf hm htot;have h:St w0 w (SL (nV a ps m wa) [gn] (g2 m) (lZ (qx (nV a ps m wa) []) (wa.zip (Ji m m.n))::R) sp2 CV sw):=h;with_reducible repeat' (first|refine an ?_|refine aF h λw h=> ?_|refine da h ?_|fail)
 refine ahl (C:=(g2 m).C) (x:=⟨-1,0,2⟩) (M:=(g2 m).M) h rfl hR.c2 hR.ok2 λw h=> ?_;refine bh rfl ?_;have h:=h.fr 10;have h:=amC (m:=[gn]) h;rw[List.nil_append]at h;have h:St w0 w (lZ (qx (nV a ps m wa) [gn]) (wa.zip (Ji m m.n))::SL (nV a ps m wa) [gn] (g3 m) R sp2 CV sw):=h;with_reducible repeat' (first|refine an ?_|refine j5 h ?_|fail)
 obtain⟨gw0,ha0⟩:∃g,wa[0]?=some g:=⟨_,j4 ah⟩;have hw0:(Ji m m.n)[0]?=some (ZK 0 6):=by
  unfold Ji;rw[pz,List.getElem?_range ah];simp[tQ]
 refine vP (s:=sw) (vs:=wa.map pt) h ah (x:=some ⟨gw0,0,none⟩) (by show(wa.map pt)[0]?=_;rw[pz,ha0];rfl) ?_
 with_reducible repeat' (first|refine an ?_|fail)
 refine ata (l:=nV a ps m wa) (aa:=[gn]) (n:=0) (gj:=gw0) (Wj:=ZK 0 6) h (by rw[List.getElem?_zip_eq_some];exact⟨ha0,hw0⟩) ?_
 refine al2 h λgo w h=> ?_;have hA:yY 6:=⟨ah,ah⟩;obtain⟨p1,p2,p3,p4,p5⟩:=aiC (most:=m.log) hR.nd;have hone:∀(O O':bp) (M M':bK) (w:World) (G:Gl) (C:Int→aq),O.Gu→M.OK→O.step M m.n=(O',M')→G.mem M=G→St w0 w (uq go O::lZ (qx (nV a ps m wa) [gn]) (wa.zip (Ji m m.n))::SL (nV a ps m wa) [gn] G R sp2 CV sw)→
   (∀w',St w0 w' (uq go O'::lZ (qx (nV a ps m wa) [gn]) (wa.zip (Ji m m.n))::SL (nV a ps m wa) [gn] (G.mem M') R sp2 CV sw)→C O'.how w')→fH (some ⟨go,0,none⟩) (some ⟨a.gm,0,none⟩) m.n w C:=by
  intro O O' M M' w G C hf hM hst hGM h hc;rw[←hGM]at h;have h:=h.fr 3;refine al1 (M:=M) (O:=O) h.swap hf hM λw h=> ?_;rw[hst]at h ⊢;have h:=h.swap;have h:=h.bk 3;exact hc w h
 refine bS (λi w=>i=1∧St w0 w (lZ (qx (nV a ps m wa) [gn]) (wa.zip (Ji m m.n))::SL (nV a ps m wa) [gn] (I5 m) R sp2 CV sw)) (λJ hJ=> ?_) ?_
 ·refine⟨6,?_⟩;unfold jP;refine bO rfl ?_;with_reducible repeat' (first|refine an ?_|refine da h ?_|fail)
  refine hone _ _ (g3 m).M _ w (g3 m) _ (aoM hA) hR.ok3 p1 rfl h λw h=> ?_;unfold jP;refine bO rfl ?_;with_reducible repeat' (first|refine an ?_|refine da h ?_|fail)
  refine hone _ _ _ _ w _ _ (Z8 hA (.inl rfl)) (BN hR.ok3) p2 rfl h λw h=> ?_;unfold jP;refine bO rfl ?_;with_reducible repeat' (first|refine an ?_|refine da h ?_|fail)
  refine hone _ _ _ _ w _ _ (Z8 hA (.inr (.inl rfl))) (BN (BN hR.ok3)) p3 rfl h λw h=> ?_;unfold jP;refine bO rfl ?_;with_reducible repeat' (first|refine an ?_|refine da h ?_|fail)
  refine hone _ _ _ _ w _ _ (Z8 hA (.inr (.inr (.inl rfl)))) (BN (BN (BN hR.ok3))) p4 rfl h λw h=> ?_;unfold jP;refine bO rfl ?_;with_reducible repeat' (first|refine an ?_|refine da h ?_|fail)
  refine hone _ _ _ _ w _ _ (Z8 hA (.inr (.inr (.inr rfl)))) (aw6 (BN (BN (BN (BN hR.ok3))))) p5 rfl h λw h=> ?_;unfold jP;refine bh rfl ?_;exact hJ _ _ ⟨rfl,h.drop⟩
 clear h;rintro _ w ⟨rfl,h⟩;refine bh rfl ?_;exact h1 htot [gn] w (tw (St.back 10 h))
end
end Go.Proofs.YthidhjhkmjjckaaGreatDoor
namespace Go.Proofs.YthidhjhkmjjckaaGreatDoor
open Go Go.Ev Go.Proofs
open Ko (oe CK)
open Ck (sJ Tw)
section
variable {w0 w:World} {L R:List HP} {a:Ad} {ps:Sl} {m:Lm} {M:bK} {P:List dH} {gm gc go:Nat} {wk d:Int} {f:HP→List HP}
def nr1(ps:Sl):Array Value:=#[.slice ps.a ps.n ps.c,.int .i64 0,.int .i64 0,.int .i64 0,.int .i64 0,.int .i64 0,.int .i64 0,.pointer none,.pointer none,.pointer none,.slice none 0 0,.slice none 0 0,.int .i64 0,.int .i64 0,.int .i64 0,.int .i64 0,.int .i64 0,.pointer none,.pointer none,.slice none 0 0,.int .i64 0,.int .i64 0]
def nr2(ps:Sl)(m:Lm):Array Value:=#[.slice ps.a ps.n ps.c,.int .i64 m.base,.int .i64 m.spare,.int .i64 m.cells,.int .i64 m.fuel,.int .i64 m.deep,.int .i64 m.log,.pointer none,.pointer none,.pointer none,.slice none 0 0,.slice none 0 0,.int .i64 0,.int .i64 0,.int .i64 0,.int .i64 0,.int .i64 0,.pointer none,.pointer none,.slice none 0 0,.int .i64 0,.int .i64 0]
abbrev Vg(m:Lm):Array Value:=#[.int .i64 m.base,.int .i64 m.spare,.int .i64 m.cells,.int .i64 m.fuel,.int .i64 m.deep,.int .i64 m.log]
def Lm.okB(m:Lm):Bool:=decide (1≤m.base∧m.base≤16)&&(decide (0≤m.spare∧m.spare≤16 - m.base)&&(decide (1≤m.cells∧m.cells≤1048576)&&(decide (0≤m.fuel∧m.fuel≤1048576)&&(decide (1≤m.deep∧m.deep≤1000)&&decide (0≤m.log∧m.log≤8)))))
theorem I6:m.okB=true↔m.OK:=by
 unfold Lm.okB;simp only[iZ,decide_eq_true_eq];exact⟨fun⟨h1,h2,h3,h4,h5,h6⟩=>⟨h1,h2,h3,h4,h5,h6⟩,fun⟨h1,h2,h3,h4,h5,h6⟩=>⟨h1,h2,h3,h4,h5,h6⟩⟩
theorem aoN{k:Bool→aq}(h:St w0 w L)(hk:∀w',St w0 w' L→k m.okB w'):oM (Vg m) w k:=by
 unfold oM GW;have hw:∀(x lo hi:Int) (C:Bool→aq) (w:World),C (decide (lo≤x∧x≤hi)) w→iU x lo hi w C:=λx lo hi C w hC=>by
  unfold iU;have e:(decide (x≥lo)&&decide (x≤hi))=decide (lo≤x∧x≤hi):=by simp[ge_iff_le]
  rw[e];exact hC
 unfold Lm.okB at hk;refine av h λg w h=> ?_;with_reducible repeat' (first|refine cS h ?_|fail)
 refine hw _ _ _ _ _ (ay (λhb=> ?_) λhb=> ?_);rotate_left
 ·rw[hb]at hk;exact hk w h.drop
 have hb0:=of_decide_eq_true hb;rw[hb,Bool.true_and]at hk;with_reducible repeat' (first|refine cS h ?_|fail)
 have e:aG .i64 (16 - m.base)=16 - m.base:=cT ⟨ah,ah⟩;rw[e];refine hw _ _ _ _ _ (ay (λhb=> ?_) λhb=> ?_);rotate_left
 ·rw[hb]at hk;exact hk w h.drop
 rw[hb,Bool.true_and]at hk;with_reducible repeat' (first|refine cS h ?_|fail)
 refine hw _ _ _ _ _ (ay (λhb=> ?_) λhb=> ?_);rotate_left
 ·rw[hb]at hk;exact hk w h.drop
 rw[hb,Bool.true_and]at hk;with_reducible repeat' (first|refine cS h ?_|fail)
 refine hw _ _ _ _ _ (ay (λhb=> ?_) λhb=> ?_);rotate_left
 ·rw[hb]at hk;exact hk w h.drop
 rw[hb,Bool.true_and]at hk;with_reducible repeat' (first|refine cS h ?_|fail)
 refine hw _ _ _ _ _ (ay (λhb=> ?_) λhb=> ?_);rotate_left
 ·rw[hb]at hk;exact hk w h.drop
 rw[hb,Bool.true_and]at hk;with_reducible repeat' (first|refine cS h ?_|fail)
 exact hw _ _ _ _ _ (hk w h.drop)
theorem St.acg:∀{A:List HP},St w0 w (A++R)→St w0 w R
 |[],h=>h
 |_::A,h=>St.acg (A:=A) (St.drop h)
theorem Yw{x:Int}{c:Int→Prop}(h:c x):xy .i64 (.int .i64 x) c:=by unfold xy;simpa using h
theorem aoO{p:Option Addr}{i:Int}{c:Value→aq}(h:fp p i w λr w=>c (.int .i64 r) w):CA [.pointer p,.int .i64 i] w c:=h
theorem aiD{p:Option Addr}{i:Int}{c:Value→aq}(h:eo p i w λr w=>c (.int .i64 r) w):AG [.pointer p,.int .i64 i] w c:=h
theorem atS{p:Option Addr}{i:Int}{c:Value→aq}(h:gy p i w λr w=>c (.int .i64 r) w):DJ [.pointer p,.int .i64 i] w c:=h
theorem afW{k:Option Addr×Int→aq}(hF:iN w0 ps P)(h:St w0 w R)(h1:Tw (sJ P)=[0,0,0]→m.OK→m.total≤m.cells→∀a wa aa w',wa.length=m.n→xk w0 w' (nV a ps m wa) aa (I5 m) (GF m) R→k (some ⟨a.gs,0,none⟩,0) w')
  (h2:¬Tw (sJ P)=[0,0,0]→∀w',St w0 w' R→k (none,24) w') (h3:Tw (sJ P)=[0,0,0]→¬m.OK→∀w',St w0 w' R→k (none,10) w') (h4:Tw (sJ P)=[0,0,0]→m.OK→¬m.total≤m.cells→∀w',St w0 w' R→k (none,21) w'):
  j2 #[.slice ps.a ps.n ps.c] (Vg m) w k:=by
 unfold j2 MV;refine av h λga1 w h=>av h λga3 w h=> ?_;with_reducible repeat' (first|refine mI h ?_|fail)
 refine Ck.abW (P:=P) (ps:=ps) (hF.ext h.ext) λw' hx=> ?_;have h:=h.on hx.ext;clear hx;refine ay (λhb=> ?_) λhb=> ?_
 ·exact h2 (by simpa using hb) _ h.drop.drop
 have hacc:Tw (sJ P)=[0,0,0]:=by simpa using hb
 replace h1:=h1 hacc;replace h3:=h3 hacc;replace h4:=h4 hacc;clear h2 hb;with_reducible repeat' (first|refine mI h ?_|fail)
 refine aoN (m:=m) h λw h=> ?_;refine ay (λhb=> ?_) λhb=> ?_
 ·have:¬m.OK:=λq=>by rw[I6.2 q]at hb;cases hb
  exact h3 this _ h.drop.drop
 have hm:m.OK:=I6.1 (by simpa using hb)
 replace h1:=h1 hm;replace h4:=h4 hm;clear h3 hb;with_reducible repeat' (first|refine cS h ?_|fail)
 have hbs:=hm.base;have hsp:=hm.spare;have hnw:aG .i64 (m.base+m.spare)=(m.n:Int):=by rw[cT ⟨ah,ah⟩];unfold Lm.n;omega
 have hnb:(m.n:Int)=m.base+m.spare:=by unfold Lm.n;omega
 rw[hnw];refine avD (size:=m.cells) (wks:=m.n) h (λhok gm w h=> ?_) λhok=> ?_;rotate_left
 ·exfalso;unfold afE at hok;simp only[decide_eq_false_iff_not]at hok;have:=hm.cells;omega
 refine bh rfl ?_;refine bS (fun(p:Option Addr) w=> ∃gs gk gt gd gp X,p=some ⟨gs,0,none⟩∧X=cs0 ⟨gs,gm,gk,0,gt,gd,gp⟩ ps m∧St w0 w (ax gs X::Cr gk []::oe gt (0,[])::KO gd []::ax gp (uw (-1,0,0,false))::bI gm (bK.new m.cells m.n)::R)) (λJ hJ=> ?_) ?_
 ·with_reducible repeat' (first|refine aF h λw h=> ?_|refine mI h ?_|refine av h λgx w h=> ?_|refine cP ?_|refine mJ h ?_|refine fX ?_ ?_|refine anx h λgx w h=> ?_|refine Ko.afW h λgx w h=> ?_|refine arx h λgx w h=> ?_|refine NJ rfl rfl ?_|fail)
  all_goals
   refine qK (nr1 ps) rfl be ?_;refine qK (nr2 ps m) rfl be ?_;refine av h λgx w h=> ?_;have h:=h.Ek 6;have h:=h.Ek 6;exact hJ _ _ ⟨_,_,_,_,_,_,rfl,be,h.perm GP⟩
 clear h;rintro _ w ⟨gs,gk,gt,gd,gp,X,rfl,rfl,h⟩;refine⟨rfl,⟨rfl,⟨rfl,?_⟩⟩⟩;with_reducible repeat' (first|refine av h λgx w h=> ?_|fail)
 obtain⟨gl,lS⟩:∃n,n=gx:=⟨_,rfl⟩;subst lS;refine⟨4,?_⟩;unfold jP;refine bO rfl ?_;with_reducible repeat' (first|refine an ?_|refine aF h λw h=> ?_|refine da h ?_|refine cS h ?_|refine uL h ?_|refine j5 h ?_|refine pC h ?_|refine zb h ?_|refine lW h ?_|refine vt h ?_|refine AO h ?_|refine sY h ?_|refine Ar h ?_|refine AP h ?_|refine mH h ?_|refine mI h ?_|refine pN h ?_|refine dO h λw h=> ?_|refine qY h λw h=> ?_|refine vC h λw h=> ?_|refine nW h λw h=> ?_|refine av h λgx w h=> ?_|refine cP ?_|refine ja h ?_|refine mJ h ?_|refine fX ?_ ?_|refine fE ?_|refine nJ ?_|refine xB ?_|fail)
 refine amt h (Int.le_refl 0) fY (v:= .func (.func m3) #[pt gs] #[]) rfl ?_;refine bU (d:=CA) (λ_ _ _=>rfl) (aoO ?_);have h:=h.fr 6;have h:=h.fr 2;refine ait (a:=⟨gs,gm,gk,0,gt,gd,gp⟩) hm h (λh6 gc w h=> ?_) (λh6 w X Y h=> ?_);rotate_left
 ·have hno:¬m.total≤m.cells:=λq=>h6 (by have:=m.Ka hm;unfold Lm.total at q;have:(0:Int)≤m.n*m.one:=Int.mul_nonneg ah ah;omega)
  refine Yw (bO rfl (h4 hno _ (St.acg (A:=[_,_,_,_,_,_,_]) h)))
 refine Yw (bh rfl ?_);unfold jP;refine bO rfl ?_;with_reducible repeat' (first|refine an ?_|refine aF h λw h=> ?_|refine da h ?_|refine cS h ?_|refine uL h ?_|refine j5 h ?_|refine pC h ?_|refine zb h ?_|refine lW h ?_|refine vt h ?_|refine AO h ?_|refine sY h ?_|refine Ar h ?_|refine AP h ?_|refine mH h ?_|refine mI h ?_|refine pN h ?_|refine dO h λw h=> ?_|refine qY h λw h=> ?_|refine vC h λw h=> ?_|refine nW h λw h=> ?_|refine av h λgx w h=> ?_|refine cP ?_|refine ja h ?_|refine mJ h ?_|refine fX ?_ ?_|refine fE ?_|refine nJ ?_|refine xB ?_|fail)
 refine amt h fY fY (v:= .func (.func lG) #[pt gs] #[]) rfl ?_;refine bU (d:=AG) (λ_ _ _=>rfl) (aiD ?_);have h:=h.fr 2;have h:=h.fr 2;have h:=St.back 2 (h.Jv 1);have h:St w0 w (lZ (qx (nV ⟨gs,gm,gk,gc,gt,gd,gp⟩ ps m []) []) ([].zip (Ji m 0))::_):=VS h;have h:=St.back 3 h;refine adh (a:=⟨gs,gm,gk,gc,gt,gd,gp⟩) hm h h6 (λhw sw wa w BL h=> ?_) (λhw w L' h=> ?_);rotate_left
 ·have hno:¬m.total≤m.cells:=λq=>hw (by unfold Lm.total at q;omega)
  refine Yw (bO rfl (h4 hno _ (St.acg (A:=[_,_,_,_,_,_]) (St.acg h))))
 refine Yw (bh rfl ?_);unfold jP;refine bO rfl ?_;with_reducible repeat' (first|refine an ?_|refine aF h λw h=> ?_|refine da h ?_|refine cS h ?_|refine uL h ?_|refine j5 h ?_|refine pC h ?_|refine zb h ?_|refine lW h ?_|refine vt h ?_|refine AO h ?_|refine sY h ?_|refine Ar h ?_|refine AP h ?_|refine mH h ?_|refine mI h ?_|refine pN h ?_|refine dO h λw h=> ?_|refine qY h λw h=> ?_|refine vC h λw h=> ?_|refine nW h λw h=> ?_|refine av h λgx w h=> ?_|refine cP ?_|refine ja h ?_|refine mJ h ?_|refine fX ?_ ?_|refine fE ?_|refine nJ ?_|refine xB ?_|fail)
 refine amt h fY fY (v:= .func (.func nK) #[pt gs] #[]) rfl ?_;refine bU (d:=DJ) (λ_ _ _=>rfl) (atS ?_);have h:=h.fr 9;have h:=ab5 (sz:=4) h rfl (by intro v hv;simp[uw]at hv;rcases hv with rfl|rfl|rfl|rfl<;>rfl)
 have h:=h.fr 6;have h:=h.fr 5;have h:St w0 w (L1 [] []::_):=St.pur rfl (VS h);have h:=h.fr 10;have h:=h.fr 10;have h:=h.fr 8;have h:=h.Jv 1;have h:=h.fr 7;have h:=h.fr 10;have h:=h.fr 11;have h:=h.fr 11;have h:=h.fr 11;have h:St w0 w (SL (nV ⟨gs,gm,gk,gc,gt,gd,gp⟩ ps m wa) [] (g0 m) (lZ (qx (nV ⟨gs,gm,gk,gc,gt,gd,gp⟩ ps m wa) []) (wa.zip (Ji m m.n))::ax gl _::R) ⟨some ⟨gp,0,none⟩,1,1⟩ ⟨none,0,0⟩ sw):=h;refine akX (a:=⟨gs,gm,gk,gc,gt,gd,gp⟩) hm hw BL h (λht aa w h=> ?_) (λht w L' h=> ?_);rotate_left
 ·exact Yw (bO rfl (h4 ht _ (St.acg h).drop))
 refine Yw (bh rfl ?_);unfold jP;refine bh rfl ?_;exact h1 ht ⟨gs,gm,gk,gc,gt,gd,gp⟩ wa aa _ BL (h.rm 2 rfl)
end
end Go.Proofs.YthidhjhkmjjckaaGreatDoor
namespace Go.Proofs.YthidhjhkmjjckaaGreatDoor
open Go Go.Ev Go.Proofs
open Ko (CK)
section
variable {l:Lc} {ro:List Ro} {G:Gl} {wk d a x:Int} {v:Nat} {O O':bp} {r:Ro}
theorem qF(h:Ty l ro G)(he:O'.how=6→O'.err≠0)(hg:0≤O'.got∧O'.got<G.ts.length)(hl:O'.how=0∨O'.how=2→BM l ro G.ts.length v d O'∧O'.kind=O.kind)
  (h1:O.kind=2→(O'.how=0∧O.next≤17∧O'.next≤18)∨(O'.how=2∧O.next=18)∨(O'.how=3∧O.next=16)∨((O'.how=1∨O'.how=5)∧O.next=19)) (h2:O.kind≠2→O'.how=0∨O'.how=1∨(O'.how=3∧O.kind=1)∨(O'.how=4∧O.kind=0)∨(O'.how=6∧O.kind=0)):
  OpR l ro ro G wk v d O (O',G.M.tick wk):=
 {ty:=h.tick wk,ext:=⟨[],bc,bc⟩,err:=he,got:=hg,live:=hl,how:=h1,aiB:=h2,same:=λ_ _ _ _=>rfl,tick:= .inr rfl,used:=iv _}
theorem aem(h:Ty l ro G)(he:O'.how=6→O'.err≠0)(hg:0≤O'.got∧O'.got<G.ts.length)(hl:O'.how=0∨O'.how=2→BM l ro G.ts.length v d O'∧O'.kind=O.kind)
  (h1:O.kind=2→(O'.how=0∧O.next≤17∧O'.next≤18)∨(O'.how=2∧O.next=18)∨(O'.how=3∧O.next=16)∨((O'.how=1∨O'.how=5)∧O.next=19)) (h2:O.kind≠2→O'.how=0∨O'.how=1∨(O'.how=3∧O.kind=1)∨(O'.how=4∧O.kind=0)∨(O'.how=6∧O.kind=0)):
  OpR l ro ro G wk v d O (O',G.M):=
 {ty:=h,ext:=⟨[],bc,bc⟩,err:=he,got:=hg,live:=hl,how:=h1,aiB:=h2,same:=λ_ _ _ _=>rfl,tick:= .inl rfl,used:=iv _}
theorem I7(h:Ty l ro G)(hL:kY ro a r)(hr:r.dq v)(hv:Ec l ro G.ts.length r x)(he:O'.how=6→O'.err≠0)(hg:0≤O'.got∧O'.got<G.ts.length)(hl:O'.how=0∨O'.how=2→BM l ro G.ts.length v d O'∧O'.kind=O.kind)
  (h1:O.kind=2→(O'.how=0∧O.next≤17∧O'.next≤18)∨(O'.how=2∧O.next=18)∨(O'.how=3∧O.next=16)∨((O'.how=1∨O'.how=5)∧O.next=19)) (h2:O.kind≠2→O'.how=0∨O'.how=1∨(O'.how=3∧O.kind=1)∨(O'.how=4∧O.kind=0)∨(O'.how=6∧O.kind=0)):
  OpR l ro ro G wk v d O (O',(G.M.tick wk).put a x):=
 {ty:=h.put ⟨rfl,rfl,bc⟩ hL hv,ext:=⟨[],bc,bc⟩,err:=he,got:=hg,live:=hl,how:=h1,aiB:=h2,same:=h.aoL rfl hL hr,tick:= .inr rfl,used:=by simp}
theorem amH{o:Int}(h:Ty l ro G)(hL:kY ro a r)(hr:r.dq v)(hv:Ec l ro G.ts.length r x)(he:O'.how=6→O'.err≠0)(hg:0≤O'.got∧O'.got<G.ts.length)(hl:O'.how=0∨O'.how=2→BM l ro G.ts.length v d O'∧O'.kind=O.kind)
  (h1:O.kind=2→(O'.how=0∧O.next≤17∧O'.next≤18)∨(O'.how=2∧O.next=18)∨(O'.how=3∧O.next=16)∨((O'.how=1∨O'.how=5)∧O.next=19)) (h2:O.kind≠2→O'.how=0∨O'.how=1∨(O'.how=3∧O.kind=1)∨(O'.how=4∧O.kind=0)∨(O'.how=6∧O.kind=0)):
  OpR l ro ro G wk v d O (O',(G.M.cs wk a o x).1):=by
 unfold bK.cs;split
 ·exact I7 h hL hr hv he hg hl h1 h2
 ·exact qF h he hg hl h1 h2
def L8(v g n:Nat):List Ro:=(List.range n).map λk=> .rg v g k
theorem Ty.akY{m:List Ro}{n:Int}(h:Ty l ro G)(hn:0≤n)(hm:m.length=n.toNat)(hr:G.M.room n=true)(hz:∀r∈m,Ec l (ro++m) G.ts.length r 0):Ty l (ro++m) (G.mem ((G.M.tick wk).grow n)):=by
 have hr:n≤G.M.size - G.M.cells.length:=by unfold bK.room at hr;simpa using hr
 have hlen:(((G.M.tick wk).grow n).cells.length:Int)=G.M.cells.length+n:=Su (M:=G.M.tick wk) hn;refine{h with len:=by rw[tV,hm,h.len];show _=((G.M.tick wk).grow n).cells.length;omega,ok:=⟨h.ok.size,by show(((G.M.tick wk).grow n).cells.length:Int)≤G.M.size;omega⟩,stp:=by show((G.M.tick wk).grow n).steps.length=_;simp[h.stp],val:=λa r hL=> ?_,told:=h.told.qG,idle:=h.idle.qG,Xb:=h.Xb.qG,PE:=h.PE.qG,sc:=λs x hs=> ?_,tk:=λx t ht=> ?_,cnt:=by show 2*G.C.length+3*G.ts.length≤((G.M.tick wk).grow n).cells.length;have:=h.cnt;omega}
 ·show Ec l (ro++m) G.ts.length r (((G.M.tick wk).grow n).get a);rcases hL.old with h1|⟨k,h1,h2⟩
  ·have:=h1.lt;rw[h.len]at this;rw[xx (M:=G.M.tick wk) h1.1 this,tA];exact(h.val a r h1).qG (iv _)
  ·rw[Xc (by show(G.M.cells.length:Int)≤a;rw[←h.len];omega)]
   exact hz r (q6 h1)
 ·have:=h.sc s x hs;exact{this with a:=this.a.qG,b:=this.b.qG}
 ·have:=h.tk x t ht;exact{this with k:=this.k.qG,v:=this.v.qG,w:=this.w.qG}
theorem aiE(Tx:0≤l.log∧l.log≤8)(h:Ty l ro G)(hd:ZN ro v d)(hc:G.M.caller wk=true)(hO:BM l ro G.ts.length v d O):∃iP,OpR l ro iP G wk v d O (O.step G.M wk):=by
 have hR:=h.rdy hd hc hO.at_;have agi:=h.ring hd;have hx:=hO.x;have hg:=hO.got;have hb:=h.val _ _ hd.bot;have ht:=h.val _ _ hd.top;have CP:=hO.how;have aFO:∃m,ro=ro++m∧∀s∈m,s.dq v:=⟨[],bc,bc⟩;rcases hO.phase with e|e|e|e|e|e|e|e|e|e|e|e|e|e|e|e|e|e|e|e
 ·have hw:O.how=0:=by rw[CP,e];rfl
  refine⟨ro,?_⟩;rw[st0 hR hw e];refine qF h bc hg (λ_=>⟨{hO with b:=hb,nx:=by simp,how:=rfl,rg:=by simp,c2:=λ_=>hO.c2 ah,l3:=by simp,c4:=by simp,to:=by simp},by simp[bp.kind,e]⟩) (by simp[bp.kind,e]) bc
 ·have hw:O.how=0:=by rw[CP,e];rfl
  refine⟨ro,?_⟩;rw[st1 hR hw e];refine qF h bc hg (λ_=>⟨{hO with t:=ht,nx:=by simp,how:=rfl,rg:=by simp,c2:=λ_=>hO.c2 ah,l3:=by simp,c4:=by simp,to:=by simp},by simp[bp.kind,e]⟩) (by simp[bp.kind,e]) bc
 ·have hw:O.how=0:=by rw[CP,e];rfl
  refine⟨ro,?_⟩;rw[X8 hR hw e];have hk:O.kind=0:=by simp[bp.kind,e]
  split
  ·refine qF h bc hg (λ_=>⟨{hO with nx:=by simp,how:=rfl,rg:=λ_=>agi,c2:=by simp,l3:=by simp,c4:=by simp,to:=by simp},by rw[hk];simp[bp.kind]⟩) (by simp[hk]) bc
  split
  ·refine qF h bc hg bc (by simp[hk]) (by simp[hk])
  ·rename_i hlt;refine qF h bc hg (λ_=>⟨{hO with nx:=by simp,how:=rfl,rg:=λ_=>agi,c2:=λ_=>hO.c2 ah,l3:=λ_=>by show(pY G.M d).CS< _;have:=hO.most;omega,c4:=by simp,to:=by simp},by rw[hk];simp[bp.kind]⟩) (by simp[hk]) bc
 ·have hw:O.how=0:=by rw[CP,e];rfl
  have hk:O.kind=0:=by simp[bp.kind,e]
  have G7:=hO.rg ah;have hl3:=hO.l3 e;have aFP:=(aoJ G7.right).1;have aFQ:O.lg=O.ring.CS+1:=by unfold bp.lg;exact cT ⟨ah,ah⟩
  rw[st3 hR hw e ah hc];have Fw:0≤O.LV:=Int.natCast_nonneg _;split
  ·rename_i hroom;have aDy:O.LV≤G.M.size - G.M.cells.length:=by unfold bK.room at hroom;simpa using hroom
   have hty:=h.akY (wk:=wk) (m:=L8 v O.lg.toNat O.LV.toNat) Fw (by simp[L8]) hroom (λr hr=>by
    obtain⟨k,_,rfl⟩:=List.mem_map.1 hr;exact⟨ah,by have:=h.t1;omega⟩)
   have aym:∃m,ro++L8 v O.lg.toNat O.LV.toNat=ro++m∧∀s∈m,s.dq v:=⟨_,rfl,λs hs=>by obtain⟨k,_,rfl⟩:=List.mem_map.1 hs;rfl⟩
   have hto:ZL l (ro++L8 v O.lg.toNat O.LV.toNat) v (O.LU G.M):=by
    have X0:((O.LU G.M).pw:Int)=O.LV:=by unfold Rg.pw bp.LU bp.LV;rfl
    refine⟨?_,by show O.lg≤_;omega,λk hk'=> ?_⟩
    ·unfold Rg.right;simp only[decide_eq_true_eq];have:=h.ok.size;rw[X0];show 0≤O.lg∧O.lg≤8∧0≤((G.M.cells.length:Nat):Int)∧((G.M.cells.length:Nat):Int)≤1048576 - O.LV;omega
    ·refine kY.new (k:=k) ?_ (by show((G.M.cells.length:Nat):Int)+k=_;rw[h.len];omega)
     unfold L8;rw[pz,List.getElem?_range ah];rfl
   have hsame:∀a s,kY ro a s→¬s.dq v→((G.M.tick wk).grow O.LV).get a=G.M.get a:=λa s hs _=>by
    have:=hs.lt;rw[h.len]at this;rw[xx (M:=G.M.tick wk) hs.1 this,tA]
   have atT:G.M.cells.length≤((G.M.tick wk).grow O.LV).cells.length:=by have:=Su (M:=G.M.tick wk) Fw;simp only[RO]at this;omega
   split
   ·refine⟨_,{ty:=hty,ext:=aym,err:=by simp,got:=hg,live:=λ_=>⟨?_,by rw[hk];simp[bp.kind]⟩,how:=by simp[hk],aiB:=by simp,same:=hsame,tick:= .inr rfl,used:=atT}⟩
    exact{hO.imp (m:=L8 v O.lg.toNat O.LV.toNat) (iv _)with nx:=by simp,how:=rfl,rg:=λ_=>G7.qG,c2:=by simp,l3:=by simp,c4:=λ_=>⟨_,rfl,rfl,rfl,by show(0:Int)≤0;omega,by show(0:Int)< _;have:=h.t1;omega⟩,to:=λ_=>hto}
   ·rename_i hbe;exact⟨_,{ty:=hty,ext:=aym,err:=λ_=>hbe,got:=hg,live:=by simp,how:=by simp[hk],aiB:=by simp[hk],same:=hsame,tick:= .inr rfl,used:=atT}⟩
  ·exact⟨ro,aem h bc hg bc (by simp[hk]) (by simp[hk])⟩
 ·have hw:O.how=0:=by rw[CP,e];rfl
  have hk:O.kind=0:=by simp[bp.kind,e]
  obtain⟨c,hcc,hca,hcb,hc0,GJ⟩:=hO.c4 e;have G7:=hO.rg ah;have hto:=hO.to (.inl e);have aAm:∃r,kY ro c.spot r∧r.dq v∧(∀x:Int,0≤x∧x<G.ts.length→Ec l ro G.ts.length r x)∧(Ec l ro G.ts.length r (G.M.get c.spot)→0≤G.M.get c.spot∧G.M.get c.spot<G.ts.length):=by
   unfold Cp.spot;split
   ·rw[hcb];exact⟨_,hto.place _,rfl,λx hx=>hx,λq=>q⟩
   ·rw[hca];exact⟨_,G7.place _,rfl,λx hx=>hx,λq=>q⟩
  obtain⟨r,hs1,Im,Uu,hs4⟩:=aAm;have hv:=hs4 (h.val _ _ hs1);refine⟨ro,?_⟩;rw[st4 hw e hcc (hs1.can h.len hc)];split
  ·exact aem h bc hg (λ_=>⟨{hO with nx:=by simp,how:=rfl,rg:=λ_=>G7,c2:=by simp,l3:=by simp,c4:=by simp,to:=λ_=>hto},by rw[hk];simp[bp.kind]⟩) (by simp[hk]) bc
  split
  ·rename_i hld;have X4:(c.next 0).a=c.a∧(c.next 0).b=c.b∧(c.next 0).has=c.has:=by unfold Cp.next;rw[if_pos hld];exact⟨rfl,rfl,rfl⟩
   refine I7 h hs1 Im (Uu _ ⟨hc0,GJ⟩) bc hg (λ_=>⟨?_,by rw[hk];unfold bp.kind;dsimp only;split<;>simp⟩) (by simp[hk]) bc
   exact{hO with nx:=by dsimp only;split<;>omega,how:=by dsimp only;split<;>rfl,rg:=λ_=>G7,c2:=λq=>by dsimp only at q;split at q<;>omega,l3:=λq=>by dsimp only at q;split at q<;>omega,c4:=λ_=>⟨_,rfl,by rw[X4.1,hca],by rw[X4.2.1,hcb],by rw[X4.2.2];exact hc0,by rw[X4.2.2];exact GJ⟩,to:=λ_=>hto}
  ·rename_i hld;have X4:(c.next (G.M.get c.spot)).a=c.a∧(c.next (G.M.get c.spot)).b=c.b∧(c.next (G.M.get c.spot)).has=G.M.get c.spot:=by unfold Cp.next;rw[if_neg hld];exact⟨rfl,rfl,rfl⟩
   refine qF h bc hg (λ_=>⟨?_,by rw[hk];simp[bp.kind,e]⟩) (by simp[hk]) bc
   exact{hO with how:=by dsimp only;rw[e];rfl,rg:=λ_=>G7,c2:=λq=>by dsimp only at q;omega,c4:=λ_=>⟨_,rfl,by rw[X4.1,hca],by rw[X4.2.1,hcb],by rw[X4.2.2];exact hv.1,by rw[X4.2.2];exact hv.2⟩}
 ·have hw:O.how=0:=by rw[CP,e];rfl
  have hk:O.kind=0:=by simp[bp.kind,e]
  have hto:=hO.to (.inr e);refine⟨ro,?_⟩;rw[st5 hR hw e];exact I7 h hd.Vf rfl ⟨_,rfl,hto⟩ bc hg (λ_=>⟨{hO with nx:=by simp,how:=rfl,rg:=λ_=>hto,c2:=by simp,l3:=by simp,c4:=by simp,to:=by simp},by rw[hk];simp[bp.kind]⟩) (by simp[hk]) bc
 ·have hw:O.how=0:=by rw[CP,e];rfl
  have hk:O.kind=0:=by simp[bp.kind,e]
  have G7:=hO.rg ah;refine⟨ro,?_⟩;rw[st6 hw e ((G7.place _).can h.len hc)];exact I7 h (G7.place _) rfl hx bc hg (λ_=>⟨{hO with nx:=by simp,how:=rfl,rg:=λ_=>G7,c2:=by simp,l3:=by simp,c4:=by simp,to:=by simp},by rw[hk];simp[bp.kind]⟩) (by simp[hk]) bc
 ·have hw:O.how=0:=by rw[CP,e];rfl
  have hk:O.kind=0:=by simp[bp.kind,e]
  refine⟨ro,?_⟩;rw[st7 hR hw e];exact I7 h hd.bot rfl (agh _) bc hg bc (by simp[hk]) bc
 ·have hw:O.how=0:=by rw[CP,e];rfl
  have hk:O.kind=1:=by simp[bp.kind,e]
  refine⟨ro,?_⟩;rw[st8 hR hw e];exact qF h bc hg (λ_=>⟨{hO with b:=hb,nx:=by simp,how:=rfl,rg:=by simp,c2:=by simp,l3:=by simp,c4:=by simp,to:=by simp},by rw[hk];simp[bp.kind]⟩) (by simp[hk]) bc
 ·have hw:O.how=0:=by rw[CP,e];rfl
  have hk:O.kind=1:=by simp[bp.kind,e]
  refine⟨ro,?_⟩;rw[st9 hR hw e];exact qF h bc hg (λ_=>⟨{hO with nx:=by simp,how:=rfl,rg:=λ_=>agi,c2:=by simp,l3:=by simp,c4:=by simp,to:=by simp},by rw[hk];simp[bp.kind]⟩) (by simp[hk]) bc
 ·have hw:O.how=0:=by rw[CP,e];rfl
  have hk:O.kind=1:=by simp[bp.kind,e]
  have G7:=hO.rg ah;refine⟨ro,?_⟩;rw[aCR hR hw e];exact I7 h hd.bot rfl (agh _) bc hg (λ_=>⟨{hO with nx:=by simp,how:=rfl,rg:=λ_=>G7,c2:=by simp,l3:=by simp,c4:=by simp,to:=by simp},by rw[hk];simp[bp.kind]⟩) (by simp[hk]) bc
 ·have hw:O.how=0:=by rw[CP,e];rfl
  have hk:O.kind=1:=by simp[bp.kind,e]
  have G7:=hO.rg ah;refine⟨ro,?_⟩;rw[aCS hR hw e];refine qF h bc hg (λ_=>⟨?_,by rw[hk];unfold bp.kind;dsimp only;split<;>simp⟩) (by simp[hk]) bc
  exact{hO with t:=ht,nx:=by dsimp only;split<;>omega,how:=by dsimp only;split<;>rfl,rg:=λ_=>G7,c2:=λq=>by dsimp only at q;split at q<;>omega,l3:=λq=>by dsimp only at q;split at q<;>omega,c4:=λq=>by dsimp only at q;split at q<;>omega,to:=λq=>by dsimp only at q;split at q<;>omega}
 ·have hw:O.how=0:=by rw[CP,e];rfl
  have hk:O.kind=1:=by simp[bp.kind,e]
  have G7:=hO.rg ah;have hv:=h.val _ _ (G7.place (wr (O.b - 1)));refine⟨ro,?_⟩;rw[aCT hw e ((G7.place _).can h.len hc)];refine qF h (by dsimp only;split<;>simp) hv (λq=>⟨?_,by rw[hk];simp[bp.kind]⟩) (by simp[hk]) (by dsimp only;intro _;split<;>simp)
  exact{hO with got:=hv,nx:=by simp,how:=by dsimp only at q ⊢;split<;>simp_all,rg:=λ_=>G7,c2:=by simp,l3:=by simp,c4:=by simp,to:=by simp}
 ·have hw:O.how=0:=by rw[CP,e];rfl
  have hk:O.kind=1:=by simp[bp.kind,e]
  refine⟨ro,?_⟩;rw[aCU hR hw e];exact amH h hd.top rfl (agh _) bc hg (λ_=>⟨{hO with nx:=by simp,how:=rfl,rg:=by simp,c2:=by simp,l3:=by simp,c4:=by simp,to:=by simp},by rw[hk];simp[bp.kind]⟩) (by simp[hk]) bc
 ·have hw:O.how=0:=by rw[CP,e];rfl
  have hk:O.kind=1:=by simp[bp.kind,e]
  refine⟨ro,?_⟩;rw[aCV hR hw e];exact I7 h hd.bot rfl hO.b (by dsimp only;split<;>simp) hg (λq=>by dsimp only at q;split at q<;>simp at q) (by simp[hk]) (by dsimp only;intro _;split<;>simp[hk])
 ·have hw:O.how=0:=by rw[CP,e];rfl
  have hk:O.kind=2:=by simp[bp.kind,e]
  refine⟨ro,?_⟩;rw[aCW hR hw e];exact qF h bc hg (λ_=>⟨{hO with t:=ht,nx:=by simp,how:=rfl,rg:=by simp,c2:=by simp,l3:=by simp,c4:=by simp,to:=by simp},by rw[hk];simp[bp.kind]⟩) (by simp[e]) bc
 ·have hw:O.how=0:=by rw[CP,e];rfl
  have hk:O.kind=2:=by simp[bp.kind,e]
  refine⟨ro,?_⟩;rw[aCX hR hw e];refine qF h (by dsimp only;split<;>simp) hg (λq=>⟨?_,by rw[hk];simp[bp.kind]⟩) (by dsimp only;intro _;split<;>simp[e]) (by simp[hk])
  exact{hO with b:=hb,nx:=by simp,how:=by dsimp only at q ⊢;split<;>simp_all,rg:=by simp,c2:=by simp,l3:=by simp,c4:=by simp,to:=by simp}
 ·have hw:O.how=0:=by rw[CP,e];rfl
  have hk:O.kind=2:=by simp[bp.kind,e]
  refine⟨ro,?_⟩;rw[aCY hR hw e];exact qF h bc hg (λ_=>⟨{hO with nx:=by simp,how:=rfl,rg:=λ_=>agi,c2:=by simp,l3:=by simp,c4:=by simp,to:=by simp},by rw[hk];simp[bp.kind]⟩) (by simp[e]) bc
 ·have hw:O.how=0:=by rw[CP,e];rfl
  have hk:O.kind=2:=by simp[bp.kind,e]
  have G7:=hO.rg ah;have hv:=h.val _ _ (G7.place O.t);refine⟨ro,?_⟩;rw[aCZ hw e ((G7.place _).can h.len hc)];exact qF h bc hv (λ_=>⟨{hO with got:=hv,nx:=by simp,how:=rfl,rg:=λ_=>G7,c2:=by simp,l3:=by simp,c4:=by simp,to:=by simp},by rw[hk];simp[bp.kind]⟩) (by simp[e]) (by simp[hk])
 ·have hw:O.how=2:=by rw[CP,e];rfl
  have hk:O.kind=2:=by simp[bp.kind,e]
  refine⟨ro,?_⟩;rw[stK hR hw e];refine amH h hd.top rfl (agh _) (by dsimp only;split<;>simp) hg (λq=>by dsimp only at q;split at q<;>simp at q) (by dsimp only;intro _;split<;>simp[e]) (by simp[hk])
end
open Ck (pV)
def Gl.K(G:Gl)(x:Nat):Int:=G.M.get (G.tk x).jC
def Gl.V(G:Gl)(x:Nat):Int:=G.M.get ((G.tk x).jC+1)
inductive Oq (C:List Nd):Int→Int→Prop
 |refl {s:Int}:0≤s→s<C.length→Oq C s s
 |up {s a:Int} {x:Nd}:oc C s=some x→Oq C x.parent a→Oq C s a
def Vh(G:Gl)(s:Int):Prop:=∃x,oc G.C s=some x∧G.M.get x.at_≠0
def RQ(G:Gl)(t:Tk):Prop:=∃a,Oq G.C t.lX a∧Vh G a
abbrev HK(P:List dH)(t:Tk):Int:=(bu P t.f).getD 0 0
abbrev hand(P:List dH)(t:Tk):Int:=t.f.getD (10+(GA (bu P t.f)).toNat) 0
structure Bs (P:List dH) (n:Nat) (t:Tk):Prop where
 fi:FI P (λy=>0≤y∧y<n) t.f t.cD.length
 kind:t.kind=0
structure Ends (t:Tk):Prop where
 k2:2≤t.kind
 k4:t.kind≤4
structure NZ (P:List dH) (n:Nat) (t:Tk):Prop where
 fi:FI P (λy=>0≤y∧y<n) t.f 1
 cD:t.cD=[]
 cl:t.gF=ByteArray.mk #[]
 sc:t.scopes=[t.own]
 kind:t.kind=0
 st:t.f.getD 18 0=0
def qW(P:List dH)(n:Nat)(t:Tk):Kn→Prop
 | .m .next=>Bs P n t
 | .aw y=>Bs P n t∧(HK P t=9∨HK P t=10)∧hand P t=(y:Nat)∧y<n
 | .sh (.c .BW)=>Bs P n t∧HK P t=12
 | .sh (.c .qw)=>Ends t∧t.cD≠ []
 |_=>False
def Ed(P:List dH)(G:Gl)(s:List Nat)(k:Kn):Prop:=match s with
 |[]=>k= .m .rest
 |x::_=>qW P G.ts.length (G.tk x) k
def Kb(P:List dH)(G:Gl):List Nat→List Kn→Prop
 |[],[]=>True
 |x::s,k::b=>x<G.ts.length∧Ed P G s k∧Kb P G s b
 |_,_=>False
structure q4 (P:List dH) (G:Gl) (W:Wk):Prop where
 ne:W.stack≠ []
 hm:qW P G.ts.length (G.tk (W.stack.headD 0)) W.again
 tg:match W.again with
  | .aw y=>W.target=some y
  | .sh k=>W.target=none∧W.pT=k
  |_=>False
def yW:Kn→Bool| .aw _=>true|_=>false
def RR:Kn→Bool| .sh _=>true|_=>false
structure CQ (l:Lc) (P:List dH) (G:Gl) (W:Wk):Prop where
 how:W.wait.how=1
 left:∀j∈W.left,0≤j∧j<l.wa.length∧j≠W.id
 what:(W.stack=[]∧W.fits= .any∧W.got= .c .Sj∧W.none_= .m .yJ)∨(q4 P G W∧W.fits= .hl ((W.stack.headD 0:Nat):Int) W.target∧W.got= .m .Bp∧W.none_= .m .nothing)
def SpT(o:jI):Prop:=o.next≤6∧o.self<16∧(o.next=6→0≤o.on∧o.on<65536)
def cy(l:Lc)(P:List dH)(bt:List Int)(ro:List Ro)(G:Gl)(W:Wk):Prop:=
 let x:=W.stack.headD 0
 let t:=G.tk x
 let n:=G.ts.length
 let i:=W.id.toNat
 let own:=fun(O:bp) (k:Nat)=>BM l ro n i W.dq O∧O.kind=k
 let thf:=fun(O:bp)=> ∃u,u<l.wa.length∧u≠i∧BM l ro n u (bt.getD u 0) O∧O.kind=2
 let top:=W.stack≠ []
 match W.cM with
 | .m .rest=>W.stack=[]
 | .m .pn=> ∃O,W.op=some O∧(match W.after with
  | .c .FA=>W.stack=[]∧W.wait.how=1∧own O 1
  | .c .tP=>top∧Bs P n t∧(0≤W.jk∧W.jk<n)∧own O 0
  | .c .sH=>q4 P G W∧(yW W.again=true→W.dA= .m .vu∧W.wait.how=1)∧(RR W.again=true→W.dA= .c .Cs)∧own O 1
  | .m .Tv=>CQ l P G W∧thf O∧O.next≤18
  | .m .Aj=>CQ l P G W∧thf O∧O.next=19
  |_=>False)
 | .m .looking=> ∃k,W.look=some k∧k.done=false∧(0≤k.at_∧k.at_<G.C.length)∧Oq G.C t.lX k.at_∧top∧(match W.seen with
  | .nx i=>Bs P n t∧i=bu P t.f
  | .c .sI=>q4 P G W∧yW W.again=true∧W.wait.how=1
  | .c .wW=>Bs P n t
  |_=>False)
 | .m .tell=>Ed P G W.stack W.said
 | .m .others=>CQ l P G {W with left:=[]}
 | .m .wU=>W.stack=[]∧W.wait.how=1∧∃o,W.step=some o∧SpT o
 | .m .RD=>W.stack=[]∧W.wait.how=1
 | .m .IU=>W.stack=[]
 | .m .sU=>(0≤W.jk∧W.jk<n)∧Ed P G W.stack W.home
 | .m .start=>(0≤W.jk∧W.jk<n)∧Ed P G W.stack W.home∧NZ P n (G.tk W.jk.toNat)
 | .m .next=>top∧Bs P n t
 | .m .fork=>top∧Bs P n t∧HK P t=8
 | .m .wV=>top∧Bs P n t∧HK P t=8∧(0≤W.own∧W.own<G.C.length)
 | .m .sV=>top∧Bs P n t∧(0≤W.jk∧W.jk<n)
 | .m .join=>top∧Bs P n t∧(HK P t=9∨HK P t=10)
 | .m .cD=>top∧Bs P n t∧HK P t=11
 | .m .opens=>top∧Bs P n t∧HK P t=11
 | .m .close=>top∧Bs P n t∧HK P t=12
 | .m .gF=>top∧Bs P n t∧HK P t=12
 | .m .cancel=>top∧Bs P n t∧HK P t=13
 | .m .pass=>top∧Bs P n t∧HK P t=14
 | .m .leave=>top∧Bs P n t∧(HK P t=15∨HK P t=16)
 | .m .put=>top∧Ends t∧t.cD=[]
 | .m .fin=>top∧Ends t∧t.cD=[]
 | .m .asks=>top∧Ends t∧t.cD=[]
 | .m .gone=>top∧Ends t∧t.cD=[]
 | .m .asked=>q4 P G W∧yW W.again=true∧W.wait.how=1
 | .m .joined=>q4 P G W∧yW W.again=true∧W.kind=G.K (W.target.getD 0)∧2≤W.kind
 | .m .tO=>q4 P G W∧(yW W.again=true→W.dA= .m .vu∧W.wait.how=1)∧(RR W.again=true→W.dA= .c .Cs)
 | .m .qV=>q4 P G W∧RR W.again=true
 | .m .rT=>q4 P G W∧RR W.again=true∧W.wait.how=1
 | .m .register=>q4 P G W∧yW W.again=true
 | .m .block=>q4 P G W∧∃o,W.step=some o∧SpT o
 | .m .HJ=>q4 P G W
 | .m .stops=>q4 P G W∧(W.blocked=true→∀o,W.step=some o→SpT o)∧(match W.po with
  | .m .cancelled=>yW W.again=true∧RQ G t
  | .U7 y k=>y<n∧k=W.again
  | .Bq y k=>(0≤y∧y<n)∧k=W.again
  | .c .HY=>yW W.again=true∧W.kind=G.K (W.target.getD 0)∧2≤W.kind
  | .c .BW=>W.again= .sh (.c .BW)
  | .c .qw=>W.again= .sh (.c .qw)
  |_=>False)
 | .aw y=>top∧qW P n t (.aw y)
 | .sh k=>top∧qW P n t (.sh k)
 |_=>False
def Wk.waits(W:Wk):Bool:=match W.cM with
 | .m .pn=>(match W.after with| .c .sH=>true| .m .Tv=>decide (W.none_= .m .nothing)| .m .Aj=>decide (W.none_= .m .nothing)|_=>false)
 | .m .looking=>(match W.seen with| .c .sI=>true|_=>false)
 | .m .others=>decide (W.none_= .m .nothing)
 | .m .asked=>true
 | .m .tO=>true
 | .m .qV=>true
 | .m .rT=>true
 | .m .register=>true
 | .m .block=>true
 | .m .HJ=>true
 | .m .stops=>true
 | .aw _=>true
 | .sh _=>true
 |_=>false
structure Ee (W:Wk):Prop where
 no:W.waits=false→W.bH=false∧W.blocked=false
 RS:W.bH=true→yW W.again=true
 ag:W.bH=true∨W.blocked=true→(yW W.cM=true∨RR W.cM=true)→W.again=W.cM
def Wk.hold(W:Wk):List Nat:=(if W.cM= .m .start then [W.jk.toNat]else [])++W.stack
structure WT (l:Lc) (P:List dH) (bt:List Int) (ro:List Ro) (G:Gl) (i:Nat) (W:Wk):Prop where
 id:W.id=i
 lt:i<l.wa.length
 dq:W.dq=bt.getD i 0
 bk:Kb P G W.stack W.back
 dp:(W.stack.length:Int)≤l.deep
 hl:∀x∈W.hold,x<G.ts.length
 ct:G.err=0→cy l P bt ro G W
 fl:G.err=0→Ee W
 run:∀x∈W.hold,G.K x=1∨(2≤G.K x∧W.stack.head?=some x∧(W.cM= .m .asks∨W.cM= .m .gone))
 nd:W.hold.Nodup
structure ur (ro iP:List Ro) (G G':Gl) (hold:List Nat):Prop where
 ext:∃m,iP=ro++m
 n:G.ts.length≤G'.ts.length
 ts:∀x,x<G.ts.length→x ∉ hold→G'.ts[x]?=G.ts[x]?
 ids:∀x,x<G.ts.length→(G'.tk x).lX=(G.tk x).lX∧(G'.tk x).own=(G.tk x).own∧(G'.tk x).jC=(G.tk x).jC
 C:∃m,G'.C=G.C++m
 K0:∀x,x<G.ts.length→G'.K x=0→G.K x=0
 K1:∀x,x<G.ts.length→x ∉ hold→1≤G.K x→G'.K x=G.K x∧G'.V x=G.V x
 K2:∀x,x<G.ts.length→2≤G.K x→G'.K x=G.K x∧G'.V x=G.V x
 ask:∀s,Vh G s→Vh G' s
section
variable {l:Lc} {P:List dH} {bt:List Int} {ro iP ro2:List Ro} {G G' G2:Gl} {hold:List Nat} {W:Wk} {t:Tk} {n n' i:Nat} {s a:Int} {k:Kn}
theorem Oq.qG{m:List Nd}(h:Oq G.C s a)(hC:G'.C=G.C++m):Oq G'.C s a:=by
 rw[hC];induction h with
 |refl h0 h1=>exact .refl h0 (by simp;omega)
 |up h0 _ ih=>
  refine .up ?_ ih;obtain⟨_,h1,h2⟩:=sj h0;unfold oc;rw[if_pos h1,sZ (kJ.1 h2).1,h2]
theorem ur.tk(h:ur ro iP G G' hold){x:Nat}(hx:x<G.ts.length)(hn:x ∉ hold):G'.tk x=G.tk x:=by
 unfold Gl.tk;rw[h.ts x hx hn]
theorem Bs.imp(h:Bs P n t)(hn:n≤n'):Bs P n' t:=⟨h.fi.imp λy hy=>⟨hy.1,ah⟩,h.kind⟩
theorem NZ.imp(h:NZ P n t)(hn:n≤n'):NZ P n' t:={h with fi:=h.fi.imp λy hy=>⟨hy.1,ah⟩}
theorem qW.imp(h:qW P n t k)(hn:n≤n'):qW P n' t k:=by
 unfold qW at h ⊢;split at h
 ·exact h.imp hn
 ·exact⟨h.1.imp hn,h.2.1,h.2.2.1,ah⟩
 ·exact⟨h.1.imp hn,h.2⟩
 ·exact h
 ·exact h.elim
theorem RQ.imp(h:RQ G t)(he:ur ro iP G G' hold)(ht:∃x,x<G.ts.length∧G.tk x=t):RQ G' t:=by
 obtain⟨b,h1,h2⟩:=h;obtain⟨m,hm⟩:=he.C;exact⟨b,h1.qG hm,he.ask b h2⟩
theorem Ed.imp{st:List Nat}(h:Ed P G st k)(he:ur ro iP G G' hold)(hs:∀x∈st,x<G.ts.length∧x ∉ hold):Ed P G' st k:=by
 cases st with
 |nil=>exact h
 |cons x st=>
  have h:qW P G.ts.length (G.tk x) k:=h;have hx:=hs x bc;show qW P G'.ts.length (G'.tk x) k;rw[he.tk hx.1 hx.2];exact h.imp he.n
theorem Kb.imp(he:ur ro iP G G' hold):∀{st:List Nat} {b:List Kn},Kb P G st b→(∀x∈st,x<G.ts.length∧x ∉ hold)→Kb P G' st b
 |[],[],_,_=>trivial
 |[],_::_,h,_=>h.elim
 |_::_,[],h,_=>h.elim
 |x::st,k::b,⟨h1,h2,h3⟩,hs=>⟨by have:=he.n;omega,h2.imp he λy hy=>hs y (by simp[hy]),Kb.imp he h3 λy hy=>hs y (by simp[hy])⟩
theorem q4.imp(h:q4 P G W)(he:ur ro iP G G' hold)(hs:∀x∈W.stack,x<G.ts.length∧x ∉ hold):q4 P G' W:=by
 obtain⟨h1,h2,h3⟩:=h;refine⟨h1,?_,h3⟩;obtain⟨x,st,e⟩:=List.exists_cons_of_ne_nil h1;rw[e]at h2 ⊢;have hx:=hs x (by rw[e];simp)
 show qW P G'.ts.length (G'.tk x) W.again;rw[he.tk hx.1 hx.2];exact qW.imp h2 he.n
theorem CQ.imp(h:CQ l P G W)(he:ur ro iP G G' hold)(hs:∀x∈W.stack,x<G.ts.length∧x ∉ hold):CQ l P G' W:=
 ⟨h.how,h.left,h.what.imp id λq=>⟨q.1.imp he hs,q.2⟩⟩
theorem cy.imp(h:cy l P bt ro G W)(he:ur ro iP G G' hold)(hs:∀x∈W.hold,x<G.ts.length∧x ∉ hold):cy l P bt iP G' W:=by
 have hst:∀x∈W.stack,x<G.ts.length∧x ∉ hold:=λx hx=>hs x (by unfold Wk.hold;simp[hx])
 have CR:W.stack≠ []→G'.tk (W.stack.headD 0)=G.tk (W.stack.headD 0)∧W.stack.headD 0<G.ts.length:=λhne=>by
  obtain⟨x,st,e⟩:=List.exists_cons_of_ne_nil hne;have hx:=hst x (by rw[e];simp)
  rw[e];exact⟨he.tk hx.1 hx.2,hx.1⟩
 have hn:=he.n;obtain⟨m,hm⟩:=he.ext;obtain⟨mC,hC⟩:=he.C;have hCl:G.C.length≤G'.C.length:=by rw[hC];simp
 have RT:=fun(q:q4 P G W)=>q.imp he hst;have hSe:=fun(q:CQ l P G W)=>q.imp he hst;have hOp:∀{u:Nat} {d:Int} {O:bp},BM l ro G.ts.length u d O→BM l iP G'.ts.length u d O:=λq=>by rw[hm];exact q.imp hn
 have hKy:∀{y:Nat},y<G.ts.length→2≤G.K y→G'.K y=G.K y:=λh1 h2=>(he.K2 _ h1 h2).1;have hTg:q4 P G W→yW W.again=true→W.target.getD 0<G.ts.length:=λq r=>by
  obtain⟨h1,h2,h3⟩:=q;revert h2 h3 r;cases W.again<;>intro r h2 h3<;>first|exact h3.elim|cases r|skip
  rename_i y;rw[h3];exact h2.2.2.2
 have I8:W.stack≠ []→Bs P G.ts.length (G.tk (W.stack.headD 0))→Bs P G'.ts.length (G'.tk (W.stack.headD 0)):=λa b=>by rw[(CR a).1];exact b.imp hn
 unfold cy at h ⊢;dsimp only at h ⊢;split at h
 ·exact h
 ·obtain⟨O,h1,h2⟩:=h;refine⟨O,h1,?_⟩;split at h2
  ·exact⟨h2.1,h2.2.1,hOp h2.2.2.1,h2.2.2.2⟩
  ·exact⟨h2.1,I8 h2.1 h2.2.1,⟨h2.2.2.1.1,by have:=h2.2.2.1.2;omega⟩,hOp h2.2.2.2.1,h2.2.2.2.2⟩
  ·exact⟨RT h2.1,h2.2.1,h2.2.2.1,hOp h2.2.2.2.1,h2.2.2.2.2⟩
  ·obtain⟨a1,⟨u,b1,b2,b3,b4⟩,a3⟩:=h2;exact⟨hSe a1,⟨u,b1,b2,hOp b3,b4⟩,a3⟩
  ·obtain⟨a1,⟨u,b1,b2,b3,b4⟩,a3⟩:=h2;exact⟨hSe a1,⟨u,b1,b2,hOp b3,b4⟩,a3⟩
  ·exact h2.elim
 ·obtain⟨k,h1,h2,h3,h4,h5,h6⟩:=h;refine⟨k,h1,h2,⟨h3.1,ah⟩,?_,h5,?_⟩
  ·rw[(CR h5).1];exact h4.qG hC
  ·split at h6
   ·exact⟨I8 h5 h6.1,by rw[(CR h5).1];exact h6.2⟩
   ·exact⟨RT h6.1,h6.2⟩
   ·exact I8 h5 h6
   ·exact h6.elim
 ·exact Ed.imp h he hst
 ·exact CQ.imp (W:={W with left:=[]}) h he hst
 ·exact h
 ·exact h
 ·exact h
 ·exact⟨⟨h.1.1,by have:=h.1.2;omega⟩,h.2.imp he hst⟩
 ·rename_i bN;have hc:=hs W.jk.toNat (by unfold Wk.hold;rw[if_pos bN];simp)
  exact⟨⟨h.1.1,by have:=h.1.2;omega⟩,h.2.1.imp he hst,by rw[he.tk hc.1 hc.2];exact h.2.2.imp hn⟩
 ·exact⟨h.1,I8 h.1 h.2⟩
 ·exact⟨h.1,I8 h.1 h.2.1,by rw[(CR h.1).1];exact h.2.2⟩
 ·exact⟨h.1,I8 h.1 h.2.1,by rw[(CR h.1).1];exact h.2.2.1,⟨h.2.2.2.1,by have:=h.2.2.2.2;omega⟩⟩
 ·exact⟨h.1,I8 h.1 h.2.1,⟨h.2.2.1,by have:=h.2.2.2;omega⟩⟩
 ·exact⟨h.1,I8 h.1 h.2.1,by rw[(CR h.1).1];exact h.2.2⟩
 ·exact⟨h.1,I8 h.1 h.2.1,by rw[(CR h.1).1];exact h.2.2⟩
 ·exact⟨h.1,I8 h.1 h.2.1,by rw[(CR h.1).1];exact h.2.2⟩
 ·exact⟨h.1,I8 h.1 h.2.1,by rw[(CR h.1).1];exact h.2.2⟩
 ·exact⟨h.1,I8 h.1 h.2.1,by rw[(CR h.1).1];exact h.2.2⟩
 ·exact⟨h.1,I8 h.1 h.2.1,by rw[(CR h.1).1];exact h.2.2⟩
 ·exact⟨h.1,I8 h.1 h.2.1,by rw[(CR h.1).1];exact h.2.2⟩
 ·exact⟨h.1,I8 h.1 h.2.1,by rw[(CR h.1).1];exact h.2.2⟩
 ·exact⟨h.1,by rw[(CR h.1).1];exact h.2⟩
 ·exact⟨h.1,by rw[(CR h.1).1];exact h.2⟩
 ·exact⟨h.1,by rw[(CR h.1).1];exact h.2⟩
 ·exact⟨h.1,by rw[(CR h.1).1];exact h.2⟩
 ·exact⟨RT h.1,h.2⟩
 ·exact⟨RT h.1,h.2.1,by rw[hKy (hTg h.1 h.2.1) (by rw[←h.2.2.1];exact h.2.2.2)];exact h.2.2.1,h.2.2.2⟩
 ·exact⟨RT h.1,h.2⟩
 ·exact⟨RT h.1,h.2⟩
 ·exact⟨RT h.1,h.2⟩
 ·exact⟨RT h.1,h.2⟩
 ·exact⟨RT h.1,h.2⟩
 ·exact RT h
 ·refine⟨RT h.1,h.2.1,?_⟩;have h3:=h.2.2;split at h3
  ·refine⟨h3.1,?_⟩;have ht:=CR h.1.ne;rw[ht.1];exact h3.2.imp he ⟨_,ht.2,rfl⟩
  ·exact⟨by have:=h3.1;omega,h3.2⟩
  ·exact⟨⟨h3.1.1,by have:=h3.1.2;omega⟩,h3.2⟩
  ·exact⟨h3.1,by rw[hKy (hTg h.1 h3.1) (by rw[←h3.2.1];exact h3.2.2)];exact h3.2.1,h3.2.2⟩
  ·exact h3
  ·exact h3
  ·exact h3.elim
 ·exact⟨h.1,by rw[(CR h.1).1];exact qW.imp h.2 hn⟩
 ·exact⟨h.1,by rw[(CR h.1).1];exact qW.imp h.2 hn⟩
 ·exact h.elim
theorem WT.imp(h:WT l P bt ro G i W)(he:ur ro iP G G' hold)(hs:∀x∈W.hold,x ∉ hold)(her:G'.err=0→G.err=0):WT l P bt iP G' i W:=by
 have hst:∀x∈W.stack,x<G.ts.length∧x ∉ hold:=λx hx=>⟨h.hl x (by unfold Wk.hold;simp[hx]),hs x (by unfold Wk.hold;simp[hx])⟩
 refine⟨h.id,h.lt,h.dq,h.bk.imp he hst,h.dp,λx hx=>by have:=h.hl x hx;have:=he.n;omega,λe=>(h.ct (her e)).imp he λx hx=>⟨h.hl x hx,hs x hx⟩,λe=>h.fl (her e),λx hx=> ?_,h.nd⟩
 have h1:=h.run x hx;have h2:=(he.K1 x (h.hl x hx) (hs x hx) (by rcases h1 with q|q<;>omega)).1
 rw[h2];exact h1
theorem ur.trans(h:ur ro iP G G' hold)(k:ur iP ro2 G' G2 hold)(hn:G'.ts.length=G.ts.length∨∀x,x∈hold→x<G.ts.length):ur ro ro2 G G2 hold:=by
 have h1:=h.n;have h2:=k.n;refine⟨?_,ah,λx hx hn=>by rw[k.ts x ah hn,h.ts x hx hn],λx hx=> ?_,?_,λx hx q=>h.K0 x hx (k.K0 x ah q),λx hx hn q=> ?_,λx hx q=> ?_,λs q=>k.ask s (h.ask s q)⟩
 ·obtain⟨m,e⟩:=h.ext;obtain⟨m2,e2⟩:=k.ext;exact⟨m++m2,by rw[e2,e,List.append_assoc]⟩
 ·have a:=h.ids x hx;have b:=k.ids x ah;rw[b.1,b.2.1,b.2.2];exact a
 ·obtain⟨m,e⟩:=h.C;obtain⟨m2,e2⟩:=k.C;exact⟨m++m2,by rw[e2,e,List.append_assoc]⟩
 ·have a:=h.K1 x hx hn q;have b:=k.K1 x ah hn (by rw[a.1];exact q)
  exact⟨by rw[b.1,a.1],by rw[b.2,a.2]⟩
 ·have a:=h.K2 x hx q;have b:=k.K2 x ah (by rw[a.1];exact q)
  exact⟨by rw[b.1,a.1],by rw[b.2,a.2]⟩
end
def Ro.Jj:Ro→Prop
 | .fk _=>True
 | .fv _=>True
 | .ask _=>True
 |_=>False
section
variable {l:Lc} {P:List dH} {bt:List Int} {ro iP:List Ro} {G G':Gl} {hold:List Nat} {W W':Wk} {t t':Tk} {n i x:Nat} {s a v:Int} {r:Ro}
theorem I9(h:Ty l ro G){nd:Nd}(hs:oc G.C s=some nd):kY ro nd.at_ (.ask s.toNat):=(h.sc _ _ (sj hs).2.2).a
theorem ach{m:List Ro}(h:Ty l ro G)(hx:iP=ro++m){mt:List Tk}(hts:G'.ts=G.ts++mt){mc:List Nd}(hC:G'.C=G.C++mc)(hg:∀a r,kY ro a r→r.Jj→G'.M.get a=G.M.get a):ur ro iP G G' hold:=by
 have NY:∀x,x<G.ts.length→G'.tk x=G.tk x:=λx hx=>by unfold Gl.tk;rw[hts,sZ hx]
 have hK:∀x,x<G.ts.length→G'.K x=G.K x∧G'.V x=G.V x:=λx hx=>by
  have ht:=h.pX hx;unfold Gl.K Gl.V;rw[NY x hx,hg _ _ ht.k trivial,hg _ _ ht.v trivial];exact⟨rfl,rfl⟩
 refine⟨⟨m,hx⟩,by rw[hts];simp,λx hx _=>by rw[hts,sZ hx],λx hx=>by rw[NY x hx];exact⟨rfl,rfl,rfl⟩,⟨mc,hC⟩,λx hx q=>by rw[←(hK x hx).1];exact q,λx hx _ _=>hK x hx,λx hx _=>hK x hx,λs ⟨nd,h1,h2⟩=> ?_⟩
 refine⟨nd,?_,by rw[hg _ _ (I9 h h1) trivial];exact h2⟩
 obtain⟨_,h3,h4⟩:=sj h1;unfold oc;rw[if_pos h3,hC,sZ (kJ.1 h4).1,h4]
theorem aci{M:bK}(h:Ty l ro G)(hg:∀a r,kY ro a r→r.Jj→M.get a=G.M.get a):ur ro ro G (G.mem M) hold:=ach (m:=[]) (mt:=[]) (mc:=[]) h bc (by simp[Gl.mem]) (by simp[Gl.mem]) hg
theorem aen(h:Ty l ro G){wk:Int}:ur ro ro G (G.tick wk) hold:=aci h λ_ _ _ _=>rfl
theorem xl{M:bK}(h:Ty l ro G)(hM:M.cells=G.M.cells)(hL:kY ro a r)(hr:¬r.Jj):∀b s,kY ro b s→s.Jj→(M.put a v).get b=G.M.get b:=λb s hb hs=>by
 have hne:b≠a:=hb.ne hL (by rintro rfl;exact hr hs)
 rw[RN hL.1 hb.1 hne];unfold bK.get;rw[hM]
theorem agj(h:Ty l ro G){wk y:Int}(hL:kY ro a r)(hr:¬r.Jj):ur ro ro G (G.mem (G.M.ad wk a y)) hold:=aci h (xl h rfl hL hr)
theorem aw8(hx:x<G.ts.length):(G.set x t').tk x=t':=by unfold Gl.tk Gl.set;dsimp only;rw[uu hx];rfl
theorem amI{y:Nat}(hn:y≠x):(G.set x t').tk y=G.tk y:=by unfold Gl.tk Gl.set;dsimp only;rw[rK (Ne.symm hn)]
theorem atW:(G.set x t').ts.length=G.ts.length:=by unfold Gl.set;simp
theorem acj(hx:x∈hold)(hl:x<G.ts.length)(h1:t'.lX=(G.tk x).lX)(h2:t'.own=(G.tk x).own)(h3:t'.jC=(G.tk x).jC):ur ro ro G (G.set x t') hold:=by
 have ids:∀y,y<G.ts.length→((G.set x t').tk y).lX=(G.tk y).lX∧((G.set x t').tk y).own=(G.tk y).own∧((G.set x t').tk y).jC=(G.tk y).jC:=λy hy=>by
  by_cases e:y=x
  ·subst e;rw[aw8 hl];exact⟨h1,h2,h3⟩
  ·rw[amI e];exact⟨rfl,rfl,rfl⟩
 have hK:∀y,y<G.ts.length→(G.set x t').K y=G.K y∧(G.set x t').V y=G.V y:=λy hy=>by unfold Gl.K Gl.V;rw[(ids y hy).2.2];exact⟨rfl,rfl⟩
 refine⟨⟨[],bc⟩,by rw[atW];exact iv _,λy hy hn=> ?_,ids,⟨[],by simp[Gl.set]⟩,λy hy q=>by rw[←(hK y hy).1];exact q,λy hy _ _=>hK y hy,λy hy _=>hK y hy,λs q=>q⟩
 have e:y≠x:=λe=>hn (e▸hx);unfold Gl.set;dsimp only;rw[rK (Ne.symm e)]
structure Cx (l:Lc) (P:List dH) (bt:List Int) (ro:List Ro) (G:Gl) (i:Nat) (W:Wk):Prop where
 lc:aej l
 lg:0≤l.log∧l.log≤8
 acc:pV P
 ty:Ty l ro G
 wt:WT l P bt ro G i W
 dq:∀v,v<l.wa.length→ZN ro v (bt.getD v 0)
 err:G.err=0
structure rG (l:Lc) (P:List dH) (bt:List Int) (ro iP:List Ro) (G:Gl) (i:Nat) (W:Wk) (r:SW):Prop where
 ty:Ty l iP r.1
 BO:ur ro iP G r.1 W.hold
 wt:WT l P bt iP r.1 i r.2
 hd:∀x∈r.2.hold,x∈W.hold∨(x<G.ts.length∧G.K x=0)
 fr:∀x,G.ts.length≤x→x<r.1.ts.length→NZ P r.1.ts.length (r.1.tk x)
theorem Cx.caller(c:Cx l P bt ro G i W):G.M.caller W.id=true:=I4 c.ty.stp (by rw[c.wt.id];omega) (by rw[c.wt.id];have:=c.wt.lt;omega)
theorem Cx.ct(c:Cx l P bt ro G i W):cy l P bt ro G W:=c.wt.ct c.err
theorem Cx.fl(c:Cx l P bt ro G i W):Ee W:=c.wt.fl c.err
theorem Cx.can(c:Cx l P bt ro G i W)(h:kY ro a r):G.M.can W.id a=true:=h.can c.ty.len c.caller
theorem Cx.own(c:Cx l P bt ro G i W):ZN ro i W.dq:=by rw[c.wt.dq];exact c.dq i c.wt.lt
theorem Cx.idn(c:Cx l P bt ro G i W):W.id.toNat=i:=by rw[c.wt.id];simp
theorem Cx.top(c:Cx l P bt ro G i W)(h:W.stack≠ []):GB G W (W.stack.headD 0) (G.tk (W.stack.headD 0))∧W.stack.headD 0<G.ts.length:=by
 obtain⟨x,st,e⟩:=List.exists_cons_of_ne_nil h;have hx:x<G.ts.length:=c.wt.hl x (by unfold Wk.hold;rw[e];simp)
 rw[e];exact⟨⟨by rw[e];rfl,G.Al hx⟩,hx⟩
theorem kG(h:W.cM≠ .m .start):W.hold=W.stack:=by unfold Wk.hold;rw[if_neg h];rfl
theorem ack{st:List Nat}{b:List Kn}(e:G'.ts=G.ts):Kb P G st b→Kb P G' st b:=by
 intro h;have hm:∀st k,Ed P G st k→Ed P G' st k:=λst k q=>by
  cases st with
  |nil=>exact q
  |cons y st=>show qW P G'.ts.length (G'.tk y) k;unfold Gl.tk;rw[e];exact q
 induction st generalizing b with
 |nil=>cases b<;>first|trivial|exact h.elim
 |cons y st ih=>
  cases b with
  |nil=>exact h.elim
  |cons k b=>exact⟨by rw[e];exact h.1,hm _ _ h.2.1,ih h.2.2⟩
theorem atX{st:List Nat}{b:List Kn}(hn:G.ts.length≤G'.ts.length)(e:∀y∈st,G'.tk y=G.tk y):Kb P G st b→Kb P G' st b:=by
 intro h;induction st generalizing b with
 |nil=>cases b<;>first|trivial|exact h.elim
 |cons y st ih=>
  cases b with
  |nil=>exact h.elim
  |cons k b=>
   refine⟨by have:=h.1;omega,?_,ih (λz hz=>e z (by simp[hz])) h.2.2⟩
   have h2:=h.2.1;cases st with
   |nil=>exact h2
   |cons z st=>
    have h2:qW P G.ts.length (G.tk z) k:=h2;show qW P G'.ts.length (G'.tk z) k;rw[e z bc];exact qW.imp h2 hn
theorem aw9{y:Nat}{st:List Nat}{b:List Kn}(hn:G.ts.length≤G'.ts.length)(e:∀z∈st,G'.tk z=G.tk z):Kb P G (y::st) b→Kb P G' (y::st) b:=by
 intro h;cases b with
 |nil=>exact h.elim
 |cons k b=>
  refine⟨by have:=h.1;omega,?_,atX hn e h.2.2⟩
  have h2:=h.2.1;cases st with
  |nil=>exact h2
  |cons z st=>
   have h2:qW P G.ts.length (G.tk z) k:=h2;show qW P G'.ts.length (G'.tk z) k;rw[e z bc];exact qW.imp h2 hn
theorem aeo{r:SW}(c:Cx l P bt ro G i W)(ty:Ty l iP r.1)(BO:ur ro iP G r.1 W.hold)(hst:r.2.stack=W.stack)(hbk:r.2.back=W.back)(vq:r.2.id=W.id)(hdq:r.2.dq=W.dq)
  (ux:W.cM≠ .m .start∧W.cM≠ .m .asks∧W.cM≠ .m .gone) (E7:r.2.cM≠ .m .start) (etk:∀y∈W.stack.tail,r.1.tk y=G.tk y) (hK:∀y∈W.stack,r.1.K y=G.K y)
  (ct:r.1.err=0→cy l P bt iP r.1 r.2) (fl:r.1.err=0→Ee r.2) (fr:∀x,G.ts.length≤x→x<r.1.ts.length→NZ P r.1.ts.length (r.1.tk x)):rG l P bt ro iP G i W r:=by
 have e1:=kG ux.1;have e2:r.2.hold=W.hold:=by rw[kG E7,hst,e1]
 refine⟨ty,BO,⟨by rw[vq];exact c.wt.id,c.wt.lt,by rw[hdq];exact c.wt.dq,?_,by rw[hst];exact c.wt.dp,λx hx=> ?_,ct,fl,λx hx=> ?_,by rw[e2];exact c.wt.nd⟩,λx hx=> .inl (by rw[←e2];exact hx),fr⟩
 ·rw[hst,hbk];have hb:=c.wt.bk;cases hs:W.stack with
  |nil=>rw[hs]at hb;cases ZH:W.back with
   |nil=>trivial
   |cons k b=>rw[ZH]at hb;exact hb.elim
  |cons y st=>rw[hs]at hb etk;exact aw9 BO.n etk hb
 ·have:=c.wt.hl x (by rw[←e2];exact hx);have:=BO.n;omega
 ·rw[e2]at hx;have h1:=c.wt.run x hx;rw[hK x (by rw[←e1];exact hx)]
  rcases h1 with h1|⟨_,_,h1|h1⟩
  ·exact .inl h1
  ·exact absurd h1 ux.2.1
  ·exact absurd h1 ux.2.2
theorem aAo(h:Ty l ro G)(hts:∀y,y<G.ts.length→(G'.tk y).jC=(G.tk y).jC)(hg:∀a r,kY ro a r→r.Jj→G'.M.get a=G.M.get a){y:Nat}(hy:y<G.ts.length):G'.K y=G.K y:=by
 unfold Gl.K;rw[hts y hy,hg _ _ (h.pX hy).k trivial]
theorem Ef{r:SW}{m:List Ro}{mc:List Nd}(c:Cx l P bt ro G i W)(ty:Ty l iP r.1)(hx:iP=ro++m)(hts:r.1.ts=G.ts)(hC:r.1.C=G.C++mc)(hg:∀a s,kY ro a s→s.Jj→r.1.M.get a=G.M.get a)
  (hst:r.2.stack=W.stack) (hbk:r.2.back=W.back) (vq:r.2.id=W.id) (hdq:r.2.dq=W.dq) (ux:W.cM≠ .m .start∧W.cM≠ .m .asks∧W.cM≠ .m .gone) (E7:r.2.cM≠ .m .start) (ct:r.1.err=0→cy l P bt iP r.1 r.2) (fl:r.1.err=0→Ee r.2):rG l P bt ro iP G i W r:=by
 have NY:∀y,r.1.tk y=G.tk y:=λy=>by unfold Gl.tk;rw[hts]
 refine aeo c ty (ach (m:=m) (mt:=[]) c.ty hx (by rw[hts];simp) hC hg) hst hbk vq hdq ux E7 (λy _=>NY y) (λy hy=> ?_) ct fl λx h1 h2=>by rw[hts]at h2;omega
 exact aAo c.ty (λz _=>by rw[NY z]) hg (c.wt.hl y (by rw[kG ux.1];exact hy))
theorem atY{r:SW}{m:List Ro}{mc:List Nd}(c:Cx l P bt ro G i W)(hne:W.stack≠ [])(ty:Ty l iP r.1)(hx:iP=ro++m)(hts:r.1.ts=G.ts.set (W.stack.headD 0) t')(hC:r.1.C=G.C++mc)(hg:∀a s,kY ro a s→s.Jj→r.1.M.get a=G.M.get a)
  (h1:t'.lX=(G.tk (W.stack.headD 0)).lX) (h2:t'.own=(G.tk (W.stack.headD 0)).own) (h3:t'.jC=(G.tk (W.stack.headD 0)).jC)
  (hst:r.2.stack=W.stack) (hbk:r.2.back=W.back) (vq:r.2.id=W.id) (hdq:r.2.dq=W.dq) (ux:W.cM≠ .m .start∧W.cM≠ .m .asks∧W.cM≠ .m .gone) (E7:r.2.cM≠ .m .start) (ct:r.1.err=0→cy l P bt iP r.1 r.2) (fl:r.1.err=0→Ee r.2):rG l P bt ro iP G i W r:=by
 obtain⟨x,st,e⟩:=List.exists_cons_of_ne_nil hne;have hx0:W.stack.headD 0=x:=by rw[e];rfl
 rw[hx0]at hts h1 h2 h3;have hmem:x∈W.hold:=by rw[kG ux.1,e];simp
 have hl:=c.wt.hl x hmem;have hnd:=c.wt.nd;rw[kG ux.1,e]at hnd;have hlen:r.1.ts.length=G.ts.length:=by rw[hts];simp
 have NY:∀y,y≠x→r.1.tk y=G.tk y:=λy hy=>by unfold Gl.tk;rw[hts,rK (Ne.symm hy)]
 have htx:r.1.tk x=t':=by unfold Gl.tk;rw[hts,uu hl];rfl
 have ids:∀y,y<G.ts.length→(r.1.tk y).lX=(G.tk y).lX∧(r.1.tk y).own=(G.tk y).own∧(r.1.tk y).jC=(G.tk y).jC:=λy hy=>by
  by_cases e:y=x
  ·subst e;rw[htx];exact⟨h1,h2,h3⟩
  ·rw[NY y e];exact⟨rfl,rfl,rfl⟩
 have hK:∀y,y<G.ts.length→r.1.K y=G.K y∧r.1.V y=G.V y:=λy hy=>by
  have ht:=c.ty.pX hy;unfold Gl.K Gl.V;rw[(ids y hy).2.2,hg _ _ ht.k trivial,hg _ _ ht.v trivial];exact⟨rfl,rfl⟩
 refine aeo c ty ⟨⟨m,hx⟩,ah,λy hy hn=> ?_,ids,⟨mc,hC⟩,λy hy q=>by rw[←(hK y hy).1];exact q,λy hy _ _=>hK y hy,λy hy _=>hK y hy,λs ⟨nd,h1,h2⟩=> ?_⟩ hst hbk vq hdq ux E7 (λy hy=> ?_) (λy hy=> ?_) ct fl λx h1 h2=>by omega
 ·rw[hts,rK (by rintro rfl;exact hn hmem)]
 ·refine⟨nd,?_,by rw[hg _ _ (I9 c.ty h1) trivial];exact h2⟩
  obtain⟨_,h3,h4⟩:=sj h1;unfold oc;rw[if_pos h3,hC,sZ (kJ.1 h4).1,h4]
 ·rw[e]at hy;exact NY y (by rintro rfl;exact(List.nodup_cons.1 hnd).1 hy)
 ·exact(hK y (c.wt.hl y (by rw[kG ux.1];exact hy))).1
theorem agk(c:Cx l P bt ro G i W)(h0:W.waits=false)(h1:W'.bH=W.bH)(h2:W'.blocked=W.blocked):Ee W':=by
 obtain⟨a,b⟩:=c.fl.no h0;rw[a]at h1;rw[b]at h2;exact⟨λ_=>⟨h1,h2⟩,λq=>by rw[h1]at q;(cases q),λq=>by rw[h1,h2]at q;rcases q with q|q<;>(cases q)⟩
theorem RU(c:Cx l P bt ro G i W)(h1:W'.bH=W.bH)(h2:W'.blocked=W.blocked)(h3:W'.again=W.again)(h4:W'.waits=true)(h5:yW W'.cM=false∧RR W'.cM=false):Ee W':=
 ⟨λq=>by rw[h4]at q;(cases q),λq=>by rw[h3];exact c.fl.RS (by rw[←h1];exact q),λ_ q=>by rw[h5.1,h5.2]at q;rcases q with q|q<;>(cases q)⟩
end
section
variable {l:Lc} {P:List dH} {bt:List Int} {ro iP:List Ro} {G G':Gl} {hold:List Nat} {W W':Wk} {t t':Tk} {n i x:Nat} {s a v:Int} {r:Ro}
theorem Xe{u:Nat}{d y:Int}{nx:Nat}(hn:1≤n)(hy:0≤y∧y<n)(h:nx=0∨nx=8∨nx=15):BM l ro n u d (bp.CT d l.log y nx):=by
 unfold bp.CT;have h0:uJ 0:=⟨ah,ah⟩;exact⟨rfl,rfl,h0,h0,hy,⟨bc,by simp;omega⟩,by dsimp only;omega,by dsimp only;rcases h with h|h|h<;>subst h<;>rfl,λq=>by dsimp only at q;omega,λ_=>rfl,λq=>by dsimp only at q;omega,λq=>by dsimp only at q;omega,λq=>by dsimp only at q;omega⟩
theorem Oq.snoc{C:List Nd}{nd:Nd}(h:Oq C s a)(ha:oc C a=some nd)(h0:0≤nd.parent)(h1:nd.parent<C.length):Oq C s nd.parent:=by
 induction h with
 |refl _ _=>exact .up ha (.refl h0 h1)
 |up h2 _ ih=>exact .up h2 (ih ha)
theorem aep{nd:Nd}{pl:Pl}{tm:Int×List (Int×Int)}{wk:Int}(h:Ty l ro G)(hr:G.M.room 2=true)(hp:0≤nd.parent∧nd.parent<G.C.length)(hn:0≤nd.nest∧nd.nest≤32)(ha:nd.at_=(G.M.cells.length:Nat))
  (ck:CK tm) (PF:∀y∈tm.2,y.2<G.C.length+1):Ty l (ro++[.ask G.C.length,.liv G.C.length]) {G with M:=(G.M.tick wk).grow 2,C:=G.C++[nd],P:=G.P++[pl],time:=tm}:=by
 have h2:=h.akY (wk:=wk) (m:=[.ask G.C.length,.liv G.C.length]) (n:=2) ah rfl hr (λr hr=>by
  simp only[List.mem_cons,List.not_mem_nil,or_false]at hr;rcases hr with rfl|rfl
  ·exact .inl rfl
  ·trivial)
 have hl:(G.C++[nd]).length=G.C.length+1:=by simp
 refine{h2 with sc:=λs x hs=> ?_,tk:=λy t ht=> ?_,c1:=by show 1≤(G.C++[nd]).length;omega,pl:=by show(G.P++[pl]).length=(G.C++[nd]).length;rw[hl,tV,h.pl];rfl,ck:=ck,PF:=by show∀y∈tm.2,y.2<(G.C++[nd]).length;rw[hl];intro y hy;have:=PF y hy;omega,cnt:= ?_}
 ·have hs:(G.C++[nd])[s]?=some x:=hs;by_cases e:s<G.C.length
  ·rw[sZ e]at hs;have:=h.sc s x hs;exact{this with a:=this.a.qG,b:=this.b.qG}
  ·have hlt:=(kJ.1 hs).1;have e2:s=G.C.length:=ah;subst e2;rw[uI ah]at hs;simp at hs;subst hs;refine⟨kY.new (k:=0) rfl (by rw[ha,h.len];rfl),kY.new (k:=1) rfl (by rw[ha,h.len];omega),hn,λ_=>hp,λq=>by have:=h.c1;omega⟩
 ·have:=h.tk y t ht;show Tz _ (G.C++[nd]).length y t;rw[hl];exact{this with k:=this.k.qG,v:=this.v.qG,w:=this.w.qG,ZM:=⟨this.ZM.1,by have:=this.ZM.2;omega⟩,own:=⟨this.own.1,by have:=this.own.2;omega⟩,cD:=λp hp=>⟨(this.cD p hp).1,by have:=(this.cD p hp).2;omega⟩,sl:=by have:=this.sl;omega}
 ·show 2*(G.C++[nd]).length+3*G.ts.length≤((G.M.tick wk).grow 2).cells.length;have:=Su (M:=G.M.tick wk) (n:=2) ah;simp only[RO]at this;have:=h.cnt;omega
theorem acm{T:List Kt}{p:Int}:(G3 T p).length=T.length+1:=by unfold G3;split<;>simp
theorem aeq{T:List Kt}{p:Int}{t:Kt}(h:Gs T p=some t)(j:Nat):(G3 T p)[j]?=if j=T.length then some ⟨p,t.kids.length,[]⟩else if j=p.toNat then some {t with kids:=t.kids++[(T.length:Int)]}else T[j]?:=by
 obtain⟨_,h0,h1⟩:=xq h;have hp:=(kJ.1 h1).1;unfold G3;rw[h];dsimp only;split
 ·rename_i e;subst e;rw[uI bc];simp
 ·rename_i e;by_cases hj:j<T.length
  ·rw[sZ (by simpa using hj)]
   split
   ·rename_i e2;subst e2;rw[uu hp]
   ·rename_i e2;rw[rK (Ne.symm e2)]
  ·rw[List.getElem?_eq_none (by simp;omega)]
   rw[if_neg ah,List.getElem?_eq_none ah]
theorem aoQ{T:List Kt}{p:Int}{t:Kt}(hT:abp T)(h:Gs T p=some t):abp (G3 T p):=by
 obtain⟨_,h0,h1⟩:=xq h;have hp:=(kJ.1 h1).1;intro j y hy;rw[aeq h]at hy;split at hy
 ·rename_i e;subst e;cases hy;exact⟨by dsimp only;omega,by dsimp only;omega,by dsimp only;omega⟩
 ·split at hy
  ·rename_i e;subst e;cases hy;exact hT _ t h1
  ·exact hT j y hy
theorem aiF{T:List Kt}{p:Int}{t:Kt}(hk:∀(i:Nat) x,T[i]?=some x→x.kids.length≤T.length)(h:Gs T p=some t):∀(i:Nat) x,(G3 T p)[i]?=some x→x.kids.length≤(G3 T p).length:=by
 obtain⟨_,h0,h1⟩:=xq h;intro j y hy;rw[acm];rw[aeq h]at hy;split at hy
 ·cases hy;simp
 ·split at hy
  ·cases hy;have:=hk _ t h1;simp;omega
  ·have:=hk j y hy;omega
theorem atZ{wk parent lX own:Int}{f:List Int}{kt:Kt}(h:Ty l ro G)(hr:G.M.room 3=true)(Zd:Gs G.T parent=some kt)(hi:0≤lX∧lX<G.C.length)(ho:0≤own∧own<G.C.length):
  Ty l (ro++[.fk G.ts.length,.fv G.ts.length,.fw G.ts.length]) (G.more wk parent lX own f):=by
 have h2:=h.akY (wk:=wk) (m:=[.fk G.ts.length,.fv G.ts.length,.fw G.ts.length]) (n:=3) ah rfl hr (λr hr=>by
  simp only[List.mem_cons,List.not_mem_nil,or_false]at hr;rcases hr with rfl|rfl|rfl
  ·exact⟨ah,ah⟩
  ·trivial
  ·trivial)
 unfold Gl.more;have hc:=h.c1;generalize hnt:(⟨(G.T.length:Nat),lX,own,(G.M.cells.length:Nat),f,ByteArray.mk #[],[],[own],0,0⟩:Tk)=nt;have hl:(G.ts++[nt]).length=G.ts.length+1:=by simp
 refine{h2 with val:=λa r hL=> ?_,tk:=λy t ht=> ?_,t1:=by show 1≤(G.ts++[nt]).length;omega,pl:=by show(List.set _ _ _).length=_;rw[List.length_set];exact h.pl,kt:=aoQ h.kt Zd,kl:=by show(G3 G.T parent).length=(G.ts++[nt]).length;rw[acm,hl,h.kl],kk:=aiF h.kk Zd,cnt:= ?_}
 ·show Ec l _ (G.ts++[nt]).length r (((G.M.tick wk).grow 3).get a);have h3:Ec l _ G.ts.length r (((G.M.tick wk).grow 3).get a):=h2.val a r hL;have:=Ec.qG (m:=[]) h3 (by omega:G.ts.length≤(G.ts++[nt]).length)
  rwa[List.append_nil]at this
 ·have ht:(G.ts++[nt])[y]?=some t:=ht;by_cases e:y<G.ts.length
  ·rw[sZ e]at ht;have:=h.tk y t ht;exact{this with k:=this.k.qG,v:=this.v.qG,w:=this.w.qG}
  ·have hlt:=(kJ.1 ht).1;have e2:y=G.ts.length:=ah;subst e2;rw[uI ah]at ht;simp at ht;subst ht;subst hnt;refine⟨by show((G.T.length:Nat):Int)=_;rw[h.kl],kY.new (k:=0) rfl (by show((G.M.cells.length:Nat):Int)=_;rw[h.len];rfl),kY.new (k:=1) rfl (by show((G.M.cells.length:Nat):Int)+1=_;rw[h.len];omega),kY.new (k:=2) rfl (by show((G.M.cells.length:Nat):Int)+2=_;rw[h.len];omega),hi,ho,bc,Nat.zero_le 1,by simpa using hc⟩
 ·show 2*G.C.length+3*(G.ts++[nt]).length≤((G.M.tick wk).grow 3).cells.length;have:=Su (M:=G.M.tick wk) (n:=3) ah;simp only[RO]at this;have:=h.cnt;omega
structure Nx (l:Lc) (P:List dH) (bt:List Int) (ro:List Ro) (G:Gl) (W W':Wk):Prop where
 st:W'.stack=W.stack
 bk:W'.back=W.back
 id:W'.id=W.id
 dq:W'.dq=W.dq
 ns:W'.cM≠ .m .start
 ct:cy l P bt ro G W'
 fl:Ee W'
theorem oS(h1:W'.bH=false)(h2:W'.blocked=false):Ee W':=
 ⟨λ_=>⟨h1,h2⟩,λq=>by rw[h1]at q;(cases q),λq=>by rw[h1,h2]at q;rcases q with q|q<;>(cases q)⟩
theorem Zg(h:Ee W)(h1:W'.bH=W.bH)(h2:W'.blocked=W.blocked)(h3:W'.again=W.again)(h4:W'.waits=true)(h5:yW W'.cM=false∧RR W'.cM=false):Ee W':=
 ⟨λq=>by rw[h4]at q;(cases q),λq=>by rw[h3];exact h.RS (by rw[←h1];exact q),λ_ q=>by rw[h5.1,h5.2]at q;rcases q with q|q<;>(cases q)⟩
theorem aoR(vq:W.id<16)(hs:W.stack=[])(hw:W.wait.how=1)(h1:W.bH=false)(h2:W.blocked=false):Nx l P bt ro G W (yJ l G W).2∧(yJ l G W).1=G:=by
 unfold yJ;dsimp only;refine⟨?_,rfl⟩;split
 ·exact⟨rfl,rfl,rfl,rfl,by simp[Wk.go],by unfold cy Wk.go;exact hs,oS h1 h2⟩
 split
 ·exact⟨rfl,rfl,rfl,rfl,bc,by unfold cy;exact⟨hs,hw,_,rfl,by unfold SpT jI.CT;exact⟨bc,vq,bc⟩⟩,oS h1 h2⟩
 ·exact⟨rfl,rfl,rfl,rfl,by simp[Wk.go],by unfold cy Wk.go;exact⟨hs,hw⟩,oS h1 h2⟩
theorem q4.cases(h:q4 P G W):(∃y,W.again= .aw y∧W.target=some y∧qW P G.ts.length (G.tk (W.stack.headD 0)) (.aw y))∨(∃k,W.again= .sh k∧W.target=none∧W.pT=k∧qW P G.ts.length (G.tk (W.stack.headD 0)) (.sh k)):=by
 obtain⟨h1,h2,h3⟩:=h;revert h2 h3;cases W.again<;>intro h2 h3<;>first|exact h3.elim|skip
 ·exact .inl ⟨_,rfl,h3,h2⟩
 ·exact .inr ⟨_,rfl,h3.1,h3.2,h2⟩
theorem q4.of(h:q4 P G W)(h1:W'.stack=W.stack)(h2:W'.again=W.again)(h3:W'.target=W.target)(h4:W'.pT=W.pT):q4 P G W':=by
 obtain⟨a,b,c⟩:=h;exact⟨by rw[h1];exact a,by rw[h1,h2];exact b,by rw[h2,h3,h4];exact c⟩
theorem aiG(ha:q4 P G W)(hw:W.wait.how=1)(hf:Ee W)(h0:W.waits=true):Nx l P bt ro G W (nothing G W).2∧(nothing G W).1=G:=by
 unfold nothing;dsimp only;refine⟨?_,rfl⟩;split
 ·have ct:cy l P bt ro G {W with cM:=W.again}:=by
   rcases ha.cases with⟨y,h1,h2,h3⟩|⟨k,h1,h2,h3,h4⟩
   ·unfold cy;rw[h1];exact⟨ha.ne,h3⟩
   ·unfold cy;rw[h1];exact⟨ha.ne,h4⟩
  refine⟨rfl,rfl,rfl,rfl,?_,ct,?_⟩
  ·rcases ha.cases with⟨y,h1,_⟩|⟨k,h1,_⟩<;>dsimp only<;>rw[h1] <;>simp
  ·refine⟨λq=> ?_,hf.RS,λ_ _=>rfl⟩;rcases ha.cases with⟨y,h1,_⟩|⟨k,h1,_⟩<;>unfold Wk.waits at q<;>dsimp only at q<;>rw[h1]at q<;>cases q
 split
 ·rename_i hb;have hb:W.target.isSome=true:=by simp at hb;exact hb.1
  refine⟨rfl,rfl,rfl,rfl,by simp[Wk.go],?_,Zg hf rfl rfl rfl rfl ⟨rfl,rfl⟩⟩
  unfold cy Wk.go;refine⟨ha.of rfl rfl rfl rfl,?_⟩;rcases ha.cases with⟨y,h1,_⟩|⟨k,h1,h2,_⟩
  ·dsimp only;rw[h1];rfl
  ·rw[h2]at hb;cases hb
 split
 ·exact⟨rfl,rfl,rfl,rfl,bc,by unfold cy;exact ha.of rfl rfl rfl rfl,Zg hf rfl rfl rfl rfl ⟨rfl,rfl⟩⟩
 ·exact⟨rfl,rfl,rfl,rfl,bc,by unfold cy;exact⟨ha.of rfl rfl rfl rfl,_,rfl,by unfold SpT jI.CT;simp⟩,Zg hf rfl rfl rfl rfl ⟨rfl,rfl⟩⟩
theorem Vi(ZO:1≤G.ts.length)(vq:W.id=i)(h16:i<16)(hS:CQ l P G W)(hf:Ee W)(h0:W.none_= .m .nothing→W.waits=true)(h2:W.stack=[]→W.bH=false∧W.blocked=false):
  Nx l P bt ro G W (J0 l G W t bt).2∧(J0 l G W t bt).1=G:=by
 unfold J0;cases hl:W.left with
 |nil=>
  dsimp only;unfold akr;rcases hS.what with⟨a1,a2,a3,a4⟩|⟨a1,a2,a3,a4⟩
  ·rw[if_pos a4];exact aoR ah a1 hS.how (h2 a1).1 (h2 a1).2
  ·rw[if_neg (by rw[a4];simp)];exact aiG a1 hS.how hf (h0 a4)
 |cons j r=>
  dsimp only;have hj:=hS.left j (by rw[hl];simp)
  refine⟨⟨rfl,rfl,rfl,rfl,by simp[Wk.AE],?_,?_⟩,rfl⟩
  ·unfold cy Wk.AE;refine⟨_,rfl,⟨hS.how,λj' hj'=>hS.left j' (by rw[hl];simp[hj']),?_⟩,⟨j.toNat,ah,?_,Xe ZO ⟨ah,ah⟩ ah,rfl⟩,by show 15≤18;omega⟩
   ·rcases hS.what with⟨a1,a2,a3,a4⟩|⟨a1,a2,a3,a4⟩
    ·exact .inl ⟨a1,a2,a3,a4⟩
    ·exact .inr ⟨a1.of rfl rfl rfl rfl,a2,a3,a4⟩
   ·have:=hj.2.2;show j.toNat≠W.id.toNat;rw[vq]at this ⊢;omega
  ·rcases hS.what with⟨a1,a2,a3,a4⟩|⟨a1,a2,a3,a4⟩
   ·exact oS (h2 a1).1 (h2 a1).2
   ·exact Zg hf rfl rfl rfl (by unfold Wk.waits Wk.AE;dsimp only;rw[a4];rfl) ⟨rfl,rfl⟩
theorem aiH(vq:t.id=((W.stack.headD 0:Nat):Int))(ha:q4 P G W)(hw:W.wait.how=1)(hf:Ee W):Nx l P bt ro G W (vu G W t).2∧(vu G W t).1=G:=by
 unfold vu;dsimp only;refine⟨⟨rfl,rfl,rfl,rfl,by simp[Wk.search],?_,Zg hf rfl rfl rfl rfl ⟨rfl,rfl⟩⟩,rfl⟩
 unfold cy Wk.search;exact⟨hw,bc,.inr ⟨ha.of rfl rfl rfl rfl,by dsimp only;rw[vq],rfl,rfl⟩⟩
theorem RV{k:Kn}(ha:q4 P G W)(hf:Ee W)(hk:match k with
  | .m .cancelled=>yW W.again=true∧RQ G (G.tk (W.stack.headD 0))
  | .U7 y k=>y<G.ts.length∧k=W.again
  | .Bq y k=>(0≤y∧y<G.ts.length)∧k=W.again
  | .c .HY=>yW W.again=true∧W.kind=G.K (W.target.getD 0)∧2≤W.kind
  | .c .BW=>W.again= .sh (.c .BW)
  | .c .qw=>W.again= .sh (.c .qw)
  |_=>False):Nx l P bt ro G W (W.stop k):=by
 refine⟨rfl,rfl,rfl,rfl,by simp[Wk.stop],?_,Zg hf rfl rfl rfl rfl ⟨rfl,rfl⟩⟩
 unfold cy Wk.stop;exact⟨ha.of rfl rfl rfl rfl,λ_ o ho=>by(cases ho),hk⟩
theorem aer{y:Int}(ha:q4 P G W)(hf:Ee W)(hy:0≤y∧y<G.ts.length):Nx l P bt ro G W (Bp G W y).2∧(Bp G W y).1=G:=by
 unfold Bp;exact⟨RV (k:= .Bq y W.again) ha hf ⟨hy,rfl⟩,rfl⟩
theorem RW{y:Int}{k:Kn}(h1:W.bH=false)(h2:W.blocked=false)(hy:0≤y∧y<G.ts.length)(hk:Ed P G W.stack k):Nx l P bt ro G W (W.G6 y k):=
 ⟨rfl,rfl,rfl,rfl,by simp[Wk.G6],by unfold cy Wk.G6;exact⟨hy,hk⟩,oS h1 h2⟩
theorem Zh(vq:t.id=((W.stack.headD 0:Nat):Int))(ha:q4 P G W)(hf:Ee W)(h1:yW W.again=true→W.dA= .m .vu∧W.wait.how=1)(h2:RR W.again=true→W.dA= .c .Cs):Nx l P bt ro G W (dA G W t).2∧(dA G W t).1=G:=by
 unfold dA;rcases ha.cases with⟨y,e,_⟩|⟨k,e,_⟩
 ·have:=h1 (by rw[e];rfl)
  rw[if_pos this.1];exact aiH vq ha this.2 hf
 ·have:=h2 (by rw[e];rfl)
  rw[if_neg (by rw[this];simp)]
  refine⟨⟨rfl,rfl,rfl,rfl,by simp[Wk.go],?_,Zg hf rfl rfl rfl rfl ⟨rfl,rfl⟩⟩,rfl⟩
  unfold cy Wk.go;exact⟨ha.of rfl rfl rfl rfl,by dsimp only;rw[e];rfl⟩
theorem Xf{k:Kn}(hne:W.stack≠ [])(hk:qW P G.ts.length (G.tk (W.stack.headD 0)) (.sh k))(hf:W.bH=false)(hf2:W.blocked=true→W.again= .sh k):Nx l P bt ro G W (shut W k t):=by
 refine⟨rfl,rfl,rfl,rfl,by simp[shut,Wk.drain],?_,?_⟩
 ·unfold cy shut Wk.drain;exact⟨⟨hne,hk,rfl,rfl⟩,λq=>by(cases q),λ_=>rfl⟩
 ·exact⟨λq=>by unfold Wk.waits shut Wk.drain at q;(cases q),λq=>by rw[show(shut W k t).bH=W.bH from rfl,hf]at q;(cases q),λ_ q=>by rcases q with q|q<;>(cases q)⟩
theorem N0(hne:W.stack≠ [])(ht:G.tk (W.stack.headD 0)=t)(he:Ends t)(h1:W.bH=false)(h2:W.blocked=false):Nx l P bt ro G W (unwind W t):=by
 unfold unwind;split
 ·rename_i h0;refine⟨rfl,rfl,rfl,rfl,by simp[Wk.go],?_,oS h1 h2⟩
  unfold cy Wk.go;dsimp only;rw[ht];exact⟨hne,he,List.eq_nil_of_length_eq_zero h0⟩
 ·rename_i h0;exact Xf hne (by rw[ht];exact⟨he,λq=>h0 (by rw[q];rfl)⟩) h1 (λq=>by rw[h2]at q;cases q)
end
section
variable {l:Lc} {P:List dH} {bt:List Int} {ro iP:List Ro} {G G':Gl} {hold:List Nat} {W W' W1:Wk} {t t':Tk} {n i x:Nat} {s a v:Int} {r:Ro}
abbrev ej(W:Wk):Prop:=W.cM≠ .m .start∧W.cM≠ .m .asks∧W.cM≠ .m .gone
theorem agl{r:SW}{m:List Ro}{mc:List Nd}(c:Cx l P bt ro G i W)(ty:Ty l iP r.1)(hx:iP=ro++m)(hts:r.1.ts=G.ts)(hC:r.1.C=G.C++mc)(hg:∀a s,kY ro a s→s.Jj→r.1.M.get a=G.M.get a)
  (ux:ej W) (h1:W1.stack=W.stack∧W1.back=W.back∧W1.id=W.id∧W1.dq=W.dq) (nx:r.1.err=0→Nx l P bt iP r.1 W1 r.2) (hs:r.2.stack=W1.stack∧r.2.back=W1.back∧r.2.id=W1.id∧r.2.dq=W1.dq∧r.2.cM≠ .m .start):rG l P bt ro iP G i W r:=
 Ef c ty hx hts hC hg (by rw[hs.1,h1.1]) (by rw[hs.2.1,h1.2.1]) (by rw[hs.2.2.1,h1.2.2.1]) (by rw[hs.2.2.2.1,h1.2.2.2]) ux hs.2.2.2.2 (λe=>(nx e).ct) (λe=>(nx e).fl)
theorem sL{r:SW}(c:Cx l P bt ro G i W)(hr:r.1=G∨r.1=G.tick W.id)(ux:ej W)(h1:W1.stack=W.stack∧W1.back=W.back∧W1.id=W.id∧W1.dq=W.dq)(nx:Nx l P bt ro r.1 W1 r.2):rG l P bt ro ro G i W r:=by
 have ty:Ty l ro r.1:=by rcases hr with e|e<;>rw[e];exact c.ty;exact c.ty.tick _
 refine agl (m:=[]) (mc:=[]) c ty bc ?_ ?_ (λa s _ _=> ?_) ux h1 (λ_=>nx) ⟨nx.st,nx.bk,nx.id,nx.dq,nx.ns⟩
 ·rcases hr with e|e<;>rw[e];rfl
 ·rcases hr with e|e<;>rw[e,List.append_nil];rfl
 ·rcases hr with e|e<;>rw[e];rfl
theorem Cx.tt(c:Cx l P bt ro G i W):Ty l ro (G.tick W.id):=c.ty.tick _
theorem axa(c:Cx l P bt ro G i W)(bN:W.cM= .m .rest):rG l P bt ro ro G i W (rest l G W):=by
 have ct:=c.ct;unfold cy at ct;rw[bN]at ct;dsimp only at ct;refine sL (W1:=W) c (.inr rfl) (by rw[ej,bN];decide) ⟨rfl,rfl,rfl,rfl⟩ ⟨rfl,rfl,rfl,rfl,by simp[rest,Wk.AE],?_,agk c (by unfold Wk.waits;rw[bN]) rfl rfl⟩
 unfold cy rest Wk.AE;exact⟨_,rfl,ct,rfl,Xe c.ty.t1 ⟨ah,by have:=c.ty.t1;show(0:Int)<G.ts.length;omega⟩ ah,rfl⟩
theorem axb(c:Cx l P bt ro G i W)(bN:W.cM= .m .tell):rG l P bt ro ro G i W (NV l G W):=by
 have ct:=c.ct;unfold cy at ct;rw[bN]at ct;dsimp only at ct;have hf:=c.fl.no (by unfold Wk.waits;rw[bN])
 have ty:Ty l ro (NV l G W).1:=c.ty.ad c.ty.told trivial;have ct2:cy l P bt ro (NV l G W).1 (NV l G W).2∧W.said≠ .m .start:=by
  unfold NV cy;dsimp only;unfold Ed at ct;cases hs:W.stack with
  |nil=>rw[hs]at ct;dsimp only at ct;rw[ct];exact⟨rfl,bc⟩
  |cons y st=>
   rw[hs]at ct;dsimp only at ct;have Yx:=ct;unfold qW at ct;split at ct
   ·rename_i e;rw[e];exact⟨⟨bc,ct⟩,bc⟩
   ·rename_i e;rw[e];rw[e]at Yx;exact⟨⟨bc,Yx⟩,bc⟩
   ·rename_i e;rw[e];rw[e]at Yx;exact⟨⟨bc,Yx⟩,bc⟩
   ·rename_i e;rw[e];rw[e]at Yx;exact⟨⟨bc,Yx⟩,bc⟩
   ·exact ct.elim
 exact Ef (m:=[]) (mc:=[]) c ty bc rfl (by rw[List.append_nil];rfl) (xl c.ty rfl c.ty.told (λq=>q)) rfl rfl rfl rfl (by rw[bN];decide) ct2.2 (λ_=>ct2.1) (λ_=>oS hf.1 hf.2)
theorem aAq(c:Cx l P bt ro G i W)(bN:W.cM= .m .RD):rG l P bt ro ro G i W (RD l G W):=by
 have ct:=c.ct;unfold cy at ct;rw[bN]at ct;dsimp only at ct;exact Ef (m:=[]) (mc:=[]) c (c.ty.ad c.ty.idle trivial) bc rfl (by rw[List.append_nil];rfl) (xl c.ty rfl c.ty.idle (λq=>q)) rfl rfl rfl rfl (by rw[bN];decide) (by simp[RD]) (λ_=>by unfold cy RD;exact ct.1) (λ_=>agk c (by unfold Wk.waits;rw[bN]) rfl rfl)
theorem axc(c:Cx l P bt ro G i W)(bN:W.cM= .m .IU):rG l P bt ro ro G i W (IU l G W):=by
 have ct:=c.ct;unfold cy at ct;rw[bN]at ct;dsimp only at ct;exact Ef (m:=[]) (mc:=[]) c (c.ty.ad c.ty.idle trivial) bc rfl (by rw[List.append_nil];rfl) (xl c.ty rfl c.ty.idle (λq=>q)) rfl rfl rfl rfl (by rw[bN];decide) (by simp[IU]) (λ_=>by unfold cy IU;exact ct) (λ_=>agk c (by unfold Wk.waits;rw[bN]) rfl rfl)
theorem axd{a j:Int}(ha:0≤a∧a<65536)(hj:0≤j∧j<16):0≤Jl .i64 a (rX .i64 1 j)∧Jl .i64 a (rX .i64 1 j)<65536:=by
 obtain⟨x,rfl⟩:=Int.eq_ofNat_of_zero_le ha.1;obtain⟨y,rfl⟩:=Int.eq_ofNat_of_zero_le hj.1;have hs:∀y:Nat,y<16→rX .i64 1 (y:Int)=((2 ^ y:Nat):Int):=fY;rw[hs y ah];have arE:∀a b:Int,Jl .i64 a b=IntKind.i64.wrap ((BitVec.ofInt 64 a ^^^ BitVec.ofInt 64 b).toNat:Nat):=λ_ _=>rfl;rw[arE,BitVec.ofInt_natCast,BitVec.ofInt_natCast,BitVec.toNat_xor,BitVec.toNat_ofNat,BitVec.toNat_ofNat];have hy2:2 ^ y<2 ^ 16:=Nat.pow_lt_pow_right ah ah;rw[Nat.mod_eq_of_lt ah,Nat.mod_eq_of_lt ah];have h3:x ^^^ 2 ^ y<2 ^ 16:=Nat.xor_lt_two_pow ah hy2;rw[cT ⟨ah,ah⟩];omega
structure SpR (l:Lc) (ro:List Ro) (G:Gl) (wk:Int) (r:jI×bK):Prop where
 ty:Ty l ro (G.mem r.2)
 sp:SpT r.1
 Jj:∀a s,kY ro a s→s.Jj→r.2.get a=G.M.get a
theorem ak0{x:Nat}:WS x 16<16:=by
 unfold WS;split
 ·split
  ·omega
  ·rename_i h;unfold Vn at h;split at h<;>omega
 ·omega
theorem ak1{o:jI}(h:Ty l ro G)(ho:SpT o){wk:Int}:SpR l ro G wk (o.go l.sp G.M wk):=by
 obtain⟨h6,hs,ht⟩:=ho;have hb:=h.val _ _ h.PE;have hno:∀r:Ro,(r= .Xb∨r= .PE)→¬r.Jj:=λr q=>by rcases q with rfl|rfl<;>exact λq=>q
 unfold jI.go;split
 ·rename_i e;exact⟨h,⟨h6,hs,ht⟩,λ_ _ _ _=>rfl⟩
 ·unfold jI.more;exact⟨h.ad h.Xb trivial,⟨bc,hs,bc⟩,xl h rfl h.Xb (hno _ (.inl rfl))⟩
 ·unfold jI.less;exact⟨h.ad h.Xb trivial,⟨bc,hs,bc⟩,xl h rfl h.Xb (hno _ (.inl rfl))⟩
 ·unfold jI.look;exact⟨h.tick wk,⟨bc,hs,bc⟩,λ_ _ _ _=>rfl⟩
 ·unfold jI.need;refine⟨h.tick wk,?_,λ_ _ _ _=>rfl⟩;dsimp only;split
  ·exact⟨bc,ak0,λ_=>hb⟩
  ·exact⟨bc,hs,bc⟩
 ·unfold jI.many;refine⟨h.tick wk,?_,λ_ _ _ _=>rfl⟩;dsimp only;split
  ·exact⟨bc,hs,λ_=>hb⟩
  ·exact⟨bc,hs,bc⟩
 ·rename_i n0 n1 n2 n3 n4 n5;unfold jI.adC;have e6:o.next=6:=by
   rcases (show o.next=0∨o.next=1∨o.next=2∨o.next=3∨o.next=4∨o.next=5∨o.next=6 by omega)with e|e|e|e|e|e|e<;>first|exact e|exact(n0 e).elim|exact(n1 e).elim|exact(n2 e).elim|exact(n3 e).elim|exact(n4 e).elim|exact(n5 e).elim
  refine⟨?_,?_,?_⟩
  ·exact h.cs h.PE (axd (ht e6) (by unfold YD;constructor<;>split<;>omega))
  ·dsimp only;split<;>exact⟨bc,hs,bc⟩
  ·dsimp only;unfold bK.cs;split
   ·exact xl h rfl h.PE (hno _ (.inr rfl))
   ·exact λ_ _ _ _=>rfl
theorem Cx.amJ(c:Cx l P bt ro G i W):i<16∧W.id<16∧0≤W.id:=by have:=c.wt.lt;have:=c.lc.w16;have:=c.wt.id;omega
theorem aoS{o:jI}(c:Cx l P bt ro G i W)(bN:W.cM= .m .wU)(hs:W.step=some o):rG l P bt ro ro G i W (wU l G W o):=by
 have ct:=c.ct;unfold cy at ct;rw[bN]at ct;dsimp only at ct;obtain⟨h1,h2,o',h3,h4⟩:=ct;rw[hs]at h3;cases h3;have hr:=ak1 (wk:=W.id) c.ty h4;have hf:=c.fl.no (by unfold Wk.waits;rw[bN])
 unfold wU;dsimp only;generalize o.go l.sp G.M W.id=r at hr ⊢;refine Ef (m:=[]) (mc:=[]) c hr.ty bc rfl (by rw[List.append_nil];rfl) hr.Jj (by dsimp only;split<;>rfl) (by dsimp only;split<;>rfl) (by dsimp only;split<;>rfl) (by dsimp only;split<;>rfl) (by rw[bN];decide) ?_ (λ_=> ?_) (λ_=> ?_)
 ·split
  ·dsimp only;split<;>simp
  ·rw[bN];simp
 ·split
  ·dsimp only;split
   ·unfold cy;exact h1
   ·unfold cy;exact⟨h1,h2⟩
  ·unfold cy;dsimp only;rw[bN];exact⟨h1,h2,_,rfl,hr.sp⟩
 ·dsimp only;split<;>exact oS hf.1 hf.2
theorem at2{o:jI}(c:Cx l P bt ro G i W)(bN:W.cM= .m .block)(hs:W.step=some o):rG l P bt ro ro G i W (block l G W o):=by
 have ct:=c.ct;unfold cy at ct;rw[bN]at ct;dsimp only at ct;obtain⟨h1,o',h3,h4⟩:=ct;rw[hs]at h3;cases h3;have hr:=ak1 (wk:=W.id) c.ty h4;unfold block;dsimp only;generalize o.go l.sp G.M W.id=r at hr ⊢;have e:(G.mem r.2).ts=G.ts:=rfl;have ha:q4 P (G.mem r.2) W:=⟨h1.ne,h1.hm,h1.tg⟩;refine Ef (m:=[]) (mc:=[]) c hr.ty bc rfl (by rw[List.append_nil];rfl) hr.Jj (by dsimp only;split<;>rfl) (by dsimp only;split<;>rfl) (by dsimp only;split<;>rfl) (by dsimp only;split<;>rfl) (by rw[bN];decide) ?_ (λ_=> ?_) (λ_=> ?_)
 ·split
  ·rcases h1.cases with⟨y,q,_⟩|⟨y,q,_⟩<;>dsimp only<;>rw[q] <;>simp
  ·rw[bN];simp
 ·dsimp only;split
  ·rcases ha.cases with⟨y,q,_,q2⟩|⟨y,q,_,_,q2⟩<;>unfold cy<;>dsimp only<;>rw[q] <;>exact⟨ha.ne,q2⟩
  ·unfold cy;dsimp only;rw[bN];exact⟨ha.of rfl rfl rfl rfl,_,rfl,hr.sp⟩
 ·dsimp only;split
  ·refine⟨λq=> ?_,c.fl.RS,λ_ _=>rfl⟩;rcases ha.cases with⟨y,q1,_⟩|⟨y,q1,_⟩<;>unfold Wk.waits at q<;>dsimp only at q<;>rw[q1]at q<;>cases q
  ·exact RU c rfl rfl rfl (by unfold Wk.waits;dsimp only;rw[bN]) (by dsimp only;rw[bN];exact⟨rfl,rfl⟩)
end
section
variable {l:Lc} {P:List dH} {bt:List Int} {ro iP:List Ro} {G G':Gl} {hold:List Nat} {W W' W1:Wk} {t t':Tk} {n i x y:Nat} {s a v:Int} {r:Ro}
theorem Cx.tid(c:Cx l P bt ro G i W)(h:W.stack≠ []):(G.tk (W.stack.headD 0)).id=((W.stack.headD 0:Nat):Int):=(c.ty.pX (c.top h).2).id
theorem aiI{v:Int}{m:List Int}:∀j∈UZ v m,j∈m:=by
 intro j hj;unfold UZ at hj;rcases y7.1 hj with h|h
 ·exact List.mem_of_mem_drop h
 ·exact List.mem_of_mem_take h
theorem aes{self on idle:Int}{n:Nat}:∀j∈xh self on idle n,0≤j∧j<n∧j≠self:=by
 intro j hj;unfold xh at hj;obtain⟨k,hk,rfl⟩:=List.mem_map.1 hj;obtain⟨h1,h2⟩:=List.mem_filter.1 hk;have:=List.mem_range.1 h1;refine⟨by show 0≤((k:Nat):Int);omega,by show((k:Nat):Int)<n;omega,λe=> ?_⟩
 have e:((k:Nat):Int)=self:=e;unfold Y3 at h2;simp[e]at h2
theorem aoT(c:Cx l P bt ro G i W)(bN:W.cM= .m .others):rG l P bt ro ro G i W (others l G W t bt):=by
 have ct:=c.ct;unfold cy at ct;rw[bN]at ct;dsimp only at ct;have ty:Ty l ro {G.tick W.id with D:=G.D.tail}:={c.tt with dr:=by have:=c.ty.dr;show G.D.tail.length≤_;rw[List.length_tail];omega}
 unfold others;have hS:CQ l P {G.tick W.id with D:=G.D.tail} {W with left:=UZ (G.D.headD 0) (xh W.id (l.sp.bits G.M) (G.M.get l.idle) l.wa.length)}:=by
  refine⟨ct.how,λj hj=>aes j (aiI j hj),?_⟩;rcases ct.what with⟨a1,a2⟩|⟨a1,a2⟩
  ·exact .inl ⟨a1,a2⟩
  ·exact .inr ⟨⟨a1.ne,a1.hm,a1.tg⟩,a2⟩
 have hw:W.none_= .m .nothing→W.waits=true:=λq=>by unfold Wk.waits;rw[bN];dsimp only;rw[q];rfl
 have nx:=Vi (bt:=bt) (ro:=ro) (t:=t) ty.t1 c.wt.id c.amJ.1 hS (W:={W with left:=UZ (G.D.headD 0) (xh W.id (l.sp.bits G.M) (G.M.get l.idle) l.wa.length)}) ⟨λq=>c.fl.no q,c.fl.RS,c.fl.ag⟩ hw (λq=> ?_)
 ·refine agl (m:=[]) (mc:=[]) (W1:={W with left:=UZ (G.D.headD 0) (xh W.id (l.sp.bits G.M) (G.M.get l.idle) l.wa.length)}) c (by rw[nx.2];exact ty) bc (by rw[nx.2];rfl) (by rw[nx.2,List.append_nil];rfl) (λ_ _ _ _=>by rw[nx.2];rfl) (by rw[ej,bN];decide) ⟨rfl,rfl,rfl,rfl⟩ (λ_=>by rw[nx.2];exact nx.1) ⟨nx.1.st,nx.1.bk,nx.1.id,nx.1.dq,nx.1.ns⟩
 ·refine c.fl.no ?_;rcases ct.what with⟨a1,a2,a3,a4⟩|⟨a1,a2⟩
  ·have a4:W.none_= .m .yJ:=a4;unfold Wk.waits;rw[bN];dsimp only;rw[a4];rfl
  ·exact absurd q a1.ne
theorem Xg{O:bp}{m:Nat}(h:0≤O.got∧O.got<m)(hm:1≤m):0≤O.tell∧O.tell<m:=by
 unfold bp.tell;split
 ·exact h
 ·omega
theorem CQ.of(h:CQ l P G W)(hg:G'.ts=G.ts)(h1:W'.stack=W.stack)(h2:W'.again=W.again)(h3:W'.target=W.target)(h4:W'.pT=W.pT)(h5:W'.wait=W.wait)(h6:W'.left=W.left)(h7:W'.id=W.id)(h8:W'.fits=W.fits)(h9:W'.got=W.got)(h10:W'.none_=W.none_):CQ l P G' W':=by
 refine⟨by rw[h5];exact h.how,by rw[h6,h7];exact h.left,?_⟩
 rw[h1,h3,h8,h9,h10];refine h.what.imp id λq=>⟨?_,q.2⟩;obtain⟨a,b,c⟩:=q.1;refine⟨by rw[h1];exact a,?_,by rw[h2,h3,h4];exact c⟩
 have:G'.tk (W.stack.headD 0)=G.tk (W.stack.headD 0):=by unfold Gl.tk;rw[hg]
 rw[h1,h2,hg,this];exact b
theorem at3{O:bp}(h1:W.cM= .m .pn)(h2:W.op=some O)(hi:W.id.toNat=i)(h:match W.after with
  | .c .FA=>W.stack=[]∧W.wait.how=1∧BM l ro G.ts.length i W.dq O∧O.kind=1
  | .c .tP=>W.stack≠ []∧Bs P G.ts.length (G.tk (W.stack.headD 0))∧(0≤W.jk∧W.jk<G.ts.length)∧BM l ro G.ts.length i W.dq O∧O.kind=0
  | .c .sH=>q4 P G W∧(yW W.again=true→W.dA= .m .vu∧W.wait.how=1)∧(RR W.again=true→W.dA= .c .Cs)∧BM l ro G.ts.length i W.dq O∧O.kind=1
  | .m .Tv=>CQ l P G W∧(∃u,u<l.wa.length∧u≠i∧BM l ro G.ts.length u (bt.getD u 0) O∧O.kind=2)∧O.next≤18
  | .m .Aj=>CQ l P G W∧(∃u,u<l.wa.length∧u≠i∧BM l ro G.ts.length u (bt.getD u 0) O∧O.kind=2)∧O.next=19
  |_=>False):cy l P bt ro G W:=by
 unfold cy;dsimp only;rw[h1];dsimp only;subst hi;exact⟨O,h2,h⟩
theorem ak2{O:bp}(c:Cx l P bt ro G i W)(hdl:bt.length=l.wa.length)(bN:W.cM= .m .pn)(hop:W.op=some O)(ht:t=G.tk (W.stack.headD 0)):∃iP,rG l P bt ro iP G i W (pn l G W O t bt G.vp)∧True:=by
 have ct:=c.ct;unfold cy at ct;rw[bN]at ct;dsimp only at ct;obtain⟨O',hO',ct⟩:=ct;rw[hop]at hO';cases hO';have kZ:ej W:=by rw[ej,bN];decide
 have at4:=c.idn;rw[at4]at ct;have main:∀(u:Nat) (d:Int),ZN ro u d→BM l ro G.ts.length u d O→(∀(iP:List Ro) (r:bp×bK),OpR l ro iP G W.id u d O r→(r.1.how=0→cy l P bt iP (G.mem r.2) {W with op:=some r.1})∧(r.1.how≠0→r.1.how≠6→Nx l P bt iP (G.mem r.2) {W with op:=some r.1} (yV l (G.mem r.2) {W with op:=some r.1} t bt G.vp r.1.how).2∧(yV l (G.mem r.2) {W with op:=some r.1} t bt G.vp r.1.how).1=G.mem r.2))→∃iP,rG l P bt ro iP G i W (pn l G W O t bt G.vp)∧True:=by
  intro u d hd hO aAs;obtain⟨iP,hr⟩:=aiE c.lg c.ty hd c.caller hO;obtain⟨h0,hn⟩:=aAs iP _ hr;refine⟨iP,?_,trivial⟩;have L9:∀a s,kY ro a s→s.Jj→(O.step G.M W.id).2.get a=G.M.get a:=λa s hs hp=>hr.same a s hs (by cases s<;>first|exact hp.elim|exact λq=>q)
  obtain⟨m,hm,_⟩:=hr.ext;unfold pn;dsimp only;generalize O.step G.M W.id=r at hr h0 hn L9 ⊢;split
  ·rename_i e;exact Ef (m:=m) (mc:=[]) c hr.ty hm rfl (by rw[List.append_nil];rfl) L9 rfl rfl rfl rfl kZ (by dsimp only;rw[bN];simp) (λ_=>h0 e) (λ_=>⟨λq=>c.fl.no q,c.fl.RS,c.fl.ag⟩)
  split
  ·rename_i e0 e;have her:=hr.err e;exact Ef (m:=m) (mc:=[]) c {hr.ty with} hm rfl (by rw[List.append_nil];rfl) L9 rfl rfl rfl rfl kZ (by dsimp only;rw[bN];simp) (λq=>absurd q her) (λq=>absurd q her)
  ·rename_i e0 e6;obtain⟨nx,e⟩:=hn e0 e6;exact agl (m:=m) (mc:=[]) (W1:={W with op:=some r.1}) c (by rw[e];exact hr.ty) hm (by rw[e];rfl) (by rw[e,List.append_nil];rfl) (λa s h1 h2=>by rw[e];exact L9 a s h1 h2) kZ ⟨rfl,rfl,rfl,rfl⟩ (λ_=>by rw[e];exact nx) ⟨nx.st,nx.bk,nx.id,nx.dq,nx.ns⟩
 have ZO:=c.ty.t1;have vq:∀h:W.stack≠ [],t.id=((W.stack.headD 0:Nat):Int):=λh=>by rw[ht];exact c.tid h
 have RT:∀(r:bp×bK),q4 P G W→q4 P (G.mem r.2) {W with op:=some r.1}:=λr q=>⟨q.ne,q.hm,q.tg⟩
 have hSe:∀(r:bp×bK),CQ l P G W→CQ l P (G.mem r.2) {W with op:=some r.1}:=λr q=>⟨q.how,q.left,q.what.imp id λz=>⟨RT r z.1,z.2⟩⟩
 have hFl:∀(r:bp×bK),Ee {W with op:=some r.1}:=λr=>⟨λq=>c.fl.no q,c.fl.RS,c.fl.ag⟩
 have hct:∀{iP:List Ro} {r:bp×bK},(match W.after with
  | .c .FA=>W.stack=[]∧W.wait.how=1∧BM l iP G.ts.length i W.dq r.1∧r.1.kind=1
  | .c .tP=>W.stack≠ []∧Bs P G.ts.length (G.tk (W.stack.headD 0))∧(0≤W.jk∧W.jk<G.ts.length)∧BM l iP G.ts.length i W.dq r.1∧r.1.kind=0
  | .c .sH=>q4 P (G.mem r.2) {W with op:=some r.1}∧(yW W.again=true→W.dA= .m .vu∧W.wait.how=1)∧(RR W.again=true→W.dA= .c .Cs)∧BM l iP G.ts.length i W.dq r.1∧r.1.kind=1
  | .m .Tv=>CQ l P (G.mem r.2) {W with op:=some r.1}∧(∃u,u<l.wa.length∧u≠i∧BM l iP G.ts.length u (bt.getD u 0) r.1∧r.1.kind=2)∧r.1.next≤18
  | .m .Aj=>CQ l P (G.mem r.2) {W with op:=some r.1}∧(∃u,u<l.wa.length∧u≠i∧BM l iP G.ts.length u (bt.getD u 0) r.1∧r.1.kind=2)∧r.1.next=19
  |_=>False)→cy l P bt iP (G.mem r.2) {W with op:=some r.1}:=λq=>at3 (W:={W with op:=some _}) bN rfl at4 q
 split at ct
 ·rename_i ha;obtain⟨a1,a2,a3,a4⟩:=ct;have hf:=c.fl.no (by unfold Wk.waits;rw[bN];dsimp only;rw[ha])
  have e1:∀(r:bp×bK) (st:Int),yV l (G.mem r.2) {W with op:=some r.1} t bt G.vp st=FA (G.mem r.2) {W with op:=some r.1} st:=λr st=>by unfold yV;dsimp only;rw[ha]
  refine main i W.dq c.own a3 λiP r hr=>⟨λe=> ?_,λe e6=> ?_⟩
  ·obtain⟨b1,b2⟩:=hr.live (.inl e);refine hct ?_;rw[ha];exact⟨a1,a2,b1,by rw[b2,a4]⟩
  ·rw[e1];unfold FA;dsimp only;refine⟨?_,rfl⟩;split
   ·refine RW hf.1 hf.2 (Xg hr.got ZO) ?_;show Ed P _ W.stack _;rw[a1];rfl
   ·exact⟨rfl,rfl,rfl,rfl,by simp[Wk.search],by unfold cy Wk.search;exact⟨a2,bc,.inl ⟨a1,rfl,rfl,rfl⟩⟩,oS hf.1 hf.2⟩
 ·rename_i ha;obtain⟨a1,a2,a3,a4,a5⟩:=ct;have hf:=c.fl.no (by unfold Wk.waits;rw[bN];dsimp only;rw[ha])
  have e1:∀(r:bp×bK) (st:Int),yV l (G.mem r.2) {W with op:=some r.1} t bt G.vp st=tP (G.mem r.2) {W with op:=some r.1} st:=λr st=>by unfold yV;dsimp only;rw[ha]
  refine main i W.dq c.own a4 λiP r hr=>⟨λe=> ?_,λe e6=> ?_⟩
  ·obtain⟨b1,b2⟩:=hr.live (.inl e);refine hct ?_;rw[ha];exact⟨a1,a2,a3,b1,by rw[b2,a5]⟩
  ·rw[e1];unfold tP;dsimp only;refine⟨?_,rfl⟩;obtain⟨x,st,hst⟩:=List.exists_cons_of_ne_nil a1;have hm:Ed P (G.mem r.2) W.stack (.m .next):=by rw[hst]at a2 ⊢;exact a2
   split
   ·exact RW hf.1 hf.2 a3 hm
   ·exact⟨rfl,rfl,rfl,rfl,by simp[Wk.I0],by unfold cy Wk.I0;exact hm,oS hf.1 hf.2⟩
 ·rename_i ha;obtain⟨a1,a2,a3,a4,a5⟩:=ct;have e1:∀(r:bp×bK) (st:Int),yV l (G.mem r.2) {W with op:=some r.1} t bt G.vp st=sH (G.mem r.2) {W with op:=some r.1} t st:=λr st=>by unfold yV;dsimp only;rw[ha]
  refine main i W.dq c.own a4 λiP r hr=>⟨λe=> ?_,λe e6=> ?_⟩
  ·obtain⟨b1,b2⟩:=hr.live (.inl e);refine hct ?_;rw[ha];exact⟨(RT r a1).of rfl rfl rfl rfl,a2,a3,b1,by rw[b2,a5]⟩
  ·rw[e1];unfold sH;split
   ·exact Zh (W:={W with op:=some r.1}) (vq a1.ne) (RT r a1) (hFl r) a2 a3
   ·exact aer (W:={W with op:=some r.1}) (RT r a1) (hFl r) (Xg hr.got ZO)
 ·rename_i ha;obtain⟨a1,⟨u,a2,a3,a4,a5⟩,a6⟩:=ct;have hwt:W.none_= .m .nothing→W.waits=true:=λq=>by unfold Wk.waits;rw[bN];dsimp only;rw[ha];dsimp only;rw[q];rfl
  have hff:W.stack=[]→W.bH=false∧W.blocked=false:=λq=>by
   refine c.fl.no ?_;rcases a1.what with⟨_,_,_,z⟩|⟨z,_⟩
   ·unfold Wk.waits;rw[bN];dsimp only;rw[ha];dsimp only;rw[z];rfl
   ·exact absurd q z.ne
  have e1:∀(r:bp×bK) (st:Int),yV l (G.mem r.2) {W with op:=some r.1} t bt G.vp st=Tv l (G.mem r.2) {W with op:=some r.1} t bt G.vp st:=λr st=>by unfold yV;dsimp only;rw[ha]
  refine main u (bt.getD u 0) (c.dq u a2) a4 λiP r hr=>⟨λe=> ?_,λe e6=> ?_⟩
  ·obtain⟨b1,b2⟩:=hr.live (.inl e);have hh:=hr.how a5;refine hct ?_;rw[ha];exact⟨(hSe r a1).of rfl rfl rfl rfl rfl rfl rfl rfl rfl rfl rfl,⟨u,a2,a3,b1,by rw[b2,a5]⟩,ah⟩
  ·rw[e1];unfold Tv;split
   ·exact Vi (G:=G.mem r.2) (W:={W with op:=some r.1}) ZO c.wt.id c.amJ.1 (hSe r a1) (hFl r) hwt hff
   ·rename_i hno;have e2:r.1.how=2:=by
     have:=not_or.1 hno;omega
    obtain⟨b1,b2⟩:=hr.live (.inr e2);have hh:=hr.how a5;refine⟨⟨rfl,rfl,rfl,rfl,by dsimp only;rw[bN];simp,?_,?_⟩,rfl⟩
    ·refine at3 (W:={W with op:=some r.1,after:= .m .Aj}) (i:=i) bN rfl at4 ?_;refine⟨(hSe r a1).of rfl rfl rfl rfl rfl rfl rfl rfl rfl rfl rfl,⟨u,a2,a3,b1,by rw[b2,a5]⟩,?_⟩
     have:=b1.how;rw[e2]at this;apply Classical.byContradiction;intro q;rw[if_neg q]at this;cases this
    ·refine⟨λq=> ?_,c.fl.RS,λ_ q=>by dsimp only at q;rw[bN]at q;rcases q with q|q<;>cases q⟩
     unfold Wk.waits at q;dsimp only at q;rw[bN]at q;dsimp only at q;refine c.fl.no ?_;unfold Wk.waits;rw[bN];dsimp only;rw[ha];exact q
 ·rename_i ha;obtain⟨a1,⟨u,a2,a3,a4,a5⟩,a6⟩:=ct;have hwt:W.none_= .m .nothing→W.waits=true:=λq=>by unfold Wk.waits;rw[bN];dsimp only;rw[ha];dsimp only;rw[q];rfl
  have hff:W.stack=[]→W.bH=false∧W.blocked=false:=λq=>by
   refine c.fl.no ?_;rcases a1.what with⟨_,_,_,z⟩|⟨z,_⟩
   ·unfold Wk.waits;rw[bN];dsimp only;rw[ha];dsimp only;rw[z];rfl
   ·exact absurd q z.ne
  have e1:∀(r:bp×bK) (st:Int),yV l (G.mem r.2) {W with op:=some r.1} t bt G.vp st=Aj l (G.mem r.2) {W with op:=some r.1} t bt st:=λr st=>by unfold yV;dsimp only;rw[ha]
  refine main u (bt.getD u 0) (c.dq u a2) a4 λiP r hr=>⟨λe=> ?_,λe e6=> ?_⟩
  ·have hh:=hr.how a5;omega
  ·rw[e1];unfold Aj;split
   ·unfold asM;rcases a1.what with⟨z1,z2,z3,z4⟩|⟨z1,z2,z3,z4⟩
    ·rw[if_neg (by dsimp only;rw[z3];simp)]
     refine⟨RW (G:=G.mem r.2) (W:={W with op:=some r.1}) (hff z1).1 (hff z1).2 (Xg hr.got ZO) ?_,rfl⟩;show Ed P _ W.stack _;rw[z1];rfl
    ·rw[if_pos z3];exact aer (W:={W with op:=some r.1}) (RT r z1) (hFl r) (Xg hr.got ZO)
   ·have:=Vi (l:=l) (P:=P) (bt:=bt) (ro:=iP) (G:=G.mem r.2) (i:=i) (t:=t) (W:={W with op:=some r.1,late:=true}) ZO c.wt.id c.amJ.1 (a1.of rfl rfl rfl rfl rfl rfl rfl rfl rfl rfl rfl) ⟨λq=>c.fl.no q,c.fl.RS,c.fl.ag⟩ hwt hff
    exact⟨⟨this.1.st,this.1.bk,this.1.id,this.1.dq,this.1.ns,this.1.ct,this.1.fl⟩,this.2⟩
 ·exact ct.elim
theorem aAu(c:Cx l P bt ro G i W)(bN:W.cM= .m .cD):rG l P bt ro ro G i W (cD G W):=by
 have ct:=c.ct;unfold cy at ct;rw[bN]at ct;dsimp only at ct;exact sL (W1:=W) c (.inr rfl) (by rw[ej,bN];decide) ⟨rfl,rfl,rfl,rfl⟩ ⟨rfl,rfl,rfl,rfl,by simp[cD],by unfold cy cD;exact ct,agk c (by unfold Wk.waits;rw[bN]) rfl rfl⟩
theorem at6(c:Cx l P bt ro G i W)(bN:W.cM= .m .asked)(ht:t=G.tk (W.stack.headD 0)):rG l P bt ro ro G i W (asked G W t (G.tk (W.target.getD 0)) (W.target.getD 0)):=by
 have ct:=c.ct;unfold cy at ct;rw[bN]at ct;dsimp only at ct;obtain⟨a1,a2,a3⟩:=ct;obtain⟨y,h1,h2,h3⟩|⟨k,h1,_⟩:=a1.cases;rotate_left
 ·rw[h1]at a2;cases a2
 have hy:W.target.getD 0=y:=by rw[h2];rfl
 have hyn:y<G.ts.length:=h3.2.2.2;have ha:q4 P (G.tick W.id) W:=⟨a1.ne,a1.hm,a1.tg⟩;have hk:=c.ty.val _ _ (c.ty.pX hyn).k;unfold asked;dsimp only;rw[hy,Int.add_zero];refine sL (W1:=W) c (.inr rfl) (by rw[ej,bN];decide) ⟨rfl,rfl,rfl,rfl⟩ ?_
 dsimp only;split
 ·exact RV (k:= .U7 y W.again) ha c.fl ⟨hyn,rfl⟩
 split
 ·refine⟨rfl,rfl,rfl,rfl,by simp[Wk.drain],?_,RU c rfl rfl rfl rfl ⟨rfl,rfl⟩⟩
  unfold cy Wk.drain;exact⟨ha.of rfl rfl rfl rfl,λ_=>⟨rfl,a3⟩,λq=>by dsimp only at q;rw[h1]at q;cases q⟩
 ·rename_i n0 n1;have GI:G.M.get (G.tk y).jC=G.K y:=rfl;have:=RV (l:=l) (P:=P) (bt:=bt) (ro:=ro) (G:=G.tick W.id) (W:={W with kind:=G.M.get (G.tk y).jC}) (k:= .c .HY) (ha.of rfl rfl rfl rfl) ⟨λq=>c.fl.no q,c.fl.RS,c.fl.ag⟩ ⟨a2,by dsimp only;rw[hy];rfl,by dsimp only;have:=hk.1;omega⟩
  exact⟨this.st,this.bk,this.id,this.dq,this.ns,this.ct,this.fl⟩
theorem aoV(c:Cx l P bt ro G i W)(bN:W.cM= .m .tO)(ht:t=G.tk (W.stack.headD 0)):rG l P bt ro ro G i W (tO l G W t):=by
 have ct:=c.ct;unfold cy at ct;rw[bN]at ct;dsimp only at ct;obtain⟨a1,a2,a3⟩:=ct;have ha:q4 P (G.tick W.id) W:=⟨a1.ne,a1.hm,a1.tg⟩;unfold tO;dsimp only;split
 ·have nx:=Zh (l:=l) (bt:=bt) (ro:=ro) (t:=t) (by rw[ht];exact c.tid a1.ne) ha c.fl a2 a3
  exact sL (W1:=W) c (.inr nx.2) (by rw[ej,bN];decide) ⟨rfl,rfl,rfl,rfl⟩ (by rw[nx.2];exact nx.1)
 ·refine sL (W1:=W) c (.inr rfl) (by rw[ej,bN];decide) ⟨rfl,rfl,rfl,rfl⟩ ⟨rfl,rfl,rfl,rfl,by simp[Wk.AE],?_,RU c rfl rfl rfl rfl ⟨rfl,rfl⟩⟩
  unfold cy Wk.AE;exact⟨_,rfl,ha.of rfl rfl rfl rfl,a2,a3,Xe c.ty.t1 ⟨ah,by have:=c.ty.t1;show(0:Int)<G.ts.length;omega⟩ ah,rfl⟩
theorem ak3(c:Cx l P bt ro G i W)(bN:W.cM= .m .qV):rG l P bt ro ro G i W (qV l G W):=by
 have ct:=c.ct;unfold cy at ct;rw[bN]at ct;dsimp only at ct;have ha:q4 P (G.tick W.id) W:=⟨ct.1.ne,ct.1.hm,ct.1.tg⟩;exact sL (W1:=W) c (.inr rfl) (by rw[ej,bN];decide) ⟨rfl,rfl,rfl,rfl⟩ ⟨rfl,rfl,rfl,rfl,by simp[qV],by unfold cy qV;exact⟨ha.of rfl rfl rfl rfl,ct.2,rfl⟩,RU c rfl rfl rfl rfl ⟨rfl,rfl⟩⟩
theorem ak4(c:Cx l P bt ro G i W)(bN:W.cM= .m .rT)(ht:t=G.tk (W.stack.headD 0)){nd:Nd}:rG l P bt ro ro G i W (rT G W t nd):=by
 have ct:=c.ct;unfold cy at ct;rw[bN]at ct;dsimp only at ct;obtain⟨a1,a2,a3⟩:=ct;have ha:q4 P (G.tick W.id) W:=⟨a1.ne,a1.hm,a1.tg⟩;unfold rT;split
 ·refine sL (W1:=W) c (.inr rfl) (by rw[ej,bN];decide) ⟨rfl,rfl,rfl,rfl⟩ ?_
  obtain⟨y,h1,_⟩|⟨k,h1,_,h3,h4⟩:=a1.cases
  ·rw[h1]at a2;cases a2
  refine RV ha c.fl ?_;rw[h3];unfold qW at h4;split at h4
  ·rename_i e;cases e
  ·rename_i e;cases e
  ·rename_i e;cases e;exact h1
  ·rename_i e;cases e;exact h1
  ·exact h4.elim
 ·have nx:=aiH (l:=l) (bt:=bt) (ro:=ro) (t:=t) (by rw[ht];exact c.tid a1.ne) ha a3 c.fl
  exact sL (W1:=W) c (.inr nx.2) (by rw[ej,bN];decide) ⟨rfl,rfl,rfl,rfl⟩ (by rw[nx.2];exact nx.1)
theorem aiJ(c:Cx l P bt ro G i W)(bN:W.cM= .m .register):rG l P bt ro ro G i W (register G W (G.tk (W.target.getD 0))):=by
 have ct:=c.ct;unfold cy at ct;rw[bN]at ct;dsimp only at ct;obtain⟨a1,a2⟩:=ct;obtain⟨y,h1,h2,h3⟩|⟨k,h1,_⟩:=a1.cases;rotate_left
 ·rw[h1]at a2;cases a2
 have hy:W.target.getD 0=y:=by rw[h2];rfl
 have hl:=(c.ty.pX h3.2.2.2).w;unfold register;rw[hy];refine Ef (m:=[]) (mc:=[]) c (c.ty.ad hl trivial) bc rfl (by rw[List.append_nil];rfl) (xl c.ty rfl hl (λq=>q)) rfl rfl rfl rfl (by rw[bN];decide) (by dsimp only;rw[h1];simp) (λ_=> ?_) (λ_=> ?_)
 ·unfold cy;dsimp only;rw[h1];exact⟨a1.ne,h3⟩
 ·refine⟨λq=> ?_,λ_=>a2,λ_ _=>rfl⟩;unfold Wk.waits at q;dsimp only at q;rw[h1]at q;cases q
theorem Vj{wk:Int}(c:Cx l P bt ro G i W)(hne:W.stack≠ [])(hk:qW P G.ts.length (G.tk (W.stack.headD 0)) (.aw y))(hf:W.bH=true∨W.blocked=true→W.again= .aw y)(hW:W1.stack=W.stack∧W1.back=W.back∧W1.id=W.id∧W1.dq=W.dq∧W1.bH=W.bH∧W1.blocked=W.blocked):
  Nx l P bt ro (G.tick wk) W1 (FH l G W1 (G.tk (W.stack.headD 0)) y).2:=by
 obtain⟨e1,e2,e3,e4,e5,e6⟩:=hW;have hin:=(c.ty.pX (c.top hne).2).ZM;refine⟨rfl,rfl,rfl,rfl,by simp[FH,Wk.looks],?_,?_⟩
 ·unfold cy FH Wk.looks;dsimp only;rw[e1];exact⟨_,rfl,rfl,hin,.refl hin.1 hin.2,hne,⟨hne,hk,rfl⟩,rfl,rfl⟩
 ·exact⟨λq=>by unfold Wk.waits FH Wk.looks at q;(cases q),λ_=>rfl,λ_ q=>by rcases q with q|q<;>(cases q)⟩
theorem aC7(c:Cx l P bt ro G i W)(bN:W.cM= .aw y)(ht:t=G.tk (W.stack.headD 0)):rG l P bt ro ro G i W (FH l G W t y):=by
 have ct:=c.ct;unfold cy at ct;rw[bN]at ct;dsimp only at ct;subst ht;refine sL (W1:=W) c (.inr rfl) (by rw[ej,bN];simp) ⟨rfl,rfl,rfl,rfl⟩ (Vj (W1:=W) c ct.1 ct.2 (λq=> ?_) ⟨rfl,rfl,rfl,rfl,rfl,rfl⟩)
 rw[c.fl.ag q (by rw[bN];exact .inl rfl),bN]
theorem aC8{k:Kn}(c:Cx l P bt ro G i W)(bN:W.cM= .sh k)(ht:t=G.tk (W.stack.headD 0)):rG l P bt ro ro G i W (G,shut W k t):=by
 have ct:=c.ct;unfold cy at ct;rw[bN]at ct;dsimp only at ct;have hr:W.bH=false:=by
  cases h:W.bH with
  |false=>rfl
  |true=>
   have h1:=c.fl.RS h;rw[c.fl.ag (.inl h) (by rw[bN];exact .inr rfl),bN]at h1
   cases h1
 exact sL (W1:=W) c (.inl rfl) (by rw[ej,bN];simp) ⟨rfl,rfl,rfl,rfl⟩ (Xf ct.1 ct.2 hr λq=>by rw[c.fl.ag (.inr q) (by rw[bN];exact .inr rfl),bN])
theorem axf(c:Cx l P bt ro G i W)(bN:W.cM= .m .HJ)(ht:t=G.tk (W.stack.headD 0)):rG l P bt ro ro G i W (HJ l G W t):=by
 have ct:=c.ct;unfold cy at ct;rw[bN]at ct;dsimp only at ct;subst ht;unfold HJ again;dsimp only;obtain⟨y,h1,h2,h3⟩|⟨k,h1,h2,h3,h4⟩:=ct.cases
 ·rw[h1];dsimp only;have nx:=Vj (l:=l) (bt:=bt) (ro:=ro) (wk:=W.id) (W1:={W with wait:=⟨0,W.wait.seen⟩}) c ct.ne h3 (λ_=>h1) ⟨rfl,rfl,rfl,rfl,rfl,rfl⟩
  exact sL (W1:={W with wait:=⟨0,W.wait.seen⟩}) c (.inr rfl) (by rw[ej,bN];simp) ⟨rfl,rfl,rfl,rfl⟩ nx
 ·rw[h1];dsimp only;have hr:W.bH=false:=by
   cases h:W.bH with
   |false=>rfl
   |true=>have h1':=c.fl.RS h;rw[h1]at h1';cases h1'
  exact sL (W1:={W with wait:=⟨0,W.wait.seen⟩}) c (.inl rfl) (by rw[ej,bN];simp) ⟨rfl,rfl,rfl,rfl⟩ (Xf (W:={W with wait:=⟨0,W.wait.seen⟩}) ct.ne h4 hr λq=>h1)
theorem axg(c:Cx l P bt ro G i W)(bN:W.cM= .m .join)(ht:t=G.tk (W.stack.headD 0)):rG l P bt ro ro G i W (join l P G W t):=by
 have ct:=c.ct;unfold cy at ct;rw[bN]at ct;dsimp only at ct;subst ht;obtain⟨a1,a2,a3⟩:=ct;obtain⟨b1,b2⟩:=a2.fi.hand c.acc a3;have hf:=c.fl.no (by unfold Wk.waits;rw[bN])
 unfold join;dsimp only;have e:(if (bu P (G.tk (W.stack.headD 0)).f).getD 0 0=10 then(bu P (G.tk (W.stack.headD 0)).f).getD 3 0 else(bu P (G.tk (W.stack.headD 0)).f).getD 2 0)=GA (bu P (G.tk (W.stack.headD 0)).f):=rfl
 rw[e];refine sL (W1:=W) c (.inr rfl) (by rw[ej,bN];decide) ⟨rfl,rfl,rfl,rfl⟩ (Vj (W1:=W) c a1 ⟨a2,a3,?_,?_⟩ (λq=>by rw[hf.1,hf.2]at q;rcases q with q|q<;>cases q) ⟨rfl,rfl,rfl,rfl,rfl,rfl⟩)
 ·unfold hand;omega
 ·omega
end
open Fr (Ax nu dQ eB dc iB jj nR oT)
structure Sm (t t':Tk):Prop where
 id:t'.id=t.id
 lX:t'.lX=t.lX
 own:t'.own=t.own
 jC:t'.jC=t.jC
section
variable {l:Lc} {P:List dH} {bt:List Int} {ro iP:List Ro} {G G' G1:Gl} {hold:List Nat} {W W' W1:Wk} {t t':Tk} {n i x y:Nat} {s a v:Int} {r:Ro}
theorem Tz.to{nC:Nat}(h:Tz ro nC x t)(hs:Sm t t')(ho:∀p∈t'.cD,0≤p.1∧p.1<nC)(hn:t'.gF.size+t'.cD.length≤t'.scopes.length)(hl:t'.scopes.length≤nC):Tz ro nC x t':=
 ⟨by rw[hs.id];exact h.id,by rw[hs.jC];exact h.k,by rw[hs.jC];exact h.v,by rw[hs.jC];exact h.w,by rw[hs.lX];exact h.ZM,by rw[hs.own];exact h.own,ho,hn,hl⟩
theorem Tz.f{nC:Nat}(h:Tz ro nC x t){f:List Int}{kind v:Int}:Tz ro nC x {t with f:=f,kind:=kind,v:=v}:=h.to ⟨rfl,rfl,rfl,rfl⟩ h.cD h.sn h.sl
theorem Cx.ne0(c:Cx l P bt ro G i W)(h:W.stack≠ []):∃x st,W.stack=x::st∧W.stack.headD 0=x∧x<G.ts.length:=by
 obtain⟨x,st,e⟩:=List.exists_cons_of_ne_nil h;exact⟨x,st,e,by rw[e];rfl,by have:=(c.top h).2;rw[e]at this;exact this⟩
theorem Xh{r:Gl}(hr:r.ts=G.ts.set x t')(hx:x<G.ts.length):r.tk x=t'∧r.ts.length=G.ts.length:=by
 refine⟨?_,by rw[hr];simp⟩
 unfold Gl.tk;rw[hr,uu hx];rfl
theorem agm{r:SW}(M:bK)(steps:Int)(tm:Int×List (Int×Int))(p:List Pl)(c:Cx l P bt ro G i W)(hne:W.stack≠ [])(hx:W.stack.headD 0=x)(hr:r.1={G with M:=M,ts:=G.ts.set x t',steps:=steps,time:=tm,P:=p})
  (hM:Ty l ro (G.mem M)) (L9:∀a s,kY ro a s→s.Jj→M.get a=G.M.get a) (hs:Sm (G.tk x) t') (hT:Tz ro G.C.length x t') (hck:CK tm) (aC9:∀y∈tm.2,y.2<G.C.length) (hp:p.length=G.P.length)
  (ux:ej W) (h3:W1.stack=W.stack∧W1.back=W.back∧W1.id=W.id∧W1.dq=W.dq) (nx:r.1.tk x=t'→r.1.ts.length=G.ts.length→Nx l P bt ro r.1 W1 r.2):rG l P bt ro ro G i W r:=by
 have qL:x<G.ts.length:=by rw[←hx];exact(c.top hne).2
 obtain⟨e1,e2⟩:=Xh (r:=r.1) (by rw[hr]) qL
 replace nx:=nx e1 e2;have ty:Ty l ro r.1:=by
  rw[hr];have h:=hM.set (x:=x) (t:=t') (λ_=>hT);exact{h with ck:=hck,PF:=aC9,pl:=by show p.length=_;rw[hp];exact c.ty.pl}
 exact atY (m:=[]) (mc:=[]) (t':=t') c hne ty bc (by rw[hr,hx]) (by rw[hr,List.append_nil]) (λa s h4 h5=>by rw[hr];exact L9 a s h4 h5) (by rw[hx];exact hs.lX) (by rw[hx];exact hs.own) (by rw[hx];exact hs.jC) (by rw[nx.st,h3.1]) (by rw[nx.bk,h3.2.1]) (by rw[nx.id,h3.2.2.1]) (by rw[nx.dq,h3.2.2.2]) ux nx.ns (λ_=>nx.ct) (λ_=>nx.fl)
theorem Yy{r:SW}(c:Cx l P bt ro G i W)(hne:W.stack≠ [])(hx:W.stack.headD 0=x)(hG:G1=G∨G1=G.tick W.id)(hr:r.1=G1.set x t'∨r.1=(G1.set x t').lU)(hs:Sm (G.tk x) t')(hT:Tz ro G.C.length x t')
  (ux:ej W) (h3:W1.stack=W.stack∧W1.back=W.back∧W1.id=W.id∧W1.dq=W.dq) (nx:r.1.tk x=t'→r.1.ts.length=G.ts.length→Nx l P bt ro r.1 W1 r.2):rG l P bt ro ro G i W r:=by
 have hM:Ty l ro (G.mem G1.M):=by rcases hG with e|e<;>rw[e];exact c.ty;exact c.tt
 have hp:∀a s,kY ro a s→s.Jj→G1.M.get a=G.M.get a:=by intro a s _ _;rcases hG with e|e<;>rw[e];rfl
 rcases hr with hr|hr
 ·exact agm G1.M G.steps G.time G.P c hne hx (by rw[hr];rcases hG with e|e<;>rw[e] <;>rfl) hM hp hs hT c.ty.ck c.ty.PF rfl ux h3 nx
 ·exact agm G1.M (wr (G.steps+1)) G.time G.P c hne hx (by rw[hr];rcases hG with e|e<;>rw[e] <;>rfl) hM hp hs hT c.ty.ck c.ty.PF rfl ux h3 nx
theorem vr{e:Int}(c:Cx l P bt ro G i W)(hG:G1=G∨G1=G.tick W.id)(he:e≠0)(ux:ej W)(h3:W1.stack=W.stack∧W1.back=W.back∧W1.id=W.id∧W1.dq=W.dq∧W1.cM=W.cM):rG l P bt ro ro G i W (G1.fail e,W1):=by
 have ty:Ty l ro (G1.fail e):=by rcases hG with q|q<;>rw[q];exact{c.ty with};exact{c.tt with}
 refine agl (m:=[]) (mc:=[]) (W1:=W1) c ty bc ?_ ?_ (λa s _ _=> ?_) ux ⟨h3.1,h3.2.1,h3.2.2.1,h3.2.2.2.1⟩ (λq=>absurd q he) ⟨rfl,rfl,rfl,rfl,by rw[h3.2.2.2.2];exact ux.1⟩
 ·rcases hG with q|q<;>rw[q] <;>rfl
 ·rcases hG with q|q<;>rw[q,List.append_nil] <;>rfl
 ·rcases hG with q|q<;>rw[q] <;>rfl
theorem agn{kind v:Int}(c:Cx l P bt ro G i W)(hne:W.stack≠ [])(hx:W.stack.headD 0=x)(ht:t=G.tk x)(hG:G1=G∨G1=G.tick W.id)(hk:2≤kind∧kind≤4)(h1:W.bH=false)(h2:W.blocked=false)(ux:ej W)
  (h3:W1.stack=W.stack∧W1.back=W.back∧W1.id=W.id∧W1.dq=W.dq∧W1.bH=W.bH∧W1.blocked=W.blocked):rG l P bt ro ro G i W (ends G1 W1 x t kind v):=by
 have qL:x<G.ts.length:=by rw[←hx];exact(c.top hne).2
 subst ht;refine Yy (t':={G.tk x with kind:=kind,v:=v}) (G1:=G1) (W1:=W1) c hne hx hG (.inl rfl) ⟨rfl,rfl,rfl,rfl⟩ ((c.ty.pX qL).f (f:=(G.tk x).f)) ux ⟨h3.1,h3.2.1,h3.2.2.1,h3.2.2.2.1⟩ λe1 e2=> ?_
 have:=N0 (l:=l) (P:=P) (bt:=bt) (ro:=ro) (G:=(ends G1 W1 x (G.tk x) kind v).1) (W:=W1) (t:={G.tk x with kind:=kind,v:=v}) (by rw[h3.1];exact hne) (by rw[h3.1,hx];exact e1) ⟨hk.1,hk.2⟩ (by rw[h3.2.2.2.2.1];exact h1) (by rw[h3.2.2.2.2.2];exact h2)
 exact this
theorem amK(c:Cx l P bt ro G i W)(hne:W.stack≠ [])(hx:W.stack.headD 0=x)(ht:t=G.tk x)(hG:G1=G∨G1=G.tick W.id)(hR:Bs P G.ts.length (G.tk x))(h1:W.bH=false)(h2:W.blocked=false)(ux:ej W)
  (h3:W1.stack=W.stack∧W1.back=W.back∧W1.id=W.id∧W1.dq=W.dq∧W1.bH=W.bH∧W1.blocked=W.blocked∧W1.cM=W.cM):rG l P bt ro ro G i W (aed l G1 W1 x t (bu P t.f)):=by
 have qL:x<G.ts.length:=by rw[←hx];exact(c.top hne).2
 subst ht;unfold aed;split
 ·exact vr c hG fY ux ⟨h3.1,h3.2.1,h3.2.2.1,h3.2.2.2.1,h3.2.2.2.2.2.2⟩
 split
 ·rename_i hp;refine Yy (t':={G.tk x with f:=(dQ (G.tk x).f (bu P (G.tk x).f)).1}) (W1:=W1) c hne hx hG (.inr rfl) ⟨rfl,rfl,rfl,rfl⟩ ((c.ty.pX qL).f (kind:=(G.tk x).kind) (v:=(G.tk x).v)) ux ⟨h3.1,h3.2.1,h3.2.2.1,h3.2.2.2.1⟩ λe1 e2=> ?_
  refine⟨rfl,rfl,rfl,rfl,by simp[Wk.go],?_,oS (by rw[←h1];exact h3.2.2.2.2.1) (by rw[←h2];exact h3.2.2.2.2.2.1)⟩
  unfold cy Wk.go;dsimp only;rw[h3.1,hx];refine⟨hne,?_⟩;rw[show Gl.tk _ x=_ from e1];exact⟨(hR.fi.plain c.acc hp).imp λz hz=>⟨hz.1,by rw[e2];exact hz.2⟩,hR.kind⟩
 ·rename_i hp;have hop:=(hR.fi.aAh c.acc).2 (by simpa using hp)
  have X4:Nx l P bt ro G1 W1 (W1.go (ab1 ((bu P (G.tk x).f).getD 0 0))):=by
   refine⟨rfl,rfl,rfl,rfl,?_,?_,oS (by rw[←h1];exact h3.2.2.2.2.1) (by rw[←h2];exact h3.2.2.2.2.2.1)⟩
   ·show Kn.m (ab1 ((bu P (G.tk x).f).getD 0 0))≠ .m .start;have:(bu P (G.tk x).f).getD 0 0=8∨(bu P (G.tk x).f).getD 0 0=9∨(bu P (G.tk x).f).getD 0 0=10∨(bu P (G.tk x).f).getD 0 0=11∨(bu P (G.tk x).f).getD 0 0=12∨(bu P (G.tk x).f).getD 0 0=13∨(bu P (G.tk x).f).getD 0 0=14∨(bu P (G.tk x).f).getD 0 0=15∨(bu P (G.tk x).f).getD 0 0=16:=ah;rcases this with e|e|e|e|e|e|e|e|e<;>rw[e] <;>decide
   ·have hst:W1.stack≠ []:=by rw[h3.1];exact hne
    have NY:G1.tk (W1.stack.headD 0)=G.tk x:=by rw[h3.1,hx];rcases hG with e|e<;>rw[e];rfl
    have hn:G1.ts.length=G.ts.length:=by rcases hG with e|e<;>rw[e];rfl
    have Us:Bs P G1.ts.length (G1.tk (W1.stack.headD 0)):=by rw[NY,hn];exact hR
    have:(bu P (G.tk x).f).getD 0 0=8∨(bu P (G.tk x).f).getD 0 0=9∨(bu P (G.tk x).f).getD 0 0=10∨(bu P (G.tk x).f).getD 0 0=11∨(bu P (G.tk x).f).getD 0 0=12∨(bu P (G.tk x).f).getD 0 0=13∨(bu P (G.tk x).f).getD 0 0=14∨(bu P (G.tk x).f).getD 0 0=15∨(bu P (G.tk x).f).getD 0 0=16:=ah;have Ud:HK P (G1.tk (W1.stack.headD 0))=(bu P (G.tk x).f).getD 0 0:=by rw[NY]
    rcases this with e|e|e|e|e|e|e|e|e<;>rw[e]at Ud ⊢ <;>unfold cy Wk.go ab1
    ·exact⟨hst,Us,Ud⟩
    ·exact⟨hst,Us,.inl Ud⟩
    ·exact⟨hst,Us,.inr Ud⟩
    ·exact⟨hst,Us,Ud⟩
    ·exact⟨hst,Us,Ud⟩
    ·exact⟨hst,Us,Ud⟩
    ·exact⟨hst,Us,Ud⟩
    ·exact⟨hst,Us,.inl Ud⟩
    ·exact⟨hst,Us,.inr Ud⟩
  exact sL (W1:=W1) c hG ux ⟨h3.1,h3.2.1,h3.2.2.1,h3.2.2.2.1⟩ X4
theorem axh(c:Cx l P bt ro G i W)(bN:W.cM= .m .next)(hx:W.stack.headD 0=x)(ht:t=G.tk x):rG l P bt ro ro G i W (Vc l P G W x t):=by
 have ct:=c.ct;unfold cy at ct;rw[bN]at ct;dsimp only at ct;obtain⟨a1,a2⟩:=ct;rw[hx]at a2;have hf:=c.fl.no (by unfold Wk.waits;rw[bN])
 subst ht;have hin:=(c.ty.pX (c.top a1).2).ZM;rw[hx]at hin;unfold Vc;split
 ·refine sL (W1:=W) c (.inl rfl) (by rw[ej,bN];decide) ⟨rfl,rfl,rfl,rfl⟩ ⟨rfl,rfl,rfl,rfl,by simp[Wk.looks],?_,oS hf.1 hf.2⟩
  unfold cy Wk.looks;dsimp only;rw[hx];exact⟨_,rfl,rfl,hin,.refl hin.1 hin.2,a1,a2,rfl⟩
 ·exact amK c a1 hx rfl (.inl rfl) a2 hf.1 hf.2 (by rw[ej,bN];decide) ⟨rfl,rfl,rfl,rfl,rfl,rfl,rfl⟩
theorem at7{k:Lk}(h1:W.cM= .m .looking)(h2:W.look=some k)(hx:W.stack.headD 0=x)(a1:k.done=false)(a2:0≤k.at_∧k.at_<G.C.length)(a3:Oq G.C (G.tk x).lX k.at_)(a4:W.stack≠ [])(a5:match W.seen with
  | .nx i=>Bs P G.ts.length (G.tk x)∧i=bu P (G.tk x).f
  | .c .sI=>q4 P G W∧yW W.again=true∧W.wait.how=1
  | .c .wW=>Bs P G.ts.length (G.tk x)
  |_=>False):cy l P bt ro G W:=by
 unfold cy;dsimp only;rw[h1];dsimp only;subst hx;exact⟨k,h2,a1,a2,a3,a4,a5⟩
theorem ak5{k:Lk}(c:Cx l P bt ro G i W)(bN:W.cM= .m .looking)(hk:W.look=some k)(hx:W.stack.headD 0=x)(ht:t=G.tk x):rG l P bt ro ro G i W (looking l G W k (G.nd k.at_) x t):=by
 have ct:=c.ct;unfold cy at ct;rw[bN]at ct;dsimp only at ct;obtain⟨k',hk',a1,a2,a3,a4,a5⟩:=ct;rw[hk]at hk';cases hk';rw[hx]at a3 a5;subst ht;obtain⟨hsc,FB⟩:=c.ty.RP a2.1 a2.2;have kZ:ej W:=by rw[ej,bN];decide
 unfold looking;dsimp only;split
 ·rename_i hd;have axi:(k.go G.M (G.nd k.at_)).wT=true→RQ G (G.tk x):=λq=>by
   unfold Lk.go at q;dsimp only at q;exact⟨k.at_,a3,_,hsc,by simpa using q⟩
  split at a5
  ·rename_i hs;have e1:∀b,RK l (G.tick W.id) {W with look:=some (k.go G.M (G.nd k.at_))} x (G.tk x) b=ab2 l (G.tick W.id) {W with look:=some (k.go G.M (G.nd k.at_))} x (G.tk x) _ b:=λb=>by unfold RK;dsimp only;rw[hs]
   rw[e1];have hf:=c.fl.no (by unfold Wk.waits;rw[bN];dsimp only;rw[hs])
   unfold ab2;rw[a5.2];split
   ·exact agn c a4 hx rfl (.inr rfl) ⟨fY,fY⟩ hf.1 hf.2 kZ ⟨rfl,rfl,rfl,rfl,rfl,rfl⟩
   ·exact amK c a4 hx rfl (.inr rfl) a5.1 hf.1 hf.2 kZ ⟨rfl,rfl,rfl,rfl,rfl,rfl,rfl⟩
  ·rename_i hs;have e1:∀b,RK l (G.tick W.id) {W with look:=some (k.go G.M (G.nd k.at_))} x (G.tk x) b=sI (G.tick W.id) {W with look:=some (k.go G.M (G.nd k.at_))} b:=λb=>by unfold RK;dsimp only;rw[hs]
   rw[e1];unfold sI;obtain⟨b1,b2,b3⟩:=a5;have ha:q4 P (G.tick W.id) {W with look:=some (k.go G.M (G.nd k.at_))}:=⟨b1.ne,b1.hm,b1.tg⟩;have hfl:Ee {W with look:=some (k.go G.M (G.nd k.at_))}:=⟨λq=>c.fl.no q,c.fl.RS,c.fl.ag⟩
   refine sL (W1:={W with look:=some (k.go G.M (G.nd k.at_))}) c (.inr rfl) kZ ⟨rfl,rfl,rfl,rfl⟩ ?_;cases his:(k.go G.M (G.nd k.at_)).wT with
   |true=>
    rw[if_pos rfl];refine RV (k:= .m .cancelled) ha hfl ⟨b2,?_⟩;show RQ (G.tick W.id) (G.tk (W.stack.headD 0));rw[hx];obtain⟨b,h1,h2⟩:=axi his;exact⟨b,h1,h2⟩
   |false=>
    rw[if_neg bc];exact⟨rfl,rfl,rfl,rfl,by simp[Wk.go],by unfold cy Wk.go;exact⟨ha.of rfl rfl rfl rfl,b2,b3⟩,Zg hfl rfl rfl rfl rfl ⟨rfl,rfl⟩⟩
  ·rename_i hs;have e1:∀b,RK l (G.tick W.id) {W with look:=some (k.go G.M (G.nd k.at_))} x (G.tk x) b=wW (G.tick W.id) {W with look:=some (k.go G.M (G.nd k.at_))} x (G.tk x) b:=λb=>by unfold RK;dsimp only;rw[hs]
   rw[e1];have hf:=c.fl.no (by unfold Wk.waits;rw[bN];dsimp only;rw[hs])
   unfold wW;split
   ·exact agn c a4 hx rfl (.inr rfl) ⟨fY,fY⟩ hf.1 hf.2 kZ ⟨rfl,rfl,rfl,rfl,rfl,rfl⟩
   ·refine sL (W1:={W with look:=some (k.go G.M (G.nd k.at_))}) c (.inr rfl) kZ ⟨rfl,rfl,rfl,rfl⟩ ⟨rfl,rfl,rfl,rfl,by simp[Wk.go],?_,oS hf.1 hf.2⟩
    unfold cy Wk.go;dsimp only;rw[hx];exact⟨a4,a5⟩
  ·exact a5.elim
 ·rename_i hd;have hd:(k.go G.M (G.nd k.at_)).done=false:=by simpa using hd
  have CU:(k.go G.M (G.nd k.at_)).at_=(G.nd k.at_).parent:=rfl;have h0:k.at_≠0:=by intro q;unfold Lk.go at hd;dsimp only at hd;rw[q]at hd;simp at hd
  have hp:=FB.p ah;refine Ef (m:=[]) (mc:=[]) c c.tt bc rfl (by rw[List.append_nil];rfl) (λ_ _ _ _=>rfl) rfl rfl rfl rfl kZ (by dsimp only;rw[bN];simp) (λ_=> ?_) (λ_=>⟨λq=>c.fl.no q,c.fl.RS,c.fl.ag⟩)
  refine at7 (G:=G.tick W.id) (W:={W with look:=some (k.go G.M (G.nd k.at_))}) bN rfl hx hd ⟨by rw[CU];omega,by rw[CU];show _<((G.C.length:Nat):Int);omega⟩ (by rw[CU];exact a3.snoc hsc ah ah) a4 ?_
  have hq:q4 P G W→q4 P (G.tick W.id) {W with look:=some (k.go G.M (G.nd k.at_))}:=λq=>⟨q.ne,q.hm,q.tg⟩
  show match W.seen with
   | .nx i=>Bs P G.ts.length (G.tk x)∧i=bu P (G.tk x).f
   | .c .sI=>q4 P (G.tick W.id) {W with look:=some (k.go G.M (G.nd k.at_))}∧yW W.again=true∧W.wait.how=1
   | .c .wW=>Bs P G.ts.length (G.tk x)
   |_=>False
  generalize q4 P (G.tick W.id) {W with look:=some (k.go G.M (G.nd k.at_))}=Q at hq ⊢;split at a5<;>rename_i hs
  ·first|(rw[hs];exact a5)|exact a5
  ·first|(rw[hs];exact⟨hq a5.1,a5.2⟩)|exact⟨hq a5.1,a5.2⟩
  ·first|(rw[hs];exact a5)|exact a5
  ·exact a5.elim
end
section
variable {l:Lc} {P:List dH} {bt:List Int} {ro iP:List Ro} {G G' G1:Gl} {hold:List Nat} {W W' W1:Wk} {t t':Tk} {n i x y:Nat} {s a v:Int} {r:Ro}
theorem aua(h:t.cD≠ []):t.ku∈t.cD:=by
 obtain⟨o,m,wY⟩:∃o m,t.cD=o++[m]:=⟨_,_,(List.dropLast_concat_getLast h).symm⟩;rw[BY wY,wY];simp
theorem Bs.cD(h:Bs P n t):t.cD≠ []:=by have:=h.fi.d1;intro q;rw[q]at this;simp at this
theorem Cx.ku(c:Cx l P bt ro G i W)(hx:x<G.ts.length)(ho:(G.tk x).cD≠ []):0≤(G.tk x).ku.1∧(G.tk x).ku.1<G.C.length:=(c.ty.pX hx).cD _ (aua ho)
theorem axj(c:Cx l P bt ro G i W)(bN:W.cM= .m .pass)(hx:W.stack.headD 0=x)(ht:t=G.tk x):rG l P bt ro ro G i W (pass l G W x t):=by
 have ct:=c.ct;unfold cy at ct;rw[bN]at ct;dsimp only at ct;obtain⟨a1,a2,a3⟩:=ct;rw[hx]at a2 a3;have qL:x<G.ts.length:=by rw[←hx];exact(c.top a1).2
 have hf:=c.fl.no (by unfold Wk.waits;rw[bN])
 have kZ:ej W:=by rw[ej,bN];decide
 subst ht;unfold pass;split
 ·exact vr c (.inl rfl) fY kZ ⟨rfl,rfl,rfl,rfl,rfl⟩
 ·refine Yy (t':={G.tk x with f:=nu (G.tk x).f}) (W1:=W) c a1 hx (.inl rfl) (.inr rfl) ⟨rfl,rfl,rfl,rfl⟩ ((c.ty.pX qL).f (kind:=(G.tk x).kind) (v:=(G.tk x).v)) kZ ⟨rfl,rfl,rfl,rfl⟩ λe1 e2=> ?_
  refine⟨rfl,rfl,rfl,rfl,by simp[Wk.go],?_,oS hf.1 hf.2⟩
  unfold cy Wk.go;dsimp only;rw[hx,show Gl.tk _ x=_ from e1];exact⟨a1,⟨(a2.fi.on c.acc (.inr a3)).imp λz hz=>⟨hz.1,by rw[e2];exact hz.2⟩,a2.kind⟩⟩
theorem aoW(c:Cx l P bt ro G i W)(bN:W.cM= .m .cancel)(hx:W.stack.headD 0=x)(ht:t=G.tk x):rG l P bt ro ro G i W (cancel l G W x t (G.nd t.ku.1)):=by
 have ct:=c.ct;unfold cy at ct;rw[bN]at ct;dsimp only at ct;obtain⟨a1,a2,a3⟩:=ct;rw[hx]at a2 a3;have qL:x<G.ts.length:=by rw[←hx];exact(c.top a1).2
 have hf:=c.fl.no (by unfold Wk.waits;rw[bN])
 have kZ:ej W:=by rw[ej,bN];decide
 subst ht;unfold cancel;split
 ·exact vr c (.inl rfl) fY kZ ⟨rfl,rfl,rfl,rfl,rfl⟩
 have hin:=c.ku qL a2.cD;obtain⟨hsc,FB⟩:=c.ty.RP hin.1 hin.2;have hlt:=FB.a.lt;rw[c.ty.len]at hlt;have tyM:Ty l ro (G.mem (G.M.cs W.id (G.nd (G.tk x).ku.1).at_ 0 1).1):=c.ty.cs FB.a (.inr rfl);have sK:∀b,0≤b→(G.M.cs W.id (G.nd (G.tk x).ku.1).at_ 0 1).1.get b=if b=(G.nd (G.tk x).ku.1).at_∧G.M.get (G.nd (G.tk x).ku.1).at_=0 then 1 else G.M.get b:=λb hb=>Z7 FB.a.1 hlt hb
 have aDa:ur ro ro G (G.mem (G.M.cs W.id (G.nd (G.tk x).ku.1).at_ 0 1).1) W.hold:=by
  have hK:∀y,y<G.ts.length→(G.mem (G.M.cs W.id (G.nd (G.tk x).ku.1).at_ 0 1).1).K y=G.K y∧(G.mem (G.M.cs W.id (G.nd (G.tk x).ku.1).at_ 0 1).1).V y=G.V y:=λy hy=>by
   have hk:=(c.ty.pX hy).k;have hv:=(c.ty.pX hy).v;unfold Gl.K Gl.V;have e1:(G.mem (G.M.cs W.id (G.nd (G.tk x).ku.1).at_ 0 1).1).tk y=G.tk y:=rfl;rw[e1];have n1:=hk.ne FB.a bc;have n2:=hv.ne FB.a bc;show(G.M.cs _ _ _ _).1.get _=_∧(G.M.cs _ _ _ _).1.get _=_;rw[sK _ hk.1,if_neg (λq=>n1 q.1),sK _ hv.1,if_neg (λq=>n2 q.1)];exact⟨rfl,rfl⟩
  refine⟨⟨[],bc⟩,iv _,λ_ _ _=>rfl,λ_ _=>⟨rfl,rfl,rfl⟩,⟨[],by simp[Gl.mem]⟩,λy hy q=>by rw[←(hK y hy).1];exact q,λy hy _ _=>hK y hy,λy hy _=>hK y hy,λs' ⟨nd,h1,h2⟩=>⟨nd,h1,?_⟩⟩
  show(G.M.cs _ _ _ _).1.get _≠0;rw[sK _ (I9 c.ty h1).1];split
  ·decide
  ·exact h2
 obtain⟨e1,e2⟩:=Xh (r:=((G.mem (G.M.cs W.id (G.nd (G.tk x).ku.1).at_ 0 1).1).set x {G.tk x with f:=nu (G.tk x).f}).lU) (t':={G.tk x with f:=nu (G.tk x).f}) (G:=G) rfl qL;have hT:Tz ro G.C.length x {G.tk x with f:=nu (G.tk x).f}:=(c.ty.pX qL).f (kind:=(G.tk x).kind) (v:=(G.tk x).v);have hmem:x∈W.hold:=by
  obtain⟨z,st,h1,h2,_⟩:=c.ne0 a1;rw[kG kZ.1,h1,←hx,h2];simp
 have BO:ur ro ro G ((G.mem (G.M.cs W.id (G.nd (G.tk x).ku.1).at_ 0 1).1).set x {G.tk x with f:=nu (G.tk x).f}).lU W.hold:=by
  have h:=aDa.trans (acj (t':={G.tk x with f:=nu (G.tk x).f}) (G:=G.mem (G.M.cs W.id (G.nd (G.tk x).ku.1).at_ 0 1).1) (ro:=ro) hmem qL rfl rfl rfl) (.inl rfl);exact⟨h.ext,h.n,h.ts,h.ids,h.C,h.K0,h.K1,h.K2,h.ask⟩
 obtain⟨z,st,q1,q2,_⟩:=c.ne0 a1;have hz:z=x:=by rw[←hx,q2]
 subst hz;have hnd:=c.wt.nd;rw[kG kZ.1,q1]at hnd;refine aeo c ?_ BO rfl rfl rfl rfl kZ (by simp[Wk.I0]) (λy hy=> ?_) (λy hy=> ?_) (λ_=> ?_) (λ_=>oS hf.1 hf.2) (λy h1 h2=>by rw[e2]at h2;omega)
 ·have h:=tyM.set (x:=z) (t:={G.tk z with f:=nu (G.tk z).f}) (λ_=>hT)
  exact{h with}
 ·rw[q1]at hy;show Gl.tk _ y=_;unfold Gl.tk;show(((G.ts.set z _))[y]?).getD tk0=_;rw[rK (by rintro rfl;exact(List.nodup_cons.1 hnd).1 hy)]
 ·have GN:=c.wt.hl y (by rw[kG kZ.1];exact hy)
  have h1:=c.wt.run y (by rw[kG kZ.1];exact hy)
  have:=(BO.K2 y GN);by_cases hy2:2≤G.K y
  ·exact(this hy2).1
  ·have hk:=(c.ty.pX GN).k;have n1:=hk.ne FB.a bc;unfold Gl.K;rw[(BO.ids y GN).2.2];show(G.M.cs _ _ _ _).1.get _=_;rw[sK _ hk.1,if_neg (λq=>n1 q.1)]
 ·unfold cy Wk.I0;dsimp only;rw[q1];show qW P _ (Gl.tk _ z) (.m .next)
  rw[show Gl.tk _ z=_ from e1];exact⟨(a2.fi.on c.acc (.inl a3)).imp λz hz=>⟨hz.1,by rw[e2];exact hz.2⟩,a2.kind⟩
theorem aub(c:Cx l P bt ro G i W)(bN:W.cM= .m .leave)(hx:W.stack.headD 0=x)(ht:t=G.tk x):rG l P bt ro ro G i W (leave l P G W x t):=by
 have ct:=c.ct;unfold cy at ct;rw[bN]at ct;dsimp only at ct;obtain⟨a1,a2,a3⟩:=ct;rw[hx]at a2 a3;have qL:x<G.ts.length:=by rw[←hx];exact(c.top a1).2
 have hf:=c.fl.no (by unfold Wk.waits;rw[bN])
 have kZ:ej W:=by rw[ej,bN];decide
 subst ht;unfold leave;dsimp only;split
 ·exact vr c (.inl rfl) fY kZ ⟨rfl,rfl,rfl,rfl,rfl⟩
 ·refine Yy (t':={G.tk x with f:=nu (G.tk x).f,kind:=if (bu P (G.tk x).f).getD 0 0=15 then 3 else 2,v:=(G.tk x).f.getD (2+((bu P (G.tk x).f).getD 1 0).toNat) 0}) (W1:=W) c a1 hx (.inl rfl) (.inr rfl) ⟨rfl,rfl,rfl,rfl⟩ (c.ty.pX qL).f kZ ⟨rfl,rfl,rfl,rfl⟩ λe1 e2=> ?_
  have hE:Ends {G.tk x with f:=nu (G.tk x).f,kind:=if (bu P (G.tk x).f).getD 0 0=15 then 3 else 2,v:=(G.tk x).f.getD (2+((bu P (G.tk x).f).getD 1 0).toNat) 0}:=⟨by dsimp only;split<;>decide,by dsimp only;split<;>decide⟩
  exact N0 (t:={G.tk x with f:=nu (G.tk x).f,kind:=if (bu P (G.tk x).f).getD 0 0=15 then 3 else 2,v:=(G.tk x).f.getD (2+((bu P (G.tk x).f).getD 1 0).toNat) 0}) a1 (by rw[hx];exact e1) hE hf.1 hf.2
theorem auc(c:Cx l P bt ro G i W)(bN:W.cM= .m .close)(hx:W.stack.headD 0=x)(ht:t=G.tk x):rG l P bt ro ro G i W (close_ G W t):=by
 have ct:=c.ct;unfold cy at ct;rw[bN]at ct;dsimp only at ct;obtain⟨a1,a2,a3⟩:=ct;have hf:=c.fl.no (by unfold Wk.waits;rw[bN])
 exact sL (W1:=W) c (.inl rfl) (by rw[ej,bN];decide) ⟨rfl,rfl,rfl,rfl⟩ (Xf a1 ⟨a2,a3⟩ hf.1 λq=>by rw[hf.2]at q;cases q)
theorem Zi{p:List Pl}{s:Int}:(BX p s).length=p.length:=by unfold BX;split<;>simp
theorem amL(h:t.cD≠ []):t.cD.dropLast.length+1=t.cD.length:=by
 have:=List.length_pos_iff.2 h;simp;omega
theorem aoX(c:Cx l P bt ro G i W)(bN:W.cM= .m .gF)(hx:W.stack.headD 0=x)(ht:t=G.tk x):rG l P bt ro ro G i W (gF l P G W x t (G.nd t.ku.1)):=by
 have ct:=c.ct;unfold cy at ct;rw[bN]at ct;dsimp only at ct;obtain⟨a1,a2,a3⟩:=ct;rw[hx]at a2 a3;have qL:x<G.ts.length:=by rw[←hx];exact(c.top a1).2
 have hf:=c.fl.no (by unfold Wk.waits;rw[bN])
 have kZ:ej W:=by rw[ej,bN];decide
 subst ht;have hT:=c.ty.pX qL;have hd:=a2.fi.scopes c.acc (.inl a3);have hdl:=amL a2.cD;have hcap:=c.ty.cap;have xg:=hT.sn;have hsl:=hT.sl;unfold gF;dsimp only;split
 ·exact vr c (.inl rfl) fY kZ ⟨rfl,rfl,rfl,rfl,rfl⟩
 generalize hb:(G.M.get (G.nd (G.tk x).ku.1).at_ !=0)=b;have hsz:((G.tk x).gF++(if b then ByteArray.mk #[49]else ByteArray.mk #[48])).size=(G.tk x).gF.size+1:=by cases b<;>simp<;>rfl
 refine agm (t':={G.tk x with cD:=(G.tk x).cD.dropLast,gF:=(G.tk x).gF++(if b then ByteArray.mk #[49]else ByteArray.mk #[48]),f:=iB (G.tk x).f (bu P (G.tk x).f) b}) (W1:=W) (G.M.tick W.id) (wr (G.steps+1)) (G.time.1,Ko.D6 G.time.2 (G.tk x).ku.1) (BX G.P (G.tk x).ku.1) c a1 hx rfl c.tt (λ_ _ _ _=>rfl) ⟨rfl,rfl,rfl,rfl⟩ ?_ (c.ty.ck.drop _) (λy hy=>c.ty.PF y (List.mem_filter.1 hy).1) Zi kZ ⟨rfl,rfl,rfl,rfl⟩ λe1 e2=> ?_
 ·exact hT.to ⟨rfl,rfl,rfl,rfl⟩ (λp hp=>hT.cD p (List.dropLast_subset _ hp)) (by dsimp only;rw[hsz];omega) hsl
 ·refine⟨rfl,rfl,rfl,rfl,by simp[Wk.go],?_,oS hf.1 hf.2⟩
  unfold cy Wk.go;dsimp only;rw[hx,show Gl.tk _ x=_ from e1];refine⟨a1,⟨?_,a2.kind⟩⟩;have h:=a2.fi.gF (b:=b) c.acc ah a3;have e:(G.tk x).cD.dropLast.length=(G.tk x).cD.length - 1:=ah;show FI P _ (iB (G.tk x).f (bu P (G.tk x).f) b) (G.tk x).cD.dropLast.length;rw[e];exact h.imp λz hz=>⟨hz.1,by rw[e2];exact hz.2⟩
theorem aoY(c:Cx l P bt ro G i W)(bN:W.cM= .m .joined)(hx:W.stack.headD 0=x)(ht:t=G.tk x):rG l P bt ro ro G i W (joined l P G W x t (G.tk (W.target.getD 0))):=by
 have ct:=c.ct;unfold cy at ct;rw[bN]at ct;dsimp only at ct;obtain⟨a1,a2,a3,a4⟩:=ct;obtain⟨y,h1,h2,h3⟩|⟨k,h1,_⟩:=a1.cases;rotate_left
 ·rw[h1]at a2;cases a2
 have qL:x<G.ts.length:=by rw[←hx];exact(c.top a1.ne).2
 have hf:=c.fl.no (by unfold Wk.waits;rw[bN])
 have kZ:ej W:=by rw[ej,bN];decide
 subst ht;rw[hx]at h3;obtain⟨b1,b2,b3,b4⟩:=h3;have hkk:=c.ty.val _ _ (c.ty.pX b4).k;have hy:W.target.getD 0=y:=by rw[h2];rfl
 have hk4:W.kind=2∨W.kind=3∨W.kind=4:=by
  rw[a3,hy]at a4 ⊢;have:=hkk.2;unfold Gl.K at a4 ⊢;omega
 unfold joined;dsimp only;split
 ·exact vr c (.inl rfl) fY kZ ⟨rfl,rfl,rfl,rfl,rfl⟩
 generalize hv:(if W.kind=4 then(0:Int)else G.M.get ((G.tk (W.target.getD 0)).jC+1))=v
 have hG:(if W.kind=4 then G else G.tick W.id)=G∨(if W.kind=4 then G else G.tick W.id)=G.tick W.id:=by split<;>simp
 split
 ·rename_i hb;refine Yy (t':={G.tk x with f:=(dc (G.tk x).f (bu P (G.tk x).f) W.kind v).1,kind:=3,v:=(dc (G.tk x).f (bu P (G.tk x).f) W.kind v).2.1}) (W1:=W.go .next) c a1.ne hx hG (.inr rfl) ⟨rfl,rfl,rfl,rfl⟩ (c.ty.pX qL).f kZ ⟨rfl,rfl,rfl,rfl⟩ λe1 e2=> ?_
  exact N0 (W:=W.go .next) (t:={G.tk x with f:=(dc (G.tk x).f (bu P (G.tk x).f) W.kind v).1,kind:=3,v:=(dc (G.tk x).f (bu P (G.tk x).f) W.kind v).2.1}) a1.ne (by show Gl.tk _ (W.stack.headD 0)=_;rw[hx];exact e1) ⟨by show(2:Int)≤3;decide,by show(3:Int)≤4;decide⟩ hf.1 hf.2
 ·rename_i hb;refine Yy (t':={G.tk x with f:=(dc (G.tk x).f (bu P (G.tk x).f) W.kind v).1}) (W1:=W) c a1.ne hx hG (.inr rfl) ⟨rfl,rfl,rfl,rfl⟩ ((c.ty.pX qL).f (kind:=(G.tk x).kind) (v:=(G.tk x).v)) kZ ⟨rfl,rfl,rfl,rfl⟩ λe1 e2=> ?_
  refine⟨rfl,rfl,rfl,rfl,by simp[Wk.go],?_,oS hf.1 hf.2⟩
  unfold cy Wk.go;dsimp only;rw[hx,show Gl.tk _ x=_ from e1];exact⟨a1.ne,⟨(b1.fi.joined c.acc b2 hk4 (by simpa using hb)).imp λz hz=>⟨hz.1,by rw[e2];exact hz.2⟩,b1.kind⟩⟩
end
section
variable {l:Lc} {P:List dH} {bt:List Int} {ro iP:List Ro} {G G' G1:Gl} {hold:List Nat} {W W' W1:Wk} {t t':Tk} {n i x y:Nat} {s a v:Int} {r:Ro}
theorem aiL{z:Int}(h:0≤z∧z≤32):wr (z+1)=z+1:=cT ⟨ah,ah⟩
theorem axk(c:Cx l P bt ro G i W)(bN:W.cM= .m .fork)(hx:W.stack.headD 0=x)(ht:t=G.tk x):∃iP,rG l P bt ro iP G i W (fork G W t (G.nd t.ku.1)):=by
 have ct:=c.ct;unfold cy at ct;rw[bN]at ct;dsimp only at ct;obtain⟨a1,a2,a3⟩:=ct;rw[hx]at a2 a3;have qL:x<G.ts.length:=by rw[←hx];exact(c.top a1).2
 have hf:=c.fl.no (by unfold Wk.waits;rw[bN])
 have kZ:ej W:=by rw[ej,bN];decide
 subst ht;have hin:=c.ku qL a2.cD;obtain⟨hsc,FB⟩:=c.ty.RP hin.1 hin.2;unfold fork;split
 ·exact⟨ro,vr c (.inl rfl) fY kZ ⟨rfl,rfl,rfl,rfl,rfl⟩⟩
 rename_i hn;split
 ·exact⟨ro,vr c (.inl rfl) fY kZ ⟨rfl,rfl,rfl,rfl,rfl⟩⟩
 rename_i hr;have hr:G.M.room 2=true:=by simpa using hr
 rw[aiL FB.n]at hn ⊢;have xg:=FB.n;have ty:=aep (nd:=⟨(G.tk x).ku.1,(G.nd (G.tk x).ku.1).nest+1,(G.M.cells.length:Nat)⟩) (pl:=(-2,0,0,false)) (tm:=G.time) (wk:=W.id) c.ty hr hin ⟨by dsimp only;omega,by dsimp only;omega⟩ rfl c.ty.ck (λy hy=>by have:=c.ty.PF y hy;omega)
 refine⟨_,Ef (m:=_) (mc:=_) c ty rfl rfl rfl (λa s hs _=> ?_) rfl rfl rfl rfl kZ bc (λ_=> ?_) (λ_=>oS hf.1 hf.2)⟩
 ·have:=hs.lt;rw[c.ty.len]at this;show((G.M.tick W.id).grow 2).get a=_;rw[xx (M:=G.M.tick W.id) hs.1 this,tA]
 ·unfold cy;dsimp only;rw[hx];exact⟨a1,a2,a3,ah,by show((G.C.length:Nat):Int)<((G.C++[_]).length:Nat);simp;omega⟩
theorem aoZ(c:Cx l P bt ro G i W)(bN:W.cM= .m .sV)(hx:W.stack.headD 0=x)(ht:t=G.tk x):rG l P bt ro ro G i W (sV l G W (G.nd t.ku.1)):=by
 have ct:=c.ct;unfold cy at ct;rw[bN]at ct;dsimp only at ct;obtain⟨a1,a2,a3⟩:=ct;rw[hx]at a2;have qL:x<G.ts.length:=by rw[←hx];exact(c.top a1).2
 have hf:=c.fl.no (by unfold Wk.waits;rw[bN])
 subst ht;have hin:=c.ku qL a2.cD;obtain⟨hsc,FB⟩:=c.ty.RP hin.1 hin.2;unfold sV;refine Ef (m:=[]) (mc:=[]) c (c.ty.ad FB.b trivial) bc rfl (by rw[List.append_nil];rfl) (xl c.ty rfl FB.b (λq=>q)) rfl rfl rfl rfl (by rw[bN];decide) (by simp[Wk.AE]) (λ_=> ?_) (λ_=>oS hf.1 hf.2)
 unfold cy Wk.AE;dsimp only;rw[hx];exact⟨_,rfl,a1,a2,a3,Xe c.ty.t1 a3 ah,rfl⟩
theorem aud(c:Cx l P bt ro G i W)(bN:W.cM= .m .wV)(hx:W.stack.headD 0=x)(ht:t=G.tk x):∃iP,rG l P bt ro iP G i W (JZ l P G W x t):=by
 have ct:=c.ct;unfold cy at ct;rw[bN]at ct;dsimp only at ct;obtain⟨a1,a2,a3,a4⟩:=ct;rw[hx]at a2 a3;have qL:x<G.ts.length:=by rw[←hx];exact(c.top a1).2
 have hf:=c.fl.no (by unfold Wk.waits;rw[bN])
 have kZ:ej W:=by rw[ej,bN];decide
 subst ht;have hin:=c.ku qL a2.cD;have hT:=c.ty.pX qL;unfold JZ;dsimp only;split
 ·exact⟨ro,vr c (.inl rfl) fY kZ ⟨rfl,rfl,rfl,rfl,rfl⟩⟩
 split
 ·exact⟨ro,vr c (.inl rfl) fY kZ ⟨rfl,rfl,rfl,rfl,rfl⟩⟩
 rename_i hr;have hr:G.M.room 3=true:=by simpa using hr
 obtain⟨g',g1,g2,g3,_,g5⟩:=a2.fi.fork c.acc a3;have Zm:∃kt,Gs G.T (G.tk x).id=some kt:=by
  rw[hT.id];exact abo (by unfold AI;simp;have:=c.ty.kl;omega)
 obtain⟨kt,Zm⟩:=Zm;have ty:=atZ (wk:=W.id) (f:=jj (G.tk x).f ((bu P (G.tk x).f).getD 4 0) (Eb P ((bu P (G.tk x).f).getD 4 0))) c.ty hr Zm hin a4;generalize hGm:G.more W.id (G.tk x).id (G.tk x).ku.1 W.own (jj (G.tk x).f ((bu P (G.tk x).f).getD 4 0) (Eb P ((bu P (G.tk x).f).getD 4 0)))=Gm at ty;have hts:Gm.ts=G.ts++[⟨(G.T.length:Nat),(G.tk x).ku.1,W.own,(G.M.cells.length:Nat),jj (G.tk x).f ((bu P (G.tk x).f).getD 4 0) (Eb P ((bu P (G.tk x).f).getD 4 0)),ByteArray.mk #[],[],[W.own],0,0⟩]:=by rw[←hGm];rfl
 have hlen:Gm.ts.length=G.ts.length+1:=by rw[hts];simp
 have hC:Gm.C=G.C:=by rw[←hGm];rfl
 have L9:∀a s,kY ro a s→s.Jj→Gm.M.get a=G.M.get a:=λa s hs _=>by
  have:=hs.lt;rw[c.ty.len]at this;rw[←hGm];show((G.M.tick W.id).grow 3).get a=_;rw[xx (M:=G.M.tick W.id) hs.1 this,tA]
 have aue:ur ro (ro++[.fk G.ts.length,.fv G.ts.length,.fw G.ts.length]) G Gm W.hold:=ach (mc:=[]) c.ty rfl hts (by rw[hC];simp) L9
 have hxm:Gm.tk x=G.tk x:=by unfold Gl.tk;rw[hts,sZ qL]
 obtain⟨z,st,q1,q2,_⟩:=c.ne0 a1;have hz:z=x:=by rw[←hx,q2]
 subst hz;have hmem:z∈W.hold:=by rw[kG kZ.1,q1];simp
 have hTf:Tz (ro++[.fk G.ts.length,.fv G.ts.length,.fw G.ts.length]) Gm.C.length z {G.tk z with f:=eB (G.tk z).f (bu P (G.tk z).f) (G.ts.length:Nat)}:=by
  have:=ty.pX (x:=z) ah;rw[hxm]at this;exact this.f (kind:=(G.tk z).kind) (v:=(G.tk z).v)
 have ty2:Ty l (ro++[.fk G.ts.length,.fv G.ts.length,.fw G.ts.length]) (Gm.set z {G.tk z with f:=eB (G.tk z).f (bu P (G.tk z).f) (G.ts.length:Nat)}).lU:={ty.set (λ_=>hTf)with}
 have aDb:ur (ro++[.fk G.ts.length,.fv G.ts.length,.fw G.ts.length]) (ro++[.fk G.ts.length,.fv G.ts.length,.fw G.ts.length]) Gm (Gm.set z {G.tk z with f:=eB (G.tk z).f (bu P (G.tk z).f) (G.ts.length:Nat)}).lU W.hold:=by
  have h:=acj (ro:=ro++[.fk G.ts.length,.fv G.ts.length,.fw G.ts.length]) (t':={G.tk z with f:=eB (G.tk z).f (bu P (G.tk z).f) (G.ts.length:Nat)}) (G:=Gm) hmem ah (by rw[hxm]) (by rw[hxm]) (by rw[hxm])
  exact⟨h.ext,h.n,h.ts,h.ids,h.C,h.K0,h.K1,h.K2,h.ask⟩
 have BO:=aue.trans aDb (.inr λy hy=>c.wt.hl y hy);obtain⟨e1,e2⟩:=Xh (r:=(Gm.set z {G.tk z with f:=eB (G.tk z).f (bu P (G.tk z).f) (G.ts.length:Nat)}).lU) (G:=Gm) rfl (by omega:z<Gm.ts.length)
 have hnd:=c.wt.nd;rw[kG kZ.1,q1]at hnd;refine⟨_,aeo c ty2 BO rfl rfl rfl rfl kZ bc (λy hy=> ?_) (λy hy=> ?_) (λ_=> ?_) (λ_=>oS hf.1 hf.2) (λy h1 h2=> ?_)⟩
 ·rw[q1]at hy;have GN:=c.wt.hl y (by rw[kG kZ.1,q1];simp[show y∈st from hy])
  show Gl.tk _ y=_;unfold Gl.tk;show(((Gm.ts.set z _))[y]?).getD tk0=_;rw[rK (by rintro rfl;exact(List.nodup_cons.1 hnd).1 hy),hts,sZ GN]
 ·have GN:=c.wt.hl y (by rw[kG kZ.1];exact hy)
  unfold Gl.K;rw[(BO.ids y GN).2.2];exact L9 _ _ (c.ty.pX GN).k trivial
 ·unfold cy;dsimp only;rw[hx,show Gl.tk _ z=_ from e1];refine⟨a1,⟨?_,a2.kind⟩,ah,?_⟩
  ·exact(FI.sV (H:=λw=>0≤w∧w<((Gm.set z {G.tk z with f:=eB (G.tk z).f (bu P (G.tk z).f) (G.ts.length:Nat)}).lU.ts.length:Nat)) c.acc (a2.fi.imp λw hw=>⟨hw.1,by rw[e2];omega⟩) a3 ⟨ah,by rw[e2];omega⟩)
  ·show((G.ts.length:Nat):Int)<((Gm.set z {G.tk z with f:=eB (G.tk z).f (bu P (G.tk z).f) (G.ts.length:Nat)}).lU.ts.length:Nat);rw[e2];omega
 ·have hyn:y=G.ts.length:=by
   have h2:y<((Gm.set z {G.tk z with f:=eB (G.tk z).f (bu P (G.tk z).f) (G.ts.length:Nat)}).lU).ts.length:=h2;have:((Gm.set z {G.tk z with f:=eB (G.tk z).f (bu P (G.tk z).f) (G.ts.length:Nat)}).lU).ts.length=G.ts.length+1:=by rw[e2,hlen]
   omega
  subst hyn;have:Gl.tk (Gm.set z {G.tk z with f:=eB (G.tk z).f (bu P (G.tk z).f) (G.ts.length:Nat)}).lU G.ts.length=⟨(G.T.length:Nat),(G.tk z).ku.1,W.own,(G.M.cells.length:Nat),jj (G.tk z).f ((bu P (G.tk z).f).getD 4 0) (Eb P ((bu P (G.tk z).f).getD 4 0)),ByteArray.mk #[],[],[W.own],0,0⟩:=by
   unfold Gl.tk;show(((Gm.ts.set z _))[G.ts.length]?).getD tk0=_;rw[rK ah,hts,uI (iv _),Nat.sub_self];rfl
  rw[this,g3];have hst:=ab9 (f:=(G.tk z).f) (n:=(bu P (G.tk z).f).getD 4 0) (aX:=g'.aX) a2.fi.len;exact⟨g5.imp λw hw=>⟨hw.1,by rw[e2];omega⟩,rfl,rfl,rfl,rfl,hst.2.2.2.1⟩
theorem aet{tm:Int×List (Int×Int)}{z m:Int}(hc:CK tm)(hz:0≤z)(vq:∀y∈tm.2,y.2<z)(hm:0<m∧m≤1099511627776):(Ko.CM tm z m).1=0∧∀y∈(Ko.CM tm z m).2,y.2<z+1:=by
 unfold Ko.CM;rw[if_neg (by unfold Ko.MT;omega)]
 have hn:¬Ko.has tm.2 z=true:=by
  intro q;obtain⟨y,h1,h2⟩:=Ko.WY.1 q;have:=vq y h1;omega
 rw[if_neg hn];refine⟨rfl,λy hy=> ?_⟩;rcases Ko.abO.1 hy with rfl|h
 ·dsimp only;omega
 ·have:=vq y h;omega
theorem auf(c:Cx l P bt ro G i W)(bN:W.cM= .m .opens)(hx:W.stack.headD 0=x)(ht:t=G.tk x)(hN:(bu P t.f).getD 4 0≤1099511627776){pk:Int}:∃iP,rG l P bt ro iP G i W (opens l P G W x t (G.nd t.ku.1) pk):=by
 have ct:=c.ct;unfold cy at ct;rw[bN]at ct;dsimp only at ct;obtain⟨a1,a2,a3⟩:=ct;rw[hx]at a2 a3;have qL:x<G.ts.length:=by rw[←hx];exact(c.top a1).2
 have hf:=c.fl.no (by unfold Wk.waits;rw[bN])
 have kZ:ej W:=by rw[ej,bN];decide
 subst ht;have hin:=c.ku qL a2.cD;obtain⟨hsc,FB⟩:=c.ty.RP hin.1 hin.2;have hT:=c.ty.pX qL;unfold opens;dsimp only;split
 ·exact⟨ro,vr c (.inl rfl) fY kZ ⟨rfl,rfl,rfl,rfl,rfl⟩⟩
 split
 ·exact⟨ro,vr c (.inl rfl) fY kZ ⟨rfl,rfl,rfl,rfl,rfl⟩⟩
 rename_i hn;split
 ·exact⟨ro,vr c (.inl rfl) fY kZ ⟨rfl,rfl,rfl,rfl,rfl⟩⟩
 rename_i hr;have hr:G.M.room 2=true:=by simpa using hr
 rw[aiL FB.n]at hn ⊢;have xg:=FB.n;generalize htm:(if (bu P (G.tk x).f).getD 4 0>0 then(G.time.1,(Ko.CM G.time (G.C.length:Nat) ((bu P (G.tk x).f).getD 4 0)).2)else G.time)=tm
 have hck:CK tm∧∀y∈tm.2,y.2<G.C.length+1:=by
  rw[←htm];split
  ·exact⟨c.ty.ck.set _ _,(aet c.ty.ck ah c.ty.PF ⟨ah,hN⟩).2⟩
  ·exact⟨c.ty.ck,λy hy=>by have:=c.ty.PF y hy;omega⟩
 have ty:=aep (nd:=⟨(G.tk x).ku.1,(G.nd (G.tk x).ku.1).nest+1,(G.M.cells.length:Nat)⟩) (pl:=((G.tk x).id,(((G.tk x).scopes.length:Nat):Int),pk,false)) (tm:=tm) (wk:=W.id) c.ty hr hin ⟨by dsimp only;omega,by dsimp only;omega⟩ rfl hck.1 hck.2
 generalize hG1:({G with M:=(G.M.tick W.id).grow 2,C:=G.C++[⟨(G.tk x).ku.1,(G.nd (G.tk x).ku.1).nest+1,(G.M.cells.length:Nat)⟩],P:=G.P++[((G.tk x).id,(((G.tk x).scopes.length:Nat):Int),pk,false)],time:=tm}:Gl)=G1 at ty;have hts:G1.ts=G.ts:=by rw[←hG1]
 have hC:G1.C=G.C++[⟨(G.tk x).ku.1,(G.nd (G.tk x).ku.1).nest+1,(G.M.cells.length:Nat)⟩]:=by rw[←hG1]
 have hCl:G1.C.length=G.C.length+1:=by rw[hC];simp
 have htx:G1.tk x=G.tk x:=by unfold Gl.tk;rw[hts]
 have L9:∀a s,kY ro a s→s.Jj→G1.M.get a=G.M.get a:=λa s hs _=>by
  have:=hs.lt;rw[c.ty.len]at this;rw[←hG1];show((G.M.tick W.id).grow 2).get a=_;rw[xx (M:=G.M.tick W.id) hs.1 this,tA]
 have hT1:=ty.pX (x:=x) (by rw[hts];exact qL)
 rw[htx]at hT1;have aFR:=hT.sn;have aFS:=hT.sl;have hTo:Tz (ro++[.ask G.C.length,.liv G.C.length]) G1.C.length x {G.tk x with scopes:=(G.tk x).scopes++[((G.C.length:Nat):Int)],cD:=(G.tk x).cD++[(((G.C.length:Nat):Int),W.mark)],f:=nu (G.tk x).f}:=by
  refine hT1.to ⟨rfl,rfl,rfl,rfl⟩ (λp hp=> ?_) (by simp;omega) (by simp;omega)
  rcases y7.1 hp with h|h
  ·exact hT1.cD p h
  ·simp at h;subst h;dsimp only;omega
 have ty2:Ty l (ro++[.ask G.C.length,.liv G.C.length]) (G1.set x {G.tk x with scopes:=(G.tk x).scopes++[((G.C.length:Nat):Int)],cD:=(G.tk x).cD++[(((G.C.length:Nat):Int),W.mark)],f:=nu (G.tk x).f}).lU:={ty.set (λ_=>hTo)with}
 obtain⟨e1,e2⟩:=Xh (r:=(G1.set x {G.tk x with scopes:=(G.tk x).scopes++[((G.C.length:Nat):Int)],cD:=(G.tk x).cD++[(((G.C.length:Nat):Int),W.mark)],f:=nu (G.tk x).f}).lU) (G:=G1) rfl (by rw[hts];exact qL)
 refine⟨_,atY (t':={G.tk x with scopes:=(G.tk x).scopes++[((G.C.length:Nat):Int)],cD:=(G.tk x).cD++[(((G.C.length:Nat):Int),W.mark)],f:=nu (G.tk x).f}) c a1 ty2 rfl (by show List.set _ _ _=_;rw[hts,hx]) (by show G1.C=_;exact hC) L9 (by rw[hx]) (by rw[hx]) (by rw[hx]) rfl rfl rfl rfl kZ (by simp[Wk.go]) (λ_=> ?_) (λ_=>oS hf.1 hf.2)⟩
 unfold cy Wk.go;dsimp only;rw[hx,show Gl.tk _ x=_ from e1];refine⟨a1,⟨?_,a2.kind⟩⟩;have h:=a2.fi.opens c.acc (by have:=c.ty.cap;omega) a3
 show FI P _ (nu (G.tk x).f) ((G.tk x).cD++[_]).length;rw[tV];exact h.imp λw hw=>⟨hw.1,by rw[show((G1.set x {G.tk x with scopes:=(G.tk x).scopes++[((G.C.length:Nat):Int)],cD:=(G.tk x).cD++[(((G.C.length:Nat):Int),W.mark)],f:=nu (G.tk x).f}).lU).ts.length=_ from e2,hts];exact hw.2⟩
theorem Ja(c:Cx l P bt ro G i W)(kZ:ej W)(hx:x∈W.stack):G.K x=1∧x<G.ts.length:=by
 have hm:x∈W.hold:=by rw[kG kZ.1];exact hx
 refine⟨?_,c.wt.hl x hm⟩;rcases c.wt.run x hm with h|⟨_,_,h|h⟩
 ·exact h
 ·exact absurd h kZ.2.1
 ·exact absurd h kZ.2.2
theorem aAz(c:Cx l P bt ro G i W)(bN:W.cM= .m .put)(hx:W.stack.headD 0=x)(ht:t=G.tk x):rG l P bt ro ro G i W (put G W t):=by
 have ct:=c.ct;unfold cy at ct;rw[bN]at ct;dsimp only at ct;obtain⟨a1,a2,a3⟩:=ct;rw[hx]at a2 a3;have hf:=c.fl.no (by unfold Wk.waits;rw[bN])
 have kZ:ej W:=by rw[ej,bN];decide
 subst ht;obtain⟨z,st,q1,q2,_⟩:=c.ne0 a1;have hz:z=x:=by rw[←hx,q2]
 subst hz;obtain⟨hK,qL⟩:=Ja c kZ (x:=z) (by rw[q1];simp)
 unfold put;split
 ·refine sL (W1:=W) c (.inl rfl) kZ ⟨rfl,rfl,rfl,rfl⟩ ⟨rfl,rfl,rfl,rfl,by simp[Wk.go],?_,oS hf.1 hf.2⟩
  unfold cy Wk.go;dsimp only;rw[hx];exact⟨a1,a2,a3⟩
 ·have hL:=(c.ty.pX qL).v;have hlt:=hL.lt;rw[c.ty.len]at hlt;have sK:∀b,0≤b→((G.M.tick W.id).put ((G.tk z).jC+1) (G.tk z).v).get b=if b=(G.tk z).jC+1 then(G.tk z).v else G.M.get b:=λb hb=>L6 (M:=G.M.tick W.id) hL.1 hlt hb
  have Yz:∀y,y<G.ts.length→(G.mem ((G.M.tick W.id).put ((G.tk z).jC+1) (G.tk z).v)).K y=G.K y∧(y≠z→(G.mem ((G.M.tick W.id).put ((G.tk z).jC+1) (G.tk z).v)).V y=G.V y):=λy hy=>by
   have hk:=(c.ty.pX hy).k;have hv:=(c.ty.pX hy).v;refine⟨?_,λhne=> ?_⟩
   ·show((G.M.tick W.id).put _ _).get (G.tk y).jC=_;rw[sK _ hk.1,if_neg (hk.ne hL bc)];rfl
   ·show((G.M.tick W.id).put _ _).get ((G.tk y).jC+1)=_;rw[sK _ hv.1,if_neg (hv.ne hL (by simpa using hne))];rfl
  have hmem:z∈W.hold:=by rw[kG kZ.1,q1];simp
  have BO:ur ro ro G (G.mem ((G.M.tick W.id).put ((G.tk z).jC+1) (G.tk z).v)) W.hold:=
   ⟨⟨[],bc⟩,iv _,λ_ _ _=>rfl,λ_ _=>⟨rfl,rfl,rfl⟩,⟨[],by simp[Gl.mem]⟩,λy hy q=>by rw[←(Yz y hy).1];exact q,λy hy hn _=>⟨(Yz y hy).1,(Yz y hy).2 (by rintro rfl;exact hn hmem)⟩,λy hy h2=>⟨(Yz y hy).1,(Yz y hy).2 (by rintro rfl;omega)⟩,λs' ⟨nd,h1,h2⟩=>⟨nd,h1,by
    show((G.M.tick W.id).put _ _).get _≠0;have hl:=I9 c.ty h1;rw[sK _ hl.1,if_neg (hl.ne hL bc)];exact h2⟩⟩
  refine aeo c (c.ty.put ⟨rfl,rfl,bc⟩ hL trivial) BO rfl rfl rfl rfl kZ (by simp[Wk.go]) (λ_ _=>rfl) (λy hy=>(Yz y (c.wt.hl y (by rw[kG kZ.1];exact hy))).1) (λ_=> ?_) (λ_=>oS hf.1 hf.2) (λy h1 h2=>by have h2:y<G.ts.length:=h2;omega)
  unfold cy Wk.go;dsimp only;rw[hx];exact⟨a1,a2,a3⟩
theorem aAA(c:Cx l P bt ro G i W)(bN:W.cM= .m .fin)(hx:W.stack.headD 0=x)(ht:t=G.tk x):rG l P bt ro ro G i W (fin G W t):=by
 have ct:=c.ct;unfold cy at ct;rw[bN]at ct;dsimp only at ct;obtain⟨a1,a2,a3⟩:=ct;rw[hx]at a2 a3;have hf:=c.fl.no (by unfold Wk.waits;rw[bN])
 have kZ:ej W:=by rw[ej,bN];decide
 subst ht;obtain⟨z,st,q1,q2,_⟩:=c.ne0 a1;have hz:z=x:=by rw[←hx,q2]
 subst hz;obtain⟨hK,qL⟩:=Ja c kZ (x:=z) (by rw[q1];simp)
 have GI:=a2.k2;have hk4:=a2.k4;have hL:=(c.ty.pX qL).k;have hlt:=hL.lt;rw[c.ty.len]at hlt;have hm:z∈W.hold:=by rw[kG kZ.1,q1];simp
 have hnd:=c.wt.nd;rw[kG kZ.1,q1]at hnd;unfold fin;rw[Int.add_zero];have sK:∀b,0≤b→(G.M.cs W.id (G.tk z).jC 1 (G.tk z).kind).1.get b=if b=(G.tk z).jC then(G.tk z).kind else G.M.get b:=λb hb=>by
  rw[Z7 hL.1 hlt hb];have:G.M.get (G.tk z).jC=1:=hK;simp[this]
 have Yz:∀y,y<G.ts.length→(y≠z→(G.mem (G.M.cs W.id (G.tk z).jC 1 (G.tk z).kind).1).K y=G.K y)∧(G.mem (G.M.cs W.id (G.tk z).jC 1 (G.tk z).kind).1).V y=G.V y:=λy hy=>by
  have hk:=(c.ty.pX hy).k;have hv:=(c.ty.pX hy).v;refine⟨λhne=> ?_,?_⟩
  ·show(G.M.cs _ _ _ _).1.get (G.tk y).jC=_;rw[sK _ hk.1,if_neg (hk.ne hL (by simpa using hne))];rfl
  ·show(G.M.cs _ _ _ _).1.get ((G.tk y).jC+1)=_;rw[sK _ hv.1,if_neg (hv.ne hL bc)];rfl
 have hKz:(G.mem (G.M.cs W.id (G.tk z).jC 1 (G.tk z).kind).1).K z=(G.tk z).kind:=by
  show(G.M.cs _ _ _ _).1.get (G.tk z).jC=_;rw[sK _ hL.1,if_pos rfl]
 have ty:Ty l ro (G.mem (G.M.cs W.id (G.tk z).jC 1 (G.tk z).kind).1):=c.ty.cs hL ⟨ah,hk4⟩;have BO:ur ro ro G (G.mem (G.M.cs W.id (G.tk z).jC 1 (G.tk z).kind).1) W.hold:=
  ⟨⟨[],bc⟩,iv _,λ_ _ _=>rfl,λ_ _=>⟨rfl,rfl,rfl⟩,⟨[],by simp[Gl.mem]⟩,λy hy q=>by
   by_cases e:y=z
   ·subst e;rw[hKz]at q;omega
   ·rw[←(Yz y hy).1 e];exact q,
  λy hy hn _=>⟨(Yz y hy).1 (by rintro rfl;exact hn hm),(Yz y hy).2⟩,λy hy h2=>⟨(Yz y hy).1 (by rintro rfl;omega),(Yz y hy).2⟩,λs' ⟨nd,h1,h2⟩=>⟨nd,h1,by
    show(G.M.cs _ _ _ _).1.get _≠0;have hl:=I9 c.ty h1;rw[sK _ hl.1,if_neg (hl.ne hL bc)];exact h2⟩⟩
 have e2:(W.go .asks).hold=W.hold:=by rw[kG (by simp[Wk.go]),kG kZ.1];rfl
 refine⟨ty,BO,⟨c.wt.id,c.wt.lt,c.wt.dq,ack (G:=G) rfl c.wt.bk,c.wt.dp,λy hy=>c.wt.hl y (by rw[←e2];exact hy),λ_=> ?_,λ_=>oS hf.1 hf.2,λy hy=> ?_,by rw[e2];exact c.wt.nd⟩,λy hy=> .inl (by rw[←e2];exact hy),λy h1 h2=>by have h2:y<G.ts.length:=h2;omega⟩
 ·unfold cy Wk.go;dsimp only;rw[hx];exact⟨a1,a2,a3⟩
 ·rw[e2,kG kZ.1,q1]at hy;rcases List.mem_cons.1 hy with rfl|hy
  ·refine .inr ⟨by rw[hKz];exact GI,by show W.stack.head?=_;rw[q1];rfl,.inl rfl⟩
  ·have hys:y∈W.stack:=by rw[q1];simp[hy]
   obtain⟨k1,k2⟩:=Ja c kZ hys;refine .inl ?_;rw[(Yz y k2).1 (λq=>(List.nodup_cons.1 hnd).1 (q▸hy))];exact k1
theorem axm(c:Cx l P bt ro G i W)(bN:W.cM= .m .asks)(ht:t=G.tk (W.stack.headD 0)):rG l P bt ro ro G i W (asks G W t):=by
 have ct:=c.ct;unfold cy at ct;rw[bN]at ct;dsimp only at ct;have hf:=c.fl.no (by unfold Wk.waits;rw[bN])
 have e1:W.hold=W.stack:=kG (by rw[bN];simp)
 have e2:(asks G W t).2.hold=W.hold:=by rw[kG (by simp[asks]),e1];rfl
 refine⟨c.tt,aen c.ty,⟨c.wt.id,c.wt.lt,c.wt.dq,ack (G:=G) rfl c.wt.bk,c.wt.dp,λy hy=>c.wt.hl y (by rw[←e2];exact hy),λ_=>by unfold cy asks;exact ct,λ_=>oS hf.1 hf.2,λy hy=> ?_,by rw[e2];exact c.wt.nd⟩,λy hy=> .inl (by rw[←e2];exact hy),λy h1 h2=>by have h2:y<G.ts.length:=h2;omega⟩
 rw[e2]at hy;rcases c.wt.run y hy with h|⟨h1,h2,_⟩
 ·exact .inl h
 ·exact .inr ⟨h1,h2,.inr rfl⟩
theorem axn(c:Cx l P bt ro G i W)(bN:W.cM= .m .gone)(ht:t=G.tk (W.stack.headD 0)):rG l P bt ro ro G i W (gone G W (G.nd t.lX)):=by
 have ct:=c.ct;unfold cy at ct;rw[bN]at ct;dsimp only at ct;have hf:=c.fl.no (by unfold Wk.waits;rw[bN])
 subst ht;obtain⟨z,st,q1,q2,hzl⟩:=c.ne0 ct.1;have hin:=(c.ty.pX hzl).ZM;have e1:W.hold=z::st:=by rw[kG (by rw[bN];simp),q1]
 obtain⟨_,FB⟩:=c.ty.RP hin.1 hin.2;rw[q2];have hbk:=c.wt.bk;rw[q1]at hbk;obtain⟨kb,bs,hb⟩:∃kb bs,W.back=kb::bs:=by
  cases hh:W.back with
  |nil=>rw[hh]at hbk;exact hbk.elim
  |cons kb bs=>exact⟨kb,bs,rfl⟩
 rw[hb]at hbk;obtain⟨_,hm,hbk⟩:=hbk;have ty:Ty l ro (gone G W (G.nd (G.tk z).lX)).1:=c.ty.ad FB.b trivial;have BO:ur ro ro G (gone G W (G.nd (G.tk z).lX)).1 W.hold:=agj c.ty FB.b (λq=>q);have L9:=xl (v:=wr (G.M.get ((G.nd (G.tk z).lX).at_+1)+ -1)) (M:=G.M.tick W.id) c.ty rfl FB.b (λq=>q);have aDd:cy l P bt ro (gone G W (G.nd (G.tk z).lX)).1 (gone G W (G.nd (G.tk z).lX)).2∧(gone G W (G.nd (G.tk z).lX)).2.cM≠ .m .start∧(gone G W (G.nd (G.tk z).lX)).2.stack=st∧(gone G W (G.nd (G.tk z).lX)).2.back=bs∧(gone G W (G.nd (G.tk z).lX)).2.cM≠ .m .asks:=by
  unfold gone;dsimp only;rw[hb,q1];dsimp only[List.headD,List.tail];split
  ·refine⟨?_,by simp[Wk.I0],rfl,rfl,by simp[Wk.I0]⟩
   unfold cy Wk.I0;exact hm
  ·unfold cy;dsimp only;cases hst:st with
   |nil=>
    rw[hst]at hm;have hm:kb= .m .rest:=hm;subst hm;exact⟨rfl,bc,rfl,rfl,bc⟩
   |cons u CV=>
    rw[hst]at hm;have hm:qW P G.ts.length (G.tk u) kb:=hm;have hm0:=hm;unfold qW at hm;split at hm
    ·exact⟨⟨bc,hm⟩,bc,rfl,rfl,bc⟩
    ·exact⟨⟨bc,hm0⟩,bc,rfl,rfl,bc⟩
    ·exact⟨⟨bc,hm0⟩,bc,rfl,rfl,bc⟩
    ·exact⟨⟨bc,hm0⟩,bc,rfl,rfl,bc⟩
    ·exact hm.elim
 obtain⟨d1,d2,d3,d4,d5⟩:=aDd;have e2:(gone G W (G.nd (G.tk z).lX)).2.hold=st:=by rw[kG d2,d3]
 have vq:(gone G W (G.nd (G.tk z).lX)).2.id=W.id∧(gone G W (G.nd (G.tk z).lX)).2.dq=W.dq∧(gone G W (G.nd (G.tk z).lX)).2.bH=W.bH∧(gone G W (G.nd (G.tk z).lX)).2.blocked=W.blocked:=by
  unfold gone;dsimp only;split<;>exact⟨rfl,rfl,rfl,rfl⟩
 have hnd:=c.wt.nd;rw[e1]at hnd;refine⟨ty,BO,⟨by rw[vq.1];exact c.wt.id,c.wt.lt,by rw[vq.2.1];exact c.wt.dq,by rw[d3,d4];exact ack (G:=G) rfl hbk,?_,λy hy=>c.wt.hl y (by rw[e2]at hy;rw[e1];simp[hy]),λ_=>d1,λ_=>oS (by rw[vq.2.2.1];exact hf.1) (by rw[vq.2.2.2];exact hf.2),λy hy=> ?_,by rw[e2];exact(List.nodup_cons.1 hnd).2⟩,λy hy=> .inl (by rw[e2]at hy;rw[e1];simp[hy]),λy h1 h2=>by have h2:y<G.ts.length:=h2;omega⟩
 ·rw[d3];have:=c.wt.dp;rw[q1]at this;simp at this;omega
 ·rw[e2]at hy;have hyh:y∈W.hold:=by rw[e1];simp[hy]
  have GN:=c.wt.hl y hyh;have hKy:(gone G W (G.nd (G.tk z).lX)).1.K y=G.K y:=L9 _ _ (c.ty.pX GN).k trivial;rw[hKy];rcases c.wt.run y hyh with h|⟨_,h2,_⟩
  ·exact .inl h
  ·rw[q1]at h2;cases h2
   exact absurd hy (List.nodup_cons.1 hnd).1
theorem ak6(c:Cx l P bt ro G i W)(hne:W.stack≠ [])(hx:W.stack.headD 0=x)(ht:t=G.tk x)(hE:Ends (G.tk x))(ho:(G.tk x).cD≠ [])(h1:W.bH=false)(h2:W.blocked=false)(kZ:ej W):rG l P bt ro ro G i W (qw G W x t):=by
 have qL:x<G.ts.length:=by rw[←hx];exact(c.top hne).2
 subst ht;have hT:=c.ty.pX qL;have hdl:=amL ho;have xg:=hT.sn;unfold qw;refine agm (t':={G.tk x with cD:=(G.tk x).cD.dropLast}) (W1:=W) G.M G.steps (G.time.1,Ko.D6 G.time.2 (G.tk x).ku.1) (BX G.P (G.tk x).ku.1) c hne hx rfl c.ty (λ_ _ _ _=>rfl) ⟨rfl,rfl,rfl,rfl⟩ ?_ (c.ty.ck.drop _) (λy hy=>c.ty.PF y (List.mem_filter.1 hy).1) Zi kZ ⟨rfl,rfl,rfl,rfl⟩ λe1 e2=> ?_
 ·exact hT.to ⟨rfl,rfl,rfl,rfl⟩ (λp hp=>hT.cD p (List.dropLast_subset _ hp)) (by dsimp only;omega) hT.sl
 ·exact N0 (t:={G.tk x with cD:=(G.tk x).cD.dropLast}) hne (by rw[hx];exact e1) ⟨hE.k2,hE.k4⟩ h1 h2
theorem q4.to(h:q4 P G W)(hg:G'.ts=G.ts)(h1:W'.stack=W.stack)(h2:W'.again=W.again)(h3:W'.target=W.target)(h4:W'.pT=W.pT):q4 P G' W':=by
 obtain⟨a,b,c⟩:=h;refine⟨by rw[h1];exact a,?_,by rw[h2,h3,h4];exact c⟩
 have:G'.tk (W.stack.headD 0)=G.tk (W.stack.headD 0):=by unfold Gl.tk;rw[hg]
 rw[h1,h2,hg,this];exact b
theorem YA(h1:W'.cM= .m .stops)(ha:q4 P G W)(hg:G'.ts=G.ts)(hC:G'.C=G.C)(hK:∀z,z<G.ts.length→G'.K z=G.K z)(amM:∀s,Vh G s→Vh G' s)(e1:W'.stack=W.stack)(e2:W'.again=W.again)(e3:W'.target=W.target)(e4:W'.pT=W.pT)(e5:W'.po=W.po)(e6:W'.kind=W.kind)
  (hs:W'.blocked=true→∀o,W'.step=some o→SpT o) (h3:match W.po with
  | .m .cancelled=>yW W.again=true∧RQ G (G.tk (W.stack.headD 0))
  | .U7 y k=>y<G.ts.length∧k=W.again
  | .Bq y k=>(0≤y∧y<G.ts.length)∧k=W.again
  | .c .HY=>yW W.again=true∧W.kind=G.K (W.target.getD 0)∧2≤W.kind
  | .c .BW=>W.again= .sh (.c .BW)
  | .c .qw=>W.again= .sh (.c .qw)
  |_=>False):cy l P bt ro G' W':=by
 unfold cy;dsimp only;rw[h1];dsimp only;refine⟨ha.to hg e1 e2 e3 e4,hs,?_⟩;rw[e1,e2,e3,e5,e6];have NY:∀z,G'.tk z=G.tk z:=λz=>by unfold Gl.tk;rw[hg]
 split at h3<;>rename_i e<;>try exact h3.elim
 all_goals try rw[e]
 ·refine⟨h3.1,?_⟩;obtain⟨b,h4,h5⟩:=h3.2;rw[NY];exact⟨b,by rw[hC];exact h4,amM b h5⟩
 ·rw[hg];exact h3
 ·rw[hg];exact h3
 ·refine⟨h3.1,?_,h3.2.2⟩;obtain⟨y,q1,q2,q3⟩|⟨k,q1,_⟩:=ha.cases
  ·rw[q2]at h3 ⊢;show W.kind=G'.K y;rw[hK _ q3.2.2.2];exact h3.2.1
  ·rw[q1]at h3;cases h3.1
 ·exact h3
 ·exact h3
theorem auh(c:Cx l P bt ro G i W)(bN:W.cM= .m .stops)(hx:W.stack.headD 0=x)(ht:t=G.tk x):rG l P bt ro ro G i W (stops l G W x t G.vp G.Vd):=by
 have ct:=c.ct;unfold cy at ct;rw[bN]at ct;dsimp only at ct;obtain⟨a1,a2,a3⟩:=ct;have kZ:ej W:=by rw[ej,bN];decide
 subst ht;have hag:q4 P G W:=a1;unfold stops;split
 ·rename_i hb;dsimp only;have hs:SpT (W.step.getD (jI.CT 0 2)):=by
   cases h:W.step with
   |none=>exact⟨fY,fY,fY⟩
   |some o=>exact a2 hb o h
  have hr:=ak1 (wk:=W.id) c.ty hs;generalize (W.step.getD (jI.CT 0 2)).go l.sp G.M W.id=r at hr ⊢;have hKs:∀z,z<G.ts.length→(G.mem r.2).K z=G.K z:=λz hz=>hr.Jj _ _ (c.ty.pX hz).k trivial;have hAs:∀s,Vh G s→Vh (G.mem r.2) s:=(aci (hold:=[]) c.ty hr.Jj).ask;refine Ef (m:=[]) (mc:=[]) c hr.ty bc rfl (by rw[List.append_nil];rfl) hr.Jj (by dsimp only;split<;>rfl) (by dsimp only;split<;>rfl) (by dsimp only;split<;>rfl) (by dsimp only;split<;>rfl) kZ (by dsimp only;split<;>(dsimp only;rw[bN];simp)) (λ_=> ?_) (λ_=> ?_)
  ·dsimp only;split
   ·exact YA (W:=W) bN hag rfl rfl hKs hAs rfl rfl rfl rfl rfl rfl (λ_ o ho=>by cases ho) a3
   ·exact YA (W:=W) bN hag rfl rfl hKs hAs rfl rfl rfl rfl rfl rfl (λ_ o ho=>by cases ho;exact hr.sp) a3
  ·dsimp only;split
   ·refine⟨λq=> ?_,c.fl.RS,λ_ q=>by dsimp only at q;rw[bN]at q;rcases q with q|q<;>(cases q)⟩
    unfold Wk.waits at q;dsimp only at q;rw[bN]at q;cases q
   ·exact RU c rfl rfl rfl (by unfold Wk.waits;dsimp only;rw[bN]) (by dsimp only;rw[bN];exact⟨rfl,rfl⟩)
 rename_i hb;have hb:W.blocked=false:=by simpa using hb
 split
 ·rename_i hr;have haw:=c.fl.RS hr;obtain⟨y,h1,h2,h3⟩|⟨k,h1,_⟩:=a1.cases;rotate_left
  ·rw[h1]at haw;cases haw
  have hy:W.target.getD 0=y:=by rw[h2];rfl
  have GN:y<G.ts.length:=h3.2.2.2;have hL:=(c.ty.pX GN).w;have hfu:G.Vd y=(G.tk y).jC:=by unfold Gl.Vd Gl.tk;rw[j4 GN];rfl
  rw[hy,hfu];refine Ef (m:=[]) (mc:=[]) c (c.ty.ad hL trivial) bc rfl (by rw[List.append_nil];rfl) (xl c.ty rfl hL (λq=>q)) rfl rfl rfl rfl kZ (by dsimp only;rw[bN];simp) (λ_=> ?_) (λ_=> ?_)
  ·exact YA (W:=W) bN hag rfl rfl (λz hz=>xl c.ty rfl hL (λq=>q) _ _ (c.ty.pX hz).k trivial) (agj (hold:=[]) c.ty hL (λq=>q)).ask rfl rfl rfl rfl rfl rfl a2 a3
  ·exact⟨λq=>by unfold Wk.waits at q;dsimp only at q;rw[bN]at q;(cases q),λq=>by(cases q),λ_ q=>by dsimp only at q;rw[bN]at q;rcases q with q|q<;>(cases q)⟩
 rename_i hr;have hr:W.bH=false:=by simpa using hr
 unfold po;split at a3
 ·rename_i e;rw[e];exact agn c a1.ne hx rfl (.inl rfl) ⟨fY,fY⟩ hr hb kZ ⟨rfl,rfl,rfl,rfl,rfl,rfl⟩
 ·rename_i y k e;rw[e];have vq:G.vp y=y:=by
   have:=(c.ty.pX a3.1).id;unfold Gl.vp;rw[G.Al a3.1];exact this
  refine sL (W1:=W) c (.inl rfl) kZ ⟨rfl,rfl,rfl,rfl⟩ (RW hr hb (by dsimp only;rw[vq];have:=a3.1;omega) ?_)
  obtain⟨z,st,q1,q2,_⟩:=c.ne0 a1.ne;have:=a1.hm;rw[q2]at this;unfold Ed;dsimp only;rw[q1];dsimp only;rw[a3.2];exact this
 ·rename_i y k e;rw[e];refine sL (W1:=W) c (.inl rfl) kZ ⟨rfl,rfl,rfl,rfl⟩ (RW hr hb a3.1 ?_);obtain⟨z,st,q1,q2,_⟩:=c.ne0 a1.ne;have:=a1.hm;rw[q2]at this;unfold Ed;dsimp only;rw[q1];dsimp only;rw[a3.2];exact this
 ·rename_i e;rw[e];exact sL (W1:=W) c (.inl rfl) kZ ⟨rfl,rfl,rfl,rfl⟩ ⟨rfl,rfl,rfl,rfl,by simp[Wk.go],by unfold cy Wk.go;exact⟨hag.of rfl rfl rfl rfl,a3.1,a3.2.1,a3.2.2⟩,oS hr hb⟩
 ·rename_i e;rw[e];have hm:=a1.hm;rw[a3]at hm;exact sL (W1:=W) c (.inl rfl) kZ ⟨rfl,rfl,rfl,rfl⟩ ⟨rfl,rfl,rfl,rfl,by simp[Wk.go],by unfold cy Wk.go;exact⟨a1.ne,hm.1,hm.2⟩,oS hr hb⟩
 ·rename_i e;rw[e];have hm:=a1.hm;rw[a3,hx]at hm;exact ak6 c a1.ne hx rfl hm.1 hm.2 hr hb kZ
 ·exact a3.elim
theorem ao0(c:Cx l P bt ro G i W)(bN:W.cM= .m .sU)(hfr:∀y,y<G.ts.length→G.K y=0→NZ P G.ts.length (G.tk y)):rG l P bt ro ro G i W (sU G W (G.tk W.jk.toNat)):=by
 have ct:=c.ct;unfold cy at ct;rw[bN]at ct;dsimp only at ct;obtain⟨a1,a2⟩:=ct;have hf:=c.fl.no (by unfold Wk.waits;rw[bN])
 have kZ:ej W:=by rw[ej,bN];decide
 have pB:W.jk.toNat<G.ts.length:=ah;generalize hc:W.jk.toNat=y at pB;have hL:=(c.ty.pX pB).k;have hlt:=hL.lt;rw[c.ty.len]at hlt;unfold sU;rw[Int.add_zero];have h2:(G.M.cs W.id (G.tk y).jC 0 1).2=decide (G.K y=0):=aw3;have sK:∀b,0≤b→(G.M.cs W.id (G.tk y).jC 0 1).1.get b=if b=(G.tk y).jC∧G.K y=0 then 1 else G.M.get b:=λb hb=>Z7 hL.1 hlt hb
 have hK:∀z,z<G.ts.length→(G.mem (G.M.cs W.id (G.tk y).jC 0 1).1).K z=(if z=y∧G.K y=0 then 1 else G.K z)∧(G.mem (G.M.cs W.id (G.tk y).jC 0 1).1).V z=G.V z:=λz hz=>by
  have hk:=(c.ty.pX hz).k;have hv:=(c.ty.pX hz).v;constructor
  ·show(G.M.cs _ _ _ _).1.get (G.tk z).jC=_;rw[sK _ hk.1];by_cases e:z=y
   ·subst e;simp;rfl
   ·rw[if_neg (λq=>hk.ne hL (by simpa using e) q.1),if_neg (λq=>e q.1)];rfl
  ·show(G.M.cs _ _ _ _).1.get ((G.tk z).jC+1)=_;rw[sK _ hv.1,if_neg (λq=>hv.ne hL bc q.1)];rfl
 have ty:Ty l ro (G.mem (G.M.cs W.id (G.tk y).jC 0 1).1):=c.ty.cs hL ⟨fY,fY⟩;have BO:ur ro ro G (G.mem (G.M.cs W.id (G.tk y).jC 0 1).1) W.hold:=
  ⟨⟨[],bc⟩,iv _,λ_ _ _=>rfl,λ_ _=>⟨rfl,rfl,rfl⟩,⟨[],by simp[Gl.mem]⟩,λz hz q=>by
   rw[(hK z hz).1]at q;split at q
   ·cases q
   ·exact q,
  λz hz _ q=>⟨by rw[(hK z hz).1,if_neg (by rintro⟨rfl,q2⟩;omega)],(hK z hz).2⟩,λz hz q=>⟨by rw[(hK z hz).1,if_neg (by rintro⟨rfl,q2⟩;omega)],(hK z hz).2⟩,λs' ⟨nd,h1,h2⟩=>⟨nd,h1,by
    show(G.M.cs _ _ _ _).1.get _≠0;have hl:=I9 c.ty h1;rw[sK _ hl.1,if_neg (λq=>hl.ne hL bc q.1)];exact h2⟩⟩
 have e1:=kG kZ.1;have hrun:∀z∈W.stack,(G.mem (G.M.cs W.id (G.tk y).jC 0 1).1).K z=1:=λz hz=>by
  obtain⟨k1,k2⟩:=Ja c kZ hz;rw[(hK z k2).1,if_neg (by rintro⟨rfl,q2⟩;omega)];exact k1
 rw[h2];by_cases h0:G.K y=0
 ·rw[if_pos (by simp[h0])]
  have hyn:y ∉ W.stack:=λq=>by have:=(Ja c kZ q).1;omega
  have e2:({W with cM:= .m .start}:Wk).hold=y::W.stack:=by unfold Wk.hold;dsimp only;rw[if_pos rfl,hc];rfl
  refine⟨ty,BO,⟨c.wt.id,c.wt.lt,c.wt.dq,ack (G:=G) rfl c.wt.bk,c.wt.dp,λz hz=> ?_,λ_=> ?_,λ_=>oS hf.1 hf.2,λz hz=> ?_,?_⟩,λz hz=> ?_,λz h1 h2=>by have h2:z<G.ts.length:=h2;omega⟩
  ·rw[e2]at hz;rcases List.mem_cons.1 hz with rfl|hz
   ·exact pB
   ·exact(Ja c kZ hz).2
  ·unfold cy;dsimp only;rw[hc];exact⟨a1,a2,hfr y pB h0⟩
  ·rw[e2]at hz;rcases List.mem_cons.1 hz with rfl|hz
   ·left;dsimp only;rw[(hK z pB).1,if_pos ⟨rfl,h0⟩]
   ·exact .inl (hrun z hz)
  ·rw[e2];have:=c.wt.nd;rw[e1]at this;exact List.nodup_cons.2 ⟨hyn,this⟩
  ·rw[e2]at hz;rcases List.mem_cons.1 hz with rfl|hz
   ·exact .inr ⟨pB,h0⟩
   ·exact .inl (by rw[e1];exact hz)
 ·rw[if_neg (by simp[h0])]
  have ct2:cy l P bt ro (G.mem (G.M.cs W.id (G.tk y).jC 0 1).1) {W with cM:=W.home}∧W.home≠ .m .start:=by
   unfold cy;dsimp only;unfold Ed at a2;cases hs:W.stack with
   |nil=>rw[hs]at a2;dsimp only at a2;rw[a2];exact⟨rfl,bc⟩
   |cons z st=>
    rw[hs]at a2;dsimp only at a2;have Yx:=a2;unfold qW at a2;split at a2
    ·rename_i e;rw[e];exact⟨⟨bc,a2⟩,bc⟩
    ·rename_i e;rw[e];rw[e]at Yx;exact⟨⟨bc,Yx⟩,bc⟩
    ·rename_i e;rw[e];rw[e]at Yx;exact⟨⟨bc,Yx⟩,bc⟩
    ·rename_i e;rw[e];rw[e]at Yx;exact⟨⟨bc,Yx⟩,bc⟩
    ·exact a2.elim
  exact aeo c ty BO rfl rfl rfl rfl kZ ct2.2 (λ_ _=>rfl) (λz hz=>by dsimp only;rw[hrun z hz,(Ja c kZ hz).1]) (λ_=>ct2.1) (λ_=>oS hf.1 hf.2) (λz h1 h2=>by have h2:z<G.ts.length:=h2;omega)
theorem aui(c:Cx l P bt ro G i W)(bN:W.cM= .m .start)(hc:W.jk.toNat=y):rG l P bt ro ro G i W (NW l G W y (G.tk y)):=by
 have ct:=c.ct;unfold cy at ct;rw[bN]at ct;dsimp only at ct;obtain⟨a1,a2,a3⟩:=ct;rw[hc]at a3;have hf:=c.fl.no (by unfold Wk.waits;rw[bN])
 have pB:y<G.ts.length:=ah;have hT:=c.ty.pX pB;have e1:W.hold=y::W.stack:=by unfold Wk.hold;rw[if_pos bN,hc];rfl
 unfold NW;split
 ·refine⟨{c.ty with},⟨⟨[],bc⟩,iv _,λ_ _ _=>rfl,λ_ _=>⟨rfl,rfl,rfl⟩,⟨[],by simp[Gl.fail]⟩,λ_ _ q=>q,λ_ _ _ _=>⟨rfl,rfl⟩,λ_ _ _=>⟨rfl,rfl⟩,λ_ q=>q⟩,⟨c.wt.id,c.wt.lt,c.wt.dq,ack (G:=G) rfl c.wt.bk,c.wt.dp,c.wt.hl,λq=>by(cases q),λq=>by(cases q),c.wt.run,c.wt.nd⟩,λz hz=> .inl hz,λz h1 h2=>by have h2:z<G.ts.length:=h2;omega⟩
 rename_i aFq;generalize hm:G.M.get (W.dq+1)=mk;have hT':Tz ro G.C.length y {G.tk y with cD:=[((G.tk y).own,mk)]}:=hT.to ⟨rfl,rfl,rfl,rfl⟩ (λp hp=>by simp at hp;subst hp;exact hT.own) (by dsimp only;rw[a3.cl,a3.sc];exact iv 1) hT.sl
 obtain⟨e3,e4⟩:=Xh (r:=(G.tick W.id).set y {G.tk y with cD:=[((G.tk y).own,mk)]}) (t':={G.tk y with cD:=[((G.tk y).own,mk)]}) (G:=G) rfl pB;have ty:Ty l ro ((G.tick W.id).set y {G.tk y with cD:=[((G.tk y).own,mk)]}):=c.tt.set (λ_=>hT')
 have hmem:y∈W.hold:=by rw[e1];simp
 have BO:ur ro ro G ((G.tick W.id).set y {G.tk y with cD:=[((G.tk y).own,mk)]}) W.hold:=(aen c.ty).trans (acj (G:=G.tick W.id) (ro:=ro) hmem pB rfl rfl rfl) (.inl rfl);have hnd:=c.wt.nd;rw[e1]at hnd;have hys:=(List.nodup_cons.1 hnd).1;have NY:∀z∈W.stack,((G.tick W.id).set y {G.tk y with cD:=[((G.tk y).own,mk)]}).tk z=G.tk z:=λz hz=>amI (G:=G.tick W.id) (by rintro rfl;exact hys hz)
 have e2:(({W with stack:=y::W.stack,back:=W.home::W.back}:Wk).looks (G.tk y).lX (.c .wW)).hold=W.hold:=by
  rw[kG (by simp[Wk.looks]),e1];rfl
 refine⟨ty,BO,⟨c.wt.id,c.wt.lt,c.wt.dq,?_,?_,λz hz=>by show z<List.length _;rw[e4];exact c.wt.hl z (by rw[←e2];exact hz),λ_=> ?_,λ_=>oS hf.1 hf.2,λz hz=> ?_,by rw[e2];exact c.wt.nd⟩,λz hz=> .inl (by rw[←e2];exact hz),λz h1 h2=>by rw[e4]at h2;omega⟩
 ·refine⟨by show y<List.length _;rw[e4];exact pB,?_,atX (by rw[e4];exact iv _) NY c.wt.bk⟩
  show Ed P _ W.stack W.home;cases hs:W.stack with
  |nil=>rw[hs]at a2;exact a2
  |cons z st=>
   rw[hs]at a2 NY;show qW P _ (Gl.tk _ z) _;rw[NY z bc];exact qW.imp a2 (by rw[e4];exact iv _)
 ·show((y::W.stack).length:Int)≤l.deep;have:=c.wt.dp;simp;omega
 ·unfold cy Wk.looks;dsimp only[List.headD];rw[show Gl.tk _ y=_ from e3];exact⟨_,rfl,rfl,hT.ZM,.refl hT.ZM.1 hT.ZM.2,bc,⟨a3.fi.imp λw hw=>⟨hw.1,by rw[e4];exact hw.2⟩,a3.kind⟩⟩
 ·rw[e2]at hz;have hzl:=c.wt.hl z hz;have hK:((G.tick W.id).set y {G.tk y with cD:=[((G.tk y).own,mk)]}).K z=G.K z:=by
   unfold Gl.K;rw[(BO.ids z hzl).2.2];rfl
  rcases c.wt.run z hz with h|⟨_,_,h|h⟩
  ·exact .inl (hK.trans h)
  ·rw[bN]at h;cases h
  ·rw[bN]at h;cases h
end
end Go.Proofs.YthidhjhkmjjckaaGreatDoor
