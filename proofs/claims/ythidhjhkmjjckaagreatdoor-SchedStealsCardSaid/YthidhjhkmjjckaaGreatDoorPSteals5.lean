/-
  Parts of the proof of LSteals: printed by a program out of longer texts.
-/
import Derived.Test.YthidhjhkmjjckaaGreatDoorPSteals4
set_option linter.unusedSimpArgs false
set_option linter.unusedVariables false
set_option maxRecDepth 100000
set_option linter.defProp false
open List renaming getElem?_eq_some_iff→kB,getElem?_eq_getElem→iH,getD_eq_getElem?_getD→m0,getElem?_append_left→tJ,getElem?_append_right→u0,getElem?_set_ne→r0,getElem?_set_self→uO,mem_of_getElem?→qn,getElem?_map→l8,eraseIdx→I7,insertIdx_succ_cons→aBT,insertIdx_zero→aBU,replicate→dU,mem_append→zw,length_append→uv,all_eq_true→tL
open Go.Sem renaming run_pure→cP,run_bind→cR
open Go.Result renaming andThen_ok→cK
open Bool renaming or_eq_false_iff→kf,and_eq_true→iY
open Option renaming isNone→eA
open Go.IntKind renaming wrap→aF
open Int renaming toNat_natCast→iZ
open Array renaming setIfInBounds→eS,getElem?_eq_some_iff→Bf
open Nat renaming le_refl→iw
open Go.Addr renaming add→aY
namespace Go.Proofs.YthidhjhkmjjckaaGreatDoor
open Go Go.Ev Go.Proofs
open Ko (ni CK)
open Fr (dY)
variable{p:Option Addr}{xm:Bool}{c:Value→ap}
section
variable{w0 w:World}{L R:List HP}{l:Lc}{P:List dB}{aa:List Nat}{G:Gl}{gw b c d x y a a':Nat}{W:Wk}{k:Unit→ap}{sp st sw so sc:Sl}{q:Wq}{f:HP→List HP}{t t' tt:Tk}{s':List Nat}{vs:List Value}{i:List Int}{nd:Nd}{p:Pl}{os:List (Nat×Wk)}{bw:List Int}
def alW{p:Addr}{c:Value→ap}(h:fF xm p w λ_ w=>c (.tuple #[]) w):Dk [.bool xm,.pointer (some p)] w c:=h
def ajy{p:Addr}{c:Value→ap}(h:eW xm p w λ_ w=>c (.tuple #[]) w):B4 [.bool xm,.pointer (some p)] w c:=h
def apU{p r:Addr}{c:Value→ap}(h:gH xm p r w λ_ w=>c (.tuple #[]) w):Ew [.bool xm,.pointer (some p),.pointer (some r)] w c:=h
def anZ(W:Wk)(t:Tk):Prop:=match W.seen with
 | .nx i=>i.length=5∧t.f.length=19∧((dY t.f i).2=false→8≤i.getD 0 0∧i.getD 0 0≤16)
 | .c .th=>True
 | .c .xp=>True
 |_=>False
def alX{lk:Lk}(hF:iA w0 l.ps P)(h:qR w0 w l aa gw G W R)(he:G.err=0)(hs:W.stack=x::s')(ht:G.ts[x]?=some t)(hl:W.look=some lk)(hd:lk.done=false)(hsc:nZ G.C lk.at_=some nd)(hc:G.M.can W.id nd.at_=true)(hn:anZ W t)
  (hk:Fin w0 l aa gw R k (looking l G W lk nd x t)):eL (some ⟨gw,0,none⟩) w k:=by
 obtain⟨id,dq,wait,stack,back,cT,op,after,look,seen,step,left,late,fits,got,none_,jq,home,target,kind,bO,blocked,again,a,mark,dK,own,said,bits,qc⟩:=W;dsimp only at hl hs hc;subst hl;obtain⟨sp,st,sw,q,hq,h⟩:=dX h;unfold eL vt;unfold looking at hk;dsimp only[l6]at h hk;refine dZ λw h=> ?_;have h:=h.fr 1;have h:=h.fr 3;have h:=h.fr 16;refine aiI h hd hsc hc λw h=> ?_;have h:=h.bk 16;have h:=h.bk 3;have h:=h.bk 1;refine cX<|ax (λhb=> ?_) λhb=> ?_
 ·have hb:(lk.go G.M nd).done=true:=by simpa using hb
  rw[if_pos hb]at hk;refine cX ?_;have h:xq w0 w l aa gw (G.tick id) ⟨id,dq,wait,stack,back,cT,op,after,some (lk.go G.M nd),seen,step,left,late,fits,got,none_,jq,home,target,kind,bO,blocked,again,a,mark,dK,own,said,bits,qc⟩ R sp st sw q:=h;replace hq:q.Ok aa gw ⟨id,dq,wait,stack,back,cT,op,after,some (lk.go G.M nd),seen,step,left,late,fits,got,none_,jq,home,target,kind,bO,blocked,again,a,mark,dK,own,said,bits,qc⟩:={hq with};unfold anZ at hn;unfold Sy at hk;have hv:=hq.seen;cases seen with
  |nx i=>
   obtain⟨b,c',hb',d,h5,hv⟩:=hv;rw[hv];refine bV (λ_ _ _=>rfl) (apU ?_);exact auP hF hq h hb' d h5 he hs ht hn.2.1 hn.2.2 hk
  |c f=>
   obtain⟨b,hb',hv⟩:=hv;rw[hv];cases f<;>first|exact hn.elim|skip
   ·refine bV (λ_ _ _=>rfl) (alW ?_);exact apM hq h hb' hs ht hk
   ·refine bV (λ_ _ _=>rfl) (ajy ?_);exact alO hq h hb' hk
  |m f=>exact hn.elim
  |no=>exact hn.elim
  |any=>exact hn.elim
  |aw y=>exact hn.elim
  |sh kk=>exact hn.elim
  |V2 y kk=>exact hn.elim
  |BR y kk=>exact hn.elim
  |hl m z=>exact hn.elim
 ·have hb:(lk.go G.M nd).done=false:=by simpa using hb
  rw[if_neg (by rw[hb];simp)]at hk
  exact hk _ (bn (by exact{hq with}) h)
def au5{n gj:Nat}{Wj:Wk}{c:Array Value→Prop}(h:St w0 w L)[a:At L (jO (pH l aa)) os f](hn:os[n]?=some (gj,Wj))(hc:c #[.int .i64 Wj.dq,.int .i64 l.log]):bx 2 w (aY ⟨gj,0,none⟩ 2) c:=by
 obtain⟨R,ho,_⟩:=a.out;obtain⟨q,hq,h2⟩:=X2 (BW (ho h) hn);refine bA h2 vM ?_;exact hc
def apV{p:Option Addr}{c:Value→ap}(h:iq p w λ_ w=>c (.tuple #[]) w):Fk [.pointer p] w c:=h
def ajz{p:Option Addr}{c:Value→ap}(h:fE p w λ_ w=>c (.tuple #[]) w):Dj [.pointer p] w c:=h
structure aar (l:Lc) (os:List (Nat×Wk)) (bw:List Int) (W:Wk):Prop where
 none_:W.none_= .m .y5∨(W.none_= .m .nothing∧W.wait.how=1)
 left:∀j r,W.left=j::r→∃(jn gj n:Nat) (Wj:Wk),j=((jn:Nat):Int)∧l.wa[jn]?=some gj∧os[n]?=some (gj,Wj)∧Wj.dq=bw.getD jn 0
def ZA(h:qR w0 w l aa gw G W (jO (pH l aa) os::R))(hv:aar l os bw W)(hk:Fin w0 l aa gw (jO (pH l aa) os::R) k (KR l G W t bw)):bR (some ⟨gw,0,none⟩) w k:=by
 obtain⟨sp,st,sw,q,hq,h⟩:=dX h;unfold bR wB;unfold KR at hk;have hn:=qY (s:=q.sl) h;have hvl:=hv.left;refine cX<|ax (λhb=> ?_) λhb=> ?_
 ·have hb:W.left=[]:=by
   have:((q.sl.n:Nat):Int)=0:=gq hb
   simp at hn;exact List.eq_nil_of_length_eq_zero af
  rw[hb]at hk;dsimp only at hk;unfold alM at hk;refine cX ?_;have hr:=hq.none_;rcases hv.none_ with hd|⟨hd,hw⟩
  ·rw[hd]at hk hr;obtain hr:q.Zp=mt gw .y5:=hr;rw[hr];rw[if_pos rfl]at hk;refine bV (λ_ _ _=>rfl) (apV ?_);exact auL (bn hq h) hk
  ·rw[hd]at hk hr;obtain hr:q.Zp=mt gw .nothing:=hr;rw[hr];rw[if_neg e7]at hk;refine bV (λ_ _ _=>rfl) (ajz ?_);exact alT (bn hq h) hw hk
 ·cases hleft:W.left with
  |nil=>
   rw[hleft]at hn;simp at hn;simp[hn]at hb
  |cons j r=>
   obtain⟨jn,gj,n,Wj,rfl,hj,hos,a⟩:=hvl j r hleft;rw[hleft]at hk h;dsimp only at hk;rw[iZ,←a]at hk;have b:=qY (s:=q.sl) h;simp at b;refine dZ λw h=> ?_;refine vI h e7 rfl<|vP h af (adn hj)<|cX ?_;refine arw (s:=q.sl) h e7 af λdd c h=> ?_;have h:St w0 w (au l.gs (l.cs sp st sw G.steps G.err)::bH l.gm G.M::Da l.gk G.T::scp l.gc G.C::rws 4 sp (G.P.map tI)::bG 1 st (aa.map pt)::bG 1 sw (l.wa.map pt)::ni l.gt G.time::Lw l.gd G.D::LA aa G.ts::
    au gw (W.cs l q)::au q.gwt (W.wait.cells l.told)::bG 1 q.ss q.qw.reverse::bG 1 q.sb q.y6.reverse::bG 1 dd (ints r)::l6 (uh q.go) W.op::l6 (λk:Lk=>au q.gl (k.cells l.gc)) W.look::l6 (λo:jH=>au q.gp (o.cells l.sp q.gp)) W.step::fz q.B::jO (pH l aa) os::R):=h
   refine dZ λw h=>au5 (l:=l) (aa:=aa) h hos<|atp h λgo w h=> ?_;have h:=A5 (K:=l6 (uh q.go)) h;unfold bq;refine dZ λw h=>hk _ (bn (q:={q with go:=go,pJ:=mt gw .pF,KJ:=mt gw .Uv,sl:=dd}) (by exact{hq with cT:=rfl,after:=rfl}) h)
end
variable{M:bJ}{wk z:Int}{k:Bool→ap}
section
variable{w0 w:World}{L R:List HP}{l:Lc}{P:List dB}{aa:List Nat}{G:Gl}{gw b c d x y a a':Nat}{W:Wk}{k:Unit→ap}{sp st sw so sc:Sl}{q:Wq}{f:HP→List HP}{t t' tt:Tk}{s':List Nat}{vs:List Value}{i:List Int}{nd:Nd}{p:Pl}{os:List (Nat×Wk)}{bw:List Int}
def au6(h:M.OK):(M.tick wk).OK:=⟨h.size,h.fit⟩
def apW(h:qR w0 w l aa gw G W (jO (pH l aa) os::R))(a:G.M.OK)(hs:l.sp.OK)(hc:G.M.can W.id l.idle=true)(hg:G.M.given (l.sp.at_+1)=true)(h1:1≤l.wa.length)(h2:l.wa.length≤16)(h3:0≤W.id)(h4:W.id<l.wa.length)
  (hv:aar l os bw {W with left:=VU (G.D.headD 0) (xI W.id (l.sp.bits G.M) (G.M.get l.idle) l.wa.length)}) (hk:Fin w0 l aa gw (jO (pH l aa) os::R) k (others l G W t bw)):fj (some ⟨gw,0,none⟩) w k:=by
 obtain⟨sp,st,sw,q,hq,h⟩:=dX h;unfold fj wI;unfold others at hk;have hn:=qY (s:=sw) h;rw[List.length_map]at hn;refine dZ λw h=>ate h hc λw h=> ?_;refine dZ λw h=>ape h λw h=> ?_;with_reducible repeat' (first|refine nP h ?_|fail)
 refine afd h hs (au6 a) hg λw h=> ?_;with_reducible repeat' (first|refine nP h ?_|fail)
 refine atv (n:=((sw.n:Nat):Int)) h af af h3 af λs1 w h=> ?_;have h:=A5 (K:=bG 1 q.sl) h;rw[iZ,hn]at h;refine dZ λw h=>ZA (bn (q:={q with sl:=s1}) (by exact{hq with}) h) hv hk
def au7{me:Int}{pt':Option Addr}{tg:Option Nat}{k:Bool→ap}(h:xq w0 w l aa gw G W R sp st sw q)(hb:(b,[pt gw])∈q.B)(hcb:(c,[.int .i64 me])∈q.B)(hdb:(d,[.pointer pt'])∈q.B)(hT:acI G.T)
  (hp:match tg with|none=>pt'=none|some x=> ∃a,aa[x]?=some a∧pt'=some ⟨a,0,none⟩) (f:∀y,tg=some y→y<G.ts.length)
  (hk:∀w',xq w0 w' l aa gw G W R sp st sw q→k (match tg with|none=>Sh G.T z me|some y=>Sh G.T z me||Sh G.T z (G.vJ y)) w'):gG z ⟨b,0,none⟩ ⟨c,0,none⟩ ⟨d,0,none⟩ w k:=by
 unfold gG wD;with_reducible repeat' (first|refine bc ?_|refine cH h λw h=> ?_|refine Tn h ?_|refine Zn h hb ?_|refine fzI h hcb ?_)
 refine aai h hT λw h=>ax (λhd=> ?_) λhd=> ?_
 ·have:=hk w h;cases tg with
  |none=>dsimp only at this;rw[hd]at this;exact this
  |some y=>dsimp only at this;rw[hd]at this;exact this
 ·with_reducible repeat' (first|refine Zn h hdb ?_|fail)
  cases tg with
  |none=>
   obtain rfl:pt'=none:=hp;have:=hk w h;dsimp only at this;rw[hd]at this;exact aU rfl this
  |some y=>
   obtain⟨a',hy,rfl⟩:=hp;have g:=f y rfl;have i:G.ts[y]?=some (G.ts[y]'g):=iH g;refine bK rfl ?_;obtain⟨hp,so,sc,h⟩:=n7 h hy i;with_reducible repeat' (first|refine bc ?_|refine Tn h ?_|refine Iy h ?_|refine Zn h hb ?_|refine Zn h hdb ?_)
   have h:=oX hp h;refine aai h hT λw h=> ?_;have:=hk w h;dsimp only at this;rw[hd,Bool.false_or]at this;have e:G.vJ y=(G.ts[y]'g).id:=by unfold Gl.vJ;rw[i]
   rw[e]at this;exact this
end
section
variable{w0 w:World}{L R:List HP}{l:Lc}{P:List dB}{aa:List Nat}{G:Gl}{gw b c d x y a a':Nat}{W:Wk}{k:Unit→ap}{sp st sw so sc:Sl}{q:Wq}{f:HP→List HP}{t t' tt:Tk}{s':List Nat}{vs:List Value}{i:List Int}{nd:Nd}{p:Pl}{os:List (Nat×Wk)}{bw:List Int}
def ayJ{c:Value→ap}(h:ix z w λr w=>c (.bool r) w):uB [.int .i64 z] w c:=h
def aB2{p r s:Addr}{c:Value→ap}(h:gG z p r s w λr w=>c (.bool r) w):wE [.int .i64 z,.pointer (some p),.pointer (some r),.pointer (some s)] w c:=h
def alY{p:Addr}{c:Value→ap}(h:eT z p w λ_ w=>c (.tuple #[]) w):B1 [.int .i64 z,.pointer (some p)] w c:=h
def apX{p:Option Addr}{c:Value→ap}(h:cW p z w λ_ w=>c (.tuple #[]) w):Fm [.pointer p,.int .i64 z] w c:=h
def ajA(G:Gl)(W:Wk):Prop:=match W.fits with
 | .any=>True
 | .hl _ tg=>acI G.T∧∀y,tg=some y→y<G.ts.length
 |_=>False
def ayK{bY:ey}{c:Value→ap}(hd:ajA G W)(e1:∀args w c,bY (.func kD) args w c=uB args.toList w c)(e2:∀args w c,bY (.func lY) args w c=wE args.toList w c)
  (hq:q.Ok aa gw W) (h:xq w0 w l aa gw G W R sp st sw q) (hk:∀w',xq w0 w' l aa gw G W R sp st sw q→c (.bool (Zw G W G.vJ z)) w'):nj bY q.Zo #[.int .i64 z] w c:=by
 unfold ajA at hd;unfold Zw at hk;have hv:=hq.fits;revert hd hk hv;cases hag:W.fits<;>intro hd hk hv<;>first|exact hd.elim|skip
 ·obtain hv:q.Zo=aAf:=hv;rw[hv];refine bV e1 (ayJ ?_);exact hk w h
 ·rename_i me tg;obtain⟨b,c',d',p,hb,a,d,hp,hv⟩:=hv;rw[hv];refine bV e2 (aB2 ?_);refine au7 h hb a d hd.1 (by revert hp;cases tg<;>exact λh=>h) hd.2 λw h=> ?_
  have:=hk w h;cases tg with
  |none=>exact this
  |some y=>exact this
def aB3{DC:Int}(h:qR w0 w l aa gw G W (jO (pH l aa) os::R))(hop:W.op.isSome=true)(hf:ajA G W)(hv:aar l os bw W)(hk:Fin w0 l aa gw (jO (pH l aa) os::R) k (Uv l G W t bw G.vJ DC)):jM (some ⟨gw,0,none⟩) DC w k:=by
 obtain⟨sp,st,sw,q,hq,h⟩:=dX h;unfold jM Bu;unfold Uv at hk;have d:=hq.fits.one;refine bP (λb w=>b=decide (DC≠2∨Zw G W G.vJ (got W)=false)∧xq w0 w l aa gw G W (jO (pH l aa) os::R) sp st sw q) (λJ c=> ?_) ?_
 ·refine dZ λw h=>ax (λhb=> ?_) λhb=> ?_
  ·exact c _ _ ⟨by simp at hb;simp[hb],h⟩
  ·refine cX<|ahs h hop ?_;refine cX<|ayK hf (λ_ _ _=>rfl) (λ_ _ _=>rfl) hq h λw h=>ags<|c _ _ ⟨?_,h⟩;have hb:DC=2:=by simpa using hb
   show(!(Zw G W G.vJ (anQ W.op)))=_;cases a:Zw G W G.vJ (anQ W.op)<;>simp[hb,a]
 clear h;rintro _ w ⟨rfl,h⟩;refine ax (λhb=> ?_) λhb=> ?_
 ·rw[if_pos (of_decide_eq_true hb)]at hk;exact ZA (bn hq h) hv hk
 ·rw[if_neg (of_decide_eq_false hb)]at hk;refine dZ λw h=>hk _ (bn (q:={q with KJ:=mt gw .AL}) (by exact{hq with after:=rfl}) h)
def au8{DC:Int}(h:qR w0 w l aa gw G W (jO (pH l aa) os::R))(hop:W.op.isSome=true)(hg:W.got= .c .S8∨W.got= .m .BQ)(hv:aar l os bw {W with late:=true})(hk:Fin w0 l aa gw (jO (pH l aa) os::R) k (AL l G W t bw DC)):ir (some ⟨gw,0,none⟩) DC w k:=by
 obtain⟨sp,st,sw,q,hq,h⟩:=dX h;unfold ir yn;unfold AL at hk;refine ax (λhb=> ?_) λhb=> ?_
 ·rw[if_pos (gq hb)]at hk
  unfold auJ at hk;refine dZ λw h=>ahs h hop ?_;refine cX ?_;have hr:=hq.got;rcases hg with hd|hd
  ·rw[hd]at hk hr;obtain⟨b,hb',hr⟩:=hr;rw[hr];rw[if_neg e7]at hk;refine bV (λ_ _ _=>rfl) (alY ?_);exact apH hq h hb' hk
  ·rw[hd]at hk hr;obtain hr:q.ajd=mt gw .BQ:=hr;rw[hr];rw[if_pos rfl]at hk;refine bV (λ_ _ _=>rfl) (apX ?_);exact ajt (bn hq h) hk
 ·rw[if_neg (gq hb)]at hk
  refine dZ λw h=>ZA (bn (by exact{hq with}) h) hv hk
end
section
variable{w0 w:World}{L R:List HP}{l:Lc}{P:List dB}{aa:List Nat}{G:Gl}{gw b c d x y a a':Nat}{W:Wk}{k:Unit→ap}{sp st sw so sc:Sl}{q:Wq}{f:HP→List HP}{t t' tt:Tk}{s':List Nat}{vs:List Value}{i:List Int}{nd:Nd}{p:Pl}{os:List (Nat×Wk)}{bw:List Int}
def apY{p:Addr}{c:Value→ap}(h:gF z p w λ_ w=>c (.tuple #[]) w):Er [.int .i64 z,.pointer (some p)] w c:=h
def ajB{p:Addr}{c:Value→ap}(h:eU z p w λ_ w=>c (.tuple #[]) w):B2 [.int .i64 z,.pointer (some p)] w c:=h
def ajC{p:Addr}{c:Value→ap}(h:eV z p w λ_ w=>c (.tuple #[]) w):B3 [.int .i64 z,.pointer (some p)] w c:=h
def ayL{p:Option Addr}{c:Value→ap}(h:jM p z w λ_ w=>c (.tuple #[]) w):Ii [.pointer p,.int .i64 z] w c:=h
def apZ{p:Option Addr}{c:Value→ap}(h:ir p z w λ_ w=>c (.tuple #[]) w):Fp [.pointer p,.int .i64 z] w c:=h
def aas(l:Lc)(os:List (Nat×Wk))(bw:List Int)(G:Gl)(W:Wk)(x:Nat)(t:Tk):Prop:=match W.after with
 | .c .F9=>True
 | .c .um=>True
 | .c .td=>(∃s',W.stack=x::s')∧G.ts[x]?=some t∧(W.dK= .m .vQ∨W.dK= .c .Db)
 | .m .Uv=>ajA G W∧aar l os bw W
 | .m .AL=>(W.got= .c .S8∨W.got= .m .BQ)∧aar l os bw {W with late:=true}
 |_=>False
def alZ{O:bu}(h:qR w0 w l aa gw G W (jO (pH l aa) os::R))(he:G.err=0)(e:G.M.OK)(hop:W.op=some O)(hf:O.GX)(hno:(O.step G.M W.id).1.how=6→(O.step G.M W.id).1.err≠0)
  (ha:(O.step G.M W.id).1.how≠0→(O.step G.M W.id).1.how≠6→aas l os bw (G.mem (O.step G.M W.id).2) {W with op:=some (O.step G.M W.id).1} x t)
  (hk:Fin w0 l aa gw (jO (pH l aa) os::R) k (pF l G W O t bw G.vJ)):eK (some ⟨gw,0,none⟩) w k:=by
 obtain⟨id,dq,wait,stack,back,cT,op,after,look,seen,step,left,late,fits,got,none_,jq,home,target,kind,bO,blocked,again,d,mark,dK,own,said,bits,qc⟩:=W;dsimp only at hop ha hno;subst hop;obtain⟨sp,st,sw,q,hq,h⟩:=dX h;unfold eK vp;unfold pF at hk;dsimp only[l6]at h hk;refine dZ λw h=> ?_;have h:=h.fr 1;have h:=h.fr 15;refine ano h hf e λw h=> ?_;have h:=h.bk 15;have h:=h.bk 1;generalize O.step G.M id=r at h hk ha hno ⊢;have h:xq w0 w l aa gw (G.mem r.2) ⟨id,dq,wait,stack,back,cT,some r.1,after,look,seen,step,left,late,fits,got,none_,jq,home,target,kind,bO,blocked,again,d,mark,dK,own,said,bits,qc⟩ (jO (pH l aa) os::R) sp st sw q:=h;replace hq:q.Ok aa gw ⟨id,dq,wait,stack,back,cT,some r.1,after,look,seen,step,left,late,fits,got,none_,jq,home,target,kind,bO,blocked,again,d,mark,dK,own,said,bits,qc⟩:={hq with};refine ax (λhb=> ?_) λhb=> ?_
 ·have hb:r.1.how=0:=by simpa using hb
  rw[if_pos hb]at hk;exact hk _ (bn hq h)
 have hb:¬r.1.how=0:=gq hb
 rw[if_neg hb]at hk;refine ax (λa=> ?_) λa=> ?_
 ·have a:r.1.how=6:=by simpa using a
  rw[if_pos a]at hk;refine dZ λw h=> ?_;have h2:St w0 w (uh q.go r.1::_):=h.front 15 rfl;refine aBt h2<|cX<|KP h (hno a) he λw h=>hk _ (bn hq h)
 have a:¬r.1.how=6:=gq a
 rw[if_neg a]at hk;replace ha:=ha hb a;unfold aas at ha;unfold zj at hk;have hv:=hq.after;refine cX ?_;cases after with
 |c f=>
  obtain⟨b,hb',hv⟩:=hv;rw[hv];cases f<;>first|exact ha.elim|skip
  ·refine bV (λ_ _ _=>rfl) (apY ?_);exact auK hq h hb' rfl hk
  ·refine bV (λ_ _ _=>rfl) (ajB ?_);exact alP hq h hb' hk
  ·refine bV (λ_ _ _=>rfl) (ajC ?_);obtain⟨⟨s',hs⟩,ht,hd⟩:=ha;exact alR hq h hb' rfl hs ht hd hk
 |m f=>
  obtain hv:q.KJ=mt gw f:=hv;rw[hv];cases f<;>first|exact ha.elim|skip
  ·refine bV (λ_ _ _=>rfl) (ayL ?_);exact aB3 (bn hq h) rfl ha.1 ha.2 hk
  ·refine bV (λ_ _ _=>rfl) (apZ ?_);exact au8 (bn hq h) rfl ha.1 ha.2 hk
 |nx i=>exact ha.elim
 |no=>exact ha.elim
 |any=>exact ha.elim
 |aw y=>exact ha.elim
 |sh kk=>exact ha.elim
 |V2 y kk=>exact ha.elim
 |BR y kk=>exact ha.elim
 |hl m z=>exact ha.elim
end
open Fr (A0 nE dY eI di iG jo nF o5 qH kz qt qa qb pZ)
section
variable{w0 w:World}{L R:List HP}{l:Lc}{P:List dB}{aa:List Nat}{G:Gl}{gw b c d x y a a':Nat}{W:Wk}{k:Unit→ap}{sp st sw so sc:Sl}{q:Wq}{f:HP→List HP}{t t' tt:Tk}{s':List Nat}{vs:List Value}{i:List Int}{nd:Nd}{p:Pl}
def aEz:ET Tryz.prog 120 2 16 (.agg #[.int .i64 0,.int .i64 0]):=⟨aZ,aZ⟩
def an0:ET Tryz.prog 69 1 8 (.int .i64 0):=⟨aZ,aZ⟩
def au9(hF:iA w0 l.ps P)(hI:In P t.f i)(h:qR w0 w l aa gw G W R)(he:G.err=0)(hs:W.stack=x::s')(ht:G.ts[x]?=some t)(ho:t.cJ≠ [])(A:G.M.OK)(B:G.M.caller W.id=true)(hC:G.C.length≤1000000)(hP:G.P.length≤1000000)(hsc:nZ G.C t.kA.1=some nd)
  (r:0≤t.kA.1∧G.P[t.kA.1.toNat]?=some p) (u:t.scopes.length≤1000000) (v:t.cJ.length≤1000000) (d:G.time.2.length≤100000∧CK G.time) (z:i.getD 4 0>0→(Ko.Dt G.time (G.C.length:Nat) (i.getD 4 0)).1=0)
  (hk:Fin w0 l aa gw R k (opens l P G W x t nd p.2.1)):fX (some ⟨gw,0,none⟩) w k:=by
 obtain⟨o,m,y⟩:∃o m,t.cJ=o++[m]:=⟨_,_,(List.dropLast_concat_getLast ho).symm⟩;obtain⟨sp,st,sw,q,hq,h⟩:=dX h;obtain⟨a,vs,ha,hst,hvs⟩:=m5 hq hs;obtain⟨hp,so,sc,h⟩:=n7 h ha ht;unfold fX yH;unfold opens at hk;rw[Cr y]at hsc r hk;rw[hI.ins]at hk;have hf:=hI.len;have h5:=hI.GZ;dsimp only at hk;refine G5 h he (λhb w h=> ?_) λhb w h=> ?_
 ·rw[if_pos hb]at hk;refine cX ?_;exact hk _ (bn hq (oX ⟨hp.len,hp.a,hp.t⟩ h))
 rw[if_neg hb]at hk;refine cX ?_;refine lF h hst vM λw h=>JH hF hI h hst λw h=> ?_;obtain⟨i0,i1,i2,i3,i4,rfl⟩:=JG h5;have D:([i0,i1,i2,i3,i4]:List Int).getD 4 0=i4:=rfl;rw[D]at hk z;refine vO λgx w h=> ?_;obtain⟨gc,F⟩:∃n,n=gx:=⟨_,rfl⟩;subst F;refine Ca h y λw h=> ?_;with_reducible repeat' (first|refine nP h ?_|fail)
 refine ptI (by rfl) ?_
 refine agZ (C:=G.C) (M:=G.M) h hsc B A hC (λhd w h=> ?_) (λhd hr w h=> ?_) λhd hr w h=> ?_
 ·rw[if_pos hd]at hk;refine cX ?_;refine KP h e7 he λw h=> ?_;exact hk _ (bn hq (oX ⟨hp.len,hp.a,hp.t⟩ (h.rm 0 rfl)))
 ·rw[if_neg hd,if_pos hr]at hk;refine cX ?_;refine KP h e7 he λw h=> ?_;exact hk _ (bn hq (oX ⟨hp.len,hp.a,hp.t⟩ (h.rm 0 rfl)))
 ·rw[if_neg hd,if_neg (by rw[hr];simp)]at hk
  have c:=qY (s:=sc) h;have c:sc.n=t.scopes.length:=gq c
  refine dZ λw h=> ?_;refine Ca h y λw h=> ?_;with_reducible repeat' (first|refine nP h ?_|fail)
  refine ptI (by rfl) ?_
  refine rI (sz:=4) (s:=sp) h r.1 (e:=tI p) (j:=1) (by rw[l8,r.2];rfl) rfl ?_
  with_reducible repeat' (first|refine nP h ?_|fail)
  refine Jw rfl rfl ?_;refine vO λgx w h=> ?_;refine Z8 (sz:=4) (s:=sp) h auX aZ rfl af (by simp[Value.oneCell']) (gq hP) af λs1 w h hn=> ?_
  have h:=h.zm 0;have e1:G.P.map tI++[tI (t.id,((sc.n:Nat):Int),p.2.1,false)]=(G.P++[(t.id,((t.scopes.length:Nat):Int),p.2.1,false)]).map tI:=by rw[c];simp
  rw[e1]at h;with_reducible repeat' (first|refine bc ?_|refine u_S h ?_|refine Hq h λw h=> ?_|refine aM h λgx w h=> ?_|refine nP h ?_|fail)
  refine I9 (s:=sc) h an0 aZ rfl (gq u) af λs2 w h K=> ?_
  have h:=h.zm 0;have e2:ints t.scopes++[.int .i64 ((G.C.length:Nat):Int)]=ints (t.scopes++[((G.C.length:Nat):Int)]):=by simp[ints]
  rw[e2]at h;refine dZ λw h=> ?_;refine Jw rfl rfl ?_;refine vO λgx w h=> ?_;refine Z8 (sz:=2) (s:=so) h aEz aZ rfl af (by simp[Value.oneCell']) (gq v) af λs3 w h H=> ?_
  have h:=h.zm 0;have I:t.cJ.map A1++[A1 (((G.C.length:Nat):Int),W.mark)]=(t.cJ++[(((G.C.length:Nat):Int),W.mark)]).map A1:=by simp
  rw[I]at h;refine dZ λw h=> ?_;refine bP (fun(b:Bool) w=>b=false∧St w0 w (au gc (ints [i0,i1,i2,i3,i4])::TL l aa gw {G with M:=(G.M.tick W.id).grow 2,C:=G.C++[⟨m.1,wr (nd.nest+1),(G.M.cells.length:Nat)⟩],P:=G.P++[(t.id,((t.scopes.length:Nat):Int),p.2.1,false)],time:=if i4>0 then(G.time.1,(Ko.Dt G.time (G.C.length:Nat) i4).2)else G.time} W R s1 st sw q x a {t with scopes:=t.scopes++[((G.C.length:Nat):Int)],cJ:=t.cJ++[(((G.C.length:Nat):Int),W.mark)]} s3 s2)) (λJ g=> ?_) ?_
  ·refine dZ λw h=> ?_;refine ax (λhb=> ?_) λhb=> ?_
   ·have hb:i4>0:=of_decide_eq_true hb;rw[if_pos hb]at g;refine cX ?_;refine Ko.aBH d.1 d.2 h λw h=> ?_;rw[show(Ko.Dt (G.time.1,G.time.2) ((G.C.length:Nat):Int) i4).1=0 from z hb];with_reducible repeat' (first|refine nP h ?_|refine AM ?_|fail)
    exact g _ _ ⟨rfl,h⟩
   ·have hb:¬i4>0:=of_decide_eq_false hb;rw[if_neg hb]at g;exact g _ _ ⟨rfl,h⟩
  clear h;rintro _ w ⟨rfl,h⟩;refine cX ?_;refine Td (t:=t) h hf λw h=> ?_;refine cX ?_;refine AN h (by rw[kz,hf]) λw h=> ?_
  have h:=h.zm 0;unfold aG;refine dZ λw h=> ?_;exact hk _ (bn (q:={q with pJ:=mt gw .next}) (by exact{hq with cT:=rfl}) (vH
   (G:=({G with M:=(G.M.tick W.id).grow 2,C:=G.C++[⟨m.1,wr (nd.nest+1),(G.M.cells.length:Nat)⟩],P:=G.P++[(t.id,((t.scopes.length:Nat):Int),p.2.1,false)],time:=if i4>0 then(G.time.1,(Ko.Dt G.time (G.C.length:Nat) i4).2)else G.time}:Gl).lZ) ⟨hp.len,hp.a,hp.t⟩ h))
end
section
variable{w0 w:World}{L R:List HP}{l:Lc}{P:List dB}{aa:List Nat}{G:Gl}{gw b c d x y a a':Nat}{W:Wk}{sp st sw so sc:Sl}{q:Wq}{f:HP→List HP}{t t' tt:Tk}{s':List Nat}{vs:List Value}{i:List Int}{nd:Nd}{p:Pl}
abbrev SL(l:Lc)(aa:List Nat)(G:Gl)(R:List HP)(sp st sw:Sl):List HP:=au l.gs (l.cs sp st sw G.steps G.err)::bH l.gm G.M::Da l.gk G.T::scp l.gc G.C::rws 4 sp (G.P.map tI)::bG 1 st (aa.map pt)::bG 1 sw (l.wa.map pt)::ni l.gt G.time::Lw l.gd G.D::LA aa G.ts::R
def al0{g:Nat}{X Y:List Value}(h:St w0 w (au g X::L))(e:X=Y):St w0 w (au g Y::L):=e▸h
def avb{parent l7 own:Int}{fr:List Int}{k:Int→ap}(h:St w0 w (SL l aa G R sp st sw))(hf:fr.length=19)(c:G.M.OK)(d:G.M.caller wk=true)(b:(parent= -1∧G.T=[])∨∃t,GV G.T parent=some t∧t.kids.length≤1000000)(hT:G.T.length≤1000000)(hn:aa.length≤1000000)(hown:0≤own∧own<G.P.length)
  (h1:G.M.room 3=true→∀g DC w',St w0 w' (SL l (aa++[g]) (G.more wk parent l7 own fr) R sp DC sw)→k 0 w') (h2:G.M.room 3=false→∀w',St w0 w' (SL l aa G R sp st sw)→k 21 w'):fe (some ⟨l.gs,0,none⟩) wk parent l7 own (eZ fr) w k:=by
 unfold fe CM;refine aM h λgf w h=>cX<|axI h d c (λhr w h=> ?_) λhr w h=> ?_
 ·refine vO λgx w h=> ?_;obtain⟨m,a⟩:∃n,n=gx:=⟨_,rfl⟩;subst a;refine axN h b hT λw h=>dZ λw h=>anS h hf ?_;obtain⟨f0,f1,f2,f3,f4,f5,f6,f7,f8,f9,f10,f11,f12,f13,f14,f15,f16,f17,f18,rfl⟩:=Fr.ag8 hf;refine vO λgx w h=> ?_;obtain⟨gn,a⟩:∃n,n=gx:=⟨_,rfl⟩;subst a;refine⟨rfl,?_⟩;refine⟨rfl,?_⟩;with_reducible repeat' (first|refine aM h λgx w h=> ?_|refine nP h ?_)
  obtain⟨gp,a⟩:∃n,n=gx:=⟨_,rfl⟩;subst a;obtain⟨gt,a⟩:∃n,n=gx:=⟨_,rfl⟩;subst a;refine I9 h anV aZ rfl (gq hn) af λs1 w h o=> ?_
  have h:=h.zm 0;have f:aa.map pt++[.pointer (some ⟨gt,0,none⟩)]=(aa++[gt]).map pt:=by simp
  rw[f]at h;refine dZ λw h=> ?_;have i:own.toNat<G.P.length:=af;refine rW h hown.1 (by rw[l8,iH i];rfl) af rfl (by simp[Value.oneCell']) λw h=> ?_
  have e2:(G.P.map tI).set own.toNat [.int .i64 ((G.T.length:Nat):Int),.int .i64 0,.int .i64 0,.bool false]=(G.P.set own.toNat (((G.T.length:Nat):Int),0,0,false)).map tI:=by rw[List.map_set]
  have j:∀(z:Int),(#[.int .i64 z,.int .i64 0,.int .i64 0,.bool false]:Array Value).toList=[.int .i64 z,.int .i64 0,.int .i64 0,.bool false]:=λ_=>rfl;rw[j,e2]at h;have h:=h.zm 2;have h:=h.zm 2;have h:=St.asS (g:=gn) (sz:=1) h (by rfl) af (by intro v hv;simp at hv;subst hv;rfl)
  have h:=h.fr 11;have hl:aa.length=G.ts.length:=KI h;have h:=h.fr 2;have h:St w0 w (rws 2 ⟨none,0,0⟩ (([]:List (Int×Int)).map A1)::_):=St.YA (by intro e he;cases he) (h.DJ 2)
  have h:=h.fr 3;have h:=al0 (Y:=Tk.cells ⟨none,0,0⟩ ⟨some ⟨gn,0,none⟩,1,1⟩ ⟨(G.T.length:Nat),l7,own,(G.M.cells.length:Nat),[f0,f1,f2,f3,f4,f5,f6,f7,f8,f9,f10,f11,f12,f13,f14,f15,f16,f17,f18],ByteArray.mk #[],[],[own],0,0⟩) h aZ;have h:=ayj hl h;have h:=h.bk 9;exact h1 hr gt s1 w h
 ·refine vO λgx w h=>h2 hr w ((h.rm 0 rfl).rm 0 rfl)
end
section
variable{w0 w:World}{L R:List HP}{l:Lc}{aa m:List Nat}{os:List (Nat×Wk)}
def avc{x:Nat×Wk}{F:Nat→Prop}(h:(pH l aa x).p F w):(pH l (aa++m) x).p F w:=by
 obtain⟨q,hq,h⟩:=h;exact⟨q,hq.qT,h⟩
def ajD{α:Type}{X Y:α→HP}(b:∀a F w,(X a).p F w→(Y a).p F w):∀{l:List α} {F:Nat→Prop} {w:World},u4 (l.map X) F w→u4 (l.map Y) F w
 |[],_,_,h=>h
 |a::l,F,w,⟨c,d,h1,h2,h3⟩=>⟨c,d,b _ _ _ h1,ajD b h2,h3⟩
def an1(h:St w0 w (jO (pH l aa) os::R)):St w0 w (jO (pH l (aa++m)) os::R):=by
 obtain⟨h1,F,⟨b,c,h2,h4,h5,e⟩,h3⟩:=h;exact⟨h1,F,⟨b,c,ajD (λa F w h=>avc h) h2,h4,h5,e⟩,h3⟩
end
variable{n:Int}{g:dB}
section
variable{w0 w:World}{L R:List HP}{l:Lc}{P:List dB}{aa:List Nat}{G:Gl}{gw b c d x y a a':Nat}{W:Wk}{k:Unit→ap}{sp st sw so sc:Sl}{q:Wq}{f:HP→List HP}{t t' tt:Tk}{s':List Nat}{vs:List Value}{i:List Int}{nd:Nd}{p:Pl}{os:List (Nat×Wk)}
def ajE{f:List Int}{m:Int}(hf:f.length=19):(jo f n m).length=19:=by
 unfold jo;simp[Fr.XY,hf]
def ajF{ps:Sl}{k:Array Value×Int→ap}(h:St w0 w L)(hF:iA w0 ps P)(hf:t.f.length=19)(h5:i.length=5)(h8:o5 i 8=true)(hg:P[(i.getD 4 0).toNat]?=some g)(hk:∀w',St w0 w' L→k (eZ (jo t.f (i.getD 4 0) g.aX),0) w'):jd (frV t.f).toArray #[.slice ps.a ps.n ps.c] (eZ i) w k:=by
 rw[Oz hf];have b:=(hF.ext h.ext);refine Fr.atY (fs:=P.map λx=>(x.aX,x.sl)) hf h5 ?_ (λe=> ?_) (λ_ e=> ?_) λ_ z hz w' he=> ?_
 ·have hr:=b.rws;unfold Fr.Ow;rw[List.map_map];exact hr
 ·rw[h8]at e;cases e
 ·have:=(kB.1 hg).1;rw[List.length_map]at e;omega
 ·rw[l8,hg]at hz;cases hz
  exact hk w' (h.on he)
def ap1{k:Array Value→ap}(h:St w0 w L)(hf:t.f.length=19)(h5:i.length=5)(hk:∀w',St w0 w' L→k (eZ (eI t.f i z)) w'):jf (frV t.f).toArray (eZ i) z w k:=by
 rw[Oz hf];exact Fr.apn hf h5 λw' he=>hk w' (h.on he)
def avd(hF:iA w0 l.ps P)(hI:In P t.f i)(h:qR w0 w l aa gw G W (jO (pH l aa) os::R))(he:G.err=0)(hs:W.stack=x::s')(ht:G.ts[x]?=some t)(ho:t.cJ≠ [])(h8:o5 i 8=true)(hg:P[(i.getD 4 0).toNat]?=some g)
  (p:G.M.OK) (r:G.M.caller W.id=true) (d:∃t',GV G.T t.id=some t'∧t'.kids.length≤1000000) (hT:G.T.length≤1000000) (hn:aa.length≤1000000) (hown:0≤W.own∧W.own<G.P.length)
  (hk:∀JI w',qR w0 w' l JI gw (KQ l P G W x t).1 (KQ l P G W x t).2 (jO (pH l JI) os::R)→k () w'):fW (some ⟨gw,0,none⟩) w k:=by
 obtain⟨o,m,e⟩:∃o m,t.cJ=o++[m]:=⟨_,_,(List.dropLast_concat_getLast ho).symm⟩;obtain⟨sp,st,sw,q,hq,h⟩:=dX h;obtain⟨a,vs,ha,hst,hvs⟩:=m5 hq hs;obtain⟨hp,so,sc,h⟩:=n7 h ha ht;unfold fW yF;unfold KQ at hk;rw[Cr e,hI.ins]at hk;dsimp only at hk;have hf:=hI.len;have h5:=hI.GZ;have hnd:EN P (i.getD 4 0)=g.aX:=by unfold EN;rw[hg]
 rw[hnd]at hk;refine G5 h he (λhb w h=> ?_) λhb w h=> ?_
 ·rw[if_pos hb]at hk;refine cX ?_;exact hk aa _ (bn hq (oX ⟨hp.len,hp.a,hp.t⟩ h))
 rw[if_neg hb]at hk;refine cX ?_;refine lF h hst vM λw h=> ?_;refine JH hF hI h hst λw h=> ?_;obtain⟨i0,i1,i2,i3,i4,hi⟩:=JG h5;subst hi;refine vO λgx w h=> ?_;obtain⟨gc,u⟩:∃n,n=gx:=⟨_,rfl⟩;subst u;have b:(jo t.f i4 g.aX).length=19:=ajE hf;refine bP (fun(x2:Addr×Int) w=> ∃g2,x2=(⟨g2,0,none⟩,0)∧St w0 w (au g2 (ints (jo t.f i4 g.aX))::au gc (ints [i0,i1,i2,i3,i4])::TL l aa gw G W (jO (pH l aa) os::R) sp st sw q x a t so sc)) (λJ j=> ?_) ?_
 ·with_reducible repeat' (first|refine bc ?_|refine cH h λw h=> ?_|refine Tn h ?_|refine QT h ?_|refine Vh h ?_|refine aM h λgx w h=> ?_|refine nP h ?_|refine sR h ?_|refine y8 ?_ ?_|fail)
  ·refine ajF (t:=t) (i:=[i0,i1,i2,i3,i4]) (g:=g) h hF hf h5 h8 hg λw h=> ?_;with_reducible repeat' (first|refine aM h λgx w h=> ?_|refine nP h ?_|refine sR h ?_|fail)
   refine afu h rfl b λw h=> ?_;exact j _ _ ⟨_,rfl,h⟩
  ·refine ajF (t:=t) (i:=[i0,i1,i2,i3,i4]) (g:=g) h hF hf h5 h8 hg λw h=> ?_;refine afu h rfl b λw h=> ?_;exact j _ _ ⟨_,rfl,h⟩
 clear h;rintro _ w ⟨g2,rfl,h⟩;refine QI ?_;refine dZ λw h=> ?_;refine anS h b ?_;refine Ca h e λw h=> ?_;with_reducible repeat' (first|refine nP h ?_|refine sR h ?_|fail)
 refine ptI (by rfl) ?_
 have h:=h.bk 23;have h:=h.bk 22;have h:=oX hp h;refine avb (aa:=aa) (G:=G) h b p r (.inr d) hT hn hown (λhr gn DC w h=> ?_) λhr w h=> ?_
 ·rw[if_neg (by rw[hr];simp)]at hk
  have c:=qY (s:=DC) h;have hm':=(h.own (sz:=1) (s:=DC)).max;have z:=(h.own (sz:=1) (s:=DC)).cap;have e0:aF .i64 (((DC.n:Nat):Int) - 1)=(G.ts.length:Nat):=by
   rw[List.length_map,uv,hp.len]at c;simp only[List.length_cons,List.length_nil]at c;rw[kg ⟨af,af⟩];omega
  with_reducible repeat' (first|refine bc ?_|refine cH h λw h=> ?_|refine nP h ?_|refine I8 ?_|refine AM ?_|fail)
  obtain⟨hp',v,y,h⟩:=n7 (W:=W) (q:=q) h (S9 ha) (tJ (kB.1 ht).1|>.trans ht);with_reducible repeat' (first|refine bc ?_|refine Tn h ?_|refine u_S h ?_|refine QT h ?_|refine Vh h ?_|fail)
  refine ap1 (t:=t) (i:=[i0,i1,i2,i3,i4]) h hf h5 λw h=> ?_;refine cX ?_;refine AN h (by rw[qa,hf]) λw h=> ?_
  unfold aG;refine dZ λw h=> ?_;have h:=h.zm 22;have h:=h.zm 22;have h:=h.fr 22;have h:=an1 (m:=[gn]) h;have h:=h.bk 22;simp only[e0]at h;exact hk (aa++[gn]) _ (bn (q:={q with pJ:=mt gw .tF}) (by exact{hq.qT with cT:=rfl}) (vH (G:=(G.more W.id t.id m.1 W.own (jo t.f i4 g.aX)).lZ) ⟨hp'.len,hp'.a,hp'.t⟩ h))
 ·rw[if_pos hr]at hk;with_reducible repeat' (first|refine nP h ?_|fail)
  refine KP h e7 he λw h=> ?_;have h:=h.zm 19;have h:=h.zm 19;exact hk aa _ (bn hq h)
end
open Fr (A0 nE dY eI di iG jo nF o5)
abbrev tk0:Tk:=⟨0,0,0,0,[],ByteArray.mk #[],[],[],0,0⟩
def Gl.tk(G:Gl)(x:Nat):Tk:=(G.ts[x]?).getD tk0
def Gl.nd(G:Gl)(s:Int):Nd:=(nZ G.C s).getD ⟨0,0,0⟩
def Gl.pk(G:Gl)(s:Int):Int:=match G.P[s.toNat]? with|some p=>p.2.1|none=>0
def Gl.xw(G:Gl){x:Nat}(h:x<G.ts.length):G.ts[x]?=some (G.tk x):=by
 unfold Gl.tk;rw[iH h];rfl
variable{s:Int}
def Gl.aB4(G:Gl)(h:s<G.P.length)(h0:0≤s):∃p,G.P[s.toNat]?=some p∧G.pk s=p.2.1:=by
 have h1:s.toNat<G.P.length:=af;exact⟨_,iH h1,by unfold Gl.pk;rw[iH h1]⟩
def ZB(l:Lc)(P:List dB)(G:Gl)(W:Wk)(bw:List Int):SW:=
 let x:=W.stack.headD 0
 let t:=G.tk x
 match W.cT with
 | .m .rest=>rest l G W
 | .m .pF=>match W.op with|some O=>pF l G W O t bw G.vJ|none=>(G,W)
 | .m .looking=>match W.look with|some k=>looking l G W k (G.nd k.at_) x t|none=>(G,W)
 | .m .tell=>OE l G W
 | .m .others=>others l G W t bw
 | .m .xn=>match W.step with|some o=>xn l G W o|none=>(G,W)
 | .m .So=>So l G W
 | .m .JA=>JA l G W
 | .m .tE=>tE G W (G.tk W.jq.toNat)
 | .m .start=>OF l G W W.jq.toNat (G.tk W.jq.toNat)
 | .m .next=>V7 l P G W x t
 | .m .fork=>fork G W t (G.nd t.kA.1)
 | .m .xo=>KQ l P G W x t
 | .m .tF=>tF l G W (G.nd t.kA.1)
 | .m .join=>join l P G W t
 | .m .cJ=>cJ G W
 | .m .opens=>opens l P G W x t (G.nd t.kA.1) (G.pk t.kA.1)
 | .m .close=>close_ G W t
 | .m .gL=>gL l P G W x t (G.nd t.kA.1)
 | .m .cancel=>cancel l G W x t (G.nd t.kA.1)
 | .m .pass=>pass l G W x t
 | .m .leave=>leave l P G W x t
 | .m .put=>put G W t
 | .m .fin=>fin G W t
 | .m .asks=>asks G W t
 | .m .gone=>gone G W (G.nd t.l7)
 | .m .asked=>asked G W t (G.tk (W.target.getD 0)) (W.target.getD 0)
 | .m .joined=>joined l P G W x t (G.tk (W.target.getD 0))
 | .m .ul=>ul l G W t
 | .m .rp=>rp l G W
 | .m .sx=>sx G W t (G.nd t.kA.1)
 | .m .register=>register G W (G.tk (W.target.getD 0))
 | .m .block=>match W.step with|some o=>block l G W o|none=>(G,W)
 | .m .Io=>Io l G W t
 | .m .stops=>stops l G W x t G.vJ G.V8
 | .aw y=>Gi l G W t y
 | .sh k=>(G,shut W k t)
 |_=>(G,W)
structure G7 (G:Gl) (W:Wk) (x:Nat) (t:Tk):Prop where
 s:W.stack=x::W.stack.tail
 t:G.ts[x]?=some t
abbrev G8(G:Gl)(s:Int):Prop:=nZ G.C s=some (G.nd s)
abbrev aau(P:List dB)(f:List Int):Prop:=In P f (bz P f)∧(0≤(bz P f).getD 0 0∧(bz P f).getD 0 0<17)∧((dY f (bz P f)).2=false→8≤(bz P f).getD 0 0∧(bz P f).getD 0 0≤16)
abbrev ajG(G:Gl)(W:Wk):Prop:=W.target=some (W.target.getD 0)∧W.target.getD 0<G.ts.length
abbrev aEB(l:Lc)(os:List (Nat×Wk))(bw:List Int)(G:Gl)(W:Wk):Prop:=∃O,W.op=some O∧O.GX∧((O.step G.M W.id).1.how=6→(O.step G.M W.id).1.err≠0)∧
 ((O.step G.M W.id).1.how≠0→(O.step G.M W.id).1.how≠6→aas l os bw (G.mem (O.step G.M W.id).2) {W with op:=some (O.step G.M W.id).1} (W.stack.headD 0) (G.tk (W.stack.headD 0)))
structure afx (l:Lc):Prop where
 sp:l.sp.OK
 w1:1≤l.wa.length
 w16:l.wa.length≤16
def ajH(l:Lc)(P:List dB)(os:List (Nat×Wk))(bw:List Int)(G:Gl)(W:Wk):Prop:=
 let x:=W.stack.headD 0
 let t:=G.tk x
 match W.cT with
 | .m .rest=>G.M.can W.id l.told=true
 | .m .pF=>aEB l os bw G W
 | .m .looking=> ∃k,G7 G W x t∧W.look=some k∧k.done=false∧G8 G k.at_∧G.M.can W.id (G.nd k.at_).at_=true∧anZ W t
 | .m .tell=>G.M.can W.id l.told=true
 | .m .others=>G.M.can W.id l.idle=true∧G.M.given (l.sp.at_+1)=true∧(0≤W.id∧W.id<l.wa.length)∧aar l os bw {W with left:=VU (G.D.headD 0) (xI W.id (l.sp.bits G.M) (G.M.get l.idle) l.wa.length)}
 | .m .xn=> ∃o,W.step=some o∧o.GX l.sp G.M W.id
 | .m .So=>(0≤W.id∧W.id≤16)∧G.M.can W.id l.idle=true∧W.wait.how=1
 | .m .JA=>(0≤W.id∧W.id≤16)∧G.M.can W.id l.idle=true
 | .m .tE=>(0≤W.jq∧W.jq<G.ts.length)∧G.M.can W.id ((G.tk W.jq.toNat).jI+0)=true
 | .m .start=>(0≤W.jq∧W.jq<G.ts.length)∧xH W.dq∧G.M.can W.id (W.dq+1)=true∧G8 G (G.tk W.jq.toNat).l7∧W.stack.length≤100000∧W.back.length≤100000
 | .m .next=>G7 G W x t∧aau P t.f∧G8 G t.l7
 | .m .fork=>G7 G W x t∧t.cJ≠ []∧G.M.caller W.id=true∧G.C.length≤1000000∧G.P.length≤1000000∧G8 G t.kA.1
 | .m .xo=>G7 G W x t∧t.cJ≠ []∧aau P t.f∧o5 (bz P t.f) 8=true∧(∃g,P[((bz P t.f).getD 4 0).toNat]?=some g)∧G.M.caller W.id=true∧(∃t',GV G.T t.id=some t'∧t'.kids.length≤1000000)∧G.T.length≤1000000∧G.ts.length≤1000000∧(0≤W.own∧W.own<G.P.length)
 | .m .tF=>G7 G W x t∧t.cJ≠ []∧G8 G t.kA.1∧G.M.can W.id ((G.nd t.kA.1).at_+1)=true
 | .m .join=>G7 G W x t∧aau P t.f∧(0≤G6 (bz P t.f)∧G6 (bz P t.f)<8)∧(0≤t.f.getD (10+(G6 (bz P t.f)).toNat) 0∧t.f.getD (10+(G6 (bz P t.f)).toNat) 0<G.ts.length)∧G.M.can W.id l.told=true∧G8 G t.l7
 | .m .cJ=>xH W.dq∧G.M.can W.id (W.dq+1)=true
 | .m .opens=>G7 G W x t∧t.cJ≠ []∧aau P t.f∧G.M.caller W.id=true∧G.C.length≤1000000∧G.P.length≤1000000∧G8 G t.kA.1∧(0≤t.kA.1∧t.kA.1<G.P.length)∧t.scopes.length≤1000000∧t.cJ.length≤1000000∧(G.time.2.length≤100000∧CK G.time)∧((bz P t.f).getD 4 0>0→(Ko.Dt G.time (G.C.length:Nat) ((bz P t.f).getD 4 0)).1=0)
 | .m .close=>G7 G W x t∧t.cJ≠ []
 | .m .gL=>G7 G W x t∧t.cJ≠ []∧aau P t.f∧Dr G t.kA.1∧G8 G t.kA.1∧G.M.can W.id (G.nd t.kA.1).at_=true∧t.gL.size≤1000000
 | .m .cancel=>G7 G W x t∧t.cJ≠ []∧t.f.length=19∧G8 G t.kA.1∧G.M.can W.id (G.nd t.kA.1).at_=true
 | .m .pass=>G7 G W x t∧t.f.length=19
 | .m .leave=>G7 G W x t∧aau P t.f∧(0≤(bz P t.f).getD 1 0∧(bz P t.f).getD 1 0<8)
 | .m .put=>G7 G W x t∧G.M.can W.id (t.jI+1)=true
 | .m .fin=>G7 G W x t∧(2≤t.kind∧t.kind≤4)∧G.M.can W.id (t.jI+0)=true
 | .m .asks=>G7 G W x t∧G.M.can W.id (t.jI+2)=true
 | .m .gone=>G7 G W x t∧(∃kb bs,W.back=kb::bs∧bs.length=W.stack.tail.length)∧G8 G t.l7∧G.M.can W.id ((G.nd t.l7).at_+1)=true
 | .m .asked=>G7 G W x t∧t.cJ≠ []∧ajG G W∧G.M.can W.id ((G.tk (W.target.getD 0)).jI+0)=true
 | .m .joined=>G7 G W x t∧aau P t.f∧ajG G W∧G.M.can W.id ((G.tk (W.target.getD 0)).jI+1)=true
 | .m .ul=>G7 G W x t∧(W.dK= .m .vQ∨W.dK= .c .Db)∧xH W.dq∧G.M.can W.id (W.dq+1)=true
 | .m .rp=>G.M.can W.id l.told=true
 | .m .sx=>G7 G W x t∧t.cJ≠ []∧G8 G t.kA.1∧G.M.can W.id ((G.nd t.kA.1).at_+1)=true
 | .m .register=>ajG G W∧(0≤W.id∧W.id≤16)∧G.M.can W.id ((G.tk (W.target.getD 0)).jI+2)=true
 | .m .block=> ∃o,W.step=some o∧o.GX l.sp G.M W.id
 | .m .Io=>G7 G W x t∧afv G W t∧G.M.can W.id l.told=true∧G8 G t.l7
 | .m .stops=>G7 G W x t∧(0≤W.id∧W.id≤16)∧(W.blocked=true→(W.step.getD (jH.B7 0 2)).GX l.sp G.M W.id)∧(W.blocked=false→W.bO=true→ajG G W∧G.M.can W.id ((G.tk (W.target.getD 0)).jI+2)=true)∧(W.blocked=false→W.bO=false→anY G W t)
 | .aw y=>G7 G W x t∧y<G.ts.length∧G.M.can W.id l.told=true∧G8 G t.l7
 | .sh k=>G7 G W x t∧t.cJ≠ []
 |_=>False
section
variable{w:World}
def ave(h:gW p w λ_ w=>c (.tuple #[]) w):Am [.pointer p] w c:=h
def ajI(h:eK p w λ_ w=>c (.tuple #[]) w):vq [.pointer p] w c:=h
def ajJ(h:eL p w λ_ w=>c (.tuple #[]) w):vu [.pointer p] w c:=h
def avf(h:gT p w λ_ w=>c (.tuple #[]) w):Ag [.pointer p] w c:=h
def al1(h:fj p w λ_ w=>c (.tuple #[]) w):wJ [.pointer p] w c:=h
def al2(h:fm p w λ_ w=>c (.tuple #[]) w):wL [.pointer p] w c:=h
def ayN(h:iP p w λ_ w=>c (.tuple #[]) w):Bz [.pointer p] w c:=h
def avg(h:gU p w λ_ w=>c (.tuple #[]) w):Ai [.pointer p] w c:=h
def al3(h:fo p w λ_ w=>c (.tuple #[]) w):wO [.pointer p] w c:=h
def ap2(h:fV p w λ_ w=>c (.tuple #[]) w):yC [.pointer p] w c:=h
def avh(h:gV p w λ_ w=>c (.tuple #[]) w):Ak [.pointer p] w c:=h
def avi(h:gX p w λ_ w=>c (.tuple #[]) w):Ao [.pointer p] w c:=h
def ap3(h:fW p w λ_ w=>c (.tuple #[]) w):yG [.pointer p] w c:=h
def al4(h:fp p w λ_ w=>c (.tuple #[]) w):wQ [.pointer p] w c:=h
def avj(h:gY p w λ_ w=>c (.tuple #[]) w):Ar [.pointer p] w c:=h
def ayO(h:gZ p w λ_ w=>c (.tuple #[]) w):Au [.pointer p] w c:=h
def ap4(h:fX p w λ_ w=>c (.tuple #[]) w):yI [.pointer p] w c:=h
def ap5(h:fY p w λ_ w=>c (.tuple #[]) w):yK [.pointer p] w c:=h
def al5(h:fq p w λ_ w=>c (.tuple #[]) w):wV [.pointer p] w c:=h
def al6(h:fx p w λ_ w=>c (.tuple #[]) w):wX [.pointer p] w c:=h
def avk(h:g9 p w λ_ w=>c (.tuple #[]) w):Ay [.pointer p] w c:=h
def ap6(h:fZ p w λ_ w=>c (.tuple #[]) w):yN [.pointer p] w c:=h
def ayP(h:iR p w λ_ w=>c (.tuple #[]) w):BF [.pointer p] w c:=h
def ayQ(h:iS p w λ_ w=>c (.tuple #[]) w):BH [.pointer p] w c:=h
def avl(h:ia p w λ_ w=>c (.tuple #[]) w):AD [.pointer p] w c:=h
def avm(h:ie p w λ_ w=>c (.tuple #[]) w):AF [.pointer p] w c:=h
def ap7(h:gu p w λ_ w=>c (.tuple #[]) w):yP [.pointer p] w c:=h
def al7(h:fy p w λ_ w=>c (.tuple #[]) w):xb [.pointer p] w c:=h
def al8(h:fA p w λ_ w=>c (.tuple #[]) w):xe [.pointer p] w c:=h
def ajK(h:eN p w λ_ w=>c (.tuple #[]) w):vw [.pointer p] w c:=h
def ajL(h:eO p w λ_ w=>c (.tuple #[]) w):vA [.pointer p] w c:=h
def ahw(h:ez p w λ_ w=>c (.tuple #[]) w):uJ [.pointer p] w c:=h
def ap8(h:gv p w λ_ w=>c (.tuple #[]) w):yU [.pointer p] w c:=h
def avn(h:ig p w λ_ w=>c (.tuple #[]) w):AH [.pointer p] w c:=h
def ap9(h:gy p w λ_ w=>c (.tuple #[]) w):yW [.pointer p] w c:=h
end
structure avo (bY:ey):Prop where
 aB5:∀args w c,bY (.func gB) args w c=Am args.toList w c
 aqa:∀args w c,bY (.func kW) args w c=vq args.toList w c
 aqb:∀args w c,bY (.func kX) args w c=vu args.toList w c
 OE:∀args w c,bY (.func nu) args w c=Ag args.toList w c
 avp:∀args w c,bY (.func lS) args w c=wJ args.toList w c
 avq:∀args w c,bY (.func lT) args w c=wL args.toList w c
 aEC:∀args w c,bY (.func mI) args w c=Bz args.toList w c
 aB6:∀args w c,bY (.func nr) args w c=Ai args.toList w c
 avr:∀args w c,bY (.func lR) args w c=wO args.toList w c
 OF:∀args w c,bY (.func mQ) args w c=yC args.toList w c
 V7:∀args w c,bY (.func gC) args w c=Ak args.toList w c
 aB7:∀args w c,bY (.func lH) args w c=Ao args.toList w c
 KQ:∀args w c,bY (.func mR) args w c=yG args.toList w c
 avs:∀args w c,bY (.func lV) args w c=wQ args.toList w c
 aB8:∀args w c,bY (.func js) args w c=Ar args.toList w c
 aED:∀args w c,bY (.func lI) args w c=Au args.toList w c
 ayR:∀args w c,bY (.func mS) args w c=yI args.toList w c
 close_:∀args w c,bY (.func kO) args w c=yK args.toList w c
 avt:∀args w c,bY (.func lU) args w c=wV args.toList w c
 avu:∀args w c,bY (.func kq) args w c=wX args.toList w c
 aB9:∀args w c,bY (.func lJ) args w c=Ay args.toList w c
 ayS:∀args w c,bY (.func iV) args w c=yN args.toList w c
 aEE:∀args w c,bY (.func n9) args w c=BF args.toList w c
 aEF:∀args w c,bY (.func oa) args w c=BH args.toList w c
 aCa:∀args w c,bY (.func nw) args w c=AD args.toList w c
 aCb:∀args w c,bY (.func ny) args w c=AF args.toList w c
 ayT:∀args w c,bY (.func mT) args w c=yP args.toList w c
 avv:∀args w c,bY (.func lX) args w c=xb args.toList w c
 avw:∀args w c,bY (.func lW) args w c=xe args.toList w c
 aqc:∀args w c,bY (.func kY) args w c=vw args.toList w c
 aqd:∀args w c,bY (.func kZ) args w c=vA args.toList w c
 al9:∀args w c,bY (.func kE) args w c=uJ args.toList w c
 ayU:∀args w c,bY (.func mW) args w c=yU args.toList w c
 aCc:∀args w c,bY (.func nA) args w c=AH args.toList w c
 ayV:∀args w c,bY (.func mU) args w c=yW args.toList w c
 aw:∀args w c,bY (.func eP) args w c=oU args.toList w c
 sh:∀args w c,bY (.func fN) args w c=pX args.toList w c
section
variable{w0 w:World}{R:List HP}{l:Lc}{P:List dB}{aa:List Nat}{G:Gl}{gw:Nat}{W:Wk}{sp st sw:Sl}{q:Wq}{os:List (Nat×Wk)}{bw:List Int}{bY:ey}
def aEG(hF:iA w0 l.ps P)(hT:TZ w0)(hl:afx l)(hq:q.Ok aa gw W)(hO:xq w0 w l aa gw G W (jO (pH l aa) os::R) sp st sw q)(he:G.err=0)(e:G.M.OK)(hkn:avo bY)(hok:ajH l P os bw G W)
  (hk:∀JI w',qR w0 w' l JI gw (ZB l P G W bw).1 (ZB l P G W bw).2 (jO (pH l JI) os::R)→c (.tuple #[]) w'):nj bY q.pJ #[] w c:=by
 have d:Fin w0 l aa gw (jO (pH l aa) os::R) (λ_ w=>c (.tuple #[]) w) (ZB l P G W bw):=λw' h=>hk aa w' h;have hv:=hq.cT;have h:=bn hq hO;unfold ajH at hok;unfold ZB at hk d;generalize hx:W.stack.headD 0=x at hok hk d;generalize F:G.tk x=t at hok hk d;cases i:W.cT with
 |m f=>
  rw[i]at hok hk d hv;dsimp only at hok hk d;obtain hv:q.pJ=mt gw f:=hv;rw[hv];cases f with
  |rest=>
   dsimp only at hok hk d;refine bV hkn.aB5 (ave ?_);exact ayv h hok d
  |pF=>
   dsimp only at hok hk d;subst hx;subst F;refine bV hkn.aqa (ajI ?_);obtain⟨O,hop,hf,hno,ha⟩:=hok;rw[hop]at d;exact alZ h he e hop hf hno ha d
  |looking=>
   dsimp only at hok hk d;refine bV hkn.aqb (ajJ ?_);obtain⟨lk,ht,hlk,hd,hsc,hc,hn⟩:=hok;rw[hlk]at d;exact alX hF h he ht.s ht.t hlk hd hsc hc hn d
  |tell=>
   dsimp only at hok hk d;refine bV hkn.OE (avf ?_);exact auM h hok d
  |others=>
   dsimp only at hok hk d;refine bV hkn.avp (al1 ?_);exact apW h e hl.sp hok.1 hok.2.1 hl.w1 hl.w16 hok.2.2.1.1 hok.2.2.1.2 (by have h4:=hok.2.2.2;rw[←i]at h4;exact h4) d
  |xn=>
   dsimp only at hok hk d;refine bV hkn.avq (al2 ?_);obtain⟨o,ho,hf⟩:=hok;rw[ho]at d;exact apI h hT hl.sp e ho hf d
  |So=>
   dsimp only at hok hk d;refine bV hkn.aEC (ayN ?_);exact aBV h hok.1 hok.2.1 hok.2.2 d
  |JA=>
   dsimp only at hok hk d;refine bV hkn.aB6 (avg ?_);exact ayw h hok.1 hok.2 d
  |tE=>
   dsimp only at hok hk d;refine bV hkn.avr (al3 ?_);exact apJ h af (G.xw af) e hok.2 d
  |start=>
   dsimp only at hok hk d;refine bV hkn.OF (ap2 ?_);exact auV h he af (G.xw af) hok.2.1 hok.2.2.1 hok.2.2.2.1 hok.2.2.2.2.1 hok.2.2.2.2.2 d
  |next=>
   dsimp only at hok hk d;refine bV hkn.V7 (avh ?_);obtain⟨ht,hI,hsc⟩:=hok;exact ayz hF hI.1 h he ht.s ht.t hsc hI.2.1 hI.2.2 d
  |fork=>
   dsimp only at hok hk d;refine bV hkn.aB7 (avi ?_);obtain⟨ht,ho,j,hC,hP,hsc⟩:=hok;exact ayC h he ht.s ht.t ho e j hC hP hsc d
  |xo=>
   dsimp only at hok hk d;refine bV hkn.KQ (ap3 ?_);obtain⟨ht,ho,hI,h8,⟨g,hg⟩,j,n,r,hn,hown⟩:=hok;have v:aa.length≤1000000:=by
    obtain⟨sp,st,sw,q,hq,h⟩:=dX h;rw[xJ h];exact hn
   exact avd hF hI.1 h he ht.s ht.t ho h8 hg e j n r v hown hk
  |tF=>
   dsimp only at hok hk d;refine bV hkn.avs (al4 ?_);obtain⟨ht,ho,hsc,hc⟩:=hok;exact apQ h ht.s ht.t ho e hsc hc d
  |join=>
   dsimp only at hok hk d;refine bV hkn.aB8 (avj ?_);obtain⟨ht,hI,hh,hy,hc,hsc⟩:=hok;exact ayH hF hI.1 h ht.s ht.t hh (y:=((G.tk x).f.getD (10+(G6 (bz P (G.tk x).f)).toNat) 0).toNat) af (G.xw af) hc hsc d
  |cJ=>
   dsimp only at hok hk d;refine bV hkn.aED (ayO ?_);exact ayx h hok.1 hok.2 d
  |opens=>
   dsimp only at hok hk d;refine bV hkn.ayR (ap4 ?_);obtain⟨ht,ho,hI,j,hC,hP,hsc,z,h1,h2,A,H⟩:=hok;obtain⟨p,hp,B⟩:=G.aB4 z.2 z.1;rw[B]at d;exact au9 hF hI.1 h he ht.s ht.t ho e j hC hP hsc ⟨z.1,hp⟩ h1 h2 A H d
  |close=>
   dsimp only at hok hk d;refine bV hkn.close_ (ap5 ?_);obtain⟨ht,ho⟩:=hok;exact auN h ht.s ht.t ho d
  |gL=>
   dsimp only at hok hk d;refine bV hkn.avt (al5 ?_);obtain⟨ht,ho,hI,hd,hsc,hc,hz⟩:=hok;exact apP hF hI.1 h he ht.s ht.t ho hd hsc hc hz d
  |cancel=>
   dsimp only at hok hk d;refine bV hkn.avu (al6 ?_);obtain⟨ht,ho,hf,hsc,hc⟩:=hok;exact apN h he ht.s ht.t hf ho hsc hc d
  |pass=>
   dsimp only at hok hk d;refine bV hkn.aB9 (avk ?_);exact ayA h he hok.1.s hok.1.t hok.2 d
  |leave=>
   dsimp only at hok hk d;refine bV hkn.ayS (ap6 ?_);exact auS hF hok.2.1.1 h he hok.1.s hok.1.t hok.2.2 d
  |put=>
   dsimp only at hok hk d;refine bV hkn.aEE (ayP ?_);exact aBW h hok.1.s hok.1.t e hok.2 d
  |fin=>
   dsimp only at hok hk d;refine bV hkn.aEF (ayQ ?_);exact aBX h hok.1.s hok.1.t e hok.2.1 hok.2.2 d
  |asks=>
   dsimp only at hok hk d;refine bV hkn.aCa (avl ?_);exact ayy h hok.1.s hok.1.t e hok.2 d
  |gone=>
   dsimp only at hok hk d;refine bV hkn.aCb (avm ?_);obtain⟨ht,⟨kb,bs,I,J⟩,hsc,hc⟩:=hok;exact ayB h ht.s I J ht.t e hsc hc d
  |asked=>
   dsimp only at hok hk d;refine bV hkn.ayT (ap7 ?_);obtain⟨ht,ho,⟨hy,k⟩,hc⟩:=hok;exact auY h ht.s ht.t e hy (G.xw k) hc ho d
  |joined=>
   dsimp only at hok hk d;refine bV hkn.avv (al7 ?_);obtain⟨ht,hI,⟨hy,k⟩,hc⟩:=hok;exact apT hF hI.1 h he ht.s ht.t e hy (G.xw k) hc d
  |ul=>
   dsimp only at hok hk d;refine bV hkn.avw (al8 ?_);exact apS h hok.1.s hok.1.t hok.2.1 hok.2.2.1 hok.2.2.2 d
  |rp=>
   dsimp only at hok hk d;refine bV hkn.aqc (ajK ?_);exact alN h hok d
  |sx=>
   dsimp only at hok hk d;refine bV hkn.aqd (ajL ?_);obtain⟨ht,ho,hsc,hc⟩:=hok;exact alS h ht.s ht.t ho e hsc hc d
  |register=>
   dsimp only at hok hk d;refine bV hkn.al9 (ahw ?_);obtain⟨⟨hy,k⟩,hw,hc⟩:=hok;exact ajv h hy (G.xw k) e hw hc d
  |block=>
   dsimp only at hok hk d;refine bV hkn.ayU (ap8 ?_);obtain⟨o,ho,hf⟩:=hok;rw[ho]at d;exact au0 h hT hl.sp e ho hf d
  |Io=>
   dsimp only at hok hk d;refine bV hkn.aCc (avn ?_);obtain⟨ht,ha,hc,hsc⟩:=hok;exact ayE h ht.s ht.t ha hc hsc d
  |stops=>
   dsimp only at hok hk d;refine bV hkn.ayV (ap9 ?_);obtain⟨ht,hw,h1,h2,h3⟩:=hok;exact au4 h hT ht.s ht.t hl.sp e hw h1 (λa b=>⟨_,_,(h2 a b).1.1,G.xw (h2 a b).1.2,(h2 a b).2⟩) h3 d
  |_=>exact hok.elim
 |aw y=>
  rw[i]at hok hk d hv;dsimp only at hok hk d;obtain⟨ht,hy,hc,hsc⟩:=hok;obtain⟨b,c',a',hb,C,D,hv⟩:=hv;rw[hv];refine bV hkn.aw (au1 ?_);exact aAj hq hO hb D ht.s ht.t C hc hsc d
 |sh kk=>
  rw[i]at hok hk d hv;dsimp only at hok hk d;obtain⟨ht,ho⟩:=hok;obtain⟨b,c',u,hb,hu,D,hv⟩:=hv;rw[hv];refine bV hkn.sh (au2 ?_);exact aAk hq hO hb D hu ht.s ht.t ho d
 |_=>rw[i]at hok;exact hok.elim
end
open Fr (A0 nE dY eI di iG jo nF fR o5 qH kz qt qa qb pZ)
open Ck (gA JE oW G4 qd qx my BS rU B8 sN xo)
def ajP{f:List Int}{pc:Int}{j:Nat}(h1:j≠1)(a:j≠18):(A0 f pc).getD j 0=f.getD j 0:=by
 unfold A0;simp only[m0,r0 (Ne.symm a),r0 (Ne.symm h1)]
def ay0{f:List Int}{pc:Int}(h:1<f.length):(A0 f pc).getD 1 0=pc:=by
 unfold A0;simp only[m0,r0 (by decide:(18:Nat)≠1)]
 rw[uO h];rfl
def ay1{f:List Int}{pc:Int}(h:f.length=19):(A0 f pc).getD 18 0=IntKind.i64.wrap (f.getD 18 0+1):=by
 unfold A0;simp only[m0];rw[uO (by simp;omega),r0 (by decide:(1:Nat)≠18)];rfl
variable{v:Int}
def m6{f:List Int}{j i:Nat}(h:i≠j):(f.set i v).getD j 0=f.getD j 0:=by
 simp only[m0,r0 h]
def avB{f:List Int}{i:Nat}(h:i<f.length):(f.set i v).getD i 0=v:=by
 simp[m0,h]
structure Kp (f f':List Int) (pc:Int):Prop where
 len:f'.length=f.length
 fn:f'.getD 0 0=f.getD 0 0
 pc:f'.getD 1 0=pc
 st:f'.getD 18 0=IntKind.i64.wrap (f.getD 18 0+1)
 hs:∀h:Nat,h<8→f'.getD (10+h) 0=f.getD (10+h) 0
def avC{f:List Int}{pc:Int}(h:f.length=19):Kp f (A0 f pc) pc:=
 ⟨qH,ajP e7 e7,ay0 af,ay1 h,λk hk=>ajP af af⟩
def SB{f:List Int}(h:f.length=19)(h0:0≤f.getD 1 0)(h1:f.getD 1 0<1000):Kp f (nE f) (f.getD 1 0+1):=by
 have:=avC (pc:=f.getD 1 0+1) h;unfold Fr.nE;rwa[dh ⟨af,af⟩]
variable{f':List Int}
def Yd{f:List Int}{pc:Int}{r:Nat}(hr:r<8)(k:Kp (f.set (2+r) v) f' pc):Kp f f' pc:=
 ⟨by rw[k.len,List.length_set],by rw[k.fn,m6 af],k.pc,by rw[k.st,m6 af],λh hh=>by rw[k.hs h hh,m6 af]⟩
def ajQ:∀op,op<17→∀j,j<4→((Ck.JD.drop (op*4)).take 4).getD j 0=Fr.nY.getD (4*op+j) 0:=e7
def amb(k:Int):Ck.pY k=Fr.VY k:=by
 unfold Ck.pY Fr.VY;by_cases h1:k=1
 ·subst h1;rfl
 by_cases h2:k=2
 ·subst h2;rfl
 by_cases h3:k=3
 ·subst h3;rfl
 by_cases h4:k=4
 ·subst h4;rfl
 by_cases h5:k=5
 ·subst h5;rfl
 rw[if_neg h1,if_neg h2,if_neg h3,if_neg h4,if_neg h5];simp[beq_eq_false_iff_ne.2 h1,beq_eq_false_iff_ne.2 h2,beq_eq_false_iff_ne.2 h3,beq_eq_false_iff_ne.2 h4,beq_eq_false_iff_ne.2 h5]
def Gj{x:List Int}(h:Ck.oV x=0):Fr.oV x=0:=by
 unfold Ck.oV at h;split at h
 ·cases h
 ·rename_i hno;split at h
  ·rename_i hf;unfold gA at hno hf;refine Fr.aff af λj hj=> ?_;unfold Ck.fits at hf;rw[tL]at hf;have:=hf j (gq hj)
   unfold Ck.fit Ck.kinds at this;rw[ajQ _ af j hj,amb]at this;unfold Fr.Gh Fr.pY;simp only[Bool.not_eq_true',kf,decide_eq_false_iff_not]at this;simp only[decide_eq_true_eq];omega
  ·cases h
variable{i:List Int}
def abh{op:Int}(hc:Ck.oV i=0)(h:i.getD 0 0=op):o5 i op=true:=by unfold Fr.o5;rw[h,Gj hc];simp
def ajR{f:List Int}(hc:Ck.oV i=0)(hf:f.length=19)(h0:0≤f.getD 1 0)(h1:f.getD 1 0<1000)(hp:(dY f i).2=true):
  (qd i=true∧Kp f (dY f i).1 (i.getD 4 0))∨(gA i≤7∧gA i≠6∧Kp f (dY f i).1 (f.getD 1 0+1)):=by
 have hr:=Fr.vG (Gj hc);unfold gA;revert hp;unfold Fr.dY;rw[if_neg (by rw[Gj hc];simp)]
 split
 ·rename_i hb;intro _;exact .inl ⟨by
   rcases hb with hb|hb
   ·show((i.getD 0 0==6)||(i.getD 0 0==7))=true;rw[hb];rfl
   ·show((i.getD 0 0==6)||(i.getD 0 0==7))=true;rw[hb.1];rfl,avC hf⟩
 ·split
  ·rename_i hb;intro _;exact .inr ⟨af,af,SB hf h0 h1⟩
  ·split
   ·intro q;cases q
   ·rename_i h6 h7 h5;intro _;have hlt:(i.getD 1 0).toNat<8:=af;refine .inr ⟨af,af,Yd (v:=Fr.Sk f i) hlt ?_⟩;have:=SB (f:=f.set (2+(i.getD 1 0).toNat) (Fr.Sk f i)) (gq hf) (by rw[m6 af];exact h0) (by rw[m6 af];exact h1)
    rwa[m6 af]at this
def adr{f:List Int}(hc:Ck.oV i=0)(hp:(dY f i).2=false):8≤i.getD 0 0∧i.getD 0 0≤16:=by
 have hk:=Ck.afo hc;unfold gA at hk;revert hp;unfold Fr.dY;rw[if_neg (by rw[Gj hc];simp)]
 split
 ·intro q;cases q
 ·split
  ·intro q;cases q
  ·split
   ·rename_i h6 h7 h5;intro _;omega
   ·intro q;cases q
def ahz{f:List Int}{kind:Int}(hc:Ck.oV i=0)(hf:f.length=19)(h0:0≤f.getD 1 0)(h1:f.getD 1 0<1000)(ho:i.getD 0 0=9∨i.getD 0 0=10)(hk:kind=2∨kind=3∨kind=4)
  (hb:(di f i kind v).2.2=false):Kp f (di f i kind v).1 (f.getD 1 0+1):=by
 have hr:=Fr.vG (Gj hc);revert hb;unfold Fr.di;rw[if_neg (by rcases ho with ho|ho<;>rw[abh hc ho] <;>simp<;>omega)]
 split
 ·intro _;have:=SB (f:=(f.set (2+(i.getD 1 0).toNat) (if kind=4 then 0 else v)).set (2+(i.getD 2 0).toNat) (IntKind.i64.wrap (kind - 2))) (gq hf) (by rw[m6 af,m6 af];exact h0) (by rw[m6 af,m6 af];exact h1)
  rw[m6 af,m6 af]at this;exact Yd af (Yd af this)
 ·split
  ·intro _;have:=SB (f:=(f.set (2+(i.getD 1 0).toNat) v)) (gq hf) (by rw[m6 af];exact h0) (by rw[m6 af];exact h1)
   rw[m6 af]at this;exact Yd af this
  ·intro q;cases q
def ahA{f:List Int}{b:Bool}(hc:Ck.oV i=0)(hf:f.length=19)(h0:0≤f.getD 1 0)(h1:f.getD 1 0<1000)(ho:i.getD 0 0=12):Kp f (iG f i b) (f.getD 1 0+1):=by
 have hr:=Fr.vG (Gj hc);unfold Fr.iG;rw[if_pos (abh hc ho)];have:=SB (f:=f.set (2+(i.getD 1 0).toNat) (if b then 1 else 0)) (gq hf) (by rw[m6 af];exact h0) (by rw[m6 af];exact h1)
 rw[m6 af]at this;exact Yd af this
def ads{f:List Int}{aX:Int}(hf:f.length=19):(jo f n aX).length=19∧(jo f n aX).getD 0 0=n∧(jo f n aX).getD 1 0=0∧(jo f n aX).getD 18 0=0∧∀h:Nat,h<8→(jo f n aX).getD (10+h) 0=if tb aX h then f.getD (10+h) 0 else -1:=by
 obtain⟨x0,x1,x2,x3,l,m,o,p,q,r,a,b,c,d,e,g,i,j,k,rfl⟩:=Fr.ag8 hf;refine⟨rfl,rfl,rfl,rfl,λh hh=> ?_⟩;match h,hh with
 |0,_=>rfl
 |1,_=>rfl
 |2,_=>rfl
 |3,_=>rfl
 |4,_=>rfl
 |5,_=>rfl
 |6,_=>rfl
 |7,_=>rfl
def ajS{f:List Int}{id:Int}(hc:Ck.oV i=0)(h8:i.getD 0 0=8)(hf:f.length=19)(h0:0≤f.getD 1 0)(h1:f.getD 1 0<1000):(eI f i id).length=19∧(eI f i id).getD 0 0=f.getD 0 0∧(eI f i id).getD 1 0=f.getD 1 0+1
  ∧(eI f i id).getD 18 0=IntKind.i64.wrap (f.getD 18 0+1)∧∀h:Nat,h<8→(eI f i id).getD (10+h) 0=if i.getD 1 0=h then id else f.getD (10+h) 0:=by
 have hr:=Fr.vG (Gj hc);unfold Fr.eI;rw[if_pos (abh hc h8)];have k:=SB (f:=f.set (10+(i.getD 1 0).toNat) id) (gq hf) (by rw[m6 af];exact h0) (by rw[m6 af];exact h1)
 refine⟨by rw[k.len,List.length_set,hf],by rw[k.fn,m6 af],by rw[k.pc,m6 af],?_,λh hh=> ?_⟩
 ·rw[k.st];by_cases e:10+(i.getD 1 0).toNat=18
  ·omega
  ·rw[m6 e]
 ·rw[k.hs h hh];split
  ·rename_i e;have:10+(i.getD 1 0).toNat=10+h:=af;rw[this,avB af]
  ·rw[m6 af]
structure FI (P:List dB) (H:Int→Prop) (f:List Int) (d:Nat):Prop where
 len:f.length=19
 f0:0≤f.getD 0 0
 d1:1≤d
 fn:∃g,P[(f.getD 0 0).toNat]?=some g∧∃hv,JE P g hv ((d:Int) - 1) (f.getD 1 0)∧∀h:Nat,h<8→tb hv h=true→H (f.getD (10+h) 0)
def FI.imp{P:List dB}{H H':Int→Prop}{f:List Int}{d:Nat}(h:FI P H f d)(a:∀y,H y→H' y):FI P H' f d:=by
 obtain⟨g,hg,hv,hW,hh⟩:=h.fn;exact⟨h.len,h.f0,h.d1,g,hg,hv,hW,λk hk ht=>a _ (hh k hk ht)⟩
structure FAt (P:List dB) (H:Int→Prop) (f:List Int) (d:Nat) (g:dB) (hv:Int) (i:List Int):Prop where
 at0:P[(f.getD 0 0).toNat]?=some g
 acc:Ck.Acc P g
 walk:JE P g hv ((d:Int) - 1) (f.getD 1 0)
 hds:∀h:Nat,h<8→tb hv h=true→H (f.getD (10+h) 0)
 ins:g.code[(f.getD 1 0).toNat]?=some i
 oV:Ck.oV i=0
 good:Ck.Good P g.code.length (my 0 g.code) (qx g.code g.aX) (f.getD 1 0).toNat i
variable{hv:Int}
section
variable{P:List dB}{H:Int→Prop}{f:List Int}{d:Nat}
def FI.at(hA:oW P)(h:FI P H f d):∃g hv,FAt P H f d g hv (bz P f):=by
 obtain⟨g,hg,hv,hW,a⟩:=h.fn;have hacc:=hA.all g (qn hg);have h0:=hW.a0;have h1:=hW.a1;have e:bz P f=g.code.getD (f.getD 1 0).toNat []:=by unfold bz;rw[hg]
 have hlt:(f.getD 1 0).toNat<g.code.length:=af;have hi:g.code[(f.getD 1 0).toNat]?=some (bz P f):=by
  rw[e,m0 (l:=g.code),iH hlt,Option.getD_some]
 exact⟨g,hv,hg,hacc,hW,a,hi,hacc.ok _ (qn hi),Ck.OD hacc hW hi⟩
def FI.oV(hA:oW P)(h:FI P H f d):Ck.oV (bz P f)=0:=by obtain⟨g,hv,ha⟩:=h.at hA;exact ha.oV
def FI.op(hA:oW P)(h:FI P H f d):0≤(bz P f).getD 0 0∧(bz P f).getD 0 0<17:=by
 have hk:=Ck.afo (h.oV hA);unfold gA at hk;exact⟨hk.1,af⟩
def FI.GZ{w:World}{ps:Sl}(hF:iA w ps P)(hA:oW P)(h:FI P H f d):(bz P f).length=5:=by
 obtain⟨g,hv,ha⟩:=h.at hA;exact((hF.code g (qn ha.at0)).2.GZ _ (qn ha.ins)).1
def FI.aav{w:World}{ps:Sl}(hF:iA w ps P)(hA:oW P)(h:FI P H f d):aau P f:=by
 obtain⟨g,hv,ha⟩:=h.at hA;refine⟨⟨h.len,h.f0,ha.walk.a0,⟨g,ha.at0,ha.ins⟩,h.GZ hF hA⟩,h.op hA,λhp=>adr ha.oV hp⟩
def FI.aCf(hA:oW P)(h:FI P H f d):(0≤(bz P f).getD 0 0∧(bz P f).getD 0 0<17)∧((dY f (bz P f)).2=false→8≤(bz P f).getD 0 0∧(bz P f).getD 0 0≤16):=by
 obtain⟨g,hv,ha⟩:=h.at hA;exact⟨h.op hA,λhp=>adr ha.oV hp⟩
def FAt.pc(ha:FAt P H f d g hv i):0≤f.getD 1 0∧f.getD 1 0<1000:=by
 have h0:=ha.walk.a0;have h1:=ha.walk.a1;have:=ha.acc.l1;omega
def FI.next{d':Nat}(h:FI P H f d)(ha:FAt P H f d g hv i)(h6:gA i≠6)(a:gA i≠15)(b:gA i≠16)(h8:gA i≠8)(hk:Kp f f' (f.getD 1 0+1))(hd:1≤d')
  (hl:((d':Int) - 1)=BS ((d:Int) - 1) i):FI P H f' d':=by
 have hlen:=h.len;refine⟨by rw[hk.len,hlen],by rw[hk.fn];exact h.f0,hd,g,by rw[hk.fn];exact ha.at0,hv,?_,λk hk' ht=>by rw[hk.hs k hk'];exact ha.hds k hk' ht⟩
 rw[hl,hk.pc];exact Ck.alK ha.acc ha.walk ha.ins h6 a b h8
def FI.goes(h:FI P H f d)(ha:FAt P H f d g hv i)(a:qd i=true)(hk:Kp f f' (i.getD 4 0)):FI P H f' d:=by
 have hlen:=h.len;refine⟨by rw[hk.len,hlen],by rw[hk.fn];exact h.f0,h.d1,g,by rw[hk.fn];exact ha.at0,hv,?_,λk hk' ht=>by rw[hk.hs k hk'];exact ha.hds k hk' ht⟩
 rw[hk.pc];exact Ck.alL ha.acc ha.walk ha.ins a
def FI.plain(hA:oW P)(h:FI P H f d)(hp:(dY f (bz P f)).2=true):FI P H (dY f (bz P f)).1 d:=by
 obtain⟨g,hv,ha⟩:=h.at hA;obtain⟨a,BR⟩:=ha.pc;rcases ajR ha.oV h.len a BR hp with⟨b,hk⟩|⟨h7,h6,hk⟩
 ·exact h.goes ha b hk
 ·exact h.next ha h6 af af af hk h.d1 (by unfold BS;rw[if_neg af,if_neg af])
def FI.on(hA:oW P)(h:FI P H f d)(ho:(bz P f).getD 0 0=13∨(bz P f).getD 0 0=14):FI P H (nE f) d:=by
 obtain⟨g,hv,ha⟩:=h.at hA;obtain⟨a,BR⟩:=ha.pc;refine h.next ha (by unfold gA;omega) (by unfold gA;omega) (by unfold gA;omega) (by unfold gA;omega) (SB h.len a BR) h.d1 ?_
 unfold BS gA;rw[if_neg af,if_neg af]
def FI.opens(hA:oW P)(h:FI P H f d)(hd:d≤100000)(ho:(bz P f).getD 0 0=11):FI P H (nE f) (d+1):=by
 obtain⟨g,hv,ha⟩:=h.at hA;obtain⟨a,BR⟩:=ha.pc;have:=h.d1;refine h.next ha (by unfold gA;omega) (by unfold gA;omega) (by unfold gA;omega) (by unfold gA;omega) (SB h.len a BR) af ?_
 unfold BS gA;rw[if_pos ho,dh ⟨af,af⟩];omega
def FI.scopes(hA:oW P)(h:FI P H f d)(ho:(bz P f).getD 0 0=12∨(bz P f).getD 0 0=13):2≤d:=by
 obtain⟨g,hv,ha⟩:=h.at hA;have hg:=ha.good.scopes;have hop:=ha.walk.alJ;unfold sN gA at hg;rw[if_pos (by rcases ho with h|h<;>rw[h] <;>rfl)]at hg
 have:=of_decide_eq_true hg;omega
def FI.gL{b:Bool}(hA:oW P)(h:FI P H f d)(hd:d≤100000)(ho:(bz P f).getD 0 0=12):FI P H (iG f (bz P f) b) (d - 1):=by
 obtain⟨g,hv,ha⟩:=h.at hA;obtain⟨a,BR⟩:=ha.pc;have:=h.scopes hA (.inl ho);refine h.next ha (by unfold gA;omega) (by unfold gA;omega) (by unfold gA;omega) (by unfold gA;omega) (ahA ha.oV h.len a BR ho) af ?_
 unfold BS gA;rw[if_neg af,if_pos ho,dh ⟨af,af⟩];omega
def FI.joined{kind:Int}(hA:oW P)(h:FI P H f d)(ho:(bz P f).getD 0 0=9∨(bz P f).getD 0 0=10)(hk:kind=2∨kind=3∨kind=4)(hb:(di f (bz P f) kind v).2.2=false):FI P H (di f (bz P f) kind v).1 d:=by
 obtain⟨g,hv,ha⟩:=h.at hA;obtain⟨a,BR⟩:=ha.pc;refine h.next ha (by unfold gA;omega) (by unfold gA;omega) (by unfold gA;omega) (by unfold gA;omega) (ahz ha.oV h.len a BR ho hk hb) h.d1 ?_
 unfold BS gA;rw[if_neg af,if_neg af]
def FI.hand(hA:oW P)(h:FI P H f d)(ho:(bz P f).getD 0 0=9∨(bz P f).getD 0 0=10):(0≤G6 (bz P f)∧G6 (bz P f)<8)∧H (f.getD (10+(G6 (bz P f)).toNat) 0):=by
 obtain⟨g,hv,ha⟩:=h.at hA;have hr:=Fr.vG (Gj ha.oV);have hg:=ha.good.ajq;unfold rU at hg;unfold gA at hg;unfold G6;rcases ho with h|h
 ·rw[if_neg af];rw[if_pos (by rw[h];rfl)]at hg
  exact⟨hr.2.1,ha.hds _ af (Ck.V6 ha.walk af hg)⟩
 ·rw[if_pos h];rw[if_neg (by rw[h];decide),if_pos (by rw[h];rfl)]at hg
  exact⟨hr.2.2,ha.hds _ af (Ck.V6 ha.walk af hg)⟩
def FI.aEM(hA:oW P)(h:FI P H f d):0≤(bz P f).getD 1 0∧(bz P f).getD 1 0<8:=(Fr.vG (Gj (h.oV hA))).1
def FI.fork(hA:oW P)(h:FI P H f d)(h8:(bz P f).getD 0 0=8):∃g',P[((bz P f).getD 4 0).toNat]?=some g'∧0≤(bz P f).getD 4 0∧EN P ((bz P f).getD 4 0)=g'.aX∧(H (-1)∨True)∧FI P H (jo f ((bz P f).getD 4 0) g'.aX) 1:=by
 obtain⟨g,hv,ha⟩:=h.at hA;have c:=(Ck.adh ha.good.places).2 h8;have hc:=(Ck.afo ha.oV).2.2.2.1 h8;have hr:=Fr.vG (Gj ha.oV);obtain⟨g',a⟩:∃g',P[((bz P f).getD 4 0).toNat]?=some g':=⟨_,iH af⟩;have hh:=ha.good.ajq;unfold rU gA at hh;rw[if_neg (by rw[h8];decide),if_neg (by rw[h8];decide),if_pos (by rw[h8];rfl),Ck.OA a]at hh
 obtain⟨c1,c2,c3,c4,b⟩:=ads h.len;have hacc:=hA.all g' (qn a);refine⟨g',a,hc.1,by unfold EN;rw[a],.inr trivial,c1,by rw[c2];exact hc.1,iw 1,g',by rw[c2];exact a,g'.aX,by rw[c3];exact Ck.aaq hacc ⟨by have:=hacc.n0;omega,by have:=hacc.n1;omega⟩,λk hk ht=> ?_⟩
 rw[b k hk,if_pos ht];exact ha.hds k hk (Ck.V6 ha.walk hk (Ck.A4.1 hh k hk ht))
def FI.tF{id:Int}(hA:oW P)(h:FI P H f d)(h8:(bz P f).getD 0 0=8)(a:H id):FI P H (eI f (bz P f) id) d:=by
 obtain⟨g,hv,ha⟩:=h.at hA;obtain⟨b,BR⟩:=ha.pc;obtain⟨f1,f2,f3,f4,f5⟩:=ajS ha.oV h8 h.len b BR;refine⟨f1,by rw[f2];exact h.f0,h.d1,g,by rw[f2];exact ha.at0,Ck.MI (bz P f) hv,?_,λk hk ht=> ?_⟩
 ·rw[f3];obtain⟨hz,hlt⟩:=Ck.Yb ha.acc ha.walk ha.ins (by unfold gA;omega) (by unfold gA;omega) (by unfold gA;omega)
  refine Ck.adj ha.acc.l1 ha.walk ha.ins hz ?_ (λk hk ht=> ?_) ?_
  ·unfold Ck.MI;split
   ·exact Ck.ayt _ _
   ·exact ha.walk.inI
  ·rw[Ck.ahm hk]at ht;simpa using ht
  ·rw[Ck.aap ha.walk ha.ins hlt];unfold BS gA;rw[if_neg af,if_neg af]
 ·rw[f5 k hk];split
  ·exact a
  ·rename_i hne;rw[Ck.ahm hk]at ht;have hf:xo (bz P f) k=false:=by unfold Ck.xo;rw[Bool.and_eq_false_iff];exact .inr (gq hne)
   rw[hf,Bool.or_false]at ht;exact ha.hds k hk ht
def FI.root(hA:oW P):FI P H nF 1:=by
 have hn:=hA.n0;obtain⟨g,hg⟩:∃g,P[(0:Int).toNat]?=some g:=⟨_,iH (by simp;omega)⟩
 have hacc:=hA.all g (qn hg);refine⟨rfl,by simp[Fr.nF],iw 1,g,hg,g.aX,Ck.aaq hacc ⟨by have:=hacc.n0;omega,by have:=hacc.n1;omega⟩,λk hk ht=> ?_⟩
 have:=Ck.OA hg;rw[hA.root]at this;rw[←this,Ck.X4 hk]at ht;cases ht
def FI.is8(hA:oW P)(h:FI P H f d){op:Int}(h8:(bz P f).getD 0 0=op):o5 (bz P f) op=true:=abh (h.oV hA) h8
end
open Ko (CK)
open Ck (oW)
inductive Ro
 |told|idle|Ye|OI
 |ask (s:Nat)|liv (s:Nat)
 |top (v:Nat)|bot (v:Nat)|Uw (v:Nat)|rg (v g k:Nat)
 |fk (x:Nat)|fv (x:Nat)|fw (x:Nat)
 deriving DecidableEq
def k9(ro:List Ro)(a:Int)(r:Ro):Prop:=0≤a∧ro[a.toNat]?=some r
variable{x o:Int}
section
variable{ro m:List Ro}{a b:Int}{r s:Ro}
def k9.ne(h:k9 ro a r)(k:k9 ro b s)(hn:r≠s):a≠b:=by
 intro e;subst e;have:=h.2;rw[k.2]at this;exact hn (Option.some.inj this).symm
def k9.qT(h:k9 ro a r):k9 (ro++m) a r:=⟨h.1,by rw[tJ (kB.1 h.2).1];exact h.2⟩
def k9.lt(h:k9 ro a r):a<ro.length:=by have:=(kB.1 h.2).1;have:=h.1;omega
def k9.new{k:Nat}(hk:m[k]?=some r)(ha:a=((ro.length+k:Nat):Int)):k9 (ro++m) a r:=by
 subst ha;refine⟨af,?_⟩;rw[iZ,u0 af];rw[Nat.add_sub_cancel_left];exact hk
def k9.old(h:k9 (ro++m) a r):k9 ro a r∨∃k:Nat,m[k]?=some r∧a=((ro.length+k:Nat):Int):=by
 by_cases hl:a.toNat<ro.length
 ·exact .inl ⟨h.1,by have:=h.2;rwa[tJ hl]at this⟩
 ·refine .inr ⟨a.toNat - ro.length,?_,by have:=h.1;omega⟩
  have:=h.2;rwa[u0 af]at this
def k9.given(h:k9 ro a r)(hl:ro.length=M.cells.length):M.given a=true:=by
 have:=h.lt;have:=h.1;unfold bJ.given;simp only[decide_eq_true_eq];omega
def k9.can{wk:Int}(h:k9 ro a r)(hl:ro.length=M.cells.length)(hc:M.caller wk=true):M.can wk a=true:=by
 unfold bJ.can;rw[hc,h.given hl];rfl
def SC(h0:0≤a)(h1:0≤b)(h:b≠a):(M.put a x).get b=M.get b:=by
 unfold bJ.get bJ.put;simp only[m0];rw[r0 af]
def ajT(h0:0≤a)(h1:a<M.cells.length):(M.put a x).get a=x:=by
 unfold bJ.get bJ.put;simp only[m0];rw[uO af];rfl
def xR(h0:0≤a)(h1:a<M.cells.length):(M.grow n).get a=M.get a:=by
 unfold bJ.get bJ.grow;simp only[m0];rw[tJ af]
def Yf(h1:(M.cells.length:Int)≤a):(M.grow n).get a=0:=by
 unfold bJ.get bJ.grow;simp only[m0];rw[u0 af];cases h:(dU n.toNat (0:Int))[a.toNat - M.cells.length]? with
 |none=>rfl
 |some v=>have:=List.eq_of_mem_replicate (qn h);rw[this];rfl
@[simp] theorem tT:(M.tick wk).get a=M.get a:=rfl
@[simp] theorem SD:(M.tick wk).cells=M.cells:=rfl
@[simp] theorem aCg:(M.tick wk).size=M.size:=rfl
@[simp] theorem ajU:(M.put a x).cells.length=M.cells.length:=by unfold bJ.put;simp
@[simp] theorem size_put:(M.put a x).size=M.size:=rfl
@[simp] theorem amc:(M.put a x).steps=M.steps:=rfl
@[simp] theorem aAm:(M.grow n).steps=M.steps:=rfl
@[simp] theorem aCh:(M.grow n).size=M.size:=rfl
def Tf(h:0≤n):((M.grow n).cells.length:Int)=M.cells.length+n:=by unfold bJ.grow;simp;omega
@[simp] theorem aqS:(M.tick wk).steps.length=M.steps.length:=by unfold bJ.tick;simp
def Ga{n:Nat}(hn:M.steps.length=n+1)(h0:0≤wk)(h1:wk≤n):M.caller wk=true:=by
 unfold bJ.caller;simp only[decide_eq_true_eq];omega
def MK(h0:0≤a)(h1:a<M.cells.length)(hb:0≤b):(M.put a x).get b=if b=a then x else M.get b:=by
 split
 ·rename_i e;subst e;exact ajT h0 h1
 ·rename_i e;exact SC h0 hb e
def abi(h0:0≤a)(h1:a<M.cells.length)(hb:0≤b):(M.cs wk a o x).1.get b=if b=a∧M.get a=o then x else M.get b:=by
 unfold bJ.cs;split
 ·rename_i e;dsimp only;rw[MK h0 (gq h1) hb,tT]
  by_cases hba:b=a
  ·simp[hba,e]
  ·simp[hba]
 ·rename_i e;simp[e]
def ay2:(M.cs wk a o x).2=decide (M.get a=o):=by
 unfold bJ.cs;split
 ·rename_i e;simp[e]
 ·rename_i e;simp[e]
def ay3(h0:0≤a)(h1:a<M.cells.length)(hb:0≤b):(M.ad wk a x).get b=if b=a then wr (M.get a+x)else M.get b:=by
 unfold bJ.ad;rw[MK h0 (gq h1) hb,tT]
def aDi:(M.ad wk a x).cells.length=M.cells.length:=by unfold bJ.ad;simp
def ahB(x:Int):sy (wr x):=by
 unfold wr sy aF;simp only[IntKind.bits,IntKind.signed];simp;omega
end
def ML:∀{n:Nat} {l:List Nat},l.Nodup→(∀x∈l,x<n)→l.length≤n
 |0,l,_,h=>by
  cases l with
  |nil=>simp
  |cons x l=>exact absurd (h x bf) af
 |n+1,l,hd,h=>by
  by_cases hn:n∈l
  ·have h1:=ML (n:=n) (hd.erase n) λx hx=>by
    have h2:=(List.Nodup.mem_erase_iff hd).1 hx;have:=h x h2.2;omega
   rw[List.length_erase_of_mem hn]at h1;omega
  ·have:=ML (n:=n) hd λx hx=>by
    have h2:=h x hx;have:x≠n:=λe=>hn (e▸hx);omega
   omega
structure RgT (l:Lc) (ro:List Ro) (v:Nat) (R:Rg):Prop where
 right:R.right=true
 le:R.DA≤l.log
 cell:∀k:Nat,k<R.pw→k9 ro (R.At+(k:Int)) (.rg v R.DA.toNat k)
def RgT.qT{l:Lc}{ro m:List Ro}{v:Nat}{R:Rg}(h:RgT l ro v R):RgT l (ro++m) v R:=⟨h.right,h.le,λk hk=>(h.cell k hk).qT⟩
def aqk{R:Rg}(h:R.right=true):0≤R.DA∧R.DA≤8∧0≤R.At∧R.At≤1048576 - R.pw:=by unfold Rg.right at h;simpa using h
def ay4(R:Rg):1≤R.pw:=by unfold Rg.pw;exact Nat.pow_pos af
def RgT.place{l:Lc}{ro:List Ro}{v:Nat}{R:Rg}(h:RgT l ro v R)(i:Int):k9 ro (R.place i) (.rg v R.DA.toNat (i % (R.pw:Int)).toNat):=by
 have hp:=ay4 R;have h1:=Int.emod_nonneg i (b:=(R.pw:Int)) af;have h2:=Int.emod_lt_of_pos i (b:=(R.pw:Int)) af;have:=h.cell (i % (R.pw:Int)).toNat af;unfold Rg.place;rw[if_pos h.right];rwa[Int.toNat_of_nonneg h1]at this
def EO(l:Lc)(ro:List Ro)(n:Nat):Ro→Int→Prop
 | .OI,x=>0≤x∧x<65536
 | .ask _,x=>x=0∨x=1
 | .rg _ _ _,x=>0≤x∧x<n
 | .top _,x=>sy x
 | .bot _,x=>sy x
 | .Uw v,x=> ∃R:Rg,x=R.word∧RgT l ro v R
 | .fk _,x=>0≤x∧x≤4
 |_,_=>True
def EO.qT{l:Lc}{ro m:List Ro}{n n':Nat}{r:Ro}{x:Int}(h:EO l ro n r x)(hn:n≤n'):EO l (ro++m) n' r x:=by
 cases r<;>try exact h
 ·obtain⟨R,h1,h2⟩:=h;exact⟨R,h1,h2.qT⟩
 ·exact⟨h.1,by have:=h.2;omega⟩
structure ScT (ro:List Ro) (s:Nat) (x:Nd):Prop where
 a:k9 ro x.at_ (.ask s)
 b:k9 ro (x.at_+1) (.liv s)
 n:0≤x.nest∧x.nest≤32
 p:s≠0→0≤x.parent∧x.parent<s
 w:s=0→x.parent= -1
structure Ux (ro:List Ro) (nC:Nat) (x:Nat) (t:Tk):Prop where
 id:t.id=x
 k:k9 ro t.jI (.fk x)
 v:k9 ro (t.jI+1) (.fv x)
 w:k9 ro (t.jI+2) (.fw x)
 inn:0≤t.l7∧t.l7<nC
 own:0≤t.own∧t.own<nC
 cJ:∀p∈t.cJ,0≤p.1∧p.1<nC
 sn:t.gL.size+t.cJ.length≤t.scopes.length
 sl:t.scopes.length≤nC
structure Ty (l:Lc) (ro:List Ro) (G:Gl):Prop where
 len:ro.length=G.M.cells.length
 ok:G.M.OK
 sz:G.M.size≤65536
 stp:G.M.steps.length=l.wa.length+1
 val:∀a r,k9 ro a r→EO l ro G.ts.length r (G.M.get a)
 told:k9 ro l.told .told
 idle:k9 ro l.idle .idle
 Ye:k9 ro l.sp.at_ .Ye
 OI:k9 ro (l.sp.at_+1) .OI
 sc:∀(s:Nat) x,G.C[s]?=some x→ScT ro s x
 tk:∀(x:Nat) t,G.ts[x]?=some t→Ux ro G.C.length x t
 c1:1≤G.C.length
 t1:1≤G.ts.length
 pl:G.P.length=G.C.length
 kt:acI G.T
 kl:G.T.length=G.ts.length
 kk:∀(i:Nat) x,G.T[i]?=some x→x.kids.length≤G.T.length
 ck:CK G.time
 Qn:∀y∈G.time.2,y.2<G.C.length
 cnt:2*G.C.length+3*G.ts.length≤G.M.cells.length
 dr:G.D.length≤1024
section
variable{l:Lc}{ro m:List Ro}{G G':Gl}{a:Int}{r:Ro}
def Ty.cap(h:Ty l ro G):G.C.length≤32768∧G.ts.length≤32768∧G.P.length≤32768∧G.T.length≤32768:=by
 have h1:=h.ok.fit;have h2:=h.sz;have h3:=h.cnt;have h4:=h.pl;have h5:=h.kl;omega
def Ty.O7(h:Ty l ro G)(h0:0≤s)(h1:s<G.C.length):G8 G s∧ScT ro s.toNat (G.nd s):=by
 have h2:s.toNat<G.C.length:=af;have e:nZ G.C s=some (G.C[s.toNat]'h2):=by unfold nZ;rw[if_pos h0,iH h2]
 have e2:G.nd s=G.C[s.toNat]'h2:=by unfold Gl.nd;rw[e];rfl
 exact⟨by unfold G8;rw[e,e2],by rw[e2];exact h.sc _ _ (iH h2)⟩
def Ty.qh(h:Ty l ro G){x:Nat}(hx:x<G.ts.length):Ux ro G.C.length x (G.tk x):=h.tk x _ (G.xw hx)
def Ty.Zs(h:Ty l ro G):G.time.2.length≤100000:=by
 have h1:=h.ck.one;have h2:=h.Qn;have h3:=h.ck.ids;have h4:=h.cap.1;have hd:((G.time.2.map (·.2)).map Int.toNat).Nodup:=by
  refine List.pairwise_map.2 (h1.imp_of_mem fun{a b} ha hb hab=> ?_);obtain⟨z,hz,rfl⟩:=List.mem_map.1 ha;obtain⟨u,hu,rfl⟩:=List.mem_map.1 hb;have a1:=h3 z hz;have a2:=h3 u hu;omega
 have:=ML (n:=G.C.length) hd λx hx=>by
  obtain⟨y,hy,rfl⟩:=List.mem_map.1 hx;obtain⟨z,hz,rfl⟩:=List.mem_map.1 hy;have a1:=h2 z hz;have a2:=h3 z hz;omega
 simp at this;omega
def Ty.aAn(h:Ty l ro G)(hc:M.cells.length=G.M.cells.length)(hs:M.size=G.M.size)(hst:M.steps.length=G.M.steps.length)(hv:∀a r,k9 ro a r→EO l ro G.ts.length r (M.get a)):Ty l ro (G.mem M):=
 {h with len:=by rw[h.len];exact hc.symm,ok:=⟨by show 1≤M.size∧M.size≤_;rw[hs];exact h.ok.size,by have:=h.ok.fit;show(M.cells.length:Int)≤M.size;rw[hs,hc];exact this⟩,sz:=by show M.size≤_;rw[hs];exact h.sz,stp:=by show M.steps.length=_;rw[hst];exact h.stp,val:=hv,cnt:=by show _≤M.cells.length;rw[hc];exact h.cnt}
def Ty.tick(h:Ty l ro G)(wk:Int):Ty l ro (G.tick wk):=h.aAn rfl rfl bf h.val
def Ty.put{M:bJ}(h:Ty l ro G)(c:M.cells=G.M.cells∧M.size=G.M.size∧M.steps.length=G.M.steps.length)(hl:k9 ro a r)(hv:EO l ro G.ts.length r v):Ty l ro (G.mem (M.put a v)):=by
 obtain⟨h1,h2,h3⟩:=c;refine h.aAn (by simp[h1]) h2 h3 λb s hb=> ?_
 have hlt:=hl.lt;rw[h.len]at hlt;rw[MK hl.1 (by rw[h1];exact hlt) hb.1]
 split
 ·rename_i e;subst e;have:r=s:=by have q:=hl.2;rw[hb.2]at q;exact(Option.some.inj q).symm
  subst this;exact hv
 ·have:M.get b=G.M.get b:=by unfold bJ.get;rw[h1]
  rw[this];exact h.val b s hb
def Ty.ad(h:Ty l ro G){wk x:Int}(hl:k9 ro a r)(hv:EO l ro G.ts.length r (wr (G.M.get a+x))):Ty l ro (G.mem (G.M.ad wk a x)):=h.put ⟨rfl,rfl,bf⟩ hl hv
def Ty.cs(h:Ty l ro G){wk o x:Int}(hl:k9 ro a r)(hv:EO l ro G.ts.length r x):Ty l ro (G.mem (G.M.cs wk a o x).1):=by
 unfold bJ.cs;split
 ·exact h.put ⟨rfl,rfl,bf⟩ hl hv
 ·exact h.tick wk
def Ty.set(h:Ty l ro G){x:Nat}{t:Tk}(ht:x<G.ts.length→Ux ro G.C.length x t):Ty l ro (G.set x t):=by
 have hn:(G.set x t).ts.length=G.ts.length:=by unfold Gl.set;simp
 refine{h with val:=by rw[hn];exact h.val,tk:=λy u hu=> ?_,t1:=by rw[hn];exact h.t1,kl:=by rw[hn];exact h.kl,cnt:=by rw[hn];exact h.cnt}
 by_cases e:x=y
 ·subst e;have hu:(G.ts.set x t)[x]?=some u:=hu;have hl:=(kB.1 hu).1;rw[List.length_set]at hl;rw[uO hl]at hu;cases hu
  exact ht hl
 ·have hu:(G.ts.set x t)[y]?=some u:=hu;rw[r0 e]at hu;exact h.tk y u hu
end
def ajW{r:Rg}(h:r.right=true):Rg.of r.word=r:=by
 have hr:=Rg.F5 h;unfold Rg.of Rg.word;rw[if_pos h];obtain⟨a,l⟩:=r;simp only[Rg.mk.injEq]at*
 omega
structure ZH (ro:List Ro) (v:Nat) (d:Int):Prop where
 top:k9 ro d (.top v)
 bot:k9 ro (d+1) (.bot v)
 Uw:k9 ro (d+2) (.Uw v)
def ZH.qT{ro m:List Ro}{v:Nat}{d:Int}(h:ZH ro v d):ZH (ro++m) v d:=⟨h.top.qT,h.bot.qT,h.Uw.qT⟩
def pI{O:bu}{r:ID}(hl:O.live=true)(hr:O.run M wk=r):O.step M wk=({r.1 with how:=if r.2.2.2=0 then r.2.2.1 else 6,err:=r.2.2.2},r.2.1):=by
 unfold bu.step;rw[if_pos hl,hr]
def xx{O:bu}(h:O.how=0):O.live=true:=by unfold bu.live;rw[h];rfl
def aCi{O:bu}(h:O.how=2):O.live=true:=by unfold bu.live;rw[h];rfl
def o6(M:bJ)(d:Int):Rg:=Rg.of (M.get (d+2))
variable{a:Int}
section
variable{l:Lc}{ro:List Ro}{d:Int}{v:Nat}{O:bu}
structure LC (M:bJ) (wk d:Int) (O:bu):Prop where
 at_:O.at_=d
 c0:M.can wk d=true
 c1:M.can wk (d+1)=true
 c2:M.can wk (d+2)=true
 rr:(o6 M d).right=true
def amd(h:LC M wk d O):O.read M wk=({O with ring:=o6 M d},M.tick wk,0):=by
 have h2:=h.c2;have h3:=h.rr;unfold o6 at h3 ⊢;rw[←h.at_]at h2 h3 ⊢;unfold bu.read;rw[if_pos h2,if_pos h3]
def an4(h:M.can wk a=true):M.VQ wk a o x=((M.cs wk a o x).1,(M.cs wk a o x).2,0):=by
 rw[aiF h];unfold bJ.cs;split<;>rfl
def st0(h:LC M wk d O)(hw:O.how=0)(hn:O.next=0):O.step M wk=({O with b:=M.get (d+1),next:=1,how:=0,err:=0},M.tick wk):=by
 obtain⟨rfl,h0,h1,h2,h3⟩:=h;rw[pI (xx hw) (show O.run M wk=O.f0 M wk by simp only[bu.run,hn])]
 unfold bu.f0;rw[EJ h1];rfl
def st1(h:LC M wk d O)(hw:O.how=0)(hn:O.next=1):O.step M wk=({O with t:=M.get d,next:=2,how:=0,err:=0},M.tick wk):=by
 obtain⟨rfl,h0,h1,h2,h3⟩:=h;rw[pI (xx hw) (show O.run M wk=O.f1 M wk by simp only[bu.run,hn])]
 unfold bu.f1;rw[EJ h0];rfl
def Zg(h:LC M wk d O)(hw:O.how=0)(hn:O.next=2):O.step M wk=
  (if wr (O.b - O.t)<(o6 M d).size then{O with ring:=o6 M d,next:=6,how:=0,err:=0}else if (o6 M d).DA≥O.most then{O with ring:=o6 M d,how:=4,err:=0}else{O with ring:=o6 M d,next:=3,how:=0,err:=0},M.tick wk):=by
 have e:O.run M wk=(if wr (O.b - O.t)<(o6 M d).size then({O with ring:=o6 M d,next:=6},M.tick wk,0,0)else if (o6 M d).DA≥O.most then({O with ring:=o6 M d},M.tick wk,4,0)else({O with ring:=o6 M d,next:=3},M.tick wk,0,0)):=by
  rw[show O.run M wk=O.f2 M wk by simp only[bu.run,hn]]
  unfold bu.f2;rw[amd h];simp
 rw[pI (xx hw) e];split
 ·rfl
 ·split<;>rfl
def st3(h:LC M wk d O)(hw:O.how=0)(hn:O.next=3)(hl:0≤O.lg∧O.lg≤8)(hc:M.caller wk=true):O.step M wk=
  if M.room O.MA then(if Sf O.ring (O.Mz M) O.t O.b=0 then({O with to:=O.Mz M,copy:=some (Cp.begin O.ring (O.Mz M) O.t O.b),next:=4,how:=0,err:=0},(M.tick wk).grow O.MA)
   else({O with to:=O.Mz M,copy:=none,next:=4,how:=6,err:=Sf O.ring (O.Mz M) O.t O.b},(M.tick wk).grow O.MA))else({O with how:=6,err:=21},M):=by
 have e:O.run M wk=O.f3 M wk:=by simp only[bu.run,hn]
 rw[pI (xx hw) e];unfold bu.f3;rw[if_pos ⟨hl.1,hl.2,hc⟩];split
 ·split
  ·rfl
  ·dsimp only
 ·rfl
def st4{c:Cp}(hw:O.how=0)(hn:O.next=4)(hc:O.copy=some c)(hk:M.can wk c.spot=true):O.step M wk=
  if c.at_=c.j2 then({O with next:=5,how:=0,err:=0},M)else if c.Cm then({O with copy:=some (c.next 0),next:=if (c.next 0).at_=c.j2 then 5 else 4,how:=0,err:=0},(M.tick wk).put c.spot c.has)
   else({O with copy:=some (c.next (M.get c.spot)),how:=0,err:=0},M.tick wk):=by
 have e:O.run M wk=O.f4 M wk c:=by simp only[bu.run,hn,hc]
 rw[pI (xx hw) e];unfold bu.f4;rw[hn];split
 ·rfl
 ·split<;>rfl
def st5(h:LC M wk d O)(hw:O.how=0)(hn:O.next=5):O.step M wk=({O with ring:=O.to,next:=6,how:=0,err:=0},(M.tick wk).put (d+2) O.to.word):=by
 obtain⟨rfl,h0,h1,h2,h3⟩:=h;rw[pI (xx hw) (show O.run M wk=O.f5 M wk by simp only[bu.run,hn])]
 unfold bu.f5;rw[S4 h2];rfl
def st6(hw:O.how=0)(hn:O.next=6)(hc:M.can wk (O.ring.place O.b)=true):O.step M wk=({O with next:=7,how:=0,err:=0},(M.tick wk).put (O.ring.place O.b) O.x):=by
 rw[pI (xx hw) (show O.run M wk=O.f6 M wk by simp only[bu.run,hn])]
 unfold bu.f6;rw[S4 hc];rfl
def st7(h:LC M wk d O)(hw:O.how=0)(hn:O.next=7):O.step M wk=({O with how:=1,err:=0},(M.tick wk).put (d+1) (wr (O.b+1))):=by
 obtain⟨rfl,h0,h1,h2,h3⟩:=h;rw[pI (xx hw) (show O.run M wk=O.f7 M wk by simp only[bu.run,hn])]
 unfold bu.f7;rw[S4 h1];rfl
def st8(h:LC M wk d O)(hw:O.how=0)(hn:O.next=8):O.step M wk=({O with b:=M.get (d+1),next:=9,how:=0,err:=0},M.tick wk):=by
 obtain⟨rfl,h0,h1,h2,h3⟩:=h;rw[pI (xx hw) (show O.run M wk=O.f8 M wk by simp only[bu.run,hn])]
 unfold bu.f8;rw[EJ h1];rfl
def st9(h:LC M wk d O)(hw:O.how=0)(hn:O.next=9):O.step M wk=({O with ring:=o6 M d,next:=10,how:=0,err:=0},M.tick wk):=by
 have h':LC M wk d {O with next:=10}:=⟨h.at_,h.c0,h.c1,h.c2,h.rr⟩
 rw[pI (xx hw) (show O.run M wk=O.f9 M wk by simp only[bu.run,hn])]
 unfold bu.f9;rw[amd h'];rfl
def aER(h:LC M wk d O)(hw:O.how=0)(hn:O.next=10):O.step M wk=({O with next:=11,how:=0,err:=0},(M.tick wk).put (d+1) (wr (O.b - 1))):=by
 obtain⟨rfl,h0,h1,h2,h3⟩:=h;rw[pI (xx hw) (show O.run M wk=O.f10 M wk by simp only[bu.run,hn])]
 unfold bu.f10;rw[S4 h1];rfl
def aES(h:LC M wk d O)(hw:O.how=0)(hn:O.next=11):O.step M wk=({O with t:=M.get d,next:=if M.get d>wr (O.b - 1)then 14 else 12,how:=0,err:=0},M.tick wk):=by
 obtain⟨rfl,h0,h1,h2,h3⟩:=h;rw[pI (xx hw) (show O.run M wk=O.f11 M wk by simp only[bu.run,hn])]
 unfold bu.f11;rw[EJ h0];simp only[decide_eq_true_eq];rfl
def aET(hw:O.how=0)(hn:O.next=12)(hc:M.can wk (O.ring.place (wr (O.b - 1)))=true):O.step M wk=({O with got:=M.get (O.ring.place (wr (O.b - 1))),next:=13,how:=if O.t<wr (O.b - 1)then 1 else 0,err:=0},M.tick wk):=by
 rw[pI (xx hw) (show O.run M wk=O.f12 M wk by simp only[bu.run,hn])]
 unfold bu.f12;rw[EJ hc];simp only[decide_eq_true_eq];rfl
def aEU(h:LC M wk d O)(hw:O.how=0)(hn:O.next=13):O.step M wk=({O with won:=(M.cs wk d O.t (wr (O.t+1))).2,next:=14,how:=0,err:=0},(M.cs wk d O.t (wr (O.t+1))).1):=by
 obtain⟨rfl,h0,h1,h2,h3⟩:=h;rw[pI (xx hw) (show O.run M wk=O.f13 M wk by simp only[bu.run,hn])]
 unfold bu.f13;rw[an4 h0];rfl
def aEV(h:LC M wk d O)(hw:O.how=0)(hn:O.next=14):O.step M wk=({O with how:=if O.won then 1 else 3,err:=0},(M.tick wk).put (d+1) O.b):=by
 obtain⟨rfl,h0,h1,h2,h3⟩:=h;rw[pI (xx hw) (show O.run M wk=O.f14 M wk by simp only[bu.run,hn])]
 unfold bu.f14;rw[S4 h1];rfl
def aEW(h:LC M wk d O)(hw:O.how=0)(hn:O.next=15):O.step M wk=({O with t:=M.get d,next:=16,how:=0,err:=0},M.tick wk):=by
 obtain⟨rfl,h0,h1,h2,h3⟩:=h;rw[pI (xx hw) (show O.run M wk=O.f15 M wk by simp only[bu.run,hn])]
 unfold bu.f15;rw[EJ h0];rfl
def aEX(h:LC M wk d O)(hw:O.how=0)(hn:O.next=16):O.step M wk=({O with b:=M.get (d+1),next:=17,how:=if O.t≥M.get (d+1)then 3 else 0,err:=0},M.tick wk):=by
 obtain⟨rfl,h0,h1,h2,h3⟩:=h;rw[pI (xx hw) (show O.run M wk=O.f16 M wk by simp only[bu.run,hn])]
 unfold bu.f16;rw[EJ h1];simp only[decide_eq_true_eq];rfl
def aEY(h:LC M wk d O)(hw:O.how=0)(hn:O.next=17):O.step M wk=({O with ring:=o6 M d,next:=18,how:=0,err:=0},M.tick wk):=by
 have h':LC M wk d {O with next:=18}:=⟨h.at_,h.c0,h.c1,h.c2,h.rr⟩
 rw[pI (xx hw) (show O.run M wk=O.f17 M wk by simp only[bu.run,hn])]
 unfold bu.f17;rw[amd h'];rfl
def aEZ(hw:O.how=0)(hn:O.next=18)(hc:M.can wk (O.ring.place O.t)=true):O.step M wk=({O with got:=M.get (O.ring.place O.t),next:=19,how:=2,err:=0},M.tick wk):=by
 rw[pI (xx hw) (show O.run M wk=O.f18 M wk by simp only[bu.run,hn])]
 unfold bu.f18;rw[EJ hc];rfl
def stK(h:LC M wk d O)(hw:O.how=2)(hn:O.next=19):O.step M wk=({O with how:=if (M.cs wk d O.t (wr (O.t+1))).2 then 1 else 5,err:=0},(M.cs wk d O.t (wr (O.t+1))).1):=by
 obtain⟨rfl,h0,h1,h2,h3⟩:=h;rw[pI (aCi hw) (show O.run M wk=O.f19 M wk by simp only[bu.run,hn])]
 unfold bu.f19;rw[an4 h0];cases (M.cs wk O.at_ O.t (wr (O.t+1))).2<;>rfl
end
structure Cb (l:Lc) (ro:List Ro) (n:Nat) (v:Nat) (d:Int) (O:bu):Prop where
 at_:O.at_=d
 most:O.most=l.log
 b:sy O.b
 t:sy O.t
 x:0≤O.x∧O.x<n
 got:0≤O.got∧O.got<n
 nx:O.next≤19
 how:O.how=if O.next=19 then 2 else 0
 rg:(3≤O.next∧O.next≤7)∨(10≤O.next∧O.next≤13)∨18≤O.next→RgT l ro v O.ring
 c2:O.next≤3→O.copy=none
 l3:O.next=3→O.ring.DA<l.log
 c4:O.next=4→∃c,O.copy=some c∧c.a=O.ring∧c.b=O.to∧0≤c.has∧c.has<n
 to:O.next=4∨O.next=5→RgT l ro v O.to
def bu.kind(O:bu):Nat:=if O.next≤7 then 0 else if O.next≤14 then 1 else 2
variable{m:List Ro}
def Cb.imp{l:Lc}{ro:List Ro}{n n' v:Nat}{d:Int}{O:bu}(h:Cb l ro n v d O)(hn:n≤n'):Cb l (ro++m) n' v d O:=
 {h with x:=⟨h.x.1,by have:=h.x.2;omega⟩,got:=⟨h.got.1,by have:=h.got.2;omega⟩,rg:=λq=>(h.rg q).qT,c4:=λq=>by obtain⟨c,h1,h2,h3,h4,h5⟩:=h.c4 q;exact⟨c,h1,h2,h3,h4,af⟩,to:=λq=>(h.to q).qT}
def Ro.dq(v:Nat):Ro→Prop
 | .top u=>u=v
 | .bot u=>u=v
 | .Uw u=>u=v
 | .rg u _ _=>u=v
 |_=>False
structure OpR (l:Lc) (ro iT:List Ro) (G:Gl) (wk:Int) (v:Nat) (d:Int) (O:bu) (r:bu×bJ):Prop where
 ty:Ty l iT (G.mem r.2)
 ext:∃m,iT=ro++m∧∀s∈m,s.dq v
 err:r.1.how=6→r.1.err≠0
 got:0≤r.1.got∧r.1.got<G.ts.length
 live:r.1.how=0∨r.1.how=2→Cb l iT G.ts.length v d r.1∧r.1.kind=O.kind
 how:O.kind=2→(r.1.how=0∧O.next≤17∧r.1.next≤18)∨(r.1.how=2∧O.next=18)∨(r.1.how=3∧O.next=16)∨((r.1.how=1∨r.1.how=5)∧O.next=19)
 ajX:O.kind≠2→r.1.how=0∨r.1.how=1∨(r.1.how=3∧O.kind=1)∨(r.1.how=4∧O.kind=0)∨(r.1.how=6∧O.kind=0)
 same:∀a s,k9 ro a s→¬s.dq v→r.2.get a=G.M.get a
 tick:r.2.steps=G.M.steps∨r.2.steps=(G.M.tick wk).steps
 used:G.M.cells.length≤r.2.cells.length
section
variable{l:Lc}{ro:List Ro}{G:Gl}{d:Int}{v:Nat}{O:bu}
def Ty.ring(h:Ty l ro G)(hd:ZH ro v d):RgT l ro v (o6 G.M d):=by
 obtain⟨R,h1,h2⟩:=h.val _ _ hd.Uw;unfold o6;rw[h1,ajW h2.right];exact h2
def Ty.rdy(h:Ty l ro G)(hd:ZH ro v d)(hc:G.M.caller wk=true)(ha:O.at_=d):LC G.M wk d O:=
 ⟨ha,hd.top.can h.len hc,hd.bot.can h.len hc,hd.Uw.can h.len hc,(h.ring hd).right⟩
def Cb.phase(h:Cb l ro G.ts.length v d O):O.next=0∨O.next=1∨O.next=2∨O.next=3∨O.next=4∨O.next=5∨O.next=6∨O.next=7∨O.next=8∨O.next=9∨O.next=10∨O.next=11∨O.next=12∨O.next=13∨O.next=14∨O.next=15∨O.next=16∨O.next=17∨O.next=18∨O.next=19:=by
 have:=h.nx;omega
def Ty.aqm(h:Ty l ro G){r:Ro}(c:M.cells=G.M.cells)(hl:k9 ro a r)(hr:r.dq v):∀b s,k9 ro b s→¬s.dq v→(M.put a x).get b=G.M.get b:=by
 intro b s hb hs;have hne:b≠a:=hb.ne hl (by rintro rfl;exact hs hr)
 rw[SC hl.1 hb.1 hne];unfold bJ.get;rw[c]
end
section
variable{l:Lc}{ro:List Ro}{G:Gl}{d:Int}{v:Nat}{O O':bu}{r:Ro}
def qS(h:Ty l ro G)(he:O'.how=6→O'.err≠0)(hg:0≤O'.got∧O'.got<G.ts.length)(hl:O'.how=0∨O'.how=2→Cb l ro G.ts.length v d O'∧O'.kind=O.kind)
  (h1:O.kind=2→(O'.how=0∧O.next≤17∧O'.next≤18)∨(O'.how=2∧O.next=18)∨(O'.how=3∧O.next=16)∨((O'.how=1∨O'.how=5)∧O.next=19)) (h2:O.kind≠2→O'.how=0∨O'.how=1∨(O'.how=3∧O.kind=1)∨(O'.how=4∧O.kind=0)∨(O'.how=6∧O.kind=0)):
  OpR l ro ro G wk v d O (O',G.M.tick wk):=
 {ty:=h.tick wk,ext:=⟨[],bf,bf⟩,err:=he,got:=hg,live:=hl,how:=h1,ajX:=h2,same:=λ_ _ _ _=>rfl,tick:= .inr rfl,used:=iw _}
def afA(h:Ty l ro G)(he:O'.how=6→O'.err≠0)(hg:0≤O'.got∧O'.got<G.ts.length)(hl:O'.how=0∨O'.how=2→Cb l ro G.ts.length v d O'∧O'.kind=O.kind)
  (h1:O.kind=2→(O'.how=0∧O.next≤17∧O'.next≤18)∨(O'.how=2∧O.next=18)∨(O'.how=3∧O.next=16)∨((O'.how=1∨O'.how=5)∧O.next=19)) (h2:O.kind≠2→O'.how=0∨O'.how=1∨(O'.how=3∧O.kind=1)∨(O'.how=4∧O.kind=0)∨(O'.how=6∧O.kind=0)):
  OpR l ro ro G wk v d O (O',G.M):=
 {ty:=h,ext:=⟨[],bf,bf⟩,err:=he,got:=hg,live:=hl,how:=h1,ajX:=h2,same:=λ_ _ _ _=>rfl,tick:= .inl rfl,used:=iw _}
def JJ(h:Ty l ro G)(hL:k9 ro a r)(hr:r.dq v)(hv:EO l ro G.ts.length r x)(he:O'.how=6→O'.err≠0)(hg:0≤O'.got∧O'.got<G.ts.length)(hl:O'.how=0∨O'.how=2→Cb l ro G.ts.length v d O'∧O'.kind=O.kind)
  (h1:O.kind=2→(O'.how=0∧O.next≤17∧O'.next≤18)∨(O'.how=2∧O.next=18)∨(O'.how=3∧O.next=16)∨((O'.how=1∨O'.how=5)∧O.next=19)) (h2:O.kind≠2→O'.how=0∨O'.how=1∨(O'.how=3∧O.kind=1)∨(O'.how=4∧O.kind=0)∨(O'.how=6∧O.kind=0)):
  OpR l ro ro G wk v d O (O',(G.M.tick wk).put a x):=
 {ty:=h.put ⟨rfl,rfl,bf⟩ hL hv,ext:=⟨[],bf,bf⟩,err:=he,got:=hg,live:=hl,how:=h1,ajX:=h2,same:=h.aqm rfl hL hr,tick:= .inr rfl,used:=by simp}
def an6(h:Ty l ro G)(hL:k9 ro a r)(hr:r.dq v)(hv:EO l ro G.ts.length r x)(he:O'.how=6→O'.err≠0)(hg:0≤O'.got∧O'.got<G.ts.length)(hl:O'.how=0∨O'.how=2→Cb l ro G.ts.length v d O'∧O'.kind=O.kind)
  (h1:O.kind=2→(O'.how=0∧O.next≤17∧O'.next≤18)∨(O'.how=2∧O.next=18)∨(O'.how=3∧O.next=16)∨((O'.how=1∨O'.how=5)∧O.next=19)) (h2:O.kind≠2→O'.how=0∨O'.how=1∨(O'.how=3∧O.kind=1)∨(O'.how=4∧O.kind=0)∨(O'.how=6∧O.kind=0)):
  OpR l ro ro G wk v d O (O',(G.M.cs wk a o x).1):=by
 unfold bJ.cs;split
 ·exact JJ h hL hr hv he hg hl h1 h2
 ·exact qS h he hg hl h1 h2
def MM(v g n:Nat):List Ro:=(List.range n).map λk=> .rg v g k
def Ty.amg(h:Ty l ro G)(hn:0≤n)(hm:m.length=n.toNat)(hr:G.M.room n=true)(hz:∀r∈m,EO l (ro++m) G.ts.length r 0):Ty l (ro++m) (G.mem ((G.M.tick wk).grow n)):=by
 have hr:n≤G.M.size - G.M.cells.length:=by unfold bJ.room at hr;simpa using hr
 have hlen:(((G.M.tick wk).grow n).cells.length:Int)=G.M.cells.length+n:=Tf hn;refine{h with len:=by rw[uv,hm,h.len];show _=((G.M.tick wk).grow n).cells.length;omega,ok:=⟨h.ok.size,by show(((G.M.tick wk).grow n).cells.length:Int)≤G.M.size;omega⟩,stp:=by show((G.M.tick wk).grow n).steps.length=_;simp[h.stp],val:=λa r hL=> ?_,told:=h.told.qT,idle:=h.idle.qT,Ye:=h.Ye.qT,OI:=h.OI.qT,sc:=λs x hs=> ?_,tk:=λx t ht=> ?_,cnt:=by show 2*G.C.length+3*G.ts.length≤((G.M.tick wk).grow n).cells.length;have:=h.cnt;omega}
 ·show EO l (ro++m) G.ts.length r (((G.M.tick wk).grow n).get a);rcases hL.old with h1|⟨k,h1,h2⟩
  ·have:=h1.lt;rw[h.len]at this;rw[xR (M:=G.M.tick wk) h1.1 this,tT];exact(h.val a r h1).qT (iw _)
  ·rw[Yf (by show(G.M.cells.length:Int)≤a;rw[←h.len];omega)]
   exact hz r (qn h1)
 ·have:=h.sc s x hs;exact{this with a:=this.a.qT,b:=this.b.qT}
 ·have:=h.tk x t ht;exact{this with k:=this.k.qT,v:=this.v.qT,w:=this.w.qT}
def aj2(P:0≤l.log∧l.log≤8)(h:Ty l ro G)(hd:ZH ro v d)(hc:G.M.caller wk=true)(hO:Cb l ro G.ts.length v d O):∃iT,OpR l ro iT G wk v d O (O.step G.M wk):=by
 have hR:=h.rdy hd hc hO.at_;have p:=h.ring hd;have hx:=hO.x;have hg:=hO.got;have hb:=h.val _ _ hd.bot;have ht:=h.val _ _ hd.top;have g:=hO.how;have D:∃m,ro=ro++m∧∀s∈m,s.dq v:=⟨[],bf,bf⟩;rcases hO.phase with e|e|e|e|e|e|e|e|e|e|e|e|e|e|e|e|e|e|e|e
 ·have hw:O.how=0:=by rw[g,e];rfl
  refine⟨ro,?_⟩;rw[st0 hR hw e];refine qS h bf hg (λ_=>⟨{hO with b:=hb,nx:=by simp,how:=rfl,rg:=by simp,c2:=λ_=>hO.c2 af,l3:=by simp,c4:=by simp,to:=by simp},by simp[bu.kind,e]⟩) (by simp[bu.kind,e]) bf
 ·have hw:O.how=0:=by rw[g,e];rfl
  refine⟨ro,?_⟩;rw[st1 hR hw e];refine qS h bf hg (λ_=>⟨{hO with t:=ht,nx:=by simp,how:=rfl,rg:=by simp,c2:=λ_=>hO.c2 af,l3:=by simp,c4:=by simp,to:=by simp},by simp[bu.kind,e]⟩) (by simp[bu.kind,e]) bf
 ·have hw:O.how=0:=by rw[g,e];rfl
  refine⟨ro,?_⟩;rw[Zg hR hw e];have hk:O.kind=0:=by simp[bu.kind,e]
  split
  ·refine qS h bf hg (λ_=>⟨{hO with nx:=by simp,how:=rfl,rg:=λ_=>p,c2:=by simp,l3:=by simp,c4:=by simp,to:=by simp},by rw[hk];simp[bu.kind]⟩) (by simp[hk]) bf
  split
  ·refine qS h bf hg bf (by simp[hk]) (by simp[hk])
  ·rename_i hlt;refine qS h bf hg (λ_=>⟨{hO with nx:=by simp,how:=rfl,rg:=λ_=>p,c2:=λ_=>hO.c2 af,l3:=λ_=>by show(o6 G.M d).DA< _;have:=hO.most;omega,c4:=by simp,to:=by simp},by rw[hk];simp[bu.kind]⟩) (by simp[hk]) bf
 ·have hw:O.how=0:=by rw[g,e];rfl
  have hk:O.kind=0:=by simp[bu.kind,e]
  have f:=hO.rg af;have F:=hO.l3 e;have H:=(aqk f.right).1;have I:O.lg=O.ring.DA+1:=by unfold bu.lg;exact dh ⟨af,af⟩
  rw[st3 hR hw e af hc];have B:0≤O.MA:=Int.natCast_nonneg _;split
  ·rename_i hroom;have J:O.MA≤G.M.size - G.M.cells.length:=by unfold bJ.room at hroom;simpa using hroom
   have hty:=h.amg (wk:=wk) (m:=MM v O.lg.toNat O.MA.toNat) B (by simp[MM]) hroom (λr hr=>by
    obtain⟨k,_,rfl⟩:=List.mem_map.1 hr;exact⟨af,by have:=h.t1;omega⟩)
   have n:∃m,ro++MM v O.lg.toNat O.MA.toNat=ro++m∧∀s∈m,s.dq v:=⟨_,rfl,λs hs=>by obtain⟨k,_,rfl⟩:=List.mem_map.1 hs;rfl⟩
   have hto:RgT l (ro++MM v O.lg.toNat O.MA.toNat) v (O.Mz G.M):=by
    have K:((O.Mz G.M).pw:Int)=O.MA:=by unfold Rg.pw bu.Mz bu.MA;rfl
    refine⟨?_,by show O.lg≤_;omega,λk hk'=> ?_⟩
    ·unfold Rg.right;simp only[decide_eq_true_eq];have:=h.ok.size;rw[K];show 0≤O.lg∧O.lg≤8∧0≤((G.M.cells.length:Nat):Int)∧((G.M.cells.length:Nat):Int)≤1048576 - O.MA;omega
    ·refine k9.new (k:=k) ?_ (by show((G.M.cells.length:Nat):Int)+k=_;rw[h.len];omega)
     unfold MM;rw[l8,List.getElem?_range af];rfl
   have hsame:∀a s,k9 ro a s→¬s.dq v→((G.M.tick wk).grow O.MA).get a=G.M.get a:=λa s hs _=>by
    have:=hs.lt;rw[h.len]at this;rw[xR (M:=G.M.tick wk) hs.1 this,tT]
   have o:G.M.cells.length≤((G.M.tick wk).grow O.MA).cells.length:=by have:=Tf (M:=G.M.tick wk) B;simp only[SD]at this;omega
   split
   ·refine⟨_,{ty:=hty,ext:=n,err:=by simp,got:=hg,live:=λ_=>⟨?_,by rw[hk];simp[bu.kind]⟩,how:=by simp[hk],ajX:=by simp,same:=hsame,tick:= .inr rfl,used:=o}⟩
    exact{hO.imp (m:=MM v O.lg.toNat O.MA.toNat) (iw _)with nx:=by simp,how:=rfl,rg:=λ_=>f.qT,c2:=by simp,l3:=by simp,c4:=λ_=>⟨_,rfl,rfl,rfl,by show(0:Int)≤0;omega,by show(0:Int)< _;have:=h.t1;omega⟩,to:=λ_=>hto}
   ·rename_i u;exact⟨_,{ty:=hty,ext:=n,err:=λ_=>u,got:=hg,live:=by simp,how:=by simp[hk],ajX:=by simp[hk],same:=hsame,tick:= .inr rfl,used:=o}⟩
  ·exact⟨ro,afA h bf hg bf (by simp[hk]) (by simp[hk])⟩
 ·have hw:O.how=0:=by rw[g,e];rfl
  have hk:O.kind=0:=by simp[bu.kind,e]
  obtain⟨c,y,hca,hcb,hc0,C⟩:=hO.c4 e;have f:=hO.rg af;have hto:=hO.to (.inl e);have z:∃r,k9 ro c.spot r∧r.dq v∧(∀x:Int,0≤x∧x<G.ts.length→EO l ro G.ts.length r x)∧(EO l ro G.ts.length r (G.M.get c.spot)→0≤G.M.get c.spot∧G.M.get c.spot<G.ts.length):=by
   unfold Cp.spot;split
   ·rw[hcb];exact⟨_,hto.place _,rfl,λx hx=>hx,λq=>q⟩
   ·rw[hca];exact⟨_,f.place _,rfl,λx hx=>hx,λq=>q⟩
  obtain⟨r,hs1,L,N,A⟩:=z;have hv:=A (h.val _ _ hs1);refine⟨ro,?_⟩;rw[st4 hw e y (hs1.can h.len hc)];split
  ·exact afA h bf hg (λ_=>⟨{hO with nx:=by simp,how:=rfl,rg:=λ_=>f,c2:=by simp,l3:=by simp,c4:=by simp,to:=λ_=>hto},by rw[hk];simp[bu.kind]⟩) (by simp[hk]) bf
  split
  ·rename_i j;have i:(c.next 0).a=c.a∧(c.next 0).b=c.b∧(c.next 0).has=c.has:=by unfold Cp.next;rw[if_pos j];exact⟨rfl,rfl,rfl⟩
   refine JJ h hs1 L (N _ ⟨hc0,C⟩) bf hg (λ_=>⟨?_,by rw[hk];unfold bu.kind;dsimp only;split<;>simp⟩) (by simp[hk]) bf
   exact{hO with nx:=by dsimp only;split<;>omega,how:=by dsimp only;split<;>rfl,rg:=λ_=>f,c2:=λq=>by dsimp only at q;split at q<;>omega,l3:=λq=>by dsimp only at q;split at q<;>omega,c4:=λ_=>⟨_,rfl,by rw[i.1,hca],by rw[i.2.1,hcb],by rw[i.2.2];exact hc0,by rw[i.2.2];exact C⟩,to:=λ_=>hto}
  ·rename_i j;have i:(c.next (G.M.get c.spot)).a=c.a∧(c.next (G.M.get c.spot)).b=c.b∧(c.next (G.M.get c.spot)).has=G.M.get c.spot:=by unfold Cp.next;rw[if_neg j];exact⟨rfl,rfl,rfl⟩
   refine qS h bf hg (λ_=>⟨?_,by rw[hk];simp[bu.kind,e]⟩) (by simp[hk]) bf
   exact{hO with how:=by dsimp only;rw[e];rfl,rg:=λ_=>f,c2:=λq=>by dsimp only at q;omega,c4:=λ_=>⟨_,rfl,by rw[i.1,hca],by rw[i.2.1,hcb],by rw[i.2.2];exact hv.1,by rw[i.2.2];exact hv.2⟩}
 ·have hw:O.how=0:=by rw[g,e];rfl
  have hk:O.kind=0:=by simp[bu.kind,e]
  have hto:=hO.to (.inr e);refine⟨ro,?_⟩;rw[st5 hR hw e];exact JJ h hd.Uw rfl ⟨_,rfl,hto⟩ bf hg (λ_=>⟨{hO with nx:=by simp,how:=rfl,rg:=λ_=>hto,c2:=by simp,l3:=by simp,c4:=by simp,to:=by simp},by rw[hk];simp[bu.kind]⟩) (by simp[hk]) bf
 ·have hw:O.how=0:=by rw[g,e];rfl
  have hk:O.kind=0:=by simp[bu.kind,e]
  have f:=hO.rg af;refine⟨ro,?_⟩;rw[st6 hw e ((f.place _).can h.len hc)];exact JJ h (f.place _) rfl hx bf hg (λ_=>⟨{hO with nx:=by simp,how:=rfl,rg:=λ_=>f,c2:=by simp,l3:=by simp,c4:=by simp,to:=by simp},by rw[hk];simp[bu.kind]⟩) (by simp[hk]) bf
 ·have hw:O.how=0:=by rw[g,e];rfl
  have hk:O.kind=0:=by simp[bu.kind,e]
  refine⟨ro,?_⟩;rw[st7 hR hw e];exact JJ h hd.bot rfl (ahB _) bf hg bf (by simp[hk]) bf
 ·have hw:O.how=0:=by rw[g,e];rfl
  have hk:O.kind=1:=by simp[bu.kind,e]
  refine⟨ro,?_⟩;rw[st8 hR hw e];exact qS h bf hg (λ_=>⟨{hO with b:=hb,nx:=by simp,how:=rfl,rg:=by simp,c2:=by simp,l3:=by simp,c4:=by simp,to:=by simp},by rw[hk];simp[bu.kind]⟩) (by simp[hk]) bf
 ·have hw:O.how=0:=by rw[g,e];rfl
  have hk:O.kind=1:=by simp[bu.kind,e]
  refine⟨ro,?_⟩;rw[st9 hR hw e];exact qS h bf hg (λ_=>⟨{hO with nx:=by simp,how:=rfl,rg:=λ_=>p,c2:=by simp,l3:=by simp,c4:=by simp,to:=by simp},by rw[hk];simp[bu.kind]⟩) (by simp[hk]) bf
 ·have hw:O.how=0:=by rw[g,e];rfl
  have hk:O.kind=1:=by simp[bu.kind,e]
  have f:=hO.rg af;refine⟨ro,?_⟩;rw[aER hR hw e];exact JJ h hd.bot rfl (ahB _) bf hg (λ_=>⟨{hO with nx:=by simp,how:=rfl,rg:=λ_=>f,c2:=by simp,l3:=by simp,c4:=by simp,to:=by simp},by rw[hk];simp[bu.kind]⟩) (by simp[hk]) bf
 ·have hw:O.how=0:=by rw[g,e];rfl
  have hk:O.kind=1:=by simp[bu.kind,e]
  have f:=hO.rg af;refine⟨ro,?_⟩;rw[aES hR hw e];refine qS h bf hg (λ_=>⟨?_,by rw[hk];unfold bu.kind;dsimp only;split<;>simp⟩) (by simp[hk]) bf
  exact{hO with t:=ht,nx:=by dsimp only;split<;>omega,how:=by dsimp only;split<;>rfl,rg:=λ_=>f,c2:=λq=>by dsimp only at q;split at q<;>omega,l3:=λq=>by dsimp only at q;split at q<;>omega,c4:=λq=>by dsimp only at q;split at q<;>omega,to:=λq=>by dsimp only at q;split at q<;>omega}
 ·have hw:O.how=0:=by rw[g,e];rfl
  have hk:O.kind=1:=by simp[bu.kind,e]
  have f:=hO.rg af;have hv:=h.val _ _ (f.place (wr (O.b - 1)));refine⟨ro,?_⟩;rw[aET hw e ((f.place _).can h.len hc)];refine qS h (by dsimp only;split<;>simp) hv (λq=>⟨?_,by rw[hk];simp[bu.kind]⟩) (by simp[hk]) (by dsimp only;intro _;split<;>simp)
  exact{hO with got:=hv,nx:=by simp,how:=by dsimp only at q ⊢;split<;>simp_all,rg:=λ_=>f,c2:=by simp,l3:=by simp,c4:=by simp,to:=by simp}
 ·have hw:O.how=0:=by rw[g,e];rfl
  have hk:O.kind=1:=by simp[bu.kind,e]
  refine⟨ro,?_⟩;rw[aEU hR hw e];exact an6 h hd.top rfl (ahB _) bf hg (λ_=>⟨{hO with nx:=by simp,how:=rfl,rg:=by simp,c2:=by simp,l3:=by simp,c4:=by simp,to:=by simp},by rw[hk];simp[bu.kind]⟩) (by simp[hk]) bf
 ·have hw:O.how=0:=by rw[g,e];rfl
  have hk:O.kind=1:=by simp[bu.kind,e]
  refine⟨ro,?_⟩;rw[aEV hR hw e];exact JJ h hd.bot rfl hO.b (by dsimp only;split<;>simp) hg (λq=>by dsimp only at q;split at q<;>simp at q) (by simp[hk]) (by dsimp only;intro _;split<;>simp[hk])
 ·have hw:O.how=0:=by rw[g,e];rfl
  have hk:O.kind=2:=by simp[bu.kind,e]
  refine⟨ro,?_⟩;rw[aEW hR hw e];exact qS h bf hg (λ_=>⟨{hO with t:=ht,nx:=by simp,how:=rfl,rg:=by simp,c2:=by simp,l3:=by simp,c4:=by simp,to:=by simp},by rw[hk];simp[bu.kind]⟩) (by simp[e]) bf
 ·have hw:O.how=0:=by rw[g,e];rfl
  have hk:O.kind=2:=by simp[bu.kind,e]
  refine⟨ro,?_⟩;rw[aEX hR hw e];refine qS h (by dsimp only;split<;>simp) hg (λq=>⟨?_,by rw[hk];simp[bu.kind]⟩) (by dsimp only;intro _;split<;>simp[e]) (by simp[hk])
  exact{hO with b:=hb,nx:=by simp,how:=by dsimp only at q ⊢;split<;>simp_all,rg:=by simp,c2:=by simp,l3:=by simp,c4:=by simp,to:=by simp}
 ·have hw:O.how=0:=by rw[g,e];rfl
  have hk:O.kind=2:=by simp[bu.kind,e]
  refine⟨ro,?_⟩;rw[aEY hR hw e];exact qS h bf hg (λ_=>⟨{hO with nx:=by simp,how:=rfl,rg:=λ_=>p,c2:=by simp,l3:=by simp,c4:=by simp,to:=by simp},by rw[hk];simp[bu.kind]⟩) (by simp[e]) bf
 ·have hw:O.how=0:=by rw[g,e];rfl
  have hk:O.kind=2:=by simp[bu.kind,e]
  have f:=hO.rg af;have hv:=h.val _ _ (f.place O.t);refine⟨ro,?_⟩;rw[aEZ hw e ((f.place _).can h.len hc)];exact qS h bf hv (λ_=>⟨{hO with got:=hv,nx:=by simp,how:=rfl,rg:=λ_=>f,c2:=by simp,l3:=by simp,c4:=by simp,to:=by simp},by rw[hk];simp[bu.kind]⟩) (by simp[e]) (by simp[hk])
 ·have hw:O.how=2:=by rw[g,e];rfl
  have hk:O.kind=2:=by simp[bu.kind,e]
  refine⟨ro,?_⟩;rw[stK hR hw e];refine an6 h hd.top rfl (ahB _) (by dsimp only;split<;>simp) hg (λq=>by dsimp only at q;split at q<;>simp at q) (by dsimp only;intro _;split<;>simp[e]) (by simp[hk])
end
def Gl.K(G:Gl)(x:Nat):Int:=G.M.get (G.tk x).jI
def Gl.V(G:Gl)(x:Nat):Int:=G.M.get ((G.tk x).jI+1)
inductive O8 (C:List Nd):Int→Int→Prop
 |refl {s:Int}:0≤s→s<C.length→O8 C s s
 |up {s a:Int} {x:Nd}:nZ C s=some x→O8 C x.parent a→O8 C s a
def Wb(G:Gl)(s:Int):Prop:=∃x,nZ G.C s=some x∧G.M.get x.at_≠0
def SE(G:Gl)(t:Tk):Prop:=∃a,O8 G.C t.l7 a∧Wb G a
abbrev Ip(P:List dB)(t:Tk):Int:=(bz P t.f).getD 0 0
abbrev hand(P:List dB)(t:Tk):Int:=t.f.getD (10+(G6 (bz P t.f)).toNat) 0
structure BT (P:List dB) (n:Nat) (t:Tk):Prop where
 fi:FI P (λy=>0≤y∧y<n) t.f t.cJ.length
 kind:t.kind=0
structure Ends (t:Tk):Prop where
 k2:2≤t.kind
 k4:t.kind≤4
structure OJ (P:List dB) (n:Nat) (t:Tk):Prop where
 fi:FI P (λy=>0≤y∧y<n) t.f 1
 cJ:t.cJ=[]
 cl:t.gL=ByteArray.mk #[]
 sc:t.scopes=[t.own]
 kind:t.kind=0
 st:t.f.getD 18 0=0
def rq(P:List dB)(n:Nat)(t:Tk):Kn→Prop
 | .m .next=>BT P n t
 | .aw y=>BT P n t∧(Ip P t=9∨Ip P t=10)∧hand P t=(y:Nat)∧y<n
 | .sh (.c .Co)=>BT P n t∧Ip P t=12
 | .sh (.c .qI)=>Ends t∧t.cJ≠ []
 |_=>False
def EP(P:List dB)(G:Gl)(s:List Nat)(k:Kn):Prop:=match s with
 |[]=>k= .m .rest
 |x::_=>rq P G.ts.length (G.tk x) k
def KU(P:List dB)(G:Gl):List Nat→List Kn→Prop
 |[],[]=>True
 |x::s,k::b=>x<G.ts.length∧EP P G s k∧KU P G s b
 |_,_=>False
structure rC (P:List dB) (G:Gl) (W:Wk):Prop where
 ne:W.stack≠ []
 hm:rq P G.ts.length (G.tk (W.stack.headD 0)) W.again
 tg:match W.again with
  | .aw y=>W.target=some y
  | .sh k=>W.target=none∧W.qc=k
  |_=>False
def zk:Kn→Bool| .aw _=>true|_=>false
def SF:Kn→Bool| .sh _=>true|_=>false
structure Dx (l:Lc) (P:List dB) (G:Gl) (W:Wk):Prop where
 how:W.wait.how=1
 left:∀j∈W.left,0≤j∧j<l.wa.length∧j≠W.id
 what:(W.stack=[]∧W.fits= .any∧W.got= .c .S8∧W.none_= .m .y5)∨(rC P G W∧W.fits= .hl ((W.stack.headD 0:Nat):Int) W.target∧W.got= .m .BQ∧W.none_= .m .nothing)
def SpT(o:jH):Prop:=o.next≤6∧o.self<16∧(o.next=6→0≤o.on∧o.on<65536)
def cD(l:Lc)(P:List dB)(bw:List Int)(ro:List Ro)(G:Gl)(W:Wk):Prop:=
 let x:=W.stack.headD 0
 let t:=G.tk x
 let n:=G.ts.length
 let i:=W.id.toNat
 let own:=fun(O:bu) (k:Nat)=>Cb l ro n i W.dq O∧O.kind=k
 let thf:=fun(O:bu)=> ∃u,u<l.wa.length∧u≠i∧Cb l ro n u (bw.getD u 0) O∧O.kind=2
 let top:=W.stack≠ []
 match W.cT with
 | .m .rest=>W.stack=[]
 | .m .pF=> ∃O,W.op=some O∧(match W.after with
  | .c .F9=>W.stack=[]∧W.wait.how=1∧own O 1
  | .c .um=>top∧BT P n t∧(0≤W.jq∧W.jq<n)∧own O 0
  | .c .td=>rC P G W∧(zk W.again=true→W.dK= .m .vQ∧W.wait.how=1)∧(SF W.again=true→W.dK= .c .Db)∧own O 1
  | .m .Uv=>Dx l P G W∧thf O∧O.next≤18
  | .m .AL=>Dx l P G W∧thf O∧O.next=19
  |_=>False)
 | .m .looking=> ∃k,W.look=some k∧k.done=false∧(0≤k.at_∧k.at_<G.C.length)∧O8 G.C t.l7 k.at_∧top∧(match W.seen with
  | .nx i=>BT P n t∧i=bz P t.f
  | .c .th=>rC P G W∧zk W.again=true∧W.wait.how=1
  | .c .xp=>BT P n t
  |_=>False)
 | .m .tell=>EP P G W.stack W.said
 | .m .others=>Dx l P G {W with left:=[]}
 | .m .xn=>W.stack=[]∧W.wait.how=1∧∃o,W.step=some o∧SpT o
 | .m .So=>W.stack=[]∧W.wait.how=1
 | .m .JA=>W.stack=[]
 | .m .tE=>(0≤W.jq∧W.jq<n)∧EP P G W.stack W.home
 | .m .start=>(0≤W.jq∧W.jq<n)∧EP P G W.stack W.home∧OJ P n (G.tk W.jq.toNat)
 | .m .next=>top∧BT P n t
 | .m .fork=>top∧BT P n t∧Ip P t=8
 | .m .xo=>top∧BT P n t∧Ip P t=8∧(0≤W.own∧W.own<G.C.length)
 | .m .tF=>top∧BT P n t∧(0≤W.jq∧W.jq<n)
 | .m .join=>top∧BT P n t∧(Ip P t=9∨Ip P t=10)
 | .m .cJ=>top∧BT P n t∧Ip P t=11
 | .m .opens=>top∧BT P n t∧Ip P t=11
 | .m .close=>top∧BT P n t∧Ip P t=12
 | .m .gL=>top∧BT P n t∧Ip P t=12
 | .m .cancel=>top∧BT P n t∧Ip P t=13
 | .m .pass=>top∧BT P n t∧Ip P t=14
 | .m .leave=>top∧BT P n t∧(Ip P t=15∨Ip P t=16)
 | .m .put=>top∧Ends t∧t.cJ=[]
 | .m .fin=>top∧Ends t∧t.cJ=[]
 | .m .asks=>top∧Ends t∧t.cJ=[]
 | .m .gone=>top∧Ends t∧t.cJ=[]
 | .m .asked=>rC P G W∧zk W.again=true∧W.wait.how=1
 | .m .joined=>rC P G W∧zk W.again=true∧W.kind=G.K (W.target.getD 0)∧2≤W.kind
 | .m .ul=>rC P G W∧(zk W.again=true→W.dK= .m .vQ∧W.wait.how=1)∧(SF W.again=true→W.dK= .c .Db)
 | .m .rp=>rC P G W∧SF W.again=true
 | .m .sx=>rC P G W∧SF W.again=true∧W.wait.how=1
 | .m .register=>rC P G W∧zk W.again=true
 | .m .block=>rC P G W∧∃o,W.step=some o∧SpT o
 | .m .Io=>rC P G W
 | .m .stops=>rC P G W∧(W.blocked=true→∀o,W.step=some o→SpT o)∧(match W.pG with
  | .m .cancelled=>zk W.again=true∧SE G t
  | .V2 y k=>y<n∧k=W.again
  | .BR y k=>(0≤y∧y<n)∧k=W.again
  | .c .IF=>zk W.again=true∧W.kind=G.K (W.target.getD 0)∧2≤W.kind
  | .c .Co=>W.again= .sh (.c .Co)
  | .c .qI=>W.again= .sh (.c .qI)
  |_=>False)
 | .aw y=>top∧rq P n t (.aw y)
 | .sh k=>top∧rq P n t (.sh k)
 |_=>False
def Wk.waits(W:Wk):Bool:=match W.cT with
 | .m .pF=>(match W.after with| .c .td=>true| .m .Uv=>decide (W.none_= .m .nothing)| .m .AL=>decide (W.none_= .m .nothing)|_=>false)
 | .m .looking=>(match W.seen with| .c .th=>true|_=>false)
 | .m .others=>decide (W.none_= .m .nothing)
 | .m .asked=>true
 | .m .ul=>true
 | .m .rp=>true
 | .m .sx=>true
 | .m .register=>true
 | .m .block=>true
 | .m .Io=>true
 | .m .stops=>true
 | .aw _=>true
 | .sh _=>true
 |_=>false
structure EQ (W:Wk):Prop where
 no:W.waits=false→W.bO=false∧W.blocked=false
 SG:W.bO=true→zk W.again=true
 ag:W.bO=true∨W.blocked=true→(zk W.cT=true∨SF W.cT=true)→W.again=W.cT
def Wk.hold(W:Wk):List Nat:=(if W.cT= .m .start then [W.jq.toNat]else [])++W.stack
structure WT (l:Lc) (P:List dB) (bw:List Int) (ro:List Ro) (G:Gl) (i:Nat) (W:Wk):Prop where
 id:W.id=i
 lt:i<l.wa.length
 dq:W.dq=bw.getD i 0
 bk:KU P G W.stack W.back
 dp:(W.stack.length:Int)≤l.deep
 hl:∀x∈W.hold,x<G.ts.length
 ct:G.err=0→cD l P bw ro G W
 fl:G.err=0→EQ W
 run:∀x∈W.hold,G.K x=1∨(2≤G.K x∧W.stack.head?=some x∧(W.cT= .m .asks∨W.cT= .m .gone))
 nd:W.hold.Nodup
structure uN (ro iT:List Ro) (G G':Gl) (hold:List Nat):Prop where
 ext:∃m,iT=ro++m
 n:G.ts.length≤G'.ts.length
 ts:∀x,x<G.ts.length→x ∉ hold→G'.ts[x]?=G.ts[x]?
 ids:∀x,x<G.ts.length→(G'.tk x).l7=(G.tk x).l7∧(G'.tk x).own=(G.tk x).own∧(G'.tk x).jI=(G.tk x).jI
 C:∃m,G'.C=G.C++m
 K0:∀x,x<G.ts.length→G'.K x=0→G.K x=0
 K1:∀x,x<G.ts.length→x ∉ hold→1≤G.K x→G'.K x=G.K x∧G'.V x=G.V x
 K2:∀x,x<G.ts.length→2≤G.K x→G'.K x=G.K x∧G'.V x=G.V x
 ask:∀s,Wb G s→Wb G' s
section
variable{l:Lc}{P:List dB}{bw:List Int}{ro iT ro2:List Ro}{G G' G2:Gl}{hold:List Nat}{W:Wk}{t:Tk}{n n' i:Nat}{k:Kn}
def O8.qT{m:List Nd}(h:O8 G.C s a)(hC:G'.C=G.C++m):O8 G'.C s a:=by
 rw[hC];induction h with
 |refl h0 h1=>exact .refl h0 (by simp;omega)
 |up h0 _ ih=>
  refine .up ?_ ih;obtain⟨_,h1,h2⟩:=rM h0;unfold nZ;rw[if_pos h1,tJ (kB.1 h2).1,h2]
def uN.tk(h:uN ro iT G G' hold){x:Nat}(hx:x<G.ts.length)(hn:x ∉ hold):G'.tk x=G.tk x:=by
 unfold Gl.tk;rw[h.ts x hx hn]
def BT.imp(h:BT P n t)(hn:n≤n'):BT P n' t:=⟨h.fi.imp λy hy=>⟨hy.1,af⟩,h.kind⟩
def OJ.imp(h:OJ P n t)(hn:n≤n'):OJ P n' t:={h with fi:=h.fi.imp λy hy=>⟨hy.1,af⟩}
def rq.imp(h:rq P n t k)(hn:n≤n'):rq P n' t k:=by
 unfold rq at h ⊢;split at h
 ·exact h.imp hn
 ·exact⟨h.1.imp hn,h.2.1,h.2.2.1,af⟩
 ·exact⟨h.1.imp hn,h.2⟩
 ·exact h
 ·exact h.elim
def SE.imp(h:SE G t)(he:uN ro iT G G' hold)(ht:∃x,x<G.ts.length∧G.tk x=t):SE G' t:=by
 obtain⟨b,h1,h2⟩:=h;obtain⟨m,hm⟩:=he.C;exact⟨b,h1.qT hm,he.ask b h2⟩
def EP.imp{st:List Nat}(h:EP P G st k)(he:uN ro iT G G' hold)(hs:∀x∈st,x<G.ts.length∧x ∉ hold):EP P G' st k:=by
 cases st with
 |nil=>exact h
 |cons x st=>
  have h:rq P G.ts.length (G.tk x) k:=h;have hx:=hs x bf;show rq P G'.ts.length (G'.tk x) k;rw[he.tk hx.1 hx.2];exact h.imp he.n
def KU.imp(he:uN ro iT G G' hold):∀{st:List Nat} {b:List Kn},KU P G st b→(∀x∈st,x<G.ts.length∧x ∉ hold)→KU P G' st b
 |[],[],_,_=>trivial
 |[],_::_,h,_=>h.elim
 |_::_,[],h,_=>h.elim
 |x::st,k::b,⟨h1,h2,h3⟩,hs=>⟨by have:=he.n;omega,h2.imp he λy hy=>hs y (by simp[hy]),KU.imp he h3 λy hy=>hs y (by simp[hy])⟩
def rC.imp(h:rC P G W)(he:uN ro iT G G' hold)(hs:∀x∈W.stack,x<G.ts.length∧x ∉ hold):rC P G' W:=by
 obtain⟨h1,h2,h3⟩:=h;refine⟨h1,?_,h3⟩;obtain⟨x,st,e⟩:=List.exists_cons_of_ne_nil h1;rw[e]at h2 ⊢;have hx:=hs x (by rw[e];simp)
 show rq P G'.ts.length (G'.tk x) W.again;rw[he.tk hx.1 hx.2];exact rq.imp h2 he.n
def Dx.imp(h:Dx l P G W)(he:uN ro iT G G' hold)(hs:∀x∈W.stack,x<G.ts.length∧x ∉ hold):Dx l P G' W:=
 ⟨h.how,h.left,h.what.imp id λq=>⟨q.1.imp he hs,q.2⟩⟩
def cD.imp(h:cD l P bw ro G W)(he:uN ro iT G G' hold)(hs:∀x∈W.hold,x<G.ts.length∧x ∉ hold):cD l P bw iT G' W:=by
 have hst:∀x∈W.stack,x<G.ts.length∧x ∉ hold:=λx hx=>hs x (by unfold Wk.hold;simp[hx])
 have c:W.stack≠ []→G'.tk (W.stack.headD 0)=G.tk (W.stack.headD 0)∧W.stack.headD 0<G.ts.length:=λhne=>by
  obtain⟨x,st,e⟩:=List.exists_cons_of_ne_nil hne;have hx:=hst x (by rw[e];simp)
  rw[e];exact⟨he.tk hx.1 hx.2,hx.1⟩
 have hn:=he.n;obtain⟨m,hm⟩:=he.ext;obtain⟨v,hC⟩:=he.C;have s:G.C.length≤G'.C.length:=by rw[hC];simp
 have g:=fun(q:rC P G W)=>q.imp he hst;have j:=fun(q:Dx l P G W)=>q.imp he hst;have i:∀{u:Nat} {d:Int} {O:bu},Cb l ro G.ts.length u d O→Cb l iT G'.ts.length u d O:=λq=>by rw[hm];exact q.imp hn
 have o:∀{y:Nat},y<G.ts.length→2≤G.K y→G'.K y=G.K y:=λh1 h2=>(he.K2 _ h1 h2).1;have p:rC P G W→zk W.again=true→W.target.getD 0<G.ts.length:=λq r=>by
  obtain⟨h1,h2,h3⟩:=q;revert h2 h3 r;cases W.again<;>intro r h2 h3<;>first|exact h3.elim|cases r|skip
  rename_i y;rw[h3];exact h2.2.2.2
 have f:W.stack≠ []→BT P G.ts.length (G.tk (W.stack.headD 0))→BT P G'.ts.length (G'.tk (W.stack.headD 0)):=λa b=>by rw[(c a).1];exact b.imp hn
 unfold cD at h ⊢;dsimp only at h ⊢;split at h
 ·exact h
 ·obtain⟨O,h1,h2⟩:=h;refine⟨O,h1,?_⟩;split at h2
  ·exact⟨h2.1,h2.2.1,i h2.2.2.1,h2.2.2.2⟩
  ·exact⟨h2.1,f h2.1 h2.2.1,⟨h2.2.2.1.1,by have:=h2.2.2.1.2;omega⟩,i h2.2.2.2.1,h2.2.2.2.2⟩
  ·exact⟨g h2.1,h2.2.1,h2.2.2.1,i h2.2.2.2.1,h2.2.2.2.2⟩
  ·obtain⟨a1,⟨u,b1,b2,b3,b4⟩,a3⟩:=h2;exact⟨j a1,⟨u,b1,b2,i b3,b4⟩,a3⟩
  ·obtain⟨a1,⟨u,b1,b2,b3,b4⟩,a3⟩:=h2;exact⟨j a1,⟨u,b1,b2,i b3,b4⟩,a3⟩
  ·exact h2.elim
 ·obtain⟨k,h1,h2,h3,h4,h5,h6⟩:=h;refine⟨k,h1,h2,⟨h3.1,af⟩,?_,h5,?_⟩
  ·rw[(c h5).1];exact h4.qT hC
  ·split at h6
   ·exact⟨f h5 h6.1,by rw[(c h5).1];exact h6.2⟩
   ·exact⟨g h6.1,h6.2⟩
   ·exact f h5 h6
   ·exact h6.elim
 ·exact EP.imp h he hst
 ·exact Dx.imp h he hst
 ·exact h
 ·exact h
 ·exact h
 ·exact⟨⟨h.1.1,by have:=h.1.2;omega⟩,h.2.imp he hst⟩
 ·rename_i t;have hc:=hs W.jq.toNat (by unfold Wk.hold;rw[if_pos t];simp)
  exact⟨⟨h.1.1,by have:=h.1.2;omega⟩,h.2.1.imp he hst,by rw[he.tk hc.1 hc.2];exact h.2.2.imp hn⟩
 ·exact⟨h.1,f h.1 h.2⟩
 ·exact⟨h.1,f h.1 h.2.1,by rw[(c h.1).1];exact h.2.2⟩
 ·exact⟨h.1,f h.1 h.2.1,by rw[(c h.1).1];exact h.2.2.1,⟨h.2.2.2.1,by have:=h.2.2.2.2;omega⟩⟩
 ·exact⟨h.1,f h.1 h.2.1,⟨h.2.2.1,by have:=h.2.2.2;omega⟩⟩
 ·exact⟨h.1,f h.1 h.2.1,by rw[(c h.1).1];exact h.2.2⟩
 ·exact⟨h.1,f h.1 h.2.1,by rw[(c h.1).1];exact h.2.2⟩
 ·exact⟨h.1,f h.1 h.2.1,by rw[(c h.1).1];exact h.2.2⟩
 ·exact⟨h.1,f h.1 h.2.1,by rw[(c h.1).1];exact h.2.2⟩
 ·exact⟨h.1,f h.1 h.2.1,by rw[(c h.1).1];exact h.2.2⟩
 ·exact⟨h.1,f h.1 h.2.1,by rw[(c h.1).1];exact h.2.2⟩
 ·exact⟨h.1,f h.1 h.2.1,by rw[(c h.1).1];exact h.2.2⟩
 ·exact⟨h.1,f h.1 h.2.1,by rw[(c h.1).1];exact h.2.2⟩
 ·exact⟨h.1,by rw[(c h.1).1];exact h.2⟩
 ·exact⟨h.1,by rw[(c h.1).1];exact h.2⟩
 ·exact⟨h.1,by rw[(c h.1).1];exact h.2⟩
 ·exact⟨h.1,by rw[(c h.1).1];exact h.2⟩
 ·exact⟨g h.1,h.2⟩
 ·exact⟨g h.1,h.2.1,by rw[o (p h.1 h.2.1) (by rw[←h.2.2.1];exact h.2.2.2)];exact h.2.2.1,h.2.2.2⟩
 ·exact⟨g h.1,h.2⟩
 ·exact⟨g h.1,h.2⟩
 ·exact⟨g h.1,h.2⟩
 ·exact⟨g h.1,h.2⟩
 ·exact⟨g h.1,h.2⟩
 ·exact g h
 ·refine⟨g h.1,h.2.1,?_⟩;have h3:=h.2.2;split at h3
  ·refine⟨h3.1,?_⟩;have ht:=c h.1.ne;rw[ht.1];exact h3.2.imp he ⟨_,ht.2,rfl⟩
  ·exact⟨by have:=h3.1;omega,h3.2⟩
  ·exact⟨⟨h3.1.1,by have:=h3.1.2;omega⟩,h3.2⟩
  ·exact⟨h3.1,by rw[o (p h.1 h3.1) (by rw[←h3.2.1];exact h3.2.2)];exact h3.2.1,h3.2.2⟩
  ·exact h3
  ·exact h3
  ·exact h3.elim
 ·exact⟨h.1,by rw[(c h.1).1];exact rq.imp h.2 hn⟩
 ·exact⟨h.1,by rw[(c h.1).1];exact rq.imp h.2 hn⟩
 ·exact h.elim
def WT.imp(h:WT l P bw ro G i W)(he:uN ro iT G G' hold)(hs:∀x∈W.hold,x ∉ hold)(a:G'.err=0→G.err=0):WT l P bw iT G' i W:=by
 have hst:∀x∈W.stack,x<G.ts.length∧x ∉ hold:=λx hx=>⟨h.hl x (by unfold Wk.hold;simp[hx]),hs x (by unfold Wk.hold;simp[hx])⟩
 refine⟨h.id,h.lt,h.dq,h.bk.imp he hst,h.dp,λx hx=>by have:=h.hl x hx;have:=he.n;omega,λe=>(h.ct (a e)).imp he λx hx=>⟨h.hl x hx,hs x hx⟩,λe=>h.fl (a e),λx hx=> ?_,h.nd⟩
 have h1:=h.run x hx;have h2:=(he.K1 x (h.hl x hx) (hs x hx) (by rcases h1 with q|q<;>omega)).1
 rw[h2];exact h1
def uN.trans(h:uN ro iT G G' hold)(k:uN iT ro2 G' G2 hold)(hn:G'.ts.length=G.ts.length∨∀x,x∈hold→x<G.ts.length):uN ro ro2 G G2 hold:=by
 have h1:=h.n;have h2:=k.n;refine⟨?_,af,λx hx hn=>by rw[k.ts x af hn,h.ts x hx hn],λx hx=> ?_,?_,λx hx q=>h.K0 x hx (k.K0 x af q),λx hx hn q=> ?_,λx hx q=> ?_,λs q=>k.ask s (h.ask s q)⟩
 ·obtain⟨m,e⟩:=h.ext;obtain⟨m2,e2⟩:=k.ext;exact⟨m++m2,by rw[e2,e,List.append_assoc]⟩
 ·have a:=h.ids x hx;have b:=k.ids x af;rw[b.1,b.2.1,b.2.2];exact a
 ·obtain⟨m,e⟩:=h.C;obtain⟨m2,e2⟩:=k.C;exact⟨m++m2,by rw[e2,e,List.append_assoc]⟩
 ·have a:=h.K1 x hx hn q;have b:=k.K1 x af hn (by rw[a.1];exact q)
  exact⟨by rw[b.1,a.1],by rw[b.2,a.2]⟩
 ·have a:=h.K2 x hx q;have b:=k.K2 x af (by rw[a.1];exact q)
  exact⟨by rw[b.1,a.1],by rw[b.2,a.2]⟩
end
def Ro.JS:Ro→Prop
 | .fk _=>True
 | .fv _=>True
 | .ask _=>True
 |_=>False
variable{mc:List Nd}{y:Int}{st:List Nat}{b:List Kn}{r:SW}
section
variable{l:Lc}{P:List dB}{bw:List Int}{ro iT:List Ro}{G G':Gl}{hold:List Nat}{W W':Wk}{t t':Tk}{n i x:Nat}{r:Ro}
def JL(h:Ty l ro G){nd:Nd}(hs:nZ G.C s=some nd):k9 ro nd.at_ (.ask s.toNat):=(h.sc _ _ (rM hs).2.2).a
def adx(h:Ty l ro G)(hx:iT=ro++m){mt:List Tk}(hts:G'.ts=G.ts++mt)(hC:G'.C=G.C++mc)(hg:∀a r,k9 ro a r→r.JS→G'.M.get a=G.M.get a):uN ro iT G G' hold:=by
 have b:∀x,x<G.ts.length→G'.tk x=G.tk x:=λx hx=>by unfold Gl.tk;rw[hts,tJ hx]
 have hK:∀x,x<G.ts.length→G'.K x=G.K x∧G'.V x=G.V x:=λx hx=>by
  have ht:=h.qh hx;unfold Gl.K Gl.V;rw[b x hx,hg _ _ ht.k trivial,hg _ _ ht.v trivial];exact⟨rfl,rfl⟩
 refine⟨⟨m,hx⟩,by rw[hts];simp,λx hx _=>by rw[hts,tJ hx],λx hx=>by rw[b x hx];exact⟨rfl,rfl,rfl⟩,⟨mc,hC⟩,λx hx q=>by rw[←(hK x hx).1];exact q,λx hx _ _=>hK x hx,λx hx _=>hK x hx,λs ⟨nd,h1,h2⟩=> ?_⟩
 refine⟨nd,?_,by rw[hg _ _ (JL h h1) trivial];exact h2⟩
 obtain⟨_,h3,h4⟩:=rM h1;unfold nZ;rw[if_pos h3,hC,tJ (kB.1 h4).1,h4]
def ady(h:Ty l ro G)(hg:∀a r,k9 ro a r→r.JS→M.get a=G.M.get a):uN ro ro G (G.mem M) hold:=adx (m:=[]) (mt:=[]) (mc:=[]) h bf (by simp[Gl.mem]) (by simp[Gl.mem]) hg
def afB(h:Ty l ro G):uN ro ro G (G.tick wk) hold:=ady h λ_ _ _ _=>rfl
def xK(h:Ty l ro G)(c:M.cells=G.M.cells)(hL:k9 ro a r)(hr:¬r.JS):∀b s,k9 ro b s→s.JS→(M.put a v).get b=G.M.get b:=λb s hb hs=>by
 have hne:b≠a:=hb.ne hL (by rintro rfl;exact hr hs)
 rw[SC hL.1 hb.1 hne];unfold bJ.get;rw[c]
def ahD(h:Ty l ro G)(hL:k9 ro a r)(hr:¬r.JS):uN ro ro G (G.mem (G.M.ad wk a y)) hold:=ady h (xK h rfl hL hr)
def ay8(hx:x<G.ts.length):(G.set x t').tk x=t':=by unfold Gl.tk Gl.set;dsimp only;rw[uO hx];rfl
def an7{y:Nat}(hn:y≠x):(G.set x t').tk y=G.tk y:=by unfold Gl.tk Gl.set;dsimp only;rw[r0 (Ne.symm hn)]
def avN:(G.set x t').ts.length=G.ts.length:=by unfold Gl.set;simp
def adz(hx:x∈hold)(hl:x<G.ts.length)(h1:t'.l7=(G.tk x).l7)(h2:t'.own=(G.tk x).own)(h3:t'.jI=(G.tk x).jI):uN ro ro G (G.set x t') hold:=by
 have ids:∀y,y<G.ts.length→((G.set x t').tk y).l7=(G.tk y).l7∧((G.set x t').tk y).own=(G.tk y).own∧((G.set x t').tk y).jI=(G.tk y).jI:=λy hy=>by
  by_cases e:y=x
  ·subst e;rw[ay8 hl];exact⟨h1,h2,h3⟩
  ·rw[an7 e];exact⟨rfl,rfl,rfl⟩
 have hK:∀y,y<G.ts.length→(G.set x t').K y=G.K y∧(G.set x t').V y=G.V y:=λy hy=>by unfold Gl.K Gl.V;rw[(ids y hy).2.2];exact⟨rfl,rfl⟩
 refine⟨⟨[],bf⟩,by rw[avN];exact iw _,λy hy hn=> ?_,ids,⟨[],by simp[Gl.set]⟩,λy hy q=>by rw[←(hK y hy).1];exact q,λy hy _ _=>hK y hy,λy hy _=>hK y hy,λs q=>q⟩
 have e:y≠x:=λe=>hn (e▸hx);unfold Gl.set;dsimp only;rw[r0 (Ne.symm e)]
structure Cx (l:Lc) (P:List dB) (bw:List Int) (ro:List Ro) (G:Gl) (i:Nat) (W:Wk):Prop where
 lc:afx l
 lg:0≤l.log∧l.log≤8
 acc:oW P
 ty:Ty l ro G
 wt:WT l P bw ro G i W
 dq:∀v,v<l.wa.length→ZH ro v (bw.getD v 0)
 err:G.err=0
structure rV (l:Lc) (P:List dB) (bw:List Int) (ro iT:List Ro) (G:Gl) (i:Nat) (W:Wk) (r:SW):Prop where
 ty:Ty l iT r.1
 Cd:uN ro iT G r.1 W.hold
 wt:WT l P bw iT r.1 i r.2
 hd:∀x∈r.2.hold,x∈W.hold∨(x<G.ts.length∧G.K x=0)
 fr:∀x,G.ts.length≤x→x<r.1.ts.length→OJ P r.1.ts.length (r.1.tk x)
def Cx.caller(c:Cx l P bw ro G i W):G.M.caller W.id=true:=Ga c.ty.stp (by rw[c.wt.id];omega) (by rw[c.wt.id];have:=c.wt.lt;omega)
def Cx.ct(c:Cx l P bw ro G i W):cD l P bw ro G W:=c.wt.ct c.err
def Cx.fl(c:Cx l P bw ro G i W):EQ W:=c.wt.fl c.err
def Cx.can(c:Cx l P bw ro G i W)(h:k9 ro a r):G.M.can W.id a=true:=h.can c.ty.len c.caller
def Cx.own(c:Cx l P bw ro G i W):ZH ro i W.dq:=by rw[c.wt.dq];exact c.dq i c.wt.lt
def Cx.idn(c:Cx l P bw ro G i W):W.id.toNat=i:=by rw[c.wt.id];simp
def Cx.top(c:Cx l P bw ro G i W)(h:W.stack≠ []):G7 G W (W.stack.headD 0) (G.tk (W.stack.headD 0))∧W.stack.headD 0<G.ts.length:=by
 obtain⟨x,st,e⟩:=List.exists_cons_of_ne_nil h;have hx:x<G.ts.length:=c.wt.hl x (by unfold Wk.hold;rw[e];simp)
 rw[e];exact⟨⟨by rw[e];rfl,G.xw hx⟩,hx⟩
def kL(h:W.cT≠ .m .start):W.hold=W.stack:=by unfold Wk.hold;rw[if_neg h];rfl
def adA(e:G'.ts=G.ts):KU P G st b→KU P G' st b:=by
 intro h;have hm:∀st k,EP P G st k→EP P G' st k:=λst k q=>by
  cases st with
  |nil=>exact q
  |cons y st=>show rq P G'.ts.length (G'.tk y) k;unfold Gl.tk;rw[e];exact q
 induction st generalizing b with
 |nil=>cases b<;>first|trivial|exact h.elim
 |cons y st ih=>
  cases b with
  |nil=>exact h.elim
  |cons k b=>exact⟨by rw[e];exact h.1,hm _ _ h.2.1,ih h.2.2⟩
def avO(hn:G.ts.length≤G'.ts.length)(e:∀y∈st,G'.tk y=G.tk y):KU P G st b→KU P G' st b:=by
 intro h;induction st generalizing b with
 |nil=>cases b<;>first|trivial|exact h.elim
 |cons y st ih=>
  cases b with
  |nil=>exact h.elim
  |cons k b=>
   refine⟨by have:=h.1;omega,?_,ih (λz hz=>e z (by simp[hz])) h.2.2⟩
   have h2:=h.2.1;cases st with
   |nil=>exact h2
   |cons z st=>
    have h2:rq P G.ts.length (G.tk z) k:=h2;show rq P G'.ts.length (G'.tk z) k;rw[e z bf];exact rq.imp h2 hn
def ay9{y:Nat}(hn:G.ts.length≤G'.ts.length)(e:∀z∈st,G'.tk z=G.tk z):KU P G (y::st) b→KU P G' (y::st) b:=by
 intro h;cases b with
 |nil=>exact h.elim
 |cons k b=>
  refine⟨by have:=h.1;omega,?_,avO hn e h.2.2⟩
  have h2:=h.2.1;cases st with
  |nil=>exact h2
  |cons z st=>
   have h2:rq P G.ts.length (G.tk z) k:=h2;show rq P G'.ts.length (G'.tk z) k;rw[e z bf];exact rq.imp h2 hn
def afC{r:SW}(c:Cx l P bw ro G i W)(ty:Ty l iT r.1)(Cd:uN ro iT G r.1 W.hold)(hst:r.2.stack=W.stack)(hbk:r.2.back=W.back)(f:r.2.id=W.id)(g:r.2.dq=W.dq)
  (d:W.cT≠ .m .start∧W.cT≠ .m .asks∧W.cT≠ .m .gone) (j:r.2.cT≠ .m .start) (a:∀y∈W.stack.tail,r.1.tk y=G.tk y) (hK:∀y∈W.stack,r.1.K y=G.K y)
  (ct:r.1.err=0→cD l P bw iT r.1 r.2) (fl:r.1.err=0→EQ r.2) (fr:∀x,G.ts.length≤x→x<r.1.ts.length→OJ P r.1.ts.length (r.1.tk x)):rV l P bw ro iT G i W r:=by
 have e1:=kL d.1;have e2:r.2.hold=W.hold:=by rw[kL j,hst,e1]
 refine⟨ty,Cd,⟨by rw[f];exact c.wt.id,c.wt.lt,by rw[g];exact c.wt.dq,?_,by rw[hst];exact c.wt.dp,λx hx=> ?_,ct,fl,λx hx=> ?_,by rw[e2];exact c.wt.nd⟩,λx hx=> .inl (by rw[←e2];exact hx),fr⟩
 ·rw[hst,hbk];have hb:=c.wt.bk;cases hs:W.stack with
  |nil=>rw[hs]at hb;cases e:W.back with
   |nil=>trivial
   |cons k b=>rw[e]at hb;exact hb.elim
  |cons y st=>rw[hs]at hb a;exact ay9 Cd.n a hb
 ·have:=c.wt.hl x (by rw[←e2];exact hx);have:=Cd.n;omega
 ·rw[e2]at hx;have h1:=c.wt.run x hx;rw[hK x (by rw[←e1];exact hx)]
  rcases h1 with h1|⟨_,_,h1|h1⟩
  ·exact .inl h1
  ·exact absurd h1 d.2.1
  ·exact absurd h1 d.2.2
def aCm(h:Ty l ro G)(hts:∀y,y<G.ts.length→(G'.tk y).jI=(G.tk y).jI)(hg:∀a r,k9 ro a r→r.JS→G'.M.get a=G.M.get a){y:Nat}(hy:y<G.ts.length):G'.K y=G.K y:=by
 unfold Gl.K;rw[hts y hy,hg _ _ (h.qh hy).k trivial]
def ER{r:SW}(c:Cx l P bw ro G i W)(ty:Ty l iT r.1)(hx:iT=ro++m)(hts:r.1.ts=G.ts)(hC:r.1.C=G.C++mc)(hg:∀a s,k9 ro a s→s.JS→r.1.M.get a=G.M.get a)
  (hst:r.2.stack=W.stack) (hbk:r.2.back=W.back) (e:r.2.id=W.id) (f:r.2.dq=W.dq) (b:W.cT≠ .m .start∧W.cT≠ .m .asks∧W.cT≠ .m .gone) (g:r.2.cT≠ .m .start) (ct:r.1.err=0→cD l P bw iT r.1 r.2) (fl:r.1.err=0→EQ r.2):rV l P bw ro iT G i W r:=by
 have d:∀y,r.1.tk y=G.tk y:=λy=>by unfold Gl.tk;rw[hts]
 refine afC c ty (adx (mt:=[]) c.ty hx (by rw[hts];simp) hC hg) hst hbk e f b g (λy _=>d y) (λy hy=> ?_) ct fl λx h1 h2=>by rw[hts]at h2;omega
 exact aCm c.ty (λz _=>by rw[d z]) hg (c.wt.hl y (by rw[kL b.1];exact hy))
def avP{r:SW}(c:Cx l P bw ro G i W)(hne:W.stack≠ [])(ty:Ty l iT r.1)(hx:iT=ro++m)(hts:r.1.ts=G.ts.set (W.stack.headD 0) t')(hC:r.1.C=G.C++mc)(hg:∀a s,k9 ro a s→s.JS→r.1.M.get a=G.M.get a)
  (h1:t'.l7=(G.tk (W.stack.headD 0)).l7) (h2:t'.own=(G.tk (W.stack.headD 0)).own) (h3:t'.jI=(G.tk (W.stack.headD 0)).jI)
  (hst:r.2.stack=W.stack) (hbk:r.2.back=W.back) (g:r.2.id=W.id) (j:r.2.dq=W.dq) (b:W.cT≠ .m .start∧W.cT≠ .m .asks∧W.cT≠ .m .gone) (n:r.2.cT≠ .m .start) (ct:r.1.err=0→cD l P bw iT r.1 r.2) (fl:r.1.err=0→EQ r.2):rV l P bw ro iT G i W r:=by
 obtain⟨x,st,e⟩:=List.exists_cons_of_ne_nil hne;have hx0:W.stack.headD 0=x:=by rw[e];rfl
 rw[hx0]at hts h1 h2 h3;have hmem:x∈W.hold:=by rw[kL b.1,e];simp
 have hl:=c.wt.hl x hmem;have hnd:=c.wt.nd;rw[kL b.1,e]at hnd;have hlen:r.1.ts.length=G.ts.length:=by rw[hts];simp
 have f:∀y,y≠x→r.1.tk y=G.tk y:=λy hy=>by unfold Gl.tk;rw[hts,r0 (Ne.symm hy)]
 have d:r.1.tk x=t':=by unfold Gl.tk;rw[hts,uO hl];rfl
 have ids:∀y,y<G.ts.length→(r.1.tk y).l7=(G.tk y).l7∧(r.1.tk y).own=(G.tk y).own∧(r.1.tk y).jI=(G.tk y).jI:=λy hy=>by
  by_cases e:y=x
  ·subst e;rw[d];exact⟨h1,h2,h3⟩
  ·rw[f y e];exact⟨rfl,rfl,rfl⟩
 have hK:∀y,y<G.ts.length→r.1.K y=G.K y∧r.1.V y=G.V y:=λy hy=>by
  have ht:=c.ty.qh hy;unfold Gl.K Gl.V;rw[(ids y hy).2.2,hg _ _ ht.k trivial,hg _ _ ht.v trivial];exact⟨rfl,rfl⟩
 refine afC c ty ⟨⟨m,hx⟩,af,λy hy hn=> ?_,ids,⟨mc,hC⟩,λy hy q=>by rw[←(hK y hy).1];exact q,λy hy _ _=>hK y hy,λy hy _=>hK y hy,λs ⟨nd,h1,h2⟩=> ?_⟩ hst hbk g j b n (λy hy=> ?_) (λy hy=> ?_) ct fl λx h1 h2=>by omega
 ·rw[hts,r0 (by rintro rfl;exact hn hmem)]
 ·refine⟨nd,?_,by rw[hg _ _ (JL c.ty h1) trivial];exact h2⟩
  obtain⟨_,h3,h4⟩:=rM h1;unfold nZ;rw[if_pos h3,hC,tJ (kB.1 h4).1,h4]
 ·rw[e]at hy;exact f y (by rintro rfl;exact(List.nodup_cons.1 hnd).1 hy)
 ·exact(hK y (c.wt.hl y (by rw[kL b.1];exact hy))).1
def ahE(c:Cx l P bw ro G i W)(h0:W.waits=false)(h1:W'.bO=W.bO)(h2:W'.blocked=W.blocked):EQ W':=by
 obtain⟨a,b⟩:=c.fl.no h0;rw[a]at h1;rw[b]at h2;exact⟨λ_=>⟨h1,h2⟩,λq=>by rw[h1]at q;(cases q),λq=>by rw[h1,h2]at q;rcases q with q|q<;>(cases q)⟩
def SI(c:Cx l P bw ro G i W)(h1:W'.bO=W.bO)(h2:W'.blocked=W.blocked)(h3:W'.again=W.again)(h4:W'.waits=true)(h5:zk W'.cT=false∧SF W'.cT=false):EQ W':=
 ⟨λq=>by rw[h4]at q;(cases q),λq=>by rw[h3];exact c.fl.SG (by rw[←h1];exact q),λ_ q=>by rw[h5.1,h5.2]at q;rcases q with q|q<;>(cases q)⟩
end
variable{T:List Kt}{t:Kt}
section
variable{l:Lc}{P:List dB}{bw:List Int}{ro iT:List Ro}{G G':Gl}{hold:List Nat}{W W':Wk}{t t':Tk}{n i x:Nat}{r:Ro}
def Yh{u:Nat}{d:Int}{nx:Nat}(hn:1≤n)(hy:0≤y∧y<n)(h:nx=0∨nx=8∨nx=15):Cb l ro n u d (bu.B7 d l.log y nx):=by
 unfold bu.B7;have h0:sy 0:=⟨af,af⟩;exact⟨rfl,rfl,h0,h0,hy,⟨bf,by simp;omega⟩,by dsimp only;omega,by dsimp only;rcases h with h|h|h<;>subst h<;>rfl,λq=>by dsimp only at q;omega,λ_=>rfl,λq=>by dsimp only at q;omega,λq=>by dsimp only at q;omega,λq=>by dsimp only at q;omega⟩
def O8.snoc{C:List Nd}{nd:Nd}(h:O8 C s a)(ha:nZ C a=some nd)(h0:0≤nd.parent)(h1:nd.parent<C.length):O8 C s nd.parent:=by
 induction h with
 |refl _ _=>exact .up ha (.refl h0 h1)
 |up h2 _ ih=>exact .up h2 (ih ha)
def afD{nd:Nd}{pl:Pl}{tm:Int×List (Int×Int)}(h:Ty l ro G)(hr:G.M.room 2=true)(hp:0≤nd.parent∧nd.parent<G.C.length)(hn:0≤nd.nest∧nd.nest≤32)(ha:nd.at_=(G.M.cells.length:Nat))
  (ck:CK tm) (Qn:∀y∈tm.2,y.2<G.C.length+1):Ty l (ro++[.ask G.C.length,.liv G.C.length]) {G with M:=(G.M.tick wk).grow 2,C:=G.C++[nd],P:=G.P++[pl],time:=tm}:=by
 have h2:=h.amg (wk:=wk) (m:=[.ask G.C.length,.liv G.C.length]) af rfl hr (λr hr=>by
  simp only[List.mem_cons,List.not_mem_nil,or_false]at hr;rcases hr with rfl|rfl
  ·exact .inl rfl
  ·trivial)
 have hl:(G.C++[nd]).length=G.C.length+1:=by simp
 refine{h2 with sc:=λs x hs=> ?_,tk:=λy t ht=> ?_,c1:=by show 1≤(G.C++[nd]).length;omega,pl:=by show(G.P++[pl]).length=(G.C++[nd]).length;rw[hl,uv,h.pl];rfl,ck:=ck,Qn:=by show∀y∈tm.2,y.2<(G.C++[nd]).length;rw[hl];intro y hy;have:=Qn y hy;omega,cnt:= ?_}
 ·have hs:(G.C++[nd])[s]?=some x:=hs;by_cases e:s<G.C.length
  ·rw[tJ e]at hs;have:=h.sc s x hs;exact{this with a:=this.a.qT,b:=this.b.qT}
  ·have hlt:=(kB.1 hs).1;have e2:s=G.C.length:=af;subst e2;rw[u0 af]at hs;simp at hs;subst hs;refine⟨k9.new (k:=0) rfl (by rw[ha,h.len];rfl),k9.new (k:=1) rfl (by rw[ha,h.len];omega),hn,λ_=>hp,λq=>by have:=h.c1;omega⟩
 ·have:=h.tk y t ht;show Ux _ (G.C++[nd]).length y t;rw[hl];exact{this with k:=this.k.qT,v:=this.v.qT,w:=this.w.qT,inn:=⟨this.inn.1,by have:=this.inn.2;omega⟩,own:=⟨this.own.1,by have:=this.own.2;omega⟩,cJ:=λp hp=>⟨(this.cJ p hp).1,by have:=(this.cJ p hp).2;omega⟩,sl:=by have:=this.sl;omega}
 ·show 2*(G.C++[nd]).length+3*G.ts.length≤((G.M.tick wk).grow 2).cells.length;have:=Tf (M:=G.M.tick wk) (n:=2) af;simp only[SD]at this;have:=h.cnt;omega
def adB{p:Int}:(Hz T p).length=T.length+1:=by unfold Hz;split<;>simp
def afE{p:Int}{t:Kt}(h:GV T p=some t)(j:Nat):(Hz T p)[j]?=if j=T.length then some ⟨p,t.kids.length,[]⟩else if j=p.toNat then some {t with kids:=t.kids++[(T.length:Int)]}else T[j]?:=by
 obtain⟨_,h0,h1⟩:=xP h;have hp:=(kB.1 h1).1;unfold Hz;rw[h];dsimp only;split
 ·rename_i e;subst e;rw[u0 bf];simp
 ·rename_i e;by_cases hj:j<T.length
  ·rw[tJ (gq hj)]
   split
   ·rename_i e2;subst e2;rw[uO hp]
   ·rename_i e2;rw[r0 (Ne.symm e2)]
  ·rw[List.getElem?_eq_none (by simp;omega)]
   rw[if_neg af,List.getElem?_eq_none af]
def aqs{p:Int}{t:Kt}(hT:acI T)(h:GV T p=some t):acI (Hz T p):=by
 obtain⟨_,h0,h1⟩:=xP h;have hp:=(kB.1 h1).1;intro j y hy;rw[afE h]at hy;split at hy
 ·rename_i e;subst e;cases hy;exact⟨by dsimp only;omega,by dsimp only;omega,by dsimp only;omega⟩
 ·split at hy
  ·rename_i e;subst e;cases hy;exact hT _ t h1
  ·exact hT j y hy
def aj3{p:Int}{t:Kt}(hk:∀(i:Nat) x,T[i]?=some x→x.kids.length≤T.length)(h:GV T p=some t):∀(i:Nat) x,(Hz T p)[i]?=some x→x.kids.length≤(Hz T p).length:=by
 obtain⟨_,h0,h1⟩:=xP h;intro j y hy;rw[adB];rw[afE h]at hy;split at hy
 ·cases hy;simp
 ·split at hy
  ·cases hy;have:=hk _ t h1;simp;omega
  ·have:=hk j y hy;omega
def avQ{parent l7 own:Int}{f:List Int}{kt:Kt}(h:Ty l ro G)(hr:G.M.room 3=true)(c:GV G.T parent=some kt)(hi:0≤l7∧l7<G.C.length)(ho:0≤own∧own<G.C.length):
  Ty l (ro++[.fk G.ts.length,.fv G.ts.length,.fw G.ts.length]) (G.more wk parent l7 own f):=by
 have h2:=h.amg (wk:=wk) (m:=[.fk G.ts.length,.fv G.ts.length,.fw G.ts.length]) af rfl hr (λr hr=>by
  simp only[List.mem_cons,List.not_mem_nil,or_false]at hr;rcases hr with rfl|rfl|rfl
  ·exact⟨af,af⟩
  ·trivial
  ·trivial)
 unfold Gl.more;have hc:=h.c1;generalize hnt:(⟨(G.T.length:Nat),l7,own,(G.M.cells.length:Nat),f,ByteArray.mk #[],[],[own],0,0⟩:Tk)=b;have hl:(G.ts++[b]).length=G.ts.length+1:=by simp
 refine{h2 with val:=λa r hL=> ?_,tk:=λy t ht=> ?_,t1:=by show 1≤(G.ts++[b]).length;omega,pl:=by show(List.set _ _ _).length=_;rw[List.length_set];exact h.pl,kt:=aqs h.kt c,kl:=by show(Hz G.T parent).length=(G.ts++[b]).length;rw[adB,hl,h.kl],kk:=aj3 h.kk c,cnt:= ?_}
 ·show EO l _ (G.ts++[b]).length r (((G.M.tick wk).grow 3).get a);have h3:EO l _ G.ts.length r (((G.M.tick wk).grow 3).get a):=h2.val a r hL;have:=EO.qT (m:=[]) h3 (by omega:G.ts.length≤(G.ts++[b]).length)
  rwa[List.append_nil]at this
 ·have ht:(G.ts++[b])[y]?=some t:=ht;by_cases e:y<G.ts.length
  ·rw[tJ e]at ht;have:=h.tk y t ht;exact{this with k:=this.k.qT,v:=this.v.qT,w:=this.w.qT}
  ·have hlt:=(kB.1 ht).1;have e2:y=G.ts.length:=af;subst e2;rw[u0 af]at ht;simp at ht;subst ht;subst hnt;refine⟨by show((G.T.length:Nat):Int)=_;rw[h.kl],k9.new (k:=0) rfl (by show((G.M.cells.length:Nat):Int)=_;rw[h.len];rfl),k9.new (k:=1) rfl (by show((G.M.cells.length:Nat):Int)+1=_;rw[h.len];omega),k9.new (k:=2) rfl (by show((G.M.cells.length:Nat):Int)+2=_;rw[h.len];omega),hi,ho,bf,Nat.zero_le 1,gq hc⟩
 ·show 2*G.C.length+3*(G.ts++[b]).length≤((G.M.tick wk).grow 3).cells.length;have:=Tf (M:=G.M.tick wk) (n:=3) af;simp only[SD]at this;have:=h.cnt;omega
structure Nx (l:Lc) (P:List dB) (bw:List Int) (ro:List Ro) (G:Gl) (W W':Wk):Prop where
 st:W'.stack=W.stack
 bk:W'.back=W.back
 id:W'.id=W.id
 dq:W'.dq=W.dq
 ns:W'.cT≠ .m .start
 ct:cD l P bw ro G W'
 fl:EQ W'
def oY(h1:W'.bO=false)(h2:W'.blocked=false):EQ W':=
 ⟨λ_=>⟨h1,h2⟩,λq=>by rw[h1]at q;(cases q),λq=>by rw[h1,h2]at q;rcases q with q|q<;>(cases q)⟩
def aaw(h:EQ W)(h1:W'.bO=W.bO)(h2:W'.blocked=W.blocked)(h3:W'.again=W.again)(h4:W'.waits=true)(h5:zk W'.cT=false∧SF W'.cT=false):EQ W':=
 ⟨λq=>by rw[h4]at q;(cases q),λq=>by rw[h3];exact h.SG (by rw[←h1];exact q),λ_ q=>by rw[h5.1,h5.2]at q;rcases q with q|q<;>(cases q)⟩
def aqt(a:W.id<16)(hs:W.stack=[])(hw:W.wait.how=1)(h1:W.bO=false)(h2:W.blocked=false):Nx l P bw ro G W (y5 l G W).2∧(y5 l G W).1=G:=by
 unfold y5;dsimp only;refine⟨?_,rfl⟩;split
 ·exact⟨rfl,rfl,rfl,rfl,by simp[Wk.go],by unfold cD Wk.go;exact hs,oY h1 h2⟩
 split
 ·exact⟨rfl,rfl,rfl,rfl,bf,by unfold cD;exact⟨hs,hw,_,rfl,by unfold SpT jH.B7;exact⟨bf,a,bf⟩⟩,oY h1 h2⟩
 ·exact⟨rfl,rfl,rfl,rfl,by simp[Wk.go],by unfold cD Wk.go;exact⟨hs,hw⟩,oY h1 h2⟩
def rC.cases(h:rC P G W):(∃y,W.again= .aw y∧W.target=some y∧rq P G.ts.length (G.tk (W.stack.headD 0)) (.aw y))∨(∃k,W.again= .sh k∧W.target=none∧W.qc=k∧rq P G.ts.length (G.tk (W.stack.headD 0)) (.sh k)):=by
 obtain⟨h1,h2,h3⟩:=h;revert h2 h3;cases W.again<;>intro h2 h3<;>first|exact h3.elim|skip
 ·exact .inl ⟨_,rfl,h3,h2⟩
 ·exact .inr ⟨_,rfl,h3.1,h3.2,h2⟩
def rC.of(h:rC P G W)(h1:W'.stack=W.stack)(h2:W'.again=W.again)(h3:W'.target=W.target)(h4:W'.qc=W.qc):rC P G W':=by
 obtain⟨a,b,c⟩:=h;exact⟨by rw[h1];exact a,by rw[h1,h2];exact b,by rw[h2,h3,h4];exact c⟩
def aj4(ha:rC P G W)(hw:W.wait.how=1)(hf:EQ W)(h0:W.waits=true):Nx l P bw ro G W (nothing G W).2∧(nothing G W).1=G:=by
 unfold nothing;dsimp only;refine⟨?_,rfl⟩;split
 ·have ct:cD l P bw ro G {W with cT:=W.again}:=by
   rcases ha.cases with⟨y,h1,h2,h3⟩|⟨k,h1,h2,h3,h4⟩
   ·unfold cD;rw[h1];exact⟨ha.ne,h3⟩
   ·unfold cD;rw[h1];exact⟨ha.ne,h4⟩
  refine⟨rfl,rfl,rfl,rfl,?_,ct,?_⟩
  ·rcases ha.cases with⟨y,h1,_⟩|⟨k,h1,_⟩<;>dsimp only<;>rw[h1] <;>simp
  ·refine⟨λq=> ?_,hf.SG,λ_ _=>rfl⟩;rcases ha.cases with⟨y,h1,_⟩|⟨k,h1,_⟩<;>unfold Wk.waits at q<;>dsimp only at q<;>rw[h1]at q<;>cases q
 split
 ·rename_i hb;have hb:W.target.isSome=true:=by simp at hb;exact hb.1
  refine⟨rfl,rfl,rfl,rfl,by simp[Wk.go],?_,aaw hf rfl rfl rfl rfl ⟨rfl,rfl⟩⟩
  unfold cD Wk.go;refine⟨ha.of rfl rfl rfl rfl,?_⟩;rcases ha.cases with⟨y,h1,_⟩|⟨k,h1,h2,_⟩
  ·dsimp only;rw[h1];rfl
  ·rw[h2]at hb;cases hb
 split
 ·exact⟨rfl,rfl,rfl,rfl,bf,by unfold cD;exact ha.of rfl rfl rfl rfl,aaw hf rfl rfl rfl rfl ⟨rfl,rfl⟩⟩
 ·exact⟨rfl,rfl,rfl,rfl,bf,by unfold cD;exact⟨ha.of rfl rfl rfl rfl,_,rfl,by unfold SpT jH.B7;simp⟩,aaw hf rfl rfl rfl rfl ⟨rfl,rfl⟩⟩
def Wc(a:1≤G.ts.length)(b:W.id=i)(c:i<16)(hS:Dx l P G W)(hf:EQ W)(h0:W.none_= .m .nothing→W.waits=true)(h2:W.stack=[]→W.bO=false∧W.blocked=false):
  Nx l P bw ro G W (KR l G W t bw).2∧(KR l G W t bw).1=G:=by
 unfold KR;cases hl:W.left with
 |nil=>
  dsimp only;unfold alM;rcases hS.what with⟨a1,a2,a3,a4⟩|⟨a1,a2,a3,a4⟩
  ·rw[if_pos a4];exact aqt af a1 hS.how (h2 a1).1 (h2 a1).2
  ·rw[if_neg (by rw[a4];simp)];exact aj4 a1 hS.how hf (h0 a4)
 |cons j r=>
  dsimp only;have hj:=hS.left j (by rw[hl];simp)
  refine⟨⟨rfl,rfl,rfl,rfl,by simp[Wk.A6],?_,?_⟩,rfl⟩
  ·unfold cD Wk.A6;refine⟨_,rfl,⟨hS.how,λj' hj'=>hS.left j' (by rw[hl];simp[hj']),?_⟩,⟨j.toNat,af,?_,Yh a ⟨af,af⟩ af,rfl⟩,by show 15≤18;omega⟩
   ·rcases hS.what with⟨a1,a2,a3,a4⟩|⟨a1,a2,a3,a4⟩
    ·exact .inl ⟨a1,a2,a3,a4⟩
    ·exact .inr ⟨a1.of rfl rfl rfl rfl,a2,a3,a4⟩
   ·have:=hj.2.2;show j.toNat≠W.id.toNat;rw[b]at this ⊢;omega
  ·rcases hS.what with⟨a1,a2,a3,a4⟩|⟨a1,a2,a3,a4⟩
   ·exact oY (h2 a1).1 (h2 a1).2
   ·exact aaw hf rfl rfl rfl (by unfold Wk.waits Wk.A6;dsimp only;rw[a4];rfl) ⟨rfl,rfl⟩
def aj5(a:t.id=((W.stack.headD 0:Nat):Int))(ha:rC P G W)(hw:W.wait.how=1)(hf:EQ W):Nx l P bw ro G W (vQ G W t).2∧(vQ G W t).1=G:=by
 unfold vQ;dsimp only;refine⟨⟨rfl,rfl,rfl,rfl,by simp[Wk.search],?_,aaw hf rfl rfl rfl rfl ⟨rfl,rfl⟩⟩,rfl⟩
 unfold cD Wk.search;exact⟨hw,bf,.inr ⟨ha.of rfl rfl rfl rfl,by dsimp only;rw[a],rfl,rfl⟩⟩
def SJ{k:Kn}(ha:rC P G W)(hf:EQ W)(hk:match k with
  | .m .cancelled=>zk W.again=true∧SE G (G.tk (W.stack.headD 0))
  | .V2 y k=>y<G.ts.length∧k=W.again
  | .BR y k=>(0≤y∧y<G.ts.length)∧k=W.again
  | .c .IF=>zk W.again=true∧W.kind=G.K (W.target.getD 0)∧2≤W.kind
  | .c .Co=>W.again= .sh (.c .Co)
  | .c .qI=>W.again= .sh (.c .qI)
  |_=>False):Nx l P bw ro G W (W.stop k):=by
 refine⟨rfl,rfl,rfl,rfl,by simp[Wk.stop],?_,aaw hf rfl rfl rfl rfl ⟨rfl,rfl⟩⟩
 unfold cD Wk.stop;exact⟨ha.of rfl rfl rfl rfl,λ_ o ho=>by(cases ho),hk⟩
def afF(ha:rC P G W)(hf:EQ W)(hy:0≤y∧y<G.ts.length):Nx l P bw ro G W (BQ G W y).2∧(BQ G W y).1=G:=by
 unfold BQ;exact⟨SJ ha hf ⟨hy,rfl⟩,rfl⟩
def SK{k:Kn}(h1:W.bO=false)(h2:W.blocked=false)(hy:0≤y∧y<G.ts.length)(hk:EP P G W.stack k):Nx l P bw ro G W (W.HE y k):=
 ⟨rfl,rfl,rfl,rfl,by simp[Wk.HE],by unfold cD Wk.HE;exact⟨hy,hk⟩,oY h1 h2⟩
def aax(a:t.id=((W.stack.headD 0:Nat):Int))(ha:rC P G W)(hf:EQ W)(h1:zk W.again=true→W.dK= .m .vQ∧W.wait.how=1)(h2:SF W.again=true→W.dK= .c .Db):Nx l P bw ro G W (dK G W t).2∧(dK G W t).1=G:=by
 unfold dK;rcases ha.cases with⟨y,e,_⟩|⟨k,e,_⟩
 ·have:=h1 (by rw[e];rfl)
  rw[if_pos this.1];exact aj5 a ha this.2 hf
 ·have:=h2 (by rw[e];rfl)
  rw[if_neg (by rw[this];simp)]
  refine⟨⟨rfl,rfl,rfl,rfl,by simp[Wk.go],?_,aaw hf rfl rfl rfl rfl ⟨rfl,rfl⟩⟩,rfl⟩
  unfold cD Wk.go;exact⟨ha.of rfl rfl rfl rfl,by dsimp only;rw[e];rfl⟩
def Yi{k:Kn}(hne:W.stack≠ [])(hk:rq P G.ts.length (G.tk (W.stack.headD 0)) (.sh k))(hf:W.bO=false)(a:W.blocked=true→W.again= .sh k):Nx l P bw ro G W (shut W k t):=by
 refine⟨rfl,rfl,rfl,rfl,by simp[shut,Wk.drain],?_,?_⟩
 ·unfold cD shut Wk.drain;exact⟨⟨hne,hk,rfl,rfl⟩,λq=>by(cases q),λ_=>rfl⟩
 ·exact⟨λq=>by unfold Wk.waits shut Wk.drain at q;(cases q),λq=>by rw[show(shut W k t).bO=W.bO from rfl,hf]at q;(cases q),λ_ q=>by rcases q with q|q<;>(cases q)⟩
def OL(hne:W.stack≠ [])(ht:G.tk (W.stack.headD 0)=t)(he:Ends t)(h1:W.bO=false)(h2:W.blocked=false):Nx l P bw ro G W (unwind W t):=by
 unfold unwind;split
 ·rename_i h0;refine⟨rfl,rfl,rfl,rfl,by simp[Wk.go],?_,oY h1 h2⟩
  unfold cD Wk.go;dsimp only;rw[ht];exact⟨hne,he,List.eq_nil_of_length_eq_zero h0⟩
 ·rename_i h0;exact Yi hne (by rw[ht];exact⟨he,λq=>h0 (by rw[q];rfl)⟩) h1 (λq=>by rw[h2]at q;cases q)
end
section
variable{l:Lc}{P:List dB}{bw:List Int}{ro iT:List Ro}{G G':Gl}{hold:List Nat}{W W' W1:Wk}{t t':Tk}{n i x:Nat}{r:Ro}
abbrev eB(W:Wk):Prop:=W.cT≠ .m .start∧W.cT≠ .m .asks∧W.cT≠ .m .gone
def ahF{r:SW}(c:Cx l P bw ro G i W)(ty:Ty l iT r.1)(hx:iT=ro++m)(hts:r.1.ts=G.ts)(hC:r.1.C=G.C++mc)(hg:∀a s,k9 ro a s→s.JS→r.1.M.get a=G.M.get a)
  (b:eB W) (h1:W1.stack=W.stack∧W1.back=W.back∧W1.id=W.id∧W1.dq=W.dq) (nx:r.1.err=0→Nx l P bw iT r.1 W1 r.2) (hs:r.2.stack=W1.stack∧r.2.back=W1.back∧r.2.id=W1.id∧r.2.dq=W1.dq∧r.2.cT≠ .m .start):rV l P bw ro iT G i W r:=
 ER c ty hx hts hC hg (by rw[hs.1,h1.1]) (by rw[hs.2.1,h1.2.1]) (by rw[hs.2.2.1,h1.2.2.1]) (by rw[hs.2.2.2.1,h1.2.2.2]) b hs.2.2.2.2 (λe=>(nx e).ct) (λe=>(nx e).fl)
def tr{r:SW}(c:Cx l P bw ro G i W)(hr:r.1=G∨r.1=G.tick W.id)(b:eB W)(h1:W1.stack=W.stack∧W1.back=W.back∧W1.id=W.id∧W1.dq=W.dq)(nx:Nx l P bw ro r.1 W1 r.2):rV l P bw ro ro G i W r:=by
 have ty:Ty l ro r.1:=by rcases hr with e|e<;>rw[e];exact c.ty;exact c.ty.tick _
 refine ahF (m:=[]) (mc:=[]) c ty bf ?_ ?_ (λa s _ _=> ?_) b h1 (λ_=>nx) ⟨nx.st,nx.bk,nx.id,nx.dq,nx.ns⟩
 ·rcases hr with e|e<;>rw[e];rfl
 ·rcases hr with e|e<;>rw[e,List.append_nil];rfl
 ·rcases hr with e|e<;>rw[e];rfl
def Cx.tt(c:Cx l P bw ro G i W):Ty l ro (G.tick W.id):=c.ty.tick _
def aza(c:Cx l P bw ro G i W)(a:W.cT= .m .rest):rV l P bw ro ro G i W (rest l G W):=by
 have ct:=c.ct;unfold cD at ct;rw[a]at ct;dsimp only at ct;refine tr c (.inr rfl) (by rw[eB,a];decide) ⟨rfl,rfl,rfl,rfl⟩ ⟨rfl,rfl,rfl,rfl,by simp[rest,Wk.A6],?_,ahE c (by unfold Wk.waits;rw[a]) rfl rfl⟩
 unfold cD rest Wk.A6;exact⟨_,rfl,ct,rfl,Yh c.ty.t1 ⟨af,by have:=c.ty.t1;show(0:Int)<G.ts.length;omega⟩ af,rfl⟩
def azb(c:Cx l P bw ro G i W)(d:W.cT= .m .tell):rV l P bw ro ro G i W (OE l G W):=by
 have ct:=c.ct;unfold cD at ct;rw[d]at ct;dsimp only at ct;have hf:=c.fl.no (by unfold Wk.waits;rw[d])
 have ty:Ty l ro (OE l G W).1:=c.ty.ad c.ty.told trivial;have b:cD l P bw ro (OE l G W).1 (OE l G W).2∧W.said≠ .m .start:=by
  unfold OE cD;dsimp only;unfold EP at ct;cases hs:W.stack with
  |nil=>rw[hs]at ct;dsimp only at ct;rw[ct];exact⟨rfl,bf⟩
  |cons y st=>
   rw[hs]at ct;dsimp only at ct;have a:=ct;unfold rq at ct;split at ct
   ·rename_i e;rw[e];exact⟨⟨bf,ct⟩,bf⟩
   ·rename_i e;rw[e];rw[e]at a;exact⟨⟨bf,a⟩,bf⟩
   ·rename_i e;rw[e];rw[e]at a;exact⟨⟨bf,a⟩,bf⟩
   ·rename_i e;rw[e];rw[e]at a;exact⟨⟨bf,a⟩,bf⟩
   ·exact ct.elim
 exact ER (m:=[]) c ty bf rfl (by rw[List.append_nil];rfl) (xK c.ty rfl c.ty.told (λq=>q)) rfl rfl rfl rfl (by rw[d];decide) b.2 (λ_=>b.1) (λ_=>oY hf.1 hf.2)
def aCo(c:Cx l P bw ro G i W)(a:W.cT= .m .So):rV l P bw ro ro G i W (So l G W):=by
 have ct:=c.ct;unfold cD at ct;rw[a]at ct;dsimp only at ct;exact ER (m:=[]) c (c.ty.ad c.ty.idle trivial) bf rfl (by rw[List.append_nil];rfl) (xK c.ty rfl c.ty.idle (λq=>q)) rfl rfl rfl rfl (by rw[a];decide) (by simp[So]) (λ_=>by unfold cD So;exact ct.1) (λ_=>ahE c (by unfold Wk.waits;rw[a]) rfl rfl)
def azc(c:Cx l P bw ro G i W)(a:W.cT= .m .JA):rV l P bw ro ro G i W (JA l G W):=by
 have ct:=c.ct;unfold cD at ct;rw[a]at ct;dsimp only at ct;exact ER (m:=[]) c (c.ty.ad c.ty.idle trivial) bf rfl (by rw[List.append_nil];rfl) (xK c.ty rfl c.ty.idle (λq=>q)) rfl rfl rfl rfl (by rw[a];decide) (by simp[JA]) (λ_=>by unfold cD JA;exact ct) (λ_=>ahE c (by unfold Wk.waits;rw[a]) rfl rfl)
def azd{j:Int}(ha:0≤a∧a<65536)(hj:0≤j∧j<16):0≤JV .i64 a (sD .i64 1 j)∧JV .i64 a (sD .i64 1 j)<65536:=by
 obtain⟨x,rfl⟩:=Int.eq_ofNat_of_zero_le ha.1;obtain⟨y,rfl⟩:=Int.eq_ofNat_of_zero_le hj.1;have hs:∀y:Nat,y<16→sD .i64 1 (y:Int)=((2 ^ y:Nat):Int):=e7;rw[hs y af];have c:∀a b:Int,JV .i64 a b=IntKind.i64.wrap ((BitVec.ofInt 64 a ^^^ BitVec.ofInt 64 b).toNat:Nat):=λ_ _=>rfl;rw[c,BitVec.ofInt_natCast,BitVec.ofInt_natCast,BitVec.toNat_xor,BitVec.toNat_ofNat,BitVec.toNat_ofNat];have d:2 ^ y<2 ^ 16:=Nat.pow_lt_pow_right af af;rw[Nat.mod_eq_of_lt af,Nat.mod_eq_of_lt af];have h3:x ^^^ 2 ^ y<2 ^ 16:=Nat.xor_lt_two_pow af d;rw[dh ⟨af,af⟩];omega
structure SpR (l:Lc) (ro:List Ro) (G:Gl) (wk:Int) (r:jH×bJ):Prop where
 ty:Ty l ro (G.mem r.2)
 sp:SpT r.1
 JS:∀a s,k9 ro a s→s.JS→r.2.get a=G.M.get a
def amj:XW x 16<16:=by
 unfold XW;split
 ·split
  ·omega
  ·rename_i h;unfold Wg at h;split at h<;>omega
 ·omega
def amk{o:jH}(h:Ty l ro G)(ho:SpT o):SpR l ro G wk (o.go l.sp G.M wk):=by
 obtain⟨h6,hs,ht⟩:=ho;have hb:=h.val _ _ h.OI;have hno:∀r:Ro,(r= .Ye∨r= .OI)→¬r.JS:=λr q=>by rcases q with rfl|rfl<;>exact λq=>q
 unfold jH.go;split
 ·rename_i e;exact⟨h,⟨h6,hs,ht⟩,λ_ _ _ _=>rfl⟩
 ·unfold jH.more;exact⟨h.ad h.Ye trivial,⟨bf,hs,bf⟩,xK h rfl h.Ye (hno _ (.inl rfl))⟩
 ·unfold jH.less;exact⟨h.ad h.Ye trivial,⟨bf,hs,bf⟩,xK h rfl h.Ye (hno _ (.inl rfl))⟩
 ·unfold jH.look;exact⟨h.tick wk,⟨bf,hs,bf⟩,λ_ _ _ _=>rfl⟩
 ·unfold jH.need;refine⟨h.tick wk,?_,λ_ _ _ _=>rfl⟩;dsimp only;split
  ·exact⟨bf,amj,λ_=>hb⟩
  ·exact⟨bf,hs,bf⟩
 ·unfold jH.many;refine⟨h.tick wk,?_,λ_ _ _ _=>rfl⟩;dsimp only;split
  ·exact⟨bf,hs,λ_=>hb⟩
  ·exact⟨bf,hs,bf⟩
 ·rename_i n0 n1 n2 n3 n4 a;unfold jH.aeR;have b:o.next=6:=by
   rcases (show o.next=0∨o.next=1∨o.next=2∨o.next=3∨o.next=4∨o.next=5∨o.next=6 by omega)with e|e|e|e|e|e|e<;>first|exact e|exact(n0 e).elim|exact(n1 e).elim|exact(n2 e).elim|exact(n3 e).elim|exact(n4 e).elim|exact(a e).elim
  refine⟨?_,?_,?_⟩
  ·exact h.cs h.OI (azd (ht b) (by unfold ZR;constructor<;>split<;>omega))
  ·dsimp only;split<;>exact⟨bf,hs,bf⟩
  ·dsimp only;unfold bJ.cs;split
   ·exact xK h rfl h.OI (hno _ (.inr rfl))
   ·exact λ_ _ _ _=>rfl
def Cx.an8(c:Cx l P bw ro G i W):i<16∧W.id<16∧0≤W.id:=by have:=c.wt.lt;have:=c.lc.w16;have:=c.wt.id;omega
def aqu{o:jH}(c:Cx l P bw ro G i W)(a:W.cT= .m .xn)(hs:W.step=some o):rV l P bw ro ro G i W (xn l G W o):=by
 have ct:=c.ct;unfold cD at ct;rw[a]at ct;dsimp only at ct;obtain⟨h1,h2,o',h3,h4⟩:=ct;rw[hs]at h3;cases h3;have hr:=amk (wk:=W.id) c.ty h4;have hf:=c.fl.no (by unfold Wk.waits;rw[a])
 unfold xn;dsimp only;generalize o.go l.sp G.M W.id=r at hr ⊢;refine ER (m:=[]) c hr.ty bf rfl (by rw[List.append_nil];rfl) hr.JS (by dsimp only;split<;>rfl) (by dsimp only;split<;>rfl) (by dsimp only;split<;>rfl) (by dsimp only;split<;>rfl) (by rw[a];decide) ?_ (λ_=> ?_) (λ_=> ?_)
 ·split
  ·dsimp only;split<;>simp
  ·rw[a];simp
 ·split
  ·dsimp only;split
   ·unfold cD;exact h1
   ·unfold cD;exact⟨h1,h2⟩
  ·unfold cD;dsimp only;rw[a];exact⟨h1,h2,_,rfl,hr.sp⟩
 ·dsimp only;split<;>exact oY hf.1 hf.2
def avS{o:jH}(c:Cx l P bw ro G i W)(a:W.cT= .m .block)(hs:W.step=some o):rV l P bw ro ro G i W (block l G W o):=by
 have ct:=c.ct;unfold cD at ct;rw[a]at ct;dsimp only at ct;obtain⟨h1,o',h3,h4⟩:=ct;rw[hs]at h3;cases h3;have hr:=amk (wk:=W.id) c.ty h4;unfold block;dsimp only;generalize o.go l.sp G.M W.id=r at hr ⊢;have e:(G.mem r.2).ts=G.ts:=rfl;have ha:rC P (G.mem r.2) W:=⟨h1.ne,h1.hm,h1.tg⟩;refine ER (m:=[]) c hr.ty bf rfl (by rw[List.append_nil];rfl) hr.JS (by dsimp only;split<;>rfl) (by dsimp only;split<;>rfl) (by dsimp only;split<;>rfl) (by dsimp only;split<;>rfl) (by rw[a];decide) ?_ (λ_=> ?_) (λ_=> ?_)
 ·split
  ·rcases h1.cases with⟨y,q,_⟩|⟨y,q,_⟩<;>dsimp only<;>rw[q] <;>simp
  ·rw[a];simp
 ·dsimp only;split
  ·rcases ha.cases with⟨y,q,_,b⟩|⟨y,q,_,_,b⟩<;>unfold cD<;>dsimp only<;>rw[q] <;>exact⟨ha.ne,b⟩
  ·unfold cD;dsimp only;rw[a];exact⟨ha.of rfl rfl rfl rfl,_,rfl,hr.sp⟩
 ·dsimp only;split
  ·refine⟨λq=> ?_,c.fl.SG,λ_ _=>rfl⟩;rcases ha.cases with⟨y,q1,_⟩|⟨y,q1,_⟩<;>unfold Wk.waits at q<;>dsimp only at q<;>rw[q1]at q<;>cases q
  ·exact SI c rfl rfl rfl (by unfold Wk.waits;dsimp only;rw[a]) (by dsimp only;rw[a];exact⟨rfl,rfl⟩)
end
section
variable{l:Lc}{P:List dB}{bw:List Int}{ro iT:List Ro}{G G':Gl}{hold:List Nat}{W W' W1:Wk}{t t':Tk}{n i x y:Nat}{r:Ro}
def Cx.tid(c:Cx l P bw ro G i W)(h:W.stack≠ []):(G.tk (W.stack.headD 0)).id=((W.stack.headD 0:Nat):Int):=(c.ty.qh (c.top h).2).id
def aj6{m:List Int}:∀j∈VU v m,j∈m:=by
 intro j hj;unfold VU at hj;rcases zw.1 hj with h|h
 ·exact List.mem_of_mem_drop h
 ·exact List.mem_of_mem_take h
def afG{self on idle:Int}:∀j∈xI self on idle n,0≤j∧j<n∧j≠self:=by
 intro j hj;unfold xI at hj;obtain⟨k,hk,rfl⟩:=List.mem_map.1 hj;obtain⟨h1,h2⟩:=List.mem_filter.1 hk;have:=List.mem_range.1 h1;refine⟨by show 0≤((k:Nat):Int);omega,by show((k:Nat):Int)<n;omega,λe=> ?_⟩
 have e:((k:Nat):Int)=self:=e;unfold aaj at h2;simp[e]at h2
def aqv(c:Cx l P bw ro G i W)(a:W.cT= .m .others):rV l P bw ro ro G i W (others l G W t bw):=by
 have ct:=c.ct;unfold cD at ct;rw[a]at ct;dsimp only at ct;have ty:Ty l ro {G.tick W.id with D:=G.D.tail}:={c.tt with dr:=by have:=c.ty.dr;show G.D.tail.length≤_;rw[List.length_tail];omega}
 unfold others;have hS:Dx l P {G.tick W.id with D:=G.D.tail} {W with left:=VU (G.D.headD 0) (xI W.id (l.sp.bits G.M) (G.M.get l.idle) l.wa.length)}:=by
  refine⟨ct.how,λj hj=>afG j (aj6 j hj),?_⟩;rcases ct.what with⟨a1,a2⟩|⟨a1,a2⟩
  ·exact .inl ⟨a1,a2⟩
  ·exact .inr ⟨⟨a1.ne,a1.hm,a1.tg⟩,a2⟩
 have hw:W.none_= .m .nothing→W.waits=true:=λq=>by unfold Wk.waits;rw[a];dsimp only;rw[q];rfl
 have nx:=Wc (bw:=bw) (ro:=ro) (t:=t) ty.t1 c.wt.id c.an8.1 hS (W:={W with left:=VU (G.D.headD 0) (xI W.id (l.sp.bits G.M) (G.M.get l.idle) l.wa.length)}) ⟨λq=>c.fl.no q,c.fl.SG,c.fl.ag⟩ hw (λq=> ?_)
 ·refine ahF (m:=[]) (W1:={W with left:=VU (G.D.headD 0) (xI W.id (l.sp.bits G.M) (G.M.get l.idle) l.wa.length)}) c (by rw[nx.2];exact ty) bf (by rw[nx.2];rfl) (by rw[nx.2,List.append_nil];rfl) (λ_ _ _ _=>by rw[nx.2];rfl) (by rw[eB,a];decide) ⟨rfl,rfl,rfl,rfl⟩ (λ_=>by rw[nx.2];exact nx.1) ⟨nx.1.st,nx.1.bk,nx.1.id,nx.1.dq,nx.1.ns⟩
 ·refine c.fl.no ?_;rcases ct.what with⟨a1,a2,a3,a4⟩|⟨a1,a2⟩
  ·have a4:W.none_= .m .y5:=a4;unfold Wk.waits;rw[a];dsimp only;rw[a4];rfl
  ·exact absurd q a1.ne
def Yj{O:bu}{m:Nat}(h:0≤O.got∧O.got<m)(hm:1≤m):0≤O.tell∧O.tell<m:=by
 unfold bu.tell;split
 ·exact h
 ·omega
def Dx.of(h:Dx l P G W)(hg:G'.ts=G.ts)(h1:W'.stack=W.stack)(h2:W'.again=W.again)(h3:W'.target=W.target)(h4:W'.qc=W.qc)(h5:W'.wait=W.wait)(h6:W'.left=W.left)(h7:W'.id=W.id)(h8:W'.fits=W.fits)(h9:W'.got=W.got)(h10:W'.none_=W.none_):Dx l P G' W':=by
 refine⟨by rw[h5];exact h.how,by rw[h6,h7];exact h.left,?_⟩
 rw[h1,h3,h8,h9,h10];refine h.what.imp id λq=>⟨?_,q.2⟩;obtain⟨a,b,c⟩:=q.1;refine⟨by rw[h1];exact a,?_,by rw[h2,h3,h4];exact c⟩
 have:G'.tk (W.stack.headD 0)=G.tk (W.stack.headD 0):=by unfold Gl.tk;rw[hg]
 rw[h1,h2,hg,this];exact b
def avT{O:bu}(h1:W.cT= .m .pF)(h2:W.op=some O)(hi:W.id.toNat=i)(h:match W.after with
  | .c .F9=>W.stack=[]∧W.wait.how=1∧Cb l ro G.ts.length i W.dq O∧O.kind=1
  | .c .um=>W.stack≠ []∧BT P G.ts.length (G.tk (W.stack.headD 0))∧(0≤W.jq∧W.jq<G.ts.length)∧Cb l ro G.ts.length i W.dq O∧O.kind=0
  | .c .td=>rC P G W∧(zk W.again=true→W.dK= .m .vQ∧W.wait.how=1)∧(SF W.again=true→W.dK= .c .Db)∧Cb l ro G.ts.length i W.dq O∧O.kind=1
  | .m .Uv=>Dx l P G W∧(∃u,u<l.wa.length∧u≠i∧Cb l ro G.ts.length u (bw.getD u 0) O∧O.kind=2)∧O.next≤18
  | .m .AL=>Dx l P G W∧(∃u,u<l.wa.length∧u≠i∧Cb l ro G.ts.length u (bw.getD u 0) O∧O.kind=2)∧O.next=19
  |_=>False):cD l P bw ro G W:=by
 unfold cD;dsimp only;rw[h1];dsimp only;subst hi;exact⟨O,h2,h⟩
def aml{O:bu}(c:Cx l P bw ro G i W)(I:bw.length=l.wa.length)(b:W.cT= .m .pF)(hop:W.op=some O)(ht:t=G.tk (W.stack.headD 0)):∃iT,rV l P bw ro iT G i W (pF l G W O t bw G.vJ)∧True:=by
 have ct:=c.ct;unfold cD at ct;rw[b]at ct;dsimp only at ct;obtain⟨O',v,ct⟩:=ct;rw[hop]at v;cases v;have D:eB W:=by rw[eB,b];decide
 have k:=c.idn;rw[k]at ct;have main:∀(u:Nat) (d:Int),ZH ro u d→Cb l ro G.ts.length u d O→(∀(iT:List Ro) (r:bu×bJ),OpR l ro iT G W.id u d O r→(r.1.how=0→cD l P bw iT (G.mem r.2) {W with op:=some r.1})∧(r.1.how≠0→r.1.how≠6→Nx l P bw iT (G.mem r.2) {W with op:=some r.1} (zj l (G.mem r.2) {W with op:=some r.1} t bw G.vJ r.1.how).2∧(zj l (G.mem r.2) {W with op:=some r.1} t bw G.vJ r.1.how).1=G.mem r.2))→∃iT,rV l P bw ro iT G i W (pF l G W O t bw G.vJ)∧True:=by
  intro u d hd hO F;obtain⟨iT,hr⟩:=aj2 c.lg c.ty hd c.caller hO;obtain⟨h0,hn⟩:=F iT _ hr;refine⟨iT,?_,trivial⟩;have C:∀a s,k9 ro a s→s.JS→(O.step G.M W.id).2.get a=G.M.get a:=λa s hs hp=>hr.same a s hs (by cases s<;>first|exact hp.elim|exact λq=>q)
  obtain⟨m,hm,_⟩:=hr.ext;unfold pF;dsimp only;generalize O.step G.M W.id=r at hr h0 hn C ⊢;split
  ·rename_i e;exact ER c hr.ty hm rfl (by rw[List.append_nil];rfl) C rfl rfl rfl rfl D (by dsimp only;rw[b];simp) (λ_=>h0 e) (λ_=>⟨λq=>c.fl.no q,c.fl.SG,c.fl.ag⟩)
  split
  ·rename_i e0 e;have y:=hr.err e;exact ER c {hr.ty with} hm rfl (by rw[List.append_nil];rfl) C rfl rfl rfl rfl D (by dsimp only;rw[b];simp) (λq=>absurd q y) (λq=>absurd q y)
  ·rename_i e0 p;obtain⟨nx,e⟩:=hn e0 p;exact ahF (W1:={W with op:=some r.1}) c (by rw[e];exact hr.ty) hm (by rw[e];rfl) (by rw[e,List.append_nil];rfl) (λa s h1 h2=>by rw[e];exact C a s h1 h2) D ⟨rfl,rfl,rfl,rfl⟩ (λ_=>by rw[e];exact nx) ⟨nx.st,nx.bk,nx.id,nx.dq,nx.ns⟩
 have f:=c.ty.t1;have J:∀h:W.stack≠ [],t.id=((W.stack.headD 0:Nat):Int):=λh=>by rw[ht];exact c.tid h
 have A:∀(r:bu×bJ),rC P G W→rC P (G.mem r.2) {W with op:=some r.1}:=λr q=>⟨q.ne,q.hm,q.tg⟩
 have n:∀(r:bu×bJ),Dx l P G W→Dx l P (G.mem r.2) {W with op:=some r.1}:=λr q=>⟨q.how,q.left,q.what.imp id λz=>⟨A r z.1,z.2⟩⟩
 have j:∀(r:bu×bJ),EQ {W with op:=some r.1}:=λr=>⟨λq=>c.fl.no q,c.fl.SG,c.fl.ag⟩
 have hct:∀{iT:List Ro} {r:bu×bJ},(match W.after with
  | .c .F9=>W.stack=[]∧W.wait.how=1∧Cb l iT G.ts.length i W.dq r.1∧r.1.kind=1
  | .c .um=>W.stack≠ []∧BT P G.ts.length (G.tk (W.stack.headD 0))∧(0≤W.jq∧W.jq<G.ts.length)∧Cb l iT G.ts.length i W.dq r.1∧r.1.kind=0
  | .c .td=>rC P (G.mem r.2) {W with op:=some r.1}∧(zk W.again=true→W.dK= .m .vQ∧W.wait.how=1)∧(SF W.again=true→W.dK= .c .Db)∧Cb l iT G.ts.length i W.dq r.1∧r.1.kind=1
  | .m .Uv=>Dx l P (G.mem r.2) {W with op:=some r.1}∧(∃u,u<l.wa.length∧u≠i∧Cb l iT G.ts.length u (bw.getD u 0) r.1∧r.1.kind=2)∧r.1.next≤18
  | .m .AL=>Dx l P (G.mem r.2) {W with op:=some r.1}∧(∃u,u<l.wa.length∧u≠i∧Cb l iT G.ts.length u (bw.getD u 0) r.1∧r.1.kind=2)∧r.1.next=19
  |_=>False)→cD l P bw iT (G.mem r.2) {W with op:=some r.1}:=λq=>avT b rfl k q
 split at ct
 ·rename_i ha;obtain⟨a1,a2,a3,a4⟩:=ct;have hf:=c.fl.no (by unfold Wk.waits;rw[b];dsimp only;rw[ha])
  have e1:∀(r:bu×bJ) (st:Int),zj l (G.mem r.2) {W with op:=some r.1} t bw G.vJ st=F9 (G.mem r.2) {W with op:=some r.1} st:=λr st=>by unfold zj;dsimp only;rw[ha]
  refine main i W.dq c.own a3 λiT r hr=>⟨λe=> ?_,λe p=> ?_⟩
  ·obtain⟨b1,b2⟩:=hr.live (.inl e);refine hct ?_;rw[ha];exact⟨a1,a2,b1,by rw[b2,a4]⟩
  ·rw[e1];unfold F9;dsimp only;refine⟨?_,rfl⟩;split
   ·refine SK hf.1 hf.2 (Yj hr.got f) ?_;show EP P _ W.stack _;rw[a1];rfl
   ·exact⟨rfl,rfl,rfl,rfl,by simp[Wk.search],by unfold cD Wk.search;exact⟨a2,bf,.inl ⟨a1,rfl,rfl,rfl⟩⟩,oY hf.1 hf.2⟩
 ·rename_i ha;obtain⟨a1,a2,a3,a4,a5⟩:=ct;have hf:=c.fl.no (by unfold Wk.waits;rw[b];dsimp only;rw[ha])
  have e1:∀(r:bu×bJ) (st:Int),zj l (G.mem r.2) {W with op:=some r.1} t bw G.vJ st=um (G.mem r.2) {W with op:=some r.1} st:=λr st=>by unfold zj;dsimp only;rw[ha]
  refine main i W.dq c.own a4 λiT r hr=>⟨λe=> ?_,λe p=> ?_⟩
  ·obtain⟨b1,b2⟩:=hr.live (.inl e);refine hct ?_;rw[ha];exact⟨a1,a2,a3,b1,by rw[b2,a5]⟩
  ·rw[e1];unfold um;dsimp only;refine⟨?_,rfl⟩;obtain⟨x,st,hst⟩:=List.exists_cons_of_ne_nil a1;have hm:EP P (G.mem r.2) W.stack (.m .next):=by rw[hst]at a2 ⊢;exact a2
   split
   ·exact SK hf.1 hf.2 a3 hm
   ·exact⟨rfl,rfl,rfl,rfl,by simp[Wk.JF],by unfold cD Wk.JF;exact hm,oY hf.1 hf.2⟩
 ·rename_i ha;obtain⟨a1,a2,a3,a4,a5⟩:=ct;have e1:∀(r:bu×bJ) (st:Int),zj l (G.mem r.2) {W with op:=some r.1} t bw G.vJ st=td (G.mem r.2) {W with op:=some r.1} t st:=λr st=>by unfold zj;dsimp only;rw[ha]
  refine main i W.dq c.own a4 λiT r hr=>⟨λe=> ?_,λe p=> ?_⟩
  ·obtain⟨b1,b2⟩:=hr.live (.inl e);refine hct ?_;rw[ha];exact⟨(A r a1).of rfl rfl rfl rfl,a2,a3,b1,by rw[b2,a5]⟩
  ·rw[e1];unfold td;split
   ·exact aax (J a1.ne) (A r a1) (j r) a2 a3
   ·exact afF (A r a1) (j r) (Yj hr.got f)
 ·rename_i ha;obtain⟨a1,⟨u,a2,a3,a4,a5⟩,a6⟩:=ct;have o:W.none_= .m .nothing→W.waits=true:=λq=>by unfold Wk.waits;rw[b];dsimp only;rw[ha];dsimp only;rw[q];rfl
  have g:W.stack=[]→W.bO=false∧W.blocked=false:=λq=>by
   refine c.fl.no ?_;rcases a1.what with⟨_,_,_,z⟩|⟨z,_⟩
   ·unfold Wk.waits;rw[b];dsimp only;rw[ha];dsimp only;rw[z];rfl
   ·exact absurd q z.ne
  have e1:∀(r:bu×bJ) (st:Int),zj l (G.mem r.2) {W with op:=some r.1} t bw G.vJ st=Uv l (G.mem r.2) {W with op:=some r.1} t bw G.vJ st:=λr st=>by unfold zj;dsimp only;rw[ha]
  refine main u (bw.getD u 0) (c.dq u a2) a4 λiT r hr=>⟨λe=> ?_,λe p=> ?_⟩
  ·obtain⟨b1,b2⟩:=hr.live (.inl e);have hh:=hr.how a5;refine hct ?_;rw[ha];exact⟨(n r a1).of rfl rfl rfl rfl rfl rfl rfl rfl rfl rfl rfl,⟨u,a2,a3,b1,by rw[b2,a5]⟩,af⟩
  ·rw[e1];unfold Uv;split
   ·exact Wc f c.wt.id c.an8.1 (n r a1) (j r) o g
   ·rename_i hno;have e2:r.1.how=2:=by
     have:=not_or.1 hno;omega
    obtain⟨b1,b2⟩:=hr.live (.inr e2);have hh:=hr.how a5;refine⟨⟨rfl,rfl,rfl,rfl,by dsimp only;rw[b];simp,?_,?_⟩,rfl⟩
    ·refine avT b rfl k ?_;refine⟨(n r a1).of rfl rfl rfl rfl rfl rfl rfl rfl rfl rfl rfl,⟨u,a2,a3,b1,by rw[b2,a5]⟩,?_⟩
     have:=b1.how;rw[e2]at this;apply Classical.byContradiction;intro q;rw[if_neg q]at this;cases this
    ·refine⟨λq=> ?_,c.fl.SG,λ_ q=>by dsimp only at q;rw[b]at q;rcases q with q|q<;>cases q⟩
     unfold Wk.waits at q;dsimp only at q;rw[b]at q;dsimp only at q;refine c.fl.no ?_;unfold Wk.waits;rw[b];dsimp only;rw[ha];exact q
 ·rename_i ha;obtain⟨a1,⟨u,a2,a3,a4,a5⟩,a6⟩:=ct;have o:W.none_= .m .nothing→W.waits=true:=λq=>by unfold Wk.waits;rw[b];dsimp only;rw[ha];dsimp only;rw[q];rfl
  have g:W.stack=[]→W.bO=false∧W.blocked=false:=λq=>by
   refine c.fl.no ?_;rcases a1.what with⟨_,_,_,z⟩|⟨z,_⟩
   ·unfold Wk.waits;rw[b];dsimp only;rw[ha];dsimp only;rw[z];rfl
   ·exact absurd q z.ne
  have e1:∀(r:bu×bJ) (st:Int),zj l (G.mem r.2) {W with op:=some r.1} t bw G.vJ st=AL l (G.mem r.2) {W with op:=some r.1} t bw st:=λr st=>by unfold zj;dsimp only;rw[ha]
  refine main u (bw.getD u 0) (c.dq u a2) a4 λiT r hr=>⟨λe=> ?_,λe p=> ?_⟩
  ·have hh:=hr.how a5;omega
  ·rw[e1];unfold AL;split
   ·unfold auJ;rcases a1.what with⟨B,K,H,L⟩|⟨B,K,H,L⟩
    ·rw[if_neg (by dsimp only;rw[H];simp)]
     refine⟨SK (g B).1 (g B).2 (Yj hr.got f) ?_,rfl⟩;show EP P _ W.stack _;rw[B];rfl
    ·rw[if_pos H];exact afF (A r B) (j r) (Yj hr.got f)
   ·have:=Wc (bw:=bw) (ro:=iT) (G:=G.mem r.2) (t:=t) (W:={W with op:=some r.1,late:=true}) f c.wt.id c.an8.1 (a1.of rfl rfl rfl rfl rfl rfl rfl rfl rfl rfl rfl) ⟨λq=>c.fl.no q,c.fl.SG,c.fl.ag⟩ o g
    exact⟨⟨this.1.st,this.1.bk,this.1.id,this.1.dq,this.1.ns,this.1.ct,this.1.fl⟩,this.2⟩
 ·exact ct.elim
def aCq(c:Cx l P bw ro G i W)(a:W.cT= .m .cJ):rV l P bw ro ro G i W (cJ G W):=by
 have ct:=c.ct;unfold cD at ct;rw[a]at ct;dsimp only at ct;exact tr c (.inr rfl) (by rw[eB,a];decide) ⟨rfl,rfl,rfl,rfl⟩ ⟨rfl,rfl,rfl,rfl,by simp[cJ],by unfold cD cJ;exact ct,ahE c (by unfold Wk.waits;rw[a]) rfl rfl⟩
def avW(c:Cx l P bw ro G i W)(b:W.cT= .m .asked)(ht:t=G.tk (W.stack.headD 0)):rV l P bw ro ro G i W (asked G W t (G.tk (W.target.getD 0)) (W.target.getD 0)):=by
 have ct:=c.ct;unfold cD at ct;rw[b]at ct;dsimp only at ct;obtain⟨a1,a2,a3⟩:=ct;obtain⟨y,h1,h2,h3⟩|⟨k,h1,_⟩:=a1.cases;rotate_left
 ·rw[h1]at a2;cases a2
 have hy:W.target.getD 0=y:=by rw[h2];rfl
 have a:y<G.ts.length:=h3.2.2.2;have ha:rC P (G.tick W.id) W:=⟨a1.ne,a1.hm,a1.tg⟩;have hk:=c.ty.val _ _ (c.ty.qh a).k;unfold asked;dsimp only;rw[hy,Int.add_zero];refine tr c (.inr rfl) (by rw[eB,b];decide) ⟨rfl,rfl,rfl,rfl⟩ ?_
 dsimp only;split
 ·exact SJ ha c.fl ⟨a,rfl⟩
 split
 ·refine⟨rfl,rfl,rfl,rfl,by simp[Wk.drain],?_,SI c rfl rfl rfl rfl ⟨rfl,rfl⟩⟩
  unfold cD Wk.drain;exact⟨ha.of rfl rfl rfl rfl,λ_=>⟨rfl,a3⟩,λq=>by dsimp only at q;rw[h1]at q;cases q⟩
 ·rename_i n0 n1;have d:G.M.get (G.tk y).jI=G.K y:=rfl;have:=SJ (l:=l) (bw:=bw) (ro:=ro) (W:={W with kind:=G.M.get (G.tk y).jI}) (k:= .c .IF) (ha.of rfl rfl rfl rfl) ⟨λq=>c.fl.no q,c.fl.SG,c.fl.ag⟩ ⟨a2,by dsimp only;rw[hy];rfl,by dsimp only;have:=hk.1;omega⟩
  exact⟨this.st,this.bk,this.id,this.dq,this.ns,this.ct,this.fl⟩
def aqz(c:Cx l P bw ro G i W)(a:W.cT= .m .ul)(ht:t=G.tk (W.stack.headD 0)):rV l P bw ro ro G i W (ul l G W t):=by
 have ct:=c.ct;unfold cD at ct;rw[a]at ct;dsimp only at ct;obtain⟨a1,a2,a3⟩:=ct;have ha:rC P (G.tick W.id) W:=⟨a1.ne,a1.hm,a1.tg⟩;unfold ul;dsimp only;split
 ·have nx:=aax (l:=l) (bw:=bw) (ro:=ro) (t:=t) (by rw[ht];exact c.tid a1.ne) ha c.fl a2 a3
  exact tr c (.inr nx.2) (by rw[eB,a];decide) ⟨rfl,rfl,rfl,rfl⟩ (by rw[nx.2];exact nx.1)
 ·refine tr c (.inr rfl) (by rw[eB,a];decide) ⟨rfl,rfl,rfl,rfl⟩ ⟨rfl,rfl,rfl,rfl,by simp[Wk.A6],?_,SI c rfl rfl rfl rfl ⟨rfl,rfl⟩⟩
  unfold cD Wk.A6;exact⟨_,rfl,ha.of rfl rfl rfl rfl,a2,a3,Yh c.ty.t1 ⟨af,by have:=c.ty.t1;show(0:Int)<G.ts.length;omega⟩ af,rfl⟩
def amm(c:Cx l P bw ro G i W)(a:W.cT= .m .rp):rV l P bw ro ro G i W (rp l G W):=by
 have ct:=c.ct;unfold cD at ct;rw[a]at ct;dsimp only at ct;have ha:rC P (G.tick W.id) W:=⟨ct.1.ne,ct.1.hm,ct.1.tg⟩;exact tr c (.inr rfl) (by rw[eB,a];decide) ⟨rfl,rfl,rfl,rfl⟩ ⟨rfl,rfl,rfl,rfl,by simp[rp],by unfold cD rp;exact⟨ha.of rfl rfl rfl rfl,ct.2,rfl⟩,SI c rfl rfl rfl rfl ⟨rfl,rfl⟩⟩
def amn(c:Cx l P bw ro G i W)(a:W.cT= .m .sx)(ht:t=G.tk (W.stack.headD 0)){nd:Nd}:rV l P bw ro ro G i W (sx G W t nd):=by
 have ct:=c.ct;unfold cD at ct;rw[a]at ct;dsimp only at ct;obtain⟨a1,a2,a3⟩:=ct;have ha:rC P (G.tick W.id) W:=⟨a1.ne,a1.hm,a1.tg⟩;unfold sx;split
 ·refine tr c (.inr rfl) (by rw[eB,a];decide) ⟨rfl,rfl,rfl,rfl⟩ ?_
  obtain⟨y,h1,_⟩|⟨k,h1,_,h3,h4⟩:=a1.cases
  ·rw[h1]at a2;cases a2
  refine SJ ha c.fl ?_;rw[h3];unfold rq at h4;split at h4
  ·rename_i e;cases e
  ·rename_i e;cases e
  ·rename_i e;cases e;exact h1
  ·rename_i e;cases e;exact h1
  ·exact h4.elim
 ·have nx:=aj5 (l:=l) (bw:=bw) (ro:=ro) (t:=t) (by rw[ht];exact c.tid a1.ne) ha a3 c.fl
  exact tr c (.inr nx.2) (by rw[eB,a];decide) ⟨rfl,rfl,rfl,rfl⟩ (by rw[nx.2];exact nx.1)
def aj7(c:Cx l P bw ro G i W)(a:W.cT= .m .register):rV l P bw ro ro G i W (register G W (G.tk (W.target.getD 0))):=by
 have ct:=c.ct;unfold cD at ct;rw[a]at ct;dsimp only at ct;obtain⟨a1,a2⟩:=ct;obtain⟨y,h1,h2,h3⟩|⟨k,h1,_⟩:=a1.cases;rotate_left
 ·rw[h1]at a2;cases a2
 have hy:W.target.getD 0=y:=by rw[h2];rfl
 have hl:=(c.ty.qh h3.2.2.2).w;unfold register;rw[hy];refine ER (m:=[]) c (c.ty.ad hl trivial) bf rfl (by rw[List.append_nil];rfl) (xK c.ty rfl hl (λq=>q)) rfl rfl rfl rfl (by rw[a];decide) (by dsimp only;rw[h1];simp) (λ_=> ?_) (λ_=> ?_)
 ·unfold cD;dsimp only;rw[h1];exact⟨a1.ne,h3⟩
 ·refine⟨λq=> ?_,λ_=>a2,λ_ _=>rfl⟩;unfold Wk.waits at q;dsimp only at q;rw[h1]at q;cases q
def Wd(c:Cx l P bw ro G i W)(hne:W.stack≠ [])(hk:rq P G.ts.length (G.tk (W.stack.headD 0)) (.aw y))(hf:W.bO=true∨W.blocked=true→W.again= .aw y)(hW:W1.stack=W.stack∧W1.back=W.back∧W1.id=W.id∧W1.dq=W.dq∧W1.bO=W.bO∧W1.blocked=W.blocked):
  Nx l P bw ro (G.tick wk) W1 (Gi l G W1 (G.tk (W.stack.headD 0)) y).2:=by
 obtain⟨e1,e2,a,b,d,e⟩:=hW;have hin:=(c.ty.qh (c.top hne).2).inn;refine⟨rfl,rfl,rfl,rfl,by simp[Gi,Wk.looks],?_,?_⟩
 ·unfold cD Gi Wk.looks;dsimp only;rw[e1];exact⟨_,rfl,rfl,hin,.refl hin.1 hin.2,hne,⟨hne,hk,rfl⟩,rfl,rfl⟩
 ·exact⟨λq=>by unfold Wk.waits Gi Wk.looks at q;(cases q),λ_=>rfl,λ_ q=>by rcases q with q|q<;>(cases q)⟩
def aE7(c:Cx l P bw ro G i W)(a:W.cT= .aw y)(ht:t=G.tk (W.stack.headD 0)):rV l P bw ro ro G i W (Gi l G W t y):=by
 have ct:=c.ct;unfold cD at ct;rw[a]at ct;dsimp only at ct;subst ht;refine tr c (.inr rfl) (by rw[eB,a];simp) ⟨rfl,rfl,rfl,rfl⟩ (Wd c ct.1 ct.2 (λq=> ?_) ⟨rfl,rfl,rfl,rfl,rfl,rfl⟩)
 rw[c.fl.ag q (by rw[a];exact .inl rfl),a]
def aE8{k:Kn}(c:Cx l P bw ro G i W)(a:W.cT= .sh k)(ht:t=G.tk (W.stack.headD 0)):rV l P bw ro ro G i W (G,shut W k t):=by
 have ct:=c.ct;unfold cD at ct;rw[a]at ct;dsimp only at ct;have hr:W.bO=false:=by
  cases h:W.bO with
  |false=>rfl
  |true=>
   have h1:=c.fl.SG h;rw[c.fl.ag (.inl h) (by rw[a];exact .inr rfl),a]at h1
   cases h1
 exact tr c (.inl rfl) (by rw[eB,a];simp) ⟨rfl,rfl,rfl,rfl⟩ (Yi ct.1 ct.2 hr λq=>by rw[c.fl.ag (.inr q) (by rw[a];exact .inr rfl),a])
def azf(c:Cx l P bw ro G i W)(b:W.cT= .m .Io)(ht:t=G.tk (W.stack.headD 0)):rV l P bw ro ro G i W (Io l G W t):=by
 have ct:=c.ct;unfold cD at ct;rw[b]at ct;dsimp only at ct;subst ht;unfold Io again;dsimp only;obtain⟨y,h1,h2,h3⟩|⟨k,h1,h2,h3,h4⟩:=ct.cases
 ·rw[h1];dsimp only;have nx:=Wd (wk:=W.id) c ct.ne h3 (λ_=>h1) ⟨rfl,rfl,rfl,rfl,rfl,rfl⟩
  exact tr c (.inr rfl) (by rw[eB,b];simp) ⟨rfl,rfl,rfl,rfl⟩ nx
 ·rw[h1];dsimp only;have hr:W.bO=false:=by
   cases h:W.bO with
   |false=>rfl
   |true=>have a:=c.fl.SG h;rw[h1]at a;cases a
  exact tr (W1:={W with wait:=⟨0,W.wait.seen⟩}) c (.inl rfl) (by rw[eB,b];simp) ⟨rfl,rfl,rfl,rfl⟩ (Yi ct.ne h4 hr λq=>h1)
def azg(c:Cx l P bw ro G i W)(a:W.cT= .m .join)(ht:t=G.tk (W.stack.headD 0)):rV l P bw ro ro G i W (join l P G W t):=by
 have ct:=c.ct;unfold cD at ct;rw[a]at ct;dsimp only at ct;subst ht;obtain⟨a1,a2,a3⟩:=ct;obtain⟨b1,b2⟩:=a2.fi.hand c.acc a3;have hf:=c.fl.no (by unfold Wk.waits;rw[a])
 unfold join;dsimp only;have e:(if (bz P (G.tk (W.stack.headD 0)).f).getD 0 0=10 then(bz P (G.tk (W.stack.headD 0)).f).getD 3 0 else(bz P (G.tk (W.stack.headD 0)).f).getD 2 0)=G6 (bz P (G.tk (W.stack.headD 0)).f):=rfl
 rw[e];refine tr c (.inr rfl) (by rw[eB,a];decide) ⟨rfl,rfl,rfl,rfl⟩ (Wd c a1 ⟨a2,a3,?_,?_⟩ (λq=>by rw[hf.1,hf.2]at q;rcases q with q|q<;>cases q) ⟨rfl,rfl,rfl,rfl,rfl,rfl⟩)
 ·unfold hand;omega
 ·omega
end
structure Sm (t t':Tk):Prop where
 id:t'.id=t.id
 l7:t'.l7=t.l7
 own:t'.own=t.own
 jI:t'.jI=t.jI
section
variable{l:Lc}{P:List dB}{bw:List Int}{ro iT:List Ro}{G G' G1:Gl}{hold:List Nat}{W W' W1:Wk}{t t':Tk}{n i x y:Nat}{r:Ro}
def Ux.to{nC:Nat}(h:Ux ro nC x t)(hs:Sm t t')(ho:∀p∈t'.cJ,0≤p.1∧p.1<nC)(hn:t'.gL.size+t'.cJ.length≤t'.scopes.length)(hl:t'.scopes.length≤nC):Ux ro nC x t':=
 ⟨by rw[hs.id];exact h.id,by rw[hs.jI];exact h.k,by rw[hs.jI];exact h.v,by rw[hs.jI];exact h.w,by rw[hs.l7];exact h.inn,by rw[hs.own];exact h.own,ho,hn,hl⟩
def Ux.f{nC:Nat}(h:Ux ro nC x t){f:List Int}{kind v:Int}:Ux ro nC x {t with f:=f,kind:=kind,v:=v}:=h.to ⟨rfl,rfl,rfl,rfl⟩ h.cJ h.sn h.sl
def Cx.ne0(c:Cx l P bw ro G i W)(h:W.stack≠ []):∃x st,W.stack=x::st∧W.stack.headD 0=x∧x<G.ts.length:=by
 obtain⟨x,st,e⟩:=List.exists_cons_of_ne_nil h;exact⟨x,st,e,by rw[e];rfl,by have:=(c.top h).2;rw[e]at this;exact this⟩
def Yk{r:Gl}(hr:r.ts=G.ts.set x t')(hx:x<G.ts.length):r.tk x=t'∧r.ts.length=G.ts.length:=by
 refine⟨?_,by rw[hr];simp⟩
 unfold Gl.tk;rw[hr,uO hx];rfl
def ahG{r:SW}(M:bJ)(steps:Int)(tm:Int×List (Int×Int))(p:List Pl)(c:Cx l P bw ro G i W)(hne:W.stack≠ [])(hx:W.stack.headD 0=x)(hr:r.1={G with M:=M,ts:=G.ts.set x t',steps:=steps,time:=tm,P:=p})
  (e:Ty l ro (G.mem M)) (f:∀a s,k9 ro a s→s.JS→M.get a=G.M.get a) (hs:Sm (G.tk x) t') (hT:Ux ro G.C.length x t') (b:CK tm) (d:∀y∈tm.2,y.2<G.C.length) (hp:p.length=G.P.length)
  (g:eB W) (h3:W1.stack=W.stack∧W1.back=W.back∧W1.id=W.id∧W1.dq=W.dq) (nx:r.1.tk x=t'→r.1.ts.length=G.ts.length→Nx l P bw ro r.1 W1 r.2):rV l P bw ro ro G i W r:=by
 have j:x<G.ts.length:=by rw[←hx];exact(c.top hne).2
 obtain⟨e1,e2⟩:=Yk (r:=r.1) (by rw[hr]) j
 replace nx:=nx e1 e2;have ty:Ty l ro r.1:=by
  rw[hr];have h:=e.set (λ_=>hT);exact{h with ck:=b,Qn:=d,pl:=by show p.length=_;rw[hp];exact c.ty.pl}
 exact avP (m:=[]) c hne ty bf (by rw[hr,hx]) (by rw[hr,List.append_nil]) (λa s h4 h5=>by rw[hr];exact f a s h4 h5) (by rw[hx];exact hs.l7) (by rw[hx];exact hs.own) (by rw[hx];exact hs.jI) (by rw[nx.st,h3.1]) (by rw[nx.bk,h3.2.1]) (by rw[nx.id,h3.2.2.1]) (by rw[nx.dq,h3.2.2.2]) g nx.ns (λ_=>nx.ct) (λ_=>nx.fl)
def ZM{r:SW}(c:Cx l P bw ro G i W)(hne:W.stack≠ [])(hx:W.stack.headD 0=x)(b:G1=G∨G1=G.tick W.id)(hr:r.1=G1.set x t'∨r.1=(G1.set x t').lZ)(hs:Sm (G.tk x) t')(hT:Ux ro G.C.length x t')
  (d:eB W) (h3:W1.stack=W.stack∧W1.back=W.back∧W1.id=W.id∧W1.dq=W.dq) (nx:r.1.tk x=t'→r.1.ts.length=G.ts.length→Nx l P bw ro r.1 W1 r.2):rV l P bw ro ro G i W r:=by
 have f:Ty l ro (G.mem G1.M):=by rcases b with e|e<;>rw[e];exact c.ty;exact c.tt
 have hp:∀a s,k9 ro a s→s.JS→G1.M.get a=G.M.get a:=by intro a s _ _;rcases b with e|e<;>rw[e];rfl
 rcases hr with hr|hr
 ·exact ahG G1.M G.steps G.time G.P c hne hx (by rw[hr];rcases b with e|e<;>rw[e] <;>rfl) f hp hs hT c.ty.ck c.ty.Qn rfl d h3 nx
 ·exact ahG G1.M (wr (G.steps+1)) G.time G.P c hne hx (by rw[hr];rcases b with e|e<;>rw[e] <;>rfl) f hp hs hT c.ty.ck c.ty.Qn rfl d h3 nx
def vL{e:Int}(c:Cx l P bw ro G i W)(b:G1=G∨G1=G.tick W.id)(he:e≠0)(d:eB W)(h3:W1.stack=W.stack∧W1.back=W.back∧W1.id=W.id∧W1.dq=W.dq∧W1.cT=W.cT):rV l P bw ro ro G i W (G1.fail e,W1):=by
 have ty:Ty l ro (G1.fail e):=by rcases b with q|q<;>rw[q];exact{c.ty with};exact{c.tt with}
 refine ahF (m:=[]) (mc:=[]) c ty bf ?_ ?_ (λa s _ _=> ?_) d ⟨h3.1,h3.2.1,h3.2.2.1,h3.2.2.2.1⟩ (λq=>absurd q he) ⟨rfl,rfl,rfl,rfl,by rw[h3.2.2.2.2];exact d.1⟩
 ·rcases b with q|q<;>rw[q] <;>rfl
 ·rcases b with q|q<;>rw[q,List.append_nil] <;>rfl
 ·rcases b with q|q<;>rw[q] <;>rfl
def ahH{kind:Int}(c:Cx l P bw ro G i W)(hne:W.stack≠ [])(hx:W.stack.headD 0=x)(ht:t=G.tk x)(a:G1=G∨G1=G.tick W.id)(hk:2≤kind∧kind≤4)(h1:W.bO=false)(h2:W.blocked=false)(b:eB W)
  (h3:W1.stack=W.stack∧W1.back=W.back∧W1.id=W.id∧W1.dq=W.dq∧W1.bO=W.bO∧W1.blocked=W.blocked):rV l P bw ro ro G i W (ends G1 W1 x t kind v):=by
 have d:x<G.ts.length:=by rw[←hx];exact(c.top hne).2
 subst ht;refine ZM c hne hx a (.inl rfl) ⟨rfl,rfl,rfl,rfl⟩ ((c.ty.qh d).f) b ⟨h3.1,h3.2.1,h3.2.2.1,h3.2.2.2.1⟩ λe1 e2=> ?_
 have:=OL (l:=l) (P:=P) (bw:=bw) (ro:=ro) (t:={G.tk x with kind:=kind,v:=v}) (by rw[h3.1];exact hne) (by rw[h3.1,hx];exact e1) ⟨hk.1,hk.2⟩ (by rw[h3.2.2.2.2.1];exact h1) (by rw[h3.2.2.2.2.2];exact h2)
 exact this
def an9(c:Cx l P bw ro G i W)(hne:W.stack≠ [])(hx:W.stack.headD 0=x)(ht:t=G.tk x)(d:G1=G∨G1=G.tick W.id)(hR:BT P G.ts.length (G.tk x))(h1:W.bO=false)(h2:W.blocked=false)(g:eB W)
  (h3:W1.stack=W.stack∧W1.back=W.back∧W1.id=W.id∧W1.dq=W.dq∧W1.bO=W.bO∧W1.blocked=W.blocked∧W1.cT=W.cT):rV l P bw ro ro G i W (afr l G1 W1 x t (bz P t.f)):=by
 have k:x<G.ts.length:=by rw[←hx];exact(c.top hne).2
 subst ht;unfold afr;split
 ·exact vL c d e7 g ⟨h3.1,h3.2.1,h3.2.2.1,h3.2.2.2.1,h3.2.2.2.2.2.2⟩
 split
 ·rename_i hp;refine ZM c hne hx d (.inr rfl) ⟨rfl,rfl,rfl,rfl⟩ ((c.ty.qh k).f) g ⟨h3.1,h3.2.1,h3.2.2.1,h3.2.2.2.1⟩ λe1 e2=> ?_
  refine⟨rfl,rfl,rfl,rfl,by simp[Wk.go],?_,oY (by rw[←h1];exact h3.2.2.2.2.1) (by rw[←h2];exact h3.2.2.2.2.2.1)⟩
  unfold cD Wk.go;dsimp only;rw[h3.1,hx];refine⟨hne,?_⟩;rw[show Gl.tk _ x=_ from e1];exact⟨(hR.fi.plain c.acc hp).imp λz hz=>⟨hz.1,by rw[e2];exact hz.2⟩,hR.kind⟩
 ·rename_i hp;have hop:=(hR.fi.aCf c.acc).2 (gq hp)
  have n:Nx l P bw ro G1 W1 (W1.go (adl ((bz P (G.tk x).f).getD 0 0))):=by
   refine⟨rfl,rfl,rfl,rfl,?_,?_,oY (by rw[←h1];exact h3.2.2.2.2.1) (by rw[←h2];exact h3.2.2.2.2.2.1)⟩
   ·show Kn.m (adl ((bz P (G.tk x).f).getD 0 0))≠ .m .start;have:(bz P (G.tk x).f).getD 0 0=8∨(bz P (G.tk x).f).getD 0 0=9∨(bz P (G.tk x).f).getD 0 0=10∨(bz P (G.tk x).f).getD 0 0=11∨(bz P (G.tk x).f).getD 0 0=12∨(bz P (G.tk x).f).getD 0 0=13∨(bz P (G.tk x).f).getD 0 0=14∨(bz P (G.tk x).f).getD 0 0=15∨(bz P (G.tk x).f).getD 0 0=16:=af;rcases this with e|e|e|e|e|e|e|e|e<;>rw[e] <;>decide
   ·have hst:W1.stack≠ []:=by rw[h3.1];exact hne
    have j:G1.tk (W1.stack.headD 0)=G.tk x:=by rw[h3.1,hx];rcases d with e|e<;>rw[e];rfl
    have hn:G1.ts.length=G.ts.length:=by rcases d with e|e<;>rw[e];rfl
    have b:BT P G1.ts.length (G1.tk (W1.stack.headD 0)):=by rw[j,hn];exact hR
    have:(bz P (G.tk x).f).getD 0 0=8∨(bz P (G.tk x).f).getD 0 0=9∨(bz P (G.tk x).f).getD 0 0=10∨(bz P (G.tk x).f).getD 0 0=11∨(bz P (G.tk x).f).getD 0 0=12∨(bz P (G.tk x).f).getD 0 0=13∨(bz P (G.tk x).f).getD 0 0=14∨(bz P (G.tk x).f).getD 0 0=15∨(bz P (G.tk x).f).getD 0 0=16:=af;have a:Ip P (G1.tk (W1.stack.headD 0))=(bz P (G.tk x).f).getD 0 0:=by rw[j]
    rcases this with e|e|e|e|e|e|e|e|e<;>rw[e]at a ⊢ <;>unfold cD Wk.go adl
    ·exact⟨hst,b,a⟩
    ·exact⟨hst,b,.inl a⟩
    ·exact⟨hst,b,.inr a⟩
    ·exact⟨hst,b,a⟩
    ·exact⟨hst,b,a⟩
    ·exact⟨hst,b,a⟩
    ·exact⟨hst,b,a⟩
    ·exact⟨hst,b,.inl a⟩
    ·exact⟨hst,b,.inr a⟩
  exact tr c d g ⟨h3.1,h3.2.1,h3.2.2.1,h3.2.2.2.1⟩ n
def azh(c:Cx l P bw ro G i W)(a:W.cT= .m .next)(hx:W.stack.headD 0=x)(ht:t=G.tk x):rV l P bw ro ro G i W (V7 l P G W x t):=by
 have ct:=c.ct;unfold cD at ct;rw[a]at ct;dsimp only at ct;obtain⟨a1,a2⟩:=ct;rw[hx]at a2;have hf:=c.fl.no (by unfold Wk.waits;rw[a])
 subst ht;have hin:=(c.ty.qh (c.top a1).2).inn;rw[hx]at hin;unfold V7;split
 ·refine tr c (.inl rfl) (by rw[eB,a];decide) ⟨rfl,rfl,rfl,rfl⟩ ⟨rfl,rfl,rfl,rfl,by simp[Wk.looks],?_,oY hf.1 hf.2⟩
  unfold cD Wk.looks;dsimp only;rw[hx];exact⟨_,rfl,rfl,hin,.refl hin.1 hin.2,a1,a2,rfl⟩
 ·exact an9 c a1 hx rfl (.inl rfl) a2 hf.1 hf.2 (by rw[eB,a];decide) ⟨rfl,rfl,rfl,rfl,rfl,rfl,rfl⟩
def avX{k:Lk}(h1:W.cT= .m .looking)(h2:W.look=some k)(hx:W.stack.headD 0=x)(a1:k.done=false)(a2:0≤k.at_∧k.at_<G.C.length)(a3:O8 G.C (G.tk x).l7 k.at_)(a4:W.stack≠ [])(a5:match W.seen with
  | .nx i=>BT P G.ts.length (G.tk x)∧i=bz P (G.tk x).f
  | .c .th=>rC P G W∧zk W.again=true∧W.wait.how=1
  | .c .xp=>BT P G.ts.length (G.tk x)
  |_=>False):cD l P bw ro G W:=by
 unfold cD;dsimp only;rw[h1];dsimp only;subst hx;exact⟨k,h2,a1,a2,a3,a4,a5⟩
def amo{k:Lk}(c:Cx l P bw ro G i W)(a:W.cT= .m .looking)(hk:W.look=some k)(hx:W.stack.headD 0=x)(ht:t=G.tk x):rV l P bw ro ro G i W (looking l G W k (G.nd k.at_) x t):=by
 have ct:=c.ct;unfold cD at ct;rw[a]at ct;dsimp only at ct;obtain⟨k',hk',a1,a2,a3,a4,a5⟩:=ct;rw[hk]at hk';cases hk';rw[hx]at a3 a5;subst ht;obtain⟨hsc,n⟩:=c.ty.O7 a2.1 a2.2;have d:eB W:=by rw[eB,a];decide
 unfold looking;dsimp only;split
 ·rename_i hd;have e:(k.go G.M (G.nd k.at_)).xm=true→SE G (G.tk x):=λq=>by
   unfold Lk.go at q;dsimp only at q;exact⟨k.at_,a3,_,hsc,gq q⟩
  split at a5
  ·rename_i hs;have e1:∀b,Sy l (G.tick W.id) {W with look:=some (k.go G.M (G.nd k.at_))} x (G.tk x) b=adm l (G.tick W.id) {W with look:=some (k.go G.M (G.nd k.at_))} x (G.tk x) _ b:=λb=>by unfold Sy;dsimp only;rw[hs]
   rw[e1];have hf:=c.fl.no (by unfold Wk.waits;rw[a];dsimp only;rw[hs])
   unfold adm;rw[a5.2];split
   ·exact ahH c a4 hx rfl (.inr rfl) ⟨e7,e7⟩ hf.1 hf.2 d ⟨rfl,rfl,rfl,rfl,rfl,rfl⟩
   ·exact an9 c a4 hx rfl (.inr rfl) a5.1 hf.1 hf.2 d ⟨rfl,rfl,rfl,rfl,rfl,rfl,rfl⟩
  ·rename_i hs;have e1:∀b,Sy l (G.tick W.id) {W with look:=some (k.go G.M (G.nd k.at_))} x (G.tk x) b=th (G.tick W.id) {W with look:=some (k.go G.M (G.nd k.at_))} b:=λb=>by unfold Sy;dsimp only;rw[hs]
   rw[e1];unfold th;obtain⟨b1,b2,b3⟩:=a5;have ha:rC P (G.tick W.id) {W with look:=some (k.go G.M (G.nd k.at_))}:=⟨b1.ne,b1.hm,b1.tg⟩;have hfl:EQ {W with look:=some (k.go G.M (G.nd k.at_))}:=⟨λq=>c.fl.no q,c.fl.SG,c.fl.ag⟩
   refine tr (W1:={W with look:=some (k.go G.M (G.nd k.at_))}) c (.inr rfl) d ⟨rfl,rfl,rfl,rfl⟩ ?_;cases g:(k.go G.M (G.nd k.at_)).xm with
   |true=>
    rw[if_pos rfl];refine SJ ha hfl ⟨b2,?_⟩;show SE (G.tick W.id) (G.tk (W.stack.headD 0));rw[hx];obtain⟨b,h1,h2⟩:=e g;exact⟨b,h1,h2⟩
   |false=>
    rw[if_neg bf];exact⟨rfl,rfl,rfl,rfl,by simp[Wk.go],by unfold cD Wk.go;exact⟨ha.of rfl rfl rfl rfl,b2,b3⟩,aaw hfl rfl rfl rfl rfl ⟨rfl,rfl⟩⟩
  ·rename_i hs;have e1:∀b,Sy l (G.tick W.id) {W with look:=some (k.go G.M (G.nd k.at_))} x (G.tk x) b=xp (G.tick W.id) {W with look:=some (k.go G.M (G.nd k.at_))} x (G.tk x) b:=λb=>by unfold Sy;dsimp only;rw[hs]
   rw[e1];have hf:=c.fl.no (by unfold Wk.waits;rw[a];dsimp only;rw[hs])
   unfold xp;split
   ·exact ahH c a4 hx rfl (.inr rfl) ⟨e7,e7⟩ hf.1 hf.2 d ⟨rfl,rfl,rfl,rfl,rfl,rfl⟩
   ·refine tr c (.inr rfl) d ⟨rfl,rfl,rfl,rfl⟩ ⟨rfl,rfl,rfl,rfl,by simp[Wk.go],?_,oY hf.1 hf.2⟩
    unfold cD Wk.go;dsimp only;rw[hx];exact⟨a4,a5⟩
  ·exact a5.elim
 ·rename_i hd;have hd:(k.go G.M (G.nd k.at_)).done=false:=by simpa using hd
  have j:(k.go G.M (G.nd k.at_)).at_=(G.nd k.at_).parent:=rfl;have h0:k.at_≠0:=by intro q;unfold Lk.go at hd;dsimp only at hd;rw[q]at hd;simp at hd
  have hp:=n.p af;refine ER (m:=[]) c c.tt bf rfl (by rw[List.append_nil];rfl) (λ_ _ _ _=>rfl) rfl rfl rfl rfl d (by dsimp only;rw[a];simp) (λ_=> ?_) (λ_=>⟨λq=>c.fl.no q,c.fl.SG,c.fl.ag⟩)
  refine avX a rfl hx hd ⟨by rw[j];omega,by rw[j];show _<((G.C.length:Nat):Int);omega⟩ (by rw[j];exact a3.snoc hsc af af) a4 ?_
  have hq:rC P G W→rC P (G.tick W.id) {W with look:=some (k.go G.M (G.nd k.at_))}:=λq=>⟨q.ne,q.hm,q.tg⟩
  show match W.seen with
   | .nx i=>BT P G.ts.length (G.tk x)∧i=bz P (G.tk x).f
   | .c .th=>rC P (G.tick W.id) {W with look:=some (k.go G.M (G.nd k.at_))}∧zk W.again=true∧W.wait.how=1
   | .c .xp=>BT P G.ts.length (G.tk x)
   |_=>False
  generalize rC P (G.tick W.id) {W with look:=some (k.go G.M (G.nd k.at_))}=Q at hq ⊢;split at a5<;>rename_i hs
  ·first|(rw[hs];exact a5)|exact a5
  ·first|(rw[hs];exact⟨hq a5.1,a5.2⟩)|exact⟨hq a5.1,a5.2⟩
  ·first|(rw[hs];exact a5)|exact a5
  ·exact a5.elim
end
section
variable{l:Lc}{P:List dB}{bw:List Int}{ro iT:List Ro}{G G' G1:Gl}{hold:List Nat}{W W' W1:Wk}{t t':Tk}{n i x y:Nat}{r:Ro}
def avY(h:t.cJ≠ []):t.kA∈t.cJ:=by
 obtain⟨o,m,a⟩:∃o m,t.cJ=o++[m]:=⟨_,_,(List.dropLast_concat_getLast h).symm⟩;rw[Cr a,a];simp
def BT.cJ(h:BT P n t):t.cJ≠ []:=by have:=h.fi.d1;intro q;rw[q]at this;simp at this
def Cx.kA(c:Cx l P bw ro G i W)(hx:x<G.ts.length)(ho:(G.tk x).cJ≠ []):0≤(G.tk x).kA.1∧(G.tk x).kA.1<G.C.length:=(c.ty.qh hx).cJ _ (avY ho)
def azj(c:Cx l P bw ro G i W)(a:W.cT= .m .pass)(hx:W.stack.headD 0=x)(ht:t=G.tk x):rV l P bw ro ro G i W (pass l G W x t):=by
 have ct:=c.ct;unfold cD at ct;rw[a]at ct;dsimp only at ct;obtain⟨a1,a2,a3⟩:=ct;rw[hx]at a2 a3;have d:x<G.ts.length:=by rw[←hx];exact(c.top a1).2
 have hf:=c.fl.no (by unfold Wk.waits;rw[a])
 have b:eB W:=by rw[eB,a];decide
 subst ht;unfold pass;split
 ·exact vL c (.inl rfl) e7 b ⟨rfl,rfl,rfl,rfl,rfl⟩
 ·refine ZM c a1 hx (.inl rfl) (.inr rfl) ⟨rfl,rfl,rfl,rfl⟩ ((c.ty.qh d).f) b ⟨rfl,rfl,rfl,rfl⟩ λe1 e2=> ?_
  refine⟨rfl,rfl,rfl,rfl,by simp[Wk.go],?_,oY hf.1 hf.2⟩
  unfold cD Wk.go;dsimp only;rw[hx,show Gl.tk _ x=_ from e1];exact⟨a1,⟨(a2.fi.on c.acc (.inr a3)).imp λz hz=>⟨hz.1,by rw[e2];exact hz.2⟩,a2.kind⟩⟩
def aqA(c:Cx l P bw ro G i W)(o:W.cT= .m .cancel)(hx:W.stack.headD 0=x)(ht:t=G.tk x):rV l P bw ro ro G i W (cancel l G W x t (G.nd t.kA.1)):=by
 have ct:=c.ct;unfold cD at ct;rw[o]at ct;dsimp only at ct;obtain⟨a1,a2,a3⟩:=ct;rw[hx]at a2 a3;have g:x<G.ts.length:=by rw[←hx];exact(c.top a1).2
 have hf:=c.fl.no (by unfold Wk.waits;rw[o])
 have d:eB W:=by rw[eB,o];decide
 subst ht;unfold cancel;split
 ·exact vL c (.inl rfl) e7 d ⟨rfl,rfl,rfl,rfl,rfl⟩
 have hin:=c.kA g a2.cJ;obtain⟨hsc,e⟩:=c.ty.O7 hin.1 hin.2;have hlt:=e.a.lt;rw[c.ty.len]at hlt;have p:Ty l ro (G.mem (G.M.cs W.id (G.nd (G.tk x).kA.1).at_ 0 1).1):=c.ty.cs e.a (.inr rfl);have j:∀b,0≤b→(G.M.cs W.id (G.nd (G.tk x).kA.1).at_ 0 1).1.get b=if b=(G.nd (G.tk x).kA.1).at_∧G.M.get (G.nd (G.tk x).kA.1).at_=0 then 1 else G.M.get b:=λb hb=>abi e.a.1 hlt hb
 have s:uN ro ro G (G.mem (G.M.cs W.id (G.nd (G.tk x).kA.1).at_ 0 1).1) W.hold:=by
  have hK:∀y,y<G.ts.length→(G.mem (G.M.cs W.id (G.nd (G.tk x).kA.1).at_ 0 1).1).K y=G.K y∧(G.mem (G.M.cs W.id (G.nd (G.tk x).kA.1).at_ 0 1).1).V y=G.V y:=λy hy=>by
   have hk:=(c.ty.qh hy).k;have hv:=(c.ty.qh hy).v;unfold Gl.K Gl.V;have e1:(G.mem (G.M.cs W.id (G.nd (G.tk x).kA.1).at_ 0 1).1).tk y=G.tk y:=rfl;rw[e1];have n1:=hk.ne e.a bf;have n2:=hv.ne e.a bf;show(G.M.cs _ _ _ _).1.get _=_∧(G.M.cs _ _ _ _).1.get _=_;rw[j _ hk.1,if_neg (λq=>n1 q.1),j _ hv.1,if_neg (λq=>n2 q.1)];exact⟨rfl,rfl⟩
  refine⟨⟨[],bf⟩,iw _,λ_ _ _=>rfl,λ_ _=>⟨rfl,rfl,rfl⟩,⟨[],by simp[Gl.mem]⟩,λy hy q=>by rw[←(hK y hy).1];exact q,λy hy _ _=>hK y hy,λy hy _=>hK y hy,λs' ⟨nd,h1,h2⟩=>⟨nd,h1,?_⟩⟩
  show(G.M.cs _ _ _ _).1.get _≠0;rw[j _ (JL c.ty h1).1];split
  ·decide
  ·exact h2
 obtain⟨e1,e2⟩:=Yk (r:=((G.mem (G.M.cs W.id (G.nd (G.tk x).kA.1).at_ 0 1).1).set x {G.tk x with f:=nE (G.tk x).f}).lZ) (G:=G) rfl g;have hT:Ux ro G.C.length x {G.tk x with f:=nE (G.tk x).f}:=(c.ty.qh g).f;have hmem:x∈W.hold:=by
  obtain⟨z,st,h1,h2,_⟩:=c.ne0 a1;rw[kL d.1,h1,←hx,h2];simp
 have Cd:uN ro ro G ((G.mem (G.M.cs W.id (G.nd (G.tk x).kA.1).at_ 0 1).1).set x {G.tk x with f:=nE (G.tk x).f}).lZ W.hold:=by
  have h:=s.trans (adz (t':={G.tk x with f:=nE (G.tk x).f}) hmem g rfl rfl rfl) (.inl rfl);exact⟨h.ext,h.n,h.ts,h.ids,h.C,h.K0,h.K1,h.K2,h.ask⟩
 obtain⟨z,st,q1,B,_⟩:=c.ne0 a1;have hz:z=x:=by rw[←hx,B]
 subst hz;have hnd:=c.wt.nd;rw[kL d.1,q1]at hnd;refine afC c ?_ Cd rfl rfl rfl rfl d (by simp[Wk.JF]) (λy hy=> ?_) (λy hy=> ?_) (λ_=> ?_) (λ_=>oY hf.1 hf.2) (λy h1 h2=>by rw[e2]at h2;omega)
 ·have h:=p.set (λ_=>hT)
  exact{h with}
 ·rw[q1]at hy;show Gl.tk _ y=_;unfold Gl.tk;show(((G.ts.set z _))[y]?).getD tk0=_;rw[r0 (by rintro rfl;exact(List.nodup_cons.1 hnd).1 hy)]
 ·have u:=c.wt.hl y (by rw[kL d.1];exact hy)
  have h1:=c.wt.run y (by rw[kL d.1];exact hy)
  have:=(Cd.K2 y u);by_cases A:2≤G.K y
  ·exact(this A).1
  ·have hk:=(c.ty.qh u).k;have n1:=hk.ne e.a bf;unfold Gl.K;rw[(Cd.ids y u).2.2];show(G.M.cs _ _ _ _).1.get _=_;rw[j _ hk.1,if_neg (λq=>n1 q.1)]
 ·unfold cD Wk.JF;dsimp only;rw[q1];show rq P _ (Gl.tk _ z) (.m .next)
  rw[show Gl.tk _ z=_ from e1];exact⟨(a2.fi.on c.acc (.inl a3)).imp λz hz=>⟨hz.1,by rw[e2];exact hz.2⟩,a2.kind⟩
def avZ(c:Cx l P bw ro G i W)(a:W.cT= .m .leave)(hx:W.stack.headD 0=x)(ht:t=G.tk x):rV l P bw ro ro G i W (leave l P G W x t):=by
 have ct:=c.ct;unfold cD at ct;rw[a]at ct;dsimp only at ct;obtain⟨a1,a2,a3⟩:=ct;rw[hx]at a2 a3;have d:x<G.ts.length:=by rw[←hx];exact(c.top a1).2
 have hf:=c.fl.no (by unfold Wk.waits;rw[a])
 have b:eB W:=by rw[eB,a];decide
 subst ht;unfold leave;dsimp only;split
 ·exact vL c (.inl rfl) e7 b ⟨rfl,rfl,rfl,rfl,rfl⟩
 ·refine ZM c a1 hx (.inl rfl) (.inr rfl) ⟨rfl,rfl,rfl,rfl⟩ (c.ty.qh d).f b ⟨rfl,rfl,rfl,rfl⟩ λe1 e2=> ?_
  have hE:Ends {G.tk x with f:=nE (G.tk x).f,kind:=if (bz P (G.tk x).f).getD 0 0=15 then 3 else 2,v:=(G.tk x).f.getD (2+((bz P (G.tk x).f).getD 1 0).toNat) 0}:=⟨by dsimp only;split<;>decide,by dsimp only;split<;>decide⟩
  exact OL (t:={G.tk x with f:=nE (G.tk x).f,kind:=if (bz P (G.tk x).f).getD 0 0=15 then 3 else 2,v:=(G.tk x).f.getD (2+((bz P (G.tk x).f).getD 1 0).toNat) 0}) a1 (by rw[hx];exact e1) hE hf.1 hf.2
def av0(c:Cx l P bw ro G i W)(a:W.cT= .m .close)(hx:W.stack.headD 0=x)(ht:t=G.tk x):rV l P bw ro ro G i W (close_ G W t):=by
 have ct:=c.ct;unfold cD at ct;rw[a]at ct;dsimp only at ct;obtain⟨a1,a2,a3⟩:=ct;have hf:=c.fl.no (by unfold Wk.waits;rw[a])
 exact tr c (.inl rfl) (by rw[eB,a];decide) ⟨rfl,rfl,rfl,rfl⟩ (Yi a1 ⟨a2,a3⟩ hf.1 λq=>by rw[hf.2]at q;cases q)
def aay{p:List Pl}:(Cq p s).length=p.length:=by unfold Cq;split<;>simp
def aoa(h:t.cJ≠ []):t.cJ.dropLast.length+1=t.cJ.length:=by
 have:=List.length_pos_iff.2 h;simp;omega
def aqB(c:Cx l P bw ro G i W)(a:W.cT= .m .gL)(hx:W.stack.headD 0=x)(ht:t=G.tk x):rV l P bw ro ro G i W (gL l P G W x t (G.nd t.kA.1)):=by
 have ct:=c.ct;unfold cD at ct;rw[a]at ct;dsimp only at ct;obtain⟨a1,a2,a3⟩:=ct;rw[hx]at a2 a3;have g:x<G.ts.length:=by rw[←hx];exact(c.top a1).2
 have hf:=c.fl.no (by unfold Wk.waits;rw[a])
 have d:eB W:=by rw[eB,a];decide
 subst ht;have hT:=c.ty.qh g;have hd:=a2.fi.scopes c.acc (.inl a3);have j:=aoa a2.cJ;have hcap:=c.ty.cap;have n:=hT.sn;have k:=hT.sl;unfold gL;dsimp only;split
 ·exact vL c (.inl rfl) e7 d ⟨rfl,rfl,rfl,rfl,rfl⟩
 generalize hb:(G.M.get (G.nd (G.tk x).kA.1).at_ !=0)=b;have hsz:((G.tk x).gL++(if b then ByteArray.mk #[49]else ByteArray.mk #[48])).size=(G.tk x).gL.size+1:=by cases b<;>simp<;>rfl
 refine ahG (G.M.tick W.id) (wr (G.steps+1)) (G.time.1,Ko.EK G.time.2 (G.tk x).kA.1) (Cq G.P (G.tk x).kA.1) c a1 hx rfl c.tt (λ_ _ _ _=>rfl) ⟨rfl,rfl,rfl,rfl⟩ ?_ (c.ty.ck.drop _) (λy hy=>c.ty.Qn y (List.mem_filter.1 hy).1) aay d ⟨rfl,rfl,rfl,rfl⟩ λe1 e2=> ?_
 ·exact hT.to ⟨rfl,rfl,rfl,rfl⟩ (λp hp=>hT.cJ p (List.dropLast_subset _ hp)) (by dsimp only;rw[hsz];omega) k
 ·refine⟨rfl,rfl,rfl,rfl,by simp[Wk.go],?_,oY hf.1 hf.2⟩
  unfold cD Wk.go;dsimp only;rw[hx,show Gl.tk _ x=_ from e1];refine⟨a1,⟨?_,a2.kind⟩⟩;have h:=a2.fi.gL (b:=b) c.acc af a3;have e:(G.tk x).cJ.dropLast.length=(G.tk x).cJ.length - 1:=af;show FI P _ (iG (G.tk x).f (bz P (G.tk x).f) b) (G.tk x).cJ.dropLast.length;rw[e];exact h.imp λz hz=>⟨hz.1,by rw[e2];exact hz.2⟩
def aqC(c:Cx l P bw ro G i W)(a:W.cT= .m .joined)(hx:W.stack.headD 0=x)(ht:t=G.tk x):rV l P bw ro ro G i W (joined l P G W x t (G.tk (W.target.getD 0))):=by
 have ct:=c.ct;unfold cD at ct;rw[a]at ct;dsimp only at ct;obtain⟨a1,a2,a3,a4⟩:=ct;obtain⟨y,h1,h2,h3⟩|⟨k,h1,_⟩:=a1.cases;rotate_left
 ·rw[h1]at a2;cases a2
 have e:x<G.ts.length:=by rw[←hx];exact(c.top a1.ne).2
 have hf:=c.fl.no (by unfold Wk.waits;rw[a])
 have b:eB W:=by rw[eB,a];decide
 subst ht;rw[hx]at h3;obtain⟨b1,b2,b3,b4⟩:=h3;have hkk:=c.ty.val _ _ (c.ty.qh b4).k;have hy:W.target.getD 0=y:=by rw[h2];rfl
 have d:W.kind=2∨W.kind=3∨W.kind=4:=by
  rw[a3,hy]at a4 ⊢;have:=hkk.2;unfold Gl.K at a4 ⊢;omega
 unfold joined;dsimp only;split
 ·exact vL c (.inl rfl) e7 b ⟨rfl,rfl,rfl,rfl,rfl⟩
 generalize hv:(if W.kind=4 then(0:Int)else G.M.get ((G.tk (W.target.getD 0)).jI+1))=v
 have g:(if W.kind=4 then G else G.tick W.id)=G∨(if W.kind=4 then G else G.tick W.id)=G.tick W.id:=by split<;>simp
 split
 ·rename_i hb;refine ZM (W1:=W.go .next) c a1.ne hx g (.inr rfl) ⟨rfl,rfl,rfl,rfl⟩ (c.ty.qh e).f b ⟨rfl,rfl,rfl,rfl⟩ λe1 e2=>OL (t:={G.tk x with f:=(di (G.tk x).f (bz P (G.tk x).f) W.kind v).1,kind:=3,v:=(di (G.tk x).f (bz P (G.tk x).f) W.kind v).2.1}) a1.ne (by show Gl.tk _ (W.stack.headD 0)=_;rw[hx];exact e1) ⟨by show(2:Int)≤3;decide,by show(3:Int)≤4;decide⟩ hf.1 hf.2
 ·rename_i hb;refine ZM c a1.ne hx g (.inr rfl) ⟨rfl,rfl,rfl,rfl⟩ ((c.ty.qh e).f) b ⟨rfl,rfl,rfl,rfl⟩ λe1 e2=> ?_
  refine⟨rfl,rfl,rfl,rfl,by simp[Wk.go],?_,oY hf.1 hf.2⟩
  unfold cD Wk.go;dsimp only;rw[hx,show Gl.tk _ x=_ from e1];exact⟨a1.ne,⟨(b1.fi.joined c.acc b2 d (gq hb)).imp λz hz=>⟨hz.1,by rw[e2];exact hz.2⟩,b1.kind⟩⟩
end
section
variable{l:Lc}{P:List dB}{bw:List Int}{ro iT:List Ro}{G G' G1:Gl}{hold:List Nat}{W W' W1:Wk}{t t':Tk}{n i x y:Nat}{r:Ro}
def aj9(h:0≤z∧z≤32):wr (z+1)=z+1:=dh ⟨af,af⟩
def azk(c:Cx l P bw ro G i W)(b:W.cT= .m .fork)(hx:W.stack.headD 0=x)(ht:t=G.tk x):∃iT,rV l P bw ro iT G i W (fork G W t (G.nd t.kA.1)):=by
 have ct:=c.ct;unfold cD at ct;rw[b]at ct;dsimp only at ct;obtain⟨a1,a2,a3⟩:=ct;rw[hx]at a2 a3;have f:x<G.ts.length:=by rw[←hx];exact(c.top a1).2
 have hf:=c.fl.no (by unfold Wk.waits;rw[b])
 have d:eB W:=by rw[eB,b];decide
 subst ht;have hin:=c.kA f a2.cJ;obtain⟨hsc,e⟩:=c.ty.O7 hin.1 hin.2;unfold fork;split
 ·exact⟨ro,vL c (.inl rfl) e7 d ⟨rfl,rfl,rfl,rfl,rfl⟩⟩
 rename_i hn;split
 ·exact⟨ro,vL c (.inl rfl) e7 d ⟨rfl,rfl,rfl,rfl,rfl⟩⟩
 rename_i hr;have hr:G.M.room 2=true:=gq hr
 rw[aj9 e.n]at hn ⊢;have g:=e.n;have ty:=afD (nd:=⟨(G.tk x).kA.1,(G.nd (G.tk x).kA.1).nest+1,(G.M.cells.length:Nat)⟩) (pl:=(-2,0,0,false)) (wk:=W.id) c.ty hr hin ⟨by dsimp only;omega,by dsimp only;omega⟩ rfl c.ty.ck (λy hy=>by have:=c.ty.Qn y hy;omega)
 refine⟨_,ER c ty rfl rfl rfl (λa s hs _=> ?_) rfl rfl rfl rfl d bf (λ_=> ?_) (λ_=>oY hf.1 hf.2)⟩
 ·have:=hs.lt;rw[c.ty.len]at this;show((G.M.tick W.id).grow 2).get a=_;rw[xR (M:=G.M.tick W.id) hs.1 this,tT]
 ·unfold cD;dsimp only;rw[hx];exact⟨a1,a2,a3,af,by show((G.C.length:Nat):Int)<((G.C++[_]).length:Nat);simp;omega⟩
def aqD(c:Cx l P bw ro G i W)(a:W.cT= .m .tF)(hx:W.stack.headD 0=x)(ht:t=G.tk x):rV l P bw ro ro G i W (tF l G W (G.nd t.kA.1)):=by
 have ct:=c.ct;unfold cD at ct;rw[a]at ct;dsimp only at ct;obtain⟨a1,a2,a3⟩:=ct;rw[hx]at a2;have e:x<G.ts.length:=by rw[←hx];exact(c.top a1).2
 have hf:=c.fl.no (by unfold Wk.waits;rw[a])
 subst ht;have hin:=c.kA e a2.cJ;obtain⟨hsc,d⟩:=c.ty.O7 hin.1 hin.2;unfold tF;refine ER (m:=[]) c (c.ty.ad d.b trivial) bf rfl (by rw[List.append_nil];rfl) (xK c.ty rfl d.b (λq=>q)) rfl rfl rfl rfl (by rw[a];decide) (by simp[Wk.A6]) (λ_=> ?_) (λ_=>oY hf.1 hf.2)
 unfold cD Wk.A6;dsimp only;rw[hx];exact⟨_,rfl,a1,a2,a3,Yh c.ty.t1 a3 af,rfl⟩
def av1(c:Cx l P bw ro G i W)(p:W.cT= .m .xo)(hx:W.stack.headD 0=x)(ht:t=G.tk x):∃iT,rV l P bw ro iT G i W (KQ l P G W x t):=by
 have ct:=c.ct;unfold cD at ct;rw[p]at ct;dsimp only at ct;obtain⟨a1,a2,a3,a4⟩:=ct;rw[hx]at a2 a3;have q:x<G.ts.length:=by rw[←hx];exact(c.top a1).2
 have hf:=c.fl.no (by unfold Wk.waits;rw[p])
 have e:eB W:=by rw[eB,p];decide
 subst ht;have hin:=c.kA q a2.cJ;have hT:=c.ty.qh q;unfold KQ;dsimp only;split
 ·exact⟨ro,vL c (.inl rfl) e7 e ⟨rfl,rfl,rfl,rfl,rfl⟩⟩
 split
 ·exact⟨ro,vL c (.inl rfl) e7 e ⟨rfl,rfl,rfl,rfl,rfl⟩⟩
 rename_i hr;have hr:G.M.room 3=true:=gq hr
 obtain⟨g',g1,g2,g3,_,g5⟩:=a2.fi.fork c.acc a3;have g:∃kt,GV G.T (G.tk x).id=some kt:=by
  rw[hT.id];exact acH (by unfold Bb;simp;have:=c.ty.kl;omega)
 obtain⟨kt,g⟩:=g;have ty:=avQ (wk:=W.id) (f:=jo (G.tk x).f ((bz P (G.tk x).f).getD 4 0) (EN P ((bz P (G.tk x).f).getD 4 0))) c.ty hr g hin a4;generalize j:G.more W.id (G.tk x).id (G.tk x).kA.1 W.own (jo (G.tk x).f ((bz P (G.tk x).f).getD 4 0) (EN P ((bz P (G.tk x).f).getD 4 0)))=b at ty;have hts:b.ts=G.ts++[⟨(G.T.length:Nat),(G.tk x).kA.1,W.own,(G.M.cells.length:Nat),jo (G.tk x).f ((bz P (G.tk x).f).getD 4 0) (EN P ((bz P (G.tk x).f).getD 4 0)),ByteArray.mk #[],[],[W.own],0,0⟩]:=by rw[←j];rfl
 have hlen:b.ts.length=G.ts.length+1:=by rw[hts];simp
 have hC:b.C=G.C:=by rw[←j];rfl
 have F:∀a s,k9 ro a s→s.JS→b.M.get a=G.M.get a:=λa s hs _=>by
  have:=hs.lt;rw[c.ty.len]at this;rw[←j];show((G.M.tick W.id).grow 3).get a=_;rw[xR (M:=G.M.tick W.id) hs.1 this,tT]
 have u:uN ro (ro++[.fk G.ts.length,.fv G.ts.length,.fw G.ts.length]) G b W.hold:=adx (mc:=[]) c.ty rfl hts (by rw[hC];simp) F
 have d:b.tk x=G.tk x:=by unfold Gl.tk;rw[hts,tJ q]
 obtain⟨z,st,q1,H,_⟩:=c.ne0 a1;have hz:z=x:=by rw[←hx,H]
 subst hz;have hmem:z∈W.hold:=by rw[kL e.1,q1];simp
 have v:Ux (ro++[.fk G.ts.length,.fv G.ts.length,.fw G.ts.length]) b.C.length z {G.tk z with f:=eI (G.tk z).f (bz P (G.tk z).f) (G.ts.length:Nat)}:=by
  have:=ty.qh (x:=z) af;rw[d]at this;exact this.f
 have A:Ty l (ro++[.fk G.ts.length,.fv G.ts.length,.fw G.ts.length]) (b.set z {G.tk z with f:=eI (G.tk z).f (bz P (G.tk z).f) (G.ts.length:Nat)}).lZ:={ty.set (λ_=>v)with}
 have B:uN (ro++[.fk G.ts.length,.fv G.ts.length,.fw G.ts.length]) (ro++[.fk G.ts.length,.fv G.ts.length,.fw G.ts.length]) b (b.set z {G.tk z with f:=eI (G.tk z).f (bz P (G.tk z).f) (G.ts.length:Nat)}).lZ W.hold:=by
  have h:=adz (ro:=ro++[.fk G.ts.length,.fv G.ts.length,.fw G.ts.length]) (t':={G.tk z with f:=eI (G.tk z).f (bz P (G.tk z).f) (G.ts.length:Nat)}) (G:=b) hmem af (by rw[d]) (by rw[d]) (by rw[d])
  exact⟨h.ext,h.n,h.ts,h.ids,h.C,h.K0,h.K1,h.K2,h.ask⟩
 have Cd:=u.trans B (.inr λy hy=>c.wt.hl y hy);obtain⟨e1,e2⟩:=Yk (r:=(b.set z {G.tk z with f:=eI (G.tk z).f (bz P (G.tk z).f) (G.ts.length:Nat)}).lZ) rfl (by omega:z<b.ts.length)
 have hnd:=c.wt.nd;rw[kL e.1,q1]at hnd;refine⟨_,afC c A Cd rfl rfl rfl rfl e bf (λy hy=> ?_) (λy hy=> ?_) (λ_=> ?_) (λ_=>oY hf.1 hf.2) (λy h1 h2=> ?_)⟩
 ·rw[q1]at hy;have o:=c.wt.hl y (by rw[kL e.1,q1];simp[show y∈st from hy])
  show Gl.tk _ y=_;unfold Gl.tk;show(((b.ts.set z _))[y]?).getD tk0=_;rw[r0 (by rintro rfl;exact(List.nodup_cons.1 hnd).1 hy),hts,tJ o]
 ·have o:=c.wt.hl y (by rw[kL e.1];exact hy)
  unfold Gl.K;rw[(Cd.ids y o).2.2];exact F _ _ (c.ty.qh o).k trivial
 ·unfold cD;dsimp only;rw[hx,show Gl.tk _ z=_ from e1];refine⟨a1,⟨?_,a2.kind⟩,af,?_⟩
  ·exact(FI.tF c.acc (a2.fi.imp λw hw=>⟨hw.1,by rw[e2];omega⟩) a3 ⟨af,by rw[e2];omega⟩)
  ·show((G.ts.length:Nat):Int)<((b.set z {G.tk z with f:=eI (G.tk z).f (bz P (G.tk z).f) (G.ts.length:Nat)}).lZ.ts.length:Nat);rw[e2];omega
 ·have D:y=G.ts.length:=by
   have h2:y<((b.set z {G.tk z with f:=eI (G.tk z).f (bz P (G.tk z).f) (G.ts.length:Nat)}).lZ).ts.length:=h2;have:((b.set z {G.tk z with f:=eI (G.tk z).f (bz P (G.tk z).f) (G.ts.length:Nat)}).lZ).ts.length=G.ts.length+1:=by rw[e2,hlen]
   omega
  subst D;have:Gl.tk (b.set z {G.tk z with f:=eI (G.tk z).f (bz P (G.tk z).f) (G.ts.length:Nat)}).lZ G.ts.length=⟨(G.T.length:Nat),(G.tk z).kA.1,W.own,(G.M.cells.length:Nat),jo (G.tk z).f ((bz P (G.tk z).f).getD 4 0) (EN P ((bz P (G.tk z).f).getD 4 0)),ByteArray.mk #[],[],[W.own],0,0⟩:=by
   unfold Gl.tk;show(((b.ts.set z _))[G.ts.length]?).getD tk0=_;rw[r0 af,hts,u0 (iw _),Nat.sub_self];rfl
  rw[this,g3];have hst:=ads (n:=(bz P (G.tk z).f).getD 4 0) (aX:=g'.aX) a2.fi.len;exact⟨g5.imp λw hw=>⟨hw.1,by rw[e2];omega⟩,rfl,rfl,rfl,rfl,hst.2.2.2.1⟩
def afH{tm:Int×List (Int×Int)}{m:Int}(hc:CK tm)(hz:0≤z)(a:∀y∈tm.2,y.2<z)(hm:0<m∧m≤1099511627776):(Ko.Dt tm z m).1=0∧∀y∈(Ko.Dt tm z m).2,y.2<z+1:=by
 unfold Ko.Dt;rw[if_neg (by unfold Ko.MT;omega)]
 have hn:¬Ko.has tm.2 z=true:=by
  intro q;obtain⟨y,h1,h2⟩:=Ko.X1.1 q;have:=a y h1;omega
 rw[if_neg hn];refine⟨rfl,λy hy=> ?_⟩;rcases Ko.ac5.1 hy with rfl|h
 ·dsimp only;omega
 ·have:=a y h;omega
def av3(c:Cx l P bw ro G i W)(k:W.cT= .m .opens)(hx:W.stack.headD 0=x)(ht:t=G.tk x)(A:(bz P t.f).getD 4 0≤1099511627776){pk:Int}:∃iT,rV l P bw ro iT G i W (opens l P G W x t (G.nd t.kA.1) pk):=by
 have ct:=c.ct;unfold cD at ct;rw[k]at ct;dsimp only at ct;obtain⟨a1,a2,a3⟩:=ct;rw[hx]at a2 a3;have g:x<G.ts.length:=by rw[←hx];exact(c.top a1).2
 have hf:=c.fl.no (by unfold Wk.waits;rw[k])
 have j:eB W:=by rw[eB,k];decide
 subst ht;have hin:=c.kA g a2.cJ;obtain⟨hsc,z⟩:=c.ty.O7 hin.1 hin.2;have hT:=c.ty.qh g;unfold opens;dsimp only;split
 ·exact⟨ro,vL c (.inl rfl) e7 j ⟨rfl,rfl,rfl,rfl,rfl⟩⟩
 split
 ·exact⟨ro,vL c (.inl rfl) e7 j ⟨rfl,rfl,rfl,rfl,rfl⟩⟩
 rename_i hn;split
 ·exact⟨ro,vL c (.inl rfl) e7 j ⟨rfl,rfl,rfl,rfl,rfl⟩⟩
 rename_i hr;have hr:G.M.room 2=true:=gq hr
 rw[aj9 z.n]at hn ⊢;have I:=z.n;generalize o:(if (bz P (G.tk x).f).getD 4 0>0 then(G.time.1,(Ko.Dt G.time (G.C.length:Nat) ((bz P (G.tk x).f).getD 4 0)).2)else G.time)=tm
 have e:CK tm∧∀y∈tm.2,y.2<G.C.length+1:=by
  rw[←o];split
  ·exact⟨c.ty.ck.set _ _,(afH c.ty.ck af c.ty.Qn ⟨af,A⟩).2⟩
  ·exact⟨c.ty.ck,λy hy=>by have:=c.ty.Qn y hy;omega⟩
 have ty:=afD (nd:=⟨(G.tk x).kA.1,(G.nd (G.tk x).kA.1).nest+1,(G.M.cells.length:Nat)⟩) (pl:=((G.tk x).id,(((G.tk x).scopes.length:Nat):Int),pk,false)) (wk:=W.id) c.ty hr hin ⟨by dsimp only;omega,by dsimp only;omega⟩ rfl e.1 e.2
 generalize b:({G with M:=(G.M.tick W.id).grow 2,C:=G.C++[⟨(G.tk x).kA.1,(G.nd (G.tk x).kA.1).nest+1,(G.M.cells.length:Nat)⟩],P:=G.P++[((G.tk x).id,(((G.tk x).scopes.length:Nat):Int),pk,false)],time:=tm}:Gl)=G1 at ty;have hts:G1.ts=G.ts:=by rw[←b]
 have hC:G1.C=G.C++[⟨(G.tk x).kA.1,(G.nd (G.tk x).kA.1).nest+1,(G.M.cells.length:Nat)⟩]:=by rw[←b]
 have B:G1.C.length=G.C.length+1:=by rw[hC];simp
 have q:G1.tk x=G.tk x:=by unfold Gl.tk;rw[hts]
 have D:∀a s,k9 ro a s→s.JS→G1.M.get a=G.M.get a:=λa s hs _=>by
  have:=hs.lt;rw[c.ty.len]at this;rw[←b];show((G.M.tick W.id).grow 2).get a=_;rw[xR (M:=G.M.tick W.id) hs.1 this,tT]
 have d:=ty.qh (by rw[hts];exact g)
 rw[q]at d;have F:=hT.sn;have H:=hT.sl;have u:Ux (ro++[.ask G.C.length,.liv G.C.length]) G1.C.length x {G.tk x with scopes:=(G.tk x).scopes++[((G.C.length:Nat):Int)],cJ:=(G.tk x).cJ++[(((G.C.length:Nat):Int),W.mark)],f:=nE (G.tk x).f}:=by
  refine d.to ⟨rfl,rfl,rfl,rfl⟩ (λp hp=> ?_) (by simp;omega) (by simp;omega)
  rcases zw.1 hp with h|h
  ·exact d.cJ p h
  ·simp at h;subst h;dsimp only;omega
 have v:Ty l (ro++[.ask G.C.length,.liv G.C.length]) (G1.set x {G.tk x with scopes:=(G.tk x).scopes++[((G.C.length:Nat):Int)],cJ:=(G.tk x).cJ++[(((G.C.length:Nat):Int),W.mark)],f:=nE (G.tk x).f}).lZ:={ty.set (λ_=>u)with}
 obtain⟨e1,e2⟩:=Yk (r:=(G1.set x {G.tk x with scopes:=(G.tk x).scopes++[((G.C.length:Nat):Int)],cJ:=(G.tk x).cJ++[(((G.C.length:Nat):Int),W.mark)],f:=nE (G.tk x).f}).lZ) rfl (by rw[hts];exact g)
 refine⟨_,avP c a1 v rfl (by show List.set _ _ _=_;rw[hts,hx]) (by show G1.C=_;exact hC) D (by rw[hx]) (by rw[hx]) (by rw[hx]) rfl rfl rfl rfl j (by simp[Wk.go]) (λ_=> ?_) (λ_=>oY hf.1 hf.2)⟩
 unfold cD Wk.go;dsimp only;rw[hx,show Gl.tk _ x=_ from e1];refine⟨a1,⟨?_,a2.kind⟩⟩;have h:=a2.fi.opens c.acc (by have:=c.ty.cap;omega) a3
 show FI P _ (nE (G.tk x).f) ((G.tk x).cJ++[_]).length;rw[uv];exact h.imp λw hw=>⟨hw.1,by rw[show((G1.set x {G.tk x with scopes:=(G.tk x).scopes++[((G.C.length:Nat):Int)],cJ:=(G.tk x).cJ++[(((G.C.length:Nat):Int),W.mark)],f:=nE (G.tk x).f}).lZ).ts.length=_ from e2,hts];exact hw.2⟩
def JM(c:Cx l P bw ro G i W)(a:eB W)(hx:x∈W.stack):G.K x=1∧x<G.ts.length:=by
 have hm:x∈W.hold:=by rw[kL a.1];exact hx
 refine⟨?_,c.wt.hl x hm⟩;rcases c.wt.run x hm with h|⟨_,_,h|h⟩
 ·exact h
 ·exact absurd h a.2.1
 ·exact absurd h a.2.2
def aCv(c:Cx l P bw ro G i W)(e:W.cT= .m .put)(hx:W.stack.headD 0=x)(ht:t=G.tk x):rV l P bw ro ro G i W (put G W t):=by
 have ct:=c.ct;unfold cD at ct;rw[e]at ct;dsimp only at ct;obtain⟨a1,a2,a3⟩:=ct;rw[hx]at a2 a3;have hf:=c.fl.no (by unfold Wk.waits;rw[e])
 have d:eB W:=by rw[eB,e];decide
 subst ht;obtain⟨z,st,q1,g,_⟩:=c.ne0 a1;have hz:z=x:=by rw[←hx,g]
 subst hz;obtain⟨hK,j⟩:=JM c d (x:=z) (by rw[q1];simp)
 unfold put;split
 ·refine tr c (.inl rfl) d ⟨rfl,rfl,rfl,rfl⟩ ⟨rfl,rfl,rfl,rfl,by simp[Wk.go],?_,oY hf.1 hf.2⟩
  unfold cD Wk.go;dsimp only;rw[hx];exact⟨a1,a2,a3⟩
 ·have hL:=(c.ty.qh j).v;have hlt:=hL.lt;rw[c.ty.len]at hlt;have f:∀b,0≤b→((G.M.tick W.id).put ((G.tk z).jI+1) (G.tk z).v).get b=if b=(G.tk z).jI+1 then(G.tk z).v else G.M.get b:=λb hb=>MK hL.1 hlt hb
  have a:∀y,y<G.ts.length→(G.mem ((G.M.tick W.id).put ((G.tk z).jI+1) (G.tk z).v)).K y=G.K y∧(y≠z→(G.mem ((G.M.tick W.id).put ((G.tk z).jI+1) (G.tk z).v)).V y=G.V y):=λy hy=>by
   have hk:=(c.ty.qh hy).k;have hv:=(c.ty.qh hy).v;refine⟨?_,λhne=> ?_⟩
   ·show((G.M.tick W.id).put _ _).get (G.tk y).jI=_;rw[f _ hk.1,if_neg (hk.ne hL bf)];rfl
   ·show((G.M.tick W.id).put _ _).get ((G.tk y).jI+1)=_;rw[f _ hv.1,if_neg (hv.ne hL (gq hne))];rfl
  have hmem:z∈W.hold:=by rw[kL d.1,q1];simp
  have Cd:uN ro ro G (G.mem ((G.M.tick W.id).put ((G.tk z).jI+1) (G.tk z).v)) W.hold:=
   ⟨⟨[],bf⟩,iw _,λ_ _ _=>rfl,λ_ _=>⟨rfl,rfl,rfl⟩,⟨[],by simp[Gl.mem]⟩,λy hy q=>by rw[←(a y hy).1];exact q,λy hy hn _=>⟨(a y hy).1,(a y hy).2 (by rintro rfl;exact hn hmem)⟩,λy hy h2=>⟨(a y hy).1,(a y hy).2 (by rintro rfl;omega)⟩,λs' ⟨nd,h1,h2⟩=>⟨nd,h1,by
    show((G.M.tick W.id).put _ _).get _≠0;have hl:=JL c.ty h1;rw[f _ hl.1,if_neg (hl.ne hL bf)];exact h2⟩⟩
  refine afC c (c.ty.put ⟨rfl,rfl,bf⟩ hL trivial) Cd rfl rfl rfl rfl d (by simp[Wk.go]) (λ_ _=>rfl) (λy hy=>(a y (c.wt.hl y (by rw[kL d.1];exact hy))).1) (λ_=> ?_) (λ_=>oY hf.1 hf.2) (λy h1 h2=>by have h2:y<G.ts.length:=h2;omega)
  unfold cD Wk.go;dsimp only;rw[hx];exact⟨a1,a2,a3⟩
def aCw(c:Cx l P bw ro G i W)(j:W.cT= .m .fin)(hx:W.stack.headD 0=x)(ht:t=G.tk x):rV l P bw ro ro G i W (fin G W t):=by
 have ct:=c.ct;unfold cD at ct;rw[j]at ct;dsimp only at ct;obtain⟨a1,a2,a3⟩:=ct;rw[hx]at a2 a3;have hf:=c.fl.no (by unfold Wk.waits;rw[j])
 have a:eB W:=by rw[eB,j];decide
 subst ht;obtain⟨z,st,q1,o,_⟩:=c.ne0 a1;have hz:z=x:=by rw[←hx,o]
 subst hz;obtain⟨hK,p⟩:=JM c a (x:=z) (by rw[q1];simp)
 have r:=a2.k2;have n:=a2.k4;have hL:=(c.ty.qh p).k;have hlt:=hL.lt;rw[c.ty.len]at hlt;have hm:z∈W.hold:=by rw[kL a.1,q1];simp
 have hnd:=c.wt.nd;rw[kL a.1,q1]at hnd;unfold fin;rw[Int.add_zero];have g:∀b,0≤b→(G.M.cs W.id (G.tk z).jI 1 (G.tk z).kind).1.get b=if b=(G.tk z).jI then(G.tk z).kind else G.M.get b:=λb hb=>by
  rw[abi hL.1 hlt hb];have:G.M.get (G.tk z).jI=1:=hK;simp[this]
 have d:∀y,y<G.ts.length→(y≠z→(G.mem (G.M.cs W.id (G.tk z).jI 1 (G.tk z).kind).1).K y=G.K y)∧(G.mem (G.M.cs W.id (G.tk z).jI 1 (G.tk z).kind).1).V y=G.V y:=λy hy=>by
  have hk:=(c.ty.qh hy).k;have hv:=(c.ty.qh hy).v;refine⟨λhne=> ?_,?_⟩
  ·show(G.M.cs _ _ _ _).1.get (G.tk y).jI=_;rw[g _ hk.1,if_neg (hk.ne hL (gq hne))];rfl
  ·show(G.M.cs _ _ _ _).1.get ((G.tk y).jI+1)=_;rw[g _ hv.1,if_neg (hv.ne hL bf)];rfl
 have f:(G.mem (G.M.cs W.id (G.tk z).jI 1 (G.tk z).kind).1).K z=(G.tk z).kind:=by
  show(G.M.cs _ _ _ _).1.get (G.tk z).jI=_;rw[g _ hL.1,if_pos rfl]
 have ty:Ty l ro (G.mem (G.M.cs W.id (G.tk z).jI 1 (G.tk z).kind).1):=c.ty.cs hL ⟨af,n⟩;have Cd:uN ro ro G (G.mem (G.M.cs W.id (G.tk z).jI 1 (G.tk z).kind).1) W.hold:=
  ⟨⟨[],bf⟩,iw _,λ_ _ _=>rfl,λ_ _=>⟨rfl,rfl,rfl⟩,⟨[],by simp[Gl.mem]⟩,λy hy q=>by
   by_cases e:y=z
   ·subst e;rw[f]at q;omega
   ·rw[←(d y hy).1 e];exact q,
  λy hy hn _=>⟨(d y hy).1 (by rintro rfl;exact hn hm),(d y hy).2⟩,λy hy h2=>⟨(d y hy).1 (by rintro rfl;omega),(d y hy).2⟩,λs' ⟨nd,h1,h2⟩=>⟨nd,h1,by
    show(G.M.cs _ _ _ _).1.get _≠0;have hl:=JL c.ty h1;rw[g _ hl.1,if_neg (hl.ne hL bf)];exact h2⟩⟩
 have e2:(W.go .asks).hold=W.hold:=by rw[kL (by simp[Wk.go]),kL a.1];rfl
 refine⟨ty,Cd,⟨c.wt.id,c.wt.lt,c.wt.dq,adA (G:=G) rfl c.wt.bk,c.wt.dp,λy hy=>c.wt.hl y (by rw[←e2];exact hy),λ_=> ?_,λ_=>oY hf.1 hf.2,λy hy=> ?_,by rw[e2];exact c.wt.nd⟩,λy hy=> .inl (by rw[←e2];exact hy),λy h1 h2=>by have h2:y<G.ts.length:=h2;omega⟩
 ·unfold cD Wk.go;dsimp only;rw[hx];exact⟨a1,a2,a3⟩
 ·rw[e2,kL a.1,q1]at hy;rcases List.mem_cons.1 hy with rfl|hy
  ·refine .inr ⟨by rw[f];exact r,by show W.stack.head?=_;rw[q1];rfl,.inl rfl⟩
  ·have hys:y∈W.stack:=by rw[q1];simp[hy]
   obtain⟨s,k2⟩:=JM c a hys;refine .inl ?_;rw[(d y k2).1 (λq=>(List.nodup_cons.1 hnd).1 (q▸hy))];exact s
def azm(c:Cx l P bw ro G i W)(a:W.cT= .m .asks)(ht:t=G.tk (W.stack.headD 0)):rV l P bw ro ro G i W (asks G W t):=by
 have ct:=c.ct;unfold cD at ct;rw[a]at ct;dsimp only at ct;have hf:=c.fl.no (by unfold Wk.waits;rw[a])
 have e1:W.hold=W.stack:=kL (by rw[a];simp)
 have e2:(asks G W t).2.hold=W.hold:=by rw[kL (by simp[asks]),e1];rfl
 refine⟨c.tt,afB c.ty,⟨c.wt.id,c.wt.lt,c.wt.dq,adA (G:=G) rfl c.wt.bk,c.wt.dp,λy hy=>c.wt.hl y (by rw[←e2];exact hy),λ_=>by unfold cD asks;exact ct,λ_=>oY hf.1 hf.2,λy hy=> ?_,by rw[e2];exact c.wt.nd⟩,λy hy=> .inl (by rw[←e2];exact hy),λy h1 h2=>by have h2:y<G.ts.length:=h2;omega⟩
 rw[e2]at hy;rcases c.wt.run y hy with h|⟨h1,h2,_⟩
 ·exact .inl h
 ·exact .inr ⟨h1,h2,.inr rfl⟩
def azn(c:Cx l P bw ro G i W)(e:W.cT= .m .gone)(ht:t=G.tk (W.stack.headD 0)):rV l P bw ro ro G i W (gone G W (G.nd t.l7)):=by
 have ct:=c.ct;unfold cD at ct;rw[e]at ct;dsimp only at ct;have hf:=c.fl.no (by unfold Wk.waits;rw[e])
 subst ht;obtain⟨z,st,q1,o,f⟩:=c.ne0 ct.1;have hin:=(c.ty.qh f).inn;have e1:W.hold=z::st:=by rw[kL (by rw[e];simp),q1]
 obtain⟨_,g⟩:=c.ty.O7 hin.1 hin.2;rw[o];have hbk:=c.wt.bk;rw[q1]at hbk;obtain⟨kb,bs,hb⟩:∃kb bs,W.back=kb::bs:=by
  cases hh:W.back with
  |nil=>rw[hh]at hbk;exact hbk.elim
  |cons kb bs=>exact⟨kb,bs,rfl⟩
 rw[hb]at hbk;obtain⟨_,hm,hbk⟩:=hbk;have ty:Ty l ro (gone G W (G.nd (G.tk z).l7)).1:=c.ty.ad g.b trivial;have Cd:uN ro ro G (gone G W (G.nd (G.tk z).l7)).1 W.hold:=ahD c.ty g.b (λq=>q);have p:=xK (v:=wr (G.M.get ((G.nd (G.tk z).l7).at_+1)+ -1)) c.ty rfl g.b (λq=>q);have j:cD l P bw ro (gone G W (G.nd (G.tk z).l7)).1 (gone G W (G.nd (G.tk z).l7)).2∧(gone G W (G.nd (G.tk z).l7)).2.cT≠ .m .start∧(gone G W (G.nd (G.tk z).l7)).2.stack=st∧(gone G W (G.nd (G.tk z).l7)).2.back=bs∧(gone G W (G.nd (G.tk z).l7)).2.cT≠ .m .asks:=by
  unfold gone;dsimp only;rw[hb,q1];dsimp only[List.headD,List.tail];split
  ·refine⟨?_,by simp[Wk.JF],rfl,rfl,by simp[Wk.JF]⟩
   unfold cD Wk.JF;exact hm
  ·unfold cD;dsimp only;cases hst:st with
   |nil=>
    rw[hst]at hm;have hm:kb= .m .rest:=hm;subst hm;exact⟨rfl,bf,rfl,rfl,bf⟩
   |cons u DC=>
    rw[hst]at hm;have hm:rq P G.ts.length (G.tk u) kb:=hm;have hm0:=hm;unfold rq at hm;split at hm
    ·exact⟨⟨bf,hm⟩,bf,rfl,rfl,bf⟩
    ·exact⟨⟨bf,hm0⟩,bf,rfl,rfl,bf⟩
    ·exact⟨⟨bf,hm0⟩,bf,rfl,rfl,bf⟩
    ·exact⟨⟨bf,hm0⟩,bf,rfl,rfl,bf⟩
    ·exact hm.elim
 obtain⟨d1,d2,d3,d4,d5⟩:=j;have e2:(gone G W (G.nd (G.tk z).l7)).2.hold=st:=by rw[kL d2,d3]
 have d:(gone G W (G.nd (G.tk z).l7)).2.id=W.id∧(gone G W (G.nd (G.tk z).l7)).2.dq=W.dq∧(gone G W (G.nd (G.tk z).l7)).2.bO=W.bO∧(gone G W (G.nd (G.tk z).l7)).2.blocked=W.blocked:=by
  unfold gone;dsimp only;split<;>exact⟨rfl,rfl,rfl,rfl⟩
 have hnd:=c.wt.nd;rw[e1]at hnd;refine⟨ty,Cd,⟨by rw[d.1];exact c.wt.id,c.wt.lt,by rw[d.2.1];exact c.wt.dq,by rw[d3,d4];exact adA (G:=G) rfl hbk,?_,λy hy=>c.wt.hl y (by rw[e2]at hy;rw[e1];simp[hy]),λ_=>d1,λ_=>oY (by rw[d.2.2.1];exact hf.1) (by rw[d.2.2.2];exact hf.2),λy hy=> ?_,by rw[e2];exact(List.nodup_cons.1 hnd).2⟩,λy hy=> .inl (by rw[e2]at hy;rw[e1];simp[hy]),λy h1 h2=>by have h2:y<G.ts.length:=h2;omega⟩
 ·rw[d3];have:=c.wt.dp;rw[q1]at this;simp at this;omega
 ·rw[e2]at hy;have a:y∈W.hold:=by rw[e1];simp[hy]
  have r:=c.wt.hl y a;have n:(gone G W (G.nd (G.tk z).l7)).1.K y=G.K y:=p _ _ (c.ty.qh r).k trivial;rw[n];rcases c.wt.run y a with h|⟨_,h2,_⟩
  ·exact .inl h
  ·rw[q1]at h2;cases h2
   exact absurd hy (List.nodup_cons.1 hnd).1
def amq(c:Cx l P bw ro G i W)(hne:W.stack≠ [])(hx:W.stack.headD 0=x)(ht:t=G.tk x)(hE:Ends (G.tk x))(ho:(G.tk x).cJ≠ [])(h1:W.bO=false)(h2:W.blocked=false)(a:eB W):rV l P bw ro ro G i W (qI G W x t):=by
 have b:x<G.ts.length:=by rw[←hx];exact(c.top hne).2
 subst ht;have hT:=c.ty.qh b;have d:=aoa ho;have e:=hT.sn;unfold qI;refine ahG G.M G.steps (G.time.1,Ko.EK G.time.2 (G.tk x).kA.1) (Cq G.P (G.tk x).kA.1) c hne hx rfl c.ty (λ_ _ _ _=>rfl) ⟨rfl,rfl,rfl,rfl⟩ ?_ (c.ty.ck.drop _) (λy hy=>c.ty.Qn y (List.mem_filter.1 hy).1) aay a ⟨rfl,rfl,rfl,rfl⟩ λe1 e2=> ?_
 ·exact hT.to ⟨rfl,rfl,rfl,rfl⟩ (λp hp=>hT.cJ p (List.dropLast_subset _ hp)) (by dsimp only;omega) hT.sl
 ·exact OL hne (by rw[hx];exact e1) ⟨hE.k2,hE.k4⟩ h1 h2
def rC.to(h:rC P G W)(hg:G'.ts=G.ts)(h1:W'.stack=W.stack)(h2:W'.again=W.again)(h3:W'.target=W.target)(h4:W'.qc=W.qc):rC P G' W':=by
 obtain⟨a,b,c⟩:=h;refine⟨by rw[h1];exact a,?_,by rw[h2,h3,h4];exact c⟩
 have:G'.tk (W.stack.headD 0)=G.tk (W.stack.headD 0):=by unfold Gl.tk;rw[hg]
 rw[h1,h2,hg,this];exact b
def ZO(h1:W'.cT= .m .stops)(ha:rC P G W)(hg:G'.ts=G.ts)(hC:G'.C=G.C)(hK:∀z,z<G.ts.length→G'.K z=G.K z)(a:∀s,Wb G s→Wb G' s)(e1:W'.stack=W.stack)(e2:W'.again=W.again)(d:W'.target=W.target)(f:W'.qc=W.qc)(g:W'.pG=W.pG)(i:W'.kind=W.kind)
  (hs:W'.blocked=true→∀o,W'.step=some o→SpT o) (h3:match W.pG with
  | .m .cancelled=>zk W.again=true∧SE G (G.tk (W.stack.headD 0))
  | .V2 y k=>y<G.ts.length∧k=W.again
  | .BR y k=>(0≤y∧y<G.ts.length)∧k=W.again
  | .c .IF=>zk W.again=true∧W.kind=G.K (W.target.getD 0)∧2≤W.kind
  | .c .Co=>W.again= .sh (.c .Co)
  | .c .qI=>W.again= .sh (.c .qI)
  |_=>False):cD l P bw ro G' W':=by
 unfold cD;dsimp only;rw[h1];dsimp only;refine⟨ha.to hg e1 e2 d f,hs,?_⟩;rw[e1,e2,d,g,i];have j:∀z,G'.tk z=G.tk z:=λz=>by unfold Gl.tk;rw[hg]
 split at h3<;>rename_i e<;>try exact h3.elim
 all_goals try rw[e]
 ·refine⟨h3.1,?_⟩;obtain⟨b,h4,h5⟩:=h3.2;rw[j];exact⟨b,by rw[hC];exact h4,a b h5⟩
 ·rw[hg];exact h3
 ·rw[hg];exact h3
 ·refine⟨h3.1,?_,h3.2.2⟩;obtain⟨y,q1,n,p⟩|⟨k,q1,_⟩:=ha.cases
  ·rw[n]at h3 ⊢;show W.kind=G'.K y;rw[hK _ p.2.2.2];exact h3.2.1
  ·rw[q1]at h3;cases h3.1
 ·exact h3
 ·exact h3
def av5(c:Cx l P bw ro G i W)(a:W.cT= .m .stops)(hx:W.stack.headD 0=x)(ht:t=G.tk x):rV l P bw ro ro G i W (stops l G W x t G.vJ G.V8):=by
 have ct:=c.ct;unfold cD at ct;rw[a]at ct;dsimp only at ct;obtain⟨a1,a2,a3⟩:=ct;have b:eB W:=by rw[eB,a];decide
 subst ht;have hag:rC P G W:=a1;unfold stops;split
 ·rename_i hb;dsimp only;have hs:SpT (W.step.getD (jH.B7 0 2)):=by
   cases h:W.step with
   |none=>exact⟨e7,e7,e7⟩
   |some o=>exact a2 hb o h
  have hr:=amk (wk:=W.id) c.ty hs;generalize (W.step.getD (jH.B7 0 2)).go l.sp G.M W.id=r at hr ⊢;have d:∀z,z<G.ts.length→(G.mem r.2).K z=G.K z:=λz hz=>hr.JS _ _ (c.ty.qh hz).k trivial;have f:∀s,Wb G s→Wb (G.mem r.2) s:=(ady (hold:=[]) c.ty hr.JS).ask;refine ER (m:=[]) c hr.ty bf rfl (by rw[List.append_nil];rfl) hr.JS (by dsimp only;split<;>rfl) (by dsimp only;split<;>rfl) (by dsimp only;split<;>rfl) (by dsimp only;split<;>rfl) b (by dsimp only;split<;>(dsimp only;rw[a];simp)) (λ_=> ?_) (λ_=> ?_)
  ·dsimp only;split
   ·exact ZO a hag rfl rfl d f rfl rfl rfl rfl rfl rfl (λ_ o ho=>by cases ho) a3
   ·exact ZO a hag rfl rfl d f rfl rfl rfl rfl rfl rfl (λ_ o ho=>by cases ho;exact hr.sp) a3
  ·dsimp only;split
   ·refine⟨λq=> ?_,c.fl.SG,λ_ q=>by dsimp only at q;rw[a]at q;rcases q with q|q<;>(cases q)⟩
    unfold Wk.waits at q;dsimp only at q;rw[a]at q;cases q
   ·exact SI c rfl rfl rfl (by unfold Wk.waits;dsimp only;rw[a]) (by dsimp only;rw[a];exact⟨rfl,rfl⟩)
 rename_i hb;have hb:W.blocked=false:=gq hb
 split
 ·rename_i hr;have g:=c.fl.SG hr;obtain⟨y,h1,h2,h3⟩|⟨k,h1,_⟩:=a1.cases;rotate_left
  ·rw[h1]at g;cases g
  have hy:W.target.getD 0=y:=by rw[h2];rfl
  have p:y<G.ts.length:=h3.2.2.2;have hL:=(c.ty.qh p).w;have j:G.V8 y=(G.tk y).jI:=by unfold Gl.V8 Gl.tk;rw[iH p];rfl
  rw[hy,j];refine ER (m:=[]) c (c.ty.ad hL trivial) bf rfl (by rw[List.append_nil];rfl) (xK c.ty rfl hL (λq=>q)) rfl rfl rfl rfl b (by dsimp only;rw[a];simp) (λ_=> ?_) (λ_=> ?_)
  ·exact ZO a hag rfl rfl (λz hz=>xK c.ty rfl hL (λq=>q) _ _ (c.ty.qh hz).k trivial) (ahD (hold:=[]) c.ty hL (λq=>q)).ask rfl rfl rfl rfl rfl rfl a2 a3
  ·exact⟨λq=>by unfold Wk.waits at q;dsimp only at q;rw[a]at q;(cases q),λq=>by(cases q),λ_ q=>by dsimp only at q;rw[a]at q;rcases q with q|q<;>(cases q)⟩
 rename_i hr;have hr:W.bO=false:=gq hr
 unfold pG;split at a3
 ·rename_i e;rw[e];exact ahH c a1.ne hx rfl (.inl rfl) ⟨e7,e7⟩ hr hb b ⟨rfl,rfl,rfl,rfl,rfl,rfl⟩
 ·rename_i y k e;rw[e];have u:G.vJ y=y:=by
   have:=(c.ty.qh a3.1).id;unfold Gl.vJ;rw[G.xw a3.1];exact this
  refine tr c (.inl rfl) b ⟨rfl,rfl,rfl,rfl⟩ (SK hr hb (by dsimp only;rw[u];have:=a3.1;omega) ?_)
  obtain⟨z,st,q1,n,_⟩:=c.ne0 a1.ne;have:=a1.hm;rw[n]at this;unfold EP;dsimp only;rw[q1];dsimp only;rw[a3.2];exact this
 ·rename_i y k e;rw[e];refine tr c (.inl rfl) b ⟨rfl,rfl,rfl,rfl⟩ (SK hr hb a3.1 ?_);obtain⟨z,st,q1,n,_⟩:=c.ne0 a1.ne;have:=a1.hm;rw[n]at this;unfold EP;dsimp only;rw[q1];dsimp only;rw[a3.2];exact this
 ·rename_i e;rw[e];exact tr c (.inl rfl) b ⟨rfl,rfl,rfl,rfl⟩ ⟨rfl,rfl,rfl,rfl,by simp[Wk.go],by unfold cD Wk.go;exact⟨hag.of rfl rfl rfl rfl,a3.1,a3.2.1,a3.2.2⟩,oY hr hb⟩
 ·rename_i e;rw[e];have hm:=a1.hm;rw[a3]at hm;exact tr c (.inl rfl) b ⟨rfl,rfl,rfl,rfl⟩ ⟨rfl,rfl,rfl,rfl,by simp[Wk.go],by unfold cD Wk.go;exact⟨a1.ne,hm.1,hm.2⟩,oY hr hb⟩
 ·rename_i e;rw[e];have hm:=a1.hm;rw[a3,hx]at hm;exact amq c a1.ne hx rfl hm.1 hm.2 hr hb b
 ·exact a3.elim
def aqE(c:Cx l P bw ro G i W)(j:W.cT= .m .tE)(hfr:∀y,y<G.ts.length→G.K y=0→OJ P G.ts.length (G.tk y)):rV l P bw ro ro G i W (tE G W (G.tk W.jq.toNat)):=by
 have ct:=c.ct;unfold cD at ct;rw[j]at ct;dsimp only at ct;obtain⟨a1,a2⟩:=ct;have hf:=c.fl.no (by unfold Wk.waits;rw[j])
 have a:eB W:=by rw[eB,j];decide
 have d:W.jq.toNat<G.ts.length:=af;generalize hc:W.jq.toNat=y at d;have hL:=(c.ty.qh d).k;have hlt:=hL.lt;rw[c.ty.len]at hlt;unfold tE;rw[Int.add_zero];have h2:(G.M.cs W.id (G.tk y).jI 0 1).2=decide (G.K y=0):=ay2;have n:∀b,0≤b→(G.M.cs W.id (G.tk y).jI 0 1).1.get b=if b=(G.tk y).jI∧G.K y=0 then 1 else G.M.get b:=λb hb=>abi hL.1 hlt hb
 have hK:∀z,z<G.ts.length→(G.mem (G.M.cs W.id (G.tk y).jI 0 1).1).K z=(if z=y∧G.K y=0 then 1 else G.K z)∧(G.mem (G.M.cs W.id (G.tk y).jI 0 1).1).V z=G.V z:=λz hz=>by
  have hk:=(c.ty.qh hz).k;have hv:=(c.ty.qh hz).v;constructor
  ·show(G.M.cs _ _ _ _).1.get (G.tk z).jI=_;rw[n _ hk.1];by_cases e:z=y
   ·subst e;simp;rfl
   ·rw[if_neg (λq=>hk.ne hL (gq e) q.1),if_neg (λq=>e q.1)];rfl
  ·show(G.M.cs _ _ _ _).1.get ((G.tk z).jI+1)=_;rw[n _ hv.1,if_neg (λq=>hv.ne hL bf q.1)];rfl
 have ty:Ty l ro (G.mem (G.M.cs W.id (G.tk y).jI 0 1).1):=c.ty.cs hL ⟨e7,e7⟩;have Cd:uN ro ro G (G.mem (G.M.cs W.id (G.tk y).jI 0 1).1) W.hold:=
  ⟨⟨[],bf⟩,iw _,λ_ _ _=>rfl,λ_ _=>⟨rfl,rfl,rfl⟩,⟨[],by simp[Gl.mem]⟩,λz hz q=>by
   rw[(hK z hz).1]at q;split at q
   ·cases q
   ·exact q,
  λz hz _ q=>⟨by rw[(hK z hz).1,if_neg (by rintro⟨rfl,p⟩;omega)],(hK z hz).2⟩,λz hz q=>⟨by rw[(hK z hz).1,if_neg (by rintro⟨rfl,p⟩;omega)],(hK z hz).2⟩,λs' ⟨nd,h1,h2⟩=>⟨nd,h1,by
    show(G.M.cs _ _ _ _).1.get _≠0;have hl:=JL c.ty h1;rw[n _ hl.1,if_neg (λq=>hl.ne hL bf q.1)];exact h2⟩⟩
 have e1:=kL a.1;have hrun:∀z∈W.stack,(G.mem (G.M.cs W.id (G.tk y).jI 0 1).1).K z=1:=λz hz=>by
  obtain⟨r,k2⟩:=JM c a hz;rw[(hK z k2).1,if_neg (by rintro⟨rfl,p⟩;omega)];exact r
 rw[h2];by_cases h0:G.K y=0
 ·rw[if_pos (by simp[h0])]
  have o:y ∉ W.stack:=λq=>by have:=(JM c a q).1;omega
  have e2:({W with cT:= .m .start}:Wk).hold=y::W.stack:=by unfold Wk.hold;dsimp only;rw[if_pos rfl,hc];rfl
  refine⟨ty,Cd,⟨c.wt.id,c.wt.lt,c.wt.dq,adA (G:=G) rfl c.wt.bk,c.wt.dp,λz hz=> ?_,λ_=> ?_,λ_=>oY hf.1 hf.2,λz hz=> ?_,?_⟩,λz hz=> ?_,λz h1 h2=>by have h2:z<G.ts.length:=h2;omega⟩
  ·rw[e2]at hz;rcases List.mem_cons.1 hz with rfl|hz
   ·exact d
   ·exact(JM c a hz).2
  ·unfold cD;dsimp only;rw[hc];exact⟨a1,a2,hfr y d h0⟩
  ·rw[e2]at hz;rcases List.mem_cons.1 hz with rfl|hz
   ·left;dsimp only;rw[(hK z d).1,if_pos ⟨rfl,h0⟩]
   ·exact .inl (hrun z hz)
  ·rw[e2];have:=c.wt.nd;rw[e1]at this;exact List.nodup_cons.2 ⟨o,this⟩
  ·rw[e2]at hz;rcases List.mem_cons.1 hz with rfl|hz
   ·exact .inr ⟨d,h0⟩
   ·exact .inl (by rw[e1];exact hz)
 ·rw[if_neg (by simp[h0])]
  have g:cD l P bw ro (G.mem (G.M.cs W.id (G.tk y).jI 0 1).1) {W with cT:=W.home}∧W.home≠ .m .start:=by
   unfold cD;dsimp only;unfold EP at a2;cases hs:W.stack with
   |nil=>rw[hs]at a2;dsimp only at a2;rw[a2];exact⟨rfl,bf⟩
   |cons z st=>
    rw[hs]at a2;dsimp only at a2;have f:=a2;unfold rq at a2;split at a2
    ·rename_i e;rw[e];exact⟨⟨bf,a2⟩,bf⟩
    ·rename_i e;rw[e];rw[e]at f;exact⟨⟨bf,f⟩,bf⟩
    ·rename_i e;rw[e];rw[e]at f;exact⟨⟨bf,f⟩,bf⟩
    ·rename_i e;rw[e];rw[e]at f;exact⟨⟨bf,f⟩,bf⟩
    ·exact a2.elim
  exact afC c ty Cd rfl rfl rfl rfl a g.2 (λ_ _=>rfl) (λz hz=>by dsimp only;rw[hrun z hz,(JM c a hz).1]) (λ_=>g.1) (λ_=>oY hf.1 hf.2) (λz h1 h2=>by have h2:z<G.ts.length:=h2;omega)
def av6(c:Cx l P bw ro G i W)(b:W.cT= .m .start)(hc:W.jq.toNat=y):rV l P bw ro ro G i W (OF l G W y (G.tk y)):=by
 have ct:=c.ct;unfold cD at ct;rw[b]at ct;dsimp only at ct;obtain⟨a1,a2,a3⟩:=ct;rw[hc]at a3;have hf:=c.fl.no (by unfold Wk.waits;rw[b])
 have d:y<G.ts.length:=af;have hT:=c.ty.qh d;have e1:W.hold=y::W.stack:=by unfold Wk.hold;rw[if_pos b,hc];rfl
 unfold OF;split
 ·refine⟨{c.ty with},⟨⟨[],bf⟩,iw _,λ_ _ _=>rfl,λ_ _=>⟨rfl,rfl,rfl⟩,⟨[],by simp[Gl.fail]⟩,λ_ _ q=>q,λ_ _ _ _=>⟨rfl,rfl⟩,λ_ _ _=>⟨rfl,rfl⟩,λ_ q=>q⟩,⟨c.wt.id,c.wt.lt,c.wt.dq,adA (G:=G) rfl c.wt.bk,c.wt.dp,c.wt.hl,λq=>by(cases q),λq=>by(cases q),c.wt.run,c.wt.nd⟩,λz hz=> .inl hz,λz h1 h2=>by have h2:z<G.ts.length:=h2;omega⟩
 rename_i j;generalize hm:G.M.get (W.dq+1)=mk;have e:Ux ro G.C.length y {G.tk y with cJ:=[((G.tk y).own,mk)]}:=hT.to ⟨rfl,rfl,rfl,rfl⟩ (λp hp=>by simp at hp;subst hp;exact hT.own) (by dsimp only;rw[a3.cl,a3.sc];exact iw 1) hT.sl
 obtain⟨k,a⟩:=Yk (r:=(G.tick W.id).set y {G.tk y with cJ:=[((G.tk y).own,mk)]}) (G:=G) rfl d;have ty:Ty l ro ((G.tick W.id).set y {G.tk y with cJ:=[((G.tk y).own,mk)]}):=c.tt.set (λ_=>e)
 have hmem:y∈W.hold:=by rw[e1];simp
 have Cd:uN ro ro G ((G.tick W.id).set y {G.tk y with cJ:=[((G.tk y).own,mk)]}) W.hold:=(afB c.ty).trans (adz hmem d rfl rfl rfl) (.inl rfl);have hnd:=c.wt.nd;rw[e1]at hnd;have hys:=(List.nodup_cons.1 hnd).1;have f:∀z∈W.stack,((G.tick W.id).set y {G.tk y with cJ:=[((G.tk y).own,mk)]}).tk z=G.tk z:=λz hz=>an7 (by rintro rfl;exact hys hz)
 have e2:(({W with stack:=y::W.stack,back:=W.home::W.back}:Wk).looks (G.tk y).l7 (.c .xp)).hold=W.hold:=by
  rw[kL (by simp[Wk.looks]),e1];rfl
 refine⟨ty,Cd,⟨c.wt.id,c.wt.lt,c.wt.dq,?_,?_,λz hz=>by show z<List.length _;rw[a];exact c.wt.hl z (by rw[←e2];exact hz),λ_=> ?_,λ_=>oY hf.1 hf.2,λz hz=> ?_,by rw[e2];exact c.wt.nd⟩,λz hz=> .inl (by rw[←e2];exact hz),λz h1 h2=>by rw[a]at h2;omega⟩
 ·refine⟨by show y<List.length _;rw[a];exact d,?_,avO (by rw[a];exact iw _) f c.wt.bk⟩
  show EP P _ W.stack W.home;cases hs:W.stack with
  |nil=>rw[hs]at a2;exact a2
  |cons z st=>
   rw[hs]at a2 f;show rq P _ (Gl.tk _ z) _;rw[f z bf];exact rq.imp a2 (by rw[a];exact iw _)
 ·show((y::W.stack).length:Int)≤l.deep;have:=c.wt.dp;simp;omega
 ·unfold cD Wk.looks;dsimp only[List.headD];rw[show Gl.tk _ y=_ from k];exact⟨_,rfl,rfl,hT.inn,.refl hT.inn.1 hT.inn.2,bf,⟨a3.fi.imp λw hw=>⟨hw.1,by rw[a];exact hw.2⟩,a3.kind⟩⟩
 ·rw[e2]at hz;have g:=c.wt.hl z hz;have hK:((G.tick W.id).set y {G.tk y with cJ:=[((G.tk y).own,mk)]}).K z=G.K z:=by
   unfold Gl.K;rw[(Cd.ids z g).2.2];rfl
  rcases c.wt.run z hz with h|⟨_,_,h|h⟩
  ·exact .inl (hK.trans h)
  ·rw[b]at h;cases h
  ·rw[b]at h;cases h
end
abbrev qK(w0 w:World)(l:Lc)(aa:List Nat)(G:Gl)(Ws:List Wk)(R:List HP):Prop:=St w0 w (UW l aa G::jO (pH l aa) (l.wa.zip Ws)::R)
def ZC(l:Lc)(P:List dB)(G:Gl)(Ws:List Wk)(n:Int):(Gl×List Wk)×Bool:=
 if 0≤n∧n<Ws.length then
  match Ws[n.toNat]? with
  |some W=>if tD (l.sp.bits G.M) W.id=true∧W.wait.parked G.M l.told=false then(((ZB l P G W (Ws.map (·.dq))).1,Ws.set n.toNat (ZB l P G W (Ws.map (·.dq))).2),true)else((G,Ws),false)
  |none=>((G,Ws),false)
 else((G,Ws),false)
section
variable{w0 w:World}{R:List HP}{l:Lc}{P:List dB}{aa:List Nat}{G:Gl}{Ws:List Wk}{gw:Nat}{W:Wk}
def aqe{i:Nat}(h:qK w0 w l aa G Ws R)(ha:l.wa[i]?=some gw)(hW:Ws[i]?=some W):qR w0 w l aa gw G W (jO (pH l aa) ((l.wa.zip Ws).eraseIdx i)::R):=by
 have h2:St w0 w (pH l aa (gw,W)::jO (pH l aa) ((l.wa.zip Ws).eraseIdx i)::UW l aa G::R):=BW h.swap (by rw[List.getElem?_zip_eq_some];exact⟨ha,hW⟩)
 have h3:=h2.front 2 rfl;simpa only[I7]using h3
def afy{i:Nat}{JI:List Nat}{G':Gl}{W':Wk}(hl:l.wa.length=Ws.length)(ha:l.wa[i]?=some gw)(h:qR w0 w l JI gw G' W' (jO (pH l JI) ((l.wa.zip Ws).eraseIdx i)::R)):qK w0 w l JI G' (Ws.set i W') R:=by
 have hi:=(kB.1 ha).1;have h2:St w0 w (pH l JI (gw,W')::jO (pH l JI) ((l.wa.zip Ws).eraseIdx i)::UW l JI G'::R):=St.back 2 h;have h3:=WY h2 (by simp;omega)
 have e:(l.wa.zip Ws).set i (gw,W')=l.wa.zip (Ws.set i W'):=by
  apply List.ext_getElem?;intro j;by_cases hj:i=j
  ·subst hj;rw[uO (by simp;omega)]
   symm;rw[List.getElem?_zip_eq_some];exact⟨ha,by rw[uO af]⟩
  ·rw[r0 hj,List.zip,List.getElem?_zipWith,List.getElem?_zipWith,r0 hj]
 rw[e]at h3;exact h3.swap
def ajM:avo (kC [(sS,(acs dA)),(qZ,(aiu cQ)),(kW,(bZ eK)),(kX,(bZ eL)),(nu,(bZ gT)),(lS,(bZ fj)),(mI,(bZ iP)),(nr,(bZ gU)),(lT,(bZ fm)),(lR,(bZ fo)),(mQ,(bZ fV)),(gC,(bZ gV)),(gB,(bZ gW)),(lH,(bZ gX)),(mR,(bZ fW)),(lV,(bZ fp)),(js,(bZ gY)),(lI,(bZ gZ)),(mS,(bZ fX)),(kO,(bZ fY)),(lU,(bZ fq)),(kq,(bZ fx)),(lJ,(bZ g9)),(iV,(bZ fZ)),(n9,(bZ iR)),(oa,(bZ iS)),(nw,(bZ ia)),(ny,(bZ ie)),(mT,(bZ gu)),(lX,(bZ fy)),(lW,(bZ fA)),(kY,(bZ eN)),(kZ,(bZ eO)),(kE,(bZ ez)),(mW,(bZ gv)),(nA,(bZ ig)),(mU,(bZ gy)),(eP,(Kz cw)),(fN,(Kz cL))]):=by
 constructor<;>intro _ _ _<;>rfl
def avx(hlen:l.wa.length=Ws.length)(hn:¬(0≤n∧n<Ws.length))(h:qK w0 w l aa G Ws R)(hk:∀w',qK w0 w' l aa G Ws R→k false w'):jN (some ⟨l.gs,0,none⟩) n w k:=by
 unfold jN uT;obtain⟨sp,st,sw,h⟩:=rO h;have a:=qY (s:=sw) h;rw[List.length_map]at a;refine bP (λb w=>b=true∧St w0 w (SL l aa G (jO (pH l aa) (l.wa.zip Ws)::R) sp st sw)) (λJ c=> ?_) ?_
 ·refine ax (λhb=> ?_) λhb=> ?_
  ·exact c _ _ ⟨rfl,h⟩
  refine cX<|c _ _ ⟨?_,h⟩;have hb:¬n<0:=gq hb
  simp;omega
 clear h;rintro _ w ⟨rfl,h⟩;refine bK rfl<|hk _ (pE h)
def avy{i:Nat}(hW:Ws[i]?=some W):Ws.set i W=Ws:=by
 apply List.ext_getElem?;intro j;by_cases hj:i=j
 ·subst hj;rw[uO (kB.1 hW).1,hW]
 ·rw[r0 hj]
abbrev ahx(w0 w:World)(l:Lc)(aa:List Nat)(G:Gl)(Ws:List Wk)(R:List HP)(n:Int)(gw:Nat)(W:Wk)(sp st sw:Sl)(q:Wq):Prop:=xq w0 w l aa gw G W (jO (pH l aa) ((l.wa.zip Ws).eraseIdx n.toNat)::R) sp st sw q
def aqf{q:Wq}{sp st sw:Sl}(hl:afx l)(t:G.M.OK)(hg:G.M.given (l.sp.at_+1)=true)(ht:G.M.given l.told=true)(h:ahx w0 w l aa G Ws R n gw W sp st sw q)
  (hk:∀w',ahx w0 w' l aa G Ws R n gw W sp st sw q→k (!(tD (l.sp.bits G.M) W.id)||W.wait.parked G.M l.told) w'):
  drew w λa=>nn (some ⟨l.gs,0,none⟩) λd=>bx 3 a (aY d 14) λc=>nn (some ⟨l.gs,0,none⟩) λe=>aQ a (aY e 7) λp15=>nn (some (⟨gw,0,none⟩:Addr)) λf=>aJ .i64 a (aY f 1) λi17=>
   dA c p15 i17 a λg b=>an (!g) (k true b) (nn (some (⟨gw,0,none⟩:Addr)) λi=>aQ b (aY i 4) λj=>nn (some ⟨l.gs,0,none⟩) λm=>aQ b (aY m 7) λo=>cQ j o b λp r=>(k p r)):=by
 refine dZ λw h=>anu h hl.sp t hg λw h=> ?_;cases s:tD (l.sp.bits G.M) W.id with
 |false=>
  rw[s]at hk;exact bK rfl (hk _ h)
 |true=>
  rw[s]at hk;refine aU rfl<|cX<|acG h ht λw h=>hk w h
def ayW(hF:iA w0 l.ps P)(hT:TZ w0)(hl:afx l)(hlen:l.wa.length=Ws.length)(e:G.M.OK)(he:G.err=0)(hg:G.M.given (l.sp.at_+1)=true)(ht:G.M.given l.told=true)
  (hok:∀i W,Ws[i]?=some W→tD (l.sp.bits G.M) W.id=true→W.wait.parked G.M l.told=false→ajH l P ((l.wa.zip Ws).eraseIdx i) (Ws.map (·.dq)) G W) (h:qK w0 w l aa G Ws R)
  (hk:∀JI w',qK w0 w' l JI (ZC l P G Ws n).1.1 (ZC l P G Ws n).1.2 R→k (ZC l P G Ws n).2 w'):jN (some ⟨l.gs,0,none⟩) n w k:=by
 unfold ZC at hk;by_cases hn:0≤n∧n<Ws.length;rotate_left
 ·rw[if_neg hn]at hk;exact avx hlen hn h λw' h'=>hk aa w' h'
 rw[if_pos hn]at hk;have hi:n.toNat<Ws.length:=af;have hW:Ws[n.toNat]?=some (Ws[n.toNat]'hi):=iH hi;have ha:l.wa[n.toNat]?=some (l.wa[n.toNat]' af):=iH af;generalize Ws[n.toNat]'hi=W at hW;generalize l.wa[n.toNat]' af=gw at ha;rw[hW]at hk;dsimp only at hk;have hok:=hok _ _ hW;have hB:=aqe h ha hW;clear h;obtain⟨sp,st,sw,q,hq,h⟩:=dX hB;clear hB;have c:=qY (s:=sw) h;rw[List.length_map]at c;unfold jN uT;refine bP (λb w=>b=false∧ahx w0 w l aa G Ws R n gw W sp st sw q) (λJ d=> ?_) ?_
 ·refine aU (by simp;omega) ?_
  refine cX ?_;exact d _ _ ⟨by simp;omega,h⟩
 clear h;rintro _ w ⟨rfl,h⟩;refine aU rfl<|cX<|vP (s:=sw) h hn.1 (by rw[l8,ha];rfl) ?_
 refine bP (λb w=>b=(!(tD (l.sp.bits G.M) W.id)||W.wait.parked G.M l.told)∧ahx w0 w l aa G Ws R n gw W sp st sw q) (λJ d=> ?_) ?_
 ·exact aqf hl e hg ht h λw' h'=>d _ _ ⟨rfl,h'⟩
 clear h;rintro _ w ⟨rfl,h⟩;by_cases a:tD (l.sp.bits G.M) W.id=true∧W.wait.parked G.M l.told=false
 ·rw[if_pos a]at hk;refine aU (by rw[a.1,a.2];rfl) ?_
  have hv:=hq.cT.one;refine cX<|aEG hF hT hl hq h he e ajM (hok a.1 a.2) λJI w' h'=> ?_;generalize ZB l P G W (Ws.map (·.dq))=r at hk h';have h2:=afy hlen ha h';exact alu (hk JI w' h2)
 ·rw[if_neg a]at hk;refine bK ?_ ?_
  ·cases h1:tD (l.sp.bits G.M) W.id<;>cases h2:W.wait.parked G.M l.told<;>first|rfl|exact absurd ⟨h1,h2⟩ a
  have h3:=afy hlen ha (bn hq h);rw[avy hW]at h3;exact hk aa _ h3
end
end Go.Proofs.YthidhjhkmjjckaaGreatDoor
