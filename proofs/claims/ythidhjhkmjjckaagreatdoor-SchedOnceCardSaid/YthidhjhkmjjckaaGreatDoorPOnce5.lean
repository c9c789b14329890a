/-
  Parts of the proof of LOnce: printed by a program out of longer texts.
-/
import Derived.Test.YthidhjhkmjjckaaGreatDoorPOnce4
set_option linter.unusedSimpArgs false
set_option linter.unusedVariables false
set_option maxRecDepth 100000
set_option linter.defProp false
open Go.Value renaming pointer->IB,nilFunc->C_,tuple->J3,slice->IC,bool->Iq
open Go.IntKind renaming i64->B_
open Or renaming inl->D_,inr->E_
open Option renaming some->G_,none->H_
open Bool renaming true->J_,false->K_,true_and->Oo
open Decidable renaming decide->L_
open BitVec renaming ofInt_natCast->Ja,toNat_ofNat->J'
open ByteArray renaming mk->Oq
open Int renaming add_zero->jC,eq_ofNat_of_zero_le->ke,mul_le_mul_of_nonneg_right->ki
open List renaming append_nil->n_,dropLast_concat_getLast->ei,dropLast_subset->kj,exists_cons_of_ne_nil->kp,getElem?_range->lD,getElem?_zip_eq_some->lE,length_map->U',length_set->VJ,mem_cons->BP,mem_filter->C5,mem_map->C6,nodup_cons->VN
open Nat renaming zero_le->li
open List renaming getElem?_eq_some_iff->kB,getElem?_eq_getElem->iH,getD_eq_getElem?_getD->m0,getElem?_append_left->tJ,getElem?_append_right->u0,getElem?_set_ne->r0,getElem?_set_self->uO,mem_of_getElem?->qn,getElem?_map->l8,eraseIdx->I7,insertIdx_succ_cons->aBT,insertIdx_zero->aBU,replicate->dU,mem_append->zw,length_append->uv,all_eq_true->tL
open Go.Sem renaming run_pure->cP,run_bind->cR
open Go.Result renaming andThen_ok->cK
open Bool renaming or_eq_false_iff->kf,and_eq_true->iY
open Option renaming isNone->eA
open Go.IntKind renaming wrap->aF
open Int renaming toNat_natCast->iZ
open Array renaming setIfInBounds->eS,getElem?_eq_some_iff->Bf
open Nat renaming le_refl->iw
open Go.Addr renaming add->aY
namespace Go.Proofs.YthidhjhkmjjckaaGreatDoor
open Go Go.Ev Go.Proofs
open Ko (ni CK)
open Fr (dY)
variable{c:Value->ap}{p:Addr}{w:World}{xm:Bool}
def alW(h:fF xm p w λ_ w=>c (J3 #[]) w):Dk [Iq xm,IB (G_ p)] w c:=h
def ajy(h:eW xm p w λ_ w=>c (J3 #[]) w):B4 [Iq xm,IB (G_ p)] w c:=h
variable{z3:Addr}
def apU(h:gH xm p z3 w λ_ w=>c (J3 #[]) w):Ew [Iq xm,IB (G_ p),IB (G_ z3)] w c:=h
variable{i:List Int}
def anZ(W:Wk)(t:Tk):Prop:=match W.seen with
 | .nx i=>i.length=5/\t.f.length=19/\((dY t.f i).2=K_->8<=i.getD 0 0/\i.getD 0 0<=16)
 | .c .th=>True
 | .c .xp=>True
 |_=>False
variable{G:Gl}{P:List dB}{R:List HP}{W:Wk}{aa s':List Nat}{gw x:Nat}{k:Unit->ap}{l:Lc}{t:Tk}{w0:World}
variable{zd:Nd}
def alX{lk:Lk}(p:iA w0 l.ps P)(h:qR w0 w l aa gw G W R)(r:G.err=0)(hs:W.stack=x::s')(j:G.ts[x]?=G_ t)(hl:W.look=G_ lk)(s:lk.done=K_)(g:nZ G.C lk.at_=G_ zd)(n:G.M.can W.id zd.at_=J_)(a:anZ W t)
  (d:Fin w0 l aa gw R k (looking l G W lk zd x t)):eL (A_ gw) w k:=by
 obtain⟨id,dq,wait,stack,back,cT,op,after,look,seen,step,left,late,fits,got,none_,jq,home,target,kind,bO,blocked,again,o,mark,dK,own,said,bits,qc⟩:=W;dsimp only at hl hs n;subst hl;obtain⟨sp,st,sw,q,hq,h⟩:=dX h;unfold eL vt;unfold looking at d;dsimp only[l6]at h d;refine dZ λw h=>?_;have h:=h.fr 1;have h:=h.fr 3;have h:=h.fr 16;refine aiI h s g n λw h=>?_;have h:=h.bk 16;have h:=h.bk 3;have h:=h.bk 1;refine cX<|ax (λhb=>?_) λhb=>?_
 .have hb:(lk.go G.M zd).done=true:=by simpa using hb
  rw[HK hb]at d;refine cX ?_;have h:xq w0 w l aa gw (G.tick id) ⟨id,dq,wait,stack,back,cT,op,after,G_ (lk.go G.M zd),seen,step,left,late,fits,got,none_,jq,home,target,kind,bO,blocked,again,o,mark,dK,own,said,bits,qc⟩ R sp st sw q:=h;replace hq:q.Ok aa gw ⟨id,dq,wait,stack,back,cT,op,after,G_ (lk.go G.M zd),seen,step,left,late,fits,got,none_,jq,home,target,kind,bO,blocked,again,o,mark,dK,own,said,bits,qc⟩:={hq with};unfold anZ at a;unfold Sy at d;have hv:=hq.seen;cases seen with
  |nx i=>
   obtain⟨b,c',e,u,v,hv⟩:=hv;rw[hv];refine bV (λ_ _ _=>rfl) (apU ?_);exact auP p hq h e u v r hs j a.2.1 a.2.2 d
  |c f=>
   obtain⟨b,e,hv⟩:=hv;rw[hv];cases f<;>first|exact a.elim|skip
   .refine bV (λ_ _ _=>rfl) (alW ?_);exact apM hq h e hs j d
   .refine bV (λ_ _ _=>rfl) (ajy ?_);exact alO hq h e d
  |m f=>exact a.elim
  |no=>exact a.elim
  |any=>exact a.elim
  |aw y=>exact a.elim
  |sh kk=>exact a.elim
  |V2 y kk=>exact a.elim
  |BR y kk=>exact a.elim
  |hl m z=>exact a.elim
 .have hb:(lk.go G.M zd).done=false:=by simpa using hb
  rw[HQ (by rw[hb];simp)]at d
  exact d _ (bn (by exact{hq with}) h)
variable{L:List HP}{os:List (Nat×Wk)}
section
variable{f:HP->List HP}
def au5{c:Array Value->Prop}(h:St w0 w L)[a:At L (jO (pH l aa)) os f](b:os[x]?=G_ (gw,W))(d:c #[I_ W.dq,I_ l.log]):bx 2 w (aY ⟨gw,0,H_⟩ 2) c:=by
 obtain⟨R,e,_⟩:=a.out;obtain⟨q,hq,h2⟩:=X2 (BW (e h) b);refine bA h2 vM ?_;exact d
end
variable{p:Option Addr}
def apV(h:iq p w λ_ w=>c (J3 #[]) w):Fk [IB p] w c:=h
def ajz(h:fE p w λ_ w=>c (J3 #[]) w):Dj [IB p] w c:=h
structure aar (l:Lc) (os:List (Nat×Wk)) (bw:List Int) (W:Wk):Prop where
 none_:W.none_= .m .y5\/(W.none_= .m .nothing/\W.wait.how=1)
 left:∀j r,W.left=j::r->∃(jn gj n:Nat) (Wj:Wk),j=((jn:Nat):Int)/\l.wa[jn]?=G_ gj/\os[n]?=G_ (gj,Wj)/\Wj.dq=bw.getD jn 0
variable{bw:List Int}
theorem ZA(h:qR w0 w l aa gw G W (jO (pH l aa) os::R))(hv:aar l os bw W)(a:Fin w0 l aa gw (jO (pH l aa) os::R) k (KR l G W t bw)):bR (A_ gw) w k:=by
 obtain⟨sp,st,sw,q,hq,h⟩:=dX h;unfold bR wB;unfold KR at a;have p:=qY (s:=q.sl) h;have c:=hv.left;refine cX<|ax (λhb=>?_) λhb=>?_
 .have hb:W.left=[]:=by
   grind
  rw[hb]at a;dsimp only at a;unfold alM at a;refine cX ?_;have b:=hq.none_;rcases hv.none_ with hd|⟨hd,hw⟩
  .rw[hd]at a b;obtain b:q.Zp=mt gw .y5:=b;rw[b];rw[HK rfl]at a;refine bV (λ_ _ _=>rfl) (apV ?_);exact auL (bn hq h) a
  .rw[hd]at a b;obtain b:q.Zp=mt gw .nothing:=b;rw[b];rw[HQ e7]at a;refine bV (λ_ _ _=>rfl) (ajz ?_);exact alT (bn hq h) hw a
 .cases hleft:W.left with
  |nil=>
   grind
  |cons j r=>
   obtain⟨u,gj,n,Wj,rfl,f,d,g⟩:=c j r hleft;rw[hleft]at a h;dsimp only at a;rw[iZ,<-g]at a;have i:=qY (s:=q.sl) h;simp at i;refine dZ λw h=>?_;refine vI h e7 rfl<|vP h af (adn f)<|cX ?_;refine arw (s:=q.sl) h e7 af λe m h=>?_;have h:St w0 w (au l.gs (l.cs sp st sw G.steps G.err)::bH l.gm G.M::Da l.gk G.T::scp l.gc G.C::rws 4 sp (G.P.map tI)::bG 1 st (aa.map pt)::bG 1 sw (l.wa.map pt)::ni l.gt G.time::Lw l.gd G.D::LA aa G.ts::
    au gw (W.cs l q)::au q.gwt (W.wait.cells l.told)::bG 1 q.ss q.qw.reverse::bG 1 q.sb q.y6.reverse::bG 1 e (ints r)::l6 (uh q.go) W.op::l6 (λk:Lk=>au q.gl (k.cells l.gc)) W.look::l6 (λo:jH=>au q.gp (o.cells l.sp q.gp)) W.step::fz q.B::jO (pH l aa) os::R):=h
   refine dZ λw h=>au5 (l:=l) (aa:=aa) h d<|atp h λgo w h=>?_;have h:=A5 (K:=l6 (uh q.go)) h;unfold bq;refine dZ λw h=>a _ (bn (q:={q with go:=go,pJ:=mt gw .pF,KJ:=mt gw .Uv,sl:=e}) (by exact{hq with cT:=rfl,after:=rfl}) h)
variable{M:bJ}{wk:Int}
def au6(h:M.OK):(M.tick wk).OK:=⟨h.size,h.fit⟩
def apW(h:qR w0 w l aa gw G W (jO (pH l aa) os::R))(c:G.M.OK)(hs:l.sp.OK)(d:G.M.can W.id l.idle=J_)(e:G.M.given (l.sp.at_+1)=J_)(g:1<=l.wa.length)(h2:l.wa.length<=16)(f:0<=W.id)(i:W.id<l.wa.length)
  (hv:aar l os bw {W with left:=VU (G.D.headD 0) (xI W.id (l.sp.bits G.M) (G.M.get l.idle) l.wa.length)}) (a:Fin w0 l aa gw (jO (pH l aa) os::R) k (others l G W t bw)):fj (A_ gw) w k:=by
 obtain⟨sp,st,sw,q,hq,h⟩:=dX h;unfold fj wI;unfold others at a;have b:=qY (s:=sw) h;rw[U']at b;refine dZ λw h=>ate h d λw h=>?_;refine dZ λw h=>ape h λw h=>?_;with_reducible repeat' (first|refine nP h ?_|fail)
 refine afd h hs (au6 c) e λw h=>?_;with_reducible repeat' (first|refine nP h ?_|fail)
 refine atv (n:=((sw.n:Nat):Int)) h af af f af λs1 w h=>?_;have h:=A5 (K:=bG 1 q.sl) h;rw[iZ,b]at h;refine dZ λw h=>ZA (bn (q:={q with sl:=s1}) (by exact{hq with}) h) hv a
variable{a b d y:Nat}{q:Wq}{sp st:Sl}{z:Int}
variable{zh:Nat}{zn:Sl}{zp:Option Addr}
theorem au7{tg:Option Nat}{k:Bool->ap}(h:xq w0 w l aa gw G W R sp st zn q)(hb:(b,[pt gw])∈q.B)(i:(zh,[I_ wk])∈q.B)(f:(d,[IB zp])∈q.B)(o:acI G.T)
  (g:match tg with|none=>zp=H_|some x=> ∃a,aa[x]?=G_ a/\zp=A_ a) (j:∀y,tg=G_ y->y<G.ts.length)
  (p:∀w',xq w0 w' l aa gw G W R sp st zn q->k (match tg with|none=>Sh G.T z wk|some y=>Sh G.T z wk||Sh G.T z (G.vJ y)) w'):gG z ⟨b,0,H_⟩ ⟨zh,0,H_⟩ ⟨d,0,H_⟩ w k:=by
 unfold gG wD;with_reducible repeat' (first|refine bc ?_|refine cH h λw h=>?_|refine Tn h ?_|refine Zn h hb ?_|refine fzI h i ?_)
 refine aai h o λw h=>ax (λm=>?_) λm=>?_
 .grind
 .with_reducible repeat' (first|refine Zn h f ?_|fail)
  cases tg with
  |none=>
   obtain rfl:zp=none:=g;have:=p w h;dsimp only at this;rw[m]at this;exact aU rfl this
  |some y=>
   obtain⟨a',s,rfl⟩:=g;have n:=j y rfl;have r:G.ts[y]?=G_ (G.ts[y]'n):=iH n;refine bK rfl ?_;obtain⟨g,so,sc,h⟩:=n7 h s r;with_reducible repeat' (first|refine bc ?_|refine Tn h ?_|refine Iy h ?_|refine Zn h hb ?_|refine Zn h f ?_)
   have h:=oX g h;refine aai h o λw h=>?_;have:=p w h;dsimp only at this;rw[m,Bool.false_or]at this;have e:G.vJ y=(G.ts[y]'n).id:=by unfold Gl.vJ;rw[r]
   rw[e]at this;exact this
def ayJ(h:ix z w λr w=>c (Iq r) w):uB [I_ z] w c:=h
def aB2{r s:Addr}(h:gG z z3 r s w λr w=>c (Iq r) w):wE [I_ z,IB (G_ z3),IB (G_ r),IB (G_ s)] w c:=h
def alY(h:eT z z3 w λ_ w=>c (J3 #[]) w):B1 [I_ z,IB (G_ z3)] w c:=h
def apX(h:cW p z w λ_ w=>c (J3 #[]) w):Fm [IB p,I_ z] w c:=h
def ajA(G:Gl)(W:Wk):Prop:=match W.fits with
 | .any=>True
 | .hl _ tg=>acI G.T/\∀y,tg=G_ y->y<G.ts.length
 |_=>False
def ayK{bY:ey}(a:ajA G W)(e:∀args w c,bY (.func kD) args w c=uB args.toList w c)(e2:∀args w c,bY (.func lY) args w c=wE args.toList w c)
  (hq:q.Ok aa gw W) (h:xq w0 w l aa gw G W R sp st zn q) (d:∀w',xq w0 w' l aa gw G W R sp st zn q->c (Iq (Zw G W G.vJ z)) w'):nj bY q.Zo #[I_ z] w c:=by
 unfold ajA at a;unfold Zw at d;have hv:=hq.fits;revert a d hv;cases hag:W.fits<;>intro a d hv<;>first|exact a.elim|skip
 .obtain hv:q.Zo=aAf:=hv;rw[hv];refine bV e (ayJ ?_);exact d w h
 .rename_i me tg;obtain⟨b,c',d',p,hb,f,g,i,hv⟩:=hv;rw[hv];refine bV e2 (aB2 ?_);refine au7 h hb f g a.1 (by revert i;cases tg<;>exact λh=>h) a.2 λw h=>?_
  have:=d w h;cases tg with
  |none=>exact this
  |some y=>exact this
theorem aB3(h:qR w0 w l aa gw G W (jO (pH l aa) os::R))(c:W.op.isSome=J_)(d:ajA G W)(hv:aar l os bw W)(a:Fin w0 l aa gw (jO (pH l aa) os::R) k (Uv l G W t bw G.vJ z)):jM (A_ gw) z w k:=by
 obtain⟨sp,st,sw,q,hq,h⟩:=dX h;unfold jM Bu;unfold Uv at a;have e:=hq.fits.one;refine bP (λb w=>b=L_ (z≠2\/Zw G W G.vJ (got W)=K_)/\xq w0 w l aa gw G W (jO (pH l aa) os::R) sp st sw q) (λJ f=>?_) ?_
 .refine dZ λw h=>ax (λhb=>?_) λhb=>?_
  .grind
  .refine cX<|ahs h c ?_;refine cX<|ayK d (λ_ _ _=>rfl) (λ_ _ _=>rfl) hq h λw h=>ags<|f _ _ ⟨?_,h⟩;grind
 clear h;rintro _ w ⟨rfl,h⟩;refine ax (λhb=>?_) λhb=>?_
 .rw[HK (of_decide_eq_true hb)]at a;exact ZA (bn hq h) hv a
 .rw[HQ (of_decide_eq_false hb)]at a;refine dZ λw h=>a _ (bn (q:={q with KJ:=mt gw .AL}) (by exact{hq with after:=rfl}) h)
def au8(h:qR w0 w l aa gw G W (jO (pH l aa) os::R))(e:W.op.isSome=J_)(g:W.got= .c .S8\/W.got= .m .BQ)(hv:aar l os bw {W with late:=J_})(a:Fin w0 l aa gw (jO (pH l aa) os::R) k (AL l G W t bw z)):ir (A_ gw) z w k:=by
 obtain⟨sp,st,sw,q,hq,h⟩:=dX h;unfold ir yn;unfold AL at a;refine ax (λhb=>?_) λhb=>?_
 .rw[HK (gq hb)]at a
  unfold auJ at a;refine dZ λw h=>ahs h e ?_;refine cX ?_;have d:=hq.got;rcases g with hd|hd
  .rw[hd]at a d;obtain⟨b,f,d⟩:=d;rw[d];rw[HQ e7]at a;refine bV (λ_ _ _=>rfl) (alY ?_);exact apH hq h f a
  .rw[hd]at a d;obtain d:q.ajd=mt gw .BQ:=d;rw[d];rw[HK rfl]at a;refine bV (λ_ _ _=>rfl) (apX ?_);exact ajt (bn hq h) a
 .rw[HQ (gq hb)]at a
  refine dZ λw h=>ZA (bn (by exact{hq with}) h) hv a
variable{p:Addr}
def apY(h:gF z p w λ_ w=>c (J3 #[]) w):Er [I_ z,IB (G_ p)] w c:=h
def ajB(h:eU z p w λ_ w=>c (J3 #[]) w):B2 [I_ z,IB (G_ p)] w c:=h
def ajC(h:eV z p w λ_ w=>c (J3 #[]) w):B3 [I_ z,IB (G_ p)] w c:=h
variable{p:Option Addr}
def ayL(h:jM p z w λ_ w=>c (J3 #[]) w):Ii [IB p,I_ z] w c:=h
def apZ(h:ir p z w λ_ w=>c (J3 #[]) w):Fp [IB p,I_ z] w c:=h
def aas(l:Lc)(os:List (Nat×Wk))(bw:List Int)(G:Gl)(W:Wk)(x:Nat)(t:Tk):Prop:=match W.after with
 | .c .F9=>True
 | .c .um=>True
 | .c .td=>(∃s',W.stack=x::s')/\G.ts[x]?=G_ t/\(W.dK= .m .vQ\/W.dK= .c .Db)
 | .m .Uv=>ajA G W/\aar l os bw W
 | .m .AL=>(W.got= .c .S8\/W.got= .m .BQ)/\aar l os bw {W with late:=J_}
 |_=>False
variable{O:bu}
def alZ(h:qR w0 w l aa gw G W (jO (pH l aa) os::R))(p:G.err=0)(s:G.M.OK)(n:W.op=G_ O)(u:O.GX)(g:(O.step G.M W.id).1.how=6->(O.step G.M W.id).1.err≠0)
  (a:(O.step G.M W.id).1.how≠0->(O.step G.M W.id).1.how≠6->aas l os bw (G.mem (O.step G.M W.id).2) {W with op:=G_ (O.step G.M W.id).1} x t)
  (d:Fin w0 l aa gw (jO (pH l aa) os::R) k (pF l G W O t bw G.vJ)):eK (A_ gw) w k:=by
 obtain⟨id,dq,wait,stack,back,cT,op,after,look,seen,step,left,late,fits,got,none_,jq,home,target,kind,bO,blocked,again,o,mark,dK,own,said,bits,qc⟩:=W;dsimp only at n a g;subst n;obtain⟨sp,st,sw,q,hq,h⟩:=dX h;unfold eK vp;unfold pF at d;dsimp only[l6]at h d;refine dZ λw h=>?_;have h:=h.fr 1;have h:=h.fr 15;refine ano h u s λw h=>?_;have h:=h.bk 15;have h:=h.bk 1;generalize O.step G.M id=r at h d a g ⊢;have h:xq w0 w l aa gw (G.mem r.2) ⟨id,dq,wait,stack,back,cT,G_ r.1,after,look,seen,step,left,late,fits,got,none_,jq,home,target,kind,bO,blocked,again,o,mark,dK,own,said,bits,qc⟩ (jO (pH l aa) os::R) sp st sw q:=h;replace hq:q.Ok aa gw ⟨id,dq,wait,stack,back,cT,G_ r.1,after,look,seen,step,left,late,fits,got,none_,jq,home,target,kind,bO,blocked,again,o,mark,dK,own,said,bits,qc⟩:={hq with};refine ax (λhb=>?_) λhb=>?_
 .have hb:r.1.how=0:=by simpa using hb
  rw[HK hb]at d;exact d _ (bn hq h)
 have hb:¬r.1.how=0:=gq hb
 rw[HQ hb]at d;refine ax (λe=>?_) λe=>?_
 .have e:r.1.how=6:=by simpa using e
  rw[HK e]at d;refine dZ λw h=>?_;have h2:St w0 w (uh q.go r.1::_):=h.front 15 rfl;refine aBt h2<|cX<|KP h (g e) p λw h=>d _ (bn hq h)
 have e:¬r.1.how=6:=gq e
 rw[HQ e]at d;replace a:=a hb e;unfold aas at a;unfold zj at d;have hv:=hq.after;refine cX ?_;cases after with
 |c f=>
  obtain⟨b,j,hv⟩:=hv;rw[hv];cases f<;>first|exact a.elim|skip
  .refine bV (λ_ _ _=>rfl) (apY ?_);exact auK hq h j rfl d
  .refine bV (λ_ _ _=>rfl) (ajB ?_);exact alP hq h j d
  .refine bV (λ_ _ _=>rfl) (ajC ?_);obtain⟨⟨s',hs⟩,v,A⟩:=a;exact alR hq h j rfl hs v A d
 |m f=>
  obtain hv:q.KJ=mt gw f:=hv;rw[hv];cases f<;>first|exact a.elim|skip
  .refine bV (λ_ _ _=>rfl) (ayL ?_);exact aB3 (bn hq h) rfl a.1 a.2 d
  .refine bV (λ_ _ _=>rfl) (apZ ?_);exact au8 (bn hq h) rfl a.1 a.2 d
 |nx i=>exact a.elim
 |no=>exact a.elim
 |any=>exact a.elim
 |aw y=>exact a.elim
 |sh kk=>exact a.elim
 |V2 y kk=>exact a.elim
 |BR y kk=>exact a.elim
 |hl m z=>exact a.elim
open Fr (A0 nE dY eI di iG jo nF o5 qH kz qt qa qb pZ)
def aEz:ET Tryz.prog 120 2 16 (.agg #[I_ 0,I_ 0]):=⟨aZ,aZ⟩
def an0:ET Tryz.prog 69 1 8 (I_ 0):=⟨aZ,aZ⟩
variable{p:Pl}
def au9(T:iA w0 l.ps P)(hI:In P t.f i)(h:qR w0 w l aa gw G W R)(B:G.err=0)(hs:W.stack=x::s')(U:G.ts[x]?=G_ t)(V:t.cJ≠ [])(X:G.M.OK)(Y:G.M.caller W.id=J_)(Z:G.C.length<=1000000)(hP:G.P.length<=1000000)(u:nZ G.C t.kA.1=G_ zd)
  (D:0<=t.kA.1/\G.P[t.kA.1.toNat]?=G_ p) (F:t.scopes.length<=1000000) (H:t.cJ.length<=1000000) (v:G.time.2.length<=100000/\CK G.time) (L:i.getD 4 0>0->(Ko.Dt G.time (G.C.length:Nat) (i.getD 4 0)).1=0)
  (c:Fin w0 l aa gw R k (opens l P G W x t zd p.2.1)):fX (A_ gw) w k:=by
 obtain⟨o,m,I⟩:∃o m,t.cJ=o++[m]:=⟨_,_,(ei V).symm⟩;obtain⟨sp,st,sw,q,hq,h⟩:=dX h;obtain⟨a,vs,ha,y,hvs⟩:=m5 hq hs;obtain⟨d,so,sc,h⟩:=n7 h ha U;unfold fX yH;unfold opens at c;rw[Cr I]at u D c;rw[hI.ins]at c;have N:=hI.len;have h5:=hI.GZ;dsimp only at c;refine G5 h B (λhb w h=>?_) λhb w h=>?_
 .rw[HK hb]at c;refine cX ?_;exact c _ (bn hq (oX ⟨d.len,d.a,d.t⟩ h))
 rw[HQ hb]at c;refine cX ?_;refine lF h y vM λw h=>JH T hI h y λw h=>?_;obtain⟨i0,O,Q,S,g,rfl⟩:=JG h5;have e4:([i0,O,Q,S,g]:List Int).getD 4 0=g:=rfl;rw[e4]at c L;refine vO λgx w h=>?_;obtain⟨gc,j7⟩:∃n,n=gx:=⟨_,rfl⟩;subst j7;refine Ca h I λw h=>?_;with_reducible repeat' (first|refine nP h ?_|fail)
 refine ptI (by rfl) ?_
 refine agZ (C:=G.C) (M:=G.M) h u Y X Z (λz w h=>?_) (λz K w h=>?_) λz K w h=>?_
 .rw[HK z]at c;refine cX ?_;refine KP h e7 B λw h=>?_;exact c _ (bn hq (oX ⟨d.len,d.a,d.t⟩ (h.rm 0 rfl)))
 .rw[HQ z,HK K]at c;refine cX ?_;refine KP h e7 B λw h=>?_;exact c _ (bn hq (oX ⟨d.len,d.a,d.t⟩ (h.rm 0 rfl)))
 .rw[HQ z,HQ (by rw[K];simp)]at c
  have r:=qY (s:=sc) h;have r:sc.n=t.scopes.length:=gq r
  refine dZ λw h=>?_;refine Ca h I λw h=>?_;with_reducible repeat' (first|refine nP h ?_|fail)
  refine ptI (by rfl) ?_
  refine rI (sz:=4) (s:=sp) h D.1 (e:=tI p) (j:=1) (by rw[l8,D.2];rfl) rfl ?_
  with_reducible repeat' (first|refine nP h ?_|fail)
  refine Jw rfl rfl ?_;refine vO λgx w h=>?_;refine Z8 (sz:=4) (s:=sp) h auX aZ rfl af (by simp[Value.oneCell']) (gq hP) af λs1 w h hn=>?_
  have h:=h.zm 0;have e1:G.P.map tI++[tI (t.id,((sc.n:Nat):Int),p.2.1,K_)]=(G.P++[(t.id,((t.scopes.length:Nat):Int),p.2.1,K_)]).map tI:=by rw[r];simp
  rw[e1]at h;with_reducible repeat' (first|refine bc ?_|refine u_S h ?_|refine Hq h λw h=>?_|refine aM h λgx w h=>?_|refine nP h ?_|fail)
  refine I9 (s:=sc) h an0 aZ rfl (gq F) af λs2 w h CD=>?_
  have h:=h.zm 0;have e2:ints t.scopes++[I_ ((G.C.length:Nat):Int)]=ints (t.scopes++[((G.C.length:Nat):Int)]):=by simp[ints]
  rw[e2]at h;refine dZ λw h=>?_;refine Jw rfl rfl ?_;refine vO λgx w h=>?_;refine Z8 (sz:=2) (s:=so) h aEz aZ rfl af (by simp[Value.oneCell']) (gq H) af λs3 w h hn3=>?_
  have h:=h.zm 0;have e3:t.cJ.map A1++[A1 (((G.C.length:Nat):Int),W.mark)]=(t.cJ++[(((G.C.length:Nat):Int),W.mark)]).map A1:=by simp
  rw[e3]at h;refine dZ λw h=>?_;refine bP (fun(b:Bool) w=>b=K_/\St w0 w (au gc (ints [i0,O,Q,S,g])::TL l aa gw {G with M:=(G.M.tick W.id).grow 2,C:=G.C++[⟨m.1,wr (zd.nest+1),(G.M.cells.length:Nat)⟩],P:=G.P++[(t.id,((t.scopes.length:Nat):Int),p.2.1,K_)],time:=if g>0 then(G.time.1,(Ko.Dt G.time (G.C.length:Nat) g).2)else G.time} W R s1 st sw q x a {t with scopes:=t.scopes++[((G.C.length:Nat):Int)],cJ:=t.cJ++[(((G.C.length:Nat):Int),W.mark)]} s3 s2)) (λJ A=>?_) ?_
  .refine dZ λw h=>?_;refine ax (λhb=>?_) λhb=>?_
   .have hb:g>0:=of_decide_eq_true hb;rw[HK hb]at A;refine cX ?_;refine Ko.aBH v.1 v.2 h λw h=>?_;rw[show(Ko.Dt (G.time.1,G.time.2) ((G.C.length:Nat):Int) g).1=0 from L hb];with_reducible repeat' (first|refine nP h ?_|refine AM ?_|fail)
    exact A _ _ ⟨rfl,h⟩
   .have hb:¬g>0:=of_decide_eq_false hb;rw[HQ hb]at A;exact A _ _ ⟨rfl,h⟩
  clear h;rintro _ w ⟨rfl,h⟩;refine cX ?_;refine Td (t:=t) h N λw h=>?_;refine cX ?_;refine AN h (by rw[kz,N]) λw h=>?_
  have h:=h.zm 0;unfold aG;refine dZ λw h=>?_;exact c _ (bn (q:={q with pJ:=mt gw .next}) (by exact{hq with cT:=rfl}) (vH
   (G:=({G with M:=(G.M.tick W.id).grow 2,C:=G.C++[⟨m.1,wr (zd.nest+1),(G.M.cells.length:Nat)⟩],P:=G.P++[(t.id,((t.scopes.length:Nat):Int),p.2.1,K_)],time:=if g>0 then(G.time.1,(Ko.Dt G.time (G.C.length:Nat) g).2)else G.time}:Gl).lZ) ⟨d.len,d.a,d.t⟩ h))
abbrev SL(l:Lc)(aa:List Nat)(G:Gl)(R:List HP)(sp st sw:Sl):List HP:=au l.gs (l.cs sp st sw G.steps G.err)::bH l.gm G.M::Da l.gk G.T::scp l.gc G.C::rws 4 sp (G.P.map tI)::bG 1 st (aa.map pt)::bG 1 sw (l.wa.map pt)::ni l.gt G.time::Lw l.gd G.D::LA aa G.ts::R
variable{zr:List Value}
def al0{g:Nat}{Y:List Value}(h:St w0 w (au g zr::L))(e:zr=Y):St w0 w (au g Y::L):=e▸h
variable{l7 parent:Int}
variable{zt:Int}
def avb{k:Int->ap}(h:St w0 w (SL l aa G R sp st zn))(f:bw.length=19)(j:G.M.OK)(m:G.M.caller wk=J_)(c:(parent= -1/\G.T=[])\/∃t,GV G.T parent=G_ t/\t.kids.length<=1000000)(o:G.T.length<=1000000)(p:aa.length<=1000000)(b:0<=zt/\zt<G.P.length)
  (q:G.M.room 3=J_->∀g DC w',St w0 w' (SL l (aa++[g]) (G.more wk parent l7 zt bw) R sp DC zn)->k 0 w') (h2:G.M.room 3=K_->∀w',St w0 w' (SL l aa G R sp st zn)->k 21 w'):fe (G_ ⟨l.gs,0,H_⟩) wk parent l7 zt (eZ bw) w k:=by
 unfold fe CM;refine aM h λgf w h=>cX<|axI h m j (λd w h=>?_) λd w h=>?_
 .refine vO λgx w h=>?_;obtain⟨A,a⟩:∃n,n=gx:=⟨_,rfl⟩;subst a;refine axN h c o λw h=>dZ λw h=>anS h f ?_;obtain⟨f0,f1,f2,f3,f4,f5,f6,f7,f8,f9,f10,f11,f12,f13,f14,f15,f16,f17,f18,rfl⟩:=Fr.ag8 f;refine vO λgx w h=>?_;obtain⟨i,a⟩:∃n,n=gx:=⟨_,rfl⟩;subst a;refine⟨rfl,?_⟩;refine⟨rfl,?_⟩;with_reducible repeat' (first|refine aM h λgx w h=>?_|refine nP h ?_)
  obtain⟨gp,a⟩:∃n,n=gx:=⟨_,rfl⟩;subst a;obtain⟨gt,a⟩:∃n,n=gx:=⟨_,rfl⟩;subst a;refine I9 h anV aZ rfl (gq p) af λs1 w h B=>?_
  have h:=h.zm 0;have r:aa.map pt++[IB (A_ gt)]=(aa++[gt]).map pt:=by simp
  rw[r]at h;refine dZ λw h=>?_;have s:zt.toNat<G.P.length:=af;refine rW h b.1 (by rw[l8,iH s];rfl) af rfl (by simp[Value.oneCell']) λw h=>?_
  have e2:(G.P.map tI).set zt.toNat [I_ ((G.T.length:Nat):Int),I_ 0,I_ 0,Iq K_]=(G.P.set zt.toNat (((G.T.length:Nat):Int),0,0,K_)).map tI:=by rw[List.map_set]
  have u:∀(z:Int),(#[I_ z,I_ 0,I_ 0,Iq K_]:Array Value).toList=[I_ z,I_ 0,I_ 0,Iq K_]:=λ_=>rfl;rw[u,e2]at h;have h:=h.zm 2;have h:=h.zm 2;have h:=St.asS (g:=i) (sz:=1) h (by rfl) af (by intro v hv;simp at hv;subst hv;rfl)
  have h:=h.fr 11;have x:aa.length=G.ts.length:=KI h;have h:=h.fr 2;have h:St w0 w (rws 2 ⟨H_,0,0⟩ (([]:List (Int×Int)).map A1)::_):=St.YA (by intro e y;cases y) (h.DJ 2)
  have h:=h.fr 3;have h:=al0 (Y:=Tk.cells ⟨H_,0,0⟩ ⟨A_ i,1,1⟩ ⟨(G.T.length:Nat),l7,zt,(G.M.cells.length:Nat),[f0,f1,f2,f3,f4,f5,f6,f7,f8,f9,f10,f11,f12,f13,f14,f15,f16,f17,f18],Oq #[],[],[zt],0,0⟩) h aZ;have h:=ayj x h;have h:=h.bk 9;exact q d gt s1 w h
 .refine vO λgx w h=>h2 d w ((h.rm 0 rfl).rm 0 rfl)
variable{m:List Nat}
def avc{x:Nat×Wk}{F:Nat->Prop}(h:(pH l aa x).p F w):(pH l (aa++m) x).p F w:=by
 obtain⟨q,hq,h⟩:=h;exact⟨q,hq.qT,h⟩
def ajD{α:Type}{X Y:α->HP}(b:∀a F w,(X a).p F w->(Y a).p F w):∀{l:List α} {F:Nat->Prop} {w:World},u4 (l.map X) F w->u4 (l.map Y) F w
 |[],_,_,h=>h
 |a::l,F,w,⟨c,d,h1,h2,h3⟩=>⟨c,d,b _ _ _ h1,ajD b h2,h3⟩
def an1(h:St w0 w (jO (pH l aa) os::R)):St w0 w (jO (pH l (aa++m)) os::R):=by
 obtain⟨b,F,⟨c,d,h2,f,g,e⟩,i⟩:=h;exact⟨b,F,⟨c,d,ajD (λa F w h=>avc h) h2,f,g,e⟩,i⟩
def ajE{f:List Int}(a:f.length=19):(jo f z wk).length=19:=by
 unfold jo;simp[Fr.XY,a]
variable{g:dB}{ps:Sl}
theorem ajF{k:Array Value×Int->ap}(h:St w0 w L)(l:iA w0 ps P)(d:t.f.length=19)(m:i.length=5)(o:o5 i 8=J_)(p:P[(i.getD 4 0).toNat]?=G_ g)(q:∀w',St w0 w' L->k (eZ (jo t.f (i.getD 4 0) g.aX),0) w'):jd (frV t.f).toArray #[S_ ps] (eZ i) w k:=by
 rw[Oz d];have b:=(l.ext h.ext);refine Fr.atY (fs:=P.map λx=>(x.aX,x.sl)) d m ?_ (λe=>?_) (λ_ e=>?_) λ_ z j w' r=>?_
 .have s:=b.rws;unfold Fr.Ow;rw[List.map_map];exact s
 .rw[o]at e;cases e
 .grind
 .rw[l8,p]at j;cases j
  exact q w' (h.on r)
def ap1{k:Array Value->ap}(h:St w0 w L)(a:t.f.length=19)(b:i.length=5)(c:∀w',St w0 w' L->k (eZ (eI t.f i z)) w'):jf (frV t.f).toArray (eZ i) z w k:=by
 rw[Oz a];exact Fr.apn a b λw' d=>c w' (h.on d)
variable{t':Tk}
def avd(C:iA w0 l.ps P)(hI:In P t.f i)(h:qR w0 w l aa gw G W (jO (pH l aa) os::R))(L:G.err=0)(hs:W.stack=x::s')(D:G.ts[x]?=G_ t)(V:t.cJ≠ [])(N:o5 i 8=J_)(F:P[(i.getD 4 0).toNat]?=G_ g)
  (X:G.M.OK) (Y:G.M.caller W.id=J_) (H:∃t',GV G.T t.id=G_ t'/\t'.kids.length<=1000000) (Z:G.T.length<=1000000) (hn:aa.length<=1000000) (j:0<=W.own/\W.own<G.P.length)
  (b:∀JI w',qR w0 w' l JI gw (KQ l P G W x t).1 (KQ l P G W x t).2 (jO (pH l JI) os::R)->k () w'):fW (A_ gw) w k:=by
 obtain⟨o,m,O⟩:∃o m,t.cJ=o++[m]:=⟨_,_,(ei V).symm⟩;obtain⟨sp,st,sw,q,hq,h⟩:=dX h;obtain⟨a,vs,Q,p,hvs⟩:=m5 hq hs;obtain⟨r,so,sc,h⟩:=n7 h Q D;unfold fW yF;unfold KQ at b;rw[Cr O,hI.ins]at b;dsimp only at b;have u:=hI.len;have y:=hI.GZ;have I:EN P (i.getD 4 0)=g.aX:=by unfold EN;rw[F]
 rw[I]at b;refine G5 h L (λhb w h=>?_) λhb w h=>?_
 .rw[HK hb]at b;refine cX ?_;exact b aa _ (bn hq (oX ⟨r.len,r.a,r.t⟩ h))
 rw[HQ hb]at b;refine cX ?_;refine lF h p vM λw h=>?_;refine JH C hI h p λw h=>?_;obtain⟨i0,z,A,B,d,hi⟩:=JG y;subst hi;refine vO λgx w h=>?_;obtain⟨gc,j7⟩:∃n,n=gx:=⟨_,rfl⟩;subst j7;have c:(jo t.f d g.aX).length=19:=ajE u;refine bP (fun(x2:Addr×Int) w=> ∃g2,x2=(⟨g2,0,H_⟩,0)/\St w0 w (au g2 (ints (jo t.f d g.aX))::au gc (ints [i0,z,A,B,d])::TL l aa gw G W (jO (pH l aa) os::R) sp st sw q x a t so sc)) (λJ S=>?_) ?_
 .with_reducible repeat' (first|refine bc ?_|refine cH h λw h=>?_|refine Tn h ?_|refine QT h ?_|refine Vh h ?_|refine aM h λgx w h=>?_|refine nP h ?_|refine sR h ?_|refine y8 ?_ ?_|fail)
  .refine ajF (t:=t) (i:=[i0,z,A,B,d]) (g:=g) h C u y N F λw h=>?_;with_reducible repeat' (first|refine aM h λgx w h=>?_|refine nP h ?_|refine sR h ?_|fail)
   refine afu h rfl c λw h=>?_;exact S _ _ ⟨_,rfl,h⟩
  .refine ajF (t:=t) (i:=[i0,z,A,B,d]) (g:=g) h C u y N F λw h=>?_;refine afu h rfl c λw h=>?_;exact S _ _ ⟨_,rfl,h⟩
 clear h;rintro _ w ⟨g2,rfl,h⟩;refine QI ?_;refine dZ λw h=>?_;refine anS h c ?_;refine Ca h O λw h=>?_;with_reducible repeat' (first|refine nP h ?_|refine sR h ?_|fail)
 refine ptI (by rfl) ?_
 have h:=h.bk 23;have h:=h.bk 22;have h:=oX r h;refine avb (aa:=aa) (G:=G) h c X Y (E_ H) Z hn j (λK U DC w h=>?_) λK w h=>?_
 .rw[HQ (by rw[K];simp)]at b
  have v:=qY (s:=DC) h;have hm':=(h.own (sz:=1) (s:=DC)).max;have ES:=(h.own (sz:=1) (s:=DC)).cap;have e0:aF B_ (((DC.n:Nat):Int) - 1)=(G.ts.length:Nat):=by
   rw[U',uv,r.len]at v;simp only[List.length_cons,List.length_nil]at v;rw[kg ⟨af,af⟩];omega
  with_reducible repeat' (first|refine bc ?_|refine cH h λw h=>?_|refine nP h ?_|refine I8 ?_|refine AM ?_|fail)
  obtain⟨e,so',sc',h⟩:=n7 (W:=W) (q:=q) h (S9 Q) (tJ (kB.1 D).1|>.trans D);with_reducible repeat' (first|refine bc ?_|refine Tn h ?_|refine u_S h ?_|refine QT h ?_|refine Vh h ?_|fail)
  refine ap1 (t:=t) (i:=[i0,z,A,B,d]) h u y λw h=>?_;refine cX ?_;refine AN h (by rw[qa,u]) λw h=>?_
  unfold aG;refine dZ λw h=>?_;have h:=h.zm 22;have h:=h.zm 22;have h:=h.fr 22;have h:=an1 (m:=[U]) h;have h:=h.bk 22;simp only[e0]at h;exact b (aa++[U]) _ (bn (q:={q with pJ:=mt gw .tF}) (by exact{hq.qT with cT:=rfl}) (vH (G:=(G.more W.id t.id m.1 W.own (jo t.f d g.aX)).lZ) ⟨e.len,e.a,e.t⟩ h))
 .rw[HK K]at b;with_reducible repeat' (first|refine nP h ?_|fail)
  refine KP h e7 L λw h=>?_;have h:=h.zm 19;have h:=h.zm 19;exact b aa _ (bn hq h)
open Fr (A0 nE dY eI di iG jo nF o5)
abbrev tk0:Tk:=⟨0,0,0,0,[],Oq #[],[],[],0,0⟩
def Gl.tk(G:Gl)(x:Nat):Tk:=(G.ts[x]?).getD tk0
def Gl.nd(G:Gl)(s:Int):Nd:=(nZ G.C s).getD ⟨0,0,0⟩
def Gl.pk(G:Gl)(s:Int):Int:=match G.P[s.toNat]? with|some p=>p.2.1|none=>0
def Gl.xw(G:Gl)(h:x<G.ts.length):G.ts[x]?=G_ (G.tk x):=by
 unfold Gl.tk;rw[iH h];rfl
def Gl.aB4(G:Gl)(h:z<G.P.length)(b:0<=z):∃p,G.P[z.toNat]?=G_ p/\G.pk z=p.2.1:=by
 have a:z.toNat<G.P.length:=af;exact⟨_,iH a,by unfold Gl.pk;rw[iH a]⟩
def ZB(l:Lc)(P:List dB)(G:Gl)(W:Wk)(bw:List Int):SW:=
 let x:=W.stack.headD 0
 let t:=G.tk x
 match W.cT with
 | .m .rest=>rest l G W
 | .m .pF=>match W.op with|some O=>pF l G W O t bw G.vJ|none=>(G,W)
 | .m .looking=>match W.look with|some k=>looking l G W k (G.nd k.at_) x t|none=>(G,W)
 | .m .tell=>OE l G W
 | .m .others=>others l G W t bw
 | .m .xn=>match W.step with|some o=>xn l G W o|none=>(G,W)
 | .m .So=>So l G W
 | .m .JA=>JA l G W
 | .m .tE=>tE G W (G.tk W.jq.toNat)
 | .m .start=>OF l G W W.jq.toNat (G.tk W.jq.toNat)
 | .m .next=>V7 l P G W x t
 | .m .fork=>fork G W t (G.nd t.kA.1)
 | .m .xo=>KQ l P G W x t
 | .m .tF=>tF l G W (G.nd t.kA.1)
 | .m .join=>join l P G W t
 | .m .cJ=>cJ G W
 | .m .opens=>opens l P G W x t (G.nd t.kA.1) (G.pk t.kA.1)
 | .m .close=>close_ G W t
 | .m .gL=>gL l P G W x t (G.nd t.kA.1)
 | .m .cancel=>cancel l G W x t (G.nd t.kA.1)
 | .m .pass=>pass l G W x t
 | .m .leave=>leave l P G W x t
 | .m .put=>put G W t
 | .m .fin=>fin G W t
 | .m .asks=>asks G W t
 | .m .gone=>gone G W (G.nd t.l7)
 | .m .asked=>asked G W t (G.tk (W.target.getD 0)) (W.target.getD 0)
 | .m .joined=>joined l P G W x t (G.tk (W.target.getD 0))
 | .m .ul=>ul l G W t
 | .m .rp=>rp l G W
 | .m .sx=>sx G W t (G.nd t.kA.1)
 | .m .register=>register G W (G.tk (W.target.getD 0))
 | .m .block=>match W.step with|some o=>block l G W o|none=>(G,W)
 | .m .Io=>Io l G W t
 | .m .stops=>stops l G W x t G.vJ G.V8
 | .aw y=>Gi l G W t y
 | .sh k=>(G,shut W k t)
 |_=>(G,W)
structure G7 (G:Gl) (W:Wk) (x:Nat) (t:Tk):Prop where
 s:W.stack=x::W.stack.tail
 t:G.ts[x]?=G_ t
abbrev G8(G:Gl)(s:Int):Prop:=nZ G.C s=G_ (G.nd s)
abbrev aau(P:List dB)(f:List Int):Prop:=In P f (bz P f)/\(0<=(bz P f).getD 0 0/\(bz P f).getD 0 0<17)/\((dY f (bz P f)).2=K_->8<=(bz P f).getD 0 0/\(bz P f).getD 0 0<=16)
abbrev ajG(G:Gl)(W:Wk):Prop:=W.target=G_ (W.target.getD 0)/\W.target.getD 0<G.ts.length
abbrev aEB(l:Lc)(os:List (Nat×Wk))(bw:List Int)(G:Gl)(W:Wk):Prop:=∃O,W.op=G_ O/\O.GX/\((O.step G.M W.id).1.how=6->(O.step G.M W.id).1.err≠0)/\
 ((O.step G.M W.id).1.how≠0->(O.step G.M W.id).1.how≠6->aas l os bw (G.mem (O.step G.M W.id).2) {W with op:=G_ (O.step G.M W.id).1} (W.stack.headD 0) (G.tk (W.stack.headD 0)))
structure afx (l:Lc):Prop where
 sp:l.sp.OK
 w1:1<=l.wa.length
 w16:l.wa.length<=16
def ajH(l:Lc)(P:List dB)(os:List (Nat×Wk))(bw:List Int)(G:Gl)(W:Wk):Prop:=
 let x:=W.stack.headD 0
 let t:=G.tk x
 match W.cT with
 | .m .rest=>G.M.can W.id l.told=J_
 | .m .pF=>aEB l os bw G W
 | .m .looking=> ∃k,G7 G W x t/\W.look=G_ k/\k.done=K_/\G8 G k.at_/\G.M.can W.id (G.nd k.at_).at_=J_/\anZ W t
 | .m .tell=>G.M.can W.id l.told=J_
 | .m .others=>G.M.can W.id l.idle=J_/\G.M.given (l.sp.at_+1)=J_/\(0<=W.id/\W.id<l.wa.length)/\aar l os bw {W with left:=VU (G.D.headD 0) (xI W.id (l.sp.bits G.M) (G.M.get l.idle) l.wa.length)}
 | .m .xn=> ∃o,W.step=G_ o/\o.GX l.sp G.M W.id
 | .m .So=>(0<=W.id/\W.id<=16)/\G.M.can W.id l.idle=J_/\W.wait.how=1
 | .m .JA=>(0<=W.id/\W.id<=16)/\G.M.can W.id l.idle=J_
 | .m .tE=>(0<=W.jq/\W.jq<G.ts.length)/\G.M.can W.id ((G.tk W.jq.toNat).jI+0)=J_
 | .m .start=>(0<=W.jq/\W.jq<G.ts.length)/\xH W.dq/\G.M.can W.id (W.dq+1)=J_/\G8 G (G.tk W.jq.toNat).l7/\W.stack.length<=100000/\W.back.length<=100000
 | .m .next=>G7 G W x t/\aau P t.f/\G8 G t.l7
 | .m .fork=>G7 G W x t/\t.cJ≠ []/\G.M.caller W.id=J_/\G.C.length<=1000000/\G.P.length<=1000000/\G8 G t.kA.1
 | .m .xo=>G7 G W x t/\t.cJ≠ []/\aau P t.f/\o5 (bz P t.f) 8=J_/\(∃g,P[((bz P t.f).getD 4 0).toNat]?=G_ g)/\G.M.caller W.id=J_/\(∃t',GV G.T t.id=G_ t'/\t'.kids.length<=1000000)/\G.T.length<=1000000/\G.ts.length<=1000000/\(0<=W.own/\W.own<G.P.length)
 | .m .tF=>G7 G W x t/\t.cJ≠ []/\G8 G t.kA.1/\G.M.can W.id ((G.nd t.kA.1).at_+1)=J_
 | .m .join=>G7 G W x t/\aau P t.f/\(0<=G6 (bz P t.f)/\G6 (bz P t.f)<8)/\(0<=t.f.getD (10+(G6 (bz P t.f)).toNat) 0/\t.f.getD (10+(G6 (bz P t.f)).toNat) 0<G.ts.length)/\G.M.can W.id l.told=J_/\G8 G t.l7
 | .m .cJ=>xH W.dq/\G.M.can W.id (W.dq+1)=J_
 | .m .opens=>G7 G W x t/\t.cJ≠ []/\aau P t.f/\G.M.caller W.id=J_/\G.C.length<=1000000/\G.P.length<=1000000/\G8 G t.kA.1/\(0<=t.kA.1/\t.kA.1<G.P.length)/\t.scopes.length<=1000000/\t.cJ.length<=1000000/\(G.time.2.length<=100000/\CK G.time)/\((bz P t.f).getD 4 0>0->(Ko.Dt G.time (G.C.length:Nat) ((bz P t.f).getD 4 0)).1=0)
 | .m .close=>G7 G W x t/\t.cJ≠ []
 | .m .gL=>G7 G W x t/\t.cJ≠ []/\aau P t.f/\Dr G t.kA.1/\G8 G t.kA.1/\G.M.can W.id (G.nd t.kA.1).at_=J_/\t.gL.size<=1000000
 | .m .cancel=>G7 G W x t/\t.cJ≠ []/\t.f.length=19/\G8 G t.kA.1/\G.M.can W.id (G.nd t.kA.1).at_=J_
 | .m .pass=>G7 G W x t/\t.f.length=19
 | .m .leave=>G7 G W x t/\aau P t.f/\(0<=(bz P t.f).getD 1 0/\(bz P t.f).getD 1 0<8)
 | .m .put=>G7 G W x t/\G.M.can W.id (t.jI+1)=J_
 | .m .fin=>G7 G W x t/\(2<=t.kind/\t.kind<=4)/\G.M.can W.id (t.jI+0)=J_
 | .m .asks=>G7 G W x t/\G.M.can W.id (t.jI+2)=J_
 | .m .gone=>G7 G W x t/\(∃kb bs,W.back=kb::bs/\bs.length=W.stack.tail.length)/\G8 G t.l7/\G.M.can W.id ((G.nd t.l7).at_+1)=J_
 | .m .asked=>G7 G W x t/\t.cJ≠ []/\ajG G W/\G.M.can W.id ((G.tk (W.target.getD 0)).jI+0)=J_
 | .m .joined=>G7 G W x t/\aau P t.f/\ajG G W/\G.M.can W.id ((G.tk (W.target.getD 0)).jI+1)=J_
 | .m .ul=>G7 G W x t/\(W.dK= .m .vQ\/W.dK= .c .Db)/\xH W.dq/\G.M.can W.id (W.dq+1)=J_
 | .m .rp=>G.M.can W.id l.told=J_
 | .m .sx=>G7 G W x t/\t.cJ≠ []/\G8 G t.kA.1/\G.M.can W.id ((G.nd t.kA.1).at_+1)=J_
 | .m .register=>ajG G W/\(0<=W.id/\W.id<=16)/\G.M.can W.id ((G.tk (W.target.getD 0)).jI+2)=J_
 | .m .block=> ∃o,W.step=G_ o/\o.GX l.sp G.M W.id
 | .m .Io=>G7 G W x t/\afv G W t/\G.M.can W.id l.told=J_/\G8 G t.l7
 | .m .stops=>G7 G W x t/\(0<=W.id/\W.id<=16)/\(W.blocked=J_->(W.step.getD (jH.B7 0 2)).GX l.sp G.M W.id)/\(W.blocked=K_->W.bO=J_->ajG G W/\G.M.can W.id ((G.tk (W.target.getD 0)).jI+2)=J_)/\(W.blocked=K_->W.bO=K_->anY G W t)
 | .aw y=>G7 G W x t/\y<G.ts.length/\G.M.can W.id l.told=J_/\G8 G t.l7
 | .sh k=>G7 G W x t/\t.cJ≠ []
 |_=>False
variable{p:Option Addr}
def ave(h:gW p w λ_ w=>c (J3 #[]) w):Am [IB p] w c:=h
def ajI(h:eK p w λ_ w=>c (J3 #[]) w):vq [IB p] w c:=h
def ajJ(h:eL p w λ_ w=>c (J3 #[]) w):vu [IB p] w c:=h
def avf(h:gT p w λ_ w=>c (J3 #[]) w):Ag [IB p] w c:=h
def al1(h:fj p w λ_ w=>c (J3 #[]) w):wJ [IB p] w c:=h
def al2(h:fm p w λ_ w=>c (J3 #[]) w):wL [IB p] w c:=h
def ayN(h:iP p w λ_ w=>c (J3 #[]) w):Bz [IB p] w c:=h
def avg(h:gU p w λ_ w=>c (J3 #[]) w):Ai [IB p] w c:=h
def al3(h:fo p w λ_ w=>c (J3 #[]) w):wO [IB p] w c:=h
def ap2(h:fV p w λ_ w=>c (J3 #[]) w):yC [IB p] w c:=h
def avh(h:gV p w λ_ w=>c (J3 #[]) w):Ak [IB p] w c:=h
def avi(h:gX p w λ_ w=>c (J3 #[]) w):Ao [IB p] w c:=h
def ap3(h:fW p w λ_ w=>c (J3 #[]) w):yG [IB p] w c:=h
def al4(h:fp p w λ_ w=>c (J3 #[]) w):wQ [IB p] w c:=h
def avj(h:gY p w λ_ w=>c (J3 #[]) w):Ar [IB p] w c:=h
def ayO(h:gZ p w λ_ w=>c (J3 #[]) w):Au [IB p] w c:=h
def ap4(h:fX p w λ_ w=>c (J3 #[]) w):yI [IB p] w c:=h
def ap5(h:fY p w λ_ w=>c (J3 #[]) w):yK [IB p] w c:=h
def al5(h:fq p w λ_ w=>c (J3 #[]) w):wV [IB p] w c:=h
def al6(h:fx p w λ_ w=>c (J3 #[]) w):wX [IB p] w c:=h
def avk(h:g9 p w λ_ w=>c (J3 #[]) w):Ay [IB p] w c:=h
def ap6(h:fZ p w λ_ w=>c (J3 #[]) w):yN [IB p] w c:=h
def ayP(h:iR p w λ_ w=>c (J3 #[]) w):BF [IB p] w c:=h
def ayQ(h:iS p w λ_ w=>c (J3 #[]) w):BH [IB p] w c:=h
def avl(h:ia p w λ_ w=>c (J3 #[]) w):AD [IB p] w c:=h
def avm(h:ie p w λ_ w=>c (J3 #[]) w):AF [IB p] w c:=h
def ap7(h:gu p w λ_ w=>c (J3 #[]) w):yP [IB p] w c:=h
def al7(h:fy p w λ_ w=>c (J3 #[]) w):xb [IB p] w c:=h
def al8(h:fA p w λ_ w=>c (J3 #[]) w):xe [IB p] w c:=h
def ajK(h:eN p w λ_ w=>c (J3 #[]) w):vw [IB p] w c:=h
def ajL(h:eO p w λ_ w=>c (J3 #[]) w):vA [IB p] w c:=h
def ahw(h:ez p w λ_ w=>c (J3 #[]) w):uJ [IB p] w c:=h
def ap8(h:gv p w λ_ w=>c (J3 #[]) w):yU [IB p] w c:=h
def avn(h:ig p w λ_ w=>c (J3 #[]) w):AH [IB p] w c:=h
def ap9(h:gy p w λ_ w=>c (J3 #[]) w):yW [IB p] w c:=h
structure avo (bY:ey):Prop where
 aB5:∀args w c,bY (.func gB) args w c=Am args.toList w c
 aqa:∀args w c,bY (.func kW) args w c=vq args.toList w c
 aqb:∀args w c,bY (.func kX) args w c=vu args.toList w c
 OE:∀args w c,bY (.func nu) args w c=Ag args.toList w c
 avp:∀args w c,bY (.func lS) args w c=wJ args.toList w c
 avq:∀args w c,bY (.func lT) args w c=wL args.toList w c
 aEC:∀args w c,bY (.func mI) args w c=Bz args.toList w c
 aB6:∀args w c,bY (.func nr) args w c=Ai args.toList w c
 avr:∀args w c,bY (.func lR) args w c=wO args.toList w c
 OF:∀args w c,bY (.func mQ) args w c=yC args.toList w c
 V7:∀args w c,bY (.func gC) args w c=Ak args.toList w c
 aB7:∀args w c,bY (.func lH) args w c=Ao args.toList w c
 KQ:∀args w c,bY (.func mR) args w c=yG args.toList w c
 avs:∀args w c,bY (.func lV) args w c=wQ args.toList w c
 aB8:∀args w c,bY (.func js) args w c=Ar args.toList w c
 aED:∀args w c,bY (.func lI) args w c=Au args.toList w c
 ayR:∀args w c,bY (.func mS) args w c=yI args.toList w c
 close_:∀args w c,bY (.func kO) args w c=yK args.toList w c
 avt:∀args w c,bY (.func lU) args w c=wV args.toList w c
 avu:∀args w c,bY (.func kq) args w c=wX args.toList w c
 aB9:∀args w c,bY (.func lJ) args w c=Ay args.toList w c
 ayS:∀args w c,bY (.func iV) args w c=yN args.toList w c
 aEE:∀args w c,bY (.func n9) args w c=BF args.toList w c
 aEF:∀args w c,bY (.func oa) args w c=BH args.toList w c
 aCa:∀args w c,bY (.func nw) args w c=AD args.toList w c
 aCb:∀args w c,bY (.func ny) args w c=AF args.toList w c
 ayT:∀args w c,bY (.func mT) args w c=yP args.toList w c
 avv:∀args w c,bY (.func lX) args w c=xb args.toList w c
 avw:∀args w c,bY (.func lW) args w c=xe args.toList w c
 aqc:∀args w c,bY (.func kY) args w c=vw args.toList w c
 aqd:∀args w c,bY (.func kZ) args w c=vA args.toList w c
 al9:∀args w c,bY (.func kE) args w c=uJ args.toList w c
 ayU:∀args w c,bY (.func mW) args w c=yU args.toList w c
 aCc:∀args w c,bY (.func nA) args w c=AH args.toList w c
 ayV:∀args w c,bY (.func mU) args w c=yW args.toList w c
 aw:∀args w c,bY (.func eP) args w c=oU args.toList w c
 sh:∀args w c,bY (.func fN) args w c=pX args.toList w c
variable{bY:ey}
def aEG(B:iA w0 l.ps P)(Q:TZ w0)(F:afx l)(hq:q.Ok aa gw W)(hO:xq w0 w l aa gw G W (jO (pH l aa) os::R) sp st zn q)(A:G.err=0)(v:G.M.OK)(hkn:avo bY)(d:ajH l P os bw G W)
  (k:∀JI w',qR w0 w' l JI gw (ZB l P G W bw).1 (ZB l P G W bw).2 (jO (pH l JI) os::R)->c (J3 #[]) w'):nj bY q.pJ #[] w c:=by
 have e:Fin w0 l aa gw (jO (pH l aa) os::R) (λ_ w=>c (J3 #[]) w) (ZB l P G W bw):=λw' h=>k aa w' h;have hv:=hq.cT;have h:=bn hq hO;unfold ajH at d;unfold ZB at k e;generalize hx:W.stack.headD 0=x at d k e;generalize OH:G.tk x=t at d k e;cases H:W.cT with
 |m f=>
  rw[H]at d k e hv;dsimp only at d k e;obtain hv:q.pJ=mt gw f:=hv;rw[hv];cases f with
  |rest=>
   dsimp only at d k e;refine bV hkn.aB5 (ave ?_);exact ayv h d e
  |pF=>
   dsimp only at d k e;subst hx;subst OH;refine bV hkn.aqa (ajI ?_);obtain⟨O,I,C,S,T⟩:=d;rw[I]at e;exact alZ h A v I C S T e
  |looking=>
   dsimp only at d k e;refine bV hkn.aqb (ajJ ?_);obtain⟨lk,i,J,U,j,r,V⟩:=d;rw[J]at e;exact alX B h A i.s i.t J U j r V e
  |tell=>
   dsimp only at d k e;refine bV hkn.OE (avf ?_);exact auM h d e
  |others=>
   dsimp only at d k e;refine bV hkn.avp (al1 ?_);exact apW h v F.sp d.1 d.2.1 F.w1 F.w16 d.2.2.1.1 d.2.2.1.2 (by have h4:=d.2.2.2;rw[<-H]at h4;exact h4) e
  |xn=>
   dsimp only at d k e;refine bV hkn.avq (al2 ?_);obtain⟨o,n,C⟩:=d;rw[n]at e;exact apI h Q F.sp v n C e
  |So=>
   dsimp only at d k e;refine bV hkn.aEC (ayN ?_);exact aBV h d.1 d.2.1 d.2.2 e
  |JA=>
   dsimp only at d k e;refine bV hkn.aB6 (avg ?_);exact ayw h d.1 d.2 e
  |tE=>
   dsimp only at d k e;refine bV hkn.avr (al3 ?_);exact apJ h af (G.xw af) v d.2 e
  |start=>
   dsimp only at d k e;refine bV hkn.OF (ap2 ?_);exact auV h A af (G.xw af) d.2.1 d.2.2.1 d.2.2.2.1 d.2.2.2.2.1 d.2.2.2.2.2 e
  |next=>
   dsimp only at d k e;refine bV hkn.V7 (avh ?_);obtain⟨i,z,j⟩:=d;exact ayz B z.1 h A i.s i.t j z.2.1 z.2.2 e
  |fork=>
   dsimp only at d k e;refine bV hkn.aB7 (avi ?_);obtain⟨i,n,K,X,Y,j⟩:=d;exact ayC h A i.s i.t n v K X Y j e
  |xo=>
   dsimp only at d k e;refine bV hkn.KQ (ap3 ?_);obtain⟨i,n,z,h8,⟨g,hg⟩,K,Z,hTl,V,L⟩:=d;have hna:aa.length<=1000000:=by
    obtain⟨sp,st,zn,q,hq,h⟩:=dX h;rw[xJ h];exact V
   exact avd B z.1 h A i.s i.t n h8 hg v K Z hTl hna L k
  |tF=>
   dsimp only at d k e;refine bV hkn.avs (al4 ?_);obtain⟨i,n,j,r⟩:=d;exact apQ h i.s i.t n v j r e
  |join=>
   dsimp only at d k e;refine bV hkn.aB8 (avj ?_);obtain⟨i,z,hh,D,r,j⟩:=d;exact ayH B z.1 h i.s i.t hh (y:=((G.tk x).f.getD (10+(G6 (bz P (G.tk x).f)).toNat) 0).toNat) af (G.xw af) r j e
  |cJ=>
   dsimp only at d k e;refine bV hkn.aED (ayO ?_);exact ayx h d.1 d.2 e
  |opens=>
   dsimp only at d k e;refine bV hkn.ayR (ap4 ?_);obtain⟨i,n,z,K,X,Y,j,BU,h1,h2,htm,UT⟩:=d;obtain⟨p,hp,hp2⟩:=G.aB4 BU.2 BU.1;rw[hp2]at e;exact au9 B z.1 h A i.s i.t n v K X Y j ⟨BU.1,hp⟩ h1 h2 htm UT e
  |close=>
   dsimp only at d k e;refine bV hkn.close_ (ap5 ?_);obtain⟨i,n⟩:=d;exact auN h i.s i.t n e
  |gL=>
   dsimp only at d k e;refine bV hkn.avt (al5 ?_);obtain⟨i,n,z,U,j,r,hz⟩:=d;exact apP B z.1 h A i.s i.t n U j r hz e
  |cancel=>
   dsimp only at d k e;refine bV hkn.avu (al6 ?_);obtain⟨i,n,C,j,r⟩:=d;exact apN h A i.s i.t C n j r e
  |pass=>
   dsimp only at d k e;refine bV hkn.aB9 (avk ?_);exact ayA h A d.1.s d.1.t d.2 e
  |leave=>
   dsimp only at d k e;refine bV hkn.ayS (ap6 ?_);exact auS B d.2.1.1 h A d.1.s d.1.t d.2.2 e
  |put=>
   dsimp only at d k e;refine bV hkn.aEE (ayP ?_);exact aBW h d.1.s d.1.t v d.2 e
  |fin=>
   dsimp only at d k e;refine bV hkn.aEF (ayQ ?_);exact aBX h d.1.s d.1.t v d.2.1 d.2.2 e
  |asks=>
   dsimp only at d k e;refine bV hkn.aCa (avl ?_);exact ayy h d.1.s d.1.t v d.2 e
  |gone=>
   dsimp only at d k e;refine bV hkn.aCb (avm ?_);obtain⟨i,⟨kb,bs,AR,jR⟩,j,r⟩:=d;exact ayB h i.s AR jR i.t v j r e
  |asked=>
   dsimp only at d k e;refine bV hkn.ayT (ap7 ?_);obtain⟨i,n,⟨D,N⟩,r⟩:=d;exact auY h i.s i.t v D (G.xw N) r n e
  |joined=>
   dsimp only at d k e;refine bV hkn.avv (al7 ?_);obtain⟨i,z,⟨D,N⟩,r⟩:=d;exact apT B z.1 h A i.s i.t v D (G.xw N) r e
  |ul=>
   dsimp only at d k e;refine bV hkn.avw (al8 ?_);exact apS h d.1.s d.1.t d.2.1 d.2.2.1 d.2.2.2 e
  |rp=>
   dsimp only at d k e;refine bV hkn.aqc (ajK ?_);exact alN h d e
  |sx=>
   dsimp only at d k e;refine bV hkn.aqd (ajL ?_);obtain⟨i,n,j,r⟩:=d;exact alS h i.s i.t n v j r e
  |register=>
   dsimp only at d k e;refine bV hkn.al9 (ahw ?_);obtain⟨⟨D,N⟩,hw,r⟩:=d;exact ajv h D (G.xw N) v hw r e
  |block=>
   dsimp only at d k e;refine bV hkn.ayU (ap8 ?_);obtain⟨o,n,C⟩:=d;rw[n]at e;exact au0 h Q F.sp v n C e
  |Io=>
   dsimp only at d k e;refine bV hkn.aCc (avn ?_);obtain⟨i,T,r,j⟩:=d;exact ayE h i.s i.t T r j e
  |stops=>
   dsimp only at d k e;refine bV hkn.ayV (ap9 ?_);obtain⟨i,hw,h1,h2,h3⟩:=d;exact au4 h Q i.s i.t F.sp v hw h1 (λa b=>⟨_,_,(h2 a b).1.1,G.xw (h2 a b).1.2,(h2 a b).2⟩) h3 e
  |_=>exact d.elim
 |aw y=>
  rw[H]at d k e hv;dsimp only at d k e;obtain⟨i,D,r,j⟩:=d;obtain⟨b,c',a',hb,hay,ES,hv⟩:=hv;rw[hv];refine bV hkn.aw (au1 ?_);exact aAj hq hO hb ES i.s i.t hay r j e
 |sh kk=>
  rw[H]at d k e hv;dsimp only at d k e;obtain⟨i,n⟩:=d;obtain⟨b,c',u,hb,hu,ES,hv⟩:=hv;rw[hv];refine bV hkn.sh (au2 ?_);exact aAk hq hO hb ES hu i.s i.t n e
 |_=>rw[H]at d;exact d.elim
abbrev qK(w0 w:World)(l:Lc)(aa:List Nat)(G:Gl)(Ws:List Wk)(R:List HP):Prop:=St w0 w (UW l aa G::jO (pH l aa) (l.wa.zip Ws)::R)
def ZC(l:Lc)(P:List dB)(G:Gl)(Ws:List Wk)(n:Int):(Gl×List Wk)×Bool:=
 if 0<=n/\n<Ws.length then
  match Ws[n.toNat]? with
  |some W=>if tD (l.sp.bits G.M) W.id=J_/\W.wait.parked G.M l.told=K_ then(((ZB l P G W (Ws.map (·.dq))).1,Ws.set n.toNat (ZB l P G W (Ws.map (·.dq))).2),J_)else((G,Ws),K_)
  |none=>((G,Ws),K_)
 else((G,Ws),K_)
variable{Ws:List Wk}{i:Nat}
def aqe(h:qK w0 w l aa G Ws R)(a:l.wa[i]?=G_ gw)(b:Ws[i]?=G_ W):qR w0 w l aa gw G W (jO (pH l aa) ((l.wa.zip Ws).eraseIdx i)::R):=by
 have h2:St w0 w (pH l aa (gw,W)::jO (pH l aa) ((l.wa.zip Ws).eraseIdx i)::UW l aa G::R):=BW h.swap (by rw[lE];exact⟨a,b⟩)
 have c:=h2.front 2 rfl;simpa only[I7]using c
variable{G':Gl}{W':Wk}
theorem afy(c:l.wa.length=Ws.length)(b:l.wa[i]?=G_ gw)(h:qR w0 w l m gw G' W' (jO (pH l m) ((l.wa.zip Ws).eraseIdx i)::R)):qK w0 w l m G' (Ws.set i W') R:=by
 have hi:=(kB.1 b).1;have h2:St w0 w (pH l m (gw,W')::jO (pH l m) ((l.wa.zip Ws).eraseIdx i)::UW l m G'::R):=St.back 2 h;have a:=WY h2 (by simp;omega)
 have e:(l.wa.zip Ws).set i (gw,W')=l.wa.zip (Ws.set i W'):=by
  apply List.ext_getElem?;grind
 rw[e]at a;exact a.swap
def ajM:avo (kC [(sS,(acs dA)),(qZ,(aiu cQ)),(kW,(bZ eK)),(kX,(bZ eL)),(nu,(bZ gT)),(lS,(bZ fj)),(mI,(bZ iP)),(nr,(bZ gU)),(lT,(bZ fm)),(lR,(bZ fo)),(mQ,(bZ fV)),(gC,(bZ gV)),(gB,(bZ gW)),(lH,(bZ gX)),(mR,(bZ fW)),(lV,(bZ fp)),(js,(bZ gY)),(lI,(bZ gZ)),(mS,(bZ fX)),(kO,(bZ fY)),(lU,(bZ fq)),(kq,(bZ fx)),(lJ,(bZ g9)),(iV,(bZ fZ)),(n9,(bZ iR)),(oa,(bZ iS)),(nw,(bZ ia)),(ny,(bZ ie)),(mT,(bZ gu)),(lX,(bZ fy)),(lW,(bZ fA)),(kY,(bZ eN)),(kZ,(bZ eO)),(kE,(bZ ez)),(mW,(bZ gv)),(nA,(bZ ig)),(mU,(bZ gy)),(eP,(Kz cw)),(fN,(Kz cL))]):=by
 constructor<;>intro _ _ _<;>rfl
variable{k:Bool->ap}
theorem avx(c:l.wa.length=Ws.length)(e:¬(0<=z/\z<Ws.length))(h:qK w0 w l aa G Ws R)(hk:∀w',qK w0 w' l aa G Ws R->k K_ w'):jN (G_ ⟨l.gs,0,H_⟩) z w k:=by
 unfold jN uT;obtain⟨sp,st,sw,h⟩:=rO h;have a:=qY (s:=sw) h;rw[U']at a;refine bP (λb w=>b=J_/\St w0 w (SL l aa G (jO (pH l aa) (l.wa.zip Ws)::R) sp st sw)) (λJ d=>?_) ?_
 .refine ax (λhb=>?_) λhb=>?_
  .exact d _ _ ⟨rfl,h⟩
  refine cX<|d _ _ ⟨?_,h⟩;grind
 clear h;rintro _ w ⟨rfl,h⟩;refine bK rfl<|hk _ (pE h)
theorem avy(a:Ws[i]?=G_ W):Ws.set i W=Ws:=by
 apply List.ext_getElem?;grind
abbrev ahx(w0 w:World)(l:Lc)(aa:List Nat)(G:Gl)(Ws:List Wk)(R:List HP)(n:Int)(gw:Nat)(W:Wk)(sp st sw:Sl)(q:Wq):Prop:=xq w0 w l aa gw G W (jO (pH l aa) ((l.wa.zip Ws).eraseIdx n.toNat)::R) sp st sw q
def aqf(v:afx l)(x:G.M.OK)(y:G.M.given (l.sp.at_+1)=J_)(z:G.M.given l.told=J_)(h:ahx w0 w l aa G Ws R wk gw W sp st zn q)
  (d:∀w',ahx w0 w' l aa G Ws R wk gw W sp st zn q->k (!(tD (l.sp.bits G.M) W.id)||W.wait.parked G.M l.told) w'):
  drew w λa=>nn (G_ ⟨l.gs,0,H_⟩) λe=>bx 3 a (aY e 14) λc=>nn (G_ ⟨l.gs,0,H_⟩) λf=>aQ a (aY f 7) λp15=>nn (G_ (⟨gw,0,H_⟩:Addr)) λg=>aJ B_ a (aY g 1) λi=>
   dA c p15 i a λj b=>an (!j) (k J_ b) (nn (G_ (⟨gw,0,H_⟩:Addr)) λm=>aQ b (aY m 4) λo=>nn (G_ ⟨l.gs,0,H_⟩) λp=>aQ b (aY p 7) λr=>cQ o r b λs t=>(k s t)):=by
 refine dZ λw h=>anu h v.sp x y λw h=>?_;cases u:tD (l.sp.bits G.M) W.id with
 |false=>
  rw[u]at d;exact bK rfl (d _ h)
 |true=>
  rw[u]at d;refine aU rfl<|cX<|acG h z λw h=>d w h
section
variable{n:Int}
theorem ayW(x:iA w0 l.ps P)(y:TZ w0)(o:afx l)(a:l.wa.length=Ws.length)(p:G.M.OK)(z:G.err=0)(A:G.M.given (l.sp.at_+1)=J_)(B:G.M.given l.told=J_)
  (d:∀i W,Ws[i]?=G_ W->tD (l.sp.bits G.M) W.id=J_->W.wait.parked G.M l.told=K_->ajH l P ((l.wa.zip Ws).eraseIdx i) (Ws.map (·.dq)) G W) (h:qK w0 w l aa G Ws R)
  (c:∀JI w',qK w0 w' l JI (ZC l P G Ws n).1.1 (ZC l P G Ws n).1.2 R->k (ZC l P G Ws n).2 w'):jN (G_ ⟨l.gs,0,H_⟩) n w k:=by
 unfold ZC at c;by_cases j:0<=n/\n<Ws.length;rotate_left
 .rw[HQ j]at c;exact avx a j h λw' h'=>c aa w' h'
 rw[HK j]at c;have hi:n.toNat<Ws.length:=af;have f:Ws[n.toNat]?=G_ (Ws[n.toNat]'hi):=iH hi;have g:l.wa[n.toNat]?=G_ (l.wa[n.toNat]' af):=iH af;generalize Ws[n.toNat]'hi=W at f;generalize l.wa[n.toNat]' af=gw at g;rw[f]at c;dsimp only at c;have d:=d _ _ f;have t:=aqe h g f;clear h;obtain⟨sp,st,sw,q,hq,h⟩:=dX t;clear t;have m:=qY (s:=sw) h;rw[U']at m;unfold jN uT;refine bP (λb w=>b=K_/\ahx w0 w l aa G Ws R n gw W sp st sw q) (λJ u=>?_) ?_
 .refine aU (by simp;omega) ?_
  refine cX ?_;grind
 clear h;rintro _ w ⟨rfl,h⟩;refine aU rfl<|cX<|vP (s:=sw) h j.1 (by rw[l8,g];rfl) ?_
 refine bP (λb w=>b=(!(tD (l.sp.bits G.M) W.id)||W.wait.parked G.M l.told)/\ahx w0 w l aa G Ws R n gw W sp st sw q) (λJ u=>?_) ?_
 .exact aqf o p A B h λw' h'=>u _ _ ⟨rfl,h'⟩
 clear h;rintro _ w ⟨rfl,h⟩;by_cases e:tD (l.sp.bits G.M) W.id=J_/\W.wait.parked G.M l.told=K_
 .rw[HK e]at c;refine aU (by rw[e.1,e.2];rfl) ?_
  have hv:=hq.cT.one;refine cX<|aEG x y o hq h z p ajM (d e.1 e.2) λJI w' h'=>?_;generalize ZB l P G W (Ws.map (·.dq))=r at c h';have h2:=afy a g h';exact alu (c JI w' h2)
 .rw[HQ e]at c;refine bK ?_ ?_
  .grind
  have v:=afy a g (bn hq h);rw[avy f]at v;exact c aa _ v
end
def Gl.Fw(G:Gl)(wk s:Int):Gl:=G.mem (G.M.cs wk (G.nd s).at_ 0 1).1
def sK(wk:Int)(G:Gl):List Int->Gl
 |[]=>G
 |s::ids=>sK wk (G.Fw wk s) ids
def UX(l:Lc)(G:Gl)(ids:List Int):Gl:=if ids.length=0 then G else(sK l.wa.length G ids).mem ((sK l.wa.length G ids).M.ad l.wa.length l.told 1)
def ZD(l:Lc)(G:Gl)(n:Int):Gl×Bool:=if Ko.Sn G.time.1 n=J_ then(UX l {G with time:=(G.time.1+n,Ko.Oy G.time.2 (G.time.1+n))} (Ko.ids (Ko.ac4 G.time.2 (G.time.1+n))),J_)else(G,K_)
def da(G:Gl)(o:List (Int×Int)):List Int:=0::o.flatMap λp=>(G.tk p.1.toNat).scopes
def ZE(G:Gl)(s:Int):Bool:=match G.P[s.toNat]? with|some p=>p.2.2.2|none=>K_
def ZF(l:Lc)(G:Gl)(o:List (Int×Int))(n:Int):Gl×Bool:=
 if 0<=n/\n<(da G o).length then(if ZE G ((da G o).getD n.toNat 0)then(G,K_)else(UX l G [(da G o).getD n.toNat 0],J_))else(G,K_)
def SA(l:Lc)(P:List dB)(G:Gl)(Ws:List Wk)(o:List (Int×Int))(kind n:Int):(Gl×List Wk)×Bool:=
 if G.err≠0 then((G,Ws),K_)
 else if kind=0 then ZC l P G Ws n
 else if kind=1 then(((ZD l G n).1,Ws),(ZD l G n).2)
 else if kind=2 then(if G.D.length<1024 then(({G with D:=G.D++[n]},Ws),J_)else((G,Ws),K_))
 else if kind=3 then(((ZF l G o n).1,Ws),(ZF l G o n).2)
 else((G,Ws),K_)
def afz(wk:Int):∀(G:Gl) (a b:List Int),sK wk G (a++b)=sK wk (sK wk G a) b
 |G,[],b=>rfl
 |G,s::a,b=>afz wk (G.Fw wk s) a b
def aqh:(M.cs wk z zt l7).1.steps.length=M.steps.length/\(M.cs wk z zt l7).1.cells.length=M.cells.length/\(M.cs wk z zt l7).1.size=M.size:=by
 unfold bJ.cs;split
 .exact⟨by unfold bJ.put bJ.tick;simp,by unfold bJ.put bJ.tick;simp,rfl⟩
 .exact⟨by unfold bJ.tick;simp,rfl,rfl⟩
def V9(wk:Int):∀(ids:List Int) (G:Gl),(sK wk G ids).M.steps.length=G.M.steps.length/\(sK wk G ids).M.cells.length=G.M.cells.length/\(sK wk G ids).M.size=G.M.size/\sK wk G ids=G.mem (sK wk G ids).M
 |[],G=>⟨rfl,rfl,rfl,rfl⟩
 |s::ids,G=>by
  obtain⟨d,h2,e,f⟩:=V9 wk ids (G.Fw wk s);obtain⟨a,b,c⟩:=aqh;exact⟨d.trans a,h2.trans b,e.trans c,by show sK wk (G.Fw wk s) ids=_;rw[f];rfl⟩
def IQ{M':bJ}{a:Int}(b:M'.steps.length=M.steps.length)(h2:M'.cells.length=M.cells.length):M'.can wk a=M.can wk a:=by unfold bJ.can bJ.caller bJ.given;rw[b,h2]
theorem an2{s:Sl}{k:Unit->ap}(h:St w0 w (bG 1 s (ints bw)::SL l aa G R sp st zn))(hs:∀x∈bw,nZ G.C x=G_ (G.nd x)/\G.M.can l.wa.length (G.nd x).at_=J_)(p:G.M.can l.wa.length l.told=J_)
  (b:∀w',St w0 w' (SL l aa (UX l G bw) R sp st zn)->k () w'):fB (G_ ⟨l.gs,0,H_⟩) s w k:=by
 unfold fB CW;have q:=qY (s:=s) h;have v:=(h.own (sz:=1) (s:=s)).max;have r:=(h.own (sz:=1) (s:=s)).cap;have t:(ints bw).length=bw.length:=by simp
 rw[t]at q;have c:zn.n=l.wa.length:=by have:=qY (s:=zn) h;rwa[U']at this
 refine cX<|bP (λ_ w=>St w0 w (bG 1 s (ints bw)::SL l aa (sK l.wa.length G bw) R sp st zn)) (λJ y=>?_) ?_
 .refine DN (G:=Nat) (λj i w=>i=(j:Int)/\j<=bw.length/\St w0 w (bG 1 s (ints bw)::SL l aa (sK l.wa.length G (bw.take j)) R sp st zn)) (λj=>bw.length - j) (g:=0) ⟨rfl,af,h⟩ ?_;clear h;rintro j i w ⟨rfl,hj,h⟩ C hC;by_cases a:j<bw.length
  .refine bK (by simp;omega) ?_
   obtain⟨b1,b2,u,d⟩:=V9 (l.wa.length:Nat) (bw.take j) G;have o:=hs (bw[j]'a) (List.getElem_mem _);refine vI h af (x:=bw[j]'a) (by simp) ?_
   refine dZ λw h=>?_;have f:nZ (sK (l.wa.length:Nat) G (bw.take j)).C (bw[j]'a)=G_ (G.nd (bw[j]'a)):=by rw[d];exact o.1
   rw[show((zn.n:Nat):Int)=((l.wa.length:Nat):Int) by rw[c]]
   refine as9 h f (by rw[IQ b1 b2];exact o.2) λw h=>?_
   refine cX<|hC (j+1) _ _ ⟨?_,af,?_⟩ af
   .rw[kg ⟨af,af⟩];omega
   .have e:bw.take (j+1)=bw.take j++[bw[j]'a]:=by rw[List.take_add_one,iH a];rfl
    rw[e,afz];have e2:sK (l.wa.length:Nat) (sK (l.wa.length:Nat) G (bw.take j)) [bw[j]'a]=(sK (l.wa.length:Nat) G (bw.take j)).mem ((sK (l.wa.length:Nat) G (bw.take j)).M.cs (l.wa.length:Nat) (G.nd (bw[j]'a)).at_ 0 1).1:=by
     show Gl.Fw _ _ _=_;unfold Gl.Fw;have:(sK (l.wa.length:Nat) G (bw.take j)).nd (bw[j]'a)=G.nd (bw[j]'a):=by unfold Gl.nd;rw[d];rfl
     rw[this]
    rw[e2];exact h
  .refine aU (by simp;omega) ?_
   grind
 clear h;rintro _ w h;unfold UX at b;by_cases m:bw.length=0
 .rw[HK m]at b;refine aU (by simp;omega) ?_
  have e:bw=[]:=List.eq_nil_of_length_eq_zero m;subst e;exact b w h.drop
 .rw[HQ m]at b;refine bK (by simp;omega) ?_
  obtain⟨b1,b2,u,d⟩:=V9 (l.wa.length:Nat) bw G;refine dZ λw h=>?_;rw[show((zn.n:Nat):Int)=((l.wa.length:Nat):Int) by rw[c]]
  refine anl h (by rw[IQ b1 b2];exact p) λw h=>?_
  refine cX ?_;have h:=h.drop;rw[show SL l aa ((sK (l.wa.length:Nat) G bw).mem ((sK (l.wa.length:Nat) G bw).M.ad (l.wa.length:Nat) l.told 1)) R sp st zn=SL l aa ((sK (l.wa.length:Nat) G bw).mem ((sK (l.wa.length:Nat) G bw).M.ad (l.wa.length:Nat) l.told 1)) R sp st zn from rfl]at b;exact b w h
structure Lm where
 base:Int
 spare:Int
 cells:Int
 fuel:Int
 deep:Int
 log:Int
structure Ad where
 gs:Nat
 gm:Nat
 gk:Nat
 gc:Nat
 gt:Nat
 gd:Nat
 ga:Nat
def Lm.n(m:Lm):Nat:=(m.base+m.spare).toNat
abbrev gJ(a:Ad)(ps:Sl)(m:Lm)(wa:List Nat):Lc:=⟨a.gs,a.gm,a.gk,a.gc,a.gt,a.gd,ps,m.base,m.spare,m.cells,m.fuel,m.deep,m.log,0,1,⟨4,m.base,m.spare⟩,wa⟩
def cs0(a:Ad)(ps:Sl)(m:Lm):List Value:=[S_ ps,I_ m.base,I_ m.spare,I_ m.cells,I_ m.fuel,I_ m.deep,I_ m.log,pt a.gm,pt a.gk,IB H_,IC (G_ ⟨a.ga,0,H_⟩) 1 1,IC H_ 0 0,I_ 0,I_ 0,I_ 0,I_ 0,I_ 0,pt a.gt,pt a.gd,IC H_ 0 0,I_ 0,I_ 0]
def ml1(m:Lm):bJ:=((bJ.new m.cells m.n).tick m.n).grow 1
def ml2(m:Lm):bJ:=((ml1 m).tick m.n).grow 1
def ml3(m:Lm):bJ:=((ml2 m).tick m.n).grow 2
def ml4(m:Lm):bJ:=((ml3 m).tick m.n).grow 2
structure Lm.OK (m:Lm):Prop where
 base:1<=m.base/\m.base<=16
 spare:0<=m.spare/\m.spare<=16 - m.base
 cells:1<=m.cells/\m.cells<=1048576
 fuel:0<=m.fuel/\m.fuel<=1048576
 deep:1<=m.deep/\m.deep<=1000
 log:0<=m.log/\m.log<=8
variable{j:Nat}
variable{y0:World}
section
variable{f:HP->List HP}
def an3{w':World}{f':HP->List HP}{g:Nat}{cs':List Value}{c:Prop}(h:St w0 w L)(h':St y0 w' R)[a:At L (au g) zr f][a':At R (au g) cs' f'](e:(zr.drop (i+j+x)).take d=(cs'.drop (i+j+x)).take d)(b:c):ai d (aY (aY ⟨g,i,H_⟩ j) x) w w' c:=by rw[dg];exact asq h h' e b
end
section
variable{f:HP->List HP}
theorem avz{k:Option Addr×Int->ap}(h:St w0 w L)[a2:At L (bH gw) M f](b:M.caller wk=J_)(c:M.OK)
  (d:M.room 2=J_->∀g w',St w0 w' (scp g [⟨-1,0,(M.cells.length:Nat)⟩]::f (bH gw ((M.tick wk).grow 2)))->k (A_ g,0) w') (i:M.room 2=K_->∀w',St w0 w' L->k (H_,21) w'):uz (A_ gw) wk w k:=by
 unfold uz Nq;refine aU rfl<|GU h c (λ_ _ a w h=>?_) (λ_ _ a=>?_) λj=>(j ⟨b,af⟩).elim
 .refine aU rfl<|Jw rfl rfl<|aM h λga w h=>aM h λl w h=>?_;have h:=h.asS (g:=ga) (sz:=3) rfl af (by simp[Nd.cells,Value.oneCell'])
  refine d a l w (ae6 (s:=⟨A_ ga,1,1⟩) ?_);obtain⟨m,F,⟨n,o,p,q,r,e⟩,t⟩:=h;obtain⟨u,v,x,y,z,A⟩:=q;refine⟨m,F,⟨n,o,p,⟨u,v,⟨?_,?_⟩,y,z,A⟩,r,e⟩,t⟩
  .grind
  .simpa using x
 .refine bK rfl<|i a w h
end
variable{m:Lm}
def ajN(a:m.OK):(bJ.new m.cells m.n).OK/\(bJ.new m.cells m.n).caller m.n=true:=by
 obtain⟨c,h2,b,_⟩:=a;refine⟨⟨b,by show((0:Nat):Int)<=m.cells;omega⟩,?_⟩
 unfold bJ.caller bJ.new;simp;omega
variable{n:Int}
def ahy(h:M.OK)(b:0<=n)(a:M.room n=J_):((M.tick wk).grow n).OK:=by
 unfold bJ.room at a;simp[decide_eq_true_eq]at a;have:=xQ (M:=M.tick wk) b;have c:(M.tick wk).cells.length=M.cells.length:=rfl;refine⟨h.size,?_⟩;show((((M.tick wk).grow n).cells.length:Nat):Int)<=M.size;rw[this,c];omega
def G9{wk':Int}(h:M.caller wk=J_):((M.tick wk').grow n).caller wk=true:=by
 unfold bJ.caller bJ.grow bJ.tick at*
 simpa using h
variable{a:Ad}{k:Int->ap}
def ajO(f:m.OK)(h:St w0 w (au a.gs (cs0 a ps m)::bH a.gm (bJ.new m.cells m.n)::R))
  (u:6<=m.cells->∀gc w',St w0 w' (scp gc [⟨-1,0,2⟩]::au a.gs ((gJ {a with gc:=gc} ps m []).cs ⟨G_ ⟨a.ga,0,H_⟩,1,1⟩ ⟨H_,0,0⟩ ⟨H_,0,0⟩ 0 0)::bH a.gm (ml4 m)::R)->k 0 w')
  (h2:¬6<=m.cells->∀w' X Y,St w0 w' (X::Y::R)->k 21 w'):fC (G_ ⟨a.gs,0,H_⟩) m.n w k:=by
 obtain⟨g,i⟩:=ajN f;have d:∀(M:bJ) (z:Int),M.size=m.cells->(M.room z=J_↔z+(M.cells.length:Nat)<=m.cells):=λM z e=>by unfold bJ.room;rw[e];simp;omega
 unfold fC vl;unfold cs0 at h;refine cX<|atb h i g (λb w h=>?_) λb w h=>?_;rotate_left
 .have c:¬6<=m.cells:=λq=>by have:=(d (bJ.new m.cells m.n) 1 rfl).2 (by show 1+((0:Nat):Int)<=_;omega);rw[b]at this;cases this
  refine dZ λw h=>h2 c _ _ _ h
 have j:=ahy (wk:=m.n) g af b;have t:=G9 (wk':=m.n) (n:=1) i;refine dZ λw h=>atc (M:=ml1 m) h t j (λb w h=>?_) λb w h=>?_;rotate_left
 .have c:¬6<=m.cells:=λq=>by have:=(d (ml1 m) 1 rfl).2 (by show 1+((1:Nat):Int)<=_;omega);rw[b]at this;cases this
  refine dZ λw h=>h2 c _ _ _ h
 have l:=ahy (wk:=m.n) j af b;have o:=G9 (wk':=m.n) (n:=1) t;refine dZ λw h=>avz (M:=ml2 m) h o l (λb gc w h=>?_) λb w h=>?_;rotate_left
 .have c:¬6<=m.cells:=λq=>by have:=(d (ml2 m) 2 rfl).2 (by show 2+((2:Nat):Int)<=_;omega);rw[b]at this;cases this
  refine dZ λw h=>h2 c _ _ _ h
 have p:=ahy (wk:=m.n) l af b;have r:=G9 (wk':=m.n) (n:=2) o;refine dZ λw h=>atB (M:=ml3 m) h ⟨f.base.1,f.base.2,f.spare.1,f.spare.2⟩ r p (λb w h=>?_) λb w h=>?_;rotate_left
 .have c:¬6<=m.cells:=λq=>by have:=(d (ml3 m) 2 rfl).2 (by show 2+((4:Nat):Int)<=_;omega);rw[b]at this;cases this
  refine dZ λw h=>h2 c _ _ _ h.drop
 refine dZ λw h=>?_;have s:=(d (ml3 m) 2 rfl).1 b;refine u (by have e:((ml3 m).cells.length:Nat)=4:=rfl;rw[e]at s;omega) gc w ?_
 exact h
def Wa(id dq:Int):Wk:=⟨id,dq,⟨0,0⟩,[],[],.m .rest,H_,.no,H_,.no,H_,[],K_,.no,.no,.no,0,.no,H_,0,K_,K_,.no,.no,0,.no,0,.no,0,.no⟩
def Lm.lg(m:Lm):Int:=if m.log<2 then m.log else 2
def Lm.one(m:Lm):Int:=3+EX m.lg
def oe(m:Lm):Nat->bJ
 |0=>ml4 m
 |v+1=>(oe m v).Jy m.n m.lg
def sC(m:Lm)(v:Nat):Int:=6+v*m.one
def JR(m:Lm)(v:Nat):List Wk:=(List.range v).map λi:Nat=>Wa i (sC m i)
def Lm.adq(a:m.OK):0<=m.lg/\m.lg<=m.log/\m.lg<=8:=by have:=a.log;unfold Lm.lg;split<;>omega
def Lm.KS(a:m.OK):4<=m.one/\m.one<=259:=by have:=m.adq a;have:=acM this.1 this.2.2;unfold Lm.one;omega
theorem Te(b:m.OK):∀v:Nat,6+v*m.one<=m.cells->(oe m v).OK/\(oe m v).caller m.n=J_/\(((oe m v).cells.length:Nat):Int)=6+v*m.one/\(oe m v).size=m.cells/\(oe m v).steps.length=m.n+1
 |0,h=>by
  obtain⟨d,h2⟩:=ajN b;refine⟨⟨b.cells,?_⟩,?_,?_,rfl,?_⟩
  .show(((oe m 0).cells.length:Nat):Int)<=m.cells;have:(oe m 0).cells.length=6:=rfl;rw[this];omega
  .exact G9 (G9 (G9 (G9 h2)))
  .have:(oe m 0).cells.length=6:=rfl;rw[this];omega
  .show(ml4 m).steps.length=_;unfold ml4 ml3 ml2 ml1 bJ.grow bJ.tick bJ.new;simp
 |v+1,h=>by
  have e:=m.KS b;have f:((v+1:Nat):Int)*m.one=v*m.one+m.one:=by grind
  obtain⟨d,h2,g,c,i⟩:=Te b v af;have a:(((oe m (v+1)).cells.length:Nat):Int)=6+((v+1:Nat):Int)*m.one:=by
   show(((oe m v).Jy m.n m.lg).cells.length:Nat)=(_:Int);unfold bJ.Jy;have:=xQ (M:=(oe m v).tick m.n) (n:=3+EX m.lg) (by unfold Lm.one at e;omega)
   have e2:((oe m v).tick m.n).cells.length=(oe m v).cells.length:=rfl;have j:(((((oe m v).tick m.n).grow (3+EX m.lg)).tick m.n).put (((oe m v).cells.length:Nat)+2) (Rg.word ⟨(((oe m v).cells.length:Nat):Int)+3,m.lg⟩)).cells.length=(((oe m v).tick m.n).grow (3+EX m.lg)).cells.length:=by unfold bJ.put bJ.tick;simp
   rw[j,this,e2,g,f];unfold Lm.one;omega
  refine⟨⟨by show 1<=(oe m (v+1)).size/\_;exact⟨by show 1<=(oe m v).size;rw[c];exact b.cells.1,by show(oe m v).size<=_;rw[c];exact b.cells.2⟩,by rw[a];show _<=(oe m v).size;rw[c];exact h⟩,?_,a,c,?_⟩
  .show((oe m v).Jy m.n m.lg).caller m.n=J_;unfold bJ.Jy bJ.caller bJ.put bJ.grow bJ.tick;grind
  .show((oe m v).Jy m.n m.lg).steps.length=_;unfold bJ.Jy bJ.put bJ.grow bJ.tick;simpa using i
def aCd(h:St w0 w (au gw [pt l.gs,I_ z,I_ n,I_ l.log,pt i,IC H_ 0 0,IC H_ 0 0,mt gw .rest,IB H_,C_,IB H_,C_,IB H_,IC H_ 0 0,Iq K_,C_,C_,C_,I_ 0,C_,IB H_,I_ 0,Iq K_,Iq K_,C_,C_,I_ 0,C_,I_ 0,C_,I_ 0,C_]::au i (Wt.cells l.told ⟨0,0⟩)::R)):St w0 w (pH l [] (gw,Wa z n)::R):=by
 refine ac8 (q:=⟨i,⟨H_,0,0⟩,[],⟨H_,0,0⟩,[],mt gw .rest,0,C_,0,C_,0,⟨H_,0,0⟩,C_,C_,C_,C_,H_,C_,C_,C_,C_,C_,[]⟩) ?_ ?_
 .exact⟨.nil,.nil,rfl,rfl,rfl,rfl,rfl,rfl,rfl,rfl,rfl,rfl,rfl,rfl,rfl⟩
 .have h:=aup h;have h:St w0 w (l6 (λo:jH=>au 0 (o.cells l.sp 0)) (Wa z n).step::_):=St.shut h;have h:St w0 w (l6 (λk:Lk=>au 0 (k.cells l.gc)) (Wa z n).look::_):=St.shut h;have h:St w0 w (l6 (uh 0) (Wa z n).op::_):=St.shut h;have h:=((h.DJ 1).DJ 1).DJ 1;exact St.auI (A:=[_,_,_,_,_,_,_]) (B:=[_,_]) h
def aEI:ET Tryz.prog 105 1 8 (IB H_):=⟨aZ,aZ⟩
abbrev LW(a:Ad)(ps:Sl)(m:Lm)(sw:Sl)(wa:List Nat)(M:bJ)(v:Nat)(R:List HP):List HP:=au a.gs ((gJ a ps m []).cs ⟨G_ ⟨a.ga,0,H_⟩,1,1⟩ ⟨H_,0,0⟩ sw 0 0)::bH a.gm M::bG 1 sw (wa.map pt)::jO (pH (gJ a ps m []) []) (wa.zip (JR m v))::R
def aqj:JR m (i+1)=JR m i++[Wa i (sC m i)]:=by unfold JR;rw[List.range_succ,List.map_append];rfl
theorem aex(d:m.OK)(h:St w0 w (LW a ps m ⟨H_,0,0⟩ [] (ml4 m) 0 R))(O:6<=m.cells)
  (G:6+m.n*m.one<=m.cells->∀sw wa w',wa.length=m.n->St w0 w' (LW a ps m sw wa (oe m m.n) m.n R)->k 0 w')
  (h2:¬6+m.n*m.one<=m.cells->∀w' L',St w0 w' (L'++R)->k 21 w'):eC (G_ ⟨a.gs,0,H_⟩) m.n w k:=by
 have H:m.n<=16:=by have:=d.base;have:=d.spare;unfold Lm.n;omega
 have B:=m.adq d;have D:=m.KS d;have f:abb m.lg m.log=true:=by unfold abb;simp;exact⟨B.1,B.2.1,d.log.2⟩
 unfold eC tM;refine DN (λq i w=>i=((q.1:Nat):Int)/\q.1<=m.n/\q.2.2.length=q.1/\6+q.1*m.one<=m.cells/\St w0 w (LW a ps m q.2.1 q.2.2 (oe m q.1) q.1 R)) (λq=>m.n - q.1) (g:=(0,⟨H_,0,0⟩,[])) ⟨rfl,af,rfl,af,h⟩ ?_;clear h;rintro⟨v,sw,wa⟩ i w ⟨hi,hv,p,s,h⟩ C I;dsimp only at hi hv p s h;subst hi;obtain⟨j,o,c,t,K⟩:=Te d v s;by_cases L:v<m.n;rotate_left
 .have e:v=m.n:=af;subst e;exact aU bf (G s sw wa w p h)
 refine bK (by simp;omega) ?_
 have hroom:(oe m v).room (3+EX m.lg)=J_↔6+((v+1:Nat):Int)*m.one<=m.cells:=by
  have u:((v+1:Nat):Int)*m.one=v*m.one+m.one:=by grind
  unfold bJ.room;rw[t,c,u];unfold Lm.one;grind
 have hmono:∀z:Nat,z<=m.n->6+m.n*m.one<=m.cells->6+z*m.one<=m.cells:=λz P hq=>by
  have:(z:Int)*m.one<=m.n*m.one:=ki af af;omega
 refine bP (fun(x:Addr×Int) w=>(x.2=0/\6+((v+1:Nat):Int)*m.one<=m.cells/\∃g,x.1=⟨g,0,H_⟩/\St w0 w (au g [I_ (sC m v),I_ m.log]::LW a ps m sw wa (oe m (v+1)) v R))\/(x.2=21/\¬6+m.n*m.one<=m.cells/\∃L',St w0 w (L'++R))) (λJ r=>?_) ?_
 .with_reducible repeat' (first|refine bc ?_|refine cH h λw h=>?_|refine Tn h ?_|refine Z7 h ?_|refine aM h λgx w h=>?_|refine nP h ?_|refine y8 ?_ ?_|refine an3 (by assumption) h vM ?_)
  .refine anr (log:=m.lg) h j o f (λb w h=>?_) λb w h=>?_
   .with_reducible repeat' (first|refine QU h λw h=>?_|refine aM h λgx w h=>?_|refine nP h ?_|refine an3 (by assumption) h vM ?_)
    rw[c]at h;exact r _ _ (D_ ⟨rfl,hroom.1 b,_,rfl,h⟩)
   .with_reducible repeat' (first|refine QU h λw h=>?_|refine aM h λgx w h=>?_|refine nP h ?_|refine an3 (by assumption) h vM ?_)
    exact r _ _ (E_ ⟨rfl,λq=>by rw[hroom.2 (hmono _ af q)]at b;(cases b),[_,_,_,_,_],h⟩)
  .refine anr (log:=m.lg) h j o f (λb w h=>?_) λb w h=>?_
   .with_reducible repeat' refine QU h λw h=>?_
    rw[c]at h;exact r _ _ (D_ ⟨rfl,hroom.1 b,_,rfl,h⟩)
   .with_reducible repeat' refine QU h λw h=>?_
    exact r _ _ (E_ ⟨rfl,λq=>by rw[hroom.2 (hmono _ af q)]at b;(cases b),[_,_,_,_,_],h⟩)
 clear h;rintro⟨ad,e⟩ w F;dsimp only at F;rcases F with⟨rfl,M,g,rfl,h⟩|⟨rfl,y,L',h⟩;rotate_left
 .exact bK rfl (h2 y w L' h)
 refine aU rfl<|dZ λw h=>axJ h λgt w h=>?_;with_reducible repeat' refine sR h ?_
 refine qL (#[pt a.gs,I_ v,I_ (sC m v),I_ m.log,IB H_,IC H_ 0 0,IC H_ 0 0,C_,IB H_,C_,IB H_,C_,IB H_,IC H_ 0 0,Iq K_,C_,C_,C_,I_ 0,C_,IB H_,I_ 0,Iq K_,Iq K_,C_,C_,I_ 0,C_,I_ 0,C_,I_ 0,C_]) rfl aZ ?_;with_reducible repeat' (first|refine bc ?_|refine u_S h ?_|refine Hq h λw h=>?_|refine aM h λgx w h=>?_)
 obtain⟨Q,A⟩:∃n,n=gx:=⟨_,rfl⟩;subst A;refine cX ?_;obtain⟨gw,A⟩:∃n,n=gx:=⟨_,rfl⟩;subst A;have N:(wa.map pt).length<=16:=by grind
 refine I9 h aEI aZ rfl af af λs2 w h S=>dZ λw h=>?_;have h:=h.zm 0;have h:=h.zm 2;have h:=al0 (Y:=[pt a.gs,I_ v,I_ (sC m v),I_ m.log,pt gt,IC H_ 0 0,IC H_ 0 0,mt gw .rest,IB H_,C_,IB H_,C_,IB H_,IC H_ 0 0,Iq K_,C_,C_,C_,I_ 0,C_,IB H_,I_ 0,Iq K_,Iq K_,C_,C_,I_ 0,C_,I_ 0,C_,I_ 0,C_]) h aZ;have h:=aCd (l:=gJ a ps m []) h;have h:=al0 (Y:=(gJ a ps m []).cs ⟨G_ ⟨a.ga,0,H_⟩,1,1⟩ ⟨H_,0,0⟩ s2 0 0) h.swap aZ;have h:=h.fr 4;have h:=h.fr 2;have h:=QV h;have h:=h.bk 3;have u:wa.zip (JR m v)++[(gw,Wa v (sC m v))]=(wa++[gw]).zip (JR m (v+1)):=by
  rw[aqj,List.zip_append (by rw[p];unfold JR;simp)];rfl
 have e2:wa.map pt++[IB (A_ gw)]=(wa++[gw]).map pt:=by simp
 rw[u,e2]at h;refine I (v+1,s2,wa++[gw]) _ _ ⟨?_,by dsimp only;omega,by simp[p],M,h⟩ (by dsimp only;omega)
 rw[kg ⟨af,af⟩];rfl
open Fr (A0 nE dY eI di iG jo nF fR o5 qH kz qt qa qb pZ)
open Ck (gA JE oW G4 qd qx my BS rU B8 sN xo)
theorem ajP{f:List Int}(b:j≠1)(a:j≠18):(A0 f z).getD j 0=f.getD j 0:=by
 unfold A0;grind
theorem ay0{f:List Int}{pc:Int}(h:1<f.length):(A0 f pc).getD 1 0=pc:=by
 unfold A0;grind
theorem ay1{f:List Int}(h:f.length=19):(A0 f z).getD 18 0=IntKind.i64.wrap (f.getD 18 0+1):=by
 unfold A0;grind
variable{v:Int}
def m6{f:List Int}(h:i≠j):(f.set i v).getD j 0=f.getD j 0:=by
 simp only[m0,r0 h]
def avB{f:List Int}(h:i<f.length):(f.set i v).getD i 0=v:=by
 simp[m0,h]
structure Kp (f f':List Int) (pc:Int):Prop where
 len:f'.length=f.length
 fn:f'.getD 0 0=f.getD 0 0
 pc:f'.getD 1 0=pc
 st:f'.getD 18 0=IntKind.i64.wrap (f.getD 18 0+1)
 hs:∀h:Nat,h<8->f'.getD (10+h) 0=f.getD (10+h) 0
def avC{f:List Int}{pc:Int}(h:f.length=19):Kp f (A0 f pc) pc:=
 ⟨qH,ajP e7 e7,ay0 af,ay1 h,λk a=>ajP af af⟩
def SB{f:List Int}(h:f.length=19)(a:0<=f.getD 1 0)(b:f.getD 1 0<1000):Kp f (nE f) (f.getD 1 0+1):=by
 have:=avC (pc:=f.getD 1 0+1) h;unfold Fr.nE;rwa[dh ⟨af,af⟩]
variable{f':List Int}
def Yd{f:List Int}{pc:Int}(b:i<8)(k:Kp (f.set (2+i) v) f' pc):Kp f f' pc:=
 ⟨by rw[k.len,VJ],by rw[k.fn,m6 af],k.pc,by rw[k.st,m6 af],λh a=>by rw[k.hs h a,m6 af]⟩
def ajQ:∀op,op<17->∀j,j<4->((Ck.JD.drop (op*4)).take 4).getD j 0=Fr.nY.getD (4*op+j) 0:=e7
theorem amb(k:Int):Ck.pY k=Fr.VY k:=by
 unfold Ck.pY Fr.VY;grind
theorem Gj(h:Ck.oV bw=0):Fr.oV bw=0:=by
 unfold Ck.oV at h;split at h
 .cases h
 .rename_i b;split at h
  .rename_i a;unfold gA at b a;refine Fr.aff af λj c=>?_;unfold Ck.fits at a;rw[tL]at a;have:=a j (gq c)
   unfold Ck.fit Ck.kinds at this;rw[ajQ _ af j c,amb]at this;unfold Fr.Gh Fr.pY;grind
  .cases h
variable{i:List Int}
def abh(a:Ck.oV i=0)(h:i.getD 0 0=z):o5 i z=true:=by unfold Fr.o5;rw[h,Gj a];simp
def ajR{f:List Int}(c:Ck.oV i=0)(a:f.length=19)(d:0<=f.getD 1 0)(e:f.getD 1 0<1000)(g:(dY f i).2=J_):
  (qd i=J_/\Kp f (dY f i).1 (i.getD 4 0))\/(gA i<=7/\gA i≠6/\Kp f (dY f i).1 (f.getD 1 0+1)):=by
 have j:=Fr.vG (Gj c);unfold gA;revert g;unfold Fr.dY;rw[HQ (by rw[Gj c];simp)]
 split
 .rename_i hb;intro _;exact D_ ⟨by
   rcases hb with hb|hb
   .show((i.getD 0 0==6)||(i.getD 0 0==7))=J_;rw[hb];rfl
   .show((i.getD 0 0==6)||(i.getD 0 0==7))=J_;rw[hb.1];rfl,avC a⟩
 .split
  .rename_i hb;intro _;exact E_ ⟨af,af,SB a d e⟩
  .split
   .intro q;cases q
   .rename_i k l m;intro _;have b:(i.getD 1 0).toNat<8:=af;refine E_ ⟨af,af,Yd (v:=Fr.Sk f i) b ?_⟩;have:=SB (f:=f.set (2+(i.getD 1 0).toNat) (Fr.Sk f i)) (gq a) (by rw[m6 af];exact d) (by rw[m6 af];exact e)
    rwa[m6 af]at this
theorem adr{f:List Int}(a:Ck.oV i=0)(b:(dY f i).2=K_):8<=i.getD 0 0/\i.getD 0 0<=16:=by
 have c:=Ck.afo a;unfold gA at c;revert b;unfold Fr.dY;rw[HQ (by rw[Gj a];simp)]
 grind
def ahz{f:List Int}(a:Ck.oV i=0)(b:f.length=19)(c:0<=f.getD 1 0)(d:f.getD 1 0<1000)(ho:i.getD 0 0=9\/i.getD 0 0=10)(e:z=2\/z=3\/z=4)
  (hb:(di f i z v).2.2=K_):Kp f (di f i z v).1 (f.getD 1 0+1):=by
 have g:=Fr.vG (Gj a);revert hb;unfold Fr.di;rw[HQ (by rcases ho with ho|ho<;>rw[abh a ho] <;>simp<;>omega)]
 split
 .intro _;have:=SB (f:=(f.set (2+(i.getD 1 0).toNat) (if z=4 then 0 else v)).set (2+(i.getD 2 0).toNat) (IntKind.i64.wrap (z - 2))) (gq b) (by rw[m6 af,m6 af];exact c) (by rw[m6 af,m6 af];exact d)
  rw[m6 af,m6 af]at this;exact Yd af (Yd af this)
 .split
  .intro _;have:=SB (f:=(f.set (2+(i.getD 1 0).toNat) v)) (gq b) (by rw[m6 af];exact c) (by rw[m6 af];exact d)
   rw[m6 af]at this;exact Yd af this
  .intro q;cases q
def ahA{f:List Int}(a:Ck.oV i=0)(c:f.length=19)(d:0<=f.getD 1 0)(e:f.getD 1 0<1000)(g:i.getD 0 0=12):Kp f (iG f i xm) (f.getD 1 0+1):=by
 have j:=Fr.vG (Gj a);unfold Fr.iG;rw[HK (abh a g)];have:=SB (f:=f.set (2+(i.getD 1 0).toNat) (if xm then 1 else 0)) (gq c) (by rw[m6 af];exact d) (by rw[m6 af];exact e)
 rw[m6 af]at this;exact Yd af this
def ads{f:List Int}{aX:Int}(a:f.length=19):(jo f n aX).length=19/\(jo f n aX).getD 0 0=n/\(jo f n aX).getD 1 0=0/\(jo f n aX).getD 18 0=0/\∀h:Nat,h<8->(jo f n aX).getD (10+h) 0=if tb aX h then f.getD (10+h) 0 else -1:=by
 obtain⟨o,p,q,r,s,t,u,v,x,y,b,c,d,e,g,i,j,k,l,rfl⟩:=Fr.ag8 a;refine⟨rfl,rfl,rfl,rfl,λh m=>?_⟩;match h,m with
 |0,_=>rfl
 |1,_=>rfl
 |2,_=>rfl
 |3,_=>rfl
 |4,_=>rfl
 |5,_=>rfl
 |6,_=>rfl
 |7,_=>rfl
theorem ajS{f:List Int}(a:Ck.oV i=0)(c:i.getD 0 0=8)(b:f.length=19)(d:0<=f.getD 1 0)(e:f.getD 1 0<1000):(eI f i z).length=19/\(eI f i z).getD 0 0=f.getD 0 0/\(eI f i z).getD 1 0=f.getD 1 0+1
  /\(eI f i z).getD 18 0=IntKind.i64.wrap (f.getD 18 0+1)/\∀h:Nat,h<8->(eI f i z).getD (10+h) 0=if i.getD 1 0=h then z else f.getD (10+h) 0:=by
 have j:=Fr.vG (Gj a);unfold Fr.eI;rw[HK (abh a c)];have k:=SB (f:=f.set (10+(i.getD 1 0).toNat) z) (gq b) (by rw[m6 af];exact d) (by rw[m6 af];exact e)
 refine⟨by rw[k.len,VJ,b],by rw[k.fn,m6 af],by rw[k.pc,m6 af],?_,λh g=>?_⟩
 .rw[k.st];grind
 .rw[k.hs h g];grind
structure FI (P:List dB) (H:Int->Prop) (f:List Int) (d:Nat):Prop where
 len:f.length=19
 f0:0<=f.getD 0 0
 d1:1<=d
 fn:∃g,P[(f.getD 0 0).toNat]?=G_ g/\∃hv,JE P g hv ((d:Int) - 1) (f.getD 1 0)/\∀h:Nat,h<8->tb hv h=J_->H (f.getD (10+h) 0)
variable{H:Int->Prop}
variable{y1:Int->Prop}
def FI.imp{f:List Int}(h:FI P H f d)(a:∀y,H y->y1 y):FI P y1 f d:=by
 obtain⟨g,b,hv,c,e⟩:=h.fn;exact⟨h.len,h.f0,h.d1,g,b,hv,c,λk i j=>a _ (e k i j)⟩
structure FAt (P:List dB) (H:Int->Prop) (f:List Int) (d:Nat) (g:dB) (hv:Int) (i:List Int):Prop where
 at0:P[(f.getD 0 0).toNat]?=G_ g
 acc:Ck.Acc P g
 walk:JE P g hv ((d:Int) - 1) (f.getD 1 0)
 hds:∀h:Nat,h<8->tb hv h=J_->H (f.getD (10+h) 0)
 ins:g.code[(f.getD 1 0).toNat]?=G_ i
 oV:Ck.oV i=0
 good:Ck.Good P g.code.length (my 0 g.code) (qx g.code g.aX) (f.getD 1 0).toNat i
section
variable{f:List Int}
theorem FI.at(i:oW P)(h:FI P H f d):∃g hv,FAt P H f d g hv (bz P f):=by
 obtain⟨g,c,hv,b,j⟩:=h.fn;have a:=i.all g (qn c);have l:=b.a0;have m:=b.a1;have e:bz P f=g.code.getD (f.getD 1 0).toNat []:=by unfold bz;rw[c]
 have k:(f.getD 1 0).toNat<g.code.length:=af;have hi:g.code[(f.getD 1 0).toNat]?=G_ (bz P f):=by grind
 exact⟨g,hv,c,a,b,j,hi,a.ok _ (qn hi),Ck.OD a b hi⟩
end
section
variable{f:List Int}
def FI.oV(a:oW P)(h:FI P H f d):Ck.oV (bz P f)=0:=by obtain⟨g,hv,b⟩:=h.at a;exact b.oV
end
section
variable{f:List Int}
theorem FI.op(a:oW P)(h:FI P H f d):0<=(bz P f).getD 0 0/\(bz P f).getD 0 0<17:=by
 have b:=Ck.afo (h.oV a);grind
end
section
variable{f:List Int}
def FI.GZ(b:iA w ps P)(c:oW P)(h:FI P H f d):(bz P f).length=5:=by
 obtain⟨g,hv,a⟩:=h.at c;exact((b.code g (qn a.at0)).2.GZ _ (qn a.ins)).1
end
section
variable{f:List Int}
def FI.aav(c:iA w ps P)(b:oW P)(h:FI P H f d):aau P f:=by
 obtain⟨g,hv,a⟩:=h.at b;refine⟨⟨h.len,h.f0,a.walk.a0,⟨g,a.at0,a.ins⟩,h.GZ c b⟩,h.op b,λe=>adr a.oV e⟩
end
section
variable{f:List Int}
def FI.aCf(a:oW P)(h:FI P H f d):(0<=(bz P f).getD 0 0/\(bz P f).getD 0 0<17)/\((dY f (bz P f)).2=K_->8<=(bz P f).getD 0 0/\(bz P f).getD 0 0<=16):=by
 obtain⟨g,hv,b⟩:=h.at a;exact⟨h.op a,λc=>adr b.oV c⟩
end
variable{hv:Int}
section
variable{f:List Int}
def FAt.pc(a:FAt P H f d g hv i):0<=f.getD 1 0/\f.getD 1 0<1000:=by
 have b:=a.walk.a0;have c:=a.walk.a1;have:=a.acc.l1;omega
end
section
variable{f:List Int}
def FI.next{d':Nat}(h:FI P H f d)(a:FAt P H f d g hv i)(m:gA i≠6)(j:gA i≠15)(l:gA i≠16)(n:gA i≠8)(b:Kp f f' (f.getD 1 0+1))(o:1<=d')
  (p:((d':Int) - 1)=BS ((d:Int) - 1) i):FI P H f' d':=by
 have c:=h.len;refine⟨by rw[b.len,c],by rw[b.fn];exact h.f0,o,g,by rw[b.fn];exact a.at0,hv,?_,λk e q=>by rw[b.hs k e];exact a.hds k e q⟩
 rw[p,b.pc];exact Ck.alK a.acc a.walk a.ins m j l n
end
section
variable{f:List Int}
def FI.goes(h:FI P H f d)(a:FAt P H f d g hv i)(j:qd i=J_)(b:Kp f f' (i.getD 4 0)):FI P H f' d:=by
 have c:=h.len;refine⟨by rw[b.len,c],by rw[b.fn];exact h.f0,h.d1,g,by rw[b.fn];exact a.at0,hv,?_,λk e l=>by rw[b.hs k e];exact a.hds k e l⟩
 rw[b.pc];exact Ck.alL a.acc a.walk a.ins j
end
section
variable{f:List Int}
def FI.plain(c:oW P)(h:FI P H f d)(e:(dY f (bz P f)).2=J_):FI P H (dY f (bz P f)).1 d:=by
 obtain⟨g,hv,a⟩:=h.at c;obtain⟨i,j⟩:=a.pc;rcases ajR a.oV h.len i j e with⟨k,b⟩|⟨m,l,b⟩
 .exact h.goes a k b
 .exact h.next a l af af af b h.d1 (by unfold BS;rw[HQ af,HQ af])
end
section
variable{f:List Int}
def FI.on(b:oW P)(h:FI P H f d)(i:(bz P f).getD 0 0=13\/(bz P f).getD 0 0=14):FI P H (nE f) d:=by
 obtain⟨g,hv,a⟩:=h.at b;obtain⟨c,e⟩:=a.pc;refine h.next a (by unfold gA;omega) (by unfold gA;omega) (by unfold gA;omega) (by unfold gA;omega) (SB h.len c e) h.d1 ?_
 unfold BS gA;rw[HQ af,HQ af]
end
section
variable{f:List Int}
def FI.opens(b:oW P)(h:FI P H f d)(j:d<=100000)(c:(bz P f).getD 0 0=11):FI P H (nE f) (d+1):=by
 obtain⟨g,hv,a⟩:=h.at b;obtain⟨e,i⟩:=a.pc;have:=h.d1;refine h.next a (by unfold gA;omega) (by unfold gA;omega) (by unfold gA;omega) (by unfold gA;omega) (SB h.len e i) af ?_
 unfold BS gA;rw[HK c,dh ⟨af,af⟩];omega
end
section
variable{f:List Int}
theorem FI.scopes(b:oW P)(h:FI P H f d)(i:(bz P f).getD 0 0=12\/(bz P f).getD 0 0=13):2<=d:=by
 obtain⟨g,hv,a⟩:=h.at b;have c:=a.good.scopes;have e:=a.walk.alJ;unfold sN gA at c;grind
end
section
variable{f:List Int}
def FI.gL{b:Bool}(e:oW P)(h:FI P H f d)(k:d<=100000)(a:(bz P f).getD 0 0=12):FI P H (iG f (bz P f) b) (d - 1):=by
 obtain⟨g,hv,c⟩:=h.at e;obtain⟨i,j⟩:=c.pc;have:=h.scopes e (D_ a);refine h.next c (by unfold gA;omega) (by unfold gA;omega) (by unfold gA;omega) (by unfold gA;omega) (ahA c.oV h.len i j a) af ?_
 unfold BS gA;rw[HQ af,HK a,dh ⟨af,af⟩];omega
end
section
variable{f:List Int}
def FI.joined(b:oW P)(h:FI P H f d)(c:(bz P f).getD 0 0=9\/(bz P f).getD 0 0=10)(e:z=2\/z=3\/z=4)(hb:(di f (bz P f) z v).2.2=K_):FI P H (di f (bz P f) z v).1 d:=by
 obtain⟨g,hv,a⟩:=h.at b;obtain⟨i,j⟩:=a.pc;refine h.next a (by unfold gA;omega) (by unfold gA;omega) (by unfold gA;omega) (by unfold gA;omega) (ahz a.oV h.len i j c e hb) h.d1 ?_
 unfold BS gA;rw[HQ af,HQ af]
end
section
variable{f:List Int}
def FI.hand(e:oW P)(h:FI P H f d)(i:(bz P f).getD 0 0=9\/(bz P f).getD 0 0=10):(0<=G6 (bz P f)/\G6 (bz P f)<8)/\H (f.getD (10+(G6 (bz P f)).toNat) 0):=by
 obtain⟨g,hv,a⟩:=h.at e;have c:=Fr.vG (Gj a.oV);have b:=a.good.ajq;unfold rU at b;unfold gA at b;unfold G6;rcases i with h|h
 .rw[HQ af];rw[HK (by rw[h];rfl)]at b
  exact⟨c.2.1,a.hds _ af (Ck.V6 a.walk af b)⟩
 .rw[HK h];rw[HQ (by rw[h];decide),HK (by rw[h];rfl)]at b
  exact⟨c.2.2,a.hds _ af (Ck.V6 a.walk af b)⟩
end
section
variable{f:List Int}
def FI.aEM(a:oW P)(h:FI P H f d):0<=(bz P f).getD 1 0/\(bz P f).getD 1 0<8:=(Fr.vG (Gj (h.oV a))).1
end
section
variable{f:List Int}
def FI.fork(m:oW P)(h:FI P H f d)(e:(bz P f).getD 0 0=8):∃b,P[((bz P f).getD 4 0).toNat]?=G_ b/\0<=(bz P f).getD 4 0/\EN P ((bz P f).getD 4 0)=b.aX/\(H (-1)\/True)/\FI P H (jo f ((bz P f).getD 4 0) b.aX) 1:=by
 obtain⟨g,hv,c⟩:=h.at m;have q:=(Ck.adh c.good.places).2 e;have n:=(Ck.afo c.oV).2.2.2.1 e;have r:=Fr.vG (Gj c.oV);obtain⟨b,i⟩:∃b,P[((bz P f).getD 4 0).toNat]?=G_ b:=⟨_,iH af⟩;have l:=c.good.ajq;unfold rU gA at l;rw[HQ (by rw[e];decide),HQ (by rw[e];decide),HK (by rw[e];rfl),Ck.OA i]at l
 obtain⟨c1,c2,c3,c4,p⟩:=ads h.len;have a:=m.all b (qn i);refine⟨b,i,n.1,by unfold EN;rw[i],E_ trivial,c1,by rw[c2];exact n.1,iw 1,b,by rw[c2];exact i,b.aX,by rw[c3];exact Ck.aaq a ⟨by have:=a.n0;omega,by have:=a.n1;omega⟩,λk j o=>?_⟩
 rw[p k j,HK o];exact c.hds k j (Ck.V6 c.walk j (Ck.A4.1 l k j o))
end
section
variable{f:List Int}
def FI.tF(j:oW P)(h:FI P H f d)(l:(bz P f).getD 0 0=8)(m:H z):FI P H (eI f (bz P f) z) d:=by
 obtain⟨g,hv,a⟩:=h.at j;obtain⟨n,o⟩:=a.pc;obtain⟨f1,f2,f3,f4,f5⟩:=ajS a.oV l h.len n o;refine⟨f1,by rw[f2];exact h.f0,h.d1,g,by rw[f2];exact a.at0,Ck.MI (bz P f) hv,?_,λk c b=>?_⟩
 .rw[f3];obtain⟨p,e⟩:=Ck.Yb a.acc a.walk a.ins (by unfold gA;omega) (by unfold gA;omega) (by unfold gA;omega)
  refine Ck.adj a.acc.l1 a.walk a.ins p ?_ (λk c b=>?_) ?_
  .unfold Ck.MI;split
   .exact Ck.ayt _ _
   .exact a.walk.inI
  .rw[Ck.ahm c]at b;simpa using b
  .rw[Ck.aap a.walk a.ins e];unfold BS gA;rw[HQ af,HQ af]
 .rw[f5 k c];split
  .exact m
  .rename_i i;rw[Ck.ahm c]at b;have q:xo (bz P f) k=false:=by unfold Ck.xo;rw[Bool.and_eq_false_iff];exact E_ (gq i)
   rw[q,Bool.or_false]at b;exact a.hds k c b
end
def FI.root(b:oW P):FI P H nF 1:=by
 have f:=b.n0;obtain⟨g,c⟩:∃g,P[(0:Int).toNat]?=G_ g:=⟨_,iH (by simp;omega)⟩
 have a:=b.all g (qn c);refine⟨rfl,by simp[Fr.nF],iw 1,g,c,g.aX,Ck.aaq a ⟨by have:=a.n0;omega,by have:=a.n1;omega⟩,λk e d=>?_⟩
 have:=Ck.OA c;rw[b.root]at this;rw[<-this,Ck.X4 e]at d;cases d
section
variable{f:List Int}
def FI.is8(a:oW P)(h:FI P H f d)(b:(bz P f).getD 0 0=z):o5 (bz P f) z=true:=abh (h.oV a) b
end
open Ko (CK)
open Ck (oW)
inductive Ro
 |told|idle|Ye|OI
 |ask (s:Nat)|liv (s:Nat)
 |top (v:Nat)|bot (v:Nat)|Uw (v:Nat)|rg (v g k:Nat)
 |fk (x:Nat)|fv (x:Nat)|fw (x:Nat)
 deriving DecidableEq
def k9(ro:List Ro)(a:Int)(r:Ro):Prop:=0<=a/\ro[a.toNat]?=G_ r
variable{a b:Int}{r:Ro}{ro:List Ro}
variable{y2:Ro}
theorem k9.ne(h:k9 ro a r)(k:k9 ro b y2)(c:r≠y2):a≠b:=by
 intro e;subst e;have:=h.2;rw[k.2]at this;grind
variable{m:List Ro}
def k9.qT(h:k9 ro a r):k9 (ro++m) a r:=⟨h.1,by rw[tJ (kB.1 h.2).1];exact h.2⟩
def k9.lt(h:k9 ro a r):a<ro.length:=by have:=(kB.1 h.2).1;have:=h.1;omega
theorem k9.new{k:Nat}(c:m[k]?=G_ r)(b:a=((ro.length+k:Nat):Int)):k9 (ro++m) a r:=by
 subst b;refine⟨af,?_⟩;grind
def k9.old(h:k9 (ro++m) a r):k9 ro a r\/∃k:Nat,m[k]?=G_ r/\a=((ro.length+k:Nat):Int):=by
 by_cases b:a.toNat<ro.length
 .exact D_ ⟨h.1,by have:=h.2;rwa[tJ b]at this⟩
 .refine E_ ⟨a.toNat - ro.length,?_,by have:=h.1;omega⟩
  have:=h.2;rwa[u0 af]at this
theorem k9.given(h:k9 ro a r)(b:ro.length=M.cells.length):M.given a=true:=by
 have:=h.lt;have:=h.1;unfold bJ.given;grind
def k9.can(h:k9 ro a r)(b:ro.length=M.cells.length)(c:M.caller wk=J_):M.can wk a=true:=by
 unfold bJ.can;rw[c,h.given b];rfl
variable{x:Int}
def SC(c:0<=a)(d:0<=b)(h:b≠a):(M.put a x).get b=M.get b:=by
 unfold bJ.get bJ.put;simp only[m0];rw[r0 af]
def ajT(b:0<=a)(c:a<M.cells.length):(M.put a x).get a=x:=by
 unfold bJ.get bJ.put;simp only[m0];rw[uO af];rfl
def xR(b:0<=a)(c:a<M.cells.length):(M.grow n).get a=M.get a:=by
 unfold bJ.get bJ.grow;simp only[m0];rw[tJ af]
theorem Yf(b:(M.cells.length:Int)<=a):(M.grow n).get a=0:=by
 unfold bJ.get bJ.grow;grind
@[simp] theorem tT :(M.tick wk).get a=M.get a:=rfl
@[simp] theorem SD :(M.tick wk).cells=M.cells:=rfl
@[simp] theorem aCg :(M.tick wk).size=M.size:=rfl
@[simp] theorem ajU :(M.put a x).cells.length=M.cells.length:=by unfold bJ.put;simp
@[simp] theorem size_put :(M.put a x).size=M.size:=rfl
@[simp] theorem amc :(M.put a x).steps=M.steps:=rfl
@[simp] theorem aAm :(M.grow n).steps=M.steps:=rfl
@[simp] theorem aCh :(M.grow n).size=M.size:=rfl
def Tf(h:0<=n):((M.grow n).cells.length:Int)=M.cells.length+n:=by unfold bJ.grow;simp;omega
@[simp] theorem aqS :(M.tick wk).steps.length=M.steps.length:=by unfold bJ.tick;simp
variable{n:Nat}
theorem Ga(a:M.steps.length=n+1)(b:0<=wk)(c:wk<=n):M.caller wk=true:=by
 unfold bJ.caller;grind
def MK(c:0<=a)(d:a<M.cells.length)(hb:0<=b):(M.put a x).get b=if b=a then x else M.get b:=by
 split
 .rename_i e;subst e;exact ajT c d
 .rename_i e;exact SC c hb e
variable{o:Int}
theorem abi(c:0<=a)(d:a<M.cells.length)(hb:0<=b):(M.cs wk a o x).1.get b=if b=a/\M.get a=o then x else M.get b:=by
 unfold bJ.cs;split
 .rename_i e;dsimp only;rw[MK c (gq d) hb,tT]
  grind
 .rename_i e;simp[e]
theorem ay2:(M.cs wk a o x).2=L_ (M.get a=o):=by
 unfold bJ.cs;grind
def ay3(c:0<=a)(d:a<M.cells.length)(hb:0<=b):(M.ad wk a x).get b=if b=a then wr (M.get a+x)else M.get b:=by
 unfold bJ.ad;rw[MK c (gq d) hb,tT]
def aDi:(M.ad wk a x).cells.length=M.cells.length:=by unfold bJ.ad;simp
def ahB(x:Int):sy (wr x):=by
 unfold wr sy aF;simp only[IntKind.bits,IntKind.signed];simp;omega
theorem ML:∀{n:Nat} {l:List Nat},l.Nodup->(∀x∈l,x<n)->l.length<=n
 |0,l,_,h=>by
  cases l with
  |nil=>simp
  |cons x l=>exact absurd (h x bf) af
 |n+1,l,hd,h=>by
  by_cases b:n∈l
  .have c:=ML (n:=n) (hd.erase n) λx a=>by
    grind
   grind
  .have:=ML (n:=n) hd λx a=>by
    grind
   omega
structure RgT (l:Lc) (ro:List Ro) (v:Nat) (R:Rg):Prop where
 right:R.right=J_
 le:R.DA<=l.log
 cell:∀k:Nat,k<R.pw->k9 ro (R.At+(k:Int)) (.rg v R.DA.toNat k)
variable{R:Rg}{v:Nat}
def RgT.qT(h:RgT l ro v R):RgT l (ro++m) v R:=⟨h.right,h.le,λk a=>(h.cell k a).qT⟩
def aqk(h:R.right=J_):0<=R.DA/\R.DA<=8/\0<=R.At/\R.At<=1048576 - R.pw:=by unfold Rg.right at h;simpa using h
def ay4(R:Rg):1<=R.pw:=by unfold Rg.pw;exact Nat.pow_pos af
theorem RgT.place(h:RgT l ro v R)(i:Int):k9 ro (R.place i) (.rg v R.DA.toNat (i % (R.pw:Int)).toNat):=by
 have a:=ay4 R;have c:=Int.emod_nonneg i (b:=(R.pw:Int)) af;have h2:=Int.emod_lt_of_pos i (b:=(R.pw:Int)) af;have:=h.cell (i % (R.pw:Int)).toNat af;unfold Rg.place;rw[HK h.right];grind
def EO(l:Lc)(ro:List Ro)(n:Nat):Ro->Int->Prop
 | .OI,x=>0<=x/\x<65536
 | .ask _,x=>x=0\/x=1
 | .rg _ _ _,x=>0<=x/\x<n
 | .top _,x=>sy x
 | .bot _,x=>sy x
 | .Uw v,x=> ∃R:Rg,x=R.word/\RgT l ro v R
 | .fk _,x=>0<=x/\x<=4
 |_,_=>True
variable{n':Nat}
def EO.qT(h:EO l ro n r x)(b:n<=n'):EO l (ro++m) n' r x:=by
 cases r<;>try exact h
 .obtain⟨R,a,h2⟩:=h;exact⟨R,a,h2.qT⟩
 .exact⟨h.1,by have:=h.2;omega⟩
structure ScT (ro:List Ro) (s:Nat) (x:Nd):Prop where
 a:k9 ro x.at_ (.ask s)
 b:k9 ro (x.at_+1) (.liv s)
 n:0<=x.nest/\x.nest<=32
 p:s≠0->0<=x.parent/\x.parent<s
 w:s=0->x.parent= -1
structure Ux (ro:List Ro) (nC:Nat) (x:Nat) (t:Tk):Prop where
 id:t.id=x
 k:k9 ro t.jI (.fk x)
 v:k9 ro (t.jI+1) (.fv x)
 w:k9 ro (t.jI+2) (.fw x)
 inn:0<=t.l7/\t.l7<nC
 own:0<=t.own/\t.own<nC
 cJ:∀p∈t.cJ,0<=p.1/\p.1<nC
 sn:t.gL.size+t.cJ.length<=t.scopes.length
 sl:t.scopes.length<=nC
structure Ty (l:Lc) (ro:List Ro) (G:Gl):Prop where
 len:ro.length=G.M.cells.length
 ok:G.M.OK
 sz:G.M.size<=65536
 stp:G.M.steps.length=l.wa.length+1
 val:∀a r,k9 ro a r->EO l ro G.ts.length r (G.M.get a)
 told:k9 ro l.told .told
 idle:k9 ro l.idle .idle
 Ye:k9 ro l.sp.at_ .Ye
 OI:k9 ro (l.sp.at_+1) .OI
 sc:∀(s:Nat) x,G.C[s]?=G_ x->ScT ro s x
 tk:∀(x:Nat) t,G.ts[x]?=G_ t->Ux ro G.C.length x t
 c1:1<=G.C.length
 t1:1<=G.ts.length
 pl:G.P.length=G.C.length
 kt:acI G.T
 kl:G.T.length=G.ts.length
 kk:∀(i:Nat) x,G.T[i]?=G_ x->x.kids.length<=G.T.length
 ck:CK G.time
 Qn:∀y∈G.time.2,y.2<G.C.length
 cnt:2*G.C.length+3*G.ts.length<=G.M.cells.length
 dr:G.D.length<=1024
def Ty.cap(h:Ty l ro G):G.C.length<=32768/\G.ts.length<=32768/\G.P.length<=32768/\G.T.length<=32768:=by
 have a:=h.ok.fit;have h2:=h.sz;have b:=h.cnt;have c:=h.pl;have d:=h.kl;omega
variable{s:Int}
def Ty.O7(h:Ty l ro G)(a:0<=s)(b:s<G.C.length):G8 G s/\ScT ro s.toNat (G.nd s):=by
 have h2:s.toNat<G.C.length:=af;have e:nZ G.C s=G_ (G.C[s.toNat]'h2):=by unfold nZ;rw[HK a,iH h2]
 have e2:G.nd s=G.C[s.toNat]'h2:=by unfold Gl.nd;rw[e];rfl
 exact⟨by unfold G8;rw[e,e2],by rw[e2];exact h.sc _ _ (iH h2)⟩
def Ty.qh(h:Ty l ro G){x:Nat}(a:x<G.ts.length):Ux ro G.C.length x (G.tk x):=h.tk x _ (G.xw a)
theorem Ty.Zs(h:Ty l ro G):G.time.2.length<=100000:=by
 have c:=h.ck.one;have h2:=h.Qn;have e:=h.ck.ids;have f:=h.cap.1;have d:((G.time.2.map (·.2)).map Int.toNat).Nodup:=by
  refine List.pairwise_map.2 (c.imp_of_mem fun{a b} ha hb hab=>?_);grind
 have:=ML (n:=G.C.length) d λx g=>by
  grind
 simp at this;omega
def Ty.aAn(h:Ty l ro G)(b:M.cells.length=G.M.cells.length)(hs:M.size=G.M.size)(c:M.steps.length=G.M.steps.length)(hv:∀a r,k9 ro a r->EO l ro G.ts.length r (M.get a)):Ty l ro (G.mem M):=
 {h with len:=by rw[h.len];exact b.symm,ok:=⟨by show 1<=M.size/\M.size<=_;rw[hs];exact h.ok.size,by have:=h.ok.fit;show(M.cells.length:Int)<=M.size;rw[hs,b];exact this⟩,sz:=by show M.size<=_;rw[hs];exact h.sz,stp:=by show M.steps.length=_;rw[c];exact h.stp,val:=hv,cnt:=by show _<=M.cells.length;rw[b];exact h.cnt}
def Ty.tick(h:Ty l ro G)(wk:Int):Ty l ro (G.tick wk):=h.aAn rfl rfl bf h.val
def Ty.put(h:Ty l ro G)(g:M.cells=G.M.cells/\M.size=G.M.size/\M.steps.length=G.M.steps.length)(d:k9 ro a r)(hv:EO l ro G.ts.length r x):Ty l ro (G.mem (M.put a x)):=by
 obtain⟨f,h2,i⟩:=g;refine h.aAn (by simp[f]) h2 i λb s hb=>?_
 have c:=d.lt;rw[h.len]at c;rw[MK d.1 (by rw[f];exact c) hb.1]
 split
 .rename_i e;subst e;have:r=s:=by have q:=d.2;rw[hb.2]at q;exact(Option.some.inj q).symm
  subst this;exact hv
 .have:M.get b=G.M.get b:=by unfold bJ.get;rw[f]
  rw[this];exact h.val b s hb
def Ty.ad(h:Ty l ro G)(b:k9 ro a r)(hv:EO l ro G.ts.length r (wr (G.M.get a+x))):Ty l ro (G.mem (G.M.ad wk a x)):=h.put ⟨rfl,rfl,bf⟩ b hv
def Ty.cs(h:Ty l ro G)(b:k9 ro a r)(hv:EO l ro G.ts.length r x):Ty l ro (G.mem (G.M.cs wk a o x).1):=by
 unfold bJ.cs;split
 .exact h.put ⟨rfl,rfl,bf⟩ b hv
 .exact h.tick wk
def Ty.set(h:Ty l ro G)(d:j<G.ts.length->Ux ro G.C.length j t):Ty l ro (G.set j t):=by
 have b:(G.set j t).ts.length=G.ts.length:=by unfold Gl.set;simp
 refine{h with val:=by rw[b];exact h.val,tk:=λy u a=>?_,t1:=by rw[b];exact h.t1,kl:=by rw[b];exact h.kl,cnt:=by rw[b];exact h.cnt}
 by_cases e:j=y
 .subst e;have a:(G.ts.set j t)[j]?=G_ u:=a;have c:=(kB.1 a).1;rw[VJ]at c;rw[uO c]at a;cases a
  exact d c
 .have a:(G.ts.set j t)[y]?=G_ u:=a;rw[r0 e]at a;exact h.tk y u a
theorem ajW{r:Rg}(h:r.right=J_):Rg.of r.word=r:=by
 have b:=Rg.F5 h;unfold Rg.of Rg.word;rw[HK h];obtain⟨a,l⟩:=r;grind
structure ZH (ro:List Ro) (v:Nat) (d:Int):Prop where
 top:k9 ro d (.top v)
 bot:k9 ro (d+1) (.bot v)
 Uw:k9 ro (d+2) (.Uw v)
variable{d:Int}
def ZH.qT(h:ZH ro v d):ZH (ro++m) v d:=⟨h.top.qT,h.bot.qT,h.Uw.qT⟩
def pI{r:ID}(a:O.live=J_)(b:O.run M wk=r):O.step M wk=({r.1 with how:=if r.2.2.2=0 then r.2.2.1 else 6,err:=r.2.2.2},r.2.1):=by
 unfold bu.step;rw[HK a,b]
def xx(h:O.how=0):O.live=true:=by unfold bu.live;rw[h];rfl
def aCi(h:O.how=2):O.live=true:=by unfold bu.live;rw[h];rfl
def o6(M:bJ)(d:Int):Rg:=Rg.of (M.get (d+2))
structure LC (M:bJ) (wk d:Int) (O:bu):Prop where
 at_:O.at_=d
 c0:M.can wk d=J_
 c1:M.can wk (d+1)=J_
 c2:M.can wk (d+2)=J_
 rr:(o6 M d).right=J_
def amd(h:LC M wk d O):O.read M wk=({O with ring:=o6 M d},M.tick wk,0):=by
 have h2:=h.c2;have a:=h.rr;unfold o6 at a ⊢;rw[<-h.at_]at h2 a ⊢;unfold bu.read;rw[HK h2,HK a]
def an4(h:M.can wk a=J_):M.VQ wk a o x=((M.cs wk a o x).1,(M.cs wk a o x).2,0):=by
 rw[aiF h];unfold bJ.cs;split<;>rfl
def st0(h:LC M wk d O)(a:O.how=0)(c:O.next=0):O.step M wk=({O with b:=M.get (d+1),next:=1,how:=0,err:=0},M.tick wk):=by
 obtain⟨rfl,f,e,h2,g⟩:=h;rw[pI (xx a) (show O.run M wk=O.f0 M wk by simp only[bu.run,c])]
 unfold bu.f0;rw[EJ e];rfl
def st1(h:LC M wk d O)(a:O.how=0)(b:O.next=1):O.step M wk=({O with t:=M.get d,next:=2,how:=0,err:=0},M.tick wk):=by
 obtain⟨rfl,c,e,h2,f⟩:=h;rw[pI (xx a) (show O.run M wk=O.f1 M wk by simp only[bu.run,b])]
 unfold bu.f1;rw[EJ c];rfl
def Zg(h:LC M wk d O)(a:O.how=0)(c:O.next=2):O.step M wk=
  (if wr (O.b - O.t)<(o6 M d).size then{O with ring:=o6 M d,next:=6,how:=0,err:=0}else if (o6 M d).DA>=O.most then{O with ring:=o6 M d,how:=4,err:=0}else{O with ring:=o6 M d,next:=3,how:=0,err:=0},M.tick wk):=by
 have e:O.run M wk=(if wr (O.b - O.t)<(o6 M d).size then({O with ring:=o6 M d,next:=6},M.tick wk,0,0)else if (o6 M d).DA>=O.most then({O with ring:=o6 M d},M.tick wk,4,0)else({O with ring:=o6 M d,next:=3},M.tick wk,0,0)):=by
  rw[show O.run M wk=O.f2 M wk by simp only[bu.run,c]]
  unfold bu.f2;rw[amd h];simp
 rw[pI (xx a) e];split
 .rfl
 .split<;>rfl
theorem st3(h:LC M wk d O)(a:O.how=0)(c:O.next=3)(f:0<=O.lg/\O.lg<=8)(g:M.caller wk=J_):O.step M wk=
  if M.room O.MA then(if Sf O.ring (O.Mz M) O.t O.b=0 then({O with to:=O.Mz M,copy:=G_ (Cp.begin O.ring (O.Mz M) O.t O.b),next:=4,how:=0,err:=0},(M.tick wk).grow O.MA)
   else({O with to:=O.Mz M,copy:=H_,next:=4,how:=6,err:=Sf O.ring (O.Mz M) O.t O.b},(M.tick wk).grow O.MA))else({O with how:=6,err:=21},M):=by
 have e:O.run M wk=O.f3 M wk:=by simp only[bu.run,c]
 rw[pI (xx a) e];unfold bu.f3;grind
theorem st4{c:Cp}(a:O.how=0)(b:O.next=4)(d:O.copy=G_ c)(f:M.can wk c.spot=J_):O.step M wk=
  if c.at_=c.j2 then({O with next:=5,how:=0,err:=0},M)else if c.Cm then({O with copy:=G_ (c.next 0),next:=if (c.next 0).at_=c.j2 then 5 else 4,how:=0,err:=0},(M.tick wk).put c.spot c.has)
   else({O with copy:=G_ (c.next (M.get c.spot)),how:=0,err:=0},M.tick wk):=by
 have e:O.run M wk=O.f4 M wk c:=by simp only[bu.run,b,d]
 rw[pI (xx a) e];unfold bu.f4;grind
def st5(h:LC M wk d O)(a:O.how=0)(b:O.next=5):O.step M wk=({O with ring:=O.to,next:=6,how:=0,err:=0},(M.tick wk).put (d+2) O.to.word):=by
 obtain⟨rfl,c,e,h2,f⟩:=h;rw[pI (xx a) (show O.run M wk=O.f5 M wk by simp only[bu.run,b])]
 unfold bu.f5;rw[S4 h2];rfl
def st6(a:O.how=0)(c:O.next=6)(d:M.can wk (O.ring.place O.b)=J_):O.step M wk=({O with next:=7,how:=0,err:=0},(M.tick wk).put (O.ring.place O.b) O.x):=by
 rw[pI (xx a) (show O.run M wk=O.f6 M wk by simp only[bu.run,c])]
 unfold bu.f6;rw[S4 d];rfl
def st7(h:LC M wk d O)(a:O.how=0)(c:O.next=7):O.step M wk=({O with how:=1,err:=0},(M.tick wk).put (d+1) (wr (O.b+1))):=by
 obtain⟨rfl,f,e,h2,g⟩:=h;rw[pI (xx a) (show O.run M wk=O.f7 M wk by simp only[bu.run,c])]
 unfold bu.f7;rw[S4 e];rfl
def st8(h:LC M wk d O)(a:O.how=0)(c:O.next=8):O.step M wk=({O with b:=M.get (d+1),next:=9,how:=0,err:=0},M.tick wk):=by
 obtain⟨rfl,f,e,h2,g⟩:=h;rw[pI (xx a) (show O.run M wk=O.f8 M wk by simp only[bu.run,c])]
 unfold bu.f8;rw[EJ e];rfl
def st9(h:LC M wk d O)(a:O.how=0)(b:O.next=9):O.step M wk=({O with ring:=o6 M d,next:=10,how:=0,err:=0},M.tick wk):=by
 have h':LC M wk d {O with next:=10}:=⟨h.at_,h.c0,h.c1,h.c2,h.rr⟩
 rw[pI (xx a) (show O.run M wk=O.f9 M wk by simp only[bu.run,b])]
 unfold bu.f9;rw[amd h'];rfl
def aER(h:LC M wk d O)(a:O.how=0)(c:O.next=10):O.step M wk=({O with next:=11,how:=0,err:=0},(M.tick wk).put (d+1) (wr (O.b - 1))):=by
 obtain⟨rfl,f,e,h2,g⟩:=h;rw[pI (xx a) (show O.run M wk=O.f10 M wk by simp only[bu.run,c])]
 unfold bu.f10;rw[S4 e];rfl
theorem aES(h:LC M wk d O)(a:O.how=0)(c:O.next=11):O.step M wk=({O with t:=M.get d,next:=if M.get d>wr (O.b - 1)then 14 else 12,how:=0,err:=0},M.tick wk):=by
 obtain⟨rfl,e,f,h2,g⟩:=h;rw[pI (xx a) (show O.run M wk=O.f11 M wk by simp only[bu.run,c])]
 unfold bu.f11;rw[EJ e];grind
theorem aET(a:O.how=0)(c:O.next=12)(d:M.can wk (O.ring.place (wr (O.b - 1)))=J_):O.step M wk=({O with got:=M.get (O.ring.place (wr (O.b - 1))),next:=13,how:=if O.t<wr (O.b - 1)then 1 else 0,err:=0},M.tick wk):=by
 rw[pI (xx a) (show O.run M wk=O.f12 M wk by simp only[bu.run,c])]
 unfold bu.f12;rw[EJ d];grind
def aEU(h:LC M wk d O)(a:O.how=0)(b:O.next=13):O.step M wk=({O with won:=(M.cs wk d O.t (wr (O.t+1))).2,next:=14,how:=0,err:=0},(M.cs wk d O.t (wr (O.t+1))).1):=by
 obtain⟨rfl,c,e,h2,f⟩:=h;rw[pI (xx a) (show O.run M wk=O.f13 M wk by simp only[bu.run,b])]
 unfold bu.f13;rw[an4 c];rfl
def aEV(h:LC M wk d O)(a:O.how=0)(c:O.next=14):O.step M wk=({O with how:=if O.won then 1 else 3,err:=0},(M.tick wk).put (d+1) O.b):=by
 obtain⟨rfl,f,e,h2,g⟩:=h;rw[pI (xx a) (show O.run M wk=O.f14 M wk by simp only[bu.run,c])]
 unfold bu.f14;rw[S4 e];rfl
def aEW(h:LC M wk d O)(a:O.how=0)(b:O.next=15):O.step M wk=({O with t:=M.get d,next:=16,how:=0,err:=0},M.tick wk):=by
 obtain⟨rfl,c,e,h2,f⟩:=h;rw[pI (xx a) (show O.run M wk=O.f15 M wk by simp only[bu.run,b])]
 unfold bu.f15;rw[EJ c];rfl
theorem aEX(h:LC M wk d O)(a:O.how=0)(c:O.next=16):O.step M wk=({O with b:=M.get (d+1),next:=17,how:=if O.t>=M.get (d+1)then 3 else 0,err:=0},M.tick wk):=by
 obtain⟨rfl,f,e,h2,g⟩:=h;rw[pI (xx a) (show O.run M wk=O.f16 M wk by simp only[bu.run,c])]
 unfold bu.f16;rw[EJ e];grind
def aEY(h:LC M wk d O)(a:O.how=0)(b:O.next=17):O.step M wk=({O with ring:=o6 M d,next:=18,how:=0,err:=0},M.tick wk):=by
 have h':LC M wk d {O with next:=18}:=⟨h.at_,h.c0,h.c1,h.c2,h.rr⟩
 rw[pI (xx a) (show O.run M wk=O.f17 M wk by simp only[bu.run,b])]
 unfold bu.f17;rw[amd h'];rfl
def aEZ(a:O.how=0)(b:O.next=18)(c:M.can wk (O.ring.place O.t)=J_):O.step M wk=({O with got:=M.get (O.ring.place O.t),next:=19,how:=2,err:=0},M.tick wk):=by
 rw[pI (xx a) (show O.run M wk=O.f18 M wk by simp only[bu.run,b])]
 unfold bu.f18;rw[EJ c];rfl
theorem stK(h:LC M wk d O)(a:O.how=2)(b:O.next=19):O.step M wk=({O with how:=if (M.cs wk d O.t (wr (O.t+1))).2 then 1 else 5,err:=0},(M.cs wk d O.t (wr (O.t+1))).1):=by
 obtain⟨rfl,c,e,h2,f⟩:=h;rw[pI (aCi a) (show O.run M wk=O.f19 M wk by simp only[bu.run,b])]
 unfold bu.f19;rw[an4 c];grind
structure Cb (l:Lc) (ro:List Ro) (n:Nat) (v:Nat) (d:Int) (O:bu):Prop where
 at_:O.at_=d
 most:O.most=l.log
 b:sy O.b
 t:sy O.t
 x:0<=O.x/\O.x<n
 got:0<=O.got/\O.got<n
 nx:O.next<=19
 how:O.how=if O.next=19 then 2 else 0
 rg:(3<=O.next/\O.next<=7)\/(10<=O.next/\O.next<=13)\/18<=O.next->RgT l ro v O.ring
 c2:O.next<=3->O.copy=H_
 l3:O.next=3->O.ring.DA<l.log
 c4:O.next=4->∃c,O.copy=G_ c/\c.a=O.ring/\c.b=O.to/\0<=c.has/\c.has<n
 to:O.next=4\/O.next=5->RgT l ro v O.to
def bu.kind(O:bu):Nat:=if O.next<=7 then 0 else if O.next<=14 then 1 else 2
def Cb.imp(h:Cb l ro n v d O)(f:n<=n'):Cb l (ro++m) n' v d O:=
 {h with x:=⟨h.x.1,by have:=h.x.2;omega⟩,got:=⟨h.got.1,by have:=h.got.2;omega⟩,rg:=λq=>(h.rg q).qT,c4:=λq=>by obtain⟨c,a,h2,b,e,g⟩:=h.c4 q;exact⟨c,a,h2,b,e,af⟩,to:=λq=>(h.to q).qT}
def Ro.dq(v:Nat):Ro->Prop
 | .top u=>u=v
 | .bot u=>u=v
 | .Uw u=>u=v
 | .rg u _ _=>u=v
 |_=>False
structure OpR (l:Lc) (ro iT:List Ro) (G:Gl) (wk:Int) (v:Nat) (d:Int) (O:bu) (r:bu×bJ):Prop where
 ty:Ty l iT (G.mem r.2)
 ext:∃m,iT=ro++m/\∀s∈m,s.dq v
 err:r.1.how=6->r.1.err≠0
 got:0<=r.1.got/\r.1.got<G.ts.length
 live:r.1.how=0\/r.1.how=2->Cb l iT G.ts.length v d r.1/\r.1.kind=O.kind
 how:O.kind=2->(r.1.how=0/\O.next<=17/\r.1.next<=18)\/(r.1.how=2/\O.next=18)\/(r.1.how=3/\O.next=16)\/((r.1.how=1\/r.1.how=5)/\O.next=19)
 ajX:O.kind≠2->r.1.how=0\/r.1.how=1\/(r.1.how=3/\O.kind=1)\/(r.1.how=4/\O.kind=0)\/(r.1.how=6/\O.kind=0)
 same:∀a s,k9 ro a s->¬s.dq v->r.2.get a=G.M.get a
 tick:r.2.steps=G.M.steps\/r.2.steps=(G.M.tick wk).steps
 used:G.M.cells.length<=r.2.cells.length
def Ty.ring(h:Ty l ro G)(hd:ZH ro v d):RgT l ro v (o6 G.M d):=by
 obtain⟨R,a,h2⟩:=h.val _ _ hd.Uw;unfold o6;rw[a,ajW h2.right];exact h2
def Ty.rdy(h:Ty l ro G)(hd:ZH ro v d)(a:G.M.caller wk=J_)(b:O.at_=d):LC G.M wk d O:=
 ⟨b,hd.top.can h.len a,hd.bot.can h.len a,hd.Uw.can h.len a,(h.ring hd).right⟩
def Cb.phase(h:Cb l ro G.ts.length v d O):O.next=0\/O.next=1\/O.next=2\/O.next=3\/O.next=4\/O.next=5\/O.next=6\/O.next=7\/O.next=8\/O.next=9\/O.next=10\/O.next=11\/O.next=12\/O.next=13\/O.next=14\/O.next=15\/O.next=16\/O.next=17\/O.next=18\/O.next=19:=by
 have:=h.nx;omega
def Ty.aqm(h:Ty l ro G)(e:M.cells=G.M.cells)(d:k9 ro a r)(f:r.dq v):∀b s,k9 ro b s->¬s.dq v->(M.put a x).get b=G.M.get b:=by
 intro b s hb hs;have c:b≠a:=hb.ne d (by rintro rfl;exact hs f)
 rw[SC d.1 hb.1 c];unfold bJ.get;rw[e]
open Fr (nF)
theorem ZI(m:Lm)(v:Nat):sC m (v+1)=sC m v+m.one:=by
 unfold sC;grind
def Yg(m:Lm)(a:0<=m.one):∀{i v:Nat},i<=v->sC m i<=sC m v:=fun{i v} h=>by
 unfold sC;have:(i:Int)*m.one<=v*m.one:=ki af a;omega
def ame(a:0<=x/\x<=8)(b:0<=z):(M.Jy wk x).get z=if z=(M.cells.length:Nat)+2 then Rg.word ⟨(M.cells.length:Nat)+3,x⟩else if z<(M.cells.length:Nat)then M.get z else 0:=by
 have e:=acM a.1 a.2;have f:=xQ (M:=M.tick wk) (n:=3+EX x) af;have c:(M.tick wk).cells.length=M.cells.length:=rfl;unfold bJ.Jy;rw[MK af (by show _<((((M.tick wk).grow (3+EX x)).cells.length:Nat):Int);omega) b]
 split
 .rfl
 .split
  .rename_i d h2;show((M.tick wk).grow (3+EX x)).get z=_;rw[xR b (by rw[c];exact h2)];rfl
  .rename_i d h2;show((M.tick wk).grow (3+EX x)).get z=_;exact Yf (by rw[c];omega)
variable{m:Lm}
theorem avF(a':Int):(ml4 m).get a'=0:=by
 have e:(ml4 m).cells=[0,0,0,0,0,0]:=rfl;unfold bJ.get;rw[e];generalize a'.toNat=j;grind
theorem adu(a:m.OK):∀v:Nat,6+v*m.one<=m.cells->(∀a':Int,0<=a'->a'<sC m v->(∀i:Nat,i<v->a'≠sC m i+2)->(oe m v).get a'=0)/\(∀i:Nat,i<v->(oe m v).get (sC m i+2)=Rg.word ⟨sC m i+3,m.lg⟩)
 |0,_=>⟨λa' _ _ _=>avF a',λi hi=>by omega⟩
 |v+1,h=>by
  have l:=m.KS a;have c:=m.adq a;have o:((v+1:Nat):Int)*m.one=v*m.one+m.one:=by grind
  obtain⟨p,h2⟩:=adu a v af;obtain⟨_,_,b,_⟩:=Te a v af;have b:(((oe m v).cells.length:Nat):Int)=sC m v:=b;have hb:∀a':Int,0<=a'->(oe m (v+1)).get a'=if a'=sC m v+2 then Rg.word ⟨sC m v+3,m.lg⟩else if a'<sC m v then(oe m v).get a' else 0:=λa' d=>by
   show((oe m v).Jy m.n m.lg).get a'=_;rw[ame ⟨c.1,c.2.2⟩ d,b]
  have f:∀i:Nat,6<=sC m i:=λi=>by have:=Yg m af (li i);unfold sC at this ⊢;simp at this ⊢;omega
  refine⟨λa' d g j=>?_,λi hi=>?_⟩
  .grind
  .rw[hb _ (by have:=f i;omega)]
   by_cases e:i=v
   .subst e;rw[HK rfl]
   .have k:=Yg m af (show i+1<=v by omega)
    rw[ZI]at k;grind
structure aAo (M:bJ) (wk d:Int) (R:Rg):Prop where
 c0:M.can wk d=J_
 c1:M.can wk (d+1)=J_
 c2:M.can wk (d+2)=J_
 c3:M.can wk (R.place 0)=J_
 t:M.get d=0
 b:M.get (d+1)=0
 r:o6 M d=R
 rr:R.right=J_
 ne:d+2≠R.place 0
def avG(M:bJ)(wk d:Int)(R:Rg):bJ:=((((((M.tick wk).tick wk).tick wk).tick wk).put (R.place 0) 0).tick wk).put (d+1) 1
abbrev pO(d most:Int)(R:Rg)(next:Nat)(how:Int):bu:=⟨d,most,0,0,R,0,K_,Rg.zero,H_,next,how,0,0⟩
variable{most:Int}
def ajY{R':Rg}(h:aAo M wk d R'):(bu.B7 d most 0 0).step M wk=(pO d most Rg.zero 1 0,M.tick wk)/\(pO d most Rg.zero 1 0).step (M.tick wk) wk=(pO d most Rg.zero 2 0,(M.tick wk).tick wk)/\(pO d most Rg.zero 2 0).step ((M.tick wk).tick wk) wk=(pO d most R' 6 0,((M.tick wk).tick wk).tick wk)/\
  (pO d most R' 6 0).step (((M.tick wk).tick wk).tick wk) wk=(pO d most R' 7 0,((((M.tick wk).tick wk).tick wk).tick wk).put (R'.place 0) 0)/\(pO d most R' 7 0).step (((((M.tick wk).tick wk).tick wk).tick wk).put (R'.place 0) 0) wk=(pO d most R' 7 1,avG M wk d R'):=by
 obtain⟨f,c1,c2,c3,t,b,r,rr,ne⟩:=h;have key:∀M':bJ,M'.steps.length=M.steps.length->M'.cells.length=M.cells.length->(M'.get (d+2)=M.get (d+2))->∀O:bu,O.at_=d->LC M' wk d O:=λM' a h2 g O i=>⟨i,by rw[IQ a h2];exact f,by rw[IQ a h2];exact c1,by rw[IQ a h2];exact c2,by unfold o6;rw[g];unfold o6 at r;rw[r];exact rr⟩
 have hs:∀M':bJ,(M'.tick wk).steps.length=M'.steps.length:=λM'=>by unfold bJ.tick;simp
 have c:wr ((0:Int) - 0)=0:=e7;have j:(0:Int)<R'.size:=by unfold Rg.size;rw[HK rr];have:=(Rg.F5 rr).2.2.2.2.1;omega
 refine⟨?_,?_,?_,?_,?_⟩
 .rw[st0 (key M rfl rfl rfl (bu.B7 d most 0 0) rfl) rfl rfl,b];rfl
 .rw[st1 (key (M.tick wk) (hs _) rfl rfl (pO d most Rg.zero 1 0) rfl) rfl rfl,tT,t]
 .rw[Zg (key ((M.tick wk).tick wk) (by rw[hs,hs]) rfl rfl (pO d most Rg.zero 2 0) rfl) rfl rfl]
  have e:o6 ((M.tick wk).tick wk) d=R':=r;rw[e,c,HK j]
 .have k:(((M.tick wk).tick wk).tick wk).can wk (R'.place 0)=true:=(IQ (M':=((M.tick wk).tick wk).tick wk) (M:=M) (by rw[hs,hs,hs]) rfl).trans c3
  rw[st6 (O:=pO d most R' 6 0) rfl rfl k]
 .have h2:(((((M.tick wk).tick wk).tick wk).tick wk).put (R'.place 0) 0).get (d+2)=M.get (d+2):=by
   have g3:=pe c3;have g2:=pe c2;unfold bJ.given at g3 g2;simp[decide_eq_true_eq]at g3 g2;rw[MK (M:=(((M.tick wk).tick wk).tick wk).tick wk) g3.1 g3.2 g2.1,HQ ne];rfl
  rw[st7 (key _ (by rw[amc,hs,hs,hs,hs]) (by rw[ajU];rfl) h2 (pO d most R' 7 0) rfl) rfl rfl]
  rfl
def g0(m:Lm):Gl:=⟨oe m m.n,[],[⟨-1,0,2⟩],[(-1,0,0,K_)],[],(0,[]),[],0,0⟩
def g1(m:Lm):Gl:={g0 m with M:=((oe m m.n).tick m.n).grow 2,C:=[⟨-1,0,2⟩,⟨0,1,((oe m m.n).cells.length:Nat)⟩],P:=[(-1,0,0,K_),(-2,0,0,K_)]}
def g2(m:Lm):Gl:=(g1 m).more m.n (-1) 0 1 nF
def g3(m:Lm):Gl:=(g2 m).mem ((g2 m).M.ad m.n 3 1)
def eY(m:Lm):Gl:=(g3 m).mem (avG (g3 m).M m.n 6 ⟨9,m.lg⟩)
def Bd(m:Lm):List Wk:=JR m m.n
def Lm.total(m:Lm):Int:=11+m.n*m.one
def frI:(Fr.nF).length=19:=rfl
structure aCj (m:Lm):Prop where
 n1:1<=m.n
 ok0:(oe m m.n).OK
 c0:(oe m m.n).caller m.n=J_
 len:(((oe m m.n).cells.length:Nat):Int)=6+m.n*m.one
 size:(oe m m.n).size=m.cells
 ok1:(g1 m).M.OK
 c1:(g1 m).M.caller m.n=J_
 ok2:(g2 m).M.OK
 c2:(g2 m).M.can m.n 3=J_
 ok3:(g3 m).M.OK
 nd:aAo (g3 m).M m.n 6 ⟨9,m.lg⟩
def an5:(M.ad wk a x).steps.length=M.steps.length/\(M.ad wk a x).cells.length=M.cells.length:=by
 unfold bJ.ad bJ.put bJ.tick;simp
def Tg:((M.tick wk).grow x).steps.length=M.steps.length:=by simp_all
theorem ahC(d:m.OK)(h:m.total<=m.cells):aCj m:=by
 unfold Lm.total at h;have D:=m.KS d;have p:=m.adq d;have y:1<=m.n:=by have:=d.base;have:=d.spare;unfold Lm.n;omega
 have q:m.one<=m.n*m.one:=by have:(1:Int)*m.one<=m.n*m.one:=ki af af;omega
 obtain⟨r,h2,l,j,z⟩:=Te d m.n af;have A:=acM p.1 p.2.2;have s:m.one=3+EX m.lg:=rfl;have o:(((g1 m).M.cells.length:Nat):Int)=8+m.n*m.one:=by
  have:=xQ (M:=(oe m m.n).tick m.n) (n:=2) af;show((((oe m m.n).tick m.n).grow 2).cells.length:Nat)=(_:Int);rw[this];show(((oe m m.n).cells.length:Nat):Int)+2=_;rw[l];omega
 have l2:(((g2 m).M.cells.length:Nat):Int)=11+m.n*m.one:=by
  have:=xQ (M:=(g1 m).M.tick m.n) (n:=3) af;show((((g1 m).M.tick m.n).grow 3).cells.length:Nat)=(_:Int);rw[this];show(((g1 m).M.cells.length:Nat):Int)+3=_;rw[o];omega
 have l3:(((g3 m).M.cells.length:Nat):Int)=11+m.n*m.one:=by
  have:=(an5 (M:=(g2 m).M) (wk:=m.n) (a:=3) (x:=1)).2;show((((g2 m).M.ad m.n 3 1).cells.length:Nat):Int)=_;rw[this,l2]
 have s1:(g1 m).M.steps.length=m.n+1:=by rw[<-z];exact Tg
 have s2:(g2 m).M.steps.length=m.n+1:=by rw[<-s1];exact Tg
 have s3:(g3 m).M.steps.length=m.n+1:=by rw[<-s2];exact an5.1
 have c3:(g3 m).M.caller m.n=true:=Ga s3 af af;have b:∀x:Int,0<=x->x<11+m.n*m.one->(g3 m).M.can m.n x=true:=λx k r=>by
  unfold bJ.can bJ.given;grind
 have f:(g1 m).M.size=m.cells/\(g2 m).M.size=m.cells/\(g3 m).M.size=m.cells:=⟨j,j,j⟩;have e:=d.cells;have t:∀x:Int,0<=x->x<6+m.n*m.one->x≠3->(g3 m).M.get x=(oe m m.n).get x:=λx k B c=>by
  show((g2 m).M.ad m.n 3 1).get x=_;rw[ay3 af (by rw[l2];omega) k,HQ c]
  show(((g1 m).M.tick m.n).grow 3).get x=_;rw[xR k (by show x<(((g1 m).M.cells.length:Nat):Int);rw[o];omega),tT]
  show(((oe m m.n).tick m.n).grow 2).get x=_;rw[xR k (by show x<(((oe m m.n).cells.length:Nat):Int);rw[l];omega),tT]
 obtain⟨u,F⟩:=adu d m.n af;have C:sC m 0=6:=by unfold sC;simp
 have g:sC m m.n=6+m.n*m.one:=rfl;have c:∀x:Int,x<8->∀i:Nat,i<m.n->x≠sC m i+2:=λx B i _=>by have:=Yg m af (li i);rw[C]at this;omega
 have w0':(g3 m).M.get 8=Rg.word ⟨9,m.lg⟩:=by grind
 have hright:(Rg.mk 9 m.lg).right=true:=by
  unfold Rg.right;simp;unfold EX at A;unfold Rg.pw;dsimp only;omega
 have v:(Rg.mk 9 m.lg).place 0=9:=by unfold Rg.place;rw[HK hright];simp
 refine⟨y,r,h2,l,j,⟨by rw[f.1];exact e,by rw[o,f.1];omega⟩,Ga s1 af af,⟨by rw[f.2.1];exact e,by rw[l2,f.2.1];omega⟩,?_,⟨by rw[f.2.2];exact e,by rw[l3,f.2.2];omega⟩,⟨b 6 af af,b 7 af af,b 8 af af,by rw[v];exact b 9 af af,?_,?_,?_,hright,by rw[v];decide⟩⟩
 .have:=Ga s2 (wk:=m.n) af af;unfold bJ.can bJ.given;grind
 .rw[t 6 af af af];exact u 6 af (by rw[g];omega) (c 6 af)
 .show(g3 m).M.get 7=0;rw[t 7 af af af];exact u 7 af (by rw[g];omega) (c 7 af)
 .unfold o6;show Rg.of ((g3 m).M.get 8)=_;rw[w0'];exact ajW hright
def aqn(h:xH d):(bu.B7 d most 0 0).GX:=⟨λq=>by(cases q),λq=>by(cases q),by show 0<=19;omega,h⟩
def abj(h:xH d)(a:y=1\/y=2\/y=6\/y=7):(pO d most R y x).GX:=⟨λq=>by dsimp only at q;omega,λq=>by dsimp only at q;omega,by dsimp only;omega,h⟩
def Cc(h:M.OK):(M.tick wk).OK:=⟨h.size,h.fit⟩
def ay6(h:M.OK):(M.put a x).OK:=⟨h.size,by have:=h.fit;show((M.put a x).cells.length:Int)<=M.size;rw[ajU];exact this⟩
variable{R:List HP}{a:Ad}
theorem amf(f:m.OK)(hroom:6+m.n*m.one<=m.cells)(U:s'.length=m.n)(h:St w0 w (SL (gJ a ps m s') [] (g0 m) (jO (pH (gJ a ps m s') []) (s'.zip (JR m m.n))::R) sp st zn))
  (h1:m.total<=m.cells->∀aa w',qK w0 w' (gJ a ps m s') aa (eY m) (Bd m) R->k 0 w') (h2:¬m.total<=m.cells->∀w' L',St w0 w' (L'++R)->k 21 w'):gE (G_ ⟨a.gs,0,H_⟩) m.n w k:=by
 obtain⟨o,p,D,A,F⟩:=Te f m.n hroom;have V:1<=m.n:=by have:=f.base;have:=f.spare;unfold Lm.n;omega
 have H:m.n<=16:=by have:=f.base;have:=f.spare;unfold Lm.n;omega
 unfold gE wz;refine dZ λw h=>?_;refine agZ (C:=[⟨-1,0,2⟩]) h rfl p o bf (λq=>by exact absurd q e7) (λ_ j w h=>?_) λ_ j w h=>?_
 .refine bK rfl (h2 (λq=>?_) w [_,_,_,_,_,_,_,_,_,_,_] h);unfold bJ.room at j;unfold Lm.total at q;grind
 refine aU rfl<|cX ?_;refine Jw rfl rfl<|vO λgx w h=>?_;obtain⟨gp,I⟩:∃n,n=gx:=⟨_,rfl⟩;subst I;refine Z8 (es:=[tI (-1,0,0,K_)]) h auX aZ rfl af (by simp[Value.oneCell']) bf af λsp2 w h W=>?_
 refine dZ λw h=>?_;have h:=h.zm 0;refine Fr.anv λw' B=>?_;have h:=h.on B;have h:St w0 w' (SL (gJ a ps m s') [] (g1 m) (jO (pH (gJ a ps m s') []) (s'.zip (JR m m.n))::R) sp2 st zn):=h;clear B;have t:∀z:Int,(oe m m.n).room 2=J_->(g1 m).M.OK/\(((g1 m).M.cells.length:Nat):Int)=8+m.n*m.one:=λ_ j=>by
  refine⟨ahy o af j,?_⟩;have:=xQ (M:=(oe m m.n).tick m.n) (n:=2) af;show((((oe m m.n).tick m.n).grow 2).cells.length:Nat)=(_:Int);rw[this];show(((oe m m.n).cells.length:Nat):Int)+2=_;rw[D];omega
 have j:(oe m m.n).room 2=true:=by assumption
 obtain⟨u,K⟩:=t 0 j;have L:(g1 m).M.caller m.n=true:=G9 p;refine avb h frI u L (D_ ⟨rfl,rfl⟩) (by show 0<=1000000;omega) bf ⟨af,by show(1:Int)<((2:Nat):Int);omega⟩ (λc b DC w h=>?_) λc w h=>?_
 rotate_left
 .refine bK rfl (h2 (λq=>?_) w [_,_,_,_,_,_,_,_,_,_,_] h);unfold bJ.room at c;unfold Lm.total at q;simp[decide_eq_false_iff_not]at c;have:(g1 m).M.size=m.cells:=A;omega
 refine aU rfl ?_;have d:m.total<=m.cells:=by
  unfold bJ.room at c;unfold Lm.total;simp[decide_eq_true_eq]at c;have:(g1 m).M.size=m.cells:=A;omega
 have e:=ahC f d;have h:St w0 w (SL (gJ a ps m s') [b] (g2 m) (jO (pH (gJ a ps m s') []) (s'.zip (JR m m.n))::R) sp2 DC zn):=h;refine dZ λw h=>aiG h rfl e.c2 e.ok2 λw h=>aU rfl ?_;have h:=h.fr 10;have h:=an1 (m:=[b]) h;rw[List.nil_append]at h;have h:St w0 w (jO (pH (gJ a ps m s') [b]) (s'.zip (JR m m.n))::SL (gJ a ps m s') [b] (g3 m) R sp2 DC zn):=h;refine cX ?_;obtain⟨N,r⟩:∃g,s'[0]?=G_ g:=⟨_,iH af⟩;have v:(JR m m.n)[0]?=G_ (Wa 0 6):=by
  unfold JR;rw[l8,lD af];simp[sC]
 refine vP h af (by show(s'.map pt)[0]?=_;rw[l8,r];rfl) ?_
 refine cX<|au5 (l:=gJ a ps m s') (aa:=[b]) h (by rw[lE];exact⟨r,v⟩) ?_
 refine anp h λgo w h=>?_;have s:xH 6:=⟨af,af⟩;obtain⟨p1,p2,p3,p4,p5⟩:=ajY e.nd;have hone:∀(O O':bu) (M M':bJ) (w:World) (G:Gl) (C:Int->ap),O.GX->M.OK->O.step M m.n=(O',M')->G.mem M=G->St w0 w (uh go O::jO (pH (gJ a ps m s') [b]) (s'.zip (JR m m.n))::SL (gJ a ps m s') [b] G R sp2 DC zn)->
   (∀w',St w0 w' (uh go O'::jO (pH (gJ a ps m s') [b]) (s'.zip (JR m m.n))::SL (gJ a ps m s') [b] (G.mem M') R sp2 DC zn)->C O'.how w')->fO (A_ go) (G_ ⟨a.gm,0,H_⟩) m.n w C:=by
  intro O O' M M' w G C P Q x y h S;rw[<-y]at h;have h:=h.fr 3;refine ano (M:=M) h.swap P Q λw h=>?_;rw[x]at h ⊢;have h:=h.swap;have h:=h.bk 3;exact S w h
 refine bP (λi w=>i=1/\St w0 w (jO (pH (gJ a ps m s') [b]) (s'.zip (JR m m.n))::SL (gJ a ps m s') [b] (eY m) R sp2 DC zn)) (λJ T=>?_) ?_
 .refine⟨6,?_⟩;unfold jV;refine bK rfl<|cX<|hone _ _ (g3 m).M _ w (g3 m) _ (aqn s) e.ok3 p1 rfl h λw h=>?_;unfold jV;refine bK rfl<|cX<|hone _ _ _ _ w _ _ (abj s (D_ rfl)) (Cc e.ok3) p2 rfl h λw h=>?_;unfold jV;refine bK rfl<|cX<|hone _ _ _ _ w _ _ (abj s (E_ (D_ rfl))) (Cc (Cc e.ok3)) p3 rfl h λw h=>?_;unfold jV;refine bK rfl<|cX<|hone _ _ _ _ w _ _ (abj s (E_ (E_ (D_ rfl)))) (Cc (Cc (Cc e.ok3))) p4 rfl h λw h=>?_;unfold jV;refine bK rfl<|cX<|hone _ _ _ _ w _ _ (abj s (E_ (E_ (E_ rfl)))) (ay6 (Cc (Cc (Cc (Cc e.ok3))))) p5 rfl h λw h=>?_;unfold jV;refine aU rfl<|T _ _ ⟨rfl,h.drop⟩
 clear h;rintro _ w ⟨rfl,h⟩;refine aU rfl<|h1 d [b] w (pE (St.back 10 h))
open Ck (tj Su)
def nr1(ps:Sl):Array Value:=#[S_ ps,I_ 0,I_ 0,I_ 0,I_ 0,I_ 0,I_ 0,IB H_,IB H_,IB H_,IC H_ 0 0,IC H_ 0 0,I_ 0,I_ 0,I_ 0,I_ 0,I_ 0,IB H_,IB H_,IC H_ 0 0,I_ 0,I_ 0]
def nr2(ps:Sl)(m:Lm):Array Value:=#[S_ ps,I_ m.base,I_ m.spare,I_ m.cells,I_ m.fuel,I_ m.deep,I_ m.log,IB H_,IB H_,IB H_,IC H_ 0 0,IC H_ 0 0,I_ 0,I_ 0,I_ 0,I_ 0,I_ 0,IB H_,IB H_,IC H_ 0 0,I_ 0,I_ 0]
abbrev lmA(m:Lm):Array Value:=#[I_ m.base,I_ m.spare,I_ m.cells,I_ m.fuel,I_ m.deep,I_ m.log]
def Lm.okB(m:Lm):Bool:=L_ (1<=m.base/\m.base<=16)&&(L_ (0<=m.spare/\m.spare<=16 - m.base)&&(L_ (1<=m.cells/\m.cells<=1048576)&&(L_ (0<=m.fuel/\m.fuel<=1048576)&&(L_ (1<=m.deep/\m.deep<=1000)&&L_ (0<=m.log/\m.log<=8)))))
def ajZ:m.okB=J_↔m.OK:=by
 unfold Lm.okB;simp;exact⟨fun⟨h1,h2,h3,h4,h5,h6⟩=>⟨h1,h2,h3,h4,h5,h6⟩,fun⟨h1,h2,h3,h4,h5,h6⟩=>⟨h1,h2,h3,h4,h5,h6⟩⟩
def aqp{k:Bool->ap}(h:St w0 w L)(a:∀w',St w0 w' L->k m.okB w'):oS (lmA m) w k:=by
 unfold oS Hw;have hw:∀(x lo hi:Int) (C:Bool->ap) (w:World),C (L_ (lo<=x/\x<=hi)) w->ja x lo hi w C:=λx lo hi C w b=>by
  unfold ja;have e:(L_ (x>=lo)&&L_ (x<=hi))=L_ (lo<=x/\x<=hi):=by simp
  rw[e];exact b
 unfold Lm.okB at a;refine aM h λg w h=>cX<|hw _ _ _ _ _ (ax (λhb=>?_) λhb=>?_);rotate_left
 .rw[hb]at a;exact a w h.drop
 have c:=of_decide_eq_true hb;rw[hb,Oo]at a;refine cX ?_;have e:aF B_ (16 - m.base)=16 - m.base:=dh ⟨af,af⟩;rw[e];refine hw _ _ _ _ _ (ax (λhb=>?_) λhb=>?_);rotate_left
 .rw[hb]at a;exact a w h.drop
 rw[hb,Oo]at a;refine cX<|hw _ _ _ _ _ (ax (λhb=>?_) λhb=>?_);rotate_left
 .rw[hb]at a;exact a w h.drop
 rw[hb,Oo]at a;refine cX<|hw _ _ _ _ _ (ax (λhb=>?_) λhb=>?_);rotate_left
 .rw[hb]at a;exact a w h.drop
 rw[hb,Oo]at a;refine cX<|hw _ _ _ _ _ (ax (λhb=>?_) λhb=>?_);rotate_left
 .rw[hb]at a;exact a w h.drop
 rw[hb,Oo]at a;refine cX<|hw _ _ _ _ _ (a w h.drop)
def St.adw:∀{A:List HP},St w0 w (A++R)->St w0 w R
 |[],h=>h
 |_::A,h=>St.adw (St.drop h)
def ZJ{c:Int->Prop}(h:c x):xS B_ (I_ x) c:=by unfold xS;simpa using h
variable{i:Int}
def aqq(h:fC p i w λr w=>c (I_ r) w):Dh [IB p,I_ i] w c:=h
def aj1(h:eC p i w λr w=>c (I_ r) w):A9 [IB p,I_ i] w c:=h
def avJ(h:gE p i w λr w=>c (I_ r) w):Eo [IB p,I_ i] w c:=h
def ahh{k:Option Addr×Int->ap}(y:iA w0 ps P)(h:St w0 w R)(h1:Su (tj P)=[0,0,0]->m.OK->m.total<=m.cells->∀a wa aa w',wa.length=m.n->qK w0 w' (gJ a ps m wa) aa (eY m) (Bd m) R->k (G_ ⟨a.gs,0,H_⟩,0) w')
  (h2:¬Su (tj P)=[0,0,0]->∀w',St w0 w' R->k (H_,24) w') (l:Su (tj P)=[0,0,0]->¬m.OK->∀w',St w0 w' R->k (H_,10) w') (g:Su (tj P)=[0,0,0]->m.OK->¬m.total<=m.cells->∀w',St w0 w' R->k (H_,21) w'):
  kF #[S_ ps] (lmA m) w k:=by
 unfold kF ND;refine aM h λz w h=>aM h λB w h=>cX<|Ck.adg (y.ext h.ext) λw' u=>?_;have h:=h.on u.ext;clear u;refine ax (λhb=>?_) λhb=>?_
 .exact h2 (gq hb) _ h.drop.drop
 have b:Su (tj P)=[0,0,0]:=gq hb
 replace h1:=h1 b;replace l:=l b;replace g:=g b;clear h2 hb;refine cX<|aqp h λw h=>ax (λhb=>?_) λhb=>?_
 .have:¬m.OK:=λq=>by rw[ajZ.2 q]at hb;cases hb
  exact l this _ h.drop.drop
 have e:m.OK:=ajZ.1 (gq hb)
 replace h1:=h1 e;replace g:=g e;clear l hb;refine cX ?_;have C:=e.base;have D:=e.spare;have o:aF B_ (m.base+m.spare)=(m.n:Int):=by rw[dh ⟨af,af⟩];unfold Lm.n;omega
 have F:(m.n:Int)=m.base+m.spare:=by unfold Lm.n;omega
 rw[o];refine axC h (λi gm w h=>?_) λi=>?_;rotate_left
 .exfalso;unfold agX at i;simp[decide_eq_false_iff_not]at i;have:=e.cells;omega
 refine aU rfl<|bP (fun(p:Option Addr) w=> ∃d f gt gd gp X,p=A_ d/\X=cs0 ⟨d,gm,f,0,gt,gd,gp⟩ ps m/\St w0 w (au d X::Da f []::ni gt (0,[])::Lw gd []::au gp (tI (-1,0,0,K_))::bH gm (bJ.new m.cells m.n)::R)) (λJ G=>?_) ?_
 .with_reducible repeat' (first|refine cH h λw h=>?_|refine Vh h ?_|refine aM h λgx w h=>?_|refine sR h ?_|refine y8 ?_ ?_|refine ao5 h λgx w h=>?_|refine Ko.ahh h λgx w h=>?_|refine att h λgx w h=>?_|refine Jw rfl rfl ?_)
  all_goals
   refine qL (nr1 ps) rfl aZ<|qL (nr2 ps m) rfl aZ<|aM h λgx w h=>?_;have h:=h.zm 6;have h:=h.zm 6;exact G _ _ ⟨_,_,_,_,_,_,rfl,aZ,h.perm Hp⟩
 clear h;rintro _ w ⟨d,f,gt,gd,gp,X,rfl,rfl,h⟩;refine⟨rfl,⟨rfl,⟨rfl,?_⟩⟩⟩;refine vO λgx w h=>?_;obtain⟨gl,H⟩:∃n,n=gx:=⟨_,rfl⟩;subst H;refine⟨4,?_⟩;unfold jV;refine bK rfl<|cX ?_;refine anR h (Int.le_refl 0) e7 rfl ?_;refine bV (λ_ _ _=>rfl) (aqq ?_);have h:=h.fr 6;have h:=h.fr 2;refine ajO (a:=⟨d,gm,f,0,gt,gd,gp⟩) e h (λr gc w h=>?_) (λr w X Y h=>?_);rotate_left
 .have j:¬m.total<=m.cells:=λq=>r (by have:=m.KS e;unfold Lm.total at q;have:(0:Int)<=m.n*m.one:=Int.mul_nonneg af af;omega)
  refine ZJ (bK rfl (g j _ (St.adw (A:=[_,_,_,_,_,_,_]) h)))
 refine ZJ (aU rfl ?_);unfold jV;refine bK rfl<|cX ?_;refine anR h e7 e7 rfl ?_;refine bV (λ_ _ _=>rfl) (aj1 ?_);have h:=h.fr 2;have h:=h.fr 2;have h:=St.back 2 (h.DJ 1);have h:St w0 w (jO (pH (gJ ⟨d,gm,f,gc,gt,gd,gp⟩ ps m []) []) ([].zip (JR m 0))::_):=QW h;have h:=St.back 3 h;refine aex (a:=⟨d,gm,f,gc,gt,gd,gp⟩) e h r (λs sw wa w x h=>?_) (λs w L' h=>?_);rotate_left
 .have j:¬m.total<=m.cells:=λq=>s (by unfold Lm.total at q;omega)
  refine ZJ (bK rfl (g j _ (St.adw (A:=[_,_,_,_,_,_]) (St.adw h))))
 refine ZJ (aU rfl ?_);unfold jV;refine bK rfl<|cX ?_;refine anR h e7 e7 rfl ?_;refine bV (λ_ _ _=>rfl) (avJ ?_);have h:=h.fr 9;have h:=Yc h rfl (by intro v hv;simp[tI]at hv;rcases hv with rfl|rfl|rfl|rfl<;>rfl)
 have h:=h.fr 6;have h:=h.fr 5;have h:St w0 w (LA [] []::_):=St.YA rfl (QW h);have h:=h.fr 10;have h:=h.fr 10;have h:=h.fr 8;have h:=h.DJ 1;have h:=h.fr 7;have h:=h.fr 10;have h:=h.fr 11;have h:=h.fr 11;have h:=h.fr 11;have h:St w0 w (SL (gJ ⟨d,gm,f,gc,gt,gd,gp⟩ ps m wa) [] (g0 m) (jO (pH (gJ ⟨d,gm,f,gc,gt,gd,gp⟩ ps m wa) []) (wa.zip (JR m m.n))::au gl _::R) ⟨A_ gp,1,1⟩ ⟨H_,0,0⟩ sw):=h;refine amf e s x h (λt aa w h=>?_) (λt w L' h=>?_);rotate_left
 .exact ZJ (bK rfl (g t _ (St.adw h).drop))
 refine ZJ (aU rfl ?_);unfold jV;refine aU rfl<|h1 t ⟨d,gm,f,gc,gt,gd,gp⟩ wa aa _ x (h.rm 2 rfl)
variable{O':bu}
def qS(h:Ty l ro G)(a:O'.how=6->O'.err≠0)(b:0<=O'.got/\O'.got<G.ts.length)(c:O'.how=0\/O'.how=2->Cb l ro G.ts.length v d O'/\O'.kind=O.kind)
  (e:O.kind=2->(O'.how=0/\O.next<=17/\O'.next<=18)\/(O'.how=2/\O.next=18)\/(O'.how=3/\O.next=16)\/((O'.how=1\/O'.how=5)/\O.next=19)) (h2:O.kind≠2->O'.how=0\/O'.how=1\/(O'.how=3/\O.kind=1)\/(O'.how=4/\O.kind=0)\/(O'.how=6/\O.kind=0)):
  OpR l ro ro G wk v d O (O',G.M.tick wk):=
 {ty:=h.tick wk,ext:=⟨[],bf,bf⟩,err:=a,got:=b,live:=c,how:=e,ajX:=h2,same:=λ_ _ _ _=>rfl,tick:=E_ rfl,used:=iw _}
def afA(h:Ty l ro G)(a:O'.how=6->O'.err≠0)(b:0<=O'.got/\O'.got<G.ts.length)(c:O'.how=0\/O'.how=2->Cb l ro G.ts.length v d O'/\O'.kind=O.kind)
  (e:O.kind=2->(O'.how=0/\O.next<=17/\O'.next<=18)\/(O'.how=2/\O.next=18)\/(O'.how=3/\O.next=16)\/((O'.how=1\/O'.how=5)/\O.next=19)) (h2:O.kind≠2->O'.how=0\/O'.how=1\/(O'.how=3/\O.kind=1)\/(O'.how=4/\O.kind=0)\/(O'.how=6/\O.kind=0)):
  OpR l ro ro G wk v d O (O',G.M):=
 {ty:=h,ext:=⟨[],bf,bf⟩,err:=a,got:=b,live:=c,how:=e,ajX:=h2,same:=λ_ _ _ _=>rfl,tick:=D_ rfl,used:=iw _}
variable{a:Int}
def JJ(h:Ty l ro G)(b:k9 ro a r)(c:r.dq v)(hv:EO l ro G.ts.length r x)(e:O'.how=6->O'.err≠0)(f:0<=O'.got/\O'.got<G.ts.length)(g:O'.how=0\/O'.how=2->Cb l ro G.ts.length v d O'/\O'.kind=O.kind)
  (i:O.kind=2->(O'.how=0/\O.next<=17/\O'.next<=18)\/(O'.how=2/\O.next=18)\/(O'.how=3/\O.next=16)\/((O'.how=1\/O'.how=5)/\O.next=19)) (h2:O.kind≠2->O'.how=0\/O'.how=1\/(O'.how=3/\O.kind=1)\/(O'.how=4/\O.kind=0)\/(O'.how=6/\O.kind=0)):
  OpR l ro ro G wk v d O (O',(G.M.tick wk).put a x):=
 {ty:=h.put ⟨rfl,rfl,bf⟩ b hv,ext:=⟨[],bf,bf⟩,err:=e,got:=f,live:=g,how:=i,ajX:=h2,same:=h.aqm rfl b c,tick:=E_ rfl,used:=by simp}
def an6(h:Ty l ro G)(g:k9 ro a r)(i:r.dq v)(hv:EO l ro G.ts.length r x)(b:O'.how=6->O'.err≠0)(c:0<=O'.got/\O'.got<G.ts.length)(e:O'.how=0\/O'.how=2->Cb l ro G.ts.length v d O'/\O'.kind=O.kind)
  (f:O.kind=2->(O'.how=0/\O.next<=17/\O'.next<=18)\/(O'.how=2/\O.next=18)\/(O'.how=3/\O.next=16)\/((O'.how=1\/O'.how=5)/\O.next=19)) (h2:O.kind≠2->O'.how=0\/O'.how=1\/(O'.how=3/\O.kind=1)\/(O'.how=4/\O.kind=0)\/(O'.how=6/\O.kind=0)):
  OpR l ro ro G wk v d O (O',(G.M.cs wk a o x).1):=by
 unfold bJ.cs;split
 .exact JJ h g i hv b c e f h2
 .exact qS h b c e f h2
def MM(v g n:Nat):List Ro:=(List.range n).map λk=> .rg v g k
def Ty.amg{m:List Ro}{n:Int}(h:Ty l ro G)(e:0<=n)(f:m.length=n.toNat)(c:G.M.room n=J_)(g:∀r∈m,EO l (ro++m) G.ts.length r 0):Ty l (ro++m) (G.mem ((G.M.tick wk).grow n)):=by
 have c:n<=G.M.size - G.M.cells.length:=by unfold bJ.room at c;simpa using c
 have d:(((G.M.tick wk).grow n).cells.length:Int)=G.M.cells.length+n:=Tf e;refine{h with len:=by rw[uv,f,h.len];show _=((G.M.tick wk).grow n).cells.length;omega,ok:=⟨h.ok.size,by show(((G.M.tick wk).grow n).cells.length:Int)<=G.M.size;omega⟩,stp:=by show((G.M.tick wk).grow n).steps.length=_;simp[h.stp],val:=λa r i=>?_,told:=h.told.qT,idle:=h.idle.qT,Ye:=h.Ye.qT,OI:=h.OI.qT,sc:=λs x hs=>?_,tk:=λx t j=>?_,cnt:=by show 2*G.C.length+3*G.ts.length<=((G.M.tick wk).grow n).cells.length;have:=h.cnt;omega}
 .show EO l (ro++m) G.ts.length r (((G.M.tick wk).grow n).get a);rcases i.old with h1|⟨k,h1,h2⟩
  .have:=h1.lt;rw[h.len]at this;rw[xR (M:=G.M.tick wk) h1.1 this,tT];exact(h.val a r h1).qT (iw _)
  .rw[Yf (by show(G.M.cells.length:Int)<=a;rw[<-h.len];omega)]
   exact g r (qn h1)
 .have:=h.sc s x hs;exact{this with a:=this.a.qT,b:=this.b.qT}
 .have:=h.tk x t j;exact{this with k:=this.k.qT,v:=this.v.qT,w:=this.w.qT}
def aj2(ZG:0<=l.log/\l.log<=8)(h:Ty l ro G)(hd:ZH ro v d)(C:G.M.caller wk=J_)(hO:Cb l ro G.ts.length v d O):∃iT,OpR l ro iT G wk v d O (O.step G.M wk):=by
 have p:=h.rdy hd C hO.at_;have K:=h.ring hd;have D:=hO.x;have i:=hO.got;have hb:=h.val _ _ hd.bot;have L:=h.val _ _ hd.top;have n:=hO.how;have U:∃m,ro=ro++m/\∀s∈m,s.dq v:=⟨[],bf,bf⟩;rcases hO.phase with e|e|e|e|e|e|e|e|e|e|e|e|e|e|e|e|e|e|e|e
 .have g:O.how=0:=by rw[n,e];rfl
  refine⟨ro,?_⟩;rw[st0 p g e];refine qS h bf i (λ_=>⟨{hO with b:=hb,nx:=by simp,how:=rfl,rg:=by simp,c2:=λ_=>hO.c2 af,l3:=by simp,c4:=by simp,to:=by simp},by simp[bu.kind,e]⟩) (by simp[bu.kind,e]) bf
 .have g:O.how=0:=by rw[n,e];rfl
  refine⟨ro,?_⟩;rw[st1 p g e];refine qS h bf i (λ_=>⟨{hO with t:=L,nx:=by simp,how:=rfl,rg:=by simp,c2:=λ_=>hO.c2 af,l3:=by simp,c4:=by simp,to:=by simp},by simp[bu.kind,e]⟩) (by simp[bu.kind,e]) bf
 .have g:O.how=0:=by rw[n,e];rfl
  refine⟨ro,?_⟩;rw[Zg p g e];have f:O.kind=0:=by simp[bu.kind,e]
  split
  .refine qS h bf i (λ_=>⟨{hO with nx:=by simp,how:=rfl,rg:=λ_=>K,c2:=by simp,l3:=by simp,c4:=by simp,to:=by simp},by rw[f];simp[bu.kind]⟩) (by simp[f]) bf
  split
  .refine qS h bf i bf (by simp[f]) (by simp[f])
  .rename_i V;refine qS h bf i (λ_=>⟨{hO with nx:=by simp,how:=rfl,rg:=λ_=>K,c2:=λ_=>hO.c2 af,l3:=λ_=>by show(o6 G.M d).DA< _;have:=hO.most;omega,c4:=by simp,to:=by simp},by rw[f];simp[bu.kind]⟩) (by simp[f]) bf
 .have g:O.how=0:=by rw[n,e];rfl
  have f:O.kind=0:=by simp[bu.kind,e]
  have j:=hO.rg af;have W:=hO.l3 e;have X:=(aqk j.right).1;have Y:O.lg=O.ring.DA+1:=by unfold bu.lg;exact dh ⟨af,af⟩
  rw[st3 p g e af C];have S:0<=O.MA:=Int.natCast_nonneg _;split
  .rename_i hroom;have Z:O.MA<=G.M.size - G.M.cells.length:=by unfold bJ.room at hroom;simpa using hroom
   have F:=h.amg (wk:=wk) (m:=MM v O.lg.toNat O.MA.toNat) S (by simp[MM]) hroom (λr hr=>by
    obtain⟨k,_,rfl⟩:=C6.1 hr;exact⟨af,by have:=h.t1;omega⟩)
   have H:∃m,ro++MM v O.lg.toNat O.MA.toNat=ro++m/\∀s∈m,s.dq v:=⟨_,rfl,λs hs=>by obtain⟨k,_,rfl⟩:=C6.1 hs;rfl⟩
   have o:RgT l (ro++MM v O.lg.toNat O.MA.toNat) v (O.Mz G.M):=by
    have Y5:((O.Mz G.M).pw:Int)=O.MA:=by unfold Rg.pw bu.Mz bu.MA;rfl
    refine⟨?_,by show O.lg<=_;omega,λk hk'=>?_⟩
    .unfold Rg.right;simp only[decide_eq_true_eq];have:=h.ok.size;rw[Y5];show 0<=O.lg/\O.lg<=8/\0<=((G.M.cells.length:Nat):Int)/\((G.M.cells.length:Nat):Int)<=1048576 - O.MA;omega
    .refine k9.new (k:=k) ?_ (by show((G.M.cells.length:Nat):Int)+k=_;rw[h.len];omega)
     unfold MM;rw[l8,lD af];rfl
   have hsame:∀a s,k9 ro a s->¬s.dq v->((G.M.tick wk).grow O.MA).get a=G.M.get a:=λa s hs _=>by
    have:=hs.lt;rw[h.len]at this;rw[xR (M:=G.M.tick wk) hs.1 this,tT]
   have I:G.M.cells.length<=((G.M.tick wk).grow O.MA).cells.length:=by have:=Tf (M:=G.M.tick wk) S;simp only[SD]at this;omega
   split
   .refine⟨_,{ty:=F,ext:=H,err:=by simp,got:=i,live:=λ_=>⟨?_,by rw[f];simp[bu.kind]⟩,how:=by simp[f],ajX:=by simp,same:=hsame,tick:=E_ rfl,used:=I}⟩
    exact{hO.imp (m:=MM v O.lg.toNat O.MA.toNat) (iw _)with nx:=by simp,how:=rfl,rg:=λ_=>j.qT,c2:=by simp,l3:=by simp,c4:=λ_=>⟨_,rfl,rfl,rfl,by show(0:Int)<=0;omega,by show(0:Int)< _;have:=h.t1;omega⟩,to:=λ_=>o}
   .rename_i N;exact⟨_,{ty:=F,ext:=H,err:=λ_=>N,got:=i,live:=by simp,how:=by simp[f],ajX:=by simp[f],same:=hsame,tick:=E_ rfl,used:=I}⟩
  .exact⟨ro,afA h bf i bf (by simp[f]) (by simp[f])⟩
 .have g:O.how=0:=by rw[n,e];rfl
  have f:O.kind=0:=by simp[bu.kind,e]
  obtain⟨c,P,y,z,J,T⟩:=hO.c4 e;have j:=hO.rg af;have o:=hO.to (D_ e);have Q:∃r,k9 ro c.spot r/\r.dq v/\(∀x:Int,0<=x/\x<G.ts.length->EO l ro G.ts.length r x)/\(EO l ro G.ts.length r (G.M.get c.spot)->0<=G.M.get c.spot/\G.M.get c.spot<G.ts.length):=by
   unfold Cp.spot;split
   .rw[z];exact⟨_,o.place _,rfl,λx D=>D,λq=>q⟩
   .rw[y];exact⟨_,j.place _,rfl,λx D=>D,λq=>q⟩
  obtain⟨r,A,IZ,Vi,R⟩:=Q;have hv:=R (h.val _ _ A);refine⟨ro,?_⟩;rw[st4 g e P (A.can h.len C)];split
  .exact afA h bf i (λ_=>⟨{hO with nx:=by simp,how:=rfl,rg:=λ_=>j,c2:=by simp,l3:=by simp,c4:=by simp,to:=λ_=>o},by rw[f];simp[bu.kind]⟩) (by simp[f]) bf
  split
  .rename_i B;have u:(c.next 0).a=c.a/\(c.next 0).b=c.b/\(c.next 0).has=c.has:=by unfold Cp.next;rw[HK B];exact⟨rfl,rfl,rfl⟩
   refine JJ h A IZ (Vi _ ⟨J,T⟩) bf i (λ_=>⟨?_,by rw[f];unfold bu.kind;dsimp only;split<;>simp⟩) (by simp[f]) bf
   exact{hO with nx:=by dsimp only;split<;>omega,how:=by dsimp only;split<;>rfl,rg:=λ_=>j,c2:=λq=>by dsimp only at q;split at q<;>omega,l3:=λq=>by dsimp only at q;split at q<;>omega,c4:=λ_=>⟨_,rfl,by rw[u.1,y],by rw[u.2.1,z],by rw[u.2.2];exact J,by rw[u.2.2];exact T⟩,to:=λ_=>o}
  .rename_i B;have u:(c.next (G.M.get c.spot)).a=c.a/\(c.next (G.M.get c.spot)).b=c.b/\(c.next (G.M.get c.spot)).has=G.M.get c.spot:=by unfold Cp.next;rw[HQ B];exact⟨rfl,rfl,rfl⟩
   refine qS h bf i (λ_=>⟨?_,by rw[f];simp[bu.kind,e]⟩) (by simp[f]) bf
   exact{hO with how:=by dsimp only;rw[e];rfl,rg:=λ_=>j,c2:=λq=>by dsimp only at q;omega,c4:=λ_=>⟨_,rfl,by rw[u.1,y],by rw[u.2.1,z],by rw[u.2.2];exact hv.1,by rw[u.2.2];exact hv.2⟩}
 .have g:O.how=0:=by rw[n,e];rfl
  have f:O.kind=0:=by simp[bu.kind,e]
  have o:=hO.to (E_ e);refine⟨ro,?_⟩;rw[st5 p g e];exact JJ h hd.Uw rfl ⟨_,rfl,o⟩ bf i (λ_=>⟨{hO with nx:=by simp,how:=rfl,rg:=λ_=>o,c2:=by simp,l3:=by simp,c4:=by simp,to:=by simp},by rw[f];simp[bu.kind]⟩) (by simp[f]) bf
 .have g:O.how=0:=by rw[n,e];rfl
  have f:O.kind=0:=by simp[bu.kind,e]
  have j:=hO.rg af;refine⟨ro,?_⟩;rw[st6 g e ((j.place _).can h.len C)];exact JJ h (j.place _) rfl D bf i (λ_=>⟨{hO with nx:=by simp,how:=rfl,rg:=λ_=>j,c2:=by simp,l3:=by simp,c4:=by simp,to:=by simp},by rw[f];simp[bu.kind]⟩) (by simp[f]) bf
 .have g:O.how=0:=by rw[n,e];rfl
  have f:O.kind=0:=by simp[bu.kind,e]
  refine⟨ro,?_⟩;rw[st7 p g e];exact JJ h hd.bot rfl (ahB _) bf i bf (by simp[f]) bf
 .have g:O.how=0:=by rw[n,e];rfl
  have f:O.kind=1:=by simp[bu.kind,e]
  refine⟨ro,?_⟩;rw[st8 p g e];exact qS h bf i (λ_=>⟨{hO with b:=hb,nx:=by simp,how:=rfl,rg:=by simp,c2:=by simp,l3:=by simp,c4:=by simp,to:=by simp},by rw[f];simp[bu.kind]⟩) (by simp[f]) bf
 .have g:O.how=0:=by rw[n,e];rfl
  have f:O.kind=1:=by simp[bu.kind,e]
  refine⟨ro,?_⟩;rw[st9 p g e];exact qS h bf i (λ_=>⟨{hO with nx:=by simp,how:=rfl,rg:=λ_=>K,c2:=by simp,l3:=by simp,c4:=by simp,to:=by simp},by rw[f];simp[bu.kind]⟩) (by simp[f]) bf
 .have g:O.how=0:=by rw[n,e];rfl
  have f:O.kind=1:=by simp[bu.kind,e]
  have j:=hO.rg af;refine⟨ro,?_⟩;rw[aER p g e];exact JJ h hd.bot rfl (ahB _) bf i (λ_=>⟨{hO with nx:=by simp,how:=rfl,rg:=λ_=>j,c2:=by simp,l3:=by simp,c4:=by simp,to:=by simp},by rw[f];simp[bu.kind]⟩) (by simp[f]) bf
 .have g:O.how=0:=by rw[n,e];rfl
  have f:O.kind=1:=by simp[bu.kind,e]
  have j:=hO.rg af;refine⟨ro,?_⟩;rw[aES p g e];refine qS h bf i (λ_=>⟨?_,by rw[f];unfold bu.kind;dsimp only;split<;>simp⟩) (by simp[f]) bf
  exact{hO with t:=L,nx:=by dsimp only;split<;>omega,how:=by dsimp only;split<;>rfl,rg:=λ_=>j,c2:=λq=>by dsimp only at q;split at q<;>omega,l3:=λq=>by dsimp only at q;split at q<;>omega,c4:=λq=>by dsimp only at q;split at q<;>omega,to:=λq=>by dsimp only at q;split at q<;>omega}
 .have g:O.how=0:=by rw[n,e];rfl
  have f:O.kind=1:=by simp[bu.kind,e]
  have j:=hO.rg af;have hv:=h.val _ _ (j.place (wr (O.b - 1)));refine⟨ro,?_⟩;rw[aET g e ((j.place _).can h.len C)];refine qS h (by dsimp only;split<;>simp) hv (λq=>⟨?_,by rw[f];simp[bu.kind]⟩) (by simp[f]) (by dsimp only;intro _;split<;>simp)
  exact{hO with got:=hv,nx:=by simp,how:=by dsimp only at q ⊢;split<;>simp_all,rg:=λ_=>j,c2:=by simp,l3:=by simp,c4:=by simp,to:=by simp}
 .have g:O.how=0:=by rw[n,e];rfl
  have f:O.kind=1:=by simp[bu.kind,e]
  refine⟨ro,?_⟩;rw[aEU p g e];exact an6 h hd.top rfl (ahB _) bf i (λ_=>⟨{hO with nx:=by simp,how:=rfl,rg:=by simp,c2:=by simp,l3:=by simp,c4:=by simp,to:=by simp},by rw[f];simp[bu.kind]⟩) (by simp[f]) bf
 .have g:O.how=0:=by rw[n,e];rfl
  have f:O.kind=1:=by simp[bu.kind,e]
  refine⟨ro,?_⟩;rw[aEV p g e];exact JJ h hd.bot rfl hO.b (by dsimp only;split<;>simp) i (λq=>by dsimp only at q;split at q<;>simp at q) (by simp[f]) (by dsimp only;intro _;split<;>simp[f])
 .have g:O.how=0:=by rw[n,e];rfl
  have f:O.kind=2:=by simp[bu.kind,e]
  refine⟨ro,?_⟩;rw[aEW p g e];exact qS h bf i (λ_=>⟨{hO with t:=L,nx:=by simp,how:=rfl,rg:=by simp,c2:=by simp,l3:=by simp,c4:=by simp,to:=by simp},by rw[f];simp[bu.kind]⟩) (by simp[e]) bf
 .have g:O.how=0:=by rw[n,e];rfl
  have f:O.kind=2:=by simp[bu.kind,e]
  refine⟨ro,?_⟩;rw[aEX p g e];refine qS h (by dsimp only;split<;>simp) i (λq=>⟨?_,by rw[f];simp[bu.kind]⟩) (by dsimp only;intro _;split<;>simp[e]) (by simp[f])
  exact{hO with b:=hb,nx:=by simp,how:=by dsimp only at q ⊢;split<;>simp_all,rg:=by simp,c2:=by simp,l3:=by simp,c4:=by simp,to:=by simp}
 .have g:O.how=0:=by rw[n,e];rfl
  have f:O.kind=2:=by simp[bu.kind,e]
  refine⟨ro,?_⟩;rw[aEY p g e];exact qS h bf i (λ_=>⟨{hO with nx:=by simp,how:=rfl,rg:=λ_=>K,c2:=by simp,l3:=by simp,c4:=by simp,to:=by simp},by rw[f];simp[bu.kind]⟩) (by simp[e]) bf
 .have g:O.how=0:=by rw[n,e];rfl
  have f:O.kind=2:=by simp[bu.kind,e]
  have j:=hO.rg af;have hv:=h.val _ _ (j.place O.t);refine⟨ro,?_⟩;rw[aEZ g e ((j.place _).can h.len C)];exact qS h bf hv (λ_=>⟨{hO with got:=hv,nx:=by simp,how:=rfl,rg:=λ_=>j,c2:=by simp,l3:=by simp,c4:=by simp,to:=by simp},by rw[f];simp[bu.kind]⟩) (by simp[e]) (by simp[f])
 .have g:O.how=2:=by rw[n,e];rfl
  have f:O.kind=2:=by simp[bu.kind,e]
  refine⟨ro,?_⟩;rw[stK p g e];refine an6 h hd.top rfl (ahB _) (by dsimp only;split<;>simp) i (λq=>by dsimp only at q;split at q<;>simp at q) (by dsimp only;intro _;split<;>simp[e]) (by simp[f])
def Gl.K(G:Gl)(x:Nat):Int:=G.M.get (G.tk x).jI
def Gl.V(G:Gl)(x:Nat):Int:=G.M.get ((G.tk x).jI+1)
inductive O8 (C:List Nd):Int->Int->Prop
 |refl {s:Int}:0<=s->s<C.length->O8 C s s
 |up {s a:Int} {x:Nd}:nZ C s=G_ x->O8 C x.parent a->O8 C s a
def Wb(G:Gl)(s:Int):Prop:=∃x,nZ G.C s=G_ x/\G.M.get x.at_≠0
def SE(G:Gl)(t:Tk):Prop:=∃a,O8 G.C t.l7 a/\Wb G a
abbrev Ip(P:List dB)(t:Tk):Int:=(bz P t.f).getD 0 0
abbrev hand(P:List dB)(t:Tk):Int:=t.f.getD (10+(G6 (bz P t.f)).toNat) 0
structure BT (P:List dB) (n:Nat) (t:Tk):Prop where
 fi:FI P (λy=>0<=y/\y<n) t.f t.cJ.length
 kind:t.kind=0
structure Ends (t:Tk):Prop where
 k2:2<=t.kind
 k4:t.kind<=4
structure OJ (P:List dB) (n:Nat) (t:Tk):Prop where
 fi:FI P (λy=>0<=y/\y<n) t.f 1
 cJ:t.cJ=[]
 cl:t.gL=Oq #[]
 sc:t.scopes=[t.own]
 kind:t.kind=0
 st:t.f.getD 18 0=0
def rq(P:List dB)(n:Nat)(t:Tk):Kn->Prop
 | .m .next=>BT P n t
 | .aw y=>BT P n t/\(Ip P t=9\/Ip P t=10)/\hand P t=(y:Nat)/\y<n
 | .sh (.c .Co)=>BT P n t/\Ip P t=12
 | .sh (.c .qI)=>Ends t/\t.cJ≠ []
 |_=>False
def EP(P:List dB)(G:Gl)(s:List Nat)(k:Kn):Prop:=match s with
 |[]=>k= .m .rest
 |x::_=>rq P G.ts.length (G.tk x) k
def KU(P:List dB)(G:Gl):List Nat->List Kn->Prop
 |[],[]=>True
 |x::s,k::b=>x<G.ts.length/\EP P G s k/\KU P G s b
 |_,_=>False
structure rC (P:List dB) (G:Gl) (W:Wk):Prop where
 ne:W.stack≠ []
 hm:rq P G.ts.length (G.tk (W.stack.headD 0)) W.again
 tg:match W.again with
  | .aw y=>W.target=G_ y
  | .sh k=>W.target=H_/\W.qc=k
  |_=>False
def zk:Kn->Bool| .aw _=>J_|_=>K_
def SF:Kn->Bool| .sh _=>J_|_=>K_
structure Dx (l:Lc) (P:List dB) (G:Gl) (W:Wk):Prop where
 how:W.wait.how=1
 left:∀j∈W.left,0<=j/\j<l.wa.length/\j≠W.id
 what:(W.stack=[]/\W.fits= .any/\W.got= .c .S8/\W.none_= .m .y5)\/(rC P G W/\W.fits= .hl ((W.stack.headD 0:Nat):Int) W.target/\W.got= .m .BQ/\W.none_= .m .nothing)
def SpT(o:jH):Prop:=o.next<=6/\o.self<16/\(o.next=6->0<=o.on/\o.on<65536)
def cD(l:Lc)(P:List dB)(bw:List Int)(ro:List Ro)(G:Gl)(W:Wk):Prop:=
 let x:=W.stack.headD 0
 let t:=G.tk x
 let n:=G.ts.length
 let i:=W.id.toNat
 let own:=fun(O:bu) (k:Nat)=>Cb l ro n i W.dq O/\O.kind=k
 let thf:=fun(O:bu)=> ∃u,u<l.wa.length/\u≠i/\Cb l ro n u (bw.getD u 0) O/\O.kind=2
 let top:=W.stack≠ []
 match W.cT with
 | .m .rest=>W.stack=[]
 | .m .pF=> ∃O,W.op=G_ O/\(match W.after with
  | .c .F9=>W.stack=[]/\W.wait.how=1/\own O 1
  | .c .um=>top/\BT P n t/\(0<=W.jq/\W.jq<n)/\own O 0
  | .c .td=>rC P G W/\(zk W.again=J_->W.dK= .m .vQ/\W.wait.how=1)/\(SF W.again=J_->W.dK= .c .Db)/\own O 1
  | .m .Uv=>Dx l P G W/\thf O/\O.next<=18
  | .m .AL=>Dx l P G W/\thf O/\O.next=19
  |_=>False)
 | .m .looking=> ∃k,W.look=G_ k/\k.done=K_/\(0<=k.at_/\k.at_<G.C.length)/\O8 G.C t.l7 k.at_/\top/\(match W.seen with
  | .nx i=>BT P n t/\i=bz P t.f
  | .c .th=>rC P G W/\zk W.again=J_/\W.wait.how=1
  | .c .xp=>BT P n t
  |_=>False)
 | .m .tell=>EP P G W.stack W.said
 | .m .others=>Dx l P G {W with left:=[]}
 | .m .xn=>W.stack=[]/\W.wait.how=1/\∃o,W.step=G_ o/\SpT o
 | .m .So=>W.stack=[]/\W.wait.how=1
 | .m .JA=>W.stack=[]
 | .m .tE=>(0<=W.jq/\W.jq<n)/\EP P G W.stack W.home
 | .m .start=>(0<=W.jq/\W.jq<n)/\EP P G W.stack W.home/\OJ P n (G.tk W.jq.toNat)
 | .m .next=>top/\BT P n t
 | .m .fork=>top/\BT P n t/\Ip P t=8
 | .m .xo=>top/\BT P n t/\Ip P t=8/\(0<=W.own/\W.own<G.C.length)
 | .m .tF=>top/\BT P n t/\(0<=W.jq/\W.jq<n)
 | .m .join=>top/\BT P n t/\(Ip P t=9\/Ip P t=10)
 | .m .cJ=>top/\BT P n t/\Ip P t=11
 | .m .opens=>top/\BT P n t/\Ip P t=11
 | .m .close=>top/\BT P n t/\Ip P t=12
 | .m .gL=>top/\BT P n t/\Ip P t=12
 | .m .cancel=>top/\BT P n t/\Ip P t=13
 | .m .pass=>top/\BT P n t/\Ip P t=14
 | .m .leave=>top/\BT P n t/\(Ip P t=15\/Ip P t=16)
 | .m .put=>top/\Ends t/\t.cJ=[]
 | .m .fin=>top/\Ends t/\t.cJ=[]
 | .m .asks=>top/\Ends t/\t.cJ=[]
 | .m .gone=>top/\Ends t/\t.cJ=[]
 | .m .asked=>rC P G W/\zk W.again=J_/\W.wait.how=1
 | .m .joined=>rC P G W/\zk W.again=J_/\W.kind=G.K (W.target.getD 0)/\2<=W.kind
 | .m .ul=>rC P G W/\(zk W.again=J_->W.dK= .m .vQ/\W.wait.how=1)/\(SF W.again=J_->W.dK= .c .Db)
 | .m .rp=>rC P G W/\SF W.again=J_
 | .m .sx=>rC P G W/\SF W.again=J_/\W.wait.how=1
 | .m .register=>rC P G W/\zk W.again=J_
 | .m .block=>rC P G W/\∃o,W.step=G_ o/\SpT o
 | .m .Io=>rC P G W
 | .m .stops=>rC P G W/\(W.blocked=J_->∀o,W.step=G_ o->SpT o)/\(match W.pG with
  | .m .cancelled=>zk W.again=J_/\SE G t
  | .V2 y k=>y<n/\k=W.again
  | .BR y k=>(0<=y/\y<n)/\k=W.again
  | .c .IF=>zk W.again=J_/\W.kind=G.K (W.target.getD 0)/\2<=W.kind
  | .c .Co=>W.again= .sh (.c .Co)
  | .c .qI=>W.again= .sh (.c .qI)
  |_=>False)
 | .aw y=>top/\rq P n t (.aw y)
 | .sh k=>top/\rq P n t (.sh k)
 |_=>False
def Wk.waits(W:Wk):Bool:=match W.cT with
 | .m .pF=>(match W.after with| .c .td=>J_| .m .Uv=>L_ (W.none_= .m .nothing)| .m .AL=>L_ (W.none_= .m .nothing)|_=>K_)
 | .m .looking=>(match W.seen with| .c .th=>J_|_=>K_)
 | .m .others=>L_ (W.none_= .m .nothing)
 | .m .asked=>J_
 | .m .ul=>J_
 | .m .rp=>J_
 | .m .sx=>J_
 | .m .register=>J_
 | .m .block=>J_
 | .m .Io=>J_
 | .m .stops=>J_
 | .aw _=>J_
 | .sh _=>J_
 |_=>K_
structure EQ (W:Wk):Prop where
 no:W.waits=K_->W.bO=K_/\W.blocked=K_
 SG:W.bO=J_->zk W.again=J_
 ag:W.bO=J_\/W.blocked=J_->(zk W.cT=J_\/SF W.cT=J_)->W.again=W.cT
def Wk.hold(W:Wk):List Nat:=(if W.cT= .m .start then [W.jq.toNat]else [])++W.stack
structure WT (l:Lc) (P:List dB) (bw:List Int) (ro:List Ro) (G:Gl) (i:Nat) (W:Wk):Prop where
 id:W.id=i
 lt:i<l.wa.length
 dq:W.dq=bw.getD i 0
 bk:KU P G W.stack W.back
 dp:(W.stack.length:Int)<=l.deep
 hl:∀x∈W.hold,x<G.ts.length
 ct:G.err=0->cD l P bw ro G W
 fl:G.err=0->EQ W
 run:∀x∈W.hold,G.K x=1\/(2<=G.K x/\W.stack.head?=G_ x/\(W.cT= .m .asks\/W.cT= .m .gone))
 nd:W.hold.Nodup
structure uN (ro iT:List Ro) (G G':Gl) (hold:List Nat):Prop where
 ext:∃m,iT=ro++m
 n:G.ts.length<=G'.ts.length
 ts:∀x,x<G.ts.length->x ∉ hold->G'.ts[x]?=G.ts[x]?
 ids:∀x,x<G.ts.length->(G'.tk x).l7=(G.tk x).l7/\(G'.tk x).own=(G.tk x).own/\(G'.tk x).jI=(G.tk x).jI
 C:∃m,G'.C=G.C++m
 K0:∀x,x<G.ts.length->G'.K x=0->G.K x=0
 K1:∀x,x<G.ts.length->x ∉ hold->1<=G.K x->G'.K x=G.K x/\G'.V x=G.V x
 K2:∀x,x<G.ts.length->2<=G.K x->G'.K x=G.K x/\G'.V x=G.V x
 ask:∀s,Wb G s->Wb G' s
theorem O8.qT{m:List Nd}(h:O8 G.C s a)(b:G'.C=G.C++m):O8 G'.C s a:=by
 rw[b];induction h with
 |refl h0 c=>exact .refl h0 (by simp;omega)
 |up h0 _ ih=>
  refine .up ?_ ih;obtain⟨_,c,h2⟩:=rM h0;unfold nZ;grind
variable{hold:List Nat}{iT:List Ro}{x:Nat}
def uN.tk(h:uN ro iT G G' hold)(a:x<G.ts.length)(b:x ∉ hold):G'.tk x=G.tk x:=by
 unfold Gl.tk;rw[h.ts x a b]
def BT.imp(h:BT P n t)(b:n<=n'):BT P n' t:=⟨h.fi.imp λy a=>⟨a.1,af⟩,h.kind⟩
def OJ.imp(h:OJ P n t)(b:n<=n'):OJ P n' t:={h with fi:=h.fi.imp λy a=>⟨a.1,af⟩}
variable{k:Kn}
def rq.imp(h:rq P n t k)(a:n<=n'):rq P n' t k:=by
 unfold rq at h ⊢;split at h
 .exact h.imp a
 .exact⟨h.1.imp a,h.2.1,h.2.2.1,af⟩
 .exact⟨h.1.imp a,h.2⟩
 .exact h
 .exact h.elim
def SE.imp(h:SE G t)(he:uN ro iT G G' hold)(d:∃x,x<G.ts.length/\G.tk x=t):SE G' t:=by
 obtain⟨b,a,h2⟩:=h;obtain⟨m,c⟩:=he.C;exact⟨b,a.qT c,he.ask b h2⟩
variable{st:List Nat}
def EP.imp(h:EP P G st k)(a:uN ro iT G G' hold)(hs:∀x∈st,x<G.ts.length/\x ∉ hold):EP P G' st k:=by
 cases st with
 |nil=>exact h
 |cons x st=>
  have h:rq P G.ts.length (G.tk x) k:=h;have b:=hs x bf;show rq P G'.ts.length (G'.tk x) k;rw[a.tk b.1 b.2];exact h.imp a.n
def KU.imp(a:uN ro iT G G' hold):∀{st:List Nat} {b:List Kn},KU P G st b->(∀x∈st,x<G.ts.length/\x ∉ hold)->KU P G' st b
 |[],[],_,_=>trivial
 |[],_::_,h,_=>h.elim
 |_::_,[],h,_=>h.elim
 |x::st,k::b,⟨h1,h2,h3⟩,hs=>⟨by have:=a.n;omega,h2.imp a λy c=>hs y (by simp[c]),KU.imp a h3 λy c=>hs y (by simp[c])⟩
def rC.imp(h:rC P G W)(a:uN ro iT G G' hold)(hs:∀x∈W.stack,x<G.ts.length/\x ∉ hold):rC P G' W:=by
 obtain⟨b,h2,d⟩:=h;refine⟨b,?_,d⟩;obtain⟨x,st,e⟩:=kp b;rw[e]at h2 ⊢;have c:=hs x (by rw[e];simp)
 show rq P G'.ts.length (G'.tk x) W.again;rw[a.tk c.1 c.2];exact rq.imp h2 a.n
def Dx.imp(h:Dx l P G W)(a:uN ro iT G G' hold)(hs:∀x∈W.stack,x<G.ts.length/\x ∉ hold):Dx l P G' W:=
 ⟨h.how,h.left,h.what.imp id λq=>⟨q.1.imp a hs,q.2⟩⟩
theorem cD.imp(h:cD l P bw ro G W)(he:uN ro iT G G' hold)(hs:∀x∈W.hold,x<G.ts.length/\x ∉ hold):cD l P bw iT G' W:=by
 have c:∀x∈W.stack,x<G.ts.length/\x ∉ hold:=λx i=>hs x (by unfold Wk.hold;simp[i])
 have j:W.stack≠ []->G'.tk (W.stack.headD 0)=G.tk (W.stack.headD 0)/\W.stack.headD 0<G.ts.length:=λs=>by
  obtain⟨x,st,e⟩:=kp s;have i:=c x (by rw[e];simp)
  rw[e];exact⟨he.tk i.1 i.2,i.1⟩
 have o:=he.n;obtain⟨m,B⟩:=he.ext;obtain⟨Q,t⟩:=he.C;have D:G.C.length<=G'.C.length:=by rw[t];simp
 have g:=fun(q:rC P G W)=>q.imp he c;have F:=fun(q:Dx l P G W)=>q.imp he c;have H:∀{u:Nat} {d:Int} {O:bu},Cb l ro G.ts.length u d O->Cb l iT G'.ts.length u d O:=λq=>by rw[B];exact q.imp o
 have I:∀{y:Nat},y<G.ts.length->2<=G.K y->G'.K y=G.K y:=λp h2=>(he.K2 _ p h2).1;have J:rC P G W->zk W.again=J_->W.target.getD 0<G.ts.length:=λq r=>by
  obtain⟨p,h2,f⟩:=q;revert h2 f r;cases W.again<;>intro r h2 f<;>first|exact f.elim|cases r|skip
  rename_i y;rw[f];exact h2.2.2.2
 have L:W.stack≠ []->BT P G.ts.length (G.tk (W.stack.headD 0))->BT P G'.ts.length (G'.tk (W.stack.headD 0)):=λa b=>by rw[(j a).1];exact b.imp o
 unfold cD at h ⊢;dsimp only at h ⊢;split at h
 .exact h
 .grind
 .obtain⟨k,p,h2,f,M,v,R⟩:=h;refine⟨k,p,h2,⟨f.1,af⟩,?_,v,?_⟩
  .rw[(j v).1];exact M.qT t
  .grind
 .exact EP.imp h he c
 .exact Dx.imp h he c
 iterate 3 exact h
 .exact⟨⟨h.1.1,by have:=h.1.2;omega⟩,h.2.imp he c⟩
 .rename_i N;have z:=hs W.jq.toNat (by unfold Wk.hold;rw[HK N];simp)
  exact⟨⟨h.1.1,by have:=h.1.2;omega⟩,h.2.1.imp he c,by rw[he.tk z.1 z.2];exact h.2.2.imp o⟩
 .exact⟨h.1,L h.1 h.2⟩
 iterate 15 grind
 .exact⟨g h.1,h.2⟩
 .grind
 iterate 5 exact⟨g h.1,h.2⟩
 .exact g h
 .refine⟨g h.1,h.2.1,?_⟩;have f:=h.2.2;split at f
  .refine⟨f.1,?_⟩;have A:=j h.1.ne;rw[A.1];exact f.2.imp he ⟨_,A.2,rfl⟩
  iterate 3 grind
  iterate 2 exact f
  .exact f.elim
 iterate 2 exact⟨h.1,by rw[(j h.1).1];exact rq.imp h.2 o⟩
 .exact h.elim
variable{i:Nat}
def WT.imp(h:WT l P bw ro G i W)(he:uN ro iT G G' hold)(hs:∀x∈W.hold,x ∉ hold)(b:G'.err=0->G.err=0):WT l P bw iT G' i W:=by
 have c:∀x∈W.stack,x<G.ts.length/\x ∉ hold:=λx a=>⟨h.hl x (by unfold Wk.hold;simp[a]),hs x (by unfold Wk.hold;simp[a])⟩
 refine⟨h.id,h.lt,h.dq,h.bk.imp he c,h.dp,λx a=>by have:=h.hl x a;have:=he.n;omega,λe=>(h.ct (b e)).imp he λx a=>⟨h.hl x a,hs x a⟩,λe=>h.fl (b e),λx a=>?_,h.nd⟩
 have d:=h.run x a;have h2:=(he.K1 x (h.hl x a) (hs x a) (by rcases d with q|q<;>omega)).1
 rw[h2];exact d
variable{y3:Gl}{yi:List Ro}
theorem uN.trans(h:uN ro iT G G' hold)(k:uN iT yi G' y3 hold)(d:G'.ts.length=G.ts.length\/∀x,x∈hold->x<G.ts.length):uN ro yi G y3 hold:=by
 have g:=h.n;have h2:=k.n;refine⟨?_,af,λx c d=>by rw[k.ts x af d,h.ts x c d],λx c=>?_,?_,λx c q=>h.K0 x c (k.K0 x af q),λx c d q=>?_,λx c q=>?_,λs q=>k.ask s (h.ask s q)⟩
 .obtain⟨m,e⟩:=h.ext;obtain⟨f,e2⟩:=k.ext;grind
 .have a:=h.ids x c;have b:=k.ids x af;rw[b.1,b.2.1,b.2.2];exact a
 .obtain⟨m,e⟩:=h.C;obtain⟨f,e2⟩:=k.C;grind
 .have a:=h.K1 x c d q;have b:=k.K1 x af d (by rw[a.1];exact q)
  grind
 .have a:=h.K2 x c q;have b:=k.K2 x af (by rw[a.1];exact q)
  grind
def Ro.JS:Ro->Prop
 | .fk _=>True
 | .fv _=>True
 | .ask _=>True
 |_=>False
variable{nd:Nd}
def JL(h:Ty l ro G)(hs:nZ G.C s=G_ nd):k9 ro nd.at_ (.ask s.toNat):=(h.sc _ _ (rM hs).2.2).a
variable{m:List Ro}{mc:List Nd}
theorem adx(h:Ty l ro G)(b:iT=ro++m){mt:List Tk}(c:G'.ts=G.ts++mt)(i:G'.C=G.C++mc)(d:∀a r,k9 ro a r->r.JS->G'.M.get a=G.M.get a):uN ro iT G G' hold:=by
 have f:∀x,x<G.ts.length->G'.tk x=G.tk x:=λx b=>by unfold Gl.tk;rw[c,tJ b]
 have e:∀x,x<G.ts.length->G'.K x=G.K x/\G'.V x=G.V x:=λx b=>by
  have g:=h.qh b;unfold Gl.K Gl.V;rw[f x b,d _ _ g.k trivial,d _ _ g.v trivial];exact⟨rfl,rfl⟩
 refine⟨⟨m,b⟩,by rw[c];simp,λx b _=>by rw[c,tJ b],λx b=>by rw[f x b];exact⟨rfl,rfl,rfl⟩,⟨mc,i⟩,λx b q=>by rw[<-(e x b).1];exact q,λx b _ _=>e x b,λx b _=>e x b,λs ⟨nd,h1,h2⟩=>?_⟩
 refine⟨nd,?_,by rw[d _ _ (JL h h1) trivial];exact h2⟩
 obtain⟨_,j,n⟩:=rM h1;unfold nZ;grind
def ady(h:Ty l ro G)(b:∀a r,k9 ro a r->r.JS->M.get a=G.M.get a):uN ro ro G (G.mem M) hold:=adx (m:=[]) (mt:=[]) (mc:=[]) h bf (by simp[Gl.mem]) (by simp[Gl.mem]) b
def afB(h:Ty l ro G):uN ro ro G (G.tick wk) hold:=ady h λ_ _ _ _=>rfl
variable{v:Int}
def xK(h:Ty l ro G)(e:M.cells=G.M.cells)(d:k9 ro a r)(f:¬r.JS):∀b s,k9 ro b s->s.JS->(M.put a v).get b=G.M.get b:=λb s hb hs=>by
 have c:b≠a:=hb.ne d (by rintro rfl;exact f hs)
 rw[SC d.1 hb.1 c];unfold bJ.get;rw[e]
def ahD(h:Ty l ro G)(b:k9 ro a r)(c:¬r.JS):uN ro ro G (G.mem (G.M.ad wk a d)) hold:=ady h (xK h rfl b c)
def ay8(a:x<G.ts.length):(G.set x t').tk x=t':=by unfold Gl.tk Gl.set;dsimp only;rw[uO a];rfl
theorem an7(a:y≠x):(G.set x t').tk y=G.tk y:=by unfold Gl.tk Gl.set;grind
def avN:(G.set x t').ts.length=G.ts.length:=by unfold Gl.set;simp
def adz(c:x∈hold)(d:x<G.ts.length)(f:t'.l7=(G.tk x).l7)(h2:t'.own=(G.tk x).own)(g:t'.jI=(G.tk x).jI):uN ro ro G (G.set x t') hold:=by
 have ids:∀y,y<G.ts.length->((G.set x t').tk y).l7=(G.tk y).l7/\((G.set x t').tk y).own=(G.tk y).own/\((G.set x t').tk y).jI=(G.tk y).jI:=λy a=>by
  by_cases e:y=x
  .subst e;rw[ay8 d];exact⟨f,h2,g⟩
  .rw[an7 e];exact⟨rfl,rfl,rfl⟩
 have b:∀y,y<G.ts.length->(G.set x t').K y=G.K y/\(G.set x t').V y=G.V y:=λy a=>by unfold Gl.K Gl.V;rw[(ids y a).2.2];exact⟨rfl,rfl⟩
 refine⟨⟨[],bf⟩,by rw[avN];exact iw _,λy a i=>?_,ids,⟨[],by simp[Gl.set]⟩,λy a q=>by rw[<-(b y a).1];exact q,λy a _ _=>b y a,λy a _=>b y a,λs q=>q⟩
 have e:y≠x:=λe=>i (e▸c);unfold Gl.set;dsimp only;rw[r0 (Ne.symm e)]
structure Cx (l:Lc) (P:List dB) (bw:List Int) (ro:List Ro) (G:Gl) (i:Nat) (W:Wk):Prop where
 lc:afx l
 lg:0<=l.log/\l.log<=8
 acc:oW P
 ty:Ty l ro G
 wt:WT l P bw ro G i W
 dq:∀v,v<l.wa.length->ZH ro v (bw.getD v 0)
 err:G.err=0
structure rV (l:Lc) (P:List dB) (bw:List Int) (ro iT:List Ro) (G:Gl) (i:Nat) (W:Wk) (r:SW):Prop where
 ty:Ty l iT r.1
 Cd:uN ro iT G r.1 W.hold
 wt:WT l P bw iT r.1 i r.2
 hd:∀x∈r.2.hold,x∈W.hold\/(x<G.ts.length/\G.K x=0)
 fr:∀x,G.ts.length<=x->x<r.1.ts.length->OJ P r.1.ts.length (r.1.tk x)
def Cx.caller(c:Cx l P bw ro G i W):G.M.caller W.id=true:=Ga c.ty.stp (by rw[c.wt.id];omega) (by rw[c.wt.id];have:=c.wt.lt;omega)
def Cx.ct(c:Cx l P bw ro G i W):cD l P bw ro G W:=c.wt.ct c.err
def Cx.fl(c:Cx l P bw ro G i W):EQ W:=c.wt.fl c.err
def Cx.can(c:Cx l P bw ro G i W)(h:k9 ro a r):G.M.can W.id a=true:=h.can c.ty.len c.caller
def Cx.own(c:Cx l P bw ro G i W):ZH ro i W.dq:=by rw[c.wt.dq];exact c.dq i c.wt.lt
def Cx.idn(c:Cx l P bw ro G i W):W.id.toNat=i:=by rw[c.wt.id];simp
def Cx.top(c:Cx l P bw ro G i W)(h:W.stack≠ []):G7 G W (W.stack.headD 0) (G.tk (W.stack.headD 0))/\W.stack.headD 0<G.ts.length:=by
 obtain⟨x,st,e⟩:=kp h;have a:x<G.ts.length:=c.wt.hl x (by unfold Wk.hold;rw[e];simp)
 rw[e];exact⟨⟨by rw[e];rfl,G.xw a⟩,a⟩
def kL(h:W.cT≠ .m .start):W.hold=W.stack:=by unfold Wk.hold;rw[HQ h];rfl
variable{b:List Kn}
def adA(e:G'.ts=G.ts):KU P G st b->KU P G' st b:=by
 intro h;have a:∀st k,EP P G st k->EP P G' st k:=λst k q=>by
  cases st with
  |nil=>exact q
  |cons y st=>show rq P G'.ts.length (G'.tk y) k;unfold Gl.tk;rw[e];exact q
 induction st generalizing b with
 |nil=>cases b<;>first|trivial|exact h.elim
 |cons y st ih=>
  cases b with
  |nil=>exact h.elim
  |cons k b=>exact⟨by rw[e];exact h.1,a _ _ h.2.1,ih h.2.2⟩
def avO(a:G.ts.length<=G'.ts.length)(e:∀y∈st,G'.tk y=G.tk y):KU P G st b->KU P G' st b:=by
 intro h;induction st generalizing b with
 |nil=>cases b<;>first|trivial|exact h.elim
 |cons y st ih=>
  cases b with
  |nil=>exact h.elim
  |cons k b=>
   refine⟨by have:=h.1;omega,?_,ih (λz c=>e z (by simp[c])) h.2.2⟩
   have h2:=h.2.1;cases st with
   |nil=>exact h2
   |cons z st=>
    have h2:rq P G.ts.length (G.tk z) k:=h2;show rq P G'.ts.length (G'.tk z) k;rw[e z bf];exact rq.imp h2 a
def ay9(a:G.ts.length<=G'.ts.length)(e:∀z∈st,G'.tk z=G.tk z):KU P G (y::st) b->KU P G' (y::st) b:=by
 intro h;cases b with
 |nil=>exact h.elim
 |cons k b=>
  refine⟨by have:=h.1;omega,?_,avO a e h.2.2⟩
  have h2:=h.2.1;cases st with
  |nil=>exact h2
  |cons z st=>
   have h2:rq P G.ts.length (G.tk z) k:=h2;show rq P G'.ts.length (G'.tk z) k;rw[e z bf];exact rq.imp h2 a
theorem afC{r:SW}(c:Cx l P bw ro G i W)(ty:Ty l iT r.1)(f:uN ro iT G r.1 W.hold)(a:r.2.stack=W.stack)(g:r.2.back=W.back)(o:r.2.id=W.id)(p:r.2.dq=W.dq)
  (q:W.cT≠ .m .start/\W.cT≠ .m .asks/\W.cT≠ .m .gone) (s:r.2.cT≠ .m .start) (e:∀y∈W.stack.tail,r.1.tk y=G.tk y) (u:∀y∈W.stack,r.1.K y=G.K y)
  (ct:r.1.err=0->cD l P bw iT r.1 r.2) (fl:r.1.err=0->EQ r.2) (fr:∀x,G.ts.length<=x->x<r.1.ts.length->OJ P r.1.ts.length (r.1.tk x)):rV l P bw ro iT G i W r:=by
 have t:=kL q.1;have e2:r.2.hold=W.hold:=by rw[kL s,a,t]
 refine⟨ty,f,⟨by rw[o];exact c.wt.id,c.wt.lt,by rw[p];exact c.wt.dq,?_,by rw[a];exact c.wt.dp,λx d=>?_,ct,fl,λx d=>?_,by rw[e2];exact c.wt.nd⟩,λx d=>D_ (by rw[<-e2];exact d),fr⟩
 .rw[a,g];have hb:=c.wt.bk;cases hs:W.stack with
  |nil=>rw[hs]at hb;cases j:W.back with
   |nil=>trivial
   |cons k b=>rw[j]at hb;exact hb.elim
  |cons y st=>rw[hs]at hb e;exact ay9 f.n e hb
 .have:=c.wt.hl x (by rw[<-e2];exact d);have:=f.n;omega
 .rw[e2]at d;have v:=c.wt.run x d;grind
def aCm(h:Ty l ro G)(b:∀y,y<G.ts.length->(G'.tk y).jI=(G.tk y).jI)(d:∀a r,k9 ro a r->r.JS->G'.M.get a=G.M.get a)(c:y<G.ts.length):G'.K y=G.K y:=by
 unfold Gl.K;rw[b y c,d _ _ (h.qh c).k trivial]
variable{r:SW}
def ER(c:Cx l P bw ro G i W)(ty:Ty l iT r.1)(k:iT=ro++m)(b:r.1.ts=G.ts)(n:r.1.C=G.C++mc)(f:∀a s,k9 ro a s->s.JS->r.1.M.get a=G.M.get a)
  (d:r.2.stack=W.stack) (e:r.2.back=W.back) (o:r.2.id=W.id) (p:r.2.dq=W.dq) (g:W.cT≠ .m .start/\W.cT≠ .m .asks/\W.cT≠ .m .gone) (q:r.2.cT≠ .m .start) (ct:r.1.err=0->cD l P bw iT r.1 r.2) (fl:r.1.err=0->EQ r.2):rV l P bw ro iT G i W r:=by
 have j:∀y,r.1.tk y=G.tk y:=λy=>by unfold Gl.tk;rw[b]
 refine afC c ty (adx (mt:=[]) c.ty k (by rw[b];simp) n f) d e o p g q (λy _=>j y) (λy t=>?_) ct fl λx u h2=>by rw[b]at h2;omega
 exact aCm c.ty (λz _=>by rw[j z]) f (c.wt.hl y (by rw[kL g.1];exact t))
theorem avP(c:Cx l P bw ro G i W)(p:W.stack≠ [])(ty:Ty l iT r.1)(J:iT=ro++m)(d:r.1.ts=G.ts.set (W.stack.headD 0) t')(D:r.1.C=G.C++mc)(t:∀a s,k9 ro a s->s.JS->r.1.M.get a=G.M.get a)
  (g:t'.l7=(G.tk (W.stack.headD 0)).l7) (h2:t'.own=(G.tk (W.stack.headD 0)).own) (u:t'.jI=(G.tk (W.stack.headD 0)).jI)
  (z:r.2.stack=W.stack) (A:r.2.back=W.back) (L:r.2.id=W.id) (N:r.2.dq=W.dq) (n:W.cT≠ .m .start/\W.cT≠ .m .asks/\W.cT≠ .m .gone) (O:r.2.cT≠ .m .start) (ct:r.1.err=0->cD l P bw iT r.1 r.2) (fl:r.1.err=0->EQ r.2):rV l P bw ro iT G i W r:=by
 obtain⟨x,st,e⟩:=kp p;have B:W.stack.headD 0=x:=by rw[e];rfl
 rw[B]at d g h2 u;have f:x∈W.hold:=by rw[kL n.1,e];simp
 have Q:=c.wt.hl x f;have j:=c.wt.nd;rw[kL n.1,e]at j;have F:r.1.ts.length=G.ts.length:=by rw[d];simp
 have R:∀y,y≠x->r.1.tk y=G.tk y:=λy b=>by unfold Gl.tk;rw[d,r0 (Ne.symm b)]
 have S:r.1.tk x=t':=by unfold Gl.tk;rw[d,uO Q];rfl
 have ids:∀y,y<G.ts.length->(r.1.tk y).l7=(G.tk y).l7/\(r.1.tk y).own=(G.tk y).own/\(r.1.tk y).jI=(G.tk y).jI:=λy b=>by
  grind
 have o:∀y,y<G.ts.length->r.1.K y=G.K y/\r.1.V y=G.V y:=λy b=>by
  have H:=c.ty.qh b;unfold Gl.K Gl.V;rw[(ids y b).2.2,t _ _ H.k trivial,t _ _ H.v trivial];exact⟨rfl,rfl⟩
 refine afC c ty ⟨⟨m,J⟩,af,λy b T=>?_,ids,⟨mc,D⟩,λy b q=>by rw[<-(o y b).1];exact q,λy b _ _=>o y b,λy b _=>o y b,λs ⟨nd,g,h2⟩=>?_⟩ z A L N n O (λy b=>?_) (λy b=>?_) ct fl λx g h2=>by omega
 .rw[d,r0 (by rintro rfl;exact T f)]
 .refine⟨nd,?_,by rw[t _ _ (JL c.ty g) trivial];exact h2⟩
  obtain⟨_,u,I⟩:=rM g;unfold nZ;rw[HK u,D,tJ (kB.1 I).1,I]
 .rw[e]at b;exact R y (by rintro rfl;exact(VN.1 j).1 b)
 .exact(o y (c.wt.hl y (by rw[kL n.1];exact b))).1
def ahE(c:Cx l P bw ro G i W)(e:W.waits=K_)(d:W'.bO=W.bO)(h2:W'.blocked=W.blocked):EQ W':=by
 obtain⟨a,b⟩:=c.fl.no e;rw[a]at d;rw[b]at h2;exact⟨λ_=>⟨d,h2⟩,λq=>by rw[d]at q;(cases q),λq=>by rw[d,h2]at q;rcases q with q|q<;>(cases q)⟩
def SI(c:Cx l P bw ro G i W)(b:W'.bO=W.bO)(h2:W'.blocked=W.blocked)(d:W'.again=W.again)(e:W'.waits=J_)(a:zk W'.cT=K_/\SF W'.cT=K_):EQ W':=
 ⟨λq=>by rw[e]at q;(cases q),λq=>by rw[d];exact c.fl.SG (by rw[<-b];exact q),λ_ q=>by rw[a.1,a.2]at q;rcases q with q|q<;>(cases q)⟩
variable{y:Int}
def Yh(c:1<=n)(b:0<=y/\y<n)(h:x=0\/x=8\/x=15):Cb l ro n i d (bu.B7 d l.log y x):=by
 unfold bu.B7;have a:sy 0:=⟨af,af⟩;exact⟨rfl,rfl,a,a,b,⟨bf,by simp;omega⟩,by dsimp only;omega,by dsimp only;rcases h with h|h|h<;>subst h<;>rfl,λq=>by dsimp only at q;omega,λ_=>rfl,λq=>by dsimp only at q;omega,λq=>by dsimp only at q;omega,λq=>by dsimp only at q;omega⟩
def O8.snoc(h:O8 mc s a)(b:nZ mc a=G_ nd)(c:0<=nd.parent)(d:nd.parent<mc.length):O8 mc s nd.parent:=by
 induction h with
 |refl _ _=>exact .up b (.refl c d)
 |up h2 _ ih=>exact .up h2 (ih b)
variable{tm:Int×List (Int×Int)}
def afD{pl:Pl}(h:Ty l ro G)(c:G.M.room 2=J_)(d:0<=nd.parent/\nd.parent<G.C.length)(i:0<=nd.nest/\nd.nest<=32)(g:nd.at_=(G.M.cells.length:Nat))
  (ck:CK tm) (Qn:∀y∈tm.2,y.2<G.C.length+1):Ty l (ro++[.ask G.C.length,.liv G.C.length]) {G with M:=(G.M.tick wk).grow 2,C:=G.C++[nd],P:=G.P++[pl],time:=tm}:=by
 have h2:=h.amg (wk:=wk) (m:=[.ask G.C.length,.liv G.C.length]) af rfl c (λr c=>by
  simp only[BP,List.not_mem_nil,or_false]at c;rcases c with rfl|rfl
  .exact D_ rfl
  .trivial)
 have f:(G.C++[nd]).length=G.C.length+1:=by simp
 refine{h2 with sc:=λs x hs=>?_,tk:=λy t j=>?_,c1:=by show 1<=(G.C++[nd]).length;omega,pl:=by show(G.P++[pl]).length=(G.C++[nd]).length;rw[f,uv,h.pl];rfl,ck:=ck,Qn:=by show∀y∈tm.2,y.2<(G.C++[nd]).length;rw[f];intro y o;have:=Qn y o;omega,cnt:= ?_}
 .have hs:(G.C++[nd])[s]?=G_ x:=hs;by_cases e:s<G.C.length
  .rw[tJ e]at hs;have:=h.sc s x hs;exact{this with a:=this.a.qT,b:=this.b.qT}
  .have u:=(kB.1 hs).1;have e2:s=G.C.length:=af;subst e2;rw[u0 af]at hs;simp at hs;subst hs;refine⟨k9.new (k:=0) rfl (by rw[g,h.len];rfl),k9.new (k:=1) rfl (by rw[g,h.len];omega),i,λ_=>d,λq=>by have:=h.c1;omega⟩
 .have:=h.tk y t j;show Ux _ (G.C++[nd]).length y t;rw[f];exact{this with k:=this.k.qT,v:=this.v.qT,w:=this.w.qT,inn:=⟨this.inn.1,by have:=this.inn.2;omega⟩,own:=⟨this.own.1,by have:=this.own.2;omega⟩,cJ:=λp d=>⟨(this.cJ p d).1,by have:=(this.cJ p d).2;omega⟩,sl:=by have:=this.sl;omega}
 .show 2*(G.C++[nd]).length+3*G.ts.length<=((G.M.tick wk).grow 2).cells.length;have:=Tf (M:=G.M.tick wk) (n:=2) af;simp only[SD]at this;have:=h.cnt;omega
variable{T:List Kt}{p:Int}
def adB:(Hz T p).length=T.length+1:=by unfold Hz;split<;>simp
variable{t:Kt}
theorem afE(h:GV T p=G_ t)(j:Nat):(Hz T p)[j]?=if j=T.length then G_ ⟨p,t.kids.length,[]⟩else if j=p.toNat then G_ {t with kids:=t.kids++[(T.length:Int)]}else T[j]?:=by
 obtain⟨_,b,a⟩:=xP h;have c:=(kB.1 a).1;unfold Hz;grind
theorem aqs(b:acI T)(h:GV T p=G_ t):acI (Hz T p):=by
 obtain⟨_,d,c⟩:=xP h;have f:=(kB.1 c).1;intro j y a;rw[afE h]at a;split at a
 .grind
 .split at a
  .rename_i e;subst e;cases a;exact b _ t c
  .exact b j y a
theorem aj3(b:∀(i:Nat) x,T[i]?=G_ x->x.kids.length<=T.length)(h:GV T p=G_ t):∀(i:Nat) x,(Hz T p)[i]?=G_ x->x.kids.length<=(Hz T p).length:=by
 obtain⟨_,c,d⟩:=xP h;intro j y a;rw[adB];rw[afE h]at a;grind
def avQ{f:List Int}{kt:Kt}(h:Ty l ro G)(g:G.M.room 3=J_)(d:GV G.T parent=G_ kt)(hi:0<=l7/\l7<G.C.length)(j:0<=z/\z<G.C.length):
  Ty l (ro++[.fk G.ts.length,.fv G.ts.length,.fw G.ts.length]) (G.more wk parent l7 z f):=by
 have h2:=h.amg (wk:=wk) (m:=[.fk G.ts.length,.fv G.ts.length,.fw G.ts.length]) af rfl g (λr g=>by
  simp only[BP,List.not_mem_nil,or_false]at g;rcases g with rfl|rfl|rfl
  .exact⟨af,af⟩
  .trivial
  .trivial)
 unfold Gl.more;have o:=h.c1;generalize i:(⟨(G.T.length:Nat),l7,z,(G.M.cells.length:Nat),f,Oq #[],[],[z],0,0⟩:Tk)=c;have p:(G.ts++[c]).length=G.ts.length+1:=by simp
 refine{h2 with val:=λa r q=>?_,tk:=λy t b=>?_,t1:=by show 1<=(G.ts++[c]).length;omega,pl:=by show(List.set _ _ _).length=_;rw[VJ];exact h.pl,kt:=aqs h.kt d,kl:=by show(Hz G.T parent).length=(G.ts++[c]).length;rw[adB,p,h.kl],kk:=aj3 h.kk d,cnt:= ?_}
 .show EO l _ (G.ts++[c]).length r (((G.M.tick wk).grow 3).get a);have s:EO l _ G.ts.length r (((G.M.tick wk).grow 3).get a):=h2.val a r q;have:=EO.qT (m:=[]) s (by omega:G.ts.length<=(G.ts++[c]).length)
  rwa[n_]at this
 .have b:(G.ts++[c])[y]?=G_ t:=b;by_cases e:y<G.ts.length
  .rw[tJ e]at b;have:=h.tk y t b;exact{this with k:=this.k.qT,v:=this.v.qT,w:=this.w.qT}
  .have u:=(kB.1 b).1;have e2:y=G.ts.length:=af;subst e2;rw[u0 af]at b;simp at b;subst b;subst i;refine⟨by show((G.T.length:Nat):Int)=_;rw[h.kl],k9.new (k:=0) rfl (by show((G.M.cells.length:Nat):Int)=_;rw[h.len];rfl),k9.new (k:=1) rfl (by show((G.M.cells.length:Nat):Int)+1=_;rw[h.len];omega),k9.new (k:=2) rfl (by show((G.M.cells.length:Nat):Int)+2=_;rw[h.len];omega),hi,j,bf,li 1,gq o⟩
 .show 2*G.C.length+3*(G.ts++[c]).length<=((G.M.tick wk).grow 3).cells.length;have:=Tf (M:=G.M.tick wk) (n:=3) af;simp only[SD]at this;have:=h.cnt;omega
structure Nx (l:Lc) (P:List dB) (bw:List Int) (ro:List Ro) (G:Gl) (W W':Wk):Prop where
 st:W'.stack=W.stack
 bk:W'.back=W.back
 id:W'.id=W.id
 dq:W'.dq=W.dq
 ns:W'.cT≠ .m .start
 ct:cD l P bw ro G W'
 fl:EQ W'
def oY(a:W'.bO=K_)(h2:W'.blocked=K_):EQ W':=
 ⟨λ_=>⟨a,h2⟩,λq=>by rw[a]at q;(cases q),λq=>by rw[a,h2]at q;rcases q with q|q<;>(cases q)⟩
def aaw(h:EQ W)(b:W'.bO=W.bO)(h2:W'.blocked=W.blocked)(c:W'.again=W.again)(d:W'.waits=J_)(a:zk W'.cT=K_/\SF W'.cT=K_):EQ W':=
 ⟨λq=>by rw[d]at q;(cases q),λq=>by rw[c];exact h.SG (by rw[<-b];exact q),λ_ q=>by rw[a.1,a.2]at q;rcases q with q|q<;>(cases q)⟩
def aqt(c:W.id<16)(hs:W.stack=[])(b:W.wait.how=1)(a:W.bO=K_)(h2:W.blocked=K_):Nx l P bw ro G W (y5 l G W).2/\(y5 l G W).1=G:=by
 unfold y5;dsimp only;refine⟨?_,rfl⟩;split
 .exact⟨rfl,rfl,rfl,rfl,by simp[Wk.go],by unfold cD Wk.go;exact hs,oY a h2⟩
 split
 .exact⟨rfl,rfl,rfl,rfl,bf,by unfold cD;exact⟨hs,b,_,rfl,by unfold SpT jH.B7;exact⟨bf,c,bf⟩⟩,oY a h2⟩
 .exact⟨rfl,rfl,rfl,rfl,by simp[Wk.go],by unfold cD Wk.go;exact⟨hs,b⟩,oY a h2⟩
theorem rC.cases(h:rC P G W):(∃y,W.again= .aw y/\W.target=G_ y/\rq P G.ts.length (G.tk (W.stack.headD 0)) (.aw y))\/(∃k,W.again= .sh k/\W.target=H_/\W.qc=k/\rq P G.ts.length (G.tk (W.stack.headD 0)) (.sh k)):=by
 obtain⟨a,h2,b⟩:=h;grind
def rC.of(h:rC P G W)(d:W'.stack=W.stack)(h2:W'.again=W.again)(e:W'.target=W.target)(f:W'.qc=W.qc):rC P G W':=by
 obtain⟨a,b,c⟩:=h;exact⟨by rw[d];exact a,by rw[d,h2];exact b,by rw[h2,e,f];exact c⟩
def aj4(b:rC P G W)(e:W.wait.how=1)(hf:EQ W)(f:W.waits=J_):Nx l P bw ro G W (nothing G W).2/\(nothing G W).1=G:=by
 unfold nothing;dsimp only;refine⟨?_,rfl⟩;split
 .have ct:cD l P bw ro G {W with cT:=W.again}:=by
   rcases b.cases with⟨y,a,h2,c⟩|⟨k,a,h2,c,d⟩
   .unfold cD;rw[a];exact⟨b.ne,c⟩
   .unfold cD;rw[a];exact⟨b.ne,d⟩
  refine⟨rfl,rfl,rfl,rfl,?_,ct,?_⟩
  .rcases b.cases with⟨y,a,_⟩|⟨k,a,_⟩<;>dsimp only<;>rw[a] <;>simp
  .refine⟨λq=>?_,hf.SG,λ_ _=>rfl⟩;rcases b.cases with⟨y,a,_⟩|⟨k,a,_⟩<;>unfold Wk.waits at q<;>dsimp only at q<;>rw[a]at q<;>cases q
 split
 .rename_i hb;have hb:W.target.isSome=true:=by simp at hb;exact hb.1
  refine⟨rfl,rfl,rfl,rfl,by simp[Wk.go],?_,aaw hf rfl rfl rfl rfl ⟨rfl,rfl⟩⟩
  unfold cD Wk.go;refine⟨b.of rfl rfl rfl rfl,?_⟩;rcases b.cases with⟨y,a,_⟩|⟨k,a,h2,_⟩
  .dsimp only;rw[a];rfl
  .rw[h2]at hb;cases hb
 split
 .exact⟨rfl,rfl,rfl,rfl,bf,by unfold cD;exact b.of rfl rfl rfl rfl,aaw hf rfl rfl rfl rfl ⟨rfl,rfl⟩⟩
 .exact⟨rfl,rfl,rfl,rfl,bf,by unfold cD;exact⟨b.of rfl rfl rfl rfl,_,rfl,by unfold SpT jH.B7;simp⟩,aaw hf rfl rfl rfl rfl ⟨rfl,rfl⟩⟩
variable{t:Tk}
theorem Wc(e:1<=G.ts.length)(p:W.id=i)(k:i<16)(c:Dx l P G W)(g:EQ W)(n:W.none_= .m .nothing->W.waits=J_)(h2:W.stack=[]->W.bO=K_/\W.blocked=K_):
  Nx l P bw ro G W (KR l G W t bw).2/\(KR l G W t bw).1=G:=by
 unfold KR;cases hl:W.left with
 |nil=>
  dsimp only;unfold alM;rcases c.what with⟨a,d,a3,b⟩|⟨a,d,a3,b⟩
  .rw[HK b];exact aqt af a c.how (h2 a).1 (h2 a).2
  .rw[HQ (by rw[b];simp)];exact aj4 a c.how g (n b)
 |cons j r=>
  dsimp only;have q:=c.left j (by rw[hl];simp)
  refine⟨⟨rfl,rfl,rfl,rfl,by simp[Wk.A6],?_,?_⟩,rfl⟩
  .unfold cD Wk.A6;refine⟨_,rfl,⟨c.how,λo f=>c.left o (by rw[hl];simp[f]),?_⟩,⟨j.toNat,af,?_,Yh e ⟨af,af⟩ af,rfl⟩,by show 15<=18;omega⟩
   .rcases c.what with⟨a,d,a3,b⟩|⟨a,d,a3,b⟩
    .exact D_ ⟨a,d,a3,b⟩
    .exact E_ ⟨a.of rfl rfl rfl rfl,d,a3,b⟩
   .grind
  .rcases c.what with⟨a,d,a3,b⟩|⟨a,d,a3,b⟩
   .exact oY (h2 a).1 (h2 a).2
   .exact aaw g rfl rfl rfl (by unfold Wk.waits Wk.A6;dsimp only;rw[b];rfl) ⟨rfl,rfl⟩
def aj5(a:t.id=((W.stack.headD 0:Nat):Int))(b:rC P G W)(c:W.wait.how=1)(d:EQ W):Nx l P bw ro G W (vQ G W t).2/\(vQ G W t).1=G:=by
 unfold vQ;dsimp only;refine⟨⟨rfl,rfl,rfl,rfl,by simp[Wk.search],?_,aaw d rfl rfl rfl rfl ⟨rfl,rfl⟩⟩,rfl⟩
 unfold cD Wk.search;exact⟨c,bf,E_ ⟨b.of rfl rfl rfl rfl,by dsimp only;rw[a],rfl,rfl⟩⟩
def SJ(a:rC P G W)(b:EQ W)(d:match k with
  | .m .cancelled=>zk W.again=J_/\SE G (G.tk (W.stack.headD 0))
  | .V2 y k=>y<G.ts.length/\k=W.again
  | .BR y k=>(0<=y/\y<G.ts.length)/\k=W.again
  | .c .IF=>zk W.again=J_/\W.kind=G.K (W.target.getD 0)/\2<=W.kind
  | .c .Co=>W.again= .sh (.c .Co)
  | .c .qI=>W.again= .sh (.c .qI)
  |_=>False):Nx l P bw ro G W (W.stop k):=by
 refine⟨rfl,rfl,rfl,rfl,by simp[Wk.stop],?_,aaw b rfl rfl rfl rfl ⟨rfl,rfl⟩⟩
 unfold cD Wk.stop;exact⟨a.of rfl rfl rfl rfl,λ_ o e=>by(cases e),d⟩
def afF(a:rC P G W)(b:EQ W)(c:0<=y/\y<G.ts.length):Nx l P bw ro G W (BQ G W y).2/\(BQ G W y).1=G:=by
 unfold BQ;exact⟨SJ a b ⟨c,rfl⟩,rfl⟩
def SK(a:W.bO=K_)(h2:W.blocked=K_)(b:0<=y/\y<G.ts.length)(c:EP P G W.stack k):Nx l P bw ro G W (W.HE y k):=
 ⟨rfl,rfl,rfl,rfl,by simp[Wk.HE],by unfold cD Wk.HE;exact⟨b,c⟩,oY a h2⟩
def aax(d:t.id=((W.stack.headD 0:Nat):Int))(a:rC P G W)(b:EQ W)(f:zk W.again=J_->W.dK= .m .vQ/\W.wait.how=1)(h2:SF W.again=J_->W.dK= .c .Db):Nx l P bw ro G W (dK G W t).2/\(dK G W t).1=G:=by
 unfold dK;rcases a.cases with⟨y,e,_⟩|⟨k,e,_⟩
 .have:=f (by rw[e];rfl)
  rw[HK this.1];exact aj5 d a this.2 b
 .have:=h2 (by rw[e];rfl)
  rw[HQ (by rw[this];simp)]
  refine⟨⟨rfl,rfl,rfl,rfl,by simp[Wk.go],?_,aaw b rfl rfl rfl rfl ⟨rfl,rfl⟩⟩,rfl⟩
  unfold cD Wk.go;exact⟨a.of rfl rfl rfl rfl,by dsimp only;rw[e];rfl⟩
def Yi(a:W.stack≠ [])(b:rq P G.ts.length (G.tk (W.stack.headD 0)) (.sh k))(c:W.bO=K_)(d:W.blocked=J_->W.again= .sh k):Nx l P bw ro G W (shut W k t):=by
 refine⟨rfl,rfl,rfl,rfl,by simp[shut,Wk.drain],?_,?_⟩
 .unfold cD shut Wk.drain;exact⟨⟨a,b,rfl,rfl⟩,λq=>by(cases q),λ_=>rfl⟩
 .exact⟨λq=>by unfold Wk.waits shut Wk.drain at q;(cases q),λq=>by rw[show(shut W k t).bO=W.bO from rfl,c]at q;(cases q),λ_ q=>by rcases q with q|q<;>(cases q)⟩
theorem OL(a:W.stack≠ [])(d:G.tk (W.stack.headD 0)=t)(e:Ends t)(b:W.bO=K_)(h2:W.blocked=K_):Nx l P bw ro G W (unwind W t):=by
 unfold unwind;split
 .rename_i c;refine⟨rfl,rfl,rfl,rfl,by simp[Wk.go],?_,oY b h2⟩
  unfold cD Wk.go;grind
 .rename_i c;exact Yi a (by rw[d];exact⟨e,λq=>c (by rw[q];rfl)⟩) b (λq=>by rw[h2]at q;cases q)
abbrev eB(W:Wk):Prop:=W.cT≠ .m .start/\W.cT≠ .m .asks/\W.cT≠ .m .gone
variable{W1:Wk}
def ahF(c:Cx l P bw ro G i W)(ty:Ty l iT r.1)(f:iT=ro++m)(d:r.1.ts=G.ts)(g:r.1.C=G.C++mc)(j:∀a s,k9 ro a s->s.JS->r.1.M.get a=G.M.get a)
  (k:eB W) (b:W1.stack=W.stack/\W1.back=W.back/\W1.id=W.id/\W1.dq=W.dq) (nx:r.1.err=0->Nx l P bw iT r.1 W1 r.2) (hs:r.2.stack=W1.stack/\r.2.back=W1.back/\r.2.id=W1.id/\r.2.dq=W1.dq/\r.2.cT≠ .m .start):rV l P bw ro iT G i W r:=
 ER c ty f d g j (by rw[hs.1,b.1]) (by rw[hs.2.1,b.2.1]) (by rw[hs.2.2.1,b.2.2.1]) (by rw[hs.2.2.2.1,b.2.2.2]) k hs.2.2.2.2 (λe=>(nx e).ct) (λe=>(nx e).fl)
def tr(c:Cx l P bw ro G i W)(b:r.1=G\/r.1=G.tick W.id)(d:eB W)(f:W1.stack=W.stack/\W1.back=W.back/\W1.id=W.id/\W1.dq=W.dq)(nx:Nx l P bw ro r.1 W1 r.2):rV l P bw ro ro G i W r:=by
 have ty:Ty l ro r.1:=by rcases b with e|e<;>rw[e];exact c.ty;exact c.ty.tick _
 refine ahF (m:=[]) (mc:=[]) c ty bf ?_ ?_ (λa s _ _=>?_) d f (λ_=>nx) ⟨nx.st,nx.bk,nx.id,nx.dq,nx.ns⟩
 .rcases b with e|e<;>rw[e];rfl
 .rcases b with e|e<;>rw[e,n_];rfl
 .rcases b with e|e<;>rw[e];rfl
def Cx.tt(c:Cx l P bw ro G i W):Ty l ro (G.tick W.id):=c.ty.tick _
def aza(c:Cx l P bw ro G i W)(a:W.cT= .m .rest):rV l P bw ro ro G i W (rest l G W):=by
 have ct:=c.ct;unfold cD at ct;rw[a]at ct;dsimp only at ct;refine tr c (E_ rfl) (by rw[eB,a];decide) ⟨rfl,rfl,rfl,rfl⟩ ⟨rfl,rfl,rfl,rfl,by simp[rest,Wk.A6],?_,ahE c (by unfold Wk.waits;rw[a]) rfl rfl⟩
 unfold cD rest Wk.A6;exact⟨_,rfl,ct,rfl,Yh c.ty.t1 ⟨af,by have:=c.ty.t1;show(0:Int)<G.ts.length;omega⟩ af,rfl⟩
def azb(c:Cx l P bw ro G i W)(d:W.cT= .m .tell):rV l P bw ro ro G i W (OE l G W):=by
 have ct:=c.ct;unfold cD at ct;rw[d]at ct;dsimp only at ct;have f:=c.fl.no (by unfold Wk.waits;rw[d])
 have ty:Ty l ro (OE l G W).1:=c.ty.ad c.ty.told trivial;have b:cD l P bw ro (OE l G W).1 (OE l G W).2/\W.said≠ .m .start:=by
  unfold OE cD;dsimp only;unfold EP at ct;cases hs:W.stack with
  |nil=>rw[hs]at ct;dsimp only at ct;rw[ct];exact⟨rfl,bf⟩
  |cons y st=>
   rw[hs]at ct;dsimp only at ct;have a:=ct;unfold rq at ct;split at ct
   .rename_i e;rw[e];exact⟨⟨bf,ct⟩,bf⟩
   iterate 3 rename_i e;rw[e];rw[e]at a;exact⟨⟨bf,a⟩,bf⟩
   .exact ct.elim
 exact ER (m:=[]) c ty bf rfl (by rw[n_];rfl) (xK c.ty rfl c.ty.told (λq=>q)) rfl rfl rfl rfl (by rw[d];decide) b.2 (λ_=>b.1) (λ_=>oY f.1 f.2)
def aCo(c:Cx l P bw ro G i W)(a:W.cT= .m .So):rV l P bw ro ro G i W (So l G W):=by
 have ct:=c.ct;unfold cD at ct;rw[a]at ct;dsimp only at ct;exact ER (m:=[]) c (c.ty.ad c.ty.idle trivial) bf rfl (by rw[n_];rfl) (xK c.ty rfl c.ty.idle (λq=>q)) rfl rfl rfl rfl (by rw[a];decide) (by simp[So]) (λ_=>by unfold cD So;exact ct.1) (λ_=>ahE c (by unfold Wk.waits;rw[a]) rfl rfl)
def azc(c:Cx l P bw ro G i W)(a:W.cT= .m .JA):rV l P bw ro ro G i W (JA l G W):=by
 have ct:=c.ct;unfold cD at ct;rw[a]at ct;dsimp only at ct;exact ER (m:=[]) c (c.ty.ad c.ty.idle trivial) bf rfl (by rw[n_];rfl) (xK c.ty rfl c.ty.idle (λq=>q)) rfl rfl rfl rfl (by rw[a];decide) (by simp[JA]) (λ_=>by unfold cD JA;exact ct) (λ_=>ahE c (by unfold Wk.waits;rw[a]) rfl rfl)
def azd(e:0<=a/\a<65536)(f:0<=p/\p<16):0<=JV B_ a (sD B_ 1 p)/\JV B_ a (sD B_ 1 p)<65536:=by
 obtain⟨x,rfl⟩:=ke e.1;obtain⟨y,rfl⟩:=ke f.1;have hs:∀y:Nat,y<16->sD B_ 1 (y:Int)=((2 ^ y:Nat):Int):=e7;rw[hs y af];have c:∀a b:Int,JV B_ a b=IntKind.i64.wrap ((BitVec.ofInt 64 a ^^^ BitVec.ofInt 64 b).toNat:Nat):=λ_ _=>rfl;rw[c,Ja,Ja,BitVec.toNat_xor,J',J'];have d:2 ^ y<2 ^ 16:=Nat.pow_lt_pow_right af af;rw[Nat.mod_eq_of_lt af,Nat.mod_eq_of_lt af];have g:x ^^^ 2 ^ y<2 ^ 16:=Nat.xor_lt_two_pow af d;rw[dh ⟨af,af⟩];omega
structure SpR (l:Lc) (ro:List Ro) (G:Gl) (wk:Int) (r:jH×bJ):Prop where
 ty:Ty l ro (G.mem r.2)
 sp:SpT r.1
 JS:∀a s,k9 ro a s->s.JS->r.2.get a=G.M.get a
def amj:XW x 16<16:=by
 unfold XW;split
 .split
  .omega
  .rename_i h;unfold Wg at h;split at h<;>omega
 .omega
variable{o:jH}
theorem amk(h:Ty l ro G)(c:SpT o):SpR l ro G wk (o.go l.sp G.M wk):=by
 obtain⟨d,hs,b⟩:=c;have hb:=h.val _ _ h.OI;have a:∀r:Ro,(r= .Ye\/r= .OI)->¬r.JS:=λr q=>by rcases q with rfl|rfl<;>exact λq=>q
 unfold jH.go;split
 .rename_i e;exact⟨h,⟨d,hs,b⟩,λ_ _ _ _=>rfl⟩
 .unfold jH.more;exact⟨h.ad h.Ye trivial,⟨bf,hs,bf⟩,xK h rfl h.Ye (a _ (D_ rfl))⟩
 .unfold jH.less;exact⟨h.ad h.Ye trivial,⟨bf,hs,bf⟩,xK h rfl h.Ye (a _ (D_ rfl))⟩
 .unfold jH.look;exact⟨h.tick wk,⟨bf,hs,bf⟩,λ_ _ _ _=>rfl⟩
 .unfold jH.need;refine⟨h.tick wk,?_,λ_ _ _ _=>rfl⟩;dsimp only;split
  .exact⟨bf,amj,λ_=>hb⟩
  .exact⟨bf,hs,bf⟩
 .unfold jH.many;refine⟨h.tick wk,?_,λ_ _ _ _=>rfl⟩;dsimp only;split
  .exact⟨bf,hs,λ_=>hb⟩
  .exact⟨bf,hs,bf⟩
 .rename_i n0 g i j k m;unfold jH.aeR;have f:o.next=6:=by
   grind
  refine⟨?_,?_,?_⟩
  .exact h.cs h.OI (azd (b f) (by unfold ZR;constructor<;>split<;>omega))
  .dsimp only;split<;>exact⟨bf,hs,bf⟩
  .dsimp only;unfold bJ.cs;split
   .exact xK h rfl h.OI (a _ (E_ rfl))
   .exact λ_ _ _ _=>rfl
def Cx.an8(c:Cx l P bw ro G i W):i<16/\W.id<16/\0<=W.id:=by have:=c.wt.lt;have:=c.lc.w16;have:=c.wt.id;omega
theorem aqu(c:Cx l P bw ro G i W)(a:W.cT= .m .xn)(hs:W.step=G_ o):rV l P bw ro ro G i W (xn l G W o):=by
 have ct:=c.ct;unfold cD at ct;rw[a]at ct;dsimp only at ct;obtain⟨b,h2,o',d,f⟩:=ct;rw[hs]at d;cases d;have hr:=amk (wk:=W.id) c.ty f;have e:=c.fl.no (by unfold Wk.waits;rw[a])
 unfold xn;dsimp only;generalize o.go l.sp G.M W.id=r at hr ⊢;refine ER (m:=[]) c hr.ty bf rfl (by rw[n_];rfl) hr.JS (by dsimp only;split<;>rfl) (by dsimp only;split<;>rfl) (by dsimp only;split<;>rfl) (by dsimp only;split<;>rfl) (by rw[a];decide) ?_ (λ_=>?_) (λ_=>?_)
 .grind
 .split
  .dsimp only;split
   .unfold cD;exact b
   .unfold cD;exact⟨b,h2⟩
  .unfold cD;dsimp only;rw[a];exact⟨b,h2,_,rfl,hr.sp⟩
 .dsimp only;split<;>exact oY e.1 e.2
def avS(c:Cx l P bw ro G i W)(a:W.cT= .m .block)(hs:W.step=G_ o):rV l P bw ro ro G i W (block l G W o):=by
 have ct:=c.ct;unfold cD at ct;rw[a]at ct;dsimp only at ct;obtain⟨b,o',f,k⟩:=ct;rw[hs]at f;cases f;have hr:=amk (wk:=W.id) c.ty k;unfold block;dsimp only;generalize o.go l.sp G.M W.id=r at hr ⊢;have e:(G.mem r.2).ts=G.ts:=rfl;have d:rC P (G.mem r.2) W:=⟨b.ne,b.hm,b.tg⟩;refine ER (m:=[]) c hr.ty bf rfl (by rw[n_];rfl) hr.JS (by dsimp only;split<;>rfl) (by dsimp only;split<;>rfl) (by dsimp only;split<;>rfl) (by dsimp only;split<;>rfl) (by rw[a];decide) ?_ (λ_=>?_) (λ_=>?_)
 .split
  .rcases b.cases with⟨y,q,_⟩|⟨y,q,_⟩<;>dsimp only<;>rw[q] <;>simp
  .rw[a];simp
 .dsimp only;split
  .rcases d.cases with⟨y,q,_,g⟩|⟨y,q,_,_,g⟩<;>unfold cD<;>dsimp only<;>rw[q] <;>exact⟨d.ne,g⟩
  .unfold cD;dsimp only;rw[a];exact⟨d.of rfl rfl rfl rfl,_,rfl,hr.sp⟩
 .dsimp only;split
  .refine⟨λq=>?_,c.fl.SG,λ_ _=>rfl⟩;rcases d.cases with⟨y,j,_⟩|⟨y,j,_⟩<;>unfold Wk.waits at q<;>dsimp only at q<;>rw[j]at q<;>cases q
  .exact SI c rfl rfl rfl (by unfold Wk.waits;dsimp only;rw[a]) (by dsimp only;rw[a];exact⟨rfl,rfl⟩)
def Cx.tid(c:Cx l P bw ro G i W)(h:W.stack≠ []):(G.tk (W.stack.headD 0)).id=((W.stack.headD 0:Nat):Int):=(c.ty.qh (c.top h).2).id
theorem aj6{m:List Int}:∀j∈VU v m,j∈m:=by
 intro j a;unfold VU at a;grind
def afG{self:Int}:∀j∈xI self p d n,0<=j/\j<n/\j≠self:=by
 intro j a;unfold xI at a;obtain⟨k,b,rfl⟩:=C6.1 a;obtain⟨c,h2⟩:=C5.1 b;have:=List.mem_range.1 c;refine⟨by show 0<=((k:Nat):Int);omega,by show((k:Nat):Int)<n;omega,λe=>?_⟩
 have e:((k:Nat):Int)=self:=e;unfold aaj at h2;simp[e]at h2
def aqv(c:Cx l P bw ro G i W)(d:W.cT= .m .others):rV l P bw ro ro G i W (others l G W t bw):=by
 have ct:=c.ct;unfold cD at ct;rw[d]at ct;dsimp only at ct;have ty:Ty l ro {G.tick W.id with D:=G.D.tail}:={c.tt with dr:=by have:=c.ty.dr;show G.D.tail.length<=_;rw[List.length_tail];omega}
 unfold others;have f:Dx l P {G.tick W.id with D:=G.D.tail} {W with left:=VU (G.D.headD 0) (xI W.id (l.sp.bits G.M) (G.M.get l.idle) l.wa.length)}:=by
  refine⟨ct.how,λj g=>afG j (aj6 j g),?_⟩;rcases ct.what with⟨a,b⟩|⟨a,b⟩
  .exact D_ ⟨a,b⟩
  .exact E_ ⟨⟨a.ne,a.hm,a.tg⟩,b⟩
 have k:W.none_= .m .nothing->W.waits=true:=λq=>by unfold Wk.waits;rw[d];dsimp only;rw[q];rfl
 have nx:=Wc (bw:=bw) (ro:=ro) (t:=t) ty.t1 c.wt.id c.an8.1 f (W:={W with left:=VU (G.D.headD 0) (xI W.id (l.sp.bits G.M) (G.M.get l.idle) l.wa.length)}) ⟨λq=>c.fl.no q,c.fl.SG,c.fl.ag⟩ k (λq=>?_)
 .refine ahF (m:=[]) (W1:={W with left:=VU (G.D.headD 0) (xI W.id (l.sp.bits G.M) (G.M.get l.idle) l.wa.length)}) c (by rw[nx.2];exact ty) bf (by rw[nx.2];rfl) (by rw[nx.2,n_];rfl) (λ_ _ _ _=>by rw[nx.2];rfl) (by rw[eB,d];decide) ⟨rfl,rfl,rfl,rfl⟩ (λ_=>by rw[nx.2];exact nx.1) ⟨nx.1.st,nx.1.bk,nx.1.id,nx.1.dq,nx.1.ns⟩
 .refine c.fl.no ?_;rcases ct.what with⟨a,b,a3,e⟩|⟨a,b⟩
  .have e:W.none_= .m .y5:=e;unfold Wk.waits;rw[d];dsimp only;rw[e];rfl
  .exact absurd q a.ne
def Yj{m:Nat}(h:0<=O.got/\O.got<m)(a:1<=m):0<=O.tell/\O.tell<m:=by
 unfold bu.tell;split
 .exact h
 .omega
def Dx.of(h:Dx l P G W)(f:G'.ts=G.ts)(d:W'.stack=W.stack)(h2:W'.again=W.again)(g:W'.target=W.target)(i:W'.qc=W.qc)(j:W'.wait=W.wait)(k:W'.left=W.left)(m:W'.id=W.id)(n:W'.fits=W.fits)(o:W'.got=W.got)(e:W'.none_=W.none_):Dx l P G' W':=by
 refine⟨by rw[j];exact h.how,by rw[k,m];exact h.left,?_⟩
 rw[d,g,n,o,e];refine h.what.imp id λq=>⟨?_,q.2⟩;obtain⟨a,b,c⟩:=q.1;refine⟨by rw[d];exact a,?_,by rw[h2,g,i];exact c⟩
 have:G'.tk (W.stack.headD 0)=G.tk (W.stack.headD 0):=by unfold Gl.tk;rw[f]
 rw[d,h2,f,this];exact b
def avT(a:W.cT= .m .pF)(h2:W.op=G_ O)(hi:W.id.toNat=i)(h:match W.after with
  | .c .F9=>W.stack=[]/\W.wait.how=1/\Cb l ro G.ts.length i W.dq O/\O.kind=1
  | .c .um=>W.stack≠ []/\BT P G.ts.length (G.tk (W.stack.headD 0))/\(0<=W.jq/\W.jq<G.ts.length)/\Cb l ro G.ts.length i W.dq O/\O.kind=0
  | .c .td=>rC P G W/\(zk W.again=J_->W.dK= .m .vQ/\W.wait.how=1)/\(SF W.again=J_->W.dK= .c .Db)/\Cb l ro G.ts.length i W.dq O/\O.kind=1
  | .m .Uv=>Dx l P G W/\(∃u,u<l.wa.length/\u≠i/\Cb l ro G.ts.length u (bw.getD u 0) O/\O.kind=2)/\O.next<=18
  | .m .AL=>Dx l P G W/\(∃u,u<l.wa.length/\u≠i/\Cb l ro G.ts.length u (bw.getD u 0) O/\O.kind=2)/\O.next=19
  |_=>False):cD l P bw ro G W:=by
 unfold cD;dsimp only;rw[a];dsimp only;subst hi;exact⟨O,h2,h⟩
theorem aml(c:Cx l P bw ro G i W)(hdl:bw.length=l.wa.length)(g:W.cT= .m .pF)(R:W.op=G_ O)(ht:t=G.tk (W.stack.headD 0)):∃iT,rV l P bw ro iT G i W (pF l G W O t bw G.vJ)/\True:=by
 have ct:=c.ct;unfold cD at ct;rw[g]at ct;dsimp only at ct;obtain⟨O',I,ct⟩:=ct;rw[R]at I;cases I;have S:eB W:=by rw[eB,g];decide
 have B:=c.idn;rw[B]at ct;have main:∀(u:Nat) (d:Int),ZH ro u d->Cb l ro G.ts.length u d O->(∀(iT:List Ro) (r:bu×bJ),OpR l ro iT G W.id u d O r->(r.1.how=0->cD l P bw iT (G.mem r.2) {W with op:=G_ r.1})/\(r.1.how≠0->r.1.how≠6->Nx l P bw iT (G.mem r.2) {W with op:=G_ r.1} (zj l (G.mem r.2) {W with op:=G_ r.1} t bw G.vJ r.1.how).2/\(zj l (G.mem r.2) {W with op:=G_ r.1} t bw G.vJ r.1.how).1=G.mem r.2))->∃iT,rV l P bw ro iT G i W (pF l G W O t bw G.vJ)/\True:=by
  intro u d hd hO T;obtain⟨iT,b⟩:=aj2 c.lg c.ty hd c.caller hO;obtain⟨Y,Z⟩:=T iT _ b;refine⟨iT,?_,trivial⟩;have N:∀a s,k9 ro a s->s.JS->(O.step G.M W.id).2.get a=G.M.get a:=λa s hs hp=>b.same a s hs (by cases s<;>first|exact hp.elim|exact λq=>q)
  obtain⟨m,F,_⟩:=b.ext;unfold pF;dsimp only;generalize O.step G.M W.id=r at b Y Z N ⊢;split
  .rename_i e;exact ER c b.ty F rfl (by rw[n_];rfl) N rfl rfl rfl rfl S (by dsimp only;rw[g];simp) (λ_=>Y e) (λ_=>⟨λq=>c.fl.no q,c.fl.SG,c.fl.ag⟩)
  split
  .rename_i e0 e;have J:=b.err e;exact ER c {b.ty with} F rfl (by rw[n_];rfl) N rfl rfl rfl rfl S (by dsimp only;rw[g];simp) (λq=>absurd q J) (λq=>absurd q J)
  .rename_i e0 H;obtain⟨nx,e⟩:=Z e0 H;exact ahF (W1:={W with op:=G_ r.1}) c (by rw[e];exact b.ty) F (by rw[e];rfl) (by rw[e,n_];rfl) (λa s h1 h2=>by rw[e];exact N a s h1 h2) S ⟨rfl,rfl,rfl,rfl⟩ (λ_=>by rw[e];exact nx) ⟨nx.st,nx.bk,nx.id,nx.dq,nx.ns⟩
 have k:=c.ty.t1;have vK:∀h:W.stack≠ [],t.id=((W.stack.headD 0:Nat):Int):=λh=>by rw[ht];exact c.tid h
 have Q:∀(r:bu×bJ),rC P G W->rC P (G.mem r.2) {W with op:=G_ r.1}:=λr q=>⟨q.ne,q.hm,q.tg⟩
 have K:∀(r:bu×bJ),Dx l P G W->Dx l P (G.mem r.2) {W with op:=G_ r.1}:=λr q=>⟨q.how,q.left,q.what.imp id λz=>⟨Q r z.1,z.2⟩⟩
 have p:∀(r:bu×bJ),EQ {W with op:=G_ r.1}:=λr=>⟨λq=>c.fl.no q,c.fl.SG,c.fl.ag⟩
 have hct:∀{iT:List Ro} {r:bu×bJ},(match W.after with
  | .c .F9=>W.stack=[]/\W.wait.how=1/\Cb l iT G.ts.length i W.dq r.1/\r.1.kind=1
  | .c .um=>W.stack≠ []/\BT P G.ts.length (G.tk (W.stack.headD 0))/\(0<=W.jq/\W.jq<G.ts.length)/\Cb l iT G.ts.length i W.dq r.1/\r.1.kind=0
  | .c .td=>rC P (G.mem r.2) {W with op:=G_ r.1}/\(zk W.again=J_->W.dK= .m .vQ/\W.wait.how=1)/\(SF W.again=J_->W.dK= .c .Db)/\Cb l iT G.ts.length i W.dq r.1/\r.1.kind=1
  | .m .Uv=>Dx l P (G.mem r.2) {W with op:=G_ r.1}/\(∃u,u<l.wa.length/\u≠i/\Cb l iT G.ts.length u (bw.getD u 0) r.1/\r.1.kind=2)/\r.1.next<=18
  | .m .AL=>Dx l P (G.mem r.2) {W with op:=G_ r.1}/\(∃u,u<l.wa.length/\u≠i/\Cb l iT G.ts.length u (bw.getD u 0) r.1/\r.1.kind=2)/\r.1.next=19
  |_=>False)->cD l P bw iT (G.mem r.2) {W with op:=G_ r.1}:=λq=>avT g rfl B q
 split at ct
 .rename_i j;obtain⟨f,n,a3,A⟩:=ct;have v:=c.fl.no (by unfold Wk.waits;rw[g];dsimp only;rw[j])
  have y:∀(r:bu×bJ) (st:Int),zj l (G.mem r.2) {W with op:=G_ r.1} t bw G.vJ st=F9 (G.mem r.2) {W with op:=G_ r.1} st:=λr st=>by unfold zj;dsimp only;rw[j]
  refine main i W.dq c.own a3 λiT r b=>⟨λe=>?_,λe H=>?_⟩
  .obtain⟨b1,b2⟩:=b.live (D_ e);grind
  .rw[y];unfold F9;dsimp only;refine⟨?_,rfl⟩;split
   .refine SK v.1 v.2 (Yj b.got k) ?_;show EP P _ W.stack _;rw[f];rfl
   .exact⟨rfl,rfl,rfl,rfl,by simp[Wk.search],by unfold cD Wk.search;exact⟨n,bf,D_ ⟨f,rfl,rfl,rfl⟩⟩,oY v.1 v.2⟩
 .rename_i j;obtain⟨f,n,a3,A,C⟩:=ct;have v:=c.fl.no (by unfold Wk.waits;rw[g];dsimp only;rw[j])
  have y:∀(r:bu×bJ) (st:Int),zj l (G.mem r.2) {W with op:=G_ r.1} t bw G.vJ st=um (G.mem r.2) {W with op:=G_ r.1} st:=λr st=>by unfold zj;dsimp only;rw[j]
  refine main i W.dq c.own A λiT r b=>⟨λe=>?_,λe H=>?_⟩
  .obtain⟨b1,b2⟩:=b.live (D_ e);grind
  .rw[y];unfold um;dsimp only;refine⟨?_,rfl⟩;obtain⟨x,st,U⟩:=kp f;have F:EP P (G.mem r.2) W.stack (.m .next):=by rw[U]at n ⊢;exact n
   split
   .exact SK v.1 v.2 a3 F
   .exact⟨rfl,rfl,rfl,rfl,by simp[Wk.JF],by unfold cD Wk.JF;exact F,oY v.1 v.2⟩
 .rename_i j;obtain⟨f,n,a3,A,C⟩:=ct;have y:∀(r:bu×bJ) (st:Int),zj l (G.mem r.2) {W with op:=G_ r.1} t bw G.vJ st=td (G.mem r.2) {W with op:=G_ r.1} t st:=λr st=>by unfold zj;dsimp only;rw[j]
  refine main i W.dq c.own A λiT r b=>⟨λe=>?_,λe H=>?_⟩
  .obtain⟨b1,b2⟩:=b.live (D_ e);grind
  .rw[y];unfold td;split
   .exact aax (vK f.ne) (Q r f) (p r) n a3
   .exact afF (Q r f) (p r) (Yj b.got k)
 .rename_i j;obtain⟨f,⟨u,n,a3,A,C⟩,a6⟩:=ct;have D:W.none_= .m .nothing->W.waits=true:=λq=>by unfold Wk.waits;rw[g];dsimp only;rw[j];dsimp only;rw[q];rfl
  have o:W.stack=[]->W.bO=K_/\W.blocked=false:=λq=>by
   refine c.fl.no ?_;rcases f.what with⟨_,_,_,z⟩|⟨z,_⟩
   .unfold Wk.waits;grind
   .exact absurd q z.ne
  have y:∀(r:bu×bJ) (st:Int),zj l (G.mem r.2) {W with op:=G_ r.1} t bw G.vJ st=Uv l (G.mem r.2) {W with op:=G_ r.1} t bw G.vJ st:=λr st=>by unfold zj;dsimp only;rw[j]
  refine main u (bw.getD u 0) (c.dq u n) A λiT r b=>⟨λe=>?_,λe H=>?_⟩
  .obtain⟨b1,b2⟩:=b.live (D_ e);have hh:=b.how C;grind
  .rw[y];unfold Uv;split
   .exact Wc k c.wt.id c.an8.1 (K r f) (p r) D o
   .rename_i V;have e2:r.1.how=2:=by
     have:=not_or.1 V;omega
    obtain⟨b1,b2⟩:=b.live (E_ e2);have hh:=b.how C;refine⟨⟨rfl,rfl,rfl,rfl,by dsimp only;rw[g];simp,?_,?_⟩,rfl⟩
    .refine avT g rfl B ?_;refine⟨(K r f).of rfl rfl rfl rfl rfl rfl rfl rfl rfl rfl rfl,⟨u,n,a3,b1,by rw[b2,C]⟩,?_⟩
     have:=b1.how;grind
    .refine⟨λq=>?_,c.fl.SG,λ_ q=>by dsimp only at q;rw[g]at q;rcases q with q|q<;>cases q⟩
     unfold Wk.waits at q;dsimp only at q;rw[g]at q;dsimp only at q;refine c.fl.no ?_;unfold Wk.waits;rw[g];dsimp only;rw[j];exact q
 .rename_i j;obtain⟨f,⟨u,n,a3,A,C⟩,a6⟩:=ct;have D:W.none_= .m .nothing->W.waits=true:=λq=>by unfold Wk.waits;rw[g];dsimp only;rw[j];dsimp only;rw[q];rfl
  have o:W.stack=[]->W.bO=K_/\W.blocked=false:=λq=>by
   refine c.fl.no ?_;rcases f.what with⟨_,_,_,z⟩|⟨z,_⟩
   .unfold Wk.waits;grind
   .exact absurd q z.ne
  have y:∀(r:bu×bJ) (st:Int),zj l (G.mem r.2) {W with op:=G_ r.1} t bw G.vJ st=AL l (G.mem r.2) {W with op:=G_ r.1} t bw st:=λr st=>by unfold zj;dsimp only;rw[j]
  refine main u (bw.getD u 0) (c.dq u n) A λiT r b=>⟨λe=>?_,λe H=>?_⟩
  .have hh:=b.how C;omega
  .rw[y];unfold AL;split
   .unfold auJ;rcases f.what with⟨L,z2,X,z4⟩|⟨L,z2,X,z4⟩
    .rw[HQ (by dsimp only;rw[X];simp)]
     refine⟨SK (o L).1 (o L).2 (Yj b.got k) ?_,rfl⟩;show EP P _ W.stack _;rw[L];rfl
    .rw[HK X];exact afF (Q r L) (p r) (Yj b.got k)
   .have:=Wc (bw:=bw) (ro:=iT) (G:=G.mem r.2) (t:=t) (W:={W with op:=G_ r.1,late:=J_}) k c.wt.id c.an8.1 (f.of rfl rfl rfl rfl rfl rfl rfl rfl rfl rfl rfl) ⟨λq=>c.fl.no q,c.fl.SG,c.fl.ag⟩ D o
    exact⟨⟨this.1.st,this.1.bk,this.1.id,this.1.dq,this.1.ns,this.1.ct,this.1.fl⟩,this.2⟩
 .exact ct.elim
def aCq(c:Cx l P bw ro G i W)(a:W.cT= .m .cJ):rV l P bw ro ro G i W (cJ G W):=by
 have ct:=c.ct;unfold cD at ct;rw[a]at ct;dsimp only at ct;exact tr c (E_ rfl) (by rw[eB,a];decide) ⟨rfl,rfl,rfl,rfl⟩ ⟨rfl,rfl,rfl,rfl,by simp[cJ],by unfold cD cJ;exact ct,ahE c (by unfold Wk.waits;rw[a]) rfl rfl⟩
def avW(c:Cx l P bw ro G i W)(g:W.cT= .m .asked)(p:t=G.tk (W.stack.headD 0)):rV l P bw ro ro G i W (asked G W t (G.tk (W.target.getD 0)) (W.target.getD 0)):=by
 have ct:=c.ct;unfold cD at ct;rw[g]at ct;dsimp only at ct;obtain⟨b,d,a3⟩:=ct;obtain⟨y,e,h2,n⟩|⟨k,e,_⟩:=b.cases;rotate_left
 .rw[e]at d;cases d
 have j:W.target.getD 0=y:=by rw[h2];rfl
 have a:y<G.ts.length:=n.2.2.2;have f:rC P (G.tick W.id) W:=⟨b.ne,b.hm,b.tg⟩;have o:=c.ty.val _ _ (c.ty.qh a).k;unfold asked;dsimp only;rw[j,jC];refine tr c (E_ rfl) (by rw[eB,g];decide) ⟨rfl,rfl,rfl,rfl⟩ ?_
 dsimp only;split
 .exact SJ f c.fl ⟨a,rfl⟩
 split
 .refine⟨rfl,rfl,rfl,rfl,by simp[Wk.drain],?_,SI c rfl rfl rfl rfl ⟨rfl,rfl⟩⟩
  unfold cD Wk.drain;exact⟨f.of rfl rfl rfl rfl,λ_=>⟨rfl,a3⟩,λq=>by dsimp only at q;rw[e]at q;cases q⟩
 .rename_i n0 r;have s:G.M.get (G.tk y).jI=G.K y:=rfl;have:=SJ (l:=l) (bw:=bw) (ro:=ro) (W:={W with kind:=G.M.get (G.tk y).jI}) (k:= .c .IF) (f.of rfl rfl rfl rfl) ⟨λq=>c.fl.no q,c.fl.SG,c.fl.ag⟩ ⟨d,by dsimp only;rw[j];rfl,by dsimp only;have:=o.1;omega⟩
  exact⟨this.st,this.bk,this.id,this.dq,this.ns,this.ct,this.fl⟩
def aqz(c:Cx l P bw ro G i W)(b:W.cT= .m .ul)(f:t=G.tk (W.stack.headD 0)):rV l P bw ro ro G i W (ul l G W t):=by
 have ct:=c.ct;unfold cD at ct;rw[b]at ct;dsimp only at ct;obtain⟨a,d,a3⟩:=ct;have e:rC P (G.tick W.id) W:=⟨a.ne,a.hm,a.tg⟩;unfold ul;dsimp only;split
 .have nx:=aax (l:=l) (bw:=bw) (ro:=ro) (t:=t) (by rw[f];exact c.tid a.ne) e c.fl d a3
  exact tr c (E_ nx.2) (by rw[eB,b];decide) ⟨rfl,rfl,rfl,rfl⟩ (by rw[nx.2];exact nx.1)
 .refine tr c (E_ rfl) (by rw[eB,b];decide) ⟨rfl,rfl,rfl,rfl⟩ ⟨rfl,rfl,rfl,rfl,by simp[Wk.A6],?_,SI c rfl rfl rfl rfl ⟨rfl,rfl⟩⟩
  unfold cD Wk.A6;exact⟨_,rfl,e.of rfl rfl rfl rfl,d,a3,Yh c.ty.t1 ⟨af,by have:=c.ty.t1;show(0:Int)<G.ts.length;omega⟩ af,rfl⟩
def amm(c:Cx l P bw ro G i W)(a:W.cT= .m .rp):rV l P bw ro ro G i W (rp l G W):=by
 have ct:=c.ct;unfold cD at ct;rw[a]at ct;dsimp only at ct;have b:rC P (G.tick W.id) W:=⟨ct.1.ne,ct.1.hm,ct.1.tg⟩;exact tr c (E_ rfl) (by rw[eB,a];decide) ⟨rfl,rfl,rfl,rfl⟩ ⟨rfl,rfl,rfl,rfl,by simp[rp],by unfold cD rp;exact⟨b.of rfl rfl rfl rfl,ct.2,rfl⟩,SI c rfl rfl rfl rfl ⟨rfl,rfl⟩⟩
theorem amn(c:Cx l P bw ro G i W)(b:W.cT= .m .sx)(g:t=G.tk (W.stack.headD 0)):rV l P bw ro ro G i W (sx G W t nd):=by
 have ct:=c.ct;unfold cD at ct;rw[b]at ct;dsimp only at ct;obtain⟨a,d,a3⟩:=ct;have e:rC P (G.tick W.id) W:=⟨a.ne,a.hm,a.tg⟩;unfold sx;split
 .refine tr c (E_ rfl) (by rw[eB,b];decide) ⟨rfl,rfl,rfl,rfl⟩ ?_
  obtain⟨y,f,_⟩|⟨k,f,_,j,n⟩:=a.cases
  .rw[f]at d;cases d
  refine SJ e c.fl ?_;rw[j];unfold rq at n;grind
 .have nx:=aj5 (l:=l) (bw:=bw) (ro:=ro) (t:=t) (by rw[g];exact c.tid a.ne) e a3 c.fl
  exact tr c (E_ nx.2) (by rw[eB,b];decide) ⟨rfl,rfl,rfl,rfl⟩ (by rw[nx.2];exact nx.1)
theorem aj7(c:Cx l P bw ro G i W)(d:W.cT= .m .register):rV l P bw ro ro G i W (register G W (G.tk (W.target.getD 0))):=by
 have ct:=c.ct;unfold cD at ct;rw[d]at ct;dsimp only at ct;obtain⟨e,b⟩:=ct;obtain⟨y,a,h2,f⟩|⟨k,a,_⟩:=e.cases;rotate_left
 .rw[a]at b;cases b
 have j:W.target.getD 0=y:=by rw[h2];rfl
 have g:=(c.ty.qh f.2.2.2).w;unfold register;rw[j];refine ER (m:=[]) c (c.ty.ad g trivial) bf rfl (by rw[n_];rfl) (xK c.ty rfl g (λq=>q)) rfl rfl rfl rfl (by rw[d];decide) (by dsimp only;rw[a];simp) (λ_=>?_) (λ_=>?_)
 .unfold cD;dsimp only;rw[a];exact⟨e.ne,f⟩
 .refine⟨λq=>?_,λ_=>b,λ_ _=>rfl⟩;unfold Wk.waits at q;grind
variable{y:Nat}
def Wd(c:Cx l P bw ro G i W)(a:W.stack≠ [])(d:rq P G.ts.length (G.tk (W.stack.headD 0)) (.aw y))(g:W.bO=J_\/W.blocked=J_->W.again= .aw y)(e:W1.stack=W.stack/\W1.back=W.back/\W1.id=W.id/\W1.dq=W.dq/\W1.bO=W.bO/\W1.blocked=W.blocked):
  Nx l P bw ro (G.tick wk) W1 (Gi l G W1 (G.tk (W.stack.headD 0)) y).2:=by
 obtain⟨f,e2,j,k,m,n⟩:=e;have b:=(c.ty.qh (c.top a).2).inn;refine⟨rfl,rfl,rfl,rfl,by simp[Gi,Wk.looks],?_,?_⟩
 .unfold cD Gi Wk.looks;dsimp only;rw[f];exact⟨_,rfl,rfl,b,.refl b.1 b.2,a,⟨a,d,rfl⟩,rfl,rfl⟩
 .exact⟨λq=>by unfold Wk.waits Gi Wk.looks at q;(cases q),λ_=>rfl,λ_ q=>by rcases q with q|q<;>(cases q)⟩
def aE7(c:Cx l P bw ro G i W)(a:W.cT= .aw y)(b:t=G.tk (W.stack.headD 0)):rV l P bw ro ro G i W (Gi l G W t y):=by
 have ct:=c.ct;unfold cD at ct;rw[a]at ct;dsimp only at ct;subst b;refine tr c (E_ rfl) (by rw[eB,a];simp) ⟨rfl,rfl,rfl,rfl⟩ (Wd c ct.1 ct.2 (λq=>?_) ⟨rfl,rfl,rfl,rfl,rfl,rfl⟩)
 rw[c.fl.ag q (by rw[a];exact D_ rfl),a]
def aE8(c:Cx l P bw ro G i W)(a:W.cT= .sh k)(e:t=G.tk (W.stack.headD 0)):rV l P bw ro ro G i W (G,shut W k t):=by
 have ct:=c.ct;unfold cD at ct;rw[a]at ct;dsimp only at ct;have d:W.bO=false:=by
  cases h:W.bO with
  |false=>rfl
  |true=>
   have b:=c.fl.SG h;rw[c.fl.ag (D_ h) (by rw[a];exact E_ rfl),a]at b
   cases b
 exact tr c (D_ rfl) (by rw[eB,a];simp) ⟨rfl,rfl,rfl,rfl⟩ (Yi ct.1 ct.2 d λq=>by rw[c.fl.ag (E_ q) (by rw[a];exact E_ rfl),a])
def azf(c:Cx l P bw ro G i W)(d:W.cT= .m .Io)(f:t=G.tk (W.stack.headD 0)):rV l P bw ro ro G i W (Io l G W t):=by
 have ct:=c.ct;unfold cD at ct;rw[d]at ct;dsimp only at ct;subst f;unfold Io again;dsimp only;obtain⟨y,a,h2,e⟩|⟨k,a,h2,e,g⟩:=ct.cases
 .rw[a];dsimp only;have nx:=Wd (wk:=W.id) c ct.ne e (λ_=>a) ⟨rfl,rfl,rfl,rfl,rfl,rfl⟩
  exact tr c (E_ rfl) (by rw[eB,d];simp) ⟨rfl,rfl,rfl,rfl⟩ nx
 .rw[a];dsimp only;have j:W.bO=false:=by
   cases h:W.bO with
   |false=>rfl
   |true=>have b:=c.fl.SG h;rw[a]at b;cases b
  exact tr (W1:={W with wait:=⟨0,W.wait.seen⟩}) c (D_ rfl) (by rw[eB,d];simp) ⟨rfl,rfl,rfl,rfl⟩ (Yi ct.ne g j λq=>a)
def azg(c:Cx l P bw ro G i W)(a:W.cT= .m .join)(g:t=G.tk (W.stack.headD 0)):rV l P bw ro ro G i W (join l P G W t):=by
 have ct:=c.ct;unfold cD at ct;rw[a]at ct;dsimp only at ct;subst g;obtain⟨j,b,a3⟩:=ct;obtain⟨b1,b2⟩:=b.fi.hand c.acc a3;have d:=c.fl.no (by unfold Wk.waits;rw[a])
 unfold join;dsimp only;have e:(if (bz P (G.tk (W.stack.headD 0)).f).getD 0 0=10 then(bz P (G.tk (W.stack.headD 0)).f).getD 3 0 else(bz P (G.tk (W.stack.headD 0)).f).getD 2 0)=G6 (bz P (G.tk (W.stack.headD 0)).f):=rfl
 rw[e];refine tr c (E_ rfl) (by rw[eB,a];decide) ⟨rfl,rfl,rfl,rfl⟩ (Wd c j ⟨b,a3,?_,?_⟩ (λq=>by rw[d.1,d.2]at q;rcases q with q|q<;>cases q) ⟨rfl,rfl,rfl,rfl,rfl,rfl⟩)
 .unfold hand;omega
 .omega
structure Sm (t t':Tk):Prop where
 id:t'.id=t.id
 l7:t'.l7=t.l7
 own:t'.own=t.own
 jI:t'.jI=t.jI
def Ux.to(h:Ux ro i x t)(hs:Sm t t')(a:∀p∈t'.cJ,0<=p.1/\p.1<i)(b:t'.gL.size+t'.cJ.length<=t'.scopes.length)(c:t'.scopes.length<=i):Ux ro i x t':=
 ⟨by rw[hs.id];exact h.id,by rw[hs.jI];exact h.k,by rw[hs.jI];exact h.v,by rw[hs.jI];exact h.w,by rw[hs.l7];exact h.inn,by rw[hs.own];exact h.own,a,b,c⟩
def Ux.f{nC:Nat}(h:Ux ro nC x t){f:List Int}{kind v:Int}:Ux ro nC x {t with f:=f,kind:=kind,v:=v}:=h.to ⟨rfl,rfl,rfl,rfl⟩ h.cJ h.sn h.sl
def Cx.ne0(c:Cx l P bw ro G i W)(h:W.stack≠ []):∃x st,W.stack=x::st/\W.stack.headD 0=x/\x<G.ts.length:=by
 obtain⟨x,st,e⟩:=kp h;exact⟨x,st,e,by rw[e];rfl,by have:=(c.top h).2;rw[e]at this;exact this⟩
def Yk{r:Gl}(a:r.ts=G.ts.set x t')(b:x<G.ts.length):r.tk x=t'/\r.ts.length=G.ts.length:=by
 refine⟨?_,by rw[a];simp⟩
 unfold Gl.tk;rw[a,uO b];rfl
def ahG(M:bJ)(steps:Int)(tm:Int×List (Int×Int))(p:List Pl)(c:Cx l P bw ro G i W)(b:W.stack≠ [])(d:W.stack.headD 0=x)(e:r.1={G with M:=M,ts:=G.ts.set x t',steps:=steps,time:=tm,P:=p})
  (k:Ty l ro (G.mem M)) (n:∀a s,k9 ro a s->s.JS->M.get a=G.M.get a) (hs:Sm (G.tk x) t') (o:Ux ro G.C.length x t') (g:CK tm) (j:∀y∈tm.2,y.2<G.C.length) (q:p.length=G.P.length)
  (t:eB W) (f:W1.stack=W.stack/\W1.back=W.back/\W1.id=W.id/\W1.dq=W.dq) (nx:r.1.tk x=t'->r.1.ts.length=G.ts.length->Nx l P bw ro r.1 W1 r.2):rV l P bw ro ro G i W r:=by
 have u:x<G.ts.length:=by rw[<-d];exact(c.top b).2
 obtain⟨v,e2⟩:=Yk (r:=r.1) (by rw[e]) u
 replace nx:=nx v e2;have ty:Ty l ro r.1:=by
  rw[e];have h:=k.set (λ_=>o);exact{h with ck:=g,Qn:=j,pl:=by show p.length=_;rw[q];exact c.ty.pl}
 exact avP (m:=[]) c b ty bf (by rw[e,d]) (by rw[e,n_]) (λa s z A=>by rw[e];exact n a s z A) (by rw[d];exact hs.l7) (by rw[d];exact hs.own) (by rw[d];exact hs.jI) (by rw[nx.st,f.1]) (by rw[nx.bk,f.2.1]) (by rw[nx.id,f.2.2.1]) (by rw[nx.dq,f.2.2.2]) t nx.ns (λ_=>nx.ct) (λ_=>nx.fl)
variable{G1:Gl}
def ZM(c:Cx l P bw ro G i W)(b:W.stack≠ [])(f:W.stack.headD 0=x)(d:G1=G\/G1=G.tick W.id)(hr:r.1=G1.set x t'\/r.1=(G1.set x t').lZ)(hs:Sm (G.tk x) t')(g:Ux ro G.C.length x t')
  (j:eB W) (k:W1.stack=W.stack/\W1.back=W.back/\W1.id=W.id/\W1.dq=W.dq) (nx:r.1.tk x=t'->r.1.ts.length=G.ts.length->Nx l P bw ro r.1 W1 r.2):rV l P bw ro ro G i W r:=by
 have m:Ty l ro (G.mem G1.M):=by rcases d with e|e<;>rw[e];exact c.ty;exact c.tt
 have n:∀a s,k9 ro a s->s.JS->G1.M.get a=G.M.get a:=by intro a s _ _;rcases d with e|e<;>rw[e];rfl
 rcases hr with hr|hr
 .exact ahG G1.M G.steps G.time G.P c b f (by rw[hr];rcases d with e|e<;>rw[e] <;>rfl) m n hs g c.ty.ck c.ty.Qn rfl j k nx
 .exact ahG G1.M (wr (G.steps+1)) G.time G.P c b f (by rw[hr];rcases d with e|e<;>rw[e] <;>rfl) m n hs g c.ty.ck c.ty.Qn rfl j k nx
def vL(c:Cx l P bw ro G i W)(d:G1=G\/G1=G.tick W.id)(g:p≠0)(f:eB W)(b:W1.stack=W.stack/\W1.back=W.back/\W1.id=W.id/\W1.dq=W.dq/\W1.cT=W.cT):rV l P bw ro ro G i W (G1.fail p,W1):=by
 have ty:Ty l ro (G1.fail p):=by rcases d with q|q<;>rw[q];exact{c.ty with};exact{c.tt with}
 refine ahF (m:=[]) (mc:=[]) c ty bf ?_ ?_ (λa s _ _=>?_) f ⟨b.1,b.2.1,b.2.2.1,b.2.2.2.1⟩ (λq=>absurd q g) ⟨rfl,rfl,rfl,rfl,by rw[b.2.2.2.2];exact f.1⟩
 .rcases d with q|q<;>rw[q] <;>rfl
 .rcases d with q|q<;>rw[q,n_] <;>rfl
 .rcases d with q|q<;>rw[q] <;>rfl
def ahH{kind:Int}(c:Cx l P bw ro G i W)(b:W.stack≠ [])(d:W.stack.headD 0=x)(g:t=G.tk x)(j:G1=G\/G1=G.tick W.id)(e:2<=kind/\kind<=4)(k:W.bO=K_)(h2:W.blocked=K_)(m:eB W)
  (a:W1.stack=W.stack/\W1.back=W.back/\W1.id=W.id/\W1.dq=W.dq/\W1.bO=W.bO/\W1.blocked=W.blocked):rV l P bw ro ro G i W (ends G1 W1 x t kind v):=by
 have n:x<G.ts.length:=by rw[<-d];exact(c.top b).2
 subst g;refine ZM c b d j (D_ rfl) ⟨rfl,rfl,rfl,rfl⟩ ((c.ty.qh n).f) m ⟨a.1,a.2.1,a.2.2.1,a.2.2.2.1⟩ λo e2=>?_
 have:=OL (l:=l) (P:=P) (bw:=bw) (ro:=ro) (t:={G.tk x with kind:=kind,v:=v}) (by rw[a.1];exact b) (by rw[a.1,d];exact o) ⟨e.1,e.2⟩ (by rw[a.2.2.2.2.1];exact k) (by rw[a.2.2.2.2.2];exact h2)
 exact this
def an9(c:Cx l P bw ro G i W)(g:W.stack≠ [])(n:W.stack.headD 0=x)(v:t=G.tk x)(k:G1=G\/G1=G.tick W.id)(o:BT P G.ts.length (G.tk x))(r:W.bO=K_)(h2:W.blocked=K_)(p:eB W)
  (a:W1.stack=W.stack/\W1.back=W.back/\W1.id=W.id/\W1.dq=W.dq/\W1.bO=W.bO/\W1.blocked=W.blocked/\W1.cT=W.cT):rV l P bw ro ro G i W (afr l G1 W1 x t (bz P t.f)):=by
 have y:x<G.ts.length:=by rw[<-n];exact(c.top g).2
 subst v;unfold afr;split
 .exact vL c k e7 p ⟨a.1,a.2.1,a.2.2.1,a.2.2.2.1,a.2.2.2.2.2.2⟩
 split
 .rename_i q;refine ZM c g n k (E_ rfl) ⟨rfl,rfl,rfl,rfl⟩ ((c.ty.qh y).f) p ⟨a.1,a.2.1,a.2.2.1,a.2.2.2.1⟩ λA e2=>?_
  refine⟨rfl,rfl,rfl,rfl,by simp[Wk.go],?_,oY (by rw[<-r];exact a.2.2.2.2.1) (by rw[<-h2];exact a.2.2.2.2.2.1)⟩
  unfold cD Wk.go;dsimp only;rw[a.1,n];refine⟨g,?_⟩;rw[show Gl.tk _ x=_ from A];exact⟨(o.fi.plain c.acc q).imp λz s=>⟨s.1,by rw[e2];exact s.2⟩,o.kind⟩
 .rename_i q;have B:=(o.fi.aCf c.acc).2 (gq q)
  have C:Nx l P bw ro G1 W1 (W1.go (adl ((bz P (G.tk x).f).getD 0 0))):=by
   refine⟨rfl,rfl,rfl,rfl,?_,?_,oY (by rw[<-r];exact a.2.2.2.2.1) (by rw[<-h2];exact a.2.2.2.2.2.1)⟩
   .show Kn.m (adl ((bz P (G.tk x).f).getD 0 0))≠ .m .start;have:(bz P (G.tk x).f).getD 0 0=8\/(bz P (G.tk x).f).getD 0 0=9\/(bz P (G.tk x).f).getD 0 0=10\/(bz P (G.tk x).f).getD 0 0=11\/(bz P (G.tk x).f).getD 0 0=12\/(bz P (G.tk x).f).getD 0 0=13\/(bz P (G.tk x).f).getD 0 0=14\/(bz P (G.tk x).f).getD 0 0=15\/(bz P (G.tk x).f).getD 0 0=16:=af;rcases this with e|e|e|e|e|e|e|e|e<;>rw[e] <;>decide
   .have b:W1.stack≠ []:=by rw[a.1];exact g
    have u:G1.tk (W1.stack.headD 0)=G.tk x:=by rw[a.1,n];rcases k with e|e<;>rw[e];rfl
    have D:G1.ts.length=G.ts.length:=by rcases k with e|e<;>rw[e];rfl
    have j:BT P G1.ts.length (G1.tk (W1.stack.headD 0)):=by rw[u,D];exact o
    have:(bz P (G.tk x).f).getD 0 0=8\/(bz P (G.tk x).f).getD 0 0=9\/(bz P (G.tk x).f).getD 0 0=10\/(bz P (G.tk x).f).getD 0 0=11\/(bz P (G.tk x).f).getD 0 0=12\/(bz P (G.tk x).f).getD 0 0=13\/(bz P (G.tk x).f).getD 0 0=14\/(bz P (G.tk x).f).getD 0 0=15\/(bz P (G.tk x).f).getD 0 0=16:=af;have d:Ip P (G1.tk (W1.stack.headD 0))=(bz P (G.tk x).f).getD 0 0:=by rw[u]
    rcases this with e|e|e|e|e|e|e|e|e<;>rw[e]at d ⊢ <;>unfold cD Wk.go adl
    .exact⟨b,j,d⟩
    .exact⟨b,j,D_ d⟩
    .exact⟨b,j,E_ d⟩
    iterate 4 exact⟨b,j,d⟩
    .exact⟨b,j,D_ d⟩
    .exact⟨b,j,E_ d⟩
  exact tr c k p ⟨a.1,a.2.1,a.2.2.1,a.2.2.2.1⟩ C
def azh(c:Cx l P bw ro G i W)(b:W.cT= .m .next)(d:W.stack.headD 0=x)(j:t=G.tk x):rV l P bw ro ro G i W (V7 l P G W x t):=by
 have ct:=c.ct;unfold cD at ct;rw[b]at ct;dsimp only at ct;obtain⟨f,g⟩:=ct;rw[d]at g;have e:=c.fl.no (by unfold Wk.waits;rw[b])
 subst j;have a:=(c.ty.qh (c.top f).2).inn;rw[d]at a;unfold V7;split
 .refine tr c (D_ rfl) (by rw[eB,b];decide) ⟨rfl,rfl,rfl,rfl⟩ ⟨rfl,rfl,rfl,rfl,by simp[Wk.looks],?_,oY e.1 e.2⟩
  unfold cD Wk.looks;dsimp only;rw[d];exact⟨_,rfl,rfl,a,.refl a.1 a.2,f,g,rfl⟩
 .exact an9 c f d rfl (D_ rfl) g e.1 e.2 (by rw[eB,b];decide) ⟨rfl,rfl,rfl,rfl,rfl,rfl,rfl⟩
theorem avX{k:Lk}(a:W.cT= .m .looking)(h2:W.look=G_ k)(b:W.stack.headD 0=x)(d:k.done=K_)(e:0<=k.at_/\k.at_<G.C.length)(a3:O8 G.C (G.tk x).l7 k.at_)(g:W.stack≠ [])(j:match W.seen with
  | .nx i=>BT P G.ts.length (G.tk x)/\i=bz P (G.tk x).f
  | .c .th=>rC P G W/\zk W.again=J_/\W.wait.how=1
  | .c .xp=>BT P G.ts.length (G.tk x)
  |_=>False):cD l P bw ro G W:=by
 unfold cD;dsimp only;rw[a];grind
theorem amo{k:Lk}(c:Cx l P bw ro G i W)(j:W.cT= .m .looking)(F:W.look=G_ k)(e:W.stack.headD 0=x)(H:t=G.tk x):rV l P bw ro ro G i W (looking l G W k (G.nd k.at_) x t):=by
 have ct:=c.ct;unfold cD at ct;rw[j]at ct;dsimp only at ct;obtain⟨k',o,L,B,a3,r,g⟩:=ct;rw[F]at o;cases o;rw[e]at a3 g;subst H;obtain⟨s,I⟩:=c.ty.O7 B.1 B.2;have n:eB W:=by rw[eB,j];decide
 unfold looking;dsimp only;split
 .rename_i d;have y:(k.go G.M (G.nd k.at_)).xm=J_->SE G (G.tk x):=λq=>by
   unfold Lk.go at q;dsimp only at q;exact⟨k.at_,a3,_,s,gq q⟩
  split at g
  .rename_i hs;have u:∀b,Sy l (G.tick W.id) {W with look:=G_ (k.go G.M (G.nd k.at_))} x (G.tk x) b=adm l (G.tick W.id) {W with look:=G_ (k.go G.M (G.nd k.at_))} x (G.tk x) _ b:=λb=>by unfold Sy;dsimp only;rw[hs]
   rw[u];have a:=c.fl.no (by unfold Wk.waits;rw[j];dsimp only;rw[hs])
   unfold adm;rw[g.2];split
   .exact ahH c r e rfl (E_ rfl) ⟨e7,e7⟩ a.1 a.2 n ⟨rfl,rfl,rfl,rfl,rfl,rfl⟩
   .exact an9 c r e rfl (E_ rfl) g.1 a.1 a.2 n ⟨rfl,rfl,rfl,rfl,rfl,rfl,rfl⟩
  .rename_i hs;have u:∀b,Sy l (G.tick W.id) {W with look:=G_ (k.go G.M (G.nd k.at_))} x (G.tk x) b=th (G.tick W.id) {W with look:=G_ (k.go G.M (G.nd k.at_))} b:=λb=>by unfold Sy;dsimp only;rw[hs]
   rw[u];unfold th;obtain⟨b1,b2,J⟩:=g;have D:rC P (G.tick W.id) {W with look:=G_ (k.go G.M (G.nd k.at_))}:=⟨b1.ne,b1.hm,b1.tg⟩;have v:EQ {W with look:=G_ (k.go G.M (G.nd k.at_))}:=⟨λq=>c.fl.no q,c.fl.SG,c.fl.ag⟩
   refine tr (W1:={W with look:=G_ (k.go G.M (G.nd k.at_))}) c (E_ rfl) n ⟨rfl,rfl,rfl,rfl⟩ ?_;cases z:(k.go G.M (G.nd k.at_)).xm with
   |true=>
    rw[HK rfl];refine SJ D v ⟨b2,?_⟩;show SE (G.tick W.id) (G.tk (W.stack.headD 0));rw[e];obtain⟨b,K,h2⟩:=y z;exact⟨b,K,h2⟩
   |false=>
    rw[HQ bf];exact⟨rfl,rfl,rfl,rfl,by simp[Wk.go],by unfold cD Wk.go;exact⟨D.of rfl rfl rfl rfl,b2,J⟩,aaw v rfl rfl rfl rfl ⟨rfl,rfl⟩⟩
  .rename_i hs;have u:∀b,Sy l (G.tick W.id) {W with look:=G_ (k.go G.M (G.nd k.at_))} x (G.tk x) b=xp (G.tick W.id) {W with look:=G_ (k.go G.M (G.nd k.at_))} x (G.tk x) b:=λb=>by unfold Sy;dsimp only;rw[hs]
   rw[u];have a:=c.fl.no (by unfold Wk.waits;rw[j];dsimp only;rw[hs])
   unfold xp;split
   .exact ahH c r e rfl (E_ rfl) ⟨e7,e7⟩ a.1 a.2 n ⟨rfl,rfl,rfl,rfl,rfl,rfl⟩
   .refine tr c (E_ rfl) n ⟨rfl,rfl,rfl,rfl⟩ ⟨rfl,rfl,rfl,rfl,by simp[Wk.go],?_,oY a.1 a.2⟩
    unfold cD Wk.go;dsimp only;rw[e];exact⟨r,g⟩
  .exact g.elim
 .rename_i d;have d:(k.go G.M (G.nd k.at_)).done=false:=by simpa using d
  have A:(k.go G.M (G.nd k.at_)).at_=(G.nd k.at_).parent:=rfl;have N:k.at_≠0:=by intro q;unfold Lk.go at d;dsimp only at d;rw[q]at d;simp at d
  have O:=I.p af;refine ER (m:=[]) c c.tt bf rfl (by rw[n_];rfl) (λ_ _ _ _=>rfl) rfl rfl rfl rfl n (by dsimp only;rw[j];simp) (λ_=>?_) (λ_=>⟨λq=>c.fl.no q,c.fl.SG,c.fl.ag⟩)
  refine avX j rfl e d ⟨by rw[A];omega,by rw[A];show _<((G.C.length:Nat):Int);omega⟩ (by rw[A];exact a3.snoc s af af) r ?_
  have hq:rC P G W->rC P (G.tick W.id) {W with look:=G_ (k.go G.M (G.nd k.at_))}:=λq=>⟨q.ne,q.hm,q.tg⟩
  show match W.seen with
   | .nx i=>BT P G.ts.length (G.tk x)/\i=bz P (G.tk x).f
   | .c .th=>rC P (G.tick W.id) {W with look:=G_ (k.go G.M (G.nd k.at_))}/\zk W.again=J_/\W.wait.how=1
   | .c .xp=>BT P G.ts.length (G.tk x)
   |_=>False
  grind
def avY(h:t.cJ≠ []):t.kA∈t.cJ:=by
 obtain⟨o,m,a⟩:∃o m,t.cJ=o++[m]:=⟨_,_,(ei h).symm⟩;rw[Cr a,a];simp
theorem BT.cJ(h:BT P n t):t.cJ≠ []:=by have:=h.fi.d1;grind
def Cx.kA(c:Cx l P bw ro G i W)(a:x<G.ts.length)(b:(G.tk x).cJ≠ []):0<=(G.tk x).kA.1/\(G.tk x).kA.1<G.C.length:=(c.ty.qh a).cJ _ (avY b)
def azj(c:Cx l P bw ro G i W)(b:W.cT= .m .pass)(a:W.stack.headD 0=x)(n:t=G.tk x):rV l P bw ro ro G i W (pass l G W x t):=by
 have ct:=c.ct;unfold cD at ct;rw[b]at ct;dsimp only at ct;obtain⟨d,e,a3⟩:=ct;rw[a]at e a3;have o:x<G.ts.length:=by rw[<-a];exact(c.top d).2
 have g:=c.fl.no (by unfold Wk.waits;rw[b])
 have j:eB W:=by rw[eB,b];decide
 subst n;unfold pass;split
 .exact vL c (D_ rfl) e7 j ⟨rfl,rfl,rfl,rfl,rfl⟩
 .refine ZM c d a (D_ rfl) (E_ rfl) ⟨rfl,rfl,rfl,rfl⟩ ((c.ty.qh o).f) j ⟨rfl,rfl,rfl,rfl⟩ λp e2=>?_
  refine⟨rfl,rfl,rfl,rfl,by simp[Wk.go],?_,oY g.1 g.2⟩
  unfold cD Wk.go;dsimp only;rw[a,show Gl.tk _ x=_ from p];exact⟨d,⟨(e.fi.on c.acc (E_ a3)).imp λz k=>⟨k.1,by rw[e2];exact k.2⟩,e.kind⟩⟩
theorem aqA(c:Cx l P bw ro G i W)(I:W.cT= .m .cancel)(A:W.stack.headD 0=x)(Z:t=G.tk x):rV l P bw ro ro G i W (cancel l G W x t (G.nd t.kA.1)):=by
 have ct:=c.ct;unfold cD at ct;rw[I]at ct;dsimp only at ct;obtain⟨J,B,a3⟩:=ct;rw[A]at B a3;have D:x<G.ts.length:=by rw[<-A];exact(c.top J).2
 have Y:=c.fl.no (by unfold Wk.waits;rw[I])
 have e:eB W:=by rw[eB,I];decide
 subst Z;unfold cancel;split
 .exact vL c (D_ rfl) e7 e ⟨rfl,rfl,rfl,rfl,rfl⟩
 have o:=c.kA D B.cJ;obtain⟨hsc,g⟩:=c.ty.O7 o.1 o.2;have p:=g.a.lt;rw[c.ty.len]at p;have L:Ty l ro (G.mem (G.M.cs W.id (G.nd (G.tk x).kA.1).at_ 0 1).1):=c.ty.cs g.a (E_ rfl);have F:∀b,0<=b->(G.M.cs W.id (G.nd (G.tk x).kA.1).at_ 0 1).1.get b=if b=(G.nd (G.tk x).kA.1).at_/\G.M.get (G.nd (G.tk x).kA.1).at_=0 then 1 else G.M.get b:=λb hb=>abi g.a.1 p hb
 have N:uN ro ro G (G.mem (G.M.cs W.id (G.nd (G.tk x).kA.1).at_ 0 1).1) W.hold:=by
  have O:∀y,y<G.ts.length->(G.mem (G.M.cs W.id (G.nd (G.tk x).kA.1).at_ 0 1).1).K y=G.K y/\(G.mem (G.M.cs W.id (G.nd (G.tk x).kA.1).at_ 0 1).1).V y=G.V y:=λy d=>by
   have s:=(c.ty.qh d).k;have hv:=(c.ty.qh d).v;unfold Gl.K Gl.V;have Q:(G.mem (G.M.cs W.id (G.nd (G.tk x).kA.1).at_ 0 1).1).tk y=G.tk y:=rfl;rw[Q];have R:=s.ne g.a bf;have n2:=hv.ne g.a bf;show(G.M.cs _ _ _ _).1.get _=_/\(G.M.cs _ _ _ _).1.get _=_;rw[F _ s.1,HQ (λq=>R q.1),F _ hv.1,HQ (λq=>n2 q.1)];exact⟨rfl,rfl⟩
  refine⟨⟨[],bf⟩,iw _,λ_ _ _=>rfl,λ_ _=>⟨rfl,rfl,rfl⟩,⟨[],by simp[Gl.mem]⟩,λy d q=>by rw[<-(O y d).1];exact q,λy d _ _=>O y d,λy d _=>O y d,λs' ⟨nd,j,h2⟩=>⟨nd,j,?_⟩⟩
  show(G.M.cs _ _ _ _).1.get _≠0;rw[F _ (JL c.ty j).1];split
  .decide
  .exact h2
 obtain⟨Q,e2⟩:=Yk (r:=((G.mem (G.M.cs W.id (G.nd (G.tk x).kA.1).at_ 0 1).1).set x {G.tk x with f:=nE (G.tk x).f}).lZ) (G:=G) rfl D;have hT:Ux ro G.C.length x {G.tk x with f:=nE (G.tk x).f}:=(c.ty.qh D).f;have u:x∈W.hold:=by
  obtain⟨z,st,j,h2,_⟩:=c.ne0 J;rw[kL e.1,j,<-A,h2];simp
 have Cd:uN ro ro G ((G.mem (G.M.cs W.id (G.nd (G.tk x).kA.1).at_ 0 1).1).set x {G.tk x with f:=nE (G.tk x).f}).lZ W.hold:=by
  have h:=N.trans (adz (t':={G.tk x with f:=nE (G.tk x).f}) u D rfl rfl rfl) (D_ rfl);exact⟨h.ext,h.n,h.ts,h.ids,h.C,h.K0,h.K1,h.K2,h.ask⟩
 obtain⟨z,st,S,q2,_⟩:=c.ne0 J;have H:z=x:=by rw[<-A,q2]
 subst H;have T:=c.wt.nd;rw[kL e.1,S]at T;refine afC c ?_ Cd rfl rfl rfl rfl e (by simp[Wk.JF]) (λy d=>?_) (λy d=>?_) (λ_=>?_) (λ_=>oY Y.1 Y.2) (λy j h2=>by rw[e2]at h2;omega)
 .have h:=L.set (λ_=>hT)
  exact{h with}
 .rw[S]at d;show Gl.tk _ y=_;unfold Gl.tk;show(((G.ts.set z _))[y]?).getD tk0=_;grind
 .have U:=c.wt.hl y (by rw[kL e.1];exact d)
  have j:=c.wt.run y (by rw[kL e.1];exact d)
  have:=(Cd.K2 y U);by_cases X:2<=G.K y
  .exact(this X).1
  .have s:=(c.ty.qh U).k;have R:=s.ne g.a bf;unfold Gl.K;rw[(Cd.ids y U).2.2];show(G.M.cs _ _ _ _).1.get _=_;rw[F _ s.1,HQ (λq=>R q.1)]
 .unfold cD Wk.JF;dsimp only;rw[S];show rq P _ (Gl.tk _ z) (.m .next)
  rw[show Gl.tk _ z=_ from Q];exact⟨(B.fi.on c.acc (D_ a3)).imp λz H=>⟨H.1,by rw[e2];exact H.2⟩,B.kind⟩
def avZ(c:Cx l P bw ro G i W)(b:W.cT= .m .leave)(a:W.stack.headD 0=x)(j:t=G.tk x):rV l P bw ro ro G i W (leave l P G W x t):=by
 have ct:=c.ct;unfold cD at ct;rw[b]at ct;dsimp only at ct;obtain⟨d,k,a3⟩:=ct;rw[a]at k a3;have n:x<G.ts.length:=by rw[<-a];exact(c.top d).2
 have e:=c.fl.no (by unfold Wk.waits;rw[b])
 have g:eB W:=by rw[eB,b];decide
 subst j;unfold leave;dsimp only;split
 .exact vL c (D_ rfl) e7 g ⟨rfl,rfl,rfl,rfl,rfl⟩
 .refine ZM c d a (D_ rfl) (E_ rfl) ⟨rfl,rfl,rfl,rfl⟩ (c.ty.qh n).f g ⟨rfl,rfl,rfl,rfl⟩ λo e2=>?_
  have p:Ends {G.tk x with f:=nE (G.tk x).f,kind:=if (bz P (G.tk x).f).getD 0 0=15 then 3 else 2,v:=(G.tk x).f.getD (2+((bz P (G.tk x).f).getD 1 0).toNat) 0}:=⟨by dsimp only;split<;>decide,by dsimp only;split<;>decide⟩
  exact OL (t:={G.tk x with f:=nE (G.tk x).f,kind:=if (bz P (G.tk x).f).getD 0 0=15 then 3 else 2,v:=(G.tk x).f.getD (2+((bz P (G.tk x).f).getD 1 0).toNat) 0}) d (by rw[a];exact o) p e.1 e.2
def av0(c:Cx l P bw ro G i W)(a:W.cT= .m .close)(f:W.stack.headD 0=x)(g:t=G.tk x):rV l P bw ro ro G i W (close_ G W t):=by
 have ct:=c.ct;unfold cD at ct;rw[a]at ct;dsimp only at ct;obtain⟨d,e,a3⟩:=ct;have b:=c.fl.no (by unfold Wk.waits;rw[a])
 exact tr c (D_ rfl) (by rw[eB,a];decide) ⟨rfl,rfl,rfl,rfl⟩ (Yi d ⟨e,a3⟩ b.1 λq=>by rw[b.2]at q;cases q)
def aay{p:List Pl}:(Cq p s).length=p.length:=by unfold Cq;split<;>simp
def aoa(h:t.cJ≠ []):t.cJ.dropLast.length+1=t.cJ.length:=by
 have:=List.length_pos_iff.2 h;simp;omega
theorem aqB(c:Cx l P bw ro G i W)(f:W.cT= .m .gL)(d:W.stack.headD 0=x)(q:t=G.tk x):rV l P bw ro ro G i W (gL l P G W x t (G.nd t.kA.1)):=by
 have ct:=c.ct;unfold cD at ct;rw[f]at ct;dsimp only at ct;obtain⟨g,a,a3⟩:=ct;rw[d]at a a3;have r:x<G.ts.length:=by rw[<-d];exact(c.top g).2
 have k:=c.fl.no (by unfold Wk.waits;rw[f])
 have n:eB W:=by rw[eB,f];decide
 subst q;have e:=c.ty.qh r;have B:=a.fi.scopes c.acc (D_ a3);have s:=aoa a.cJ;have o:=c.ty.cap;have C:=e.sn;have u:=e.sl;unfold gL;dsimp only;split
 .exact vL c (D_ rfl) e7 n ⟨rfl,rfl,rfl,rfl,rfl⟩
 generalize hb:(G.M.get (G.nd (G.tk x).kA.1).at_ !=0)=b;have j:((G.tk x).gL++(if b then Oq #[49]else Oq #[48])).size=(G.tk x).gL.size+1:=by cases b<;>simp<;>rfl
 refine ahG (G.M.tick W.id) (wr (G.steps+1)) (G.time.1,Ko.EK G.time.2 (G.tk x).kA.1) (Cq G.P (G.tk x).kA.1) c g d rfl c.tt (λ_ _ _ _=>rfl) ⟨rfl,rfl,rfl,rfl⟩ ?_ (c.ty.ck.drop _) (λy v=>c.ty.Qn y (C5.1 v).1) aay n ⟨rfl,rfl,rfl,rfl⟩ λz e2=>?_
 .exact e.to ⟨rfl,rfl,rfl,rfl⟩ (λp A=>e.cJ p (kj _ A)) (by dsimp only;rw[j];omega) u
 .refine⟨rfl,rfl,rfl,rfl,by simp[Wk.go],?_,oY k.1 k.2⟩
  unfold cD Wk.go;dsimp only;rw[d,show Gl.tk _ x=_ from z];refine⟨g,⟨?_,a.kind⟩⟩;have h:=a.fi.gL (b:=b) c.acc af a3;grind
def aqC(c:Cx l P bw ro G i W)(e:W.cT= .m .joined)(a:W.stack.headD 0=x)(C:t=G.tk x):rV l P bw ro ro G i W (joined l P G W x t (G.tk (W.target.getD 0))):=by
 have ct:=c.ct;unfold cD at ct;rw[e]at ct;dsimp only at ct;obtain⟨b,p,a3,q⟩:=ct;obtain⟨y,r,h2,s⟩|⟨k,r,_⟩:=b.cases;rotate_left
 .rw[r]at p;cases p
 have u:x<G.ts.length:=by rw[<-a];exact(c.top b.ne).2
 have d:=c.fl.no (by unfold Wk.waits;rw[e])
 have g:eB W:=by rw[eB,e];decide
 subst C;rw[a]at s;obtain⟨b1,b2,H,D⟩:=s;have j:=c.ty.val _ _ (c.ty.qh D).k;have F:W.target.getD 0=y:=by rw[h2];rfl
 have n:W.kind=2\/W.kind=3\/W.kind=4:=by
  rw[a3,F]at q ⊢;have:=j.2;unfold Gl.K at q ⊢;omega
 unfold joined;dsimp only;split
 .exact vL c (D_ rfl) e7 g ⟨rfl,rfl,rfl,rfl,rfl⟩
 generalize hv:(if W.kind=4 then(0:Int)else G.M.get ((G.tk (W.target.getD 0)).jI+1))=v
 have A:(if W.kind=4 then G else G.tick W.id)=G\/(if W.kind=4 then G else G.tick W.id)=G.tick W.id:=by split<;>simp
 split
 .rename_i hb;refine ZM (W1:=W.go .next) c b.ne a A (E_ rfl) ⟨rfl,rfl,rfl,rfl⟩ (c.ty.qh u).f g ⟨rfl,rfl,rfl,rfl⟩ λo e2=>OL (t:={G.tk x with f:=(di (G.tk x).f (bz P (G.tk x).f) W.kind v).1,kind:=3,v:=(di (G.tk x).f (bz P (G.tk x).f) W.kind v).2.1}) b.ne (by show Gl.tk _ (W.stack.headD 0)=_;rw[a];exact o) ⟨by show(2:Int)<=3;decide,by show(3:Int)<=4;decide⟩ d.1 d.2
 .rename_i hb;refine ZM c b.ne a A (E_ rfl) ⟨rfl,rfl,rfl,rfl⟩ ((c.ty.qh u).f) g ⟨rfl,rfl,rfl,rfl⟩ λo e2=>?_
  refine⟨rfl,rfl,rfl,rfl,by simp[Wk.go],?_,oY d.1 d.2⟩
  unfold cD Wk.go;dsimp only;rw[a,show Gl.tk _ x=_ from o];exact⟨b.ne,⟨(b1.fi.joined c.acc b2 n (gq hb)).imp λz B=>⟨B.1,by rw[e2];exact B.2⟩,b1.kind⟩⟩
def aj9(h:0<=z/\z<=32):wr (z+1)=z+1:=dh ⟨af,af⟩
def azk(c:Cx l P bw ro G i W)(d:W.cT= .m .fork)(e:W.stack.headD 0=x)(q:t=G.tk x):∃iT,rV l P bw ro iT G i W (fork G W t (G.nd t.kA.1)):=by
 have ct:=c.ct;unfold cD at ct;rw[d]at ct;dsimp only at ct;obtain⟨k,f,a3⟩:=ct;rw[e]at f a3;have r:x<G.ts.length:=by rw[<-e];exact(c.top k).2
 have o:=c.fl.no (by unfold Wk.waits;rw[d])
 have g:eB W:=by rw[eB,d];decide
 subst q;have b:=c.kA r f.cJ;obtain⟨u,p⟩:=c.ty.O7 b.1 b.2;unfold fork;split
 .exact⟨ro,vL c (D_ rfl) e7 g ⟨rfl,rfl,rfl,rfl,rfl⟩⟩
 rename_i v;split
 .exact⟨ro,vL c (D_ rfl) e7 g ⟨rfl,rfl,rfl,rfl,rfl⟩⟩
 rename_i j;have j:G.M.room 2=true:=gq j
 rw[aj9 p.n]at v ⊢;have A:=p.n;have ty:=afD (nd:=⟨(G.tk x).kA.1,(G.nd (G.tk x).kA.1).nest+1,(G.M.cells.length:Nat)⟩) (pl:=(-2,0,0,K_)) (wk:=W.id) c.ty j b ⟨by dsimp only;omega,by dsimp only;omega⟩ rfl c.ty.ck (λy z=>by have:=c.ty.Qn y z;omega)
 refine⟨_,ER c ty rfl rfl rfl (λa s hs _=>?_) rfl rfl rfl rfl g bf (λ_=>?_) (λ_=>oY o.1 o.2)⟩
 .have:=hs.lt;rw[c.ty.len]at this;show((G.M.tick W.id).grow 2).get a=_;rw[xR (M:=G.M.tick W.id) hs.1 this,tT]
 .unfold cD;dsimp only;rw[e];exact⟨k,f,a3,af,by show((G.C.length:Nat):Int)<((G.C++[_]).length:Nat);simp;omega⟩
def aqD(c:Cx l P bw ro G i W)(d:W.cT= .m .tF)(e:W.stack.headD 0=x)(n:t=G.tk x):rV l P bw ro ro G i W (tF l G W (G.nd t.kA.1)):=by
 have ct:=c.ct;unfold cD at ct;rw[d]at ct;dsimp only at ct;obtain⟨g,f,a3⟩:=ct;rw[e]at f;have o:x<G.ts.length:=by rw[<-e];exact(c.top g).2
 have j:=c.fl.no (by unfold Wk.waits;rw[d])
 subst n;have a:=c.kA o f.cJ;obtain⟨p,k⟩:=c.ty.O7 a.1 a.2;unfold tF;refine ER (m:=[]) c (c.ty.ad k.b trivial) bf rfl (by rw[n_];rfl) (xK c.ty rfl k.b (λq=>q)) rfl rfl rfl rfl (by rw[d];decide) (by simp[Wk.A6]) (λ_=>?_) (λ_=>oY j.1 j.2)
 unfold cD Wk.A6;dsimp only;rw[e];exact⟨_,rfl,g,f,a3,Yh c.ty.t1 a3 af,rfl⟩
theorem av1(c:Cx l P bw ro G i W)(B:W.cT= .m .xo)(v:W.stack.headD 0=x)(ht:t=G.tk x):∃iT,rV l P bw ro iT G i W (KQ l P G W x t):=by
 have ct:=c.ct;unfold cD at ct;rw[B]at ct;dsimp only at ct;obtain⟨D,p,a3,a4⟩:=ct;rw[v]at p a3;have F:x<G.ts.length:=by rw[<-v];exact(c.top D).2
 have X:=c.fl.no (by unfold Wk.waits;rw[B])
 have g:eB W:=by rw[eB,B];decide
 subst ht;have H:=c.kA F p.cJ;have hT:=c.ty.qh F;unfold KQ;dsimp only;split
 .exact⟨ro,vL c (D_ rfl) e7 g ⟨rfl,rfl,rfl,rfl,rfl⟩⟩
 split
 .exact⟨ro,vL c (D_ rfl) e7 g ⟨rfl,rfl,rfl,rfl,rfl⟩⟩
 rename_i I;have I:G.M.room 3=true:=gq I
 obtain⟨g',g1,g2,g3,_,g5⟩:=p.fi.fork c.acc a3;have j:∃kt,GV G.T (G.tk x).id=G_ kt:=by
  rw[hT.id];exact acH (by unfold Bb;simp;have:=c.ty.kl;omega)
 obtain⟨kt,j⟩:=j;have ty:=avQ (wk:=W.id) (f:=jo (G.tk x).f ((bz P (G.tk x).f).getD 4 0) (EN P ((bz P (G.tk x).f).getD 4 0))) c.ty I j H a4;generalize o:G.more W.id (G.tk x).id (G.tk x).kA.1 W.own (jo (G.tk x).f ((bz P (G.tk x).f).getD 4 0) (EN P ((bz P (G.tk x).f).getD 4 0)))=b at ty;have d:b.ts=G.ts++[⟨(G.T.length:Nat),(G.tk x).kA.1,W.own,(G.M.cells.length:Nat),jo (G.tk x).f ((bz P (G.tk x).f).getD 4 0) (EN P ((bz P (G.tk x).f).getD 4 0)),Oq #[],[],[W.own],0,0⟩]:=by rw[<-o];rfl
 have Y:b.ts.length=G.ts.length+1:=by rw[d];simp
 have hC:b.C=G.C:=by rw[<-o];rfl
 have Z:∀a s,k9 ro a s->s.JS->b.M.get a=G.M.get a:=λa s hs _=>by
  have:=hs.lt;rw[c.ty.len]at this;rw[<-o];show((G.M.tick W.id).grow 3).get a=_;rw[xR (M:=G.M.tick W.id) hs.1 this,tT]
 have J:uN ro (ro++[.fk G.ts.length,.fv G.ts.length,.fw G.ts.length]) G b W.hold:=adx (mc:=[]) c.ty rfl d (by rw[hC];simp) Z
 have e:b.tk x=G.tk x:=by unfold Gl.tk;rw[d,tJ F]
 obtain⟨z,st,A,q2,_⟩:=c.ne0 D;have hz:z=x:=by rw[<-v,q2]
 subst hz;have u:z∈W.hold:=by rw[kL g.1,A];simp
 have L:Ux (ro++[.fk G.ts.length,.fv G.ts.length,.fw G.ts.length]) b.C.length z {G.tk z with f:=eI (G.tk z).f (bz P (G.tk z).f) (G.ts.length:Nat)}:=by
  have:=ty.qh (x:=z) af;rw[e]at this;exact this.f
 have N:Ty l (ro++[.fk G.ts.length,.fv G.ts.length,.fw G.ts.length]) (b.set z {G.tk z with f:=eI (G.tk z).f (bz P (G.tk z).f) (G.ts.length:Nat)}).lZ:={ty.set (λ_=>L)with}
 have O:uN (ro++[.fk G.ts.length,.fv G.ts.length,.fw G.ts.length]) (ro++[.fk G.ts.length,.fv G.ts.length,.fw G.ts.length]) b (b.set z {G.tk z with f:=eI (G.tk z).f (bz P (G.tk z).f) (G.ts.length:Nat)}).lZ W.hold:=by
  have h:=adz (ro:=ro++[.fk G.ts.length,.fv G.ts.length,.fw G.ts.length]) (t':={G.tk z with f:=eI (G.tk z).f (bz P (G.tk z).f) (G.ts.length:Nat)}) (G:=b) u af (by rw[e]) (by rw[e]) (by rw[e])
  exact⟨h.ext,h.n,h.ts,h.ids,h.C,h.K0,h.K1,h.K2,h.ask⟩
 have Cd:=J.trans O (E_ λy q=>c.wt.hl y q);obtain⟨e1,e2⟩:=Yk (r:=(b.set z {G.tk z with f:=eI (G.tk z).f (bz P (G.tk z).f) (G.ts.length:Nat)}).lZ) rfl (by omega:z<b.ts.length)
 have Q:=c.wt.nd;rw[kL g.1,A]at Q;refine⟨_,afC c N Cd rfl rfl rfl rfl g bf (λy q=>?_) (λy q=>?_) (λ_=>?_) (λ_=>oY X.1 X.2) (λy h1 h2=>?_)⟩
 .rw[A]at q;have R:=c.wt.hl y (by rw[kL g.1,A];simp[show y∈st from q])
  show Gl.tk _ y=_;unfold Gl.tk;show(((b.ts.set z _))[y]?).getD tk0=_;grind
 .have R:=c.wt.hl y (by rw[kL g.1];exact q)
  unfold Gl.K;rw[(Cd.ids y R).2.2];exact Z _ _ (c.ty.qh R).k trivial
 .unfold cD;dsimp only;rw[v,show Gl.tk _ z=_ from e1];refine⟨D,⟨?_,p.kind⟩,af,?_⟩
  .exact(FI.tF c.acc (p.fi.imp λw S=>⟨S.1,by rw[e2];omega⟩) a3 ⟨af,by rw[e2];omega⟩)
  .grind
 .have U:y=G.ts.length:=by
   grind
  subst U;have:Gl.tk (b.set z {G.tk z with f:=eI (G.tk z).f (bz P (G.tk z).f) (G.ts.length:Nat)}).lZ G.ts.length=⟨(G.T.length:Nat),(G.tk z).kA.1,W.own,(G.M.cells.length:Nat),jo (G.tk z).f ((bz P (G.tk z).f).getD 4 0) (EN P ((bz P (G.tk z).f).getD 4 0)),Oq #[],[],[W.own],0,0⟩:=by
   unfold Gl.tk;show(((b.ts.set z _))[G.ts.length]?).getD tk0=_;rw[r0 af,d,u0 (iw _),Nat.sub_self];rfl
  rw[this,g3];have V:=ads (n:=(bz P (G.tk z).f).getD 4 0) (aX:=g'.aX) p.fi.len;exact⟨g5.imp λw S=>⟨S.1,by rw[e2];omega⟩,rfl,rfl,rfl,rfl,V.2.2.2.1⟩
def afH(e:CK tm)(f:0<=z)(a:∀y∈tm.2,y.2<z)(g:0<p/\p<=1099511627776):(Ko.Dt tm z p).1=0/\∀y∈(Ko.Dt tm z p).2,y.2<z+1:=by
 unfold Ko.Dt;rw[HQ (by unfold Ko.MT;omega)]
 have b:¬Ko.has tm.2 z=true:=by
  intro q;obtain⟨y,c,h2⟩:=Ko.X1.1 q;have:=a y c;omega
 rw[HQ b];refine⟨rfl,λy d=>?_⟩;rcases Ko.ac5.1 d with rfl|h
 .dsimp only;omega
 .have:=a y h;omega
theorem av3(c:Cx l P bw ro G i W)(v:W.cT= .m .opens)(d:W.stack.headD 0=x)(O:t=G.tk x)(Q:(bz P t.f).getD 4 0<=1099511627776):∃iT,rV l P bw ro iT G i W (opens l P G W x t (G.nd t.kA.1) zt):=by
 have ct:=c.ct;unfold cD at ct;rw[v]at ct;dsimp only at ct;obtain⟨z,o,a3⟩:=ct;rw[d]at o a3;have q:x<G.ts.length:=by rw[<-d];exact(c.top z).2
 have I:=c.fl.no (by unfold Wk.waits;rw[v])
 have u:eB W:=by rw[eB,v];decide
 subst O;have e:=c.kA q o.cJ;obtain⟨R,J⟩:=c.ty.O7 e.1 e.2;have K:=c.ty.qh q;unfold opens;dsimp only;split
 .exact⟨ro,vL c (D_ rfl) e7 u ⟨rfl,rfl,rfl,rfl,rfl⟩⟩
 split
 .exact⟨ro,vL c (D_ rfl) e7 u ⟨rfl,rfl,rfl,rfl,rfl⟩⟩
 rename_i S;split
 .exact⟨ro,vL c (D_ rfl) e7 u ⟨rfl,rfl,rfl,rfl,rfl⟩⟩
 rename_i A;have A:G.M.room 2=true:=gq A
 rw[aj9 J.n]at S ⊢;have vE:=J.n;generalize B:(if (bz P (G.tk x).f).getD 4 0>0 then(G.time.1,(Ko.Dt G.time (G.C.length:Nat) ((bz P (G.tk x).f).getD 4 0)).2)else G.time)=tm
 have k:CK tm/\∀y∈tm.2,y.2<G.C.length+1:=by
  rw[<-B];split
  .exact⟨c.ty.ck.set _ _,(afH c.ty.ck af c.ty.Qn ⟨af,Q⟩).2⟩
  .exact⟨c.ty.ck,λy T=>by have:=c.ty.Qn y T;omega⟩
 have ty:=afD (nd:=⟨(G.tk x).kA.1,(G.nd (G.tk x).kA.1).nest+1,(G.M.cells.length:Nat)⟩) (pl:=((G.tk x).id,(((G.tk x).scopes.length:Nat):Int),zt,K_)) (wk:=W.id) c.ty A e ⟨by dsimp only;omega,by dsimp only;omega⟩ rfl k.1 k.2
 generalize g:({G with M:=(G.M.tick W.id).grow 2,C:=G.C++[⟨(G.tk x).kA.1,(G.nd (G.tk x).kA.1).nest+1,(G.M.cells.length:Nat)⟩],P:=G.P++[((G.tk x).id,(((G.tk x).scopes.length:Nat):Int),zt,K_)],time:=tm}:Gl)=G1 at ty;have b:G1.ts=G.ts:=by rw[<-g]
 have L:G1.C=G.C++[⟨(G.tk x).kA.1,(G.nd (G.tk x).kA.1).nest+1,(G.M.cells.length:Nat)⟩]:=by rw[<-g]
 have U:G1.C.length=G.C.length+1:=by rw[L];simp
 have D:G1.tk x=G.tk x:=by unfold Gl.tk;rw[b]
 have V:∀a s,k9 ro a s->s.JS->G1.M.get a=G.M.get a:=λa s hs _=>by
  have:=hs.lt;rw[c.ty.len]at this;rw[<-g];show((G.M.tick W.id).grow 2).get a=_;rw[xR (M:=G.M.tick W.id) hs.1 this,tT]
 have j:=ty.qh (by rw[b];exact q)
 rw[D]at j;have X:=K.sn;have Y:=K.sl;have F:Ux (ro++[.ask G.C.length,.liv G.C.length]) G1.C.length x {G.tk x with scopes:=(G.tk x).scopes++[((G.C.length:Nat):Int)],cJ:=(G.tk x).cJ++[(((G.C.length:Nat):Int),W.mark)],f:=nE (G.tk x).f}:=by
  refine j.to ⟨rfl,rfl,rfl,rfl⟩ (λp Z=>?_) (by simp;omega) (by simp;omega)
  rcases zw.1 Z with h|h
  .exact j.cJ p h
  .grind
 have H:Ty l (ro++[.ask G.C.length,.liv G.C.length]) (G1.set x {G.tk x with scopes:=(G.tk x).scopes++[((G.C.length:Nat):Int)],cJ:=(G.tk x).cJ++[(((G.C.length:Nat):Int),W.mark)],f:=nE (G.tk x).f}).lZ:={ty.set (λ_=>F)with}
 obtain⟨e1,e2⟩:=Yk (r:=(G1.set x {G.tk x with scopes:=(G.tk x).scopes++[((G.C.length:Nat):Int)],cJ:=(G.tk x).cJ++[(((G.C.length:Nat):Int),W.mark)],f:=nE (G.tk x).f}).lZ) rfl (by rw[b];exact q)
 refine⟨_,avP c z H rfl (by show List.set _ _ _=_;rw[b,d]) (by show G1.C=_;exact L) V (by rw[d]) (by rw[d]) (by rw[d]) rfl rfl rfl rfl u (by simp[Wk.go]) (λ_=>?_) (λ_=>oY I.1 I.2)⟩
 unfold cD Wk.go;dsimp only;rw[d,show Gl.tk _ x=_ from e1];refine⟨z,⟨?_,o.kind⟩⟩;have h:=o.fi.opens c.acc (by have:=c.ty.cap;omega) a3
 show FI P _ (nE (G.tk x).f) ((G.tk x).cJ++[_]).length;rw[uv];exact h.imp λw N=>⟨N.1,by rw[show((G1.set x {G.tk x with scopes:=(G.tk x).scopes++[((G.C.length:Nat):Int)],cJ:=(G.tk x).cJ++[(((G.C.length:Nat):Int),W.mark)],f:=nE (G.tk x).f}).lZ).ts.length=_ from e2,b];exact N.2⟩
def JM(c:Cx l P bw ro G i W)(a:eB W)(d:x∈W.stack):G.K x=1/\x<G.ts.length:=by
 have b:x∈W.hold:=by rw[kL a.1];exact d
 refine⟨?_,c.wt.hl x b⟩;rcases c.wt.run x b with h|⟨_,_,h|h⟩
 .exact h
 .exact absurd h a.2.1
 .exact absurd h a.2.2
theorem aCv(c:Cx l P bw ro G i W)(o:W.cT= .m .put)(p:W.stack.headD 0=x)(H:t=G.tk x):rV l P bw ro ro G i W (put G W t):=by
 have ct:=c.ct;unfold cD at ct;rw[o]at ct;dsimp only at ct;obtain⟨A,B,a3⟩:=ct;rw[p]at B a3;have n:=c.fl.no (by unfold Wk.waits;rw[o])
 have f:eB W:=by rw[eB,o];decide
 subst H;obtain⟨z,st,C,I,_⟩:=c.ne0 A;have J:z=x:=by rw[<-p,I]
 subst J;obtain⟨Q,L⟩:=JM c f (x:=z) (by rw[C];simp)
 unfold put;split
 .refine tr c (D_ rfl) f ⟨rfl,rfl,rfl,rfl⟩ ⟨rfl,rfl,rfl,rfl,by simp[Wk.go],?_,oY n.1 n.2⟩
  unfold cD Wk.go;grind
 .have d:=(c.ty.qh L).v;have g:=d.lt;rw[c.ty.len]at g;have r:∀b,0<=b->((G.M.tick W.id).put ((G.tk z).jI+1) (G.tk z).v).get b=if b=(G.tk z).jI+1 then(G.tk z).v else G.M.get b:=λb hb=>MK d.1 g hb
  have e:∀y,y<G.ts.length->(G.mem ((G.M.tick W.id).put ((G.tk z).jI+1) (G.tk z).v)).K y=G.K y/\(y≠z->(G.mem ((G.M.tick W.id).put ((G.tk z).jI+1) (G.tk z).v)).V y=G.V y):=λy a=>by
   have D:=(c.ty.qh a).k;have hv:=(c.ty.qh a).v;refine⟨?_,λs=>?_⟩
   .show((G.M.tick W.id).put _ _).get (G.tk y).jI=_;rw[r _ D.1,HQ (D.ne d bf)];rfl
   .show((G.M.tick W.id).put _ _).get ((G.tk y).jI+1)=_;rw[r _ hv.1,HQ (hv.ne d (gq s))];rfl
  have j:z∈W.hold:=by rw[kL f.1,C];simp
  have N:uN ro ro G (G.mem ((G.M.tick W.id).put ((G.tk z).jI+1) (G.tk z).v)) W.hold:=
   ⟨⟨[],bf⟩,iw _,λ_ _ _=>rfl,λ_ _=>⟨rfl,rfl,rfl⟩,⟨[],by simp[Gl.mem]⟩,λy a q=>by rw[<-(e y a).1];exact q,λy a O _=>⟨(e y a).1,(e y a).2 (by rintro rfl;exact O j)⟩,λy a h2=>⟨(e y a).1,(e y a).2 (by rintro rfl;omega)⟩,λs' ⟨nd,u,h2⟩=>⟨nd,u,by
    show((G.M.tick W.id).put _ _).get _≠0;have F:=JL c.ty u;rw[r _ F.1,HQ (F.ne d bf)];exact h2⟩⟩
  refine afC c (c.ty.put ⟨rfl,rfl,bf⟩ d trivial) N rfl rfl rfl rfl f (by simp[Wk.go]) (λ_ _=>rfl) (λy a=>(e y (c.wt.hl y (by rw[kL f.1];exact a))).1) (λ_=>?_) (λ_=>oY n.1 n.2) (λy u h2=>by have h2:y<G.ts.length:=h2;omega)
  unfold cD Wk.go;dsimp only;rw[p];exact⟨A,B,a3⟩
theorem aCw(c:Cx l P bw ro G i W)(r:W.cT= .m .fin)(s:W.stack.headD 0=x)(L:t=G.tk x):rV l P bw ro ro G i W (fin G W t):=by
 have ct:=c.ct;unfold cD at ct;rw[r]at ct;dsimp only at ct;obtain⟨F,o,a3⟩:=ct;rw[s]at o a3;have H:=c.fl.no (by unfold Wk.waits;rw[r])
 have d:eB W:=by rw[eB,r];decide
 subst L;obtain⟨z,st,f,N,_⟩:=c.ne0 F;have O:z=x:=by rw[<-s,N]
 subst O;obtain⟨Q,R⟩:=JM c d (x:=z) (by rw[f];simp)
 have S:=o.k2;have u:=o.k4;have a:=(c.ty.qh R).k;have g:=a.lt;rw[c.ty.len]at g;have T:z∈W.hold:=by rw[kL d.1,f];simp
 have A:=c.wt.nd;rw[kL d.1,f]at A;unfold fin;rw[jC];have p:∀b,0<=b->(G.M.cs W.id (G.tk z).jI 1 (G.tk z).kind).1.get b=if b=(G.tk z).jI then(G.tk z).kind else G.M.get b:=λb hb=>by
  rw[abi a.1 g hb];have:G.M.get (G.tk z).jI=1:=Q;simp[this]
 have j:∀y,y<G.ts.length->(y≠z->(G.mem (G.M.cs W.id (G.tk z).jI 1 (G.tk z).kind).1).K y=G.K y)/\(G.mem (G.M.cs W.id (G.tk z).jI 1 (G.tk z).kind).1).V y=G.V y:=λy hy=>by
  have I:=(c.ty.qh hy).k;have hv:=(c.ty.qh hy).v;refine⟨λB=>?_,?_⟩
  .show(G.M.cs _ _ _ _).1.get (G.tk y).jI=_;rw[p _ I.1,HQ (I.ne a (gq B))];rfl
  .show(G.M.cs _ _ _ _).1.get ((G.tk y).jI+1)=_;rw[p _ hv.1,HQ (hv.ne a bf)];rfl
 have n:(G.mem (G.M.cs W.id (G.tk z).jI 1 (G.tk z).kind).1).K z=(G.tk z).kind:=by
  show(G.M.cs _ _ _ _).1.get (G.tk z).jI=_;rw[p _ a.1,HK rfl]
 have ty:Ty l ro (G.mem (G.M.cs W.id (G.tk z).jI 1 (G.tk z).kind).1):=c.ty.cs a ⟨af,u⟩;have U:uN ro ro G (G.mem (G.M.cs W.id (G.tk z).jI 1 (G.tk z).kind).1) W.hold:=
  ⟨⟨[],bf⟩,iw _,λ_ _ _=>rfl,λ_ _=>⟨rfl,rfl,rfl⟩,⟨[],by simp[Gl.mem]⟩,λy hy q=>by
   by_cases e:y=z
   .subst e;rw[n]at q;omega
   .rw[<-(j y hy).1 e];exact q,
  λy hy X _=>⟨(j y hy).1 (by rintro rfl;exact X T),(j y hy).2⟩,λy hy h2=>⟨(j y hy).1 (by rintro rfl;omega),(j y hy).2⟩,λs' ⟨nd,C,h2⟩=>⟨nd,C,by
    show(G.M.cs _ _ _ _).1.get _≠0;have J:=JL c.ty C;rw[p _ J.1,HQ (J.ne a bf)];exact h2⟩⟩
 have e2:(W.go .asks).hold=W.hold:=by rw[kL (by simp[Wk.go]),kL d.1];rfl
 refine⟨ty,U,⟨c.wt.id,c.wt.lt,c.wt.dq,adA (G:=G) rfl c.wt.bk,c.wt.dp,λy hy=>c.wt.hl y (by rw[<-e2];exact hy),λ_=>?_,λ_=>oY H.1 H.2,λy hy=>?_,by rw[e2];exact c.wt.nd⟩,λy hy=>D_ (by rw[<-e2];exact hy),λy C h2=>by have h2:y<G.ts.length:=h2;omega⟩
 .unfold cD Wk.go;dsimp only;rw[s];exact⟨F,o,a3⟩
 .rw[e2,kL d.1,f]at hy;rcases BP.1 hy with rfl|hy
  .refine E_ ⟨by rw[n];exact S,by show W.stack.head?=_;rw[f];rfl,D_ rfl⟩
  .have D:y∈W.stack:=by rw[f];simp[hy]
   obtain⟨Y,k2⟩:=JM c d D;grind
def azm(c:Cx l P bw ro G i W)(b:W.cT= .m .asks)(g:t=G.tk (W.stack.headD 0)):rV l P bw ro ro G i W (asks G W t):=by
 have ct:=c.ct;unfold cD at ct;rw[b]at ct;dsimp only at ct;have d:=c.fl.no (by unfold Wk.waits;rw[b])
 have f:W.hold=W.stack:=kL (by rw[b];simp)
 have e2:(asks G W t).2.hold=W.hold:=by rw[kL (by simp[asks]),f];rfl
 refine⟨c.tt,afB c.ty,⟨c.wt.id,c.wt.lt,c.wt.dq,adA (G:=G) rfl c.wt.bk,c.wt.dp,λy a=>c.wt.hl y (by rw[<-e2];exact a),λ_=>by unfold cD asks;exact ct,λ_=>oY d.1 d.2,λy a=>?_,by rw[e2];exact c.wt.nd⟩,λy a=>D_ (by rw[<-e2];exact a),λy e h2=>by have h2:y<G.ts.length:=h2;omega⟩
 rw[e2]at a;rcases c.wt.run y a with h|⟨e,h2,_⟩
 .exact D_ h
 .exact E_ ⟨e,h2,E_ rfl⟩
theorem azn(c:Cx l P bw ro G i W)(r:W.cT= .m .gone)(H:t=G.tk (W.stack.headD 0)):rV l P bw ro ro G i W (gone G W (G.nd t.l7)):=by
 have ct:=c.ct;unfold cD at ct;rw[r]at ct;dsimp only at ct;have F:=c.fl.no (by unfold Wk.waits;rw[r])
 subst H;obtain⟨z,st,s,I,x⟩:=c.ne0 ct.1;have g:=(c.ty.qh x).inn;have o:W.hold=z::st:=by rw[kL (by rw[r];simp),s]
 obtain⟨_,A⟩:=c.ty.O7 g.1 g.2;rw[I];have a:=c.wt.bk;rw[s]at a;obtain⟨kb,bs,hb⟩:∃kb bs,W.back=kb::bs:=by
  cases hh:W.back with
  |nil=>rw[hh]at a;exact a.elim
  |cons kb bs=>exact⟨kb,bs,rfl⟩
 rw[hb]at a;obtain⟨_,d,a⟩:=a;have ty:Ty l ro (gone G W (G.nd (G.tk z).l7)).1:=c.ty.ad A.b trivial;have J:uN ro ro G (gone G W (G.nd (G.tk z).l7)).1 W.hold:=ahD c.ty A.b (λq=>q);have L:=xK (v:=wr (G.M.get ((G.nd (G.tk z).l7).at_+1)+ -1)) c.ty rfl A.b (λq=>q);have B:cD l P bw ro (gone G W (G.nd (G.tk z).l7)).1 (gone G W (G.nd (G.tk z).l7)).2/\(gone G W (G.nd (G.tk z).l7)).2.cT≠ .m .start/\(gone G W (G.nd (G.tk z).l7)).2.stack=st/\(gone G W (G.nd (G.tk z).l7)).2.back=bs/\(gone G W (G.nd (G.tk z).l7)).2.cT≠ .m .asks:=by
  unfold gone;dsimp only;rw[hb,s];dsimp only[List.headD,List.tail];split
  .refine⟨?_,by simp[Wk.JF],rfl,rfl,by simp[Wk.JF]⟩
   unfold cD Wk.JF;exact d
  .unfold cD;dsimp only;cases hst:st with
   |nil=>
    rw[hst]at d;have d:kb= .m .rest:=d;grind
   |cons u DC=>
    rw[hst]at d;have d:rq P G.ts.length (G.tk u) kb:=d;have f:=d;unfold rq at d;split at d
    .exact⟨⟨bf,d⟩,bf,rfl,rfl,bf⟩
    iterate 3 exact⟨⟨bf,f⟩,bf,rfl,rfl,bf⟩
    .exact d.elim
 obtain⟨N,O,C,Q,S⟩:=B;have e2:(gone G W (G.nd (G.tk z).l7)).2.hold=st:=by rw[kL O,C]
 have p:(gone G W (G.nd (G.tk z).l7)).2.id=W.id/\(gone G W (G.nd (G.tk z).l7)).2.dq=W.dq/\(gone G W (G.nd (G.tk z).l7)).2.bO=W.bO/\(gone G W (G.nd (G.tk z).l7)).2.blocked=W.blocked:=by
  unfold gone;dsimp only;split<;>exact⟨rfl,rfl,rfl,rfl⟩
 have j:=c.wt.nd;rw[o]at j;refine⟨ty,J,⟨by rw[p.1];exact c.wt.id,c.wt.lt,by rw[p.2.1];exact c.wt.dq,by rw[C,Q];exact adA (G:=G) rfl a,?_,λy e=>c.wt.hl y (by rw[e2]at e;rw[o];simp[e]),λ_=>N,λ_=>oY (by rw[p.2.2.1];exact F.1) (by rw[p.2.2.2];exact F.2),λy e=>?_,by rw[e2];exact(VN.1 j).2⟩,λy e=>D_ (by rw[e2]at e;rw[o];simp[e]),λy T h2=>by have h2:y<G.ts.length:=h2;omega⟩
 .rw[C];have:=c.wt.dp;grind
 .rw[e2]at e;have n:y∈W.hold:=by rw[o];simp[e]
  have R:=c.wt.hl y n;have D:(gone G W (G.nd (G.tk z).l7)).1.K y=G.K y:=L _ _ (c.ty.qh R).k trivial;rw[D];rcases c.wt.run y n with h|⟨_,h2,_⟩
  .exact D_ h
  .grind
def amq(c:Cx l P bw ro G i W)(a:W.stack≠ [])(d:W.stack.headD 0=x)(f:t=G.tk x)(e:Ends (G.tk x))(g:(G.tk x).cJ≠ [])(j:W.bO=K_)(h2:W.blocked=K_)(k:eB W):rV l P bw ro ro G i W (qI G W x t):=by
 have m:x<G.ts.length:=by rw[<-d];exact(c.top a).2
 subst f;have b:=c.ty.qh m;have n:=aoa g;have s:=b.sn;unfold qI;refine ahG G.M G.steps (G.time.1,Ko.EK G.time.2 (G.tk x).kA.1) (Cq G.P (G.tk x).kA.1) c a d rfl c.ty (λ_ _ _ _=>rfl) ⟨rfl,rfl,rfl,rfl⟩ ?_ (c.ty.ck.drop _) (λy o=>c.ty.Qn y (C5.1 o).1) aay k ⟨rfl,rfl,rfl,rfl⟩ λq e2=>?_
 .exact b.to ⟨rfl,rfl,rfl,rfl⟩ (λp r=>b.cJ p (kj _ r)) (by dsimp only;omega) b.sl
 .exact OL a (by rw[d];exact q) ⟨e.k2,e.k4⟩ j h2
def rC.to(h:rC P G W)(d:G'.ts=G.ts)(e:W'.stack=W.stack)(h2:W'.again=W.again)(f:W'.target=W.target)(g:W'.qc=W.qc):rC P G' W':=by
 obtain⟨a,b,c⟩:=h;refine⟨by rw[e];exact a,?_,by rw[h2,f,g];exact c⟩
 have:G'.tk (W.stack.headD 0)=G.tk (W.stack.headD 0):=by unfold Gl.tk;rw[d]
 rw[e,h2,d,this];exact b
def ZO(p:W'.cT= .m .stops)(g:rC P G W)(d:G'.ts=G.ts)(q:G'.C=G.C)(r:∀z,z<G.ts.length->G'.K z=G.K z)(f:∀s,Wb G s->Wb G' s)(i:W'.stack=W.stack)(e2:W'.again=W.again)(j:W'.target=W.target)(t:W'.qc=W.qc)(u:W'.pG=W.pG)(v:W'.kind=W.kind)
  (hs:W'.blocked=J_->∀o,W'.step=G_ o->SpT o) (a:match W.pG with
  | .m .cancelled=>zk W.again=J_/\SE G (G.tk (W.stack.headD 0))
  | .V2 y k=>y<G.ts.length/\k=W.again
  | .BR y k=>(0<=y/\y<G.ts.length)/\k=W.again
  | .c .IF=>zk W.again=J_/\W.kind=G.K (W.target.getD 0)/\2<=W.kind
  | .c .Co=>W.again= .sh (.c .Co)
  | .c .qI=>W.again= .sh (.c .qI)
  |_=>False):cD l P bw ro G' W':=by
 unfold cD;dsimp only;rw[p];dsimp only;refine⟨g.to d i e2 j t,hs,?_⟩;rw[i,e2,j,u,v];have x:∀z,G'.tk z=G.tk z:=λz=>by unfold Gl.tk;rw[d]
 split at a<;>rename_i e<;>try exact a.elim
 all_goals try rw[e]
 .refine⟨a.1,?_⟩;obtain⟨b,A,B⟩:=a.2;rw[x];exact⟨b,by rw[q];exact A,f b B⟩
 iterate 2 rw[d];exact a
 .refine⟨a.1,?_,a.2.2⟩;obtain⟨y,n,D,F⟩|⟨k,n,_⟩:=g.cases
  .rw[D]at a ⊢;show W.kind=G'.K y;rw[r _ F.2.2.2];exact a.2.1
  .rw[n]at a;cases a.1
 iterate 2 exact a
theorem av5(c:Cx l P bw ro G i W)(a:W.cT= .m .stops)(v:W.stack.headD 0=x)(J:t=G.tk x):rV l P bw ro ro G i W (stops l G W x t G.vJ G.V8):=by
 have ct:=c.ct;unfold cD at ct;rw[a]at ct;dsimp only at ct;obtain⟨b,F,a3⟩:=ct;have f:eB W:=by rw[eB,a];decide
 subst J;have d:rC P G W:=b;unfold stops;split
 .rename_i hb;dsimp only;have hs:SpT (W.step.getD (jH.B7 0 2)):=by
   cases h:W.step with
   |none=>exact⟨e7,e7,e7⟩
   |some o=>exact F hb o h
  have hr:=amk (wk:=W.id) c.ty hs;generalize (W.step.getD (jH.B7 0 2)).go l.sp G.M W.id=r at hr ⊢;have j:∀z,z<G.ts.length->(G.mem r.2).K z=G.K z:=λz A=>hr.JS _ _ (c.ty.qh A).k trivial;have n:∀s,Wb G s->Wb (G.mem r.2) s:=(ady (hold:=[]) c.ty hr.JS).ask;refine ER (m:=[]) c hr.ty bf rfl (by rw[n_];rfl) hr.JS (by dsimp only;split<;>rfl) (by dsimp only;split<;>rfl) (by dsimp only;split<;>rfl) (by dsimp only;split<;>rfl) f (by dsimp only;split<;>(dsimp only;rw[a];simp)) (λ_=>?_) (λ_=>?_)
  .dsimp only;split
   .exact ZO a d rfl rfl j n rfl rfl rfl rfl rfl rfl (λ_ o B=>by cases B) a3
   .exact ZO a d rfl rfl j n rfl rfl rfl rfl rfl rfl (λ_ o B=>by cases B;exact hr.sp) a3
  .dsimp only;split
   .refine⟨λq=>?_,c.fl.SG,λ_ q=>by dsimp only at q;rw[a]at q;rcases q with q|q<;>(cases q)⟩
    unfold Wk.waits at q;grind
   .exact SI c rfl rfl rfl (by unfold Wk.waits;dsimp only;rw[a]) (by dsimp only;rw[a];exact⟨rfl,rfl⟩)
 rename_i hb;have hb:W.blocked=false:=gq hb
 split
 .rename_i hr;have p:=c.fl.SG hr;obtain⟨y,H,h2,L⟩|⟨k,H,_⟩:=b.cases;rotate_left
  .rw[H]at p;cases p
  have N:W.target.getD 0=y:=by rw[h2];rfl
  have I:y<G.ts.length:=L.2.2.2;have u:=(c.ty.qh I).w;have C:G.V8 y=(G.tk y).jI:=by unfold Gl.V8 Gl.tk;rw[iH I];rfl
  rw[N,C];refine ER (m:=[]) c (c.ty.ad u trivial) bf rfl (by rw[n_];rfl) (xK c.ty rfl u (λq=>q)) rfl rfl rfl rfl f (by dsimp only;rw[a];simp) (λ_=>?_) (λ_=>?_)
  .exact ZO a d rfl rfl (λz A=>xK c.ty rfl u (λq=>q) _ _ (c.ty.qh A).k trivial) (ahD (hold:=[]) c.ty u (λq=>q)).ask rfl rfl rfl rfl rfl rfl F a3
  .exact⟨λq=>by unfold Wk.waits at q;dsimp only at q;rw[a]at q;(cases q),λq=>by(cases q),λ_ q=>by dsimp only at q;rw[a]at q;rcases q with q|q<;>(cases q)⟩
 rename_i hr;have hr:W.bO=false:=gq hr
 unfold pG;split at a3
 .rename_i e;rw[e];exact ahH c b.ne v rfl (D_ rfl) ⟨e7,e7⟩ hr hb f ⟨rfl,rfl,rfl,rfl,rfl,rfl⟩
 .rename_i y k e;rw[e];have O:G.vJ y=y:=by
   have:=(c.ty.qh a3.1).id;unfold Gl.vJ;rw[G.xw a3.1];exact this
  refine tr c (D_ rfl) f ⟨rfl,rfl,rfl,rfl⟩ (SK hr hb (by dsimp only;rw[O];have:=a3.1;omega) ?_)
  obtain⟨z,st,Q,D,_⟩:=c.ne0 b.ne;have:=b.hm;rw[D]at this;unfold EP;grind
 .rename_i y k e;rw[e];refine tr c (D_ rfl) f ⟨rfl,rfl,rfl,rfl⟩ (SK hr hb a3.1 ?_);obtain⟨z,st,Q,D,_⟩:=c.ne0 b.ne;have:=b.hm;rw[D]at this;unfold EP;grind
 .rename_i e;rw[e];exact tr c (D_ rfl) f ⟨rfl,rfl,rfl,rfl⟩ ⟨rfl,rfl,rfl,rfl,by simp[Wk.go],by unfold cD Wk.go;exact⟨d.of rfl rfl rfl rfl,a3.1,a3.2.1,a3.2.2⟩,oY hr hb⟩
 .rename_i e;rw[e];have g:=b.hm;rw[a3]at g;exact tr c (D_ rfl) f ⟨rfl,rfl,rfl,rfl⟩ ⟨rfl,rfl,rfl,rfl,by simp[Wk.go],by unfold cD Wk.go;exact⟨b.ne,g.1,g.2⟩,oY hr hb⟩
 .rename_i e;rw[e];have g:=b.hm;rw[a3,v]at g;exact amq c b.ne v rfl g.1 g.2 hr hb f
 .exact a3.elim
theorem aqE(c:Cx l P bw ro G i W)(u:W.cT= .m .tE)(x:∀y,y<G.ts.length->G.K y=0->OJ P G.ts.length (G.tk y)):rV l P bw ro ro G i W (tE G W (G.tk W.jq.toNat)):=by
 have ct:=c.ct;unfold cD at ct;rw[u]at ct;dsimp only at ct;obtain⟨I,a⟩:=ct;have r:=c.fl.no (by unfold Wk.waits;rw[u])
 have d:eB W:=by rw[eB,u];decide
 have s:W.jq.toNat<G.ts.length:=af;generalize C:W.jq.toNat=y at s;have f:=(c.ty.qh s).k;have j:=f.lt;rw[c.ty.len]at j;unfold tE;rw[jC];have h2:(G.M.cs W.id (G.tk y).jI 0 1).2=L_ (G.K y=0):=ay2;have A:∀b,0<=b->(G.M.cs W.id (G.tk y).jI 0 1).1.get b=if b=(G.tk y).jI/\G.K y=0 then 1 else G.M.get b:=λb hb=>abi f.1 j hb
 have n:∀z,z<G.ts.length->(G.mem (G.M.cs W.id (G.tk y).jI 0 1).1).K z=(if z=y/\G.K y=0 then 1 else G.K z)/\(G.mem (G.M.cs W.id (G.tk y).jI 0 1).1).V z=G.V z:=λz hz=>by
  have D:=(c.ty.qh hz).k;have hv:=(c.ty.qh hz).v;constructor
  .show(G.M.cs _ _ _ _).1.get (G.tk z).jI=_;rw[A _ D.1];by_cases e:z=y
   .subst e;simp;rfl
   .rw[HQ (λq=>D.ne f (gq e) q.1),HQ (λq=>e q.1)];rfl
  .show(G.M.cs _ _ _ _).1.get ((G.tk z).jI+1)=_;rw[A _ hv.1,HQ (λq=>hv.ne f bf q.1)];rfl
 have ty:Ty l ro (G.mem (G.M.cs W.id (G.tk y).jI 0 1).1):=c.ty.cs f ⟨e7,e7⟩;have F:uN ro ro G (G.mem (G.M.cs W.id (G.tk y).jI 0 1).1) W.hold:=
  ⟨⟨[],bf⟩,iw _,λ_ _ _=>rfl,λ_ _=>⟨rfl,rfl,rfl⟩,⟨[],by simp[Gl.mem]⟩,λz hz q=>by
   rw[(n z hz).1]at q;split at q
   .cases q
   .exact q,
  λz hz _ q=>⟨by rw[(n z hz).1,HQ (by rintro⟨rfl,J⟩;omega)],(n z hz).2⟩,λz hz q=>⟨by rw[(n z hz).1,HQ (by rintro⟨rfl,J⟩;omega)],(n z hz).2⟩,λs' ⟨nd,t,h2⟩=>⟨nd,t,by
    show(G.M.cs _ _ _ _).1.get _≠0;have H:=JL c.ty t;rw[A _ H.1,HQ (λq=>H.ne f bf q.1)];exact h2⟩⟩
 have N:=kL d.1;have o:∀z∈W.stack,(G.mem (G.M.cs W.id (G.tk y).jI 0 1).1).K z=1:=λz hz=>by
  obtain⟨O,k2⟩:=JM c d hz;grind
 rw[h2];by_cases B:G.K y=0
 .rw[HK (by simp[B])]
  have L:y ∉ W.stack:=λq=>by have:=(JM c d q).1;omega
  have e2:({W with cT:= .m .start}:Wk).hold=y::W.stack:=by unfold Wk.hold;dsimp only;rw[HK rfl,C];rfl
  refine⟨ty,F,⟨c.wt.id,c.wt.lt,c.wt.dq,adA (G:=G) rfl c.wt.bk,c.wt.dp,λz hz=>?_,λ_=>?_,λ_=>oY r.1 r.2,λz hz=>?_,?_⟩,λz hz=>?_,λz t h2=>by have h2:z<G.ts.length:=h2;omega⟩
  .rw[e2]at hz;rcases BP.1 hz with rfl|hz
   .exact s
   .exact(JM c d hz).2
  .unfold cD;dsimp only;rw[C];exact⟨I,a,x y s B⟩
  .grind
  .rw[e2];have:=c.wt.nd;grind
  .grind
 .rw[HQ (by simp[B])]
  have p:cD l P bw ro (G.mem (G.M.cs W.id (G.tk y).jI 0 1).1) {W with cT:=W.home}/\W.home≠ .m .start:=by
   unfold cD;dsimp only;unfold EP at a;cases hs:W.stack with
   |nil=>rw[hs]at a;dsimp only at a;rw[a];exact⟨rfl,bf⟩
   |cons z st=>
    rw[hs]at a;dsimp only at a;have g:=a;unfold rq at a;split at a
    .rename_i e;rw[e];exact⟨⟨bf,a⟩,bf⟩
    iterate 3 rename_i e;rw[e];rw[e]at g;exact⟨⟨bf,g⟩,bf⟩
    .exact a.elim
  exact afC c ty F rfl rfl rfl rfl d p.2 (λ_ _=>rfl) (λz hz=>by dsimp only;rw[o z hz,(JM c d hz).1]) (λ_=>p.1) (λ_=>oY r.1 r.2) (λz t h2=>by have h2:z<G.ts.length:=h2;omega)
def av6(c:Cx l P bw ro G i W)(e:W.cT= .m .start)(v:W.jq.toNat=y):rV l P bw ro ro G i W (OF l G W y (G.tk y)):=by
 have ct:=c.ct;unfold cD at ct;rw[e]at ct;dsimp only at ct;obtain⟨L,j,a3⟩:=ct;rw[v]at a3;have x:=c.fl.no (by unfold Wk.waits;rw[e])
 have k:y<G.ts.length:=af;have b:=c.ty.qh k;have n:W.hold=y::W.stack:=by unfold Wk.hold;rw[HK e,v];rfl
 unfold OF;split
 .refine⟨{c.ty with},⟨⟨[],bf⟩,iw _,λ_ _ _=>rfl,λ_ _=>⟨rfl,rfl,rfl⟩,⟨[],by simp[Gl.fail]⟩,λ_ _ q=>q,λ_ _ _ _=>⟨rfl,rfl⟩,λ_ _ _=>⟨rfl,rfl⟩,λ_ q=>q⟩,⟨c.wt.id,c.wt.lt,c.wt.dq,adA (G:=G) rfl c.wt.bk,c.wt.dp,c.wt.hl,λq=>by(cases q),λq=>by(cases q),c.wt.run,c.wt.nd⟩,λz a=>D_ a,λz F h2=>by have h2:z<G.ts.length:=h2;omega⟩
 rename_i H;generalize N:G.M.get (W.dq+1)=mk;have o:Ux ro G.C.length y {G.tk y with cJ:=[((G.tk y).own,mk)]}:=b.to ⟨rfl,rfl,rfl,rfl⟩ (λp A=>by simp at A;subst A;exact b.own) (by dsimp only;rw[a3.cl,a3.sc];exact iw 1) b.sl
 obtain⟨I,d⟩:=Yk (r:=(G.tick W.id).set y {G.tk y with cJ:=[((G.tk y).own,mk)]}) (G:=G) rfl k;have ty:Ty l ro ((G.tick W.id).set y {G.tk y with cJ:=[((G.tk y).own,mk)]}):=c.tt.set (λ_=>o)
 have f:y∈W.hold:=by rw[n];simp
 have B:uN ro ro G ((G.tick W.id).set y {G.tk y with cJ:=[((G.tk y).own,mk)]}) W.hold:=(afB c.ty).trans (adz f k rfl rfl rfl) (D_ rfl);have g:=c.wt.nd;rw[n]at g;have s:=(VN.1 g).1;have t:∀z∈W.stack,((G.tick W.id).set y {G.tk y with cJ:=[((G.tk y).own,mk)]}).tk z=G.tk z:=λz a=>an7 (by rintro rfl;exact s a)
 have e2:(({W with stack:=y::W.stack,back:=W.home::W.back}:Wk).looks (G.tk y).l7 (.c .xp)).hold=W.hold:=by
  rw[kL (by simp[Wk.looks]),n];rfl
 refine⟨ty,B,⟨c.wt.id,c.wt.lt,c.wt.dq,?_,?_,λz a=>by show z<List.length _;rw[d];exact c.wt.hl z (by rw[<-e2];exact a),λ_=>?_,λ_=>oY x.1 x.2,λz a=>?_,by rw[e2];exact c.wt.nd⟩,λz a=>D_ (by rw[<-e2];exact a),λz F h2=>by rw[d]at h2;omega⟩
 .refine⟨by show y<List.length _;rw[d];exact k,?_,avO (by rw[d];exact iw _) t c.wt.bk⟩
  show EP P _ W.stack W.home;cases hs:W.stack with
  |nil=>rw[hs]at j;exact j
  |cons z st=>
   rw[hs]at j t;show rq P _ (Gl.tk _ z) _;rw[t z bf];exact rq.imp j (by rw[d];exact iw _)
 .show((y::W.stack).length:Int)<=l.deep;have:=c.wt.dp;simp;omega
 .unfold cD Wk.looks;dsimp only[List.headD];rw[show Gl.tk _ y=_ from I];exact⟨_,rfl,rfl,b.inn,.refl b.inn.1 b.inn.2,bf,⟨a3.fi.imp λw D=>⟨D.1,by rw[d];exact D.2⟩,a3.kind⟩⟩
 .rw[e2]at a;have u:=c.wt.hl z a;have J:((G.tick W.id).set y {G.tk y with cJ:=[((G.tk y).own,mk)]}).K z=G.K z:=by
   unfold Gl.K;rw[(B.ids z u).2.2];rfl
  rcases c.wt.run z a with h|⟨_,_,h|h⟩
  .exact D_ (J.trans h)
  iterate 2 rw[e]at h;cases h
end Go.Proofs.YthidhjhkmjjckaaGreatDoor
