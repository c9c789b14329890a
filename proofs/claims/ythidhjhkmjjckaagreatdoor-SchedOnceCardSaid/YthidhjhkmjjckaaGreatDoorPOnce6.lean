/-
  Parts of the proof of LOnce: printed by a program out of longer texts.
-/
import Derived.Test.YthidhjhkmjjckaaGreatDoorPOnce5
set_option linter.unusedSimpArgs false
set_option linter.unusedVariables false
set_option maxRecDepth 100000
set_option linter.defProp false
open Go.IntKind renaming i64->B_
open Go.Value renaming slice->IC,bool->Iq
open Or renaming inl->D_,inr->E_
open Go.Fn renaming func->F_
open Option renaming some->G_,none->H_,getD_some->jB,map_eq_some_iff->r3,some->G_
open Bool renaming true->J_,false->K_
open Decidable renaming decide->L_
open Go renaming Value->M_
open ByteArray renaming mk->Oq
open Classical renaming not_not->mF
open Int renaming add_zero->jC,le_refl->mG,natCast_add->mH
open List renaming append_nil->n_,cons_append->S',dropLast_subset->kj,drop_eq_getElem_cons->TT,eq_of_mem_replicate->mm,exists_cons_of_ne_nil->kp,ext_getElem?->p_,filter_append->Ur,filter_cons->mv,filter_eq_nil_iff->Us,flatMap_cons->n5,getElem?_cons_succ->gg,getElem?_eq_none->s_,getElem?_of_mem->n6,getElem_mem->nX,length_map->U',length_replicate->nt,length_set->VJ,map_append->VK,map_cons->z_,map_set->o3,mem_append_left->hG,mem_cons->BP,mem_filter->C5,mem_map->C6,mem_of_mem_tail->o4,mem_or_eq_of_mem_set->VL,mem_range->C8,mem_singleton->hM,nil_append->VM,nodup_append->od,nodup_cons->VN,nodup_nil->oo,range->CX,set->qs,take_add_one->qz
open Nat renaming zero_add->FM
open List renaming getElem?_eq_some_iff->kB,getElem?_eq_getElem->iH,getD_eq_getElem?_getD->m0,getElem?_append_left->tJ,getElem?_append_right->u0,getElem?_set_ne->r0,getElem?_set_self->uO,mem_of_getElem?->qn,getElem?_map->l8,eraseIdx->I7,insertIdx_succ_cons->aBT,insertIdx_zero->aBU,replicate->dU,mem_append->zw,length_append->uv,all_eq_true->tL
open Go.Sem renaming run_pure->cP,run_bind->cR
open Go.Result renaming andThen_ok->cK
open Bool renaming or_eq_false_iff->kf,and_eq_true->iY
open Option renaming isNone->eA
open Go.IntKind renaming wrap->aF
open Int renaming toNat_natCast->iZ
open Array renaming setIfInBounds->eS,getElem?_eq_some_iff->Bf
open Nat renaming le_refl->iw
open Go.Addr renaming add->aY
namespace Go.Proofs.YthidhjhkmjjckaaGreatDoor
open Go Go.Ev Go.Proofs
open Ko (CK)
open Ck (oW)
open Fr (A0 nE dY eI di iG jo nF o5)
structure IV (l:Lc) (P:List dB) (bw:List Int) (ro:List Ro) (G:Gl) (Ws:List Wk):Prop where
 lc:afx l
 lg:0<=l.log/\l.log<=8
 acc:oW P
 ty:Ty l ro G
 wn:l.wa.length=Ws.length
 dl:Ws.map (·.dq)=bw
 dq:∀v,v<l.wa.length->ZH ro v (bw.getD v 0)
 w:∀(i:Nat) (W:Wk),Ws[i]?=G_ W->WT l P bw ro G i W
 dj:∀(i j:Nat) (Wi Wj:Wk) (x:Nat),Ws[i]?=G_ Wi->Ws[j]?=G_ Wj->x∈Wi.hold->x∈Wj.hold->i=j
 fr:∀x,x<G.ts.length->G.K x=0->OJ P G.ts.length (G.tk x)
variable{G:Gl}{P:List dB}{W:Wk}{Ws:List Wk}{bw:List Int}{l:Lc}{ro:List Ro}
variable{z3:Nat}
def IV.cx(h:IV l P bw ro G Ws)(hi:Ws[z3]?=G_ W)(a:G.err=0):Cx l P bw ro G z3 W:=⟨h.lc,h.lg,h.acc,h.ty,h.w z3 W hi,h.dq,a⟩
theorem av8(kd:Int):(Ck.pY kd).2<=2147483647:=by
 unfold Ck.pY;grind
theorem av9(a:Ck.oV bw=0):bw.getD 4 0<=1099511627776:=by
 unfold Ck.oV at a;split at a
 .cases a
 .split at a
  .rename_i b;unfold Ck.fits at b;rw[tL]at b;have f3:=b 3 e7;unfold Ck.fit at f3;have:=av8 ((Ck.kinds (Ck.gA bw)).getD 3 0);grind
  .cases a
variable{i y:Nat}{iT:List Ro}
def azo(c:Cx l P bw ro G i W)(j:bw.length=l.wa.length)(n:∀y,y<G.ts.length->G.K y=0->OJ P G.ts.length (G.tk y)):∃iT,rV l P bw ro iT G i W (ZB l P G W bw):=by
 have ct:=c.ct;unfold ZB;dsimp only;generalize d:W.stack.headD 0=x;have e:G.tk (W.stack.headD 0)=G.tk x:=by rw[d]
 cases a:W.cT with
 |m f=>
  cases f with
  |rest=>exact⟨_,aza c a⟩
  |pF=>
   have b:=ct;unfold cD at b;rw[a]at b;dsimp only at b;obtain⟨O,hO,_⟩:=b;dsimp only;rw[hO];obtain⟨iT,h,_⟩:=aml c j a hO e.symm;exact⟨iT,h⟩
  |looking=>
   have b:=ct;unfold cD at b;rw[a]at b;dsimp only at b;obtain⟨k,p,_⟩:=b;dsimp only;rw[p];exact⟨_,amo c a p d rfl⟩
  |tell=>exact⟨_,azb c a⟩
  |others=>exact⟨_,aqv c a⟩
  |xn=>
   have b:=ct;unfold cD at b;rw[a]at b;dsimp only at b;obtain⟨_,_,o,g,_⟩:=b;dsimp only;rw[g];exact⟨_,aqu c a g⟩
  |So=>exact⟨_,aCo c a⟩
  |JA=>exact⟨_,azc c a⟩
  |tE=>exact⟨_,aqE c a n⟩
  |start=>exact⟨_,av6 c a rfl⟩
  |next=>exact⟨_,azh c a d rfl⟩
  |fork=>exact azk c a d rfl
  |xo=>exact av1 c a d rfl
  |tF=>exact⟨_,aqD c a d rfl⟩
  |join=>exact⟨_,azg c a e.symm⟩
  |cJ=>exact⟨_,aCq c a⟩
  |opens=>
   have b:=ct;unfold cD at b;rw[a]at b;dsimp only at b;rw[d]at b;exact av3 c a d rfl (av9 (b.2.1.fi.oV c.acc))
  |close=>exact⟨_,av0 c a d rfl⟩
  |gL=>exact⟨_,aqB c a d rfl⟩
  |cancel=>exact⟨_,aqA c a d rfl⟩
  |pass=>exact⟨_,azj c a d rfl⟩
  |leave=>exact⟨_,avZ c a d rfl⟩
  |put=>exact⟨_,aCv c a d rfl⟩
  |fin=>exact⟨_,aCw c a d rfl⟩
  |asks=>exact⟨_,azm c a e.symm⟩
  |gone=>exact⟨_,azn c a e.symm⟩
  |asked=>exact⟨_,avW c a e.symm⟩
  |joined=>exact⟨_,aqC c a d rfl⟩
  |ul=>exact⟨_,aqz c a e.symm⟩
  |rp=>exact⟨_,amm c a⟩
  |sx=>exact⟨_,amn c a e.symm⟩
  |register=>exact⟨_,aj7 c a⟩
  |block=>
   have b:=ct;unfold cD at b;rw[a]at b;dsimp only at b;obtain⟨_,o,g,_⟩:=b;dsimp only;rw[g];exact⟨_,avS c a g⟩
  |Io=>exact⟨_,azf c a e.symm⟩
  |stops=>exact⟨_,av5 c a d rfl⟩
  |cancelled=>unfold cD at ct;rw[a]at ct;exact ct.elim
  |vQ=>unfold cD at ct;rw[a]at ct;exact ct.elim
  |BQ=>unfold cD at ct;rw[a]at ct;exact ct.elim
  |y5=>unfold cD at ct;rw[a]at ct;exact ct.elim
  |nothing=>unfold cD at ct;rw[a]at ct;exact ct.elim
  |Uv=>unfold cD at ct;rw[a]at ct;exact ct.elim
  |AL=>unfold cD at ct;rw[a]at ct;exact ct.elim
 |aw y=>exact⟨_,aE7 c a e.symm⟩
 |sh k=>exact⟨_,aE8 c a e.symm⟩
 |no=>unfold cD at ct;rw[a]at ct;exact ct.elim
 |any=>unfold cD at ct;rw[a]at ct;exact ct.elim
 |c f=>unfold cD at ct;rw[a]at ct;exact ct.elim
 |nx i=>unfold cD at ct;rw[a]at ct;exact ct.elim
 |V2 y k=>unfold cD at ct;rw[a]at ct;exact ct.elim
 |BR y k=>unfold cD at ct;rw[a]at ct;exact ct.elim
 |hl m z=>unfold cD at ct;rw[a]at ct;exact ct.elim
theorem IV.step(h:IV l P bw ro G Ws)(hi:Ws[i]?=G_ W)(z:G.err=0):∃iT,rV l P bw ro iT G i W (ZB l P G W bw)/\IV l P bw iT (ZB l P G W bw).1 (Ws.set i (ZB l P G W bw).2):=by
 have c:=h.cx hi z;have d:=(kB.1 hi).1;obtain⟨iT,hr⟩:=azo c (by rw[<-h.dl,U',h.wn]) h.fr
 generalize ZB l P G W bw=r at hr ⊢;refine⟨iT,hr,h.lc,h.lg,h.acc,hr.ty,by rw[VJ];exact h.wn,?_,λv hv=>?_,λj Wj a=>?_,λj k Wj o x a f g p=>?_,λx s A=>?_⟩
 .rw[o3,hr.wt.dq,<-h.dl];have:(Ws.map (·.dq)).getD i 0=W.dq:=by rw[m0,l8,hi];rfl
  rw[this];apply p_;intro k;by_cases f:i=k
  .subst f;rw[uO (gq d),l8,hi];rfl
  .rw[r0 f]
 .obtain⟨m,e⟩:=hr.Cd.ext;rw[e];exact(h.dq v hv).qT
 .by_cases e:i=j
  .subst e;rw[uO d]at a;cases a
   exact hr.wt
  .rw[r0 e]at a;exact(h.w j Wj a).imp hr.Cd (λx s q=>e (h.dj i j W Wj x hi a q s)) (λ_=>z)
 .have key:∀j Wj,Ws[j]?=G_ Wj->i≠j->∀x∈Wj.hold,x ∉ r.2.hold:=λj Wj a t x g u=>by
   rcases hr.hd x u with q|⟨C,D⟩
   .exact t (h.dj i j W Wj x hi a q g)
   .have:=(h.w j Wj a).run x g;omega
  by_cases e:i=j
  .grind
  .rw[r0 e]at a;by_cases e2:i=k
   .grind
   .rw[r0 e2]at f;exact h.dj j k Wj o x a f g p
 .by_cases b:x<G.ts.length
  .have B:=hr.Cd.K0 x b A;have y:x ∉ W.hold:=λq=>by have:=(h.w i W hi).run x q;omega
   rw[hr.Cd.tk b y];exact(h.fr x b B).imp hr.Cd.n
  .exact hr.fr x af s
variable{O:bu}{u:Nat}
variable{zd:Int}
def Cb.aFj(h:Ty l ro G)(a:ZH ro u zd)(hO:Cb l ro G.ts.length u zd O):O.GX:=by
 refine⟨λe=>⟨hO.c2 af,hO.b,hO.t⟩,λe=>?_,hO.nx,?_⟩
 .obtain⟨c,f,_⟩:=hO.c4 e;exact⟨c,f⟩
 .have g:=a.top.lt;have i:=a.top.1;rw[h.len]at g;have:=h.ok.fit;have:=h.ok.size;rw[hO.at_];exact⟨i,af⟩
def Cx.inA(c:Cx l P bw ro G i W):xH W.dq:=by
 have a:=c.own.top.lt;have b:=c.own.top.1;rw[c.ty.len]at a;have:=c.ty.ok.fit;have:=c.ty.ok.size;exact⟨b,af⟩
def Cx.spf(c:Cx l P bw ro G i W){o:jH}(h:SpT o):o.GX l.sp G.M W.id:=by
 have hb:=c.ty.val _ _ c.ty.OI;obtain⟨x,a⟩:=Int.eq_ofNat_of_zero_le hb.1;exact⟨h.1,c.can c.ty.Ye,c.can c.ty.OI,⟨x,a,by have:=hb.2;omega⟩⟩
variable{x:Nat}
def Cx.sc(c:Cx l P bw ro G i W)(e:x<G.ts.length):G8 G (G.tk x).l7/\G.M.can W.id (G.nd (G.tk x).l7).at_=J_/\G.M.can W.id ((G.nd (G.tk x).l7).at_+1)=true:=by
 have d:=(c.ty.qh e).inn;obtain⟨f,h2⟩:=c.ty.O7 d.1 d.2;exact⟨f,c.can h2.a,c.can h2.b⟩
def Cx.sc1(c:Cx l P bw ro G i W)(e:x<G.ts.length)(f:(G.tk x).cJ≠ []):G8 G (G.tk x).kA.1/\G.M.can W.id (G.nd (G.tk x).kA.1).at_=J_/\G.M.can W.id ((G.nd (G.tk x).kA.1).at_+1)=true:=by
 have d:=c.kA e f;obtain⟨g,h2⟩:=c.ty.O7 d.1 d.2;exact⟨g,c.can h2.a,c.can h2.b⟩
def Cx.dr(c:Cx l P bw ro G i W)(b:x<G.ts.length)(d:(G.tk x).cJ≠ []):Dr G (G.tk x).kA.1:=by
 have a:=c.kA b d;exact⟨c.ty.Zs,c.ty.ck,a.1,⟨_,iH (by rw[c.ty.pl];omega)⟩⟩
variable{zh:Tk}{zn:Kn}
def amr(h:rq P i zh (.sh zn)):zh.cJ≠ []:=by
 unfold rq at h;split at h
 iterate 2 rename_i e;cases e
 .exact h.1.cJ
 .exact h.2
 .exact h.elim
def Yl(h:rC P G W):(G.tk (W.stack.headD 0)).cJ≠ []:=by
 obtain⟨y,a,h2,b⟩|⟨k,a,_,_,c⟩:=h.cases
 .exact b.1.cJ
 .exact amr c
def ahI(h:rC P G W)(a:zk W.again=J_):ajG G W:=by
 obtain⟨y,b,h2,c⟩|⟨k,b,_⟩:=h.cases
 .exact⟨by rw[h2];rfl,by rw[h2];exact c.2.2.2⟩
 .rw[b]at a;cases a
def azp(h:rC P G W):∀y,W.target=G_ y->y<G.ts.length:=λy a=>by
 obtain⟨z,b,h2,c⟩|⟨k,b,h2,_⟩:=h.cases
 .rw[h2]at a;cases a;exact c.2.2.2
 .rw[h2]at a;cases a
def aaz(h:rC P G W)(a:zk W.again=J_->W.dK= .m .vQ/\W.wait.how=1)(h2:SF W.again=J_->W.dK= .c .Db):W.dK= .m .vQ\/W.dK= .c .Db:=by
 obtain⟨z,e,_⟩|⟨k,e,_⟩:=h.cases
 .exact D_ (a (by rw[e];rfl)).1
 .exact E_ (h2 (by rw[e];rfl))
def aCA(h:rC P G W):afv G W (G.tk (W.stack.headD 0)):=by
 unfold afv;obtain⟨z,e,_⟩|⟨k,e,_,_,a⟩:=h.cases
 .rw[e];trivial
 .rw[e];exact amr a
variable{W1:Wk}
theorem IV.vi(h:IV l P bw ro G Ws)(hi:Ws[i]?=G_ W)(g:W1.id=i)(c:∀j∈W1.left,0<=j/\j<l.wa.length/\j≠W1.id)(d:W1.none_= .m .y5\/(W1.none_= .m .nothing/\W1.wait.how=1)):aar l ((l.wa.zip Ws).eraseIdx i) bw W1:=by
 refine⟨d,λj r e=>?_⟩;obtain⟨k,h2,n⟩:=c j (by rw[e];simp)
 have o:=h.wn;have a:j.toNat<l.wa.length:=af;have b:j.toNat<Ws.length:=af;have p:(l.wa.zip Ws)[j.toNat]?=G_ (l.wa[j.toNat]'a,Ws[j.toNat]'b):=by grind
 have f:j.toNat≠i:=af;refine⟨j.toNat,l.wa[j.toNat]'a,if j.toNat<i then j.toNat else j.toNat - 1,Ws[j.toNat]'b,af,iH a,?_,?_⟩
 .grind
 .rw[<-h.dl,m0,l8,iH b];rfl
def adC(h:Dx l P G W):W.none_= .m .y5\/(W.none_= .m .nothing/\W.wait.how=1):=by
 rcases h.what with⟨_,_,_,a⟩|⟨_,_,_,a⟩
 .exact D_ a
 .exact E_ ⟨a,h.how⟩
variable{w0:World}
theorem IV.ok(h:IV l P bw ro G Ws)(hi:Ws[i]?=G_ W)(R:G.err=0)(z:iA w0 l.ps P):ajH l P ((l.wa.zip Ws).eraseIdx i) bw G W:=by
 have c:=h.cx hi R;have ct:=c.ct;have cap:=c.ty.cap;have vK:=c.an8;have J:W.back.length<=100000:=by
  have hb:=c.wt.bk;have:∀(st:List Nat) (b:List Kn),KU P G st b->b.length=st.length:=by
   intro st;induction st with
   |nil=>intro b hb;cases b<;>first|rfl|exact hb.elim
   |cons y st ih=>intro b hb;cases b with
    |nil=>exact hb.elim
    |cons k b=>simp[ih b hb.2.2]
  rw[this _ _ hb];have:=c.wt.nd;unfold Wk.hold at this;have h2:=(od.1 this).2.1;have:=ML h2 λy D=>c.wt.hl y (by unfold Wk.hold;simp[D])
  omega
 have S:W.stack.length<=100000:=by
  have:=c.wt.nd;unfold Wk.hold at this;have h2:=(od.1 this).2.1;have:=ML h2 λy D=>c.wt.hl y (by unfold Wk.hold;simp[D])
  omega
 have f:W.stack≠ []->G7 G W (W.stack.headD 0) (G.tk (W.stack.headD 0))/\W.stack.headD 0<G.ts.length:=c.top;unfold cD at ct;unfold ajH;dsimp only at ct ⊢;have n:∀(O:bu) (u:Nat),u<l.wa.length->Cb l ro G.ts.length u (bw.getD u 0) O->O.GX/\((O.step G.M W.id).1.how=6->(O.step G.M W.id).1.err≠0):=λO u Q hO=>by
  obtain⟨iT,K⟩:=aj2 c.lg c.ty (c.dq u Q) c.caller hO;exact⟨hO.aFj c.ty (c.dq u Q),K.err⟩
 have p:∀(O:bu) (k:Nat),(Cb l ro G.ts.length W.id.toNat W.dq O/\O.kind=k)->Cb l ro G.ts.length i (bw.getD i 0) O:=λO k q=>by rw[c.idn,c.wt.dq]at q;exact q.1
 split at ct<;>rename_i U<;>try exact ct.elim
 all_goals try rw[U]
 all_goals try dsimp only
 .exact c.can c.ty.told
 .obtain⟨O,hO,ct⟩:=ct;refine⟨O,hO,?_⟩;split at ct<;>rename_i F<;>try exact ct.elim
  .have:=n O i c.wt.lt (p O 1 ct.2.2);exact⟨this.1,this.2,λ_ _=>by unfold aas;dsimp only;rw[F];trivial⟩
  .have:=n O i c.wt.lt (p O 0 ct.2.2.2);exact⟨this.1,this.2,λ_ _=>by unfold aas;dsimp only;rw[F];trivial⟩
  .have:=n O i c.wt.lt (p O 1 ct.2.2.2);refine⟨this.1,this.2,λ_ _=>?_⟩;unfold aas;dsimp only;rw[F];have d:=f ct.1.ne;exact⟨⟨_,d.1.s⟩,d.1.t,aaz ct.1 ct.2.1 ct.2.2.1⟩
  .obtain⟨m,⟨u,g,a3,C,L⟩,A⟩:=ct;have:=n O u g C;refine⟨this.1,this.2,λ_ _=>?_⟩;unfold aas;dsimp only;rw[F];refine⟨?_,h.vi hi c.wt.id m.left (by have q:=adC m;exact q)⟩
   unfold ajA;dsimp only;rcases m.what with⟨_,q,_⟩|⟨V,q,_⟩
   .rw[q];trivial
   .rw[q];exact⟨c.ty.kt,λy D=>azp V y D⟩
  .obtain⟨m,⟨u,g,a3,C,L⟩,A⟩:=ct;have:=n O u g C;refine⟨this.1,this.2,λ_ _=>?_⟩;unfold aas;dsimp only;rw[F];refine⟨?_,h.vi hi c.wt.id m.left (by have q:=adC m;exact q)⟩
   rcases m.what with⟨_,_,q,_⟩|⟨_,_,q,_⟩
   .exact D_ q
   .exact E_ q
 .obtain⟨k,m,g,a3,C,L,A⟩:=ct;obtain⟨b1,b2⟩:=c.ty.O7 a3.1 a3.2;refine⟨k,(f L).1,m,g,b1,c.can b2.a,?_⟩;unfold anZ;split at A<;>rename_i hs<;>try exact A.elim
  .try rw[hs]
   have:=A.1.fi.aav z c.acc;rw[A.2];exact⟨this.1.GZ,A.1.fi.len,this.2.2⟩
  iterate 2 grind
 .exact c.can c.ty.told
 .exact⟨c.can c.ty.idle,c.ty.OI.given c.ty.len,⟨af,by have:=c.wt.lt;rw[c.wt.id];omega⟩,h.vi hi c.wt.id (λj X=>afG j (aj6 j X)) (by have q:=adC ct;exact q)⟩
 .obtain⟨_,_,o,N,hs⟩:=ct;exact⟨o,N,c.spf hs⟩
 .exact⟨⟨af,af⟩,c.can c.ty.idle,ct.2⟩
 .exact⟨⟨af,af⟩,c.can c.ty.idle⟩
 .exact⟨ct.1,by rw[jC];exact c.can (c.ty.qh af).k⟩
 .have Y:W.jq.toNat<G.ts.length:=af;exact⟨ct.1,c.inA,c.can c.own.bot,(c.sc Y).1,S,J⟩
 .have d:=f ct.1;exact⟨d.1,ct.2.fi.aav z c.acc,(c.sc d.2).1⟩
 .have d:=f ct.1;exact⟨d.1,ct.2.1.cJ,c.caller,af,af,(c.sc1 d.2 ct.2.1.cJ).1⟩
 .have d:=f ct.1;obtain⟨m,g,a3,C⟩:=ct;obtain⟨Z,g1,_⟩:=g.fi.fork c.acc a3;have ht2:=d.2;have x:=acH (T:=G.T) (s:=(G.tk (W.stack.headD 0)).id) (by unfold Bb;rw[(c.ty.qh d.2).id];simp only[decide_eq_true_eq];have:=c.ty.kl;omega)
  obtain⟨kt,x⟩:=x;refine⟨d.1,g.cJ,g.fi.aav z c.acc,g.fi.is8 c.acc a3,⟨Z,g1⟩,c.caller,⟨kt,x,?_⟩,af,af,by rw[c.ty.pl];exact C⟩
  have:=c.ty.kk _ _ (xP x).2.2;omega
 .have d:=f ct.1;have:=c.sc1 d.2 ct.2.1.cJ;exact⟨d.1,ct.2.1.cJ,this.1,this.2.2⟩
 .have d:=f ct.1;obtain⟨b1,b2⟩:=ct.2.1.fi.hand c.acc ct.2.2;exact⟨d.1,ct.2.1.fi.aav z c.acc,b1,b2,c.can c.ty.told,(c.sc d.2).1⟩
 .exact⟨c.inA,c.can c.own.bot⟩
 .have d:=f ct.1;obtain⟨m,g,a3⟩:=ct;have H:=c.kA d.2 g.cJ;have I:=c.ty.qh d.2;have:=I.sn;have:=I.sl;refine⟨d.1,g.cJ,g.fi.aav z c.acc,c.caller,af,af,(c.sc1 d.2 g.cJ).1,⟨H.1,by rw[c.ty.pl];exact H.2⟩,af,af,⟨c.ty.Zs,c.ty.ck⟩,λhp=>?_⟩
  exact(afH c.ty.ck af c.ty.Qn ⟨af,av9 (g.fi.oV c.acc)⟩).1
 .exact⟨(f ct.1).1,ct.2.1.cJ⟩
 .have d:=f ct.1;obtain⟨m,g,a3⟩:=ct;have I:=c.ty.qh d.2;have:=I.sn;have:=I.sl;have hs:=c.sc1 d.2 g.cJ;exact⟨d.1,g.cJ,g.fi.aav z c.acc,c.dr d.2 g.cJ,hs.1,hs.2.1,af⟩
 .have d:=f ct.1;have hs:=c.sc1 d.2 ct.2.1.cJ;exact⟨d.1,ct.2.1.cJ,ct.2.1.fi.len,hs.1,hs.2.1⟩
 .exact⟨(f ct.1).1,ct.2.1.fi.len⟩
 .exact⟨(f ct.1).1,ct.2.1.fi.aav z c.acc,ct.2.1.fi.aEM c.acc⟩
 .have d:=f ct.1;exact⟨d.1,c.can (c.ty.qh d.2).v⟩
 .have d:=f ct.1;exact⟨d.1,⟨ct.2.1.k2,ct.2.1.k4⟩,by rw[jC];exact c.can (c.ty.qh d.2).k⟩
 .have d:=f ct.1;exact⟨d.1,c.can (c.ty.qh d.2).w⟩
 .have d:=f ct.1;have hs:=c.sc d.2;refine⟨d.1,?_,hs.1,hs.2.2⟩;have hb:=c.wt.bk;rw[d.1.s]at hb;cases hh:W.back with
  |nil=>rw[hh]at hb;exact hb.elim
  |cons kb bs=>
   rw[hh]at hb;refine⟨kb,bs,rfl,?_⟩;have:∀(st:List Nat) (b:List Kn),KU P G st b->b.length=st.length:=by
    intro st;induction st with
    |nil=>intro b hb;cases b<;>first|rfl|exact hb.elim
    |cons y st ih=>intro b hb;cases b with
     |nil=>exact hb.elim
     |cons k b=>simp[ih b hb.2.2]
   exact this _ _ hb.2.2
 .have d:=f ct.1.ne;have r:=ahI ct.1 ct.2.1;exact⟨d.1,Yl ct.1,r,by rw[jC];exact c.can (c.ty.qh r.2).k⟩
 .have d:=f ct.1.ne;have r:=ahI ct.1 ct.2.1;obtain⟨y,e,_,h3⟩|⟨k,e,_⟩:=ct.1.cases
  .exact⟨d.1,h3.1.fi.aav z c.acc,r,c.can (c.ty.qh r.2).v⟩
  .rw[e]at ct;cases ct.2.1
 .have d:=f ct.1.ne;exact⟨d.1,aaz ct.1 ct.2.1 ct.2.2,c.inA,c.can c.own.bot⟩
 .exact c.can c.ty.told
 .have d:=f ct.1.ne;have hs:=c.sc1 d.2 (Yl ct.1);exact⟨d.1,Yl ct.1,hs.1,hs.2.2⟩
 .have r:=ahI ct.1 ct.2;exact⟨r,⟨af,af⟩,c.can (c.ty.qh r.2).w⟩
 .obtain⟨_,o,N,hs⟩:=ct;exact⟨o,N,c.spf hs⟩
 .have d:=f ct.ne;exact⟨d.1,aCA ct,c.can c.ty.told,(c.sc d.2).1⟩
 .have d:=f ct.1.ne;refine⟨d.1,⟨af,af⟩,λhb=>c.spf ?_,λ_ K=>?_,λ_ _=>?_⟩
  .cases hs:W.step with
   |none=>exact⟨e7,e7,e7⟩
   |some o=>exact ct.2.1 hb o hs
  .have r:=ahI ct.1 (c.fl.SG K);exact⟨r,c.can (c.ty.qh r.2).w⟩
  .have B:=ct.2.2;unfold anY;split at B<;>rename_i hs<;>try exact B.elim
   all_goals try rw[hs]
   .trivial
   .exact B.1
   iterate 3 trivial
   .exact⟨Yl ct.1,c.dr d.2 (Yl ct.1)⟩
 .have d:=f ct.1;exact⟨d.1,ct.2.2.2.2,c.can c.ty.told,(c.sc d.2).1⟩
 .have d:=f ct.1;exact⟨d.1,amr ct.2⟩
open Ko (ni CK)
structure SM (G:Gl) (o:List (Int×Int)):Prop where
 kids:∀(i:Nat) (x:Kt),G.T[i]?=G_ x->x.kids.length<=1000000
 len:o.length<=100000
 dfs:if G.T.length=0 then o=[]else Dfs G.T [0] o
 ids:∀p∈o,0<=p.1/\p.1<G.ts.length
 sc:(da G o).length<=1000000
variable{R:List HP}{aa:List Nat}{w:World}
def awa(h:St w0 w (LA aa G.ts::R))(b:aa[x]?=G_ i)(c:x<G.ts.length):∃so sc:Sl,St w0 w (au i ((G.tk x).cells so sc)::rws 2 so ((G.tk x).cJ.map A1)::bG 1 sc (ints (G.tk x).scopes)::jO tkP ((aa.zip G.ts).eraseIdx x)::R):=sv h b (G.xw c)
variable{o:List (Int×Int)}
variable{zp:Sl}
section
variable{sp sw:Sl}
theorem afI{k:Sl->ap}(h:St w0 w (SL l aa G R sp zp sw))(c:SM G o)(A:∀s w',St w0 w' (bG 1 s (ints (da G o))::SL l aa G R sp zp sw)->k s w'):dO (G_ ⟨l.gs,0,H_⟩) w k:=by
 unfold dO yY;have d:=KI (h.front 9 rfl);refine aM h λg1 w h=>cX ?_;have h:=h.asS (g:=g1) (sz:=1) rfl af (by simp[Value.oneCell'])
 refine aiO h c.kids c.len c.dfs λu w h=>?_;have m:=qY (s:=u) h;simp[ints,U']at m;have B:=c.len;refine DN (G:=Nat) (λj x w=>x.2=(j:Int)/\j<=o.length/\St w0 w (bG 1 u (ints (o.map λp:Int×Int=>p.1))::bG 1 x.1 (ints (da G (o.take j)))::SL l aa G R sp zp sw)) (λj=>o.length - j) (g:=0) ⟨rfl,af,h⟩ ?_;clear h;rintro j ⟨s1,i⟩ w ⟨hi,hj,h⟩ C hC;dsimp only at hi h ⊢;subst hi;by_cases b:j<o.length
 .refine bK (by simp;omega) ?_
  have v:=c.ids _ (nX b);generalize y:o[j]'b=p at v;have f:o[j]?=G_ p:=by rw[iH b,y]
  have n:p.1.toNat<G.ts.length:=af;obtain⟨a,q⟩:=Zx d (G.xw n);refine vI h af (x:=p.1) (by simp[ints,f]) ?_
  refine cX<|vP (s:=zp) h v.1 (by rw[l8,q];rfl) ?_
  have h:=h.fr 11;obtain⟨so,sc,h⟩:=awa h q n;refine cX ?_;have r:=qY (s:=sc) h;have t:=qY (s:=s1) h;simp[ints,U']at r t;have z:(da G (o.take j)).length+(G.tk p.1.toNat).scopes.length<=1000000:=by
   have h2:=c.sc;have e:o=o.take j++p::o.drop (j+1):=by
    rw[<-y,<-TT b,List.take_append_drop]
   unfold da at h2 ⊢;grind
  refine M9 (x:=sc) h an0 aZ (h.own).sls (by simp[ints,Value.oneCell']) af af λs2 w h D=>?_
  have h:=qg d q (G.xw n) h;have h:=h.bk 11;refine hC (j+1) _ _ ⟨?_,af,?_⟩ af
  .rw[kg ⟨af,af⟩];omega
  .have e:ints (da G (o.take (j+1)))=ints (da G (o.take j))++ints (G.tk p.1.toNat).scopes:=by
    unfold da;rw[qz,f];simp
   rw[e];exact h
 .refine aU (by simp;omega) ?_
  have e:o.take j=o:=List.take_of_length_le af;rw[e]at h;exact A _ _ h.drop
end
variable{k:Bool->ap}{n:Int}
section
variable{sp sw:Sl}
def azr(h:St w0 w (SL l aa G R sp zp sw))(c:G.time.2.length<=100000)(d:CK G.time)(hs:∀y∈G.time.2,nZ G.C y.2=G_ (G.nd y.2)/\G.M.can l.wa.length (G.nd y.2).at_=J_)(e:G.M.can l.wa.length l.told=J_)
  (a:∀w',St w0 w' (SL l aa (ZD l G n).1 R sp zp sw)->k (ZD l G n).2 w'):lA (G_ ⟨l.gs,0,H_⟩) n w k:=by
 unfold lA BK;unfold ZD at a;refine cX ?_;obtain⟨now,S⟩:∃now S,G.time=(now,S):=⟨_,_,rfl⟩;refine Ko.aBJ c d h (λb s' w' h=>?_) λb h=>?_
 .rw[HK b]at a;refine aU rfl<|an2 (G:={G with time:=(G.time.1+n,Ko.Oy G.time.2 (G.time.1+n))}) h (λx f=>?_) e λw h=>a w h
  obtain⟨y,g,rfl⟩:=C6.1 f;exact hs y (C5.1 g).1
 .rw[HQ (by rw[b];simp)]at a
  exact bK rfl (a _ h)
end
section
variable{sp sw:Sl}
theorem azs(h:St w0 w (SL l aa G R sp zp sw))(r:SM G o)(hs:∀x∈da G o,(0<=x/\x<G.P.length)/\nZ G.C x=G_ (G.nd x)/\G.M.can l.wa.length (G.nd x).at_=J_)(t:G.M.can l.wa.length l.told=J_)
  (c:∀w',St w0 w' (SL l aa (ZF l G o n).1 R sp zp sw)->k (ZF l G o n).2 w'):lB (G_ ⟨l.gs,0,H_⟩) n w k:=by
 unfold lB BL;unfold ZF at c;refine afI h r λs1 w h=>?_;have f:=qY (s:=s1) h;simp[ints,U']at f;by_cases e:0<=n/\n<(da G o).length
 .rw[HK e]at c;have a:n.toNat<(da G o).length:=af;have u:(da G o).getD n.toNat 0=(da G o)[n.toNat]'a:=by rw[m0,iH a];rfl
  rw[u]at c;have m:=hs _ (nX a);generalize i:(da G o)[n.toNat]'a=x at c m;have d:(ints (da G o))[n.toNat]?=G_ (I_ x):=by simp[ints,a,i]
  obtain⟨p,q⟩:∃p,G.P[x.toNat]?=G_ p:=⟨_,iH af⟩;refine bP (λb w=>b=ZE G x/\St w0 w (bG 1 s1 (ints (da G o))::SL l aa G R sp zp sw)) (λJ j=>?_) ?_
  .refine dZ λw h=>?_;refine aU (by simp;omega) ?_
   refine cX<|vI h e.1 d<|rB (sz:=4) (s:=sp) h m.1.1 (by rw[l8,q];rfl) rfl ?_
   exact j _ _ ⟨by unfold ZE;rw[q],h⟩
  clear h;rintro _ w ⟨rfl,h⟩;refine ax (λhb=>?_) λhb=>?_
  .rw[HK hb]at c;exact c _ h.drop
  .rw[HQ (by rw[hb];simp)]at c
   refine vI h e.1 d<|aM h λg2 w h=>?_;have h:=h.asS (g:=g2) (sz:=1) rfl af (by simp[Value.oneCell'])
   have h:=h.rm 1 rfl;simp[I7]at h;refine an2 h (λy v=>?_) t λw h=>c w h;grind
 .rw[HQ e]at c;refine bP (λb w=>b=J_/\St w0 w (bG 1 s1 (ints (da G o))::SL l aa G R sp zp sw)) (λJ j=>?_) ?_
  .refine dZ λw h=>?_;refine bK (by simp;omega) (j _ _ ⟨rfl,h⟩)
  clear h;rintro _ w ⟨rfl,h⟩;exact bK rfl (c _ h.drop)
end
open Fr (nF)
def roB(m:Lm)(v:Nat):List Ro:=[.top v,.bot v,.Uw v] ++(CX (2 ^ m.lg.toNat)).map (.rg v m.lg.toNat)
def Qo(m:Lm):Nat->List Ro
 |0=>[.told,.idle,.ask 0,.liv 0,.Ye,.OI]
 |v+1=>Qo m v++roB m v
def ZP(m:Lm):List Ro:=Qo m m.n++[.ask 1,.liv 1] ++[.fk 0,.fv 0,.fw 0]
variable{m:Lm}{v:Nat}
def awb:(((roB m v).length:Nat):Int)=m.one:=by
 unfold roB Lm.one EX;simp;omega
def Ym:∀v:Nat,(((Qo m v).length:Nat):Int)=sC m v
 |0=>by unfold sC;simp[Qo]
 |v+1=>by
  rw[ZI];show(((Qo m v++roB m v).length:Nat):Int)=_;rw[uv,mH,Ym v,awb]
def adE:∀(v:Nat) (i:Nat),∃q,Qo m (v+i)=Qo m v++q
 |v,0=>⟨[],bf⟩
 |v,i+1=>by
  obtain⟨q,hq⟩:=adE v i;exact⟨q++roB m (v+i),by show Qo m (v+i)++roB m (v+i)=_;rw[hq];simp⟩
variable{k:Nat}{r:Ro}
def abk(hi:i<v)(a:(roB m i)[k]?=G_ r):k9 (Qo m v) (sC m i+k) r:=by
 obtain⟨q,hq⟩:=adE (i+1) (v - (i+1));rw[show i+1+(v - (i+1))=v from by omega]at hq
 rw[hq];refine k9.qT ?_;show k9 (Qo m i++roB m i) _ _;exact k9.new a (by rw[mH,Ym])
def ahJ(hi:i<v):ZH (Qo m v) i (sC m i):=by
 refine⟨?_,abk hi rfl,abk hi rfl⟩;have:=abk (m:=m) (k:=0) hi rfl;simpa using this
theorem azt(hi:i<v)(a:k<2 ^ m.lg.toNat):k9 (Qo m v) (sC m i+3+k) (.rg i m.lg.toNat k):=by
 have:=abk (m:=m) (k:=3+k) (r:= .rg i m.lg.toNat k) hi (by
  unfold roB;rw[u0 bf];simp[a])
 grind
def afJ(a:([.told,.idle,.ask 0,.liv 0,.Ye,.OI]:List Ro)[k]?=G_ r):k9 (Qo m v) k r:=by
 obtain⟨q,hq⟩:=adE 0 v;rw[FM]at hq;rw[hq];exact k9.qT ⟨af,a⟩
variable{b:Int}
theorem aka:∀{v:Nat},k9 (Qo m v) b r->(∀i,r≠ .Uw i)\/∃i,i<v/\r= .Uw i/\b=sC m i+2
 |0,h=>by
  refine D_ λi e=>?_;subst e;obtain⟨_,h⟩:=h;have:=qn h;simp[Qo]at this
 |v+1,h=>by
  rcases k9.old h with h|⟨k,hk,e⟩
  .rcases aka h with h|⟨i,h1,h2,a⟩
   .exact D_ h
   .exact E_ ⟨i,af,h2,a⟩
  .by_cases a:k<3
   .match k,a with
    |0,_=>refine D_ λi q=>?_;subst q;cases hk
    |1,_=>refine D_ λi q=>?_;subst q;cases hk
    |2,_=>
     cases hk
     refine E_ ⟨v,af,rfl,?_⟩;rw[e,mH,Ym];rfl
   .refine D_ λi q=>?_;subst q;unfold roB at hk;grind
def awc(a:1<=y)(h:∀i,r≠ .Uw i):EO l ro y r 0:=by
 cases r with
 |Uw i=>exact absurd rfl (h i)
 |OI=>exact⟨af,af⟩
 |ask s=>exact D_ rfl
 |rg v g k=>exact⟨af,af⟩
 |top v=>exact⟨e7,e7⟩
 |bot v=>exact⟨e7,e7⟩
 |fk x=>exact⟨af,af⟩
 |_=>trivial
def aCD(a:m.OK)(v:Nat):6<=sC m v:=by
 have:=m.KS a;have:=Yg m af (Nat.zero_le v);unfold sC at this ⊢;simp at this ⊢;omega
def azu(d:m.OK)(h:m.total<=m.cells){x:Int}(b:0<=x):(g2 m).M.get x=if x<6+m.n*m.one then(oe m m.n).get x else 0:=by
 have a:=ahC d h;have c:(((g1 m).M.cells.length:Nat):Int)=8+m.n*m.one:=by
  have:=xQ (M:=(oe m m.n).tick m.n) (n:=2) af;show((((oe m m.n).tick m.n).grow 2).cells.length:Nat)=(_:Int);rw[this];show(((oe m m.n).cells.length:Nat):Int)+2=_;rw[a.len];omega
 show(((g1 m).M.tick m.n).grow 3).get x=_;by_cases e:x<8+m.n*m.one
 .rw[xR b (by show x<(((g1 m).M.cells.length:Nat):Int);rw[c];exact e),tT]
  show(((oe m m.n).tick m.n).grow 2).get x=_;split
  .rename_i h2;rw[xR b (by show x<(((oe m m.n).cells.length:Nat):Int);rw[a.len];exact h2),tT]
  .rename_i h2;exact Yf (by show(((oe m m.n).cells.length:Nat):Int)<=x;rw[a.len];omega)
 .rw[HQ af];exact Yf (by show(((g1 m).M.cells.length:Nat):Int)<=x;rw[c];omega)
variable{a:Ad}{ps:Sl}{wa:List Nat}
def aCE(b:m.OK)(c:wa.length=m.n):afx (gJ a ps m wa):=by
 have:=b.base;have:=b.spare;refine⟨⟨b.base.1,b.base.2,b.spare.1,b.spare.2⟩,?_,?_⟩
 .show 1<=wa.length;rw[c];unfold Lm.n;omega
 .show wa.length<=16;rw[c];unfold Lm.n;omega
def aoc(c:m.OK)(h:m.total<=m.cells)(hi:i<m.n):RgT (gJ a ps m wa) (Qo m m.n) i ⟨sC m i+3,m.lg⟩:=by
 have d:=m.adq c;have l:=m.KS c;have e:=acM d.1 d.2.2;have b:m.one=3+EX m.lg:=rfl;have f:=Yg m af (show i+1<=m.n by omega)
 rw[ZI]at f;have h2:sC m m.n=6+m.n*m.one:=rfl;have o:=aCD c i;have g:=c.cells;unfold Lm.total at h;refine⟨?_,d.2.1,λk j=>azt hi j⟩;unfold Rg.right;simp;unfold EX at e b;unfold Rg.pw;dsimp only;omega
def azv:CK ((0,[]):Int×List (Int×Int)):=⟨e7,e7,λy a=>(by cases a),λy a=>(by cases a),.nil,oo⟩
theorem azw(l:m.OK)(h:m.total<=m.cells)(K:m.cells<=65536)(L:wa.length=m.n):Ty (gJ a ps m wa) (ZP m) (g2 m):=by
 have G:=ahC l h;have T:=m.KS l;have U:=G.n1;have H:m.one<=m.n*m.one:=by have:(1:Int)*m.one<=m.n*m.one:=Int.mul_le_mul_of_nonneg_right af af;omega
 obtain⟨V,h2,I,N,O⟩:=Te l m.n (by unfold Lm.total at h;omega)
 have d:(((Qo m m.n).length:Nat):Int)=6+m.n*m.one:=Ym m.n;have W:(((ZP m).length:Nat):Int)=11+m.n*m.one:=by
  unfold ZP;grind
 have J:(((g1 m).M.cells.length:Nat):Int)=8+m.n*m.one:=by
  have:=xQ (M:=(oe m m.n).tick m.n) (n:=2) af;show((((oe m m.n).tick m.n).grow 2).cells.length:Nat)=(_:Int);rw[this];show(((oe m m.n).cells.length:Nat):Int)+2=_;rw[I];omega
 have l2:(((g2 m).M.cells.length:Nat):Int)=11+m.n*m.one:=by
  have:=xQ (M:=(g1 m).M.tick m.n) (n:=3) af;show((((g1 m).M.tick m.n).grow 3).cells.length:Nat)=(_:Int);rw[this];show(((g1 m).M.cells.length:Nat):Int)+3=_;rw[J];omega
 have z:(g2 m).M.steps.length=m.n+1:=by rw[<-O];exact Tg.trans Tg
 have hb:∀{k:Nat} {r:Ro},([.told,.idle,.ask 0,.liv 0,.Ye,.OI]:List Ro)[k]?=G_ r->k9 (ZP m) k r:=λf=>(afJ f).qT.qT;have u:∀{k:Nat} {r:Ro},([.ask 1,.liv 1]:List Ro)[k]?=G_ r->k9 (ZP m) ((oe m m.n).cells.length+k:Nat) r:=fun{k r} f=>k9.qT (k9.new f (by have:=d;have:=I;omega))
 have g:∀{k:Nat} {r:Ro},([.fk 0,.fv 0,.fw 0]:List Ro)[k]?=G_ r->k9 (ZP m) ((g1 m).M.cells.length+k:Nat) r:=fun{k r} f=>k9.new f (by have:=d;have:=J;simp;omega)
 have v:(g2 m).C=[⟨-1,0,2⟩,⟨0,1,((oe m m.n).cells.length:Nat)⟩]:=rfl;have A:(g2 m).ts=[⟨0,0,1,((g1 m).M.cells.length:Nat),nF,Oq #[],[],[1],0,0⟩]:=rfl;have B:(g2 m).M.size=m.cells:=N;obtain⟨P,Q⟩:=adu l m.n (by unfold Lm.total at h;omega)
 have D:sC m m.n=6+m.n*m.one:=rfl;refine{len:=by omega,ok:=G.ok2,sz:=by rw[B];exact K,stp:=by rw[z];show _=wa.length+1;rw[L],val:=λa' r c=>?_,told:=hb rfl,idle:=hb rfl,Ye:=hb rfl,OI:=hb rfl,sc:=λs x b=>?_,tk:=λx t o=>?_,c1:=(by rw[v];simp),t1:=(by rw[A];simp),pl:=rfl,kt:=λi x b=>?_,kl:=rfl,kk:=λi x b=>?_,ck:=azv,Qn:=(λy R=>by cases R),cnt:= ?_,dr:=(by show(0:Nat)<=1024;decide)}
 .rw[azu l h c.1,A];have F:∀r:Ro,(∀i,r≠ .Uw i)->EO (gJ a ps m wa) (ZP m) 1 r 0:=λr q=>awc (iw 1) q;rcases c.old with c|⟨k,f,e⟩
  .rcases c.old with c|⟨k,f,e⟩
   .have j:=c.lt;rw[d]at j;rw[HK j];rcases aka c with q|⟨i,hi,rfl,rfl⟩
    .rw[P a' c.1 (by rw[D];exact j) λi hi=>(c.ne (ahJ hi).Uw (q i))]
     exact F r q
    .rw[Q i hi];exact⟨_,rfl,(aoc l h hi).qT.qT⟩
   .grind
  .grind
 .rw[v]at b;match s,b with
  |0,b=>cases b;exact⟨hb rfl,hb rfl,(by show(0:Int)<=0/\(0:Int)<=32;decide),λq=>absurd rfl q,λ_=>rfl⟩
  |1,b=>cases b;exact⟨u (k:=0) rfl,u rfl,(by show(0:Int)<=1/\(1:Int)<=32;decide),λq=>(by show(0:Int)<=0/\(0:Int)<1;decide),λq=>(by cases q)⟩
  |s+2,b=>simp at b
 .rw[A]at o;match x,o with
  |0,o=>cases o;exact⟨rfl,g (k:=0) rfl,g rfl,g rfl,(by rw[v];show(0:Int)<=0/\(0:Int)<2;decide),(by rw[v];show(0:Int)<=1/\(1:Int)<2;decide),λp S=>(by cases S),(by show 0+0<=1;decide),(by rw[v];show 1<=2;decide)⟩
  |x+1,o=>simp at o
 iterate 2 have b:([⟨-1,0,[]⟩]:List Kt)[i]?=G_ x:=b;grind
 .grind
variable{G':Gl}
def IV.drv(h:IV l P bw ro G Ws)(ty:Ty l ro G')(Cd:uN ro ro G G' [])(a:G'.ts=G.ts)(c:G'.err=0->G.err=0):IV l P bw ro G' Ws:=by
 have f:∀x,x<G.ts.length->1<=G.K x->G'.K x=G.K x:=λx b d=>(Cd.K1 x b bf d).1;refine⟨h.lc,h.lg,h.acc,ty,h.wn,h.dl,h.dq,λi W hi=>(h.w i W hi).imp Cd (λx _=>by simp) c,h.dj,λx b e=>?_⟩
 rw[a]at b ⊢;have:G'.tk x=G.tk x:=by unfold Gl.tk;rw[a]
 rw[this];exact h.fr x b (Cd.K0 x b e)
variable{s wk:Int}
def awd(h:Ty l ro G)(hs:0<=s/\s<G.C.length):Ty l ro (G.Fw wk s)/\uN ro ro G (G.Fw wk s) []/\(G.Fw wk s).ts=G.ts/\(G.Fw wk s).C=G.C/\(G.Fw wk s).err=G.err:=by
 obtain⟨j,d⟩:=h.O7 hs.1 hs.2;have e:=d.a.lt;rw[h.len]at e;have f:∀b,0<=b->(G.M.cs wk (G.nd s).at_ 0 1).1.get b=if b=(G.nd s).at_/\G.M.get (G.nd s).at_=0 then 1 else G.M.get b:=λb hb=>abi d.a.1 e hb
 have g:∀y,y<G.ts.length->(G.Fw wk s).K y=G.K y/\(G.Fw wk s).V y=G.V y:=λy c=>by
  have i:=(h.qh c).k;have hv:=(h.qh c).v;have m:=i.ne d.a bf;have n:=hv.ne d.a bf;show(G.M.cs _ _ _ _).1.get (G.tk y).jI=_/\(G.M.cs _ _ _ _).1.get ((G.tk y).jI+1)=_;rw[f _ i.1,HQ (λq=>m q.1),f _ hv.1,HQ (λq=>n q.1)];exact⟨rfl,rfl⟩
 refine⟨h.cs d.a (E_ rfl),⟨⟨[],bf⟩,iw _,λ_ _ _=>rfl,λ_ _=>⟨rfl,rfl,rfl⟩,⟨[],by simp[Gl.Fw,Gl.mem]⟩,λy c q=>by rw[<-(g y c).1];exact q,λy c _ _=>g y c,λy c _=>g y c,λs' ⟨nd,h1,h2⟩=>⟨nd,h1,?_⟩⟩,rfl,rfl,rfl⟩
 show(G.M.cs _ _ _ _).1.get _≠0;rw[f _ (JL h h1).1];split
 .decide
 .exact h2
variable{zr:List Ro}{zt:Gl}
def uN.We(h:uN ro iT G G' [])(k:uN iT zr G' zt []):uN ro zr G zt []:=h.trans k (E_ λx a=>by cases a)
def uN.refl(ro:List Ro)(G:Gl):uN ro ro G G []:=⟨⟨[],bf⟩,iw _,λ_ _ _=>rfl,λ_ _=>⟨rfl,rfl,rfl⟩,⟨[],bf⟩,λ_ _ q=>q,λ_ _ _ _=>⟨rfl,rfl⟩,λ_ _ _=>⟨rfl,rfl⟩,λ_ q=>q⟩
def afK(b:G'.M=G.M)(a:G'.ts=G.ts)(c:G'.C=G.C):uN ro ro G G' []:=by
 cases G'
 dsimp only at b a c;subst b;subst a;subst c;exact⟨⟨[],bf⟩,iw _,λ_ _ _=>rfl,λ_ _=>⟨rfl,rfl,rfl⟩,⟨[],bf⟩,λ_ _ q=>q,λ_ _ _ _=>⟨rfl,rfl⟩,λ_ _ _=>⟨rfl,rfl⟩,λ_ q=>q⟩
def akb(wk:Int):∀(ids:List Int) (G:Gl),Ty l ro G->(∀x∈ids,0<=x/\x<G.C.length)->Ty l ro (sK wk G ids)/\uN ro ro G (sK wk G ids) []/\(sK wk G ids).ts=G.ts/\(sK wk G ids).C=G.C/\(sK wk G ids).err=G.err
 |[],G,h,_=>⟨h,uN.refl ro G,rfl,rfl,rfl⟩
 |s::ids,G,h,hs=>by
  obtain⟨b,h2,c,a,d⟩:=awd h (hs s bf);obtain⟨e,k2,f,k4,g⟩:=akb wk ids (G.Fw wk s) b λx i=>by rw[a];exact hs x (by simp[i])
  exact⟨e,h2.We k2,f.trans c,k4.trans a,g.trans d⟩
def akc{ids:List Int}(h:Ty l ro G)(hs:∀x∈ids,0<=x/\x<G.C.length):Ty l ro (UX l G ids)/\uN ro ro G (UX l G ids) []/\(UX l G ids).ts=G.ts/\(UX l G ids).C=G.C/\(UX l G ids).err=G.err:=by
 unfold UX;split
 .exact⟨h,uN.refl ro G,rfl,rfl,rfl⟩
 .obtain⟨a,k2,b,k4,c⟩:=akb (l.wa.length:Nat) ids G h hs;exact⟨a.ad a.told trivial,k2.We (ahD a a.told (λq=>q)),b,k4,c⟩
theorem awe{kind:Int}(h:IV l P bw ro G Ws)(p:∀x∈da G o,0<=x/\x<G.C.length):∃iT,IV l P bw iT (SA l P G Ws o kind n).1.1 (SA l P G Ws o kind n).1.2:=by
 unfold SA;split
 .exact⟨ro,h⟩
 rename_i d;have d:G.err=0:=mF.1 d;split
 .unfold ZC;split
  .split
   .rename_i W q;split
    .rw[h.dl];obtain⟨iT,_,r⟩:=h.step q d;exact⟨iT,r⟩
    .exact⟨ro,h⟩
   .exact⟨ro,h⟩
  .exact⟨ro,h⟩
 split
 .unfold ZD;split
  .rename_i s;have a:Ty l ro {G with time:=(G.time.1+n,Ko.Oy G.time.2 (G.time.1+n))}:={h.ty with ck:=h.ty.ck.adv s,Qn:=λy f=>h.ty.Qn y (C5.1 f).1}
   have g:uN ro ro G {G with time:=(G.time.1+n,Ko.Oy G.time.2 (G.time.1+n))} []:=afK rfl rfl rfl;obtain⟨i,k2,j,k4,k⟩:=akc (ids:=Ko.ids (Ko.ac4 G.time.2 (G.time.1+n))) a λx c=>by
    obtain⟨y,f,rfl⟩:=C6.1 c;have m:=(C5.1 f).1;exact⟨h.ty.ck.ids y m,h.ty.Qn y m⟩
   exact⟨ro,h.drv i (g.We k2) j (λe=>by rw[<-k];exact e)⟩
  .exact⟨ro,h⟩
 split
 .split
  .rename_i u;have a:Ty l ro {G with D:=G.D++[n]}:={h.ty with dr:=by grind}
   exact⟨ro,h.drv a (afK rfl rfl rfl) rfl (λe=>e)⟩
  .exact⟨ro,h⟩
 split
 .unfold ZF;split
  .rename_i v;split
   .exact⟨ro,h⟩
   .have b:n.toNat<(da G o).length:=af;have t:(da G o).getD n.toNat 0=(da G o)[n.toNat]'b:=by rw[m0,iH b];rfl
    obtain⟨i,k2,j,k4,k⟩:=akc (ids:=[(da G o).getD n.toNat 0]) h.ty λx c=>by
     simp only[hM]at c;rw[c,t];exact p _ (nX b)
    exact⟨ro,h.drv i k2 j (λe=>by rw[<-k];exact e)⟩
  .exact⟨ro,h⟩
 .exact⟨ro,h⟩
variable{k:Bool->ap}
def aFl(c:IV l P bw ro G Ws)(q:iA w0 l.ps P)(s:TZ w0)(t:SM G o)(hs:∀x∈da G o,0<=x/\x<G.C.length)(h:qK w0 w l aa G Ws R)
  (d:∀JI w',qK w0 w' l JI (SA l P G Ws o zd n).1.1 (SA l P G Ws o zd n).1.2 R->k (SA l P G Ws o zd n).2 w'):nO (G_ ⟨l.gs,0,H_⟩) #[I_ zd,I_ n] w k:=by
 unfold nO EH;unfold SA at d;have j:G.M.caller l.wa.length=true:=Ga c.ty.stp af af;have m:∀x:Int,0<=x->x<G.C.length->nZ G.C x=G_ (G.nd x)/\G.M.can l.wa.length (G.nd x).at_=true:=λx u v=>by
  obtain⟨a,b⟩:=c.ty.O7 u v;exact⟨a,b.a.can c.ty.len j⟩
 have htold:G.M.can l.wa.length l.told=true:=c.ty.told.can c.ty.len j;refine aM h λg1 w h=>?_;have h:St w0 w (au g1 [I_ zd,I_ n]::UW l aa G::jO (pH l aa) (l.wa.zip Ws)::R):=h;have h2:=h.drop;obtain⟨sp,st,sw,f⟩:=rO h2;refine bP (λb w=>b=L_ (G.err≠0)/\St w0 w (au g1 [I_ zd,I_ n]::UW l aa G::jO (pH l aa) (l.wa.zip Ws)::R)) (λJ z=>?_) ?_
 .refine aU rfl (bc (aI f rfl (z _ _ ⟨?_,h⟩)));by_cases e:G.err=0<;>simp[e]
 clear h h2 f;rintro _ w ⟨rfl,h⟩;by_cases g:G.err=0;rotate_left
 .rw[HK g]at d;exact bK (by simp[g]) (d aa _ h.drop)
 rw[HQ (by simp[g])]at d
 refine aU (by simp[g]) ?_
 refine cr h rfl<|ax (λhb=>?_) λhb=>?_
 .rw[HK (gq hb)]at d
  refine cr h rfl ?_;have h:=h.drop;refine ayW q s c.lc c.wn c.ty.ok g (c.ty.OI.given c.ty.len) (c.ty.told.given c.ty.len) (λi W hi _ _=>?_) h d;rw[c.dl];exact c.ok hi g q
 rw[HQ (gq hb)]at d
 clear hb;refine ax (λhb=>?_) λhb=>?_
 .rw[HK (gq hb)]at d
  refine cr h rfl ?_;obtain⟨sp,st,sw,f⟩:=rO h.drop;refine azr f c.ty.Zs c.ty.ck (λy r=>m _ (c.ty.ck.ids y r) (c.ty.Qn y r)) htold λw' h'=>d aa w' (pE h')
 rw[HQ (gq hb)]at d
 clear hb;refine ax (λhb=>?_) λhb=>?_
 .rw[HK (gq hb)]at d
  obtain⟨sp,st,sw,h⟩:=rO h.swap;refine vO λgx w h=>?_;have h:=h.fr 9;refine atu (l:=sp) h.swap (λp w h=>?_) (λp w h=>?_) c.ty.dr
  .rw[HK p]at d;have h:=h.bk 8;have h:=h.zm 10;exact d aa _ (pE h)
  .rw[HQ p]at d;have h:=h.bk 8;have h:=h.zm 10;exact d aa _ (pE h)
 rw[HQ (gq hb)]at d
 clear hb;refine ax (λhb=>?_) λhb=>?_
 .rw[HK (gq hb)]at d
  refine cr h rfl ?_;obtain⟨sp,st,sw,f⟩:=rO h.drop;refine azs f t (λx A=>?_) htold λw' h'=>?_
  .have:=hs x A;exact⟨by rw[c.ty.pl];exact this,m x this.1 this.2⟩
  .exact d aa w' (pE h')
 rw[HQ (gq hb)]at d
 exact d aa _ h.drop
def dqN(m:Lm):List Int:=(Bd m).map λW:Wk=>W.dq
def aCK(b:m.OK)(h:m.total<=m.cells)(f:m.cells<=65536)(g:wa.length=m.n):Ty (gJ a ps m wa) (ZP m) (eY m):=by
 have d:=ahC b h;have h2:=azw (a:=a) (ps:=ps) b h f g;have c:k9 (ZP m) 3 (.liv 0):=(afJ rfl).qT.qT;have i:Ty (gJ a ps m wa) (ZP m) (g3 m):=h2.ad c trivial;have e:sC m 0=6:=by unfold sC;simp
 have j:RgT (gJ a ps m wa) (ZP m) 0 ⟨9,m.lg⟩:=by
  have:=aoc (a:=a) (ps:=ps) (wa:=wa) b h d.n1;rw[e]at this;exact this.qT.qT
 have k:=j.place 0;have hb:=(ahJ (m:=m) d.n1).bot;rw[e]at hb;have l:Ty (gJ a ps m wa) (ZP m) ((g3 m).mem ((((((g3 m).M.tick m.n).tick m.n).tick m.n).tick m.n).put ((Rg.mk 9 m.lg).place 0) 0)):=i.put ⟨rfl,rfl,bf⟩ k (by show(0:Int)<=0/\(0:Int)<1;decide)
 exact l.put ⟨rfl,rfl,by simp[Gl.mem]⟩ hb.qT.qT (by show sy 1;exact⟨e7,e7⟩)
def ZQ:(Bd m).length=m.n:=by unfold Bd JR;simp
theorem adF(h:(Bd m)[i]?=G_ W):i<m.n/\W=Wa i (sC m i):=by
 have a:=(kB.1 h).1;rw[ZQ]at a;refine⟨a,?_⟩;unfold Bd JR at h;grind
def aod(h:i<m.n):(dqN m).getD i 0=sC m i:=by
 unfold dqN Bd JR;simp[m0,h,Wa]
theorem awf(c:m.OK)(h:m.total<=m.cells)(g:m.cells<=65536)(d:wa.length=m.n)(f:oW P):IV (gJ a ps m wa) P (dqN m) (ZP m) (eY m) (Bd m):=by
 refine⟨aCE c d,c.log,f,aCK c h g d,by rw[ZQ];exact d,rfl,λv hv=>?_,λi W hi=>?_,λi j Wi Wj x hi k b=>?_,λx b l=>?_⟩
 .have hv:v<m.n:=by grind
  rw[aod hv];exact(ahJ hv).qT.qT
 .obtain⟨e,rfl⟩:=adF hi;refine⟨rfl,by show i<wa.length;rw[d];exact e,by rw[aod e];rfl,trivial,?_,λx b=>(by cases b),λ_=>(show([]:List Nat)=[]from rfl),λ_=>⟨λ_=>⟨rfl,rfl⟩,λq=>(by cases q),λq=>(by rcases q with q|q<;>cases q)⟩,λx b=>(by cases b),oo⟩
  show((0:Nat):Int)<=m.deep;have:=c.deep;omega
 .obtain⟨e,rfl⟩:=adF hi;cases b
 .have b:x<1:=b;have b:x=0:=af;subst b;exact⟨FI.root f,rfl,rfl,rfl,rfl,rfl⟩
def Cs(G:Gl)(Ws:List Wk):Bool:=Ws.all (λW:Wk=>W.stack.isEmpty)&&L_ (2<=G.K 0)
variable{L:List HP}{n:Nat}{os:List (Nat×Wk)}
section
variable{f:HP->List HP}
def azx{c:Sl->Prop}(h:St w0 w L)[a:At L (jO (pH l aa)) os f](b:os[n]?=G_ (i,W))(hc:∀s:Sl,s.n=W.stack.length->c s):cy w (aY ⟨i,0,H_⟩ 5) c:=by
 obtain⟨R,d,_⟩:=a.out;obtain⟨q,hq,h2⟩:=X2 (BW (d h) b);have e:=qY (s:=q.ss) h2;have:=hq.qw.len;refine aS h2 vM<|hc _ (by simp at e;show q.ss.n=_;omega)
end
section
variable{f:HP->List HP}
def azy{c:Array M_->Prop}(h:St w0 w L)[a1:At L (LA aa) G.ts f](b:aa[x]?=G_ i)(d:G.ts[x]?=G_ zh)(e:c #[I_ zh.jI]):bx 1 w (aY ⟨i,0,H_⟩ 3) c:=by
 obtain⟨R,g,_⟩:=a1.out;obtain⟨so,sc,h2⟩:=sv (g h) b d;refine bA h2 vM ?_;exact e
end
theorem adG(c:IV l P bw ro G Ws)(h:qK w0 w l aa G Ws R)(m:∀w',qK w0 w' l aa G Ws R->k (Cs G Ws) w'):cA (G_ ⟨l.gs,0,H_⟩) w k:=by
 have o:=c.lc;have z:=c.wn;have A:=o.w16;obtain⟨sp,st,sw,h⟩:=rO h;have p:=qY (s:=sw) h;rw[U']at p;have q:=KI (h.front 9 rfl);unfold cA zV;refine aU rfl<|cX<|bP (λ_ w=>Ws.all (λW:Wk=>W.stack.isEmpty)=J_/\St w0 w (SL l aa G (jO (pH l aa) (l.wa.zip Ws)::R) sp st sw)) (λJ B=>?_) ?_
 .refine DN (G:=Nat) (λj i w=>i=(j:Int)/\j<=Ws.length/\(Ws.take j).all (λW:Wk=>W.stack.isEmpty)=J_/\St w0 w (SL l aa G (jO (pH l aa) (l.wa.zip Ws)::R) sp st sw)) (λj=>Ws.length - j) (g:=0) ⟨rfl,af,rfl,h⟩ ?_;clear h;rintro j i w ⟨hi,hj,ha,h⟩ C hC;subst hi;by_cases b:j<Ws.length;rotate_left
  .have e:j=Ws.length:=af;subst e;rw[List.take_length]at ha;exact aU (by simp;omega) (B _ _ ⟨ha,h⟩)
  refine bK (by simp;omega) ?_
  obtain⟨gw,d⟩:∃g,l.wa[j]?=G_ g:=⟨_,iH af⟩;have y:Ws[j]?=G_ (Ws[j]'b):=iH b;refine vP h af (by rw[iZ,l8,d];rfl) ?_
  refine cX<|azx (l:=l) (aa:=aa) h (by rw[List.getElem?_zip_eq_some];exact⟨d,y⟩) λs hs=>?_
  have r:(L_ (((s.n:Nat):Int)>0))= !(Ws[j]'b).stack.isEmpty:=by
   rw[hs];cases (Ws[j]'b).stack<;>simp
  rw[r];cases he:(Ws[j]'b).stack.isEmpty with
  |false=>
   refine bK rfl ?_;have hq:Cs G Ws=false:=by
    unfold Cs;grind
   rw[hq]at m;exact m _ (pE h)
  |true=>
   refine aU rfl<|hC (j+1) _ _ ⟨by rw[kg ⟨af,af⟩];rfl,af,?_,h⟩ af
   rw[qz,y,List.all_append,ha];grind
 clear h;rintro _ w ⟨ha,h⟩;have t:0<G.ts.length:=c.ty.t1;obtain⟨a,f⟩:=Zx q (G.xw t);refine dZ λw h=>?_;refine vP h af (by show(aa.map pt)[0]?=_;rw[l8,f];rfl) ?_
 refine cX<|azy h f (G.xw t) ?_;refine cX ?_;have u:=c.ty.qh t;have x:=c.ty.len;refine aiM h c.ty.ok (by have:=u.k.given x;simpa using this) (u.v.given x) (u.w.given x) λw h=>?_
 have e:Cs G Ws=L_ (G.M.get ((G.tk 0).jI+0)>=2):=by
  unfold Cs;rw[ha,jC];rfl
 rw[e]at m;exact m _ (pE h)
def ahK{k:Int->ap}(h:qK w0 w l aa G Ws R)(hk:∀w',qK w0 w' l aa G Ws R->k G.err w'):cS (G_ ⟨l.gs,0,H_⟩) w k:=by
 obtain⟨sp,st,sw,h⟩:=rO h;unfold cS;refine aU rfl<|cX<|hk _ (pE h)
variable{e:List M_}
def ams(d:0<e.length):∀n:Nat,madeCells e.toArray (n*e.length)=(dU n e).flatten.toArray:=by
 intro n;apply Array.ext
 .simp[madeCells]
 .intro j f h2;have a:j % e.length<e.length:=Nat.mod_lt _ d;have key:∀(n j:Nat),j<n*e.length->(dU n e).flatten[j]?=e[j % e.length]?:=by
   intro n;induction n with
   |zero=>intro j a;omega
   |succ n ih=>
    intro j a;rw[List.replicate_succ,List.flatten_cons];by_cases b:j<e.length
    .rw[tJ b,Nat.mod_eq_of_lt b]
    .rw[u0 af,ih (j - e.length) (by rw[Nat.succ_mul]at a;omega)]
     congr 1;exact(Nat.mod_eq_sub_mod af).symm
  have c:j<n*e.length:=by simp_all
  have:=key n j c;rw[iH a,iH (gq h2)]at this
  have:=G_.inj this;simp[madeCells,a,this]
theorem azB{P:Program}{t:TypeId}{sz:Nat}{z:M_}{kl kc:IntKind}{c:Sl->ap}(h:St w0 w L)(l:ET P t sz z3 z)(m:z.cells=e.toArray)(o:0<sz)(d:e.length=sz)(hv:∀v∈e,v.oneCell'=J_)
  (hbytes:z3*n<=281474976710656) (f:n<=9223372036854775807)
  (p:∀s w',St w0 w' (rws sz s (dU n e)::L)->s.n=n->c s w'):xz P t (.int kl (n:Int)) (.int kc (n:Int)) w c:=by
 obtain⟨e',i,g,hi,hs,q,r⟩:=l.out;have j:(i.bytes:Int)*(n:Int)<=281474976710656:=by grind
 have u:=Go.run_make w t e' i z g hi r kl kc n n af (mG _) j af;unfold xz;rw[u,hs,m,iZ];show c ⟨G_ ⟨w.heap.size,0,H_⟩,n,n⟩ _;refine p _ _ (St.YA (λx a=>by rw[(List.mem_replicate.1 a).2];exact d) (h.new (CA w _) (F':=λk=>k=w.heap.size) ⟨λk=>by simp[Sl.au,eq_comm],qo.new ?_ (by simp[d]) f λx a=>?_⟩ λk A=>by rw[A];exact iw _)) rfl
 .rw[<-ams af,d];exact pN.new w _ e'
 .obtain⟨y,B,a⟩:=List.mem_flatten.1 a;grind
def ahL:Nat->List (Int×Int)->List Int->List Int
 |_,[],a=>a
 |j,p::o,a=>ahL (j+1) o (a.set p.1.toNat (j:Int))
def cq(G:Gl)(o:List (Int×Int)):List Int:=ahL 0 o (dU G.ts.length 0)
section
variable{sw:Sl}
def ahM{k:Sl->ap}(h:St w0 w (SL l aa G R ps zp sw))(m:SM G o)(K:G.ts.length<=100000)(B:∀s w',St w0 w' (bG 1 s (ints (cq G o))::SL l aa G R ps zp sw)->(cq G o).length=G.ts.length->k s w'):cI (G_ ⟨l.gs,0,H_⟩) w k:=by
 unfold cI BM;have t:=KI (h.front 9 rfl);have r:=qY (s:=zp) h;rw[U',t]at r;refine cX ?_;refine AT (n:=zp.n) (z:= I_ 0) (b:=8) h ⟨aZ,aZ⟩ rfl af af λs3 w h L=>cX ?_;have D:dU zp.n (Value.int B_ 0)=ints (dU G.ts.length 0):=by simp[ints,r]
 rw[D]at h;refine aiO h m.kids m.len m.dfs λy w h=>?_;have u:=qY (s:=y) h;simp[ints,U']at u;have F:=m.len;refine DN (λq i w=>i=((q.1:Nat):Int)/\q.1<=o.length/\q.2.length=G.ts.length/\ahL q.1 (o.drop q.1) q.2=cq G o/\St w0 w (bG 1 y (ints (o.map λp:Int×Int=>p.1))::bG 1 s3 (ints q.2)::SL l aa G R ps zp sw)) (λq=>o.length - q.1) (g:=(0,dU G.ts.length 0)) ⟨rfl,af,bf,rfl,h⟩ ?_;clear h;rintro⟨j,a⟩ i w ⟨hi,H,c,f,h⟩ C I;dsimp only at hi H c f h;subst hi;by_cases d:j<o.length
 .refine bK (by simp;omega) ?_
  have A:=m.ids _ (nX d);rw[TT d]at f;generalize J:o[j]'d=p at A f;have v:o[j]?=G_ p:=by rw[iH d,J]
  refine vI h af (x:=p.1) (by simp[ints,v]) ?_
  refine zC h A.1 (by rw[c];omega) λw h=>?_
  refine I (j+1,a.set p.1.toNat (j:Int)) _ _ ⟨?_,by dsimp only;omega,by simp[c],f,h⟩ (by dsimp only;omega)
  rw[kg ⟨af,af⟩];rfl
 .refine aU (by simp;omega) ?_
  have e:j=o.length:=af;subst e;rw[List.drop_length]at f;have f:a=cq G o:=f;subst f;exact B _ _ h.drop c
end
def AO(p:Int)(k f kd v st:Int)(c:ByteArray):List Value:=[I_ p,I_ k,I_ f,I_ kd,I_ v,I_ st,.string c]
def rowAt(G:Gl)(r:List Int)(p:Int×Int):List Value:=
 let t:=G.tk p.1.toNat
 AO (if 0<=p.2 then r.getD p.2.toNat 0 else -1) (G.P.getD t.l7.toNat (0,0,0,K_)).2.1 (t.f.getD 0 0) (G.K p.1.toNat) (if G.K p.1.toNat<2 then 0 else G.V p.1.toNat) (t.f.getD 18 0) t.gL
def Gc(G:Gl)(r:List Int)(T:List (List M_)):List (Int×Int)->List (List M_)
 |[]=>T
 |p::o=>Gc G r (T.set (r.getD p.1.toNat 0).toNat (rowAt G r p)) o
def Yn(G:Gl)(o:List (Int×Int)):List (List M_):=Gc G (cq G o) (dU G.ts.length (AO 0 0 0 0 0 0 (Oq #[]))) o
def aFn:ET Tryz.prog 35 7 64 (.agg #[I_ 0,I_ 0,I_ 0,I_ 0,I_ 0,I_ 0,.string (Oq #[])]):=⟨aZ,aZ⟩
def adH(G:Gl)(r:List Int):∀(a b:List (Int×Int)) (T:List (List M_)),Gc G r T (a++b)=Gc G r (Gc G r T a) b
 |[],b,T=>rfl
 |p::a,b,T=>adH G r a b _
def adI(G:Gl)(r:List Int):∀(a:List (Int×Int)) (T:List (List M_)),(Gc G r T a).length=T.length
 |[],T=>rfl
 |p::a,T=>by rw[Gc,adI G r a];simp
abbrev TbP(l:Lc)(aa:List Nat)(G:Gl)(sp st sw:Sl)(g1 g7 g13:Nat)(s5 s11:Sl)(r:List Int)(T:List (List M_)):List HP:=
 [au g1 [pt l.gs],au g13 [S_ s11],rws 7 s11 T,au g7 [S_ s5],bG 1 s5 (ints r),au l.gs (l.cs sp st sw G.steps G.err),bH l.gm G.M,scp l.gc G.C,rws 4 sp (G.P.map tI),bG 1 st (aa.map pt),bG 1 sw (l.wa.map pt),ni l.gt G.time,Lw l.gd G.D,LA aa G.ts]
variable{g j:Nat}{w':World}
def awj{v:M_}{c:Prop}(h:w.cell? ⟨g,i+j,H_⟩=G_ v)(h':w'.cell? ⟨g,i+j,H_⟩=G_ v)(a:c):ai 1 (aY ⟨g,i,H_⟩ j) w w' c:=by rw[dg];exact abZ h h' a
abbrev TbB(l:Lc)(aa:List Nat)(G:Gl)(sp st sw:Sl)(g1 g7 g13:Nat)(s5 s11:Sl)(r:List Int)(T:List (List M_))(a x:Nat)(so sc:Sl)(Rr:List HP):List HP:=
 au a ((G.tk x).cells so sc)::rws 2 so ((G.tk x).cJ.map A1)::bG 1 sc (ints (G.tk x).scopes)::jO tkP ((aa.zip G.ts).eraseIdx x)::au g1 [pt l.gs]::au g13 [S_ s11]::rws 7 s11 T::au g7 [S_ s5]::bG 1 s5 (ints r)::au l.gs (l.cs sp st sw G.steps G.err)::bH l.gm G.M::scp l.gc G.C::rws 4 sp (G.P.map tI)::bG 1 st (aa.map pt)::bG 1 sw (l.wa.map pt)::ni l.gt G.time::Lw l.gd G.D::Rr
theorem akd{k:Sl->ap}(m:IV l P bw ro G Ws)(r:SM G o)(hp:∀p∈o,p.2<G.ts.length)(t:∀x∈cq G o,0<=x/\x<G.ts.length)(h:qK w0 w l aa G Ws R)
  (hk:∀s w',qK w0 w' l aa G Ws (rws 7 s (Yn G o)::R)->k s w'):dD (G_ ⟨l.gs,0,H_⟩) w k:=by
 have hcap:=m.ty.cap;obtain⟨sp,st,sw,h⟩:=rO h;have u:=KI (h.front 9 rfl);unfold dD AI;refine aM h λg1 w h=>cX ?_;have h:=h.bk 10;refine ahM h r af λi w h y=>?_;have z:=qY (s:=i) h;simp[ints,U',y]at z;refine vO λgx w h=>?_;obtain⟨A,N⟩:∃n,n=gx:=⟨_,rfl⟩;subst N;refine azB (n:=i.n) (e:=AO 0 0 0 0 0 0 (Oq #[])) h aFn aZ af rfl (by intro v hv;simp[AO]at hv;rcases hv with rfl|rfl<;>rfl) af af λb w h h11=>?_
 refine vO λgx w h=>?_;obtain⟨c,N⟩:∃n,n=gx:=⟨_,rfl⟩;subst N;rw[show dU i.n (AO 0 0 0 0 0 0 (Oq #[]))=dU G.ts.length (AO 0 0 0 0 0 0 (Oq #[])) by rw[z]]at h
 have h:=h.fr 14;have h:=h.fr 7;have h:=h.bk 14;have h:St w0 w (l9 (TbP l aa G sp st sw g1 A c i b (cq G o) (Gc G (cq G o) (dU G.ts.length (AO 0 0 0 0 0 0 (Oq #[]))) []))::Da l.gk G.T::jO (pH l aa) (l.wa.zip Ws)::R):=St.shut h;refine atk (G:=λdone=>l9 (TbP l aa G sp st sw g1 A c i b (cq G o) (Gc G (cq G o) (dU G.ts.length (AO 0 0 0 0 0 0 (Oq #[]))) done))) h r.kids r.len r.dfs (λdone rest p w O C hd h hc=>?_) λD w h=>?_
 .have j:p∈o:=by rw[hd];simp
  have Q:=r.ids p j;have hpp:=hp p j;have L:p.1.toNat<G.ts.length:=af;have h:=St.open h;simp[S',VM]at h;obtain⟨a,S⟩:=Zx u (G.xw L);have M:=m.ty.qh L;have U:=m.ty.len;have W:=M.inn;have BU:=m.ty.pl;refine cX<|vP (s:=st) h Q.1 (by rw[l8,S];rfl) ?_
  have h:=h.fr 13;obtain⟨so,sc,h⟩:=awa h S L;refine dZ λw h=>aiM h m.ty.ok (by have:=M.k.given U;simpa using this) (M.v.given U) (M.w.given U) λw h=>?_
  rw[jC];have hP:G.P[(G.tk p.1.toNat).l7.toNat]?=G_ (G.P.getD (G.tk p.1.toNat).l7.toNat (0,0,0,K_)):=by
   rw[m0,iH af];rfl
  have d:(G.P.map tI)[(G.tk p.1.toNat).l7.toNat]?=G_ (tI (G.P.getD (G.tk p.1.toNat).l7.toNat (0,0,0,K_))):=by rw[l8,hP];rfl
  generalize X:G.P.getD (G.tk p.1.toNat).l7.toNat (0,0,0,K_)=pl at d;clear hP;have Y:(Gc G (cq G o) (dU G.ts.length (AO 0 0 0 0 0 0 (Oq #[]))) done).length=G.ts.length:=by rw[adI,nt]
  generalize Z:Gc G (cq G o) (dU G.ts.length (AO 0 0 0 0 0 0 (Oq #[]))) done=B at h Y;refine bP (fun(ad:Addr) w=> ∃g,ad=⟨g,0,H_⟩/\St w0 w (au g (AO (-1) pl.2.1 ((G.tk p.1.toNat).f.getD 0 0) (G.K p.1.toNat) (if G.K p.1.toNat<2 then 0 else G.V p.1.toNat) ((G.tk p.1.toNat).f.getD 18 0) (G.tk p.1.toNat).gL)::TbB l aa G sp st sw g1 A c i b (cq G o) B a p.1.toNat so sc O)) (λJ hJ=>?_) ?_
  .refine dZ λw h=>rix (sz:=4) h W.1 d af λgq oq t _=>?_;refine uZ (by rw[dg];exact t h d 1 _ rfl) ?_
   have hold:=h;with_reducible repeat' (first|refine bc ?_|refine u_T h ?_|refine Z7 h ?_|refine QU h λw h=>?_|refine aM h λgx w h=>?_|refine nP h ?_|refine sR h ?_|refine y8 ?_ ?_|refine an3 hold h vM ?_|refine awj (t hold d 1 _ rfl) (t h d 1 _ rfl) ?_)
   all_goals exact hJ _ _ ⟨_,rfl,h⟩
  clear h;rintro _ w ⟨g,rfl,h⟩;have hr1:(cq G o)[p.1.toNat]?=G_ ((cq G o).getD p.1.toNat 0):=by rw[m0,iH af];rfl
  have F:=t _ (qn hr1);have H:(ints (cq G o))[p.1.toNat]?=G_ (I_ ((cq G o).getD p.1.toNat 0)):=by grind
  have I:∀(w:World) (q:Int),q=(if 0<=p.2 then(cq G o).getD p.2.toNat 0 else -1)->St w0 w (TbB l aa G sp st sw g1 A c i b (cq G o) (B.set ((cq G o).getD p.1.toNat 0).toNat (AO q pl.2.1 ((G.tk p.1.toNat).f.getD 0 0) (G.K p.1.toNat) (if G.K p.1.toNat<2 then 0 else G.V p.1.toNat) ((G.tk p.1.toNat).f.getD 18 0) (G.tk p.1.toNat).gL)) a p.1.toNat so sc O)->C w:=by
   intro w q hq h;have h:=qg u S (G.xw L) h;have h:=h.bk 13;refine hc w (St.shut ?_);rw[adH,Z];have e:rowAt G (cq G o) p=AO q pl.2.1 ((G.tk p.1.toNat).f.getD 0 0) (G.K p.1.toNat) (if G.K p.1.toNat<2 then 0 else G.V p.1.toNat) ((G.tk p.1.toNat).f.getD 18 0) (G.tk p.1.toNat).gL:=by
    unfold rowAt;rw[hq,<-X]
   show St w0 w (TbP l aa G sp st sw g1 A c i b (cq G o) (B.set ((cq G o).getD p.1.toNat 0).toNat (rowAt G (cq G o) p))++O);rw[e];exact h
  refine ax (λhb=>?_) λhb=>?_
  .have hb:0<=p.2:=by simpa using hb
   have hr2:(cq G o)[p.2.toNat]?=G_ ((cq G o).getD p.2.toNat 0):=by rw[m0,iH af];rfl
   refine cX<|vI (s:=i) h hb (by unfold ints;rw[l8,hr2];rfl) ?_
   refine dZ λw h=>vI h Q.1 H ?_;refine cX ?_;refine rW (e:=B[((cq G o).getD p.1.toNat 0).toNat]' af) h F.1 (iH _) af rfl ?_ λw h=>?_
   .intro v hv;simp[AO]at hv;rcases hv with rfl|rfl|rfl|rfl|rfl|rfl|rfl<;>rfl
   have h:=h.drop;refine I w _ (HK hb).symm<|h
  .have hb:¬0<=p.2:=by simpa using hb
   refine dZ λw h=>vI h Q.1 H ?_;refine cX ?_;refine rW (e:=B[((cq G o).getD p.1.toNat 0).toNat]' af) h F.1 (iH _) af rfl ?_ λw h=>?_
   .intro v hv;simp[AO]at hv;rcases hv with rfl|rfl|rfl|rfl|rfl|rfl|rfl<;>rfl
   have h:=h.drop;refine I w _ (HQ hb).symm<|h
 .have h:=h.front 1 rfl;simp[I7]at h;have h:=St.open h;simp[S',VM]at h;refine cX ?_;have h:=QR h;have h:=h.fr 15;have h:=LK h;refine LL h λw h=>hk b w ?_;have h:=h.zm 0;have h:=h.zm 0;have h:=h.zm 1;have h:=h.zm 1;have h:=h.fr 10;have h:=h.fr 3;have h:=h.fr 3;have h:=h.fr 3;have h:=h.bk 11;exact pE h
def O9(G:Gl)(s:Int):Pl:=G.P.getD s.toNat (0,0,0,K_)
def awk(G:Gl)(o:List (Int×Int)):Prop:=∀s∈da G o,(0<=s/\s<G.C.length)/\(O9 G s).1<G.ts.length
def onF(l:Lc)(G:Gl)(W:Wk):Bool:=tD (l.sp.bits G.M) W.id
def Pw(s:Sl):List dB:=[⟨0,s,[[16,0,0,0,0]]⟩]
def mw:Lm:=⟨1,0,65536,1048576,1000,3⟩
def afL(G:Gl):Bool:=(match G.T with|[t]=>L_ (t.parent= -1)&&t.kids.isEmpty|_=>K_)&&L_ (G.ts.length=1)&&(L_ ((G.tk 0).scopes.length<=1)&&(G.tk 0).scopes.all λx:Int=>L_ (0<=x/\x<(G.C.length:Nat)))
def oR:List (Int×Int):=[(0, -1)]
def runN(l:Lc)(P:List dB):Nat->Gl->List Wk->Option (Gl×List Wk)
 |0,_,_=>H_
 |n+1,G,Ws=>bif afL G then(bif Cs G Ws then G_ (G,Ws)else bif L_ (G.err=0)then runN l P n (SA l P G Ws oR 0 0).1.1 (SA l P G Ws oR 0 0).1.2 else H_)else H_
theorem adL(d:Ty l ro G)(h:afL G=J_):SM G oR/\∀x∈da G oR,0<=x/\x<G.C.length:=by
 unfold afL at h;simp only[iY,decide_eq_true_eq,tL]at h;obtain⟨⟨j,h2⟩,k,f⟩:=h;have c:da G oR=0::(G.tk 0).scopes:=by
  unfold da oR;simp
 have b:∃t,G.T=[t]/\t.parent= -1/\t.kids=[]:=by grind
 obtain⟨t,e,a,g⟩:=b;refine⟨⟨λi x hx=>?_,e7,?_,λp a=>?_,by rw[c];simp;omega⟩,λx hx=>?_⟩
 .grind
 .rw[e];rw[HQ bf];unfold oR;rw[<-a];refine Dfs.cons rfl ?_;rw[g];exact .nil
 .simp[oR]at a;subst a;exact⟨e7,by show(0:Int)< _;omega⟩
 .rw[c]at hx;have:=d.c1;rcases BP.1 hx with rfl|hx
  .omega
  .exact f x hx
theorem aqJ{k:Int->ap}{r:Gl×List Wk}(i:iA w0 l.ps P)(j:TZ w0)(v:(n:Int)<=zd)(m:zd<=1000000)(c:IV l P bw ro G Ws)(a:runN l P n G Ws=G_ r)(h:qK w0 w l aa G Ws R)
  (o:∀z JI iT w',IV l P bw iT r.1 r.2->afL r.1=J_->qK w0 w' l JI r.1 r.2 R->k z w'):iF (G_ ⟨l.gs,0,H_⟩) 1 zd w k:=by
 unfold iF xj;refine DN (λq x w=>(0<=x.2/\x.2+q.1<=zd)/\IV l P bw q.2.2.2.2 q.2.1 q.2.2.1/\runN l P q.1 q.2.1 q.2.2.1=G_ r/\qK w0 w l q.2.2.2.1 q.2.1 q.2.2.1 R) (λq=>q.1) (g:=(n,G,Ws,aa,ro)) ⟨⟨by show(0:Int)<=0;decide,by show(0:Int)+n<=_;omega⟩,c,a,h⟩ ?_
 clear h a c;rintro⟨n,G,Ws,aa,ro⟩ ⟨y,A⟩ w ⟨e,c,a,h⟩ C p;dsimp only at e c a h ⊢;cases n with
 |zero=>cases a
 |succ n=>
  unfold runN at a;cases h1:afL G with
  |false=>rw[h1]at a;cases a
  |true=>
   rw[h1]at a;obtain⟨s,hs⟩:=adL c.ty h1;refine bP (fun(b:Bool) w=>b=(!Cs G Ws&&L_ (G.err=0))/\qK w0 w l aa G Ws R) (λJ f=>?_) ?_
   .refine bK (by simp;omega) ?_
    refine adG c h λw h=>?_;cases hq:Cs G Ws with
    |true=>exact aU rfl (f _ _ ⟨by rw[hq];rfl,h⟩)
    |false=>
     refine bK rfl<|ahK h λw h=>f _ _ ⟨by rw[hq];rfl,h⟩
   clear h;rintro _ w ⟨rfl,h⟩;cases hq:Cs G Ws with
   |true=>
    rw[hq]at a;cases a
    exact aU rfl (o _ aa ro w c h1 h)
   |false=>
    rw[hq]at a;by_cases t:G.err=0;rotate_left
    .grind
    have u:L_ (G.err=0)=true:=by simp[t]
    rw[u]at a ⊢;have a:runN l P n (SA l P G Ws oR 0 0).1.1 (SA l P G Ws oR 0 0).1.2=G_ r:=a;refine bK rfl ?_;refine⟨2,?_⟩;unfold jV;refine bK rfl<|aFl c i j s hs h λJI w h=>?_;unfold jV;refine aU rfl ?_;obtain⟨iT,d⟩:=awe c hs;refine p (n,_,_,JI,iT) _ _ ⟨?_,d,a,h⟩ (by dsimp only;omega)
    dsimp only;rw[dh ⟨af,af⟩];push_cast at e;omega
variable{gw:Nat}{sc:Sl}
def ran:(runN (gJ a ps mw [gw]) (Pw sc) 60 (eY mw) (Bd mw)).map (λr:Gl×List Wk=>(r.1.err,r.1.ts.length,cq r.1 oR,Yn r.1 oR,Cs r.1 r.2))=G_ (0,1,[0],[AO (-1) 0 0 2 0 1 (Oq #[])],J_):=by kernel_rfl
open Ck (oW qx my tj Su qf mZ)
def aW:List (List Int):=[[16,0,0,0,0]]
def azE:qx aW 0=[0]:=(Ck.ajo 1 e7 e7 aZ).trans aZ
def aoe(s:Sl):tj (Pw s)=(0,0,0):=Ck.alH (r:=H_) azE aZ aZ
def azF(s:Sl):oW (Pw s):=Ck.afq.1 (by rw[aoe])
def aCM(s:Sl):Su (tj (Pw s))=[0,0,0]:=by rw[aoe];rfl
def awo:mw.OK:=⟨e7,e7,e7,e7,e7,e7⟩
def akf:mw.total<=mw.cells/\mw.cells<=65536/\mw.n=1:=⟨of_decide_eq_true aZ,of_decide_eq_true aZ,aZ⟩
theorem aFu:∃r:Gl×List Wk,runN (gJ a ps mw [gw]) (Pw sc) 60 (eY mw) (Bd mw)=G_ r/\r.1.err=0/\r.1.ts.length=1/\cq r.1 oR=[0]/\Yn r.1 oR=[AO (-1) 0 0 2 0 1 (Oq #[])]/\Cs r.1 r.2=true:=by
 have h:=ran (a:=a) (ps:=ps) (sc:=sc) (gw:=gw);generalize runN (gJ a ps mw [gw]) (Pw sc) 60 (eY mw) (Bd mw)=x at h ⊢;cases x with
 |none=>cases h
 |some r=>
  grind
def TZ.ext(h:TZ w)(a:Ext w w'):TZ w':=λi hi=>Ext.cell a (h i hi)
def aqK{l:List M_}(hb:pN w g l.toArray)(a:l.length=n*y)(c:Nat):Hj y w ⟨A_ g,n,c⟩ l:=
 ⟨a,λi v hv=>⟨_,rfl,by rw[dg,hb.cell];simpa using hv⟩⟩
def azG{c3:Nat}(d:pN w u (eZ aW.flatten))(hb:pN w n #[I_ 0,IC (A_ u) 1 v]):iA w ⟨A_ n,1,c3⟩ (Pw ⟨A_ u,1,v⟩):=by
 have b:∀x∈aW,x.length=5/\∀y∈x,sy y:=e7;refine⟨Ck.auC (aqK hb rfl _) e7 (by intro e a;simp[dB.cells,Pw]at a;subst a;rfl),λx c=>?_,by simp[reachBytes,Pw]⟩
 simp[Pw]at c;subst c;refine⟨(by decide:sy 0),Ck.apE d b (λi hi j f=>?_) (by simp[reachBytes,aW])⟩
 rw[FM,Ck.Tc (λe a=>(b e a).1) (e:=aW.getD i []) (by simp[hi]) f]
def aof(r:List M_)(p a b c d e:Int)(t:ByteArray){k:Bool->Prop}(f:k J_):Tj ([(0,0)] ++([(1,0)] ++([(2,0)] ++([(3,0)] ++([(4,0)] ++([(5,0)] ++([(6,2)] ++[]))))))) (AO p a b c d e t).toArray (AO p a b c d e t).toArray k:=by
 unfold Tj;have:oZ (AO p a b c d e t).toArray (AO p a b c d e t).toArray ([(0,0)] ++([(1,0)] ++([(2,0)] ++([(3,0)] ++([(4,0)] ++([(5,0)] ++([(6,2)] ++[])))))))=G_ true:=by
  simp[oZ,eqC,AO]
 rw[this];exact f
def adM{k:Array M_->ap}(h:St w0 w L)(a:∀w',St w0 w' L->k (lmA ⟨b,s,65536,1048576,1000,3⟩) w'):dc b s w k:=by
 unfold dc;refine aM h λg w h=>dZ λw h=>a _ h.drop
def azH(G:TZ w0)(H:iA w0 ps (Pw sc))(I:wa.length=1)(h:qK w0 w (gJ a ps mw wa) aa (eY mw) (Bd mw) [])
  (hk:∀w',Ext w0 w'->k J_ w'):iF (G_ ⟨a.gs,0,H_⟩) 1 9000 w λi f=>cA (G_ ⟨a.gs,0,H_⟩) f λj c=>an j (cS (G_ ⟨a.gs,0,H_⟩) c λm d=>an (m==(0:Int)) (dD (G_ ⟨a.gs,0,H_⟩) d λo q=>
   kT #[(I_ (0:Int)),(I_ (0:Int)),(I_ (0:Int)),(I_ (0:Int)),(I_ (0:Int)),(I_ (0:Int)),(.string (Oq #[]))] 0 7 #[(I_ (-(1:Int))),(I_ (0:Int)),(I_ (0:Int)),(I_ (2:Int)),(I_ (0:Int)),(I_ (1:Int)),(.string (Oq #[]))] λe=>
    aE q e 49 λt u=>dF o (Sl.mk (G_ t) 1 1) u λy A=>(k y A)) ((k K_ d))) ((k K_ c)):=by
 obtain⟨gw,rfl⟩:∃gw,wa=[gw]:=by
  match wa,I with
  |[gw],_=>exact⟨gw,rfl⟩
 have b:=awf (a:=a) (ps:=ps) (wa:=[gw]) awo akf.1 akf.2.1 akf.2.2.symm (azF sc);obtain⟨r,B,J,e2,K,L,M⟩:=aFu (a:=a) (ps:=ps) (sc:=sc) (gw:=gw);generalize eY mw=P at b B h;generalize Bd mw=W0 at b B h;refine aqJ (l:=gJ a ps mw [gw]) H G (by show(60:Int)<=9000;decide) (by show(9000:Int)<=1000000;decide) b B h λz JI iT w b N h=>?_
 obtain⟨O,hs⟩:=adL b.ty N;refine adG b h λw h=>?_;rw[M];refine bK rfl<|ahK h λw h=>?_;rw[J];refine bK rfl<|akd b O (λp F=>by simp[oR]at F;subst F;show(-1:Int)< _;omega) (λx C=>by rw[K]at C;simp at C;subst C;omega) h λs w h=>?_
 rw[L]at h;refine qL (AO (-1) 0 0 2 0 1 (Oq #[])).toArray rfl aZ<|aM h λg w h=>?_;have h:=Yc (sz:=7) h rfl (by intro v hv;simp[AO]at hv;rcases hv with rfl|rfl|rfl|rfl|rfl|rfl<;>rfl)
 have D:=(pg (sz:=7) (s:=s) h).2 e7;have D:s.n=1:=D.symm;unfold dF;rw[D];refine aU rfl ?_;refine⟨2,?_⟩;unfold jV;refine bK rfl<|dZ λw h=>?_;refine rA h e7 rfl e7<|rA h e7 rfl e7<|aof [] _ _ _ _ _ _ _ (aU rfl ?_);unfold jV;refine aU rfl<|hk _ h.ext
def aCN{k:Option Addr×Int->ap}(b:iA w ps (Pw sc))(d:∀(a:Ad) (wa aa:List Nat) w',wa.length=1->qK w w' (gJ a ps mw wa) aa (eY mw) (Bd mw) []->k (G_ ⟨a.gs,0,H_⟩,0) w'):kF #[S_ ps] (lmA mw) w k:=
 ahh b (.nil w) (λ_ _ _ a wa aa w' e h=>d a wa aa w' (e.trans akf.2.2) h) (λq=>(q (aCM sc)).elim) (λ_ q=>(q awo).elim) λ_ _ q=>(q akf.1).elim
def awp{k:Int->ap}(h:k 9000 w):sA 1 1 1 w k:=aU rfl h
def awq(e:TZ w0)(f:∀w',Ext w0 w'->k J_ w'):iv w0 k:=by
 unfold iv yZ;refine qL (eZ aW.flatten) rfl aZ<|aM (.nil w0) λg2 w h=>aM h λn w h=>dZ λw h=>bP (fun(x:Option Addr×Int) w'=> ∃w1 ps sc,∃(a:Ad) (wa aa:List Nat),x=(G_ ⟨a.gs,0,H_⟩,0)/\Ext w0 w1/\iA w1 ps (Pw sc)/\wa.length=1/\qK w1 w' (gJ a ps mw wa) aa (eY mw) (Bd mw) []) (λJ i=>?_) ?_
 .have b:∀(w:World) (gx:Nat) (L:List HP) (f1 f2:HP->List HP) (h:St w0 w L) (j:At L (au g2) (eZ aW.flatten).toList f1) (l:At L (au gx) [I_ 0,IC (A_ g2) 1 1] f2),kF #[IC (A_ gx) 1 1] (lmA mw) w λx w=>J (x.1,x.2) w:=by
   intro w gx L f1 f2 h j l;have c:=azG (c3:=1) (h.au) (h.au (g:=gx));refine aCN c λa wa aa w' d h'=>i _ _ ⟨_,_,_,a,wa,aa,rfl,h.ext,c,d,h'⟩
  with_reducible repeat' (first|refine cH h λw h=>?_|refine Vh h ?_|refine sR h ?_|refine y8 ?_ ?_|refine adM h λw h=>?_)
  .refine qL #[I_ 0,IC (A_ g2) 1 1] rfl aZ ?_;with_reducible repeat' (first|refine aM h λgx w h=>?_|refine sR h ?_|refine y8 ?_ ?_|refine adM h λw h=>?_)
   all_goals exact b _ _ _ _ _ h inferInstance inferInstance
  .refine qL #[I_ 0,IC (A_ g2) 1 1] rfl aZ<|vO λgx w h=>b _ _ _ _ _ h inferInstance inferInstance
 clear h;rintro _ w ⟨w1,ps,sc,a,wa,aa,rfl,he,c,d,h⟩;refine aU rfl<|awp<|azH (e.ext he) c d h λw' m=>f w' (he.trans m)
open Ck (oW qx my tj Su qf mZ Few)
def one_le(b:m.OK):m.one<=7:=by
 have a:=b.log;unfold Lm.one Lm.lg EX;have:∀x:Int,0<=x->x<=8->(3:Int)+2 ^ (if x<2 then x else 2).toNat<=7:=by
  intro x c d;rcases (by omega:x=0\/x=1\/2<=x)with rfl|rfl|h
  iterate 2 decide
  .rw[HQ af];decide
 exact this _ a.1 a.2
variable{n:Int}
structure UZ (P:List dB) (b s lg:Int) (sc:Sl):Prop where
 Zs:Few P
 b1:1<=b
 s0:0<=s
 b8:b<=8
 s8:s<=8 - b
 l0:0<=lg
 l5:lg<=5
 n:sc.n<=300
 acc:Su (tj P)=[0,0,0]
abbrev U0(ps sc:Sl)(b s lg:Int):Array Value:=#[S_ ps,I_ b,I_ s,I_ lg,S_ sc]
abbrev MO(b s lg:Int):Lm:=⟨b,s,65536,1048576,1000,lg⟩
variable{lg:Int}
def UZ.ok(h:UZ P b s lg sc):(MO b s lg).OK:=by
 have a:=h.b1;have h2:=h.s0;have d:=h.b8;have e:=h.s8;have c:=h.l0;have f:=h.l5;exact⟨⟨a,by show b<=16;omega⟩,⟨h2,by show s<=16 - b;omega⟩,⟨by show(1:Int)<=65536;decide,by show(65536:Int)<=1048576;decide⟩,⟨by show(0:Int)<=1048576;decide,by show(1048576:Int)<=1048576;decide⟩,⟨by show(1:Int)<=1000;decide,by show(1000:Int)<=1000;decide⟩,⟨c,by show lg<=8;omega⟩⟩
def UZ.tot(h:UZ P b s lg sc):(MO b s lg).total<=(MO b s lg).cells:=by
 have a:=h.b1;have h2:=h.s0;have c:=h.b8;have d:=h.s8;have e:(MO b s lg).n<=8:=by unfold Lm.n;show(b+s).toNat<=8;omega
 have:=one_le h.ok;have f:((MO b s lg).n:Int)*(MO b s lg).one<=(MO b s lg).n*7:=Int.mul_le_mul_of_nonneg_left this af;unfold Lm.total;show _<=(65536:Int);omega
def azI(f:iA w0 ps P)(h:St w0 w L)(i:∀j w',St w0 w' L->(j=J_->UZ P b s lg sc)->k j w'):lC (U0 ps sc b s lg) w k:=by
 unfold lC BO;refine aM h λg w h=>?_;have a:∀w',St w0 w' (au g (U0 ps sc b s lg).toList::L)->k K_ w':=λw' h=>i _ _ h.drop λq=>by cases q
 refine cX ?_;refine Ck.aBR (P:=P) (ps:=ps) (f.ext h.ext) λb1 w' d hb=>?_;have h:=h.on d.ext;clear d;refine ax (λm=>?_) λ_=>a _ h;refine cX ?_;refine ax (λc1=>?_) λ_=>a _ h;refine cX ?_;refine ax (λc2=>?_) λ_=>a _ h;refine cX ?_;refine ax (λc3=>?_) λ_=>a _ h;simp only[decide_eq_true_eq]at c1 c2 c3;refine cX ?_;rw[show aF B_ (8 - b)=8 - b from dh ⟨af,af⟩];refine ax (λc4=>?_) λ_=>a _ h;refine cX ?_;refine ax (λl=>?_) λ_=>a _ h;refine cX ?_;refine ax (λc=>?_) λ_=>a _ h;refine cX ?_;refine ax (λe=>?_) λ_=>a _ h;simp only[decide_eq_true_eq]at c4 l c e;refine cX ?_;refine Ck.adg (P:=P) (ps:=ps) (f.ext h.ext) λw' d=>?_;have h:=h.on d.ext;refine i _ _ h.drop λq=>⟨hb m,c1,c2,c3,c4,l,c,af,by simpa using q⟩
def azJ{k:Array M_->ap}(h:St w0 w L)(a:∀w',St w0 w' L->k (lmA (MO b s lg)) w'):fL (U0 ps sc b s lg) w k:=by
 unfold fL sZ;refine aM h λg1 w h=>aM h λg3 w h=>?_;with_reducible repeat' (first|refine Iy h ?_|refine Vh h ?_|refine Hq h λw h=>?_|refine QU h λw h=>?_|refine aM h λgx w h=>?_|refine adM h λw h=>?_)
 exact a _ h.drop.drop.drop
def azK{k:Option Addr->ap}(d:iA w0 ps P)(c:UZ P b s lg sc)(h:St w0 w R)(e:∀a wa aa w',wa.length=(MO b s lg).n->qK w0 w' (gJ a ps (MO b s lg) wa) aa (eY (MO b s lg)) (Bd (MO b s lg)) R->k (G_ ⟨a.gs,0,H_⟩) w'):kJ (U0 ps sc b s lg) w k:=by
 unfold kJ AJ;refine aM h λg1 w h=>dZ λw h=>azJ h λw h=>?_;with_reducible repeat' (first|refine nP h ?_|fail)
 refine ahh d h.drop (λ_ _ _ a wa aa w' f h=>?_) (λq=>(q c.acc).elim) (λ_ q=>(q c.ok).elim) λ_ _ q=>(q c.tot).elim;exact aU rfl (e a wa aa w' f h)
variable{f2:HP->List HP}{s1 s2:Sl}
section
variable{f:HP->List HP}
def awr{es:List (List M_)}(h:St w0 w L)[a:At L (rws 7 s1) es f][a2:At L (rws 7 s2) es f2](d:∀e∈es,∃p q r x v st t,e=AO p q r x v st t)(m:es.length<=1000000)
  (l:∀w',St w0 w' L->k J_ w'):dF s1 s2 w k:=by
 have n:=(pg (sz:=7) (s:=s1) h).2 e7;have h2:=(pg (sz:=7) (s:=s2) h).2 e7;unfold dF;refine aU (by simp;omega) ?_
 refine DN (G:=Nat) (λj i w=>i=(j:Int)/\j<=es.length/\St w0 w L) (λj=>es.length - j) (g:=0) ⟨rfl,af,h⟩ ?_;clear h;rintro j i w ⟨rfl,hj,h⟩ C hC;by_cases b:j<es.length
 .refine bK (by simp;omega) ?_
  obtain⟨e,c⟩:∃e,es[j]?=G_ e:=⟨_,iH b⟩;obtain⟨p,q,r,x,v,st,t,rfl⟩:=d e (qn c);refine cH h λw h=>rA h af (by rw[iZ];exact c) e7 ?_
  refine rA h af (by rw[iZ];exact c) e7 ?_
  refine aof [] _ _ _ _ _ _ _ (aU rfl ?_);refine hC (j+1) _ _ ⟨?_,af,h⟩ af;rw[dh ⟨af,af⟩];omega
 .refine aU (by simp;omega) ?_
  exact l _ h
end
def ahN(m:Lm):(eY m).P=[(-1,0,0,K_),(0,0,0,K_)]:=by kernel_rfl
def aws(m:Lm):∃aUo,(eY m).tk 0=⟨0,0,1,aUo,Fr.nF,Oq #[],[],[1],0,0⟩:=⟨_,rfl⟩
def aoi(m:Lm):(eY m).ts.length=1/\(eY m).C.length=2:=⟨rfl,rfl⟩
def l0(m:Lm):Lc:=gJ ⟨0,0,0,0,0,0,0⟩ ⟨H_,0,0⟩ m []
def awt(m:Lm):Bool:=
 L_ ((eY m).K 0=0)&&L_ ((eY m).M.get ((eY m).nd 0).at_=0)&&L_ ((eY m).M.get (((eY m).nd 0).at_+1)=1)&&L_ ((eY m).M.get ((eY m).nd 1).at_=0)&&L_ ((eY m).M.get (((eY m).nd 1).at_+1)=0)&& !Cs (eY m) (Bd m)&&L_ ((eY m).err=0)&&L_ ((eY m).steps=0)&&L_ ((eY m).time.1=0)&&
 (CX m.n).all λi=>L_ ((eY m).M.steps.getD i 0=0)&&(onF (l0 m) (eY m) (Wa i (sC m i))==L_ ((i:Int)<m.base))&& !((Wa i (sC m i)).wait.parked (eY m).M 0)&&L_ ((eY m).M.list (sC m i)=if i=0 then [0]else [])
def aqP:((CX 9).all λb:Nat=>(CX 9).all λs:Nat=>(CX 6).all λlg:Nat=>b==0||(L_ (8<b+s)||awt (MO b s lg)))=true:=by kernel_rfl
theorem UZ.B7(h:UZ P b s lg sc):awt (MO b s lg)=true:=by
 have d:=h.b1;have h2:=h.s0;have e:=h.b8;have f:=h.s8;have g:=h.l0;have i:=h.l5;obtain⟨a,rfl⟩:∃n:Nat,b=n:=⟨b.toNat,af⟩;obtain⟨s',rfl⟩:∃n:Nat,s=n:=⟨s.toNat,af⟩;obtain⟨c,rfl⟩:∃n:Nat,lg=n:=⟨lg.toNat,af⟩;have:=aqP;rw[tL]at this;have:=this a (C8.2 af);rw[tL]at this;have:=this s' (C8.2 af);grind
structure aUp where
 p:Int
 q:Int
 f:Int
 x:Int
 v:Int
 t:Int
 c:ByteArray
def aUp.val(r:aUp):List Value:=AO r.p r.q r.f r.x r.v r.t r.c
inductive Wi (l:List aUp) (o:Int):Int->Prop
 |here (h0:0<=o) (h1:o<l.length):Wi l o o
 |up {i:Int} {r:aUp} (h0:0<=i) (hr:l[i.toNat]?=G_ r) (hp:r.p<i) (w:Wi l o r.p):Wi l o i
def b01(t:ByteArray):Prop:=∀b∈t.data.toList,b=48\/b=49
def arf(r:aUp):Bool:=L_ (2<=r.x)
structure aIo (l:List aUp) (i:Int) (r:aUp):Prop where
 pl:if i=0 then r.p= -1 else 0<=r.p/\r.p<i/\Wi l r.p (i - 1)
 q:0<=r.q/\(i=0->r.q=0)
 f:0<=r.f/\r.f<32
 x:0<=r.x/\r.x<=4
 t:0<=r.t/\r.t<=1048576
 c:b01 r.c
 cs:r.c.size<4611686018427387904
 v:r.v≠0->r.x=2\/r.x=3
 n:r.x=0->r.t=0/\r.c.size=0
 st:i≠0->∀r',l[r.p.toNat]?=G_ r'->r'.x≠0/\(arf r'=J_->arf r=J_)
structure aFR (l:List aUp):Prop where
 one:0<l.length
 Zs:l.length<=1000000
 row:∀(i:Nat) r,l[i]?=G_ r->aIo l i r
variable{i o:Int}{l:List aUp}
def Wi.rng(h:Wi l o i):0<=i/\i<l.length:=by
 cases h with
 |here h0 h1=>exact⟨h0,h1⟩
 |up h0 hr _ _=>have:=(kB.1 hr).1;omega
variable{r:aUp}
def aFS(h:l[i.toNat]?=G_ r):(l.map aUp.val)[i.toNat]?=G_ r.val:=by rw[l8,h];rfl
def aFB:∀v∈r.val.toArray,v.oneCell'=true:=by
 intro v hv;simp[aUp.val,AO]at hv;rcases hv with rfl|rfl|rfl|rfl|rfl|rfl|rfl<;>rfl
variable{s:Sl}
section
variable{f:HP->List HP}
def aM1(h:St w0 w L)[a:At L (rws 7 s) (l.map aUp.val) f]:l.length=s.n:=by
 have:=(pg (sz:=7) (s:=s) (es:=l.map aUp.val) h).2 e7;rwa[U']at this
end
section
variable{f:HP->List HP}
def aLX(h:St w0 w L)[a:At L (rws 7 s) (l.map aUp.val) f](b:Wi l o i)(e:l.length<=1000000)(c:k J_ w):aq5 s i o w k:=by
 have m:=aM1 (s:=s) (l:=l) h;unfold aq5;have hi:=b.rng;refine DN (G:=Nat) (λj (x:Int×Int) w'=>x.2=(j:Int)/\Wi l o x.1/\x.1+j<l.length/\w'=w) (λj=>l.length - j) (g:=0) ⟨rfl,b,by simpa using hi.2,rfl⟩ ?_
 rintro j ⟨x,y⟩ _ ⟨hy,hw,hj,rfl⟩ C hC;dsimp only at hy hw hj ⊢;subst hy;have d:=hw.rng;refine bK (by simp;omega) (aU (by simp;omega) ?_)
 cases hw with
 |here h0 h1=>exact bK bf c
 |up h0 d hp hw=>
  refine ax (λ_=>c) λ_=>?_;refine rI (sz:=7) (s:=s) (es:=l.map aUp.val) (j:=0) h h0 (aFS d) rfl ?_;refine hC (j+1) _ _ ⟨?_,hw,by dsimp only;omega,rfl⟩ af
  dsimp only;rw[dh ⟨af,af⟩];omega
end
section
variable{f:HP->List HP}
def aIX{k:Array M_->ap}(h:St w0 w L)[a:At L (rws 7 s) (l.map aUp.val) f](b:0<=i)(d:l[i.toNat]?=G_ r)(e:∀w',St w0 w' L->k r.val.toArray w'):agx #[S_ s,I_ i] w k:=by
 unfold agx;refine aM h λg1 j h=>aM h λg3 m h=>?_;refine ea (g:=g1) (o:=0+0) h rfl ?_;refine cr (g:=g1) (o:=0+1) h rfl ?_;refine rA (sz:=7) (s:=s) (es:=l.map aUp.val) h b (aFS d) e7 ?_;refine m7 (g:=g3) h rfl rfl aFB λp h=>?_;refine je (g:=g3) h rfl ?_;exact e _ h.drop.drop
end
def aIZ(h:St w0 w L)(a:∀w',St w0 w' L->k (arf r) w'):ao7 r.val.toArray w k:=by
 unfold ao7;refine aM h λg b h=>?_;exact cr (g:=g) (o:=0+3) h rfl (a _ h.drop)
section
variable{f:HP->List HP}
def aM2(h:St w0 w L)[a:At L (rws 7 s) (l.map aUp.val) f](j:l.length<=1000000)(m:0<=i)(d:l[i.toNat]?=G_ r)(q:aIo l i r)(e:∀w',St w0 w' L->k J_ w'):aoy #[S_ s,I_ i] w k:=by
 have t:=(kB.1 d).1;have b:=q.pl;unfold aoy awY;refine aM h λg1 u h=>je (g:=g1) h rfl ?_;refine aIX (s:=s) (l:=l) h m d λv h=>?_;refine cr (g:=g1) (o:=0+1) h rfl ?_;refine ax (λhb=>?_) λhb=>?_
 .rw[HK (by simpa using hb)]at b
  show k (r.p== -1) _;rw[b];exact e _ h.drop
 .rw[HQ (by simpa using hb)]at b
  refine bK (show L_ (r.p>=0)=J_ by simp;omega) ?_
  refine cr (g:=g1) (o:=0+1) h rfl ?_;refine bK (show L_ (r.p<i)=J_ by simp;omega) ?_
  refine ea (g:=g1) (o:=0+0) h rfl ?_;refine cr (g:=g1) (o:=0+1) h rfl ?_;refine aLX (s:=s) (l:=l) h ?_ j (e _ h.drop);rw[dh ⟨af,af⟩];exact b.2.2
end
section
variable{f:HP->List HP}
def aOj(h:St w0 w L)[a:At L (rws 7 s) (l.map aUp.val) f](p:0<=i)(u:l[i.toNat]?=G_ r)(d:aIo l i r)(e:∀w',St w0 w' L->k J_ w'):aoK #[S_ s,I_ i] w k:=by
 have ⟨v,y⟩:=d.q;have ⟨f1,f2⟩:=d.f;have ⟨j,m⟩:=d.x;have ⟨t1,t2⟩:=d.t;unfold aoK aw8;refine aM h λg1 z h=>je (g:=g1) h rfl ?_;refine aIX (s:=s) (l:=l) h p u λA h=>?_;refine aM h λb B h=>?_;refine m7 (g:=b) h rfl rfl aFB λC h=>?_;refine cr (g:=b) (o:=0+1) h rfl (bK (show L_ (r.q>=0)=J_ by simpa using v) ?_)
 refine cr (g:=g1) (o:=0+1) h rfl ?_;refine ax (λhb=>?_) λhb=>?_;rotate_left
 .have hi:i=0:=by
    have:¬i>0:=by simpa using hb
    omega
  refine cr (g:=b) (o:=0+1) h rfl (bK (show(r.q==0)=J_ by simpa using y hi) ?_)
  refine cr (g:=b) (o:=0+2) h rfl (bK (show L_ (r.f>=0)=J_ by simpa using f1) ?_)
  refine cr (g:=b) (o:=0+2) h rfl (bK (show L_ (r.f<32)=J_ by simpa using f2) ?_)
  refine cr (g:=b) (o:=0+3) h rfl (bK (show L_ (r.x>=0)=J_ by simpa using j) ?_)
  refine cr (g:=b) (o:=0+3) h rfl (bK (show L_ (r.x<=4)=J_ by simpa using m) ?_)
  refine cr (g:=b) (o:=0+5) h rfl (bK (show L_ (r.t>=0)=J_ by simpa using t1) ?_)
  refine cr (g:=b) (o:=0+5) h rfl ?_;show k (L_ (r.t<=1048576)) _;rw[show L_ (r.t<=1048576)=J_ by simpa using t2];exact e _ h.drop.drop
 .refine cr (g:=b) (o:=0+2) h rfl (bK (show L_ (r.f>=0)=J_ by simpa using f1) ?_)
  refine cr (g:=b) (o:=0+2) h rfl (bK (show L_ (r.f<32)=J_ by simpa using f2) ?_)
  refine cr (g:=b) (o:=0+3) h rfl (bK (show L_ (r.x>=0)=J_ by simpa using j) ?_)
  refine cr (g:=b) (o:=0+3) h rfl (bK (show L_ (r.x<=4)=J_ by simpa using m) ?_)
  refine cr (g:=b) (o:=0+5) h rfl (bK (show L_ (r.t>=0)=J_ by simpa using t1) ?_)
  refine cr (g:=b) (o:=0+5) h rfl ?_;show k (L_ (r.t<=1048576)) _;rw[show L_ (r.t<=1048576)=J_ by simpa using t2];exact e _ h.drop.drop
end
def aFG(t:ByteArray):t.size=t.data.toList.length:=by rw[Array.length_toList];rfl
def aIs(t:ByteArray)(a b:Nat):(t.extract a b).data.toList=(t.data.toList.drop a).take (b - a):=by
 rw[ByteArray.data_extract,Array.toList_extract]
variable{b:UInt8}{t:ByteArray}
def aGa{n:Nat}{c:Int->Prop}(h:t.data.toList[n]?=G_ b)(d:c b.toNat):aAv t n c:=by
 refine⟨af,?_⟩;have:t[((n:Int)).toNat]?=G_ b:=by
  rw[iZ];have a:n<t.data.size:=by have:=(kB.1 h).1;simpa using this
  have e:t[n]?=G_ (t[n]'a):=getElem?_pos t n a;rw[e,<-h];have:t.data.toList[n]?=G_ (t.data[n]'a):=by rw[Array.getElem?_toList,Array.getElem?_eq_getElem a]
  rw[this];rfl
 rw[this];exact d
def aM3(h:t.size=0):Wm t (Oq #[])=true:=by
 obtain⟨a⟩:=t;obtain rfl:a=#[]:=Array.eq_empty_of_size_eq_zero h;simp[Wm]
def aU0:List Value:=((dU 256 (Value.bool K_)).set 48 (Iq J_)).set 49 (Iq J_)
def aFH:aU0.length=256:=by simp[aU0]
def aJU:∀v∈aU0.toArray,v.oneCell'=true:=by
 intro v hv;unfold aU0 at hv;have hv:v∈((dU 256 (Value.bool K_)).set 48 (Iq J_)).set 49 (Iq J_):=by simpa using hv
 rcases VL hv with hv|rfl
 .rcases VL hv with hv|rfl
  .rw[mm hv];rfl
  .rfl
 .rfl
section
variable{f:HP->List HP}
def aJV(h:St w0 w L)[a:At L (au g) aU0 f](hb:b=48\/b=49)(c:k J_ w):af8 (A_ g) b.toNat w k:=by
 unfold af8;refine bc ?_;rcases hb with rfl|rfl
 .exact⟨⟨e7,e7⟩,akI (g:=g) (o:=48) h rfl c⟩
 .exact⟨⟨e7,e7⟩,akI (g:=g) (o:=49) h rfl c⟩
end
variable{k:ByteArray->ap}
section
variable{f:HP->List HP}
def aM4(hs:t.size<4611686018427387904)(hb:b01 t)(h:St w0 w L)[a:At L (au g) aU0 f](m:∀t',t'.size=0->k t' w):aiW t (A_ g) w k:=by
 unfold aiW avD;refine ot (fun(x:ByteArray) w'=>b01 x/\x.size<=t.size/\w'=w) (λx _=>x.size) ⟨hb,iw _,rfl⟩ ?_;rintro x _ ⟨hx,hz,rfl⟩ C hC;refine ax (λhb=>?_) λhb=>m _ (by have:=of_decide_eq_false hb;omega)
 have i:0<x.size:=by have:=of_decide_eq_true hb;omega
 have n:aF B_ ((x.size:Int) - 1)=((x.size - 1:Nat):Int):=by rw[dh ⟨af,af⟩];omega
 rw[n];have o:x.size=x.data.toList.length:=aFG x;obtain⟨b,d⟩:∃b,x.data.toList[x.size - 1]?=G_ b:=⟨_,iH af⟩;refine aGa d ?_;refine aJV h (hx b (qn d)) (aU rfl ?_);refine⟨⟨af,af⟩,⟨af,af⟩,?_⟩;have j:(x.extract 0 (x.size - 1)).data.toList=x.data.toList.take (x.size - 1):=by rw[aIs];simp
 have e:(x.extract 0 (x.size - 1)).size=x.size - 1:=by rw[aFG,j,List.length_take,<-o];omega
 simp only[Int.toNat_zero,iZ];exact hC _ _ ⟨λc l=>hx c (List.mem_of_mem_take (by rw[j]at l;exact l)),by rw[e];omega,rfl⟩ (by rw[e];omega)
end
def aM5(hs:t.size=0)(a:k t w){p:Option Addr}:akP t p w k:=by
 unfold akP avR;refine⟨1,?_⟩;unfold jV;exact aU (by simp[hs]) a
def aJW{k:Array M_×Bool->ap}(h:St w0 w L)(a:∀w',St w0 w' L->k (aU0.toArray,J_) w'):akT (Oq #[48,49]) w k:=by
 unfold akT;refine aM h λg c h=>?_;have h:St w0 c (au g (dU 256 (Value.bool K_))::L):=h;refine⟨3,?_⟩;unfold jV;refine bK rfl (aGa (n:=0) (b:=48) rfl ?_);refine aU rfl ⟨⟨e7,e7⟩,?_⟩;refine j4 (g:=g) (o:=48) h rfl bf λe h=>?_;unfold jV;refine bK rfl (aGa (n:=1) (b:=49) rfl ?_);refine aU rfl ⟨⟨e7,e7⟩,?_⟩;refine j4 (g:=g) (o:=49) h rfl bf λd h=>?_;have h:St w0 d (au g aU0::L):=h;unfold jV;refine aU rfl ?_;refine je (g:=g) h aFH ?_;refine m7 (g:=g) h aFH (by simp[aFH]) aJU λf h=>?_
 refine je (g:=g) h (by simp[aFH]) ?_
 exact a _ h.drop
def aOk(h:St w0 w L)(hs:t.size<4611686018427387904)(hb:b01 t)(d:∀t' w',St w0 w' L->Wm t' (Oq #[])=J_->k t' w'):aqG t (Oq #[48,49]) w k:=by
 unfold aqG axM;rw[show Wm (Oq #[48,49]) (Oq #[])=K_ by kernel_rfl,Bool.or_false]
 refine ax (λhb=>d _ _ h hb) λ_=>?_;refine bP (λb w'=>b=K_/\w'=w) (λJ f=>aU rfl (f _ _ ⟨rfl,rfl⟩)) λb l a=>?_;rw[a.1,a.2];refine aU rfl ?_;refine aJW h λi h=>?_;refine aM h λg j h=>?_;refine m7 (n:=256) (g:=g) h aZ (by simp[aFH]) aJU λc h=>?_
 have h:St w0 c (au g aU0::L):=h;refine bK rfl ?_;exact aM4 hs hb h λt' e=>aM5 e (d _ _ h.drop (aM3 e))
variable{k:Bool->ap}
section
variable{f:HP->List HP}
def aOl(h:St w0 w L)[a:At L (rws 7 s) (l.map aUp.val) f](d:0<=i)(j:l[i.toNat]?=G_ r)(b:aIo l i r)(m:∀w',St w0 w' L->k J_ w'):aoL #[S_ s,I_ i] w k:=by
 unfold aoL axb;refine aM h λg1 o h=>je (g:=g1) h rfl ?_;refine aIX (s:=s) (l:=l) h d j λp h=>?_;unfold Qq;rw[show r.val.toArray[6]?=G_ (.string r.c)from rfl];show aqG r.c _ _ _;refine aOk h b.cs b.c λt' q h e=>?_;rw[e];exact m _ h.drop
end
section
variable{f:HP->List HP}
def aM6(h:St w0 w L)[a:At L (rws 7 s) (l.map aUp.val) f](C:0<=i)(y:l[i.toNat]?=G_ r)(q:aIo l i r)(u:∀w',St w0 w' L->k J_ w'):aoG #[S_ s,I_ i] w k:=by
 have D:=(kB.1 y).1;unfold aoG aw1;refine aM h λg1 K h=>je (g:=g1) h rfl ?_;refine aIX (s:=s) (l:=l) h C y λM h=>?_;refine aM h λd N h=>?_;refine m7 (g:=d) h rfl rfl aFB λz h=>?_;refine bP (λb w'=>b=K_/\w'=z) (λJ j=>?_) λb w' hb=>?_
 .refine cr (g:=d) (o:=0+4) h rfl ?_;refine ax (λhb=>?_) λhb=>j _ _ ⟨rfl,rfl⟩;have hv:=q.v (show r.v≠0 by simpa using (show(r.v !=0)=J_ from hb))
  refine cr (g:=d) (o:=0+3) h rfl ?_;refine ax (λhb=>?_) λhb=>j _ _ ⟨rfl,rfl⟩;have h2:r.x≠2:=by simpa using (show(r.x !=2)=J_ from hb)
  refine cr (g:=d) (o:=0+3) h rfl (j _ _ ⟨?_,rfl⟩);show(r.x !=3)=K_;simp;omega
 rw[hb.2,hb.1];refine aU rfl ?_;refine bP (λb w'=>b=K_/\w'=z) (λJ j=>?_) λb w' hb=>?_
 .refine cr (g:=d) (o:=0+3) h rfl ?_;refine ax (λhb=>?_) λhb=>j _ _ ⟨rfl,rfl⟩;have A:=q.n (by simpa using (show(r.x==0)=J_ from hb))
  refine cr (g:=d) (o:=0+5) h rfl (aU (show(r.t !=0)=K_ by simpa using A.1) ?_)
  refine aih (g:=d) (o:=0+6) h rfl (j _ _ ⟨?_,rfl⟩);show(!Wm r.c _)=K_;rw[aM3 A.2];rfl
 rw[hb.2,hb.1];refine aU rfl ?_;refine cr (g:=g1) (o:=0+1) h rfl ?_;refine ax (λhb=>u _ h.drop.drop) λhb=>?_;have hi:i≠0:=by simpa using (show(i==0)=K_ from hb)
 have B:=q.pl;rw[HQ hi]at B;obtain⟨r',m⟩:∃r',l[r.p.toNat]?=G_ r':=⟨_,iH af⟩;obtain⟨s1,s2⟩:=q.st hi r' m;refine ea (g:=g1) (o:=0+0) h rfl ?_;refine cr (g:=d) (o:=0+0) h rfl ?_;refine rA (sz:=7) (s:=s) (es:=l.map aUp.val) h B.1 (aFS m) e7 ?_;refine aM h λe F h=>?_;refine m7 (g:=e) h rfl rfl aFB λG h=>?_;refine cr (g:=e) (o:=0+3) h rfl (bK (show(r'.x !=0)=J_ by simpa using s1) ?_)
 refine je (g:=e) h rfl ?_;refine aIZ (r:=r') h λH h=>?_;refine ax (λhb=>u _ h.drop.drop.drop) λhb=>?_;refine je (g:=d) h rfl ?_;refine aIZ (r:=r) h λI h=>?_;rw[s2 (by simpa using hb)]
 exact u _ h.drop.drop.drop
end
def aE4(s:Sl)(i:Int):List Value:=[.func (F_ aru) #[.agg #[S_ s,I_ i]] #[],I_ 11,.func (F_ arA) #[.agg #[S_ s,I_ i]] #[],I_ 10,
 .func (F_ arB) #[.agg #[S_ s,I_ i]] #[],I_ 11,.func (F_ arz) #[.agg #[S_ s,I_ i]] #[],I_ 19]
variable{y0:Array M_}
section
variable{f:HP->List HP}
def aC6{id:FuncId}{tt:TypeId}(h:St w0 w L)[a:At L (au g) (aE4 s i) f](u:j<4)
  (hv:(aE4 s i)[j*2]?=G_ (.func (F_ id) #[.agg y0] #[])) (q:(aE4 s i)[j*2+1]?=G_ (I_ zd)) {k:Addr->ap}
  (t:∀m w',St w0 w' (au m [.func (F_ id) #[.agg y0] #[],I_ zd]::L)->k ⟨m,0,H_⟩ w'):
  cN (Sl.mk (A_ g) 4 4) (j:Int) 2 λp=>bx 2 w p λb=>aE w #[.nilFunc,(I_ (0:Int))] tt λc d=>dQ 2 d c b λl=>k c l:=by
 refine⟨⟨af,by simp only;omega⟩,?_⟩
 have e:(⟨g,0,H_⟩:Addr).add (((j:Int)).toNat*2)=⟨g,j*2,H_⟩:=by rw[dg,iZ];simp
 show bx 2 w ((⟨g,0,H_⟩:Addr).add (((j:Int)).toNat*2)) _;rw[e];refine qM (n:=2) (g:=g) (o:=j*2) h (by simp[aE4];omega) ?_
 have e2:(((aE4 s i).drop (j*2)).take 2)=[.func (F_ id) #[.agg y0] #[],I_ zd]:=by
  have r:j*2<(aE4 s i).length:=by simp[aE4];omega
  have h2:j*2+1<(aE4 s i).length:=by simp[aE4];omega
  rw[TT r,TT h2];rw[iH r]at hv;rw[iH h2]at q;rw[G_.inj hv,G_.inj q];rfl
 rw[e2];refine aM h λm d h=>?_;refine m7 (n:=2) (g:=m) h rfl rfl (by intro v hv;simp at hv;rcases hv with rfl|rfl<;>rfl) λl h=>?_
 exact t _ _ h
end
variable{c:M_->ap}
def aFI{bY:ey}{id:FuncId}{a:M_}{d:bt}(e:∀args w c,bY (.func id) args w c=d args.toList w c)(h:d [a] w c):nj bY (.func (F_ id) #[a] #[]) #[] w c:=
 bV e h
def aM7(h:aoy y0 w λr w=>c (Iq r) w):ax1 [.agg y0] w c:=h
def aOm(h:aoK y0 w λr w=>c (Iq r) w):aze [.agg y0] w c:=h
def aOn(h:aoL y0 w λr w=>c (Iq r) w):aAu [.agg y0] w c:=h
def aM8(h:aoG y0 w λr w=>c (Iq r) w):ax2 [.agg y0] w c:=h
def aJa{n:Bool}{c:Bool->Prop}(h:c n):Ir (Iq n) c:=h
variable{k:Int->ap}
section
variable{f:HP->List HP}
def aM9(h:St w0 w L)[a:At L (rws 7 s) (l.map aUp.val) f](u:l.length<=1000000)(m:0<=i)(p:l[i.toNat]?=G_ r)(q:aIo l i r)(x:∀w',St w0 w' L->k 0 w'):arG s i w k:=by
 unfold arG aAE;refine aM h λg1 y h=>m7 (n:=2) (g:=g1) h rfl rfl (by intro v hv;simp at hv;rcases hv with rfl|rfl<;>rfl) λz h=>?_
 refine je (g:=g1) h rfl ⟨rfl,je (g:=g1) h rfl ⟨rfl,je (g:=g1) h rfl ⟨rfl,je (g:=g1) h rfl ⟨rfl,?_⟩⟩⟩⟩;refine arq _ rfl bf rfl ?_;refine arq _ rfl bf rfl ?_;refine arq _ rfl bf rfl ?_;refine arq _ rfl bf rfl ?_;refine aM h λb t h=>?_;have h:St w0 t (au b (aE4 s i)::au g1 [S_ s,I_ i]::L):=h;refine⟨5,?_⟩;unfold jV;refine bK rfl (aC6 (j:=0) (g:=b) h af rfl rfl λe w' h=>?_);refine I2 (g:=e) (o:=0+0) h rfl ?_;refine aFI (d:=ax1) (λ_ _ _=>rfl) (aM7 (aM2 (s:=s) (l:=l) h u m p q λw' h=>?_));refine aJa (aU rfl ?_);have h:=h.drop;unfold jV;refine bK rfl (aC6 (j:=1) (g:=b) h af rfl rfl λe w' h=>?_);refine I2 (g:=e) (o:=0+0) h rfl ?_;refine aFI (d:=aze) (λ_ _ _=>rfl) (aOm (aOj (s:=s) (l:=l) h m p q λw' h=>?_));refine aJa (aU rfl ?_);have h:=h.drop;unfold jV;refine bK rfl (aC6 (j:=2) (g:=b) h af rfl rfl λe w' h=>?_);refine I2 (g:=e) (o:=0+0) h rfl ?_;refine aFI (d:=aAu) (λ_ _ _=>rfl) (aOn (aOl (s:=s) (l:=l) h m p q λw' h=>?_));refine aJa (aU rfl ?_);have h:=h.drop;unfold jV;refine bK rfl (aC6 (j:=3) (g:=b) h af rfl rfl λe w' h=>?_);refine I2 (g:=e) (o:=0+0) h rfl ?_;refine aFI (d:=ax2) (λ_ _ _=>rfl) (aM8 (aM6 (s:=s) (l:=l) h m p q λw' h=>?_));refine aJa (aU rfl ?_);have h:=h.drop;unfold jV;exact aU rfl (x _ h.drop.drop)
end
section
variable{f:HP->List HP}
def aJX(h:St w0 w L)[a:At L (rws 7 s) (l.map aUp.val) f](ho:aFR l)(d:∀w',St w0 w' L->k 0 w'):aq8 s w k:=by
 have m:=aM1 (s:=s) (l:=l) h;have n:=ho.one;have e:=ho.Zs;unfold aq8 aAF;refine aU (by simp;omega) ?_
 refine DN (G:=Nat) (λj i w'=>i=(j:Int)/\j<=l.length/\St w0 w' L) (λj=>l.length - j) (g:=0) ⟨rfl,af,h⟩ ?_;clear h;rintro j i w ⟨rfl,hj,h⟩ C hC;by_cases b:j<l.length
 .refine bK (by simp;omega) ?_
  have c:l[((j:Int)).toNat]?=G_ (l[j]'b):=iH b;refine aM9 (s:=s) (l:=l) h e af c (ho.row j _ c) λo h=>aU rfl ?_;refine hC (j+1) _ _ ⟨?_,af,h⟩ af;rw[dh ⟨af,af⟩];omega
 .exact aU (by simp;omega) (d _ h)
end
def atW(l:List aUp)(i:Int):Nat->List Int
 |0=>[]
 |n+1=>atW l i n++(match l[n]? with|some r=>if r.p=i then [(n:Int)]else [] |none=>[])
structure Bec (r r':aUp) (a b:Nat):Prop where
 q:r.q=r'.q/\r.f=r'.f/\a<=b
 d:2<=r.x->a=b/\r.x=r'.x/\r.v=r'.v/\r.t=r'.t/\r.c=r'.c
 n:r.x=1->r'.x≠0/\r.t<=r'.t/\∃z,r'.c.data.toList=r.c.data.toList++z
def GrT(l m:List aUp):Nat->Int->Int->Prop
 |0,_,_=>False
 |n+1,i,j=> ∃r r',(0<=i/\l[i.toNat]?=G_ r)/\(0<=j/\m[j.toNat]?=G_ r')/\Bec r r' (atW l i l.length).length (atW m j m.length).length/\
  ∀k,k<(atW l i l.length).length->GrT l m n ((atW l i l.length).getD k 0) ((atW m j m.length).getD k 0)
variable{n:Nat}
def aIu:(atW l i n).length<=n:=by
 induction n with
 |zero=>exact iw _
 |succ n ih=>
  unfold atW;rw[uv];split
  .split<;>simp<;>omega
  .simp;omega
section
variable{f:HP->List HP}
def aK6{k:Sl->ap}(h:St w0 w L)[a:At L (rws 7 s) (l.map aUp.val) f](I:l.length<=1000000)(u:∀c w',St w0 w' (bG 1 c (ints (atW l i l.length))::L)->c.n=(atW l i l.length).length->k c w'):aqI s i w k:=by
 have J:=aM1 (s:=s) (l:=l) h;unfold aqI;refine DN (G:=Nat) (λj (x:Sl×Int) w'=>x.2=(j:Int)/\j<=l.length/\St w0 w' (bG 1 x.1 (ints (atW l i j))::L)) (λj=>l.length - j) (g:=0) ⟨rfl,af,h.DJ 1⟩ ?_;clear h;rintro j ⟨c,y⟩ w' ⟨hy,hj,h⟩ C hC;dsimp only at hy h ⊢;subst hy;have v:=h.Gs (sz:=1) (s:=c);have z:=aIu (l:=l) (i:=i) (n:=j);have A:c.n=(atW l i j).length:=by simp[ints]at v;omega
 have t:aF B_ ((j:Int)+1)=((j+1:Nat):Int):=by rw[dh ⟨af,af⟩];simp
 by_cases b:j<l.length
 .refine bK (by simp;omega) ?_
  have q:l[((j:Int)).toNat]?=G_ (l[j]'b):=iH b;have d:l[j]?=G_ (l[j]'b):=q;generalize l[j]'b=r at q d;refine rA (sz:=7) (s:=s) (es:=l.map aUp.val) h af (aFS q) e7 ?_;refine aM h λg K h=>?_;refine m7 (g:=g) h rfl rfl aFB λM h=>?_;refine cr (g:=g) (o:=0+0) h rfl ?_;have h:=h.drop;have hs:atW l i (j+1)=atW l i j++(if r.p=i then [(j:Int)]else []):=by rw[atW,d]
  refine ax (λhb=>?_) λhb=>?_
  .refine aM h λm B h=>?_;refine M9 (s:=c) (vs:=ints (atW l i j)) (x:=⟨A_ m,1,1⟩) (ys:=[I_ j]) h (Ck.elI aZ) aZ (WJ (n:=1) (l:=[I_ j]) (h.au (g:=m)) rfl 1) (by simp[Value.oneCell']) (by simp only;omega) (by simp only;omega) λD F h H=>?_
   rw[t];refine hC (j+1) _ _ ⟨rfl,af,?_⟩ af;have h:=h.drop;rw[hs,HK (by simpa using (show(r.p==i)=J_ from hb))]
   have e:ints (atW l i j++[(j:Int)])=ints (atW l i j)++[I_ j]:=by simp[ints]
   rw[e];exact h
  .rw[t];refine hC (j+1) _ _ ⟨rfl,af,?_⟩ af;rw[hs,HQ (by simpa using (show(r.p==i)=K_ from hb)),n_];exact h
 .have:j=l.length:=af;subst this;exact aU (by simp;omega) (u c _ h A)
end
variable{k:Bool->ap}{t':ByteArray}
def aLY(b:∃z,t'.data.toList=t.data.toList++z)(c:k J_ w):aoY t' t w k:=by
 obtain⟨z,a⟩:=b;have d:=aFG t;have h2:=aFG t';rw[a,uv]at h2;unfold aoY awv ahd;refine bK (by simp;omega) ⟨⟨af,af⟩,⟨af,af⟩,?_⟩
 have e:t'.extract 0 t.size=t:=by
  apply ByteArray.ext;apply Array.ext';rw[aIs,a,d,Nat.sub_zero,List.drop_zero,List.take_left]
 simp only[Int.toNat_zero,iZ,e];rw[show Wm t t=J_ by simp[Wm]]
 exact c
variable{y1:aUp}
def aLZ{b:Nat}(h:St w0 w L)(i:Bec r y1 z3 b)(K:0<=r.x)(j:∀w',St w0 w' L->k J_ w'):aqr r.val.toArray y1.val.toArray (z3:Int) (b:Int) w k:=by
 have ⟨l,m,M⟩:=i.q;unfold aqr axV;refine aM h λg1 N h=>aM h λg3 O h=>?_;refine j4 (g:=g1) (o:=0+0) h rfl (by simp[aUp.val,AO]) λP h=>?_
 refine j4 (g:=g3) (o:=0+0) h rfl (by simp[aUp.val,AO]) λp h=>?_
 have h:St w0 p (au g3 (AO 0 y1.q y1.f y1.x y1.v y1.t y1.c)::au g1 (AO 0 r.q r.f r.x r.v r.t r.c)::L):=h;refine bP (λb w'=>b=K_/\w'=p) (λJ u=>?_) λb w' hb=>?_
 .refine cr (g:=g1) (o:=0+1) h rfl (cr (g:=g3) (o:=0+1) h rfl (aU (show(r.q !=y1.q)=K_ by simp[l]) ?_))
  refine cr (g:=g1) (o:=0+2) h rfl (cr (g:=g3) (o:=0+2) h rfl (u _ _ ⟨?_,rfl⟩));show(r.f !=y1.f||L_ ((b:Int)<z3))=K_;simp[m];omega
 rw[hb.2,hb.1];refine aU rfl ?_;refine je (g:=g1) h rfl ?_;refine aIZ (r:=⟨0,r.q,r.f,r.x,r.v,r.t,r.c⟩) h λy h=>?_;refine ax (λs=>?_) λs=>?_
 .obtain⟨z,A,B,C,D⟩:=i.d (by simpa[arf]using s)
  refine je (g:=g1) h rfl (je (g:=g3) h rfl ?_);have e:AO 0 y1.q y1.f y1.x y1.v y1.t y1.c=AO 0 r.q r.f r.x r.v r.t r.c:=by rw[l,m,A,B,C,D]
  rw[e];refine aof [] _ _ _ _ _ _ _ ?_;rw[z];simp only[beq_self_eq_true,Bool.and_self];exact j _ h.drop.drop
 .refine cr (g:=g1) (o:=0+3) h rfl ?_;refine ax (λF=>?_) λ_=>j _ h.drop.drop;obtain⟨G,H,I⟩:=i.n (by simpa using (show(r.x==1)=J_ from F))
  refine cr (g:=g3) (o:=0+3) h rfl (bK (show(y1.x !=0)=J_ by simpa using G) ?_)
  refine cr (g:=g3) (o:=0+5) h rfl (cr (g:=g1) (o:=0+5) h rfl (bK (show L_ (y1.t>=r.t)=J_ by simpa using H) ?_))
  refine aih (g:=g3) (o:=0+6) h rfl (aih (g:=g1) (o:=0+6) h rfl ?_);exact aLY I (j _ h.drop.drop)
variable{j:Int}{m:List aUp}
section
variable{f:HP->List HP}
def aNc(v:l.length<=1000000)(y:m.length<=1000000)(z:∀(i:Nat) (r:aUp),l[i]?=G_ r->0<=r.x):∀(n:Nat) {i j:Int} {w:World} {L:List HP} {f f2:HP->List HP} {k:Bool->ap} (_:St w0 w L) [_a:At L (rws 7 s) (l.map aUp.val) f] [_a2:At L (rws 7 s2) (m.map aUp.val) f2],GrT l m n i j->(∀w',St w0 w' L->k J_ w')->aAT n s s2 i j w k:=by
 intro n;induction n with
 |zero=>intro i j w L f f2 k h a A b t;exact b.elim
 |succ n ih=>
  intro i j w L f f2 k h a A b t;obtain⟨r,r',⟨i0,u⟩,⟨e,o⟩,hb,b⟩:=b;show axi aqI aqr (aAT n) s s2 i j w k;unfold axi;refine aK6 (s:=s) (l:=l) h v λc M h B=>?_;refine aK6 (s:=s2) (l:=m) h y λd N h D=>?_;refine cH h λO h=>?_;refine rA (sz:=7) (s:=s) (es:=l.map aUp.val) h i0 (aFS u) e7 ?_;refine rA (sz:=7) (s:=s2) (es:=m.map aUp.val) h e (aFS o) e7 ?_;rw[B,D];refine aLZ h hb (z _ _ u) λF h=>aU rfl ?_;have H:=aIu (l:=l) (i:=i) (n:=l.length);have hq:=hb.q.2.2;refine DN (G:=Nat) (λq x w'=>x=(q:Int)/\q<=(atW l i l.length).length/\St w0 w' (bG 1 d (ints (atW m j m.length))::bG 1 c (ints (atW l i l.length))::L)) (λq=>(atW l i l.length).length - q) (g:=0) ⟨rfl,af,h⟩ ?_;clear h;rintro q x w ⟨rfl,I,h⟩ C hC;by_cases p:q<(atW l i l.length).length
  .refine bK (by simp;omega) ?_
   refine cH h λJ h=>?_;refine zB (s:=c) (xs:=atW l i l.length) h af af ?_;refine zB (s:=d) (xs:=atW m j m.length) h af af ?_;refine ih h (by rw[iZ];exact b q p) λK h=>aU rfl ?_
   refine hC (q+1) _ _ ⟨?_,af,h⟩ af;rw[dh ⟨af,af⟩];omega
  .exact aU (by simp;omega) (t _ h.drop.drop)
end
section
variable{f:HP->List HP}
def aNe(h:St w0 w L)[a:At L (rws 7 s) (l.map aUp.val) f][a2:At L (rws 7 s2) (m.map aUp.val) f2](hl:aFR l)(hm:aFR m)(b:GrT l m n 0 0)(c:∀w',St w0 w' L->k J_ w'):arK s s2 w k:=by
 unfold arK aAG;refine aJX (s:=s) (l:=l) h hl λe h=>bK rfl ?_;refine aJX (s:=s2) (l:=m) h hm λg h=>bK rfl ⟨n,?_⟩;exact aNc (s:=s) (s2:=s2) hl.Zs hm.Zs (λi r d=>(hl.row i r d).x.1) n h b c
end
def Ro.st(d e:Prop):Ro->Prop
 | .fk _=>True
 | .fv _=>True
 | .ask _=>True
 | .liv _=>True
 | .top _=>d
 | .bot _=>d
 | .Uw _=>d
 | .rg _ _ _=>d
 | .OI=>e
 |_=>False
structure aUr (d e:Prop) (ro:List Ro) (wk:Int) (M M':bJ):Prop where
 same:∀a r,k9 ro a r->r.st d e->M'.get a=M.get a
 tick:M'.steps=M.steps\/M'.steps=(M.tick wk).steps
 used:M.cells.length<=M'.cells.length
def Wk.nsp(W:Wk):Prop:=W.cT≠ .m .xn/\W.cT≠ .m .block/\W.cT≠ .m .stops
def aUs(W:Wk):Prop:=W.cT≠ .m .start/\W.cT≠ .m .xo/\W.cT≠ .m .tF/\W.cT≠ .m .asks/\W.cT≠ .m .gone
structure aUS (W W':Wk):Prop where
 s:W'.stack=W.stack
 b:W'.back=W.back
 m:aUs W'
inductive aUT (P:List dB) (G:Gl) (t:Tk):Tk->Prop
 |plain (h:(dY t.f (bz P t.f)).2=J_):aUT P G t {t with f:=(dY t.f (bz P t.f)).1}
 |pass (h:Ip P t=14):aUT P G t {t with f:=nE t.f}
 |leave (h:Ip P t=15\/Ip P t=16):aUT P G t {t with f:=nE t.f,kind:=if Ip P t=15 then 3 else 2,v:=t.f.getD (2+((bz P t.f).getD 1 0).toNat) 0}
 |join {y:Nat} (h:Ip P t=9\/Ip P t=10) (hy:hand P t=(y:Nat)) (hl:y<G.ts.length) (hk:2<=G.K y) (hb:(di t.f (bz P t.f) (G.K y) (if G.K y=4 then 0 else G.V y)).2.2=K_):aUT P G t {t with f:=(di t.f (bz P t.f) (G.K y) (if G.K y=4 then 0 else G.V y)).1}
 |bad {y:Nat} (h:Ip P t=9\/Ip P t=10) (hy:hand P t=(y:Nat)) (hl:y<G.ts.length) (hk:2<=G.K y) (hb:(di t.f (bz P t.f) (G.K y) (if G.K y=4 then 0 else G.V y)).2.2=J_):aUT P G t {t with f:=(di t.f (bz P t.f) (G.K y) (if G.K y=4 then 0 else G.V y)).1,kind:=3,v:=(di t.f (bz P t.f) (G.K y) (if G.K y=4 then 0 else G.V y)).2.1}
abbrev Wk.tp(W:Wk):Nat:=W.stack.headD 0
def aDY(P:List dB)(G:Gl)(W:Wk):Tk:=⟨(G.T.length:Nat),(G.tk W.tp).kA.1,W.own,(G.M.cells.length:Nat),jo (G.tk W.tp).f ((bz P (G.tk W.tp).f).getD 4 0) (EN P ((bz P (G.tk W.tp).f).getD 4 0)),Oq #[],[],[W.own],0,0⟩
def aD2(P:List dB)(G:Gl)(W:Wk):Tk:={G.tk W.tp with f:=eI (G.tk W.tp).f (bz P (G.tk W.tp).f) (G.ts.length:Nat)}
def aFY(P:List dB)(G:Gl)(W:Wk):Gl:={G with M:=(G.M.tick W.id).grow 3,T:=Hz G.T (G.tk W.tp).id,ts:=(G.ts++[aDY P G W]).set W.tp (aD2 P G W),P:=G.P.set W.own.toNat ((G.T.length:Nat),0,0,K_),steps:=wr (G.steps+1)}
def Wk.emp(W:Wk):Prop:=(W.cT= .m .stops/\(W.pG= .c .Co\/W.pG= .c .qI))\/W.cT= .m .gL
def aok(P:List dB)(G:Gl)(W:Wk):Gl:={G with M:=(G.M.tick W.id).grow 2,C:=G.C++[⟨(G.tk W.tp).kA.1,wr ((G.nd (G.tk W.tp).kA.1).nest+1),(G.M.cells.length:Nat)⟩],P:=G.P++[((G.tk W.tp).id,(((G.tk W.tp).scopes.length:Nat):Int),G.pk (G.tk W.tp).kA.1,K_)],time:=if (bz P (G.tk W.tp).f).getD 4 0>0 then(G.time.1,(Ko.Dt G.time ((G.C.length:Nat):Int) ((bz P (G.tk W.tp).f).getD 4 0)).2)else G.time,ts:=G.ts.set W.tp {G.tk W.tp with scopes:=(G.tk W.tp).scopes++[((G.C.length:Nat):Int)],cJ:=(G.tk W.tp).cJ++[(((G.C.length:Nat):Int),W.mark)],f:=nE (G.tk W.tp).f},steps:=wr (G.steps+1)}
def aHe(P:List dB)(G:Gl)(W:Wk):Tk:={G.tk W.tp with cJ:=(G.tk W.tp).cJ.dropLast,gL:=(G.tk W.tp).gL++(if (G.M.get (G.nd (G.tk W.tp).kA.1).at_ !=0)then Oq #[49]else Oq #[48]),f:=iG (G.tk W.tp).f (bz P (G.tk W.tp).f) (G.M.get (G.nd (G.tk W.tp).kA.1).at_ !=0)}
def atV(P:List dB)(G:Gl)(W:Wk):Gl:={G with M:=G.M.tick W.id,time:=(G.time.1,Ko.EK G.time.2 (G.tk W.tp).kA.1),P:=Cq G.P (G.tk W.tp).kA.1,ts:=G.ts.set W.tp (aHe P G W),steps:=wr (G.steps+1)}
inductive Stp (l:Lc) (P:List dB) (ro:List Ro) (G:Gl) (W:Wk):Gl->Wk->Prop
 |quiet {M:bJ} {D:List Int} {W':Wk} (q:aUr (W.cT≠ .m .pF) W.nsp ro W.id G.M M) (k:aUS W W') (o:aUs W) (d:D=G.D\/D=G.D.tail):Stp l P ro G W {G with M:=M,D:=D} W'
 |fail {M:bJ} {e:Int} {W':Wk} (q:aUr (W.cT≠ .m .pF) W.nsp ro W.id G.M M) (he:e≠0) (k:W'.stack=W.stack/\W'.back=W.back/\W'.cT=W.cT/\W'.jq=W.jq/\W'.own=W.own) (o:W.cT≠ .m .gone/\W.cT≠ .m .tF):Stp l P ro G W {G with M:=M,err:=e} W'
 |jq (hd:W.cT= .m .tE) (h:W.jq.toNat<G.ts.length/\G.K W.jq.toNat=0):Stp l P ro G W (G.mem (G.M.cs W.id ((G.tk W.jq.toNat).jI+0) 0 1).1) {W with cT:= .m .start}
 |start {W':Wk} {m:Int} (hd:W.cT= .m .start) (k:W'.stack=W.jq.toNat::W.stack/\W'.back=W.home::W.back/\W'.cT= .m .looking):Stp l P ro G W ((G.tick W.id).set W.jq.toNat {G.tk W.jq.toNat with cJ:=[((G.tk W.jq.toNat).own,m)]}) W'
 |aeR {M:bJ} {t':Tk} {W':Wk} (ne:W.stack≠ []) (r:BT P G.ts.length (G.tk W.tp)) (lt:G.steps<l.fuel) (h:aUT P G (G.tk W.tp) t') (q:aUr (W.cT≠ .m .pF) W.nsp ro W.id G.M M) (k:aUS W W') (o:aUs W):Stp l P ro G W (({G with M:=M}.set W.tp t').lZ) W'
 |ends {M:bJ} {W':Wk} (ne:W.stack≠ []) (h:SE G (G.tk W.tp)) (q:aUr (W.cT≠ .m .pF) W.nsp ro W.id G.M M) (k:aUS W W') (o:aUs W) (nf:W.cT≠ .m .fin) (k0:(G.tk W.tp).kind=0):Stp l P ro G W ({G with M:=M}.set W.tp {G.tk W.tp with kind:=4,v:=0}) W'
 |fork (ne:W.stack≠ []) (hd:W.cT= .m .fork) (r:BT P G.ts.length (G.tk W.tp)) (h8:Ip P (G.tk W.tp)=8) (rm:G.M.room 2=J_):Stp l P ro G W {G with M:=(G.M.tick W.id).grow 2,C:=G.C++[⟨(G.tk W.tp).kA.1,wr ((G.nd (G.tk W.tp).kA.1).nest+1),(G.M.cells.length:Nat)⟩],P:=G.P++[(-2,0,0,K_)]} {W with own:=(G.C.length:Nat),cT:= .m .xo}
 |xo (ne:W.stack≠ []) (hd:W.cT= .m .xo) (r:BT P G.ts.length (G.tk W.tp)) (h8:Ip P (G.tk W.tp)=8) (lt:G.steps<l.fuel) (rm:G.M.room 3=J_):Stp l P ro G W (aFY P G W) {W with jq:=(G.ts.length:Nat),cT:= .m .tF}
 |tF (ne:W.stack≠ []) (hd:W.cT= .m .tF) (r:BT P G.ts.length (G.tk W.tp)):Stp l P ro G W (G.mem (G.M.ad W.id ((G.nd (G.tk W.tp).kA.1).at_+1) 1)) (W.A6 (bu.B7 W.dq l.log W.jq 0) (.c .um))
 |opens (ne:W.stack≠ []) (hd:W.cT= .m .opens) (r:BT P G.ts.length (G.tk W.tp)) (h11:Ip P (G.tk W.tp)=11) (lt:G.steps<l.fuel) (rm:G.M.room 2=J_) (n32:¬wr ((G.nd (G.tk W.tp).kA.1).nest+1)>32):Stp l P ro G W (aok P G W) (W.go .next)
 |gL (ne:W.stack≠ []) (hd:W.cT= .m .gL) (r:BT P G.ts.length (G.tk W.tp)) (h12:Ip P (G.tk W.tp)=12) (lt:G.steps<l.fuel):Stp l P ro G W (atV P G W) (W.go .next)
 |cancel (ne:W.stack≠ []) (hd:W.cT= .m .cancel) (r:BT P G.ts.length (G.tk W.tp)) (h13:Ip P (G.tk W.tp)=13) (lt:G.steps<l.fuel):Stp l P ro G W (((G.mem (G.M.cs W.id (G.nd (G.tk W.tp).kA.1).at_ 0 1).1).set W.tp {G.tk W.tp with f:=nE (G.tk W.tp).f}).lZ) (W.JF (.m .next))
 |unwind (ne:W.stack≠ []) (hd:W.cT= .m .stops) (e:Ends (G.tk W.tp)) (ho:(G.tk W.tp).cJ≠ []) {W':Wk} (k:aUS W W') (hu:W.pG= .c .qI) (hw:¬W'.emp):Stp l P ro G W (G.Zv W.tp (G.tk W.tp)) W'
 |put (ne:W.stack≠ []) (hd:W.cT= .m .put) (e:Ends (G.tk W.tp)) (ho:(G.tk W.tp).cJ=[]) (k4:(G.tk W.tp).kind≠4):Stp l P ro G W (G.mem ((G.M.tick W.id).put ((G.tk W.tp).jI+1) (G.tk W.tp).v)) (W.go .fin)
 |fin (ne:W.stack≠ []) (hd:W.cT= .m .fin) (e:Ends (G.tk W.tp)) (ho:(G.tk W.tp).cJ=[]):Stp l P ro G W (G.mem (G.M.cs W.id ((G.tk W.tp).jI+0) 1 (G.tk W.tp).kind).1) (W.go .asks)
 |asks (ne:W.stack≠ []) (hd:W.cT= .m .asks):Stp l P ro G W (G.tick W.id) {W with bits:=G.M.get ((G.tk W.tp).jI+2),cT:= .m .gone}
 |gone {W':Wk} (ne:W.stack≠ []) (hd:W.cT= .m .gone) (e:Ends (G.tk W.tp)) (ho:(G.tk W.tp).cJ=[]) (k:W'.stack=W.stack.tail/\W'.back=W.back.tail/\aUs W') (hw:¬W'.emp):Stp l P ro G W (G.mem (G.M.ad W.id ((G.nd (G.tk W.tp).l7).at_+1) (-1))) W'
theorem agB(a:W.tp<G.ts.length):(aFY P G W).ts.length=G.ts.length+1/\(∀y,y<G.ts.length->(aFY P G W).tk y=if y=W.tp then aD2 P G W else G.tk y)/\(aFY P G W).tk G.ts.length=aDY P G W:=by
 refine⟨by simp[aFY],λy b=>?_,?_⟩
 .unfold Gl.tk aFY;grind
 .unfold Gl.tk aFY;dsimp only;rw[r0 af,u0 (iw _)];simp
variable{M:bJ}{d e:Prop}
def aUr.aet:aUr d e ro wk M M:=⟨λ_ _ _ _=>rfl,D_ rfl,iw _⟩
def aUr.acN:aUr d e ro wk M (M.tick wk):=⟨λ_ _ _ _=>rfl,E_ rfl,iw _⟩
variable{a s v:Int}{l:Lc}{r:Ro}
def as7(h:Ty l ro G)(g:M.cells=G.M.cells)(f:k9 ro a r)(i:¬r.st d e):∀b s,k9 ro b s->s.st d e->(M.put a v).get b=G.M.get b:=λb s hb hs=>by
 have c:b≠a:=hb.ne f (by rintro rfl;exact i hs)
 rw[SC f.1 hb.1 c];unfold bJ.get;rw[g]
def aUr.ad(h:Ty l ro G)(b:k9 ro a r)(c:¬r.st d e):aUr d e ro wk G.M (G.M.ad wk a v):=⟨as7 (M:=G.M.tick wk) h rfl b c,E_ rfl,by rw[aDi];exact iw _⟩
def aUr.cs(h:Ty l ro G)(b:k9 ro a r)(c:¬r.st d e):aUr d e ro wk G.M (G.M.cs wk a o v).1:=by
 unfold bJ.cs;split
 .exact⟨as7 (M:=G.M.tick wk) h rfl b c,E_ rfl,bf⟩
 .exact .acN
variable{y2:Prop}
def aUr.op{rr:bu×bJ}(f:¬e)(b:OpR l ro iT G wk u i O rr):aUr e y2 ro wk G.M rr.2:=
 ⟨λa s hs c=>b.same a s hs (by cases s<;>first|exact(f c).elim|exact c.elim|exact λq=>q),b.tick,b.used⟩
def aUr.sp(a:¬e)(h:Ty l ro G)(o:jH):aUr d e ro wk G.M (o.go l.sp G.M wk).2:=by
 unfold jH.go;split
 .exact .aet
 iterate 2 exact .ad h h.Ye id
 iterate 3 exact .acN
 .exact .cs h h.OI a
variable{k:Kn}
theorem arO(h:EP P G aa k):k≠Kn.m .start/\k≠Kn.m .xo/\k≠Kn.m .tF/\k≠Kn.m .asks/\k≠Kn.m .gone:=by
 unfold EP at h;split at h
 .subst h;simp
 .unfold rq at h;grind
def aFZ{b:List Kn}(h:KU P G (x::aa) b):b.headD .no≠Kn.m .start/\b.headD .no≠Kn.m .xo/\b.headD .no≠Kn.m .tF/\b.headD .no≠Kn.m .asks/\b.headD .no≠Kn.m .gone:=by
 cases b with
 |nil=>exact h.elim
 |cons k b=>exact arO h.2.1
def rC.aUU(h:rC P G W):W.again≠Kn.m .start/\W.again≠Kn.m .xo/\W.again≠Kn.m .tF/\W.again≠Kn.m .asks/\W.again≠Kn.m .gone:=by
 obtain⟨y,e,_⟩|⟨k,e,_⟩:=h.cases<;>rw[e] <;>simp
def aaA{m:Mt}(a:W.cT= .m m)(h:(L_ (m= .start)||L_ (m= .xo)||L_ (m= .tF)||L_ (m= .asks)||L_ (m= .gone))=K_):aUs W:=by
 unfold aUs;rw[a];simpa[and_assoc]using h
variable{t:Tk}
def acf:aUS W (Go.Proofs.YthidhjhkmjjckaaGreatDoor.unwind W t):=by
 unfold Go.Proofs.YthidhjhkmjjckaaGreatDoor.unwind;split
 .exact⟨rfl,rfl,by simp[aUs,Wk.go]⟩
 .exact⟨rfl,rfl,by simp[aUs,shut,Wk.drain]⟩
theorem aoq{m:Mt}(h:W.cT= .m m)(a:m≠ .stops)(h2:m≠ .gL):¬W.emp:=by
 rintro(⟨q,_⟩|q)
 iterate 2 grind
def apd:¬(Go.Proofs.YthidhjhkmjjckaaGreatDoor.unwind W t).emp:=by
 unfold Go.Proofs.YthidhjhkmjjckaaGreatDoor.unwind;split
 iterate 2 exact aoq rfl e7 e7
theorem aEm(h:EP P G aa k)(a:W.cT=k):¬W.emp:=by
 have b:k≠ .m .stops/\k≠ .m .gL:=by
  unfold EP at h;split at h
  .subst h;simp
  .unfold rq at h;grind
 rintro(⟨q,_⟩|q)
 .exact b.1 (a.symm.trans q)
 .exact b.2 (a.symm.trans q)
def aku:aUS W (y5 l G W).2:=by
 unfold y5;dsimp only;split
 .exact⟨rfl,rfl,by simp[aUs,Wk.go]⟩
 split
 .exact⟨rfl,rfl,by simp[aUs]⟩
 .exact⟨rfl,rfl,by simp[aUs,Wk.go]⟩
def aeu(h:rC P G W):aUS W (nothing G W).2:=by
 have a:=h.aUU;unfold nothing;dsimp only;split
 .exact⟨rfl,rfl,a⟩
 split
 .exact⟨rfl,rfl,by simp[aUs,Wk.go]⟩
 split
 iterate 2 exact⟨rfl,rfl,by simp[aUs]⟩
def ah7(b:Dx l P G W):aUS W (KR l G W t bw).2/\(KR l G W t bw).1=G:=by
 unfold KR;split
 .unfold alM;rcases b.what with⟨_,_,_,a⟩|⟨c,_,_,a⟩
  .rw[HK a];exact⟨aku,rfl⟩
  .rw[HQ (by rw[a];simp)];exact⟨aeu c,rfl⟩
 .exact⟨⟨rfl,rfl,by simp[aUs,Wk.A6]⟩,rfl⟩
variable{W':Wk}
def aUS.of(h:aUS W1 W')(a:W1.stack=W.stack)(h2:W1.back=W.back):aUS W W':=⟨by rw[h.s,a],by rw[h.b,h2],h.m⟩
def Stp.q{r:SW}(o:aUs W)(a:r.1=G\/r.1=G.tick W.id)(k:aUS W r.2):Stp l P ro G W r.1 r.2:=by
 rcases a with e|e<;>rw[e]
 .exact .quiet (M:=G.M) (D:=G.D) .aet k o (D_ rfl)
 .exact .quiet (M:=G.M.tick W.id) (D:=G.D) .acN k o (D_ rfl)
variable{G1:Gl}
def Stp.f(o:W.cT≠ .m .gone/\W.cT≠ .m .tF)(c:G1=G\/G1=G.tick W.id)(a:i≠0)(k:W'.stack=W.stack/\W'.back=W.back/\W'.cT=W.cT/\W'.jq=W.jq/\W'.own=W.own):Stp l P ro G W (G1.fail i) W':=by
 rcases c with b|b<;>rw[b]
 .exact .fail .aet a k o
 .exact .fail .acN a k o
def aew:aUS W (dK G W t).2/\(dK G W t).1=G:=by
 unfold dK;split
 .exact⟨⟨rfl,rfl,by simp[aUs,vQ,Wk.search]⟩,rfl⟩
 .exact⟨⟨rfl,rfl,by simp[aUs,Wk.go]⟩,rfl⟩
def aep(o:aUs W)(a:W.cT≠ .m .fin)(f:G1=G\/G1=G.tick W.id)(ne:W.stack≠ [])(b:SE G (G.tk W.tp))(c:(G.tk W.tp).kind=0)(d:W1.stack=W.stack)(h2:W1.back=W.back):Stp l P ro G W (ends G1 W1 W.tp (G.tk W.tp) 4 0).1 (ends G1 W1 W.tp (G.tk W.tp) 4 0).2:=by
 unfold Go.Proofs.YthidhjhkmjjckaaGreatDoor.ends;rcases f with e|e<;>rw[e]
 .exact .ends (M:=G.M) ne b .aet (acf.of d h2) o a c
 .exact .ends (M:=G.M.tick W.id) ne b .acN (acf.of d h2) o a c
def akv(o:aUs W)(a:G1=G\/G1=G.tick W.id)(ne:W.stack≠ [])(r:BT P G.ts.length (G.tk W.tp))(b:W1.stack=W.stack)(h2:W1.back=W.back)(d:W1.cT=W.cT/\W1.jq=W.jq/\W1.own=W.own):Stp l P ro G W (afr l G1 W1 W.tp (G.tk W.tp) (bz P (G.tk W.tp).f)).1 (afr l G1 W1 W.tp (G.tk W.tp) (bz P (G.tk W.tp).f)).2:=by
 have g:G1.steps=G.steps:=by rcases a with e|e<;>rw[e] <;>rfl
 unfold afr;split
 .exact .f ⟨o.2.2.2.2,o.2.2.1⟩ a e7 ⟨b,h2,d⟩
 rename_i i;rw[g]at i;split
 .rename_i c;have k:aUS W (W1.go .next):=⟨b,h2,by simp[aUs,Wk.go]⟩
  rcases a with e|e<;>rw[e]
  .exact .aeR (M:=G.M) ne r af (.plain c) .aet k o
  .exact .aeR (M:=G.M.tick W.id) ne r af (.plain c) .acN k o
 .refine .q (r:=(G1,_)) o a ⟨b,h2,?_⟩;unfold aUs Wk.go adl;dsimp only;generalize ((bz P (G.tk W.tp).f).getD 0 0 - 8).toNat=z;match z with
  |0|1|2|3|4|5|6|7|8=>simp
  |z+9=>simp
abbrev aUW(l:Lc)(P:List dB)(ro:List Ro)(G:Gl)(W:Wk)(r:SW):Prop:=Stp l P ro G W r.1 r.2
variable{i:Nat}
def aF0(c:Cx l P bw ro G i W)(b:W.cT= .m .pF)(o:W.op=G_ O):aUW l P ro G W (pF l G W O (G.tk W.tp) bw G.vJ):=by
 have ct:=c.ct;unfold cD at ct;rw[b]at ct;dsimp only at ct;obtain⟨O',g,ct⟩:=ct;rw[o]at g;cases g;have key:∀(u:Nat) (d:Int),ZH ro u d->Cb l ro G.ts.length u d O->(∀r:bu×bJ,r.1.how≠0->aUS W (zj l (G.mem r.2) {W with op:=G_ r.1} (G.tk W.tp) bw G.vJ r.1.how).2/\(zj l (G.mem r.2) {W with op:=G_ r.1} (G.tk W.tp) bw G.vJ r.1.how).1=G.mem r.2)->aUW l P ro G W (pF l G W O (G.tk W.tp) bw G.vJ):=by
  intro u d x hO a;obtain⟨iT,j⟩:=aj2 c.lg c.ty x c.caller hO;unfold pF;dsimp only;generalize O.step G.M W.id=r at j ⊢;split
  .exact .quiet (M:=r.2) (D:=G.D) (.op (by rw[b];simp) j) ⟨rfl,rfl,aaA (m:= .pF) b rfl⟩ (aaA b rfl) (D_ rfl)
  split
  .rename_i e;exact .fail (M:=r.2) (.op (by rw[b];simp) j) (j.err e) ⟨rfl,rfl,rfl,rfl,rfl⟩ (by rw[b];simp)
  .rename_i y _;obtain⟨f,h2⟩:=a r y;show Stp l P ro G W _ _;rw[h2];exact .quiet (M:=r.2) (D:=G.D) (.op (by rw[b];simp) j) f (aaA b rfl) (D_ rfl)
 have A:∀r:bu×bJ,rC P G W->rC P (G.mem r.2) {W with op:=G_ r.1}:=λr q=>⟨q.ne,q.hm,q.tg⟩
 have k:∀r:bu×bJ,Dx l P G W->Dx l P (G.mem r.2) {W with op:=G_ r.1}:=λr q=>⟨q.how,q.left,q.what.imp id λz=>⟨A r z.1,z.2⟩⟩
 have p:=c.idn;rw[p]at ct;split at ct
 .rename_i a;refine key i W.dq c.own ct.2.2.1 λr n=>?_;have e:zj l (G.mem r.2) {W with op:=G_ r.1} (G.tk W.tp) bw G.vJ r.1.how=F9 (G.mem r.2) {W with op:=G_ r.1} r.1.how:=by unfold zj;dsimp only;rw[a]
  rw[e];unfold F9;refine⟨?_,rfl⟩;dsimp only;split
  .exact⟨rfl,rfl,by simp[aUs,Wk.HE]⟩
  .exact⟨rfl,rfl,by simp[aUs,Wk.search]⟩
 .rename_i a;refine key i W.dq c.own ct.2.2.2.1 λr n=>?_;have e:zj l (G.mem r.2) {W with op:=G_ r.1} (G.tk W.tp) bw G.vJ r.1.how=um (G.mem r.2) {W with op:=G_ r.1} r.1.how:=by unfold zj;dsimp only;rw[a]
  rw[e];unfold um;refine⟨?_,rfl⟩;dsimp only;split
  .exact⟨rfl,rfl,by simp[aUs,Wk.HE]⟩
  .exact⟨rfl,rfl,by simp[aUs,Wk.JF]⟩
 .rename_i a;refine key i W.dq c.own ct.2.2.2.1 λr n=>?_;have e:zj l (G.mem r.2) {W with op:=G_ r.1} (G.tk W.tp) bw G.vJ r.1.how=td (G.mem r.2) {W with op:=G_ r.1} (G.tk W.tp) r.1.how:=by unfold zj;dsimp only;rw[a]
  rw[e];unfold td;split
  .obtain⟨f,h2⟩:=aew (G:=G.mem r.2) (W:={W with op:=G_ r.1}) (t:=G.tk W.tp);exact⟨f.of rfl rfl,h2⟩
  .exact⟨⟨rfl,rfl,by simp[aUs,BQ,Wk.stop]⟩,rfl⟩
 .rename_i a;obtain⟨s,⟨u,b1,b2,v,B⟩,a3⟩:=ct;refine key u _ (c.dq u b1) v λr n=>?_;have e:zj l (G.mem r.2) {W with op:=G_ r.1} (G.tk W.tp) bw G.vJ r.1.how=Uv l (G.mem r.2) {W with op:=G_ r.1} (G.tk W.tp) bw G.vJ r.1.how:=by unfold zj;dsimp only;rw[a]
  rw[e];unfold Uv;split
  .obtain⟨f,h2⟩:=ah7 (l:=l) (t:=G.tk W.tp) (bw:=bw) (k r s);exact⟨f.of rfl rfl,h2⟩
  .exact⟨⟨rfl,rfl,aaA (m:= .pF) b rfl⟩,rfl⟩
 .rename_i a;obtain⟨s,⟨u,b1,b2,v,B⟩,a3⟩:=ct;refine key u _ (c.dq u b1) v λr n=>?_;have e:zj l (G.mem r.2) {W with op:=G_ r.1} (G.tk W.tp) bw G.vJ r.1.how=AL l (G.mem r.2) {W with op:=G_ r.1} (G.tk W.tp) bw r.1.how:=by unfold zj;dsimp only;rw[a]
  rw[e];unfold AL;split
  .unfold auJ;split
   .exact⟨⟨rfl,rfl,by simp[aUs,BQ,Wk.stop]⟩,rfl⟩
   .exact⟨⟨rfl,rfl,by simp[aUs,Wk.HE]⟩,rfl⟩
  .have h:=k r s;obtain⟨f,h2⟩:=ah7 (l:=l) (t:=G.tk W.tp) (bw:=bw) (W:={W with op:=G_ r.1,late:=J_}) (G:=G.mem r.2) ⟨h.how,h.left,h.what.imp id λz=>⟨⟨z.1.ne,z.1.hm,z.1.tg⟩,z.2⟩⟩
   exact⟨f.of rfl rfl,h2⟩
 .exact ct.elim
def ao8{k:Lk}(c:Cx l P bw ro G i W)(a:W.cT= .m .looking)(n:W.look=G_ k):aUW l P ro G W (looking l G W k (G.nd k.at_) W.tp (G.tk W.tp)):=by
 have ct:=c.ct;unfold cD at ct;rw[a]at ct;dsimp only at ct;obtain⟨k',d,o,g,a3,e,b⟩:=ct;rw[n]at d;cases d;obtain⟨f,_⟩:=c.ty.O7 g.1 g.2;have j:(k.go G.M (G.nd k.at_)).xm=J_->SE G (G.tk W.tp):=λq=>by
  unfold Lk.go at q;dsimp only at q;exact⟨k.at_,a3,_,f,by simpa using q⟩
 unfold looking;dsimp only;split
 .unfold Sy;dsimp only;split at b
  .rename_i hs;rw[hs];dsimp only;unfold adm;rw[b.2];split
   .rename_i hi;exact aep (aaA a rfl) (by rw[a];simp) (E_ rfl) e (j hi) b.1.kind rfl rfl
   .exact akv (aaA a rfl) (E_ rfl) e b.1 rfl rfl ⟨rfl,rfl,rfl⟩
  .rename_i hs;rw[hs];dsimp only;unfold th;refine .q (aaA a rfl) (E_ rfl) ?_;dsimp only;split
   .exact⟨rfl,rfl,by simp[aUs,Wk.stop]⟩
   .exact⟨rfl,rfl,by simp[aUs,Wk.go]⟩
  .rename_i hs;rw[hs];dsimp only;unfold xp;split
   .rename_i hi;exact aep (aaA a rfl) (by rw[a];simp) (E_ rfl) e (j hi) b.kind rfl rfl
   .exact .q (r:=(G.tick W.id,_)) (aaA a rfl) (E_ rfl) ⟨rfl,rfl,by simp[aUs,Wk.go]⟩
  .exact b.elim
 .exact .q (r:=(G.tick W.id,_)) (aaA a rfl) (E_ rfl) ⟨rfl,rfl,aaA (m:= .looking) a rfl⟩
def axc(o:aUs W)(c:rC P G W)(a:W1.stack=W.stack)(h2:W1.back=W.back)(b:W1.again=W.again)(d:W1.id=W.id):aUW l P ro G W (again l G W1 t):=by
 unfold again;obtain⟨y,e,_⟩|⟨k,e,_⟩:=c.cases
 .rw[b,e];dsimp only;unfold Gi;refine .q o (E_ (by rw[d])) ⟨a,h2,by simp[aUs,Wk.looks]⟩
 .rw[b,e];exact .q o (D_ rfl) ⟨a,h2,by simp[aUs,shut,Wk.drain]⟩
def arP(c:Cx l P bw ro G i W)(a:W.cT= .m .joined):aUW l P ro G W (joined l P G W W.tp (G.tk W.tp) (G.tk (W.target.getD 0))):=by
 have ct:=c.ct;unfold cD at ct;rw[a]at ct;dsimp only at ct;obtain⟨b,e,a3,d⟩:=ct;obtain⟨y,g,h2,o⟩|⟨k,g,_⟩:=b.cases;rotate_left
 .rw[g]at e;cases e
 obtain⟨b1,b2,j,n⟩:=o;have p:W.target.getD 0=y:=by rw[h2];rfl
 rw[p]at a3 ⊢;unfold joined;dsimp only;split
 .exact .f (by rw[a];simp) (D_ rfl) e7 ⟨rfl,rfl,rfl,rfl,rfl⟩
 rename_i s;have q:(if W.kind=4 then(0:Int)else G.M.get ((G.tk y).jI+1))=if G.K y=4 then 0 else G.V y:=by rw[a3];rfl
 rw[q,a3];have hq:aUr (W.cT≠ .m .pF) W.nsp ro W.id G.M (if G.K y=4 then G else G.tick W.id).M:=by split;exact .aet;exact .acN
 have r:(if G.K y=4 then G else G.tick W.id)={G with M:=(if G.K y=4 then G else G.tick W.id).M}:=by split<;>rfl
 rw[a3]at d;rw[r];cases hb:(di (G.tk W.tp).f (bz P (G.tk W.tp).f) (G.K y) (if G.K y=4 then 0 else G.V y)).2.2 with
 |true=>
  rw[HK rfl];exact .aeR b.ne b1 af (.bad b2 j n d hb) hq (acf.of rfl rfl) (aaA a rfl)
 |false=>
  rw[HQ e7];exact .aeR b.ne b1 af (.join b2 j n d hb) hq ⟨rfl,rfl,by simp[aUs,Wk.go]⟩ (aaA a rfl)
def axd(c:Cx l P bw ro G i W)(a:W.cT= .m .stops):aUW l P ro G W (stops l G W W.tp (G.tk W.tp) G.vJ G.V8):=by
 have ct:=c.ct;unfold cD at ct;rw[a]at ct;dsimp only at ct;obtain⟨b,x,a3⟩:=ct;have f:∀W':Wk,W'.cT=W.cT->aUs W':=λW' e=>aaA (m:= .stops) (e.trans a) rfl;unfold stops;split
 .refine .quiet (D:=G.D) (.sp (by unfold Wk.nsp;rw[a];simp) c.ty (W.step.getD (jH.B7 0 2))) ?_ (aaA a rfl) (D_ rfl)
  dsimp only;split
  iterate 2 exact⟨rfl,rfl,f _ rfl⟩
 rename_i hb;have hb:W.blocked=false:=by simpa using hb
 split
 .rename_i p;have d:=c.fl.SG p;obtain⟨y,n,h2,r⟩|⟨k,n,_⟩:=b.cases;rotate_left
  .rw[n]at d;cases d
  have s:W.target.getD 0=y:=by rw[h2];rfl
  have o:y<G.ts.length:=r.2.2.2;have t:=(c.ty.qh o).w;have g:G.V8 y=(G.tk y).jI:=by unfold Gl.V8 Gl.tk;rw[iH o];rfl
  rw[s,g];exact .quiet (D:=G.D) (.ad c.ty t id) ⟨rfl,rfl,f _ rfl⟩ (aaA a rfl) (D_ rfl)
 unfold pG;split at a3
 .rename_i e;rw[e];have u:(G.tk W.tp).kind=0:=by
   obtain⟨y,_,_,q⟩|⟨k,e2,_⟩:=b.cases
   .exact q.1.kind
   .rw[e2]at a3;cases a3.1
  exact aep (aaA a rfl) (by rw[a];simp) (D_ rfl) b.ne a3.2 u rfl rfl
 iterate 2 rename_i y k e;rw[e];exact .q (aaA a rfl) (D_ rfl) ⟨rfl,rfl,by simp[aUs,Wk.HE]⟩
 iterate 2 rename_i e;rw[e];exact .q (aaA a rfl) (D_ rfl) ⟨rfl,rfl,by simp[aUs,Wk.go]⟩
 .rename_i e;have v:=e;rw[e];have j:=b.hm;rw[a3]at j;dsimp only;unfold qI;exact .unwind b.ne a j.1 j.2 acf v apd
 .exact a3.elim
def aib(c:Cx l P bw ro G i W)(B:∀y,y<G.ts.length->G.K y=0->OJ P G.ts.length (G.tk y)):aUW l P ro G W (ZB l P G W bw):=by
 have ct:=c.ct;unfold ZB;dsimp only;cases a:W.cT with
 |m f=>
  unfold cD at ct;rw[a]at ct;cases f with
  |rest=>exact .q (aaA a rfl) (E_ rfl) ⟨rfl,rfl,by simp[aUs,rest,Wk.A6]⟩
  |pF=>
   dsimp only at ct ⊢;obtain⟨O,hO,_⟩:=ct;rw[hO];exact aF0 c a hO
  |looking=>
   dsimp only at ct ⊢;obtain⟨k,A,_⟩:=ct;rw[A];exact ao8 c a A
  |tell=>
   have h:=arO (G:=G) (P:=P) ct;exact .quiet (D:=G.D) (.ad c.ty c.ty.told id) ⟨rfl,rfl,h⟩ (aaA a rfl) (D_ rfl)
  |others=>
   dsimp only at ct ⊢;unfold others;have hs:aUS W (KR l {G.tick W.id with D:=G.D.tail} {W with left:=VU (G.D.headD 0) (xI W.id (l.sp.bits G.M) (G.M.get l.idle) l.wa.length)} (G.tk W.tp) bw).2/\(KR l {G.tick W.id with D:=G.D.tail} {W with left:=VU (G.D.headD 0) (xI W.id (l.sp.bits G.M) (G.M.get l.idle) l.wa.length)} (G.tk W.tp) bw).1={G.tick W.id with D:=G.D.tail}:=by
    unfold KR;split
    .unfold alM;rcases ct.what with⟨_,_,_,j⟩|⟨n,_,_,j⟩
     .rw[HK (show W.none_=_ from j)];exact⟨aku.of rfl rfl,rfl⟩
     .rw[HQ (by show¬W.none_=_;rw[show W.none_=_ from j];simp)]
      exact⟨(aeu (P:=P) (G:={G.tick W.id with D:=G.D.tail}) (W:={W with left:=VU (G.D.headD 0) (xI W.id (l.sp.bits G.M) (G.M.get l.idle) l.wa.length)}) ⟨n.ne,n.hm,n.tg⟩).of rfl rfl,rfl⟩
    .exact⟨⟨rfl,rfl,by simp[aUs,Wk.A6]⟩,rfl⟩
   show Stp l P ro G W _ _;rw[hs.2];exact .quiet (M:=G.M.tick W.id) (D:=G.D.tail) .acN hs.1 (aaA a rfl) (E_ rfl)
  |xn=>
   dsimp only at ct ⊢;obtain⟨_,_,o,p,_⟩:=ct;rw[p];dsimp only;unfold xn;refine .quiet (D:=G.D) (.sp (by unfold Wk.nsp;rw[a];simp) c.ty o) ?_ (aaA a rfl) (D_ rfl)
   dsimp only;split
   .refine⟨rfl,rfl,?_⟩;unfold aUs;dsimp only;split<;>simp
   .exact⟨rfl,rfl,aaA (m:= .xn) a rfl⟩
  |So=>exact .quiet (D:=G.D) (.ad c.ty c.ty.idle id) ⟨rfl,rfl,by simp[aUs,So]⟩ (aaA a rfl) (D_ rfl)
  |JA=>exact .quiet (D:=G.D) (.ad c.ty c.ty.idle id) ⟨rfl,rfl,by simp[aUs,JA]⟩ (aaA a rfl) (D_ rfl)
  |tE=>
   dsimp only at ct ⊢;have h:=arO (G:=G) (P:=P) ct.2;have hl:W.jq.toNat<G.ts.length:=af;unfold tE;rw[ay2];by_cases d:G.M.get ((G.tk W.jq.toNat).jI+0)=0
   .simp only[d,decide_true,if_true];exact .jq a ⟨hl,by unfold Gl.K;rw[jC]at d;exact d⟩
   .simp only[d,decide_false];have e:(G.M.cs W.id ((G.tk W.jq.toNat).jI+0) 0 1).1=G.M.tick W.id:=by unfold bJ.cs;rw[HQ d]
    rw[e];exact .q (r:=(G.tick W.id,_)) (aaA a rfl) (E_ rfl) ⟨rfl,rfl,h⟩
  |start=>
   dsimp only at ct ⊢;unfold OF;split
   .exact .f (by rw[a];simp) (D_ rfl) e7 ⟨rfl,rfl,rfl,rfl,rfl⟩
   .exact .start a ⟨rfl,rfl,rfl⟩
  |next=>
   dsimp only at ct ⊢;unfold V7;split
   .exact .q (aaA a rfl) (D_ rfl) ⟨rfl,rfl,by simp[aUs,Wk.looks]⟩
   .exact akv (aaA a rfl) (D_ rfl) ct.1 ct.2 rfl rfl ⟨rfl,rfl,rfl⟩
  |fork=>
   dsimp only at ct ⊢;unfold fork;split
   .exact .f (by rw[a];simp) (D_ rfl) e7 ⟨rfl,rfl,rfl,rfl,rfl⟩
   split
   .exact .f (by rw[a];simp) (D_ rfl) e7 ⟨rfl,rfl,rfl,rfl,rfl⟩
   rename_i s;exact .fork ct.1 a ct.2.1 ct.2.2 (by simpa using s)
  |xo=>
   dsimp only at ct ⊢;unfold KQ;dsimp only;split
   .exact .f (by rw[a];simp) (D_ rfl) e7 ⟨rfl,rfl,rfl,rfl,rfl⟩
   split
   .exact .f (by rw[a];simp) (D_ rfl) e7 ⟨rfl,rfl,rfl,rfl,rfl⟩
   rename_i u s;exact .xo ct.1 a ct.2.1 ct.2.2.1 af (by simpa using s)
  |tF=>exact .tF ct.1 a ct.2.1
  |join=>
   dsimp only at ct ⊢;unfold join;dsimp only;unfold Gi;exact .q (aaA a rfl) (E_ rfl) ⟨rfl,rfl,by simp[aUs,Wk.looks]⟩
  |cJ=>exact .q (aaA a rfl) (E_ rfl) ⟨rfl,rfl,by simp[aUs,cJ]⟩
  |opens=>
   dsimp only at ct ⊢;by_cases b:G.steps>=l.fuel
   .unfold Go.Proofs.YthidhjhkmjjckaaGreatDoor.opens;dsimp only;rw[HK b];exact .f (by rw[a];simp) (D_ rfl) e7 ⟨rfl,rfl,rfl,rfl,rfl⟩
   by_cases h2:wr ((G.nd (G.tk W.tp).kA.1).nest+1)>32
   .unfold Go.Proofs.YthidhjhkmjjckaaGreatDoor.opens;dsimp only;rw[HQ b,HK h2];exact .f (by rw[a];simp) (D_ rfl) e7 ⟨rfl,rfl,rfl,rfl,rfl⟩
   by_cases g:G.M.room 2=K_
   .unfold Go.Proofs.YthidhjhkmjjckaaGreatDoor.opens;dsimp only;rw[HQ b,HQ h2,HK g];exact .f (by rw[a];simp) (D_ rfl) e7 ⟨rfl,rfl,rfl,rfl,rfl⟩
   have e:Go.Proofs.YthidhjhkmjjckaaGreatDoor.opens l P G W W.tp (G.tk W.tp) (G.nd (G.tk W.tp).kA.1) (G.pk (G.tk W.tp).kA.1)=(aok P G W,W.go .next):=by unfold Go.Proofs.YthidhjhkmjjckaaGreatDoor.opens;dsimp only;rw[HQ b,HQ h2,HQ g];rfl
   show Stp l P ro G W _ _;rw[e];exact .opens ct.1 a ct.2.1 ct.2.2 af (by simpa using g) h2
  |close=>exact .q (aaA a rfl) (D_ rfl) ⟨rfl,rfl,by simp[aUs,close_,shut,Wk.drain]⟩
  |gL=>
   dsimp only at ct ⊢;by_cases b:G.steps>=l.fuel
   .unfold Go.Proofs.YthidhjhkmjjckaaGreatDoor.gL;dsimp only;rw[HK b];exact .f (by rw[a];simp) (D_ rfl) e7 ⟨rfl,rfl,rfl,rfl,rfl⟩
   have e:Go.Proofs.YthidhjhkmjjckaaGreatDoor.gL l P G W W.tp (G.tk W.tp) (G.nd (G.tk W.tp).kA.1)=(atV P G W,W.go .next):=by unfold Go.Proofs.YthidhjhkmjjckaaGreatDoor.gL;dsimp only;rw[HQ b];rfl
   show Stp l P ro G W _ _;rw[e];exact .gL ct.1 a ct.2.1 ct.2.2 af
  |cancel=>
   dsimp only at ct ⊢;unfold Go.Proofs.YthidhjhkmjjckaaGreatDoor.cancel;split
   .exact .f (by rw[a];simp) (D_ rfl) e7 ⟨rfl,rfl,rfl,rfl,rfl⟩
   rename_i u;exact .cancel ct.1 a ct.2.1 ct.2.2 af
  |pass=>
   dsimp only at ct ⊢;unfold pass;split
   .exact .f (by rw[a];simp) (D_ rfl) e7 ⟨rfl,rfl,rfl,rfl,rfl⟩
   rename_i u;exact .aeR (M:=G.M) ct.1 ct.2.1 af (.pass ct.2.2) .aet ⟨rfl,rfl,by simp[aUs,Wk.go]⟩ (aaA a rfl)
  |leave=>
   dsimp only at ct ⊢;unfold leave;dsimp only;split
   .exact .f (by rw[a];simp) (D_ rfl) e7 ⟨rfl,rfl,rfl,rfl,rfl⟩
   rename_i u;exact .aeR (M:=G.M) ct.1 ct.2.1 af (.leave ct.2.2) .aet acf (aaA a rfl)
  |put=>
   dsimp only at ct ⊢;by_cases x:(G.tk W.tp).kind=4
   .have e:(Go.Proofs.YthidhjhkmjjckaaGreatDoor.put G W (G.tk W.tp)).1=G:=by unfold Go.Proofs.YthidhjhkmjjckaaGreatDoor.put;dsimp only;rw[HK x]
    exact .q (aaA a rfl) (D_ e) ⟨rfl,rfl,by simp[aUs,Go.Proofs.YthidhjhkmjjckaaGreatDoor.put,Wk.go]⟩
   .have e:(Go.Proofs.YthidhjhkmjjckaaGreatDoor.put G W (G.tk W.tp)).1=G.mem ((G.M.tick W.id).put ((G.tk W.tp).jI+1) (G.tk W.tp).v):=by unfold Go.Proofs.YthidhjhkmjjckaaGreatDoor.put;dsimp only;rw[HQ x]
    show Stp l P ro G W _ _;rw[e];exact .put ct.1 a ct.2.1 ct.2.2 x
  |fin=>exact .fin ct.1 a ct.2.1 ct.2.2
  |asks=>exact .asks ct.1 a
  |gone=>
   dsimp only at ct ⊢;unfold Go.Proofs.YthidhjhkmjjckaaGreatDoor.gone;obtain⟨z,st,hs⟩:=kp ct.1;have hb:=c.wt.bk;rw[hs]at hb;have h:=aFZ hb;refine .gone ct.1 a ct.2.1 ct.2.2 ?_ ?_
   .dsimp only;split
    .exact⟨rfl,rfl,by simp[aUs,Wk.JF]⟩
    .exact⟨rfl,rfl,h⟩
   .dsimp only;split
    .exact aoq (m:= .tell) rfl e7 e7
    .cases hbk:W.back with
     |nil=>rw[hbk]at hb;exact hb.elim
     |cons kb bs=>
      rw[hbk]at hb;exact aEm (G:=G) (P:=P) hb.2.1 rfl
  |asked=>
   dsimp only at ct ⊢;unfold asked;refine .q (aaA a rfl) (E_ rfl) ?_;dsimp only;split
   .exact⟨rfl,rfl,by simp[aUs,Wk.stop]⟩
   split
   .exact⟨rfl,rfl,by simp[aUs,Wk.drain]⟩
   .exact⟨rfl,rfl,by simp[aUs,Wk.stop]⟩
  |joined=>exact arP c a
  |ul=>
   dsimp only at ct ⊢;unfold ul;dsimp only;split
   .obtain⟨b,h2⟩:=aew (G:=G.tick W.id) (W:=W) (t:=G.tk W.tp);exact .q (aaA a rfl) (E_ h2) b
   .exact .q (aaA a rfl) (E_ rfl) ⟨rfl,rfl,by simp[aUs,Wk.A6]⟩
  |rp=>exact .q (aaA a rfl) (E_ rfl) ⟨rfl,rfl,by simp[aUs,rp]⟩
  |sx=>
   dsimp only at ct ⊢;unfold sx;split
   .exact .q (aaA a rfl) (E_ rfl) ⟨rfl,rfl,by simp[aUs,Wk.stop]⟩
   .exact .q (aaA a rfl) (E_ rfl) ⟨rfl,rfl,by simp[aUs,vQ,Wk.search]⟩
  |register=>
   dsimp only at ct ⊢;unfold register;obtain⟨y,b,h2,g⟩|⟨k,b,_⟩:=ct.1.cases;rotate_left
   .have:=ct.2;rw[b]at this;cases this
   have C:W.target.getD 0=y:=by rw[h2];rfl
   rw[C];have h:=ct.1.aUU;exact .quiet (D:=G.D) (.ad c.ty (c.ty.qh g.2.2.2).w id) ⟨rfl,rfl,h⟩ (aaA a rfl) (D_ rfl)
  |block=>
   dsimp only at ct ⊢;obtain⟨F,o,p,_⟩:=ct;have h:=F.aUU;rw[p];dsimp only;unfold block;refine .quiet (D:=G.D) (.sp (by unfold Wk.nsp;rw[a];simp) c.ty o) ?_ (aaA a rfl) (D_ rfl)
   dsimp only;split
   .exact⟨rfl,rfl,h⟩
   .exact⟨rfl,rfl,aaA (m:= .block) a rfl⟩
  |Io=>exact axc (aaA a rfl) ct rfl rfl rfl rfl
  |stops=>exact axd c a
  |cancelled=>exact ct.elim
  |vQ=>exact ct.elim
  |BQ=>exact ct.elim
  |y5=>exact ct.elim
  |nothing=>exact ct.elim
  |Uv=>exact ct.elim
  |AL=>exact ct.elim
 |aw y=>exact .q (by unfold aUs;rw[a];simp) (E_ rfl) ⟨rfl,rfl,by simp[aUs,Gi,Wk.looks]⟩
 |sh k=>exact .q (by unfold aUs;rw[a];simp) (D_ rfl) ⟨rfl,rfl,by simp[aUs,shut,Wk.drain]⟩
 |no=>exact .q (by unfold aUs;rw[a];simp) (D_ rfl) ⟨rfl,rfl,by unfold aUs;rw[a];simp⟩
 |any=>exact .q (by unfold aUs;rw[a];simp) (D_ rfl) ⟨rfl,rfl,by unfold aUs;rw[a];simp⟩
 |c f=>exact .q (by unfold aUs;rw[a];simp) (D_ rfl) ⟨rfl,rfl,by unfold aUs;rw[a];simp⟩
 |nx i=>exact .q (by unfold aUs;rw[a];simp) (D_ rfl) ⟨rfl,rfl,by unfold aUs;rw[a];simp⟩
 |V2 y k=>exact .q (by unfold aUs;rw[a];simp) (D_ rfl) ⟨rfl,rfl,by unfold aUs;rw[a];simp⟩
 |BR y k=>exact .q (by unfold aUs;rw[a];simp) (D_ rfl) ⟨rfl,rfl,by unfold aUs;rw[a];simp⟩
 |hl m z=>exact .q (by unfold aUs;rw[a];simp) (D_ rfl) ⟨rfl,rfl,by unfold aUs;rw[a];simp⟩
structure KtT (T:List Kt):Prop where
 one:1<=T.length
 root:∀y,T[0]?=G_ y->y.parent= -1
 kid:∀(i:Nat) x,T[i]?=G_ x->∀k∈x.kids,(i:Int)<k/\k<T.length/\∃y,T[k.toNat]?=G_ y/\y.parent=i
 rz:∀(j:Nat) y,T[j]?=G_ y->1<=j->0<=y.parent/\y.parent<j/\∃x,T[y.parent.toNat]?=G_ x/\(j:Int)∈x.kids
 nd:∀(i:Nat) x,T[i]?=G_ x->x.kids.Nodup
structure aUX (T:List Kt) (v st:List Int):Prop where
 nd:(v++st).Nodup
 rg:∀x∈v++st,0<=x/\x<T.length
 pr:∀x∈v++st,x≠0->∃y,T[x.toNat]?=G_ y/\y.parent∈v
 kd:∀x∈v,∀t,T[x.toNat]?=G_ t->∀k∈t.kids,k∈v++st
 zero:(0:Int)∈v++st
variable{l:List Int}
theorem acW(h:l.Nodup)(c:∀x∈l,0<=x/\x<n):l.length<=n:=by
 have h2:(l.map Int.toNat).Nodup:=by
  unfold List.Nodup at h ⊢;rw[List.pairwise_map];refine List.Pairwise.imp_of_mem (fun{a b} ha hb hab=>?_) h;grind
 have:=ML h2 λx d=>by
  obtain⟨y,e,rfl⟩:=C6.1 d;have:=c y e;show y.toNat<n;omega
 simpa using this
variable{T:List Kt}
def aDO(r:KtT T):∀(n:Nat) (v st:List Int),T.length - v.length<=n->aUX T v st->∃l,Dfs T st l/\aUX T (v++l.map (λp=>p.1)) []/\∀p∈l,∃t,T[p.1.toNat]?=G_ t/\p.2=t.parent:=by
 intro n;induction n with
 |zero=>
  intro v st F h;have s:=acW h.nd h.rg;rw[uv]at s;cases st with
  |nil=>exact⟨[],.nil,by simpa using h,λp hp=>by cases hp⟩
  |cons x st=>simp at s;omega
 |succ n ih=>
  intro v st F h;cases st with
  |nil=>exact⟨[],.nil,by simpa using h,λp hp=>by cases hp⟩
  |cons x st=>
   have D:=h.rg x bf;have s:=acW h.nd h.rg;simp only[uv,List.length_cons]at s;obtain⟨t,g⟩:∃t,T[x.toNat]?=G_ t:=⟨_,iH af⟩;have d:=od.1 h.nd;have j:=VN.1 d.2.1;have m:x ∉ v:=λq=>d.2.2 x q x bf rfl;have c:∀k∈t.kids,k ∉ v++x::st:=by
    intro k u hq;obtain⟨h1,h2,y,f,A⟩:=r.kid _ _ g k u;obtain⟨H,o,hp⟩:=h.pr k hq af;rw[f]at o;obtain rfl:=G_.inj o;rw[A]at hp;have:((x.toNat:Nat):Int)=x:=af;rw[this]at hp;exact m hp
   have B:aUX T (v++[x]) (t.kids++st):=by
    refine⟨?_,λz hz=>?_,λz hz C=>?_,λz hz t' i k u=>?_,?_⟩
    .rw[od];refine⟨?_,?_,?_⟩
     .rw[od];exact⟨d.1,bf,λa ha b hb=>by simp at hb;subst hb;intro e;subst e;exact m ha⟩
     .rw[od];refine⟨r.nd _ _ g,j.2,λa ha b hb e=>?_⟩;subst e;exact c a ha (by simp[hb])
     .intro a ha b hb e;subst e;rcases zw.1 ha with ha|ha
      .rcases zw.1 hb with hb|hb
       .exact c a hb (by simp[ha])
       .exact d.2.2 a ha a (by simp[hb]) rfl
      .simp at ha;subst ha;rcases zw.1 hb with hb|hb
       .exact c a hb bf
       .exact j.1 hb
    .simp only[zw,hM]at hz;rcases hz with(hz|rfl)|hz|hz
     .exact h.rg z (by simp[hz])
     .exact D
     .have:=r.kid _ _ g z hz;omega
     .exact h.rg z (by simp[hz])
    .simp only[zw,hM]at hz;rcases hz with(hz|rfl)|hz|hz
     .obtain⟨y,f,hp⟩:=h.pr z (by simp[hz]) C
      exact⟨y,f,by simp[hp]⟩
     .obtain⟨y,f,hp⟩:=h.pr z bf C;exact⟨y,f,by simp[hp]⟩
     .obtain⟨_,_,y,f,hp⟩:=r.kid _ _ g z hz;refine⟨y,f,?_⟩;rw[hp];have:((x.toNat:Nat):Int)=x:=af;simp[this]
     .obtain⟨y,f,hp⟩:=h.pr z (by simp[hz]) C
      exact⟨y,f,by simp[hp]⟩
    .simp only[zw,hM]at hz ⊢;rcases hz with hz|rfl
     .have:=h.kd z hz t' i k u;simp only[zw,BP]at this;rcases this with h1|h1|h1
      .exact D_ (D_ h1)
      .exact D_ (E_ h1)
      .exact E_ (E_ h1)
     .rw[g]at i;obtain rfl:=G_.inj i;exact E_ (D_ u)
    .have:=h.zero;simp only[zw,BP]at this ⊢;rcases this with h1|h1|h1
     .exact D_ (D_ h1)
     .exact D_ (E_ (D_ h1))
     .exact E_ (E_ h1)
   obtain⟨l,h1,h2,G⟩:=ih (v++[x]) (t.kids++st) (by simp only[uv,List.length_singleton];omega) B
   refine⟨(x,t.parent)::l,.cons (by unfold GV;rw[HK D.1];exact g) h1,?_,λp hp=>?_⟩
   .simpa using h2
   .rcases BP.1 hp with rfl|hp
    .exact⟨t,g,rfl⟩
    .exact G p hp
def aDP(a:KtT T){v:List Int}(h:aUX T v []):∀j:Nat,j<T.length->(j:Int)∈v:=by
 intro j;induction j using Nat.strongRecOn with
 |_ j ih=>
  intro b;by_cases c:j=0
  .subst c;simpa using h.zero
  .obtain⟨y,d⟩:∃y,T[j]?=G_ y:=⟨_,iH b⟩;obtain⟨i,h2,x,f,g⟩:=a.rz j y d af;have hv:=ih y.parent.toNat af af;have e:((y.parent.toNat:Nat):Int)=y.parent:=af;rw[e]at hv;simpa using h.kd y.parent hv x f j g
def aDQ(b:KtT T):∃o,Dfs T [0] o/\(o.map λp=>p.1).Nodup/\(∀p∈o,(0<=p.1/\p.1<T.length)/\∃t,T[p.1.toNat]?=G_ t/\p.2=t.parent)/\∀j:Nat,j<T.length->(j:Int)∈o.map λp=>p.1:=by
 have c:aUX T [] [0]:=by
  have:=b.one;exact⟨bf,λx a=>by simp at a;subst a;omega,λx a c=>by simp at a;exact(c a).elim,λx a=>(by cases a),bf⟩
 obtain⟨o,e,h2,f⟩:=aDO b _ [] [0] (iw _) c;rw[VM]at h2;refine⟨o,e,by simpa using h2.nd,λp d=>⟨?_,f p d⟩,aDP b h2⟩
 exact h2.rg p.1 (by simp;exact⟨p.2,d⟩)
theorem KtT.add{p:Int}(g:KtT T)(A:0<=p)(D:p<T.length):KtT (Hz T p):=by
 obtain⟨t,B⟩:∃t,T[p.toNat]?=G_ t:=⟨_,iH af⟩;have e:Hz T p=T.set p.toNat {t with kids:=t.kids++[(T.length:Int)]}++[⟨p,t.kids.length,[]⟩]:=by
  unfold Hz GV;rw[HK A,B]
 rw[e];have f:(T.set p.toNat {t with kids:=t.kids++[(T.length:Int)]}++[(⟨p,t.kids.length,[]⟩:Kt)]).length=T.length+1:=by simp
 have r:∀(i:Nat) x,(T.set p.toNat {t with kids:=t.kids++[(T.length:Int)]}++[(⟨p,t.kids.length,[]⟩:Kt)])[i]?=G_ x->
   (i<T.length/\∃y,T[i]?=G_ y/\x.parent=y.parent/\x.kids=if i=p.toNat then y.kids++[(T.length:Int)]else y.kids)\/(i=T.length/\x=⟨p,t.kids.length,[]⟩):=by
  grind
 have c:∀(i:Nat) y,T[i]?=G_ y->∃x,(T.set p.toNat {t with kids:=t.kids++[(T.length:Int)]}++[(⟨p,t.kids.length,[]⟩:Kt)])[i]?=G_ x/\x.parent=y.parent/\x.kids=if i=p.toNat then y.kids++[(T.length:Int)]else y.kids:=by grind
 have m:(T.set p.toNat {t with kids:=t.kids++[(T.length:Int)]}++[(⟨p,t.kids.length,[]⟩:Kt)])[T.length]?=G_ ⟨p,t.kids.length,[]⟩:=by
  rw[u0 bf];simp
 refine⟨by rw[f];omega,λy n=>?_,λi x o k hk=>?_,λj y n F=>?_,λi x o=>?_⟩
 .rcases r 0 y n with⟨_,z,d,h2,_⟩|⟨h2,_⟩
  .rw[h2];exact g.root z d
  .have:=g.one;omega
 .rw[f];rcases r i x o with⟨hi,z,d,h2,s⟩|⟨h2,rfl⟩
  .rw[s]at hk;have hold:∀k∈z.kids,(i:Int)<k/\k<((T.length+1:Nat):Int)/\∃y,(T.set p.toNat {t with kids:=t.kids++[(T.length:Int)]}++[(⟨p,t.kids.length,[]⟩:Kt)])[k.toNat]?=G_ y/\y.parent=i:=by
    intro k hk;obtain⟨a,b,y,n,G⟩:=g.kid i z d k hk;obtain⟨H,u,q,_⟩:=c _ y n;exact⟨a,af,H,u,by rw[q];exact G⟩
   split at hk
   .rename_i I;rcases zw.1 hk with hk|hk
    .exact hold k hk
    .simp at hk;subst hk;refine⟨af,af,_,by rw[iZ];exact m,?_⟩
     show p=_;omega
   .exact hold k hk
  .cases hk
 .rcases r j y n with⟨hi,z,d,h2,_⟩|⟨h2,rfl⟩
  .obtain⟨a,b,x,o,C⟩:=g.rz j z d F;rw[h2];obtain⟨v,l,_,q⟩:=c _ x o;refine⟨a,b,v,l,?_⟩;rw[q];split
   .exact hG _ C
   .exact C
  .subst h2;obtain⟨v,l,_,q⟩:=c _ t B;refine⟨A,D,v,l,?_⟩;rw[q,HK rfl];simp
 .rcases r i x o with⟨hi,z,d,_,s⟩|⟨_,rfl⟩
  .rw[s];split
   .rw[od];refine⟨g.nd i z d,bf,λa J b hb e=>?_⟩;simp at hb;have:=g.kid i z d a J;omega
   .exact g.nd i z d
  .simp
structure SKs (T:List Kt) (S:List (List Int)) (Q:List (Int×Int×Int)):Prop where
 t:KtT T
 n:T.length=S.length
 own:∀(x:Nat) l,S[x]?=G_ l->∀(k:Nat) s,l[k]?=G_ s->0<=s/\∃p,Q[s.toNat]?=G_ p/\p.1=x/\p.2.1=k
 q0:∃a,Q[0]?=G_ (-1,a)
 aUY:∀(s:Nat) p,Q[s]?=G_ p->(-2<=p.1/\p.1<S.length)/\(0<=p.1->∃l,S[p.1.toNat]?=G_ l/\0<=p.2.1/\l[p.2.1.toNat]?=G_ (s:Int))
variable{Q:List (Int×Int×Int)}{S:List (List Int)}
def SKs.fork(h:SKs T S Q)(a:Int×Int):SKs T S (Q++[(-2,a)]):=by
 have hq:∀{s:Nat} {p},Q[s]?=G_ p->(Q++[(-2,a)])[s]?=G_ p:=fun{s p} hs=>by
  rw[tJ (kB.1 hs).1];exact hs
 refine⟨h.t,h.n,λx l d k s e=>?_,?_,λs p hs=>?_⟩
 .obtain⟨b,p,f,h2⟩:=h.own x l d k s e;exact⟨b,p,hq f,h2⟩
 .obtain⟨a',b⟩:=h.q0;exact⟨a',hq b⟩
 .by_cases c:s<Q.length
  .rw[tJ c]at hs;exact h.aUY s p hs
  .rw[u0 af]at hs;have:s - Q.length=0:=by
    have:=(kB.1 hs).1;simp at this;omega
   rw[this]at hs;simp at hs;subst hs;exact⟨⟨bf,by show(-2:Int)< _;omega⟩,λq=>by simp at q⟩
variable{y3:Int×Int}
def SKs.more(h:SKs T S Q){p own:Int}{a:Int×Int}(A:0<=p)(B:p<T.length)(C:0<=own)(hq:Q[own.toNat]?=G_ (-2,y3))(y:a.1=0):
  SKs (Hz T p) (S++[[own]]) (Q.set own.toNat ((T.length:Nat),a)):=by
 have d:=(kB.1 hq).1;have f:∀{s:Nat} {r:Int×Int×Int},Q[s]?=G_ r->r.1≠ -2->(Q.set own.toNat ((T.length:Nat),a))[s]?=G_ r:=fun{s r} hs hr=>by
  rw[r0]
  .exact hs
  .intro e;subst e;rw[hq]at hs;exact hr (by rw[<-G_.inj hs])
 have m:(Hz T p).length=T.length+1:=by
  unfold Hz;split<;>simp
 refine⟨h.t.add A B,by rw[m,h.n];simp,λx l c k s g=>?_,?_,λs r hs=>?_⟩
 .by_cases D:x<S.length
  .rw[tJ D]at c;obtain⟨o,r,u,i,j⟩:=h.own x l c k s g;exact⟨o,r,f u (by rw[i];omega),i,j⟩
  .rw[u0 af]at c;have e:x - S.length=0:=by
    have:=(kB.1 c).1;simp at this;omega
   rw[e]at c;simp at c;subst c;have ek:k=0:=by
    have:=(kB.1 g).1;simp at this;omega
   subst ek;simp at g;subst g;refine⟨C,_,uO d,?_,?_⟩
   .show((T.length:Nat):Int)=x;have:=h.n;omega
   .show a.1=_;rw[y];rfl
 .obtain⟨a',z⟩:=h.q0;exact⟨a',f z bf⟩
 .by_cases e:own.toNat=s
  .subst e;rw[uO d]at hs;obtain rfl:=G_.inj hs;have F:=h.n;refine⟨⟨by show(-2:Int)<=(T.length:Nat);omega,by simp;omega⟩,λ_=>⟨[own],?_,?_,?_⟩⟩
   .show(S++[[own]])[((T.length:Nat):Int).toNat]?=_;rw[iZ,F,u0 (iw _)];simp
   .show 0<=a.1;omega
   .show [own][a.1.toNat]?=_;rw[y];simp;omega
  .rw[r0 e]at hs;obtain⟨u,i⟩:=h.aUY s r hs;refine⟨⟨u.1,by simp;omega⟩,λq=>?_⟩
   obtain⟨l,j,G,v⟩:=i q;exact⟨l,by rw[tJ (kB.1 j).1];exact j,G,v⟩
def SKs.opens(h:SKs T S Q)(d:S[x]?=G_ l)(pk:Int):SKs T (S.set x (l++[(Q.length:Int)])) (Q++[((x:Int),(l.length:Int),pk)]):=by
 have f:=(kB.1 d).1;have hq:∀{s:Nat} {p},Q[s]?=G_ p->(Q++[((x:Int),(l.length:Int),pk)])[s]?=G_ p:=fun{s p} hs=>by
  rw[tJ (kB.1 hs).1];exact hs
 refine⟨h.t,by rw[h.n];simp,λy m b k s a=>?_,?_,λs p hs=>?_⟩
 .have hold:∀m,S[y]?=G_ m->m[k]?=G_ s->0<=s/\∃p,(Q++[((x:Int),(l.length:Int),pk)])[s.toNat]?=G_ p/\p.1=y/\p.2.1=k:=λm b a=>by
   obtain⟨g,p,r,h2⟩:=h.own y m b k s a;exact⟨g,p,hq r,h2⟩
  rw[List.getElem?_set]at b;split at b
  .rename_i e;subst e;try rw[HK f]at b
   obtain rfl:=G_.inj b;by_cases u:k<l.length
   .rw[tJ u]at a;exact hold l d a
   .rw[u0 af]at a;have e:k - l.length=0:=by
     have:=(kB.1 a).1;simp at this;omega
    rw[e]at a;simp at a;subst a;refine⟨af,_,by rw[iZ,u0 (iw _)];simp;rfl,rfl,?_⟩
    show((l.length:Nat):Int)=k;omega
  .exact hold m b a
 .obtain⟨a',g⟩:=h.q0;exact⟨a',hq g⟩
 .by_cases i:s<Q.length
  .rw[tJ i]at hs;obtain⟨v,z⟩:=h.aUY s p hs;refine⟨by simpa using v,λq=>?_⟩
   obtain⟨m,j,o,c⟩:=z q;by_cases e:x=p.1.toNat
   .subst e;rw[d]at j;obtain rfl:=G_.inj j;exact⟨_,uO f,o,by rw[tJ (kB.1 c).1];exact c⟩
   .exact⟨m,by rw[r0 e];exact j,o,c⟩
  .rw[u0 af]at hs;have e:s - Q.length=0:=by
    have:=(kB.1 hs).1;simp at this;omega
   rw[e]at hs;simp at hs;subst hs;refine⟨⟨by show(-2:Int)<=x;omega,by simp;omega⟩,λ_=>⟨_,by show(S.set x _)[((x:Nat):Int).toNat]?=_;rw[iZ];exact uO f,by show(0:Int)<=(l.length:Nat);omega,?_⟩⟩
   show(l++[(Q.length:Int)])[((l.length:Nat):Int).toNat]?=_;rw[iZ,u0 (iw _)];simp;omega
theorem SKs.aHh(h:SKs T S Q){o:List Int}(f:o.Nodup)(b:∀x∈o,0<=x):(o.flatMap λx=>(S[x.toNat]?).getD []).Nodup/\∀s∈o.flatMap λx=>(S[x.toNat]?).getD [],0<=s/\∃p,Q[s.toNat]?=G_ p/\p.1∈o:=by
 have a:∀x:Int,0<=x->∀s∈(S[x.toNat]?).getD [],0<=s/\∃p,Q[s.toNat]?=G_ p/\p.1=x/\((S[x.toNat]?).getD [])[p.2.1.toNat]?=G_ s/\0<=p.2.1:=by
  intro x g s hs;cases hS:S[x.toNat]? with
  |none=>rw[hS]at hs;cases hs
  |some l=>
   rw[hS]at hs;obtain⟨k,m⟩:=n6 hs;obtain⟨A,p,B,h2,C⟩:=h.own _ l hS k s m;grind
 constructor
 .induction o with
  |nil=>simp
  |cons x o ih=>
   rw[n5,od];have n:=VN.1 f;refine⟨?_,ih n.2 λy c=>b y (by simp[c]),λs hs s' hs' e=>?_⟩
   .rw[List.nodup_iff_pairwise_ne,List.pairwise_iff_getElem];intro i j hi d q e;have g:=b x bf;cases hS:S[x.toNat]? with
    |none=>simp[hS]at hi
    |some l=>
     simp[hS,jB]at hi d e;obtain⟨_,p,r,_,t⟩:=h.own _ l hS i _ (iH hi);obtain⟨_,u,v,_,z⟩:=h.own _ l hS j _ (iH d);grind
   .subst e;obtain⟨_,p,r,t,_⟩:=a x (b x bf) s hs;obtain⟨y,c,hs'⟩:=List.mem_flatMap.1 hs';obtain⟨_,u,v,z,_⟩:=a y (b y (by simp[c])) s hs'
    grind
 .grind
def ake:∀(o:List (Int×Int)) (j:Nat) (a:List Int) (x:Nat),(∀p∈o,p.1.toNat≠x)->(ahL j o a)[x]?=a[x]?
 |[],_,_,_,_=>rfl
 |p::o,j,a,x,h=>by
  rw[ahL,ake o _ _ x λq hq=>h q (by simp[hq]),r0 (h p bf)]
def apF:∀(o:List (Int×Int)) (j:Nat) (a:List Int),(o.map λp=>p.1.toNat).Nodup->(∀p∈o,p.1.toNat<a.length)->∀(i:Nat) (p:Int×Int),o[i]?=G_ p->(ahL j o a)[p.1.toNat]?=G_ ((j+i:Nat):Int)
 |[],_,_,_,_,_,_,hp=>by simp at hp
 |q::o,j,a,hn,hr,i,p,hp=>by
  rw[z_,VN]at hn;rw[ahL];cases i with
  |zero=>
   simp at hp;subst hp;rw[ake o _ _ _ λr b e=>hn.1 (C6.2 ⟨r,b,e⟩),uO (hr q bf)];simp
  |succ i=>
   rw[apF o (j+1) _ hn.2 (λr b=>gq (hr r (by simp[b]))) i p (gq hp)]
   congr 1;omega
theorem aey:∀(o:List (Int×Int)) (j:Nat) (a:List Int),∀x∈ahL j o a,x∈a\/((j:Int)<=x/\x<(j+o.length:Nat))
 |[],_,_,x,h=>D_ h
 |p::o,j,a,x,h=>by
  rw[ahL]at h;rcases aey o (j+1) _ x h with h|h
  iterate 2 grind
def plq(p:Pl):Int×Int×Int:=(p.1,p.2.1,p.2.2.1)
def aU4(G:Gl):Prop:=SKs G.T (G.ts.map λt=>t.scopes) (G.P.map plq)
structure SKI (G:Gl) (Ws:List Wk):Prop where
 sk:aU4 G
 fk:∀(i:Nat) W,Ws[i]?=G_ W->W.cT= .m .xo->0<=W.own/\∃b,(G.P.map plq)[W.own.toNat]?=G_ (-2,b)
 aU5:∀(i j:Nat) Wi Wj,Ws[i]?=G_ Wi->Ws[j]?=G_ Wj->Wi.cT= .m .xo->Wj.cT= .m .xo->Wi.own=Wj.own->i=j
theorem adD{α β:Type}{f:α->β}{l:List α}{a:α}(h:∀b,l[x]?=G_ b->f a=f b):(l.set x a).map f=l.map f:=by
 apply p_;grind
variable{t':Tk}
def adQ(h:t'.scopes=(G.tk x).scopes):(G.ts.set x t').map (λt=>t.scopes)=G.ts.map λt=>t.scopes:=adD λb hb=>by rw[h];unfold Gl.tk;rw[hb];rfl
def aio(i:Int)(Q:List Pl):(Cq Q i).map plq=Q.map plq:=by
 unfold Cq;split
 .rename_i p a;exact adD λb hb=>by rw[a]at hb;obtain rfl:=G_.inj hb;rfl
 .rfl
def aUT.sm(h:aUT P G t t'):Sm t t'/\t'.cJ=t.cJ/\t'.scopes=t.scopes/\t'.gL=t.gL:=by
 cases h<;>exact⟨⟨rfl,rfl,rfl,rfl⟩,rfl,rfl,rfl⟩
def SKI.keep(h:SKI G Ws)(hi:Ws[i]?=G_ W)(p:G'.T=G.T)(hs:G'.ts.map (λt=>t.scopes)=G.ts.map λt=>t.scopes)(n:G'.P.map plq=G.P.map plq)(o:W'.cT= .m .xo->W.cT= .m .xo/\W'.own=W.own):SKI G' (Ws.set i W'):=by
 have d:=(kB.1 hi).1;have key:∀(j:Nat) (Wj:Wk),(Ws.set i W')[j]?=G_ Wj->Wj.cT= .m .xo->∃a:Wk,Ws[j]?=G_ a/\a.cT= .m .xo/\Wj.own=a.own:=λj Wj b c=>by
  by_cases e:i=j
  .subst e;rw[uO d]at b;obtain rfl:=G_.inj b;exact⟨W,hi,(o c).1,(o c).2⟩
  .rw[r0 e]at b;exact⟨Wj,b,c,rfl⟩
 refine⟨by unfold aU4;rw[p,hs,n];exact h.sk,λj Wj b c=>?_,λj m Wj f b q c r s=>?_⟩
 .obtain⟨a,g,h2,k⟩:=key j Wj b c;rw[k,n];exact h.fk j a g h2
 .obtain⟨a,g,h2,k⟩:=key j Wj b c;obtain⟨l,u,v,x⟩:=key m f q r;exact h.aU5 j m a l g u h2 v (by rw[<-k,<-x,s])
variable{l:Lc}
def SKI.step(h:SKI G Ws)(B:IV l P bw ro G Ws)(hi:Ws[i]?=G_ W)(s:G.err=0):SKI (ZB l P G W bw).1 (Ws.set i (ZB l P G W bw).2):=by
 have c:=B.cx hi s;have hs:Stp l P ro G W (ZB l P G W bw).1 (ZB l P G W bw).2:=aib c B.fr;have n:=(kB.1 hi).1;have K:(G.P.map plq).length=G.C.length:=by rw[U'];exact B.ty.pl
 generalize (ZB l P G W bw).1=G1,(ZB l P G W bw).2=W1 at hs ⊢;have F:W.stack≠ []->W.tp<G.ts.length:=λq=>(c.top q).2;cases hs with
 |quiet q k _ _=>exact h.keep hi rfl rfl rfl λe=>absurd e k.m.2.1
 |fail q s k o=>exact h.keep hi rfl rfl rfl λe=>⟨by rw[<-k.2.2.1];exact e,k.2.2.2.2⟩
 |jq hd y=>exact h.keep hi rfl rfl rfl λe=>by simp at e
 |start hd k=>exact h.keep hi rfl (adQ rfl) rfl λe=>by rw[k.2.2]at e;simp at e
 |aeR ne r lt hn q k _=>exact h.keep hi rfl (adQ hn.sm.2.2.1) rfl λe=>absurd e k.m.2.1
 |ends ne hc q k _=>exact h.keep hi rfl (adQ rfl) rfl λe=>absurd e k.m.2.1
 |tF ne hd r=>exact h.keep hi rfl rfl rfl λe=>by simp[Wk.A6]at e
 |gL ne hd r h12 lt=>exact h.keep hi rfl (adQ rfl) (aio _ _) λe=>by simp[Wk.go]at e
 |cancel ne hd r O lt=>exact h.keep hi rfl (adQ rfl) rfl λe=>by simp[Wk.JF]at e
 |unwind ne hd e ho k hu hw=>exact h.keep hi rfl (adQ rfl) (aio _ _) λe=>absurd e k.m.2.1
 |put ne hd e ho k4=>exact h.keep hi rfl rfl rfl λe=>by simp[Wk.go]at e
 |fin ne hd e ho=>exact h.keep hi rfl rfl rfl λe=>by simp[Wk.go]at e
 |asks ne hd=>exact h.keep hi rfl rfl rfl λe=>by simp at e
 |gone ne hd e ho k hw=>exact h.keep hi rfl rfl rfl λe=>absurd e k.2.2.2.1
 |fork ne hd r h8 rm=>
  have Q:∀{z:Nat} {q},(G.P.map plq)[z]?=G_ q->((G.P++[(-2,0,0,K_)]).map plq)[z]?=G_ q:=fun{z q} hz=>by
   rw[VK,tJ (kB.1 hz).1];exact hz
  have hold:∀(j:Nat) (Wj:Wk),Ws[j]?=G_ Wj->Wj.cT= .m .xo->0<=Wj.own/\Wj.own<(G.C.length:Nat):=λj Wj d f=>by
   obtain⟨y,b,hb⟩:=h.fk j Wj d f;have:=(kB.1 hb).1;rw[K]at this;omega
  refine⟨?_,λj Wj d f=>?_,λj m Wj g d u f v s=>?_⟩
  .show SKs G.T _ ((G.P++[(-2,0,0,K_)]).map plq);rw[VK];exact h.sk.fork (0,0)
  .by_cases e:i=j
   .subst e;rw[uO n]at d;obtain rfl:=G_.inj d;refine⟨by show(0:Int)<=(G.C.length:Nat);omega,(0,0),?_⟩
    show((G.P++[(-2,0,0,K_)]).map plq)[((G.C.length:Nat):Int).toNat]?=_;rw[iZ,VK,u0 af,K];simp[plq]
   .rw[r0 e]at d;obtain⟨y,b,hb⟩:=h.fk j Wj d f;exact⟨y,b,Q hb⟩
  .by_cases e:i=j
   .subst e;by_cases e2:i=m
    .exact e2
    .rw[uO n]at d;rw[r0 e2]at u;obtain rfl:=G_.inj d;have:=hold m g u v;have s:((G.C.length:Nat):Int)=g.own:=s;omega
   .rw[r0 e]at d;by_cases e2:i=m
    .subst e2;rw[uO n]at u;obtain rfl:=G_.inj u;have:=hold j Wj d f;have s:Wj.own=((G.C.length:Nat):Int):=s;omega
    .rw[r0 e2]at u;exact h.aU5 j m Wj g d u f v s
 |xo ne hd r h8 lt rm=>
  have D:=F ne;obtain⟨y,b,hb⟩:=h.fk i W hi hd;have J:=(B.ty.qh D).id;have R:=B.ty.kl;have x:∀{z:List Pl},(z.set W.own.toNat ((G.T.length:Nat),0,0,K_)).map plq=(z.map plq).set W.own.toNat ((G.T.length:Nat),0,0):=fun{z}=>by rw[o3];rfl
  refine⟨?_,λj Wj d f=>?_,λj m Wj g d u f v s=>?_⟩
  .have S:=SKs.more (p:=(G.tk W.tp).id) (own:=W.own) (a:=(0,0)) h.sk (by rw[J];omega) (by rw[J];omega) y hb rfl
   show SKs (Hz G.T (G.tk W.tp).id) (List.map _ ((G.ts++[_]).set W.tp _)) ((G.P.set W.own.toNat ((G.T.length:Nat),0,0,K_)).map plq);rw[x];have e:List.map (λt:Tk=>t.scopes) ((G.ts++[aDY P G W]).set W.tp (aD2 P G W))=G.ts.map (λt=>t.scopes)++[[W.own]]:=by
    rw[adD]
    .rw[VK];rfl
    .intro q hq;rw[tJ D,G.xw D]at hq;obtain rfl:=G_.inj hq;rfl
   rw[e];exact S
  .have H:i≠j:=λe=>by
    subst e;rw[uO n]at d;obtain rfl:=G_.inj d;simp at f
   rw[r0 H]at d;obtain⟨L,U,M⟩:=h.fk j Wj d f;refine⟨L,U,?_⟩;show((G.P.set W.own.toNat _).map plq)[Wj.own.toNat]?=_;rw[x,r0]
   .exact M
   .intro e;exact H (h.aU5 i j W Wj hi d hd f af)
  .have I:∀(q:Nat) (Wq:Wk),(Ws.set i {W with jq:=(G.ts.length:Nat),cT:= .m .tF})[q]?=G_ Wq->Wq.cT= .m .xo->Ws[q]?=G_ Wq:=λq Wq hq f=>by
    by_cases e:i=q
    .subst e;rw[uO n]at hq;obtain rfl:=G_.inj hq;simp at f
    .rwa[r0 e]at hq
   exact h.aU5 j m Wj g (I j Wj d f) (I m g u v) f v s
 |opens ne hd r h11 lt rm V=>
  have D:=F ne;have J:=(B.ty.qh D).id;have A:∀(j:Nat) (Wj:Wk),(Ws.set i (W.go .next))[j]?=G_ Wj->Wj.cT= .m .xo->Ws[j]?=G_ Wj:=λq Wq hq f=>by
   by_cases e:i=q
   .subst e;rw[uO n]at hq;obtain rfl:=G_.inj hq;simp[Wk.go]at f
   .rwa[r0 e]at hq
  have N:(aok P G W).ts.map (λt=>t.scopes)=(G.ts.map λt=>t.scopes).set W.tp ((G.tk W.tp).scopes++[(G.C.length:Int)]):=by
   show(G.ts.set _ _).map _=_;rw[o3]
  refine⟨?_,λj Wj d f=>?_,λj m Wj g d u f v s=>h.aU5 j m Wj g (A j Wj d f) (A m g u v) f v s⟩
  .show SKs G.T ((aok P G W).ts.map _) ((G.P++[_]).map plq);rw[N,VK];have X:(G.ts.map λt=>t.scopes)[W.tp]?=G_ (G.tk W.tp).scopes:=by rw[l8,G.xw D];rfl
   have:=h.sk.opens X (G.pk (G.tk W.tp).kA.1);rw[K]at this;show SKs _ _ (_++[plq _]);unfold plq;dsimp only;rw[J];exact this
  .obtain⟨y,b,hb⟩:=h.fk j Wj (A j Wj d f) f;refine⟨y,b,?_⟩;show((G.P++[_]).map plq)[_]?=_;rw[VK,tJ (kB.1 hb).1];exact hb
structure akH (G:Gl) (o:List (Int×Int)):Prop where
 ok:SM G o
 nd:(o.map λp=>p.1).Nodup
 pr:∀p∈o,(0<=p.1/\p.1<G.ts.length)/\(p.2<G.ts.length)/\∃t,G.T[p.1.toNat]?=G_ t/\p.2=t.parent
 all:∀j:Nat,j<G.ts.length->(j:Int)∈o.map λp=>p.1
 ls:(da G o).Nodup
 sc:awk G o
 sr:∀s∈da G o,0<=s/\s<G.C.length
 rw_:∀x∈cq G o,0<=x/\x<G.ts.length
noncomputable def aaC (G:Gl):List (Int×Int):=Classical.epsilon (akH G)
def aVa(l:Lc)(P:List dB)(bw:List Int)(G:Gl)(Ws:List Wk):Prop:=∃ro,IV l P bw ro G Ws/\SKI G Ws
noncomputable def evF (l:Lc) (P:List dB) (S:Gl×List Wk) (e:List Int):(Gl×List Wk)×Bool:=SA l P S.1 S.2 (aaC S.1) (e.getD 0 0) (e.getD 1 0)
variable{o:List (Int×Int)}
def aDR(g:Ty l ro G)(h:aU4 G):∃o,akH G o:=by
 obtain⟨o,I,h2,m,J⟩:=aDQ h.t;have u:=g.kl;have A:=g.cap;have K:o.length<=G.ts.length:=by
  have:=acW (n:=G.T.length) h2 λx d=>by
   obtain⟨p,b,rfl⟩:=C6.1 d;exact(m p b).1
  simpa[u]using this
 have f:∀x∈o.map (λp=>p.1),0<=x:=λx d=>by
  obtain⟨p,b,rfl⟩:=C6.1 d;exact(m p b).1.1
 obtain⟨B,v⟩:=h.aHh h2 f;have L:=g.pl;have e:(o.map λp=>p.1).flatMap (λx=>((G.ts.map λt=>t.scopes)[x.toNat]?).getD [])=o.flatMap λp=>(G.tk p.1.toNat).scopes:=by
  rw[List.flatMap_map];have:∀(o:List (Int×Int)),(∀p∈o,p.1.toNat<G.ts.length)->(o.flatMap λp=>((G.ts.map λt=>t.scopes)[p.1.toNat]?).getD [])=o.flatMap λp=>(G.tk p.1.toNat).scopes:=by
   intro o D;induction o with
   |nil=>rfl
   |cons p o ih=>
    rw[n5,n5,ih λq hq=>D q (by simp[hq]),l8,G.xw (D p bf)]
    rfl
  exact this o λp b=>by have:=(m p b).1;omega
 rw[e]at B v;obtain⟨a,F⟩:=h.q0;have k:∀s∈da G o,(0<=s/\s<G.C.length)/\(O9 G s).1<G.ts.length:=λs hs=>by
  have key:∀{s:Int} {p},0<=s->(G.P.map plq)[s.toNat]?=G_ p->(0<=s/\s<G.C.length)/\(O9 G s).1<G.ts.length:=fun{s p} z b=>by
   have c:=(kB.1 b).1;rw[U']at c;refine⟨af,?_⟩;have hb:=(h.aUY _ _ b).1;rw[U']at hb;rw[l8,iH c]at b;unfold O9;rw[m0,iH c];have b:=G_.inj b;have:(G.P[s.toNat]'c).1=p.1:=by rw[<-b];rfl
   show(G.P[s.toNat]'c).1< _;rw[this];exact hb.2
  rcases BP.1 hs with rfl|hs
  .exact key e7 F
  .obtain⟨z,p,b,_⟩:=v s hs;exact key z b
 have r:(da G o).Nodup:=by
  refine VN.2 ⟨λq=>?_,B⟩;obtain⟨_,p,b,y⟩:=v 0 q;have:(0:Int).toNat=0:=rfl;rw[this,F]at b;obtain rfl:=G_.inj b;have:=f _ y;omega
 have M:=acW (n:=G.C.length) r λs hs=>(k s hs).1;refine⟨o,⟨⟨λi x d=>?_,af,?_,λp b=>?_,af⟩,h2,λp b=>?_,λj N=>J j af,r,k,λs hs=>(k s hs).1,λx d=>?_⟩⟩
 .have:=g.kk i x d;omega
 .rw[HQ (by have:=g.t1;omega)];exact I
 .have:=(m p b).1;omega
 .obtain⟨O,t,H,a3⟩:=m p b;refine⟨af,?_,t,H,a3⟩;have:=g.kt _ _ H;omega
 .unfold cq at d;rcases aey o 0 _ x d with q|q
  .obtain rfl:=mm q;have:=g.t1;omega
  .omega
def aVa.ord(h:aVa l P bw G Ws):akH G (aaC G):=by
 obtain⟨ro,a,h2⟩:=h;exact Classical.epsilon_spec (aDR a.ty h2.sk)
def aol(h:SKI G Ws)(b:G'.T=G.T)(hs:G'.ts=G.ts)(a:G'.P=G.P):SKI G' Ws:=by
 have c:G'.P.map plq=G.P.map plq:=by rw[a]
 exact⟨by unfold aU4;rw[b,hs,a];exact h.sk,λi W hi d=>by rw[c];exact h.fk i W hi d,h.aU5⟩
def aaZ(ids:List Int):∃M,UX l G ids=G.mem M:=by
 unfold UX;split
 .exact⟨G.M,rfl⟩
 .obtain⟨_,_,_,h⟩:=V9 (l.wa.length:Nat) ids G;rw[h];exact⟨_,rfl⟩
def aVa.ev(h:aVa l P bw G Ws)(e:List Int):aVa l P bw (evF l P (G,Ws) e).1.1 (evF l P (G,Ws) e).1.2:=by
 have f:=h.ord;obtain⟨ro,b,a⟩:=h;obtain⟨iT,c⟩:=awe (o:=aaC G) (n:=e.getD 1 0) (kind:=e.getD 0 0) b f.sr;refine⟨iT,c,?_⟩;unfold evF SA;dsimp only;split
 .exact a
 rename_i d;have d:G.err=0:=mF.1 d;split
 .unfold ZC;split
  .split
   .rename_i W g;split
    .rw[b.dl];exact a.step b g d
    .exact a
   .exact a
  .exact a
 split
 .unfold ZD;split
  .obtain⟨M,e⟩:=aaZ (l:=l) (G:={G with time:=(G.time.1+e.getD 1 0,Ko.Oy G.time.2 (G.time.1+e.getD 1 0))}) (Ko.ids (Ko.ac4 G.time.2 (G.time.1+e.getD 1 0)));rw[e];exact aol a rfl rfl rfl
  .exact a
 split
 .split
  .exact aol a rfl rfl rfl
  .exact a
 split
 .unfold ZF;split
  .split
   .exact a
   .obtain⟨M,e⟩:=aaZ (l:=l) (G:=G) [(da G (aaC G)).getD (e.getD 1 0).toNat 0];rw[e];exact aol a rfl rfl rfl
  .exact a
 .exact a
def aD9{k:Bool->ap}(a:aVa l P bw G Ws)(c:iA w0 l.ps P)(d:TZ w0)(h:qK w0 w l aa G Ws R)
  (e:∀JI w',qK w0 w' l JI (evF l P (G,Ws) [s,v]).1.1 (evF l P (G,Ws) [s,v]).1.2 R->k (evF l P (G,Ws) [s,v]).2 w'):nO (G_ ⟨l.gs,0,H_⟩) #[I_ s,I_ v] w k:=by
 have b:=a.ord;obtain⟨ro,f,g⟩:=a;exact aFl f c d b.ok b.sr h e
def ad4{k:Sl->ap}(b:aVa l P bw G Ws)(h:qK w0 w l aa G Ws R)(c:∀s w',qK w0 w' l aa G Ws (rws 7 s (Yn G (aaC G))::R)->k s w'):dD (G_ ⟨l.gs,0,H_⟩) w k:=by
 have a:=b.ord;obtain⟨ro,d,f⟩:=b;exact akd d a.ok (λp e=>(a.pr p e).2.1) a.rw_ h c
def axl(h:Ty l ro G)(hs:0<=s/\s<G.C.length)(d:k9 ro a r)(e:∀z,r≠ .ask z):(G.Fw wk s).M.get a=G.M.get a:=by
 obtain⟨_,c⟩:=h.O7 hs.1 hs.2;have b:=c.a.lt;rw[h.len]at b;show(G.M.cs wk (G.nd s).at_ 0 1).1.get a=_;rw[abi c.a.1 b d.1,HQ];exact λq=>d.ne c.a (e _) q.1
def akM(wk:Int)(b:k9 ro a r)(c:∀z,r≠ .ask z):∀(ids:List Int) (G:Gl),Ty l ro G->(∀x∈ids,0<=x/\x<G.C.length)->(sK wk G ids).M.get a=G.M.get a
 |[],_,_,_=>rfl
 |s::ids,G,h,hs=>by
  obtain⟨d,_,_,e,_⟩:=awd h (hs s bf);show(sK wk (G.Fw wk s) ids).M.get a=_;rw[akM wk b c ids (G.Fw wk s) d λx f=>by rw[e];exact hs x (by simp[f]),axl h (hs s bf) b c]
def akN(h:Ty l ro G)(hs:∀x∈bw,0<=x/\x<G.C.length)(d:k9 ro a r)(f:∀z,r≠ .ask z)(e:r≠ .told):(UX l G bw).M.get a=G.M.get a:=by
 unfold UX;split
 .rfl
 .obtain⟨c,_⟩:=akb (l.wa.length:Nat) bw G h hs;show((sK (l.wa.length:Nat) G bw).M.ad _ l.told 1).get a=_;have b:=c.told.lt;rw[c.len]at b;rw[ay3 c.told.1 b d.1,HQ (d.ne c.told e),akM (l.wa.length:Nat) d f bw G h hs]
variable{o':List (Int×Int)}
def aBc(h:Dfs T bw o)(h':Dfs T bw o'):o=o':=by
 induction h generalizing o' with
 |nil=>cases h';rfl
 |cons h1 _ ih=>
  cases h' with
  |cons h2 h3=>
   rw[h1]at h2;obtain rfl:=G_.inj h2;rw[ih h3]
def akH.one(h:akH G o)(h':akH G' o')(b:G'.T=G.T):o'=o:=by
 have a:=h.ok.dfs;have h2:=h'.ok.dfs;rw[b]at h2;split at a
 .rename_i e;rw[HK e]at h2;rw[a,h2]
 .rename_i e;rw[HQ e]at h2;exact aBc h2 a
variable{b:Int}
def UZ.aFw(h:UZ P b s lg sc):oW P:=Ck.afq.1 (by
 have:=h.acc;unfold Su at this;simp at this;exact this.2.2)
def aDT(m:Lm):(eY m).T=[⟨-1,0,[]⟩]:=by kernel_rfl
def aBd(m:Lm):(eY m).ts.map (λt=>t.scopes)=[[1]]:=by kernel_rfl
theorem aBe:KtT [⟨-1,0,[]⟩]:=by
 refine⟨e7,λy a=>by simp at a;subst a;rfl,λi x b k c=>?_,λj y a d=>?_,λi x b=>?_⟩
 .grind
 .match j,a with
  |0,_=>omega
 .grind
def aGd(m:Lm):aU4 (eY m):=by
 unfold aU4;rw[aDT,aBd,ahN];refine⟨aBe,rfl,λx l b k s c=>?_,⟨_,rfl⟩,λs p a=>?_⟩
 .match x,b with
  |0,b=>
   simp at b;subst b;match k,c with
   |0,c=>
    simp at c;subst c;exact⟨e7,_,rfl,rfl,rfl⟩
 .match s,a with
  |0,a=>simp[plq]at a;subst a;exact⟨e7,λq=>by simp at q⟩
  |1,a=>simp[plq]at a;subst a;exact⟨e7,λ_=>⟨_,rfl,e7,rfl⟩⟩
def aDV(m:Lm):SKI (eY m) (Bd m):=by
 refine⟨aGd m,λi W hi a=>?_,λi j Wi Wj hi b a=>?_⟩
 iterate 2 obtain⟨_,rfl⟩:=adF hi;cases a
def UZ.rn(c:UZ P b s lg sc){a:Ad}(d:wa.length=(MO b s lg).n):aVa (gJ a ps (MO b s lg) wa) P (dqN (MO b s lg)) (eY (MO b s lg)) (Bd (MO b s lg)):=
 ⟨_,awf (a:=a) (ps:=ps) (wa:=wa) c.ok c.tot (by show(65536:Int)<=65536;decide) d c.aFw,aDV _⟩
def adJ(o:List (Int×Int)):(Yn G o).length=G.ts.length:=by unfold Yn;rw[adI,nt]
def afj(f:Nat->Int):Nat->Int
 |0=>0
 |n+1=>afj f n+f n
def ael{f g:Nat->Int}:∀{n:Nat},(∀x,x<n->f x=g x)->afj f n=afj g n
 |0,_=>rfl
 |n+1,h=>by rw[afj,afj,ael λx a=>h x af,h n af]
def ahS{f g:Nat->Int}{x:Nat}:∀{n:Nat},x<n->(∀y,y<n->y≠x->g y=f y)->afj g n=afj f n+(g x - f x)
 |0,h,_=>by omega
 |n+1,h,hf=>by
  rw[afj,afj];by_cases e:x=n
  .subst e;rw[ael λy b=>hf y af af];omega
  .rw[ahS af λy b a=>hf y af a,hf n af af];omega
def aji{f:Nat->Int}:∀{n:Nat},(∀x,x<n->0<=f x)->0<=afj f n
 |0,_=>by simp[afj]
 |n+1,h=>by
  have:=aji (n:=n) λx a=>h x af;have:=h n af;rw[afj];omega
def ap0{f:Nat->Int}{x:Nat}:∀{n:Nat},(∀x,x<n->0<=f x)->x<n->f x<=afj f n
 |0,_,h=>by omega
 |n+1,h,a=>by
  have b:=aji (n:=n) λx a=>h x af;have h2:=h n af;rw[afj];by_cases e:x=n
  .subst e;omega
  .have:=ap0 (n:=n) (x:=x) (λx a=>h x af) af;omega
abbrev Ts(G:Gl)(x:Nat):Int:=(G.tk x).f.getD 18 0
structure HdI (l:Lc) (G:Gl) (Ws:List Wk):Prop where
 aUo:l.fuel<=1048576
 st:afj (Ts G) G.ts.length=G.steps
 nn:∀x,x<G.ts.length->0<=Ts G x
 sl:0<=G.steps/\G.steps<=l.fuel
 r1:∀x,x<G.ts.length->G.K x=1->∃(i:Nat) (W:Wk),Ws[i]?=G_ W/\x∈W.hold
 s0:∀(i:Nat) W,Ws[i]?=G_ W->W.cT= .m .start->Ts G W.jq.toNat=0
 g2:∀(i:Nat) W,Ws[i]?=G_ W->(W.cT= .m .asks\/W.cT= .m .gone)->2<=G.K W.tp
def Ty.k4(h:Ty l ro G)(a:y<G.ts.length)(h2:2<=G.K y):G.K y=2\/G.K y=3\/G.K y=4:=by
 have:=h.val _ _ (h.qh a).k;have b:G.K y<=4:=this.2;omega
def aUT.st(i:oW P)(j:Ty l ro G)(r:BT P n t)(h:aUT P G t t'):t'.f.getD 18 0=wr (t.f.getD 18 0+1):=by
 have b:=r.fi.len;obtain⟨g,hv,c⟩:=r.fi.at i;have a:=c.pc;have d:=c.oV;cases h with
 |plain h=>exact(ajR d b a.1 a.2 h).elim (λq=>q.2.st) (λq=>q.2.2.st)
 |pass h=>exact ay1 b
 |leave h=>exact ay1 b
 |join h hy e hk hb=>exact(ahz d b a.1 a.2 h (j.k4 e hk) hb).st
 |bad h hy e hk hb=>
  revert hb;dsimp only;unfold Fr.di;split
  .intro q;cases q
  split
  .intro q;cases q
  split
  .intro q;cases q
  .intro _;exact ay1 b
variable{yi:Ro}
def akU(c:k9 ro a r)(hb:k9 ro b yi)(f:ro.length=M.cells.length):(M.put b v).get a=M.get a\/(r=yi/\a=b/\(M.put b v).get a=v):=by
 by_cases e:a=b
 .subst e;have d:=c.2;rw[hb.2]at d;have h2:=hb.lt;rw[f]at h2;exact E_ ⟨(G_.inj d).symm,rfl,ajT hb.1 h2⟩
 .exact D_ (SC hb.1 c.1 e)
theorem awF{o:Int}{q:Ro}(c:k9 ro a r)(hb:k9 ro b q)(d:ro.length=M.cells.length):(M.cs wk b o v).1.get a=M.get a\/(r=q/\a=b/\M.get a=o/\(M.cs wk b o v).1.get a=v):=by
 unfold bJ.cs;split
 .rename_i e;rcases akU (M:=M.tick wk) c hb d with h|⟨h1,h2,h3⟩
  .exact D_ h
  .grind
 .exact D_ rfl
inductive Cel (G:Gl) (W W':Wk):Ro->Int->Int->Prop
 |same {r:Ro} {x:Int}:Cel G W W' r x x
 |jq (h:W.cT= .m .tE) (k:W'={W with cT:= .m .start}):Cel G W W' (.fk W.jq.toNat) 0 1
 |put {x:Int} (h:W.cT= .m .put) (e:2<=(G.tk W.tp).kind/\(G.tk W.tp).kind≠4):Cel G W W' (.fv W.tp) x (G.tk W.tp).v
 |fin (h:W.cT= .m .fin) (e:Ends (G.tk W.tp)):Cel G W W' (.fk W.tp) 1 (G.tk W.tp).kind
 |ask (h:W.cT= .m .cancel):Cel G W W' (.ask (G.tk W.tp).kA.1.toNat) 0 1
 |enter {x:Int} (h:W.cT= .m .tF):Cel G W W' (.liv (G.tk W.tp).kA.1.toNat) x (wr (x+1))
 |leave {x:Int} (h:W.cT= .m .gone) (k:W'.stack=W.stack.tail):Cel G W W' (.liv (G.tk W.tp).l7.toNat) x (wr (x+ -1))
def Stp.cell(c:Cx l P bw ro G i W)(h:Stp l P ro G W G' W')(f:k9 ro a r)(u:r.st (W.cT≠ .m .pF) W.nsp):Cel G W W' r (G.M.get a) (G'.M.get a):=by
 have p:=f.lt;rw[c.ty.len]at p;have hs:∀{x:Int},x=G.M.get a->Cel G W W' r (G.M.get a) x:=fun{x} e=>by rw[e];exact .same
 have g:W.stack≠ []->W.tp<G.ts.length:=λq=>(c.top q).2;have s:∀{z:Int},0<=z->z<G.C.length->k9 ro (G.nd z).at_ (.ask z.toNat)/\k9 ro ((G.nd z).at_+1) (.liv z.toNat):=λy A=>by
  obtain⟨_,h⟩:=c.ty.O7 y A;exact⟨h.a,h.b⟩
 cases h with
 |quiet q k _ _=>exact hs (q.same a r f u)
 |fail q he k o=>exact hs (q.same a r f u)
 |jq hd y=>
  have hb:=(c.ty.qh y.1).k;rcases awF (wk:=W.id) (M:=G.M) (o:=0) (v:=1) (b:=(G.tk W.jq.toNat).jI+0) (q:= .fk W.jq.toNat) f (by rw[jC];exact hb) c.ty.len with e|⟨j,_,n,t⟩
  .exact hs e
  .subst j;rw[n];show Cel G W _ _ 0 ((G.M.cs _ _ _ _).1.get a);rw[t];exact .jq hd rfl
 |start hd k=>exact hs rfl
 |aeR ne rn lt hn q k _=>exact hs (q.same a r f u)
 |ends ne hc q k _=>exact hs (q.same a r f u)
 |fork ne hd rn h8 rm=>exact hs (xR (M:=G.M.tick W.id) f.1 p)
 |xo ne hd rn h8 lt rm=>exact hs (xR (M:=G.M.tick W.id) f.1 p)
 |tF ne hd rn=>
  have d:=c.kA (g ne) rn.cJ;rcases akU (v:=wr (G.M.get ((G.nd (G.tk W.tp).kA.1).at_+1)+1)) (M:=G.M.tick W.id) f (s d.1 d.2).2 c.ty.len with e|⟨j,e2,n⟩
  .exact hs e
  .subst j;show Cel G W _ _ _ (((G.M.tick W.id).put _ _).get a);rw[n,<-e2];exact .enter hd
 |opens ne hd rn h11 lt rm B=>exact hs (xR (M:=G.M.tick W.id) f.1 p)
 |gL ne hd rn h12 lt=>exact hs rfl
 |cancel ne hd rn D lt=>
  have d:=c.kA (g ne) rn.cJ;rcases awF (wk:=W.id) (M:=G.M) (o:=0) (v:=1) f (s d.1 d.2).1 c.ty.len with e|⟨j,_,n,t⟩
  .exact hs e
  .subst j;rw[n];show Cel G W _ _ 0 ((G.M.cs _ _ _ _).1.get a);rw[t];exact .ask hd
 |unwind ne hd e ho k hu hw=>exact hs rfl
 |put ne hd e ho k4=>
  rcases akU (v:=(G.tk W.tp).v) (M:=G.M.tick W.id) f (c.ty.qh (g ne)).v c.ty.len with e|⟨j,e2,n⟩
  .exact hs e
  .subst j;show Cel G W _ _ _ (((G.M.tick W.id).put _ _).get a);rw[n];exact .put hd ⟨(show Ends _ by assumption).k2,k4⟩
 |fin ne hd e ho=>
  rcases awF (wk:=W.id) (M:=G.M) (o:=1) (v:=(G.tk W.tp).kind) (b:=(G.tk W.tp).jI+0) (q:= .fk W.tp) f (by rw[jC];exact(c.ty.qh (g ne)).k) c.ty.len with e|⟨j,_,n,t⟩
  .exact hs e
  .subst j;rw[n];show Cel G W _ _ 1 ((G.M.cs _ _ _ _).1.get a);rw[t];exact .fin hd (by assumption)
 |asks ne hd=>exact hs rfl
 |gone ne hd e ho k hw=>
  have d:=(c.ty.qh (g ne)).inn;rcases akU (v:=wr (G.M.get ((G.nd (G.tk W.tp).l7).at_+1)+ -1)) (M:=G.M.tick W.id) f (s d.1 d.2).2 c.ty.len with e|⟨j,e2,n⟩
  .exact hs e
  .subst j;show Cel G W _ _ _ (((G.M.tick W.id).put _ _).get a);rw[n,<-e2];exact .leave hd k.1
theorem Stp.hold(h:Stp l P ro G W G' W'):∀y∈W.hold,y∈W'.hold\/(W.cT= .m .gone/\y=W.tp):=by
 intro y a;have b:∀{W1:Wk},W1.cT≠ .m .start->W1.hold=W1.stack:=fun{W1} q=>kL q;have key:W.cT≠ .m .start->W'.cT≠ .m .start->W'.stack=W.stack->y∈W'.hold:=λc h2 d=>by rw[b h2,d,<-b c];exact a
 cases h with
 |quiet q k o _=>exact D_ (key o.1 k.m.1 k.s)
 |fail q he k o=>refine D_ ?_;unfold Wk.hold at a ⊢;rw[k.1,k.2.2.1,k.2.2.2.1];exact a
 |jq hd h0=>
  refine D_ ?_;rw[b (by rw[hd];simp)]at a
  unfold Wk.hold;simp[a]
 |start hd k=>
  refine D_ ?_;rw[b (by rw[k.2.2];simp),k.1]
  unfold Wk.hold at a;grind
 |aeR ne rn lt hn q k o=>exact D_ (key o.1 k.m.1 k.s)
 |ends ne hc q k o=>exact D_ (key o.1 k.m.1 k.s)
 |fork ne hd rn h8 rm=>exact D_ (key (by rw[hd];simp) bf rfl)
 |xo ne hd rn h8 lt rm=>exact D_ (key (by rw[hd];simp) bf rfl)
 |tF ne hd rn=>exact D_ (key (by rw[hd];simp) (by simp[Wk.A6]) rfl)
 |opens ne hd rn h11 lt rm f=>exact D_ (key (by rw[hd];simp) (by simp[Wk.go]) rfl)
 |gL ne hd rn h12 lt=>exact D_ (key (by rw[hd];simp) (by simp[Wk.go]) rfl)
 |cancel ne hd rn g lt=>exact D_ (key (by rw[hd];simp) (by simp[Wk.JF]) rfl)
 |unwind ne hd e ho k hu hw=>exact D_ (key (by rw[hd];simp) k.m.1 k.s)
 |put ne hd e ho k4=>exact D_ (key (by rw[hd];simp) (by simp[Wk.go]) rfl)
 |fin ne hd e ho=>exact D_ (key (by rw[hd];simp) (by simp[Wk.go]) rfl)
 |asks ne hd=>exact D_ (key (by rw[hd];simp) bf rfl)
 |gone ne hd e ho k hw=>
  rw[b (by rw[hd];simp)]at a
  obtain⟨z,st,hs⟩:=kp ne;rw[hs]at a;rcases BP.1 a with q|q
  .grind
  .refine D_ ?_;rw[b k.2.2.1,k.1,hs];exact q
theorem Stp.K(c:Cx l P bw ro G i W)(h:Stp l P ro G W G' W')(d:(G'.tk y).jI=(G.tk y).jI)(f:y<G.ts.length):G'.K y=G.K y\/(G.K y=0/\G'.K y=1/\y∈W'.hold)\/(G.K y=1/\W.cT= .m .fin/\y=W.tp/\G'.K y=(G.tk y).kind/\Ends (G.tk y)):=by
 have g:=(c.ty.qh f).k;have b:=h.cell c g trivial;unfold Gl.K;rw[d];generalize a:Ro.fk y=r at b;generalize j:G.M.get (G.tk y).jI=a0 at b;generalize hb:G'.M.get (G.tk y).jI=a1 at b;cases b with
 |same=>exact D_ rfl
 |jq hd k=>
  obtain rfl:=Ro.fk.inj a;refine E_ (D_ ⟨rfl,rfl,?_⟩);rw[k];unfold Wk.hold;simp
 |put _=>cases a
 |fin hd e=>
  grind
 |ask _=>cases a
 |enter _=>cases a
 |leave _ _=>cases a
theorem ayI(d:x<G.ts.length)(e:G'.ts=G.ts.set x t'):afj (Ts G') G'.ts.length=afj (Ts G) G.ts.length+(t'.f.getD 18 0 - Ts G x)/\(∀y,y<G.ts.length->Ts G' y=if y=x then t'.f.getD 18 0 else Ts G y)/\G'.ts.length=G.ts.length:=by
 have c:G'.ts.length=G.ts.length:=by grind
 have a:∀y,Ts G' y=if y=x then t'.f.getD 18 0 else Ts G y:=λy=>by
  unfold Ts Gl.tk;grind
 refine⟨?_,λy _=>a y,c⟩;rw[c,ahS d λy _ b=>by rw[a,HQ b],a,HK rfl]
structure Cnt (l:Lc) (G G':Gl):Prop where
 n:G.ts.length<=G'.ts.length
 s:(G'.steps=G.steps/\afj (Ts G') G'.ts.length=afj (Ts G) G.ts.length/\∀y,y<G.ts.length->Ts G' y=Ts G y)\/
  (∃x,x<G.ts.length/\G.steps<l.fuel/\G'.steps=wr (G.steps+1)/\afj (Ts G') G'.ts.length=afj (Ts G) G.ts.length+(wr (Ts G x+1) - Ts G x)/\∀y,y<G.ts.length->Ts G' y=if y=x then wr (Ts G x+1)else Ts G y)
 w:∀y,G.ts.length<=y->y<G'.ts.length->Ts G' y=0
def Cnt.same(a:G'.ts=G.ts)(h2:G'.steps=G.steps):Cnt l G G':=by
 have e:∀y,Ts G' y=Ts G y:=λy=>by unfold Ts Gl.tk;rw[a]
 exact⟨by rw[a];exact iw _,D_ ⟨h2,by rw[a];exact ael λy _=>e y,λy _=>e y⟩,λy c b=>by rw[a]at b;omega⟩
def Cnt.set(d:x<G.ts.length)(g:G'.ts=G.ts.set x t')(h2:G'.steps=G.steps)(i:t'.f=(G.tk x).f):Cnt l G G':=by
 obtain⟨a,b,c⟩:=ayI d g;have e:t'.f.getD 18 0=Ts G x:=by rw[i]
 rw[e]at a b;exact⟨af,D_ ⟨h2,af,λy j=>by rw[b y j];split;(rename_i q;rw[q]);rfl⟩,λy k m=>by omega⟩
def Cnt.one(d:x<G.ts.length)(e:G'.ts=G.ts.set x t')(h2:G'.steps=wr (G.steps+1))(lt:G.steps<l.fuel)(g:t'.f.getD 18 0=wr (Ts G x+1)):Cnt l G G':=by
 obtain⟨a,b,c⟩:=ayI d e;rw[g]at a b;exact⟨af,E_ ⟨x,d,lt,h2,a,b⟩,λy i j=>by omega⟩
theorem Stp.cnt(c:Cx l P bw ro G i W)(h:Stp l P ro G W G' W'):Cnt l G G':=by
 have a:W.stack≠ []->W.tp<G.ts.length:=λq=>(c.top q).2;cases h with
 |quiet q k _ _=>exact .same rfl rfl
 |fail q he k o=>exact .same rfl rfl
 |jq hd h0=>exact .same rfl rfl
 |start hd k=>exact .set (c.wt.hl _ (by unfold Wk.hold;simp[hd])) rfl rfl rfl
 |aeR ne rn lt hn q k _=>exact .one (a ne) rfl rfl lt (hn.st c.acc c.ty rn)
 |ends ne hc q k _=>exact .set (a ne) rfl rfl rfl
 |fork ne hd rn h8 rm=>exact .same rfl rfl
 |xo ne hd rn h8 lt rm=>
  have d:=a ne;obtain⟨g,hv,j⟩:=rn.fi.at c.acc;have b:=j.pc;have m:(eI (G.tk W.tp).f (bz P (G.tk W.tp).f) (G.ts.length:Nat)).getD 18 0=wr (Ts G W.tp+1):=by
   unfold Fr.eI;rw[HK (rn.fi.is8 c.acc h8)];have z:=rn.fi.aEM c.acc;show(A0 _ _).getD 18 0=_;rw[ay1 (by rw[VJ];exact rn.fi.len),m6 af]
   rfl
  obtain⟨s,t,e2⟩:=agB d;have n:∀y,y<G.ts.length->Ts (aFY P G W) y=if y=W.tp then wr (Ts G W.tp+1)else Ts G y:=λy p=>by
   unfold Ts;rw[t y p];split
   .exact m
   .rfl
  have u:Ts (aFY P G W) G.ts.length=0:=by
   unfold Ts;rw[e2];exact(ads rn.fi.len).2.2.2.1
  refine⟨af,E_ ⟨W.tp,d,lt,rfl,?_,n⟩,λy A B=>?_⟩
  .rw[s,afj,u,ahS d λy p r=>by rw[n y p,HQ r],n _ d,HK rfl]
   omega
  .grind
 |tF ne hd rn=>exact .same rfl rfl
 |opens ne hd rn h11 lt rm v=>exact .one (a ne) rfl rfl lt (ay1 rn.fi.len)
 |gL ne hd rn h12 lt=>
  obtain⟨g,hv,j⟩:=rn.fi.at c.acc;have b:=j.pc;exact .one (a ne) rfl rfl lt (ahA j.oV rn.fi.len b.1 b.2 h12).st
 |cancel ne hd rn x lt=>exact .one (a ne) rfl rfl lt (ay1 rn.fi.len)
 |unwind ne hd e ho k hu hw=>exact .set (a ne) (show(G.Zv W.tp (G.tk W.tp)).ts=G.ts.set W.tp {G.tk W.tp with cJ:=(G.tk W.tp).cJ.dropLast}from rfl) rfl rfl
 |put ne hd e ho k4=>exact .same rfl rfl
 |fin ne hd e ho=>exact .same rfl rfl
 |asks ne hd=>exact .same rfl rfl
 |gone ne hd e ho k hw=>exact .same rfl rfl
def HdI.step(h:HdI l G Ws)(F:IV l P bw ro G Ws)(hi:Ws[i]?=G_ W)(O:G.err=0)(hr:rV l P bw ro iT G i W (G',W'))(hs:Stp l P ro G W G' W'):HdI l G' (Ws.set i W'):=by
 have c:=F.cx hi O;have r:=(kB.1 hi).1;have I:=hs.cnt c;have A:W.stack≠ []->W.tp<G.ts.length:=λq=>(c.top q).2;have R:∀x,x<G.ts.length->Ts G x<=G.steps:=λx H=>by rw[<-h.st];exact ap0 h.nn H
 have U:=h.sl;have V:=h.aUo;have S:∀y,y<G.ts.length->_:=λy g=>hs.K c (hr.Cd.ids y g).2.2 g;have hwrap:∀{z:Int},0<=z->z<=1048576->wr (z+1)=z+1:=λt u=>dh ⟨af,af⟩;have d:afj (Ts G') G'.ts.length=G'.steps/\(0<=G'.steps/\G'.steps<=l.fuel)/\(∀y,y<G.ts.length->0<=Ts G' y):=by
  rcases I.s with⟨J,Q,a3⟩|⟨x,H,lt,J,Q,a3⟩
  .exact⟨by rw[Q,J];exact h.st,by rw[J];exact U,λy g=>by rw[a3 y g];exact h.nn y g⟩
  .have u:=R x H;have h2:=h.nn x H;have X:wr (Ts G x+1)=Ts G x+1:=hwrap h2 af;have e2:wr (G.steps+1)=G.steps+1:=hwrap U.1 af;rw[X]at Q a3;rw[e2]at J;refine⟨by rw[Q,J,h.st];omega,af,λy g=>?_⟩
   rw[a3 y g];split
   .omega
   .exact h.nn y g
 have L:∀y,G.ts.length<=y->y<G'.ts.length->G'.K y=0:=by
  intro y u h2;cases hs with
  |xo ne a rn h8 lt rm=>
   obtain⟨hl,_,e2⟩:=agB (P:=P) (A ne);have e:y=G.ts.length:=af;subst e;unfold Gl.K;rw[e2];exact Yf (M:=G.M.tick W.id) (mG _)
  |opens ne a rn h11 lt rm Y=>have h2:y<(qs G.ts _ _).length:=h2;rw[VJ]at h2;omega
  |gL ne a rn h12 lt=>have h2:y<(qs G.ts _ _).length:=h2;rw[VJ]at h2;omega
  |unwind ne a e ho k hu hw=>have h2:y<(qs G.ts _ _).length:=h2;rw[VJ]at h2;omega
  |start a k=>have h2:y<(qs G.ts _ _).length:=h2;rw[VJ]at h2;omega
  |aeR ne rn lt hn q k o=>have h2:y<(qs G.ts _ _).length:=h2;rw[VJ]at h2;omega
  |ends ne I q k o=>have h2:y<(qs G.ts _ _).length:=h2;rw[VJ]at h2;omega
  |cancel ne a rn Z lt=>have h2:y<(qs G.ts _ _).length:=h2;rw[VJ]at h2;omega
  |_=>have h2:y<G.ts.length:=h2;omega
 refine⟨h.aUo,d.1,λy g=>?_,d.2.1,λy g u=>?_,λj Wj b a=>?_,λj Wj b a=>?_⟩
 .by_cases f:y<G.ts.length
  .exact d.2.2 y f
  .rw[I.w y af g];exact mG _
 .by_cases f:y<G.ts.length
  .rcases S y f with q|⟨_,_,q⟩|⟨_,_,_,q,e⟩
   .rw[q]at u;obtain⟨j,Wj,b,B⟩:=h.r1 y f u;by_cases e:i=j
    .subst e;rw[hi]at b;obtain rfl:=G_.inj b;rcases hs.hold y B with z|⟨z1,z2⟩
     .exact⟨i,W',uO r,z⟩
     .have:=h.g2 i W hi (E_ z1);rw[<-z2]at this;omega
    .exact⟨j,Wj,by rw[r0 e];exact b,B⟩
   .exact⟨i,W',uO r,q⟩
   .have:=e.k2;omega
  .have:=L y af g;omega
 .by_cases e:i=j
  .subst e;rw[uO r]at b;obtain rfl:=G_.inj b;have C:Ts G W'.jq.toNat=0/\W'.jq.toNat<G.ts.length/\∀y,y<G.ts.length->Ts G' y=Ts G y:=by
    have no:∀{p:Prop},W'.cT≠ .m .start->p:=λq=>absurd a q;cases hs with
    |quiet q k _ _=>exact no k.m.1
    |fail q O k o=>
     have n:W.cT= .m .start:=by rw[<-k.2.2.1];exact a
     refine⟨by rw[k.2.2.2.1];exact h.s0 i W hi n,by rw[k.2.2.2.1];exact c.wt.hl _ (by unfold Wk.hold;simp[n]),λy g=>rfl⟩
    |jq v t=>
     refine⟨?_,t.1,λy g=>rfl⟩;exact(F.fr _ t.1 t.2).st
    |start v k=>exact no (by rw[k.2.2];simp)
    |aeR ne rn lt hn q k _=>exact no k.m.1
    |ends ne I q k _=>exact no k.m.1
    |unwind ne a e ho k hu hw=>exact no k.m.1
    |gone ne a e ho k hw=>exact no k.2.2.1
    |_=>exact no (by simp[Wk.go,Wk.A6,Wk.JF])
   rw[C.2.2 _ C.2.1];exact C.1
  .rw[r0 e]at b;have t:=h.s0 j Wj b a;have B:Wj.jq.toNat∈Wj.hold:=by unfold Wk.hold;simp[a]
   have D:=(F.w j Wj b).hl _ B;have N:Wj.jq.toNat ∉ W.hold:=λq=>e (F.dj i j W Wj _ hi b q B);unfold Ts;rw[hr.Cd.tk D N];exact t
 .by_cases e:i=j
  .subst e;rw[uO r]at b;obtain rfl:=G_.inj b;have no:∀{p:Prop},W'.cT≠ .m .asks/\W'.cT≠ .m .gone->p:=λq=>by rcases a with z|z;exact absurd z q.1;exact absurd z q.2
   have hkeep:W'.tp=W.tp->(W.cT= .m .asks\/W.cT= .m .gone)->W.stack≠ []->2<=G'.K W'.tp:=λu h2 h3=>by
    have h4:=h.g2 i W hi h2;rw[u];rcases S W.tp (A h3)with q|⟨q,_⟩|⟨q,_⟩
    .rw[q];exact h4
    iterate 2 omega
   have hsame:W'.stack=W.stack->W'.tp=W.tp:=λq=>by unfold Wk.tp;rw[q]
   cases hs with
   |quiet q k _ _=>exact no k.m.2.2.2
   |fail q O k o=>
    have n:W.cT= .m .asks\/W.cT= .m .gone:=by rw[<-k.2.2.1];exact a
    refine hkeep (hsame k.1) n ?_;have ct:=c.ct;unfold cD at ct;rcases n with z|z<;>rw[z]at ct<;>exact ct.1
   |jq v t=>exact no bf
   |start v k=>exact no (by rw[k.2.2];simp)
   |aeR ne rn lt hn q k _=>exact no k.m.2.2.2
   |ends ne I q k _=>exact no k.m.2.2.2
   |unwind ne a e ho k hu hw=>exact no k.m.2.2.2
   |gone ne a e ho k hw=>exact no k.2.2.2.2.2
   |asks ne v=>exact hkeep rfl (D_ v) ne
   |fin ne v e ho=>
    have H:=A ne;have u:G.K W.tp=1:=by
     obtain⟨z,st,d⟩:=kp ne;have B:W.tp∈W.hold:=by unfold Wk.hold Wk.tp;rw[d];simp
     rcases c.wt.run _ B with q|⟨_,_,q⟩
     .exact q
     .rw[v]at q;rcases q with q|q<;>cases q
    have e2:=e.k2;have hb:=(c.ty.qh H).k;have f:=hb.lt;rw[c.ty.len]at f;show 2<=(G.M.cs W.id ((G.tk W.tp).jI+0) 1 (G.tk W.tp).kind).1.get (G.tk W.tp).jI;rw[jC,abi hb.1 f hb.1,HK ⟨rfl,u⟩];exact e2
   |_=>exact no (by simp[Wk.go,Wk.A6,Wk.JF])
  .rw[r0 e]at b;have t:=h.g2 j Wj b a;have T:Wj.stack≠ []:=by
    intro q;have v:G.err=0:=O;have ct:=(F.w j Wj b).ct v;unfold cD at ct;rcases a with z|z<;>rw[z]at ct<;>exact ct.1 q
   have D:Wj.tp<G.ts.length:=by
    obtain⟨z,st,d⟩:=kp T;exact(F.w j Wj b).hl _ (by unfold Wk.hold Wk.tp;rw[d];simp)
   rcases S _ D with q|⟨q,_⟩|⟨q,_⟩
   .rw[q];exact t
   iterate 2 omega
def Lft(G:Gl)(Ws:List Wk)(x:Nat):Prop:=2<=G.K x/\∀(i:Nat) W,Ws[i]?=G_ W->x ∉ W.stack
open Classical in
noncomputable def mf (G:Gl) (Ws:List Wk) (s:Int) (x:Nat):Int:=if (G.tk x).l7=s/\¬Lft G Ws x then 1 else 0
def pf(G:Gl)(Ws:List Wk)(s:Int)(i:Nat):Int:=match Ws[i]? with|some W=>(if W.cT= .m .tF/\(G.tk W.jq.toNat).l7=s then 1 else 0)|none=>0
def liv(G:Gl)(s:Int):Int:=G.M.get ((G.nd s).at_+1)
structure LvI (G:Gl) (Ws:List Wk):Prop where
 lv:∀s:Int,0<=s->s<G.C.length->afj (mf G Ws s) G.ts.length=liv G s+afj (pf G Ws s) Ws.length
 aVb:∀(i:Nat) W,Ws[i]?=G_ W->W.cT= .m .tF->W.jq.toNat<G.ts.length/\(G.tk W.jq.toNat).l7=(G.tk W.tp).kA.1
def aBh:0<=mf G Ws s x/\mf G Ws s x<=1:=by unfold mf;split<;>omega
def aFQ:0<=pf G Ws s x/\pf G Ws s x<=1:=by
 unfold pf;split
 .split<;>omega
 .omega
def alo{f:Nat->Int}:∀{n:Nat},(∀x,x<n->f x<=1)->afj f n<=n
 |0,_=>by simp[afj]
 |n+1,h=>by
  have a:=alo (n:=n) λx b=>h x af;have h2:=h n af;rw[afj];omega
def arS(O:HdI l G Ws)(J:IV l P bw ro G Ws)(hi:Ws[i]?=G_ W)(L:G.err=0)(hr:rV l P bw ro iT G i W (G',W'))(hs:Stp l P ro G W G' W')(M:x<G.ts.length):
  (Lft G' (Ws.set i W') x↔Lft G Ws x\/(W.cT= .m .gone/\x=W.tp))/\(W.cT= .m .gone->x=W.tp->¬Lft G Ws x):=by
 have c:=J.cx hi L;have u:=(kB.1 hi).1;have B:=hs.K c (hr.Cd.ids x M).2.2 M;have C:∀{p:Wk->Prop},(∀(j:Nat) Wj,(Ws.set i W')[j]?=G_ Wj->p Wj)↔(p W'/\∀(j:Nat) Wj,j≠i->Ws[j]?=G_ Wj->p Wj):=fun{p}=>by
  refine⟨λh=>⟨h i W' (uO u),λj Wj b h2=>h j Wj (by rw[r0 (Ne.symm b)];exact h2)⟩,λh j Wj b=>?_⟩
  by_cases e:i=j
  .subst e;rw[uO u]at b;obtain rfl:=G_.inj b;exact h.1
  .rw[r0 e]at b;exact h.2 j Wj (Ne.symm e) b
 have hold:∀{p:Wk->Prop},(∀(j:Nat) Wj,Ws[j]?=G_ Wj->p Wj)↔(p W/\∀(j:Nat) Wj,j≠i->Ws[j]?=G_ Wj->p Wj):=fun{p}=>by
  refine⟨λh=>⟨h i W hi,λj Wj _ h2=>h j Wj h2⟩,λh j Wj b=>?_⟩;by_cases e:j=i
  .subst e;rw[hi]at b;obtain rfl:=G_.inj b;exact h.1
  .exact h.2 j Wj e b
 have D:W.stack≠ []->W.tp∈W.stack:=λq=>by
  obtain⟨z,st,e⟩:=kp q;unfold Wk.tp;rw[e];simp
 have main:∀(_:W'.stack=W.stack),W.cT≠ .m .gone->((Lft G' (Ws.set i W') x↔Lft G Ws x\/(W.cT= .m .gone/\x=W.tp))/\(W.cT= .m .gone->x=W.tp->¬Lft G Ws x)):=λe a=>by
  refine⟨?_,λq=>absurd q a⟩;unfold Lft;rw[C (p:=λW=>x ∉ W.stack),hold (p:=λW=>x ∉ W.stack),e];rcases B with q|⟨N,f,_⟩|⟨N,f,A,Q,R⟩
  .rw[q];exact⟨λh=>D_ h,λh=>h.elim id λz=>absurd z.1 a⟩
  .exact⟨λh=>by omega,λh=>h.elim (λz=>by omega) λz=>absurd z.1 a⟩
  .have F:W.stack≠ []:=by
    have ct:=c.ct;unfold cD at ct;rw[f]at ct;exact ct.1
   have n:=D F;rw[<-A]at n;exact⟨λh=>absurd n h.2.1,λh=>h.elim (λz=>by omega) λz=>absurd z.1 a⟩
 cases hs with
 |quiet q k o _=>exact main k.s o.2.2.2.2
 |fail q L k o=>exact main k.1 o.1
 |jq a h0=>exact main rfl (by rw[a];simp)
 |start a k=>
  refine⟨?_,λq=>by rw[a]at q;simp at q⟩
  unfold Lft;rw[C (p:=λW=>x ∉ W.stack),hold (p:=λW=>x ∉ W.stack),k.1];have n:W.jq.toNat∈W.hold:=by unfold Wk.hold;simp[a]
  have S:G.K W.jq.toNat=1:=by
   rcases c.wt.run _ n with q|⟨_,_,q⟩
   .exact q
   .rw[a]at q;rcases q with q|q<;>cases q
  rcases B with q|⟨N,f,_⟩|⟨_,f,_⟩
  .rw[q];by_cases e:x=W.jq.toNat
   .rw[e,S];exact⟨λh=>by omega,λh=>h.elim (λz=>by omega) λz=>by rw[a]at z;simp at z⟩
   .refine⟨λh=>D_ ⟨h.1,λz=>h.2.1 (by simp[z]),h.2.2⟩,λh=>h.elim (λz=>⟨z.1,λv=>?_,z.2.2⟩) λz=>by rw[a]at z;simp at z⟩
    rcases BP.1 v with r|r
    .exact e r
    .exact z.2.1 r
  .exact⟨λh=>by omega,λh=>h.elim (λz=>by omega) λz=>by rw[a]at z;simp at z⟩
  .rw[a]at f;simp at f
 |aeR ne rn lt hn q k o=>exact main k.s o.2.2.2.2
 |ends ne hc q k o=>exact main k.s o.2.2.2.2
 |unwind ne a e ho k hu hw=>exact main k.s (by rw[a];simp)
 |gone ne a e ho k hw=>
  obtain⟨z,st,d⟩:=kp ne;have t:W.tp=z:=by unfold Wk.tp;rw[d];rfl
  have h2:=O.g2 i W hi (E_ a);have g:=c.wt.nd;rw[kL (by rw[a];simp),d]at g
  have g:=VN.1 g;refine⟨?_,λ_ H h=>?_⟩
  .unfold Lft;rw[C (p:=λW=>x ∉ W.stack),hold (p:=λW=>x ∉ W.stack),k.1,d];rcases B with q|⟨_,f,A⟩|⟨_,f,_⟩
   .rw[q];by_cases e:x=W.tp
    .rw[e];rw[t]at h2 ⊢;refine⟨λ_=>E_ ⟨a,rfl⟩,λ_=>⟨h2,g.1,λj Wj b I n=>b ?_⟩⟩;exact J.dj j i Wj W z I hi (by unfold Wk.hold;simp[n]) (by unfold Wk.hold;rw[d];simp)
    .refine⟨λh=>D_ ⟨h.1,λv=>?_,h.2.2⟩,λh=>h.elim (λy=>⟨y.1,λv=>y.2.1 (by simp[show x∈st from v]),y.2.2⟩) λy=>absurd y.2 e⟩
     rcases BP.1 v with r|r
     .exact e (r.trans t.symm)
     .exact h.2.1 r
   .exfalso;rw[kL k.2.2.1,k.1]at A;have n:x∈W.hold:=by
     rw[kL (by rw[a];simp)]
     exact o4 A
    have:=c.wt.run x n;omega
   .rw[a]at f;simp at f
  .exact h.2 i W hi (by rw[d,H,t];simp)
 |fork ne a rn h8 rm=>exact main rfl (by rw[a];simp)
 |xo ne a rn h8 lt rm=>exact main rfl (by rw[a];simp)
 |tF ne a rn=>exact main rfl (by rw[a];simp)
 |opens ne a rn h11 lt rm T=>exact main rfl (by rw[a];simp)
 |gL ne a rn h12 lt=>exact main rfl (by rw[a];simp)
 |cancel ne a rn U lt=>exact main rfl (by rw[a];simp)
 |put ne a e ho k4=>exact main rfl (by rw[a];simp)
 |fin ne a e ho=>exact main rfl (by rw[a];simp)
 |asks ne a=>exact main rfl (by rw[a];simp)
def LvI.step(h:LvI G Ws)(hH:HdI l G Ws)(r:IV l P bw ro G Ws)(hi:Ws[i]?=G_ W)(he:G.err=0)(hr:rV l P bw ro iT G i W (G',W'))(hs:Stp l P ro G W G' W'):LvI G' (Ws.set i W'):=by
 have c:=r.cx hi he;have S:=(kB.1 hi).1;have T:W.stack≠ []->W.tp<G.ts.length:=λq=>(c.top q).2;have hcap:=r.ty.cap;have awg:=r.lc.w16;have hwn:=r.wn;have D:∀y,y<G.ts.length->(G'.tk y).l7=(G.tk y).l7:=λy v=>(hr.Cd.ids y v).1;have hmf:∀s y,y<G.ts.length->mf G' (Ws.set i W') s y=mf G Ws s y - (if W.cT= .m .gone/\y=W.tp/\(G.tk y).l7=s then 1 else 0):=λs y v=>by
  obtain⟨d,h2⟩:=arS hH r hi he hr hs v;unfold mf;rw[D y v,d];by_cases e:(G.tk y).l7=s
  .by_cases e2:W.cT= .m .gone/\y=W.tp
   .have h3:=h2 e2.1 e2.2;rw[HQ (λq=>q.2 (E_ e2)),HK ⟨e,h3⟩,HK ⟨e2.1,e2.2,e⟩];rfl
   .rw[HQ (show¬(W.cT= .m .gone/\y=W.tp/\(G.tk y).l7=s)from λq=>e2 ⟨q.1,q.2.1⟩)];by_cases e3:Lft G Ws y
    .rw[HQ (λq=>q.2 (D_ e3)),HQ (λq=>q.2 e3)];rfl
    .rw[HK ⟨e,λq=>q.elim e3 e2⟩,HK ⟨e,e3⟩];rfl
  .rw[HQ (λq=>e q.1),HQ (λq=>e q.1),HQ (λq=>e q.2.2)];rfl
 have hpf:∀s j,j<Ws.length->j≠i->pf G' (Ws.set i W') s j=pf G Ws s j:=λs j u F=>by
  obtain⟨Wj,H⟩:∃Wj,Ws[j]?=G_ Wj:=⟨_,iH u⟩;unfold pf;rw[r0 (Ne.symm F),H];dsimp only;by_cases a:Wj.cT= .m .tF
  .rw[D _ (h.aVb j Wj H a).1]
  .rw[HQ (λq=>a q.1),HQ (λq=>a q.1)]
 have U:∀s,pf G Ws s i=if W.cT= .m .tF/\(G.tk W.jq.toNat).l7=s then 1 else 0:=λs=>by unfold pf;rw[hi]
 have V:∀s,pf G' (Ws.set i W') s i=if W'.cT= .m .tF/\(G'.tk W'.jq.toNat).l7=s then 1 else 0:=λs=>by unfold pf;rw[uO S]
 have X:∀s,afj (pf G' (Ws.set i W') s) (Ws.set i W').length=afj (pf G Ws s) Ws.length+(pf G' (Ws.set i W') s i - pf G Ws s i):=λs=>by
  rw[VJ];exact ahS S λy v F=>hpf s y v F
 have Y:∀s,afj (mf G' (Ws.set i W') s) G.ts.length=afj (mf G Ws s) G.ts.length - (if W.cT= .m .gone/\(G.tk W.tp).l7=s then 1 else 0):=λs=>by
  by_cases a:W.cT= .m .gone
  .have ct:=c.ct;unfold cD at ct;rw[a]at ct;have Z:=T ct.1;rw[ahS (f:=mf G Ws s) (g:=mf G' (Ws.set i W') s) Z λy v F=>by rw[hmf s y v,HQ (λq=>F q.2.1)];omega,hmf s _ Z]
   by_cases e:(G.tk W.tp).l7=s
   .rw[HK ⟨a,rfl,e⟩,HK ⟨a,e⟩];omega
   .rw[HQ (λq=>e q.2.2),HQ (λq=>e q.2)];omega
  .rw[HQ (λq=>a q.1),ael (g:=mf G Ws s) λy v=>by rw[hmf s y v,HQ (λq=>a q.1)];omega]
   omega
 have hbd:∀s:Int,0<=s->s<G.C.length-> -16<=liv G s/\liv G s<=32768:=λs p d=>by
  have e:=h.lv s p d;have a1:=aji (f:=mf G Ws s) (n:=G.ts.length) λx _=>aBh.1;have a2:=alo (f:=mf G Ws s) (n:=G.ts.length) λx _=>aBh.2;have a3:=aji (f:=pf G Ws s) (n:=Ws.length) λx _=>aFQ.1;have a4:=alo (f:=pf G Ws s) (n:=Ws.length) λx _=>aFQ.2;omega
 obtain⟨mC,hC⟩:=hr.Cd.C;have hnd:∀s:Int,0<=s->s<G.C.length->G'.nd s=G.nd s:=λs p d=>by
  unfold Gl.nd nZ;rw[HK p,HK p,hC,tJ af]
 have hlv:∀s:Int,0<=s->s<G.C.length->Cel G W W' (.liv s.toNat) (liv G s) (liv G' s):=λs p d=>by
  obtain⟨_,Gb⟩:=r.ty.O7 p d;unfold liv;rw[hnd s p d];exact hs.cell c Gb.b trivial
 have aHo:W.cT≠ .m .gone->W.cT≠ .m .tF->∀s:Int,0<=s->s<G.C.length->liv G' s=liv G s:=λd1 d2 s p d=>by
  have hc:=hlv s p d;generalize liv G s=A at hc;generalize liv G' s=B at hc;generalize hR:Ro.liv s.toNat=R at hc;cases hc with
  |same=>rfl
  |jq h _=>cases hR
  |put h=>cases hR
  |fin h _=>cases hR
  |ask h=>cases hR
  |enter h=>exact absurd h d2
  |leave h _=>exact absurd h d1
 have base:W.cT≠ .m .gone->W.cT≠ .m .tF->W'.cT≠ .m .tF->G'.ts.length=G.ts.length->∀s:Int,0<=s->s<G.C.length->afj (mf G' (Ws.set i W') s) G'.ts.length=liv G' s+afj (pf G' (Ws.set i W') s) (Ws.set i W').length:=λd1 d2 Q hn s p d=>by
  have e:=h.lv s p d;rw[hn,Y,X,U,V,HQ (λq=>d1 q.1),HQ (show¬(W.cT= .m .tF/\(G.tk W.jq.toNat).l7=s)from λq=>d2 q.1),HQ (λq=>Q q.1),aHo d1 d2 s p d];omega
 have I:W'.cT≠ .m .tF->∀(j:Nat) Wj,(Ws.set i W')[j]?=G_ Wj->Wj.cT= .m .tF->Wj.jq.toNat<G'.ts.length/\(G'.tk Wj.jq.toNat).l7=(G'.tk Wj.tp).kA.1:=λQ j Wj u a=>by
  by_cases e:i=j
  .subst e;rw[uO S]at u;obtain rfl:=G_.inj u;exact absurd a Q
  .rw[r0 e]at u;obtain⟨d,h2⟩:=h.aVb j Wj u a;have ct:=(r.w j Wj u).ct he;unfold cD at ct;rw[a]at ct;obtain⟨z,st,hst⟩:=kp ct.1;have hm:Wj.tp∈Wj.hold:=by unfold Wk.hold Wk.tp;rw[hst];simp
   have hjl:=(r.w j Wj u).hl _ hm;have J:Wj.tp ∉ W.hold:=λq=>e (r.dj i j W Wj _ hi u q hm);rw[D _ d,hr.Cd.tk hjl J];exact⟨Nat.lt_of_lt_of_le d hr.Cd.n,h2⟩
 have all:W.cT≠ .m .gone->W.cT≠ .m .tF->W'.cT≠ .m .tF->G'.ts.length=G.ts.length->G'.C.length=G.C.length->LvI G' (Ws.set i W'):=λd1 d2 Q hn hCn=>
  ⟨λs p d=>base d1 d2 Q hn s p af,I Q⟩
 have UT:∀{x:Nat} {t:Tk},(G.ts.set x t).length=G.ts.length:=VJ;have more:W.cT≠ .m .gone->W.cT≠ .m .tF->W'.cT≠ .m .tF->G'.ts.length=G.ts.length->G'.C.length=G.C.length+1->liv G' (G.C.length:Nat)=0->LvI G' (Ws.set i W'):=λd1 d2 Q hn hCn h00=>by
  refine⟨λs p d=>?_,I Q⟩;by_cases e:s<G.C.length
  .exact base d1 d2 Q hn s p e
  .have e:s=(G.C.length:Nat):=af;subst e;have hno:∀y,y<G.ts.length->(G'.tk y).l7≠((G.C.length:Nat):Int):=λy v q=>by
    rw[D y v]at q;have:=(r.ty.qh v).inn;omega
   have z1:afj (mf G' (Ws.set i W') ((G.C.length:Nat):Int)) G'.ts.length=0:=by
    rw[hn,ael (g:=λ_=>0) λy v=>by unfold mf;exact HQ λq=>hno y v q.1]
    have:∀n,afj (λ_=>0) n=0:=λn=>by induction n with|zero=>rfl|succ n ih=>rw[afj,ih];rfl
    exact this _
   have z2:afj (pf G' (Ws.set i W') ((G.C.length:Nat):Int)) (Ws.set i W').length=0:=by
    rw[ael (g:=λ_=>0) λj u=>by
     obtain⟨Wj,H⟩:∃Wj,(Ws.set i W')[j]?=G_ Wj:=⟨_,iH u⟩;unfold pf;rw[H];dsimp only;by_cases a:Wj.cT= .m .tF
     .exact HQ λq=>hno _ (by rw[<-hn];exact(I Q j Wj H a).1) q.2
     .exact HQ λq=>a q.1]
    have:∀n,afj (λ_=>0) n=0:=λn=>by induction n with|zero=>rfl|succ n ih=>rw[afj,ih];rfl
    exact this _
   rw[z1,z2,h00];rfl
 have hnew:∀{aVe:List Pl} {tm:Int×List (Int×Int)} {ts:List Tk} {st:Int},liv {G with M:=(G.M.tick W.id).grow 2,C:=G.C++[⟨(G.tk W.tp).kA.1,wr ((G.nd (G.tk W.tp).kA.1).nest+1),(G.M.cells.length:Nat)⟩],P:=aVe,time:=tm,ts:=ts,steps:=st} (G.C.length:Nat)=0:=fun{aVe tm ts st}=>by
  unfold liv Gl.nd nZ;dsimp only;rw[HK af,iZ,u0 (iw _)];simp only[Nat.sub_self,List.getElem?_cons_zero,jB];exact Yf (M:=G.M.tick W.id) (by show(G.M.cells.length:Int)<=_;omega)
 cases hs with
 |quiet q k o _=>exact all o.2.2.2.2 o.2.2.1 k.m.2.2.1 rfl rfl
 |fail q he k o=>exact all o.1 o.2 (by rw[k.2.2.1];exact o.2) rfl rfl
 |jq a p=>exact all (by rw[a];simp) (by rw[a];simp) bf rfl rfl
 |start a k=>exact all (by rw[a];simp) (by rw[a];simp) (by rw[k.2.2];simp) UT rfl
 |aeR ne rn lt hn q k o=>exact all o.2.2.2.2 o.2.2.1 k.m.2.2.1 UT rfl
 |ends ne hc q k o=>exact all o.2.2.2.2 o.2.2.1 k.m.2.2.1 UT rfl
 |unwind ne a e ho k hu hw=>exact all (by rw[a];simp) (by rw[a];simp) k.m.2.2.1 UT rfl
 |cancel ne a rn h13 lt=>exact all (by rw[a];simp) (by rw[a];simp) (by simp[Wk.JF]) UT rfl
 |put ne a e ho k4=>exact all (by rw[a];simp) (by rw[a];simp) (by simp[Wk.go]) rfl rfl
 |fin ne a e ho=>exact all (by rw[a];simp) (by rw[a];simp) (by simp[Wk.go]) rfl rfl
 |asks ne a=>exact all (by rw[a];simp) (by rw[a];simp) bf rfl rfl
 |gL ne a rn h12 lt=>exact all (by rw[a];simp) (by rw[a];simp) (by simp[Wk.go]) UT rfl
 |fork ne a rn h8 rm=>exact more (by rw[a];simp) (by rw[a];simp) bf rfl bf hnew
 |opens ne a rn h11 lt rm n32=>exact more (by rw[a];simp) (by rw[a];simp) (by simp[Wk.go]) UT (by simp[aok]) hnew
 |xo ne a rn h8 lt rm=>
  have Z:=T ne;obtain⟨hl,e1,e2⟩:=agB (P:=P) Z;have hng:¬W.cT= .m .gone:=by rw[a];simp
  have hnf:¬W.cT= .m .tF:=by rw[a];simp
  have kM:(aFY P G W).K G.ts.length=0:=by
   unfold Gl.K;rw[e2];exact Yf (M:=G.M.tick W.id) (mG _)
  have Dy:((aFY P G W).tk W.tp).kA=(G.tk W.tp).kA:=by rw[e1 _ Z,HK rfl];rfl
  have pM:((aFY P G W).tk (((G.ts.length:Nat):Int).toNat)).l7=(G.tk W.tp).kA.1:=by rw[iZ,e2];rfl
  refine⟨λs p d=>?_,λj Wj u hdj=>?_⟩
  .have d:s<G.C.length:=d;have e:=h.lv s p d;have hmn:mf (aFY P G W) (Ws.set i {W with jq:=(G.ts.length:Nat),cT:= .m .tF}) s G.ts.length=if (G.tk W.tp).kA.1=s then 1 else 0:=by
    unfold mf;have:((aFY P G W).tk G.ts.length).l7=(G.tk W.tp).kA.1:=by rw[e2];rfl
    rw[this];by_cases q:(G.tk W.tp).kA.1=s
    .rw[HK ⟨q,λz=>by have:=z.1;omega⟩,HK q]
    .rw[HQ (λz=>q z.1),HQ q]
   have p0:=U s;rw[HQ (λq=>hnf q.1)]at p0;have p1:=V s;dsimp only at p1;rw[pM]at p1;have a1:=Y s;rw[HQ (λq=>hng q.1)]at a1;have a2:=X s;rw[p0,p1]at a2;rw[hl,afj,hmn,a1,a2,aHo hng hnf s p d];by_cases q:(G.tk W.tp).kA.1=s
   .rw[HK q,HK ⟨rfl,q⟩];omega
   .rw[HQ q,HQ (λz=>q z.2)];omega
  .by_cases aVf:i=j
   .subst aVf;rw[uO S]at u;obtain rfl:=G_.inj u;dsimp only;refine⟨by rw[iZ];omega,?_⟩
    rw[pM];show _=((aFY P G W).tk W.tp).kA.1;rw[Dy]
   .rw[r0 aVf]at u;obtain⟨z1,z2⟩:=h.aVb j Wj u hdj;have ct:=(r.w j Wj u).ct he;unfold cD at ct;rw[hdj]at ct;obtain⟨z,st,hst⟩:=kp ct.1;have hm:Wj.tp∈Wj.hold:=by unfold Wk.hold Wk.tp;rw[hst];simp
    have hjl:=(r.w j Wj u).hl _ hm;have J:Wj.tp ∉ W.hold:=λq=>aVf (r.dj i j W Wj _ hi u q hm);rw[D _ z1,hr.Cd.tk hjl J];exact⟨af,z2⟩
 |tF ne a rn=>
  have Z:=T ne;have hng:¬W.cT= .m .gone:=by rw[a];simp
  have L:=c.kA Z rn.cJ;obtain⟨_,Gb⟩:=r.ty.O7 L.1 L.2;have pM:=(h.aVb i W hi a).2;refine⟨λs p d=>?_,I (by simp[Wk.A6])⟩
  have d:s<G.C.length:=d;have e:=h.lv s p d;have hb:=hbd s p d;obtain⟨_,N⟩:=r.ty.O7 p d;have O:=Gb.b.lt;rw[r.ty.len]at O;have e3:liv (G.mem (G.M.ad W.id ((G.nd (G.tk W.tp).kA.1).at_+1) 1)) s=if (G.tk W.tp).kA.1=s then liv G s+1 else liv G s:=by
   show(G.M.ad W.id ((G.nd (G.tk W.tp).kA.1).at_+1) 1).get ((G.nd s).at_+1)=_;rw[ay3 Gb.b.1 O N.b.1];by_cases q:(G.tk W.tp).kA.1=s
   .rw[q,HK rfl,HK rfl];show wr (liv G s+1)=_;exact dh ⟨af,af⟩
   .rw[HQ q,HQ (N.b.ne Gb.b (by intro z;have:=Ro.liv.inj z;omega))]
    rfl
  show afj (mf _ _ s) G.ts.length=_;have p0:=U s;rw[pM]at p0;have p1:=V s;rw[HQ (λq=>by have:=q.1;simp[Wk.A6]at this)]at p1
  have a1:=Y s;rw[HQ (λq=>hng q.1)]at a1;have a2:=X s;rw[p0,p1]at a2;rw[a1,a2,e3];by_cases q:(G.tk W.tp).kA.1=s
  .rw[HK q,HK ⟨a,q⟩];omega
  .rw[HQ q,HQ (λz=>q z.2)];omega
 |gone ne a e ho k hw=>
  have Z:=T ne;have hnf:¬W.cT= .m .tF:=by rw[a];simp
  have L:=(r.ty.qh Z).inn;obtain⟨_,Gb⟩:=r.ty.O7 L.1 L.2;refine⟨λs p d=>?_,I k.2.2.2.2.1⟩;have d:s<G.C.length:=d;have e:=h.lv s p d;have hb:=hbd s p d;obtain⟨_,N⟩:=r.ty.O7 p d;have O:=Gb.b.lt;rw[r.ty.len]at O;have e3:liv (G.mem (G.M.ad W.id ((G.nd (G.tk W.tp).l7).at_+1) (-1))) s=if (G.tk W.tp).l7=s then liv G s - 1 else liv G s:=by
   show(G.M.ad W.id ((G.nd (G.tk W.tp).l7).at_+1) (-1)).get ((G.nd s).at_+1)=_;rw[ay3 Gb.b.1 O N.b.1];by_cases q:(G.tk W.tp).l7=s
   .rw[q,HK rfl,HK rfl];show wr (liv G s+ -1)=_;exact dh ⟨af,af⟩
   .rw[HQ q,HQ (N.b.ne Gb.b (by intro z;have:=Ro.liv.inj z;omega))]
    rfl
  show afj (mf _ _ s) G.ts.length=_;have p0:=U s;rw[HQ (λq=>hnf q.1)]at p0;have p1:=V s;rw[HQ (λq=>k.2.2.2.2.1 q.1)]at p1;have a2:=X s;rw[p0,p1]at a2;rw[Y,a2,e3];by_cases q:(G.tk W.tp).l7=s
  .rw[HK q,HK ⟨a,q⟩];omega
  .rw[HQ q,HQ (λz=>q z.2)];omega
def aqi:¬(y5 l G W).2.emp:=by
 unfold y5;dsimp only;split
 .exact aoq (m:= .rest) rfl e7 e7
 split
 .exact aoq (m:= .xn) rfl e7 e7
 .exact aoq (m:= .So) rfl e7 e7
def aki(h:rC P G W)(a:W1.cT=W.again):¬W1.emp:=by
 obtain⟨y,e,_⟩|⟨k,e,_⟩:=h.cases
 iterate 2 rintro(⟨q,_⟩|q)<;>rw[a,e]at q<;>cases q
def akV(h:rC P G W):¬(nothing G W).2.emp:=by
 unfold nothing;dsimp only;split
 .exact aki h rfl
 split
 .exact aoq (m:= .register) rfl e7 e7
 split
 .exact aoq (m:= .Io) rfl e7 e7
 .exact aoq (m:= .block) rfl e7 e7
def ama(b:Dx l P G W):¬(KR l G W t bw).2.emp:=by
 unfold KR;split
 .unfold alM;rcases b.what with⟨_,_,_,a⟩|⟨c,_,_,a⟩
  .rw[HK a];exact aqi
  .rw[HQ (by rw[a];simp)];exact akV c
 .exact aoq (m:= .pF) rfl e7 e7
def akW{y:Int}(a:k= .BR y W.again\/∃y,k= .V2 y W.again\/k= .c .IF\/k= .m .cancelled)(b:W1.cT= .m .stops)(h2:W1.pG=k):¬W1.emp:=by
 rintro(⟨_,q⟩|q)
 .rw[h2]at q;rcases a with rfl|⟨y,rfl|rfl|rfl⟩<;>simp at q
 .rw[b]at q;cases q
def akX:¬(dK G W t).2.emp:=by
 unfold dK;split
 .exact aoq (m:= .others) rfl e7 e7
 .exact aoq (m:= .rp) rfl e7 e7
def atr(a:¬W.emp)(b:(dY t.f bw).2=K_->8<=bw.getD 0 0/\bw.getD 0 0<=16):¬(afr l G W x t bw).2.emp:=by
 unfold afr;split
 .exact a
 split
 .exact aoq (m:= .next) rfl e7 e7
 .have e:∀z:Nat,([.fork,.join,.join,.cJ,.close,.cancel,.pass,.leave,.leave]:List Mt).getD z .pass≠ .stops/\([.fork,.join,.join,.cJ,.close,.cancel,.pass,.leave,.leave]:List Mt).getD z .pass≠ .gL:=λz=>by
   match z with
   |0|1|2|3|4|5|6|7|8=>simp
   |z+9=>simp
  exact aoq (m:=adl (bw.getD 0 0)) rfl (e _).1 (e _).2
def aHb(c:Cx l P bw ro G i W)(f:W.cT= .m .pF)(g:W.op=G_ O):¬(pF l G W O (G.tk W.tp) bw G.vJ).2.emp:=by
 have ct:=c.ct;unfold cD at ct;rw[f]at ct;dsimp only at ct;obtain⟨O',b,ct⟩:=ct;rw[g]at b;cases b;unfold pF;dsimp only;generalize O.step G.M W.id=r;split
 .exact aoq (m:= .pF) f e7 e7
 split
 .exact aoq (m:= .pF) f e7 e7
 have j:rC P G W->rC P (G.mem r.2) {W with op:=G_ r.1}:=λq=>⟨q.ne,q.hm,q.tg⟩
 have d:Dx l P G W->Dx l P (G.mem r.2) {W with op:=G_ r.1}:=λq=>⟨q.how,q.left,q.what.imp id λz=>⟨j z.1,z.2⟩⟩
 split at ct
 .rename_i a;have e:zj l (G.mem r.2) {W with op:=G_ r.1} (G.tk W.tp) bw G.vJ r.1.how=F9 (G.mem r.2) {W with op:=G_ r.1} r.1.how:=by unfold zj;dsimp only;rw[a]
  rw[e];unfold F9;dsimp only;split
  .exact aoq (m:= .tE) rfl e7 e7
  .exact aoq (m:= .others) rfl e7 e7
 .rename_i a;have e:zj l (G.mem r.2) {W with op:=G_ r.1} (G.tk W.tp) bw G.vJ r.1.how=um (G.mem r.2) {W with op:=G_ r.1} r.1.how:=by unfold zj;dsimp only;rw[a]
  rw[e];unfold um;dsimp only;split
  .exact aoq (m:= .tE) rfl e7 e7
  .exact aoq (m:= .tell) rfl e7 e7
 .rename_i a;have e:zj l (G.mem r.2) {W with op:=G_ r.1} (G.tk W.tp) bw G.vJ r.1.how=td (G.mem r.2) {W with op:=G_ r.1} (G.tk W.tp) r.1.how:=by unfold zj;dsimp only;rw[a]
  rw[e];unfold td;split
  .exact akX
  .exact akW (W:={W with op:=G_ r.1}) (y:=got {W with op:=G_ r.1}) (D_ rfl) rfl rfl
 .rename_i a;have e:zj l (G.mem r.2) {W with op:=G_ r.1} (G.tk W.tp) bw G.vJ r.1.how=Uv l (G.mem r.2) {W with op:=G_ r.1} (G.tk W.tp) bw G.vJ r.1.how:=by unfold zj;dsimp only;rw[a]
  rw[e];unfold Uv;split
  .exact ama (d ct.1)
  .exact aoq (m:= .pF) f e7 e7
 .rename_i a;have e:zj l (G.mem r.2) {W with op:=G_ r.1} (G.tk W.tp) bw G.vJ r.1.how=AL l (G.mem r.2) {W with op:=G_ r.1} (G.tk W.tp) bw r.1.how:=by unfold zj;dsimp only;rw[a]
  rw[e];unfold AL;split
  .unfold auJ;split
   .exact akW (W:={W with op:=G_ r.1}) (y:=got {W with op:=G_ r.1}) (D_ rfl) rfl rfl
   .exact aoq (m:= .tE) rfl e7 e7
  .have h:=d ct.1;exact ama (W:={W with op:=G_ r.1,late:=J_}) ⟨h.how,h.left,h.what.imp id λz=>⟨⟨z.1.ne,z.1.hm,z.1.tg⟩,z.2⟩⟩
 .exact ct.elim
def aiZ:¬(Gi l G W t y).2.emp:=aoq (m:= .looking) rfl e7 e7
def awO{k:Lk}(c:Cx l P bw ro G i W)(d:W.cT= .m .looking)(e:W.look=G_ k):¬(looking l G W k (G.nd k.at_) W.tp (G.tk W.tp)).2.emp:=by
 have ct:=c.ct;unfold cD at ct;rw[d]at ct;dsimp only at ct;obtain⟨k',a,_,_,_,f,b⟩:=ct;rw[e]at a;cases a;unfold looking;dsimp only;split
 .unfold Sy;dsimp only;split at b
  .rename_i hs;rw[hs];dsimp only;unfold adm;rw[b.2];split
   .exact apd
   .exact atr (aoq (m:= .looking) d e7 e7) (b.1.fi.aCf c.acc).2
  .rename_i hs;rw[hs];dsimp only;unfold th;dsimp only;split
   .exact akW (W:=W) (y:=0) (E_ ⟨0,E_ (E_ rfl)⟩) rfl rfl
   .exact aoq (m:= .asked) rfl e7 e7
  .rename_i hs;rw[hs];dsimp only;unfold xp;split
   .exact apd
   .exact aoq (m:= .next) rfl e7 e7
  .exact b.elim
 .exact aoq (m:= .looking) d e7 e7
def aFU(c:Cx l P bw ro G i W)(h:(ZB l P G W bw).2.emp):W.emp\/(W.cT= .m .sx/\W.stack≠ []/\liv G (G.tk W.tp).kA.1=0):=by
 by_cases b:W.emp
 .exact D_ b
 refine E_ ?_;have ct:=c.ct;unfold ZB at h;dsimp only at h;have no:∀{p:Prop} {W':Wk} {m:Mt},W'.emp->W'.cT= .m m->m≠ .stops->m≠ .gL->p:=λh e u h2=>absurd h (aoq e u h2);cases a:W.cT with
 |m f=>
  unfold cD at ct;rw[a]at ct h;cases f with
  |rest=>exact no h rfl e7 e7
  |pF=>
   dsimp only at ct h;obtain⟨O,hO,_⟩:=ct;rw[hO]at h;exact absurd h (aHb c a hO)
  |looking=>
   dsimp only at ct h;obtain⟨k,t,_⟩:=ct;rw[t]at h;exact absurd h (awO c a t)
  |tell=>exact absurd h (aEm (G:=G) (P:=P) ct rfl)
  |others=>
   dsimp only at ct h;refine absurd h ?_;unfold others KR;split
   .unfold alM;rcases ct.what with⟨_,_,_,j⟩|⟨n,_,_,j⟩
    .rw[HK (show W.none_=_ from j)];exact aqi
    .rw[HQ (by show¬W.none_=_;rw[show W.none_=_ from j];simp)]
     exact akV (P:=P) (G:={G.tick W.id with D:=G.D.tail}) (W:={W with left:=VU (G.D.headD 0) (xI W.id (l.sp.bits G.M) (G.M.get l.idle) l.wa.length)}) ⟨n.ne,n.hm,n.tg⟩
   .exact aoq (m:= .pF) rfl e7 e7
  |xn=>
   dsimp only at ct h;obtain⟨_,_,o,r,_⟩:=ct;rw[r]at h;refine absurd h ?_;unfold xn;dsimp only;split
   .rintro(⟨q,_⟩|q)<;>dsimp only at q<;>split at q<;>cases q
   .exact aoq (m:= .xn) a e7 e7
  |So=>exact no h rfl e7 e7
  |JA=>exact no h rfl e7 e7
  |tE=>
   dsimp only at ct h;refine absurd h ?_;unfold tE;dsimp only;split
   .exact aoq (m:= .start) rfl e7 e7
   .exact aEm (G:=G) (P:=P) ct.2 rfl
  |start=>
   dsimp only at h;unfold OF at h;split at h
   .exact no h a e7 e7
   .exact no h rfl e7 e7
  |next=>
   dsimp only at ct h;unfold V7 at h;split at h
   .exact no h rfl e7 e7
   .exact absurd h (atr (aoq (m:= .next) a e7 e7) (ct.2.fi.aCf c.acc).2)
  |fork=>
   dsimp only at h;unfold fork at h;split at h
   .exact no h a e7 e7
   split at h
   .exact no h a e7 e7
   .exact no h rfl e7 e7
  |xo=>
   dsimp only at h;unfold KQ at h;dsimp only at h;split at h
   .exact no h a e7 e7
   split at h
   .exact no h a e7 e7
   .exact no h rfl e7 e7
  |tF=>exact no h rfl e7 e7
  |join=>exact absurd h aiZ
  |cJ=>exact no h rfl e7 e7
  |opens=>
   dsimp only at h;unfold Go.Proofs.YthidhjhkmjjckaaGreatDoor.opens at h;dsimp only at h;split at h
   .exact no h a e7 e7
   split at h
   .exact no h a e7 e7
   split at h
   .exact no h a e7 e7
   .exact no h rfl e7 e7
  |close=>exact no h (m:= .ul) rfl e7 e7
  |gL=>exact absurd (E_ a) b
  |cancel=>
   dsimp only at h;unfold Go.Proofs.YthidhjhkmjjckaaGreatDoor.cancel at h;split at h
   .exact no h a e7 e7
   .exact no h rfl e7 e7
  |pass=>
   dsimp only at h;unfold pass at h;split at h
   .exact no h a e7 e7
   .exact no h rfl e7 e7
  |leave=>
   dsimp only at h;unfold leave at h;dsimp only at h;split at h
   .exact no h a e7 e7
   .exact absurd h apd
  |put=>exact no h rfl e7 e7
  |fin=>exact no h rfl e7 e7
  |asks=>exact no h rfl e7 e7
  |gone=>
   dsimp only at ct h;refine absurd h ?_;unfold Go.Proofs.YthidhjhkmjjckaaGreatDoor.gone;dsimp only;obtain⟨z,st,s⟩:=kp ct.1;have hb:=c.wt.bk;rw[s]at hb;cases hbk:W.back with
   |nil=>rw[hbk]at hb;exact hb.elim
   |cons kb bs=>
    rw[hbk]at hb;split
    .exact aoq (m:= .tell) rfl e7 e7
    .exact aEm (G:=G) (P:=P) hb.2.1 rfl
  |asked=>
   dsimp only at ct h;refine absurd h ?_;unfold asked;dsimp only;split
   .exact akW (W:=W) (y:=0) (E_ ⟨_,D_ rfl⟩) rfl rfl
   split
   .exact aoq (m:= .ul) rfl e7 e7
   .exact akW (W:=W) (y:=0) (E_ ⟨0,E_ (D_ rfl)⟩) rfl rfl
  |joined=>
   dsimp only at h;unfold joined at h;dsimp only at h;split at h
   .exact no h a e7 e7
   split at h;all_goals
    split at h
    .exact absurd h apd
    .exact no h rfl e7 e7
  |ul=>
   dsimp only at h;unfold ul at h;dsimp only at h;split at h
   .exact absurd h akX
   .exact no h rfl e7 e7
  |rp=>exact no h rfl e7 e7
  |sx=>
   dsimp only at ct h;unfold sx at h;split at h
   .rename_i v;exact⟨rfl,ct.1.ne,v⟩
   .exact no h (m:= .others) rfl e7 e7
  |register=>exact absurd h (aki ct.1 rfl)
  |block=>
   dsimp only at ct h;obtain⟨x,o,r,_⟩:=ct;rw[r]at h;refine absurd h ?_;unfold block;dsimp only;split
   .exact aki x rfl
   .exact aoq (m:= .block) a e7 e7
  |Io=>
   dsimp only at ct h;refine absurd h ?_;unfold Io again;obtain⟨y,e,_⟩|⟨k,e,_⟩:=rC.cases ct
   .dsimp only;rw[e];exact aiZ
   .dsimp only;rw[e];exact aoq (m:= .ul) rfl e7 e7
  |stops=>
   dsimp only at ct h;refine absurd h ?_;unfold stops;split
   .dsimp only;split
    iterate 2 exact λq=>b (by rcases q with⟨d,g⟩|q;exact D_ ⟨d,g⟩;exact E_ q)
   split
   .exact λq=>b (by rcases q with⟨d,g⟩|q;exact D_ ⟨d,g⟩;exact E_ q)
   have a3:=ct.2.2;unfold pG;split at a3
   .rename_i e;rw[e];exact apd
   iterate 2 rename_i y k e;rw[e];exact aoq (m:= .tE) rfl e7 e7
   .rename_i e;rw[e];exact aoq (m:= .joined) rfl e7 e7
   .rename_i e;exact absurd (D_ ⟨a,D_ e⟩) b
   .rename_i e;exact absurd (D_ ⟨a,E_ e⟩) b
   .exact a3.elim
  |cancelled=>exact ct.elim
  |vQ=>exact ct.elim
  |BQ=>exact ct.elim
  |y5=>exact ct.elim
  |nothing=>exact ct.elim
  |Uv=>exact ct.elim
  |AL=>exact ct.elim
 |aw y=>rw[a]at h;exact absurd h aiZ
 |sh k=>rw[a]at h;exact no h (m:= .ul) rfl e7 e7
 |_=>rw[a]at h;exact absurd h b
def Bgn(G:Gl)(Ws:List Wk)(x:Nat):Prop:=2<=G.K x\/∃(i:Nat) (W:Wk),Ws[i]?=G_ W/\x∈W.stack
structure ClI (G:Gl) (Ws:List Wk):Prop where
 op2:∀x,x<G.ts.length->∀p∈(G.tk x).cJ,p.1∈(G.tk x).scopes/\ZE G p.1=K_
 nd:∀x,x<G.ts.length->((G.tk x).cJ.map λp=>p.1).Nodup
 op1:∀x,x<G.ts.length->Bgn G Ws x->∀s∈(G.tk x).scopes,ZE G s=J_\/s∈(G.tk x).cJ.map λp=>p.1
 nb:∀x,x<G.ts.length->¬Bgn G Ws x->(G.tk x).scopes=[(G.tk x).own]/\ZE G (G.tk x).own=K_/\(G.tk x).cJ=[]
 k2:∀x,x<G.ts.length->2<=G.K x->(G.tk x).cJ=[]
 cl:∀x,x<G.ts.length->ZE G (G.tk x).l7=J_->Lft G Ws x
 em:∀(i:Nat) W,Ws[i]?=G_ W->W.emp->W.stack≠ []/\(G.tk W.tp).cJ≠ []/\∀x,x<G.ts.length->(G.tk x).l7=(G.tk W.tp).kA.1->Lft G Ws x
 hi:∀(s:Nat) p,G.P[s]?=G_ p->p.1= -2->p.2.2.2=K_
def aU4.one(h:aU4 G)(e:x<G.ts.length)(f:y<G.ts.length)(g:s∈(G.tk x).scopes)(h2:s∈(G.tk y).scopes):x=y:=by
 have key:∀{z:Nat},z<G.ts.length->s∈(G.tk z).scopes->∃p,(G.P.map plq)[s.toNat]?=G_ p/\p.1=z:=fun{z} hz hm=>by
  obtain⟨k,i⟩:=n6 hm;obtain⟨_,p,a,b,_⟩:=h.own z _ (by rw[l8,G.xw hz];rfl) k s i
  exact⟨p,a,b⟩
 obtain⟨p,a,b⟩:=key e g;obtain⟨q,c,d⟩:=key f h2;rw[a]at c;obtain rfl:=G_.inj c;omega
def aU4.at_(h:aU4 G)(d:x<G.ts.length)(e:s∈(G.tk x).scopes):0<=s/\s<G.P.length/\(O9 G s).1=x:=by
 obtain⟨k,f⟩:=n6 e;obtain⟨g,p,a,b,_⟩:=h.own x _ (by rw[l8,G.xw d];rfl) k s f
 have c:=(kB.1 a).1;rw[U']at c;refine⟨g,af,?_⟩;rw[l8,iH c]at a;have a:=G_.inj a;unfold O9;rw[m0,iH c];show(G.P[s.toNat]'c).1=x;rw[<-b,<-a];rfl
variable{Q:List Pl}
def arN(hi:0<=v)(hs:0<=s)(b:v<Q.length):(match (Cq Q v)[s.toNat]? with|some p=>p.2.2.2|none=>K_)=(L_ (s=v)||(match Q[s.toNat]? with|some p=>p.2.2.2|none=>K_)):=by
 obtain⟨p,a⟩:∃p,Q[v.toNat]?=G_ p:=⟨_,iH af⟩;unfold Cq;rw[a];dsimp only;by_cases e:s=v
 .subst e;rw[uO af,decide_eq_true rfl];rfl
 .rw[r0 af,decide_eq_false e];rfl
variable{j:Nat}
def ak2(b:i<Ws.length):(∃(j:Nat) (Wj:Wk),(Ws.set i W')[j]?=G_ Wj/\x∈Wj.stack)↔(x∈W'.stack\/∃(j:Nat) (Wj:Wk),j≠i/\Ws[j]?=G_ Wj/\x∈Wj.stack):=by
 constructor
 .rintro⟨j,Wj,a,c⟩;by_cases e:i=j
  .subst e;rw[uO b]at a;obtain rfl:=G_.inj a;exact D_ c
  .rw[r0 e]at a;exact E_ ⟨j,Wj,Ne.symm e,a,c⟩
 .rintro(h|⟨j,Wj,e,a,c⟩)
  .exact⟨i,W',uO b,h⟩
  .exact⟨j,Wj,by rw[r0 (Ne.symm e)];exact a,c⟩
def awP(hi:Ws[i]?=G_ W):(∃(j:Nat) (Wj:Wk),Ws[j]?=G_ Wj/\x∈Wj.stack)↔(x∈W.stack\/∃(j:Nat) (Wj:Wk),j≠i/\Ws[j]?=G_ Wj/\x∈Wj.stack):=by
 constructor
 .rintro⟨j,Wj,a,b⟩;by_cases e:j=i
  .subst e;rw[hi]at a;obtain rfl:=G_.inj a;exact D_ b
  .exact E_ ⟨j,Wj,e,a,b⟩
 .rintro(h|⟨j,Wj,e,a,b⟩)
  .exact⟨i,W,hi,h⟩
  .exact⟨j,Wj,a,b⟩
def aDv(D:HdI l G Ws)(F:IV l P bw ro G Ws)(hi:Ws[i]?=G_ W)(A:G.err=0)(hr:rV l P bw ro iT G i W (G',W'))(hs:Stp l P ro G W G' W')(B:x<G.ts.length):
  Bgn G' (Ws.set i W') x↔Bgn G Ws x\/(W.cT= .m .start/\W'.cT≠ .m .start/\x=W.jq.toNat):=by
 have c:=F.cx hi A;have f:=(kB.1 hi).1;have r:=hs.K c (hr.Cd.ids x B).2.2 B;have t:W.stack≠ []->W.tp∈W.stack:=λq=>by
  obtain⟨z,st,e⟩:=kp q;unfold Wk.tp;rw[e];simp
 have main:W'.stack=W.stack->(W.cT≠ .m .start\/W'.cT= .m .start)->(Bgn G' (Ws.set i W') x↔Bgn G Ws x\/(W.cT= .m .start/\W'.cT≠ .m .start/\x=W.jq.toNat)):=λe a=>by
  have no:¬(W.cT= .m .start/\W'.cT≠ .m .start/\x=W.jq.toNat):=λq=>a.elim (λz=>z q.1) λz=>q.2.1 z;unfold Bgn;rw[ak2 f,awP hi,e];rcases r with q|⟨n,b,_⟩|⟨n,b,g,H,I⟩
  .rw[q];exact⟨D_,λh=>h.elim id λz=>absurd z no⟩
  .exact⟨λh=>D_ (h.elim (λz=>by omega) E_),λh=>h.elim (λz=>z.elim (λz=>by omega) E_) λz=>absurd z no⟩
  .have u:W.stack≠ []:=by
    have ct:=c.ct;unfold cD at ct;rw[b]at ct;exact ct.1
   have d:=t u;rw[<-g]at d;exact⟨λ_=>D_ (E_ (D_ d)),λ_=>E_ (D_ d)⟩
 cases hs with
 |quiet q k o _=>exact main k.s (D_ o.1)
 |fail q A k o=>
  by_cases a:W.cT= .m .start
  .exact main k.1 (E_ (by rw[k.2.2.1];exact a))
  .exact main k.1 (D_ a)
 |jq a h0=>exact main rfl (D_ (by rw[a];simp))
 |start a k=>
  unfold Bgn;rw[ak2 f,awP hi,k.1,k.2.2];have M:∀{p:Prop},G.K W.jq.toNat≠1->p:=λq=>by
   have d:W.jq.toNat∈W.hold:=by unfold Wk.hold;simp[a]
   rcases c.wt.run _ d with z|⟨_,_,z⟩
   .exact absurd z q
   .rw[a]at z;rcases z with z|z<;>cases z
  rcases r with q|⟨n,b,g⟩|⟨_,b,_⟩
  .rw[q];constructor
   .rintro(z|z|z)
    .exact D_ (D_ z)
    .rcases BP.1 z with z|z
     .exact E_ ⟨a,bf,z⟩
     .exact D_ (E_ (D_ z))
    .exact D_ (E_ (E_ z))
   .rintro((z|z|z)|⟨_,_,z⟩)
    .exact D_ z
    .exact E_ (D_ (by simp[z]))
    .exact E_ (E_ z)
    .exact E_ (D_ (by simp[z]))
  .exfalso;rw[kL (by rw[k.2.2];simp),k.1]at g
   have d:x∈W.hold:=by
    unfold Wk.hold;rw[HK a];simpa using g
   have:=c.wt.run x d;omega
  .rw[a]at b;simp at b
 |aeR ne rn lt hn q k o=>exact main k.s (D_ o.1)
 |ends ne hc q k o=>exact main k.s (D_ o.1)
 |unwind ne a e ho k hu hw=>exact main k.s (D_ (by rw[a];simp))
 |gone ne a e ho k hw=>
  have h2:=D.g2 i W hi (E_ a);unfold Bgn;rw[ak2 f,awP hi,k.1];obtain⟨z,st,j⟩:=kp ne;have v:W.tp=z:=by unfold Wk.tp;rw[j];rfl
  have no:¬(W.cT= .m .start/\W'.cT≠ .m .start/\x=W.jq.toNat):=λq=>by have:=q.1;rw[a]at this;simp at this
  have y:G.K x<=1->x∈W.stack->x∈W.stack.tail:=λn b=>by
   rw[j]at b ⊢;rcases BP.1 b with q|q
   .rw[v,<-q]at h2;omega
   .exact q
  rcases r with q|⟨n,b,g⟩|⟨_,b,_⟩
  .rw[q];refine⟨λh=>D_ (h.elim D_ λh=>E_ (h.elim (λh=>D_ (o4 h)) E_)),λh=>h.elim (λh=>?_) λh=>absurd h no⟩;by_cases C:2<=G.K x
   .exact D_ C
   .exact h.elim (λh=>absurd h C) λh=>E_ (h.elim (λh=>D_ (y af h)) E_)
  .exfalso;rw[kL k.2.2.1,k.1]at g;have d:x∈W.hold:=by
    rw[kL (by rw[a];simp)]
    exact o4 g
   have:=c.wt.run x d;omega
  .rw[a]at b;simp at b
 |fork ne a rn h8 rm=>exact main rfl (D_ (by rw[a];simp))
 |xo ne a rn h8 lt rm=>exact main rfl (D_ (by rw[a];simp))
 |tF ne a rn=>exact main rfl (D_ (by rw[a];simp))
 |opens ne a rn h11 lt rm J=>exact main rfl (D_ (by rw[a];simp))
 |gL ne a rn h12 lt=>exact main rfl (D_ (by rw[a];simp))
 |cancel ne a rn L lt=>exact main rfl (D_ (by rw[a];simp))
 |put ne a e ho k4=>exact main rfl (D_ (by rw[a];simp))
 |fin ne a e ho=>exact main rfl (D_ (by rw[a];simp))
 |asks ne a=>exact main rfl (D_ (by rw[a];simp))
def aBj{f:Nat->Int}:∀{n:Nat},(∀x,x<n->0<=f x)->afj f n=0->∀x,x<n->f x=0:=fun{n} h h0 x hx=>by
 have:=ap0 h hx;have:=h x hx;omega
def rC.cJ(h:rC P G W)(b:SF W.again=J_):(G.tk W.tp).cJ≠ []:=by
 obtain⟨y,e,_⟩|⟨k,e,_,_,a⟩:=h.cases
 .rw[e]at b;cases b
 .unfold rq at a;split at a
  iterate 2 rename_i q;cases q
  .exact a.1.cJ
  .exact a.2
  .exact a.elim
def ClI.none(h:ClI G Ws)(B:LvI G Ws)(I:SKI G Ws)(s:IV l P bw ro G Ws)(hi:Ws[i]?=G_ W)(C:G.err=0)(D:W.cT= .m .sx)(J:liv G (G.tk W.tp).kA.1=0):∀x,x<G.ts.length->(G.tk x).l7=(G.tk W.tp).kA.1->Lft G Ws x:=by
 intro x K t;have c:=s.cx hi C;have ct:=c.ct;unfold cD at ct;rw[D]at ct;have f:=ct.1.ne;have d:=(c.top f).2;have F:=ct.1.cJ ct.2.1;have L:=avY F;have u:=(h.op2 _ d _ L).1;have k:=c.kA d F;have v:=B.lv _ k.1 k.2;rw[J]at v;have o:∀{W:Wk},W.stack≠ []->W.tp∈W.hold:=fun{W} q=>by
  obtain⟨z,st,e⟩:=kp q;unfold Wk.hold Wk.tp;rw[e];simp
 have M:afj (pf G Ws (G.tk W.tp).kA.1) Ws.length=0:=by
  rw[ael (g:=λ_=>0) λj N=>by
   obtain⟨Wj,a⟩:∃Wj,Ws[j]?=G_ Wj:=⟨_,iH N⟩;unfold pf;rw[a];dsimp only;refine HQ λq=>?_;have O:=B.aVb j Wj a q.1;have p:=s.cx a C;have b:=p.ct;unfold cD at b;rw[q.1]at b;have r:=(p.top b.1).2;have H:=(h.op2 _ r _ (avY b.2.1.cJ)).1;rw[<-O.2,q.2]at H;have e:Wj.tp=W.tp:=I.sk.one r d H u;have e2:=s.dj j i Wj W W.tp a hi (by rw[<-e];exact o b.1) (o f)
   subst e2;rw[hi]at a;obtain rfl:=G_.inj a;rw[D]at q;simp at q]
  have:∀n,afj (λ_=>0) n=0:=λn=>by induction n with|zero=>rfl|succ n ih=>rw[afj,ih];rfl
  exact this _
 rw[M]at v;have A:=aBj (λy _=>aBh.1) (v.trans (Int.zero_add 0)) x K;unfold mf at A;refine Classical.byContradiction λq=>?_;rw[HK ⟨t,q⟩]at A;cases A
def ayX{p:Pl}(a:p.2.2.2=K_)(n:Nat):(match (Q++[p])[n]? with|some p=>p.2.2.2|none=>K_)=(match Q[n]? with|some p=>p.2.2.2|none=>K_):=by
 by_cases h:n<Q.length
 .rw[tJ h]
 .rw[u0 af,s_ (by omega:Q.length<=n)]
  cases e:n - Q.length with
  |zero=>simp[a]
  |succ k=>simp
def aFW{p:Pl}(a:p.2.2.2=K_)(hq:∀q,Q[i]?=G_ q->q.2.2.2=K_)(n:Nat):(match (Q.set i p)[n]? with|some p=>p.2.2.2|none=>K_)=(match Q[n]? with|some p=>p.2.2.2|none=>K_):=by
 by_cases h:i=n
 .subst h;cases e:Q[i]? with
  |none=>rw[s_ (by rw[VJ];exact List.getElem?_eq_none_iff.1 e)]
  |some q=>
   rw[uO (kB.1 e).1];show p.2.2.2=q.2.2.2;rw[a,hq q e]
 .rw[r0 h]
def aBm(b:t.cJ≠ []):t.cJ=t.cJ.dropLast++[t.kA]:=by
 obtain⟨q,a,e⟩:∃q a,t.cJ=q++[a]:=⟨_,_,(List.dropLast_concat_getLast b).symm⟩;unfold Tk.kA;rw[e];simp
def ClI.step(h:ClI G Ws)(hL:LvI G Ws)(V:SKI G Ws)(hH:HdI l G Ws)(hI:IV l P bw ro G Ws)(hi:Ws[i]?=G_ W)(he:G.err=0)(hr:rV l P bw ro iT G i W (G',W'))(hs:Stp l P ro G W G' W')
  (hem:W'.emp->W.emp\/(W.cT= .m .sx/\W.stack≠ []/\liv G (G.tk W.tp).kA.1=0)):ClI G' (Ws.set i W'):=by
 have c:=hI.cx hi he;have X:=(kB.1 hi).1;have R:W.stack≠ []->W.tp<G.ts.length:=λq=>(c.top q).2;have Y:∀{W:Wk},W.stack≠ []->W.tp∈W.stack:=fun{W} q=>by
  obtain⟨z,st,e⟩:=kp q;unfold Wk.tp;rw[e];simp
 have S:∀{W:Wk} {z:Nat},z∈W.stack->z∈W.hold:=fun{W z} q=>by unfold Wk.hold;simp[q]
 have Z:∀y,y<G.ts.length->(G'.tk y).l7=(G.tk y).l7:=λy H=>(hr.Cd.ids y H).1;have hown:∀y,y<G.ts.length->(G'.tk y).own=(G.tk y).own:=λy H=>(hr.Cd.ids y H).2.1;have hlf:∀y,y<G.ts.length->Lft G Ws y->Lft G' (Ws.set i W') y:=λy H q=>(arS hH hI hi he hr hs H).1.2 (D_ q);have hbg:=λy (H:y<G.ts.length)=>aDv hH hI hi he hr hs H;have hK:=λy (H:y<G.ts.length)=>hs.K c (hr.Cd.ids y H).2.2 H;have emO:∀(j:Nat) Wj,j≠i->Ws[j]?=G_ Wj->Wj.emp->Wj.stack≠ []/\(G'.tk Wj.tp)=(G.tk Wj.tp)/\Wj.tp<G.ts.length/\(G.tk Wj.tp).cJ≠ []/\∀x,x<G.ts.length->(G'.tk x).l7=(G.tk Wj.tp).kA.1->Lft G' (Ws.set i W') x:=λj Wj hne u v=>by
  obtain⟨e1,e2,e3⟩:=h.em j Wj u v;have hm:=S (Y e1);have hjl:=(hI.w j Wj u).hl _ hm;have hnot:Wj.tp ∉ W.hold:=λq=>hne (hI.dj j i Wj W _ u hi hm q);refine⟨e1,hr.Cd.tk hjl hnot,hjl,e2,λx d n=>hlf x d (e3 x d ?_)⟩;rw[<-Z x d];exact n
 have all:(∀s,ZE G' s=ZE G s)->(∀y,y<G.ts.length->(G'.tk y).cJ=(G.tk y).cJ/\(G'.tk y).scopes=(G.tk y).scopes)->(W.cT≠ .m .start\/W'.cT= .m .start)->W'.stack=W.stack\/¬W'.emp->
   (∀y,G.ts.length<=y->y<G'.ts.length->(G'.tk y).cJ=[]/\(G'.tk y).scopes=[(G'.tk y).own]/\ZE G (G'.tk y).own=K_/\¬Bgn G' (Ws.set i W') y/\ZE G (G'.tk y).l7=K_/\∀(j:Nat) Wj,(Ws.set i W')[j]?=G_ Wj->Wj.emp->(G'.tk y).l7≠(G'.tk Wj.tp).kA.1)->
   (∀(s:Nat) p,G'.P[s]?=G_ p->p.1= -2->p.2.2.2=K_)->ClI G' (Ws.set i W'):=by
  intro A I hst hsk F hhi;have hb:∀y,y<G.ts.length->(Bgn G' (Ws.set i W') y↔Bgn G Ws y):=λy H=>by
   rw[hbg y H];exact⟨λq=>q.elim id λq=>hst.elim (λz=>absurd q.1 z) λz=>absurd z q.2.1,D_⟩
  refine⟨λx d=>?_,λx d=>?_,λx d J=>?_,λx d J=>?_,λx d hk=>?_,λx d U=>?_,λj Wj u v=>?_,hhi⟩
  .by_cases g:x<G.ts.length
   .rw[(I x g).1,(I x g).2];intro p hp;rw[A];exact h.op2 x g p hp
   .rw[(F x af d).1];intro p hp;cases hp
  .by_cases g:x<G.ts.length
   .rw[(I x g).1];exact h.nd x g
   .rw[(F x af d).1];exact oo
  .by_cases g:x<G.ts.length
   .rw[(I x g).1,(I x g).2];intro s hs;rw[A];exact h.op1 x g ((hb x g).1 J) s hs
   .exact absurd J (F x af d).2.2.2.1
  .by_cases g:x<G.ts.length
   .rw[(I x g).1,(I x g).2,hown x g,A];exact h.nb x g λq=>J ((hb x g).2 q)
   .obtain⟨Q,a2,a3,_⟩:=F x af d;exact⟨a2,by rw[A];exact a3,Q⟩
  .by_cases g:x<G.ts.length
   .rw[(I x g).1];rcases hK x g with q|⟨_,q,_⟩|⟨_,q,q2,_⟩
    .exact h.k2 x g (by rw[<-q];exact hk)
    .omega
    .have ct:=c.ct;unfold cD at ct;rw[q]at ct;rw[q2];exact ct.2.2
   .exact(F x af d).1
  .by_cases g:x<G.ts.length
   .rw[Z x g,A]at U;exact hlf x g (h.cl x g U)
   .have:=(F x af d).2.2.2.2.1;rw[A,this]at U;cases U
  .have hnn:∀x,G.ts.length<=x->x<G'.ts.length->(G'.tk x).l7=(G'.tk Wj.tp).kA.1->Lft G' (Ws.set i W') x:=λx h1 h2 h3=>absurd h3 ((F x h1 h2).2.2.2.2.2 j Wj u v);by_cases e:j=i
   .subst e;rw[uO X]at u;obtain rfl:=G_.inj u;have aFA:W'.stack=W.stack:=hsk.elim id λq=>absurd v q;have htp:W'.tp=W.tp:=by unfold Wk.tp;rw[aFA]
    have key:W.stack≠ []/\(G.tk W.tp).cJ≠ []/\∀x,x<G.ts.length->(G.tk x).l7=(G.tk W.tp).kA.1->Lft G Ws x:=by
     rcases hem v with q|⟨q1,q2,q3⟩
     .exact h.em j W hi q
     .have ct:=c.ct;unfold cD at ct;rw[q1]at ct;exact⟨q2,ct.1.cJ ct.2.1,h.none hL V hI hi he q1 q3⟩
    have htl:=R key.1;have h1:(G'.tk W.tp).kA=(G.tk W.tp).kA:=by unfold Tk.kA;rw[(I _ htl).1]
    rw[aFA,htp];refine⟨key.1,by rw[(I _ htl).1];exact key.2.1,λx d n=>?_⟩
    by_cases g:x<G.ts.length
    .rw[Z x g,h1]at n;exact hlf x g (key.2.2 x g n)
    .rw[<-htp]at n;exact hnn x af d n
   .have hj0:=u;rw[r0 (Ne.symm e)]at u;obtain⟨e1,e2,e3,e4,e5⟩:=emO j Wj e u v;refine⟨e1,by rw[e2];exact e4,λx d n=>?_⟩
    by_cases g:x<G.ts.length
    .rw[e2]at n;exact e5 x g n
    .exact hnn x af d n
 have B:G'.ts.length=G.ts.length->∀{p:Nat->Prop},∀y,G.ts.length<=y->y<G'.ts.length->p y:=λe {p} y h1 h2=>by omega
 have L:G'.ts=G.ts->∀y,y<G.ts.length->(G'.tk y).cJ=(G.tk y).cJ/\(G'.tk y).scopes=(G.tk y).scopes:=λe y _=>by unfold Gl.tk;rw[e];exact⟨rfl,rfl⟩
 have smx:∀{x:Nat} {t:Tk},x<G.ts.length->G'.ts=G.ts.set x t->t.cJ=(G.tk x).cJ->t.scopes=(G.tk x).scopes->∀y,y<G.ts.length->(G'.tk y).cJ=(G.tk y).cJ/\(G'.tk y).scopes=(G.tk y).scopes:=fun{x t} d e h1 h2 y H=>by
  unfold Gl.tk at h1 h2 ⊢;rw[e];by_cases q:x=y
  .subst q;rw[uO d];exact⟨h1,h2⟩
  .rw[r0 q];exact⟨rfl,rfl⟩
 have UT:∀{x:Nat} {t:Tk},(G.ts.set x t).length=G.ts.length:=VJ;have tkx:∀{x:Nat} {t:Tk},x<G.ts.length->G'.ts=G.ts.set x t->∀y,y<G.ts.length->G'.tk y=if y=x then t else G.tk y:=fun{x t} d e y H=>by
  unfold Gl.tk;rw[e];by_cases q:y=x
  .subst q;rw[uO d,HK rfl];rfl
  .rw[r0 (Ne.symm q),HQ q]
 have aF2:W.emp->W.cT≠ .m .start->¬W'.emp->∀t1:Tk,G'.ts=G.ts.set W.tp t1->t1.cJ=(G.tk W.tp).cJ.dropLast->t1.scopes=(G.tk W.tp).scopes->t1.own=(G.tk W.tp).own->G'.P=Cq G.P (G.tk W.tp).kA.1->ClI G' (Ws.set i W'):=by
  intro hE hns hw t1 hts h1 h2 h2' hP;obtain⟨e1,e2,e3⟩:=h.em i W hi hE;have d:=R e1;have N:=tkx d hts;have O:G'.ts.length=G.ts.length:=by rw[hts];exact UT
  have hsp:=aBm e2;have hm:=avY e2;obtain⟨hs0,hc0⟩:=h.op2 _ d _ hm;obtain⟨p0,p1,_⟩:=V.sk.at_ d hs0;have A:∀s,0<=s->ZE G' s=(L_ (s=(G.tk W.tp).kA.1)||ZE G s):=λs hs=>by
   unfold ZE;rw[hP];exact arN p0 hs af
  have hnd:=h.nd _ d;rw[hsp,VK,od]at hnd;obtain⟨n1,_,n3⟩:=hnd;have aHp:Bgn G Ws W.tp:=E_ ⟨i,W,hi,Y e1⟩;have hb:∀y,y<G.ts.length->(Bgn G' (Ws.set i W') y↔Bgn G Ws y):=λy H=>by
   rw[hbg y H];exact⟨λq=>q.elim id λq=>absurd q.1 hns,D_⟩
  refine⟨λx a=>?_,λx a=>?_,λx a J=>?_,λx a J=>?_,λx a hk=>?_,λx a U=>?_,λj Wj u v=>?_,λs p hp D=>?_⟩;all_goals try rw[O]at a
  .rw[N x a];split
   .rename_i e;rw[h1,h2];intro p hp;have D:p∈(G.tk W.tp).cJ:=by rw[hsp];exact hG _ hp
    obtain⟨Q,a2⟩:=h.op2 _ d p D;refine⟨Q,?_⟩;rw[A _ (V.sk.at_ d Q).1,a2,decide_eq_false]
    .rfl
    .exact n3 p.1 (C6.2 ⟨p,hp,rfl⟩) _ bf
   .rename_i e;intro p hp;obtain⟨Q,a2⟩:=h.op2 _ a p hp;refine⟨Q,?_⟩;rw[A _ (V.sk.at_ a Q).1,a2,decide_eq_false]
    .rfl
    .intro q;rw[q]at Q;exact e (V.sk.one a d Q hs0)
  .rw[N x a];split
   .rw[h1];exact n1
   .exact h.nd x a
  .rw[N x a];split
   .rename_i e;rw[h1,h2];intro s hs;have a0:=(V.sk.at_ d hs).1;rcases h.op1 _ d aHp s hs with q|q
    .exact D_ (by rw[A s a0,q];simp)
    .rw[hsp,VK]at q;rcases zw.1 q with q|q
     .exact E_ q
     .simp at q;exact D_ (by rw[A s a0,q];simp)
   .intro s hs;have a0:=(V.sk.at_ a hs).1;exact(h.op1 _ a ((hb x a).1 J) s hs).imp (λq=>by rw[A s a0,q];simp) id
  .have hne:x≠W.tp:=λe=>J ((hb x a).2 (by rw[e];exact aHp))
   rw[N x a,HQ hne];obtain⟨Q,a2,a3⟩:=h.nb x a λq=>J ((hb x a).2 q);refine⟨Q,?_,a3⟩;have ho:(G.tk x).own∈(G.tk x).scopes:=by rw[Q];simp
   rw[A _ (V.sk.at_ a ho).1,a2,decide_eq_false]
   .rfl
   .intro q;rw[q]at ho;exact hne (V.sk.one a d ho hs0)
  .rw[N x a];have kM:2<=G.K x:=by
    rcases hK x a with q|⟨_,q,_⟩|⟨_,q,_⟩
    .rw[<-q];exact hk
    .omega
    .exfalso;rcases hE with⟨z,_⟩|z<;>rw[z]at q<;>simp at q
   split
   .rename_i e;rw[e]at kM;exact absurd (h.k2 _ d kM) e2
   .exact h.k2 x a kM
  .rw[Z x a,A _ (hI.ty.qh a).inn.1]at U;refine hlf x a ?_;by_cases q:(G.tk x).l7=(G.tk W.tp).kA.1
   .exact e3 x a q
   .rw[decide_eq_false q]at U;exact h.cl x a U
  .by_cases e:j=i
   .subst e;rw[uO X]at u;obtain rfl:=G_.inj u;exact absurd v hw
   .rw[r0 (Ne.symm e)]at u;obtain⟨f1,f2,f3,f4,f5⟩:=emO j Wj e u v;refine⟨f1,by rw[f2];exact f4,λx a n=>?_⟩
    rw[O]at a;rw[f2]at n;exact f5 x a n
  .rw[hP]at hp;unfold Cq at hp;split at hp
   .rename_i z hz;by_cases e:(G.tk W.tp).kA.1.toNat=s
    .subst e;rw[uO (kB.1 hz).1]at hp;obtain rfl:=G_.inj hp;have:=(V.sk.at_ d hs0).2.2;unfold O9 at this;rw[m0,hz]at this;have this:z.1=W.tp:=this;have D:z.1= -2:=D;omega
    .rw[r0 e]at hp;exact h.hi s p hp D
   .exact h.hi s p hp D
 cases hs with
 |quiet q k o _=>exact all (λ_=>rfl) (L rfl) (D_ o.1) (D_ k.s) (B rfl) h.hi
 |fail q u5 k o=>
  refine all (λ_=>rfl) (L rfl) ?_ (D_ k.1) (B rfl) h.hi;by_cases r:W.cT= .m .start
  .exact E_ (by rw[k.2.2.1];exact r)
  .exact D_ r
 |jq r h0=>exact all (λ_=>rfl) (L rfl) (D_ (by rw[r];simp)) (D_ rfl) (B rfl) h.hi
 |aeR ne rn lt hn q k o=>exact all (λ_=>rfl) (smx (R ne) rfl hn.sm.2.1 hn.sm.2.2.1) (D_ o.1) (D_ k.s) (B UT) h.hi
 |ends ne U q k o=>exact all (λ_=>rfl) (smx (R ne) rfl rfl rfl) (D_ o.1) (D_ k.s) (B UT) h.hi
 |cancel ne r rn h13 lt=>exact all (λ_=>rfl) (smx (R ne) rfl rfl rfl) (D_ (by rw[r];simp)) (D_ rfl) (B UT) h.hi
 |put ne r e ho k4=>exact all (λ_=>rfl) (L rfl) (D_ (by rw[r];simp)) (D_ rfl) (B rfl) h.hi
 |fin ne r e ho=>exact all (λ_=>rfl) (L rfl) (D_ (by rw[r];simp)) (D_ rfl) (B rfl) h.hi
 |asks ne r=>exact all (λ_=>rfl) (L rfl) (D_ (by rw[r];simp)) (D_ rfl) (B rfl) h.hi
 |tF ne r rn=>exact all (λ_=>rfl) (L rfl) (D_ (by rw[r];simp)) (D_ rfl) (B rfl) h.hi
 |gone ne r e ho k hw=>exact all (λ_=>rfl) (L rfl) (D_ (by rw[r];simp)) (E_ hw) (B rfl) h.hi
 |fork ne r rn h8 rm=>
  refine all (λs=>ayX rfl _) (L rfl) (D_ (by rw[r];simp)) (D_ rfl) (B rfl) λs p hp D=>?_
  have hp:(G.P++[(-2,0,0,K_)])[s]?=G_ p:=hp;by_cases g:s<G.P.length
  .rw[tJ g]at hp;exact h.hi s p hp D
  .rw[u0 af]at hp;cases e:s - G.P.length with
   |zero=>rw[e]at hp;simp at hp;subst hp;rfl
   |succ k=>rw[e]at hp;simp at hp
 |xo ne r rn h8 lt rm=>
  have d:=R ne;obtain⟨hl,e1,e2⟩:=agB (P:=P) d;obtain⟨w0,b,hb⟩:=V.fk i W hi r;rw[l8]at hb;obtain⟨q,hq,hq2⟩:=r3.1 hb;have hq1:q.1= -2:=by unfold plq at hq2;exact congrArg (λz=>z.1) hq2
  have hqc:=h.hi _ q hq hq1;have A:∀s,ZE (aFY P G W) s=ZE G s:=λs=>aFW rfl (λz hz=>by rw[hq]at hz;obtain rfl:=G_.inj hz;exact hqc) _
  have hm:=avY rn.cJ;have hop:=h.op2 _ d _ hm;refine all A (λy H=>?_) (D_ (by rw[r];simp)) (D_ rfl) (λy h1 h2=>?_) λs p hp D=>?_
  .rw[e1 y H];split
   .rename_i q;subst q;exact⟨rfl,rfl⟩
   .exact⟨rfl,rfl⟩
  .have aVh:y=G.ts.length:=af;subst aVh;rw[e2];have kM:(aFY P G W).K G.ts.length=0:=by
    unfold Gl.K;rw[e2];exact Yf (M:=G.M.tick W.id) (mG _)
   refine⟨rfl,rfl,?_,?_,hop.2,λj Wj u v hii=>?_⟩
   .show ZE G W.own=K_;unfold ZE;rw[hq];exact hqc
   .unfold Bgn;rw[kM,ak2 X];rintro(z|z|⟨j,Wj,_,u,hm2⟩)
    .omega
    .have:=c.wt.hl _ (S (W:=W) z);omega
    .have:=(hI.w j Wj u).hl _ (S hm2);omega
   .by_cases e:j=i
    .subst e;rw[uO X]at u;obtain rfl:=G_.inj u;exact aoq (m:= .tF) rfl e7 e7 v
    .rw[r0 (Ne.symm e)]at u;obtain⟨Q,a2,a3,a4,_⟩:=emO j Wj e u v;rw[a2]at hii;have IZ:=(h.op2 _ a3 _ (avY a4)).1;have hii:(G.tk W.tp).kA.1=(G.tk Wj.tp).kA.1:=hii;rw[<-hii]at IZ;have e5:=V.sk.one d a3 hop.1 IZ;exact e (hI.dj j i Wj W W.tp u hi (by rw[e5];exact S (Y Q)) (S (Y ne)))
  .have hp:(G.P.set W.own.toNat ((G.T.length:Nat),0,0,K_))[s]?=G_ p:=hp;by_cases e:W.own.toNat=s
   .subst e;rw[uO (kB.1 hq).1]at hp;obtain rfl:=G_.inj hp;rfl
   .rw[r0 e]at hp;exact h.hi s p hp D
 |@start W' m r k=>
  have hmc:W.jq.toNat∈W.hold:=by unfold Wk.hold;simp[r]
  have A:=c.wt.hl _ hmc;have hK1:G.K W.jq.toNat=1:=by
   rcases c.wt.run _ hmc with q|⟨_,_,q⟩
   .exact q
   .rw[r]at q;rcases q with q|q<;>cases q
  have hnb:¬Bgn G Ws W.jq.toNat:=by
   rintro(q|⟨j,Wj,u,hm⟩)
   .omega
   .have e:=hI.dj j i Wj W _ u hi (S hm) hmc;subst e;rw[hi]at u;obtain rfl:=G_.inj u;have hnd:=c.wt.nd;unfold Wk.hold at hnd;rw[HK r]at hnd;exact(VN.1 hnd).1 hm
  obtain⟨b1,b2,b3⟩:=h.nb _ A hnb;have N:∀y,y<G.ts.length->(((G.tick W.id).set W.jq.toNat {G.tk W.jq.toNat with cJ:=[((G.tk W.jq.toNat).own,m)]}).tk y)=if y=W.jq.toNat then{G.tk W.jq.toNat with cJ:=[((G.tk W.jq.toNat).own,m)]}else G.tk y:=λy H=>by
   by_cases e:y=W.jq.toNat
   .rw[HK e,e];exact ay8 (G:=G.tick W.id) A
   .rw[HQ e];exact an7 (G:=G.tick W.id) e
  have hst:¬W'.emp:=aoq k.2.2 e7 e7;refine⟨λx d=>?_,λx d=>?_,λx d J=>?_,λx d J=>?_,λx d hk=>?_,λx d U=>?_,λj Wj u v=>?_,h.hi⟩;all_goals try rw[show((G.tick W.id).set W.jq.toNat {G.tk W.jq.toNat with cJ:=[((G.tk W.jq.toNat).own,m)]}).ts.length=G.ts.length from UT]at d
  .rw[N x d];split
   .rename_i e;subst e;intro p hp;simp at hp;subst hp;exact⟨by show _∈(G.tk W.jq.toNat).scopes;rw[b1];simp,b2⟩
   .exact h.op2 x d
  .rw[N x d];split
   .simp
   .exact h.nd x d
  .rw[N x d];split
   .rename_i e;intro s hs;have hs:s∈(G.tk W.jq.toNat).scopes:=hs;rw[b1]at hs;exact E_ (by simpa using hs)
   .rename_i e;exact h.op1 x d (((hbg x d).1 J).elim id λq=>absurd q.2.2 e)
  .rw[N x d];split
   .rename_i e;exact absurd ((hbg x d).2 (E_ ⟨r,by rw[k.2.2];simp,e⟩)) J
   .exact h.nb x d λq=>J ((hbg x d).2 (D_ q))
  .rw[N x d];split
   .rename_i e;exfalso;rcases hK x d with q|⟨_,q,_⟩|⟨_,q,_⟩
    .rw[q,e,hK1]at hk;omega
    .omega
    .rw[r]at q;simp at q
   .rcases hK x d with q|⟨_,q,_⟩|⟨_,q,_⟩
    .exact h.k2 x d (by rw[<-q];exact hk)
    .omega
    .rw[r]at q;simp at q
  .rw[Z x d]at U;exact hlf x d (h.cl x d U)
  .by_cases e:j=i
   .subst e;rw[uO X]at u;obtain rfl:=G_.inj u;exact absurd v hst
   .rw[r0 (Ne.symm e)]at u;obtain⟨e1,e2,e3,e4,e5⟩:=emO j Wj e u v;refine⟨e1,by rw[e2];exact e4,λx d n=>?_⟩
    rw[e2]at n;rw[show((G.tick W.id).set W.jq.toNat {G.tk W.jq.toNat with cJ:=[((G.tk W.jq.toNat).own,m)]}).ts.length=G.ts.length from UT]at d;exact e5 x d n
 |opens ne r rn h11 lt rm n32=>
  have d:=R ne;have BU:=hI.ty.pl;have A:∀s,ZE (aok P G W) s=ZE G s:=λs=>ayX rfl _;have hcn:ZE G ((G.C.length:Nat):Int)=false:=by
   unfold ZE;rw[iZ,s_ af]
  have hb:∀y,y<G.ts.length->(Bgn (aok P G W) (Ws.set i (W.go .next)) y↔Bgn G Ws y):=λy H=>by
   rw[hbg y H];exact⟨λq=>q.elim id λq=>by have:=q.1;rw[r]at this;simp at this,D_⟩
  have hbT:Bgn G Ws W.tp:=E_ ⟨i,W,hi,Y ne⟩;have N:=tkx d (show(aok P G W).ts=G.ts.set W.tp {G.tk W.tp with scopes:=(G.tk W.tp).scopes++[((G.C.length:Nat):Int)],cJ:=(G.tk W.tp).cJ++[(((G.C.length:Nat):Int),W.mark)],f:=nE (G.tk W.tp).f}from rfl);have O:(aok P G W).ts.length=G.ts.length:=UT;have hK1:G.K W.tp=1:=by
   rcases c.wt.run _ (S (Y ne))with q|⟨_,_,q⟩
   .exact q
   .rw[r]at q;rcases q with q|q<;>cases q
  refine⟨λx a=>?_,λx a=>?_,λx a J=>?_,λx a J=>?_,λx a hk=>?_,λx a U=>?_,λj Wj u v=>?_,λs p hp D=>?_⟩;all_goals try rw[O]at a
  .rw[N x a];split
   .intro p hp;rw[A];rcases zw.1 hp with hp|hp
    .obtain⟨Q,a2⟩:=h.op2 _ d p hp;exact⟨hG _ Q,a2⟩
    .simp at hp;subst hp;exact⟨bf,hcn⟩
   .intro p hp;rw[A];exact h.op2 x a p hp
  .rw[N x a];split
   .show(((G.tk W.tp).cJ++[_]).map λp:Int×Int=>p.1).Nodup;rw[VK,od];refine⟨h.nd _ d,bf,λz hz z2 hz2 e=>?_⟩;simp at hz2;obtain⟨p,hp,rfl⟩:=C6.1 hz;have:=(V.sk.at_ d (h.op2 _ d p hp).1).2.1;omega
   .exact h.nd x a
  .rw[N x a];split
   .intro s hs;rw[A];rcases zw.1 hs with hs|hs
    .refine(h.op1 _ d hbT s hs).imp id λq=>?_;show s∈((G.tk W.tp).cJ++[_]).map λp:Int×Int=>p.1;rw[VK];exact hG _ q
    .refine E_ ?_;show s∈((G.tk W.tp).cJ++[_]).map λp:Int×Int=>p.1;rw[VK];simp at hs;simp[hs]
   .intro s hs;rw[A];exact h.op1 x a ((hb x a).1 J) s hs
  .have hne:x≠W.tp:=λe=>J ((hb x a).2 (by rw[e];exact hbT))
   rw[N x a,HQ hne,A];exact h.nb x a λq=>J ((hb x a).2 q)
  .have kM:2<=G.K x:=by
    rcases hK x a with q|⟨_,q,_⟩|⟨_,q,_⟩
    .rw[<-q];exact hk
    .omega
    .rw[r]at q;simp at q
   rw[N x a];split
   .rename_i e;rw[e,hK1]at kM;omega
   .exact h.k2 x a kM
  .rw[Z x a,A]at U;exact hlf x a (h.cl x a U)
  .by_cases e:j=i
   .subst e;rw[uO X]at u;obtain rfl:=G_.inj u;exact absurd v (aoq (m:= .next) rfl e7 e7)
   .rw[r0 (Ne.symm e)]at u;obtain⟨f1,f2,f3,f4,f5⟩:=emO j Wj e u v;refine⟨f1,by rw[f2];exact f4,λx a n=>?_⟩
    rw[O]at a;rw[f2]at n;exact f5 x a n
  .have hp:(G.P++[((G.tk W.tp).id,(((G.tk W.tp).scopes.length:Nat):Int),G.pk (G.tk W.tp).kA.1,K_)])[s]?=G_ p:=hp;by_cases g:s<G.P.length
   .rw[tJ g]at hp;exact h.hi s p hp D
   .rw[u0 af]at hp;cases e:s - G.P.length with
    |zero=>rw[e]at hp;simp at hp;subst hp;rfl
    |succ k=>rw[e]at hp;simp at hp
 |gL ne r rn h12 lt=>exact aF2 (E_ r) (by rw[r];simp) (aoq (m:= .next) rfl e7 e7) (aHe P G W) rfl rfl rfl rfl rfl
 |unwind ne r e ho k hu hw=>exact aF2 (D_ ⟨r,E_ hu⟩) (by rw[r];simp) hw {G.tk W.tp with cJ:=(G.tk W.tp).cJ.dropLast} rfl rfl rfl rfl rfl
def OpI(G:Gl):Prop:=∀x,x<G.ts.length->∀p∈(G.tk x).cJ,p.1∈(G.tk x).scopes
structure AkI (G:Gl) (Ws:List Wk):Prop where
 ca:∀x,x<G.ts.length->(G.tk x).kind=4->SE G (G.tk x)
 k4:∀x,x<G.ts.length->G.K x=4->(G.tk x).kind=4
 pc:∀(s:Nat) p,G.P[s]?=G_ p->0<=p.1->∃nd,G.C[s]?=G_ nd/\if p.2.1=0 then nd.parent=(G.tk p.1.toNat).l7 else 0<=p.2.2.1/\p.2.2.1<p.2.1/\(G.tk p.1.toNat).scopes[p.2.2.1.toNat]?=G_ nd.parent
 aVi:∀(i:Nat) W,Ws[i]?=G_ W->W.cT= .m .xo->∃nd,G.C[W.own.toNat]?=G_ nd/\nd.parent=(G.tk W.tp).kA.1
def aUT.kind(h:aUT P G t t')(a:t.kind=0):t'.kind≠4:=by
 cases h with
 |plain h=>show t.kind≠4;omega
 |pass h=>show t.kind≠4;omega
 |leave h=>show(if Ip P t=15 then(3:Int)else 2)≠4;split<;>decide
 |join h hy hl hk hb=>show t.kind≠4;omega
 |bad h hy hl hk hb=>show(3:Int)≠4;decide
def AkI.step(h:AkI G Ws)(hop:OpI G)(hS:SKI G Ws)(V:IV l P bw ro G Ws)(hi:Ws[i]?=G_ W)(he:G.err=0)(hr:rV l P bw ro iT G i W (G',W'))(hs:Stp l P ro G W G' W'):AkI G' (Ws.set i W'):=by
 have c:=V.cx hi he;have hil:=(kB.1 hi).1;have u:W.stack≠ []->W.tp<G.ts.length:=λq=>(c.top q).2;have X:∀{W:Wk},W.stack≠ []->W.tp∈W.hold:=fun{W} q=>by
  obtain⟨z,st,e⟩:=kp q;unfold Wk.hold Wk.tp;rw[e];simp
 have Y:∀y,y<G.ts.length->(G'.tk y).l7=(G.tk y).l7:=λy g=>(hr.Cd.ids y g).1;have hK:=λy (g:y<G.ts.length)=>hs.K c (hr.Cd.ids y g).2.2 g;obtain⟨mC,hCa⟩:=hr.Cd.C;have Z:∀{s:Nat} {nd:Nd},G.C[s]?=G_ nd->G'.C[s]?=G_ nd:=fun{s nd} q=>by rw[hCa,tJ (kB.1 q).1];exact q
 have aJ2:∀y,y<G.ts.length->SE G (G.tk y)->(G'.tk y).l7=(G.tk y).l7->SE G' (G'.tk y):=λy g q J=>by
  have:=q.imp hr.Cd ⟨y,g,rfl⟩;obtain⟨b,A,h2⟩:=this;exact⟨b,by rw[J];exact A,h2⟩
 have hK1:W.stack≠ []->W.cT≠ .m .asks->W.cT≠ .m .gone->G.K W.tp=1:=λq1 J q3=>by
  rcases c.wt.run _ (X q1)with z|⟨_,_,z⟩
  .exact z
  .rcases z with z|z
   .exact absurd z J
   .exact absurd z q3
 have fpO:(∀y,y<G.ts.length->y ∉ W.hold->G'.tk y=G.tk y):=λy g L=>hr.Cd.tk g L;have D:(W'.cT= .m .xo->∃nd,G'.C[W'.own.toNat]?=G_ nd/\nd.parent=(G'.tk W'.tp).kA.1)->∀(j:Nat) Wj,(Ws.set i W')[j]?=G_ Wj->Wj.cT= .m .xo->∃nd,G'.C[Wj.own.toNat]?=G_ nd/\nd.parent=(G'.tk Wj.tp).kA.1:=λq j Wj R r=>by
  by_cases e:j=i
  .subst e;rw[uO hil]at R;obtain rfl:=G_.inj R;exact q r
  .rw[r0 (Ne.symm e)]at R;obtain⟨nd,A,h2⟩:=h.aVi j Wj R r;have aVg:=V.cx R he;have ct:=aVg.ct;unfold cD at ct;rw[r]at ct;have hm:=X ct.1;rw[fpO _ (aVg.top ct.1).2 λz=>e (V.dj j i Wj W _ R hi hm z)];exact⟨nd,Z A,h2⟩
 have kk:(∀y,y<G.ts.length->(G'.tk y).kind=(G.tk y).kind\/(y=W.tp/\G.K W.tp=1/\W.cT≠ .m .fin/\((G'.tk y).kind=4->SE G (G.tk y))))->(∀y,G.ts.length<=y->y<G'.ts.length->(G'.tk y).kind=0/\G'.K y=0)->(∀x,x<G'.ts.length->(G'.tk x).kind=4->SE G' (G'.tk x))/\(∀x,x<G'.ts.length->G'.K x=4->(G'.tk x).kind=4):=λN L=>by
  refine⟨λx v O=>?_,λx v O=>?_⟩
  .by_cases d:x<G.ts.length
   .refine aJ2 x d ?_ (Y x d);rcases N x d with q|⟨_,_,_,q⟩
    .exact h.ca x d (by rw[<-q];exact O)
    .exact q O
   .have:=(L x af v).1;omega
  .by_cases d:x<G.ts.length
   .rcases hK x d with q|⟨_,q,_⟩|⟨q,J,q3,aVc,_⟩
    .rw[q]at O;rcases N x d with z|⟨z,z2,_⟩
     .rw[z];exact h.k4 x d O
     .rw[z]at O;omega
    .omega
    .rcases N x d with z|⟨_,_,z,_⟩
     .rw[z,<-aVc];exact O
     .exact absurd J z
   .have:=(L x af v).2;omega
 have F:G'.ts.length=G.ts.length->∀{p:Nat->Prop},∀y,G.ts.length<=y->y<G'.ts.length->p y:=λe {p} y A h2=>by omega
 have pl:(∀y,y<G.ts.length->∃m,(G'.tk y).scopes=(G.tk y).scopes++m)->(∀(s:Nat) p,G'.P[s]?=G_ p->0<=p.1->(∃q,G.P[s]?=G_ q/\plq q=plq p)\/∃nd,G'.C[s]?=G_ nd/\if p.2.1=0 then nd.parent=(G'.tk p.1.toNat).l7 else 0<=p.2.2.1/\p.2.2.1<p.2.1/\(G'.tk p.1.toNat).scopes[p.2.2.1.toNat]?=G_ nd.parent)->
   ∀(s:Nat) p,G'.P[s]?=G_ p->0<=p.1->∃nd,G'.C[s]?=G_ nd/\if p.2.1=0 then nd.parent=(G'.tk p.1.toNat).l7 else 0<=p.2.2.1/\p.2.2.1<p.2.1/\(G'.tk p.1.toNat).scopes[p.2.2.1.toNat]?=G_ nd.parent:=λhsc a s p hps S=>by
  rcases a s p hps S with⟨q,hq,e⟩|q
  .unfold plq at e;simp only[Prod.mk.injEq]at e;obtain⟨nd,A,h2⟩:=h.pc s q hq af;have d:p.1.toNat<G.ts.length:=by
    have hb:=(hS.sk.aUY s (plq q) (by rw[l8,hq];rfl)).1
    rw[U']at hb;have:q.1<G.ts.length:=hb.2;omega
   refine⟨nd,Z A,?_⟩;rw[e.1,e.2.1,e.2.2]at h2;rw[Y _ d];split
   .rename_i z;rw[HK z]at h2;exact h2
   .rename_i z;rw[HQ z]at h2;obtain⟨m,hm⟩:=hsc _ d;exact⟨h2.1,h2.2.1,by rw[hm,tJ (kB.1 h2.2.2).1];exact h2.2.2⟩
  .exact q
 have plS:G'.P.map plq=G.P.map plq->∀(s:Nat) p,G'.P[s]?=G_ p->0<=p.1->(∃q,G.P[s]?=G_ q/\plq q=plq p)\/∃nd,G'.C[s]?=G_ nd/\if p.2.1=0 then nd.parent=(G'.tk p.1.toNat).l7 else 0<=p.2.2.1/\p.2.2.1<p.2.1/\(G'.tk p.1.toNat).scopes[p.2.2.1.toNat]?=G_ nd.parent:=λe s p a _=>by
  have A:(G'.P.map plq)[s]?=G_ (plq p):=by rw[l8,a];rfl
  rw[e,l8]at A;obtain⟨q,hq,hq2⟩:=r3.1 A;exact D_ ⟨q,hq,hq2⟩
 have tkE:G'.ts=G.ts->∀y,G'.tk y=G.tk y:=λe y=>by unfold Gl.tk;rw[e]
 have tkx:∀{x:Nat} {t:Tk},x<G.ts.length->G'.ts=G.ts.set x t->∀y,y<G.ts.length->G'.tk y=if y=x then t else G.tk y:=fun{x t} v e y g=>by
  unfold Gl.tk;rw[e];by_cases q:y=x
  .subst q;rw[uO v,HK rfl];rfl
  .rw[r0 (Ne.symm q),HQ q]
 have UT:∀{x:Nat} {t:Tk},(G.ts.set x t).length=G.ts.length:=VJ;have same:G'.ts=G.ts->G'.P.map plq=G.P.map plq->(W'.cT= .m .xo->∃nd,G'.C[W'.own.toNat]?=G_ nd/\nd.parent=(G'.tk W'.tp).kA.1)->AkI G' (Ws.set i W'):=λe Q hf=>by
  obtain⟨H,I⟩:=kk (λy g=>D_ (by rw[tkE e])) (F (by rw[e]))
  exact⟨H,I,pl (λy g=>⟨[],by rw[tkE e];simp⟩) (plS Q),D hf⟩
 have B:∀{x:Nat} {t1:Tk},x<G.ts.length->G'.ts=G.ts.set x t1->t1.scopes=(G.tk x).scopes->(t1.kind=(G.tk x).kind\/(x=W.tp/\G.K W.tp=1/\W.cT≠ .m .fin/\(t1.kind=4->SE G (G.tk x))))->G'.P.map plq=G.P.map plq->W'.cT≠ .m .xo->AkI G' (Ws.set i W'):=fun{x t1} v e e2 e3 Q hf=>by
  have U:=tkx v e;obtain⟨H,I⟩:=kk (λy g=>by
   rw[U y g];by_cases q:y=x
   .rw[HK q,q];exact e3
   .rw[HQ q];exact D_ rfl) (F (by rw[e];exact UT))
  refine⟨H,I,pl (λy g=>⟨[],?_⟩) (plS Q),D λq=>absurd q hf⟩;rw[U y g,n_];split
  .rename_i q;rw[q];exact e2
  .rfl
 cases hs with
 |quiet q k o _=>exact same rfl rfl λz=>absurd z k.m.2.1
 |fail q u5 k o=>
  refine same rfl rfl λz=>?_;have r:W.cT= .m .xo:=by rw[<-k.2.2.1];exact z
  have htp:W'.tp=W.tp:=by unfold Wk.tp;rw[k.1]
  rw[k.2.2.2.2,htp];exact h.aVi i W hi r
 |jq r S=>exact same rfl rfl λz=>by simp at z
 |tF ne r rn=>exact same rfl rfl λz=>by simp[Wk.A6]at z
 |put ne r e ho k4=>exact same rfl rfl λz=>by simp[Wk.go]at z
 |fin ne r e ho=>exact same rfl rfl λz=>by simp[Wk.go]at z
 |asks ne r=>exact same rfl rfl λz=>by simp at z
 |gone ne r e ho k hw=>exact same rfl rfl λz=>absurd z k.2.2.2.1
 |start r k=>
  have hmc:W.jq.toNat∈W.hold:=by unfold Wk.hold;simp[r]
  exact B (c.wt.hl _ hmc) rfl rfl (D_ rfl) rfl (by rw[k.2.2];simp)
 |aeR ne rn lt L q k o=>exact B (u ne) rfl L.sm.2.2.1 (E_ ⟨rfl,hK1 ne o.2.2.2.1 o.2.2.2.2,λz=>by
   have ct:=c.ct;unfold cD at ct;rw[z]at ct;have A:=ct.2.1.k2;have h2:=rn.kind;have A:2<=(G.tk W.tp).kind:=A;omega,λz=>absurd z (L.kind rn.kind)⟩) rfl k.m.2.1
 |ends ne hc q k o nf=>exact B (u ne) rfl rfl (E_ ⟨rfl,hK1 ne o.2.2.2.1 o.2.2.2.2,nf,λ_=>hc⟩) rfl k.m.2.1
 |cancel ne r rn h13 lt=>exact B (u ne) rfl rfl (D_ rfl) rfl (by simp[Wk.JF])
 |gL ne r rn h12 lt=>exact B (u ne) (t1:=aHe P G W) rfl rfl (D_ rfl) (aio _ _) (by simp[Wk.go])
 |unwind ne r e ho k hu hw=>exact B (u ne) (t1:={G.tk W.tp with cJ:=(G.tk W.tp).cJ.dropLast}) rfl rfl (D_ rfl) (aio _ _) k.m.2.1
 |fork ne r rn h8 rm=>
  obtain⟨H,I⟩:=kk (λy g=>D_ rfl) (F rfl);refine⟨H,I,pl (λy g=>⟨[],(n_ _).symm⟩) (λs p a S=>?_),D λ_=>⟨⟨(G.tk W.tp).kA.1,wr ((G.nd (G.tk W.tp).kA.1).nest+1),(G.M.cells.length:Nat)⟩,?_,rfl⟩⟩
  .have a:(G.P++[((-2:Int),(0:Int),(0:Int),K_)])[s]?=G_ p:=a;by_cases hs:s<G.P.length
   .rw[tJ hs]at a;exact D_ ⟨p,a,rfl⟩
   .exfalso;rw[u0 af]at a;cases e:s - G.P.length with
    |zero=>
     rw[e]at a;obtain rfl:=G_.inj a;simp at S
    |succ k=>rw[e]at a;simp at a
  .show(G.C++[_])[((G.C.length:Nat):Int).toNat]?=_;rw[iZ,u0 (iw _)];simp
 |xo ne r rn h8 lt rm=>
  have v:=u ne;obtain⟨hl,e1,e2⟩:=agB (P:=P) v;have kM:(aFY P G W).K G.ts.length=0:=by
   unfold Gl.K;rw[e2];exact Yf (M:=G.M.tick W.id) (mG _)
  obtain⟨H,I⟩:=kk (λy g=>by
   rw[e1 y g];split
   .rename_i e;rw[e];exact D_ rfl
   .exact D_ rfl) (λy A h2=>by
   have e:y=G.ts.length:=af;subst e;rw[e2];exact⟨rfl,kM⟩)
  refine⟨H,I,pl (λy g=>⟨[],?_⟩) (λs p a S=>?_),D λz=>by simp at z⟩
  .rw[e1 y g,n_];split
   .rename_i e;rw[e];rfl
   .rfl
  .have a:(G.P.set W.own.toNat ((G.ts.length:Nat),(0:Int),(0:Int),K_))[s]?=G_ p:=by
    have:G.T.length=G.ts.length:=by have:=hS.sk.n;rw[U']at this;exact this
    rw[<-this];exact a
   by_cases e:W.own.toNat=s
   .obtain⟨nd,n1,n2⟩:=h.aVi i W hi r;rw[e]at n1 a;have d:s<G.P.length:=by
     have:=(kB.1 a).1;rwa[VJ]at this
    rw[uO d]at a;obtain rfl:=G_.inj a;refine E_ ⟨nd,n1,?_⟩;rw[HK rfl];show nd.parent=((aFY P G W).tk (((G.ts.length:Nat):Int).toNat)).l7;rw[iZ,e2];exact n2
   .rw[r0 e]at a;exact D_ ⟨p,a,rfl⟩
 |opens ne r rn h11 lt rm n32=>
  have v:=u ne;have vK:=(V.ty.qh v).id;have U:=tkx v (show(aok P G W).ts=G.ts.set W.tp {G.tk W.tp with scopes:=(G.tk W.tp).scopes++[((G.C.length:Nat):Int)],cJ:=(G.tk W.tp).cJ++[(((G.C.length:Nat):Int),W.mark)],f:=nE (G.tk W.tp).f}from rfl);have BU:G.P.length=G.C.length:=V.ty.pl;obtain⟨H,I⟩:=kk (λy g=>by
   rw[U y g];split
   .rename_i e;rw[e];exact D_ rfl
   .exact D_ rfl) (F UT)
  refine⟨H,I,pl (λy g=>?_) (λs p a S=>?_),D λz=>by simp[Wk.go]at z⟩
  .rw[U y g];split
   .rename_i e;rw[e];exact⟨_,rfl⟩
   .exact⟨[],(n_ _).symm⟩
  .have a:(G.P++[((G.tk W.tp).id,(((G.tk W.tp).scopes.length:Nat):Int),G.pk (G.tk W.tp).kA.1,K_)])[s]?=G_ p:=a;by_cases hs:s<G.P.length
   .rw[tJ hs]at a;exact D_ ⟨p,a,rfl⟩
   .rw[u0 af]at a;cases e:s - G.P.length with
    |succ k=>rw[e]at a;simp at a
    |zero=>
     rw[e]at a;obtain rfl:=G_.inj a;have e2:s=G.C.length:=af;refine E_ ⟨⟨(G.tk W.tp).kA.1,wr ((G.nd (G.tk W.tp).kA.1).nest+1),(G.M.cells.length:Nat)⟩,?_,?_⟩
     .show(G.C++[_])[s]?=_;rw[e2,u0 (iw _)];simp
     .have hm:=hop _ v _ (avY rn.cJ);obtain⟨k,N⟩:=n6 hm;obtain⟨_,q,q1,_,J⟩:=hS.sk.own W.tp _ (by rw[l8,G.xw v];rfl) k _ N
      have hkl:=(kB.1 N).1;rw[l8]at q1;obtain⟨q',hq',rfl⟩:=r3.1 q1;have hpk:G.pk (G.tk W.tp).kA.1=(k:Nat):=by
       unfold Gl.pk;rw[hq'];exact J
      dsimp only;rw[hpk,HQ af];refine⟨af,af,?_⟩;show((aok P G W).tk (G.tk W.tp).id.toNat).scopes[((k:Nat):Int).toNat]?=G_ (G.tk W.tp).kA.1;rw[vK,iZ,iZ,U _ v,HK rfl];dsimp only;rw[tJ hkl];exact N
structure aVo (l:Lc) (G:Gl) (Ws:List Wk):Prop where
 hd:HdI l G Ws
 lv:LvI G Ws
 cl:ClI G Ws
 ak:AkI G Ws
def aVo.drv(h:aVo l G Ws)(Q:IV l P bw ro G Ws)(R:G.err=0)(e:G'.ts=G.ts)(H:G'.P=G.P)(I:G'.C=G.C)(r:G'.steps=G.steps)(o:∀x,x<G.ts.length->G'.K x=G.K x)(S:∀s:Int,0<=s->s<G.C.length->liv G' s=liv G s)(T:∀x,x<G.ts.length->SE G (G.tk x)->SE G' (G.tk x)):aVo l G' Ws:=by
 have k:∀y,G'.tk y=G.tk y:=λy=>by unfold Gl.tk;rw[e]
 have D:∀s,ZE G' s=ZE G s:=λs=>by unfold ZE;rw[H]
 have m:∀x,x<G.ts.length->(Lft G' Ws x↔Lft G Ws x):=λx d=>by unfold Lft;rw[o x d]
 have t:∀x,x<G.ts.length->(Bgn G' Ws x↔Bgn G Ws x):=λx d=>by unfold Bgn;rw[o x d]
 have J:Ts G'=Ts G:=funext λx=>by show(G'.tk x).f.getD 18 0=_;rw[k]
 refine⟨⟨h.hd.aUo,by rw[J,e,r];exact h.hd.st,λx d=>by rw[J];exact h.hd.nn x (by rw[<-e];exact d),by rw[r];exact h.hd.sl,λx d u=>?_,λi W hi n=>?_,λi W hi n=>?_⟩,⟨λs F L=>?_,λi W hi n=>?_⟩,⟨λx d=>?_,λx d=>?_,λx d M=>?_,λx d M=>?_,λx d u=>?_,λx d v=>?_,λj Wj U N=>?_,λs p A=>?_⟩,⟨λx d B=>?_,λx d B=>?_,λs p A F=>?_,λi W hi n=>?_⟩⟩
 .rw[e]at d;rw[o x d]at u;exact h.hd.r1 x d u
 .rw[J];exact h.hd.s0 i W hi n
 .have c:=Q.cx hi R;have ct:=c.ct;unfold cD at ct;have ne:W.stack≠ []:=by rcases n with q|q<;>rw[q]at ct<;>exact ct.1
  rw[o _ (c.top ne).2];exact h.hd.g2 i W hi n
 .rw[I]at L;have V:∀x,x<G.ts.length->mf G' Ws s x=mf G Ws s x:=λx d=>by
   unfold mf;rw[k];by_cases q:(G.tk x).l7=s/\¬Lft G Ws x
   .rw[HK q,HK ⟨q.1,λz=>q.2 ((m x d).1 z)⟩]
   .rw[HQ q,HQ λz=>q ⟨z.1,λX=>z.2 ((m x d).2 X)⟩]
  have e2:pf G' Ws s=pf G Ws s:=funext λi=>by simp only[pf,k]
  rw[e,ael (g:=mf G Ws s) λy Y=>V y Y,e2,S s F L];exact h.lv.lv s F L
 .rw[e,k,k];exact h.lv.aVb i W hi n
 .rw[e]at d;simp only[k,D];exact h.cl.op2 x d
 .rw[e]at d;simp only[k];exact h.cl.nd x d
 .rw[e]at d;simp only[k,D];exact h.cl.op1 x d ((t x d).1 M)
 .rw[e]at d;simp only[k,D];exact h.cl.nb x d λq=>M ((t x d).2 q)
 .rw[e]at d;rw[o x d]at u;simp only[k];exact h.cl.k2 x d u
 .rw[e]at d;simp only[k,D]at v;exact(m x d).2 (h.cl.cl x d v)
 .obtain⟨a,b,c⟩:=h.cl.em j Wj U N;simp only[k];exact⟨a,b,λx d O=>by rw[e]at d;exact(m x d).2 (c x d O)⟩
 .rw[H]at A;exact h.cl.hi s p A
 .rw[e]at d;rw[k]at B ⊢;exact T x d (h.ak.ca x d B)
 .rw[e]at d;rw[o x d]at B;rw[k];exact h.ak.k4 x d B
 .rw[H]at A;rw[I];simp only[k];exact h.ak.pc s p A F
 .rw[I];simp only[k];exact h.ak.aVi i W hi n
def aVo.ask(h:aVo l G Ws)(d:IV l P bw ro G Ws)(m:G.err=0)(e:Ty l ro G1)(a:G1.ts=G.ts/\G1.P=G.P/\G1.C=G.C/\G1.steps=G.steps/\G1.M=G.M){ids:List Int}(hs:∀x∈ids,0<=x/\x<G1.C.length):aVo l (UX l G1 ids) Ws:=by
 obtain⟨A,k2,j,k4,B⟩:=akc (ids:=ids) e hs;obtain⟨M,c⟩:=aaZ (l:=l) (G:=G1) ids;have n:∀y,(UX l G1 ids).tk y=G.tk y:=λy=>by unfold Gl.tk;rw[j,a.1]
 have f:∀y,G1.tk y=G.tk y:=λy=>by unfold Gl.tk;rw[a.1]
 refine h.drv d m (j.trans a.1) (by rw[c];exact a.2.1) (k4.trans a.2.2.1) (by rw[c];exact a.2.2.2.1) (λx g=>?_) (λs o i=>?_) λx g q=>?_
 .have p:=(d.ty.qh g).k;unfold Gl.K;rw[n,akN e hs p (λz q=>by cases q) (λq=>by cases q),a.2.2.2.2]
 .obtain⟨_,r⟩:=d.ty.O7 o i;have t:(UX l G1 ids).nd s=G.nd s:=by unfold Gl.nd;rw[k4,a.2.2.1]
  unfold liv;rw[t,akN e hs r.b (λz q=>by cases q) (λq=>by cases q),a.2.2.2.2]
 .have u:SE G1 (G.tk x):=by
   obtain⟨b,i,nd,h2,v⟩:=q;exact⟨b,by rw[a.2.2.1];exact i,nd,by rw[a.2.2.1];exact h2,by rw[a.2.2.2.2];exact v⟩
  exact u.imp k2 ⟨x,by rw[a.1];exact g,f x⟩
def aVo.ev(k:aVa l P bw G Ws)(h:aVo l G Ws)(e:List Int):aVo l (evF l P (G,Ws) e).1.1 (evF l P (G,Ws) e).1.2:=by
 have o:=k.ord;obtain⟨ro,a,m⟩:=k;unfold evF SA;dsimp only;split
 .exact h
 rename_i b;have b:G.err=0:=mF.1 b;split
 .unfold ZC;split
  .split
   .rename_i W c;split
    .rw[a.dl];obtain⟨iT,g,_⟩:=a.step c b;have hs:Stp l P ro G W (ZB l P G W bw).1 (ZB l P G W bw).2:=aib (a.cx c b) a.fr;exact⟨h.hd.step a c b g hs,h.lv.step h.hd a c b g hs,h.cl.step h.lv m h.hd a c b g hs λq=>aFU (a.cx c b) q,h.ak.step (λx f p r=>(h.cl.op2 x f p r).1) m a c b g hs⟩
    .exact h
   .exact h
  .exact h
 split
 .unfold ZD;split
  .rename_i s;have i:Ty l ro {G with time:=(G.time.1+e.getD 1 0,Ko.Oy G.time.2 (G.time.1+e.getD 1 0))}:={a.ty with ck:=a.ty.ck.adv s,Qn:=λy j=>a.ty.Qn y (C5.1 j).1}
   exact h.ask a b i ⟨rfl,rfl,rfl,rfl,rfl⟩ λx f=>by
    obtain⟨y,j,rfl⟩:=C6.1 f;have n:=(C5.1 j).1;exact⟨a.ty.ck.ids y n,a.ty.Qn y n⟩
  .exact h
 split
 .split
  .exact h.drv a b rfl rfl rfl rfl (λ_ _=>rfl) (λ_ _ _=>rfl) λ_ _ q=>q
  .exact h
 split
 .unfold ZF;split
  .rename_i u;split
   .exact h
   .have d:(e.getD 1 0).toNat<(da G (aaC G)).length:=af;have t:(da G (aaC G)).getD (e.getD 1 0).toNat 0=(da G (aaC G))[(e.getD 1 0).toNat]'d:=by rw[m0,iH d];rfl
    exact h.ask (ids:=[(da G (aaC G)).getD (e.getD 1 0).toNat 0]) a b a.ty ⟨rfl,rfl,rfl,rfl,rfl⟩ λx f=>by
     simp only[hM]at f;rw[f,t];exact o.sr _ (nX d)
  .exact h
 .exact h
def aHc(m:Lm):∃z,(eY m).C=[⟨-1,0,2⟩,⟨0,1,z⟩]:=⟨_,rfl⟩
def UZ.aVC(hf:UZ P b s lg sc){a:Ad}:aVo (gJ a ps (MO b s lg) wa) (eY (MO b s lg)) (Bd (MO b s lg)):=by
 have t:=hf.B7;have y:(MO b s lg).fuel=1048576:=rfl;clear hf;generalize MO b s lg=m at*
 unfold awt at t;simp only[iY,decide_eq_true_eq,Bool.not_eq_true',tL,C8,beq_iff_eq]at t;obtain⟨⟨⟨⟨⟨⟨⟨⟨⟨Z,c1⟩,c2⟩,c3⟩,c4⟩,R⟩,S⟩,st0⟩,T⟩,U⟩:=t;clear R U c1 c3 T S;have B:=aoi m;obtain⟨aUo,v⟩:=aws m;obtain⟨z,V⟩:=aHc m;have C:=ahN m;have k:∀{i:Nat} {W:Wk},(Bd m)[i]?=G_ W->W.cT= .m .rest/\W.stack=[]:=λh=>by
  obtain⟨_,rfl⟩:=adF h;exact⟨rfl,rfl⟩
 have hfuel:(gJ a ps m wa).fuel=m.fuel:=rfl;generalize eY m=G at*
 generalize Bd m=Ws at*
 have o:∀{x:Nat},x<G.ts.length->x=0:=λh=>by rw[B.1]at h;omega
 have F:¬Lft G Ws 0:=λq=>by have:=q.1;omega
 have H:¬Bgn G Ws 0:=by
  rintro(q|⟨i,W,hi,hm⟩)
  .omega
  .rw[(k hi).2]at hm;simp at hm
 have O:Ts G 0=0:=by show(G.tk 0).f.getD 18 0=0;rw[v];rfl
 have u:(G.tk 0).l7=0:=by rw[v]
 have I:∀s,afj (pf G Ws s) Ws.length=0:=λs=>by
  rw[ael (g:=λ_=>0) λj J=>by
   obtain⟨Wj,A⟩:∃Wj,Ws[j]?=G_ Wj:=⟨_,iH J⟩;unfold pf;rw[A];dsimp only;exact HQ λq=>by have:=q.1;rw[(k A).1]at this;simp at this]
  have:∀n,afj (λ_=>0) n=0:=λn=>by induction n with|zero=>rfl|succ n ih=>rw[afj,ih];rfl
  exact this _
 refine⟨⟨by rw[hfuel,y];decide,?_,λx c=>?_,by rw[st0,hfuel,y];decide,λx c K=>?_,λi W hi l=>?_,λi W hi l=>?_⟩,⟨λs Q X=>?_,λi W hi l=>?_⟩,⟨λx c=>?_,λx c=>?_,λx c L=>?_,λx c L=>?_,λx c K=>?_,λx c r=>?_,λj Wj J N=>?_,λs p d Y=>?_⟩,⟨λx c D=>?_,λx c D=>?_,λs p d Q=>?_,λi W hi l=>?_⟩⟩
 .rw[B.1,st0];show afj (Ts G) 0+Ts G 0=0;rw[O];rfl
 .rw[o c,O];exact mG _
 .rw[o c]at K;omega
 iterate 2 rw[(k hi).1]at l;simp at l
 .rw[B.2]at X;rw[I,B.1];show afj (mf G Ws s) 0+mf G Ws s 0=liv G s+0;unfold mf;rw[u];by_cases e:s=0
  .subst e;rw[HK ⟨rfl,F⟩];show _=G.M.get ((G.nd 0).at_+1)+0;rw[c2];rfl
  .have e:s=1:=af;subst e;rw[HQ λq=>by have:=q.1;omega]
   show _=G.M.get ((G.nd 1).at_+1)+0;rw[c4];rfl
 .rw[(k hi).1]at l;simp at l
 iterate 2 rw[o c,v];simp
 .rw[o c]at L;exact absurd L H
 .rw[o c,v];refine⟨rfl,?_,rfl⟩;unfold ZE;rw[C];rfl
 .rw[o c]at K;omega
 .rw[o c,u]at r;unfold ZE at r;rw[C]at r;cases r
 .exfalso;have:=(k J).1;rcases N with⟨q,_⟩|q<;>rw[this]at q<;>cases q
 .rw[C]at d;match s,d with
  |0,d=>simp at d;subst d;rfl
  |1,d=>simp at d;subst d;rfl
 .rw[o c,v]at D;simp at D
 .rw[o c]at D;omega
 .rw[C]at d;match s,d with
  |0,d=>simp at d;subst d;simp at Q
  |1,d=>
   simp at d;subst d;exact⟨⟨0,1,z⟩,by rw[V];rfl,by rw[HK rfl];show(0:Int)=(G.tk 0).l7;rw[u]⟩
 .rw[(k hi).1]at l;simp at l
open Ck (oW aga agq)
theorem akH.len(h:akH G o):o.length=G.ts.length:=by
 have d:(o.map λp=>p.1).Perm ((CX G.ts.length).map λn:Nat=>(n:Int)):=by
  rw[List.perm_ext_iff_of_nodup h.nd (by
   refine List.Pairwise.map _ (λa b q=>?_) List.nodup_range;intro z;exact q af)]
  intro a;constructor
  .intro c;obtain⟨p,e,rfl⟩:=C6.1 c;obtain⟨⟨g,i⟩,_⟩:=h.pr p e;grind
  .intro c;obtain⟨k,f,rfl⟩:=C6.1 c;exact h.all k (C8.1 f)
 have:=d.length_eq;simpa using this
variable{p:Int×Int}
def akH.row(h:akH G o)(c:o[i]?=G_ p):(cq G o)[p.1.toNat]?=G_ (i:Int):=by
 have f:(o.map λp=>p.1.toNat).Nodup:=by
  have d:=h.nd;unfold List.Nodup at d ⊢;rw[List.pairwise_map]at d ⊢;refine d.imp_of_mem fun{a b} ha hb q e=>q ?_;have g:=(h.pr a ha).1;have e2:=(h.pr b hb).1;omega
 have:=apF o 0 (dU G.ts.length 0) f (λp c=>by rw[nt];have:=(h.pr p c).1;omega) i p c
 rw[FM]at this;exact this
variable{r:List Int}
def ala:∀(o:List (Int×Int)) (T:List (List M_)) (k:Nat),(∀p∈o,(r.getD p.1.toNat 0).toNat≠k)->(Gc G r T o)[k]?=T[k]?
 |[],_,_,_=>rfl
 |p::o,T,k,h=>by
  show(Gc G r (T.set _ _) o)[k]?=_;rw[ala o _ k λq hq=>h q (by simp[hq]),r0 (h p bf)]
def atM:∀(o:List (Int×Int)) (T:List (List M_)),(o.map λp=>(r.getD p.1.toNat 0).toNat).Nodup->(∀p∈o,(r.getD p.1.toNat 0).toNat<T.length)->∀p∈o,(Gc G r T o)[(r.getD p.1.toNat 0).toNat]?=G_ (rowAt G r p)
 |[],_,_,_,p,hp=>by cases hp
 |q::o,T,hn,hl,p,hp=>by
  show(Gc G r (T.set _ _) o)[_]?=_;rw[z_,VN]at hn;rcases BP.1 hp with rfl|hp
  .rw[ala o _ _ λz a e=>hn.1 (C6.2 ⟨z,a,e⟩),uO (hl p bf)]
  .exact atM o _ hn.2 (λz a=>by rw[VJ];exact hl z (by simp[a])) p hp
def akH.ayY(h:akH G o)(a:o[i]?=G_ p):(cq G o).getD p.1.toNat 0=(i:Int):=by
 rw[m0,h.row a];rfl
theorem akH.tab(h:akH G o)(b:o[i]?=G_ p):(Yn G o)[i]?=G_ (rowAt G (cq G o) p):=by
 have c:o.map (λp=>((cq G o).getD p.1.toNat 0).toNat)=CX o.length:=by
  apply p_;intro k;rw[l8];by_cases a:k<o.length
  .obtain⟨q,hq⟩:∃z,o[k]?=G_ z:=⟨_,iH a⟩;rw[hq,List.getElem?_range a];show G_ (((cq G o).getD q.1.toNat 0).toNat)=_;rw[h.ayY hq];rfl
  .grind
 have:=atM (G:=G) o (dU G.ts.length (AO 0 0 0 0 0 0 (Oq #[]))) (by rw[c];exact List.nodup_range) (λq hq=>by
  obtain⟨k,a⟩:=n6 hq;rw[h.ayY a,nt,<-h.len];exact(kB.1 a).1) p (qn b)
 rw[h.ayY b]at this;exact this
def awx(T:List Kt)(x:Int):Int:=match GV T x with|some t=>t.parent|none=> -1
inductive Anc (T:List Kt):Int->Int->Prop
 |refl (x:Int):Anc T x x
 |up {x y:Int}:Anc T x (awx T y)->Anc T x y
variable{t:Kt}{x:Int}
def axk(h:GV T x=G_ t):awx T x=t.parent:=by unfold awx;rw[h]
variable{st:List Int}
def Dfs.rz(h:Dfs T st o):∀p∈o,p.2=awx T p.1/\∃t,GV T p.1=G_ t:=by
 induction h with
 |nil=>intro p hp;cases hp
 |cons h1 _ ih=>
  intro p hp;rcases BP.1 hp with rfl|hp
  .exact⟨(axk h1).symm,_,h1⟩
  .exact ih p hp
def aJ7(T:List Kt):Prop:=∀x t,GV T x=G_ t->∀k∈t.kids,awx T k=x
def KtT.aNl(h:KtT T):aJ7 T:=λx t c k d=>by
 obtain⟨_,g,e⟩:=xP c;obtain⟨a,b,y,f,i⟩:=h.kid _ t e k d;unfold awx GV;rw[HK af,f];show y.parent=x;omega
variable{l:List Int}{y:Int}
def aFK(h:∀k∈l,awx T k=y):l.filter (λk=>awx T k==x)=if y=x then l else []:=by
 split
 .rename_i e;exact List.filter_eq_self.2 λk a=>by rw[h k a,e];simp
 .rename_i e;exact Us.2 λk a=>by rw[h k a];simpa using e
def aKX(c:aJ7 T)(h:Dfs T st o):(∀p∈o,p.1≠x)->(o.filter λp=>p.2==x).map (λp=>p.1)=st.filter λk=>awx T k==x:=by
 induction h with
 |nil=>intro _;rfl
 |@cons y t st l h1 h2 ih=>
  intro b;have a:=ih λp d=>b p (by simp[d])
  have e:y≠x:=b (y,t.parent) bf;rw[Ur,aFK (c y t h1),HQ e,VM]at a;rw[mv,mv,axk h1];split
  .rw[z_,a]
  .exact a
def aL3(b:aJ7 T)(h:Dfs T st o):(o.map λp=>p.1).Nodup->(∀k∈st,awx T k≠x)->∀t,(∃p∈o,p.1=x)->GV T x=G_ t->awx T x≠x->(o.filter λp=>p.2==x).map (λp=>p.1)=t.kids:=by
 induction h with
 |nil=>intro _ _ t c;obtain⟨p,hp,_⟩:=c;cases hp
 |@cons y u st l h1 h2 ih=>
  intro d hs t c f g;rw[z_,VN]at d;have hs':∀k∈st,awx T k≠x:=λk a=>hs k (by simp[a])
  have i:¬u.parent=x:=by rw[<-axk h1];exact hs y bf
  rw[mv,HQ (by simpa using i)]
  by_cases e:y=x
  .subst e;rw[h1]at f;obtain rfl:=G_.inj f;rw[aKX b h2 λp hp q=>d.1 (C6.2 ⟨p,hp,q⟩),Ur,aFK (b _ u h1),HK rfl,Us.2 λk a=>by simpa using hs' k a,n_]
  .refine ih d.2 (λk a=>?_) t ?_ f g
   .rcases zw.1 a with q|q
    .rw[b y u h1 k q];exact e
    .exact hs' k q
   .obtain⟨p,hp,q⟩:=c;rcases BP.1 hp with rfl|hp
    .exact absurd q e
    .exact⟨p,hp,q⟩
def Chn(T:List Kt):List Int->Prop
 |[]=>True
 |[_]=>True
 |a::b::l=>Anc T (awx T b) (awx T a)/\Chn T (b::l)
def Chn.tail(h:Chn T (a::l)):Chn T l:=by
 cases l with
 |nil=>trivial
 |cons b l=>exact h.2
def aIv:∀{l:List Int} {y:Int} {st:List Int},(∀k∈l,awx T k=y)->Chn T st->(∀b,st.head?=G_ b->Anc T (awx T b) y)->Chn T (l++st)
 |[],_,_,_,h2,_=>h2
 |[a],y,st,h1,h2,h3=>by
  cases st with
  |nil=>trivial
  |cons b st=>exact⟨by rw[h1 a bf];exact h3 b rfl,h2⟩
 |a::b::l,y,st,h1,h2,h3=>⟨by rw[h1 a bf,h1 b bf];exact .refl _,aIv (l:=b::l) (λk c=>h1 k (by simp at c ⊢;right;exact c)) h2 h3⟩
def aL4(m:aJ7 T)(h:Dfs T st o):Chn T st->∀(j:Nat) (p q:Int×Int),o[j]?=G_ p->o[j+1]?=G_ q->Anc T q.2 p.1:=by
 induction h with
 |nil=>intro _ j p q a;simp at a
 |@cons y t st l h1 h2 ih=>
  intro g j p q a hq;have i:=m y t h1;have k:∀b,st.head?=G_ b->Anc T (awx T b) y:=λb hb=>by
   cases st with
   |nil=>cases hb
   |cons c st=>
    simp at hb;subst hb;exact .up g.1
  cases j with
  |zero=>
   simp at a;subst a;simp only[FM,gg]at hq;have d:l.head?=G_ q:=by rw[List.head?_eq_getElem?];exact hq
   have n:∃z u DC l',t.kids++st=z::DC/\l=(z,u.parent)::l'/\GV T z=G_ u:=by
    generalize t.kids++st=s2 at h2;cases h2 with
    |nil=>cases d
    |cons f _=>exact⟨_,_,_,_,rfl,rfl,f⟩
   obtain⟨z,u,DC,l',e,r,f⟩:=n;rw[r]at d;simp at d;subst d;show Anc T u.parent y;rw[<-axk f];cases ht:t.kids with
   |nil=>
    rw[ht,VM]at e;exact k z (by rw[e];rfl)
   |cons c cs=>
    rw[ht,S']at e;have:c=z:=(List.cons.inj e).1;subst this;rw[i c (by rw[ht];simp)]
    exact .refl _
  |succ j=>
   simp only[gg]at a hq;exact ih (aIv i g.tail k) j p q a hq
def akH.tb(h:akH G o):Yn G o=o.map (rowAt G (cq G o)):=by
 apply p_;intro i;rw[l8];by_cases hi:i<o.length
 .obtain⟨p,a⟩:∃p,o[i]?=G_ p:=⟨_,iH hi⟩;rw[h.tab a,a];rfl
 .have:=h.len;rw[s_ (by rw[adJ];omega),s_ af];rfl
def akH.aJ8(h:akH G o)(b:aU4 G):Dfs G.T [0] o:=by
 have a:=h.ok.dfs;rw[HQ (by have:=b.t.one;omega)]at a
 exact a
variable{x:Nat}
def akH.kids(h:akH G o)(a:aU4 G)(c:G.T[x]?=G_ t):(o.filter λp=>p.2==(x:Int)).map (λp=>p.1)=t.kids:=by
 have m:=(kB.1 c).1;have i:G.T.length=G.ts.length:=by have:=a.n;rw[U']at this;exact this
 have b:GV G.T (x:Int)=G_ t:=by unfold GV;rw[HK af,iZ];exact c
 have d:awx G.T 0= -1:=by
  obtain⟨y,f⟩:∃y,G.T[0]?=G_ y:=⟨_,iH (by have:=a.t.one;omega)⟩
  have:GV G.T 0=G_ y:=by unfold GV;rw[HK af];exact f
  rw[axk this,a.t.root y f]
 refine aL3 (x:=(x:Int)) a.t.aNl (h.aJ8 a) h.nd (λk g=>?_) t ?_ b ?_
 .simp at g;subst g;rw[d];omega
 .obtain⟨p,j,e⟩:=C6.1 (h.all x af);exact⟨p,j,e⟩
 .by_cases l:x=0
  .subst l;show awx G.T 0≠0;rw[d];decide
  .rw[axk b];have:=a.t.rz x t c af;omega
variable{q:Int×Int}
def akH.next(h:akH G o)(a:aU4 G)(b:o[j]?=G_ p)(hq:o[j+1]?=G_ q):Anc G.T q.2 p.1:=aL4 a.t.aNl (h.aJ8 a) trivial j p q b hq
def aGi(G:Gl)(r:List Int)(p:Int×Int):aUp:=
 let t:=G.tk p.1.toNat
 ⟨if 0<=p.2 then r.getD p.2.toNat 0 else -1,(G.P.getD t.l7.toNat (0,0,0,K_)).2.1,t.f.getD 0 0,G.K p.1.toNat,if G.K p.1.toNat<2 then 0 else G.V p.1.toNat,t.f.getD 18 0,t.gL⟩
def aun(G:Gl)(o:List (Int×Int)):List aUp:=o.map (aGi G (cq G o))
structure TbI (G:Gl):Prop where
 fn:∀x,x<G.ts.length->0<=(G.tk x).f.getD 0 0/\(G.tk x).f.getD 0 0<32
 k:∀x,x<G.ts.length->0<=G.K x/\G.K x<=4
 st:∀x,x<G.ts.length->0<=Ts G x/\Ts G x<=1048576
 c:∀x,x<G.ts.length->b01 (G.tk x).gL/\(G.tk x).gL.size<4611686018427387904
 v:∀x,x<G.ts.length->G.K x=4->G.V x=0
 n:∀x,x<G.ts.length->G.K x=0->Ts G x=0/\(G.tk x).gL.size=0
 q:∀x,x<G.ts.length->0<=(G.P.getD (G.tk x).l7.toNat (0,0,0,K_)).2.1/\(x=0->(G.P.getD (G.tk x).l7.toNat (0,0,0,K_)).2.1=0)
 pa:∀(x:Nat) t,G.T[x]?=G_ t->1<=x->G.K t.parent.toNat≠0/\(2<=G.K t.parent.toNat->2<=G.K x)
structure Evo (G G':Gl):Prop where
 q:∀x,x<G.ts.length->(G'.P.getD (G'.tk x).l7.toNat (0,0,0,K_)).2.1=(G.P.getD (G.tk x).l7.toNat (0,0,0,K_)).2.1/\(G'.tk x).f.getD 0 0=(G.tk x).f.getD 0 0
 T:∀(x:Nat) t,G.T[x]?=G_ t->∃t' z,G'.T[x]?=G_ t'/\t'.kids=t.kids++z/\(2<=G.K x->z=[])
 d:∀x,x<G.ts.length->2<=G.K x->G'.K x=G.K x/\G'.V x=G.V x/\Ts G' x=Ts G x/\(G'.tk x).gL=(G.tk x).gL
 r:∀x,x<G.ts.length->G.K x=1->G'.K x≠0/\Ts G x<=Ts G' x/\∃z,(G'.tk x).gL.data.toList=(G.tk x).gL.data.toList++z
def akH.tbl(h:akH G o):Yn G o=(aun G o).map aUp.val:=by
 rw[h.tb];unfold aun;rw[List.map_map];rfl
def aNm(f:aJ7 T)(h:Dfs T st o):∀(i:Nat) p,o[i]?=G_ p->(∃k q,k<i/\o[k]?=G_ q/\q.1=p.2)\/∃s∈st,p.2=awx T s:=by
 induction h with
 |nil=>intro i p d;simp at d
 |@cons y t st l h1 h2 ih=>
  intro i p d;cases i with
  |zero=>simp at d;subst d;exact E_ ⟨y,bf,(axk h1).symm⟩
  |succ i=>
   simp only[gg]at d;rcases ih i p d with⟨k,q,a,b,c⟩|⟨s,hs,e⟩
   .exact D_ ⟨k+1,q,af,by simpa using b,c⟩
   .rcases zw.1 hs with hs|hs
    .exact D_ ⟨0,_,af,rfl,by rw[e,f y t h1 s hs]⟩
    .exact E_ ⟨s,by simp[hs],e⟩
def akH.aNn(h:akH G o)(a:o[i]?=G_ p)(hq:o[j]?=G_ q)(e:p.1=q.1):i=j:=by
 have b:=h.ayY a;have h2:=h.ayY hq;rw[e]at b;omega
def akH.aOv(h:akH G o)(a:aU4 G):awx G.T 0= -1:=by
 obtain⟨y,b⟩:∃y,G.T[0]?=G_ y:=⟨_,iH (by have:=a.t.one;omega)⟩
 have:GV G.T 0=G_ y:=by unfold GV;rw[HK af];exact b
 rw[axk this,a.t.root y b]
def akH.at0(h:akH G o)(a:aU4 G):o[0]?=G_ (0, -1):=by
 have b:=h.aJ8 a;have e:=h.aOv a;cases b with
 |cons h1 _=>rw[axk h1]at e;rw[e];rfl
def akH.up(h:akH G o)(d:aU4 G)(f:o[i]?=G_ p)(hi:i≠0):0<=p.2/\∃k q,k<i/\o[k]?=G_ q/\q.1=p.2:=by
 rcases aNm d.t.aNl (h.aJ8 d) i p f with⟨k,q,a,b,c⟩|⟨s,hs,e⟩
 .have:=(h.pr q (qn b)).1;exact⟨af,k,q,a,b,c⟩
 .simp at hs;subst hs;rw[h.aOv d]at e;obtain⟨⟨l,m⟩,_,t,g,et⟩:=h.pr p (qn f);by_cases j:p.1=0
  .exact absurd (h.aNn f (h.at0 d) j) hi
  .have:=(d.t.rz _ t g af).1;omega
def aC2(a:o[i]?=G_ p):(aun G o)[i]?=G_ (aGi G (cq G o) p):=by unfold aun;rw[l8,a];rfl
def aNo(h:(aun G o)[i]?=G_ y1):∃p,o[i]?=G_ p/\y1=aGi G (cq G o) p:=by
 unfold aun at h;rw[l8]at h;cases hp:o[i]? with
 |none=>rw[hp]at h;cases h
 |some p=>rw[hp]at h;exact⟨p,rfl,(G_.inj h).symm⟩
def akH.aVD(h:akH G o)(d:aU4 G)(e:o[i]?=G_ p)(hi:i≠0):∃(k:Nat) (q:Int×Int),k<i/\o[k]?=G_ q/\q.1=p.2/\(aGi G (cq G o) p).p=k:=by
 obtain⟨f,k,q,a,b,c⟩:=h.up d e hi;refine⟨k,q,a,b,c,?_⟩;show(if 0<=p.2 then _ else(-1:Int))=_
 rw[HK f,<-c,h.ayY b]
def aNp(h:Anc T v y):y= -1->v= -1:=by
 induction h with
 |refl=>exact id
 |@up y _ ih=>intro e;exact ih (by rw[e];unfold awx GV;rfl)
variable{a b:Nat}
def aOs(h:akH G o)(e:aU4 G)(d:Anc G.T v y)(f:o[a]?=G_ p)(ex:p.1=v):∀{b:Nat} {q:Int×Int},o[b]?=G_ q->q.1=y->Wi (aun G o) (a:Int) (b:Int):=by
 induction d with
 |refl=>
  intro b q hq eq;obtain rfl:=h.aNn f hq (by rw[ex,eq])
  have:=(kB.1 f).1;exact .here af (by unfold aun;rw[U'];omega)
 |@up y d ih=>
  intro b q hq eq;have c:=(h.aJ8 e).rz q (qn hq);by_cases hb:b=0
  .subst hb;rw[h.at0 e]at hq;obtain rfl:=G_.inj hq;have j:awx G.T y= -1:=by rw[<-eq,<-c.1]
   rw[j]at d;have:=aNp d rfl;have:=(h.pr p (qn f)).1;omega
  .obtain⟨k,z,m,l,g,i⟩:=h.aVD e hq hb;refine .up (r:=aGi G (cq G o) q) af (by rw[iZ];exact aC2 hq) (by rw[i];omega) ?_
   rw[i];exact ih l (by rw[g,c.1,eq])
def akH.atW(h:akH G o)(f:aU4 G)(c:o[a]?=G_ p):∀n,n<=o.length->atW (aun G o) a n=((o.take n).filter λq=>q.2==p.1).map λq=>(cq G o).getD q.1.toNat 0
 |0,_=>rfl
 |n+1,hn=>by
  obtain⟨q,hq⟩:∃q,o[n]?=G_ q:=⟨_,iH af⟩;have e:o.take (n+1)=o.take n++[q]:=by
   rw[qz,hq];rfl
  rw[Go.Proofs.YthidhjhkmjjckaaGreatDoor.atW,h.atW f c n af,aC2 hq,e,Ur,VK];congr 1;have key:(aGi G (cq G o) q).p=(a:Int)↔q.2=p.1:=by
   have j:=(h.pr p (qn c)).1;show(if 0<=q.2 then _ else(-1:Int))=_↔_
   by_cases g:0<=q.2
   .rw[HK g];constructor
    .intro e2;have l:n≠0:=λz=>by
      subst z;rw[h.at0 f]at hq;obtain rfl:=G_.inj hq;simp at g
     obtain⟨_,k,z,_,i,b⟩:=h.up f hq l;have m:=h.ayY i;rw[b,e2]at m;have:a=k:=af;subst this;rw[c]at i;obtain rfl:=G_.inj i;exact b.symm
    .intro e2;rw[e2];exact h.ayY c
   .rw[HQ g];constructor
    iterate 2 intro e2;omega
  rw[mv,List.filter_nil];by_cases d:q.2=p.1
  .dsimp only;rw[HK (key.2 d),HK (by simpa using d),z_,h.ayY hq];rfl
  .dsimp only;rw[HQ λz=>d (key.1 z),HQ (by simpa using d)];rfl
def akH.aNq(h:akH G o)(b:aU4 G)(c:o[a]?=G_ p)(d:G.T[p.1.toNat]?=G_ t):Go.Proofs.YthidhjhkmjjckaaGreatDoor.atW (aun G o) a (aun G o).length=t.kids.map λk=>(cq G o).getD k.toNat 0:=by
 have f:=(h.pr p (qn c)).1;have e:=h.kids b (x:=p.1.toNat) d;have e2:((p.1.toNat:Nat):Int)=p.1:=af;rw[e2]at e;unfold aun;rw[U'];show Go.Proofs.YthidhjhkmjjckaaGreatDoor.atW (aun G o) a o.length=_;rw[h.atW b c o.length (iw _),List.take_length,<-e,List.map_map];rfl
def TbI.tab(h:akH G o)(f:aU4 G)(m:G.ts.length<=32768)(a:TbI G):aFR (aun G o):=by
 have F:(aun G o).length=o.length:=by unfold aun;rw[U']
 have A:=h.len;have H:=f.t.one;have B:G.T.length=G.ts.length:=by have:=f.n;rw[U']at this;exact this
 refine⟨af,af,λi r C=>?_⟩;obtain⟨p,b,rfl⟩:=aNo C;obtain⟨⟨p0,p1⟩,_,t,D,et⟩:=h.pr p (qn b);have d:p.1.toNat<G.ts.length:=af;have x:i=0↔p.1=0:=⟨λe=>by subst e;rw[h.at0 f]at b;obtain rfl:=G_.inj b;rfl,λe=>h.aNn b (h.at0 f) e⟩
 refine⟨?_,⟨(a.q _ d).1,λe=>(a.q _ d).2 (by have:=x.1 af;omega)⟩,a.fn _ d,a.k _ d,a.st _ d,(a.c _ d).1,(a.c _ d).2,λhv=>?_,λe=>a.n _ d e,λhi r' l=>?_⟩
 .split
  .rename_i e;have e:i=0:=af;subst e;rw[h.at0 f]at b;obtain rfl:=G_.inj b;rfl
  .rename_i e;have e:i≠0:=af;obtain⟨k,q,y,hq,eq,s⟩:=h.aVD f b e;rw[s];refine⟨af,af,?_⟩;obtain⟨j,rfl⟩:∃j,i=j+1:=⟨i - 1,af⟩;obtain⟨z,u⟩:∃z,o[j]?=G_ z:=⟨_,iH (by have:=(kB.1 b).1;omega)⟩
   have e2:(((j+1:Nat):Int) - 1)=(j:Int):=af;rw[e2];exact aOs h f (h.next f u b) hq eq u rfl
 .have hv:(if G.K p.1.toNat<2 then 0 else G.V p.1.toNat)≠0:=hv
  show G.K p.1.toNat=2\/G.K p.1.toNat=3;have y:=a.k _ d;split at hv
  .exact absurd rfl hv
  .have:G.K p.1.toNat≠4:=λe=>hv (a.v _ d e);omega
 .have hi:i≠0:=af;obtain⟨k,q,y,hq,eq,s⟩:=h.aVD f b hi;rw[s,iZ,aC2 hq]at l;obtain rfl:=G_.inj l;have u:p.1≠0:=λe=>hi (x.2 e);have g:=a.pa _ t D af;rw[<-et,<-eq]at g;refine⟨g.1,λm=>?_⟩;have m:2<=G.K q.1.toNat:=by simpa[arf,aGi]using m
  show L_ (2<=G.K p.1.toNat)=J_;simpa using g.2 m
def getD_map{f:Int->Int}(a:i<l.length):(l.map f).getD i 0=f (l.getD i 0):=by
 rw[m0,m0,l8,iH a];rfl
def Evo.gr(e:Evo G G')(h:akH G o)(h':akH G' o')(x:aU4 G)(g:aU4 G'):∀(n:Nat) {a b:Nat} {p q:Int×Int},G.ts.length - p.1.toNat<=n->o[a]?=G_ p->o'[b]?=G_ q->q.1=p.1->GrT (aun G o) (aun G' o') n a b:=by
 intro n;induction n with
 |zero=>
  intro a b p q O i hq eq;have:=(h.pr p (qn i)).1;omega
 |succ n ih=>
  intro a b p q O i hq eq;obtain⟨⟨p0,p1⟩,_,t,A,et⟩:=h.pr p (qn i);have u:p.1.toNat<G.ts.length:=af;obtain⟨t',z,j,J,Q⟩:=e.T _ t A;have v:=h.aNq x i A;have k2:=h'.aNq g hq (by rw[eq];exact j)
  rw[J]at k2;have B:(atW (aun G o) a (aun G o).length).length=t.kids.length:=by rw[v,U']
  refine⟨_,_,⟨af,by rw[iZ];exact aC2 i⟩,⟨af,by rw[iZ];exact aC2 hq⟩,⟨⟨?_,?_,?_⟩,λh2=>?_,λC=>?_⟩,λk l=>?_⟩
  .show(G.P.getD _ _).2.1=(G'.P.getD (G'.tk q.1.toNat).l7.toNat _).2.1;rw[eq];exact(e.q _ u).1.symm
  .show(G.tk _).f.getD 0 0=(G'.tk q.1.toNat).f.getD 0 0;rw[eq];exact(e.q _ u).2.symm
  .rw[v,k2,U',U',uv];omega
  .have h2:2<=G.K p.1.toNat:=h2;obtain⟨L,R,S,U⟩:=e.d _ u h2;refine⟨by rw[v,k2,Q h2,n_,U',U'],?_,?_,?_,?_⟩
   .show G.K _=G'.K q.1.toNat;rw[eq];exact L.symm
   .show(if G.K p.1.toNat<2 then(0:Int)else G.V p.1.toNat)=if G'.K q.1.toNat<2 then 0 else G'.V q.1.toNat
    rw[eq,L,R]
   .show Ts G _=Ts G' q.1.toNat;rw[eq];exact S.symm
   .show(G.tk _).gL=(G'.tk q.1.toNat).gL;rw[eq];exact U.symm
  .have C:G.K p.1.toNat=1:=C;obtain⟨W,X,Y⟩:=e.r _ u C;refine⟨?_,?_,?_⟩
   .show G'.K q.1.toNat≠0;rw[eq];exact W
   .show Ts G _<=Ts G' q.1.toNat;rw[eq];exact X
   .show∃z,(G'.tk q.1.toNat).gL.data.toList=_;rw[eq];exact Y
  .rw[B]at l;rw[v,k2,getD_map l,getD_map (by rw[uv];omega)]
   have Z:(t.kids++z).getD k 0=t.kids.getD k 0:=by
    rw[m0,m0,tJ l]
   rw[Z];have M:t.kids.getD k 0∈t.kids:=by rw[m0,iH l];exact nX l
   have D:=x.t.kid _ t A _ M;have hTl:G.T.length=G.ts.length:=by have:=x.n;rw[U']at this;exact this
   have F:=g.t.kid _ t' j (t.kids.getD k 0) (by rw[J];exact hG _ M)
   have aUf:G'.T.length=G'.ts.length:=by have:=g.n;rw[U']at this;exact this
   generalize t.kids.getD k 0=y at D F;obtain⟨c,hc,H⟩:=C6.1 (h.all y.toNat af);obtain⟨a',m⟩:=n6 hc;obtain⟨c',ES,I⟩:=C6.1 (h'.all y.toNat af);obtain⟨b',s⟩:=n6 ES;have N:=h.ayY m;have e2:=h'.ayY s;rw[H,iZ]at N;rw[I,iZ]at e2;rw[N,e2];exact ih af m s af
variable{l:Lc}
def aGz{J:Gl->List Wk->Prop}(n:aVa l P bw G Ws)(e:List Int)(h:J G Ws)
  (j:∀(ro iT:List Ro) (i:Nat) W,IV l P bw ro G Ws->SKI G Ws->Ws[i]?=G_ W->G.err=0->onF l G W=J_->e.getD 0 0=0->e.getD 1 0=i->rV l P bw ro iT G i W (ZB l P G W bw)->Stp l P ro G W (ZB l P G W bw).1 (ZB l P G W bw).2->J (ZB l P G W bw).1 (Ws.set i (ZB l P G W bw).2))
  (d:∀(ro:List Ro) tm (ids:List Int),IV l P bw ro G Ws->G.err=0->e.getD 0 0≠0->Ty l ro {G with time:=tm}->(∀x∈ids,0<=x/\x<G.C.length)->J (UX l {G with time:=tm} ids) Ws)
  (p:∀D,J {G with D:=D} Ws):J (evF l P (G,Ws) e).1.1 (evF l P (G,Ws) e).1.2:=by
 have q:=n.ord;obtain⟨ro,a,r⟩:=n;unfold evF SA;dsimp only;split
 .exact h
 rename_i b;have b:G.err=0:=mF.1 b;split
 .rename_i f;unfold ZC;split
  .split
   .rename_i s W k;split
    .rename_i t;rw[a.dl];obtain⟨iT,u,_⟩:=a.step k b;exact j ro iT _ W a r k b t.1 f af u (aib (a.cx k b) a.fr)
    .exact h
   .exact h
  .exact h
 rename_i f;split
 .unfold ZD;split
  .rename_i v;exact d ro _ _ a b f {a.ty with ck:=a.ty.ck.adv v,Qn:=λy m=>a.ty.Qn y (C5.1 m).1} λx g=>by
    obtain⟨y,m,rfl⟩:=C6.1 g;have o:=(C5.1 m).1;exact⟨a.ty.ck.ids y o,a.ty.Qn y o⟩
  .exact h
 split
 .split
  .exact p _
  .exact h
 split
 .unfold ZF;split
  .rename_i s;split
   .exact h
   .have c:(e.getD 1 0).toNat<(da G (aaC G)).length:=af;have z:(da G (aaC G)).getD (e.getD 1 0).toNat 0=(da G (aaC G))[(e.getD 1 0).toNat]'c:=by rw[m0,iH c];rfl
    exact d ro G.time [(da G (aaC G)).getD (e.getD 1 0).toNat 0] a b f a.ty λx g=>by
     simp only[hM]at g;rw[g,z];exact q.sr _ (nX c)
  .exact h
 .exact h
def amh(G:Gl)(x:Nat):Option Int:=(G.T[x]?).map λt=>t.parent
def InO(G:Gl):Prop:=∀x,x<G.ts.length->∃q,(G.P.map plq)[(G.tk x).l7.toNat]?=G_ q/\amh G x=G_ q.1/\((q.1= -1/\(G.tk x).l7=0)\/0<=q.1)
variable{t:Tk}
def aBr{p:Int}(h:∃t,GV T p=G_ t):(∀x,x<T.length->((Hz T p)[x]?).map (λt=>t.parent)=(T[x]?).map λt=>t.parent)/\((Hz T p)[T.length]?).map (λt=>t.parent)=G_ p:=by
 obtain⟨t,a⟩:=h;unfold Hz;rw[a];dsimp only;refine⟨λx b=>?_,?_⟩
 .rw[tJ (by rw[VJ];exact b)]
  by_cases e:p.toNat=x
  .subst e;rw[uO b];unfold GV at a;split at a
   .rw[a];rfl
   .cases a
  .rw[r0 e]
 .rw[u0 (by rw[VJ];exact iw _),VJ,Nat.sub_self];rfl
def InO.keep(h:InO G)(a:∀i,i<G.ts.length->(G'.tk i).l7=(G.tk i).l7)(c:G'.ts.length=G.ts.length)(d:G'.T=G.T)(e:∀(s:Nat) q,(G.P.map plq)[s]?=G_ q->(G'.P.map plq)[s]?=G_ q):InO G':=λx b=>by
 rw[c]at b;obtain⟨q,f,h2,g⟩:=h x b;refine⟨q,?_,?_,by rw[a x b];exact g⟩
 .rw[a x b];exact e _ _ f
 .unfold amh;rw[d];exact h2
def InO.step(h:InO G)(p:OpI G)(r:SKI G Ws)(C:IV l P bw ro G Ws)(hi:Ws[i]?=G_ W)(D:G.err=0)(hr:rV l P bw ro iT G i W (G',W'))(hs:Stp l P ro G W G' W'):InO G':=by
 have c:=C.cx hi D;have u:W.stack≠ []->W.tp<G.ts.length:=λq=>(c.top q).2;have a:∀y,y<G.ts.length->(G'.tk y).l7=(G.tk y).l7:=λy J=>(hr.Cd.ids y J).1;have same:G'.ts.length=G.ts.length->G'.T=G.T->G'.P.map plq=G.P.map plq->InO G':=λj e2 v=>h.keep a j e2 λs q hq=>by rw[v];exact hq
 have more:∀z,G'.ts.length=G.ts.length->G'.T=G.T->G'.P=G.P++[z]->InO G':=λz j e2 v=>h.keep a j e2 λs q hq=>by
  rw[v,VK,tJ (kB.1 hq).1];exact hq
 have d:∀{x:Nat} {t:Tk},(G.ts.set x t).length=G.ts.length:=VJ;cases hs with
 |quiet q k o _=>exact same rfl rfl rfl
 |fail q D k o=>exact same rfl rfl rfl
 |jq hd h0=>exact same rfl rfl rfl
 |start hd k=>exact same d rfl rfl
 |aeR ne rn lt hn q k o=>exact same d rfl rfl
 |ends ne hc q k o V=>exact same d rfl rfl
 |unwind ne hd e ho k hu hw=>exact same d rfl (aio _ _)
 |cancel ne hd rn F lt=>exact same d rfl rfl
 |put ne hd e ho k4=>exact same rfl rfl rfl
 |fin ne hd e ho=>exact same rfl rfl rfl
 |asks ne hd=>exact same rfl rfl rfl
 |gone ne hd e ho k hw=>exact same rfl rfl rfl
 |gL ne hd rn h12 lt=>exact same d rfl (aio _ _)
 |tF ne hd rn=>exact same rfl rfl rfl
 |fork ne hd rn h8 rm=>exact more _ rfl rfl rfl
 |opens ne hd rn h11 lt rm K=>exact more _ d rfl rfl
 |xo ne hd rn h8 lt rm=>
  have m:=u ne;obtain⟨L,j,e2⟩:=agB (P:=P) m;have H:=(C.ty.qh m).id;have A:G.T.length=G.ts.length:=by have:=r.sk.n;rw[U']at this;exact this
  obtain⟨t,M⟩:∃t,GV G.T (G.tk W.tp).id=G_ t:=by
   unfold GV;rw[HK af,H,iZ];exact⟨_,iH af⟩
  obtain⟨N,k2⟩:=aBr ⟨t,M⟩;obtain⟨b0,b,hb⟩:=r.fk i W hi hd;have f:((aFY P G W).P.map plq)=(G.P.map plq).set W.own.toNat ((G.T.length:Nat),0,0):=by
   show(G.P.set _ _).map plq=_;rw[o3];rfl
  have I:∀(s:Nat) q,(G.P.map plq)[s]?=G_ q->(q.1= -1\/0<=q.1)->((aFY P G W).P.map plq)[s]?=G_ q:=λs q hq g=>by
   rw[f,r0]
   .exact hq
   .intro e;rw[e,hq]at hb;have:=G_.inj hb;rw[this]at g;simp at g
  intro x B;rw[L]at B;by_cases e:x<G.ts.length
  .obtain⟨q,O,h2,g⟩:=h x e;refine⟨q,?_,?_,by rw[a x e];exact g⟩
   .rw[a x e];exact I _ _ O (g.imp (λz=>z.1) id)
   .unfold amh at h2 ⊢;show((Hz G.T (G.tk W.tp).id)[x]?).map _=_;rw[N x af];exact h2
  .have e:x=G.ts.length:=af;subst e;have Q:=p _ m _ (avY rn.cJ);obtain⟨k,R⟩:=n6 Q;obtain⟨_,q,S,U,_⟩:=r.sk.own W.tp _ (by rw[l8,G.xw m];rfl) k _ R
   refine⟨q,?_,?_,E_ af⟩
   .rw[e2];exact I _ _ S (E_ af)
   .unfold amh;show((Hz G.T (G.tk W.tp).id)[G.ts.length]?).map _=_;rw[<-A,k2,H,U]
def aHd(m:Lm):InO (eY m):=λx b=>by
 have c:=aoi m;have:x=0:=af;subst this;obtain⟨aUo,a⟩:=aws m;refine⟨(-1,0,0),?_,?_,D_ ⟨rfl,by rw[a]⟩⟩
 .rw[a,ahN];rfl
 .unfold amh;rw[aDT];rfl
open Fr (nE)
structure AsI (G:Gl) (Ws:List Wk):Prop where
 op:OpI G
 ak:AkI G Ws
 ino:InO G
def OpI.step(h:OpI G)(c:Cx l P bw ro G i W)(s:rV l P bw ro iT G i W (G',W'))(hs:Stp l P ro G W G' W'):OpI G':=by
 have b:W.stack≠ []->W.tp<G.ts.length:=λq=>(c.top q).2;have same:G'.ts=G.ts->OpI G':=λe x d=>by
  have:G'.tk x=G.tk x:=by unfold Gl.tk;rw[e]
  rw[this];exact h x (by rw[<-e];exact d)
 have one:∀{z:Nat} {t1:Tk},z<G.ts.length->G'.ts=G.ts.set z t1->(∀p∈t1.cJ,p.1∈t1.scopes)->OpI G':=fun{z t1} hz e ht x d=>by
  have j:G'.ts.length=G.ts.length:=by rw[e,VJ]
  have:G'.tk x=if x=z then t1 else G.tk x:=by
   unfold Gl.tk;rw[e];by_cases q:x=z
   .subst q;rw[uO hz,HK rfl];rfl
   .rw[r0 (Ne.symm q),HQ q]
  rw[this];split
  .exact ht
  .exact h x af
 have old:∀{z:Nat} {t1:Tk},z<G.ts.length->G'.ts=G.ts.set z t1->(∀p∈t1.cJ,p∈(G.tk z).cJ)->t1.scopes=(G.tk z).scopes->OpI G':=fun{z t1} hz e h1 h2=>one hz e λp a=>by rw[h2];exact h z hz p (h1 p a)
 cases hs with
 |quiet q k o _=>exact same rfl
 |fail q he k o=>exact same rfl
 |jq hd h0=>exact same rfl
 |tF ne hd rn=>exact same rfl
 |put ne hd e ho k4=>exact same rfl
 |fin ne hd e ho=>exact same rfl
 |asks ne hd=>exact same rfl
 |gone ne hd e ho k hw=>exact same rfl
 |fork ne hd rn h8 rm=>exact same rfl
 |start hd k=>
  have g:W.jq.toNat∈W.hold:=by unfold Wk.hold;simp[hd]
  have ct:=c.ct;unfold cD at ct;rw[hd]at ct;refine one (c.wt.hl _ g) rfl λp a=>?_;simp only[hM]at a;rw[a];show _∈(G.tk W.jq.toNat).scopes;rw[ct.2.2.sc];simp
 |aeR ne rn lt hn q k o=>exact old (b ne) rfl (λp a=>by rw[hn.sm.2.1]at a;exact a) hn.sm.2.2.1
 |ends ne hc q k o t=>exact old (b ne) rfl (λp a=>a) rfl
 |cancel ne hd rn m lt=>exact old (b ne) rfl (λp a=>a) rfl
 |gL ne hd rn h12 lt=>exact old (b ne) (t1:=aHe P G W) rfl (λp a=>(kj _) a) rfl
 |unwind ne hd e ho k hu hw=>exact old (b ne) (t1:={G.tk W.tp with cJ:=(G.tk W.tp).cJ.dropLast}) rfl (λp a=>(kj _) a) rfl
 |opens ne hd rn h11 lt rm n=>
  refine one (b ne) (t1:={G.tk W.tp with scopes:=(G.tk W.tp).scopes++[((G.C.length:Nat):Int)],cJ:=(G.tk W.tp).cJ++[(((G.C.length:Nat):Int),W.mark)],f:=nE (G.tk W.tp).f}) rfl λp a=>?_
  rcases zw.1 a with q|q
  .exact hG _ (h _ (b ne) p q)
  .simp only[hM]at q;rw[q];simp
 |xo ne hd rn h8 lt rm=>
  have d:=b ne;obtain⟨j,r,e2⟩:=agB (P:=P) d;intro y u;by_cases q:y<G.ts.length
  .rw[r y q];split
   .exact h _ d
   .exact h y q
  .have:y=G.ts.length:=af;rw[this,e2];exact λp a=>by cases a
def AsI.drv(h:AsI G Ws)(b:G'.ts=G.ts)(e:G'.P=G.P)(f:G'.C=G.C)(j:G'.T=G.T)(k:∀x,x<G.ts.length->G'.K x=G.K x)(l:∀x,x<G.ts.length->SE G (G.tk x)->SE G' (G.tk x)):AsI G' Ws:=by
 have c:∀y,G'.tk y=G.tk y:=λy=>by unfold Gl.tk;rw[b]
 refine⟨λx a=>?_,⟨λx a d=>?_,λx a d=>?_,λs p g m=>?_,λi W hi n=>?_⟩,λx a=>?_⟩
 .rw[c];exact h.op x (by rw[<-b];exact a)
 .rw[b]at a;rw[c]at d ⊢;exact l x a (h.ak.ca x a d)
 .rw[b]at a;rw[k x a]at d;rw[c];exact h.ak.k4 x a d
 .rw[e]at g;rw[f];simp only[c];exact h.ak.pc s p g m
 .rw[f];simp only[c];exact h.ak.aVi i W hi n
 .unfold amh;rw[b]at a;rw[c,e,j];exact h.ino x a
def AsI.ev(h:AsI G Ws)(n:aVa l P bw G Ws)(e:List Int):AsI (evF l P (G,Ws) e).1.1 (evF l P (G,Ws) e).1.2:=by
 refine aGz n e h (λro iT i W a g hi c _ _ _ d hs=>⟨h.op.step (a.cx hi c) d hs,h.ak.step h.op g a hi c d hs,h.ino.step h.op g a hi c d hs⟩) (λro tm ids a c _ j hs=>?_) λD=>h.drv rfl rfl rfl rfl (λ_ _=>rfl) λ_ _ q=>q;obtain⟨s,k2,m,k4,t⟩:=akc (ids:=ids) j hs;obtain⟨M,b⟩:=aaZ (l:=l) (G:={G with time:=tm}) ids;refine h.drv m (by rw[b];rfl) k4 (by rw[b];rfl) (λx f=>?_) λx f q=>?_
 .have o:=(a.ty.qh f).k;have p:(UX l {G with time:=tm} ids).tk x=G.tk x:=by unfold Gl.tk;rw[m]
  unfold Gl.K;rw[p,akN j hs o (λz q=>by cases q) (λq=>by cases q)]
 .have r:SE {G with time:=tm} (G.tk x):=q;exact r.imp k2 ⟨x,f,rfl⟩
def UZ.aNd(hf:UZ P y s lg sc):AsI (eY (MO y s lg)) (Bd (MO y s lg)):=by
 have c:=hf.B7;clear hf;generalize MO y s lg=m at*
 unfold awt at c;simp only[iY,decide_eq_true_eq,Bool.not_eq_true',tL,C8,beq_iff_eq]at c;have t:=c.1.1.1.1.1.1.1.1.1;clear c;have n:=aoi m;obtain⟨aUo,f⟩:=aws m;obtain⟨z,o⟩:=aHc m;have q:=ahN m;have g:=aHd m;have j:∀{i:Nat} {W:Wk},(Bd m)[i]?=G_ W->W.cT= .m .rest:=λh=>by
  obtain⟨_,rfl⟩:=adF h;rfl
 generalize eY m=G at*
 have k:∀{x:Nat},x<G.ts.length->x=0:=λh=>by rw[n.1]at h;omega
 refine⟨λx d=>?_,⟨λx d e=>?_,λx d e=>?_,λs p a r=>?_,λi W hi l=>?_⟩,g⟩
 .rw[k d,f];intro p a;cases a
 .rw[k d,f]at e;simp at e
 .rw[k d]at e;omega
 .rw[q]at a;match s,a with
  |0,a=>simp at a;subst a;simp at r
  |1,a=>
   simp at a;subst a;exact⟨⟨0,1,z⟩,by rw[o];rfl,by rw[HK rfl,show(0:Int).toNat=0 from rfl,f]⟩
 .rw[j hi]at l;simp at l
end Go.Proofs.YthidhjhkmjjckaaGreatDoor
