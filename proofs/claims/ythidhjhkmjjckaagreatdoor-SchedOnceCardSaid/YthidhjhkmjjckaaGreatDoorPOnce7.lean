/-
  Parts of the proof of LOnce: printed by a program out of longer texts.
-/
import Derived.Test.YthidhjhkmjjckaaGreatDoorPOnce6
set_option linter.unusedSimpArgs false
set_option linter.unusedVariables false
set_option maxRecDepth 100000
set_option linter.defProp false
open Or renaming inl->D_,inr->E_
open Option renaming some->G_,some->G_
open Array renaming toList_append->s4
open ByteArray renaming data_append->s9
open Go.Ev renaming ints->ee
open Int renaming le_refl->mG
open List renaming exists_cons_of_ne_nil->kp,length_map->U',length_set->VJ,mem_range->C8,range->CX
open List renaming getElem?_eq_some_iff->kB,getElem?_eq_getElem->iH,getD_eq_getElem?_getD->m0,getElem?_append_left->tJ,getElem?_append_right->u0,getElem?_set_ne->r0,getElem?_set_self->uO,mem_of_getElem?->qn,getElem?_map->l8,eraseIdx->I7,insertIdx_succ_cons->aBT,insertIdx_zero->aBU,replicate->dU,mem_append->zw,length_append->uv,all_eq_true->tL
open Go.Sem renaming run_pure->cP,run_bind->cR
open Go.Result renaming andThen_ok->cK
open Bool renaming or_eq_false_iff->kf,and_eq_true->iY
open Option renaming isNone->eA
open Go.IntKind renaming wrap->aF
open Int renaming toNat_natCast->iZ
open Array renaming setIfInBounds->eS,getElem?_eq_some_iff->Bf
open Nat renaming le_refl->iw
open Go.Addr renaming add->aY
namespace Go.Proofs.YthidhjhkmjjckaaGreatDoor
open Go Go.Ev Go.Proofs
open Ko (CK)
open Ck (oW)
open Fr (A0 nE dY eI di iG jo nF o5)
structure OnI (G:Gl):Prop where
 fn:∀x,x<G.ts.length->G.K x≠0->0<=(G.tk x).f.getD 0 0/\(G.tk x).f.getD 0 0<32
 cl:∀x,x<G.ts.length->G.K x≠0->b01 (G.tk x).gL
 pk:∀(x:Nat) t,G.T[x]?=G_ t->1<=x->G.K t.parent.toNat≠0
 aVG:∀x,x<G.ts.length->G.V x≠0->2<=(G.tk x).kind/\(G.tk x).kind≠4
 p0:∃b,(G.P.map plq)[0]?=G_ (-1,0,b)
variable{G:Gl}{P:List dB}{l:Lc}{n:Nat}{ro:List Ro}{t t':Tk}
def aUT.fn(i:oW P)(j:Ty l ro G)(r:BT P n t)(h:aUT P G t t'):t'.f.getD 0 0=t.f.getD 0 0:=by
 have b:=r.fi.len;obtain⟨g,hv,c⟩:=r.fi.at i;have a:=c.pc;have d:=c.oV;cases h with
 |plain h=>exact(ajR d b a.1 a.2 h).elim (λq=>q.2.fn) (λq=>q.2.2.fn)
 |pass h=>exact(SB b a.1 a.2).fn
 |leave h=>exact(SB b a.1 a.2).fn
 |join h hy e hk hb=>exact(ahz d b a.1 a.2 h (j.k4 e hk) hb).fn
 |bad h hy e hk hb=>
  revert hb;dsimp only;unfold Fr.di;split
  .intro q;cases q
  split
  .intro q;cases q
  split
  .intro q;cases q
  .intro _;exact(avC b).fn
def aUT.k2(h:aUT P G t t')(a:t.kind=0):t'.kind=0\/(2<=t'.kind/\t'.kind≠4):=by
 cases h with
 |plain h=>exact D_ a
 |pass h=>exact D_ a
 |leave h=>refine E_ ?_;show 2<=(if _ then(3:Int)else 2)/\(if _ then(3:Int)else 2)≠4;split<;>decide
 |join h hy b hk hb=>exact D_ a
 |bad h hy b hk hb=>exact E_ ⟨show(2:Int)<=3 by decide,show(3:Int)≠4 by decide⟩
variable{b:Int}
structure Tch (G:Gl) (t t':Tk) (y:Nat):Prop where
 fn:t'.f.getD 0 0=t.f.getD 0 0
 cl:∃z,t'.gL.data.toList=t.gL.data.toList++z/\∀b∈z,b=48\/b=49
 kd:t'.kind=t.kind\/t.kind=0
 d:2<=G.K y->t'.f=t.f/\t'.gL=t.gL
variable{y:Nat}
def Tch.same:Tch G t t y:=⟨rfl,⟨[],bf,λb h=>by cases h⟩,D_ rfl,λ_=>⟨rfl,rfl⟩⟩
variable{G':Gl}{W W':Wk}{bw:List Int}{i:Nat}
def Stp.tch(c:Cx l P bw ro G i W)(h:Stp l P ro G W G' W')(s:y<G.ts.length):Tch G (G.tk y) (G'.tk y) y:=by
 have a:W.stack≠ []->W.tp<G.ts.length:=λq=>(c.top q).2;have same:G'.ts=G.ts->Tch G (G.tk y) (G'.tk y) y:=λe=>by
  have:G'.tk y=G.tk y:=by unfold Gl.tk;rw[e]
  rw[this];exact .same
 have one:∀{x:Nat} {t1:Tk},x<G.ts.length->G'.ts=G.ts.set x t1->Tch G (G.tk x) t1 x->Tch G (G.tk y) (G'.tk y) y:=fun{x t1} r e ht=>by
  have:G'.tk y=if y=x then t1 else G.tk y:=by
   unfold Gl.tk;rw[e];by_cases q:y=x
   .subst q;rw[uO r,HK rfl];rfl
   .rw[r0 (Ne.symm q),HQ q]
  rw[this];split
  .rename_i q;subst q;exact ht
  .exact .same
 have mem:W.stack≠ []->W.tp∈W.hold:=λq=>by
  obtain⟨z,st,e⟩:=kp q;unfold Wk.hold Wk.tp;rw[e];simp
 have n:W.stack≠ []->W.cT≠ .m .asks->W.cT≠ .m .gone->¬2<=G.K W.tp:=λq j h2 p=>by
  rcases c.wt.run _ (mem q)with e|⟨_,_,e|e⟩
  .omega
  .exact j e
  .exact h2 e
 have f1:∀{t1:Tk},t1.f=(G.tk W.tp).f->t1.gL=(G.tk W.tp).gL->(t1.kind=(G.tk W.tp).kind\/(G.tk W.tp).kind=0)->Tch G (G.tk W.tp) t1 W.tp:=λj h2 p=>⟨by rw[j],⟨[],by rw[h2];simp,λb h=>by cases h⟩,p,λ_=>⟨j,h2⟩⟩
 have f2:∀{t1:Tk},W.stack≠ []->W.cT≠ .m .asks->W.cT≠ .m .gone->t1.f.getD 0 0=(G.tk W.tp).f.getD 0 0->t1.gL=(G.tk W.tp).gL->(t1.kind=(G.tk W.tp).kind\/(G.tk W.tp).kind=0)->Tch G (G.tk W.tp) t1 W.tp:=λq t u j h2 p=>⟨j,⟨[],by rw[h2];simp,λb h=>by cases h⟩,p,λz=>absurd z (n q t u)⟩
 cases h with
 |quiet q k _ _=>exact same rfl
 |fail q he k o=>exact same rfl
 |jq hd h0=>exact same rfl
 |start hd k=>exact one (c.wt.hl _ (by unfold Wk.hold;simp[hd])) rfl ⟨rfl,⟨[],bf,λb h=>by cases h⟩,D_ rfl,λ_=>⟨rfl,rfl⟩⟩
 |aeR ne rn lt hn q k o=>exact one (a ne) rfl (f2 ne o.2.2.2.1 o.2.2.2.2 (hn.fn c.acc c.ty rn) hn.sm.2.2.2 (E_ rn.kind))
 |ends ne hc q k _ C k0=>exact one (a ne) rfl (f1 rfl rfl (E_ k0))
 |fork ne hd rn h8 rm=>exact same rfl
 |xo ne hd rn h8 lt rm=>
  have r:=a ne;obtain⟨D,v,e2⟩:=agB (P:=P) r;rw[v y s];split
  .rename_i q;subst q;refine f2 ne (by rw[hd];simp) (by rw[hd];simp) ?_ rfl (D_ rfl)
   show(eI (G.tk W.tp).f (bz P (G.tk W.tp).f) (G.ts.length:Nat)).getD 0 0=_;unfold Fr.eI;rw[HK (rn.fi.is8 c.acc h8)];have F:=rn.fi.aEM c.acc;show(A0 _ _).getD 0 0=_;rw[(avC (by rw[VJ];exact rn.fi.len)).fn,m6 af]
  .exact .same
 |tF ne hd rn=>exact same rfl
 |opens ne hd rn h11 lt rm A=>
  obtain⟨g,hv,d⟩:=rn.fi.at c.acc;exact one (a ne) rfl (f2 ne (by rw[hd];simp) (by rw[hd];simp) (SB rn.fi.len d.pc.1 d.pc.2).fn rfl (D_ rfl))
 |gL ne hd rn h12 lt=>
  obtain⟨g,hv,d⟩:=rn.fi.at c.acc;refine one (a ne) (t1:=aHe P G W) rfl ⟨(ahA d.oV rn.fi.len d.pc.1 d.pc.2 h12).fn,?_,D_ rfl,λz=>absurd z (n ne (by rw[hd];simp) (by rw[hd];simp))⟩
  show∃z,(_++(if (G.M.get (G.nd (G.tk W.tp).kA.1).at_ !=0)then ByteArray.mk #[49]else ByteArray.mk #[48])).data.toList=_/\_
  split
  .exact⟨[49],by rw[s9,s4],λb h=>by simp at h;exact E_ h⟩
  .exact⟨[48],by rw[s9,s4],λb h=>by simp at h;exact D_ h⟩
 |cancel ne hd rn B lt=>
  obtain⟨g,hv,d⟩:=rn.fi.at c.acc;exact one (a ne) rfl (f2 ne (by rw[hd];simp) (by rw[hd];simp) (SB rn.fi.len d.pc.1 d.pc.2).fn rfl (D_ rfl))
 |unwind ne hd e ho k hu hw=>exact one (a ne) (t1:={G.tk W.tp with cJ:=(G.tk W.tp).cJ.dropLast}) rfl (f1 rfl rfl (D_ rfl))
 |put ne hd e ho k4=>exact same rfl
 |fin ne hd e ho=>exact same rfl
 |asks ne hd=>exact same rfl
 |gone ne hd e ho k hw=>exact same rfl
def Stp.V(c:Cx l P bw ro G i W)(h:Stp l P ro G W G' W')(d:(G'.tk y).jI=(G.tk y).jI)(f:y<G.ts.length):G'.V y=G.V y\/(y=W.tp/\2<=(G.tk y).kind/\(G.tk y).kind≠4):=by
 have g:=(c.ty.qh f).v;have a:=h.cell c g trivial;unfold Gl.V;rw[d];generalize b:Ro.fv y=r at a;generalize j:G.M.get ((G.tk y).jI+1)=a0 at a;generalize hb:G'.M.get ((G.tk y).jI+1)=a1 at a;cases a with
 |same=>exact D_ rfl
 |put _ e=>
  obtain rfl:=Ro.fv.inj b;exact E_ ⟨rfl,e⟩
 |_=>cases b
variable{Ws:List Wk}{s:Int}
variable{z3:Int}
def Stp.aOw(c:SKI G Ws)(hi:Ws[i]?=G_ W)(h:Stp l P ro G W G' W'):∀(s:Nat) q,(G.P.map plq)[s]?=G_ q->(q.1= -1\/0<=q.1)->(G'.P.map plq)[s]?=G_ q:=by
 have same:∀{Q:List Pl},Q.map plq=G.P.map plq->∀(s:Nat) q,(G.P.map plq)[s]?=G_ q->(q.1= -1\/0<=q.1)->(Q.map plq)[s]?=G_ q:=λe s q h _=>by rw[e];exact h
 have more:∀(z:Pl) (s:Nat) q,(G.P.map plq)[s]?=G_ q->(q.1= -1\/0<=q.1)->((G.P++[z]).map plq)[s]?=G_ q:=λz s q h _=>by
  rw[List.map_append,tJ (kB.1 h).1];exact h
 cases h with
 |fork ne hd rn h8 rm=>exact more _
 |opens ne hd rn h11 lt rm d=>exact more _
 |gL ne hd rn h12 lt=>exact same (aio _ _)
 |unwind ne hd e ho k hu hw=>exact same (aio _ _)
 |xo ne hd rn h8 lt rm=>
  obtain⟨b0,b,hb⟩:=c.fk i W hi hd;intro s q hq a;show((G.P.set W.own.toNat ((G.T.length:Nat),0,0,false)).map plq)[s]?=_;rw[List.map_set,r0]
  .exact hq
  .intro e;rw[e,hq]at hb;have:=G_.inj hb;rw[this]at a;simp at a
 |_=>exact same rfl
def aKZ{Q:List Pl}{q:Int×Int×Int}(h:(Q.map Go.Proofs.YthidhjhkmjjckaaGreatDoor.plq)[n]?=G_ q):(Q.getD n (0,0,0,false)).2.1=q.2.1:=by
 rw[l8]at h;rw[m0];cases e:Q[n]? with
 |none=>rw[e]at h;cases h
 |some p=>rw[e]at h;obtain rfl:=G_.inj h;rfl
def Stp.T(n:IV l P bw ro G Ws)(c:Cx l P bw ro G i W)(h:Stp l P ro G W G' W'){t:Kt}(a:G.T[y]?=G_ t):∃t' z,G'.T[y]?=G_ t'/\t'.parent=t.parent/\t'.kids=t.kids++z/\(2<=G.K y->z=[]):=by
 have same:G'.T=G.T->∃t' z,G'.T[y]?=G_ t'/\t'.parent=t.parent/\t'.kids=t.kids++z/\(2<=G.K y->z=[]):=λe=>⟨t,[],by rw[e];exact a,rfl,bf,λ_=>rfl⟩
 cases h with
 |xo ne hd rn h8 lt rm=>
  have j:W.tp<G.ts.length:=(c.top ne).2;have b:=(c.ty.qh j).id;have f:=(kB.1 a).1;have k:=c.ty.kl;obtain⟨u,g⟩:∃u,G.T[W.tp]?=G_ u:=⟨_,iH af⟩;have d:GV G.T (G.tk W.tp).id=G_ u:=by unfold GV;rw[HK af,b,iZ];exact g
  show∃t' z,(Hz G.T (G.tk W.tp).id)[y]?=G_ t'/\_;unfold Hz;rw[d];dsimp only;rw[tJ (by rw[VJ];exact f)]
  by_cases e:y=W.tp
  .subst e;rw[g]at a;obtain rfl:=G_.inj a;refine⟨{u with kids:=u.kids++[(G.T.length:Int)]},[(G.T.length:Int)],?_,rfl,rfl,λh2=>?_⟩
   .rw[b,iZ,uO f]
   .have m:W.tp∈W.hold:=by
     obtain⟨z,st,e⟩:=kp ne;unfold Wk.hold Wk.tp;rw[e];simp
    rcases c.wt.run _ m with e|⟨_,_,e|e⟩
    .omega
    iterate 2 rw[hd]at e;cases e
  .refine⟨t,[],?_,rfl,bf,λ_=>rfl⟩;rw[b,iZ,r0 (Ne.symm e)];exact a
 |_=>exact same rfl
def Stp.new(c:Cx l P bw ro G i W)(s:aU4 G)(h:Stp l P ro G W G' W'):(G'.ts.length=G.ts.length/\G'.T=G.T)\/(G'.ts.length=G.ts.length+1/\G'.K G.ts.length=0/\G'.V G.ts.length=0/\G'.T.length=G.T.length+1/\G.K W.tp≠0/\W.tp<G.ts.length/\∃u,G'.T[G.T.length]?=G_ u/\u.parent=W.tp):=by
 have a:∀{x:Nat} {t:Tk},(G.ts.set x t).length=G.ts.length:=VJ;cases h with
 |xo ne hd rn h8 lt rm=>
  have b:W.tp<G.ts.length:=(c.top ne).2;have d:=(c.ty.qh b).id;have m:=c.ty.kl;obtain⟨n,v,e2⟩:=agB (P:=P) b;obtain⟨u,g⟩:∃u,G.T[W.tp]?=G_ u:=⟨_,iH af⟩;have f:GV G.T (G.tk W.tp).id=G_ u:=by unfold GV;rw[HK af,d,iZ];exact g
  have j:(aFY P G W).T=G.T.set W.tp {u with kids:=u.kids++[(G.T.length:Int)]}++[⟨(G.tk W.tp).id,u.kids.length,[]⟩]:=by
   show Hz G.T (G.tk W.tp).id=_;unfold Hz;rw[f];dsimp only;rw[d,iZ]
  refine E_ ⟨n,?_,?_,by rw[j];simp,?_,b,?_⟩
  .unfold Gl.K;rw[e2];exact Yf (M:=G.M.tick W.id) (mG _)
  .unfold Gl.V;rw[e2];exact Yf (M:=G.M.tick W.id) (by show((G.M.cells.length:Nat):Int)<=(G.M.cells.length:Nat)+1;omega)
  .have o:W.tp∈W.hold:=by
    obtain⟨z,st,e⟩:=kp ne;unfold Wk.hold Wk.tp;rw[e];simp
   rcases c.wt.run _ o with e|⟨e,_⟩<;>omega
  .refine⟨⟨(G.tk W.tp).id,u.kids.length,[]⟩,?_,by show(G.tk W.tp).id=_;rw[d]⟩
   rw[j,u0 (by rw[VJ];exact iw _),VJ,Nat.sub_self];rfl
 |start hd k=>exact D_ ⟨a,rfl⟩
 |aeR ne rn lt hn q k _=>exact D_ ⟨a,rfl⟩
 |ends ne hc q k _ y k0=>exact D_ ⟨a,rfl⟩
 |opens ne hd rn h11 lt rm p=>exact D_ ⟨a,rfl⟩
 |gL ne hd rn h12 lt=>exact D_ ⟨a,rfl⟩
 |cancel ne hd rn r lt=>exact D_ ⟨a,rfl⟩
 |unwind ne hd e ho k g hw=>exact D_ ⟨a,rfl⟩
 |_=>exact D_ ⟨rfl,rfl⟩
variable{iT:List Ro}
def OnI.step(h:OnI G)(p:SKI G Ws)(o:IV l P bw ro G Ws)(hi:Ws[i]?=G_ W)(D:G.err=0)(hr:rV l P bw ro iT G i W (G',W'))(hs:Stp l P ro G W G' W'):OnI G':=by
 have c:=o.cx hi D;have F:=c.ty.kl;have k:=λy (j:y<G.ts.length)=>hs.tch c j;have r:=λy (j:y<G.ts.length)=>(hr.Cd.ids y j).2.2;have d:=hs.new c p.sk;have fresh:∀y,y<G.ts.length->G.K y=0->(0<=(G.tk y).f.getD 0 0/\(G.tk y).f.getD 0 0<32)/\b01 (G.tk y).gL:=λy j n=>by
  have s:=o.fr y j n;obtain⟨g,H,_⟩:=s.fi.fn;have:=(kB.1 H).1;have:=o.acc.n1;refine⟨⟨s.fi.f0,af⟩,by rw[s.cl];intro b hb;cases hb⟩
 have old:∀y,y<G.ts.length->(0<=(G.tk y).f.getD 0 0/\(G.tk y).f.getD 0 0<32)/\b01 (G.tk y).gL:=λy j=>by
  by_cases n:G.K y=0
  .exact fresh y j n
  .exact⟨h.fn y j n,h.cl y j n⟩
 refine⟨λy j v=>?_,λy j v=>?_,λy t m B=>?_,λy j hv=>?_,?_⟩
 .by_cases a:y<G.ts.length
  .rw[(k y a).fn];exact(old y a).1
  .rcases d with⟨e,_⟩|⟨e,e2,_⟩
   .omega
   .exact absurd (by rw[show y=G.ts.length by omega];exact e2) v
 .by_cases a:y<G.ts.length
  .obtain⟨z,I,hb⟩:=(k y a).cl;intro b C;rw[I]at C;rcases zw.1 C with q|q
   .exact(old y a).2 b q
   .exact hb b q
  .rcases d with⟨e,_⟩|⟨e,e2,_⟩
   .omega
   .exact absurd (by rw[show y=G.ts.length by omega];exact e2) v
 .by_cases a:y<G.T.length
  .obtain⟨u,x⟩:∃u,G.T[y]?=G_ u:=⟨_,iH a⟩;obtain⟨t',z,J,e2,_⟩:=hs.T o c x;rw[J]at m;obtain rfl:=G_.inj m;have N:=p.sk.t.rz y u x B;rw[e2];exact λq=>h.pk y u x B (hr.Cd.K0 _ af q)
  .rcases d with⟨_,e⟩|⟨_,_,_,e,e2,A,u,L,M⟩
   .rw[e]at m;have:=(kB.1 m).1;omega
   .have:=(kB.1 m).1;rw[show y=G.T.length by omega,L]at m
    obtain rfl:=G_.inj m;rw[M,iZ];exact λq=>e2 (hr.Cd.K0 _ A q)
 .by_cases a:y<G.ts.length
  .rcases hs.V c (r y a) a with e|⟨e,e2,A⟩
   .rw[e]at hv;have h2:=h.aVG y a hv;rcases (k y a).kd with q|q
    .rw[q];exact h2
    .omega
   .rcases (k y a).kd with q|q
    .rw[q];exact⟨e2,A⟩
    .omega
  .rcases d with⟨e,_⟩|⟨e,_,e2,_⟩
   .omega
   .exact absurd (by rw[show y=G.ts.length by omega];exact e2) hv
 .obtain⟨b,hb⟩:=h.p0;exact⟨b,hs.aOw p hi 0 _ hb (D_ rfl)⟩
def Evo.step(g:aVo l G Ws)(hO:InO G)(o:SKI G Ws)(j:IV l P bw ro G Ws)(hi:Ws[i]?=G_ W)(p:G.err=0)(hr:rV l P bw ro iT G i W (G',W'))(hs:Stp l P ro G W G' W'):Evo G G':=by
 have c:=j.cx hi p;have b:=λy (a:y<G.ts.length)=>hs.tch c a;refine⟨λy a=>⟨?_,(b y a).fn⟩,λy t r=>?_,λy a h2=>?_,λy a f=>⟨λq=>?_,?_,?_⟩⟩
 .obtain⟨q,f,_,k⟩:=hO y a;rw[(hr.Cd.ids y a).1,aKZ f,aKZ (hs.aOw o hi _ _ f (k.imp (λz=>z.1) id))]
 .obtain⟨t',z,u,_,e2,v⟩:=hs.T j c r;exact⟨t',z,u,e2,v⟩
 .obtain⟨A,k2⟩:=hr.Cd.K2 y a h2;obtain⟨B,C⟩:=(b y a).d h2;exact⟨A,k2,by unfold Ts;rw[B],C⟩
 .have:=hr.Cd.K0 y a q;omega
 .have D:=(hs.cnt c).s;have m:=g.hd.nn;rcases D with⟨_,_,e⟩|⟨x,n,_,_,_,e⟩
  .rw[e y a];exact mG _
  .rw[e y a];split
   .rename_i q;subst q;have f:=ap0 m n;rw[g.hd.st]at f;have h2:=g.hd.sl.2;have k:=g.hd.aUo;have H:=m y n;rw[show wr (Ts G y+1)=Ts G y+1 from dh ⟨af,af⟩];omega
   .exact mG _
 .obtain⟨z,F,_⟩:=(b y a).cl;exact⟨z,F⟩
open Ko (ni CK)
structure Sam (G G':Gl):Prop where
 ts:G'.ts=G.ts
 T:G'.T=G.T
 P:G'.P=G.P
 K:∀x,x<G.ts.length->G'.K x=G.K x/\G'.V x=G.V x
def Sam.evo(h:Sam G G'):Evo G G':=by
 have c:∀x,G'.tk x=G.tk x:=λx=>by unfold Gl.tk;rw[h.ts]
 have a:Ts G'=Ts G:=funext λx=>by unfold Ts;rw[c]
 refine⟨λx b=>by rw[c,h.P];exact⟨rfl,rfl⟩,λx t d=>⟨t,[],by rw[h.T];exact d,bf,λ_=>rfl⟩,λx b _=>⟨(h.K x b).1,(h.K x b).2,by rw[a],by rw[c]⟩,λx b e=>⟨by rw[(h.K x b).1];omega,by rw[a];exact mG _,[],by rw[c];simp⟩⟩
def Sam.on(h:Sam G G')(f:aU4 G)(b:OnI G):OnI G':=by
 have e:∀x,G'.tk x=G.tk x:=λx=>by unfold Gl.tk;rw[h.ts]
 have i:G.T.length=G.ts.length:=by have:=f.n;rw[U']at this;exact this
 refine⟨λx a c=>?_,λx a c=>?_,λx t d g=>?_,λx a hv=>?_,by rw[h.P];exact b.p0⟩
 .rw[h.ts]at a;rw[(h.K x a).1]at c;rw[e];exact b.fn x a c
 .rw[h.ts]at a;rw[(h.K x a).1]at c;rw[e];exact b.cl x a c
 .rw[h.T]at d;have j:=(kB.1 d).1;have:=f.t.rz x t d g;rw[(h.K _ af).1];exact b.pk x t d g
 .rw[h.ts]at a;rw[(h.K x a).2]at hv;rw[e];exact b.aVG x a hv
def aP1(j:aVa l P bw G Ws)(r:aVo l G Ws)(hO:InO G)(h:OnI G)(e:List Int):OnI (evF l P (G,Ws) e).1.1/\Evo G (evF l P (G,Ws) e).1.1/\(e.getD 0 0≠0->Sam G (evF l P (G,Ws) e).1.1):=by
 have b:=j;obtain⟨_,_,b⟩:=b;have a:∀{G'},Sam G G'->OnI G'/\Evo G G'/\(e.getD 0 0≠0->Sam G G'):=λq=>⟨q.on b.sk h,q.evo,λ_=>q⟩;refine aGz (J:=λG' _=>OnI G'/\Evo G G'/\(e.getD 0 0≠0->Sam G G')) j e (a ⟨rfl,rfl,rfl,λ_ _=>⟨rfl,rfl⟩⟩) (λro iT i W c b hi f _ s _ m hs=>⟨h.step b c hi f m hs,.step r hO b c hi f m hs,λq=>absurd s q⟩) (λro tm ids c f _ g hs=>?_) λD=>a ⟨rfl,rfl,rfl,λ_ _=>⟨rfl,rfl⟩⟩;obtain⟨t,k2,n,k4,u⟩:=akc (ids:=ids) g hs;obtain⟨M,d⟩:=aaZ (l:=l) (G:={G with time:=tm}) ids;have o:∀x,(UX l {G with time:=tm} ids).tk x=G.tk x:=λx=>by unfold Gl.tk;rw[n]
 refine a ⟨n,by rw[d];rfl,by rw[d];rfl,λx p=>⟨?_,?_⟩⟩
 .unfold Gl.K;rw[o,akN g hs (c.ty.qh p).k (λz q=>by cases q) (λq=>by cases q)]
 .unfold Gl.V;rw[o,akN g hs (c.ty.qh p).v (λz q=>by cases q) (λq=>by cases q)]
def aVa.tbi(B:aVa l P bw G Ws)(f:aVo l G Ws)(hO:InO G)(h:OnI G):TbI G:=by
 obtain⟨ro,d,p⟩:=B;have v:=d.ty.cap;have C:=d.ty.kl;have m:∀x,x<G.ts.length->∃q,(G.P.map plq)[(G.tk x).l7.toNat]?=G_ q/\(∃t,G.T[x]?=G_ t/\t.parent=q.1)/\((q.1= -1/\(G.tk x).l7=0)\/0<=q.1):=λx a=>by
  obtain⟨q,c,h2,h3⟩:=hO x a;refine⟨q,c,?_,h3⟩;unfold amh at h2;cases e:G.T[x]? with
  |none=>rw[e]at h2;cases h2
  |some t=>rw[e]at h2;exact⟨t,rfl,G_.inj h2⟩
 refine⟨λx a=>?_,λx a=>d.ty.val _ _ (d.ty.qh a).k,λx a=>⟨f.hd.nn x a,?_⟩,λx a=>?_,λx a n=>?_,λx a i=>?_,λx a=>?_,λx t j c=>⟨h.pk x t j c,λh2=>?_⟩⟩
 .by_cases i:G.K x=0
  .have o:=d.fr x a i;obtain⟨g,D,_⟩:=o.fi.fn;have:=(kB.1 D).1;have:=d.acc.n1;have:=o.fi.f0;omega
  .exact h.fn x a i
 .have c:=ap0 f.hd.nn a;rw[f.hd.st]at c;have:=f.hd.sl.2;have:=f.hd.aUo;omega
 .have c:=(d.ty.qh a).sn;have h2:=(d.ty.qh a).sl;refine⟨?_,af⟩;by_cases i:G.K x=0
  .rw[(d.fr x a i).cl];intro b hb;cases hb
  .exact h.cl x a i
 .exact Classical.byContradiction λq=>(h.aVG x a q).2 (f.ak.k4 x a n)
 .have o:=d.fr x a i;exact⟨o.st,by rw[o.cl];rfl⟩
 .obtain⟨q,c,⟨t,j,h2⟩,h3⟩:=m x a;rw[aKZ c];rcases h3 with⟨h3,n⟩|h3
  .obtain⟨b,hb⟩:=h.p0;rw[n]at c;rw[show(0:Int).toNat=0 from rfl,hb]at c;obtain rfl:=G_.inj c;exact⟨mG _,λ_=>rfl⟩
  .obtain⟨_,y⟩:=p.sk.aUY _ _ c;obtain⟨l',z,r,F⟩:=y h3;refine⟨r,λe=>?_⟩;subst e;have:=p.sk.t.root t j;omega
 .have H:=(kB.1 j).1;obtain⟨q,h3,⟨u,A,n⟩,y⟩:=m x af;rw[j]at A;obtain rfl:=G_.inj A;have M:=p.sk.t.rz x t j c;obtain⟨_,z⟩:=p.sk.aUY _ _ h3;obtain⟨l',r,F,I⟩:=z af;have s:t.parent.toNat<G.ts.length:=af;rw[<-n,l8,G.xw s]at r;obtain rfl:=G_.inj r;have J:=(d.ty.qh (show x<G.ts.length by omega)).inn
  have L:(G.tk x).l7∈(G.tk t.parent.toNat).scopes:=by
   have:=qn I;rwa[show(((G.tk x).l7.toNat:Nat):Int)=(G.tk x).l7 by omega]at this
  rcases f.cl.op1 _ s (D_ h2) _ L with e|e
  .exact(f.cl.cl x af e).1
  .rw[f.cl.k2 _ s h2]at e;cases e
def aP3(m:Lm)(d:(eY m).K 0=0)(hv:(eY m).V 0=0):OnI (eY m):=by
 have f:=aoi m;have c:∀{x:Nat},x<(eY m).ts.length->x=0:=λh=>by rw[f.1]at h;omega
 refine⟨λx a b=>?_,λx a b=>?_,λx t e g=>?_,λx a q=>?_,⟨0,by rw[ahN];rfl⟩⟩
 iterate 2 rw[c a]at b;exact absurd d b
 .rw[aDT]at e;have:=(kB.1 e).1;simp at this;omega
 .rw[c a]at q;exact absurd hv q
def aOt{Ws2:List Wk}(b:aVa l P bw G Ws)(c:aVa l P bw G' Ws2)(e:Evo G G'):GrT (aun G (aaC G)) (aun G' (aaC G')) G.ts.length 0 0:=by
 have d:=b.ord;have f:=c.ord;obtain⟨_,_,g⟩:=b;obtain⟨_,_,a⟩:=c;exact e.gr d f g.sk a.sk _ (by show _ - (0:Int).toNat<=_;simp) (d.at0 g.sk) (f.at0 a.sk) rfl
variable{lg:Int}
def aL5:((CX 9).all λb:Nat=>(CX 9).all λs:Nat=>(CX 6).all λlg:Nat=>b==0||(decide (8<b+s)||decide ((eY (MO b s lg)).V 0=0)))=true:=by kernel_rfl
variable{sc:Sl}
def UZ.v0(h:UZ P b s lg sc):(eY (MO b s lg)).V 0=0:=by
 have d:=h.b1;have h2:=h.s0;have e:=h.b8;have f:=h.s8;have g:=h.l0;have i:=h.l5;obtain⟨c,rfl⟩:∃n:Nat,b=n:=⟨b.toNat,af⟩;obtain⟨s',rfl⟩:∃n:Nat,s=n:=⟨s.toNat,af⟩;obtain⟨a,rfl⟩:∃n:Nat,lg=n:=⟨lg.toNat,af⟩;have:=aL5;rw[tL]at this;have:=this c (C8.2 af);rw[tL]at this;have:=this s' (C8.2 af);rw[tL]at this;have:=this a (C8.2 af);simp only[Bool.or_eq_true,beq_iff_eq,decide_eq_true_eq]at this;rcases this with q|q|q
 iterate 2 omega
 .exact q
variable{evs:List (List Int)}{ps:Sl}{w0:World}
def aOu{k:Bool->ap}(R:iA w0 ps P)(hT:TZ w0)(O:QM 2 w0 sc (evs.map ee))(S:∀x∈evs,x.length=2)(hk:∀w',Ext w0 w'->k true w'):arL (U0 ps sc b s lg) w0 k:=by
 unfold arL avI;have aw:∀{w:World} {L:List HP},St w0 w L->iv w k:=λh=>awq (hT.ext h.ext) λw' hx=>hk w' (h.ext.trans hx);refine aM (.nil w0) λg1 w h=>?_;with_reducible repeat' (first|refine bc ?_|refine cH h λw h=>?_|refine Tn h ?_|refine Iy h ?_|refine u_B h ?_|refine u_S h ?_|refine u_V h ?_|refine u_T h ?_|refine WX h ?_|refine v_I h ?_|refine v_B h ?_|refine v_S h ?_|refine v_V h ?_|refine v_T h ?_|refine QT h ?_|refine Vh h ?_|refine Z7 h ?_|refine Hq h λw h=>?_|refine v_C h λw h=>?_|refine u_W h λw h=>?_|refine QU h λw h=>?_|refine aM h λgx w h=>?_|refine vW ?_|refine nP h ?_|refine sR h ?_|refine y8 ?_ ?_|refine I8 ?_|refine i_T ?_|refine u_1 ?_|fail)
 refine azI (P:=P) (ps:=ps) (b:=b) (s:=s) (lg:=lg) (sc:=sc) R h λT w h hb=>?_;refine ax (λo=>aw h) λo=>?_;have hf:=hb (by simpa using o)
 clear hb o;with_reducible repeat' (first|refine bc ?_|refine cH h λw h=>?_|refine Tn h ?_|refine Iy h ?_|refine u_B h ?_|refine u_S h ?_|refine u_V h ?_|refine u_T h ?_|refine WX h ?_|refine v_I h ?_|refine v_B h ?_|refine v_S h ?_|refine v_V h ?_|refine v_T h ?_|refine QT h ?_|refine Vh h ?_|refine Z7 h ?_|refine Hq h λw h=>?_|refine v_C h λw h=>?_|refine u_W h λw h=>?_|refine QU h λw h=>?_|refine aM h λgx w h=>?_|refine vW ?_|refine nP h ?_|refine sR h ?_|refine y8 ?_ ?_|refine I8 ?_|refine i_T ?_|refine u_1 ?_|fail)
 refine azK (P:=P) (ps:=ps) (b:=b) (s:=s) (lg:=lg) (sc:=sc) R hf h λa wa aa w A7 h=>?_;refine aU rfl ?_;have d:aVa (gJ a ps (MO b s lg) wa) P (dqN (MO b s lg)) (eY (MO b s lg)) (Bd (MO b s lg)):=hf.rn A7;have t:aVo (gJ a ps (MO b s lg) wa) (eY (MO b s lg)) (Bd (MO b s lg)):=hf.aVC;have u:AsI (eY (MO b s lg)) (Bd (MO b s lg)):=hf.aNd;have D:OnI (eY (MO b s lg)):=by
  have y:=hf.B7;unfold awt at y;simp only[iY,decide_eq_true_eq,Bool.not_eq_true',tL,C8,beq_iff_eq]at y;exact aP3 _ y.1.1.1.1.1.1.1.1.1 hf.v0
 have hel:evs.length<=300:=by have:=hf.n;have:=O.len;rw[U']at this;omega
 have hl:(gJ a ps (MO b s lg) wa).gs=a.gs:=rfl;have U:(gJ a ps (MO b s lg) wa).ps=ps:=rfl;generalize gJ a ps (MO b s lg) wa=l at*
 generalize dqN (MO b s lg)=bw at*
 generalize eY (MO b s lg)=G0 at*
 generalize Bd (MO b s lg)=V at*
 rw[<-hl];subst U;have vE:=O.len;rw[U']at vE;refine ad4 d h λs11 w h=>?_;refine DN (G:=Nat×List Nat×Gl×List Wk) (λq (x:Sl×Int) w=>x.2=(q.1:Int)/\q.1<=evs.length/\aVa l P bw q.2.2.1 q.2.2.2/\(aVo l q.2.2.1 q.2.2.2/\AsI q.2.2.1 q.2.2.2/\OnI q.2.2.1)/\qK w0 w l q.2.1 q.2.2.1 q.2.2.2 (rws 7 x.1 ((aun q.2.2.1 (aaC q.2.2.1)).map aUp.val)::[au g1 (U0 l.ps sc b s lg).toList])) (λq=>evs.length - q.1) (g:=(0,aa,G0,V)) ⟨rfl,af,d,⟨t,u,D⟩,by rw[<-d.ord.tbl];exact h⟩ ?_
 clear h d t u D;rintro⟨j,aa,G,Ws⟩ ⟨st,i⟩ w ⟨hi,hj,d,⟨t,u,D⟩,h⟩ C hC;dsimp only at hi hj d t u D h ⊢;subst hi;with_reducible repeat' (first|refine bc ?_|refine cH h λw h=>?_|refine Tn h ?_|refine Iy h ?_|refine u_B h ?_|refine u_S h ?_|refine u_V h ?_|refine u_T h ?_|refine WX h ?_|refine v_I h ?_|refine v_B h ?_|refine v_S h ?_|refine v_V h ?_|refine v_T h ?_|refine QT h ?_|refine Vh h ?_|refine Z7 h ?_|refine Hq h λw h=>?_|refine v_C h λw h=>?_|refine u_W h λw h=>?_|refine QU h λw h=>?_|refine aM h λgx w h=>?_|refine vW ?_|refine nP h ?_|refine sR h ?_|refine y8 ?_ ?_|refine I8 ?_|refine i_T ?_|refine u_1 ?_|fail)
 by_cases W:j<evs.length;rotate_left
 .refine aU (by simp;omega) ?_
  exact aw h
 refine bK (by simp;omega) ?_
 obtain⟨e,he⟩:∃e,evs[j]?=G_ e:=⟨_,iH W⟩;have h2:=S e (qn he);obtain⟨kd,n,rfl⟩:∃a b,e=[a,b]:=by
  match e,h2 with
  |[a,b],_=>exact⟨a,b,rfl⟩
 have F:(evs.map ee)[((j:Nat):Int).toNat]?=G_ (ee [kd,n]):=by rw[iZ,l8,he];rfl
 with_reducible repeat' (first|refine bc ?_|refine cH h λw h=>?_|refine Tn h ?_|refine Iy h ?_|refine u_B h ?_|refine u_S h ?_|refine u_V h ?_|refine u_T h ?_|refine WX h ?_|refine v_I h ?_|refine v_B h ?_|refine v_S h ?_|refine v_V h ?_|refine v_T h ?_|refine QT h ?_|refine Vh h ?_|refine Z7 h ?_|refine Hq h λw h=>?_|refine v_C h λw h=>?_|refine u_W h λw h=>?_|refine QU h λw h=>?_|refine aM h λgx w h=>?_|refine vW ?_|refine nP h ?_|refine sR h ?_|refine y8 ?_ ?_|refine I8 ?_|refine i_T ?_|refine u_1 ?_|fail)
 refine QN O h af F λp A=>?_;refine Ho (n:=2) (e:=ee [kd,n]) rfl (λm v hv=>A h hv) ?_;clear A;refine aD9 d R hT h λaa w h=>?_;obtain⟨H,hE,X⟩:=aP1 d t u.ino D [kd,n];have I:=t.ev d [kd,n];have K:=u.ev d [kd,n];have c:=d.ev [kd,n];generalize (evF l P (G,Ws) [kd,n]).1.1=G1 at*
 generalize (evF l P (G,Ws) [kd,n]).1.2=M at*
 refine ad4 c h λB w h=>?_;rw[c.ord.tbl]at h;have AR:=d.tbi t u.ino D;have jR:=c.tbi I K.ino H;have f:G.ts.length<=32768/\G1.ts.length<=32768:=by
  obtain⟨_,q,_⟩:=d;obtain⟨_,q',_⟩:=c;exact⟨q.ty.cap.2.1,q'.ty.cap.2.1⟩
 have N:aFR (aun G (aaC G)):=AR.tab d.ord (by obtain⟨_,_,q⟩:=d;exact q.sk) f.1
 have Y:aFR (aun G1 (aaC G1)):=jR.tab c.ord (by obtain⟨_,_,q⟩:=c;exact q.sk) f.2
 have Z:=aOt d c hE;have heq:kd≠0->aun G1 (aaC G1)=aun G (aaC G):=λq=>by
  obtain⟨a1,a2,a3,a4⟩:=X q;have aVI:aaC G1=aaC G:=d.ord.one c.ord a2;have OH:∀x,G1.tk x=G.tk x:=λx=>by unfold Gl.tk;rw[a1]
  have aVJ:cq G1 (aaC G)=cq G (aaC G):=by unfold cq;rw[a1]
  rw[aVI];unfold aun;rw[aVJ];refine List.map_congr_left λp A=>?_;have hx:=d.ord.pr p A;unfold aGi;rw[OH,a3,(a4 _ af).1,(a4 _ af).2]
 refine bP (λT w=>T=false/\qK w0 w l aa G1 M (rws 7 B ((aun G1 (aaC G1)).map aUp.val)::rws 7 st ((aun G (aaC G)).map aUp.val)::[au g1 (U0 l.ps sc b s lg).toList])) (λJ hJ=>?_) ?_
 .refine aNe (s:=st) (s2:=B) (l:=aun G (aaC G)) (m:=aun G1 (aaC G1)) h N Y Z λw h=>aU rfl ?_;with_reducible repeat' (first|refine bc ?_|refine cH h λw h=>?_|refine Tn h ?_|refine Iy h ?_|refine u_B h ?_|refine u_S h ?_|refine u_V h ?_|refine u_T h ?_|refine WX h ?_|refine v_I h ?_|refine v_B h ?_|refine v_S h ?_|refine v_V h ?_|refine v_T h ?_|refine QT h ?_|refine Vh h ?_|refine Z7 h ?_|refine Hq h λw h=>?_|refine v_C h λw h=>?_|refine u_W h λw h=>?_|refine QU h λw h=>?_|refine aM h λgx w h=>?_|refine vW ?_|refine nP h ?_|refine sR h ?_|refine y8 ?_ ?_|refine I8 ?_|refine i_T ?_|refine u_1 ?_|fail)
  refine QN O h af F λp A=>?_;refine uZ (A h (j:=0) rfl) ?_;clear A;refine ax (λQ=>?_) λQ=>hJ _ _ ⟨rfl,h⟩;have e:=heq (by simpa using Q)
  rw[e]at h;refine awr (s1:=st) (s2:=B) (es:=(aun G (aaC G)).map aUp.val) h (λz Q=>?_) (by rw[U'];exact N.Zs) λw h=>hJ _ _ ⟨rfl,by rw[e];exact h⟩
  obtain⟨r,_,rfl⟩:=List.mem_map.1 Q;exact⟨_,_,_,_,_,_,_,rfl⟩
 rintro T w ⟨rfl,h⟩;refine aU rfl ?_;refine hC (j+1,aa,G1,M) _ _ ⟨?_,af,c,⟨I,K,H⟩,?_⟩ (by dsimp only;omega)
 .dsimp only;rw[dh ⟨af,af⟩];omega
 .exact h.zm 3
def _root_.Go.Ev.zx.aCR{P:Program}{t e:TypeId}{cs:List Value}{k b:Nat}(ht:P.underlying t=G_ (.slice e))(he:(∃n e',P.underlying e=G_ (.array n e'))\/∃fs,P.underlying e=G_ (.struct fs))(hf:Vd P n e=true)(hk:P.cellsOf e=k)(hb:P.bytesOf e=b)(h:zx P w0 t cs):
  ∃(s:Sl) (es:List (List Int)),cs=[S_ s]/\QM k w0 s (es.map ee)/\(∀x∈es,x.length=k/\∀y∈x,sy y)/\es.length*b<=reachBytes:=by
 obtain⟨s,es,rfl,h2,h3,h4,h5,lG⟩:=h.slice ht;obtain⟨l,rfl,hl⟩:=zy (f:=ee) (G:=λi:List Int=>i.length=k/\∀y∈i,sy y) (es:=es) λe' he'=>by
  obtain⟨xs,hx,hI⟩:=zy ((lG e' he').flat hf);refine⟨xs,hx,?_,hI⟩;have:=(lG e' he').len he;rw[hx,hk]at this;simpa using this
 rw[hk]at h2;rw[hb]at h3;exact⟨s,l,rfl,h2,hl,by simpa using h3⟩
def runT:∃f0 f1 f2 f3 f4:Field,Tryz.prog.underlying 27=G_ (.struct #[f0,f1,f2,f3,f4])/\(f0.type=24/\f0.offset=0)/\(f1.type=3/\f1.offset=1)/\(f2.type=3/\f2.offset=2)/\(f3.type=3/\f3.offset=3)/\(f4.type=25/\f4.offset=4):=
 ⟨_,_,_,_,_,Tryz.underlying27,⟨rfl,rfl⟩,⟨rfl,rfl⟩,⟨rfl,rfl⟩,⟨rfl,rfl⟩,⟨rfl,rfl⟩⟩
def aww{v:Value}(h:Arg Tryz.prog w0 27 v):∃(ps sc:Sl) (P:List dB) (b s lg:Int) (evs:List (List Int)),v= .agg (U0 ps sc b s lg)/\iA w0 ps P/\QM 2 w0 sc (evs.map ee)/\(∀x∈evs,x.length=2/\∀y∈x,sy y):=by
 obtain⟨f0,f1,f2,f3,f4,A,⟨H,I⟩,⟨t1,J⟩,⟨t2,K⟩,⟨L,i⟩,M,j⟩:=runT;obtain⟨cs,rfl,N⟩:=h.agg (E_ ⟨_,A⟩);obtain⟨B,f⟩:=N.struct A;have l:=f 0 f0 bf;have m:=f 1 f1 bf;have h2:=f 2 f2 bf;have o:=f 3 f3 bf;have p:=f 4 f4 bf;have q:Tryz.prog.cellsOf 24=1:=by kernel_rfl
 have c3:Tryz.prog.cellsOf 3=1:=by kernel_rfl
 have r:Tryz.prog.cellsOf 25=1:=by kernel_rfl
 have t:Tryz.prog.cellsOf 27=5:=by kernel_rfl
 rw[H,I,q]at l;rw[t1,J,c3]at m;rw[t2,K,c3]at h2;rw[L,i,c3]at o;rw[M,j,r]at p;rw[t]at B;obtain⟨a,b,c,d,e,g⟩:∃a b c d e,cs.toList=[a,b,c,d,e]:=by
  match cs.toList,B with
  |[a,b,c,d,e],_=>exact⟨a,b,c,d,e,rfl⟩
 rw[g]at l m h2 o p;obtain⟨ps,P,C,O⟩:=zx.program Ck.aBQ l;obtain⟨Q,D,_⟩:=zx.int Tryz.underlying3 m;obtain⟨s',e2,_⟩:=zx.int Tryz.underlying3 h2;obtain⟨u,F,_⟩:=zx.int Tryz.underlying3 o;obtain⟨sc,evs,G,R,z,_⟩:=zx.aCR (n:=4) (k:=2) (b:=16) Tryz.underlying25 (E_ ⟨_,Tryz.underlying34⟩) aZ aZ aZ p;refine⟨ps,sc,P,Q,s',u,evs,?_,O,R,z⟩;simp at C D e2 F G;subst C D e2 F G;congr 1;exact Array.ext' g
end Go.Proofs.YthidhjhkmjjckaaGreatDoor
