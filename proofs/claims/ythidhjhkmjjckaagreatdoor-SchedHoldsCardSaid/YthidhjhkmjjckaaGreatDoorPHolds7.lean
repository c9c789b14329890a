/-
  Parts of the proof of LHolds: printed by a program out of longer texts.
-/
import Derived.Test.YthidhjhkmjjckaaGreatDoorPHolds6
import Derived.LaidMore
import Derived.SevenTiedAt
import Derived.Lay
import Derived.Stop.Joined
set_option linter.unusedSimpArgs false
set_option linter.unusedVariables false
set_option maxRecDepth 100000
set_option linter.defProp false
open List renaming getElem?_eq_some_iff->kB,getElem?_eq_getElem->iH,getD_eq_getElem?_getD->m0,getElem?_append_left->tJ,getElem?_append_right->u0,getElem?_set_ne->r0,getElem?_set_self->uO,mem_of_getElem?->qn,getElem?_map->l8,eraseIdx->I7,insertIdx_succ_cons->aBT,insertIdx_zero->aBU,replicate->dU,mem_append->zw,length_append->uv,all_eq_true->tL
open Go.Sem renaming run_pure->cP,run_bind->cR
open Go.Result renaming andThen_ok->cK
open Bool renaming or_eq_false_iff->kf,and_eq_true->iY
open Option renaming isNone->eA
open Go.IntKind renaming wrap->aF
open Int renaming toNat_natCast->iZ
open Array renaming setIfInBounds->eS,getElem?_eq_some_iff->Bf
open Nat renaming le_refl->iw
open Go.Addr renaming add->aY
namespace Go.Proofs.YthidhjhkmjjckaaGreatDoor
open Go Go.Ev Go.Proofs
open Ko (ni CK)
open Ck (oW)
abbrev lmD(b s lg dp:Int):Lm:=⟨b,s,65536,1048576,dp,lg⟩
def aHv(b s lg dp:Int):eY (lmD b s lg dp)=eY (MO b s lg):=by kernel_rfl
def aHw(b s lg dp:Int):Bd (lmD b s lg dp)=Bd (MO b s lg):=by kernel_rfl
def aBY(m:Lm):Bool:=(List.range m.n).all λi=>decide ((eY m).M.get (sC m i)=0)&&decide ((eY m).M.get (sC m i+1)=if i=0 then 1 else 0)
def aF8:((List.range 9).all λb:Nat=>(List.range 9).all λs:Nat=>(List.range 6).all λlg:Nat=>b==0||(decide (8<b+s)||aBY (MO b s lg)))=true:=by kernel_rfl
variable{P:List dB}{b lg s:Int}{sc:Sl}
theorem UZ.aBY(h:UZ P b s lg sc):Go.Proofs.YthidhjhkmjjckaaGreatDoor.aBY (MO b s lg)=true:=by
 have d:=h.b1;have h2:=h.s0;have e:=h.b8;have f:=h.s8;have g:=h.l0;have i:=h.l5;obtain⟨a,rfl⟩:∃n:Nat,b=n:=⟨b.toNat,af⟩;obtain⟨s',rfl⟩:∃n:Nat,s=n:=⟨s.toNat,af⟩;obtain⟨c,rfl⟩:∃n:Nat,lg=n:=⟨lg.toNat,af⟩;have:=aF8;rw[tL]at this;have:=this a (List.mem_range.2 af);rw[tL]at this;have:=this s' (List.mem_range.2 af);grind
variable{G:Gl}{Ws:List Wk}{bw:List Int}{l:Lc}{ro:List Ro}{x:Nat}
variable{zd:Gl}
def HdI.drv(h:HdI l G Ws)(m:IV l P bw ro G Ws)(n:G.err=0)(a:zd.ts=G.ts)(b:zd.steps=G.steps)(j:∀x,x<G.ts.length->zd.K x=G.K x):HdI l zd Ws:=by
 have o:∀y,zd.tk y=G.tk y:=λy=>by unfold Gl.tk;rw[a]
 have g:Ts zd=Ts G:=funext λx=>by show(zd.tk x).f.getD 18 0=_;rw[o]
 refine⟨h.aUD,by rw[g,a,b];exact h.st,λx d=>by rw[g];exact h.nn x (by rw[<-a];exact d),by rw[b];exact h.sl,λx d k=>?_,λi W hi e=>?_,λi W hi e=>?_⟩
 .rw[a]at d;rw[j x d]at k;exact h.r1 x d k
 .rw[g];exact h.s0 i W hi e
 .have c:=m.cx hi n;have ct:=c.ct;unfold cD at ct;have ne:W.stack≠ []:=by rcases e with q|q<;>rw[q]at ct<;>exact ct.1
  rw[j _ (c.top ne).2];exact h.g2 i W hi e
def HdI.ev(h:HdI l G Ws)(j:aUE l P bw G Ws)(e:List Int):HdI l (evF l P (G,Ws) e).1.1 (evF l P (G,Ws) e).1.2:=by
 have c:=j;obtain⟨o,d,_⟩:=c;by_cases a:G.err=0;rotate_left
 .have:(evF l P (G,Ws) e).1=(G,Ws):=by unfold evF SA;dsimp only;rw[if_pos a]
  rw[this];exact h
 refine aGz (J:=HdI l) j e h (λro iT i W b u hi f _ _ _ p hs=>h.step b hi f p hs) (λro tm ids b f _ m hs=>?_) λD=>h.drv d a rfl rfl λ_ _=>rfl;obtain⟨v,y,n,k4,A⟩:=akc (ids:=ids) m hs;obtain⟨M,g⟩:=aaZ (l:=l) (G:={G with time:=tm}) ids;refine h.drv b f n (by rw[g];rfl) λx r=>?_
 have s:=(b.ty.qh r).k;have t:(UX l {G with time:=tm} ids).tk x=G.tk x:=by unfold Gl.tk;rw[n]
 unfold Gl.K;rw[t,akN m hs s (λz q=>(by cases q)) (λq=>(by cases q))]
def UZ.hdi(hf:UZ P b s lg sc)(g:l.fuel=1048576):HdI l (eY (MO b s lg)) (Bd (MO b s lg)):=by
 have a:=hf.B7;clear hf;generalize MO b s lg=m at*
 unfold awt at a;simp only[iY,decide_eq_true_eq,Bool.not_eq_true',tL,List.mem_range,beq_iff_eq]at a;obtain⟨⟨⟨⟨⟨⟨⟨⟨⟨q,_⟩,_⟩,_⟩,_⟩,_⟩,_⟩,st0⟩,_⟩,_⟩:=a;have j:=aoi m;obtain⟨aUD,o⟩:=aws m;have c:∀{i:Nat} {W:Wk},(Bd m)[i]?=some W->W.cT= .m .rest:=λh=>by
  obtain⟨_,rfl⟩:=adF h;rfl
 generalize eY m=G at*
 have k:∀{x:Nat},x<G.ts.length->x=0:=λh=>by rw[j.1]at h;omega
 have n:Ts G 0=0:=by show(G.tk 0).f.getD 18 0=0;rw[o];rfl
 refine⟨by rw[g];decide,?_,λx e=>?_,by rw[st0,g];decide,λx e p=>?_,λi W hi d=>?_,λi W hi d=>?_⟩
 .rw[j.1,st0];show afj (Ts G) 0+Ts G 0=0;rw[n];rfl
 .rw[k e,n];exact Int.le_refl _
 .rw[k e]at p;omega
 iterate 2 rw[c hi]at d;simp at d
variable{dp:Int}{ps:Sl}
def UZ.emi(hf:UZ P b s lg sc){a:Ad}{wa:List Nat}:EmI 1 (gJ a ps (lmD b s lg dp) wa) (eY (MO b s lg)) (Bd (MO b s lg)):=by
 have d:=hf.aBY;have f:=hf.B7;have t:=hf.b1;have u:(Go.Proofs.YthidhjhkmjjckaaGreatDoor.l0 (MO b s lg)).sp=(gJ a ps (lmD b s lg dp) wa).sp:=rfl;unfold Go.Proofs.YthidhjhkmjjckaaGreatDoor.aBY at d;unfold awt at f;simp only[iY,decide_eq_true_eq,Bool.not_eq_true',tL,List.mem_range,beq_iff_eq]at f d;obtain⟨_,g⟩:=f;have c:∀{i:Nat} {W:Wk},(Bd (MO b s lg))[i]?=some W->i<(MO b s lg).n/\W=Wa i (sC (MO b s lg) i):=adF;have j:∀(i:Nat) W,(Bd (MO b s lg))[i]?=some W->(eY (MO b s lg)).M.get W.dq=0/\(eY (MO b s lg)).M.get (W.dq+1)=if i=0 then 1 else 0:=λi W hi=>by
  obtain⟨m,rfl⟩:=c hi;exact d i m
 refine⟨λi W hi=>?_,λi W O hi g=>?_,λi W hi g=>?_,λi W hi o=>?_,λi W hi=>?_⟩
 .obtain⟨p,e2⟩:=j i W hi;show(eY (MO b s lg)).M.get W.dq<=1;rw[p];decide
 .obtain⟨_,rfl⟩:=c hi;have:=g.1;cases this
 .obtain⟨_,rfl⟩:=c hi;rcases g.2 with q|q|⟨q,_⟩<;>cases q
 .obtain⟨p,e2⟩:=j i W hi;obtain⟨m,e⟩:=c hi;obtain⟨⟨⟨_,l⟩,_⟩,_⟩:=g i m;have k:onF (Go.Proofs.YthidhjhkmjjckaaGreatDoor.l0 (MO b s lg)) (eY (MO b s lg)) W=false:=o;rw[e]at k;rw[k]at l;have l:=l.symm;simp only[decide_eq_false_iff_not]at l;have r:(MO b s lg).base=b:=rfl;rw[p,e2,if_neg af,e];exact⟨rfl,rfl,Int.le_refl _⟩
 .obtain⟨_,rfl⟩:=c hi;exact⟨λq=>(by cases q),λq=>(by cases q),λq=>(by cases q)⟩
variable{W:Wk}{i:Nat}
def aHx(a:IV l P bw ro G Ws)(hi:Ws[i]?=some W)(h:(i:Int)<l.sp.base):onF l G W=true:=by
 have b:=a.w i W hi;have hb:0<=G.M.get (l.sp.at_+1)/\G.M.get (l.sp.at_+1)<65536:=a.ty.val _ _ a.ty.OI;have c:i<16:=by have:=b.lt;have:=a.lc.w16;omega
 unfold onF Sp.bits;rw[b.id,avE a.lc.sp hb af,decide_eq_true h];rfl
def getD_set_ne(h:x≠i):(bw.set x s).getD i 0=bw.getD i 0:=by
 simp only[m0,r0 h]
def aIY(f:aUE l P bw G Ws){e:List Int}(hi:x<l.wa.length)(hb:0<=afM l G x/\afM l G x<=1000000):(afM l (evF l P (G,Ws) e).1.1 x=afM l G x\/(e.getD 0 0=0/\e.getD 1 0=x/\afM l (evF l P (G,Ws) e).1.1 x=afM l G x+1)):=by
 have o:=f.ord;obtain⟨ro,b,p⟩:=f;have j:=b.ty.stp;have ops:∀G1,afM l G1 x=G1.M.steps.getD x 0:=λG1=>by unfold afM;rw[if_pos ⟨af,af⟩,iZ]
 rw[ops]at hb;rw[ops,ops];have ask:∀(G1:Gl) (ids:List Int),G1.M=G.M->(UX l G1 ids).M.steps.getD x 0=G.M.steps.getD x 0:=λG1 ids e=>by
  have tk:∀(M:bJ),(M.tick (l.wa.length:Nat)).steps.getD x 0=M.steps.getD x 0:=λM=>by
   unfold bJ.tick;exact getD_set_ne af
  have k:∀(ids:List Int) (G2:Gl),(sK (l.wa.length:Nat) G2 ids).M.steps.getD x 0=G2.M.steps.getD x 0:=λids=>by
   induction ids with
   |nil=>intro G2;rfl
   |cons s ids ih=>
    intro G2;show(sK _ (G2.Fw _ s) ids).M.steps.getD x 0=_;rw[ih];show(G2.M.cs _ _ 0 1).1.steps.getD x 0=_;rw[aoJ,tk]
  unfold UX;split
  .rw[e]
  .show((sK _ G1 ids).M.ad _ _ 1).steps.getD x 0=_;have:∀(M:bJ) (wk a v:Int),(M.ad wk a v).steps=(M.tick wk).steps:=λ_ _ _ _=>rfl;rw[this,tk,k,e]
 unfold evF SA;dsimp only;split
 .exact .inl rfl
 rename_i d;have d:G.err=0:=Classical.not_not.1 d;split
 .rename_i m;unfold ZC;split
  .rename_i r;split
   .rename_i W n;split
    .rw[b.dl];have c:=b.cx n d;have hs:Stp l P ro G W (ZB l P G W bw).1 (ZB l P G W bw).2:=aib c b.fr;have g:=c.wt.id;rcases hs.tick with q|q
     .exact .inl (by show(ZB l P G W bw).1.M.steps.getD x 0=_;rw[q])
     .by_cases i:(e.getD 1 0).toNat=x
      .refine .inr ⟨m,af,?_⟩;show(ZB l P G W bw).1.M.steps.getD x 0=_;rw[q];unfold bJ.tick;rw[g,iZ,i];simp only[m0]at hb ⊢;rw[uO af];exact dh ⟨af,af⟩
      .refine .inl ?_;show(ZB l P G W bw).1.M.steps.getD x 0=_;rw[q];unfold bJ.tick;rw[g];exact getD_set_ne (by rw[iZ];exact i)
    .exact .inl rfl
   .exact .inl rfl
  .exact .inl rfl
 split
 .unfold ZD;split
  .exact .inl (ask _ _ rfl)
  .exact .inl rfl
 split
 .split<;>exact .inl rfl
 split
 .unfold ZF;split
  .split
   .exact .inl rfl
   .exact .inl (ask _ _ rfl)
  .exact .inl rfl
 .exact .inl rfl
def aHy(f:aUE l P bw G Ws)(d:HdI l G Ws)(e:List Int):(evF l P (G,Ws) e).1.1.steps=G.steps\/(e.getD 0 0=0/\(evF l P (G,Ws) e).1.1.steps=G.steps+1):=by
 have k:=d.sl;have g:=d.aUD;obtain⟨ro,a,m⟩:=f;have ask:∀(G1:Gl) (ids:List Int),G1.steps=G.steps->(UX l G1 ids).steps=G.steps:=λG1 ids e=>by
  obtain⟨M,q⟩:=aaZ (l:=l) (G:=G1) ids;rw[q];exact e
 unfold evF SA;dsimp only;split
 .exact .inl rfl
 rename_i b;have b:G.err=0:=Classical.not_not.1 b;split
 .rename_i i;unfold ZC;split
  .split
   .rename_i W j;split
    .rw[a.dl];have c:=a.cx j b;have hs:Stp l P ro G W (ZB l P G W bw).1 (ZB l P G W bw).2:=aib c a.fr;rcases (hs.cnt c).s with⟨q,_⟩|⟨_,_,_,q,_⟩
     .exact .inl q
     .refine .inr ⟨i,?_⟩;show(ZB l P G W bw).1.steps=_;rw[q];exact dh ⟨af,af⟩
    .exact .inl rfl
   .exact .inl rfl
  .exact .inl rfl
 split
 .unfold ZD;split
  .exact .inl (ask _ _ rfl)
  .exact .inl rfl
 split
 .split<;>exact .inl rfl
 split
 .unfold ZF;split
  .split
   .exact .inl rfl
   .exact .inl (ask _ _ rfl)
  .exact .inl rfl
 .exact .inl rfl
def opA(f:Nat->Int)(j:Nat):List Value:=(List.range 8).map λi=>(I_ (if i<j then f i else 0):Value)
variable{f:Nat->Int}{j:Nat}
theorem aBZ(h:i<j)(a:i<8):(opA f j)[i]?=some (I_ (f i)):=by
 unfold opA;grind
theorem aHz(a:j<8):(opA f j).set j (I_ (f j))=opA f (j+1):=by
 apply List.ext_getElem?;intro k;have b:(opA f j).length=8:=by unfold opA;simp
 by_cases e:j=k
 .subst e;rw[uO af,aBZ af a]
 .rw[r0 e];unfold opA;grind
abbrev HoR(ps sc:Sl)(b s lg dp:Int)(g1 g2:Nat):List HP:=[au g2 (lmA (lmD b s lg dp)).toList,au g1 (U0 ps sc b s lg).toList]
variable{evs:List (List Int)}{w0:World}
def aHA{k:Bool->ap}(hF:iA w0 ps P)(hT:TZ w0)(V:QM 2 w0 sc (evs.map Go.Ev.ints))(hev:∀x∈evs,x.length=2)(hk:∀w',Ext w0 w'->k true w'):ad1 (U0 ps sc b s lg) dp w0 k:=by
 unfold ad1 ad3;have aw:∀{w:World} {L:List HP},St w0 w L->iv w k:=λh=>awq (hT.ext h.ext) λw' u=>hk w' (h.ext.trans u);refine aM (.nil w0) λg1 w h=>?_;refine cX ?_;refine azI (P:=P) (ps:=ps) (b:=b) (s:=s) (lg:=lg) (sc:=sc) hF h λX w h hb=>?_;refine ax (λK=>aw h) λK=>?_;simp only[kf,Bool.not_eq_false',decide_eq_false_iff_not]at K;obtain⟨⟨vF,hd1⟩,hd2⟩:=K;have hf:=hb vF;clear hb vF;refine cX ?_;refine azJ (b:=b) (s:=s) (lg:=lg) (ps:=ps) (sc:=sc) h λw h=>?_;refine aM h λg2 w h=>?_;refine dZ λw h=>?_;replace h:St w0 w (HoR ps sc b s lg dp g1 g2):=h;have Z:(lmD b s lg dp).OK:={hf.ok with deep:=⟨by show 1<=dp;omega,by show dp<=1000;omega⟩}
 refine ahh (m:=lmD b s lg dp) (ps:=ps) (P:=P) hF h (λ_ _ _ a wa aa w A7 h=>?_) (λq=>(q hf.acc).elim) (λ_ q=>(q Z).elim) λ_ _ q=>(q hf.tot).elim;refine aU rfl ?_;have t:aUE (gJ a ps (lmD b s lg dp) wa) P (dqN (lmD b s lg dp)) (eY (lmD b s lg dp)) (Bd (lmD b s lg dp)):=⟨_,awf (a:=a) (ps:=ps) (wa:=wa) Z hf.tot (by show(65536:Int)<=65536;decide) A7 hf.aFw,aDV _⟩
 have I:HdI (gJ a ps (lmD b s lg dp) wa) (eY (MO b s lg)) (Bd (MO b s lg)):=hf.hdi rfl;have Y:EmI 1 (gJ a ps (lmD b s lg dp) wa) (eY (MO b s lg)) (Bd (MO b s lg)):=hf.emi;have hO:∀x:Nat,x<(b+s).toNat->afM (gJ a ps (lmD b s lg dp) wa) (eY (MO b s lg)) x=0:=λx u=>by
  have N:=hf.B7;unfold awt at N;simp only[iY,decide_eq_true_eq,Bool.not_eq_true',tL,List.mem_range,beq_iff_eq]at N;have:=(N.2 x u).1.1.1;unfold afM;rw[if_pos ⟨af,by show(x:Int)<(wa.length:Nat);rw[A7];unfold Lm.n;show(x:Int)<((b+s).toNat:Nat);omega⟩,iZ]
  exact this
 rw[aHv,aHw]at t h;have hel:evs.length<=300:=by have:=hf.n;have:=V.len;rw[List.length_map]at this;omega
 have hgs:(gJ a ps (lmD b s lg dp) wa).gs=a.gs:=rfl;have hlp:(gJ a ps (lmD b s lg dp) wa).ps=ps:=rfl;have hbs:1<=b/\0<=s/\b<=8/\s<=8:=⟨hf.b1,hf.s0,hf.b8,by have:=hf.s8;have:=hf.b1;omega⟩
 have aOG:b+s<=8:=by have:=hf.s8;omega
 have aLQ:((gJ a ps (lmD b s lg dp) wa).wa.length:Int)=b+s:=by show(wa.length:Int)=_;rw[A7];unfold Lm.n;show((b+s).toNat:Int)=_;omega
 have hfu:(gJ a ps (lmD b s lg dp) wa).fuel=1048576:=rfl;have hdp:(gJ a ps (lmD b s lg dp) wa).deep=dp:=rfl;have ZG:(gJ a ps (lmD b s lg dp) wa).log=lg:=rfl;have hsb:(gJ a ps (lmD b s lg dp) wa).sp.base=b:=rfl;have hl5:0<=lg/\lg<=5:=⟨hf.l0,hf.l5⟩;refine cX ?_;clear hf Z;generalize gJ a ps (lmD b s lg dp) wa=l at*
 generalize dqN (lmD b s lg dp)=bw at*
 generalize eY (MO b s lg)=G0 at*
 generalize Bd (MO b s lg)=Ws0 at*
 rw[<-hgs];subst hlp;have vE:=V.len;rw[List.length_map]at vE;have y:aF .i64 (b+s)=b+s:=dh ⟨af,af⟩;refine DN (G:=Nat×List Nat×Gl×List Wk) (λq x w=>x=(q.1:Int)/\q.1<=evs.length/\aUE l P bw q.2.2.1 q.2.2.2/\HdI l q.2.2.1 q.2.2.2/\EmI (1+q.1) l q.2.2.1 q.2.2.2/\(∀x:Nat,x<(b+s).toNat->0<=afM l q.2.2.1 x/\afM l q.2.2.1 x<=q.1)/\qK w0 w l q.2.1 q.2.2.1 q.2.2.2 (HoR l.ps sc b s lg dp g1 g2)) (λq=>evs.length - q.1) (g:=(0,aa,G0,Ws0)) ⟨rfl,af,t,I,Y,λx u=>by show 0<=afM l G0 x/\afM l G0 x<=((0:Nat):Int);rw[hO x u];omega,h⟩ ?_
 clear h t I Y hO;rintro⟨j,aa,G,Ws⟩ i w ⟨hi,hj,t,I,Y,hO,h⟩ C hC;dsimp only at hi hj t I Y hO h ⊢;subst hi;refine cX ?_;by_cases hlt:j<evs.length;rotate_left
 .refine aU (by simp;omega) ?_
  exact aw h
 refine bK (by simp;omega) ?_
 obtain⟨e,he⟩:∃e,evs[j]?=some e:=⟨_,iH hlt⟩;have h2:=hev e (qn he);obtain⟨kd,n,rfl⟩:∃a b,e=[a,b]:=by
  match e,h2 with
  |[a,b],_=>exact⟨a,b,rfl⟩
 have A:(evs.map Go.Ev.ints)[((j:Nat):Int).toNat]?=some (Go.Ev.ints [kd,n]):=by rw[iZ,l8,he];rfl
 refine aM h λg3 w h=>?_;have hz:(zr8:Array Value).toList=opA (λi=>afM l G i) 0:=by rfl
 rw[hz]at h;replace h:=(h.front 2 rfl).front 2 rfl;replace h:qK w0 w l aa G Ws (au g3 (opA (λi=>afM l G i) 0)::HoR l.ps sc b s lg dp g1 g2):=h;have hl8:∀m,(opA (λi=>afM l G i) m).length=8:=λm=>by unfold opA;simp
 have hV:=t;obtain⟨ro,c,O⟩:=hV;refine bP (fun(_:Unit) w=>qK w0 w l aa G Ws (au g3 (opA (λi=>afM l G i) (b+s).toNat)::HoR l.ps sc b s lg dp g1 g2)) (λJ hJ=>?_) ?_
 .refine DN (G:=Nat) (λm i w=>i=(m:Int)/\m<=(b+s).toNat/\qK w0 w l aa G Ws (au g3 (opA (λi=>afM l G i) m)::HoR l.ps sc b s lg dp g1 g2)) (λm=>(b+s).toNat - m) (g:=0) ⟨rfl,af,h⟩ ?_;clear h;rintro m i w ⟨rfl,Z,h⟩ C2 Q;by_cases B:m<(b+s).toNat;rotate_left
  .refine aU (by rw[y];simp;omega) ?_
   have:m=(b+s).toNat:=af;rw[this]at h;exact hJ _ _ h
  refine bK (by rw[y];simp;omega) ?_
  refine amv c h λw h=>?_;refine uu af af ?_;rw[Nat.mul_one,iZ,Nat.zero_add];refine j4 (g:=g3) (o:=m) h rfl (by rw[hl8];omega) λw h=>?_
  rw[aHz (f:=λi=>afM l G i) af]at h;refine Q (m+1) _ _ ⟨?_,af,h⟩ af;rw[dh ⟨af,af⟩];omega
 clear h;intro _ w h;refine azz h λw h=>?_;refine cX ?_;refine QN V h af A λp D=>?_;refine Ho (n:=2) (e:=Go.Ev.ints [kd,n]) rfl (λm v hv=>D h hv) ?_;clear D;refine aD9 t hF hT h λaa w h=>?_;have R:=I.ev t [kd,n];have hE':=Y.ev t af [kd,n];have F:=t.ev [kd,n];have H:∀x:Nat,x<(b+s).toNat->_:=λx u=>aIY (x:=x) t (e:=[kd,n]) af (by have:=hO x u;omega)
 have T:=aHy t I [kd,n];have Y8:=I.sl;clear I Y c O t;generalize evF l P (G,Ws) [kd,n]=S at*
 obtain⟨⟨G',d⟩,is⟩:=S;dsimp only at*
 have H:∀x:Nat,x<(b+s).toNat->afM l G' x=afM l G x\/(kd=0/\n=x/\afM l G' x=afM l G x+1):=H;have T:G'.steps=G.steps\/(kd=0/\G'.steps=G.steps+1):=T;obtain⟨ro,c,O⟩:=F;have F:aUE l P bw G' d:=⟨ro,c,O⟩;refine bP (fun(_:Unit) w=>qK w0 w l aa G' d (au g3 (opA (λi=>afM l G i) (b+s).toNat)::HoR l.ps sc b s lg dp g1 g2)) (λJ hJ=>?_) ?_
 .refine DN (G:=Nat) (λm i w=>i=(m:Int)/\m<=(b+s).toNat/\qK w0 w l aa G' d (au g3 (opA (λi=>afM l G i) (b+s).toNat)::HoR l.ps sc b s lg dp g1 g2)) (λm=>(b+s).toNat - m) (g:=0) ⟨rfl,af,h⟩ ?_;clear h;rintro m i w ⟨rfl,Z,h⟩ C2 Q;by_cases B:m<(b+s).toNat;rotate_left
  .refine aU (by rw[y];simp;omega) ?_
   exact hJ _ _ h
  refine bK (by rw[y];simp;omega) ?_
  have tq:(opA (λi=>afM l G i) (b+s).toNat)[m]?=some (I_ (afM l G m)):=aBZ B af;refine uu af af ?_;rw[Nat.mul_one,iZ,Nat.zero_add];refine cr (g:=g3) (o:=m) h tq ?_;refine bP (λX w'=>w'=w/\X=(kd==0&&n==(m:Int))) (λJ2 r=>?_) ?_
  .refine cX ?_;refine QN V h af A λp D=>?_;refine uZ (D h (j:=0) rfl) ?_;refine ax (λq=>?_) λq=>?_
   .refine cX ?_;refine QN V h af A λp D=>?_;refine uZ (D h (j:=1) rfl) ?_;exact r _ _ ⟨rfl,by rw[q];rfl⟩
   .exact r _ _ ⟨rfl,by rw[q];rfl⟩
  rintro b57 w' ⟨rfl,aLS⟩;have xu:=H m B;refine bP (fun(z:Int) w''=>w''=w'/\(afM l G' m<=z)) (λJ2 r=>?_) ?_
  .refine ax (λq=>?_) λq=>?_
   .refine r _ _ ⟨rfl,?_⟩;have:=hO m B;rw[dh ⟨af,af⟩];rcases xu with z|⟨_,_,z⟩<;>omega
   .refine r _ _ ⟨rfl,?_⟩;rcases xu with z|⟨z1,z2,_⟩
    .omega
    .rw[aLS,z1,z2]at q;simp at q
  rintro z w'' ⟨rfl,hz⟩;refine bP (λX w'=>X=false/\qK w0 w' l aa G' d (au g3 (opA (λi=>afM l G i) (b+s).toNat)::HoR l.ps sc b s lg dp g1 g2)) (λJ2 r=>?_) ?_
  .refine cH h λw h=>?_;refine uu af af ?_;rw[Nat.mul_one,iZ,Nat.zero_add];refine cr (g:=g3) (o:=m) h tq ?_;have U:=h;refine amv c h λw h=>?_;refine eD (g:=g3) U h ?_;refine aU (by simp;rcases xu with q|q<;>omega) ?_
   refine amv c h λw h=>?_;exact r _ _ ⟨by simp;omega,h⟩
  clear h;rintro _ w ⟨rfl,h⟩;refine aU rfl ?_;refine Q (m+1) _ _ ⟨?_,af,h⟩ af;rw[dh ⟨af,af⟩];omega
 clear h;intro _ w h;have aLT:=R.sl;have hwl:∀{z:Int},0<=z->z<=1048576->wr (l.fuel - z)=l.fuel - z:=λh0 U=>dh ⟨af,af⟩;have e1:=hwl Y8.1 af;have e2:=hwl aLT.1 af;have pM:((G'.M.cells.length:Nat):Int)<=65536:=by have:=c.ty.ok.fit;have:=c.ty.sz;omega
 have hoff:∀W∈d,onF l G' W=false->W.stack=[]/\G'.M.list W.dq=[]:=λW hW hof=>by
  obtain⟨i,hi⟩:=List.getElem?_of_mem hW;obtain⟨_,a2,a3⟩:=hE'.off i W hi hof;exact⟨a2,aF5 c hW a3⟩
 have aLU:∀(i:Nat) W,d[i]?=some W->(i:Int)<b->onF l G' W=true:=λi W hi q=>aHx c hi (by rw[hsb];exact q)
 refine bP (λX w=>X=false/\qK w0 w l aa G' d (au g3 (opA (λi=>afM l G i) (b+s).toNat)::HoR l.ps sc b s lg dp g1 g2)) (λJ hJ=>?_) ?_
 .have tail:∀{w},qK w0 w l aa G' d (au g3 (opA (λi=>afM l G i) (b+s).toNat)::HoR l.ps sc b s lg dp g1 g2)->aaS (some ⟨l.gs,0,none⟩) (U0 l.ps sc b s lg) dp w λb89 w90=>J (!b89) w90:=fun{w} h=>
   ayp F R hoff aLU hfu aLQ hbs hdp af ZG hl5 h λw h=>hJ _ _ ⟨rfl,h⟩
  refine cH h λw h=>?_;refine azz h λw h=>?_;rw[e1,e2];refine aU (by simp;omega) ?_
  refine azz h λw h=>?_;rw[e2];refine aU (by rw[dh ⟨af,af⟩];simp;omega) ?_
  refine azz h λw h=>?_;rw[e2];refine ax (λq=>?_) λq=>?_
  .have q:l.fuel - G'.steps<l.fuel - G.steps:=by simpa using q
   have kM:kd=0:=by rcases T with z|z;omega;exact z.1
   refine cX ?_;refine QN V h af A λp D=>?_;refine uZ (D h (j:=0) rfl) ?_;clear D;refine aU (by rw[kM];rfl) ?_
   refine cX ?_;have U:=h;refine ao9 h λw h=>?_;refine asq (g:=g2) U h rfl ?_;refine aU (by simp;omega) ?_
   refine cX ?_;exact tail h
  .refine cX ?_;have U:=h;refine ao9 h λw h=>?_;refine asq (g:=g2) U h rfl ?_;refine aU (by simp;omega) ?_
   refine cX ?_;exact tail h
 clear h;rintro _ w ⟨rfl,h⟩;refine aU rfl ?_;refine hC (j+1,aa,G',d) _ _ ⟨?_,af,F,R,?_,λx u=>?_,h.rm 2 rfl⟩ (by simp only;omega)
 .dsimp only;rw[dh ⟨af,af⟩];omega
 .dsimp only;rw[show(1:Int)+((j+1:Nat):Int)=1+(j:Int)+1 by omega]
  exact hE'
 .dsimp only;have U:=hO x u;rcases H x u with z|⟨_,_,z⟩<;>omega
def _root_.Go.Ev.zx.aCR{P:Program}{t e:TypeId}{cs:List Value}{n k b:Nat}(ht:P.underlying t=some (.slice e))(he:(∃n e',P.underlying e=some (.array n e'))\/∃fs,P.underlying e=some (.struct fs))(hf:Vd P n e=true)(hk:P.cellsOf e=k)(hb:P.bytesOf e=b)(h:zx P w0 t cs):
  ∃(s:Sl) (es:List (List Int)),cs=[S_ s]/\QM k w0 s (es.map Go.Ev.ints)/\(∀x∈es,x.length=k/\∀y∈x,sy y)/\es.length*b<=reachBytes:=by
 obtain⟨s,es,rfl,h2,h3,h4,h5,lG⟩:=h.slice ht;obtain⟨l,rfl,hl⟩:=zy (f:=Go.Ev.ints) (G:=λi:List Int=>i.length=k/\∀y∈i,sy y) (es:=es) λe' he'=>by
  obtain⟨xs,hx,hI⟩:=zy ((lG e' he').flat hf);refine⟨xs,hx,?_,hI⟩;have:=(lG e' he').len he;rw[hx,hk]at this;simpa using this
 rw[hk]at h2;rw[hb]at h3;exact⟨s,l,rfl,h2,hl,by simpa using h3⟩
def runT:∃f0 f1 f2 f3 f4:Field,Tryz.prog.underlying 27=some (.struct #[f0,f1,f2,f3,f4])/\(f0.type=24/\f0.offset=0)/\(f1.type=3/\f1.offset=1)/\(f2.type=3/\f2.offset=2)/\(f3.type=3/\f3.offset=3)/\(f4.type=25/\f4.offset=4):=
 ⟨_,_,_,_,_,Tryz.underlying27,⟨rfl,rfl⟩,⟨rfl,rfl⟩,⟨rfl,rfl⟩,⟨rfl,rfl⟩,⟨rfl,rfl⟩⟩
def aww{v:Value}(h:Arg Tryz.prog w0 27 v):∃(ps sc:Sl) (P:List dB) (b s lg:Int) (evs:List (List Int)),v= .agg (U0 ps sc b s lg)/\iA w0 ps P/\QM 2 w0 sc (evs.map Go.Ev.ints)/\(∀x∈evs,x.length=2/\∀y∈x,sy y):=by
 obtain⟨f0,f1,f2,f3,f4,A,⟨H,I⟩,⟨t1,J⟩,⟨t2,K⟩,⟨L,i⟩,M,j⟩:=runT;obtain⟨cs,rfl,N⟩:=h.agg (.inr ⟨_,A⟩);obtain⟨B,f⟩:=N.struct A;have l:=f 0 f0 bf;have m:=f 1 f1 bf;have h2:=f 2 f2 bf;have o:=f 3 f3 bf;have p:=f 4 f4 bf;have q:Tryz.prog.cellsOf 24=1:=by kernel_rfl
 have c3:Tryz.prog.cellsOf 3=1:=by kernel_rfl
 have r:Tryz.prog.cellsOf 25=1:=by kernel_rfl
 have t:Tryz.prog.cellsOf 27=5:=by kernel_rfl
 rw[H,I,q]at l;rw[t1,J,c3]at m;rw[t2,K,c3]at h2;rw[L,i,c3]at o;rw[M,j,r]at p;rw[t]at B;obtain⟨a,b,c,d,e,g⟩:∃a b c d e,cs.toList=[a,b,c,d,e]:=by
  match cs.toList,B with
  |[a,b,c,d,e],_=>exact⟨a,b,c,d,e,rfl⟩
 rw[g]at l m h2 o p;obtain⟨ps,P,C,O⟩:=zx.program Ck.aBQ l;obtain⟨Q,D,_⟩:=zx.int Tryz.underlying3 m;obtain⟨s',e2,_⟩:=zx.int Tryz.underlying3 h2;obtain⟨u,F,_⟩:=zx.int Tryz.underlying3 o;obtain⟨sc,evs,G,R,z,_⟩:=zx.aCR (n:=4) (k:=2) (b:=16) Tryz.underlying25 (.inr ⟨_,Tryz.underlying34⟩) aZ aZ aZ p;refine⟨ps,sc,P,Q,s',u,evs,?_,O,R,z⟩;simp at C D e2 F G;subst C D e2 F G;congr 1;exact Array.ext' g
end Go.Proofs.YthidhjhkmjjckaaGreatDoor
namespace Go.Ev
open Go Go.RowKit Go.ChangeShapes Go.WideShapes
def ahO{H:Type}{enc:TypeId×Value->H}{C:Checked}{os:Os}{K:FuncId}{fn:Func}{s:ChangeSpec}{tb:TypeId}{X:World->Array Value->Prop}
  (z:∀(w w':World) (args:Array Value),w.heap=w'.heap->X w args->X w' args)
  (own:ownKnob C.prog.godebug=none) (started:os.Started) (noInit:C.prog.inits.idxOf? K=none) (k:C.prog.funcs[K]?=some fn)
  (witness:∃(w:World) (tape:Tape) (i:Input),w.os=os/\(w.forCall tape i).Shaped C.prog/\i.vars=[]/\Input.okWide C.prog (w.forCall tape i) .any w.heap.size K i/\
   ((s.pre enc C.prog fn [] false (w.forCall tape i).memory i.args/\X (w.forCall tape i).memory i.args)/\sizedMet enc C.prog fn (OpenSpec.ofChange s) false (w.forCall tape i).memory i.args)/\({}:Assume).holds C.prog (lone (Frame.enter C.prog K i.args .normal) [] (w.forCall tape i)))
  (hvars:s.vars=[]) (A:laidOutB C.prog=true) (hrows:fn.params.toList.all (λt=>C.prog.readableRec t&&decide (t<C.prog.types.size))=true)
  (b:fn.resultTypes=#[tb]) (l:C.prog.underlying tb=some .bool)
  (hs:∀ds:List (DataW H),ds.length=fn.params.toList.length->s.fn H ds={results:=[.lit (.bool true)],args:=ds})
  (walk:∀(W:World) (args:Array Value),WO C.prog W fn.params.toList args.toList->X W args->
   Calls C.prog K args W λe W'=>e= .returned (.bool true)/\Below W.heap.size W W'):
  ReturnsInHanded {} C os K .any (λw args=>(s.pre enc C.prog fn [] false w args/\X w args)/\sizedMet enc C.prog fn (OpenSpec.ofChange s) false w args) (s.post enc C.prog fn false true false false):=by
 refine returnsInHanded_of_change_and z own started noInit k witness ?_;intro W base args ds J before c u _ d m _;have f:=u;obtain⟨p,q,o,y,rfl,B,D⟩:=u;rw[hvars]at y;obtain⟨rfl,rfl⟩:=trodVars_none y;have a:=UD o;have r:s.plain.varTypes C.prog=[]:=by simp[DataSpec.varTypes,ChangeSpec.plain,hvars]
 rw[r,List.append_nil,List.append_nil]at d;have hargs:=aid (λj t v F hv=>c j t v (gq F) (gq hv)) o (λn G=>gq (tL.1 d n G))
 refine(walk W args hargs m).mono λe W' ⟨he,g⟩=>?_;subst he;refine⟨_,rfl,ds,[],p++[],[],p,[],f,?_,?_,?_,g.frame _,λh=>by cases h⟩
 .rw[List.append_nil,hs ds a,b];exact trodAll_mk1 (shut_bool l _)
 .rw[List.append_nil,hs ds a];exact QL A g hrows o λx I=>f.lt x (by simp[I])
 .rw[List.append_nil,hs ds a,hvars];exact rfl
end Go.Ev
