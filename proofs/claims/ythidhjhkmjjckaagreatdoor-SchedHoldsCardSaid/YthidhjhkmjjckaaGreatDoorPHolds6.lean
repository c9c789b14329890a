/-
  Parts of the proof of LHolds: printed by a program out of longer texts.
-/
import Derived.Test.YthidhjhkmjjckaaGreatDoorPHolds5
set_option linter.unusedSimpArgs false
set_option linter.unusedVariables false
set_option maxRecDepth 100000
set_option linter.defProp false
open List renaming getElem?_eq_some_iff->kB,getElem?_eq_getElem->iH,getD_eq_getElem?_getD->m0,getElem?_append_left->tJ,getElem?_append_right->u0,getElem?_set_ne->r0,getElem?_set_self->uO,mem_of_getElem?->qn,getElem?_map->l8,eraseIdx->I7,insertIdx_succ_cons->aBT,insertIdx_zero->aBU,replicate->dU,mem_append->zw,length_append->uv,all_eq_true->tL
open Go.Sem renaming run_pure->cP,run_bind->cR
open Go.Result renaming andThen_ok->cK
open Bool renaming or_eq_false_iff->kf,and_eq_true->iY
open Option renaming isNone->eA
open Go.IntKind renaming wrap->aF
open Int renaming toNat_natCast->iZ
open Array renaming setIfInBounds->eS,getElem?_eq_some_iff->Bf
open Nat renaming le_refl->iw
open Go.Addr renaming add->aY
namespace Go.Proofs.YthidhjhkmjjckaaGreatDoor
open Go Go.Ev Go.Proofs
open Ko (CK)
open Ck (oW)
open Fr (A0 nE dY eI di iG jo nF o5)
structure IV (l:Lc) (P:List dB) (bw:List Int) (ro:List Ro) (G:Gl) (Ws:List Wk):Prop where
 lc:afx l
 lg:0<=l.log/\l.log<=8
 acc:oW P
 ty:Ty l ro G
 wn:l.wa.length=Ws.length
 dl:Ws.map (·.dq)=bw
 dq:∀v,v<l.wa.length->ZH ro v (bw.getD v 0)
 w:∀(i:Nat) (W:Wk),Ws[i]?=some W->WT l P bw ro G i W
 dj:∀(i j:Nat) (Wi Wj:Wk) (x:Nat),Ws[i]?=some Wi->Ws[j]?=some Wj->x∈Wi.hold->x∈Wj.hold->i=j
 fr:∀x,x<G.ts.length->G.K x=0->OJ P G.ts.length (G.tk x)
variable{G:Gl}{P:List dB}{W:Wk}{Ws:List Wk}{bw:List Int}{l:Lc}{ro:List Ro}
variable{zd:Nat}
def IV.cx(h:IV l P bw ro G Ws)(hi:Ws[zd]?=some W)(a:G.err=0):Cx l P bw ro G zd W:=⟨h.lc,h.lg,h.acc,h.ty,h.w zd W hi,h.dq,a⟩
theorem av8(kd:Int):(Ck.pY kd).2<=2147483647:=by
 unfold Ck.pY;grind
theorem av9(a:Ck.oV bw=0):bw.getD 4 0<=1099511627776:=by
 unfold Ck.oV at a;split at a
 .cases a
 .split at a
  .rename_i b;unfold Ck.fits at b;rw[tL]at b;have f3:=b 3 e7;unfold Ck.fit at f3;have:=av8 ((Ck.kinds (Ck.gA bw)).getD 3 0);grind
  .cases a
variable{i y:Nat}{iT:List Ro}
def azo(c:Cx l P bw ro G i W)(j:bw.length=l.wa.length)(n:∀y,y<G.ts.length->G.K y=0->OJ P G.ts.length (G.tk y)):∃iT,rV l P bw ro iT G i W (ZB l P G W bw):=by
 have ct:=c.ct;unfold ZB;dsimp only;generalize d:W.stack.headD 0=x;have e:G.tk (W.stack.headD 0)=G.tk x:=by rw[d]
 cases a:W.cT with
 |m f=>
  cases f with
  |rest=>exact⟨_,aza c a⟩
  |pF=>
   have b:=ct;unfold cD at b;rw[a]at b;dsimp only at b;obtain⟨O,hO,_⟩:=b;dsimp only;rw[hO];obtain⟨iT,h,_⟩:=aml c j a hO e.symm;exact⟨iT,h⟩
  |looking=>
   have b:=ct;unfold cD at b;rw[a]at b;dsimp only at b;obtain⟨k,p,_⟩:=b;dsimp only;rw[p];exact⟨_,amo c a p d rfl⟩
  |tell=>exact⟨_,azb c a⟩
  |others=>exact⟨_,aqv c a⟩
  |xn=>
   have b:=ct;unfold cD at b;rw[a]at b;dsimp only at b;obtain⟨_,_,o,g,_⟩:=b;dsimp only;rw[g];exact⟨_,aqu c a g⟩
  |So=>exact⟨_,aCo c a⟩
  |JA=>exact⟨_,azc c a⟩
  |tE=>exact⟨_,aqE c a n⟩
  |start=>exact⟨_,av6 c a rfl⟩
  |next=>exact⟨_,azh c a d rfl⟩
  |fork=>exact azk c a d rfl
  |xo=>exact av1 c a d rfl
  |tF=>exact⟨_,aqD c a d rfl⟩
  |join=>exact⟨_,azg c a e.symm⟩
  |cJ=>exact⟨_,aCq c a⟩
  |opens=>
   have b:=ct;unfold cD at b;rw[a]at b;dsimp only at b;rw[d]at b;exact av3 c a d rfl (av9 (b.2.1.fi.oV c.acc))
  |close=>exact⟨_,av0 c a d rfl⟩
  |gL=>exact⟨_,aqB c a d rfl⟩
  |cancel=>exact⟨_,aqA c a d rfl⟩
  |pass=>exact⟨_,azj c a d rfl⟩
  |leave=>exact⟨_,avZ c a d rfl⟩
  |put=>exact⟨_,aCv c a d rfl⟩
  |fin=>exact⟨_,aCw c a d rfl⟩
  |asks=>exact⟨_,azm c a e.symm⟩
  |gone=>exact⟨_,azn c a e.symm⟩
  |asked=>exact⟨_,avW c a e.symm⟩
  |joined=>exact⟨_,aqC c a d rfl⟩
  |ul=>exact⟨_,aqz c a e.symm⟩
  |rp=>exact⟨_,amm c a⟩
  |sx=>exact⟨_,amn c a e.symm⟩
  |register=>exact⟨_,aj7 c a⟩
  |block=>
   have b:=ct;unfold cD at b;rw[a]at b;dsimp only at b;obtain⟨_,o,g,_⟩:=b;dsimp only;rw[g];exact⟨_,avS c a g⟩
  |Io=>exact⟨_,azf c a e.symm⟩
  |stops=>exact⟨_,av5 c a d rfl⟩
  |cancelled=>unfold cD at ct;rw[a]at ct;exact ct.elim
  |vQ=>unfold cD at ct;rw[a]at ct;exact ct.elim
  |BQ=>unfold cD at ct;rw[a]at ct;exact ct.elim
  |y5=>unfold cD at ct;rw[a]at ct;exact ct.elim
  |nothing=>unfold cD at ct;rw[a]at ct;exact ct.elim
  |Uv=>unfold cD at ct;rw[a]at ct;exact ct.elim
  |AL=>unfold cD at ct;rw[a]at ct;exact ct.elim
 |aw y=>exact⟨_,aE7 c a e.symm⟩
 |sh k=>exact⟨_,aE8 c a e.symm⟩
 |no=>unfold cD at ct;rw[a]at ct;exact ct.elim
 |any=>unfold cD at ct;rw[a]at ct;exact ct.elim
 |c f=>unfold cD at ct;rw[a]at ct;exact ct.elim
 |nx i=>unfold cD at ct;rw[a]at ct;exact ct.elim
 |V2 y k=>unfold cD at ct;rw[a]at ct;exact ct.elim
 |BR y k=>unfold cD at ct;rw[a]at ct;exact ct.elim
 |hl m z=>unfold cD at ct;rw[a]at ct;exact ct.elim
theorem IV.step(h:IV l P bw ro G Ws)(hi:Ws[i]?=some W)(z:G.err=0):∃iT,rV l P bw ro iT G i W (ZB l P G W bw)/\IV l P bw iT (ZB l P G W bw).1 (Ws.set i (ZB l P G W bw).2):=by
 have c:=h.cx hi z;have d:=(kB.1 hi).1;obtain⟨iT,hr⟩:=azo c (by rw[<-h.dl,List.length_map,h.wn]) h.fr
 generalize ZB l P G W bw=r at hr ⊢;refine⟨iT,hr,h.lc,h.lg,h.acc,hr.ty,by rw[List.length_set];exact h.wn,?_,λv hv=>?_,λj Wj a=>?_,λj k Wj o x a f g p=>?_,λx s A=>?_⟩
 .rw[List.map_set,hr.wt.dq,<-h.dl];have:(Ws.map (·.dq)).getD i 0=W.dq:=by rw[m0,l8,hi];rfl
  rw[this];apply List.ext_getElem?;intro k;by_cases f:i=k
  .subst f;rw[uO (gq d),l8,hi];rfl
  .rw[r0 f]
 .obtain⟨m,e⟩:=hr.Cd.ext;rw[e];exact(h.dq v hv).qT
 .by_cases e:i=j
  .subst e;rw[uO d]at a;cases a
   exact hr.wt
  .rw[r0 e]at a;exact(h.w j Wj a).imp hr.Cd (λx s q=>e (h.dj i j W Wj x hi a q s)) (λ_=>z)
 .have key:∀j Wj,Ws[j]?=some Wj->i≠j->∀x∈Wj.hold,x ∉ r.2.hold:=λj Wj a t x g u=>by
   rcases hr.hd x u with q|⟨C,D⟩
   .exact t (h.dj i j W Wj x hi a q g)
   .have:=(h.w j Wj a).run x g;omega
  by_cases e:i=j
  .grind
  .rw[r0 e]at a;by_cases e2:i=k
   .grind
   .rw[r0 e2]at f;exact h.dj j k Wj o x a f g p
 .by_cases b:x<G.ts.length
  .have B:=hr.Cd.K0 x b A;have y:x ∉ W.hold:=λq=>by have:=(h.w i W hi).run x q;omega
   rw[hr.Cd.tk b y];exact(h.fr x b B).imp hr.Cd.n
  .exact hr.fr x af s
def Ro.st(d e:Prop):Ro->Prop
 | .fk _=>True
 | .fv _=>True
 | .ask _=>True
 | .liv _=>True
 | .top _=>d
 | .bot _=>d
 | .Uw _=>d
 | .rg _ _ _=>d
 | .OI=>e
 |_=>False
structure aTL (d e:Prop) (ro:List Ro) (wk:Int) (M M':bJ):Prop where
 same:∀a r,k9 ro a r->r.st d e->M'.get a=M.get a
 tick:M'.steps=M.steps\/M'.steps=(M.tick wk).steps
 used:M.cells.length<=M'.cells.length
def Wk.nsp(W:Wk):Prop:=W.cT≠ .m .xn/\W.cT≠ .m .block/\W.cT≠ .m .stops
def aTM(W:Wk):Prop:=W.cT≠ .m .start/\W.cT≠ .m .xo/\W.cT≠ .m .tF/\W.cT≠ .m .asks/\W.cT≠ .m .gone
structure aTN (W W':Wk):Prop where
 s:W'.stack=W.stack
 b:W'.back=W.back
 m:aTM W'
inductive aTO (P:List dB) (G:Gl) (t:Tk):Tk->Prop
 |plain (h:(dY t.f (bz P t.f)).2=true):aTO P G t {t with f:=(dY t.f (bz P t.f)).1}
 |pass (h:Ip P t=14):aTO P G t {t with f:=nE t.f}
 |leave (h:Ip P t=15\/Ip P t=16):aTO P G t {t with f:=nE t.f,kind:=if Ip P t=15 then 3 else 2,v:=t.f.getD (2+((bz P t.f).getD 1 0).toNat) 0}
 |join {y:Nat} (h:Ip P t=9\/Ip P t=10) (hy:hand P t=(y:Nat)) (hl:y<G.ts.length) (hk:2<=G.K y) (hb:(di t.f (bz P t.f) (G.K y) (if G.K y=4 then 0 else G.V y)).2.2=false):aTO P G t {t with f:=(di t.f (bz P t.f) (G.K y) (if G.K y=4 then 0 else G.V y)).1}
 |bad {y:Nat} (h:Ip P t=9\/Ip P t=10) (hy:hand P t=(y:Nat)) (hl:y<G.ts.length) (hk:2<=G.K y) (hb:(di t.f (bz P t.f) (G.K y) (if G.K y=4 then 0 else G.V y)).2.2=true):aTO P G t {t with f:=(di t.f (bz P t.f) (G.K y) (if G.K y=4 then 0 else G.V y)).1,kind:=3,v:=(di t.f (bz P t.f) (G.K y) (if G.K y=4 then 0 else G.V y)).2.1}
abbrev Wk.tp(W:Wk):Nat:=W.stack.headD 0
def aDY(P:List dB)(G:Gl)(W:Wk):Tk:=⟨(G.T.length:Nat),(G.tk W.tp).kA.1,W.own,(G.M.cells.length:Nat),jo (G.tk W.tp).f ((bz P (G.tk W.tp).f).getD 4 0) (EN P ((bz P (G.tk W.tp).f).getD 4 0)),ByteArray.mk #[],[],[W.own],0,0⟩
def aD2(P:List dB)(G:Gl)(W:Wk):Tk:={G.tk W.tp with f:=eI (G.tk W.tp).f (bz P (G.tk W.tp).f) (G.ts.length:Nat)}
def aFY(P:List dB)(G:Gl)(W:Wk):Gl:={G with M:=(G.M.tick W.id).grow 3,T:=Hz G.T (G.tk W.tp).id,ts:=(G.ts++[aDY P G W]).set W.tp (aD2 P G W),P:=G.P.set W.own.toNat ((G.T.length:Nat),0,0,false),steps:=wr (G.steps+1)}
def Wk.emp(W:Wk):Prop:=(W.cT= .m .stops/\(W.pG= .c .Co\/W.pG= .c .qI))\/W.cT= .m .gL
def aok(P:List dB)(G:Gl)(W:Wk):Gl:={G with M:=(G.M.tick W.id).grow 2,C:=G.C++[⟨(G.tk W.tp).kA.1,wr ((G.nd (G.tk W.tp).kA.1).nest+1),(G.M.cells.length:Nat)⟩],P:=G.P++[((G.tk W.tp).id,(((G.tk W.tp).scopes.length:Nat):Int),G.pk (G.tk W.tp).kA.1,false)],time:=if (bz P (G.tk W.tp).f).getD 4 0>0 then(G.time.1,(Ko.Dt G.time ((G.C.length:Nat):Int) ((bz P (G.tk W.tp).f).getD 4 0)).2)else G.time,ts:=G.ts.set W.tp {G.tk W.tp with scopes:=(G.tk W.tp).scopes++[((G.C.length:Nat):Int)],cJ:=(G.tk W.tp).cJ++[(((G.C.length:Nat):Int),W.mark)],f:=nE (G.tk W.tp).f},steps:=wr (G.steps+1)}
def aHe(P:List dB)(G:Gl)(W:Wk):Tk:={G.tk W.tp with cJ:=(G.tk W.tp).cJ.dropLast,gL:=(G.tk W.tp).gL++(if (G.M.get (G.nd (G.tk W.tp).kA.1).at_ !=0)then ByteArray.mk #[49]else ByteArray.mk #[48]),f:=iG (G.tk W.tp).f (bz P (G.tk W.tp).f) (G.M.get (G.nd (G.tk W.tp).kA.1).at_ !=0)}
def atV(P:List dB)(G:Gl)(W:Wk):Gl:={G with M:=G.M.tick W.id,time:=(G.time.1,Ko.EK G.time.2 (G.tk W.tp).kA.1),P:=Cq G.P (G.tk W.tp).kA.1,ts:=G.ts.set W.tp (aHe P G W),steps:=wr (G.steps+1)}
inductive Stp (l:Lc) (P:List dB) (ro:List Ro) (G:Gl) (W:Wk):Gl->Wk->Prop
 |quiet {M:bJ} {D:List Int} {W':Wk} (q:aTL (W.cT≠ .m .pF) W.nsp ro W.id G.M M) (k:aTN W W') (o:aTM W) (d:D=G.D\/D=G.D.tail):Stp l P ro G W {G with M:=M,D:=D} W'
 |fail {M:bJ} {e:Int} {W':Wk} (q:aTL (W.cT≠ .m .pF) W.nsp ro W.id G.M M) (he:e≠0) (k:W'.stack=W.stack/\W'.back=W.back/\W'.cT=W.cT/\W'.jq=W.jq/\W'.own=W.own) (o:W.cT≠ .m .gone/\W.cT≠ .m .tF):Stp l P ro G W {G with M:=M,err:=e} W'
 |jq (hd:W.cT= .m .tE) (h:W.jq.toNat<G.ts.length/\G.K W.jq.toNat=0):Stp l P ro G W (G.mem (G.M.cs W.id ((G.tk W.jq.toNat).jI+0) 0 1).1) {W with cT:= .m .start}
 |start {W':Wk} {m:Int} (hd:W.cT= .m .start) (k:W'.stack=W.jq.toNat::W.stack/\W'.back=W.home::W.back/\W'.cT= .m .looking):Stp l P ro G W ((G.tick W.id).set W.jq.toNat {G.tk W.jq.toNat with cJ:=[((G.tk W.jq.toNat).own,m)]}) W'
 |aeR {M:bJ} {t':Tk} {W':Wk} (ne:W.stack≠ []) (r:BT P G.ts.length (G.tk W.tp)) (lt:G.steps<l.fuel) (h:aTO P G (G.tk W.tp) t') (q:aTL (W.cT≠ .m .pF) W.nsp ro W.id G.M M) (k:aTN W W') (o:aTM W):Stp l P ro G W (({G with M:=M}.set W.tp t').lZ) W'
 |ends {M:bJ} {W':Wk} (ne:W.stack≠ []) (h:SE G (G.tk W.tp)) (q:aTL (W.cT≠ .m .pF) W.nsp ro W.id G.M M) (k:aTN W W') (o:aTM W) (nf:W.cT≠ .m .fin) (k0:(G.tk W.tp).kind=0):Stp l P ro G W ({G with M:=M}.set W.tp {G.tk W.tp with kind:=4,v:=0}) W'
 |fork (ne:W.stack≠ []) (hd:W.cT= .m .fork) (r:BT P G.ts.length (G.tk W.tp)) (h8:Ip P (G.tk W.tp)=8) (rm:G.M.room 2=true):Stp l P ro G W {G with M:=(G.M.tick W.id).grow 2,C:=G.C++[⟨(G.tk W.tp).kA.1,wr ((G.nd (G.tk W.tp).kA.1).nest+1),(G.M.cells.length:Nat)⟩],P:=G.P++[(-2,0,0,false)]} {W with own:=(G.C.length:Nat),cT:= .m .xo}
 |xo (ne:W.stack≠ []) (hd:W.cT= .m .xo) (r:BT P G.ts.length (G.tk W.tp)) (h8:Ip P (G.tk W.tp)=8) (lt:G.steps<l.fuel) (rm:G.M.room 3=true):Stp l P ro G W (aFY P G W) {W with jq:=(G.ts.length:Nat),cT:= .m .tF}
 |tF (ne:W.stack≠ []) (hd:W.cT= .m .tF) (r:BT P G.ts.length (G.tk W.tp)):Stp l P ro G W (G.mem (G.M.ad W.id ((G.nd (G.tk W.tp).kA.1).at_+1) 1)) (W.A6 (bu.B7 W.dq l.log W.jq 0) (.c .um))
 |opens (ne:W.stack≠ []) (hd:W.cT= .m .opens) (r:BT P G.ts.length (G.tk W.tp)) (h11:Ip P (G.tk W.tp)=11) (lt:G.steps<l.fuel) (rm:G.M.room 2=true) (n32:¬wr ((G.nd (G.tk W.tp).kA.1).nest+1)>32):Stp l P ro G W (aok P G W) (W.go .next)
 |gL (ne:W.stack≠ []) (hd:W.cT= .m .gL) (r:BT P G.ts.length (G.tk W.tp)) (h12:Ip P (G.tk W.tp)=12) (lt:G.steps<l.fuel):Stp l P ro G W (atV P G W) (W.go .next)
 |cancel (ne:W.stack≠ []) (hd:W.cT= .m .cancel) (r:BT P G.ts.length (G.tk W.tp)) (h13:Ip P (G.tk W.tp)=13) (lt:G.steps<l.fuel):Stp l P ro G W (((G.mem (G.M.cs W.id (G.nd (G.tk W.tp).kA.1).at_ 0 1).1).set W.tp {G.tk W.tp with f:=nE (G.tk W.tp).f}).lZ) (W.JF (.m .next))
 |unwind (ne:W.stack≠ []) (hd:W.cT= .m .stops) (e:Ends (G.tk W.tp)) (ho:(G.tk W.tp).cJ≠ []) {W':Wk} (k:aTN W W') (hu:W.pG= .c .qI) (hw:¬W'.emp):Stp l P ro G W (G.Zv W.tp (G.tk W.tp)) W'
 |put (ne:W.stack≠ []) (hd:W.cT= .m .put) (e:Ends (G.tk W.tp)) (ho:(G.tk W.tp).cJ=[]) (k4:(G.tk W.tp).kind≠4):Stp l P ro G W (G.mem ((G.M.tick W.id).put ((G.tk W.tp).jI+1) (G.tk W.tp).v)) (W.go .fin)
 |fin (ne:W.stack≠ []) (hd:W.cT= .m .fin) (e:Ends (G.tk W.tp)) (ho:(G.tk W.tp).cJ=[]):Stp l P ro G W (G.mem (G.M.cs W.id ((G.tk W.tp).jI+0) 1 (G.tk W.tp).kind).1) (W.go .asks)
 |asks (ne:W.stack≠ []) (hd:W.cT= .m .asks):Stp l P ro G W (G.tick W.id) {W with bits:=G.M.get ((G.tk W.tp).jI+2),cT:= .m .gone}
 |gone {W':Wk} (ne:W.stack≠ []) (hd:W.cT= .m .gone) (e:Ends (G.tk W.tp)) (ho:(G.tk W.tp).cJ=[]) (k:W'.stack=W.stack.tail/\W'.back=W.back.tail/\aTM W') (hw:¬W'.emp):Stp l P ro G W (G.mem (G.M.ad W.id ((G.nd (G.tk W.tp).l7).at_+1) (-1))) W'
theorem agB(a:W.tp<G.ts.length):(aFY P G W).ts.length=G.ts.length+1/\(∀y,y<G.ts.length->(aFY P G W).tk y=if y=W.tp then aD2 P G W else G.tk y)/\(aFY P G W).tk G.ts.length=aDY P G W:=by
 refine⟨by simp[aFY],λy b=>?_,?_⟩
 .unfold Gl.tk aFY;grind
 .unfold Gl.tk aFY;dsimp only;rw[r0 af,u0 (iw _)];simp
variable{M:bJ}{d e:Prop}{wk:Int}
def aTL.aet:aTL d e ro wk M M:=⟨λ_ _ _ _=>rfl,.inl rfl,iw _⟩
def aTL.acN:aTL d e ro wk M (M.tick wk):=⟨λ_ _ _ _=>rfl,.inr rfl,iw _⟩
variable{a v:Int}{r:Ro}
def as7(h:Ty l ro G)(g:M.cells=G.M.cells)(f:k9 ro a r)(i:¬r.st d e):∀b wk,k9 ro b wk->wk.st d e->(M.put a v).get b=G.M.get b:=λb wk hb hs=>by
 have c:b≠a:=hb.ne f (by rintro rfl;exact i hs)
 rw[SC f.1 hb.1 c];unfold bJ.get;rw[g]
def aTL.ad(h:Ty l ro G)(b:k9 ro a r)(c:¬r.st d e):aTL d e ro wk G.M (G.M.ad wk a v):=⟨as7 (M:=G.M.tick wk) h rfl b c,.inr rfl,by rw[aDi];exact iw _⟩
variable{zh:Int}
def aTL.cs(h:Ty l ro G)(b:k9 ro a r)(c:¬r.st d e):aTL d e ro wk G.M (G.M.cs wk a zh v).1:=by
 unfold bJ.cs;split
 .exact⟨as7 (M:=G.M.tick wk) h rfl b c,.inr rfl,bf⟩
 .exact .acN
variable{O:bu}{u:Nat}
variable{zn:Prop}
def aTL.op{rr:bu×bJ}(f:¬e)(b:OpR l ro iT G wk u v O rr):aTL e zn ro wk G.M rr.2:=
 ⟨λa s hs c=>b.same a s hs (by cases s<;>first|exact(f c).elim|exact c.elim|exact λq=>q),b.tick,b.used⟩
def aTL.sp(a:¬e)(h:Ty l ro G)(o:jH):aTL d e ro wk G.M (o.go l.sp G.M wk).2:=by
 unfold jH.go;split
 .exact .aet
 iterate 2 exact .ad h h.Ye id
 iterate 3 exact .acN
 .exact .cs h h.OI a
variable{k:Kn}
variable{zp:Kn}{zr:List Nat}
theorem arO(h:EP P G zr k):k≠Kn.m .start/\k≠Kn.m .xo/\k≠Kn.m .tF/\k≠Kn.m .asks/\k≠Kn.m .gone:=by
 unfold EP at h;split at h
 .subst h;simp
 .unfold rq at h;grind
def aFZ{b:List Kn}(h:KU P G (i::zr) b):b.headD .no≠Kn.m .start/\b.headD .no≠Kn.m .xo/\b.headD .no≠Kn.m .tF/\b.headD .no≠Kn.m .asks/\b.headD .no≠Kn.m .gone:=by
 cases b with
 |nil=>exact h.elim
 |cons k b=>exact arO h.2.1
def rC.aTP(h:rC P G W):W.again≠Kn.m .start/\W.again≠Kn.m .xo/\W.again≠Kn.m .tF/\W.again≠Kn.m .asks/\W.again≠Kn.m .gone:=by
 obtain⟨y,e,_⟩|⟨k,e,_⟩:=h.cases<;>rw[e] <;>simp
def aaA{m:Mt}(a:W.cT= .m m)(h:(decide (m= .start)||decide (m= .xo)||decide (m= .tF)||decide (m= .asks)||decide (m= .gone))=false):aTM W:=by
 unfold aTM;rw[a];simpa[and_assoc]using h
variable{t:Tk}
def acf:aTN W (Go.Proofs.YthidhjhkmjjckaaGreatDoor.unwind W t):=by
 unfold Go.Proofs.YthidhjhkmjjckaaGreatDoor.unwind;split
 .exact⟨rfl,rfl,by simp[aTM,Wk.go]⟩
 .exact⟨rfl,rfl,by simp[aTM,shut,Wk.drain]⟩
theorem aoq{m:Mt}(h:W.cT= .m m)(a:m≠ .stops)(h2:m≠ .gL):¬W.emp:=by
 rintro(⟨q,_⟩|q)
 iterate 2 grind
def apd:¬(Go.Proofs.YthidhjhkmjjckaaGreatDoor.unwind W t).emp:=by
 unfold Go.Proofs.YthidhjhkmjjckaaGreatDoor.unwind;split
 iterate 2 exact aoq rfl e7 e7
theorem aEm(h:EP P G zr k)(a:W.cT=k):¬W.emp:=by
 have b:k≠ .m .stops/\k≠ .m .gL:=by
  unfold EP at h;split at h
  .subst h;simp
  .unfold rq at h;grind
 rintro(⟨q,_⟩|q)
 .exact b.1 (a.symm.trans q)
 .exact b.2 (a.symm.trans q)
def aku:aTN W (y5 l G W).2:=by
 unfold y5;dsimp only;split
 .exact⟨rfl,rfl,by simp[aTM,Wk.go]⟩
 split
 .exact⟨rfl,rfl,by simp[aTM]⟩
 .exact⟨rfl,rfl,by simp[aTM,Wk.go]⟩
def aeu(h:rC P G W):aTN W (nothing G W).2:=by
 have a:=h.aTP;unfold nothing;dsimp only;split
 .exact⟨rfl,rfl,a⟩
 split
 .exact⟨rfl,rfl,by simp[aTM,Wk.go]⟩
 split
 iterate 2 exact⟨rfl,rfl,by simp[aTM]⟩
def ah7(b:Dx l P G W):aTN W (KR l G W t bw).2/\(KR l G W t bw).1=G:=by
 unfold KR;split
 .unfold alM;rcases b.what with⟨_,_,_,a⟩|⟨c,_,_,a⟩
  .rw[if_pos a];exact⟨aku,rfl⟩
  .rw[if_neg (by rw[a];simp)];exact⟨aeu c,rfl⟩
 .exact⟨⟨rfl,rfl,by simp[aTM,Wk.A6]⟩,rfl⟩
variable{W' W1:Wk}
def aTN.of(h:aTN W1 W')(a:W1.stack=W.stack)(h2:W1.back=W.back):aTN W W':=⟨by rw[h.s,a],by rw[h.b,h2],h.m⟩
def Stp.q{r:SW}(o:aTM W)(a:r.1=G\/r.1=G.tick W.id)(k:aTN W r.2):Stp l P ro G W r.1 r.2:=by
 rcases a with e|e<;>rw[e]
 .exact .quiet (M:=G.M) (D:=G.D) .aet k o (.inl rfl)
 .exact .quiet (M:=G.M.tick W.id) (D:=G.D) .acN k o (.inl rfl)
variable{G1:Gl}
def Stp.f(o:W.cT≠ .m .gone/\W.cT≠ .m .tF)(c:G1=G\/G1=G.tick W.id)(a:v≠0)(k:W'.stack=W.stack/\W'.back=W.back/\W'.cT=W.cT/\W'.jq=W.jq/\W'.own=W.own):Stp l P ro G W (G1.fail v) W':=by
 rcases c with b|b<;>rw[b]
 .exact .fail .aet a k o
 .exact .fail .acN a k o
def aew:aTN W (dK G W t).2/\(dK G W t).1=G:=by
 unfold dK;split
 .exact⟨⟨rfl,rfl,by simp[aTM,vQ,Wk.search]⟩,rfl⟩
 .exact⟨⟨rfl,rfl,by simp[aTM,Wk.go]⟩,rfl⟩
def aep(o:aTM W)(a:W.cT≠ .m .fin)(f:G1=G\/G1=G.tick W.id)(ne:W.stack≠ [])(b:SE G (G.tk W.tp))(c:(G.tk W.tp).kind=0)(d:W1.stack=W.stack)(h2:W1.back=W.back):Stp l P ro G W (ends G1 W1 W.tp (G.tk W.tp) 4 0).1 (ends G1 W1 W.tp (G.tk W.tp) 4 0).2:=by
 unfold Go.Proofs.YthidhjhkmjjckaaGreatDoor.ends;rcases f with e|e<;>rw[e]
 .exact .ends (M:=G.M) ne b .aet (acf.of d h2) o a c
 .exact .ends (M:=G.M.tick W.id) ne b .acN (acf.of d h2) o a c
def akv(o:aTM W)(a:G1=G\/G1=G.tick W.id)(ne:W.stack≠ [])(r:BT P G.ts.length (G.tk W.tp))(b:W1.stack=W.stack)(h2:W1.back=W.back)(d:W1.cT=W.cT/\W1.jq=W.jq/\W1.own=W.own):Stp l P ro G W (afr l G1 W1 W.tp (G.tk W.tp) (bz P (G.tk W.tp).f)).1 (afr l G1 W1 W.tp (G.tk W.tp) (bz P (G.tk W.tp).f)).2:=by
 have g:G1.steps=G.steps:=by rcases a with e|e<;>rw[e] <;>rfl
 unfold afr;split
 .exact .f ⟨o.2.2.2.2,o.2.2.1⟩ a e7 ⟨b,h2,d⟩
 rename_i i;rw[g]at i;split
 .rename_i c;have k:aTN W (W1.go .next):=⟨b,h2,by simp[aTM,Wk.go]⟩
  rcases a with e|e<;>rw[e]
  .exact .aeR (M:=G.M) ne r af (.plain c) .aet k o
  .exact .aeR (M:=G.M.tick W.id) ne r af (.plain c) .acN k o
 .refine .q (r:=(G1,_)) o a ⟨b,h2,?_⟩;unfold aTM Wk.go adl;dsimp only;generalize ((bz P (G.tk W.tp).f).getD 0 0 - 8).toNat=z;match z with
  |0|1|2|3|4|5|6|7|8=>simp
  |z+9=>simp
abbrev aTQ(l:Lc)(P:List dB)(ro:List Ro)(G:Gl)(W:Wk)(r:SW):Prop:=Stp l P ro G W r.1 r.2
def aF0(c:Cx l P bw ro G i W)(b:W.cT= .m .pF)(o:W.op=some O):aTQ l P ro G W (pF l G W O (G.tk W.tp) bw G.vJ):=by
 have ct:=c.ct;unfold cD at ct;rw[b]at ct;dsimp only at ct;obtain⟨O',g,ct⟩:=ct;rw[o]at g;cases g;have key:∀(u:Nat) (d:Int),ZH ro u d->Cb l ro G.ts.length u d O->(∀r:bu×bJ,r.1.how≠0->aTN W (zj l (G.mem r.2) {W with op:=some r.1} (G.tk W.tp) bw G.vJ r.1.how).2/\(zj l (G.mem r.2) {W with op:=some r.1} (G.tk W.tp) bw G.vJ r.1.how).1=G.mem r.2)->aTQ l P ro G W (pF l G W O (G.tk W.tp) bw G.vJ):=by
  intro u d x hO a;obtain⟨iT,j⟩:=aj2 c.lg c.ty x c.caller hO;unfold pF;dsimp only;generalize O.step G.M W.id=r at j ⊢;split
  .exact .quiet (M:=r.2) (D:=G.D) (.op (by rw[b];simp) j) ⟨rfl,rfl,aaA (m:= .pF) b rfl⟩ (aaA b rfl) (.inl rfl)
  split
  .rename_i e;exact .fail (M:=r.2) (.op (by rw[b];simp) j) (j.err e) ⟨rfl,rfl,rfl,rfl,rfl⟩ (by rw[b];simp)
  .rename_i y _;obtain⟨f,h2⟩:=a r y;show Stp l P ro G W _ _;rw[h2];exact .quiet (M:=r.2) (D:=G.D) (.op (by rw[b];simp) j) f (aaA b rfl) (.inl rfl)
 have A:∀r:bu×bJ,rC P G W->rC P (G.mem r.2) {W with op:=some r.1}:=λr q=>⟨q.ne,q.hm,q.tg⟩
 have k:∀r:bu×bJ,Dx l P G W->Dx l P (G.mem r.2) {W with op:=some r.1}:=λr q=>⟨q.how,q.left,q.what.imp id λz=>⟨A r z.1,z.2⟩⟩
 have p:=c.idn;rw[p]at ct;split at ct
 .rename_i a;refine key i W.dq c.own ct.2.2.1 λr n=>?_;have e:zj l (G.mem r.2) {W with op:=some r.1} (G.tk W.tp) bw G.vJ r.1.how=F9 (G.mem r.2) {W with op:=some r.1} r.1.how:=by unfold zj;dsimp only;rw[a]
  rw[e];unfold F9;refine⟨?_,rfl⟩;dsimp only;split
  .exact⟨rfl,rfl,by simp[aTM,Wk.HE]⟩
  .exact⟨rfl,rfl,by simp[aTM,Wk.search]⟩
 .rename_i a;refine key i W.dq c.own ct.2.2.2.1 λr n=>?_;have e:zj l (G.mem r.2) {W with op:=some r.1} (G.tk W.tp) bw G.vJ r.1.how=um (G.mem r.2) {W with op:=some r.1} r.1.how:=by unfold zj;dsimp only;rw[a]
  rw[e];unfold um;refine⟨?_,rfl⟩;dsimp only;split
  .exact⟨rfl,rfl,by simp[aTM,Wk.HE]⟩
  .exact⟨rfl,rfl,by simp[aTM,Wk.JF]⟩
 .rename_i a;refine key i W.dq c.own ct.2.2.2.1 λr n=>?_;have e:zj l (G.mem r.2) {W with op:=some r.1} (G.tk W.tp) bw G.vJ r.1.how=td (G.mem r.2) {W with op:=some r.1} (G.tk W.tp) r.1.how:=by unfold zj;dsimp only;rw[a]
  rw[e];unfold td;split
  .obtain⟨f,h2⟩:=aew (G:=G.mem r.2) (W:={W with op:=some r.1}) (t:=G.tk W.tp);exact⟨f.of rfl rfl,h2⟩
  .exact⟨⟨rfl,rfl,by simp[aTM,BQ,Wk.stop]⟩,rfl⟩
 .rename_i a;obtain⟨s,⟨u,b1,b2,v,B⟩,a3⟩:=ct;refine key u _ (c.dq u b1) v λr n=>?_;have e:zj l (G.mem r.2) {W with op:=some r.1} (G.tk W.tp) bw G.vJ r.1.how=Uv l (G.mem r.2) {W with op:=some r.1} (G.tk W.tp) bw G.vJ r.1.how:=by unfold zj;dsimp only;rw[a]
  rw[e];unfold Uv;split
  .obtain⟨f,h2⟩:=ah7 (l:=l) (t:=G.tk W.tp) (bw:=bw) (k r s);exact⟨f.of rfl rfl,h2⟩
  .exact⟨⟨rfl,rfl,aaA (m:= .pF) b rfl⟩,rfl⟩
 .rename_i a;obtain⟨s,⟨u,b1,b2,v,B⟩,a3⟩:=ct;refine key u _ (c.dq u b1) v λr n=>?_;have e:zj l (G.mem r.2) {W with op:=some r.1} (G.tk W.tp) bw G.vJ r.1.how=AL l (G.mem r.2) {W with op:=some r.1} (G.tk W.tp) bw r.1.how:=by unfold zj;dsimp only;rw[a]
  rw[e];unfold AL;split
  .unfold auJ;split
   .exact⟨⟨rfl,rfl,by simp[aTM,BQ,Wk.stop]⟩,rfl⟩
   .exact⟨⟨rfl,rfl,by simp[aTM,Wk.HE]⟩,rfl⟩
  .have h:=k r s;obtain⟨f,h2⟩:=ah7 (l:=l) (t:=G.tk W.tp) (bw:=bw) (W:={W with op:=some r.1,late:=true}) (G:=G.mem r.2) ⟨h.how,h.left,h.what.imp id λz=>⟨⟨z.1.ne,z.1.hm,z.1.tg⟩,z.2⟩⟩
   exact⟨f.of rfl rfl,h2⟩
 .exact ct.elim
def ao8{k:Lk}(c:Cx l P bw ro G i W)(a:W.cT= .m .looking)(n:W.look=some k):aTQ l P ro G W (looking l G W k (G.nd k.at_) W.tp (G.tk W.tp)):=by
 have ct:=c.ct;unfold cD at ct;rw[a]at ct;dsimp only at ct;obtain⟨k',d,o,g,a3,e,b⟩:=ct;rw[n]at d;cases d;obtain⟨f,_⟩:=c.ty.O7 g.1 g.2;have j:(k.go G.M (G.nd k.at_)).xm=true->SE G (G.tk W.tp):=λq=>by
  unfold Lk.go at q;dsimp only at q;exact⟨k.at_,a3,_,f,by simpa using q⟩
 unfold looking;dsimp only;split
 .unfold Sy;dsimp only;split at b
  .rename_i hs;rw[hs];dsimp only;unfold adm;rw[b.2];split
   .rename_i hi;exact aep (aaA a rfl) (by rw[a];simp) (.inr rfl) e (j hi) b.1.kind rfl rfl
   .exact akv (aaA a rfl) (.inr rfl) e b.1 rfl rfl ⟨rfl,rfl,rfl⟩
  .rename_i hs;rw[hs];dsimp only;unfold th;refine .q (aaA a rfl) (.inr rfl) ?_;dsimp only;split
   .exact⟨rfl,rfl,by simp[aTM,Wk.stop]⟩
   .exact⟨rfl,rfl,by simp[aTM,Wk.go]⟩
  .rename_i hs;rw[hs];dsimp only;unfold xp;split
   .rename_i hi;exact aep (aaA a rfl) (by rw[a];simp) (.inr rfl) e (j hi) b.kind rfl rfl
   .exact .q (r:=(G.tick W.id,_)) (aaA a rfl) (.inr rfl) ⟨rfl,rfl,by simp[aTM,Wk.go]⟩
  .exact b.elim
 .exact .q (r:=(G.tick W.id,_)) (aaA a rfl) (.inr rfl) ⟨rfl,rfl,aaA (m:= .looking) a rfl⟩
def axc(o:aTM W)(c:rC P G W)(a:W1.stack=W.stack)(h2:W1.back=W.back)(b:W1.again=W.again)(d:W1.id=W.id):aTQ l P ro G W (again l G W1 t):=by
 unfold again;obtain⟨y,e,_⟩|⟨k,e,_⟩:=c.cases
 .rw[b,e];dsimp only;unfold Gi;refine .q o (.inr (by rw[d])) ⟨a,h2,by simp[aTM,Wk.looks]⟩
 .rw[b,e];exact .q o (.inl rfl) ⟨a,h2,by simp[aTM,shut,Wk.drain]⟩
def arP(c:Cx l P bw ro G i W)(a:W.cT= .m .joined):aTQ l P ro G W (joined l P G W W.tp (G.tk W.tp) (G.tk (W.target.getD 0))):=by
 have ct:=c.ct;unfold cD at ct;rw[a]at ct;dsimp only at ct;obtain⟨b,e,a3,d⟩:=ct;obtain⟨y,g,h2,o⟩|⟨k,g,_⟩:=b.cases;rotate_left
 .rw[g]at e;cases e
 obtain⟨b1,b2,j,n⟩:=o;have p:W.target.getD 0=y:=by rw[h2];rfl
 rw[p]at a3 ⊢;unfold joined;dsimp only;split
 .exact .f (by rw[a];simp) (.inl rfl) e7 ⟨rfl,rfl,rfl,rfl,rfl⟩
 rename_i s;have q:(if W.kind=4 then(0:Int)else G.M.get ((G.tk y).jI+1))=if G.K y=4 then 0 else G.V y:=by rw[a3];rfl
 rw[q,a3];have hq:aTL (W.cT≠ .m .pF) W.nsp ro W.id G.M (if G.K y=4 then G else G.tick W.id).M:=by split;exact .aet;exact .acN
 have r:(if G.K y=4 then G else G.tick W.id)={G with M:=(if G.K y=4 then G else G.tick W.id).M}:=by split<;>rfl
 rw[a3]at d;rw[r];cases hb:(di (G.tk W.tp).f (bz P (G.tk W.tp).f) (G.K y) (if G.K y=4 then 0 else G.V y)).2.2 with
 |true=>
  rw[if_pos rfl];exact .aeR b.ne b1 af (.bad b2 j n d hb) hq (acf.of rfl rfl) (aaA a rfl)
 |false=>
  rw[if_neg e7];exact .aeR b.ne b1 af (.join b2 j n d hb) hq ⟨rfl,rfl,by simp[aTM,Wk.go]⟩ (aaA a rfl)
def axd(c:Cx l P bw ro G i W)(a:W.cT= .m .stops):aTQ l P ro G W (stops l G W W.tp (G.tk W.tp) G.vJ G.V8):=by
 have ct:=c.ct;unfold cD at ct;rw[a]at ct;dsimp only at ct;obtain⟨b,x,a3⟩:=ct;have f:∀W':Wk,W'.cT=W.cT->aTM W':=λW' e=>aaA (m:= .stops) (e.trans a) rfl;unfold stops;split
 .refine .quiet (D:=G.D) (.sp (by unfold Wk.nsp;rw[a];simp) c.ty (W.step.getD (jH.B7 0 2))) ?_ (aaA a rfl) (.inl rfl)
  dsimp only;split
  iterate 2 exact⟨rfl,rfl,f _ rfl⟩
 rename_i hb;have hb:W.blocked=false:=by simpa using hb
 split
 .rename_i p;have d:=c.fl.SG p;obtain⟨y,n,h2,r⟩|⟨k,n,_⟩:=b.cases;rotate_left
  .rw[n]at d;cases d
  have s:W.target.getD 0=y:=by rw[h2];rfl
  have o:y<G.ts.length:=r.2.2.2;have t:=(c.ty.qh o).w;have g:G.V8 y=(G.tk y).jI:=by unfold Gl.V8 Gl.tk;rw[iH o];rfl
  rw[s,g];exact .quiet (D:=G.D) (.ad c.ty t id) ⟨rfl,rfl,f _ rfl⟩ (aaA a rfl) (.inl rfl)
 unfold pG;split at a3
 .rename_i e;rw[e];have u:(G.tk W.tp).kind=0:=by
   obtain⟨y,_,_,q⟩|⟨k,e2,_⟩:=b.cases
   .exact q.1.kind
   .rw[e2]at a3;cases a3.1
  exact aep (aaA a rfl) (by rw[a];simp) (.inl rfl) b.ne a3.2 u rfl rfl
 iterate 2 rename_i y k e;rw[e];exact .q (aaA a rfl) (.inl rfl) ⟨rfl,rfl,by simp[aTM,Wk.HE]⟩
 iterate 2 rename_i e;rw[e];exact .q (aaA a rfl) (.inl rfl) ⟨rfl,rfl,by simp[aTM,Wk.go]⟩
 .rename_i e;have v:=e;rw[e];have j:=b.hm;rw[a3]at j;dsimp only;unfold qI;exact .unwind b.ne a j.1 j.2 acf v apd
 .exact a3.elim
def aib(c:Cx l P bw ro G i W)(B:∀y,y<G.ts.length->G.K y=0->OJ P G.ts.length (G.tk y)):aTQ l P ro G W (ZB l P G W bw):=by
 have ct:=c.ct;unfold ZB;dsimp only;cases a:W.cT with
 |m f=>
  unfold cD at ct;rw[a]at ct;cases f with
  |rest=>exact .q (aaA a rfl) (.inr rfl) ⟨rfl,rfl,by simp[aTM,rest,Wk.A6]⟩
  |pF=>
   dsimp only at ct ⊢;obtain⟨O,hO,_⟩:=ct;rw[hO];exact aF0 c a hO
  |looking=>
   dsimp only at ct ⊢;obtain⟨k,A,_⟩:=ct;rw[A];exact ao8 c a A
  |tell=>
   have h:=arO (G:=G) (P:=P) ct;exact .quiet (D:=G.D) (.ad c.ty c.ty.told id) ⟨rfl,rfl,h⟩ (aaA a rfl) (.inl rfl)
  |others=>
   dsimp only at ct ⊢;unfold others;have hs:aTN W (KR l {G.tick W.id with D:=G.D.tail} {W with left:=VU (G.D.headD 0) (xI W.id (l.sp.bits G.M) (G.M.get l.idle) l.wa.length)} (G.tk W.tp) bw).2/\(KR l {G.tick W.id with D:=G.D.tail} {W with left:=VU (G.D.headD 0) (xI W.id (l.sp.bits G.M) (G.M.get l.idle) l.wa.length)} (G.tk W.tp) bw).1={G.tick W.id with D:=G.D.tail}:=by
    unfold KR;split
    .unfold alM;rcases ct.what with⟨_,_,_,j⟩|⟨n,_,_,j⟩
     .rw[if_pos (show W.none_=_ from j)];exact⟨aku.of rfl rfl,rfl⟩
     .rw[if_neg (by show¬W.none_=_;rw[show W.none_=_ from j];simp)]
      exact⟨(aeu (P:=P) (G:={G.tick W.id with D:=G.D.tail}) (W:={W with left:=VU (G.D.headD 0) (xI W.id (l.sp.bits G.M) (G.M.get l.idle) l.wa.length)}) ⟨n.ne,n.hm,n.tg⟩).of rfl rfl,rfl⟩
    .exact⟨⟨rfl,rfl,by simp[aTM,Wk.A6]⟩,rfl⟩
   show Stp l P ro G W _ _;rw[hs.2];exact .quiet (M:=G.M.tick W.id) (D:=G.D.tail) .acN hs.1 (aaA a rfl) (.inr rfl)
  |xn=>
   dsimp only at ct ⊢;obtain⟨_,_,o,p,_⟩:=ct;rw[p];dsimp only;unfold xn;refine .quiet (D:=G.D) (.sp (by unfold Wk.nsp;rw[a];simp) c.ty o) ?_ (aaA a rfl) (.inl rfl)
   dsimp only;split
   .refine⟨rfl,rfl,?_⟩;unfold aTM;dsimp only;split<;>simp
   .exact⟨rfl,rfl,aaA (m:= .xn) a rfl⟩
  |So=>exact .quiet (D:=G.D) (.ad c.ty c.ty.idle id) ⟨rfl,rfl,by simp[aTM,So]⟩ (aaA a rfl) (.inl rfl)
  |JA=>exact .quiet (D:=G.D) (.ad c.ty c.ty.idle id) ⟨rfl,rfl,by simp[aTM,JA]⟩ (aaA a rfl) (.inl rfl)
  |tE=>
   dsimp only at ct ⊢;have h:=arO (G:=G) (P:=P) ct.2;have hl:W.jq.toNat<G.ts.length:=af;unfold tE;rw[ay2];by_cases d:G.M.get ((G.tk W.jq.toNat).jI+0)=0
   .simp only[d,decide_true,if_true];exact .jq a ⟨hl,by unfold Gl.K;rw[Int.add_zero]at d;exact d⟩
   .simp only[d,decide_false];have e:(G.M.cs W.id ((G.tk W.jq.toNat).jI+0) 0 1).1=G.M.tick W.id:=by unfold bJ.cs;rw[if_neg d]
    rw[e];exact .q (r:=(G.tick W.id,_)) (aaA a rfl) (.inr rfl) ⟨rfl,rfl,h⟩
  |start=>
   dsimp only at ct ⊢;unfold OF;split
   .exact .f (by rw[a];simp) (.inl rfl) e7 ⟨rfl,rfl,rfl,rfl,rfl⟩
   .exact .start a ⟨rfl,rfl,rfl⟩
  |next=>
   dsimp only at ct ⊢;unfold V7;split
   .exact .q (aaA a rfl) (.inl rfl) ⟨rfl,rfl,by simp[aTM,Wk.looks]⟩
   .exact akv (aaA a rfl) (.inl rfl) ct.1 ct.2 rfl rfl ⟨rfl,rfl,rfl⟩
  |fork=>
   dsimp only at ct ⊢;unfold fork;split
   .exact .f (by rw[a];simp) (.inl rfl) e7 ⟨rfl,rfl,rfl,rfl,rfl⟩
   split
   .exact .f (by rw[a];simp) (.inl rfl) e7 ⟨rfl,rfl,rfl,rfl,rfl⟩
   rename_i s;exact .fork ct.1 a ct.2.1 ct.2.2 (by simpa using s)
  |xo=>
   dsimp only at ct ⊢;unfold KQ;dsimp only;split
   .exact .f (by rw[a];simp) (.inl rfl) e7 ⟨rfl,rfl,rfl,rfl,rfl⟩
   split
   .exact .f (by rw[a];simp) (.inl rfl) e7 ⟨rfl,rfl,rfl,rfl,rfl⟩
   rename_i u s;exact .xo ct.1 a ct.2.1 ct.2.2.1 af (by simpa using s)
  |tF=>exact .tF ct.1 a ct.2.1
  |join=>
   dsimp only at ct ⊢;unfold join;dsimp only;unfold Gi;exact .q (aaA a rfl) (.inr rfl) ⟨rfl,rfl,by simp[aTM,Wk.looks]⟩
  |cJ=>exact .q (aaA a rfl) (.inr rfl) ⟨rfl,rfl,by simp[aTM,cJ]⟩
  |opens=>
   dsimp only at ct ⊢;by_cases b:G.steps>=l.fuel
   .unfold Go.Proofs.YthidhjhkmjjckaaGreatDoor.opens;dsimp only;rw[if_pos b];exact .f (by rw[a];simp) (.inl rfl) e7 ⟨rfl,rfl,rfl,rfl,rfl⟩
   by_cases h2:wr ((G.nd (G.tk W.tp).kA.1).nest+1)>32
   .unfold Go.Proofs.YthidhjhkmjjckaaGreatDoor.opens;dsimp only;rw[if_neg b,if_pos h2];exact .f (by rw[a];simp) (.inl rfl) e7 ⟨rfl,rfl,rfl,rfl,rfl⟩
   by_cases g:G.M.room 2=false
   .unfold Go.Proofs.YthidhjhkmjjckaaGreatDoor.opens;dsimp only;rw[if_neg b,if_neg h2,if_pos g];exact .f (by rw[a];simp) (.inl rfl) e7 ⟨rfl,rfl,rfl,rfl,rfl⟩
   have e:Go.Proofs.YthidhjhkmjjckaaGreatDoor.opens l P G W W.tp (G.tk W.tp) (G.nd (G.tk W.tp).kA.1) (G.pk (G.tk W.tp).kA.1)=(aok P G W,W.go .next):=by unfold Go.Proofs.YthidhjhkmjjckaaGreatDoor.opens;dsimp only;rw[if_neg b,if_neg h2,if_neg g];rfl
   show Stp l P ro G W _ _;rw[e];exact .opens ct.1 a ct.2.1 ct.2.2 af (by simpa using g) h2
  |close=>exact .q (aaA a rfl) (.inl rfl) ⟨rfl,rfl,by simp[aTM,close_,shut,Wk.drain]⟩
  |gL=>
   dsimp only at ct ⊢;by_cases b:G.steps>=l.fuel
   .unfold Go.Proofs.YthidhjhkmjjckaaGreatDoor.gL;dsimp only;rw[if_pos b];exact .f (by rw[a];simp) (.inl rfl) e7 ⟨rfl,rfl,rfl,rfl,rfl⟩
   have e:Go.Proofs.YthidhjhkmjjckaaGreatDoor.gL l P G W W.tp (G.tk W.tp) (G.nd (G.tk W.tp).kA.1)=(atV P G W,W.go .next):=by unfold Go.Proofs.YthidhjhkmjjckaaGreatDoor.gL;dsimp only;rw[if_neg b];rfl
   show Stp l P ro G W _ _;rw[e];exact .gL ct.1 a ct.2.1 ct.2.2 af
  |cancel=>
   dsimp only at ct ⊢;unfold Go.Proofs.YthidhjhkmjjckaaGreatDoor.cancel;split
   .exact .f (by rw[a];simp) (.inl rfl) e7 ⟨rfl,rfl,rfl,rfl,rfl⟩
   rename_i u;exact .cancel ct.1 a ct.2.1 ct.2.2 af
  |pass=>
   dsimp only at ct ⊢;unfold pass;split
   .exact .f (by rw[a];simp) (.inl rfl) e7 ⟨rfl,rfl,rfl,rfl,rfl⟩
   rename_i u;exact .aeR (M:=G.M) ct.1 ct.2.1 af (.pass ct.2.2) .aet ⟨rfl,rfl,by simp[aTM,Wk.go]⟩ (aaA a rfl)
  |leave=>
   dsimp only at ct ⊢;unfold leave;dsimp only;split
   .exact .f (by rw[a];simp) (.inl rfl) e7 ⟨rfl,rfl,rfl,rfl,rfl⟩
   rename_i u;exact .aeR (M:=G.M) ct.1 ct.2.1 af (.leave ct.2.2) .aet acf (aaA a rfl)
  |put=>
   dsimp only at ct ⊢;by_cases x:(G.tk W.tp).kind=4
   .have e:(Go.Proofs.YthidhjhkmjjckaaGreatDoor.put G W (G.tk W.tp)).1=G:=by unfold Go.Proofs.YthidhjhkmjjckaaGreatDoor.put;dsimp only;rw[if_pos x]
    exact .q (aaA a rfl) (.inl e) ⟨rfl,rfl,by simp[aTM,Go.Proofs.YthidhjhkmjjckaaGreatDoor.put,Wk.go]⟩
   .have e:(Go.Proofs.YthidhjhkmjjckaaGreatDoor.put G W (G.tk W.tp)).1=G.mem ((G.M.tick W.id).put ((G.tk W.tp).jI+1) (G.tk W.tp).v):=by unfold Go.Proofs.YthidhjhkmjjckaaGreatDoor.put;dsimp only;rw[if_neg x]
    show Stp l P ro G W _ _;rw[e];exact .put ct.1 a ct.2.1 ct.2.2 x
  |fin=>exact .fin ct.1 a ct.2.1 ct.2.2
  |asks=>exact .asks ct.1 a
  |gone=>
   dsimp only at ct ⊢;unfold Go.Proofs.YthidhjhkmjjckaaGreatDoor.gone;obtain⟨z,st,hs⟩:=List.exists_cons_of_ne_nil ct.1;have hb:=c.wt.bk;rw[hs]at hb;have h:=aFZ hb;refine .gone ct.1 a ct.2.1 ct.2.2 ?_ ?_
   .dsimp only;split
    .exact⟨rfl,rfl,by simp[aTM,Wk.JF]⟩
    .exact⟨rfl,rfl,h⟩
   .dsimp only;split
    .exact aoq (m:= .tell) rfl e7 e7
    .cases hbk:W.back with
     |nil=>rw[hbk]at hb;exact hb.elim
     |cons kb bs=>
      rw[hbk]at hb;exact aEm (G:=G) (P:=P) hb.2.1 rfl
  |asked=>
   dsimp only at ct ⊢;unfold asked;refine .q (aaA a rfl) (.inr rfl) ?_;dsimp only;split
   .exact⟨rfl,rfl,by simp[aTM,Wk.stop]⟩
   split
   .exact⟨rfl,rfl,by simp[aTM,Wk.drain]⟩
   .exact⟨rfl,rfl,by simp[aTM,Wk.stop]⟩
  |joined=>exact arP c a
  |ul=>
   dsimp only at ct ⊢;unfold ul;dsimp only;split
   .obtain⟨b,h2⟩:=aew (G:=G.tick W.id) (W:=W) (t:=G.tk W.tp);exact .q (aaA a rfl) (.inr h2) b
   .exact .q (aaA a rfl) (.inr rfl) ⟨rfl,rfl,by simp[aTM,Wk.A6]⟩
  |rp=>exact .q (aaA a rfl) (.inr rfl) ⟨rfl,rfl,by simp[aTM,rp]⟩
  |sx=>
   dsimp only at ct ⊢;unfold sx;split
   .exact .q (aaA a rfl) (.inr rfl) ⟨rfl,rfl,by simp[aTM,Wk.stop]⟩
   .exact .q (aaA a rfl) (.inr rfl) ⟨rfl,rfl,by simp[aTM,vQ,Wk.search]⟩
  |register=>
   dsimp only at ct ⊢;unfold register;obtain⟨y,b,h2,g⟩|⟨k,b,_⟩:=ct.1.cases;rotate_left
   .have:=ct.2;rw[b]at this;cases this
   have C:W.target.getD 0=y:=by rw[h2];rfl
   rw[C];have h:=ct.1.aTP;exact .quiet (D:=G.D) (.ad c.ty (c.ty.qh g.2.2.2).w id) ⟨rfl,rfl,h⟩ (aaA a rfl) (.inl rfl)
  |block=>
   dsimp only at ct ⊢;obtain⟨F,o,p,_⟩:=ct;have h:=F.aTP;rw[p];dsimp only;unfold block;refine .quiet (D:=G.D) (.sp (by unfold Wk.nsp;rw[a];simp) c.ty o) ?_ (aaA a rfl) (.inl rfl)
   dsimp only;split
   .exact⟨rfl,rfl,h⟩
   .exact⟨rfl,rfl,aaA (m:= .block) a rfl⟩
  |Io=>exact axc (aaA a rfl) ct rfl rfl rfl rfl
  |stops=>exact axd c a
  |cancelled=>exact ct.elim
  |vQ=>exact ct.elim
  |BQ=>exact ct.elim
  |y5=>exact ct.elim
  |nothing=>exact ct.elim
  |Uv=>exact ct.elim
  |AL=>exact ct.elim
 |aw y=>exact .q (by unfold aTM;rw[a];simp) (.inr rfl) ⟨rfl,rfl,by simp[aTM,Gi,Wk.looks]⟩
 |sh k=>exact .q (by unfold aTM;rw[a];simp) (.inl rfl) ⟨rfl,rfl,by simp[aTM,shut,Wk.drain]⟩
 |no=>exact .q (by unfold aTM;rw[a];simp) (.inl rfl) ⟨rfl,rfl,by unfold aTM;rw[a];simp⟩
 |any=>exact .q (by unfold aTM;rw[a];simp) (.inl rfl) ⟨rfl,rfl,by unfold aTM;rw[a];simp⟩
 |c f=>exact .q (by unfold aTM;rw[a];simp) (.inl rfl) ⟨rfl,rfl,by unfold aTM;rw[a];simp⟩
 |nx i=>exact .q (by unfold aTM;rw[a];simp) (.inl rfl) ⟨rfl,rfl,by unfold aTM;rw[a];simp⟩
 |V2 y k=>exact .q (by unfold aTM;rw[a];simp) (.inl rfl) ⟨rfl,rfl,by unfold aTM;rw[a];simp⟩
 |BR y k=>exact .q (by unfold aTM;rw[a];simp) (.inl rfl) ⟨rfl,rfl,by unfold aTM;rw[a];simp⟩
 |hl m z=>exact .q (by unfold aTM;rw[a];simp) (.inl rfl) ⟨rfl,rfl,by unfold aTM;rw[a];simp⟩
open Ko (ni CK)
def Gl.Fw(G:Gl)(wk s:Int):Gl:=G.mem (G.M.cs wk (G.nd s).at_ 0 1).1
def sK(wk:Int)(G:Gl):List Int->Gl
 |[]=>G
 |s::ids=>sK wk (G.Fw wk s) ids
def UX(l:Lc)(G:Gl)(ids:List Int):Gl:=if ids.length=0 then G else(sK l.wa.length G ids).mem ((sK l.wa.length G ids).M.ad l.wa.length l.told 1)
def ZD(l:Lc)(G:Gl)(n:Int):Gl×Bool:=if Ko.Sn G.time.1 n=true then(UX l {G with time:=(G.time.1+n,Ko.Oy G.time.2 (G.time.1+n))} (Ko.ids (Ko.ac4 G.time.2 (G.time.1+n))),true)else(G,false)
def da(G:Gl)(o:List (Int×Int)):List Int:=0::o.flatMap λp=>(G.tk p.1.toNat).scopes
def ZE(G:Gl)(s:Int):Bool:=match G.P[s.toNat]? with|some p=>p.2.2.2|none=>false
def ZF(l:Lc)(G:Gl)(o:List (Int×Int))(n:Int):Gl×Bool:=
 if 0<=n/\n<(da G o).length then(if ZE G ((da G o).getD n.toNat 0)then(G,false)else(UX l G [(da G o).getD n.toNat 0],true))else(G,false)
def SA(l:Lc)(P:List dB)(G:Gl)(Ws:List Wk)(o:List (Int×Int))(kind n:Int):(Gl×List Wk)×Bool:=
 if G.err≠0 then((G,Ws),false)
 else if kind=0 then ZC l P G Ws n
 else if kind=1 then(((ZD l G n).1,Ws),(ZD l G n).2)
 else if kind=2 then(if G.D.length<1024 then(({G with D:=G.D++[n]},Ws),true)else((G,Ws),false))
 else if kind=3 then(((ZF l G o n).1,Ws),(ZF l G o n).2)
 else((G,Ws),false)
def afz(wk:Int):∀(G:Gl) (a b:List Int),sK wk G (a++b)=sK wk (sK wk G a) b
 |G,[],b=>rfl
 |G,s::a,b=>afz wk (G.Fw wk s) a b
variable{x:Int}
def aqh:(M.cs wk a v x).1.steps.length=M.steps.length/\(M.cs wk a v x).1.cells.length=M.cells.length/\(M.cs wk a v x).1.size=M.size:=by
 unfold bJ.cs;split
 .exact⟨by unfold bJ.put bJ.tick;simp,by unfold bJ.put bJ.tick;simp,rfl⟩
 .exact⟨by unfold bJ.tick;simp,rfl,rfl⟩
def V9(wk:Int):∀(ids:List Int) (G:Gl),(sK wk G ids).M.steps.length=G.M.steps.length/\(sK wk G ids).M.cells.length=G.M.cells.length/\(sK wk G ids).M.size=G.M.size/\sK wk G ids=G.mem (sK wk G ids).M
 |[],G=>⟨rfl,rfl,rfl,rfl⟩
 |s::ids,G=>by
  obtain⟨d,h2,e,f⟩:=V9 wk ids (G.Fw wk s);obtain⟨a,b,c⟩:=aqh;exact⟨d.trans a,h2.trans b,e.trans c,by show sK wk (G.Fw wk s) ids=_;rw[f];rfl⟩
variable{M':bJ}
def IQ(b:M'.steps.length=M.steps.length)(h2:M'.cells.length=M.cells.length):M'.can wk a=M.can wk a:=by unfold bJ.can bJ.caller bJ.given;rw[b,h2]
variable{R:List HP}{aa:List Nat}{sp:Sl}{w w0:World}
variable{zt:Sl}
section
variable{sw:Sl}
theorem an2{s:Sl}{k:Unit->ap}(h:St w0 w (bG 1 s (ints bw)::SL l aa G R sp zt sw))(hs:∀x∈bw,nZ G.C x=some (G.nd x)/\G.M.can l.wa.length (G.nd x).at_=true)(p:G.M.can l.wa.length l.told=true)
  (b:∀w',St w0 w' (SL l aa (UX l G bw) R sp zt sw)->k () w'):fB (some ⟨l.gs,0,none⟩) s w k:=by
 unfold fB CW;have q:=qY (s:=s) h;have v:=(h.own (sz:=1) (s:=s)).max;have r:=(h.own (sz:=1) (s:=s)).cap;have t:(ints bw).length=bw.length:=by simp
 rw[t]at q;have c:sw.n=l.wa.length:=by have:=qY (s:=sw) h;rwa[List.length_map]at this
 refine cX<|bP (λ_ w=>St w0 w (bG 1 s (ints bw)::SL l aa (sK l.wa.length G bw) R sp zt sw)) (λJ y=>?_) ?_
 .refine DN (G:=Nat) (λj i w=>i=(j:Int)/\j<=bw.length/\St w0 w (bG 1 s (ints bw)::SL l aa (sK l.wa.length G (bw.take j)) R sp zt sw)) (λj=>bw.length - j) (g:=0) ⟨rfl,af,h⟩ ?_;clear h;rintro j i w ⟨rfl,hj,h⟩ C hC;by_cases a:j<bw.length
  .refine bK (by simp;omega) ?_
   obtain⟨b1,b2,u,d⟩:=V9 (l.wa.length:Nat) (bw.take j) G;have o:=hs (bw[j]'a) (List.getElem_mem _);refine vI h af (x:=bw[j]'a) (by simp) ?_
   refine dZ λw h=>?_;have f:nZ (sK (l.wa.length:Nat) G (bw.take j)).C (bw[j]'a)=some (G.nd (bw[j]'a)):=by rw[d];exact o.1
   rw[show((sw.n:Nat):Int)=((l.wa.length:Nat):Int) by rw[c]]
   refine as9 h f (by rw[IQ b1 b2];exact o.2) λw h=>?_
   refine cX<|hC (j+1) _ _ ⟨?_,af,?_⟩ af
   .rw[kg ⟨af,af⟩];omega
   .have e:bw.take (j+1)=bw.take j++[bw[j]'a]:=by rw[List.take_add_one,iH a];rfl
    rw[e,afz];have e2:sK (l.wa.length:Nat) (sK (l.wa.length:Nat) G (bw.take j)) [bw[j]'a]=(sK (l.wa.length:Nat) G (bw.take j)).mem ((sK (l.wa.length:Nat) G (bw.take j)).M.cs (l.wa.length:Nat) (G.nd (bw[j]'a)).at_ 0 1).1:=by
     show Gl.Fw _ _ _=_;unfold Gl.Fw;have:(sK (l.wa.length:Nat) G (bw.take j)).nd (bw[j]'a)=G.nd (bw[j]'a):=by unfold Gl.nd;rw[d];rfl
     rw[this]
    rw[e2];exact h
  .refine aU (by simp;omega) ?_
   grind
 clear h;rintro _ w h;unfold UX at b;by_cases m:bw.length=0
 .rw[if_pos m]at b;refine aU (by simp;omega) ?_
  have e:bw=[]:=List.eq_nil_of_length_eq_zero m;subst e;exact b w h.drop
 .rw[if_neg m]at b;refine bK (by simp;omega) ?_
  obtain⟨b1,b2,u,d⟩:=V9 (l.wa.length:Nat) bw G;refine dZ λw h=>?_;rw[show((sw.n:Nat):Int)=((l.wa.length:Nat):Int) by rw[c]]
  refine anl h (by rw[IQ b1 b2];exact p) λw h=>?_
  refine cX ?_;have h:=h.drop;rw[show SL l aa ((sK (l.wa.length:Nat) G bw).mem ((sK (l.wa.length:Nat) G bw).M.ad (l.wa.length:Nat) l.told 1)) R sp zt sw=SL l aa ((sK (l.wa.length:Nat) G bw).mem ((sK (l.wa.length:Nat) G bw).M.ad (l.wa.length:Nat) l.told 1)) R sp zt sw from rfl]at b;exact b w h
end
structure Lm where
 base:Int
 spare:Int
 cells:Int
 fuel:Int
 deep:Int
 log:Int
structure Ad where
 gs:Nat
 gm:Nat
 gk:Nat
 gc:Nat
 gt:Nat
 gd:Nat
 ga:Nat
def Lm.n(m:Lm):Nat:=(m.base+m.spare).toNat
abbrev gJ(a:Ad)(ps:Sl)(m:Lm)(wa:List Nat):Lc:=⟨a.gs,a.gm,a.gk,a.gc,a.gt,a.gd,ps,m.base,m.spare,m.cells,m.fuel,m.deep,m.log,0,1,⟨4,m.base,m.spare⟩,wa⟩
def cs0(a:Ad)(ps:Sl)(m:Lm):List Value:=[S_ ps,I_ m.base,I_ m.spare,I_ m.cells,I_ m.fuel,I_ m.deep,I_ m.log,pt a.gm,pt a.gk,.pointer none,.slice (some ⟨a.ga,0,none⟩) 1 1,.slice none 0 0,I_ 0,I_ 0,I_ 0,I_ 0,I_ 0,pt a.gt,pt a.gd,.slice none 0 0,I_ 0,I_ 0]
def ml1(m:Lm):bJ:=((bJ.new m.cells m.n).tick m.n).grow 1
def ml2(m:Lm):bJ:=((ml1 m).tick m.n).grow 1
def ml3(m:Lm):bJ:=((ml2 m).tick m.n).grow 2
def ml4(m:Lm):bJ:=((ml3 m).tick m.n).grow 2
structure Lm.OK (m:Lm):Prop where
 base:1<=m.base/\m.base<=16
 spare:0<=m.spare/\m.spare<=16 - m.base
 cells:1<=m.cells/\m.cells<=1048576
 fuel:0<=m.fuel/\m.fuel<=1048576
 deep:1<=m.deep/\m.deep<=1000
 log:0<=m.log/\m.log<=8
variable{L:List HP}{f:HP->List HP}{g j:Nat}{w' w1:World}
variable{y0:HP->List HP}{y1:List Value}
def an3{cs':List Value}{c:Prop}(h:St w0 w L)(h':St w1 w' R)[a:At L (au g) y1 f][a':At R (au g) cs' y0](e:(y1.drop (i+j+y)).take u=(cs'.drop (i+j+y)).take u)(b:c):ai u (aY (aY ⟨g,i,none⟩ j) y) w w' c:=by rw[dg];exact asq h h' e b
theorem avz{k:Option Addr×Int->ap}(h:St w0 w L)[a2:At L (bH zd) M f](b:M.caller wk=true)(c:M.OK)
  (d:M.room 2=true->∀g w',St w0 w' (scp g [⟨-1,0,(M.cells.length:Nat)⟩]::f (bH zd ((M.tick wk).grow 2)))->k (A_ g,0) w') (i:M.room 2=false->∀w',St w0 w' L->k (none,21) w'):uz (A_ zd) wk w k:=by
 unfold uz Nq;refine aU rfl<|GU h c (λ_ _ a w h=>?_) (λ_ _ a=>?_) λj=>(j ⟨b,af⟩).elim
 .refine aU rfl<|Jw rfl rfl<|aM h λga w h=>aM h λl w h=>?_;have h:=h.asS (g:=ga) (sz:=3) rfl af (by simp[Nd.cells,Value.oneCell'])
  refine d a l w (ae6 (s:=⟨A_ ga,1,1⟩) ?_);obtain⟨m,F,⟨n,o,p,q,r,e⟩,t⟩:=h;obtain⟨u,v,x,y,z,A⟩:=q;refine⟨m,F,⟨n,o,p,⟨u,v,⟨?_,?_⟩,y,z,A⟩,r,e⟩,t⟩
  .grind
  .simpa using x
 .refine bK rfl<|i a w h
variable{m:Lm}
def ajN(a:m.OK):(bJ.new m.cells m.n).OK/\(bJ.new m.cells m.n).caller m.n=true:=by
 obtain⟨c,h2,b,_⟩:=a;refine⟨⟨b,by show((0:Nat):Int)<=m.cells;omega⟩,?_⟩
 unfold bJ.caller bJ.new;simp;omega
variable{n:Int}
def ahy(h:M.OK)(b:0<=n)(a:M.room n=true):((M.tick wk).grow n).OK:=by
 unfold bJ.room at a;simp[decide_eq_true_eq]at a;have:=xQ (M:=M.tick wk) b;have c:(M.tick wk).cells.length=M.cells.length:=rfl;refine⟨h.size,?_⟩;show((((M.tick wk).grow n).cells.length:Nat):Int)<=M.size;rw[this,c];omega
def G9{wk':Int}(h:M.caller wk=true):((M.tick wk').grow n).caller wk=true:=by
 unfold bJ.caller bJ.grow bJ.tick at*
 simpa using h
variable{a:Ad}{k:Int->ap}{ps:Sl}
def ajO(f:m.OK)(h:St w0 w (au a.gs (cs0 a ps m)::bH a.gm (bJ.new m.cells m.n)::R))
  (u:6<=m.cells->∀gc w',St w0 w' (scp gc [⟨-1,0,2⟩]::au a.gs ((gJ {a with gc:=gc} ps m []).cs ⟨some ⟨a.ga,0,none⟩,1,1⟩ ⟨none,0,0⟩ ⟨none,0,0⟩ 0 0)::bH a.gm (ml4 m)::R)->k 0 w')
  (h2:¬6<=m.cells->∀w' X Y,St w0 w' (X::Y::R)->k 21 w'):fC (some ⟨a.gs,0,none⟩) m.n w k:=by
 obtain⟨g,i⟩:=ajN f;have d:∀(M:bJ) (z:Int),M.size=m.cells->(M.room z=true↔z+(M.cells.length:Nat)<=m.cells):=λM z e=>by unfold bJ.room;rw[e];simp;omega
 unfold fC vl;unfold cs0 at h;refine cX<|atb h i g (λb w h=>?_) λb w h=>?_;rotate_left
 .have c:¬6<=m.cells:=λq=>by have:=(d (bJ.new m.cells m.n) 1 rfl).2 (by show 1+((0:Nat):Int)<=_;omega);rw[b]at this;cases this
  refine dZ λw h=>h2 c _ _ _ h
 have j:=ahy (wk:=m.n) g af b;have t:=G9 (wk':=m.n) (n:=1) i;refine dZ λw h=>atc (M:=ml1 m) h t j (λb w h=>?_) λb w h=>?_;rotate_left
 .have c:¬6<=m.cells:=λq=>by have:=(d (ml1 m) 1 rfl).2 (by show 1+((1:Nat):Int)<=_;omega);rw[b]at this;cases this
  refine dZ λw h=>h2 c _ _ _ h
 have l:=ahy (wk:=m.n) j af b;have o:=G9 (wk':=m.n) (n:=1) t;refine dZ λw h=>avz (M:=ml2 m) h o l (λb gc w h=>?_) λb w h=>?_;rotate_left
 .have c:¬6<=m.cells:=λq=>by have:=(d (ml2 m) 2 rfl).2 (by show 2+((2:Nat):Int)<=_;omega);rw[b]at this;cases this
  refine dZ λw h=>h2 c _ _ _ h
 have p:=ahy (wk:=m.n) l af b;have r:=G9 (wk':=m.n) (n:=2) o;refine dZ λw h=>atB (M:=ml3 m) h ⟨f.base.1,f.base.2,f.spare.1,f.spare.2⟩ r p (λb w h=>?_) λb w h=>?_;rotate_left
 .have c:¬6<=m.cells:=λq=>by have:=(d (ml3 m) 2 rfl).2 (by show 2+((4:Nat):Int)<=_;omega);rw[b]at this;cases this
  refine dZ λw h=>h2 c _ _ _ h.drop
 refine dZ λw h=>?_;have s:=(d (ml3 m) 2 rfl).1 b;refine u (by have e:((ml3 m).cells.length:Nat)=4:=rfl;rw[e]at s;omega) gc w ?_
 exact h
def Wa(id dq:Int):Wk:=⟨id,dq,⟨0,0⟩,[],[],.m .rest,none,.no,none,.no,none,[],false,.no,.no,.no,0,.no,none,0,false,false,.no,.no,0,.no,0,.no,0,.no⟩
def Lm.lg(m:Lm):Int:=if m.log<2 then m.log else 2
def Lm.one(m:Lm):Int:=3+EX m.lg
def oe(m:Lm):Nat->bJ
 |0=>ml4 m
 |v+1=>(oe m v).Jy m.n m.lg
def sC(m:Lm)(v:Nat):Int:=6+v*m.one
def JR(m:Lm)(v:Nat):List Wk:=(List.range v).map λi:Nat=>Wa i (sC m i)
def Lm.adq(a:m.OK):0<=m.lg/\m.lg<=m.log/\m.lg<=8:=by have:=a.log;unfold Lm.lg;split<;>omega
def Lm.KS(a:m.OK):4<=m.one/\m.one<=259:=by have:=m.adq a;have:=acM this.1 this.2.2;unfold Lm.one;omega
theorem Te(b:m.OK):∀v:Nat,6+v*m.one<=m.cells->(oe m v).OK/\(oe m v).caller m.n=true/\(((oe m v).cells.length:Nat):Int)=6+v*m.one/\(oe m v).size=m.cells/\(oe m v).steps.length=m.n+1
 |0,h=>by
  obtain⟨d,h2⟩:=ajN b;refine⟨⟨b.cells,?_⟩,?_,?_,rfl,?_⟩
  .show(((oe m 0).cells.length:Nat):Int)<=m.cells;have:(oe m 0).cells.length=6:=rfl;rw[this];omega
  .exact G9 (G9 (G9 (G9 h2)))
  .have:(oe m 0).cells.length=6:=rfl;rw[this];omega
  .show(ml4 m).steps.length=_;unfold ml4 ml3 ml2 ml1 bJ.grow bJ.tick bJ.new;simp
 |v+1,h=>by
  have e:=m.KS b;have f:((v+1:Nat):Int)*m.one=v*m.one+m.one:=by grind
  obtain⟨d,h2,g,c,i⟩:=Te b v af;have a:(((oe m (v+1)).cells.length:Nat):Int)=6+((v+1:Nat):Int)*m.one:=by
   show(((oe m v).Jy m.n m.lg).cells.length:Nat)=(_:Int);unfold bJ.Jy;have:=xQ (M:=(oe m v).tick m.n) (n:=3+EX m.lg) (by unfold Lm.one at e;omega)
   have e2:((oe m v).tick m.n).cells.length=(oe m v).cells.length:=rfl;have j:(((((oe m v).tick m.n).grow (3+EX m.lg)).tick m.n).put (((oe m v).cells.length:Nat)+2) (Rg.word ⟨(((oe m v).cells.length:Nat):Int)+3,m.lg⟩)).cells.length=(((oe m v).tick m.n).grow (3+EX m.lg)).cells.length:=by simp_all
   rw[j,this,e2,g,f];unfold Lm.one;omega
  refine⟨⟨by show 1<=(oe m (v+1)).size/\_;exact⟨by show 1<=(oe m v).size;rw[c];exact b.cells.1,by show(oe m v).size<=_;rw[c];exact b.cells.2⟩,by rw[a];show _<=(oe m v).size;rw[c];exact h⟩,?_,a,c,?_⟩
  .show((oe m v).Jy m.n m.lg).caller m.n=true;unfold bJ.Jy bJ.caller bJ.put bJ.grow bJ.tick;grind
  .show((oe m v).Jy m.n m.lg).steps.length=_;unfold bJ.Jy bJ.put bJ.grow bJ.tick;simpa using i
variable{d:Int}{gw:Nat}
def aCd(h:St w0 w (au gw [pt l.gs,I_ v,I_ d,I_ l.log,pt i,.slice none 0 0,.slice none 0 0,mt gw .rest,.pointer none,.nilFunc,.pointer none,.nilFunc,.pointer none,.slice none 0 0,.bool false,.nilFunc,.nilFunc,.nilFunc,I_ 0,.nilFunc,.pointer none,I_ 0,.bool false,.bool false,.nilFunc,.nilFunc,I_ 0,.nilFunc,I_ 0,.nilFunc,I_ 0,.nilFunc]::au i (Wt.cells l.told ⟨0,0⟩)::R)):St w0 w (pH l [] (gw,Wa v d)::R):=by
 refine ac8 (q:=⟨i,⟨none,0,0⟩,[],⟨none,0,0⟩,[],mt gw .rest,0,.nilFunc,0,.nilFunc,0,⟨none,0,0⟩,.nilFunc,.nilFunc,.nilFunc,.nilFunc,none,.nilFunc,.nilFunc,.nilFunc,.nilFunc,.nilFunc,[]⟩) ?_ ?_
 .exact⟨.nil,.nil,rfl,rfl,rfl,rfl,rfl,rfl,rfl,rfl,rfl,rfl,rfl,rfl,rfl⟩
 .have h:=aup h;have h:St w0 w (l6 (λo:jH=>au 0 (o.cells l.sp 0)) (Wa v d).step::_):=St.shut h;have h:St w0 w (l6 (λk:Lk=>au 0 (k.cells l.gc)) (Wa v d).look::_):=St.shut h;have h:St w0 w (l6 (uh 0) (Wa v d).op::_):=St.shut h;have h:=((h.DJ 1).DJ 1).DJ 1;exact St.auI (A:=[_,_,_,_,_,_,_]) (B:=[_,_]) h
def aEI:ET Tryz.prog 105 1 8 (.pointer none):=⟨aZ,aZ⟩
abbrev LW(a:Ad)(ps:Sl)(m:Lm)(sw:Sl)(wa:List Nat)(M:bJ)(v:Nat)(R:List HP):List HP:=au a.gs ((gJ a ps m []).cs ⟨some ⟨a.ga,0,none⟩,1,1⟩ ⟨none,0,0⟩ sw 0 0)::bH a.gm M::bG 1 sw (wa.map pt)::jO (pH (gJ a ps m []) []) (wa.zip (JR m v))::R
variable{v:Nat}
def aqj:JR m (v+1)=JR m v++[Wa v (sC m v)]:=by unfold JR;rw[List.range_succ,List.map_append];rfl
theorem aex(d:m.OK)(h:St w0 w (LW a ps m ⟨none,0,0⟩ [] (ml4 m) 0 R))(O:6<=m.cells)
  (G:6+m.n*m.one<=m.cells->∀sw wa w',wa.length=m.n->St w0 w' (LW a ps m sw wa (oe m m.n) m.n R)->k 0 w')
  (h2:¬6+m.n*m.one<=m.cells->∀w' L',St w0 w' (L'++R)->k 21 w'):eC (some ⟨a.gs,0,none⟩) m.n w k:=by
 have H:m.n<=16:=by have:=d.base;have:=d.spare;unfold Lm.n;omega
 have B:=m.adq d;have D:=m.KS d;have f:abb m.lg m.log=true:=by unfold abb;simp;exact⟨B.1,B.2.1,d.log.2⟩
 unfold eC tM;refine DN (λq i w=>i=((q.1:Nat):Int)/\q.1<=m.n/\q.2.2.length=q.1/\6+q.1*m.one<=m.cells/\St w0 w (LW a ps m q.2.1 q.2.2 (oe m q.1) q.1 R)) (λq=>m.n - q.1) (g:=(0,⟨none,0,0⟩,[])) ⟨rfl,af,rfl,af,h⟩ ?_;clear h;rintro⟨v,sw,wa⟩ i w ⟨hi,hv,p,s,h⟩ C I;dsimp only at hi hv p s h;subst hi;obtain⟨j,o,c,t,K⟩:=Te d v s;by_cases L:v<m.n;rotate_left
 .have e:v=m.n:=af;subst e;exact aU bf (G s sw wa w p h)
 refine bK (by simp;omega) ?_
 have hroom:(oe m v).room (3+EX m.lg)=true↔6+((v+1:Nat):Int)*m.one<=m.cells:=by
  have u:((v+1:Nat):Int)*m.one=v*m.one+m.one:=by grind
  unfold bJ.room;rw[t,c,u];unfold Lm.one;grind
 have hmono:∀z:Nat,z<=m.n->6+m.n*m.one<=m.cells->6+z*m.one<=m.cells:=λz P hq=>by
  have:(z:Int)*m.one<=m.n*m.one:=Int.mul_le_mul_of_nonneg_right af af;omega
 refine bP (fun(x:Addr×Int) w=>(x.2=0/\6+((v+1:Nat):Int)*m.one<=m.cells/\∃g,x.1=⟨g,0,none⟩/\St w0 w (au g [I_ (sC m v),I_ m.log]::LW a ps m sw wa (oe m (v+1)) v R))\/(x.2=21/\¬6+m.n*m.one<=m.cells/\∃L',St w0 w (L'++R))) (λJ r=>?_) ?_
 .with_reducible repeat' (first|refine bc ?_|refine cH h λw h=>?_|refine Tn h ?_|refine Z7 h ?_|refine aM h λgx w h=>?_|refine nP h ?_|refine y8 ?_ ?_|refine an3 (by assumption) h vM ?_)
  .refine anr (log:=m.lg) h j o f (λb w h=>?_) λb w h=>?_
   .with_reducible repeat' (first|refine QU h λw h=>?_|refine aM h λgx w h=>?_|refine nP h ?_|refine an3 (by assumption) h vM ?_)
    rw[c]at h;exact r _ _ (.inl ⟨rfl,hroom.1 b,_,rfl,h⟩)
   .with_reducible repeat' (first|refine QU h λw h=>?_|refine aM h λgx w h=>?_|refine nP h ?_|refine an3 (by assumption) h vM ?_)
    exact r _ _ (.inr ⟨rfl,λq=>by rw[hroom.2 (hmono _ af q)]at b;(cases b),[_,_,_,_,_],h⟩)
  .refine anr (log:=m.lg) h j o f (λb w h=>?_) λb w h=>?_
   .with_reducible repeat' refine QU h λw h=>?_
    rw[c]at h;exact r _ _ (.inl ⟨rfl,hroom.1 b,_,rfl,h⟩)
   .with_reducible repeat' refine QU h λw h=>?_
    exact r _ _ (.inr ⟨rfl,λq=>by rw[hroom.2 (hmono _ af q)]at b;(cases b),[_,_,_,_,_],h⟩)
 clear h;rintro⟨ad,e⟩ w F;dsimp only at F;rcases F with⟨rfl,M,g,rfl,h⟩|⟨rfl,y,L',h⟩;rotate_left
 .exact bK rfl (h2 y w L' h)
 refine aU rfl<|dZ λw h=>axJ h λgt w h=>?_;with_reducible repeat' refine sR h ?_
 refine qL (#[pt a.gs,I_ v,I_ (sC m v),I_ m.log,.pointer none,.slice none 0 0,.slice none 0 0,.nilFunc,.pointer none,.nilFunc,.pointer none,.nilFunc,.pointer none,.slice none 0 0,.bool false,.nilFunc,.nilFunc,.nilFunc,I_ 0,.nilFunc,.pointer none,I_ 0,.bool false,.bool false,.nilFunc,.nilFunc,I_ 0,.nilFunc,I_ 0,.nilFunc,I_ 0,.nilFunc]) rfl aZ ?_;with_reducible repeat' (first|refine bc ?_|refine u_S h ?_|refine Hq h λw h=>?_|refine aM h λgx w h=>?_)
 obtain⟨Q,A⟩:∃n,n=gx:=⟨_,rfl⟩;subst A;refine cX ?_;obtain⟨gw,A⟩:∃n,n=gx:=⟨_,rfl⟩;subst A;have N:(wa.map pt).length<=16:=by grind
 refine I9 h aEI aZ rfl af af λs2 w h S=>dZ λw h=>?_;have h:=h.zm 0;have h:=h.zm 2;have h:=al0 (Y:=[pt a.gs,I_ v,I_ (sC m v),I_ m.log,pt gt,.slice none 0 0,.slice none 0 0,mt gw .rest,.pointer none,.nilFunc,.pointer none,.nilFunc,.pointer none,.slice none 0 0,.bool false,.nilFunc,.nilFunc,.nilFunc,I_ 0,.nilFunc,.pointer none,I_ 0,.bool false,.bool false,.nilFunc,.nilFunc,I_ 0,.nilFunc,I_ 0,.nilFunc,I_ 0,.nilFunc]) h aZ;have h:=aCd (l:=gJ a ps m []) h;have h:=al0 (Y:=(gJ a ps m []).cs ⟨some ⟨a.ga,0,none⟩,1,1⟩ ⟨none,0,0⟩ s2 0 0) h.swap aZ;have h:=h.fr 4;have h:=h.fr 2;have h:=QV h;have h:=h.bk 3;have u:wa.zip (JR m v)++[(gw,Wa v (sC m v))]=(wa++[gw]).zip (JR m (v+1)):=by
  rw[aqj,List.zip_append (by rw[p];unfold JR;simp)];rfl
 have e2:wa.map pt++[.pointer (A_ gw)]=(wa++[gw]).map pt:=by simp
 rw[u,e2]at h;refine I (v+1,s2,wa++[gw]) _ _ ⟨?_,by dsimp only;omega,by simp[p],M,h⟩ (by dsimp only;omega)
 rw[kg ⟨af,af⟩];rfl
open Fr (nF)
theorem ZI(m:Lm)(v:Nat):sC m (v+1)=sC m v+m.one:=by
 unfold sC;grind
def Yg(m:Lm)(a:0<=m.one):∀{i v:Nat},i<=v->sC m i<=sC m v:=fun{i v} h=>by
 unfold sC;have:(i:Int)*m.one<=v*m.one:=Int.mul_le_mul_of_nonneg_right af a;omega
variable{lg:Int}
def ame(a:0<=lg/\lg<=8)(b:0<=x):(M.Jy wk lg).get x=if x=(M.cells.length:Nat)+2 then Rg.word ⟨(M.cells.length:Nat)+3,lg⟩else if x<(M.cells.length:Nat)then M.get x else 0:=by
 have e:=acM a.1 a.2;have f:=xQ (M:=M.tick wk) (n:=3+EX lg) af;have c:(M.tick wk).cells.length=M.cells.length:=rfl;unfold bJ.Jy;rw[MK af (by show _<((((M.tick wk).grow (3+EX lg)).cells.length:Nat):Int);omega) b]
 split
 .rfl
 .split
  .rename_i d h2;show((M.tick wk).grow (3+EX lg)).get x=_;rw[xR b (by rw[c];exact h2)];rfl
  .rename_i d h2;show((M.tick wk).grow (3+EX lg)).get x=_;exact Yf (by rw[c];omega)
theorem avF(a':Int):(ml4 m).get a'=0:=by
 have e:(ml4 m).cells=[0,0,0,0,0,0]:=rfl;unfold bJ.get;rw[e];generalize a'.toNat=j;grind
theorem adu(a:m.OK):∀v:Nat,6+v*m.one<=m.cells->(∀a':Int,0<=a'->a'<sC m v->(∀i:Nat,i<v->a'≠sC m i+2)->(oe m v).get a'=0)/\(∀i:Nat,i<v->(oe m v).get (sC m i+2)=Rg.word ⟨sC m i+3,m.lg⟩)
 |0,_=>⟨λa' _ _ _=>avF a',λi hi=>by omega⟩
 |v+1,h=>by
  have l:=m.KS a;have c:=m.adq a;have o:((v+1:Nat):Int)*m.one=v*m.one+m.one:=by grind
  obtain⟨p,h2⟩:=adu a v af;obtain⟨_,_,b,_⟩:=Te a v af;have b:(((oe m v).cells.length:Nat):Int)=sC m v:=b;have hb:∀a':Int,0<=a'->(oe m (v+1)).get a'=if a'=sC m v+2 then Rg.word ⟨sC m v+3,m.lg⟩else if a'<sC m v then(oe m v).get a' else 0:=λa' d=>by
   show((oe m v).Jy m.n m.lg).get a'=_;rw[ame ⟨c.1,c.2.2⟩ d,b]
  have f:∀i:Nat,6<=sC m i:=λi=>by have:=Yg m af (Nat.zero_le i);unfold sC at this ⊢;simp at this ⊢;omega
  refine⟨λa' d g j=>?_,λi hi=>?_⟩
  .grind
  .rw[hb _ (by have:=f i;omega)]
   by_cases e:i=v
   .subst e;rw[if_pos rfl]
   .have k:=Yg m af (show i+1<=v by omega)
    rw[ZI]at k;grind
structure aAo (M:bJ) (wk d:Int) (R:Rg):Prop where
 c0:M.can wk d=true
 c1:M.can wk (d+1)=true
 c2:M.can wk (d+2)=true
 c3:M.can wk (R.place 0)=true
 t:M.get d=0
 b:M.get (d+1)=0
 r:o6 M d=R
 rr:R.right=true
 ne:d+2≠R.place 0
def avG(M:bJ)(wk d:Int)(R:Rg):bJ:=((((((M.tick wk).tick wk).tick wk).tick wk).put (R.place 0) 0).tick wk).put (d+1) 1
abbrev pO(d most:Int)(R:Rg)(next:Nat)(how:Int):bu:=⟨d,most,0,0,R,0,false,Rg.zero,none,next,how,0,0⟩
variable{most:Int}
def ajY{R':Rg}(h:aAo M wk d R'):(bu.B7 d most 0 0).step M wk=(pO d most Rg.zero 1 0,M.tick wk)/\(pO d most Rg.zero 1 0).step (M.tick wk) wk=(pO d most Rg.zero 2 0,(M.tick wk).tick wk)/\(pO d most Rg.zero 2 0).step ((M.tick wk).tick wk) wk=(pO d most R' 6 0,((M.tick wk).tick wk).tick wk)/\
  (pO d most R' 6 0).step (((M.tick wk).tick wk).tick wk) wk=(pO d most R' 7 0,((((M.tick wk).tick wk).tick wk).tick wk).put (R'.place 0) 0)/\(pO d most R' 7 0).step (((((M.tick wk).tick wk).tick wk).tick wk).put (R'.place 0) 0) wk=(pO d most R' 7 1,avG M wk d R'):=by
 obtain⟨f,c1,c2,c3,t,b,r,rr,ne⟩:=h;have key:∀M':bJ,M'.steps.length=M.steps.length->M'.cells.length=M.cells.length->(M'.get (d+2)=M.get (d+2))->∀O:bu,O.at_=d->LC M' wk d O:=λM' a h2 g O i=>⟨i,by rw[IQ a h2];exact f,by rw[IQ a h2];exact c1,by rw[IQ a h2];exact c2,by unfold o6;rw[g];unfold o6 at r;rw[r];exact rr⟩
 have hs:∀M':bJ,(M'.tick wk).steps.length=M'.steps.length:=λM'=>by unfold bJ.tick;simp
 have c:wr ((0:Int) - 0)=0:=e7;have j:(0:Int)<R'.size:=by unfold Rg.size;rw[if_pos rr];have:=(Rg.F5 rr).2.2.2.2.1;omega
 refine⟨?_,?_,?_,?_,?_⟩
 .rw[st0 (key M rfl rfl rfl (bu.B7 d most 0 0) rfl) rfl rfl,b];rfl
 .rw[st1 (key (M.tick wk) (hs _) rfl rfl (pO d most Rg.zero 1 0) rfl) rfl rfl,tT,t]
 .rw[Zg (key ((M.tick wk).tick wk) (by rw[hs,hs]) rfl rfl (pO d most Rg.zero 2 0) rfl) rfl rfl]
  have e:o6 ((M.tick wk).tick wk) d=R':=r;rw[e,c,if_pos j]
 .have k:(((M.tick wk).tick wk).tick wk).can wk (R'.place 0)=true:=(IQ (M':=((M.tick wk).tick wk).tick wk) (M:=M) (by rw[hs,hs,hs]) rfl).trans c3
  rw[st6 (O:=pO d most R' 6 0) rfl rfl k]
 .have h2:(((((M.tick wk).tick wk).tick wk).tick wk).put (R'.place 0) 0).get (d+2)=M.get (d+2):=by
   have g3:=pe c3;have g2:=pe c2;unfold bJ.given at g3 g2;simp[decide_eq_true_eq]at g3 g2;rw[MK (M:=(((M.tick wk).tick wk).tick wk).tick wk) g3.1 g3.2 g2.1,if_neg ne];rfl
  rw[st7 (key _ (by rw[amc,hs,hs,hs,hs]) (by rw[ajU];rfl) h2 (pO d most R' 7 0) rfl) rfl rfl]
  rfl
def g0(m:Lm):Gl:=⟨oe m m.n,[],[⟨-1,0,2⟩],[(-1,0,0,false)],[],(0,[]),[],0,0⟩
def g1(m:Lm):Gl:={g0 m with M:=((oe m m.n).tick m.n).grow 2,C:=[⟨-1,0,2⟩,⟨0,1,((oe m m.n).cells.length:Nat)⟩],P:=[(-1,0,0,false),(-2,0,0,false)]}
def g2(m:Lm):Gl:=(g1 m).more m.n (-1) 0 1 nF
def g3(m:Lm):Gl:=(g2 m).mem ((g2 m).M.ad m.n 3 1)
def eY(m:Lm):Gl:=(g3 m).mem (avG (g3 m).M m.n 6 ⟨9,m.lg⟩)
def Bd(m:Lm):List Wk:=JR m m.n
def Lm.total(m:Lm):Int:=11+m.n*m.one
def frI:(Fr.nF).length=19:=rfl
structure aCj (m:Lm):Prop where
 n1:1<=m.n
 ok0:(oe m m.n).OK
 c0:(oe m m.n).caller m.n=true
 len:(((oe m m.n).cells.length:Nat):Int)=6+m.n*m.one
 size:(oe m m.n).size=m.cells
 ok1:(g1 m).M.OK
 c1:(g1 m).M.caller m.n=true
 ok2:(g2 m).M.OK
 c2:(g2 m).M.can m.n 3=true
 ok3:(g3 m).M.OK
 nd:aAo (g3 m).M m.n 6 ⟨9,m.lg⟩
def an5{a:Int}:(M.ad wk a x).steps.length=M.steps.length/\(M.ad wk a x).cells.length=M.cells.length:=by
 unfold bJ.ad bJ.put bJ.tick;simp
def Tg:((M.tick wk).grow n).steps.length=M.steps.length:=by simp_all
theorem ahC(d:m.OK)(h:m.total<=m.cells):aCj m:=by
 unfold Lm.total at h;have D:=m.KS d;have p:=m.adq d;have y:1<=m.n:=by have:=d.base;have:=d.spare;unfold Lm.n;omega
 have q:m.one<=m.n*m.one:=by have:(1:Int)*m.one<=m.n*m.one:=Int.mul_le_mul_of_nonneg_right af af;omega
 obtain⟨r,h2,l,j,z⟩:=Te d m.n af;have A:=acM p.1 p.2.2;have s:m.one=3+EX m.lg:=rfl;have o:(((g1 m).M.cells.length:Nat):Int)=8+m.n*m.one:=by
  have:=xQ (M:=(oe m m.n).tick m.n) (n:=2) af;show((((oe m m.n).tick m.n).grow 2).cells.length:Nat)=(_:Int);rw[this];show(((oe m m.n).cells.length:Nat):Int)+2=_;rw[l];omega
 have l2:(((g2 m).M.cells.length:Nat):Int)=11+m.n*m.one:=by
  have:=xQ (M:=(g1 m).M.tick m.n) (n:=3) af;show((((g1 m).M.tick m.n).grow 3).cells.length:Nat)=(_:Int);rw[this];show(((g1 m).M.cells.length:Nat):Int)+3=_;rw[o];omega
 have l3:(((g3 m).M.cells.length:Nat):Int)=11+m.n*m.one:=by
  have:=(an5 (M:=(g2 m).M) (wk:=m.n) (a:=3) (x:=1)).2;show((((g2 m).M.ad m.n 3 1).cells.length:Nat):Int)=_;rw[this,l2]
 have s1:(g1 m).M.steps.length=m.n+1:=by rw[<-z];exact Tg
 have s2:(g2 m).M.steps.length=m.n+1:=by rw[<-s1];exact Tg
 have s3:(g3 m).M.steps.length=m.n+1:=by rw[<-s2];exact an5.1
 have c3:(g3 m).M.caller m.n=true:=Ga s3 af af;have b:∀x:Int,0<=x->x<11+m.n*m.one->(g3 m).M.can m.n x=true:=λx k r=>by
  unfold bJ.can bJ.given;grind
 have f:(g1 m).M.size=m.cells/\(g2 m).M.size=m.cells/\(g3 m).M.size=m.cells:=⟨j,j,j⟩;have e:=d.cells;have t:∀x:Int,0<=x->x<6+m.n*m.one->x≠3->(g3 m).M.get x=(oe m m.n).get x:=λx k B c=>by
  show((g2 m).M.ad m.n 3 1).get x=_;rw[ay3 af (by rw[l2];omega) k,if_neg c]
  show(((g1 m).M.tick m.n).grow 3).get x=_;rw[xR k (by show x<(((g1 m).M.cells.length:Nat):Int);rw[o];omega),tT]
  show(((oe m m.n).tick m.n).grow 2).get x=_;rw[xR k (by show x<(((oe m m.n).cells.length:Nat):Int);rw[l];omega),tT]
 obtain⟨u,F⟩:=adu d m.n af;have C:sC m 0=6:=by unfold sC;simp
 have g:sC m m.n=6+m.n*m.one:=rfl;have c:∀x:Int,x<8->∀i:Nat,i<m.n->x≠sC m i+2:=λx B i _=>by have:=Yg m af (Nat.zero_le i);rw[C]at this;omega
 have w0':(g3 m).M.get 8=Rg.word ⟨9,m.lg⟩:=by grind
 have hright:(Rg.mk 9 m.lg).right=true:=by
  unfold Rg.right;simp;unfold EX at A;unfold Rg.pw;dsimp only;omega
 have v:(Rg.mk 9 m.lg).place 0=9:=by unfold Rg.place;rw[if_pos hright];simp
 refine⟨y,r,h2,l,j,⟨by rw[f.1];exact e,by rw[o,f.1];omega⟩,Ga s1 af af,⟨by rw[f.2.1];exact e,by rw[l2,f.2.1];omega⟩,?_,⟨by rw[f.2.2];exact e,by rw[l3,f.2.2];omega⟩,⟨b 6 af af,b 7 af af,b 8 af af,by rw[v];exact b 9 af af,?_,?_,?_,hright,by rw[v];decide⟩⟩
 .have:=Ga s2 (wk:=m.n) af af;unfold bJ.can bJ.given;grind
 .rw[t 6 af af af];exact u 6 af (by rw[g];omega) (c 6 af)
 .show(g3 m).M.get 7=0;rw[t 7 af af af];exact u 7 af (by rw[g];omega) (c 7 af)
 .unfold o6;show Rg.of ((g3 m).M.get 8)=_;rw[w0'];exact ajW hright
def aqn(h:xH d):(bu.B7 d most 0 0).GX:=⟨λq=>by(cases q),λq=>by(cases q),by show 0<=19;omega,h⟩
def abj{R:Rg}(h:xH d)(a:i=1\/i=2\/i=6\/i=7):(pO d most R i x).GX:=⟨λq=>by dsimp only at q;omega,λq=>by dsimp only at q;omega,by dsimp only;omega,h⟩
def Cc(h:M.OK):(M.tick wk).OK:=⟨h.size,h.fit⟩
def ay6(h:M.OK):(M.put d x).OK:=⟨h.size,by have:=h.fit;show((M.put d x).cells.length:Int)<=M.size;rw[ajU];exact this⟩
variable{wa:List Nat}
theorem amf{sw:Sl}(f:m.OK)(hroom:6+m.n*m.one<=m.cells)(U:wa.length=m.n)(h:St w0 w (SL (gJ a ps m wa) [] (g0 m) (jO (pH (gJ a ps m wa) []) (wa.zip (JR m m.n))::R) sp zt sw))
  (h1:m.total<=m.cells->∀aa w',qK w0 w' (gJ a ps m wa) aa (eY m) (Bd m) R->k 0 w') (h2:¬m.total<=m.cells->∀w' L',St w0 w' (L'++R)->k 21 w'):gE (some ⟨a.gs,0,none⟩) m.n w k:=by
 obtain⟨o,p,D,A,F⟩:=Te f m.n hroom;have V:1<=m.n:=by have:=f.base;have:=f.spare;unfold Lm.n;omega
 have H:m.n<=16:=by have:=f.base;have:=f.spare;unfold Lm.n;omega
 unfold gE wz;refine dZ λw h=>?_;refine agZ (C:=[⟨-1,0,2⟩]) h rfl p o bf (λq=>by exact absurd q e7) (λ_ j w h=>?_) λ_ j w h=>?_
 .refine bK rfl (h2 (λq=>?_) w [_,_,_,_,_,_,_,_,_,_,_] h);unfold bJ.room at j;unfold Lm.total at q;grind
 refine aU rfl<|cX ?_;refine Jw rfl rfl<|vO λgx w h=>?_;obtain⟨gp,I⟩:∃n,n=gx:=⟨_,rfl⟩;subst I;refine Z8 (es:=[tI (-1,0,0,false)]) h auX aZ rfl af (by simp[Value.oneCell']) bf af λsp2 w h W=>?_
 refine dZ λw h=>?_;have h:=h.zm 0;refine Fr.anv λw' B=>?_;have h:=h.on B;have h:St w0 w' (SL (gJ a ps m wa) [] (g1 m) (jO (pH (gJ a ps m wa) []) (wa.zip (JR m m.n))::R) sp2 zt sw):=h;clear B;have t:∀z:Int,(oe m m.n).room 2=true->(g1 m).M.OK/\(((g1 m).M.cells.length:Nat):Int)=8+m.n*m.one:=λ_ j=>by
  refine⟨ahy o af j,?_⟩;have:=xQ (M:=(oe m m.n).tick m.n) (n:=2) af;show((((oe m m.n).tick m.n).grow 2).cells.length:Nat)=(_:Int);rw[this];show(((oe m m.n).cells.length:Nat):Int)+2=_;rw[D];omega
 have j:(oe m m.n).room 2=true:=by assumption
 obtain⟨u,K⟩:=t 0 j;have L:(g1 m).M.caller m.n=true:=G9 p;refine avb h frI u L (.inl ⟨rfl,rfl⟩) (by show 0<=1000000;omega) bf ⟨af,by show(1:Int)<((2:Nat):Int);omega⟩ (λc b DC w h=>?_) λc w h=>?_
 rotate_left
 .refine bK rfl (h2 (λq=>?_) w [_,_,_,_,_,_,_,_,_,_,_] h);unfold bJ.room at c;unfold Lm.total at q;simp[decide_eq_false_iff_not]at c;have:(g1 m).M.size=m.cells:=A;omega
 refine aU rfl ?_;have d:m.total<=m.cells:=by
  unfold bJ.room at c;unfold Lm.total;simp[decide_eq_true_eq]at c;have:(g1 m).M.size=m.cells:=A;omega
 have e:=ahC f d;have h:St w0 w (SL (gJ a ps m wa) [b] (g2 m) (jO (pH (gJ a ps m wa) []) (wa.zip (JR m m.n))::R) sp2 DC sw):=h;refine dZ λw h=>aiG h rfl e.c2 e.ok2 λw h=>aU rfl ?_;have h:=h.fr 10;have h:=an1 (m:=[b]) h;rw[List.nil_append]at h;have h:St w0 w (jO (pH (gJ a ps m wa) [b]) (wa.zip (JR m m.n))::SL (gJ a ps m wa) [b] (g3 m) R sp2 DC sw):=h;refine cX ?_;obtain⟨N,r⟩:∃g,wa[0]?=some g:=⟨_,iH af⟩;have v:(JR m m.n)[0]?=some (Wa 0 6):=by
  unfold JR;rw[l8,List.getElem?_range af];simp[sC]
 refine vP h af (by show(wa.map pt)[0]?=_;rw[l8,r];rfl) ?_
 refine cX<|au5 (l:=gJ a ps m wa) (aa:=[b]) h (by rw[List.getElem?_zip_eq_some];exact⟨r,v⟩) ?_
 refine anp h λgo w h=>?_;have s:xH 6:=⟨af,af⟩;obtain⟨p1,p2,p3,p4,p5⟩:=ajY e.nd;have hone:∀(O O':bu) (M M':bJ) (w:World) (G:Gl) (C:Int->ap),O.GX->M.OK->O.step M m.n=(O',M')->G.mem M=G->St w0 w (uh go O::jO (pH (gJ a ps m wa) [b]) (wa.zip (JR m m.n))::SL (gJ a ps m wa) [b] G R sp2 DC sw)->
   (∀w',St w0 w' (uh go O'::jO (pH (gJ a ps m wa) [b]) (wa.zip (JR m m.n))::SL (gJ a ps m wa) [b] (G.mem M') R sp2 DC sw)->C O'.how w')->fO (A_ go) (some ⟨a.gm,0,none⟩) m.n w C:=by
  intro O O' M M' w G C P Q x y h S;rw[<-y]at h;have h:=h.fr 3;refine ano (M:=M) h.swap P Q λw h=>?_;rw[x]at h ⊢;have h:=h.swap;have h:=h.bk 3;exact S w h
 refine bP (λi w=>i=1/\St w0 w (jO (pH (gJ a ps m wa) [b]) (wa.zip (JR m m.n))::SL (gJ a ps m wa) [b] (eY m) R sp2 DC sw)) (λJ T=>?_) ?_
 .refine⟨6,?_⟩;unfold jV;refine bK rfl<|cX<|hone _ _ (g3 m).M _ w (g3 m) _ (aqn s) e.ok3 p1 rfl h λw h=>?_;unfold jV;refine bK rfl<|cX<|hone _ _ _ _ w _ _ (abj s (.inl rfl)) (Cc e.ok3) p2 rfl h λw h=>?_;unfold jV;refine bK rfl<|cX<|hone _ _ _ _ w _ _ (abj s (.inr (.inl rfl))) (Cc (Cc e.ok3)) p3 rfl h λw h=>?_;unfold jV;refine bK rfl<|cX<|hone _ _ _ _ w _ _ (abj s (.inr (.inr (.inl rfl)))) (Cc (Cc (Cc e.ok3))) p4 rfl h λw h=>?_;unfold jV;refine bK rfl<|cX<|hone _ _ _ _ w _ _ (abj s (.inr (.inr (.inr rfl)))) (ay6 (Cc (Cc (Cc (Cc e.ok3))))) p5 rfl h λw h=>?_;unfold jV;refine aU rfl<|T _ _ ⟨rfl,h.drop⟩
 clear h;rintro _ w ⟨rfl,h⟩;refine aU rfl<|h1 d [b] w (pE (St.back 10 h))
open Ck (tj Su)
def nr1(ps:Sl):Array Value:=#[S_ ps,I_ 0,I_ 0,I_ 0,I_ 0,I_ 0,I_ 0,.pointer none,.pointer none,.pointer none,.slice none 0 0,.slice none 0 0,I_ 0,I_ 0,I_ 0,I_ 0,I_ 0,.pointer none,.pointer none,.slice none 0 0,I_ 0,I_ 0]
def nr2(ps:Sl)(m:Lm):Array Value:=#[S_ ps,I_ m.base,I_ m.spare,I_ m.cells,I_ m.fuel,I_ m.deep,I_ m.log,.pointer none,.pointer none,.pointer none,.slice none 0 0,.slice none 0 0,I_ 0,I_ 0,I_ 0,I_ 0,I_ 0,.pointer none,.pointer none,.slice none 0 0,I_ 0,I_ 0]
abbrev lmA(m:Lm):Array Value:=#[I_ m.base,I_ m.spare,I_ m.cells,I_ m.fuel,I_ m.deep,I_ m.log]
def Lm.okB(m:Lm):Bool:=decide (1<=m.base/\m.base<=16)&&(decide (0<=m.spare/\m.spare<=16 - m.base)&&(decide (1<=m.cells/\m.cells<=1048576)&&(decide (0<=m.fuel/\m.fuel<=1048576)&&(decide (1<=m.deep/\m.deep<=1000)&&decide (0<=m.log/\m.log<=8)))))
def ajZ:m.okB=true↔m.OK:=by
 unfold Lm.okB;simp;exact⟨fun⟨h1,h2,h3,h4,h5,h6⟩=>⟨h1,h2,h3,h4,h5,h6⟩,fun⟨h1,h2,h3,h4,h5,h6⟩=>⟨h1,h2,h3,h4,h5,h6⟩⟩
def aqp{k:Bool->ap}(h:St w0 w L)(a:∀w',St w0 w' L->k m.okB w'):oS (lmA m) w k:=by
 unfold oS Hw;have hw:∀(x lo hi:Int) (C:Bool->ap) (w:World),C (decide (lo<=x/\x<=hi)) w->ja x lo hi w C:=λx lo hi C w b=>by
  unfold ja;have e:(decide (x>=lo)&&decide (x<=hi))=decide (lo<=x/\x<=hi):=by simp
  rw[e];exact b
 unfold Lm.okB at a;refine aM h λg w h=>cX<|hw _ _ _ _ _ (ax (λhb=>?_) λhb=>?_);rotate_left
 .rw[hb]at a;exact a w h.drop
 have c:=of_decide_eq_true hb;rw[hb,Bool.true_and]at a;refine cX ?_;have e:aF .i64 (16 - m.base)=16 - m.base:=dh ⟨af,af⟩;rw[e];refine hw _ _ _ _ _ (ax (λhb=>?_) λhb=>?_);rotate_left
 .rw[hb]at a;exact a w h.drop
 rw[hb,Bool.true_and]at a;refine cX<|hw _ _ _ _ _ (ax (λhb=>?_) λhb=>?_);rotate_left
 .rw[hb]at a;exact a w h.drop
 rw[hb,Bool.true_and]at a;refine cX<|hw _ _ _ _ _ (ax (λhb=>?_) λhb=>?_);rotate_left
 .rw[hb]at a;exact a w h.drop
 rw[hb,Bool.true_and]at a;refine cX<|hw _ _ _ _ _ (ax (λhb=>?_) λhb=>?_);rotate_left
 .rw[hb]at a;exact a w h.drop
 rw[hb,Bool.true_and]at a;refine cX<|hw _ _ _ _ _ (a w h.drop)
def St.adw:∀{A:List HP},St w0 w (A++R)->St w0 w R
 |[],h=>h
 |_::A,h=>St.adw (St.drop h)
def ZJ{c:Int->Prop}(h:c x):xS .i64 (I_ x) c:=by unfold xS;simpa using h
variable{c:Value->ap}{i:Int}{p:Option Addr}
def aqq(h:fC p i w λr w=>c (I_ r) w):Dh [.pointer p,I_ i] w c:=h
def aj1(h:eC p i w λr w=>c (I_ r) w):A9 [.pointer p,I_ i] w c:=h
def avJ(h:gE p i w λr w=>c (I_ r) w):Eo [.pointer p,I_ i] w c:=h
def ahh{k:Option Addr×Int->ap}(y:iA w0 ps P)(h:St w0 w R)(h1:Su (tj P)=[0,0,0]->m.OK->m.total<=m.cells->∀a wa aa w',wa.length=m.n->qK w0 w' (gJ a ps m wa) aa (eY m) (Bd m) R->k (some ⟨a.gs,0,none⟩,0) w')
  (h2:¬Su (tj P)=[0,0,0]->∀w',St w0 w' R->k (none,24) w') (l:Su (tj P)=[0,0,0]->¬m.OK->∀w',St w0 w' R->k (none,10) w') (g:Su (tj P)=[0,0,0]->m.OK->¬m.total<=m.cells->∀w',St w0 w' R->k (none,21) w'):
  kF #[S_ ps] (lmA m) w k:=by
 unfold kF ND;refine aM h λz w h=>aM h λB w h=>cX<|Ck.adg (y.ext h.ext) λw' u=>?_;have h:=h.on u.ext;clear u;refine ax (λhb=>?_) λhb=>?_
 .exact h2 (gq hb) _ h.drop.drop
 have b:Su (tj P)=[0,0,0]:=gq hb
 replace h1:=h1 b;replace l:=l b;replace g:=g b;clear h2 hb;refine cX<|aqp h λw h=>ax (λhb=>?_) λhb=>?_
 .have:¬m.OK:=λq=>by rw[ajZ.2 q]at hb;cases hb
  exact l this _ h.drop.drop
 have e:m.OK:=ajZ.1 (gq hb)
 replace h1:=h1 e;replace g:=g e;clear l hb;refine cX ?_;have C:=e.base;have D:=e.spare;have o:aF .i64 (m.base+m.spare)=(m.n:Int):=by rw[dh ⟨af,af⟩];unfold Lm.n;omega
 have F:(m.n:Int)=m.base+m.spare:=by unfold Lm.n;omega
 rw[o];refine axC h (λi gm w h=>?_) λi=>?_;rotate_left
 .exfalso;unfold agX at i;simp[decide_eq_false_iff_not]at i;have:=e.cells;omega
 refine aU rfl<|bP (fun(p:Option Addr) w=> ∃d f gt gd gp X,p=A_ d/\X=cs0 ⟨d,gm,f,0,gt,gd,gp⟩ ps m/\St w0 w (au d X::Da f []::ni gt (0,[])::Lw gd []::au gp (tI (-1,0,0,false))::bH gm (bJ.new m.cells m.n)::R)) (λJ G=>?_) ?_
 .with_reducible repeat' (first|refine cH h λw h=>?_|refine Vh h ?_|refine aM h λgx w h=>?_|refine sR h ?_|refine y8 ?_ ?_|refine ao5 h λgx w h=>?_|refine Ko.ahh h λgx w h=>?_|refine att h λgx w h=>?_|refine Jw rfl rfl ?_)
  all_goals
   refine qL (nr1 ps) rfl aZ<|qL (nr2 ps m) rfl aZ<|aM h λgx w h=>?_;have h:=h.zm 6;have h:=h.zm 6;exact G _ _ ⟨_,_,_,_,_,_,rfl,aZ,h.perm Hp⟩
 clear h;rintro _ w ⟨d,f,gt,gd,gp,X,rfl,rfl,h⟩;refine⟨rfl,⟨rfl,⟨rfl,?_⟩⟩⟩;refine vO λgx w h=>?_;obtain⟨gl,H⟩:∃n,n=gx:=⟨_,rfl⟩;subst H;refine⟨4,?_⟩;unfold jV;refine bK rfl<|cX ?_;refine anR h (Int.le_refl 0) e7 rfl ?_;refine bV (λ_ _ _=>rfl) (aqq ?_);have h:=h.fr 6;have h:=h.fr 2;refine ajO (a:=⟨d,gm,f,0,gt,gd,gp⟩) e h (λr gc w h=>?_) (λr w X Y h=>?_);rotate_left
 .have j:¬m.total<=m.cells:=λq=>r (by have:=m.KS e;unfold Lm.total at q;have:(0:Int)<=m.n*m.one:=Int.mul_nonneg af af;omega)
  refine ZJ (bK rfl (g j _ (St.adw (A:=[_,_,_,_,_,_,_]) h)))
 refine ZJ (aU rfl ?_);unfold jV;refine bK rfl<|cX ?_;refine anR h e7 e7 rfl ?_;refine bV (λ_ _ _=>rfl) (aj1 ?_);have h:=h.fr 2;have h:=h.fr 2;have h:=St.back 2 (h.DJ 1);have h:St w0 w (jO (pH (gJ ⟨d,gm,f,gc,gt,gd,gp⟩ ps m []) []) ([].zip (JR m 0))::_):=QW h;have h:=St.back 3 h;refine aex (a:=⟨d,gm,f,gc,gt,gd,gp⟩) e h r (λs sw wa w x h=>?_) (λs w L' h=>?_);rotate_left
 .have j:¬m.total<=m.cells:=λq=>s (by unfold Lm.total at q;omega)
  refine ZJ (bK rfl (g j _ (St.adw (A:=[_,_,_,_,_,_]) (St.adw h))))
 refine ZJ (aU rfl ?_);unfold jV;refine bK rfl<|cX ?_;refine anR h e7 e7 rfl ?_;refine bV (λ_ _ _=>rfl) (avJ ?_);have h:=h.fr 9;have h:=Yc h rfl (by intro v hv;simp[tI]at hv;rcases hv with rfl|rfl|rfl|rfl<;>rfl)
 have h:=h.fr 6;have h:=h.fr 5;have h:St w0 w (LA [] []::_):=St.YA rfl (QW h);have h:=h.fr 10;have h:=h.fr 10;have h:=h.fr 8;have h:=h.DJ 1;have h:=h.fr 7;have h:=h.fr 10;have h:=h.fr 11;have h:=h.fr 11;have h:=h.fr 11;have h:St w0 w (SL (gJ ⟨d,gm,f,gc,gt,gd,gp⟩ ps m wa) [] (g0 m) (jO (pH (gJ ⟨d,gm,f,gc,gt,gd,gp⟩ ps m wa) []) (wa.zip (JR m m.n))::au gl _::R) ⟨A_ gp,1,1⟩ ⟨none,0,0⟩ sw):=h;refine amf e s x h (λt aa w h=>?_) (λt w L' h=>?_);rotate_left
 .exact ZJ (bK rfl (g t _ (St.adw h).drop))
 refine ZJ (aU rfl ?_);unfold jV;refine aU rfl<|h1 t ⟨d,gm,f,gc,gt,gd,gp⟩ wa aa _ x (h.rm 2 rfl)
def Cb.aFj(h:Ty l ro G)(a:ZH ro u d)(hO:Cb l ro G.ts.length u d O):O.GX:=by
 refine⟨λe=>⟨hO.c2 af,hO.b,hO.t⟩,λe=>?_,hO.nx,?_⟩
 .obtain⟨c,f,_⟩:=hO.c4 e;exact⟨c,f⟩
 .have g:=a.top.lt;have i:=a.top.1;rw[h.len]at g;have:=h.ok.fit;have:=h.ok.size;rw[hO.at_];exact⟨i,af⟩
variable{i:Nat}
def Cx.inA(c:Cx l P bw ro G i W):xH W.dq:=by
 have a:=c.own.top.lt;have b:=c.own.top.1;rw[c.ty.len]at a;have:=c.ty.ok.fit;have:=c.ty.ok.size;exact⟨b,af⟩
variable{y2:jH}
def Cx.spf(c:Cx l P bw ro G i W)(h:SpT y2):y2.GX l.sp G.M W.id:=by
 have hb:=c.ty.val _ _ c.ty.OI;obtain⟨x,a⟩:=Int.eq_ofNat_of_zero_le hb.1;exact⟨h.1,c.can c.ty.Ye,c.can c.ty.OI,⟨x,a,by have:=hb.2;omega⟩⟩
variable{x:Nat}
def Cx.sc(c:Cx l P bw ro G i W)(e:x<G.ts.length):G8 G (G.tk x).l7/\G.M.can W.id (G.nd (G.tk x).l7).at_=true/\G.M.can W.id ((G.nd (G.tk x).l7).at_+1)=true:=by
 have d:=(c.ty.qh e).inn;obtain⟨f,h2⟩:=c.ty.O7 d.1 d.2;exact⟨f,c.can h2.a,c.can h2.b⟩
def Cx.sc1(c:Cx l P bw ro G i W)(e:x<G.ts.length)(f:(G.tk x).cJ≠ []):G8 G (G.tk x).kA.1/\G.M.can W.id (G.nd (G.tk x).kA.1).at_=true/\G.M.can W.id ((G.nd (G.tk x).kA.1).at_+1)=true:=by
 have d:=c.kA e f;obtain⟨g,h2⟩:=c.ty.O7 d.1 d.2;exact⟨g,c.can h2.a,c.can h2.b⟩
def Cx.dr(c:Cx l P bw ro G i W)(b:x<G.ts.length)(d:(G.tk x).cJ≠ []):Dr G (G.tk x).kA.1:=by
 have a:=c.kA b d;exact⟨c.ty.Zs,c.ty.ck,a.1,⟨_,iH (by rw[c.ty.pl];omega)⟩⟩
def amr(h:rq P i t (.sh zp)):t.cJ≠ []:=by
 unfold rq at h;split at h
 iterate 2 rename_i e;cases e
 .exact h.1.cJ
 .exact h.2
 .exact h.elim
def Yl(h:rC P G W):(G.tk (W.stack.headD 0)).cJ≠ []:=by
 obtain⟨y,a,h2,b⟩|⟨k,a,_,_,c⟩:=h.cases
 .exact b.1.cJ
 .exact amr c
def ahI(h:rC P G W)(a:zk W.again=true):ajG G W:=by
 obtain⟨y,b,h2,c⟩|⟨k,b,_⟩:=h.cases
 .exact⟨by rw[h2];rfl,by rw[h2];exact c.2.2.2⟩
 .rw[b]at a;cases a
def azp(h:rC P G W):∀y,W.target=some y->y<G.ts.length:=λy a=>by
 obtain⟨z,b,h2,c⟩|⟨k,b,h2,_⟩:=h.cases
 .rw[h2]at a;cases a;exact c.2.2.2
 .rw[h2]at a;cases a
def aaz(h:rC P G W)(a:zk W.again=true->W.dK= .m .vQ/\W.wait.how=1)(h2:SF W.again=true->W.dK= .c .Db):W.dK= .m .vQ\/W.dK= .c .Db:=by
 obtain⟨z,e,_⟩|⟨k,e,_⟩:=h.cases
 .exact .inl (a (by rw[e];rfl)).1
 .exact .inr (h2 (by rw[e];rfl))
def aCA(h:rC P G W):afv G W (G.tk (W.stack.headD 0)):=by
 unfold afv;obtain⟨z,e,_⟩|⟨k,e,_,_,a⟩:=h.cases
 .rw[e];trivial
 .rw[e];exact amr a
theorem IV.vi(h:IV l P bw ro G Ws)(hi:Ws[i]?=some W)(g:W1.id=i)(c:∀j∈W1.left,0<=j/\j<l.wa.length/\j≠W1.id)(d:W1.none_= .m .y5\/(W1.none_= .m .nothing/\W1.wait.how=1)):aar l ((l.wa.zip Ws).eraseIdx i) bw W1:=by
 refine⟨d,λj r e=>?_⟩;obtain⟨k,h2,n⟩:=c j (by rw[e];simp)
 have o:=h.wn;have a:j.toNat<l.wa.length:=af;have b:j.toNat<Ws.length:=af;have p:(l.wa.zip Ws)[j.toNat]?=some (l.wa[j.toNat]'a,Ws[j.toNat]'b):=by grind
 have f:j.toNat≠i:=af;refine⟨j.toNat,l.wa[j.toNat]'a,if j.toNat<i then j.toNat else j.toNat - 1,Ws[j.toNat]'b,af,iH a,?_,?_⟩
 .grind
 .rw[<-h.dl,m0,l8,iH b];rfl
def adC(h:Dx l P G W):W.none_= .m .y5\/(W.none_= .m .nothing/\W.wait.how=1):=by
 rcases h.what with⟨_,_,_,a⟩|⟨_,_,_,a⟩
 .exact .inl a
 .exact .inr ⟨a,h.how⟩
theorem IV.ok(h:IV l P bw ro G Ws)(hi:Ws[i]?=some W)(R:G.err=0)(z:iA w0 l.ps P):ajH l P ((l.wa.zip Ws).eraseIdx i) bw G W:=by
 have c:=h.cx hi R;have ct:=c.ct;have cap:=c.ty.cap;have vK:=c.an8;have J:W.back.length<=100000:=by
  have hb:=c.wt.bk;have:∀(st:List Nat) (b:List Kn),KU P G st b->b.length=st.length:=by
   intro st;induction st with
   |nil=>intro b hb;cases b<;>first|rfl|exact hb.elim
   |cons y st ih=>intro b hb;cases b with
    |nil=>exact hb.elim
    |cons k b=>simp[ih b hb.2.2]
  rw[this _ _ hb];have:=c.wt.nd;unfold Wk.hold at this;have h2:=(List.nodup_append.1 this).2.1;have:=ML h2 λy D=>c.wt.hl y (by unfold Wk.hold;simp[D])
  omega
 have S:W.stack.length<=100000:=by
  have:=c.wt.nd;unfold Wk.hold at this;have h2:=(List.nodup_append.1 this).2.1;have:=ML h2 λy D=>c.wt.hl y (by unfold Wk.hold;simp[D])
  omega
 have f:W.stack≠ []->G7 G W (W.stack.headD 0) (G.tk (W.stack.headD 0))/\W.stack.headD 0<G.ts.length:=c.top;unfold cD at ct;unfold ajH;dsimp only at ct ⊢;have n:∀(O:bu) (u:Nat),u<l.wa.length->Cb l ro G.ts.length u (bw.getD u 0) O->O.GX/\((O.step G.M W.id).1.how=6->(O.step G.M W.id).1.err≠0):=λO u Q hO=>by
  obtain⟨iT,K⟩:=aj2 c.lg c.ty (c.dq u Q) c.caller hO;exact⟨hO.aFj c.ty (c.dq u Q),K.err⟩
 have p:∀(O:bu) (k:Nat),(Cb l ro G.ts.length W.id.toNat W.dq O/\O.kind=k)->Cb l ro G.ts.length i (bw.getD i 0) O:=λO k q=>by rw[c.idn,c.wt.dq]at q;exact q.1
 split at ct<;>rename_i U<;>try exact ct.elim
 all_goals try rw[U]
 all_goals try dsimp only
 .exact c.can c.ty.told
 .obtain⟨O,hO,ct⟩:=ct;refine⟨O,hO,?_⟩;split at ct<;>rename_i F<;>try exact ct.elim
  .have:=n O i c.wt.lt (p O 1 ct.2.2);exact⟨this.1,this.2,λ_ _=>by unfold aas;dsimp only;rw[F];trivial⟩
  .have:=n O i c.wt.lt (p O 0 ct.2.2.2);exact⟨this.1,this.2,λ_ _=>by unfold aas;dsimp only;rw[F];trivial⟩
  .have:=n O i c.wt.lt (p O 1 ct.2.2.2);refine⟨this.1,this.2,λ_ _=>?_⟩;unfold aas;dsimp only;rw[F];have d:=f ct.1.ne;exact⟨⟨_,d.1.s⟩,d.1.t,aaz ct.1 ct.2.1 ct.2.2.1⟩
  .obtain⟨m,⟨u,g,a3,C,L⟩,A⟩:=ct;have:=n O u g C;refine⟨this.1,this.2,λ_ _=>?_⟩;unfold aas;dsimp only;rw[F];refine⟨?_,h.vi hi c.wt.id m.left (by have q:=adC m;exact q)⟩
   unfold ajA;dsimp only;rcases m.what with⟨_,q,_⟩|⟨V,q,_⟩
   .rw[q];trivial
   .rw[q];exact⟨c.ty.kt,λy D=>azp V y D⟩
  .obtain⟨m,⟨u,g,a3,C,L⟩,A⟩:=ct;have:=n O u g C;refine⟨this.1,this.2,λ_ _=>?_⟩;unfold aas;dsimp only;rw[F];refine⟨?_,h.vi hi c.wt.id m.left (by have q:=adC m;exact q)⟩
   rcases m.what with⟨_,_,q,_⟩|⟨_,_,q,_⟩
   .exact .inl q
   .exact .inr q
 .obtain⟨k,m,g,a3,C,L,A⟩:=ct;obtain⟨b1,b2⟩:=c.ty.O7 a3.1 a3.2;refine⟨k,(f L).1,m,g,b1,c.can b2.a,?_⟩;unfold anZ;split at A<;>rename_i hs<;>try exact A.elim
  .try rw[hs]
   have:=A.1.fi.aav z c.acc;rw[A.2];exact⟨this.1.GZ,A.1.fi.len,this.2.2⟩
  iterate 2 grind
 .exact c.can c.ty.told
 .exact⟨c.can c.ty.idle,c.ty.OI.given c.ty.len,⟨af,by have:=c.wt.lt;rw[c.wt.id];omega⟩,h.vi hi c.wt.id (λj X=>afG j (aj6 j X)) (by have q:=adC ct;exact q)⟩
 .obtain⟨_,_,o,N,hs⟩:=ct;exact⟨o,N,c.spf hs⟩
 .exact⟨⟨af,af⟩,c.can c.ty.idle,ct.2⟩
 .exact⟨⟨af,af⟩,c.can c.ty.idle⟩
 .exact⟨ct.1,by rw[Int.add_zero];exact c.can (c.ty.qh af).k⟩
 .have Y:W.jq.toNat<G.ts.length:=af;exact⟨ct.1,c.inA,c.can c.own.bot,(c.sc Y).1,S,J⟩
 .have d:=f ct.1;exact⟨d.1,ct.2.fi.aav z c.acc,(c.sc d.2).1⟩
 .have d:=f ct.1;exact⟨d.1,ct.2.1.cJ,c.caller,af,af,(c.sc1 d.2 ct.2.1.cJ).1⟩
 .have d:=f ct.1;obtain⟨m,g,a3,C⟩:=ct;obtain⟨Z,g1,_⟩:=g.fi.fork c.acc a3;have ht2:=d.2;have x:=acH (T:=G.T) (s:=(G.tk (W.stack.headD 0)).id) (by unfold Bb;rw[(c.ty.qh d.2).id];simp only[decide_eq_true_eq];have:=c.ty.kl;omega)
  obtain⟨kt,x⟩:=x;refine⟨d.1,g.cJ,g.fi.aav z c.acc,g.fi.is8 c.acc a3,⟨Z,g1⟩,c.caller,⟨kt,x,?_⟩,af,af,by rw[c.ty.pl];exact C⟩
  have:=c.ty.kk _ _ (xP x).2.2;omega
 .have d:=f ct.1;have:=c.sc1 d.2 ct.2.1.cJ;exact⟨d.1,ct.2.1.cJ,this.1,this.2.2⟩
 .have d:=f ct.1;obtain⟨b1,b2⟩:=ct.2.1.fi.hand c.acc ct.2.2;exact⟨d.1,ct.2.1.fi.aav z c.acc,b1,b2,c.can c.ty.told,(c.sc d.2).1⟩
 .exact⟨c.inA,c.can c.own.bot⟩
 .have d:=f ct.1;obtain⟨m,g,a3⟩:=ct;have H:=c.kA d.2 g.cJ;have I:=c.ty.qh d.2;have:=I.sn;have:=I.sl;refine⟨d.1,g.cJ,g.fi.aav z c.acc,c.caller,af,af,(c.sc1 d.2 g.cJ).1,⟨H.1,by rw[c.ty.pl];exact H.2⟩,af,af,⟨c.ty.Zs,c.ty.ck⟩,λhp=>?_⟩
  exact(afH c.ty.ck af c.ty.Qn ⟨af,av9 (g.fi.oV c.acc)⟩).1
 .exact⟨(f ct.1).1,ct.2.1.cJ⟩
 .have d:=f ct.1;obtain⟨m,g,a3⟩:=ct;have I:=c.ty.qh d.2;have:=I.sn;have:=I.sl;have hs:=c.sc1 d.2 g.cJ;exact⟨d.1,g.cJ,g.fi.aav z c.acc,c.dr d.2 g.cJ,hs.1,hs.2.1,af⟩
 .have d:=f ct.1;have hs:=c.sc1 d.2 ct.2.1.cJ;exact⟨d.1,ct.2.1.cJ,ct.2.1.fi.len,hs.1,hs.2.1⟩
 .exact⟨(f ct.1).1,ct.2.1.fi.len⟩
 .exact⟨(f ct.1).1,ct.2.1.fi.aav z c.acc,ct.2.1.fi.aEM c.acc⟩
 .have d:=f ct.1;exact⟨d.1,c.can (c.ty.qh d.2).v⟩
 .have d:=f ct.1;exact⟨d.1,⟨ct.2.1.k2,ct.2.1.k4⟩,by rw[Int.add_zero];exact c.can (c.ty.qh d.2).k⟩
 .have d:=f ct.1;exact⟨d.1,c.can (c.ty.qh d.2).w⟩
 .have d:=f ct.1;have hs:=c.sc d.2;refine⟨d.1,?_,hs.1,hs.2.2⟩;have hb:=c.wt.bk;rw[d.1.s]at hb;cases hh:W.back with
  |nil=>rw[hh]at hb;exact hb.elim
  |cons kb bs=>
   rw[hh]at hb;refine⟨kb,bs,rfl,?_⟩;have:∀(st:List Nat) (b:List Kn),KU P G st b->b.length=st.length:=by
    intro st;induction st with
    |nil=>intro b hb;cases b<;>first|rfl|exact hb.elim
    |cons y st ih=>intro b hb;cases b with
     |nil=>exact hb.elim
     |cons k b=>simp[ih b hb.2.2]
   exact this _ _ hb.2.2
 .have d:=f ct.1.ne;have r:=ahI ct.1 ct.2.1;exact⟨d.1,Yl ct.1,r,by rw[Int.add_zero];exact c.can (c.ty.qh r.2).k⟩
 .have d:=f ct.1.ne;have r:=ahI ct.1 ct.2.1;obtain⟨y,e,_,h3⟩|⟨k,e,_⟩:=ct.1.cases
  .exact⟨d.1,h3.1.fi.aav z c.acc,r,c.can (c.ty.qh r.2).v⟩
  .rw[e]at ct;cases ct.2.1
 .have d:=f ct.1.ne;exact⟨d.1,aaz ct.1 ct.2.1 ct.2.2,c.inA,c.can c.own.bot⟩
 .exact c.can c.ty.told
 .have d:=f ct.1.ne;have hs:=c.sc1 d.2 (Yl ct.1);exact⟨d.1,Yl ct.1,hs.1,hs.2.2⟩
 .have r:=ahI ct.1 ct.2;exact⟨r,⟨af,af⟩,c.can (c.ty.qh r.2).w⟩
 .obtain⟨_,o,N,hs⟩:=ct;exact⟨o,N,c.spf hs⟩
 .have d:=f ct.ne;exact⟨d.1,aCA ct,c.can c.ty.told,(c.sc d.2).1⟩
 .have d:=f ct.1.ne;refine⟨d.1,⟨af,af⟩,λhb=>c.spf ?_,λ_ K=>?_,λ_ _=>?_⟩
  .cases hs:W.step with
   |none=>exact⟨e7,e7,e7⟩
   |some o=>exact ct.2.1 hb o hs
  .have r:=ahI ct.1 (c.fl.SG K);exact⟨r,c.can (c.ty.qh r.2).w⟩
  .have B:=ct.2.2;unfold anY;split at B<;>rename_i hs<;>try exact B.elim
   all_goals try rw[hs]
   .trivial
   .exact B.1
   iterate 3 trivial
   .exact⟨Yl ct.1,c.dr d.2 (Yl ct.1)⟩
 .have d:=f ct.1;exact⟨d.1,ct.2.2.2.2,c.can c.ty.told,(c.sc d.2).1⟩
 .have d:=f ct.1;exact⟨d.1,amr ct.2⟩
structure SM (G:Gl) (o:List (Int×Int)):Prop where
 kids:∀(i:Nat) (x:Kt),G.T[i]?=some x->x.kids.length<=1000000
 len:o.length<=100000
 dfs:if G.T.length=0 then o=[]else Dfs G.T [0] o
 ids:∀p∈o,0<=p.1/\p.1<G.ts.length
 sc:(da G o).length<=1000000
def awa(h:St w0 w (LA aa G.ts::R))(b:aa[x]?=some i)(c:x<G.ts.length):∃so sc:Sl,St w0 w (au i ((G.tk x).cells so sc)::rws 2 so ((G.tk x).cJ.map A1)::bG 1 sc (ints (G.tk x).scopes)::jO tkP ((aa.zip G.ts).eraseIdx x)::R):=sv h b (G.xw c)
variable{o:List (Int×Int)}
theorem afI{k:Sl->ap}(h:St w0 w (SL l aa G R sp zt ps))(c:SM G o)(A:∀s w',St w0 w' (bG 1 s (ints (da G o))::SL l aa G R sp zt ps)->k s w'):dO (some ⟨l.gs,0,none⟩) w k:=by
 unfold dO yY;have d:=KI (h.front 9 rfl);refine aM h λg1 w h=>cX ?_;have h:=h.asS (g:=g1) (sz:=1) rfl af (by simp[Value.oneCell'])
 refine aiO h c.kids c.len c.dfs λu w h=>?_;have m:=qY (s:=u) h;simp[ints,List.length_map]at m;have B:=c.len;refine DN (G:=Nat) (λj x w=>x.2=(j:Int)/\j<=o.length/\St w0 w (bG 1 u (ints (o.map λp:Int×Int=>p.1))::bG 1 x.1 (ints (da G (o.take j)))::SL l aa G R sp zt ps)) (λj=>o.length - j) (g:=0) ⟨rfl,af,h⟩ ?_;clear h;rintro j ⟨s1,i⟩ w ⟨hi,hj,h⟩ C hC;dsimp only at hi h ⊢;subst hi;by_cases b:j<o.length
 .refine bK (by simp;omega) ?_
  have v:=c.ids _ (List.getElem_mem b);generalize y:o[j]'b=p at v;have f:o[j]?=some p:=by rw[iH b,y]
  have n:p.1.toNat<G.ts.length:=af;obtain⟨a,q⟩:=Zx d (G.xw n);refine vI h af (x:=p.1) (by simp[ints,f]) ?_
  refine cX<|vP (s:=zt) h v.1 (by rw[l8,q];rfl) ?_
  have h:=h.fr 11;obtain⟨so,sc,h⟩:=awa h q n;refine cX ?_;have r:=qY (s:=sc) h;have t:=qY (s:=s1) h;simp[ints,List.length_map]at r t;have z:(da G (o.take j)).length+(G.tk p.1.toNat).scopes.length<=1000000:=by
   have h2:=c.sc;have e:o=o.take j++p::o.drop (j+1):=by
    rw[<-y,<-List.drop_eq_getElem_cons b,List.take_append_drop]
   unfold da at h2 ⊢;grind
  refine M9 (x:=sc) h an0 aZ (h.own).sls (by simp[ints,Value.oneCell']) af af λs2 w h D=>?_
  have h:=qg d q (G.xw n) h;have h:=h.bk 11;refine hC (j+1) _ _ ⟨?_,af,?_⟩ af
  .rw[kg ⟨af,af⟩];omega
  .have e:ints (da G (o.take (j+1)))=ints (da G (o.take j))++ints (G.tk p.1.toNat).scopes:=by
    unfold da;rw[List.take_add_one,f];simp
   rw[e];exact h
 .refine aU (by simp;omega) ?_
  have e:o.take j=o:=List.take_of_length_le af;rw[e]at h;exact A _ _ h.drop
variable{k:Bool->ap}
def azr(h:St w0 w (SL l aa G R sp zt ps))(c:G.time.2.length<=100000)(d:CK G.time)(hs:∀y∈G.time.2,nZ G.C y.2=some (G.nd y.2)/\G.M.can l.wa.length (G.nd y.2).at_=true)(e:G.M.can l.wa.length l.told=true)
  (a:∀w',St w0 w' (SL l aa (ZD l G n).1 R sp zt ps)->k (ZD l G n).2 w'):lA (some ⟨l.gs,0,none⟩) n w k:=by
 unfold lA BK;unfold ZD at a;refine cX ?_;obtain⟨now,S⟩:∃now S,G.time=(now,S):=⟨_,_,rfl⟩;refine Ko.aBJ c d h (λb s' w' h=>?_) λb h=>?_
 .rw[if_pos b]at a;refine aU rfl<|an2 (G:={G with time:=(G.time.1+n,Ko.Oy G.time.2 (G.time.1+n))}) h (λx f=>?_) e λw h=>a w h
  obtain⟨y,g,rfl⟩:=List.mem_map.1 f;exact hs y (List.mem_filter.1 g).1
 .rw[if_neg (by rw[b];simp)]at a
  exact bK rfl (a _ h)
theorem azs(h:St w0 w (SL l aa G R sp zt ps))(r:SM G o)(hs:∀x∈da G o,(0<=x/\x<G.P.length)/\nZ G.C x=some (G.nd x)/\G.M.can l.wa.length (G.nd x).at_=true)(t:G.M.can l.wa.length l.told=true)
  (c:∀w',St w0 w' (SL l aa (ZF l G o n).1 R sp zt ps)->k (ZF l G o n).2 w'):lB (some ⟨l.gs,0,none⟩) n w k:=by
 unfold lB BL;unfold ZF at c;refine afI h r λs1 w h=>?_;have f:=qY (s:=s1) h;simp[ints,List.length_map]at f;by_cases e:0<=n/\n<(da G o).length
 .rw[if_pos e]at c;have a:n.toNat<(da G o).length:=af;have u:(da G o).getD n.toNat 0=(da G o)[n.toNat]'a:=by rw[m0,iH a];rfl
  rw[u]at c;have m:=hs _ (List.getElem_mem a);generalize i:(da G o)[n.toNat]'a=x at c m;have d:(ints (da G o))[n.toNat]?=some (I_ x):=by simp[ints,a,i]
  obtain⟨p,q⟩:∃p,G.P[x.toNat]?=some p:=⟨_,iH af⟩;refine bP (λb w=>b=ZE G x/\St w0 w (bG 1 s1 (ints (da G o))::SL l aa G R sp zt ps)) (λJ j=>?_) ?_
  .refine dZ λw h=>?_;refine aU (by simp;omega) ?_
   refine cX<|vI h e.1 d<|rB (sz:=4) (s:=sp) h m.1.1 (by rw[l8,q];rfl) rfl ?_
   exact j _ _ ⟨by unfold ZE;rw[q],h⟩
  clear h;rintro _ w ⟨rfl,h⟩;refine ax (λhb=>?_) λhb=>?_
  .rw[if_pos hb]at c;exact c _ h.drop
  .rw[if_neg (by rw[hb];simp)]at c
   refine vI h e.1 d<|aM h λg2 w h=>?_;have h:=h.asS (g:=g2) (sz:=1) rfl af (by simp[Value.oneCell'])
   have h:=h.rm 1 rfl;simp[I7]at h;refine an2 h (λy v=>?_) t λw h=>c w h;grind
 .rw[if_neg e]at c;refine bP (λb w=>b=true/\St w0 w (bG 1 s1 (ints (da G o))::SL l aa G R sp zt ps)) (λJ j=>?_) ?_
  .refine dZ λw h=>?_;refine bK (by simp;omega) (j _ _ ⟨rfl,h⟩)
  clear h;rintro _ w ⟨rfl,h⟩;exact bK rfl (c _ h.drop)
def roB(m:Lm)(v:Nat):List Ro:=[.top v,.bot v,.Uw v] ++(List.range (2 ^ m.lg.toNat)).map (.rg v m.lg.toNat)
def Qo(m:Lm):Nat->List Ro
 |0=>[.told,.idle,.ask 0,.liv 0,.Ye,.OI]
 |v+1=>Qo m v++roB m v
def ZP(m:Lm):List Ro:=Qo m m.n++[.ask 1,.liv 1] ++[.fk 0,.fv 0,.fw 0]
def awb:(((roB m v).length:Nat):Int)=m.one:=by
 unfold roB Lm.one EX;simp;omega
def Ym:∀v:Nat,(((Qo m v).length:Nat):Int)=sC m v
 |0=>by unfold sC;simp[Qo]
 |v+1=>by
  rw[ZI];show(((Qo m v++roB m v).length:Nat):Int)=_;rw[uv,Int.natCast_add,Ym v,awb]
def adE:∀(v:Nat) (i:Nat),∃q,Qo m (v+i)=Qo m v++q
 |v,0=>⟨[],bf⟩
 |v,i+1=>by
  obtain⟨q,hq⟩:=adE v i;exact⟨q++roB m (v+i),by show Qo m (v+i)++roB m (v+i)=_;rw[hq];simp⟩
variable{k:Nat}
def abk(hi:i<v)(a:(roB m i)[k]?=some r):k9 (Qo m v) (sC m i+k) r:=by
 obtain⟨q,hq⟩:=adE (i+1) (v - (i+1));rw[show i+1+(v - (i+1))=v from by omega]at hq
 rw[hq];refine k9.qT ?_;show k9 (Qo m i++roB m i) _ _;exact k9.new a (by rw[Int.natCast_add,Ym])
def ahJ(hi:i<v):ZH (Qo m v) i (sC m i):=by
 refine⟨?_,abk hi rfl,abk hi rfl⟩;have:=abk (m:=m) (k:=0) hi rfl;simpa using this
theorem azt(hi:i<v)(a:k<2 ^ m.lg.toNat):k9 (Qo m v) (sC m i+3+k) (.rg i m.lg.toNat k):=by
 have:=abk (m:=m) (k:=3+k) (r:= .rg i m.lg.toNat k) hi (by
  unfold roB;rw[u0 bf];simp[a])
 grind
def afJ(a:([.told,.idle,.ask 0,.liv 0,.Ye,.OI]:List Ro)[k]?=some r):k9 (Qo m v) k r:=by
 obtain⟨q,hq⟩:=adE 0 v;rw[Nat.zero_add]at hq;rw[hq];exact k9.qT ⟨af,a⟩
variable{b:Int}
theorem aka:∀{v:Nat},k9 (Qo m v) b r->(∀i,r≠ .Uw i)\/∃i,i<v/\r= .Uw i/\b=sC m i+2
 |0,h=>by
  refine .inl λi e=>?_;subst e;obtain⟨_,h⟩:=h;have:=qn h;simp[Qo]at this
 |v+1,h=>by
  rcases k9.old h with h|⟨k,hk,e⟩
  .rcases aka h with h|⟨i,h1,h2,a⟩
   .exact .inl h
   .exact .inr ⟨i,af,h2,a⟩
  .by_cases a:k<3
   .match k,a with
    |0,_=>refine .inl λi q=>?_;subst q;cases hk
    |1,_=>refine .inl λi q=>?_;subst q;cases hk
    |2,_=>
     cases hk
     refine .inr ⟨v,af,rfl,?_⟩;rw[e,Int.natCast_add,Ym];rfl
   .refine .inl λi q=>?_;subst q;unfold roB at hk;grind
def awc(a:1<=y)(h:∀i,r≠ .Uw i):EO l ro y r 0:=by
 cases r with
 |Uw i=>exact absurd rfl (h i)
 |OI=>exact⟨af,af⟩
 |ask s=>exact .inl rfl
 |rg v g k=>exact⟨af,af⟩
 |top v=>exact⟨e7,e7⟩
 |bot v=>exact⟨e7,e7⟩
 |fk x=>exact⟨af,af⟩
 |_=>trivial
def aCD(a:m.OK)(v:Nat):6<=sC m v:=by
 have:=m.KS a;have:=Yg m af (Nat.zero_le v);unfold sC at this ⊢;simp at this ⊢;omega
def azu(d:m.OK)(h:m.total<=m.cells){x:Int}(b:0<=x):(g2 m).M.get x=if x<6+m.n*m.one then(oe m m.n).get x else 0:=by
 have a:=ahC d h;have c:(((g1 m).M.cells.length:Nat):Int)=8+m.n*m.one:=by
  have:=xQ (M:=(oe m m.n).tick m.n) (n:=2) af;show((((oe m m.n).tick m.n).grow 2).cells.length:Nat)=(_:Int);rw[this];show(((oe m m.n).cells.length:Nat):Int)+2=_;rw[a.len];omega
 show(((g1 m).M.tick m.n).grow 3).get x=_;by_cases e:x<8+m.n*m.one
 .rw[xR b (by show x<(((g1 m).M.cells.length:Nat):Int);rw[c];exact e),tT]
  show(((oe m m.n).tick m.n).grow 2).get x=_;split
  .rename_i h2;rw[xR b (by show x<(((oe m m.n).cells.length:Nat):Int);rw[a.len];exact h2),tT]
  .rename_i h2;exact Yf (by show(((oe m m.n).cells.length:Nat):Int)<=x;rw[a.len];omega)
 .rw[if_neg af];exact Yf (by show(((g1 m).M.cells.length:Nat):Int)<=x;rw[c];omega)
def aCE(b:m.OK)(c:wa.length=m.n):afx (gJ a ps m wa):=by
 have:=b.base;have:=b.spare;refine⟨⟨b.base.1,b.base.2,b.spare.1,b.spare.2⟩,?_,?_⟩
 .show 1<=wa.length;rw[c];unfold Lm.n;omega
 .show wa.length<=16;rw[c];unfold Lm.n;omega
def aoc(c:m.OK)(h:m.total<=m.cells)(hi:i<m.n):RgT (gJ a ps m wa) (Qo m m.n) i ⟨sC m i+3,m.lg⟩:=by
 have d:=m.adq c;have l:=m.KS c;have e:=acM d.1 d.2.2;have b:m.one=3+EX m.lg:=rfl;have f:=Yg m af (show i+1<=m.n by omega)
 rw[ZI]at f;have h2:sC m m.n=6+m.n*m.one:=rfl;have o:=aCD c i;have g:=c.cells;unfold Lm.total at h;refine⟨?_,d.2.1,λk j=>azt hi j⟩;unfold Rg.right;simp;unfold EX at e b;unfold Rg.pw;dsimp only;omega
def azv:CK ((0,[]):Int×List (Int×Int)):=⟨e7,e7,λy a=>(by cases a),λy a=>(by cases a),.nil,List.nodup_nil⟩
theorem azw(l:m.OK)(h:m.total<=m.cells)(K:m.cells<=65536)(L:wa.length=m.n):Ty (gJ a ps m wa) (ZP m) (g2 m):=by
 have G:=ahC l h;have T:=m.KS l;have U:=G.n1;have H:m.one<=m.n*m.one:=by have:(1:Int)*m.one<=m.n*m.one:=Int.mul_le_mul_of_nonneg_right af af;omega
 obtain⟨V,h2,I,N,O⟩:=Te l m.n (by unfold Lm.total at h;omega)
 have d:(((Qo m m.n).length:Nat):Int)=6+m.n*m.one:=Ym m.n;have W:(((ZP m).length:Nat):Int)=11+m.n*m.one:=by
  unfold ZP;grind
 have J:(((g1 m).M.cells.length:Nat):Int)=8+m.n*m.one:=by
  have:=xQ (M:=(oe m m.n).tick m.n) (n:=2) af;show((((oe m m.n).tick m.n).grow 2).cells.length:Nat)=(_:Int);rw[this];show(((oe m m.n).cells.length:Nat):Int)+2=_;rw[I];omega
 have l2:(((g2 m).M.cells.length:Nat):Int)=11+m.n*m.one:=by
  have:=xQ (M:=(g1 m).M.tick m.n) (n:=3) af;show((((g1 m).M.tick m.n).grow 3).cells.length:Nat)=(_:Int);rw[this];show(((g1 m).M.cells.length:Nat):Int)+3=_;rw[J];omega
 have z:(g2 m).M.steps.length=m.n+1:=by rw[<-O];exact Tg.trans Tg
 have hb:∀{k:Nat} {r:Ro},([.told,.idle,.ask 0,.liv 0,.Ye,.OI]:List Ro)[k]?=some r->k9 (ZP m) k r:=λf=>(afJ f).qT.qT;have u:∀{k:Nat} {r:Ro},([.ask 1,.liv 1]:List Ro)[k]?=some r->k9 (ZP m) ((oe m m.n).cells.length+k:Nat) r:=fun{k r} f=>k9.qT (k9.new f (by have:=d;have:=I;omega))
 have g:∀{k:Nat} {r:Ro},([.fk 0,.fv 0,.fw 0]:List Ro)[k]?=some r->k9 (ZP m) ((g1 m).M.cells.length+k:Nat) r:=fun{k r} f=>k9.new f (by have:=d;have:=J;simp;omega)
 have v:(g2 m).C=[⟨-1,0,2⟩,⟨0,1,((oe m m.n).cells.length:Nat)⟩]:=rfl;have A:(g2 m).ts=[⟨0,0,1,((g1 m).M.cells.length:Nat),nF,ByteArray.mk #[],[],[1],0,0⟩]:=rfl;have B:(g2 m).M.size=m.cells:=N;obtain⟨P,Q⟩:=adu l m.n (by unfold Lm.total at h;omega)
 have D:sC m m.n=6+m.n*m.one:=rfl;refine{len:=by omega,ok:=G.ok2,sz:=by rw[B];exact K,stp:=by rw[z];show _=wa.length+1;rw[L],val:=λa' r c=>?_,told:=hb rfl,idle:=hb rfl,Ye:=hb rfl,OI:=hb rfl,sc:=λs x b=>?_,tk:=λx t o=>?_,c1:=(by rw[v];simp),t1:=(by rw[A];simp),pl:=rfl,kt:=λi x b=>?_,kl:=rfl,kk:=λi x b=>?_,ck:=azv,Qn:=(λy R=>by cases R),cnt:= ?_,dr:=(by show(0:Nat)<=1024;decide)}
 .rw[azu l h c.1,A];have F:∀r:Ro,(∀i,r≠ .Uw i)->EO (gJ a ps m wa) (ZP m) 1 r 0:=λr q=>awc (iw 1) q;rcases c.old with c|⟨k,f,e⟩
  .rcases c.old with c|⟨k,f,e⟩
   .have j:=c.lt;rw[d]at j;rw[if_pos j];rcases aka c with q|⟨i,hi,rfl,rfl⟩
    .rw[P a' c.1 (by rw[D];exact j) λi hi=>(c.ne (ahJ hi).Uw (q i))]
     exact F r q
    .rw[Q i hi];exact⟨_,rfl,(aoc l h hi).qT.qT⟩
   .grind
  .grind
 .rw[v]at b;match s,b with
  |0,b=>cases b;exact⟨hb rfl,hb rfl,(by show(0:Int)<=0/\(0:Int)<=32;decide),λq=>absurd rfl q,λ_=>rfl⟩
  |1,b=>cases b;exact⟨u (k:=0) rfl,u rfl,(by show(0:Int)<=1/\(1:Int)<=32;decide),λq=>(by show(0:Int)<=0/\(0:Int)<1;decide),λq=>(by cases q)⟩
  |s+2,b=>simp at b
 .rw[A]at o;match x,o with
  |0,o=>cases o;exact⟨rfl,g (k:=0) rfl,g rfl,g rfl,(by rw[v];show(0:Int)<=0/\(0:Int)<2;decide),(by rw[v];show(0:Int)<=1/\(1:Int)<2;decide),λp S=>(by cases S),(by show 0+0<=1;decide),(by rw[v];show 1<=2;decide)⟩
  |x+1,o=>simp at o
 iterate 2 have b:([⟨-1,0,[]⟩]:List Kt)[i]?=some x:=b;grind
 .grind
variable{G':Gl}
def IV.drv(h:IV l P bw ro G Ws)(ty:Ty l ro G')(Cd:uN ro ro G G' [])(a:G'.ts=G.ts)(c:G'.err=0->G.err=0):IV l P bw ro G' Ws:=by
 have f:∀x,x<G.ts.length->1<=G.K x->G'.K x=G.K x:=λx b d=>(Cd.K1 x b bf d).1;refine⟨h.lc,h.lg,h.acc,ty,h.wn,h.dl,h.dq,λi W hi=>(h.w i W hi).imp Cd (λx _=>by simp) c,h.dj,λx b e=>?_⟩
 rw[a]at b ⊢;have:G'.tk x=G.tk x:=by unfold Gl.tk;rw[a]
 rw[this];exact h.fr x b (Cd.K0 x b e)
variable{s:Int}
def awd(h:Ty l ro G)(hs:0<=s/\s<G.C.length):Ty l ro (G.Fw wk s)/\uN ro ro G (G.Fw wk s) []/\(G.Fw wk s).ts=G.ts/\(G.Fw wk s).C=G.C/\(G.Fw wk s).err=G.err:=by
 obtain⟨j,d⟩:=h.O7 hs.1 hs.2;have e:=d.a.lt;rw[h.len]at e;have f:∀b,0<=b->(G.M.cs wk (G.nd s).at_ 0 1).1.get b=if b=(G.nd s).at_/\G.M.get (G.nd s).at_=0 then 1 else G.M.get b:=λb hb=>abi d.a.1 e hb
 have g:∀y,y<G.ts.length->(G.Fw wk s).K y=G.K y/\(G.Fw wk s).V y=G.V y:=λy c=>by
  have i:=(h.qh c).k;have hv:=(h.qh c).v;have m:=i.ne d.a bf;have n:=hv.ne d.a bf;show(G.M.cs _ _ _ _).1.get (G.tk y).jI=_/\(G.M.cs _ _ _ _).1.get ((G.tk y).jI+1)=_;rw[f _ i.1,if_neg (λq=>m q.1),f _ hv.1,if_neg (λq=>n q.1)];exact⟨rfl,rfl⟩
 refine⟨h.cs d.a (.inr rfl),⟨⟨[],bf⟩,iw _,λ_ _ _=>rfl,λ_ _=>⟨rfl,rfl,rfl⟩,⟨[],by simp[Gl.Fw,Gl.mem]⟩,λy c q=>by rw[<-(g y c).1];exact q,λy c _ _=>g y c,λy c _=>g y c,λs' ⟨nd,h1,h2⟩=>⟨nd,h1,?_⟩⟩,rfl,rfl,rfl⟩
 show(G.M.cs _ _ _ _).1.get _≠0;rw[f _ (JL h h1).1];split
 .decide
 .exact h2
variable{y3:List Ro}
def uN.We(h:uN ro iT G G' [])(k:uN iT y3 G' G1 []):uN ro y3 G G1 []:=h.trans k (.inr λx a=>by cases a)
def uN.refl(ro:List Ro)(G:Gl):uN ro ro G G []:=⟨⟨[],bf⟩,iw _,λ_ _ _=>rfl,λ_ _=>⟨rfl,rfl,rfl⟩,⟨[],bf⟩,λ_ _ q=>q,λ_ _ _ _=>⟨rfl,rfl⟩,λ_ _ _=>⟨rfl,rfl⟩,λ_ q=>q⟩
def afK(b:G'.M=G.M)(a:G'.ts=G.ts)(c:G'.C=G.C):uN ro ro G G' []:=by
 cases G'
 dsimp only at b a c;subst b;subst a;subst c;exact⟨⟨[],bf⟩,iw _,λ_ _ _=>rfl,λ_ _=>⟨rfl,rfl,rfl⟩,⟨[],bf⟩,λ_ _ q=>q,λ_ _ _ _=>⟨rfl,rfl⟩,λ_ _ _=>⟨rfl,rfl⟩,λ_ q=>q⟩
def akb(wk:Int):∀(ids:List Int) (G:Gl),Ty l ro G->(∀x∈ids,0<=x/\x<G.C.length)->Ty l ro (sK wk G ids)/\uN ro ro G (sK wk G ids) []/\(sK wk G ids).ts=G.ts/\(sK wk G ids).C=G.C/\(sK wk G ids).err=G.err
 |[],G,h,_=>⟨h,uN.refl ro G,rfl,rfl,rfl⟩
 |s::ids,G,h,hs=>by
  obtain⟨b,h2,c,a,d⟩:=awd h (hs s bf);obtain⟨e,f,g,k4,i⟩:=akb wk ids (G.Fw wk s) b λx j=>by rw[a];exact hs x (by simp[j])
  exact⟨e,h2.We f,g.trans c,k4.trans a,i.trans d⟩
def akc{ids:List Int}(h:Ty l ro G)(hs:∀x∈ids,0<=x/\x<G.C.length):Ty l ro (UX l G ids)/\uN ro ro G (UX l G ids) []/\(UX l G ids).ts=G.ts/\(UX l G ids).C=G.C/\(UX l G ids).err=G.err:=by
 unfold UX;split
 .exact⟨h,uN.refl ro G,rfl,rfl,rfl⟩
 .obtain⟨a,k2,b,k4,c⟩:=akb (l.wa.length:Nat) ids G h hs;exact⟨a.ad a.told trivial,k2.We (ahD a a.told (λq=>q)),b,k4,c⟩
variable{kind:Int}
theorem awe(h:IV l P bw ro G Ws)(q:∀x∈da G o,0<=x/\x<G.C.length):∃iT,IV l P bw iT (SA l P G Ws o kind n).1.1 (SA l P G Ws o kind n).1.2:=by
 unfold SA;split
 .exact⟨ro,h⟩
 rename_i d;have d:G.err=0:=Classical.not_not.1 d;split
 .unfold ZC;split
  .split
   .rename_i W r;split
    .rw[h.dl];obtain⟨iT,_,s⟩:=h.step r d;exact⟨iT,s⟩
    .exact⟨ro,h⟩
   .exact⟨ro,h⟩
  .exact⟨ro,h⟩
 split
 .unfold ZD;split
  .rename_i t;have a:Ty l ro {G with time:=(G.time.1+n,Ko.Oy G.time.2 (G.time.1+n))}:={h.ty with ck:=h.ty.ck.adv t,Qn:=λy f=>h.ty.Qn y (List.mem_filter.1 f).1}
   have g:uN ro ro G {G with time:=(G.time.1+n,Ko.Oy G.time.2 (G.time.1+n))} []:=afK rfl rfl rfl;obtain⟨i,j,k,k4,m⟩:=akc (ids:=Ko.ids (Ko.ac4 G.time.2 (G.time.1+n))) a λx c=>by
    obtain⟨y,f,rfl⟩:=List.mem_map.1 c;have p:=(List.mem_filter.1 f).1;exact⟨h.ty.ck.ids y p,h.ty.Qn y p⟩
   exact⟨ro,h.drv i (g.We j) k (λe=>by rw[<-m];exact e)⟩
  .exact⟨ro,h⟩
 split
 .split
  .rename_i v;have a:Ty l ro {G with D:=G.D++[n]}:={h.ty with dr:=by grind}
   exact⟨ro,h.drv a (afK rfl rfl rfl) rfl (λe=>e)⟩
  .exact⟨ro,h⟩
 split
 .unfold ZF;split
  .rename_i z;split
   .exact⟨ro,h⟩
   .have b:n.toNat<(da G o).length:=af;have u:(da G o).getD n.toNat 0=(da G o)[n.toNat]'b:=by rw[m0,iH b];rfl
    obtain⟨i,j,k,k4,m⟩:=akc (ids:=[(da G o).getD n.toNat 0]) h.ty λx c=>by
     simp only[List.mem_singleton]at c;rw[c,u];exact q _ (List.getElem_mem b)
    exact⟨ro,h.drv i j k (λe=>by rw[<-m];exact e)⟩
  .exact⟨ro,h⟩
 .exact⟨ro,h⟩
variable{k:Bool->ap}
def aFl(c:IV l P bw ro G Ws)(q:iA w0 l.ps P)(s:TZ w0)(t:SM G o)(hs:∀x∈da G o,0<=x/\x<G.C.length)(h:qK w0 w l aa G Ws R)
  (d:∀JI w',qK w0 w' l JI (SA l P G Ws o kind n).1.1 (SA l P G Ws o kind n).1.2 R->k (SA l P G Ws o kind n).2 w'):nO (some ⟨l.gs,0,none⟩) #[I_ kind,I_ n] w k:=by
 unfold nO EH;unfold SA at d;have j:G.M.caller l.wa.length=true:=Ga c.ty.stp af af;have m:∀x:Int,0<=x->x<G.C.length->nZ G.C x=some (G.nd x)/\G.M.can l.wa.length (G.nd x).at_=true:=λx u v=>by
  obtain⟨a,b⟩:=c.ty.O7 u v;exact⟨a,b.a.can c.ty.len j⟩
 have htold:G.M.can l.wa.length l.told=true:=c.ty.told.can c.ty.len j;refine aM h λg1 w h=>?_;have h:St w0 w (au g1 [I_ kind,I_ n]::UW l aa G::jO (pH l aa) (l.wa.zip Ws)::R):=h;have h2:=h.drop;obtain⟨sp,st,sw,f⟩:=rO h2;refine bP (λb w=>b=decide (G.err≠0)/\St w0 w (au g1 [I_ kind,I_ n]::UW l aa G::jO (pH l aa) (l.wa.zip Ws)::R)) (λJ z=>?_) ?_
 .refine aU rfl (bc (aI f rfl (z _ _ ⟨?_,h⟩)));by_cases e:G.err=0<;>simp[e]
 clear h h2 f;rintro _ w ⟨rfl,h⟩;by_cases g:G.err=0;rotate_left
 .rw[if_pos g]at d;exact bK (by simp[g]) (d aa _ h.drop)
 rw[if_neg (by simp[g])]at d
 refine aU (by simp[g]) ?_
 refine cr h rfl<|ax (λhb=>?_) λhb=>?_
 .rw[if_pos (gq hb)]at d
  refine cr h rfl ?_;have h:=h.drop;refine ayW q s c.lc c.wn c.ty.ok g (c.ty.OI.given c.ty.len) (c.ty.told.given c.ty.len) (λi W hi _ _=>?_) h d;rw[c.dl];exact c.ok hi g q
 rw[if_neg (gq hb)]at d
 clear hb;refine ax (λhb=>?_) λhb=>?_
 .rw[if_pos (gq hb)]at d
  refine cr h rfl ?_;obtain⟨sp,st,sw,f⟩:=rO h.drop;refine azr f c.ty.Zs c.ty.ck (λy r=>m _ (c.ty.ck.ids y r) (c.ty.Qn y r)) htold λw' h'=>d aa w' (pE h')
 rw[if_neg (gq hb)]at d
 clear hb;refine ax (λhb=>?_) λhb=>?_
 .rw[if_pos (gq hb)]at d
  obtain⟨sp,st,sw,h⟩:=rO h.swap;refine vO λgx w h=>?_;have h:=h.fr 9;refine atu (l:=sp) h.swap (λp w h=>?_) (λp w h=>?_) c.ty.dr
  .rw[if_pos p]at d;have h:=h.bk 8;have h:=h.zm 10;exact d aa _ (pE h)
  .rw[if_neg p]at d;have h:=h.bk 8;have h:=h.zm 10;exact d aa _ (pE h)
 rw[if_neg (gq hb)]at d
 clear hb;refine ax (λhb=>?_) λhb=>?_
 .rw[if_pos (gq hb)]at d
  refine cr h rfl ?_;obtain⟨sp,st,sw,f⟩:=rO h.drop;refine azs f t (λx A=>?_) htold λw' h'=>?_
  .have:=hs x A;exact⟨by rw[c.ty.pl];exact this,m x this.1 this.2⟩
  .exact d aa w' (pE h')
 rw[if_neg (gq hb)]at d
 exact d aa _ h.drop
def dqN(m:Lm):List Int:=(Bd m).map λW:Wk=>W.dq
def aCK(b:m.OK)(h:m.total<=m.cells)(f:m.cells<=65536)(g:wa.length=m.n):Ty (gJ a ps m wa) (ZP m) (eY m):=by
 have d:=ahC b h;have h2:=azw (a:=a) (ps:=ps) b h f g;have c:k9 (ZP m) 3 (.liv 0):=(afJ rfl).qT.qT;have i:Ty (gJ a ps m wa) (ZP m) (g3 m):=h2.ad c trivial;have e:sC m 0=6:=by unfold sC;simp
 have j:RgT (gJ a ps m wa) (ZP m) 0 ⟨9,m.lg⟩:=by
  have:=aoc (a:=a) (ps:=ps) (wa:=wa) b h d.n1;rw[e]at this;exact this.qT.qT
 have k:=j.place 0;have hb:=(ahJ (m:=m) d.n1).bot;rw[e]at hb;have l:Ty (gJ a ps m wa) (ZP m) ((g3 m).mem ((((((g3 m).M.tick m.n).tick m.n).tick m.n).tick m.n).put ((Rg.mk 9 m.lg).place 0) 0)):=i.put ⟨rfl,rfl,bf⟩ k (by show(0:Int)<=0/\(0:Int)<1;decide)
 exact l.put ⟨rfl,rfl,by simp[Gl.mem]⟩ hb.qT.qT (by show sy 1;exact⟨e7,e7⟩)
def ZQ:(Bd m).length=m.n:=by unfold Bd JR;simp
theorem adF(h:(Bd m)[i]?=some W):i<m.n/\W=Wa i (sC m i):=by
 have a:=(kB.1 h).1;rw[ZQ]at a;refine⟨a,?_⟩;unfold Bd JR at h;grind
def aod(h:i<m.n):(dqN m).getD i 0=sC m i:=by
 unfold dqN Bd JR;simp[m0,h,Wa]
theorem awf(c:m.OK)(h:m.total<=m.cells)(g:m.cells<=65536)(d:wa.length=m.n)(f:oW P):IV (gJ a ps m wa) P (dqN m) (ZP m) (eY m) (Bd m):=by
 refine⟨aCE c d,c.log,f,aCK c h g d,by rw[ZQ];exact d,rfl,λv hv=>?_,λi W hi=>?_,λi j k Wj x hi l b=>?_,λx b o=>?_⟩
 .have hv:v<m.n:=by grind
  rw[aod hv];exact(ahJ hv).qT.qT
 .obtain⟨e,rfl⟩:=adF hi;refine⟨rfl,by show i<wa.length;rw[d];exact e,by rw[aod e];rfl,trivial,?_,λx b=>(by cases b),λ_=>(show([]:List Nat)=[]from rfl),λ_=>⟨λ_=>⟨rfl,rfl⟩,λq=>(by cases q),λq=>(by rcases q with q|q<;>cases q)⟩,λx b=>(by cases b),List.nodup_nil⟩
  show((0:Nat):Int)<=m.deep;have:=c.deep;omega
 .obtain⟨e,rfl⟩:=adF hi;cases b
 .have b:x<1:=b;have b:x=0:=af;subst b;exact⟨FI.root f,rfl,rfl,rfl,rfl,rfl⟩
def Cs(G:Gl)(Ws:List Wk):Bool:=Ws.all (λW:Wk=>W.stack.isEmpty)&&decide (2<=G.K 0)
variable{n:Nat}{os:List (Nat×Wk)}
def azx{c:Sl->Prop}(h:St w0 w L)[a:At L (jO (pH l aa)) os f](b:os[n]?=some (i,W))(hc:∀s:Sl,s.n=W.stack.length->c s):cy w (aY ⟨i,0,none⟩ 5) c:=by
 obtain⟨R,d,_⟩:=a.out;obtain⟨q,hq,h2⟩:=X2 (BW (d h) b);have e:=qY (s:=q.ss) h2;have:=hq.qw.len;refine aS h2 vM<|hc _ (by simp at e;show q.ss.n=_;omega)
def azy{c:Array Value->Prop}(h:St w0 w L)[a1:At L (LA aa) G.ts f](b:aa[x]?=some i)(d:G.ts[x]?=some t)(e:c #[I_ t.jI]):bx 1 w (aY ⟨i,0,none⟩ 3) c:=by
 obtain⟨R,g,_⟩:=a1.out;obtain⟨so,sc,h2⟩:=sv (g h) b d;refine bA h2 vM ?_;exact e
theorem adG(c:IV l P bw ro G Ws)(h:qK w0 w l aa G Ws R)(m:∀w',qK w0 w' l aa G Ws R->k (Cs G Ws) w'):cA (some ⟨l.gs,0,none⟩) w k:=by
 have o:=c.lc;have z:=c.wn;have A:=o.w16;obtain⟨sp,st,sw,h⟩:=rO h;have p:=qY (s:=sw) h;rw[List.length_map]at p;have q:=KI (h.front 9 rfl);unfold cA zV;refine aU rfl<|cX<|bP (λ_ w=>Ws.all (λW:Wk=>W.stack.isEmpty)=true/\St w0 w (SL l aa G (jO (pH l aa) (l.wa.zip Ws)::R) sp st sw)) (λJ B=>?_) ?_
 .refine DN (G:=Nat) (λj i w=>i=(j:Int)/\j<=Ws.length/\(Ws.take j).all (λW:Wk=>W.stack.isEmpty)=true/\St w0 w (SL l aa G (jO (pH l aa) (l.wa.zip Ws)::R) sp st sw)) (λj=>Ws.length - j) (g:=0) ⟨rfl,af,rfl,h⟩ ?_;clear h;rintro j i w ⟨hi,hj,ha,h⟩ C hC;subst hi;by_cases b:j<Ws.length;rotate_left
  .have e:j=Ws.length:=af;subst e;rw[List.take_length]at ha;exact aU (by simp;omega) (B _ _ ⟨ha,h⟩)
  refine bK (by simp;omega) ?_
  obtain⟨gw,d⟩:∃g,l.wa[j]?=some g:=⟨_,iH af⟩;have y:Ws[j]?=some (Ws[j]'b):=iH b;refine vP h af (by rw[iZ,l8,d];rfl) ?_
  refine cX<|azx (l:=l) (aa:=aa) h (by rw[List.getElem?_zip_eq_some];exact⟨d,y⟩) λs hs=>?_
  have r:(decide (((s.n:Nat):Int)>0))= !(Ws[j]'b).stack.isEmpty:=by
   rw[hs];cases (Ws[j]'b).stack<;>simp
  rw[r];cases he:(Ws[j]'b).stack.isEmpty with
  |false=>
   refine bK rfl ?_;have hq:Cs G Ws=false:=by
    unfold Cs;grind
   rw[hq]at m;exact m _ (pE h)
  |true=>
   refine aU rfl<|hC (j+1) _ _ ⟨by rw[kg ⟨af,af⟩];rfl,af,?_,h⟩ af
   rw[List.take_add_one,y,List.all_append,ha];grind
 clear h;rintro _ w ⟨ha,h⟩;have t:0<G.ts.length:=c.ty.t1;obtain⟨a,f⟩:=Zx q (G.xw t);refine dZ λw h=>?_;refine vP h af (by show(aa.map pt)[0]?=_;rw[l8,f];rfl) ?_
 refine cX<|azy h f (G.xw t) ?_;refine cX ?_;have u:=c.ty.qh t;have x:=c.ty.len;refine aiM h c.ty.ok (by have:=u.k.given x;simpa using this) (u.v.given x) (u.w.given x) λw h=>?_
 have e:Cs G Ws=decide (G.M.get ((G.tk 0).jI+0)>=2):=by
  unfold Cs;rw[ha,Int.add_zero];rfl
 rw[e]at m;exact m _ (pE h)
variable{k:Int->ap}
def ahK(h:qK w0 w l aa G Ws R)(hk:∀w',qK w0 w' l aa G Ws R->k G.err w'):cS (some ⟨l.gs,0,none⟩) w k:=by
 obtain⟨sp,st,sw,h⟩:=rO h;unfold cS;refine aU rfl<|cX<|hk _ (pE h)
def azz(h:qK w0 w l aa G Ws R)(a:∀w',qK w0 w' l aa G Ws R->k (wr (l.fuel - G.steps)) w'):lE (some ⟨l.gs,0,none⟩) w k:=by
 obtain⟨sp,st,sw,h⟩:=rO h;unfold lE;refine aU rfl<|dZ λw h=>a _ (pE h)
def ao9(h:qK w0 w l aa G Ws R)(hk:∀w',qK w0 w' l aa G Ws R->k (G.M.cells.length:Nat) w'):aaD (some ⟨l.gs,0,none⟩) w k:=by
 obtain⟨sp,st,sw,h⟩:=rO h;unfold aaD aaU;refine aU rfl<|cX<|axB h<|hk _ (pE h)
variable{e:List Value}
def ams(d:0<e.length):∀n:Nat,madeCells e.toArray (n*e.length)=(dU n e).flatten.toArray:=by
 intro n;apply Array.ext
 .simp[madeCells]
 .intro j f h2;have a:j % e.length<e.length:=Nat.mod_lt _ d;have key:∀(n j:Nat),j<n*e.length->(dU n e).flatten[j]?=e[j % e.length]?:=by
   intro n;induction n with
   |zero=>intro j a;omega
   |succ n ih=>
    intro j a;rw[List.replicate_succ,List.flatten_cons];by_cases b:j<e.length
    .rw[tJ b,Nat.mod_eq_of_lt b]
    .rw[u0 af,ih (j - e.length) (by rw[Nat.succ_mul]at a;omega)]
     congr 1;exact(Nat.mod_eq_sub_mod af).symm
  have c:j<n*e.length:=by simp_all
  have:=key n j c;rw[iH a,iH (gq h2)]at this
  have:=Option.some.inj this;simp[madeCells,a,this]
theorem azB{P:Program}{t:TypeId}{z:Value}{kl kc:IntKind}{c:Sl->ap}(h:St w0 w L)(l:ET P t gw zd z)(m:z.cells=e.toArray)(o:0<gw)(d:e.length=gw)(hv:∀v∈e,v.oneCell'=true)
  (hbytes:zd*n<=281474976710656) (f:n<=9223372036854775807)
  (p:∀s w',St w0 w' (rws gw s (dU n e)::L)->s.n=n->c s w'):xz P t (.int kl (n:Int)) (.int kc (n:Int)) w c:=by
 obtain⟨e',i,g,hi,hs,q,r⟩:=l.out;have j:(i.bytes:Int)*(n:Int)<=281474976710656:=by grind
 have u:=Go.run_make w t e' i z g hi r kl kc n n af (Int.le_refl _) j af;unfold xz;rw[u,hs,m,iZ];show c ⟨some ⟨w.heap.size,0,none⟩,n,n⟩ _;refine p _ _ (St.YA (λx a=>by rw[(List.mem_replicate.1 a).2];exact d) (h.new (CA w _) (F':=λk=>k=w.heap.size) ⟨λk=>by simp[Sl.au,eq_comm],qo.new ?_ (by simp[d]) f λx a=>?_⟩ λk A=>by rw[A];exact iw _)) rfl
 .rw[<-ams af,d];exact pN.new w _ e'
 .obtain⟨y,B,a⟩:=List.mem_flatten.1 a;grind
def ahL:Nat->List (Int×Int)->List Int->List Int
 |_,[],a=>a
 |j,p::o,a=>ahL (j+1) o (a.set p.1.toNat (j:Int))
def cq(G:Gl)(o:List (Int×Int)):List Int:=ahL 0 o (dU G.ts.length 0)
def ahM{k:Sl->ap}(h:St w0 w (SL l aa G R sp zt ps))(m:SM G o)(K:G.ts.length<=100000)(B:∀s w',St w0 w' (bG 1 s (ints (cq G o))::SL l aa G R sp zt ps)->(cq G o).length=G.ts.length->k s w'):cI (some ⟨l.gs,0,none⟩) w k:=by
 unfold cI BM;have t:=KI (h.front 9 rfl);have r:=qY (s:=zt) h;rw[List.length_map,t]at r;refine cX ?_;refine AT (n:=zt.n) (z:= I_ 0) (b:=8) h ⟨aZ,aZ⟩ rfl af af λs3 w h L=>cX ?_;have D:dU zt.n (Value.int .i64 0)=ints (dU G.ts.length 0):=by simp[ints,r]
 rw[D]at h;refine aiO h m.kids m.len m.dfs λy w h=>?_;have u:=qY (s:=y) h;simp[ints,List.length_map]at u;have F:=m.len;refine DN (λq i w=>i=((q.1:Nat):Int)/\q.1<=o.length/\q.2.length=G.ts.length/\ahL q.1 (o.drop q.1) q.2=cq G o/\St w0 w (bG 1 y (ints (o.map λp:Int×Int=>p.1))::bG 1 s3 (ints q.2)::SL l aa G R sp zt ps)) (λq=>o.length - q.1) (g:=(0,dU G.ts.length 0)) ⟨rfl,af,bf,rfl,h⟩ ?_;clear h;rintro⟨j,a⟩ i w ⟨hi,H,c,f,h⟩ C I;dsimp only at hi H c f h;subst hi;by_cases d:j<o.length
 .refine bK (by simp;omega) ?_
  have A:=m.ids _ (List.getElem_mem d);rw[List.drop_eq_getElem_cons d]at f;generalize J:o[j]'d=p at A f;have v:o[j]?=some p:=by rw[iH d,J]
  refine vI h af (x:=p.1) (by simp[ints,v]) ?_
  refine zC h A.1 (by rw[c];omega) λw h=>?_
  refine I (j+1,a.set p.1.toNat (j:Int)) _ _ ⟨?_,by dsimp only;omega,by simp[c],f,h⟩ (by dsimp only;omega)
  rw[kg ⟨af,af⟩];rfl
 .refine aU (by simp;omega) ?_
  have e:j=o.length:=af;subst e;rw[List.drop_length]at f;have f:a=cq G o:=f;subst f;exact B _ _ h.drop c
def AO(p:Int)(k f kd v st:Int)(c:ByteArray):List Value:=[I_ p,I_ k,I_ f,I_ kd,I_ v,I_ st,.string c]
def rowAt(G:Gl)(r:List Int)(p:Int×Int):List Value:=
 let t:=G.tk p.1.toNat
 AO (if 0<=p.2 then r.getD p.2.toNat 0 else -1) (G.P.getD t.l7.toNat (0,0,0,false)).2.1 (t.f.getD 0 0) (G.K p.1.toNat) (if G.K p.1.toNat<2 then 0 else G.V p.1.toNat) (t.f.getD 18 0) t.gL
def Gc(G:Gl)(r:List Int)(T:List (List Value)):List (Int×Int)->List (List Value)
 |[]=>T
 |p::o=>Gc G r (T.set (r.getD p.1.toNat 0).toNat (rowAt G r p)) o
def Yn(G:Gl)(o:List (Int×Int)):List (List Value):=Gc G (cq G o) (dU G.ts.length (AO 0 0 0 0 0 0 (ByteArray.mk #[]))) o
def aFn:ET Tryz.prog 35 7 64 (.agg #[I_ 0,I_ 0,I_ 0,I_ 0,I_ 0,I_ 0,.string (ByteArray.mk #[])]):=⟨aZ,aZ⟩
def adH(G:Gl)(r:List Int):∀(a b:List (Int×Int)) (T:List (List Value)),Gc G r T (a++b)=Gc G r (Gc G r T a) b
 |[],b,T=>rfl
 |p::a,b,T=>adH G r a b _
def adI(G:Gl)(r:List Int):∀(a:List (Int×Int)) (T:List (List Value)),(Gc G r T a).length=T.length
 |[],T=>rfl
 |p::a,T=>by rw[Gc,adI G r a];simp
abbrev TbP(l:Lc)(aa:List Nat)(G:Gl)(sp st sw:Sl)(g1 g7 g13:Nat)(s5 s11:Sl)(r:List Int)(T:List (List Value)):List HP:=
 [au g1 [pt l.gs],au g13 [S_ s11],rws 7 s11 T,au g7 [S_ s5],bG 1 s5 (ints r),au l.gs (l.cs sp st sw G.steps G.err),bH l.gm G.M,scp l.gc G.C,rws 4 sp (G.P.map tI),bG 1 st (aa.map pt),bG 1 sw (l.wa.map pt),ni l.gt G.time,Lw l.gd G.D,LA aa G.ts]
def awj{v:Value}{c:Prop}(h:w.cell? ⟨g,i+j,none⟩=some v)(h':w'.cell? ⟨g,i+j,none⟩=some v)(a:c):ai 1 (aY ⟨g,i,none⟩ j) w w' c:=by rw[dg];exact abZ h h' a
abbrev TbB(l:Lc)(aa:List Nat)(G:Gl)(sp st sw:Sl)(g1 g7 g13:Nat)(s5 s11:Sl)(r:List Int)(T:List (List Value))(a x:Nat)(so sc:Sl)(Rr:List HP):List HP:=
 au a ((G.tk x).cells so sc)::rws 2 so ((G.tk x).cJ.map A1)::bG 1 sc (ints (G.tk x).scopes)::jO tkP ((aa.zip G.ts).eraseIdx x)::au g1 [pt l.gs]::au g13 [S_ s11]::rws 7 s11 T::au g7 [S_ s5]::bG 1 s5 (ints r)::au l.gs (l.cs sp st sw G.steps G.err)::bH l.gm G.M::scp l.gc G.C::rws 4 sp (G.P.map tI)::bG 1 st (aa.map pt)::bG 1 sw (l.wa.map pt)::ni l.gt G.time::Lw l.gd G.D::Rr
theorem akd{k:Sl->ap}(m:IV l P bw ro G Ws)(r:SM G o)(hp:∀p∈o,p.2<G.ts.length)(t:∀x∈cq G o,0<=x/\x<G.ts.length)(h:qK w0 w l aa G Ws R)
  (hk:∀s w',qK w0 w' l aa G Ws (rws 7 s (Yn G o)::R)->k s w'):dD (some ⟨l.gs,0,none⟩) w k:=by
 have hcap:=m.ty.cap;obtain⟨sp,st,sw,h⟩:=rO h;have u:=KI (h.front 9 rfl);unfold dD AI;refine aM h λg1 w h=>cX ?_;have h:=h.bk 10;refine ahM h r af λi w h y=>?_;have z:=qY (s:=i) h;simp[ints,List.length_map,y]at z;refine vO λgx w h=>?_;obtain⟨A,N⟩:∃n,n=gx:=⟨_,rfl⟩;subst N;refine azB (n:=i.n) (e:=AO 0 0 0 0 0 0 (ByteArray.mk #[])) h aFn aZ af rfl (by intro v hv;simp[AO]at hv;rcases hv with rfl|rfl<;>rfl) af af λb w h h11=>?_
 refine vO λgx w h=>?_;obtain⟨c,N⟩:∃n,n=gx:=⟨_,rfl⟩;subst N;rw[show dU i.n (AO 0 0 0 0 0 0 (ByteArray.mk #[]))=dU G.ts.length (AO 0 0 0 0 0 0 (ByteArray.mk #[])) by rw[z]]at h
 have h:=h.fr 14;have h:=h.fr 7;have h:=h.bk 14;have h:St w0 w (l9 (TbP l aa G sp st sw g1 A c i b (cq G o) (Gc G (cq G o) (dU G.ts.length (AO 0 0 0 0 0 0 (ByteArray.mk #[]))) []))::Da l.gk G.T::jO (pH l aa) (l.wa.zip Ws)::R):=St.shut h;refine atk (G:=λdone=>l9 (TbP l aa G sp st sw g1 A c i b (cq G o) (Gc G (cq G o) (dU G.ts.length (AO 0 0 0 0 0 0 (ByteArray.mk #[]))) done))) h r.kids r.len r.dfs (λdone rest p w O C hd h hc=>?_) λD w h=>?_
 .have j:p∈o:=by rw[hd];simp
  have Q:=r.ids p j;have hpp:=hp p j;have L:p.1.toNat<G.ts.length:=af;have h:=St.open h;simp[List.cons_append,List.nil_append]at h;obtain⟨a,S⟩:=Zx u (G.xw L);have M:=m.ty.qh L;have U:=m.ty.len;have W:=M.inn;have BU:=m.ty.pl;refine cX<|vP (s:=st) h Q.1 (by rw[l8,S];rfl) ?_
  have h:=h.fr 13;obtain⟨so,sc,h⟩:=awa h S L;refine dZ λw h=>aiM h m.ty.ok (by have:=M.k.given U;simpa using this) (M.v.given U) (M.w.given U) λw h=>?_
  rw[Int.add_zero];have hP:G.P[(G.tk p.1.toNat).l7.toNat]?=some (G.P.getD (G.tk p.1.toNat).l7.toNat (0,0,0,false)):=by
   rw[m0,iH af];rfl
  have d:(G.P.map tI)[(G.tk p.1.toNat).l7.toNat]?=some (tI (G.P.getD (G.tk p.1.toNat).l7.toNat (0,0,0,false))):=by rw[l8,hP];rfl
  generalize X:G.P.getD (G.tk p.1.toNat).l7.toNat (0,0,0,false)=pl at d;clear hP;have Y:(Gc G (cq G o) (dU G.ts.length (AO 0 0 0 0 0 0 (ByteArray.mk #[]))) done).length=G.ts.length:=by rw[adI,List.length_replicate]
  generalize Z:Gc G (cq G o) (dU G.ts.length (AO 0 0 0 0 0 0 (ByteArray.mk #[]))) done=B at h Y;refine bP (fun(ad:Addr) w=> ∃g,ad=⟨g,0,none⟩/\St w0 w (au g (AO (-1) pl.2.1 ((G.tk p.1.toNat).f.getD 0 0) (G.K p.1.toNat) (if G.K p.1.toNat<2 then 0 else G.V p.1.toNat) ((G.tk p.1.toNat).f.getD 18 0) (G.tk p.1.toNat).gL)::TbB l aa G sp st sw g1 A c i b (cq G o) B a p.1.toNat so sc O)) (λJ hJ=>?_) ?_
  .refine dZ λw h=>rix (sz:=4) h W.1 d af λgq oq t _=>?_;refine uZ (by rw[dg];exact t h d 1 _ rfl) ?_
   have hold:=h;with_reducible repeat' (first|refine bc ?_|refine u_T h ?_|refine Z7 h ?_|refine QU h λw h=>?_|refine aM h λgx w h=>?_|refine nP h ?_|refine sR h ?_|refine y8 ?_ ?_|refine an3 hold h vM ?_|refine awj (t hold d 1 _ rfl) (t h d 1 _ rfl) ?_)
   all_goals exact hJ _ _ ⟨_,rfl,h⟩
  clear h;rintro _ w ⟨g,rfl,h⟩;have hr1:(cq G o)[p.1.toNat]?=some ((cq G o).getD p.1.toNat 0):=by rw[m0,iH af];rfl
  have F:=t _ (qn hr1);have H:(ints (cq G o))[p.1.toNat]?=some (I_ ((cq G o).getD p.1.toNat 0)):=by grind
  have I:∀(w:World) (q:Int),q=(if 0<=p.2 then(cq G o).getD p.2.toNat 0 else -1)->St w0 w (TbB l aa G sp st sw g1 A c i b (cq G o) (B.set ((cq G o).getD p.1.toNat 0).toNat (AO q pl.2.1 ((G.tk p.1.toNat).f.getD 0 0) (G.K p.1.toNat) (if G.K p.1.toNat<2 then 0 else G.V p.1.toNat) ((G.tk p.1.toNat).f.getD 18 0) (G.tk p.1.toNat).gL)) a p.1.toNat so sc O)->C w:=by
   intro w q hq h;have h:=qg u S (G.xw L) h;have h:=h.bk 13;refine hc w (St.shut ?_);rw[adH,Z];have e:rowAt G (cq G o) p=AO q pl.2.1 ((G.tk p.1.toNat).f.getD 0 0) (G.K p.1.toNat) (if G.K p.1.toNat<2 then 0 else G.V p.1.toNat) ((G.tk p.1.toNat).f.getD 18 0) (G.tk p.1.toNat).gL:=by
    unfold rowAt;rw[hq,<-X]
   show St w0 w (TbP l aa G sp st sw g1 A c i b (cq G o) (B.set ((cq G o).getD p.1.toNat 0).toNat (rowAt G (cq G o) p))++O);rw[e];exact h
  refine ax (λhb=>?_) λhb=>?_
  .have hb:0<=p.2:=by simpa using hb
   have hr2:(cq G o)[p.2.toNat]?=some ((cq G o).getD p.2.toNat 0):=by rw[m0,iH af];rfl
   refine cX<|vI (s:=i) h hb (by unfold ints;rw[l8,hr2];rfl) ?_
   refine dZ λw h=>vI h Q.1 H ?_;refine cX ?_;refine rW (e:=B[((cq G o).getD p.1.toNat 0).toNat]' af) h F.1 (iH _) af rfl ?_ λw h=>?_
   .intro v hv;simp[AO]at hv;rcases hv with rfl|rfl|rfl|rfl|rfl|rfl|rfl<;>rfl
   have h:=h.drop;refine I w _ (if_pos hb).symm<|h
  .have hb:¬0<=p.2:=by simpa using hb
   refine dZ λw h=>vI h Q.1 H ?_;refine cX ?_;refine rW (e:=B[((cq G o).getD p.1.toNat 0).toNat]' af) h F.1 (iH _) af rfl ?_ λw h=>?_
   .intro v hv;simp[AO]at hv;rcases hv with rfl|rfl|rfl|rfl|rfl|rfl|rfl<;>rfl
   have h:=h.drop;refine I w _ (if_neg hb).symm<|h
 .have h:=h.front 1 rfl;simp[I7]at h;have h:=St.open h;simp[List.cons_append,List.nil_append]at h;refine cX ?_;have h:=QR h;have h:=h.fr 15;have h:=LK h;refine LL h λw h=>hk b w ?_;have h:=h.zm 0;have h:=h.zm 0;have h:=h.zm 1;have h:=h.zm 1;have h:=h.fr 10;have h:=h.fr 3;have h:=h.fr 3;have h:=h.fr 3;have h:=h.bk 11;exact pE h
def Pw(s:Sl):List dB:=[⟨0,s,[[16,0,0,0,0]]⟩]
def mw:Lm:=⟨1,0,65536,1048576,1000,3⟩
def afL(G:Gl):Bool:=(match G.T with|[t]=>decide (t.parent= -1)&&t.kids.isEmpty|_=>false)&&decide (G.ts.length=1)&&(decide ((G.tk 0).scopes.length<=1)&&(G.tk 0).scopes.all λx:Int=>decide (0<=x/\x<(G.C.length:Nat)))
def oR:List (Int×Int):=[(0, -1)]
def runN(l:Lc)(P:List dB):Nat->Gl->List Wk->Option (Gl×List Wk)
 |0,_,_=>none
 |n+1,G,Ws=>bif afL G then(bif Cs G Ws then some (G,Ws)else bif decide (G.err=0)then runN l P n (SA l P G Ws oR 0 0).1.1 (SA l P G Ws oR 0 0).1.2 else none)else none
theorem adL(d:Ty l ro G)(h:afL G=true):SM G oR/\∀x∈da G oR,0<=x/\x<G.C.length:=by
 unfold afL at h;simp only[iY,decide_eq_true_eq,tL]at h;obtain⟨⟨j,h2⟩,k,f⟩:=h;have c:da G oR=0::(G.tk 0).scopes:=by
  unfold da oR;simp
 have b:∃t,G.T=[t]/\t.parent= -1/\t.kids=[]:=by grind
 obtain⟨t,e,a,g⟩:=b;refine⟨⟨λi x hx=>?_,e7,?_,λp a=>?_,by rw[c];simp;omega⟩,λx hx=>?_⟩
 .grind
 .rw[e];rw[if_neg bf];unfold oR;rw[<-a];refine Dfs.cons rfl ?_;rw[g];exact .nil
 .simp[oR]at a;subst a;exact⟨e7,by show(0:Int)< _;omega⟩
 .rw[c]at hx;have:=d.c1;rcases List.mem_cons.1 hx with rfl|hx
  .omega
  .exact f x hx
theorem aqJ{r:Gl×List Wk}(i:iA w0 l.ps P)(j:TZ w0)(v:(n:Int)<=wk)(m:wk<=1000000)(c:IV l P bw ro G Ws)(a:runN l P n G Ws=some r)(h:qK w0 w l aa G Ws R)
  (o:∀z JI iT w',IV l P bw iT r.1 r.2->afL r.1=true->qK w0 w' l JI r.1 r.2 R->k z w'):iF (some ⟨l.gs,0,none⟩) 1 wk w k:=by
 unfold iF xj;refine DN (λq x w=>(0<=x.2/\x.2+q.1<=wk)/\IV l P bw q.2.2.2.2 q.2.1 q.2.2.1/\runN l P q.1 q.2.1 q.2.2.1=some r/\qK w0 w l q.2.2.2.1 q.2.1 q.2.2.1 R) (λq=>q.1) (g:=(n,G,Ws,aa,ro)) ⟨⟨by show(0:Int)<=0;decide,by show(0:Int)+n<=_;omega⟩,c,a,h⟩ ?_
 clear h a c;rintro⟨n,G,Ws,aa,ro⟩ ⟨y,A⟩ w ⟨e,c,a,h⟩ C p;dsimp only at e c a h ⊢;cases n with
 |zero=>cases a
 |succ n=>
  unfold runN at a;cases h1:afL G with
  |false=>rw[h1]at a;cases a
  |true=>
   rw[h1]at a;obtain⟨s,hs⟩:=adL c.ty h1;refine bP (fun(b:Bool) w=>b=(!Cs G Ws&&decide (G.err=0))/\qK w0 w l aa G Ws R) (λJ f=>?_) ?_
   .refine bK (by simp;omega) ?_
    refine adG c h λw h=>?_;cases hq:Cs G Ws with
    |true=>exact aU rfl (f _ _ ⟨by rw[hq];rfl,h⟩)
    |false=>
     refine bK rfl<|ahK h λw h=>f _ _ ⟨by rw[hq];rfl,h⟩
   clear h;rintro _ w ⟨rfl,h⟩;cases hq:Cs G Ws with
   |true=>
    rw[hq]at a;cases a
    exact aU rfl (o _ aa ro w c h1 h)
   |false=>
    rw[hq]at a;by_cases t:G.err=0;rotate_left
    .grind
    have u:decide (G.err=0)=true:=by simp[t]
    rw[u]at a ⊢;have a:runN l P n (SA l P G Ws oR 0 0).1.1 (SA l P G Ws oR 0 0).1.2=some r:=a;refine bK rfl ?_;refine⟨2,?_⟩;unfold jV;refine bK rfl<|aFl c i j s hs h λJI w h=>?_;unfold jV;refine aU rfl ?_;obtain⟨iT,d⟩:=awe c hs;refine p (n,_,_,JI,iT) _ _ ⟨?_,d,a,h⟩ (by dsimp only;omega)
    dsimp only;rw[dh ⟨af,af⟩];push_cast at e;omega
variable{sc:Sl}
def ran:(runN (gJ a ps mw [gw]) (Pw sc) 60 (eY mw) (Bd mw)).map (λr:Gl×List Wk=>(r.1.err,r.1.ts.length,cq r.1 oR,Yn r.1 oR,Cs r.1 r.2))=some (0,1,[0],[AO (-1) 0 0 2 0 1 (ByteArray.mk #[])],true):=by kernel_rfl
open Ck (oW qx my tj Su qf mZ)
def aW:List (List Int):=[[16,0,0,0,0]]
def azE:qx aW 0=[0]:=(Ck.ajo 1 e7 e7 aZ).trans aZ
def aoe(s:Sl):tj (Pw s)=(0,0,0):=Ck.alH (r:=none) azE aZ aZ
def azF(s:Sl):oW (Pw s):=Ck.afq.1 (by rw[aoe])
def aCM(s:Sl):Su (tj (Pw s))=[0,0,0]:=by rw[aoe];rfl
def awo:mw.OK:=⟨e7,e7,e7,e7,e7,e7⟩
def akf:mw.total<=mw.cells/\mw.cells<=65536/\mw.n=1:=⟨of_decide_eq_true aZ,of_decide_eq_true aZ,aZ⟩
theorem aFu:∃r:Gl×List Wk,runN (gJ a ps mw [gw]) (Pw sc) 60 (eY mw) (Bd mw)=some r/\r.1.err=0/\r.1.ts.length=1/\cq r.1 oR=[0]/\Yn r.1 oR=[AO (-1) 0 0 2 0 1 (ByteArray.mk #[])]/\Cs r.1 r.2=true:=by
 have h:=ran (a:=a) (ps:=ps) (sc:=sc) (gw:=gw);generalize runN (gJ a ps mw [gw]) (Pw sc) 60 (eY mw) (Bd mw)=x at h ⊢;cases x with
 |none=>cases h
 |some r=>
  grind
def TZ.ext(h:TZ w)(a:Ext w w'):TZ w':=λi hi=>Ext.cell a (h i hi)
def aqK{l:List Value}(hb:pN w g l.toArray)(a:l.length=n*y)(c:Nat):Hj y w ⟨A_ g,n,c⟩ l:=
 ⟨a,λi v hv=>⟨_,rfl,by rw[dg,hb.cell];simpa using hv⟩⟩
def azG{c3:Nat}(d:pN w v (eZ aW.flatten))(hb:pN w u #[I_ 0,.slice (A_ v) 1 g]):iA w ⟨A_ u,1,c3⟩ (Pw ⟨A_ v,1,g⟩):=by
 have b:∀x∈aW,x.length=5/\∀y∈x,sy y:=e7;refine⟨Ck.auC (aqK hb rfl _) e7 (by intro e a;simp[dB.cells,Pw]at a;subst a;rfl),λx c=>?_,by simp[reachBytes,Pw]⟩
 simp[Pw]at c;subst c;refine⟨(by decide:sy 0),Ck.apE d b (λi hi j f=>?_) (by simp[reachBytes,aW])⟩
 rw[Nat.zero_add,Ck.Tc (λe a=>(b e a).1) (e:=aW.getD i []) (by simp[hi]) f]
def aof(r:List Value)(p a b c d e:Int)(t:ByteArray){k:Bool->Prop}(f:k true):Tj ([(0,0)] ++([(1,0)] ++([(2,0)] ++([(3,0)] ++([(4,0)] ++([(5,0)] ++([(6,2)] ++[]))))))) (AO p a b c d e t).toArray (AO p a b c d e t).toArray k:=by
 unfold Tj;have:oZ (AO p a b c d e t).toArray (AO p a b c d e t).toArray ([(0,0)] ++([(1,0)] ++([(2,0)] ++([(3,0)] ++([(4,0)] ++([(5,0)] ++([(6,2)] ++[])))))))=some true:=by
  simp[oZ,eqC,AO]
 rw[this];exact f
def adM{k:Array Value->ap}(h:St w0 w L)(a:∀w',St w0 w' L->k (lmA ⟨b,s,65536,1048576,1000,3⟩) w'):dc b s w k:=by
 unfold dc;refine aM h λg w h=>dZ λw h=>a _ h.drop
variable{yi:Bool->ap}
def azH(G:TZ w0)(H:iA w0 ps (Pw sc))(I:wa.length=1)(h:qK w0 w (gJ a ps mw wa) aa (eY mw) (Bd mw) [])
  (hk:∀w',Ext w0 w'->yi true w'):iF (some ⟨a.gs,0,none⟩) 1 9000 w λi f=>cA (some ⟨a.gs,0,none⟩) f λj c=>an j (cS (some ⟨a.gs,0,none⟩) c λm d=>an (m==(0:Int)) (dD (some ⟨a.gs,0,none⟩) d λo q=>
   kT #[(I_ (0:Int)),(I_ (0:Int)),(I_ (0:Int)),(I_ (0:Int)),(I_ (0:Int)),(I_ (0:Int)),(.string (ByteArray.mk #[]))] 0 7 #[(I_ (-(1:Int))),(I_ (0:Int)),(I_ (0:Int)),(I_ (2:Int)),(I_ (0:Int)),(I_ (1:Int)),(.string (ByteArray.mk #[]))] λe=>
    aE q e 49 λt u=>dF o (Sl.mk (some t) 1 1) u λy A=>(yi y A)) ((yi false d))) ((yi false c)):=by
 obtain⟨gw,rfl⟩:∃gw,wa=[gw]:=by
  match wa,I with
  |[gw],_=>exact⟨gw,rfl⟩
 have b:=awf (a:=a) (ps:=ps) (wa:=[gw]) awo akf.1 akf.2.1 akf.2.2.symm (azF sc);obtain⟨r,B,J,e2,K,L,M⟩:=aFu (a:=a) (ps:=ps) (sc:=sc) (gw:=gw);generalize eY mw=P at b B h;generalize Bd mw=W0 at b B h;refine aqJ (l:=gJ a ps mw [gw]) H G (by show(60:Int)<=9000;decide) (by show(9000:Int)<=1000000;decide) b B h λz JI iT w b N h=>?_
 obtain⟨O,hs⟩:=adL b.ty N;refine adG b h λw h=>?_;rw[M];refine bK rfl<|ahK h λw h=>?_;rw[J];refine bK rfl<|akd b O (λp F=>by simp[oR]at F;subst F;show(-1:Int)< _;omega) (λx C=>by rw[K]at C;simp at C;subst C;omega) h λs w h=>?_
 rw[L]at h;refine qL (AO (-1) 0 0 2 0 1 (ByteArray.mk #[])).toArray rfl aZ<|aM h λg w h=>?_;have h:=Yc (sz:=7) h rfl (by intro v hv;simp[AO]at hv;rcases hv with rfl|rfl|rfl|rfl|rfl|rfl<;>rfl)
 have D:=(pg (sz:=7) (s:=s) h).2 e7;have D:s.n=1:=D.symm;unfold dF;rw[D];refine aU rfl ?_;refine⟨2,?_⟩;unfold jV;refine bK rfl<|dZ λw h=>?_;refine rA h e7 rfl e7<|rA h e7 rfl e7<|aof [] _ _ _ _ _ _ _ (aU rfl ?_);unfold jV;refine aU rfl<|hk _ h.ext
def aCN{k:Option Addr×Int->ap}(b:iA w1 ps (Pw sc))(d:∀(a:Ad) (wa aa:List Nat) w',wa.length=1->qK w1 w' (gJ a ps mw wa) aa (eY mw) (Bd mw) []->k (some ⟨a.gs,0,none⟩,0) w'):kF #[S_ ps] (lmA mw) w1 k:=
 ahh b (.nil w1) (λ_ _ _ a wa aa w' e h=>d a wa aa w' (e.trans akf.2.2) h) (λq=>(q (aCM sc)).elim) (λ_ q=>(q awo).elim) λ_ _ q=>(q akf.1).elim
def awp(h:k 9000 w):sA 1 1 1 w k:=aU rfl h
def awq{k:Bool->ap}(e:TZ w0)(f:∀w',Ext w0 w'->k true w'):iv w0 k:=by
 unfold iv yZ;refine qL (eZ aW.flatten) rfl aZ<|aM (.nil w0) λg2 w h=>aM h λn w h=>dZ λw h=>bP (fun(x:Option Addr×Int) w'=> ∃w1 ps sc,∃(a:Ad) (wa aa:List Nat),x=(some ⟨a.gs,0,none⟩,0)/\Ext w0 w1/\iA w1 ps (Pw sc)/\wa.length=1/\qK w1 w' (gJ a ps mw wa) aa (eY mw) (Bd mw) []) (λJ i=>?_) ?_
 .have b:∀(w:World) (gx:Nat) (L:List HP) (f1 f2:HP->List HP) (h:St w0 w L) (j:At L (au g2) (eZ aW.flatten).toList f1) (l:At L (au gx) [I_ 0,.slice (A_ g2) 1 1] f2),kF #[.slice (A_ gx) 1 1] (lmA mw) w λx w=>J (x.1,x.2) w:=by
   intro w gx L f1 f2 h j l;have c:=azG (c3:=1) (h.au) (h.au (g:=gx));refine aCN c λa wa aa w' d h'=>i _ _ ⟨_,_,_,a,wa,aa,rfl,h.ext,c,d,h'⟩
  with_reducible repeat' (first|refine cH h λw h=>?_|refine Vh h ?_|refine sR h ?_|refine y8 ?_ ?_|refine adM h λw h=>?_)
  .refine qL #[I_ 0,.slice (A_ g2) 1 1] rfl aZ ?_;with_reducible repeat' (first|refine aM h λgx w h=>?_|refine sR h ?_|refine y8 ?_ ?_|refine adM h λw h=>?_)
   all_goals exact b _ _ _ _ _ h inferInstance inferInstance
  .refine qL #[I_ 0,.slice (A_ g2) 1 1] rfl aZ<|vO λgx w h=>b _ _ _ _ _ h inferInstance inferInstance
 clear h;rintro _ w ⟨w1,ps,sc,a,wa,aa,rfl,he,c,d,h⟩;refine aU rfl<|awp<|azH (e.ext he) c d h λw' m=>f w' (he.trans m)
structure KtT (T:List Kt):Prop where
 one:1<=T.length
 root:∀y,T[0]?=some y->y.parent= -1
 kid:∀(i:Nat) x,T[i]?=some x->∀k∈x.kids,(i:Int)<k/\k<T.length/\∃y,T[k.toNat]?=some y/\y.parent=i
 rz:∀(j:Nat) y,T[j]?=some y->1<=j->0<=y.parent/\y.parent<j/\∃x,T[y.parent.toNat]?=some x/\(j:Int)∈x.kids
 nd:∀(i:Nat) x,T[i]?=some x->x.kids.Nodup
structure aTR (T:List Kt) (v st:List Int):Prop where
 nd:(v++st).Nodup
 rg:∀x∈v++st,0<=x/\x<T.length
 pr:∀x∈v++st,x≠0->∃y,T[x.toNat]?=some y/\y.parent∈v
 kd:∀x∈v,∀t,T[x.toNat]?=some t->∀k∈t.kids,k∈v++st
 zero:(0:Int)∈v++st
variable{l:List Int}
theorem acW(h:l.Nodup)(c:∀x∈l,0<=x/\x<n):l.length<=n:=by
 have h2:(l.map Int.toNat).Nodup:=by
  unfold List.Nodup at h ⊢;rw[List.pairwise_map];refine List.Pairwise.imp_of_mem (fun{a b} ha hb hab=>?_) h;grind
 have:=ML h2 λx d=>by
  obtain⟨y,e,rfl⟩:=List.mem_map.1 d;have:=c y e;show y.toNat<n;omega
 simpa using this
variable{T:List Kt}
def aDO(r:KtT T):∀(n:Nat) (v st:List Int),T.length - v.length<=n->aTR T v st->∃l,Dfs T st l/\aTR T (v++l.map (λp=>p.1)) []/\∀p∈l,∃t,T[p.1.toNat]?=some t/\p.2=t.parent:=by
 intro n;induction n with
 |zero=>
  intro v st F h;have s:=acW h.nd h.rg;rw[uv]at s;cases st with
  |nil=>exact⟨[],.nil,by simpa using h,λp hp=>by cases hp⟩
  |cons x st=>simp at s;omega
 |succ n ih=>
  intro v st F h;cases st with
  |nil=>exact⟨[],.nil,by simpa using h,λp hp=>by cases hp⟩
  |cons x st=>
   have D:=h.rg x bf;have s:=acW h.nd h.rg;simp only[uv,List.length_cons]at s;obtain⟨t,g⟩:∃t,T[x.toNat]?=some t:=⟨_,iH af⟩;have d:=List.nodup_append.1 h.nd;have j:=List.nodup_cons.1 d.2.1;have m:x ∉ v:=λq=>d.2.2 x q x bf rfl;have c:∀k∈t.kids,k ∉ v++x::st:=by
    intro k u hq;obtain⟨h1,h2,y,f,A⟩:=r.kid _ _ g k u;obtain⟨H,o,hp⟩:=h.pr k hq af;rw[f]at o;obtain rfl:=Option.some.inj o;rw[A]at hp;have:((x.toNat:Nat):Int)=x:=af;rw[this]at hp;exact m hp
   have B:aTR T (v++[x]) (t.kids++st):=by
    refine⟨?_,λz hz=>?_,λz hz C=>?_,λz hz t' i k u=>?_,?_⟩
    .rw[List.nodup_append];refine⟨?_,?_,?_⟩
     .rw[List.nodup_append];exact⟨d.1,bf,λa ha b hb=>by simp at hb;subst hb;intro e;subst e;exact m ha⟩
     .rw[List.nodup_append];refine⟨r.nd _ _ g,j.2,λa ha b hb e=>?_⟩;subst e;exact c a ha (by simp[hb])
     .intro a ha b hb e;subst e;rcases zw.1 ha with ha|ha
      .rcases zw.1 hb with hb|hb
       .exact c a hb (by simp[ha])
       .exact d.2.2 a ha a (by simp[hb]) rfl
      .simp at ha;subst ha;rcases zw.1 hb with hb|hb
       .exact c a hb bf
       .exact j.1 hb
    .simp only[zw,List.mem_singleton]at hz;rcases hz with(hz|rfl)|hz|hz
     .exact h.rg z (by simp[hz])
     .exact D
     .have:=r.kid _ _ g z hz;omega
     .exact h.rg z (by simp[hz])
    .simp only[zw,List.mem_singleton]at hz;rcases hz with(hz|rfl)|hz|hz
     .obtain⟨y,f,hp⟩:=h.pr z (by simp[hz]) C
      exact⟨y,f,by simp[hp]⟩
     .obtain⟨y,f,hp⟩:=h.pr z bf C;exact⟨y,f,by simp[hp]⟩
     .obtain⟨_,_,y,f,hp⟩:=r.kid _ _ g z hz;refine⟨y,f,?_⟩;rw[hp];have:((x.toNat:Nat):Int)=x:=af;simp[this]
     .obtain⟨y,f,hp⟩:=h.pr z (by simp[hz]) C
      exact⟨y,f,by simp[hp]⟩
    .simp only[zw,List.mem_singleton]at hz ⊢;rcases hz with hz|rfl
     .have:=h.kd z hz t' i k u;simp only[zw,List.mem_cons]at this;rcases this with h1|h1|h1
      .exact .inl (.inl h1)
      .exact .inl (.inr h1)
      .exact .inr (.inr h1)
     .rw[g]at i;obtain rfl:=Option.some.inj i;exact .inr (.inl u)
    .have:=h.zero;simp only[zw,List.mem_cons]at this ⊢;rcases this with h1|h1|h1
     .exact .inl (.inl h1)
     .exact .inl (.inr (.inl h1))
     .exact .inr (.inr h1)
   obtain⟨l,h1,h2,G⟩:=ih (v++[x]) (t.kids++st) (by simp only[uv,List.length_singleton];omega) B
   refine⟨(x,t.parent)::l,.cons (by unfold GV;rw[if_pos D.1];exact g) h1,?_,λp hp=>?_⟩
   .simpa using h2
   .rcases List.mem_cons.1 hp with rfl|hp
    .exact⟨t,g,rfl⟩
    .exact G p hp
def aDP(a:KtT T){v:List Int}(h:aTR T v []):∀j:Nat,j<T.length->(j:Int)∈v:=by
 intro j;induction j using Nat.strongRecOn with
 |_ j ih=>
  intro b;by_cases c:j=0
  .subst c;simpa using h.zero
  .obtain⟨y,d⟩:∃y,T[j]?=some y:=⟨_,iH b⟩;obtain⟨i,h2,x,f,g⟩:=a.rz j y d af;have hv:=ih y.parent.toNat af af;have e:((y.parent.toNat:Nat):Int)=y.parent:=af;rw[e]at hv;simpa using h.kd y.parent hv x f j g
def aDQ(b:KtT T):∃o,Dfs T [0] o/\(o.map λp=>p.1).Nodup/\(∀p∈o,(0<=p.1/\p.1<T.length)/\∃t,T[p.1.toNat]?=some t/\p.2=t.parent)/\∀j:Nat,j<T.length->(j:Int)∈o.map λp=>p.1:=by
 have c:aTR T [] [0]:=by
  have:=b.one;exact⟨bf,λx a=>by simp at a;subst a;omega,λx a c=>by simp at a;exact(c a).elim,λx a=>(by cases a),bf⟩
 obtain⟨o,e,h2,f⟩:=aDO b _ [] [0] (iw _) c;rw[List.nil_append]at h2;refine⟨o,e,by simpa using h2.nd,λp d=>⟨?_,f p d⟩,aDP b h2⟩
 exact h2.rg p.1 (by simp;exact⟨p.2,d⟩)
theorem KtT.add{p:Int}(g:KtT T)(A:0<=p)(D:p<T.length):KtT (Hz T p):=by
 obtain⟨t,B⟩:∃t,T[p.toNat]?=some t:=⟨_,iH af⟩;have e:Hz T p=T.set p.toNat {t with kids:=t.kids++[(T.length:Int)]}++[⟨p,t.kids.length,[]⟩]:=by
  unfold Hz GV;rw[if_pos A,B]
 rw[e];have f:(T.set p.toNat {t with kids:=t.kids++[(T.length:Int)]}++[(⟨p,t.kids.length,[]⟩:Kt)]).length=T.length+1:=by simp
 have r:∀(i:Nat) x,(T.set p.toNat {t with kids:=t.kids++[(T.length:Int)]}++[(⟨p,t.kids.length,[]⟩:Kt)])[i]?=some x->
   (i<T.length/\∃y,T[i]?=some y/\x.parent=y.parent/\x.kids=if i=p.toNat then y.kids++[(T.length:Int)]else y.kids)\/(i=T.length/\x=⟨p,t.kids.length,[]⟩):=by
  grind
 have c:∀(i:Nat) y,T[i]?=some y->∃x,(T.set p.toNat {t with kids:=t.kids++[(T.length:Int)]}++[(⟨p,t.kids.length,[]⟩:Kt)])[i]?=some x/\x.parent=y.parent/\x.kids=if i=p.toNat then y.kids++[(T.length:Int)]else y.kids:=by grind
 have m:(T.set p.toNat {t with kids:=t.kids++[(T.length:Int)]}++[(⟨p,t.kids.length,[]⟩:Kt)])[T.length]?=some ⟨p,t.kids.length,[]⟩:=by
  rw[u0 bf];simp
 refine⟨by rw[f];omega,λy n=>?_,λi x o k hk=>?_,λj y n F=>?_,λi x o=>?_⟩
 .rcases r 0 y n with⟨_,z,d,h2,_⟩|⟨h2,_⟩
  .rw[h2];exact g.root z d
  .have:=g.one;omega
 .rw[f];rcases r i x o with⟨hi,z,d,h2,s⟩|⟨h2,rfl⟩
  .rw[s]at hk;have hold:∀k∈z.kids,(i:Int)<k/\k<((T.length+1:Nat):Int)/\∃y,(T.set p.toNat {t with kids:=t.kids++[(T.length:Int)]}++[(⟨p,t.kids.length,[]⟩:Kt)])[k.toNat]?=some y/\y.parent=i:=by
    intro k hk;obtain⟨a,b,y,n,G⟩:=g.kid i z d k hk;obtain⟨H,u,q,_⟩:=c _ y n;exact⟨a,af,H,u,by rw[q];exact G⟩
   split at hk
   .rename_i I;rcases zw.1 hk with hk|hk
    .exact hold k hk
    .simp at hk;subst hk;refine⟨af,af,_,by rw[iZ];exact m,?_⟩
     show p=_;omega
   .exact hold k hk
  .cases hk
 .rcases r j y n with⟨hi,z,d,h2,_⟩|⟨h2,rfl⟩
  .obtain⟨a,b,x,o,C⟩:=g.rz j z d F;rw[h2];obtain⟨v,l,_,q⟩:=c _ x o;refine⟨a,b,v,l,?_⟩;rw[q];split
   .exact List.mem_append_left _ C
   .exact C
  .subst h2;obtain⟨v,l,_,q⟩:=c _ t B;refine⟨A,D,v,l,?_⟩;rw[q,if_pos rfl];simp
 .rcases r i x o with⟨hi,z,d,_,s⟩|⟨_,rfl⟩
  .rw[s];split
   .rw[List.nodup_append];refine⟨g.nd i z d,bf,λa J b hb e=>?_⟩;simp at hb;have:=g.kid i z d a J;omega
   .exact g.nd i z d
  .simp
structure SKs (T:List Kt) (S:List (List Int)) (Q:List (Int×Int×Int)):Prop where
 t:KtT T
 n:T.length=S.length
 own:∀(x:Nat) l,S[x]?=some l->∀(k:Nat) s,l[k]?=some s->0<=s/\∃p,Q[s.toNat]?=some p/\p.1=x/\p.2.1=k
 q0:∃a,Q[0]?=some (-1,a)
 aTS:∀(s:Nat) p,Q[s]?=some p->(-2<=p.1/\p.1<S.length)/\(0<=p.1->∃l,S[p.1.toNat]?=some l/\0<=p.2.1/\l[p.2.1.toNat]?=some (s:Int))
variable{Q:List (Int×Int×Int)}{S:List (List Int)}
def SKs.fork(h:SKs T S Q)(a:Int×Int):SKs T S (Q++[(-2,a)]):=by
 have hq:∀{s:Nat} {p},Q[s]?=some p->(Q++[(-2,a)])[s]?=some p:=fun{s p} hs=>by
  rw[tJ (kB.1 hs).1];exact hs
 refine⟨h.t,h.n,λx l d k s e=>?_,?_,λs p hs=>?_⟩
 .obtain⟨b,p,f,h2⟩:=h.own x l d k s e;exact⟨b,p,hq f,h2⟩
 .obtain⟨a',b⟩:=h.q0;exact⟨a',hq b⟩
 .by_cases c:s<Q.length
  .rw[tJ c]at hs;exact h.aTS s p hs
  .rw[u0 af]at hs;have:s - Q.length=0:=by
    have:=(kB.1 hs).1;simp at this;omega
   rw[this]at hs;simp at hs;subst hs;exact⟨⟨bf,by show(-2:Int)< _;omega⟩,λq=>by simp at q⟩
variable{yk:Int×Int}
def SKs.more(h:SKs T S Q){p own:Int}{a:Int×Int}(A:0<=p)(B:p<T.length)(C:0<=own)(hq:Q[own.toNat]?=some (-2,yk))(y:a.1=0):
  SKs (Hz T p) (S++[[own]]) (Q.set own.toNat ((T.length:Nat),a)):=by
 have d:=(kB.1 hq).1;have f:∀{s:Nat} {r:Int×Int×Int},Q[s]?=some r->r.1≠ -2->(Q.set own.toNat ((T.length:Nat),a))[s]?=some r:=fun{s r} hs hr=>by
  rw[r0]
  .exact hs
  .intro e;subst e;rw[hq]at hs;exact hr (by rw[<-Option.some.inj hs])
 have m:(Hz T p).length=T.length+1:=by
  unfold Hz;split<;>simp
 refine⟨h.t.add A B,by rw[m,h.n];simp,λx l c k s g=>?_,?_,λs r hs=>?_⟩
 .by_cases D:x<S.length
  .rw[tJ D]at c;obtain⟨o,r,u,i,j⟩:=h.own x l c k s g;exact⟨o,r,f u (by rw[i];omega),i,j⟩
  .rw[u0 af]at c;have e:x - S.length=0:=by
    have:=(kB.1 c).1;simp at this;omega
   rw[e]at c;simp at c;subst c;have ek:k=0:=by
    have:=(kB.1 g).1;simp at this;omega
   subst ek;simp at g;subst g;refine⟨C,_,uO d,?_,?_⟩
   .show((T.length:Nat):Int)=x;have:=h.n;omega
   .show a.1=_;rw[y];rfl
 .obtain⟨a',z⟩:=h.q0;exact⟨a',f z bf⟩
 .by_cases e:own.toNat=s
  .subst e;rw[uO d]at hs;obtain rfl:=Option.some.inj hs;have F:=h.n;refine⟨⟨by show(-2:Int)<=(T.length:Nat);omega,by simp;omega⟩,λ_=>⟨[own],?_,?_,?_⟩⟩
   .show(S++[[own]])[((T.length:Nat):Int).toNat]?=_;rw[iZ,F,u0 (iw _)];simp
   .show 0<=a.1;omega
   .show [own][a.1.toNat]?=_;rw[y];simp;omega
  .rw[r0 e]at hs;obtain⟨u,i⟩:=h.aTS s r hs;refine⟨⟨u.1,by simp;omega⟩,λq=>?_⟩
   obtain⟨l,j,G,v⟩:=i q;exact⟨l,by rw[tJ (kB.1 j).1];exact j,G,v⟩
def SKs.opens(h:SKs T S Q)(d:S[x]?=some l)(pk:Int):SKs T (S.set x (l++[(Q.length:Int)])) (Q++[((x:Int),(l.length:Int),pk)]):=by
 have f:=(kB.1 d).1;have hq:∀{s:Nat} {p},Q[s]?=some p->(Q++[((x:Int),(l.length:Int),pk)])[s]?=some p:=fun{s p} hs=>by
  rw[tJ (kB.1 hs).1];exact hs
 refine⟨h.t,by rw[h.n];simp,λy m b k s a=>?_,?_,λs p hs=>?_⟩
 .have hold:∀m,S[y]?=some m->m[k]?=some s->0<=s/\∃p,(Q++[((x:Int),(l.length:Int),pk)])[s.toNat]?=some p/\p.1=y/\p.2.1=k:=λm b a=>by
   obtain⟨g,p,r,h2⟩:=h.own y m b k s a;exact⟨g,p,hq r,h2⟩
  rw[List.getElem?_set]at b;split at b
  .rename_i e;subst e;try rw[if_pos f]at b
   obtain rfl:=Option.some.inj b;by_cases u:k<l.length
   .rw[tJ u]at a;exact hold l d a
   .rw[u0 af]at a;have e:k - l.length=0:=by
     have:=(kB.1 a).1;simp at this;omega
    rw[e]at a;simp at a;subst a;refine⟨af,_,by rw[iZ,u0 (iw _)];simp;rfl,rfl,?_⟩
    show((l.length:Nat):Int)=k;omega
  .exact hold m b a
 .obtain⟨a',g⟩:=h.q0;exact⟨a',hq g⟩
 .by_cases i:s<Q.length
  .rw[tJ i]at hs;obtain⟨v,z⟩:=h.aTS s p hs;refine⟨by simpa using v,λq=>?_⟩
   obtain⟨m,j,o,c⟩:=z q;by_cases e:x=p.1.toNat
   .subst e;rw[d]at j;obtain rfl:=Option.some.inj j;exact⟨_,uO f,o,by rw[tJ (kB.1 c).1];exact c⟩
   .exact⟨m,by rw[r0 e];exact j,o,c⟩
  .rw[u0 af]at hs;have e:s - Q.length=0:=by
    have:=(kB.1 hs).1;simp at this;omega
   rw[e]at hs;simp at hs;subst hs;refine⟨⟨by show(-2:Int)<=x;omega,by simp;omega⟩,λ_=>⟨_,by show(S.set x _)[((x:Nat):Int).toNat]?=_;rw[iZ];exact uO f,by show(0:Int)<=(l.length:Nat);omega,?_⟩⟩
   show(l++[(Q.length:Int)])[((l.length:Nat):Int).toNat]?=_;rw[iZ,u0 (iw _)];simp;omega
theorem SKs.aHh(h:SKs T S Q){o:List Int}(f:o.Nodup)(b:∀x∈o,0<=x):(o.flatMap λx=>(S[x.toNat]?).getD []).Nodup/\∀s∈o.flatMap λx=>(S[x.toNat]?).getD [],0<=s/\∃p,Q[s.toNat]?=some p/\p.1∈o:=by
 have a:∀x:Int,0<=x->∀s∈(S[x.toNat]?).getD [],0<=s/\∃p,Q[s.toNat]?=some p/\p.1=x/\((S[x.toNat]?).getD [])[p.2.1.toNat]?=some s/\0<=p.2.1:=by
  intro x g s hs;cases hS:S[x.toNat]? with
  |none=>rw[hS]at hs;cases hs
  |some l=>
   rw[hS]at hs;obtain⟨k,m⟩:=List.getElem?_of_mem hs;obtain⟨A,p,B,h2,C⟩:=h.own _ l hS k s m;grind
 constructor
 .induction o with
  |nil=>simp
  |cons x o ih=>
   rw[List.flatMap_cons,List.nodup_append];have n:=List.nodup_cons.1 f;refine⟨?_,ih n.2 λy c=>b y (by simp[c]),λs hs s' hs' e=>?_⟩
   .rw[List.nodup_iff_pairwise_ne,List.pairwise_iff_getElem];intro i j hi d q e;have g:=b x bf;cases hS:S[x.toNat]? with
    |none=>simp[hS]at hi
    |some l=>
     simp[hS,Option.getD_some]at hi d e;obtain⟨_,p,r,_,t⟩:=h.own _ l hS i _ (iH hi);obtain⟨_,u,v,_,z⟩:=h.own _ l hS j _ (iH d);grind
   .subst e;obtain⟨_,p,r,t,_⟩:=a x (b x bf) s hs;obtain⟨y,c,hs'⟩:=List.mem_flatMap.1 hs';obtain⟨_,u,v,z,_⟩:=a y (b y (by simp[c])) s hs'
    grind
 .grind
def ake:∀(o:List (Int×Int)) (j:Nat) (a:List Int) (x:Nat),(∀p∈o,p.1.toNat≠x)->(ahL j o a)[x]?=a[x]?
 |[],_,_,_,_=>rfl
 |p::o,j,a,x,h=>by
  rw[ahL,ake o _ _ x λq hq=>h q (by simp[hq]),r0 (h p bf)]
def apF:∀(o:List (Int×Int)) (j:Nat) (a:List Int),(o.map λp=>p.1.toNat).Nodup->(∀p∈o,p.1.toNat<a.length)->∀(i:Nat) (p:Int×Int),o[i]?=some p->(ahL j o a)[p.1.toNat]?=some ((j+i:Nat):Int)
 |[],_,_,_,_,_,_,hp=>by simp at hp
 |q::o,j,a,hn,hr,i,p,hp=>by
  rw[List.map_cons,List.nodup_cons]at hn;rw[ahL];cases i with
  |zero=>
   simp at hp;subst hp;rw[ake o _ _ _ λr b e=>hn.1 (List.mem_map.2 ⟨r,b,e⟩),uO (hr q bf)];simp
  |succ i=>
   rw[apF o (j+1) _ hn.2 (λr b=>gq (hr r (by simp[b]))) i p (gq hp)]
   congr 1;omega
theorem aey:∀(o:List (Int×Int)) (j:Nat) (a:List Int),∀x∈ahL j o a,x∈a\/((j:Int)<=x/\x<(j+o.length:Nat))
 |[],_,_,x,h=> .inl h
 |p::o,j,a,x,h=>by
  rw[ahL]at h;rcases aey o (j+1) _ x h with h|h
  iterate 2 grind
def O9(G:Gl)(s:Int):Pl:=G.P.getD s.toNat (0,0,0,false)
def awk(G:Gl)(o:List (Int×Int)):Prop:=∀s∈da G o,(0<=s/\s<G.C.length)/\(O9 G s).1<G.ts.length
def plq(p:Pl):Int×Int×Int:=(p.1,p.2.1,p.2.2.1)
def aUu(G:Gl):Prop:=SKs G.T (G.ts.map λt=>t.scopes) (G.P.map plq)
structure SKI (G:Gl) (Ws:List Wk):Prop where
 sk:aUu G
 fk:∀(i:Nat) W,Ws[i]?=some W->W.cT= .m .xo->0<=W.own/\∃b,(G.P.map plq)[W.own.toNat]?=some (-2,b)
 aUv:∀(i j:Nat) Wi Wj,Ws[i]?=some Wi->Ws[j]?=some Wj->Wi.cT= .m .xo->Wj.cT= .m .xo->Wi.own=Wj.own->i=j
variable{α β:Type}{a:α}
theorem adD{f:α->β}{l:List α}(h:∀b,l[x]?=some b->f a=f b):(l.set x a).map f=l.map f:=by
 apply List.ext_getElem?;grind
variable{t':Tk}
def adQ(h:t'.scopes=(G.tk x).scopes):(G.ts.set x t').map (λt=>t.scopes)=G.ts.map λt=>t.scopes:=adD λb hb=>by rw[h];unfold Gl.tk;rw[hb];rfl
def aio(i:Int)(Q:List Pl):(Cq Q i).map plq=Q.map plq:=by
 unfold Cq;split
 .rename_i p a;exact adD λb hb=>by rw[a]at hb;obtain rfl:=Option.some.inj hb;rfl
 .rfl
def aTO.sm(h:aTO P G t t'):Sm t t'/\t'.cJ=t.cJ/\t'.scopes=t.scopes/\t'.gL=t.gL:=by
 cases h<;>exact⟨⟨rfl,rfl,rfl,rfl⟩,rfl,rfl,rfl⟩
def SKI.keep(h:SKI G Ws)(hi:Ws[i]?=some W)(p:G'.T=G.T)(hs:G'.ts.map (λt=>t.scopes)=G.ts.map λt=>t.scopes)(n:G'.P.map plq=G.P.map plq)(o:W'.cT= .m .xo->W.cT= .m .xo/\W'.own=W.own):SKI G' (Ws.set i W'):=by
 have d:=(kB.1 hi).1;have key:∀(j:Nat) (Wj:Wk),(Ws.set i W')[j]?=some Wj->Wj.cT= .m .xo->∃a:Wk,Ws[j]?=some a/\a.cT= .m .xo/\Wj.own=a.own:=λj Wj b c=>by
  by_cases e:i=j
  .subst e;rw[uO d]at b;obtain rfl:=Option.some.inj b;exact⟨W,hi,(o c).1,(o c).2⟩
  .rw[r0 e]at b;exact⟨Wj,b,c,rfl⟩
 refine⟨by unfold aUu;rw[p,hs,n];exact h.sk,λj Wj b c=>?_,λj m Wj f b q c r s=>?_⟩
 .obtain⟨a,g,h2,k⟩:=key j Wj b c;rw[k,n];exact h.fk j a g h2
 .obtain⟨a,g,h2,k⟩:=key j Wj b c;obtain⟨l,u,v,x⟩:=key m f q r;exact h.aUv j m a l g u h2 v (by rw[<-k,<-x,s])
variable{l:Lc}
variable{yr:Lc}
def SKI.step(h:SKI G Ws)(B:IV l P bw ro G Ws)(hi:Ws[i]?=some W)(s:G.err=0):SKI (ZB l P G W bw).1 (Ws.set i (ZB l P G W bw).2):=by
 have c:=B.cx hi s;have hs:Stp l P ro G W (ZB l P G W bw).1 (ZB l P G W bw).2:=aib c B.fr;have n:=(kB.1 hi).1;have K:(G.P.map plq).length=G.C.length:=by rw[List.length_map];exact B.ty.pl
 generalize (ZB l P G W bw).1=G1,(ZB l P G W bw).2=W1 at hs ⊢;have F:W.stack≠ []->W.tp<G.ts.length:=λq=>(c.top q).2;cases hs with
 |quiet q k _ _=>exact h.keep hi rfl rfl rfl λe=>absurd e k.m.2.1
 |fail q s k o=>exact h.keep hi rfl rfl rfl λe=>⟨by rw[<-k.2.2.1];exact e,k.2.2.2.2⟩
 |jq hd y=>exact h.keep hi rfl rfl rfl λe=>by simp at e
 |start hd k=>exact h.keep hi rfl (adQ rfl) rfl λe=>by rw[k.2.2]at e;simp at e
 |aeR ne r lt hn q k _=>exact h.keep hi rfl (adQ hn.sm.2.2.1) rfl λe=>absurd e k.m.2.1
 |ends ne hc q k _=>exact h.keep hi rfl (adQ rfl) rfl λe=>absurd e k.m.2.1
 |tF ne hd r=>exact h.keep hi rfl rfl rfl λe=>by simp[Wk.A6]at e
 |gL ne hd r h12 lt=>exact h.keep hi rfl (adQ rfl) (aio _ _) λe=>by simp[Wk.go]at e
 |cancel ne hd r O lt=>exact h.keep hi rfl (adQ rfl) rfl λe=>by simp[Wk.JF]at e
 |unwind ne hd e ho k hu hw=>exact h.keep hi rfl (adQ rfl) (aio _ _) λe=>absurd e k.m.2.1
 |put ne hd e ho k4=>exact h.keep hi rfl rfl rfl λe=>by simp[Wk.go]at e
 |fin ne hd e ho=>exact h.keep hi rfl rfl rfl λe=>by simp[Wk.go]at e
 |asks ne hd=>exact h.keep hi rfl rfl rfl λe=>by simp at e
 |gone ne hd e ho k hw=>exact h.keep hi rfl rfl rfl λe=>absurd e k.2.2.2.1
 |fork ne hd r h8 rm=>
  have Q:∀{z:Nat} {q},(G.P.map plq)[z]?=some q->((G.P++[(-2,0,0,false)]).map plq)[z]?=some q:=fun{z q} hz=>by
   rw[List.map_append,tJ (kB.1 hz).1];exact hz
  have hold:∀(j:Nat) (Wj:Wk),Ws[j]?=some Wj->Wj.cT= .m .xo->0<=Wj.own/\Wj.own<(G.C.length:Nat):=λj Wj d f=>by
   obtain⟨y,b,hb⟩:=h.fk j Wj d f;have:=(kB.1 hb).1;rw[K]at this;omega
  refine⟨?_,λj Wj d f=>?_,λj m Wj g d u f v s=>?_⟩
  .show SKs G.T _ ((G.P++[(-2,0,0,false)]).map plq);rw[List.map_append];exact h.sk.fork (0,0)
  .by_cases e:i=j
   .subst e;rw[uO n]at d;obtain rfl:=Option.some.inj d;refine⟨by show(0:Int)<=(G.C.length:Nat);omega,(0,0),?_⟩
    show((G.P++[(-2,0,0,false)]).map plq)[((G.C.length:Nat):Int).toNat]?=_;rw[iZ,List.map_append,u0 af,K];simp[plq]
   .rw[r0 e]at d;obtain⟨y,b,hb⟩:=h.fk j Wj d f;exact⟨y,b,Q hb⟩
  .by_cases e:i=j
   .subst e;by_cases e2:i=m
    .exact e2
    .rw[uO n]at d;rw[r0 e2]at u;obtain rfl:=Option.some.inj d;have:=hold m g u v;have s:((G.C.length:Nat):Int)=g.own:=s;omega
   .rw[r0 e]at d;by_cases e2:i=m
    .subst e2;rw[uO n]at u;obtain rfl:=Option.some.inj u;have:=hold j Wj d f;have s:Wj.own=((G.C.length:Nat):Int):=s;omega
    .rw[r0 e2]at u;exact h.aUv j m Wj g d u f v s
 |xo ne hd r h8 lt rm=>
  have D:=F ne;obtain⟨y,b,hb⟩:=h.fk i W hi hd;have J:=(B.ty.qh D).id;have R:=B.ty.kl;have x:∀{z:List Pl},(z.set W.own.toNat ((G.T.length:Nat),0,0,false)).map plq=(z.map plq).set W.own.toNat ((G.T.length:Nat),0,0):=fun{z}=>by rw[List.map_set];rfl
  refine⟨?_,λj Wj d f=>?_,λj m Wj g d u f v s=>?_⟩
  .have S:=SKs.more (p:=(G.tk W.tp).id) (own:=W.own) (a:=(0,0)) h.sk (by rw[J];omega) (by rw[J];omega) y hb rfl
   show SKs (Hz G.T (G.tk W.tp).id) (List.map _ ((G.ts++[_]).set W.tp _)) ((G.P.set W.own.toNat ((G.T.length:Nat),0,0,false)).map plq);rw[x];have e:List.map (λt:Tk=>t.scopes) ((G.ts++[aDY P G W]).set W.tp (aD2 P G W))=G.ts.map (λt=>t.scopes)++[[W.own]]:=by
    rw[adD]
    .rw[List.map_append];rfl
    .intro q hq;rw[tJ D,G.xw D]at hq;obtain rfl:=Option.some.inj hq;rfl
   rw[e];exact S
  .have H:i≠j:=λe=>by
    subst e;rw[uO n]at d;obtain rfl:=Option.some.inj d;simp at f
   rw[r0 H]at d;obtain⟨L,U,M⟩:=h.fk j Wj d f;refine⟨L,U,?_⟩;show((G.P.set W.own.toNat _).map plq)[Wj.own.toNat]?=_;rw[x,r0]
   .exact M
   .intro e;exact H (h.aUv i j W Wj hi d hd f af)
  .have I:∀(q:Nat) (Wq:Wk),(Ws.set i {W with jq:=(G.ts.length:Nat),cT:= .m .tF})[q]?=some Wq->Wq.cT= .m .xo->Ws[q]?=some Wq:=λq Wq hq f=>by
    by_cases e:i=q
    .subst e;rw[uO n]at hq;obtain rfl:=Option.some.inj hq;simp at f
    .rwa[r0 e]at hq
   exact h.aUv j m Wj g (I j Wj d f) (I m g u v) f v s
 |opens ne hd r h11 lt rm V=>
  have D:=F ne;have J:=(B.ty.qh D).id;have A:∀(j:Nat) (Wj:Wk),(Ws.set i (W.go .next))[j]?=some Wj->Wj.cT= .m .xo->Ws[j]?=some Wj:=λq Wq hq f=>by
   by_cases e:i=q
   .subst e;rw[uO n]at hq;obtain rfl:=Option.some.inj hq;simp[Wk.go]at f
   .rwa[r0 e]at hq
  have N:(aok P G W).ts.map (λt=>t.scopes)=(G.ts.map λt=>t.scopes).set W.tp ((G.tk W.tp).scopes++[(G.C.length:Int)]):=by
   show(G.ts.set _ _).map _=_;rw[List.map_set]
  refine⟨?_,λj Wj d f=>?_,λj m Wj g d u f v s=>h.aUv j m Wj g (A j Wj d f) (A m g u v) f v s⟩
  .show SKs G.T ((aok P G W).ts.map _) ((G.P++[_]).map plq);rw[N,List.map_append];have X:(G.ts.map λt=>t.scopes)[W.tp]?=some (G.tk W.tp).scopes:=by rw[l8,G.xw D];rfl
   have:=h.sk.opens X (G.pk (G.tk W.tp).kA.1);rw[K]at this;show SKs _ _ (_++[plq _]);unfold plq;dsimp only;rw[J];exact this
  .obtain⟨y,b,hb⟩:=h.fk j Wj (A j Wj d f) f;refine⟨y,b,?_⟩;show((G.P++[_]).map plq)[_]?=_;rw[List.map_append,tJ (kB.1 hb).1];exact hb
def onF(l:Lc)(G:Gl)(W:Wk):Bool:=tD (l.sp.bits G.M) W.id
def Ce(r:List Int)(W:Wk):List Int:=W.stack.reverse.map λx=>r.getD x 0
def JT(G:Gl)(r:List Int)(W:Wk):List Int:=(G.M.list W.dq).map λx=>r.getD x.toNat 0
abbrev aUA:=Wk×(Sl×Sl)
def tQ(l:Lc)(G:Gl)(z:aUA):List Value:=[.bool (onF l G z.1),.bool (z.1.wait.parked G.M l.told),S_ z.2.1,S_ z.2.2]
def Iq(G:Gl)(r:List Int)(z:aUA):HP:=l9 [bG 1 z.2.1 (ints (Ce r z.1)),bG 1 z.2.2 (ints (JT G r z.1))]
def aFs:ET Tryz.prog 67 4 56 (.agg #[.bool false,.bool false,.slice none 0 0,.slice none 0 0]):=⟨aZ,aZ⟩
variable{l:List α}
theorem KK.get{P:α->β->Prop}{m:List β}(h:KK P l m):∀{i:Nat} {a:α},l[i]?=some a->∃b,m[i]?=some b/\P a b:=by
 induction h with
 |nil=>intro i a hi;simp at hi
 |cons h1 _ ih=>
  grind
theorem azC(h:l[i]?=some a):l.set i a=l:=by
 apply List.ext_getElem?;grind
def awm(G:Gl)(W:Wk):Prop:=sy (G.M.k8 W.dq)/\sy (G.M.k8 (W.dq+1))/\xH W.dq/\(∀x∈G.M.list W.dq,0<=x/\x<G.ts.length)/\(G.M.list W.dq).length<=100000
abbrev WrB(l:Lc)(aa:List Nat)(G:Gl)(sp st sw:Sl)(gw:Nat)(q:Wq)(W:Wk)(os:List (Nat×Wk))(sr:Sl)(zs:List aUA)(r:List Int)(s1:Sl)(R:List HP):List HP:=
 au gw (W.cs l q)::au q.gwt (W.wait.cells l.told)::bG 1 q.ss q.qw.reverse::bG 1 q.sb q.y6.reverse::bG 1 q.sl (ints W.left)::l6 (uh q.go) W.op::l6 (λk:Lk=>au q.gl (k.cells l.gc)) W.look::l6 (λo:jH=>au q.gp (o.cells l.sp q.gp)) W.step::fz q.B::jO (pH l aa) os::rws 4 sr (zs.map (tQ l G))::jO (Iq G r) zs::SL l aa G (bG 1 s1 (ints r)::R) sp st sw
def azD{c:Int->Prop}(h:St w0 w L)[a1:At L (LA aa) G.ts f](b:aa[x]?=some i)(d:G.ts[x]?=some t)(e:c t.id):aJ .i64 w (aY ⟨i,0,none⟩ 0) c:=by
 obtain⟨R,g,_⟩:=a1.out;obtain⟨so,sc,h2⟩:=sv (g h) b d;exact aI h2 vM e
variable{l:Lc}
def amu{k:Sl->ap}(av7:l.deep<=1000000)(t:IV l P bw ro G Ws)(ho:SM G o)(hd:∀W∈Ws,awm G W)(h:qK w0 w l aa G Ws R)
  (hk:∀s zs w',zs.map (λz:aUA=>z.1)=Ws->qK w0 w' l aa G Ws (rws 4 s (zs.map (tQ l G))::jO (Iq G (cq G o)) zs::R)->k s w'):jB (some ⟨l.gs,0,none⟩) w k:=by
 have hcap:=t.ty.cap;have hwn:=t.wn;have O:=t.lc;have awg:=O.w16;obtain⟨sp,st,sw,h⟩:=rO h;have hla:=KI (h.front 9 rfl);have hn5:=qY (s:=sw) (vs:=l.wa.map pt) h;rw[List.length_map]at hn5;unfold jB xk;refine aU rfl ?_;refine ahM h ho af λs1 w h hlen=>?_;have h:=h.bk 10;refine cX ?_;have h:St w0 w (rws 4 ⟨none,0,0⟩ (([]:List aUA).map (tQ l G))::jO (Iq G (cq G o)) []::_):=St.YA (by intro e he;cases he) ((QW h).DJ 4)
 refine DN (G:=Nat×List aUA) (λq x w=>x.2=(q.1:Int)/\q.1<=Ws.length/\q.2.map (λz:aUA=>z.1)=Ws.take q.1/\St w0 w (rws 4 x.1 (q.2.map (tQ l G))::jO (Iq G (cq G o)) q.2::SL l aa G (bG 1 s1 (ints (cq G o))::jO (pH l aa) (l.wa.zip Ws)::R) sp st sw)) (λq=>Ws.length - q.1) (g:=(0,[])) ⟨rfl,af,rfl,h⟩ ?_;clear h;rintro⟨j,zs⟩ ⟨B,i⟩ w ⟨hi,hj,Q,h⟩ C S;dsimp only at hi Q h hj ⊢;subst hi;by_cases b:j<Ws.length
 .refine bK (by simp;omega) ?_
  obtain⟨gw,T⟩:∃g,l.wa[j]?=some g:=⟨_,iH af⟩;have U:Ws[j]?=some (Ws[j]'b):=iH b;generalize hWe:Ws[j]'b=W at U;have D:(l.wa.zip Ws)[j]?=some (gw,W):=by rw[List.getElem?_zip_eq_some];exact⟨T,U⟩
  have V:=t.w j W U;have X:=hd W (qn U);refine vP (s:=sw) (vs:=l.wa.map pt) h af (x:=A_ gw) (by rw[iZ,l8,T];rfl) ?_
  have h:=h.fr 13;have h:=BW h D;obtain⟨q,hq,h⟩:=X2 h;refine bP (fun(ad:Addr) w=> ∃g,ad=⟨g,0,none⟩/\St w0 w (au g [.bool (onF l G W),.bool (W.wait.parked G.M l.told),.slice none 0 0,.slice none 0 0]::WrB l aa G sp st sw gw q W ((l.wa.zip Ws).eraseIdx j) B zs (cq G o) s1 R)) (λJ Y=>?_) ?_
  .have hgs:G.M.given (l.sp.at_+1)=true:=t.ty.OI.given t.ty.len;have hgt:G.M.given l.told=true:=t.ty.told.given t.ty.len;have hsp:∀{w:World} {L:List HP} {f:HP->List HP} (h:St w0 w L) [a:At L (bH l.gm) G.M f] (c:Bool->ap),(∀w',St w0 w' L->c (onF l G W) w')->dA (List.take 3 (List.drop (0+14) (l.cs sp st sw G.steps G.err))).toArray (some ⟨l.gm,0,none⟩) W.id w c:=λh _ c hc=>anu (M:=G.M) (s:=l.sp) h O.sp t.ty.ok hgs hc;with_reducible repeat' (first|refine bc ?_|refine cH h λw h=>?_|refine Tn h ?_|refine Iy h ?_|refine QT h ?_|refine QU h λw h=>?_|refine aM h λgx w h=>?_|refine nP h ?_|refine y8 ?_ ?_|refine hsp h _ λw h=>?_|refine acG (M:=G.M) (x:=W.wait) h hgt λw h=>?_|fail)
   all_goals exact Y _ _ ⟨_,rfl,h⟩
  clear h;rintro _ w ⟨g,rfl,h⟩;generalize Dz:onF l G W=m at h;generalize hpk:W.wait.parked G.M l.told=r at h;have vE:=qY (s:=q.ss) (vs:=q.qw.reverse) h;rw[List.length_reverse,<-hq.qw.len]at vE;have hdp:=V.dp;have u:∀x:Nat,x<G.ts.length->(ints (cq G o))[((x:Nat):Int).toNat]?=some (I_ ((cq G o).getD x 0)):=λx I=>by
   rw[iZ];unfold ints;rw[l8,m0,iH af];rfl
  refine cX ?_;refine bP (λ_ w=> ∃s2:Sl,St w0 w (au g [.bool m,.bool r,S_ s2,.slice none 0 0]::bG 1 s2 (ints (Ce (cq G o) W))::WrB l aa G sp st sw gw q W ((l.wa.zip Ws).eraseIdx j) B zs (cq G o) s1 R)) (λJ Y=>?_) ?_
  .have h:=(h.DJ 1).bk 1;refine DN (G:=Nat×Sl) (λp x w=>x=(p.1:Int)/\p.1<=W.stack.length/\p.2.n=p.1/\St w0 w (au g [.bool m,.bool r,S_ p.2,.slice none 0 0]::bG 1 p.2 (ints ((Ce (cq G o) W).take p.1))::WrB l aa G sp st sw gw q W ((l.wa.zip Ws).eraseIdx j) B zs (cq G o) s1 R)) (λp=>W.stack.length - p.1) (g:=(0,⟨none,0,0⟩)) ⟨rfl,af,rfl,h⟩ ?_;clear h;rintro⟨i,s2⟩ x w ⟨I,hi,CD,h⟩ C S;dsimp only at I hi h CD ⊢;subst I;by_cases b:i<W.stack.length
   .refine bK (by simp;omega) ?_
    obtain⟨y,K⟩:∃y,W.stack.reverse[i]?=some y:=⟨_,iH (by simpa using b)⟩
    have F:=K;rw[List.getElem?_reverse b]at F;obtain⟨v,hv,a,ha,rfl⟩:=hq.qw.get F;have hv2:q.qw.reverse[i]?=some (pt a):=by rw[List.getElem?_reverse (by rw[<-hq.qw.len];exact b),<-hq.qw.len];exact hv
    have hym:y∈W.stack:=qn F;have DK:=V.hl y (by unfold Wk.hold;split<;>simp[hym])
    have hty:=t.ty.tk y _ (G.xw DK);refine vP (s:=q.ss) (vs:=q.qw.reverse) h af (x:=A_ a) (by rw[iZ];exact hv2) ?_
    with_reducible repeat' (first|refine bc ?_|refine cH h λw h=>?_|refine u_S h ?_|refine azD h ha (G.xw DK) ?_|fail)
    rw[hty.id];refine vI (s:=s1) (vs:=ints (cq G o)) h af (u y DK) ?_;refine vO λgx w h=>?_;obtain⟨gn,Z⟩:∃n,n=gx:=⟨_,rfl⟩;subst Z;have Y8:((Ce (cq G o) W).take i).length=i:=by rw[List.length_take];simp[Ce];omega
    have H:(Ce (cq G o) W)[i]?=some ((cq G o).getD y 0):=by unfold Ce;rw[l8,K];rfl
    have h16:l.deep<=1000000:=av7;refine I9 (s:=s2) (vs:=ints ((Ce (cq G o) W).take i)) h an0 aZ rfl (by simp only[ints,List.length_map,Y8];omega) af λs3 w h N=>?_
    simp only[ints,List.length_map,Y8]at N;refine dZ λw h=>?_;have h:=h.zm 0;refine S (i+1,s3) _ _ ⟨?_,af,N,?_⟩ (by simp only;omega)
    .rw[kg ⟨af,af⟩];simp only;omega
    .have e:ints ((Ce (cq G o) W).take (i+1))=ints ((Ce (cq G o) W).take i)++[I_ ((cq G o).getD y 0)]:=by rw[List.take_add_one,H];simp[ints]
     rw[e];exact h
   .refine aU (by simp;omega) ?_
    have e:(Ce (cq G o) W).take i=Ce (cq G o) W:=List.take_of_length_le (by simp[Ce];omega)
    rw[e]at h;exact Y _ _ ⟨_,h⟩
  clear h;rintro _ w ⟨s2,h⟩;refine dZ λw h=>?_;have h:=h.fr 15;refine axO (M:=G.M) (at_:=W.dq) (most:=l.log) X.2.2.1 h X.1 X.2.1 λs4 w h=>?_;have h:=h.fr 1;have h:=h.bk 16;have h:=h.bk 1;have h4n:=qY (s:=s4) (vs:=ints (G.M.list W.dq)) h;simp only[ints,List.length_map]at h4n;have hl4:(G.M.list W.dq).length<=100000:=X.2.2.2.2;refine bP (λ_ w=> ∃d:Sl,St w0 w (au g [.bool m,.bool r,S_ s2,S_ d]::bG 1 d (ints (JT G (cq G o) W))::bG 1 s4 (ints (G.M.list W.dq))::bG 1 s2 (ints (Ce (cq G o) W))::WrB l aa G sp st sw gw q W ((l.wa.zip Ws).eraseIdx j) B zs (cq G o) s1 R)) (λJ Y=>?_) ?_
  .have h:=(h.DJ 1).bk 1;refine DN (G:=Nat×Sl) (λp x w=>x=(p.1:Int)/\p.1<=(G.M.list W.dq).length/\p.2.n=p.1/\St w0 w (au g [.bool m,.bool r,S_ s2,S_ p.2]::bG 1 p.2 (ints ((JT G (cq G o) W).take p.1))::bG 1 s4 (ints (G.M.list W.dq))::bG 1 s2 (ints (Ce (cq G o) W))::WrB l aa G sp st sw gw q W ((l.wa.zip Ws).eraseIdx j) B zs (cq G o) s1 R)) (λp=>(G.M.list W.dq).length - p.1) (g:=(0,⟨none,0,0⟩)) ⟨rfl,af,rfl,h⟩ ?_;clear h;rintro⟨i,d⟩ x w ⟨I,hi,CD,h⟩ C S;dsimp only at I hi h CD ⊢;subst I;by_cases b:i<(G.M.list W.dq).length
   .refine bK (by simp;omega) ?_
    obtain⟨y,K⟩:∃y,(G.M.list W.dq)[i]?=some y:=⟨_,iH b⟩;have aFt:=X.2.2.2.1 y (qn K);have hr2:=u y.toNat af;rw[iZ]at hr2;refine vI (s:=s4) (vs:=ints (G.M.list W.dq)) h af (x:=y) (by rw[iZ];unfold ints;rw[l8,K];rfl) ?_
    refine dZ λw h=>?_;refine vI (s:=s1) (vs:=ints (cq G o)) h aFt.1 hr2 ?_;refine vO λgx w h=>?_;obtain⟨gn,Z⟩:∃n,n=gx:=⟨_,rfl⟩;subst Z;have Y8:((JT G (cq G o) W).take i).length=i:=by rw[List.length_take];simp[JT];omega
    have H:(JT G (cq G o) W)[i]?=some ((cq G o).getD y.toNat 0):=by unfold JT;rw[l8,K];rfl
    refine I9 (s:=d) (vs:=ints ((JT G (cq G o) W).take i)) h an0 aZ rfl (by simp only[ints,List.length_map,Y8];omega) af λs3 w h N=>?_
    simp only[ints,List.length_map,Y8]at N;refine dZ λw h=>?_;have h:=h.zm 0;refine S (i+1,s3) _ _ ⟨?_,af,N,?_⟩ (by simp only;omega)
    .rw[kg ⟨af,af⟩];simp only;omega
    .have e:ints ((JT G (cq G o) W).take (i+1))=ints ((JT G (cq G o) W).take i)++[I_ ((cq G o).getD y.toNat 0)]:=by rw[List.take_add_one,H];simp[ints]
     rw[e];exact h
   .refine aU (by simp;omega) ?_
    have e:(JT G (cq G o) W).take i=JT G (cq G o) W:=List.take_of_length_le (by simp[JT];omega)
    rw[e]at h;exact Y _ _ ⟨_,h⟩
  clear h;rintro _ w ⟨d,h⟩;refine cX ?_;refine Jw rfl rfl ?_;refine vO λgx w h=>?_;obtain⟨gn,Z⟩:∃n,n=gx:=⟨_,rfl⟩;subst Z;have hln:=pg (sz:=4) (s:=B) (es:=zs.map (tQ l G)) h;have hzl:zs.length=j:=by
   have:=congrArg List.length Q;rw[List.length_map,List.length_take]at this;omega
  have he:tQ l G (W,s2,d)=[.bool m,.bool r,S_ s2,S_ d]:=by unfold tQ;rw[Dz,hpk]
  refine Z8 (sz:=4) (s:=B) (es:=zs.map (tQ l G)) (e:=[.bool m,.bool r,S_ s2,S_ d]) h aFs aZ rfl af (by simp[Value.oneCell']) (by simp;omega) af λs' w h N=>?_
  rw[<-he]at h;have h:=h.zm 0;have h:=h.zm 0;have h:=h.zm 1;have h:=h.fr 1;have h:St w0 w (Iq G (cq G o) (W,s2,d)::_):=St.shut (A:=[bG 1 s2 (ints (Ce (cq G o) W)),bG 1 d (ints (JT G (cq G o) W))]) h;have h:=h.fr 12;have h:=h.bk 1;have h:=QV h;have h:=h.bk 11;have h:=ac8 hq h;have h:=WY h (kB.1 D).1;rw[azC D]at h;have h:=h.bk 13;refine S (j+1,zs++[(W,s2,d)]) _ _ ⟨?_,af,?_,?_⟩ (by simp only;omega)
  .rw[kg ⟨af,af⟩];simp only;omega
  .rw[List.map_append,Q,List.take_add_one,U];rfl
  .rw[List.map_append];exact h
 .refine aU (by simp;omega) ?_
  have e:Ws.take j=Ws:=List.take_of_length_le af;rw[e]at Q;have h:=h.zm 12;have h:=h.bk 12;have h:=h.bk 12;exact hk _ _ _ Q (pE h)
open Ck (oW qx my tj Su qf mZ Few)
def one_le(b:m.OK):m.one<=7:=by
 have a:=b.log;unfold Lm.one Lm.lg EX;have:∀x:Int,0<=x->x<=8->(3:Int)+2 ^ (if x<2 then x else 2).toNat<=7:=by
  intro x c d;rcases (by omega:x=0\/x=1\/2<=x)with rfl|rfl|h
  iterate 2 decide
  .rw[if_neg af];decide
 exact this _ a.1 a.2
def aqL:∀n,n<17->∀i,i<64->tD (2 ^ n - 1) ((i:Nat):Int)=decide (i<n):=by decide+kernel
def aqM:∀n,n<17->aF .i64 (sD .i64 1 ((n:Nat):Int) - 1)=2 ^ n - 1:=by decide+kernel
theorem aqN(a:n<=16)(i:Int):tD (2 ^ n - 1) i=decide (0<=i/\i<n):=by
 by_cases h:0<=i/\i<64
 .obtain⟨j,rfl⟩:∃j:Nat,i=j:=⟨i.toNat,af⟩;rw[aqL n af j af];grind
 .rw[decide_eq_false af];unfold tD;rw[if_neg (gq h)]
def afM(l:Lc)(G:Gl)(i:Int):Int:=if 0<=i/\i<l.wa.length then G.M.steps.getD i.toNat 0 else 0
def amv{i:Int}(f:IV l P bw ro G Ws)(h:qK w0 w l aa G Ws R)(c:∀w',qK w0 w' l aa G Ws R->k (afM l G i) w'):j9 (some ⟨l.gs,0,none⟩) i w k:=by
 have d:=f.lc.w16;obtain⟨sp,st,sw,h⟩:=rO h;have a:=qY (s:=sw) h;rw[List.length_map]at a;unfold j9 CY;refine bP (λb w=>b= !(decide (0<=i/\i<l.wa.length))/\St w0 w (SL l aa G (jO (pH l aa) (l.wa.zip Ws)::R) sp st sw)) (λJ g=>?_) ?_
 .refine aU rfl ?_;unfold nX;refine cX ?_;refine Gf af ?_;rw[a,aqM _ af];refine ag6 ?_;rw[aqN d];exact g _ _ ⟨rfl,h⟩
 clear h;rintro _ w ⟨rfl,h⟩;refine ax (λhb=>?_) λhb=>?_
 .have hb:¬(0<=i/\i<l.wa.length):=by simp at hb;omega
  have e:afM l G i=0:=if_neg hb;rw[e]at c;exact c _ (pE h)
 .have hb:0<=i/\i<l.wa.length:=by simpa using hb
  have e:afM l G i=G.M.steps.getD i.toNat 0:=if_pos hb;rw[e]at c;refine cX<|as6 h ?_;rw[if_pos (Ga f.ty.stp af af)];exact c _ (pE h)
variable{n:Int}
structure UZ (P:List dB) (b s lg:Int) (sc:Sl):Prop where
 Zs:Few P
 b1:1<=b
 s0:0<=s
 b8:b<=8
 s8:s<=8 - b
 l0:0<=lg
 l5:lg<=5
 n:sc.n<=300
 acc:Su (tj P)=[0,0,0]
abbrev U0(ps sc:Sl)(b s lg:Int):Array Value:=#[S_ ps,I_ b,I_ s,I_ lg,S_ sc]
abbrev MO(b s lg:Int):Lm:=⟨b,s,65536,1048576,1000,lg⟩
def UZ.ok(h:UZ P b s lg sc):(MO b s lg).OK:=by
 have a:=h.b1;have h2:=h.s0;have d:=h.b8;have e:=h.s8;have c:=h.l0;have f:=h.l5;exact⟨⟨a,by show b<=16;omega⟩,⟨h2,by show s<=16 - b;omega⟩,⟨by show(1:Int)<=65536;decide,by show(65536:Int)<=1048576;decide⟩,⟨by show(0:Int)<=1048576;decide,by show(1048576:Int)<=1048576;decide⟩,⟨by show(1:Int)<=1000;decide,by show(1000:Int)<=1000;decide⟩,⟨c,by show lg<=8;omega⟩⟩
def UZ.tot(h:UZ P b s lg sc):(MO b s lg).total<=(MO b s lg).cells:=by
 have a:=h.b1;have h2:=h.s0;have c:=h.b8;have d:=h.s8;have e:(MO b s lg).n<=8:=by unfold Lm.n;show(b+s).toNat<=8;omega
 have:=one_le h.ok;have f:((MO b s lg).n:Int)*(MO b s lg).one<=(MO b s lg).n*7:=Int.mul_le_mul_of_nonneg_left this af;unfold Lm.total;show _<=(65536:Int);omega
def azI{k:Bool->ap}(f:iA w0 ps P)(h:St w0 w L)(i:∀j w',St w0 w' L->(j=true->UZ P b s lg sc)->k j w'):lC (U0 ps sc b s lg) w k:=by
 unfold lC BO;refine aM h λg w h=>?_;have a:∀w',St w0 w' (au g (U0 ps sc b s lg).toList::L)->k false w':=λw' h=>i _ _ h.drop λq=>by cases q
 refine cX ?_;refine Ck.aBR (P:=P) (ps:=ps) (f.ext h.ext) λb1 w' d hb=>?_;have h:=h.on d.ext;clear d;refine ax (λm=>?_) λ_=>a _ h;refine cX ?_;refine ax (λc1=>?_) λ_=>a _ h;refine cX ?_;refine ax (λc2=>?_) λ_=>a _ h;refine cX ?_;refine ax (λc3=>?_) λ_=>a _ h;simp only[decide_eq_true_eq]at c1 c2 c3;refine cX ?_;rw[show aF .i64 (8 - b)=8 - b from dh ⟨af,af⟩];refine ax (λc4=>?_) λ_=>a _ h;refine cX ?_;refine ax (λl=>?_) λ_=>a _ h;refine cX ?_;refine ax (λc=>?_) λ_=>a _ h;refine cX ?_;refine ax (λe=>?_) λ_=>a _ h;simp only[decide_eq_true_eq]at c4 l c e;refine cX ?_;refine Ck.adg (P:=P) (ps:=ps) (f.ext h.ext) λw' d=>?_;have h:=h.on d.ext;refine i _ _ h.drop λq=>⟨hb m,c1,c2,c3,c4,l,c,af,by simpa using q⟩
def azJ{k:Array Value->ap}(h:St w0 w L)(a:∀w',St w0 w' L->k (lmA (MO b s lg)) w'):fL (U0 ps sc b s lg) w k:=by
 unfold fL sZ;refine aM h λg1 w h=>aM h λg3 w h=>?_;with_reducible repeat' (first|refine Iy h ?_|refine Vh h ?_|refine Hq h λw h=>?_|refine QU h λw h=>?_|refine aM h λgx w h=>?_|refine adM h λw h=>?_)
 exact a _ h.drop.drop.drop
theorem IV.aFv(b:IV l P bw ro G Ws)(j:W∈Ws):awm G W:=by
 obtain⟨i,hi⟩:=List.getElem?_of_mem j;have e:=b.w i W hi;have hd:ZH ro i W.dq:=by rw[e.dq];exact b.dq i e.lt
 have f:=b.ty.len;have pk:∀{a:Int} {r:Ro},k9 ro a r->G.M.k8 a=G.M.get a:=λh=>by unfold bJ.k8;rw[if_pos (h.given f)]
 have m:=b.ty.ring hd;have n:Rg.of (G.M.k8 (W.dq+2))=o6 G.M W.dq:=by rw[pk hd.Uw];rfl
 have o:=size_le (o6 G.M W.dq);have c:(G.M.list W.dq).length<=256/\∀x∈G.M.list W.dq,0<=x/\x<G.ts.length:=by
  unfold bJ.list;rw[n];split
  .rename_i h;refine⟨?_,λx d=>?_⟩
   .unfold bJ.Cn;grind
   .unfold bJ.Cn at d;obtain⟨k,_,rfl⟩:=List.mem_map.1 d;have g:=m.place (G.M.k8 W.dq+(k:Int));rw[pk g];exact b.ty.val _ _ g
  .exact⟨bf,λx d=>by cases d⟩
 have p:=b.ty.val _ _ hd.top;have h2:=b.ty.val _ _ hd.bot;refine⟨by rw[pk hd.top];exact p,by rw[pk hd.bot];exact h2,?_,c.2,af⟩
 have q:=hd.top.lt;have s:=hd.top.1;rw[f]at q;have:=b.ty.ok.fit;have:=b.ty.ok.size;exact⟨s,af⟩
variable{z:aUA}{zs:List aUA}
def aoh{r:List Int}(h:St w0 w L)[a:At L (jO (Iq G r)) zs f](c:zs[i]?=some z):z.2.1.n=(Ce r z.1).length/\z.2.2.n=(JT G r z.1).length:=by
 obtain⟨R,d,_⟩:=a.out;have e:St w0 w (jO (Iq G r) zs::R):=d h;have h2:St w0 w (bG 1 z.2.1 (ints (Ce r z.1))::bG 1 z.2.2 (ints (JT G r z.1))::jO (Iq G r) (zs.eraseIdx i)::R):=St.open (BW (X:=Iq G r) (l:=zs) (i:=i) (a:=z) e c);have b:=qY (s:=z.2.1) (vs:=ints (Ce r z.1)) h2;have e2:=qY (s:=z.2.2) (vs:=ints (JT G r z.1)) h2;simp only[ints,List.length_map]at b e2;exact⟨b,e2⟩
def ahN(m:Lm):(eY m).P=[(-1,0,0,false),(0,0,0,false)]:=by kernel_rfl
def aws(m:Lm):∃aUD,(eY m).tk 0=⟨0,0,1,aUD,Fr.nF,ByteArray.mk #[],[],[1],0,0⟩:=⟨_,rfl⟩
def aoi(m:Lm):(eY m).ts.length=1/\(eY m).C.length=2:=⟨rfl,rfl⟩
def l0(m:Lm):Lc:=gJ ⟨0,0,0,0,0,0,0⟩ ⟨none,0,0⟩ m []
def awt(m:Lm):Bool:=
 decide ((eY m).K 0=0)&&decide ((eY m).M.get ((eY m).nd 0).at_=0)&&decide ((eY m).M.get (((eY m).nd 0).at_+1)=1)&&decide ((eY m).M.get ((eY m).nd 1).at_=0)&&decide ((eY m).M.get (((eY m).nd 1).at_+1)=0)&& !Cs (eY m) (Bd m)&&decide ((eY m).err=0)&&decide ((eY m).steps=0)&&decide ((eY m).time.1=0)&&
 (List.range m.n).all λi=>decide ((eY m).M.steps.getD i 0=0)&&(onF (l0 m) (eY m) (Wa i (sC m i))==decide ((i:Int)<m.base))&& !((Wa i (sC m i)).wait.parked (eY m).M 0)&&decide ((eY m).M.list (sC m i)=if i=0 then [0]else [])
def aqP:((List.range 9).all λb:Nat=>(List.range 9).all λs:Nat=>(List.range 6).all λlg:Nat=>b==0||(decide (8<b+s)||awt (MO b s lg)))=true:=by kernel_rfl
theorem UZ.B7(h:UZ P b s lg sc):awt (MO b s lg)=true:=by
 have d:=h.b1;have h2:=h.s0;have e:=h.b8;have f:=h.s8;have g:=h.l0;have i:=h.l5;obtain⟨a,rfl⟩:∃n:Nat,b=n:=⟨b.toNat,af⟩;obtain⟨s',rfl⟩:∃n:Nat,s=n:=⟨s.toNat,af⟩;obtain⟨c,rfl⟩:∃n:Nat,lg=n:=⟨lg.toNat,af⟩;have:=aqP;rw[tL]at this;have:=this a (List.mem_range.2 af);rw[tL]at this;have:=this s' (List.mem_range.2 af);grind
structure akH (G:Gl) (o:List (Int×Int)):Prop where
 ok:SM G o
 nd:(o.map λp=>p.1).Nodup
 pr:∀p∈o,(0<=p.1/\p.1<G.ts.length)/\(p.2<G.ts.length)/\∃t,G.T[p.1.toNat]?=some t/\p.2=t.parent
 all:∀j:Nat,j<G.ts.length->(j:Int)∈o.map λp=>p.1
 ls:(da G o).Nodup
 sc:awk G o
 sr:∀s∈da G o,0<=s/\s<G.C.length
 rw_:∀x∈cq G o,0<=x/\x<G.ts.length
noncomputable def aaC (G:Gl):List (Int×Int):=Classical.epsilon (akH G)
def aUE(l:Lc)(P:List dB)(bw:List Int)(G:Gl)(Ws:List Wk):Prop:=∃ro,IV l P bw ro G Ws/\SKI G Ws
noncomputable def evF (l:Lc) (P:List dB) (S:Gl×List Wk) (e:List Int):(Gl×List Wk)×Bool:=SA l P S.1 S.2 (aaC S.1) (e.getD 0 0) (e.getD 1 0)
def aDR(g:Ty l ro G)(h:aUu G):∃o,akH G o:=by
 obtain⟨o,I,h2,m,J⟩:=aDQ h.t;have u:=g.kl;have A:=g.cap;have K:o.length<=G.ts.length:=by
  have:=acW (n:=G.T.length) h2 λx d=>by
   obtain⟨p,b,rfl⟩:=List.mem_map.1 d;exact(m p b).1
  simpa[u]using this
 have f:∀x∈o.map (λp=>p.1),0<=x:=λx d=>by
  obtain⟨p,b,rfl⟩:=List.mem_map.1 d;exact(m p b).1.1
 obtain⟨B,v⟩:=h.aHh h2 f;have L:=g.pl;have e:(o.map λp=>p.1).flatMap (λx=>((G.ts.map λt=>t.scopes)[x.toNat]?).getD [])=o.flatMap λp=>(G.tk p.1.toNat).scopes:=by
  rw[List.flatMap_map];have:∀(o:List (Int×Int)),(∀p∈o,p.1.toNat<G.ts.length)->(o.flatMap λp=>((G.ts.map λt=>t.scopes)[p.1.toNat]?).getD [])=o.flatMap λp=>(G.tk p.1.toNat).scopes:=by
   intro o D;induction o with
   |nil=>rfl
   |cons p o ih=>
    rw[List.flatMap_cons,List.flatMap_cons,ih λq hq=>D q (by simp[hq]),l8,G.xw (D p bf)]
    rfl
  exact this o λp b=>by have:=(m p b).1;omega
 rw[e]at B v;obtain⟨a,F⟩:=h.q0;have k:∀s∈da G o,(0<=s/\s<G.C.length)/\(O9 G s).1<G.ts.length:=λs hs=>by
  have key:∀{s:Int} {p},0<=s->(G.P.map plq)[s.toNat]?=some p->(0<=s/\s<G.C.length)/\(O9 G s).1<G.ts.length:=fun{s p} z b=>by
   have c:=(kB.1 b).1;rw[List.length_map]at c;refine⟨af,?_⟩;have hb:=(h.aTS _ _ b).1;rw[List.length_map]at hb;rw[l8,iH c]at b;unfold O9;rw[m0,iH c];have b:=Option.some.inj b;have:(G.P[s.toNat]'c).1=p.1:=by rw[<-b];rfl
   show(G.P[s.toNat]'c).1< _;rw[this];exact hb.2
  rcases List.mem_cons.1 hs with rfl|hs
  .exact key e7 F
  .obtain⟨z,p,b,_⟩:=v s hs;exact key z b
 have r:(da G o).Nodup:=by
  refine List.nodup_cons.2 ⟨λq=>?_,B⟩;obtain⟨_,p,b,y⟩:=v 0 q;have:(0:Int).toNat=0:=rfl;rw[this,F]at b;obtain rfl:=Option.some.inj b;have:=f _ y;omega
 have M:=acW (n:=G.C.length) r λs hs=>(k s hs).1;refine⟨o,⟨⟨λi x d=>?_,af,?_,λp b=>?_,af⟩,h2,λp b=>?_,λj N=>J j af,r,k,λs hs=>(k s hs).1,λx d=>?_⟩⟩
 .have:=g.kk i x d;omega
 .rw[if_neg (by have:=g.t1;omega)];exact I
 .have:=(m p b).1;omega
 .obtain⟨O,t,H,a3⟩:=m p b;refine⟨af,?_,t,H,a3⟩;have:=g.kt _ _ H;omega
 .unfold cq at d;rcases aey o 0 _ x d with q|q
  .obtain rfl:=List.eq_of_mem_replicate q;have:=g.t1;omega
  .omega
def aUE.ord(h:aUE l P bw G Ws):akH G (aaC G):=by
 obtain⟨ro,a,h2⟩:=h;exact Classical.epsilon_spec (aDR a.ty h2.sk)
def aol(h:SKI G Ws)(b:G'.T=G.T)(hs:G'.ts=G.ts)(a:G'.P=G.P):SKI G' Ws:=by
 have c:G'.P.map plq=G.P.map plq:=by rw[a]
 exact⟨by unfold aUu;rw[b,hs,a];exact h.sk,λi W hi d=>by rw[c];exact h.fk i W hi d,h.aUv⟩
def aaZ(ids:List Int):∃M,UX l G ids=G.mem M:=by
 unfold UX;split
 .exact⟨G.M,rfl⟩
 .obtain⟨_,_,_,h⟩:=V9 (l.wa.length:Nat) ids G;rw[h];exact⟨_,rfl⟩
def aUE.ev(h:aUE l P bw G Ws)(e:List Int):aUE l P bw (evF l P (G,Ws) e).1.1 (evF l P (G,Ws) e).1.2:=by
 have f:=h.ord;obtain⟨ro,b,a⟩:=h;obtain⟨iT,c⟩:=awe (o:=aaC G) (n:=e.getD 1 0) (kind:=e.getD 0 0) b f.sr;refine⟨iT,c,?_⟩;unfold evF SA;dsimp only;split
 .exact a
 rename_i d;have d:G.err=0:=Classical.not_not.1 d;split
 .unfold ZC;split
  .split
   .rename_i W g;split
    .rw[b.dl];exact a.step b g d
    .exact a
   .exact a
  .exact a
 split
 .unfold ZD;split
  .obtain⟨M,e⟩:=aaZ (l:=l) (G:={G with time:=(G.time.1+e.getD 1 0,Ko.Oy G.time.2 (G.time.1+e.getD 1 0))}) (Ko.ids (Ko.ac4 G.time.2 (G.time.1+e.getD 1 0)));rw[e];exact aol a rfl rfl rfl
  .exact a
 split
 .split
  .exact aol a rfl rfl rfl
  .exact a
 split
 .unfold ZF;split
  .split
   .exact a
   .obtain⟨M,e⟩:=aaZ (l:=l) (G:=G) [(da G (aaC G)).getD (e.getD 1 0).toNat 0];rw[e];exact aol a rfl rfl rfl
  .exact a
 .exact a
def aD9{k:Bool->ap}(a:aUE l P bw G Ws)(c:iA w0 l.ps P)(d:TZ w0)(h:qK w0 w l aa G Ws R)
  (e:∀JI w',qK w0 w' l JI (evF l P (G,Ws) [kind,n]).1.1 (evF l P (G,Ws) [kind,n]).1.2 R->k (evF l P (G,Ws) [kind,n]).2 w'):nO (some ⟨l.gs,0,none⟩) #[I_ kind,I_ n] w k:=by
 have b:=a.ord;obtain⟨ro,f,g⟩:=a;exact aFl f c d b.ok b.sr h e
def ad4{k:Sl->ap}(b:aUE l P bw G Ws)(h:qK w0 w l aa G Ws R)(c:∀s w',qK w0 w' l aa G Ws (rws 7 s (Yn G (aaC G))::R)->k s w'):dD (some ⟨l.gs,0,none⟩) w k:=by
 have a:=b.ord;obtain⟨ro,d,f⟩:=b;exact akd d a.ok (λp e=>(a.pr p e).2.1) a.rw_ h c
def arZ{k:Sl->ap}(c:l.deep<=1000000)(a:aUE l P bw G Ws)(h:qK w0 w l aa G Ws R)(d:∀s zs w',zs.map (λz:aUA=>z.1)=Ws->qK w0 w' l aa G Ws (rws 4 s (zs.map (tQ l G))::jO (Iq G (cq G (aaC G))) zs::R)->k s w'):jB (some ⟨l.gs,0,none⟩) w k:=by
 have e:=a.ord;obtain⟨ro,b,g⟩:=a;exact amu c b e.ok (λW f=>b.aFv f) h d
variable{a:Int}
def axl(h:Ty l ro G)(hs:0<=s/\s<G.C.length)(d:k9 ro a r)(e:∀z,r≠ .ask z):(G.Fw wk s).M.get a=G.M.get a:=by
 obtain⟨_,c⟩:=h.O7 hs.1 hs.2;have b:=c.a.lt;rw[h.len]at b;show(G.M.cs wk (G.nd s).at_ 0 1).1.get a=_;rw[abi c.a.1 b d.1,if_neg];exact λq=>d.ne c.a (e _) q.1
def akM(wk:Int)(b:k9 ro a r)(c:∀z,r≠ .ask z):∀(ids:List Int) (G:Gl),Ty l ro G->(∀x∈ids,0<=x/\x<G.C.length)->(sK wk G ids).M.get a=G.M.get a
 |[],_,_,_=>rfl
 |s::ids,G,h,hs=>by
  obtain⟨d,_,_,e,_⟩:=awd h (hs s bf);show(sK wk (G.Fw wk s) ids).M.get a=_;rw[akM wk b c ids (G.Fw wk s) d λx f=>by rw[e];exact hs x (by simp[f]),axl h (hs s bf) b c]
def akN(h:Ty l ro G)(hs:∀x∈bw,0<=x/\x<G.C.length)(d:k9 ro a r)(f:∀z,r≠ .ask z)(e:r≠ .told):(UX l G bw).M.get a=G.M.get a:=by
 unfold UX;split
 .rfl
 .obtain⟨c,_⟩:=akb (l.wa.length:Nat) bw G h hs;show((sK (l.wa.length:Nat) G bw).M.ad _ l.told 1).get a=_;have b:=c.told.lt;rw[c.len]at b;rw[ay3 c.told.1 b d.1,if_neg (d.ne c.told e),akM (l.wa.length:Nat) d f bw G h hs]
def UZ.aFw(h:UZ P b s lg sc):oW P:=Ck.afq.1 (by
 have:=h.acc;unfold Su at this;simp at this;exact this.2.2)
def aDT(m:Lm):(eY m).T=[⟨-1,0,[]⟩]:=by kernel_rfl
def aBd(m:Lm):(eY m).ts.map (λt=>t.scopes)=[[1]]:=by kernel_rfl
theorem aBe:KtT [⟨-1,0,[]⟩]:=by
 refine⟨e7,λy a=>by simp at a;subst a;rfl,λi x b k c=>?_,λj y a d=>?_,λi x b=>?_⟩
 .grind
 .match j,a with
  |0,_=>omega
 .grind
def aGd(m:Lm):aUu (eY m):=by
 unfold aUu;rw[aDT,aBd,ahN];refine⟨aBe,rfl,λx l b k s c=>?_,⟨_,rfl⟩,λs p a=>?_⟩
 .match x,b with
  |0,b=>
   simp at b;subst b;match k,c with
   |0,c=>
    simp at c;subst c;exact⟨e7,_,rfl,rfl,rfl⟩
 .match s,a with
  |0,a=>simp[plq]at a;subst a;exact⟨e7,λq=>by simp at q⟩
  |1,a=>simp[plq]at a;subst a;exact⟨e7,λ_=>⟨_,rfl,e7,rfl⟩⟩
def aDV(m:Lm):SKI (eY m) (Bd m):=by
 refine⟨aGd m,λi W hi a=>?_,λi j b Wj hi c a=>?_⟩
 iterate 2 obtain⟨_,rfl⟩:=adF hi;cases a
def adJ(o:List (Int×Int)):(Yn G o).length=G.ts.length:=by unfold Yn;rw[adI,List.length_replicate]
def DqB(N:Int)(M:bJ)(d:Int):Prop:=M.get d<=N
structure ami (M:bJ) (d:Int) (O:bu):Prop where
 p12:O.next=12->O.t<=M.get d
 p13:O.next=13->O.t<=M.get d/\wr (O.b - 1)<=O.t
 p14:O.next=14->O.won=false->O.b<=M.get d
structure OwR (N:Int) (M:bJ) (d:Int) (r:bu×bJ):Prop where
 db:DqB (N+1) r.2 d
 up:M.get d<=r.2.get d
 aUF:r.1.how=0\/r.1.how=6->ami r.2 d r.1
 no:r.1.how=3->r.2.get (d+1)<=r.2.get d
variable{N:Int}
def DqB.mono(h:DqB N M d)(a:M'.get d=M.get d):DqB (N+1) M' d:=by unfold DqB at*;omega
def ami.mono(h:ami M d O)(c:M.get d<=M'.get d):ami M' d O:=
 ⟨λa=>by have:=h.p12 a;omega,λa=>by have:=h.p13 a;omega,λa b=>by have:=h.p14 a b;omega⟩
def po0(h:O.next<12):ami M d O:=⟨λ_=>by omega,λ_=>by omega,λ_=>by omega⟩
def aKc{x:Int}(hb:sy b)(a:sy x)(h:wr (b - 1)<x):b<=x:=by
 unfold sy at*
 by_cases e:b= -9223372036854775808
 .omega
 .rw[show wr (b - 1)=b - 1 from dh ⟨af,af⟩]at h;omega
theorem aIP(S:0<=l.log/\l.log<=8)(h:Ty l ro G)(hd:ZH ro v d)(k:G.M.caller wk=true)(hO:Cb l ro G.ts.length v d O)(F:O.kind≠2)(T:N<=1152921504606846976)(p:DqB N G.M d)(r:ami G.M d O):OwR N G.M d (O.step G.M wk):=by
 have g:=h.rdy hd k hO.at_;have f:O.next<15->O.how=0:=λq=>by rw[hO.how,if_neg af]
 have u:sy (G.M.get d):=h.val _ _ hd.top;have hb:=hO.b;have j:∀{a s},k9 ro a s->s≠ .top v->∀{x},((G.M.tick wk).put a x).get d=G.M.get d:=fun{a s} ha hs {x}=>by rw[SC ha.1 hd.top.1 (hd.top.ne ha (Ne.symm hs))];rfl
 have eq:∀{O':bu} {M'},M'.get d=G.M.get d->O'.how≠3->(O'.how=0\/O'.how=6->ami M' d O')->OwR N G.M d (O',M'):=fun{O' M'} e h3 hp=>⟨p.mono e,by rw[e];exact Int.le_refl _,hp,λq=>absurd q h3⟩
 have tk:∀{O':bu},O'.how≠3->(O'.how=0\/O'.how=6->ami (G.M.tick wk) d O')->OwR N G.M d (O',G.M.tick wk):=eq rfl;have H:∀{n:Int},((G.M.tick wk).grow n).get d=G.M.get d:=fun{n}=>by
  have D:=hd.top.lt;rw[h.len]at D;exact xR hd.top.1 D
 rcases hO.phase with e|e|e|e|e|e|e|e|e|e|e|e|e|e|e|e|e|e|e|e
 .rw[st0 g (f af) e];exact tk bf λ_=>po0 bf
 .rw[st1 g (f af) e];exact tk bf λ_=>po0 bf
 .rw[Zg g (f af) e];split
  .exact tk bf λ_=>po0 bf
  split
  .exact tk bf bf
  .exact tk bf λ_=>po0 bf
 .have i:=hO.rg af;have I:=hO.l3 e;have J:=(aqk i.right).1;have K:O.lg=O.ring.DA+1:=by unfold bu.lg;exact dh ⟨af,af⟩
  rw[st3 g (f af) e af k];split
  .split<;>exact eq H bf λ_=>po0 bf
  .exact eq rfl bf λ_=>po0 (by simp[e])
 .obtain⟨c,y,A,B,L,U⟩:=hO.c4 e;have i:=hO.rg af;have C:=hO.to (.inl e);obtain⟨s,m,P⟩:∃s,k9 ro c.spot s/\s≠ .top v:=by
   unfold Cp.spot;split
   .rw[B];exact⟨_,C.place _,bf⟩
   .rw[A];exact⟨_,i.place _,bf⟩
  rw[st4 (f af) e y (m.can h.len k)];split
  .exact eq rfl bf λ_=>po0 bf
  split
  .exact eq (j m P) bf λ_=>po0 (by dsimp only;split<;>omega)
  .exact tk bf λ_=>po0 (by dsimp only;omega)
 .rw[st5 g (f af) e];exact eq (j hd.Uw bf) bf λ_=>po0 bf
 .have i:=hO.rg af;rw[st6 (f af) e ((i.place _).can h.len k)];exact eq (j (i.place _) bf) bf λ_=>po0 bf
 .rw[st7 g (f af) e];exact eq (j hd.bot bf) bf bf
 .rw[st8 g (f af) e];exact tk bf λ_=>po0 bf
 .rw[st9 g (f af) e];exact tk bf λ_=>po0 bf
 .rw[aER g (f af) e];exact eq (j hd.bot bf) bf λ_=>po0 bf
 .rw[aES g (f af) e];refine tk bf λ_=>⟨λ_=>Int.le_refl _,λq=>?_,λq _=>?_⟩
  .grind
  .dsimp only at q;split at q
   .rename_i z;exact aKc hb u (gq z)
   .omega
 .have i:=hO.rg af;rw[aET (f af) e ((i.place _).can h.len k)];refine tk (by dsimp only;split<;>simp) λq=>⟨bf,λ_=>⟨r.p12 e,?_⟩,bf⟩
  grind
 .have Q:=r.p13 e;have o:=hd.top.lt;rw[h.len]at o;unfold DqB at p;rw[aEU g (f af) e];have g1:(G.M.cs wk d O.t (wr (O.t+1))).1.get d=if G.M.get d=O.t then wr (O.t+1)else G.M.get d:=by
   rw[abi hd.top.1 o hd.top.1];simp
  have R:G.M.get d=O.t->wr (O.t+1)=O.t+1:=λq=>dh ⟨by unfold sy at u;omega,af⟩
  refine⟨?_,?_,λ_=>⟨bf,bf,λ_ q=>?_⟩,bf⟩
  .unfold DqB;rw[g1];split<;>omega
  .rw[g1];split<;>omega
  .have q:(G.M.cs wk d O.t (wr (O.t+1))).2=false:=q;rw[ay2]at q;have q:=of_decide_eq_false q;show O.b<=(G.M.cs wk d O.t (wr (O.t+1))).1.get d;rw[g1,if_neg q];exact aKc hb u af
 .have e2:∀{x},((G.M.tick wk).put (d+1) x).get (d+1)=x:=fun{x}=>by have:=hd.bot.lt;rw[h.len]at this;exact ajT hd.bot.1 this
  rw[aEV g (f af) e];have z:=j hd.bot bf (x:=O.b);refine⟨p.mono z,by rw[z];exact Int.le_refl _,λq=>?_,λq=>?_⟩
  .grind
  .dsimp only at q;rw[e2,z];cases hwn:O.won with
   |true=>rw[hwn]at q;simp at q
   |false=>exact r.p14 e hwn
 all_goals exact absurd (by unfold bu.kind;rw[if_neg af,if_neg af]) F
theorem aIQ(h:Ty l ro G)(a:ZH ro v d)(g:G.M.caller wk=true)(hO:Cb l ro G.ts.length v d O)(j:O.kind=2)(q:N<=1152921504606846976)(k:DqB N G.M d):DqB (N+1) (O.step G.M wk).2 d/\G.M.get d<=(O.step G.M wk).2.get d/\(O.step G.M wk).2.get (d+1)=G.M.get (d+1):=by
 have f:=h.rdy a g hO.at_;have c:=hO.how;have m:sy (G.M.get d):=h.val _ _ a.top;have same:DqB (N+1) (G.M.tick wk) d/\G.M.get d<=(G.M.tick wk).get d/\(G.M.tick wk).get (d+1)=G.M.get (d+1):=⟨k.mono rfl,Int.le_refl _,rfl⟩;have o:∀n,O.next=n->n<=14->False:=λn e r=>by
  unfold bu.kind at j;grind
 rcases hO.phase with e|e|e|e|e|e|e|e|e|e|e|e|e|e|e|e|e|e|e|e;iterate 15 exact(o _ e af).elim
 .rw[aEW f (by rw[c,e];rfl) e];exact same
 .rw[aEX f (by rw[c,e];rfl) e];exact same
 .rw[aEY f (by rw[c,e];rfl) e];exact same
 .rw[aEZ (by rw[c,e];rfl) e (((hO.rg af).place _).can h.len g)];exact same
 .rw[stK f (by rw[c,e];rfl) e]
  have b:=a.top.lt;rw[h.len]at b;by_cases i:G.M.get d=O.t
  .unfold DqB at*
   rw[show wr (O.t+1)=O.t+1 from dh ⟨by unfold sy at m;omega,af⟩]
   have g1:(G.M.cs wk d O.t (O.t+1)).1.get d=O.t+1:=by
    rw[abi a.top.1 b a.top.1,if_pos ⟨rfl,i⟩]
   have g2:(G.M.cs wk d O.t (O.t+1)).1.get (d+1)=G.M.get (d+1):=by
    rw[abi a.top.1 b a.bot.1,if_neg af]
   grind
  .have p:(G.M.cs wk d O.t (wr (O.t+1))).1=G.M.tick wk:=by unfold bJ.cs;rw[if_neg i]
   rw[p];exact same
def afj(f:Nat->Int):Nat->Int
 |0=>0
 |n+1=>afj f n+f n
def ael{f g:Nat->Int}:∀{n:Nat},(∀x,x<n->f x=g x)->afj f n=afj g n
 |0,_=>rfl
 |n+1,h=>by rw[afj,afj,ael λx a=>h x af,h n af]
def ahS{f g:Nat->Int}{x:Nat}:∀{n:Nat},x<n->(∀y,y<n->y≠x->g y=f y)->afj g n=afj f n+(g x - f x)
 |0,h,_=>by omega
 |n+1,h,hf=>by
  rw[afj,afj];by_cases e:x=n
  .subst e;rw[ael λy b=>hf y af af];omega
  .rw[ahS af λy b a=>hf y af a,hf n af af];omega
def aji{f:Nat->Int}:∀{n:Nat},(∀x,x<n->0<=f x)->0<=afj f n
 |0,_=>by simp[afj]
 |n+1,h=>by
  have:=aji (n:=n) λx a=>h x af;have:=h n af;rw[afj];omega
def ap0{f:Nat->Int}{x:Nat}:∀{n:Nat},(∀x,x<n->0<=f x)->x<n->f x<=afj f n
 |0,_,h=>by omega
 |n+1,h,a=>by
  have b:=aji (n:=n) λx a=>h x af;have h2:=h n af;rw[afj];by_cases e:x=n
  .subst e;omega
  .have:=ap0 (n:=n) (x:=x) (λx a=>h x af) af;omega
abbrev Ts(G:Gl)(x:Nat):Int:=(G.tk x).f.getD 18 0
structure HdI (l:Lc) (G:Gl) (Ws:List Wk):Prop where
 aUD:l.fuel<=1048576
 st:afj (Ts G) G.ts.length=G.steps
 nn:∀x,x<G.ts.length->0<=Ts G x
 sl:0<=G.steps/\G.steps<=l.fuel
 r1:∀x,x<G.ts.length->G.K x=1->∃(i:Nat) (W:Wk),Ws[i]?=some W/\x∈W.hold
 s0:∀(i:Nat) W,Ws[i]?=some W->W.cT= .m .start->Ts G W.jq.toNat=0
 g2:∀(i:Nat) W,Ws[i]?=some W->(W.cT= .m .asks\/W.cT= .m .gone)->2<=G.K W.tp
def Ty.k4(h:Ty l ro G)(a:y<G.ts.length)(h2:2<=G.K y):G.K y=2\/G.K y=3\/G.K y=4:=by
 have:=h.val _ _ (h.qh a).k;have b:G.K y<=4:=this.2;omega
variable{n:Nat}
def aTO.st(i:oW P)(j:Ty l ro G)(r:BT P n t)(h:aTO P G t t'):t'.f.getD 18 0=wr (t.f.getD 18 0+1):=by
 have b:=r.fi.len;obtain⟨g,hv,c⟩:=r.fi.at i;have a:=c.pc;have d:=c.oV;cases h with
 |plain h=>exact(ajR d b a.1 a.2 h).elim (λq=>q.2.st) (λq=>q.2.2.st)
 |pass h=>exact ay1 b
 |leave h=>exact ay1 b
 |join h hy e hk hb=>exact(ahz d b a.1 a.2 h (j.k4 e hk) hb).st
 |bad h hy e hk hb=>
  revert hb;dsimp only;unfold Fr.di;split
  .intro q;cases q
  split
  .intro q;cases q
  split
  .intro q;cases q
  .intro _;exact ay1 b
variable{q:Ro}{v:Int}
def akU(c:k9 ro a r)(hb:k9 ro b q)(f:ro.length=M.cells.length):(M.put b v).get a=M.get a\/(r=q/\a=b/\(M.put b v).get a=v):=by
 by_cases e:a=b
 .subst e;have d:=c.2;rw[hb.2]at d;have h2:=hb.lt;rw[f]at h2;exact .inr ⟨(Option.some.inj d).symm,rfl,ajT hb.1 h2⟩
 .exact .inl (SC hb.1 c.1 e)
theorem awF{o:Int}(c:k9 ro a r)(hb:k9 ro b q)(d:ro.length=M.cells.length):(M.cs wk b o v).1.get a=M.get a\/(r=q/\a=b/\M.get a=o/\(M.cs wk b o v).1.get a=v):=by
 unfold bJ.cs;split
 .rename_i e;rcases akU (M:=M.tick wk) c hb d with h|⟨h1,h2,h3⟩
  .exact .inl h
  .grind
 .exact .inl rfl
variable{k:Kn}
inductive Cel (G:Gl) (W W':Wk):Ro->Int->Int->Prop
 |same {r:Ro} {x:Int}:Cel G W W' r x x
 |jq (h:W.cT= .m .tE) (k:W'={W with cT:= .m .start}):Cel G W W' (.fk W.jq.toNat) 0 1
 |put {x:Int} (h:W.cT= .m .put) (e:2<=(G.tk W.tp).kind/\(G.tk W.tp).kind≠4):Cel G W W' (.fv W.tp) x (G.tk W.tp).v
 |fin (h:W.cT= .m .fin) (e:Ends (G.tk W.tp)):Cel G W W' (.fk W.tp) 1 (G.tk W.tp).kind
 |ask (h:W.cT= .m .cancel):Cel G W W' (.ask (G.tk W.tp).kA.1.toNat) 0 1
 |enter {x:Int} (h:W.cT= .m .tF):Cel G W W' (.liv (G.tk W.tp).kA.1.toNat) x (wr (x+1))
 |leave {x:Int} (h:W.cT= .m .gone) (k:W'.stack=W.stack.tail):Cel G W W' (.liv (G.tk W.tp).l7.toNat) x (wr (x+ -1))
def Stp.cell(c:Cx l P bw ro G i W)(h:Stp l P ro G W G' W')(f:k9 ro a r)(u:r.st (W.cT≠ .m .pF) W.nsp):Cel G W W' r (G.M.get a) (G'.M.get a):=by
 have p:=f.lt;rw[c.ty.len]at p;have hs:∀{x:Int},x=G.M.get a->Cel G W W' r (G.M.get a) x:=fun{x} e=>by rw[e];exact .same
 have g:W.stack≠ []->W.tp<G.ts.length:=λq=>(c.top q).2;have s:∀{z:Int},0<=z->z<G.C.length->k9 ro (G.nd z).at_ (.ask z.toNat)/\k9 ro ((G.nd z).at_+1) (.liv z.toNat):=λy A=>by
  obtain⟨_,h⟩:=c.ty.O7 y A;exact⟨h.a,h.b⟩
 cases h with
 |quiet q k _ _=>exact hs (q.same a r f u)
 |fail q he k o=>exact hs (q.same a r f u)
 |jq hd y=>
  have hb:=(c.ty.qh y.1).k;rcases awF (wk:=W.id) (M:=G.M) (o:=0) (v:=1) (b:=(G.tk W.jq.toNat).jI+0) (q:= .fk W.jq.toNat) f (by rw[Int.add_zero];exact hb) c.ty.len with e|⟨j,_,n,t⟩
  .exact hs e
  .subst j;rw[n];show Cel G W _ _ 0 ((G.M.cs _ _ _ _).1.get a);rw[t];exact .jq hd rfl
 |start hd k=>exact hs rfl
 |aeR ne rn lt hn q k _=>exact hs (q.same a r f u)
 |ends ne hc q k _=>exact hs (q.same a r f u)
 |fork ne hd rn h8 rm=>exact hs (xR (M:=G.M.tick W.id) f.1 p)
 |xo ne hd rn h8 lt rm=>exact hs (xR (M:=G.M.tick W.id) f.1 p)
 |tF ne hd rn=>
  have d:=c.kA (g ne) rn.cJ;rcases akU (v:=wr (G.M.get ((G.nd (G.tk W.tp).kA.1).at_+1)+1)) (M:=G.M.tick W.id) f (s d.1 d.2).2 c.ty.len with e|⟨j,e2,n⟩
  .exact hs e
  .subst j;show Cel G W _ _ _ (((G.M.tick W.id).put _ _).get a);rw[n,<-e2];exact .enter hd
 |opens ne hd rn h11 lt rm B=>exact hs (xR (M:=G.M.tick W.id) f.1 p)
 |gL ne hd rn h12 lt=>exact hs rfl
 |cancel ne hd rn D lt=>
  have d:=c.kA (g ne) rn.cJ;rcases awF (wk:=W.id) (M:=G.M) (o:=0) (v:=1) f (s d.1 d.2).1 c.ty.len with e|⟨j,_,n,t⟩
  .exact hs e
  .subst j;rw[n];show Cel G W _ _ 0 ((G.M.cs _ _ _ _).1.get a);rw[t];exact .ask hd
 |unwind ne hd e ho k hu hw=>exact hs rfl
 |put ne hd e ho k4=>
  rcases akU (v:=(G.tk W.tp).v) (M:=G.M.tick W.id) f (c.ty.qh (g ne)).v c.ty.len with e|⟨j,e2,n⟩
  .exact hs e
  .subst j;show Cel G W _ _ _ (((G.M.tick W.id).put _ _).get a);rw[n];exact .put hd ⟨(show Ends _ by assumption).k2,k4⟩
 |fin ne hd e ho=>
  rcases awF (wk:=W.id) (M:=G.M) (o:=1) (v:=(G.tk W.tp).kind) (b:=(G.tk W.tp).jI+0) (q:= .fk W.tp) f (by rw[Int.add_zero];exact(c.ty.qh (g ne)).k) c.ty.len with e|⟨j,_,n,t⟩
  .exact hs e
  .subst j;rw[n];show Cel G W _ _ 1 ((G.M.cs _ _ _ _).1.get a);rw[t];exact .fin hd (by assumption)
 |asks ne hd=>exact hs rfl
 |gone ne hd e ho k hw=>
  have d:=(c.ty.qh (g ne)).inn;rcases akU (v:=wr (G.M.get ((G.nd (G.tk W.tp).l7).at_+1)+ -1)) (M:=G.M.tick W.id) f (s d.1 d.2).2 c.ty.len with e|⟨j,e2,n⟩
  .exact hs e
  .subst j;show Cel G W _ _ _ (((G.M.tick W.id).put _ _).get a);rw[n,<-e2];exact .leave hd k.1
theorem Stp.hold(h:Stp l P ro G W G' W'):∀y∈W.hold,y∈W'.hold\/(W.cT= .m .gone/\y=W.tp):=by
 intro y a;have b:∀{W1:Wk},W1.cT≠ .m .start->W1.hold=W1.stack:=fun{W1} q=>kL q;have key:W.cT≠ .m .start->W'.cT≠ .m .start->W'.stack=W.stack->y∈W'.hold:=λc h2 d=>by rw[b h2,d,<-b c];exact a
 cases h with
 |quiet q k o _=>exact .inl (key o.1 k.m.1 k.s)
 |fail q he k o=>refine .inl ?_;unfold Wk.hold at a ⊢;rw[k.1,k.2.2.1,k.2.2.2.1];exact a
 |jq hd h0=>
  refine .inl ?_;rw[b (by rw[hd];simp)]at a
  unfold Wk.hold;simp[a]
 |start hd k=>
  refine .inl ?_;rw[b (by rw[k.2.2];simp),k.1]
  unfold Wk.hold at a;grind
 |aeR ne rn lt hn q k o=>exact .inl (key o.1 k.m.1 k.s)
 |ends ne hc q k o=>exact .inl (key o.1 k.m.1 k.s)
 |fork ne hd rn h8 rm=>exact .inl (key (by rw[hd];simp) bf rfl)
 |xo ne hd rn h8 lt rm=>exact .inl (key (by rw[hd];simp) bf rfl)
 |tF ne hd rn=>exact .inl (key (by rw[hd];simp) (by simp[Wk.A6]) rfl)
 |opens ne hd rn h11 lt rm f=>exact .inl (key (by rw[hd];simp) (by simp[Wk.go]) rfl)
 |gL ne hd rn h12 lt=>exact .inl (key (by rw[hd];simp) (by simp[Wk.go]) rfl)
 |cancel ne hd rn g lt=>exact .inl (key (by rw[hd];simp) (by simp[Wk.JF]) rfl)
 |unwind ne hd e ho k hu hw=>exact .inl (key (by rw[hd];simp) k.m.1 k.s)
 |put ne hd e ho k4=>exact .inl (key (by rw[hd];simp) (by simp[Wk.go]) rfl)
 |fin ne hd e ho=>exact .inl (key (by rw[hd];simp) (by simp[Wk.go]) rfl)
 |asks ne hd=>exact .inl (key (by rw[hd];simp) bf rfl)
 |gone ne hd e ho k hw=>
  rw[b (by rw[hd];simp)]at a
  obtain⟨z,st,hs⟩:=List.exists_cons_of_ne_nil ne;rw[hs]at a;rcases List.mem_cons.1 a with q|q
  .grind
  .refine .inl ?_;rw[b k.2.2.1,k.1,hs];exact q
theorem Stp.K(c:Cx l P bw ro G i W)(h:Stp l P ro G W G' W')(d:(G'.tk y).jI=(G.tk y).jI)(f:y<G.ts.length):G'.K y=G.K y\/(G.K y=0/\G'.K y=1/\y∈W'.hold)\/(G.K y=1/\W.cT= .m .fin/\y=W.tp/\G'.K y=(G.tk y).kind/\Ends (G.tk y)):=by
 have g:=(c.ty.qh f).k;have b:=h.cell c g trivial;unfold Gl.K;rw[d];generalize a:Ro.fk y=r at b;generalize j:G.M.get (G.tk y).jI=a0 at b;generalize hb:G'.M.get (G.tk y).jI=a1 at b;cases b with
 |same=>exact .inl rfl
 |jq hd k=>
  obtain rfl:=Ro.fk.inj a;refine .inr (.inl ⟨rfl,rfl,?_⟩);rw[k];unfold Wk.hold;simp
 |put _=>cases a
 |fin hd e=>
  grind
 |ask _=>cases a
 |enter _=>cases a
 |leave _ _=>cases a
theorem ayI(d:x<G.ts.length)(e:G'.ts=G.ts.set x t'):afj (Ts G') G'.ts.length=afj (Ts G) G.ts.length+(t'.f.getD 18 0 - Ts G x)/\(∀y,y<G.ts.length->Ts G' y=if y=x then t'.f.getD 18 0 else Ts G y)/\G'.ts.length=G.ts.length:=by
 have c:G'.ts.length=G.ts.length:=by grind
 have a:∀y,Ts G' y=if y=x then t'.f.getD 18 0 else Ts G y:=λy=>by
  unfold Ts Gl.tk;grind
 refine⟨?_,λy _=>a y,c⟩;rw[c,ahS d λy _ b=>by rw[a,if_neg b],a,if_pos rfl]
structure Cnt (l:Lc) (G G':Gl):Prop where
 n:G.ts.length<=G'.ts.length
 s:(G'.steps=G.steps/\afj (Ts G') G'.ts.length=afj (Ts G) G.ts.length/\∀y,y<G.ts.length->Ts G' y=Ts G y)\/
  (∃x,x<G.ts.length/\G.steps<l.fuel/\G'.steps=wr (G.steps+1)/\afj (Ts G') G'.ts.length=afj (Ts G) G.ts.length+(wr (Ts G x+1) - Ts G x)/\∀y,y<G.ts.length->Ts G' y=if y=x then wr (Ts G x+1)else Ts G y)
 w:∀y,G.ts.length<=y->y<G'.ts.length->Ts G' y=0
def Cnt.same(a:G'.ts=G.ts)(h2:G'.steps=G.steps):Cnt l G G':=by
 have e:∀y,Ts G' y=Ts G y:=λy=>by unfold Ts Gl.tk;rw[a]
 exact⟨by rw[a];exact iw _,.inl ⟨h2,by rw[a];exact ael λy _=>e y,λy _=>e y⟩,λy c b=>by rw[a]at b;omega⟩
def Cnt.set(d:x<G.ts.length)(g:G'.ts=G.ts.set x t')(h2:G'.steps=G.steps)(i:t'.f=(G.tk x).f):Cnt l G G':=by
 obtain⟨a,b,c⟩:=ayI d g;have e:t'.f.getD 18 0=Ts G x:=by rw[i]
 rw[e]at a b;exact⟨af,.inl ⟨h2,af,λy j=>by rw[b y j];split;(rename_i q;rw[q]);rfl⟩,λy k m=>by omega⟩
def Cnt.one(d:x<G.ts.length)(e:G'.ts=G.ts.set x t')(h2:G'.steps=wr (G.steps+1))(lt:G.steps<l.fuel)(g:t'.f.getD 18 0=wr (Ts G x+1)):Cnt l G G':=by
 obtain⟨a,b,c⟩:=ayI d e;rw[g]at a b;exact⟨af,.inr ⟨x,d,lt,h2,a,b⟩,λy i j=>by omega⟩
theorem Stp.cnt(c:Cx l P bw ro G i W)(h:Stp l P ro G W G' W'):Cnt l G G':=by
 have a:W.stack≠ []->W.tp<G.ts.length:=λq=>(c.top q).2;cases h with
 |quiet q k _ _=>exact .same rfl rfl
 |fail q he k o=>exact .same rfl rfl
 |jq hd h0=>exact .same rfl rfl
 |start hd k=>exact .set (c.wt.hl _ (by unfold Wk.hold;simp[hd])) rfl rfl rfl
 |aeR ne rn lt hn q k _=>exact .one (a ne) rfl rfl lt (hn.st c.acc c.ty rn)
 |ends ne hc q k _=>exact .set (a ne) rfl rfl rfl
 |fork ne hd rn h8 rm=>exact .same rfl rfl
 |xo ne hd rn h8 lt rm=>
  have d:=a ne;obtain⟨g,hv,j⟩:=rn.fi.at c.acc;have b:=j.pc;have m:(eI (G.tk W.tp).f (bz P (G.tk W.tp).f) (G.ts.length:Nat)).getD 18 0=wr (Ts G W.tp+1):=by
   unfold Fr.eI;rw[if_pos (rn.fi.is8 c.acc h8)];have z:=rn.fi.aEM c.acc;show(A0 _ _).getD 18 0=_;rw[ay1 (by rw[List.length_set];exact rn.fi.len),m6 af]
   rfl
  obtain⟨s,t,e2⟩:=agB d;have n:∀y,y<G.ts.length->Ts (aFY P G W) y=if y=W.tp then wr (Ts G W.tp+1)else Ts G y:=λy p=>by
   unfold Ts;rw[t y p];split
   .exact m
   .rfl
  have u:Ts (aFY P G W) G.ts.length=0:=by
   unfold Ts;rw[e2];exact(ads rn.fi.len).2.2.2.1
  refine⟨af,.inr ⟨W.tp,d,lt,rfl,?_,n⟩,λy A B=>?_⟩
  .rw[s,afj,u,ahS d λy p r=>by rw[n y p,if_neg r],n _ d,if_pos rfl]
   omega
  .grind
 |tF ne hd rn=>exact .same rfl rfl
 |opens ne hd rn h11 lt rm v=>exact .one (a ne) rfl rfl lt (ay1 rn.fi.len)
 |gL ne hd rn h12 lt=>
  obtain⟨g,hv,j⟩:=rn.fi.at c.acc;have b:=j.pc;exact .one (a ne) rfl rfl lt (ahA j.oV rn.fi.len b.1 b.2 h12).st
 |cancel ne hd rn x lt=>exact .one (a ne) rfl rfl lt (ay1 rn.fi.len)
 |unwind ne hd e ho k hu hw=>exact .set (a ne) (show(G.Zv W.tp (G.tk W.tp)).ts=G.ts.set W.tp {G.tk W.tp with cJ:=(G.tk W.tp).cJ.dropLast}from rfl) rfl rfl
 |put ne hd e ho k4=>exact .same rfl rfl
 |fin ne hd e ho=>exact .same rfl rfl
 |asks ne hd=>exact .same rfl rfl
 |gone ne hd e ho k hw=>exact .same rfl rfl
def HdI.step(h:HdI l G Ws)(F:IV l P bw ro G Ws)(hi:Ws[i]?=some W)(O:G.err=0)(hr:rV l P bw ro iT G i W (G',W'))(hs:Stp l P ro G W G' W'):HdI l G' (Ws.set i W'):=by
 have c:=F.cx hi O;have r:=(kB.1 hi).1;have I:=hs.cnt c;have A:W.stack≠ []->W.tp<G.ts.length:=λq=>(c.top q).2;have R:∀x,x<G.ts.length->Ts G x<=G.steps:=λx H=>by rw[<-h.st];exact ap0 h.nn H
 have U:=h.sl;have V:=h.aUD;have S:∀y,y<G.ts.length->_:=λy g=>hs.K c (hr.Cd.ids y g).2.2 g;have hwrap:∀{z:Int},0<=z->z<=1048576->wr (z+1)=z+1:=λt u=>dh ⟨af,af⟩;have d:afj (Ts G') G'.ts.length=G'.steps/\(0<=G'.steps/\G'.steps<=l.fuel)/\(∀y,y<G.ts.length->0<=Ts G' y):=by
  rcases I.s with⟨J,Q,a3⟩|⟨x,H,lt,J,Q,a3⟩
  .exact⟨by rw[Q,J];exact h.st,by rw[J];exact U,λy g=>by rw[a3 y g];exact h.nn y g⟩
  .have u:=R x H;have h2:=h.nn x H;have X:wr (Ts G x+1)=Ts G x+1:=hwrap h2 af;have e2:wr (G.steps+1)=G.steps+1:=hwrap U.1 af;rw[X]at Q a3;rw[e2]at J;refine⟨by rw[Q,J,h.st];omega,af,λy g=>?_⟩
   rw[a3 y g];split
   .omega
   .exact h.nn y g
 have L:∀y,G.ts.length<=y->y<G'.ts.length->G'.K y=0:=by
  intro y u h2;cases hs with
  |xo ne a rn h8 lt rm=>
   obtain⟨hl,_,e2⟩:=agB (P:=P) (A ne);have e:y=G.ts.length:=af;subst e;unfold Gl.K;rw[e2];exact Yf (M:=G.M.tick W.id) (Int.le_refl _)
  |opens ne a rn h11 lt rm Y=>have h2:y<(List.set G.ts _ _).length:=h2;rw[List.length_set]at h2;omega
  |gL ne a rn h12 lt=>have h2:y<(List.set G.ts _ _).length:=h2;rw[List.length_set]at h2;omega
  |unwind ne a e ho k hu hw=>have h2:y<(List.set G.ts _ _).length:=h2;rw[List.length_set]at h2;omega
  |start a k=>have h2:y<(List.set G.ts _ _).length:=h2;rw[List.length_set]at h2;omega
  |aeR ne rn lt hn q k o=>have h2:y<(List.set G.ts _ _).length:=h2;rw[List.length_set]at h2;omega
  |ends ne I q k o=>have h2:y<(List.set G.ts _ _).length:=h2;rw[List.length_set]at h2;omega
  |cancel ne a rn Z lt=>have h2:y<(List.set G.ts _ _).length:=h2;rw[List.length_set]at h2;omega
  |_=>have h2:y<G.ts.length:=h2;omega
 refine⟨h.aUD,d.1,λy g=>?_,d.2.1,λy g u=>?_,λj Wj b a=>?_,λj Wj b a=>?_⟩
 .by_cases f:y<G.ts.length
  .exact d.2.2 y f
  .rw[I.w y af g];exact Int.le_refl _
 .by_cases f:y<G.ts.length
  .rcases S y f with q|⟨_,_,q⟩|⟨_,_,_,q,e⟩
   .rw[q]at u;obtain⟨j,Wj,b,B⟩:=h.r1 y f u;by_cases e:i=j
    .subst e;rw[hi]at b;obtain rfl:=Option.some.inj b;rcases hs.hold y B with z|⟨z1,z2⟩
     .exact⟨i,W',uO r,z⟩
     .have:=h.g2 i W hi (.inr z1);rw[<-z2]at this;omega
    .exact⟨j,Wj,by rw[r0 e];exact b,B⟩
   .exact⟨i,W',uO r,q⟩
   .have:=e.k2;omega
  .have:=L y af g;omega
 .by_cases e:i=j
  .subst e;rw[uO r]at b;obtain rfl:=Option.some.inj b;have C:Ts G W'.jq.toNat=0/\W'.jq.toNat<G.ts.length/\∀y,y<G.ts.length->Ts G' y=Ts G y:=by
    have no:∀{p:Prop},W'.cT≠ .m .start->p:=λq=>absurd a q;cases hs with
    |quiet q k _ _=>exact no k.m.1
    |fail q O k o=>
     have n:W.cT= .m .start:=by rw[<-k.2.2.1];exact a
     refine⟨by rw[k.2.2.2.1];exact h.s0 i W hi n,by rw[k.2.2.2.1];exact c.wt.hl _ (by unfold Wk.hold;simp[n]),λy g=>rfl⟩
    |jq v t=>
     refine⟨?_,t.1,λy g=>rfl⟩;exact(F.fr _ t.1 t.2).st
    |start v k=>exact no (by rw[k.2.2];simp)
    |aeR ne rn lt hn q k _=>exact no k.m.1
    |ends ne I q k _=>exact no k.m.1
    |unwind ne a e ho k hu hw=>exact no k.m.1
    |gone ne a e ho k hw=>exact no k.2.2.1
    |_=>exact no (by simp[Wk.go,Wk.A6,Wk.JF])
   rw[C.2.2 _ C.2.1];exact C.1
  .rw[r0 e]at b;have t:=h.s0 j Wj b a;have B:Wj.jq.toNat∈Wj.hold:=by unfold Wk.hold;simp[a]
   have D:=(F.w j Wj b).hl _ B;have N:Wj.jq.toNat ∉ W.hold:=λq=>e (F.dj i j W Wj _ hi b q B);unfold Ts;rw[hr.Cd.tk D N];exact t
 .by_cases e:i=j
  .subst e;rw[uO r]at b;obtain rfl:=Option.some.inj b;have no:∀{p:Prop},W'.cT≠ .m .asks/\W'.cT≠ .m .gone->p:=λq=>by rcases a with z|z;exact absurd z q.1;exact absurd z q.2
   have hkeep:W'.tp=W.tp->(W.cT= .m .asks\/W.cT= .m .gone)->W.stack≠ []->2<=G'.K W'.tp:=λu h2 h3=>by
    have h4:=h.g2 i W hi h2;rw[u];rcases S W.tp (A h3)with q|⟨q,_⟩|⟨q,_⟩
    .rw[q];exact h4
    iterate 2 omega
   have hsame:W'.stack=W.stack->W'.tp=W.tp:=λq=>by unfold Wk.tp;rw[q]
   cases hs with
   |quiet q k _ _=>exact no k.m.2.2.2
   |fail q O k o=>
    have n:W.cT= .m .asks\/W.cT= .m .gone:=by rw[<-k.2.2.1];exact a
    refine hkeep (hsame k.1) n ?_;have ct:=c.ct;unfold cD at ct;rcases n with z|z<;>rw[z]at ct<;>exact ct.1
   |jq v t=>exact no bf
   |start v k=>exact no (by rw[k.2.2];simp)
   |aeR ne rn lt hn q k _=>exact no k.m.2.2.2
   |ends ne I q k _=>exact no k.m.2.2.2
   |unwind ne a e ho k hu hw=>exact no k.m.2.2.2
   |gone ne a e ho k hw=>exact no k.2.2.2.2.2
   |asks ne v=>exact hkeep rfl (.inl v) ne
   |fin ne v e ho=>
    have H:=A ne;have u:G.K W.tp=1:=by
     obtain⟨z,st,d⟩:=List.exists_cons_of_ne_nil ne;have B:W.tp∈W.hold:=by unfold Wk.hold Wk.tp;rw[d];simp
     rcases c.wt.run _ B with q|⟨_,_,q⟩
     .exact q
     .rw[v]at q;rcases q with q|q<;>cases q
    have e2:=e.k2;have hb:=(c.ty.qh H).k;have f:=hb.lt;rw[c.ty.len]at f;show 2<=(G.M.cs W.id ((G.tk W.tp).jI+0) 1 (G.tk W.tp).kind).1.get (G.tk W.tp).jI;rw[Int.add_zero,abi hb.1 f hb.1,if_pos ⟨rfl,u⟩];exact e2
   |_=>exact no (by simp[Wk.go,Wk.A6,Wk.JF])
  .rw[r0 e]at b;have t:=h.g2 j Wj b a;have T:Wj.stack≠ []:=by
    intro q;have v:G.err=0:=O;have ct:=(F.w j Wj b).ct v;unfold cD at ct;rcases a with z|z<;>rw[z]at ct<;>exact ct.1 q
   have D:Wj.tp<G.ts.length:=by
    obtain⟨z,st,d⟩:=List.exists_cons_of_ne_nil T;exact(F.w j Wj b).hl _ (by unfold Wk.hold Wk.tp;rw[d];simp)
   rcases S _ D with q|⟨q,_⟩|⟨q,_⟩
   .rw[q];exact t
   iterate 2 omega
open Classical in
def liv(G:Gl)(s:Int):Int:=G.M.get ((G.nd s).at_+1)
theorem aG4(x:Nat)(i:Nat)(hi:i<64):IR .i64 (x:Int) (i:Int)=((x / 2 ^ i:Nat):Int):=by
 unfold IR;rw[iZ,show min i IntKind.i64.bits=i by show min i 64=i;omega]
 grind
theorem aG5(c:x<2 ^ 32)(hi:i<64):tD (x:Int) (i:Int)=x.testBit i:=by
 unfold tD;rw[if_pos ⟨af,af⟩,aG4 x i hi];have hand:∀a b:Int,oH .i64 a b=IntKind.i64.wrap ((BitVec.ofInt 64 a&&&BitVec.ofInt 64 b).toNat:Nat):=λ_ _=>rfl;have d:x / 2 ^ i<2 ^ 32:=Nat.lt_of_le_of_lt (Nat.div_le_self _ _) c;rw[hand,BitVec.ofInt_natCast,show(1:Int)=((1:Nat):Int)from rfl,BitVec.ofInt_natCast,BitVec.toNat_and,BitVec.toNat_ofNat,BitVec.toNat_ofNat,Nat.mod_eq_of_lt af,show 1 % 2 ^ 64=1 from rfl,Nat.and_one_is_mod];have:x / 2 ^ i % 2<2:=Nat.mod_lt _ af;rw[dh ⟨af,af⟩,Nat.testBit_eq_decide_div_mod_eq];grind
def aDM(d:x<2 ^ 16)(e:y<2 ^ 16):Ti .i64 (x:Int) (y:Int)=((x|||y:Nat):Int)/\x|||y<2 ^ 16:=by
 have c:∀a b:Int,Ti .i64 a b=IntKind.i64.wrap ((BitVec.ofInt 64 a|||BitVec.ofInt 64 b).toNat:Nat):=λ_ _=>rfl
 have f:x|||y<2 ^ 16:=Nat.or_lt_two_pow d e;rw[c,BitVec.ofInt_natCast,BitVec.ofInt_natCast,BitVec.toNat_or,BitVec.toNat_ofNat,BitVec.toNat_ofNat,Nat.mod_eq_of_lt af,Nat.mod_eq_of_lt af,dh ⟨af,af⟩];exact⟨rfl,f⟩
def aG6(e:x<2 ^ 16)(f:y<16):JV .i64 (x:Int) (sD .i64 1 (y:Int))=((x ^^^ 2 ^ y:Nat):Int)/\x ^^^ 2 ^ y<2 ^ 16:=by
 have hs:∀y:Nat,y<16->sD .i64 1 (y:Int)=((2 ^ y:Nat):Int):=e7;rw[hs y f];have c:∀a b:Int,JV .i64 a b=IntKind.i64.wrap ((BitVec.ofInt 64 a ^^^ BitVec.ofInt 64 b).toNat:Nat):=λ_ _=>rfl;have d:2 ^ y<2 ^ 16:=Nat.pow_lt_pow_right af af;have g:x ^^^ 2 ^ y<2 ^ 16:=Nat.xor_lt_two_pow e d;rw[c,BitVec.ofInt_natCast,BitVec.ofInt_natCast,BitVec.toNat_xor,BitVec.toNat_ofNat,BitVec.toNat_ofNat,Nat.mod_eq_of_lt af,Nat.mod_eq_of_lt af,dh ⟨af,af⟩];exact⟨rfl,g⟩
variable{s:Sp}
theorem aG7(h:s.OK):s.bb=((2 ^ s.base.toNat - 1:Nat):Int)/\2 ^ s.base.toNat - 1<2 ^ 16:=by
 obtain⟨a,h2,_⟩:=h;have key:=aqM s.base.toNat af;rw[show((s.base.toNat:Nat):Int)=s.base by omega]at key
 have b:2 ^ s.base.toNat<=2 ^ 16:=Nat.pow_le_pow_right af af;have c:0<2 ^ s.base.toNat:=Nat.pow_pos af;refine⟨?_,af⟩;show aF .i64 _=_;grind
variable{v:Nat}{x:Int}
theorem avE(hs:s.OK)(a:0<=x/\x<65536)(hv:v<64):tD (Ti .i64 s.bb x) (v:Int)=(decide ((v:Int)<s.base)||x.toNat.testBit v):=by
 obtain⟨b,e2⟩:=aG7 hs;obtain⟨y,rfl⟩:=Int.eq_ofNat_of_zero_le a.1;obtain⟨c,d⟩:=aDM (y:=y) e2 af;rw[b,c,aG5 af hv,Nat.testBit_or,Nat.testBit_two_pow_sub_one,iZ];grind
def aG8(a:0<=x/\x<65536)(b:j<16):(JV .i64 x (sD .i64 1 (j:Int))).toNat.testBit v=(x.toNat.testBit v !=decide (j=v)):=by
 obtain⟨y,rfl⟩:=Int.eq_ofNat_of_zero_le a.1;rw[(aG6 af b).1,iZ,iZ,Nat.testBit_xor,Nat.testBit_two_pow]
theorem aBi(a:0<=XW i 16):i.testBit (XW i 16).toNat=false:=by
 revert a;unfold XW;grind
theorem aDb(hs:s.OK)(a:0<=x/\x<65536)(b:0<=XW (Ti .i64 x s.bb).toNat 16):x.toNat.testBit (XW (Ti .i64 x s.bb).toNat 16).toNat=false:=by
 obtain⟨c,e2⟩:=aG7 hs;have e:=aBi b;obtain⟨y,rfl⟩:=Int.eq_ofNat_of_zero_le a.1;obtain⟨d,f⟩:=aDM (x:=y) af e2;have g:(Ti .i64 (y:Int) s.bb).toNat=y|||(2 ^ s.base.toNat - 1):=by rw[c,d,iZ]
 grind
variable{o:jH}
def aI3(h:o.next=1):o.go s M wk=o.more s M wk:=by unfold jH.go;rw[h];rfl
def aI4(h:o.next=3):o.go s M wk=o.look s M wk:=by unfold jH.go;rw[h];rfl
def aI5(h:o.next=4):o.go s M wk=o.need s M wk:=by unfold jH.go;rw[h];rfl
def aI6(h:o.next=5):o.go s M wk=o.many s M wk:=by unfold jH.go;rw[h];rfl
def aG9(h:o.next=6):o.go s M wk=o.aeR s M wk:=by unfold jH.go;rw[h];rfl
def Wk.em(W:Wk):Prop:=W.stack=[]/\(W.cT= .m .others\/W.cT= .m .xn\/(W.cT= .m .pF/\(W.after= .m .Uv\/W.after= .m .AL)))
def Wk.aUG(W:Wk):Prop:=W.cT= .m .pF/\(W.after= .c .F9\/W.after= .c .um\/W.after= .c .td)
structure Wk.aUH (W:Wk):Prop where
 s:W.cT= .m .stops->W.step=none
 r:W.cT= .m .xn->∃o,W.step=some o/\o.self=W.id/\(o.next=3\/o.next=5\/o.next=6)
 b:W.cT= .m .block->∃o,W.step=some o/\(o.next=1\/o.next=4\/(o.next=6/\(0<=o.self->o.on.toNat.testBit o.self.toNat=false)))
structure Fl (l:Lc) (W W':Wk):Prop where
 em:W'.em->W.em
 aUG:W'.aUG->∃x n,W'.op=some (bu.B7 W.dq l.log x n)/\(n=0\/n=8)
 sq:W'.aUH
def aEk(b:W'.cT≠ .m .others)(h2:W'.cT≠ .m .xn)(a:W'.cT≠ .m .pF)(c:W'.cT≠ .m .stops)(d:W'.cT≠ .m .block):Fl l W W':=
 ⟨λq=>(q.2.elim (λq=>absurd q b) λq=>q.elim (λq=>absurd q h2) λq=>absurd q.1 a),λq=>absurd q.1 a,⟨λq=>absurd q c,λq=>absurd q h2,λq=>absurd q d⟩⟩
def adR{m:Mt}(h:W'.cT= .m m)(a:(decide (m= .others)||decide (m= .xn)||decide (m= .pF)||decide (m= .stops)||decide (m= .block))=false):Fl l W W':=by
 simp[kf,decide_eq_false_iff_not]at a;refine aEk ?_ ?_ ?_ ?_ ?_<;>(rw[h];intro q;have:=Kn.m.inj q;simp[this]at a)
def aEv(h:W'.cT=k)(a:k≠ .m .stops:=by simp)(h2:k≠ .m .xn:=by simp)(b:k≠ .m .block:=by simp):W'.aUH:=⟨λq=>absurd (h.symm.trans q) a,λq=>absurd (h.symm.trans q) h2,λq=>absurd (h.symm.trans q) b⟩
def aIE(h:W'.cT=k)(a:k≠ .m .pF:=by simp):¬W'.aUG:=λq=>a (h.symm.trans q.1)
def agC(a:W'.cT= .m .stops)(h2:W'.step=none):Fl l W W':=
 ⟨λq=>(by rcases q.2 with q|q|⟨q,_⟩<;>(rw[a]at q;cases q)),λq=>absurd q (aIE a),⟨λ_=>h2,λq=>(by rw[a]at q;cases q),λq=>(by rw[a]at q;cases q)⟩⟩
def aEn(a:W'.cT= .m .others)(h2:W'.stack≠ []):Fl l W W':=⟨λq=>absurd q.1 h2,λq=>absurd q (aIE a),aEv a⟩
def ayg(a:W'.cT= .m .pF)(h2:W'.op=some (bu.B7 W.dq l.log x n))(b:n=0\/n=8)(d:W'.after= .c .F9\/W'.after= .c .um\/W'.after= .c .td):Fl l W W':=
 ⟨λq=>(by
  rcases q.2 with q|q|⟨_,q⟩
  iterate 2 rw[a]at q;cases q
  .rcases d with z|z|z<;>rcases q with q|q<;>(rw[z]at q;cases q)),λ_=>⟨x,n,h2,b⟩,aEv a⟩
def aEo(a:W'.cT= .m .pF)(b:W'.after= .m .Uv\/W'.after= .m .AL)(c:W'.stack=[]->W.em):Fl l W W':=
 ⟨λq=>c q.1,λq=>(by rcases b with z|z<;>rcases q.2 with q|q|q<;>(rw[z]at q;cases q)),aEv a⟩
theorem aDg(h:EP P G zr k)(a:W'.cT=k):Fl l W W':=by
 have b:k≠ .m .others/\k≠ .m .xn/\k≠ .m .pF/\k≠ .m .stops/\k≠ .m .block:=by
  unfold EP at h;split at h
  .subst h;simp
  .unfold rq at h;grind
 exact aEk (by rw[a];exact b.1) (by rw[a];exact b.2.1) (by rw[a];exact b.2.2.1) (by rw[a];exact b.2.2.2.1) (by rw[a];exact b.2.2.2.2)
def aoQ(h:rC P G W1)(a:W'.cT=W1.again):Fl l W W':=by
 obtain⟨y,e,_⟩|⟨k,e,_⟩:=h.cases
 iterate 2 exact aEk (by rw[a,e];simp) (by rw[a,e];simp) (by rw[a,e];simp) (by rw[a,e];simp) (by rw[a,e];simp)
def aFT(a:W1.id=W.id)(hs:W1.stack=[]->W.em):Fl l W (y5 l G W1).2:=by
 unfold y5;dsimp only;split
 .exact adR rfl rfl
 split
 .exact⟨λq=>hs q.1,λq=>(by have:=q.1;simp at this),⟨λq=>(by simp at q),λ_=>⟨_,rfl,rfl,.inl rfl⟩,λq=>(by simp at q)⟩⟩
 .exact adR rfl rfl
def aBo(h:rC P G W1):Fl l W (nothing G W1).2:=by
 unfold nothing;dsimp only;split
 .exact aoQ h rfl
 split
 .exact adR (m:= .register) rfl rfl
 split
 .exact adR (m:= .Io) rfl rfl
 .exact⟨λq=>(by simp[Wk.em]at q),λq=>(by simp[Wk.aUG]at q),⟨λq=>(by simp at q),λq=>(by simp at q),λ_=>⟨_,rfl,.inl rfl⟩⟩⟩
def aoz(a:W1.none_= .m .y5\/(rC P G W1/\W1.none_= .m .nothing))(b:W1.id=W.id)(hs:W1.stack=[]->W.em):Fl l W (KR l G W1 t bw).2:=by
 unfold KR;split
 .unfold alM;rcases a with a4|⟨a1,a4⟩
  .rw[if_pos a4];exact aFT b hs
  .rw[if_neg (by rw[a4];simp)];exact aBo a1
 .exact aEo rfl (.inl rfl) hs
def aoT(hs:W1.stack≠ []):Fl l W (dK G W1 t).2:=by
 unfold dK;split
 .exact aEn rfl hs
 .exact adR rfl rfl
def agz:Fl l W (Go.Proofs.YthidhjhkmjjckaaGreatDoor.unwind W1 t):=by
 unfold Go.Proofs.YthidhjhkmjjckaaGreatDoor.unwind;split
 iterate 2 exact adR rfl rfl
def aIR(z:Nat):([.fork,.join,.join,.cJ,.close,.cancel,.pass,.leave,.leave]:List Mt).getD z .pass≠ .others/\(decide (([.fork,.join,.join,.cJ,.close,.cancel,.pass,.leave,.leave]:List Mt).getD z .pass= .others)||decide (([.fork,.join,.join,.cJ,.close,.cancel,.pass,.leave,.leave]:List Mt).getD z .pass= .xn)||decide (([.fork,.join,.join,.cJ,.close,.cancel,.pass,.leave,.leave]:List Mt).getD z .pass= .pF)||decide (([.fork,.join,.join,.cJ,.close,.cancel,.pass,.leave,.leave]:List Mt).getD z .pass= .stops)||decide (([.fork,.join,.join,.cJ,.close,.cancel,.pass,.leave,.leave]:List Mt).getD z .pass= .block))=false:=by
 match z with
 |0|1|2|3|4|5|6|7|8=>exact⟨e7,e7⟩
 |z+9=>exact⟨bf,bf⟩
variable{x:Nat}
def aBp(a:W1.cT= .m .next\/W1.cT= .m .looking):Fl l W (afr l G W1 x t bw).2:=by
 unfold afr;split
 .rcases a with e|e
  iterate 2 exact adR e rfl
 split
 .exact adR rfl rfl
 .exact adR rfl (aIR _).2
def aDo(h:W.cT= .m .joined):Fl l W (joined l P G W x t t').2:=by
 unfold joined;dsimp only;split
 .exact adR h rfl
 generalize Fr.di t.f (bz P t.f) W.kind (if W.kind=4 then 0 else G.M.get (t'.jI+1))=r
 by_cases hb:r.2.2=true
 .rw[if_pos hb];exact agz
 .rw[if_neg hb];exact adR rfl rfl
def aDp:Fl l W (Gi l G W1 t y).2:=adR rfl rfl
def aBF{k:Lk}(c:Cx l P bw ro G i W)(b:W.cT= .m .looking)(e:W.look=some k):Fl l W (looking l G W k (G.nd k.at_) W.tp (G.tk W.tp)).2:=by
 have ct:=c.ct;unfold cD at ct;rw[b]at ct;dsimp only at ct;obtain⟨k',a,_,_,_,f,d⟩:=ct;rw[e]at a;cases a;unfold looking;dsimp only;split
 .unfold Sy;dsimp only;split at d
  .rename_i hs;rw[hs];dsimp only;unfold adm;split
   .exact agz
   .exact aBp (.inr b)
  .rename_i hs;rw[hs];dsimp only;unfold th;dsimp only;split
   .exact agC rfl rfl
   .exact adR rfl rfl
  .rename_i hs;rw[hs];dsimp only;unfold xp;split
   .exact agz
   .exact adR rfl rfl
  .exact d.elim
 .exact adR b rfl
def aFV(c:Cx l P bw ro G i W)(a:W.cT= .m .stops)(hq:W.aUH):Fl l W (stops l G W W.tp (G.tk W.tp) G.vJ G.V8).2:=by
 have ct:=c.ct;unfold cD at ct;rw[a]at ct;dsimp only at ct;obtain⟨d,f,a3⟩:=ct;have b:=hq.s a;unfold stops;split
 .rw[b];exact agC a rfl
 split
 .exact agC a b
 unfold pG;split at a3
 .rename_i e;rw[e];exact agz
 iterate 2 rename_i y k e;rw[e];exact adR (m:= .tE) rfl rfl
 .rename_i e;rw[e];exact adR (m:= .joined) rfl rfl
 .rename_i e;rw[e];exact adR (m:= .gL) rfl rfl
 .rename_i e;rw[e];exact agz
 .exact a3.elim
structure FlO (l:Lc) (W:Wk) (r:bu×bJ) (W':Wk):Prop where
 em:W'.em->W.em\/(W.after= .c .F9/\r.1.how≠0/\r.1.how≠6/\r.1.how≠1)
 aUG:W'.aUG->(W.aUG/\W'.op=some r.1/\(r.1.how=0\/r.1.how=6))\/∃x n,W'.op=some (bu.B7 W.dq l.log x n)/\(n=0\/n=8)
 sq:W'.aUH
def Fl.aUI{r:bu×bJ}(h:Fl l W W'):FlO l W r W':=⟨λq=> .inl (h.em q),λq=> .inr (h.aUG q),h.sq⟩
def aKs(c:Cx l P bw ro G i W)(g:W.cT= .m .pF)(j:W.op=some O):FlO l W (O.step G.M W.id) (pF l G W O (G.tk W.tp) bw G.vJ).2:=by
 have ct:=c.ct;unfold cD at ct;rw[g]at ct;dsimp only at ct;obtain⟨O',d,ct⟩:=ct;rw[j]at d;cases d;unfold pF;dsimp only;generalize O.step G.M W.id=r;have go:(r.1.how=0\/r.1.how=6)->FlO l W r {W with op:=some r.1}:=λn=>⟨λq=> .inl q,λq=> .inl ⟨q,rfl,n⟩,aEv g⟩
 split
 .rename_i e;exact go (.inl e)
 rename_i o;split
 .rename_i e;exact go (.inr e)
 rename_i p;have s:rC P G W->rC P (G.mem r.2) {W with op:=some r.1}:=λq=>⟨q.ne,q.hm,q.tg⟩
 have f:Dx l P G W->(W.none_= .m .y5\/(rC P (G.mem r.2) {W with op:=some r.1}/\W.none_= .m .nothing)):=λq=>q.what.imp (λz=>z.2.2.2) λz=>⟨s z.1,z.2.2.2⟩
 have b:(W.after= .m .Uv\/W.after= .m .AL)->W.stack=[]->W.em:=λa hs=>⟨hs,.inr (.inr ⟨g,a⟩)⟩;split at ct
 .rename_i a;have e:zj l (G.mem r.2) {W with op:=some r.1} (G.tk W.tp) bw G.vJ r.1.how=F9 (G.mem r.2) {W with op:=some r.1} r.1.how:=by unfold zj;dsimp only;rw[a]
  rw[e];unfold F9;dsimp only;split
  .exact(adR (m:= .tE) rfl rfl).aUI
  .rename_i t;exact⟨λ_=> .inr ⟨a,o,p,t⟩,λq=>absurd q (aIE (k:= .m .others) rfl),aEv (k:= .m .others) rfl⟩
 .rename_i a;have e:zj l (G.mem r.2) {W with op:=some r.1} (G.tk W.tp) bw G.vJ r.1.how=um (G.mem r.2) {W with op:=some r.1} r.1.how:=by unfold zj;dsimp only;rw[a]
  rw[e];unfold um;dsimp only;split
  .exact(adR (m:= .tE) rfl rfl).aUI
  .exact(adR (m:= .tell) rfl rfl).aUI
 .rename_i a;have e:zj l (G.mem r.2) {W with op:=some r.1} (G.tk W.tp) bw G.vJ r.1.how=td (G.mem r.2) {W with op:=some r.1} (G.tk W.tp) r.1.how:=by unfold zj;dsimp only;rw[a]
  rw[e];unfold td;split
  .exact(aoT (W1:={W with op:=some r.1}) ct.1.ne).aUI
  .exact(agC rfl rfl).aUI
 .rename_i a;have e:zj l (G.mem r.2) {W with op:=some r.1} (G.tk W.tp) bw G.vJ r.1.how=Uv l (G.mem r.2) {W with op:=some r.1} (G.tk W.tp) bw G.vJ r.1.how:=by unfold zj;dsimp only;rw[a]
  rw[e];unfold Uv;split
  .exact(aoz (W:=W) (W1:={W with op:=some r.1}) (P:=P) (f ct.1) rfl (b (.inl a))).aUI
  .exact(aEo (W':={W with op:=some r.1,after:= .m .AL}) g (.inr rfl) (b (.inl a))).aUI
 .rename_i a;have e:zj l (G.mem r.2) {W with op:=some r.1} (G.tk W.tp) bw G.vJ r.1.how=AL l (G.mem r.2) {W with op:=some r.1} (G.tk W.tp) bw r.1.how:=by unfold zj;dsimp only;rw[a]
  rw[e];unfold AL;split
  .unfold auJ;split
   .exact(agC rfl rfl).aUI
   .exact(adR (m:= .tE) rfl rfl).aUI
  .have h:=f ct.1;exact(aoz (W:=W) (W1:={W with op:=some r.1,late:=true}) (h.imp id λz=>⟨⟨z.1.ne,z.1.hm,z.1.tg⟩,z.2⟩) rfl (b (.inr a))).aUI
 .exact ct.elim
def aDq(a:W.cT= .m .xn)(d:W.step=some o)(hq:W.aUH):Fl l W (xn l G W o).2:=by
 obtain⟨o',c,h2,f⟩:=hq.r a;rw[d]at c;obtain rfl:=Option.some.inj c;unfold xn;dsimp only;have key:(o.go l.sp G.M W.id).1.next=0\/((o.go l.sp G.M W.id).1.self=o.self/\((o.go l.sp G.M W.id).1.next=5\/(o.go l.sp G.M W.id).1.next=6)):=by
  rcases f with e|e|e
  .rw[aI4 e];exact .inr ⟨rfl,.inl rfl⟩
  .rw[aI6 e];unfold jH.many;dsimp only;split
   .exact .inr ⟨rfl,.inr rfl⟩
   .exact .inl rfl
  .rw[aG9 e];unfold jH.aeR;dsimp only;split<;>exact .inl rfl
 split
 .split
  .exact adR (m:= .rest) (by dsimp only) rfl
  .exact adR (m:= .So) (by dsimp only) rfl
 .rename_i g;rcases key with z|⟨i,j⟩
  .exact absurd z g
  have b:∀{m:Mt},W.cT= .m m->m= .xn:=λq=>(by rw[a]at q;exact(Kn.m.inj q).symm)
  exact⟨λq=>⟨q.1,.inr (.inl a)⟩,λq=>(by cases b q.1),⟨λq=>(by cases b q),λ_=>⟨_,rfl,by show _=W.id;rw[i,h2],.inr j⟩,λq=>(by cases b q)⟩⟩
def aFX(c:Cx l P bw ro G i W)(d:W.cT= .m .block)(g:W.step=some o)(hq:W.aUH):Fl l W (block l G W o).2:=by
 have ct:=c.ct;unfold cD at ct;rw[d]at ct;dsimp only at ct;obtain⟨o',f,j⟩:=hq.b d;rw[g]at f;obtain rfl:=Option.some.inj f;have hb:=c.ty.val _ _ c.ty.OI;have hb:0<=G.M.get (l.sp.at_+1)/\G.M.get (l.sp.at_+1)<65536:=hb;unfold block;dsimp only;have key:(o.go l.sp G.M W.id).1.next=0\/(o.go l.sp G.M W.id).1.next=4\/((o.go l.sp G.M W.id).1.next=6/\(0<=(o.go l.sp G.M W.id).1.self->(o.go l.sp G.M W.id).1.on.toNat.testBit (o.go l.sp G.M W.id).1.self.toNat=false)):=by
  rcases j with e|e|⟨e,_⟩
  .rw[aI3 e];exact .inr (.inl rfl)
  .rw[aI5 e];unfold jH.need;dsimp only;split
   .exact .inr (.inr ⟨rfl,λq=>aDb c.lc.sp hb q⟩)
   .exact .inl rfl
  .rw[aG9 e];unfold jH.aeR;dsimp only;split<;>exact .inl rfl
 split
 .exact aoQ ct.1 rfl
 .rename_i k;rcases key with z|z
  .exact absurd z k
  have a:∀{m:Mt},W.cT= .m m->m= .block:=λq=>(by rw[d]at q;exact(Kn.m.inj q).symm)
  exact⟨λq=>(by rcases q.2 with q|q|⟨q,_⟩<;>cases a q),λq=>(by cases a q.1),⟨λq=>(by cases a q),λq=>(by cases a q),λ_=>⟨_,rfl,.inr z⟩⟩⟩
def aIS(c:Cx l P bw ro G i W)(hq:W.aUH)(j:W.cT≠ .m .pF):Fl l W (ZB l P G W bw).2:=by
 have ct:=c.ct;unfold ZB;dsimp only;cases a:W.cT with
 |m f=>
  unfold cD at ct;rw[a]at ct;cases f with
  |rest=>exact ayg (x:=0) (n:=8) rfl rfl (.inr rfl) (.inl rfl)
  |pF=>exact absurd a j
  |looking=>
   dsimp only at ct ⊢;obtain⟨k,d,_⟩:=ct;rw[d];exact aBF c a d
  |tell=>exact aDg (G:=G) (P:=P) ct rfl
  |others=>
   dsimp only at ct ⊢;unfold others;exact aoz (P:=P) (G:={G.tick W.id with D:=G.D.tail}) (W1:={W with left:=VU (G.D.headD 0) (xI W.id (l.sp.bits G.M) (G.M.get l.idle) l.wa.length)}) (ct.what.imp (λz=>z.2.2.2) λz=>⟨⟨z.1.ne,z.1.hm,z.1.tg⟩,z.2.2.2⟩) rfl λq=>⟨q,.inl a⟩
  |xn=>
   dsimp only at ct ⊢;obtain⟨_,_,o,b,_⟩:=ct;rw[b];exact aDq a b hq
  |So=>exact adR (m:= .JA) rfl rfl
  |JA=>exact adR (m:= .rest) rfl rfl
  |tE=>
   dsimp only at ct ⊢;unfold tE;dsimp only;by_cases g:(G.M.cs W.id ((G.tk W.jq.toNat).jI+0) 0 1).2=true
   .exact adR (m:= .start) (by dsimp only;rw[if_pos g]) rfl
   .exact aDg (G:=G) (P:=P) ct.2 (by dsimp only;rw[if_neg g])
  |start=>
   dsimp only;unfold OF;split
   .exact adR (m:= .start) a rfl
   .exact adR (m:= .looking) rfl rfl
  |next=>
   dsimp only;unfold V7;split
   .exact adR (m:= .looking) rfl rfl
   .exact aBp (.inl a)
  |fork=>
   dsimp only;unfold fork;split
   .exact adR (m:= .fork) a rfl
   split
   .exact adR (m:= .fork) a rfl
   .exact adR (m:= .xo) rfl rfl
  |xo=>
   dsimp only;unfold KQ;dsimp only;split
   .exact adR (m:= .xo) a rfl
   split
   .exact adR (m:= .xo) a rfl
   .exact adR (m:= .tF) rfl rfl
  |tF=>exact ayg (x:=W.jq) (n:=0) rfl rfl (.inl rfl) (.inr (.inl rfl))
  |join=>exact adR (m:= .looking) rfl rfl
  |cJ=>exact adR (m:= .opens) rfl rfl
  |opens=>
   dsimp only;unfold Go.Proofs.YthidhjhkmjjckaaGreatDoor.opens;dsimp only;split
   .exact adR (m:= .opens) a rfl
   split
   .exact adR (m:= .opens) a rfl
   split
   .exact adR (m:= .opens) a rfl
   .exact adR (m:= .next) rfl rfl
  |close=>exact adR (m:= .ul) rfl rfl
  |gL=>
   dsimp only;unfold Go.Proofs.YthidhjhkmjjckaaGreatDoor.gL;dsimp only;split
   .exact adR (m:= .gL) a rfl
   .exact adR (m:= .next) rfl rfl
  |cancel=>
   dsimp only;unfold Go.Proofs.YthidhjhkmjjckaaGreatDoor.cancel;split
   .exact adR (m:= .cancel) a rfl
   .exact adR (m:= .tell) rfl rfl
  |pass=>
   dsimp only;unfold pass;split
   .exact adR (m:= .pass) a rfl
   .exact adR (m:= .next) rfl rfl
  |leave=>
   dsimp only;unfold leave;dsimp only;split
   .exact adR (m:= .leave) a rfl
   .exact agz
  |put=>exact adR (m:= .fin) rfl rfl
  |fin=>exact adR (m:= .asks) rfl rfl
  |asks=>exact adR (m:= .gone) rfl rfl
  |gone=>
   dsimp only at ct ⊢;unfold Go.Proofs.YthidhjhkmjjckaaGreatDoor.gone;obtain⟨z,st,hs⟩:=List.exists_cons_of_ne_nil ct.1;have hb:=c.wt.bk;rw[hs]at hb;dsimp only;split
   .exact adR (m:= .tell) rfl rfl
   .cases hbk:W.back with
    |nil=>rw[hbk]at hb;exact hb.elim
    |cons kb bs=>
     rw[hbk]at hb;exact aDg (G:=G) (P:=P) hb.2.1 rfl
  |asked=>
   dsimp only;unfold asked;dsimp only;split
   .exact agC rfl rfl
   split
   .exact adR (m:= .ul) rfl rfl
   .exact agC rfl rfl
  |joined=>exact aDo a
  |ul=>
   dsimp only at ct ⊢;unfold ul;dsimp only;split
   .exact aoT ct.1.ne
   .exact ayg (x:=0) (n:=8) rfl rfl (.inr rfl) (.inr (.inr rfl))
  |rp=>exact adR (m:= .sx) rfl rfl
  |sx=>
   dsimp only at ct ⊢;unfold sx;split
   .exact agC rfl rfl
   .exact aEn rfl ct.1.ne
  |register=>exact aoQ (P:=P) (G:=G) ct.1 rfl
  |block=>
   dsimp only at ct ⊢;obtain⟨_,o,b,_⟩:=ct;rw[b];exact aFX c a b hq
  |Io=>
   dsimp only at ct ⊢;unfold Io again;obtain⟨y,e,_⟩|⟨k,e,_⟩:=rC.cases ct
   .simp only[e];exact adR (m:= .looking) rfl rfl
   .simp only[e];exact adR (m:= .ul) rfl rfl
  |stops=>exact aFV c a hq
  |_=>exact ct.elim
 |aw y=>exact aDp
 |sh k=>exact adR (m:= .ul) rfl rfl
 |_=>unfold cD at ct;rw[a]at ct;exact ct.elim
def aGz{J:Gl->List Wk->Prop}(n:aUE l P bw G Ws)(e:List Int)(h:J G Ws)
  (j:∀(ro iT:List Ro) (i:Nat) W,IV l P bw ro G Ws->SKI G Ws->Ws[i]?=some W->G.err=0->onF l G W=true->e.getD 0 0=0->e.getD 1 0=i->rV l P bw ro iT G i W (ZB l P G W bw)->Stp l P ro G W (ZB l P G W bw).1 (ZB l P G W bw).2->J (ZB l P G W bw).1 (Ws.set i (ZB l P G W bw).2))
  (d:∀(ro:List Ro) tm (ids:List Int),IV l P bw ro G Ws->G.err=0->e.getD 0 0≠0->Ty l ro {G with time:=tm}->(∀x∈ids,0<=x/\x<G.C.length)->J (UX l {G with time:=tm} ids) Ws)
  (p:∀D,J {G with D:=D} Ws):J (evF l P (G,Ws) e).1.1 (evF l P (G,Ws) e).1.2:=by
 have q:=n.ord;obtain⟨ro,a,r⟩:=n;unfold evF SA;dsimp only;split
 .exact h
 rename_i b;have b:G.err=0:=Classical.not_not.1 b;split
 .rename_i f;unfold ZC;split
  .split
   .rename_i s W k;split
    .rename_i t;rw[a.dl];obtain⟨iT,u,_⟩:=a.step k b;exact j ro iT _ W a r k b t.1 f af u (aib (a.cx k b) a.fr)
    .exact h
   .exact h
  .exact h
 rename_i f;split
 .unfold ZD;split
  .rename_i v;exact d ro _ _ a b f {a.ty with ck:=a.ty.ck.adv v,Qn:=λy m=>a.ty.Qn y (List.mem_filter.1 m).1} λx g=>by
    obtain⟨y,m,rfl⟩:=List.mem_map.1 g;have o:=(List.mem_filter.1 m).1;exact⟨a.ty.ck.ids y o,a.ty.Qn y o⟩
  .exact h
 split
 .split
  .exact p _
  .exact h
 split
 .unfold ZF;split
  .rename_i s;split
   .exact h
   .have c:(e.getD 1 0).toNat<(da G (aaC G)).length:=af;have z:(da G (aaC G)).getD (e.getD 1 0).toNat 0=(da G (aaC G))[(e.getD 1 0).toNat]'c:=by rw[m0,iH c];rfl
    exact d ro G.time [(da G (aaC G)).getD (e.getD 1 0).toNat 0] a b f a.ty λx g=>by
     simp only[List.mem_singleton]at g;rw[g,z];exact q.sr _ (List.getElem_mem c)
  .exact h
 .exact h
structure EmI (N:Int) (l:Lc) (G:Gl) (Ws:List Wk):Prop where
 db:∀(i:Nat) W,Ws[i]?=some W->DqB N G.M W.dq
 aUF:∀(i:Nat) W O,Ws[i]?=some W->W.aUG->W.op=some O->ami G.M W.dq O
 em:∀(i:Nat) W,Ws[i]?=some W->W.em->G.M.get (W.dq+1)<=G.M.get W.dq
 off:∀(i:Nat) W,Ws[i]?=some W->onF l G W=false->W.cT= .m .rest/\W.stack=[]/\G.M.get (W.dq+1)<=G.M.get W.dq
 sq:∀(i:Nat) W,Ws[i]?=some W->W.aUH
def aHa:(KR l G W t bw).1=G:=by
 unfold KR;split
 .unfold alM y5 nothing;split<;>rfl
 .rfl
def aKt{id:Nat->Int}:(zj l G W t bw id d).1=G:=by
 unfold zj;split
 .rfl
 .rfl
 .unfold td;split
  .exact aew.2
  .rfl
 .unfold Uv;split
  .exact aHa
  .rfl
 .unfold AL;split
  .unfold auJ;split<;>rfl
  .exact aHa
 .rfl
def aIT{id:Nat->Int}:(pF l G W O t bw id).1.M=(O.step G.M W.id).2:=by
 unfold pF;dsimp only;split
 .rfl
 split
 .rfl
 .rw[aKt];rfl
structure aKu (N:Int) (G G':Gl) (Ws:List Wk) (i:Nat) (W:Wk):Prop where
 db:∀(j:Nat) Wj,Ws[j]?=some Wj->DqB (N+1) G'.M Wj.dq
 up:∀(j:Nat) Wj,Ws[j]?=some Wj->G.M.get Wj.dq<=G'.M.get Wj.dq
 aUJ:∀(j:Nat) Wj,Ws[j]?=some Wj->(j≠i\/¬W.aUG)->G'.M.get (Wj.dq+1)=G.M.get (Wj.dq+1)
 aUF:W.aUG->∀O,W.op=some O->((O.step G.M W.id).1.how=0\/(O.step G.M W.id).1.how=6->ami G'.M W.dq (O.step G.M W.id).1)/\((O.step G.M W.id).1.how≠0->(O.step G.M W.id).1.how≠6->(O.step G.M W.id).1.how≠1->W.after= .c .F9->G'.M.get (W.dq+1)<=G'.M.get W.dq)
def IV.dqT(b:IV l P bw ro G Ws)(hi:Ws[i]?=some W):ZH ro i W.dq/\W.dq=bw.getD i 0:=by
 have a:=b.w i W hi;exact⟨by rw[a.dq];exact b.dq i a.lt,a.dq⟩
def aF1(h:EmI N l G Ws)(hN:N<=1152921504606846976)(y:IV l P bw ro G Ws)(hi:Ws[i]?=some W)(he:G.err=0):aKu N G (ZB l P G W bw).1 Ws i W:=by
 have c:=y.cx hi he;by_cases t:W.cT= .m .pF;rotate_left
 .have hs:Stp l P ro G W (ZB l P G W bw).1 (ZB l P G W bw).2:=aib c y.fr;generalize (ZB l P G W bw).1=G1,(ZB l P G W bw).2=W1 at hs ⊢;have key:∀{a r},k9 ro a r->r.st (W.cT≠ .m .pF) W.nsp->(∀x,r≠ .fk x)->(∀x,r≠ .fv x)->(∀x,r≠ .ask x)->(∀x,r≠ .liv x)->G1.M.get a=G.M.get a:=fun{a r} hL I n1 n2 n3 n4=>by
   have T:=hs.cell c hL I;generalize hA:G.M.get a=A at T ⊢;generalize G1.M.get a=B at T ⊢;cases T with
   |same=>rfl
   |jq _ _=>exact absurd rfl (n1 _)
   |put _=>exact absurd rfl (n2 _)
   |fin _ _=>exact absurd rfl (n1 _)
   |ask _=>exact absurd rfl (n3 _)
   |enter _=>exact absurd rfl (n4 _)
   |leave _ _=>exact absurd rfl (n4 _)
  have U:∀(j:Nat) Wj,Ws[j]?=some Wj->G1.M.get Wj.dq=G.M.get Wj.dq/\G1.M.get (Wj.dq+1)=G.M.get (Wj.dq+1):=λj Wj b=>by
   obtain⟨J,_⟩:=y.dqT b;exact⟨key J.top t bf bf bf bf,key J.bot t bf bf bf bf⟩
  exact⟨λj Wj b=>(h.db j Wj b).mono (U j Wj b).1,λj Wj b=>by rw[(U j Wj b).1];exact Int.le_refl _,λj Wj b _=>(U j Wj b).2,λq=>absurd q.1 t⟩
 .have ct:=c.ct;unfold cD at ct;rw[t]at ct;dsimp only at ct;obtain⟨O,hO,ct⟩:=ct;have C:(ZB l P G W bw).1.M=(O.step G.M W.id).2:=by
   unfold ZB;dsimp only;rw[t];dsimp only;rw[hO];exact aIT
  have V:=c.idn;rw[V]at ct;have hv:∃v,v<l.wa.length/\Cb l ro G.ts.length v (bw.getD v 0) O/\((W.aUG/\v=i/\O.kind≠2/\(W.after= .c .F9->O.kind=1))\/(¬W.aUG/\v≠i/\O.kind=2)):=by
   have H:=y.w i W hi;split at ct
   .rename_i d;obtain⟨_,_,f,k⟩:=ct;rw[H.dq]at f;exact⟨i,H.lt,f,.inl ⟨⟨t,.inl d⟩,rfl,by rw[k];decide,λ_=>k⟩⟩
   .rename_i d;obtain⟨_,_,_,f,k⟩:=ct;rw[H.dq]at f;exact⟨i,H.lt,f,.inl ⟨⟨t,.inr (.inl d)⟩,rfl,by rw[k];decide,λz=>(by rw[d]at z;cases z)⟩⟩
   .rename_i d;obtain⟨_,_,_,f,k⟩:=ct;rw[H.dq]at f;exact⟨i,H.lt,f,.inl ⟨⟨t,.inr (.inr d)⟩,rfl,by rw[k];decide,λz=>(by rw[d]at z;cases z)⟩⟩
   iterate 2 rename_i d;obtain⟨_,⟨u,b1,b2,X,Y⟩,_⟩:=ct;exact⟨u,b1,X,.inr ⟨λq=>(by rcases q.2 with z|z|z<;>(rw[d]at z;cases z)),b2,Y⟩⟩
   .exact ct.elim
  obtain⟨v,Z,f,hv⟩:=hv;obtain⟨n,o⟩:∃n,Ws[v]?=some n:=⟨_,iH (by rw[<-y.wn];exact Z)⟩
  obtain⟨D,ev⟩:=y.dqT o;have K:=h.db v n o;rw[<-ev]at f;obtain⟨iT,I⟩:=aj2 c.lg c.ty D c.caller f;have g:∀(j:Nat) Wj,Ws[j]?=some Wj->j≠v->(O.step G.M W.id).2.get Wj.dq=G.M.get Wj.dq/\(O.step G.M W.id).2.get (Wj.dq+1)=G.M.get (Wj.dq+1):=λj Wj b s=>by
   obtain⟨J,_⟩:=y.dqT b;exact⟨I.same _ _ J.top λq=>s q,I.same _ _ J.bot λq=>s q⟩
  have p:∀(j:Nat) Wj,Ws[j]?=some Wj->j=v->Wj=n:=λj Wj b e=>by rw[e,o]at b;exact(Option.some.inj b).symm
  rcases hv with⟨how,F,k,Hg⟩|⟨how,F,k⟩
  .have L:n=W:=by rw[F,hi]at o;exact(Option.some.inj o).symm
   have Q:=h.aUF i W O hi how hO;rw[<-L]at Q;have R:=aIP c.lg c.ty D c.caller f k hN K Q;refine⟨λj Wj b=>?_,λj Wj b=>?_,λj Wj b s=>?_,λ_ O' S=>?_⟩
   .rw[C];by_cases e:j=v
    .rw[p j Wj b e];exact R.db
    .exact(h.db j Wj b).mono (g j Wj b e).1
   .rw[C];by_cases e:j=v
    .rw[p j Wj b e];exact R.up
    .rw[(g j Wj b e).1];exact Int.le_refl _
   .rw[C];rcases s with z|z
    .exact(g j Wj b (by rw[F];exact z)).2
    .exact absurd how z
   .rw[hO]at S;obtain rfl:=Option.some.inj S;rw[L]at R;rw[C];refine⟨R.aUF,λh0 h6 h1 d=>R.no ?_⟩;have:=I.ajX k;have Hg:=Hg d;rcases this with q|q|q|q|q
    .exact absurd q h0
    .exact absurd q h1
    .exact q.1
    .have:=q.2;omega
    .exact absurd q.1 h6
  .obtain⟨t1,t2,t3⟩:=aIQ (wk:=W.id) c.ty D c.caller f k hN K;refine⟨λj Wj b=>?_,λj Wj b=>?_,λj Wj b _=>?_,λq=>absurd q how⟩
   .rw[C];by_cases e:j=v
    .rw[p j Wj b e];exact t1
    .exact(h.db j Wj b).mono (g j Wj b e).1
   .rw[C];by_cases e:j=v
    .rw[p j Wj b e];exact t2
    .rw[(g j Wj b e).1];exact Int.le_refl _
   .rw[C];by_cases e:j=v
    .rw[p j Wj b e];exact t3
    .exact(g j Wj b e).2
def aoI(h:M'.get (l.sp.at_+1)=M.get (l.sp.at_+1)):l.sp.bits M'=l.sp.bits M:=by unfold Sp.bits;rw[h]
def aw4(hq:W.aUH)(Z:IV l P bw ro G Ws)(hi:Ws[i]?=some W)(he:G.err=0)(hv:v<16)(a:tD (l.sp.bits (ZB l P G W bw).1.M) (v:Int)=false):tD (l.sp.bits G.M) (v:Int)=false\/((v:Int)=W.id/\W.cT= .m .xn/\(ZB l P G W bw).2.cT= .m .rest/\(ZB l P G W bw).2.stack=W.stack):=by
 have c:=Z.cx hi he;have hs:Stp l P ro G W (ZB l P G W bw).1 (ZB l P G W bw).2:=aib c Z.fr;have hb:=c.ty.val _ _ c.ty.OI;have hb:0<=G.M.get (l.sp.at_+1)/\G.M.get (l.sp.at_+1)<65536:=hb;have u:=c.lc.sp;by_cases hn:W.nsp
 .have K:=hs.cell c c.ty.OI hn;refine .inl ?_;rw[<-a];congr 1;symm;refine aoI ?_;generalize G.M.get (l.sp.at_+1)=A at K ⊢;generalize (ZB l P G W bw).1.M.get (l.sp.at_+1)=B at K ⊢;generalize hR:Ro.OI=R at K;cases K with
  |same=>rfl
  |_=>cases hR
 have C:∀(o:jH),o.next=6->SpT o->(o.self=W.id\/(0<=o.self->o.on.toNat.testBit o.self.toNat=false))->tD (l.sp.bits (o.go l.sp G.M W.id).2) (v:Int)=false->tD (l.sp.bits G.M) (v:Int)=false\/((v:Int)=W.id/\o.self=W.id/\(o.go l.sp G.M W.id).1.next=0/\(o.go l.sp G.M W.id).1.ag7=o.self/\0<=o.self/\o.on.toNat.testBit o.self.toNat=true):=λo h6 D O f=>by
  obtain⟨_,aOC,L⟩:=D;have L:=L h6;have d:=c.ty.OI.lt;rw[c.ty.len]at d;rw[aG9 h6]at f ⊢;unfold jH.aeR at f ⊢;dsimp only at f ⊢;by_cases n:G.M.get (l.sp.at_+1)=o.on;rotate_left
  .have e:(G.M.cs W.id (l.sp.at_+1) o.on (JV .i64 o.on (sD .i64 1 (ZR o.self 0)))).1=G.M.tick W.id:=by unfold bJ.cs;rw[if_neg n]
   rw[e]at f;exact .inl f
  have e2:(G.M.cs W.id (l.sp.at_+1) o.on (JV .i64 o.on (sD .i64 1 (ZR o.self 0)))).1.get (l.sp.at_+1)=JV .i64 o.on (sD .i64 1 (ZR o.self 0)):=by
   rw[abi c.ty.OI.1 d c.ty.OI.1,if_pos ⟨rfl,n⟩]
  have e3:(G.M.cs W.id (l.sp.at_+1) o.on (JV .i64 o.on (sD .i64 1 (ZR o.self 0)))).2=true:=by rw[ay2,n];simp
  obtain⟨j,N,Q⟩:∃j:Nat,ZR o.self 0=j/\j<16:=⟨(ZR o.self 0).toNat,by unfold ZR;split<;>omega,by unfold ZR;split<;>omega⟩
  unfold Sp.bits at f ⊢;rw[e2,N,avE u (by rw[<-N];exact azd L (by unfold ZR;split<;>omega)) af,aG8 L Q]at f
  rw[avE u hb af,n];simp only[kf,decide_eq_false_iff_not]at f ⊢;obtain⟨f1,f2⟩:=f;by_cases F:j=v
  .subst F;have UT:o.on.toNat.testBit j=true:=by
    cases hz:o.on.toNat.testBit j with
    |true=>rfl
    |false=>rw[hz]at f2;simp at f2
   have hbase:=u.1;have H:o.self=(j:Int):=by
    unfold ZR at N;split at N
    iterate 2 omega
   rcases O with z|z
   .refine .inr ⟨af,z,?_,?_,af,by rw[H,iZ];exact UT⟩
    iterate 2 rw[if_pos e3]
   .have:=z af;rw[H,iZ,UT]at this;cases this
  .refine .inl ⟨f1,?_⟩;rw[decide_eq_false F]at f2;simpa using f2
 have ct:=c.ct;by_cases g:W.cT= .m .xn
 .unfold cD at ct;rw[g]at ct;dsimp only at ct;obtain⟨_,_,o,I,D⟩:=ct;obtain⟨o',t,h2,h3⟩:=hq.r g;rw[I]at t;obtain rfl:=Option.some.inj t;have e:ZB l P G W bw=xn l G W o:=by unfold ZB;dsimp only;rw[g];dsimp only;rw[I]
  rw[e]at a ⊢;have S:(xn l G W o).1.M=(o.go l.sp G.M W.id).2:=rfl;rw[S]at a;rcases h3 with h3|h3|h3
  .left;rw[<-a,aI4 h3];rfl
  .left;rw[<-a,aI6 h3];rfl
  .rcases C o h3 D (.inl h2) a with z|⟨z1,z2,z3,z4,_⟩
   .exact .inl z
   .refine .inr ⟨z1,g,?_,?_⟩
    .unfold xn;dsimp only;rw[if_pos z3,if_pos (by rw[z4,z2])]
    .unfold xn;dsimp only;rw[if_pos z3]
 by_cases p:W.cT= .m .block
 .unfold cD at ct;rw[p]at ct;dsimp only at ct;obtain⟨_,o,I,D⟩:=ct;obtain⟨o',t,h3⟩:=hq.b p;rw[I]at t;obtain rfl:=Option.some.inj t;have e:ZB l P G W bw=block l G W o:=by unfold ZB;dsimp only;rw[p];dsimp only;rw[I]
  rw[e]at a ⊢;have S:(block l G W o).1.M=(o.go l.sp G.M W.id).2:=rfl;rw[S]at a;rcases h3 with h3|h3|⟨h3,h4⟩
  .left;rw[<-a,aI3 h3];congr 1;symm;refine aoI ?_;have d:=c.ty.Ye.lt;rw[c.ty.len]at d;show(G.M.ad W.id l.sp.at_ 1).get _=_;rw[ay3 c.ty.Ye.1 d c.ty.OI.1,if_neg af]
  .left;rw[<-a,aI5 h3];rfl
  .rcases C o h3 D (.inr h4) a with z|⟨_,_,_,_,T,U⟩
   .exact .inl z
   .have:=h4 T;rw[U]at this;cases this
 .have x:W.cT= .m .stops:=Classical.byContradiction λq=>hn ⟨g,p,q⟩;left;rw[<-a];congr 1;symm;refine aoI ?_;have e:ZB l P G W bw=stops l G W W.tp (G.tk W.tp) G.vJ G.V8:=by unfold ZB;dsimp only;rw[x]
  rw[e];unfold cD at ct;rw[x]at ct;dsimp only at ct;obtain⟨a1,a2,a3⟩:=ct;have V:=hq.s x;unfold stops;split
  .rw[V];have d:=c.ty.Ye.lt;rw[c.ty.len]at d;show(G.M.ad W.id l.sp.at_ (-1)).get _=_;rw[ay3 c.ty.Ye.1 d c.ty.OI.1,if_neg af]
  split
  .rename_i hr;have J:=c.fl.SG hr;obtain⟨y,t,h2,h3⟩|⟨k,t,_⟩:=a1.cases;rotate_left
   .rw[t]at J;cases J
   have hy:W.target.getD 0=y:=by rw[h2];rfl
   have DK:y<G.ts.length:=h3.2.2.2;have X:=(c.ty.qh DK).w;have Y:G.V8 y=(G.tk y).jI:=by unfold Gl.V8 Gl.tk;rw[iH DK];rfl
   have d:=X.lt;rw[c.ty.len]at d;rw[hy,Y];show(G.M.ad W.id ((G.tk y).jI+2) _).get _=_;rw[ay3 X.1 d c.ty.OI.1,if_neg (c.ty.OI.ne X bf)]
  unfold pG;split at a3;all_goals (first|exact a3.elim|(rename_i e;rw[e] <;>rfl))
def EmI.step(h:EmI N l G Ws)(Y:N<=1152921504606846976)(r:IV l P bw ro G Ws)(hi:Ws[i]?=some W)(I:onF l G W=true)(F:G.err=0)(U:rV l P bw ro iT G i W (ZB l P G W bw)):EmI (N+1) l (ZB l P G W bw).1 (Ws.set i (ZB l P G W bw).2):=by
 have c:=r.cx hi F;have f:=(kB.1 hi).1;have d:=aF1 h Y r hi F;have hq:=h.sq i W hi;have H:(ZB l P G W bw).2.dq=W.dq:=by rw[U.wt.dq,c.wt.dq]
 have Z:(ZB l P G W bw).2.id=W.id:=by rw[U.wt.id,c.wt.id]
 have ct:=c.ct;have J:((ZB l P G W bw).2.em->W.em\/(W.aUG/\W.after= .c .F9/\∃O,W.op=some O/\(O.step G.M W.id).1.how≠0/\(O.step G.M W.id).1.how≠6/\(O.step G.M W.id).1.how≠1))/\
   ((ZB l P G W bw).2.aUG->(W.aUG/\∃O,W.op=some O/\(ZB l P G W bw).2.op=some (O.step G.M W.id).1/\((O.step G.M W.id).1.how=0\/(O.step G.M W.id).1.how=6))\/∃x n,(ZB l P G W bw).2.op=some (bu.B7 W.dq l.log x n)/\(n=0\/n=8))/\(ZB l P G W bw).2.aUH:=by
  by_cases t:W.cT= .m .pF
  .have g:=ct;unfold cD at g;rw[t]at g;dsimp only at g;obtain⟨O,hO,_⟩:=g;have e:ZB l P G W bw=pF l G W O (G.tk W.tp) bw G.vJ:=by unfold ZB;dsimp only;rw[t];dsimp only;rw[hO]
   rw[e];have k:=aKs (bw:=bw) c t hO;refine⟨λq=>(k.em q).imp id λz=>⟨⟨t,.inl z.1⟩,z.1,O,hO,z.2⟩,λq=>(k.aUG q).imp (λz=>⟨z.1,O,hO,z.2⟩) id,k.sq⟩
  .have k:=aIS c hq t (bw:=bw);exact⟨λq=> .inl (k.em q),λq=> .inr (k.aUG q),k.sq⟩
 have A:W.em->¬W.aUG:=λq z=>by
  rcases q.2 with y|y|⟨_,y⟩
  iterate 2 rw[z.1]at y;cases y
  .rcases z.2 with u|u|u<;>rcases y with y|y<;>rw[u]at y<;>cases y
 have K:(ZB l P G W bw).2.em->(ZB l P G W bw).1.M.get (W.dq+1)<=(ZB l P G W bw).1.M.get W.dq:=λq=>by
  rcases J.1 q with z|⟨s,o,O,B,C,L,Q⟩
  .have V:=h.em i W hi z;have h2:=d.aUJ i W hi (.inr (A z));have R:=d.up i W hi;omega
  .exact(d.aUF s O B).2 C L Q o
 refine⟨λj Wj a=>?_,λj Wj O a D hO=>?_,λj Wj a D=>?_,λj Wj a b=>?_,λj Wj a=>?_⟩
 .by_cases e:i=j
  .subst e;rw[uO f]at a;obtain rfl:=Option.some.inj a;rw[H];exact d.db i W hi
  .rw[r0 e]at a;exact d.db j Wj a
 .by_cases e:i=j
  .subst e;rw[uO f]at a;obtain rfl:=Option.some.inj a;rw[H];rcases J.2.1 D with⟨s,S,o,B,C⟩|⟨x,n,s,o⟩
   .rw[B]at hO;obtain rfl:=Option.some.inj hO;exact(d.aUF s S o).1 C
   .rw[s]at hO;obtain rfl:=Option.some.inj hO;exact po0 (by show n<12;omega)
  .rw[r0 e]at a;exact(h.aUF j Wj O a D hO).mono (d.up j Wj a)
 .by_cases e:i=j
  .subst e;rw[uO f]at a;obtain rfl:=Option.some.inj a;rw[H];exact K D
  .rw[r0 e]at a;have V:=h.em j Wj a D;have h2:=d.aUJ j Wj a (.inl (Ne.symm e));have R:=d.up j Wj a;omega
 .by_cases e:i=j
  .subst e;rw[uO f]at a;obtain rfl:=Option.some.inj a;unfold onF at b I;rw[Z]at b;have hlt:=c.an8;obtain⟨v,hv⟩:∃v:Nat,W.id=v:=⟨W.id.toNat,af⟩;rw[hv]at b I;rcases aw4 hq r hi F af b with z|⟨_,o,B,C⟩
   .rw[I]at z;cases z
   .rw[H];have g:=ct;unfold cD at g;rw[o]at g;dsimp only at g;have X:W.em:=⟨g.1,.inr (.inl o)⟩;have V:=h.em i W hi X;have h2:=d.aUJ i W hi (.inr (A X));have R:=d.up i W hi;exact⟨B,by rw[C];exact g.1,af⟩
  .rw[r0 e]at a;have p:=(r.w j Wj a);have T:j<16:=by have:=p.lt;have:=r.lc.w16;omega
   unfold onF at b;rw[p.id]at b;rcases aw4 hq r hi F T b with z|⟨s,_⟩
   .obtain⟨a1,a2,a3⟩:=h.off j Wj a (by unfold onF;rw[p.id];exact z)
    have h2:=d.aUJ j Wj a (.inl (Ne.symm e));have R:=d.up j Wj a;exact⟨a1,a2,af⟩
   .have:=c.wt.id;omega
 .by_cases e:i=j
  .subst e;rw[uO f]at a;obtain rfl:=Option.some.inj a;exact J.2.2
  .rw[r0 e]at a;exact h.sq j Wj a
def EmI.drv(h:EmI N l G Ws)(a:∀(i:Nat) W,Ws[i]?=some W->G1.M.get W.dq=G.M.get W.dq/\G1.M.get (W.dq+1)=G.M.get (W.dq+1))(hs:G1.M.get (l.sp.at_+1)=G.M.get (l.sp.at_+1)):EmI (N+1) l G1 Ws:=by
 have d:∀W,onF l G1 W=onF l G W:=λW=>by unfold onF;rw[aoI hs]
 refine⟨λi W hi=>(h.db i W hi).mono (a i W hi).1,λi W O hi c hO=>(h.aUF i W O hi c hO).mono (by rw[(a i W hi).1];exact Int.le_refl _),λi W hi c=>?_,λi W hi b=>?_,h.sq⟩
 .rw[(a i W hi).1,(a i W hi).2];exact h.em i W hi c
 .rw[(a i W hi).1,(a i W hi).2];rw[d]at b;exact h.off i W hi b
variable{yv:List Int}
def EmI.ask(h:EmI N l G Ws)(c:IV l P bw ro G Ws)(b:Ty l ro G1)(a:G1.M=G.M)(hs:∀x∈yv,0<=x/\x<G1.C.length):EmI (N+1) l (UX l G1 yv) Ws:=
 h.drv (λi W hi=>by
  obtain⟨d,_⟩:=c.dqT hi;rw[akN b hs d.top (λz q=>by cases q) (λq=>by cases q),akN b hs d.bot (λz q=>by cases q) (λq=>by cases q),a]
  exact⟨rfl,rfl⟩) (by rw[akN b hs c.ty.OI (λz q=>by cases q) (λq=>by cases q),a])
def EmI.ev(h:EmI N l G Ws)(c:aUE l P bw G Ws)(d:N<=1152921504606846976)(e:List Int):EmI (N+1) l (evF l P (G,Ws) e).1.1 (evF l P (G,Ws) e).1.2:=
 aGz (J:=λG Ws=>EmI (N+1) l G Ws) c e (h.drv (λ_ _ _=>⟨rfl,rfl⟩) rfl) (λro iT i W a k hi b f _ _ g hs=>h.step d a hi f b g) (λro tm ids a b _ j hs=>h.ask a j rfl hs) λD=>h.drv (λ_ _ _=>⟨rfl,rfl⟩) rfl
def aoJ:(M.cs wk a d b).1.steps=(M.tick wk).steps:=by unfold bJ.cs;split<;>rfl
def Stp.tick(h:Stp l P ro G W G' W'):G'.M.steps=G.M.steps\/G'.M.steps=(G.M.tick W.id).steps:=by
 cases h with
 |quiet q k _ _=>exact q.tick
 |fail q he k o=>exact q.tick
 |jq hd h0=>exact .inr aoJ
 |start hd k=>exact .inr rfl
 |aeR ne rn lt hn q k _=>exact q.tick
 |ends ne hc q k _=>exact q.tick
 |fork ne hd rn h8 rm=>exact .inr rfl
 |xo ne hd rn h8 lt rm=>exact .inr rfl
 |tF ne hd rn=>exact .inr rfl
 |opens ne hd rn h11 lt rm a=>exact .inr rfl
 |gL ne hd rn h12 lt=>exact .inr rfl
 |cancel ne hd rn b lt=>exact .inr aoJ
 |unwind ne hd e ho k hu hw=>exact .inl rfl
 |put ne hd e ho k4=>exact .inr rfl
 |fin ne hd e ho=>exact .inr aoJ
 |asks ne hd=>exact .inr rfl
 |gone ne hd e ho k hw=>exact .inr rfl
open Ck (oW aga agq)
variable{o:List (Int×Int)}
theorem akH.len(h:akH G o):o.length=G.ts.length:=by
 have d:(o.map λp=>p.1).Perm ((List.range G.ts.length).map λn:Nat=>(n:Int)):=by
  rw[List.perm_ext_iff_of_nodup h.nd (by
   refine List.Pairwise.map _ (λa b q=>?_) List.nodup_range;intro z;exact q af)]
  intro a;constructor
  .intro c;obtain⟨p,e,rfl⟩:=List.mem_map.1 c;obtain⟨⟨g,i⟩,_⟩:=h.pr p e;grind
  .intro c;obtain⟨k,f,rfl⟩:=List.mem_map.1 c;exact h.all k (List.mem_range.1 f)
 have:=d.length_eq;simpa using this
variable{p:Int×Int}
def akH.row(h:akH G o)(c:o[i]?=some p):(cq G o)[p.1.toNat]?=some (i:Int):=by
 have f:(o.map λp=>p.1.toNat).Nodup:=by
  have d:=h.nd;unfold List.Nodup at d ⊢;rw[List.pairwise_map]at d ⊢;refine d.imp_of_mem fun{a b} ha hb q e=>q ?_;have g:=(h.pr a ha).1;have e2:=(h.pr b hb).1;omega
 have:=apF o 0 (dU G.ts.length 0) f (λp c=>by rw[List.length_replicate];have:=(h.pr p c).1;omega) i p c
 rw[Nat.zero_add]at this;exact this
variable{r:List Int}
def ala:∀(o:List (Int×Int)) (T:List (List Value)) (k:Nat),(∀p∈o,(r.getD p.1.toNat 0).toNat≠k)->(Gc G r T o)[k]?=T[k]?
 |[],_,_,_=>rfl
 |p::o,T,k,h=>by
  show(Gc G r (T.set _ _) o)[k]?=_;rw[ala o _ k λq hq=>h q (by simp[hq]),r0 (h p bf)]
def atM:∀(o:List (Int×Int)) (T:List (List Value)),(o.map λp=>(r.getD p.1.toNat 0).toNat).Nodup->(∀p∈o,(r.getD p.1.toNat 0).toNat<T.length)->∀p∈o,(Gc G r T o)[(r.getD p.1.toNat 0).toNat]?=some (rowAt G r p)
 |[],_,_,_,p,hp=>by cases hp
 |q::o,T,hn,hl,p,hp=>by
  show(Gc G r (T.set _ _) o)[_]?=_;rw[List.map_cons,List.nodup_cons]at hn;rcases List.mem_cons.1 hp with rfl|hp
  .rw[ala o _ _ λz a e=>hn.1 (List.mem_map.2 ⟨z,a,e⟩),uO (hl p bf)]
  .exact atM o _ hn.2 (λz a=>by rw[List.length_set];exact hl z (by simp[a])) p hp
def akH.ayY(h:akH G o)(a:o[i]?=some p):(cq G o).getD p.1.toNat 0=(i:Int):=by
 rw[m0,h.row a];rfl
theorem akH.tab(h:akH G o)(b:o[i]?=some p):(Yn G o)[i]?=some (rowAt G (cq G o) p):=by
 have c:o.map (λp=>((cq G o).getD p.1.toNat 0).toNat)=List.range o.length:=by
  apply List.ext_getElem?;intro k;rw[l8];by_cases a:k<o.length
  .obtain⟨q,hq⟩:∃z,o[k]?=some z:=⟨_,iH a⟩;rw[hq,List.getElem?_range a];show some (((cq G o).getD q.1.toNat 0).toNat)=_;rw[h.ayY hq];rfl
  .grind
 have:=atM (G:=G) o (dU G.ts.length (AO 0 0 0 0 0 0 (ByteArray.mk #[]))) (by rw[c];exact List.nodup_range) (λq hq=>by
  obtain⟨k,a⟩:=List.getElem?_of_mem hq;rw[h.ayY a,List.length_replicate,<-h.len];exact(kB.1 a).1) p (qn b)
 rw[h.ayY b]at this;exact this
def akH.at_(h:akH G o)(a:x<G.ts.length):∃(i:Nat) (p:Int×Int),o[i]?=some p/\p.1=(x:Int)/\(cq G o).getD x 0=(i:Int):=by
 obtain⟨p,b,e⟩:=List.mem_map.1 (h.all x a);obtain⟨i,hi⟩:=List.getElem?_of_mem b;have e:p.1=(x:Int):=e;refine⟨i,p,hi,e,?_⟩;have:=h.ayY hi;rw[e,iZ]at this;exact this
theorem akH.inj(h:akH G o)(a:x<G.ts.length)(b:y<G.ts.length)(e:(cq G o).getD x 0=(cq G o).getD y 0):x=y:=by
 obtain⟨i,p,c,d,a3⟩:=h.at_ a;obtain⟨j,q,b1,b2,f⟩:=h.at_ b;grind
theorem avH{f:Nat->Int}{i:Int}{x:Nat}:∀{l:List Nat},l.Nodup->(∀y∈l,f y=i->y=x)->f x=i->(l.map f).count i=if x∈l then 1 else 0
 |[],_,_,_=>by simp
 |y::l,hn,hi,hx=>by
  rw[List.nodup_cons]at hn;have b:=avH (f:=f) (i:=i) (x:=x) (l:=l) hn.2 (λz a=>hi z (by simp[a])) hx
  grind
def ayl{f:Nat->Int}:∀{n:Nat},(∀j,j<n->f j=0)->afj f n=0
 |0,_=>rfl
 |n+1,h=>by rw[afj,ayl λj a=>h j af,h n af];rfl
def aBK{f:Nat->Int}:∀{n:Nat},(∀j,j<n->f j=0\/f j=1)->(∀i j,i<n->j<n->f i=1->f j=1->i=j)->afj f n=0\/afj f n=1
 |0,_,_=> .inl rfl
 |n+1,h,hu=>by
  rw[afj];rcases h n af with q|q
  .rw[q];rcases aBK (n:=n) (λj a=>h j af) (λi j hi a=>hu i j af af)with z|z<;>rw[z] <;>simp
  .rw[ayl λj a=>by
    rcases h j af with z|z
    .exact z
    .have:=hu j n af af z q;omega,q]
   exact .inr rfl
theorem aoR{f:Nat->Int}:∀n,afj f n=((List.range n).map f).foldr (·+·) 0
 |0=>rfl
 |n+1=>by
  rw[afj,aoR n,List.range_succ,List.map_append,List.foldr_append];have:∀(l:List Int) (a:Int),l.foldr (·+·) a=l.foldr (·+·) 0+a:=λl a=>by
   induction l with
   |nil=>simp
   |cons x l ih=>simp only[List.foldr_cons];rw[ih];omega
  grind
def aBL(h:r.Perm bw):r.foldr (·+·) 0=bw.foldr (·+·) 0:=by
 induction h with
 |nil=>rfl
 |cons _ _ ih=>simp only[List.foldr_cons,ih]
 |swap x y r=>simp only[List.foldr_cons];omega
 |trans _ _ h1 h2=>rw[h1,h2]
theorem aDs(h:akH G o):afj (λi=>match o[i]? with|some p=>Ts G p.1.toNat|none=>0) o.length=afj (Ts G) G.ts.length:=by
 rw[aoR,aoR];have e:(List.range o.length).map (λi=>match o[i]? with|some p=>Ts G p.1.toNat|none=>0)=o.map λp=>Ts G p.1.toNat:=by
  apply List.ext_getElem?;grind
 rw[e];refine aBL ?_;have d:(o.map λp=>p.1.toNat).Perm (List.range G.ts.length):=by
  rw[List.perm_ext_iff_of_nodup ?_ List.nodup_range]
  .intro a;constructor
   .intro c;obtain⟨p,f,rfl⟩:=List.mem_map.1 c;have:=(h.pr p f).1;exact List.mem_range.2 af
   .intro c;have c:=List.mem_range.1 c;obtain⟨p,f,e⟩:=List.mem_map.1 (h.all a c);grind
  .have d:=h.nd;unfold List.Nodup at d ⊢;rw[List.pairwise_map]at d ⊢;refine d.imp_of_mem fun{a b} c hb q e=>q ?_;have g:=(h.pr a c).1;have e2:=(h.pr b hb).1;omega
 have h2:=d.map (Ts G);rw[List.map_map]at h2;exact h2
def aiE(r:List Int)(Ws:List Wk)(i:Int)(k:Nat):Int:=match Ws[k]? with|some W=>(((Ce r W).count i:Nat):Int)|none=>0
theorem aBN(e:IV l P bw ro G Ws)(f:akH G o)(g:x<G.ts.length)(c:Ws[v]?=some W):aiE (cq G o) Ws ((cq G o).getD x 0) v=if x∈W.stack then 1 else 0:=by
 have d:=e.w v W c;have a:W.stack.Nodup:=(List.nodup_append.1 d.nd).2.1;have i:∀y∈W.stack,y<G.ts.length:=λy b=>d.hl y (by unfold Wk.hold;simp[b])
 unfold aiE;rw[c];dsimp only;unfold Ce;rw[avH (x:=x) (List.pairwise_reverse.2 (a.imp Ne.symm)) (λy b q=>f.inj (i y (by simpa using b)) g q) rfl]
 grind
def aF3(m:IV l P bw ro G Ws)(r:HdI l G Ws)(y:akH G o)(s:x<G.ts.length):(afj (aiE (cq G o) Ws ((cq G o).getD x 0)) Ws.length=0\/afj (aiE (cq G o) Ws ((cq G o).getD x 0)) Ws.length=1)/\(G.K x=0->afj (aiE (cq G o) Ws ((cq G o).getD x 0)) Ws.length=0)/\(G.K x=1->0<Ts G x->afj (aiE (cq G o) Ws ((cq G o).getD x 0)) Ws.length=1):=by
 have key:∀j,j<Ws.length->∃W,Ws[j]?=some W/\aiE (cq G o) Ws ((cq G o).getD x 0) j=if x∈W.stack then 1 else 0:=λj a=>by
  obtain⟨W,t⟩:∃W,Ws[j]?=some W:=⟨_,iH a⟩;exact⟨W,t,aBN m y s t⟩
 have b:∀{W:Wk},x∈W.stack->x∈W.hold:=λh=>by unfold Wk.hold;simp[h]
 have u:=aBK (n:=Ws.length) (f:=aiE (cq G o) Ws ((cq G o).getD x 0)) (λj a=>by
  obtain⟨W,_,e⟩:=key j a;rw[e];split<;>simp) λi j hi a z e2=>by
  obtain⟨W,c,h2⟩:=key i hi;obtain⟨W',k,d⟩:=key j a;rw[z]at h2;rw[e2]at d;split at h2
  .split at d
   .rename_i A B;exact m.dj i j W W' x c k (b A) (b B)
   .simp at d
  .simp at h2
 refine⟨u,λD=>ayl λj a=>?_,λc h2=>?_⟩
 .obtain⟨W,c,h2⟩:=key j a;rw[h2,if_neg];intro q;have:=(m.w j W c).run x (b q);omega
 .obtain⟨i,W,hi,v⟩:=r.r1 x s c;have g:=(kB.1 hi).1;have p:x∈W.stack:=by
   unfold Wk.hold at v;rcases zw.1 v with q|q
   .split at q
    .rename_i C;simp at q;have:=r.s0 i W hi C;rw[<-q]at this;omega
    .cases q
   .exact q
  obtain⟨W',k,d⟩:=key i g;rw[hi]at k;obtain rfl:=Option.some.inj k;rw[if_pos p]at d;rcases u with q|q
  .exfalso;have:=ap0 (f:=aiE (cq G o) Ws ((cq G o).getD x 0)) (n:=Ws.length) (x:=i) (λj a=>by
    obtain⟨W,_,e⟩:=key j a;rw[e];split<;>simp) g
   omega
  .exact q
variable{k:Int->ap}{x:Int}
theorem aHt{vs:List Int}(h:St w0 w L)[A:At L (bG 1 zt) (ints vs) f](o:vs.length<=1000000)(p:k ((vs.count x:Nat):Int) w):acU zt x w k:=by
 have m:=qY (s:=zt) (vs:=ints vs) h;simp only[ints,List.length_map]at m;unfold acU;refine DN (G:=Nat) (λj v w'=>w'=w/\v.2=(j:Int)/\j<=vs.length/\v.1=(((vs.take j).count x:Nat):Int)) (λj=>vs.length - j) (g:=0) ⟨rfl,rfl,af,rfl⟩ ?_;rintro j ⟨n,i⟩ w' ⟨rfl,hi,hj,hn⟩ C hC;dsimp only at hi hn ⊢;subst hi;by_cases d:j<vs.length
 .refine bK (by simp;omega) ?_
  obtain⟨c,e⟩:∃c,vs[j]?=some c:=⟨_,iH d⟩;have q:(vs.take j).count x<=j:=by have:=List.count_le_length (a:=x) (l:=vs.take j);rw[List.length_take]at this;omega
  have b:(vs.take (j+1)).count x=(vs.take j).count x+if c==x then 1 else 0:=by rw[List.take_add_one,e,List.count_append];simp[List.count_cons]
  refine vI (s:=zt) (vs:=ints vs) h af (x:=c) (by unfold ints;rw[iZ,l8,e];rfl) ?_
  refine ax (λhb=>?_) λhb=>?_
  .rw[if_pos hb]at b;refine hC (j+1) _ _ ⟨rfl,?_,af,?_⟩ af
   .dsimp only;rw[dh ⟨af,af⟩];omega
   .dsimp only;rw[b,hn,dh ⟨af,af⟩];omega
  .rw[if_neg (by simp[hb])]at b
   refine hC (j+1) _ _ ⟨rfl,?_,af,?_⟩ af
   .dsimp only;rw[dh ⟨af,af⟩];omega
   .dsimp only;rw[b,hn];omega
 .refine aU (by simp;omega) ?_
  grind
def aIV(h:St w0 w L)[a:At L (jO (Iq G r)) zs f](b:zs[i]?=some z)(c:z.1.stack.length<=1000000)(d:k (((Ce r z.1).count x:Nat):Int) w):acU z.2.1 x w k:=by
 obtain⟨R,e,_⟩:=a.out;have g:St w0 w (jO (Iq G r) zs::R):=e h;have h2:St w0 w (bG 1 z.2.1 (ints (Ce r z.1))::bG 1 z.2.2 (ints (JT G r z.1))::jO (Iq G r) (zs.eraseIdx i)::R):=St.open (BW (X:=Iq G r) (l:=zs) (i:=i) (a:=z) g b);exact aHt h2 (by unfold Ce;simpa using c) d
def aF4(a:IV l P bw ro G Ws)(d:W∈Ws):((G.M.list W.dq).length:Int)<=2 ^ l.log.toNat:=by
 obtain⟨i,hi⟩:=List.getElem?_of_mem d;have c:=a.w i W hi;have hd:ZH ro i W.dq:=by rw[c.dq];exact a.dq i c.lt
 have e:=a.ty.len;have b:=a.ty.ring hd;have f:Rg.of (G.M.k8 (W.dq+2))=o6 G.M W.dq:=by unfold bJ.k8;rw[if_pos (hd.Uw.given e)];rfl
 have g:(0:Int)<2 ^ l.log.toNat:=Int.pow_pos e7;unfold bJ.list;rw[f];split
 .rename_i h;unfold bJ.Cn;rw[List.length_map,List.length_range];have j:(o6 G.M W.dq).size=(o6 G.M W.dq).pw:=by unfold Rg.size;rw[if_pos b.right]
  have h2:((o6 G.M W.dq).pw:Int)<=2 ^ l.log.toNat:=by
   have k:=aqk b.right;have m:=b.le;have:(o6 G.M W.dq).pw<=2 ^ l.log.toNat:=by unfold Rg.pw;exact Nat.pow_le_pow_right af af
   exact_mod_cast this
  omega
 .simp;omega
def aF5(b:IV l P bw ro G Ws)(e:W∈Ws)(h:G.M.get (W.dq+1)<=G.M.get W.dq):G.M.list W.dq=[]:=by
 obtain⟨i,hi⟩:=List.getElem?_of_mem e;have c:=b.w i W hi;have d:ZH ro i W.dq:=by rw[c.dq];exact b.dq i c.lt
 have f:=b.ty.len;have pk:∀{a:Int} {r:Ro},k9 ro a r->G.M.k8 a=G.M.get a:=λh=>by unfold bJ.k8;rw[if_pos (h.given f)]
 unfold bJ.list;rw[pk d.top,pk d.bot,if_neg];omega
def aHu:∀d,d<=5->sD .i64 1 (IntKind.u64.wrap ((d:Nat):Int))=2 ^ d/\0<=IntKind.u64.wrap ((d:Nat):Int):=by decide+kernel
abbrev HdR(l:Lc)(G:Gl)(o:List (Int×Int))(ps sc:Sl)(b s lg:Int)(g1:Nat)(s3 s5:Sl)(zs:List aUA)(R:List HP):List HP:=rws 4 s5 (zs.map (tQ l G))::jO (Iq G (cq G o)) zs::rws 7 s3 (Yn G o)::au g1 (U0 ps sc b s lg).toList::R
variable{s:Int}
def ayp{k:Bool->ap}(Y:aUE l P bw G Ws)(Z:HdI l G Ws)(Q:∀W∈Ws,onF l G W=false->W.stack=[]/\G.M.list W.dq=[])(Dz:∀(i:Nat) W,Ws[i]?=some W->(i:Int)<b->onF l G W=true)(hfu:l.fuel=1048576)(hn:(l.wa.length:Int)=b+s)(hbs:1<=b/\0<=s/\b<=8/\s<=8)(hdp:l.deep=wk)(aOD:wk<=1000)(ZG:l.log=lg)(hl5:0<=lg/\lg<=5)(h:qK w0 w l aa G Ws R)
  (hk:∀w',qK w0 w' l aa G Ws R->k true w'):aaS (some ⟨l.gs,0,none⟩) (U0 ps sc b s lg) wk w k:=by
 unfold aaS agt;refine aM h λg1 w h=>?_;replace h:qK w0 w l aa G Ws (au g1 (U0 ps sc b s lg).toList::R):=(h.front 2 rfl).front 2 rfl;refine ad4 Y h λs3 w h=>?_;refine arZ af Y h λf zs w hz h=>?_;have y:=Y.ord;have hII:=Y;obtain⟨ro,D,hSK⟩:=hII;generalize aaC G=o at*
 have h3:=(pg (sz:=7) (s:=s3) (es:=Yn G o) h).2 e7;have h5:=(pg (sz:=4) (s:=f) (es:=zs.map (tQ l G)) h).2 e7;rw[adJ]at h3;rw[List.length_map]at h5;have hzn:zs.length=Ws.length:=by rw[<-hz,List.length_map]
 have hwn:=D.wn;have hcap:=D.ty.cap;have S:∀{i:Nat} {z:aUA},zs[i]?=some z->Ws[i]?=some z.1:=fun{i z} hi=>by rw[<-hz,l8,hi];rfl
 have A:∀{i:Nat} {z:aUA},zs[i]?=some z->(zs.map (tQ l G))[((i:Nat):Int).toNat]?=some (tQ l G z):=fun{i z} hi=>by rw[iZ,l8,hi];rfl
 have Y8:=Z.sl;obtain⟨e2,e0⟩:=aHu lg.toNat af;rw[show((lg.toNat:Nat):Int)=lg by omega]at e2 e0
 refine cX ?_;refine aU (by rw[dh ⟨af,af⟩];simp;omega) ?_
 replace h:qK w0 w l aa G Ws (HdR l G o ps sc b s lg g1 s3 f zs R):=h;refine bP (fun(_:Unit) w=>qK w0 w l aa G Ws (HdR l G o ps sc b s lg g1 s3 f zs R)) (λJ O=>?_) ?_
 .refine DN (G:=Nat) (λj i w=>i=(j:Int)/\j<=zs.length/\qK w0 w l aa G Ws (HdR l G o ps sc b s lg g1 s3 f zs R)) (λj=>zs.length - j) (g:=0) ⟨rfl,af,h⟩ ?_;clear h;rintro j i w ⟨rfl,hj,h⟩ C hC;by_cases F:j<zs.length;rotate_left
  .refine aU (by simp;omega) ?_
   exact O _ _ h
  refine bK (by simp;omega) ?_
  obtain⟨z,H⟩:∃z:aUA,zs[j]?=some z:=⟨_,iH F⟩;have B:=S H;have T:=qn B;have d:=A H;have hw:=D.w j z.1 B;refine bP (λb' w=>b'=false/\qK w0 w l aa G Ws (HdR l G o ps sc b s lg g1 s3 f zs R)) (λJ2 I=>?_) ?_
  .refine cH h λw h=>?_;obtain⟨l1,l2⟩:=aoh (G:=G) (r:=cq G o) h H;have l1:z.2.1.n=z.1.stack.length:=by rw[l1];unfold Ce;simp
   have l2:z.2.2.n=(G.M.list z.1.dq).length:=by rw[l2];unfold JT;simp
   have aLN:=hw.dp;have hll:=aF4 D T;rw[ZG]at hll;refine rS (sz:=4) (s:=f) (es:=zs.map (tQ l G)) h af d (p:=z.2.1.a) (m:=z.2.1.n) (k:=z.2.1.c) rfl ?_;refine aU (by simp;omega) ?_
   refine rS (sz:=4) (s:=f) (es:=zs.map (tQ l G)) h af d (p:=z.2.2.a) (m:=z.2.2.n) (k:=z.2.2.c) rfl ?_;refine cX ?_;refine Gf e0 ?_;refine aU (by rw[e2];simp;omega) ?_
   refine cX ?_;refine ax (λhb=>?_) λhb=>?_
   .have hb:(j:Int)<b:=by simpa using hb
    have U:=Dz j z.1 B hb;refine rB (sz:=4) (s:=f) (es:=zs.map (tQ l G)) h af d (x:=onF l G z.1) rfl ?_;refine aU (by rw[U];rfl) ?_
    refine rB (sz:=4) (s:=f) (es:=zs.map (tQ l G)) h af d (x:=onF l G z.1) rfl ?_;refine aU (by rw[U];rfl) ?_
    exact I _ _ ⟨rfl,h⟩
   .refine rB (sz:=4) (s:=f) (es:=zs.map (tQ l G)) h af d (x:=onF l G z.1) rfl ?_;refine ax (λjR=>?_) λ_=>I _ _ ⟨rfl,h⟩;have jR:onF l G z.1=false:=by simpa using jR
    obtain⟨o1,o2⟩:=Q z.1 T jR;refine rS (sz:=4) (s:=f) (es:=zs.map (tQ l G)) h af d (p:=z.2.1.a) (m:=z.2.1.n) (k:=z.2.1.c) rfl ?_;refine rS (sz:=4) (s:=f) (es:=zs.map (tQ l G)) h af d (p:=z.2.2.a) (m:=z.2.2.n) (k:=z.2.2.c) rfl ?_;refine I _ _ ⟨?_,h⟩;rw[o1]at l1;rw[o2]at l2;rw[l1,l2];rfl
  clear h;rintro _ w ⟨rfl,h⟩;refine aU rfl ?_;refine hC (j+1) _ _ ⟨?_,af,h⟩ af;rw[dh ⟨af,af⟩];omega
 clear h;intro _ w h;have hol:=y.len;have t:=aDs (G:=G) y;rw[Z.st]at t;have V:∀i,i<o.length->0<=(match o[i]? with|some p=>Ts G p.1.toNat|none=>0):=λi hi=>by
  obtain⟨p,L⟩:∃p,o[i]?=some p:=⟨_,iH hi⟩;rw[L];have:=(y.pr p (qn L)).1;exact Z.nn _ af
 have hmono:∀n j,j+n=o.length->afj (λi=>match o[i]? with|some p=>Ts G p.1.toNat|none=>0) j<=G.steps/\0<=afj (λi=>match o[i]? with|some p=>Ts G p.1.toNat|none=>0) j:=λn=>by
  induction n with
  |zero=>intro j hj;rw[show j=o.length by omega,t];omega
  |succ n ih=>
   intro j hj;have:=(ih (j+1) af).1;rw[afj]at this;have:=V j af;exact⟨af,aji λx hx=>V x af⟩
 refine DN (G:=Nat) (λj v w'=>w'=w/\v.2=(j:Int)/\j<=o.length/\v.1=afj (λi=>match o[i]? with|some p=>Ts G p.1.toNat|none=>0) j) (λj=>o.length - j) (g:=0) ⟨rfl,rfl,af,rfl⟩ ?_
 rintro j ⟨st,i⟩ w' ⟨rfl,hi,hj,hst⟩ C hC;dsimp only at hi hst ⊢;subst hi;by_cases F:j<o.length;rotate_left
 .refine aU (by simp;omega) ?_
  have e:j=o.length:=af;rw[e,t]at hst;refine azz h λw h=>?_;have e3:((aF .i64 (wr (l.fuel - G.steps)+st))==(1048576:Int))=true:=by
   rw[hst,hfu,show wr (1048576 - G.steps)=1048576 - G.steps from dh ⟨af,af⟩,dh ⟨af,af⟩];simp
  rw[e3];exact hk _ (h.rm 2 rfl|>.rm 2 rfl|>.rm 2 rfl|>.rm 2 rfl)
 refine bK (by simp;omega) ?_
 obtain⟨p,L⟩:∃p,o[j]?=some p:=⟨_,iH F⟩;have hpr:=(y.pr p (qn L)).1;have hx:p.1.toNat<G.ts.length:=af;have u:(Yn G o)[((j:Nat):Int).toNat]?=some (rowAt G (cq G o) p):=by rw[iZ];exact y.tab L
 have aOE:=hmono (o.length - (j+1)) (j+1) af;have aAl:afj (λi=>match o[i]? with|some p=>Ts G p.1.toNat|none=>0) (j+1)=st+Ts G p.1.toNat:=by
  rw[afj,<-hst,L]
 have X:(cq G o).getD p.1.toNat 0=(j:Int):=y.ayY L;obtain⟨c1,c2,c3⟩:=aF3 D Z y hx;rw[X]at c1 c2 c3;refine rI (sz:=7) (s:=s3) (es:=Yn G o) h af u (x:=Ts G p.1.toNat) rfl ?_;refine bP (fun(n:Int) w''=>w''=w'/\n=afj (aiE (cq G o) Ws (j:Int)) Ws.length) (λJ O=>?_) ?_
 .have aLO:∀m,m<Ws.length->0<=aiE (cq G o) Ws (j:Int) m/\aiE (cq G o) Ws (j:Int) m<=1:=λm hm=>by
   obtain⟨W,B⟩:∃W,Ws[m]?=some W:=⟨_,iH hm⟩;have:=aBN D y hx B;rw[X]at this;rw[this];split<;>omega
  refine DN (G:=Nat) (λm (v:Int×Int) w''=>w''=w'/\v.2=(m:Int)/\m<=zs.length/\v.1=afj (aiE (cq G o) Ws (j:Int)) m/\0<=v.1/\v.1<=m) (λm=>zs.length - m) (g:=0) ⟨rfl,rfl,af,rfl,Int.le_refl _,Int.le_refl _⟩ ?_;rintro m ⟨c,i⟩ w'' ⟨rfl,hi,hm,hc,hc0,Hi⟩ C2 hC2;dsimp only at hi hc hc0 Hi ⊢;subst hi;by_cases hml:m<zs.length;rotate_left
  .refine aU (by simp;omega) ?_
   exact O _ _ ⟨rfl,by rw[hc,show m=Ws.length by omega]⟩
  refine bK (by simp;omega) ?_
  obtain⟨z,N⟩:∃z:aUA,zs[m]?=some z:=⟨_,iH hml⟩;have B:=S N;have aLN:=(D.w m z.1 B).dp;have h01:=aLO m af;have hnm:aiE (cq G o) Ws (j:Int) m=(((Ce (cq G o) z.1).count (j:Int):Nat):Int):=by unfold aiE;rw[B]
  refine rS (sz:=4) (s:=f) (es:=zs.map (tQ l G)) h af (A N) (p:=z.2.1.a) (m:=z.2.1.n) (k:=z.2.1.c) rfl ?_;refine aIV (G:=G) (r:=cq G o) h N af ?_;rw[<-hnm];refine hC2 (m+1) _ _ ⟨rfl,?_,af,?_,?_,?_⟩ af
  .dsimp only;rw[dh ⟨af,af⟩];omega
  .dsimp only;rw[dh ⟨af,af⟩,afj,hc]
  iterate 2 dsimp only;rw[dh ⟨af,af⟩];omega
 rintro n w'' ⟨rfl,hn⟩;rw[<-hn]at c1 c2 c3;refine bP (λb' w2=>w2=w''/\b'=false) (λJ O=>?_) ?_
 .refine aU (by simp;omega) ?_
  refine rI (sz:=7) (s:=s3) (es:=Yn G o) h af u (x:=G.K p.1.toNat) rfl ?_;refine aU (by
   by_cases q:G.K p.1.toNat=0
   .rw[c2 q];simp
   .simp[q]) ?_
  refine rI (sz:=7) (s:=s3) (es:=Yn G o) h af u (x:=G.K p.1.toNat) rfl ?_;refine ax (λq=>?_) λq=>O _ _ ⟨rfl,bf⟩;have q:G.K p.1.toNat=1:=by simpa using q
  refine rI (sz:=7) (s:=s3) (es:=Yn G o) h af u (x:=Ts G p.1.toNat) rfl ?_;refine O _ _ ⟨rfl,?_⟩;by_cases q2:0<Ts G p.1.toNat
  .rw[c3 q q2];simp
  .rw[decide_eq_false q2];rfl
 rintro _ w2 ⟨rfl,rfl⟩;refine aU rfl ?_;refine hC (j+1) _ _ ⟨rfl,?_,af,?_⟩ af
 .dsimp only;rw[dh ⟨af,af⟩];omega
 .dsimp only;rw[dh ⟨af,af⟩,aAl]
end Go.Proofs.YthidhjhkmjjckaaGreatDoor
