/-
  Parts of the proof of LSteals: printed by a program out of longer texts.
-/
import Derived.Test.YthidhjhkmjjckaaGreatDoorPSteals5
set_option linter.unusedSimpArgs false
set_option linter.unusedVariables false
set_option maxRecDepth 100000
set_option linter.defProp false
open List renaming getElem?_eq_some_iff→kB,getElem?_eq_getElem→iH,getD_eq_getElem?_getD→m0,getElem?_append_left→tJ,getElem?_append_right→u0,getElem?_set_ne→r0,getElem?_set_self→uO,mem_of_getElem?→qn,getElem?_map→l8,eraseIdx→I7,insertIdx_succ_cons→aBT,insertIdx_zero→aBU,replicate→dU,mem_append→zw,length_append→uv,all_eq_true→tL
open Go.Sem renaming run_pure→cP,run_bind→cR
open Go.Result renaming andThen_ok→cK
open Bool renaming or_eq_false_iff→kf,and_eq_true→iY
open Option renaming isNone→eA
open Go.IntKind renaming wrap→aF
open Int renaming toNat_natCast→iZ
open Array renaming setIfInBounds→eS,getElem?_eq_some_iff→Bf
open Nat renaming le_refl→iw
open Go.Addr renaming add→aY
namespace Go.Proofs.YthidhjhkmjjckaaGreatDoor
open Go Go.Ev Go.Proofs
open Ko (CK)
open Ck (oW)
open Fr (A0 nE dY eI di iG jo nF o5)
structure IV (l:Lc) (P:List dB) (bw:List Int) (ro:List Ro) (G:Gl) (Ws:List Wk):Prop where
 lc:afx l
 lg:0≤l.log∧l.log≤8
 acc:oW P
 ty:Ty l ro G
 wn:l.wa.length=Ws.length
 dl:Ws.map (·.dq)=bw
 dq:∀v,v<l.wa.length→ZH ro v (bw.getD v 0)
 w:∀(i:Nat) (W:Wk),Ws[i]?=some W→WT l P bw ro G i W
 dj:∀(i j:Nat) (Wi Wj:Wk) (x:Nat),Ws[i]?=some Wi→Ws[j]?=some Wj→x∈Wi.hold→x∈Wj.hold→i=j
 fr:∀x,x<G.ts.length→G.K x=0→OJ P G.ts.length (G.tk x)
section
variable{l:Lc}{P:List dB}{bw:List Int}{ro iT:List Ro}{G G' G1:Gl}{hold:List Nat}{W W' W1:Wk}{Ws:List Wk}{t t':Tk}{n i x y:Nat}{s a v:Int}{r:Ro}{w0:World}
def IV.cx(h:IV l P bw ro G Ws)(hi:Ws[i]?=some W)(he:G.err=0):Cx l P bw ro G i W:=⟨h.lc,h.lg,h.acc,h.ty,h.w i W hi,h.dq,he⟩
def av8(kd:Int):(Ck.pY kd).2≤2147483647:=by
 unfold Ck.pY;cases (kd==1)<;>cases (kd==2)<;>cases (kd==3)<;>cases (kd==4)<;>cases (kd==5)<;>decide
def av9{i:List Int}(hc:Ck.oV i=0):i.getD 4 0≤1099511627776:=by
 unfold Ck.oV at hc;split at hc
 ·cases hc
 ·split at hc
  ·rename_i hf;unfold Ck.fits at hf;rw[tL]at hf;have f3:=hf 3 e7;unfold Ck.fit at f3;have:=av8 ((Ck.kinds (Ck.gA i)).getD 3 0);simp only[Bool.not_eq_true',kf,decide_eq_false_iff_not]at f3;have:=f3.2;have e:i.getD (3+1) 0=i.getD 4 0:=rfl;omega
  ·cases hc
def azo(c:Cx l P bw ro G i W)(d:bw.length=l.wa.length)(hfr:∀y,y<G.ts.length→G.K y=0→OJ P G.ts.length (G.tk y)):∃iT,rV l P bw ro iT G i W (ZB l P G W bw):=by
 have ct:=c.ct;unfold ZB;dsimp only;generalize hx:W.stack.headD 0=x;have ht:G.tk (W.stack.headD 0)=G.tk x:=by rw[hx]
 cases a:W.cT with
 |m f=>
  cases f with
  |rest=>exact⟨_,aza c a⟩
  |pF=>
   have b:=ct;unfold cD at b;rw[a]at b;dsimp only at b;obtain⟨O,hO,_⟩:=b;dsimp only;rw[hO];obtain⟨iT,h,_⟩:=aml c d a hO ht.symm;exact⟨iT,h⟩
  |looking=>
   have b:=ct;unfold cD at b;rw[a]at b;dsimp only at b;obtain⟨k,hk,_⟩:=b;dsimp only;rw[hk];exact⟨_,amo c a hk hx rfl⟩
  |tell=>exact⟨_,azb c a⟩
  |others=>exact⟨_,aqv c a⟩
  |xn=>
   have b:=ct;unfold cD at b;rw[a]at b;dsimp only at b;obtain⟨_,_,o,ho,_⟩:=b;dsimp only;rw[ho];exact⟨_,aqu c a ho⟩
  |So=>exact⟨_,aCo c a⟩
  |JA=>exact⟨_,azc c a⟩
  |tE=>exact⟨_,aqE c a hfr⟩
  |start=>exact⟨_,av6 c a rfl⟩
  |next=>exact⟨_,azh c a hx rfl⟩
  |fork=>exact azk c a hx rfl
  |xo=>exact av1 c a hx rfl
  |tF=>exact⟨_,aqD c a hx rfl⟩
  |join=>exact⟨_,azg c a ht.symm⟩
  |cJ=>exact⟨_,aCq c a⟩
  |opens=>
   have b:=ct;unfold cD at b;rw[a]at b;dsimp only at b;rw[hx]at b;exact av3 c a hx rfl (av9 (b.2.1.fi.oV c.acc))
  |close=>exact⟨_,av0 c a hx rfl⟩
  |gL=>exact⟨_,aqB c a hx rfl⟩
  |cancel=>exact⟨_,aqA c a hx rfl⟩
  |pass=>exact⟨_,azj c a hx rfl⟩
  |leave=>exact⟨_,avZ c a hx rfl⟩
  |put=>exact⟨_,aCv c a hx rfl⟩
  |fin=>exact⟨_,aCw c a hx rfl⟩
  |asks=>exact⟨_,azm c a ht.symm⟩
  |gone=>exact⟨_,azn c a ht.symm⟩
  |asked=>exact⟨_,avW c a ht.symm⟩
  |joined=>exact⟨_,aqC c a hx rfl⟩
  |ul=>exact⟨_,aqz c a ht.symm⟩
  |rp=>exact⟨_,amm c a⟩
  |sx=>exact⟨_,amn c a ht.symm⟩
  |register=>exact⟨_,aj7 c a⟩
  |block=>
   have b:=ct;unfold cD at b;rw[a]at b;dsimp only at b;obtain⟨_,o,ho,_⟩:=b;dsimp only;rw[ho];exact⟨_,avS c a ho⟩
  |Io=>exact⟨_,azf c a ht.symm⟩
  |stops=>exact⟨_,av5 c a hx rfl⟩
  |cancelled=>unfold cD at ct;rw[a]at ct;exact ct.elim
  |vQ=>unfold cD at ct;rw[a]at ct;exact ct.elim
  |BQ=>unfold cD at ct;rw[a]at ct;exact ct.elim
  |y5=>unfold cD at ct;rw[a]at ct;exact ct.elim
  |nothing=>unfold cD at ct;rw[a]at ct;exact ct.elim
  |Uv=>unfold cD at ct;rw[a]at ct;exact ct.elim
  |AL=>unfold cD at ct;rw[a]at ct;exact ct.elim
 |aw y=>exact⟨_,aE7 c a ht.symm⟩
 |sh k=>exact⟨_,aE8 c a ht.symm⟩
 |no=>unfold cD at ct;rw[a]at ct;exact ct.elim
 |any=>unfold cD at ct;rw[a]at ct;exact ct.elim
 |c f=>unfold cD at ct;rw[a]at ct;exact ct.elim
 |nx i=>unfold cD at ct;rw[a]at ct;exact ct.elim
 |V2 y k=>unfold cD at ct;rw[a]at ct;exact ct.elim
 |BR y k=>unfold cD at ct;rw[a]at ct;exact ct.elim
 |hl m z=>unfold cD at ct;rw[a]at ct;exact ct.elim
def IV.step(h:IV l P bw ro G Ws)(hi:Ws[i]?=some W)(he:G.err=0):∃iT,rV l P bw ro iT G i W (ZB l P G W bw)∧IV l P bw iT (ZB l P G W bw).1 (Ws.set i (ZB l P G W bw).2):=by
 have c:=h.cx hi he;have a:=(kB.1 hi).1;obtain⟨iT,hr⟩:=azo c (by rw[←h.dl,List.length_map,h.wn]) h.fr
 generalize ZB l P G W bw=r at hr ⊢;refine⟨iT,hr,h.lc,h.lg,h.acc,hr.ty,by rw[List.length_set];exact h.wn,?_,λv hv=> ?_,λj Wj hj=> ?_,λj k Wj g x hj hk f b=> ?_,λx hx hK=> ?_⟩
 ·rw[List.map_set,hr.wt.dq,←h.dl];have:(Ws.map (·.dq)).getD i 0=W.dq:=by rw[m0,l8,hi];rfl
  rw[this];apply List.ext_getElem?;intro k;by_cases hk:i=k
  ·subst hk;rw[uO (gq a),l8,hi];rfl
  ·rw[r0 hk]
 ·obtain⟨m,e⟩:=hr.Cd.ext;rw[e];exact(h.dq v hv).qT
 ·by_cases e:i=j
  ·subst e;rw[uO a]at hj;cases hj
   exact hr.wt
  ·rw[r0 e]at hj;exact(h.w j Wj hj).imp hr.Cd (λx hx q=>e (h.dj i j W Wj x hi hj q hx)) (λ_=>he)
 ·have key:∀j Wj,Ws[j]?=some Wj→i≠j→∀x∈Wj.hold,x ∉ r.2.hold:=λj Wj hj hne x f o=>by
   rcases hr.hd x o with q|⟨q1,s⟩
   ·exact hne (h.dj i j W Wj x hi hj q f)
   ·have:=(h.w j Wj hj).run x f;omega
  by_cases e:i=j
  ·subst e;by_cases e2:i=k
   ·exact e2
   ·rw[uO a]at hj;rw[r0 e2]at hk;cases hj
    exact absurd f (key k g hk e2 x b)
  ·rw[r0 e]at hj;by_cases e2:i=k
   ·subst e2;rw[uO a]at hk;cases hk
    exact absurd b (key j Wj hj e x f)
   ·rw[r0 e2]at hk;exact h.dj j k Wj g x hj hk f b
 ·by_cases d:x<G.ts.length
  ·have h0:=hr.Cd.K0 x d hK;have p:x ∉ W.hold:=λq=>by have:=(h.w i W hi).run x q;omega
   rw[hr.Cd.tk d p];exact(h.fr x d h0).imp hr.Cd.n
  ·exact hr.fr x af hx
end
def Ro.st(d e:Prop):Ro→Prop
 | .fk _=>True
 | .fv _=>True
 | .ask _=>True
 | .liv _=>True
 | .top _=>d
 | .bot _=>d
 | .Uw _=>d
 | .rg _ _ _=>d
 | .OI=>e
 |_=>False
structure aP3 (d e:Prop) (ro:List Ro) (wk:Int) (M M':bJ):Prop where
 same:∀a r,k9 ro a r→r.st d e→M'.get a=M.get a
 tick:M'.steps=M.steps∨M'.steps=(M.tick wk).steps
 used:M.cells.length≤M'.cells.length
def Wk.nsp(W:Wk):Prop:=W.cT≠ .m .xn∧W.cT≠ .m .block∧W.cT≠ .m .stops
def aP4(W:Wk):Prop:=W.cT≠ .m .start∧W.cT≠ .m .xo∧W.cT≠ .m .tF∧W.cT≠ .m .asks∧W.cT≠ .m .gone
structure aP5 (W W':Wk):Prop where
 s:W'.stack=W.stack
 b:W'.back=W.back
 m:aP4 W'
inductive aP6 (P:List dB) (G:Gl) (t:Tk):Tk→Prop
 |plain (h:(dY t.f (bz P t.f)).2=true):aP6 P G t {t with f:=(dY t.f (bz P t.f)).1}
 |pass (h:Ip P t=14):aP6 P G t {t with f:=nE t.f}
 |leave (h:Ip P t=15∨Ip P t=16):aP6 P G t {t with f:=nE t.f,kind:=if Ip P t=15 then 3 else 2,v:=t.f.getD (2+((bz P t.f).getD 1 0).toNat) 0}
 |join {y:Nat} (h:Ip P t=9∨Ip P t=10) (hy:hand P t=(y:Nat)) (hl:y<G.ts.length) (hk:2≤G.K y) (hb:(di t.f (bz P t.f) (G.K y) (if G.K y=4 then 0 else G.V y)).2.2=false):aP6 P G t {t with f:=(di t.f (bz P t.f) (G.K y) (if G.K y=4 then 0 else G.V y)).1}
 |bad {y:Nat} (h:Ip P t=9∨Ip P t=10) (hy:hand P t=(y:Nat)) (hl:y<G.ts.length) (hk:2≤G.K y) (hb:(di t.f (bz P t.f) (G.K y) (if G.K y=4 then 0 else G.V y)).2.2=true):aP6 P G t {t with f:=(di t.f (bz P t.f) (G.K y) (if G.K y=4 then 0 else G.V y)).1,kind:=3,v:=(di t.f (bz P t.f) (G.K y) (if G.K y=4 then 0 else G.V y)).2.1}
abbrev Wk.tp(W:Wk):Nat:=W.stack.headD 0
def aDY(P:List dB)(G:Gl)(W:Wk):Tk:=⟨(G.T.length:Nat),(G.tk W.tp).kA.1,W.own,(G.M.cells.length:Nat),jo (G.tk W.tp).f ((bz P (G.tk W.tp).f).getD 4 0) (EN P ((bz P (G.tk W.tp).f).getD 4 0)),ByteArray.mk #[],[],[W.own],0,0⟩
def aD2(P:List dB)(G:Gl)(W:Wk):Tk:={G.tk W.tp with f:=eI (G.tk W.tp).f (bz P (G.tk W.tp).f) (G.ts.length:Nat)}
def aFY(P:List dB)(G:Gl)(W:Wk):Gl:={G with M:=(G.M.tick W.id).grow 3,T:=Hz G.T (G.tk W.tp).id,ts:=(G.ts++[aDY P G W]).set W.tp (aD2 P G W),P:=G.P.set W.own.toNat ((G.T.length:Nat),0,0,false),steps:=wr (G.steps+1)}
def Wk.emp(W:Wk):Prop:=(W.cT= .m .stops∧(W.pG= .c .Co∨W.pG= .c .qI))∨W.cT= .m .gL
def aok(P:List dB)(G:Gl)(W:Wk):Gl:={G with M:=(G.M.tick W.id).grow 2,C:=G.C++[⟨(G.tk W.tp).kA.1,wr ((G.nd (G.tk W.tp).kA.1).nest+1),(G.M.cells.length:Nat)⟩],P:=G.P++[((G.tk W.tp).id,(((G.tk W.tp).scopes.length:Nat):Int),G.pk (G.tk W.tp).kA.1,false)],time:=if (bz P (G.tk W.tp).f).getD 4 0>0 then(G.time.1,(Ko.Dt G.time ((G.C.length:Nat):Int) ((bz P (G.tk W.tp).f).getD 4 0)).2)else G.time,ts:=G.ts.set W.tp {G.tk W.tp with scopes:=(G.tk W.tp).scopes++[((G.C.length:Nat):Int)],cJ:=(G.tk W.tp).cJ++[(((G.C.length:Nat):Int),W.mark)],f:=nE (G.tk W.tp).f},steps:=wr (G.steps+1)}
def aHe(P:List dB)(G:Gl)(W:Wk):Tk:={G.tk W.tp with cJ:=(G.tk W.tp).cJ.dropLast,gL:=(G.tk W.tp).gL++(if (G.M.get (G.nd (G.tk W.tp).kA.1).at_ !=0)then ByteArray.mk #[49]else ByteArray.mk #[48]),f:=iG (G.tk W.tp).f (bz P (G.tk W.tp).f) (G.M.get (G.nd (G.tk W.tp).kA.1).at_ !=0)}
def atV(P:List dB)(G:Gl)(W:Wk):Gl:={G with M:=G.M.tick W.id,time:=(G.time.1,Ko.EK G.time.2 (G.tk W.tp).kA.1),P:=Cq G.P (G.tk W.tp).kA.1,ts:=G.ts.set W.tp (aHe P G W),steps:=wr (G.steps+1)}
inductive Stp (l:Lc) (P:List dB) (ro:List Ro) (G:Gl) (W:Wk):Gl→Wk→Prop
 |quiet {M:bJ} {D:List Int} {W':Wk} (q:aP3 (W.cT≠ .m .pF) W.nsp ro W.id G.M M) (k:aP5 W W') (o:aP4 W) (d:D=G.D∨D=G.D.tail):Stp l P ro G W {G with M:=M,D:=D} W'
 |fail {M:bJ} {e:Int} {W':Wk} (q:aP3 (W.cT≠ .m .pF) W.nsp ro W.id G.M M) (he:e≠0) (k:W'.stack=W.stack∧W'.back=W.back∧W'.cT=W.cT∧W'.jq=W.jq∧W'.own=W.own) (o:W.cT≠ .m .gone∧W.cT≠ .m .tF):Stp l P ro G W {G with M:=M,err:=e} W'
 |jq (hd:W.cT= .m .tE) (h:W.jq.toNat<G.ts.length∧G.K W.jq.toNat=0):Stp l P ro G W (G.mem (G.M.cs W.id ((G.tk W.jq.toNat).jI+0) 0 1).1) {W with cT:= .m .start}
 |start {W':Wk} {m:Int} (hd:W.cT= .m .start) (k:W'.stack=W.jq.toNat::W.stack∧W'.back=W.home::W.back∧W'.cT= .m .looking):Stp l P ro G W ((G.tick W.id).set W.jq.toNat {G.tk W.jq.toNat with cJ:=[((G.tk W.jq.toNat).own,m)]}) W'
 |aeR {M:bJ} {t':Tk} {W':Wk} (ne:W.stack≠ []) (r:BT P G.ts.length (G.tk W.tp)) (lt:G.steps<l.fuel) (h:aP6 P G (G.tk W.tp) t') (q:aP3 (W.cT≠ .m .pF) W.nsp ro W.id G.M M) (k:aP5 W W') (o:aP4 W):Stp l P ro G W (({G with M:=M}.set W.tp t').lZ) W'
 |ends {M:bJ} {W':Wk} (ne:W.stack≠ []) (h:SE G (G.tk W.tp)) (q:aP3 (W.cT≠ .m .pF) W.nsp ro W.id G.M M) (k:aP5 W W') (o:aP4 W) (nf:W.cT≠ .m .fin):Stp l P ro G W ({G with M:=M}.set W.tp {G.tk W.tp with kind:=4,v:=0}) W'
 |fork (ne:W.stack≠ []) (hd:W.cT= .m .fork) (r:BT P G.ts.length (G.tk W.tp)) (h8:Ip P (G.tk W.tp)=8) (rm:G.M.room 2=true):Stp l P ro G W {G with M:=(G.M.tick W.id).grow 2,C:=G.C++[⟨(G.tk W.tp).kA.1,wr ((G.nd (G.tk W.tp).kA.1).nest+1),(G.M.cells.length:Nat)⟩],P:=G.P++[(-2,0,0,false)]} {W with own:=(G.C.length:Nat),cT:= .m .xo}
 |xo (ne:W.stack≠ []) (hd:W.cT= .m .xo) (r:BT P G.ts.length (G.tk W.tp)) (h8:Ip P (G.tk W.tp)=8) (lt:G.steps<l.fuel) (rm:G.M.room 3=true):Stp l P ro G W (aFY P G W) {W with jq:=(G.ts.length:Nat),cT:= .m .tF}
 |tF (ne:W.stack≠ []) (hd:W.cT= .m .tF) (r:BT P G.ts.length (G.tk W.tp)):Stp l P ro G W (G.mem (G.M.ad W.id ((G.nd (G.tk W.tp).kA.1).at_+1) 1)) (W.A6 (bu.B7 W.dq l.log W.jq 0) (.c .um))
 |opens (ne:W.stack≠ []) (hd:W.cT= .m .opens) (r:BT P G.ts.length (G.tk W.tp)) (h11:Ip P (G.tk W.tp)=11) (lt:G.steps<l.fuel) (rm:G.M.room 2=true) (n32:¬wr ((G.nd (G.tk W.tp).kA.1).nest+1)>32):Stp l P ro G W (aok P G W) (W.go .next)
 |gL (ne:W.stack≠ []) (hd:W.cT= .m .gL) (r:BT P G.ts.length (G.tk W.tp)) (h12:Ip P (G.tk W.tp)=12) (lt:G.steps<l.fuel):Stp l P ro G W (atV P G W) (W.go .next)
 |cancel (ne:W.stack≠ []) (hd:W.cT= .m .cancel) (r:BT P G.ts.length (G.tk W.tp)) (h13:Ip P (G.tk W.tp)=13) (lt:G.steps<l.fuel):Stp l P ro G W (((G.mem (G.M.cs W.id (G.nd (G.tk W.tp).kA.1).at_ 0 1).1).set W.tp {G.tk W.tp with f:=nE (G.tk W.tp).f}).lZ) (W.JF (.m .next))
 |unwind (ne:W.stack≠ []) (hd:W.cT= .m .stops) (e:Ends (G.tk W.tp)) (ho:(G.tk W.tp).cJ≠ []) {W':Wk} (k:aP5 W W') (hu:W.pG= .c .qI) (hw:¬W'.emp):Stp l P ro G W (G.Zv W.tp (G.tk W.tp)) W'
 |put (ne:W.stack≠ []) (hd:W.cT= .m .put) (e:Ends (G.tk W.tp)) (ho:(G.tk W.tp).cJ=[]) (k4:(G.tk W.tp).kind≠4):Stp l P ro G W (G.mem ((G.M.tick W.id).put ((G.tk W.tp).jI+1) (G.tk W.tp).v)) (W.go .fin)
 |fin (ne:W.stack≠ []) (hd:W.cT= .m .fin) (e:Ends (G.tk W.tp)) (ho:(G.tk W.tp).cJ=[]):Stp l P ro G W (G.mem (G.M.cs W.id ((G.tk W.tp).jI+0) 1 (G.tk W.tp).kind).1) (W.go .asks)
 |asks (ne:W.stack≠ []) (hd:W.cT= .m .asks):Stp l P ro G W (G.tick W.id) {W with bits:=G.M.get ((G.tk W.tp).jI+2),cT:= .m .gone}
 |gone {W':Wk} (ne:W.stack≠ []) (hd:W.cT= .m .gone) (e:Ends (G.tk W.tp)) (ho:(G.tk W.tp).cJ=[]) (k:W'.stack=W.stack.tail∧W'.back=W.back.tail∧aP4 W') (hw:¬W'.emp):Stp l P ro G W (G.mem (G.M.ad W.id ((G.nd (G.tk W.tp).l7).at_+1) (-1))) W'
variable{M:bJ}{d:Int}{e:Prop}{O:bu}{x:Nat}
section
variable{l:Lc}{P:List dB}{bw:List Int}{ro iT:List Ro}{G G' G1:Gl}{W W' W1:Wk}{t t':Tk}{n i y:Nat}{s a v:Int}{r:Ro}{k:Kn}{wk:Int}
def aP3.aet{d:Prop}:aP3 d e ro wk M M:=⟨λ_ _ _ _=>rfl,.inl rfl,iw _⟩
def aP3.acN{d:Prop}:aP3 d e ro wk M (M.tick wk):=⟨λ_ _ _ _=>rfl,.inr rfl,iw _⟩
def as7{d:Prop}(h:Ty l ro G)(c:M.cells=G.M.cells)(hL:k9 ro a r)(hr:¬r.st d e):∀b s,k9 ro b s→s.st d e→(M.put a v).get b=G.M.get b:=λb s hb hs=>by
 have hne:b≠a:=hb.ne hL (by rintro rfl;exact hr hs)
 rw[SC hL.1 hb.1 hne];unfold bJ.get;rw[c]
def aP3.ad{d e:Prop}(h:Ty l ro G)(hL:k9 ro a r)(hr:¬r.st d e):aP3 d e ro wk G.M (G.M.ad wk a v):=⟨as7 (M:=G.M.tick wk) h rfl hL hr,.inr rfl,by rw[aDi];exact iw _⟩
def aP3.cs{o:Int}{d e:Prop}(h:Ty l ro G)(hL:k9 ro a r)(hr:¬r.st d e):aP3 d e ro wk G.M (G.M.cs wk a o v).1:=by
 unfold bJ.cs;split
 ·exact⟨as7 (M:=G.M.tick wk) h rfl hL hr,.inr rfl,bf⟩
 ·exact .acN
def aP3.op{u:Nat}{rr:bu×bJ}{e2:Prop}(he:¬e)(hr:OpR l ro iT G wk u d O rr):aP3 e e2 ro wk G.M rr.2:=
 ⟨λa s hs hp=>hr.same a s hs (by cases s<;>first|exact(he hp).elim|exact hp.elim|exact λq=>q),hr.tick,hr.used⟩
def aP3.sp{d e:Prop}(he:¬e)(h:Ty l ro G)(o:jH):aP3 d e ro wk G.M (o.go l.sp G.M wk).2:=by
 unfold jH.go;split
 ·exact .aet
 ·exact .ad h h.Ye id
 ·exact .ad h h.Ye id
 ·exact .acN
 ·exact .acN
 ·exact .acN
 ·exact .cs h h.OI he
def arO{st:List Nat}(h:EP P G st k):k≠Kn.m .start∧k≠Kn.m .xo∧k≠Kn.m .tF∧k≠Kn.m .asks∧k≠Kn.m .gone:=by
 unfold EP at h;split at h
 ·subst h;simp
 ·unfold rq at h;split at h
  ·simp
  ·simp
  ·simp
  ·simp
  ·exact h.elim
def aFZ{st:List Nat}{b:List Kn}(h:KU P G (x::st) b):b.headD .no≠Kn.m .start∧b.headD .no≠Kn.m .xo∧b.headD .no≠Kn.m .tF∧b.headD .no≠Kn.m .asks∧b.headD .no≠Kn.m .gone:=by
 cases b with
 |nil=>exact h.elim
 |cons k b=>exact arO h.2.1
def rC.aP7(h:rC P G W):W.again≠Kn.m .start∧W.again≠Kn.m .xo∧W.again≠Kn.m .tF∧W.again≠Kn.m .asks∧W.again≠Kn.m .gone:=by
 obtain⟨y,e,_⟩|⟨k,e,_⟩:=h.cases<;>rw[e] <;>simp
def aaA{m:Mt}(hd:W.cT= .m m)(h:(decide (m= .start)||decide (m= .xo)||decide (m= .tF)||decide (m= .asks)||decide (m= .gone))=false):aP4 W:=by
 unfold aP4;rw[hd];simpa[and_assoc]using h
def acf:aP5 W (Go.Proofs.YthidhjhkmjjckaaGreatDoor.unwind W t):=by
 unfold Go.Proofs.YthidhjhkmjjckaaGreatDoor.unwind;split
 ·exact⟨rfl,rfl,by simp[aP4,Wk.go]⟩
 ·exact⟨rfl,rfl,by simp[aP4,shut,Wk.drain]⟩
def aoq{m:Mt}(h:W.cT= .m m)(h1:m≠ .stops)(h2:m≠ .gL):¬W.emp:=by
 rintro(⟨q,_⟩|q)
 ·rw[h]at q;exact h1 (Kn.m.inj q)
 ·rw[h]at q;exact h2 (Kn.m.inj q)
def apd:¬(Go.Proofs.YthidhjhkmjjckaaGreatDoor.unwind W t).emp:=by
 unfold Go.Proofs.YthidhjhkmjjckaaGreatDoor.unwind;split
 ·exact aoq (m:= .put) rfl e7 e7
 ·exact aoq (m:= .ul) rfl e7 e7
def aEm{st:List Nat}(h:EP P G st k)(hd:W.cT=k):¬W.emp:=by
 have hk:k≠ .m .stops∧k≠ .m .gL:=by
  unfold EP at h;split at h
  ·subst h;simp
  ·unfold rq at h;split at h
   ·simp
   ·simp
   ·simp
   ·simp
   ·exact h.elim
 rintro(⟨q,_⟩|q)
 ·exact hk.1 (hd.symm.trans q)
 ·exact hk.2 (hd.symm.trans q)
def aku:aP5 W (y5 l G W).2:=by
 unfold y5;dsimp only;split
 ·exact⟨rfl,rfl,by simp[aP4,Wk.go]⟩
 split
 ·exact⟨rfl,rfl,by simp[aP4]⟩
 ·exact⟨rfl,rfl,by simp[aP4,Wk.go]⟩
def aeu(h:rC P G W):aP5 W (nothing G W).2:=by
 have hc:=h.aP7;unfold nothing;dsimp only;split
 ·exact⟨rfl,rfl,hc⟩
 split
 ·exact⟨rfl,rfl,by simp[aP4,Wk.go]⟩
 split
 ·exact⟨rfl,rfl,by simp[aP4]⟩
 ·exact⟨rfl,rfl,by simp[aP4]⟩
def ah7(hS:Dx l P G W):aP5 W (KR l G W t bw).2∧(KR l G W t bw).1=G:=by
 unfold KR;split
 ·unfold alM;rcases hS.what with⟨_,_,_,a4⟩|⟨a1,_,_,a4⟩
  ·rw[if_pos a4];exact⟨aku,rfl⟩
  ·rw[if_neg (by rw[a4];simp)];exact⟨aeu a1,rfl⟩
 ·exact⟨⟨rfl,rfl,by simp[aP4,Wk.A6]⟩,rfl⟩
def aP5.of(h:aP5 W1 W')(h1:W1.stack=W.stack)(h2:W1.back=W.back):aP5 W W':=⟨by rw[h.s,h1],by rw[h.b,h2],h.m⟩
def Stp.q{r:SW}(o:aP4 W)(a:r.1=G∨r.1=G.tick W.id)(k:aP5 W r.2):Stp l P ro G W r.1 r.2:=by
 rcases a with e|e<;>rw[e]
 ·exact .quiet (M:=G.M) (D:=G.D) .aet k o (.inl rfl)
 ·exact .quiet (M:=G.M.tick W.id) (D:=G.D) .acN k o (.inl rfl)
def Stp.f{e:Int}(o:W.cT≠ .m .gone∧W.cT≠ .m .tF)(a:G1=G∨G1=G.tick W.id)(he:e≠0)(k:W'.stack=W.stack∧W'.back=W.back∧W'.cT=W.cT∧W'.jq=W.jq∧W'.own=W.own):Stp l P ro G W (G1.fail e) W':=by
 rcases a with e1|e1<;>rw[e1]
 ·exact .fail (M:=G.M) .aet he k o
 ·exact .fail (M:=G.M.tick W.id) .acN he k o
def aew:aP5 W (dK G W t).2∧(dK G W t).1=G:=by
 unfold dK;split
 ·exact⟨⟨rfl,rfl,by simp[aP4,vQ,Wk.search]⟩,rfl⟩
 ·exact⟨⟨rfl,rfl,by simp[aP4,Wk.go]⟩,rfl⟩
def aep(o:aP4 W)(nf:W.cT≠ .m .fin)(a:G1=G∨G1=G.tick W.id)(ne:W.stack≠ [])(hc:SE G (G.tk W.tp))(h1:W1.stack=W.stack)(h2:W1.back=W.back):Stp l P ro G W (ends G1 W1 W.tp (G.tk W.tp) 4 0).1 (ends G1 W1 W.tp (G.tk W.tp) 4 0).2:=by
 unfold Go.Proofs.YthidhjhkmjjckaaGreatDoor.ends;rcases a with e|e<;>rw[e]
 ·exact .ends (M:=G.M) ne hc .aet (acf.of h1 h2) o nf
 ·exact .ends (M:=G.M.tick W.id) ne hc .acN (acf.of h1 h2) o nf
def akv(o:aP4 W)(a:G1=G∨G1=G.tick W.id)(ne:W.stack≠ [])(r:BT P G.ts.length (G.tk W.tp))(h1:W1.stack=W.stack)(h2:W1.back=W.back)(h3:W1.cT=W.cT∧W1.jq=W.jq∧W1.own=W.own):Stp l P ro G W (afr l G1 W1 W.tp (G.tk W.tp) (bz P (G.tk W.tp).f)).1 (afr l G1 W1 W.tp (G.tk W.tp) (bz P (G.tk W.tp).f)).2:=by
 have e1:G1.steps=G.steps:=by rcases a with e|e<;>rw[e] <;>rfl
 unfold afr;split
 ·exact .f ⟨o.2.2.2.2,o.2.2.1⟩ a e7 ⟨h1,h2,h3⟩
 rename_i hf;rw[e1]at hf;split
 ·rename_i hp;have k:aP5 W (W1.go .next):=⟨h1,h2,by simp[aP4,Wk.go]⟩
  rcases a with e|e<;>rw[e]
  ·exact .aeR (M:=G.M) ne r af (.plain hp) .aet k o
  ·exact .aeR (M:=G.M.tick W.id) ne r af (.plain hp) .acN k o
 ·refine .q (r:=(G1,_)) o a ⟨h1,h2,?_⟩;unfold aP4 Wk.go adl;dsimp only;generalize ((bz P (G.tk W.tp).f).getD 0 0 - 8).toNat=z;match z with
  |0|1|2|3|4|5|6|7|8=>simp
  |z+9=>simp
end
section
variable{l:Lc}{P:List dB}{bw:List Int}{ro iT:List Ro}{G G' G1:Gl}{W W' W1:Wk}{t t':Tk}{n i y:Nat}{s a v:Int}{r:Ro}{k:Kn}{wk:Int}
abbrev aP8(l:Lc)(P:List dB)(ro:List Ro)(G:Gl)(W:Wk)(r:SW):Prop:=Stp l P ro G W r.1 r.2
def aF0(c:Cx l P bw ro G i W)(a:W.cT= .m .pF)(hop:W.op=some O):aP8 l P ro G W (pF l G W O (G.tk W.tp) bw G.vJ):=by
 have ct:=c.ct;unfold cD at ct;rw[a]at ct;dsimp only at ct;obtain⟨O',b,ct⟩:=ct;rw[hop]at b;cases b;have key:∀(u:Nat) (d:Int),ZH ro u d→Cb l ro G.ts.length u d O→(∀r:bu×bJ,r.1.how≠0→aP5 W (zj l (G.mem r.2) {W with op:=some r.1} (G.tk W.tp) bw G.vJ r.1.how).2∧(zj l (G.mem r.2) {W with op:=some r.1} (G.tk W.tp) bw G.vJ r.1.how).1=G.mem r.2)→aP8 l P ro G W (pF l G W O (G.tk W.tp) bw G.vJ):=by
  intro u d hd hO ha;obtain⟨iT,hr⟩:=aj2 c.lg c.ty hd c.caller hO;unfold pF;dsimp only;generalize O.step G.M W.id=r at hr ⊢;split
  ·exact .quiet (M:=r.2) (D:=G.D) (.op (by rw[a];simp) hr) ⟨rfl,rfl,aaA (m:= .pF) a rfl⟩ (aaA a rfl) (.inl rfl)
  split
  ·rename_i e;exact .fail (M:=r.2) (.op (by rw[a];simp) hr) (hr.err e) ⟨rfl,rfl,rfl,rfl,rfl⟩ (by rw[a];simp)
  ·rename_i e0 _;obtain⟨h1,h2⟩:=ha r e0;show Stp l P ro G W _ _;rw[h2];exact .quiet (M:=r.2) (D:=G.D) (.op (by rw[a];simp) hr) h1 (aaA a rfl) (.inl rfl)
 have j:∀r:bu×bJ,rC P G W→rC P (G.mem r.2) {W with op:=some r.1}:=λr q=>⟨q.ne,q.hm,q.tg⟩
 have f:∀r:bu×bJ,Dx l P G W→Dx l P (G.mem r.2) {W with op:=some r.1}:=λr q=>⟨q.how,q.left,q.what.imp id λz=>⟨j r z.1,z.2⟩⟩
 have g:=c.idn;rw[g]at ct;split at ct
 ·rename_i ha;refine key i W.dq c.own ct.2.2.1 λr h0=> ?_;have e:zj l (G.mem r.2) {W with op:=some r.1} (G.tk W.tp) bw G.vJ r.1.how=F9 (G.mem r.2) {W with op:=some r.1} r.1.how:=by unfold zj;dsimp only;rw[ha]
  rw[e];unfold F9;refine⟨?_,rfl⟩;dsimp only;split
  ·exact⟨rfl,rfl,by simp[aP4,Wk.HE]⟩
  ·exact⟨rfl,rfl,by simp[aP4,Wk.search]⟩
 ·rename_i ha;refine key i W.dq c.own ct.2.2.2.1 λr h0=> ?_;have e:zj l (G.mem r.2) {W with op:=some r.1} (G.tk W.tp) bw G.vJ r.1.how=um (G.mem r.2) {W with op:=some r.1} r.1.how:=by unfold zj;dsimp only;rw[ha]
  rw[e];unfold um;refine⟨?_,rfl⟩;dsimp only;split
  ·exact⟨rfl,rfl,by simp[aP4,Wk.HE]⟩
  ·exact⟨rfl,rfl,by simp[aP4,Wk.JF]⟩
 ·rename_i ha;refine key i W.dq c.own ct.2.2.2.1 λr h0=> ?_;have e:zj l (G.mem r.2) {W with op:=some r.1} (G.tk W.tp) bw G.vJ r.1.how=td (G.mem r.2) {W with op:=some r.1} (G.tk W.tp) r.1.how:=by unfold zj;dsimp only;rw[ha]
  rw[e];unfold td;split
  ·obtain⟨h1,h2⟩:=aew (G:=G.mem r.2) (W:={W with op:=some r.1}) (t:=G.tk W.tp);exact⟨h1.of rfl rfl,h2⟩
  ·exact⟨⟨rfl,rfl,by simp[aP4,BQ,Wk.stop]⟩,rfl⟩
 ·rename_i ha;obtain⟨a1,⟨u,b1,b2,b3,b4⟩,a3⟩:=ct;refine key u _ (c.dq u b1) b3 λr h0=> ?_;have e:zj l (G.mem r.2) {W with op:=some r.1} (G.tk W.tp) bw G.vJ r.1.how=Uv l (G.mem r.2) {W with op:=some r.1} (G.tk W.tp) bw G.vJ r.1.how:=by unfold zj;dsimp only;rw[ha]
  rw[e];unfold Uv;split
  ·obtain⟨h1,h2⟩:=ah7 (l:=l) (t:=G.tk W.tp) (bw:=bw) (f r a1);exact⟨h1.of rfl rfl,h2⟩
  ·exact⟨⟨rfl,rfl,aaA (m:= .pF) a rfl⟩,rfl⟩
 ·rename_i ha;obtain⟨a1,⟨u,b1,b2,b3,b4⟩,a3⟩:=ct;refine key u _ (c.dq u b1) b3 λr h0=> ?_;have e:zj l (G.mem r.2) {W with op:=some r.1} (G.tk W.tp) bw G.vJ r.1.how=AL l (G.mem r.2) {W with op:=some r.1} (G.tk W.tp) bw r.1.how:=by unfold zj;dsimp only;rw[ha]
  rw[e];unfold AL;split
  ·unfold auJ;split
   ·exact⟨⟨rfl,rfl,by simp[aP4,BQ,Wk.stop]⟩,rfl⟩
   ·exact⟨⟨rfl,rfl,by simp[aP4,Wk.HE]⟩,rfl⟩
  ·have h:=f r a1;obtain⟨h1,h2⟩:=ah7 (l:=l) (t:=G.tk W.tp) (bw:=bw) (W:={W with op:=some r.1,late:=true}) (G:=G.mem r.2) ⟨h.how,h.left,h.what.imp id λz=>⟨⟨z.1.ne,z.1.hm,z.1.tg⟩,z.2⟩⟩
   exact⟨h1.of rfl rfl,h2⟩
 ·exact ct.elim
def ao8{k:Lk}(c:Cx l P bw ro G i W)(a:W.cT= .m .looking)(hk:W.look=some k):aP8 l P ro G W (looking l G W k (G.nd k.at_) W.tp (G.tk W.tp)):=by
 have ct:=c.ct;unfold cD at ct;rw[a]at ct;dsimp only at ct;obtain⟨k',hk',a1,a2,a3,a4,a5⟩:=ct;rw[hk]at hk';cases hk';obtain⟨hsc,_⟩:=c.ty.O7 a2.1 a2.2;have hc:(k.go G.M (G.nd k.at_)).xm=true→SE G (G.tk W.tp):=λq=>by
  unfold Lk.go at q;dsimp only at q;exact⟨k.at_,a3,_,hsc,by simpa using q⟩
 unfold looking;dsimp only;split
 ·unfold Sy;dsimp only;split at a5
  ·rename_i hs;rw[hs];dsimp only;unfold adm;rw[a5.2];split
   ·rename_i hi;exact aep (aaA a rfl) (by rw[a];simp) (.inr rfl) a4 (hc hi) rfl rfl
   ·exact akv (aaA a rfl) (.inr rfl) a4 a5.1 rfl rfl ⟨rfl,rfl,rfl⟩
  ·rename_i hs;rw[hs];dsimp only;unfold th;refine .q (aaA a rfl) (.inr rfl) ?_;dsimp only;split
   ·exact⟨rfl,rfl,by simp[aP4,Wk.stop]⟩
   ·exact⟨rfl,rfl,by simp[aP4,Wk.go]⟩
  ·rename_i hs;rw[hs];dsimp only;unfold xp;split
   ·rename_i hi;exact aep (aaA a rfl) (by rw[a];simp) (.inr rfl) a4 (hc hi) rfl rfl
   ·exact .q (r:=(G.tick W.id,_)) (aaA a rfl) (.inr rfl) ⟨rfl,rfl,by simp[aP4,Wk.go]⟩
  ·exact a5.elim
 ·exact .q (r:=(G.tick W.id,_)) (aaA a rfl) (.inr rfl) ⟨rfl,rfl,aaA (m:= .looking) a rfl⟩
def axc(o:aP4 W)(c:rC P G W)(h1:W1.stack=W.stack)(h2:W1.back=W.back)(h3:W1.again=W.again)(h4:W1.id=W.id):aP8 l P ro G W (again l G W1 t):=by
 unfold again;obtain⟨y,e,_⟩|⟨k,e,_⟩:=c.cases
 ·rw[h3,e];dsimp only;unfold Gi;refine .q o (.inr (by rw[h4])) ⟨h1,h2,by simp[aP4,Wk.looks]⟩
 ·rw[h3,e];exact .q o (.inl rfl) ⟨h1,h2,by simp[aP4,shut,Wk.drain]⟩
def arP(c:Cx l P bw ro G i W)(a:W.cT= .m .joined):aP8 l P ro G W (joined l P G W W.tp (G.tk W.tp) (G.tk (W.target.getD 0))):=by
 have ct:=c.ct;unfold cD at ct;rw[a]at ct;dsimp only at ct;obtain⟨a1,a2,a3,a4⟩:=ct;obtain⟨y,h1,h2,h3⟩|⟨k,h1,_⟩:=a1.cases;rotate_left
 ·rw[h1]at a2;cases a2
 obtain⟨b1,b2,b3,b4⟩:=h3;have hy:W.target.getD 0=y:=by rw[h2];rfl
 rw[hy]at a3 ⊢;unfold joined;dsimp only;split
 ·exact .f (by rw[a];simp) (.inl rfl) e7 ⟨rfl,rfl,rfl,rfl,rfl⟩
 rename_i hf;have e0:(if W.kind=4 then(0:Int)else G.M.get ((G.tk y).jI+1))=if G.K y=4 then 0 else G.V y:=by rw[a3];rfl
 rw[e0,a3];have hq:aP3 (W.cT≠ .m .pF) W.nsp ro W.id G.M (if G.K y=4 then G else G.tick W.id).M:=by split;exact .aet;exact .acN
 have e1:(if G.K y=4 then G else G.tick W.id)={G with M:=(if G.K y=4 then G else G.tick W.id).M}:=by split<;>rfl
 rw[a3]at a4;rw[e1];cases hb:(di (G.tk W.tp).f (bz P (G.tk W.tp).f) (G.K y) (if G.K y=4 then 0 else G.V y)).2.2 with
 |true=>
  rw[if_pos rfl];exact .aeR a1.ne b1 af (.bad b2 b3 b4 a4 hb) hq (acf.of rfl rfl) (aaA a rfl)
 |false=>
  rw[if_neg e7];exact .aeR a1.ne b1 af (.join b2 b3 b4 a4 hb) hq ⟨rfl,rfl,by simp[aP4,Wk.go]⟩ (aaA a rfl)
def axd(c:Cx l P bw ro G i W)(a:W.cT= .m .stops):aP8 l P ro G W (stops l G W W.tp (G.tk W.tp) G.vJ G.V8):=by
 have ct:=c.ct;unfold cD at ct;rw[a]at ct;dsimp only at ct;obtain⟨a1,a2,a3⟩:=ct;have d:∀W':Wk,W'.cT=W.cT→aP4 W':=λW' e=>aaA (m:= .stops) (e.trans a) rfl;unfold stops;split
 ·refine .quiet (D:=G.D) (.sp (by unfold Wk.nsp;rw[a];simp) c.ty (W.step.getD (jH.B7 0 2))) ?_ (aaA a rfl) (.inl rfl)
  dsimp only;split
  ·exact⟨rfl,rfl,d _ rfl⟩
  ·exact⟨rfl,rfl,d _ rfl⟩
 rename_i hb;have hb:W.blocked=false:=by simpa using hb
 split
 ·rename_i hr;have b:=c.fl.SG hr;obtain⟨y,h1,h2,h3⟩|⟨k,h1,_⟩:=a1.cases;rotate_left
  ·rw[h1]at b;cases b
  have hy:W.target.getD 0=y:=by rw[h2];rfl
  have g:y<G.ts.length:=h3.2.2.2;have hL:=(c.ty.qh g).w;have f:G.V8 y=(G.tk y).jI:=by unfold Gl.V8 Gl.tk;rw[iH g];rfl
  rw[hy,f];exact .quiet (D:=G.D) (.ad c.ty hL id) ⟨rfl,rfl,d _ rfl⟩ (aaA a rfl) (.inl rfl)
 unfold pG;split at a3
 ·rename_i e;rw[e];exact aep (aaA a rfl) (by rw[a];simp) (.inl rfl) a1.ne a3.2 rfl rfl
 ·rename_i y k e;rw[e];exact .q (aaA a rfl) (.inl rfl) ⟨rfl,rfl,by simp[aP4,Wk.HE]⟩
 ·rename_i y k e;rw[e];exact .q (aaA a rfl) (.inl rfl) ⟨rfl,rfl,by simp[aP4,Wk.HE]⟩
 ·rename_i e;rw[e];exact .q (aaA a rfl) (.inl rfl) ⟨rfl,rfl,by simp[aP4,Wk.go]⟩
 ·rename_i e;rw[e];exact .q (aaA a rfl) (.inl rfl) ⟨rfl,rfl,by simp[aP4,Wk.go]⟩
 ·rename_i e;have e0:=e;rw[e];have hm:=a1.hm;rw[a3]at hm;dsimp only;unfold qI;exact .unwind a1.ne a hm.1 hm.2 acf e0 apd
 ·exact a3.elim
def aib(c:Cx l P bw ro G i W)(hfr:∀y,y<G.ts.length→G.K y=0→OJ P G.ts.length (G.tk y)):aP8 l P ro G W (ZB l P G W bw):=by
 have ct:=c.ct;unfold ZB;dsimp only;cases a:W.cT with
 |m f=>
  unfold cD at ct;rw[a]at ct;cases f with
  |rest=>exact .q (aaA a rfl) (.inr rfl) ⟨rfl,rfl,by simp[aP4,rest,Wk.A6]⟩
  |pF=>
   dsimp only at ct ⊢;obtain⟨O,hO,_⟩:=ct;rw[hO];exact aF0 c a hO
  |looking=>
   dsimp only at ct ⊢;obtain⟨k,hk,_⟩:=ct;rw[hk];exact ao8 c a hk
  |tell=>
   have h:=arO (G:=G) (P:=P) ct;exact .quiet (D:=G.D) (.ad c.ty c.ty.told id) ⟨rfl,rfl,h⟩ (aaA a rfl) (.inl rfl)
  |others=>
   dsimp only at ct ⊢;unfold others;have hs:aP5 W (KR l {G.tick W.id with D:=G.D.tail} {W with left:=VU (G.D.headD 0) (xI W.id (l.sp.bits G.M) (G.M.get l.idle) l.wa.length)} (G.tk W.tp) bw).2∧(KR l {G.tick W.id with D:=G.D.tail} {W with left:=VU (G.D.headD 0) (xI W.id (l.sp.bits G.M) (G.M.get l.idle) l.wa.length)} (G.tk W.tp) bw).1={G.tick W.id with D:=G.D.tail}:=by
    unfold KR;split
    ·unfold alM;rcases ct.what with⟨_,_,_,a4⟩|⟨a1,_,_,a4⟩
     ·rw[if_pos (show W.none_=_ from a4)];exact⟨aku.of rfl rfl,rfl⟩
     ·rw[if_neg (by show¬W.none_=_;rw[show W.none_=_ from a4];simp)]
      exact⟨(aeu (P:=P) (G:={G.tick W.id with D:=G.D.tail}) (W:={W with left:=VU (G.D.headD 0) (xI W.id (l.sp.bits G.M) (G.M.get l.idle) l.wa.length)}) ⟨a1.ne,a1.hm,a1.tg⟩).of rfl rfl,rfl⟩
    ·exact⟨⟨rfl,rfl,by simp[aP4,Wk.A6]⟩,rfl⟩
   show Stp l P ro G W _ _;rw[hs.2];exact .quiet (M:=G.M.tick W.id) (D:=G.D.tail) .acN hs.1 (aaA a rfl) (.inr rfl)
  |xn=>
   dsimp only at ct ⊢;obtain⟨_,_,o,ho,_⟩:=ct;rw[ho];dsimp only;unfold xn;refine .quiet (D:=G.D) (.sp (by unfold Wk.nsp;rw[a];simp) c.ty o) ?_ (aaA a rfl) (.inl rfl)
   dsimp only;split
   ·refine⟨rfl,rfl,?_⟩;unfold aP4;dsimp only;split<;>simp
   ·exact⟨rfl,rfl,aaA (m:= .xn) a rfl⟩
  |So=>exact .quiet (D:=G.D) (.ad c.ty c.ty.idle id) ⟨rfl,rfl,by simp[aP4,So]⟩ (aaA a rfl) (.inl rfl)
  |JA=>exact .quiet (D:=G.D) (.ad c.ty c.ty.idle id) ⟨rfl,rfl,by simp[aP4,JA]⟩ (aaA a rfl) (.inl rfl)
  |tE=>
   dsimp only at ct ⊢;have h:=arO (G:=G) (P:=P) ct.2;have hl:W.jq.toNat<G.ts.length:=af;unfold tE;rw[ay2];by_cases h0:G.M.get ((G.tk W.jq.toNat).jI+0)=0
   ·simp only[h0,decide_true,if_true];exact .jq a ⟨hl,by unfold Gl.K;rw[Int.add_zero]at h0;exact h0⟩
   ·simp only[h0,decide_false];have e:(G.M.cs W.id ((G.tk W.jq.toNat).jI+0) 0 1).1=G.M.tick W.id:=by unfold bJ.cs;rw[if_neg h0]
    rw[e];exact .q (r:=(G.tick W.id,_)) (aaA a rfl) (.inr rfl) ⟨rfl,rfl,h⟩
  |start=>
   dsimp only at ct ⊢;unfold OF;split
   ·exact .f (by rw[a];simp) (.inl rfl) e7 ⟨rfl,rfl,rfl,rfl,rfl⟩
   ·exact .start a ⟨rfl,rfl,rfl⟩
  |next=>
   dsimp only at ct ⊢;unfold V7;split
   ·exact .q (aaA a rfl) (.inl rfl) ⟨rfl,rfl,by simp[aP4,Wk.looks]⟩
   ·exact akv (aaA a rfl) (.inl rfl) ct.1 ct.2 rfl rfl ⟨rfl,rfl,rfl⟩
  |fork=>
   dsimp only at ct ⊢;unfold fork;split
   ·exact .f (by rw[a];simp) (.inl rfl) e7 ⟨rfl,rfl,rfl,rfl,rfl⟩
   split
   ·exact .f (by rw[a];simp) (.inl rfl) e7 ⟨rfl,rfl,rfl,rfl,rfl⟩
   rename_i hr;exact .fork ct.1 a ct.2.1 ct.2.2 (by simpa using hr)
  |xo=>
   dsimp only at ct ⊢;unfold KQ;dsimp only;split
   ·exact .f (by rw[a];simp) (.inl rfl) e7 ⟨rfl,rfl,rfl,rfl,rfl⟩
   split
   ·exact .f (by rw[a];simp) (.inl rfl) e7 ⟨rfl,rfl,rfl,rfl,rfl⟩
   rename_i hf hr;exact .xo ct.1 a ct.2.1 ct.2.2.1 af (by simpa using hr)
  |tF=>exact .tF ct.1 a ct.2.1
  |join=>
   dsimp only at ct ⊢;unfold join;dsimp only;unfold Gi;exact .q (aaA a rfl) (.inr rfl) ⟨rfl,rfl,by simp[aP4,Wk.looks]⟩
  |cJ=>exact .q (aaA a rfl) (.inr rfl) ⟨rfl,rfl,by simp[aP4,cJ]⟩
  |opens=>
   dsimp only at ct ⊢;by_cases h1:G.steps≥l.fuel
   ·unfold Go.Proofs.YthidhjhkmjjckaaGreatDoor.opens;dsimp only;rw[if_pos h1];exact .f (by rw[a];simp) (.inl rfl) e7 ⟨rfl,rfl,rfl,rfl,rfl⟩
   by_cases h2:wr ((G.nd (G.tk W.tp).kA.1).nest+1)>32
   ·unfold Go.Proofs.YthidhjhkmjjckaaGreatDoor.opens;dsimp only;rw[if_neg h1,if_pos h2];exact .f (by rw[a];simp) (.inl rfl) e7 ⟨rfl,rfl,rfl,rfl,rfl⟩
   by_cases h3:G.M.room 2=false
   ·unfold Go.Proofs.YthidhjhkmjjckaaGreatDoor.opens;dsimp only;rw[if_neg h1,if_neg h2,if_pos h3];exact .f (by rw[a];simp) (.inl rfl) e7 ⟨rfl,rfl,rfl,rfl,rfl⟩
   have e:Go.Proofs.YthidhjhkmjjckaaGreatDoor.opens l P G W W.tp (G.tk W.tp) (G.nd (G.tk W.tp).kA.1) (G.pk (G.tk W.tp).kA.1)=(aok P G W,W.go .next):=by unfold Go.Proofs.YthidhjhkmjjckaaGreatDoor.opens;dsimp only;rw[if_neg h1,if_neg h2,if_neg h3];rfl
   show Stp l P ro G W _ _;rw[e];exact .opens ct.1 a ct.2.1 ct.2.2 af (by simpa using h3) h2
  |close=>exact .q (aaA a rfl) (.inl rfl) ⟨rfl,rfl,by simp[aP4,close_,shut,Wk.drain]⟩
  |gL=>
   dsimp only at ct ⊢;by_cases h1:G.steps≥l.fuel
   ·unfold Go.Proofs.YthidhjhkmjjckaaGreatDoor.gL;dsimp only;rw[if_pos h1];exact .f (by rw[a];simp) (.inl rfl) e7 ⟨rfl,rfl,rfl,rfl,rfl⟩
   have e:Go.Proofs.YthidhjhkmjjckaaGreatDoor.gL l P G W W.tp (G.tk W.tp) (G.nd (G.tk W.tp).kA.1)=(atV P G W,W.go .next):=by unfold Go.Proofs.YthidhjhkmjjckaaGreatDoor.gL;dsimp only;rw[if_neg h1];rfl
   show Stp l P ro G W _ _;rw[e];exact .gL ct.1 a ct.2.1 ct.2.2 af
  |cancel=>
   dsimp only at ct ⊢;unfold Go.Proofs.YthidhjhkmjjckaaGreatDoor.cancel;split
   ·exact .f (by rw[a];simp) (.inl rfl) e7 ⟨rfl,rfl,rfl,rfl,rfl⟩
   rename_i hf;exact .cancel ct.1 a ct.2.1 ct.2.2 af
  |pass=>
   dsimp only at ct ⊢;unfold pass;split
   ·exact .f (by rw[a];simp) (.inl rfl) e7 ⟨rfl,rfl,rfl,rfl,rfl⟩
   rename_i hf;exact .aeR (M:=G.M) ct.1 ct.2.1 af (.pass ct.2.2) .aet ⟨rfl,rfl,by simp[aP4,Wk.go]⟩ (aaA a rfl)
  |leave=>
   dsimp only at ct ⊢;unfold leave;dsimp only;split
   ·exact .f (by rw[a];simp) (.inl rfl) e7 ⟨rfl,rfl,rfl,rfl,rfl⟩
   rename_i hf;exact .aeR (M:=G.M) ct.1 ct.2.1 af (.leave ct.2.2) .aet acf (aaA a rfl)
  |put=>
   dsimp only at ct ⊢;by_cases h4:(G.tk W.tp).kind=4
   ·have e:(Go.Proofs.YthidhjhkmjjckaaGreatDoor.put G W (G.tk W.tp)).1=G:=by unfold Go.Proofs.YthidhjhkmjjckaaGreatDoor.put;dsimp only;rw[if_pos h4]
    exact .q (aaA a rfl) (.inl e) ⟨rfl,rfl,by simp[aP4,Go.Proofs.YthidhjhkmjjckaaGreatDoor.put,Wk.go]⟩
   ·have e:(Go.Proofs.YthidhjhkmjjckaaGreatDoor.put G W (G.tk W.tp)).1=G.mem ((G.M.tick W.id).put ((G.tk W.tp).jI+1) (G.tk W.tp).v):=by unfold Go.Proofs.YthidhjhkmjjckaaGreatDoor.put;dsimp only;rw[if_neg h4]
    show Stp l P ro G W _ _;rw[e];exact .put ct.1 a ct.2.1 ct.2.2 h4
  |fin=>exact .fin ct.1 a ct.2.1 ct.2.2
  |asks=>exact .asks ct.1 a
  |gone=>
   dsimp only at ct ⊢;unfold Go.Proofs.YthidhjhkmjjckaaGreatDoor.gone;obtain⟨z,st,hs⟩:=List.exists_cons_of_ne_nil ct.1;have hb:=c.wt.bk;rw[hs]at hb;have h:=aFZ hb;refine .gone ct.1 a ct.2.1 ct.2.2 ?_ ?_
   ·dsimp only;split
    ·exact⟨rfl,rfl,by simp[aP4,Wk.JF]⟩
    ·exact⟨rfl,rfl,h⟩
   ·dsimp only;split
    ·exact aoq (m:= .tell) rfl e7 e7
    ·cases hbk:W.back with
     |nil=>rw[hbk]at hb;exact hb.elim
     |cons kb bs=>
      rw[hbk]at hb;exact aEm (G:=G) (P:=P) hb.2.1 rfl
  |asked=>
   dsimp only at ct ⊢;unfold asked;refine .q (aaA a rfl) (.inr rfl) ?_;dsimp only;split
   ·exact⟨rfl,rfl,by simp[aP4,Wk.stop]⟩
   split
   ·exact⟨rfl,rfl,by simp[aP4,Wk.drain]⟩
   ·exact⟨rfl,rfl,by simp[aP4,Wk.stop]⟩
  |joined=>exact arP c a
  |ul=>
   dsimp only at ct ⊢;unfold ul;dsimp only;split
   ·obtain⟨h1,h2⟩:=aew (G:=G.tick W.id) (W:=W) (t:=G.tk W.tp);exact .q (aaA a rfl) (.inr h2) h1
   ·exact .q (aaA a rfl) (.inr rfl) ⟨rfl,rfl,by simp[aP4,Wk.A6]⟩
  |rp=>exact .q (aaA a rfl) (.inr rfl) ⟨rfl,rfl,by simp[aP4,rp]⟩
  |sx=>
   dsimp only at ct ⊢;unfold sx;split
   ·exact .q (aaA a rfl) (.inr rfl) ⟨rfl,rfl,by simp[aP4,Wk.stop]⟩
   ·exact .q (aaA a rfl) (.inr rfl) ⟨rfl,rfl,by simp[aP4,vQ,Wk.search]⟩
  |register=>
   dsimp only at ct ⊢;unfold register;obtain⟨y,h1,h2,h3⟩|⟨k,h1,_⟩:=ct.1.cases;rotate_left
   ·have:=ct.2;rw[h1]at this;cases this
   have hy:W.target.getD 0=y:=by rw[h2];rfl
   rw[hy];have h:=ct.1.aP7;exact .quiet (D:=G.D) (.ad c.ty (c.ty.qh h3.2.2.2).w id) ⟨rfl,rfl,h⟩ (aaA a rfl) (.inl rfl)
  |block=>
   dsimp only at ct ⊢;obtain⟨ha,o,ho,_⟩:=ct;have h:=ha.aP7;rw[ho];dsimp only;unfold block;refine .quiet (D:=G.D) (.sp (by unfold Wk.nsp;rw[a];simp) c.ty o) ?_ (aaA a rfl) (.inl rfl)
   dsimp only;split
   ·exact⟨rfl,rfl,h⟩
   ·exact⟨rfl,rfl,aaA (m:= .block) a rfl⟩
  |Io=>exact axc (aaA a rfl) ct rfl rfl rfl rfl
  |stops=>exact axd c a
  |cancelled=>exact ct.elim
  |vQ=>exact ct.elim
  |BQ=>exact ct.elim
  |y5=>exact ct.elim
  |nothing=>exact ct.elim
  |Uv=>exact ct.elim
  |AL=>exact ct.elim
 |aw y=>exact .q (by unfold aP4;rw[a];simp) (.inr rfl) ⟨rfl,rfl,by simp[aP4,Gi,Wk.looks]⟩
 |sh k=>exact .q (by unfold aP4;rw[a];simp) (.inl rfl) ⟨rfl,rfl,by simp[aP4,shut,Wk.drain]⟩
 |no=>exact .q (by unfold aP4;rw[a];simp) (.inl rfl) ⟨rfl,rfl,by unfold aP4;rw[a];simp⟩
 |any=>exact .q (by unfold aP4;rw[a];simp) (.inl rfl) ⟨rfl,rfl,by unfold aP4;rw[a];simp⟩
 |c f=>exact .q (by unfold aP4;rw[a];simp) (.inl rfl) ⟨rfl,rfl,by unfold aP4;rw[a];simp⟩
 |nx i=>exact .q (by unfold aP4;rw[a];simp) (.inl rfl) ⟨rfl,rfl,by unfold aP4;rw[a];simp⟩
 |V2 y k=>exact .q (by unfold aP4;rw[a];simp) (.inl rfl) ⟨rfl,rfl,by unfold aP4;rw[a];simp⟩
 |BR y k=>exact .q (by unfold aP4;rw[a];simp) (.inl rfl) ⟨rfl,rfl,by unfold aP4;rw[a];simp⟩
 |hl m z=>exact .q (by unfold aP4;rw[a];simp) (.inl rfl) ⟨rfl,rfl,by unfold aP4;rw[a];simp⟩
end
open Ko (ni CK)
def Gl.Fw(G:Gl)(wk s:Int):Gl:=G.mem (G.M.cs wk (G.nd s).at_ 0 1).1
def sK(wk:Int)(G:Gl):List Int→Gl
 |[]=>G
 |s::ids=>sK wk (G.Fw wk s) ids
def UX(l:Lc)(G:Gl)(ids:List Int):Gl:=if ids.length=0 then G else(sK l.wa.length G ids).mem ((sK l.wa.length G ids).M.ad l.wa.length l.told 1)
def ZD(l:Lc)(G:Gl)(n:Int):Gl×Bool:=if Ko.Sn G.time.1 n=true then(UX l {G with time:=(G.time.1+n,Ko.Oy G.time.2 (G.time.1+n))} (Ko.ids (Ko.ac4 G.time.2 (G.time.1+n))),true)else(G,false)
def da(G:Gl)(o:List (Int×Int)):List Int:=0::o.flatMap λp=>(G.tk p.1.toNat).scopes
def ZE(G:Gl)(s:Int):Bool:=match G.P[s.toNat]? with|some p=>p.2.2.2|none=>false
def ZF(l:Lc)(G:Gl)(o:List (Int×Int))(n:Int):Gl×Bool:=
 if 0≤n∧n<(da G o).length then(if ZE G ((da G o).getD n.toNat 0)then(G,false)else(UX l G [(da G o).getD n.toNat 0],true))else(G,false)
def SA(l:Lc)(P:List dB)(G:Gl)(Ws:List Wk)(o:List (Int×Int))(kind n:Int):(Gl×List Wk)×Bool:=
 if G.err≠0 then((G,Ws),false)
 else if kind=0 then ZC l P G Ws n
 else if kind=1 then(((ZD l G n).1,Ws),(ZD l G n).2)
 else if kind=2 then(if G.D.length<1024 then(({G with D:=G.D++[n]},Ws),true)else((G,Ws),false))
 else if kind=3 then(((ZF l G o n).1,Ws),(ZF l G o n).2)
 else((G,Ws),false)
variable{wk:Int}{s:Sl}
section
variable{w0 w:World}{L R:List HP}{l:Lc}{P:List dB}{aa:List Nat}{G:Gl}{Ws:List Wk}{n:Int}{gw:Nat}{W:Wk}{sp st sw:Sl}
def afz(wk:Int):∀(G:Gl) (a b:List Int),sK wk G (a++b)=sK wk (sK wk G a) b
 |G,[],b=>rfl
 |G,s::a,b=>afz wk (G.Fw wk s) a b
def aqh{a o x:Int}:(M.cs wk a o x).1.steps.length=M.steps.length∧(M.cs wk a o x).1.cells.length=M.cells.length∧(M.cs wk a o x).1.size=M.size:=by
 unfold bJ.cs;split
 ·exact⟨by unfold bJ.put bJ.tick;simp,by unfold bJ.put bJ.tick;simp,rfl⟩
 ·exact⟨by unfold bJ.tick;simp,rfl,rfl⟩
def V9(wk:Int):∀(ids:List Int) (G:Gl),(sK wk G ids).M.steps.length=G.M.steps.length∧(sK wk G ids).M.cells.length=G.M.cells.length∧(sK wk G ids).M.size=G.M.size∧sK wk G ids=G.mem (sK wk G ids).M
 |[],G=>⟨rfl,rfl,rfl,rfl⟩
 |s::ids,G=>by
  obtain⟨h1,h2,h3,h4⟩:=V9 wk ids (G.Fw wk s);obtain⟨a,b,c⟩:=aqh;exact⟨h1.trans a,h2.trans b,h3.trans c,by show sK wk (G.Fw wk s) ids=_;rw[h4];rfl⟩
def IQ{M':bJ}{a:Int}(h1:M'.steps.length=M.steps.length)(h2:M'.cells.length=M.cells.length):M'.can wk a=M.can wk a:=by unfold bJ.can bJ.caller bJ.given;rw[h1,h2]
def an2{ids:List Int}{k:Unit→ap}(h:St w0 w (bG 1 s (ints ids)::SL l aa G R sp st sw))(hs:∀x∈ids,nZ G.C x=some (G.nd x)∧G.M.can l.wa.length (G.nd x).at_=true)(ht:G.M.can l.wa.length l.told=true)
  (hk:∀w',St w0 w' (SL l aa (UX l G ids) R sp st sw)→k () w'):fB (some ⟨l.gs,0,none⟩) s w k:=by
 unfold fB CW;have b:=qY (s:=s) h;have m:=(h.own (sz:=1) (s:=s)).max;have c:=(h.own (sz:=1) (s:=s)).cap;have d:(ints ids).length=ids.length:=by simp[ints]
 rw[d]at b;have hwn:sw.n=l.wa.length:=by have:=qY (s:=sw) h;rwa[List.length_map]at this
 refine cX<|bP (λ_ w=>St w0 w (bG 1 s (ints ids)::SL l aa (sK l.wa.length G ids) R sp st sw)) (λJ f=> ?_) ?_
 ·refine DN (G:=Nat) (λj i w=>i=(j:Int)∧j≤ids.length∧St w0 w (bG 1 s (ints ids)::SL l aa (sK l.wa.length G (ids.take j)) R sp st sw)) (λj=>ids.length - j) (g:=0) ⟨rfl,af,h⟩ ?_;clear h;rintro j i w ⟨rfl,hj,h⟩ C hC;by_cases hlt:j<ids.length
  ·refine bK (by simp;omega) ?_
   obtain⟨b1,b2,b3,b4⟩:=V9 (l.wa.length:Nat) (ids.take j) G;have hx:=hs (ids[j]'hlt) (List.getElem_mem _);refine vI h af (x:=ids[j]'hlt) (by simp[ints,hlt]) ?_
   refine dZ λw h=> ?_;have a:nZ (sK (l.wa.length:Nat) G (ids.take j)).C (ids[j]'hlt)=some (G.nd (ids[j]'hlt)):=by rw[b4];exact hx.1
   rw[show((sw.n:Nat):Int)=((l.wa.length:Nat):Int) by rw[hwn]]
   refine as9 h a (by rw[IQ b1 b2];exact hx.2) λw h=> ?_
   refine cX<|hC (j+1) _ _ ⟨?_,af,?_⟩ af
   ·rw[kg ⟨af,af⟩];omega
   ·have e:ids.take (j+1)=ids.take j++[ids[j]'hlt]:=by rw[List.take_add_one,iH hlt];rfl
    rw[e,afz];have e2:sK (l.wa.length:Nat) (sK (l.wa.length:Nat) G (ids.take j)) [ids[j]'hlt]=(sK (l.wa.length:Nat) G (ids.take j)).mem ((sK (l.wa.length:Nat) G (ids.take j)).M.cs (l.wa.length:Nat) (G.nd (ids[j]'hlt)).at_ 0 1).1:=by
     show Gl.Fw _ _ _=_;unfold Gl.Fw;have:(sK (l.wa.length:Nat) G (ids.take j)).nd (ids[j]'hlt)=G.nd (ids[j]'hlt):=by unfold Gl.nd;rw[b4];rfl
     rw[this]
    rw[e2];exact h
  ·refine aU (by simp;omega) ?_
   have e:ids.take j=ids:=List.take_of_length_le af;rw[e]at h;exact f _ _ h
 clear h;rintro _ w h;unfold UX at hk;by_cases h0:ids.length=0
 ·rw[if_pos h0]at hk;refine aU (by simp;omega) ?_
  have e:ids=[]:=List.eq_nil_of_length_eq_zero h0;subst e;exact hk w h.drop
 ·rw[if_neg h0]at hk;refine bK (by simp;omega) ?_
  obtain⟨b1,b2,b3,b4⟩:=V9 (l.wa.length:Nat) ids G;refine dZ λw h=> ?_;rw[show((sw.n:Nat):Int)=((l.wa.length:Nat):Int) by rw[hwn]]
  refine anl h (by rw[IQ b1 b2];exact ht) λw h=> ?_
  refine cX ?_;have h:=h.drop;rw[show SL l aa ((sK (l.wa.length:Nat) G ids).mem ((sK (l.wa.length:Nat) G ids).M.ad (l.wa.length:Nat) l.told 1)) R sp st sw=SL l aa ((sK (l.wa.length:Nat) G ids).mem ((sK (l.wa.length:Nat) G ids).M.ad (l.wa.length:Nat) l.told 1)) R sp st sw from rfl]at hk;exact hk w h
end
structure Lm where
 base:Int
 spare:Int
 cells:Int
 fuel:Int
 deep:Int
 log:Int
structure Ad where
 gs:Nat
 gm:Nat
 gk:Nat
 gc:Nat
 gt:Nat
 gd:Nat
 ga:Nat
def Lm.n(m:Lm):Nat:=(m.base+m.spare).toNat
abbrev gJ(a:Ad)(ps:Sl)(m:Lm)(wa:List Nat):Lc:=⟨a.gs,a.gm,a.gk,a.gc,a.gt,a.gd,ps,m.base,m.spare,m.cells,m.fuel,m.deep,m.log,0,1,⟨4,m.base,m.spare⟩,wa⟩
def cs0(a:Ad)(ps:Sl)(m:Lm):List Value:=[.slice ps.a ps.n ps.c,.int .i64 m.base,.int .i64 m.spare,.int .i64 m.cells,.int .i64 m.fuel,.int .i64 m.deep,.int .i64 m.log,pt a.gm,pt a.gk,.pointer none,.slice (some ⟨a.ga,0,none⟩) 1 1,.slice none 0 0,.int .i64 0,.int .i64 0,.int .i64 0,.int .i64 0,.int .i64 0,pt a.gt,pt a.gd,.slice none 0 0,.int .i64 0,.int .i64 0]
def ml1(m:Lm):bJ:=((bJ.new m.cells m.n).tick m.n).grow 1
def ml2(m:Lm):bJ:=((ml1 m).tick m.n).grow 1
def ml3(m:Lm):bJ:=((ml2 m).tick m.n).grow 2
def ml4(m:Lm):bJ:=((ml3 m).tick m.n).grow 2
structure Lm.OK (m:Lm):Prop where
 base:1≤m.base∧m.base≤16
 spare:0≤m.spare∧m.spare≤16 - m.base
 cells:1≤m.cells∧m.cells≤1048576
 fuel:0≤m.fuel∧m.fuel≤1048576
 deep:1≤m.deep∧m.deep≤1000
 log:0≤m.log∧m.log≤8
variable{w':World}{g:Nat}
section
variable{w0 w:World}{L R:List HP}{a:Ad}{ps:Sl}{m:Lm}{gm:Nat}{f:HP→List HP}
def an3{w1:World}{L':List HP}{f':HP→List HP}{o j n:Nat}{cs cs':List Value}{z:Nat}{c:Prop}(h:St w0 w L)(h':St w1 w' L')[a:At L (au g) cs f][a':At L' (au g) cs' f'](e:(cs.drop (o+j+n)).take z=(cs'.drop (o+j+n)).take z)(hc:c):ai z (aY (aY ⟨g,o,none⟩ j) n) w w' c:=by rw[dg];exact asq h h' e hc
def avz{k:Option Addr×Int→ap}(h:St w0 w L)[a2:At L (bH gm) M f](hw:M.caller wk=true)(a:M.OK)
  (hk:M.room 2=true→∀g w',St w0 w' (scp g [⟨-1,0,(M.cells.length:Nat)⟩]::f (bH gm ((M.tick wk).grow 2)))→k (some ⟨g,0,none⟩,0) w') (b:M.room 2=false→∀w',St w0 w' L→k (none,21) w'):uz (some ⟨gm,0,none⟩) wk w k:=by
 unfold uz Nq;refine aU rfl<|GU h a (λ_ _ hr w h=> ?_) (λ_ _ hr=> ?_) λhn=>(hn ⟨hw,af⟩).elim
 ·refine aU rfl<|Jw rfl rfl<|aM h λga w h=>aM h λc w h=> ?_;have h:=h.asS (g:=ga) (sz:=3) rfl af (by simp[Nd.cells,Value.oneCell'])
  refine hk hr c w (ae6 (s:=⟨some ⟨ga,0,none⟩,1,1⟩) ?_);obtain⟨h1,F,⟨d,i,hx,hy,hz,e⟩,h3⟩:=h;obtain⟨j,l,h4,h5,h6,h7⟩:=hy;refine⟨h1,F,⟨d,i,hx,⟨j,l,⟨?_,?_⟩,h5,h6,h7⟩,hz,e⟩,h3⟩
  ·intro e' he;simp at he;rw[he];rfl
  ·simpa using h4
 ·refine bK rfl<|b hr w h
def ajN(hm:m.OK):(bJ.new m.cells m.n).OK∧(bJ.new m.cells m.n).caller m.n=true:=by
 obtain⟨h1,h2,h3,_⟩:=hm;refine⟨⟨h3,by show((0:Nat):Int)≤m.cells;omega⟩,?_⟩
 unfold bJ.caller bJ.new;simp;omega
def ahy{n:Int}(h:M.OK)(h0:0≤n)(hr:M.room n=true):((M.tick wk).grow n).OK:=by
 unfold bJ.room at hr;simp only[decide_eq_true_eq]at hr;have:=xQ (M:=M.tick wk) h0;have ht:(M.tick wk).cells.length=M.cells.length:=rfl;refine⟨h.size,?_⟩;show((((M.tick wk).grow n).cells.length:Nat):Int)≤M.size;rw[this,ht];omega
def G9{wk' n:Int}(h:M.caller wk=true):((M.tick wk').grow n).caller wk=true:=by
 unfold bJ.caller bJ.grow bJ.tick at*
 simpa using h
def ajO{k:Int→ap}(hm:m.OK)(h:St w0 w (au a.gs (cs0 a ps m)::bH a.gm (bJ.new m.cells m.n)::R))
  (h1:6≤m.cells→∀gc w',St w0 w' (scp gc [⟨-1,0,2⟩]::au a.gs ((gJ {a with gc:=gc} ps m []).cs ⟨some ⟨a.ga,0,none⟩,1,1⟩ ⟨none,0,0⟩ ⟨none,0,0⟩ 0 0)::bH a.gm (ml4 m)::R)→k 0 w')
  (h2:¬6≤m.cells→∀w' X Y,St w0 w' (X::Y::R)→k 21 w'):fC (some ⟨a.gs,0,none⟩) m.n w k:=by
 obtain⟨c,hc0⟩:=ajN hm;have b:∀(M:bJ) (z:Int),M.size=m.cells→(M.room z=true↔z+(M.cells.length:Nat)≤m.cells):=λM z e=>by unfold bJ.room;rw[e];simp;omega
 unfold fC vl;unfold cs0 at h;refine cX<|atb h hc0 c (λhr w h=> ?_) λhr w h=> ?_;rotate_left
 ·have hno:¬6≤m.cells:=λq=>by have:=(b (bJ.new m.cells m.n) 1 rfl).2 (by show 1+((0:Nat):Int)≤_;omega);rw[hr]at this;cases this
  refine dZ λw h=>h2 hno _ _ _ h
 have d:=ahy (wk:=m.n) c af hr;have o:=G9 (wk':=m.n) (n:=1) hc0;refine dZ λw h=>atc (M:=ml1 m) h o d (λhr w h=> ?_) λhr w h=> ?_;rotate_left
 ·have hno:¬6≤m.cells:=λq=>by have:=(b (ml1 m) 1 rfl).2 (by show 1+((1:Nat):Int)≤_;omega);rw[hr]at this;cases this
  refine dZ λw h=>h2 hno _ _ _ h
 have f:=ahy (wk:=m.n) d af hr;have g:=G9 (wk':=m.n) (n:=1) o;refine dZ λw h=>avz (M:=ml2 m) h g f (λhr gc w h=> ?_) λhr w h=> ?_;rotate_left
 ·have hno:¬6≤m.cells:=λq=>by have:=(b (ml2 m) 2 rfl).2 (by show 2+((2:Nat):Int)≤_;omega);rw[hr]at this;cases this
  refine dZ λw h=>h2 hno _ _ _ h
 have i:=ahy (wk:=m.n) f af hr;have j:=G9 (wk':=m.n) (n:=2) g;refine dZ λw h=>atB (M:=ml3 m) h ⟨hm.base.1,hm.base.2,hm.spare.1,hm.spare.2⟩ j i (λhr w h=> ?_) λhr w h=> ?_;rotate_left
 ·have hno:¬6≤m.cells:=λq=>by have:=(b (ml3 m) 2 rfl).2 (by show 2+((4:Nat):Int)≤_;omega);rw[hr]at this;cases this
  refine dZ λw h=>h2 hno _ _ _ h.drop
 refine dZ λw h=> ?_;have l:=(b (ml3 m) 2 rfl).1 hr;refine h1 (by have e:((ml3 m).cells.length:Nat)=4:=rfl;rw[e]at l;omega) gc w ?_
 exact h
end
def Wa(id dq:Int):Wk:=⟨id,dq,⟨0,0⟩,[],[],.m .rest,none,.no,none,.no,none,[],false,.no,.no,.no,0,.no,none,0,false,false,.no,.no,0,.no,0,.no,0,.no⟩
def Lm.lg(m:Lm):Int:=if m.log<2 then m.log else 2
def Lm.one(m:Lm):Int:=3+EX m.lg
def oe(m:Lm):Nat→bJ
 |0=>ml4 m
 |v+1=>(oe m v).Jy m.n m.lg
def sC(m:Lm)(v:Nat):Int:=6+v*m.one
def JR(m:Lm)(v:Nat):List Wk:=(List.range v).map λi:Nat=>Wa i (sC m i)
variable{gw:Nat}{v:Int}
section
variable{w0 w:World}{L R:List HP}{a:Ad}{ps:Sl}{m:Lm}{gm gc:Nat}{f:HP→List HP}
def Lm.adq(hm:m.OK):0≤m.lg∧m.lg≤m.log∧m.lg≤8:=by have:=hm.log;unfold Lm.lg;split<;>omega
def Lm.KS(hm:m.OK):4≤m.one∧m.one≤259:=by have:=m.adq hm;have:=acM this.1 this.2.2;unfold Lm.one;omega
def Te(hm:m.OK):∀v:Nat,6+v*m.one≤m.cells→(oe m v).OK∧(oe m v).caller m.n=true∧(((oe m v).cells.length:Nat):Int)=6+v*m.one∧(oe m v).size=m.cells∧(oe m v).steps.length=m.n+1
 |0,h=>by
  obtain⟨h1,h2⟩:=ajN hm;refine⟨⟨hm.cells,?_⟩,?_,?_,rfl,?_⟩
  ·show(((oe m 0).cells.length:Nat):Int)≤m.cells;have:(oe m 0).cells.length=6:=rfl;rw[this];omega
  ·exact G9 (G9 (G9 (G9 h2)))
  ·have:(oe m 0).cells.length=6:=rfl;rw[this];omega
  ·show(ml4 m).steps.length=_;unfold ml4 ml3 ml2 ml1 bJ.grow bJ.tick bJ.new;simp
 |v+1,h=>by
  have ho:=m.KS hm;have e1:((v+1:Nat):Int)*m.one=v*m.one+m.one:=by rw[Int.natCast_add,Int.add_mul];omega
  obtain⟨h1,h2,h3,h4,h5⟩:=Te hm v af;have hlen:(((oe m (v+1)).cells.length:Nat):Int)=6+((v+1:Nat):Int)*m.one:=by
   show(((oe m v).Jy m.n m.lg).cells.length:Nat)=(_:Int);unfold bJ.Jy;have:=xQ (M:=(oe m v).tick m.n) (n:=3+EX m.lg) (by unfold Lm.one at ho;omega)
   have e2:((oe m v).tick m.n).cells.length=(oe m v).cells.length:=rfl;have a:(((((oe m v).tick m.n).grow (3+EX m.lg)).tick m.n).put (((oe m v).cells.length:Nat)+2) (Rg.word ⟨(((oe m v).cells.length:Nat):Int)+3,m.lg⟩)).cells.length=(((oe m v).tick m.n).grow (3+EX m.lg)).cells.length:=by unfold bJ.put bJ.tick;simp
   rw[a,this,e2,h3,e1];unfold Lm.one;omega
  refine⟨⟨by show 1≤(oe m (v+1)).size∧_;exact⟨by show 1≤(oe m v).size;rw[h4];exact hm.cells.1,by show(oe m v).size≤_;rw[h4];exact hm.cells.2⟩,by rw[hlen];show _≤(oe m v).size;rw[h4];exact h⟩,?_,hlen,h4,?_⟩
  ·show((oe m v).Jy m.n m.lg).caller m.n=true;unfold bJ.Jy bJ.caller bJ.put bJ.grow bJ.tick;unfold bJ.caller at h2;simpa using h2
  ·show((oe m v).Jy m.n m.lg).steps.length=_;unfold bJ.Jy bJ.put bJ.grow bJ.tick;simpa using h5
def aCd{l:Lc}{gt:Nat}(h:St w0 w (au gw [pt l.gs,.int .i64 v,.int .i64 d,.int .i64 l.log,pt gt,.slice none 0 0,.slice none 0 0,mt gw .rest,.pointer none,.nilFunc,.pointer none,.nilFunc,.pointer none,.slice none 0 0,.bool false,.nilFunc,.nilFunc,.nilFunc,.int .i64 0,.nilFunc,.pointer none,.int .i64 0,.bool false,.bool false,.nilFunc,.nilFunc,.int .i64 0,.nilFunc,.int .i64 0,.nilFunc,.int .i64 0,.nilFunc]::au gt (Wt.cells l.told ⟨0,0⟩)::R)):St w0 w (pH l [] (gw,Wa v d)::R):=by
 refine ac8 (q:=⟨gt,⟨none,0,0⟩,[],⟨none,0,0⟩,[],mt gw .rest,0,.nilFunc,0,.nilFunc,0,⟨none,0,0⟩,.nilFunc,.nilFunc,.nilFunc,.nilFunc,none,.nilFunc,.nilFunc,.nilFunc,.nilFunc,.nilFunc,[]⟩) ?_ ?_
 ·exact⟨.nil,.nil,rfl,rfl,rfl,rfl,rfl,rfl,rfl,rfl,rfl,rfl,rfl,rfl,rfl⟩
 ·have h:=aup h;have h:St w0 w (l6 (λo:jH=>au 0 (o.cells l.sp 0)) (Wa v d).step::_):=St.shut h;have h:St w0 w (l6 (λk:Lk=>au 0 (k.cells l.gc)) (Wa v d).look::_):=St.shut h;have h:St w0 w (l6 (uh 0) (Wa v d).op::_):=St.shut h;have h:=((h.DJ 1).DJ 1).DJ 1;exact St.auI (A:=[_,_,_,_,_,_,_]) (B:=[_,_]) h
def aEI:ET Tryz.prog 105 1 8 (.pointer none):=⟨aZ,aZ⟩
abbrev LW(a:Ad)(ps:Sl)(m:Lm)(sw:Sl)(wa:List Nat)(M:bJ)(v:Nat)(R:List HP):List HP:=au a.gs ((gJ a ps m []).cs ⟨some ⟨a.ga,0,none⟩,1,1⟩ ⟨none,0,0⟩ sw 0 0)::bH a.gm M::bG 1 sw (wa.map pt)::jO (pH (gJ a ps m []) []) (wa.zip (JR m v))::R
def aqj{v:Nat}:JR m (v+1)=JR m v++[Wa v (sC m v)]:=by unfold JR;rw[List.range_succ,List.map_append];rfl
def aex{k:Int→ap}(hm:m.OK)(h:St w0 w (LW a ps m ⟨none,0,0⟩ [] (ml4 m) 0 R))(h6:6≤m.cells)
  (h1:6+m.n*m.one≤m.cells→∀sw wa w',wa.length=m.n→St w0 w' (LW a ps m sw wa (oe m m.n) m.n R)→k 0 w')
  (h2:¬6+m.n*m.one≤m.cells→∀w' L',St w0 w' (L'++R)→k 21 w'):eC (some ⟨a.gs,0,none⟩) m.n w k:=by
 have t:m.n≤16:=by have:=hm.base;have:=hm.spare;unfold Lm.n;omega
 have r:=m.adq hm;have hone:=m.KS hm;have hlo:abb m.lg m.log=true:=by unfold abb;simp only[decide_eq_true_eq];exact⟨r.1,r.2.1,hm.log.2⟩
 unfold eC tM;refine DN (λq i w=>i=((q.1:Nat):Int)∧q.1≤m.n∧q.2.2.length=q.1∧6+q.1*m.one≤m.cells∧St w0 w (LW a ps m q.2.1 q.2.2 (oe m q.1) q.1 R)) (λq=>m.n - q.1) (g:=(0,⟨none,0,0⟩,[])) ⟨rfl,af,rfl,af,h⟩ ?_;clear h;rintro⟨v,sw,wa⟩ i w ⟨hi,hv,c,hc,h⟩ C hC;dsimp only at hi hv c hc h;subst hi;obtain⟨d,f,b,o,u⟩:=Te hm v hc;by_cases hlt:v<m.n;rotate_left
 ·have e:v=m.n:=af;subst e;exact aU bf (h1 hc sw wa w c h)
 refine bK (by simp;omega) ?_
 have hroom:(oe m v).room (3+EX m.lg)=true↔6+((v+1:Nat):Int)*m.one≤m.cells:=by
  have e1:((v+1:Nat):Int)*m.one=v*m.one+m.one:=by rw[Int.natCast_add,Int.add_mul];omega
  unfold bJ.room;rw[o,b,e1];unfold Lm.one;simp only[decide_eq_true_eq];omega
 have hmono:∀z:Nat,z≤m.n→6+m.n*m.one≤m.cells→6+z*m.one≤m.cells:=λz hz hq=>by
  have:(z:Int)*m.one≤m.n*m.one:=Int.mul_le_mul_of_nonneg_right af af;omega
 refine bP (fun(x:Addr×Int) w=>(x.2=0∧6+((v+1:Nat):Int)*m.one≤m.cells∧∃g,x.1=⟨g,0,none⟩∧St w0 w (au g [.int .i64 (sC m v),.int .i64 m.log]::LW a ps m sw wa (oe m (v+1)) v R))∨(x.2=21∧¬6+m.n*m.one≤m.cells∧∃L',St w0 w (L'++R))) (λJ j=> ?_) ?_
 ·with_reducible repeat' (first|refine bc ?_|refine cH h λw h=> ?_|refine Tn h ?_|refine Z7 h ?_|refine aM h λgx w h=> ?_|refine nP h ?_|refine y8 ?_ ?_|refine an3 (by assumption) h vM ?_|fail)
  ·refine anr (M:=oe m v) (log:=m.lg) (most:=m.log) h d f hlo (λhr w h=> ?_) λhr w h=> ?_
   ·with_reducible repeat' (first|refine QU h λw h=> ?_|refine aM h λgx w h=> ?_|refine nP h ?_|refine an3 (by assumption) h vM ?_|fail)
    rw[b]at h;exact j _ _ (.inl ⟨rfl,hroom.1 hr,_,rfl,h⟩)
   ·with_reducible repeat' (first|refine QU h λw h=> ?_|refine aM h λgx w h=> ?_|refine nP h ?_|refine an3 (by assumption) h vM ?_|fail)
    exact j _ _ (.inr ⟨rfl,λq=>by rw[hroom.2 (hmono _ af q)]at hr;(cases hr),[_,_,_,_,_],h⟩)
  ·refine anr (M:=oe m v) (log:=m.lg) (most:=m.log) h d f hlo (λhr w h=> ?_) λhr w h=> ?_
   ·with_reducible repeat' (first|refine QU h λw h=> ?_|fail)
    rw[b]at h;exact j _ _ (.inl ⟨rfl,hroom.1 hr,_,rfl,h⟩)
   ·with_reducible repeat' (first|refine QU h λw h=> ?_|fail)
    exact j _ _ (.inr ⟨rfl,λq=>by rw[hroom.2 (hmono _ af q)]at hr;(cases hr),[_,_,_,_,_],h⟩)
 clear h;rintro⟨ad,e⟩ w hx;dsimp only at hx;rcases hx with⟨rfl,y,g,rfl,h⟩|⟨rfl,hno,L',h⟩;rotate_left
 ·exact bK rfl (h2 hno w L' h)
 refine aU rfl ?_;refine dZ λw h=> ?_;refine axJ h λgt w h=> ?_;with_reducible repeat' (first|refine sR h ?_|fail)
 refine qL (#[pt a.gs,.int .i64 v,.int .i64 (sC m v),.int .i64 m.log,.pointer none,.slice none 0 0,.slice none 0 0,.nilFunc,.pointer none,.nilFunc,.pointer none,.nilFunc,.pointer none,.slice none 0 0,.bool false,.nilFunc,.nilFunc,.nilFunc,.int .i64 0,.nilFunc,.pointer none,.int .i64 0,.bool false,.bool false,.nilFunc,.nilFunc,.int .i64 0,.nilFunc,.int .i64 0,.nilFunc,.int .i64 0,.nilFunc]) rfl aZ ?_;with_reducible repeat' (first|refine bc ?_|refine u_S h ?_|refine Hq h λw h=> ?_|refine aM h λgx w h=> ?_|fail)
 obtain⟨gn,p⟩:∃n,n=gx:=⟨_,rfl⟩;subst p;refine cX ?_;obtain⟨gw,p⟩:∃n,n=gx:=⟨_,rfl⟩;subst p;have A:(wa.map pt).length≤16:=by rw[List.length_map,c];omega
 refine I9 (s:=sw) h aEI aZ rfl af af λs2 w h B=> ?_;refine dZ λw h=> ?_;have h:=h.zm 0;have h:=h.zm 2;have h:=al0 (Y:=[pt a.gs,.int .i64 v,.int .i64 (sC m v),.int .i64 m.log,pt gt,.slice none 0 0,.slice none 0 0,mt gw .rest,.pointer none,.nilFunc,.pointer none,.nilFunc,.pointer none,.slice none 0 0,.bool false,.nilFunc,.nilFunc,.nilFunc,.int .i64 0,.nilFunc,.pointer none,.int .i64 0,.bool false,.bool false,.nilFunc,.nilFunc,.int .i64 0,.nilFunc,.int .i64 0,.nilFunc,.int .i64 0,.nilFunc]) h aZ;have h:=aCd (l:=gJ a ps m []) h;have h:=al0 (Y:=(gJ a ps m []).cs ⟨some ⟨a.ga,0,none⟩,1,1⟩ ⟨none,0,0⟩ s2 0 0) h.swap aZ;have h:=h.fr 4;have h:=h.fr 2;have h:=QV h;have h:=h.bk 3;have e1:wa.zip (JR m v)++[(gw,Wa v (sC m v))]=(wa++[gw]).zip (JR m (v+1)):=by
  rw[aqj,List.zip_append (by rw[c];unfold JR;simp)];rfl
 have e2:wa.map pt++[.pointer (some ⟨gw,0,none⟩)]=(wa++[gw]).map pt:=by simp
 rw[e1,e2]at h;refine hC (v+1,s2,wa++[gw]) _ _ ⟨?_,by dsimp only;omega,by simp[c],y,h⟩ (by dsimp only;omega)
 rw[kg ⟨af,af⟩];rfl
end
open Fr (nF)
variable{most:Int}
section
variable{w0 w:World}{L R:List HP}{a:Ad}{ps:Sl}{m:Lm}{gm gc go:Nat}{f:HP→List HP}
def ZI(m:Lm)(v:Nat):sC m (v+1)=sC m v+m.one:=by
 unfold sC;have:((v+1:Nat):Int)*m.one=v*m.one+m.one:=by rw[Int.natCast_add,Int.add_mul];omega
 rw[this];omega
def Yg(m:Lm)(h1:0≤m.one):∀{i v:Nat},i≤v→sC m i≤sC m v:=fun{i v} h=>by
 unfold sC;have:(i:Int)*m.one≤v*m.one:=Int.mul_le_mul_of_nonneg_right af h1;omega
def ame{lg a':Int}(hl:0≤lg∧lg≤8)(h0:0≤a'):(M.Jy wk lg).get a'=if a'=(M.cells.length:Nat)+2 then Rg.word ⟨(M.cells.length:Nat)+3,lg⟩else if a'<(M.cells.length:Nat)then M.get a' else 0:=by
 have hp:=acM hl.1 hl.2;have hg:=xQ (M:=M.tick wk) (n:=3+EX lg) af;have ht:(M.tick wk).cells.length=M.cells.length:=rfl;unfold bJ.Jy;rw[MK af (by show _<((((M.tick wk).grow (3+EX lg)).cells.length:Nat):Int);omega) h0]
 split
 ·rfl
 ·split
  ·rename_i h1 h2;show((M.tick wk).grow (3+EX lg)).get a'=_;rw[xR h0 (by rw[ht];exact h2)];rfl
  ·rename_i h1 h2;show((M.tick wk).grow (3+EX lg)).get a'=_;exact Yf (by rw[ht];omega)
def avF(a':Int):(ml4 m).get a'=0:=by
 have e:(ml4 m).cells=[0,0,0,0,0,0]:=rfl;unfold bJ.get;rw[e];generalize a'.toNat=j;match j with
 |0=>rfl
 |1=>rfl
 |2=>rfl
 |3=>rfl
 |4=>rfl
 |5=>rfl
 |j+6=>rfl
def adu(hm:m.OK):∀v:Nat,6+v*m.one≤m.cells→(∀a':Int,0≤a'→a'<sC m v→(∀i:Nat,i<v→a'≠sC m i+2)→(oe m v).get a'=0)∧(∀i:Nat,i<v→(oe m v).get (sC m i+2)=Rg.word ⟨sC m i+3,m.lg⟩)
 |0,_=>⟨λa' _ _ _=>avF a',λi hi=>by omega⟩
 |v+1,h=>by
  have ho:=m.KS hm;have a:=m.adq hm;have e1:((v+1:Nat):Int)*m.one=v*m.one+m.one:=by rw[Int.natCast_add,Int.add_mul];omega
  obtain⟨h1,h2⟩:=adu hm v af;obtain⟨_,_,hl,_⟩:=Te hm v af;have hl:(((oe m v).cells.length:Nat):Int)=sC m v:=hl;have hb:∀a':Int,0≤a'→(oe m (v+1)).get a'=if a'=sC m v+2 then Rg.word ⟨sC m v+3,m.lg⟩else if a'<sC m v then(oe m v).get a' else 0:=λa' h0=>by
   show((oe m v).Jy m.n m.lg).get a'=_;rw[ame ⟨a.1,a.2.2⟩ h0,hl]
  have b:∀i:Nat,6≤sC m i:=λi=>by have:=Yg m af (Nat.zero_le i);unfold sC at this ⊢;simp at this ⊢;omega
  refine⟨λa' h0 hlt hne=> ?_,λi hi=> ?_⟩
  ·rw[hb a' h0,if_neg (hne v af)];split
   ·rename_i q;exact h1 a' h0 q λi hi=>hne i af
   ·rfl
  ·rw[hb _ (by have:=b i;omega)]
   by_cases e:i=v
   ·subst e;rw[if_pos rfl]
   ·have h3:=Yg m af (show i+1≤v by omega)
    rw[ZI]at h3;rw[if_neg af,if_pos af];exact h2 i af
structure aAo (M:bJ) (wk d:Int) (R:Rg):Prop where
 c0:M.can wk d=true
 c1:M.can wk (d+1)=true
 c2:M.can wk (d+2)=true
 c3:M.can wk (R.place 0)=true
 t:M.get d=0
 b:M.get (d+1)=0
 r:o6 M d=R
 rr:R.right=true
 ne:d+2≠R.place 0
def avG(M:bJ)(wk d:Int)(R:Rg):bJ:=((((((M.tick wk).tick wk).tick wk).tick wk).put (R.place 0) 0).tick wk).put (d+1) 1
abbrev pO(d most:Int)(R:Rg)(next:Nat)(how:Int):bu:=⟨d,most,0,0,R,0,false,Rg.zero,none,next,how,0,0⟩
def ajY{R':Rg}(h:aAo M wk d R'):(bu.B7 d most 0 0).step M wk=(pO d most Rg.zero 1 0,M.tick wk)∧(pO d most Rg.zero 1 0).step (M.tick wk) wk=(pO d most Rg.zero 2 0,(M.tick wk).tick wk)∧(pO d most Rg.zero 2 0).step ((M.tick wk).tick wk) wk=(pO d most R' 6 0,((M.tick wk).tick wk).tick wk)∧
  (pO d most R' 6 0).step (((M.tick wk).tick wk).tick wk) wk=(pO d most R' 7 0,((((M.tick wk).tick wk).tick wk).tick wk).put (R'.place 0) 0)∧(pO d most R' 7 0).step (((((M.tick wk).tick wk).tick wk).tick wk).put (R'.place 0) 0) wk=(pO d most R' 7 1,avG M wk d R'):=by
 obtain⟨c0,c1,c2,c3,t,b,r,rr,ne⟩:=h;have key:∀M':bJ,M'.steps.length=M.steps.length→M'.cells.length=M.cells.length→(M'.get (d+2)=M.get (d+2))→∀O:bu,O.at_=d→LC M' wk d O:=λM' h1 h2 h3 O ho=>⟨ho,by rw[IQ h1 h2];exact c0,by rw[IQ h1 h2];exact c1,by rw[IQ h1 h2];exact c2,by unfold o6;rw[h3];unfold o6 at r;rw[r];exact rr⟩
 have hs:∀M':bJ,(M'.tick wk).steps.length=M'.steps.length:=λM'=>by unfold bJ.tick;simp
 have hb0:wr ((0:Int) - 0)=0:=e7;have hp:(0:Int)<R'.size:=by unfold Rg.size;rw[if_pos rr];have:=(Rg.F5 rr).2.2.2.2.1;omega
 refine⟨?_,?_,?_,?_,?_⟩
 ·rw[st0 (key M rfl rfl rfl (bu.B7 d most 0 0) rfl) rfl rfl,b];rfl
 ·rw[st1 (key (M.tick wk) (hs _) rfl rfl (pO d most Rg.zero 1 0) rfl) rfl rfl,tT,t]
 ·rw[Zg (key ((M.tick wk).tick wk) (by rw[hs,hs]) rfl rfl (pO d most Rg.zero 2 0) rfl) rfl rfl]
  have e:o6 ((M.tick wk).tick wk) d=R':=r;rw[e,hb0,if_pos hp]
 ·have hc:(((M.tick wk).tick wk).tick wk).can wk (R'.place 0)=true:=(IQ (M':=((M.tick wk).tick wk).tick wk) (M:=M) (by rw[hs,hs,hs]) rfl).trans c3
  rw[st6 (O:=pO d most R' 6 0) rfl rfl hc]
 ·have h2:(((((M.tick wk).tick wk).tick wk).tick wk).put (R'.place 0) 0).get (d+2)=M.get (d+2):=by
   have g3:=pe c3;have g2:=pe c2;unfold bJ.given at g3 g2;simp only[decide_eq_true_eq]at g3 g2;rw[MK (M:=(((M.tick wk).tick wk).tick wk).tick wk) g3.1 g3.2 g2.1,if_neg ne];rfl
  rw[st7 (key _ (by rw[amc,hs,hs,hs,hs]) (by rw[ajU];rfl) h2 (pO d most R' 7 0) rfl) rfl rfl]
  rfl
end
def g0(m:Lm):Gl:=⟨oe m m.n,[],[⟨-1,0,2⟩],[(-1,0,0,false)],[],(0,[]),[],0,0⟩
def g1(m:Lm):Gl:={g0 m with M:=((oe m m.n).tick m.n).grow 2,C:=[⟨-1,0,2⟩,⟨0,1,((oe m m.n).cells.length:Nat)⟩],P:=[(-1,0,0,false),(-2,0,0,false)]}
def g2(m:Lm):Gl:=(g1 m).more m.n (-1) 0 1 nF
def g3(m:Lm):Gl:=(g2 m).mem ((g2 m).M.ad m.n 3 1)
def eY(m:Lm):Gl:=(g3 m).mem (avG (g3 m).M m.n 6 ⟨9,m.lg⟩)
def Bd(m:Lm):List Wk:=JR m m.n
def Lm.total(m:Lm):Int:=11+m.n*m.one
variable{wa:List Nat}
section
variable{w0 w:World}{L R:List HP}{a:Ad}{ps:Sl}{m:Lm}{gm gc go:Nat}{f:HP→List HP}
def frI:(Fr.nF).length=19:=rfl
structure aCj (m:Lm):Prop where
 n1:1≤m.n
 ok0:(oe m m.n).OK
 c0:(oe m m.n).caller m.n=true
 len:(((oe m m.n).cells.length:Nat):Int)=6+m.n*m.one
 size:(oe m m.n).size=m.cells
 ok1:(g1 m).M.OK
 c1:(g1 m).M.caller m.n=true
 ok2:(g2 m).M.OK
 c2:(g2 m).M.can m.n 3=true
 ok3:(g3 m).M.OK
 nd:aAo (g3 m).M m.n 6 ⟨9,m.lg⟩
def an5{a x:Int}:(M.ad wk a x).steps.length=M.steps.length∧(M.ad wk a x).cells.length=M.cells.length:=by
 unfold bJ.ad bJ.put bJ.tick;simp
def Tg{n:Int}:((M.tick wk).grow n).steps.length=M.steps.length:=by unfold bJ.grow bJ.tick;simp
def ahC(hm:m.OK)(h:m.total≤m.cells):aCj m:=by
 unfold Lm.total at h;have ho:=m.KS hm;have c:=m.adq hm;have g:1≤m.n:=by have:=hm.base;have:=hm.spare;unfold Lm.n;omega
 have hmul:m.one≤m.n*m.one:=by have:(1:Int)*m.one≤m.n*m.one:=Int.mul_le_mul_of_nonneg_right af af;omega
 obtain⟨h1,h2,h3,h4,h5⟩:=Te hm m.n af;have j:=acM c.1 c.2.2;have hone:m.one=3+EX m.lg:=rfl;have l1:(((g1 m).M.cells.length:Nat):Int)=8+m.n*m.one:=by
  have:=xQ (M:=(oe m m.n).tick m.n) (n:=2) af;show((((oe m m.n).tick m.n).grow 2).cells.length:Nat)=(_:Int);rw[this];show(((oe m m.n).cells.length:Nat):Int)+2=_;rw[h3];omega
 have l2:(((g2 m).M.cells.length:Nat):Int)=11+m.n*m.one:=by
  have:=xQ (M:=(g1 m).M.tick m.n) (n:=3) af;show((((g1 m).M.tick m.n).grow 3).cells.length:Nat)=(_:Int);rw[this];show(((g1 m).M.cells.length:Nat):Int)+3=_;rw[l1];omega
 have l3:(((g3 m).M.cells.length:Nat):Int)=11+m.n*m.one:=by
  have:=(an5 (M:=(g2 m).M) (wk:=m.n) (a:=3) (x:=1)).2;show((((g2 m).M.ad m.n 3 1).cells.length:Nat):Int)=_;rw[this,l2]
 have s1:(g1 m).M.steps.length=m.n+1:=by rw[←h5];exact Tg
 have s2:(g2 m).M.steps.length=m.n+1:=by rw[←s1];exact Tg
 have s3:(g3 m).M.steps.length=m.n+1:=by rw[←s2];exact an5.1
 have c3:(g3 m).M.caller m.n=true:=Ga s3 af af;have hcan:∀x:Int,0≤x→x<11+m.n*m.one→(g3 m).M.can m.n x=true:=λx h0 h1=>by
  unfold bJ.can bJ.given;rw[c3,l3];simp only[Bool.true_and,decide_eq_true_eq];exact⟨h0,h1⟩
 have hz:(g1 m).M.size=m.cells∧(g2 m).M.size=m.cells∧(g3 m).M.size=m.cells:=⟨h4,h4,h4⟩;have hsz:=hm.cells;have b:∀x:Int,0≤x→x<6+m.n*m.one→x≠3→(g3 m).M.get x=(oe m m.n).get x:=λx h0 hx hne=>by
  show((g2 m).M.ad m.n 3 1).get x=_;rw[ay3 af (by rw[l2];omega) h0,if_neg hne]
  show(((g1 m).M.tick m.n).grow 3).get x=_;rw[xR h0 (by show x<(((g1 m).M.cells.length:Nat):Int);rw[l1];omega),tT]
  show(((oe m m.n).tick m.n).grow 2).get x=_;rw[xR h0 (by show x<(((oe m m.n).cells.length:Nat):Int);rw[h3];omega),tT]
 obtain⟨d,k⟩:=adu hm m.n af;have e:sC m 0=6:=by unfold sC;simp
 have hdn:sC m m.n=6+m.n*m.one:=rfl;have hne:∀x:Int,x<8→∀i:Nat,i<m.n→x≠sC m i+2:=λx hx i _=>by have:=Yg m af (Nat.zero_le i);rw[e]at this;omega
 have w0':(g3 m).M.get 8=Rg.word ⟨9,m.lg⟩:=by
  rw[b 8 af af af];have:=k 0 af;rw[e]at this;exact this
 have hright:(Rg.mk 9 m.lg).right=true:=by
  unfold Rg.right;simp only[decide_eq_true_eq];unfold EX at j;unfold Rg.pw;dsimp only;omega
 have f:(Rg.mk 9 m.lg).place 0=9:=by unfold Rg.place;rw[if_pos hright];simp
 refine⟨g,h1,h2,h3,h4,⟨by rw[hz.1];exact hsz,by rw[l1,hz.1];omega⟩,Ga s1 af af,⟨by rw[hz.2.1];exact hsz,by rw[l2,hz.2.1];omega⟩,?_,⟨by rw[hz.2.2];exact hsz,by rw[l3,hz.2.2];omega⟩,⟨hcan 6 af af,hcan 7 af af,hcan 8 af af,by rw[f];exact hcan 9 af af,?_,?_,?_,hright,by rw[f];decide⟩⟩
 ·have:=Ga s2 (wk:=m.n) af af;unfold bJ.can bJ.given;rw[this,l2];simp only[Bool.true_and,decide_eq_true_eq];omega
 ·rw[b 6 af af af];exact d 6 af (by rw[hdn];omega) (hne 6 af)
 ·show(g3 m).M.get 7=0;rw[b 7 af af af];exact d 7 af (by rw[hdn];omega) (hne 7 af)
 ·unfold o6;show Rg.of ((g3 m).M.get 8)=_;rw[w0'];exact ajW hright
def aqn(h:xH d):(bu.B7 d most 0 0).GX:=⟨λq=>by(cases q),λq=>by(cases q),by show 0≤19;omega,h⟩
def abj{R:Rg}{nx:Nat}{how:Int}(h:xH d)(h1:nx=1∨nx=2∨nx=6∨nx=7):(pO d most R nx how).GX:=⟨λq=>by dsimp only at q;omega,λq=>by dsimp only at q;omega,by dsimp only;omega,h⟩
def Cc(h:M.OK):(M.tick wk).OK:=⟨h.size,h.fit⟩
def ay6{a x:Int}(h:M.OK):(M.put a x).OK:=⟨h.size,by have:=h.fit;show((M.put a x).cells.length:Int)≤M.size;rw[ajU];exact this⟩
def amf{st sw sp:Sl}{k:Int→ap}(hm:m.OK)(hroom:6+m.n*m.one≤m.cells)(H:wa.length=m.n)(h:St w0 w (SL (gJ a ps m wa) [] (g0 m) (jO (pH (gJ a ps m wa) []) (wa.zip (JR m m.n))::R) sp st sw))
  (h1:m.total≤m.cells→∀aa w',qK w0 w' (gJ a ps m wa) aa (eY m) (Bd m) R→k 0 w') (h2:¬m.total≤m.cells→∀w' L',St w0 w' (L'++R)→k 21 w'):gE (some ⟨a.gs,0,none⟩) m.n w k:=by
 obtain⟨c,d,r,p,t⟩:=Te hm m.n hroom;have I:1≤m.n:=by have:=hm.base;have:=hm.spare;unfold Lm.n;omega
 have u:m.n≤16:=by have:=hm.base;have:=hm.spare;unfold Lm.n;omega
 unfold gE wz;refine dZ λw h=> ?_;refine agZ (C:=[⟨-1,0,2⟩]) h rfl d c bf (λq=>by exact absurd q e7) (λ_ hr w h=> ?_) λ_ hr w h=> ?_
 ·refine bK rfl (h2 (λq=> ?_) w [_,_,_,_,_,_,_,_,_,_,_] h);unfold bJ.room at hr;unfold Lm.total at q;simp only[decide_eq_false_iff_not]at hr;omega
 refine aU rfl<|cX ?_;refine Jw rfl rfl ?_;refine vO λgx w h=> ?_;obtain⟨gp,v⟩:∃n,n=gx:=⟨_,rfl⟩;subst v;refine Z8 (sz:=4) (s:=sp) (es:=[tI (-1,0,0,false)]) h auX aZ rfl af (by simp[Value.oneCell']) bf af λsp2 w h hn=> ?_
 refine dZ λw h=> ?_;have h:=h.zm 0;refine Fr.anv λw' he=> ?_;have h:=h.on he;have h:St w0 w' (SL (gJ a ps m wa) [] (g1 m) (jO (pH (gJ a ps m wa) []) (wa.zip (JR m m.n))::R) sp2 st sw):=h;clear he;have e:∀z:Int,(oe m m.n).room 2=true→(g1 m).M.OK∧(((g1 m).M.cells.length:Nat):Int)=8+m.n*m.one:=λ_ hr=>by
  refine⟨ahy c af hr,?_⟩;have:=xQ (M:=(oe m m.n).tick m.n) (n:=2) af;show((((oe m m.n).tick m.n).grow 2).cells.length:Nat)=(_:Int);rw[this];show(((oe m m.n).cells.length:Nat):Int)+2=_;rw[r];omega
 have hr:(oe m m.n).room 2=true:=by assumption
 obtain⟨f,y⟩:=e 0 hr;have A:(g1 m).M.caller m.n=true:=G9 d;refine avb h frI f A (.inl ⟨rfl,rfl⟩) (by show 0≤1000000;omega) bf ⟨af,by show(1:Int)<((2:Nat):Int);omega⟩ (λb gn DC w h=> ?_) λb w h=> ?_
 rotate_left
 ·refine bK rfl (h2 (λq=> ?_) w [_,_,_,_,_,_,_,_,_,_,_] h);unfold bJ.room at b;unfold Lm.total at q;simp only[decide_eq_false_iff_not]at b;have:(g1 m).M.size=m.cells:=p;omega
 refine aU rfl ?_;have htot:m.total≤m.cells:=by
  unfold bJ.room at b;unfold Lm.total;simp only[decide_eq_true_eq]at b;have:(g1 m).M.size=m.cells:=p;omega
 have hR:=ahC hm htot;have h:St w0 w (SL (gJ a ps m wa) [gn] (g2 m) (jO (pH (gJ a ps m wa) []) (wa.zip (JR m m.n))::R) sp2 DC sw):=h;refine dZ λw h=>aiG (x:=⟨-1,0,2⟩) h rfl hR.c2 hR.ok2 λw h=>aU rfl ?_;have h:=h.fr 10;have h:=an1 (m:=[gn]) h;rw[List.nil_append]at h;have h:St w0 w (jO (pH (gJ a ps m wa) [gn]) (wa.zip (JR m m.n))::SL (gJ a ps m wa) [gn] (g3 m) R sp2 DC sw):=h;refine cX ?_;obtain⟨B,ha0⟩:∃g,wa[0]?=some g:=⟨_,iH af⟩;have j:(JR m m.n)[0]?=some (Wa 0 6):=by
  unfold JR;rw[l8,List.getElem?_range af];simp[sC]
 refine vP (s:=sw) h af (by show(wa.map pt)[0]?=_;rw[l8,ha0];rfl) ?_
 refine cX ?_;refine au5 (l:=gJ a ps m wa) (aa:=[gn]) (n:=0) h (by rw[List.getElem?_zip_eq_some];exact⟨ha0,j⟩) ?_
 refine anp h λgo w h=> ?_;have hA:xH 6:=⟨af,af⟩;obtain⟨p1,p2,p3,p4,p5⟩:=ajY hR.nd;have hone:∀(O O':bu) (M M':bJ) (w:World) (G:Gl) (C:Int→ap),O.GX→M.OK→O.step M m.n=(O',M')→G.mem M=G→St w0 w (uh go O::jO (pH (gJ a ps m wa) [gn]) (wa.zip (JR m m.n))::SL (gJ a ps m wa) [gn] G R sp2 DC sw)→
   (∀w',St w0 w' (uh go O'::jO (pH (gJ a ps m wa) [gn]) (wa.zip (JR m m.n))::SL (gJ a ps m wa) [gn] (G.mem M') R sp2 DC sw)→C O'.how w')→fO (some ⟨go,0,none⟩) (some ⟨a.gm,0,none⟩) m.n w C:=by
  intro O O' M M' w G C hf D hst o h hc;rw[←o]at h;have h:=h.fr 3;refine ano (M:=M) (O:=O) h.swap hf D λw h=> ?_;rw[hst]at h ⊢;have h:=h.swap;have h:=h.bk 3;exact hc w h
 refine bP (λi w=>i=1∧St w0 w (jO (pH (gJ a ps m wa) [gn]) (wa.zip (JR m m.n))::SL (gJ a ps m wa) [gn] (eY m) R sp2 DC sw)) (λJ F=> ?_) ?_
 ·refine⟨6,?_⟩;unfold jV;refine bK rfl ?_;refine cX ?_;refine hone _ _ (g3 m).M _ w (g3 m) _ (aqn hA) hR.ok3 p1 rfl h λw h=> ?_;unfold jV;refine bK rfl ?_;refine cX ?_;refine hone _ _ _ _ w _ _ (abj hA (.inl rfl)) (Cc hR.ok3) p2 rfl h λw h=> ?_;unfold jV;refine bK rfl ?_;refine cX ?_;refine hone _ _ _ _ w _ _ (abj hA (.inr (.inl rfl))) (Cc (Cc hR.ok3)) p3 rfl h λw h=> ?_;unfold jV;refine bK rfl ?_;refine cX ?_;refine hone _ _ _ _ w _ _ (abj hA (.inr (.inr (.inl rfl)))) (Cc (Cc (Cc hR.ok3))) p4 rfl h λw h=> ?_;unfold jV;refine bK rfl ?_;refine cX ?_;refine hone _ _ _ _ w _ _ (abj hA (.inr (.inr (.inr rfl)))) (ay6 (Cc (Cc (Cc (Cc hR.ok3))))) p5 rfl h λw h=> ?_;unfold jV;refine aU rfl ?_;exact F _ _ ⟨rfl,h.drop⟩
 clear h;rintro _ w ⟨rfl,h⟩;refine aU rfl ?_;exact h1 htot [gn] w (pE (St.back 10 h))
end
open Ck (tj Su)
variable{k:Bool→ap}{p:Option Addr}{c:Value→ap}
section
variable{w0 w:World}{L R:List HP}{a:Ad}{ps:Sl}{m:Lm}{P:List dB}{gm gc go:Nat}{f:HP→List HP}
def nr1(ps:Sl):Array Value:=#[.slice ps.a ps.n ps.c,.int .i64 0,.int .i64 0,.int .i64 0,.int .i64 0,.int .i64 0,.int .i64 0,.pointer none,.pointer none,.pointer none,.slice none 0 0,.slice none 0 0,.int .i64 0,.int .i64 0,.int .i64 0,.int .i64 0,.int .i64 0,.pointer none,.pointer none,.slice none 0 0,.int .i64 0,.int .i64 0]
def nr2(ps:Sl)(m:Lm):Array Value:=#[.slice ps.a ps.n ps.c,.int .i64 m.base,.int .i64 m.spare,.int .i64 m.cells,.int .i64 m.fuel,.int .i64 m.deep,.int .i64 m.log,.pointer none,.pointer none,.pointer none,.slice none 0 0,.slice none 0 0,.int .i64 0,.int .i64 0,.int .i64 0,.int .i64 0,.int .i64 0,.pointer none,.pointer none,.slice none 0 0,.int .i64 0,.int .i64 0]
abbrev lmA(m:Lm):Array Value:=#[.int .i64 m.base,.int .i64 m.spare,.int .i64 m.cells,.int .i64 m.fuel,.int .i64 m.deep,.int .i64 m.log]
def Lm.okB(m:Lm):Bool:=decide (1≤m.base∧m.base≤16)&&(decide (0≤m.spare∧m.spare≤16 - m.base)&&(decide (1≤m.cells∧m.cells≤1048576)&&(decide (0≤m.fuel∧m.fuel≤1048576)&&(decide (1≤m.deep∧m.deep≤1000)&&decide (0≤m.log∧m.log≤8)))))
def ajZ:m.okB=true↔m.OK:=by
 unfold Lm.okB;simp only[iY,decide_eq_true_eq];exact⟨fun⟨h1,h2,h3,h4,h5,h6⟩=>⟨h1,h2,h3,h4,h5,h6⟩,fun⟨h1,h2,h3,h4,h5,h6⟩=>⟨h1,h2,h3,h4,h5,h6⟩⟩
def aqp(h:St w0 w L)(hk:∀w',St w0 w' L→k m.okB w'):oS (lmA m) w k:=by
 unfold oS Hw;have hw:∀(x lo hi:Int) (C:Bool→ap) (w:World),C (decide (lo≤x∧x≤hi)) w→ja x lo hi w C:=λx lo hi C w hC=>by
  unfold ja;have e:(decide (x≥lo)&&decide (x≤hi))=decide (lo≤x∧x≤hi):=by simp[ge_iff_le]
  rw[e];exact hC
 unfold Lm.okB at hk;refine aM h λg w h=>cX<|hw _ _ _ _ _ (ax (λhb=> ?_) λhb=> ?_);rotate_left
 ·rw[hb]at hk;exact hk w h.drop
 have hb0:=of_decide_eq_true hb;rw[hb,Bool.true_and]at hk;refine cX ?_;have e:aF .i64 (16 - m.base)=16 - m.base:=dh ⟨af,af⟩;rw[e];refine hw _ _ _ _ _ (ax (λhb=> ?_) λhb=> ?_);rotate_left
 ·rw[hb]at hk;exact hk w h.drop
 rw[hb,Bool.true_and]at hk;refine cX<|hw _ _ _ _ _ (ax (λhb=> ?_) λhb=> ?_);rotate_left
 ·rw[hb]at hk;exact hk w h.drop
 rw[hb,Bool.true_and]at hk;refine cX<|hw _ _ _ _ _ (ax (λhb=> ?_) λhb=> ?_);rotate_left
 ·rw[hb]at hk;exact hk w h.drop
 rw[hb,Bool.true_and]at hk;refine cX<|hw _ _ _ _ _ (ax (λhb=> ?_) λhb=> ?_);rotate_left
 ·rw[hb]at hk;exact hk w h.drop
 rw[hb,Bool.true_and]at hk;refine cX<|hw _ _ _ _ _ (hk w h.drop)
def St.adw:∀{A:List HP},St w0 w (A++R)→St w0 w R
 |[],h=>h
 |_::A,h=>St.adw (St.drop h)
def ZJ{x:Int}{c:Int→Prop}(h:c x):xS .i64 (.int .i64 x) c:=by unfold xS;simpa using h
def aqq{i:Int}(h:fC p i w λr w=>c (.int .i64 r) w):Dh [.pointer p,.int .i64 i] w c:=h
def aj1{i:Int}(h:eC p i w λr w=>c (.int .i64 r) w):A9 [.pointer p,.int .i64 i] w c:=h
def avJ{i:Int}(h:gE p i w λr w=>c (.int .i64 r) w):Eo [.pointer p,.int .i64 i] w c:=h
def ahh{k:Option Addr×Int→ap}(hF:iA w0 ps P)(h:St w0 w R)(h1:Su (tj P)=[0,0,0]→m.OK→m.total≤m.cells→∀a wa aa w',wa.length=m.n→qK w0 w' (gJ a ps m wa) aa (eY m) (Bd m) R→k (some ⟨a.gs,0,none⟩,0) w')
  (h2:¬Su (tj P)=[0,0,0]→∀w',St w0 w' R→k (none,24) w') (h3:Su (tj P)=[0,0,0]→¬m.OK→∀w',St w0 w' R→k (none,10) w') (h4:Su (tj P)=[0,0,0]→m.OK→¬m.total≤m.cells→∀w',St w0 w' R→k (none,21) w'):
  kF #[.slice ps.a ps.n ps.c] (lmA m) w k:=by
 unfold kF ND;refine aM h λf w h=>aM h λg w h=>cX<|Ck.adg (P:=P) (hF.ext h.ext) λw' hx=> ?_;have h:=h.on hx.ext;clear hx;refine ax (λhb=> ?_) λhb=> ?_
 ·exact h2 (gq hb) _ h.drop.drop
 have hacc:Su (tj P)=[0,0,0]:=gq hb
 replace h1:=h1 hacc;replace h3:=h3 hacc;replace h4:=h4 hacc;clear h2 hb;refine cX<|aqp (m:=m) h λw h=>ax (λhb=> ?_) λhb=> ?_
 ·have:¬m.OK:=λq=>by rw[ajZ.2 q]at hb;cases hb
  exact h3 this _ h.drop.drop
 have hm:m.OK:=ajZ.1 (gq hb)
 replace h1:=h1 hm;replace h4:=h4 hm;clear h3 hb;refine cX ?_;have i:=hm.base;have hsp:=hm.spare;have b:aF .i64 (m.base+m.spare)=(m.n:Int):=by rw[dh ⟨af,af⟩];unfold Lm.n;omega
 have hnb:(m.n:Int)=m.base+m.spare:=by unfold Lm.n;omega
 rw[b];refine axC h (λhok gm w h=> ?_) λhok=> ?_;rotate_left
 ·exfalso;unfold agX at hok;simp only[decide_eq_false_iff_not]at hok;have:=hm.cells;omega
 refine aU rfl<|bP (fun(p:Option Addr) w=> ∃gs gk gt gd gp X,p=some ⟨gs,0,none⟩∧X=cs0 ⟨gs,gm,gk,0,gt,gd,gp⟩ ps m∧St w0 w (au gs X::Da gk []::ni gt (0,[])::Lw gd []::au gp (tI (-1,0,0,false))::bH gm (bJ.new m.cells m.n)::R)) (λJ j=> ?_) ?_
 ·with_reducible repeat' (first|refine cH h λw h=> ?_|refine Vh h ?_|refine aM h λgx w h=> ?_|refine sR h ?_|refine y8 ?_ ?_|refine ao5 h λgx w h=> ?_|refine Ko.ahh h λgx w h=> ?_|refine att h λgx w h=> ?_|refine Jw rfl rfl ?_|fail)
  all_goals
   refine qL (nr1 ps) rfl aZ<|qL (nr2 ps m) rfl aZ<|aM h λgx w h=> ?_;have h:=h.zm 6;have h:=h.zm 6;exact j _ _ ⟨_,_,_,_,_,_,rfl,aZ,h.perm Hp⟩
 clear h;rintro _ w ⟨gs,gk,gt,gd,gp,X,rfl,rfl,h⟩;refine⟨rfl,⟨rfl,⟨rfl,?_⟩⟩⟩;refine vO λgx w h=> ?_;obtain⟨gl,l⟩:∃n,n=gx:=⟨_,rfl⟩;subst l;refine⟨4,?_⟩;unfold jV;refine bK rfl ?_;refine cX ?_;refine anR h (Int.le_refl 0) e7 rfl ?_;refine bV (d:=Dh) (λ_ _ _=>rfl) (aqq ?_);have h:=h.fr 6;have h:=h.fr 2;refine ajO (a:=⟨gs,gm,gk,0,gt,gd,gp⟩) hm h (λh6 gc w h=> ?_) (λh6 w X Y h=> ?_);rotate_left
 ·have hno:¬m.total≤m.cells:=λq=>h6 (by have:=m.KS hm;unfold Lm.total at q;have:(0:Int)≤m.n*m.one:=Int.mul_nonneg af af;omega)
  refine ZJ (bK rfl (h4 hno _ (St.adw (A:=[_,_,_,_,_,_,_]) h)))
 refine ZJ (aU rfl ?_);unfold jV;refine bK rfl ?_;refine cX ?_;refine anR h e7 e7 rfl ?_;refine bV (d:=A9) (λ_ _ _=>rfl) (aj1 ?_);have h:=h.fr 2;have h:=h.fr 2;have h:=St.back 2 (h.DJ 1);have h:St w0 w (jO (pH (gJ ⟨gs,gm,gk,gc,gt,gd,gp⟩ ps m []) []) ([].zip (JR m 0))::_):=QW h;have h:=St.back 3 h;refine aex (a:=⟨gs,gm,gk,gc,gt,gd,gp⟩) hm h h6 (λhw sw wa w e h=> ?_) (λhw w L' h=> ?_);rotate_left
 ·have hno:¬m.total≤m.cells:=λq=>hw (by unfold Lm.total at q;omega)
  refine ZJ (bK rfl (h4 hno _ (St.adw (A:=[_,_,_,_,_,_]) (St.adw h))))
 refine ZJ (aU rfl ?_);unfold jV;refine bK rfl ?_;refine cX ?_;refine anR h e7 e7 rfl ?_;refine bV (d:=Eo) (λ_ _ _=>rfl) (avJ ?_);have h:=h.fr 9;have h:=Yc (sz:=4) h rfl (by intro v hv;simp[tI]at hv;rcases hv with rfl|rfl|rfl|rfl<;>rfl)
 have h:=h.fr 6;have h:=h.fr 5;have h:St w0 w (LA [] []::_):=St.YA rfl (QW h);have h:=h.fr 10;have h:=h.fr 10;have h:=h.fr 8;have h:=h.DJ 1;have h:=h.fr 7;have h:=h.fr 10;have h:=h.fr 11;have h:=h.fr 11;have h:=h.fr 11;have h:St w0 w (SL (gJ ⟨gs,gm,gk,gc,gt,gd,gp⟩ ps m wa) [] (g0 m) (jO (pH (gJ ⟨gs,gm,gk,gc,gt,gd,gp⟩ ps m wa) []) (wa.zip (JR m m.n))::au gl _::R) ⟨some ⟨gp,0,none⟩,1,1⟩ ⟨none,0,0⟩ sw):=h;refine amf hm hw e h (λht aa w h=> ?_) (λht w L' h=> ?_);rotate_left
 ·exact ZJ (bK rfl (h4 ht _ (St.adw h).drop))
 refine ZJ (aU rfl ?_);unfold jV;refine aU rfl ?_;exact h1 ht ⟨gs,gm,gk,gc,gt,gd,gp⟩ wa aa _ e (h.rm 2 rfl)
end
variable{W:Wk}
section
variable{l:Lc}{P:List dB}{bw:List Int}{ro iT:List Ro}{G G' G1:Gl}{hold:List Nat}{W' W1:Wk}{Ws:List Wk}{t t':Tk}{n i y:Nat}{s a:Int}{r:Ro}{w0:World}
def Cb.aFj{u:Nat}(h:Ty l ro G)(hd:ZH ro u d)(hO:Cb l ro G.ts.length u d O):O.GX:=by
 refine⟨λe=>⟨hO.c2 af,hO.b,hO.t⟩,λe=> ?_,hO.nx,?_⟩
 ·obtain⟨c,hc,_⟩:=hO.c4 e;exact⟨c,hc⟩
 ·have h1:=hd.top.lt;have h0:=hd.top.1;rw[h.len]at h1;have:=h.ok.fit;have:=h.ok.size;rw[hO.at_];exact⟨h0,af⟩
def Cx.inA(c:Cx l P bw ro G i W):xH W.dq:=by
 have h1:=c.own.top.lt;have h0:=c.own.top.1;rw[c.ty.len]at h1;have:=c.ty.ok.fit;have:=c.ty.ok.size;exact⟨h0,af⟩
def Cx.spf(c:Cx l P bw ro G i W){o:jH}(h:SpT o):o.GX l.sp G.M W.id:=by
 have hb:=c.ty.val _ _ c.ty.OI;obtain⟨x,hx⟩:=Int.eq_ofNat_of_zero_le hb.1;exact⟨h.1,c.can c.ty.Ye,c.can c.ty.OI,⟨x,hx,by have:=hb.2;omega⟩⟩
def Cx.sc(c:Cx l P bw ro G i W)(hx:x<G.ts.length):G8 G (G.tk x).l7∧G.M.can W.id (G.nd (G.tk x).l7).at_=true∧G.M.can W.id ((G.nd (G.tk x).l7).at_+1)=true:=by
 have hin:=(c.ty.qh hx).inn;obtain⟨h1,h2⟩:=c.ty.O7 hin.1 hin.2;exact⟨h1,c.can h2.a,c.can h2.b⟩
def Cx.sc1(c:Cx l P bw ro G i W)(hx:x<G.ts.length)(ho:(G.tk x).cJ≠ []):G8 G (G.tk x).kA.1∧G.M.can W.id (G.nd (G.tk x).kA.1).at_=true∧G.M.can W.id ((G.nd (G.tk x).kA.1).at_+1)=true:=by
 have hin:=c.kA hx ho;obtain⟨h1,h2⟩:=c.ty.O7 hin.1 hin.2;exact⟨h1,c.can h2.a,c.can h2.b⟩
def Cx.dr(c:Cx l P bw ro G i W)(hx:x<G.ts.length)(ho:(G.tk x).cJ≠ []):Dr G (G.tk x).kA.1:=by
 have hin:=c.kA hx ho;exact⟨c.ty.Zs,c.ty.ck,hin.1,⟨_,iH (by rw[c.ty.pl];omega)⟩⟩
def amr{k:Kn}(h:rq P n t (.sh k)):t.cJ≠ []:=by
 unfold rq at h;split at h
 ·rename_i e;cases e
 ·rename_i e;cases e
 ·exact h.1.cJ
 ·exact h.2
 ·exact h.elim
def Yl(h:rC P G W):(G.tk (W.stack.headD 0)).cJ≠ []:=by
 obtain⟨y,h1,h2,h3⟩|⟨k,h1,_,_,h4⟩:=h.cases
 ·exact h3.1.cJ
 ·exact amr h4
def ahI(h:rC P G W)(ha:zk W.again=true):ajG G W:=by
 obtain⟨y,h1,h2,h3⟩|⟨k,h1,_⟩:=h.cases
 ·exact⟨by rw[h2];rfl,by rw[h2];exact h3.2.2.2⟩
 ·rw[h1]at ha;cases ha
def azp(h:rC P G W):∀y,W.target=some y→y<G.ts.length:=λy hy=>by
 obtain⟨z,h1,h2,h3⟩|⟨k,h1,h2,_⟩:=h.cases
 ·rw[h2]at hy;cases hy;exact h3.2.2.2
 ·rw[h2]at hy;cases hy
def aaz(h:rC P G W)(h1:zk W.again=true→W.dK= .m .vQ∧W.wait.how=1)(h2:SF W.again=true→W.dK= .c .Db):W.dK= .m .vQ∨W.dK= .c .Db:=by
 obtain⟨z,e,_⟩|⟨k,e,_⟩:=h.cases
 ·exact .inl (h1 (by rw[e];rfl)).1
 ·exact .inr (h2 (by rw[e];rfl))
def aCA(h:rC P G W):afv G W (G.tk (W.stack.headD 0)):=by
 unfold afv;obtain⟨z,e,_⟩|⟨k,e,_,_,h4⟩:=h.cases
 ·rw[e];trivial
 ·rw[e];exact amr h4
def IV.vi(h:IV l P bw ro G Ws)(hi:Ws[i]?=some W)(c:W1.id=i)(hl:∀j∈W1.left,0≤j∧j<l.wa.length∧j≠W1.id)(hn:W1.none_= .m .y5∨(W1.none_= .m .nothing∧W1.wait.how=1)):aar l ((l.wa.zip Ws).eraseIdx i) bw W1:=by
 refine⟨hn,λj r hj=> ?_⟩;obtain⟨h1,h2,h3⟩:=hl j (by rw[hj];simp)
 have hw:=h.wn;have a:j.toNat<l.wa.length:=af;have b:j.toNat<Ws.length:=af;have hz:(l.wa.zip Ws)[j.toNat]?=some (l.wa[j.toNat]'a,Ws[j.toNat]'b):=by rw[List.getElem?_zip_eq_some];exact⟨iH a,iH b⟩
 have hne:j.toNat≠i:=af;refine⟨j.toNat,l.wa[j.toNat]'a,if j.toNat<i then j.toNat else j.toNat - 1,Ws[j.toNat]'b,af,iH a,?_,?_⟩
 ·rw[List.getElem?_eraseIdx];by_cases e:j.toNat<i
  ·rw[if_pos e,if_pos e];exact hz
  ·rw[if_neg e,if_neg af,show j.toNat - 1+1=j.toNat by omega];exact hz
 ·rw[←h.dl,m0,l8,iH b];rfl
def adC(h:Dx l P G W):W.none_= .m .y5∨(W.none_= .m .nothing∧W.wait.how=1):=by
 rcases h.what with⟨_,_,_,h4⟩|⟨_,_,_,h4⟩
 ·exact .inl h4
 ·exact .inr ⟨h4,h.how⟩
def IV.ok(h:IV l P bw ro G Ws)(hi:Ws[i]?=some W)(he:G.err=0)(hF:iA w0 l.ps P):ajH l P ((l.wa.zip Ws).eraseIdx i) bw G W:=by
 have c:=h.cx hi he;have ct:=c.ct;have cap:=c.ty.cap;have z:=c.an8;have m:W.back.length≤100000:=by
  have hb:=c.wt.bk;have:∀(st:List Nat) (b:List Kn),KU P G st b→b.length=st.length:=by
   intro st;induction st with
   |nil=>intro b hb;cases b<;>first|rfl|exact hb.elim
   |cons y st ih=>intro b hb;cases b with
    |nil=>exact hb.elim
    |cons k b=>simp[ih b hb.2.2]
  rw[this _ _ hb];have:=c.wt.nd;unfold Wk.hold at this;have h2:=(List.nodup_append.1 this).2.1;have:=ML h2 λy hy=>c.wt.hl y (by unfold Wk.hold;simp[hy])
  omega
 have n:W.stack.length≤100000:=by
  have:=c.wt.nd;unfold Wk.hold at this;have h2:=(List.nodup_append.1 this).2.1;have:=ML h2 λy hy=>c.wt.hl y (by unfold Wk.hold;simp[hy])
  omega
 have d:W.stack≠ []→G7 G W (W.stack.headD 0) (G.tk (W.stack.headD 0))∧W.stack.headD 0<G.ts.length:=c.top;unfold cD at ct;unfold ajH;dsimp only at ct ⊢;have hop:∀(O:bu) (u:Nat),u<l.wa.length→Cb l ro G.ts.length u (bw.getD u 0) O→O.GX∧((O.step G.M W.id).1.how=6→(O.step G.M W.id).1.err≠0):=λO u hu hO=>by
  obtain⟨iT,hr⟩:=aj2 c.lg c.ty (c.dq u hu) c.caller hO;exact⟨hO.aFj c.ty (c.dq u hu),hr.err⟩
 have hown:∀(O:bu) (k:Nat),(Cb l ro G.ts.length W.id.toNat W.dq O∧O.kind=k)→Cb l ro G.ts.length i (bw.getD i 0) O:=λO k q=>by rw[c.idn,c.wt.dq]at q;exact q.1
 split at ct<;>rename_i p<;>try exact ct.elim
 all_goals try rw[p]
 all_goals try dsimp only
 ·exact c.can c.ty.told
 ·obtain⟨O,hO,ct⟩:=ct;refine⟨O,hO,?_⟩;split at ct<;>rename_i ha<;>try exact ct.elim
  ·have:=hop O i c.wt.lt (hown O 1 ct.2.2);exact⟨this.1,this.2,λ_ _=>by unfold aas;dsimp only;rw[ha];trivial⟩
  ·have:=hop O i c.wt.lt (hown O 0 ct.2.2.2);exact⟨this.1,this.2,λ_ _=>by unfold aas;dsimp only;rw[ha];trivial⟩
  ·have:=hop O i c.wt.lt (hown O 1 ct.2.2.2);refine⟨this.1,this.2,λ_ _=> ?_⟩;unfold aas;dsimp only;rw[ha];have ht:=d ct.1.ne;exact⟨⟨_,ht.1.s⟩,ht.1.t,aaz ct.1 ct.2.1 ct.2.2.1⟩
  ·obtain⟨a1,⟨u,a2,a3,a4,a5⟩,a6⟩:=ct;have:=hop O u a2 a4;refine⟨this.1,this.2,λ_ _=> ?_⟩;unfold aas;dsimp only;rw[ha];refine⟨?_,h.vi hi c.wt.id a1.left (by have q:=adC a1;exact q)⟩
   unfold ajA;dsimp only;rcases a1.what with⟨_,q,_⟩|⟨q0,q,_⟩
   ·rw[q];trivial
   ·rw[q];exact⟨c.ty.kt,λy hy=>azp q0 y hy⟩
  ·obtain⟨a1,⟨u,a2,a3,a4,a5⟩,a6⟩:=ct;have:=hop O u a2 a4;refine⟨this.1,this.2,λ_ _=> ?_⟩;unfold aas;dsimp only;rw[ha];refine⟨?_,h.vi hi c.wt.id a1.left (by have q:=adC a1;exact q)⟩
   rcases a1.what with⟨_,_,q,_⟩|⟨_,_,q,_⟩
   ·exact .inl q
   ·exact .inr q
 ·obtain⟨k,a1,a2,a3,a4,a5,a6⟩:=ct;obtain⟨b1,b2⟩:=c.ty.O7 a3.1 a3.2;refine⟨k,(d a5).1,a1,a2,b1,c.can b2.a,?_⟩;unfold anZ;split at a6<;>rename_i hs<;>try exact a6.elim
  ·try rw[hs]
   have:=a6.1.fi.aav hF c.acc;rw[a6.2];exact⟨this.1.GZ,a6.1.fi.len,this.2.2⟩
  ·first|(rw[hs];trivial)|trivial
  ·first|(rw[hs];trivial)|trivial
 ·exact c.can c.ty.told
 ·exact⟨c.can c.ty.idle,c.ty.OI.given c.ty.len,⟨af,by have:=c.wt.lt;rw[c.wt.id];omega⟩,h.vi hi c.wt.id (λj hj=>afG j (aj6 j hj)) (by have q:=adC ct;exact q)⟩
 ·obtain⟨_,_,o,ho,hs⟩:=ct;exact⟨o,ho,c.spf hs⟩
 ·exact⟨⟨af,af⟩,c.can c.ty.idle,ct.2⟩
 ·exact⟨⟨af,af⟩,c.can c.ty.idle⟩
 ·exact⟨ct.1,by rw[Int.add_zero];exact c.can (c.ty.qh af).k⟩
 ·have r:W.jq.toNat<G.ts.length:=af;exact⟨ct.1,c.inA,c.can c.own.bot,(c.sc r).1,n,m⟩
 ·have ht:=d ct.1;exact⟨ht.1,ct.2.fi.aav hF c.acc,(c.sc ht.2).1⟩
 ·have ht:=d ct.1;exact⟨ht.1,ct.2.1.cJ,c.caller,af,af,(c.sc1 ht.2 ct.2.1.cJ).1⟩
 ·have ht:=d ct.1;obtain⟨a1,a2,a3,a4⟩:=ct;obtain⟨g',g1,_⟩:=a2.fi.fork c.acc a3;have x:=ht.2;have f:=acH (T:=G.T) (s:=(G.tk (W.stack.headD 0)).id) (by unfold Bb;rw[(c.ty.qh ht.2).id];simp only[decide_eq_true_eq];have:=c.ty.kl;omega)
  obtain⟨kt,f⟩:=f;refine⟨ht.1,a2.cJ,a2.fi.aav hF c.acc,a2.fi.is8 c.acc a3,⟨g',g1⟩,c.caller,⟨kt,f,?_⟩,af,af,by rw[c.ty.pl];exact a4⟩
  have:=c.ty.kk _ _ (xP f).2.2;omega
 ·have ht:=d ct.1;have:=c.sc1 ht.2 ct.2.1.cJ;exact⟨ht.1,ct.2.1.cJ,this.1,this.2.2⟩
 ·have ht:=d ct.1;obtain⟨b1,b2⟩:=ct.2.1.fi.hand c.acc ct.2.2;exact⟨ht.1,ct.2.1.fi.aav hF c.acc,b1,b2,c.can c.ty.told,(c.sc ht.2).1⟩
 ·exact⟨c.inA,c.can c.own.bot⟩
 ·have ht:=d ct.1;obtain⟨a1,a2,a3⟩:=ct;have hin:=c.kA ht.2 a2.cJ;have hT:=c.ty.qh ht.2;have:=hT.sn;have:=hT.sl;refine⟨ht.1,a2.cJ,a2.fi.aav hF c.acc,c.caller,af,af,(c.sc1 ht.2 a2.cJ).1,⟨hin.1,by rw[c.ty.pl];exact hin.2⟩,af,af,⟨c.ty.Zs,c.ty.ck⟩,λhp=> ?_⟩
  exact(afH c.ty.ck af c.ty.Qn ⟨af,av9 (a2.fi.oV c.acc)⟩).1
 ·exact⟨(d ct.1).1,ct.2.1.cJ⟩
 ·have ht:=d ct.1;obtain⟨a1,a2,a3⟩:=ct;have hT:=c.ty.qh ht.2;have:=hT.sn;have:=hT.sl;have hs:=c.sc1 ht.2 a2.cJ;exact⟨ht.1,a2.cJ,a2.fi.aav hF c.acc,c.dr ht.2 a2.cJ,hs.1,hs.2.1,af⟩
 ·have ht:=d ct.1;have hs:=c.sc1 ht.2 ct.2.1.cJ;exact⟨ht.1,ct.2.1.cJ,ct.2.1.fi.len,hs.1,hs.2.1⟩
 ·exact⟨(d ct.1).1,ct.2.1.fi.len⟩
 ·exact⟨(d ct.1).1,ct.2.1.fi.aav hF c.acc,ct.2.1.fi.aEM c.acc⟩
 ·have ht:=d ct.1;exact⟨ht.1,c.can (c.ty.qh ht.2).v⟩
 ·have ht:=d ct.1;exact⟨ht.1,⟨ct.2.1.k2,ct.2.1.k4⟩,by rw[Int.add_zero];exact c.can (c.ty.qh ht.2).k⟩
 ·have ht:=d ct.1;exact⟨ht.1,c.can (c.ty.qh ht.2).w⟩
 ·have ht:=d ct.1;have hs:=c.sc ht.2;refine⟨ht.1,?_,hs.1,hs.2.2⟩;have hb:=c.wt.bk;rw[ht.1.s]at hb;cases hh:W.back with
  |nil=>rw[hh]at hb;exact hb.elim
  |cons kb bs=>
   rw[hh]at hb;refine⟨kb,bs,rfl,?_⟩;have:∀(st:List Nat) (b:List Kn),KU P G st b→b.length=st.length:=by
    intro st;induction st with
    |nil=>intro b hb;cases b<;>first|rfl|exact hb.elim
    |cons y st ih=>intro b hb;cases b with
     |nil=>exact hb.elim
     |cons k b=>simp[ih b hb.2.2]
   exact this _ _ hb.2.2
 ·have ht:=d ct.1.ne;have hg:=ahI ct.1 ct.2.1;exact⟨ht.1,Yl ct.1,hg,by rw[Int.add_zero];exact c.can (c.ty.qh hg.2).k⟩
 ·have ht:=d ct.1.ne;have hg:=ahI ct.1 ct.2.1;obtain⟨y,e,_,h3⟩|⟨k,e,_⟩:=ct.1.cases
  ·exact⟨ht.1,h3.1.fi.aav hF c.acc,hg,c.can (c.ty.qh hg.2).v⟩
  ·rw[e]at ct;cases ct.2.1
 ·have ht:=d ct.1.ne;exact⟨ht.1,aaz ct.1 ct.2.1 ct.2.2,c.inA,c.can c.own.bot⟩
 ·exact c.can c.ty.told
 ·have ht:=d ct.1.ne;have hs:=c.sc1 ht.2 (Yl ct.1);exact⟨ht.1,Yl ct.1,hs.1,hs.2.2⟩
 ·have hg:=ahI ct.1 ct.2;exact⟨hg,⟨af,af⟩,c.can (c.ty.qh hg.2).w⟩
 ·obtain⟨_,o,ho,hs⟩:=ct;exact⟨o,ho,c.spf hs⟩
 ·have ht:=d ct.ne;exact⟨ht.1,aCA ct,c.can c.ty.told,(c.sc ht.2).1⟩
 ·have ht:=d ct.1.ne;refine⟨ht.1,⟨af,af⟩,λhb=>c.spf ?_,λ_ hr=> ?_,λ_ _=> ?_⟩
  ·cases hs:W.step with
   |none=>exact⟨e7,e7,e7⟩
   |some o=>exact ct.2.1 hb o hs
  ·have hg:=ahI ct.1 (c.fl.SG hr);exact⟨hg,c.can (c.ty.qh hg.2).w⟩
  ·have g:=ct.2.2;unfold anY;split at g<;>rename_i hs<;>try exact g.elim
   all_goals try rw[hs]
   ·trivial
   ·exact g.1
   ·trivial
   ·trivial
   ·trivial
   ·exact⟨Yl ct.1,c.dr ht.2 (Yl ct.1)⟩
 ·have ht:=d ct.1;exact⟨ht.1,ct.2.2.2.2,c.can c.ty.told,(c.sc ht.2).1⟩
 ·have ht:=d ct.1;exact⟨ht.1,amr ct.2⟩
end
structure SM (G:Gl) (o:List (Int×Int)):Prop where
 kids:∀(i:Nat) (x:Kt),G.T[i]?=some x→x.kids.length≤1000000
 len:o.length≤100000
 dfs:if G.T.length=0 then o=[]else Dfs G.T [0] o
 ids:∀p∈o,0≤p.1∧p.1<G.ts.length
 sc:(da G o).length≤1000000
section
variable{w0 w:World}{L R:List HP}{l:Lc}{P:List dB}{aa:List Nat}{G:Gl}{Ws:List Wk}{n:Int}{sp st sw:Sl}{o:List (Int×Int)}
def awa{a:Nat}(h:St w0 w (LA aa G.ts::R))(ha:aa[x]?=some a)(hx:x<G.ts.length):∃so sc:Sl,St w0 w (au a ((G.tk x).cells so sc)::rws 2 so ((G.tk x).cJ.map A1)::bG 1 sc (ints (G.tk x).scopes)::jO tkP ((aa.zip G.ts).eraseIdx x)::R):=sv h ha (G.xw hx)
def afI{k:Sl→ap}(h:St w0 w (SL l aa G R sp st sw))(ho:SM G o)(hk:∀s w',St w0 w' (bG 1 s (ints (da G o))::SL l aa G R sp st sw)→k s w'):dO (some ⟨l.gs,0,none⟩) w k:=by
 unfold dO yY;have hla:=KI (h.front 9 rfl);refine aM h λg1 w h=>cX ?_;have h:=h.asS (g:=g1) (sz:=1) rfl af (by simp[Value.oneCell'])
 refine aiO h ho.kids ho.len ho.dfs λn w h=> ?_;have c:=qY (s:=n) h;simp only[ints,List.length_map]at c;have r:=ho.len;refine DN (G:=Nat) (λj x w=>x.2=(j:Int)∧j≤o.length∧St w0 w (bG 1 n (ints (o.map λp:Int×Int=>p.1))::bG 1 x.1 (ints (da G (o.take j)))::SL l aa G R sp st sw)) (λj=>o.length - j) (g:=0) ⟨rfl,af,h⟩ ?_;clear h;rintro j ⟨s1,i⟩ w ⟨hi,hj,h⟩ C hC;dsimp only at hi h ⊢;subst hi;by_cases hlt:j<o.length
 ·refine bK (by simp;omega) ?_
  have q:=ho.ids _ (List.getElem_mem hlt);generalize hp:o[j]'hlt=p at q;have b:o[j]?=some p:=by rw[iH hlt,hp]
  have d:p.1.toNat<G.ts.length:=af;obtain⟨a,ha⟩:=Zx hla (G.xw d);refine vI h af (x:=p.1) (by simp[ints,b]) ?_
  refine cX<|vP (s:=st) h q.1 (by rw[l8,ha];rfl) ?_
  have h:=h.fr 11;obtain⟨so,sc,h⟩:=awa h ha d;refine cX ?_;have f:=qY (s:=sc) h;have m:=qY (s:=s1) h;simp only[ints,List.length_map]at f m;have htot:(da G (o.take j)).length+(G.tk p.1.toNat).scopes.length≤1000000:=by
   have h2:=ho.sc;have e:o=o.take j++p::o.drop (j+1):=by
    rw[←hp,←List.drop_eq_getElem_cons hlt,List.take_append_drop]
   unfold da at h2 ⊢;rw[e]at h2;simp only[List.flatMap_append,List.flatMap_cons,List.length_cons,uv]at h2 ⊢;omega
  refine M9 (x:=sc) h an0 aZ (h.own).sls (by simp[ints,Value.oneCell']) af af λs2 w h t=> ?_
  have h:=qg hla ha (G.xw d) h;have h:=h.bk 11;refine hC (j+1) _ _ ⟨?_,af,?_⟩ af
  ·rw[kg ⟨af,af⟩];omega
  ·have e:ints (da G (o.take (j+1)))=ints (da G (o.take j))++ints (G.tk p.1.toNat).scopes:=by
    unfold da;rw[List.take_add_one,b];simp[ints]
   rw[e];exact h
 ·refine aU (by simp;omega) ?_
  have e:o.take j=o:=List.take_of_length_le af;rw[e]at h;exact hk _ _ h.drop
def azr(h:St w0 w (SL l aa G R sp st sw))(hf:G.time.2.length≤100000)(hc:CK G.time)(hs:∀y∈G.time.2,nZ G.C y.2=some (G.nd y.2)∧G.M.can l.wa.length (G.nd y.2).at_=true)(ht:G.M.can l.wa.length l.told=true)
  (hk:∀w',St w0 w' (SL l aa (ZD l G n).1 R sp st sw)→k (ZD l G n).2 w'):lA (some ⟨l.gs,0,none⟩) n w k:=by
 unfold lA BK;unfold ZD at hk;refine cX ?_;obtain⟨now,S⟩:∃now S,G.time=(now,S):=⟨_,_,rfl⟩;refine Ko.aBJ hf hc h (λha s' w' h=> ?_) λha h=> ?_
 ·rw[if_pos ha]at hk;refine aU rfl<|an2 (G:={G with time:=(G.time.1+n,Ko.Oy G.time.2 (G.time.1+n))}) h (λx hx=> ?_) ht λw h=>hk w h
  obtain⟨y,hy,rfl⟩:=List.mem_map.1 hx;exact hs y (List.mem_filter.1 hy).1
 ·rw[if_neg (by rw[ha];simp)]at hk
  exact bK rfl (hk _ h)
def azs(h:St w0 w (SL l aa G R sp st sw))(ho:SM G o)(hs:∀x∈da G o,(0≤x∧x<G.P.length)∧nZ G.C x=some (G.nd x)∧G.M.can l.wa.length (G.nd x).at_=true)(ht:G.M.can l.wa.length l.told=true)
  (hk:∀w',St w0 w' (SL l aa (ZF l G o n).1 R sp st sw)→k (ZF l G o n).2 w'):lB (some ⟨l.gs,0,none⟩) n w k:=by
 unfold lB BL;unfold ZF at hk;refine afI h ho λs1 w h=> ?_;have c:=qY (s:=s1) h;simp only[ints,List.length_map]at c;by_cases hn:0≤n∧n<(da G o).length
 ·rw[if_pos hn]at hk;have hlt:n.toNat<(da G o).length:=af;have hg:(da G o).getD n.toNat 0=(da G o)[n.toNat]'hlt:=by rw[m0,iH hlt];rfl
  rw[hg]at hk;have hx:=hs _ (List.getElem_mem hlt);generalize d:(da G o)[n.toNat]'hlt=x at hk hx;have a:(ints (da G o))[n.toNat]?=some (.int .i64 x):=by simp[ints,hlt,d]
  obtain⟨p,hp⟩:∃p,G.P[x.toNat]?=some p:=⟨_,iH af⟩;refine bP (λb w=>b=ZE G x∧St w0 w (bG 1 s1 (ints (da G o))::SL l aa G R sp st sw)) (λJ e=> ?_) ?_
  ·refine dZ λw h=> ?_;refine aU (by simp;omega) ?_
   refine cX<|vI h hn.1 a<|rB (sz:=4) (s:=sp) h hx.1.1 (by rw[l8,hp];rfl) rfl ?_
   exact e _ _ ⟨by unfold ZE;rw[hp],h⟩
  clear h;rintro _ w ⟨rfl,h⟩;refine ax (λhb=> ?_) λhb=> ?_
  ·rw[if_pos hb]at hk;exact hk _ h.drop
  ·rw[if_neg (by rw[hb];simp)]at hk
   refine vI h hn.1 a<|aM h λg2 w h=> ?_;have h:=h.asS (g:=g2) (sz:=1) rfl af (by simp[Value.oneCell'])
   have h:=h.rm 1 rfl;simp only[I7]at h;refine an2 h (λy hy=> ?_) ht λw h=>hk w h;simp at hy;subst hy;exact hx.2
 ·rw[if_neg hn]at hk;refine bP (λb w=>b=true∧St w0 w (bG 1 s1 (ints (da G o))::SL l aa G R sp st sw)) (λJ e=> ?_) ?_
  ·refine dZ λw h=> ?_;refine bK (by simp;omega) (e _ _ ⟨rfl,h⟩)
  clear h;rintro _ w ⟨rfl,h⟩;exact bK rfl (hk _ h.drop)
end
def roB(m:Lm)(v:Nat):List Ro:=[.top v,.bot v,.Uw v] ++(List.range (2 ^ m.lg.toNat)).map (.rg v m.lg.toNat)
def Qo(m:Lm):Nat→List Ro
 |0=>[.told,.idle,.ask 0,.liv 0,.Ye,.OI]
 |v+1=>Qo m v++roB m v
def ZP(m:Lm):List Ro:=Qo m m.n++[.ask 1,.liv 1] ++[.fk 0,.fv 0,.fw 0]
variable{i:Nat}
section
variable{w0 w:World}{L R:List HP}{a:Ad}{ps:Sl}{m:Lm}{P:List dB}{l:Lc}{ro:List Ro}{r:Ro}{b:Int}
def awb{v:Nat}:(((roB m v).length:Nat):Int)=m.one:=by
 unfold roB Lm.one EX;simp;omega
def Ym:∀v:Nat,(((Qo m v).length:Nat):Int)=sC m v
 |0=>by unfold sC;simp[Qo]
 |v+1=>by
  rw[ZI];show(((Qo m v++roB m v).length:Nat):Int)=_;rw[uv,Int.natCast_add,Ym v,awb]
def adE:∀(v:Nat) (i:Nat),∃q,Qo m (v+i)=Qo m v++q
 |v,0=>⟨[],bf⟩
 |v,i+1=>by
  obtain⟨q,hq⟩:=adE v i;exact⟨q++roB m (v+i),by show Qo m (v+i)++roB m (v+i)=_;rw[hq];simp⟩
def abk{v k:Nat}(hi:i<v)(hk:(roB m i)[k]?=some r):k9 (Qo m v) (sC m i+k) r:=by
 obtain⟨q,hq⟩:=adE (i+1) (v - (i+1));rw[show i+1+(v - (i+1))=v from by omega]at hq
 rw[hq];refine k9.qT ?_;show k9 (Qo m i++roB m i) _ _;exact k9.new hk (by rw[Int.natCast_add,Ym])
def ahJ{v:Nat}(hi:i<v):ZH (Qo m v) i (sC m i):=by
 refine⟨?_,abk hi rfl,abk hi rfl⟩;have:=abk (m:=m) (k:=0) hi rfl;simpa using this
def azt{v k:Nat}(hi:i<v)(hk:k<2 ^ m.lg.toNat):k9 (Qo m v) (sC m i+3+k) (.rg i m.lg.toNat k):=by
 have:=abk (m:=m) (k:=3+k) (r:= .rg i m.lg.toNat k) hi (by
  unfold roB;rw[u0 bf];simp[hk])
 rw[show sC m i+3+(k:Int)=sC m i+((3+k:Nat):Int) by omega]
 exact this
def afJ{v k:Nat}(hk:([.told,.idle,.ask 0,.liv 0,.Ye,.OI]:List Ro)[k]?=some r):k9 (Qo m v) k r:=by
 obtain⟨q,hq⟩:=adE 0 v;rw[Nat.zero_add]at hq;rw[hq];exact k9.qT ⟨af,hk⟩
def aka:∀{v:Nat},k9 (Qo m v) b r→(∀i,r≠ .Uw i)∨∃i,i<v∧r= .Uw i∧b=sC m i+2
 |0,h=>by
  refine .inl λi e=> ?_;subst e;obtain⟨_,h⟩:=h;have:=qn h;simp[Qo]at this
 |v+1,h=>by
  rcases k9.old h with h|⟨k,hk,e⟩
  ·rcases aka h with h|⟨i,h1,h2,h3⟩
   ·exact .inl h
   ·exact .inr ⟨i,af,h2,h3⟩
  ·by_cases h3:k<3
   ·match k,h3 with
    |0,_=>refine .inl λi q=> ?_;subst q;cases hk
    |1,_=>refine .inl λi q=> ?_;subst q;cases hk
    |2,_=>
     cases hk
     refine .inr ⟨v,af,rfl,?_⟩;rw[e,Int.natCast_add,Ym];rfl
   ·refine .inl λi q=> ?_;subst q;unfold roB at hk;rw[u0 (by simp;omega)]at hk
    have:=qn hk;simp at this
def awc{n:Nat}(hn:1≤n)(h:∀i,r≠ .Uw i):EO l ro n r 0:=by
 cases r with
 |Uw i=>exact absurd rfl (h i)
 |OI=>exact⟨af,af⟩
 |ask s=>exact .inl rfl
 |rg v g k=>exact⟨af,af⟩
 |top v=>exact⟨e7,e7⟩
 |bot v=>exact⟨e7,e7⟩
 |fk x=>exact⟨af,af⟩
 |_=>trivial
def aCD(hm:m.OK)(v:Nat):6≤sC m v:=by
 have:=m.KS hm;have:=Yg m af (Nat.zero_le v);unfold sC at this ⊢;simp at this ⊢;omega
def azu(hm:m.OK)(h:m.total≤m.cells){x:Int}(h0:0≤x):(g2 m).M.get x=if x<6+m.n*m.one then(oe m m.n).get x else 0:=by
 have hR:=ahC hm h;have l1:(((g1 m).M.cells.length:Nat):Int)=8+m.n*m.one:=by
  have:=xQ (M:=(oe m m.n).tick m.n) (n:=2) af;show((((oe m m.n).tick m.n).grow 2).cells.length:Nat)=(_:Int);rw[this];show(((oe m m.n).cells.length:Nat):Int)+2=_;rw[hR.len];omega
 show(((g1 m).M.tick m.n).grow 3).get x=_;by_cases h1:x<8+m.n*m.one
 ·rw[xR h0 (by show x<(((g1 m).M.cells.length:Nat):Int);rw[l1];exact h1),tT]
  show(((oe m m.n).tick m.n).grow 2).get x=_;split
  ·rename_i h2;rw[xR h0 (by show x<(((oe m m.n).cells.length:Nat):Int);rw[hR.len];exact h2),tT]
  ·rename_i h2;exact Yf (by show(((oe m m.n).cells.length:Nat):Int)≤x;rw[hR.len];omega)
 ·rw[if_neg af];exact Yf (by show(((g1 m).M.cells.length:Nat):Int)≤x;rw[l1];omega)
def aCE(hm:m.OK)(b:wa.length=m.n):afx (gJ a ps m wa):=by
 have:=hm.base;have:=hm.spare;refine⟨⟨hm.base.1,hm.base.2,hm.spare.1,hm.spare.2⟩,?_,?_⟩
 ·show 1≤wa.length;rw[b];unfold Lm.n;omega
 ·show wa.length≤16;rw[b];unfold Lm.n;omega
def aoc(hm:m.OK)(h:m.total≤m.cells)(hi:i<m.n):RgT (gJ a ps m wa) (Qo m m.n) i ⟨sC m i+3,m.lg⟩:=by
 have b:=m.adq hm;have ho:=m.KS hm;have c:=acM b.1 b.2.2;have hone:m.one=3+EX m.lg:=rfl;have h1:=Yg m af (show i+1≤m.n by omega)
 rw[ZI]at h1;have h2:sC m m.n=6+m.n*m.one:=rfl;have h6:=aCD hm i;have hsz:=hm.cells;unfold Lm.total at h;refine⟨?_,b.2.1,λk hk=>azt hi hk⟩;unfold Rg.right;simp only[decide_eq_true_eq];unfold EX at c hone;unfold Rg.pw;dsimp only;omega
def azv:CK ((0,[]):Int×List (Int×Int)):=⟨e7,e7,λy hy=>(by cases hy),λy hy=>(by cases hy),.nil,List.nodup_nil⟩
def azw(hm:m.OK)(h:m.total≤m.cells)(hz:m.cells≤65536)(f:wa.length=m.n):Ty (gJ a ps m wa) (ZP m) (g2 m):=by
 have hR:=ahC hm h;have ho:=m.KS hm;have l:=hR.n1;have hmul:m.one≤m.n*m.one:=by have:(1:Int)*m.one≤m.n*m.one:=Int.mul_le_mul_of_nonneg_right af af;omega
 obtain⟨h1,h2,h3,h4,h5⟩:=Te hm m.n (by unfold Lm.total at h;omega)
 have b:(((Qo m m.n).length:Nat):Int)=6+m.n*m.one:=Ym m.n;have hl:(((ZP m).length:Nat):Int)=11+m.n*m.one:=by
  unfold ZP;simp only[uv,List.length_cons,List.length_nil];omega
 have l1:(((g1 m).M.cells.length:Nat):Int)=8+m.n*m.one:=by
  have:=xQ (M:=(oe m m.n).tick m.n) (n:=2) af;show((((oe m m.n).tick m.n).grow 2).cells.length:Nat)=(_:Int);rw[this];show(((oe m m.n).cells.length:Nat):Int)+2=_;rw[h3];omega
 have l2:(((g2 m).M.cells.length:Nat):Int)=11+m.n*m.one:=by
  have:=xQ (M:=(g1 m).M.tick m.n) (n:=3) af;show((((g1 m).M.tick m.n).grow 3).cells.length:Nat)=(_:Int);rw[this];show(((g1 m).M.cells.length:Nat):Int)+3=_;rw[l1];omega
 have hst:(g2 m).M.steps.length=m.n+1:=by rw[←h5];exact Tg.trans Tg
 have hb:∀{k:Nat} {r:Ro},([.told,.idle,.ask 0,.liv 0,.Ye,.OI]:List Ro)[k]?=some r→k9 (ZP m) k r:=λhk=>(afJ hk).qT.qT;have hs1:∀{k:Nat} {r:Ro},([.ask 1,.liv 1]:List Ro)[k]?=some r→k9 (ZP m) ((oe m m.n).cells.length+k:Nat) r:=fun{k r} hk=>k9.qT (k9.new hk (by have:=b;have:=h3;omega))
 have c:∀{k:Nat} {r:Ro},([.fk 0,.fv 0,.fw 0]:List Ro)[k]?=some r→k9 (ZP m) ((g1 m).M.cells.length+k:Nat) r:=fun{k r} hk=>k9.new hk (by have:=b;have:=l1;simp only[uv,List.length_cons,List.length_nil];omega)
 have hC:(g2 m).C=[⟨-1,0,2⟩,⟨0,1,((oe m m.n).cells.length:Nat)⟩]:=rfl;have hT:(g2 m).ts=[⟨0,0,1,((g1 m).M.cells.length:Nat),nF,ByteArray.mk #[],[],[1],0,0⟩]:=rfl;have hsz:(g2 m).M.size=m.cells:=h4;obtain⟨g,j⟩:=adu hm m.n (by unfold Lm.total at h;omega)
 have hdn:sC m m.n=6+m.n*m.one:=rfl;refine{len:=by omega,ok:=hR.ok2,sz:=by rw[hsz];exact hz,stp:=by rw[hst];show _=wa.length+1;rw[f],val:=λa' r hL=> ?_,told:=hb rfl,idle:=hb rfl,Ye:=hb rfl,OI:=hb rfl,sc:=λs x hx=> ?_,tk:=λx t ht=> ?_,c1:=(by rw[hC];simp),t1:=(by rw[hT];simp),pl:=rfl,kt:=λi x hx=> ?_,kl:=rfl,kk:=λi x hx=> ?_,ck:=azv,Qn:=(λy hy=>by cases hy),cnt:= ?_,dr:=(by show(0:Nat)≤1024;decide)}
 ·rw[azu hm h hL.1,hT];have d:∀r:Ro,(∀i,r≠ .Uw i)→EO (gJ a ps m wa) (ZP m) 1 r 0:=λr q=>awc (iw 1) q;rcases hL.old with hL|⟨k,hk,e⟩
  ·rcases hL.old with hL|⟨k,hk,e⟩
   ·have hlt:=hL.lt;rw[b]at hlt;rw[if_pos hlt];rcases aka hL with q|⟨i,hi,rfl,rfl⟩
    ·rw[g a' hL.1 (by rw[hdn];exact hlt) λi hi=>(hL.ne (ahJ hi).Uw (q i))]
     exact d r q
    ·rw[j i hi];exact⟨_,rfl,(aoc hm h hi).qT.qT⟩
   ·rw[if_neg af];refine d r λi q=> ?_;subst q;have:=qn hk;simp at this
  ·rw[if_neg (by simp only[uv,List.length_cons,List.length_nil]at e;omega)]
   refine d r λi q=> ?_;subst q;have:=qn hk;simp at this
 ·rw[hC]at hx;match s,hx with
  |0,hx=>cases hx;exact⟨hb rfl,hb rfl,(by show(0:Int)≤0∧(0:Int)≤32;decide),λq=>absurd rfl q,λ_=>rfl⟩
  |1,hx=>cases hx;exact⟨hs1 (k:=0) rfl,hs1 rfl,(by show(0:Int)≤1∧(1:Int)≤32;decide),λq=>(by show(0:Int)≤0∧(0:Int)<1;decide),λq=>(by cases q)⟩
  |s+2,hx=>simp at hx
 ·rw[hT]at ht;match x,ht with
  |0,ht=>cases ht;exact⟨rfl,c (k:=0) rfl,c rfl,c rfl,(by rw[hC];show(0:Int)≤0∧(0:Int)<2;decide),(by rw[hC];show(0:Int)≤1∧(1:Int)<2;decide),λp hp=>(by cases hp),(by show 0+0≤1;decide),(by rw[hC];show 1≤2;decide)⟩
  |x+1,ht=>simp at ht
 ·have hx:([⟨-1,0,[]⟩]:List Kt)[i]?=some x:=hx;match i,hx with
  |0,hx=>cases hx;exact⟨(by show(-1:Int)≤ -1;decide),(by show(-1:Int)<0;decide),λ_=>rfl⟩
  |i+1,hx=>simp at hx
 ·have hx:([⟨-1,0,[]⟩]:List Kt)[i]?=some x:=hx;match i,hx with
  |0,hx=>cases hx;exact(by show 0≤1;decide)
  |i+1,hx=>simp at hx
 ·rw[hC,hT];show 2*2+3*1≤_;omega
end
variable{kind:Int}
section
variable{w0 w:World}{L R:List HP}{l:Lc}{P:List dB}{bw:List Int}{ro:List Ro}{aa:List Nat}{G G':Gl}{Ws:List Wk}{n:Int}{sp st sw:Sl}{o:List (Int×Int)}
def IV.drv(h:IV l P bw ro G Ws)(ty:Ty l ro G')(Cd:uN ro ro G G' [])(hts:G'.ts=G.ts)(a:G'.err=0→G.err=0):IV l P bw ro G' Ws:=by
 have hK:∀x,x<G.ts.length→1≤G.K x→G'.K x=G.K x:=λx hx h1=>(Cd.K1 x hx bf h1).1;refine⟨h.lc,h.lg,h.acc,ty,h.wn,h.dl,h.dq,λi W hi=>(h.w i W hi).imp Cd (λx _=>by simp) a,h.dj,λx hx hk=> ?_⟩
 rw[hts]at hx ⊢;have:G'.tk x=G.tk x:=by unfold Gl.tk;rw[hts]
 rw[this];exact h.fr x hx (Cd.K0 x hx hk)
def awd(h:Ty l ro G){s:Int}(hs:0≤s∧s<G.C.length):Ty l ro (G.Fw wk s)∧uN ro ro G (G.Fw wk s) []∧(G.Fw wk s).ts=G.ts∧(G.Fw wk s).C=G.C∧(G.Fw wk s).err=G.err:=by
 obtain⟨hsc,c⟩:=h.O7 hs.1 hs.2;have hlt:=c.a.lt;rw[h.len]at hlt;have d:∀b,0≤b→(G.M.cs wk (G.nd s).at_ 0 1).1.get b=if b=(G.nd s).at_∧G.M.get (G.nd s).at_=0 then 1 else G.M.get b:=λb hb=>abi c.a.1 hlt hb
 have hK:∀y,y<G.ts.length→(G.Fw wk s).K y=G.K y∧(G.Fw wk s).V y=G.V y:=λy hy=>by
  have hk:=(h.qh hy).k;have hv:=(h.qh hy).v;have n1:=hk.ne c.a bf;have n2:=hv.ne c.a bf;show(G.M.cs _ _ _ _).1.get (G.tk y).jI=_∧(G.M.cs _ _ _ _).1.get ((G.tk y).jI+1)=_;rw[d _ hk.1,if_neg (λq=>n1 q.1),d _ hv.1,if_neg (λq=>n2 q.1)];exact⟨rfl,rfl⟩
 refine⟨h.cs c.a (.inr rfl),⟨⟨[],bf⟩,iw _,λ_ _ _=>rfl,λ_ _=>⟨rfl,rfl,rfl⟩,⟨[],by simp[Gl.Fw,Gl.mem]⟩,λy hy q=>by rw[←(hK y hy).1];exact q,λy hy _ _=>hK y hy,λy hy _=>hK y hy,λs' ⟨nd,h1,h2⟩=>⟨nd,h1,?_⟩⟩,rfl,rfl,rfl⟩
 show(G.M.cs _ _ _ _).1.get _≠0;rw[d _ (JL h h1).1];split
 ·decide
 ·exact h2
def uN.We{iT ro2:List Ro}{G2:Gl}(h:uN ro iT G G' [])(k:uN iT ro2 G' G2 []):uN ro ro2 G G2 []:=h.trans k (.inr λx hx=>by cases hx)
def uN.refl(ro:List Ro)(G:Gl):uN ro ro G G []:=⟨⟨[],bf⟩,iw _,λ_ _ _=>rfl,λ_ _=>⟨rfl,rfl,rfl⟩,⟨[],bf⟩,λ_ _ q=>q,λ_ _ _ _=>⟨rfl,rfl⟩,λ_ _ _=>⟨rfl,rfl⟩,λ_ q=>q⟩
def afK(a:G'.M=G.M)(hts:G'.ts=G.ts)(hC:G'.C=G.C):uN ro ro G G' []:=by
 cases G'
 dsimp only at a hts hC;subst a;subst hts;subst hC;exact⟨⟨[],bf⟩,iw _,λ_ _ _=>rfl,λ_ _=>⟨rfl,rfl,rfl⟩,⟨[],bf⟩,λ_ _ q=>q,λ_ _ _ _=>⟨rfl,rfl⟩,λ_ _ _=>⟨rfl,rfl⟩,λ_ q=>q⟩
def akb(wk:Int):∀(ids:List Int) (G:Gl),Ty l ro G→(∀x∈ids,0≤x∧x<G.C.length)→Ty l ro (sK wk G ids)∧uN ro ro G (sK wk G ids) []∧(sK wk G ids).ts=G.ts∧(sK wk G ids).C=G.C∧(sK wk G ids).err=G.err
 |[],G,h,_=>⟨h,uN.refl ro G,rfl,rfl,rfl⟩
 |s::ids,G,h,hs=>by
  obtain⟨h1,h2,h3,h4,h5⟩:=awd h (hs s bf);obtain⟨a,k2,b,k4,c⟩:=akb wk ids (G.Fw wk s) h1 λx hx=>by rw[h4];exact hs x (by simp[hx])
  exact⟨a,h2.We k2,b.trans h3,k4.trans h4,c.trans h5⟩
def akc{ids:List Int}(h:Ty l ro G)(hs:∀x∈ids,0≤x∧x<G.C.length):Ty l ro (UX l G ids)∧uN ro ro G (UX l G ids) []∧(UX l G ids).ts=G.ts∧(UX l G ids).C=G.C∧(UX l G ids).err=G.err:=by
 unfold UX;split
 ·exact⟨h,uN.refl ro G,rfl,rfl,rfl⟩
 ·obtain⟨a,k2,b,k4,c⟩:=akb (l.wa.length:Nat) ids G h hs;exact⟨a.ad a.told trivial,k2.We (ahD a a.told (λq=>q)),b,k4,c⟩
def awe(h:IV l P bw ro G Ws)(ho:∀x∈da G o,0≤x∧x<G.C.length):∃iT,IV l P bw iT (SA l P G Ws o kind n).1.1 (SA l P G Ws o kind n).1.2:=by
 unfold SA;split
 ·exact⟨ro,h⟩
 rename_i he;have he:G.err=0:=Classical.not_not.1 he;split
 ·unfold ZC;split
  ·split
   ·rename_i W hW;split
    ·rw[h.dl];obtain⟨iT,_,hr⟩:=h.step hW he;exact⟨iT,hr⟩
    ·exact⟨ro,h⟩
   ·exact⟨ro,h⟩
  ·exact⟨ro,h⟩
 split
 ·unfold ZD;split
  ·rename_i ha;have a:Ty l ro {G with time:=(G.time.1+n,Ko.Oy G.time.2 (G.time.1+n))}:={h.ty with ck:=h.ty.ck.adv ha,Qn:=λy hy=>h.ty.Qn y (List.mem_filter.1 hy).1}
   have b:uN ro ro G {G with time:=(G.time.1+n,Ko.Oy G.time.2 (G.time.1+n))} []:=afK rfl rfl rfl;obtain⟨c,k2,d,k4,f⟩:=akc (ids:=Ko.ids (Ko.ac4 G.time.2 (G.time.1+n))) a λx hx=>by
    obtain⟨y,hy,rfl⟩:=List.mem_map.1 hx;have hm:=(List.mem_filter.1 hy).1;exact⟨h.ty.ck.ids y hm,h.ty.Qn y hm⟩
   exact⟨ro,h.drv c (b.We k2) d (λe=>by rw[←f];exact e)⟩
  ·exact⟨ro,h⟩
 split
 ·split
  ·rename_i hd;have a:Ty l ro {G with D:=G.D++[n]}:={h.ty with dr:=by show(G.D++[n]).length≤_;simp;omega}
   exact⟨ro,h.drv a (afK rfl rfl rfl) rfl (λe=>e)⟩
  ·exact⟨ro,h⟩
 split
 ·unfold ZF;split
  ·rename_i hn;split
   ·exact⟨ro,h⟩
   ·have hlt:n.toNat<(da G o).length:=af;have hg:(da G o).getD n.toNat 0=(da G o)[n.toNat]'hlt:=by rw[m0,iH hlt];rfl
    obtain⟨c,k2,d,k4,f⟩:=akc (ids:=[(da G o).getD n.toNat 0]) h.ty λx hx=>by
     simp only[List.mem_singleton]at hx;rw[hx,hg];exact ho _ (List.getElem_mem hlt)
    exact⟨ro,h.drv c k2 d (λe=>by rw[←f];exact e)⟩
  ·exact⟨ro,h⟩
 ·exact⟨ro,h⟩
def aFl(hI:IV l P bw ro G Ws)(hF:iA w0 l.ps P)(hT:TZ w0)(ho:SM G o)(hs:∀x∈da G o,0≤x∧x<G.C.length)(h:qK w0 w l aa G Ws R)
  (hk:∀JI w',qK w0 w' l JI (SA l P G Ws o kind n).1.1 (SA l P G Ws o kind n).1.2 R→k (SA l P G Ws o kind n).2 w'):nO (some ⟨l.gs,0,none⟩) #[.int .i64 kind,.int .i64 n] w k:=by
 unfold nO EH;unfold SA at hk;have hdc:G.M.caller l.wa.length=true:=Ga hI.ty.stp af af;have c:∀x:Int,0≤x→x<G.C.length→nZ G.C x=some (G.nd x)∧G.M.can l.wa.length (G.nd x).at_=true:=λx h0 h1=>by
  obtain⟨a,b⟩:=hI.ty.O7 h0 h1;exact⟨a,b.a.can hI.ty.len hdc⟩
 have htold:G.M.can l.wa.length l.told=true:=hI.ty.told.can hI.ty.len hdc;refine aM h λg1 w h=> ?_;have h:St w0 w (au g1 [.int .i64 kind,.int .i64 n]::UW l aa G::jO (pH l aa) (l.wa.zip Ws)::R):=h;have h2:=h.drop;obtain⟨sp,st,sw,h3⟩:=rO h2;refine bP (λb w=>b=decide (G.err≠0)∧St w0 w (au g1 [.int .i64 kind,.int .i64 n]::UW l aa G::jO (pH l aa) (l.wa.zip Ws)::R)) (λJ d=> ?_) ?_
 ·refine aU rfl (bc (aI h3 rfl (d _ _ ⟨?_,h⟩)));by_cases e:G.err=0<;>simp[e]
 clear h h2 h3;rintro _ w ⟨rfl,h⟩;by_cases he:G.err=0;rotate_left
 ·rw[if_pos he]at hk;exact bK (by simp[he]) (hk aa _ h.drop)
 rw[if_neg (by simp[he])]at hk
 refine aU (by simp[he]) ?_
 refine cr h rfl<|ax (λhb=> ?_) λhb=> ?_
 ·rw[if_pos (gq hb)]at hk
  refine cr h rfl ?_;have h:=h.drop;refine ayW hF hT hI.lc hI.wn hI.ty.ok he (hI.ty.OI.given hI.ty.len) (hI.ty.told.given hI.ty.len) (λi W hi _ _=> ?_) h hk;rw[hI.dl];exact hI.ok hi he hF
 rw[if_neg (gq hb)]at hk
 clear hb;refine ax (λhb=> ?_) λhb=> ?_
 ·rw[if_pos (gq hb)]at hk
  refine cr h rfl ?_;obtain⟨sp,st,sw,h3⟩:=rO h.drop;refine azr h3 hI.ty.Zs hI.ty.ck (λy hy=>c _ (hI.ty.ck.ids y hy) (hI.ty.Qn y hy)) htold λw' h'=>hk aa w' (pE h')
 rw[if_neg (gq hb)]at hk
 clear hb;refine ax (λhb=> ?_) λhb=> ?_
 ·rw[if_pos (gq hb)]at hk
  obtain⟨sp,st,sw,h⟩:=rO h.swap;refine vO λgx w h=> ?_;have h:=h.fr 9;refine atu (l:=sp) h.swap (λhd w h=> ?_) (λhd w h=> ?_) hI.ty.dr
  ·rw[if_pos hd]at hk;have h:=h.bk 8;have h:=h.zm 10;exact hk aa _ (pE h)
  ·rw[if_neg hd]at hk;have h:=h.bk 8;have h:=h.zm 10;exact hk aa _ (pE h)
 rw[if_neg (gq hb)]at hk
 clear hb;refine ax (λhb=> ?_) λhb=> ?_
 ·rw[if_pos (gq hb)]at hk
  refine cr h rfl ?_;obtain⟨sp,st,sw,h3⟩:=rO h.drop;refine azs h3 ho (λx hx=> ?_) htold λw' h'=> ?_
  ·have:=hs x hx;exact⟨by rw[hI.ty.pl];exact this,c x this.1 this.2⟩
  ·exact hk aa w' (pE h')
 rw[if_neg (gq hb)]at hk
 exact hk aa _ h.drop
end
def dqN(m:Lm):List Int:=(Bd m).map λW:Wk=>W.dq
section
variable{w0 w:World}{L R:List HP}{a:Ad}{ps:Sl}{m:Lm}{P:List dB}{l:Lc}{ro:List Ro}{r:Ro}{b:Int}
def aCK(hm:m.OK)(h:m.total≤m.cells)(hz:m.cells≤65536)(d:wa.length=m.n):Ty (gJ a ps m wa) (ZP m) (eY m):=by
 have hR:=ahC hm h;have h2:=azw (a:=a) (ps:=ps) hm h hz d;have b:k9 (ZP m) 3 (.liv 0):=(afJ rfl).qT.qT;have h3:Ty (gJ a ps m wa) (ZP m) (g3 m):=h2.ad b trivial;have c:sC m 0=6:=by unfold sC;simp
 have e:RgT (gJ a ps m wa) (ZP m) 0 ⟨9,m.lg⟩:=by
  have:=aoc (a:=a) (ps:=ps) (wa:=wa) hm h hR.n1;rw[c]at this;exact this.qT.qT
 have f:=e.place 0;have hb:=(ahJ (m:=m) hR.n1).bot;rw[c]at hb;have h4:Ty (gJ a ps m wa) (ZP m) ((g3 m).mem ((((((g3 m).M.tick m.n).tick m.n).tick m.n).tick m.n).put ((Rg.mk 9 m.lg).place 0) 0)):=h3.put ⟨rfl,rfl,bf⟩ f (by show(0:Int)≤0∧(0:Int)<1;decide)
 exact h4.put ⟨rfl,rfl,by simp[Gl.mem]⟩ hb.qT.qT (by show sy 1;exact⟨e7,e7⟩)
def ZQ:(Bd m).length=m.n:=by unfold Bd JR;simp
def adF(h:(Bd m)[i]?=some W):i<m.n∧W=Wa i (sC m i):=by
 have hl:=(kB.1 h).1;rw[ZQ]at hl;refine⟨hl,?_⟩;unfold Bd JR at h;rw[l8,List.getElem?_range hl]at h;simpa using h.symm
def aod(h:i<m.n):(dqN m).getD i 0=sC m i:=by
 unfold dqN Bd JR;simp[m0,h,Wa]
def awf(hm:m.OK)(h:m.total≤m.cells)(hz:m.cells≤65536)(b:wa.length=m.n)(hA:oW P):IV (gJ a ps m wa) P (dqN m) (ZP m) (eY m) (Bd m):=by
 refine⟨aCE hm b,hm.log,hA,aCK hm h hz b,by rw[ZQ];exact b,rfl,λv hv=> ?_,λi W hi=> ?_,λi j Wi Wj x hi hj hx=> ?_,λx hx hk=> ?_⟩
 ·have hv:v<m.n:=by have hv:v<wa.length:=hv;rw[b]at hv;exact hv
  rw[aod hv];exact(ahJ hv).qT.qT
 ·obtain⟨hl,rfl⟩:=adF hi;refine⟨rfl,by show i<wa.length;rw[b];exact hl,by rw[aod hl];rfl,trivial,?_,λx hx=>(by cases hx),λ_=>(show([]:List Nat)=[]from rfl),λ_=>⟨λ_=>⟨rfl,rfl⟩,λq=>(by cases q),λq=>(by rcases q with q|q<;>cases q)⟩,λx hx=>(by cases hx),List.nodup_nil⟩
  show((0:Nat):Int)≤m.deep;have:=hm.deep;omega
 ·obtain⟨hl,rfl⟩:=adF hi;cases hx
 ·have hx:x<1:=hx;have hx:x=0:=af;subst hx;exact⟨FI.root hA,rfl,rfl,rfl,rfl,rfl⟩
end
def Cs(G:Gl)(Ws:List Wk):Bool:=Ws.all (λW:Wk=>W.stack.isEmpty)&&decide (2≤G.K 0)
section
variable{w0 w:World}{L R:List HP}{l:Lc}{P:List dB}{bw:List Int}{ro:List Ro}{aa:List Nat}{G:Gl}{Ws:List Wk}{n:Int}{os:List (Nat×Wk)}{f:HP→List HP}
def azx{n gj:Nat}{Wj:Wk}{c:Sl→Prop}(h:St w0 w L)[a:At L (jO (pH l aa)) os f](hn:os[n]?=some (gj,Wj))(hc:∀s:Sl,s.n=Wj.stack.length→c s):cy w (aY ⟨gj,0,none⟩ 5) c:=by
 obtain⟨R,ho,_⟩:=a.out;obtain⟨q,hq,h2⟩:=X2 (BW (ho h) hn);have hl:=qY (s:=q.ss) h2;have:=hq.qw.len;refine aS h2 vM<|hc _ (by simp at hl;show q.ss.n=_;omega)
def azy{a:Nat}{t:Tk}{c:Array Value→Prop}(h:St w0 w L)[a1:At L (LA aa) G.ts f](ha:aa[x]?=some a)(ht:G.ts[x]?=some t)(hc:c #[.int .i64 t.jI]):bx 1 w (aY ⟨a,0,none⟩ 3) c:=by
 obtain⟨R,ho,_⟩:=a1.out;obtain⟨so,sc,h2⟩:=sv (ho h) ha ht;refine bA h2 vM ?_;exact hc
def adG(hI:IV l P bw ro G Ws)(h:qK w0 w l aa G Ws R)(hk:∀w',qK w0 w' l aa G Ws R→k (Cs G Ws) w'):cA (some ⟨l.gs,0,none⟩) w k:=by
 have hlc:=hI.lc;have hwn:=hI.wn;have f:=hlc.w16;obtain⟨sp,st,sw,h⟩:=rO h;have d:=qY (s:=sw) h;rw[List.length_map]at d;have hla:=KI (h.front 9 rfl);unfold cA zV;refine aU rfl<|cX<|bP (λ_ w=>Ws.all (λW:Wk=>W.stack.isEmpty)=true∧St w0 w (SL l aa G (jO (pH l aa) (l.wa.zip Ws)::R) sp st sw)) (λJ m=> ?_) ?_
 ·refine DN (G:=Nat) (λj i w=>i=(j:Int)∧j≤Ws.length∧(Ws.take j).all (λW:Wk=>W.stack.isEmpty)=true∧St w0 w (SL l aa G (jO (pH l aa) (l.wa.zip Ws)::R) sp st sw)) (λj=>Ws.length - j) (g:=0) ⟨rfl,af,rfl,h⟩ ?_;clear h;rintro j i w ⟨hi,hj,ha,h⟩ C hC;subst hi;by_cases hlt:j<Ws.length;rotate_left
  ·have e:j=Ws.length:=af;subst e;rw[List.take_length]at ha;exact aU (by simp;omega) (m _ _ ⟨ha,h⟩)
  refine bK (by simp;omega) ?_
  obtain⟨gw,b⟩:∃g,l.wa[j]?=some g:=⟨_,iH af⟩;have hW:Ws[j]?=some (Ws[j]'hlt):=iH hlt;refine vP h af (by rw[iZ,l8,b];rfl) ?_
  refine cX<|azx (l:=l) (aa:=aa) h (by rw[List.getElem?_zip_eq_some];exact⟨b,hW⟩) λs hs=> ?_
  have hne:(decide (((s.n:Nat):Int)>0))= !(Ws[j]'hlt).stack.isEmpty:=by
   rw[hs];cases (Ws[j]'hlt).stack<;>simp
  rw[hne];cases he:(Ws[j]'hlt).stack.isEmpty with
  |false=>
   refine bK rfl ?_;have hq:Cs G Ws=false:=by
    unfold Cs;have:Ws.all (λW:Wk=>W.stack.isEmpty)=false:=by
     rw[List.all_eq_false];exact⟨_,List.getElem_mem hlt,by rw[he];simp⟩
    rw[this];rfl
   rw[hq]at hk;exact hk _ (pE h)
  |true=>
   refine aU rfl<|hC (j+1) _ _ ⟨by rw[kg ⟨af,af⟩];rfl,af,?_,h⟩ af
   rw[List.take_add_one,hW,List.all_append,ha];show(true&&((Ws[j]'hlt).stack.isEmpty&&true))=true;rw[he];rfl
 clear h;rintro _ w ⟨ha,h⟩;have hx:0<G.ts.length:=hI.ty.t1;obtain⟨a,c⟩:=Zx hla (G.xw hx);refine dZ λw h=> ?_;refine vP h af (by show(aa.map pt)[0]?=_;rw[l8,c];rfl) ?_
 refine cX<|azy h c (G.xw hx) ?_;refine cX ?_;have hT:=hI.ty.qh hx;have hl:=hI.ty.len;refine aiM h hI.ty.ok (by have:=hT.k.given hl;simpa using this) (hT.v.given hl) (hT.w.given hl) λw h=> ?_
 have e:Cs G Ws=decide (G.M.get ((G.tk 0).jI+0)≥2):=by
  unfold Cs;rw[ha,Int.add_zero];rfl
 rw[e]at hk;exact hk _ (pE h)
def ahK{k:Int→ap}(h:qK w0 w l aa G Ws R)(hk:∀w',qK w0 w' l aa G Ws R→k G.err w'):cS (some ⟨l.gs,0,none⟩) w k:=by
 obtain⟨sp,st,sw,h⟩:=rO h;unfold cS;refine aU rfl<|cX<|hk _ (pE h)
end
def ams{e:List Value}(he:0<e.length):∀n:Nat,madeCells e.toArray (n*e.length)=(dU n e).flatten.toArray:=by
 intro n;apply Array.ext
 ·simp[madeCells]
 ·intro j h1 h2;have hj:j % e.length<e.length:=Nat.mod_lt _ he;have key:∀(n j:Nat),j<n*e.length→(dU n e).flatten[j]?=e[j % e.length]?:=by
   intro n;induction n with
   |zero=>intro j hj;omega
   |succ n ih=>
    intro j hj;rw[List.replicate_succ,List.flatten_cons];by_cases hlt:j<e.length
    ·rw[tJ hlt,Nat.mod_eq_of_lt hlt]
    ·rw[u0 af,ih (j - e.length) (by rw[Nat.succ_mul]at hj;omega)]
     congr 1;exact(Nat.mod_eq_sub_mod af).symm
  have hlen:j<n*e.length:=by simpa[madeCells]using h1
  have:=key n j hlen;rw[iH hj,iH (gq h2)]at this
  have:=Option.some.inj this;simp[madeCells,hj,this]
section
variable{w0 w:World}{L R:List HP}{l:Lc}{P:List dB}{bw:List Int}{ro:List Ro}{aa:List Nat}{G:Gl}{Ws:List Wk}{n:Int}{os:List (Nat×Wk)}{f:HP→List HP}{sp st sw:Sl}{o:List (Int×Int)}
def azB{P:Program}{t:TypeId}{b sz:Nat}{z:Value}{e:List Value}{n:Nat}{kl kc:IntKind}{c:Sl→ap}(h:St w0 w L)(ht:ET P t sz b z)(hz:z.cells=e.toArray)(hsz:0<sz)(he:e.length=sz)(hv:∀v∈e,v.oneCell'=true)
  (hbytes:b*n≤281474976710656) (h63:n≤9223372036854775807)
  (hc:∀s w',St w0 w' (rws sz s (dU n e)::L)→s.n=n→c s w'):xz P t (.int kl (n:Int)) (.int kc (n:Int)) w c:=by
 obtain⟨e',i,hte,hi,hs,hby,a⟩:=ht.out;have hb':(i.bytes:Int)*(n:Int)≤281474976710656:=by
  have h:((b*n:Nat):Int)≤281474976710656:=af;rw[Int.natCast_mul]at h;rwa[hby]
 have hr:=Go.run_make w t e' i z hte hi a kl kc n n af (Int.le_refl _) hb' af;unfold xz;rw[hr,hs,hz,iZ];show c ⟨some ⟨w.heap.size,0,none⟩,n,n⟩ _;refine hc _ _ (St.YA (λx hx=>by rw[(List.mem_replicate.1 hx).2];exact he) (h.new (CA w _) (F':=λk=>k=w.heap.size) ⟨λk=>by simp[Sl.au,eq_comm],qo.new ?_ (by simp[he]) h63 λx hx=> ?_⟩ λk hk=>by rw[hk];exact iw _)) rfl
 ·rw[←ams af,he];exact pN.new w _ e'
 ·obtain⟨y,hy,hx⟩:=List.mem_flatten.1 hx;rw[(List.mem_replicate.1 hy).2]at hx;exact hv x hx
def ahL:Nat→List (Int×Int)→List Int→List Int
 |_,[],a=>a
 |j,p::o,a=>ahL (j+1) o (a.set p.1.toNat (j:Int))
def cq(G:Gl)(o:List (Int×Int)):List Int:=ahL 0 o (dU G.ts.length 0)
def ahM{k:Sl→ap}(h:St w0 w (SL l aa G R sp st sw))(ho:SM G o)(hn:G.ts.length≤100000)(hk:∀s w',St w0 w' (bG 1 s (ints (cq G o))::SL l aa G R sp st sw)→(cq G o).length=G.ts.length→k s w'):cI (some ⟨l.gs,0,none⟩) w k:=by
 unfold cI BM;have hla:=KI (h.front 9 rfl);have hst:=qY (s:=st) h;rw[List.length_map,hla]at hst;refine cX ?_;refine AT (n:=st.n) (z:= .int .i64 0) (b:=8) h ⟨aZ,aZ⟩ rfl af af λs3 w h h3=>cX ?_;have e0:dU st.n (Value.int .i64 0)=ints (dU G.ts.length 0):=by simp[ints,hst]
 rw[e0]at h;refine aiO h ho.kids ho.len ho.dfs λm w h=> ?_;have d:=qY (s:=m) h;simp only[ints,List.length_map]at d;have t:=ho.len;refine DN (λq i w=>i=((q.1:Nat):Int)∧q.1≤o.length∧q.2.length=G.ts.length∧ahL q.1 (o.drop q.1) q.2=cq G o∧St w0 w (bG 1 m (ints (o.map λp:Int×Int=>p.1))::bG 1 s3 (ints q.2)::SL l aa G R sp st sw)) (λq=>o.length - q.1) (g:=(0,dU G.ts.length 0)) ⟨rfl,af,bf,rfl,h⟩ ?_;clear h;rintro⟨j,a⟩ i w ⟨hi,hj,hal,c,h⟩ C hC;dsimp only at hi hj hal c h;subst hi;by_cases hlt:j<o.length
 ·refine bK (by simp;omega) ?_
  have r:=ho.ids _ (List.getElem_mem hlt);rw[List.drop_eq_getElem_cons hlt]at c;generalize hp:o[j]'hlt=p at r c;have f:o[j]?=some p:=by rw[iH hlt,hp]
  refine vI h af (x:=p.1) (by simp[ints,f]) ?_
  refine zC h r.1 (by rw[hal];omega) λw h=> ?_
  refine hC (j+1,a.set p.1.toNat (j:Int)) _ _ ⟨?_,by dsimp only;omega,by simp[hal],c,h⟩ (by dsimp only;omega)
  rw[kg ⟨af,af⟩];rfl
 ·refine aU (by simp;omega) ?_
  have e:j=o.length:=af;subst e;rw[List.drop_length]at c;have c:a=cq G o:=c;subst c;exact hk _ _ h.drop hal
end
def AO(p:Int)(k f kd v st:Int)(c:ByteArray):List Value:=[.int .i64 p,.int .i64 k,.int .i64 f,.int .i64 kd,.int .i64 v,.int .i64 st,.string c]
def rowAt(G:Gl)(r:List Int)(p:Int×Int):List Value:=
 let t:=G.tk p.1.toNat
 AO (if 0≤p.2 then r.getD p.2.toNat 0 else -1) (G.P.getD t.l7.toNat (0,0,0,false)).2.1 (t.f.getD 0 0) (G.K p.1.toNat) (if G.K p.1.toNat<2 then 0 else G.V p.1.toNat) (t.f.getD 18 0) t.gL
def Gc(G:Gl)(r:List Int)(T:List (List Value)):List (Int×Int)→List (List Value)
 |[]=>T
 |p::o=>Gc G r (T.set (r.getD p.1.toNat 0).toNat (rowAt G r p)) o
def Yn(G:Gl)(o:List (Int×Int)):List (List Value):=Gc G (cq G o) (dU G.ts.length (AO 0 0 0 0 0 0 (ByteArray.mk #[]))) o
def aFn:ET Tryz.prog 35 7 64 (.agg #[.int .i64 0,.int .i64 0,.int .i64 0,.int .i64 0,.int .i64 0,.int .i64 0,.string (ByteArray.mk #[])]):=⟨aZ,aZ⟩
def adH(G:Gl)(r:List Int):∀(a b:List (Int×Int)) (T:List (List Value)),Gc G r T (a++b)=Gc G r (Gc G r T a) b
 |[],b,T=>rfl
 |p::a,b,T=>adH G r a b _
def adI(G:Gl)(r:List Int):∀(a:List (Int×Int)) (T:List (List Value)),(Gc G r T a).length=T.length
 |[],T=>rfl
 |p::a,T=>by rw[Gc,adI G r a];simp
section
variable{w0 w:World}{L R:List HP}{l:Lc}{P:List dB}{bw:List Int}{ro:List Ro}{aa:List Nat}{G:Gl}{Ws:List Wk}{n:Int}{os:List (Nat×Wk)}{f:HP→List HP}{sp st sw:Sl}{o:List (Int×Int)}
abbrev TbP(l:Lc)(aa:List Nat)(G:Gl)(sp st sw:Sl)(g1 g7 g13:Nat)(s5 s11:Sl)(r:List Int)(T:List (List Value)):List HP:=
 [au g1 [pt l.gs],au g13 [.slice s11.a s11.n s11.c],rws 7 s11 T,au g7 [.slice s5.a s5.n s5.c],bG 1 s5 (ints r),au l.gs (l.cs sp st sw G.steps G.err),bH l.gm G.M,scp l.gc G.C,rws 4 sp (G.P.map tI),bG 1 st (aa.map pt),bG 1 sw (l.wa.map pt),ni l.gt G.time,Lw l.gd G.D,LA aa G.ts]
def awj{o j:Nat}{v:Value}{c:Prop}(h:w.cell? ⟨g,o+j,none⟩=some v)(h':w'.cell? ⟨g,o+j,none⟩=some v)(hc:c):ai 1 (aY ⟨g,o,none⟩ j) w w' c:=by rw[dg];exact abZ h h' hc
abbrev TbB(l:Lc)(aa:List Nat)(G:Gl)(sp st sw:Sl)(g1 g7 g13:Nat)(s5 s11:Sl)(r:List Int)(T:List (List Value))(a x:Nat)(so sc:Sl)(Rr:List HP):List HP:=
 au a ((G.tk x).cells so sc)::rws 2 so ((G.tk x).cJ.map A1)::bG 1 sc (ints (G.tk x).scopes)::jO tkP ((aa.zip G.ts).eraseIdx x)::au g1 [pt l.gs]::au g13 [.slice s11.a s11.n s11.c]::rws 7 s11 T::au g7 [.slice s5.a s5.n s5.c]::bG 1 s5 (ints r)::au l.gs (l.cs sp st sw G.steps G.err)::bH l.gm G.M::scp l.gc G.C::rws 4 sp (G.P.map tI)::bG 1 st (aa.map pt)::bG 1 sw (l.wa.map pt)::ni l.gt G.time::Lw l.gd G.D::Rr
def akd{k:Sl→ap}(hI:IV l P bw ro G Ws)(ho:SM G o)(hp:∀p∈o,p.2<G.ts.length)(hr:∀x∈cq G o,0≤x∧x<G.ts.length)(h:qK w0 w l aa G Ws R)
  (hk:∀s w',qK w0 w' l aa G Ws (rws 7 s (Yn G o)::R)→k s w'):dD (some ⟨l.gs,0,none⟩) w k:=by
 have hcap:=hI.ty.cap;obtain⟨sp,st,sw,h⟩:=rO h;have hla:=KI (h.front 9 rfl);unfold dD AI;refine aM h λg1 w h=> ?_;refine cX ?_;have h:=h.bk 10;refine ahM h ho af λc w h hlen=> ?_;have m:=qY (s:=c) h;simp only[ints,List.length_map,hlen]at m;refine vO λgx w h=> ?_;obtain⟨r,B⟩:∃n,n=gx:=⟨_,rfl⟩;subst B;refine azB (n:=c.n) (e:=AO 0 0 0 0 0 0 (ByteArray.mk #[])) h aFn aZ af rfl (by intro v hv;simp[AO]at hv;rcases hv with rfl|rfl<;>rfl) af af λb w h h11=> ?_
 refine vO λgx w h=> ?_;obtain⟨d,B⟩:∃n,n=gx:=⟨_,rfl⟩;subst B;rw[show dU c.n (AO 0 0 0 0 0 0 (ByteArray.mk #[]))=dU G.ts.length (AO 0 0 0 0 0 0 (ByteArray.mk #[])) by rw[m]]at h
 have h:=h.fr 14;have h:=h.fr 7;have h:=h.bk 14;have h:St w0 w (l9 (TbP l aa G sp st sw g1 r d c b (cq G o) (Gc G (cq G o) (dU G.ts.length (AO 0 0 0 0 0 0 (ByteArray.mk #[]))) []))::Da l.gk G.T::jO (pH l aa) (l.wa.zip Ws)::R):=St.shut h;refine atk (w0:=w0) (G:=λdone=>l9 (TbP l aa G sp st sw g1 r d c b (cq G o) (Gc G (cq G o) (dU G.ts.length (AO 0 0 0 0 0 0 (ByteArray.mk #[]))) done))) (l:=o) h ho.kids ho.len ho.dfs (λdone rest p w F C hd h hc=> ?_) λD w h=> ?_
 ·have hmem:p∈o:=by rw[hd];simp
  have H:=ho.ids p hmem;have Q:=hp p hmem;have A:p.1.toNat<G.ts.length:=af;have h:=St.open h;simp only[List.cons_append,List.nil_append]at h;obtain⟨a,ha⟩:=Zx (aa:=aa) hla (G.xw A);have hT:=hI.ty.qh A;have hl:=hI.ty.len;have hin:=hT.inn;have U:=hI.ty.pl;refine cX ?_;refine vP (s:=st) h H.1 (by rw[l8,ha];rfl) ?_
  have h:=h.fr 13;obtain⟨so,sc,h⟩:=awa h ha A;refine dZ λw h=> ?_;refine aiM (M:=G.M) h hI.ty.ok (by have:=hT.k.given hl;simpa using this) (hT.v.given hl) (hT.w.given hl) λw h=> ?_
  rw[Int.add_zero];have hP:G.P[(G.tk p.1.toNat).l7.toNat]?=some (G.P.getD (G.tk p.1.toNat).l7.toNat (0,0,0,false)):=by
   rw[m0,iH af];rfl
  have i:(G.P.map tI)[(G.tk p.1.toNat).l7.toNat]?=some (tI (G.P.getD (G.tk p.1.toNat).l7.toNat (0,0,0,false))):=by rw[l8,hP];rfl
  generalize I:G.P.getD (G.tk p.1.toNat).l7.toNat (0,0,0,false)=pl at i;clear hP;have L:(Gc G (cq G o) (dU G.ts.length (AO 0 0 0 0 0 0 (ByteArray.mk #[]))) done).length=G.ts.length:=by rw[adI,List.length_replicate]
  generalize N:Gc G (cq G o) (dU G.ts.length (AO 0 0 0 0 0 0 (ByteArray.mk #[]))) done=j at h L;refine bP (fun(ad:Addr) w=> ∃g,ad=⟨g,0,none⟩∧St w0 w (au g (AO (-1) pl.2.1 ((G.tk p.1.toNat).f.getD 0 0) (G.K p.1.toNat) (if G.K p.1.toNat<2 then 0 else G.V p.1.toNat) ((G.tk p.1.toNat).f.getD 18 0) (G.tk p.1.toNat).gL)::TbB l aa G sp st sw g1 r d c b (cq G o) j a p.1.toNat so sc F)) (λJ S=> ?_) ?_
  ·refine dZ λw h=> ?_;refine rix (sz:=4) (s:=sp) h hin.1 i af λgq W hr _=> ?_;refine uZ (by rw[dg];exact hr h i 1 _ rfl) ?_
   have hold:=h;with_reducible repeat' (first|refine bc ?_|refine u_T h ?_|refine Z7 h ?_|refine QU h λw h=> ?_|refine aM h λgx w h=> ?_|refine nP h ?_|refine sR h ?_|refine y8 ?_ ?_|refine an3 hold h vM ?_|refine awj (hr hold i 1 _ rfl) (hr h i 1 _ rfl) ?_|fail)
   all_goals exact S _ _ ⟨_,rfl,h⟩
  clear h;rintro _ w ⟨g,rfl,h⟩;have t:(cq G o)[p.1.toNat]?=some ((cq G o).getD p.1.toNat 0):=by rw[m0,iH af];rfl
  have u:=hr _ (qn t);have y:(ints (cq G o))[p.1.toNat]?=some (.int .i64 ((cq G o).getD p.1.toNat 0)):=by unfold ints;rw[l8,t];rfl
  have z:∀(w:World) (q:Int),q=(if 0≤p.2 then(cq G o).getD p.2.toNat 0 else -1)→St w0 w (TbB l aa G sp st sw g1 r d c b (cq G o) (j.set ((cq G o).getD p.1.toNat 0).toNat (AO q pl.2.1 ((G.tk p.1.toNat).f.getD 0 0) (G.K p.1.toNat) (if G.K p.1.toNat<2 then 0 else G.V p.1.toNat) ((G.tk p.1.toNat).f.getD 18 0) (G.tk p.1.toNat).gL)) a p.1.toNat so sc F)→C w:=by
   intro w q hq h;have h:=qg hla ha (G.xw A) h;have h:=h.bk 13;refine hc w (St.shut ?_);rw[adH,N];have e:rowAt G (cq G o) p=AO q pl.2.1 ((G.tk p.1.toNat).f.getD 0 0) (G.K p.1.toNat) (if G.K p.1.toNat<2 then 0 else G.V p.1.toNat) ((G.tk p.1.toNat).f.getD 18 0) (G.tk p.1.toNat).gL:=by
    unfold rowAt;rw[hq,←I]
   show St w0 w (TbP l aa G sp st sw g1 r d c b (cq G o) (j.set ((cq G o).getD p.1.toNat 0).toNat (rowAt G (cq G o) p))++F);rw[e];exact h
  refine ax (λhb=> ?_) λhb=> ?_
  ·have hb:0≤p.2:=by simpa using hb
   have O:(cq G o)[p.2.toNat]?=some ((cq G o).getD p.2.toNat 0):=by rw[m0,iH af];rfl
   refine cX ?_;refine vI (s:=c) h hb (by unfold ints;rw[l8,O];rfl) ?_
   refine dZ λw h=> ?_;refine vI (s:=c) h H.1 y ?_;refine cX ?_;refine rW (s:=b) (es:=j) (e:=j[((cq G o).getD p.1.toNat 0).toNat]' af) h u.1 (iH _) af rfl ?_ λw h=> ?_
   ·intro v hv;simp[AO]at hv;rcases hv with rfl|rfl|rfl|rfl|rfl|rfl|rfl<;>rfl
   have h:=h.drop;refine z w _ (if_pos hb).symm ?_;exact h
  ·have hb:¬0≤p.2:=by simpa using hb
   refine dZ λw h=> ?_;refine vI (s:=c) h H.1 y ?_;refine cX ?_;refine rW (s:=b) (es:=j) (e:=j[((cq G o).getD p.1.toNat 0).toNat]' af) h u.1 (iH _) af rfl ?_ λw h=> ?_
   ·intro v hv;simp[AO]at hv;rcases hv with rfl|rfl|rfl|rfl|rfl|rfl|rfl<;>rfl
   have h:=h.drop;refine z w _ (if_neg hb).symm ?_;exact h
 ·have h:=h.front 1 rfl;simp only[I7]at h;have h:=St.open h;simp only[List.cons_append,List.nil_append]at h;refine cX ?_;have h:=QR h;have h:=h.fr 15;have h:=LK h;refine LL h λw h=>hk b w ?_;have h:=h.zm 0;have h:=h.zm 0;have h:=h.zm 1;have h:=h.zm 1;have h:=h.fr 10;have h:=h.fr 3;have h:=h.fr 3;have h:=h.fr 3;have h:=h.bk 11;exact pE h
end
def Pw(s:Sl):List dB:=[⟨0,s,[[16,0,0,0,0]]⟩]
def mw:Lm:=⟨1,0,65536,1048576,1000,3⟩
def afL(G:Gl):Bool:=(match G.T with|[t]=>decide (t.parent= -1)&&t.kids.isEmpty|_=>false)&&decide (G.ts.length=1)&&(decide ((G.tk 0).scopes.length≤1)&&(G.tk 0).scopes.all λx:Int=>decide (0≤x∧x<(G.C.length:Nat)))
def oR:List (Int×Int):=[(0, -1)]
def runN(l:Lc)(P:List dB):Nat→Gl→List Wk→Option (Gl×List Wk)
 |0,_,_=>none
 |n+1,G,Ws=>bif afL G then(bif Cs G Ws then some (G,Ws)else bif decide (G.err=0)then runN l P n (SA l P G Ws oR 0 0).1.1 (SA l P G Ws oR 0 0).1.2 else none)else none
def adL{G:Gl}{l:Lc}{ro:List Ro}(hT:Ty l ro G)(h:afL G=true):SM G oR∧∀x∈da G oR,0≤x∧x<G.C.length:=by
 unfold afL at h;simp only[iY,decide_eq_true_eq,tL]at h;obtain⟨⟨h1,h2⟩,h3,h4⟩:=h;have hl:da G oR=0::(G.tk 0).scopes:=by
  unfold da oR;simp
 have a:∃t,G.T=[t]∧t.parent= -1∧t.kids=[]:=by
  split at h1
  ·rename_i t e;simp at h1;exact⟨t,e,h1.1,gq h1.2⟩
  ·cases h1
 obtain⟨t,e,hp,hk⟩:=a;refine⟨⟨λi x hx=> ?_,e7,?_,λp hp=> ?_,by rw[hl];simp;omega⟩,λx hx=> ?_⟩
 ·rw[e]at hx;match i,hx with
  |0,hx=>cases hx;rw[hk];simp
  |i+1,hx=>simp at hx
 ·rw[e];rw[if_neg bf];unfold oR;rw[←hp];refine Dfs.cons rfl ?_;rw[hk];exact .nil
 ·simp[oR]at hp;subst hp;exact⟨e7,by show(0:Int)< _;omega⟩
 ·rw[hl]at hx;have:=hT.c1;rcases List.mem_cons.1 hx with rfl|hx
  ·omega
  ·exact h4 x hx
section
variable{w0 w:World}{L R:List HP}{l:Lc}{P:List dB}{bw:List Int}{ro:List Ro}{aa:List Nat}{G:Gl}{Ws:List Wk}{n:Nat}
def aqJ{k:Int→ap}{times:Int}{r:Gl×List Wk}(hF:iA w0 l.ps P)(hT:TZ w0)(ht:(n:Int)≤times)(d:times≤1000000)(hI:IV l P bw ro G Ws)(hr:runN l P n G Ws=some r)(h:qK w0 w l aa G Ws R)
  (hk:∀z JI iT w',IV l P bw iT r.1 r.2→afL r.1=true→qK w0 w' l JI r.1 r.2 R→k z w'):iF (some ⟨l.gs,0,none⟩) 1 times w k:=by
 unfold iF xj;refine DN (λq x w=>(0≤x.2∧x.2+q.1≤times)∧IV l P bw q.2.2.2.2 q.2.1 q.2.2.1∧runN l P q.1 q.2.1 q.2.2.1=some r∧qK w0 w l q.2.2.2.1 q.2.1 q.2.2.1 R) (λq=>q.1) (g:=(n,G,Ws,aa,ro)) ⟨⟨by show(0:Int)≤0;decide,by show(0:Int)+n≤_;omega⟩,hI,hr,h⟩ ?_
 clear h hr hI;rintro⟨n,G,Ws,aa,ro⟩ ⟨x1,x2⟩ w ⟨hx,hI,hr,h⟩ C hC;dsimp only at hx hI hr h ⊢;cases n with
 |zero=>cases hr
 |succ n=>
  unfold runN at hr;cases h1:afL G with
  |false=>rw[h1]at hr;cases hr
  |true=>
   rw[h1]at hr;obtain⟨ho,hs⟩:=adL hI.ty h1;refine bP (fun(b:Bool) w=>b=(!Cs G Ws&&decide (G.err=0))∧qK w0 w l aa G Ws R) (λJ c=> ?_) ?_
   ·refine bK (by simp;omega) ?_
    refine adG hI h λw h=> ?_;cases hq:Cs G Ws with
    |true=>exact aU rfl (c _ _ ⟨by rw[hq];rfl,h⟩)
    |false=>
     refine bK rfl<|ahK h λw h=>c _ _ ⟨by rw[hq];rfl,h⟩
   clear h;rintro _ w ⟨rfl,h⟩;cases hq:Cs G Ws with
   |true=>
    rw[hq]at hr;cases hr
    exact aU rfl (hk _ aa ro w hI h1 h)
   |false=>
    rw[hq]at hr;by_cases he:G.err=0;rotate_left
    ·have hf:decide (G.err=0)=false:=by simp[he]
     rw[hf]at hr;cases hr
    have hf:decide (G.err=0)=true:=by simp[he]
    rw[hf]at hr ⊢;have hr:runN l P n (SA l P G Ws oR 0 0).1.1 (SA l P G Ws oR 0 0).1.2=some r:=hr;refine bK rfl ?_;refine⟨2,?_⟩;unfold jV;refine bK rfl<|aFl hI hF hT ho hs h λJI w h=> ?_;unfold jV;refine aU rfl ?_;obtain⟨iT,a⟩:=awe hI hs;refine hC (n,_,_,JI,iT) _ _ ⟨?_,a,hr,h⟩ (by dsimp only;omega)
    dsimp only;rw[dh ⟨af,af⟩];push_cast at hx;omega
end
variable{a:Ad}{ps:Sl}
def ran{sc:Sl}:(runN (gJ a ps mw [gw]) (Pw sc) 60 (eY mw) (Bd mw)).map (λr:Gl×List Wk=>(r.1.err,r.1.ts.length,cq r.1 oR,Yn r.1 oR,Cs r.1 r.2))=some (0,1,[0],[AO (-1) 0 0 2 0 1 (ByteArray.mk #[])],true):=by kernel_rfl
open Ck (oW qx my tj Su qf mZ)
def aW:List (List Int):=[[16,0,0,0,0]]
def azE:qx aW 0=[0]:=(Ck.ajo 1 e7 e7 aZ).trans aZ
def aoe(s:Sl):tj (Pw s)=(0,0,0):=Ck.alH (r:=none) azE aZ aZ
def azF(s:Sl):oW (Pw s):=Ck.afq.1 (by rw[aoe])
def aCM(s:Sl):Su (tj (Pw s))=[0,0,0]:=by rw[aoe];rfl
def awo:mw.OK:=⟨e7,e7,e7,e7,e7,e7⟩
def akf:mw.total≤mw.cells∧mw.cells≤65536∧mw.n=1:=⟨of_decide_eq_true aZ,of_decide_eq_true aZ,aZ⟩
def aFu{sc:Sl}:∃r:Gl×List Wk,runN (gJ a ps mw [gw]) (Pw sc) 60 (eY mw) (Bd mw)=some r∧r.1.err=0∧r.1.ts.length=1∧cq r.1 oR=[0]∧Yn r.1 oR=[AO (-1) 0 0 2 0 1 (ByteArray.mk #[])]∧Cs r.1 r.2=true:=by
 have h:=ran (a:=a) (ps:=ps) (sc:=sc) (gw:=gw);generalize runN (gJ a ps mw [gw]) (Pw sc) 60 (eY mw) (Bd mw)=x at h ⊢;cases x with
 |none=>cases h
 |some r=>
  have h:=Option.some.inj h;simp only[Prod.mk.injEq]at h;exact⟨r,rfl,h⟩
variable{w:World}
def TZ.ext(h:TZ w)(he:Ext w w'):TZ w':=λi hi=>Ext.cell he (h i hi)
def aqK{sz:Nat}{l:List Value}{n:Nat}(hb:pN w g l.toArray)(hn:l.length=n*sz)(c:Nat):Hj sz w ⟨some ⟨g,0,none⟩,n,c⟩ l:=
 ⟨hn,λi v hv=>⟨_,rfl,by rw[dg,hb.cell];simpa using hv⟩⟩
def azG{ga gf c1 c3:Nat}(a:pN w ga (eZ aW.flatten))(hb:pN w gf #[.int .i64 0,.slice (some ⟨ga,0,none⟩) 1 c1]):iA w ⟨some ⟨gf,0,none⟩,1,c3⟩ (Pw ⟨some ⟨ga,0,none⟩,1,c1⟩):=by
 have h5:∀x∈aW,x.length=5∧∀y∈x,sy y:=e7;refine⟨Ck.auC (aqK hb rfl _) e7 (by intro e he;simp[dB.cells,Pw]at he;subst he;rfl),λx hx=> ?_,by simp[reachBytes,Pw]⟩
 simp[Pw]at hx;subst hx;refine⟨(by decide:sy 0),Ck.apE a h5 (λi hi j hj=> ?_) (by simp[reachBytes,aW])⟩
 rw[Nat.zero_add,Ck.Tc (λe he=>(h5 e he).1) (e:=aW.getD i []) (by simp[hi]) hj]
def aof(r:List Value)(p a b c d e:Int)(t:ByteArray){k:Bool→Prop}(hk:k true):Tj ([(0,0)] ++([(1,0)] ++([(2,0)] ++([(3,0)] ++([(4,0)] ++([(5,0)] ++([(6,2)] ++[]))))))) (AO p a b c d e t).toArray (AO p a b c d e t).toArray k:=by
 unfold Tj;have:oZ (AO p a b c d e t).toArray (AO p a b c d e t).toArray ([(0,0)] ++([(1,0)] ++([(2,0)] ++([(3,0)] ++([(4,0)] ++([(5,0)] ++([(6,2)] ++[])))))))=some true:=by
  simp[oZ,eqC,AO]
 rw[this];exact hk
section
variable{w0:World}{L R:List HP}
def adM{b s:Int}{k:Array Value→ap}(h:St w0 w L)(hk:∀w',St w0 w' L→k (lmA ⟨b,s,65536,1048576,1000,3⟩) w'):dc b s w k:=by
 unfold dc;refine aM h λg w h=>dZ λw h=>hk _ h.drop
def azH{sc:Sl}(hT:TZ w0)(hF:iA w0 ps (Pw sc)){aa:List Nat}(y:wa.length=1)(h:qK w0 w (gJ a ps mw wa) aa (eY mw) (Bd mw) [])
  (hk:∀w',Ext w0 w'→k true w'):iF (some ⟨a.gs,0,none⟩) 1 9000 w λi e=>cA (some ⟨a.gs,0,none⟩) e λf b=>an f (cS (some ⟨a.gs,0,none⟩) b λi36 c=>an (i36==(0:Int)) (dD (some ⟨a.gs,0,none⟩) c λj m=>
   kT #[(.int .i64 (0:Int)),(.int .i64 (0:Int)),(.int .i64 (0:Int)),(.int .i64 (0:Int)),(.int .i64 (0:Int)),(.int .i64 (0:Int)),(.string (ByteArray.mk #[]))] 0 7 #[(.int .i64 (-(1:Int))),(.int .i64 (0:Int)),(.int .i64 (0:Int)),(.int .i64 (2:Int)),(.int .i64 (0:Int)),(.int .i64 (1:Int)),(.string (ByteArray.mk #[]))] λd=>
    aE m d 49 λo q=>dF j (Sl.mk (some o) 1 1) q λt u=>(k t u)) ((k false c))) ((k false b)):=by
 obtain⟨gw,rfl⟩:∃gw,wa=[gw]:=by
  match wa,y with
  |[gw],_=>exact⟨gw,rfl⟩
 have hI:=awf (a:=a) (ps:=ps) (wa:=[gw]) awo akf.1 akf.2.1 akf.2.2.symm (azF sc);obtain⟨r,hr,e1,e2,A,B,C⟩:=aFu (a:=a) (ps:=ps) (sc:=sc) (gw:=gw);generalize eY mw=D at hI hr h;generalize Bd mw=W0 at hI hr h;refine aqJ (l:=gJ a ps mw [gw]) hF hT (by show(60:Int)≤9000;decide) (by show(9000:Int)≤1000000;decide) hI hr h λz JI iT w hI h1 h=> ?_
 obtain⟨ho,hs⟩:=adL hI.ty h1;refine adG hI h λw h=> ?_;rw[C];refine bK rfl<|ahK h λw h=> ?_;rw[e1];refine bK rfl<|akd hI ho (λp hp=>by simp[oR]at hp;subst hp;show(-1:Int)< _;omega) (λx hx=>by rw[A]at hx;simp at hx;subst hx;omega) h λs w h=> ?_
 rw[B]at h;refine qL (AO (-1) 0 0 2 0 1 (ByteArray.mk #[])).toArray rfl aZ<|aM h λg w h=> ?_;have h:=Yc (sz:=7) h rfl (by intro v hv;simp[AO]at hv;rcases hv with rfl|rfl|rfl|rfl|rfl|rfl<;>rfl)
 have hn:=(pg (sz:=7) (s:=s) h).2 e7;have hn:s.n=1:=hn.symm;unfold dF;rw[hn];refine aU rfl ?_;refine⟨2,?_⟩;unfold jV;refine bK rfl<|dZ λw h=> ?_;refine rA (s:=s) h e7 rfl e7<|rA h e7 rfl e7<|aof [] _ _ _ _ _ _ _ (aU rfl ?_);unfold jV;refine aU rfl<|hk _ h.ext
def aCN{w1:World}{sc:Sl}{k:Option Addr×Int→ap}(hF:iA w1 ps (Pw sc))(hk:∀(a:Ad) (wa aa:List Nat) w',wa.length=1→qK w1 w' (gJ a ps mw wa) aa (eY mw) (Bd mw) []→k (some ⟨a.gs,0,none⟩,0) w'):kF #[.slice ps.a ps.n ps.c] (lmA mw) w1 k:=
 ahh hF (.nil w1) (λ_ _ _ a wa aa w' b h=>hk a wa aa w' (b.trans akf.2.2) h) (λq=>(q (aCM sc)).elim) (λ_ q=>(q awo).elim) λ_ _ q=>(q akf.1).elim
def awp{k:Int→ap}(h:k 9000 w):sA 1 1 1 w k:=aU rfl h
def awq(hT:TZ w0)(hk:∀w',Ext w0 w'→k true w'):iv w0 k:=by
 unfold iv yZ;refine qL (eZ aW.flatten) rfl aZ<|aM (.nil w0) λg2 w h=>aM h λg4 w h=>dZ λw h=>bP (fun(x:Option Addr×Int) w'=> ∃w1 ps sc,∃(a:Ad) (wa aa:List Nat),x=(some ⟨a.gs,0,none⟩,0)∧Ext w0 w1∧iA w1 ps (Pw sc)∧wa.length=1∧qK w1 w' (gJ a ps mw wa) aa (eY mw) (Bd mw) []) (λJ d=> ?_) ?_
 ·have b:∀(w:World) (gx:Nat) (L:List HP) (f1 f2:HP→List HP) (h:St w0 w L) (a1:At L (au g2) (eZ aW.flatten).toList f1) (a2:At L (au gx) [.int .i64 0,.slice (some ⟨g2,0,none⟩) 1 1] f2),kF #[.slice (some ⟨gx,0,none⟩) 1 1] (lmA mw) w λx w=>J (x.1,x.2) w:=by
   intro w gx L f1 f2 h a1 a2;have hF:=azG (c3:=1) (h.au) (h.au (g:=gx));refine aCN hF λa wa aa w' c h'=>d _ _ ⟨_,_,_,a,wa,aa,rfl,h.ext,hF,c,h'⟩
  with_reducible repeat' (first|refine cH h λw h=> ?_|refine Vh h ?_|refine sR h ?_|refine y8 ?_ ?_|refine adM h λw h=> ?_)
  ·refine qL #[.int .i64 0,.slice (some ⟨g2,0,none⟩) 1 1] rfl aZ ?_;with_reducible repeat' (first|refine aM h λgx w h=> ?_|refine sR h ?_|refine y8 ?_ ?_|refine adM h λw h=> ?_)
   all_goals exact b _ _ _ _ _ h inferInstance inferInstance
  ·refine qL #[.int .i64 0,.slice (some ⟨g2,0,none⟩) 1 1] rfl aZ<|vO λgx w h=>b _ _ _ _ _ h inferInstance inferInstance
 clear h;rintro _ w ⟨w1,ps,sc,a,wa,aa,rfl,he,hF,c,h⟩;refine aU rfl<|awp<|azH (hT.ext he) hF c h λw' hx=>hk w' (he.trans hx)
end
section
variable{w0:World}{L:List HP}
end
structure KtT (T:List Kt):Prop where
 one:1≤T.length
 root:∀y,T[0]?=some y→y.parent= -1
 kid:∀(i:Nat) x,T[i]?=some x→∀k∈x.kids,(i:Int)<k∧k<T.length∧∃y,T[k.toNat]?=some y∧y.parent=i
 rz:∀(j:Nat) y,T[j]?=some y→1≤j→0≤y.parent∧y.parent<j∧∃x,T[y.parent.toNat]?=some x∧(j:Int)∈x.kids
 nd:∀(i:Nat) x,T[i]?=some x→x.kids.Nodup
structure aP9 (T:List Kt) (v st:List Int):Prop where
 nd:(v++st).Nodup
 rg:∀x∈v++st,0≤x∧x<T.length
 pr:∀x∈v++st,x≠0→∃y,T[x.toNat]?=some y∧y.parent∈v
 kd:∀x∈v,∀t,T[x.toNat]?=some t→∀k∈t.kids,k∈v++st
 zero:(0:Int)∈v++st
def acW{n:Nat}{l:List Int}(h:l.Nodup)(hr:∀x∈l,0≤x∧x<n):l.length≤n:=by
 have h2:(l.map Int.toNat).Nodup:=by
  unfold List.Nodup at h ⊢;rw[List.pairwise_map];refine List.Pairwise.imp_of_mem (fun{a b} ha hb hab=> ?_) h;have h1:=hr a ha;have h2:=hr b hb;omega
 have:=ML h2 λx hx=>by
  obtain⟨y,hy,rfl⟩:=List.mem_map.1 hx;have:=hr y hy;show y.toNat<n;omega
 simpa using this
variable{T:List Kt}
def aDO(hT:KtT T):∀(n:Nat) (v st:List Int),T.length - v.length≤n→aP9 T v st→∃l,Dfs T st l∧aP9 T (v++l.map (λp=>p.1)) []∧∀p∈l,∃t,T[p.1.toNat]?=some t∧p.2=t.parent:=by
 intro n;induction n with
 |zero=>
  intro v st hn h;have hl:=acW h.nd h.rg;rw[uv]at hl;cases st with
  |nil=>exact⟨[],.nil,by simpa using h,λp hp=>by cases hp⟩
  |cons x st=>simp at hl;omega
 |succ n ih=>
  intro v st hn h;cases st with
  |nil=>exact⟨[],.nil,by simpa using h,λp hp=>by cases hp⟩
  |cons x st=>
   have hx:=h.rg x bf;have hl:=acW h.nd h.rg;simp only[uv,List.length_cons]at hl;obtain⟨t,ht⟩:∃t,T[x.toNat]?=some t:=⟨_,iH af⟩;have hnd:=List.nodup_append.1 h.nd;have c:=List.nodup_cons.1 hnd.2.1;have d:x ∉ v:=λq=>hnd.2.2 x q x bf rfl;have hnew:∀k∈t.kids,k ∉ v++x::st:=by
    intro k hk hq;obtain⟨h1,h2,y,hy,hyp⟩:=hT.kid _ _ ht k hk;obtain⟨y',hy',hp⟩:=h.pr k hq af;rw[hy]at hy';obtain rfl:=Option.some.inj hy';rw[hyp]at hp;have:((x.toNat:Nat):Int)=x:=af;rw[this]at hp;exact d hp
   have hds:aP9 T (v++[x]) (t.kids++st):=by
    refine⟨?_,λz hz=> ?_,λz hz f=> ?_,λz hz t' ht' k hk=> ?_,?_⟩
    ·rw[List.nodup_append];refine⟨?_,?_,?_⟩
     ·rw[List.nodup_append];exact⟨hnd.1,bf,λa ha b hb=>by simp at hb;subst hb;intro e;subst e;exact d ha⟩
     ·rw[List.nodup_append];refine⟨hT.nd _ _ ht,c.2,λa ha b hb e=> ?_⟩;subst e;exact hnew a ha (by simp[hb])
     ·intro a ha b hb e;subst e;rcases zw.1 ha with ha|ha
      ·rcases zw.1 hb with hb|hb
       ·exact hnew a hb (by simp[ha])
       ·exact hnd.2.2 a ha a (by simp[hb]) rfl
      ·simp at ha;subst ha;rcases zw.1 hb with hb|hb
       ·exact hnew a hb bf
       ·exact c.1 hb
    ·simp only[zw,List.mem_singleton]at hz;rcases hz with(hz|rfl)|hz|hz
     ·exact h.rg z (by simp[hz])
     ·exact hx
     ·have:=hT.kid _ _ ht z hz;omega
     ·exact h.rg z (by simp[hz])
    ·simp only[zw,List.mem_singleton]at hz;rcases hz with(hz|rfl)|hz|hz
     ·obtain⟨y,hy,hp⟩:=h.pr z (by simp[hz]) f
      exact⟨y,hy,by simp[hp]⟩
     ·obtain⟨y,hy,hp⟩:=h.pr z bf f;exact⟨y,hy,by simp[hp]⟩
     ·obtain⟨_,_,y,hy,hp⟩:=hT.kid _ _ ht z hz;refine⟨y,hy,?_⟩;rw[hp];have:((x.toNat:Nat):Int)=x:=af;simp[this]
     ·obtain⟨y,hy,hp⟩:=h.pr z (by simp[hz]) f
      exact⟨y,hy,by simp[hp]⟩
    ·simp only[zw,List.mem_singleton]at hz ⊢;rcases hz with hz|rfl
     ·have:=h.kd z hz t' ht' k hk;simp only[zw,List.mem_cons]at this;rcases this with h1|h1|h1
      ·exact .inl (.inl h1)
      ·exact .inl (.inr h1)
      ·exact .inr (.inr h1)
     ·rw[ht]at ht';obtain rfl:=Option.some.inj ht';exact .inr (.inl hk)
    ·have:=h.zero;simp only[zw,List.mem_cons]at this ⊢;rcases this with h1|h1|h1
     ·exact .inl (.inl h1)
     ·exact .inl (.inr (.inl h1))
     ·exact .inr (.inr h1)
   obtain⟨l,h1,h2,h3⟩:=ih (v++[x]) (t.kids++st) (by simp only[uv,List.length_singleton];omega) hds
   refine⟨(x,t.parent)::l,.cons (by unfold GV;rw[if_pos hx.1];exact ht) h1,?_,λp hp=> ?_⟩
   ·simpa using h2
   ·rcases List.mem_cons.1 hp with rfl|hp
    ·exact⟨t,ht,rfl⟩
    ·exact h3 p hp
def aDP(hT:KtT T){v:List Int}(h:aP9 T v []):∀j:Nat,j<T.length→(j:Int)∈v:=by
 intro j;induction j using Nat.strongRecOn with
 |_ j ih=>
  intro hj;by_cases h0:j=0
  ·subst h0;simpa using h.zero
  ·obtain⟨y,hy⟩:∃y,T[j]?=some y:=⟨_,iH hj⟩;obtain⟨h1,h2,x,hx,hk⟩:=hT.rz j y hy af;have hv:=ih y.parent.toNat af af;have e:((y.parent.toNat:Nat):Int)=y.parent:=af;rw[e]at hv;simpa using h.kd y.parent hv x hx j hk
def aDQ(hT:KtT T):∃o,Dfs T [0] o∧(o.map λp=>p.1).Nodup∧(∀p∈o,(0≤p.1∧p.1<T.length)∧∃t,T[p.1.toNat]?=some t∧p.2=t.parent)∧∀j:Nat,j<T.length→(j:Int)∈o.map λp=>p.1:=by
 have h0:aP9 T [] [0]:=by
  have:=hT.one;exact⟨bf,λx hx=>by simp at hx;subst hx;omega,λx hx h0=>by simp at hx;exact(h0 hx).elim,λx hx=>(by cases hx),bf⟩
 obtain⟨o,h1,h2,h3⟩:=aDO hT _ [] [0] (iw _) h0;rw[List.nil_append]at h2;refine⟨o,h1,by simpa using h2.nd,λp hp=>⟨?_,h3 p hp⟩,aDP hT h2⟩
 exact h2.rg p.1 (by simp;exact⟨p.2,hp⟩)
def KtT.add{p:Int}(hT:KtT T)(h0:0≤p)(h1:p<T.length):KtT (Hz T p):=by
 obtain⟨t,ht⟩:∃t,T[p.toNat]?=some t:=⟨_,iH af⟩;have e:Hz T p=T.set p.toNat {t with kids:=t.kids++[(T.length:Int)]}++[⟨p,t.kids.length,[]⟩]:=by
  unfold Hz GV;rw[if_pos h0,ht]
 rw[e];have hlen:(T.set p.toNat {t with kids:=t.kids++[(T.length:Int)]}++[(⟨p,t.kids.length,[]⟩:Kt)]).length=T.length+1:=by simp
 have c:∀(i:Nat) x,(T.set p.toNat {t with kids:=t.kids++[(T.length:Int)]}++[(⟨p,t.kids.length,[]⟩:Kt)])[i]?=some x→
   (i<T.length∧∃y,T[i]?=some y∧x.parent=y.parent∧x.kids=if i=p.toNat then y.kids++[(T.length:Int)]else y.kids)∨(i=T.length∧x=⟨p,t.kids.length,[]⟩):=by
  intro i x hx;by_cases hi:i<T.length
  ·rw[tJ (by simpa using hi),List.getElem?_set]at hx
   refine .inl ⟨hi,?_⟩;by_cases hp:p.toNat=i
   ·rw[if_pos hp,if_pos af]at hx;obtain rfl:=Option.some.inj hx;subst hp;exact⟨t,ht,rfl,bf⟩
   ·rw[if_neg hp]at hx;exact⟨x,hx,rfl,by rw[if_neg af]⟩
  ·have:=(kB.1 hx).1;rw[hlen]at this;have hi:i=T.length:=af;subst hi;rw[u0 bf]at hx;simp at hx;exact .inr ⟨rfl,hx.symm⟩
 have hput:∀(i:Nat) y,T[i]?=some y→∃x,(T.set p.toNat {t with kids:=t.kids++[(T.length:Int)]}++[(⟨p,t.kids.length,[]⟩:Kt)])[i]?=some x∧x.parent=y.parent∧x.kids=if i=p.toNat then y.kids++[(T.length:Int)]else y.kids:=by
  intro i y hy;have hi:=(kB.1 hy).1;obtain⟨x,hx⟩:∃x,(T.set p.toNat {t with kids:=t.kids++[(T.length:Int)]}++[(⟨p,t.kids.length,[]⟩:Kt)])[i]?=some x:=⟨_,iH (by rw[hlen];omega)⟩
  rcases c i x hx with⟨_,y',hy',h2,h3⟩|⟨h2,_⟩
  ·rw[hy]at hy';obtain rfl:=Option.some.inj hy';exact⟨x,hx,h2,h3⟩
  ·omega
 have hnew:(T.set p.toNat {t with kids:=t.kids++[(T.length:Int)]}++[(⟨p,t.kids.length,[]⟩:Kt)])[T.length]?=some ⟨p,t.kids.length,[]⟩:=by
  rw[u0 bf];simp
 refine⟨by rw[hlen];omega,λy hy=> ?_,λi x hx k hk=> ?_,λj y hy hj=> ?_,λi x hx=> ?_⟩
 ·rcases c 0 y hy with⟨_,z,hz,h2,_⟩|⟨h2,_⟩
  ·rw[h2];exact hT.root z hz
  ·have:=hT.one;omega
 ·rw[hlen];rcases c i x hx with⟨hi,z,hz,h2,h3⟩|⟨h2,rfl⟩
  ·rw[h3]at hk;have hold:∀k∈z.kids,(i:Int)<k∧k<((T.length+1:Nat):Int)∧∃y,(T.set p.toNat {t with kids:=t.kids++[(T.length:Int)]}++[(⟨p,t.kids.length,[]⟩:Kt)])[k.toNat]?=some y∧y.parent=i:=by
    intro k hk;obtain⟨a,b,y,hy,hp⟩:=hT.kid i z hz k hk;obtain⟨y',hy',h4,_⟩:=hput _ y hy;exact⟨a,af,y',hy',by rw[h4];exact hp⟩
   split at hk
   ·rename_i d;rcases zw.1 hk with hk|hk
    ·exact hold k hk
    ·simp at hk;subst hk;refine⟨af,af,_,by rw[iZ];exact hnew,?_⟩
     show p=_;omega
   ·exact hold k hk
  ·cases hk
 ·rcases c j y hy with⟨hi,z,hz,h2,_⟩|⟨h2,rfl⟩
  ·obtain⟨a,b,x,hx,hm⟩:=hT.rz j z hz hj;rw[h2];obtain⟨x',hx',_,h4⟩:=hput _ x hx;refine⟨a,b,x',hx',?_⟩;rw[h4];split
   ·exact List.mem_append_left _ hm
   ·exact hm
  ·subst h2;obtain⟨x',hx',_,h4⟩:=hput _ t ht;refine⟨h0,h1,x',hx',?_⟩;rw[h4,if_pos rfl];simp
 ·rcases c i x hx with⟨hi,z,hz,_,h3⟩|⟨_,rfl⟩
  ·rw[h3];split
   ·rw[List.nodup_append];refine⟨hT.nd i z hz,bf,λa ha b hb e=> ?_⟩;simp at hb;have:=hT.kid i z hz a ha;omega
   ·exact hT.nd i z hz
  ·simp
structure SKs (T:List Kt) (S:List (List Int)) (Q:List (Int×Int×Int)):Prop where
 t:KtT T
 n:T.length=S.length
 own:∀(x:Nat) l,S[x]?=some l→∀(k:Nat) s,l[k]?=some s→0≤s∧∃p,Q[s.toNat]?=some p∧p.1=x∧p.2.1=k
 q0:∃a,Q[0]?=some (-1,a)
 aQa:∀(s:Nat) p,Q[s]?=some p→(-2≤p.1∧p.1<S.length)∧(0≤p.1→∃l,S[p.1.toNat]?=some l∧0≤p.2.1∧l[p.2.1.toNat]?=some (s:Int))
variable{S:List (List Int)}{Q:List (Int×Int×Int)}
def SKs.fork(h:SKs T S Q)(a:Int×Int):SKs T S (Q++[(-2,a)]):=by
 have hq:∀{s:Nat} {p},Q[s]?=some p→(Q++[(-2,a)])[s]?=some p:=fun{s p} hs=>by
  rw[tJ (kB.1 hs).1];exact hs
 refine⟨h.t,h.n,λx l hl k s hk=> ?_,?_,λs p hs=> ?_⟩
 ·obtain⟨h0,p,h1,h2⟩:=h.own x l hl k s hk;exact⟨h0,p,hq h1,h2⟩
 ·obtain⟨a',h0⟩:=h.q0;exact⟨a',hq h0⟩
 ·by_cases hlt:s<Q.length
  ·rw[tJ hlt]at hs;exact h.aQa s p hs
  ·rw[u0 af]at hs;have:s - Q.length=0:=by
    have:=(kB.1 hs).1;simp at this;omega
   rw[this]at hs;simp at hs;subst hs;exact⟨⟨bf,by show(-2:Int)< _;omega⟩,λq=>by simp at q⟩
def SKs.more(h:SKs T S Q){p own:Int}{a b:Int×Int}(h0:0≤p)(h1:p<T.length)(ho:0≤own)(hq:Q[own.toNat]?=some (-2,b))(ha:a.1=0):
  SKs (Hz T p) (S++[[own]]) (Q.set own.toNat ((T.length:Nat),a)):=by
 have hlt:=(kB.1 hq).1;have hne:∀{s:Nat} {r:Int×Int×Int},Q[s]?=some r→r.1≠ -2→(Q.set own.toNat ((T.length:Nat),a))[s]?=some r:=fun{s r} hs hr=>by
  rw[r0]
  ·exact hs
  ·intro e;subst e;rw[hq]at hs;exact hr (by rw[←Option.some.inj hs])
 have f:(Hz T p).length=T.length+1:=by
  unfold Hz;split<;>simp
 refine⟨h.t.add h0 h1,by rw[f,h.n];simp,λx l hl k s hk=> ?_,?_,λs r hs=> ?_⟩
 ·by_cases hx:x<S.length
  ·rw[tJ hx]at hl;obtain⟨g,r,i,c,d⟩:=h.own x l hl k s hk;exact⟨g,r,hne i (by rw[c];omega),c,d⟩
  ·rw[u0 af]at hl;have e:x - S.length=0:=by
    have:=(kB.1 hl).1;simp at this;omega
   rw[e]at hl;simp at hl;subst hl;have ek:k=0:=by
    have:=(kB.1 hk).1;simp at this;omega
   subst ek;simp at hk;subst hk;refine⟨ho,_,uO hlt,?_,?_⟩
   ·show((T.length:Nat):Int)=x;have:=h.n;omega
   ·show a.1=_;rw[ha];rfl
 ·obtain⟨a',z⟩:=h.q0;exact⟨a',hne z bf⟩
 ·by_cases e:own.toNat=s
  ·subst e;rw[uO hlt]at hs;obtain rfl:=Option.some.inj hs;have hn:=h.n;refine⟨⟨by show(-2:Int)≤(T.length:Nat);omega,by simp;omega⟩,λ_=>⟨[own],?_,?_,?_⟩⟩
   ·show(S++[[own]])[((T.length:Nat):Int).toNat]?=_;rw[iZ,hn,u0 (iw _)];simp
   ·show 0≤a.1;omega
   ·show [own][a.1.toNat]?=_;rw[ha];simp;omega
  ·rw[r0 e]at hs;obtain⟨i,c⟩:=h.aQa s r hs;refine⟨⟨i.1,by simp;omega⟩,λq=> ?_⟩
   obtain⟨l,d,m,j⟩:=c q;exact⟨l,by rw[tJ (kB.1 d).1];exact d,m,j⟩
def SKs.opens(h:SKs T S Q){l:List Int}(hl:S[x]?=some l)(pk:Int):SKs T (S.set x (l++[(Q.length:Int)])) (Q++[((x:Int),(l.length:Int),pk)]):=by
 have hx:=(kB.1 hl).1;have hq:∀{s:Nat} {p},Q[s]?=some p→(Q++[((x:Int),(l.length:Int),pk)])[s]?=some p:=fun{s p} hs=>by
  rw[tJ (kB.1 hs).1];exact hs
 refine⟨h.t,by rw[h.n];simp,λy m hm k s hk=> ?_,?_,λs p hs=> ?_⟩
 ·have hold:∀m,S[y]?=some m→m[k]?=some s→0≤s∧∃p,(Q++[((x:Int),(l.length:Int),pk)])[s.toNat]?=some p∧p.1=y∧p.2.1=k:=λm hm hk=>by
   obtain⟨h0,p,h1,h2⟩:=h.own y m hm k s hk;exact⟨h0,p,hq h1,h2⟩
  rw[List.getElem?_set]at hm;split at hm
  ·rename_i e;subst e;try rw[if_pos hx]at hm
   obtain rfl:=Option.some.inj hm;by_cases d:k<l.length
   ·rw[tJ d]at hk;exact hold l hl hk
   ·rw[u0 af]at hk;have e:k - l.length=0:=by
     have:=(kB.1 hk).1;simp at this;omega
    rw[e]at hk;simp at hk;subst hk;refine⟨af,_,by rw[iZ,u0 (iw _)];simp;rfl,rfl,?_⟩
    show((l.length:Nat):Int)=k;omega
  ·exact hold m hm hk
 ·obtain⟨a',h0⟩:=h.q0;exact⟨a',hq h0⟩
 ·by_cases hlt:s<Q.length
  ·rw[tJ hlt]at hs;obtain⟨f,g⟩:=h.aQa s p hs;refine⟨by simpa using f,λq=> ?_⟩
   obtain⟨m,b,c,a⟩:=g q;by_cases e:x=p.1.toNat
   ·subst e;rw[hl]at b;obtain rfl:=Option.some.inj b;exact⟨_,uO hx,c,by rw[tJ (kB.1 a).1];exact a⟩
   ·exact⟨m,by rw[r0 e];exact b,c,a⟩
  ·rw[u0 af]at hs;have e:s - Q.length=0:=by
    have:=(kB.1 hs).1;simp at this;omega
   rw[e]at hs;simp at hs;subst hs;refine⟨⟨by show(-2:Int)≤x;omega,by simp;omega⟩,λ_=>⟨_,by show(S.set x _)[((x:Nat):Int).toNat]?=_;rw[iZ];exact uO hx,by show(0:Int)≤(l.length:Nat);omega,?_⟩⟩
   show(l++[(Q.length:Int)])[((l.length:Nat):Int).toNat]?=_;rw[iZ,u0 (iw _)];simp;omega
def SKs.aHh(h:SKs T S Q){o:List Int}(ho:o.Nodup)(hr:∀x∈o,0≤x):(o.flatMap λx=>(S[x.toNat]?).getD []).Nodup∧∀s∈o.flatMap λx=>(S[x.toNat]?).getD [],0≤s∧∃p,Q[s.toNat]?=some p∧p.1∈o:=by
 have hin:∀x:Int,0≤x→∀s∈(S[x.toNat]?).getD [],0≤s∧∃p,Q[s.toNat]?=some p∧p.1=x∧((S[x.toNat]?).getD [])[p.2.1.toNat]?=some s∧0≤p.2.1:=by
  intro x hx s hs;cases hS:S[x.toNat]? with
  |none=>rw[hS]at hs;cases hs
  |some l=>
   rw[hS]at hs;obtain⟨k,hk⟩:=List.getElem?_of_mem hs;obtain⟨h0,p,h1,h2,h3⟩:=h.own _ l hS k s hk;refine⟨h0,p,h1,af,?_,af⟩;rw[h3];simpa using hk
 constructor
 ·induction o with
  |nil=>simp
  |cons x o ih=>
   rw[List.flatMap_cons,List.nodup_append];have hn:=List.nodup_cons.1 ho;refine⟨?_,ih hn.2 λy hy=>hr y (by simp[hy]),λs hs s' hs' e=> ?_⟩
   ·rw[List.nodup_iff_pairwise_ne,List.pairwise_iff_getElem];intro i j hi hj hij e;have hx:=hr x bf;cases hS:S[x.toNat]? with
    |none=>simp[hS]at hi
    |some l=>
     simp only[hS,Option.getD_some]at hi hj e;obtain⟨_,p,a,_,b⟩:=h.own _ l hS i _ (iH hi);obtain⟨_,p',c,_,d⟩:=h.own _ l hS j _ (iH hj);rw[e,c]at a;obtain rfl:=Option.some.inj a;omega
   ·subst e;obtain⟨_,p,a,b,_⟩:=hin x (hr x bf) s hs;obtain⟨y,hy,hs'⟩:=List.mem_flatMap.1 hs';obtain⟨_,p',c,d,_⟩:=hin y (hr y (by simp[hy])) s hs'
    rw[c]at a;obtain rfl:=Option.some.inj a;rw[b]at d;subst d;exact hn.1 hy
 ·intro s hs;obtain⟨y,hy,hs⟩:=List.mem_flatMap.1 hs;obtain⟨h0,p,a,b,_⟩:=hin y (hr y hy) s hs;exact⟨h0,p,a,by rw[b];exact hy⟩
def ake:∀(o:List (Int×Int)) (j:Nat) (a:List Int) (x:Nat),(∀p∈o,p.1.toNat≠x)→(ahL j o a)[x]?=a[x]?
 |[],_,_,_,_=>rfl
 |p::o,j,a,x,h=>by
  rw[ahL,ake o _ _ x λq hq=>h q (by simp[hq]),r0 (h p bf)]
def apF:∀(o:List (Int×Int)) (j:Nat) (a:List Int),(o.map λp=>p.1.toNat).Nodup→(∀p∈o,p.1.toNat<a.length)→∀(i:Nat) (p:Int×Int),o[i]?=some p→(ahL j o a)[p.1.toNat]?=some ((j+i:Nat):Int)
 |[],_,_,_,_,_,_,hp=>by simp at hp
 |q::o,j,a,hn,hr,i,p,hp=>by
  rw[List.map_cons,List.nodup_cons]at hn;rw[ahL];cases i with
  |zero=>
   simp at hp;subst hp;rw[ake o _ _ _ λr hr' e=>hn.1 (List.mem_map.2 ⟨r,hr',e⟩),uO (hr q bf)];simp
  |succ i=>
   rw[apF o (j+1) _ hn.2 (λr hr'=>by simpa using hr r (by simp[hr'])) i p (by simpa using hp)]
   congr 1;omega
def aey:∀(o:List (Int×Int)) (j:Nat) (a:List Int),∀x∈ahL j o a,x∈a∨((j:Int)≤x∧x<(j+o.length:Nat))
 |[],_,_,x,h=> .inl h
 |p::o,j,a,x,h=>by
  rw[ahL]at h;rcases aey o (j+1) _ x h with h|h
  ·rcases List.mem_or_eq_of_mem_set h with h|h
   ·exact .inl h
   ·refine .inr ?_;simp;omega
  ·refine .inr ?_;simp at h ⊢;omega
def O9(G:Gl)(s:Int):Pl:=G.P.getD s.toNat (0,0,0,false)
def awk(G:Gl)(o:List (Int×Int)):Prop:=∀s∈da G o,(0≤s∧s<G.C.length)∧(O9 G s).1<G.ts.length
section
variable{w0:World}{L R:List HP}{l:Lc}{P:List dB}{bw:List Int}{ro:List Ro}{aa:List Nat}{G:Gl}{Ws:List Wk}{n:Int}{o:List (Int×Int)}
end
def plq(p:Pl):Int×Int×Int:=(p.1,p.2.1,p.2.2.1)
def aQf(G:Gl):Prop:=SKs G.T (G.ts.map λt=>t.scopes) (G.P.map plq)
structure SKI (G:Gl) (Ws:List Wk):Prop where
 sk:aQf G
 fk:∀(i:Nat) W,Ws[i]?=some W→W.cT= .m .xo→0≤W.own∧∃b,(G.P.map plq)[W.own.toNat]?=some (-2,b)
 aQg:∀(i j:Nat) Wi Wj,Ws[i]?=some Wi→Ws[j]?=some Wj→Wi.cT= .m .xo→Wj.cT= .m .xo→Wi.own=Wj.own→i=j
variable{α:Type}
section
variable{l:Lc}{P:List dB}{bw:List Int}{ro iT:List Ro}{G G' G1:Gl}{W' W1:Wk}{Ws:List Wk}{t t':Tk}{n y:Nat}{s a:Int}{r:Ro}{k:Kn}{o:List (Int×Int)}
def adD{β:Type}{f:α→β}{l:List α}{a:α}(h:∀b,l[x]?=some b→f a=f b):(l.set x a).map f=l.map f:=by
 apply List.ext_getElem?;intro k;rw[l8,l8,List.getElem?_set];split
 ·rename_i e;subst e;split
  ·rename_i hlt;obtain⟨b,hb⟩:∃b,l[x]?=some b:=⟨_,iH hlt⟩;rw[hb];show some (f a)=some (f b);rw[h b hb]
  ·rename_i hlt;rw[List.getElem?_eq_none af]
 ·rfl
def adQ(h:t'.scopes=(G.tk x).scopes):(G.ts.set x t').map (λt=>t.scopes)=G.ts.map λt=>t.scopes:=adD λb hb=>by rw[h];unfold Gl.tk;rw[hb];rfl
def aio(i:Int)(Q:List Pl):(Cq Q i).map plq=Q.map plq:=by
 unfold Cq;split
 ·rename_i p hp;exact adD λb hb=>by rw[hp]at hb;obtain rfl:=Option.some.inj hb;rfl
 ·rfl
def aP6.sm(h:aP6 P G t t'):Sm t t'∧t'.cJ=t.cJ∧t'.scopes=t.scopes∧t'.gL=t.gL:=by
 cases h<;>exact⟨⟨rfl,rfl,rfl,rfl⟩,rfl,rfl,rfl⟩
def SKI.keep(h:SKI G Ws)(hi:Ws[i]?=some W)(hT:G'.T=G.T)(hs:G'.ts.map (λt=>t.scopes)=G.ts.map λt=>t.scopes)(hP:G'.P.map plq=G.P.map plq)(hd:W'.cT= .m .xo→W.cT= .m .xo∧W'.own=W.own):SKI G' (Ws.set i W'):=by
 have b:=(kB.1 hi).1;have key:∀(j:Nat) (Wj:Wk),(Ws.set i W')[j]?=some Wj→Wj.cT= .m .xo→∃a:Wk,Ws[j]?=some a∧a.cT= .m .xo∧Wj.own=a.own:=λj Wj hj hf=>by
  by_cases e:i=j
  ·subst e;rw[uO b]at hj;obtain rfl:=Option.some.inj hj;exact⟨W,hi,(hd hf).1,(hd hf).2⟩
  ·rw[r0 e]at hj;exact⟨Wj,hj,hf,rfl⟩
 refine⟨by unfold aQf;rw[hT,hs,hP];exact h.sk,λj Wj hj hf=> ?_,λj m Wj c hj hm hf hg he=> ?_⟩
 ·obtain⟨a,h1,h2,h3⟩:=key j Wj hj hf;rw[h3,hP];exact h.fk j a h1 h2
 ·obtain⟨a,h1,h2,h3⟩:=key j Wj hj hf;obtain⟨d,h4,h5,h6⟩:=key m c hm hg;exact h.aQg j m a d h1 h4 h2 h5 (by rw[←h3,←h6,he])
def SKI.step(h:SKI G Ws)(hI:IV l P bw ro G Ws)(hi:Ws[i]?=some W)(he:G.err=0):SKI (ZB l P G W bw).1 (Ws.set i (ZB l P G W bw).2):=by
 have c:=hI.cx hi he;have hs:Stp l P ro G W (ZB l P G W bw).1 (ZB l P G W bw).2:=aib c hI.fr;have f:=(kB.1 hi).1;have u:(G.P.map plq).length=G.C.length:=by rw[List.length_map];exact hI.ty.pl
 generalize (ZB l P G W bw).1=G1,(ZB l P G W bw).2=W1 at hs ⊢;have n:W.stack≠ []→W.tp<G.ts.length:=λq=>(c.top q).2;cases hs with
 |quiet q k _ _=>exact h.keep hi rfl rfl rfl λe=>absurd e k.m.2.1
 |fail q he k o=>exact h.keep hi rfl rfl rfl λe=>⟨by rw[←k.2.2.1];exact e,k.2.2.2.2⟩
 |jq hd h0=>exact h.keep hi rfl rfl rfl λe=>by simp at e
 |start hd k=>exact h.keep hi rfl (adQ rfl) rfl λe=>by rw[k.2.2]at e;simp at e
 |aeR ne r lt hn q k _=>exact h.keep hi rfl (adQ hn.sm.2.2.1) rfl λe=>absurd e k.m.2.1
 |ends ne hc q k _=>exact h.keep hi rfl (adQ rfl) rfl λe=>absurd e k.m.2.1
 |tF ne hd r=>exact h.keep hi rfl rfl rfl λe=>by simp[Wk.A6]at e
 |gL ne hd r h12 lt=>exact h.keep hi rfl (adQ rfl) (aio _ _) λe=>by simp[Wk.go]at e
 |cancel ne hd r h13 lt=>exact h.keep hi rfl (adQ rfl) rfl λe=>by simp[Wk.JF]at e
 |unwind ne hd e ho k hu hw=>exact h.keep hi rfl (adQ rfl) (aio _ _) λe=>absurd e k.m.2.1
 |put ne hd e ho k4=>exact h.keep hi rfl rfl rfl λe=>by simp[Wk.go]at e
 |fin ne hd e ho=>exact h.keep hi rfl rfl rfl λe=>by simp[Wk.go]at e
 |asks ne hd=>exact h.keep hi rfl rfl rfl λe=>by simp at e
 |gone ne hd e ho k hw=>exact h.keep hi rfl rfl rfl λe=>absurd e k.2.2.2.1
 |fork ne hd r h8 rm=>
  have hP:∀{z:Nat} {q},(G.P.map plq)[z]?=some q→((G.P++[(-2,0,0,false)]).map plq)[z]?=some q:=fun{z q} hz=>by
   rw[List.map_append,tJ (kB.1 hz).1];exact hz
  have hold:∀(j:Nat) (Wj:Wk),Ws[j]?=some Wj→Wj.cT= .m .xo→0≤Wj.own∧Wj.own<(G.C.length:Nat):=λj Wj hj hf=>by
   obtain⟨h0,b,hb⟩:=h.fk j Wj hj hf;have:=(kB.1 hb).1;rw[u]at this;omega
  refine⟨?_,λj Wj hj hf=> ?_,λj m Wj d hj hm hf hg he=> ?_⟩
  ·show SKs G.T _ ((G.P++[(-2,0,0,false)]).map plq);rw[List.map_append];exact h.sk.fork (0,0)
  ·by_cases e:i=j
   ·subst e;rw[uO f]at hj;obtain rfl:=Option.some.inj hj;refine⟨by show(0:Int)≤(G.C.length:Nat);omega,(0,0),?_⟩
    show((G.P++[(-2,0,0,false)]).map plq)[((G.C.length:Nat):Int).toNat]?=_;rw[iZ,List.map_append,u0 af,u];simp[plq]
   ·rw[r0 e]at hj;obtain⟨h0,b,hb⟩:=h.fk j Wj hj hf;exact⟨h0,b,hP hb⟩
  ·by_cases e:i=j
   ·subst e;by_cases e2:i=m
    ·exact e2
    ·rw[uO f]at hj;rw[r0 e2]at hm;obtain rfl:=Option.some.inj hj;have:=hold m d hm hg;have he:((G.C.length:Nat):Int)=d.own:=he;omega
   ·rw[r0 e]at hj;by_cases e2:i=m
    ·subst e2;rw[uO f]at hm;obtain rfl:=Option.some.inj hm;have:=hold j Wj hj hf;have he:Wj.own=((G.C.length:Nat):Int):=he;omega
    ·rw[r0 e2]at hm;exact h.aQg j m Wj d hj hm hf hg he
 |xo ne hd r h8 lt rm=>
  have hx:=n ne;obtain⟨h0,b,hb⟩:=h.fk i W hi hd;have s:=(hI.ty.qh hx).id;have y:=hI.ty.kl;have hmap:∀{z:List Pl},(z.set W.own.toNat ((G.T.length:Nat),0,0,false)).map plq=(z.map plq).set W.own.toNat ((G.T.length:Nat),0,0):=fun{z}=>by rw[List.map_set];rfl
  refine⟨?_,λj Wj hj hf=> ?_,λj m Wj d hj hm hf hg he=> ?_⟩
  ·have hk:=SKs.more (p:=(G.tk W.tp).id) (own:=W.own) (a:=(0,0)) h.sk (by rw[s];omega) (by rw[s];omega) h0 hb rfl
   show SKs (Hz G.T (G.tk W.tp).id) (List.map _ ((G.ts++[_]).set W.tp _)) ((G.P.set W.own.toNat ((G.T.length:Nat),0,0,false)).map plq);rw[hmap];have e:List.map (λt:Tk=>t.scopes) ((G.ts++[aDY P G W]).set W.tp (aD2 P G W))=G.ts.map (λt=>t.scopes)++[[W.own]]:=by
    rw[adD]
    ·rw[List.map_append];rfl
    ·intro q hq;rw[tJ hx,G.xw hx]at hq;obtain rfl:=Option.some.inj hq;rfl
   rw[e];exact hk
  ·have hne:i≠j:=λe=>by
    subst e;rw[uO f]at hj;obtain rfl:=Option.some.inj hj;simp at hf
   rw[r0 hne]at hj;obtain⟨v,b',hb'⟩:=h.fk j Wj hj hf;refine⟨v,b',?_⟩;show((G.P.set W.own.toNat _).map plq)[Wj.own.toNat]?=_;rw[hmap,r0]
   ·exact hb'
   ·intro e;exact hne (h.aQg i j W Wj hi hj hd hf af)
  ·have hno:∀(q:Nat) (Wq:Wk),(Ws.set i {W with jq:=(G.ts.length:Nat),cT:= .m .tF})[q]?=some Wq→Wq.cT= .m .xo→Ws[q]?=some Wq:=λq Wq hq hf=>by
    by_cases e:i=q
    ·subst e;rw[uO f]at hq;obtain rfl:=Option.some.inj hq;simp at hf
    ·rwa[r0 e]at hq
   exact h.aQg j m Wj d (hno j Wj hj hf) (hno m d hm hg) hf hg he
 |opens ne hd r h11 lt rm n32=>
  have hx:=n ne;have s:=(hI.ty.qh hx).id;have g:∀(j:Nat) (Wj:Wk),(Ws.set i (W.go .next))[j]?=some Wj→Wj.cT= .m .xo→Ws[j]?=some Wj:=λq Wq hq hf=>by
   by_cases e:i=q
   ·subst e;rw[uO f]at hq;obtain rfl:=Option.some.inj hq;simp[Wk.go]at hf
   ·rwa[r0 e]at hq
  have x:(aok P G W).ts.map (λt=>t.scopes)=(G.ts.map λt=>t.scopes).set W.tp ((G.tk W.tp).scopes++[(G.C.length:Int)]):=by
   show(G.ts.set _ _).map _=_;rw[List.map_set]
  refine⟨?_,λj Wj hj hf=> ?_,λj m Wj d hj hm hf hg he=>h.aQg j m Wj d (g j Wj hj hf) (g m d hm hg) hf hg he⟩
  ·show SKs G.T ((aok P G W).ts.map _) ((G.P++[_]).map plq);rw[x,List.map_append];have hl:(G.ts.map λt=>t.scopes)[W.tp]?=some (G.tk W.tp).scopes:=by rw[l8,G.xw hx];rfl
   have:=h.sk.opens hl (G.pk (G.tk W.tp).kA.1);rw[u]at this;show SKs _ _ (_++[plq _]);unfold plq;dsimp only;rw[s];exact this
  ·obtain⟨h0,b,hb⟩:=h.fk j Wj (g j Wj hj hf) hf;refine⟨h0,b,?_⟩;show((G.P++[_]).map plq)[_]?=_;rw[List.map_append,tJ (kB.1 hb).1];exact hb
end
def onF(l:Lc)(G:Gl)(W:Wk):Bool:=tD (l.sp.bits G.M) W.id
def Ce(r:List Int)(W:Wk):List Int:=W.stack.reverse.map λx=>r.getD x 0
def JT(G:Gl)(r:List Int)(W:Wk):List Int:=(G.M.list W.dq).map λx=>r.getD x.toNat 0
abbrev aQl:=Wk×(Sl×Sl)
def tQ(l:Lc)(G:Gl)(z:aQl):List Value:=[.bool (onF l G z.1),.bool (z.1.wait.parked G.M l.told),.slice z.2.1.a z.2.1.n z.2.1.c,.slice z.2.2.a z.2.2.n z.2.2.c]
def Iq(G:Gl)(r:List Int)(z:aQl):HP:=l9 [bG 1 z.2.1 (ints (Ce r z.1)),bG 1 z.2.2 (ints (JT G r z.1))]
def aFs:ET Tryz.prog 67 4 56 (.agg #[.bool false,.bool false,.slice none 0 0,.slice none 0 0]):=⟨aZ,aZ⟩
def KK.get{β:Type}{P:α→β→Prop}{l:List α}{m:List β}(h:KK P l m):∀{i:Nat} {a:α},l[i]?=some a→∃b,m[i]?=some b∧P a b:=by
 induction h with
 |nil=>intro i a hi;simp at hi
 |cons h1 _ ih=>
  intro i a hi;match i,hi with
  |0,hi=>simp at hi;subst hi;exact⟨_,rfl,h1⟩
  |i+1,hi=>simpa using ih (gq hi)
def azC{l:List α}{a:α}(h:l[i]?=some a):l.set i a=l:=by
 apply List.ext_getElem?;intro k;rw[List.getElem?_set];split
 ·rename_i hk;subst hk;rw[h,if_pos (kB.1 h).1]
 ·rfl
def awm(G:Gl)(W:Wk):Prop:=sy (G.M.k8 W.dq)∧sy (G.M.k8 (W.dq+1))∧xH W.dq∧(∀x∈G.M.list W.dq,0≤x∧x<G.ts.length)∧(G.M.list W.dq).length≤100000
abbrev WrB(l:Lc)(aa:List Nat)(G:Gl)(sp st sw:Sl)(gw:Nat)(q:Wq)(W:Wk)(os:List (Nat×Wk))(sr:Sl)(zs:List aQl)(r:List Int)(s1:Sl)(R:List HP):List HP:=
 au gw (W.cs l q)::au q.gwt (W.wait.cells l.told)::bG 1 q.ss q.qw.reverse::bG 1 q.sb q.y6.reverse::bG 1 q.sl (ints W.left)::l6 (uh q.go) W.op::l6 (λk:Lk=>au q.gl (k.cells l.gc)) W.look::l6 (λo:jH=>au q.gp (o.cells l.sp q.gp)) W.step::fz q.B::jO (pH l aa) os::rws 4 sr (zs.map (tQ l G))::jO (Iq G r) zs::SL l aa G (bG 1 s1 (ints r)::R) sp st sw
section
variable{w0:World}{L R:List HP}{l:Lc}{P:List dB}{bw:List Int}{ro:List Ro}{aa:List Nat}{G:Gl}{Ws:List Wk}{n:Int}{o:List (Int×Int)}{f:HP→List HP}
def azD{a:Nat}{t:Tk}{c:Int→Prop}(h:St w0 w L)[a1:At L (LA aa) G.ts f](ha:aa[x]?=some a)(ht:G.ts[x]?=some t)(hc:c t.id):aJ .i64 w (aY ⟨a,0,none⟩ 0) c:=by
 obtain⟨R,ho,_⟩:=a1.out;obtain⟨so,sc,h2⟩:=sv (ho h) ha ht;exact aI h2 vM hc
def amu{k:Sl→ap}(O:l.deep≤1000000)(hI:IV l P bw ro G Ws)(ho:SM G o)(hd:∀W∈Ws,awm G W)(h:qK w0 w l aa G Ws R)
  (hk:∀s zs w',zs.map (λz:aQl=>z.1)=Ws→qK w0 w' l aa G Ws (rws 4 s (zs.map (tQ l G))::jO (Iq G (cq G o)) zs::R)→k s w'):jB (some ⟨l.gs,0,none⟩) w k:=by
 have hcap:=hI.ty.cap;have hwn:=hI.wn;have hlc:=hI.lc;have awg:=hlc.w16;obtain⟨sp,st,sw,h⟩:=rO h;have hla:=KI (h.front 9 rfl);have Q:=qY (s:=sw) (vs:=l.wa.map pt) h;rw[List.length_map]at Q;unfold jB xk;refine aU rfl ?_;refine ahM h ho af λs1 w h hlen=> ?_;have h:=h.bk 10;refine cX ?_;have h:St w0 w (rws 4 ⟨none,0,0⟩ (([]:List aQl).map (tQ l G))::jO (Iq G (cq G o)) []::_):=St.YA (by intro e he;cases he) ((QW h).DJ 4)
 refine DN (G:=Nat×List aQl) (λq x w=>x.2=(q.1:Int)∧q.1≤Ws.length∧q.2.map (λz:aQl=>z.1)=Ws.take q.1∧St w0 w (rws 4 x.1 (q.2.map (tQ l G))::jO (Iq G (cq G o)) q.2::SL l aa G (bG 1 s1 (ints (cq G o))::jO (pH l aa) (l.wa.zip Ws)::R) sp st sw)) (λq=>Ws.length - q.1) (g:=(0,[])) ⟨rfl,af,rfl,h⟩ ?_;clear h;rintro⟨j,zs⟩ ⟨sr,i⟩ w ⟨hi,hj,hz,h⟩ C hC;dsimp only at hi hz h hj ⊢;subst hi;by_cases hlt:j<Ws.length
 ·refine bK (by simp;omega) ?_
  obtain⟨gw,u⟩:∃g,l.wa[j]?=some g:=⟨_,iH af⟩;have hW:Ws[j]?=some (Ws[j]'hlt):=iH hlt;generalize hWe:Ws[j]'hlt=W at hW;have hos:(l.wa.zip Ws)[j]?=some (gw,W):=by rw[List.getElem?_zip_eq_some];exact⟨u,hW⟩
  have B:=hI.w j W hW;have D:=hd W (qn hW);refine vP (s:=sw) (vs:=l.wa.map pt) h af (x:=some ⟨gw,0,none⟩) (by rw[iZ,l8,u];rfl) ?_
  have h:=h.fr 13;have h:=BW h hos;obtain⟨q,hq,h⟩:=X2 h;refine bP (fun(ad:Addr) w=> ∃g,ad=⟨g,0,none⟩∧St w0 w (au g [.bool (onF l G W),.bool (W.wait.parked G.M l.told),.slice none 0 0,.slice none 0 0]::WrB l aa G sp st sw gw q W ((l.wa.zip Ws).eraseIdx j) sr zs (cq G o) s1 R)) (λJ F=> ?_) ?_
  ·have S:G.M.given (l.sp.at_+1)=true:=hI.ty.OI.given hI.ty.len;have hgt:G.M.given l.told=true:=hI.ty.told.given hI.ty.len;have hsp:∀{w:World} {L:List HP} {f:HP→List HP} (h:St w0 w L) [a:At L (bH l.gm) G.M f] (c:Bool→ap),(∀w',St w0 w' L→c (onF l G W) w')→dA (List.take 3 (List.drop (0+14) (l.cs sp st sw G.steps G.err))).toArray (some ⟨l.gm,0,none⟩) W.id w c:=λh _ c hc=>anu (M:=G.M) (s:=l.sp) h hlc.sp hI.ty.ok S hc;with_reducible repeat' (first|refine bc ?_|refine cH h λw h=> ?_|refine Tn h ?_|refine Iy h ?_|refine QT h ?_|refine QU h λw h=> ?_|refine aM h λgx w h=> ?_|refine nP h ?_|refine y8 ?_ ?_|refine hsp h _ λw h=> ?_|refine acG (M:=G.M) (x:=W.wait) h hgt λw h=> ?_|fail)
   all_goals exact F _ _ ⟨_,rfl,h⟩
  clear h;rintro _ w ⟨g,rfl,h⟩;generalize Dz:onF l G W=d at h;generalize hpk:W.wait.parked G.M l.told=m at h;have vE:=qY (s:=q.ss) (vs:=q.qw.reverse) h;rw[List.length_reverse,←hq.qw.len]at vE;have hdp:=B.dp;have hrow:∀x:Nat,x<G.ts.length→(ints (cq G o))[((x:Nat):Int).toNat]?=some (.int .i64 ((cq G o).getD x 0)):=λx hx=>by
   rw[iZ];unfold ints;rw[l8,m0,iH af];rfl
  refine cX ?_;refine bP (λ_ w=> ∃s2:Sl,St w0 w (au g [.bool d,.bool m,.slice s2.a s2.n s2.c,.slice none 0 0]::bG 1 s2 (ints (Ce (cq G o) W))::WrB l aa G sp st sw gw q W ((l.wa.zip Ws).eraseIdx j) sr zs (cq G o) s1 R)) (λJ F=> ?_) ?_
  ·have h:=(h.DJ 1).bk 1;refine DN (G:=Nat×Sl) (λp x w=>x=(p.1:Int)∧p.1≤W.stack.length∧p.2.n=p.1∧St w0 w (au g [.bool d,.bool m,.slice p.2.a p.2.n p.2.c,.slice none 0 0]::bG 1 p.2 (ints ((Ce (cq G o) W).take p.1))::WrB l aa G sp st sw gw q W ((l.wa.zip Ws).eraseIdx j) sr zs (cq G o) s1 R)) (λp=>W.stack.length - p.1) (g:=(0,⟨none,0,0⟩)) ⟨rfl,af,rfl,h⟩ ?_;clear h;rintro⟨i,s2⟩ x w ⟨hx,hi,T,h⟩ C hC;dsimp only at hx hi h T ⊢;subst hx;by_cases hlt:i<W.stack.length
   ·refine bK (by simp;omega) ?_
    obtain⟨y,hy⟩:∃y,W.stack.reverse[i]?=some y:=⟨_,iH (by simpa using hlt)⟩
    have r:=hy;rw[List.getElem?_reverse hlt]at r;obtain⟨v,hv,a,ha,rfl⟩:=hq.qw.get r;have U:q.qw.reverse[i]?=some (pt a):=by rw[List.getElem?_reverse (by rw[←hq.qw.len];exact hlt),←hq.qw.len];exact hv
    have V:y∈W.stack:=qn r;have X:=B.hl y (by unfold Wk.hold;split<;>simp[V])
    have hty:=hI.ty.tk y _ (G.xw X);refine vP (s:=q.ss) (vs:=q.qw.reverse) h af (x:=some ⟨a,0,none⟩) (by rw[iZ];exact U) ?_
    with_reducible repeat' (first|refine bc ?_|refine cH h λw h=> ?_|refine u_S h ?_|refine azD h ha (G.xw X) ?_|fail)
    rw[hty.id];refine vI (s:=s1) (vs:=ints (cq G o)) h af (hrow y X) ?_;refine vO λgx w h=> ?_;obtain⟨gn,H⟩:∃n,n=gx:=⟨_,rfl⟩;subst H;have I:((Ce (cq G o) W).take i).length=i:=by rw[List.length_take];simp[Ce];omega
    have t:(Ce (cq G o) W)[i]?=some ((cq G o).getD y 0):=by unfold Ce;rw[l8,hy];rfl
    have h16:l.deep≤1000000:=O;refine I9 (s:=s2) (vs:=ints ((Ce (cq G o) W).take i)) h an0 aZ rfl (by simp only[ints,List.length_map,I];omega) af λs3 w h hn=> ?_
    simp only[ints,List.length_map,I]at hn;refine dZ λw h=> ?_;have h:=h.zm 0;refine hC (i+1,s3) _ _ ⟨?_,af,hn,?_⟩ (by simp only;omega)
    ·rw[kg ⟨af,af⟩];simp only;omega
    ·have e:ints ((Ce (cq G o) W).take (i+1))=ints ((Ce (cq G o) W).take i)++[.int .i64 ((cq G o).getD y 0)]:=by rw[List.take_add_one,t];simp[ints]
     rw[e];exact h
   ·refine aU (by simp;omega) ?_
    have e:(Ce (cq G o) W).take i=Ce (cq G o) W:=List.take_of_length_le (by simp[Ce];omega)
    rw[e]at h;exact F _ _ ⟨_,h⟩
  clear h;rintro _ w ⟨s2,h⟩;refine dZ λw h=> ?_;have h:=h.fr 15;refine axO (M:=G.M) (at_:=W.dq) (most:=l.log) D.2.2.1 h D.1 D.2.1 λN w h=> ?_;have h:=h.fr 1;have h:=h.bk 16;have h:=h.bk 1;have Y:=qY (s:=N) (vs:=ints (G.M.list W.dq)) h;simp only[ints,List.length_map]at Y;have hl4:(G.M.list W.dq).length≤100000:=D.2.2.2.2;refine bP (λ_ w=> ∃b:Sl,St w0 w (au g [.bool d,.bool m,.slice s2.a s2.n s2.c,.slice b.a b.n b.c]::bG 1 b (ints (JT G (cq G o) W))::bG 1 N (ints (G.M.list W.dq))::bG 1 s2 (ints (Ce (cq G o) W))::WrB l aa G sp st sw gw q W ((l.wa.zip Ws).eraseIdx j) sr zs (cq G o) s1 R)) (λJ F=> ?_) ?_
  ·have h:=(h.DJ 1).bk 1;refine DN (G:=Nat×Sl) (λp x w=>x=(p.1:Int)∧p.1≤(G.M.list W.dq).length∧p.2.n=p.1∧St w0 w (au g [.bool d,.bool m,.slice s2.a s2.n s2.c,.slice p.2.a p.2.n p.2.c]::bG 1 p.2 (ints ((JT G (cq G o) W).take p.1))::bG 1 N (ints (G.M.list W.dq))::bG 1 s2 (ints (Ce (cq G o) W))::WrB l aa G sp st sw gw q W ((l.wa.zip Ws).eraseIdx j) sr zs (cq G o) s1 R)) (λp=>(G.M.list W.dq).length - p.1) (g:=(0,⟨none,0,0⟩)) ⟨rfl,af,rfl,h⟩ ?_;clear h;rintro⟨i,b⟩ x w ⟨hx,hi,T,h⟩ C hC;dsimp only at hx hi h T ⊢;subst hx;by_cases hlt:i<(G.M.list W.dq).length
   ·refine bK (by simp;omega) ?_
    obtain⟨y,hy⟩:∃y,(G.M.list W.dq)[i]?=some y:=⟨_,iH hlt⟩;have Z:=D.2.2.2.1 y (qn hy);have K:=hrow y.toNat af;rw[iZ]at K;refine vI (s:=N) (vs:=ints (G.M.list W.dq)) h af (x:=y) (by rw[iZ];unfold ints;rw[l8,hy];rfl) ?_
    refine dZ λw h=> ?_;refine vI (s:=s1) (vs:=ints (cq G o)) h Z.1 K ?_;refine vO λgx w h=> ?_;obtain⟨gn,H⟩:∃n,n=gx:=⟨_,rfl⟩;subst H;have I:((JT G (cq G o) W).take i).length=i:=by rw[List.length_take];simp[JT];omega
    have t:(JT G (cq G o) W)[i]?=some ((cq G o).getD y.toNat 0):=by unfold JT;rw[l8,hy];rfl
    refine I9 (s:=b) (vs:=ints ((JT G (cq G o) W).take i)) h an0 aZ rfl (by simp only[ints,List.length_map,I];omega) af λs3 w h hn=> ?_
    simp only[ints,List.length_map,I]at hn;refine dZ λw h=> ?_;have h:=h.zm 0;refine hC (i+1,s3) _ _ ⟨?_,af,hn,?_⟩ (by simp only;omega)
    ·rw[kg ⟨af,af⟩];simp only;omega
    ·have e:ints ((JT G (cq G o) W).take (i+1))=ints ((JT G (cq G o) W).take i)++[.int .i64 ((cq G o).getD y.toNat 0)]:=by rw[List.take_add_one,t];simp[ints]
     rw[e];exact h
   ·refine aU (by simp;omega) ?_
    have e:(JT G (cq G o) W).take i=JT G (cq G o) W:=List.take_of_length_le (by simp[JT];omega)
    rw[e]at h;exact F _ _ ⟨_,h⟩
  clear h;rintro _ w ⟨b,h⟩;refine cX ?_;refine Jw rfl rfl ?_;refine vO λgx w h=> ?_;obtain⟨gn,H⟩:∃n,n=gx:=⟨_,rfl⟩;subst H;have hln:=pg (sz:=4) (s:=sr) (es:=zs.map (tQ l G)) h;have hzl:zs.length=j:=by
   have:=congrArg List.length hz;rw[List.length_map,List.length_take]at this;omega
  have he:tQ l G (W,s2,b)=[.bool d,.bool m,.slice s2.a s2.n s2.c,.slice b.a b.n b.c]:=by unfold tQ;rw[Dz,hpk]
  refine Z8 (sz:=4) (s:=sr) (es:=zs.map (tQ l G)) (e:=[.bool d,.bool m,.slice s2.a s2.n s2.c,.slice b.a b.n b.c]) h aFs aZ rfl af (by simp[Value.oneCell']) (by simp;omega) af λs' w h hn=> ?_
  rw[←he]at h;have h:=h.zm 0;have h:=h.zm 0;have h:=h.zm 1;have h:=h.fr 1;have h:St w0 w (Iq G (cq G o) (W,s2,b)::_):=St.shut (A:=[bG 1 s2 (ints (Ce (cq G o) W)),bG 1 b (ints (JT G (cq G o) W))]) h;have h:=h.fr 12;have h:=h.bk 1;have h:=QV h;have h:=h.bk 11;have h:=ac8 hq h;have h:=WY h (kB.1 hos).1;rw[azC hos]at h;have h:=h.bk 13;refine hC (j+1,zs++[(W,s2,b)]) _ _ ⟨?_,af,?_,?_⟩ (by simp only;omega)
  ·rw[kg ⟨af,af⟩];simp only;omega
  ·rw[List.map_append,hz,List.take_add_one,hW];rfl
  ·rw[List.map_append];exact h
 ·refine aU (by simp;omega) ?_
  have e:Ws.take j=Ws:=List.take_of_length_le af;rw[e]at hz;have h:=h.zm 12;have h:=h.bk 12;have h:=h.bk 12;exact hk _ _ _ hz (pE h)
end
open Ck (oW qx my tj Su qf mZ Few)
def one_le{m:Lm}(hm:m.OK):m.one≤7:=by
 have hl:=hm.log;unfold Lm.one Lm.lg EX;have:∀x:Int,0≤x→x≤8→(3:Int)+2 ^ (if x<2 then x else 2).toNat≤7:=by
  intro x h0 h8;rcases (by omega:x=0∨x=1∨2≤x)with rfl|rfl|h
  ·decide
  ·decide
  ·rw[if_neg af];decide
 exact this _ hl.1 hl.2
section
variable{w0:World}{L R:List HP}{m:Lm}{P:List dB}{g1 g3 g5:Nat}{f1 f3 f5:HP→List HP}{b0 b1 b2:Int}
end
def aqL:∀n,n<17→∀i,i<64→tD (2 ^ n - 1) ((i:Nat):Int)=decide (i<n):=by decide+kernel
def aqM:∀n,n<17→aF .i64 (sD .i64 1 ((n:Nat):Int) - 1)=2 ^ n - 1:=by decide+kernel
def aqN{n:Nat}(hn:n≤16)(i:Int):tD (2 ^ n - 1) i=decide (0≤i∧i<n):=by
 by_cases h:0≤i∧i<64
 ·obtain⟨j,rfl⟩:∃j:Nat,i=j:=⟨i.toNat,af⟩;rw[aqL n af j af];by_cases hj:j<n
  ·rw[decide_eq_true hj,decide_eq_true af]
  ·rw[decide_eq_false hj,decide_eq_false af]
 ·rw[decide_eq_false af];unfold tD;rw[if_neg (gq h)]
def afM(l:Lc)(G:Gl)(i:Int):Int:=if 0≤i∧i<l.wa.length then G.M.steps.getD i.toNat 0 else 0
section
variable{w0:World}{L R:List HP}{l:Lc}{P:List dB}{bw:List Int}{ro:List Ro}{aa:List Nat}{G:Gl}{Ws:List Wk}{n:Int}{o:List (Int×Int)}{f:HP→List HP}{sc:Sl}{b s lg:Int}
def amv{i:Int}{k:Int→ap}(hI:IV l P bw ro G Ws)(h:qK w0 w l aa G Ws R)(hk:∀w',qK w0 w' l aa G Ws R→k (afM l G i) w'):j9 (some ⟨l.gs,0,none⟩) i w k:=by
 have c:=hI.lc.w16;obtain⟨sp,st,sw,h⟩:=rO h;have a:=qY (s:=sw) h;rw[List.length_map]at a;unfold j9 CY;refine bP (λb w=>b= !(decide (0≤i∧i<l.wa.length))∧St w0 w (SL l aa G (jO (pH l aa) (l.wa.zip Ws)::R) sp st sw)) (λJ d=> ?_) ?_
 ·refine aU rfl ?_;unfold nX;refine cX ?_;refine Gf af ?_;rw[a,aqM _ af];refine ag6 ?_;rw[aqN c];exact d _ _ ⟨rfl,h⟩
 clear h;rintro _ w ⟨rfl,h⟩;refine ax (λhb=> ?_) λhb=> ?_
 ·have hb:¬(0≤i∧i<l.wa.length):=by simp at hb;omega
  have e:afM l G i=0:=if_neg hb;rw[e]at hk;exact hk _ (pE h)
 ·have hb:0≤i∧i<l.wa.length:=by simpa using hb
  have e:afM l G i=G.M.steps.getD i.toNat 0:=if_pos hb;rw[e]at hk;refine cX<|as6 h ?_;rw[if_pos (Ga hI.ty.stp af af)];exact hk _ (pE h)
structure UZ (P:List dB) (b s lg:Int) (sc:Sl):Prop where
 Zs:Few P
 b1:1≤b
 s0:0≤s
 b8:b≤8
 s8:s≤8 - b
 l0:0≤lg
 l5:lg≤5
 n:sc.n≤300
 acc:Su (tj P)=[0,0,0]
abbrev U0(ps sc:Sl)(b s lg:Int):Array Value:=#[.slice ps.a ps.n ps.c,.int .i64 b,.int .i64 s,.int .i64 lg,.slice sc.a sc.n sc.c]
abbrev MO(b s lg:Int):Lm:=⟨b,s,65536,1048576,1000,lg⟩
def UZ.ok(h:UZ P b s lg sc):(MO b s lg).OK:=by
 have h1:=h.b1;have h2:=h.s0;have h3:=h.b8;have h4:=h.s8;have h5:=h.l0;have h6:=h.l5;exact⟨⟨h1,by show b≤16;omega⟩,⟨h2,by show s≤16 - b;omega⟩,⟨by show(1:Int)≤65536;decide,by show(65536:Int)≤1048576;decide⟩,⟨by show(0:Int)≤1048576;decide,by show(1048576:Int)≤1048576;decide⟩,⟨by show(1:Int)≤1000;decide,by show(1000:Int)≤1000;decide⟩,⟨h5,by show lg≤8;omega⟩⟩
def UZ.tot(h:UZ P b s lg sc):(MO b s lg).total≤(MO b s lg).cells:=by
 have h1:=h.b1;have h2:=h.s0;have h3:=h.b8;have h4:=h.s8;have hn:(MO b s lg).n≤8:=by unfold Lm.n;show(b+s).toNat≤8;omega
 have:=one_le h.ok;have h5:((MO b s lg).n:Int)*(MO b s lg).one≤(MO b s lg).n*7:=Int.mul_le_mul_of_nonneg_left this af;unfold Lm.total;show _≤(65536:Int);omega
end
section
variable{w0:World}{L R:List HP}{l:Lc}{P:List dB}{bw:List Int}{ro:List Ro}{aa:List Nat}{G:Gl}{Ws:List Wk}{n:Int}{o:List (Int×Int)}{f f2:HP→List HP}{sc s1 s2:Sl}{b s lg:Int}
def IV.aFv(hI:IV l P bw ro G Ws)(hW:W∈Ws):awm G W:=by
 obtain⟨i,hi⟩:=List.getElem?_of_mem hW;have hw:=hI.w i W hi;have hd:ZH ro i W.dq:=by rw[hw.dq];exact hI.dq i hw.lt
 have hl:=hI.ty.len;have pk:∀{a:Int} {r:Ro},k9 ro a r→G.M.k8 a=G.M.get a:=λh=>by unfold bJ.k8;rw[if_pos (h.given hl)]
 have hr:=hI.ty.ring hd;have b:Rg.of (G.M.k8 (W.dq+2))=o6 G.M W.dq:=by rw[pk hd.Uw];rfl
 have hsz:=size_le (o6 G.M W.dq);have hlen:(G.M.list W.dq).length≤256∧∀x∈G.M.list W.dq,0≤x∧x<G.ts.length:=by
  unfold bJ.list;rw[b];split
  ·rename_i h;refine⟨?_,λx hx=> ?_⟩
   ·unfold bJ.Cn;rw[List.length_map,List.length_range];omega
   ·unfold bJ.Cn at hx;obtain⟨k,_,rfl⟩:=List.mem_map.1 hx;have hp:=hr.place (G.M.k8 W.dq+(k:Int));rw[pk hp];exact hI.ty.val _ _ hp
  ·exact⟨bf,λx hx=>by cases hx⟩
 have h1:=hI.ty.val _ _ hd.top;have h2:=hI.ty.val _ _ hd.bot;refine⟨by rw[pk hd.top];exact h1,by rw[pk hd.bot];exact h2,?_,hlen.2,af⟩
 have h3:=hd.top.lt;have h4:=hd.top.1;rw[hl]at h3;have:=hI.ty.ok.fit;have:=hI.ty.ok.size;exact⟨h4,af⟩
def aoh{r:List Int}{zs:List aQl}{z:aQl}(h:St w0 w L)[a:At L (jO (Iq G r)) zs f](hz:zs[i]?=some z):z.2.1.n=(Ce r z.1).length∧z.2.2.n=(JT G r z.1).length:=by
 obtain⟨R,h1,_⟩:=a.out;have h3:St w0 w (jO (Iq G r) zs::R):=h1 h;have h2:St w0 w (bG 1 z.2.1 (ints (Ce r z.1))::bG 1 z.2.2 (ints (JT G r z.1))::jO (Iq G r) (zs.eraseIdx i)::R):=St.open (BW (X:=Iq G r) (l:=zs) (i:=i) (a:=z) h3 hz);have e1:=qY (s:=z.2.1) (vs:=ints (Ce r z.1)) h2;have e2:=qY (s:=z.2.2) (vs:=ints (JT G r z.1)) h2;simp only[ints,List.length_map]at e1 e2;exact⟨e1,e2⟩
end
def ahN(m:Lm):(eY m).P=[(-1,0,0,false),(0,0,0,false)]:=by kernel_rfl
structure akH (G:Gl) (o:List (Int×Int)):Prop where
 ok:SM G o
 nd:(o.map λp=>p.1).Nodup
 pr:∀p∈o,(0≤p.1∧p.1<G.ts.length)∧(p.2<G.ts.length)∧∃t,G.T[p.1.toNat]?=some t∧p.2=t.parent
 all:∀j:Nat,j<G.ts.length→(j:Int)∈o.map λp=>p.1
 ls:(da G o).Nodup
 sc:awk G o
 sr:∀s∈da G o,0≤s∧s<G.C.length
 rw_:∀x∈cq G o,0≤x∧x<G.ts.length
noncomputable def aaC (G:Gl):List (Int×Int):=Classical.epsilon (akH G)
def aQm(l:Lc)(P:List dB)(bw:List Int)(G:Gl)(Ws:List Wk):Prop:=∃ro,IV l P bw ro G Ws∧SKI G Ws
noncomputable def evF (l:Lc) (P:List dB) (S:Gl×List Wk) (e:List Int):(Gl×List Wk)×Bool:=SA l P S.1 S.2 (aaC S.1) (e.getD 0 0) (e.getD 1 0)
section
variable{w0:World}{L R:List HP}{l:Lc}{P:List dB}{bw:List Int}{ro:List Ro}{aa:List Nat}{G G':Gl}{Ws:List Wk}{n:Int}{o:List (Int×Int)}{f:HP→List HP}{sc:Sl}
def aDR(hT:Ty l ro G)(h:aQf G):∃o,akH G o:=by
 obtain⟨o,h1,h2,h3,h4⟩:=aDQ h.t;have c:=hT.kl;have hcap:=hT.cap;have f:o.length≤G.ts.length:=by
  have:=acW (n:=G.T.length) h2 λx hx=>by
   obtain⟨p,hp,rfl⟩:=List.mem_map.1 hx;exact(h3 p hp).1
  simpa[c]using this
 have hmem:∀x∈o.map (λp=>p.1),0≤x:=λx hx=>by
  obtain⟨p,hp,rfl⟩:=List.mem_map.1 hx;exact(h3 p hp).1.1
 obtain⟨hn,hr⟩:=h.aHh h2 hmem;have g:=hT.pl;have e:(o.map λp=>p.1).flatMap (λx=>((G.ts.map λt=>t.scopes)[x.toNat]?).getD [])=o.flatMap λp=>(G.tk p.1.toNat).scopes:=by
  rw[List.flatMap_map];have:∀(o:List (Int×Int)),(∀p∈o,p.1.toNat<G.ts.length)→(o.flatMap λp=>((G.ts.map λt=>t.scopes)[p.1.toNat]?).getD [])=o.flatMap λp=>(G.tk p.1.toNat).scopes:=by
   intro o ho;induction o with
   |nil=>rfl
   |cons p o ih=>
    rw[List.flatMap_cons,List.flatMap_cons,ih λq hq=>ho q (by simp[hq]),l8,G.xw (ho p bf)]
    rfl
  exact this o λp hp=>by have:=(h3 p hp).1;omega
 rw[e]at hn hr;obtain⟨a,h0⟩:=h.q0;have b:∀s∈da G o,(0≤s∧s<G.C.length)∧(O9 G s).1<G.ts.length:=λs hs=>by
  have key:∀{s:Int} {p},0≤s→(G.P.map plq)[s.toNat]?=some p→(0≤s∧s<G.C.length)∧(O9 G s).1<G.ts.length:=fun{s p} z hp=>by
   have hlt:=(kB.1 hp).1;rw[List.length_map]at hlt;refine⟨af,?_⟩;have hb:=(h.aQa _ _ hp).1;rw[List.length_map]at hb;rw[l8,iH hlt]at hp;unfold O9;rw[m0,iH hlt];have hp:=Option.some.inj hp;have:(G.P[s.toNat]'hlt).1=p.1:=by rw[←hp];rfl
   show(G.P[s.toNat]'hlt).1< _;rw[this];exact hb.2
  rcases List.mem_cons.1 hs with rfl|hs
  ·exact key e7 h0
  ·obtain⟨z,p,hp,_⟩:=hr s hs;exact key z hp
 have hls:(da G o).Nodup:=by
  refine List.nodup_cons.2 ⟨λq=> ?_,hn⟩;obtain⟨_,p,hp,d⟩:=hr 0 q;have:(0:Int).toNat=0:=rfl;rw[this,h0]at hp;obtain rfl:=Option.some.inj hp;have:=hmem _ d;omega
 have k:=acW (n:=G.C.length) hls λs hs=>(b s hs).1;refine⟨o,⟨⟨λi x hx=> ?_,af,?_,λp hp=> ?_,af⟩,h2,λp hp=> ?_,λj hj=>h4 j af,hls,b,λs hs=>(b s hs).1,λx hx=> ?_⟩⟩
 ·have:=hT.kk i x hx;omega
 ·rw[if_neg (by have:=hT.t1;omega)];exact h1
 ·have:=(h3 p hp).1;omega
 ·obtain⟨a1,t,a2,a3⟩:=h3 p hp;refine⟨af,?_,t,a2,a3⟩;have:=hT.kt _ _ a2;omega
 ·unfold cq at hx;rcases aey o 0 _ x hx with q|q
  ·obtain rfl:=List.eq_of_mem_replicate q;have:=hT.t1;omega
  ·omega
def aQm.ord(h:aQm l P bw G Ws):akH G (aaC G):=by
 obtain⟨ro,h1,h2⟩:=h;exact Classical.epsilon_spec (aDR h1.ty h2.sk)
def aol(h:SKI G Ws)(hT:G'.T=G.T)(hs:G'.ts=G.ts)(hP:G'.P=G.P):SKI G' Ws:=by
 have a:G'.P.map plq=G.P.map plq:=by rw[hP]
 exact⟨by unfold aQf;rw[hT,hs,hP];exact h.sk,λi W hi hf=>by rw[a];exact h.fk i W hi hf,h.aQg⟩
def aaZ(ids:List Int):∃M,UX l G ids=G.mem M:=by
 unfold UX;split
 ·exact⟨G.M,rfl⟩
 ·obtain⟨_,_,_,h⟩:=V9 (l.wa.length:Nat) ids G;rw[h];exact⟨_,rfl⟩
def aQm.ev(h:aQm l P bw G Ws)(e:List Int):aQm l P bw (evF l P (G,Ws) e).1.1 (evF l P (G,Ws) e).1.2:=by
 have ho:=h.ord;obtain⟨ro,hI,hS⟩:=h;obtain⟨iT,a⟩:=awe (o:=aaC G) (n:=e.getD 1 0) (kind:=e.getD 0 0) hI ho.sr;refine⟨iT,a,?_⟩;unfold evF SA;dsimp only;split
 ·exact hS
 rename_i he;have he:G.err=0:=Classical.not_not.1 he;split
 ·unfold ZC;split
  ·split
   ·rename_i W hW;split
    ·rw[hI.dl];exact hS.step hI hW he
    ·exact hS
   ·exact hS
  ·exact hS
 split
 ·unfold ZD;split
  ·obtain⟨M,e⟩:=aaZ (l:=l) (G:={G with time:=(G.time.1+e.getD 1 0,Ko.Oy G.time.2 (G.time.1+e.getD 1 0))}) (Ko.ids (Ko.ac4 G.time.2 (G.time.1+e.getD 1 0)));rw[e];exact aol hS rfl rfl rfl
  ·exact hS
 split
 ·split
  ·exact aol hS rfl rfl rfl
  ·exact hS
 split
 ·unfold ZF;split
  ·split
   ·exact hS
   ·obtain⟨M,e⟩:=aaZ (l:=l) (G:=G) [(da G (aaC G)).getD (e.getD 1 0).toNat 0];rw[e];exact aol hS rfl rfl rfl
  ·exact hS
 ·exact hS
def aD9(hI:aQm l P bw G Ws)(hF:iA w0 l.ps P)(hT:TZ w0)(h:qK w0 w l aa G Ws R)
  (hk:∀JI w',qK w0 w' l JI (evF l P (G,Ws) [kind,n]).1.1 (evF l P (G,Ws) [kind,n]).1.2 R→k (evF l P (G,Ws) [kind,n]).2 w'):nO (some ⟨l.gs,0,none⟩) #[.int .i64 kind,.int .i64 n] w k:=by
 have ho:=hI.ord;obtain⟨ro,hV,hS⟩:=hI;exact aFl hV hF hT ho.ok ho.sr h hk
def ad4{k:Sl→ap}(hI:aQm l P bw G Ws)(h:qK w0 w l aa G Ws R)(hk:∀s w',qK w0 w' l aa G Ws (rws 7 s (Yn G (aaC G))::R)→k s w'):dD (some ⟨l.gs,0,none⟩) w k:=by
 have ho:=hI.ord;obtain⟨ro,hV,hS⟩:=hI;exact akd hV ho.ok (λp hp=>(ho.pr p hp).2.1) ho.rw_ h hk
def arZ{k:Sl→ap}(hd:l.deep≤1000000)(hI:aQm l P bw G Ws)(h:qK w0 w l aa G Ws R)(hk:∀s zs w',zs.map (λz:aQl=>z.1)=Ws→qK w0 w' l aa G Ws (rws 4 s (zs.map (tQ l G))::jO (Iq G (cq G (aaC G))) zs::R)→k s w'):jB (some ⟨l.gs,0,none⟩) w k:=by
 have ho:=hI.ord;obtain⟨ro,hV,hS⟩:=hI;exact amu hd hV ho.ok (λW hW=>hV.aFv hW) h hk
end
section
variable{w0:World}{L R:List HP}{l:Lc}{P:List dB}{bw:List Int}{ro:List Ro}{aa:List Nat}{G G':Gl}{Ws:List Wk}{W':Wk}{n kd s a:Int}{o:List (Int×Int)}{f f2:HP→List HP}{sc s1 s2:Sl}{r:Ro}
def aBc{st:List Int}{o':List (Int×Int)}(h:Dfs T st o)(h':Dfs T st o'):o=o':=by
 induction h generalizing o' with
 |nil=>cases h';rfl
 |cons h1 _ ih=>
  cases h' with
  |cons h2 h3=>
   rw[h1]at h2;obtain rfl:=Option.some.inj h2;rw[ih h3]
end
def UZ.aFw{P:List dB}{b s lg:Int}{sc:Sl}(h:UZ P b s lg sc):oW P:=Ck.afq.1 (by
 have:=h.acc;unfold Su at this;simp at this;exact this.2.2)
section
variable{w0:World}{L R:List HP}{P:List dB}{sc:Sl}{b s lg:Int}
end
def aDT(m:Lm):(eY m).T=[⟨-1,0,[]⟩]:=by kernel_rfl
def aBd(m:Lm):(eY m).ts.map (λt=>t.scopes)=[[1]]:=by kernel_rfl
def aBe:KtT [⟨-1,0,[]⟩]:=by
 refine⟨e7,λy hy=>by simp at hy;subst hy;rfl,λi x hx k hk=> ?_,λj y hy hj=> ?_,λi x hx=> ?_⟩
 ·match i,hx with
  |0,hx=>simp at hx;subst hx;cases hk
 ·match j,hy with
  |0,_=>omega
 ·match i,hx with
  |0,hx=>simp at hx;subst hx;exact List.nodup_nil
def aGd(m:Lm):aQf (eY m):=by
 unfold aQf;rw[aDT,aBd,ahN];refine⟨aBe,rfl,λx l hl k s hk=> ?_,⟨_,rfl⟩,λs p hp=> ?_⟩
 ·match x,hl with
  |0,hl=>
   simp at hl;subst hl;match k,hk with
   |0,hk=>
    simp at hk;subst hk;exact⟨e7,_,rfl,rfl,rfl⟩
 ·match s,hp with
  |0,hp=>simp[plq]at hp;subst hp;exact⟨e7,λq=>by simp at q⟩
  |1,hp=>simp[plq]at hp;subst hp;exact⟨e7,λ_=>⟨_,rfl,e7,rfl⟩⟩
def aDV(m:Lm):SKI (eY m) (Bd m):=by
 refine⟨aGd m,λi W hi hf=> ?_,λi j Wi Wj hi hj hf=> ?_⟩
 ·obtain⟨_,rfl⟩:=adF hi;cases hf
 ·obtain⟨_,rfl⟩:=adF hi;cases hf
section
variable{w0:World}{L R:List HP}{l:Lc}{P:List dB}{bw:List Int}{ro:List Ro}{aa:List Nat}{G G':Gl}{Ws:List Wk}{W':Wk}{n kd s b lg:Int}{o:List (Int×Int)}{sc:Sl}{evs:List (List Int)}
def UZ.rn(hf:UZ P b s lg sc)(c:wa.length=(MO b s lg).n):aQm (gJ a ps (MO b s lg) wa) P (dqN (MO b s lg)) (eY (MO b s lg)) (Bd (MO b s lg)):=
 ⟨_,awf (a:=a) (ps:=ps) (wa:=wa) hf.ok hf.tot (by show(65536:Int)≤65536;decide) c hf.aFw,aDV _⟩
def adJ(o:List (Int×Int)):(Yn G o).length=G.ts.length:=by unfold Yn;rw[adI,List.length_replicate]
end
open Ck (oW qx my tj Su qf mZ Few A3 uU rP G4)
def fkI(n:Nat):List (List Int):=(List.range n).map λi:Nat=>[8,(i:Int),0,0,1]
def fkL(n:Nat):List (List Int):=fkI n++[[9,0,0,0,0],[16,0,0,0,0]]
def aQn(s t:Sl)(n:Nat)(q:List (List Int)):List dB:=[⟨0,s,fkL n⟩,⟨0,t,q⟩]
def aHH:ET Tryz.prog 76 5 40 (.agg #[.int .i64 0,.int .i64 0,.int .i64 0,.int .i64 0,.int .i64 0]):=⟨aZ,aZ⟩
variable{t:Sl}
def aGf{n:Nat}{q:List (List Int)}{H1 H2:List Int}(h1:qx (fkL n) 0=H1)(h2:qx q 0=H2)(hs:rP 0 (aQn s t n q)=none)
  (f1:mZ (aQn s t n q) (fkL n).length (my 0 (fkL n)) H1 0 (fkL n)=none) (f2:mZ (aQn s t n q) q.length (my 0 q) H2 0 q=none):tj (aQn s t n q)=(0,0,0):=by
 have e1:A3 (aQn s t n q) ⟨0,s,fkL n⟩=none:=by unfold A3;rw[h1];exact f1
 have e2:A3 (aQn s t n q) ⟨0,t,q⟩=none:=by unfold A3;rw[h2];exact f2
 have a:uU (aQn s t n q) 0 (aQn s t n q)=none:=by
  show uU (aQn s t n q) 0 [⟨0,s,fkL n⟩,⟨0,t,q⟩]=none;simp only[uU,e1,e2]
 unfold tj;rw[hs,a];rfl
section
variable{w0:World}{L R:List HP}
def aA7(n:Nat):(fkI n).length=n:=by simp[fkI]
def awR{n:Nat}(hn:n≤8):∀x∈fkL n,x.length=5∧∀y∈x,sy y:=by
 have:∀n,n≤8→∀x∈fkL n,x.length=5∧∀y∈x,sy y:=by decide+kernel
 exact this n hn
def awU{l:List (List Int)}(h:∀x∈l,x.length=5):(l.map Go.Ev.ints).flatten.length=l.length*5:=by
 rw[Ck.afp (sz:=5) (λe he=> ?_),List.length_map];obtain⟨x,hx,rfl⟩:=List.mem_map.1 he;rw[ints,List.length_map];exact h x hx
def aJd{n:Nat}{k:Array Value→ap}(hn:n≤8)(h:St w0 w L)
  (hk:∀g sc st w',St w0 w' (au g [.int .i64 0,.slice sc.a sc.n sc.c,.int .i64 0,.slice st.a st.n st.c]::bG 5 st (([[6,0,0,0,0]]:List (List Int)).map Go.Ev.ints).flatten::bG 5 sc ((fkL n).map Go.Ev.ints).flatten::L)→k #[.slice (some ⟨g,0,none⟩) 2 2] w'):c7 n w k:=by
 unfold c7;refine aM h λg1 w h=> ?_;have h5:=awR hn;refine bP (fun(s:Sl) w=>St w0 w (bG 5 s ((fkI n).map Go.Ev.ints).flatten::au g1 [.slice none 0 0]::L)) (λJ p=> ?_) ?_
 ·refine DN (G:=Nat) (λj x w=>x.2=(j:Int)∧j≤n∧St w0 w (bG 5 x.1 ((fkI j).map Go.Ev.ints).flatten::au g1 [.slice none 0 0]::L)) (λj=>n - j) (g:=0) ⟨rfl,af,h.DJ 5⟩ ?_;clear h;rintro j ⟨s1,i⟩ w ⟨hi,hj,h⟩ C hC;dsimp only at hi h ⊢;subst hi;by_cases hlt:j<n;rotate_left
  ·refine aU (by simp;omega) ?_
   obtain rfl:j=n:=af;exact p _ _ h
  refine bK (by simp;omega) ?_
  refine qL (Go.Ev.ints [8,(j:Int),0,0,1]).toArray rfl aZ ?_;refine aM h λg w h=> ?_;have f:∀x∈fkI j,x.length=5:=λx hx=>by
   unfold fkI at hx;obtain⟨i,_,rfl⟩:=List.mem_map.1 hx;rfl
  have hl:=awU f;rw[aA7]at hl;have l:=(h.own (sz:=5) (s:=s1) (vs:=((fkI j).map Go.Ev.ints).flatten)).sls.1;refine M9 (sz:=5) (s:=s1) (vs:=((fkI j).map Go.Ev.ints).flatten) (x:=⟨some ⟨g,0,none⟩,1,1⟩) (ys:=Go.Ev.ints [8,(j:Int),0,0,1]) h aHH aZ (Hj.amW h rfl) (by simp[ints,Value.oneCell']) (by simp only;omega) (by simp only;omega) λs2 w h q=> ?_
  refine hC (j+1) _ _ ⟨?_,af,?_⟩ af
  ·dsimp only;rw[dh ⟨af,af⟩];omega
  ·have e:((fkI (j+1)).map Go.Ev.ints).flatten=((fkI j).map Go.Ev.ints).flatten++ints [8,(j:Int),0,0,1]:=by
    simp[fkI,List.range_succ]
   rw[e];exact h.drop
 clear h;rintro d w h;have hfl:((fkL n).map Go.Ev.ints).flatten=((fkI n).map Go.Ev.ints).flatten++(Go.Ev.ints [9,0,0,0,0] ++Go.Ev.ints [16,0,0,0,0]):=by simp[fkL]
 have f:∀x∈fkI n,x.length=5:=λx hx=>(h5 x (List.mem_append_left _ hx)).1;have hl:=awU f;rw[aA7]at hl;refine qL (Go.Ev.ints [9,0,0,0,0] ++Go.Ev.ints [0,0,0,0,0]).toArray rfl aZ ?_;refine qL (Go.Ev.ints [9,0,0,0,0] ++Go.Ev.ints [16,0,0,0,0]).toArray rfl aZ ?_;refine aM h λm w h=> ?_;have l:=(h.own (sz:=5) (s:=d) (vs:=((fkI n).map Go.Ev.ints).flatten)).sls.1;refine M9 (sz:=5) (s:=d) (vs:=((fkI n).map Go.Ev.ints).flatten) (x:=⟨some ⟨m,0,none⟩,2,2⟩) (ys:=Go.Ev.ints [9,0,0,0,0] ++Go.Ev.ints [16,0,0,0,0]) h aHH aZ (Hj.amW h rfl) (by simp[ints,Value.oneCell']) (by simp only;omega) (by simp only;omega) λs2 w h q=> ?_
 rw[←hfl]at h;refine qL (Go.Ev.ints [6,0,0,0,0]).toArray rfl aZ ?_;refine aM h λb w h=> ?_;refine qL #[.int .i64 0,.slice s2.a s2.n s2.c,.int .i64 0,.slice none 0 0] rfl aZ ?_;refine qL #[.int .i64 0,.slice s2.a s2.n s2.c,.int .i64 0,.slice (some ⟨b,0,none⟩) 1 1] rfl aZ ?_;refine aM h λo w h=> ?_;with_reducible repeat' (first|refine bc ?_|refine cH h λw h=> ?_|refine Tn h ?_|refine Iy h ?_|refine u_B h ?_|refine u_S h ?_|refine u_V h ?_|refine u_T h ?_|refine WX h ?_|refine v_I h ?_|refine v_B h ?_|refine v_S h ?_|refine v_V h ?_|refine v_T h ?_|refine QT h ?_|refine Vh h ?_|refine Z7 h ?_|refine Hq h λw h=> ?_|refine v_C h λw h=> ?_|refine u_W h λw h=> ?_|refine QU h λw h=> ?_|refine aM h λgx w h=> ?_|refine vW ?_|refine nP h ?_|refine sR h ?_|refine y8 ?_ ?_|refine I8 ?_|refine i_T ?_|refine u_1 ?_|fail)
 have h:=St.asS (g:=b) (n:=1) (sz:=5) (cs:=Go.Ev.ints [6,0,0,0,0]) h rfl e7 (by simp[ints,Value.oneCell'])
 refine hk o s2 ⟨some ⟨b,0,none⟩,1,1⟩ _ ?_;exact(h.rm 4 rfl).rm 2 rfl
end
abbrev Sg_:=Gl×List Wk
def pkF(l:Lc)(P:List dB)(w:Int)(S:Sg_):Sg_×Bool:=SA l P S.1 S.2 [] 0 w
def drF(l:Lc)(P:List dB)(f:Nat→Int):Nat→Sg_→Sg_
 |0,S=>S
 |n+1,S=>(SA l P (drF l P f n S).1 (drF l P f n S).2 [] 2 (f n)).1
def itF(f:Sg_→Sg_)(c:Sg_→Bool):Nat→Sg_→Option Sg_
 |0,_=>none
 |n+1,S=>bif c S then itF f c n (f S)else some S
def aEH(l:Lc)(P:List dB)(S:Sg_)(w:Int):evF l P S [0,w]=pkF l P w S:=by
 unfold evF pkF SA;rfl
def aKH(l:Lc)(P:List dB)(S:Sg_)(w:Int):(evF l P S [2,w]).1=(SA l P S.1 S.2 [] 2 w).1:=by
 unfold evF SA;rfl
def dq0(S:Sg_):Nat:=match S.2 with|W::_=>(S.1.M.list W.dq).length|[]=>0
def onN(l:Lc)(G:Gl)(Ws:List Wk):Nat:=(Ws.filter (onF l G)).length
def aHI(l:Lc)(sp:Int)(S:Sg_):Bool:=
 match S.2 with
 |W0::W1::Ws=>W0.wait.parked S.1.M l.told&& !W1.wait.parked S.1.M l.told&&decide (W0.stack.length=1)&&(decide (onN l S.1 Ws≥1)==decide (sp≥1))&&decide (S.1.err=0)&& !Cs S.1 S.2
 |_=>false
def aHJ(S:Sg_):Bool:=decide (S.1.ts.length<2)||decide (dq0 S=0)
def aJo(S:Sg_):Bool:=decide (wr (1048576 - S.1.steps)>1048571)
def aoU(l:Lc)(P:List dB)(sp:Int)(S:Sg_):Bool:=
 match itF (λS=>(pkF l P 0 S).1) aHJ 100 S with
 |none=>false
 |some aQo=>match itF (λS=>(pkF l P 1 S).1) aJo 100 aQo with
  |none=>false
  |some aQp=>decide (aQp.1.ts.length=2)&&decide (aQp.1.K 0=1)&&decide (aQp.1.K 1=1)&&(match itF (λS=>(pkF l P 0 S).1) (λS=>(pkF l P 0 S).2) 100 aQp with
   |none=>false
   |some aQq=>aHI l sp aQq)
def aQr(sp:Int):Lm:=⟨2,sp,65536,1048576,1000,3⟩
def aQs:List (List Int):=[[6,0,0,0,0]]
def aiB{x0 x1:Nat}:((List.range 21).all λd=>aoU (gJ a ps (aQr 0) [x0,x1]) (aQn s t 1 aQs) 0 (drF (gJ a ps (aQr 0) [x0,x1]) (aQn s t 1 aQs) (λi=>i) d (eY (aQr 0),Bd (aQr 0))))=true:=by kernel_rfl
def asZ{x0 x1 x2:Nat}:((List.range 21).all λd=>aoU (gJ a ps (aQr 1) [x0,x1,x2]) (aQn s t 1 aQs) 1 (drF (gJ a ps (aQr 1) [x0,x1,x2]) (aQn s t 1 aQs) (λi=>i) d (eY (aQr 1),Bd (aQr 1))))=true:=by kernel_rfl
def itN(f:Sg_→Sg_):Nat→Sg_→Sg_
 |0,S=>S
 |n+1,S=>f (itN f n S)
section
variable{w0:World}{L R:List HP}{l:Lc}{P:List dB}{bw:List Int}{aa:List Nat}{G:Gl}{Ws:List Wk}{S S':Sg_}
def aQm.pk(h:aQm l P bw S.1 S.2):aQm l P bw (pkF l P v S).1.1 (pkF l P v S).1.2:=by
 have h:=aQm.ev (G:=S.1) (Ws:=S.2) h [0,v];rw[aEH]at h;exact h
def aJg(hI:aQm l P bw S.1 S.2)(hF:iA w0 l.ps P)(hT:TZ w0)(h:qK w0 w l aa S.1 S.2 R)
  (hk:∀JI w',qK w0 w' l JI (pkF l P v S).1.1 (pkF l P v S).1.2 R→k (pkF l P v S).2 w'):nO (some ⟨l.gs,0,none⟩) #[.int .i64 0,.int .i64 v] w k:=by
 refine aD9 (G:=S.1) (Ws:=S.2) hI hF hT h λaa w h=> ?_;rw[aEH]at h ⊢;exact hk _ _ h
def aA9{k:Unit→ap}{n:Nat}(hn:n≤1000000)(hI:aQm l P bw S.1 S.2)(hF:iA w0 l.ps P)(hT:TZ w0)(h:qK w0 w l aa S.1 S.2 R)
  (hk:∀JI w',aQm l P bw (itN (λS=>(pkF l P v S).1) n S).1 (itN (λS=>(pkF l P v S).1) n S).2→qK w0 w' l JI (itN (λS=>(pkF l P v S).1) n S).1 (itN (λS=>(pkF l P v S).1) n S).2 R→k () w'):c6 (some ⟨l.gs,0,none⟩) v n w k:=by
 unfold c6 adZ;refine DN (G:=Nat×List Nat) (λq i w=>i=(q.1:Int)∧q.1≤n∧aQm l P bw (itN (λS=>(pkF l P v S).1) q.1 S).1 (itN (λS=>(pkF l P v S).1) q.1 S).2∧qK w0 w l q.2 (itN (λS=>(pkF l P v S).1) q.1 S).1 (itN (λS=>(pkF l P v S).1) q.1 S).2 R) (λq=>n - q.1) (g:=(0,aa)) ⟨rfl,af,hI,h⟩ ?_;clear h;rintro⟨j,aa⟩ i w ⟨hi,hj,hI,h⟩ C hC;dsimp only at hi hj hI h ⊢;subst hi;by_cases hlt:j<n;rotate_left
 ·refine aU (by simp;omega) ?_
  obtain rfl:j=n:=af;exact hk _ _ hI h
 refine bK (by simp;omega) ?_
 refine aJg hI hF hT h λaa w h=> ?_;refine hC (j+1,aa) _ _ ⟨?_,af,hI.pk,h⟩ (by dsimp only;omega)
 dsimp only;rw[dh ⟨af,af⟩];omega
def aHK{k:Unit→ap}(hI:aQm l P bw S.1 S.2)(hF:iA w0 l.ps P)(hT:TZ w0)(h:qK w0 w l aa S.1 S.2 R)
  (hk:∀JI w',aQm l P bw (pkF l P v S).1.1 (pkF l P v S).1.2→qK w0 w' l JI (pkF l P v S).1.1 (pkF l P v S).1.2 R→k () w'):c6 (some ⟨l.gs,0,none⟩) v 1 w k:=
 aA9 (n:=1) e7 hI hF hT h hk
def aBa{cond:(Bool→ap)→ap}{c:Sg_→Bool}{times:Int}{n:Nat}{k:ap}(ht:(n:Int)≤times)(a:times≤1000000)(hF:iA w0 l.ps P)(hT:TZ w0)
  (hc:∀S aa w J,aQm l P bw S.1 S.2→qK w0 w l aa S.1 S.2 R→(∀w',qK w0 w' l aa S.1 S.2 R→J (c S) w')→cond J w) (hr:itF (λS=>(pkF l P v S).1) c n S=some S') (hI:aQm l P bw S.1 S.2) (h:qK w0 w l aa S.1 S.2 R)
  (hk:∀JI w',aQm l P bw S'.1 S'.2→qK w0 w' l JI S'.1 S'.2 R→k w'):
  jD (S:=Int) (λC i w=>cz (S:=Bool) (λJ=>an (decide (i<times)) (cond J w) (J false w)) λb w=>
   an b (c6 (some ⟨l.gs,0,none⟩) v 1 w λ_ w=>C (aF .i64 (i+1)) w) (k w)) 0 w:=by
 refine DN (G:=Nat×Sg_×List Nat) (λq i w=>(0≤i∧i+q.1≤times)∧aQm l P bw q.2.1.1 q.2.1.2∧itF (λS=>(pkF l P v S).1) c q.1 q.2.1=some S'∧qK w0 w l q.2.2 q.2.1.1 q.2.1.2 R) (λq=>q.1) (g:=(n,S,aa)) ⟨⟨e7,by dsimp only;omega⟩,hI,hr,h⟩ ?_
 clear h hr hI;rintro⟨n,S,aa⟩ i w ⟨hx,hI,hr,h⟩ C hC;dsimp only at hx hI hr h ⊢;cases n with
 |zero=>cases hr
 |succ n=>
  unfold itF at hr;refine bP (λb w=>b=c S∧qK w0 w l aa S.1 S.2 R) (λJ d=> ?_) ?_
  ·refine bK (by simp;omega) ?_
   exact hc S aa w J hI h λw h=>d _ _ ⟨rfl,h⟩
  clear h;rintro _ w ⟨rfl,h⟩;cases hcs:c S with
  |false=>
   rw[hcs]at hr;have hr:=Option.some.inj hr;subst hr;exact aU rfl (hk _ _ hI h)
  |true=>
   rw[hcs]at hr;refine bK rfl ?_;refine aHK hI hF hT h λaa w hI h=> ?_;refine hC (n,_,aa) _ _ ⟨?_,hI,hr,h⟩ (by dsimp only;omega)
   dsimp only;rw[dh ⟨af,af⟩];push_cast at hx;omega
def aHL{f:Nat→Int}{e:Int→Int}{n:Int}{k:ap}(h0:0≤n)(hn:n≤1000000)(he:∀j:Nat,(j:Int)<n→e j=f j)(hF:iA w0 l.ps P)(hT:TZ w0)(hI:aQm l P bw S.1 S.2)(h:qK w0 w l aa S.1 S.2 R)
  (hk:∀JI w',aQm l P bw (drF l P f n.toNat S).1 (drF l P f n.toNat S).2→qK w0 w' l JI (drF l P f n.toNat S).1 (drF l P f n.toNat S).2 R→k w'):
  jD (S:=Int) (λC i w=>an (decide (i<n)) (nO (some ⟨l.gs,0,none⟩) #[Iv 2,Iv (e i)] w λ_ w=>C (aF .i64 (i+1)) w) (k w)) 0 w:=by
 refine DN (G:=Nat×List Nat) (λq i w=>i=(q.1:Int)∧(q.1:Int)≤n∧aQm l P bw (drF l P f q.1 S).1 (drF l P f q.1 S).2∧qK w0 w l q.2 (drF l P f q.1 S).1 (drF l P f q.1 S).2 R) (λq=>n.toNat - q.1) (g:=(0,aa)) ⟨rfl,h0,hI,h⟩ ?_;clear h;rintro⟨j,aa⟩ i w ⟨hi,hj,hI,h⟩ C hC;dsimp only at hi hj hI h ⊢;subst hi;by_cases hlt:(j:Int)<n;rotate_left
 ·refine aU (by simp;omega) ?_
  have e:n.toNat=j:=af;rw[e]at hk;exact hk _ _ hI h
 refine bK (by simp;omega) ?_
 rw[he j hlt];refine aD9 (G:=(drF l P f j S).1) (Ws:=(drF l P f j S).2) hI hF hT h λaa w h=> ?_;have hI:=hI.ev [2,f j];have e:(evF l P ((drF l P f j S).1,(drF l P f j S).2) [2,f j]).1=drF l P f (j+1) S:=aKH l P _ _;rw[e]at hI h;refine hC (j+1,aa) _ _ ⟨?_,by dsimp only;omega,hI,h⟩ (by dsimp only;omega)
 dsimp only;rw[dh ⟨af,af⟩];omega
def aEK{k:Sl→ap}(hd:l.deep≤1000000)(hI:aQm l P bw G Ws)(h:qK w0 w l aa G Ws R)
  (hk:∀s (es:List (List Value)) X w',(∀(i:Nat) W,Ws[i]?=some W→∃p c p' m' c',es[i]?=some ([.bool (onF l G W),.bool (W.wait.parked G.M l.told),.slice p W.stack.length c,.slice p' m' c']:List Value)∧m'=(G.M.list W.dq).length)→s.n=Ws.length→qK w0 w' l aa G Ws (rws 4 s es::X::R)→k s w'):jB (some ⟨l.gs,0,none⟩) w k:=by
 refine arZ hd hI h λs zs w hz h=> ?_;refine hk s _ _ w (λi W hi=> ?_) ?_ h
 ·have hi':(zs.map λz:aQl=>z.1)[i]?=some W:=by rw[hz];exact hi
  rw[l8]at hi';obtain⟨z,b,rfl⟩:=Option.map_eq_some_iff.1 hi';obtain⟨l1,l2⟩:=aoh (G:=G) (r:=cq G (aaC G)) h b;refine⟨z.2.1.a,z.2.1.c,z.2.2.a,z.2.2.n,z.2.2.c,?_,?_⟩
  ·rw[l8,b];show some (tQ l G z)=_;unfold tQ;rw[l1];unfold Ce;simp
  ·rw[l2];unfold JT;simp
 ·have h5:=(pg (sz:=4) (s:=s) (es:=zs.map (tQ l G)) h).2 e7;rw[←h5,List.length_map,←hz,List.length_map]
end
end Go.Proofs.YthidhjhkmjjckaaGreatDoor
