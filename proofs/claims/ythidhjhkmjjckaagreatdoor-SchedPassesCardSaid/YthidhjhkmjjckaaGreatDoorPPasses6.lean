/-
  Parts of the proof of LPasses: printed by a program out of longer texts.
-/
import Derived.Test.YthidhjhkmjjckaaGreatDoorPPasses5
import Derived.LaidMore
import Derived.SevenTiedAt
import Derived.Lay
import Derived.Stop.Joined
set_option linter.unusedSimpArgs false
set_option linter.unusedVariables false
set_option maxRecDepth 100000
set_option linter.defProp false
open List renaming getElem?_eq_some_iff→kB,getElem?_eq_getElem→iH,getD_eq_getElem?_getD→m0,getElem?_append_left→tJ,getElem?_append_right→u0,getElem?_set_ne→r0,getElem?_set_self→uO,mem_of_getElem?→qn,getElem?_map→l8,eraseIdx→I7,insertIdx_succ_cons→aBT,insertIdx_zero→aBU,replicate→dU,mem_append→zw,length_append→uv,all_eq_true→tL
open Go.Sem renaming run_pure→cP,run_bind→cR
open Go.Result renaming andThen_ok→cK
open Bool renaming or_eq_false_iff→kf,and_eq_true→iY
open Option renaming isNone→eA
open Go.IntKind renaming wrap→aF
open Int renaming toNat_natCast→iZ
open Array renaming setIfInBounds→eS,getElem?_eq_some_iff→Bf
open Nat renaming le_refl→iw
open Go.Addr renaming add→aY
namespace Go.Proofs.YthidhjhkmjjckaaGreatDoor
open Go Go.Ev Go.Proofs
open Ko (CK)
open Ck (oW)
open Fr (A0 nE dY eI di iG jo nF o5)
structure IV (l:Lc) (P:List dB) (bw:List Int) (ro:List Ro) (G:Gl) (Ws:List Wk):Prop where
 lc:afx l
 lg:0≤l.log∧l.log≤8
 acc:oW P
 ty:Ty l ro G
 wn:l.wa.length=Ws.length
 dl:Ws.map (·.dq)=bw
 dq:∀v,v<l.wa.length→ZH ro v (bw.getD v 0)
 w:∀(i:Nat) (W:Wk),Ws[i]?=some W→WT l P bw ro G i W
 dj:∀(i j:Nat) (Wi Wj:Wk) (x:Nat),Ws[i]?=some Wi→Ws[j]?=some Wj→x∈Wi.hold→x∈Wj.hold→i=j
 fr:∀x,x<G.ts.length→G.K x=0→OJ P G.ts.length (G.tk x)
section
variable{l:Lc}{P:List dB}{bw:List Int}{ro iT:List Ro}{G G' G1:Gl}{hold:List Nat}{W W' W1:Wk}{Ws:List Wk}{t t':Tk}{n i x y:Nat}{s a v:Int}{r:Ro}{w0:World}
def IV.cx(h:IV l P bw ro G Ws)(hi:Ws[i]?=some W)(he:G.err=0):Cx l P bw ro G i W:=⟨h.lc,h.lg,h.acc,h.ty,h.w i W hi,h.dq,he⟩
def av8(kd:Int):(Ck.pY kd).2≤2147483647:=by
 unfold Ck.pY;cases (kd==1)<;>cases (kd==2)<;>cases (kd==3)<;>cases (kd==4)<;>cases (kd==5)<;>decide
def av9{i:List Int}(hc:Ck.oV i=0):i.getD 4 0≤1099511627776:=by
 unfold Ck.oV at hc;split at hc
 ·cases hc
 ·split at hc
  ·rename_i hf;unfold Ck.fits at hf;rw[tL]at hf;have f3:=hf 3 e7;unfold Ck.fit at f3;have:=av8 ((Ck.kinds (Ck.gA i)).getD 3 0);simp only[Bool.not_eq_true',kf,decide_eq_false_iff_not]at f3;have:=f3.2;have e:i.getD (3+1) 0=i.getD 4 0:=rfl;omega
  ·cases hc
def azo(c:Cx l P bw ro G i W)(hdl:bw.length=l.wa.length)(hfr:∀y,y<G.ts.length→G.K y=0→OJ P G.ts.length (G.tk y)):∃iT,rV l P bw ro iT G i W (ZB l P G W bw):=by
 have ct:=c.ct;unfold ZB;dsimp only;generalize hx:W.stack.headD 0=x;have ht:G.tk (W.stack.headD 0)=G.tk x:=by rw[hx]
 cases bQ:W.cT with
 |m f=>
  cases f with
  |rest=>exact⟨_,aza c bQ⟩
  |pF=>
   have HG:=ct;unfold cD at HG;rw[bQ]at HG;dsimp only at HG;obtain⟨O,hO,_⟩:=HG;dsimp only;rw[hO];obtain⟨iT,h,_⟩:=aml c hdl bQ hO ht.symm;exact⟨iT,h⟩
  |looking=>
   have HG:=ct;unfold cD at HG;rw[bQ]at HG;dsimp only at HG;obtain⟨k,hk,_⟩:=HG;dsimp only;rw[hk];exact⟨_,amo c bQ hk hx rfl⟩
  |tell=>exact⟨_,azb c bQ⟩
  |others=>exact⟨_,aqv c bQ⟩
  |xn=>
   have HG:=ct;unfold cD at HG;rw[bQ]at HG;dsimp only at HG;obtain⟨_,_,o,ho,_⟩:=HG;dsimp only;rw[ho];exact⟨_,aqu c bQ ho⟩
  |So=>exact⟨_,aCo c bQ⟩
  |JA=>exact⟨_,azc c bQ⟩
  |tE=>exact⟨_,aqE c bQ hfr⟩
  |start=>exact⟨_,av6 c bQ rfl⟩
  |next=>exact⟨_,azh c bQ hx rfl⟩
  |fork=>exact azk c bQ hx rfl
  |xo=>exact av1 c bQ hx rfl
  |tF=>exact⟨_,aqD c bQ hx rfl⟩
  |join=>exact⟨_,azg c bQ ht.symm⟩
  |cJ=>exact⟨_,aCq c bQ⟩
  |opens=>
   have HG:=ct;unfold cD at HG;rw[bQ]at HG;dsimp only at HG;rw[hx]at HG;exact av3 c bQ hx rfl (av9 (HG.2.1.fi.oV c.acc))
  |close=>exact⟨_,av0 c bQ hx rfl⟩
  |gL=>exact⟨_,aqB c bQ hx rfl⟩
  |cancel=>exact⟨_,aqA c bQ hx rfl⟩
  |pass=>exact⟨_,azj c bQ hx rfl⟩
  |leave=>exact⟨_,avZ c bQ hx rfl⟩
  |put=>exact⟨_,aCv c bQ hx rfl⟩
  |fin=>exact⟨_,aCw c bQ hx rfl⟩
  |asks=>exact⟨_,azm c bQ ht.symm⟩
  |gone=>exact⟨_,azn c bQ ht.symm⟩
  |asked=>exact⟨_,avW c bQ ht.symm⟩
  |joined=>exact⟨_,aqC c bQ hx rfl⟩
  |ul=>exact⟨_,aqz c bQ ht.symm⟩
  |rp=>exact⟨_,amm c bQ⟩
  |sx=>exact⟨_,amn c bQ ht.symm⟩
  |register=>exact⟨_,aj7 c bQ⟩
  |block=>
   have HG:=ct;unfold cD at HG;rw[bQ]at HG;dsimp only at HG;obtain⟨_,o,ho,_⟩:=HG;dsimp only;rw[ho];exact⟨_,avS c bQ ho⟩
  |Io=>exact⟨_,azf c bQ ht.symm⟩
  |stops=>exact⟨_,av5 c bQ hx rfl⟩
  |cancelled=>unfold cD at ct;rw[bQ]at ct;exact ct.elim
  |vQ=>unfold cD at ct;rw[bQ]at ct;exact ct.elim
  |BQ=>unfold cD at ct;rw[bQ]at ct;exact ct.elim
  |y5=>unfold cD at ct;rw[bQ]at ct;exact ct.elim
  |nothing=>unfold cD at ct;rw[bQ]at ct;exact ct.elim
  |Uv=>unfold cD at ct;rw[bQ]at ct;exact ct.elim
  |AL=>unfold cD at ct;rw[bQ]at ct;exact ct.elim
 |aw y=>exact⟨_,aE7 c bQ ht.symm⟩
 |sh k=>exact⟨_,aE8 c bQ ht.symm⟩
 |no=>unfold cD at ct;rw[bQ]at ct;exact ct.elim
 |any=>unfold cD at ct;rw[bQ]at ct;exact ct.elim
 |c f=>unfold cD at ct;rw[bQ]at ct;exact ct.elim
 |nx i=>unfold cD at ct;rw[bQ]at ct;exact ct.elim
 |V2 y k=>unfold cD at ct;rw[bQ]at ct;exact ct.elim
 |BR y k=>unfold cD at ct;rw[bQ]at ct;exact ct.elim
 |hl m z=>unfold cD at ct;rw[bQ]at ct;exact ct.elim
def IV.step(h:IV l P bw ro G Ws)(hi:Ws[i]?=some W)(he:G.err=0):∃iT,rV l P bw ro iT G i W (ZB l P G W bw)∧IV l P bw iT (ZB l P G W bw).1 (Ws.set i (ZB l P G W bw).2):=by
 have c:=h.cx hi he;have hil:=(kB.1 hi).1;obtain⟨iT,hr⟩:=azo c (by rw[←h.dl,List.length_map,h.wn]) h.fr
 generalize ZB l P G W bw=r at hr ⊢;refine⟨iT,hr,h.lc,h.lg,h.acc,hr.ty,by rw[List.length_set];exact h.wn,?_,λv hv=> ?_,λj Wj hj=> ?_,λj k Wj Wk_ x hj hk Zd hxk=> ?_,λx hx hK=> ?_⟩
 ·rw[List.map_set,hr.wt.dq,←h.dl];have:(Ws.map (·.dq)).getD i 0=W.dq:=by rw[m0,l8,hi];rfl
  rw[this];apply List.ext_getElem?;intro k;by_cases hk:i=k
  ·subst hk;rw[uO (by simpa using hil),l8,hi];rfl
  ·rw[r0 hk]
 ·obtain⟨m,e⟩:=hr.Cd.ext;rw[e];exact(h.dq v hv).qT
 ·by_cases e:i=j
  ·subst e;rw[uO hil]at hj;cases hj
   exact hr.wt
  ·rw[r0 e]at hj;exact(h.w j Wj hj).imp hr.Cd (λx hx q=>e (h.dj i j W Wj x hi hj q hx)) (λ_=>he)
 ·have key:∀j Wj,Ws[j]?=some Wj→i≠j→∀x∈Wj.hold,x ∉ r.2.hold:=λj Wj hj hne x Zd hxr=>by
   rcases hr.hd x hxr with q|⟨q1,q2⟩
   ·exact hne (h.dj i j W Wj x hi hj q Zd)
   ·have:=(h.w j Wj hj).run x Zd;omega
  by_cases e:i=j
  ·subst e;by_cases e2:i=k
   ·exact e2
   ·rw[uO hil]at hj;rw[r0 e2]at hk;cases hj
    exact absurd Zd (key k Wk_ hk e2 x hxk)
  ·rw[r0 e]at hj;by_cases e2:i=k
   ·subst e2;rw[uO hil]at hk;cases hk
    exact absurd hxk (key j Wj hj e x Zd)
   ·rw[r0 e2]at hk;exact h.dj j k Wj Wk_ x hj hk Zd hxk
 ·by_cases hxn:x<G.ts.length
  ·have h0:=hr.Cd.K0 x hxn hK;have hnh:x ∉ W.hold:=λq=>by have:=(h.w i W hi).run x q;omega
   rw[hr.Cd.tk hxn hnh];exact(h.fr x hxn h0).imp hr.Cd.n
  ·exact hr.fr x af hx
end
def Ro.st:Ro→Prop
 | .fk _=>True
 | .fv _=>True
 | .ask _=>True
 | .liv _=>True
 |_=>False
structure aK2 (ro:List Ro) (wk:Int) (M M':bJ):Prop where
 same:∀a r,k9 ro a r→r.st→M'.get a=M.get a
 tick:M'.steps=M.steps∨M'.steps=(M.tick wk).steps
 used:M.cells.length≤M'.cells.length
def aK3(W:Wk):Prop:=W.cT≠ .m .start∧W.cT≠ .m .xo∧W.cT≠ .m .tF∧W.cT≠ .m .asks∧W.cT≠ .m .gone
structure aK4 (W W':Wk):Prop where
 s:W'.stack=W.stack
 b:W'.back=W.back
 m:aK3 W'
inductive aK5 (P:List dB) (G:Gl) (t:Tk):Tk→Prop
 |plain (h:(dY t.f (bz P t.f)).2=true):aK5 P G t {t with f:=(dY t.f (bz P t.f)).1}
 |pass (h:Ip P t=14):aK5 P G t {t with f:=nE t.f}
 |leave (h:Ip P t=15∨Ip P t=16):aK5 P G t {t with f:=nE t.f,kind:=if Ip P t=15 then 3 else 2,v:=t.f.getD (2+((bz P t.f).getD 1 0).toNat) 0}
 |join {y:Nat} (h:Ip P t=9∨Ip P t=10) (hy:hand P t=(y:Nat)) (hl:y<G.ts.length) (hk:2≤G.K y) (hb:(di t.f (bz P t.f) (G.K y) (if G.K y=4 then 0 else G.V y)).2.2=false):aK5 P G t {t with f:=(di t.f (bz P t.f) (G.K y) (if G.K y=4 then 0 else G.V y)).1}
 |bad {y:Nat} (h:Ip P t=9∨Ip P t=10) (hy:hand P t=(y:Nat)) (hl:y<G.ts.length) (hk:2≤G.K y) (hb:(di t.f (bz P t.f) (G.K y) (if G.K y=4 then 0 else G.V y)).2.2=true):aK5 P G t {t with f:=(di t.f (bz P t.f) (G.K y) (if G.K y=4 then 0 else G.V y)).1,kind:=3,v:=(di t.f (bz P t.f) (G.K y) (if G.K y=4 then 0 else G.V y)).2.1}
abbrev Wk.tp(W:Wk):Nat:=W.stack.headD 0
def aDY(P:List dB)(G:Gl)(W:Wk):Tk:=⟨(G.T.length:Nat),(G.tk W.tp).kA.1,W.own,(G.M.cells.length:Nat),jo (G.tk W.tp).f ((bz P (G.tk W.tp).f).getD 4 0) (EN P ((bz P (G.tk W.tp).f).getD 4 0)),ByteArray.mk #[],[],[W.own],0,0⟩
def aD2(P:List dB)(G:Gl)(W:Wk):Tk:={G.tk W.tp with f:=eI (G.tk W.tp).f (bz P (G.tk W.tp).f) (G.ts.length:Nat)}
def aFY(P:List dB)(G:Gl)(W:Wk):Gl:={G with M:=(G.M.tick W.id).grow 3,T:=Hz G.T (G.tk W.tp).id,ts:=(G.ts++[aDY P G W]).set W.tp (aD2 P G W),P:=G.P.set W.own.toNat ((G.T.length:Nat),0,0,false),steps:=wr (G.steps+1)}
def Wk.emp(W:Wk):Prop:=(W.cT= .m .stops∧(W.pG= .c .Co∨W.pG= .c .qI))∨W.cT= .m .gL
def aok(P:List dB)(G:Gl)(W:Wk):Gl:={G with M:=(G.M.tick W.id).grow 2,C:=G.C++[⟨(G.tk W.tp).kA.1,wr ((G.nd (G.tk W.tp).kA.1).nest+1),(G.M.cells.length:Nat)⟩],P:=G.P++[((G.tk W.tp).id,(((G.tk W.tp).scopes.length:Nat):Int),G.pk (G.tk W.tp).kA.1,false)],time:=if (bz P (G.tk W.tp).f).getD 4 0>0 then(G.time.1,(Ko.Dt G.time ((G.C.length:Nat):Int) ((bz P (G.tk W.tp).f).getD 4 0)).2)else G.time,ts:=G.ts.set W.tp {G.tk W.tp with scopes:=(G.tk W.tp).scopes++[((G.C.length:Nat):Int)],cJ:=(G.tk W.tp).cJ++[(((G.C.length:Nat):Int),W.mark)],f:=nE (G.tk W.tp).f},steps:=wr (G.steps+1)}
def aHe(P:List dB)(G:Gl)(W:Wk):Tk:={G.tk W.tp with cJ:=(G.tk W.tp).cJ.dropLast,gL:=(G.tk W.tp).gL++(if (G.M.get (G.nd (G.tk W.tp).kA.1).at_ !=0)then ByteArray.mk #[49]else ByteArray.mk #[48]),f:=iG (G.tk W.tp).f (bz P (G.tk W.tp).f) (G.M.get (G.nd (G.tk W.tp).kA.1).at_ !=0)}
def atV(P:List dB)(G:Gl)(W:Wk):Gl:={G with M:=G.M.tick W.id,time:=(G.time.1,Ko.EK G.time.2 (G.tk W.tp).kA.1),P:=Cq G.P (G.tk W.tp).kA.1,ts:=G.ts.set W.tp (aHe P G W),steps:=wr (G.steps+1)}
inductive Stp (l:Lc) (P:List dB) (ro:List Ro) (G:Gl) (W:Wk):Gl→Wk→Prop
 |quiet {M:bJ} {D:List Int} {W':Wk} (q:aK2 ro W.id G.M M) (k:aK4 W W') (o:aK3 W) (d:D=G.D∨D=G.D.tail):Stp l P ro G W {G with M:=M,D:=D} W'
 |fail {M:bJ} {e:Int} {W':Wk} (q:aK2 ro W.id G.M M) (he:e≠0) (k:W'.stack=W.stack∧W'.back=W.back∧W'.cT=W.cT∧W'.jq=W.jq∧W'.own=W.own) (o:W.cT≠ .m .gone∧W.cT≠ .m .tF):Stp l P ro G W {G with M:=M,err:=e} W'
 |jq (hd:W.cT= .m .tE) (h:W.jq.toNat<G.ts.length∧G.K W.jq.toNat=0):Stp l P ro G W (G.mem (G.M.cs W.id ((G.tk W.jq.toNat).jI+0) 0 1).1) {W with cT:= .m .start}
 |start {W':Wk} {m:Int} (hd:W.cT= .m .start) (k:W'.stack=W.jq.toNat::W.stack∧W'.back=W.home::W.back∧W'.cT= .m .looking):Stp l P ro G W ((G.tick W.id).set W.jq.toNat {G.tk W.jq.toNat with cJ:=[((G.tk W.jq.toNat).own,m)]}) W'
 |aeR {M:bJ} {t':Tk} {W':Wk} (ne:W.stack≠ []) (r:BT P G.ts.length (G.tk W.tp)) (lt:G.steps<l.fuel) (h:aK5 P G (G.tk W.tp) t') (q:aK2 ro W.id G.M M) (k:aK4 W W') (o:aK3 W):Stp l P ro G W (({G with M:=M}.set W.tp t').lZ) W'
 |ends {M:bJ} {W':Wk} (ne:W.stack≠ []) (h:SE G (G.tk W.tp)) (q:aK2 ro W.id G.M M) (k:aK4 W W') (o:aK3 W):Stp l P ro G W ({G with M:=M}.set W.tp {G.tk W.tp with kind:=4,v:=0}) W'
 |fork (ne:W.stack≠ []) (hd:W.cT= .m .fork) (r:BT P G.ts.length (G.tk W.tp)) (h8:Ip P (G.tk W.tp)=8) (rm:G.M.room 2=true):Stp l P ro G W {G with M:=(G.M.tick W.id).grow 2,C:=G.C++[⟨(G.tk W.tp).kA.1,wr ((G.nd (G.tk W.tp).kA.1).nest+1),(G.M.cells.length:Nat)⟩],P:=G.P++[(-2,0,0,false)]} {W with own:=(G.C.length:Nat),cT:= .m .xo}
 |xo (ne:W.stack≠ []) (hd:W.cT= .m .xo) (r:BT P G.ts.length (G.tk W.tp)) (h8:Ip P (G.tk W.tp)=8) (lt:G.steps<l.fuel) (rm:G.M.room 3=true):Stp l P ro G W (aFY P G W) {W with jq:=(G.ts.length:Nat),cT:= .m .tF}
 |tF (ne:W.stack≠ []) (hd:W.cT= .m .tF) (r:BT P G.ts.length (G.tk W.tp)):Stp l P ro G W (G.mem (G.M.ad W.id ((G.nd (G.tk W.tp).kA.1).at_+1) 1)) (W.A6 (bu.B7 W.dq l.log W.jq 0) (.c .um))
 |opens (ne:W.stack≠ []) (hd:W.cT= .m .opens) (r:BT P G.ts.length (G.tk W.tp)) (h11:Ip P (G.tk W.tp)=11) (lt:G.steps<l.fuel) (rm:G.M.room 2=true) (n32:¬wr ((G.nd (G.tk W.tp).kA.1).nest+1)>32):Stp l P ro G W (aok P G W) (W.go .next)
 |gL (ne:W.stack≠ []) (hd:W.cT= .m .gL) (r:BT P G.ts.length (G.tk W.tp)) (h12:Ip P (G.tk W.tp)=12) (lt:G.steps<l.fuel):Stp l P ro G W (atV P G W) (W.go .next)
 |cancel (ne:W.stack≠ []) (hd:W.cT= .m .cancel) (r:BT P G.ts.length (G.tk W.tp)) (h13:Ip P (G.tk W.tp)=13) (lt:G.steps<l.fuel):Stp l P ro G W (((G.mem (G.M.cs W.id (G.nd (G.tk W.tp).kA.1).at_ 0 1).1).set W.tp {G.tk W.tp with f:=nE (G.tk W.tp).f}).lZ) (W.JF (.m .next))
 |unwind (ne:W.stack≠ []) (hd:W.cT= .m .stops) (e:Ends (G.tk W.tp)) (ho:(G.tk W.tp).cJ≠ []) {W':Wk} (k:aK4 W W') (hu:W.pG= .c .qI) (hw:¬W'.emp):Stp l P ro G W (G.Zv W.tp (G.tk W.tp)) W'
 |put (ne:W.stack≠ []) (hd:W.cT= .m .put) (e:Ends (G.tk W.tp)) (ho:(G.tk W.tp).cJ=[]) (k4:(G.tk W.tp).kind≠4):Stp l P ro G W (G.mem ((G.M.tick W.id).put ((G.tk W.tp).jI+1) (G.tk W.tp).v)) (W.go .fin)
 |fin (ne:W.stack≠ []) (hd:W.cT= .m .fin) (e:Ends (G.tk W.tp)) (ho:(G.tk W.tp).cJ=[]):Stp l P ro G W (G.mem (G.M.cs W.id ((G.tk W.tp).jI+0) 1 (G.tk W.tp).kind).1) (W.go .asks)
 |asks (ne:W.stack≠ []) (hd:W.cT= .m .asks):Stp l P ro G W (G.tick W.id) {W with bits:=G.M.get ((G.tk W.tp).jI+2),cT:= .m .gone}
 |gone {W':Wk} (ne:W.stack≠ []) (hd:W.cT= .m .gone) (e:Ends (G.tk W.tp)) (ho:(G.tk W.tp).cJ=[]) (k:W'.stack=W.stack.tail∧W'.back=W.back.tail∧aK3 W') (hw:¬W'.emp):Stp l P ro G W (G.mem (G.M.ad W.id ((G.nd (G.tk W.tp).l7).at_+1) (-1))) W'
variable{M:bJ}{d:Int}{O:bu}{x:Nat}
section
variable{l:Lc}{P:List dB}{bw:List Int}{ro iT:List Ro}{G G' G1:Gl}{W W' W1:Wk}{t t':Tk}{n i y:Nat}{s a v:Int}{r:Ro}{k:Kn}{wk:Int}
def aK2.aet:aK2 ro wk M M:=⟨λ_ _ _ _=>rfl,.inl rfl,iw _⟩
def aK2.acN:aK2 ro wk M (M.tick wk):=⟨λ_ _ _ _=>rfl,.inr rfl,iw _⟩
def as7(h:Ty l ro G)(hM:M.cells=G.M.cells)(hL:k9 ro a r)(hr:¬r.st):∀b s,k9 ro b s→s.st→(M.put a v).get b=G.M.get b:=λb s hb hs=>by
 have hne:b≠a:=hb.ne hL (by rintro rfl;exact hr hs)
 rw[SC hL.1 hb.1 hne];unfold bJ.get;rw[hM]
def aK2.ad(h:Ty l ro G)(hL:k9 ro a r)(hr:¬r.st):aK2 ro wk G.M (G.M.ad wk a v):=⟨as7 (M:=G.M.tick wk) h rfl hL hr,.inr rfl,by rw[aDi];exact iw _⟩
def aK2.cs{o:Int}(h:Ty l ro G)(hL:k9 ro a r)(hr:¬r.st):aK2 ro wk G.M (G.M.cs wk a o v).1:=by
 unfold bJ.cs;split
 ·exact⟨as7 (M:=G.M.tick wk) h rfl hL hr,.inr rfl,bf⟩
 ·exact .acN
def aK2.op{u:Nat}{rr:bu×bJ}(hr:OpR l ro iT G wk u d O rr):aK2 ro wk G.M rr.2:=
 ⟨λa s hs hp=>hr.same a s hs (by cases s<;>first|exact hp.elim|exact λq=>q),hr.tick,hr.used⟩
def aK2.sp(h:Ty l ro G)(o:jH):aK2 ro wk G.M (o.go l.sp G.M wk).2:=by
 unfold jH.go;split
 ·exact .aet
 ·exact .ad h h.Ye id
 ·exact .ad h h.Ye id
 ·exact .acN
 ·exact .acN
 ·exact .acN
 ·exact .cs h h.OI id
def arO{st:List Nat}(h:EP P G st k):k≠Kn.m .start∧k≠Kn.m .xo∧k≠Kn.m .tF∧k≠Kn.m .asks∧k≠Kn.m .gone:=by
 unfold EP at h;split at h
 ·subst h;simp
 ·unfold rq at h;split at h
  ·simp
  ·simp
  ·simp
  ·simp
  ·exact h.elim
def aFZ{st:List Nat}{b:List Kn}(h:KU P G (x::st) b):b.headD .no≠Kn.m .start∧b.headD .no≠Kn.m .xo∧b.headD .no≠Kn.m .tF∧b.headD .no≠Kn.m .asks∧b.headD .no≠Kn.m .gone:=by
 cases b with
 |nil=>exact h.elim
 |cons k b=>exact arO h.2.1
def rC.aK6(h:rC P G W):W.again≠Kn.m .start∧W.again≠Kn.m .xo∧W.again≠Kn.m .tF∧W.again≠Kn.m .asks∧W.again≠Kn.m .gone:=by
 obtain⟨y,e,_⟩|⟨k,e,_⟩:=h.cases<;>rw[e] <;>simp
def aaA{m:Mt}(hd:W.cT= .m m)(h:(decide (m= .start)||decide (m= .xo)||decide (m= .tF)||decide (m= .asks)||decide (m= .gone))=false):aK3 W:=by
 unfold aK3;rw[hd];simpa[and_assoc]using h
def acf:aK4 W (Go.Proofs.YthidhjhkmjjckaaGreatDoor.unwind W t):=by
 unfold Go.Proofs.YthidhjhkmjjckaaGreatDoor.unwind;split
 ·exact⟨rfl,rfl,by simp[aK3,Wk.go]⟩
 ·exact⟨rfl,rfl,by simp[aK3,shut,Wk.drain]⟩
def aoq{m:Mt}(h:W.cT= .m m)(h1:m≠ .stops)(h2:m≠ .gL):¬W.emp:=by
 rintro(⟨q,_⟩|q)
 ·rw[h]at q;exact h1 (Kn.m.inj q)
 ·rw[h]at q;exact h2 (Kn.m.inj q)
def apd:¬(Go.Proofs.YthidhjhkmjjckaaGreatDoor.unwind W t).emp:=by
 unfold Go.Proofs.YthidhjhkmjjckaaGreatDoor.unwind;split
 ·exact aoq (m:= .put) rfl e7 e7
 ·exact aoq (m:= .ul) rfl e7 e7
def aEm{st:List Nat}(h:EP P G st k)(hd:W.cT=k):¬W.emp:=by
 have hk:k≠ .m .stops∧k≠ .m .gL:=by
  unfold EP at h;split at h
  ·subst h;simp
  ·unfold rq at h;split at h
   ·simp
   ·simp
   ·simp
   ·simp
   ·exact h.elim
 rintro(⟨q,_⟩|q)
 ·exact hk.1 (hd.symm.trans q)
 ·exact hk.2 (hd.symm.trans q)
def aku:aK4 W (y5 l G W).2:=by
 unfold y5;dsimp only;split
 ·exact⟨rfl,rfl,by simp[aK3,Wk.go]⟩
 split
 ·exact⟨rfl,rfl,by simp[aK3]⟩
 ·exact⟨rfl,rfl,by simp[aK3,Wk.go]⟩
def aeu(h:rC P G W):aK4 W (nothing G W).2:=by
 have hc:=h.aK6;unfold nothing;dsimp only;split
 ·exact⟨rfl,rfl,hc⟩
 split
 ·exact⟨rfl,rfl,by simp[aK3,Wk.go]⟩
 split
 ·exact⟨rfl,rfl,by simp[aK3]⟩
 ·exact⟨rfl,rfl,by simp[aK3]⟩
def ah7(hS:Dx l P G W):aK4 W (KR l G W t bw).2∧(KR l G W t bw).1=G:=by
 unfold KR;split
 ·unfold alM;rcases hS.what with⟨_,_,_,a4⟩|⟨a1,_,_,a4⟩
  ·rw[if_pos a4];exact⟨aku,rfl⟩
  ·rw[if_neg (by rw[a4];simp)];exact⟨aeu a1,rfl⟩
 ·exact⟨⟨rfl,rfl,by simp[aK3,Wk.A6]⟩,rfl⟩
def aK4.of(h:aK4 W1 W')(h1:W1.stack=W.stack)(h2:W1.back=W.back):aK4 W W':=⟨by rw[h.s,h1],by rw[h.b,h2],h.m⟩
def Stp.q{r:SW}(o:aK3 W)(hG:r.1=G∨r.1=G.tick W.id)(k:aK4 W r.2):Stp l P ro G W r.1 r.2:=by
 rcases hG with e|e<;>rw[e]
 ·exact .quiet (M:=G.M) (D:=G.D) .aet k o (.inl rfl)
 ·exact .quiet (M:=G.M.tick W.id) (D:=G.D) .acN k o (.inl rfl)
def Stp.f{e:Int}(o:W.cT≠ .m .gone∧W.cT≠ .m .tF)(hG:G1=G∨G1=G.tick W.id)(he:e≠0)(k:W'.stack=W.stack∧W'.back=W.back∧W'.cT=W.cT∧W'.jq=W.jq∧W'.own=W.own):Stp l P ro G W (G1.fail e) W':=by
 rcases hG with e1|e1<;>rw[e1]
 ·exact .fail (M:=G.M) .aet he k o
 ·exact .fail (M:=G.M.tick W.id) .acN he k o
def aew:aK4 W (dK G W t).2∧(dK G W t).1=G:=by
 unfold dK;split
 ·exact⟨⟨rfl,rfl,by simp[aK3,vQ,Wk.search]⟩,rfl⟩
 ·exact⟨⟨rfl,rfl,by simp[aK3,Wk.go]⟩,rfl⟩
def aep(o:aK3 W)(hG:G1=G∨G1=G.tick W.id)(ne:W.stack≠ [])(hc:SE G (G.tk W.tp))(h1:W1.stack=W.stack)(h2:W1.back=W.back):Stp l P ro G W (ends G1 W1 W.tp (G.tk W.tp) 4 0).1 (ends G1 W1 W.tp (G.tk W.tp) 4 0).2:=by
 unfold Go.Proofs.YthidhjhkmjjckaaGreatDoor.ends;rcases hG with e|e<;>rw[e]
 ·exact .ends (M:=G.M) ne hc .aet (acf.of h1 h2) o
 ·exact .ends (M:=G.M.tick W.id) ne hc .acN (acf.of h1 h2) o
def akv(o:aK3 W)(hG:G1=G∨G1=G.tick W.id)(ne:W.stack≠ [])(r:BT P G.ts.length (G.tk W.tp))(h1:W1.stack=W.stack)(h2:W1.back=W.back)(h3:W1.cT=W.cT∧W1.jq=W.jq∧W1.own=W.own):Stp l P ro G W (afr l G1 W1 W.tp (G.tk W.tp) (bz P (G.tk W.tp).f)).1 (afr l G1 W1 W.tp (G.tk W.tp) (bz P (G.tk W.tp).f)).2:=by
 have e1:G1.steps=G.steps:=by rcases hG with e|e<;>rw[e] <;>rfl
 unfold afr;split
 ·exact .f ⟨o.2.2.2.2,o.2.2.1⟩ hG e7 ⟨h1,h2,h3⟩
 rename_i hf;rw[e1]at hf;split
 ·rename_i hp;have k:aK4 W (W1.go .next):=⟨h1,h2,by simp[aK3,Wk.go]⟩
  rcases hG with e|e<;>rw[e]
  ·exact .aeR (M:=G.M) ne r af (.plain hp) .aet k o
  ·exact .aeR (M:=G.M.tick W.id) ne r af (.plain hp) .acN k o
 ·refine .q (r:=(G1,_)) o hG ⟨h1,h2,?_⟩;unfold aK3 Wk.go adl;dsimp only;generalize ((bz P (G.tk W.tp).f).getD 0 0 - 8).toNat=z;match z with
  |0|1|2|3|4|5|6|7|8=>simp
  |z+9=>simp
end
section
variable{l:Lc}{P:List dB}{bw:List Int}{ro iT:List Ro}{G G' G1:Gl}{W W' W1:Wk}{t t':Tk}{n i y:Nat}{s a v:Int}{r:Ro}{k:Kn}{wk:Int}
abbrev aK7(l:Lc)(P:List dB)(ro:List Ro)(G:Gl)(W:Wk)(r:SW):Prop:=Stp l P ro G W r.1 r.2
def aF0(c:Cx l P bw ro G i W)(bQ:W.cT= .m .pF)(hop:W.op=some O):aK7 l P ro G W (pF l G W O (G.tk W.tp) bw G.vJ):=by
 have ct:=c.ct;unfold cD at ct;rw[bQ]at ct;dsimp only at ct;obtain⟨O',hO',ct⟩:=ct;rw[hop]at hO';cases hO';have key:∀(u:Nat) (d:Int),ZH ro u d→Cb l ro G.ts.length u d O→(∀r:bu×bJ,r.1.how≠0→aK4 W (zj l (G.mem r.2) {W with op:=some r.1} (G.tk W.tp) bw G.vJ r.1.how).2∧(zj l (G.mem r.2) {W with op:=some r.1} (G.tk W.tp) bw G.vJ r.1.how).1=G.mem r.2)→aK7 l P ro G W (pF l G W O (G.tk W.tp) bw G.vJ):=by
  intro u d hd hO ha;obtain⟨iT,hr⟩:=aj2 c.lg c.ty hd c.caller hO;unfold pF;dsimp only;generalize O.step G.M W.id=r at hr ⊢;split
  ·exact .quiet (M:=r.2) (D:=G.D) (.op hr) ⟨rfl,rfl,aaA (m:= .pF) bQ rfl⟩ (aaA bQ rfl) (.inl rfl)
  split
  ·rename_i e;exact .fail (M:=r.2) (.op hr) (hr.err e) ⟨rfl,rfl,rfl,rfl,rfl⟩ (by rw[bQ];simp)
  ·rename_i e0 _;obtain⟨h1,h2⟩:=ha r e0;show Stp l P ro G W _ _;rw[h2];exact .quiet (M:=r.2) (D:=G.D) (.op hr) h1 (aaA bQ rfl) (.inl rfl)
 have SH:∀r:bu×bJ,rC P G W→rC P (G.mem r.2) {W with op:=some r.1}:=λr q=>⟨q.ne,q.hm,q.tg⟩
 have hSe:∀r:bu×bJ,Dx l P G W→Dx l P (G.mem r.2) {W with op:=some r.1}:=λr q=>⟨q.how,q.left,q.what.imp id λz=>⟨SH r z.1,z.2⟩⟩
 have avU:=c.idn;rw[avU]at ct;split at ct
 ·rename_i ha;refine key i W.dq c.own ct.2.2.1 λr h0=> ?_;have e:zj l (G.mem r.2) {W with op:=some r.1} (G.tk W.tp) bw G.vJ r.1.how=F9 (G.mem r.2) {W with op:=some r.1} r.1.how:=by unfold zj;dsimp only;rw[ha]
  rw[e];unfold F9;refine⟨?_,rfl⟩;dsimp only;split
  ·exact⟨rfl,rfl,by simp[aK3,Wk.HE]⟩
  ·exact⟨rfl,rfl,by simp[aK3,Wk.search]⟩
 ·rename_i ha;refine key i W.dq c.own ct.2.2.2.1 λr h0=> ?_;have e:zj l (G.mem r.2) {W with op:=some r.1} (G.tk W.tp) bw G.vJ r.1.how=um (G.mem r.2) {W with op:=some r.1} r.1.how:=by unfold zj;dsimp only;rw[ha]
  rw[e];unfold um;refine⟨?_,rfl⟩;dsimp only;split
  ·exact⟨rfl,rfl,by simp[aK3,Wk.HE]⟩
  ·exact⟨rfl,rfl,by simp[aK3,Wk.JF]⟩
 ·rename_i ha;refine key i W.dq c.own ct.2.2.2.1 λr h0=> ?_;have e:zj l (G.mem r.2) {W with op:=some r.1} (G.tk W.tp) bw G.vJ r.1.how=td (G.mem r.2) {W with op:=some r.1} (G.tk W.tp) r.1.how:=by unfold zj;dsimp only;rw[ha]
  rw[e];unfold td;split
  ·obtain⟨h1,h2⟩:=aew (G:=G.mem r.2) (W:={W with op:=some r.1}) (t:=G.tk W.tp);exact⟨h1.of rfl rfl,h2⟩
  ·exact⟨⟨rfl,rfl,by simp[aK3,BQ,Wk.stop]⟩,rfl⟩
 ·rename_i ha;obtain⟨a1,⟨u,b1,b2,b3,b4⟩,a3⟩:=ct;refine key u _ (c.dq u b1) b3 λr h0=> ?_;have e:zj l (G.mem r.2) {W with op:=some r.1} (G.tk W.tp) bw G.vJ r.1.how=Uv l (G.mem r.2) {W with op:=some r.1} (G.tk W.tp) bw G.vJ r.1.how:=by unfold zj;dsimp only;rw[ha]
  rw[e];unfold Uv;split
  ·obtain⟨h1,h2⟩:=ah7 (l:=l) (t:=G.tk W.tp) (bw:=bw) (hSe r a1);exact⟨h1.of rfl rfl,h2⟩
  ·exact⟨⟨rfl,rfl,aaA (m:= .pF) bQ rfl⟩,rfl⟩
 ·rename_i ha;obtain⟨a1,⟨u,b1,b2,b3,b4⟩,a3⟩:=ct;refine key u _ (c.dq u b1) b3 λr h0=> ?_;have e:zj l (G.mem r.2) {W with op:=some r.1} (G.tk W.tp) bw G.vJ r.1.how=AL l (G.mem r.2) {W with op:=some r.1} (G.tk W.tp) bw r.1.how:=by unfold zj;dsimp only;rw[ha]
  rw[e];unfold AL;split
  ·unfold auJ;split
   ·exact⟨⟨rfl,rfl,by simp[aK3,BQ,Wk.stop]⟩,rfl⟩
   ·exact⟨⟨rfl,rfl,by simp[aK3,Wk.HE]⟩,rfl⟩
  ·have h:=hSe r a1;obtain⟨h1,h2⟩:=ah7 (l:=l) (t:=G.tk W.tp) (bw:=bw) (W:={W with op:=some r.1,late:=true}) (G:=G.mem r.2) ⟨h.how,h.left,h.what.imp id λz=>⟨⟨z.1.ne,z.1.hm,z.1.tg⟩,z.2⟩⟩
   exact⟨h1.of rfl rfl,h2⟩
 ·exact ct.elim
def ao8{k:Lk}(c:Cx l P bw ro G i W)(bQ:W.cT= .m .looking)(hk:W.look=some k):aK7 l P ro G W (looking l G W k (G.nd k.at_) W.tp (G.tk W.tp)):=by
 have ct:=c.ct;unfold cD at ct;rw[bQ]at ct;dsimp only at ct;obtain⟨k',hk',a1,a2,a3,a4,a5⟩:=ct;rw[hk]at hk';cases hk';obtain⟨hsc,_⟩:=c.ty.O7 a2.1 a2.2;have hc:(k.go G.M (G.nd k.at_)).xm=true→SE G (G.tk W.tp):=λq=>by
  unfold Lk.go at q;dsimp only at q;exact⟨k.at_,a3,_,hsc,by simpa using q⟩
 unfold looking;dsimp only;split
 ·unfold Sy;dsimp only;split at a5
  ·rename_i hs;rw[hs];dsimp only;unfold adm;rw[a5.2];split
   ·rename_i hi;exact aep (aaA bQ rfl) (.inr rfl) a4 (hc hi) rfl rfl
   ·exact akv (aaA bQ rfl) (.inr rfl) a4 a5.1 rfl rfl ⟨rfl,rfl,rfl⟩
  ·rename_i hs;rw[hs];dsimp only;unfold th;refine .q (aaA bQ rfl) (.inr rfl) ?_;dsimp only;split
   ·exact⟨rfl,rfl,by simp[aK3,Wk.stop]⟩
   ·exact⟨rfl,rfl,by simp[aK3,Wk.go]⟩
  ·rename_i hs;rw[hs];dsimp only;unfold xp;split
   ·rename_i hi;exact aep (aaA bQ rfl) (.inr rfl) a4 (hc hi) rfl rfl
   ·exact .q (r:=(G.tick W.id,_)) (aaA bQ rfl) (.inr rfl) ⟨rfl,rfl,by simp[aK3,Wk.go]⟩
  ·exact a5.elim
 ·exact .q (r:=(G.tick W.id,_)) (aaA bQ rfl) (.inr rfl) ⟨rfl,rfl,aaA (m:= .looking) bQ rfl⟩
def axc(o:aK3 W)(c:rC P G W)(h1:W1.stack=W.stack)(h2:W1.back=W.back)(h3:W1.again=W.again)(h4:W1.id=W.id):aK7 l P ro G W (again l G W1 t):=by
 unfold again;obtain⟨y,e,_⟩|⟨k,e,_⟩:=c.cases
 ·rw[h3,e];dsimp only;unfold Gi;refine .q o (.inr (by rw[h4])) ⟨h1,h2,by simp[aK3,Wk.looks]⟩
 ·rw[h3,e];exact .q o (.inl rfl) ⟨h1,h2,by simp[aK3,shut,Wk.drain]⟩
def arP(c:Cx l P bw ro G i W)(bQ:W.cT= .m .joined):aK7 l P ro G W (joined l P G W W.tp (G.tk W.tp) (G.tk (W.target.getD 0))):=by
 have ct:=c.ct;unfold cD at ct;rw[bQ]at ct;dsimp only at ct;obtain⟨a1,a2,a3,a4⟩:=ct;obtain⟨y,h1,h2,h3⟩|⟨k,h1,_⟩:=a1.cases;rotate_left
 ·rw[h1]at a2;cases a2
 obtain⟨b1,b2,b3,b4⟩:=h3;have hy:W.target.getD 0=y:=by rw[h2];rfl
 rw[hy]at a3 ⊢;unfold joined;dsimp only;split
 ·exact .f (by rw[bQ];simp) (.inl rfl) e7 ⟨rfl,rfl,rfl,rfl,rfl⟩
 rename_i hf;have e0:(if W.kind=4 then(0:Int)else G.M.get ((G.tk y).jI+1))=if G.K y=4 then 0 else G.V y:=by rw[a3];rfl
 rw[e0,a3];have hq:aK2 ro W.id G.M (if G.K y=4 then G else G.tick W.id).M:=by split;exact .aet;exact .acN
 have e1:(if G.K y=4 then G else G.tick W.id)={G with M:=(if G.K y=4 then G else G.tick W.id).M}:=by split<;>rfl
 rw[a3]at a4;rw[e1];cases hb:(di (G.tk W.tp).f (bz P (G.tk W.tp).f) (G.K y) (if G.K y=4 then 0 else G.V y)).2.2 with
 |true=>
  rw[if_pos rfl];exact .aeR a1.ne b1 af (.bad b2 b3 b4 a4 hb) hq (acf.of rfl rfl) (aaA bQ rfl)
 |false=>
  rw[if_neg e7];exact .aeR a1.ne b1 af (.join b2 b3 b4 a4 hb) hq ⟨rfl,rfl,by simp[aK3,Wk.go]⟩ (aaA bQ rfl)
def axd(c:Cx l P bw ro G i W)(bQ:W.cT= .m .stops):aK7 l P ro G W (stops l G W W.tp (G.tk W.tp) G.vJ G.V8):=by
 have ct:=c.ct;unfold cD at ct;rw[bQ]at ct;dsimp only at ct;obtain⟨a1,a2,a3⟩:=ct;have Vb:∀W':Wk,W'.cT=W.cT→aK3 W':=λW' e=>aaA (m:= .stops) (e.trans bQ) rfl;unfold stops;split
 ·refine .quiet (D:=G.D) (.sp c.ty (W.step.getD (jH.B7 0 2))) ?_ (aaA bQ rfl) (.inl rfl);dsimp only;split
  ·exact⟨rfl,rfl,Vb _ rfl⟩
  ·exact⟨rfl,rfl,Vb _ rfl⟩
 rename_i hb;have hb:W.blocked=false:=by simpa using hb
 split
 ·rename_i hr;have haw:=c.fl.SG hr;obtain⟨y,h1,h2,h3⟩|⟨k,h1,_⟩:=a1.cases;rotate_left
  ·rw[h1]at haw;cases haw
  have hy:W.target.getD 0=y:=by rw[h2];rfl
  have DK:y<G.ts.length:=h3.2.2.2;have hL:=(c.ty.qh DK).w;have hfu:G.V8 y=(G.tk y).jI:=by unfold Gl.V8 Gl.tk;rw[iH DK];rfl
  rw[hy,hfu];exact .quiet (D:=G.D) (.ad c.ty hL id) ⟨rfl,rfl,Vb _ rfl⟩ (aaA bQ rfl) (.inl rfl)
 unfold pG;split at a3
 ·rename_i e;rw[e];exact aep (aaA bQ rfl) (.inl rfl) a1.ne a3.2 rfl rfl
 ·rename_i y k e;rw[e];exact .q (aaA bQ rfl) (.inl rfl) ⟨rfl,rfl,by simp[aK3,Wk.HE]⟩
 ·rename_i y k e;rw[e];exact .q (aaA bQ rfl) (.inl rfl) ⟨rfl,rfl,by simp[aK3,Wk.HE]⟩
 ·rename_i e;rw[e];exact .q (aaA bQ rfl) (.inl rfl) ⟨rfl,rfl,by simp[aK3,Wk.go]⟩
 ·rename_i e;rw[e];exact .q (aaA bQ rfl) (.inl rfl) ⟨rfl,rfl,by simp[aK3,Wk.go]⟩
 ·rename_i e;have e0:=e;rw[e];have hm:=a1.hm;rw[a3]at hm;dsimp only;unfold qI;exact .unwind a1.ne bQ hm.1 hm.2 acf e0 apd
 ·exact a3.elim
def aib(c:Cx l P bw ro G i W)(hfr:∀y,y<G.ts.length→G.K y=0→OJ P G.ts.length (G.tk y)):aK7 l P ro G W (ZB l P G W bw):=by
 have ct:=c.ct;unfold ZB;dsimp only;cases bQ:W.cT with
 |m f=>
  unfold cD at ct;rw[bQ]at ct;cases f with
  |rest=>exact .q (aaA bQ rfl) (.inr rfl) ⟨rfl,rfl,by simp[aK3,rest,Wk.A6]⟩
  |pF=>
   dsimp only at ct ⊢;obtain⟨O,hO,_⟩:=ct;rw[hO];exact aF0 c bQ hO
  |looking=>
   dsimp only at ct ⊢;obtain⟨k,hk,_⟩:=ct;rw[hk];exact ao8 c bQ hk
  |tell=>
   have h:=arO (G:=G) (P:=P) ct;exact .quiet (D:=G.D) (.ad c.ty c.ty.told id) ⟨rfl,rfl,h⟩ (aaA bQ rfl) (.inl rfl)
  |others=>
   dsimp only at ct ⊢;unfold others;have hs:aK4 W (KR l {G.tick W.id with D:=G.D.tail} {W with left:=VU (G.D.headD 0) (xI W.id (l.sp.bits G.M) (G.M.get l.idle) l.wa.length)} (G.tk W.tp) bw).2∧(KR l {G.tick W.id with D:=G.D.tail} {W with left:=VU (G.D.headD 0) (xI W.id (l.sp.bits G.M) (G.M.get l.idle) l.wa.length)} (G.tk W.tp) bw).1={G.tick W.id with D:=G.D.tail}:=by
    unfold KR;split
    ·unfold alM;rcases ct.what with⟨_,_,_,a4⟩|⟨a1,_,_,a4⟩
     ·rw[if_pos (show W.none_=_ from a4)];exact⟨aku.of rfl rfl,rfl⟩
     ·rw[if_neg (by show¬W.none_=_;rw[show W.none_=_ from a4];simp)]
      exact⟨(aeu (P:=P) (G:={G.tick W.id with D:=G.D.tail}) (W:={W with left:=VU (G.D.headD 0) (xI W.id (l.sp.bits G.M) (G.M.get l.idle) l.wa.length)}) ⟨a1.ne,a1.hm,a1.tg⟩).of rfl rfl,rfl⟩
    ·exact⟨⟨rfl,rfl,by simp[aK3,Wk.A6]⟩,rfl⟩
   show Stp l P ro G W _ _;rw[hs.2];exact .quiet (M:=G.M.tick W.id) (D:=G.D.tail) .acN hs.1 (aaA bQ rfl) (.inr rfl)
  |xn=>
   dsimp only at ct ⊢;obtain⟨_,_,o,ho,_⟩:=ct;rw[ho];dsimp only;unfold xn;refine .quiet (D:=G.D) (.sp c.ty o) ?_ (aaA bQ rfl) (.inl rfl);dsimp only;split
   ·refine⟨rfl,rfl,?_⟩;unfold aK3;dsimp only;split<;>simp
   ·exact⟨rfl,rfl,aaA (m:= .xn) bQ rfl⟩
  |So=>exact .quiet (D:=G.D) (.ad c.ty c.ty.idle id) ⟨rfl,rfl,by simp[aK3,So]⟩ (aaA bQ rfl) (.inl rfl)
  |JA=>exact .quiet (D:=G.D) (.ad c.ty c.ty.idle id) ⟨rfl,rfl,by simp[aK3,JA]⟩ (aaA bQ rfl) (.inl rfl)
  |tE=>
   dsimp only at ct ⊢;have h:=arO (G:=G) (P:=P) ct.2;have hl:W.jq.toNat<G.ts.length:=af;unfold tE;rw[ay2];by_cases h0:G.M.get ((G.tk W.jq.toNat).jI+0)=0
   ·simp only[h0,decide_true,if_true];exact .jq bQ ⟨hl,by unfold Gl.K;rw[Int.add_zero]at h0;exact h0⟩
   ·simp only[h0,decide_false];have e:(G.M.cs W.id ((G.tk W.jq.toNat).jI+0) 0 1).1=G.M.tick W.id:=by unfold bJ.cs;rw[if_neg h0]
    rw[e];exact .q (r:=(G.tick W.id,_)) (aaA bQ rfl) (.inr rfl) ⟨rfl,rfl,h⟩
  |start=>
   dsimp only at ct ⊢;unfold OF;split
   ·exact .f (by rw[bQ];simp) (.inl rfl) e7 ⟨rfl,rfl,rfl,rfl,rfl⟩
   ·exact .start bQ ⟨rfl,rfl,rfl⟩
  |next=>
   dsimp only at ct ⊢;unfold V7;split
   ·exact .q (aaA bQ rfl) (.inl rfl) ⟨rfl,rfl,by simp[aK3,Wk.looks]⟩
   ·exact akv (aaA bQ rfl) (.inl rfl) ct.1 ct.2 rfl rfl ⟨rfl,rfl,rfl⟩
  |fork=>
   dsimp only at ct ⊢;unfold fork;split
   ·exact .f (by rw[bQ];simp) (.inl rfl) e7 ⟨rfl,rfl,rfl,rfl,rfl⟩
   split
   ·exact .f (by rw[bQ];simp) (.inl rfl) e7 ⟨rfl,rfl,rfl,rfl,rfl⟩
   rename_i hr;exact .fork ct.1 bQ ct.2.1 ct.2.2 (by simpa using hr)
  |xo=>
   dsimp only at ct ⊢;unfold KQ;dsimp only;split
   ·exact .f (by rw[bQ];simp) (.inl rfl) e7 ⟨rfl,rfl,rfl,rfl,rfl⟩
   split
   ·exact .f (by rw[bQ];simp) (.inl rfl) e7 ⟨rfl,rfl,rfl,rfl,rfl⟩
   rename_i hf hr;exact .xo ct.1 bQ ct.2.1 ct.2.2.1 af (by simpa using hr)
  |tF=>exact .tF ct.1 bQ ct.2.1
  |join=>
   dsimp only at ct ⊢;unfold join;dsimp only;unfold Gi;exact .q (aaA bQ rfl) (.inr rfl) ⟨rfl,rfl,by simp[aK3,Wk.looks]⟩
  |cJ=>exact .q (aaA bQ rfl) (.inr rfl) ⟨rfl,rfl,by simp[aK3,cJ]⟩
  |opens=>
   dsimp only at ct ⊢;by_cases h1:G.steps≥l.fuel
   ·unfold Go.Proofs.YthidhjhkmjjckaaGreatDoor.opens;dsimp only;rw[if_pos h1];exact .f (by rw[bQ];simp) (.inl rfl) e7 ⟨rfl,rfl,rfl,rfl,rfl⟩
   by_cases h2:wr ((G.nd (G.tk W.tp).kA.1).nest+1)>32
   ·unfold Go.Proofs.YthidhjhkmjjckaaGreatDoor.opens;dsimp only;rw[if_neg h1,if_pos h2];exact .f (by rw[bQ];simp) (.inl rfl) e7 ⟨rfl,rfl,rfl,rfl,rfl⟩
   by_cases h3:G.M.room 2=false
   ·unfold Go.Proofs.YthidhjhkmjjckaaGreatDoor.opens;dsimp only;rw[if_neg h1,if_neg h2,if_pos h3];exact .f (by rw[bQ];simp) (.inl rfl) e7 ⟨rfl,rfl,rfl,rfl,rfl⟩
   have e:Go.Proofs.YthidhjhkmjjckaaGreatDoor.opens l P G W W.tp (G.tk W.tp) (G.nd (G.tk W.tp).kA.1) (G.pk (G.tk W.tp).kA.1)=(aok P G W,W.go .next):=by unfold Go.Proofs.YthidhjhkmjjckaaGreatDoor.opens;dsimp only;rw[if_neg h1,if_neg h2,if_neg h3];rfl
   show Stp l P ro G W _ _;rw[e];exact .opens ct.1 bQ ct.2.1 ct.2.2 af (by simpa using h3) h2
  |close=>exact .q (aaA bQ rfl) (.inl rfl) ⟨rfl,rfl,by simp[aK3,close_,shut,Wk.drain]⟩
  |gL=>
   dsimp only at ct ⊢;by_cases h1:G.steps≥l.fuel
   ·unfold Go.Proofs.YthidhjhkmjjckaaGreatDoor.gL;dsimp only;rw[if_pos h1];exact .f (by rw[bQ];simp) (.inl rfl) e7 ⟨rfl,rfl,rfl,rfl,rfl⟩
   have e:Go.Proofs.YthidhjhkmjjckaaGreatDoor.gL l P G W W.tp (G.tk W.tp) (G.nd (G.tk W.tp).kA.1)=(atV P G W,W.go .next):=by unfold Go.Proofs.YthidhjhkmjjckaaGreatDoor.gL;dsimp only;rw[if_neg h1];rfl
   show Stp l P ro G W _ _;rw[e];exact .gL ct.1 bQ ct.2.1 ct.2.2 af
  |cancel=>
   dsimp only at ct ⊢;unfold Go.Proofs.YthidhjhkmjjckaaGreatDoor.cancel;split
   ·exact .f (by rw[bQ];simp) (.inl rfl) e7 ⟨rfl,rfl,rfl,rfl,rfl⟩
   rename_i hf;exact .cancel ct.1 bQ ct.2.1 ct.2.2 af
  |pass=>
   dsimp only at ct ⊢;unfold pass;split
   ·exact .f (by rw[bQ];simp) (.inl rfl) e7 ⟨rfl,rfl,rfl,rfl,rfl⟩
   rename_i hf;exact .aeR (M:=G.M) ct.1 ct.2.1 af (.pass ct.2.2) .aet ⟨rfl,rfl,by simp[aK3,Wk.go]⟩ (aaA bQ rfl)
  |leave=>
   dsimp only at ct ⊢;unfold leave;dsimp only;split
   ·exact .f (by rw[bQ];simp) (.inl rfl) e7 ⟨rfl,rfl,rfl,rfl,rfl⟩
   rename_i hf;exact .aeR (M:=G.M) ct.1 ct.2.1 af (.leave ct.2.2) .aet acf (aaA bQ rfl)
  |put=>
   dsimp only at ct ⊢;by_cases h4:(G.tk W.tp).kind=4
   ·have e:(Go.Proofs.YthidhjhkmjjckaaGreatDoor.put G W (G.tk W.tp)).1=G:=by unfold Go.Proofs.YthidhjhkmjjckaaGreatDoor.put;dsimp only;rw[if_pos h4]
    exact .q (aaA bQ rfl) (.inl e) ⟨rfl,rfl,by simp[aK3,Go.Proofs.YthidhjhkmjjckaaGreatDoor.put,Wk.go]⟩
   ·have e:(Go.Proofs.YthidhjhkmjjckaaGreatDoor.put G W (G.tk W.tp)).1=G.mem ((G.M.tick W.id).put ((G.tk W.tp).jI+1) (G.tk W.tp).v):=by unfold Go.Proofs.YthidhjhkmjjckaaGreatDoor.put;dsimp only;rw[if_neg h4]
    show Stp l P ro G W _ _;rw[e];exact .put ct.1 bQ ct.2.1 ct.2.2 h4
  |fin=>exact .fin ct.1 bQ ct.2.1 ct.2.2
  |asks=>exact .asks ct.1 bQ
  |gone=>
   dsimp only at ct ⊢;unfold Go.Proofs.YthidhjhkmjjckaaGreatDoor.gone;obtain⟨z,st,hs⟩:=List.exists_cons_of_ne_nil ct.1;have hb:=c.wt.bk;rw[hs]at hb;have h:=aFZ hb;refine .gone ct.1 bQ ct.2.1 ct.2.2 ?_ ?_
   ·dsimp only;split
    ·exact⟨rfl,rfl,by simp[aK3,Wk.JF]⟩
    ·exact⟨rfl,rfl,h⟩
   ·dsimp only;split
    ·exact aoq (m:= .tell) rfl e7 e7
    ·cases hbk:W.back with
     |nil=>rw[hbk]at hb;exact hb.elim
     |cons kb bs=>
      rw[hbk]at hb;exact aEm (G:=G) (P:=P) hb.2.1 rfl
  |asked=>
   dsimp only at ct ⊢;unfold asked;refine .q (aaA bQ rfl) (.inr rfl) ?_;dsimp only;split
   ·exact⟨rfl,rfl,by simp[aK3,Wk.stop]⟩
   split
   ·exact⟨rfl,rfl,by simp[aK3,Wk.drain]⟩
   ·exact⟨rfl,rfl,by simp[aK3,Wk.stop]⟩
  |joined=>exact arP c bQ
  |ul=>
   dsimp only at ct ⊢;unfold ul;dsimp only;split
   ·obtain⟨h1,h2⟩:=aew (G:=G.tick W.id) (W:=W) (t:=G.tk W.tp);exact .q (aaA bQ rfl) (.inr h2) h1
   ·exact .q (aaA bQ rfl) (.inr rfl) ⟨rfl,rfl,by simp[aK3,Wk.A6]⟩
  |rp=>exact .q (aaA bQ rfl) (.inr rfl) ⟨rfl,rfl,by simp[aK3,rp]⟩
  |sx=>
   dsimp only at ct ⊢;unfold sx;split
   ·exact .q (aaA bQ rfl) (.inr rfl) ⟨rfl,rfl,by simp[aK3,Wk.stop]⟩
   ·exact .q (aaA bQ rfl) (.inr rfl) ⟨rfl,rfl,by simp[aK3,vQ,Wk.search]⟩
  |register=>
   dsimp only at ct ⊢;unfold register;obtain⟨y,h1,h2,h3⟩|⟨k,h1,_⟩:=ct.1.cases;rotate_left
   ·have:=ct.2;rw[h1]at this;cases this
   have hy:W.target.getD 0=y:=by rw[h2];rfl
   rw[hy];have h:=ct.1.aK6;exact .quiet (D:=G.D) (.ad c.ty (c.ty.qh h3.2.2.2).w id) ⟨rfl,rfl,h⟩ (aaA bQ rfl) (.inl rfl)
  |block=>
   dsimp only at ct ⊢;obtain⟨ha,o,ho,_⟩:=ct;have h:=ha.aK6;rw[ho];dsimp only;unfold block;refine .quiet (D:=G.D) (.sp c.ty o) ?_ (aaA bQ rfl) (.inl rfl);dsimp only;split
   ·exact⟨rfl,rfl,h⟩
   ·exact⟨rfl,rfl,aaA (m:= .block) bQ rfl⟩
  |Io=>exact axc (aaA bQ rfl) ct rfl rfl rfl rfl
  |stops=>exact axd c bQ
  |cancelled=>exact ct.elim
  |vQ=>exact ct.elim
  |BQ=>exact ct.elim
  |y5=>exact ct.elim
  |nothing=>exact ct.elim
  |Uv=>exact ct.elim
  |AL=>exact ct.elim
 |aw y=>exact .q (by unfold aK3;rw[bQ];simp) (.inr rfl) ⟨rfl,rfl,by simp[aK3,Gi,Wk.looks]⟩
 |sh k=>exact .q (by unfold aK3;rw[bQ];simp) (.inl rfl) ⟨rfl,rfl,by simp[aK3,shut,Wk.drain]⟩
 |no=>exact .q (by unfold aK3;rw[bQ];simp) (.inl rfl) ⟨rfl,rfl,by unfold aK3;rw[bQ];simp⟩
 |any=>exact .q (by unfold aK3;rw[bQ];simp) (.inl rfl) ⟨rfl,rfl,by unfold aK3;rw[bQ];simp⟩
 |c f=>exact .q (by unfold aK3;rw[bQ];simp) (.inl rfl) ⟨rfl,rfl,by unfold aK3;rw[bQ];simp⟩
 |nx i=>exact .q (by unfold aK3;rw[bQ];simp) (.inl rfl) ⟨rfl,rfl,by unfold aK3;rw[bQ];simp⟩
 |V2 y k=>exact .q (by unfold aK3;rw[bQ];simp) (.inl rfl) ⟨rfl,rfl,by unfold aK3;rw[bQ];simp⟩
 |BR y k=>exact .q (by unfold aK3;rw[bQ];simp) (.inl rfl) ⟨rfl,rfl,by unfold aK3;rw[bQ];simp⟩
 |hl m z=>exact .q (by unfold aK3;rw[bQ];simp) (.inl rfl) ⟨rfl,rfl,by unfold aK3;rw[bQ];simp⟩
end
open Ko (ni CK)
def Gl.Fw(G:Gl)(wk s:Int):Gl:=G.mem (G.M.cs wk (G.nd s).at_ 0 1).1
def sK(wk:Int)(G:Gl):List Int→Gl
 |[]=>G
 |s::ids=>sK wk (G.Fw wk s) ids
def UX(l:Lc)(G:Gl)(ids:List Int):Gl:=if ids.length=0 then G else(sK l.wa.length G ids).mem ((sK l.wa.length G ids).M.ad l.wa.length l.told 1)
def ZD(l:Lc)(G:Gl)(n:Int):Gl×Bool:=if Ko.Sn G.time.1 n=true then(UX l {G with time:=(G.time.1+n,Ko.Oy G.time.2 (G.time.1+n))} (Ko.ids (Ko.ac4 G.time.2 (G.time.1+n))),true)else(G,false)
def da(G:Gl)(o:List (Int×Int)):List Int:=0::o.flatMap λp=>(G.tk p.1.toNat).scopes
def ZE(G:Gl)(s:Int):Bool:=match G.P[s.toNat]? with|some p=>p.2.2.2|none=>false
def ZF(l:Lc)(G:Gl)(o:List (Int×Int))(n:Int):Gl×Bool:=
 if 0≤n∧n<(da G o).length then(if ZE G ((da G o).getD n.toNat 0)then(G,false)else(UX l G [(da G o).getD n.toNat 0],true))else(G,false)
def SA(l:Lc)(P:List dB)(G:Gl)(Ws:List Wk)(o:List (Int×Int))(kind n:Int):(Gl×List Wk)×Bool:=
 if G.err≠0 then((G,Ws),false)
 else if kind=0 then ZC l P G Ws n
 else if kind=1 then(((ZD l G n).1,Ws),(ZD l G n).2)
 else if kind=2 then(if G.D.length<1024 then(({G with D:=G.D++[n]},Ws),true)else((G,Ws),false))
 else if kind=3 then(((ZF l G o n).1,Ws),(ZF l G o n).2)
 else((G,Ws),false)
variable{wk a:Int}{ids:List Int}
section
variable{w0 w:World}{L R:List HP}{l:Lc}{P:List dB}{aa:List Nat}{G:Gl}{Ws:List Wk}{n:Int}{gw:Nat}{W:Wk}{sp st sw:Sl}
def afz(wk:Int):∀(G:Gl) (a b:List Int),sK wk G (a++b)=sK wk (sK wk G a) b
 |G,[],b=>rfl
 |G,s::a,b=>afz wk (G.Fw wk s) a b
def aqh{o x:Int}:(M.cs wk a o x).1.steps.length=M.steps.length∧(M.cs wk a o x).1.cells.length=M.cells.length∧(M.cs wk a o x).1.size=M.size:=by
 unfold bJ.cs;split
 ·exact⟨by unfold bJ.put bJ.tick;simp,by unfold bJ.put bJ.tick;simp,rfl⟩
 ·exact⟨by unfold bJ.tick;simp,rfl,rfl⟩
def V9(wk:Int):∀(ids:List Int) (G:Gl),(sK wk G ids).M.steps.length=G.M.steps.length∧(sK wk G ids).M.cells.length=G.M.cells.length∧(sK wk G ids).M.size=G.M.size∧sK wk G ids=G.mem (sK wk G ids).M
 |[],G=>⟨rfl,rfl,rfl,rfl⟩
 |s::ids,G=>by
  obtain⟨h1,h2,h3,h4⟩:=V9 wk ids (G.Fw wk s);obtain⟨a,b,c⟩:=aqh;exact⟨h1.trans a,h2.trans b,h3.trans c,by show sK wk (G.Fw wk s) ids=_;rw[h4];rfl⟩
def IQ{M':bJ}(h1:M'.steps.length=M.steps.length)(h2:M'.cells.length=M.cells.length):M'.can wk a=M.can wk a:=by unfold bJ.can bJ.caller bJ.given;rw[h1,h2]
def an2{s:Sl}{k:Unit→ap}(h:St w0 w (bG 1 s (ints ids)::SL l aa G R sp st sw))(hs:∀x∈ids,nZ G.C x=some (G.nd x)∧G.M.can l.wa.length (G.nd x).at_=true)(ht:G.M.can l.wa.length l.told=true)
  (hk:∀w',St w0 w' (SL l aa (UX l G ids) R sp st sw)→k () w'):fB (some ⟨l.gs,0,none⟩) s w k:=by
 unfold fB CW;have vE:=qY (s:=s) h;have WA:=(h.own (sz:=1) (s:=s)).max;have hcp:=(h.own (sz:=1) (s:=s)).cap;have vK:(ints ids).length=ids.length:=by simp[ints]
 rw[vK]at vE;have hwn:sw.n=l.wa.length:=by have:=qY (s:=sw) h;rwa[List.length_map]at this
 refine cX<|bP (λ_ w=>St w0 w (bG 1 s (ints ids)::SL l aa (sK l.wa.length G ids) R sp st sw)) (λJ hJ=> ?_) ?_
 ·refine DN (G:=Nat) (λj i w=>i=(j:Int)∧j≤ids.length∧St w0 w (bG 1 s (ints ids)::SL l aa (sK l.wa.length G (ids.take j)) R sp st sw)) (λj=>ids.length - j) (g:=0) ⟨rfl,af,h⟩ ?_;clear h;rintro j i w ⟨rfl,hj,h⟩ C hC;by_cases hlt:j<ids.length
  ·refine bK (by simp;omega) ?_
   obtain⟨b1,b2,b3,b4⟩:=V9 (l.wa.length:Nat) (ids.take j) G;have hx:=hs (ids[j]'hlt) (List.getElem_mem _);refine vI h af (x:=ids[j]'hlt) (by simp[ints,hlt]) ?_
   refine dZ λw h=> ?_;have hC':nZ (sK (l.wa.length:Nat) G (ids.take j)).C (ids[j]'hlt)=some (G.nd (ids[j]'hlt)):=by rw[b4];exact hx.1
   rw[show((sw.n:Nat):Int)=((l.wa.length:Nat):Int) by rw[hwn]]
   refine as9 h hC' (by rw[IQ b1 b2];exact hx.2) λw h=> ?_
   refine cX<|hC (j+1) _ _ ⟨?_,af,?_⟩ af
   ·rw[kg ⟨af,af⟩];omega
   ·have e:ids.take (j+1)=ids.take j++[ids[j]'hlt]:=by rw[List.take_add_one,iH hlt];rfl
    rw[e,afz];have e2:sK (l.wa.length:Nat) (sK (l.wa.length:Nat) G (ids.take j)) [ids[j]'hlt]=(sK (l.wa.length:Nat) G (ids.take j)).mem ((sK (l.wa.length:Nat) G (ids.take j)).M.cs (l.wa.length:Nat) (G.nd (ids[j]'hlt)).at_ 0 1).1:=by
     show Gl.Fw _ _ _=_;unfold Gl.Fw;have:(sK (l.wa.length:Nat) G (ids.take j)).nd (ids[j]'hlt)=G.nd (ids[j]'hlt):=by unfold Gl.nd;rw[b4];rfl
     rw[this]
    rw[e2];exact h
  ·refine aU (by simp;omega) ?_
   have e:ids.take j=ids:=List.take_of_length_le af;rw[e]at h;exact hJ _ _ h
 clear h;rintro _ w h;unfold UX at hk;by_cases h0:ids.length=0
 ·rw[if_pos h0]at hk;refine aU (by simp;omega) ?_
  have e:ids=[]:=List.eq_nil_of_length_eq_zero h0;subst e;exact hk w h.drop
 ·rw[if_neg h0]at hk;refine bK (by simp;omega) ?_
  obtain⟨b1,b2,b3,b4⟩:=V9 (l.wa.length:Nat) ids G;refine dZ λw h=> ?_;rw[show((sw.n:Nat):Int)=((l.wa.length:Nat):Int) by rw[hwn]]
  refine anl h (by rw[IQ b1 b2];exact ht) λw h=> ?_
  refine cX ?_;have h:=h.drop;rw[show SL l aa ((sK (l.wa.length:Nat) G ids).mem ((sK (l.wa.length:Nat) G ids).M.ad (l.wa.length:Nat) l.told 1)) R sp st sw=SL l aa ((sK (l.wa.length:Nat) G ids).mem ((sK (l.wa.length:Nat) G ids).M.ad (l.wa.length:Nat) l.told 1)) R sp st sw from rfl]at hk;exact hk w h
end
structure Lm where
 base:Int
 spare:Int
 cells:Int
 fuel:Int
 deep:Int
 log:Int
structure Ad where
 gs:Nat
 gm:Nat
 gk:Nat
 gc:Nat
 gt:Nat
 gd:Nat
 ga:Nat
def Lm.n(m:Lm):Nat:=(m.base+m.spare).toNat
abbrev gJ(a:Ad)(ps:Sl)(m:Lm)(wa:List Nat):Lc:=⟨a.gs,a.gm,a.gk,a.gc,a.gt,a.gd,ps,m.base,m.spare,m.cells,m.fuel,m.deep,m.log,0,1,⟨4,m.base,m.spare⟩,wa⟩
def cs0(a:Ad)(ps:Sl)(m:Lm):List Value:=[.slice ps.a ps.n ps.c,.int .i64 m.base,.int .i64 m.spare,.int .i64 m.cells,.int .i64 m.fuel,.int .i64 m.deep,.int .i64 m.log,pt a.gm,pt a.gk,.pointer none,.slice (some ⟨a.ga,0,none⟩) 1 1,.slice none 0 0,.int .i64 0,.int .i64 0,.int .i64 0,.int .i64 0,.int .i64 0,pt a.gt,pt a.gd,.slice none 0 0,.int .i64 0,.int .i64 0]
def ml1(m:Lm):bJ:=((bJ.new m.cells m.n).tick m.n).grow 1
def ml2(m:Lm):bJ:=((ml1 m).tick m.n).grow 1
def ml3(m:Lm):bJ:=((ml2 m).tick m.n).grow 2
def ml4(m:Lm):bJ:=((ml3 m).tick m.n).grow 2
structure Lm.OK (m:Lm):Prop where
 base:1≤m.base∧m.base≤16
 spare:0≤m.spare∧m.spare≤16 - m.base
 cells:1≤m.cells∧m.cells≤1048576
 fuel:0≤m.fuel∧m.fuel≤1048576
 deep:1≤m.deep∧m.deep≤1000
 log:0≤m.log∧m.log≤8
variable{w':World}{g:Nat}
section
variable{w0 w:World}{L R:List HP}{a:Ad}{ps:Sl}{m:Lm}{gm:Nat}{f:HP→List HP}
def an3{w1:World}{L':List HP}{f':HP→List HP}{o j n:Nat}{cs cs':List Value}{z:Nat}{c:Prop}(h:St w0 w L)(h':St w1 w' L')[a:At L (au g) cs f][a':At L' (au g) cs' f'](e:(cs.drop (o+j+n)).take z=(cs'.drop (o+j+n)).take z)(hc:c):ai z (aY (aY ⟨g,o,none⟩ j) n) w w' c:=by rw[dg];exact asq h h' e hc
def avz{k:Option Addr×Int→ap}(h:St w0 w L)[a2:At L (bH gm) M f](hw:M.caller wk=true)(hM:M.OK)
  (hk:M.room 2=true→∀g w',St w0 w' (scp g [⟨-1,0,(M.cells.length:Nat)⟩]::f (bH gm ((M.tick wk).grow 2)))→k (some ⟨g,0,none⟩,0) w') (Hh:M.room 2=false→∀w',St w0 w' L→k (none,21) w'):uz (some ⟨gm,0,none⟩) wk w k:=by
 unfold uz Nq;refine aU rfl<|GU h hM (λ_ _ hr w h=> ?_) (λ_ _ hr=> ?_) λhn=>(hn ⟨hw,af⟩).elim
 ·refine aU rfl<|Jw rfl rfl<|aM h λga w h=>aM h λgg w h=> ?_;have h:=h.asS (g:=ga) (sz:=3) rfl af (by simp[Nd.cells,Value.oneCell'])
  refine hk hr gg w (ae6 (s:=⟨some ⟨ga,0,none⟩,1,1⟩) ?_);obtain⟨h1,F,⟨F1,F2,hx,hy,hz,e⟩,h3⟩:=h;obtain⟨F3,F4,h4,h5,h6,h7⟩:=hy;refine⟨h1,F,⟨F1,F2,hx,⟨F3,F4,⟨?_,?_⟩,h5,h6,h7⟩,hz,e⟩,h3⟩
  ·intro e' he;simp at he;rw[he];rfl
  ·simpa using h4
 ·refine bK rfl<|Hh hr w h
def ajN(hm:m.OK):(bJ.new m.cells m.n).OK∧(bJ.new m.cells m.n).caller m.n=true:=by
 obtain⟨h1,h2,h3,_⟩:=hm;refine⟨⟨h3,by show((0:Nat):Int)≤m.cells;omega⟩,?_⟩
 unfold bJ.caller bJ.new;simp;omega
def ahy{n:Int}(h:M.OK)(h0:0≤n)(hr:M.room n=true):((M.tick wk).grow n).OK:=by
 unfold bJ.room at hr;simp only[decide_eq_true_eq]at hr;have:=xQ (M:=M.tick wk) h0;have ht:(M.tick wk).cells.length=M.cells.length:=rfl;refine⟨h.size,?_⟩;show((((M.tick wk).grow n).cells.length:Nat):Int)≤M.size;rw[this,ht];omega
def G9{wk' n:Int}(h:M.caller wk=true):((M.tick wk').grow n).caller wk=true:=by
 unfold bJ.caller bJ.grow bJ.tick at*
 simpa using h
def ajO{k:Int→ap}(hm:m.OK)(h:St w0 w (au a.gs (cs0 a ps m)::bH a.gm (bJ.new m.cells m.n)::R))
  (h1:6≤m.cells→∀gc w',St w0 w' (scp gc [⟨-1,0,2⟩]::au a.gs ((gJ {a with gc:=gc} ps m []).cs ⟨some ⟨a.ga,0,none⟩,1,1⟩ ⟨none,0,0⟩ ⟨none,0,0⟩ 0 0)::bH a.gm (ml4 m)::R)→k 0 w')
  (h2:¬6≤m.cells→∀w' X Y,St w0 w' (X::Y::R)→k 21 w'):fC (some ⟨a.gs,0,none⟩) m.n w k:=by
 obtain⟨hM0,hc0⟩:=ajN hm;have hrm:∀(M:bJ) (z:Int),M.size=m.cells→(M.room z=true↔z+(M.cells.length:Nat)≤m.cells):=λM z e=>by unfold bJ.room;rw[e];simp;omega
 unfold fC vl;unfold cs0 at h;refine cX<|atb h hc0 hM0 (λhr w h=> ?_) λhr w h=> ?_;rotate_left
 ·have hno:¬6≤m.cells:=λq=>by have:=(hrm (bJ.new m.cells m.n) 1 rfl).2 (by show 1+((0:Nat):Int)≤_;omega);rw[hr]at this;cases this
  refine dZ λw h=>h2 hno _ _ _ h
 have hM1:=ahy (wk:=m.n) hM0 af hr;have Hi:=G9 (wk':=m.n) (n:=1) hc0;refine dZ λw h=>atc (M:=ml1 m) h Hi hM1 (λhr w h=> ?_) λhr w h=> ?_;rotate_left
 ·have hno:¬6≤m.cells:=λq=>by have:=(hrm (ml1 m) 1 rfl).2 (by show 1+((1:Nat):Int)≤_;omega);rw[hr]at this;cases this
  refine dZ λw h=>h2 hno _ _ _ h
 have hM2:=ahy (wk:=m.n) hM1 af hr;have hc2:=G9 (wk':=m.n) (n:=1) Hi;refine dZ λw h=>avz (M:=ml2 m) h hc2 hM2 (λhr gc w h=> ?_) λhr w h=> ?_;rotate_left
 ·have hno:¬6≤m.cells:=λq=>by have:=(hrm (ml2 m) 2 rfl).2 (by show 2+((2:Nat):Int)≤_;omega);rw[hr]at this;cases this
  refine dZ λw h=>h2 hno _ _ _ h
 have hM3:=ahy (wk:=m.n) hM2 af hr;have hc3:=G9 (wk':=m.n) (n:=2) hc2;refine dZ λw h=>atB (M:=ml3 m) h ⟨hm.base.1,hm.base.2,hm.spare.1,hm.spare.2⟩ hc3 hM3 (λhr w h=> ?_) λhr w h=> ?_;rotate_left
 ·have hno:¬6≤m.cells:=λq=>by have:=(hrm (ml3 m) 2 rfl).2 (by show 2+((4:Nat):Int)≤_;omega);rw[hr]at this;cases this
  refine dZ λw h=>h2 hno _ _ _ h.drop
 refine dZ λw h=> ?_;have anq:=(hrm (ml3 m) 2 rfl).1 hr;refine h1 (by have e:((ml3 m).cells.length:Nat)=4:=rfl;rw[e]at anq;omega) gc w ?_
 exact h
end
def Wa(id dq:Int):Wk:=⟨id,dq,⟨0,0⟩,[],[],.m .rest,none,.no,none,.no,none,[],false,.no,.no,.no,0,.no,none,0,false,false,.no,.no,0,.no,0,.no,0,.no⟩
def Lm.lg(m:Lm):Int:=if m.log<2 then m.log else 2
def Lm.one(m:Lm):Int:=3+EX m.lg
def oe(m:Lm):Nat→bJ
 |0=>ml4 m
 |v+1=>(oe m v).Jy m.n m.lg
def sC(m:Lm)(v:Nat):Int:=6+v*m.one
def JR(m:Lm)(v:Nat):List Wk:=(List.range v).map λi:Nat=>Wa i (sC m i)
variable{gw v:Nat}
section
variable{w0 w:World}{L R:List HP}{a:Ad}{ps:Sl}{m:Lm}{gm gc:Nat}{f:HP→List HP}
def Lm.adq(hm:m.OK):0≤m.lg∧m.lg≤m.log∧m.lg≤8:=by have:=hm.log;unfold Lm.lg;split<;>omega
def Lm.KS(hm:m.OK):4≤m.one∧m.one≤259:=by have:=m.adq hm;have:=acM this.1 this.2.2;unfold Lm.one;omega
def Te(hm:m.OK):∀v:Nat,6+v*m.one≤m.cells→(oe m v).OK∧(oe m v).caller m.n=true∧(((oe m v).cells.length:Nat):Int)=6+v*m.one∧(oe m v).size=m.cells∧(oe m v).steps.length=m.n+1
 |0,h=>by
  obtain⟨h1,h2⟩:=ajN hm;refine⟨⟨hm.cells,?_⟩,?_,?_,rfl,?_⟩
  ·show(((oe m 0).cells.length:Nat):Int)≤m.cells;have:(oe m 0).cells.length=6:=rfl;rw[this];omega
  ·exact G9 (G9 (G9 (G9 h2)))
  ·have:(oe m 0).cells.length=6:=rfl;rw[this];omega
  ·show(ml4 m).steps.length=_;unfold ml4 ml3 ml2 ml1 bJ.grow bJ.tick bJ.new;simp
 |v+1,h=>by
  have ho:=m.KS hm;have e1:((v+1:Nat):Int)*m.one=v*m.one+m.one:=by rw[Int.natCast_add,Int.add_mul];omega
  obtain⟨h1,h2,h3,h4,h5⟩:=Te hm v af;have hlen:(((oe m (v+1)).cells.length:Nat):Int)=6+((v+1:Nat):Int)*m.one:=by
   show(((oe m v).Jy m.n m.lg).cells.length:Nat)=(_:Int);unfold bJ.Jy;have:=xQ (M:=(oe m v).tick m.n) (n:=3+EX m.lg) (by unfold Lm.one at ho;omega)
   have e2:((oe m v).tick m.n).cells.length=(oe m v).cells.length:=rfl;have e3:(((((oe m v).tick m.n).grow (3+EX m.lg)).tick m.n).put (((oe m v).cells.length:Nat)+2) (Rg.word ⟨(((oe m v).cells.length:Nat):Int)+3,m.lg⟩)).cells.length=(((oe m v).tick m.n).grow (3+EX m.lg)).cells.length:=by unfold bJ.put bJ.tick;simp
   rw[e3,this,e2,h3,e1];unfold Lm.one;omega
  refine⟨⟨by show 1≤(oe m (v+1)).size∧_;exact⟨by show 1≤(oe m v).size;rw[h4];exact hm.cells.1,by show(oe m v).size≤_;rw[h4];exact hm.cells.2⟩,by rw[hlen];show _≤(oe m v).size;rw[h4];exact h⟩,?_,hlen,h4,?_⟩
  ·show((oe m v).Jy m.n m.lg).caller m.n=true;unfold bJ.Jy bJ.caller bJ.put bJ.grow bJ.tick;unfold bJ.caller at h2;simpa using h2
  ·show((oe m v).Jy m.n m.lg).steps.length=_;unfold bJ.Jy bJ.put bJ.grow bJ.tick;simpa using h5
def aCd{l:Lc}{gt:Nat}{v:Int}(h:St w0 w (au gw [pt l.gs,.int .i64 v,.int .i64 d,.int .i64 l.log,pt gt,.slice none 0 0,.slice none 0 0,mt gw .rest,.pointer none,.nilFunc,.pointer none,.nilFunc,.pointer none,.slice none 0 0,.bool false,.nilFunc,.nilFunc,.nilFunc,.int .i64 0,.nilFunc,.pointer none,.int .i64 0,.bool false,.bool false,.nilFunc,.nilFunc,.int .i64 0,.nilFunc,.int .i64 0,.nilFunc,.int .i64 0,.nilFunc]::au gt (Wt.cells l.told ⟨0,0⟩)::R)):St w0 w (pH l [] (gw,Wa v d)::R):=by
 refine ac8 (q:=⟨gt,⟨none,0,0⟩,[],⟨none,0,0⟩,[],mt gw .rest,0,.nilFunc,0,.nilFunc,0,⟨none,0,0⟩,.nilFunc,.nilFunc,.nilFunc,.nilFunc,none,.nilFunc,.nilFunc,.nilFunc,.nilFunc,.nilFunc,[]⟩) ?_ ?_
 ·exact⟨.nil,.nil,rfl,rfl,rfl,rfl,rfl,rfl,rfl,rfl,rfl,rfl,rfl,rfl,rfl⟩
 ·have h:=aup h;have h:St w0 w (l6 (λo:jH=>au 0 (o.cells l.sp 0)) (Wa v d).step::_):=St.shut h;have h:St w0 w (l6 (λk:Lk=>au 0 (k.cells l.gc)) (Wa v d).look::_):=St.shut h;have h:St w0 w (l6 (uh 0) (Wa v d).op::_):=St.shut h;have h:=((h.DJ 1).DJ 1).DJ 1;exact St.auI (A:=[_,_,_,_,_,_,_]) (B:=[_,_]) h
def aEI:ET Tryz.prog 105 1 8 (.pointer none):=⟨aZ,aZ⟩
abbrev LW(a:Ad)(ps:Sl)(m:Lm)(sw:Sl)(wa:List Nat)(M:bJ)(v:Nat)(R:List HP):List HP:=au a.gs ((gJ a ps m []).cs ⟨some ⟨a.ga,0,none⟩,1,1⟩ ⟨none,0,0⟩ sw 0 0)::bH a.gm M::bG 1 sw (wa.map pt)::jO (pH (gJ a ps m []) []) (wa.zip (JR m v))::R
def aqj:JR m (v+1)=JR m v++[Wa v (sC m v)]:=by unfold JR;rw[List.range_succ,List.map_append];rfl
def aex{k:Int→ap}(hm:m.OK)(h:St w0 w (LW a ps m ⟨none,0,0⟩ [] (ml4 m) 0 R))(h6:6≤m.cells)
  (h1:6+m.n*m.one≤m.cells→∀sw wa w',wa.length=m.n→St w0 w' (LW a ps m sw wa (oe m m.n) m.n R)→k 0 w')
  (h2:¬6+m.n*m.one≤m.cells→∀w' L',St w0 w' (L'++R)→k 21 w'):eC (some ⟨a.gs,0,none⟩) m.n w k:=by
 have aEJ:m.n≤16:=by have:=hm.base;have:=hm.spare;unfold Lm.n;omega
 have ZG:=m.adq hm;have hone:=m.KS hm;have hlo:abb m.lg m.log=true:=by unfold abb;simp only[decide_eq_true_eq];exact⟨ZG.1,ZG.2.1,hm.log.2⟩
 unfold eC tM;refine DN (λq i w=>i=((q.1:Nat):Int)∧q.1≤m.n∧q.2.2.length=q.1∧6+q.1*m.one≤m.cells∧St w0 w (LW a ps m q.2.1 q.2.2 (oe m q.1) q.1 R)) (λq=>m.n - q.1) (g:=(0,⟨none,0,0⟩,[])) ⟨rfl,af,rfl,af,h⟩ ?_;clear h;rintro⟨v,sw,wa⟩ i w ⟨hi,hv,A7,hc,h⟩ C hC;dsimp only at hi hv A7 hc h;subst hi;obtain⟨hMo,hMc,hMl,hMs,hMt⟩:=Te hm v hc;by_cases hlt:v<m.n;rotate_left
 ·have e:v=m.n:=af;subst e;exact aU bf (h1 hc sw wa w A7 h)
 refine bK (by simp;omega) ?_
 have hroom:(oe m v).room (3+EX m.lg)=true↔6+((v+1:Nat):Int)*m.one≤m.cells:=by
  have e1:((v+1:Nat):Int)*m.one=v*m.one+m.one:=by rw[Int.natCast_add,Int.add_mul];omega
  unfold bJ.room;rw[hMs,hMl,e1];unfold Lm.one;simp only[decide_eq_true_eq];omega
 have hmono:∀z:Nat,z≤m.n→6+m.n*m.one≤m.cells→6+z*m.one≤m.cells:=λz hz hq=>by
  have:(z:Int)*m.one≤m.n*m.one:=Int.mul_le_mul_of_nonneg_right af af;omega
 refine bP (fun(x:Addr×Int) w=>(x.2=0∧6+((v+1:Nat):Int)*m.one≤m.cells∧∃g,x.1=⟨g,0,none⟩∧St w0 w (au g [.int .i64 (sC m v),.int .i64 m.log]::LW a ps m sw wa (oe m (v+1)) v R))∨(x.2=21∧¬6+m.n*m.one≤m.cells∧∃L',St w0 w (L'++R))) (λJ hJ=> ?_) ?_
 ·with_reducible repeat' (first|refine bc ?_|refine cH h λw h=> ?_|refine Tn h ?_|refine Z7 h ?_|refine aM h λgx w h=> ?_|refine nP h ?_|refine y8 ?_ ?_|refine an3 (by assumption) h vM ?_|fail)
  ·refine anr (M:=oe m v) (log:=m.lg) (most:=m.log) h hMo hMc hlo (λhr w h=> ?_) λhr w h=> ?_
   ·with_reducible repeat' (first|refine QU h λw h=> ?_|refine aM h λgx w h=> ?_|refine nP h ?_|refine an3 (by assumption) h vM ?_|fail)
    rw[hMl]at h;exact hJ _ _ (.inl ⟨rfl,hroom.1 hr,_,rfl,h⟩)
   ·with_reducible repeat' (first|refine QU h λw h=> ?_|refine aM h λgx w h=> ?_|refine nP h ?_|refine an3 (by assumption) h vM ?_|fail)
    exact hJ _ _ (.inr ⟨rfl,λq=>by rw[hroom.2 (hmono _ af q)]at hr;(cases hr),[_,_,_,_,_],h⟩)
  ·refine anr (M:=oe m v) (log:=m.lg) (most:=m.log) h hMo hMc hlo (λhr w h=> ?_) λhr w h=> ?_
   ·with_reducible repeat' (first|refine QU h λw h=> ?_|fail)
    rw[hMl]at h;exact hJ _ _ (.inl ⟨rfl,hroom.1 hr,_,rfl,h⟩)
   ·with_reducible repeat' (first|refine QU h λw h=> ?_|fail)
    exact hJ _ _ (.inr ⟨rfl,λq=>by rw[hroom.2 (hmono _ af q)]at hr;(cases hr),[_,_,_,_,_],h⟩)
 clear h;rintro⟨ad,e⟩ w hx;dsimp only at hx;rcases hx with⟨rfl,Hi,g,rfl,h⟩|⟨rfl,hno,L',h⟩;rotate_left
 ·exact bK rfl (h2 hno w L' h)
 refine aU rfl ?_;refine dZ λw h=> ?_;refine axJ h λgt w h=> ?_;with_reducible repeat' (first|refine sR h ?_|fail)
 refine qL (#[pt a.gs,.int .i64 v,.int .i64 (sC m v),.int .i64 m.log,.pointer none,.slice none 0 0,.slice none 0 0,.nilFunc,.pointer none,.nilFunc,.pointer none,.nilFunc,.pointer none,.slice none 0 0,.bool false,.nilFunc,.nilFunc,.nilFunc,.int .i64 0,.nilFunc,.pointer none,.int .i64 0,.bool false,.bool false,.nilFunc,.nilFunc,.int .i64 0,.nilFunc,.int .i64 0,.nilFunc,.int .i64 0,.nilFunc]) rfl aZ ?_;with_reducible repeat' (first|refine bc ?_|refine u_S h ?_|refine Hq h λw h=> ?_|refine aM h λgx w h=> ?_|fail)
 obtain⟨gn,j7⟩:∃n,n=gx:=⟨_,rfl⟩;subst j7;refine cX ?_;obtain⟨gw,j7⟩:∃n,n=gx:=⟨_,rfl⟩;subst j7;have hwl:(wa.map pt).length≤16:=by rw[List.length_map,A7];omega
 refine I9 (s:=sw) h aEI aZ rfl af af λs2 w h CD=> ?_;refine dZ λw h=> ?_;have h:=h.zm 0;have h:=h.zm 2;have h:=al0 (Y:=[pt a.gs,.int .i64 v,.int .i64 (sC m v),.int .i64 m.log,pt gt,.slice none 0 0,.slice none 0 0,mt gw .rest,.pointer none,.nilFunc,.pointer none,.nilFunc,.pointer none,.slice none 0 0,.bool false,.nilFunc,.nilFunc,.nilFunc,.int .i64 0,.nilFunc,.pointer none,.int .i64 0,.bool false,.bool false,.nilFunc,.nilFunc,.int .i64 0,.nilFunc,.int .i64 0,.nilFunc,.int .i64 0,.nilFunc]) h aZ;have h:=aCd (l:=gJ a ps m []) h;have h:=al0 (Y:=(gJ a ps m []).cs ⟨some ⟨a.ga,0,none⟩,1,1⟩ ⟨none,0,0⟩ s2 0 0) h.swap aZ;have h:=h.fr 4;have h:=h.fr 2;have h:=QV h;have h:=h.bk 3;have e1:wa.zip (JR m v)++[(gw,Wa v (sC m v))]=(wa++[gw]).zip (JR m (v+1)):=by
  rw[aqj,List.zip_append (by rw[A7];unfold JR;simp)];rfl
 have e2:wa.map pt++[.pointer (some ⟨gw,0,none⟩)]=(wa++[gw]).map pt:=by simp
 rw[e1,e2]at h;refine hC (v+1,s2,wa++[gw]) _ _ ⟨?_,by dsimp only;omega,by simp[A7],Hi,h⟩ (by dsimp only;omega)
 rw[kg ⟨af,af⟩];rfl
end
open Fr (nF)
variable{most:Int}
section
variable{w0 w:World}{L R:List HP}{a:Ad}{ps:Sl}{m:Lm}{gm gc go:Nat}{f:HP→List HP}
def ZI(m:Lm)(v:Nat):sC m (v+1)=sC m v+m.one:=by
 unfold sC;have:((v+1:Nat):Int)*m.one=v*m.one+m.one:=by rw[Int.natCast_add,Int.add_mul];omega
 rw[this];omega
def Yg(m:Lm)(h1:0≤m.one):∀{i v:Nat},i≤v→sC m i≤sC m v:=fun{i v} h=>by
 unfold sC;have:(i:Int)*m.one≤v*m.one:=Int.mul_le_mul_of_nonneg_right af h1;omega
def ame{lg a':Int}(hl:0≤lg∧lg≤8)(h0:0≤a'):(M.Jy wk lg).get a'=if a'=(M.cells.length:Nat)+2 then Rg.word ⟨(M.cells.length:Nat)+3,lg⟩else if a'<(M.cells.length:Nat)then M.get a' else 0:=by
 have hp:=acM hl.1 hl.2;have hg:=xQ (M:=M.tick wk) (n:=3+EX lg) af;have ht:(M.tick wk).cells.length=M.cells.length:=rfl;unfold bJ.Jy;rw[MK af (by show _<((((M.tick wk).grow (3+EX lg)).cells.length:Nat):Int);omega) h0]
 split
 ·rfl
 ·split
  ·rename_i h1 h2;show((M.tick wk).grow (3+EX lg)).get a'=_;rw[xR h0 (by rw[ht];exact h2)];rfl
  ·rename_i h1 h2;show((M.tick wk).grow (3+EX lg)).get a'=_;exact Yf (by rw[ht];omega)
def avF(a':Int):(ml4 m).get a'=0:=by
 have e:(ml4 m).cells=[0,0,0,0,0,0]:=rfl;unfold bJ.get;rw[e];generalize a'.toNat=j;match j with
 |0=>rfl
 |1=>rfl
 |2=>rfl
 |3=>rfl
 |4=>rfl
 |5=>rfl
 |j+6=>rfl
def adu(hm:m.OK):∀v:Nat,6+v*m.one≤m.cells→(∀a':Int,0≤a'→a'<sC m v→(∀i:Nat,i<v→a'≠sC m i+2)→(oe m v).get a'=0)∧(∀i:Nat,i<v→(oe m v).get (sC m i+2)=Rg.word ⟨sC m i+3,m.lg⟩)
 |0,_=>⟨λa' _ _ _=>avF a',λi hi=>by omega⟩
 |v+1,h=>by
  have ho:=m.KS hm;have ZG:=m.adq hm;have e1:((v+1:Nat):Int)*m.one=v*m.one+m.one:=by rw[Int.natCast_add,Int.add_mul];omega
  obtain⟨h1,h2⟩:=adu hm v af;obtain⟨_,_,hl,_⟩:=Te hm v af;have hl:(((oe m v).cells.length:Nat):Int)=sC m v:=hl;have hb:∀a':Int,0≤a'→(oe m (v+1)).get a'=if a'=sC m v+2 then Rg.word ⟨sC m v+3,m.lg⟩else if a'<sC m v then(oe m v).get a' else 0:=λa' h0=>by
   show((oe m v).Jy m.n m.lg).get a'=_;rw[ame ⟨ZG.1,ZG.2.2⟩ h0,hl]
  have WL:∀i:Nat,6≤sC m i:=λi=>by have:=Yg m af (Nat.zero_le i);unfold sC at this ⊢;simp at this ⊢;omega
  refine⟨λa' h0 hlt hne=> ?_,λi hi=> ?_⟩
  ·rw[hb a' h0,if_neg (hne v af)];split
   ·rename_i q;exact h1 a' h0 q λi hi=>hne i af
   ·rfl
  ·rw[hb _ (by have:=WL i;omega)]
   by_cases e:i=v
   ·subst e;rw[if_pos rfl]
   ·have h3:=Yg m af (show i+1≤v by omega)
    rw[ZI]at h3;rw[if_neg af,if_pos af];exact h2 i af
structure aAo (M:bJ) (wk d:Int) (R:Rg):Prop where
 c0:M.can wk d=true
 c1:M.can wk (d+1)=true
 c2:M.can wk (d+2)=true
 c3:M.can wk (R.place 0)=true
 t:M.get d=0
 b:M.get (d+1)=0
 r:o6 M d=R
 rr:R.right=true
 ne:d+2≠R.place 0
def avG(M:bJ)(wk d:Int)(R:Rg):bJ:=((((((M.tick wk).tick wk).tick wk).tick wk).put (R.place 0) 0).tick wk).put (d+1) 1
abbrev pO(d most:Int)(R:Rg)(next:Nat)(how:Int):bu:=⟨d,most,0,0,R,0,false,Rg.zero,none,next,how,0,0⟩
def ajY{R':Rg}(h:aAo M wk d R'):(bu.B7 d most 0 0).step M wk=(pO d most Rg.zero 1 0,M.tick wk)∧(pO d most Rg.zero 1 0).step (M.tick wk) wk=(pO d most Rg.zero 2 0,(M.tick wk).tick wk)∧(pO d most Rg.zero 2 0).step ((M.tick wk).tick wk) wk=(pO d most R' 6 0,((M.tick wk).tick wk).tick wk)∧
  (pO d most R' 6 0).step (((M.tick wk).tick wk).tick wk) wk=(pO d most R' 7 0,((((M.tick wk).tick wk).tick wk).tick wk).put (R'.place 0) 0)∧(pO d most R' 7 0).step (((((M.tick wk).tick wk).tick wk).tick wk).put (R'.place 0) 0) wk=(pO d most R' 7 1,avG M wk d R'):=by
 obtain⟨c0,c1,c2,c3,t,b,r,rr,ne⟩:=h;have key:∀M':bJ,M'.steps.length=M.steps.length→M'.cells.length=M.cells.length→(M'.get (d+2)=M.get (d+2))→∀O:bu,O.at_=d→LC M' wk d O:=λM' h1 h2 h3 O ho=>⟨ho,by rw[IQ h1 h2];exact c0,by rw[IQ h1 h2];exact c1,by rw[IQ h1 h2];exact c2,by unfold o6;rw[h3];unfold o6 at r;rw[r];exact rr⟩
 have hs:∀M':bJ,(M'.tick wk).steps.length=M'.steps.length:=λM'=>by unfold bJ.tick;simp
 have hb0:wr ((0:Int) - 0)=0:=e7;have hp:(0:Int)<R'.size:=by unfold Rg.size;rw[if_pos rr];have:=(Rg.F5 rr).2.2.2.2.1;omega
 refine⟨?_,?_,?_,?_,?_⟩
 ·rw[st0 (key M rfl rfl rfl (bu.B7 d most 0 0) rfl) rfl rfl,b];rfl
 ·rw[st1 (key (M.tick wk) (hs _) rfl rfl (pO d most Rg.zero 1 0) rfl) rfl rfl,tT,t]
 ·rw[Zg (key ((M.tick wk).tick wk) (by rw[hs,hs]) rfl rfl (pO d most Rg.zero 2 0) rfl) rfl rfl]
  have e:o6 ((M.tick wk).tick wk) d=R':=r;rw[e,hb0,if_pos hp]
 ·have hc:(((M.tick wk).tick wk).tick wk).can wk (R'.place 0)=true:=(IQ (M':=((M.tick wk).tick wk).tick wk) (M:=M) (by rw[hs,hs,hs]) rfl).trans c3
  rw[st6 (O:=pO d most R' 6 0) rfl rfl hc]
 ·have h2:(((((M.tick wk).tick wk).tick wk).tick wk).put (R'.place 0) 0).get (d+2)=M.get (d+2):=by
   have g3:=pe c3;have g2:=pe c2;unfold bJ.given at g3 g2;simp only[decide_eq_true_eq]at g3 g2;rw[MK (M:=(((M.tick wk).tick wk).tick wk).tick wk) g3.1 g3.2 g2.1,if_neg ne];rfl
  rw[st7 (key _ (by rw[amc,hs,hs,hs,hs]) (by rw[ajU];rfl) h2 (pO d most R' 7 0) rfl) rfl rfl]
  rfl
end
def g0(m:Lm):Gl:=⟨oe m m.n,[],[⟨-1,0,2⟩],[(-1,0,0,false)],[],(0,[]),[],0,0⟩
def g1(m:Lm):Gl:={g0 m with M:=((oe m m.n).tick m.n).grow 2,C:=[⟨-1,0,2⟩,⟨0,1,((oe m m.n).cells.length:Nat)⟩],P:=[(-1,0,0,false),(-2,0,0,false)]}
def g2(m:Lm):Gl:=(g1 m).more m.n (-1) 0 1 nF
def g3(m:Lm):Gl:=(g2 m).mem ((g2 m).M.ad m.n 3 1)
def eY(m:Lm):Gl:=(g3 m).mem (avG (g3 m).M m.n 6 ⟨9,m.lg⟩)
def Bd(m:Lm):List Wk:=JR m m.n
def Lm.total(m:Lm):Int:=11+m.n*m.one
variable{wa:List Nat}
section
variable{w0 w:World}{L R:List HP}{a:Ad}{ps:Sl}{m:Lm}{gm gc go:Nat}{f:HP→List HP}
def frI:(Fr.nF).length=19:=rfl
structure aCj (m:Lm):Prop where
 n1:1≤m.n
 ok0:(oe m m.n).OK
 c0:(oe m m.n).caller m.n=true
 len:(((oe m m.n).cells.length:Nat):Int)=6+m.n*m.one
 size:(oe m m.n).size=m.cells
 ok1:(g1 m).M.OK
 c1:(g1 m).M.caller m.n=true
 ok2:(g2 m).M.OK
 c2:(g2 m).M.can m.n 3=true
 ok3:(g3 m).M.OK
 nd:aAo (g3 m).M m.n 6 ⟨9,m.lg⟩
def an5{a x:Int}:(M.ad wk a x).steps.length=M.steps.length∧(M.ad wk a x).cells.length=M.cells.length:=by
 unfold bJ.ad bJ.put bJ.tick;simp
def Tg{n:Int}:((M.tick wk).grow n).steps.length=M.steps.length:=by unfold bJ.grow bJ.tick;simp
def ahC(hm:m.OK)(h:m.total≤m.cells):aCj m:=by
 unfold Lm.total at h;have ho:=m.KS hm;have ZG:=m.adq hm;have uj:1≤m.n:=by have:=hm.base;have:=hm.spare;unfold Lm.n;omega
 have hmul:m.one≤m.n*m.one:=by have:(1:Int)*m.one≤m.n*m.one:=Int.mul_le_mul_of_nonneg_right af af;omega
 obtain⟨h1,h2,h3,h4,h5⟩:=Te hm m.n af;have Y5:=acM ZG.1 ZG.2.2;have hone:m.one=3+EX m.lg:=rfl;have l1:(((g1 m).M.cells.length:Nat):Int)=8+m.n*m.one:=by
  have:=xQ (M:=(oe m m.n).tick m.n) (n:=2) af;show((((oe m m.n).tick m.n).grow 2).cells.length:Nat)=(_:Int);rw[this];show(((oe m m.n).cells.length:Nat):Int)+2=_;rw[h3];omega
 have l2:(((g2 m).M.cells.length:Nat):Int)=11+m.n*m.one:=by
  have:=xQ (M:=(g1 m).M.tick m.n) (n:=3) af;show((((g1 m).M.tick m.n).grow 3).cells.length:Nat)=(_:Int);rw[this];show(((g1 m).M.cells.length:Nat):Int)+3=_;rw[l1];omega
 have l3:(((g3 m).M.cells.length:Nat):Int)=11+m.n*m.one:=by
  have:=(an5 (M:=(g2 m).M) (wk:=m.n) (a:=3) (x:=1)).2;show((((g2 m).M.ad m.n 3 1).cells.length:Nat):Int)=_;rw[this,l2]
 have s1:(g1 m).M.steps.length=m.n+1:=by rw[←h5];exact Tg
 have s2:(g2 m).M.steps.length=m.n+1:=by rw[←s1];exact Tg
 have s3:(g3 m).M.steps.length=m.n+1:=by rw[←s2];exact an5.1
 have c3:(g3 m).M.caller m.n=true:=Ga s3 af af;have hcan:∀x:Int,0≤x→x<11+m.n*m.one→(g3 m).M.can m.n x=true:=λx h0 h1=>by
  unfold bJ.can bJ.given;rw[c3,l3];simp only[Bool.true_and,decide_eq_true_eq];exact⟨h0,h1⟩
 have hz:(g1 m).M.size=m.cells∧(g2 m).M.size=m.cells∧(g3 m).M.size=m.cells:=⟨h4,h4,h4⟩;have hsz:=hm.cells;have tq:∀x:Int,0≤x→x<6+m.n*m.one→x≠3→(g3 m).M.get x=(oe m m.n).get x:=λx h0 hx hne=>by
  show((g2 m).M.ad m.n 3 1).get x=_;rw[ay3 af (by rw[l2];omega) h0,if_neg hne]
  show(((g1 m).M.tick m.n).grow 3).get x=_;rw[xR h0 (by show x<(((g1 m).M.cells.length:Nat):Int);rw[l1];omega),tT]
  show(((oe m m.n).tick m.n).grow 2).get x=_;rw[xR h0 (by show x<(((oe m m.n).cells.length:Nat):Int);rw[h3];omega),tT]
 obtain⟨z1,z2⟩:=adu hm m.n af;have WL:sC m 0=6:=by unfold sC;simp
 have hdn:sC m m.n=6+m.n*m.one:=rfl;have hne:∀x:Int,x<8→∀i:Nat,i<m.n→x≠sC m i+2:=λx hx i _=>by have:=Yg m af (Nat.zero_le i);rw[WL]at this;omega
 have w0':(g3 m).M.get 8=Rg.word ⟨9,m.lg⟩:=by
  rw[tq 8 af af af];have:=z2 0 af;rw[WL]at this;exact this
 have hright:(Rg.mk 9 m.lg).right=true:=by
  unfold Rg.right;simp only[decide_eq_true_eq];unfold EX at Y5;unfold Rg.pw;dsimp only;omega
 have BU:(Rg.mk 9 m.lg).place 0=9:=by unfold Rg.place;rw[if_pos hright];simp
 refine⟨uj,h1,h2,h3,h4,⟨by rw[hz.1];exact hsz,by rw[l1,hz.1];omega⟩,Ga s1 af af,⟨by rw[hz.2.1];exact hsz,by rw[l2,hz.2.1];omega⟩,?_,⟨by rw[hz.2.2];exact hsz,by rw[l3,hz.2.2];omega⟩,⟨hcan 6 af af,hcan 7 af af,hcan 8 af af,by rw[BU];exact hcan 9 af af,?_,?_,?_,hright,by rw[BU];decide⟩⟩
 ·have:=Ga s2 (wk:=m.n) af af;unfold bJ.can bJ.given;rw[this,l2];simp only[Bool.true_and,decide_eq_true_eq];omega
 ·rw[tq 6 af af af];exact z1 6 af (by rw[hdn];omega) (hne 6 af)
 ·show(g3 m).M.get 7=0;rw[tq 7 af af af];exact z1 7 af (by rw[hdn];omega) (hne 7 af)
 ·unfold o6;show Rg.of ((g3 m).M.get 8)=_;rw[w0'];exact ajW hright
def aqn(h:xH d):(bu.B7 d most 0 0).GX:=⟨λq=>by(cases q),λq=>by(cases q),by show 0≤19;omega,h⟩
def abj{R:Rg}{nx:Nat}{how:Int}(h:xH d)(h1:nx=1∨nx=2∨nx=6∨nx=7):(pO d most R nx how).GX:=⟨λq=>by dsimp only at q;omega,λq=>by dsimp only at q;omega,by dsimp only;omega,h⟩
def Cc(h:M.OK):(M.tick wk).OK:=⟨h.size,h.fit⟩
def ay6{a x:Int}(h:M.OK):(M.put a x).OK:=⟨h.size,by have:=h.fit;show((M.put a x).cells.length:Int)≤M.size;rw[ajU];exact this⟩
def amf{st sw sp:Sl}{k:Int→ap}(hm:m.OK)(hroom:6+m.n*m.one≤m.cells)(A7:wa.length=m.n)(h:St w0 w (SL (gJ a ps m wa) [] (g0 m) (jO (pH (gJ a ps m wa) []) (wa.zip (JR m m.n))::R) sp st sw))
  (h1:m.total≤m.cells→∀aa w',qK w0 w' (gJ a ps m wa) aa (eY m) (Bd m) R→k 0 w') (h2:¬m.total≤m.cells→∀w' L',St w0 w' (L'++R)→k 21 w'):gE (some ⟨a.gs,0,none⟩) m.n w k:=by
 obtain⟨ho1,ho2,VV,Uu,ho5⟩:=Te hm m.n hroom;have uj:1≤m.n:=by have:=hm.base;have:=hm.spare;unfold Lm.n;omega
 have aEJ:m.n≤16:=by have:=hm.base;have:=hm.spare;unfold Lm.n;omega
 unfold gE wz;refine dZ λw h=> ?_;refine agZ (C:=[⟨-1,0,2⟩]) h rfl ho2 ho1 bf (λq=>by exact absurd q e7) (λ_ hr w h=> ?_) λ_ hr w h=> ?_
 ·refine bK rfl (h2 (λq=> ?_) w [_,_,_,_,_,_,_,_,_,_,_] h);unfold bJ.room at hr;unfold Lm.total at q;simp only[decide_eq_false_iff_not]at hr;omega
 refine aU rfl<|cX ?_;refine Jw rfl rfl ?_;refine vO λgx w h=> ?_;obtain⟨gp,j7⟩:∃n,n=gx:=⟨_,rfl⟩;subst j7;refine Z8 (sz:=4) (s:=sp) (es:=[tI (-1,0,0,false)]) h auX aZ rfl af (by simp[Value.oneCell']) bf af λsp2 w h hn=> ?_
 refine dZ λw h=> ?_;have h:=h.zm 0;refine Fr.anv λw' he=> ?_;have h:=h.on he;have h:St w0 w' (SL (gJ a ps m wa) [] (g1 m) (jO (pH (gJ a ps m wa) []) (wa.zip (JR m m.n))::R) sp2 st sw):=h;clear he;have hr2:∀z:Int,(oe m m.n).room 2=true→(g1 m).M.OK∧(((g1 m).M.cells.length:Nat):Int)=8+m.n*m.one:=λ_ hr=>by
  refine⟨ahy ho1 af hr,?_⟩;have:=xQ (M:=(oe m m.n).tick m.n) (n:=2) af;show((((oe m m.n).tick m.n).grow 2).cells.length:Nat)=(_:Int);rw[this];show(((oe m m.n).cells.length:Nat):Int)+2=_;rw[VV];omega
 have hr:(oe m m.n).room 2=true:=by assumption
 obtain⟨hM1,hl1⟩:=hr2 0 hr;have Hi:(g1 m).M.caller m.n=true:=G9 ho2;refine avb h frI hM1 Hi (.inl ⟨rfl,rfl⟩) (by show 0≤1000000;omega) bf ⟨af,by show(1:Int)<((2:Nat):Int);omega⟩ (λhr3 gn DC w h=> ?_) λhr3 w h=> ?_
 rotate_left
 ·refine bK rfl (h2 (λq=> ?_) w [_,_,_,_,_,_,_,_,_,_,_] h);unfold bJ.room at hr3;unfold Lm.total at q;simp only[decide_eq_false_iff_not]at hr3;have:(g1 m).M.size=m.cells:=Uu;omega
 refine aU rfl ?_;have htot:m.total≤m.cells:=by
  unfold bJ.room at hr3;unfold Lm.total;simp only[decide_eq_true_eq]at hr3;have:(g1 m).M.size=m.cells:=Uu;omega
 have hR:=ahC hm htot;have h:St w0 w (SL (gJ a ps m wa) [gn] (g2 m) (jO (pH (gJ a ps m wa) []) (wa.zip (JR m m.n))::R) sp2 DC sw):=h;refine dZ λw h=>aiG (x:=⟨-1,0,2⟩) h rfl hR.c2 hR.ok2 λw h=>aU rfl ?_;have h:=h.fr 10;have h:=an1 (m:=[gn]) h;rw[List.nil_append]at h;have h:St w0 w (jO (pH (gJ a ps m wa) [gn]) (wa.zip (JR m m.n))::SL (gJ a ps m wa) [gn] (g3 m) R sp2 DC sw):=h;refine cX ?_;obtain⟨gw0,ha0⟩:∃g,wa[0]?=some g:=⟨_,iH af⟩;have hw0:(JR m m.n)[0]?=some (Wa 0 6):=by
  unfold JR;rw[l8,List.getElem?_range af];simp[sC]
 refine vP (s:=sw) h af (by show(wa.map pt)[0]?=_;rw[l8,ha0];rfl) ?_
 refine cX ?_;refine au5 (l:=gJ a ps m wa) (aa:=[gn]) (n:=0) h (by rw[List.getElem?_zip_eq_some];exact⟨ha0,hw0⟩) ?_
 refine anp h λgo w h=> ?_;have hA:xH 6:=⟨af,af⟩;obtain⟨p1,p2,p3,p4,p5⟩:=ajY hR.nd;have hone:∀(O O':bu) (M M':bJ) (w:World) (G:Gl) (C:Int→ap),O.GX→M.OK→O.step M m.n=(O',M')→G.mem M=G→St w0 w (uh go O::jO (pH (gJ a ps m wa) [gn]) (wa.zip (JR m m.n))::SL (gJ a ps m wa) [gn] G R sp2 DC sw)→
   (∀w',St w0 w' (uh go O'::jO (pH (gJ a ps m wa) [gn]) (wa.zip (JR m m.n))::SL (gJ a ps m wa) [gn] (G.mem M') R sp2 DC sw)→C O'.how w')→fO (some ⟨go,0,none⟩) (some ⟨a.gm,0,none⟩) m.n w C:=by
  intro O O' M M' w G C hf hM hst hGM h hc;rw[←hGM]at h;have h:=h.fr 3;refine ano (M:=M) (O:=O) h.swap hf hM λw h=> ?_;rw[hst]at h ⊢;have h:=h.swap;have h:=h.bk 3;exact hc w h
 refine bP (λi w=>i=1∧St w0 w (jO (pH (gJ a ps m wa) [gn]) (wa.zip (JR m m.n))::SL (gJ a ps m wa) [gn] (eY m) R sp2 DC sw)) (λJ hJ=> ?_) ?_
 ·refine⟨6,?_⟩;unfold jV;refine bK rfl ?_;refine cX ?_;refine hone _ _ (g3 m).M _ w (g3 m) _ (aqn hA) hR.ok3 p1 rfl h λw h=> ?_;unfold jV;refine bK rfl ?_;refine cX ?_;refine hone _ _ _ _ w _ _ (abj hA (.inl rfl)) (Cc hR.ok3) p2 rfl h λw h=> ?_;unfold jV;refine bK rfl ?_;refine cX ?_;refine hone _ _ _ _ w _ _ (abj hA (.inr (.inl rfl))) (Cc (Cc hR.ok3)) p3 rfl h λw h=> ?_;unfold jV;refine bK rfl ?_;refine cX ?_;refine hone _ _ _ _ w _ _ (abj hA (.inr (.inr (.inl rfl)))) (Cc (Cc (Cc hR.ok3))) p4 rfl h λw h=> ?_;unfold jV;refine bK rfl ?_;refine cX ?_;refine hone _ _ _ _ w _ _ (abj hA (.inr (.inr (.inr rfl)))) (ay6 (Cc (Cc (Cc (Cc hR.ok3))))) p5 rfl h λw h=> ?_;unfold jV;refine aU rfl ?_;exact hJ _ _ ⟨rfl,h.drop⟩
 clear h;rintro _ w ⟨rfl,h⟩;refine aU rfl ?_;exact h1 htot [gn] w (pE (St.back 10 h))
end
open Ck (tj Su)
variable{k:Bool→ap}{p:Option Addr}{c:Value→ap}
section
variable{w0 w:World}{L R:List HP}{a:Ad}{ps:Sl}{m:Lm}{P:List dB}{gm gc go:Nat}{f:HP→List HP}
def nr1(ps:Sl):Array Value:=#[.slice ps.a ps.n ps.c,.int .i64 0,.int .i64 0,.int .i64 0,.int .i64 0,.int .i64 0,.int .i64 0,.pointer none,.pointer none,.pointer none,.slice none 0 0,.slice none 0 0,.int .i64 0,.int .i64 0,.int .i64 0,.int .i64 0,.int .i64 0,.pointer none,.pointer none,.slice none 0 0,.int .i64 0,.int .i64 0]
def nr2(ps:Sl)(m:Lm):Array Value:=#[.slice ps.a ps.n ps.c,.int .i64 m.base,.int .i64 m.spare,.int .i64 m.cells,.int .i64 m.fuel,.int .i64 m.deep,.int .i64 m.log,.pointer none,.pointer none,.pointer none,.slice none 0 0,.slice none 0 0,.int .i64 0,.int .i64 0,.int .i64 0,.int .i64 0,.int .i64 0,.pointer none,.pointer none,.slice none 0 0,.int .i64 0,.int .i64 0]
abbrev lmA(m:Lm):Array Value:=#[.int .i64 m.base,.int .i64 m.spare,.int .i64 m.cells,.int .i64 m.fuel,.int .i64 m.deep,.int .i64 m.log]
def Lm.okB(m:Lm):Bool:=decide (1≤m.base∧m.base≤16)&&(decide (0≤m.spare∧m.spare≤16 - m.base)&&(decide (1≤m.cells∧m.cells≤1048576)&&(decide (0≤m.fuel∧m.fuel≤1048576)&&(decide (1≤m.deep∧m.deep≤1000)&&decide (0≤m.log∧m.log≤8)))))
def ajZ:m.okB=true↔m.OK:=by
 unfold Lm.okB;simp only[iY,decide_eq_true_eq];exact⟨fun⟨h1,h2,h3,h4,h5,h6⟩=>⟨h1,h2,h3,h4,h5,h6⟩,fun⟨h1,h2,h3,h4,h5,h6⟩=>⟨h1,h2,h3,h4,h5,h6⟩⟩
def aqp(h:St w0 w L)(hk:∀w',St w0 w' L→k m.okB w'):oS (lmA m) w k:=by
 unfold oS Hw;have hw:∀(x lo hi:Int) (C:Bool→ap) (w:World),C (decide (lo≤x∧x≤hi)) w→ja x lo hi w C:=λx lo hi C w hC=>by
  unfold ja;have e:(decide (x≥lo)&&decide (x≤hi))=decide (lo≤x∧x≤hi):=by simp[ge_iff_le]
  rw[e];exact hC
 unfold Lm.okB at hk;refine aM h λg w h=>cX<|hw _ _ _ _ _ (ax (λhb=> ?_) λhb=> ?_);rotate_left
 ·rw[hb]at hk;exact hk w h.drop
 have hb0:=of_decide_eq_true hb;rw[hb,Bool.true_and]at hk;refine cX ?_;have e:aF .i64 (16 - m.base)=16 - m.base:=dh ⟨af,af⟩;rw[e];refine hw _ _ _ _ _ (ax (λhb=> ?_) λhb=> ?_);rotate_left
 ·rw[hb]at hk;exact hk w h.drop
 rw[hb,Bool.true_and]at hk;refine cX<|hw _ _ _ _ _ (ax (λhb=> ?_) λhb=> ?_);rotate_left
 ·rw[hb]at hk;exact hk w h.drop
 rw[hb,Bool.true_and]at hk;refine cX<|hw _ _ _ _ _ (ax (λhb=> ?_) λhb=> ?_);rotate_left
 ·rw[hb]at hk;exact hk w h.drop
 rw[hb,Bool.true_and]at hk;refine cX<|hw _ _ _ _ _ (ax (λhb=> ?_) λhb=> ?_);rotate_left
 ·rw[hb]at hk;exact hk w h.drop
 rw[hb,Bool.true_and]at hk;refine cX<|hw _ _ _ _ _ (hk w h.drop)
def St.adw:∀{A:List HP},St w0 w (A++R)→St w0 w R
 |[],h=>h
 |_::A,h=>St.adw (St.drop h)
def ZJ{x:Int}{c:Int→Prop}(h:c x):xS .i64 (.int .i64 x) c:=by unfold xS;simpa using h
def aqq{i:Int}(h:fC p i w λr w=>c (.int .i64 r) w):Dh [.pointer p,.int .i64 i] w c:=h
def aj1{i:Int}(h:eC p i w λr w=>c (.int .i64 r) w):A9 [.pointer p,.int .i64 i] w c:=h
def avJ{i:Int}(h:gE p i w λr w=>c (.int .i64 r) w):Eo [.pointer p,.int .i64 i] w c:=h
def ahh{k:Option Addr×Int→ap}(hF:iA w0 ps P)(h:St w0 w R)(h1:Su (tj P)=[0,0,0]→m.OK→m.total≤m.cells→∀a wa aa w',wa.length=m.n→qK w0 w' (gJ a ps m wa) aa (eY m) (Bd m) R→k (some ⟨a.gs,0,none⟩,0) w')
  (h2:¬Su (tj P)=[0,0,0]→∀w',St w0 w' R→k (none,24) w') (h3:Su (tj P)=[0,0,0]→¬m.OK→∀w',St w0 w' R→k (none,10) w') (h4:Su (tj P)=[0,0,0]→m.OK→¬m.total≤m.cells→∀w',St w0 w' R→k (none,21) w'):
  kF #[.slice ps.a ps.n ps.c] (lmA m) w k:=by
 unfold kF ND;refine aM h λga1 w h=>aM h λga3 w h=>cX<|Ck.adg (P:=P) (hF.ext h.ext) λw' hx=> ?_;have h:=h.on hx.ext;clear hx;refine ax (λhb=> ?_) λhb=> ?_
 ·exact h2 (gq hb) _ h.drop.drop
 have hacc:Su (tj P)=[0,0,0]:=gq hb
 replace h1:=h1 hacc;replace h3:=h3 hacc;replace h4:=h4 hacc;clear h2 hb;refine cX<|aqp (m:=m) h λw h=>ax (λhb=> ?_) λhb=> ?_
 ·have:¬m.OK:=λq=>by rw[ajZ.2 q]at hb;cases hb
  exact h3 this _ h.drop.drop
 have hm:m.OK:=ajZ.1 (gq hb)
 replace h1:=h1 hm;replace h4:=h4 hm;clear h3 hb;refine cX ?_;have hbs:=hm.base;have hsp:=hm.spare;have hnw:aF .i64 (m.base+m.spare)=(m.n:Int):=by rw[dh ⟨af,af⟩];unfold Lm.n;omega
 have hnb:(m.n:Int)=m.base+m.spare:=by unfold Lm.n;omega
 rw[hnw];refine axC h (λhok gm w h=> ?_) λhok=> ?_;rotate_left
 ·exfalso;unfold agX at hok;simp only[decide_eq_false_iff_not]at hok;have:=hm.cells;omega
 refine aU rfl<|bP (fun(p:Option Addr) w=> ∃gs gk gt gd gp X,p=some ⟨gs,0,none⟩∧X=cs0 ⟨gs,gm,gk,0,gt,gd,gp⟩ ps m∧St w0 w (au gs X::Da gk []::ni gt (0,[])::Lw gd []::au gp (tI (-1,0,0,false))::bH gm (bJ.new m.cells m.n)::R)) (λJ hJ=> ?_) ?_
 ·with_reducible repeat' (first|refine cH h λw h=> ?_|refine Vh h ?_|refine aM h λgx w h=> ?_|refine sR h ?_|refine y8 ?_ ?_|refine ao5 h λgx w h=> ?_|refine Ko.ahh h λgx w h=> ?_|refine att h λgx w h=> ?_|refine Jw rfl rfl ?_|fail)
  all_goals
   refine qL (nr1 ps) rfl aZ<|qL (nr2 ps m) rfl aZ<|aM h λgx w h=> ?_;have h:=h.zm 6;have h:=h.zm 6;exact hJ _ _ ⟨_,_,_,_,_,_,rfl,aZ,h.perm Hp⟩
 clear h;rintro _ w ⟨gs,gk,gt,gd,gp,X,rfl,rfl,h⟩;refine⟨rfl,⟨rfl,⟨rfl,?_⟩⟩⟩;refine vO λgx w h=> ?_;obtain⟨gl,j7⟩:∃n,n=gx:=⟨_,rfl⟩;subst j7;refine⟨4,?_⟩;unfold jV;refine bK rfl ?_;refine cX ?_;refine anR h (Int.le_refl 0) e7 rfl ?_;refine bV (d:=Dh) (λ_ _ _=>rfl) (aqq ?_);have h:=h.fr 6;have h:=h.fr 2;refine ajO (a:=⟨gs,gm,gk,0,gt,gd,gp⟩) hm h (λh6 gc w h=> ?_) (λh6 w X Y h=> ?_);rotate_left
 ·have hno:¬m.total≤m.cells:=λq=>h6 (by have:=m.KS hm;unfold Lm.total at q;have:(0:Int)≤m.n*m.one:=Int.mul_nonneg af af;omega)
  refine ZJ (bK rfl (h4 hno _ (St.adw (A:=[_,_,_,_,_,_,_]) h)))
 refine ZJ (aU rfl ?_);unfold jV;refine bK rfl ?_;refine cX ?_;refine anR h e7 e7 rfl ?_;refine bV (d:=A9) (λ_ _ _=>rfl) (aj1 ?_);have h:=h.fr 2;have h:=h.fr 2;have h:=St.back 2 (h.DJ 1);have h:St w0 w (jO (pH (gJ ⟨gs,gm,gk,gc,gt,gd,gp⟩ ps m []) []) ([].zip (JR m 0))::_):=QW h;have h:=St.back 3 h;refine aex (a:=⟨gs,gm,gk,gc,gt,gd,gp⟩) hm h h6 (λhw sw wa w A7 h=> ?_) (λhw w L' h=> ?_);rotate_left
 ·have hno:¬m.total≤m.cells:=λq=>hw (by unfold Lm.total at q;omega)
  refine ZJ (bK rfl (h4 hno _ (St.adw (A:=[_,_,_,_,_,_]) (St.adw h))))
 refine ZJ (aU rfl ?_);unfold jV;refine bK rfl ?_;refine cX ?_;refine anR h e7 e7 rfl ?_;refine bV (d:=Eo) (λ_ _ _=>rfl) (avJ ?_);have h:=h.fr 9;have h:=Yc (sz:=4) h rfl (by intro v hv;simp[tI]at hv;rcases hv with rfl|rfl|rfl|rfl<;>rfl)
 have h:=h.fr 6;have h:=h.fr 5;have h:St w0 w (LA [] []::_):=St.YA rfl (QW h);have h:=h.fr 10;have h:=h.fr 10;have h:=h.fr 8;have h:=h.DJ 1;have h:=h.fr 7;have h:=h.fr 10;have h:=h.fr 11;have h:=h.fr 11;have h:=h.fr 11;have h:St w0 w (SL (gJ ⟨gs,gm,gk,gc,gt,gd,gp⟩ ps m wa) [] (g0 m) (jO (pH (gJ ⟨gs,gm,gk,gc,gt,gd,gp⟩ ps m wa) []) (wa.zip (JR m m.n))::au gl _::R) ⟨some ⟨gp,0,none⟩,1,1⟩ ⟨none,0,0⟩ sw):=h;refine amf hm hw A7 h (λht aa w h=> ?_) (λht w L' h=> ?_);rotate_left
 ·exact ZJ (bK rfl (h4 ht _ (St.adw h).drop))
 refine ZJ (aU rfl ?_);unfold jV;refine aU rfl ?_;exact h1 ht ⟨gs,gm,gk,gc,gt,gd,gp⟩ wa aa _ A7 (h.rm 2 rfl)
end
variable{W:Wk}
section
variable{l:Lc}{P:List dB}{bw:List Int}{ro iT:List Ro}{G G' G1:Gl}{hold:List Nat}{W' W1:Wk}{Ws:List Wk}{t t':Tk}{n i y:Nat}{s v:Int}{r:Ro}{w0:World}
def Cb.aFj{u:Nat}(h:Ty l ro G)(hd:ZH ro u d)(hO:Cb l ro G.ts.length u d O):O.GX:=by
 refine⟨λe=>⟨hO.c2 af,hO.b,hO.t⟩,λe=> ?_,hO.nx,?_⟩
 ·obtain⟨c,hc,_⟩:=hO.c4 e;exact⟨c,hc⟩
 ·have h1:=hd.top.lt;have h0:=hd.top.1;rw[h.len]at h1;have:=h.ok.fit;have:=h.ok.size;rw[hO.at_];exact⟨h0,af⟩
def Cx.inA(c:Cx l P bw ro G i W):xH W.dq:=by
 have h1:=c.own.top.lt;have h0:=c.own.top.1;rw[c.ty.len]at h1;have:=c.ty.ok.fit;have:=c.ty.ok.size;exact⟨h0,af⟩
def Cx.spf(c:Cx l P bw ro G i W){o:jH}(h:SpT o):o.GX l.sp G.M W.id:=by
 have hb:=c.ty.val _ _ c.ty.OI;obtain⟨x,hx⟩:=Int.eq_ofNat_of_zero_le hb.1;exact⟨h.1,c.can c.ty.Ye,c.can c.ty.OI,⟨x,hx,by have:=hb.2;omega⟩⟩
def Cx.sc(c:Cx l P bw ro G i W)(hx:x<G.ts.length):G8 G (G.tk x).l7∧G.M.can W.id (G.nd (G.tk x).l7).at_=true∧G.M.can W.id ((G.nd (G.tk x).l7).at_+1)=true:=by
 have hin:=(c.ty.qh hx).inn;obtain⟨h1,h2⟩:=c.ty.O7 hin.1 hin.2;exact⟨h1,c.can h2.a,c.can h2.b⟩
def Cx.sc1(c:Cx l P bw ro G i W)(hx:x<G.ts.length)(ho:(G.tk x).cJ≠ []):G8 G (G.tk x).kA.1∧G.M.can W.id (G.nd (G.tk x).kA.1).at_=true∧G.M.can W.id ((G.nd (G.tk x).kA.1).at_+1)=true:=by
 have hin:=c.kA hx ho;obtain⟨h1,h2⟩:=c.ty.O7 hin.1 hin.2;exact⟨h1,c.can h2.a,c.can h2.b⟩
def Cx.dr(c:Cx l P bw ro G i W)(hx:x<G.ts.length)(ho:(G.tk x).cJ≠ []):Dr G (G.tk x).kA.1:=by
 have hin:=c.kA hx ho;exact⟨c.ty.Zs,c.ty.ck,hin.1,⟨_,iH (by rw[c.ty.pl];omega)⟩⟩
def amr{k:Kn}(h:rq P n t (.sh k)):t.cJ≠ []:=by
 unfold rq at h;split at h
 ·rename_i e;cases e
 ·rename_i e;cases e
 ·exact h.1.cJ
 ·exact h.2
 ·exact h.elim
def Yl(h:rC P G W):(G.tk (W.stack.headD 0)).cJ≠ []:=by
 obtain⟨y,h1,h2,h3⟩|⟨k,h1,_,_,h4⟩:=h.cases
 ·exact h3.1.cJ
 ·exact amr h4
def ahI(h:rC P G W)(ha:zk W.again=true):ajG G W:=by
 obtain⟨y,h1,h2,h3⟩|⟨k,h1,_⟩:=h.cases
 ·exact⟨by rw[h2];rfl,by rw[h2];exact h3.2.2.2⟩
 ·rw[h1]at ha;cases ha
def azp(h:rC P G W):∀y,W.target=some y→y<G.ts.length:=λy hy=>by
 obtain⟨z,h1,h2,h3⟩|⟨k,h1,h2,_⟩:=h.cases
 ·rw[h2]at hy;cases hy;exact h3.2.2.2
 ·rw[h2]at hy;cases hy
def aaz(h:rC P G W)(h1:zk W.again=true→W.dK= .m .vQ∧W.wait.how=1)(h2:SF W.again=true→W.dK= .c .Db):W.dK= .m .vQ∨W.dK= .c .Db:=by
 obtain⟨z,e,_⟩|⟨k,e,_⟩:=h.cases
 ·exact .inl (h1 (by rw[e];rfl)).1
 ·exact .inr (h2 (by rw[e];rfl))
def aCA(h:rC P G W):afv G W (G.tk (W.stack.headD 0)):=by
 unfold afv;obtain⟨z,e,_⟩|⟨k,e,_,_,h4⟩:=h.cases
 ·rw[e];trivial
 ·rw[e];exact amr h4
def IV.vi(h:IV l P bw ro G Ws)(hi:Ws[i]?=some W)(vK:W1.id=i)(hl:∀j∈W1.left,0≤j∧j<l.wa.length∧j≠W1.id)(hn:W1.none_= .m .y5∨(W1.none_= .m .nothing∧W1.wait.how=1)):aar l ((l.wa.zip Ws).eraseIdx i) bw W1:=by
 refine⟨hn,λj r hj=> ?_⟩;obtain⟨h1,h2,h3⟩:=hl j (by rw[hj];simp)
 have hw:=h.wn;have hjl:j.toNat<l.wa.length:=af;have hjw:j.toNat<Ws.length:=af;have hz:(l.wa.zip Ws)[j.toNat]?=some (l.wa[j.toNat]'hjl,Ws[j.toNat]'hjw):=by rw[List.getElem?_zip_eq_some];exact⟨iH hjl,iH hjw⟩
 have hne:j.toNat≠i:=af;refine⟨j.toNat,l.wa[j.toNat]'hjl,if j.toNat<i then j.toNat else j.toNat - 1,Ws[j.toNat]'hjw,af,iH hjl,?_,?_⟩
 ·rw[List.getElem?_eraseIdx];by_cases e:j.toNat<i
  ·rw[if_pos e,if_pos e];exact hz
  ·rw[if_neg e,if_neg af,show j.toNat - 1+1=j.toNat by omega];exact hz
 ·rw[←h.dl,m0,l8,iH hjw];rfl
def adC(h:Dx l P G W):W.none_= .m .y5∨(W.none_= .m .nothing∧W.wait.how=1):=by
 rcases h.what with⟨_,_,_,h4⟩|⟨_,_,_,h4⟩
 ·exact .inl h4
 ·exact .inr ⟨h4,h.how⟩
def IV.ok(h:IV l P bw ro G Ws)(hi:Ws[i]?=some W)(he:G.err=0)(hF:iA w0 l.ps P):ajH l P ((l.wa.zip Ws).eraseIdx i) bw G W:=by
 have c:=h.cx hi he;have ct:=c.ct;have cap:=c.ty.cap;have vK:=c.an8;have hbl:W.back.length≤100000:=by
  have hb:=c.wt.bk;have:∀(st:List Nat) (b:List Kn),KU P G st b→b.length=st.length:=by
   intro st;induction st with
   |nil=>intro b hb;cases b<;>first|rfl|exact hb.elim
   |cons y st ih=>intro b hb;cases b with
    |nil=>exact hb.elim
    |cons k b=>simp[ih b hb.2.2]
  rw[this _ _ hb];have:=c.wt.nd;unfold Wk.hold at this;have h2:=(List.nodup_append.1 this).2.1;have:=ML h2 λy hy=>c.wt.hl y (by unfold Wk.hold;simp[hy])
  omega
 have Y8:W.stack.length≤100000:=by
  have:=c.wt.nd;unfold Wk.hold at this;have h2:=(List.nodup_append.1 this).2.1;have:=ML h2 λy hy=>c.wt.hl y (by unfold Wk.hold;simp[hy])
  omega
 have xL:W.stack≠ []→G7 G W (W.stack.headD 0) (G.tk (W.stack.headD 0))∧W.stack.headD 0<G.ts.length:=c.top;unfold cD at ct;unfold ajH;dsimp only at ct ⊢;have hop:∀(O:bu) (u:Nat),u<l.wa.length→Cb l ro G.ts.length u (bw.getD u 0) O→O.GX∧((O.step G.M W.id).1.how=6→(O.step G.M W.id).1.err≠0):=λO u hu hO=>by
  obtain⟨iT,hr⟩:=aj2 c.lg c.ty (c.dq u hu) c.caller hO;exact⟨hO.aFj c.ty (c.dq u hu),hr.err⟩
 have hown:∀(O:bu) (k:Nat),(Cb l ro G.ts.length W.id.toNat W.dq O∧O.kind=k)→Cb l ro G.ts.length i (bw.getD i 0) O:=λO k q=>by rw[c.idn,c.wt.dq]at q;exact q.1
 split at ct<;>rename_i bQ<;>try exact ct.elim
 all_goals try rw[bQ]
 all_goals try dsimp only
 ·exact c.can c.ty.told
 ·obtain⟨O,hO,ct⟩:=ct;refine⟨O,hO,?_⟩;split at ct<;>rename_i ha<;>try exact ct.elim
  ·have:=hop O i c.wt.lt (hown O 1 ct.2.2);exact⟨this.1,this.2,λ_ _=>by unfold aas;dsimp only;rw[ha];trivial⟩
  ·have:=hop O i c.wt.lt (hown O 0 ct.2.2.2);exact⟨this.1,this.2,λ_ _=>by unfold aas;dsimp only;rw[ha];trivial⟩
  ·have:=hop O i c.wt.lt (hown O 1 ct.2.2.2);refine⟨this.1,this.2,λ_ _=> ?_⟩;unfold aas;dsimp only;rw[ha];have ht:=xL ct.1.ne;exact⟨⟨_,ht.1.s⟩,ht.1.t,aaz ct.1 ct.2.1 ct.2.2.1⟩
  ·obtain⟨a1,⟨u,a2,a3,a4,a5⟩,a6⟩:=ct;have:=hop O u a2 a4;refine⟨this.1,this.2,λ_ _=> ?_⟩;unfold aas;dsimp only;rw[ha];refine⟨?_,h.vi hi c.wt.id a1.left (by have q:=adC a1;exact q)⟩
   unfold ajA;dsimp only;rcases a1.what with⟨_,q,_⟩|⟨q0,q,_⟩
   ·rw[q];trivial
   ·rw[q];exact⟨c.ty.kt,λy hy=>azp q0 y hy⟩
  ·obtain⟨a1,⟨u,a2,a3,a4,a5⟩,a6⟩:=ct;have:=hop O u a2 a4;refine⟨this.1,this.2,λ_ _=> ?_⟩;unfold aas;dsimp only;rw[ha];refine⟨?_,h.vi hi c.wt.id a1.left (by have q:=adC a1;exact q)⟩
   rcases a1.what with⟨_,_,q,_⟩|⟨_,_,q,_⟩
   ·exact .inl q
   ·exact .inr q
 ·obtain⟨k,a1,a2,a3,a4,a5,a6⟩:=ct;obtain⟨b1,b2⟩:=c.ty.O7 a3.1 a3.2;refine⟨k,(xL a5).1,a1,a2,b1,c.can b2.a,?_⟩;unfold anZ;split at a6<;>rename_i hs<;>try exact a6.elim
  ·try rw[hs]
   have:=a6.1.fi.aav hF c.acc;rw[a6.2];exact⟨this.1.GZ,a6.1.fi.len,this.2.2⟩
  ·first|(rw[hs];trivial)|trivial
  ·first|(rw[hs];trivial)|trivial
 ·exact c.can c.ty.told
 ·exact⟨c.can c.ty.idle,c.ty.OI.given c.ty.len,⟨af,by have:=c.wt.lt;rw[c.wt.id];omega⟩,h.vi hi c.wt.id (λj hj=>afG j (aj6 j hj)) (by have q:=adC ct;exact q)⟩
 ·obtain⟨_,_,o,ho,hs⟩:=ct;exact⟨o,ho,c.spf hs⟩
 ·exact⟨⟨af,af⟩,c.can c.ty.idle,ct.2⟩
 ·exact⟨⟨af,af⟩,c.can c.ty.idle⟩
 ·exact⟨ct.1,by rw[Int.add_zero];exact c.can (c.ty.qh af).k⟩
 ·have pM:W.jq.toNat<G.ts.length:=af;exact⟨ct.1,c.inA,c.can c.own.bot,(c.sc pM).1,Y8,hbl⟩
 ·have ht:=xL ct.1;exact⟨ht.1,ct.2.fi.aav hF c.acc,(c.sc ht.2).1⟩
 ·have ht:=xL ct.1;exact⟨ht.1,ct.2.1.cJ,c.caller,af,af,(c.sc1 ht.2 ct.2.1.cJ).1⟩
 ·have ht:=xL ct.1;obtain⟨a1,a2,a3,a4⟩:=ct;obtain⟨g',g1,_⟩:=a2.fi.fork c.acc a3;have ht2:=ht.2;have hkt:=acH (T:=G.T) (s:=(G.tk (W.stack.headD 0)).id) (by unfold Bb;rw[(c.ty.qh ht.2).id];simp only[decide_eq_true_eq];have:=c.ty.kl;omega)
  obtain⟨kt,hkt⟩:=hkt;refine⟨ht.1,a2.cJ,a2.fi.aav hF c.acc,a2.fi.is8 c.acc a3,⟨g',g1⟩,c.caller,⟨kt,hkt,?_⟩,af,af,by rw[c.ty.pl];exact a4⟩
  have:=c.ty.kk _ _ (xP hkt).2.2;omega
 ·have ht:=xL ct.1;have:=c.sc1 ht.2 ct.2.1.cJ;exact⟨ht.1,ct.2.1.cJ,this.1,this.2.2⟩
 ·have ht:=xL ct.1;obtain⟨b1,b2⟩:=ct.2.1.fi.hand c.acc ct.2.2;exact⟨ht.1,ct.2.1.fi.aav hF c.acc,b1,b2,c.can c.ty.told,(c.sc ht.2).1⟩
 ·exact⟨c.inA,c.can c.own.bot⟩
 ·have ht:=xL ct.1;obtain⟨a1,a2,a3⟩:=ct;have hin:=c.kA ht.2 a2.cJ;have hT:=c.ty.qh ht.2;have:=hT.sn;have:=hT.sl;refine⟨ht.1,a2.cJ,a2.fi.aav hF c.acc,c.caller,af,af,(c.sc1 ht.2 a2.cJ).1,⟨hin.1,by rw[c.ty.pl];exact hin.2⟩,af,af,⟨c.ty.Zs,c.ty.ck⟩,λhp=> ?_⟩
  exact(afH c.ty.ck af c.ty.Qn ⟨af,av9 (a2.fi.oV c.acc)⟩).1
 ·exact⟨(xL ct.1).1,ct.2.1.cJ⟩
 ·have ht:=xL ct.1;obtain⟨a1,a2,a3⟩:=ct;have hT:=c.ty.qh ht.2;have:=hT.sn;have:=hT.sl;have hs:=c.sc1 ht.2 a2.cJ;exact⟨ht.1,a2.cJ,a2.fi.aav hF c.acc,c.dr ht.2 a2.cJ,hs.1,hs.2.1,af⟩
 ·have ht:=xL ct.1;have hs:=c.sc1 ht.2 ct.2.1.cJ;exact⟨ht.1,ct.2.1.cJ,ct.2.1.fi.len,hs.1,hs.2.1⟩
 ·exact⟨(xL ct.1).1,ct.2.1.fi.len⟩
 ·exact⟨(xL ct.1).1,ct.2.1.fi.aav hF c.acc,ct.2.1.fi.aEM c.acc⟩
 ·have ht:=xL ct.1;exact⟨ht.1,c.can (c.ty.qh ht.2).v⟩
 ·have ht:=xL ct.1;exact⟨ht.1,⟨ct.2.1.k2,ct.2.1.k4⟩,by rw[Int.add_zero];exact c.can (c.ty.qh ht.2).k⟩
 ·have ht:=xL ct.1;exact⟨ht.1,c.can (c.ty.qh ht.2).w⟩
 ·have ht:=xL ct.1;have hs:=c.sc ht.2;refine⟨ht.1,?_,hs.1,hs.2.2⟩;have hb:=c.wt.bk;rw[ht.1.s]at hb;cases hh:W.back with
  |nil=>rw[hh]at hb;exact hb.elim
  |cons kb bs=>
   rw[hh]at hb;refine⟨kb,bs,rfl,?_⟩;have:∀(st:List Nat) (b:List Kn),KU P G st b→b.length=st.length:=by
    intro st;induction st with
    |nil=>intro b hb;cases b<;>first|rfl|exact hb.elim
    |cons y st ih=>intro b hb;cases b with
     |nil=>exact hb.elim
     |cons k b=>simp[ih b hb.2.2]
   exact this _ _ hb.2.2
 ·have ht:=xL ct.1.ne;have hg:=ahI ct.1 ct.2.1;exact⟨ht.1,Yl ct.1,hg,by rw[Int.add_zero];exact c.can (c.ty.qh hg.2).k⟩
 ·have ht:=xL ct.1.ne;have hg:=ahI ct.1 ct.2.1;obtain⟨y,e,_,h3⟩|⟨k,e,_⟩:=ct.1.cases
  ·exact⟨ht.1,h3.1.fi.aav hF c.acc,hg,c.can (c.ty.qh hg.2).v⟩
  ·rw[e]at ct;cases ct.2.1
 ·have ht:=xL ct.1.ne;exact⟨ht.1,aaz ct.1 ct.2.1 ct.2.2,c.inA,c.can c.own.bot⟩
 ·exact c.can c.ty.told
 ·have ht:=xL ct.1.ne;have hs:=c.sc1 ht.2 (Yl ct.1);exact⟨ht.1,Yl ct.1,hs.1,hs.2.2⟩
 ·have hg:=ahI ct.1 ct.2;exact⟨hg,⟨af,af⟩,c.can (c.ty.qh hg.2).w⟩
 ·obtain⟨_,o,ho,hs⟩:=ct;exact⟨o,ho,c.spf hs⟩
 ·have ht:=xL ct.ne;exact⟨ht.1,aCA ct,c.can c.ty.told,(c.sc ht.2).1⟩
 ·have ht:=xL ct.1.ne;refine⟨ht.1,⟨af,af⟩,λhb=>c.spf ?_,λ_ hr=> ?_,λ_ _=> ?_⟩
  ·cases hs:W.step with
   |none=>exact⟨e7,e7,e7⟩
   |some o=>exact ct.2.1 hb o hs
  ·have hg:=ahI ct.1 (c.fl.SG hr);exact⟨hg,c.can (c.ty.qh hg.2).w⟩
  ·have ct3:=ct.2.2;unfold anY;split at ct3<;>rename_i hs<;>try exact ct3.elim
   all_goals try rw[hs]
   ·trivial
   ·exact ct3.1
   ·trivial
   ·trivial
   ·trivial
   ·exact⟨Yl ct.1,c.dr ht.2 (Yl ct.1)⟩
 ·have ht:=xL ct.1;exact⟨ht.1,ct.2.2.2.2,c.can c.ty.told,(c.sc ht.2).1⟩
 ·have ht:=xL ct.1;exact⟨ht.1,amr ct.2⟩
end
structure SM (G:Gl) (o:List (Int×Int)):Prop where
 kids:∀(i:Nat) (x:Kt),G.T[i]?=some x→x.kids.length≤1000000
 len:o.length≤100000
 dfs:if G.T.length=0 then o=[]else Dfs G.T [0] o
 ids:∀p∈o,0≤p.1∧p.1<G.ts.length
 sc:(da G o).length≤1000000
section
variable{w0 w:World}{L R:List HP}{l:Lc}{P:List dB}{aa:List Nat}{G:Gl}{Ws:List Wk}{n:Int}{sp st sw:Sl}{o:List (Int×Int)}
def awa{a:Nat}(h:St w0 w (LA aa G.ts::R))(ha:aa[x]?=some a)(hx:x<G.ts.length):∃so sc:Sl,St w0 w (au a ((G.tk x).cells so sc)::rws 2 so ((G.tk x).cJ.map A1)::bG 1 sc (ints (G.tk x).scopes)::jO tkP ((aa.zip G.ts).eraseIdx x)::R):=sv h ha (G.xw hx)
def afI{k:Sl→ap}(h:St w0 w (SL l aa G R sp st sw))(ho:SM G o)(hk:∀s w',St w0 w' (bG 1 s (ints (da G o))::SL l aa G R sp st sw)→k s w'):dO (some ⟨l.gs,0,none⟩) w k:=by
 unfold dO yY;have hla:=KI (h.front 9 rfl);refine aM h λg1 w h=> ?_;refine cX ?_;have h:=h.asS (g:=g1) (n:=1) (sz:=1) (cs:=[.int .i64 0]) rfl af (by simp[Value.oneCell'])
 refine aiO (T:=G.T) h ho.kids ho.len ho.dfs λs5 w h=> ?_;have h5n:=qY (s:=s5) (vs:=ints (o.map λp:Int×Int=>p.1)) h;simp only[ints,List.length_map]at h5n;have hol:=ho.len;refine DN (G:=Nat) (λj x w=>x.2=(j:Int)∧j≤o.length∧St w0 w (bG 1 s5 (ints (o.map λp:Int×Int=>p.1))::bG 1 x.1 (ints (da G (o.take j)))::SL l aa G R sp st sw)) (λj=>o.length - j) (g:=0) ⟨rfl,af,h⟩ ?_;clear h;rintro j ⟨s1,i⟩ w ⟨hi,hj,h⟩ C hC;dsimp only at hi h ⊢;subst hi;by_cases hlt:j<o.length
 ·refine bK (by simp;omega) ?_
  have vK:=ho.ids _ (List.getElem_mem hlt);generalize hp:o[j]'hlt=p at vK;have hpj:o[j]?=some p:=by rw[iH hlt,hp]
  have qX:p.1.toNat<G.ts.length:=af;obtain⟨a,ha⟩:=Zx (aa:=aa) hla (G.xw qX);refine vI (s:=s5) (vs:=ints (o.map λp:Int×Int=>p.1)) h af (x:=p.1) (by simp[ints,hpj]) ?_
  refine cX ?_;refine vP (s:=st) (vs:=aa.map pt) h vK.1 (x:=some ⟨a,0,none⟩) (by rw[l8,ha];rfl) ?_
  have h:=h.fr 11;obtain⟨so,sc,h⟩:=awa h ha qX;refine cX ?_;have aFk:=qY (s:=sc) (vs:=ints (G.tk p.1.toNat).scopes) h;have h1n:=qY (s:=s1) (vs:=ints (da G (o.take j))) h;simp only[ints,List.length_map]at aFk h1n;have htot:(da G (o.take j)).length+(G.tk p.1.toNat).scopes.length≤1000000:=by
   have h2:=ho.sc;have e:o=o.take j++p::o.drop (j+1):=by
    rw[←hp,←List.drop_eq_getElem_cons hlt,List.take_append_drop]
   unfold da at h2 ⊢;rw[e]at h2;simp only[List.flatMap_append,List.flatMap_cons,List.length_cons,uv]at h2 ⊢;omega
  refine M9 (sz:=1) (s:=s1) (vs:=ints (da G (o.take j))) (x:=sc) (ys:=ints (G.tk p.1.toNat).scopes) h an0 aZ (h.own (sz:=1) (s:=sc) (vs:=ints (G.tk p.1.toNat).scopes)).sls (by simp[ints,Value.oneCell']) af af λs2 w h CD=> ?_
  have h:=qg hla ha (G.xw qX) h;have h:=h.bk 11;refine hC (j+1) _ _ ⟨?_,af,?_⟩ af
  ·rw[kg ⟨af,af⟩];omega
  ·have e:ints (da G (o.take (j+1)))=ints (da G (o.take j))++ints (G.tk p.1.toNat).scopes:=by
    unfold da;rw[List.take_add_one,hpj];simp[ints]
   rw[e];exact h
 ·refine aU (by simp;omega) ?_
  have e:o.take j=o:=List.take_of_length_le af;rw[e]at h;exact hk _ _ h.drop
def azr(h:St w0 w (SL l aa G R sp st sw))(hf:G.time.2.length≤100000)(hc:CK G.time)(hs:∀y∈G.time.2,nZ G.C y.2=some (G.nd y.2)∧G.M.can l.wa.length (G.nd y.2).at_=true)(ht:G.M.can l.wa.length l.told=true)
  (hk:∀w',St w0 w' (SL l aa (ZD l G n).1 R sp st sw)→k (ZD l G n).2 w'):lA (some ⟨l.gs,0,none⟩) n w k:=by
 unfold lA BK;unfold ZD at hk;refine cX ?_;obtain⟨now,S⟩:∃now S,G.time=(now,S):=⟨_,_,rfl⟩;refine Ko.aBJ (now:=G.time.1) (S:=G.time.2) hf hc h (λha s' w' h=> ?_) λha h=> ?_
 ·rw[if_pos ha]at hk;refine aU rfl ?_;refine an2 (G:={G with time:=(G.time.1+n,Ko.Oy G.time.2 (G.time.1+n))}) h (λx hx=> ?_) ht λw h=>hk w h
  obtain⟨y,hy,rfl⟩:=List.mem_map.1 hx;exact hs y (List.mem_filter.1 hy).1
 ·rw[if_neg (by rw[ha];simp)]at hk
  exact bK rfl (hk _ h)
def azs(h:St w0 w (SL l aa G R sp st sw))(ho:SM G o)(hs:∀x∈da G o,(0≤x∧x<G.P.length)∧nZ G.C x=some (G.nd x)∧G.M.can l.wa.length (G.nd x).at_=true)(ht:G.M.can l.wa.length l.told=true)
  (hk:∀w',St w0 w' (SL l aa (ZF l G o n).1 R sp st sw)→k (ZF l G o n).2 w'):lB (some ⟨l.gs,0,none⟩) n w k:=by
 unfold lB BL;unfold ZF at hk;refine afI h ho λs1 w h=> ?_;have h1n:=qY (s:=s1) (vs:=ints (da G o)) h;simp only[ints,List.length_map]at h1n;by_cases hn:0≤n∧n<(da G o).length
 ·rw[if_pos hn]at hk;have hlt:n.toNat<(da G o).length:=af;have hg:(da G o).getD n.toNat 0=(da G o)[n.toNat]'hlt:=by rw[m0,iH hlt];rfl
  rw[hg]at hk;have hx:=hs _ (List.getElem_mem hlt);generalize hxe:(da G o)[n.toNat]'hlt=x at hk hx;have hxa:(ints (da G o))[n.toNat]?=some (.int .i64 x):=by simp[ints,hlt,hxe]
  obtain⟨p,hp⟩:∃p,G.P[x.toNat]?=some p:=⟨_,iH af⟩;refine bP (λb w=>b=ZE G x∧St w0 w (bG 1 s1 (ints (da G o))::SL l aa G R sp st sw)) (λJ hJ=> ?_) ?_
  ·refine dZ λw h=> ?_;refine aU (by simp;omega) ?_
   refine cX ?_;refine vI (s:=s1) (vs:=ints (da G o)) h hn.1 hxa ?_;refine rB (sz:=4) (s:=sp) (es:=G.P.map tI) (e:=tI p) h hx.1.1 (by rw[l8,hp];rfl) rfl ?_
   exact hJ _ _ ⟨by unfold ZE;rw[hp],h⟩
  clear h;rintro _ w ⟨rfl,h⟩;refine ax (λhb=> ?_) λhb=> ?_
  ·rw[if_pos hb]at hk;exact hk _ h.drop
  ·rw[if_neg (by rw[hb];simp)]at hk
   refine vI (s:=s1) (vs:=ints (da G o)) h hn.1 hxa ?_;refine aM h λg2 w h=> ?_;have h:=h.asS (g:=g2) (n:=1) (sz:=1) (cs:=[.int .i64 x]) rfl af (by simp[Value.oneCell'])
   have h:=h.rm 1 rfl;simp only[I7]at h;refine an2 (ids:=[x]) h (λy hy=> ?_) ht λw h=>hk w h;simp at hy;subst hy;exact hx.2
 ·rw[if_neg hn]at hk;refine bP (λb w=>b=true∧St w0 w (bG 1 s1 (ints (da G o))::SL l aa G R sp st sw)) (λJ hJ=> ?_) ?_
  ·refine dZ λw h=> ?_;refine bK (by simp;omega) (hJ _ _ ⟨rfl,h⟩)
  clear h;rintro _ w ⟨rfl,h⟩;exact bK rfl (hk _ h.drop)
end
def roB(m:Lm)(v:Nat):List Ro:=[.top v,.bot v,.Uw v] ++(List.range (2 ^ m.lg.toNat)).map (.rg v m.lg.toNat)
def Qo(m:Lm):Nat→List Ro
 |0=>[.told,.idle,.ask 0,.liv 0,.Ye,.OI]
 |v+1=>Qo m v++roB m v
def ZP(m:Lm):List Ro:=Qo m m.n++[.ask 1,.liv 1] ++[.fk 0,.fv 0,.fw 0]
variable{i:Nat}
section
variable{w0 w:World}{L R:List HP}{a:Ad}{ps:Sl}{m:Lm}{P:List dB}{l:Lc}{ro:List Ro}{r:Ro}{b:Int}
def awb:(((roB m v).length:Nat):Int)=m.one:=by
 unfold roB Lm.one EX;simp;omega
def Ym:∀v:Nat,(((Qo m v).length:Nat):Int)=sC m v
 |0=>by unfold sC;simp[Qo]
 |v+1=>by
  rw[ZI];show(((Qo m v++roB m v).length:Nat):Int)=_;rw[uv,Int.natCast_add,Ym v,awb]
def adE:∀(v:Nat) (i:Nat),∃q,Qo m (v+i)=Qo m v++q
 |v,0=>⟨[],bf⟩
 |v,i+1=>by
  obtain⟨q,hq⟩:=adE v i;exact⟨q++roB m (v+i),by show Qo m (v+i)++roB m (v+i)=_;rw[hq];simp⟩
def abk{k:Nat}(hi:i<v)(hk:(roB m i)[k]?=some r):k9 (Qo m v) (sC m i+k) r:=by
 obtain⟨q,hq⟩:=adE (m:=m) (i+1) (v - (i+1));rw[show i+1+(v - (i+1))=v from by omega]at hq
 rw[hq];refine k9.qT ?_;show k9 (Qo m i++roB m i) _ _;exact k9.new hk (by rw[Int.natCast_add,Ym])
def ahJ(hi:i<v):ZH (Qo m v) i (sC m i):=by
 refine⟨?_,abk (k:=1) hi rfl,abk (k:=2) hi rfl⟩;have:=abk (m:=m) (k:=0) (r:= .top i) hi rfl;simpa using this
def azt{k:Nat}(hi:i<v)(hk:k<2 ^ m.lg.toNat):k9 (Qo m v) (sC m i+3+k) (.rg i m.lg.toNat k):=by
 have:=abk (m:=m) (k:=3+k) (r:= .rg i m.lg.toNat k) hi (by
  unfold roB;rw[u0 bf];simp[hk])
 rw[show sC m i+3+(k:Int)=sC m i+((3+k:Nat):Int) by omega]
 exact this
def afJ{k:Nat}(hk:([.told,.idle,.ask 0,.liv 0,.Ye,.OI]:List Ro)[k]?=some r):k9 (Qo m v) k r:=by
 obtain⟨q,hq⟩:=adE (m:=m) 0 v;rw[Nat.zero_add]at hq;rw[hq];exact k9.qT ⟨af,hk⟩
def aka:∀{v:Nat},k9 (Qo m v) b r→(∀i,r≠ .Uw i)∨∃i,i<v∧r= .Uw i∧b=sC m i+2
 |0,h=>by
  refine .inl λi e=> ?_;subst e;obtain⟨_,h⟩:=h;have:=qn h;simp[Qo]at this
 |v+1,h=>by
  rcases k9.old (ro:=Qo m v) (m:=roB m v) h with h|⟨k,hk,e⟩
  ·rcases aka h with h|⟨i,h1,h2,h3⟩
   ·exact .inl h
   ·exact .inr ⟨i,af,h2,h3⟩
  ·by_cases h3:k<3
   ·match k,h3 with
    |0,_=>refine .inl λi q=> ?_;subst q;cases hk
    |1,_=>refine .inl λi q=> ?_;subst q;cases hk
    |2,_=>
     cases hk
     refine .inr ⟨v,af,rfl,?_⟩;rw[e,Int.natCast_add,Ym];rfl
   ·refine .inl λi q=> ?_;subst q;unfold roB at hk;rw[u0 (by simp;omega)]at hk
    have:=qn hk;simp at this
def awc{n:Nat}(hn:1≤n)(h:∀i,r≠ .Uw i):EO l ro n r 0:=by
 cases r with
 |Uw i=>exact absurd rfl (h i)
 |OI=>exact⟨af,af⟩
 |ask s=>exact .inl rfl
 |rg v g k=>exact⟨af,af⟩
 |top v=>exact⟨e7,e7⟩
 |bot v=>exact⟨e7,e7⟩
 |fk x=>exact⟨af,af⟩
 |_=>trivial
def aCD(hm:m.OK)(v:Nat):6≤sC m v:=by
 have:=m.KS hm;have:=Yg m af (Nat.zero_le v);unfold sC at this ⊢;simp at this ⊢;omega
def azu(hm:m.OK)(h:m.total≤m.cells){x:Int}(h0:0≤x):(g2 m).M.get x=if x<6+m.n*m.one then(oe m m.n).get x else 0:=by
 have hR:=ahC hm h;have l1:(((g1 m).M.cells.length:Nat):Int)=8+m.n*m.one:=by
  have:=xQ (M:=(oe m m.n).tick m.n) (n:=2) af;show((((oe m m.n).tick m.n).grow 2).cells.length:Nat)=(_:Int);rw[this];show(((oe m m.n).cells.length:Nat):Int)+2=_;rw[hR.len];omega
 show(((g1 m).M.tick m.n).grow 3).get x=_;by_cases h1:x<8+m.n*m.one
 ·rw[xR h0 (by show x<(((g1 m).M.cells.length:Nat):Int);rw[l1];exact h1),tT]
  show(((oe m m.n).tick m.n).grow 2).get x=_;split
  ·rename_i h2;rw[xR h0 (by show x<(((oe m m.n).cells.length:Nat):Int);rw[hR.len];exact h2),tT]
  ·rename_i h2;exact Yf (by show(((oe m m.n).cells.length:Nat):Int)≤x;rw[hR.len];omega)
 ·rw[if_neg af];exact Yf (by show(((g1 m).M.cells.length:Nat):Int)≤x;rw[l1];omega)
def aCE(hm:m.OK)(A7:wa.length=m.n):afx (gJ a ps m wa):=by
 have:=hm.base;have:=hm.spare;refine⟨⟨hm.base.1,hm.base.2,hm.spare.1,hm.spare.2⟩,?_,?_⟩
 ·show 1≤wa.length;rw[A7];unfold Lm.n;omega
 ·show wa.length≤16;rw[A7];unfold Lm.n;omega
def aoc(hm:m.OK)(h:m.total≤m.cells)(hi:i<m.n):RgT (gJ a ps m wa) (Qo m m.n) i ⟨sC m i+3,m.lg⟩:=by
 have ZG:=m.adq hm;have ho:=m.KS hm;have Y5:=acM ZG.1 ZG.2.2;have hone:m.one=3+EX m.lg:=rfl;have h1:=Yg m af (show i+1≤m.n by omega)
 rw[ZI]at h1;have h2:sC m m.n=6+m.n*m.one:=rfl;have h6:=aCD hm i;have hsz:=hm.cells;unfold Lm.total at h;refine⟨?_,ZG.2.1,λk hk=>azt hi hk⟩;unfold Rg.right;simp only[decide_eq_true_eq];unfold EX at Y5 hone;unfold Rg.pw;dsimp only;omega
def azv:CK ((0,[]):Int×List (Int×Int)):=⟨e7,e7,λy hy=>(by cases hy),λy hy=>(by cases hy),.nil,List.nodup_nil⟩
def azw(hm:m.OK)(h:m.total≤m.cells)(hz:m.cells≤65536)(A7:wa.length=m.n):Ty (gJ a ps m wa) (ZP m) (g2 m):=by
 have hR:=ahC hm h;have ho:=m.KS hm;have uj:=hR.n1;have hmul:m.one≤m.n*m.one:=by have:(1:Int)*m.one≤m.n*m.one:=Int.mul_le_mul_of_nonneg_right af af;omega
 obtain⟨h1,h2,h3,h4,h5⟩:=Te hm m.n (by unfold Lm.total at h;omega)
 have hl0:(((Qo m m.n).length:Nat):Int)=6+m.n*m.one:=Ym m.n;have hl:(((ZP m).length:Nat):Int)=11+m.n*m.one:=by
  unfold ZP;simp only[uv,List.length_cons,List.length_nil];omega
 have l1:(((g1 m).M.cells.length:Nat):Int)=8+m.n*m.one:=by
  have:=xQ (M:=(oe m m.n).tick m.n) (n:=2) af;show((((oe m m.n).tick m.n).grow 2).cells.length:Nat)=(_:Int);rw[this];show(((oe m m.n).cells.length:Nat):Int)+2=_;rw[h3];omega
 have l2:(((g2 m).M.cells.length:Nat):Int)=11+m.n*m.one:=by
  have:=xQ (M:=(g1 m).M.tick m.n) (n:=3) af;show((((g1 m).M.tick m.n).grow 3).cells.length:Nat)=(_:Int);rw[this];show(((g1 m).M.cells.length:Nat):Int)+3=_;rw[l1];omega
 have hst:(g2 m).M.steps.length=m.n+1:=by rw[←h5];exact Tg.trans Tg
 have hb:∀{k:Nat} {r:Ro},([.told,.idle,.ask 0,.liv 0,.Ye,.OI]:List Ro)[k]?=some r→k9 (ZP m) k r:=λhk=>(afJ hk).qT.qT;have hs1:∀{k:Nat} {r:Ro},([.ask 1,.liv 1]:List Ro)[k]?=some r→k9 (ZP m) ((oe m m.n).cells.length+k:Nat) r:=fun{k r} hk=>k9.qT (k9.new hk (by have:=hl0;have:=h3;omega))
 have ht1:∀{k:Nat} {r:Ro},([.fk 0,.fv 0,.fw 0]:List Ro)[k]?=some r→k9 (ZP m) ((g1 m).M.cells.length+k:Nat) r:=fun{k r} hk=>k9.new hk (by have:=hl0;have:=l1;simp only[uv,List.length_cons,List.length_nil];omega)
 have hC:(g2 m).C=[⟨-1,0,2⟩,⟨0,1,((oe m m.n).cells.length:Nat)⟩]:=rfl;have hT:(g2 m).ts=[⟨0,0,1,((g1 m).M.cells.length:Nat),nF,ByteArray.mk #[],[],[1],0,0⟩]:=rfl;have hsz:(g2 m).M.size=m.cells:=h4;obtain⟨z1,z2⟩:=adu hm m.n (by unfold Lm.total at h;omega)
 have hdn:sC m m.n=6+m.n*m.one:=rfl;refine{len:=by omega,ok:=hR.ok2,sz:=by rw[hsz];exact hz,stp:=by rw[hst];show _=wa.length+1;rw[A7],val:=λa' r hL=> ?_,told:=hb (k:=0) rfl,idle:=hb (k:=1) rfl,Ye:=hb (k:=4) rfl,OI:=hb (k:=5) rfl,sc:=λs x hx=> ?_,tk:=λx t ht=> ?_,c1:=(by rw[hC];simp),t1:=(by rw[hT];simp),pl:=rfl,kt:=λi x hx=> ?_,kl:=rfl,kk:=λi x hx=> ?_,ck:=azv,Qn:=(λy hy=>by cases hy),cnt:= ?_,dr:=(by show(0:Nat)≤1024;decide)}
 ·rw[azu hm h hL.1,hT];have hzz:∀r:Ro,(∀i,r≠ .Uw i)→EO (gJ a ps m wa) (ZP m) 1 r 0:=λr q=>awc (iw 1) q;rcases hL.old with hL|⟨k,hk,e⟩
  ·rcases hL.old with hL|⟨k,hk,e⟩
   ·have hlt:=hL.lt;rw[hl0]at hlt;rw[if_pos hlt];rcases aka hL with q|⟨i,hi,rfl,rfl⟩
    ·rw[z1 a' hL.1 (by rw[hdn];exact hlt) λi hi=>(hL.ne (ahJ hi).Uw (q i))]
     exact hzz r q
    ·rw[z2 i hi];exact⟨_,rfl,(aoc hm h hi).qT.qT⟩
   ·rw[if_neg af];refine hzz r λi q=> ?_;subst q;have:=qn hk;simp at this
  ·rw[if_neg (by simp only[uv,List.length_cons,List.length_nil]at e;omega)]
   refine hzz r λi q=> ?_;subst q;have:=qn hk;simp at this
 ·rw[hC]at hx;match s,hx with
  |0,hx=>cases hx;exact⟨hb (k:=2) rfl,hb (k:=3) rfl,(by show(0:Int)≤0∧(0:Int)≤32;decide),λq=>absurd rfl q,λ_=>rfl⟩
  |1,hx=>cases hx;exact⟨hs1 (k:=0) rfl,hs1 (k:=1) rfl,(by show(0:Int)≤1∧(1:Int)≤32;decide),λq=>(by show(0:Int)≤0∧(0:Int)<1;decide),λq=>(by cases q)⟩
  |s+2,hx=>simp at hx
 ·rw[hT]at ht;match x,ht with
  |0,ht=>cases ht;exact⟨rfl,ht1 (k:=0) rfl,ht1 (k:=1) rfl,ht1 (k:=2) rfl,(by rw[hC];show(0:Int)≤0∧(0:Int)<2;decide),(by rw[hC];show(0:Int)≤1∧(1:Int)<2;decide),λp hp=>(by cases hp),(by show 0+0≤1;decide),(by rw[hC];show 1≤2;decide)⟩
  |x+1,ht=>simp at ht
 ·have hx:([⟨-1,0,[]⟩]:List Kt)[i]?=some x:=hx;match i,hx with
  |0,hx=>cases hx;exact⟨(by show(-1:Int)≤ -1;decide),(by show(-1:Int)<0;decide),λ_=>rfl⟩
  |i+1,hx=>simp at hx
 ·have hx:([⟨-1,0,[]⟩]:List Kt)[i]?=some x:=hx;match i,hx with
  |0,hx=>cases hx;exact(by show 0≤1;decide)
  |i+1,hx=>simp at hx
 ·rw[hC,hT];show 2*2+3*1≤_;omega
end
variable{s kind:Int}
section
variable{w0 w:World}{L R:List HP}{l:Lc}{P:List dB}{bw:List Int}{ro:List Ro}{aa:List Nat}{G G':Gl}{Ws:List Wk}{n:Int}{sp st sw:Sl}{o:List (Int×Int)}
def IV.drv(h:IV l P bw ro G Ws)(ty:Ty l ro G')(Cd:uN ro ro G G' [])(hts:G'.ts=G.ts)(her:G'.err=0→G.err=0):IV l P bw ro G' Ws:=by
 have hK:∀x,x<G.ts.length→1≤G.K x→G'.K x=G.K x:=λx hx h1=>(Cd.K1 x hx bf h1).1;refine⟨h.lc,h.lg,h.acc,ty,h.wn,h.dl,h.dq,λi W hi=>(h.w i W hi).imp Cd (λx _=>by simp) her,h.dj,λx hx hk=> ?_⟩
 rw[hts]at hx ⊢;have:G'.tk x=G.tk x:=by unfold Gl.tk;rw[hts]
 rw[this];exact h.fr x hx (Cd.K0 x hx hk)
def awd(h:Ty l ro G)(hs:0≤s∧s<G.C.length):Ty l ro (G.Fw wk s)∧uN ro ro G (G.Fw wk s) []∧(G.Fw wk s).ts=G.ts∧(G.Fw wk s).C=G.C∧(G.Fw wk s).err=G.err:=by
 obtain⟨hsc,Gb⟩:=h.O7 hs.1 hs.2;have hlt:=Gb.a.lt;rw[h.len]at hlt;have tq:∀b,0≤b→(G.M.cs wk (G.nd s).at_ 0 1).1.get b=if b=(G.nd s).at_∧G.M.get (G.nd s).at_=0 then 1 else G.M.get b:=λb hb=>abi Gb.a.1 hlt hb
 have hK:∀y,y<G.ts.length→(G.Fw wk s).K y=G.K y∧(G.Fw wk s).V y=G.V y:=λy hy=>by
  have hk:=(h.qh hy).k;have hv:=(h.qh hy).v;have n1:=hk.ne Gb.a bf;have n2:=hv.ne Gb.a bf;show(G.M.cs _ _ _ _).1.get (G.tk y).jI=_∧(G.M.cs _ _ _ _).1.get ((G.tk y).jI+1)=_;rw[tq _ hk.1,if_neg (λq=>n1 q.1),tq _ hv.1,if_neg (λq=>n2 q.1)];exact⟨rfl,rfl⟩
 refine⟨h.cs Gb.a (.inr rfl),⟨⟨[],bf⟩,iw _,λ_ _ _=>rfl,λ_ _=>⟨rfl,rfl,rfl⟩,⟨[],by simp[Gl.Fw,Gl.mem]⟩,λy hy q=>by rw[←(hK y hy).1];exact q,λy hy _ _=>hK y hy,λy hy _=>hK y hy,λs' ⟨nd,h1,h2⟩=>⟨nd,h1,?_⟩⟩,rfl,rfl,rfl⟩
 show(G.M.cs _ _ _ _).1.get _≠0;rw[tq _ (JL h h1).1];split
 ·decide
 ·exact h2
def uN.We{iT ro2:List Ro}{G2:Gl}(h:uN ro iT G G' [])(k:uN iT ro2 G' G2 []):uN ro ro2 G G2 []:=h.trans k (.inr λx hx=>by cases hx)
def uN.refl(ro:List Ro)(G:Gl):uN ro ro G G []:=⟨⟨[],bf⟩,iw _,λ_ _ _=>rfl,λ_ _=>⟨rfl,rfl,rfl⟩,⟨[],bf⟩,λ_ _ q=>q,λ_ _ _ _=>⟨rfl,rfl⟩,λ_ _ _=>⟨rfl,rfl⟩,λ_ q=>q⟩
def afK(hM:G'.M=G.M)(hts:G'.ts=G.ts)(hC:G'.C=G.C):uN ro ro G G' []:=by
 cases G'
 dsimp only at hM hts hC;subst hM;subst hts;subst hC;exact⟨⟨[],bf⟩,iw _,λ_ _ _=>rfl,λ_ _=>⟨rfl,rfl,rfl⟩,⟨[],bf⟩,λ_ _ q=>q,λ_ _ _ _=>⟨rfl,rfl⟩,λ_ _ _=>⟨rfl,rfl⟩,λ_ q=>q⟩
def akb(wk:Int):∀(ids:List Int) (G:Gl),Ty l ro G→(∀x∈ids,0≤x∧x<G.C.length)→Ty l ro (sK wk G ids)∧uN ro ro G (sK wk G ids) []∧(sK wk G ids).ts=G.ts∧(sK wk G ids).C=G.C∧(sK wk G ids).err=G.err
 |[],G,h,_=>⟨h,uN.refl ro G,rfl,rfl,rfl⟩
 |s::ids,G,h,hs=>by
  obtain⟨h1,h2,h3,h4,h5⟩:=awd h (wk:=wk) (hs s bf);obtain⟨k1,k2,k3,k4,k5⟩:=akb wk ids (G.Fw wk s) h1 λx hx=>by rw[h4];exact hs x (by simp[hx])
  exact⟨k1,h2.We k2,k3.trans h3,k4.trans h4,k5.trans h5⟩
def akc(h:Ty l ro G)(hs:∀x∈ids,0≤x∧x<G.C.length):Ty l ro (UX l G ids)∧uN ro ro G (UX l G ids) []∧(UX l G ids).ts=G.ts∧(UX l G ids).C=G.C∧(UX l G ids).err=G.err:=by
 unfold UX;split
 ·exact⟨h,uN.refl ro G,rfl,rfl,rfl⟩
 ·obtain⟨k1,k2,k3,k4,k5⟩:=akb (l.wa.length:Nat) ids G h hs;exact⟨k1.ad k1.told trivial,k2.We (ahD k1 k1.told (λq=>q)),k3,k4,k5⟩
def awe(h:IV l P bw ro G Ws)(ho:∀x∈da G o,0≤x∧x<G.C.length):∃iT,IV l P bw iT (SA l P G Ws o kind n).1.1 (SA l P G Ws o kind n).1.2:=by
 unfold SA;split
 ·exact⟨ro,h⟩
 rename_i he;have he:G.err=0:=Classical.not_not.1 he;split
 ·unfold ZC;split
  ·split
   ·rename_i W hW;split
    ·rw[h.dl];obtain⟨iT,_,hr⟩:=h.step hW he;exact⟨iT,hr⟩
    ·exact⟨ro,h⟩
   ·exact⟨ro,h⟩
  ·exact⟨ro,h⟩
 split
 ·unfold ZD;split
  ·rename_i ha;have ty1:Ty l ro {G with time:=(G.time.1+n,Ko.Oy G.time.2 (G.time.1+n))}:={h.ty with ck:=h.ty.ck.adv ha,Qn:=λy hy=>h.ty.Qn y (List.mem_filter.1 hy).1}
   have av2:uN ro ro G {G with time:=(G.time.1+n,Ko.Oy G.time.2 (G.time.1+n))} []:=afK rfl rfl rfl;obtain⟨k1,k2,k3,k4,k5⟩:=akc (ids:=Ko.ids (Ko.ac4 G.time.2 (G.time.1+n))) ty1 λx hx=>by
    obtain⟨y,hy,rfl⟩:=List.mem_map.1 hx;have hm:=(List.mem_filter.1 hy).1;exact⟨h.ty.ck.ids y hm,h.ty.Qn y hm⟩
   exact⟨ro,h.drv k1 (av2.We k2) k3 (λe=>by rw[←k5];exact e)⟩
  ·exact⟨ro,h⟩
 split
 ·split
  ·rename_i hd;have ty1:Ty l ro {G with D:=G.D++[n]}:={h.ty with dr:=by show(G.D++[n]).length≤_;simp;omega}
   exact⟨ro,h.drv ty1 (afK rfl rfl rfl) rfl (λe=>e)⟩
  ·exact⟨ro,h⟩
 split
 ·unfold ZF;split
  ·rename_i hn;split
   ·exact⟨ro,h⟩
   ·have hlt:n.toNat<(da G o).length:=af;have hg:(da G o).getD n.toNat 0=(da G o)[n.toNat]'hlt:=by rw[m0,iH hlt];rfl
    obtain⟨k1,k2,k3,k4,k5⟩:=akc (ids:=[(da G o).getD n.toNat 0]) h.ty λx hx=>by
     simp only[List.mem_singleton]at hx;rw[hx,hg];exact ho _ (List.getElem_mem hlt)
    exact⟨ro,h.drv k1 k2 k3 (λe=>by rw[←k5];exact e)⟩
  ·exact⟨ro,h⟩
 ·exact⟨ro,h⟩
def aFl(hI:IV l P bw ro G Ws)(hF:iA w0 l.ps P)(hT:TZ w0)(ho:SM G o)(hs:∀x∈da G o,0≤x∧x<G.C.length)(h:qK w0 w l aa G Ws R)
  (hk:∀JI w',qK w0 w' l JI (SA l P G Ws o kind n).1.1 (SA l P G Ws o kind n).1.2 R→k (SA l P G Ws o kind n).2 w'):nO (some ⟨l.gs,0,none⟩) #[.int .i64 kind,.int .i64 n] w k:=by
 unfold nO EH;unfold SA at hk;have hdc:G.M.caller l.wa.length=true:=Ga hI.ty.stp af af;have aob:∀x:Int,0≤x→x<G.C.length→nZ G.C x=some (G.nd x)∧G.M.can l.wa.length (G.nd x).at_=true:=λx h0 h1=>by
  obtain⟨a,b⟩:=hI.ty.O7 h0 h1;exact⟨a,b.a.can hI.ty.len hdc⟩
 have htold:G.M.can l.wa.length l.told=true:=hI.ty.told.can hI.ty.len hdc;refine aM h λg1 w h=> ?_;have h:St w0 w (au g1 [.int .i64 kind,.int .i64 n]::UW l aa G::jO (pH l aa) (l.wa.zip Ws)::R):=h;have h2:=h.drop;obtain⟨sp,st,sw,h3⟩:=rO h2;refine bP (λb w=>b=decide (G.err≠0)∧St w0 w (au g1 [.int .i64 kind,.int .i64 n]::UW l aa G::jO (pH l aa) (l.wa.zip Ws)::R)) (λJ hJ=> ?_) ?_
 ·refine aU rfl (bc (aI h3 rfl (hJ _ _ ⟨?_,h⟩)));by_cases e:G.err=0<;>simp[e]
 clear h h2 h3;rintro _ w ⟨rfl,h⟩;by_cases he:G.err=0;rotate_left
 ·rw[if_pos he]at hk;exact bK (by simp[he]) (hk aa _ h.drop)
 rw[if_neg (by simp[he])]at hk
 refine aU (by simp[he]) ?_
 refine cr (g:=g1) (o:=0) h rfl ?_;refine ax (λhb=> ?_) λhb=> ?_
 ·rw[if_pos (by simpa using hb)]at hk
  refine cr (g:=g1) (o:=1) h rfl ?_;have h:=h.drop;refine ayW (P:=P) hF hT hI.lc hI.wn hI.ty.ok he (hI.ty.OI.given hI.ty.len) (hI.ty.told.given hI.ty.len) (λi W hi _ _=> ?_) h hk;rw[hI.dl];exact hI.ok hi he hF
 rw[if_neg (by simpa using hb)]at hk
 clear hb;refine ax (λhb=> ?_) λhb=> ?_
 ·rw[if_pos (by simpa using hb)]at hk
  refine cr (g:=g1) (o:=1) h rfl ?_;obtain⟨sp,st,sw,h3⟩:=rO h.drop;refine azr h3 hI.ty.Zs hI.ty.ck (λy hy=>aob _ (hI.ty.ck.ids y hy) (hI.ty.Qn y hy)) htold λw' h'=> ?_;exact hk aa w' (pE h')
 rw[if_neg (by simpa using hb)]at hk
 clear hb;refine ax (λhb=> ?_) λhb=> ?_
 ·rw[if_pos (by simpa using hb)]at hk
  obtain⟨sp,st,sw,h⟩:=rO h.swap;refine vO λgx w h=> ?_;have h:=h.fr 9;refine atu (l:=sp) h.swap (λhd w h=> ?_) (λhd w h=> ?_) hI.ty.dr
  ·rw[if_pos hd]at hk;have h:=h.bk 8;have h:=h.zm 10;exact hk aa _ (pE (G:={G with D:=G.D++[n]}) h)
  ·rw[if_neg hd]at hk;have h:=h.bk 8;have h:=h.zm 10;exact hk aa _ (pE h)
 rw[if_neg (by simpa using hb)]at hk
 clear hb;refine ax (λhb=> ?_) λhb=> ?_
 ·rw[if_pos (by simpa using hb)]at hk
  refine cr (g:=g1) (o:=1) h rfl ?_;obtain⟨sp,st,sw,h3⟩:=rO h.drop;refine azs h3 ho (λx hx=> ?_) htold λw' h'=> ?_
  ·have:=hs x hx;exact⟨by rw[hI.ty.pl];exact this,aob x this.1 this.2⟩
  ·exact hk aa w' (pE h')
 rw[if_neg (by simpa using hb)]at hk
 exact hk aa _ h.drop
end
def dqN(m:Lm):List Int:=(Bd m).map λW:Wk=>W.dq
section
variable{w0 w:World}{L R:List HP}{a:Ad}{ps:Sl}{m:Lm}{P:List dB}{l:Lc}{ro:List Ro}{r:Ro}{b:Int}
def aCK(hm:m.OK)(h:m.total≤m.cells)(hz:m.cells≤65536)(A7:wa.length=m.n):Ty (gJ a ps m wa) (ZP m) (eY m):=by
 have hR:=ahC hm h;have h2:=azw (a:=a) (ps:=ps) hm h hz A7;have hL3:k9 (ZP m) 3 (.liv 0):=(afJ (k:=3) rfl).qT.qT;have h3:Ty (gJ a ps m wa) (ZP m) (g3 m):=h2.ad hL3 trivial;have WL:sC m 0=6:=by unfold sC;simp
 have HF:RgT (gJ a ps m wa) (ZP m) 0 ⟨9,m.lg⟩:=by
  have:=aoc (a:=a) (ps:=ps) (wa:=wa) hm h (i:=0) hR.n1;rw[WL]at this;exact this.qT.qT
 have BU:=HF.place 0;have hb:=(ahJ (m:=m) (i:=0) (v:=m.n) hR.n1).bot;rw[WL]at hb;have h4:Ty (gJ a ps m wa) (ZP m) ((g3 m).mem ((((((g3 m).M.tick m.n).tick m.n).tick m.n).tick m.n).put ((Rg.mk 9 m.lg).place 0) 0)):=h3.put (M:=((((g3 m).M.tick m.n).tick m.n).tick m.n).tick m.n) ⟨rfl,rfl,bf⟩ BU (by show(0:Int)≤0∧(0:Int)<1;decide)
 exact h4.put (M:=(((((g3 m).M.tick m.n).tick m.n).tick m.n).tick m.n).put ((Rg.mk 9 m.lg).place 0) 0|>.tick m.n) ⟨rfl,rfl,by simp[Gl.mem]⟩ hb.qT.qT (by show sy 1;exact⟨e7,e7⟩)
def ZQ:(Bd m).length=m.n:=by unfold Bd JR;simp
def adF(h:(Bd m)[i]?=some W):i<m.n∧W=Wa i (sC m i):=by
 have hl:=(kB.1 h).1;rw[ZQ]at hl;refine⟨hl,?_⟩;unfold Bd JR at h;rw[l8,List.getElem?_range hl]at h;simpa using h.symm
def aod(h:i<m.n):(dqN m).getD i 0=sC m i:=by
 unfold dqN Bd JR;simp[m0,h,Wa]
def awf(hm:m.OK)(h:m.total≤m.cells)(hz:m.cells≤65536)(A7:wa.length=m.n)(hA:oW P):IV (gJ a ps m wa) P (dqN m) (ZP m) (eY m) (Bd m):=by
 refine⟨aCE hm A7,hm.log,hA,aCK hm h hz A7,by rw[ZQ];exact A7,rfl,λv hv=> ?_,λi W hi=> ?_,λi j Wi Wj x hi hj hx=> ?_,λx hx hk=> ?_⟩
 ·have hv:v<m.n:=by have hv:v<wa.length:=hv;rw[A7]at hv;exact hv
  rw[aod hv];exact(ahJ hv).qT.qT
 ·obtain⟨hl,rfl⟩:=adF hi;refine⟨rfl,by show i<wa.length;rw[A7];exact hl,by rw[aod hl];rfl,trivial,?_,λx hx=>(by cases hx),λ_=>(show([]:List Nat)=[]from rfl),λ_=>⟨λ_=>⟨rfl,rfl⟩,λq=>(by cases q),λq=>(by rcases q with q|q<;>cases q)⟩,λx hx=>(by cases hx),List.nodup_nil⟩
  show((0:Nat):Int)≤m.deep;have:=hm.deep;omega
 ·obtain⟨hl,rfl⟩:=adF hi;cases hx
 ·have hx:x<1:=hx;have hx:x=0:=af;subst hx;exact⟨FI.root hA,rfl,rfl,rfl,rfl,rfl⟩
end
def Cs(G:Gl)(Ws:List Wk):Bool:=Ws.all (λW:Wk=>W.stack.isEmpty)&&decide (2≤G.K 0)
section
variable{w0 w:World}{L R:List HP}{l:Lc}{P:List dB}{bw:List Int}{ro:List Ro}{aa:List Nat}{G:Gl}{Ws:List Wk}{n:Int}{os:List (Nat×Wk)}{f:HP→List HP}
def azx{n gj:Nat}{Wj:Wk}{c:Sl→Prop}(h:St w0 w L)[a:At L (jO (pH l aa)) os f](hn:os[n]?=some (gj,Wj))(hc:∀s:Sl,s.n=Wj.stack.length→c s):cy w (aY ⟨gj,0,none⟩ 5) c:=by
 obtain⟨R,ho,_⟩:=a.out;obtain⟨q,hq,h2⟩:=X2 (BW (ho h) hn);have hl:=qY (s:=q.ss) (vs:=q.qw.reverse) h2;have:=hq.qw.len;refine aS (g:=gj) h2 (p:=q.ss.a) (m:=q.ss.n) (k:=q.ss.c) vM ?_;exact hc _ (by simp at hl;show q.ss.n=_;omega)
def azy{a:Nat}{t:Tk}{c:Array Value→Prop}(h:St w0 w L)[a1:At L (LA aa) G.ts f](ha:aa[x]?=some a)(ht:G.ts[x]?=some t)(hc:c #[.int .i64 t.jI]):bx 1 w (aY ⟨a,0,none⟩ 3) c:=by
 obtain⟨R,ho,_⟩:=a1.out;obtain⟨so,sc,h2⟩:=sv (ho h) ha ht;refine bA (g:=a) h2 vM ?_;exact hc
def adG(hI:IV l P bw ro G Ws)(h:qK w0 w l aa G Ws R)(hk:∀w',qK w0 w' l aa G Ws R→k (Cs G Ws) w'):cA (some ⟨l.gs,0,none⟩) w k:=by
 have hlc:=hI.lc;have hwn:=hI.wn;have awg:=hlc.w16;obtain⟨sp,st,sw,h⟩:=rO h;have hn5:=qY (s:=sw) (vs:=l.wa.map pt) h;rw[List.length_map]at hn5;have hla:=KI (h.front 9 rfl);unfold cA zV;refine aU rfl ?_;refine cX ?_;refine bP (λ_ w=>Ws.all (λW:Wk=>W.stack.isEmpty)=true∧St w0 w (SL l aa G (jO (pH l aa) (l.wa.zip Ws)::R) sp st sw)) (λJ hJ=> ?_) ?_
 ·refine DN (G:=Nat) (λj i w=>i=(j:Int)∧j≤Ws.length∧(Ws.take j).all (λW:Wk=>W.stack.isEmpty)=true∧St w0 w (SL l aa G (jO (pH l aa) (l.wa.zip Ws)::R) sp st sw)) (λj=>Ws.length - j) (g:=0) ⟨rfl,af,rfl,h⟩ ?_;clear h;rintro j i w ⟨hi,hj,ha,h⟩ C hC;subst hi;by_cases hlt:j<Ws.length;rotate_left
  ·have e:j=Ws.length:=af;subst e;rw[List.take_length]at ha;exact aU (by simp;omega) (hJ _ _ ⟨ha,h⟩)
  refine bK (by simp;omega) ?_
  obtain⟨gw,hgw⟩:∃g,l.wa[j]?=some g:=⟨_,iH af⟩;have hW:Ws[j]?=some (Ws[j]'hlt):=iH hlt;refine vP (s:=sw) (vs:=l.wa.map pt) h af (x:=some ⟨gw,0,none⟩) (by rw[iZ,l8,hgw];rfl) ?_
  refine cX ?_;refine azx (l:=l) (aa:=aa) (os:=l.wa.zip Ws) (n:=j) (gj:=gw) (Wj:=Ws[j]'hlt) h (by rw[List.getElem?_zip_eq_some];exact⟨hgw,hW⟩) λs hs=> ?_
  have hne:(decide (((s.n:Nat):Int)>0))= !(Ws[j]'hlt).stack.isEmpty:=by
   rw[hs];cases (Ws[j]'hlt).stack<;>simp
  rw[hne];cases he:(Ws[j]'hlt).stack.isEmpty with
  |false=>
   refine bK rfl ?_;have hq:Cs G Ws=false:=by
    unfold Cs;have:Ws.all (λW:Wk=>W.stack.isEmpty)=false:=by
     rw[List.all_eq_false];exact⟨_,List.getElem_mem hlt,by rw[he];simp⟩
    rw[this];rfl
   rw[hq]at hk;exact hk _ (pE h)
  |true=>
   refine aU rfl ?_;refine hC (j+1) _ _ ⟨by rw[kg ⟨af,af⟩];rfl,af,?_,h⟩ af
   rw[List.take_add_one,hW,List.all_append,ha];show(true&&((Ws[j]'hlt).stack.isEmpty&&true))=true;rw[he];rfl
 clear h;rintro _ w ⟨ha,h⟩;have hx:0<G.ts.length:=hI.ty.t1;obtain⟨a,haa⟩:=Zx (aa:=aa) hla (G.xw hx);refine dZ λw h=> ?_;refine vP (s:=st) (vs:=aa.map pt) h af (x:=some ⟨a,0,none⟩) (by show(aa.map pt)[0]?=_;rw[l8,haa];rfl) ?_
 refine cX ?_;refine azy (G:=G) (x:=0) (a:=a) h haa (G.xw hx) ?_;refine cX ?_;have hT:=hI.ty.qh hx;have hl:=hI.ty.len;refine aiM (M:=G.M) h hI.ty.ok (by have:=hT.k.given hl;simpa using this) (hT.v.given hl) (hT.w.given hl) λw h=> ?_
 have e:Cs G Ws=decide (G.M.get ((G.tk 0).jI+0)≥2):=by
  unfold Cs;rw[ha,Int.add_zero];rfl
 rw[e]at hk;exact hk _ (pE h)
def ahK{k:Int→ap}(h:qK w0 w l aa G Ws R)(hk:∀w',qK w0 w' l aa G Ws R→k G.err w'):cS (some ⟨l.gs,0,none⟩) w k:=by
 obtain⟨sp,st,sw,h⟩:=rO h;unfold cS;refine aU rfl ?_;refine cX ?_;exact hk _ (pE h)
def ao9{k:Int→ap}(h:qK w0 w l aa G Ws R)(hk:∀w',qK w0 w' l aa G Ws R→k (G.M.cells.length:Nat) w'):aaD (some ⟨l.gs,0,none⟩) w k:=by
 obtain⟨sp,st,sw,h⟩:=rO h;unfold aaD aaU;refine aU rfl ?_;refine cX ?_;refine axB (M:=G.M) h ?_;exact hk _ (pE h)
def azA{k:Int→ap}(h:qK w0 w l aa G Ws R)(hk:∀w',qK w0 w' l aa G Ws R→k G.time.1 w'):mH (some ⟨l.gs,0,none⟩) w k:=by
 obtain⟨sp,st,sw,h⟩:=rO h;unfold mH CZ;refine aU rfl ?_;refine cX ?_;refine Ko.aBG (now:=G.time.1) (S:=G.time.2) h ?_;exact hk _ (pE h)
end
def ams{e:List Value}(he:0<e.length):∀n:Nat,madeCells e.toArray (n*e.length)=(dU n e).flatten.toArray:=by
 intro n;apply Array.ext
 ·simp[madeCells]
 ·intro j h1 h2;have hj:j % e.length<e.length:=Nat.mod_lt _ he;have key:∀(n j:Nat),j<n*e.length→(dU n e).flatten[j]?=e[j % e.length]?:=by
   intro n;induction n with
   |zero=>intro j hj;omega
   |succ n ih=>
    intro j hj;rw[List.replicate_succ,List.flatten_cons];by_cases hlt:j<e.length
    ·rw[tJ hlt,Nat.mod_eq_of_lt hlt]
    ·rw[u0 af,ih (j - e.length) (by rw[Nat.succ_mul]at hj;omega)]
     congr 1;exact(Nat.mod_eq_sub_mod af).symm
  have hlen:j<n*e.length:=by simpa[madeCells]using h1
  have:=key n j hlen;rw[iH hj,iH (by simpa using h2)]at this
  have:=Option.some.inj this;simp[madeCells,hj,this]
section
variable{w0 w:World}{L R:List HP}{l:Lc}{P:List dB}{bw:List Int}{ro:List Ro}{aa:List Nat}{G:Gl}{Ws:List Wk}{n:Int}{os:List (Nat×Wk)}{f:HP→List HP}{sp st sw:Sl}{o:List (Int×Int)}
def azB{P:Program}{t:TypeId}{b sz:Nat}{z:Value}{e:List Value}{n:Nat}{kl kc:IntKind}{c:Sl→ap}(h:St w0 w L)(ht:ET P t sz b z)(hz:z.cells=e.toArray)(hsz:0<sz)(he:e.length=sz)(hv:∀v∈e,v.oneCell'=true)
  (hbytes:b*n≤281474976710656) (h63:n≤9223372036854775807)
  (hc:∀s w',St w0 w' (rws sz s (dU n e)::L)→s.n=n→c s w'):xz P t (.int kl (n:Int)) (.int kc (n:Int)) w c:=by
 obtain⟨e',i,hte,hi,hs,hby,WK⟩:=ht.out;have hb':(i.bytes:Int)*(n:Int)≤281474976710656:=by
  have h:((b*n:Nat):Int)≤281474976710656:=af;rw[Int.natCast_mul]at h;rwa[hby]
 have hr:=Go.run_make (P:=P) w t e' i z hte hi WK kl kc n n af (Int.le_refl _) hb' af;unfold xz;rw[hr,hs,hz,iZ];show c ⟨some ⟨w.heap.size,0,none⟩,n,n⟩ _;refine hc _ _ (St.YA (λx hx=>by rw[(List.mem_replicate.1 hx).2];exact he) (h.new (CA w _) (F':=λk=>k=w.heap.size) ⟨λk=>by simp[Sl.au,eq_comm],qo.new (n:=n) ?_ (by simp[he]) h63 λx hx=> ?_⟩ λk hk=>by rw[hk];exact iw _)) rfl
 ·rw[←ams af,he];exact pN.new w _ e'
 ·obtain⟨y,hy,hx⟩:=List.mem_flatten.1 hx;rw[(List.mem_replicate.1 hy).2]at hx;exact hv x hx
def ahL:Nat→List (Int×Int)→List Int→List Int
 |_,[],a=>a
 |j,p::o,a=>ahL (j+1) o (a.set p.1.toNat (j:Int))
def cq(G:Gl)(o:List (Int×Int)):List Int:=ahL 0 o (dU G.ts.length 0)
def ahM{k:Sl→ap}(h:St w0 w (SL l aa G R sp st sw))(ho:SM G o)(hn:G.ts.length≤100000)(hk:∀s w',St w0 w' (bG 1 s (ints (cq G o))::SL l aa G R sp st sw)→(cq G o).length=G.ts.length→k s w'):cI (some ⟨l.gs,0,none⟩) w k:=by
 unfold cI BM;have hla:=KI (h.front 9 rfl);have hst:=qY (s:=st) (vs:=aa.map pt) h;rw[List.length_map,hla]at hst;refine cX ?_;refine AT (n:=st.n) (z:= .int .i64 0) (b:=8) h ⟨aZ,aZ⟩ rfl af af λs3 w h h3=> ?_;refine cX ?_;have e0:dU st.n (Value.int .i64 0)=ints (dU G.ts.length 0):=by simp[ints,hst]
 rw[e0]at h;refine aiO (T:=G.T) h ho.kids ho.len ho.dfs λs5 w h=> ?_;have h5n:=qY (s:=s5) (vs:=ints (o.map λp:Int×Int=>p.1)) h;simp only[ints,List.length_map]at h5n;have hol:=ho.len;refine DN (G:=Nat×List Int) (λq i w=>i=((q.1:Nat):Int)∧q.1≤o.length∧q.2.length=G.ts.length∧ahL q.1 (o.drop q.1) q.2=cq G o∧St w0 w (bG 1 s5 (ints (o.map λp:Int×Int=>p.1))::bG 1 s3 (ints q.2)::SL l aa G R sp st sw)) (λq=>o.length - q.1) (g:=(0,dU G.ts.length 0)) ⟨rfl,af,bf,rfl,h⟩ ?_;clear h;rintro⟨j,a⟩ i w ⟨hi,hj,hal,DB,h⟩ C hC;dsimp only at hi hj hal DB h;subst hi;by_cases hlt:j<o.length
 ·refine bK (by simp;omega) ?_
  have vK:=ho.ids _ (List.getElem_mem hlt);rw[List.drop_eq_getElem_cons hlt]at DB;generalize hp:o[j]'hlt=p at vK DB;have hpj:o[j]?=some p:=by rw[iH hlt,hp]
  refine vI (s:=s5) (vs:=ints (o.map λp:Int×Int=>p.1)) h af (x:=p.1) (by simp[ints,hpj]) ?_
  refine zC (s:=s3) (xs:=a) h vK.1 (by rw[hal];omega) λw h=> ?_
  refine hC (j+1,a.set p.1.toNat (j:Int)) _ _ ⟨?_,by dsimp only;omega,by simp[hal],DB,h⟩ (by dsimp only;omega)
  rw[kg ⟨af,af⟩];rfl
 ·refine aU (by simp;omega) ?_
  have e:j=o.length:=af;subst e;rw[List.drop_length]at DB;have DB:a=cq G o:=DB;subst DB;exact hk _ _ h.drop hal
end
def AO(p:Int)(k f kd v st:Int)(c:ByteArray):List Value:=[.int .i64 p,.int .i64 k,.int .i64 f,.int .i64 kd,.int .i64 v,.int .i64 st,.string c]
def rowAt(G:Gl)(r:List Int)(p:Int×Int):List Value:=
 let t:=G.tk p.1.toNat
 AO (if 0≤p.2 then r.getD p.2.toNat 0 else -1) (G.P.getD t.l7.toNat (0,0,0,false)).2.1 (t.f.getD 0 0) (G.K p.1.toNat) (if G.K p.1.toNat<2 then 0 else G.V p.1.toNat) (t.f.getD 18 0) t.gL
def Gc(G:Gl)(r:List Int)(T:List (List Value)):List (Int×Int)→List (List Value)
 |[]=>T
 |p::o=>Gc G r (T.set (r.getD p.1.toNat 0).toNat (rowAt G r p)) o
def Yn(G:Gl)(o:List (Int×Int)):List (List Value):=Gc G (cq G o) (dU G.ts.length (AO 0 0 0 0 0 0 (ByteArray.mk #[]))) o
def aFn:ET Tryz.prog 35 7 64 (.agg #[.int .i64 0,.int .i64 0,.int .i64 0,.int .i64 0,.int .i64 0,.int .i64 0,.string (ByteArray.mk #[])]):=⟨aZ,aZ⟩
def adH(G:Gl)(r:List Int):∀(a b:List (Int×Int)) (T:List (List Value)),Gc G r T (a++b)=Gc G r (Gc G r T a) b
 |[],b,T=>rfl
 |p::a,b,T=>adH G r a b _
def adI(G:Gl)(r:List Int):∀(a:List (Int×Int)) (T:List (List Value)),(Gc G r T a).length=T.length
 |[],T=>rfl
 |p::a,T=>by rw[Gc,adI G r a];simp
section
variable{w0 w:World}{L R:List HP}{l:Lc}{P:List dB}{bw:List Int}{ro:List Ro}{aa:List Nat}{G:Gl}{Ws:List Wk}{n:Int}{os:List (Nat×Wk)}{f:HP→List HP}{sp st sw:Sl}{o:List (Int×Int)}
abbrev TbP(l:Lc)(aa:List Nat)(G:Gl)(sp st sw:Sl)(g1 g7 g13:Nat)(s5 s11:Sl)(r:List Int)(T:List (List Value)):List HP:=
 [au g1 [pt l.gs],au g13 [.slice s11.a s11.n s11.c],rws 7 s11 T,au g7 [.slice s5.a s5.n s5.c],bG 1 s5 (ints r),au l.gs (l.cs sp st sw G.steps G.err),bH l.gm G.M,scp l.gc G.C,rws 4 sp (G.P.map tI),bG 1 st (aa.map pt),bG 1 sw (l.wa.map pt),ni l.gt G.time,Lw l.gd G.D,LA aa G.ts]
def awj{o j:Nat}{v:Value}{c:Prop}(h:w.cell? ⟨g,o+j,none⟩=some v)(h':w'.cell? ⟨g,o+j,none⟩=some v)(hc:c):ai 1 (aY ⟨g,o,none⟩ j) w w' c:=by rw[dg];exact abZ h h' hc
abbrev TbB(l:Lc)(aa:List Nat)(G:Gl)(sp st sw:Sl)(g1 g7 g13:Nat)(s5 s11:Sl)(r:List Int)(T:List (List Value))(a x:Nat)(so sc:Sl)(Rr:List HP):List HP:=
 au a ((G.tk x).cells so sc)::rws 2 so ((G.tk x).cJ.map A1)::bG 1 sc (ints (G.tk x).scopes)::jO tkP ((aa.zip G.ts).eraseIdx x)::au g1 [pt l.gs]::au g13 [.slice s11.a s11.n s11.c]::rws 7 s11 T::au g7 [.slice s5.a s5.n s5.c]::bG 1 s5 (ints r)::au l.gs (l.cs sp st sw G.steps G.err)::bH l.gm G.M::scp l.gc G.C::rws 4 sp (G.P.map tI)::bG 1 st (aa.map pt)::bG 1 sw (l.wa.map pt)::ni l.gt G.time::Lw l.gd G.D::Rr
def akd{k:Sl→ap}(hI:IV l P bw ro G Ws)(ho:SM G o)(hp:∀p∈o,p.2<G.ts.length)(hr:∀x∈cq G o,0≤x∧x<G.ts.length)(h:qK w0 w l aa G Ws R)
  (hk:∀s w',qK w0 w' l aa G Ws (rws 7 s (Yn G o)::R)→k s w'):dD (some ⟨l.gs,0,none⟩) w k:=by
 have hcap:=hI.ty.cap;obtain⟨sp,st,sw,h⟩:=rO h;have hla:=KI (h.front 9 rfl);unfold dD AI;refine aM h λg1 w h=> ?_;refine cX ?_;have h:=h.bk 10;refine ahM h ho af λs5 w h hlen=> ?_;have h5n:=qY (s:=s5) (vs:=ints (cq G o)) h;simp only[ints,List.length_map,hlen]at h5n;refine vO λgx w h=> ?_;obtain⟨g7,j7⟩:∃n,n=gx:=⟨_,rfl⟩;subst j7;refine azB (n:=s5.n) (e:=AO 0 0 0 0 0 0 (ByteArray.mk #[])) h aFn aZ af rfl (by intro v hv;simp[AO]at hv;rcases hv with rfl|rfl<;>rfl) af af λs11 w h h11=> ?_
 refine vO λgx w h=> ?_;obtain⟨g13,j7⟩:∃n,n=gx:=⟨_,rfl⟩;subst j7;rw[show dU s5.n (AO 0 0 0 0 0 0 (ByteArray.mk #[]))=dU G.ts.length (AO 0 0 0 0 0 0 (ByteArray.mk #[])) by rw[h5n]]at h
 have h:=h.fr 14;have h:=h.fr 7;have h:=h.bk 14;have h:St w0 w (l9 (TbP l aa G sp st sw g1 g7 g13 s5 s11 (cq G o) (Gc G (cq G o) (dU G.ts.length (AO 0 0 0 0 0 0 (ByteArray.mk #[]))) []))::Da l.gk G.T::jO (pH l aa) (l.wa.zip Ws)::R):=St.shut (A:=TbP l aa G sp st sw g1 g7 g13 s5 s11 (cq G o) _) h;refine atk (w0:=w0) (G:=λdone=>l9 (TbP l aa G sp st sw g1 g7 g13 s5 s11 (cq G o) (Gc G (cq G o) (dU G.ts.length (AO 0 0 0 0 0 0 (ByteArray.mk #[]))) done))) (l:=o) h ho.kids ho.len ho.dfs (λdone rest p w Rr C hd h hc=> ?_) λD w h=> ?_
 ·have hmem:p∈o:=by rw[hd];simp
  have vK:=ho.ids p hmem;have hpp:=hp p hmem;have qX:p.1.toNat<G.ts.length:=af;have h:=St.open h;simp only[List.cons_append,List.nil_append]at h;obtain⟨a,ha⟩:=Zx (aa:=aa) hla (G.xw qX);have hT:=hI.ty.qh qX;have hl:=hI.ty.len;have hin:=hT.inn;have BU:=hI.ty.pl;refine cX ?_;refine vP (s:=st) (vs:=aa.map pt) h vK.1 (x:=some ⟨a,0,none⟩) (by rw[l8,ha];rfl) ?_
  have h:=h.fr 13;obtain⟨so,sc,h⟩:=awa h ha qX;refine dZ λw h=> ?_;refine aiM (M:=G.M) h hI.ty.ok (by have:=hT.k.given hl;simpa using this) (hT.v.given hl) (hT.w.given hl) λw h=> ?_
  rw[Int.add_zero];have hP:G.P[(G.tk p.1.toNat).l7.toNat]?=some (G.P.getD (G.tk p.1.toNat).l7.toNat (0,0,0,false)):=by
   rw[m0,iH af];rfl
  have hPc:(G.P.map tI)[(G.tk p.1.toNat).l7.toNat]?=some (tI (G.P.getD (G.tk p.1.toNat).l7.toNat (0,0,0,false))):=by rw[l8,hP];rfl
  generalize aFp:G.P.getD (G.tk p.1.toNat).l7.toNat (0,0,0,false)=pl at hPc;clear hP;have hT2:(Gc G (cq G o) (dU G.ts.length (AO 0 0 0 0 0 0 (ByteArray.mk #[]))) done).length=G.ts.length:=by rw[adI,List.length_replicate]
  generalize hTT:Gc G (cq G o) (dU G.ts.length (AO 0 0 0 0 0 0 (ByteArray.mk #[]))) done=TT at h hT2;refine bP (fun(ad:Addr) w=> ∃g,ad=⟨g,0,none⟩∧St w0 w (au g (AO (-1) pl.2.1 ((G.tk p.1.toNat).f.getD 0 0) (G.K p.1.toNat) (if G.K p.1.toNat<2 then 0 else G.V p.1.toNat) ((G.tk p.1.toNat).f.getD 18 0) (G.tk p.1.toNat).gL)::TbB l aa G sp st sw g1 g7 g13 s5 s11 (cq G o) TT a p.1.toNat so sc Rr)) (λJ hJ=> ?_) ?_
  ·refine dZ λw h=> ?_;refine rix (sz:=4) (s:=sp) (es:=G.P.map tI) h hin.1 hPc af λgq oq hr _=> ?_;refine uZ (by rw[dg];exact hr h hPc 1 _ rfl) ?_
   have hold:=h;with_reducible repeat' (first|refine bc ?_|refine u_T h ?_|refine Z7 h ?_|refine QU h λw h=> ?_|refine aM h λgx w h=> ?_|refine nP h ?_|refine sR h ?_|refine y8 ?_ ?_|refine an3 hold h vM ?_|refine awj (hr hold hPc 1 _ rfl) (hr h hPc 1 _ rfl) ?_|fail)
   all_goals exact hJ _ _ ⟨_,rfl,h⟩
  clear h;rintro _ w ⟨g,rfl,h⟩;have hr1:(cq G o)[p.1.toNat]?=some ((cq G o).getD p.1.toNat 0):=by rw[m0,iH af];rfl
  have hri:=hr _ (qn hr1);have aAq:(ints (cq G o))[p.1.toNat]?=some (.int .i64 ((cq G o).getD p.1.toNat 0)):=by unfold ints;rw[l8,hr1];rfl
  have ab4:∀(w:World) (q:Int),q=(if 0≤p.2 then(cq G o).getD p.2.toNat 0 else -1)→St w0 w (TbB l aa G sp st sw g1 g7 g13 s5 s11 (cq G o) (TT.set ((cq G o).getD p.1.toNat 0).toNat (AO q pl.2.1 ((G.tk p.1.toNat).f.getD 0 0) (G.K p.1.toNat) (if G.K p.1.toNat<2 then 0 else G.V p.1.toNat) ((G.tk p.1.toNat).f.getD 18 0) (G.tk p.1.toNat).gL)) a p.1.toNat so sc Rr)→C w:=by
   intro w q hq h;have h:=qg hla ha (G.xw qX) h;have h:=h.bk 13;refine hc w (St.shut (A:=TbP l aa G sp st sw g1 g7 g13 s5 s11 (cq G o) _) ?_);rw[adH,hTT];have e:rowAt G (cq G o) p=AO q pl.2.1 ((G.tk p.1.toNat).f.getD 0 0) (G.K p.1.toNat) (if G.K p.1.toNat<2 then 0 else G.V p.1.toNat) ((G.tk p.1.toNat).f.getD 18 0) (G.tk p.1.toNat).gL:=by
    unfold rowAt;rw[hq,←aFp]
   show St w0 w (TbP l aa G sp st sw g1 g7 g13 s5 s11 (cq G o) (TT.set ((cq G o).getD p.1.toNat 0).toNat (rowAt G (cq G o) p))++Rr);rw[e];exact h
  refine ax (λhb=> ?_) λhb=> ?_
  ·have hb:0≤p.2:=by simpa using hb
   have hr2:(cq G o)[p.2.toNat]?=some ((cq G o).getD p.2.toNat 0):=by rw[m0,iH af];rfl
   refine cX ?_;refine vI (s:=s5) (vs:=ints (cq G o)) h hb (x:=(cq G o).getD p.2.toNat 0) (by unfold ints;rw[l8,hr2];rfl) ?_
   refine dZ λw h=> ?_;refine vI (s:=s5) (vs:=ints (cq G o)) h vK.1 (x:=(cq G o).getD p.1.toNat 0) aAq ?_;refine cX ?_;refine rW (s:=s11) (es:=TT) (e:=TT[((cq G o).getD p.1.toNat 0).toNat]' af) h hri.1 (iH _) af rfl ?_ λw h=> ?_
   ·intro v hv;simp[AO]at hv;rcases hv with rfl|rfl|rfl|rfl|rfl|rfl|rfl<;>rfl
   have h:=h.drop;refine ab4 w _ (if_pos hb).symm ?_;exact h
  ·have hb:¬0≤p.2:=by simpa using hb
   refine dZ λw h=> ?_;refine vI (s:=s5) (vs:=ints (cq G o)) h vK.1 (x:=(cq G o).getD p.1.toNat 0) aAq ?_;refine cX ?_;refine rW (s:=s11) (es:=TT) (e:=TT[((cq G o).getD p.1.toNat 0).toNat]' af) h hri.1 (iH _) af rfl ?_ λw h=> ?_
   ·intro v hv;simp[AO]at hv;rcases hv with rfl|rfl|rfl|rfl|rfl|rfl|rfl<;>rfl
   have h:=h.drop;refine ab4 w _ (if_neg hb).symm ?_;exact h
 ·have h:=h.front 1 rfl;simp only[I7]at h;have h:=St.open h;simp only[List.cons_append,List.nil_append]at h;refine cX ?_;have h:=QR h;have h:=h.fr 15;have h:=LK h;refine LL h λw h=>hk s11 w ?_;have h:=h.zm 0;have h:=h.zm 0;have h:=h.zm 1;have h:=h.zm 1;have h:=h.fr 10;have h:=h.fr 3;have h:=h.fr 3;have h:=h.fr 3;have h:=h.bk 11;exact pE h
end
def Pw(s:Sl):List dB:=[⟨0,s,[[16,0,0,0,0]]⟩]
def mw:Lm:=⟨1,0,65536,1048576,1000,3⟩
def afL(G:Gl):Bool:=(match G.T with|[t]=>decide (t.parent= -1)&&t.kids.isEmpty|_=>false)&&decide (G.ts.length=1)&&(decide ((G.tk 0).scopes.length≤1)&&(G.tk 0).scopes.all λx:Int=>decide (0≤x∧x<(G.C.length:Nat)))
def oR:List (Int×Int):=[(0, -1)]
def runN(l:Lc)(P:List dB):Nat→Gl→List Wk→Option (Gl×List Wk)
 |0,_,_=>none
 |n+1,G,Ws=>bif afL G then(bif Cs G Ws then some (G,Ws)else bif decide (G.err=0)then runN l P n (SA l P G Ws oR 0 0).1.1 (SA l P G Ws oR 0 0).1.2 else none)else none
def adL{G:Gl}{l:Lc}{ro:List Ro}(hT:Ty l ro G)(h:afL G=true):SM G oR∧∀x∈da G oR,0≤x∧x<G.C.length:=by
 unfold afL at h;simp only[iY,decide_eq_true_eq,tL]at h;obtain⟨⟨h1,h2⟩,h3,h4⟩:=h;have hl:da G oR=0::(G.tk 0).scopes:=by
  unfold da oR;simp
 have hT1:∃t,G.T=[t]∧t.parent= -1∧t.kids=[]:=by
  split at h1
  ·rename_i t e;simp at h1;exact⟨t,e,h1.1,by simpa using h1.2⟩
  ·cases h1
 obtain⟨t,e,hp,hk⟩:=hT1;refine⟨⟨λi x hx=> ?_,e7,?_,λp hp=> ?_,by rw[hl];simp;omega⟩,λx hx=> ?_⟩
 ·rw[e]at hx;match i,hx with
  |0,hx=>cases hx;rw[hk];simp
  |i+1,hx=>simp at hx
 ·rw[e];rw[if_neg bf];unfold oR;rw[←hp];refine Dfs.cons (t:=t) rfl ?_;rw[hk];exact .nil
 ·simp[oR]at hp;subst hp;exact⟨e7,by show(0:Int)< _;omega⟩
 ·rw[hl]at hx;have:=hT.c1;rcases List.mem_cons.1 hx with rfl|hx
  ·omega
  ·exact h4 x hx
section
variable{w0 w:World}{L R:List HP}{l:Lc}{P:List dB}{bw:List Int}{ro:List Ro}{aa:List Nat}{G:Gl}{Ws:List Wk}{n:Nat}
def aqJ{k:Int→ap}{times:Int}{r:Gl×List Wk}(hF:iA w0 l.ps P)(hT:TZ w0)(ht:(n:Int)≤times)(ht2:times≤1000000)(hI:IV l P bw ro G Ws)(hr:runN l P n G Ws=some r)(h:qK w0 w l aa G Ws R)
  (hk:∀z JI iT w',IV l P bw iT r.1 r.2→afL r.1=true→qK w0 w' l JI r.1 r.2 R→k z w'):iF (some ⟨l.gs,0,none⟩) 1 times w k:=by
 unfold iF xj;refine DN (G:=Nat×Gl×List Wk×List Nat×List Ro) (λq x w=>(0≤x.2∧x.2+q.1≤times)∧IV l P bw q.2.2.2.2 q.2.1 q.2.2.1∧runN l P q.1 q.2.1 q.2.2.1=some r∧qK w0 w l q.2.2.2.1 q.2.1 q.2.2.1 R) (λq=>q.1) (g:=(n,G,Ws,aa,ro)) ⟨⟨by show(0:Int)≤0;decide,by show(0:Int)+n≤_;omega⟩,hI,hr,h⟩ ?_
 clear h hr hI;rintro⟨n,G,Ws,aa,ro⟩ ⟨x1,x2⟩ w ⟨hx,hI,hr,h⟩ C hC;dsimp only at hx hI hr h ⊢;cases n with
 |zero=>cases hr
 |succ n=>
  unfold runN at hr;cases h1:afL G with
  |false=>rw[h1]at hr;cases hr
  |true=>
   rw[h1]at hr;obtain⟨ho,hs⟩:=adL hI.ty h1;refine bP (fun(b:Bool) w=>b=(!Cs G Ws&&decide (G.err=0))∧qK w0 w l aa G Ws R) (λJ hJ=> ?_) ?_
   ·refine bK (by simp;omega) ?_
    refine adG hI h λw h=> ?_;cases hq:Cs G Ws with
    |true=>exact aU rfl (hJ _ _ ⟨by rw[hq];rfl,h⟩)
    |false=>
     refine bK rfl ?_;refine ahK h λw h=> ?_;exact hJ _ _ ⟨by rw[hq];rfl,h⟩
   clear h;rintro _ w ⟨rfl,h⟩;cases hq:Cs G Ws with
   |true=>
    rw[hq]at hr;cases hr
    exact aU rfl (hk _ aa ro w hI h1 h)
   |false=>
    rw[hq]at hr;by_cases he:G.err=0;rotate_left
    ·have hf:decide (G.err=0)=false:=by simp[he]
     rw[hf]at hr;cases hr
    have hf:decide (G.err=0)=true:=by simp[he]
    rw[hf]at hr ⊢;have hr:runN l P n (SA l P G Ws oR 0 0).1.1 (SA l P G Ws oR 0 0).1.2=some r:=hr;refine bK rfl ?_;refine⟨2,?_⟩;unfold jV;refine bK rfl ?_;refine aFl hI hF hT ho hs h λJI w h=> ?_;unfold jV;refine aU rfl ?_;obtain⟨iT,hI'⟩:=awe (kind:=0) (n:=0) hI hs;refine hC (n,_,_,JI,iT) _ _ ⟨?_,hI',hr,h⟩ (by dsimp only;omega)
    dsimp only;rw[dh ⟨af,af⟩];push_cast at hx;omega
end
variable{ps:Sl}
def ran{a:Ad}{sc:Sl}:(runN (gJ a ps mw [gw]) (Pw sc) 60 (eY mw) (Bd mw)).map (λr:Gl×List Wk=>(r.1.err,r.1.ts.length,cq r.1 oR,Yn r.1 oR,Cs r.1 r.2))=some (0,1,[0],[AO (-1) 0 0 2 0 1 (ByteArray.mk #[])],true):=by kernel_rfl
open Ck (oW qx my tj Su qf mZ)
def aW:List (List Int):=[[16,0,0,0,0]]
def azE:qx aW 0=[0]:=(Ck.ajo (l:=aW) (aX:=0) 1 e7 e7 aZ).trans aZ
def aoe(s:Sl):tj (Pw s)=(0,0,0):=Ck.alH (s:=s) (l:=aW) (r:=none) azE aZ aZ
def azF(s:Sl):oW (Pw s):=Ck.afq.1 (by rw[aoe])
def aCM(s:Sl):Su (tj (Pw s))=[0,0,0]:=by rw[aoe];rfl
def awo:mw.OK:=⟨e7,e7,e7,e7,e7,e7⟩
def akf:mw.total≤mw.cells∧mw.cells≤65536∧mw.n=1:=⟨of_decide_eq_true aZ,of_decide_eq_true aZ,aZ⟩
def aFu{a:Ad}{sc:Sl}:∃r:Gl×List Wk,runN (gJ a ps mw [gw]) (Pw sc) 60 (eY mw) (Bd mw)=some r∧r.1.err=0∧r.1.ts.length=1∧cq r.1 oR=[0]∧Yn r.1 oR=[AO (-1) 0 0 2 0 1 (ByteArray.mk #[])]∧Cs r.1 r.2=true:=by
 have h:=ran (a:=a) (ps:=ps) (sc:=sc) (gw:=gw);generalize runN (gJ a ps mw [gw]) (Pw sc) 60 (eY mw) (Bd mw)=x at h ⊢;cases x with
 |none=>cases h
 |some r=>
  have h:=Option.some.inj h;simp only[Prod.mk.injEq]at h;exact⟨r,rfl,h⟩
variable{w:World}
def TZ.ext(h:TZ w)(he:Ext w w'):TZ w':=λi hi=>Ext.cell he (h i hi)
def aqK{sz:Nat}{l:List Value}{n:Nat}(hb:pN w g l.toArray)(hn:l.length=n*sz)(c:Nat):Hj sz w ⟨some ⟨g,0,none⟩,n,c⟩ l:=
 ⟨hn,λi v hv=>⟨_,rfl,by rw[dg,hb.cell];simpa using hv⟩⟩
def azG{ga gf c1 c3:Nat}(AR:pN w ga (eZ aW.flatten))(hb:pN w gf #[.int .i64 0,.slice (some ⟨ga,0,none⟩) 1 c1]):iA w ⟨some ⟨gf,0,none⟩,1,c3⟩ (Pw ⟨some ⟨ga,0,none⟩,1,c1⟩):=by
 have h5:∀x∈aW,x.length=5∧∀y∈x,sy y:=e7;refine⟨Ck.auC (aqK (n:=1) hb rfl _) e7 (by intro e he;simp[dB.cells,Pw]at he;subst he;rfl),λx hx=> ?_,by simp[reachBytes,Pw]⟩
 simp[Pw]at hx;subst hx;refine⟨(by decide:sy 0),Ck.apE (l:=aW) AR h5 (λi hi j hj=> ?_) (by simp[reachBytes,aW])⟩
 rw[Nat.zero_add,Ck.Tc (λe he=>(h5 e he).1) (e:=aW.getD i []) (by simp[hi]) hj]
def aof(r:List Value)(p a b c d e:Int)(t:ByteArray){k:Bool→Prop}(hk:k true):Tj ([(0,0)] ++([(1,0)] ++([(2,0)] ++([(3,0)] ++([(4,0)] ++([(5,0)] ++([(6,2)] ++[]))))))) (AO p a b c d e t).toArray (AO p a b c d e t).toArray k:=by
 unfold Tj;have:oZ (AO p a b c d e t).toArray (AO p a b c d e t).toArray ([(0,0)] ++([(1,0)] ++([(2,0)] ++([(3,0)] ++([(4,0)] ++([(5,0)] ++([(6,2)] ++[])))))))=some true:=by
  simp[oZ,eqC,AO]
 rw[this];exact hk
section
variable{w0:World}{L R:List HP}
def adM{b:Int}{k:Array Value→ap}(h:St w0 w L)(hk:∀w',St w0 w' L→k (lmA ⟨b,s,65536,1048576,1000,3⟩) w'):dc b s w k:=by
 unfold dc;refine aM h λg w h=> ?_;refine dZ λw h=> ?_;exact hk _ h.drop
def azH{sc:Sl}(hT:TZ w0)(hF:iA w0 ps (Pw sc)){a:Ad}{aa:List Nat}(A7:wa.length=1)(h:qK w0 w (gJ a ps mw wa) aa (eY mw) (Bd mw) [])
  (hk:∀w',Ext w0 w'→k true w'):iF (some ⟨a.gs,0,none⟩) 1 9000 w λi w33=>cA (some ⟨a.gs,0,none⟩) w33 λb34 w35=>an b34 (cS (some ⟨a.gs,0,none⟩) w35 λi36 w37=>an (i36==(0:Int)) (dD (some ⟨a.gs,0,none⟩) w37 λs38 w39=>
   kT #[(.int .i64 (0:Int)),(.int .i64 (0:Int)),(.int .i64 (0:Int)),(.int .i64 (0:Int)),(.int .i64 (0:Int)),(.int .i64 (0:Int)),(.string (ByteArray.mk #[]))] 0 7 #[(.int .i64 (-(1:Int))),(.int .i64 (0:Int)),(.int .i64 (0:Int)),(.int .i64 (2:Int)),(.int .i64 (0:Int)),(.int .i64 (1:Int)),(.string (ByteArray.mk #[]))] λcs40=>
    aE w39 cs40 49 λa41 w42=>dF s38 (Sl.mk (some a41) 1 1) w42 λb43 w44=>(k b43 w44)) ((k false w37))) ((k false w35)):=by
 obtain⟨gw,rfl⟩:∃gw,wa=[gw]:=by
  match wa,A7 with
  |[gw],_=>exact⟨gw,rfl⟩
 have hI:=awf (a:=a) (ps:=ps) (wa:=[gw]) awo akf.1 akf.2.1 akf.2.2.symm (azF sc);obtain⟨r,hr,e1,e2,e3,e4,e5⟩:=aFu (a:=a) (ps:=ps) (sc:=sc) (gw:=gw);generalize eY mw=G0 at hI hr h;generalize Bd mw=W0 at hI hr h;refine aqJ (l:=gJ a ps mw [gw]) (P:=Pw sc) (n:=60) hF hT (by show(60:Int)≤9000;decide) (by show(9000:Int)≤1000000;decide) hI hr h λz JI iT w hI h1 h=> ?_
 obtain⟨ho,hs⟩:=adL hI.ty h1;refine adG (l:=gJ a ps mw [gw]) hI h λw h=> ?_;rw[e5];refine bK rfl ?_;refine ahK (l:=gJ a ps mw [gw]) h λw h=> ?_;rw[e1];refine bK rfl ?_;refine akd (l:=gJ a ps mw [gw]) hI ho (λp hp=>by simp[oR]at hp;subst hp;show(-1:Int)< _;omega) (λx hx=>by rw[e3]at hx;simp at hx;subst hx;omega) h λs w h=> ?_
 rw[e4]at h;refine qL (AO (-1) 0 0 2 0 1 (ByteArray.mk #[])).toArray rfl aZ ?_;refine aM h λg w h=> ?_;have h:=Yc (sz:=7) h rfl (by intro v hv;simp[AO]at hv;rcases hv with rfl|rfl|rfl|rfl|rfl|rfl<;>rfl)
 have hn:=(pg (sz:=7) (s:=s) (es:=[AO (-1) 0 0 2 0 1 (ByteArray.mk #[])]) h).2 e7;have hn:s.n=1:=hn.symm;unfold dF;rw[hn];refine aU rfl ?_;refine⟨2,?_⟩;unfold jV;refine bK rfl ?_;refine dZ λw h=> ?_;refine rA (sz:=7) (s:=s) (es:=[AO (-1) 0 0 2 0 1 (ByteArray.mk #[])]) (e:=AO (-1) 0 0 2 0 1 (ByteArray.mk #[])) h e7 rfl e7 ?_;refine rA (sz:=7) (s:=⟨some ⟨g,0,none⟩,1,1⟩) (es:=[AO (-1) 0 0 2 0 1 (ByteArray.mk #[])]) (e:=AO (-1) 0 0 2 0 1 (ByteArray.mk #[])) h e7 rfl e7 ?_;refine aof [] _ _ _ _ _ _ _ (aU rfl ?_);unfold jV;refine aU rfl ?_;exact hk _ h.ext
def aCN{w1:World}{sc:Sl}{k:Option Addr×Int→ap}(hF:iA w1 ps (Pw sc))(hk:∀(a:Ad) (wa aa:List Nat) w',wa.length=1→qK w1 w' (gJ a ps mw wa) aa (eY mw) (Bd mw) []→k (some ⟨a.gs,0,none⟩,0) w'):kF #[.slice ps.a ps.n ps.c] (lmA mw) w1 k:=
 ahh (m:=mw) hF (.nil w1) (λ_ _ _ a wa aa w' A7 h=>hk a wa aa w' (A7.trans akf.2.2) h) (λq=>(q (aCM sc)).elim) (λ_ q=>(q awo).elim) λ_ _ q=>(q akf.1).elim
def awp{k:Int→ap}(h:k 9000 w):sA 1 1 1 w k:=aU rfl h
def awq(hT:TZ w0)(hk:∀w',Ext w0 w'→k true w'):iv w0 k:=by
 unfold iv yZ;refine qL (eZ aW.flatten) rfl aZ ?_;refine aM (.nil w0) λg2 w h=>aM h λg4 w h=> ?_;refine dZ λw h=> ?_;refine bP (fun(x:Option Addr×Int) w'=> ∃w1 ps sc,∃(a:Ad) (wa aa:List Nat),x=(some ⟨a.gs,0,none⟩,0)∧Ext w0 w1∧iA w1 ps (Pw sc)∧wa.length=1∧qK w1 w' (gJ a ps mw wa) aa (eY mw) (Bd mw) []) (λJ hJ=> ?_) ?_
 ·have ab4:∀(w:World) (gx:Nat) (L:List HP) (f1 f2:HP→List HP) (h:St w0 w L) (a1:At L (au g2) (eZ aW.flatten).toList f1) (a2:At L (au gx) [.int .i64 0,.slice (some ⟨g2,0,none⟩) 1 1] f2),kF #[.slice (some ⟨gx,0,none⟩) 1 1] (lmA mw) w λx w=>J (x.1,x.2) w:=by
   intro w gx L f1 f2 h a1 a2;have hF:=azG (c1:=1) (c3:=1) (h.au (g:=g2)) (h.au (g:=gx));refine aCN hF λa wa aa w' A7 h'=> ?_;exact hJ _ _ ⟨_,_,_,a,wa,aa,rfl,h.ext,hF,A7,h'⟩
  with_reducible repeat' (first|refine cH h λw h=> ?_|refine Vh h ?_|refine sR h ?_|refine y8 ?_ ?_|refine adM h λw h=> ?_|fail)
  ·refine qL #[.int .i64 0,.slice (some ⟨g2,0,none⟩) 1 1] rfl aZ ?_;with_reducible repeat' (first|refine aM h λgx w h=> ?_|refine sR h ?_|refine y8 ?_ ?_|refine adM h λw h=> ?_|fail)
   all_goals exact ab4 _ _ _ _ _ h inferInstance inferInstance
  ·refine qL #[.int .i64 0,.slice (some ⟨g2,0,none⟩) 1 1] rfl aZ ?_;refine vO λgx w h=> ?_;exact ab4 _ _ _ _ _ h inferInstance inferInstance
 clear h;rintro _ w ⟨w1,ps,sc,a,wa,aa,rfl,he,hF,A7,h⟩;refine aU rfl ?_;refine awp ?_;exact azH (hT.ext he) hF A7 h λw' hx=>hk w' (he.trans hx)
end
section
variable{w0:World}{L:List HP}
end
structure KtT (T:List Kt):Prop where
 one:1≤T.length
 root:∀y,T[0]?=some y→y.parent= -1
 kid:∀(i:Nat) x,T[i]?=some x→∀k∈x.kids,(i:Int)<k∧k<T.length∧∃y,T[k.toNat]?=some y∧y.parent=i
 rz:∀(j:Nat) y,T[j]?=some y→1≤j→0≤y.parent∧y.parent<j∧∃x,T[y.parent.toNat]?=some x∧(j:Int)∈x.kids
 nd:∀(i:Nat) x,T[i]?=some x→x.kids.Nodup
structure aK8 (T:List Kt) (v st:List Int):Prop where
 nd:(v++st).Nodup
 rg:∀x∈v++st,0≤x∧x<T.length
 pr:∀x∈v++st,x≠0→∃y,T[x.toNat]?=some y∧y.parent∈v
 kd:∀x∈v,∀t,T[x.toNat]?=some t→∀k∈t.kids,k∈v++st
 zero:(0:Int)∈v++st
def acW{n:Nat}{l:List Int}(h:l.Nodup)(hr:∀x∈l,0≤x∧x<n):l.length≤n:=by
 have h2:(l.map Int.toNat).Nodup:=by
  unfold List.Nodup at h ⊢;rw[List.pairwise_map];refine List.Pairwise.imp_of_mem (fun{a b} ha hb hab=> ?_) h;have h1:=hr a ha;have h2:=hr b hb;omega
 have:=ML h2 λx hx=>by
  obtain⟨y,hy,rfl⟩:=List.mem_map.1 hx;have:=hr y hy;show y.toNat<n;omega
 simpa using this
variable{T:List Kt}
def aDO(hT:KtT T):∀(n:Nat) (v st:List Int),T.length - v.length≤n→aK8 T v st→∃l,Dfs T st l∧aK8 T (v++l.map (λp=>p.1)) []∧∀p∈l,∃t,T[p.1.toNat]?=some t∧p.2=t.parent:=by
 intro n;induction n with
 |zero=>
  intro v st hn h;have hl:=acW h.nd h.rg;rw[uv]at hl;cases st with
  |nil=>exact⟨[],.nil,by simpa using h,λp hp=>by cases hp⟩
  |cons x st=>simp at hl;omega
 |succ n ih=>
  intro v st hn h;cases st with
  |nil=>exact⟨[],.nil,by simpa using h,λp hp=>by cases hp⟩
  |cons x st=>
   have hx:=h.rg x bf;have hl:=acW h.nd h.rg;simp only[uv,List.length_cons]at hl;obtain⟨t,ht⟩:∃t,T[x.toNat]?=some t:=⟨_,iH af⟩;have hnd:=List.nodup_append.1 h.nd;have aD6:=List.nodup_cons.1 hnd.2.1;have hxv:x ∉ v:=λq=>hnd.2.2 x q x bf rfl;have hnew:∀k∈t.kids,k ∉ v++x::st:=by
    intro k hk hq;obtain⟨h1,h2,y,hy,hyp⟩:=hT.kid _ _ ht k hk;obtain⟨y',hy',hp⟩:=h.pr k hq af;rw[hy]at hy';obtain rfl:=Option.some.inj hy';rw[hyp]at hp;have:((x.toNat:Nat):Int)=x:=af;rw[this]at hp;exact hxv hp
   have hds:aK8 T (v++[x]) (t.kids++st):=by
    refine⟨?_,λz hz=> ?_,λz hz HA=> ?_,λz hz t' ht' k hk=> ?_,?_⟩
    ·rw[List.nodup_append];refine⟨?_,?_,?_⟩
     ·rw[List.nodup_append];exact⟨hnd.1,bf,λa ha b hb=>by simp at hb;subst hb;intro e;subst e;exact hxv ha⟩
     ·rw[List.nodup_append];refine⟨hT.nd _ _ ht,aD6.2,λa ha b hb e=> ?_⟩;subst e;exact hnew a ha (by simp[hb])
     ·intro a ha b hb e;subst e;rcases zw.1 ha with ha|ha
      ·rcases zw.1 hb with hb|hb
       ·exact hnew a hb (by simp[ha])
       ·exact hnd.2.2 a ha a (by simp[hb]) rfl
      ·simp at ha;subst ha;rcases zw.1 hb with hb|hb
       ·exact hnew a hb bf
       ·exact aD6.1 hb
    ·simp only[zw,List.mem_singleton]at hz;rcases hz with(hz|rfl)|hz|hz
     ·exact h.rg z (by simp[hz])
     ·exact hx
     ·have:=hT.kid _ _ ht z hz;omega
     ·exact h.rg z (by simp[hz])
    ·simp only[zw,List.mem_singleton]at hz;rcases hz with(hz|rfl)|hz|hz
     ·obtain⟨y,hy,hp⟩:=h.pr z (by simp[hz]) HA
      exact⟨y,hy,by simp[hp]⟩
     ·obtain⟨y,hy,hp⟩:=h.pr z bf HA;exact⟨y,hy,by simp[hp]⟩
     ·obtain⟨_,_,y,hy,hp⟩:=hT.kid _ _ ht z hz;refine⟨y,hy,?_⟩;rw[hp];have:((x.toNat:Nat):Int)=x:=af;simp[this]
     ·obtain⟨y,hy,hp⟩:=h.pr z (by simp[hz]) HA
      exact⟨y,hy,by simp[hp]⟩
    ·simp only[zw,List.mem_singleton]at hz ⊢;rcases hz with hz|rfl
     ·have:=h.kd z hz t' ht' k hk;simp only[zw,List.mem_cons]at this;rcases this with h1|h1|h1
      ·exact .inl (.inl h1)
      ·exact .inl (.inr h1)
      ·exact .inr (.inr h1)
     ·rw[ht]at ht';obtain rfl:=Option.some.inj ht';exact .inr (.inl hk)
    ·have:=h.zero;simp only[zw,List.mem_cons]at this ⊢;rcases this with h1|h1|h1
     ·exact .inl (.inl h1)
     ·exact .inl (.inr (.inl h1))
     ·exact .inr (.inr h1)
   obtain⟨l,h1,h2,h3⟩:=ih (v++[x]) (t.kids++st) (by simp only[uv,List.length_singleton];omega) hds
   refine⟨(x,t.parent)::l,.cons (by unfold GV;rw[if_pos hx.1];exact ht) h1,?_,λp hp=> ?_⟩
   ·simpa using h2
   ·rcases List.mem_cons.1 hp with rfl|hp
    ·exact⟨t,ht,rfl⟩
    ·exact h3 p hp
def aDP(hT:KtT T){v:List Int}(h:aK8 T v []):∀j:Nat,j<T.length→(j:Int)∈v:=by
 intro j;induction j using Nat.strongRecOn with
 |_ j ih=>
  intro hj;by_cases h0:j=0
  ·subst h0;simpa using h.zero
  ·obtain⟨y,hy⟩:∃y,T[j]?=some y:=⟨_,iH hj⟩;obtain⟨h1,h2,x,hx,hk⟩:=hT.rz j y hy af;have hv:=ih y.parent.toNat af af;have e:((y.parent.toNat:Nat):Int)=y.parent:=af;rw[e]at hv;simpa using h.kd y.parent hv x hx j hk
def aDQ(hT:KtT T):∃o,Dfs T [0] o∧(o.map λp=>p.1).Nodup∧(∀p∈o,(0≤p.1∧p.1<T.length)∧∃t,T[p.1.toNat]?=some t∧p.2=t.parent)∧∀j:Nat,j<T.length→(j:Int)∈o.map λp=>p.1:=by
 have h0:aK8 T [] [0]:=by
  have:=hT.one;exact⟨bf,λx hx=>by simp at hx;subst hx;omega,λx hx h0=>by simp at hx;exact(h0 hx).elim,λx hx=>(by cases hx),bf⟩
 obtain⟨o,h1,h2,h3⟩:=aDO hT _ [] [0] (iw _) h0;rw[List.nil_append]at h2;refine⟨o,h1,by simpa using h2.nd,λp hp=>⟨?_,h3 p hp⟩,aDP hT h2⟩
 exact h2.rg p.1 (by simp;exact⟨p.2,hp⟩)
def KtT.add{p:Int}(hT:KtT T)(h0:0≤p)(h1:p<T.length):KtT (Hz T p):=by
 obtain⟨t,ht⟩:∃t,T[p.toNat]?=some t:=⟨_,iH af⟩;have e:Hz T p=T.set p.toNat {t with kids:=t.kids++[(T.length:Int)]}++[⟨p,t.kids.length,[]⟩]:=by
  unfold Hz GV;rw[if_pos h0,ht]
 rw[e];have hlen:(T.set p.toNat {t with kids:=t.kids++[(T.length:Int)]}++[(⟨p,t.kids.length,[]⟩:Kt)]).length=T.length+1:=by simp
 have tq:∀(i:Nat) x,(T.set p.toNat {t with kids:=t.kids++[(T.length:Int)]}++[(⟨p,t.kids.length,[]⟩:Kt)])[i]?=some x→
   (i<T.length∧∃y,T[i]?=some y∧x.parent=y.parent∧x.kids=if i=p.toNat then y.kids++[(T.length:Int)]else y.kids)∨(i=T.length∧x=⟨p,t.kids.length,[]⟩):=by
  intro i x hx;by_cases hi:i<T.length
  ·rw[tJ (by simpa using hi),List.getElem?_set]at hx
   refine .inl ⟨hi,?_⟩;by_cases hp:p.toNat=i
   ·rw[if_pos hp,if_pos af]at hx;obtain rfl:=Option.some.inj hx;subst hp;exact⟨t,ht,rfl,bf⟩
   ·rw[if_neg hp]at hx;exact⟨x,hx,rfl,by rw[if_neg af]⟩
  ·have:=(kB.1 hx).1;rw[hlen]at this;have hi:i=T.length:=af;subst hi;rw[u0 bf]at hx;simp at hx;exact .inr ⟨rfl,hx.symm⟩
 have hput:∀(i:Nat) y,T[i]?=some y→∃x,(T.set p.toNat {t with kids:=t.kids++[(T.length:Int)]}++[(⟨p,t.kids.length,[]⟩:Kt)])[i]?=some x∧x.parent=y.parent∧x.kids=if i=p.toNat then y.kids++[(T.length:Int)]else y.kids:=by
  intro i y hy;have hi:=(kB.1 hy).1;obtain⟨x,hx⟩:∃x,(T.set p.toNat {t with kids:=t.kids++[(T.length:Int)]}++[(⟨p,t.kids.length,[]⟩:Kt)])[i]?=some x:=⟨_,iH (by rw[hlen];omega)⟩
  rcases tq i x hx with⟨_,y',hy',h2,h3⟩|⟨h2,_⟩
  ·rw[hy]at hy';obtain rfl:=Option.some.inj hy';exact⟨x,hx,h2,h3⟩
  ·omega
 have hnew:(T.set p.toNat {t with kids:=t.kids++[(T.length:Int)]}++[(⟨p,t.kids.length,[]⟩:Kt)])[T.length]?=some ⟨p,t.kids.length,[]⟩:=by
  rw[u0 bf];simp
 refine⟨by rw[hlen];omega,λy hy=> ?_,λi x hx k hk=> ?_,λj y hy hj=> ?_,λi x hx=> ?_⟩
 ·rcases tq 0 y hy with⟨_,z,hz,h2,_⟩|⟨h2,_⟩
  ·rw[h2];exact hT.root z hz
  ·have:=hT.one;omega
 ·rw[hlen];rcases tq i x hx with⟨hi,z,hz,h2,h3⟩|⟨h2,rfl⟩
  ·rw[h3]at hk;have hold:∀k∈z.kids,(i:Int)<k∧k<((T.length+1:Nat):Int)∧∃y,(T.set p.toNat {t with kids:=t.kids++[(T.length:Int)]}++[(⟨p,t.kids.length,[]⟩:Kt)])[k.toNat]?=some y∧y.parent=i:=by
    intro k hk;obtain⟨a,b,y,hy,hp⟩:=hT.kid i z hz k hk;obtain⟨y',hy',h4,_⟩:=hput _ y hy;exact⟨a,af,y',hy',by rw[h4];exact hp⟩
   split at hk
   ·rename_i hip;rcases zw.1 hk with hk|hk
    ·exact hold k hk
    ·simp at hk;subst hk;refine⟨af,af,_,by rw[iZ];exact hnew,?_⟩
     show p=_;omega
   ·exact hold k hk
  ·cases hk
 ·rcases tq j y hy with⟨hi,z,hz,h2,_⟩|⟨h2,rfl⟩
  ·obtain⟨a,b,x,hx,hm⟩:=hT.rz j z hz hj;rw[h2];obtain⟨x',hx',_,h4⟩:=hput _ x hx;refine⟨a,b,x',hx',?_⟩;rw[h4];split
   ·exact List.mem_append_left _ hm
   ·exact hm
  ·subst h2;obtain⟨x',hx',_,h4⟩:=hput _ t ht;refine⟨h0,h1,x',hx',?_⟩;rw[h4,if_pos rfl];simp
 ·rcases tq i x hx with⟨hi,z,hz,_,h3⟩|⟨_,rfl⟩
  ·rw[h3];split
   ·rw[List.nodup_append];refine⟨hT.nd i z hz,bf,λa ha b hb e=> ?_⟩;simp at hb;have:=hT.kid i z hz a ha;omega
   ·exact hT.nd i z hz
  ·simp
structure SKs (T:List Kt) (S:List (List Int)) (Q:List (Int×Int×Int)):Prop where
 t:KtT T
 n:T.length=S.length
 own:∀(x:Nat) l,S[x]?=some l→∀(k:Nat) s,l[k]?=some s→0≤s∧∃p,Q[s.toNat]?=some p∧p.1=x∧p.2.1=k
 q0:∃a,Q[0]?=some (-1,a)
 aK9:∀(s:Nat) p,Q[s]?=some p→(-2≤p.1∧p.1<S.length)∧(0≤p.1→∃l,S[p.1.toNat]?=some l∧0≤p.2.1∧l[p.2.1.toNat]?=some (s:Int))
variable{S:List (List Int)}{Q:List (Int×Int×Int)}
def SKs.fork(h:SKs T S Q)(a:Int×Int):SKs T S (Q++[(-2,a)]):=by
 have hq:∀{s:Nat} {p},Q[s]?=some p→(Q++[(-2,a)])[s]?=some p:=fun{s p} hs=>by
  rw[tJ (kB.1 hs).1];exact hs
 refine⟨h.t,h.n,λx l hl k s hk=> ?_,?_,λs p hs=> ?_⟩
 ·obtain⟨h0,p,h1,h2⟩:=h.own x l hl k s hk;exact⟨h0,p,hq h1,h2⟩
 ·obtain⟨a',h0⟩:=h.q0;exact⟨a',hq h0⟩
 ·by_cases hlt:s<Q.length
  ·rw[tJ hlt]at hs;exact h.aK9 s p hs
  ·rw[u0 af]at hs;have:s - Q.length=0:=by
    have:=(kB.1 hs).1;simp at this;omega
   rw[this]at hs;simp at hs;subst hs;exact⟨⟨bf,by show(-2:Int)< _;omega⟩,λq=>by simp at q⟩
def SKs.more(h:SKs T S Q){p own:Int}{a b:Int×Int}(h0:0≤p)(h1:p<T.length)(ho:0≤own)(hq:Q[own.toNat]?=some (-2,b))(ha:a.1=0):
  SKs (Hz T p) (S++[[own]]) (Q.set own.toNat ((T.length:Nat),a)):=by
 have hlt:=(kB.1 hq).1;have hne:∀{s:Nat} {r:Int×Int×Int},Q[s]?=some r→r.1≠ -2→(Q.set own.toNat ((T.length:Nat),a))[s]?=some r:=fun{s r} hs hr=>by
  rw[r0]
  ·exact hs
  ·intro e;subst e;rw[hq]at hs;exact hr (by rw[←Option.some.inj hs])
 have hkl:(Hz T p).length=T.length+1:=by
  unfold Hz;split<;>simp
 refine⟨h.t.add h0 h1,by rw[hkl,h.n];simp,λx l hl k s hk=> ?_,?_,λs r hs=> ?_⟩
 ·by_cases hx:x<S.length
  ·rw[tJ hx]at hl;obtain⟨aLa,r,z1,z2,z3⟩:=h.own x l hl k s hk;exact⟨aLa,r,hne z1 (by rw[z2];omega),z2,z3⟩
  ·rw[u0 af]at hl;have e:x - S.length=0:=by
    have:=(kB.1 hl).1;simp at this;omega
   rw[e]at hl;simp at hl;subst hl;have ek:k=0:=by
    have:=(kB.1 hk).1;simp at this;omega
   subst ek;simp at hk;subst hk;refine⟨ho,_,uO hlt,?_,?_⟩
   ·show((T.length:Nat):Int)=x;have:=h.n;omega
   ·show a.1=_;rw[ha];rfl
 ·obtain⟨a',z⟩:=h.q0;exact⟨a',hne z bf⟩
 ·by_cases e:own.toNat=s
  ·subst e;rw[uO hlt]at hs;obtain rfl:=Option.some.inj hs;have hn:=h.n;refine⟨⟨by show(-2:Int)≤(T.length:Nat);omega,by simp;omega⟩,λ_=>⟨[own],?_,?_,?_⟩⟩
   ·show(S++[[own]])[((T.length:Nat):Int).toNat]?=_;rw[iZ,hn,u0 (iw _)];simp
   ·show 0≤a.1;omega
   ·show [own][a.1.toNat]?=_;rw[ha];simp;omega
  ·rw[r0 e]at hs;obtain⟨z1,z2⟩:=h.aK9 s r hs;refine⟨⟨z1.1,by simp;omega⟩,λq=> ?_⟩
   obtain⟨l,z3,z4,aLb⟩:=z2 q;exact⟨l,by rw[tJ (kB.1 z3).1];exact z3,z4,aLb⟩
def SKs.opens(h:SKs T S Q){l:List Int}(hl:S[x]?=some l)(pk:Int):SKs T (S.set x (l++[(Q.length:Int)])) (Q++[((x:Int),(l.length:Int),pk)]):=by
 have hx:=(kB.1 hl).1;have hq:∀{s:Nat} {p},Q[s]?=some p→(Q++[((x:Int),(l.length:Int),pk)])[s]?=some p:=fun{s p} hs=>by
  rw[tJ (kB.1 hs).1];exact hs
 refine⟨h.t,by rw[h.n];simp,λy m hm k s hk=> ?_,?_,λs p hs=> ?_⟩
 ·have hold:∀m,S[y]?=some m→m[k]?=some s→0≤s∧∃p,(Q++[((x:Int),(l.length:Int),pk)])[s.toNat]?=some p∧p.1=y∧p.2.1=k:=λm hm hk=>by
   obtain⟨h0,p,h1,h2⟩:=h.own y m hm k s hk;exact⟨h0,p,hq h1,h2⟩
  rw[List.getElem?_set]at hm;split at hm
  ·rename_i e;subst e;try rw[if_pos hx]at hm
   obtain rfl:=Option.some.inj hm;by_cases Hh:k<l.length
   ·rw[tJ Hh]at hk;exact hold l hl hk
   ·rw[u0 af]at hk;have e:k - l.length=0:=by
     have:=(kB.1 hk).1;simp at this;omega
    rw[e]at hk;simp at hk;subst hk;refine⟨af,_,by rw[iZ,u0 (iw _)];simp;rfl,rfl,?_⟩
    show((l.length:Nat):Int)=k;omega
  ·exact hold m hm hk
 ·obtain⟨a',h0⟩:=h.q0;exact⟨a',hq h0⟩
 ·by_cases hlt:s<Q.length
  ·rw[tJ hlt]at hs;obtain⟨z1,z2⟩:=h.aK9 s p hs;refine⟨by simpa using z1,λq=> ?_⟩
   obtain⟨m,z3,z4,aLb⟩:=z2 q;by_cases e:x=p.1.toNat
   ·subst e;rw[hl]at z3;obtain rfl:=Option.some.inj z3;exact⟨_,uO hx,z4,by rw[tJ (kB.1 aLb).1];exact aLb⟩
   ·exact⟨m,by rw[r0 e];exact z3,z4,aLb⟩
  ·rw[u0 af]at hs;have e:s - Q.length=0:=by
    have:=(kB.1 hs).1;simp at this;omega
   rw[e]at hs;simp at hs;subst hs;refine⟨⟨by show(-2:Int)≤x;omega,by simp;omega⟩,λ_=>⟨_,by show(S.set x _)[((x:Nat):Int).toNat]?=_;rw[iZ];exact uO hx,by show(0:Int)≤(l.length:Nat);omega,?_⟩⟩
   show(l++[(Q.length:Int)])[((l.length:Nat):Int).toNat]?=_;rw[iZ,u0 (iw _)];simp;omega
def SKs.aHh(h:SKs T S Q){o:List Int}(ho:o.Nodup)(hr:∀x∈o,0≤x):(o.flatMap λx=>(S[x.toNat]?).getD []).Nodup∧∀s∈o.flatMap λx=>(S[x.toNat]?).getD [],0≤s∧∃p,Q[s.toNat]?=some p∧p.1∈o:=by
 have hin:∀x:Int,0≤x→∀s∈(S[x.toNat]?).getD [],0≤s∧∃p,Q[s.toNat]?=some p∧p.1=x∧((S[x.toNat]?).getD [])[p.2.1.toNat]?=some s∧0≤p.2.1:=by
  intro x hx s hs;cases hS:S[x.toNat]? with
  |none=>rw[hS]at hs;cases hs
  |some l=>
   rw[hS]at hs;obtain⟨k,hk⟩:=List.getElem?_of_mem hs;obtain⟨h0,p,h1,h2,h3⟩:=h.own _ l hS k s hk;refine⟨h0,p,h1,af,?_,af⟩;rw[h3];simpa using hk
 constructor
 ·induction o with
  |nil=>simp
  |cons x o ih=>
   rw[List.flatMap_cons,List.nodup_append];have hn:=List.nodup_cons.1 ho;refine⟨?_,ih hn.2 λy hy=>hr y (by simp[hy]),λs hs s' hs' e=> ?_⟩
   ·rw[List.nodup_iff_pairwise_ne,List.pairwise_iff_getElem];intro i j hi hj hij e;have hx:=hr x bf;cases hS:S[x.toNat]? with
    |none=>simp[hS]at hi
    |some l=>
     simp only[hS,Option.getD_some]at hi hj e;obtain⟨_,p,z1,_,z2⟩:=h.own _ l hS i _ (iH hi);obtain⟨_,p',z3,_,z4⟩:=h.own _ l hS j _ (iH hj);rw[e,z3]at z1;obtain rfl:=Option.some.inj z1;omega
   ·subst e;obtain⟨_,p,z1,z2,_⟩:=hin x (hr x bf) s hs;obtain⟨y,hy,hs'⟩:=List.mem_flatMap.1 hs';obtain⟨_,p',z3,z4,_⟩:=hin y (hr y (by simp[hy])) s hs'
    rw[z3]at z1;obtain rfl:=Option.some.inj z1;rw[z2]at z4;subst z4;exact hn.1 hy
 ·intro s hs;obtain⟨y,hy,hs⟩:=List.mem_flatMap.1 hs;obtain⟨h0,p,z1,z2,_⟩:=hin y (hr y hy) s hs;exact⟨h0,p,z1,by rw[z2];exact hy⟩
def aey:∀(o:List (Int×Int)) (j:Nat) (a:List Int),∀x∈ahL j o a,x∈a∨((j:Int)≤x∧x<(j+o.length:Nat))
 |[],_,_,x,h=> .inl h
 |p::o,j,a,x,h=>by
  rw[ahL]at h;rcases aey o (j+1) _ x h with h|h
  ·rcases List.mem_or_eq_of_mem_set h with h|h
   ·exact .inl h
   ·refine .inr ?_;simp;omega
  ·refine .inr ?_;simp at h ⊢;omega
def O9(G:Gl)(s:Int):Pl:=G.P.getD s.toNat (0,0,0,false)
def xy(G:Gl)(r:List Int)(s:Int):List Value:=
 [.int .i64 (if 0≤(O9 G s).1 then r.getD (O9 G s).1.toNat 0 else -1),.int .i64 (O9 G s).2.1,.int .i64 (O9 G s).2.2.1,.bool (G.M.get (G.nd s).at_ !=0),.bool (O9 G s).2.2.2,.int .i64 (G.M.get ((G.nd s).at_+1))]
def adK(G:Gl)(o:List (Int×Int)):List (List Value):=(da G o).map (xy G (cq G o))
def aFr:ET Tryz.prog 60 6 40 (.agg #[.int .i64 0,.int .i64 0,.int .i64 0,.bool false,.bool false,.int .i64 0]):=⟨aZ,aZ⟩
def awk(G:Gl)(o:List (Int×Int)):Prop:=∀s∈da G o,(0≤s∧s<G.C.length)∧(O9 G s).1<G.ts.length
section
variable{w0:World}{L R:List HP}{l:Lc}{P:List dB}{bw:List Int}{ro:List Ro}{aa:List Nat}{G:Gl}{Ws:List Wk}{n:Int}{o:List (Int×Int)}
def Zu{k:Sl→ap}(hI:IV l P bw ro G Ws)(ho:SM G o)(hs:awk G o)(h:qK w0 w l aa G Ws R)
  (hk:∀s w',qK w0 w' l aa G Ws (rws 6 s (adK G o)::R)→k s w'):j1 (some ⟨l.gs,0,none⟩) w k:=by
 have hcap:=hI.ty.cap;have BU:=hI.ty.pl;have hsc:=ho.sc;obtain⟨sp,st,sw,h⟩:=rO h;unfold j1 y3;refine aU rfl ?_;refine ahM h ho af λs1 w h hlen=> ?_;have h:=h.bk 10;refine afI (R:=bG 1 s1 (ints (cq G o))::jO (pH l aa) (l.wa.zip Ws)::R) h ho λs3 w h=> ?_;have h3n:=qY (s:=s3) (vs:=ints (da G o)) h;simp only[ints,List.length_map]at h3n;have h:St w0 w (rws 6 ⟨none,0,0⟩ (((da G o).take 0).map (xy G (cq G o)))::_):=St.YA (by intro e he;cases he) (h.DJ 6)
 refine DN (G:=Nat) (λj x w=>x.2=(j:Int)∧j≤(da G o).length∧St w0 w (rws 6 x.1 (((da G o).take j).map (xy G (cq G o)))::bG 1 s3 (ints (da G o))::SL l aa G (bG 1 s1 (ints (cq G o))::jO (pH l aa) (l.wa.zip Ws)::R) sp st sw)) (λj=>(da G o).length - j) (g:=0) ⟨rfl,af,h⟩ ?_;clear h;rintro j ⟨sr,i⟩ w ⟨hi,hj,h⟩ C hC;dsimp only at hi h ⊢;subst hi;by_cases hlt:j<(da G o).length
 ·refine bK (by simp;omega) ?_
  have hmem:=List.getElem_mem hlt;generalize hxe:(da G o)[j]'hlt=x at hmem;obtain⟨⟨hx0,hx1⟩,hx2⟩:=hs x hmem;have Zd:(da G o)[j]?=some x:=by rw[iH hlt,hxe]
  have hP:G.P[x.toNat]?=some (O9 G x):=by unfold O9;rw[m0,iH af];rfl
  have hPc:(G.P.map tI)[x.toNat]?=some (tI (O9 G x)):=by rw[l8,hP];rfl
  have awl:=hI.ty.O7 hx0 hx1;have vE:=qY (s:=s3) (vs:=ints (da G o)) h;have hl:=hI.ty.len;refine vI (s:=s3) (vs:=ints (da G o)) h af (x:=x) (by simp[ints,Zd]) ?_
  refine cX ?_;refine rA (sz:=4) (s:=sp) (es:=G.P.map tI) h hx0 hPc af ?_;generalize aAr:O9 G x=pl at hPc hx2;refine vO λgx w h=> ?_;obtain⟨gp,j7⟩:∃n,n=gx:=⟨_,rfl⟩;subst j7;refine ata (M:=G.M) (C:=G.C) (x:=G.nd x) h awl.1 (awl.2.a.given hl) (awl.2.b.given hl) hI.ty.ok λw h=> ?_;refine vO λgx w h=> ?_;obtain⟨gs,j7⟩:∃n,n=gx:=⟨_,rfl⟩;subst j7;refine bP (λ_ w=>St w0 w (au gs (xy G (cq G o) x)::au gp (tI pl)::rws 6 sr (((da G o).take j).map (xy G (cq G o)))::bG 1 s3 (ints (da G o))::SL l aa G (bG 1 s1 (ints (cq G o))::jO (pH l aa) (l.wa.zip Ws)::R) sp st sw)) (λJ hJ=> ?_) ?_
  ·refine cX ?_;refine ax (λhb=> ?_) λhb=> ?_
   ·have hb:0≤pl.1:=by simpa using hb
    have hr1:(cq G o)[pl.1.toNat]?=some ((cq G o).getD pl.1.toNat 0):=by rw[m0,iH af];rfl
    refine cX ?_;refine vI (s:=s1) (vs:=ints (cq G o)) h hb (x:=(cq G o).getD pl.1.toNat 0) (by unfold ints;rw[l8,hr1];rfl) ?_
    refine dZ λw h=> ?_;refine hJ _ _ ?_;have e:xy G (cq G o) x=[.int .i64 ((cq G o).getD pl.1.toNat 0),.int .i64 pl.2.1,.int .i64 pl.2.2.1,.bool (G.M.get (G.nd x).at_ !=0),.bool pl.2.2.2,.int .i64 (G.M.get ((G.nd x).at_+1))]:=by
     unfold xy;rw[aAr,if_pos hb]
    rw[e];exact h
   ·have hb:¬0≤pl.1:=by simpa using hb
    refine hJ _ _ ?_;have e:xy G (cq G o) x=[.int .i64 (-1),.int .i64 pl.2.1,.int .i64 pl.2.2.1,.bool (G.M.get (G.nd x).at_ !=0),.bool pl.2.2.2,.int .i64 (G.M.get ((G.nd x).at_+1))]:=by
     unfold xy;rw[aAr,if_neg hb]
    rw[e];exact h
  clear h;rintro _ w h;refine cX ?_;refine Jw rfl rfl ?_;refine vO λgx w h=> ?_;obtain⟨gn,j7⟩:∃n,n=gx:=⟨_,rfl⟩;subst j7;have hln:=pg (sz:=6) (s:=sr) (es:=((da G o).take j).map (xy G (cq G o))) h;refine Z8 (sz:=6) (s:=sr) (es:=((da G o).take j).map (xy G (cq G o))) (e:=xy G (cq G o) x) h aFr aZ rfl af (by simp[xy,Value.oneCell']) (by simp;omega) af λs' w h hn=> ?_
  refine hC (j+1) _ _ ⟨?_,af,?_⟩ af
  ·rw[kg ⟨af,af⟩];omega
  ·have e:((da G o).take (j+1)).map (xy G (cq G o))=((da G o).take j).map (xy G (cq G o))++[xy G (cq G o) x]:=by rw[List.take_add_one,Zd];simp
   rw[e];exact h.drop.drop.drop
 ·refine aU (by simp;omega) ?_
  have e:(da G o).take j=da G o:=List.take_of_length_le af;rw[e]at h;have h:=h.zm 1;have h:=h.fr 11;have h:=h.zm 0;have h:=h.bk 11;exact hk _ _ (pE h)
end
def plq(p:Pl):Int×Int×Int:=(p.1,p.2.1,p.2.2.1)
def aLc(G:Gl):Prop:=SKs G.T (G.ts.map λt=>t.scopes) (G.P.map plq)
structure SKI (G:Gl) (Ws:List Wk):Prop where
 sk:aLc G
 fk:∀(i:Nat) W,Ws[i]?=some W→W.cT= .m .xo→0≤W.own∧∃b,(G.P.map plq)[W.own.toNat]?=some (-2,b)
 aLd:∀(i j:Nat) Wi Wj,Ws[i]?=some Wi→Ws[j]?=some Wj→Wi.cT= .m .xo→Wj.cT= .m .xo→Wi.own=Wj.own→i=j
variable{α:Type}
section
variable{l:Lc}{P:List dB}{bw:List Int}{ro iT:List Ro}{G G' G1:Gl}{W' W1:Wk}{Ws:List Wk}{t t':Tk}{n y:Nat}{v:Int}{r:Ro}{k:Kn}{o:List (Int×Int)}
def adD{β:Type}{f:α→β}{l:List α}{a:α}(h:∀b,l[x]?=some b→f a=f b):(l.set x a).map f=l.map f:=by
 apply List.ext_getElem?;intro k;rw[l8,l8,List.getElem?_set];split
 ·rename_i e;subst e;split
  ·rename_i hlt;obtain⟨b,hb⟩:∃b,l[x]?=some b:=⟨_,iH hlt⟩;rw[hb];show some (f a)=some (f b);rw[h b hb]
  ·rename_i hlt;rw[List.getElem?_eq_none af]
 ·rfl
def adQ(h:t'.scopes=(G.tk x).scopes):(G.ts.set x t').map (λt=>t.scopes)=G.ts.map λt=>t.scopes:=adD λb hb=>by rw[h];unfold Gl.tk;rw[hb];rfl
def aio(i:Int)(Q:List Pl):(Cq Q i).map plq=Q.map plq:=by
 unfold Cq;split
 ·rename_i p hp;exact adD λb hb=>by rw[hp]at hb;obtain rfl:=Option.some.inj hb;rfl
 ·rfl
def aK5.sm(h:aK5 P G t t'):Sm t t'∧t'.cJ=t.cJ∧t'.scopes=t.scopes∧t'.gL=t.gL:=by
 cases h<;>exact⟨⟨rfl,rfl,rfl,rfl⟩,rfl,rfl,rfl⟩
def SKI.keep(h:SKI G Ws)(hi:Ws[i]?=some W)(hT:G'.T=G.T)(hs:G'.ts.map (λt=>t.scopes)=G.ts.map λt=>t.scopes)(hP:G'.P.map plq=G.P.map plq)(hd:W'.cT= .m .xo→W.cT= .m .xo∧W'.own=W.own):SKI G' (Ws.set i W'):=by
 have hil:=(kB.1 hi).1;have key:∀(j:Nat) (Wj:Wk),(Ws.set i W')[j]?=some Wj→Wj.cT= .m .xo→∃aLe:Wk,Ws[j]?=some aLe∧aLe.cT= .m .xo∧Wj.own=aLe.own:=λj Wj hj hf=>by
  by_cases e:i=j
  ·subst e;rw[uO hil]at hj;obtain rfl:=Option.some.inj hj;exact⟨W,hi,(hd hf).1,(hd hf).2⟩
  ·rw[r0 e]at hj;exact⟨Wj,hj,hf,rfl⟩
 refine⟨by unfold aLc;rw[hT,hs,hP];exact h.sk,λj Wj hj hf=> ?_,λj m Wj aLf hj hm hf hg he=> ?_⟩
 ·obtain⟨aLe,h1,h2,h3⟩:=key j Wj hj hf;rw[h3,hP];exact h.fk j aLe h1 h2
 ·obtain⟨aLe,h1,h2,h3⟩:=key j Wj hj hf;obtain⟨aLg,h4,h5,h6⟩:=key m aLf hm hg;exact h.aLd j m aLe aLg h1 h4 h2 h5 (by rw[←h3,←h6,he])
def SKI.step(h:SKI G Ws)(hI:IV l P bw ro G Ws)(hi:Ws[i]?=some W)(he:G.err=0):SKI (ZB l P G W bw).1 (Ws.set i (ZB l P G W bw).2):=by
 have c:=hI.cx hi he;have hs:Stp l P ro G W (ZB l P G W bw).1 (ZB l P G W bw).2:=aib c hI.fr;have hil:=(kB.1 hi).1;have BU:(G.P.map plq).length=G.C.length:=by rw[List.length_map];exact hI.ty.pl
 generalize (ZB l P G W bw).1=G1,(ZB l P G W bw).2=W1 at hs ⊢;have tpl:W.stack≠ []→W.tp<G.ts.length:=λq=>(c.top q).2;cases hs with
 |quiet q k _ _=>exact h.keep hi rfl rfl rfl λe=>absurd e k.m.2.1
 |fail q he k o=>exact h.keep hi rfl rfl rfl λe=>⟨by rw[←k.2.2.1];exact e,k.2.2.2.2⟩
 |jq hd h0=>exact h.keep hi rfl rfl rfl λe=>by simp at e
 |start hd k=>exact h.keep hi rfl (adQ rfl) rfl λe=>by rw[k.2.2]at e;simp at e
 |aeR ne r lt hn q k _=>exact h.keep hi rfl (adQ hn.sm.2.2.1) rfl λe=>absurd e k.m.2.1
 |ends ne hc q k _=>exact h.keep hi rfl (adQ rfl) rfl λe=>absurd e k.m.2.1
 |tF ne hd r=>exact h.keep hi rfl rfl rfl λe=>by simp[Wk.A6]at e
 |gL ne hd r h12 lt=>exact h.keep hi rfl (adQ rfl) (aio _ _) λe=>by simp[Wk.go]at e
 |cancel ne hd r h13 lt=>exact h.keep hi rfl (adQ rfl) rfl λe=>by simp[Wk.JF]at e
 |unwind ne hd e ho k hu hw=>exact h.keep hi rfl (adQ rfl) (aio _ _) λe=>absurd e k.m.2.1
 |put ne hd e ho k4=>exact h.keep hi rfl rfl rfl λe=>by simp[Wk.go]at e
 |fin ne hd e ho=>exact h.keep hi rfl rfl rfl λe=>by simp[Wk.go]at e
 |asks ne hd=>exact h.keep hi rfl rfl rfl λe=>by simp at e
 |gone ne hd e ho k hw=>exact h.keep hi rfl rfl rfl λe=>absurd e k.2.2.2.1
 |fork ne hd r h8 rm=>
  have hP:∀{z:Nat} {q},(G.P.map plq)[z]?=some q→((G.P++[(-2,0,0,false)]).map plq)[z]?=some q:=fun{z q} hz=>by
   rw[List.map_append,tJ (kB.1 hz).1];exact hz
  have hold:∀(j:Nat) (Wj:Wk),Ws[j]?=some Wj→Wj.cT= .m .xo→0≤Wj.own∧Wj.own<(G.C.length:Nat):=λj Wj hj hf=>by
   obtain⟨h0,b,hb⟩:=h.fk j Wj hj hf;have:=(kB.1 hb).1;rw[BU]at this;omega
  refine⟨?_,λj Wj hj hf=> ?_,λj m Wj aLf hj hm hf hg he=> ?_⟩
  ·show SKs G.T _ ((G.P++[(-2,0,0,false)]).map plq);rw[List.map_append];exact h.sk.fork (0,0)
  ·by_cases e:i=j
   ·subst e;rw[uO hil]at hj;obtain rfl:=Option.some.inj hj;refine⟨by show(0:Int)≤(G.C.length:Nat);omega,(0,0),?_⟩
    show((G.P++[(-2,0,0,false)]).map plq)[((G.C.length:Nat):Int).toNat]?=_;rw[iZ,List.map_append,u0 af,BU];simp[plq]
   ·rw[r0 e]at hj;obtain⟨h0,b,hb⟩:=h.fk j Wj hj hf;exact⟨h0,b,hP hb⟩
  ·by_cases e:i=j
   ·subst e;by_cases e2:i=m
    ·exact e2
    ·rw[uO hil]at hj;rw[r0 e2]at hm;obtain rfl:=Option.some.inj hj;have:=hold m aLf hm hg;have he:((G.C.length:Nat):Int)=aLf.own:=he;omega
   ·rw[r0 e]at hj;by_cases e2:i=m
    ·subst e2;rw[uO hil]at hm;obtain rfl:=Option.some.inj hm;have:=hold j Wj hj hf;have he:Wj.own=((G.C.length:Nat):Int):=he;omega
    ·rw[r0 e2]at hm;exact h.aLd j m Wj aLf hj hm hf hg he
 |xo ne hd r h8 lt rm=>
  have hx:=tpl ne;obtain⟨h0,b,hb⟩:=h.fk i W hi hd;have vK:=(hI.ty.qh hx).id;have hkl:=hI.ty.kl;have hmap:∀{z:List Pl},(z.set W.own.toNat ((G.T.length:Nat),0,0,false)).map plq=(z.map plq).set W.own.toNat ((G.T.length:Nat),0,0):=fun{z}=>by rw[List.map_set];rfl
  refine⟨?_,λj Wj hj hf=> ?_,λj m Wj aLf hj hm hf hg he=> ?_⟩
  ·have hk:=SKs.more (p:=(G.tk W.tp).id) (own:=W.own) (a:=(0,0)) h.sk (by rw[vK];omega) (by rw[vK];omega) h0 hb rfl
   show SKs (Hz G.T (G.tk W.tp).id) (List.map _ ((G.ts++[_]).set W.tp _)) ((G.P.set W.own.toNat ((G.T.length:Nat),0,0,false)).map plq);rw[hmap];have e:List.map (λt:Tk=>t.scopes) ((G.ts++[aDY P G W]).set W.tp (aD2 P G W))=G.ts.map (λt=>t.scopes)++[[W.own]]:=by
    rw[adD]
    ·rw[List.map_append];rfl
    ·intro q hq;rw[tJ hx,G.xw hx]at hq;obtain rfl:=Option.some.inj hq;rfl
   rw[e];exact hk
  ·have hne:i≠j:=λe=>by
    subst e;rw[uO hil]at hj;obtain rfl:=Option.some.inj hj;simp at hf
   rw[r0 hne]at hj;obtain⟨h0',b',hb'⟩:=h.fk j Wj hj hf;refine⟨h0',b',?_⟩;show((G.P.set W.own.toNat _).map plq)[Wj.own.toNat]?=_;rw[hmap,r0]
   ·exact hb'
   ·intro e;exact hne (h.aLd i j W Wj hi hj hd hf af)
  ·have hno:∀(q:Nat) (Wq:Wk),(Ws.set i {W with jq:=(G.ts.length:Nat),cT:= .m .tF})[q]?=some Wq→Wq.cT= .m .xo→Ws[q]?=some Wq:=λq Wq hq hf=>by
    by_cases e:i=q
    ·subst e;rw[uO hil]at hq;obtain rfl:=Option.some.inj hq;simp at hf
    ·rwa[r0 e]at hq
   exact h.aLd j m Wj aLf (hno j Wj hj hf) (hno m aLf hm hg) hf hg he
 |opens ne hd r h11 lt rm n32=>
  have hx:=tpl ne;have vK:=(hI.ty.qh hx).id;have hnf:∀(j:Nat) (Wj:Wk),(Ws.set i (W.go .next))[j]?=some Wj→Wj.cT= .m .xo→Ws[j]?=some Wj:=λq Wq hq hf=>by
   by_cases e:i=q
   ·subst e;rw[uO hil]at hq;obtain rfl:=Option.some.inj hq;simp[Wk.go]at hf
   ·rwa[r0 e]at hq
  have aLh:(aok P G W).ts.map (λt=>t.scopes)=(G.ts.map λt=>t.scopes).set W.tp ((G.tk W.tp).scopes++[(G.C.length:Int)]):=by
   show(G.ts.set _ _).map _=_;rw[List.map_set]
  refine⟨?_,λj Wj hj hf=> ?_,λj m Wj aLf hj hm hf hg he=>h.aLd j m Wj aLf (hnf j Wj hj hf) (hnf m aLf hm hg) hf hg he⟩
  ·show SKs G.T ((aok P G W).ts.map _) ((G.P++[_]).map plq);rw[aLh,List.map_append];have hl:(G.ts.map λt=>t.scopes)[W.tp]?=some (G.tk W.tp).scopes:=by rw[l8,G.xw hx];rfl
   have:=h.sk.opens hl (G.pk (G.tk W.tp).kA.1);rw[BU]at this;show SKs _ _ (_++[plq _]);unfold plq;dsimp only;rw[vK];exact this
  ·obtain⟨h0,b,hb⟩:=h.fk j Wj (hnf j Wj hj hf) hf;refine⟨h0,b,?_⟩;show((G.P++[_]).map plq)[_]?=_;rw[List.map_append,tJ (kB.1 hb).1];exact hb
end
def onF(l:Lc)(G:Gl)(W:Wk):Bool:=tD (l.sp.bits G.M) W.id
def Ce(r:List Int)(W:Wk):List Int:=W.stack.reverse.map λx=>r.getD x 0
def JT(G:Gl)(r:List Int)(W:Wk):List Int:=(G.M.list W.dq).map λx=>r.getD x.toNat 0
abbrev Wz:=Wk×(Sl×Sl)
def tQ(l:Lc)(G:Gl)(z:Wz):List Value:=[.bool (onF l G z.1),.bool (z.1.wait.parked G.M l.told),.slice z.2.1.a z.2.1.n z.2.1.c,.slice z.2.2.a z.2.2.n z.2.2.c]
def Iq(G:Gl)(r:List Int)(z:Wz):HP:=l9 [bG 1 z.2.1 (ints (Ce r z.1)),bG 1 z.2.2 (ints (JT G r z.1))]
def aFs:ET Tryz.prog 67 4 56 (.agg #[.bool false,.bool false,.slice none 0 0,.slice none 0 0]):=⟨aZ,aZ⟩
def KK.get{β:Type}{P:α→β→Prop}{l:List α}{m:List β}(h:KK P l m):∀{i:Nat} {a:α},l[i]?=some a→∃b,m[i]?=some b∧P a b:=by
 induction h with
 |nil=>intro i a hi;simp at hi
 |cons h1 _ ih=>
  intro i a hi;match i,hi with
  |0,hi=>simp at hi;subst hi;exact⟨_,rfl,h1⟩
  |i+1,hi=>simpa using ih (by simpa using hi)
def azC{l:List α}{a:α}(h:l[i]?=some a):l.set i a=l:=by
 apply List.ext_getElem?;intro k;rw[List.getElem?_set];split
 ·rename_i hk;subst hk;rw[h,if_pos (kB.1 h).1]
 ·rfl
def awm(G:Gl)(W:Wk):Prop:=sy (G.M.k8 W.dq)∧sy (G.M.k8 (W.dq+1))∧xH W.dq∧(∀x∈G.M.list W.dq,0≤x∧x<G.ts.length)∧(G.M.list W.dq).length≤100000
abbrev WrB(l:Lc)(aa:List Nat)(G:Gl)(sp st sw:Sl)(gw:Nat)(q:Wq)(W:Wk)(os:List (Nat×Wk))(sr:Sl)(zs:List Wz)(r:List Int)(s1:Sl)(R:List HP):List HP:=
 au gw (W.cs l q)::au q.gwt (W.wait.cells l.told)::bG 1 q.ss q.qw.reverse::bG 1 q.sb q.y6.reverse::bG 1 q.sl (ints W.left)::l6 (uh q.go) W.op::l6 (λk:Lk=>au q.gl (k.cells l.gc)) W.look::l6 (λo:jH=>au q.gp (o.cells l.sp q.gp)) W.step::fz q.B::jO (pH l aa) os::rws 4 sr (zs.map (tQ l G))::jO (Iq G r) zs::SL l aa G (bG 1 s1 (ints r)::R) sp st sw
section
variable{w0:World}{L R:List HP}{l:Lc}{P:List dB}{bw:List Int}{ro:List Ro}{aa:List Nat}{G:Gl}{Ws:List Wk}{n:Int}{o:List (Int×Int)}{f:HP→List HP}
def azD{a:Nat}{t:Tk}{c:Int→Prop}(h:St w0 w L)[a1:At L (LA aa) G.ts f](ha:aa[x]?=some a)(ht:G.ts[x]?=some t)(hc:c t.id):aJ .i64 w (aY ⟨a,0,none⟩ 0) c:=by
 obtain⟨R,ho,_⟩:=a1.out;obtain⟨so,sc,h2⟩:=sv (ho h) ha ht;exact aI (g:=a) h2 vM hc
def amu{k:Sl→ap}(av7:l.deep≤1000000)(hI:IV l P bw ro G Ws)(ho:SM G o)(hd:∀W∈Ws,awm G W)(h:qK w0 w l aa G Ws R)
  (hk:∀s zs w',zs.map (λz:Wz=>z.1)=Ws→qK w0 w' l aa G Ws (rws 4 s (zs.map (tQ l G))::jO (Iq G (cq G o)) zs::R)→k s w'):jB (some ⟨l.gs,0,none⟩) w k:=by
 have hcap:=hI.ty.cap;have hwn:=hI.wn;have hlc:=hI.lc;have awg:=hlc.w16;obtain⟨sp,st,sw,h⟩:=rO h;have hla:=KI (h.front 9 rfl);have hn5:=qY (s:=sw) (vs:=l.wa.map pt) h;rw[List.length_map]at hn5;unfold jB xk;refine aU rfl ?_;refine ahM h ho af λs1 w h hlen=> ?_;have h:=h.bk 10;refine cX ?_;have h:St w0 w (rws 4 ⟨none,0,0⟩ (([]:List Wz).map (tQ l G))::jO (Iq G (cq G o)) []::_):=St.YA (by intro e he;cases he) ((QW h).DJ 4)
 refine DN (G:=Nat×List Wz) (λq x w=>x.2=(q.1:Int)∧q.1≤Ws.length∧q.2.map (λz:Wz=>z.1)=Ws.take q.1∧St w0 w (rws 4 x.1 (q.2.map (tQ l G))::jO (Iq G (cq G o)) q.2::SL l aa G (bG 1 s1 (ints (cq G o))::jO (pH l aa) (l.wa.zip Ws)::R) sp st sw)) (λq=>Ws.length - q.1) (g:=(0,[])) ⟨rfl,af,rfl,h⟩ ?_;clear h;rintro⟨j,zs⟩ ⟨sr,i⟩ w ⟨hi,hj,hz,h⟩ C hC;dsimp only at hi hz h hj ⊢;subst hi;by_cases hlt:j<Ws.length
 ·refine bK (by simp;omega) ?_
  obtain⟨gw,hgw⟩:∃g,l.wa[j]?=some g:=⟨_,iH af⟩;have hW:Ws[j]?=some (Ws[j]'hlt):=iH hlt;generalize hWe:Ws[j]'hlt=W at hW;have hos:(l.wa.zip Ws)[j]?=some (gw,W):=by rw[List.getElem?_zip_eq_some];exact⟨hgw,hW⟩
  have hwt:=hI.w j W hW;have Sz:=hd W (qn hW);refine vP (s:=sw) (vs:=l.wa.map pt) h af (x:=some ⟨gw,0,none⟩) (by rw[iZ,l8,hgw];rfl) ?_
  have h:=h.fr 13;have h:=BW h hos;obtain⟨q,hq,h⟩:=X2 h;refine bP (fun(ad:Addr) w=> ∃g,ad=⟨g,0,none⟩∧St w0 w (au g [.bool (onF l G W),.bool (W.wait.parked G.M l.told),.slice none 0 0,.slice none 0 0]::WrB l aa G sp st sw gw q W ((l.wa.zip Ws).eraseIdx j) sr zs (cq G o) s1 R)) (λJ hJ=> ?_) ?_
  ·have hgs:G.M.given (l.sp.at_+1)=true:=hI.ty.OI.given hI.ty.len;have hgt:G.M.given l.told=true:=hI.ty.told.given hI.ty.len;have hsp:∀{w:World} {L:List HP} {f:HP→List HP} (h:St w0 w L) [a:At L (bH l.gm) G.M f] (c:Bool→ap),(∀w',St w0 w' L→c (onF l G W) w')→dA (List.take 3 (List.drop (0+14) (l.cs sp st sw G.steps G.err))).toArray (some ⟨l.gm,0,none⟩) W.id w c:=λh _ c hc=>anu (M:=G.M) (s:=l.sp) h hlc.sp hI.ty.ok hgs hc;with_reducible repeat' (first|refine bc ?_|refine cH h λw h=> ?_|refine Tn h ?_|refine Iy h ?_|refine QT h ?_|refine QU h λw h=> ?_|refine aM h λgx w h=> ?_|refine nP h ?_|refine y8 ?_ ?_|refine hsp h _ λw h=> ?_|refine acG (M:=G.M) (x:=W.wait) h hgt λw h=> ?_|fail)
   all_goals exact hJ _ _ ⟨_,rfl,h⟩
  clear h;rintro _ w ⟨g,rfl,h⟩;generalize Dz:onF l G W=on_ at h;generalize hpk:W.wait.parked G.M l.told=pk_ at h;have vE:=qY (s:=q.ss) (vs:=q.qw.reverse) h;rw[List.length_reverse,←hq.qw.len]at vE;have hdp:=hwt.dp;have hrow:∀x:Nat,x<G.ts.length→(ints (cq G o))[((x:Nat):Int).toNat]?=some (.int .i64 ((cq G o).getD x 0)):=λx hx=>by
   rw[iZ];unfold ints;rw[l8,m0,iH af];rfl
  refine cX ?_;refine bP (λ_ w=> ∃s2:Sl,St w0 w (au g [.bool on_,.bool pk_,.slice s2.a s2.n s2.c,.slice none 0 0]::bG 1 s2 (ints (Ce (cq G o) W))::WrB l aa G sp st sw gw q W ((l.wa.zip Ws).eraseIdx j) sr zs (cq G o) s1 R)) (λJ hJ=> ?_) ?_
  ·have h:=(h.DJ 1).bk 1;refine DN (G:=Nat×Sl) (λp x w=>x=(p.1:Int)∧p.1≤W.stack.length∧p.2.n=p.1∧St w0 w (au g [.bool on_,.bool pk_,.slice p.2.a p.2.n p.2.c,.slice none 0 0]::bG 1 p.2 (ints ((Ce (cq G o) W).take p.1))::WrB l aa G sp st sw gw q W ((l.wa.zip Ws).eraseIdx j) sr zs (cq G o) s1 R)) (λp=>W.stack.length - p.1) (g:=(0,⟨none,0,0⟩)) ⟨rfl,af,rfl,h⟩ ?_;clear h;rintro⟨i,s2⟩ x w ⟨hx,hi,CD,h⟩ C hC;dsimp only at hx hi h CD ⊢;subst hx;by_cases hlt:i<W.stack.length
   ·refine bK (by simp;omega) ?_
    obtain⟨y,hy⟩:∃y,W.stack.reverse[i]?=some y:=⟨_,iH (by simpa using hlt)⟩
    have hy2:=hy;rw[List.getElem?_reverse hlt]at hy2;obtain⟨v,hv,a,ha,rfl⟩:=hq.qw.get hy2;have hv2:q.qw.reverse[i]?=some (pt a):=by rw[List.getElem?_reverse (by rw[←hq.qw.len];exact hlt),←hq.qw.len];exact hv
    have hym:y∈W.stack:=qn hy2;have DK:=hwt.hl y (by unfold Wk.hold;split<;>simp[hym])
    have hty:=hI.ty.tk y _ (G.xw DK);refine vP (s:=q.ss) (vs:=q.qw.reverse) h af (x:=some ⟨a,0,none⟩) (by rw[iZ];exact hv2) ?_
    with_reducible repeat' (first|refine bc ?_|refine cH h λw h=> ?_|refine u_S h ?_|refine azD h ha (G.xw DK) ?_|fail)
    rw[hty.id];refine vI (s:=s1) (vs:=ints (cq G o)) h af (hrow y DK) ?_;refine vO λgx w h=> ?_;obtain⟨gn,j7⟩:∃n,n=gx:=⟨_,rfl⟩;subst j7;have Y8:((Ce (cq G o) W).take i).length=i:=by rw[List.length_take];simp[Ce];omega
    have hyr:(Ce (cq G o) W)[i]?=some ((cq G o).getD y 0):=by unfold Ce;rw[l8,hy];rfl
    have h16:l.deep≤1000000:=av7;refine I9 (s:=s2) (vs:=ints ((Ce (cq G o) W).take i)) h an0 aZ rfl (by simp only[ints,List.length_map,Y8];omega) af λs3 w h hn=> ?_
    simp only[ints,List.length_map,Y8]at hn;refine dZ λw h=> ?_;have h:=h.zm 0;refine hC (i+1,s3) _ _ ⟨?_,af,hn,?_⟩ (by simp only;omega)
    ·rw[kg ⟨af,af⟩];simp only;omega
    ·have e:ints ((Ce (cq G o) W).take (i+1))=ints ((Ce (cq G o) W).take i)++[.int .i64 ((cq G o).getD y 0)]:=by rw[List.take_add_one,hyr];simp[ints]
     rw[e];exact h
   ·refine aU (by simp;omega) ?_
    have e:(Ce (cq G o) W).take i=Ce (cq G o) W:=List.take_of_length_le (by simp[Ce];omega)
    rw[e]at h;exact hJ _ _ ⟨_,h⟩
  clear h;rintro _ w ⟨s2,h⟩;refine dZ λw h=> ?_;have h:=h.fr 15;refine axO (M:=G.M) (at_:=W.dq) (most:=l.log) Sz.2.2.1 h Sz.1 Sz.2.1 λs4 w h=> ?_;have h:=h.fr 1;have h:=h.bk 16;have h:=h.bk 1;have h4n:=qY (s:=s4) (vs:=ints (G.M.list W.dq)) h;simp only[ints,List.length_map]at h4n;have hl4:(G.M.list W.dq).length≤100000:=Sz.2.2.2.2;refine bP (λ_ w=> ∃s5:Sl,St w0 w (au g [.bool on_,.bool pk_,.slice s2.a s2.n s2.c,.slice s5.a s5.n s5.c]::bG 1 s5 (ints (JT G (cq G o) W))::bG 1 s4 (ints (G.M.list W.dq))::bG 1 s2 (ints (Ce (cq G o) W))::WrB l aa G sp st sw gw q W ((l.wa.zip Ws).eraseIdx j) sr zs (cq G o) s1 R)) (λJ hJ=> ?_) ?_
  ·have h:=(h.DJ 1).bk 1;refine DN (G:=Nat×Sl) (λp x w=>x=(p.1:Int)∧p.1≤(G.M.list W.dq).length∧p.2.n=p.1∧St w0 w (au g [.bool on_,.bool pk_,.slice s2.a s2.n s2.c,.slice p.2.a p.2.n p.2.c]::bG 1 p.2 (ints ((JT G (cq G o) W).take p.1))::bG 1 s4 (ints (G.M.list W.dq))::bG 1 s2 (ints (Ce (cq G o) W))::WrB l aa G sp st sw gw q W ((l.wa.zip Ws).eraseIdx j) sr zs (cq G o) s1 R)) (λp=>(G.M.list W.dq).length - p.1) (g:=(0,⟨none,0,0⟩)) ⟨rfl,af,rfl,h⟩ ?_;clear h;rintro⟨i,s5⟩ x w ⟨hx,hi,CD,h⟩ C hC;dsimp only at hx hi h CD ⊢;subst hx;by_cases hlt:i<(G.M.list W.dq).length
   ·refine bK (by simp;omega) ?_
    obtain⟨y,hy⟩:∃y,(G.M.list W.dq)[i]?=some y:=⟨_,iH hlt⟩;have aFt:=Sz.2.2.2.1 y (qn hy);have hr2:=hrow y.toNat af;rw[iZ]at hr2;refine vI (s:=s4) (vs:=ints (G.M.list W.dq)) h af (x:=y) (by rw[iZ];unfold ints;rw[l8,hy];rfl) ?_
    refine dZ λw h=> ?_;refine vI (s:=s1) (vs:=ints (cq G o)) h aFt.1 hr2 ?_;refine vO λgx w h=> ?_;obtain⟨gn,j7⟩:∃n,n=gx:=⟨_,rfl⟩;subst j7;have Y8:((JT G (cq G o) W).take i).length=i:=by rw[List.length_take];simp[JT];omega
    have hyr:(JT G (cq G o) W)[i]?=some ((cq G o).getD y.toNat 0):=by unfold JT;rw[l8,hy];rfl
    refine I9 (s:=s5) (vs:=ints ((JT G (cq G o) W).take i)) h an0 aZ rfl (by simp only[ints,List.length_map,Y8];omega) af λs3 w h hn=> ?_
    simp only[ints,List.length_map,Y8]at hn;refine dZ λw h=> ?_;have h:=h.zm 0;refine hC (i+1,s3) _ _ ⟨?_,af,hn,?_⟩ (by simp only;omega)
    ·rw[kg ⟨af,af⟩];simp only;omega
    ·have e:ints ((JT G (cq G o) W).take (i+1))=ints ((JT G (cq G o) W).take i)++[.int .i64 ((cq G o).getD y.toNat 0)]:=by rw[List.take_add_one,hyr];simp[ints]
     rw[e];exact h
   ·refine aU (by simp;omega) ?_
    have e:(JT G (cq G o) W).take i=JT G (cq G o) W:=List.take_of_length_le (by simp[JT];omega)
    rw[e]at h;exact hJ _ _ ⟨_,h⟩
  clear h;rintro _ w ⟨s5,h⟩;refine cX ?_;refine Jw rfl rfl ?_;refine vO λgx w h=> ?_;obtain⟨gn,j7⟩:∃n,n=gx:=⟨_,rfl⟩;subst j7;have hln:=pg (sz:=4) (s:=sr) (es:=zs.map (tQ l G)) h;have hzl:zs.length=j:=by
   have:=congrArg List.length hz;rw[List.length_map,List.length_take]at this;omega
  have he:tQ l G (W,s2,s5)=[.bool on_,.bool pk_,.slice s2.a s2.n s2.c,.slice s5.a s5.n s5.c]:=by unfold tQ;rw[Dz,hpk]
  refine Z8 (sz:=4) (s:=sr) (es:=zs.map (tQ l G)) (e:=[.bool on_,.bool pk_,.slice s2.a s2.n s2.c,.slice s5.a s5.n s5.c]) h aFs aZ rfl af (by simp[Value.oneCell']) (by simp;omega) af λs' w h hn=> ?_
  rw[←he]at h;have h:=h.zm 0;have h:=h.zm 0;have h:=h.zm 1;have h:=h.fr 1;have h:St w0 w (Iq G (cq G o) (W,s2,s5)::_):=St.shut (A:=[bG 1 s2 (ints (Ce (cq G o) W)),bG 1 s5 (ints (JT G (cq G o) W))]) h;have h:=h.fr 12;have h:=h.bk 1;have h:=QV h;have h:=h.bk 11;have h:=ac8 hq h;have h:=WY h (kB.1 hos).1;rw[azC hos]at h;have h:=h.bk 13;refine hC (j+1,zs++[(W,s2,s5)]) _ _ ⟨?_,af,?_,?_⟩ (by simp only;omega)
  ·rw[kg ⟨af,af⟩];simp only;omega
  ·rw[List.map_append,hz,List.take_add_one,hW];rfl
  ·rw[List.map_append];exact h
 ·refine aU (by simp;omega) ?_
  have e:Ws.take j=Ws:=List.take_of_length_le af;rw[e]at hz;have h:=h.zm 12;have h:=h.bk 12;have h:=h.bk 12;exact hk _ _ _ hz (pE h)
end
open Ck (oW qx my tj Su qf mZ Few)
def one_le{m:Lm}(hm:m.OK):m.one≤7:=by
 have hl:=hm.log;unfold Lm.one Lm.lg EX;have:∀x:Int,0≤x→x≤8→(3:Int)+2 ^ (if x<2 then x else 2).toNat≤7:=by
  intro x h0 h8;rcases (by omega:x=0∨x=1∨2≤x)with rfl|rfl|h
  ·decide
  ·decide
  ·rw[if_neg af];decide
 exact this _ hl.1 hl.2
section
variable{w0:World}{L R:List HP}{m:Lm}{P:List dB}{g1 g3 g5:Nat}{f1 f3 f5:HP→List HP}{b0 b1 b2:Int}
end
section
variable{w0:World}{L R:List HP}{l:Lc}{P:List dB}{bw:List Int}{ro:List Ro}{aa:List Nat}{G:Gl}{Ws:List Wk}{n:Int}{o:List (Int×Int)}{f:HP→List HP}{sc:Sl}{b lg:Int}
structure UZ (P:List dB) (b s lg:Int) (sc:Sl):Prop where
 Zs:Few P
 b1:1≤b
 s0:0≤s
 b8:b≤8
 s8:s≤8 - b
 l0:0≤lg
 l5:lg≤5
 n:sc.n≤300
 acc:Su (tj P)=[0,0,0]
abbrev U0(ps sc:Sl)(b s lg:Int):Array Value:=#[.slice ps.a ps.n ps.c,.int .i64 b,.int .i64 s,.int .i64 lg,.slice sc.a sc.n sc.c]
abbrev MO(b s lg:Int):Lm:=⟨b,s,65536,1048576,1000,lg⟩
def UZ.ok(h:UZ P b s lg sc):(MO b s lg).OK:=by
 have h1:=h.b1;have h2:=h.s0;have h3:=h.b8;have h4:=h.s8;have h5:=h.l0;have h6:=h.l5;exact⟨⟨h1,by show b≤16;omega⟩,⟨h2,by show s≤16 - b;omega⟩,⟨by show(1:Int)≤65536;decide,by show(65536:Int)≤1048576;decide⟩,⟨by show(0:Int)≤1048576;decide,by show(1048576:Int)≤1048576;decide⟩,⟨by show(1:Int)≤1000;decide,by show(1000:Int)≤1000;decide⟩,⟨h5,by show lg≤8;omega⟩⟩
def UZ.tot(h:UZ P b s lg sc):(MO b s lg).total≤(MO b s lg).cells:=by
 have h1:=h.b1;have h2:=h.s0;have h3:=h.b8;have h4:=h.s8;have hn:(MO b s lg).n≤8:=by unfold Lm.n;show(b+s).toNat≤8;omega
 have:=one_le h.ok;have h5:((MO b s lg).n:Int)*(MO b s lg).one≤(MO b s lg).n*7:=Int.mul_le_mul_of_nonneg_left this af;unfold Lm.total;show _≤(65536:Int);omega
def azI(hF:iA w0 ps P)(h:St w0 w L)(hk:∀b' w',St w0 w' L→(b'=true→UZ P b s lg sc)→k b' w'):lC (U0 ps sc b s lg) w k:=by
 unfold lC BO;refine aM h λg w h=> ?_;have hno:∀w',St w0 w' (au g (U0 ps sc b s lg).toList::L)→k false w':=λw' h=>hk _ _ h.drop λq=>by cases q
 refine cX ?_;refine Ck.aBR (P:=P) (ps:=ps) (hF.ext h.ext) λb1 w' hx hb=> ?_;have h:=h.on hx.ext;clear hx;refine ax (λc0=> ?_) λ_=>hno _ h;refine cX ?_;refine ax (λc1=> ?_) λ_=>hno _ h;refine cX ?_;refine ax (λc2=> ?_) λ_=>hno _ h;refine cX ?_;refine ax (λc3=> ?_) λ_=>hno _ h;simp only[decide_eq_true_eq]at c1 c2 c3;refine cX ?_;rw[show aF .i64 (8 - b)=8 - b from dh ⟨af,af⟩];refine ax (λc4=> ?_) λ_=>hno _ h;refine cX ?_;refine ax (λc5=> ?_) λ_=>hno _ h;refine cX ?_;refine ax (λc6=> ?_) λ_=>hno _ h;refine cX ?_;refine ax (λc7=> ?_) λ_=>hno _ h;simp only[decide_eq_true_eq]at c4 c5 c6 c7;refine cX ?_;refine Ck.adg (P:=P) (ps:=ps) (hF.ext h.ext) λw' hx=> ?_;have h:=h.on hx.ext;refine hk _ _ h.drop λq=>⟨hb c0,c1,c2,c3,c4,c5,c6,af,by simpa using q⟩
def azJ{k:Array Value→ap}(h:St w0 w L)(hk:∀w',St w0 w' L→k (lmA (MO b s lg)) w'):fL (U0 ps sc b s lg) w k:=by
 unfold fL sZ;refine aM h λg1 w h=>aM h λg3 w h=> ?_;with_reducible repeat' (first|refine Iy h ?_|refine Vh h ?_|refine Hq h λw h=> ?_|refine QU h λw h=> ?_|refine aM h λgx w h=> ?_|refine adM h λw h=> ?_|fail)
 exact hk _ h.drop.drop.drop
def azK{k:Option Addr→ap}(hF:iA w0 ps P)(hf:UZ P b s lg sc)(h:St w0 w R)(hk:∀a wa aa w',wa.length=(MO b s lg).n→qK w0 w' (gJ a ps (MO b s lg) wa) aa (eY (MO b s lg)) (Bd (MO b s lg)) R→k (some ⟨a.gs,0,none⟩) w'):kJ (U0 ps sc b s lg) w k:=by
 unfold kJ AJ;refine aM h λg1 w h=> ?_;refine dZ λw h=> ?_;refine azJ (b:=b) (s:=s) (lg:=lg) (ps:=ps) (sc:=sc) h λw h=> ?_;with_reducible repeat' (first|refine nP h ?_|fail)
 refine ahh (m:=MO b s lg) (ps:=ps) (P:=P) hF h.drop (λ_ _ _ a wa aa w' A7 h=> ?_) (λq=>(q hf.acc).elim) (λ_ q=>(q hf.ok).elim) λ_ _ q=>(q hf.tot).elim;exact aU rfl (hk a wa aa w' A7 h)
end
def aog{a b:Array Value}{aAs:List (Nat×Nat)}{k:Bool→Prop}(h:oZ a b aAs=some true)(hk:k true):Tj aAs a b k:=by
 unfold Tj;rw[h];exact hk
section
variable{w0:World}{L R:List HP}{l:Lc}{P:List dB}{bw:List Int}{ro:List Ro}{aa:List Nat}{G:Gl}{Ws:List Wk}{n:Int}{o:List (Int×Int)}{f f2:HP→List HP}{sc s1 s2:Sl}{b lg:Int}
def IV.aFv(hI:IV l P bw ro G Ws)(hW:W∈Ws):awm G W:=by
 obtain⟨i,hi⟩:=List.getElem?_of_mem hW;have hw:=hI.w i W hi;have hd:ZH ro i W.dq:=by rw[hw.dq];exact hI.dq i hw.lt
 have hl:=hI.ty.len;have pk:∀{a:Int} {r:Ro},k9 ro a r→G.M.k8 a=G.M.get a:=λh=>by unfold bJ.k8;rw[if_pos (h.given hl)]
 have hr:=hI.ty.ring hd;have ZK:Rg.of (G.M.k8 (W.dq+2))=o6 G.M W.dq:=by rw[pk hd.Uw];rfl
 have hsz:=size_le (o6 G.M W.dq);have hlen:(G.M.list W.dq).length≤256∧∀x∈G.M.list W.dq,0≤x∧x<G.ts.length:=by
  unfold bJ.list;rw[ZK];split
  ·rename_i h;refine⟨?_,λx hx=> ?_⟩
   ·unfold bJ.Cn;rw[List.length_map,List.length_range];omega
   ·unfold bJ.Cn at hx;obtain⟨k,_,rfl⟩:=List.mem_map.1 hx;have hp:=hr.place (G.M.k8 W.dq+(k:Int));rw[pk hp];exact hI.ty.val _ _ hp
  ·exact⟨bf,λx hx=>by cases hx⟩
 have h1:=hI.ty.val _ _ hd.top;have h2:=hI.ty.val _ _ hd.bot;refine⟨by rw[pk hd.top];exact h1,by rw[pk hd.bot];exact h2,?_,hlen.2,af⟩
 have h3:=hd.top.lt;have h4:=hd.top.1;rw[hl]at h3;have:=hI.ty.ok.fit;have:=hI.ty.ok.size;exact⟨h4,af⟩
def awr{es:List (List Value)}(h:St w0 w L)[a:At L (rws 7 s1) es f][a2:At L (rws 7 s2) es f2](hr:∀e∈es,∃p q r x v st t,e=AO p q r x v st t)(hl:es.length≤1000000)
  (hk:∀w',St w0 w' L→k true w'):dF s1 s2 w k:=by
 have h1:=(pg (sz:=7) (s:=s1) (es:=es) h).2 e7;have h2:=(pg (sz:=7) (s:=s2) (es:=es) h).2 e7;unfold dF;refine aU (by simp;omega) ?_
 refine DN (G:=Nat) (λj i w=>i=(j:Int)∧j≤es.length∧St w0 w L) (λj=>es.length - j) (g:=0) ⟨rfl,af,h⟩ ?_;clear h;rintro j i w ⟨rfl,hj,h⟩ C hC;by_cases hlt:j<es.length
 ·refine bK (by simp;omega) ?_
  obtain⟨e,he⟩:∃e,es[j]?=some e:=⟨_,iH hlt⟩;obtain⟨p,q,r,x,v,st,t,rfl⟩:=hr e (qn he);refine cH h λw h=> ?_;refine rA (sz:=7) (s:=s1) (es:=es) h af (by rw[iZ];exact he) e7 ?_
  refine rA (sz:=7) (s:=s2) (es:=es) h af (by rw[iZ];exact he) e7 ?_
  refine aof [] _ _ _ _ _ _ _ (aU rfl ?_);refine hC (j+1) _ _ ⟨?_,af,h⟩ af;rw[dh ⟨af,af⟩];omega
 ·refine aU (by simp;omega) ?_
  exact hk _ h
end
def ahN(m:Lm):(eY m).P=[(-1,0,0,false),(0,0,0,false)]:=by kernel_rfl
structure akH (G:Gl) (o:List (Int×Int)):Prop where
 ok:SM G o
 nd:(o.map λp=>p.1).Nodup
 pr:∀p∈o,(0≤p.1∧p.1<G.ts.length)∧(p.2<G.ts.length)∧∃t,G.T[p.1.toNat]?=some t∧p.2=t.parent
 all:∀j:Nat,j<G.ts.length→(j:Int)∈o.map λp=>p.1
 ls:(da G o).Nodup
 sc:awk G o
 sr:∀s∈da G o,0≤s∧s<G.C.length
 rw_:∀x∈cq G o,0≤x∧x<G.ts.length
noncomputable def aaC (G:Gl):List (Int×Int):=Classical.epsilon (akH G)
def aLi(l:Lc)(P:List dB)(bw:List Int)(G:Gl)(Ws:List Wk):Prop:=∃ro,IV l P bw ro G Ws∧SKI G Ws
noncomputable def evF (l:Lc) (P:List dB) (S:Gl×List Wk) (e:List Int):(Gl×List Wk)×Bool:=SA l P S.1 S.2 (aaC S.1) (e.getD 0 0) (e.getD 1 0)
noncomputable def aaY (l:Lc) (P:List dB) (S:Gl×List Wk) (evs:List (List Int)):Gl×List Wk:=evs.foldl (λS e=>(evF l P S e).1) S
section
variable{w0:World}{L R:List HP}{l:Lc}{P:List dB}{bw:List Int}{ro:List Ro}{aa:List Nat}{G G':Gl}{Ws:List Wk}{n:Int}{o:List (Int×Int)}{f:HP→List HP}{sc:Sl}
def aDR(hT:Ty l ro G)(h:aLc G):∃o,akH G o:=by
 obtain⟨o,h1,h2,h3,h4⟩:=aDQ h.t;have hkl:=hT.kl;have hcap:=hT.cap;have hol:o.length≤G.ts.length:=by
  have:=acW (n:=G.T.length) h2 λx hx=>by
   obtain⟨p,hp,rfl⟩:=List.mem_map.1 hx;exact(h3 p hp).1
  simpa[hkl]using this
 have hmem:∀x∈o.map (λp=>p.1),0≤x:=λx hx=>by
  obtain⟨p,hp,rfl⟩:=List.mem_map.1 hx;exact(h3 p hp).1.1
 obtain⟨hn,hr⟩:=h.aHh h2 hmem;have BU:=hT.pl;have e:(o.map λp=>p.1).flatMap (λx=>((G.ts.map λt=>t.scopes)[x.toNat]?).getD [])=o.flatMap λp=>(G.tk p.1.toNat).scopes:=by
  rw[List.flatMap_map];have:∀(o:List (Int×Int)),(∀p∈o,p.1.toNat<G.ts.length)→(o.flatMap λp=>((G.ts.map λt=>t.scopes)[p.1.toNat]?).getD [])=o.flatMap λp=>(G.tk p.1.toNat).scopes:=by
   intro o ho;induction o with
   |nil=>rfl
   |cons p o ih=>
    rw[List.flatMap_cons,List.flatMap_cons,ih λq hq=>ho q (by simp[hq]),l8,G.xw (ho p bf)]
    rfl
  exact this o λp hp=>by have:=(h3 p hp).1;omega
 rw[e]at hn hr;obtain⟨a,h0⟩:=h.q0;have hsr:∀s∈da G o,(0≤s∧s<G.C.length)∧(O9 G s).1<G.ts.length:=λs hs=>by
  have key:∀{s:Int} {p},0≤s→(G.P.map plq)[s.toNat]?=some p→(0≤s∧s<G.C.length)∧(O9 G s).1<G.ts.length:=fun{s p} z hp=>by
   have hlt:=(kB.1 hp).1;rw[List.length_map]at hlt;refine⟨af,?_⟩;have hb:=(h.aK9 _ _ hp).1;rw[List.length_map]at hb;rw[l8,iH hlt]at hp;unfold O9;rw[m0,iH hlt];have hp:=Option.some.inj hp;have:(G.P[s.toNat]'hlt).1=p.1:=by rw[←hp];rfl
   show(G.P[s.toNat]'hlt).1< _;rw[this];exact hb.2
  rcases List.mem_cons.1 hs with rfl|hs
  ·exact key e7 h0
  ·obtain⟨z,p,hp,_⟩:=hr s hs;exact key z hp
 have hls:(da G o).Nodup:=by
  refine List.nodup_cons.2 ⟨λq=> ?_,hn⟩;obtain⟨_,p,hp,hpo⟩:=hr 0 q;have:(0:Int).toNat=0:=rfl;rw[this,h0]at hp;obtain rfl:=Option.some.inj hp;have:=hmem _ hpo;omega
 have Y8:=acW (n:=G.C.length) hls λs hs=>(hsr s hs).1;refine⟨o,⟨⟨λi x hx=> ?_,af,?_,λp hp=> ?_,af⟩,h2,λp hp=> ?_,λj hj=>h4 j af,hls,hsr,λs hs=>(hsr s hs).1,λx hx=> ?_⟩⟩
 ·have:=hT.kk i x hx;omega
 ·rw[if_neg (by have:=hT.t1;omega)];exact h1
 ·have:=(h3 p hp).1;omega
 ·obtain⟨a1,t,a2,a3⟩:=h3 p hp;refine⟨af,?_,t,a2,a3⟩;have:=hT.kt _ _ a2;omega
 ·unfold cq at hx;rcases aey o 0 _ x hx with q|q
  ·obtain rfl:=List.eq_of_mem_replicate q;have:=hT.t1;omega
  ·omega
def aLi.ord(h:aLi l P bw G Ws):akH G (aaC G):=by
 obtain⟨ro,h1,h2⟩:=h;exact Classical.epsilon_spec (aDR h1.ty h2.sk)
def aol(h:SKI G Ws)(hT:G'.T=G.T)(hs:G'.ts=G.ts)(hP:G'.P=G.P):SKI G' Ws:=by
 have lf:G'.P.map plq=G.P.map plq:=by rw[hP]
 exact⟨by unfold aLc;rw[hT,hs,hP];exact h.sk,λi W hi hf=>by rw[lf];exact h.fk i W hi hf,h.aLd⟩
def aaZ(ids:List Int):∃M,UX l G ids=G.mem M:=by
 unfold UX;split
 ·exact⟨G.M,rfl⟩
 ·obtain⟨_,_,_,h⟩:=V9 (l.wa.length:Nat) ids G;rw[h];exact⟨_,rfl⟩
def aLi.ev(h:aLi l P bw G Ws)(e:List Int):aLi l P bw (evF l P (G,Ws) e).1.1 (evF l P (G,Ws) e).1.2:=by
 have ho:=h.ord;obtain⟨ro,hI,hS⟩:=h;obtain⟨iT,hI'⟩:=awe (o:=aaC G) (n:=e.getD 1 0) (kind:=e.getD 0 0) hI ho.sr;refine⟨iT,hI',?_⟩;unfold evF SA;dsimp only;split
 ·exact hS
 rename_i he;have he:G.err=0:=Classical.not_not.1 he;split
 ·unfold ZC;split
  ·split
   ·rename_i W hW;split
    ·rw[hI.dl];exact hS.step hI hW he
    ·exact hS
   ·exact hS
  ·exact hS
 split
 ·unfold ZD;split
  ·obtain⟨M,e⟩:=aaZ (l:=l) (G:={G with time:=(G.time.1+e.getD 1 0,Ko.Oy G.time.2 (G.time.1+e.getD 1 0))}) (Ko.ids (Ko.ac4 G.time.2 (G.time.1+e.getD 1 0)));rw[e];exact aol hS rfl rfl rfl
  ·exact hS
 split
 ·split
  ·exact aol hS rfl rfl rfl
  ·exact hS
 split
 ·unfold ZF;split
  ·split
   ·exact hS
   ·obtain⟨M,e⟩:=aaZ (l:=l) (G:=G) [(da G (aaC G)).getD (e.getD 1 0).toNat 0];rw[e];exact aol hS rfl rfl rfl
  ·exact hS
 ·exact hS
def aLi.aD7(h:aLi l P bw G Ws)(evs:List (List Int)):aLi l P bw (aaY l P (G,Ws) evs).1 (aaY l P (G,Ws) evs).2:=by
 induction evs generalizing G Ws with
 |nil=>exact h
 |cons e evs ih=>exact ih (h.ev e)
def aD9(hI:aLi l P bw G Ws)(hF:iA w0 l.ps P)(hT:TZ w0)(h:qK w0 w l aa G Ws R)
  (hk:∀JI w',qK w0 w' l JI (evF l P (G,Ws) [kind,n]).1.1 (evF l P (G,Ws) [kind,n]).1.2 R→k (evF l P (G,Ws) [kind,n]).2 w'):nO (some ⟨l.gs,0,none⟩) #[.int .i64 kind,.int .i64 n] w k:=by
 have ho:=hI.ord;obtain⟨ro,hV,hS⟩:=hI;exact aFl hV hF hT ho.ok ho.sr h hk
def ad4{k:Sl→ap}(hI:aLi l P bw G Ws)(h:qK w0 w l aa G Ws R)(hk:∀s w',qK w0 w' l aa G Ws (rws 7 s (Yn G (aaC G))::R)→k s w'):dD (some ⟨l.gs,0,none⟩) w k:=by
 have ho:=hI.ord;obtain⟨ro,hV,hS⟩:=hI;exact akd hV ho.ok (λp hp=>(ho.pr p hp).2.1) ho.rw_ h hk
def aes{k:Sl→ap}(hI:aLi l P bw G Ws)(h:qK w0 w l aa G Ws R)(hk:∀s w',qK w0 w' l aa G Ws (rws 6 s (adK G (aaC G))::R)→k s w'):j1 (some ⟨l.gs,0,none⟩) w k:=by
 have ho:=hI.ord;obtain⟨ro,hV,hS⟩:=hI;exact Zu hV ho.ok ho.sc h hk
def arZ{k:Sl→ap}(hd:l.deep≤1000000)(hI:aLi l P bw G Ws)(h:qK w0 w l aa G Ws R)(hk:∀s zs w',zs.map (λz:Wz=>z.1)=Ws→qK w0 w' l aa G Ws (rws 4 s (zs.map (tQ l G))::jO (Iq G (cq G (aaC G))) zs::R)→k s w'):jB (some ⟨l.gs,0,none⟩) w k:=by
 have ho:=hI.ord;obtain⟨ro,hV,hS⟩:=hI;exact amu hd hV ho.ok (λW hW=>hV.aFv hW) h hk
def aBb{k:Unit→ap}{evs:List (List Int)}(hF:iA w0 l.ps P)(hT:TZ w0)(hR:QM 2 w0 sc (evs.map Go.Ev.ints))(hev:∀x∈evs,x.length=2)(hn:evs.length≤1000000)(hI:aLi l P bw G Ws)(h:qK w0 w l aa G Ws R)
  (hk:∀JI w',qK w0 w' l JI (aaY l P (G,Ws) evs).1 (aaY l P (G,Ws) evs).2 R→k () w'):aaB (some ⟨l.gs,0,none⟩) sc w k:=by
 have hl:=hR.len;rw[List.length_map]at hl;unfold aaB aaT;refine DN (G:=Nat×List Nat) (λq i w=>i=(q.1:Int)∧q.1≤evs.length∧qK w0 w l q.2 (aaY l P (G,Ws) (evs.take q.1)).1 (aaY l P (G,Ws) (evs.take q.1)).2 R) (λq=>evs.length - q.1) (g:=(0,aa)) ⟨rfl,af,h⟩ ?_;clear h;rintro⟨j,aa⟩ i w ⟨hi,hj,h⟩ C hC;dsimp only at hi hj h;subst hi;by_cases hlt:j<evs.length
 ·refine bK (by simp;omega) ?_
  obtain⟨e,he⟩:∃e,evs[j]?=some e:=⟨_,iH hlt⟩;have h2:=hev e (qn he);obtain⟨kd,n,rfl⟩:∃a b,e=[a,b]:=by
   match e,h2 with
   |[a,b],_=>exact⟨a,b,rfl⟩
  refine QN hR h af (e:=Go.Ev.ints [kd,n]) (by rw[iZ,l8,he];rfl) λp hp=> ?_
  refine Ho (n:=2) (e:=Go.Ev.ints [kd,n]) rfl (λm v hv=>hp h hv) ?_;have hP:=hI.aD7 (evs.take j);refine aD9 hP hF hT h λJI w h=> ?_;have e1:aaY l P (G,Ws) (evs.take (j+1))=(evF l P (aaY l P (G,Ws) (evs.take j)) [kd,n]).1:=by
   unfold aaY;rw[List.take_add_one,he,List.foldl_append];rfl
  refine hC (j+1,JI) _ _ ⟨?_,af,?_⟩ (by simp only;omega)
  ·rw[kg ⟨af,af⟩];omega
  ·dsimp only;rw[e1];exact h
 ·refine aU (by simp;omega) ?_
  rw[List.take_of_length_le af]at h;exact hk _ _ h
end
def ov1(l:Lc)(G:Gl)(Ws:List Wk)(o:List (Int×Int))(kd n:Int):Bool:=
 if kd=0 then(if 0≤n∧n<Ws.length then(match Ws[n.toNat]? with|some W=> !(onF l G W)||W.wait.parked G.M l.told|none=>true)else true)
 else if kd=1 then !(Ko.Sn G.time.1 n)
 else if kd=3 then(if 0≤n∧n<(da G o).length then ZE G ((da G o).getD n.toNat 0)else true)
 else if kd=2 then false else true
section
variable{w0:World}{L R:List HP}{l:Lc}{P:List dB}{bw:List Int}{ro:List Ro}{aa:List Nat}{G G':Gl}{Ws:List Wk}{W':Wk}{n kd:Int}{o:List (Int×Int)}{f f2:HP→List HP}{sc s1 s2:Sl}{r:Ro}
def aGb(hd:G.D.length<1024):(SA l P G Ws o kd n).2= !(decide (G.err≠0)||ov1 l G Ws o kd n):=by
 unfold SA ov1;by_cases he:G.err=0;rotate_left
 ·rw[if_pos he];simp[he]
 rw[if_neg (by simp[he])]
 simp only[he,ne_eq,not_true_eq_false,decide_false,Bool.false_or];by_cases h0:kd=0
 ·rw[if_pos h0,if_pos h0];unfold ZC onF;split
  ·cases hW:Ws[n.toNat]? with
   |none=>rfl
   |some W=>
    dsimp only;cases tD (l.sp.bits G.M) W.id<;>cases W.wait.parked G.M l.told<;>rfl
  ·rfl
 rw[if_neg h0,if_neg h0];by_cases h1:kd=1
 ·rw[if_pos h1,if_pos h1];unfold ZD;dsimp only;cases Ko.Sn G.time.1 n<;>rfl
 rw[if_neg h1,if_neg h1];by_cases h2:kd=2
 ·rw[if_pos h2,if_pos hd,if_neg (show¬kd=3 by omega),if_pos h2];rfl
 rw[if_neg h2];by_cases h3:kd=3
 ·rw[if_pos h3,if_pos h3];unfold ZF;dsimp only;split
  ·cases ZE G ((da G o).getD n.toNat 0)<;>rfl
  ·rfl
 rw[if_neg h3,if_neg h3,if_neg h2];rfl
def aGc(h:(SA l P G Ws o kd n).2=false):(SA l P G Ws o kd n).1=(G,Ws):=by
 unfold SA ZC ZD ZF at h ⊢;by_cases he:G.err≠0
 ·rw[if_pos he]
 rw[if_neg he]at h ⊢;by_cases h0:kd=0
 ·rw[if_pos h0]at h ⊢;split
  ·rename_i hn;rw[if_pos hn]at h;split
   ·rename_i W hW;rw[hW]at h;dsimp only at h;split
    ·rename_i ho;rw[if_pos ho]at h;cases h
    ·rfl
   ·rfl
  ·rfl
 rw[if_neg h0]at h ⊢;by_cases h1:kd=1
 ·rw[if_pos h1]at h ⊢;split
  ·rename_i ha;rw[if_pos ha]at h;cases h
  ·rfl
 rw[if_neg h1]at h ⊢;by_cases h2:kd=2
 ·rw[if_pos h2]at h ⊢;split
  ·rename_i ha;rw[if_pos ha]at h;cases h
  ·rfl
 rw[if_neg h2]at h ⊢;by_cases h3:kd=3
 ·rw[if_pos h3]at h ⊢;split
  ·rename_i ha;rw[if_pos ha]at h;split
   ·rfl
   ·rename_i hc;rw[if_neg hc]at h;cases h
  ·rfl
 ·rw[if_neg h3]
def Stp.low(h:Stp l P ro G W G' W'):G'.D.length≤G.D.length∧G'.time.1=G.time.1:=by
 cases h with
 |quiet q k _ d=>exact⟨by rcases d with e|e<;>rw[e] <;>simp,rfl⟩
 |opens ne hd r h11 lt rm n32=>
  refine⟨iw _,?_⟩;show(if _>(0:Int)then _ else G.time:Int×List (Int×Int)).1=_
  split<;>rfl
 |_=>exact⟨iw _,rfl⟩
def aHj(h:aLi l P bw G Ws)(e:List Int):(evF l P (G,Ws) e).1.1.D.length≤G.D.length+1:=by
 obtain⟨ro,hI,hS⟩:=h;have hle:G.D.length≤G.D.length+1:=af;unfold evF SA;dsimp only;split
 ·exact hle
 rename_i he;have he:G.err=0:=Classical.not_not.1 he;split
 ·unfold ZC;split
  ·split
   ·rename_i W hW;split
    ·rw[hI.dl];have:=(aib (hI.cx hW he) hI.fr).low.1;show(ZB l P G W bw).1.D.length≤_;omega
    ·exact hle
   ·exact hle
  ·exact hle
 split
 ·unfold ZD;split
  ·obtain⟨M,e⟩:=aaZ (l:=l) (G:={G with time:=(G.time.1+e.getD 1 0,Ko.Oy G.time.2 (G.time.1+e.getD 1 0))}) (Ko.ids (Ko.ac4 G.time.2 (G.time.1+e.getD 1 0)));rw[e];show G.D.length≤_;omega
  ·exact hle
 split
 ·split
  ·show(G.D++[_]).length≤_;simp
  ·exact hle
 split
 ·unfold ZF;split
  ·split
   ·exact hle
   ·obtain⟨M,e⟩:=aaZ (l:=l) (G:=G) [(da G (aaC G)).getD (e.getD 1 0).toNat 0];rw[e];show G.D.length≤_;omega
  ·exact hle
 ·exact hle
def aDS(h:aLi l P bw G Ws)(evs:List (List Int)):(aaY l P (G,Ws) evs).1.D.length≤G.D.length+evs.length:=by
 induction evs generalizing G Ws with
 |nil=>exact iw _
 |cons e evs ih=>
  have h1:(aaY l P (evF l P (G,Ws) e).1 evs).1.D.length≤(evF l P (G,Ws) e).1.1.D.length+evs.length:=ih (h.ev e);have h2:(evF l P (G,Ws) e).1.1.D.length≤G.D.length+1:=aHj h e;generalize (evF l P (G,Ws) e).1.1.D.length=z at h1 h2;show(aaY l P (evF l P (G,Ws) e).1 evs).1.D.length≤G.D.length+(evs.length+1);omega
def axl(h:Ty l ro G)(hs:0≤s∧s<G.C.length)(hL:k9 ro a r)(hr:∀z,r≠ .ask z):(G.Fw wk s).M.get a=G.M.get a:=by
 obtain⟨_,Gb⟩:=h.O7 hs.1 hs.2;have hlt:=Gb.a.lt;rw[h.len]at hlt;show(G.M.cs wk (G.nd s).at_ 0 1).1.get a=_;rw[abi Gb.a.1 hlt hL.1,if_neg];exact λq=>hL.ne Gb.a (hr _) q.1
def akM(wk:Int)(hL:k9 ro a r)(hr:∀z,r≠ .ask z):∀(ids:List Int) (G:Gl),Ty l ro G→(∀x∈ids,0≤x∧x<G.C.length)→(sK wk G ids).M.get a=G.M.get a
 |[],_,_,_=>rfl
 |s::ids,G,h,hs=>by
  obtain⟨h1,_,_,h4,_⟩:=awd h (wk:=wk) (hs s bf);show(sK wk (G.Fw wk s) ids).M.get a=_;rw[akM wk hL hr ids (G.Fw wk s) h1 λx hx=>by rw[h4];exact hs x (by simp[hx]),axl h (hs s bf) hL hr]
def akN(h:Ty l ro G)(hs:∀x∈ids,0≤x∧x<G.C.length)(hL:k9 ro a r)(hr:∀z,r≠ .ask z)(hr2:r≠ .told):(UX l G ids).M.get a=G.M.get a:=by
 unfold UX;split
 ·rfl
 ·obtain⟨k1,_⟩:=akb (l.wa.length:Nat) ids G h hs;show((sK (l.wa.length:Nat) G ids).M.ad _ l.told 1).get a=_;have hlt:=k1.told.lt;rw[k1.len]at hlt;rw[ay3 k1.told.1 hlt hL.1,if_neg (hL.ne k1.told hr2),akM (l.wa.length:Nat) hL hr ids G h hs]
def atl(hts:G'.ts=G.ts)(hP:G'.P=G.P)(hK:∀x,x<G.ts.length→G'.K x=G.K x∧G'.V x=G.V x)(ho:∀p∈o,0≤p.1∧p.1<G.ts.length):Yn G' o=Yn G o:=by
 have OH:∀x,G'.tk x=G.tk x:=λx=>by unfold Gl.tk;rw[hts]
 have hrow:∀r p,p∈o→rowAt G' r p=rowAt G r p:=λr p hp=>by
  have h1:=ho p hp;obtain⟨h2,h3⟩:=hK p.1.toNat af;unfold rowAt;dsimp only;rw[OH,hP,h2,h3]
 have DB:∀(q:List (Int×Int)) (r:List Int) T,(∀p∈q,p∈o)→Gc G' r T q=Gc G r T q:=λq=>by
  induction q with
  |nil=>intro r T _;rfl
  |cons p q ih=>
   intro r T hq;unfold Gc;rw[hrow r p (hq p bf),ih r _ λz hz=>hq z (by simp[hz])]
 unfold Yn cq;rw[hts];exact DB o _ _ λp hp=>hp
def apk(h:Ty l ro G)(hs:∀x∈ids,0≤x∧x<G.C.length)(ho:∀p∈o,0≤p.1∧p.1<G.ts.length):Yn (UX l G ids) o=Yn G o:=by
 obtain⟨M,e⟩:=aaZ (l:=l) (G:=G) ids;refine atl (by rw[e];rfl) (by rw[e];rfl) (λx hx=> ?_) ho
 have ht:=h.qh hx;have OH:(UX l G ids).tk x=G.tk x:=by rw[e];rfl
 unfold Gl.K Gl.V;rw[OH,akN h hs ht.k bf bf,akN h hs ht.v bf bf];exact⟨rfl,rfl⟩
def aBc{st:List Int}{o':List (Int×Int)}(h:Dfs T st o)(h':Dfs T st o'):o=o':=by
 induction h generalizing o' with
 |nil=>cases h';rfl
 |cons h1 _ ih=>
  cases h' with
  |cons h2 h3=>
   rw[h1]at h2;obtain rfl:=Option.some.inj h2;rw[ih h3]
def akH.one{o':List (Int×Int)}(h:akH G o)(h':akH G' o')(hT:G'.T=G.T):o'=o:=by
 have h1:=h.ok.dfs;have h2:=h'.ok.dfs;rw[hT]at h2;split at h1
 ·rename_i e;rw[if_pos e]at h2;rw[h1,h2]
 ·rename_i e;rw[if_neg e]at h2;exact aBc h2 h1
def ar1{es:List (List Value)}(h:St w0 w L)[a:At L (rws 6 s1) es f][a2:At L (rws 6 s2) es f2](hr:∀e∈es,∃p q r x v t,e=[.int .i64 p,.int .i64 q,.int .i64 r,.bool x,.bool v,.int .i64 t])(hl:es.length≤1000000)
  (hk:∀w',St w0 w' L→k true w'):fu s1 s2 w k:=by
 have h1:=(pg (sz:=6) (s:=s1) (es:=es) h).2 e7;have h2:=(pg (sz:=6) (s:=s2) (es:=es) h).2 e7;unfold fu;refine aU (by simp;omega) ?_
 refine DN (G:=Nat) (λj i w=>i=(j:Int)∧j≤es.length∧St w0 w L) (λj=>es.length - j) (g:=0) ⟨rfl,af,h⟩ ?_;clear h;rintro j i w ⟨rfl,hj,h⟩ C hC;by_cases hlt:j<es.length
 ·refine bK (by simp;omega) ?_
  obtain⟨e,he⟩:∃e,es[j]?=some e:=⟨_,iH hlt⟩;obtain⟨p,q,r,x,v,t,rfl⟩:=hr e (qn he);refine cH h λw h=> ?_;refine rA (sz:=6) (s:=s1) (es:=es) h af (by rw[iZ];exact he) e7 ?_
  refine rA (sz:=6) (s:=s2) (es:=es) h af (by rw[iZ];exact he) e7 ?_
  refine aog ?_ (aU rfl ?_)
  ·simp[oZ,eqC]
  refine hC (j+1) _ _ ⟨?_,af,h⟩ af;rw[dh ⟨af,af⟩];omega
 ·refine aU (by simp;omega) ?_
  exact hk _ h
end
def UZ.aFw{P:List dB}{b lg:Int}{sc:Sl}(h:UZ P b s lg sc):oW P:=Ck.afq.1 (by
 have:=h.acc;unfold Su at this;simp at this;exact this.2.2)
section
variable{w0:World}{L R:List HP}{P:List dB}{sc:Sl}{b lg:Int}
end
def aDT(m:Lm):(eY m).T=[⟨-1,0,[]⟩]:=by kernel_rfl
def aBd(m:Lm):(eY m).ts.map (λt=>t.scopes)=[[1]]:=by kernel_rfl
def aDU(m:Lm):(eY m).D=[]:=by kernel_rfl
def aBe:KtT [⟨-1,0,[]⟩]:=by
 refine⟨e7,λy hy=>by simp at hy;subst hy;rfl,λi x hx k hk=> ?_,λj y hy hj=> ?_,λi x hx=> ?_⟩
 ·match i,hx with
  |0,hx=>simp at hx;subst hx;cases hk
 ·match j,hy with
  |0,_=>omega
 ·match i,hx with
  |0,hx=>simp at hx;subst hx;exact List.nodup_nil
def aGd(m:Lm):aLc (eY m):=by
 unfold aLc;rw[aDT,aBd,ahN];refine⟨aBe,rfl,λx l hl k s hk=> ?_,⟨_,rfl⟩,λs p hp=> ?_⟩
 ·match x,hl with
  |0,hl=>
   simp at hl;subst hl;match k,hk with
   |0,hk=>
    simp at hk;subst hk;exact⟨e7,_,rfl,rfl,rfl⟩
 ·match s,hp with
  |0,hp=>simp[plq]at hp;subst hp;exact⟨e7,λq=>by simp at q⟩
  |1,hp=>simp[plq]at hp;subst hp;exact⟨e7,λ_=>⟨_,rfl,e7,rfl⟩⟩
def aDV(m:Lm):SKI (eY m) (Bd m):=by
 refine⟨aGd m,λi W hi hf=> ?_,λi j Wi Wj hi hj hf=> ?_⟩
 ·obtain⟨_,rfl⟩:=adF hi;cases hf
 ·obtain⟨_,rfl⟩:=adF hi;cases hf
section
variable{w0:World}{L R:List HP}{l:Lc}{P:List dB}{bw:List Int}{ro:List Ro}{aa:List Nat}{G G':Gl}{Ws:List Wk}{W':Wk}{n kd b lg:Int}{o:List (Int×Int)}{sc:Sl}{evs:List (List Int)}
def UZ.rn(hf:UZ P b s lg sc){a:Ad}(A7:wa.length=(MO b s lg).n):aLi (gJ a ps (MO b s lg) wa) P (dqN (MO b s lg)) (eY (MO b s lg)) (Bd (MO b s lg)):=
 ⟨_,awf (a:=a) (ps:=ps) (wa:=wa) hf.ok hf.tot (by show(65536:Int)≤65536;decide) A7 hf.aFw,aDV _⟩
def axm(r:List Int)(x:Int):∃p q u v z t,xy G r x=[.int .i64 p,.int .i64 q,.int .i64 u,.bool v,.bool z,.int .i64 t]:=⟨_,_,_,_,_,_,rfl⟩
def ad2(o:List (Int×Int)):∀e∈Yn G o,∃p q r x v st t,e=AO p q r x v st t:=by
 unfold Yn;have key:∀(o:List (Int×Int)) (r:List Int) (T:List (List Value)),(∀e∈T,∃p q r x v st t,e=AO p q r x v st t)→∀e∈Gc G r T o,∃p q r x v st t,e=AO p q r x v st t:=λo=>by
  induction o with
  |nil=>intro r T h;exact h
  |cons p o ih=>
   intro r T h;refine ih r _ λe he=> ?_;rcases List.mem_or_eq_of_mem_set he with q|q
   ·exact h e q
   ·subst q;exact⟨_,_,_,_,_,_,_,rfl⟩
 refine key o _ _ λe he=> ?_;obtain rfl:=List.eq_of_mem_replicate he;exact⟨_,_,_,_,_,_,_,rfl⟩
def adJ(o:List (Int×Int)):(Yn G o).length=G.ts.length:=by unfold Yn;rw[adI,List.length_replicate]
def acY(o:List (Int×Int)):(adK G o).length=(da G o).length:=by unfold adK;rw[List.length_map]
end
section
variable{w0:World}{L R:List HP}{l:Lc}{P:List dB}{bw:List Int}{ro:List Ro}{aa:List Nat}{G G':Gl}{Ws:List Wk}{W':Wk}{n kd b lg:Int}{o:List (Int×Int)}{sc:Sl}{evs:List (List Int)}
def aop(h:aLi l P bw G Ws)(h1:kd≠1):(evF l P (G,Ws) [kd,n]).1.1.time.1=G.time.1:=by
 obtain⟨ro,hI,hS⟩:=h;show(SA l P G Ws (aaC G) kd n).1.1.time.1=_;unfold SA;split
 ·rfl
 rename_i he;have he:G.err=0:=Classical.not_not.1 he;split
 ·unfold ZC;split
  ·split
   ·rename_i W hW;split
    ·rw[hI.dl];exact(aib (hI.cx hW he) hI.fr).low.2
    ·rfl
   ·rfl
  ·rfl
 split
 ·split<;>rfl
 split
 ·unfold ZF;split
  ·split
   ·rfl
   ·obtain⟨M,e⟩:=aaZ (l:=l) (G:=G) [(da G (aaC G)).getD n.toNat 0];rw[e];rfl
  ·rfl
 ·rfl
def axn(h:Ty l ro G)(hs:0≤s∧s<G.C.length):(UX l G [s]).M.get (G.nd s).at_≠0:=by
 obtain⟨_,Gb⟩:=h.O7 hs.1 hs.2;obtain⟨k1,_⟩:=awd h (wk:=(l.wa.length:Nat)) hs;have hlt:=Gb.a.lt;rw[h.len]at hlt;have hl2:=k1.told.lt;rw[k1.len]at hl2;unfold UX;rw[if_neg bf];show((G.Fw (l.wa.length:Nat) s).M.ad _ l.told 1).get _≠0;rw[ay3 k1.told.1 hl2 Gb.a.1,if_neg (Gb.a.ne k1.told bf)];show(G.M.cs _ (G.nd s).at_ 0 1).1.get _≠0;rw[abi Gb.a.1 hlt Gb.a.1];split
 ·decide
 ·rename_i q;exact λz=>q ⟨rfl,z⟩
def aBf(h:aLi l P bw G Ws)(he:G.err=0)(ha:Ko.Sn G.time.1 n=true):(evF l P (G,Ws) [1,n]).1.1.time.1=G.time.1+n∧Yn (evF l P (G,Ws) [1,n]).1.1 (aaC (evF l P (G,Ws) [1,n]).1.1)=Yn G (aaC G):=by
 have ho:=h.ord;have zl:=(h.ev [1,n]).ord;obtain⟨ro,hI,hS⟩:=h;have e:(evF l P (G,Ws) [1,n]).1.1=UX l {G with time:=(G.time.1+n,Ko.Oy G.time.2 (G.time.1+n))} (Ko.ids (Ko.ac4 G.time.2 (G.time.1+n))):=by
  show(SA l P G Ws (aaC G) 1 n).1.1=_;unfold SA ZD;rw[if_neg (by simp[he]),if_neg e7,if_pos rfl,if_pos ha]
 obtain⟨M,e2⟩:=aaZ (l:=l) (G:={G with time:=(G.time.1+n,Ko.Oy G.time.2 (G.time.1+n))}) (Ko.ids (Ko.ac4 G.time.2 (G.time.1+n)));have aLj:aaC (evF l P (G,Ws) [1,n]).1.1=aaC G:=ho.one zl (by rw[e,e2];rfl)
 have ty1:Ty l ro {G with time:=(G.time.1+n,Ko.Oy G.time.2 (G.time.1+n))}:={hI.ty with ck:=hI.ty.ck.adv ha,Qn:=λy hy=>hI.ty.Qn y (List.mem_filter.1 hy).1}
 refine⟨by rw[e,e2];rfl,?_⟩
 rw[aLj,e,apk ty1 (λx hx=> ?_) λp hp=>(ho.pr p hp).1]
 ·exact atl (G:=G) (G':={G with time:=(G.time.1+n,Ko.Oy G.time.2 (G.time.1+n))}) rfl rfl (λx hx=>⟨rfl,rfl⟩) λp hp=>(ho.pr p hp).1
 ·obtain⟨y,hy,rfl⟩:=List.mem_map.1 hx;have hm:=(List.mem_filter.1 hy).1;exact⟨hI.ty.ck.ids y hm,hI.ty.Qn y hm⟩
def aBg(h:aLi l P bw G Ws)(he:G.err=0)(hn:0≤n∧n<(da G (aaC G)).length)(hc:ZE G ((da G (aaC G)).getD n.toNat 0)=false):
  Yn (evF l P (G,Ws) [3,n]).1.1 (aaC (evF l P (G,Ws) [3,n]).1.1)=Yn G (aaC G)∧da (evF l P (G,Ws) [3,n]).1.1 (aaC (evF l P (G,Ws) [3,n]).1.1)=da G (aaC G)∧(evF l P (G,Ws) [3,n]).1.1.M.get ((evF l P (G,Ws) [3,n]).1.1.nd ((da G (aaC G)).getD n.toNat 0)).at_≠0:=by
 have ho:=h.ord;have zl:=(h.ev [3,n]).ord;obtain⟨ro,hI,hS⟩:=h;have hlt:n.toNat<(da G (aaC G)).length:=af;have hm:(da G (aaC G)).getD n.toNat 0∈da G (aaC G):=by rw[m0,iH hlt];exact List.getElem_mem hlt
 have hs:=ho.sr _ hm;have e:(evF l P (G,Ws) [3,n]).1.1=UX l G [(da G (aaC G)).getD n.toNat 0]:=by
  show(SA l P G Ws (aaC G) 3 n).1.1=_;unfold SA ZF;rw[if_neg (by simp[he]),if_neg e7,if_neg e7,if_neg e7,if_pos rfl,if_pos hn,if_neg (by rw[hc];decide)]
 generalize (da G (aaC G)).getD n.toNat 0=x at*
 obtain⟨M,e2⟩:=aaZ (l:=l) (G:=G) [x];have aLj:aaC (evF l P (G,Ws) [3,n]).1.1=aaC G:=ho.one zl (by rw[e,e2];rfl)
 have aHk:∀y∈ [x],0≤y∧y<(G.C.length:Int):=λy hy=>by simp at hy;subst hy;exact hs
 refine⟨?_,?_,?_⟩
 ·rw[aLj,e,apk hI.ty aHk λp hp=>(ho.pr p hp).1]
 ·rw[aLj,e,e2];rfl
 ·have e3:(evF l P (G,Ws) [3,n]).1.1.nd x=G.nd x:=by rw[e,e2];rfl
  rw[e3,e];exact axn hI.ty hs
end
section
variable{w0:World}{L R:List HP}{l:Lc}{P:List dB}{bw:List Int}{ro:List Ro}{aa:List Nat}{G G':Gl}{Ws:List Wk}{W':Wk}{n kd b lg:Int}{o:List (Int×Int)}{sc:Sl}{evs:List (List Int)}
def axo(hF:iA w0 ps P)(hT:TZ w0)(hR:QM 2 w0 sc (evs.map Go.Ev.ints))(hev:∀x∈evs,x.length=2)(hk:∀w',Ext w0 w'→k true w'):aaF (U0 ps sc b s lg) #[.int .i64 kd,.int .i64 n] w0 k:=by
 unfold aaF aaG;have aw:∀{w:World} {L:List HP},St w0 w L→iv w k:=λh=>awq (hT.ext h.ext) λw' hx=>hk w' (h.ext.trans hx);refine aM (.nil w0) λg1 w h=> ?_;refine aM h λg3 w h=> ?_;refine cX ?_;refine azI (P:=P) (ps:=ps) (b:=b) (s:=s) (lg:=lg) (sc:=sc) hF h λb' w h hb=> ?_;refine ax (λhb'=>aw h) λhb'=> ?_;have hf:=hb (by simpa using hb')
 clear hb hb';refine cX ?_;refine azK (P:=P) (ps:=ps) (b:=b) (s:=s) (lg:=lg) (sc:=sc) hF hf h λa wa aa w A7 h=> ?_;refine aU rfl ?_;have hI:aLi (gJ a ps (MO b s lg) wa) P (dqN (MO b s lg)) (eY (MO b s lg)) (Bd (MO b s lg)):=hf.rn A7;have hdp:(gJ a ps (MO b s lg) wa).deep≤1000000:=by show(1000:Int)≤1000000;decide
 have hel:evs.length≤300:=by have:=hf.n;have:=hR.len;rw[List.length_map]at this;omega
 refine cX ?_;have hl:(gJ a ps (MO b s lg) wa).gs=a.gs:=rfl;have hlp:(gJ a ps (MO b s lg) wa).ps=ps:=rfl;have hD0:=aDU (MO b s lg);generalize gJ a ps (MO b s lg) wa=l at*
 generalize dqN (MO b s lg)=bw at*
 generalize eY (MO b s lg)=G0 at*
 generalize Bd (MO b s lg)=Ws0 at*
 rw[←hl];subst hlp;refine aBb (sc:=sc) hF hT hR hev af hI h λaa w h=> ?_;have hD:=aDS hI evs;replace hI:=hI.aD7 evs;rw[hD0]at hD;generalize aaY l P (G0,Ws0) evs=S at*
 obtain⟨G,Ws⟩:=S;dsimp only at h hI hD;have hD:G.D.length<1024:=by simp at hD;omega
 clear hD0 hf A7 hR hev;refine ad4 hI h λs15 w h=> ?_;refine aes hI h λs17 w h=> ?_;refine arZ hdp hI h λs19 zs w hz h=> ?_;have aHm:=(pg (sz:=4) (s:=s19) (es:=zs.map (tQ l G)) h).2 e7;have aHn:=(pg (sz:=6) (s:=s17) (es:=adK G (aaC G)) h).2 e7;have hzn:zs.length=Ws.length:=by rw[←hz,List.length_map]
 rw[List.length_map,hzn]at aHm;rw[acY]at aHn;refine azA h λw h=> ?_;refine ao9 h λw h=> ?_;have hV:=hI;obtain⟨ro,hIV,hS⟩:=hV;have hck:=hIV.ty.ck;have hcap:=hIV.ty.cap;have ho:=hI.ord;have hts:(da G (aaC G)).length≤1000000:=ho.ok.sc;refine cX ?_;refine bP (λb' w=>b'=ov1 l G Ws (aaC G) kd n∧qK w0 w l aa G Ws (rws 4 s19 (zs.map (tQ l G))::jO (Iq G (cq G (aaC G))) zs::rws 6 s17 (adK G (aaC G))::rws 7 s15 (Yn G (aaC G))::au g3 [.int .i64 kd,.int .i64 n]::[au g1 (U0 l.ps sc b s lg).toList])) (λJ hJ=> ?_) ?_
 ·unfold ov1 at hJ;refine ax (λh0=> ?_) λh0=> ?_
  ·have h0:kd=0:=by simpa using h0
   rw[if_pos h0]at hJ;refine ax (λhn=> ?_) λhn=> ?_
   ·have hn:n<0:=by simpa using hn
    refine hJ _ _ ⟨by rw[if_neg af],h⟩
   have hn:¬n<0:=by simpa using hn
   refine cX ?_;refine ax (λhm=> ?_) λhm=> ?_
   ·have hm:n≥(s19.n:Nat):=by simpa using hm
    refine hJ _ _ ⟨by rw[if_neg af],h⟩
   have hm:¬n≥(s19.n:Nat):=by simpa using hm
   rw[if_pos af]at hJ;obtain⟨z,WK⟩:∃z:Wz,zs[n.toNat]?=some z:=⟨_,iH af⟩;have hW:Ws[n.toNat]?=some z.1:=by rw[←hz,l8,WK];rfl
   rw[hW]at hJ;dsimp only at hJ;have hrow:(zs.map (tQ l G))[n.toNat]?=some (tQ l G z):=by rw[l8,WK];rfl
   refine cX ?_;refine rB (sz:=4) (s:=s19) (es:=zs.map (tQ l G)) h af hrow (x:=onF l G z.1) rfl ?_;refine ax (λhb=> ?_) λhb=> ?_
   ·exact hJ _ _ ⟨by
      have hb:onF l G z.1=false:=by simpa using hb
      rw[hb];rfl,h⟩
   have hb:onF l G z.1=true:=by simpa using hb
   refine cX ?_;refine rB (sz:=4) (s:=s19) (es:=zs.map (tQ l G)) h af hrow (x:=z.1.wait.parked G.M l.told) rfl ?_;exact hJ _ _ ⟨by rw[hb];rfl,h⟩
  have h0:¬kd=0:=by simpa using h0
  rw[if_neg h0]at hJ;refine ax (λh1=> ?_) λh1=> ?_
  ·have h1:kd=1:=by simpa using h1
   rw[if_pos h1]at hJ;have e:Ko.Sn G.time.1 n=decide (0≤n∧n≤1099511627776 - G.time.1):=rfl;rw[e]at hJ;have hlo:=hck.lo;have hhi:G.time.1≤1099511627776:=hck.hi;refine ax (λhn=> ?_) λhn=> ?_
   ·have hn:n<0:=by simpa using hn
    exact hJ _ _ ⟨by rw[decide_eq_false af];rfl,h⟩
   have hn:¬n<0:=by simpa using hn
   refine cX ?_;refine hJ _ _ ⟨?_,h⟩;rw[dh ⟨af,af⟩];by_cases hm:n>1099511627776 - G.time.1
   ·rw[decide_eq_true hm,decide_eq_false (p:=0≤n∧n≤1099511627776 - G.time.1) af];rfl
   ·rw[decide_eq_false hm,decide_eq_true (p:=0≤n∧n≤1099511627776 - G.time.1) af];rfl
  have h1:¬kd=1:=by simpa using h1
  rw[if_neg h1]at hJ;refine ax (λh3=> ?_) λh3=> ?_
  ·have h3:kd=3:=by simpa using h3
   rw[if_pos h3]at hJ;refine ax (λhn=> ?_) λhn=> ?_
   ·have hn:n<0:=by simpa using hn
    refine hJ _ _ ⟨by rw[if_neg af],h⟩
   have hn:¬n<0:=by simpa using hn
   refine cX ?_;refine ax (λhm=> ?_) λhm=> ?_
   ·have hm:n≥(s17.n:Nat):=by simpa using hm
    refine hJ _ _ ⟨by rw[if_neg af],h⟩
   have hm:¬n≥(s17.n:Nat):=by simpa using hm
   rw[if_pos af]at hJ;have hlt:n.toNat<(da G (aaC G)).length:=af;have hrow:(adK G (aaC G))[n.toNat]?=some (xy G (cq G (aaC G)) ((da G (aaC G)).getD n.toNat 0)):=by
    unfold adK;rw[l8,m0,iH hlt];rfl
   have hin:=ho.sr ((da G (aaC G)).getD n.toNat 0) (by rw[m0,iH hlt];exact List.getElem_mem hlt)
   refine cX ?_;refine rB (sz:=6) (s:=s17) (es:=adK G (aaC G)) h af hrow (x:=(O9 G ((da G (aaC G)).getD n.toNat 0)).2.2.2) rfl ?_;refine hJ _ _ ⟨?_,h⟩;have BU:=hIV.ty.pl;unfold O9 ZE;rw[m0 (l:=G.P),iH af];rfl
  have h3:¬kd=3:=by simpa using h3
  rw[if_neg h3]at hJ;refine ax (λh2=> ?_) λh2=> ?_
  ·have h2:kd=2:=by simpa using h2
   exact hJ _ _ ⟨by rw[if_pos h2],h⟩
  ·have h2:¬kd=2:=by simpa using h2
   exact hJ _ _ ⟨by rw[if_neg h2],h⟩
 clear h;rintro _ w ⟨rfl,h⟩;refine ahK h λw h=> ?_;refine bP (λb' w=>b'=(decide (G.err≠0)||ov1 l G Ws (aaC G) kd n)∧qK w0 w l aa G Ws (rws 4 s19 (zs.map (tQ l G))::jO (Iq G (cq G (aaC G))) zs::rws 6 s17 (adK G (aaC G))::rws 7 s15 (Yn G (aaC G))::au g3 [.int .i64 kd,.int .i64 n]::[au g1 (U0 l.ps sc b s lg).toList])) (λJ hJ=> ?_) ?_
 ·refine ax (λhe=> ?_) λhe=> ?_
  ·have he:G.err≠0:=by simpa using he
   exact hJ _ _ ⟨by rw[decide_eq_true he];rfl,h⟩
  ·have he:G.err=0:=by simpa using he
   exact hJ _ _ ⟨by rw[decide_eq_false (by simp[he])];rfl,h⟩
 clear h;rintro _ w ⟨rfl,h⟩;generalize hov:(decide (G.err≠0)||ov1 l G Ws (aaC G) kd n)=aLk;have bQ:(evF l P (G,Ws) [kd,n]).2= !aLk:=by rw[←hov];exact aGb hD
 refine cX ?_;refine aD9 hI hF hT h λJI w h=> ?_;rw[bQ];refine aU (by cases aLk<;>rfl) ?_
 refine ax (λht=> ?_) λht=> ?_
 ·subst ht;have e:(evF l P (G,Ws) [kd,n]).1=(G,Ws):=aGc bQ;rw[e]at h;refine ad4 hI h λs50 w h=> ?_;refine awr (s1:=s15) (s2:=s50) (es:=Yn G (aaC G)) h (ad2 _) (by rw[adJ];omega) λw h=> ?_
  refine bK rfl ?_;refine aes hI h λs54 w h=> ?_;refine ar1 (s1:=s17) (s2:=s54) (es:=adK G (aaC G)) h (λe he=> ?_) (by rw[acY];exact hts) λw h=> ?_
  ·obtain⟨x,_,rfl⟩:=List.mem_map.1 he;exact axm _ _
  refine bK rfl ?_;refine azA h λw h=> ?_;refine bK bf ?_;refine ao9 h λw h=> ?_;exact bK bf (aw h)
 ·have ht:aLk=false:=ht;subst ht;have hE:=hov;simp only[kf,decide_eq_false_iff_not,ne_eq,Classical.not_not]at hE;obtain⟨he,hv⟩:=hE;have hI':=hI.ev [kd,n];refine cX ?_;refine ax (λh1=> ?_) λh1=> ?_
  ·have h1:kd=1:=by simpa using h1
   subst h1;have ha:Ko.Sn G.time.1 n=true:=by
    unfold ov1 at hv;rw[if_neg e7,if_pos rfl]at hv;simpa using hv
   obtain⟨e1,e2⟩:=aBf hI he ha;have hlo:=hck.lo;have hhi:G.time.1≤1099511627776:=hck.hi;have han:0≤n∧n≤1099511627776 - G.time.1:=of_decide_eq_true ha;refine dZ λw h=> ?_;refine azA h λw h=> ?_;with_reducible repeat' (first|refine nP h ?_|fail)
   refine bK (by rw[e1,dh ⟨af,af⟩];simp) ?_
   refine ad4 hI' h λs50 w h=> ?_;rw[e2]at h;refine awr (s1:=s15) (s2:=s50) (es:=Yn G (aaC G)) h (ad2 _) (by rw[adJ];omega) λw h=> ?_
   exact bK rfl (aw h)
  have h1:¬kd=1:=by simpa using h1
  refine cX ?_;refine ax (λh3=> ?_) λh3=> ?_
  ·have h3:kd=3:=by simpa using h3
   subst h3;have hnv:(0≤n∧n<(da G (aaC G)).length)∧ZE G ((da G (aaC G)).getD n.toNat 0)=false:=by
    unfold ov1 at hv;rw[if_neg e7,if_neg e7,if_pos rfl]at hv;split at hv
    ·rename_i q;exact⟨q,hv⟩
    ·cases hv
   obtain⟨e1,e2,e3⟩:=aBg hI he hnv.1 hnv.2;refine aes hI' h λs76 w h=> ?_;have aHq:=(pg (sz:=6) (s:=s76) (es:=adK (evF l P (G,Ws) [3,n]).1.1 (aaC (evF l P (G,Ws) [3,n]).1.1)) h).2 e7;rw[acY,e2]at aHq;refine bK (by rw[show s76.n=s17.n by omega];simp) ?_
   have hlt:n.toNat<(da G (aaC G)).length:=af;have hrow:(adK (evF l P (G,Ws) [3,n]).1.1 (aaC (evF l P (G,Ws) [3,n]).1.1))[n.toNat]?=some (xy (evF l P (G,Ws) [3,n]).1.1 (cq (evF l P (G,Ws) [3,n]).1.1 (aaC (evF l P (G,Ws) [3,n]).1.1)) ((da G (aaC G)).getD n.toNat 0)):=by
    unfold adK;rw[e2,l8,m0,iH hlt];rfl
   refine cX ?_;refine rB (sz:=6) (s:=s76) (es:=adK (evF l P (G,Ws) [3,n]).1.1 (aaC (evF l P (G,Ws) [3,n]).1.1)) h af hrow (x:=(evF l P (G,Ws) [3,n]).1.1.M.get ((evF l P (G,Ws) [3,n]).1.1.nd ((da G (aaC G)).getD n.toNat 0)).at_ !=0) rfl ?_;refine bK (by simpa using e3) ?_
   refine ad4 hI' h λs81 w h=> ?_;rw[e1]at h;refine awr (s1:=s15) (s2:=s81) (es:=Yn G (aaC G)) h (ad2 _) (by rw[adJ];omega) λw h=> ?_
   exact bK rfl (aw h)
  have e1:=aop (n:=n) hI h1;refine azA h λw h=> ?_;exact bK (by rw[e1];simp) (aw h)
end
def _root_.Go.Ev.zx.aCR{P:Program}{t e:TypeId}{cs:List Value}{n k b:Nat}(ht:P.underlying t=some (.slice e))(he:(∃n e',P.underlying e=some (.array n e'))∨∃fs,P.underlying e=some (.struct fs))(hf:Vd P n e=true)(hk:P.cellsOf e=k)(hb:P.bytesOf e=b)(h:zx P w t cs):
  ∃(s:Sl) (es:List (List Int)),cs=[.slice s.a s.n s.c]∧QM k w s (es.map Go.Ev.ints)∧(∀x∈es,x.length=k∧∀y∈x,sy y)∧es.length*b≤reachBytes:=by
 obtain⟨s,es,rfl,h2,h3,h4,h5,lG⟩:=h.slice ht;obtain⟨l,rfl,hl⟩:=zy (f:=Go.Ev.ints) (G:=λi:List Int=>i.length=k∧∀y∈i,sy y) (es:=es) λe' he'=>by
  obtain⟨xs,hx,hI⟩:=zy ((lG e' he').flat hf);refine⟨xs,hx,?_,hI⟩;have:=(lG e' he').len he;rw[hx,hk]at this;simpa using this
 rw[hk]at h2;rw[hb]at h3;exact⟨s,l,rfl,h2,hl,by simpa using h3⟩
def runT:∃f0 f1 f2 f3 f4:Field,Tryz.prog.underlying 27=some (.struct #[f0,f1,f2,f3,f4])∧(f0.type=24∧f0.offset=0)∧(f1.type=3∧f1.offset=1)∧(f2.type=3∧f2.offset=2)∧(f3.type=3∧f3.offset=3)∧(f4.type=25∧f4.offset=4):=
 ⟨_,_,_,_,_,Tryz.underlying27,⟨rfl,rfl⟩,⟨rfl,rfl⟩,⟨rfl,rfl⟩,⟨rfl,rfl⟩,⟨rfl,rfl⟩⟩
def aww{v:Value}(h:Arg Tryz.prog w 27 v):∃(ps sc:Sl) (P:List dB) (b s lg:Int) (evs:List (List Int)),v= .agg (U0 ps sc b s lg)∧iA w ps P∧QM 2 w sc (evs.map Go.Ev.ints)∧(∀x∈evs,x.length=2∧∀y∈x,sy y):=by
 obtain⟨f0,f1,f2,f3,f4,hf,⟨t0,o0⟩,⟨t1,o1⟩,⟨t2,o2⟩,⟨t3,o3⟩,t4,o4⟩:=runT;obtain⟨cs,rfl,hr⟩:=h.agg (.inr ⟨_,hf⟩);obtain⟨hl,lG⟩:=hr.struct hf;have h0:=lG 0 f0 bf;have h1:=lG 1 f1 bf;have h2:=lG 2 f2 bf;have h3:=lG 3 f3 bf;have h4:=lG 4 f4 bf;have c24:Tryz.prog.cellsOf 24=1:=by kernel_rfl
 have c3:Tryz.prog.cellsOf 3=1:=by kernel_rfl
 have c25:Tryz.prog.cellsOf 25=1:=by kernel_rfl
 have c27:Tryz.prog.cellsOf 27=5:=by kernel_rfl
 rw[t0,o0,c24]at h0;rw[t1,o1,c3]at h1;rw[t2,o2,c3]at h2;rw[t3,o3,c3]at h3;rw[t4,o4,c25]at h4;rw[c27]at hl;obtain⟨a,b,c,d,e,hcs⟩:∃a b c d e,cs.toList=[a,b,c,d,e]:=by
  match cs.toList,hl with
  |[a,b,c,d,e],_=>exact⟨a,b,c,d,e,rfl⟩
 rw[hcs]at h0 h1 h2 h3 h4;obtain⟨ps,P,e0,hF⟩:=zx.program Ck.aBQ h0;obtain⟨b',e1,_⟩:=zx.int Tryz.underlying3 h1;obtain⟨s',e2,_⟩:=zx.int Tryz.underlying3 h2;obtain⟨lg',e3,_⟩:=zx.int Tryz.underlying3 h3;obtain⟨sc,evs,e4,hR,hev,_⟩:=zx.aCR (n:=4) (k:=2) (b:=16) Tryz.underlying25 (.inr ⟨_,Tryz.underlying34⟩) aZ aZ aZ h4;refine⟨ps,sc,P,b',s',lg',evs,?_,hF,hR,hev⟩;simp at e0 e1 e2 e3 e4;subst e0 e1 e2 e3 e4;congr 1;exact Array.ext' hcs
end Go.Proofs.YthidhjhkmjjckaaGreatDoor
namespace Go.Ev
open Go Go.RowKit Go.ChangeShapes Go.WideShapes
def ahO{H:Type}{enc:TypeId×Value→H}{C:Checked}{os:Os}{K:FuncId}{fn:Func}{s:ChangeSpec}{tb:TypeId}{X:World→Array Value→Prop}
  (hX:∀(w w':World) (args:Array Value),w.heap=w'.heap→X w args→X w' args)
  (own:ownKnob C.prog.godebug=none) (started:os.Started) (noInit:C.prog.inits.idxOf? K=none) (hfn:C.prog.funcs[K]?=some fn)
  (witness:∃(w:World) (tape:Tape) (i:Input),w.os=os∧(w.forCall tape i).Shaped C.prog∧i.vars=[]∧Input.okWide C.prog (w.forCall tape i) .any w.heap.size K i∧
   ((s.pre enc C.prog fn [] false (w.forCall tape i).memory i.args∧X (w.forCall tape i).memory i.args)∧sizedMet enc C.prog fn (OpenSpec.ofChange s) false (w.forCall tape i).memory i.args)∧({}:Assume).holds C.prog (lone (Frame.enter C.prog K i.args .normal) [] (w.forCall tape i)))
  (hvars:s.vars=[]) (hl:laidOutB C.prog=true) (hrows:fn.params.toList.all (λt=>C.prog.readableRec t&&decide (t<C.prog.types.size))=true)
  (hres:fn.resultTypes=#[tb]) (htb:C.prog.underlying tb=some .bool)
  (hs:∀ds:List (DataW H),ds.length=fn.params.toList.length→s.fn H ds={results:=[.lit (.bool true)],args:=ds})
  (walk:∀(W:World) (args:Array Value),WO C.prog W fn.params.toList args.toList→X W args→
   Calls C.prog K args W λe W'=>e= .returned (.bool true)∧Below W.heap.size W W'):
  ReturnsInHanded {} C os K .any (λw args=>(s.pre enc C.prog fn [] false w args∧X w args)∧sizedMet enc C.prog fn (OpenSpec.ofChange s) false w args) (s.post enc C.prog fn false true false false):=by
 refine returnsInHanded_of_change_and hX own started noInit hfn witness ?_;intro W base args ds gs before hval hW _ hsz hXW _;have hW':=hW;obtain⟨p,q,hA,hV,rfl,hfz,hnd⟩:=hW;rw[hvars]at hV;obtain⟨rfl,rfl⟩:=trodVars_none hV;have hlen:=UD hA;have hvt:s.plain.varTypes C.prog=[]:=by simp[DataSpec.varTypes,ChangeSpec.plain,hvars]
 rw[hvt,List.append_nil,List.append_nil]at hsz;have hargs:=aid (λj t v ht hv=>hval j t v (by simpa using ht) (by simpa using hv)) hA (λn hn=>by simpa using tL.1 hsz n hn)
 refine(walk W args hargs hXW).mono λe W' ⟨he,bel⟩=> ?_;subst he;refine⟨_,rfl,ds,[],p++[],[],p,[],hW',?_,?_,?_,bel.frame _,λh=>by cases h⟩
 ·rw[List.append_nil,hs ds hlen,hres];exact trodAll_mk1 (shut_bool htb _)
 ·rw[List.append_nil,hs ds hlen];exact QL hl bel hrows hA λx hx=>hW'.lt x (by simp[hx])
 ·rw[List.append_nil,hs ds hlen,hvars];exact rfl
end Go.Ev
