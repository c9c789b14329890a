/-
  Parts of the proof of LBegins: printed by a program out of longer texts.
-/
import Derived.Test.YthidhjhkmjjckaaGreatDoorPBegins5
import Derived.LaidMore
import Derived.SevenTiedAt
import Derived.Lay
import Derived.Stop.Joined
set_option linter.unusedSimpArgs false
set_option linter.unusedVariables false
set_option maxRecDepth 100000
open List renaming getElem?_eq_some_iff→kB,getElem?_eq_getElem→iH,getD_eq_getElem?_getD→m0,getElem?_append_left→tJ,getElem?_append_right→u0,getElem?_set_ne→r0,getElem?_set_self→uO,mem_of_getElem?→qn,getElem?_map→l8,eraseIdx→I7,insertIdx_succ_cons→aBT,insertIdx_zero→aBU,replicate→dU,mem_append→zw,length_append→uv,all_eq_true→tL
open Go.Sem renaming run_pure→cP,run_bind→cR
open Go.Result renaming andThen_ok→cK
open Bool renaming or_eq_false_iff→kf,and_eq_true→iY
open Option renaming isNone→eA
open Go.IntKind renaming wrap→aF
open Int renaming toNat_natCast→iZ
open Array renaming setIfInBounds→eS,getElem?_eq_some_iff→Bf
open Nat renaming le_refl→iw
open Go.Addr renaming add→aY
namespace Go.Proofs.YthidhjhkmjjckaaGreatDoor
open Go Go.Ev Go.Proofs
open Ko (CK)
open Ck (oW)
open Fr (A0 nE dY eI di iG jo nF o5)
structure IV (l:Lc) (P:List dB) (bw:List Int) (ro:List Ro) (G:Gl) (Ws:List Wk):Prop where
 lc:afx l
 lg:0≤l.log∧l.log≤8
 acc:oW P
 ty:Ty l ro G
 wn:l.wa.length=Ws.length
 dl:Ws.map (·.dq)=bw
 dq:∀v,v<l.wa.length→ZH ro v (bw.getD v 0)
 w:∀(i:Nat) (W:Wk),Ws[i]?=some W→WT l P bw ro G i W
 dj:∀(i j:Nat) (Wi Wj:Wk) (x:Nat),Ws[i]?=some Wi→Ws[j]?=some Wj→x∈Wi.hold→x∈Wj.hold→i=j
 fr:∀x,x<G.ts.length→G.K x=0→OJ P G.ts.length (G.tk x)
section
variable {l:Lc} {P:List dB} {bw:List Int} {ro iT:List Ro} {G G' G1:Gl} {hold:List Nat} {W W' W1:Wk} {Ws:List Wk} {t t':Tk} {n i x y:Nat} {s a v:Int} {r:Ro} {w0:World}
theorem IV.cx(h:IV l P bw ro G Ws)(hi:Ws[i]?=some W)(he:G.err=0):Cx l P bw ro G i W:=⟨h.lc,h.lg,h.acc,h.ty,h.w i W hi,h.dq,he⟩
theorem av8(kd:Int):(Ck.pY kd).2≤2147483647:=by
 unfold Ck.pY;cases (kd==1)<;>cases (kd==2)<;>cases (kd==3)<;>cases (kd==4)<;>cases (kd==5)<;>decide
theorem av9{i:List Int}(hc:Ck.oV i=0):i.getD 4 0≤1099511627776:=by
 unfold Ck.oV at hc;split at hc
 ·cases hc
 ·split at hc
  ·rename_i hf;unfold Ck.fits at hf;rw[tL]at hf;have f3:=hf 3 e7;unfold Ck.fit at f3;have:=av8 ((Ck.kinds (Ck.gA i)).getD 3 0);simp only[Bool.not_eq_true',kf,decide_eq_false_iff_not]at f3;have:=f3.2;have e:i.getD (3+1) 0=i.getD 4 0:=rfl;omega
  ·cases hc
theorem azo(c:Cx l P bw ro G i W)(hdl:bw.length=l.wa.length)(hfr:∀y,y<G.ts.length→G.K y=0→OJ P G.ts.length (G.tk y)):∃iT,rV l P bw ro iT G i W (ZB l P G W bw):=by
 have ct:=c.ct;unfold ZB;dsimp only;generalize hx:W.stack.headD 0=x;have ht:G.tk (W.stack.headD 0)=G.tk x:=by rw[hx]
 cases bQ:W.cT with
 |m f=>
  cases f with
  |rest=>exact⟨_,aza c bQ⟩
  |pF=>
   have HG:=ct;unfold cD at HG;rw[bQ]at HG;dsimp only at HG;obtain⟨O,hO,_⟩:=HG;dsimp only;rw[hO];obtain⟨iT,h,_⟩:=aml c hdl bQ hO ht.symm;exact⟨iT,h⟩
  |looking=>
   have HG:=ct;unfold cD at HG;rw[bQ]at HG;dsimp only at HG;obtain⟨k,hk,_⟩:=HG;dsimp only;rw[hk];exact⟨_,amo c bQ hk hx rfl⟩
  |tell=>exact⟨_,azb c bQ⟩
  |others=>exact⟨_,aqv c bQ⟩
  |xn=>
   have HG:=ct;unfold cD at HG;rw[bQ]at HG;dsimp only at HG;obtain⟨_,_,o,ho,_⟩:=HG;dsimp only;rw[ho];exact⟨_,aqu c bQ ho⟩
  |So=>exact⟨_,aCo c bQ⟩
  |JA=>exact⟨_,azc c bQ⟩
  |tE=>exact⟨_,aqE c bQ hfr⟩
  |start=>exact⟨_,av6 c bQ rfl⟩
  |next=>exact⟨_,azh c bQ hx rfl⟩
  |fork=>exact azk c bQ hx rfl
  |xo=>exact av1 c bQ hx rfl
  |tF=>exact⟨_,aqD c bQ hx rfl⟩
  |join=>exact⟨_,azg c bQ ht.symm⟩
  |cJ=>exact⟨_,aCq c bQ⟩
  |opens=>
   have HG:=ct;unfold cD at HG;rw[bQ]at HG;dsimp only at HG;rw[hx]at HG;exact av3 c bQ hx rfl (av9 (HG.2.1.fi.oV c.acc))
  |close=>exact⟨_,av0 c bQ hx rfl⟩
  |gL=>exact⟨_,aqB c bQ hx rfl⟩
  |cancel=>exact⟨_,aqA c bQ hx rfl⟩
  |pass=>exact⟨_,azj c bQ hx rfl⟩
  |leave=>exact⟨_,avZ c bQ hx rfl⟩
  |put=>exact⟨_,aCv c bQ hx rfl⟩
  |fin=>exact⟨_,aCw c bQ hx rfl⟩
  |asks=>exact⟨_,azm c bQ ht.symm⟩
  |gone=>exact⟨_,azn c bQ ht.symm⟩
  |asked=>exact⟨_,avW c bQ ht.symm⟩
  |joined=>exact⟨_,aqC c bQ hx rfl⟩
  |ul=>exact⟨_,aqz c bQ ht.symm⟩
  |rp=>exact⟨_,amm c bQ⟩
  |sx=>exact⟨_,amn c bQ ht.symm⟩
  |register=>exact⟨_,aj7 c bQ⟩
  |block=>
   have HG:=ct;unfold cD at HG;rw[bQ]at HG;dsimp only at HG;obtain⟨_,o,ho,_⟩:=HG;dsimp only;rw[ho];exact⟨_,avS c bQ ho⟩
  |Io=>exact⟨_,azf c bQ ht.symm⟩
  |stops=>exact⟨_,av5 c bQ hx rfl⟩
  |cancelled=>unfold cD at ct;rw[bQ]at ct;exact ct.elim
  |vQ=>unfold cD at ct;rw[bQ]at ct;exact ct.elim
  |BQ=>unfold cD at ct;rw[bQ]at ct;exact ct.elim
  |y5=>unfold cD at ct;rw[bQ]at ct;exact ct.elim
  |nothing=>unfold cD at ct;rw[bQ]at ct;exact ct.elim
  |Uv=>unfold cD at ct;rw[bQ]at ct;exact ct.elim
  |AL=>unfold cD at ct;rw[bQ]at ct;exact ct.elim
 |aw y=>exact⟨_,aE7 c bQ ht.symm⟩
 |sh k=>exact⟨_,aE8 c bQ ht.symm⟩
 |no=>unfold cD at ct;rw[bQ]at ct;exact ct.elim
 |any=>unfold cD at ct;rw[bQ]at ct;exact ct.elim
 |c f=>unfold cD at ct;rw[bQ]at ct;exact ct.elim
 |nx i=>unfold cD at ct;rw[bQ]at ct;exact ct.elim
 |V2 y k=>unfold cD at ct;rw[bQ]at ct;exact ct.elim
 |BR y k=>unfold cD at ct;rw[bQ]at ct;exact ct.elim
 |hl m z=>unfold cD at ct;rw[bQ]at ct;exact ct.elim
theorem IV.step(h:IV l P bw ro G Ws)(hi:Ws[i]?=some W)(he:G.err=0):∃iT,rV l P bw ro iT G i W (ZB l P G W bw)∧IV l P bw iT (ZB l P G W bw).1 (Ws.set i (ZB l P G W bw).2):=by
 have c:=h.cx hi he;have hil:=(kB.1 hi).1;obtain⟨iT,hr⟩:=azo c (by rw[←h.dl,List.length_map,h.wn]) h.fr
 generalize ZB l P G W bw=r at hr ⊢;refine⟨iT,hr,h.lc,h.lg,h.acc,hr.ty,by rw[List.length_set];exact h.wn,?_,λv hv=> ?_,λj Wj hj=> ?_,λj k Wj Wk_ x hj hk Zd hxk=> ?_,λx hx hK=> ?_⟩
 ·rw[List.map_set,hr.wt.dq,←h.dl];have:(Ws.map (·.dq)).getD i 0=W.dq:=by rw[m0,l8,hi];rfl
  rw[this];apply List.ext_getElem?;intro k;by_cases hk:i=k
  ·subst hk;rw[uO (by simpa using hil),l8,hi];rfl
  ·rw[r0 hk]
 ·obtain⟨m,e⟩:=hr.Cd.ext;rw[e];exact(h.dq v hv).qT
 ·by_cases e:i=j
  ·subst e;rw[uO hil]at hj;cases hj
   exact hr.wt
  ·rw[r0 e]at hj;exact(h.w j Wj hj).imp hr.Cd (λx hx q=>e (h.dj i j W Wj x hi hj q hx)) (λ_=>he)
 ·have key:∀j Wj,Ws[j]?=some Wj→i≠j→∀x∈Wj.hold,x ∉ r.2.hold:=λj Wj hj hne x Zd hxr=>by
   rcases hr.hd x hxr with q|⟨q1,q2⟩
   ·exact hne (h.dj i j W Wj x hi hj q Zd)
   ·have:=(h.w j Wj hj).run x Zd;omega
  by_cases e:i=j
  ·subst e;by_cases e2:i=k
   ·exact e2
   ·rw[uO hil]at hj;rw[r0 e2]at hk;cases hj
    exact absurd Zd (key k Wk_ hk e2 x hxk)
  ·rw[r0 e]at hj;by_cases e2:i=k
   ·subst e2;rw[uO hil]at hk;cases hk
    exact absurd hxk (key j Wj hj e x Zd)
   ·rw[r0 e2]at hk;exact h.dj j k Wj Wk_ x hj hk Zd hxk
 ·by_cases hxn:x<G.ts.length
  ·have h0:=hr.Cd.K0 x hxn hK;have hnh:x ∉ W.hold:=λq=>by have:=(h.w i W hi).run x q;omega
   rw[hr.Cd.tk hxn hnh];exact(h.fr x hxn h0).imp hr.Cd.n
  ·exact hr.fr x af hx
end
section
variable {l:Lc} {P:List dB} {bw:List Int} {ro iT:List Ro} {G G' G1:Gl} {hold:List Nat} {W W' W1:Wk} {Ws:List Wk} {t t':Tk} {n i x y:Nat} {s a v:Int} {r:Ro} {w0:World}
theorem Cb.aFj{u:Nat}{d:Int}{O:bu}(h:Ty l ro G)(hd:ZH ro u d)(hO:Cb l ro G.ts.length u d O):O.GX:=by
 refine⟨λe=>⟨hO.c2 af,hO.b,hO.t⟩,λe=> ?_,hO.nx,?_⟩
 ·obtain⟨c,hc,_⟩:=hO.c4 e;exact⟨c,hc⟩
 ·have h1:=hd.top.lt;have h0:=hd.top.1;rw[h.len]at h1;have:=h.ok.fit;have:=h.ok.size;rw[hO.at_];exact⟨h0,af⟩
theorem Cx.inA(c:Cx l P bw ro G i W):xH W.dq:=by
 have h1:=c.own.top.lt;have h0:=c.own.top.1;rw[c.ty.len]at h1;have:=c.ty.ok.fit;have:=c.ty.ok.size;exact⟨h0,af⟩
theorem Cx.spf(c:Cx l P bw ro G i W){o:jH}(h:SpT o):o.GX l.sp G.M W.id:=by
 have hb:=c.ty.val _ _ c.ty.OI;obtain⟨x,hx⟩:=Int.eq_ofNat_of_zero_le hb.1;exact⟨h.1,c.can c.ty.Ye,c.can c.ty.OI,⟨x,hx,by have:=hb.2;omega⟩⟩
theorem Cx.sc(c:Cx l P bw ro G i W)(hx:x<G.ts.length):G8 G (G.tk x).l7∧G.M.can W.id (G.nd (G.tk x).l7).at_=true∧G.M.can W.id ((G.nd (G.tk x).l7).at_+1)=true:=by
 have hin:=(c.ty.qh hx).inn;obtain⟨h1,h2⟩:=c.ty.O7 hin.1 hin.2;exact⟨h1,c.can h2.a,c.can h2.b⟩
theorem Cx.sc1(c:Cx l P bw ro G i W)(hx:x<G.ts.length)(ho:(G.tk x).cJ≠ []):G8 G (G.tk x).kA.1∧G.M.can W.id (G.nd (G.tk x).kA.1).at_=true∧G.M.can W.id ((G.nd (G.tk x).kA.1).at_+1)=true:=by
 have hin:=c.kA hx ho;obtain⟨h1,h2⟩:=c.ty.O7 hin.1 hin.2;exact⟨h1,c.can h2.a,c.can h2.b⟩
theorem Cx.dr(c:Cx l P bw ro G i W)(hx:x<G.ts.length)(ho:(G.tk x).cJ≠ []):Dr G (G.tk x).kA.1:=by
 have hin:=c.kA hx ho;exact⟨c.ty.Zs,c.ty.ck,hin.1,⟨_,iH (by rw[c.ty.pl];omega)⟩⟩
theorem amr{k:Kn}(h:rq P n t (.sh k)):t.cJ≠ []:=by
 unfold rq at h;split at h
 ·rename_i e;cases e
 ·rename_i e;cases e
 ·exact h.1.cJ
 ·exact h.2
 ·exact h.elim
theorem Yl(h:rC P G W):(G.tk (W.stack.headD 0)).cJ≠ []:=by
 obtain⟨y,h1,h2,h3⟩|⟨k,h1,_,_,h4⟩:=h.cases
 ·exact h3.1.cJ
 ·exact amr h4
theorem ahI(h:rC P G W)(ha:zk W.again=true):ajG G W:=by
 obtain⟨y,h1,h2,h3⟩|⟨k,h1,_⟩:=h.cases
 ·exact⟨by rw[h2];rfl,by rw[h2];exact h3.2.2.2⟩
 ·rw[h1]at ha;cases ha
theorem azp(h:rC P G W):∀y,W.target=some y→y<G.ts.length:=λy hy=>by
 obtain⟨z,h1,h2,h3⟩|⟨k,h1,h2,_⟩:=h.cases
 ·rw[h2]at hy;cases hy;exact h3.2.2.2
 ·rw[h2]at hy;cases hy
theorem aaz(h:rC P G W)(h1:zk W.again=true→W.dK= .m .vQ∧W.wait.how=1)(h2:SF W.again=true→W.dK= .c .Db):W.dK= .m .vQ∨W.dK= .c .Db:=by
 obtain⟨z,e,_⟩|⟨k,e,_⟩:=h.cases
 ·exact .inl (h1 (by rw[e];rfl)).1
 ·exact .inr (h2 (by rw[e];rfl))
theorem aCA(h:rC P G W):afv G W (G.tk (W.stack.headD 0)):=by
 unfold afv;obtain⟨z,e,_⟩|⟨k,e,_,_,h4⟩:=h.cases
 ·rw[e];trivial
 ·rw[e];exact amr h4
theorem IV.vi(h:IV l P bw ro G Ws)(hi:Ws[i]?=some W)(vK:W1.id=i)(hl:∀j∈W1.left,0≤j∧j<l.wa.length∧j≠W1.id)(hn:W1.none_= .m .y5∨(W1.none_= .m .nothing∧W1.wait.how=1)):aar l ((l.wa.zip Ws).eraseIdx i) bw W1:=by
 refine⟨hn,λj r hj=> ?_⟩;obtain⟨h1,h2,h3⟩:=hl j (by rw[hj];simp)
 have hw:=h.wn;have hjl:j.toNat<l.wa.length:=af;have hjw:j.toNat<Ws.length:=af;have hz:(l.wa.zip Ws)[j.toNat]?=some (l.wa[j.toNat]'hjl,Ws[j.toNat]'hjw):=by rw[List.getElem?_zip_eq_some];exact⟨iH hjl,iH hjw⟩
 have hne:j.toNat≠i:=af;refine⟨j.toNat,l.wa[j.toNat]'hjl,if j.toNat<i then j.toNat else j.toNat - 1,Ws[j.toNat]'hjw,af,iH hjl,?_,?_⟩
 ·rw[List.getElem?_eraseIdx];by_cases e:j.toNat<i
  ·rw[if_pos e,if_pos e];exact hz
  ·rw[if_neg e,if_neg af,show j.toNat - 1+1=j.toNat by omega];exact hz
 ·rw[←h.dl,m0,l8,iH hjw];rfl
theorem adC{W:Wk}(h:Dx l P G W):W.none_= .m .y5∨(W.none_= .m .nothing∧W.wait.how=1):=by
 rcases h.what with⟨_,_,_,h4⟩|⟨_,_,_,h4⟩
 ·exact .inl h4
 ·exact .inr ⟨h4,h.how⟩
theorem IV.ok(h:IV l P bw ro G Ws)(hi:Ws[i]?=some W)(he:G.err=0)(hF:iA w0 l.ps P):ajH l P ((l.wa.zip Ws).eraseIdx i) bw G W:=by
 have c:=h.cx hi he;have ct:=c.ct;have cap:=c.ty.cap;have vK:=c.an8;have hbl:W.back.length≤100000:=by
  have hb:=c.wt.bk;have:∀(st:List Nat) (b:List Kn),KU P G st b→b.length=st.length:=by
   intro st;induction st with
   |nil=>intro b hb;cases b<;>first|rfl|exact hb.elim
   |cons y st ih=>intro b hb;cases b with
    |nil=>exact hb.elim
    |cons k b=>simp[ih b hb.2.2]
  rw[this _ _ hb];have:=c.wt.nd;unfold Wk.hold at this;have h2:=(List.nodup_append.1 this).2.1;have:=ML h2 λy hy=>c.wt.hl y (by unfold Wk.hold;simp[hy])
  omega
 have Y8:W.stack.length≤100000:=by
  have:=c.wt.nd;unfold Wk.hold at this;have h2:=(List.nodup_append.1 this).2.1;have:=ML h2 λy hy=>c.wt.hl y (by unfold Wk.hold;simp[hy])
  omega
 have xL:W.stack≠ []→G7 G W (W.stack.headD 0) (G.tk (W.stack.headD 0))∧W.stack.headD 0<G.ts.length:=c.top;unfold cD at ct;unfold ajH;dsimp only at ct ⊢;have hop:∀(O:bu) (u:Nat),u<l.wa.length→Cb l ro G.ts.length u (bw.getD u 0) O→O.GX∧((O.step G.M W.id).1.how=6→(O.step G.M W.id).1.err≠0):=λO u hu hO=>by
  obtain⟨iT,hr⟩:=aj2 c.lg c.ty (c.dq u hu) c.caller hO;exact⟨hO.aFj c.ty (c.dq u hu),hr.err⟩
 have hown:∀(O:bu) (k:Nat),(Cb l ro G.ts.length W.id.toNat W.dq O∧O.kind=k)→Cb l ro G.ts.length i (bw.getD i 0) O:=λO k q=>by rw[c.idn,c.wt.dq]at q;exact q.1
 split at ct<;>rename_i bQ<;>try exact ct.elim
 all_goals try rw[bQ]
 all_goals try dsimp only
 ·exact c.can c.ty.told
 ·obtain⟨O,hO,ct⟩:=ct;refine⟨O,hO,?_⟩;split at ct<;>rename_i ha<;>try exact ct.elim
  ·have:=hop O i c.wt.lt (hown O 1 ct.2.2);exact⟨this.1,this.2,λ_ _=>by unfold aas;dsimp only;rw[ha];trivial⟩
  ·have:=hop O i c.wt.lt (hown O 0 ct.2.2.2);exact⟨this.1,this.2,λ_ _=>by unfold aas;dsimp only;rw[ha];trivial⟩
  ·have:=hop O i c.wt.lt (hown O 1 ct.2.2.2);refine⟨this.1,this.2,λ_ _=> ?_⟩;unfold aas;dsimp only;rw[ha];have ht:=xL ct.1.ne;exact⟨⟨_,ht.1.s⟩,ht.1.t,aaz ct.1 ct.2.1 ct.2.2.1⟩
  ·obtain⟨a1,⟨u,a2,a3,a4,a5⟩,a6⟩:=ct;have:=hop O u a2 a4;refine⟨this.1,this.2,λ_ _=> ?_⟩;unfold aas;dsimp only;rw[ha];refine⟨?_,h.vi hi c.wt.id a1.left (by have q:=adC a1;exact q)⟩
   unfold ajA;dsimp only;rcases a1.what with⟨_,q,_⟩|⟨q0,q,_⟩
   ·rw[q];trivial
   ·rw[q];exact⟨c.ty.kt,λy hy=>azp q0 y hy⟩
  ·obtain⟨a1,⟨u,a2,a3,a4,a5⟩,a6⟩:=ct;have:=hop O u a2 a4;refine⟨this.1,this.2,λ_ _=> ?_⟩;unfold aas;dsimp only;rw[ha];refine⟨?_,h.vi hi c.wt.id a1.left (by have q:=adC a1;exact q)⟩
   rcases a1.what with⟨_,_,q,_⟩|⟨_,_,q,_⟩
   ·exact .inl q
   ·exact .inr q
 ·obtain⟨k,a1,a2,a3,a4,a5,a6⟩:=ct;obtain⟨b1,b2⟩:=c.ty.O7 a3.1 a3.2;refine⟨k,(xL a5).1,a1,a2,b1,c.can b2.a,?_⟩;unfold anZ;split at a6<;>rename_i hs<;>try exact a6.elim
  ·try rw[hs]
   have:=a6.1.fi.aav hF c.acc;rw[a6.2];exact⟨this.1.GZ,a6.1.fi.len,this.2.2⟩
  ·first|(rw[hs];trivial)|trivial
  ·first|(rw[hs];trivial)|trivial
 ·exact c.can c.ty.told
 ·exact⟨c.can c.ty.idle,c.ty.OI.given c.ty.len,⟨af,by have:=c.wt.lt;rw[c.wt.id];omega⟩,h.vi hi c.wt.id (λj hj=>afG j (aj6 j hj)) (by have q:=adC ct;exact q)⟩
 ·obtain⟨_,_,o,ho,hs⟩:=ct;exact⟨o,ho,c.spf hs⟩
 ·exact⟨⟨af,af⟩,c.can c.ty.idle,ct.2⟩
 ·exact⟨⟨af,af⟩,c.can c.ty.idle⟩
 ·exact⟨ct.1,by rw[Int.add_zero];exact c.can (c.ty.qh af).k⟩
 ·have pM:W.jq.toNat<G.ts.length:=af;exact⟨ct.1,c.inA,c.can c.own.bot,(c.sc pM).1,Y8,hbl⟩
 ·have ht:=xL ct.1;exact⟨ht.1,ct.2.fi.aav hF c.acc,(c.sc ht.2).1⟩
 ·have ht:=xL ct.1;exact⟨ht.1,ct.2.1.cJ,c.caller,af,af,(c.sc1 ht.2 ct.2.1.cJ).1⟩
 ·have ht:=xL ct.1;obtain⟨a1,a2,a3,a4⟩:=ct;obtain⟨g',g1,_⟩:=a2.fi.fork c.acc a3;have ht2:=ht.2;have hkt:=acH (T:=G.T) (s:=(G.tk (W.stack.headD 0)).id) (by unfold Bb;rw[(c.ty.qh ht.2).id];simp only[decide_eq_true_eq];have:=c.ty.kl;omega)
  obtain⟨kt,hkt⟩:=hkt;refine⟨ht.1,a2.cJ,a2.fi.aav hF c.acc,a2.fi.is8 c.acc a3,⟨g',g1⟩,c.caller,⟨kt,hkt,?_⟩,af,af,by rw[c.ty.pl];exact a4⟩
  have:=c.ty.kk _ _ (xP hkt).2.2;omega
 ·have ht:=xL ct.1;have:=c.sc1 ht.2 ct.2.1.cJ;exact⟨ht.1,ct.2.1.cJ,this.1,this.2.2⟩
 ·have ht:=xL ct.1;obtain⟨b1,b2⟩:=ct.2.1.fi.hand c.acc ct.2.2;exact⟨ht.1,ct.2.1.fi.aav hF c.acc,b1,b2,c.can c.ty.told,(c.sc ht.2).1⟩
 ·exact⟨c.inA,c.can c.own.bot⟩
 ·have ht:=xL ct.1;obtain⟨a1,a2,a3⟩:=ct;have hin:=c.kA ht.2 a2.cJ;have hT:=c.ty.qh ht.2;have:=hT.sn;have:=hT.sl;refine⟨ht.1,a2.cJ,a2.fi.aav hF c.acc,c.caller,af,af,(c.sc1 ht.2 a2.cJ).1,⟨hin.1,by rw[c.ty.pl];exact hin.2⟩,af,af,⟨c.ty.Zs,c.ty.ck⟩,λhp=> ?_⟩
  exact(afH c.ty.ck af c.ty.Qn ⟨af,av9 (a2.fi.oV c.acc)⟩).1
 ·exact⟨(xL ct.1).1,ct.2.1.cJ⟩
 ·have ht:=xL ct.1;obtain⟨a1,a2,a3⟩:=ct;have hT:=c.ty.qh ht.2;have:=hT.sn;have:=hT.sl;have hs:=c.sc1 ht.2 a2.cJ;exact⟨ht.1,a2.cJ,a2.fi.aav hF c.acc,c.dr ht.2 a2.cJ,hs.1,hs.2.1,af⟩
 ·have ht:=xL ct.1;have hs:=c.sc1 ht.2 ct.2.1.cJ;exact⟨ht.1,ct.2.1.cJ,ct.2.1.fi.len,hs.1,hs.2.1⟩
 ·exact⟨(xL ct.1).1,ct.2.1.fi.len⟩
 ·exact⟨(xL ct.1).1,ct.2.1.fi.aav hF c.acc,ct.2.1.fi.aEM c.acc⟩
 ·have ht:=xL ct.1;exact⟨ht.1,c.can (c.ty.qh ht.2).v⟩
 ·have ht:=xL ct.1;exact⟨ht.1,⟨ct.2.1.k2,ct.2.1.k4⟩,by rw[Int.add_zero];exact c.can (c.ty.qh ht.2).k⟩
 ·have ht:=xL ct.1;exact⟨ht.1,c.can (c.ty.qh ht.2).w⟩
 ·have ht:=xL ct.1;have hs:=c.sc ht.2;refine⟨ht.1,?_,hs.1,hs.2.2⟩;have hb:=c.wt.bk;rw[ht.1.s]at hb;cases hh:W.back with
  |nil=>rw[hh]at hb;exact hb.elim
  |cons kb bs=>
   rw[hh]at hb;refine⟨kb,bs,rfl,?_⟩;have:∀(st:List Nat) (b:List Kn),KU P G st b→b.length=st.length:=by
    intro st;induction st with
    |nil=>intro b hb;cases b<;>first|rfl|exact hb.elim
    |cons y st ih=>intro b hb;cases b with
     |nil=>exact hb.elim
     |cons k b=>simp[ih b hb.2.2]
   exact this _ _ hb.2.2
 ·have ht:=xL ct.1.ne;have hg:=ahI ct.1 ct.2.1;exact⟨ht.1,Yl ct.1,hg,by rw[Int.add_zero];exact c.can (c.ty.qh hg.2).k⟩
 ·have ht:=xL ct.1.ne;have hg:=ahI ct.1 ct.2.1;obtain⟨y,e,_,h3⟩|⟨k,e,_⟩:=ct.1.cases
  ·exact⟨ht.1,h3.1.fi.aav hF c.acc,hg,c.can (c.ty.qh hg.2).v⟩
  ·rw[e]at ct;cases ct.2.1
 ·have ht:=xL ct.1.ne;exact⟨ht.1,aaz ct.1 ct.2.1 ct.2.2,c.inA,c.can c.own.bot⟩
 ·exact c.can c.ty.told
 ·have ht:=xL ct.1.ne;have hs:=c.sc1 ht.2 (Yl ct.1);exact⟨ht.1,Yl ct.1,hs.1,hs.2.2⟩
 ·have hg:=ahI ct.1 ct.2;exact⟨hg,⟨af,af⟩,c.can (c.ty.qh hg.2).w⟩
 ·obtain⟨_,o,ho,hs⟩:=ct;exact⟨o,ho,c.spf hs⟩
 ·have ht:=xL ct.ne;exact⟨ht.1,aCA ct,c.can c.ty.told,(c.sc ht.2).1⟩
 ·have ht:=xL ct.1.ne;refine⟨ht.1,⟨af,af⟩,λhb=>c.spf ?_,λ_ hr=> ?_,λ_ _=> ?_⟩
  ·cases hs:W.step with
   |none=>exact⟨e7,e7,e7⟩
   |some o=>exact ct.2.1 hb o hs
  ·have hg:=ahI ct.1 (c.fl.SG hr);exact⟨hg,c.can (c.ty.qh hg.2).w⟩
  ·have ct3:=ct.2.2;unfold anY;split at ct3<;>rename_i hs<;>try exact ct3.elim
   all_goals try rw[hs]
   ·trivial
   ·exact ct3.1
   ·trivial
   ·trivial
   ·trivial
   ·exact⟨Yl ct.1,c.dr ht.2 (Yl ct.1)⟩
 ·have ht:=xL ct.1;exact⟨ht.1,ct.2.2.2.2,c.can c.ty.told,(c.sc ht.2).1⟩
 ·have ht:=xL ct.1;exact⟨ht.1,amr ct.2⟩
end
end Go.Proofs.YthidhjhkmjjckaaGreatDoor
namespace Go.Proofs.YthidhjhkmjjckaaGreatDoor
open Go Go.Ev Go.Proofs
open Ko (ni CK)
structure SM (G:Gl) (o:List (Int×Int)):Prop where
 kids:∀(i:Nat) (x:Kt),G.T[i]?=some x→x.kids.length≤1000000
 len:o.length≤100000
 dfs:if G.T.length=0 then o=[]else Dfs G.T [0] o
 ids:∀p∈o,0≤p.1∧p.1<G.ts.length
 sc:(da G o).length≤1000000
section
variable {w0 w:World} {L R:List HP} {l:Lc} {P:List dB} {aa:List Nat} {G:Gl} {Ws:List Wk} {n:Int} {gw:Nat} {W:Wk} {sp st sw:Sl} {o:List (Int×Int)}
theorem awa{x a:Nat}(h:St w0 w (LA aa G.ts::R))(ha:aa[x]?=some a)(hx:x<G.ts.length):∃so sc:Sl,St w0 w (au a ((G.tk x).cells so sc)::rws 2 so ((G.tk x).cJ.map A1)::bG 1 sc (ints (G.tk x).scopes)::jO tkP ((aa.zip G.ts).eraseIdx x)::R):=sv h ha (G.xw hx)
theorem afI{k:Sl→ap}(h:St w0 w (SL l aa G R sp st sw))(ho:SM G o)(hk:∀s w',St w0 w' (bG 1 s (ints (da G o))::SL l aa G R sp st sw)→k s w'):dO (some ⟨l.gs,0,none⟩) w k:=by
 unfold dO yY;have hla:=KI (h.front 9 rfl);refine aM h λg1 w h=> ?_;refine cX ?_;have h:=h.asS (g:=g1) (n:=1) (sz:=1) (cs:=[.int .i64 0]) rfl af (by simp[Value.oneCell'])
 refine aiO (T:=G.T) h ho.kids ho.len ho.dfs λs5 w h=> ?_;have h5n:=qY (s:=s5) (vs:=ints (o.map λp:Int×Int=>p.1)) h;simp only[ints,List.length_map]at h5n;have hol:=ho.len;refine DN (G:=Nat) (λj x w=>x.2=(j:Int)∧j≤o.length∧St w0 w (bG 1 s5 (ints (o.map λp:Int×Int=>p.1))::bG 1 x.1 (ints (da G (o.take j)))::SL l aa G R sp st sw)) (λj=>o.length - j) (g:=0) ⟨rfl,af,h⟩ ?_;clear h;rintro j ⟨s1,i⟩ w ⟨hi,hj,h⟩ C hC;dsimp only at hi h ⊢;subst hi;by_cases hlt:j<o.length
 ·refine bK (by simp;omega) ?_
  have vK:=ho.ids _ (List.getElem_mem hlt);generalize hp:o[j]'hlt=p at vK;have hpj:o[j]?=some p:=by rw[iH hlt,hp]
  have qX:p.1.toNat<G.ts.length:=af;obtain⟨a,ha⟩:=Zx (aa:=aa) hla (G.xw qX);refine vI (s:=s5) (vs:=ints (o.map λp:Int×Int=>p.1)) h af (x:=p.1) (by simp[ints,hpj]) ?_
  refine cX ?_;refine vP (s:=st) (vs:=aa.map pt) h vK.1 (x:=some ⟨a,0,none⟩) (by rw[l8,ha];rfl) ?_
  have h:=h.fr 11;obtain⟨so,sc,h⟩:=awa h ha qX;refine cX ?_;have aFk:=qY (s:=sc) (vs:=ints (G.tk p.1.toNat).scopes) h;have h1n:=qY (s:=s1) (vs:=ints (da G (o.take j))) h;simp only[ints,List.length_map]at aFk h1n;have htot:(da G (o.take j)).length+(G.tk p.1.toNat).scopes.length≤1000000:=by
   have h2:=ho.sc;have e:o=o.take j++p::o.drop (j+1):=by
    rw[←hp,←List.drop_eq_getElem_cons hlt,List.take_append_drop]
   unfold da at h2 ⊢;rw[e]at h2;simp only[List.flatMap_append,List.flatMap_cons,List.length_cons,uv]at h2 ⊢;omega
  refine M9 (sz:=1) (s:=s1) (vs:=ints (da G (o.take j))) (x:=sc) (ys:=ints (G.tk p.1.toNat).scopes) h an0 aZ (h.own (sz:=1) (s:=sc) (vs:=ints (G.tk p.1.toNat).scopes)).sls (by simp[ints,Value.oneCell']) af af λs2 w h CD=> ?_
  have h:=qg hla ha (G.xw qX) h;have h:=h.bk 11;refine hC (j+1) _ _ ⟨?_,af,?_⟩ af
  ·rw[kg ⟨af,af⟩];omega
  ·have e:ints (da G (o.take (j+1)))=ints (da G (o.take j))++ints (G.tk p.1.toNat).scopes:=by
    unfold da;rw[List.take_add_one,hpj];simp[ints]
   rw[e];exact h
 ·refine aU (by simp;omega) ?_
  have e:o.take j=o:=List.take_of_length_le af;rw[e]at h;exact hk _ _ h.drop
theorem azr{k:Bool→ap}(h:St w0 w (SL l aa G R sp st sw))(hf:G.time.2.length≤100000)(hc:CK G.time)(hs:∀y∈G.time.2,nZ G.C y.2=some (G.nd y.2)∧G.M.can l.wa.length (G.nd y.2).at_=true)(ht:G.M.can l.wa.length l.told=true)
  (hk:∀w',St w0 w' (SL l aa (ZD l G n).1 R sp st sw)→k (ZD l G n).2 w'):lA (some ⟨l.gs,0,none⟩) n w k:=by
 unfold lA BK;unfold ZD at hk;refine cX ?_;obtain⟨now,S⟩:∃now S,G.time=(now,S):=⟨_,_,rfl⟩;refine Ko.aBJ (now:=G.time.1) (S:=G.time.2) hf hc h (λha s' w' h=> ?_) λha h=> ?_
 ·rw[if_pos ha]at hk;refine aU rfl ?_;refine an2 (G:={G with time:=(G.time.1+n,Ko.Oy G.time.2 (G.time.1+n))}) h (λx hx=> ?_) ht λw h=>hk w h
  obtain⟨y,hy,rfl⟩:=List.mem_map.1 hx;exact hs y (List.mem_filter.1 hy).1
 ·rw[if_neg (by rw[ha];simp)]at hk
  exact bK rfl (hk _ h)
theorem azs{k:Bool→ap}(h:St w0 w (SL l aa G R sp st sw))(ho:SM G o)(hs:∀x∈da G o,(0≤x∧x<G.P.length)∧nZ G.C x=some (G.nd x)∧G.M.can l.wa.length (G.nd x).at_=true)(ht:G.M.can l.wa.length l.told=true)
  (hk:∀w',St w0 w' (SL l aa (ZF l G o n).1 R sp st sw)→k (ZF l G o n).2 w'):lB (some ⟨l.gs,0,none⟩) n w k:=by
 unfold lB BL;unfold ZF at hk;refine afI h ho λs1 w h=> ?_;have h1n:=qY (s:=s1) (vs:=ints (da G o)) h;simp only[ints,List.length_map]at h1n;by_cases hn:0≤n∧n<(da G o).length
 ·rw[if_pos hn]at hk;have hlt:n.toNat<(da G o).length:=af;have hg:(da G o).getD n.toNat 0=(da G o)[n.toNat]'hlt:=by rw[m0,iH hlt];rfl
  rw[hg]at hk;have hx:=hs _ (List.getElem_mem hlt);generalize hxe:(da G o)[n.toNat]'hlt=x at hk hx;have hxa:(ints (da G o))[n.toNat]?=some (.int .i64 x):=by simp[ints,hlt,hxe]
  obtain⟨p,hp⟩:∃p,G.P[x.toNat]?=some p:=⟨_,iH af⟩;refine bP (λb w=>b=ZE G x∧St w0 w (bG 1 s1 (ints (da G o))::SL l aa G R sp st sw)) (λJ hJ=> ?_) ?_
  ·refine dZ λw h=> ?_;refine aU (by simp;omega) ?_
   refine cX ?_;refine vI (s:=s1) (vs:=ints (da G o)) h hn.1 hxa ?_;refine rB (sz:=4) (s:=sp) (es:=G.P.map tI) (e:=tI p) h hx.1.1 (by rw[l8,hp];rfl) rfl ?_
   exact hJ _ _ ⟨by unfold ZE;rw[hp],h⟩
  clear h;rintro _ w ⟨rfl,h⟩;refine ax (λhb=> ?_) λhb=> ?_
  ·rw[if_pos hb]at hk;exact hk _ h.drop
  ·rw[if_neg (by rw[hb];simp)]at hk
   refine vI (s:=s1) (vs:=ints (da G o)) h hn.1 hxa ?_;refine aM h λg2 w h=> ?_;have h:=h.asS (g:=g2) (n:=1) (sz:=1) (cs:=[.int .i64 x]) rfl af (by simp[Value.oneCell'])
   have h:=h.rm 1 rfl;simp only[I7]at h;refine an2 (ids:=[x]) h (λy hy=> ?_) ht λw h=>hk w h;simp at hy;subst hy;exact hx.2
 ·rw[if_neg hn]at hk;refine bP (λb w=>b=true∧St w0 w (bG 1 s1 (ints (da G o))::SL l aa G R sp st sw)) (λJ hJ=> ?_) ?_
  ·refine dZ λw h=> ?_;refine bK (by simp;omega) (hJ _ _ ⟨rfl,h⟩)
  clear h;rintro _ w ⟨rfl,h⟩;exact bK rfl (hk _ h.drop)
end
open Ck (oW)
open Fr (nF)
def roB(m:Lm)(v:Nat):List Ro:=[.top v,.bot v,.Uw v] ++(List.range (2 ^ m.lg.toNat)).map (.rg v m.lg.toNat)
def Qo(m:Lm):Nat→List Ro
 |0=>[.told,.idle,.ask 0,.liv 0,.Ye,.OI]
 |v+1=>Qo m v++roB m v
def ZP(m:Lm):List Ro:=Qo m m.n++[.ask 1,.liv 1] ++[.fk 0,.fv 0,.fw 0]
section
variable {w0 w:World} {L R:List HP} {a:Ad} {ps:Sl} {m:Lm} {M:bJ} {P:List dB} {wa:List Nat} {l:Lc} {ro:List Ro} {r:Ro} {b:Int}
theorem awb{v:Nat}:(((roB m v).length:Nat):Int)=m.one:=by
 unfold roB Lm.one EX;simp;omega
theorem Ym:∀v:Nat,(((Qo m v).length:Nat):Int)=sC m v
 |0=>by unfold sC;simp[Qo]
 |v+1=>by
  rw[ZI];show(((Qo m v++roB m v).length:Nat):Int)=_;rw[uv,Int.natCast_add,Ym v,awb]
theorem adE:∀(v:Nat) (i:Nat),∃q,Qo m (v+i)=Qo m v++q
 |v,0=>⟨[],bf⟩
 |v,i+1=>by
  obtain⟨q,hq⟩:=adE v i;exact⟨q++roB m (v+i),by show Qo m (v+i)++roB m (v+i)=_;rw[hq];simp⟩
theorem abk{i v k:Nat}(hi:i<v)(hk:(roB m i)[k]?=some r):k9 (Qo m v) (sC m i+k) r:=by
 obtain⟨q,hq⟩:=adE (m:=m) (i+1) (v - (i+1));rw[show i+1+(v - (i+1))=v from by omega]at hq
 rw[hq];refine k9.qT ?_;show k9 (Qo m i++roB m i) _ _;exact k9.new hk (by rw[Int.natCast_add,Ym])
theorem ahJ{i v:Nat}(hi:i<v):ZH (Qo m v) i (sC m i):=by
 refine⟨?_,abk (k:=1) hi rfl,abk (k:=2) hi rfl⟩;have:=abk (m:=m) (k:=0) (r:= .top i) hi rfl;simpa using this
theorem azt{i v k:Nat}(hi:i<v)(hk:k<2 ^ m.lg.toNat):k9 (Qo m v) (sC m i+3+k) (.rg i m.lg.toNat k):=by
 have:=abk (m:=m) (k:=3+k) (r:= .rg i m.lg.toNat k) hi (by
  unfold roB;rw[u0 bf];simp[hk])
 rw[show sC m i+3+(k:Int)=sC m i+((3+k:Nat):Int) by omega]
 exact this
theorem afJ{v k:Nat}(hk:([.told,.idle,.ask 0,.liv 0,.Ye,.OI]:List Ro)[k]?=some r):k9 (Qo m v) k r:=by
 obtain⟨q,hq⟩:=adE (m:=m) 0 v;rw[Nat.zero_add]at hq;rw[hq];exact k9.qT ⟨af,hk⟩
theorem aka:∀{v:Nat},k9 (Qo m v) b r→(∀i,r≠ .Uw i)∨∃i,i<v∧r= .Uw i∧b=sC m i+2
 |0,h=>by
  refine .inl λi e=> ?_;subst e;obtain⟨_,h⟩:=h;have:=qn h;simp[Qo]at this
 |v+1,h=>by
  rcases k9.old (ro:=Qo m v) (m:=roB m v) h with h|⟨k,hk,e⟩
  ·rcases aka h with h|⟨i,h1,h2,h3⟩
   ·exact .inl h
   ·exact .inr ⟨i,af,h2,h3⟩
  ·by_cases h3:k<3
   ·match k,h3 with
    |0,_=>refine .inl λi q=> ?_;subst q;cases hk
    |1,_=>refine .inl λi q=> ?_;subst q;cases hk
    |2,_=>
     cases hk
     refine .inr ⟨v,af,rfl,?_⟩;rw[e,Int.natCast_add,Ym];rfl
   ·refine .inl λi q=> ?_;subst q;unfold roB at hk;rw[u0 (by simp;omega)]at hk
    have:=qn hk;simp at this
theorem awc{n:Nat}(hn:1≤n)(h:∀i,r≠ .Uw i):EO l ro n r 0:=by
 cases r with
 |Uw i=>exact absurd rfl (h i)
 |OI=>exact⟨af,af⟩
 |ask s=>exact .inl rfl
 |rg v g k=>exact⟨af,af⟩
 |top v=>exact⟨e7,e7⟩
 |bot v=>exact⟨e7,e7⟩
 |fk x=>exact⟨af,af⟩
 |_=>trivial
theorem aCD(hm:m.OK)(v:Nat):6≤sC m v:=by
 have:=m.KS hm;have:=Yg m af (Nat.zero_le v);unfold sC at this ⊢;simp at this ⊢;omega
theorem azu(hm:m.OK)(h:m.total≤m.cells){x:Int}(h0:0≤x):(g2 m).M.get x=if x<6+m.n*m.one then(oe m m.n).get x else 0:=by
 have hR:=ahC hm h;have l1:(((g1 m).M.cells.length:Nat):Int)=8+m.n*m.one:=by
  have:=xQ (M:=(oe m m.n).tick m.n) (n:=2) af;show((((oe m m.n).tick m.n).grow 2).cells.length:Nat)=(_:Int);rw[this];show(((oe m m.n).cells.length:Nat):Int)+2=_;rw[hR.len];omega
 show(((g1 m).M.tick m.n).grow 3).get x=_;by_cases h1:x<8+m.n*m.one
 ·rw[xR h0 (by show x<(((g1 m).M.cells.length:Nat):Int);rw[l1];exact h1),tT]
  show(((oe m m.n).tick m.n).grow 2).get x=_;split
  ·rename_i h2;rw[xR h0 (by show x<(((oe m m.n).cells.length:Nat):Int);rw[hR.len];exact h2),tT]
  ·rename_i h2;exact Yf (by show(((oe m m.n).cells.length:Nat):Int)≤x;rw[hR.len];omega)
 ·rw[if_neg af];exact Yf (by show(((g1 m).M.cells.length:Nat):Int)≤x;rw[l1];omega)
theorem aCE(hm:m.OK)(A7:wa.length=m.n):afx (gJ a ps m wa):=by
 have:=hm.base;have:=hm.spare;refine⟨⟨hm.base.1,hm.base.2,hm.spare.1,hm.spare.2⟩,?_,?_⟩
 ·show 1≤wa.length;rw[A7];unfold Lm.n;omega
 ·show wa.length≤16;rw[A7];unfold Lm.n;omega
theorem aoc(hm:m.OK)(h:m.total≤m.cells){i:Nat}(hi:i<m.n):RgT (gJ a ps m wa) (Qo m m.n) i ⟨sC m i+3,m.lg⟩:=by
 have ZG:=m.adq hm;have ho:=m.KS hm;have Y5:=acM ZG.1 ZG.2.2;have hone:m.one=3+EX m.lg:=rfl;have h1:=Yg m af (show i+1≤m.n by omega)
 rw[ZI]at h1;have h2:sC m m.n=6+m.n*m.one:=rfl;have h6:=aCD hm i;have hsz:=hm.cells;unfold Lm.total at h;refine⟨?_,ZG.2.1,λk hk=>azt hi hk⟩;unfold Rg.right;simp only[decide_eq_true_eq];unfold EX at Y5 hone;unfold Rg.pw;dsimp only;omega
theorem azv:CK ((0,[]):Int×List (Int×Int)):=⟨e7,e7,λy hy=>(by cases hy),λy hy=>(by cases hy),.nil,List.nodup_nil⟩
theorem azw(hm:m.OK)(h:m.total≤m.cells)(hz:m.cells≤65536)(A7:wa.length=m.n):Ty (gJ a ps m wa) (ZP m) (g2 m):=by
 have hR:=ahC hm h;have ho:=m.KS hm;have uj:=hR.n1;have hmul:m.one≤m.n*m.one:=by have:(1:Int)*m.one≤m.n*m.one:=Int.mul_le_mul_of_nonneg_right af af;omega
 obtain⟨h1,h2,h3,h4,h5⟩:=Te hm m.n (by unfold Lm.total at h;omega)
 have hl0:(((Qo m m.n).length:Nat):Int)=6+m.n*m.one:=Ym m.n;have hl:(((ZP m).length:Nat):Int)=11+m.n*m.one:=by
  unfold ZP;simp only[uv,List.length_cons,List.length_nil];omega
 have l1:(((g1 m).M.cells.length:Nat):Int)=8+m.n*m.one:=by
  have:=xQ (M:=(oe m m.n).tick m.n) (n:=2) af;show((((oe m m.n).tick m.n).grow 2).cells.length:Nat)=(_:Int);rw[this];show(((oe m m.n).cells.length:Nat):Int)+2=_;rw[h3];omega
 have l2:(((g2 m).M.cells.length:Nat):Int)=11+m.n*m.one:=by
  have:=xQ (M:=(g1 m).M.tick m.n) (n:=3) af;show((((g1 m).M.tick m.n).grow 3).cells.length:Nat)=(_:Int);rw[this];show(((g1 m).M.cells.length:Nat):Int)+3=_;rw[l1];omega
 have hst:(g2 m).M.steps.length=m.n+1:=by rw[←h5];exact Tg.trans Tg
 have hb:∀{k:Nat} {r:Ro},([.told,.idle,.ask 0,.liv 0,.Ye,.OI]:List Ro)[k]?=some r→k9 (ZP m) k r:=λhk=>(afJ hk).qT.qT;have hs1:∀{k:Nat} {r:Ro},([.ask 1,.liv 1]:List Ro)[k]?=some r→k9 (ZP m) ((oe m m.n).cells.length+k:Nat) r:=fun{k r} hk=>k9.qT (k9.new hk (by have:=hl0;have:=h3;omega))
 have ht1:∀{k:Nat} {r:Ro},([.fk 0,.fv 0,.fw 0]:List Ro)[k]?=some r→k9 (ZP m) ((g1 m).M.cells.length+k:Nat) r:=fun{k r} hk=>k9.new hk (by have:=hl0;have:=l1;simp only[uv,List.length_cons,List.length_nil];omega)
 have hC:(g2 m).C=[⟨-1,0,2⟩,⟨0,1,((oe m m.n).cells.length:Nat)⟩]:=rfl;have hT:(g2 m).ts=[⟨0,0,1,((g1 m).M.cells.length:Nat),nF,ByteArray.mk #[],[],[1],0,0⟩]:=rfl;have hsz:(g2 m).M.size=m.cells:=h4;obtain⟨z1,z2⟩:=adu hm m.n (by unfold Lm.total at h;omega)
 have hdn:sC m m.n=6+m.n*m.one:=rfl;refine{len:=by omega,ok:=hR.ok2,sz:=by rw[hsz];exact hz,stp:=by rw[hst];show _=wa.length+1;rw[A7],val:=λa' r hL=> ?_,told:=hb (k:=0) rfl,idle:=hb (k:=1) rfl,Ye:=hb (k:=4) rfl,OI:=hb (k:=5) rfl,sc:=λs x hx=> ?_,tk:=λx t ht=> ?_,c1:=(by rw[hC];simp),t1:=(by rw[hT];simp),pl:=rfl,kt:=λi x hx=> ?_,kl:=rfl,kk:=λi x hx=> ?_,ck:=azv,Qn:=(λy hy=>by cases hy),cnt:= ?_,dr:=(by show(0:Nat)≤1024;decide)}
 ·rw[azu hm h hL.1,hT];have hzz:∀r:Ro,(∀i,r≠ .Uw i)→EO (gJ a ps m wa) (ZP m) 1 r 0:=λr q=>awc (iw 1) q;rcases hL.old with hL|⟨k,hk,e⟩
  ·rcases hL.old with hL|⟨k,hk,e⟩
   ·have hlt:=hL.lt;rw[hl0]at hlt;rw[if_pos hlt];rcases aka hL with q|⟨i,hi,rfl,rfl⟩
    ·rw[z1 a' hL.1 (by rw[hdn];exact hlt) λi hi=>(hL.ne (ahJ hi).Uw (q i))]
     exact hzz r q
    ·rw[z2 i hi];exact⟨_,rfl,(aoc hm h hi).qT.qT⟩
   ·rw[if_neg af];refine hzz r λi q=> ?_;subst q;have:=qn hk;simp at this
  ·rw[if_neg (by simp only[uv,List.length_cons,List.length_nil]at e;omega)]
   refine hzz r λi q=> ?_;subst q;have:=qn hk;simp at this
 ·rw[hC]at hx;match s,hx with
  |0,hx=>cases hx;exact⟨hb (k:=2) rfl,hb (k:=3) rfl,(by show(0:Int)≤0∧(0:Int)≤32;decide),λq=>absurd rfl q,λ_=>rfl⟩
  |1,hx=>cases hx;exact⟨hs1 (k:=0) rfl,hs1 (k:=1) rfl,(by show(0:Int)≤1∧(1:Int)≤32;decide),λq=>(by show(0:Int)≤0∧(0:Int)<1;decide),λq=>(by cases q)⟩
  |s+2,hx=>simp at hx
 ·rw[hT]at ht;match x,ht with
  |0,ht=>cases ht;exact⟨rfl,ht1 (k:=0) rfl,ht1 (k:=1) rfl,ht1 (k:=2) rfl,(by rw[hC];show(0:Int)≤0∧(0:Int)<2;decide),(by rw[hC];show(0:Int)≤1∧(1:Int)<2;decide),λp hp=>(by cases hp),(by show 0+0≤1;decide),(by rw[hC];show 1≤2;decide)⟩
  |x+1,ht=>simp at ht
 ·have hx:([⟨-1,0,[]⟩]:List Kt)[i]?=some x:=hx;match i,hx with
  |0,hx=>cases hx;exact⟨(by show(-1:Int)≤ -1;decide),(by show(-1:Int)<0;decide),λ_=>rfl⟩
  |i+1,hx=>simp at hx
 ·have hx:([⟨-1,0,[]⟩]:List Kt)[i]?=some x:=hx;match i,hx with
  |0,hx=>cases hx;exact(by show 0≤1;decide)
  |i+1,hx=>simp at hx
 ·rw[hC,hT];show 2*2+3*1≤_;omega
end
end Go.Proofs.YthidhjhkmjjckaaGreatDoor
namespace Go.Proofs.YthidhjhkmjjckaaGreatDoor
open Go Go.Ev Go.Proofs
open Ko (ni CK)
section
variable {w0 w:World} {L R:List HP} {l:Lc} {P:List dB} {bw:List Int} {ro:List Ro} {aa:List Nat} {G G':Gl} {Ws:List Wk} {n:Int} {gw:Nat} {W:Wk} {sp st sw:Sl} {o:List (Int×Int)}
theorem IV.drv(h:IV l P bw ro G Ws)(ty:Ty l ro G')(Cd:uN ro ro G G' [])(hts:G'.ts=G.ts)(her:G'.err=0→G.err=0):IV l P bw ro G' Ws:=by
 have hK:∀x,x<G.ts.length→1≤G.K x→G'.K x=G.K x:=λx hx h1=>(Cd.K1 x hx bf h1).1;refine⟨h.lc,h.lg,h.acc,ty,h.wn,h.dl,h.dq,λi W hi=>(h.w i W hi).imp Cd (λx _=>by simp) her,h.dj,λx hx hk=> ?_⟩
 rw[hts]at hx ⊢;have:G'.tk x=G.tk x:=by unfold Gl.tk;rw[hts]
 rw[this];exact h.fr x hx (Cd.K0 x hx hk)
theorem awd(h:Ty l ro G){wk s:Int}(hs:0≤s∧s<G.C.length):Ty l ro (G.Fw wk s)∧uN ro ro G (G.Fw wk s) []∧(G.Fw wk s).ts=G.ts∧(G.Fw wk s).C=G.C∧(G.Fw wk s).err=G.err:=by
 obtain⟨hsc,Gb⟩:=h.O7 hs.1 hs.2;have hlt:=Gb.a.lt;rw[h.len]at hlt;have tq:∀b,0≤b→(G.M.cs wk (G.nd s).at_ 0 1).1.get b=if b=(G.nd s).at_∧G.M.get (G.nd s).at_=0 then 1 else G.M.get b:=λb hb=>abi Gb.a.1 hlt hb
 have hK:∀y,y<G.ts.length→(G.Fw wk s).K y=G.K y∧(G.Fw wk s).V y=G.V y:=λy hy=>by
  have hk:=(h.qh hy).k;have hv:=(h.qh hy).v;have n1:=hk.ne Gb.a bf;have n2:=hv.ne Gb.a bf;show(G.M.cs _ _ _ _).1.get (G.tk y).jI=_∧(G.M.cs _ _ _ _).1.get ((G.tk y).jI+1)=_;rw[tq _ hk.1,if_neg (λq=>n1 q.1),tq _ hv.1,if_neg (λq=>n2 q.1)];exact⟨rfl,rfl⟩
 refine⟨h.cs Gb.a (.inr rfl),⟨⟨[],bf⟩,iw _,λ_ _ _=>rfl,λ_ _=>⟨rfl,rfl,rfl⟩,⟨[],by simp[Gl.Fw,Gl.mem]⟩,λy hy q=>by rw[←(hK y hy).1];exact q,λy hy _ _=>hK y hy,λy hy _=>hK y hy,λs' ⟨nd,h1,h2⟩=>⟨nd,h1,?_⟩⟩,rfl,rfl,rfl⟩
 show(G.M.cs _ _ _ _).1.get _≠0;rw[tq _ (JL h h1).1];split
 ·decide
 ·exact h2
theorem uN.We{ro iT ro2:List Ro}{G G' G2:Gl}(h:uN ro iT G G' [])(k:uN iT ro2 G' G2 []):uN ro ro2 G G2 []:=h.trans k (.inr λx hx=>by cases hx)
theorem uN.refl(ro:List Ro)(G:Gl):uN ro ro G G []:=⟨⟨[],bf⟩,iw _,λ_ _ _=>rfl,λ_ _=>⟨rfl,rfl,rfl⟩,⟨[],bf⟩,λ_ _ q=>q,λ_ _ _ _=>⟨rfl,rfl⟩,λ_ _ _=>⟨rfl,rfl⟩,λ_ q=>q⟩
theorem afK(hM:G'.M=G.M)(hts:G'.ts=G.ts)(hC:G'.C=G.C):uN ro ro G G' []:=by
 cases G'
 dsimp only at hM hts hC;subst hM;subst hts;subst hC;exact⟨⟨[],bf⟩,iw _,λ_ _ _=>rfl,λ_ _=>⟨rfl,rfl,rfl⟩,⟨[],bf⟩,λ_ _ q=>q,λ_ _ _ _=>⟨rfl,rfl⟩,λ_ _ _=>⟨rfl,rfl⟩,λ_ q=>q⟩
theorem akb(wk:Int):∀(ids:List Int) (G:Gl),Ty l ro G→(∀x∈ids,0≤x∧x<G.C.length)→Ty l ro (sK wk G ids)∧uN ro ro G (sK wk G ids) []∧(sK wk G ids).ts=G.ts∧(sK wk G ids).C=G.C∧(sK wk G ids).err=G.err
 |[],G,h,_=>⟨h,uN.refl ro G,rfl,rfl,rfl⟩
 |s::ids,G,h,hs=>by
  obtain⟨h1,h2,h3,h4,h5⟩:=awd h (wk:=wk) (hs s bf);obtain⟨k1,k2,k3,k4,k5⟩:=akb wk ids (G.Fw wk s) h1 λx hx=>by rw[h4];exact hs x (by simp[hx])
  exact⟨k1,h2.We k2,k3.trans h3,k4.trans h4,k5.trans h5⟩
theorem akc{ids:List Int}(h:Ty l ro G)(hs:∀x∈ids,0≤x∧x<G.C.length):Ty l ro (UX l G ids)∧uN ro ro G (UX l G ids) []∧(UX l G ids).ts=G.ts∧(UX l G ids).C=G.C∧(UX l G ids).err=G.err:=by
 unfold UX;split
 ·exact⟨h,uN.refl ro G,rfl,rfl,rfl⟩
 ·obtain⟨k1,k2,k3,k4,k5⟩:=akb (l.wa.length:Nat) ids G h hs;exact⟨k1.ad k1.told trivial,k2.We (ahD k1 k1.told (λq=>q)),k3,k4,k5⟩
theorem awe{kind:Int}(h:IV l P bw ro G Ws)(ho:∀x∈da G o,0≤x∧x<G.C.length):∃iT,IV l P bw iT (SA l P G Ws o kind n).1.1 (SA l P G Ws o kind n).1.2:=by
 unfold SA;split
 ·exact⟨ro,h⟩
 rename_i he;have he:G.err=0:=Classical.not_not.1 he;split
 ·unfold ZC;split
  ·split
   ·rename_i W hW;split
    ·rw[h.dl];obtain⟨iT,_,hr⟩:=h.step hW he;exact⟨iT,hr⟩
    ·exact⟨ro,h⟩
   ·exact⟨ro,h⟩
  ·exact⟨ro,h⟩
 split
 ·unfold ZD;split
  ·rename_i ha;have ty1:Ty l ro {G with time:=(G.time.1+n,Ko.Oy G.time.2 (G.time.1+n))}:={h.ty with ck:=h.ty.ck.adv ha,Qn:=λy hy=>h.ty.Qn y (List.mem_filter.1 hy).1}
   have av2:uN ro ro G {G with time:=(G.time.1+n,Ko.Oy G.time.2 (G.time.1+n))} []:=afK rfl rfl rfl;obtain⟨k1,k2,k3,k4,k5⟩:=akc (ids:=Ko.ids (Ko.ac4 G.time.2 (G.time.1+n))) ty1 λx hx=>by
    obtain⟨y,hy,rfl⟩:=List.mem_map.1 hx;have hm:=(List.mem_filter.1 hy).1;exact⟨h.ty.ck.ids y hm,h.ty.Qn y hm⟩
   exact⟨ro,h.drv k1 (av2.We k2) k3 (λe=>by rw[←k5];exact e)⟩
  ·exact⟨ro,h⟩
 split
 ·split
  ·rename_i hd;have ty1:Ty l ro {G with D:=G.D++[n]}:={h.ty with dr:=by show(G.D++[n]).length≤_;simp;omega}
   exact⟨ro,h.drv ty1 (afK rfl rfl rfl) rfl (λe=>e)⟩
  ·exact⟨ro,h⟩
 split
 ·unfold ZF;split
  ·rename_i hn;split
   ·exact⟨ro,h⟩
   ·have hlt:n.toNat<(da G o).length:=af;have hg:(da G o).getD n.toNat 0=(da G o)[n.toNat]'hlt:=by rw[m0,iH hlt];rfl
    obtain⟨k1,k2,k3,k4,k5⟩:=akc (ids:=[(da G o).getD n.toNat 0]) h.ty λx hx=>by
     simp only[List.mem_singleton]at hx;rw[hx,hg];exact ho _ (List.getElem_mem hlt)
    exact⟨ro,h.drv k1 k2 k3 (λe=>by rw[←k5];exact e)⟩
  ·exact⟨ro,h⟩
 ·exact⟨ro,h⟩
theorem aFl{kind:Int}{k:Bool→ap}(hI:IV l P bw ro G Ws)(hF:iA w0 l.ps P)(hT:TZ w0)(ho:SM G o)(hs:∀x∈da G o,0≤x∧x<G.C.length)(h:qK w0 w l aa G Ws R)
  (hk:∀JI w',qK w0 w' l JI (SA l P G Ws o kind n).1.1 (SA l P G Ws o kind n).1.2 R→k (SA l P G Ws o kind n).2 w'):nO (some ⟨l.gs,0,none⟩) #[.int .i64 kind,.int .i64 n] w k:=by
 unfold nO EH;unfold SA at hk;have hdc:G.M.caller l.wa.length=true:=Ga hI.ty.stp af af;have aob:∀x:Int,0≤x→x<G.C.length→nZ G.C x=some (G.nd x)∧G.M.can l.wa.length (G.nd x).at_=true:=λx h0 h1=>by
  obtain⟨a,b⟩:=hI.ty.O7 h0 h1;exact⟨a,b.a.can hI.ty.len hdc⟩
 have htold:G.M.can l.wa.length l.told=true:=hI.ty.told.can hI.ty.len hdc;refine aM h λg1 w h=> ?_;have h:St w0 w (au g1 [.int .i64 kind,.int .i64 n]::UW l aa G::jO (pH l aa) (l.wa.zip Ws)::R):=h;have h2:=h.drop;obtain⟨sp,st,sw,h3⟩:=rO h2;refine bP (λb w=>b=decide (G.err≠0)∧St w0 w (au g1 [.int .i64 kind,.int .i64 n]::UW l aa G::jO (pH l aa) (l.wa.zip Ws)::R)) (λJ hJ=> ?_) ?_
 ·refine aU rfl (bc (aI h3 rfl (hJ _ _ ⟨?_,h⟩)));by_cases e:G.err=0<;>simp[e]
 clear h h2 h3;rintro _ w ⟨rfl,h⟩;by_cases he:G.err=0;rotate_left
 ·rw[if_pos he]at hk;exact bK (by simp[he]) (hk aa _ h.drop)
 rw[if_neg (by simp[he])]at hk
 refine aU (by simp[he]) ?_
 refine cr (g:=g1) (o:=0) h rfl ?_;refine ax (λhb=> ?_) λhb=> ?_
 ·rw[if_pos (by simpa using hb)]at hk
  refine cr (g:=g1) (o:=1) h rfl ?_;have h:=h.drop;refine ayW (P:=P) hF hT hI.lc hI.wn hI.ty.ok he (hI.ty.OI.given hI.ty.len) (hI.ty.told.given hI.ty.len) (λi W hi _ _=> ?_) h hk;rw[hI.dl];exact hI.ok hi he hF
 rw[if_neg (by simpa using hb)]at hk
 clear hb;refine ax (λhb=> ?_) λhb=> ?_
 ·rw[if_pos (by simpa using hb)]at hk
  refine cr (g:=g1) (o:=1) h rfl ?_;obtain⟨sp,st,sw,h3⟩:=rO h.drop;refine azr h3 hI.ty.Zs hI.ty.ck (λy hy=>aob _ (hI.ty.ck.ids y hy) (hI.ty.Qn y hy)) htold λw' h'=> ?_;exact hk aa w' (pE h')
 rw[if_neg (by simpa using hb)]at hk
 clear hb;refine ax (λhb=> ?_) λhb=> ?_
 ·rw[if_pos (by simpa using hb)]at hk
  obtain⟨sp,st,sw,h⟩:=rO h.swap;refine vO λgx w h=> ?_;have h:=h.fr 9;refine atu (l:=sp) h.swap (λhd w h=> ?_) (λhd w h=> ?_) hI.ty.dr
  ·rw[if_pos hd]at hk;have h:=h.bk 8;have h:=h.zm 10;exact hk aa _ (pE (G:={G with D:=G.D++[n]}) h)
  ·rw[if_neg hd]at hk;have h:=h.bk 8;have h:=h.zm 10;exact hk aa _ (pE h)
 rw[if_neg (by simpa using hb)]at hk
 clear hb;refine ax (λhb=> ?_) λhb=> ?_
 ·rw[if_pos (by simpa using hb)]at hk
  refine cr (g:=g1) (o:=1) h rfl ?_;obtain⟨sp,st,sw,h3⟩:=rO h.drop;refine azs h3 ho (λx hx=> ?_) htold λw' h'=> ?_
  ·have:=hs x hx;exact⟨by rw[hI.ty.pl];exact this,aob x this.1 this.2⟩
  ·exact hk aa w' (pE h')
 rw[if_neg (by simpa using hb)]at hk
 exact hk aa _ h.drop
end
open Ck (oW)
open Fr (nF)
def dqN(m:Lm):List Int:=(Bd m).map λW:Wk=>W.dq
section
variable {w0 w:World} {L R:List HP} {a:Ad} {ps:Sl} {m:Lm} {M:bJ} {P:List dB} {wa:List Nat} {l:Lc} {ro:List Ro} {r:Ro} {b:Int}
theorem aCK(hm:m.OK)(h:m.total≤m.cells)(hz:m.cells≤65536)(A7:wa.length=m.n):Ty (gJ a ps m wa) (ZP m) (eY m):=by
 have hR:=ahC hm h;have h2:=azw (a:=a) (ps:=ps) hm h hz A7;have hL3:k9 (ZP m) 3 (.liv 0):=(afJ (k:=3) rfl).qT.qT;have h3:Ty (gJ a ps m wa) (ZP m) (g3 m):=h2.ad hL3 trivial;have WL:sC m 0=6:=by unfold sC;simp
 have HF:RgT (gJ a ps m wa) (ZP m) 0 ⟨9,m.lg⟩:=by
  have:=aoc (a:=a) (ps:=ps) (wa:=wa) hm h (i:=0) hR.n1;rw[WL]at this;exact this.qT.qT
 have BU:=HF.place 0;have hb:=(ahJ (m:=m) (i:=0) (v:=m.n) hR.n1).bot;rw[WL]at hb;have h4:Ty (gJ a ps m wa) (ZP m) ((g3 m).mem ((((((g3 m).M.tick m.n).tick m.n).tick m.n).tick m.n).put ((Rg.mk 9 m.lg).place 0) 0)):=h3.put (M:=((((g3 m).M.tick m.n).tick m.n).tick m.n).tick m.n) ⟨rfl,rfl,bf⟩ BU (by show(0:Int)≤0∧(0:Int)<1;decide)
 exact h4.put (M:=(((((g3 m).M.tick m.n).tick m.n).tick m.n).tick m.n).put ((Rg.mk 9 m.lg).place 0) 0|>.tick m.n) ⟨rfl,rfl,by simp[Gl.mem]⟩ hb.qT.qT (by show sy 1;exact⟨e7,e7⟩)
theorem ZQ:(Bd m).length=m.n:=by unfold Bd JR;simp
theorem adF{i:Nat}{W:Wk}(h:(Bd m)[i]?=some W):i<m.n∧W=Wa i (sC m i):=by
 have hl:=(kB.1 h).1;rw[ZQ]at hl;refine⟨hl,?_⟩;unfold Bd JR at h;rw[l8,List.getElem?_range hl]at h;simpa using h.symm
theorem aod{i:Nat}(h:i<m.n):(dqN m).getD i 0=sC m i:=by
 unfold dqN Bd JR;simp[m0,h,Wa]
theorem awf(hm:m.OK)(h:m.total≤m.cells)(hz:m.cells≤65536)(A7:wa.length=m.n)(hA:oW P):IV (gJ a ps m wa) P (dqN m) (ZP m) (eY m) (Bd m):=by
 refine⟨aCE hm A7,hm.log,hA,aCK hm h hz A7,by rw[ZQ];exact A7,rfl,λv hv=> ?_,λi W hi=> ?_,λi j Wi Wj x hi hj hx=> ?_,λx hx hk=> ?_⟩
 ·have hv:v<m.n:=by have hv:v<wa.length:=hv;rw[A7]at hv;exact hv
  rw[aod hv];exact(ahJ hv).qT.qT
 ·obtain⟨hl,rfl⟩:=adF hi;refine⟨rfl,by show i<wa.length;rw[A7];exact hl,by rw[aod hl];rfl,trivial,?_,λx hx=>(by cases hx),λ_=>(show([]:List Nat)=[]from rfl),λ_=>⟨λ_=>⟨rfl,rfl⟩,λq=>(by cases q),λq=>(by rcases q with q|q<;>cases q)⟩,λx hx=>(by cases hx),List.nodup_nil⟩
  show((0:Nat):Int)≤m.deep;have:=hm.deep;omega
 ·obtain⟨hl,rfl⟩:=adF hi;cases hx
 ·have hx:x<1:=hx;have hx:x=0:=af;subst hx;exact⟨FI.root hA,rfl,rfl,rfl,rfl,rfl⟩
end
end Go.Proofs.YthidhjhkmjjckaaGreatDoor
namespace Go.Proofs.YthidhjhkmjjckaaGreatDoor
open Go Go.Ev Go.Proofs
open Ko (ni CK)
def Cs(G:Gl)(Ws:List Wk):Bool:=Ws.all (λW:Wk=>W.stack.isEmpty)&&decide (2≤G.K 0)
section
variable {w0 w:World} {L R:List HP} {l:Lc} {P:List dB} {bw:List Int} {ro:List Ro} {aa:List Nat} {G:Gl} {Ws:List Wk} {n:Int} {os:List (Nat×Wk)} {f:HP→List HP}
theorem azx{n gj:Nat}{Wj:Wk}{c:Sl→Prop}(h:St w0 w L)[a:At L (jO (pH l aa)) os f](hn:os[n]?=some (gj,Wj))(hc:∀s:Sl,s.n=Wj.stack.length→c s):cy w (aY ⟨gj,0,none⟩ 5) c:=by
 obtain⟨R,ho,_⟩:=a.out;obtain⟨q,hq,h2⟩:=X2 (BW (ho h) hn);have hl:=qY (s:=q.ss) (vs:=q.qw.reverse) h2;have:=hq.qw.len;refine aS (g:=gj) h2 (p:=q.ss.a) (m:=q.ss.n) (k:=q.ss.c) vM ?_;exact hc _ (by simp at hl;show q.ss.n=_;omega)
theorem azy{x a:Nat}{t:Tk}{c:Array Value→Prop}(h:St w0 w L)[a1:At L (LA aa) G.ts f](ha:aa[x]?=some a)(ht:G.ts[x]?=some t)(hc:c #[.int .i64 t.jI]):bx 1 w (aY ⟨a,0,none⟩ 3) c:=by
 obtain⟨R,ho,_⟩:=a1.out;obtain⟨so,sc,h2⟩:=sv (ho h) ha ht;refine bA (g:=a) h2 vM ?_;exact hc
theorem adG{k:Bool→ap}(hI:IV l P bw ro G Ws)(h:qK w0 w l aa G Ws R)(hk:∀w',qK w0 w' l aa G Ws R→k (Cs G Ws) w'):cA (some ⟨l.gs,0,none⟩) w k:=by
 have hlc:=hI.lc;have hwn:=hI.wn;have awg:=hlc.w16;obtain⟨sp,st,sw,h⟩:=rO h;have hn5:=qY (s:=sw) (vs:=l.wa.map pt) h;rw[List.length_map]at hn5;have hla:=KI (h.front 9 rfl);unfold cA zV;refine aU rfl ?_;refine cX ?_;refine bP (λ_ w=>Ws.all (λW:Wk=>W.stack.isEmpty)=true∧St w0 w (SL l aa G (jO (pH l aa) (l.wa.zip Ws)::R) sp st sw)) (λJ hJ=> ?_) ?_
 ·refine DN (G:=Nat) (λj i w=>i=(j:Int)∧j≤Ws.length∧(Ws.take j).all (λW:Wk=>W.stack.isEmpty)=true∧St w0 w (SL l aa G (jO (pH l aa) (l.wa.zip Ws)::R) sp st sw)) (λj=>Ws.length - j) (g:=0) ⟨rfl,af,rfl,h⟩ ?_;clear h;rintro j i w ⟨hi,hj,ha,h⟩ C hC;subst hi;by_cases hlt:j<Ws.length;rotate_left
  ·have e:j=Ws.length:=af;subst e;rw[List.take_length]at ha;exact aU (by simp;omega) (hJ _ _ ⟨ha,h⟩)
  refine bK (by simp;omega) ?_
  obtain⟨gw,hgw⟩:∃g,l.wa[j]?=some g:=⟨_,iH af⟩;have hW:Ws[j]?=some (Ws[j]'hlt):=iH hlt;refine vP (s:=sw) (vs:=l.wa.map pt) h af (x:=some ⟨gw,0,none⟩) (by rw[iZ,l8,hgw];rfl) ?_
  refine cX ?_;refine azx (l:=l) (aa:=aa) (os:=l.wa.zip Ws) (n:=j) (gj:=gw) (Wj:=Ws[j]'hlt) h (by rw[List.getElem?_zip_eq_some];exact⟨hgw,hW⟩) λs hs=> ?_
  have hne:(decide (((s.n:Nat):Int)>0))= !(Ws[j]'hlt).stack.isEmpty:=by
   rw[hs];cases (Ws[j]'hlt).stack<;>simp
  rw[hne];cases he:(Ws[j]'hlt).stack.isEmpty with
  |false=>
   refine bK rfl ?_;have hq:Cs G Ws=false:=by
    unfold Cs;have:Ws.all (λW:Wk=>W.stack.isEmpty)=false:=by
     rw[List.all_eq_false];exact⟨_,List.getElem_mem hlt,by rw[he];simp⟩
    rw[this];rfl
   rw[hq]at hk;exact hk _ (pE h)
  |true=>
   refine aU rfl ?_;refine hC (j+1) _ _ ⟨by rw[kg ⟨af,af⟩];rfl,af,?_,h⟩ af
   rw[List.take_add_one,hW,List.all_append,ha];show(true&&((Ws[j]'hlt).stack.isEmpty&&true))=true;rw[he];rfl
 clear h;rintro _ w ⟨ha,h⟩;have hx:0<G.ts.length:=hI.ty.t1;obtain⟨a,haa⟩:=Zx (aa:=aa) hla (G.xw hx);refine dZ λw h=> ?_;refine vP (s:=st) (vs:=aa.map pt) h af (x:=some ⟨a,0,none⟩) (by show(aa.map pt)[0]?=_;rw[l8,haa];rfl) ?_
 refine cX ?_;refine azy (G:=G) (x:=0) (a:=a) h haa (G.xw hx) ?_;refine cX ?_;have hT:=hI.ty.qh hx;have hl:=hI.ty.len;refine aiM (M:=G.M) h hI.ty.ok (by have:=hT.k.given hl;simpa using this) (hT.v.given hl) (hT.w.given hl) λw h=> ?_
 have e:Cs G Ws=decide (G.M.get ((G.tk 0).jI+0)≥2):=by
  unfold Cs;rw[ha,Int.add_zero];rfl
 rw[e]at hk;exact hk _ (pE h)
theorem ahK{k:Int→ap}(h:qK w0 w l aa G Ws R)(hk:∀w',qK w0 w' l aa G Ws R→k G.err w'):cS (some ⟨l.gs,0,none⟩) w k:=by
 obtain⟨sp,st,sw,h⟩:=rO h;unfold cS;refine aU rfl ?_;refine cX ?_;exact hk _ (pE h)
theorem azz{k:Int→ap}(h:qK w0 w l aa G Ws R)(hk:∀w',qK w0 w' l aa G Ws R→k (wr (l.fuel - G.steps)) w'):lE (some ⟨l.gs,0,none⟩) w k:=by
 obtain⟨sp,st,sw,h⟩:=rO h;unfold lE;refine aU rfl ?_;refine dZ λw h=> ?_;exact hk _ (pE h)
theorem azA{k:Int→ap}(h:qK w0 w l aa G Ws R)(hk:∀w',qK w0 w' l aa G Ws R→k G.time.1 w'):mH (some ⟨l.gs,0,none⟩) w k:=by
 obtain⟨sp,st,sw,h⟩:=rO h;unfold mH CZ;refine aU rfl ?_;refine cX ?_;refine Ko.aBG (now:=G.time.1) (S:=G.time.2) h ?_;exact hk _ (pE h)
end
theorem ams{e:List Value}(he:0<e.length):∀n:Nat,madeCells e.toArray (n*e.length)=(dU n e).flatten.toArray:=by
 intro n;apply Array.ext
 ·simp[madeCells]
 ·intro j h1 h2;have hj:j % e.length<e.length:=Nat.mod_lt _ he;have key:∀(n j:Nat),j<n*e.length→(dU n e).flatten[j]?=e[j % e.length]?:=by
   intro n;induction n with
   |zero=>intro j hj;omega
   |succ n ih=>
    intro j hj;rw[List.replicate_succ,List.flatten_cons];by_cases hlt:j<e.length
    ·rw[tJ hlt,Nat.mod_eq_of_lt hlt]
    ·rw[u0 af,ih (j - e.length) (by rw[Nat.succ_mul]at hj;omega)]
     congr 1;exact(Nat.mod_eq_sub_mod af).symm
  have hlen:j<n*e.length:=by simpa[madeCells]using h1
  have:=key n j hlen;rw[iH hj,iH (by simpa using h2)]at this
  have:=Option.some.inj this;simp[madeCells,hj,this]
section
variable {w0 w:World} {L R:List HP} {l:Lc} {P:List dB} {bw:List Int} {ro:List Ro} {aa:List Nat} {G:Gl} {Ws:List Wk} {n:Int} {os:List (Nat×Wk)} {f:HP→List HP} {sp st sw:Sl} {o:List (Int×Int)}
theorem azB{P:Program}{t:TypeId}{b sz:Nat}{z:Value}{e:List Value}{n:Nat}{kl kc:IntKind}{c:Sl→ap}(h:St w0 w L)(ht:ET P t sz b z)(hz:z.cells=e.toArray)(hsz:0<sz)(he:e.length=sz)(hv:∀v∈e,v.oneCell'=true)
  (hbytes:b*n≤281474976710656) (h63:n≤9223372036854775807)
  (hc:∀s w',St w0 w' (rws sz s (dU n e)::L)→s.n=n→c s w'):xz P t (.int kl (n:Int)) (.int kc (n:Int)) w c:=by
 obtain⟨e',i,hte,hi,hs,hby,WK⟩:=ht.out;have hb':(i.bytes:Int)*(n:Int)≤281474976710656:=by
  have h:((b*n:Nat):Int)≤281474976710656:=af;rw[Int.natCast_mul]at h;rwa[hby]
 have hr:=Go.run_make (P:=P) w t e' i z hte hi WK kl kc n n af (Int.le_refl _) hb' af;unfold xz;rw[hr,hs,hz,iZ];show c ⟨some ⟨w.heap.size,0,none⟩,n,n⟩ _;refine hc _ _ (St.YA (λx hx=>by rw[(List.mem_replicate.1 hx).2];exact he) (h.new (CA w _) (F':=λk=>k=w.heap.size) ⟨λk=>by simp[Sl.au,eq_comm],qo.new (n:=n) ?_ (by simp[he]) h63 λx hx=> ?_⟩ λk hk=>by rw[hk];exact iw _)) rfl
 ·rw[←ams af,he];exact pN.new w _ e'
 ·obtain⟨y,hy,hx⟩:=List.mem_flatten.1 hx;rw[(List.mem_replicate.1 hy).2]at hx;exact hv x hx
def ahL:Nat→List (Int×Int)→List Int→List Int
 |_,[],a=>a
 |j,p::o,a=>ahL (j+1) o (a.set p.1.toNat (j:Int))
def cq(G:Gl)(o:List (Int×Int)):List Int:=ahL 0 o (dU G.ts.length 0)
theorem ahM{k:Sl→ap}(h:St w0 w (SL l aa G R sp st sw))(ho:SM G o)(hn:G.ts.length≤100000)(hk:∀s w',St w0 w' (bG 1 s (ints (cq G o))::SL l aa G R sp st sw)→(cq G o).length=G.ts.length→k s w'):cI (some ⟨l.gs,0,none⟩) w k:=by
 unfold cI BM;have hla:=KI (h.front 9 rfl);have hst:=qY (s:=st) (vs:=aa.map pt) h;rw[List.length_map,hla]at hst;refine cX ?_;refine AT (n:=st.n) (z:= .int .i64 0) (b:=8) h ⟨aZ,aZ⟩ rfl af af λs3 w h h3=> ?_;refine cX ?_;have e0:dU st.n (Value.int .i64 0)=ints (dU G.ts.length 0):=by simp[ints,hst]
 rw[e0]at h;refine aiO (T:=G.T) h ho.kids ho.len ho.dfs λs5 w h=> ?_;have h5n:=qY (s:=s5) (vs:=ints (o.map λp:Int×Int=>p.1)) h;simp only[ints,List.length_map]at h5n;have hol:=ho.len;refine DN (G:=Nat×List Int) (λq i w=>i=((q.1:Nat):Int)∧q.1≤o.length∧q.2.length=G.ts.length∧ahL q.1 (o.drop q.1) q.2=cq G o∧St w0 w (bG 1 s5 (ints (o.map λp:Int×Int=>p.1))::bG 1 s3 (ints q.2)::SL l aa G R sp st sw)) (λq=>o.length - q.1) (g:=(0,dU G.ts.length 0)) ⟨rfl,af,bf,rfl,h⟩ ?_;clear h;rintro⟨j,a⟩ i w ⟨hi,hj,hal,DB,h⟩ C hC;dsimp only at hi hj hal DB h;subst hi;by_cases hlt:j<o.length
 ·refine bK (by simp;omega) ?_
  have vK:=ho.ids _ (List.getElem_mem hlt);rw[List.drop_eq_getElem_cons hlt]at DB;generalize hp:o[j]'hlt=p at vK DB;have hpj:o[j]?=some p:=by rw[iH hlt,hp]
  refine vI (s:=s5) (vs:=ints (o.map λp:Int×Int=>p.1)) h af (x:=p.1) (by simp[ints,hpj]) ?_
  refine zC (s:=s3) (xs:=a) h vK.1 (by rw[hal];omega) λw h=> ?_
  refine hC (j+1,a.set p.1.toNat (j:Int)) _ _ ⟨?_,by dsimp only;omega,by simp[hal],DB,h⟩ (by dsimp only;omega)
  rw[kg ⟨af,af⟩];rfl
 ·refine aU (by simp;omega) ?_
  have e:j=o.length:=af;subst e;rw[List.drop_length]at DB;have DB:a=cq G o:=DB;subst DB;exact hk _ _ h.drop hal
end
def AO(p:Int)(k f kd v st:Int)(c:ByteArray):List Value:=[.int .i64 p,.int .i64 k,.int .i64 f,.int .i64 kd,.int .i64 v,.int .i64 st,.string c]
def rowAt(G:Gl)(r:List Int)(p:Int×Int):List Value:=
 let t:=G.tk p.1.toNat
 AO (if 0≤p.2 then r.getD p.2.toNat 0 else -1) (G.P.getD t.l7.toNat (0,0,0,false)).2.1 (t.f.getD 0 0) (G.K p.1.toNat) (if G.K p.1.toNat<2 then 0 else G.V p.1.toNat) (t.f.getD 18 0) t.gL
def Gc(G:Gl)(r:List Int)(T:List (List Value)):List (Int×Int)→List (List Value)
 |[]=>T
 |p::o=>Gc G r (T.set (r.getD p.1.toNat 0).toNat (rowAt G r p)) o
def Yn(G:Gl)(o:List (Int×Int)):List (List Value):=Gc G (cq G o) (dU G.ts.length (AO 0 0 0 0 0 0 (ByteArray.mk #[]))) o
theorem aFn:ET Tryz.prog 35 7 64 (.agg #[.int .i64 0,.int .i64 0,.int .i64 0,.int .i64 0,.int .i64 0,.int .i64 0,.string (ByteArray.mk #[])]):=⟨aZ,aZ⟩
theorem adH(G:Gl)(r:List Int):∀(a b:List (Int×Int)) (T:List (List Value)),Gc G r T (a++b)=Gc G r (Gc G r T a) b
 |[],b,T=>rfl
 |p::a,b,T=>adH G r a b _
theorem adI(G:Gl)(r:List Int):∀(a:List (Int×Int)) (T:List (List Value)),(Gc G r T a).length=T.length
 |[],T=>rfl
 |p::a,T=>by rw[Gc,adI G r a];simp
section
variable {w0 w:World} {L R:List HP} {l:Lc} {P:List dB} {bw:List Int} {ro:List Ro} {aa:List Nat} {G:Gl} {Ws:List Wk} {n:Int} {os:List (Nat×Wk)} {f:HP→List HP} {sp st sw:Sl} {o:List (Int×Int)}
abbrev TbP(l:Lc)(aa:List Nat)(G:Gl)(sp st sw:Sl)(g1 g7 g13:Nat)(s5 s11:Sl)(r:List Int)(T:List (List Value)):List HP:=
 [au g1 [pt l.gs],au g13 [.slice s11.a s11.n s11.c],rws 7 s11 T,au g7 [.slice s5.a s5.n s5.c],bG 1 s5 (ints r),au l.gs (l.cs sp st sw G.steps G.err),bH l.gm G.M,scp l.gc G.C,rws 4 sp (G.P.map tI),bG 1 st (aa.map pt),bG 1 sw (l.wa.map pt),ni l.gt G.time,Lw l.gd G.D,LA aa G.ts]
theorem awj{g o j:Nat}{v:Value}{w':World}{c:Prop}(h:w.cell? ⟨g,o+j,none⟩=some v)(h':w'.cell? ⟨g,o+j,none⟩=some v)(hc:c):ai 1 (aY ⟨g,o,none⟩ j) w w' c:=by rw[dg];exact abZ h h' hc
abbrev TbB(l:Lc)(aa:List Nat)(G:Gl)(sp st sw:Sl)(g1 g7 g13:Nat)(s5 s11:Sl)(r:List Int)(T:List (List Value))(a x:Nat)(so sc:Sl)(Rr:List HP):List HP:=
 au a ((G.tk x).cells so sc)::rws 2 so ((G.tk x).cJ.map A1)::bG 1 sc (ints (G.tk x).scopes)::jO tkP ((aa.zip G.ts).eraseIdx x)::au g1 [pt l.gs]::au g13 [.slice s11.a s11.n s11.c]::rws 7 s11 T::au g7 [.slice s5.a s5.n s5.c]::bG 1 s5 (ints r)::au l.gs (l.cs sp st sw G.steps G.err)::bH l.gm G.M::scp l.gc G.C::rws 4 sp (G.P.map tI)::bG 1 st (aa.map pt)::bG 1 sw (l.wa.map pt)::ni l.gt G.time::Lw l.gd G.D::Rr
theorem akd{k:Sl→ap}(hI:IV l P bw ro G Ws)(ho:SM G o)(hp:∀p∈o,p.2<G.ts.length)(hr:∀x∈cq G o,0≤x∧x<G.ts.length)(h:qK w0 w l aa G Ws R)
  (hk:∀s w',qK w0 w' l aa G Ws (rws 7 s (Yn G o)::R)→k s w'):dD (some ⟨l.gs,0,none⟩) w k:=by
 have hcap:=hI.ty.cap;obtain⟨sp,st,sw,h⟩:=rO h;have hla:=KI (h.front 9 rfl);unfold dD AI;refine aM h λg1 w h=> ?_;refine cX ?_;have h:=h.bk 10;refine ahM h ho af λs5 w h hlen=> ?_;have h5n:=qY (s:=s5) (vs:=ints (cq G o)) h;simp only[ints,List.length_map,hlen]at h5n;refine vO λgx w h=> ?_;obtain⟨g7,j7⟩:∃n,n=gx:=⟨_,rfl⟩;subst j7;refine azB (n:=s5.n) (e:=AO 0 0 0 0 0 0 (ByteArray.mk #[])) h aFn aZ af rfl (by intro v hv;simp[AO]at hv;rcases hv with rfl|rfl<;>rfl) af af λs11 w h h11=> ?_
 refine vO λgx w h=> ?_;obtain⟨g13,j7⟩:∃n,n=gx:=⟨_,rfl⟩;subst j7;rw[show dU s5.n (AO 0 0 0 0 0 0 (ByteArray.mk #[]))=dU G.ts.length (AO 0 0 0 0 0 0 (ByteArray.mk #[])) by rw[h5n]]at h
 have h:=h.fr 14;have h:=h.fr 7;have h:=h.bk 14;have h:St w0 w (l9 (TbP l aa G sp st sw g1 g7 g13 s5 s11 (cq G o) (Gc G (cq G o) (dU G.ts.length (AO 0 0 0 0 0 0 (ByteArray.mk #[]))) []))::Da l.gk G.T::jO (pH l aa) (l.wa.zip Ws)::R):=St.shut (A:=TbP l aa G sp st sw g1 g7 g13 s5 s11 (cq G o) _) h;refine atk (w0:=w0) (G:=λdone=>l9 (TbP l aa G sp st sw g1 g7 g13 s5 s11 (cq G o) (Gc G (cq G o) (dU G.ts.length (AO 0 0 0 0 0 0 (ByteArray.mk #[]))) done))) (l:=o) h ho.kids ho.len ho.dfs (λdone rest p w Rr C hd h hc=> ?_) λD w h=> ?_
 ·have hmem:p∈o:=by rw[hd];simp
  have vK:=ho.ids p hmem;have hpp:=hp p hmem;have qX:p.1.toNat<G.ts.length:=af;have h:=St.open h;simp only[List.cons_append,List.nil_append]at h;obtain⟨a,ha⟩:=Zx (aa:=aa) hla (G.xw qX);have hT:=hI.ty.qh qX;have hl:=hI.ty.len;have hin:=hT.inn;have BU:=hI.ty.pl;refine cX ?_;refine vP (s:=st) (vs:=aa.map pt) h vK.1 (x:=some ⟨a,0,none⟩) (by rw[l8,ha];rfl) ?_
  have h:=h.fr 13;obtain⟨so,sc,h⟩:=awa h ha qX;refine dZ λw h=> ?_;refine aiM (M:=G.M) h hI.ty.ok (by have:=hT.k.given hl;simpa using this) (hT.v.given hl) (hT.w.given hl) λw h=> ?_
  rw[Int.add_zero];have hP:G.P[(G.tk p.1.toNat).l7.toNat]?=some (G.P.getD (G.tk p.1.toNat).l7.toNat (0,0,0,false)):=by
   rw[m0,iH af];rfl
  have hPc:(G.P.map tI)[(G.tk p.1.toNat).l7.toNat]?=some (tI (G.P.getD (G.tk p.1.toNat).l7.toNat (0,0,0,false))):=by rw[l8,hP];rfl
  generalize aFp:G.P.getD (G.tk p.1.toNat).l7.toNat (0,0,0,false)=pl at hPc;clear hP;have hT2:(Gc G (cq G o) (dU G.ts.length (AO 0 0 0 0 0 0 (ByteArray.mk #[]))) done).length=G.ts.length:=by rw[adI,List.length_replicate]
  generalize hTT:Gc G (cq G o) (dU G.ts.length (AO 0 0 0 0 0 0 (ByteArray.mk #[]))) done=TT at h hT2;refine bP (fun(ad:Addr) w=> ∃g,ad=⟨g,0,none⟩∧St w0 w (au g (AO (-1) pl.2.1 ((G.tk p.1.toNat).f.getD 0 0) (G.K p.1.toNat) (if G.K p.1.toNat<2 then 0 else G.V p.1.toNat) ((G.tk p.1.toNat).f.getD 18 0) (G.tk p.1.toNat).gL)::TbB l aa G sp st sw g1 g7 g13 s5 s11 (cq G o) TT a p.1.toNat so sc Rr)) (λJ hJ=> ?_) ?_
  ·refine dZ λw h=> ?_;refine rix (sz:=4) (s:=sp) (es:=G.P.map tI) h hin.1 hPc af λgq oq hr _=> ?_;refine uZ (by rw[dg];exact hr h hPc 1 _ rfl) ?_
   have hold:=h;with_reducible repeat' (first|refine bc ?_|refine u_T h ?_|refine Z7 h ?_|refine QU h λw h=> ?_|refine aM h λgx w h=> ?_|refine nP h ?_|refine sR h ?_|refine y8 ?_ ?_|refine an3 hold h vM ?_|refine awj (hr hold hPc 1 _ rfl) (hr h hPc 1 _ rfl) ?_|fail)
   all_goals exact hJ _ _ ⟨_,rfl,h⟩
  clear h;rintro _ w ⟨g,rfl,h⟩;have hr1:(cq G o)[p.1.toNat]?=some ((cq G o).getD p.1.toNat 0):=by rw[m0,iH af];rfl
  have hri:=hr _ (qn hr1);have aAq:(ints (cq G o))[p.1.toNat]?=some (.int .i64 ((cq G o).getD p.1.toNat 0)):=by unfold ints;rw[l8,hr1];rfl
  have ab4:∀(w:World) (q:Int),q=(if 0≤p.2 then(cq G o).getD p.2.toNat 0 else -1)→St w0 w (TbB l aa G sp st sw g1 g7 g13 s5 s11 (cq G o) (TT.set ((cq G o).getD p.1.toNat 0).toNat (AO q pl.2.1 ((G.tk p.1.toNat).f.getD 0 0) (G.K p.1.toNat) (if G.K p.1.toNat<2 then 0 else G.V p.1.toNat) ((G.tk p.1.toNat).f.getD 18 0) (G.tk p.1.toNat).gL)) a p.1.toNat so sc Rr)→C w:=by
   intro w q hq h;have h:=qg hla ha (G.xw qX) h;have h:=h.bk 13;refine hc w (St.shut (A:=TbP l aa G sp st sw g1 g7 g13 s5 s11 (cq G o) _) ?_);rw[adH,hTT];have e:rowAt G (cq G o) p=AO q pl.2.1 ((G.tk p.1.toNat).f.getD 0 0) (G.K p.1.toNat) (if G.K p.1.toNat<2 then 0 else G.V p.1.toNat) ((G.tk p.1.toNat).f.getD 18 0) (G.tk p.1.toNat).gL:=by
    unfold rowAt;rw[hq,←aFp]
   show St w0 w (TbP l aa G sp st sw g1 g7 g13 s5 s11 (cq G o) (TT.set ((cq G o).getD p.1.toNat 0).toNat (rowAt G (cq G o) p))++Rr);rw[e];exact h
  refine ax (λhb=> ?_) λhb=> ?_
  ·have hb:0≤p.2:=by simpa using hb
   have hr2:(cq G o)[p.2.toNat]?=some ((cq G o).getD p.2.toNat 0):=by rw[m0,iH af];rfl
   refine cX ?_;refine vI (s:=s5) (vs:=ints (cq G o)) h hb (x:=(cq G o).getD p.2.toNat 0) (by unfold ints;rw[l8,hr2];rfl) ?_
   refine dZ λw h=> ?_;refine vI (s:=s5) (vs:=ints (cq G o)) h vK.1 (x:=(cq G o).getD p.1.toNat 0) aAq ?_;refine cX ?_;refine rW (s:=s11) (es:=TT) (e:=TT[((cq G o).getD p.1.toNat 0).toNat]' af) h hri.1 (iH _) af rfl ?_ λw h=> ?_
   ·intro v hv;simp[AO]at hv;rcases hv with rfl|rfl|rfl|rfl|rfl|rfl|rfl<;>rfl
   have h:=h.drop;refine ab4 w _ (if_pos hb).symm ?_;exact h
  ·have hb:¬0≤p.2:=by simpa using hb
   refine dZ λw h=> ?_;refine vI (s:=s5) (vs:=ints (cq G o)) h vK.1 (x:=(cq G o).getD p.1.toNat 0) aAq ?_;refine cX ?_;refine rW (s:=s11) (es:=TT) (e:=TT[((cq G o).getD p.1.toNat 0).toNat]' af) h hri.1 (iH _) af rfl ?_ λw h=> ?_
   ·intro v hv;simp[AO]at hv;rcases hv with rfl|rfl|rfl|rfl|rfl|rfl|rfl<;>rfl
   have h:=h.drop;refine ab4 w _ (if_neg hb).symm ?_;exact h
 ·have h:=h.front 1 rfl;simp only[I7]at h;have h:=St.open h;simp only[List.cons_append,List.nil_append]at h;refine cX ?_;have h:=QR h;have h:=h.fr 15;have h:=LK h;refine LL h λw h=>hk s11 w ?_;have h:=h.zm 0;have h:=h.zm 0;have h:=h.zm 1;have h:=h.zm 1;have h:=h.fr 10;have h:=h.fr 3;have h:=h.fr 3;have h:=h.fr 3;have h:=h.bk 11;exact pE h
end
def O9(G:Gl)(s:Int):Pl:=G.P.getD s.toNat (0,0,0,false)
def xy(G:Gl)(r:List Int)(s:Int):List Value:=
 [.int .i64 (if 0≤(O9 G s).1 then r.getD (O9 G s).1.toNat 0 else -1),.int .i64 (O9 G s).2.1,.int .i64 (O9 G s).2.2.1,.bool (G.M.get (G.nd s).at_ !=0),.bool (O9 G s).2.2.2,.int .i64 (G.M.get ((G.nd s).at_+1))]
def adK(G:Gl)(o:List (Int×Int)):List (List Value):=(da G o).map (xy G (cq G o))
theorem aFr:ET Tryz.prog 60 6 40 (.agg #[.int .i64 0,.int .i64 0,.int .i64 0,.bool false,.bool false,.int .i64 0]):=⟨aZ,aZ⟩
def awk(G:Gl)(o:List (Int×Int)):Prop:=∀s∈da G o,(0≤s∧s<G.C.length)∧(O9 G s).1<G.ts.length
section
variable {w0 w:World} {L R:List HP} {l:Lc} {P:List dB} {bw:List Int} {ro:List Ro} {aa:List Nat} {G:Gl} {Ws:List Wk} {n:Int} {o:List (Int×Int)}
theorem Zu{k:Sl→ap}(hI:IV l P bw ro G Ws)(ho:SM G o)(hs:awk G o)(h:qK w0 w l aa G Ws R)
  (hk:∀s w',qK w0 w' l aa G Ws (rws 6 s (adK G o)::R)→k s w'):j1 (some ⟨l.gs,0,none⟩) w k:=by
 have hcap:=hI.ty.cap;have BU:=hI.ty.pl;have hsc:=ho.sc;obtain⟨sp,st,sw,h⟩:=rO h;unfold j1 y3;refine aU rfl ?_;refine ahM h ho af λs1 w h hlen=> ?_;have h:=h.bk 10;refine afI (R:=bG 1 s1 (ints (cq G o))::jO (pH l aa) (l.wa.zip Ws)::R) h ho λs3 w h=> ?_;have h3n:=qY (s:=s3) (vs:=ints (da G o)) h;simp only[ints,List.length_map]at h3n;have h:St w0 w (rws 6 ⟨none,0,0⟩ (((da G o).take 0).map (xy G (cq G o)))::_):=St.YA (by intro e he;cases he) (h.DJ 6)
 refine DN (G:=Nat) (λj x w=>x.2=(j:Int)∧j≤(da G o).length∧St w0 w (rws 6 x.1 (((da G o).take j).map (xy G (cq G o)))::bG 1 s3 (ints (da G o))::SL l aa G (bG 1 s1 (ints (cq G o))::jO (pH l aa) (l.wa.zip Ws)::R) sp st sw)) (λj=>(da G o).length - j) (g:=0) ⟨rfl,af,h⟩ ?_;clear h;rintro j ⟨sr,i⟩ w ⟨hi,hj,h⟩ C hC;dsimp only at hi h ⊢;subst hi;by_cases hlt:j<(da G o).length
 ·refine bK (by simp;omega) ?_
  have hmem:=List.getElem_mem hlt;generalize hxe:(da G o)[j]'hlt=x at hmem;obtain⟨⟨hx0,hx1⟩,hx2⟩:=hs x hmem;have Zd:(da G o)[j]?=some x:=by rw[iH hlt,hxe]
  have hP:G.P[x.toNat]?=some (O9 G x):=by unfold O9;rw[m0,iH af];rfl
  have hPc:(G.P.map tI)[x.toNat]?=some (tI (O9 G x)):=by rw[l8,hP];rfl
  have awl:=hI.ty.O7 hx0 hx1;have vE:=qY (s:=s3) (vs:=ints (da G o)) h;have hl:=hI.ty.len;refine vI (s:=s3) (vs:=ints (da G o)) h af (x:=x) (by simp[ints,Zd]) ?_
  refine cX ?_;refine rA (sz:=4) (s:=sp) (es:=G.P.map tI) h hx0 hPc af ?_;generalize aAr:O9 G x=pl at hPc hx2;refine vO λgx w h=> ?_;obtain⟨gp,j7⟩:∃n,n=gx:=⟨_,rfl⟩;subst j7;refine ata (M:=G.M) (C:=G.C) (x:=G.nd x) h awl.1 (awl.2.a.given hl) (awl.2.b.given hl) hI.ty.ok λw h=> ?_;refine vO λgx w h=> ?_;obtain⟨gs,j7⟩:∃n,n=gx:=⟨_,rfl⟩;subst j7;refine bP (λ_ w=>St w0 w (au gs (xy G (cq G o) x)::au gp (tI pl)::rws 6 sr (((da G o).take j).map (xy G (cq G o)))::bG 1 s3 (ints (da G o))::SL l aa G (bG 1 s1 (ints (cq G o))::jO (pH l aa) (l.wa.zip Ws)::R) sp st sw)) (λJ hJ=> ?_) ?_
  ·refine cX ?_;refine ax (λhb=> ?_) λhb=> ?_
   ·have hb:0≤pl.1:=by simpa using hb
    have hr1:(cq G o)[pl.1.toNat]?=some ((cq G o).getD pl.1.toNat 0):=by rw[m0,iH af];rfl
    refine cX ?_;refine vI (s:=s1) (vs:=ints (cq G o)) h hb (x:=(cq G o).getD pl.1.toNat 0) (by unfold ints;rw[l8,hr1];rfl) ?_
    refine dZ λw h=> ?_;refine hJ _ _ ?_;have e:xy G (cq G o) x=[.int .i64 ((cq G o).getD pl.1.toNat 0),.int .i64 pl.2.1,.int .i64 pl.2.2.1,.bool (G.M.get (G.nd x).at_ !=0),.bool pl.2.2.2,.int .i64 (G.M.get ((G.nd x).at_+1))]:=by
     unfold xy;rw[aAr,if_pos hb]
    rw[e];exact h
   ·have hb:¬0≤pl.1:=by simpa using hb
    refine hJ _ _ ?_;have e:xy G (cq G o) x=[.int .i64 (-1),.int .i64 pl.2.1,.int .i64 pl.2.2.1,.bool (G.M.get (G.nd x).at_ !=0),.bool pl.2.2.2,.int .i64 (G.M.get ((G.nd x).at_+1))]:=by
     unfold xy;rw[aAr,if_neg hb]
    rw[e];exact h
  clear h;rintro _ w h;refine cX ?_;refine Jw rfl rfl ?_;refine vO λgx w h=> ?_;obtain⟨gn,j7⟩:∃n,n=gx:=⟨_,rfl⟩;subst j7;have hln:=pg (sz:=6) (s:=sr) (es:=((da G o).take j).map (xy G (cq G o))) h;refine Z8 (sz:=6) (s:=sr) (es:=((da G o).take j).map (xy G (cq G o))) (e:=xy G (cq G o) x) h aFr aZ rfl af (by simp[xy,Value.oneCell']) (by simp;omega) af λs' w h hn=> ?_
  refine hC (j+1) _ _ ⟨?_,af,?_⟩ af
  ·rw[kg ⟨af,af⟩];omega
  ·have e:((da G o).take (j+1)).map (xy G (cq G o))=((da G o).take j).map (xy G (cq G o))++[xy G (cq G o) x]:=by rw[List.take_add_one,Zd];simp
   rw[e];exact h.drop.drop.drop
 ·refine aU (by simp;omega) ?_
  have e:(da G o).take j=da G o:=List.take_of_length_le af;rw[e]at h;have h:=h.zm 1;have h:=h.fr 11;have h:=h.zm 0;have h:=h.bk 11;exact hk _ _ (pE h)
end
def onF(l:Lc)(G:Gl)(W:Wk):Bool:=tD (l.sp.bits G.M) W.id
def Ce(r:List Int)(W:Wk):List Int:=W.stack.reverse.map λx=>r.getD x 0
def JT(G:Gl)(r:List Int)(W:Wk):List Int:=(G.M.list W.dq).map λx=>r.getD x.toNat 0
abbrev Wz:=Wk×(Sl×Sl)
def tQ(l:Lc)(G:Gl)(z:Wz):List Value:=[.bool (onF l G z.1),.bool (z.1.wait.parked G.M l.told),.slice z.2.1.a z.2.1.n z.2.1.c,.slice z.2.2.a z.2.2.n z.2.2.c]
def Iq(G:Gl)(r:List Int)(z:Wz):HP:=l9 [bG 1 z.2.1 (ints (Ce r z.1)),bG 1 z.2.2 (ints (JT G r z.1))]
theorem aFs:ET Tryz.prog 67 4 56 (.agg #[.bool false,.bool false,.slice none 0 0,.slice none 0 0]):=⟨aZ,aZ⟩
theorem KK.get{α β:Type}{P:α→β→Prop}{l:List α}{m:List β}(h:KK P l m):∀{i:Nat} {a:α},l[i]?=some a→∃b,m[i]?=some b∧P a b:=by
 induction h with
 |nil=>intro i a hi;simp at hi
 |cons h1 _ ih=>
  intro i a hi;match i,hi with
  |0,hi=>simp at hi;subst hi;exact⟨_,rfl,h1⟩
  |i+1,hi=>simpa using ih (by simpa using hi)
theorem azC{α:Type}{l:List α}{i:Nat}{a:α}(h:l[i]?=some a):l.set i a=l:=by
 apply List.ext_getElem?;intro k;rw[List.getElem?_set];split
 ·rename_i hk;subst hk;rw[h,if_pos (kB.1 h).1]
 ·rfl
def awm(G:Gl)(W:Wk):Prop:=sy (G.M.k8 W.dq)∧sy (G.M.k8 (W.dq+1))∧xH W.dq∧(∀x∈G.M.list W.dq,0≤x∧x<G.ts.length)∧(G.M.list W.dq).length≤100000
abbrev WrB(l:Lc)(aa:List Nat)(G:Gl)(sp st sw:Sl)(gw:Nat)(q:Wq)(W:Wk)(os:List (Nat×Wk))(sr:Sl)(zs:List Wz)(r:List Int)(s1:Sl)(R:List HP):List HP:=
 au gw (W.cs l q)::au q.gwt (W.wait.cells l.told)::bG 1 q.ss q.qw.reverse::bG 1 q.sb q.y6.reverse::bG 1 q.sl (ints W.left)::l6 (uh q.go) W.op::l6 (λk:Lk=>au q.gl (k.cells l.gc)) W.look::l6 (λo:jH=>au q.gp (o.cells l.sp q.gp)) W.step::fz q.B::jO (pH l aa) os::rws 4 sr (zs.map (tQ l G))::jO (Iq G r) zs::SL l aa G (bG 1 s1 (ints r)::R) sp st sw
section
variable {w0 w:World} {L R:List HP} {l:Lc} {P:List dB} {bw:List Int} {ro:List Ro} {aa:List Nat} {G:Gl} {Ws:List Wk} {n:Int} {o:List (Int×Int)} {f:HP→List HP}
theorem azD{x a:Nat}{t:Tk}{c:Int→Prop}(h:St w0 w L)[a1:At L (LA aa) G.ts f](ha:aa[x]?=some a)(ht:G.ts[x]?=some t)(hc:c t.id):aJ .i64 w (aY ⟨a,0,none⟩ 0) c:=by
 obtain⟨R,ho,_⟩:=a1.out;obtain⟨so,sc,h2⟩:=sv (ho h) ha ht;exact aI (g:=a) h2 vM hc
theorem amu{k:Sl→ap}(av7:l.deep≤1000000)(hI:IV l P bw ro G Ws)(ho:SM G o)(hd:∀W∈Ws,awm G W)(h:qK w0 w l aa G Ws R)
  (hk:∀s zs w',zs.map (λz:Wz=>z.1)=Ws→qK w0 w' l aa G Ws (rws 4 s (zs.map (tQ l G))::jO (Iq G (cq G o)) zs::R)→k s w'):jB (some ⟨l.gs,0,none⟩) w k:=by
 have hcap:=hI.ty.cap;have hwn:=hI.wn;have hlc:=hI.lc;have awg:=hlc.w16;obtain⟨sp,st,sw,h⟩:=rO h;have hla:=KI (h.front 9 rfl);have hn5:=qY (s:=sw) (vs:=l.wa.map pt) h;rw[List.length_map]at hn5;unfold jB xk;refine aU rfl ?_;refine ahM h ho af λs1 w h hlen=> ?_;have h:=h.bk 10;refine cX ?_;have h:St w0 w (rws 4 ⟨none,0,0⟩ (([]:List Wz).map (tQ l G))::jO (Iq G (cq G o)) []::_):=St.YA (by intro e he;cases he) ((QW h).DJ 4)
 refine DN (G:=Nat×List Wz) (λq x w=>x.2=(q.1:Int)∧q.1≤Ws.length∧q.2.map (λz:Wz=>z.1)=Ws.take q.1∧St w0 w (rws 4 x.1 (q.2.map (tQ l G))::jO (Iq G (cq G o)) q.2::SL l aa G (bG 1 s1 (ints (cq G o))::jO (pH l aa) (l.wa.zip Ws)::R) sp st sw)) (λq=>Ws.length - q.1) (g:=(0,[])) ⟨rfl,af,rfl,h⟩ ?_;clear h;rintro⟨j,zs⟩ ⟨sr,i⟩ w ⟨hi,hj,hz,h⟩ C hC;dsimp only at hi hz h hj ⊢;subst hi;by_cases hlt:j<Ws.length
 ·refine bK (by simp;omega) ?_
  obtain⟨gw,hgw⟩:∃g,l.wa[j]?=some g:=⟨_,iH af⟩;have hW:Ws[j]?=some (Ws[j]'hlt):=iH hlt;generalize hWe:Ws[j]'hlt=W at hW;have hos:(l.wa.zip Ws)[j]?=some (gw,W):=by rw[List.getElem?_zip_eq_some];exact⟨hgw,hW⟩
  have hwt:=hI.w j W hW;have Sz:=hd W (qn hW);refine vP (s:=sw) (vs:=l.wa.map pt) h af (x:=some ⟨gw,0,none⟩) (by rw[iZ,l8,hgw];rfl) ?_
  have h:=h.fr 13;have h:=BW h hos;obtain⟨q,hq,h⟩:=X2 h;refine bP (fun(ad:Addr) w=> ∃g,ad=⟨g,0,none⟩∧St w0 w (au g [.bool (onF l G W),.bool (W.wait.parked G.M l.told),.slice none 0 0,.slice none 0 0]::WrB l aa G sp st sw gw q W ((l.wa.zip Ws).eraseIdx j) sr zs (cq G o) s1 R)) (λJ hJ=> ?_) ?_
  ·have hgs:G.M.given (l.sp.at_+1)=true:=hI.ty.OI.given hI.ty.len;have hgt:G.M.given l.told=true:=hI.ty.told.given hI.ty.len;have hsp:∀{w:World} {L:List HP} {f:HP→List HP} (h:St w0 w L) [a:At L (bH l.gm) G.M f] (c:Bool→ap),(∀w',St w0 w' L→c (onF l G W) w')→dA (List.take 3 (List.drop (0+14) (l.cs sp st sw G.steps G.err))).toArray (some ⟨l.gm,0,none⟩) W.id w c:=λh _ c hc=>anu (M:=G.M) (s:=l.sp) h hlc.sp hI.ty.ok hgs hc;with_reducible repeat' (first|refine bc ?_|refine cH h λw h=> ?_|refine Tn h ?_|refine Iy h ?_|refine QT h ?_|refine QU h λw h=> ?_|refine aM h λgx w h=> ?_|refine nP h ?_|refine y8 ?_ ?_|refine hsp h _ λw h=> ?_|refine acG (M:=G.M) (x:=W.wait) h hgt λw h=> ?_|fail)
   all_goals exact hJ _ _ ⟨_,rfl,h⟩
  clear h;rintro _ w ⟨g,rfl,h⟩;generalize Dz:onF l G W=on_ at h;generalize hpk:W.wait.parked G.M l.told=pk_ at h;have vE:=qY (s:=q.ss) (vs:=q.qw.reverse) h;rw[List.length_reverse,←hq.qw.len]at vE;have hdp:=hwt.dp;have hrow:∀x:Nat,x<G.ts.length→(ints (cq G o))[((x:Nat):Int).toNat]?=some (.int .i64 ((cq G o).getD x 0)):=λx hx=>by
   rw[iZ];unfold ints;rw[l8,m0,iH af];rfl
  refine cX ?_;refine bP (λ_ w=> ∃s2:Sl,St w0 w (au g [.bool on_,.bool pk_,.slice s2.a s2.n s2.c,.slice none 0 0]::bG 1 s2 (ints (Ce (cq G o) W))::WrB l aa G sp st sw gw q W ((l.wa.zip Ws).eraseIdx j) sr zs (cq G o) s1 R)) (λJ hJ=> ?_) ?_
  ·have h:=(h.DJ 1).bk 1;refine DN (G:=Nat×Sl) (λp x w=>x=(p.1:Int)∧p.1≤W.stack.length∧p.2.n=p.1∧St w0 w (au g [.bool on_,.bool pk_,.slice p.2.a p.2.n p.2.c,.slice none 0 0]::bG 1 p.2 (ints ((Ce (cq G o) W).take p.1))::WrB l aa G sp st sw gw q W ((l.wa.zip Ws).eraseIdx j) sr zs (cq G o) s1 R)) (λp=>W.stack.length - p.1) (g:=(0,⟨none,0,0⟩)) ⟨rfl,af,rfl,h⟩ ?_;clear h;rintro⟨i,s2⟩ x w ⟨hx,hi,CD,h⟩ C hC;dsimp only at hx hi h CD ⊢;subst hx;by_cases hlt:i<W.stack.length
   ·refine bK (by simp;omega) ?_
    obtain⟨y,hy⟩:∃y,W.stack.reverse[i]?=some y:=⟨_,iH (by simpa using hlt)⟩
    have hy2:=hy;rw[List.getElem?_reverse hlt]at hy2;obtain⟨v,hv,a,ha,rfl⟩:=hq.qw.get hy2;have hv2:q.qw.reverse[i]?=some (pt a):=by rw[List.getElem?_reverse (by rw[←hq.qw.len];exact hlt),←hq.qw.len];exact hv
    have hym:y∈W.stack:=qn hy2;have DK:=hwt.hl y (by unfold Wk.hold;split<;>simp[hym])
    have hty:=hI.ty.tk y _ (G.xw DK);refine vP (s:=q.ss) (vs:=q.qw.reverse) h af (x:=some ⟨a,0,none⟩) (by rw[iZ];exact hv2) ?_
    with_reducible repeat' (first|refine bc ?_|refine cH h λw h=> ?_|refine u_S h ?_|refine azD h ha (G.xw DK) ?_|fail)
    rw[hty.id];refine vI (s:=s1) (vs:=ints (cq G o)) h af (hrow y DK) ?_;refine vO λgx w h=> ?_;obtain⟨gn,j7⟩:∃n,n=gx:=⟨_,rfl⟩;subst j7;have Y8:((Ce (cq G o) W).take i).length=i:=by rw[List.length_take];simp[Ce];omega
    have hyr:(Ce (cq G o) W)[i]?=some ((cq G o).getD y 0):=by unfold Ce;rw[l8,hy];rfl
    have h16:l.deep≤1000000:=av7;refine I9 (s:=s2) (vs:=ints ((Ce (cq G o) W).take i)) h an0 aZ rfl (by simp only[ints,List.length_map,Y8];omega) af λs3 w h hn=> ?_
    simp only[ints,List.length_map,Y8]at hn;refine dZ λw h=> ?_;have h:=h.zm 0;refine hC (i+1,s3) _ _ ⟨?_,af,hn,?_⟩ (by simp only;omega)
    ·rw[kg ⟨af,af⟩];simp only;omega
    ·have e:ints ((Ce (cq G o) W).take (i+1))=ints ((Ce (cq G o) W).take i)++[.int .i64 ((cq G o).getD y 0)]:=by rw[List.take_add_one,hyr];simp[ints]
     rw[e];exact h
   ·refine aU (by simp;omega) ?_
    have e:(Ce (cq G o) W).take i=Ce (cq G o) W:=List.take_of_length_le (by simp[Ce];omega)
    rw[e]at h;exact hJ _ _ ⟨_,h⟩
  clear h;rintro _ w ⟨s2,h⟩;refine dZ λw h=> ?_;have h:=h.fr 15;refine axO (M:=G.M) (at_:=W.dq) (most:=l.log) Sz.2.2.1 h Sz.1 Sz.2.1 λs4 w h=> ?_;have h:=h.fr 1;have h:=h.bk 16;have h:=h.bk 1;have h4n:=qY (s:=s4) (vs:=ints (G.M.list W.dq)) h;simp only[ints,List.length_map]at h4n;have hl4:(G.M.list W.dq).length≤100000:=Sz.2.2.2.2;refine bP (λ_ w=> ∃s5:Sl,St w0 w (au g [.bool on_,.bool pk_,.slice s2.a s2.n s2.c,.slice s5.a s5.n s5.c]::bG 1 s5 (ints (JT G (cq G o) W))::bG 1 s4 (ints (G.M.list W.dq))::bG 1 s2 (ints (Ce (cq G o) W))::WrB l aa G sp st sw gw q W ((l.wa.zip Ws).eraseIdx j) sr zs (cq G o) s1 R)) (λJ hJ=> ?_) ?_
  ·have h:=(h.DJ 1).bk 1;refine DN (G:=Nat×Sl) (λp x w=>x=(p.1:Int)∧p.1≤(G.M.list W.dq).length∧p.2.n=p.1∧St w0 w (au g [.bool on_,.bool pk_,.slice s2.a s2.n s2.c,.slice p.2.a p.2.n p.2.c]::bG 1 p.2 (ints ((JT G (cq G o) W).take p.1))::bG 1 s4 (ints (G.M.list W.dq))::bG 1 s2 (ints (Ce (cq G o) W))::WrB l aa G sp st sw gw q W ((l.wa.zip Ws).eraseIdx j) sr zs (cq G o) s1 R)) (λp=>(G.M.list W.dq).length - p.1) (g:=(0,⟨none,0,0⟩)) ⟨rfl,af,rfl,h⟩ ?_;clear h;rintro⟨i,s5⟩ x w ⟨hx,hi,CD,h⟩ C hC;dsimp only at hx hi h CD ⊢;subst hx;by_cases hlt:i<(G.M.list W.dq).length
   ·refine bK (by simp;omega) ?_
    obtain⟨y,hy⟩:∃y,(G.M.list W.dq)[i]?=some y:=⟨_,iH hlt⟩;have aFt:=Sz.2.2.2.1 y (qn hy);have hr2:=hrow y.toNat af;rw[iZ]at hr2;refine vI (s:=s4) (vs:=ints (G.M.list W.dq)) h af (x:=y) (by rw[iZ];unfold ints;rw[l8,hy];rfl) ?_
    refine dZ λw h=> ?_;refine vI (s:=s1) (vs:=ints (cq G o)) h aFt.1 hr2 ?_;refine vO λgx w h=> ?_;obtain⟨gn,j7⟩:∃n,n=gx:=⟨_,rfl⟩;subst j7;have Y8:((JT G (cq G o) W).take i).length=i:=by rw[List.length_take];simp[JT];omega
    have hyr:(JT G (cq G o) W)[i]?=some ((cq G o).getD y.toNat 0):=by unfold JT;rw[l8,hy];rfl
    refine I9 (s:=s5) (vs:=ints ((JT G (cq G o) W).take i)) h an0 aZ rfl (by simp only[ints,List.length_map,Y8];omega) af λs3 w h hn=> ?_
    simp only[ints,List.length_map,Y8]at hn;refine dZ λw h=> ?_;have h:=h.zm 0;refine hC (i+1,s3) _ _ ⟨?_,af,hn,?_⟩ (by simp only;omega)
    ·rw[kg ⟨af,af⟩];simp only;omega
    ·have e:ints ((JT G (cq G o) W).take (i+1))=ints ((JT G (cq G o) W).take i)++[.int .i64 ((cq G o).getD y.toNat 0)]:=by rw[List.take_add_one,hyr];simp[ints]
     rw[e];exact h
   ·refine aU (by simp;omega) ?_
    have e:(JT G (cq G o) W).take i=JT G (cq G o) W:=List.take_of_length_le (by simp[JT];omega)
    rw[e]at h;exact hJ _ _ ⟨_,h⟩
  clear h;rintro _ w ⟨s5,h⟩;refine cX ?_;refine Jw rfl rfl ?_;refine vO λgx w h=> ?_;obtain⟨gn,j7⟩:∃n,n=gx:=⟨_,rfl⟩;subst j7;have hln:=pg (sz:=4) (s:=sr) (es:=zs.map (tQ l G)) h;have hzl:zs.length=j:=by
   have:=congrArg List.length hz;rw[List.length_map,List.length_take]at this;omega
  have he:tQ l G (W,s2,s5)=[.bool on_,.bool pk_,.slice s2.a s2.n s2.c,.slice s5.a s5.n s5.c]:=by unfold tQ;rw[Dz,hpk]
  refine Z8 (sz:=4) (s:=sr) (es:=zs.map (tQ l G)) (e:=[.bool on_,.bool pk_,.slice s2.a s2.n s2.c,.slice s5.a s5.n s5.c]) h aFs aZ rfl af (by simp[Value.oneCell']) (by simp;omega) af λs' w h hn=> ?_
  rw[←he]at h;have h:=h.zm 0;have h:=h.zm 0;have h:=h.zm 1;have h:=h.fr 1;have h:St w0 w (Iq G (cq G o) (W,s2,s5)::_):=St.shut (A:=[bG 1 s2 (ints (Ce (cq G o) W)),bG 1 s5 (ints (JT G (cq G o) W))]) h;have h:=h.fr 12;have h:=h.bk 1;have h:=QV h;have h:=h.bk 11;have h:=ac8 hq h;have h:=WY h (kB.1 hos).1;rw[azC hos]at h;have h:=h.bk 13;refine hC (j+1,zs++[(W,s2,s5)]) _ _ ⟨?_,af,?_,?_⟩ (by simp only;omega)
  ·rw[kg ⟨af,af⟩];simp only;omega
  ·rw[List.map_append,hz,List.take_add_one,hW];rfl
  ·rw[List.map_append];exact h
 ·refine aU (by simp;omega) ?_
  have e:Ws.take j=Ws:=List.take_of_length_le af;rw[e]at hz;have h:=h.zm 12;have h:=h.bk 12;have h:=h.bk 12;exact hk _ _ _ hz (pE h)
end
def Pw(s:Sl):List dB:=[⟨0,s,[[16,0,0,0,0]]⟩]
def mw:Lm:=⟨1,0,65536,1048576,1000,3⟩
def afL(G:Gl):Bool:=(match G.T with|[t]=>decide (t.parent= -1)&&t.kids.isEmpty|_=>false)&&decide (G.ts.length=1)&&(decide ((G.tk 0).scopes.length≤1)&&(G.tk 0).scopes.all λx:Int=>decide (0≤x∧x<(G.C.length:Nat)))
def oR:List (Int×Int):=[(0, -1)]
def runN(l:Lc)(P:List dB):Nat→Gl→List Wk→Option (Gl×List Wk)
 |0,_,_=>none
 |n+1,G,Ws=>bif afL G then(bif Cs G Ws then some (G,Ws)else bif decide (G.err=0)then runN l P n (SA l P G Ws oR 0 0).1.1 (SA l P G Ws oR 0 0).1.2 else none)else none
theorem adL{G:Gl}{l:Lc}{ro:List Ro}(hT:Ty l ro G)(h:afL G=true):SM G oR∧∀x∈da G oR,0≤x∧x<G.C.length:=by
 unfold afL at h;simp only[iY,decide_eq_true_eq,tL]at h;obtain⟨⟨h1,h2⟩,h3,h4⟩:=h;have hl:da G oR=0::(G.tk 0).scopes:=by
  unfold da oR;simp
 have hT1:∃t,G.T=[t]∧t.parent= -1∧t.kids=[]:=by
  split at h1
  ·rename_i t e;simp at h1;exact⟨t,e,h1.1,by simpa using h1.2⟩
  ·cases h1
 obtain⟨t,e,hp,hk⟩:=hT1;refine⟨⟨λi x hx=> ?_,e7,?_,λp hp=> ?_,by rw[hl];simp;omega⟩,λx hx=> ?_⟩
 ·rw[e]at hx;match i,hx with
  |0,hx=>cases hx;rw[hk];simp
  |i+1,hx=>simp at hx
 ·rw[e];rw[if_neg bf];unfold oR;rw[←hp];refine Dfs.cons (t:=t) rfl ?_;rw[hk];exact .nil
 ·simp[oR]at hp;subst hp;exact⟨e7,by show(0:Int)< _;omega⟩
 ·rw[hl]at hx;have:=hT.c1;rcases List.mem_cons.1 hx with rfl|hx
  ·omega
  ·exact h4 x hx
section
variable {w0 w:World} {L R:List HP} {l:Lc} {P:List dB} {bw:List Int} {ro:List Ro} {aa:List Nat} {G:Gl} {Ws:List Wk} {n:Nat}
theorem aqJ{k:Int→ap}{times:Int}{r:Gl×List Wk}(hF:iA w0 l.ps P)(hT:TZ w0)(ht:(n:Int)≤times)(ht2:times≤1000000)(hI:IV l P bw ro G Ws)(hr:runN l P n G Ws=some r)(h:qK w0 w l aa G Ws R)
  (hk:∀z JI iT w',IV l P bw iT r.1 r.2→afL r.1=true→qK w0 w' l JI r.1 r.2 R→k z w'):iF (some ⟨l.gs,0,none⟩) 1 times w k:=by
 unfold iF xj;refine DN (G:=Nat×Gl×List Wk×List Nat×List Ro) (λq x w=>(0≤x.2∧x.2+q.1≤times)∧IV l P bw q.2.2.2.2 q.2.1 q.2.2.1∧runN l P q.1 q.2.1 q.2.2.1=some r∧qK w0 w l q.2.2.2.1 q.2.1 q.2.2.1 R) (λq=>q.1) (g:=(n,G,Ws,aa,ro)) ⟨⟨by show(0:Int)≤0;decide,by show(0:Int)+n≤_;omega⟩,hI,hr,h⟩ ?_
 clear h hr hI;rintro⟨n,G,Ws,aa,ro⟩ ⟨x1,x2⟩ w ⟨hx,hI,hr,h⟩ C hC;dsimp only at hx hI hr h ⊢;cases n with
 |zero=>cases hr
 |succ n=>
  unfold runN at hr;cases h1:afL G with
  |false=>rw[h1]at hr;cases hr
  |true=>
   rw[h1]at hr;obtain⟨ho,hs⟩:=adL hI.ty h1;refine bP (fun(b:Bool) w=>b=(!Cs G Ws&&decide (G.err=0))∧qK w0 w l aa G Ws R) (λJ hJ=> ?_) ?_
   ·refine bK (by simp;omega) ?_
    refine adG hI h λw h=> ?_;cases hq:Cs G Ws with
    |true=>exact aU rfl (hJ _ _ ⟨by rw[hq];rfl,h⟩)
    |false=>
     refine bK rfl ?_;refine ahK h λw h=> ?_;exact hJ _ _ ⟨by rw[hq];rfl,h⟩
   clear h;rintro _ w ⟨rfl,h⟩;cases hq:Cs G Ws with
   |true=>
    rw[hq]at hr;cases hr
    exact aU rfl (hk _ aa ro w hI h1 h)
   |false=>
    rw[hq]at hr;by_cases he:G.err=0;rotate_left
    ·have hf:decide (G.err=0)=false:=by simp[he]
     rw[hf]at hr;cases hr
    have hf:decide (G.err=0)=true:=by simp[he]
    rw[hf]at hr ⊢;have hr:runN l P n (SA l P G Ws oR 0 0).1.1 (SA l P G Ws oR 0 0).1.2=some r:=hr;refine bK rfl ?_;refine⟨2,?_⟩;unfold jV;refine bK rfl ?_;refine aFl hI hF hT ho hs h λJI w h=> ?_;unfold jV;refine aU rfl ?_;obtain⟨iT,hI'⟩:=awe (kind:=0) (n:=0) hI hs;refine hC (n,_,_,JI,iT) _ _ ⟨?_,hI',hr,h⟩ (by dsimp only;omega)
    dsimp only;rw[dh ⟨af,af⟩];push_cast at hx;omega
end
theorem ran{a:Ad}{ps sc:Sl}{gw:Nat}:(runN (gJ a ps mw [gw]) (Pw sc) 60 (eY mw) (Bd mw)).map (λr:Gl×List Wk=>(r.1.err,r.1.ts.length,cq r.1 oR,Yn r.1 oR,Cs r.1 r.2))=some (0,1,[0],[AO (-1) 0 0 2 0 1 (ByteArray.mk #[])],true):=by kernel_rfl
open Ck (oW qx my tj Su qf mZ)
def aW:List (List Int):=[[16,0,0,0,0]]
theorem azE:qx aW 0=[0]:=(Ck.ajo (l:=aW) (aX:=0) 1 e7 e7 aZ).trans aZ
theorem aoe(s:Sl):tj (Pw s)=(0,0,0):=Ck.alH (s:=s) (l:=aW) (r:=none) azE aZ aZ
theorem azF(s:Sl):oW (Pw s):=Ck.afq.1 (by rw[aoe])
theorem aCM(s:Sl):Su (tj (Pw s))=[0,0,0]:=by rw[aoe];rfl
theorem awo:mw.OK:=⟨e7,e7,e7,e7,e7,e7⟩
theorem akf:mw.total≤mw.cells∧mw.cells≤65536∧mw.n=1:=⟨of_decide_eq_true aZ,of_decide_eq_true aZ,aZ⟩
theorem aFu{a:Ad}{ps sc:Sl}{gw:Nat}:∃r:Gl×List Wk,runN (gJ a ps mw [gw]) (Pw sc) 60 (eY mw) (Bd mw)=some r∧r.1.err=0∧r.1.ts.length=1∧cq r.1 oR=[0]∧Yn r.1 oR=[AO (-1) 0 0 2 0 1 (ByteArray.mk #[])]∧Cs r.1 r.2=true:=by
 have h:=ran (a:=a) (ps:=ps) (sc:=sc) (gw:=gw);generalize runN (gJ a ps mw [gw]) (Pw sc) 60 (eY mw) (Bd mw)=x at h ⊢;cases x with
 |none=>cases h
 |some r=>
  have h:=Option.some.inj h;simp only[Prod.mk.injEq]at h;exact⟨r,rfl,h⟩
theorem TZ.ext{w w':World}(h:TZ w)(he:Ext w w'):TZ w':=λi hi=>Ext.cell he (h i hi)
theorem aqK{w:World}{g sz:Nat}{l:List Value}{n:Nat}(hb:pN w g l.toArray)(hn:l.length=n*sz)(c:Nat):Hj sz w ⟨some ⟨g,0,none⟩,n,c⟩ l:=
 ⟨hn,λi v hv=>⟨_,rfl,by rw[dg,hb.cell];simpa using hv⟩⟩
theorem azG{w:World}{ga gf c1 c3:Nat}(AR:pN w ga (eZ aW.flatten))(hb:pN w gf #[.int .i64 0,.slice (some ⟨ga,0,none⟩) 1 c1]):iA w ⟨some ⟨gf,0,none⟩,1,c3⟩ (Pw ⟨some ⟨ga,0,none⟩,1,c1⟩):=by
 have h5:∀x∈aW,x.length=5∧∀y∈x,sy y:=e7;refine⟨Ck.auC (aqK (n:=1) hb rfl _) e7 (by intro e he;simp[dB.cells,Pw]at he;subst he;rfl),λx hx=> ?_,by simp[reachBytes,Pw]⟩
 simp[Pw]at hx;subst hx;refine⟨(by decide:sy 0),Ck.apE (l:=aW) AR h5 (λi hi j hj=> ?_) (by simp[reachBytes,aW])⟩
 rw[Nat.zero_add,Ck.Tc (λe he=>(h5 e he).1) (e:=aW.getD i []) (by simp[hi]) hj]
theorem aof(r:List Value)(p a b c d e:Int)(t:ByteArray){k:Bool→Prop}(hk:k true):Tj ([(0,0)] ++([(1,0)] ++([(2,0)] ++([(3,0)] ++([(4,0)] ++([(5,0)] ++([(6,2)] ++[]))))))) (AO p a b c d e t).toArray (AO p a b c d e t).toArray k:=by
 unfold Tj;have:oZ (AO p a b c d e t).toArray (AO p a b c d e t).toArray ([(0,0)] ++([(1,0)] ++([(2,0)] ++([(3,0)] ++([(4,0)] ++([(5,0)] ++([(6,2)] ++[])))))))=some true:=by
  simp[oZ,eqC,AO]
 rw[this];exact hk
section
variable {w0 w:World} {L R:List HP}
theorem adM{b s:Int}{k:Array Value→ap}(h:St w0 w L)(hk:∀w',St w0 w' L→k (lmA ⟨b,s,65536,1048576,1000,3⟩) w'):dc b s w k:=by
 unfold dc;refine aM h λg w h=> ?_;refine dZ λw h=> ?_;exact hk _ h.drop
theorem azH{ps sc:Sl}{k:Bool→ap}(hT:TZ w0)(hF:iA w0 ps (Pw sc)){a:Ad}{wa aa:List Nat}(A7:wa.length=1)(h:qK w0 w (gJ a ps mw wa) aa (eY mw) (Bd mw) [])
  (hk:∀w',Ext w0 w'→k true w'):iF (some ⟨a.gs,0,none⟩) 1 9000 w λi w33=>cA (some ⟨a.gs,0,none⟩) w33 λb34 w35=>an b34 (cS (some ⟨a.gs,0,none⟩) w35 λi36 w37=>an (i36==(0:Int)) (dD (some ⟨a.gs,0,none⟩) w37 λs38 w39=>
   kT #[(.int .i64 (0:Int)),(.int .i64 (0:Int)),(.int .i64 (0:Int)),(.int .i64 (0:Int)),(.int .i64 (0:Int)),(.int .i64 (0:Int)),(.string (ByteArray.mk #[]))] 0 7 #[(.int .i64 (-(1:Int))),(.int .i64 (0:Int)),(.int .i64 (0:Int)),(.int .i64 (2:Int)),(.int .i64 (0:Int)),(.int .i64 (1:Int)),(.string (ByteArray.mk #[]))] λcs40=>
    aE w39 cs40 49 λa41 w42=>dF s38 (Sl.mk (some a41) 1 1) w42 λb43 w44=>(k b43 w44)) ((k false w37))) ((k false w35)):=by
 obtain⟨gw,rfl⟩:∃gw,wa=[gw]:=by
  match wa,A7 with
  |[gw],_=>exact⟨gw,rfl⟩
 have hI:=awf (a:=a) (ps:=ps) (wa:=[gw]) awo akf.1 akf.2.1 akf.2.2.symm (azF sc);obtain⟨r,hr,e1,e2,e3,e4,e5⟩:=aFu (a:=a) (ps:=ps) (sc:=sc) (gw:=gw);generalize eY mw=G0 at hI hr h;generalize Bd mw=W0 at hI hr h;refine aqJ (l:=gJ a ps mw [gw]) (P:=Pw sc) (n:=60) hF hT (by show(60:Int)≤9000;decide) (by show(9000:Int)≤1000000;decide) hI hr h λz JI iT w hI h1 h=> ?_
 obtain⟨ho,hs⟩:=adL hI.ty h1;refine adG (l:=gJ a ps mw [gw]) hI h λw h=> ?_;rw[e5];refine bK rfl ?_;refine ahK (l:=gJ a ps mw [gw]) h λw h=> ?_;rw[e1];refine bK rfl ?_;refine akd (l:=gJ a ps mw [gw]) hI ho (λp hp=>by simp[oR]at hp;subst hp;show(-1:Int)< _;omega) (λx hx=>by rw[e3]at hx;simp at hx;subst hx;omega) h λs w h=> ?_
 rw[e4]at h;refine qL (AO (-1) 0 0 2 0 1 (ByteArray.mk #[])).toArray rfl aZ ?_;refine aM h λg w h=> ?_;have h:=Yc (sz:=7) h rfl (by intro v hv;simp[AO]at hv;rcases hv with rfl|rfl|rfl|rfl|rfl|rfl<;>rfl)
 have hn:=(pg (sz:=7) (s:=s) (es:=[AO (-1) 0 0 2 0 1 (ByteArray.mk #[])]) h).2 e7;have hn:s.n=1:=hn.symm;unfold dF;rw[hn];refine aU rfl ?_;refine⟨2,?_⟩;unfold jV;refine bK rfl ?_;refine dZ λw h=> ?_;refine rA (sz:=7) (s:=s) (es:=[AO (-1) 0 0 2 0 1 (ByteArray.mk #[])]) (e:=AO (-1) 0 0 2 0 1 (ByteArray.mk #[])) h e7 rfl e7 ?_;refine rA (sz:=7) (s:=⟨some ⟨g,0,none⟩,1,1⟩) (es:=[AO (-1) 0 0 2 0 1 (ByteArray.mk #[])]) (e:=AO (-1) 0 0 2 0 1 (ByteArray.mk #[])) h e7 rfl e7 ?_;refine aof [] _ _ _ _ _ _ _ (aU rfl ?_);unfold jV;refine aU rfl ?_;exact hk _ h.ext
theorem aCN{w1:World}{ps sc:Sl}{k:Option Addr×Int→ap}(hF:iA w1 ps (Pw sc))(hk:∀(a:Ad) (wa aa:List Nat) w',wa.length=1→qK w1 w' (gJ a ps mw wa) aa (eY mw) (Bd mw) []→k (some ⟨a.gs,0,none⟩,0) w'):kF #[.slice ps.a ps.n ps.c] (lmA mw) w1 k:=
 ahh (m:=mw) hF (.nil w1) (λ_ _ _ a wa aa w' A7 h=>hk a wa aa w' (A7.trans akf.2.2) h) (λq=>(q (aCM sc)).elim) (λ_ q=>(q awo).elim) λ_ _ q=>(q akf.1).elim
theorem awp{k:Int→ap}(h:k 9000 w):sA 1 1 1 w k:=aU rfl h
theorem awq{k:Bool→ap}(hT:TZ w0)(hk:∀w',Ext w0 w'→k true w'):iv w0 k:=by
 unfold iv yZ;refine qL (eZ aW.flatten) rfl aZ ?_;refine aM (.nil w0) λg2 w h=>aM h λg4 w h=> ?_;refine dZ λw h=> ?_;refine bP (fun(x:Option Addr×Int) w'=> ∃w1 ps sc,∃(a:Ad) (wa aa:List Nat),x=(some ⟨a.gs,0,none⟩,0)∧Ext w0 w1∧iA w1 ps (Pw sc)∧wa.length=1∧qK w1 w' (gJ a ps mw wa) aa (eY mw) (Bd mw) []) (λJ hJ=> ?_) ?_
 ·have ab4:∀(w:World) (gx:Nat) (L:List HP) (f1 f2:HP→List HP) (h:St w0 w L) (a1:At L (au g2) (eZ aW.flatten).toList f1) (a2:At L (au gx) [.int .i64 0,.slice (some ⟨g2,0,none⟩) 1 1] f2),kF #[.slice (some ⟨gx,0,none⟩) 1 1] (lmA mw) w λx w=>J (x.1,x.2) w:=by
   intro w gx L f1 f2 h a1 a2;have hF:=azG (c1:=1) (c3:=1) (h.au (g:=g2)) (h.au (g:=gx));refine aCN hF λa wa aa w' A7 h'=> ?_;exact hJ _ _ ⟨_,_,_,a,wa,aa,rfl,h.ext,hF,A7,h'⟩
  with_reducible repeat' (first|refine cH h λw h=> ?_|refine Vh h ?_|refine sR h ?_|refine y8 ?_ ?_|refine adM h λw h=> ?_|fail)
  ·refine qL #[.int .i64 0,.slice (some ⟨g2,0,none⟩) 1 1] rfl aZ ?_;with_reducible repeat' (first|refine aM h λgx w h=> ?_|refine sR h ?_|refine y8 ?_ ?_|refine adM h λw h=> ?_|fail)
   all_goals exact ab4 _ _ _ _ _ h inferInstance inferInstance
  ·refine qL #[.int .i64 0,.slice (some ⟨g2,0,none⟩) 1 1] rfl aZ ?_;refine vO λgx w h=> ?_;exact ab4 _ _ _ _ _ h inferInstance inferInstance
 clear h;rintro _ w ⟨w1,ps,sc,a,wa,aa,rfl,he,hF,A7,h⟩;refine aU rfl ?_;refine awp ?_;exact azH (hT.ext he) hF A7 h λw' hx=>hk w' (he.trans hx)
end
end Go.Proofs.YthidhjhkmjjckaaGreatDoor
namespace Go.Proofs.YthidhjhkmjjckaaGreatDoor
open Go Go.Ev Go.Proofs
open Ko (ni CK)
open Ck (oW qx my tj Su qf mZ Few)
theorem one_le{m:Lm}(hm:m.OK):m.one≤7:=by
 have hl:=hm.log;unfold Lm.one Lm.lg EX;have:∀x:Int,0≤x→x≤8→(3:Int)+2 ^ (if x<2 then x else 2).toNat≤7:=by
  intro x h0 h8;rcases (by omega:x=0∨x=1∨2≤x)with rfl|rfl|h
  ·decide
  ·decide
  ·rw[if_neg af];decide
 exact this _ hl.1 hl.2
section
variable {w0 w:World} {L R:List HP} {m:Lm} {ps:Sl} {P:List dB} {g1 g3 g5:Nat} {f1 f3 f5:HP→List HP} {b0 b1 b2:Int}
end
theorem aqL:∀n,n<17→∀i,i<64→tD (2 ^ n - 1) ((i:Nat):Int)=decide (i<n):=by decide+kernel
theorem aqM:∀n,n<17→aF .i64 (sD .i64 1 ((n:Nat):Int) - 1)=2 ^ n - 1:=by decide+kernel
theorem aqN{n:Nat}(hn:n≤16)(i:Int):tD (2 ^ n - 1) i=decide (0≤i∧i<n):=by
 by_cases h:0≤i∧i<64
 ·obtain⟨j,rfl⟩:∃j:Nat,i=j:=⟨i.toNat,af⟩;rw[aqL n af j af];by_cases hj:j<n
  ·rw[decide_eq_true hj,decide_eq_true af]
  ·rw[decide_eq_false hj,decide_eq_false af]
 ·rw[decide_eq_false af];unfold tD;rw[if_neg (by simpa using h)]
def afM(l:Lc)(G:Gl)(i:Int):Int:=if 0≤i∧i<l.wa.length then G.M.steps.getD i.toNat 0 else 0
section
variable {w0 w:World} {L R:List HP} {l:Lc} {P:List dB} {bw:List Int} {ro:List Ro} {aa:List Nat} {G:Gl} {Ws:List Wk} {n:Int} {o:List (Int×Int)} {f:HP→List HP} {ps sc:Sl} {b s lg:Int}
theorem amv{i:Int}{k:Int→ap}(hI:IV l P bw ro G Ws)(h:qK w0 w l aa G Ws R)(hk:∀w',qK w0 w' l aa G Ws R→k (afM l G i) w'):j9 (some ⟨l.gs,0,none⟩) i w k:=by
 have awg:=hI.lc.w16;obtain⟨sp,st,sw,h⟩:=rO h;have hn5:=qY (s:=sw) (vs:=l.wa.map pt) h;rw[List.length_map]at hn5;unfold j9 CY;refine bP (λb w=>b= !(decide (0≤i∧i<l.wa.length))∧St w0 w (SL l aa G (jO (pH l aa) (l.wa.zip Ws)::R) sp st sw)) (λJ hJ=> ?_) ?_
 ·refine aU rfl ?_;unfold nX;refine cX ?_;refine Gf af ?_;rw[hn5,aqM _ af];refine ag6 ?_;rw[aqN awg];exact hJ _ _ ⟨rfl,h⟩
 clear h;rintro _ w ⟨rfl,h⟩;refine ax (λhb=> ?_) λhb=> ?_
 ·have hb:¬(0≤i∧i<l.wa.length):=by simp at hb;omega
  have e:afM l G i=0:=if_neg hb;rw[e]at hk;exact hk _ (pE h)
 ·have hb:0≤i∧i<l.wa.length:=by simpa using hb
  have e:afM l G i=G.M.steps.getD i.toNat 0:=if_pos hb;rw[e]at hk;refine cX ?_;refine as6 (M:=G.M) h ?_;rw[if_pos (Ga hI.ty.stp af af)];exact hk _ (pE h)
structure UZ (P:List dB) (b s lg:Int) (sc:Sl):Prop where
 Zs:Few P
 b1:1≤b
 s0:0≤s
 b8:b≤8
 s8:s≤8 - b
 l0:0≤lg
 l5:lg≤5
 n:sc.n≤300
 acc:Su (tj P)=[0,0,0]
abbrev U0(ps sc:Sl)(b s lg:Int):Array Value:=#[.slice ps.a ps.n ps.c,.int .i64 b,.int .i64 s,.int .i64 lg,.slice sc.a sc.n sc.c]
abbrev MO(b s lg:Int):Lm:=⟨b,s,65536,1048576,1000,lg⟩
theorem UZ.ok(h:UZ P b s lg sc):(MO b s lg).OK:=by
 have h1:=h.b1;have h2:=h.s0;have h3:=h.b8;have h4:=h.s8;have h5:=h.l0;have h6:=h.l5;exact⟨⟨h1,by show b≤16;omega⟩,⟨h2,by show s≤16 - b;omega⟩,⟨by show(1:Int)≤65536;decide,by show(65536:Int)≤1048576;decide⟩,⟨by show(0:Int)≤1048576;decide,by show(1048576:Int)≤1048576;decide⟩,⟨by show(1:Int)≤1000;decide,by show(1000:Int)≤1000;decide⟩,⟨h5,by show lg≤8;omega⟩⟩
theorem UZ.tot(h:UZ P b s lg sc):(MO b s lg).total≤(MO b s lg).cells:=by
 have h1:=h.b1;have h2:=h.s0;have h3:=h.b8;have h4:=h.s8;have hn:(MO b s lg).n≤8:=by unfold Lm.n;show(b+s).toNat≤8;omega
 have:=one_le h.ok;have h5:((MO b s lg).n:Int)*(MO b s lg).one≤(MO b s lg).n*7:=Int.mul_le_mul_of_nonneg_left this af;unfold Lm.total;show _≤(65536:Int);omega
theorem azI{k:Bool→ap}(hF:iA w0 ps P)(h:St w0 w L)(hk:∀b' w',St w0 w' L→(b'=true→UZ P b s lg sc)→k b' w'):lC (U0 ps sc b s lg) w k:=by
 unfold lC BO;refine aM h λg w h=> ?_;have hno:∀w',St w0 w' (au g (U0 ps sc b s lg).toList::L)→k false w':=λw' h=>hk _ _ h.drop λq=>by cases q
 refine cX ?_;refine Ck.aBR (P:=P) (ps:=ps) (hF.ext h.ext) λb1 w' hx hb=> ?_;have h:=h.on hx.ext;clear hx;refine ax (λc0=> ?_) λ_=>hno _ h;refine cX ?_;refine ax (λc1=> ?_) λ_=>hno _ h;refine cX ?_;refine ax (λc2=> ?_) λ_=>hno _ h;refine cX ?_;refine ax (λc3=> ?_) λ_=>hno _ h;simp only[decide_eq_true_eq]at c1 c2 c3;refine cX ?_;rw[show aF .i64 (8 - b)=8 - b from dh ⟨af,af⟩];refine ax (λc4=> ?_) λ_=>hno _ h;refine cX ?_;refine ax (λc5=> ?_) λ_=>hno _ h;refine cX ?_;refine ax (λc6=> ?_) λ_=>hno _ h;refine cX ?_;refine ax (λc7=> ?_) λ_=>hno _ h;simp only[decide_eq_true_eq]at c4 c5 c6 c7;refine cX ?_;refine Ck.adg (P:=P) (ps:=ps) (hF.ext h.ext) λw' hx=> ?_;have h:=h.on hx.ext;refine hk _ _ h.drop λq=>⟨hb c0,c1,c2,c3,c4,c5,c6,af,by simpa using q⟩
theorem azJ{k:Array Value→ap}(h:St w0 w L)(hk:∀w',St w0 w' L→k (lmA (MO b s lg)) w'):fL (U0 ps sc b s lg) w k:=by
 unfold fL sZ;refine aM h λg1 w h=>aM h λg3 w h=> ?_;with_reducible repeat' (first|refine Iy h ?_|refine Vh h ?_|refine Hq h λw h=> ?_|refine QU h λw h=> ?_|refine aM h λgx w h=> ?_|refine adM h λw h=> ?_|fail)
 exact hk _ h.drop.drop.drop
theorem azK{k:Option Addr→ap}(hF:iA w0 ps P)(hf:UZ P b s lg sc)(h:St w0 w R)(hk:∀a wa aa w',wa.length=(MO b s lg).n→qK w0 w' (gJ a ps (MO b s lg) wa) aa (eY (MO b s lg)) (Bd (MO b s lg)) R→k (some ⟨a.gs,0,none⟩) w'):kJ (U0 ps sc b s lg) w k:=by
 unfold kJ AJ;refine aM h λg1 w h=> ?_;refine dZ λw h=> ?_;refine azJ (b:=b) (s:=s) (lg:=lg) (ps:=ps) (sc:=sc) h λw h=> ?_;with_reducible repeat' (first|refine nP h ?_|fail)
 refine ahh (m:=MO b s lg) (ps:=ps) (P:=P) hF h.drop (λ_ _ _ a wa aa w' A7 h=> ?_) (λq=>(q hf.acc).elim) (λ_ q=>(q hf.ok).elim) λ_ _ q=>(q hf.tot).elim;exact aU rfl (hk a wa aa w' A7 h)
end
theorem aog{a b:Array Value}{aAs:List (Nat×Nat)}{k:Bool→Prop}(h:oZ a b aAs=some true)(hk:k true):Tj aAs a b k:=by
 unfold Tj;rw[h];exact hk
section
variable {w0 w:World} {L R:List HP} {l:Lc} {P:List dB} {bw:List Int} {ro:List Ro} {aa:List Nat} {G:Gl} {Ws:List Wk} {n:Int} {o:List (Int×Int)} {f f2:HP→List HP} {ps sc s1 s2:Sl} {b s lg:Int}
theorem IV.aFv(hI:IV l P bw ro G Ws){W:Wk}(hW:W∈Ws):awm G W:=by
 obtain⟨i,hi⟩:=List.getElem?_of_mem hW;have hw:=hI.w i W hi;have hd:ZH ro i W.dq:=by rw[hw.dq];exact hI.dq i hw.lt
 have hl:=hI.ty.len;have pk:∀{a:Int} {r:Ro},k9 ro a r→G.M.k8 a=G.M.get a:=λh=>by unfold bJ.k8;rw[if_pos (h.given hl)]
 have hr:=hI.ty.ring hd;have ZK:Rg.of (G.M.k8 (W.dq+2))=o6 G.M W.dq:=by rw[pk hd.Uw];rfl
 have hsz:=size_le (o6 G.M W.dq);have hlen:(G.M.list W.dq).length≤256∧∀x∈G.M.list W.dq,0≤x∧x<G.ts.length:=by
  unfold bJ.list;rw[ZK];split
  ·rename_i h;refine⟨?_,λx hx=> ?_⟩
   ·unfold bJ.Cn;rw[List.length_map,List.length_range];omega
   ·unfold bJ.Cn at hx;obtain⟨k,_,rfl⟩:=List.mem_map.1 hx;have hp:=hr.place (G.M.k8 W.dq+(k:Int));rw[pk hp];exact hI.ty.val _ _ hp
  ·exact⟨bf,λx hx=>by cases hx⟩
 have h1:=hI.ty.val _ _ hd.top;have h2:=hI.ty.val _ _ hd.bot;refine⟨by rw[pk hd.top];exact h1,by rw[pk hd.bot];exact h2,?_,hlen.2,af⟩
 have h3:=hd.top.lt;have h4:=hd.top.1;rw[hl]at h3;have:=hI.ty.ok.fit;have:=hI.ty.ok.size;exact⟨h4,af⟩
theorem awr{es:List (List Value)}{k:Bool→ap}(h:St w0 w L)[a:At L (rws 7 s1) es f][a2:At L (rws 7 s2) es f2](hr:∀e∈es,∃p q r x v st t,e=AO p q r x v st t)(hl:es.length≤1000000)
  (hk:∀w',St w0 w' L→k true w'):dF s1 s2 w k:=by
 have h1:=(pg (sz:=7) (s:=s1) (es:=es) h).2 e7;have h2:=(pg (sz:=7) (s:=s2) (es:=es) h).2 e7;unfold dF;refine aU (by simp;omega) ?_
 refine DN (G:=Nat) (λj i w=>i=(j:Int)∧j≤es.length∧St w0 w L) (λj=>es.length - j) (g:=0) ⟨rfl,af,h⟩ ?_;clear h;rintro j i w ⟨rfl,hj,h⟩ C hC;by_cases hlt:j<es.length
 ·refine bK (by simp;omega) ?_
  obtain⟨e,he⟩:∃e,es[j]?=some e:=⟨_,iH hlt⟩;obtain⟨p,q,r,x,v,st,t,rfl⟩:=hr e (qn he);refine cH h λw h=> ?_;refine rA (sz:=7) (s:=s1) (es:=es) h af (by rw[iZ];exact he) e7 ?_
  refine rA (sz:=7) (s:=s2) (es:=es) h af (by rw[iZ];exact he) e7 ?_
  refine aof [] _ _ _ _ _ _ _ (aU rfl ?_);refine hC (j+1) _ _ ⟨?_,af,h⟩ af;rw[dh ⟨af,af⟩];omega
 ·refine aU (by simp;omega) ?_
  exact hk _ h
theorem aoh{r:List Int}{zs:List Wz}{i:Nat}{z:Wz}(h:St w0 w L)[a:At L (jO (Iq G r)) zs f](hz:zs[i]?=some z):z.2.1.n=(Ce r z.1).length∧z.2.2.n=(JT G r z.1).length:=by
 obtain⟨R,h1,_⟩:=a.out;have h3:St w0 w (jO (Iq G r) zs::R):=h1 h;have h2:St w0 w (bG 1 z.2.1 (ints (Ce r z.1))::bG 1 z.2.2 (ints (JT G r z.1))::jO (Iq G r) (zs.eraseIdx i)::R):=St.open (BW (X:=Iq G r) (l:=zs) (i:=i) (a:=z) h3 hz);have e1:=qY (s:=z.2.1) (vs:=ints (Ce r z.1)) h2;have e2:=qY (s:=z.2.2) (vs:=ints (JT G r z.1)) h2;simp only[ints,List.length_map]at e1 e2;exact⟨e1,e2⟩
theorem aCO{r:List Int}{zs:List Wz}{i:Nat}{z:Wz}{j x:Int}{c:Int→Prop}(h:St w0 w L)[a:At L (jO (Iq G r)) zs f](hz:zs[i]?=some z)(h0:0≤j)(hx:(JT G r z.1)[j.toNat]?=some x)(hc:c x):cN z.2.2 j 1 λa=>aJ .i64 w a c:=by
 obtain⟨R,h1,_⟩:=a.out;have h3:St w0 w (jO (Iq G r) zs::R):=h1 h;have h2:St w0 w (bG 1 z.2.1 (ints (Ce r z.1))::bG 1 z.2.2 (ints (JT G r z.1))::jO (Iq G r) (zs.eraseIdx i)::R):=St.open (BW (X:=Iq G r) (l:=zs) (i:=i) (a:=z) h3 hz);exact vI (s:=z.2.2) (vs:=ints (JT G r z.1)) h2 h0 (x:=x) (by unfold ints;rw[l8,hx];rfl) hc
end
theorem aqO(m:Lm):afL (eY m)=true:=by kernel_rfl
theorem OM(m:Lm):cq (eY m) oR=[0]:=by kernel_rfl
theorem adN(m:Lm):da (eY m) oR=[0,1]:=by kernel_rfl
theorem ahN(m:Lm):(eY m).P=[(-1,0,0,false),(0,0,0,false)]:=by kernel_rfl
theorem aws(m:Lm):∃fu,(eY m).tk 0=⟨0,0,1,fu,Fr.nF,ByteArray.mk #[],[],[1],0,0⟩:=⟨_,rfl⟩
theorem aoi(m:Lm):(eY m).ts.length=1∧(eY m).C.length=2:=⟨rfl,rfl⟩
def l0(m:Lm):Lc:=gJ ⟨0,0,0,0,0,0,0⟩ ⟨none,0,0⟩ m []
def awt(m:Lm):Bool:=
 decide ((eY m).K 0=0)&&decide ((eY m).M.get ((eY m).nd 0).at_=0)&&decide ((eY m).M.get (((eY m).nd 0).at_+1)=1)&&decide ((eY m).M.get ((eY m).nd 1).at_=0)&&decide ((eY m).M.get (((eY m).nd 1).at_+1)=0)&& !Cs (eY m) (Bd m)&&decide ((eY m).err=0)&&decide ((eY m).steps=0)&&decide ((eY m).time.1=0)&&
 (List.range m.n).all λi=>decide ((eY m).M.steps.getD i 0=0)&&(onF (l0 m) (eY m) (Wa i (sC m i))==decide ((i:Int)<m.base))&& !((Wa i (sC m i)).wait.parked (eY m).M 0)&&decide ((eY m).M.list (sC m i)=if i=0 then [0]else [])
theorem aqP:((List.range 9).all λb:Nat=>(List.range 9).all λs:Nat=>(List.range 6).all λlg:Nat=>b==0||(decide (8<b+s)||awt (MO b s lg)))=true:=by kernel_rfl
theorem UZ.B7{P:List dB}{b s lg:Int}{sc:Sl}(h:UZ P b s lg sc):awt (MO b s lg)=true:=by
 have h1:=h.b1;have h2:=h.s0;have h3:=h.b8;have h4:=h.s8;have h5:=h.l0;have h6:=h.l5;obtain⟨b',rfl⟩:∃n:Nat,b=n:=⟨b.toNat,af⟩;obtain⟨s',rfl⟩:∃n:Nat,s=n:=⟨s.toNat,af⟩;obtain⟨lg',rfl⟩:∃n:Nat,lg=n:=⟨lg.toNat,af⟩;have:=aqP;rw[tL]at this;have:=this b' (List.mem_range.2 af);rw[tL]at this;have:=this s' (List.mem_range.2 af);rw[tL]at this;have:=this lg' (List.mem_range.2 af);simp only[Bool.or_eq_true,beq_iff_eq,decide_eq_true_eq]at this;rcases this with h|h|h
 ·omega
 ·omega
 ·exact h
theorem UZ.aFw{P:List dB}{b s lg:Int}{sc:Sl}(h:UZ P b s lg sc):oW P:=Ck.afq.1 (by
 have:=h.acc;unfold Su at this;simp at this;exact this.2.2)
abbrev adO:List (List Value):=[[.int .i64 (-1),.int .i64 0,.int .i64 0,.bool false,.bool false,.int .i64 1],[.int .i64 0,.int .i64 0,.int .i64 0,.bool false,.bool false,.int .i64 0]]
section
variable {w0 w:World} {L R:List HP} {P:List dB} {ps sc:Sl} {b s lg:Int}
theorem amw(m:Lm)(hk:(eY m).K 0=0):Yn (eY m) oR=[AO (-1) 0 0 0 0 0 (ByteArray.mk #[])]:=by
 obtain⟨fu,ht⟩:=aws m;unfold Yn;rw[OM,(aoi m).1];have e:rowAt (eY m) [0] (0, -1)=AO (-1) 0 0 0 0 0 (ByteArray.mk #[]):=by
  unfold rowAt;rw[ahN];dsimp only;rw[show(0:Int).toNat=0 from rfl,hk,ht];rfl
 show Gc (eY m) [0] (dU 1 _) [(0, -1)]=_;unfold Gc;rw[e];rfl
theorem aqQ{k:Bool→ap}(hF:iA w0 ps P)(hT:TZ w0)(hk:∀w',Ext w0 w'→k true w'):qz (U0 ps sc b s lg) w0 k:=by
 unfold qz sB;have aw:∀{w:World} {L:List HP},St w0 w L→iv w k:=λh=>awq (hT.ext h.ext) λw' hx=>hk w' (h.ext.trans hx);refine aM (.nil w0) λg1 w h=> ?_;refine cX ?_;refine azI (P:=P) (ps:=ps) (b:=b) (s:=s) (lg:=lg) (sc:=sc) hF h λb' w h hb=> ?_;refine ax (λhb'=>aw h) λhb'=> ?_;have hf:=hb (by simpa using hb')
 clear hb hb';refine cX ?_;refine azK (P:=P) (ps:=ps) (b:=b) (s:=s) (lg:=lg) (sc:=sc) hF hf h λa wa aa w A7 h=> ?_;refine aU rfl ?_;have hI:=awf (a:=a) (ps:=ps) (wa:=wa) hf.ok hf.tot (by show(65536:Int)≤65536;decide) A7 hf.aFw
 obtain⟨ho,hs⟩:=adL hI.ty (aqO _);have awu:=hf.B7;have hmb:(MO b s lg).base=b:=rfl;have AR:=hf.b1;have hs0:=hf.s0;have hb8:=hf.b8;have hs8:=hf.s8;have hmn:((MO b s lg).n:Int)=b+s:=by unfold Lm.n;show((b+s).toNat:Int)=b+s;omega
 have hfu:(MO b s lg).fuel=1048576:=rfl;have hdp:(MO b s lg).deep≤1000000:=by show(1000:Int)≤1000000;decide
 clear hf;generalize MO b s lg=m at*
 unfold awt at awu;simp only[iY,decide_eq_true_eq,Bool.not_eq_true',tL,List.mem_range,beq_iff_eq]at awu;obtain⟨⟨⟨⟨⟨⟨⟨⟨⟨k0,c1⟩,c2⟩,c3⟩,c4⟩,q0⟩,e0⟩,st0⟩,t0⟩,hw⟩:=awu;have hn:=aoi m;have hsc:awk (eY m) oR:=by
  intro x hx;rw[adN]at hx;unfold O9;rw[ahN,hn.1,hn.2];simp at hx;rcases hx with rfl|rfl<;>decide
 have aFx:adK (eY m) oR=adO:=by
  unfold adK;rw[adN,OM];show [xy (eY m) [0] 0,xy (eY m) [0] 1]=_;unfold xy O9;rw[ahN,c1,c2,c3,c4];rfl
 refine Zu (l:=gJ a ps m wa) (o:=oR) hI ho hsc h λs11 w h=> ?_;rw[aFx]at h;have aFy:=(pg (sz:=6) (s:=s11) (es:=adO) h).2 e7;refine amu (l:=gJ a ps m wa) (o:=oR) hdp hI ho (λW hW=>hI.aFv hW) h λs13 zs w hz h=> ?_;have aFz:=(pg (sz:=4) (s:=s13) (es:=zs.map (tQ (gJ a ps m wa) (eY m))) h).2 e7;rw[List.length_map]at aFz;have hzn:zs.length=m.n:=by have:=congrArg List.length hz;rw[List.length_map,ZQ]at this;exact this
 have hat:∀(i:Nat) (z:Wz),zs[i]?=some z→i<m.n∧z.1=Wa i (sC m i):=λi z hi=>by
  have h1:(Bd m)[i]?=some z.1:=by rw[←hz,l8,hi];rfl
  exact adF h1
 have Sz:∀(i:Nat) (z:Wz),zs[i]?=some z→JT (eY m) (cq (eY m) oR) z.1=if i=0 then [0]else []:=λi z hi=>by
  obtain⟨h1,h2⟩:=hat i z hi;obtain⟨_,h3⟩:=hw i h1;unfold JT;rw[h2,OM];show((eY m).M.list (sC m i)).map _=_;rw[h3];split<;>rfl
 have aFA:∀(i:Nat) (z:Wz),zs[i]?=some z→Ce (cq (eY m) oR) z.1=[]:=λi z hi=>by rw[(hat i z hi).2];rfl
 refine bP (λb' w=>b'=false∧qK w0 w (gJ a ps m wa) aa (eY m) (Bd m) (rws 4 s13 (zs.map (tQ (gJ a ps m wa) (eY m)))::jO (Iq (eY m) (cq (eY m) oR)) zs::rws 6 s11 adO::[au g1 (U0 ps sc b s lg).toList])) (λJ hJ=> ?_) ?_
 ·refine aU (by rw[←aFy];rfl) ?_
  refine rA (sz:=6) (s:=s11) (es:=adO) h e7 rfl e7 ?_;refine aog (by rfl) (aU rfl ?_)
  refine rA (sz:=6) (s:=s11) (es:=adO) h e7 rfl e7 ?_;refine aog (by rfl) (aU rfl ?_)
  refine cX ?_;refine hJ _ _ ⟨?_,h⟩;rw[dh ⟨af,af⟩];simp;omega
 clear h;rintro _ w ⟨rfl,h⟩;refine aU rfl ?_;refine DN (G:=Nat) (λj i w=>i=(j:Int)∧j≤zs.length∧qK w0 w (gJ a ps m wa) aa (eY m) (Bd m) (rws 4 s13 (zs.map (tQ (gJ a ps m wa) (eY m)))::jO (Iq (eY m) (cq (eY m) oR)) zs::rws 6 s11 adO::[au g1 (U0 ps sc b s lg).toList])) (λj=>zs.length - j) (g:=0) ⟨rfl,af,h⟩ ?_;clear h;rintro j i w ⟨rfl,hj,h⟩ C hC;by_cases hlt:j<zs.length
 ·refine bK (by simp;omega) ?_
  obtain⟨z,hzj⟩:∃z:Wz,zs[j]?=some z:=⟨_,iH hlt⟩;obtain⟨hjn,hzW⟩:=hat j z hzj;obtain⟨⟨⟨w1,w2⟩,w3⟩,w4⟩:=hw j hjn;have Dz:onF (gJ a ps m wa) (eY m) z.1=decide ((j:Int)<b):=by rw[hzW,←hmb];exact w2
  have hpk:z.1.wait.parked (eY m).M 0=false:=by rw[hzW];exact w3
  have hrow:(zs.map (tQ (gJ a ps m wa) (eY m)))[((j:Nat):Int).toNat]?=some (tQ (gJ a ps m wa) (eY m) z):=by rw[iZ,l8,hzj];rfl
  refine bP (λb' w=>b'=false∧qK w0 w (gJ a ps m wa) aa (eY m) (Bd m) (rws 4 s13 (zs.map (tQ (gJ a ps m wa) (eY m)))::jO (Iq (eY m) (cq (eY m) oR)) zs::rws 6 s11 adO::[au g1 (U0 ps sc b s lg).toList])) (λJ hJ=> ?_) ?_
  ·refine cH h λw h=> ?_;refine rB (sz:=4) (s:=s13) (es:=zs.map (tQ (gJ a ps m wa) (eY m))) h af hrow (x:=onF (gJ a ps m wa) (eY m) z.1) rfl ?_;refine cX ?_;refine aU (by rw[Dz];simp) ?_
   refine rB (sz:=4) (s:=s13) (es:=zs.map (tQ (gJ a ps m wa) (eY m))) h af hrow (x:=z.1.wait.parked (eY m).M 0) rfl ?_;refine aU hpk ?_;obtain⟨l1,l2⟩:=aoh (G:=eY m) (r:=cq (eY m) oR) h hzj;rw[aFA j z hzj]at l1;rw[Sz j z hzj]at l2;refine rS (sz:=4) (s:=s13) (es:=zs.map (tQ (gJ a ps m wa) (eY m))) h af hrow (p:=z.2.1.a) (m:=z.2.1.n) (k:=z.2.1.c) rfl ?_;refine aU (by rw[l1];rfl) ?_
   refine rS (sz:=4) (s:=s13) (es:=zs.map (tQ (gJ a ps m wa) (eY m))) h af hrow (p:=z.2.2.a) (m:=z.2.2.n) (k:=z.2.2.c) rfl ?_;refine aU (by rw[l2];by_cases h0:j=0<;>simp[h0]) ?_
   refine amv (l:=gJ a ps m wa) hI h λw h=> ?_;refine hJ _ _ ⟨?_,h⟩;unfold afM;rw[iZ,w1];simp
  clear h;rintro _ w ⟨rfl,h⟩;refine aU rfl ?_;refine hC (j+1) _ _ ⟨?_,af,h⟩ af;rw[dh ⟨af,af⟩];omega
 ·refine aU (by simp;omega) ?_
  obtain⟨z,HA⟩:∃z:Wz,zs[0]?=some z:=⟨_,iH af⟩;have hrow:(zs.map (tQ (gJ a ps m wa) (eY m)))[(0:Int).toNat]?=some (tQ (gJ a ps m wa) (eY m) z):=by rw[show(0:Int).toNat=0 from rfl,l8,HA];rfl
  obtain⟨l1,l2⟩:=aoh (G:=eY m) (r:=cq (eY m) oR) h HA;rw[Sz 0 z HA]at l2;refine rS (sz:=4) (s:=s13) (es:=zs.map (tQ (gJ a ps m wa) (eY m))) h af hrow (p:=z.2.2.a) (m:=z.2.2.n) (k:=z.2.2.c) rfl ?_;refine bK (by rw[l2];rfl) ?_
  refine rS (sz:=4) (s:=s13) (es:=zs.map (tQ (gJ a ps m wa) (eY m))) h af hrow (p:=z.2.2.a) (m:=z.2.2.n) (k:=z.2.2.c) rfl ?_;refine aCO (G:=eY m) (r:=cq (eY m) oR) h HA e7 (x:=0) (by rw[Sz 0 z HA];rfl) ?_
  refine bK rfl ?_;refine akd (l:=gJ a ps m wa) (o:=oR) hI ho (λp hp=>by simp[oR]at hp;subst hp;rw[hn.1];decide) (λx hx=>by rw[OM]at hx;simp at hx;subst hx;rw[hn.1];decide) h λs50 w h=> ?_
  rw[amw m k0]at h;refine qL (AO (-1) 0 0 0 0 0 (ByteArray.mk #[])).toArray rfl aZ ?_;refine aM h λg w h=> ?_;have h:=Yc (sz:=7) h rfl (by intro v hv;simp[AO]at hv;rcases hv with rfl|rfl|rfl|rfl|rfl|rfl<;>rfl)
  refine awr (s1:=s50) (s2:=⟨some ⟨g,0,none⟩,1,1⟩) (es:=[AO (-1) 0 0 0 0 0 (ByteArray.mk #[])]) h (λe he=>by simp at he;exact⟨_,_,_,_,_,_,_,he⟩) e7 λw h=> ?_
  have h:=h.drop;refine bK rfl ?_;refine adG (l:=gJ a ps m wa) hI h λw h=> ?_;refine bK (by rw[q0];rfl) ?_
  refine ahK (l:=gJ a ps m wa) h λw h=> ?_;refine bK (by rw[e0];rfl) ?_
  refine azz (l:=gJ a ps m wa) h λw h=> ?_;refine bK (by rw[st0];show(wr (m.fuel - 0)==1048576)=true;rw[hfu];rfl) ?_
  refine azA (l:=gJ a ps m wa) h λw h=> ?_;refine bK (by rw[t0];rfl) ?_
  refine amv (l:=gJ a ps m wa) hI h λw h=> ?_;refine amv (l:=gJ a ps m wa) hI h λw h=> ?_;refine bK ?_ (aw h);have e1:afM (gJ a ps m wa) (eY m) (-1)=0:=if_neg af;have e2:afM (gJ a ps m wa) (eY m) ((s13.n:Nat):Int)=0:=if_neg (by show¬(_∧((s13.n:Nat):Int)<(wa.length:Nat));omega)
  rw[e1,e2];rfl
end
end Go.Proofs.YthidhjhkmjjckaaGreatDoor
namespace Go.Proofs.YthidhjhkmjjckaaGreatDoor
open Go Go.Ev Go.Proofs
theorem _root_.Go.Ev.zx.aCR{P:Program}{w:World}{t e:TypeId}{cs:List Value}{n k b:Nat}(ht:P.underlying t=some (.slice e))(he:(∃n e',P.underlying e=some (.array n e'))∨∃fs,P.underlying e=some (.struct fs))(hf:Vd P n e=true)(hk:P.cellsOf e=k)(hb:P.bytesOf e=b)(h:zx P w t cs):
  ∃(s:Sl) (es:List (List Int)),cs=[.slice s.a s.n s.c]∧QM k w s (es.map Go.Ev.ints)∧(∀x∈es,x.length=k∧∀y∈x,sy y)∧es.length*b≤reachBytes:=by
 obtain⟨s,es,rfl,h2,h3,h4,h5,lG⟩:=h.slice ht;obtain⟨l,rfl,hl⟩:=zy (f:=Go.Ev.ints) (G:=λi:List Int=>i.length=k∧∀y∈i,sy y) (es:=es) λe' he'=>by
  obtain⟨xs,hx,hI⟩:=zy ((lG e' he').flat hf);refine⟨xs,hx,?_,hI⟩;have:=(lG e' he').len he;rw[hx,hk]at this;simpa using this
 rw[hk]at h2;rw[hb]at h3;exact⟨s,l,rfl,h2,hl,by simpa using h3⟩
theorem runT:∃f0 f1 f2 f3 f4:Field,Tryz.prog.underlying 27=some (.struct #[f0,f1,f2,f3,f4])∧(f0.type=24∧f0.offset=0)∧(f1.type=3∧f1.offset=1)∧(f2.type=3∧f2.offset=2)∧(f3.type=3∧f3.offset=3)∧(f4.type=25∧f4.offset=4):=
 ⟨_,_,_,_,_,Tryz.underlying27,⟨rfl,rfl⟩,⟨rfl,rfl⟩,⟨rfl,rfl⟩,⟨rfl,rfl⟩,⟨rfl,rfl⟩⟩
theorem aww{w:World}{v:Value}(h:Arg Tryz.prog w 27 v):∃(ps sc:Sl) (P:List dB) (b s lg:Int) (evs:List (List Int)),v= .agg (U0 ps sc b s lg)∧iA w ps P∧QM 2 w sc (evs.map Go.Ev.ints)∧(∀x∈evs,x.length=2∧∀y∈x,sy y):=by
 obtain⟨f0,f1,f2,f3,f4,hf,⟨t0,o0⟩,⟨t1,o1⟩,⟨t2,o2⟩,⟨t3,o3⟩,t4,o4⟩:=runT;obtain⟨cs,rfl,hr⟩:=h.agg (.inr ⟨_,hf⟩);obtain⟨hl,lG⟩:=hr.struct hf;have h0:=lG 0 f0 bf;have h1:=lG 1 f1 bf;have h2:=lG 2 f2 bf;have h3:=lG 3 f3 bf;have h4:=lG 4 f4 bf;have c24:Tryz.prog.cellsOf 24=1:=by kernel_rfl
 have c3:Tryz.prog.cellsOf 3=1:=by kernel_rfl
 have c25:Tryz.prog.cellsOf 25=1:=by kernel_rfl
 have c27:Tryz.prog.cellsOf 27=5:=by kernel_rfl
 rw[t0,o0,c24]at h0;rw[t1,o1,c3]at h1;rw[t2,o2,c3]at h2;rw[t3,o3,c3]at h3;rw[t4,o4,c25]at h4;rw[c27]at hl;obtain⟨a,b,c,d,e,hcs⟩:∃a b c d e,cs.toList=[a,b,c,d,e]:=by
  match cs.toList,hl with
  |[a,b,c,d,e],_=>exact⟨a,b,c,d,e,rfl⟩
 rw[hcs]at h0 h1 h2 h3 h4;obtain⟨ps,P,e0,hF⟩:=zx.program Ck.aBQ h0;obtain⟨b',e1,_⟩:=zx.int Tryz.underlying3 h1;obtain⟨s',e2,_⟩:=zx.int Tryz.underlying3 h2;obtain⟨lg',e3,_⟩:=zx.int Tryz.underlying3 h3;obtain⟨sc,evs,e4,hR,hev,_⟩:=zx.aCR (n:=4) (k:=2) (b:=16) Tryz.underlying25 (.inr ⟨_,Tryz.underlying34⟩) aZ aZ aZ h4;refine⟨ps,sc,P,b',s',lg',evs,?_,hF,hR,hev⟩;simp at e0 e1 e2 e3 e4;subst e0 e1 e2 e3 e4;congr 1;exact Array.ext' hcs
end Go.Proofs.YthidhjhkmjjckaaGreatDoor
namespace Go.Ev
open Go Go.RowKit Go.ChangeShapes Go.WideShapes
theorem ahO{H:Type}{enc:TypeId×Value→H}{C:Checked}{os:Os}{K:FuncId}{fn:Func}{s:ChangeSpec}{tb:TypeId}{X:World→Array Value→Prop}
  (hX:∀(w w':World) (args:Array Value),w.heap=w'.heap→X w args→X w' args)
  (own:ownKnob C.prog.godebug=none) (started:os.Started) (noInit:C.prog.inits.idxOf? K=none) (hfn:C.prog.funcs[K]?=some fn)
  (witness:∃(w:World) (tape:Tape) (i:Input),w.os=os∧(w.forCall tape i).Shaped C.prog∧i.vars=[]∧Input.okWide C.prog (w.forCall tape i) .any w.heap.size K i∧
   ((s.pre enc C.prog fn [] false (w.forCall tape i).memory i.args∧X (w.forCall tape i).memory i.args)∧sizedMet enc C.prog fn (OpenSpec.ofChange s) false (w.forCall tape i).memory i.args)∧({}:Assume).holds C.prog (lone (Frame.enter C.prog K i.args .normal) [] (w.forCall tape i)))
  (hvars:s.vars=[]) (hl:laidOutB C.prog=true) (hrows:fn.params.toList.all (λt=>C.prog.readableRec t&&decide (t<C.prog.types.size))=true)
  (hres:fn.resultTypes=#[tb]) (htb:C.prog.underlying tb=some .bool)
  (hs:∀ds:List (DataW H),ds.length=fn.params.toList.length→s.fn H ds={results:=[.lit (.bool true)],args:=ds})
  (walk:∀(W:World) (args:Array Value),WO C.prog W fn.params.toList args.toList→X W args→
   Calls C.prog K args W λe W'=>e= .returned (.bool true)∧Below W.heap.size W W'):
  ReturnsInHanded {} C os K .any (λw args=>(s.pre enc C.prog fn [] false w args∧X w args)∧sizedMet enc C.prog fn (OpenSpec.ofChange s) false w args) (s.post enc C.prog fn false true false false):=by
 refine returnsInHanded_of_change_and hX own started noInit hfn witness ?_;intro W base args ds gs before hval hW _ hsz hXW _;have hW':=hW;obtain⟨p,q,hA,hV,rfl,hfz,hnd⟩:=hW;rw[hvars]at hV;obtain⟨rfl,rfl⟩:=trodVars_none hV;have hlen:=UD hA;have hvt:s.plain.varTypes C.prog=[]:=by simp[DataSpec.varTypes,ChangeSpec.plain,hvars]
 rw[hvt,List.append_nil,List.append_nil]at hsz;have hargs:=aid (λj t v ht hv=>hval j t v (by simpa using ht) (by simpa using hv)) hA (λn hn=>by simpa using tL.1 hsz n hn)
 refine(walk W args hargs hXW).mono λe W' ⟨he,bel⟩=> ?_;subst he;refine⟨_,rfl,ds,[],p++[],[],p,[],hW',?_,?_,?_,bel.frame _,λh=>by cases h⟩
 ·rw[List.append_nil,hs ds hlen,hres];exact trodAll_mk1 (shut_bool htb _)
 ·rw[List.append_nil,hs ds hlen];exact QL hl bel hrows hA λx hx=>hW'.lt x (by simp[hx])
 ·rw[List.append_nil,hs ds hlen,hvars];exact rfl
end Go.Ev
