/-
  Parts of the proof of LMay: printed by a program out of longer texts.
-/
import Derived.Test.YthidhjhkmjjckaaGreatDoorPMay6
import Derived.LaidMore
import Derived.SevenTiedAt
import Derived.Lay
import Derived.Stop.Joined
set_option linter.unusedSimpArgs false
set_option linter.unusedVariables false
set_option maxRecDepth 100000
open List renaming getElem?_eq_some_iff→kJ,getElem?_eq_getElem→j4,getD_eq_getElem?_getD→nI,getElem?_append_left→sZ,getElem?_append_right→uI,getElem?_set_ne→rK,getElem?_set_self→uu,mem_of_getElem?→q6,getElem?_map→pz,eraseIdx→Iw,insertIdx_succ_cons→azV,insertIdx_zero→azW,replicate→dM,mem_append→y7,length_append→tV,all_eq_true→xz
open Go.Sem renaming run_pure→cK,run_bind→cL
open Go.Result renaming andThen_ok→cF
open Bool renaming or_eq_false_iff→kx,and_eq_true→iZ
open Option renaming isNone→eL
open Go.IntKind renaming wrap→aG
open Int renaming toNat_natCast→kR
open Array renaming setIfInBounds→eM,getElem?_eq_some_iff→AL
open Nat renaming le_refl→iv
open Go.Addr renaming add→aY
namespace Go.Proofs.YthidhjhkmjjckaaGreatDoor
open Go Go.Ev Go.Proofs
open Ko (CK)
open Ck (pV)
open Fr (Ax nu dQ eB dc iB jj nR oT)
structure IV (l:Lc) (P:List dH) (bt:List Int) (ro:List Ro) (G:Gl) (Ws:List Wk):Prop where
 lc:aej l
 lg:0≤l.log∧l.log≤8
 acc:pV P
 ty:Ty l ro G
 wn:l.wa.length=Ws.length
 dl:Ws.map (·.dq)=bt
 dq:∀v,v<l.wa.length→ZN ro v (bt.getD v 0)
 w:∀(i:Nat) (W:Wk),Ws[i]?=some W→WT l P bt ro G i W
 dj:∀(i j:Nat) (Wi Wj:Wk) (x:Nat),Ws[i]?=some Wi→Ws[j]?=some Wj→x∈Wi.hold→x∈Wj.hold→i=j
 fr:∀x,x<G.ts.length→G.K x=0→NZ P G.ts.length (G.tk x)
section
variable {l:Lc} {P:List dH} {bt:List Int} {ro iP:List Ro} {G G' G1:Gl} {hold:List Nat} {W W' W1:Wk} {Ws:List Wk} {t t':Tk} {n i x y:Nat} {s a v:Int} {r:Ro} {w0:World}
theorem IV.cx(h:IV l P bt ro G Ws)(hi:Ws[i]?=some W)(he:G.err=0):Cx l P bt ro G i W:=⟨h.lc,h.lg,h.acc,h.ty,h.w i W hi,h.dq,he⟩
theorem auj(kd:Int):(Ck.pP kd).2≤2147483647:=by
 unfold Ck.pP;cases (kd==1)<;>cases (kd==2)<;>cases (kd==3)<;>cases (kd==4)<;>cases (kd==5)<;>decide
theorem auk{i:List Int}(hc:Ck.oP i=0):i.getD 4 0≤1099511627776:=by
 unfold Ck.oP at hc;split at hc
 ·cases hc
 ·split at hc
  ·rename_i hf;unfold Ck.fits at hf;rw[xz]at hf;have f3:=hf 3 fY;unfold Ck.fit at f3;have:=auj ((Ck.kinds (Ck.fW i)).getD 3 0);simp only[Bool.not_eq_true',kx,decide_eq_false_iff_not]at f3;have:=f3.2;have e:i.getD (3+1) 0=i.getD 4 0:=rfl;omega
  ·cases hc
theorem axo(c:Cx l P bt ro G i W)(hdl:bt.length=l.wa.length)(hfr:∀y,y<G.ts.length→G.K y=0→NZ P G.ts.length (G.tk y)):∃iP,rG l P bt ro iP G i W (Yq l P G W bt):=by
 have ct:=c.ct;unfold Yq;dsimp only;generalize hx:W.stack.headD 0=x;have ht:G.tk (W.stack.headD 0)=G.tk x:=by rw[hx]
 cases bN:W.cM with
 |m f=>
  cases f with
  |rest=>exact⟨_,axa c bN⟩
  |pn=>
   have G8:=ct;unfold cy at G8;rw[bN]at G8;dsimp only at G8;obtain⟨O,hO,_⟩:=G8;dsimp only;rw[hO];obtain⟨iP,h,_⟩:=ak2 c hdl bN hO ht.symm;exact⟨iP,h⟩
  |looking=>
   have G8:=ct;unfold cy at G8;rw[bN]at G8;dsimp only at G8;obtain⟨k,hk,_⟩:=G8;dsimp only;rw[hk];exact⟨_,ak5 c bN hk hx rfl⟩
  |tell=>exact⟨_,axb c bN⟩
  |others=>exact⟨_,aoT c bN⟩
  |wU=>
   have G8:=ct;unfold cy at G8;rw[bN]at G8;dsimp only at G8;obtain⟨_,_,o,ho,_⟩:=G8;dsimp only;rw[ho];exact⟨_,aoS c bN ho⟩
  |RD=>exact⟨_,aAq c bN⟩
  |IU=>exact⟨_,axc c bN⟩
  |sU=>exact⟨_,ao0 c bN hfr⟩
  |start=>exact⟨_,aui c bN rfl⟩
  |next=>exact⟨_,axh c bN hx rfl⟩
  |fork=>exact axk c bN hx rfl
  |wV=>exact aud c bN hx rfl
  |sV=>exact⟨_,aoZ c bN hx rfl⟩
  |join=>exact⟨_,axg c bN ht.symm⟩
  |cD=>exact⟨_,aAu c bN⟩
  |opens=>
   have G8:=ct;unfold cy at G8;rw[bN]at G8;dsimp only at G8;rw[hx]at G8;exact auf c bN hx rfl (auk (G8.2.1.fi.oP c.acc))
  |close=>exact⟨_,auc c bN hx rfl⟩
  |gF=>exact⟨_,aoX c bN hx rfl⟩
  |cancel=>exact⟨_,aoW c bN hx rfl⟩
  |pass=>exact⟨_,axj c bN hx rfl⟩
  |leave=>exact⟨_,aub c bN hx rfl⟩
  |put=>exact⟨_,aAz c bN hx rfl⟩
  |fin=>exact⟨_,aAA c bN hx rfl⟩
  |asks=>exact⟨_,axm c bN ht.symm⟩
  |gone=>exact⟨_,axn c bN ht.symm⟩
  |asked=>exact⟨_,at6 c bN ht.symm⟩
  |joined=>exact⟨_,aoY c bN hx rfl⟩
  |tO=>exact⟨_,aoV c bN ht.symm⟩
  |qV=>exact⟨_,ak3 c bN⟩
  |rT=>exact⟨_,ak4 c bN ht.symm⟩
  |register=>exact⟨_,aiJ c bN⟩
  |block=>
   have G8:=ct;unfold cy at G8;rw[bN]at G8;dsimp only at G8;obtain⟨_,o,ho,_⟩:=G8;dsimp only;rw[ho];exact⟨_,at2 c bN ho⟩
  |HJ=>exact⟨_,axf c bN ht.symm⟩
  |stops=>exact⟨_,auh c bN hx rfl⟩
  |cancelled=>unfold cy at ct;rw[bN]at ct;exact ct.elim
  |vu=>unfold cy at ct;rw[bN]at ct;exact ct.elim
  |Bp=>unfold cy at ct;rw[bN]at ct;exact ct.elim
  |yJ=>unfold cy at ct;rw[bN]at ct;exact ct.elim
  |nothing=>unfold cy at ct;rw[bN]at ct;exact ct.elim
  |Tv=>unfold cy at ct;rw[bN]at ct;exact ct.elim
  |Aj=>unfold cy at ct;rw[bN]at ct;exact ct.elim
 |aw y=>exact⟨_,aC7 c bN ht.symm⟩
 |sh k=>exact⟨_,aC8 c bN ht.symm⟩
 |no=>unfold cy at ct;rw[bN]at ct;exact ct.elim
 |any=>unfold cy at ct;rw[bN]at ct;exact ct.elim
 |c f=>unfold cy at ct;rw[bN]at ct;exact ct.elim
 |nx i=>unfold cy at ct;rw[bN]at ct;exact ct.elim
 |U7 y k=>unfold cy at ct;rw[bN]at ct;exact ct.elim
 |Bq y k=>unfold cy at ct;rw[bN]at ct;exact ct.elim
 |hl m z=>unfold cy at ct;rw[bN]at ct;exact ct.elim
theorem IV.step(h:IV l P bt ro G Ws)(hi:Ws[i]?=some W)(he:G.err=0):∃iP,rG l P bt ro iP G i W (Yq l P G W bt)∧IV l P bt iP (Yq l P G W bt).1 (Ws.set i (Yq l P G W bt).2):=by
 have c:=h.cx hi he;have hil:=(kJ.1 hi).1;obtain⟨iP,hr⟩:=axo c (by rw[←h.dl,List.length_map,h.wn]) h.fr
 generalize Yq l P G W bt=r at hr ⊢;refine⟨iP,hr,h.lc,h.lg,h.acc,hr.ty,by rw[List.length_set];exact h.wn,?_,λv hv=> ?_,λj Wj hj=> ?_,λj k Wj Wk_ x hj hk hxj hxk=> ?_,λx hx hK=> ?_⟩
 ·rw[List.map_set,hr.wt.dq,←h.dl];have:(Ws.map (·.dq)).getD i 0=W.dq:=by rw[nI,pz,hi];rfl
  rw[this];apply List.ext_getElem?;intro k;by_cases hk:i=k
  ·subst hk;rw[uu (by simpa using hil),pz,hi];rfl
  ·rw[rK hk]
 ·obtain⟨m,e⟩:=hr.BO.ext;rw[e];exact(h.dq v hv).qG
 ·by_cases e:i=j
  ·subst e;rw[uu hil]at hj;cases hj
   exact hr.wt
  ·rw[rK e]at hj;exact(h.w j Wj hj).imp hr.BO (λx hx q=>e (h.dj i j W Wj x hi hj q hx)) (λ_=>he)
 ·have key:∀j Wj,Ws[j]?=some Wj→i≠j→∀x∈Wj.hold,x ∉ r.2.hold:=λj Wj hj hne x hxj hxr=>by
   rcases hr.hd x hxr with q|⟨q1,q2⟩
   ·exact hne (h.dj i j W Wj x hi hj q hxj)
   ·have:=(h.w j Wj hj).run x hxj;omega
  by_cases e:i=j
  ·subst e;by_cases e2:i=k
   ·exact e2
   ·rw[uu hil]at hj;rw[rK e2]at hk;cases hj
    exact absurd hxj (key k Wk_ hk e2 x hxk)
  ·rw[rK e]at hj;by_cases e2:i=k
   ·subst e2;rw[uu hil]at hk;cases hk
    exact absurd hxk (key j Wj hj e x hxj)
   ·rw[rK e2]at hk;exact h.dj j k Wj Wk_ x hj hk hxj hxk
 ·by_cases hxn:x<G.ts.length
  ·have h0:=hr.BO.K0 x hxn hK;have hnh:x ∉ W.hold:=λq=>by have:=(h.w i W hi).run x q;omega
   rw[hr.BO.tk hxn hnh];exact(h.fr x hxn h0).imp hr.BO.n
  ·exact hr.fr x ah hx
end
section
variable {l:Lc} {P:List dH} {bt:List Int} {ro iP:List Ro} {G G' G1:Gl} {hold:List Nat} {W W' W1:Wk} {Ws:List Wk} {t t':Tk} {n i x y:Nat} {s a v:Int} {r:Ro} {w0:World}
theorem BM.aDj{u:Nat}{d:Int}{O:bp}(h:Ty l ro G)(hd:ZN ro u d)(hO:BM l ro G.ts.length u d O):O.Gu:=by
 refine⟨λe=>⟨hO.c2 ah,hO.b,hO.t⟩,λe=> ?_,hO.nx,?_⟩
 ·obtain⟨c,hc,_⟩:=hO.c4 e;exact⟨c,hc⟩
 ·have h1:=hd.top.lt;have h0:=hd.top.1;rw[h.len]at h1;have:=h.ok.fit;have:=h.ok.size;rw[hO.at_];exact⟨h0,ah⟩
theorem Cx.inA(c:Cx l P bt ro G i W):yY W.dq:=by
 have h1:=c.own.top.lt;have h0:=c.own.top.1;rw[c.ty.len]at h1;have:=c.ty.ok.fit;have:=c.ty.ok.size;exact⟨h0,ah⟩
theorem Cx.spf(c:Cx l P bt ro G i W){o:jI}(h:SpT o):o.Gu l.sp G.M W.id:=by
 have hb:=c.ty.val _ _ c.ty.PE;obtain⟨x,hx⟩:=Int.eq_ofNat_of_zero_le hb.1;exact⟨h.1,c.can c.ty.Xb,c.can c.ty.PE,⟨x,hx,by have:=hb.2;omega⟩⟩
theorem Cx.sc(c:Cx l P bt ro G i W)(hx:x<G.ts.length):GC G (G.tk x).lX∧G.M.can W.id (G.nd (G.tk x).lX).at_=true∧G.M.can W.id ((G.nd (G.tk x).lX).at_+1)=true:=by
 have hin:=(c.ty.pX hx).ZM;obtain⟨h1,h2⟩:=c.ty.RP hin.1 hin.2;exact⟨h1,c.can h2.a,c.can h2.b⟩
theorem Cx.sc1(c:Cx l P bt ro G i W)(hx:x<G.ts.length)(ho:(G.tk x).cD≠ []):GC G (G.tk x).ku.1∧G.M.can W.id (G.nd (G.tk x).ku.1).at_=true∧G.M.can W.id ((G.nd (G.tk x).ku.1).at_+1)=true:=by
 have hin:=c.ku hx ho;obtain⟨h1,h2⟩:=c.ty.RP hin.1 hin.2;exact⟨h1,c.can h2.a,c.can h2.b⟩
theorem Cx.dr(c:Cx l P bt ro G i W)(hx:x<G.ts.length)(ho:(G.tk x).cD≠ []):Dr G (G.tk x).ku.1:=by
 have hin:=c.ku hx ho;exact⟨c.ty.ZJ,c.ty.ck,hin.1,⟨_,j4 (by rw[c.ty.pl];omega)⟩⟩
theorem ak7{k:Kn}(h:qW P n t (.sh k)):t.cD≠ []:=by
 unfold qW at h;split at h
 ·rename_i e;cases e
 ·rename_i e;cases e
 ·exact h.1.cD
 ·exact h.2
 ·exact h.elim
theorem Xi(h:q4 P G W):(G.tk (W.stack.headD 0)).cD≠ []:=by
 obtain⟨y,h1,h2,h3⟩|⟨k,h1,_,_,h4⟩:=h.cases
 ·exact h3.1.cD
 ·exact ak7 h4
theorem ago(h:q4 P G W)(ha:yW W.again=true):ail G W:=by
 obtain⟨y,h1,h2,h3⟩|⟨k,h1,_⟩:=h.cases
 ·exact⟨by rw[h2];rfl,by rw[h2];exact h3.2.2.2⟩
 ·rw[h1]at ha;cases ha
theorem axp(h:q4 P G W):∀y,W.target=some y→y<G.ts.length:=λy hy=>by
 obtain⟨z,h1,h2,h3⟩|⟨k,h1,h2,_⟩:=h.cases
 ·rw[h2]at hy;cases hy;exact h3.2.2.2
 ·rw[h2]at hy;cases hy
theorem Zj(h:q4 P G W)(h1:yW W.again=true→W.dA= .m .vu∧W.wait.how=1)(h2:RR W.again=true→W.dA= .c .Cs):W.dA= .m .vu∨W.dA= .c .Cs:=by
 obtain⟨z,e,_⟩|⟨k,e,_⟩:=h.cases
 ·exact .inl (h1 (by rw[e];rfl)).1
 ·exact .inr (h2 (by rw[e];rfl))
theorem aAD(h:q4 P G W):aeh G W (G.tk (W.stack.headD 0)):=by
 unfold aeh;obtain⟨z,e,_⟩|⟨k,e,_,_,h4⟩:=h.cases
 ·rw[e];trivial
 ·rw[e];exact ak7 h4
theorem IV.vi(h:IV l P bt ro G Ws)(hi:Ws[i]?=some W)(vq:W1.id=i)(hl:∀j∈W1.left,0≤j∧j<l.wa.length∧j≠W1.id)(hn:W1.none_= .m .yJ∨(W1.none_= .m .nothing∧W1.wait.how=1)):Zb l ((l.wa.zip Ws).eraseIdx i) bt W1:=by
 refine⟨hn,λj r hj=> ?_⟩;obtain⟨h1,h2,h3⟩:=hl j (by rw[hj];simp)
 have hw:=h.wn;have hjl:j.toNat<l.wa.length:=ah;have hjw:j.toNat<Ws.length:=ah;have hz:(l.wa.zip Ws)[j.toNat]?=some (l.wa[j.toNat]'hjl,Ws[j.toNat]'hjw):=by rw[List.getElem?_zip_eq_some];exact⟨j4 hjl,j4 hjw⟩
 have hne:j.toNat≠i:=ah;refine⟨j.toNat,l.wa[j.toNat]'hjl,if j.toNat<i then j.toNat else j.toNat - 1,Ws[j.toNat]'hjw,ah,j4 hjl,?_,?_⟩
 ·rw[List.getElem?_eraseIdx];by_cases e:j.toNat<i
  ·rw[if_pos e,if_pos e];exact hz
  ·rw[if_neg e,if_neg ah,show j.toNat - 1+1=j.toNat by omega];exact hz
 ·rw[←h.dl,nI,pz,j4 hjw];rfl
theorem acn{W:Wk}(h:CQ l P G W):W.none_= .m .yJ∨(W.none_= .m .nothing∧W.wait.how=1):=by
 rcases h.what with⟨_,_,_,h4⟩|⟨_,_,_,h4⟩
 ·exact .inl h4
 ·exact .inr ⟨h4,h.how⟩
theorem IV.ok(h:IV l P bt ro G Ws)(hi:Ws[i]?=some W)(he:G.err=0)(hF:iN w0 l.ps P):aim l P ((l.wa.zip Ws).eraseIdx i) bt G W:=by
 have c:=h.cx hi he;have ct:=c.ct;have cap:=c.ty.cap;have vq:=c.amJ;have hbl:W.back.length≤100000:=by
  have hb:=c.wt.bk;have:∀(st:List Nat) (b:List Kn),Kb P G st b→b.length=st.length:=by
   intro st;induction st with
   |nil=>intro b hb;cases b<;>first|rfl|exact hb.elim
   |cons y st ih=>intro b hb;cases b with
    |nil=>exact hb.elim
    |cons k b=>simp[ih b hb.2.2]
  rw[this _ _ hb];have:=c.wt.nd;unfold Wk.hold at this;have h2:=(List.nodup_append.1 this).2.1;have:=L7 h2 λy hy=>c.wt.hl y (by unfold Wk.hold;simp[hy])
  omega
 have hsl:W.stack.length≤100000:=by
  have:=c.wt.nd;unfold Wk.hold at this;have h2:=(List.nodup_append.1 this).2.1;have:=L7 h2 λy hy=>c.wt.hl y (by unfold Wk.hold;simp[hy])
  omega
 have xm:W.stack≠ []→GB G W (W.stack.headD 0) (G.tk (W.stack.headD 0))∧W.stack.headD 0<G.ts.length:=c.top;unfold cy at ct;unfold aim;dsimp only at ct ⊢;have hop:∀(O:bp) (u:Nat),u<l.wa.length→BM l ro G.ts.length u (bt.getD u 0) O→O.Gu∧((O.step G.M W.id).1.how=6→(O.step G.M W.id).1.err≠0):=λO u hu hO=>by
  obtain⟨iP,hr⟩:=aiE c.lg c.ty (c.dq u hu) c.caller hO;exact⟨hO.aDj c.ty (c.dq u hu),hr.err⟩
 have hown:∀(O:bp) (k:Nat),(BM l ro G.ts.length W.id.toNat W.dq O∧O.kind=k)→BM l ro G.ts.length i (bt.getD i 0) O:=λO k q=>by rw[c.idn,c.wt.dq]at q;exact q.1
 split at ct<;>rename_i bN<;>try exact ct.elim
 all_goals try rw[bN]
 all_goals try dsimp only
 ·exact c.can c.ty.told
 ·obtain⟨O,hO,ct⟩:=ct;refine⟨O,hO,?_⟩;split at ct<;>rename_i ha<;>try exact ct.elim
  ·have:=hop O i c.wt.lt (hown O 1 ct.2.2);exact⟨this.1,this.2,λ_ _=>by unfold Zc;dsimp only;rw[ha];trivial⟩
  ·have:=hop O i c.wt.lt (hown O 0 ct.2.2.2);exact⟨this.1,this.2,λ_ _=>by unfold Zc;dsimp only;rw[ha];trivial⟩
  ·have:=hop O i c.wt.lt (hown O 1 ct.2.2.2);refine⟨this.1,this.2,λ_ _=> ?_⟩;unfold Zc;dsimp only;rw[ha];have ht:=xm ct.1.ne;exact⟨⟨_,ht.1.s⟩,ht.1.t,Zj ct.1 ct.2.1 ct.2.2.1⟩
  ·obtain⟨a1,⟨u,a2,a3,a4,a5⟩,a6⟩:=ct;have:=hop O u a2 a4;refine⟨this.1,this.2,λ_ _=> ?_⟩;unfold Zc;dsimp only;rw[ha];refine⟨?_,h.vi hi c.wt.id a1.left (by have q:=acn a1;exact q)⟩
   unfold aie;dsimp only;rcases a1.what with⟨_,q,_⟩|⟨q0,q,_⟩
   ·rw[q];trivial
   ·rw[q];exact⟨c.ty.kt,λy hy=>axp q0 y hy⟩
  ·obtain⟨a1,⟨u,a2,a3,a4,a5⟩,a6⟩:=ct;have:=hop O u a2 a4;refine⟨this.1,this.2,λ_ _=> ?_⟩;unfold Zc;dsimp only;rw[ha];refine⟨?_,h.vi hi c.wt.id a1.left (by have q:=acn a1;exact q)⟩
   rcases a1.what with⟨_,_,q,_⟩|⟨_,_,q,_⟩
   ·exact .inl q
   ·exact .inr q
 ·obtain⟨k,a1,a2,a3,a4,a5,a6⟩:=ct;obtain⟨b1,b2⟩:=c.ty.RP a3.1 a3.2;refine⟨k,(xm a5).1,a1,a2,b1,c.can b2.a,?_⟩;unfold amB;split at a6<;>rename_i hs<;>try exact a6.elim
  ·try rw[hs]
   have:=a6.1.fi.Zf hF c.acc;rw[a6.2];exact⟨this.1.Gw,a6.1.fi.len,this.2.2⟩
  ·first|(rw[hs];trivial)|trivial
  ·first|(rw[hs];trivial)|trivial
 ·exact c.can c.ty.told
 ·exact⟨c.can c.ty.idle,c.ty.PE.given c.ty.len,⟨ah,by have:=c.wt.lt;rw[c.wt.id];omega⟩,h.vi hi c.wt.id (λj hj=>aes j (aiI j hj)) (by have q:=acn ct;exact q)⟩
 ·obtain⟨_,_,o,ho,hs⟩:=ct;exact⟨o,ho,c.spf hs⟩
 ·exact⟨⟨ah,ah⟩,c.can c.ty.idle,ct.2⟩
 ·exact⟨⟨ah,ah⟩,c.can c.ty.idle⟩
 ·exact⟨ct.1,by rw[Int.add_zero];exact c.can (c.ty.pX ah).k⟩
 ·have pB:W.jk.toNat<G.ts.length:=ah;exact⟨ct.1,c.inA,c.can c.own.bot,(c.sc pB).1,hsl,hbl⟩
 ·have ht:=xm ct.1;exact⟨ht.1,ct.2.fi.Zf hF c.acc,(c.sc ht.2).1⟩
 ·have ht:=xm ct.1;exact⟨ht.1,ct.2.1.cD,c.caller,ah,ah,(c.sc1 ht.2 ct.2.1.cD).1⟩
 ·have ht:=xm ct.1;obtain⟨a1,a2,a3,a4⟩:=ct;obtain⟨g',g1,_⟩:=a2.fi.fork c.acc a3;have ht2:=ht.2;have Zm:=abo (T:=G.T) (s:=(G.tk (W.stack.headD 0)).id) (by unfold AI;rw[(c.ty.pX ht.2).id];simp only[decide_eq_true_eq];have:=c.ty.kl;omega)
  obtain⟨kt,Zm⟩:=Zm;refine⟨ht.1,a2.cD,a2.fi.Zf hF c.acc,a2.fi.is8 c.acc a3,⟨g',g1⟩,c.caller,⟨kt,Zm,?_⟩,ah,ah,by rw[c.ty.pl];exact a4⟩
  have:=c.ty.kk _ _ (xq Zm).2.2;omega
 ·have ht:=xm ct.1;have:=c.sc1 ht.2 ct.2.1.cD;exact⟨ht.1,ct.2.1.cD,this.1,this.2.2⟩
 ·have ht:=xm ct.1;obtain⟨b1,b2⟩:=ct.2.1.fi.hand c.acc ct.2.2;exact⟨ht.1,ct.2.1.fi.Zf hF c.acc,b1,b2,c.can c.ty.told,(c.sc ht.2).1⟩
 ·exact⟨c.inA,c.can c.own.bot⟩
 ·have ht:=xm ct.1;obtain⟨a1,a2,a3⟩:=ct;have hin:=c.ku ht.2 a2.cD;have hT:=c.ty.pX ht.2;have:=hT.sn;have:=hT.sl;refine⟨ht.1,a2.cD,a2.fi.Zf hF c.acc,c.caller,ah,ah,(c.sc1 ht.2 a2.cD).1,⟨hin.1,by rw[c.ty.pl];exact hin.2⟩,ah,ah,⟨c.ty.ZJ,c.ty.ck⟩,λhp=> ?_⟩
  exact(aet c.ty.ck ah c.ty.PF ⟨ah,auk (a2.fi.oP c.acc)⟩).1
 ·exact⟨(xm ct.1).1,ct.2.1.cD⟩
 ·have ht:=xm ct.1;obtain⟨a1,a2,a3⟩:=ct;have hT:=c.ty.pX ht.2;have:=hT.sn;have:=hT.sl;have hs:=c.sc1 ht.2 a2.cD;exact⟨ht.1,a2.cD,a2.fi.Zf hF c.acc,c.dr ht.2 a2.cD,hs.1,hs.2.1,ah⟩
 ·have ht:=xm ct.1;have hs:=c.sc1 ht.2 ct.2.1.cD;exact⟨ht.1,ct.2.1.cD,ct.2.1.fi.len,hs.1,hs.2.1⟩
 ·exact⟨(xm ct.1).1,ct.2.1.fi.len⟩
 ·exact⟨(xm ct.1).1,ct.2.1.fi.Zf hF c.acc,ct.2.1.fi.aCL c.acc⟩
 ·have ht:=xm ct.1;exact⟨ht.1,c.can (c.ty.pX ht.2).v⟩
 ·have ht:=xm ct.1;exact⟨ht.1,⟨ct.2.1.k2,ct.2.1.k4⟩,by rw[Int.add_zero];exact c.can (c.ty.pX ht.2).k⟩
 ·have ht:=xm ct.1;exact⟨ht.1,c.can (c.ty.pX ht.2).w⟩
 ·have ht:=xm ct.1;have hs:=c.sc ht.2;refine⟨ht.1,?_,hs.1,hs.2.2⟩;have hb:=c.wt.bk;rw[ht.1.s]at hb;cases hh:W.back with
  |nil=>rw[hh]at hb;exact hb.elim
  |cons kb bs=>
   rw[hh]at hb;refine⟨kb,bs,rfl,?_⟩;have:∀(st:List Nat) (b:List Kn),Kb P G st b→b.length=st.length:=by
    intro st;induction st with
    |nil=>intro b hb;cases b<;>first|rfl|exact hb.elim
    |cons y st ih=>intro b hb;cases b with
     |nil=>exact hb.elim
     |cons k b=>simp[ih b hb.2.2]
   exact this _ _ hb.2.2
 ·have ht:=xm ct.1.ne;have hg:=ago ct.1 ct.2.1;exact⟨ht.1,Xi ct.1,hg,by rw[Int.add_zero];exact c.can (c.ty.pX hg.2).k⟩
 ·have ht:=xm ct.1.ne;have hg:=ago ct.1 ct.2.1;obtain⟨y,e,_,h3⟩|⟨k,e,_⟩:=ct.1.cases
  ·exact⟨ht.1,h3.1.fi.Zf hF c.acc,hg,c.can (c.ty.pX hg.2).v⟩
  ·rw[e]at ct;cases ct.2.1
 ·have ht:=xm ct.1.ne;exact⟨ht.1,Zj ct.1 ct.2.1 ct.2.2,c.inA,c.can c.own.bot⟩
 ·exact c.can c.ty.told
 ·have ht:=xm ct.1.ne;have hs:=c.sc1 ht.2 (Xi ct.1);exact⟨ht.1,Xi ct.1,hs.1,hs.2.2⟩
 ·have hg:=ago ct.1 ct.2;exact⟨hg,⟨ah,ah⟩,c.can (c.ty.pX hg.2).w⟩
 ·obtain⟨_,o,ho,hs⟩:=ct;exact⟨o,ho,c.spf hs⟩
 ·have ht:=xm ct.ne;exact⟨ht.1,aAD ct,c.can c.ty.told,(c.sc ht.2).1⟩
 ·have ht:=xm ct.1.ne;refine⟨ht.1,⟨ah,ah⟩,λhb=>c.spf ?_,λ_ hr=> ?_,λ_ _=> ?_⟩
  ·cases hs:W.step with
   |none=>exact⟨fY,fY,fY⟩
   |some o=>exact ct.2.1 hb o hs
  ·have hg:=ago ct.1 (c.fl.RS hr);exact⟨hg,c.can (c.ty.pX hg.2).w⟩
  ·have ct3:=ct.2.2;unfold amA;split at ct3<;>rename_i hs<;>try exact ct3.elim
   all_goals try rw[hs]
   ·trivial
   ·exact ct3.1
   ·trivial
   ·trivial
   ·trivial
   ·exact⟨Xi ct.1,c.dr ht.2 (Xi ct.1)⟩
 ·have ht:=xm ct.1;exact⟨ht.1,ct.2.2.2.2,c.can c.ty.told,(c.sc ht.2).1⟩
 ·have ht:=xm ct.1;exact⟨ht.1,ak7 ct.2⟩
end
end Go.Proofs.YthidhjhkmjjckaaGreatDoor
namespace Go.Proofs.YthidhjhkmjjckaaGreatDoor
open Go Go.Ev Go.Proofs
open Ko (oe CK)
structure YB (G:Gl) (o:List (Int×Int)):Prop where
 kids:∀(i:Nat) (x:Kt),G.T[i]?=some x→x.kids.length≤1000000
 len:o.length≤100000
 dfs:if G.T.length=0 then o=[]else Dfs G.T [0] o
 ids:∀p∈o,0≤p.1∧p.1<G.ts.length
 sc:(iO G o).length≤1000000
section
variable {w0 w:World} {L R:List HP} {l:Lc} {P:List dH} {aa:List Nat} {G:Gl} {Ws:List Wk} {n:Int} {gw:Nat} {W:Wk} {sp st sw:Sl} {o:List (Int×Int)}
theorem aul{x a:Nat}(h:St w0 w (L1 aa G.ts::R))(ha:aa[x]?=some a)(hx:x<G.ts.length):∃so sc:Sl,St w0 w (ax a ((G.tk x).cells so sc)::rws 2 so ((G.tk x).cD.map Ay)::bP 1 sc (ints (G.tk x).scopes)::lZ ZI ((aa.zip G.ts).eraseIdx x)::R):=sG h ha (G.Al hx)
theorem ao2{k:Sl→aq}(h:St w0 w (SL l aa G R sp st sw))(ho:YB G o)(hk:∀s w',St w0 w' (bP 1 s (ints (iO G o))::SL l aa G R sp st sw)→k s w'):jU (some ⟨l.gs,0,none⟩) w k:=by
 unfold jU yH;have hla:=NP (h.front 9 rfl);refine av h λg1 w h=> ?_;with_reducible repeat' (first|refine an ?_|refine da h ?_|fail)
 have h:=h.asS (g:=g1) (n:=1) (sz:=1) (cs:=[.int .i64 0]) rfl ah (by simp[Value.oneCell'])
 refine aht (T:=G.T) h ho.kids ho.len ho.dfs λs5 w h=> ?_;have h5n:=uN (s:=s5) (vs:=ints (o.map λp:Int×Int=>p.1)) h;simp only[ints,List.length_map]at h5n;have hol:=ho.len;refine Qa (G:=Nat) (λj x w=>x.2=(j:Int)∧j≤o.length∧St w0 w (bP 1 s5 (ints (o.map λp:Int×Int=>p.1))::bP 1 x.1 (ints (iO G (o.take j)))::SL l aa G R sp st sw)) (λj=>o.length - j) (g:=0) ⟨rfl,ah,h⟩ ?_;clear h;rintro j ⟨s1,i⟩ w ⟨hi,hj,h⟩ C hC;dsimp only at hi h ⊢;subst hi;by_cases hlt:j<o.length
 ·refine bO (by simp;omega) ?_
  have vq:=ho.ids _ (List.getElem_mem hlt);generalize hp:o[j]'hlt=p at vq;have hpj:o[j]?=some p:=by rw[j4 hlt,hp]
  have qL:p.1.toNat<G.ts.length:=ah;obtain⟨a,ha⟩:=Ym (aa:=aa) hla (G.Al qL);refine vI (s:=s5) (vs:=ints (o.map λp:Int×Int=>p.1)) h ah (x:=p.1) (by simp[ints,hpj]) ?_
  with_reducible repeat' (first|refine an ?_|refine j5 h ?_|fail)
  refine vP (s:=st) (vs:=aa.map pt) h vq.1 (x:=some ⟨a,0,none⟩) (by rw[pz,ha];rfl) ?_
  have h:=h.fr 11;obtain⟨so,sc,h⟩:=aul h ha qL;with_reducible repeat' (first|refine an ?_|refine j5 h ?_|fail)
  have aDk:=uN (s:=sc) (vs:=ints (G.tk p.1.toNat).scopes) h;have ZO:=uN (s:=s1) (vs:=ints (iO G (o.take j))) h;simp only[ints,List.length_map]at aDk ZO;have htot:(iO G (o.take j)).length+(G.tk p.1.toNat).scopes.length≤1000000:=by
   have h2:=ho.sc;have e:o=o.take j++p::o.drop (j+1):=by
    rw[←hp,←List.drop_eq_getElem_cons hlt,List.take_append_drop]
   unfold iO at h2 ⊢;rw[e]at h2;simp only[List.flatMap_append,List.flatMap_cons,List.length_cons,tV]at h2 ⊢;omega
  refine Sa (sz:=1) (s:=s1) (vs:=ints (iO G (o.take j))) (x:=sc) (ys:=ints (G.tk p.1.toNat).scopes) h ayh be (h.own (sz:=1) (s:=sc) (vs:=ints (G.tk p.1.toNat).scopes)).sls (by simp[ints,Value.oneCell']) ah ah λs2 w h E7=> ?_
  have h:=pW hla ha (G.Al qL) h;have h:=h.bk 11;refine hC (j+1) _ _ ⟨?_,ah,?_⟩ ah
  ·rw[lY ⟨ah,ah⟩];omega
  ·have e:ints (iO G (o.take (j+1)))=ints (iO G (o.take j))++ints (G.tk p.1.toNat).scopes:=by
    unfold iO;rw[List.take_add_one,hpj];simp[ints]
   rw[e];exact h
 ·refine bh (by simp;omega) ?_
  have e:o.take j=o:=List.take_of_length_le ah;rw[e]at h;exact hk _ _ h.drop
theorem axr{k:Bool→aq}(h:St w0 w (SL l aa G R sp st sw))(hf:G.time.2.length≤100000)(hc:CK G.time)(hs:∀y∈G.time.2,oc G.C y.2=some (G.nd y.2)∧G.M.can l.wa.length (G.nd y.2).at_=true)(ht:G.M.can l.wa.length l.told=true)
  (hk:∀w',St w0 w' (SL l aa (Ys l G n).1 R sp st sw)→k (Ys l G n).2 w'):lp (some ⟨l.gs,0,none⟩) n w k:=by
 unfold lp Bl;unfold Ys at hk;with_reducible repeat' (first|refine an ?_|refine da h ?_|fail)
 obtain⟨now,S⟩:∃now S,G.time=(now,S):=⟨_,_,rfl⟩;refine Ko.azK (now:=G.time.1) (S:=G.time.2) hf hc h (λha s' w' h=> ?_) λha h=> ?_
 ·rw[if_pos ha]at hk;refine bh rfl ?_;refine amD (G:={G with time:=(G.time.1+n,Ko.NN G.time.2 (G.time.1+n))}) h (λx hx=> ?_) ht λw h=>hk w h
  obtain⟨y,hy,rfl⟩:=List.mem_map.1 hx;exact hs y (List.mem_filter.1 hy).1
 ·rw[if_neg (by rw[ha];simp)]at hk
  exact bO rfl (hk _ h)
theorem axs{k:Bool→aq}(h:St w0 w (SL l aa G R sp st sw))(ho:YB G o)(hs:∀x∈iO G o,(0≤x∧x<G.P.length)∧oc G.C x=some (G.nd x)∧G.M.can l.wa.length (G.nd x).at_=true)(ht:G.M.can l.wa.length l.told=true)
  (hk:∀w',St w0 w' (SL l aa (Yu l G o n).1 R sp st sw)→k (Yu l G o n).2 w'):lq (some ⟨l.gs,0,none⟩) n w k:=by
 unfold lq Bm;unfold Yu at hk;refine ao2 h ho λs1 w h=> ?_;have ZO:=uN (s:=s1) (vs:=ints (iO G o)) h;simp only[ints,List.length_map]at ZO;by_cases hn:0≤n∧n<(iO G o).length
 ·rw[if_pos hn]at hk;have hlt:n.toNat<(iO G o).length:=ah;have hg:(iO G o).getD n.toNat 0=(iO G o)[n.toNat]'hlt:=by rw[nI,j4 hlt];rfl
  rw[hg]at hk;have hx:=hs _ (List.getElem_mem hlt);generalize hxe:(iO G o)[n.toNat]'hlt=x at hk hx;have hxa:(ints (iO G o))[n.toNat]?=some (.int .i64 x):=by simp[ints,hlt,hxe]
  obtain⟨p,hp⟩:∃p,G.P[x.toNat]?=some p:=⟨_,j4 ah⟩;refine bS (λb w=>b=Yt G x∧St w0 w (bP 1 s1 (ints (iO G o))::SL l aa G R sp st sw)) (λJ hJ=> ?_) ?_
  ·with_reducible repeat' (first|refine aF h λw h=> ?_|fail)
   refine bh (by simp;omega) ?_
   with_reducible repeat' (first|refine an ?_|refine j5 h ?_|fail)
   refine vI (s:=s1) (vs:=ints (iO G o)) h hn.1 hxa ?_;refine rB (sz:=4) (s:=sp) (es:=G.P.map uw) (e:=uw p) h hx.1.1 (by rw[pz,hp];rfl) rfl ?_
   exact hJ _ _ ⟨by unfold Yt;rw[hp],h⟩
  clear h;rintro _ w ⟨rfl,h⟩;refine ay (λhb=> ?_) λhb=> ?_
  ·rw[if_pos hb]at hk;exact hk _ h.drop
  ·rw[if_neg (by rw[hb];simp)]at hk
   refine vI (s:=s1) (vs:=ints (iO G o)) h hn.1 hxa ?_;refine av h λg2 w h=> ?_;have h:=h.asS (g:=g2) (n:=1) (sz:=1) (cs:=[.int .i64 x]) rfl ah (by simp[Value.oneCell'])
   have h:=h.rm 1 rfl;simp only[Iw]at h;refine amD (ids:=[x]) h (λy hy=> ?_) ht λw h=>hk w h;simp at hy;subst hy;exact hx.2
 ·rw[if_neg hn]at hk;refine bS (λb w=>b=true∧St w0 w (bP 1 s1 (ints (iO G o))::SL l aa G R sp st sw)) (λJ hJ=> ?_) ?_
  ·with_reducible repeat' (first|refine aF h λw h=> ?_|fail)
   refine bO (by simp;omega) (hJ _ _ ⟨rfl,h⟩)
  clear h;rintro _ w ⟨rfl,h⟩;exact bO rfl (hk _ h.drop)
end
open Ck (pV)
open Fr (nR)
def roB(m:Lm)(v:Nat):List Ro:=[.top v,.bot v,.Vf v] ++(List.range (2 ^ m.lg.toNat)).map (.rg v m.lg.toNat)
def PG(m:Lm):Nat→List Ro
 |0=>[.told,.idle,.ask 0,.liv 0,.Xb,.PE]
 |v+1=>PG m v++roB m v
def YC(m:Lm):List Ro:=PG m m.n++[.ask 1,.liv 1] ++[.fk 0,.fv 0,.fw 0]
section
variable {w0 w:World} {L R:List HP} {a:Ad} {ps:Sl} {m:Lm} {M:bK} {P:List dH} {wa:List Nat} {l:Lc} {ro:List Ro} {r:Ro} {b:Int}
theorem aum{v:Nat}:(((roB m v).length:Nat):Int)=m.one:=by
 unfold roB Lm.one En;simp;omega
theorem Xj:∀v:Nat,(((PG m v).length:Nat):Int)=tQ m v
 |0=>by unfold tQ;simp[PG]
 |v+1=>by
  rw[Yv];show(((PG m v++roB m v).length:Nat):Int)=_;rw[tV,Int.natCast_add,Xj v,aum]
theorem acp:∀(v:Nat) (i:Nat),∃q,PG m (v+i)=PG m v++q
 |v,0=>⟨[],bc⟩
 |v,i+1=>by
  obtain⟨q,hq⟩:=acp v i;exact⟨q++roB m (v+i),by show PG m (v+i)++roB m (v+i)=_;rw[hq];simp⟩
theorem Z9{i v k:Nat}(hi:i<v)(hk:(roB m i)[k]?=some r):kY (PG m v) (tQ m i+k) r:=by
 obtain⟨q,hq⟩:=acp (m:=m) (i+1) (v - (i+1));rw[show i+1+(v - (i+1))=v from by omega]at hq
 rw[hq];refine kY.qG ?_;show kY (PG m i++roB m i) _ _;exact kY.new hk (by rw[Int.natCast_add,Xj])
theorem agp{i v:Nat}(hi:i<v):ZN (PG m v) i (tQ m i):=by
 refine⟨?_,Z9 (k:=1) hi rfl,Z9 (k:=2) hi rfl⟩;have:=Z9 (m:=m) (k:=0) (r:= .top i) hi rfl;simpa using this
theorem axt{i v k:Nat}(hi:i<v)(hk:k<2 ^ m.lg.toNat):kY (PG m v) (tQ m i+3+k) (.rg i m.lg.toNat k):=by
 have:=Z9 (m:=m) (k:=3+k) (r:= .rg i m.lg.toNat k) hi (by
  unfold roB;rw[uI bc];simp[hk])
 rw[show tQ m i+3+(k:Int)=tQ m i+((3+k:Nat):Int) by omega]
 exact this
theorem aeu{v k:Nat}(hk:([.told,.idle,.ask 0,.liv 0,.Xb,.PE]:List Ro)[k]?=some r):kY (PG m v) k r:=by
 obtain⟨q,hq⟩:=acp (m:=m) 0 v;rw[Nat.zero_add]at hq;rw[hq];exact kY.qG ⟨ah,hk⟩
theorem aiM:∀{v:Nat},kY (PG m v) b r→(∀i,r≠ .Vf i)∨∃i,i<v∧r= .Vf i∧b=tQ m i+2
 |0,h=>by
  refine .inl λi e=> ?_;subst e;obtain⟨_,h⟩:=h;have:=q6 h;simp[PG]at this
 |v+1,h=>by
  rcases kY.old (ro:=PG m v) (m:=roB m v) h with h|⟨k,hk,e⟩
  ·rcases aiM h with h|⟨i,h1,h2,h3⟩
   ·exact .inl h
   ·exact .inr ⟨i,ah,h2,h3⟩
  ·by_cases h3:k<3
   ·match k,h3 with
    |0,_=>refine .inl λi q=> ?_;subst q;cases hk
    |1,_=>refine .inl λi q=> ?_;subst q;cases hk
    |2,_=>
     cases hk
     refine .inr ⟨v,ah,rfl,?_⟩;rw[e,Int.natCast_add,Xj];rfl
   ·refine .inl λi q=> ?_;subst q;unfold roB at hk;rw[uI (by simp;omega)]at hk
    have:=q6 hk;simp at this
theorem aun{n:Nat}(hn:1≤n)(h:∀i,r≠ .Vf i):Ec l ro n r 0:=by
 cases r with
 |Vf i=>exact absurd rfl (h i)
 |PE=>exact⟨ah,ah⟩
 |ask s=>exact .inl rfl
 |rg v g k=>exact⟨ah,ah⟩
 |top v=>exact⟨fY,fY⟩
 |bot v=>exact⟨fY,fY⟩
 |fk x=>exact⟨ah,ah⟩
 |_=>trivial
theorem aAG(hm:m.OK)(v:Nat):6≤tQ m v:=by
 have:=m.Ka hm;have:=Xd m ah (Nat.zero_le v);unfold tQ at this ⊢;simp at this ⊢;omega
theorem axu(hm:m.OK)(h:m.total≤m.cells){x:Int}(h0:0≤x):(g2 m).M.get x=if x<6+m.n*m.one then(n8 m m.n).get x else 0:=by
 have hR:=acf hm h;have l1:(((g1 m).M.cells.length:Nat):Int)=8+m.n*m.one:=by
  have:=xu (M:=(n8 m m.n).tick m.n) (n:=2) ah;show((((n8 m m.n).tick m.n).grow 2).cells.length:Nat)=(_:Int);rw[this];show(((n8 m m.n).cells.length:Nat):Int)+2=_;rw[hR.len];omega
 show(((g1 m).M.tick m.n).grow 3).get x=_;by_cases h1:x<8+m.n*m.one
 ·rw[xx h0 (by show x<(((g1 m).M.cells.length:Nat):Int);rw[l1];exact h1),tA]
  show(((n8 m m.n).tick m.n).grow 2).get x=_;split
  ·rename_i h2;rw[xx h0 (by show x<(((n8 m m.n).cells.length:Nat):Int);rw[hR.len];exact h2),tA]
  ·rename_i h2;exact Xc (by show(((n8 m m.n).cells.length:Nat):Int)≤x;rw[hR.len];omega)
 ·rw[if_neg ah];exact Xc (by show(((g1 m).M.cells.length:Nat):Int)≤x;rw[l1];omega)
theorem aAH(hm:m.OK)(BL:wa.length=m.n):aej (nV a ps m wa):=by
 have:=hm.base;have:=hm.spare;refine⟨⟨hm.base.1,hm.base.2,hm.spare.1,hm.spare.2⟩,?_,?_⟩
 ·show 1≤wa.length;rw[BL];unfold Lm.n;omega
 ·show wa.length≤16;rw[BL];unfold Lm.n;omega
theorem amN(hm:m.OK)(h:m.total≤m.cells){i:Nat}(hi:i<m.n):ZL (nV a ps m wa) (PG m m.n) i ⟨tQ m i+3,m.lg⟩:=by
 have Tx:=m.ab7 hm;have ho:=m.Ka hm;have X0:=abw Tx.1 Tx.2.2;have hone:m.one=3+En m.lg:=rfl;have h1:=Xd m ah (show i+1≤m.n by omega)
 rw[Yv]at h1;have h2:tQ m m.n=6+m.n*m.one:=rfl;have h6:=aAG hm i;have hsz:=hm.cells;unfold Lm.total at h;refine⟨?_,Tx.2.1,λk hk=>axt hi hk⟩;unfold Rg.right;simp only[decide_eq_true_eq];unfold En at X0 hone;unfold Rg.pw;dsimp only;omega
theorem axv:CK ((0,[]):Int×List (Int×Int)):=⟨fY,fY,λy hy=>(by cases hy),λy hy=>(by cases hy),.nil,List.nodup_nil⟩
theorem axw(hm:m.OK)(h:m.total≤m.cells)(hz:m.cells≤65536)(BL:wa.length=m.n):Ty (nV a ps m wa) (YC m) (g2 m):=by
 have hR:=acf hm h;have ho:=m.Ka hm;have ux:=hR.n1;have hmul:m.one≤m.n*m.one:=by have:(1:Int)*m.one≤m.n*m.one:=Int.mul_le_mul_of_nonneg_right ah ah;omega
 obtain⟨h1,h2,h3,h4,h5⟩:=Ss hm m.n (by unfold Lm.total at h;omega)
 have hl0:(((PG m m.n).length:Nat):Int)=6+m.n*m.one:=Xj m.n;have hl:(((YC m).length:Nat):Int)=11+m.n*m.one:=by
  unfold YC;simp only[tV,List.length_cons,List.length_nil];omega
 have l1:(((g1 m).M.cells.length:Nat):Int)=8+m.n*m.one:=by
  have:=xu (M:=(n8 m m.n).tick m.n) (n:=2) ah;show((((n8 m m.n).tick m.n).grow 2).cells.length:Nat)=(_:Int);rw[this];show(((n8 m m.n).cells.length:Nat):Int)+2=_;rw[h3];omega
 have l2:(((g2 m).M.cells.length:Nat):Int)=11+m.n*m.one:=by
  have:=xu (M:=(g1 m).M.tick m.n) (n:=3) ah;show((((g1 m).M.tick m.n).grow 3).cells.length:Nat)=(_:Int);rw[this];show(((g1 m).M.cells.length:Nat):Int)+3=_;rw[l1];omega
 have hst:(g2 m).M.steps.length=m.n+1:=by rw[←h5];exact Sv.trans Sv
 have hb:∀{k:Nat} {r:Ro},([.told,.idle,.ask 0,.liv 0,.Xb,.PE]:List Ro)[k]?=some r→kY (YC m) k r:=λhk=>(aeu hk).qG.qG;have hs1:∀{k:Nat} {r:Ro},([.ask 1,.liv 1]:List Ro)[k]?=some r→kY (YC m) ((n8 m m.n).cells.length+k:Nat) r:=fun{k r} hk=>kY.qG (kY.new hk (by have:=hl0;have:=h3;omega))
 have ht1:∀{k:Nat} {r:Ro},([.fk 0,.fv 0,.fw 0]:List Ro)[k]?=some r→kY (YC m) ((g1 m).M.cells.length+k:Nat) r:=fun{k r} hk=>kY.new hk (by have:=hl0;have:=l1;simp only[tV,List.length_cons,List.length_nil];omega)
 have hC:(g2 m).C=[⟨-1,0,2⟩,⟨0,1,((n8 m m.n).cells.length:Nat)⟩]:=rfl;have hT:(g2 m).ts=[⟨0,0,1,((g1 m).M.cells.length:Nat),nR,ByteArray.mk #[],[],[1],0,0⟩]:=rfl;have hsz:(g2 m).M.size=m.cells:=h4;obtain⟨z1,z2⟩:=ace hm m.n (by unfold Lm.total at h;omega)
 have hdn:tQ m m.n=6+m.n*m.one:=rfl;refine{len:=by omega,ok:=hR.ok2,sz:=by rw[hsz];exact hz,stp:=by rw[hst];show _=wa.length+1;rw[BL],val:=λa' r hL=> ?_,told:=hb (k:=0) rfl,idle:=hb (k:=1) rfl,Xb:=hb (k:=4) rfl,PE:=hb (k:=5) rfl,sc:=λs x hx=> ?_,tk:=λx t ht=> ?_,c1:=(by rw[hC];simp),t1:=(by rw[hT];simp),pl:=rfl,kt:=λi x hx=> ?_,kl:=rfl,kk:=λi x hx=> ?_,ck:=axv,PF:=(λy hy=>by cases hy),cnt:= ?_,dr:=(by show(0:Nat)≤1024;decide)}
 ·rw[axu hm h hL.1,hT];have hzz:∀r:Ro,(∀i,r≠ .Vf i)→Ec (nV a ps m wa) (YC m) 1 r 0:=λr q=>aun (iv 1) q;rcases hL.old with hL|⟨k,hk,e⟩
  ·rcases hL.old with hL|⟨k,hk,e⟩
   ·have hlt:=hL.lt;rw[hl0]at hlt;rw[if_pos hlt];rcases aiM hL with q|⟨i,hi,rfl,rfl⟩
    ·rw[z1 a' hL.1 (by rw[hdn];exact hlt) λi hi=>(hL.ne (agp hi).Vf (q i))]
     exact hzz r q
    ·rw[z2 i hi];exact⟨_,rfl,(amN hm h hi).qG.qG⟩
   ·rw[if_neg ah];refine hzz r λi q=> ?_;subst q;have:=q6 hk;simp at this
  ·rw[if_neg (by simp only[tV,List.length_cons,List.length_nil]at e;omega)]
   refine hzz r λi q=> ?_;subst q;have:=q6 hk;simp at this
 ·rw[hC]at hx;match s,hx with
  |0,hx=>cases hx;exact⟨hb (k:=2) rfl,hb (k:=3) rfl,(by show(0:Int)≤0∧(0:Int)≤32;decide),λq=>absurd rfl q,λ_=>rfl⟩
  |1,hx=>cases hx;exact⟨hs1 (k:=0) rfl,hs1 (k:=1) rfl,(by show(0:Int)≤1∧(1:Int)≤32;decide),λq=>(by show(0:Int)≤0∧(0:Int)<1;decide),λq=>(by cases q)⟩
  |s+2,hx=>simp at hx
 ·rw[hT]at ht;match x,ht with
  |0,ht=>cases ht;exact⟨rfl,ht1 (k:=0) rfl,ht1 (k:=1) rfl,ht1 (k:=2) rfl,(by rw[hC];show(0:Int)≤0∧(0:Int)<2;decide),(by rw[hC];show(0:Int)≤1∧(1:Int)<2;decide),λp hp=>(by cases hp),(by show 0+0≤1;decide),(by rw[hC];show 1≤2;decide)⟩
  |x+1,ht=>simp at ht
 ·have hx:([⟨-1,0,[]⟩]:List Kt)[i]?=some x:=hx;match i,hx with
  |0,hx=>cases hx;exact⟨(by show(-1:Int)≤ -1;decide),(by show(-1:Int)<0;decide),λ_=>rfl⟩
  |i+1,hx=>simp at hx
 ·have hx:([⟨-1,0,[]⟩]:List Kt)[i]?=some x:=hx;match i,hx with
  |0,hx=>cases hx;exact(by show 0≤1;decide)
  |i+1,hx=>simp at hx
 ·rw[hC,hT];show 2*2+3*1≤_;omega
end
end Go.Proofs.YthidhjhkmjjckaaGreatDoor
namespace Go.Proofs.YthidhjhkmjjckaaGreatDoor
open Go Go.Ev Go.Proofs
open Ko (oe CK)
section
variable {w0 w:World} {L R:List HP} {l:Lc} {P:List dH} {bt:List Int} {ro:List Ro} {aa:List Nat} {G G':Gl} {Ws:List Wk} {n:Int} {gw:Nat} {W:Wk} {sp st sw:Sl} {o:List (Int×Int)}
theorem IV.drv(h:IV l P bt ro G Ws)(ty:Ty l ro G')(BO:ur ro ro G G' [])(hts:G'.ts=G.ts)(her:G'.err=0→G.err=0):IV l P bt ro G' Ws:=by
 have hK:∀x,x<G.ts.length→1≤G.K x→G'.K x=G.K x:=λx hx h1=>(BO.K1 x hx bc h1).1;refine⟨h.lc,h.lg,h.acc,ty,h.wn,h.dl,h.dq,λi W hi=>(h.w i W hi).imp BO (λx _=>by simp) her,h.dj,λx hx hk=> ?_⟩
 rw[hts]at hx ⊢;have:G'.tk x=G.tk x:=by unfold Gl.tk;rw[hts]
 rw[this];exact h.fr x hx (BO.K0 x hx hk)
theorem auo(h:Ty l ro G){wk s:Int}(hs:0≤s∧s<G.C.length):Ty l ro (G.EX wk s)∧ur ro ro G (G.EX wk s) []∧(G.EX wk s).ts=G.ts∧(G.EX wk s).C=G.C∧(G.EX wk s).err=G.err:=by
 obtain⟨hsc,FB⟩:=h.RP hs.1 hs.2;have hlt:=FB.a.lt;rw[h.len]at hlt;have sK:∀b,0≤b→(G.M.cs wk (G.nd s).at_ 0 1).1.get b=if b=(G.nd s).at_∧G.M.get (G.nd s).at_=0 then 1 else G.M.get b:=λb hb=>Z7 FB.a.1 hlt hb
 have hK:∀y,y<G.ts.length→(G.EX wk s).K y=G.K y∧(G.EX wk s).V y=G.V y:=λy hy=>by
  have hk:=(h.pX hy).k;have hv:=(h.pX hy).v;have n1:=hk.ne FB.a bc;have n2:=hv.ne FB.a bc;show(G.M.cs _ _ _ _).1.get (G.tk y).jC=_∧(G.M.cs _ _ _ _).1.get ((G.tk y).jC+1)=_;rw[sK _ hk.1,if_neg (λq=>n1 q.1),sK _ hv.1,if_neg (λq=>n2 q.1)];exact⟨rfl,rfl⟩
 refine⟨h.cs FB.a (.inr rfl),⟨⟨[],bc⟩,iv _,λ_ _ _=>rfl,λ_ _=>⟨rfl,rfl,rfl⟩,⟨[],by simp[Gl.EX,Gl.mem]⟩,λy hy q=>by rw[←(hK y hy).1];exact q,λy hy _ _=>hK y hy,λy hy _=>hK y hy,λs' ⟨nd,h1,h2⟩=>⟨nd,h1,?_⟩⟩,rfl,rfl,rfl⟩
 show(G.M.cs _ _ _ _).1.get _≠0;rw[sK _ (I9 h h1).1];split
 ·decide
 ·exact h2
theorem ur.Vk{ro iP ro2:List Ro}{G G' G2:Gl}(h:ur ro iP G G' [])(k:ur iP ro2 G' G2 []):ur ro ro2 G G2 []:=h.trans k (.inr λx hx=>by cases hx)
theorem ur.refl(ro:List Ro)(G:Gl):ur ro ro G G []:=⟨⟨[],bc⟩,iv _,λ_ _ _=>rfl,λ_ _=>⟨rfl,rfl,rfl⟩,⟨[],bc⟩,λ_ _ q=>q,λ_ _ _ _=>⟨rfl,rfl⟩,λ_ _ _=>⟨rfl,rfl⟩,λ_ q=>q⟩
theorem aev(hM:G'.M=G.M)(hts:G'.ts=G.ts)(hC:G'.C=G.C):ur ro ro G G' []:=by
 cases G'
 dsimp only at hM hts hC;subst hM;subst hts;subst hC;exact⟨⟨[],bc⟩,iv _,λ_ _ _=>rfl,λ_ _=>⟨rfl,rfl,rfl⟩,⟨[],bc⟩,λ_ _ q=>q,λ_ _ _ _=>⟨rfl,rfl⟩,λ_ _ _=>⟨rfl,rfl⟩,λ_ q=>q⟩
theorem aiN(wk:Int):∀(ids:List Int) (G:Gl),Ty l ro G→(∀x∈ids,0≤x∧x<G.C.length)→Ty l ro (r8 wk G ids)∧ur ro ro G (r8 wk G ids) []∧(r8 wk G ids).ts=G.ts∧(r8 wk G ids).C=G.C∧(r8 wk G ids).err=G.err
 |[],G,h,_=>⟨h,ur.refl ro G,rfl,rfl,rfl⟩
 |s::ids,G,h,hs=>by
  obtain⟨h1,h2,h3,h4,h5⟩:=auo h (wk:=wk) (hs s bc);obtain⟨k1,k2,k3,k4,k5⟩:=aiN wk ids (G.EX wk s) h1 λx hx=>by rw[h4];exact hs x (by simp[hx])
  exact⟨k1,h2.Vk k2,k3.trans h3,k4.trans h4,k5.trans h5⟩
theorem aiO{ids:List Int}(h:Ty l ro G)(hs:∀x∈ids,0≤x∧x<G.C.length):Ty l ro (Uc l G ids)∧ur ro ro G (Uc l G ids) []∧(Uc l G ids).ts=G.ts∧(Uc l G ids).C=G.C∧(Uc l G ids).err=G.err:=by
 unfold Uc;split
 ·exact⟨h,ur.refl ro G,rfl,rfl,rfl⟩
 ·obtain⟨k1,k2,k3,k4,k5⟩:=aiN (l.wa.length:Nat) ids G h hs;exact⟨k1.ad k1.told trivial,k2.Vk (agj k1 k1.told (λq=>q)),k3,k4,k5⟩
theorem aup{kind:Int}(h:IV l P bt ro G Ws)(ho:∀x∈iO G o,0≤x∧x<G.C.length):∃iP,IV l P bt iP (RL l P G Ws o kind n).1.1 (RL l P G Ws o kind n).1.2:=by
 unfold RL;split
 ·exact⟨ro,h⟩
 rename_i he;have he:G.err=0:=Classical.not_not.1 he;split
 ·unfold Yr;split
  ·split
   ·rename_i W hW;split
    ·rw[h.dl];obtain⟨iP,_,hr⟩:=h.step hW he;exact⟨iP,hr⟩
    ·exact⟨ro,h⟩
   ·exact⟨ro,h⟩
  ·exact⟨ro,h⟩
 split
 ·unfold Ys;split
  ·rename_i ha;have ty1:Ty l ro {G with time:=(G.time.1+n,Ko.NN G.time.2 (G.time.1+n))}:={h.ty with ck:=h.ty.ck.adv ha,PF:=λy hy=>h.ty.PF y (List.mem_filter.1 hy).1}
   have aue:ur ro ro G {G with time:=(G.time.1+n,Ko.NN G.time.2 (G.time.1+n))} []:=aev rfl rfl rfl;obtain⟨k1,k2,k3,k4,k5⟩:=aiO (ids:=Ko.ids (Ko.abN G.time.2 (G.time.1+n))) ty1 λx hx=>by
    obtain⟨y,hy,rfl⟩:=List.mem_map.1 hx;have hm:=(List.mem_filter.1 hy).1;exact⟨h.ty.ck.ids y hm,h.ty.PF y hm⟩
   exact⟨ro,h.drv k1 (aue.Vk k2) k3 (λe=>by rw[←k5];exact e)⟩
  ·exact⟨ro,h⟩
 split
 ·split
  ·rename_i hd;have ty1:Ty l ro {G with D:=G.D++[n]}:={h.ty with dr:=by show(G.D++[n]).length≤_;simp;omega}
   exact⟨ro,h.drv ty1 (aev rfl rfl rfl) rfl (λe=>e)⟩
  ·exact⟨ro,h⟩
 split
 ·unfold Yu;split
  ·rename_i hn;split
   ·exact⟨ro,h⟩
   ·have hlt:n.toNat<(iO G o).length:=ah;have hg:(iO G o).getD n.toNat 0=(iO G o)[n.toNat]'hlt:=by rw[nI,j4 hlt];rfl
    obtain⟨k1,k2,k3,k4,k5⟩:=aiO (ids:=[(iO G o).getD n.toNat 0]) h.ty λx hx=>by
     simp only[List.mem_singleton]at hx;rw[hx,hg];exact ho _ (List.getElem_mem hlt)
    exact⟨ro,h.drv k1 k2 k3 (λe=>by rw[←k5];exact e)⟩
  ·exact⟨ro,h⟩
 ·exact⟨ro,h⟩
theorem aDl{kind:Int}{k:Bool→aq}(hI:IV l P bt ro G Ws)(hF:iN w0 l.ps P)(hT:TZ w0)(ho:YB G o)(hs:∀x∈iO G o,0≤x∧x<G.C.length)(h:xk w0 w l aa G Ws R)
  (hk:∀I3 w',xk w0 w' l I3 (RL l P G Ws o kind n).1.1 (RL l P G Ws o kind n).1.2 R→k (RL l P G Ws o kind n).2 w'):nH (some ⟨l.gs,0,none⟩) #[.int .i64 kind,.int .i64 n] w k:=by
 unfold nH D3;unfold RL at hk;have hdc:G.M.caller l.wa.length=true:=I4 hI.ty.stp ah ah;have amM:∀x:Int,0≤x→x<G.C.length→oc G.C x=some (G.nd x)∧G.M.can l.wa.length (G.nd x).at_=true:=λx h0 h1=>by
  obtain⟨a,b⟩:=hI.ty.RP h0 h1;exact⟨a,b.a.can hI.ty.len hdc⟩
 have htold:G.M.can l.wa.length l.told=true:=hI.ty.told.can hI.ty.len hdc;refine av h λg1 w h=> ?_;have h:St w0 w (ax g1 [.int .i64 kind,.int .i64 n]::Ub l aa G::lZ (qx l aa) (l.wa.zip Ws)::R):=h;have h2:=h.drop;obtain⟨sp,st,sw,h3⟩:=xw h2;refine bS (λb w=>b=decide (G.err≠0)∧St w0 w (ax g1 [.int .i64 kind,.int .i64 n]::Ub l aa G::lZ (qx l aa) (l.wa.zip Ws)::R)) (λJ hJ=> ?_) ?_
 ·refine bh rfl (an (aI h3 rfl (hJ _ _ ⟨?_,h⟩)));by_cases e:G.err=0<;>simp[e]
 clear h h2 h3;rintro _ w ⟨rfl,h⟩;by_cases he:G.err=0;rotate_left
 ·rw[if_pos he]at hk;exact bO (by simp[he]) (hk aa _ h.drop)
 rw[if_neg (by simp[he])]at hk
 refine bh (by simp[he]) ?_
 refine cn (g:=g1) (o:=0) h rfl ?_;refine ay (λhb=> ?_) λhb=> ?_
 ·rw[if_pos (by simpa using hb)]at hk
  refine cn (g:=g1) (o:=1) h rfl ?_;have h:=h.drop;refine awX (P:=P) hF hT hI.lc hI.wn hI.ty.ok he (hI.ty.PE.given hI.ty.len) (hI.ty.told.given hI.ty.len) (λi W hi _ _=> ?_) h hk;rw[hI.dl];exact hI.ok hi he hF
 rw[if_neg (by simpa using hb)]at hk
 clear hb;refine ay (λhb=> ?_) λhb=> ?_
 ·rw[if_pos (by simpa using hb)]at hk
  refine cn (g:=g1) (o:=1) h rfl ?_;obtain⟨sp,st,sw,h3⟩:=xw h.drop;refine axr h3 hI.ty.ZJ hI.ty.ck (λy hy=>amM _ (hI.ty.ck.ids y hy) (hI.ty.PF y hy)) htold λw' h'=> ?_;exact hk aa w' (tw h')
 rw[if_neg (by simpa using hb)]at hk
 clear hb;refine ay (λhb=> ?_) λhb=> ?_
 ·rw[if_pos (by simpa using hb)]at hk
  obtain⟨sp,st,sw,h⟩:=xw h.swap;with_reducible repeat' (first|refine an ?_|refine aF h λw h=> ?_|refine da h ?_|refine cS h ?_|refine av h λgx w h=> ?_|refine ja h ?_|fail)
  have h:=h.fr 9;refine ary (l:=sp) h.swap (λhd w h=> ?_) (λhd w h=> ?_) hI.ty.dr
  ·rw[if_pos hd]at hk;have h:=h.bk 8;have h:=h.Ek 10;exact hk aa _ (tw (G:={G with D:=G.D++[n]}) h)
  ·rw[if_neg hd]at hk;have h:=h.bk 8;have h:=h.Ek 10;exact hk aa _ (tw h)
 rw[if_neg (by simpa using hb)]at hk
 clear hb;refine ay (λhb=> ?_) λhb=> ?_
 ·rw[if_pos (by simpa using hb)]at hk
  refine cn (g:=g1) (o:=1) h rfl ?_;obtain⟨sp,st,sw,h3⟩:=xw h.drop;refine axs h3 ho (λx hx=> ?_) htold λw' h'=> ?_
  ·have:=hs x hx;exact⟨by rw[hI.ty.pl];exact this,amM x this.1 this.2⟩
  ·exact hk aa w' (tw h')
 rw[if_neg (by simpa using hb)]at hk
 exact hk aa _ h.drop
end
open Ck (pV)
open Fr (nR)
def dqN(m:Lm):List Int:=(GF m).map λW:Wk=>W.dq
section
variable {w0 w:World} {L R:List HP} {a:Ad} {ps:Sl} {m:Lm} {M:bK} {P:List dH} {wa:List Nat} {l:Lc} {ro:List Ro} {r:Ro} {b:Int}
theorem auq(hm:m.OK)(h:m.total≤m.cells)(hz:m.cells≤65536)(BL:wa.length=m.n):Ty (nV a ps m wa) (YC m) (I5 m):=by
 have hR:=acf hm h;have h2:=axw (a:=a) (ps:=ps) hm h hz BL;have hL3:kY (YC m) 3 (.liv 0):=(aeu (k:=3) rfl).qG.qG;have h3:Ty (nV a ps m wa) (YC m) (g3 m):=h2.ad hL3 trivial;have VH:tQ m 0=6:=by unfold tQ;simp
 have G7:ZL (nV a ps m wa) (YC m) 0 ⟨9,m.lg⟩:=by
  have:=amN (a:=a) (ps:=ps) (wa:=wa) hm h (i:=0) hR.n1;rw[VH]at this;exact this.qG.qG
 have B2:=G7.place 0;have hb:=(agp (m:=m) (i:=0) (v:=m.n) hR.n1).bot;rw[VH]at hb;have h4:Ty (nV a ps m wa) (YC m) ((g3 m).mem ((((((g3 m).M.tick m.n).tick m.n).tick m.n).tick m.n).put ((Rg.mk 9 m.lg).place 0) 0)):=h3.put (M:=((((g3 m).M.tick m.n).tick m.n).tick m.n).tick m.n) ⟨rfl,rfl,bc⟩ B2 (by show(0:Int)≤0∧(0:Int)<1;decide)
 exact h4.put (M:=(((((g3 m).M.tick m.n).tick m.n).tick m.n).tick m.n).put ((Rg.mk 9 m.lg).place 0) 0|>.tick m.n) ⟨rfl,rfl,by simp[Gl.mem]⟩ hb.qG.qG (by show uJ 1;exact⟨fY,fY⟩)
theorem aew:(GF m).length=m.n:=by unfold GF Ji;simp
theorem aiP{i:Nat}{W:Wk}(h:(GF m)[i]?=some W):i<m.n∧W=ZK i (tQ m i):=by
 have hl:=(kJ.1 h).1;rw[aew]at hl;refine⟨hl,?_⟩;unfold GF Ji at h;rw[pz,List.getElem?_range hl]at h;simpa using h.symm
theorem amO{i:Nat}(h:i<m.n):(dqN m).getD i 0=tQ m i:=by
 unfold dqN GF Ji;simp[nI,h,ZK]
theorem aAN(hm:m.OK)(h:m.total≤m.cells)(hz:m.cells≤65536)(BL:wa.length=m.n)(hA:pV P):IV (nV a ps m wa) P (dqN m) (YC m) (I5 m) (GF m):=by
 refine⟨aAH hm BL,hm.log,hA,auq hm h hz BL,by rw[aew];exact BL,rfl,λv hv=> ?_,λi W hi=> ?_,λi j Wi Wj x hi hj hx=> ?_,λx hx hk=> ?_⟩
 ·have hv:v<m.n:=by have hv:v<wa.length:=hv;rw[BL]at hv;exact hv
  rw[amO hv];exact(agp hv).qG.qG
 ·obtain⟨hl,rfl⟩:=aiP hi;refine⟨rfl,by show i<wa.length;rw[BL];exact hl,by rw[amO hl];rfl,trivial,?_,λx hx=>(by cases hx),λ_=>(show([]:List Nat)=[]from rfl),λ_=>⟨λ_=>⟨rfl,rfl⟩,λq=>(by cases q),λq=>(by rcases q with q|q<;>cases q)⟩,λx hx=>(by cases hx),List.nodup_nil⟩
  show((0:Nat):Int)≤m.deep;have:=hm.deep;omega
 ·obtain⟨hl,rfl⟩:=aiP hi;cases hx
 ·have hx:x<1:=hx;have hx:x=0:=ah;subst hx;exact⟨FI.root hA,rfl,rfl,rfl,rfl,rfl⟩
end
end Go.Proofs.YthidhjhkmjjckaaGreatDoor
namespace Go.Proofs.YthidhjhkmjjckaaGreatDoor
open Go Go.Ev Go.Proofs
open Ko (oe CK)
def Eg(G:Gl)(Ws:List Wk):Bool:=Ws.all (λW:Wk=>W.stack.isEmpty)&&decide (2≤G.K 0)
section
variable {w0 w:World} {L R:List HP} {l:Lc} {P:List dH} {bt:List Int} {ro:List Ro} {aa:List Nat} {G:Gl} {Ws:List Wk} {n:Int} {os:List (Nat×Wk)} {f:HP→List HP}
theorem axx{n gj:Nat}{Wj:Wk}{c:Sl→Prop}(h:St w0 w L)[a:At L (lZ (qx l aa)) os f](hn:os[n]?=some (gj,Wj))(hc:∀s:Sl,s.n=Wj.stack.length→c s):cC w (aY ⟨gj,0,none⟩ 5) c:=by
 obtain⟨R,ho,_⟩:=a.out;obtain⟨q,hq,h2⟩:=abQ (Iy (ho h) hn);have hl:=uN (s:=q.ss) (vs:=q.rV.reverse) h2;have:=hq.rV.len;refine aS (g:=gj) h2 (p:=q.ss.a) (m:=q.ss.n) (k:=q.ss.c) vw ?_;exact hc _ (by simp at hl;show q.ss.n=_;omega)
theorem axy{x a:Nat}{t:Tk}{c:Array Value→Prop}(h:St w0 w L)[a1:At L (L1 aa) G.ts f](ha:aa[x]?=some a)(ht:G.ts[x]?=some t)(hc:c #[.int .i64 t.jC]):bD 1 w (aY ⟨a,0,none⟩ 3) c:=by
 obtain⟨R,ho,_⟩:=a1.out;obtain⟨so,sc,h2⟩:=sG (ho h) ha ht;refine bA (g:=a) h2 vw ?_;exact hc
theorem aiQ{k:Bool→aq}(hI:IV l P bt ro G Ws)(h:xk w0 w l aa G Ws R)(hk:∀w',xk w0 w' l aa G Ws R→k (Eg G Ws) w'):dJ (some ⟨l.gs,0,none⟩) w k:=by
 have hlc:=hI.lc;have hwn:=hI.wn;have aFT:=hlc.w16;obtain⟨sp,st,sw,h⟩:=xw h;have hn5:=uN (s:=sw) (vs:=l.wa.map pt) h;rw[List.length_map]at hn5;have hla:=NP (h.front 9 rfl);unfold dJ zv;refine bh rfl ?_;with_reducible repeat' (first|refine an ?_|refine j5 h ?_|fail)
 refine bS (λ_ w=>Ws.all (λW:Wk=>W.stack.isEmpty)=true∧St w0 w (SL l aa G (lZ (qx l aa) (l.wa.zip Ws)::R) sp st sw)) (λJ hJ=> ?_) ?_
 ·refine Qa (G:=Nat) (λj i w=>i=(j:Int)∧j≤Ws.length∧(Ws.take j).all (λW:Wk=>W.stack.isEmpty)=true∧St w0 w (SL l aa G (lZ (qx l aa) (l.wa.zip Ws)::R) sp st sw)) (λj=>Ws.length - j) (g:=0) ⟨rfl,ah,rfl,h⟩ ?_;clear h;rintro j i w ⟨hi,hj,ha,h⟩ C hC;subst hi;by_cases hlt:j<Ws.length;rotate_left
  ·have e:j=Ws.length:=ah;subst e;rw[List.take_length]at ha;exact bh (by simp;omega) (hJ _ _ ⟨ha,h⟩)
  refine bO (by simp;omega) ?_
  obtain⟨gw,hgw⟩:∃g,l.wa[j]?=some g:=⟨_,j4 ah⟩;have hW:Ws[j]?=some (Ws[j]'hlt):=j4 hlt;refine vP (s:=sw) (vs:=l.wa.map pt) h ah (x:=some ⟨gw,0,none⟩) (by rw[kR,pz,hgw];rfl) ?_
  with_reducible repeat' (first|refine an ?_|fail)
  refine axx (l:=l) (aa:=aa) (os:=l.wa.zip Ws) (n:=j) (gj:=gw) (Wj:=Ws[j]'hlt) h (by rw[List.getElem?_zip_eq_some];exact⟨hgw,hW⟩) λs hs=> ?_
  have hne:(decide (((s.n:Nat):Int)>0))= !(Ws[j]'hlt).stack.isEmpty:=by
   rw[hs];cases (Ws[j]'hlt).stack<;>simp
  rw[hne];cases he:(Ws[j]'hlt).stack.isEmpty with
  |false=>
   refine bO rfl ?_;have hq:Eg G Ws=false:=by
    unfold Eg;have:Ws.all (λW:Wk=>W.stack.isEmpty)=false:=by
     rw[List.all_eq_false];exact⟨_,List.getElem_mem hlt,by rw[he];simp⟩
    rw[this];rfl
   rw[hq]at hk;exact hk _ (tw h)
  |true=>
   refine bh rfl ?_;refine hC (j+1) _ _ ⟨by rw[lY ⟨ah,ah⟩];rfl,ah,?_,h⟩ ah
   rw[List.take_add_one,hW,List.all_append,ha];show(true&&((Ws[j]'hlt).stack.isEmpty&&true))=true;rw[he];rfl
 clear h;rintro _ w ⟨ha,h⟩;have hx:0<G.ts.length:=hI.ty.t1;obtain⟨a,haa⟩:=Ym (aa:=aa) hla (G.Al hx);with_reducible repeat' (first|refine an ?_|refine aF h λw h=> ?_|refine j5 h ?_|fail)
 refine vP (s:=st) (vs:=aa.map pt) h ah (x:=some ⟨a,0,none⟩) (by show(aa.map pt)[0]?=_;rw[pz,haa];rfl) ?_
 with_reducible repeat' (first|refine an ?_|fail)
 refine axy (G:=G) (x:=0) (a:=a) h haa (G.Al hx) ?_;with_reducible repeat' (first|refine an ?_|refine da h ?_|fail)
 have hT:=hI.ty.pX hx;have hl:=hI.ty.len;refine ahr (M:=G.M) h hI.ty.ok (by have:=hT.k.given hl;simpa using this) (hT.v.given hl) (hT.w.given hl) λw h=> ?_
 have e:Eg G Ws=decide (G.M.get ((G.tk 0).jC+0)≥2):=by
  unfold Eg;rw[ha,Int.add_zero];rfl
 rw[e]at hk;exact hk _ (tw h)
theorem amP{k:Int→aq}(h:xk w0 w l aa G Ws R)(hk:∀w',xk w0 w' l aa G Ws R→k G.err w'):eD (some ⟨l.gs,0,none⟩) w k:=by
 obtain⟨sp,st,sw,h⟩:=xw h;unfold eD;refine bh rfl ?_;with_reducible repeat' (first|refine an ?_|refine cS h ?_|fail)
 exact hk _ (tw h)
theorem aur{k:Int→aq}(h:xk w0 w l aa G Ws R)(hk:∀w',xk w0 w' l aa G Ws R→k (G.M.cells.length:Nat) w'):kq (some ⟨l.gs,0,none⟩) w k:=by
 obtain⟨sp,st,sw,h⟩:=xw h;unfold kq Bo;refine bh rfl ?_;with_reducible repeat' (first|refine an ?_|refine da h ?_|fail)
 refine alV (M:=G.M) h ?_;exact hk _ (tw h)
end
theorem ak8{e:List Value}(he:0<e.length):∀n:Nat,madeCells e.toArray (n*e.length)=(dM n e).flatten.toArray:=by
 intro n;apply Array.ext
 ·simp[madeCells]
 ·intro j h1 h2;have hj:j % e.length<e.length:=Nat.mod_lt _ he;have key:∀(n j:Nat),j<n*e.length→(dM n e).flatten[j]?=e[j % e.length]?:=by
   intro n;induction n with
   |zero=>intro j hj;omega
   |succ n ih=>
    intro j hj;rw[List.replicate_succ,List.flatten_cons];by_cases hlt:j<e.length
    ·rw[sZ hlt,Nat.mod_eq_of_lt hlt]
    ·rw[uI ah,ih (j - e.length) (by rw[Nat.succ_mul]at hj;omega)]
     congr 1;exact(Nat.mod_eq_sub_mod ah).symm
  have hlen:j<n*e.length:=by simpa[madeCells]using h1
  have:=key n j hlen;rw[j4 hj,j4 (by simpa using h2)]at this
  have:=Option.some.inj this;simp[madeCells,hj,this]
section
variable {w0 w:World} {L R:List HP} {l:Lc} {P:List dH} {bt:List Int} {ro:List Ro} {aa:List Nat} {G:Gl} {Ws:List Wk} {n:Int} {os:List (Nat×Wk)} {f:HP→List HP} {sp st sw:Sl} {o:List (Int×Int)}
theorem axz{P:Program}{t:TypeId}{b sz:Nat}{z:Value}{e:List Value}{n:Nat}{kl kc:IntKind}{c:Sl→aq}(h:St w0 w L)(ht:GM P t sz b z)(hz:z.cells=e.toArray)(hsz:0<sz)(he:e.length=sz)(hv:∀v∈e,v.oneCell'=true)
  (hbytes:b*n≤281474976710656) (h63:n≤9223372036854775807)
  (hc:∀s w',St w0 w' (rws sz s (dM n e)::L)→s.n=n→c s w'):Bt P t (.int kl (n:Int)) (.int kc (n:Int)) w c:=by
 obtain⟨e',i,hte,hi,hs,hby,Zo⟩:=ht.out;have hb':(i.bytes:Int)*(n:Int)≤281474976710656:=by
  have h:((b*n:Nat):Int)≤281474976710656:=ah;rw[Int.natCast_mul]at h;rwa[hby]
 have hr:=Go.run_make (P:=P) w t e' i z hte hi Zo kl kc n n ah (Int.le_refl _) hb' ah;unfold Bt;rw[hr,hs,hz,kR];show c ⟨some ⟨w.heap.size,0,none⟩,n,n⟩ _;refine hc _ _ (St.pur (λx hx=>by rw[(List.mem_replicate.1 hx).2];exact he) (h.new (E4 w _) (F':=λk=>k=w.heap.size) ⟨λk=>by simp[Sl.ax,eq_comm],qf.new (n:=n) ?_ (by simp[he]) h63 λx hx=> ?_⟩ λk hk=>by rw[hk];exact iv _)) rfl
 ·rw[←ak8 ah,he];exact pG.new w _ e'
 ·obtain⟨y,hy,hx⟩:=List.mem_flatten.1 hx;rw[(List.mem_replicate.1 hy).2]at hx;exact hv x hx
def agq:Nat→List (Int×Int)→List Int→List Int
 |_,[],a=>a
 |j,p::o,a=>agq (j+1) o (a.set p.1.toNat (j:Int))
def lV(G:Gl)(o:List (Int×Int)):List Int:=agq 0 o (dM G.ts.length 0)
theorem axA{k:Sl→aq}(h:St w0 w (SL l aa G R sp st sw))(ho:YB G o)(hn:G.ts.length≤100000)(hk:∀s w',St w0 w' (bP 1 s (ints (lV G o))::SL l aa G R sp st sw)→(lV G o).length=G.ts.length→k s w'):ko (some ⟨l.gs,0,none⟩) w k:=by
 unfold ko Bn;have hla:=NP (h.front 9 rfl);have hst:=uN (s:=st) (vs:=aa.map pt) h;rw[List.length_map,hla]at hst;with_reducible repeat' (first|refine an ?_|refine j5 h ?_|fail)
 refine Ao (n:=st.n) (z:= .int .i64 0) (b:=8) h ⟨be,be⟩ rfl ah ah λs3 w h h3=> ?_;with_reducible repeat' (first|refine an ?_|refine da h ?_|fail)
 have e0:dM st.n (Value.int .i64 0)=ints (dM G.ts.length 0):=by simp[ints,hst]
 rw[e0]at h;refine aht (T:=G.T) h ho.kids ho.len ho.dfs λs5 w h=> ?_;have h5n:=uN (s:=s5) (vs:=ints (o.map λp:Int×Int=>p.1)) h;simp only[ints,List.length_map]at h5n;have hol:=ho.len;refine Qa (G:=Nat×List Int) (λq i w=>i=((q.1:Nat):Int)∧q.1≤o.length∧q.2.length=G.ts.length∧agq q.1 (o.drop q.1) q.2=lV G o∧St w0 w (bP 1 s5 (ints (o.map λp:Int×Int=>p.1))::bP 1 s3 (ints q.2)::SL l aa G R sp st sw)) (λq=>o.length - q.1) (g:=(0,dM G.ts.length 0)) ⟨rfl,ah,bc,rfl,h⟩ ?_;clear h;rintro⟨j,a⟩ i w ⟨hi,hj,hal,CU,h⟩ C hC;dsimp only at hi hj hal CU h;subst hi;by_cases hlt:j<o.length
 ·refine bO (by simp;omega) ?_
  have vq:=ho.ids _ (List.getElem_mem hlt);rw[List.drop_eq_getElem_cons hlt]at CU;generalize hp:o[j]'hlt=p at vq CU;have hpj:o[j]?=some p:=by rw[j4 hlt,hp]
  refine vI (s:=s5) (vs:=ints (o.map λp:Int×Int=>p.1)) h ah (x:=p.1) (by simp[ints,hpj]) ?_
  refine y9 (s:=s3) (xs:=a) h vq.1 (by rw[hal];omega) λw h=> ?_
  refine hC (j+1,a.set p.1.toNat (j:Int)) _ _ ⟨?_,by dsimp only;omega,by simp[hal],CU,h⟩ (by dsimp only;omega)
  rw[lY ⟨ah,ah⟩];rfl
 ·refine bh (by simp;omega) ?_
  have e:j=o.length:=ah;subst e;rw[List.drop_length]at CU;have CU:a=lV G o:=CU;subst CU;exact hk _ _ h.drop hal
end
def Eh(p:Int)(k f kd v st:Int)(c:ByteArray):List Value:=[.int .i64 p,.int .i64 k,.int .i64 f,.int .i64 kd,.int .i64 v,.int .i64 st,.string c]
def rowAt(G:Gl)(r:List Int)(p:Int×Int):List Value:=
 let t:=G.tk p.1.toNat
 Eh (if 0≤p.2 then r.getD p.2.toNat 0 else -1) (G.P.getD t.lX.toNat (0,0,0,false)).2.1 (t.f.getD 0 0) (G.K p.1.toNat) (if G.K p.1.toNat<2 then 0 else G.V p.1.toNat) (t.f.getD 18 0) t.gF
def Jb(G:Gl)(r:List Int)(T:List (List Value)):List (Int×Int)→List (List Value)
 |[]=>T
 |p::o=>Jb G r (T.set (r.getD p.1.toNat 0).toNat (rowAt G r p)) o
def agr(G:Gl)(o:List (Int×Int)):List (List Value):=Jb G (lV G o) (dM G.ts.length (Eh 0 0 0 0 0 0 (ByteArray.mk #[]))) o
theorem aDo:GM Tryz.prog 35 7 64 (.agg #[.int .i64 0,.int .i64 0,.int .i64 0,.int .i64 0,.int .i64 0,.int .i64 0,.string (ByteArray.mk #[])]):=⟨be,be⟩
theorem acq(G:Gl)(r:List Int):∀(a b:List (Int×Int)) (T:List (List Value)),Jb G r T (a++b)=Jb G r (Jb G r T a) b
 |[],b,T=>rfl
 |p::a,b,T=>acq G r a b _
theorem acr(G:Gl)(r:List Int):∀(a:List (Int×Int)) (T:List (List Value)),(Jb G r T a).length=T.length
 |[],T=>rfl
 |p::a,T=>by rw[Jb,acr G r a];simp
section
variable {w0 w:World} {L R:List HP} {l:Lc} {P:List dH} {bt:List Int} {ro:List Ro} {aa:List Nat} {G:Gl} {Ws:List Wk} {n:Int} {os:List (Nat×Wk)} {f:HP→List HP} {sp st sw:Sl} {o:List (Int×Int)}
abbrev TbP(l:Lc)(aa:List Nat)(G:Gl)(sp st sw:Sl)(g1 g7 g13:Nat)(s5 s11:Sl)(r:List Int)(T:List (List Value)):List HP:=
 [ax g1 [pt l.gs],ax g13 [.slice s11.a s11.n s11.c],rws 7 s11 T,ax g7 [.slice s5.a s5.n s5.c],bP 1 s5 (ints r),ax l.gs (l.cs sp st sw G.steps G.err),bI l.gm G.M,scp l.gc G.C,rws 4 sp (G.P.map uw),bP 1 st (aa.map pt),bP 1 sw (l.wa.map pt),oe l.gt G.time,KO l.gd G.D,L1 aa G.ts]
theorem aut{g o j:Nat}{v:Value}{w':World}{c:Prop}(h:w.cell? ⟨g,o+j,none⟩=some v)(h':w'.cell? ⟨g,o+j,none⟩=some v)(hc:c):ai 1 (aY ⟨g,o,none⟩ j) w w' c:=by rw[cY];exact aaR h h' hc
abbrev TbB(l:Lc)(aa:List Nat)(G:Gl)(sp st sw:Sl)(g1 g7 g13:Nat)(s5 s11:Sl)(r:List Int)(T:List (List Value))(a x:Nat)(so sc:Sl)(Rr:List HP):List HP:=
 ax a ((G.tk x).cells so sc)::rws 2 so ((G.tk x).cD.map Ay)::bP 1 sc (ints (G.tk x).scopes)::lZ ZI ((aa.zip G.ts).eraseIdx x)::ax g1 [pt l.gs]::ax g13 [.slice s11.a s11.n s11.c]::rws 7 s11 T::ax g7 [.slice s5.a s5.n s5.c]::bP 1 s5 (ints r)::ax l.gs (l.cs sp st sw G.steps G.err)::bI l.gm G.M::scp l.gc G.C::rws 4 sp (G.P.map uw)::bP 1 st (aa.map pt)::bP 1 sw (l.wa.map pt)::oe l.gt G.time::KO l.gd G.D::Rr
theorem auu{k:Sl→aq}(hI:IV l P bt ro G Ws)(ho:YB G o)(hp:∀p∈o,p.2<G.ts.length)(hr:∀x∈lV G o,0≤x∧x<G.ts.length)(h:xk w0 w l aa G Ws R)
  (hk:∀s w',xk w0 w' l aa G Ws (rws 7 s (agr G o)::R)→k s w'):iY (some ⟨l.gs,0,none⟩) w k:=by
 have hcap:=hI.ty.cap;obtain⟨sp,st,sw,h⟩:=xw h;have hla:=NP (h.front 9 rfl);unfold iY Ag;refine av h λg1 w h=> ?_;with_reducible repeat' (first|refine lW h ?_|refine fE ?_|fail)
 have h:=h.bk 10;refine axA h ho ah λs5 w h hlen=> ?_;have h5n:=uN (s:=s5) (vs:=ints (lV G o)) h;simp only[ints,List.length_map,hlen]at h5n;with_reducible repeat' (first|refine sY h ?_|refine qY h λw h=> ?_|refine av h λgx w h=> ?_|fail)
 obtain⟨g7,lS⟩:∃n,n=gx:=⟨_,rfl⟩;subst lS;refine axz (n:=s5.n) (e:=Eh 0 0 0 0 0 0 (ByteArray.mk #[])) h aDo be ah rfl (by intro v hv;simp[Eh]at hv;rcases hv with rfl|rfl<;>rfl) ah ah λs11 w h h11=> ?_
 with_reducible repeat' (first|refine an ?_|refine da h ?_|refine lW h ?_|refine qY h λw h=> ?_|refine av h λgx w h=> ?_|fail)
 obtain⟨g13,lS⟩:∃n,n=gx:=⟨_,rfl⟩;subst lS;rw[show dM s5.n (Eh 0 0 0 0 0 0 (ByteArray.mk #[]))=dM G.ts.length (Eh 0 0 0 0 0 0 (ByteArray.mk #[])) by rw[h5n]]at h
 have h:=h.fr 14;have h:=h.fr 7;have h:=h.bk 14;have h:St w0 w (mG (TbP l aa G sp st sw g1 g7 g13 s5 s11 (lV G o) (Jb G (lV G o) (dM G.ts.length (Eh 0 0 0 0 0 0 (ByteArray.mk #[]))) []))::Cr l.gk G.T::lZ (qx l aa) (l.wa.zip Ws)::R):=St.shut (A:=TbP l aa G sp st sw g1 g7 g13 s5 s11 (lV G o) _) h;refine arq (w0:=w0) (G:=λdone=>mG (TbP l aa G sp st sw g1 g7 g13 s5 s11 (lV G o) (Jb G (lV G o) (dM G.ts.length (Eh 0 0 0 0 0 0 (ByteArray.mk #[]))) done))) (l:=o) h ho.kids ho.len ho.dfs (λdone rest p w Rr C hd h hc=> ?_) λD w h=> ?_
 ·have hmem:p∈o:=by rw[hd];simp
  have vq:=ho.ids p hmem;have hpp:=hp p hmem;have qL:p.1.toNat<G.ts.length:=ah;have h:=St.open h;simp only[List.cons_append,List.nil_append]at h;obtain⟨a,ha⟩:=Ym (aa:=aa) hla (G.Al qL);have hT:=hI.ty.pX qL;have hl:=hI.ty.len;have hin:=hT.ZM;have B2:=hI.ty.pl;with_reducible repeat' (first|refine an ?_|refine j5 h ?_|refine lW h ?_|fail)
  refine vP (s:=st) (vs:=aa.map pt) h vq.1 (x:=some ⟨a,0,none⟩) (by rw[pz,ha];rfl) ?_
  have h:=h.fr 13;obtain⟨so,sc,h⟩:=aul h ha qL;with_reducible repeat' (first|refine an ?_|refine aF h λw h=> ?_|refine da h ?_|refine lW h ?_|refine mH h ?_|fail)
  refine ahr (M:=G.M) h hI.ty.ok (by have:=hT.k.given hl;simpa using this) (hT.v.given hl) (hT.w.given hl) λw h=> ?_
  rw[Int.add_zero];have hP:G.P[(G.tk p.1.toNat).lX.toNat]?=some (G.P.getD (G.tk p.1.toNat).lX.toNat (0,0,0,false)):=by
   rw[nI,j4 ah];rfl
  have hPc:(G.P.map uw)[(G.tk p.1.toNat).lX.toNat]?=some (uw (G.P.getD (G.tk p.1.toNat).lX.toNat (0,0,0,false))):=by rw[pz,hP];rfl
  generalize aDq:G.P.getD (G.tk p.1.toNat).lX.toNat (0,0,0,false)=pl at hPc;clear hP;have hT2:(Jb G (lV G o) (dM G.ts.length (Eh 0 0 0 0 0 0 (ByteArray.mk #[]))) done).length=G.ts.length:=by rw[acr,List.length_replicate]
  generalize hTT:Jb G (lV G o) (dM G.ts.length (Eh 0 0 0 0 0 0 (ByteArray.mk #[]))) done=TT at h hT2;refine bS (fun(ad:Addr) w=> ∃g,ad=⟨g,0,none⟩∧St w0 w (ax g (Eh (-1) pl.2.1 ((G.tk p.1.toNat).f.getD 0 0) (G.K p.1.toNat) (if G.K p.1.toNat<2 then 0 else G.V p.1.toNat) ((G.tk p.1.toNat).f.getD 18 0) (G.tk p.1.toNat).gF)::TbB l aa G sp st sw g1 g7 g13 s5 s11 (lV G o) TT a p.1.toNat so sc Rr)) (λJ hJ=> ?_) ?_
  ·with_reducible repeat' (first|refine an ?_|refine aF h λw h=> ?_|refine cS h ?_|refine j5 h ?_|refine lW h ?_|fail)
   refine rix (sz:=4) (s:=sp) (es:=G.P.map uw) h hin.1 hPc ah λgq oq hr _=> ?_;refine uH (by rw[cY];exact hr h hPc 1 _ rfl) ?_
   have hold:=h;with_reducible repeat' (first|refine an ?_|refine zb h ?_|refine pN h ?_|refine nW h λw h=> ?_|refine av h λgx w h=> ?_|refine ja h ?_|refine mJ h ?_|refine fX ?_ ?_|refine amE hold h vw ?_|refine aut (hr hold hPc 1 _ rfl) (hr h hPc 1 _ rfl) ?_|fail)
   all_goals exact hJ _ _ ⟨_,rfl,h⟩
  clear h;rintro _ w ⟨g,rfl,h⟩;have hr1:(lV G o)[p.1.toNat]?=some ((lV G o).getD p.1.toNat 0):=by rw[nI,j4 ah];rfl
  have hri:=hr _ (q6 hr1);have ayn:(ints (lV G o))[p.1.toNat]?=some (.int .i64 ((lV G o).getD p.1.toNat 0)):=by unfold ints;rw[pz,hr1];rfl
  have aaW:∀(w:World) (q:Int),q=(if 0≤p.2 then(lV G o).getD p.2.toNat 0 else -1)→St w0 w (TbB l aa G sp st sw g1 g7 g13 s5 s11 (lV G o) (TT.set ((lV G o).getD p.1.toNat 0).toNat (Eh q pl.2.1 ((G.tk p.1.toNat).f.getD 0 0) (G.K p.1.toNat) (if G.K p.1.toNat<2 then 0 else G.V p.1.toNat) ((G.tk p.1.toNat).f.getD 18 0) (G.tk p.1.toNat).gF)) a p.1.toNat so sc Rr)→C w:=by
   intro w q hq h;have h:=pW hla ha (G.Al qL) h;have h:=h.bk 13;refine hc w (St.shut (A:=TbP l aa G sp st sw g1 g7 g13 s5 s11 (lV G o) _) ?_);rw[acq,hTT];have e:rowAt G (lV G o) p=Eh q pl.2.1 ((G.tk p.1.toNat).f.getD 0 0) (G.K p.1.toNat) (if G.K p.1.toNat<2 then 0 else G.V p.1.toNat) ((G.tk p.1.toNat).f.getD 18 0) (G.tk p.1.toNat).gF:=by
    unfold rowAt;rw[hq,←aDq]
   show St w0 w (TbP l aa G sp st sw g1 g7 g13 s5 s11 (lV G o) (TT.set ((lV G o).getD p.1.toNat 0).toNat (rowAt G (lV G o) p))++Rr);rw[e];exact h
  refine ay (λhb=> ?_) λhb=> ?_
  ·have hb:0≤p.2:=by simpa using hb
   have hr2:(lV G o)[p.2.toNat]?=some ((lV G o).getD p.2.toNat 0):=by rw[nI,j4 ah];rfl
   with_reducible repeat' (first|refine sY h ?_|fail)
   refine vI (s:=s5) (vs:=ints (lV G o)) h hb (x:=(lV G o).getD p.2.toNat 0) (by unfold ints;rw[pz,hr2];rfl) ?_
   with_reducible repeat' (first|refine aF h λw h=> ?_|refine sY h ?_|refine dO h λw h=> ?_|fail)
   refine vI (s:=s5) (vs:=ints (lV G o)) h vq.1 (x:=(lV G o).getD p.1.toNat 0) ayn ?_;with_reducible repeat' (first|refine mI h ?_|fail)
   refine rW (s:=s11) (es:=TT) (e:=TT[((lV G o).getD p.1.toNat 0).toNat]' ah) h hri.1 (j4 _) ah rfl ?_ λw h=> ?_
   ·intro v hv;simp[Eh]at hv;rcases hv with rfl|rfl|rfl|rfl|rfl|rfl|rfl<;>rfl
   have h:=h.drop;refine aaW w _ (if_pos hb).symm ?_;exact h
  ·have hb:¬0≤p.2:=by simpa using hb
   with_reducible repeat' (first|refine aF h λw h=> ?_|refine sY h ?_|fail)
   refine vI (s:=s5) (vs:=ints (lV G o)) h vq.1 (x:=(lV G o).getD p.1.toNat 0) ayn ?_;with_reducible repeat' (first|refine mI h ?_|fail)
   refine rW (s:=s11) (es:=TT) (e:=TT[((lV G o).getD p.1.toNat 0).toNat]' ah) h hri.1 (j4 _) ah rfl ?_ λw h=> ?_
   ·intro v hv;simp[Eh]at hv;rcases hv with rfl|rfl|rfl|rfl|rfl|rfl|rfl<;>rfl
   have h:=h.drop;refine aaW w _ (if_neg hb).symm ?_;exact h
 ·have h:=h.front 1 rfl;simp only[Iw]at h;have h:=St.open h;simp only[List.cons_append,List.nil_append]at h;with_reducible repeat' (first|refine sY h ?_|fail)
  have h:=P8 h;have h:=h.fr 15;have h:=K4 h;refine K5 h λw h=>hk s11 w ?_;have h:=h.Ek 0;have h:=h.Ek 0;have h:=h.Ek 1;have h:=h.Ek 1;have h:=h.fr 10;have h:=h.fr 3;have h:=h.fr 3;have h:=h.fr 3;have h:=h.bk 11;exact tw h
end
def Pw(s:Sl):List dH:=[⟨0,s,[[16,0,0,0,0]]⟩]
def mw:Lm:=⟨1,0,65536,1048576,1000,3⟩
def aiR(G:Gl):Bool:=(match G.T with|[t]=>decide (t.parent= -1)&&t.kids.isEmpty|_=>false)&&decide (G.ts.length=1)&&(decide ((G.tk 0).scopes.length≤1)&&(G.tk 0).scopes.all λx:Int=>decide (0≤x∧x<(G.C.length:Nat)))
def oR:List (Int×Int):=[(0, -1)]
def runN(l:Lc)(P:List dH):Nat→Gl→List Wk→Option (Gl×List Wk)
 |0,_,_=>none
 |n+1,G,Ws=>bif aiR G then(bif Eg G Ws then some (G,Ws)else bif decide (G.err=0)then runN l P n (RL l P G Ws oR 0 0).1.1 (RL l P G Ws oR 0 0).1.2 else none)else none
theorem aiS{G:Gl}{l:Lc}{ro:List Ro}(hT:Ty l ro G)(h:aiR G=true):YB G oR∧∀x∈iO G oR,0≤x∧x<G.C.length:=by
 unfold aiR at h;simp only[iZ,decide_eq_true_eq,xz]at h;obtain⟨⟨h1,h2⟩,h3,h4⟩:=h;have hl:iO G oR=0::(G.tk 0).scopes:=by
  unfold iO oR;simp
 have hT1:∃t,G.T=[t]∧t.parent= -1∧t.kids=[]:=by
  split at h1
  ·rename_i t e;simp at h1;exact⟨t,e,h1.1,by simpa using h1.2⟩
  ·cases h1
 obtain⟨t,e,hp,hk⟩:=hT1;refine⟨⟨λi x hx=> ?_,fY,?_,λp hp=> ?_,by rw[hl];simp;omega⟩,λx hx=> ?_⟩
 ·rw[e]at hx;match i,hx with
  |0,hx=>cases hx;rw[hk];simp
  |i+1,hx=>simp at hx
 ·rw[e];rw[if_neg bc];unfold oR;rw[←hp];refine Dfs.cons (t:=t) rfl ?_;rw[hk];exact .nil
 ·simp[oR]at hp;subst hp;exact⟨fY,by show(0:Int)< _;omega⟩
 ·rw[hl]at hx;have:=hT.c1;rcases List.mem_cons.1 hx with rfl|hx
  ·omega
  ·exact h4 x hx
section
variable {w0 w:World} {L R:List HP} {l:Lc} {P:List dH} {bt:List Int} {ro:List Ro} {aa:List Nat} {G:Gl} {Ws:List Wk} {n:Nat}
theorem ao4{k:Int→aq}{times:Int}{r:Gl×List Wk}(hF:iN w0 l.ps P)(hT:TZ w0)(ht:(n:Int)≤times)(ht2:times≤1000000)(hI:IV l P bt ro G Ws)(hr:runN l P n G Ws=some r)(h:xk w0 w l aa G Ws R)
  (hk:∀z I3 iP w',IV l P bt iP r.1 r.2→aiR r.1=true→xk w0 w' l I3 r.1 r.2 R→k z w'):iA (some ⟨l.gs,0,none⟩) 1 times w k:=by
 unfold iA wR;refine Qa (G:=Nat×Gl×List Wk×List Nat×List Ro) (λq x w=>(0≤x.2∧x.2+q.1≤times)∧IV l P bt q.2.2.2.2 q.2.1 q.2.2.1∧runN l P q.1 q.2.1 q.2.2.1=some r∧xk w0 w l q.2.2.2.1 q.2.1 q.2.2.1 R) (λq=>q.1) (g:=(n,G,Ws,aa,ro)) ⟨⟨by show(0:Int)≤0;decide,by show(0:Int)+n≤_;omega⟩,hI,hr,h⟩ ?_
 clear h hr hI;rintro⟨n,G,Ws,aa,ro⟩ ⟨x1,x2⟩ w ⟨hx,hI,hr,h⟩ C hC;dsimp only at hx hI hr h ⊢;cases n with
 |zero=>cases hr
 |succ n=>
  unfold runN at hr;cases h1:aiR G with
  |false=>rw[h1]at hr;cases hr
  |true=>
   rw[h1]at hr;obtain⟨ho,hs⟩:=aiS hI.ty h1;refine bS (fun(b:Bool) w=>b=(!Eg G Ws&&decide (G.err=0))∧xk w0 w l aa G Ws R) (λJ hJ=> ?_) ?_
   ·refine bO (by simp;omega) ?_
    refine aiQ hI h λw h=> ?_;cases hq:Eg G Ws with
    |true=>exact bh rfl (hJ _ _ ⟨by rw[hq];rfl,h⟩)
    |false=>
     refine bO rfl ?_;refine amP h λw h=> ?_;exact hJ _ _ ⟨by rw[hq];rfl,h⟩
   clear h;rintro _ w ⟨rfl,h⟩;cases hq:Eg G Ws with
   |true=>
    rw[hq]at hr;cases hr
    exact bh rfl (hk _ aa ro w hI h1 h)
   |false=>
    rw[hq]at hr;by_cases he:G.err=0;rotate_left
    ·have hf:decide (G.err=0)=false:=by simp[he]
     rw[hf]at hr;cases hr
    have hf:decide (G.err=0)=true:=by simp[he]
    rw[hf]at hr ⊢;have hr:runN l P n (RL l P G Ws oR 0 0).1.1 (RL l P G Ws oR 0 0).1.2=some r:=hr;refine bO rfl ?_;refine⟨2,?_⟩;unfold jP;refine bO rfl ?_;refine aDl hI hF hT ho hs h λI3 w h=> ?_;unfold jP;refine bh rfl ?_;obtain⟨iP,hI'⟩:=aup (kind:=0) (n:=0) hI hs;refine hC (n,_,_,I3,iP) _ _ ⟨?_,hI',hr,h⟩ (by dsimp only;omega)
    dsimp only;rw[cT ⟨ah,ah⟩];push_cast at hx;omega
end
theorem ran{a:Ad}{ps sc:Sl}{gw:Nat}:(runN (nV a ps mw [gw]) (Pw sc) 60 (I5 mw) (GF mw)).map (λr:Gl×List Wk=>(r.1.err,r.1.ts.length,lV r.1 oR,agr r.1 oR,Eg r.1 r.2))=some (0,1,[0],[Eh (-1) 0 0 2 0 1 (ByteArray.mk #[])],true):=by kernel_rfl
open Ck (pV rE nT sJ Tw rp oX)
def aW:List (List Int):=[[16,0,0,0,0]]
theorem axB:rE aW 0=[0]:=(Ck.ah3 (l:=aW) (aX:=0) 1 fY fY be).trans be
theorem amQ(s:Sl):sJ (Pw s)=(0,0,0):=Ck.akm (s:=s) (l:=aW) (r:=none) axB be be
theorem axC(s:Sl):pV (Pw s):=Ck.an5.1 (by rw[amQ])
theorem aAO(s:Sl):Tw (sJ (Pw s))=[0,0,0]:=by rw[amQ];rfl
theorem auw:mw.OK:=⟨fY,fY,fY,fY,fY,fY⟩
theorem aiT:mw.total≤mw.cells∧mw.cells≤65536∧mw.n=1:=⟨of_decide_eq_true be,of_decide_eq_true be,be⟩
theorem aDt{a:Ad}{ps sc:Sl}{gw:Nat}:∃r:Gl×List Wk,runN (nV a ps mw [gw]) (Pw sc) 60 (I5 mw) (GF mw)=some r∧r.1.err=0∧r.1.ts.length=1∧lV r.1 oR=[0]∧agr r.1 oR=[Eh (-1) 0 0 2 0 1 (ByteArray.mk #[])]∧Eg r.1 r.2=true:=by
 have h:=ran (a:=a) (ps:=ps) (sc:=sc) (gw:=gw);generalize runN (nV a ps mw [gw]) (Pw sc) 60 (I5 mw) (GF mw)=x at h ⊢;cases x with
 |none=>cases h
 |some r=>
  have h:=Option.some.inj h;simp only[Prod.mk.injEq]at h;exact⟨r,rfl,h⟩
theorem TZ.ext{w w':World}(h:TZ w)(he:Ext w w'):TZ w':=λi hi=>Ext.cell he (h i hi)
theorem ao5{w:World}{g sz:Nat}{l:List Value}{n:Nat}(hb:pG w g l.toArray)(hn:l.length=n*sz)(c:Nat):GK sz w ⟨some ⟨g,0,none⟩,n,c⟩ l:=
 ⟨hn,λi v hv=>⟨_,rfl,by rw[cY,hb.cell];simpa using hv⟩⟩
theorem axD{w:World}{ga gf c1 c3:Nat}(AM:pG w ga (eU aW.flatten))(hb:pG w gf #[.int .i64 0,.slice (some ⟨ga,0,none⟩) 1 c1]):iN w ⟨some ⟨gf,0,none⟩,1,c3⟩ (Pw ⟨some ⟨ga,0,none⟩,1,c1⟩):=by
 have h5:∀x∈aW,x.length=5∧∀y∈x,uJ y:=fY;refine⟨Ck.asF (ao5 (n:=1) hb rfl _) fY (by intro e he;simp[dH.cells,Pw]at he;subst he;rfl),λx hx=> ?_,by simp[reachBytes,Pw]⟩
 simp[Pw]at hx;subst hx;refine⟨(by decide:uJ 0),Ck.an4 (l:=aW) AM h5 (λi hi j hj=> ?_) (by simp[reachBytes,aW])⟩
 rw[Nat.zero_add,Ck.Sq (λe he=>(h5 e he).1) (e:=aW.getD i []) (by simp[hi]) hj]
theorem axE(r:List Value)(p a b c d e:Int)(t:ByteArray){k:Bool→Prop}(hk:k true):Zl ([(0,0)] ++([(1,0)] ++([(2,0)] ++([(3,0)] ++([(4,0)] ++([(5,0)] ++([(6,2)] ++[]))))))) (Eh p a b c d e t).toArray (Eh p a b c d e t).toArray k:=by
 unfold Zl;have:pu (Eh p a b c d e t).toArray (Eh p a b c d e t).toArray ([(0,0)] ++([(1,0)] ++([(2,0)] ++([(3,0)] ++([(4,0)] ++([(5,0)] ++([(6,2)] ++[])))))))=some true:=by
  simp[pu,eqC,Eh]
 rw[this];exact hk
section
variable {w0 w:World} {L R:List HP}
theorem aiU{b s:Int}{k:Array Value→aq}(h:St w0 w L)(hk:∀w',St w0 w' L→k (Vg ⟨b,s,65536,1048576,1000,3⟩) w'):g9 b s w k:=by
 unfold g9;refine av h λg w h=> ?_;with_reducible repeat' (first|refine mI h ?_|refine nW h λw h=> ?_|fail)
 exact hk _ h.drop
theorem axF{ps sc:Sl}{k:Bool→aq}(hT:TZ w0)(hF:iN w0 ps (Pw sc)){a:Ad}{wa aa:List Nat}(BL:wa.length=1)(h:xk w0 w (nV a ps mw wa) aa (I5 mw) (GF mw) [])
  (hk:∀w',Ext w0 w'→k true w'):iA (some ⟨a.gs,0,none⟩) 1 9000 w λi w33=>dJ (some ⟨a.gs,0,none⟩) w33 λb34 w35=>ap b34 (eD (some ⟨a.gs,0,none⟩) w35 λi36 w37=>ap (i36==(0:Int)) (iY (some ⟨a.gs,0,none⟩) w37 λs38 w39=>
   lz #[(.int .i64 (0:Int)),(.int .i64 (0:Int)),(.int .i64 (0:Int)),(.int .i64 (0:Int)),(.int .i64 (0:Int)),(.int .i64 (0:Int)),(.string (ByteArray.mk #[]))] 0 7 #[(.int .i64 (-(1:Int))),(.int .i64 (0:Int)),(.int .i64 (0:Int)),(.int .i64 (2:Int)),(.int .i64 (0:Int)),(.int .i64 (1:Int)),(.string (ByteArray.mk #[]))] λcs40=>
    aL w39 cs40 49 λa41 w42=>kE s38 (Sl.mk (some a41) 1 1) w42 λb43 w44=>(k b43 w44)) ((k false w37))) ((k false w35)):=by
 obtain⟨gw,rfl⟩:∃gw,wa=[gw]:=by
  match wa,BL with
  |[gw],_=>exact⟨gw,rfl⟩
 have hI:=aAN (a:=a) (ps:=ps) (wa:=[gw]) auw aiT.1 aiT.2.1 aiT.2.2.symm (axC sc);obtain⟨r,hr,e1,e2,e3,e4,e5⟩:=aDt (a:=a) (ps:=ps) (sc:=sc) (gw:=gw);generalize I5 mw=G0 at hI hr h;generalize GF mw=W0 at hI hr h;refine ao4 (l:=nV a ps mw [gw]) (P:=Pw sc) (n:=60) hF hT (by show(60:Int)≤9000;decide) (by show(9000:Int)≤1000000;decide) hI hr h λz I3 iP w hI h1 h=> ?_
 obtain⟨ho,hs⟩:=aiS hI.ty h1;refine aiQ (l:=nV a ps mw [gw]) hI h λw h=> ?_;rw[e5];refine bO rfl ?_;refine amP (l:=nV a ps mw [gw]) h λw h=> ?_;rw[e1];refine bO rfl ?_;refine auu (l:=nV a ps mw [gw]) hI ho (λp hp=>by simp[oR]at hp;subst hp;show(-1:Int)< _;omega) (λx hx=>by rw[e3]at hx;simp at hx;subst hx;omega) h λs w h=> ?_
 rw[e4]at h;refine qK (Eh (-1) 0 0 2 0 1 (ByteArray.mk #[])).toArray rfl be ?_;refine av h λg w h=> ?_;have h:=ab5 (sz:=7) h rfl (by intro v hv;simp[Eh]at hv;rcases hv with rfl|rfl|rfl|rfl|rfl|rfl<;>rfl)
 have hn:=(tE (sz:=7) (s:=s) (es:=[Eh (-1) 0 0 2 0 1 (ByteArray.mk #[])]) h).2 fY;have hn:s.n=1:=hn.symm;unfold kE;rw[hn];refine bh rfl ?_;refine⟨2,?_⟩;unfold jP;refine bO rfl ?_;with_reducible repeat' (first|refine aF h λw h=> ?_|fail)
 refine rA (sz:=7) (s:=s) (es:=[Eh (-1) 0 0 2 0 1 (ByteArray.mk #[])]) (e:=Eh (-1) 0 0 2 0 1 (ByteArray.mk #[])) h fY rfl fY ?_;refine rA (sz:=7) (s:=⟨some ⟨g,0,none⟩,1,1⟩) (es:=[Eh (-1) 0 0 2 0 1 (ByteArray.mk #[])]) (e:=Eh (-1) 0 0 2 0 1 (ByteArray.mk #[])) h fY rfl fY ?_;refine axE [] _ _ _ _ _ _ _ (bh rfl ?_);unfold jP;refine bh rfl ?_;exact hk _ h.ext
theorem aAP{w1:World}{ps sc:Sl}{k:Option Addr×Int→aq}(hF:iN w1 ps (Pw sc))(hk:∀(a:Ad) (wa aa:List Nat) w',wa.length=1→xk w1 w' (nV a ps mw wa) aa (I5 mw) (GF mw) []→k (some ⟨a.gs,0,none⟩,0) w'):j2 #[.slice ps.a ps.n ps.c] (Vg mw) w1 k:=
 afW (m:=mw) hF (.nil w1) (λ_ _ _ a wa aa w' BL h=>hk a wa aa w' (BL.trans aiT.2.2) h) (λq=>(q (aAO sc)).elim) (λ_ q=>(q auw).elim) λ_ _ q=>(q aiT.1).elim
theorem auy{k:Int→aq}(h:k 9000 w):jN 1 1 1 w k:=bh rfl h
theorem auz{k:Bool→aq}(hT:TZ w0)(hk:∀w',Ext w0 w'→k true w'):er w0 k:=by
 unfold er yI;refine qK (eU aW.flatten) rfl be ?_;refine av (.nil w0) λg2 w h=>av h λg4 w h=> ?_;with_reducible repeat' (first|refine nW h λw h=> ?_|fail)
 refine bS (fun(x:Option Addr×Int) w'=> ∃w1 ps sc,∃(a:Ad) (wa aa:List Nat),x=(some ⟨a.gs,0,none⟩,0)∧Ext w0 w1∧iN w1 ps (Pw sc)∧wa.length=1∧xk w1 w' (nV a ps mw wa) aa (I5 mw) (GF mw) []) (λJ hJ=> ?_) ?_
 ·have aaW:∀(w:World) (gx:Nat) (L:List HP) (f1 f2:HP→List HP) (h:St w0 w L) (a1:At L (ax g2) (eU aW.flatten).toList f1) (a2:At L (ax gx) [.int .i64 0,.slice (some ⟨g2,0,none⟩) 1 1] f2),j2 #[.slice (some ⟨gx,0,none⟩) 1 1] (Vg mw) w λx w=>J (x.1,x.2) w:=by
   intro w gx L f1 f2 h a1 a2;have hF:=axD (c1:=1) (c3:=1) (h.ax (g:=g2)) (h.ax (g:=gx));refine aAP hF λa wa aa w' BL h'=> ?_;exact hJ _ _ ⟨_,_,_,a,wa,aa,rfl,h.ext,hF,BL,h'⟩
  with_reducible repeat' (first|refine aF h λw h=> ?_|refine mI h ?_|refine mJ h ?_|refine fX ?_ ?_|refine aiU h λw h=> ?_|fail)
  ·refine qK #[.int .i64 0,.slice (some ⟨g2,0,none⟩) 1 1] rfl be ?_;with_reducible repeat' (first|refine av h λgx w h=> ?_|refine mJ h ?_|refine fX ?_ ?_|refine aiU h λw h=> ?_|fail)
   all_goals exact aaW _ _ _ _ _ h inferInstance inferInstance
  ·refine qK #[.int .i64 0,.slice (some ⟨g2,0,none⟩) 1 1] rfl be ?_;with_reducible repeat' (first|refine av h λgx w h=> ?_|fail)
   exact aaW _ _ _ _ _ h inferInstance inferInstance
 clear h;rintro _ w ⟨w1,ps,sc,a,wa,aa,rfl,he,hF,BL,h⟩;refine bh rfl ?_;refine auy ?_;exact axF (hT.ext he) hF BL h λw' hx=>hk w' (he.trans hx)
end
end Go.Proofs.YthidhjhkmjjckaaGreatDoor
namespace Go.Proofs.YthidhjhkmjjckaaGreatDoor
open Go Go.Ev Go.Proofs
open Ko (oe CK)
open Ck (pV rE nT sJ Tw rp oX Few)
def aaa(a b c:Int):Int:=bif (((((decide (a<0))||(decide (a>1048576)))||(decide (b<1)))||(decide (b>16)))||(decide (c<1)))||(decide (c>1048576))then 0 else
 aG .i64 ((aG .i64 ((aG .i64 (1000*c))*(aG .i64 (b+2))))*(aG .i64 (a+2)))
theorem auA{a b c:Int}{w:World}{k:Int→aq}(hk:k (aaa a b c) w):jN a b c w k:=by
 unfold jN;unfold aaa at hk;refine ay (λhb=> ?_) λhb=> ?_<;>(rw[hb]at hk;exact hk)
theorem ao6{a b c:Int}{w:World}{k:Int→aq}(hk:k (aaa a b c) w):jV a b c w k:=by
 unfold jV;unfold aaa at hk;refine ay (λhb=> ?_) λhb=> ?_<;>(rw[hb]at hk;exact hk)
theorem aAQ:∀j,j<11→rX .i64 1 (aG .u64 ((j:Nat):Int))=((2 ^ j:Nat):Int):=fY
def Cu(j:Nat):Nat:=64+if j=0 then 0 else 2 ^ j
def Lm.ags(m:Lm):Int:=1024+m.n*(64+2 ^ (m.log.toNat+2):Nat)
theorem one_le{m:Lm}(hm:m.OK):m.one≤7:=by
 have hl:=hm.log;unfold Lm.one Lm.lg En;have:∀x:Int,0≤x→x≤8→(3:Int)+2 ^ (if x<2 then x else 2).toNat≤7:=by
  intro x h0 h8;rcases (by omega:x=0∨x=1∨2≤x)with rfl|rfl|h
  ·decide
  ·decide
  ·rw[if_neg ah];decide
 exact this _ hl.1 hl.2
theorem auB{m:Lm}(hm:m.OK):m.total≤m.ags:=by
 have hb:=hm.base;have hs:=hm.spare;have hl:=hm.log;have hn:m.n≤16:=by unfold Lm.n;omega
 have h1:=one_le hm;have h2:(m.n:Int)*m.one≤m.n*7:=Int.mul_le_mul_of_nonneg_left h1 ah;have h3:(m.n:Int)*(64:Nat)≤m.n*((64+2 ^ (m.log.toNat+2):Nat):Int):=Int.mul_le_mul_of_nonneg_left (Int.ofNat_le.2 (Nat.le_add_right 64 _)) ah;unfold Lm.total Lm.ags;omega
section
variable {w0 w:World} {L R:List HP} {m:Lm} {ps:Sl} {P:List dH} {g1 g3 g5:Nat} {f1 f3 f5:HP→List HP} {b0 b1 b2:Int}
theorem Vl{k:Bool→aq}(h:St w0 w L)(hk:∀w',St w0 w' L→k m.okB w'):jx (Vg m) w k:=by
 unfold jx;refine av h λg w h=> ?_;have h16:m.base≥1→m.base≤16→aG .i64 (16 - m.base)=16 - m.base:=λh1 h2=>cT ⟨ah,ah⟩;have hno:¬m.OK→k false w:=λq=>by
  have:m.okB=false:=by cases e:m.okB with
   |false=>rfl
   |true=>exact(q (I6.1 e)).elim
  rw[←this];exact hk _ h.drop
 have atI:m.OK→k true w:=λq=>by rw[←I6.2 q];exact hk _ h.drop
 with_reducible repeat' (first|refine cS h ?_|fail)
 refine ay (λc1=> ?_) λc1=>hno λq=>by have:=q.base;simp at c1;omega
 simp only[decide_eq_true_eq]at c1;with_reducible repeat' (first|refine cS h ?_|fail)
 refine ay (λc2=> ?_) λc2=>hno λq=>by have:=q.base;simp at c2;omega
 simp only[decide_eq_true_eq]at c2;with_reducible repeat' (first|refine cS h ?_|fail)
 refine ay (λc3=> ?_) λc3=>hno λq=>by have:=q.spare;simp at c3;omega
 simp only[decide_eq_true_eq]at c3;with_reducible repeat' (first|refine cS h ?_|fail)
 rw[h16 c1 c2];refine ay (λc4=> ?_) λc4=>hno λq=>by have:=q.spare;simp at c4;omega
 simp only[decide_eq_true_eq]at c4;with_reducible repeat' (first|refine cS h ?_|fail)
 refine ay (λc5=> ?_) λc5=>hno λq=>by have:=q.cells;simp at c5;omega
 simp only[decide_eq_true_eq]at c5;with_reducible repeat' (first|refine cS h ?_|fail)
 refine ay (λc6=> ?_) λc6=>hno λq=>by have:=q.cells;simp at c6;omega
 simp only[decide_eq_true_eq]at c6;with_reducible repeat' (first|refine cS h ?_|fail)
 refine ay (λc7=> ?_) λc7=>hno λq=>by have:=q.fuel;simp at c7;omega
 simp only[decide_eq_true_eq]at c7;with_reducible repeat' (first|refine cS h ?_|fail)
 refine ay (λc8=> ?_) λc8=>hno λq=>by have:=q.fuel;simp at c8;omega
 simp only[decide_eq_true_eq]at c8;with_reducible repeat' (first|refine cS h ?_|fail)
 refine ay (λc9=> ?_) λc9=>hno λq=>by have:=q.deep;simp at c9;omega
 simp only[decide_eq_true_eq]at c9;with_reducible repeat' (first|refine cS h ?_|fail)
 refine ay (λc10=> ?_) λc10=>hno λq=>by have:=q.deep;simp at c10;omega
 simp only[decide_eq_true_eq]at c10;with_reducible repeat' (first|refine cS h ?_|fail)
 refine ay (λc11=> ?_) λc11=>hno λq=>by have:=q.log;simp at c11;omega
 simp only[decide_eq_true_eq]at c11;with_reducible repeat' (first|refine cS h ?_|fail)
 by_cases c12:m.log≤8
 ·rw[decide_eq_true c12];exact atI ⟨⟨c1,c2⟩,⟨c3,c4⟩,⟨c5,c6⟩,⟨c7,c8⟩,⟨c9,c10⟩,⟨c11,c12⟩⟩
 ·rw[decide_eq_false c12];exact hno λq=>c12 q.log.2
theorem amR{k:Int→aq}(h:St w0 w L)(hm:m.OK)(hk:∀w',St w0 w' L→k m.ags w'):kF (Vg m) 0 w k:=by
 unfold kF;refine av h λg w h=> ?_;have hl:=hm.log;have hb:=hm.base;have hs:=hm.spare;obtain⟨lg,Tx⟩:∃lg:Nat,m.log=lg:=⟨m.log.toNat,ah⟩;have e1:aG .i64 (m.log+2)=((lg+2:Nat):Int):=by rw[Tx,cT ⟨ah,ah⟩];omega
 have hp:∀j,j<11→2 ^ j≤1024:=fY;refine og (fun(x:Int×Int) w=> ∃j:Nat,x=((Cu j:Int),(j:Int))∧j≤lg+2∧St w0 w (ax g (Vg m).toList::L)) (λx _=>(lg+2 - x.2.toNat)) ⟨0,rfl,ah,h⟩ ?_;clear h;rintro _ w ⟨j,rfl,hj,h⟩ C hC;with_reducible repeat' (first|refine cS h ?_|fail)
 rw[e1];refine ay (λhlt=> ?_) λhlt=> ?_
 ·have hlt:j<lg+2:=by simp at hlt;omega
  have hpj:=hp j ah;have hc:Cu j≤1088:=by unfold Cu;split<;>omega
  refine bS (λi w'=>i=((64+2 ^ j:Nat):Int)∧St w0 w' (ax g (Vg m).toList::L)) (λJ hJ=>ay (λh0=> ?_) λh0=> ?_) ?_
  ·have h0:j=0:=by simpa using h0
   subst h0;exact hJ _ _ ⟨fY,h⟩
  ·have h0:j≠0:=by simpa using h0
   refine hJ _ _ ⟨?_,h⟩;unfold Cu;rw[if_neg h0]
  rintro _ w ⟨rfl,h⟩;refine FE (by rw[ajK ah ah];omega) ?_
  rw[aAQ j ah];refine hC _ _ ⟨j+1,?_,ah,h⟩ ?_
  ·have e2:Cu (j+1)=64+2 ^ j+2 ^ j:=by unfold Cu;rw[if_neg ah,Nat.pow_succ];omega
   rw[cT ⟨ah,ah⟩,cT ⟨ah,ah⟩,e2];refine Prod.ext ?_ ?_<;>(show(_:Int)=_;omega)
  ·show lg+2 - (aG .i64 ((j:Int)+1)).toNat<lg+2 - ((j:Nat):Int).toNat;rw[cT ⟨ah,ah⟩];omega
 ·have hlt:j=lg+2:=by simp at hlt;omega
  subst hlt;with_reducible repeat' (first|refine cS h ?_|fail)
  have hn:(m.n:Int)=m.base+m.spare:=by unfold Lm.n;omega
  have hpj:=hp (lg+2) ah;have hr:Cu (lg+2)=64+2 ^ (m.log.toNat+2):=by unfold Cu;rw[if_neg ah,Tx];rfl
  have hc:Cu (lg+2)≤1088:=by unfold Cu;split<;>omega
  have hmul:(m.n:Int)*(Cu (lg+2):Int)≤16*1088:=by
   have a1:(m.n:Int)*(Cu (lg+2):Int)≤m.n*1088:=Int.mul_le_mul_of_nonneg_left ah ah;have a2:(m.n:Int)*1088≤16*1088:=Int.mul_le_mul_of_nonneg_right ah ah;omega
  have aFz:0≤(m.n:Int)*(Cu (lg+2):Int):=Int.mul_nonneg ah ah;rw[show aG .i64 (m.base+m.spare)=(m.n:Int) by rw[cT ⟨ah,ah⟩,hn],show aG .i64 ((m.n:Int)*(Cu (lg+2):Int))=(m.n:Int)*(Cu (lg+2):Int)from cT ⟨ah,ah⟩,
   show aG .i64 (1024+aG .i64 (32*0))=1024 by decide,cT ⟨ah,ah⟩]
  have:=hk _ h.drop;unfold Lm.ags at this;rw[←hr]at this;exact this
def aDu(m:Lm)(P:List dH)(s:Option Addr)(e:Int)(u:Int):Prop:=
 (Tw (sJ P)=[0,0,0]∧m.OK∧s.isSome=true∧e=0∧u≤m.cells)∨(¬Tw (sJ P)=[0,0,0]∧s=none∧e=24)∨(Tw (sJ P)=[0,0,0]∧¬m.OK∧s=none∧e=10)∨(Tw (sJ P)=[0,0,0]∧m.OK∧¬m.total≤m.cells∧s=none∧e=21)
theorem auC{k:Option Addr×Int→aq}(hF:iN w0 ps P)(h:St w0 w R)(hce:m.cells≤65536)
  (hk:∀s e u w' L,St w0 w' (R++L)→aDu m P s e u→(∀(C:Int→aq) w,s.isSome=true→St w0 w (R++L)→(∀w',St w0 w' (R++L)→C u w')→kq s w C)→k (s,e) w'):j2 #[.slice ps.a ps.n ps.c] (Vg m) w k:=by
 refine afW (m:=m) (ps:=ps) (P:=P) hF h (λh1 h2 h3 a wa aa w' BL hr=> ?_) (λh1 w' hr=> ?_) (λh1 h2 w' hr=> ?_) (λh1 h2 h3 w' hr=> ?_)
 ·have hp:∀{X Y:HP},(X::Y::R).Perm (R++[X,Y]):=fun{X Y}=>(List.perm_append_comm (l₁:=[X,Y]) (l₂:=R));have hT:=auq (a:=a) (ps:=ps) (wa:=wa) h2 h3 hce BL;refine hk _ _ ((I5 m).M.cells.length:Nat) w' _ (hr.perm hp) (.inl ⟨h1,h2,rfl,rfl,?_⟩) λC w _ hw hC=> ?_
  ·have:=hT.ok.fit;have e:(I5 m).M.size=m.cells:=(acf h2 h3).size;omega
  ·exact aur (l:=nV a ps m wa) (aa:=aa) (G:=I5 m) (Ws:=GF m) (R:=R) (hw.perm hp.symm) λw' hw'=>hC _ (hw'.perm hp)
 ·exact hk _ _ 0 w' [] (by rw[List.append_nil];exact hr) (.inr (.inl ⟨h1,rfl,rfl⟩)) λ_ _ q=>by cases q
 ·exact hk _ _ 0 w' [] (by rw[List.append_nil];exact hr) (.inr (.inr (.inl ⟨h1,h2,rfl,rfl⟩))) λ_ _ q=>by cases q
 ·exact hk _ _ 0 w' [] (by rw[List.append_nil];exact hr) (.inr (.inr (.inr ⟨h1,h2,h3,rfl,rfl⟩))) λ_ _ q=>by cases q
theorem agt{k:Bool→aq}(hF:iN w0 ps P)(hT:TZ w0)(hk:∀w',Ext w0 w'→k true w'):rU #[.slice ps.a ps.n ps.c] (Vg m) #[.int .i64 b0,.int .i64 b1,.int .i64 b2] w0 k:=by
 unfold rU uo;have aw:∀{w:World} {L:List HP},St w0 w L→er w k:=λh=>auz (hT.ext h.ext) λw' hx=>hk w' (h.ext.trans hx);refine av (.nil w0) λg1 w h=>av h λg3 w h=>av h λg5 w h=> ?_;refine bS (λb w=>(b=false→Few P∧m.cells≤65536)∧St w0 w [ax g5 [.int .i64 b0,.int .i64 b1,.int .i64 b2],ax g3 (Vg m).toList,ax g1 [.slice ps.a ps.n ps.c]]) (λJ hJ=> ?_) ?_
 ·with_reducible repeat' (first|refine an ?_|refine aF h λw h=> ?_|refine da h ?_|refine cS h ?_|refine uL h ?_|refine j5 h ?_|refine pC h ?_|refine zb h ?_|refine lW h ?_|refine vt h ?_|refine AO h ?_|refine sY h ?_|refine Ar h ?_|refine AP h ?_|refine mH h ?_|refine mI h ?_|refine pN h ?_|refine dO h λw h=> ?_|refine qY h λw h=> ?_|refine vC h λw h=> ?_|refine nW h λw h=> ?_|refine av h λgx w h=> ?_|refine cP ?_|refine ja h ?_|refine mJ h ?_|refine fX ?_ ?_|refine fE ?_|refine nJ ?_|refine xB ?_|fail)
  refine Ck.azT (P:=P) (ps:=ps) (hF.ext h.ext) λb w' hx hb=> ?_;have h:=h.on hx.ext;refine ay (λhb'=>hJ _ _ ⟨bc,h⟩) λhb'=> ?_;with_reducible repeat' (first|refine an ?_|refine aF h λw h=> ?_|refine da h ?_|refine cS h ?_|refine uL h ?_|refine j5 h ?_|refine pC h ?_|refine zb h ?_|refine lW h ?_|refine vt h ?_|refine AO h ?_|refine sY h ?_|refine Ar h ?_|refine AP h ?_|refine mH h ?_|refine mI h ?_|refine pN h ?_|refine dO h λw h=> ?_|refine qY h λw h=> ?_|refine vC h λw h=> ?_|refine nW h λw h=> ?_|refine av h λgx w h=> ?_|refine cP ?_|refine ja h ?_|refine mJ h ?_|refine fX ?_ ?_|refine fE ?_|refine nJ ?_|refine xB ?_|fail)
  exact hJ _ _ ⟨λhc=>⟨hb (by simpa using hb'),by simpa using hc⟩,h⟩
 clear h;rintro b w ⟨hb,h⟩;refine ay (λhb'=>aw h) λhb'=> ?_;obtain⟨aFU,hce⟩:=hb hb';with_reducible repeat' (first|refine an ?_|refine aF h λw h=> ?_|refine da h ?_|refine cS h ?_|refine uL h ?_|refine j5 h ?_|refine pC h ?_|refine zb h ?_|refine lW h ?_|refine vt h ?_|refine AO h ?_|refine sY h ?_|refine Ar h ?_|refine AP h ?_|refine mH h ?_|refine mI h ?_|refine pN h ?_|refine dO h λw h=> ?_|refine qY h λw h=> ?_|refine vC h λw h=> ?_|refine nW h λw h=> ?_|refine av h λgx w h=> ?_|refine cP ?_|refine ja h ?_|refine mJ h ?_|refine fX ?_ ?_|refine fE ?_|refine nJ ?_|refine xB ?_|fail)
 refine auC (P:=P) (ps:=ps) (m:=m) hF h hce λs e u w L h hc hU=> ?_;have h:St w0 w (ax g5 [.int .i64 b0,.int .i64 b1,.int .i64 b2]::ax g3 (Vg m).toList::ax g1 [.slice ps.a ps.n ps.c]::L):=h;with_reducible repeat' (first|refine an ?_|refine aF h λw h=> ?_|refine da h ?_|refine cS h ?_|refine uL h ?_|refine j5 h ?_|refine pC h ?_|refine zb h ?_|refine lW h ?_|refine vt h ?_|refine AO h ?_|refine sY h ?_|refine Ar h ?_|refine AP h ?_|refine mH h ?_|refine mI h ?_|refine pN h ?_|refine dO h λw h=> ?_|refine qY h λw h=> ?_|refine vC h λw h=> ?_|refine nW h λw h=> ?_|refine av h λgx w h=> ?_|refine cP ?_|refine ja h ?_|refine mJ h ?_|refine fX ?_ ?_|refine fE ?_|refine nJ ?_|refine xB ?_|refine auA ?_|refine ao6 ?_|fail)
 refine bh bc ?_;with_reducible repeat' (first|refine an ?_|refine aF h λw h=> ?_|refine da h ?_|refine cS h ?_|refine uL h ?_|refine j5 h ?_|refine pC h ?_|refine zb h ?_|refine lW h ?_|refine vt h ?_|refine AO h ?_|refine sY h ?_|refine Ar h ?_|refine AP h ?_|refine mH h ?_|refine mI h ?_|refine pN h ?_|refine dO h λw h=> ?_|refine qY h λw h=> ?_|refine vC h λw h=> ?_|refine nW h λw h=> ?_|refine av h λgx w h=> ?_|refine cP ?_|refine ja h ?_|refine mJ h ?_|refine fX ?_ ?_|refine fE ?_|refine nJ ?_|refine xB ?_|fail)
 refine Ck.abW (P:=P) (ps:=ps) (hF.ext h.ext) λw' hx=> ?_;have h:=h.on hx.ext;clear hx;rcases hc with⟨c1,c2,c3,rfl,c5⟩|⟨c1,rfl,rfl⟩|⟨c1,c2,rfl,rfl⟩|⟨c1,c2,c3,rfl,rfl⟩
 ·refine bh (by simp[c1]) ?_
  with_reducible repeat' (first|refine an ?_|refine aF h λw h=> ?_|refine da h ?_|refine cS h ?_|refine uL h ?_|refine j5 h ?_|refine pC h ?_|refine zb h ?_|refine lW h ?_|refine vt h ?_|refine AO h ?_|refine sY h ?_|refine Ar h ?_|refine AP h ?_|refine mH h ?_|refine mI h ?_|refine pN h ?_|refine dO h λw h=> ?_|refine qY h λw h=> ?_|refine vC h λw h=> ?_|refine nW h λw h=> ?_|refine av h λgx w h=> ?_|refine cP ?_|refine ja h ?_|refine mJ h ?_|refine fX ?_ ?_|refine fE ?_|refine nJ ?_|refine xB ?_|fail)
  refine Vl (m:=m) h λw h=> ?_;refine bh (by rw[I6.2 c2];rfl) ?_
  with_reducible repeat' (first|refine an ?_|refine aF h λw h=> ?_|refine da h ?_|refine cS h ?_|refine uL h ?_|refine j5 h ?_|refine pC h ?_|refine zb h ?_|refine lW h ?_|refine vt h ?_|refine AO h ?_|refine sY h ?_|refine Ar h ?_|refine AP h ?_|refine mH h ?_|refine mI h ?_|refine pN h ?_|refine dO h λw h=> ?_|refine qY h λw h=> ?_|refine vC h λw h=> ?_|refine nW h λw h=> ?_|refine av h λgx w h=> ?_|refine cP ?_|refine ja h ?_|refine mJ h ?_|refine fX ?_ ?_|refine fE ?_|refine nJ ?_|refine xB ?_|fail)
  refine amR (m:=m) h c2 λw h=> ?_;with_reducible repeat' (first|refine an ?_|refine aF h λw h=> ?_|refine da h ?_|refine cS h ?_|refine uL h ?_|refine j5 h ?_|refine pC h ?_|refine zb h ?_|refine lW h ?_|refine vt h ?_|refine AO h ?_|refine sY h ?_|refine Ar h ?_|refine AP h ?_|refine mH h ?_|refine mI h ?_|refine pN h ?_|refine dO h λw h=> ?_|refine qY h λw h=> ?_|refine vC h λw h=> ?_|refine nW h λw h=> ?_|refine av h λgx w h=> ?_|refine cP ?_|refine ja h ?_|refine mJ h ?_|refine fX ?_ ?_|refine fE ?_|refine nJ ?_|refine xB ?_|fail)
  refine bO bc ?_;with_reducible repeat' (first|refine an ?_|refine aF h λw h=> ?_|refine da h ?_|refine cS h ?_|refine uL h ?_|refine j5 h ?_|refine pC h ?_|refine zb h ?_|refine lW h ?_|refine vt h ?_|refine AO h ?_|refine sY h ?_|refine Ar h ?_|refine AP h ?_|refine mH h ?_|refine mI h ?_|refine pN h ?_|refine dO h λw h=> ?_|refine qY h λw h=> ?_|refine vC h λw h=> ?_|refine nW h λw h=> ?_|refine av h λgx w h=> ?_|refine cP ?_|refine ja h ?_|refine mJ h ?_|refine fX ?_ ?_|refine fE ?_|refine nJ ?_|refine xB ?_|fail)
  refine bO (by cases s with|none=>cases c3|some a=>rfl) ?_
  with_reducible repeat' (first|refine an ?_|refine aF h λw h=> ?_|refine da h ?_|refine cS h ?_|refine uL h ?_|refine j5 h ?_|refine pC h ?_|refine zb h ?_|refine lW h ?_|refine vt h ?_|refine AO h ?_|refine sY h ?_|refine Ar h ?_|refine AP h ?_|refine mH h ?_|refine mI h ?_|refine pN h ?_|refine dO h λw h=> ?_|refine qY h λw h=> ?_|refine vC h λw h=> ?_|refine nW h λw h=> ?_|refine av h λgx w h=> ?_|refine cP ?_|refine ja h ?_|refine mJ h ?_|refine fX ?_ ?_|refine fE ?_|refine nJ ?_|refine xB ?_|fail)
  refine hU _ _ c3 h λw h=> ?_;have h:St w0 w (ax g5 [.int .i64 b0,.int .i64 b1,.int .i64 b2]::ax g3 (Vg m).toList::ax g1 [.slice ps.a ps.n ps.c]::L):=h;with_reducible repeat' (first|refine an ?_|refine aF h λw h=> ?_|refine da h ?_|refine cS h ?_|refine uL h ?_|refine j5 h ?_|refine pC h ?_|refine zb h ?_|refine lW h ?_|refine vt h ?_|refine AO h ?_|refine sY h ?_|refine Ar h ?_|refine AP h ?_|refine mH h ?_|refine mI h ?_|refine pN h ?_|refine dO h λw h=> ?_|refine qY h λw h=> ?_|refine vC h λw h=> ?_|refine nW h λw h=> ?_|refine av h λgx w h=> ?_|refine cP ?_|refine ja h ?_|refine mJ h ?_|refine fX ?_ ?_|refine fE ?_|refine nJ ?_|refine xB ?_|fail)
  exact bO (by simpa using c5) (aw h)
 ·refine bO (by simp[c1]) ?_
  exact bO rfl (aw h)
 ·refine bh (by simp[c1]) ?_
  with_reducible repeat' (first|refine an ?_|refine aF h λw h=> ?_|refine da h ?_|refine cS h ?_|refine uL h ?_|refine j5 h ?_|refine pC h ?_|refine zb h ?_|refine lW h ?_|refine vt h ?_|refine AO h ?_|refine sY h ?_|refine Ar h ?_|refine AP h ?_|refine mH h ?_|refine mI h ?_|refine pN h ?_|refine dO h λw h=> ?_|refine qY h λw h=> ?_|refine vC h λw h=> ?_|refine nW h λw h=> ?_|refine av h λgx w h=> ?_|refine cP ?_|refine ja h ?_|refine mJ h ?_|refine fX ?_ ?_|refine fE ?_|refine nJ ?_|refine xB ?_|fail)
  refine Vl (m:=m) h λw h=> ?_;have e:m.okB=false:=by cases e:m.okB with
   |false=>rfl
   |true=>exact(c2 (I6.1 e)).elim
  refine bO (by rw[e];rfl) ?_
  exact bO rfl (aw h)
 ·refine bh (by simp[c1]) ?_
  with_reducible repeat' (first|refine an ?_|refine aF h λw h=> ?_|refine da h ?_|refine cS h ?_|refine uL h ?_|refine j5 h ?_|refine pC h ?_|refine zb h ?_|refine lW h ?_|refine vt h ?_|refine AO h ?_|refine sY h ?_|refine Ar h ?_|refine AP h ?_|refine mH h ?_|refine mI h ?_|refine pN h ?_|refine dO h λw h=> ?_|refine qY h λw h=> ?_|refine vC h λw h=> ?_|refine nW h λw h=> ?_|refine av h λgx w h=> ?_|refine cP ?_|refine ja h ?_|refine mJ h ?_|refine fX ?_ ?_|refine fE ?_|refine nJ ?_|refine xB ?_|fail)
  refine Vl (m:=m) h λw h=> ?_;refine bh (by rw[I6.2 c2];rfl) ?_
  with_reducible repeat' (first|refine an ?_|refine aF h λw h=> ?_|refine da h ?_|refine cS h ?_|refine uL h ?_|refine j5 h ?_|refine pC h ?_|refine zb h ?_|refine lW h ?_|refine vt h ?_|refine AO h ?_|refine sY h ?_|refine Ar h ?_|refine AP h ?_|refine mH h ?_|refine mI h ?_|refine pN h ?_|refine dO h λw h=> ?_|refine qY h λw h=> ?_|refine vC h λw h=> ?_|refine nW h λw h=> ?_|refine av h λgx w h=> ?_|refine cP ?_|refine ja h ?_|refine mJ h ?_|refine fX ?_ ?_|refine fE ?_|refine nJ ?_|refine xB ?_|fail)
  refine amR (m:=m) h c2 λw h=> ?_;with_reducible repeat' (first|refine an ?_|refine aF h λw h=> ?_|refine da h ?_|refine cS h ?_|refine uL h ?_|refine j5 h ?_|refine pC h ?_|refine zb h ?_|refine lW h ?_|refine vt h ?_|refine AO h ?_|refine sY h ?_|refine Ar h ?_|refine AP h ?_|refine mH h ?_|refine mI h ?_|refine pN h ?_|refine dO h λw h=> ?_|refine qY h λw h=> ?_|refine vC h λw h=> ?_|refine nW h λw h=> ?_|refine av h λgx w h=> ?_|refine cP ?_|refine ja h ?_|refine mJ h ?_|refine fX ?_ ?_|refine fE ?_|refine nJ ?_|refine xB ?_|fail)
  refine bh (by have:=auB c2;simp;omega) ?_
  exact bO rfl (aw h)
end
end Go.Proofs.YthidhjhkmjjckaaGreatDoor
namespace Go.Ev
open Go Go.RowKit Go.ChangeShapes Go.WideShapes
theorem agu{H:Type}{enc:TypeId×Value→H}{C:Checked}{os:Os}{K:FuncId}{fn:Func}{s:ChangeSpec}{tb:TypeId}{X:World→Array Value→Prop}
  (hX:∀(w w':World) (args:Array Value),w.heap=w'.heap→X w args→X w' args)
  (own:ownKnob C.prog.godebug=none) (started:os.Started) (noInit:C.prog.inits.idxOf? K=none) (hfn:C.prog.funcs[K]?=some fn)
  (witness:∃(w:World) (tape:Tape) (i:Input),w.os=os∧(w.forCall tape i).Shaped C.prog∧i.vars=[]∧Input.okWide C.prog (w.forCall tape i) .any w.heap.size K i∧
   ((s.pre enc C.prog fn [] false (w.forCall tape i).memory i.args∧X (w.forCall tape i).memory i.args)∧sizedMet enc C.prog fn (OpenSpec.ofChange s) false (w.forCall tape i).memory i.args)∧({}:Assume).holds C.prog (lone (Frame.enter C.prog K i.args .normal) [] (w.forCall tape i)))
  (hvars:s.vars=[]) (hl:laidOutB C.prog=true) (hrows:fn.params.toList.all (λt=>C.prog.readableRec t&&decide (t<C.prog.types.size))=true)
  (hres:fn.resultTypes=#[tb]) (htb:C.prog.underlying tb=some .bool)
  (hs:∀ds:List (DataW H),ds.length=fn.params.toList.length→s.fn H ds={results:=[.lit (.bool true)],args:=ds})
  (walk:∀(W:World) (args:Array Value),VK C.prog W fn.params.toList args.toList→X W args→
   Calls C.prog K args W λe W'=>e= .returned (.bool true)∧Below W.heap.size W W'):
  ReturnsInHanded {} C os K .any (λw args=>(s.pre enc C.prog fn [] false w args∧X w args)∧sizedMet enc C.prog fn (OpenSpec.ofChange s) false w args) (s.post enc C.prog fn false true false false):=by
 refine returnsInHanded_of_change_and hX own started noInit hfn witness ?_;intro W base args ds gs before hval hW _ hsz hXW _;have hW':=hW;obtain⟨p,q,hA,hV,rfl,hfz,hnd⟩:=hW;rw[hvars]at hV;obtain⟨rfl,rfl⟩:=trodVars_none hV;have hlen:=TF hA;have hvt:s.plain.varTypes C.prog=[]:=by simp[DataSpec.varTypes,ChangeSpec.plain,hvars]
 rw[hvt,List.append_nil,List.append_nil]at hsz;have hargs:=agU (λj t v ht hv=>hval j t v (by simpa using ht) (by simpa using hv)) hA (λn hn=>by simpa using xz.1 hsz n hn)
 refine(walk W args hargs hXW).mono λe W' ⟨he,bel⟩=> ?_;subst he;refine⟨_,rfl,ds,[],p++[],[],p,[],hW',?_,?_,?_,bel.frame _,λh=>by cases h⟩
 ·rw[List.append_nil,hs ds hlen,hres];exact trodAll_mk1 (shut_bool htb _)
 ·rw[List.append_nil,hs ds hlen];exact P5 hl bel hrows hA λx hx=>hW'.lt x (by simp[hx])
 ·rw[List.append_nil,hs ds hlen,hvars];exact rfl
end Go.Ev
