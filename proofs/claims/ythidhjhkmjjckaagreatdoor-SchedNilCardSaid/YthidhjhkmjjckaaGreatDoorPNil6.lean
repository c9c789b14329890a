/-
  Parts of the proof of LNil: printed by a program out of longer texts.
-/
import Derived.Test.YthidhjhkmjjckaaGreatDoorPNil5
import Derived.LaidMore
import Derived.SevenTiedAt
import Derived.Lay
import Derived.Stop.Joined
set_option linter.unusedSimpArgs false
set_option linter.unusedVariables false
set_option maxRecDepth 100000
open List renaming getElem?_eq_some_iff→kO,getElem?_eq_getElem→kq,getD_eq_getElem?_getD→nr,getElem?_append_left→sY,getElem?_append_right→uK,getElem?_set_ne→rG,getElem?_set_self→uw,mem_of_getElem?→r0,getElem?_map→pB,eraseIdx→Iy,insertIdx_succ_cons→aAd,insertIdx_zero→aAe,replicate→dM,mem_append→B0,length_append→tW,all_eq_true→xz
open Go.Sem renaming run_pure→cO,run_bind→cQ
open Go.Result renaming andThen_ok→cJ
open Bool renaming or_eq_false_iff→j5,and_eq_true→iW
open Option renaming isNone→ej
open Go.IntKind renaming wrap→aL
open Int renaming toNat_natCast→kY
open Array renaming setIfInBounds→eM,getElem?_eq_some_iff→AO
open Nat renaming le_refl→iN
open Go.Addr renaming add→aX
namespace Go.Proofs.YthidhjhkmjjckaaGreatDoor
open Go Go.Ev Go.Proofs
open Ko (CK)
open Ck (qc)
open Fr (Ay m8 dO eC c9 iv jb nF oH)
structure IV (l:Lc) (P:List ea) (bx:List Int) (ro:List Ro) (G:Gl) (Ws:List Wk):Prop where
 lc:aeA l
 lg:0≤l.log∧l.log≤8
 acc:qc P
 ty:Ty l ro G
 wn:l.wa.length=Ws.length
 dl:Ws.map (·.dq)=bx
 dq:∀v,v<l.wa.length→Z4 ro v (bx.getD v 0)
 w:∀(i:Nat) (W:Wk),Ws[i]?=some W→WT l P bx ro G i W
 dj:∀(i j:Nat) (Wi Wj:Wk) (x:Nat),Ws[i]?=some Wi→Ws[j]?=some Wj→x∈Wi.hold→x∈Wj.hold→i=j
 fr:∀x,x<G.ts.length→G.K x=0→N6 P G.ts.length (G.tk x)
section
variable {l:Lc} {P:List ea} {bx:List Int} {ro iI:List Ro} {G G' G1:Gl} {hold:List Nat} {W W' W1:Wk} {Ws:List Wk} {t t':Tk} {n i x y:Nat} {s a v:Int} {r:Ro} {w0:World}
theorem IV.cx(h:IV l P bx ro G Ws)(hi:Ws[i]?=some W)(he:G.err=0):Cx l P bx ro G i W:=⟨h.lc,h.lg,h.acc,h.ty,h.w i W hi,h.dq,he⟩
theorem auG(kd:Int):(Ck.pI kd).2≤2147483647:=by
 unfold Ck.pI;cases (kd==1)<;>cases (kd==2)<;>cases (kd==3)<;>cases (kd==4)<;>cases (kd==5)<;>decide
theorem auH{i:List Int}(hc:Ck.oD i=0):i.getD 4 0≤1099511627776:=by
 unfold Ck.oD at hc;split at hc
 ·cases hc
 ·split at hc
  ·rename_i hf;unfold Ck.fits at hf;rw[xz]at hf;have f3:=hf 3 gD;unfold Ck.fit at f3;have:=auG ((Ck.kinds (Ck.fU i)).getD 3 0);simp only[Bool.not_eq_true',j5,decide_eq_false_iff_not]at f3;have:=f3.2;have e:i.getD (3+1) 0=i.getD 4 0:=rfl;omega
  ·cases hc
theorem axN(c:Cx l P bx ro G i W)(hdl:bx.length=l.wa.length)(hfr:∀y,y<G.ts.length→G.K y=0→N6 P G.ts.length (G.tk y)):∃iI,rC l P bx ro iI G i W (YH l P G W bx):=by
 have ct:=c.ct;unfold YH;dsimp only;generalize hx:W.stack.headD 0=x;have ht:G.tk (W.stack.headD 0)=G.tk x:=by rw[hx]
 cases bP:W.cR with
 |m f=>
  cases f with
  |rest=>exact⟨_,axy c bP⟩
  |o7=>
   have G5:=ct;unfold cB at G5;rw[bP]at G5;dsimp only at G5;obtain⟨O,hO,_⟩:=G5;dsimp only;rw[hO];obtain⟨iI,h,_⟩:=alm c hdl bP hO ht.symm;exact⟨iI,h⟩
  |looking=>
   have G5:=ct;unfold cB at G5;rw[bP]at G5;dsimp only at G5;obtain⟨k,hk,_⟩:=G5;dsimp only;rw[hk];exact⟨_,alp c bP hk hx rfl⟩
  |tell=>exact⟨_,axz c bP⟩
  |others=>exact⟨_,apc c bP⟩
  |wU=>
   have G5:=ct;unfold cB at G5;rw[bP]at G5;dsimp only at G5;obtain⟨_,_,o,ho,_⟩:=G5;dsimp only;rw[ho];exact⟨_,apb c bP ho⟩
  |RN=>exact⟨_,aAI c bP⟩
  |I0=>exact⟨_,axA c bP⟩
  |sU=>exact⟨_,apj c bP hfr⟩
  |start=>exact⟨_,auF c bP rfl⟩
  |next=>exact⟨_,axG c bP hx rfl⟩
  |fork=>exact axJ c bP hx rfl
  |wV=>exact auA c bP hx rfl
  |sV=>exact⟨_,api c bP hx rfl⟩
  |join=>exact⟨_,axF c bP ht.symm⟩
  |cI=>exact⟨_,aAM c bP⟩
  |opens=>
   have G5:=ct;unfold cB at G5;rw[bP]at G5;dsimp only at G5;rw[hx]at G5;exact auC c bP hx rfl (auH (G5.2.1.fi.oD c.acc))
  |close=>exact⟨_,auz c bP hx rfl⟩
  |gC=>exact⟨_,apg c bP hx rfl⟩
  |cancel=>exact⟨_,apf c bP hx rfl⟩
  |pass=>exact⟨_,axI c bP hx rfl⟩
  |leave=>exact⟨_,auy c bP hx rfl⟩
  |put=>exact⟨_,aAR c bP hx rfl⟩
  |fin=>exact⟨_,aAS c bP hx rfl⟩
  |asks=>exact⟨_,axL c bP ht.symm⟩
  |gone=>exact⟨_,axM c bP ht.symm⟩
  |asked=>exact⟨_,auu c bP ht.symm⟩
  |joined=>exact⟨_,aph c bP hx rfl⟩
  |tP=>exact⟨_,ape c bP ht.symm⟩
  |qU=>exact⟨_,aln c bP⟩
  |rR=>exact⟨_,alo c bP ht.symm⟩
  |register=>exact⟨_,ai2 c bP⟩
  |block=>
   have G5:=ct;unfold cB at G5;rw[bP]at G5;dsimp only at G5;obtain⟨_,o,ho,_⟩:=G5;dsimp only;rw[ho];exact⟨_,auq c bP ho⟩
  |HI=>exact⟨_,axE c bP ht.symm⟩
  |stops=>exact⟨_,auE c bP hx rfl⟩
  |cancelled=>unfold cB at ct;rw[bP]at ct;exact ct.elim
  |vu=>unfold cB at ct;rw[bP]at ct;exact ct.elim
  |Bo=>unfold cB at ct;rw[bP]at ct;exact ct.elim
  |yL=>unfold cB at ct;rw[bP]at ct;exact ct.elim
  |nothing=>unfold cB at ct;rw[bP]at ct;exact ct.elim
  |TH=>unfold cB at ct;rw[bP]at ct;exact ct.elim
  |Am=>unfold cB at ct;rw[bP]at ct;exact ct.elim
 |aw y=>exact⟨_,aDq c bP ht.symm⟩
 |sh k=>exact⟨_,aDr c bP ht.symm⟩
 |no=>unfold cB at ct;rw[bP]at ct;exact ct.elim
 |any=>unfold cB at ct;rw[bP]at ct;exact ct.elim
 |c f=>unfold cB at ct;rw[bP]at ct;exact ct.elim
 |nx i=>unfold cB at ct;rw[bP]at ct;exact ct.elim
 |Vo y k=>unfold cB at ct;rw[bP]at ct;exact ct.elim
 |Bp y k=>unfold cB at ct;rw[bP]at ct;exact ct.elim
 |hl m z=>unfold cB at ct;rw[bP]at ct;exact ct.elim
theorem IV.step(h:IV l P bx ro G Ws)(hi:Ws[i]?=some W)(he:G.err=0):∃iI,rC l P bx ro iI G i W (YH l P G W bx)∧IV l P bx iI (YH l P G W bx).1 (Ws.set i (YH l P G W bx).2):=by
 have c:=h.cx hi he;have hil:=(kO.1 hi).1;obtain⟨iI,hr⟩:=axN c (by rw[←h.dl,List.length_map,h.wn]) h.fr
 generalize YH l P G W bx=r at hr ⊢;refine⟨iI,hr,h.lc,h.lg,h.acc,hr.ty,by rw[List.length_set];exact h.wn,?_,λv hv=> ?_,λj Wj hj=> ?_,λj k Wj Wk_ x hj hk hxj hxk=> ?_,λx hx hK=> ?_⟩
 ·rw[List.map_set,hr.wt.dq,←h.dl];have:(Ws.map (·.dq)).getD i 0=W.dq:=by rw[nr,pB,hi];rfl
  rw[this];apply List.ext_getElem?;intro k;by_cases hk:i=k
  ·subst hk;rw[uw (by simpa using hil),pB,hi];rfl
  ·rw[rG hk]
 ·obtain⟨m,e⟩:=hr.BK.ext;rw[e];exact(h.dq v hv).qD
 ·by_cases e:i=j
  ·subst e;rw[uw hil]at hj;cases hj
   exact hr.wt
  ·rw[rG e]at hj;exact(h.w j Wj hj).imp hr.BK (λx hx q=>e (h.dj i j W Wj x hi hj q hx)) (λ_=>he)
 ·have key:∀j Wj,Ws[j]?=some Wj→i≠j→∀x∈Wj.hold,x ∉ r.2.hold:=λj Wj hj hne x hxj hxr=>by
   rcases hr.hd x hxr with q|⟨q1,q2⟩
   ·exact hne (h.dj i j W Wj x hi hj q hxj)
   ·have:=(h.w j Wj hj).run x hxj;omega
  by_cases e:i=j
  ·subst e;by_cases e2:i=k
   ·exact e2
   ·rw[uw hil]at hj;rw[rG e2]at hk;cases hj
    exact absurd hxj (key k Wk_ hk e2 x hxk)
  ·rw[rG e]at hj;by_cases e2:i=k
   ·subst e2;rw[uw hil]at hk;cases hk
    exact absurd hxk (key j Wj hj e x hxj)
   ·rw[rG e2]at hk;exact h.dj j k Wj Wk_ x hj hk hxj hxk
 ·by_cases hxn:x<G.ts.length
  ·have h0:=hr.BK.K0 x hxn hK;have hnh:x ∉ W.hold:=λq=>by have:=(h.w i W hi).run x q;omega
   rw[hr.BK.tk hxn hnh];exact(h.fr x hxn h0).imp hr.BK.n
  ·exact hr.fr x ah hx
end
section
variable {l:Lc} {P:List ea} {bx:List Int} {ro iI:List Ro} {G G' G1:Gl} {hold:List Nat} {W W' W1:Wk} {Ws:List Wk} {t t':Tk} {n i x y:Nat} {s a v:Int} {r:Ro} {w0:World}
theorem BH.aDC{u:Nat}{d:Int}{O:bw}(h:Ty l ro G)(hd:Z4 ro u d)(hO:BH l ro G.ts.length u d O):O.Gs:=by
 refine⟨λe=>⟨hO.c2 ah,hO.b,hO.t⟩,λe=> ?_,hO.nx,?_⟩
 ·obtain⟨c,hc,_⟩:=hO.c4 e;exact⟨c,hc⟩
 ·have h1:=hd.top.lt;have h0:=hd.top.1;rw[h.len]at h1;have:=h.ok.fit;have:=h.ok.size;rw[hO.at_];exact⟨h0,ah⟩
theorem Cx.inA(c:Cx l P bx ro G i W):y7 W.dq:=by
 have h1:=c.own.top.lt;have h0:=c.own.top.1;rw[c.ty.len]at h1;have:=c.ty.ok.fit;have:=c.ty.ok.size;exact⟨h0,ah⟩
theorem Cx.spf(c:Cx l P bx ro G i W){o:jz}(h:SpT o):o.Gs l.sp G.M W.id:=by
 have hb:=c.ty.val _ _ c.ty.PS;obtain⟨x,hx⟩:=Int.eq_ofNat_of_zero_le hb.1;exact⟨h.1,c.can c.ty.Xu,c.can c.ty.PS,⟨x,hx,by have:=hb.2;omega⟩⟩
theorem Cx.sc(c:Cx l P bx ro G i W)(hx:x<G.ts.length):GA G (G.tk x).lN∧G.M.can W.id (G.nd (G.tk x).lN).at_=true∧G.M.can W.id ((G.nd (G.tk x).lN).at_+1)=true:=by
 have hin:=(c.ty.pR hx).Z3;obtain⟨h1,h2⟩:=c.ty.RZ hin.1 hin.2;exact⟨h1,c.can h2.a,c.can h2.b⟩
theorem Cx.sc1(c:Cx l P bx ro G i W)(hx:x<G.ts.length)(ho:(G.tk x).cI≠ []):GA G (G.tk x).j3.1∧G.M.can W.id (G.nd (G.tk x).j3.1).at_=true∧G.M.can W.id ((G.nd (G.tk x).j3.1).at_+1)=true:=by
 have hin:=c.j3 hx ho;obtain⟨h1,h2⟩:=c.ty.RZ hin.1 hin.2;exact⟨h1,c.can h2.a,c.can h2.b⟩
theorem Cx.dr(c:Cx l P bx ro G i W)(hx:x<G.ts.length)(ho:(G.tk x).cI≠ []):Dr G (G.tk x).j3.1:=by
 have hin:=c.j3 hx ho;exact⟨c.ty.Z0,c.ty.ck,hin.1,⟨_,kq (by rw[c.ty.pl];omega)⟩⟩
theorem alr{k:Kn}(h:qV P n t (.sh k)):t.cI≠ []:=by
 unfold qV at h;split at h
 ·rename_i e;cases e
 ·rename_i e;cases e
 ·exact h.1.cI
 ·exact h.2
 ·exact h.elim
theorem XB(h:q4 P G W):(G.tk (W.stack.headD 0)).cI≠ []:=by
 obtain⟨y,h1,h2,h3⟩|⟨k,h1,_,_,h4⟩:=h.cases
 ·exact h3.1.cI
 ·exact alr h4
theorem agG(h:q4 P G W)(ha:y4 W.again=true):aiD G W:=by
 obtain⟨y,h1,h2,h3⟩|⟨k,h1,_⟩:=h.cases
 ·exact⟨by rw[h2];rfl,by rw[h2];exact h3.2.2.2⟩
 ·rw[h1]at ha;cases ha
theorem axO(h:q4 P G W):∀y,W.target=some y→y<G.ts.length:=λy hy=>by
 obtain⟨z,h1,h2,h3⟩|⟨k,h1,h2,_⟩:=h.cases
 ·rw[h2]at hy;cases hy;exact h3.2.2.2
 ·rw[h2]at hy;cases hy
theorem ZA(h:q4 P G W)(h1:y4 W.again=true→W.dy= .m .vu∧W.wait.how=1)(h2:R3 W.again=true→W.dy= .c .Cs):W.dy= .m .vu∨W.dy= .c .Cs:=by
 obtain⟨z,e,_⟩|⟨k,e,_⟩:=h.cases
 ·exact .inl (h1 (by rw[e];rfl)).1
 ·exact .inr (h2 (by rw[e];rfl))
theorem aAV(h:q4 P G W):aey G W (G.tk (W.stack.headD 0)):=by
 unfold aey;obtain⟨z,e,_⟩|⟨k,e,_,_,h4⟩:=h.cases
 ·rw[e];trivial
 ·rw[e];exact alr h4
theorem IV.vi(h:IV l P bx ro G Ws)(hi:Ws[i]?=some W)(vq:W1.id=i)(hl:∀j∈W1.left,0≤j∧j<l.wa.length∧j≠W1.id)(hn:W1.none_= .m .yL∨(W1.none_= .m .nothing∧W1.wait.how=1)):Zs l ((l.wa.zip Ws).eraseIdx i) bx W1:=by
 refine⟨hn,λj r hj=> ?_⟩;obtain⟨h1,h2,h3⟩:=hl j (by rw[hj];simp)
 have hw:=h.wn;have hjl:j.toNat<l.wa.length:=ah;have hjw:j.toNat<Ws.length:=ah;have hz:(l.wa.zip Ws)[j.toNat]?=some (l.wa[j.toNat]'hjl,Ws[j.toNat]'hjw):=by rw[List.getElem?_zip_eq_some];exact⟨kq hjl,kq hjw⟩
 have hne:j.toNat≠i:=ah;refine⟨j.toNat,l.wa[j.toNat]'hjl,if j.toNat<i then j.toNat else j.toNat - 1,Ws[j.toNat]'hjw,ah,kq hjl,?_,?_⟩
 ·rw[List.getElem?_eraseIdx];by_cases e:j.toNat<i
  ·rw[if_pos e,if_pos e];exact hz
  ·rw[if_neg e,if_neg ah,show j.toNat - 1+1=j.toNat by omega];exact hz
 ·rw[←h.dl,nr,pB,kq hjw];rfl
theorem acJ{W:Wk}(h:CQ l P G W):W.none_= .m .yL∨(W.none_= .m .nothing∧W.wait.how=1):=by
 rcases h.what with⟨_,_,_,h4⟩|⟨_,_,_,h4⟩
 ·exact .inl h4
 ·exact .inr ⟨h4,h.how⟩
theorem IV.ok(h:IV l P bx ro G Ws)(hi:Ws[i]?=some W)(he:G.err=0)(hF:j2 w0 l.ps P):aiE l P ((l.wa.zip Ws).eraseIdx i) bx G W:=by
 have c:=h.cx hi he;have ct:=c.ct;have cap:=c.ty.cap;have vq:=c.am3;have hbl:W.back.length≤100000:=by
  have hb:=c.wt.bk;have:∀(st:List Nat) (b:List Kn),Kf P G st b→b.length=st.length:=by
   intro st;induction st with
   |nil=>intro b hb;cases b<;>first|rfl|exact hb.elim
   |cons y st ih=>intro b hb;cases b with
    |nil=>exact hb.elim
    |cons k b=>simp[ih b hb.2.2]
  rw[this _ _ hb];have:=c.wt.nd;unfold Wk.hold at this;have h2:=(List.nodup_append.1 this).2.1;have:=Mc h2 λy hy=>c.wt.hl y (by unfold Wk.hold;simp[hy])
  omega
 have hsl:W.stack.length≤100000:=by
  have:=c.wt.nd;unfold Wk.hold at this;have h2:=(List.nodup_append.1 this).2.1;have:=Mc h2 λy hy=>c.wt.hl y (by unfold Wk.hold;simp[hy])
  omega
 have xn:W.stack≠ []→Gz G W (W.stack.headD 0) (G.tk (W.stack.headD 0))∧W.stack.headD 0<G.ts.length:=c.top;unfold cB at ct;unfold aiE;dsimp only at ct ⊢;have hop:∀(O:bw) (u:Nat),u<l.wa.length→BH l ro G.ts.length u (bx.getD u 0) O→O.Gs∧((O.step G.M W.id).1.how=6→(O.step G.M W.id).1.err≠0):=λO u hu hO=>by
  obtain⟨iI,hr⟩:=aiX c.lg c.ty (c.dq u hu) c.caller hO;exact⟨hO.aDC c.ty (c.dq u hu),hr.err⟩
 have hown:∀(O:bw) (k:Nat),(BH l ro G.ts.length W.id.toNat W.dq O∧O.kind=k)→BH l ro G.ts.length i (bx.getD i 0) O:=λO k q=>by rw[c.idn,c.wt.dq]at q;exact q.1
 split at ct<;>rename_i bP<;>try exact ct.elim
 all_goals try rw[bP]
 all_goals try dsimp only
 ·exact c.can c.ty.told
 ·obtain⟨O,hO,ct⟩:=ct;refine⟨O,hO,?_⟩;split at ct<;>rename_i ha<;>try exact ct.elim
  ·have:=hop O i c.wt.lt (hown O 1 ct.2.2);exact⟨this.1,this.2,λ_ _=>by unfold Zt;dsimp only;rw[ha];trivial⟩
  ·have:=hop O i c.wt.lt (hown O 0 ct.2.2.2);exact⟨this.1,this.2,λ_ _=>by unfold Zt;dsimp only;rw[ha];trivial⟩
  ·have:=hop O i c.wt.lt (hown O 1 ct.2.2.2);refine⟨this.1,this.2,λ_ _=> ?_⟩;unfold Zt;dsimp only;rw[ha];have ht:=xn ct.1.ne;exact⟨⟨_,ht.1.s⟩,ht.1.t,ZA ct.1 ct.2.1 ct.2.2.1⟩
  ·obtain⟨a1,⟨u,a2,a3,a4,a5⟩,a6⟩:=ct;have:=hop O u a2 a4;refine⟨this.1,this.2,λ_ _=> ?_⟩;unfold Zt;dsimp only;rw[ha];refine⟨?_,h.vi hi c.wt.id a1.left (by have q:=acJ a1;exact q)⟩
   unfold aix;dsimp only;rcases a1.what with⟨_,q,_⟩|⟨q0,q,_⟩
   ·rw[q];trivial
   ·rw[q];exact⟨c.ty.kt,λy hy=>axO q0 y hy⟩
  ·obtain⟨a1,⟨u,a2,a3,a4,a5⟩,a6⟩:=ct;have:=hop O u a2 a4;refine⟨this.1,this.2,λ_ _=> ?_⟩;unfold Zt;dsimp only;rw[ha];refine⟨?_,h.vi hi c.wt.id a1.left (by have q:=acJ a1;exact q)⟩
   rcases a1.what with⟨_,_,q,_⟩|⟨_,_,q,_⟩
   ·exact .inl q
   ·exact .inr q
 ·obtain⟨k,a1,a2,a3,a4,a5,a6⟩:=ct;obtain⟨b1,b2⟩:=c.ty.RZ a3.1 a3.2;refine⟨k,(xn a5).1,a1,a2,b1,c.can b2.a,?_⟩;unfold amV;split at a6<;>rename_i hs<;>try exact a6.elim
  ·try rw[hs]
   have:=a6.1.fi.Zw hF c.acc;rw[a6.2];exact⟨this.1.Gu,a6.1.fi.len,this.2.2⟩
  ·first|(rw[hs];trivial)|trivial
  ·first|(rw[hs];trivial)|trivial
 ·exact c.can c.ty.told
 ·exact⟨c.can c.ty.idle,c.ty.PS.given c.ty.len,⟨ah,by have:=c.wt.lt;rw[c.wt.id];omega⟩,h.vi hi c.wt.id (λj hj=>aeJ j (ai1 j hj)) (by have q:=acJ ct;exact q)⟩
 ·obtain⟨_,_,o,ho,hs⟩:=ct;exact⟨o,ho,c.spf hs⟩
 ·exact⟨⟨ah,ah⟩,c.can c.ty.idle,ct.2⟩
 ·exact⟨⟨ah,ah⟩,c.can c.ty.idle⟩
 ·exact⟨ct.1,by rw[Int.add_zero];exact c.can (c.ty.pR ah).k⟩
 ·have py:W.jc.toNat<G.ts.length:=ah;exact⟨ct.1,c.inA,c.can c.own.bot,(c.sc py).1,hsl,hbl⟩
 ·have ht:=xn ct.1;exact⟨ht.1,ct.2.fi.Zw hF c.acc,(c.sc ht.2).1⟩
 ·have ht:=xn ct.1;exact⟨ht.1,ct.2.1.cI,c.caller,ah,ah,(c.sc1 ht.2 ct.2.1.cI).1⟩
 ·have ht:=xn ct.1;obtain⟨a1,a2,a3,a4⟩:=ct;obtain⟨g',g1,_⟩:=a2.fi.fork c.acc a3;have ht2:=ht.2;have ZD:=abJ (T:=G.T) (s:=(G.tk (W.stack.headD 0)).id) (by unfold AL;rw[(c.ty.pR ht.2).id];simp only[decide_eq_true_eq];have:=c.ty.kl;omega)
  obtain⟨kt,ZD⟩:=ZD;refine⟨ht.1,a2.cI,a2.fi.Zw hF c.acc,a2.fi.is8 c.acc a3,⟨g',g1⟩,c.caller,⟨kt,ZD,?_⟩,ah,ah,by rw[c.ty.pl];exact a4⟩
  have:=c.ty.kk _ _ (xu ZD).2.2;omega
 ·have ht:=xn ct.1;have:=c.sc1 ht.2 ct.2.1.cI;exact⟨ht.1,ct.2.1.cI,this.1,this.2.2⟩
 ·have ht:=xn ct.1;obtain⟨b1,b2⟩:=ct.2.1.fi.hand c.acc ct.2.2;exact⟨ht.1,ct.2.1.fi.Zw hF c.acc,b1,b2,c.can c.ty.told,(c.sc ht.2).1⟩
 ·exact⟨c.inA,c.can c.own.bot⟩
 ·have ht:=xn ct.1;obtain⟨a1,a2,a3⟩:=ct;have hin:=c.j3 ht.2 a2.cI;have hT:=c.ty.pR ht.2;have:=hT.sn;have:=hT.sl;refine⟨ht.1,a2.cI,a2.fi.Zw hF c.acc,c.caller,ah,ah,(c.sc1 ht.2 a2.cI).1,⟨hin.1,by rw[c.ty.pl];exact hin.2⟩,ah,ah,⟨c.ty.Z0,c.ty.ck⟩,λhp=> ?_⟩
  exact(aeK c.ty.ck ah c.ty.PT ⟨ah,auH (a2.fi.oD c.acc)⟩).1
 ·exact⟨(xn ct.1).1,ct.2.1.cI⟩
 ·have ht:=xn ct.1;obtain⟨a1,a2,a3⟩:=ct;have hT:=c.ty.pR ht.2;have:=hT.sn;have:=hT.sl;have hs:=c.sc1 ht.2 a2.cI;exact⟨ht.1,a2.cI,a2.fi.Zw hF c.acc,c.dr ht.2 a2.cI,hs.1,hs.2.1,ah⟩
 ·have ht:=xn ct.1;have hs:=c.sc1 ht.2 ct.2.1.cI;exact⟨ht.1,ct.2.1.cI,ct.2.1.fi.len,hs.1,hs.2.1⟩
 ·exact⟨(xn ct.1).1,ct.2.1.fi.len⟩
 ·exact⟨(xn ct.1).1,ct.2.1.fi.Zw hF c.acc,ct.2.1.fi.aC4 c.acc⟩
 ·have ht:=xn ct.1;exact⟨ht.1,c.can (c.ty.pR ht.2).v⟩
 ·have ht:=xn ct.1;exact⟨ht.1,⟨ct.2.1.k2,ct.2.1.k4⟩,by rw[Int.add_zero];exact c.can (c.ty.pR ht.2).k⟩
 ·have ht:=xn ct.1;exact⟨ht.1,c.can (c.ty.pR ht.2).w⟩
 ·have ht:=xn ct.1;have hs:=c.sc ht.2;refine⟨ht.1,?_,hs.1,hs.2.2⟩;have hb:=c.wt.bk;rw[ht.1.s]at hb;cases hh:W.back with
  |nil=>rw[hh]at hb;exact hb.elim
  |cons kb bs=>
   rw[hh]at hb;refine⟨kb,bs,rfl,?_⟩;have:∀(st:List Nat) (b:List Kn),Kf P G st b→b.length=st.length:=by
    intro st;induction st with
    |nil=>intro b hb;cases b<;>first|rfl|exact hb.elim
    |cons y st ih=>intro b hb;cases b with
     |nil=>exact hb.elim
     |cons k b=>simp[ih b hb.2.2]
   exact this _ _ hb.2.2
 ·have ht:=xn ct.1.ne;have hg:=agG ct.1 ct.2.1;exact⟨ht.1,XB ct.1,hg,by rw[Int.add_zero];exact c.can (c.ty.pR hg.2).k⟩
 ·have ht:=xn ct.1.ne;have hg:=agG ct.1 ct.2.1;obtain⟨y,e,_,h3⟩|⟨k,e,_⟩:=ct.1.cases
  ·exact⟨ht.1,h3.1.fi.Zw hF c.acc,hg,c.can (c.ty.pR hg.2).v⟩
  ·rw[e]at ct;cases ct.2.1
 ·have ht:=xn ct.1.ne;exact⟨ht.1,ZA ct.1 ct.2.1 ct.2.2,c.inA,c.can c.own.bot⟩
 ·exact c.can c.ty.told
 ·have ht:=xn ct.1.ne;have hs:=c.sc1 ht.2 (XB ct.1);exact⟨ht.1,XB ct.1,hs.1,hs.2.2⟩
 ·have hg:=agG ct.1 ct.2;exact⟨hg,⟨ah,ah⟩,c.can (c.ty.pR hg.2).w⟩
 ·obtain⟨_,o,ho,hs⟩:=ct;exact⟨o,ho,c.spf hs⟩
 ·have ht:=xn ct.ne;exact⟨ht.1,aAV ct,c.can c.ty.told,(c.sc ht.2).1⟩
 ·have ht:=xn ct.1.ne;refine⟨ht.1,⟨ah,ah⟩,λhb=>c.spf ?_,λ_ hr=> ?_,λ_ _=> ?_⟩
  ·cases hs:W.step with
   |none=>exact⟨gD,gD,gD⟩
   |some o=>exact ct.2.1 hb o hs
  ·have hg:=agG ct.1 (c.fl.R4 hr);exact⟨hg,c.can (c.ty.pR hg.2).w⟩
  ·have ct3:=ct.2.2;unfold amU;split at ct3<;>rename_i hs<;>try exact ct3.elim
   all_goals try rw[hs]
   ·trivial
   ·exact ct3.1
   ·trivial
   ·trivial
   ·trivial
   ·exact⟨XB ct.1,c.dr ht.2 (XB ct.1)⟩
 ·have ht:=xn ct.1;exact⟨ht.1,ct.2.2.2.2,c.can c.ty.told,(c.sc ht.2).1⟩
 ·have ht:=xn ct.1;exact⟨ht.1,alr ct.2⟩
end
end Go.Proofs.YthidhjhkmjjckaaGreatDoor
namespace Go.Proofs.YthidhjhkmjjckaaGreatDoor
open Go Go.Ev Go.Proofs
open Ko (oE CK)
structure YT (G:Gl) (o:List (Int×Int)):Prop where
 kids:∀(i:Nat) (x:Kt),G.T[i]?=some x→x.kids.length≤1000000
 len:o.length≤100000
 dfs:if G.T.length=0 then o=[]else Dfs G.T [0] o
 ids:∀p∈o,0≤p.1∧p.1<G.ts.length
 sc:(iH G o).length≤1000000
section
variable {w0 w:World} {L R:List HP} {l:Lc} {P:List ea} {aa:List Nat} {G:Gl} {Ws:List Wk} {n:Int} {gw:Nat} {W:Wk} {sp st sw:Sl} {o:List (Int×Int)}
theorem auI{x a:Nat}(h:St w0 w (L6 aa G.ts::R))(ha:aa[x]?=some a)(hx:x<G.ts.length):∃so sc:Sl,St w0 w (ax a ((G.tk x).cells so sc)::rws 2 so ((G.tk x).cI.map Az)::bQ 1 sc (ints (G.tk x).scopes)::lP ZZ ((aa.zip G.ts).eraseIdx x)::R):=sI h ha (G.Ao hx)
theorem apl{k:Sl→aq}(h:St w0 w (SL l aa G R sp st sw))(ho:YT G o)(hk:∀s w',St w0 w' (bQ 1 s (ints (iH G o))::SL l aa G R sp st sw)→k s w'):dG (some ⟨l.gs,0,none⟩) w k:=by
 unfold dG yI;have hla:=NW (h.front 9 rfl);refine av h λg1 w h=> ?_;with_reducible repeat' (first|refine an ?_|refine dL h ?_|fail)
 have h:=h.asS (g:=g1) (n:=1) (sz:=1) (cs:=[.int .i64 0]) rfl ah (by simp[Value.oneCell'])
 refine ahL (T:=G.T) h ho.kids ho.len ho.dfs λs5 w h=> ?_;have h5n:=uN (s:=s5) (vs:=ints (o.map λp:Int×Int=>p.1)) h;simp only[ints,List.length_map]at h5n;have hol:=ho.len;refine Qn (G:=Nat) (λj x w=>x.2=(j:Int)∧j≤o.length∧St w0 w (bQ 1 s5 (ints (o.map λp:Int×Int=>p.1))::bQ 1 x.1 (ints (iH G (o.take j)))::SL l aa G R sp st sw)) (λj=>o.length - j) (g:=0) ⟨rfl,ah,h⟩ ?_;clear h;rintro j ⟨s1,i⟩ w ⟨hi,hj,h⟩ C hC;dsimp only at hi h ⊢;subst hi;by_cases hlt:j<o.length
 ·refine bH (by simp;omega) ?_
  have vq:=ho.ids _ (List.getElem_mem hlt);generalize hp:o[j]'hlt=p at vq;have hpj:o[j]?=some p:=by rw[kq hlt,hp]
  have qI:p.1.toNat<G.ts.length:=ah;obtain⟨a,ha⟩:=YD (aa:=aa) hla (G.Ao qI);refine vI (s:=s5) (vs:=ints (o.map λp:Int×Int=>p.1)) h ah (x:=p.1) (by simp[ints,hpj]) ?_
  with_reducible repeat' (first|refine an ?_|refine mJ h ?_|fail)
  refine vP (s:=st) (vs:=aa.map pt) h vq.1 (x:=some ⟨a,0,none⟩) (by rw[pB,ha];rfl) ?_
  have h:=h.fr 11;obtain⟨so,sc,h⟩:=auI h ha qI;with_reducible repeat' (first|refine an ?_|refine mJ h ?_|fail)
  have aDD:=uN (s:=sc) (vs:=ints (G.tk p.1.toNat).scopes) h;have Z5:=uN (s:=s1) (vs:=ints (iH G (o.take j))) h;simp only[ints,List.length_map]at aDD Z5;have htot:(iH G (o.take j)).length+(G.tk p.1.toNat).scopes.length≤1000000:=by
   have h2:=ho.sc;have e:o=o.take j++p::o.drop (j+1):=by
    rw[←hp,←List.drop_eq_getElem_cons hlt,List.take_append_drop]
   unfold iH at h2 ⊢;rw[e]at h2;simp only[List.flatMap_append,List.flatMap_cons,List.length_cons,tW]at h2 ⊢;omega
  refine Sk (sz:=1) (s:=s1) (vs:=ints (iH G (o.take j))) (x:=sc) (ys:=ints (G.tk p.1.toNat).scopes) h ayH bf (h.own (sz:=1) (s:=sc) (vs:=ints (G.tk p.1.toNat).scopes)).sls (by simp[ints,Value.oneCell']) ah ah λs2 w h E7=> ?_
  have h:=pQ hla ha (G.Ao qI) h;have h:=h.bk 11;refine hC (j+1) _ _ ⟨?_,ah,?_⟩ ah
  ·rw[lO ⟨ah,ah⟩];omega
  ·have e:ints (iH G (o.take (j+1)))=ints (iH G (o.take j))++ints (G.tk p.1.toNat).scopes:=by
    unfold iH;rw[List.take_add_one,hpj];simp[ints]
   rw[e];exact h
 ·refine bp (by simp;omega) ?_
  have e:o.take j=o:=List.take_of_length_le ah;rw[e]at h;exact hk _ _ h.drop
theorem axQ{k:Bool→aq}(h:St w0 w (SL l aa G R sp st sw))(hf:G.time.2.length≤100000)(hc:CK G.time)(hs:∀y∈G.time.2,nR G.C y.2=some (G.nd y.2)∧G.M.can l.wa.length (G.nd y.2).at_=true)(ht:G.M.can l.wa.length l.told=true)
  (hk:∀w',St w0 w' (SL l aa (YJ l G n).1 R sp st sw)→k (YJ l G n).2 w'):kU (some ⟨l.gs,0,none⟩) n w k:=by
 unfold kU Bj;unfold YJ at hk;with_reducible repeat' (first|refine an ?_|refine dL h ?_|fail)
 obtain⟨now,S⟩:∃now S,G.time=(now,S):=⟨_,_,rfl⟩;refine Ko.az6 (now:=G.time.1) (S:=G.time.2) hf hc h (λha s' w' h=> ?_) λha h=> ?_
 ·rw[if_pos ha]at hk;refine bp rfl ?_;refine amX (G:={G with time:=(G.time.1+n,Ko.NU G.time.2 (G.time.1+n))}) h (λx hx=> ?_) ht λw h=>hk w h
  obtain⟨y,hy,rfl⟩:=List.mem_map.1 hx;exact hs y (List.mem_filter.1 hy).1
 ·rw[if_neg (by rw[ha];simp)]at hk
  exact bH rfl (hk _ h)
theorem axR{k:Bool→aq}(h:St w0 w (SL l aa G R sp st sw))(ho:YT G o)(hs:∀x∈iH G o,(0≤x∧x<G.P.length)∧nR G.C x=some (G.nd x)∧G.M.can l.wa.length (G.nd x).at_=true)(ht:G.M.can l.wa.length l.told=true)
  (hk:∀w',St w0 w' (SL l aa (YL l G o n).1 R sp st sw)→k (YL l G o n).2 w'):kV (some ⟨l.gs,0,none⟩) n w k:=by
 unfold kV Bk;unfold YL at hk;refine apl h ho λs1 w h=> ?_;have Z5:=uN (s:=s1) (vs:=ints (iH G o)) h;simp only[ints,List.length_map]at Z5;by_cases hn:0≤n∧n<(iH G o).length
 ·rw[if_pos hn]at hk;have hlt:n.toNat<(iH G o).length:=ah;have hg:(iH G o).getD n.toNat 0=(iH G o)[n.toNat]'hlt:=by rw[nr,kq hlt];rfl
  rw[hg]at hk;have hx:=hs _ (List.getElem_mem hlt);generalize hxe:(iH G o)[n.toNat]'hlt=x at hk hx;have hxa:(ints (iH G o))[n.toNat]?=some (.int .i64 x):=by simp[ints,hlt,hxe]
  obtain⟨p,hp⟩:∃p,G.P[x.toNat]?=some p:=⟨_,kq ah⟩;refine bU (λb w=>b=YK G x∧St w0 w (bQ 1 s1 (ints (iH G o))::SL l aa G R sp st sw)) (λJ hJ=> ?_) ?_
  ·with_reducible repeat' (first|refine aK h λw h=> ?_|fail)
   refine bp (by simp;omega) ?_
   with_reducible repeat' (first|refine an ?_|refine mJ h ?_|fail)
   refine vI (s:=s1) (vs:=ints (iH G o)) h hn.1 hxa ?_;refine rB (sz:=4) (s:=sp) (es:=G.P.map uy) (e:=uy p) h hx.1.1 (by rw[pB,hp];rfl) rfl ?_
   exact hJ _ _ ⟨by unfold YK;rw[hp],h⟩
  clear h;rintro _ w ⟨rfl,h⟩;refine aF (λhb=> ?_) λhb=> ?_
  ·rw[if_pos hb]at hk;exact hk _ h.drop
  ·rw[if_neg (by rw[hb];simp)]at hk
   refine vI (s:=s1) (vs:=ints (iH G o)) h hn.1 hxa ?_;refine av h λg2 w h=> ?_;have h:=h.asS (g:=g2) (n:=1) (sz:=1) (cs:=[.int .i64 x]) rfl ah (by simp[Value.oneCell'])
   have h:=h.rm 1 rfl;simp only[Iy]at h;refine amX (ids:=[x]) h (λy hy=> ?_) ht λw h=>hk w h;simp at hy;subst hy;exact hx.2
 ·rw[if_neg hn]at hk;refine bU (λb w=>b=true∧St w0 w (bQ 1 s1 (ints (iH G o))::SL l aa G R sp st sw)) (λJ hJ=> ?_) ?_
  ·with_reducible repeat' (first|refine aK h λw h=> ?_|fail)
   refine bH (by simp;omega) (hJ _ _ ⟨rfl,h⟩)
  clear h;rintro _ w ⟨rfl,h⟩;exact bH rfl (hk _ h.drop)
end
open Ck (qc)
open Fr (nF)
def roB(m:Lm)(v:Nat):List Ro:=[.top v,.bot v,.Vx v] ++(List.range (2 ^ m.lg.toNat)).map (.rg v m.lg.toNat)
def PU(m:Lm):Nat→List Ro
 |0=>[.told,.idle,.ask 0,.liv 0,.Xu,.PS]
 |v+1=>PU m v++roB m v
def YU(m:Lm):List Ro:=PU m m.n++[.ask 1,.liv 1] ++[.fk 0,.fv 0,.fw 0]
section
variable {w0 w:World} {L R:List HP} {a:Ad} {ps:Sl} {m:Lm} {M:bO} {P:List ea} {wa:List Nat} {l:Lc} {ro:List Ro} {r:Ro} {b:Int}
theorem auJ{v:Nat}:(((roB m v).length:Nat):Int)=m.one:=by
 unfold roB Lm.one Fx;simp;omega
theorem XC:∀v:Nat,(((PU m v).length:Nat):Int)=tR m v
 |0=>by unfold tR;simp[PU]
 |v+1=>by
  rw[YN];show(((PU m v++roB m v).length:Nat):Int)=_;rw[tW,Int.natCast_add,XC v,auJ]
theorem acL:∀(v:Nat) (i:Nat),∃q,PU m (v+i)=PU m v++q
 |v,0=>⟨[],bh⟩
 |v,i+1=>by
  obtain⟨q,hq⟩:=acL v i;exact⟨q++roB m (v+i),by show PU m (v+i)++roB m (v+i)=_;rw[hq];simp⟩
theorem aaq{i v k:Nat}(hi:i<v)(hk:(roB m i)[k]?=some r):kM (PU m v) (tR m i+k) r:=by
 obtain⟨q,hq⟩:=acL (m:=m) (i+1) (v - (i+1));rw[show i+1+(v - (i+1))=v from by omega]at hq
 rw[hq];refine kM.qD ?_;show kM (PU m i++roB m i) _ _;exact kM.new hk (by rw[Int.natCast_add,XC])
theorem agH{i v:Nat}(hi:i<v):Z4 (PU m v) i (tR m i):=by
 refine⟨?_,aaq (k:=1) hi rfl,aaq (k:=2) hi rfl⟩;have:=aaq (m:=m) (k:=0) (r:= .top i) hi rfl;simpa using this
theorem axS{i v k:Nat}(hi:i<v)(hk:k<2 ^ m.lg.toNat):kM (PU m v) (tR m i+3+k) (.rg i m.lg.toNat k):=by
 have:=aaq (m:=m) (k:=3+k) (r:= .rg i m.lg.toNat k) hi (by
  unfold roB;rw[uK bh];simp[hk])
 rw[show tR m i+3+(k:Int)=tR m i+((3+k:Nat):Int) by omega]
 exact this
theorem aeL{v k:Nat}(hk:([.told,.idle,.ask 0,.liv 0,.Xu,.PS]:List Ro)[k]?=some r):kM (PU m v) k r:=by
 obtain⟨q,hq⟩:=acL (m:=m) 0 v;rw[Nat.zero_add]at hq;rw[hq];exact kM.qD ⟨ah,hk⟩
theorem ai5:∀{v:Nat},kM (PU m v) b r→(∀i,r≠ .Vx i)∨∃i,i<v∧r= .Vx i∧b=tR m i+2
 |0,h=>by
  refine .inl λi e=> ?_;subst e;obtain⟨_,h⟩:=h;have:=r0 h;simp[PU]at this
 |v+1,h=>by
  rcases kM.old (ro:=PU m v) (m:=roB m v) h with h|⟨k,hk,e⟩
  ·rcases ai5 h with h|⟨i,h1,h2,h3⟩
   ·exact .inl h
   ·exact .inr ⟨i,ah,h2,h3⟩
  ·by_cases h3:k<3
   ·match k,h3 with
    |0,_=>refine .inl λi q=> ?_;subst q;cases hk
    |1,_=>refine .inl λi q=> ?_;subst q;cases hk
    |2,_=>
     cases hk
     refine .inr ⟨v,ah,rfl,?_⟩;rw[e,Int.natCast_add,XC];rfl
   ·refine .inl λi q=> ?_;subst q;unfold roB at hk;rw[uK (by simp;omega)]at hk
    have:=r0 hk;simp at this
theorem auK{n:Nat}(hn:1≤n)(h:∀i,r≠ .Vx i):Ee l ro n r 0:=by
 cases r with
 |Vx i=>exact absurd rfl (h i)
 |PS=>exact⟨ah,ah⟩
 |ask s=>exact .inl rfl
 |rg v g k=>exact⟨ah,ah⟩
 |top v=>exact⟨gD,gD⟩
 |bot v=>exact⟨gD,gD⟩
 |fk x=>exact⟨ah,ah⟩
 |_=>trivial
theorem aAY(hm:m.OK)(v:Nat):6≤tR m v:=by
 have:=m.Ke hm;have:=Xw m ah (Nat.zero_le v);unfold tR at this ⊢;simp at this ⊢;omega
theorem axT(hm:m.OK)(h:m.total≤m.cells){x:Int}(h0:0≤x):(g2 m).M.get x=if x<6+m.n*m.one then(nM m m.n).get x else 0:=by
 have hR:=agz hm h;have l1:(((g1 m).M.cells.length:Nat):Int)=8+m.n*m.one:=by
  have:=xw (M:=(nM m m.n).tick m.n) (n:=2) ah;show((((nM m m.n).tick m.n).grow 2).cells.length:Nat)=(_:Int);rw[this];show(((nM m m.n).cells.length:Nat):Int)+2=_;rw[hR.len];omega
 show(((g1 m).M.tick m.n).grow 3).get x=_;by_cases h1:x<8+m.n*m.one
 ·rw[xx h0 (by show x<(((g1 m).M.cells.length:Nat):Int);rw[l1];exact h1),tv]
  show(((nM m m.n).tick m.n).grow 2).get x=_;split
  ·rename_i h2;rw[xx h0 (by show x<(((nM m m.n).cells.length:Nat):Int);rw[hR.len];exact h2),tv]
  ·rename_i h2;exact Xv (by show(((nM m m.n).cells.length:Nat):Int)≤x;rw[hR.len];omega)
 ·rw[if_neg ah];exact Xv (by show(((g1 m).M.cells.length:Nat):Int)≤x;rw[l1];omega)
theorem aAZ(hm:m.OK)(CW:wa.length=m.n):aeA (nT a ps m wa):=by
 have:=hm.base;have:=hm.spare;refine⟨⟨hm.base.1,hm.base.2,hm.spare.1,hm.spare.2⟩,?_,?_⟩
 ·show 1≤wa.length;rw[CW];unfold Lm.n;omega
 ·show wa.length≤16;rw[CW];unfold Lm.n;omega
theorem am7(hm:m.OK)(h:m.total≤m.cells){i:Nat}(hi:i<m.n):Z2 (nT a ps m wa) (PU m m.n) i ⟨tR m i+3,m.lg⟩:=by
 have YM:=m.acy hm;have ho:=m.Ke hm;have Yj:=abQ YM.1 YM.2.2;have hone:m.one=3+Fx m.lg:=rfl;have h1:=Xw m ah (show i+1≤m.n by omega)
 rw[YN]at h1;have h2:tR m m.n=6+m.n*m.one:=rfl;have h6:=aAY hm i;have hsz:=hm.cells;unfold Lm.total at h;refine⟨?_,YM.2.1,λk hk=>axS hi hk⟩;unfold Rg.right;simp only[decide_eq_true_eq];unfold Fx at Yj hone;unfold Rg.pw;dsimp only;omega
theorem axU:CK ((0,[]):Int×List (Int×Int)):=⟨gD,gD,λy hy=>(by cases hy),λy hy=>(by cases hy),.nil,List.nodup_nil⟩
theorem axV(hm:m.OK)(h:m.total≤m.cells)(hz:m.cells≤65536)(CW:wa.length=m.n):Ty (nT a ps m wa) (YU m) (g2 m):=by
 have hR:=agz hm h;have ho:=m.Ke hm;have uz:=hR.n1;have hmul:m.one≤m.n*m.one:=by have:(1:Int)*m.one≤m.n*m.one:=Int.mul_le_mul_of_nonneg_right ah ah;omega
 obtain⟨h1,h2,h3,h4,h5⟩:=SD hm m.n (by unfold Lm.total at h;omega)
 have hl0:(((PU m m.n).length:Nat):Int)=6+m.n*m.one:=XC m.n;have hl:(((YU m).length:Nat):Int)=11+m.n*m.one:=by
  unfold YU;simp only[tW,List.length_cons,List.length_nil];omega
 have l1:(((g1 m).M.cells.length:Nat):Int)=8+m.n*m.one:=by
  have:=xw (M:=(nM m m.n).tick m.n) (n:=2) ah;show((((nM m m.n).tick m.n).grow 2).cells.length:Nat)=(_:Int);rw[this];show(((nM m m.n).cells.length:Nat):Int)+2=_;rw[h3];omega
 have l2:(((g2 m).M.cells.length:Nat):Int)=11+m.n*m.one:=by
  have:=xw (M:=(g1 m).M.tick m.n) (n:=3) ah;show((((g1 m).M.tick m.n).grow 3).cells.length:Nat)=(_:Int);rw[this];show(((g1 m).M.cells.length:Nat):Int)+3=_;rw[l1];omega
 have hst:(g2 m).M.steps.length=m.n+1:=by rw[←h5];exact SF.trans SF
 have hb:∀{k:Nat} {r:Ro},([.told,.idle,.ask 0,.liv 0,.Xu,.PS]:List Ro)[k]?=some r→kM (YU m) k r:=λhk=>(aeL hk).qD.qD;have hs1:∀{k:Nat} {r:Ro},([.ask 1,.liv 1]:List Ro)[k]?=some r→kM (YU m) ((nM m m.n).cells.length+k:Nat) r:=fun{k r} hk=>kM.qD (kM.new hk (by have:=hl0;have:=h3;omega))
 have ht1:∀{k:Nat} {r:Ro},([.fk 0,.fv 0,.fw 0]:List Ro)[k]?=some r→kM (YU m) ((g1 m).M.cells.length+k:Nat) r:=fun{k r} hk=>kM.new hk (by have:=hl0;have:=l1;simp only[tW,List.length_cons,List.length_nil];omega)
 have hC:(g2 m).C=[⟨-1,0,2⟩,⟨0,1,((nM m m.n).cells.length:Nat)⟩]:=rfl;have hT:(g2 m).ts=[⟨0,0,1,((g1 m).M.cells.length:Nat),nF,ByteArray.mk #[],[],[1],0,0⟩]:=rfl;have hsz:(g2 m).M.size=m.cells:=h4;obtain⟨z1,z2⟩:=acC hm m.n (by unfold Lm.total at h;omega)
 have hdn:tR m m.n=6+m.n*m.one:=rfl;refine{len:=by omega,ok:=hR.ok2,sz:=by rw[hsz];exact hz,stp:=by rw[hst];show _=wa.length+1;rw[CW],val:=λa' r hL=> ?_,told:=hb (k:=0) rfl,idle:=hb (k:=1) rfl,Xu:=hb (k:=4) rfl,PS:=hb (k:=5) rfl,sc:=λs x hx=> ?_,tk:=λx t ht=> ?_,c1:=(by rw[hC];simp),t1:=(by rw[hT];simp),pl:=rfl,kt:=λi x hx=> ?_,kl:=rfl,kk:=λi x hx=> ?_,ck:=axU,PT:=(λy hy=>by cases hy),cnt:= ?_,dr:=(by show(0:Nat)≤1024;decide)}
 ·rw[axT hm h hL.1,hT];have hzz:∀r:Ro,(∀i,r≠ .Vx i)→Ee (nT a ps m wa) (YU m) 1 r 0:=λr q=>auK (iN 1) q;rcases hL.old with hL|⟨k,hk,e⟩
  ·rcases hL.old with hL|⟨k,hk,e⟩
   ·have hlt:=hL.lt;rw[hl0]at hlt;rw[if_pos hlt];rcases ai5 hL with q|⟨i,hi,rfl,rfl⟩
    ·rw[z1 a' hL.1 (by rw[hdn];exact hlt) λi hi=>(hL.ne (agH hi).Vx (q i))]
     exact hzz r q
    ·rw[z2 i hi];exact⟨_,rfl,(am7 hm h hi).qD.qD⟩
   ·rw[if_neg ah];refine hzz r λi q=> ?_;subst q;have:=r0 hk;simp at this
  ·rw[if_neg (by simp only[tW,List.length_cons,List.length_nil]at e;omega)]
   refine hzz r λi q=> ?_;subst q;have:=r0 hk;simp at this
 ·rw[hC]at hx;match s,hx with
  |0,hx=>cases hx;exact⟨hb (k:=2) rfl,hb (k:=3) rfl,(by show(0:Int)≤0∧(0:Int)≤32;decide),λq=>absurd rfl q,λ_=>rfl⟩
  |1,hx=>cases hx;exact⟨hs1 (k:=0) rfl,hs1 (k:=1) rfl,(by show(0:Int)≤1∧(1:Int)≤32;decide),λq=>(by show(0:Int)≤0∧(0:Int)<1;decide),λq=>(by cases q)⟩
  |s+2,hx=>simp at hx
 ·rw[hT]at ht;match x,ht with
  |0,ht=>cases ht;exact⟨rfl,ht1 (k:=0) rfl,ht1 (k:=1) rfl,ht1 (k:=2) rfl,(by rw[hC];show(0:Int)≤0∧(0:Int)<2;decide),(by rw[hC];show(0:Int)≤1∧(1:Int)<2;decide),λp hp=>(by cases hp),(by show 0+0≤1;decide),(by rw[hC];show 1≤2;decide)⟩
  |x+1,ht=>simp at ht
 ·have hx:([⟨-1,0,[]⟩]:List Kt)[i]?=some x:=hx;match i,hx with
  |0,hx=>cases hx;exact⟨(by show(-1:Int)≤ -1;decide),(by show(-1:Int)<0;decide),λ_=>rfl⟩
  |i+1,hx=>simp at hx
 ·have hx:([⟨-1,0,[]⟩]:List Kt)[i]?=some x:=hx;match i,hx with
  |0,hx=>cases hx;exact(by show 0≤1;decide)
  |i+1,hx=>simp at hx
 ·rw[hC,hT];show 2*2+3*1≤_;omega
end
end Go.Proofs.YthidhjhkmjjckaaGreatDoor
namespace Go.Proofs.YthidhjhkmjjckaaGreatDoor
open Go Go.Ev Go.Proofs
open Ko (oE CK)
section
variable {w0 w:World} {L R:List HP} {l:Lc} {P:List ea} {bx:List Int} {ro:List Ro} {aa:List Nat} {G G':Gl} {Ws:List Wk} {n:Int} {gw:Nat} {W:Wk} {sp st sw:Sl} {o:List (Int×Int)}
theorem IV.drv(h:IV l P bx ro G Ws)(ty:Ty l ro G')(BK:uv ro ro G G' [])(hts:G'.ts=G.ts)(her:G'.err=0→G.err=0):IV l P bx ro G' Ws:=by
 have hK:∀x,x<G.ts.length→1≤G.K x→G'.K x=G.K x:=λx hx h1=>(BK.K1 x hx bh h1).1;refine⟨h.lc,h.lg,h.acc,ty,h.wn,h.dl,h.dq,λi W hi=>(h.w i W hi).imp BK (λx _=>by simp) her,h.dj,λx hx hk=> ?_⟩
 rw[hts]at hx ⊢;have:G'.tk x=G.tk x:=by unfold Gl.tk;rw[hts]
 rw[this];exact h.fr x hx (BK.K0 x hx hk)
theorem auL(h:Ty l ro G){wk s:Int}(hs:0≤s∧s<G.C.length):Ty l ro (G.EX wk s)∧uv ro ro G (G.EX wk s) []∧(G.EX wk s).ts=G.ts∧(G.EX wk s).C=G.C∧(G.EX wk s).err=G.err:=by
 obtain⟨hsc,FB⟩:=h.RZ hs.1 hs.2;have hlt:=FB.a.lt;rw[h.len]at hlt;have sL:∀b,0≤b→(G.M.cs wk (G.nd s).at_ 0 1).1.get b=if b=(G.nd s).at_∧G.M.get (G.nd s).at_=0 then 1 else G.M.get b:=λb hb=>aao FB.a.1 hlt hb
 have hK:∀y,y<G.ts.length→(G.EX wk s).K y=G.K y∧(G.EX wk s).V y=G.V y:=λy hy=>by
  have hk:=(h.pR hy).k;have hv:=(h.pR hy).v;have n1:=hk.ne FB.a bh;have n2:=hv.ne FB.a bh;show(G.M.cs _ _ _ _).1.get (G.tk y).jt=_∧(G.M.cs _ _ _ _).1.get ((G.tk y).jt+1)=_;rw[sL _ hk.1,if_neg (λq=>n1 q.1),sL _ hv.1,if_neg (λq=>n2 q.1)];exact⟨rfl,rfl⟩
 refine⟨h.cs FB.a (.inr rfl),⟨⟨[],bh⟩,iN _,λ_ _ _=>rfl,λ_ _=>⟨rfl,rfl,rfl⟩,⟨[],by simp[Gl.EX,Gl.mem]⟩,λy hy q=>by rw[←(hK y hy).1];exact q,λy hy _ _=>hK y hy,λy hy _=>hK y hy,λs' ⟨nd,h1,h2⟩=>⟨nd,h1,?_⟩⟩,rfl,rfl,rfl⟩
 show(G.M.cs _ _ _ _).1.get _≠0;rw[sL _ (Jc h h1).1];split
 ·decide
 ·exact h2
theorem uv.VB{ro iI ro2:List Ro}{G G' G2:Gl}(h:uv ro iI G G' [])(k:uv iI ro2 G' G2 []):uv ro ro2 G G2 []:=h.trans k (.inr λx hx=>by cases hx)
theorem uv.refl(ro:List Ro)(G:Gl):uv ro ro G G []:=⟨⟨[],bh⟩,iN _,λ_ _ _=>rfl,λ_ _=>⟨rfl,rfl,rfl⟩,⟨[],bh⟩,λ_ _ q=>q,λ_ _ _ _=>⟨rfl,rfl⟩,λ_ _ _=>⟨rfl,rfl⟩,λ_ q=>q⟩
theorem aeM(hM:G'.M=G.M)(hts:G'.ts=G.ts)(hC:G'.C=G.C):uv ro ro G G' []:=by
 cases G'
 dsimp only at hM hts hC;subst hM;subst hts;subst hC;exact⟨⟨[],bh⟩,iN _,λ_ _ _=>rfl,λ_ _=>⟨rfl,rfl,rfl⟩,⟨[],bh⟩,λ_ _ q=>q,λ_ _ _ _=>⟨rfl,rfl⟩,λ_ _ _=>⟨rfl,rfl⟩,λ_ q=>q⟩
theorem ai6(wk:Int):∀(ids:List Int) (G:Gl),Ty l ro G→(∀x∈ids,0≤x∧x<G.C.length)→Ty l ro (sg wk G ids)∧uv ro ro G (sg wk G ids) []∧(sg wk G ids).ts=G.ts∧(sg wk G ids).C=G.C∧(sg wk G ids).err=G.err
 |[],G,h,_=>⟨h,uv.refl ro G,rfl,rfl,rfl⟩
 |s::ids,G,h,hs=>by
  obtain⟨h1,h2,h3,h4,h5⟩:=auL h (wk:=wk) (hs s bh);obtain⟨k1,k2,k3,k4,k5⟩:=ai6 wk ids (G.EX wk s) h1 λx hx=>by rw[h4];exact hs x (by simp[hx])
  exact⟨k1,h2.VB k2,k3.trans h3,k4.trans h4,k5.trans h5⟩
theorem ai7{ids:List Int}(h:Ty l ro G)(hs:∀x∈ids,0≤x∧x<G.C.length):Ty l ro (Ul l G ids)∧uv ro ro G (Ul l G ids) []∧(Ul l G ids).ts=G.ts∧(Ul l G ids).C=G.C∧(Ul l G ids).err=G.err:=by
 unfold Ul;split
 ·exact⟨h,uv.refl ro G,rfl,rfl,rfl⟩
 ·obtain⟨k1,k2,k3,k4,k5⟩:=ai6 (l.wa.length:Nat) ids G h hs;exact⟨k1.ad k1.told trivial,k2.VB (agB k1 k1.told (λq=>q)),k3,k4,k5⟩
theorem auM{kind:Int}(h:IV l P bx ro G Ws)(ho:∀x∈iH G o,0≤x∧x<G.C.length):∃iI,IV l P bx iI (RV l P G Ws o kind n).1.1 (RV l P G Ws o kind n).1.2:=by
 unfold RV;split
 ·exact⟨ro,h⟩
 rename_i he;have he:G.err=0:=Classical.not_not.1 he;split
 ·unfold YI;split
  ·split
   ·rename_i W hW;split
    ·rw[h.dl];obtain⟨iI,_,hr⟩:=h.step hW he;exact⟨iI,hr⟩
    ·exact⟨ro,h⟩
   ·exact⟨ro,h⟩
  ·exact⟨ro,h⟩
 split
 ·unfold YJ;split
  ·rename_i ha;have ty1:Ty l ro {G with time:=(G.time.1+n,Ko.NU G.time.2 (G.time.1+n))}:={h.ty with ck:=h.ty.ck.adv ha,PT:=λy hy=>h.ty.PT y (List.mem_filter.1 hy).1}
   have auB:uv ro ro G {G with time:=(G.time.1+n,Ko.NU G.time.2 (G.time.1+n))} []:=aeM rfl rfl rfl;obtain⟨k1,k2,k3,k4,k5⟩:=ai7 (ids:=Ko.ids (Ko.ab8 G.time.2 (G.time.1+n))) ty1 λx hx=>by
    obtain⟨y,hy,rfl⟩:=List.mem_map.1 hx;have hm:=(List.mem_filter.1 hy).1;exact⟨h.ty.ck.ids y hm,h.ty.PT y hm⟩
   exact⟨ro,h.drv k1 (auB.VB k2) k3 (λe=>by rw[←k5];exact e)⟩
  ·exact⟨ro,h⟩
 split
 ·split
  ·rename_i hd;have ty1:Ty l ro {G with D:=G.D++[n]}:={h.ty with dr:=by show(G.D++[n]).length≤_;simp;omega}
   exact⟨ro,h.drv ty1 (aeM rfl rfl rfl) rfl (λe=>e)⟩
  ·exact⟨ro,h⟩
 split
 ·unfold YL;split
  ·rename_i hn;split
   ·exact⟨ro,h⟩
   ·have hlt:n.toNat<(iH G o).length:=ah;have hg:(iH G o).getD n.toNat 0=(iH G o)[n.toNat]'hlt:=by rw[nr,kq hlt];rfl
    obtain⟨k1,k2,k3,k4,k5⟩:=ai7 (ids:=[(iH G o).getD n.toNat 0]) h.ty λx hx=>by
     simp only[List.mem_singleton]at hx;rw[hx,hg];exact ho _ (List.getElem_mem hlt)
    exact⟨ro,h.drv k1 k2 k3 (λe=>by rw[←k5];exact e)⟩
  ·exact⟨ro,h⟩
 ·exact⟨ro,h⟩
theorem aDE{kind:Int}{k:Bool→aq}(hI:IV l P bx ro G Ws)(hF:j2 w0 l.ps P)(hT:TZ w0)(ho:YT G o)(hs:∀x∈iH G o,0≤x∧x<G.C.length)(h:Ap w0 w l aa G Ws R)
  (hk:∀I8 w',Ap w0 w' l I8 (RV l P G Ws o kind n).1.1 (RV l P G Ws o kind n).1.2 R→k (RV l P G Ws o kind n).2 w'):eT (some ⟨l.gs,0,none⟩) #[.int .i64 kind,.int .i64 n] w k:=by
 unfold eT yT;unfold RV at hk;have hdc:G.M.caller l.wa.length=true:=I9 hI.ty.stp ah ah;have am6:∀x:Int,0≤x→x<G.C.length→nR G.C x=some (G.nd x)∧G.M.can l.wa.length (G.nd x).at_=true:=λx h0 h1=>by
  obtain⟨a,b⟩:=hI.ty.RZ h0 h1;exact⟨a,b.a.can hI.ty.len hdc⟩
 have htold:G.M.can l.wa.length l.told=true:=hI.ty.told.can hI.ty.len hdc;refine av h λg1 w h=> ?_;have h:St w0 w (ax g1 [.int .i64 kind,.int .i64 n]::Uk l aa G::lP (qt l aa) (l.wa.zip Ws)::R):=h;have h2:=h.drop;obtain⟨sp,st,sw,h3⟩:=AA h2;refine bU (λb w=>b=decide (G.err≠0)∧St w0 w (ax g1 [.int .i64 kind,.int .i64 n]::Uk l aa G::lP (qt l aa) (l.wa.zip Ws)::R)) (λJ hJ=> ?_) ?_
 ·refine bp rfl (an (aI h3 rfl (hJ _ _ ⟨?_,h⟩)));by_cases e:G.err=0<;>simp[e]
 clear h h2 h3;rintro _ w ⟨rfl,h⟩;by_cases he:G.err=0;rotate_left
 ·rw[if_pos he]at hk;exact bH (by simp[he]) (hk aa _ h.drop)
 rw[if_neg (by simp[he])]at hk
 refine bp (by simp[he]) ?_
 refine cv (g:=g1) (o:=0) h rfl ?_;refine aF (λhb=> ?_) λhb=> ?_
 ·rw[if_pos (by simpa using hb)]at hk
  refine cv (g:=g1) (o:=1) h rfl ?_;have h:=h.drop;refine axl (P:=P) hF hT hI.lc hI.wn hI.ty.ok he (hI.ty.PS.given hI.ty.len) (hI.ty.told.given hI.ty.len) (λi W hi _ _=> ?_) h hk;rw[hI.dl];exact hI.ok hi he hF
 rw[if_neg (by simpa using hb)]at hk
 clear hb;refine aF (λhb=> ?_) λhb=> ?_
 ·rw[if_pos (by simpa using hb)]at hk
  refine cv (g:=g1) (o:=1) h rfl ?_;obtain⟨sp,st,sw,h3⟩:=AA h.drop;refine axQ h3 hI.ty.Z0 hI.ty.ck (λy hy=>am6 _ (hI.ty.ck.ids y hy) (hI.ty.PT y hy)) htold λw' h'=> ?_;exact hk aa w' (vn h')
 rw[if_neg (by simpa using hb)]at hk
 clear hb;refine aF (λhb=> ?_) λhb=> ?_
 ·rw[if_pos (by simpa using hb)]at hk
  obtain⟨sp,st,sw,h⟩:=AA h.swap;with_reducible repeat' (first|refine an ?_|refine aK h λw h=> ?_|refine dL h ?_|refine dX h ?_|refine av h λgx w h=> ?_|refine kr h ?_|fail)
  have h:=h.fr 9;refine arU (l:=sp) h.swap (λhd w h=> ?_) (λhd w h=> ?_) hI.ty.dr
  ·rw[if_pos hd]at hk;have h:=h.bk 8;have h:=h.El 10;exact hk aa _ (vn (G:={G with D:=G.D++[n]}) h)
  ·rw[if_neg hd]at hk;have h:=h.bk 8;have h:=h.El 10;exact hk aa _ (vn h)
 rw[if_neg (by simpa using hb)]at hk
 clear hb;refine aF (λhb=> ?_) λhb=> ?_
 ·rw[if_pos (by simpa using hb)]at hk
  refine cv (g:=g1) (o:=1) h rfl ?_;obtain⟨sp,st,sw,h3⟩:=AA h.drop;refine axR h3 ho (λx hx=> ?_) htold λw' h'=> ?_
  ·have:=hs x hx;exact⟨by rw[hI.ty.pl];exact this,am6 x this.1 this.2⟩
  ·exact hk aa w' (vn h')
 rw[if_neg (by simpa using hb)]at hk
 exact hk aa _ h.drop
end
open Ck (qc)
open Fr (nF)
def dqN(m:Lm):List Int:=(HJ m).map λW:Wk=>W.dq
section
variable {w0 w:World} {L R:List HP} {a:Ad} {ps:Sl} {m:Lm} {M:bO} {P:List ea} {wa:List Nat} {l:Lc} {ro:List Ro} {r:Ro} {b:Int}
theorem aA5(hm:m.OK)(h:m.total≤m.cells)(hz:m.cells≤65536)(CW:wa.length=m.n):Ty (nT a ps m wa) (YU m) (Oz m):=by
 have hR:=agz hm h;have h2:=axV (a:=a) (ps:=ps) hm h hz CW;have hL3:kM (YU m) 3 (.liv 0):=(aeL (k:=3) rfl).qD.qD;have h3:Ty (nT a ps m wa) (YU m) (g3 m):=h2.ad hL3 trivial;have VY:tR m 0=6:=by unfold tR;simp
 have G4:Z2 (nT a ps m wa) (YU m) 0 ⟨9,m.lg⟩:=by
  have:=am7 (a:=a) (ps:=ps) (wa:=wa) hm h (i:=0) hR.n1;rw[VY]at this;exact this.qD.qD
 have BY:=G4.place 0;have hb:=(agH (m:=m) (i:=0) (v:=m.n) hR.n1).bot;rw[VY]at hb;have h4:Ty (nT a ps m wa) (YU m) ((g3 m).mem ((((((g3 m).M.tick m.n).tick m.n).tick m.n).tick m.n).put ((Rg.mk 9 m.lg).place 0) 0)):=h3.put (M:=((((g3 m).M.tick m.n).tick m.n).tick m.n).tick m.n) ⟨rfl,rfl,bh⟩ BY (by show(0:Int)≤0∧(0:Int)<1;decide)
 exact h4.put (M:=(((((g3 m).M.tick m.n).tick m.n).tick m.n).tick m.n).put ((Rg.mk 9 m.lg).place 0) 0|>.tick m.n) ⟨rfl,rfl,by simp[Gl.mem]⟩ hb.qD.qD (by show xb 1;exact⟨gD,gD⟩)
theorem aeN:(HJ m).length=m.n:=by unfold HJ Jk;simp
theorem ai8{i:Nat}{W:Wk}(h:(HJ m)[i]?=some W):i<m.n∧W=Z1 i (tR m i):=by
 have hl:=(kO.1 h).1;rw[aeN]at hl;refine⟨hl,?_⟩;unfold HJ Jk at h;rw[pB,List.getElem?_range hl]at h;simpa using h.symm
theorem am8{i:Nat}(h:i<m.n):(dqN m).getD i 0=tR m i:=by
 unfold dqN HJ Jk;simp[nr,h,Z1]
theorem aA6(hm:m.OK)(h:m.total≤m.cells)(hz:m.cells≤65536)(CW:wa.length=m.n)(hA:qc P):IV (nT a ps m wa) P (dqN m) (YU m) (Oz m) (HJ m):=by
 refine⟨aAZ hm CW,hm.log,hA,aA5 hm h hz CW,by rw[aeN];exact CW,rfl,λv hv=> ?_,λi W hi=> ?_,λi j Wi Wj x hi hj hx=> ?_,λx hx hk=> ?_⟩
 ·have hv:v<m.n:=by have hv:v<wa.length:=hv;rw[CW]at hv;exact hv
  rw[am8 hv];exact(agH hv).qD.qD
 ·obtain⟨hl,rfl⟩:=ai8 hi;refine⟨rfl,by show i<wa.length;rw[CW];exact hl,by rw[am8 hl];rfl,trivial,?_,λx hx=>(by cases hx),λ_=>(show([]:List Nat)=[]from rfl),λ_=>⟨λ_=>⟨rfl,rfl⟩,λq=>(by cases q),λq=>(by rcases q with q|q<;>cases q)⟩,λx hx=>(by cases hx),List.nodup_nil⟩
  show((0:Nat):Int)≤m.deep;have:=hm.deep;omega
 ·obtain⟨hl,rfl⟩:=ai8 hi;cases hx
 ·have hx:x<1:=hx;have hx:x=0:=ah;subst hx;exact⟨FI.root hA,rfl,rfl,rfl,rfl,rfl⟩
end
end Go.Proofs.YthidhjhkmjjckaaGreatDoor
namespace Go.Proofs.YthidhjhkmjjckaaGreatDoor
open Go Go.Ev Go.Proofs
open Ko (oE CK)
def Ei(G:Gl)(Ws:List Wk):Bool:=Ws.all (λW:Wk=>W.stack.isEmpty)&&decide (2≤G.K 0)
section
variable {w0 w:World} {L R:List HP} {l:Lc} {P:List ea} {bx:List Int} {ro:List Ro} {aa:List Nat} {G:Gl} {Ws:List Wk} {n:Int} {os:List (Nat×Wk)} {f:HP→List HP}
theorem axW{n gj:Nat}{Wj:Wk}{c:Sl→Prop}(h:St w0 w L)[a:At L (lP (qt l aa)) os f](hn:os[n]?=some (gj,Wj))(hc:∀s:Sl,s.n=Wj.stack.length→c s):cE w (aX ⟨gj,0,none⟩ 5) c:=by
 obtain⟨R,ho,_⟩:=a.out;obtain⟨q,hq,h2⟩:=ace (Iz (ho h) hn);have hl:=uN (s:=q.ss) (vs:=q.rV.reverse) h2;have:=hq.rV.len;refine aS (g:=gj) h2 (p:=q.ss.a) (m:=q.ss.n) (k:=q.ss.c) vw ?_;exact hc _ (by simp at hl;show q.ss.n=_;omega)
theorem axX{x a:Nat}{t:Tk}{c:Array Value→Prop}(h:St w0 w L)[a1:At L (L6 aa) G.ts f](ha:aa[x]?=some a)(ht:G.ts[x]?=some t)(hc:c #[.int .i64 t.jt]):bG 1 w (aX ⟨a,0,none⟩ 3) c:=by
 obtain⟨R,ho,_⟩:=a1.out;obtain⟨so,sc,h2⟩:=sI (ho h) ha ht;refine bA (g:=a) h2 vw ?_;exact hc
theorem ai9{k:Bool→aq}(hI:IV l P bx ro G Ws)(h:Ap w0 w l aa G Ws R)(hk:∀w',Ap w0 w' l aa G Ws R→k (Ei G Ws) w'):cf (some ⟨l.gs,0,none⟩) w k:=by
 have hlc:=hI.lc;have hwn:=hI.wn;have aGd:=hlc.w16;obtain⟨sp,st,sw,h⟩:=AA h;have hn5:=uN (s:=sw) (vs:=l.wa.map pt) h;rw[List.length_map]at hn5;have hla:=NW (h.front 9 rfl);unfold cf tK;refine bp rfl ?_;with_reducible repeat' (first|refine an ?_|refine mJ h ?_|fail)
 refine bU (λ_ w=>Ws.all (λW:Wk=>W.stack.isEmpty)=true∧St w0 w (SL l aa G (lP (qt l aa) (l.wa.zip Ws)::R) sp st sw)) (λJ hJ=> ?_) ?_
 ·refine Qn (G:=Nat) (λj i w=>i=(j:Int)∧j≤Ws.length∧(Ws.take j).all (λW:Wk=>W.stack.isEmpty)=true∧St w0 w (SL l aa G (lP (qt l aa) (l.wa.zip Ws)::R) sp st sw)) (λj=>Ws.length - j) (g:=0) ⟨rfl,ah,rfl,h⟩ ?_;clear h;rintro j i w ⟨hi,hj,ha,h⟩ C hC;subst hi;by_cases hlt:j<Ws.length;rotate_left
  ·have e:j=Ws.length:=ah;subst e;rw[List.take_length]at ha;exact bp (by simp;omega) (hJ _ _ ⟨ha,h⟩)
  refine bH (by simp;omega) ?_
  obtain⟨gw,hgw⟩:∃g,l.wa[j]?=some g:=⟨_,kq ah⟩;have hW:Ws[j]?=some (Ws[j]'hlt):=kq hlt;refine vP (s:=sw) (vs:=l.wa.map pt) h ah (x:=some ⟨gw,0,none⟩) (by rw[kY,pB,hgw];rfl) ?_
  with_reducible repeat' (first|refine an ?_|fail)
  refine axW (l:=l) (aa:=aa) (os:=l.wa.zip Ws) (n:=j) (gj:=gw) (Wj:=Ws[j]'hlt) h (by rw[List.getElem?_zip_eq_some];exact⟨hgw,hW⟩) λs hs=> ?_
  have hne:(decide (((s.n:Nat):Int)>0))= !(Ws[j]'hlt).stack.isEmpty:=by
   rw[hs];cases (Ws[j]'hlt).stack<;>simp
  rw[hne];cases he:(Ws[j]'hlt).stack.isEmpty with
  |false=>
   refine bH rfl ?_;have hq:Ei G Ws=false:=by
    unfold Ei;have:Ws.all (λW:Wk=>W.stack.isEmpty)=false:=by
     rw[List.all_eq_false];exact⟨_,List.getElem_mem hlt,by rw[he];simp⟩
    rw[this];rfl
   rw[hq]at hk;exact hk _ (vn h)
  |true=>
   refine bp rfl ?_;refine hC (j+1) _ _ ⟨by rw[lO ⟨ah,ah⟩];rfl,ah,?_,h⟩ ah
   rw[List.take_add_one,hW,List.all_append,ha];show(true&&((Ws[j]'hlt).stack.isEmpty&&true))=true;rw[he];rfl
 clear h;rintro _ w ⟨ha,h⟩;have hx:0<G.ts.length:=hI.ty.t1;obtain⟨a,haa⟩:=YD (aa:=aa) hla (G.Ao hx);with_reducible repeat' (first|refine an ?_|refine aK h λw h=> ?_|refine mJ h ?_|fail)
 refine vP (s:=st) (vs:=aa.map pt) h ah (x:=some ⟨a,0,none⟩) (by show(aa.map pt)[0]?=_;rw[pB,haa];rfl) ?_
 with_reducible repeat' (first|refine an ?_|fail)
 refine axX (G:=G) (x:=0) (a:=a) h haa (G.Ao hx) ?_;with_reducible repeat' (first|refine an ?_|refine dL h ?_|fail)
 have hT:=hI.ty.pR hx;have hl:=hI.ty.len;refine ahJ (M:=G.M) h hI.ty.ok (by have:=hT.k.given hl;simpa using this) (hT.v.given hl) (hT.w.given hl) λw h=> ?_
 have e:Ei G Ws=decide (G.M.get ((G.tk 0).jt+0)≥2):=by
  unfold Ei;rw[ha,Int.add_zero];rfl
 rw[e]at hk;exact hk _ (vn h)
theorem am9{k:Int→aq}(h:Ap w0 w l aa G Ws R)(hk:∀w',Ap w0 w' l aa G Ws R→k G.err w'):cK (some ⟨l.gs,0,none⟩) w k:=by
 obtain⟨sp,st,sw,h⟩:=AA h;unfold cK;refine bp rfl ?_;with_reducible repeat' (first|refine an ?_|refine dX h ?_|fail)
 exact hk _ (vn h)
end
theorem als{e:List Value}(he:0<e.length):∀n:Nat,madeCells e.toArray (n*e.length)=(dM n e).flatten.toArray:=by
 intro n;apply Array.ext
 ·simp[madeCells]
 ·intro j h1 h2;have hj:j % e.length<e.length:=Nat.mod_lt _ he;have key:∀(n j:Nat),j<n*e.length→(dM n e).flatten[j]?=e[j % e.length]?:=by
   intro n;induction n with
   |zero=>intro j hj;omega
   |succ n ih=>
    intro j hj;rw[List.replicate_succ,List.flatten_cons];by_cases hlt:j<e.length
    ·rw[sY hlt,Nat.mod_eq_of_lt hlt]
    ·rw[uK ah,ih (j - e.length) (by rw[Nat.succ_mul]at hj;omega)]
     congr 1;exact(Nat.mod_eq_sub_mod ah).symm
  have hlen:j<n*e.length:=by simpa[madeCells]using h1
  have:=key n j hlen;rw[kq hj,kq (by simpa using h2)]at this
  have:=Option.some.inj this;simp[madeCells,hj,this]
section
variable {w0 w:World} {L R:List HP} {l:Lc} {P:List ea} {bx:List Int} {ro:List Ro} {aa:List Nat} {G:Gl} {Ws:List Wk} {n:Int} {os:List (Nat×Wk)} {f:HP→List HP} {sp st sw:Sl} {o:List (Int×Int)}
theorem axY{P:Program}{t:TypeId}{b sz:Nat}{z:Value}{e:List Value}{n:Nat}{kl kc:IntKind}{c:Sl→aq}(h:St w0 w L)(ht:GI P t sz b z)(hz:z.cells=e.toArray)(hsz:0<sz)(he:e.length=sz)(hv:∀v∈e,v.oneCell'=true)
  (hbytes:b*n≤281474976710656) (h63:n≤9223372036854775807)
  (hc:∀s w',St w0 w' (rws sz s (dM n e)::L)→s.n=n→c s w'):AH P t (.int kl (n:Int)) (.int kc (n:Int)) w c:=by
 obtain⟨e',i,hte,hi,hs,hby,ZF⟩:=ht.out;have hb':(i.bytes:Int)*(n:Int)≤281474976710656:=by
  have h:((b*n:Nat):Int)≤281474976710656:=ah;rw[Int.natCast_mul]at h;rwa[hby]
 have hr:=Go.run_make (P:=P) w t e' i z hte hi ZF kl kc n n ah (Int.le_refl _) hb' ah;unfold AH;rw[hr,hs,hz,kY];show c ⟨some ⟨w.heap.size,0,none⟩,n,n⟩ _;refine hc _ _ (St.pur (λx hx=>by rw[(List.mem_replicate.1 hx).2];exact he) (h.new (E4 w _) (F':=λk=>k=w.heap.size) ⟨λk=>by simp[Sl.ax,eq_comm],pY.new (n:=n) ?_ (by simp[he]) h63 λx hx=> ?_⟩ λk hk=>by rw[hk];exact iN _)) rfl
 ·rw[←als ah,he];exact pA.new w _ e'
 ·obtain⟨y,hy,hx⟩:=List.mem_flatten.1 hx;rw[(List.mem_replicate.1 hy).2]at hx;exact hv x hx
def agJ:Nat→List (Int×Int)→List Int→List Int
 |_,[],a=>a
 |j,p::o,a=>agJ (j+1) o (a.set p.1.toNat (j:Int))
def lM(G:Gl)(o:List (Int×Int)):List Int:=agJ 0 o (dM G.ts.length 0)
theorem axZ{k:Sl→aq}(h:St w0 w (SL l aa G R sp st sw))(ho:YT G o)(hn:G.ts.length≤100000)(hk:∀s w',St w0 w' (bQ 1 s (ints (lM G o))::SL l aa G R sp st sw)→(lM G o).length=G.ts.length→k s w'):cH (some ⟨l.gs,0,none⟩) w k:=by
 unfold cH Bl;have hla:=NW (h.front 9 rfl);have hst:=uN (s:=st) (vs:=aa.map pt) h;rw[List.length_map,hla]at hst;with_reducible repeat' (first|refine an ?_|refine mJ h ?_|fail)
 refine As (n:=st.n) (z:= .int .i64 0) (b:=8) h ⟨bf,bf⟩ rfl ah ah λs3 w h h3=> ?_;with_reducible repeat' (first|refine an ?_|refine dL h ?_|fail)
 have e0:dM st.n (Value.int .i64 0)=ints (dM G.ts.length 0):=by simp[ints,hst]
 rw[e0]at h;refine ahL (T:=G.T) h ho.kids ho.len ho.dfs λs5 w h=> ?_;have h5n:=uN (s:=s5) (vs:=ints (o.map λp:Int×Int=>p.1)) h;simp only[ints,List.length_map]at h5n;have hol:=ho.len;refine Qn (G:=Nat×List Int) (λq i w=>i=((q.1:Nat):Int)∧q.1≤o.length∧q.2.length=G.ts.length∧agJ q.1 (o.drop q.1) q.2=lM G o∧St w0 w (bQ 1 s5 (ints (o.map λp:Int×Int=>p.1))::bQ 1 s3 (ints q.2)::SL l aa G R sp st sw)) (λq=>o.length - q.1) (g:=(0,dM G.ts.length 0)) ⟨rfl,ah,bh,rfl,h⟩ ?_;clear h;rintro⟨j,a⟩ i w ⟨hi,hj,hal,CU,h⟩ C hC;dsimp only at hi hj hal CU h;subst hi;by_cases hlt:j<o.length
 ·refine bH (by simp;omega) ?_
  have vq:=ho.ids _ (List.getElem_mem hlt);rw[List.drop_eq_getElem_cons hlt]at CU;generalize hp:o[j]'hlt=p at vq CU;have hpj:o[j]?=some p:=by rw[kq hlt,hp]
  refine vI (s:=s5) (vs:=ints (o.map λp:Int×Int=>p.1)) h ah (x:=p.1) (by simp[ints,hpj]) ?_
  refine zf (s:=s3) (xs:=a) h vq.1 (by rw[hal];omega) λw h=> ?_
  refine hC (j+1,a.set p.1.toNat (j:Int)) _ _ ⟨?_,by dsimp only;omega,by simp[hal],CU,h⟩ (by dsimp only;omega)
  rw[lO ⟨ah,ah⟩];rfl
 ·refine bp (by simp;omega) ?_
  have e:j=o.length:=ah;subst e;rw[List.drop_length]at CU;have CU:a=lM G o:=CU;subst CU;exact hk _ _ h.drop hal
end
def Ej(p:Int)(k f kd v st:Int)(c:ByteArray):List Value:=[.int .i64 p,.int .i64 k,.int .i64 f,.int .i64 kd,.int .i64 v,.int .i64 st,.string c]
def rowAt(G:Gl)(r:List Int)(p:Int×Int):List Value:=
 let t:=G.tk p.1.toNat
 Ej (if 0≤p.2 then r.getD p.2.toNat 0 else -1) (G.P.getD t.lN.toNat (0,0,0,false)).2.1 (t.f.getD 0 0) (G.K p.1.toNat) (if G.K p.1.toNat<2 then 0 else G.V p.1.toNat) (t.f.getD 18 0) t.gC
def Je(G:Gl)(r:List Int)(T:List (List Value)):List (Int×Int)→List (List Value)
 |[]=>T
 |p::o=>Je G r (T.set (r.getD p.1.toNat 0).toNat (rowAt G r p)) o
def agK(G:Gl)(o:List (Int×Int)):List (List Value):=Je G (lM G o) (dM G.ts.length (Ej 0 0 0 0 0 0 (ByteArray.mk #[]))) o
theorem aDH:GI Tryz.prog 35 7 64 (.agg #[.int .i64 0,.int .i64 0,.int .i64 0,.int .i64 0,.int .i64 0,.int .i64 0,.string (ByteArray.mk #[])]):=⟨bf,bf⟩
theorem acM(G:Gl)(r:List Int):∀(a b:List (Int×Int)) (T:List (List Value)),Je G r T (a++b)=Je G r (Je G r T a) b
 |[],b,T=>rfl
 |p::a,b,T=>acM G r a b _
theorem acN(G:Gl)(r:List Int):∀(a:List (Int×Int)) (T:List (List Value)),(Je G r T a).length=T.length
 |[],T=>rfl
 |p::a,T=>by rw[Je,acN G r a];simp
section
variable {w0 w:World} {L R:List HP} {l:Lc} {P:List ea} {bx:List Int} {ro:List Ro} {aa:List Nat} {G:Gl} {Ws:List Wk} {n:Int} {os:List (Nat×Wk)} {f:HP→List HP} {sp st sw:Sl} {o:List (Int×Int)}
abbrev TbP(l:Lc)(aa:List Nat)(G:Gl)(sp st sw:Sl)(g1 g7 g13:Nat)(s5 s11:Sl)(r:List Int)(T:List (List Value)):List HP:=
 [ax g1 [pt l.gs],ax g13 [.slice s11.a s11.n s11.c],rws 7 s11 T,ax g7 [.slice s5.a s5.n s5.c],bQ 1 s5 (ints r),ax l.gs (l.cs sp st sw G.steps G.err),bN l.gm G.M,scp l.gc G.C,rws 4 sp (G.P.map uy),bQ 1 st (aa.map pt),bQ 1 sw (l.wa.map pt),oE l.gt G.time,KS l.gd G.D,L6 aa G.ts]
theorem auO{g o j:Nat}{v:Value}{w':World}{c:Prop}(h:w.cell? ⟨g,o+j,none⟩=some v)(h':w'.cell? ⟨g,o+j,none⟩=some v)(hc:c):ai 1 (aX ⟨g,o,none⟩ j) w w' c:=by rw[c8];exact aa8 h h' hc
abbrev TbB(l:Lc)(aa:List Nat)(G:Gl)(sp st sw:Sl)(g1 g7 g13:Nat)(s5 s11:Sl)(r:List Int)(T:List (List Value))(a x:Nat)(so sc:Sl)(Rr:List HP):List HP:=
 ax a ((G.tk x).cells so sc)::rws 2 so ((G.tk x).cI.map Az)::bQ 1 sc (ints (G.tk x).scopes)::lP ZZ ((aa.zip G.ts).eraseIdx x)::ax g1 [pt l.gs]::ax g13 [.slice s11.a s11.n s11.c]::rws 7 s11 T::ax g7 [.slice s5.a s5.n s5.c]::bQ 1 s5 (ints r)::ax l.gs (l.cs sp st sw G.steps G.err)::bN l.gm G.M::scp l.gc G.C::rws 4 sp (G.P.map uy)::bQ 1 st (aa.map pt)::bQ 1 sw (l.wa.map pt)::oE l.gt G.time::KS l.gd G.D::Rr
theorem auP{k:Sl→aq}(hI:IV l P bx ro G Ws)(ho:YT G o)(hp:∀p∈o,p.2<G.ts.length)(hr:∀x∈lM G o,0≤x∧x<G.ts.length)(h:Ap w0 w l aa G Ws R)
  (hk:∀s w',Ap w0 w' l aa G Ws (rws 7 s (agK G o)::R)→k s w'):cV (some ⟨l.gs,0,none⟩) w k:=by
 have hcap:=hI.ty.cap;obtain⟨sp,st,sw,h⟩:=AA h;have hla:=NW (h.front 9 rfl);unfold cV tN;refine av h λg1 w h=> ?_;with_reducible repeat' (first|refine oI h ?_|refine ij ?_|fail)
 have h:=h.bk 10;refine axZ h ho ah λs5 w h hlen=> ?_;have h5n:=uN (s:=s5) (vs:=ints (lM G o)) h;simp only[ints,List.length_map,hlen]at h5n;with_reducible repeat' (first|refine B3 h ?_|refine xB h λw h=> ?_|refine av h λgx w h=> ?_|fail)
 obtain⟨g7,lI⟩:∃n,n=gx:=⟨_,rfl⟩;subst lI;refine axY (n:=s5.n) (e:=Ej 0 0 0 0 0 0 (ByteArray.mk #[])) h aDH bf ah rfl (by intro v hv;simp[Ej]at hv;rcases hv with rfl|rfl<;>rfl) ah ah λs11 w h h11=> ?_
 with_reducible repeat' (first|refine an ?_|refine dL h ?_|refine oI h ?_|refine xB h λw h=> ?_|refine av h λgx w h=> ?_|fail)
 obtain⟨g13,lI⟩:∃n,n=gx:=⟨_,rfl⟩;subst lI;rw[show dM s5.n (Ej 0 0 0 0 0 0 (ByteArray.mk #[]))=dM G.ts.length (Ej 0 0 0 0 0 0 (ByteArray.mk #[])) by rw[h5n]]at h
 have h:=h.fr 14;have h:=h.fr 7;have h:=h.bk 14;have h:St w0 w (mr (TbP l aa G sp st sw g1 g7 g13 s5 s11 (lM G o) (Je G (lM G o) (dM G.ts.length (Ej 0 0 0 0 0 0 (ByteArray.mk #[]))) []))::Cr l.gk G.T::lP (qt l aa) (l.wa.zip Ws)::R):=St.shut (A:=TbP l aa G sp st sw g1 g7 g13 s5 s11 (lM G o) _) h;refine arN (w0:=w0) (G:=λdone=>mr (TbP l aa G sp st sw g1 g7 g13 s5 s11 (lM G o) (Je G (lM G o) (dM G.ts.length (Ej 0 0 0 0 0 0 (ByteArray.mk #[]))) done))) (l:=o) h ho.kids ho.len ho.dfs (λdone rest p w Rr C hd h hc=> ?_) λD w h=> ?_
 ·have hmem:p∈o:=by rw[hd];simp
  have vq:=ho.ids p hmem;have hpp:=hp p hmem;have qI:p.1.toNat<G.ts.length:=ah;have h:=St.open h;simp only[List.cons_append,List.nil_append]at h;obtain⟨a,ha⟩:=YD (aa:=aa) hla (G.Ao qI);have hT:=hI.ty.pR qI;have hl:=hI.ty.len;have hin:=hT.Z3;have BY:=hI.ty.pl;with_reducible repeat' (first|refine an ?_|refine mJ h ?_|refine oI h ?_|fail)
  refine vP (s:=st) (vs:=aa.map pt) h vq.1 (x:=some ⟨a,0,none⟩) (by rw[pB,ha];rfl) ?_
  have h:=h.fr 13;obtain⟨so,sc,h⟩:=auI h ha qI;with_reducible repeat' (first|refine an ?_|refine aK h λw h=> ?_|refine dL h ?_|refine oI h ?_|refine pi h ?_|fail)
  refine ahJ (M:=G.M) h hI.ty.ok (by have:=hT.k.given hl;simpa using this) (hT.v.given hl) (hT.w.given hl) λw h=> ?_
  rw[Int.add_zero];have hP:G.P[(G.tk p.1.toNat).lN.toNat]?=some (G.P.getD (G.tk p.1.toNat).lN.toNat (0,0,0,false)):=by
   rw[nr,kq ah];rfl
  have hPc:(G.P.map uy)[(G.tk p.1.toNat).lN.toNat]?=some (uy (G.P.getD (G.tk p.1.toNat).lN.toNat (0,0,0,false))):=by rw[pB,hP];rfl
  generalize aDJ:G.P.getD (G.tk p.1.toNat).lN.toNat (0,0,0,false)=pl at hPc;clear hP;have hT2:(Je G (lM G o) (dM G.ts.length (Ej 0 0 0 0 0 0 (ByteArray.mk #[]))) done).length=G.ts.length:=by rw[acN,List.length_replicate]
  generalize hTT:Je G (lM G o) (dM G.ts.length (Ej 0 0 0 0 0 0 (ByteArray.mk #[]))) done=TT at h hT2;refine bU (fun(ad:Addr) w=> ∃g,ad=⟨g,0,none⟩∧St w0 w (ax g (Ej (-1) pl.2.1 ((G.tk p.1.toNat).f.getD 0 0) (G.K p.1.toNat) (if G.K p.1.toNat<2 then 0 else G.V p.1.toNat) ((G.tk p.1.toNat).f.getD 18 0) (G.tk p.1.toNat).gC)::TbB l aa G sp st sw g1 g7 g13 s5 s11 (lM G o) TT a p.1.toNat so sc Rr)) (λJ hJ=> ?_) ?_
  ·with_reducible repeat' (first|refine an ?_|refine aK h λw h=> ?_|refine dX h ?_|refine mJ h ?_|refine oI h ?_|fail)
   refine rix (sz:=4) (s:=sp) (es:=G.P.map uy) h hin.1 hPc ah λgq oq hr _=> ?_;refine uJ (by rw[c8];exact hr h hPc 1 _ rfl) ?_
   have hold:=h;with_reducible repeat' (first|refine an ?_|refine La h ?_|refine yU h ?_|refine qX h λw h=> ?_|refine av h λgx w h=> ?_|refine kr h ?_|refine po h ?_|refine lu ?_ ?_|refine amY hold h vw ?_|refine auO (hr hold hPc 1 _ rfl) (hr h hPc 1 _ rfl) ?_|fail)
   all_goals exact hJ _ _ ⟨_,rfl,h⟩
  clear h;rintro _ w ⟨g,rfl,h⟩;have hr1:(lM G o)[p.1.toNat]?=some ((lM G o).getD p.1.toNat 0):=by rw[nr,kq ah];rfl
  have hri:=hr _ (r0 hr1);have ayN:(ints (lM G o))[p.1.toNat]?=some (.int .i64 ((lM G o).getD p.1.toNat 0)):=by unfold ints;rw[pB,hr1];rfl
  have abd:∀(w:World) (q:Int),q=(if 0≤p.2 then(lM G o).getD p.2.toNat 0 else -1)→St w0 w (TbB l aa G sp st sw g1 g7 g13 s5 s11 (lM G o) (TT.set ((lM G o).getD p.1.toNat 0).toNat (Ej q pl.2.1 ((G.tk p.1.toNat).f.getD 0 0) (G.K p.1.toNat) (if G.K p.1.toNat<2 then 0 else G.V p.1.toNat) ((G.tk p.1.toNat).f.getD 18 0) (G.tk p.1.toNat).gC)) a p.1.toNat so sc Rr)→C w:=by
   intro w q hq h;have h:=pQ hla ha (G.Ao qI) h;have h:=h.bk 13;refine hc w (St.shut (A:=TbP l aa G sp st sw g1 g7 g13 s5 s11 (lM G o) _) ?_);rw[acM,hTT];have e:rowAt G (lM G o) p=Ej q pl.2.1 ((G.tk p.1.toNat).f.getD 0 0) (G.K p.1.toNat) (if G.K p.1.toNat<2 then 0 else G.V p.1.toNat) ((G.tk p.1.toNat).f.getD 18 0) (G.tk p.1.toNat).gC:=by
    unfold rowAt;rw[hq,←aDJ]
   show St w0 w (TbP l aa G sp st sw g1 g7 g13 s5 s11 (lM G o) (TT.set ((lM G o).getD p.1.toNat 0).toNat (rowAt G (lM G o) p))++Rr);rw[e];exact h
  refine aF (λhb=> ?_) λhb=> ?_
  ·have hb:0≤p.2:=by simpa using hb
   have hr2:(lM G o)[p.2.toNat]?=some ((lM G o).getD p.2.toNat 0):=by rw[nr,kq ah];rfl
   with_reducible repeat' (first|refine B3 h ?_|fail)
   refine vI (s:=s5) (vs:=ints (lM G o)) h hb (x:=(lM G o).getD p.2.toNat 0) (by unfold ints;rw[pB,hr2];rfl) ?_
   with_reducible repeat' (first|refine aK h λw h=> ?_|refine B3 h ?_|refine eL h λw h=> ?_|fail)
   refine vI (s:=s5) (vs:=ints (lM G o)) h vq.1 (x:=(lM G o).getD p.1.toNat 0) ayN ?_;with_reducible repeat' (first|refine pn h ?_|fail)
   refine rW (s:=s11) (es:=TT) (e:=TT[((lM G o).getD p.1.toNat 0).toNat]' ah) h hri.1 (kq _) ah rfl ?_ λw h=> ?_
   ·intro v hv;simp[Ej]at hv;rcases hv with rfl|rfl|rfl|rfl|rfl|rfl|rfl<;>rfl
   have h:=h.drop;refine abd w _ (if_pos hb).symm ?_;exact h
  ·have hb:¬0≤p.2:=by simpa using hb
   with_reducible repeat' (first|refine aK h λw h=> ?_|refine B3 h ?_|fail)
   refine vI (s:=s5) (vs:=ints (lM G o)) h vq.1 (x:=(lM G o).getD p.1.toNat 0) ayN ?_;with_reducible repeat' (first|refine pn h ?_|fail)
   refine rW (s:=s11) (es:=TT) (e:=TT[((lM G o).getD p.1.toNat 0).toNat]' ah) h hri.1 (kq _) ah rfl ?_ λw h=> ?_
   ·intro v hv;simp[Ej]at hv;rcases hv with rfl|rfl|rfl|rfl|rfl|rfl|rfl<;>rfl
   have h:=h.drop;refine abd w _ (if_neg hb).symm ?_;exact h
 ·have h:=h.front 1 rfl;simp only[Iy]at h;have h:=St.open h;simp only[List.cons_append,List.nil_append]at h;with_reducible repeat' (first|refine B3 h ?_|fail)
  have h:=Ql h;have h:=h.fr 15;have h:=K8 h;refine K9 h λw h=>hk s11 w ?_;have h:=h.El 0;have h:=h.El 0;have h:=h.El 1;have h:=h.El 1;have h:=h.fr 10;have h:=h.fr 3;have h:=h.fr 3;have h:=h.fr 3;have h:=h.bk 11;exact vn h
end
def Pw(s:Sl):List ea:=[⟨0,s,[[16,0,0,0,0]]⟩]
def mw:Lm:=⟨1,0,65536,1048576,1000,3⟩
def aja(G:Gl):Bool:=(match G.T with|[t]=>decide (t.parent= -1)&&t.kids.isEmpty|_=>false)&&decide (G.ts.length=1)&&(decide ((G.tk 0).scopes.length≤1)&&(G.tk 0).scopes.all λx:Int=>decide (0≤x∧x<(G.C.length:Nat)))
def oR:List (Int×Int):=[(0, -1)]
def runN(l:Lc)(P:List ea):Nat→Gl→List Wk→Option (Gl×List Wk)
 |0,_,_=>none
 |n+1,G,Ws=>bif aja G then(bif Ei G Ws then some (G,Ws)else bif decide (G.err=0)then runN l P n (RV l P G Ws oR 0 0).1.1 (RV l P G Ws oR 0 0).1.2 else none)else none
theorem ajb{G:Gl}{l:Lc}{ro:List Ro}(hT:Ty l ro G)(h:aja G=true):YT G oR∧∀x∈iH G oR,0≤x∧x<G.C.length:=by
 unfold aja at h;simp only[iW,decide_eq_true_eq,xz]at h;obtain⟨⟨h1,h2⟩,h3,h4⟩:=h;have hl:iH G oR=0::(G.tk 0).scopes:=by
  unfold iH oR;simp
 have hT1:∃t,G.T=[t]∧t.parent= -1∧t.kids=[]:=by
  split at h1
  ·rename_i t e;simp at h1;exact⟨t,e,h1.1,by simpa using h1.2⟩
  ·cases h1
 obtain⟨t,e,hp,hk⟩:=hT1;refine⟨⟨λi x hx=> ?_,gD,?_,λp hp=> ?_,by rw[hl];simp;omega⟩,λx hx=> ?_⟩
 ·rw[e]at hx;match i,hx with
  |0,hx=>cases hx;rw[hk];simp
  |i+1,hx=>simp at hx
 ·rw[e];rw[if_neg bh];unfold oR;rw[←hp];refine Dfs.cons (t:=t) rfl ?_;rw[hk];exact .nil
 ·simp[oR]at hp;subst hp;exact⟨gD,by show(0:Int)< _;omega⟩
 ·rw[hl]at hx;have:=hT.c1;rcases List.mem_cons.1 hx with rfl|hx
  ·omega
  ·exact h4 x hx
section
variable {w0 w:World} {L R:List HP} {l:Lc} {P:List ea} {bx:List Int} {ro:List Ro} {aa:List Nat} {G:Gl} {Ws:List Wk} {n:Nat}
theorem apn{k:Int→aq}{times:Int}{r:Gl×List Wk}(hF:j2 w0 l.ps P)(hT:TZ w0)(ht:(n:Int)≤times)(ht2:times≤1000000)(hI:IV l P bx ro G Ws)(hr:runN l P n G Ws=some r)(h:Ap w0 w l aa G Ws R)
  (hk:∀z I8 iI w',IV l P bx iI r.1 r.2→aja r.1=true→Ap w0 w' l I8 r.1 r.2 R→k z w'):iu (some ⟨l.gs,0,none⟩) 1 times w k:=by
 unfold iu wQ;refine Qn (G:=Nat×Gl×List Wk×List Nat×List Ro) (λq x w=>(0≤x.2∧x.2+q.1≤times)∧IV l P bx q.2.2.2.2 q.2.1 q.2.2.1∧runN l P q.1 q.2.1 q.2.2.1=some r∧Ap w0 w l q.2.2.2.1 q.2.1 q.2.2.1 R) (λq=>q.1) (g:=(n,G,Ws,aa,ro)) ⟨⟨by show(0:Int)≤0;decide,by show(0:Int)+n≤_;omega⟩,hI,hr,h⟩ ?_
 clear h hr hI;rintro⟨n,G,Ws,aa,ro⟩ ⟨x1,x2⟩ w ⟨hx,hI,hr,h⟩ C hC;dsimp only at hx hI hr h ⊢;cases n with
 |zero=>cases hr
 |succ n=>
  unfold runN at hr;cases h1:aja G with
  |false=>rw[h1]at hr;cases hr
  |true=>
   rw[h1]at hr;obtain⟨ho,hs⟩:=ajb hI.ty h1;refine bU (fun(b:Bool) w=>b=(!Ei G Ws&&decide (G.err=0))∧Ap w0 w l aa G Ws R) (λJ hJ=> ?_) ?_
   ·refine bH (by simp;omega) ?_
    refine ai9 hI h λw h=> ?_;cases hq:Ei G Ws with
    |true=>exact bp rfl (hJ _ _ ⟨by rw[hq];rfl,h⟩)
    |false=>
     refine bH rfl ?_;refine am9 h λw h=> ?_;exact hJ _ _ ⟨by rw[hq];rfl,h⟩
   clear h;rintro _ w ⟨rfl,h⟩;cases hq:Ei G Ws with
   |true=>
    rw[hq]at hr;cases hr
    exact bp rfl (hk _ aa ro w hI h1 h)
   |false=>
    rw[hq]at hr;by_cases he:G.err=0;rotate_left
    ·have hf:decide (G.err=0)=false:=by simp[he]
     rw[hf]at hr;cases hr
    have hf:decide (G.err=0)=true:=by simp[he]
    rw[hf]at hr ⊢;have hr:runN l P n (RV l P G Ws oR 0 0).1.1 (RV l P G Ws oR 0 0).1.2=some r:=hr;refine bH rfl ?_;refine⟨2,?_⟩;unfold jF;refine bH rfl ?_;refine aDE hI hF hT ho hs h λI8 w h=> ?_;unfold jF;refine bp rfl ?_;obtain⟨iI,hI'⟩:=auM (kind:=0) (n:=0) hI hs;refine hC (n,_,_,I8,iI) _ _ ⟨?_,hI',hr,h⟩ (by dsimp only;omega)
    dsimp only;rw[dQ ⟨ah,ah⟩];push_cast at hx;omega
end
theorem ran{a:Ad}{ps sc:Sl}{gw:Nat}:(runN (nT a ps mw [gw]) (Pw sc) 60 (Oz mw) (HJ mw)).map (λr:Gl×List Wk=>(r.1.err,r.1.ts.length,lM r.1 oR,agK r.1 oR,Ei r.1 r.2))=some (0,1,[0],[Ej (-1) 0 0 2 0 1 (ByteArray.mk #[])],true):=by kernel_rfl
open Ck (qc rX nS yM tri rZ pP)
def aW:List (List Int):=[[16,0,0,0,0]]
theorem ax0:rX aW 0=[0]:=(Ck.aim (l:=aW) (aY:=0) 1 gD gD bf).trans bf
theorem ana(s:Sl):yM (Pw s)=(0,0,0):=Ck.akF (s:=s) (l:=aW) (r:=none) ax0 bf bf
theorem ax1(s:Sl):qc (Pw s):=Ck.aoo.1 (by rw[ana])
theorem aA7(s:Sl):tri (yM (Pw s))=[0,0,0]:=by rw[ana];rfl
theorem auR:mw.OK:=⟨gD,gD,gD,gD,gD,gD⟩
theorem ajc:mw.total≤mw.cells∧mw.cells≤65536∧mw.n=1:=⟨of_decide_eq_true bf,of_decide_eq_true bf,bf⟩
theorem aDM{a:Ad}{ps sc:Sl}{gw:Nat}:∃r:Gl×List Wk,runN (nT a ps mw [gw]) (Pw sc) 60 (Oz mw) (HJ mw)=some r∧r.1.err=0∧r.1.ts.length=1∧lM r.1 oR=[0]∧agK r.1 oR=[Ej (-1) 0 0 2 0 1 (ByteArray.mk #[])]∧Ei r.1 r.2=true:=by
 have h:=ran (a:=a) (ps:=ps) (sc:=sc) (gw:=gw);generalize runN (nT a ps mw [gw]) (Pw sc) 60 (Oz mw) (HJ mw)=x at h ⊢;cases x with
 |none=>cases h
 |some r=>
  have h:=Option.some.inj h;simp only[Prod.mk.injEq]at h;exact⟨r,rfl,h⟩
theorem TZ.ext{w w':World}(h:TZ w)(he:Ext w w'):TZ w':=λi hi=>Ext.cell he (h i hi)
theorem apo{w:World}{g sz:Nat}{l:List Value}{n:Nat}(hb:pA w g l.toArray)(hn:l.length=n*sz)(c:Nat):GH sz w ⟨some ⟨g,0,none⟩,n,c⟩ l:=
 ⟨hn,λi v hv=>⟨_,rfl,by rw[c8,hb.cell];simpa using hv⟩⟩
theorem ax2{w:World}{ga gf c1 c3:Nat}(AP:pA w ga (eV aW.flatten))(hb:pA w gf #[.int .i64 0,.slice (some ⟨ga,0,none⟩) 1 c1]):j2 w ⟨some ⟨gf,0,none⟩,1,c3⟩ (Pw ⟨some ⟨ga,0,none⟩,1,c1⟩):=by
 have h5:∀x∈aW,x.length=5∧∀y∈x,xb y:=gD;refine⟨Ck.as3 (apo (n:=1) hb rfl _) gD (by intro e he;simp[ea.cells,Pw]at he;subst he;rfl),λx hx=> ?_,by simp[reachBytes,Pw]⟩
 simp[Pw]at hx;subst hx;refine⟨(by decide:xb 0),Ck.aon (l:=aW) AP h5 (λi hi j hj=> ?_) (by simp[reachBytes,aW])⟩
 rw[Nat.zero_add,Ck.SB (λe he=>(h5 e he).1) (e:=aW.getD i []) (by simp[hi]) hj]
theorem ax3(r:List Value)(p a b c d e:Int)(t:ByteArray){k:Bool→Prop}(hk:k true):ZC ([(0,0)] ++([(1,0)] ++([(2,0)] ++([(3,0)] ++([(4,0)] ++([(5,0)] ++([(6,2)] ++[]))))))) (Ej p a b c d e t).toArray (Ej p a b c d e t).toArray k:=by
 unfold ZC;have:pb (Ej p a b c d e t).toArray (Ej p a b c d e t).toArray ([(0,0)] ++([(1,0)] ++([(2,0)] ++([(3,0)] ++([(4,0)] ++([(5,0)] ++([(6,2)] ++[])))))))=some true:=by
  simp[pb,eqC,Ej]
 rw[this];exact hk
section
variable {w0 w:World} {L R:List HP}
theorem ajd{b s:Int}{k:Array Value→aq}(h:St w0 w L)(hk:∀w',St w0 w' L→k (lmA ⟨b,s,65536,1048576,1000,3⟩) w'):gV b s w k:=by
 unfold gV;refine av h λg w h=> ?_;with_reducible repeat' (first|refine pn h ?_|refine qX h λw h=> ?_|fail)
 exact hk _ h.drop
theorem ax4{ps sc:Sl}{k:Bool→aq}(hT:TZ w0)(hF:j2 w0 ps (Pw sc)){a:Ad}{wa aa:List Nat}(CW:wa.length=1)(h:Ap w0 w (nT a ps mw wa) aa (Oz mw) (HJ mw) [])
  (hk:∀w',Ext w0 w'→k true w'):iu (some ⟨a.gs,0,none⟩) 1 9000 w λi w33=>cf (some ⟨a.gs,0,none⟩) w33 λb34 w35=>ap b34 (cK (some ⟨a.gs,0,none⟩) w35 λi36 w37=>ap (i36==(0:Int)) (cV (some ⟨a.gs,0,none⟩) w37 λs38 w39=>
   kE #[(.int .i64 (0:Int)),(.int .i64 (0:Int)),(.int .i64 (0:Int)),(.int .i64 (0:Int)),(.int .i64 (0:Int)),(.int .i64 (0:Int)),(.string (ByteArray.mk #[]))] 0 7 #[(.int .i64 (-(1:Int))),(.int .i64 (0:Int)),(.int .i64 (0:Int)),(.int .i64 (2:Int)),(.int .i64 (0:Int)),(.int .i64 (1:Int)),(.string (ByteArray.mk #[]))] λcs40=>
    aH w39 cs40 49 λa41 w42=>kg s38 (Sl.mk (some a41) 1 1) w42 λb43 w44=>(k b43 w44)) ((k false w37))) ((k false w35)):=by
 obtain⟨gw,rfl⟩:∃gw,wa=[gw]:=by
  match wa,CW with
  |[gw],_=>exact⟨gw,rfl⟩
 have hI:=aA6 (a:=a) (ps:=ps) (wa:=[gw]) auR ajc.1 ajc.2.1 ajc.2.2.symm (ax1 sc);obtain⟨r,hr,e1,e2,e3,e4,e5⟩:=aDM (a:=a) (ps:=ps) (sc:=sc) (gw:=gw);generalize Oz mw=G0 at hI hr h;generalize HJ mw=W0 at hI hr h;refine apn (l:=nT a ps mw [gw]) (P:=Pw sc) (n:=60) hF hT (by show(60:Int)≤9000;decide) (by show(9000:Int)≤1000000;decide) hI hr h λz I8 iI w hI h1 h=> ?_
 obtain⟨ho,hs⟩:=ajb hI.ty h1;refine ai9 (l:=nT a ps mw [gw]) hI h λw h=> ?_;rw[e5];refine bH rfl ?_;refine am9 (l:=nT a ps mw [gw]) h λw h=> ?_;rw[e1];refine bH rfl ?_;refine auP (l:=nT a ps mw [gw]) hI ho (λp hp=>by simp[oR]at hp;subst hp;show(-1:Int)< _;omega) (λx hx=>by rw[e3]at hx;simp at hx;subst hx;omega) h λs w h=> ?_
 rw[e4]at h;refine qH (Ej (-1) 0 0 2 0 1 (ByteArray.mk #[])).toArray rfl bf ?_;refine av h λg w h=> ?_;have h:=acv (sz:=7) h rfl (by intro v hv;simp[Ej]at hv;rcases hv with rfl|rfl|rfl|rfl|rfl|rfl<;>rfl)
 have hn:=(tC (sz:=7) (s:=s) (es:=[Ej (-1) 0 0 2 0 1 (ByteArray.mk #[])]) h).2 gD;have hn:s.n=1:=hn.symm;unfold kg;rw[hn];refine bp rfl ?_;refine⟨2,?_⟩;unfold jF;refine bH rfl ?_;with_reducible repeat' (first|refine aK h λw h=> ?_|fail)
 refine rA (sz:=7) (s:=s) (es:=[Ej (-1) 0 0 2 0 1 (ByteArray.mk #[])]) (e:=Ej (-1) 0 0 2 0 1 (ByteArray.mk #[])) h gD rfl gD ?_;refine rA (sz:=7) (s:=⟨some ⟨g,0,none⟩,1,1⟩) (es:=[Ej (-1) 0 0 2 0 1 (ByteArray.mk #[])]) (e:=Ej (-1) 0 0 2 0 1 (ByteArray.mk #[])) h gD rfl gD ?_;refine ax3 [] _ _ _ _ _ _ _ (bp rfl ?_);unfold jF;refine bp rfl ?_;exact hk _ h.ext
theorem aA8{w1:World}{ps sc:Sl}{k:Option Addr×Int→aq}(hF:j2 w1 ps (Pw sc))(hk:∀(a:Ad) (wa aa:List Nat) w',wa.length=1→Ap w1 w' (nT a ps mw wa) aa (Oz mw) (HJ mw) []→k (some ⟨a.gs,0,none⟩,0) w'):pG #[.slice ps.a ps.n ps.c] (lmA mw) w1 k:=
 akt (m:=mw) hF (.nil w1) (λ_ _ _ a wa aa w' CW h=>hk a wa aa w' (CW.trans ajc.2.2) h) (λq=>(q (aA7 sc)).elim) (λ_ q=>(q auR).elim) λ_ _ q=>(q ajc.1).elim
theorem auS{k:Int→aq}(h:k 9000 w):rT 1 1 1 w k:=bp rfl h
theorem auT{k:Bool→aq}(hT:TZ w0)(hk:∀w',Ext w0 w'→k true w'):jL w0 k:=by
 unfold jL yJ;refine qH (eV aW.flatten) rfl bf ?_;refine av (.nil w0) λg2 w h=>av h λg4 w h=> ?_;with_reducible repeat' (first|refine qX h λw h=> ?_|fail)
 refine bU (fun(x:Option Addr×Int) w'=> ∃w1 ps sc,∃(a:Ad) (wa aa:List Nat),x=(some ⟨a.gs,0,none⟩,0)∧Ext w0 w1∧j2 w1 ps (Pw sc)∧wa.length=1∧Ap w1 w' (nT a ps mw wa) aa (Oz mw) (HJ mw) []) (λJ hJ=> ?_) ?_
 ·have abd:∀(w:World) (gx:Nat) (L:List HP) (f1 f2:HP→List HP) (h:St w0 w L) (a1:At L (ax g2) (eV aW.flatten).toList f1) (a2:At L (ax gx) [.int .i64 0,.slice (some ⟨g2,0,none⟩) 1 1] f2),pG #[.slice (some ⟨gx,0,none⟩) 1 1] (lmA mw) w λx w=>J (x.1,x.2) w:=by
   intro w gx L f1 f2 h a1 a2;have hF:=ax2 (c1:=1) (c3:=1) (h.ax (g:=g2)) (h.ax (g:=gx));refine aA8 hF λa wa aa w' CW h'=> ?_;exact hJ _ _ ⟨_,_,_,a,wa,aa,rfl,h.ext,hF,CW,h'⟩
  with_reducible repeat' (first|refine aK h λw h=> ?_|refine pn h ?_|refine po h ?_|refine lu ?_ ?_|refine ajd h λw h=> ?_|fail)
  ·refine qH #[.int .i64 0,.slice (some ⟨g2,0,none⟩) 1 1] rfl bf ?_;with_reducible repeat' (first|refine av h λgx w h=> ?_|refine po h ?_|refine lu ?_ ?_|refine ajd h λw h=> ?_|fail)
   all_goals exact abd _ _ _ _ _ h inferInstance inferInstance
  ·refine qH #[.int .i64 0,.slice (some ⟨g2,0,none⟩) 1 1] rfl bf ?_;with_reducible repeat' (first|refine av h λgx w h=> ?_|fail)
   exact abd _ _ _ _ _ h inferInstance inferInstance
 clear h;rintro _ w ⟨w1,ps,sc,a,wa,aa,rfl,he,hF,CW,h⟩;refine bp rfl ?_;refine auS ?_;exact ax4 (hT.ext he) hF CW h λw' hx=>hk w' (he.trans hx)
end
end Go.Proofs.YthidhjhkmjjckaaGreatDoor
namespace Go.Proofs.YthidhjhkmjjckaaGreatDoor
open Go Go.Ev Go.Proofs
section
variable {w0 w:World} {L:List HP}
theorem ax5{o:Array Value}{k:Bool→aq}(h:St w0 w L)(hk:∀w',St w0 w' L→k false w'):eT none o w k:=by
 unfold eT yT;refine av h λg w h=> ?_;refine bU (λb w=>b=true∧St w0 w L) (λJ hJ=>bH rfl (hJ _ _ ⟨rfl,h.drop⟩)) ?_;rintro _ w ⟨rfl,h⟩;exact bH rfl (hk _ h)
theorem alu{k:Sl→aq}(h:St w0 w L)(hk:∀w',St w0 w' L→k ⟨none,0,0⟩ w'):cV none w k:=by
 unfold cV tN;refine av h λg w h=> ?_;with_reducible repeat' (first|refine oI h ?_|refine qx ?_|fail)
 exact hk _ h.drop
theorem auU{n:Int}{k:Int→aq}(h:St w0 w L)(hk:∀w',St w0 w' L→k 0 w'):l8 none n w k:=by
 unfold l8 Cn;refine bU (λb w=>b=true∧St w0 w L) (λJ hJ=>bH rfl (hJ _ _ ⟨rfl,h⟩)) ?_;rintro _ w ⟨rfl,h⟩;exact bH rfl (hk _ h)
theorem alv{k:Bool→aq}(hk:k false w):cf none w k:=by unfold cf tK;exact bH rfl hk
theorem auV{k:Int→aq}(hk:k 2 w):cK none w k:=bH rfl hk
theorem aje{k:Sl→aq}(hk:k ⟨none,0,0⟩ w):jM none w k:=by unfold jM yK;exact bH rfl hk
theorem agL{k:Sl→aq}(hk:k ⟨none,0,0⟩ w):jo none w k:=by unfold jo wR;exact bH rfl hk
theorem apq{k:Int→aq}(hk:k 0 w):mM none w k:=bH rfl hk
theorem apr{k:Int→aq}(hk:k 0 w):kW none w k:=by unfold kW Bn;exact bH rfl hk
theorem auW{k:Int→aq}(hk:k 0 w):l9 none w k:=by unfold l9 Co;exact bH rfl hk
theorem aA9{o:Array Value}{k:Bool→aq}(ho:o.size=2)(hT:TZ w0)(hk:∀w',Ext w0 w'→k true w'):rU o w0 k:=by
 unfold rU ur;refine av (.nil w0) λg w h=> ?_;refine jG (n:=2) (g:=g) h ?_ ?_
 ·simpa using ho
 refine ax5 h λw h=>bH rfl (alv (bH rfl (auV (bH rfl (alu h λw h=>aje (agL (apq (apr (auU h λw h=>bH rfl (auW (bH rfl ?_)))))))))));exact auT (hT.ext h.ext) λw' hx=>hk w' (h.ext.trans hx)
end
end Go.Proofs.YthidhjhkmjjckaaGreatDoor
namespace Go.Ev
open Go Go.RowKit Go.ChangeShapes Go.WideShapes
theorem agM{H:Type}{enc:TypeId×Value→H}{C:Checked}{os:Os}{K:FuncId}{fn:Func}{s:ChangeSpec}{tb:TypeId}{X:World→Array Value→Prop}
  (hX:∀(w w':World) (args:Array Value),w.heap=w'.heap→X w args→X w' args)
  (own:ownKnob C.prog.godebug=none) (started:os.Started) (noInit:C.prog.inits.idxOf? K=none) (hfn:C.prog.funcs[K]?=some fn)
  (witness:∃(w:World) (tape:Tape) (i:Input),w.os=os∧(w.forCall tape i).Shaped C.prog∧i.vars=[]∧Input.okWide C.prog (w.forCall tape i) .any w.heap.size K i∧
   ((s.pre enc C.prog fn [] false (w.forCall tape i).memory i.args∧X (w.forCall tape i).memory i.args)∧sizedMet enc C.prog fn (OpenSpec.ofChange s) false (w.forCall tape i).memory i.args)∧({}:Assume).holds C.prog (lone (Frame.enter C.prog K i.args .normal) [] (w.forCall tape i)))
  (hvars:s.vars=[]) (hl:laidOutB C.prog=true) (hrows:fn.params.toList.all (λt=>C.prog.readableRec t&&decide (t<C.prog.types.size))=true)
  (hres:fn.resultTypes=#[tb]) (htb:C.prog.underlying tb=some .bool)
  (hs:∀ds:List (DataW H),ds.length=fn.params.toList.length→s.fn H ds={results:=[.lit (.bool true)],args:=ds})
  (walk:∀(W:World) (args:Array Value),V1 C.prog W fn.params.toList args.toList→X W args→
   Calls C.prog K args W λe W'=>e= .returned (.bool true)∧Below W.heap.size W W'):
  ReturnsInHanded {} C os K .any (λw args=>(s.pre enc C.prog fn [] false w args∧X w args)∧sizedMet enc C.prog fn (OpenSpec.ofChange s) false w args) (s.post enc C.prog fn false true false false):=by
 refine returnsInHanded_of_change_and hX own started noInit hfn witness ?_;intro W base args ds gs before hval hW _ hsz hXW _;have hW':=hW;obtain⟨p,q,hA,hV,rfl,hfz,hnd⟩:=hW;rw[hvars]at hV;obtain⟨rfl,rfl⟩:=trodVars_none hV;have hlen:=TQ hA;have hvt:s.plain.varTypes C.prog=[]:=by simp[DataSpec.varTypes,ChangeSpec.plain,hvars]
 rw[hvt,List.append_nil,List.append_nil]at hsz;have hargs:=ahb (λj t v ht hv=>hval j t v (by simpa using ht) (by simpa using hv)) hA (λn hn=>by simpa using xz.1 hsz n hn)
 refine(walk W args hargs hXW).mono λe W' ⟨he,bel⟩=> ?_;subst he;refine⟨_,rfl,ds,[],p++[],[],p,[],hW',?_,?_,?_,bel.frame _,λh=>by cases h⟩
 ·rw[List.append_nil,hs ds hlen,hres];exact trodAll_mk1 (shut_bool htb _)
 ·rw[List.append_nil,hs ds hlen];exact Qi hl bel hrows hA λx hx=>hW'.lt x (by simp[hx])
 ·rw[List.append_nil,hs ds hlen,hvars];exact rfl
end Go.Ev
