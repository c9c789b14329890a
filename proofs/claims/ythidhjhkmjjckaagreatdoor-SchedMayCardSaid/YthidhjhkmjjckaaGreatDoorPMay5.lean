/-
  Parts of the proof of LMay: printed by a program out of longer texts.
-/
import Derived.Test.YthidhjhkmjjckaaGreatDoorPMay4
set_option linter.unusedSimpArgs false
set_option linter.unusedVariables false
set_option maxRecDepth 100000
open List renaming getElem?_eq_some_iff→kJ,getElem?_eq_getElem→j4,getD_eq_getElem?_getD→nI,getElem?_append_left→sZ,getElem?_append_right→uI,getElem?_set_ne→rK,getElem?_set_self→uu,mem_of_getElem?→q6,getElem?_map→pz,eraseIdx→Iw,insertIdx_succ_cons→azV,insertIdx_zero→azW,replicate→dM,mem_append→y7,length_append→tV,all_eq_true→xz
open Go.Sem renaming run_pure→cK,run_bind→cL
open Go.Result renaming andThen_ok→cF
open Bool renaming or_eq_false_iff→kx,and_eq_true→iZ
open Option renaming isNone→eL
open Go.IntKind renaming wrap→aG
open Int renaming toNat_natCast→kR
open Array renaming setIfInBounds→eM,getElem?_eq_some_iff→AL
open Nat renaming le_refl→iv
open Go.Addr renaming add→aY
namespace Go.Proofs.YthidhjhkmjjckaaGreatDoor
open Go Go.Ev Go.Proofs
open Ko (oe CK)
open Fr (Ax nu dQ eB dc iB jj nR oT qv kr qi pR pS pQ)
section
variable {w0 w:World} {L R:List HP} {l:Lc} {P:List dH} {aa:List Nat} {G:Gl} {gw b c d x y a a':Nat} {W:Wk} {k:Unit→aq} {sp st sw so sc:Sl} {q:Wq} {f:HP→List HP} {t t' tt:Tk} {s':List Nat} {vs:List Value} {i:List Int} {nd:Nd} {p:Pl}
def GA(i:List Int):Int:=if i.getD 0 0=10 then i.getD 3 0 else i.getD 2 0
theorem awI(hF:iN w0 l.ps P)(hI:In P t.f i)(h:qE w0 w l aa gw G W R)(hs:W.stack=x::s')(ht:G.ts[x]?=some t)(hh:0≤GA i∧GA i<8)(hy:t.f.getD (10+(GA i).toNat) 0=(y:Nat))(L5:G.ts[y]?=some tt)(hc:G.M.can W.id l.told=true)(hsc:oc G.C t.lX=some nd)
  (hk:Fin w0 l aa gw R k (join l P G W t)):gU (some ⟨gw,0,none⟩) w k:=by
 obtain⟨sp,st,sw,q,hq,h⟩:=dN h;obtain⟨a,vs,ha,hst,_⟩:=mY hq hs;obtain⟨hp,so,sc,h⟩:=nU h ha ht;obtain⟨a',ha'⟩:=Ym hp.len L5;unfold gU zV;unfold join at hk;rw[hI.ins]at hk;have e1:(if i.getD 0 0=10 then i.getD 3 0 else i.getD 2 0)=GA i:=rfl
 dsimp only at hk;rw[e1,hy,kR]at hk;refine I2 hF hI h hst λw h=> ?_;obtain⟨i0,i1,i2,i3,i4,rfl⟩:=I1 hI.Gw;with_reducible repeat' (first|refine cS h ?_|refine nW h λw h=> ?_|refine av h λgx w h=> ?_|fail)
 obtain⟨gc,lS⟩:∃n,n=gx:=⟨_,rfl⟩;subst lS;refine ay (λhb=> ?_) λhb=> ?_
 ·have hb:i0=10:=by simpa using hb
  have e2:GA [i0,i1,i2,i3,i4]=i3:=if_pos hb;rw[e2]at hh hy;with_reducible repeat' (first|refine an ?_|refine aF h λw h=> ?_|refine da h ?_|refine cS h ?_|refine j5 h ?_|fail)
  refine lu h hst vw λw h=> ?_;with_reducible repeat' (first|refine an ?_|refine ja h ?_|fail)
  refine aye h hh.1 hh.2 ?_;rw[hy];refine vP (s:=st) (vs:=aa.map pt) h ah (ab3 ha') ?_;have h:=h.rm 0 rfl;exact Yn (bi hq (oQ hp h)) hs ht ha' hc hsc hk
 ·have hb:¬i0=10:=by simpa using hb
  have e2:GA [i0,i1,i2,i3,i4]=i2:=if_neg hb;rw[e2]at hh hy;with_reducible repeat' (first|refine an ?_|refine aF h λw h=> ?_|refine da h ?_|refine j5 h ?_|fail)
  refine lu h hst vw λw h=> ?_;with_reducible repeat' (first|refine an ?_|refine ja h ?_|fail)
  refine aye h hh.1 hh.2 ?_;rw[hy];refine vP (s:=st) (vs:=aa.map pt) h ah (ab3 ha') ?_;have h:=h.rm 0 rfl;exact Yn (bi hq (oQ hp h)) hs ht ha' hc hsc hk
theorem aei{kind v:Int}{k:Array Value×Int×Bool→aq}(h:St w0 w L)(hf:t.f.length=19)(h5:i.length=5)(hk:∀w',St w0 w' L→k (eU (dc t.f i kind v).1,(dc t.f i kind v).2.1,(dc t.f i kind v).2.2) w'):ik (frV t.f).toArray (eU i) kind v w k:=by
 rw[NO hf];exact Fr.anO hf h5 λw' he=>hk w' (h.on he)
theorem aoj(hF:iN w0 l.ps P)(hI:In P t.f i)(h:qE w0 w l aa gw G W R)(he:G.err=0)(hs:W.stack=x::s')(ht:G.ts[x]?=some t)(hM:G.M.OK)(hty:W.target=some y)(L5:G.ts[y]?=some tt)(hc:G.M.can W.id (tt.jC+1)=true)
  (hk:Fin w0 l aa gw R k (joined l P G W x t tt)):fj (some ⟨gw,0,none⟩) w k:=by
 obtain⟨sp,st,sw,q,hq,h⟩:=dN h;obtain⟨a,vs,ha,hst,_⟩:=mY hq hs;obtain⟨a',hy,hpt⟩:=Yo hq hty;obtain⟨hp,so,sc,h⟩:=nU h ha ht;unfold fj wK;unfold joined at hk;rw[hI.ins]at hk;dsimp only at hk;have hf:=hI.len;refine Gz h he (λhb w h=> ?_) λhb w h=> ?_
 ·rw[if_pos hb]at hk;with_reducible repeat' (first|refine nJ ?_|fail)
  exact hk _ (bi (G:=G.fail 22) hq (oQ (G:=G.fail 22) ⟨hp.len,hp.a,hp.t⟩ h))
 rw[if_neg hb]at hk;with_reducible repeat' (first|refine fE ?_|fail)
 refine lu h hst vw λw h=> ?_;refine I2 hF hI h hst λw h=> ?_;have h5:=hI.Gw;obtain⟨i0,i1,i2,i3,i4,rfl⟩:=I1 h5;with_reducible repeat' (first|refine an ?_|refine cS h ?_|refine nW h λw h=> ?_|refine av h λgx w h=> ?_|fail)
 obtain⟨gc,lS⟩:∃n,n=gx:=⟨_,rfl⟩;subst lS;refine bS (fun(v:Int) w=> ∃so sc,v=(if W.kind=4 then 0 else G.M.get (tt.jC+1))∧St w0 w (ax gc (ints [i0,i1,i2,i3,i4])::TL l aa gw (if W.kind=4 then G else G.tick W.id) W R sp st sw q x a t so sc)) (λJ hJ=> ?_) ?_
 ·refine ay (λhb=> ?_) λhb=> ?_
  ·have hb:¬W.kind=4:=by simpa using hb
   rw[if_neg hb,if_neg hb]at hJ;with_reducible repeat' (first|refine an ?_|refine aF h λw h=> ?_|refine da h ?_|fail)
   rw[hpt];have h:=h.fr 0;have h2:=St.back 22 h;simp only[azV,azW]at h2;have h:=oQ (R:=ax gc (ints [i0,i1,i2,i3,i4])::R) hp h2;clear h2;dsimp only[wX]at h;have h:=h.fr 9;obtain⟨so',sc',h⟩:=sG h hy L5;with_reducible repeat' (first|refine an ?_|refine da h ?_|refine cS h ?_|refine mH h ?_|fail)
   refine anu (M:=G.M) h hM hc λw h=> ?_;have h:=pW hp.len hy L5 h;have h:=h.bk 9;obtain⟨_,so2,sc2,h⟩:=nU (G:=G.tick W.id) (R:=ax gc (ints [i0,i1,i2,i3,i4])::R) h ha ht;with_reducible repeat' (first|refine an ?_|refine da h ?_|refine fE ?_|refine lT ?_|fail)
   have h:=h.fr 22;exact hJ _ _ ⟨so2,sc2,rfl,h⟩
  ·have hb:W.kind=4:=by simpa using hb
   rw[if_pos hb,if_pos hb]at hJ;exact hJ _ _ ⟨so,sc,rfl,h⟩
 clear h;have Bq:Tp aa (if W.kind=4 then G else G.tick W.id) x a t:=by split<;>exact⟨hp.len,hp.a,hp.t⟩
 rintro v w ⟨so,sc,hv,h⟩;rw[←hv]at hk;clear hv;generalize (if W.kind=4 then G else G.tick W.id)=G1 at hk h Bq
 generalize hi:[i0,i1,i2,i3,i4]=i at hk h h5;have hjl:(dc t.f i W.kind v).1.length=19:=by rw[pS,hf]
 refine bS (fun(x2:Addr×(Int×Bool)) w=> ∃g2,x2=(⟨g2,0,none⟩,(dc t.f i W.kind v).2.1,(dc t.f i W.kind v).2.2)∧St w0 w (ax g2 (ints (dc t.f i W.kind v).1)::ax gc (ints i)::TL l aa gw G1 W R sp st sw q x a t so sc)) (λJ hJ=> ?_) ?_
 ·subst hi;with_reducible repeat' (first|refine an ?_|refine aF h λw h=> ?_|refine cS h ?_|refine mH h ?_|refine mI h ?_|refine av h λgx w h=> ?_|refine ja h ?_|refine mJ h ?_|refine fX ?_ ?_|fail)
  ·refine aei (t:=t) (i:=[i0,i1,i2,i3,i4]) h hf h5 λw h=> ?_;with_reducible repeat' (first|refine av h λgx w h=> ?_|refine ja h ?_|refine mJ h ?_|fail)
   refine aeg h rfl hjl λw h=> ?_;exact hJ _ _ ⟨_,rfl,h⟩
  ·refine aei (t:=t) (i:=[i0,i1,i2,i3,i4]) h hf h5 λw h=> ?_;refine aeg h rfl hjl λw h=> ?_;exact hJ _ _ ⟨_,rfl,h⟩
 clear h;rintro _ w ⟨g2,rfl,h⟩;dsimp only;refine amu h hjl ?_;with_reducible repeat' (first|refine an ?_|fail)
 refine Ak h hjl λw h=> ?_;have h:=(h.rm 0 rfl).rm 0 rfl;simp only[Iw]at h;unfold aH;with_reducible repeat' (first|refine an ?_|refine da h ?_|refine cS h ?_|refine dO h λw h=> ?_|fail)
 have h:qE w0 w l aa gw (G1.lU.set x {t with f:=(dc t.f i W.kind v).1}) (W.go .next) R:=bi (q:={q with px:=mt gw .next}) (by exact{hq with cM:=rfl}) (vo (t':={t with f:=(dc t.f i W.kind v).1}) (G:=G1.lU) (W:=W.go .next) ⟨Bq.len,Bq.a,Bq.t⟩ h)
 refine ay (λhb=> ?_) λhb=> ?_
 ·have hb:(dc t.f i W.kind v).2.2=true:=hb;rw[if_pos hb]at hk;refine Z4 h hs (t:={t with f:=(dc t.f i W.kind v).1}) (uu (kJ.1 Bq.t).1) ?_;unfold ends;rw[asV];exact hk
 ·have hb:(dc t.f i W.kind v).2.2=false:=hb;rw[if_neg (by rw[hb];simp)]at hk
  exact hk _ h
end
end Go.Proofs.YthidhjhkmjjckaaGreatDoor
