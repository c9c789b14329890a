/-
  Parts of the proof of LSteals: printed by a program out of longer texts.
-/
import Derived.Test.YthidhjhkmjjckaaGreatDoorPSteals7
import Derived.LaidMore
import Derived.SevenTiedAt
import Derived.Lay
import Derived.Stop.Joined
set_option linter.unusedSimpArgs false
set_option linter.unusedVariables false
set_option maxRecDepth 100000
set_option linter.defProp false
open List renaming getElem?_eq_some_iff→kB,getElem?_eq_getElem→iH,getD_eq_getElem?_getD→m0,getElem?_append_left→tJ,getElem?_append_right→u0,getElem?_set_ne→r0,getElem?_set_self→uO,mem_of_getElem?→qn,getElem?_map→l8,eraseIdx→I7,insertIdx_succ_cons→aBT,insertIdx_zero→aBU,replicate→dU,mem_append→zw,length_append→uv,all_eq_true→tL
open Go.Sem renaming run_pure→cP,run_bind→cR
open Go.Result renaming andThen_ok→cK
open Bool renaming or_eq_false_iff→kf,and_eq_true→iY
open Option renaming isNone→eA
open Go.IntKind renaming wrap→aF
open Int renaming toNat_natCast→iZ
open Array renaming setIfInBounds→eS,getElem?_eq_some_iff→Bf
open Nat renaming le_refl→iw
open Go.Addr renaming add→aY
namespace Go.Proofs.YthidhjhkmjjckaaGreatDoor
open Go Go.Ev Go.Proofs
open Ko (ni CK)
section
variable{a:Ad}{ps s t:Sl}{x0 x1 x2 x3:Nat}{T:List Int}
def aLo:(aoN (gJ a ps aQt [x0,x1,x2,x3]) (aQn s t 8 aQu) 8 1 (Th 8 T)&&(List.range 8).all λd=>aoN (gJ a ps aQt [x0,x1,x2,x3]) (aQn s t 8 aQu) 8 1 (Th d []))=true:=by kernel_rfl
def aLp:(aoN (gJ a ps aQt [x0,x1,x2,x3]) (aQn s t 8 aQu) 8 2 (Th 8 T)&&(List.range 8).all λd=>aoN (gJ a ps aQt [x0,x1,x2,x3]) (aQn s t 8 aQu) 8 2 (Th d []))=true:=by kernel_rfl
def aLq:(aoN (gJ a ps aQt [x0,x1,x2,x3]) (aQn s t 8 aQu) 8 3 (Th 8 T)&&(List.range 8).all λd=>aoN (gJ a ps aQt [x0,x1,x2,x3]) (aQn s t 8 aQu) 8 3 (Th d []))=true:=by kernel_rfl
end
open Ko (CK)
open Ck (oW)
open Fr (A0 nE dY eI di iG jo nF o5)
section
variable{l:Lc}{P:List dB}{bw:List Int}{ro iT:List Ro}{G G' G1:Gl}{W W' W1:Wk}{Ws:List Wk}{t t':Tk}{n i x y:Nat}{s a v:Int}{r:Ro}{k:Kn}{wk:Int}{o:List (Int×Int)}
def Ty.k4(h:Ty l ro G)(hy:y<G.ts.length)(h2:2≤G.K y):G.K y=2∨G.K y=3∨G.K y=4:=by
 have:=h.val _ _ (h.qh hy).k;have h3:G.K y≤4:=this.2;omega
end
open Classical in
def liv(G:Gl)(s:Int):Int:=G.M.get ((G.nd s).at_+1)
section
variable{l:Lc}{P:List dB}{bw:List Int}{ro iT:List Ro}{G G' G1:Gl}{W W' W1:Wk}{Ws:List Wk}{t t':Tk}{n i x y:Nat}{s a v:Int}{r:Ro}{k:Kn}{wk:Int}{o:List (Int×Int)}
end
section
variable{l:Lc}{P:List dB}{bw:List Int}{ro iT:List Ro}{G G' G1:Gl}{W W' W1:Wk}{Ws:List Wk}{t t':Tk}{n i x y:Nat}{s a v:Int}{r:Ro}{k:Kn}{wk:Int}{o:List (Int×Int)}
end
section
variable{l:Lc}{P:List dB}{bw:List Int}{ro iT:List Ro}{G G' G1:Gl}{W W' W1:Wk}{Ws:List Wk}{t t':Tk}{n i j x y:Nat}{s a v:Int}{r:Ro}{k:Kn}{wk:Int}{o:List (Int×Int)}
end
section
variable{l:Lc}{P:List dB}{bw:List Int}{ro iT:List Ro}{G G' G1:Gl}{W W' W1:Wk}{Ws:List Wk}{t t':Tk}{n i j x y:Nat}{s a v:Int}{r:Ro}{k:Kn}{wk:Int}{o:List (Int×Int)}
end
section
variable{l:Lc}{P:List dB}{bw:List Int}{ro iT:List Ro}{G G' G1:Gl}{W W' W1:Wk}{Ws:List Wk}{t t':Tk}{n i j x y:Nat}{s a v:Int}{r:Ro}{k:Kn}{wk:Int}{o:List (Int×Int)}
end
section
variable{l:Lc}{P:List dB}{bw:List Int}{ro iT:List Ro}{G G' G1:Gl}{W W' W1:Wk}{Ws:List Wk}{t t':Tk}{n i j x y:Nat}{s a v:Int}{r:Ro}{k:Kn}{wk:Int}{o:List (Int×Int)}
end
section
variable{w0 w:World}{l:Lc}{P:List dB}{Ws:List Wk}{W W':Wk}{n kd s b lg:Int}{ps sc:Sl}
end
open Ck (oW aga agq)
section
variable{l:Lc}{P:List dB}{bw:List Int}{ro iT:List Ro}{G G' G1:Gl}{W W' W1:Wk}{Ws:List Wk}{t t':Tk}{n i j x y:Nat}{s a v:Int}{r:Ro}{k:Kn}{wk:Int}{o:List (Int×Int)}
end
section
variable{l:Lc}{P:List dB}{bw:List Int}{G G':Gl}{Ws:List Wk}{n i j x y:Nat}{s:Int}{o:List (Int×Int)}{p:Int×Int}{r:List Int}
def akH.len(h:akH G o):o.length=G.ts.length:=by
 have h1:(o.map λp=>p.1).Perm ((List.range G.ts.length).map λn:Nat=>(n:Int)):=by
  rw[List.perm_ext_iff_of_nodup h.nd (by
   refine List.Pairwise.map _ (λa b q=> ?_) List.nodup_range;intro z;exact q af)]
  intro a;constructor
  ·intro ha;obtain⟨p,hp,rfl⟩:=List.mem_map.1 ha;obtain⟨⟨a1,a2⟩,_⟩:=h.pr p hp;exact List.mem_map.2 ⟨p.1.toNat,List.mem_range.2 af,af⟩
  ·intro ha;obtain⟨k,hk,rfl⟩:=List.mem_map.1 ha;exact h.all k (List.mem_range.1 hk)
 have:=h1.length_eq;simpa using this
def akH.row(h:akH G o)(hp:o[i]?=some p):(cq G o)[p.1.toNat]?=some (i:Int):=by
 have hn:(o.map λp=>p.1.toNat).Nodup:=by
  have h1:=h.nd;unfold List.Nodup at h1 ⊢;rw[List.pairwise_map]at h1 ⊢;refine h1.imp_of_mem fun{a b} ha hb q e=>q ?_;have e1:=(h.pr a ha).1;have e2:=(h.pr b hb).1;omega
 have:=apF o 0 (dU G.ts.length 0) hn (λp hp=>by rw[List.length_replicate];have:=(h.pr p hp).1;omega) i p hp
 rw[Nat.zero_add]at this;exact this
def ala:∀(o:List (Int×Int)) (T:List (List Value)) (k:Nat),(∀p∈o,(r.getD p.1.toNat 0).toNat≠k)→(Gc G r T o)[k]?=T[k]?
 |[],_,_,_=>rfl
 |p::o,T,k,h=>by
  show(Gc G r (T.set _ _) o)[k]?=_;rw[ala o _ k λq hq=>h q (by simp[hq]),r0 (h p bf)]
def atM:∀(o:List (Int×Int)) (T:List (List Value)),(o.map λp=>(r.getD p.1.toNat 0).toNat).Nodup→(∀p∈o,(r.getD p.1.toNat 0).toNat<T.length)→∀p∈o,(Gc G r T o)[(r.getD p.1.toNat 0).toNat]?=some (rowAt G r p)
 |[],_,_,_,p,hp=>by cases hp
 |q::o,T,hn,hl,p,hp=>by
  show(Gc G r (T.set _ _) o)[_]?=_;rw[List.map_cons,List.nodup_cons]at hn;rcases List.mem_cons.1 hp with rfl|hp
  ·rw[ala o _ _ λz hz e=>hn.1 (List.mem_map.2 ⟨z,hz,e⟩),uO (hl p bf)]
  ·exact atM o _ hn.2 (λz hz=>by rw[List.length_set];exact hl z (by simp[hz])) p hp
def akH.ayY(h:akH G o)(hp:o[i]?=some p):(cq G o).getD p.1.toNat 0=(i:Int):=by
 rw[m0,h.row hp];rfl
def akH.tab(h:akH G o)(hp:o[i]?=some p):(Yn G o)[i]?=some (rowAt G (cq G o) p):=by
 have hm:o.map (λp=>((cq G o).getD p.1.toNat 0).toNat)=List.range o.length:=by
  apply List.ext_getElem?;intro k;rw[l8];by_cases hk:k<o.length
  ·obtain⟨q,hq⟩:∃z,o[k]?=some z:=⟨_,iH hk⟩;rw[hq,List.getElem?_range hk];show some (((cq G o).getD q.1.toNat 0).toNat)=_;rw[h.ayY hq];rfl
  ·rw[List.getElem?_eq_none af,List.getElem?_eq_none (by rw[List.length_range];omega)];rfl
 have:=atM (G:=G) (r:=cq G o) o (dU G.ts.length (AO 0 0 0 0 0 0 (ByteArray.mk #[]))) (by rw[hm];exact List.nodup_range) (λq hq=>by
  obtain⟨k,hk⟩:=List.getElem?_of_mem hq;rw[h.ayY hk,List.length_replicate,←h.len];exact(kB.1 hk).1) p (qn hp)
 rw[h.ayY hp]at this;exact this
end
open Ck (oW qx my tj Su qf mZ Few)
section
variable{w0 w:World}{L R:List HP}{l:Lc}{P:List dB}{bw:List Int}{aa:List Nat}{G:Gl}{Ws:List Wk}{S S':Sg_}
end
def aIq:qx aQu 0=[0,0]:=(Ck.ajo (l:=aQu) (aX:=0) 2 e7 e7 aZ).trans aZ
variable{n:Nat}
def aJL(s t:Sl)(h:1≤n∧n≤8):tj (aQn s t n aQu)=(0,0,0):=by
 obtain rfl|rfl|rfl|rfl|rfl|rfl|rfl|rfl:n=1∨n=2∨n=3∨n=4∨n=5∨n=6∨n=7∨n=8:=af;all_goals refine aGf (Ck.ajo (aX:=0) 12 e7 e7 aZ) aIq aZ aZ aZ
def aJM(s t:Sl)(h:1≤n∧n≤8):UZ (aQn s t n aQu) 4 0 3 ⟨none,0,0⟩:=⟨⟨by show 2≤40;decide,λf hf=>by
 simp only[aQn,List.mem_cons,List.not_mem_nil,or_false]at hf;rcases hf with rfl|rfl
 ·show(fkL n).length≤140;simp[fkL,fkI];omega
 ·show aQu.length≤140;decide⟩,e7,e7,e7,e7,e7,e7,e7,by rw[aJL s t h];rfl⟩
variable{d:Nat}
def aLr{l:Lc}{P:List dB}(h:d≤1000):drF l P sev d (eY aQt,Bd aQt)=Th d []:=by
 induction d with
 |zero=>
  show(eY aQt,Bd aQt)=_;unfold Th;simp only[List.range_zero,List.map_nil,List.append_nil];kernel_rfl
 |succ d ih=>
  show(SA l P (drF l P sev d (eY aQt,Bd aQt)).1 (drF l P sev d (eY aQt,Bd aQt)).2 [] 2 (sev d)).1=_;rw[ih af];unfold SA Th;rw[if_neg (by show¬(eY aQt).err≠0;rw[show(eY aQt).err=0 by kernel_rfl];decide),if_neg e7,if_neg e7,if_pos rfl,if_pos (by simp;omega)]
  simp[List.range_succ]
def aJN{a:Ad}{ps s t:Sl}{who:Int}{wa:List Nat}(hn:1≤n∧n≤8)(hw:1≤who∧who≤3)(hd:d≤20)(c:wa.length=aQt.n):aoN (gJ a ps aQt wa) (aQn s t n aQu) n who (drF (gJ a ps aQt wa) (aQn s t n aQu) sev d (eY aQt,Bd aQt))=true:=by
 rw[aLr af];obtain⟨x0,x1,x2,x3,rfl⟩:∃x0 x1 x2 x3,wa=[x0,x1,x2,x3]:=by
  match wa,c with
  |[x0,x1,x2,x3],_=>exact⟨_,_,_,_,rfl⟩
 have b:who∈ [(1:Int),2,3]:=by simp;omega
 have key:∀T,(aoN (gJ a ps aQt [x0,x1,x2,x3]) (aQn s t n aQu) n who (Th n T)&&(List.range n).all λd=>aoN (gJ a ps aQt [x0,x1,x2,x3]) (aQn s t n aQu) n who (Th d []))=true:=λT=>by
  obtain rfl|rfl|rfl|rfl|rfl|rfl|rfl|rfl:n=1∨n=2∨n=3∨n=4∨n=5∨n=6∨n=7∨n=8:=af
  ·exact tL.1 aMG who b
  ·exact tL.1 aMH who b
  ·exact tL.1 aMI who b
  ·exact tL.1 aMJ who b
  ·exact tL.1 aML who b
  ·obtain rfl|rfl|rfl:who=1∨who=2∨who=3:=af
   ·exact aLg
   ·exact aLh
   ·exact aLi
  ·obtain rfl|rfl|rfl:who=1∨who=2∨who=3:=af
   ·exact aLl
   ·exact aLm
   ·exact aLn
  ·obtain rfl|rfl|rfl:who=1∨who=2∨who=3:=af
   ·exact aLo
   ·exact aLp
   ·exact aLq
 by_cases hdn:d<n
 ·have:=key [];rw[iY]at this;exact tL.1 this.2 d (List.mem_range.2 hdn)
 ·obtain⟨j,rfl⟩:∃j,d=n+j:=⟨d - n,af⟩;have:=key (((List.range j).map λx=>n+x).map sev);rw[iY]at this;have e:Th (n+j) []=Th n (((List.range j).map λx=>n+x).map sev):=by
   unfold Th;rw[List.range_add,List.map_append,List.append_nil]
  rw[e];exact this.1
def axr{G:Gl}{k:Nat}(h:sdF G (k+1)=some d):∃d',sdF G k=some d'∧((2≤G.K (k+1)∧d'=k∧G.V (k+1)=7∧d=k+1)∨(¬2≤G.K (k+1)∧d=d')):=by
 unfold sdF at h;split at h
 ·cases h
 rename_i d' e;refine⟨d',e,?_⟩;by_cases h2:2≤G.K (k+1)
 ·rw[decide_eq_true h2]at h;by_cases h3:d'=k∧G.V (k+1)=7
  ·rw[decide_eq_true h3.1,decide_eq_true h3.2]at h;exact .inl ⟨h2,h3.1,h3.2,(Option.some.inj h).symm⟩
  ·rw[show(decide (d'=k)&&decide (G.V (k+1)=7))=false by simpa using h3]at h
   cases h
 ·rw[decide_eq_false h2]at h;exact .inr ⟨h2,(Option.some.inj h).symm⟩
def aIt{G:Gl}(h:∃d,sdF G n=some d):∀k,k≤n→∃d,sdF G k=some d:=by
 induction n with
 |zero=>intro k hk;rw[show k=0 by omega];exact h
 |succ n ih=>
  intro k hk;by_cases e:k=n+1
  ·rw[e];exact h
  ·obtain⟨d,h⟩:=h;obtain⟨d',h',_⟩:=axr h;exact ih ⟨d',h'⟩ k af
section
variable{w0 w:World}{L R:List HP}{l:Lc}{P:List dB}{bw:List Int}{aa:List Nat}{G:Gl}{Ws:List Wk}{S S':Sg_}
def aAO{o:List (Int×Int)}(h:ok1 n G=true)(ho:akH G o):G.ts.length=n+1∧o=orN n:=by
 unfold ok1 at h;rw[iY,decide_eq_true_eq,beq_iff_eq]at h;refine⟨h.1,?_⟩;have h1:=ho.ok.dfs;split at h1
 ·rename_i e;have:=h.2;rw[List.length_eq_zero_iff.1 e]at this;cases this
 ·exact aBc h1 (aIn h.2)
def aCQ(h:ok1 n G=true)(ho:akH G (aaC G)){k:Nat}(hk:k≤n):(Yn G (aaC G))[((k:Nat):Int).toNat]?=some (rowAt G (cq G (aaC G)) ((k:Int),if k=0 then -1 else 0)):=by
 obtain⟨_,e⟩:=aAO h ho;rw[iZ];refine ho.tab ?_;rw[e];unfold orN;cases k with
 |zero=>rfl
 |succ k=>
  rw[List.getElem?_cons_succ,l8,List.getElem?_range af];simp
def aJO{J:Bool→ap}(hd:l.deep≤1000000)(hn:n≤8)(hI:aQm l P bw S.1 S.2)(h:qK w0 w l aa S.1 S.2 R)(hW:0<S.2.length)(hk:∀w',qK w0 w' l aa S.1 S.2 R→J (aIp n S) w'):
  dD (some ⟨l.gs,0,none⟩) w λg a=>
       an (decide (((g.n:Nat):Int)<(aF .i64 ((n:Int)+(1:Int))))) (
        (J true a)) (
        jB (some ⟨l.gs,0,none⟩) a λi b=>
        an (((i.n:Nat):Int)==(0:Int)) (
         (J true b)) (
         jB (some ⟨l.gs,0,none⟩) b λj d=>
         cN j (0:Int) 4 λo=>
         cy d (aY o 3) λq=>
         (J (decide (((q.n:Nat):Int)<n)) d))):=by
 refine ad4 hI h λr w h=> ?_;have t:=(pg (sz:=7) (s:=r) (es:=Yn S.1 (aaC S.1)) h).2 e7;rw[adJ]at t;have h:qK w0 w l aa S.1 S.2 R:=h.rm 2 rfl;unfold aIp at hk;rw[show aF .i64 ((n:Int)+1)=(n:Int)+1 from dh ⟨af,af⟩];refine ax (λhb=> ?_) λhb=> ?_
 ·have hb:S.1.ts.length<n+1:=by simp at hb;omega
  rw[decide_eq_true hb]at hk;exact hk _ h
 have hb:¬S.1.ts.length<n+1:=by simp at hb;omega
 rw[decide_eq_false hb,Bool.false_or]at hk;refine aEK hd hI h λs es X w f hs h=> ?_;refine aU (by rw[hs];simp;intro e;rw[e]at hW;simp at hW) ?_
 have h:qK w0 w l aa S.1 S.2 R:=(h.rm 2 rfl).rm 2 rfl;refine aEK hd hI h λs es X w f hs h=> ?_;obtain⟨W,hW⟩:∃W,S.2[0]?=some W:=⟨_,iH hW⟩;obtain⟨p,c,p',m',c',he,hm⟩:=f 0 W hW;have u:dq0 S=m':=by
  rw[hm];unfold dq0;cases hS:S.2 with
  |nil=>rw[hS]at hW;cases hW
  |cons V l=>rw[hS]at hW;cases hW;rfl
 refine rS (sz:=4) (s:=s) (es:=es) h e7 he (p:=p') (m:=m') (k:=c') rfl ?_;rw[u]at hk;have e:decide (((m':Nat):Int)<(n:Int))=decide (m'<n):=by rw[Bool.eq_iff_iff];simp
 dsimp only;rw[e];exact hk _ ((h.rm 2 rfl).rm 2 rfl)
def aFC{k:Bool→ap}{n_ who dr:Int}(hT:TZ w0)(hk:∀w',Ext w0 w'→k true w'):aoM n_ who dr w0 k:=by
 unfold aoM aoO;refine ax (λ_=>awq hT hk) λhb=> ?_;have hb:(1≤n_∧n_≤8)∧(1≤who∧who≤3)∧0≤dr∧dr≤20:=by simp at hb;omega
 obtain⟨hn,Y,Z⟩:=hb;obtain⟨n,rfl⟩:∃n:Nat,n_=n:=⟨n_.toNat,af⟩;have hn:1≤n∧n≤8:=af;refine aJd (n:=n) hn.2 (.nil w0) λg sc st w h=> ?_;refine aM h λg5 w h=> ?_;with_reducible repeat' (first|refine bc ?_|refine cH h λw h=> ?_|refine Tn h ?_|refine Iy h ?_|refine u_B h ?_|refine u_S h ?_|refine u_V h ?_|refine u_T h ?_|refine WX h ?_|refine v_I h ?_|refine v_B h ?_|refine v_S h ?_|refine v_V h ?_|refine v_T h ?_|refine QT h ?_|refine Vh h ?_|refine Z7 h ?_|refine Hq h λw h=> ?_|refine v_C h λw h=> ?_|refine u_W h λw h=> ?_|refine QU h λw h=> ?_|refine aM h λgx w h=> ?_|refine vW ?_|refine nP h ?_|refine sR h ?_|refine y8 ?_ ?_|refine I8 ?_|refine i_T ?_|refine u_1 ?_|fail)
 refine qL (Go.Ev.ints [0,0,0,0,7] ++Go.Ev.ints [0,0,0,0,0]).toArray rfl aZ ?_;refine qL (Go.Ev.ints [0,0,0,0,7] ++Go.Ev.ints [16,0,0,0,0]).toArray rfl aZ ?_;refine aM h λu w h=> ?_;with_reducible repeat' (first|refine bc ?_|refine cH h λw h=> ?_|refine Tn h ?_|refine Iy h ?_|refine u_B h ?_|refine u_S h ?_|refine u_V h ?_|refine u_T h ?_|refine WX h ?_|refine v_I h ?_|refine v_B h ?_|refine v_S h ?_|refine v_V h ?_|refine v_T h ?_|refine QT h ?_|refine Vh h ?_|refine Z7 h ?_|refine Hq h λw h=> ?_|refine v_C h λw h=> ?_|refine u_W h λw h=> ?_|refine QU h λw h=> ?_|refine aM h λgx w h=> ?_|refine vW ?_|refine nP h ?_|refine sR h ?_|refine y8 ?_ ?_|refine I8 ?_|refine i_T ?_|refine u_1 ?_|fail)
 refine ars e7 (by show(1:Int)<2;decide) ?_
 refine Yz (g:=g) (o:=2) (cs:=[.int .i64 0,.slice sc.a sc.n sc.c,.int .i64 0,.slice st.a st.n st.c]) h rfl (by show 4≤4;decide) (by simp[Value.oneCell']) λw h=> ?_
 replace h:St w0 w (au u (Go.Ev.ints [0,0,0,0,7] ++Go.Ev.ints [16,0,0,0,0])::au g5 [.slice (some ⟨g,0,none⟩) 2 2]::au g [.int .i64 0,.slice sc.a sc.n sc.c,.int .i64 0,.slice (some ⟨u,0,none⟩) 2 2]::bG 5 st (([[6,0,0,0,0]]:List (List Int)).map Go.Ev.ints).flatten::bG 5 sc ((fkL n).map Go.Ev.ints).flatten::[]):=h;refine cH h λw h=> ?_;with_reducible repeat' (first|refine bc ?_|refine cH h λw h=> ?_|refine Tn h ?_|refine Iy h ?_|refine u_B h ?_|refine u_S h ?_|refine u_V h ?_|refine u_T h ?_|refine WX h ?_|refine v_I h ?_|refine v_B h ?_|refine v_S h ?_|refine v_V h ?_|refine v_T h ?_|refine QT h ?_|refine Vh h ?_|refine Z7 h ?_|refine Hq h λw h=> ?_|refine v_C h λw h=> ?_|refine u_W h λw h=> ?_|refine QU h λw h=> ?_|refine aM h λgx w h=> ?_|refine vW ?_|refine nP h ?_|refine sR h ?_|refine y8 ?_ ?_|refine I8 ?_|refine i_T ?_|refine u_1 ?_|fail)
 have hb:=h.au (g:=g5);refine adM h λw h=> ?_;refine BV hb (h.au (g:=g5)) ?_;clear hb;have h:=St.asS (g:=u) (n:=2) (sz:=5) h rfl e7 (by simp[ints,Value.oneCell'])
 have h:=St.asS (g:=g) (n:=2) (sz:=2) h rfl e7 (by simp[Value.oneCell'])
 have h5:=awR hn.2;have aQW:∀x∈aQu,x.length=5∧∀y∈x,sy y:=e7;have c1:=Ck.awD (s:=sc) (l:=fkL n) h h5 (by simp[fkL,fkI,reachBytes];omega)
 have c2:=Ck.awD (s:=⟨some ⟨u,0,none⟩,2,2⟩) (l:=aQu) h aQW e7;have hF:iA w ⟨some ⟨g,0,none⟩,2,2⟩ (aQn sc ⟨some ⟨u,0,none⟩,2,2⟩ n aQu):=Ck.aEt (P:=aQn sc ⟨some ⟨u,0,none⟩,2,2⟩ n aQu) h (λx hx=>by
  simp only[aQn,List.mem_cons,List.not_mem_nil,or_false]at hx;rcases hx with rfl|rfl
  ·exact⟨(by decide:sy 0),c1⟩
  ·exact⟨(by decide:sy 0),c2⟩) (by show 2*32≤_;decide)
 have hx0:=h.ext;clear h c1 c2;have hT:=hT.ext hx0;have hk:∀w',Ext w w'→k true w':=λw' hx=>hk w' (hx0.trans hx);clear hx0;have hf:=aJM sc ⟨some ⟨u,0,none⟩,2,2⟩ hn;refine ahh (m:=MO 4 0 3) (ps:=⟨some ⟨g,0,none⟩,2,2⟩) (P:=aQn sc ⟨some ⟨u,0,none⟩,2,2⟩ n aQu) hF (.nil w) (λ_ _ _ a wa aa w' A7 h=> ?_) (λq=>(q hf.acc).elim) (λ_ q=>(q hf.ok).elim) λ_ _ q=>(q hf.tot).elim;refine aU rfl ?_;have hI:=hf.rn (a:=a) (ps:=⟨some ⟨g,0,none⟩,2,2⟩) A7;have hok:=aJN (a:=a) (ps:=⟨some ⟨g,0,none⟩,2,2⟩) (s:=sc) (t:=⟨some ⟨u,0,none⟩,2,2⟩) (d:=dr.toNat) hn Y af A7;have I:wa.length=4:=A7;have hl:(gJ a ⟨some ⟨g,0,none⟩,2,2⟩ (MO 4 0 3) wa).gs=a.gs:=rfl;have hwl:(gJ a ⟨some ⟨g,0,none⟩,2,2⟩ (MO 4 0 3) wa).wa=wa:=rfl;have hps:(gJ a ⟨some ⟨g,0,none⟩,2,2⟩ (MO 4 0 3) wa).ps=⟨some ⟨g,0,none⟩,2,2⟩:=rfl;have L:(gJ a ⟨some ⟨g,0,none⟩,2,2⟩ (MO 4 0 3) wa).deep≤1000000:=by show(1000:Int)≤_;decide
 change aoN (gJ a _ (MO 4 0 3) wa) _ n who (drF (gJ a _ (MO 4 0 3) wa) _ _ _ (eY (MO 4 0 3),Bd (MO 4 0 3)))=true at hok;rw[←hps]at hF;rw[←hwl]at I;generalize gJ a ⟨some ⟨g,0,none⟩,2,2⟩ (MO 4 0 3) wa=l at*
 generalize dqN (MO 4 0 3)=bw at*
 generalize eY (MO 4 0 3)=G0 at*
 generalize Bd (MO 4 0 3)=Ws0 at*
 generalize aQn sc ⟨some ⟨u,0,none⟩,2,2⟩ n aQu=P at*
 dsimp only;rw[←hl];have hlen:∀{S:Sg_},aQm l P bw S.1 S.2→S.2.length=4:=fun{S} h=>by
  obtain⟨ro,hV,_⟩:=h;rw[←hV.wn,I]
 have w1:aF .i64 ((n:Int)+1)=(n:Int)+1:=dh ⟨af,af⟩;have w3:aF .i64 (10000*aF .i64 ((n:Int)+3))=10000*((n:Int)+3):=by
  rw[show aF .i64 ((n:Int)+3)=(n:Int)+3 from dh ⟨af,af⟩,dh ⟨af,af⟩]
 have w4:aF .i64 (aF .i64 (40000*(n:Int))+10000)=40000*(n:Int)+10000:=by
  rw[show aF .i64 (40000*(n:Int))=40000*(n:Int)from dh ⟨af,af⟩,dh ⟨af,af⟩]
 refine bP (fun(_:Unit) w'=> ∃aa S,aQm l P bw S.1 S.2∧qK w w' l aa S.1 S.2 []∧aoN l P n who S=true) (λJ M=> ?_) ?_
 ·exact aHL (S:=(G0,Ws0)) (f:=sev) (e:=λi=>aF .i64 (i*7)) Z.1 af (λj _=>dh ⟨af,af⟩) hF hT hI h λaa w' hI h=>M () w' ⟨aa,_,hI,h,hok⟩
 clear h hok hI;rintro _ w' ⟨aa,S,hI,h,hok⟩;unfold aoN at hok;split at hok
 ·cases hok
 rename_i v N;refine bP (fun(_:Unit) w'=> ∃aa,aQm l P bw v.1 v.2∧qK w w' l aa v.1 v.2 []) (λJ M=> ?_) ?_
 ·exact aBa (n:=400) (by rw[w3];omega) (by rw[w3];omega) hF hT (λS aa w J hI h hk=>aJO L hn.2 hI h (by rw[hlen hI];decide) hk) N hI h λaa w' hI h=>M () w' ⟨aa,hI,h⟩
 clear h hI N;rintro _ w' ⟨aa,hI,h⟩;split at hok
 ·cases hok
 rename_i r B;refine bP (fun(i:Int) w'=>i=n∧∃aa,aQm l P bw r.1 r.2∧qK w w' l aa r.1 r.2 []) (λJ M=> ?_) ?_
 ·rw[w4];refine DN (G:=Nat×Nat×Sg_×List Nat) (λq x w'=>x.1=(q.2.1:Int)∧(0≤x.2∧x.2+q.1≤40000*(n:Int)+10000)∧aQm l P bw q.2.2.1.1 q.2.2.1.2∧itD l P who n q.1 q.2.1 q.2.2.1=some r∧qK w w' l q.2.2.2 q.2.2.1.1 q.2.2.1.2 []) (λq=>q.1) (g:=(1000,0,v,aa)) ⟨rfl,⟨e7,by dsimp only;omega⟩,hI,B,h⟩ ?_
  clear h B hI;rintro⟨m,d,S,aa⟩ ⟨i1,i2⟩ w' ⟨hi,hx,hI,hr,h⟩ C hC;dsimp only at hi hx hI hr h ⊢;subst hi;cases m with
  |zero=>cases hr
  |succ m=>
   unfold itD at hr;by_cases hd:d<n;rotate_left
   ·rw[decide_eq_false hd]at hr;by_cases D:d=n;rotate_left
    ·rw[decide_eq_false D]at hr;cases hr
    rw[decide_eq_true D]at hr;have hr:=Option.some.inj hr;subst hr;refine aU (by simp;omega) ?_
    exact M _ _ ⟨by rw[D],aa,hI,h⟩
   rw[decide_eq_true hd]at hr;push_cast at hx;refine bK (by simp;omega) ?_
   refine aHK hI hF hT h λaa w' hI h=> ?_;generalize (pkF l P who S).1=S at*
   cases z:ok1 n S.1 with
   |false=>rw[z]at hr;cases hr
   |true=>
    rw[z]at hr;change (match sdF S.1 n with|none=>none|some d'=>itD l P who n m d' S)=some r at hr
    split at hr
    ·cases hr
    rename_i d' oI;refine ad4 hI h λF w' h=> ?_;have ho:=hI.ord;have O:=(pg (sz:=7) (s:=F) (es:=Yn S.1 (aaC S.1)) h).2 e7;have hts:=(aAO z ho).1;rw[adJ,hts]at O;refine aU (by rw[w1,←O];simp) ?_
    refine DN (G:=Nat) (λj x w''=>w''=w'∧x.2=(j:Int)+1∧j≤n∧∃e,sdF S.1 j=some e∧x.1=(e:Int)) (λj=>n - j) (g:=0) ⟨rfl,rfl,af,0,rfl,rfl⟩ ?_;rintro j ⟨e1,i⟩ w'' ⟨rfl,hi,hj,e,he,hee⟩ C2 Q;dsimp only at hi hee ⊢;subst hi hee;by_cases hlt:j<n;rotate_left
    ·refine aU (by simp;omega) ?_
     rw[show j=n by omega,oI]at he
     have he:=Option.some.inj he;rw[he]at hr;refine hC (m,e,S,aa) _ _ ⟨rfl,?_,hI,hr,h.rm 2 rfl⟩ (by dsimp only;omega)
     dsimp only;rw[dh ⟨af,af⟩];omega
    refine bK (by simp;omega) ?_
    obtain⟨f,H⟩:=aIt ⟨d',oI⟩ (j+1) af;obtain⟨f',R,hf2⟩:=axr H;rw[he]at R;obtain rfl:=Option.some.inj R;have hrow:=aCQ z ho (k:=j+1) af;rw[show((j+1:Nat):Int)=(j:Int)+1 by omega]at hrow
    refine rI (sz:=7) (s:=F) (es:=Yn S.1 (aaC S.1)) h af hrow (x:=S.1.K (j+1)) (by show some (Value.int .i64 (S.1.K ((j:Int)+1).toNat))=_;rw[show((j:Int)+1).toNat=j+1 by omega]) ?_
    rcases hf2 with⟨z1,z2,z3,z4⟩|⟨z1,z2⟩
    ·refine bK (by simpa using z1) ?_
     refine bP (λb w2=>w2=w''∧b=false) (λJ2 hJ2=> ?_) ?_
     ·refine aU (by rw[dh ⟨af,af⟩];simp;omega) ?_
      refine rI (sz:=7) (s:=F) (es:=Yn S.1 (aaC S.1)) h af hrow (x:=7) ?_ (hJ2 _ _ ⟨rfl,rfl⟩);show some (Value.int .i64 (if S.1.K ((j:Int)+1).toNat<2 then 0 else S.1.V ((j:Int)+1).toNat))=_
      rw[show((j:Int)+1).toNat=j+1 by omega,if_neg af,z3]
     rintro _ w2 ⟨rfl,rfl⟩;refine aU rfl ?_;refine Q (j+1) _ _ ⟨rfl,?_,af,f,H,?_⟩ af
     ·dsimp only;rw[dh ⟨af,af⟩];omega
     ·dsimp only;omega
    ·refine aU (by simpa using z1) ?_
     refine Q (j+1) _ _ ⟨rfl,?_,af,f,H,?_⟩ af
     ·dsimp only;rw[dh ⟨af,af⟩];omega
     ·dsimp only;omega
 clear h hI B;rintro _ w' ⟨rfl,aa,hI,h⟩;simp only[iY,decide_eq_true_eq]at hok;obtain⟨⟨⟨⟨f1,f2⟩,f3⟩,f4⟩,f5⟩:=hok;refine aEK L hI h λs66 es X w' hes hs h=> ?_;refine ad4 hI h λT w' h=> ?_;have ho:=hI.ord;have U:=(pg (sz:=7) (s:=T) (es:=Yn r.1 (aaC r.1)) h).2 e7;have hts:=(aAO f1 ho).1;rw[adJ,hts]at U;have hl4:=hlen hI;rw[hl4]at hs;refine bK (by rw[hs];simp) ?_
 obtain⟨W,hW⟩:∃W,r.2[0]?=some W:=⟨_,iH af⟩;obtain⟨p,c,p',m',c',he,hm⟩:=hes 0 W hW;have WL:dq0 r=m':=by
  rw[hm];unfold dq0;cases hS:r.2 with
  |nil=>rw[hS]at hW;cases hW
  |cons V l=>rw[hS]at hW;cases hW;rfl
 refine rS (sz:=4) (s:=s66) (es:=es) h e7 he (p:=p') (m:=m') (k:=c') rfl ?_;refine bK (by dsimp only;rw[←WL,f2,w1,←U];simp) ?_
 have hrow:=aCQ f1 ho (k:=0) af;refine rI (sz:=7) (s:=T) (es:=Yn r.1 (aaC r.1)) h e7 hrow (x:=r.1.K 0) rfl ?_;refine bK (by rw[f3];rfl) ?_
 have h:qK w w' l aa r.1 r.2 []:=((h.rm 2 rfl).rm 2 rfl).rm 2 rfl;obtain⟨ro,A,_⟩:=hI;refine amv A h λw' h=> ?_;refine amv A h λw' h=> ?_;refine amv A h λw' h=> ?_;refine amv A h λw' h=> ?_;refine bK (by rw[show aF .i64 (afM l r.1 1+afM l r.1 2)=afM l r.1 1+afM l r.1 2 from dh ⟨af,af⟩,dh ⟨af,af⟩,f4];simp) ?_
 exact awq (hT.ext h.ext) λw' hx=>hk w' (h.ext.trans hx)
end
end Go.Proofs.YthidhjhkmjjckaaGreatDoor
namespace Go.Ev
open Go Go.RowKit Go.ChangeShapes Go.WideShapes
def ahO{H:Type}{enc:TypeId×Value→H}{C:Checked}{os:Os}{K:FuncId}{fn:Func}{s:ChangeSpec}{tb:TypeId}{X:World→Array Value→Prop}
  (hX:∀(w w':World) (args:Array Value),w.heap=w'.heap→X w args→X w' args)
  (own:ownKnob C.prog.godebug=none) (started:os.Started) (noInit:C.prog.inits.idxOf? K=none) (hfn:C.prog.funcs[K]?=some fn)
  (witness:∃(w:World) (tape:Tape) (i:Input),w.os=os∧(w.forCall tape i).Shaped C.prog∧i.vars=[]∧Input.okWide C.prog (w.forCall tape i) .any w.heap.size K i∧
   ((s.pre enc C.prog fn [] false (w.forCall tape i).memory i.args∧X (w.forCall tape i).memory i.args)∧sizedMet enc C.prog fn (OpenSpec.ofChange s) false (w.forCall tape i).memory i.args)∧({}:Assume).holds C.prog (lone (Frame.enter C.prog K i.args .normal) [] (w.forCall tape i)))
  (hvars:s.vars=[]) (hl:laidOutB C.prog=true) (hrows:fn.params.toList.all (λt=>C.prog.readableRec t&&decide (t<C.prog.types.size))=true)
  (hres:fn.resultTypes=#[tb]) (htb:C.prog.underlying tb=some .bool)
  (hs:∀ds:List (DataW H),ds.length=fn.params.toList.length→s.fn H ds={results:=[.lit (.bool true)],args:=ds})
  (walk:∀(W:World) (args:Array Value),WO C.prog W fn.params.toList args.toList→X W args→
   Calls C.prog K args W λe W'=>e= .returned (.bool true)∧Below W.heap.size W W'):
  ReturnsInHanded {} C os K .any (λw args=>(s.pre enc C.prog fn [] false w args∧X w args)∧sizedMet enc C.prog fn (OpenSpec.ofChange s) false w args) (s.post enc C.prog fn false true false false):=by
 refine returnsInHanded_of_change_and hX own started noInit hfn witness ?_;intro W base args ds gs before hval hW _ hsz c _;have a:=hW;obtain⟨p,q,hA,hV,rfl,hfz,hnd⟩:=hW;rw[hvars]at hV;obtain⟨rfl,rfl⟩:=trodVars_none hV;have hlen:=UD hA;have d:s.plain.varTypes C.prog=[]:=by simp[DataSpec.varTypes,ChangeSpec.plain,hvars]
 rw[d,List.append_nil,List.append_nil]at hsz;have hargs:=aid (λj t v ht hv=>hval j t v (gq ht) (gq hv)) hA (λn hn=>gq (tL.1 hsz n hn))
 refine(walk W args hargs c).mono λe W' ⟨he,b⟩=> ?_;subst he;refine⟨_,rfl,ds,[],p++[],[],p,[],a,?_,?_,?_,b.frame _,λh=>by cases h⟩
 ·rw[List.append_nil,hs ds hlen,hres];exact trodAll_mk1 (shut_bool htb _)
 ·rw[List.append_nil,hs ds hlen];exact QL hl b hrows hA λx hx=>a.lt x (by simp[hx])
 ·rw[List.append_nil,hs ds hlen,hvars];exact rfl
end Go.Ev
