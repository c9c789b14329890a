/-
  Parts of the proof of LSteals: printed by a program out of longer texts.
-/
import Derived.Test.YthidhjhkmjjckaaGreatDoorPSteals3
set_option linter.unusedSimpArgs false
set_option linter.unusedVariables false
set_option maxRecDepth 100000
set_option linter.defProp false
open List renaming getElem?_eq_some_iff→kB,getElem?_eq_getElem→iH,getD_eq_getElem?_getD→m0,getElem?_append_left→tJ,getElem?_append_right→u0,getElem?_set_ne→r0,getElem?_set_self→uO,mem_of_getElem?→qn,getElem?_map→l8,eraseIdx→I7,insertIdx_succ_cons→aBT,insertIdx_zero→aBU,replicate→dU,mem_append→zw,length_append→uv,all_eq_true→tL
open Go.Sem renaming run_pure→cP,run_bind→cR
open Go.Result renaming andThen_ok→cK
open Bool renaming or_eq_false_iff→kf,and_eq_true→iY
open Option renaming isNone→eA
open Go.IntKind renaming wrap→aF
open Int renaming toNat_natCast→iZ
open Array renaming setIfInBounds→eS,getElem?_eq_some_iff→Bf
open Nat renaming le_refl→iw
open Go.Addr renaming add→aY
namespace Go.Ev
open Go Go.RowKit
variable{t:TypeId}
section
variable{P:Program}{w0 w:World}{L:List HP}{sz:Nat}{s:Sl}{vs:List Value}{f:HP→List HP}
def isStr(P:Program)(t:TypeId):Bool:=match P.underlying t with|some (.struct _)=>true|_=>false
def als(h:isStr P t=true):∃fs,P.underlying t=some (.struct fs):=by
 unfold isStr at h;split at h
 ·exact⟨_,by assumption⟩
 ·cases h
def alu{c:KT []→Prop}(h:c ()):Is [] (.tuple #[]) c:=h
def ax6{x:Array Value}{b:Bool}{c:KT [.ag,.b]→Prop}(h:c (x,b)):Is [.ag,.b] (.tuple #[.agg x,.bool b]) c:=h
def aBB{xt:TypeId}{v:Value}{c:Value→ap}(hu:isStr P t=true)(hc:c (.tuple #[v,.bool true]) w):tyA P (.iface t v) xt t true w c:=by
 unfold tyA;obtain⟨fs,hu⟩:=als hu;have hr:(Instr.typeAssert (.iface t v) xt t true).run P w= .ok (.tuple #[v,.bool true]) w:=by
  simp[Instr.typeAssert,run_underlying hu]
 rw[hr];exact hc
def auf{i:Int}{x:Array Value}{c:ap}(h:St w0 w L)[a:At L (bG sz s) vs f](hsz:0<sz)(h0:0≤i)(h1:i<s.n)(hx:x.size=sz)(hone:∀v∈x,v.oneCell'=true)
  (hc:∀w',St w0 w' (f (bG sz s (vs.take (i.toNat*sz)++(x.toList++vs.drop (i.toNat*sz+sz)))))→c w'):cN s i sz λa=>dQ sz w a x c:=by
 have ho:qo sz w s vs:=h.own;have hi:i.toNat<s.n:=af;have hlt:i.toNat*sz+sz≤s.n*sz:=by
  rw[←Nat.succ_mul];exact Nat.mul_le_mul_right _ hi
 have e:s.n*sz≤s.c*sz:=Nat.mul_le_mul_right _ ho.cap;have hvl:=ho.len;rcases ho.row with⟨h2,h3⟩|⟨g,off,cs,h2,h3,h4,h5⟩
 ·have:=ho.cap;omega
 ·unfold cN;rw[h2];refine⟨⟨h0,h1⟩,?_⟩;rw[dg];refine agh h3 hx af hone λw' cs' j k2 b k4 l o=>hc w' (h.M8 a λm hF=>⟨l.mono λk _ hk=>(hF.1 k).2 (by simp[Sl.au,h2,hk]),m,⟨hF.1,?_⟩,λk hk=> .inl hk⟩)
  have d:x.toList.length=sz:=gq hx
  refine⟨by simp only[uv,List.length_take,List.length_drop,d];omega,ho.cap,ho.max,λv hv=> ?_,.inr ⟨g,off,cs',h2,j,af,λk u hk=> ?_⟩⟩
  ·rcases zw.1 hv with hv|hv
   ·exact ho.one v (List.mem_of_mem_take hv)
   ·rcases zw.1 hv with hv|hv
    ·exact hone v (gq hv)
    ·exact ho.one v (List.mem_of_mem_drop hv)
  ·by_cases q1:k<i.toNat*sz
   ·rw[tJ (by simp;omega),List.getElem?_take_of_lt q1]at hk
    rw[b _ af];exact h5 k u hk
   ·rw[u0 (by simp;omega)]at hk
    simp only[List.length_take]at hk;rw[show k - min (i.toNat*sz) vs.length=k - i.toNat*sz by omega]at hk
    by_cases p:k<i.toNat*sz+sz
    ·rw[tJ af]at hk;have:=k4 (k - i.toNat*sz) af;rw[show off+i.toNat*sz+(k - i.toNat*sz)=off+k by omega]at this
     rw[this];simpa using hk
    ·rw[u0 af,List.getElem?_drop,d]at hk;rw[show i.toNat*sz+sz+(k - i.toNat*sz - sz)=k by omega]at hk
     rw[b _ af];exact h5 k u hk
def aug{i:Int}{c:Array Value→Prop}(h:St w0 w L)[a:At L (bG sz s) vs f](hsz:0<sz)(h0:0≤i)(h1:i<s.n)
  (hc:c ((vs.drop (i.toNat*sz)).take sz).toArray):cN s i sz λa=>bx sz w a c:=by
 refine KX h hsz h0 h1 λg o _ hr _=> ?_;have hlen:=h.Gs (sz:=sz) (s:=s);have hlt:i.toNat*sz+sz≤s.n*sz:=by
  rw[←Nat.succ_mul];exact Nat.mul_le_mul_right _ af
 have hl:((vs.drop (i.toNat*sz)).take sz).length=sz:=by simp;omega
 refine Ho hl (λj v hv=> ?_) hc;have hj:j<sz:=by have:=(kB.1 hv).1;omega
 rw[List.getElem?_take_of_lt hj,List.getElem?_drop]at hv;rw[dg];exact hr h j v hj hv
end
def aBC{P:Program}(h:S0 P t=some (1,8,some (.int .i64 0))):ET P t 1 8 (.int .i64 0):=⟨h,rfl⟩
def At.aEj{α:Type}{L:List HP}{k:α→HP}{x:α}{f:HP→List HP}(a:At L k x f):∃R,(∀{w0 w},St w0 w L→St w0 w (k x::R))∧(∀{X w0 w},St w0 w (X::R)→St w0 w (f X))∧∀{X Y w0 w},St w0 w (X::Y::R)→St w0 w (Y::f X):=by
 obtain⟨R,h1,h2⟩:=a.split;refine⟨R,fun⟨a,F,b,c⟩=>⟨a,F,h1 b,c⟩,fun⟨a,F,b,c⟩=>⟨a,F,h2 b,c⟩,λh=> ?_⟩;obtain⟨e,F,⟨d,g,i,k2,j,k4⟩,c⟩:=h.swap;exact⟨e,F,⟨d,g,i,h2 k2,j,k4⟩,c⟩
def ahe(P:Program)(t:TypeId)(name:String):Option (Bool×Option (FuncId×Bool)):=match P.info? t with
 |some i=>match i.methods.find? λm=>m.name==name with
  |some m=>some (m.path.isEmpty,m.func)
  |none=>none
 |none=>none
def ac1{P:Program}{name:String}{r:Option (FuncId×Bool)}(h:ahe P t name=some (true,r)):∃i m,P.info? t=some i∧(i.methods.find? λm=>m.name==name)=some m∧m.path=#[]∧m.func=r:=by
 unfold ahe at h;split at h
 ·rename_i i hi;split at h
  ·rename_i m hm;simp only[Option.some.injEq,Prod.mk.injEq]at h;exact⟨i,m,hi,hm,gq h.1,h.2⟩
  ·cases h
 ·cases h
end Go.Ev
namespace Go.Proofs.YthidhjhkmjjckaaGreatDoor.Ko
open Go Go.Ev Go.Proofs
def fl:DL→List Value
 |[]=>[]
 |x::d=> .int .i64 x.1:: .int .i64 x.2::fl d
def anF:∀d:DL,(fl d).length=d.length*2
 |[]=>rfl
 |x::d=>by simp[fl,anF d];omega
def anG:∀(d e:DL),fl (d++e)=fl d++fl e
 |[],e=>rfl
 |x::d,e=>by simp[fl,anG d e]
def ai6:∀(d:DL) (m:Nat),(fl d).take (m*2)=fl (d.take m)
 |[],m=>by simp[fl]
 |x::d,0=>by simp[fl]
 |x::d,m+1=>by
  rw[show(m+1)*2=m*2+1+1 by omega]
  simp[fl,ai6 d m]
def ac2{x:Int×Int}{d:DL}{k:Nat}:gd (x::d) (k+1)=gd d k:=by simp[gd]
def ai7:∀{d:DL} {i:Nat},i<d.length→(fl d)[i*2+0]?=some (.int .i64 (gd d i).1)
 |x::d,0,_=>rfl
 |x::d,i+1,h=>by
  rw[show(i+1)*2+0=(i*2+0)+1+1 by omega,ac2]
  simp only[fl,List.getElem?_cons_succ];exact ai7 (gq h)
def ai8:∀{d:DL} {i:Nat},i<d.length→(fl d)[i*2+1]?=some (.int .i64 (gd d i).2)
 |x::d,0,_=>rfl
 |x::d,i+1,h=>by
  rw[show(i+1)*2+1=(i*2+1)+1+1 by omega,ac2]
  simp only[fl,List.getElem?_cons_succ];exact ai8 (gq h)
def ai9:∀{d:DL} {i:Nat},i<d.length→((fl d).drop (i*2)).take 2=[.int .i64 (gd d i).1,.int .i64 (gd d i).2]
 |x::d,0,_=>rfl
 |x::d,i+1,h=>by
  rw[show(i+1)*2=i*2+1+1 by omega,ac2]
  simp only[fl,List.drop_succ_cons];exact ai9 (gq h)
def anH{x:Int×Int}:∀{d:DL} {i:Nat},i<d.length→(fl d).take (i*2)++([.int .i64 x.1,.int .i64 x.2] ++(fl d).drop (i*2+2))=fl (d.set i x)
 |y::d,0,_=>by simp[fl]
 |y::d,i+1,h=>by
  rw[show(i+1)*2=i*2+1+1 by omega,show i*2+1+1+2=(i*2+2)+1+1 by omega]
  simp only[fl,List.take_succ_cons,List.drop_succ_cons,List.cons_append,List.set_cons_succ];rw[←anH (gq h)]
  rfl
variable{i j:Int}
section
variable{w0 w:World}{L:List HP}{s:Sl}{d:DL}{f:HP→List HP}
def St.XZ(h:St w0 w L)[a:At L (bG 2 s) (fl d) f]:s.n=d.length:=by
 have:=h.Gs (sz:=2) (s:=s);rw[anF]at this;omega
def X0{c:Int→Prop}(h:St w0 w L)[a:At L (bG 2 s) (fl d) f](h0:0≤i)(h1:i<d.length)(hc:c (gd d i.toNat).1):cN s i 2 λa=>aJ .i64 w (aY a 0) c:=by
 have hn:=St.XZ (s:=s) h;refine KX h af h0 af λg o _ hr _=>uZ (hr h 0 _ af (ai7 af)) hc
def ahf{c:Int→Prop}(h:St w0 w L)[a:At L (bG 2 s) (fl d) f](h0:0≤i)(h1:i<d.length)(hc:c (gd d i.toNat).2):cN s i 2 λa=>aJ .i64 w (aY a 1) c:=by
 have hn:=St.XZ (s:=s) h;refine KX h af h0 af λg o _ hr _=> ?_;rw[dg];exact uZ (hr h 1 _ af (ai8 af)) hc
def abc{c:Array Value→Prop}(h:St w0 w L)[a:At L (bG 2 s) (fl d) f](h0:0≤i)(h1:i<d.length)(hc:c #[.int .i64 (gd d i.toNat).1,.int .i64 (gd d i.toNat).2]):cN s i 2 λa=>bx 2 w a c:=by
 have hn:=St.XZ (s:=s) h;refine aug h af h0 af ?_;rw[ai9 af];exact hc
def anI{x y:Int}{c:ap}(h:St w0 w L)[a:At L (bG 2 s) (fl d) f](h0:0≤i)(h1:i<d.length)(hc:∀w',St w0 w' (f (bG 2 s (fl (d.set i.toNat (x,y)))))→c w'):cN s i 2 λa=>dQ 2 w a #[.int .i64 x,.int .i64 y] c:=by
 have hn:=St.XZ (s:=s) h;refine auf h af h0 af rfl (by intro v hv;simp at hv;rcases hv with rfl|rfl<;>rfl) λw' h'=>hc w' ?_
 rw[←anH af];exact h'
def ax7{c:Bool→ap}(h:St w0 w L)[a:At L (bG 2 s) (fl d) f](hi:0≤i∧i<d.length)(hj:0≤j∧j<d.length)(hc:∀w',St w0 w' L→c (decide (rT (gd d i.toNat) (gd d j.toNat))) w'):dW s i j w c:=by
 unfold dW;refine cH h λw1 h=>X0 h hi.1 hi.2<|X0 h hj.1 hj.2<|ax (λhb=> ?_) λhb=> ?_
 ·have hb:=of_decide_eq_true hb;have e:rT (gd d i.toNat) (gd d j.toNat):= .inl hb;have:=hc w1 h;rwa[decide_eq_true e]at this
 ·have hb:=of_decide_eq_false hb;refine X0 h hi.1 hi.2<|X0 h hj.1 hj.2<|ax (λb=> ?_) λb=> ?_
  ·have b:(gd d i.toNat).1=(gd d j.toNat).1:=by simpa using b
   refine ahf h hi.1 hi.2<|ahf h hj.1 hj.2 ?_;have:=hc w1 h;have e:decide (rT (gd d i.toNat) (gd d j.toNat))=decide ((gd d i.toNat).2<(gd d j.toNat).2):=by
    rw[decide_eq_decide];unfold rT;omega
   rwa[e]at this
  ·have b:(gd d i.toNat).1≠(gd d j.toNat).1:=by simpa using b
   have:=hc w1 h;have e:¬rT (gd d i.toNat) (gd d j.toNat):=by unfold rT;omega
   rwa[decide_eq_false e]at this
end
variable{c:Value→ap}
section
variable{w0 w:World}{R:List HP}{s:Sl}{d:DL}
def ax8{B:HP}{c:Unit→ap}(h:St w0 w (B::bG 2 s (fl d)::R))(hi:0≤i∧i<d.length)(hj:0≤j∧j<d.length)(hc:∀w',St w0 w' (B::bG 2 s (fl (Lz d i.toNat j.toNat))::R)→c () w'):bF s i j w c:=by
 unfold bF;refine cH h λw1 h=>abc h hj.1 hj.2<|abc h hi.1 hi.2<|anI h hi.1 hi.2 λw2 h=>anI h hj.1 (gq hj.2) λw3 h=> ?_
 exact hc w3 h
abbrev pv(g:Nat):Value:= .iface 261 (.pointer (some ⟨g,1,none⟩))
abbrev uP(now:Int)(gm:Nat)(s:Sl):List Value:=[.int .i64 now,.slice s.a s.n s.c,.map (some gm)]
variable{g gm:Nat}{now:Int}{bY:ey}
def aja:Tryz.prog.types.size≠0:=λh=>by
 have e:Nat.beq Tryz.prog.types.size 0=false:=by kernel_rfl
 rw[h]at e;cases e
def ac3{name:String}{f:Nat}{args:Array Value}(hm:ahe Tryz.prog 261 name=some (true,some (f,false)))(h:St w0 w (au g (uP now gm s)::R))(hc:bY (.func f) (#[.slice s.a s.n s.c] ++args) w c):pR bY Tryz.prog (pv g) name args w c:=by
 obtain⟨i,m,h1,h2,h3,h4⟩:=ac1 hm;have hcell:w.cell? ⟨g,1,none⟩=some (.slice s.a s.n s.c):=by
  have hb:=h.au (g:=g);rw[hb.cell];rfl
 exact at7 (e:=209) (e2:=259) h1 h2 h3 h4 aZ aZ aZ aja hcell hc
def ajb{name:String}{f:Nat}{args:Array Value}(hm:ahe Tryz.prog 261 name=some (true,some (f,true)))(hc:bY (.func f) (#[.pointer (some ⟨g,1,none⟩)] ++args) w c):pR bY Tryz.prog (pv g) name args w c:=by
 obtain⟨i,m,h1,h2,h3,h4⟩:=ac1 hm;exact at6 (e:=209) h1 h2 h3 h4 aZ aja hc
def alv(ho:∀args w c,bY (.func lj) args w c=XF args.toList w c)(h:St w0 w (au g (uP now gm s)::bG 2 s (fl d)::R))(hi:0≤i∧i<d.length)(hj:0≤j∧j<d.length)
  (hc:∀w',St w0 w' (au g (uP now gm s)::bG 2 s (fl d)::R)→c (.bool (decide (rT (gd d i.toNat) (gd d j.toNat)))) w'):pR bY Tryz.prog (pv g) "Less" #[.int .i64 i,.int .i64 j] w c:=by
 refine ac3 (f:=lj) (by kernel_rfl) h ?_
 rw[ho,show(#[Value.slice s.a s.n s.c] ++ #[Value.int IntKind.i64 i,Value.int IntKind.i64 j]).toList=[.slice s.a s.n s.c,.int .i64 i,.int .i64 j] by simp]
 show dW s i j w (fun r w=>c (e9 (dL [.b] r)) w);exact ax7 h hi hj hc
def ahg(ho:∀args w c,bY (.func dH) args w c=XG args.toList w c)(h:St w0 w (au g (uP now gm s)::bG 2 s (fl d)::R))(hi:0≤i∧i<d.length)(hj:0≤j∧j<d.length)
  (hc:∀w',St w0 w' (au g (uP now gm s)::bG 2 s (fl (Lz d i.toNat j.toNat))::R)→c (.tuple #[]) w'):pR bY Tryz.prog (pv g) "Swap" #[.int .i64 i,.int .i64 j] w c:=by
 refine ac3 (f:=dH) (by kernel_rfl) h ?_
 rw[ho,show(#[Value.slice s.a s.n s.c] ++ #[Value.int IntKind.i64 i,Value.int IntKind.i64 j]).toList=[.slice s.a s.n s.c,.int .i64 i,.int .i64 j] by simp]
 show bF s i j w (fun r w=>c (e9 (dL [] r)) w);exact ax8 h hi hj hc
def auh(ho:∀args w c,bY (.func fP) args w c=Y2 args.toList w c)(h:St w0 w (au g (uP now gm s)::bG 2 s (fl d)::R))
  (hc:c (.int .i64 (d.length:Int)) w):pR bY Tryz.prog (pv g) "Len" #[] w c:=by
 refine ac3 (f:=fP) (by kernel_rfl) h ?_
 rw[ho];show c (.int .i64 (s.n:Int)) w;rw[St.XZ h];exact hc
end
end Go.Proofs.YthidhjhkmjjckaaGreatDoor.Ko
namespace Go.Ev
open Go Go.RowKit
def apu{w:World}{g sz:Nat}{l:List Value}{n:Nat}(hb:pN w g l.toArray)(hn:l.length=n*sz)(c:Nat):Hj sz w ⟨some ⟨g,0,none⟩,n,c⟩ l:=
 ⟨hn,λi v hv=>⟨_,rfl,by rw[dg,hb.cell];simpa using hv⟩⟩
end Go.Ev
namespace Go.Proofs.YthidhjhkmjjckaaGreatDoor.Ko
open Go Go.Ev Go.Proofs
structure Rl (d d':DL) (n:Nat):Prop where
 perm:d'.Perm d
 same:∀k,n≤k→gd d' k=gd d k
def Rl.refl(d:DL)(n:Nat):Rl d d n:=⟨.refl _,λ_ _=>rfl⟩
def Rl.trans{a b c:DL}{n:Nat}(h:Rl a b n)(k:Rl b c n):Rl a c n:=⟨k.perm.trans h.perm,λi hi=>(k.same i hi).trans (h.same i hi)⟩
variable{n:Nat}
def Rl.len{a b:DL}(h:Rl a b n):b.length=a.length:=h.perm.length_eq
def Rl.Lz{d:DL}{n i j:Nat}(hi:i<n)(hj:j<n)(hn:n≤d.length):Rl d (Lz d i j) n:=
 ⟨Zm af af,λk hk=>by rw[S7 af af,if_neg af,if_neg af]⟩
def ax9{j:Nat}(h:j≤2000000):Wf .i64 (aF .i64 ((j:Int) - 1)) 2=((rz j:Nat):Int):=by
 unfold Wf rz;rw[dh (x:=(j:Int) - 1) ⟨af,af⟩];by_cases h0:j=0
 ·subst h0;rfl
 ·have e:(((j:Int) - 1).tdiv 2)=(((j - 1) / 2:Nat):Int):=by
   rw[show(j:Int) - 1=((j - 1:Nat):Int) by omega];rfl
  rw[e,dh ⟨af,af⟩]
def V1{k i:Nat}(h1:1≤k)(h:rz k=i):k=2*i+1∨k=2*i+2:=by unfold rz at h;omega
def aya(i:Nat):rz (2*i+1)=i:=by unfold rz;omega
def ayb(i:Nat):rz (2*i+2)=i:=by unfold rz;omega
variable{c:Value→ap}{x:Int×Int}{d:DL}
section
variable{w0 w:World}{R:List HP}{s:Sl}{g gm:Nat}{now:Int}
def aAe{j:Nat}{c:Unit→ap}(h:St w0 w (au g (uP now gm s)::bG 2 s (fl d)::R))(hu:HU d n j)(hn:n≤d.length)(hj:j<n)(hl:d.length≤2000000)
  (hc:∀d' w',Rl d d' n→HH d' n→St w0 w' (au g (uP now gm s)::bG 2 s (fl d')::R)→c () w'):cC (pv g) (j:Int) w c:=by
 unfold cC Av;refine ot (fun(i:Int) w'=> ∃(jn:Nat) (d':DL),i=(jn:Int)∧jn<n∧Rl d d' n∧HU d' n jn∧St w0 w' (au g (uP now gm s)::bG 2 s (fl d')::R)) (λi _=>i.toNat) ⟨j,d,rfl,hj,.refl _ _,hu,h⟩ ?_;rintro _ w1 ⟨i,d1,rfl,hi,hr,e,h1⟩ C hC;have hlen:=hr.len;rw[ax9 af];refine bP (λb w'=>b=decide (i=0∨¬rT (gd d1 i) (gd d1 (rz i)))∧St w0 w' (au g (uP now gm s)::bG 2 s (fl d1)::R)) (λJ f=> ?_) ?_
 ·refine ax (λhb=> ?_) λhb=> ?_
  ·have hb:((rz i:Nat):Int)=i:=by simpa using hb
   refine f _ _ ⟨(decide_eq_true (.inl ?_)).symm,h1⟩;unfold rz at hb;omega
  ·have hb:((rz i:Nat):Int)≠i:=by simpa using hb
   have a:1≤i:=by unfold rz at hb;omega
   have hp:=uk a;refine alv (λ_ _ _=>rfl) h1 ⟨af,af⟩ ⟨af,af⟩ λw2 h2=> ?_;simp only[iZ];refine f _ _ ⟨?_,h2⟩;rw[Bool.eq_iff_iff];simp only[Bool.not_eq_true',decide_eq_false_iff_not,decide_eq_true_eq];constructor
   ·exact .inr
   ·rintro(q|q)
    ·omega
    ·exact q
 ·rintro _ w2 ⟨rfl,h2⟩;refine ax (λhb=> ?_) λhb=> ?_
  ·exact hc d1 w2 hr (anC e (of_decide_eq_true hb)) h2
  ·have hb:=of_decide_eq_false hb;have a:1≤i:=by
    rcases Nat.eq_zero_or_pos i with q|q
    ·exact(hb (.inl q)).elim
    ·exact q
   have hlt:rT (gd d1 i) (gd d1 (rz i)):=Decidable.not_not.1 λq=>hb (.inr q);have hp:=uk a;refine ahg (λ_ _ _=>rfl) h2 ⟨af,af⟩ ⟨af,af⟩ λw3 h3=> ?_;simp only[iZ]at h3;exact hC _ _ ⟨rz i,_,rfl,af,hr.trans (.Lz af af af),aub e af a af hlt,h3⟩ (gq hp)
def anJ{i0:Nat}{c:Bool→ap}(h:St w0 w (au g (uP now gm s)::bG 2 s (fl d)::R))(hu:HD d n i0 i0)(hn:n≤d.length)(hj:i0≤n)(hl:d.length≤2000000)
  (hc:∀b d' w',Rl d d' n→(b=true→HH d' n)→(b=false→HU d' n i0)→St w0 w' (au g (uP now gm s)::bG 2 s (fl d')::R)→c b w'):bU (pv g) (i0:Int) (n:Int) w c:=by
 unfold bU wT;refine ot (fun(i:Int) w'=> ∃(jn:Nat) (d':DL),i=(jn:Int)∧jn≤n∧i0≤jn∧Rl d d' n∧HD d' n i0 jn∧St w0 w' (au g (uP now gm s)::bG 2 s (fl d')::R)) (λi _=>n - i.toNat) ⟨i0,d,rfl,hj,iw _,.refl _ _,hu,h⟩ ?_;rintro _ w1 ⟨i,d1,rfl,hi,y,hr,hD,h1⟩ C hC;have hlen:=hr.len;have e1:aF .i64 (aF .i64 (2*(i:Int))+1)=((2*i+1:Nat):Int):=by
  rw[dh (x:=2*(i:Int)) ⟨af,af⟩,dh ⟨af,af⟩];omega
 have e2:aF .i64 (((2*i+1:Nat):Int)+1)=((2*i+2:Nat):Int):=by
  rw[dh ⟨af,af⟩];omega
 rw[e1,e2];have fin:∀w2 (d2:DL),d2=d1→(∀k,1≤k→k<n→rz k=i→¬rT (gd d1 k) (gd d1 i))→St w0 w2 (au g (uP now gm s)::bG 2 s (fl d1)::R)→c (decide ((i:Int)>(i0:Int))) w2:=by
  intro w2 _ _ hk h2;have hE:=ax5 hD hk;refine hc _ d1 w2 hr (λhb=>hE.1 ?_) (λhb=>hE.2 ?_) h2
  ·have:=of_decide_eq_true hb;omega
  ·have:=of_decide_eq_false hb;omega
 refine ax (λhb=> ?_) λhb=> ?_
 ·have hb:((2*i+1:Nat):Int)≥n:=by
   rcases Bool.or_eq_true_iff.1 hb with q|q
   ·exact of_decide_eq_true q
   ·have:=of_decide_eq_true q;omega
  refine fin w1 d1 rfl (λk e l f=> ?_) h1;rcases V1 e f with q|q<;>omega
 ·have hb:2*i+1<n:=by
   have:=of_decide_eq_false (kf.1 hb).1;omega
  refine bP (λb w'=>b=decide (2*i+2<n∧rT (gd d1 (2*i+2)) (gd d1 (2*i+1)))∧St w0 w' (au g (uP now gm s)::bG 2 s (fl d1)::R)) (λJ m=> ?_) ?_
  ·refine ax (λo=> ?_) λo=> ?_
   ·have o:=of_decide_eq_true o;refine alv (λ_ _ _=>rfl) h1 ⟨af,af⟩ ⟨af,af⟩ λw2 h2=> ?_;simp only[iZ];refine m _ _ ⟨?_,h2⟩;rw[decide_eq_decide];exact⟨λq=>⟨af,q⟩,λq=>q.2⟩
   ·have o:=of_decide_eq_false o;refine m _ _ ⟨(decide_eq_false λq=> ?_).symm,h1⟩;omega
  ·rintro b w2 ⟨p,h2⟩;refine bP (fun(x:Int) w'=>w'=w2∧∃jn:Nat,x=(jn:Int)∧jn<n∧1≤jn∧rz jn=i∧∀k,1≤k→k<n→rz k=i→¬rT (gd d1 k) (gd d1 jn)) (λJ m=> ?_) ?_
   ·refine ax (λa=> ?_) λa=> ?_
    ·rw[p]at a;have a:=of_decide_eq_true a;refine m _ _ ⟨rfl,2*i+2,rfl,a.1,af,ayb i,λk e l f=> ?_⟩;rcases V1 e f with rfl|rfl
     ·exact V0 a.2
     ·exact acZ _
    ·rw[p]at a;have a:=of_decide_eq_false a;refine m _ _ ⟨rfl,2*i+1,rfl,hb,af,aya i,λk e l f=> ?_⟩;rcases V1 e f with rfl|rfl
     ·exact acZ _
     ·exact λq=>a ⟨l,q⟩
   ·rintro _ _ ⟨rfl,jn,rfl,u,r,t,hmin⟩;refine alv (λ_ _ _=>rfl) h2 ⟨af,af⟩ ⟨af,af⟩ λw3 h3=> ?_;simp only[iZ];show an (!decide (rT (gd d1 jn) (gd d1 i))) _ _;refine ax (λj=> ?_) λj=> ?_
    ·have j:¬rT (gd d1 jn) (gd d1 i):=by simpa using j
     exact fin w3 d1 rfl (λk e l f=>Ox (hmin k e l f) j) h3
    ·have j:rT (gd d1 jn) (gd d1 i):=by simpa using j
     have v:=uk r;rw[t]at v;refine ahg (λ_ _ _=>rfl) h3 ⟨af,af⟩ ⟨af,af⟩ λz h4=> ?_;simp only[iZ]at h4;exact hC _ _ ⟨jn,_,rfl,af,af,hr.trans (.Lz af af af),auc hD af y r u t hmin j,h4⟩ (by simp only[iZ];omega)
def elD:ET Tryz.prog 209 2 16 (.agg #[.int .i64 0,.int .i64 0]):=⟨aZ,rfl⟩
def aui{L:List HP}{f:HP→List HP}{c:Sl→ap}(h:St w0 w L)[a:At L (bG 2 s) (fl d) f](hn:d.length≤2000000){gx:Nat}{cs:List Value}{f2:HP→List HP}[a2:At L (au gx) cs f2](hcs:cs=[.int .i64 x.1,.int .i64 x.2])(hc:∀s' w',St w0 w' (f (bG 2 s' (fl (d++[x]))))→c s' w'):
  og Tryz.prog #[209,209] 209 [(.slice s.a s.n s.c),(.slice (some ⟨gx,0,none⟩) 1 1)] w c:=by
 have hl:=St.XZ (s:=s) h;subst hcs;refine M9 (x:=⟨some ⟨gx,0,none⟩,1,1⟩) h elD aZ (apu (h.au) rfl 1) (by simp[Value.oneCell']) (by simp only;omega) (by simp only;omega) λs2 w3 h n2=> ?_
 refine hc s2 w3 ?_;rw[anG];exact h
def auj{c:Unit→ap}(h:St w0 w (au g (uP now gm s)::bG 2 s (fl d)::R))(hn:d.length≤2000000)
  (hc:∀s' w',St w0 w' (au g (uP now gm s')::bG 2 s' (fl (d++[x]))::R)→c () w'):j8 (some ⟨g,1,none⟩) (.iface 259 (.agg #[.int .i64 x.1,.int .i64 x.2])) w c:=by
 unfold j8;refine aBB aZ (ax6 ?_);refine aM h λga w2 h=>m7 h rfl rfl (by intro v hv;simp at hv;rcases hv with rfl|rfl<;>rfl) λw3 h=> ?_
 refine bK rfl<|cH h λe h=>bc<|ea h rfl<|je h rfl<|qL #[.int .i64 x.1,.int .i64 x.2] rfl rfl<|aM h λb f h=>BV (St.au (by assumption)) (h.au) ?_
 refine aui h hn rfl λs' i h=>bc<|j4 h rfl bf λa h=>hc s' a ?_;have h:St w0 a (au b _::au ga _::au g (uP now gm s')::bG 2 s' (fl (d++[x]))::R):=h;exact h.drop.drop
def auk(hn:n+1=d.length):d=d.take n++[gd d n]:=by
 have hlt:n<d.length:=af;have e:gd d n=d[n]:=by unfold gd;rw[m0,iH hlt];rfl
 rw[e,List.take_append_getElem hlt,List.take_of_length_le af]
def ayd(h:St w0 w (au g (uP now gm s)::bG 2 s (fl d)::R))(hl:d.length≤2000000)(hn:n+1=d.length)
  (hc:∀v s' w',St w0 w' (au g (uP now gm s')::bG 2 s' (fl (d.take n))::R)→c v w'):dJ (some ⟨g,1,none⟩) w c:=by
 have b:=St.XZ (s:=s) h;have e1:aF .i64 (((s.n:Nat):Int) - 1)=((n:Nat):Int):=by
  rw[dh ⟨af,af⟩];omega
 unfold dJ;refine bc (ea h rfl ?_);refine bc (ea h rfl ?_);dsimp only;rw[e1];refine abc h af af<|aM h λga w2 h=>m7 h rfl rfl (by intro v hv;simp at hv;rcases hv with rfl|rfl<;>rfl) λw3 h=> ?_
 refine bc (ea h rfl ?_);refine akJ (s:=s) h af af af λs' n' h=>bc<|j4 h rfl bf λa h=>je h rfl<|hc _ s' a ?_;have e2:((fl d).drop ((0:Int).toNat*2)).take ((((n:Nat):Int).toNat - (0:Int).toNat)*2)=fl (d.take n):=by
  simp only[iZ,Int.toNat_zero,Nat.zero_mul,List.drop_zero,Nat.sub_zero];exact ai6 d n
 rw[e2]at h;exact h.drop
def aBD{bY:ey}(ho:∀args w c,bY (.func rK) args w c=XH args.toList w c)(h:St w0 w (au g (uP now gm s)::bG 2 s (fl d)::R))(hn:d.length≤2000000)
  (hc:∀s' w',St w0 w' (au g (uP now gm s')::bG 2 s' (fl (d++[x]))::R)→c (.tuple #[]) w'):pR bY Tryz.prog (pv g) "Push" #[.iface 259 (.agg #[.int .i64 x.1,.int .i64 x.2])] w c:=by
 refine ajb (f:=rK) (by kernel_rfl) ?_
 rw[ho,show(#[Value.pointer (some ⟨g,1,none⟩)] ++ #[Value.iface 259 (.agg #[.int .i64 x.1,.int .i64 x.2])]).toList=[.pointer (some ⟨g,1,none⟩),.iface 259 (.agg #[.int .i64 x.1,.int .i64 x.2])] by simp]
 show j8 (some ⟨g,1,none⟩) (.iface 259 (.agg #[.int .i64 x.1,.int .i64 x.2])) w (fun r w=>c (e9 (dL [] r)) w);exact auj h hn hc
def aul{bY:ey}(ho:∀args w c,bY (.func iI) args w c=Mj args.toList w c)(h:St w0 w (au g (uP now gm s)::bG 2 s (fl d)::R))(hl:d.length≤2000000)(hn:n+1=d.length)
  (hc:∀v s' w',St w0 w' (au g (uP now gm s')::bG 2 s' (fl (d.take n))::R)→c v w'):pR bY Tryz.prog (pv g) "Pop" #[] w c:=by
 refine ajb (f:=iI) (by kernel_rfl) ?_
 rw[ho,show(#[Value.pointer (some ⟨g,1,none⟩)] ++(#[]:Array Value)).toList=[Value.pointer (some ⟨g,1,none⟩)] by simp]
 show dJ (some ⟨g,1,none⟩) w (fun r w=>c (e9 (dL [.raw] r)) w);exact ayd h hl hn fun v s' w' h=>hc v s' w' h
def aum{c:Unit→ap}(h:St w0 w (au g (uP now gm s)::bG 2 s (fl d)::R))(hn:d.length≤1000000)(hh:HH d d.length)
  (hc:∀d' s' w',d'.Perm (d++[x])→HH d' d'.length→St w0 w' (au g (uP now gm s')::bG 2 s' (fl d')::R)→c () w'):jx (pv g) (.iface 259 (.agg #[.int .i64 x.1,.int .i64 x.2])) w c:=by
 unfold jx wS;refine aBD (λ_ _ _=>rfl) h af λs1 w1 h=>auh (λ_ _ _=>rfl) h ?_;have el:(d++[x]).length=d.length+1:=by simp
 have e1:aF .i64 (((d++[x]).length:Int) - 1)=((d.length:Nat):Int):=by
  rw[dh ⟨af,af⟩];omega
 show cC _ (aF .i64 (((d++[x]).length:Int) - 1)) w1 (λu w=>c () w);rw[e1];refine aAe h (aue hh) af af af λd' w' hr a h=>hc d' s1 w' hr.perm (by rw[hr.len,el];exact a) h
def Rl.head{d':DL}(h:Rl d d' n)(hn:n+1=d.length):(gd d n::d'.take n).Perm d:=by
 have hl:=h.len;have e:=auk (d:=d') (n:=n) af;have:=h.perm;rw[e,h.same n (iw _)]at this;refine .trans ?_ this;exact(List.perm_append_comm (l₁:=[gd d n]))
def aye(h:St w0 w (au g (uP now gm s)::bG 2 s (fl d)::R))(hl:d.length≤1000000)(h0:1≤d.length)(hh:HH d d.length)
  (hc:∀v d' s' w',(gd d 0::d').Perm d→HH d' d'.length→St w0 w' (au g (uP now gm s')::bG 2 s' (fl d')::R)→c v w'):j0 (pv g) w c:=by
 obtain⟨n,hn⟩:∃n,n+1=d.length:=⟨d.length - 1,af⟩;unfold j0 yX;refine auh (λ_ _ _=>rfl) h ?_;have e1:aF .i64 ((d.length:Int) - 1)=((n:Nat):Int):=by
  rw[dh ⟨af,af⟩];omega
 refine I0 ?_;rw[e1];refine ahg (λ_ _ _=>rfl) h ⟨af,af⟩ ⟨af,af⟩ λw1 h=> ?_;simp only[iZ,Int.toNat_zero]at h;have i:=ai2 d 0 n;have hD:HD (Lz d 0 n) n 0 0:=by
  rcases Nat.eq_zero_or_pos n with q|q
  ·subst q;exact⟨λk a e=>by omega,λk a e=>by omega⟩
  ·exact anE hh hn q
 refine alu<|anJ (i0:=0) h hD af af af λb d' w2 hr ht hf h=> ?_;have f:HH d' n:=by
  cases b
  ·exact anC (hf rfl) (.inl rfl)
  ·exact ht rfl
 have hlen:=hr.len;refine aul (λ_ _ _=>rfl) h af af λv s' w3 h=>hc v _ s' w3 ?_ (ac0 f af) h;have:=hr.head af;rw[S7 af af,if_pos rfl]at this;exact this.trans (Zm af af)
def ayf{i:Nat}(h:St w0 w (au g (uP now gm s)::bG 2 s (fl d)::R))(hl:d.length≤1000000)(h0:i<d.length)(hh:HH d d.length)
  (hc:∀v d' s' w',(gd d i::d').Perm d→HH d' d'.length→St w0 w' (au g (uP now gm s')::bG 2 s' (fl d')::R)→c v w'):iy (pv g) (i:Int) w c:=by
 obtain⟨n,hn⟩:∃n,n+1=d.length:=⟨d.length - 1,by omega⟩
 unfold iy uG;refine auh (fun _ _ _=>rfl) h ?_;have e1:IntKind.wrap .i64 ((d.length:Int) - 1)=((n:Nat):Int):=by
  rw[dh ⟨by omega,by omega⟩];omega
 refine I0 ?_;rw[e1];refine ax (fun hb=> ?_) fun hb=> ?_
 ·have hb:(n:Int)≠i:=by simpa using hb
  have Y8:=ai2 d i n;refine ahg (fun _ _ _=>rfl) h ⟨by omega,by omega⟩ ⟨by omega,by omega⟩ fun w1 h=> ?_
  simp only[Int.toNat_natCast]at h;have fin:∀{d' w2} {c:Value→ap} {bY:ey},(∀args w c,bY (.func iI) args w c=Mj args.toList w c)→(∀v d' s' w',(gd d i::d').Perm d→HH d' d'.length→St w0 w' (au g (uP now gm s')::bG 2 s' (fl d')::R)→c v w')→Rl (Lz d i n) d' n→HH d' n→St w0 w2 (au g (uP now gm s)::bG 2 s (fl d')::R)→pR bY Tryz.prog (pv g) "Pop" #[] w2 c:=by
   intro d' w2 c bY ho hc hr hH h;have hlen:=hr.len;refine aul (n:=n) ho h (by omega) (by omega) fun v s' w3 h=> ?_
   refine hc v _ s' w3 ?_ (ac0 hH (by omega)) h
   have:=hr.head (by omega)
   rw[S7 (by omega) (by omega),if_pos rfl]at this
   exact this.trans (Zm (by omega) (by omega))
  refine alu<|anJ h (anE hh hn (by omega)) (by omega) (by omega) (by omega) fun b d' w2 hr ht hf h=> ?_
  have hlen:=hr.len;cases b
  ·refine bK rfl<|aAe h (hf rfl) (by omega) (by omega) (by omega) fun d2 w3 hr2 hh2 h=> ?_
   exact fin (fun _ _ _=>rfl) hc (hr.trans hr2) hh2 h
  ·refine aU rfl<|fin (fun _ _ _=>rfl) hc hr (ht rfl) h
 ·have hb:(n:Int)=i:=by simpa using hb
  have:n=i:=by omega
  subst this;refine aul (fun _ _ _=>rfl) h (by omega) hn fun v s' w3 h=> ?_
  refine hc v _ s' w3 ((Rl.refl d n).head hn) (ac0 (fun k k1 kn=>hh k k1 (by omega)) (by omega)) h
def aBE{c:Int→ap}(h:St w0 w (au g (uP now gm s)::bG 2 s (fl d)::R))(hl:d.length≤1000000)(hx:x∈d)
  (hc:∀(i:Nat) w',i<d.length→gd d i=x→St w0 w' (au g (uP now gm s)::bG 2 s (fl d)::R)→c (i:Int) w'):cE s #[.int .i64 x.1,.int .i64 x.2] w c:=by
 have f:=St.XZ (s:=s) h;obtain⟨m,hm,b⟩:=List.getElem_of_mem hx;have a:gd d m=x:=by unfold gd;rw[m0,iH hm];exact b
 unfold cE;refine aM h λga w1 h=>ot (fun(i:Int) w'=> ∃j:Nat,i=(j:Int)∧j≤m∧St w0 w' (au ga [.int .i64 x.1,.int .i64 x.2]::au g (uP now gm s)::bG 2 s (fl d)::R)) (λi _=>m - i.toNat) ⟨0,rfl,af,h⟩ ?_;rintro _ w2 ⟨j,rfl,hj,h⟩ C hC;refine bK (decide_eq_true af)<|cH h λw3 h=>je h rfl<|abc h af af<|akD (xs:=[x.1,x.2]) (ys:=[(gd d (j:Int).toNat).1,(gd d (j:Int).toNat).2]) rfl rfl<|ax (λhb=> ?_) λhb=> ?_
 ·have hb:=of_decide_eq_true hb;simp only[iZ,List.cons.injEq,and_true]at hb;exact hc j w3 af (by rw[Prod.ext_iff];exact⟨hb.1.symm,hb.2.symm⟩) h.drop
 ·have hb:=of_decide_eq_false hb;simp only[iZ,List.cons.injEq,and_true]at hb;have hne:j≠m:=by rintro rfl;exact hb (by rw[a];exact⟨rfl,rfl⟩)
  have e:aF .i64 ((j:Int)+1)=((j+1:Nat):Int):=by
   rw[dh ⟨af,af⟩];omega
  rw[e];exact hC _ _ ⟨j+1,rfl,af,h⟩ (by simp only[iZ];omega)
end
abbrev MT:Int:=1099511627776
def sw(x:Int×Int):Int×Int:=(x.2,x.1)
def has(S:DL)(id:Int):Bool:=S.any λx=>x.2==id
variable{S:DL}{id:Int}
def X1:has S id=true↔∃x∈S,x.2=id:=by unfold has;rw[List.any_eq_true];simp
structure CK (x:Int×DL):Prop where
 lo:0≤x.1
 hi:x.1≤MT
 ids:∀y∈x.2,0≤y.2
 due:∀y∈x.2,x.1<y.1∧y.1≤MT+MT
 srt:Srt x.2
 one:(x.2.map (·.2)).Nodup
def Dt(x:Int×DL)(id n:Int):Int×DL:=
 if id<0∨n<1∨n>MT then(10,x.2)else if has x.2 id=true then(18,x.2)else(0,ins (x.1+n,id) x.2)
def EK(S:DL)(id:Int):DL:=S.filter λy=>decide (y.2≠id)
def ac4(S:DL)(t:Int):DL:=S.filter λy=>decide (y.1≤t)
def Oy(S:DL)(t:Int):DL:=S.filter λy=>decide (¬y.1≤t)
def Sn(now n:Int):Bool:=decide (0≤n∧n≤MT - now)
def ids(S:DL):List Int:=S.map (·.2)
def ac5{y:Int×Int}:y∈ins x S↔y=x∨y∈S:=by
 rw[(IN x S).mem_iff,List.mem_cons]
def afi(h:¬has S id=true):∀y∈S,y.2≠id:=λy hy q=>h (X1.2 ⟨y,hy,q⟩)
def CK.set{x:Int×DL}(h:CK x)(id n:Int):CK (x.1,(Dt x id n).2):=by
 unfold Dt;split
 ·exact h
 ·rename_i h1;split
  ·exact h
  ·rename_i h2;have h3:=afi h2;have hlo:=h.lo;have hhi:=h.hi;refine⟨h.lo,h.hi,λy hy=> ?_,λy hy=> ?_,ai5 h.srt λq=>h3 _ q rfl,?_⟩
   ·rcases ac5.1 hy with rfl|hy
    ·dsimp only;omega
    ·exact h.ids y hy
   ·rcases ac5.1 hy with rfl|hy
    ·unfold MT at*;dsimp only at*;omega
    ·exact h.due y hy
   ·refine(((IN (x.1+n,id) x.2).map (·.2)).nodup_iff).2 ?_;rw[List.map_cons,List.nodup_cons];refine⟨λq=> ?_,h.one⟩;obtain⟨y,hy,e⟩:=List.mem_map.1 q;exact h3 y hy e
def UU(h:(S.map (·.2)).Nodup)(p:Int×Int→Bool):((S.filter p).map (·.2)).Nodup:=
 h.sublist (List.filter_sublist.map _)
def CK.drop{x:Int×DL}(h:CK x)(id:Int):CK (x.1,EK x.2 id):=by
 unfold EK;exact⟨h.lo,h.hi,λy hy=>h.ids y (List.mem_filter.1 hy).1,λy hy=>h.due y (List.mem_filter.1 hy).1,aal h.srt _,UU h.one _⟩
def CK.adv{x:Int×DL}(h:CK x){n:Int}(hn:Sn x.1 n=true):CK (x.1+n,Oy x.2 (x.1+n)):=by
 have hn:=of_decide_eq_true hn;have h1:=h.lo;have h2:=h.hi;unfold Oy;refine⟨by dsimp only;omega,by dsimp only;omega,λy hy=>h.ids y (List.mem_filter.1 hy).1,λy hy=> ?_,aal h.srt _,UU h.one _⟩
 have:=h.due y (List.mem_filter.1 hy).1;have h3:=(List.mem_filter.1 hy).2;simp only[decide_eq_true_eq]at h3;dsimp only;omega
def ni(g:Nat)(x:Int×DL):HP:=Gt λq:{q:Sl×Nat×DL×List (Int×Int) // q.2.2.1.Perm x.2∧HH q.2.2.1 q.2.2.1.length∧q.2.2.2.Perm (x.2.map sw)}=>
 l9 [au g (uP x.1 q.1.2.1 q.1.1),bG 2 q.1.1 (fl q.1.2.2.1),mp q.1.2.1 q.1.2.2.2]
variable{l:List (Int×Int)}
section
variable{w0 w:World}{L:List HP}{g:Nat}{now:Int}{f:HP→List HP}
def ME(h:St w0 w (ni g (now,S)::L)):∃(s:Sl) (gm:Nat) (d:DL) (l:List (Int×Int)),d.Perm S∧HH d d.length∧l.Perm (S.map sw)∧St w0 w (au g (uP now gm s)::bG 2 s (fl d)::mp gm l::L):=by
 obtain⟨⟨⟨s,gm,d,l⟩,h1,h2,h3⟩,h⟩:=h.some;exact⟨s,gm,d,l,h1,h2,h3,h.open⟩
def Du{s:Sl}{gm:Nat}(h1:d.Perm S)(h2:HH d d.length)(h3:l.Perm (S.map sw))(h:St w0 w (au g (uP now gm s)::bG 2 s (fl d)::mp gm l::L)):St w0 w (ni g (now,S)::L):=
 St.ex ⟨(s,gm,d,l),h1,h2,h3⟩ (St.shut h)
def alw{k v:Int}(h:Im l k=some v):(k,v)∈l:=by
 unfold Im at h;cases hf:l.find? λx=>x.1==k with
 |none=>rw[hf]at h;cases h
 |some y=>
  rw[hf]at h;simp only[Option.map_some,Option.some.injEq]at h;have h1:=List.mem_of_find?_eq_some hf;have h2:=List.find?_some hf;simp only[beq_iff_eq]at h2;rw[←h,←h2];exact h1
def MF{k:Int}(hl:l.Perm (S.map sw)):(Im l k).isSome=has S k:=by
 rw[Bool.eq_iff_iff,X1];unfold Im;rw[Option.isSome_map,List.find?_isSome];constructor
 ·rintro⟨x,hx,e⟩;obtain⟨y,hy,rfl⟩:=List.mem_map.1 (hl.subset hx);exact⟨y,hy,by simpa[sw]using e⟩
 ·rintro⟨y,hy,e⟩;exact⟨sw y,hl.symm.subset (List.mem_map.2 ⟨y,hy,rfl⟩),by simpa[sw]using e⟩
def aam(hl:l.Perm (S.map sw))(hS:(S.map (·.2)).Nodup):(l.map (·.1)).Nodup:=by
 refine((hl.map (·.1)).nodup_iff).2 ?_;rw[List.map_map];exact hS
def mpT:MpT Tryz.prog 207 3 2:=⟨aZ,aZ,aZ⟩
def anK{n:Int}{b:Bool}{c:KT [.i .i64,.b]→Prop}(h:c (n,b)):Is [.i .i64,.b] (.tuple #[.int .i64 n,.bool b]) c:=h
def ahh{c:Option Addr→ap}(h:St w0 w L)(hc:∀g w',St w0 w' (ni g (0,[])::L)→c (some ⟨g,0,none⟩) w'):ob w c:=by
 unfold ob;refine at5 h λgm w1 h=>aM h λg w2 h=>hc g w2 ?_;have h:=(h.DJ 2).swap;exact Du (s:=⟨none,0,0⟩) (.refl _) (λk b a=>by simp at a) (.refl _) h
def ac6(h1:d.Perm (x::S))(h2:HH d d.length)(h3:Srt (x::S)):gd d 0=x:=by
 have hlen:d.length=S.length+1:=by rw[h1.length_eq];simp
 have hmem:gd d 0∈d:=by
  unfold gd;rw[m0,iH af];simp
 rcases List.mem_cons.1 (h1.subset hmem)with e|e
 ·exact e
 ·have hx:x∈d:=h1.symm.subset bf;obtain⟨m,hm,b⟩:=List.getElem_of_mem hx;have a:gd d m=x:=by unfold gd;rw[m0,iH hm];exact b
  have:=aud h2 m hm;rw[a]at this;exact absurd ((List.pairwise_cons.1 h3).1 _ e) this
def aGQ(S:DL):Int×Int×Bool:=match S with|[]=>(0,0,false)|x::_=>(x.1,x.2,true)
def aBH{n:Int}{c:Int→ap}(hl:S.length≤100000)(hC:CK (now,S))(h:St w0 w L)[a:At L (ni g) (now,S) f](hc:∀w',St w0 w' (f (ni g (now,(Dt (now,S) id n).2)))→c (Dt (now,S) id n).1 w'):mD (some ⟨g,0,none⟩) id n w c:=by
 obtain⟨R,ho,hs⟩:=a.out;have h:=ho h;unfold mD CU;refine aU rfl (ax (λhb=> ?_) λhb=> ?_)
 ·have e:Dt (now,S) id n=(10,S):=by
   unfold Dt;rw[if_pos];simp only[Bool.or_eq_true,decide_eq_true_eq]at hb;unfold MT;omega
  rw[e]at hc;exact hc _ (hs h)
 ·have hb:¬(id<0∨n<1∨n>MT):=by
   simp only[kf,decide_eq_false_iff_not]at hb;unfold MT;omega
  obtain⟨s,gm,d,l,h1,h2,h3,h4⟩:=ME h;refine bc (abY h4 rfl ?_);refine anA mpT h4 (anK ?_);dsimp only;rw[MF h3];refine ax (λb=> ?_) λb=> ?_
  ·have e:Dt (now,S) id n=(18,S):=by unfold Dt;rw[if_neg hb,if_pos b]
   rw[e]at hc;exact hc _ (hs (Du h1 h2 h3 h4))
  ·have e:Dt (now,S) id n=(0,ins (now+n,id) S):=by unfold Dt;rw[if_neg hb,if_neg (by simp[b])]
   rw[e]at hc;have hlo:=hC.lo;have hhi:=hC.hi;dsimp only at hlo hhi;have i:aF .i64 (now+n)=now+n:=dh ⟨by unfold MT at*;omega,by unfold MT at*;omega⟩
   refine cH h4 λw1 h4=>bc (abY h4 rfl ?_);refine bc (cr h4 rfl ?_);have hno:Im l id=none:=by
    have:=MF (k:=id) h3;rw[b]at this;simpa using this
   refine apr mpT h4 hno λw2 h4=>cH h4 λw3 h4=>bc (bc (cr h4 rfl ?_));rw[i]at h4 ⊢;refine aum (x:=(now+n,id)) h4 (by rw[h1.length_eq];omega) h2 λd' s' j hp hh h5=> ?_
   refine hc j (hs (Du ?_ hh ?_ h5))
   ·exact(hp.trans (List.perm_append_comm)).trans ((h1.cons _).trans (IN _ _).symm)
   ·refine .trans ?_ ((IN (now+n,id) S).map sw).symm;exact(List.perm_append_comm).trans (h3.cons _)
def ayh{c:Bool→ap}(hl:S.length≤100000)(hC:CK (now,S))(h:St w0 w L)[a:At L (ni g) (now,S) f](hc:∀w',St w0 w' (f (ni g (now,EK S id)))→c (has S id) w'):lu (some ⟨g,0,none⟩) id w c:=by
 obtain⟨R,ho,hs⟩:=a.out;have h:=ho h;obtain⟨s,gm,d,l,h1,h2,h3,h4⟩:=ME h;unfold lu BD;refine aU rfl (bc (abY h4 rfl ?_));refine anA mpT h4 (anK ?_);dsimp only;have hone:=hC.one;dsimp only at hone;rw[MF h3];refine ax (λk=> ?_) λk=> ?_
 ·refine bc (abY h4 rfl ?_);have hsome:(Im l id).isSome=true:=by rw[MF h3];exact k
  obtain⟨v,hv⟩:=Option.isSome_iff_exists.1 hsome;rw[hv,Option.getD_some];have hm:(v,id)∈d:=by
   obtain⟨y,hy,e⟩:=List.mem_map.1 (h3.subset (alw hv));have:y=(v,id):=by obtain⟨y1,o⟩:=y;simp[sw]at e;simp[e]
   rw[←this];exact h1.symm.subset hy
  refine anB mpT h4 (aam h3 hone) hsome λw1 h4=>cH h4 λw2 h4=>bc (bc (ea h4 rfl (aif ?_)));refine aBE h4 (by rw[h1.length_eq];omega) hm λi w3 hi m h4=> ?_
  refine ayf h4 (by rw[h1.length_eq];omega) hi h2 λ_ d' s' n hp hh h5=> ?_
  refine hc n (hs (Du ?_ hh ?_ h5))
  ·rw[m]at hp;have j:=hp.trans h1;have hnd:(((v,id)::d').map (·.2)).Nodup:=((j.map (·.2)).nodup_iff).2 hone;rw[List.map_cons,List.nodup_cons]at hnd;have b:=j.filter λy=>decide (y.2≠id);rw[List.filter_cons_of_neg bf]at b;have e:d'.filter (λy=>decide (y.2≠id))=d':=by
    rw[List.filter_eq_self];intro y hy;simp only[ne_eq,decide_eq_true_eq];exact λq=>hnd.1 (List.mem_map.2 ⟨y,hy,q⟩)
   rw[e]at b;exact b
  ·have:=h3.filter λx=>decide (x.1≠id);unfold EK;rw[List.filter_map]at this;exact this
 ·rw[k]at hc ⊢;have e:EK S id=S:=by
   unfold EK;rw[List.filter_eq_self];intro y hy;simp only[ne_eq,decide_eq_true_eq];exact afi (by simp[k]) y hy
  rw[e]at hc;exact hc w (hs (Du h1 h2 h3 h4))
def ayi{C T:DL}{t:Int}(h1:∀y∈C,y.1≤t)(h2:∀y∈T,¬y.1≤t):ac4 (C++T) t=C∧Oy (C++T) t=T:=by
 unfold ac4 Oy;have e1:C.filter (λy=>decide (y.1≤t))=C:=by rw[List.filter_eq_self];intro y hy;simpa using h1 y hy
 have e2:T.filter (λy=>decide (y.1≤t))=[]:=by rw[List.filter_eq_nil_iff];intro y hy;simpa using h2 y hy
 have a:C.filter (λy=>decide (¬y.1≤t))=[]:=by rw[List.filter_eq_nil_iff];intro y hy;simpa using h1 y hy
 have b:T.filter (λy=>decide (¬y.1≤t))=T:=by rw[List.filter_eq_self];intro y hy;simpa using h2 y hy
 rw[List.filter_append,List.filter_append,e1,e2,a,b];simp
def aEl(T:DL)(t:Int):Bool:=match T with|[]=>false|x::_=>decide (x.1≤t)
def aBJ{n:Int}{c:Sl×Int→ap}(hl:S.length≤100000)(hC:CK (now,S))(h:St w0 w L)[a:At L (ni g) (now,S) f]
  (hc:Sn now n=true→∀s' w',St w0 w' (bG 1 s' (ints (ids (ac4 S (now+n))))::f (ni g (now+n,Oy S (now+n))))→c (s',0) w')
  (hno:Sn now n=false→St w0 w L→c (⟨none,0,0⟩,10) w):jA (some ⟨g,0,none⟩) n w c:=by
 obtain⟨R,ho,hs,p⟩:=a.aEj;have h':=ho h;obtain⟨s,gm,d,l,h1,h2,h3,h4⟩:=ME h';have hlo:=hC.lo;have hhi:=hC.hi;dsimp only at hlo hhi;unfold jA xh;refine aU rfl (bP (λb w'=>b= !Sn now n∧w'=w) (λJ j=> ?_) ?_)
 ·refine ax (λhb=> ?_) λhb=> ?_
  ·have hb:=of_decide_eq_true hb;refine j _ _ ⟨?_,rfl⟩;unfold Sn;rw[decide_eq_false af];rfl
  ·have hb:=of_decide_eq_false hb;refine bc (cr h4 rfl (j _ _ ⟨?_,rfl⟩));rw[dh ⟨by unfold MT at*;omega,by unfold MT at*;omega⟩]
   unfold Sn MT;rw[Bool.eq_iff_iff];simp only[decide_eq_true_eq,Bool.not_eq_true',decide_eq_false_iff_not];omega
 rintro _ w1 ⟨rfl,rfl⟩;refine ax (λhb=> ?_) λhb=> ?_
 ·exact hno (gq hb) h
 have hok:Sn now n=true:=gq hb
 have t:=of_decide_eq_true hok;refine bc (cr h4 rfl (bc ?_));rw[dh ⟨by unfold MT at*;omega,by unfold MT at*;omega⟩]
 refine j4 h4 rfl bf λw2 h4=> ?_;have h5:St w0 w2 (ni g (now+n,S)::R):=Du h1 h2 h3 h4;refine ot (fun(r:Sl) w'=> ∃C T,S=C++T∧(∀y∈C,y.1≤now+n)∧St w0 w' (ni g (now+n,T)::bG 1 r (ints (ids C))::R)) (λr _=>S.length - r.n) ⟨[],S,rfl,bf,((h5.DJ 1).swap:St w0 w2 (ni g (now+n,S)::bG 1 ⟨none,0,0⟩ (ints (ids []))::R))⟩ ?_;rintro r w3 ⟨C,T,rfl,k,h⟩ K hK;have hr:r.n=C.length:=by
  have:=h.Gs (sz:=1) (s:=r);simp[ids]at this;omega
 obtain⟨s,gm,d,l,h1,h2,h3,h4⟩:=ME h;have hn:s.n=T.length:=by rw[St.XZ h4,h1.length_eq]
 have m:=h1.length_eq;have i:Srt T:=(List.pairwise_append.1 hC.srt).2.1;have hnd:(T.map (·.2)).Nodup:=by
  have:=hC.one;dsimp only at this;rw[List.map_append]at this;exact(List.nodup_append.1 this).2.1
 refine bP (λb w'=>b=aEl T (now+n)∧St w0 w' (au g (uP (now+n) gm s)::bG 2 s (fl d)::mp gm l::bG 1 r (ints (ids C))::R)) (λJ j=> ?_) ?_
 ·refine cH h4 λo h4=>bc (ea h4 rfl ?_);dsimp only;refine ax (λhb=> ?_) λhb=> ?_
  ·have hb:=of_decide_eq_true hb;cases T with
   |nil=>simp at hn;omega
   |cons x T=>
    have hg:=ac6 h1 h2 i;refine bc (ea h4 rfl ?_);refine X0 h4 af af<|bc (cr h4 rfl ?_);refine j _ _ ⟨?_,h4⟩;show decide ((gd d 0).1≤now+n)=decide (x.1≤now+n);rw[hg]
  ·have hb:=of_decide_eq_false hb;cases T with
   |nil=>exact j _ _ ⟨rfl,h4⟩
   |cons x T=>simp at hn;omega
 rintro _ o ⟨rfl,h4⟩;refine ax (λhb=> ?_) λhb=> ?_
 ·cases T with
  |nil=>cases hb
  |cons x T=>
   have hb:=of_decide_eq_true hb;have hg:=ac6 h1 h2 i;simp only[uv,List.length_cons]at hl m;refine bc (ea h4 rfl ?_);refine ahf h4 af af ?_;have eg:(gd d (0:Int).toNat)=x:=hg;rw[eg];refine bc<|aye h4 af af h2 λ_ d' s' v hp hh h5=>bc (abY h5 rfl ?_);have hsome:(Im l x.2).isSome=true:=by rw[MF h3,X1];exact⟨x,bf,rfl⟩
   refine anB mpT h5 (aam h3 hnd) hsome λA h5=>aM h5 λga B h5=>M9 (x:=⟨some ⟨ga,0,none⟩,1,1⟩) h5 (aBC aZ) aZ (WJ (n:=1) (h5.au) rfl 1) (by simp[Value.oneCell']) (by simp only;omega) (by simp only;omega) λs2 u h6 n2=> ?_
   have h7:=h6.drop;refine hK s2 u ⟨C++[x],T,bf,λy hy=> ?_,?_⟩ ?_
   ·rcases zw.1 hy with hy|hy
    ·exact k y hy
    ·simp only[List.mem_singleton]at hy;subst hy;exact hb
   ·have e:ints (ids C)++[Value.int .i64 x.2]=ints (ids (C++[x])):=by simp[ids,ints]
    rw[e]at h7;rw[hg]at hp;refine Du ?_ hh ?_ h7
    ·exact(hp.trans h1).cons_inv
    ·have h8:=h3.filter λy=>decide (y.1≠x.2);rw[List.map_cons,List.filter_cons_of_neg (by simp[sw])]at h8
     have e:(T.map sw).filter (λy=>decide (y.1≠x.2))=T.map sw:=by
      rw[List.filter_eq_self];intro z hz;obtain⟨y,hy,rfl⟩:=List.mem_map.1 hz;rw[List.map_cons,List.nodup_cons]at hnd;simp only[ne_eq,decide_eq_true_eq];exact λq=>hnd.1 (List.mem_map.2 ⟨y,hy,q⟩)
     rw[e]at h8;exact h8
   ·simp only[uv,List.length_cons];dsimp only at n2;omega
 ·have hT:∀y∈T,¬y.1≤now+n:=by
   cases T with
   |nil=>simp
   |cons x T=>
    have hb:=of_decide_eq_false hb;intro y hy;rcases List.mem_cons.1 hy with rfl|hy
    ·exact hb
    ·have:=(List.pairwise_cons.1 i).1 y hy;unfold rT at this;omega
  obtain⟨e1,e2⟩:=ayi k hT;refine hc hok r o (p ?_);rw[e1,e2];exact Du h1 h2 h3 h4
end
end Go.Proofs.YthidhjhkmjjckaaGreatDoor.Ko
namespace Go.Proofs.YthidhjhkmjjckaaGreatDoor
open Go Go.Ev Go.Proofs
open Ko (ni CK)
abbrev pt(a:Nat):Value:= .pointer (some ⟨a,0,none⟩)
structure Tk where
 id:Int
 l7:Int
 own:Int
 jI:Int
 f:List Int
 gL:ByteArray
 cJ:List (Int×Int)
 scopes:List Int
 kind:Int
 v:Int
abbrev frV(f:List Int):List Value:=[.int .i64 (f.getD 0 0),.int .i64 (f.getD 1 0),.int .i64 (f.getD 2 0),.int .i64 (f.getD 3 0),.int .i64 (f.getD 4 0),.int .i64 (f.getD 5 0),.int .i64 (f.getD 6 0),.int .i64 (f.getD 7 0),.int .i64 (f.getD 8 0),.int .i64 (f.getD 9 0),.int .i64 (f.getD 10 0),.int .i64 (f.getD 11 0),.int .i64 (f.getD 12 0),.int .i64 (f.getD 13 0),.int .i64 (f.getD 14 0),.int .i64 (f.getD 15 0),.int .i64 (f.getD 16 0),.int .i64 (f.getD 17 0),.int .i64 (f.getD 18 0)]
def anL{f:List Int}(hf:f.length=19):frV f=ints f:=by
 obtain⟨a,b,c,d,e,g,h,i,j,k,m,n,o,p,q,r,s,t,u,rfl⟩:=Fr.ag8 hf;rfl
def Oz{f:List Int}(hf:f.length=19):(frV f).toArray=eZ f:=by rw[anL hf]
def Tk.cells(so sc:Sl)(t:Tk):List Value:=[.int .i64 t.id,.int .i64 t.l7,.int .i64 t.own,.int .i64 t.jI,.int .i64 (t.f.getD 0 0),.int .i64 (t.f.getD 1 0),.int .i64 (t.f.getD 2 0),.int .i64 (t.f.getD 3 0),.int .i64 (t.f.getD 4 0),.int .i64 (t.f.getD 5 0),.int .i64 (t.f.getD 6 0),.int .i64 (t.f.getD 7 0),.int .i64 (t.f.getD 8 0),.int .i64 (t.f.getD 9 0),.int .i64 (t.f.getD 10 0),.int .i64 (t.f.getD 11 0),.int .i64 (t.f.getD 12 0),.int .i64 (t.f.getD 13 0),.int .i64 (t.f.getD 14 0),.int .i64 (t.f.getD 15 0),.int .i64 (t.f.getD 16 0),.int .i64 (t.f.getD 17 0),.int .i64 (t.f.getD 18 0),.string t.gL,.slice so.a so.n so.c,.slice sc.a sc.n sc.c,.int .i64 t.kind,.int .i64 t.v]
abbrev A1(x:Int×Int):List Value:=[.int .i64 x.1,.int .i64 x.2]
def tkP(x:Nat×Tk):HP:=Gt λq:Sl×Sl=>l9 [au x.1 (x.2.cells q.1 q.2),rws 2 q.1 (x.2.cJ.map A1),bG 1 q.2 (ints x.2.scopes)]
def LA(aa:List Nat)(ts:List Tk):HP:=Kf (aa.length=ts.length) (jO tkP (aa.zip ts))
section
variable{w0 w:World}{L R:List HP}{aa:List Nat}{ts:List Tk}{t:Tk}{x a:Nat}
def KI(h:St w0 w (LA aa ts::R)):aa.length=ts.length:=h.pure.1
def sv(h:St w0 w (LA aa ts::R))(ha:aa[x]?=some a)(ht:ts[x]?=some t):∃so sc:Sl,St w0 w (au a (t.cells so sc)::rws 2 so (t.cJ.map A1)::bG 1 sc (ints t.scopes)::jO tkP ((aa.zip ts).eraseIdx x)::R):=by
 obtain⟨_,h⟩:=h.pure;have h2:St w0 w (tkP (a,t)::jO tkP ((aa.zip ts).eraseIdx x)::R):=BW h (by rw[List.getElem?_zip_eq_some];exact⟨ha,ht⟩)
 obtain⟨q,h⟩:=St.some h2;exact⟨q.1,q.2,h.open⟩
def ajc{t':Tk}{so sc:Sl}(hl:aa.length=ts.length)(ha:aa[x]?=some a)(h:St w0 w (au a (t'.cells so sc)::rws 2 so (t'.cJ.map A1)::bG 1 sc (ints t'.scopes)::jO tkP ((aa.zip ts).eraseIdx x)::R)):St w0 w (LA aa (ts.set x t')::R):=by
 have hx:=(kB.1 ha).1;have h2:St w0 w (tkP (a,t')::jO tkP ((aa.zip ts).eraseIdx x)::R):=St.ex (so,sc) (St.shut h);have h3:=WY h2 (by simp;omega)
 refine St.YA (gq hl) ?_
 have e:(aa.zip ts).set x (a,t')=aa.zip (ts.set x t'):=by
  apply List.ext_getElem?;intro j;by_cases hj:x=j
  ·subst hj;rw[uO (by simp;omega)]
   symm;rw[List.getElem?_zip_eq_some];exact⟨ha,by rw[uO af]⟩
  ·rw[r0 hj,List.zip,List.getElem?_zipWith,List.getElem?_zipWith,r0 hj]
 rwa[e]at h3
def ayj{t':Tk}{g:Nat}{so sc:Sl}(hl:aa.length=ts.length)(h:St w0 w (au g (t'.cells so sc)::rws 2 so (t'.cJ.map A1)::bG 1 sc (ints t'.scopes)::LA aa ts::R)):St w0 w (LA (aa++[g]) (ts++[t'])::R):=by
 have h2:St w0 w (tkP (g,t')::LA aa ts::R):=St.ex (so,sc) (St.shut h);obtain⟨_,h3⟩:=h2.swap.pure;have h4:=QV h3.swap;refine St.YA (gq hl) ?_
 rwa[List.zip_append hl]
end
structure Lc where
 gs:Nat
 gm:Nat
 gk:Nat
 gc:Nat
 gt:Nat
 gd:Nat
 ps:Sl
 base:Int
 spare:Int
 cells:Int
 fuel:Int
 deep:Int
 log:Int
 told:Int
 idle:Int
 sp:Sp
 wa:List Nat
abbrev Pl:=Int×Int×Int×Bool
abbrev tI(x:Pl):List Value:=[.int .i64 x.1,.int .i64 x.2.1,.int .i64 x.2.2.1,.bool x.2.2.2]
structure Gl where
 M:bJ
 T:List Kt
 C:List Nd
 P:List Pl
 ts:List Tk
 time:Int×List (Int×Int)
 D:List Int
 steps:Int
 err:Int
def Lc.cs(l:Lc)(sp st sw:Sl)(steps err:Int):List Value:=[.slice l.ps.a l.ps.n l.ps.c,.int .i64 l.base,.int .i64 l.spare,.int .i64 l.cells,.int .i64 l.fuel,.int .i64 l.deep,.int .i64 l.log,pt l.gm,pt l.gk,pt l.gc,
 .slice sp.a sp.n sp.c,.slice st.a st.n st.c,.int .i64 l.told,.int .i64 l.idle,.int .i64 l.sp.at_,.int .i64 l.sp.base,.int .i64 l.sp.most,pt l.gt,pt l.gd,.slice sw.a sw.n sw.c,.int .i64 steps,.int .i64 err]
def UW(l:Lc)(aa:List Nat)(G:Gl):HP:=Gt λq:Sl×Sl×Sl=>l9 [au l.gs (l.cs q.1 q.2.1 q.2.2 G.steps G.err),bH l.gm G.M,Da l.gk G.T,scp l.gc G.C,rws 4 q.1 (G.P.map tI),bG 1 q.2.1 (aa.map pt),bG 1 q.2.2 (l.wa.map pt),ni l.gt G.time,Lw l.gd G.D,LA aa G.ts]
section
variable{w0 w:World}{L R:List HP}{l:Lc}{aa:List Nat}{G:Gl}
def rO(h:St w0 w (UW l aa G::R)):∃sp st sw:Sl,St w0 w (au l.gs (l.cs sp st sw G.steps G.err)::bH l.gm G.M::Da l.gk G.T::scp l.gc G.C::rws 4 sp (G.P.map tI)::bG 1 st (aa.map pt)::bG 1 sw (l.wa.map pt)::ni l.gt G.time::Lw l.gd G.D::LA aa G.ts::R):=by
 obtain⟨q,h⟩:=h.some;exact⟨q.1,q.2.1,q.2.2,h.open⟩
def pE{sp st sw:Sl}(h:St w0 w (au l.gs (l.cs sp st sw G.steps G.err)::bH l.gm G.M::Da l.gk G.T::scp l.gc G.C::rws 4 sp (G.P.map tI)::bG 1 st (aa.map pt)::bG 1 sw (l.wa.map pt)::ni l.gt G.time::Lw l.gd G.D::LA aa G.ts::R)):St w0 w (UW l aa G::R):=
 St.ex (sp,st,sw) (St.shut h)
end
inductive Mt
 |rest|pF|looking|tell|others|xn|So|JA|tE|start|next|fork|xo|tF|join|cJ|opens|close|gL|cancel|pass|leave|put|fin|asks|gone|asked|joined|ul|rp|sx|register|block|Io|stops
 |cancelled|vQ|BQ|y5|nothing|Uv|AL
 deriving DecidableEq
def Mt.fn:Mt→Nat
 | .rest=>gB| .pF=>kW| .looking=>kX| .tell=>nu| .others=>lS| .xn=>lT| .So=>mI| .JA=>nr
 | .tE=>lR| .start=>mQ| .next=>gC| .fork=>lH| .xo=>mR| .tF=>lV| .join=>js| .cJ=>lI| .opens=>mS
 | .close=>kO| .gL=>lU| .cancel=>kq| .pass=>lJ| .leave=>iV| .put=>n9| .fin=>oa| .asks=>nw| .gone=>ny
 | .asked=>mT| .joined=>lX| .ul=>lW| .rp=>kY| .sx=>kZ| .register=>kE| .block=>mW| .Io=>nA| .stops=>mU
 | .cancelled=>j6| .vQ=>ku| .BQ=>mV| .y5=>qC| .nothing=>py| .Uv=>r9| .AL=>qE
inductive Ct
 |F9|S8|um|td|xp|th|IF|Db|Co|qI
 deriving DecidableEq
def Ct.fn:Ct→Nat
 | .F9=>pT| .S8=>oJ| .um=>oM| .td=>oN| .xp=>pi| .th=>oL| .IF=>px| .Db=>kr
 | .Co=>pq| .qI=>oK
inductive Kn
 |no
 |any
 |m (f:Mt)
 |c (f:Ct)
 |nx (i:List Int)
 |aw (x:Nat)
 |sh (k:Kn)
 |V2 (x:Nat) (k:Kn)
 |BR (x:Int) (k:Kn)
 |hl (me:Int) (t:Option Nat)
 deriving DecidableEq
abbrev mt(gw:Nat)(f:Mt):Value:= .func (.func f.fn) #[pt gw] #[]
abbrev ct(b:Nat)(f:Ct):Value:= .func (.func f.fn) #[] #[pt b]
abbrev aAf:Value:= .func (.func kD) #[] #[]
abbrev Bx:=List (Nat×List Value)
def Rp(aa:List Nat)(gw:Nat)(B:Bx):Kn→Value→Prop
 | .no,v=>v= .nilFunc
 | .any,v=>v= .func (.func kD) #[] #[]
 | .m f,v=>v= .func (.func f.fn) #[pt gw] #[]
 | .c f,v=> ∃b,(b,[pt gw])∈B∧v= .func (.func f.fn) #[] #[pt b]
 | .nx i,v=> ∃b c,(b,[pt gw])∈B∧(c,ints i)∈B∧i.length=5∧v= .func (.func pU) #[] #[pt b,pt c]
 | .aw x,v=> ∃b c a,(b,[pt gw])∈B∧aa[x]?=some a∧(c,[pt a])∈B∧v= .func (.func eP) #[] #[pt b,pt c]
 | .sh k,v=> ∃b c u,(b,[pt gw])∈B∧Rp aa gw B k u∧(c,[u])∈B∧v= .func (.func fN) #[] #[pt b,pt c]
 | .V2 x k,v=> ∃b c d a u,(b,[pt gw])∈B∧aa[x]?=some a∧(c,[pt a])∈B∧Rp aa gw B k u∧(d,[u])∈B∧v= .func (.func pu) #[] #[pt b,pt c,pt d]
 | .BR x k,v=> ∃b c d u,(b,[pt gw])∈B∧(c,[.int .i64 x])∈B∧Rp aa gw B k u∧(d,[u])∈B∧v= .func (.func pz) #[] #[pt b,pt c,pt d]
 | .hl me t,v=> ∃b c d p,(b,[pt gw])∈B∧(c,[.int .i64 me])∈B∧(d,[.pointer p])∈B∧(match t with|none=>p=none|some x=> ∃a,aa[x]?=some a∧p=some ⟨a,0,none⟩)∧v= .func (.func lY) #[] #[pt b,pt c,pt d]
variable{aa:List Nat}
def Rp.one{gw:Nat}{B:Bx}:∀{k:Kn} {v:Value},Rp aa gw B k v→v.oneCell'=true
 | .no,_,h=>by obtain rfl:=h;rfl
 | .any,_,h=>by obtain rfl:=h;rfl
 | .m f,_,h=>by obtain rfl:=h;rfl
 | .c f,_,h=>by obtain⟨_,_,rfl⟩:=h;rfl
 | .nx i,_,h=>by obtain⟨_,_,_,_,_,rfl⟩:=h;rfl
 | .aw x,_,h=>by obtain⟨_,_,_,_,_,_,rfl⟩:=h;rfl
 | .sh k,_,h=>by obtain⟨_,_,_,_,_,_,rfl⟩:=h;rfl
 | .V2 x k,_,h=>by obtain⟨_,_,_,_,_,_,_,_,_,_,rfl⟩:=h;rfl
 | .BR x k,_,h=>by obtain⟨_,_,_,_,_,_,_,_,rfl⟩:=h;rfl
 | .hl me t,_,h=>by obtain⟨_,_,_,_,_,_,_,_,rfl⟩:=h;rfl
def S9{l:List Nat}{x a:Nat}(h:aa[x]?=some a):(aa++l)[x]?=some a:=by
 rw[tJ (kB.1 h).1,h]
def Rp.mono{aa l:List Nat}{gw:Nat}{B B':Bx}(hB:∀p∈B,p∈B'):∀{k:Kn} {v:Value},Rp aa gw B k v→Rp (aa++l) gw B' k v
 | .no,_,h=>h
 | .any,_,h=>h
 | .m f,_,h=>h
 | .c f,_,h=>by obtain⟨b,h1,h2⟩:=h;exact⟨b,hB _ h1,h2⟩
 | .nx i,_,h=>by obtain⟨b,c,h1,h2,h3,h4⟩:=h;exact⟨b,c,hB _ h1,hB _ h2,h3,h4⟩
 | .aw x,_,h=>by obtain⟨b,c,a,h1,h2,h3,h4⟩:=h;exact⟨b,c,a,hB _ h1,S9 h2,hB _ h3,h4⟩
 | .sh k,_,h=>by obtain⟨b,c,u,h1,h2,h3,h4⟩:=h;exact⟨b,c,u,hB _ h1,Rp.mono hB h2,hB _ h3,h4⟩
 | .V2 x k,_,h=>by obtain⟨b,c,d,a,u,h1,h2,h3,h4,h5,h6⟩:=h;exact⟨b,c,d,a,u,hB _ h1,S9 h2,hB _ h3,Rp.mono hB h4,hB _ h5,h6⟩
 | .BR x k,_,h=>by obtain⟨b,c,d,u,h1,h2,h3,h4,h5⟩:=h;exact⟨b,c,d,u,hB _ h1,hB _ h2,Rp.mono hB h3,hB _ h4,h5⟩
 | .hl me none,_,h=>by obtain⟨b,c,d,p,h1,h2,h3,h4,h5⟩:=h;exact⟨b,c,d,p,hB _ h1,hB _ h2,hB _ h3,h4,h5⟩
 | .hl me (some x),_,h=>by obtain⟨b,c,d,p,h1,h2,h3,⟨a,h4,h6⟩,h5⟩:=h;exact⟨b,c,d,p,hB _ h1,hB _ h2,hB _ h3,⟨a,S9 h4,h6⟩,h5⟩
def Rp.box{gw:Nat}{B B':Bx}(hB:∀p∈B,p∈B'){k:Kn}{v:Value}(h:Rp aa gw B k v):Rp aa gw B' k v:=by
 have:=Rp.mono (l:=[]) hB h;rwa[List.append_nil]at this
def fz(B:Bx):HP:=jO (λp:Nat×List Value=>au p.1 p.2) B
section
variable{w0 w:World}{L R:List HP}{B:Bx}{f:HP→List HP}{g:Nat}
def abd{cs:List Value}(h:St w0 w L)[a:At L fz B f](hm:(g,cs)∈B):∃R,St w0 w (au g cs::R):=by
 obtain⟨R,ho,_⟩:=a.out;obtain⟨i,hi⟩:=List.mem_iff_getElem?.1 hm;exact⟨_,BW (X:=λp:Nat×List Value=>au p.1 p.2) (ho h) hi⟩
def Zn{x:Option Addr}{c:Option Addr→Prop}(h:St w0 w L)[a:At L fz B f](hm:(g,[.pointer x])∈B)(hc:c x):aQ w ⟨g,0,none⟩ c:=by
 obtain⟨R,h2⟩:=abd h hm;exact CC h2 rfl hc
def fzI{x:Int}{c:Int→Prop}(h:St w0 w L)[a:At L fz B f](hm:(g,[.int .i64 x])∈B)(hc:c x):aJ .i64 w ⟨g,0,none⟩ c:=by
 obtain⟨R,h2⟩:=abd h hm;exact cr h2 rfl hc
def fzV{x:Value}{c:Value→Prop}(h:St w0 w L)[a:At L fz B f](hm:(g,[x])∈B)(hc:c x):tH w ⟨g,0,none⟩ c:=by
 obtain⟨R,h2⟩:=abd h hm;exact I2 h2 rfl hc
def fzW{cs:List Value}{n:Nat}{c:Array Value→Prop}(h:St w0 w L)[a:At L fz B f](hm:(g,cs)∈B)(hn:cs.length=n)(hc:c cs.toArray):bx n w ⟨g,0,none⟩ c:=by
 obtain⟨R,h2⟩:=abd h hm;subst hn;exact je h2 rfl hc
def ayk{cs:List Value}(h:St w0 w (au g cs::fz B::R)):St w0 w (fz (B++[(g,cs)])::R):=QV h
def aup(h:St w0 w R):St w0 w (fz []::R):=QW h
end
structure Wk where
 id:Int
 dq:Int
 wait:Wt
 stack:List Nat
 back:List Kn
 cT:Kn
 op:Option bu
 after:Kn
 look:Option Lk
 seen:Kn
 step:Option jH
 left:List Int
 late:Bool
 fits:Kn
 got:Kn
 none_:Kn
 jq:Int
 home:Kn
 target:Option Nat
 kind:Int
 bO:Bool
 blocked:Bool
 again:Kn
 pG:Kn
 mark:Int
 dK:Kn
 own:Int
 said:Kn
 bits:Int
 qc:Kn
structure Wq where
 gwt:Nat
 ss:Sl
 qw:List Value
 sb:Sl
 y6:List Value
 pJ:Value
 go:Nat
 KJ:Value
 gl:Nat
 alx:Value
 gp:Nat
 sl:Sl
 Zo:Value
 ajd:Value
 Zp:Value
 LB:Value
 O6:Option Addr
 zi:Value
 MG:Value
 IP:Value
 Zq:Value
 ahi:Value
 B:Bx
variable{α:Type}
def poi(g:Nat)(o:Option α):Value:= .pointer (o.map λ_=>⟨g,0,none⟩)
def Wk.cs(l:Lc)(q:Wq)(W:Wk):List Value:=[pt l.gs,.int .i64 W.id,.int .i64 W.dq,.int .i64 l.log,pt q.gwt,.slice q.ss.a q.ss.n q.ss.c,.slice q.sb.a q.sb.n q.sb.c,q.pJ,poi q.go W.op,q.KJ,poi q.gl W.look,q.alx,poi q.gp W.step,.slice q.sl.a q.sl.n q.sl.c,.bool W.late,q.Zo,q.ajd,q.Zp,.int .i64 W.jq,q.LB,.pointer q.O6,.int .i64 W.kind,.bool W.bO,.bool W.blocked,q.zi,q.MG,.int .i64 W.mark,q.IP,.int .i64 W.own,q.Zq,.int .i64 W.bits,q.ahi]
inductive KK {α β:Type} (P:α→β→Prop):List α→List β→Prop
 |nil:KK P [] []
 |cons {a:α} {b:β} {l:List α} {m:List β}:P a b→KK P l m→KK P (a::l) (b::m)
def KK.imp'{β:Type}{P Q:α→β→Prop}(hPQ:∀a b,P a b→Q a b){l:List α}{m:List β}(h:KK P l m):KK Q l m:=by
 induction h with
 |nil=>exact .nil
 |cons h1 _ ih=>exact .cons (hPQ _ _ h1) ih
def KK.len{β:Type}{P:α→β→Prop}{l:List α}{m:List β}(h:KK P l m):l.length=m.length:=by
 induction h with
 |nil=>rfl
 |cons _ _ ih=>simp[ih]
def Pts(aa:List Nat)(x:Nat)(v:Value):Prop:=∃a,aa[x]?=some a∧v=pt a
structure Wq.Ok (aa:List Nat) (gw:Nat) (W:Wk) (q:Wq):Prop where
 qw:KK (Pts aa) W.stack q.qw
 y6:KK (Rp aa gw q.B) W.back q.y6
 cT:Rp aa gw q.B W.cT q.pJ
 after:Rp aa gw q.B W.after q.KJ
 seen:Rp aa gw q.B W.seen q.alx
 fits:Rp aa gw q.B W.fits q.Zo
 got:Rp aa gw q.B W.got q.ajd
 none_:Rp aa gw q.B W.none_ q.Zp
 home:Rp aa gw q.B W.home q.LB
 target:match W.target with|none=>q.O6=none|some x=> ∃a,aa[x]?=some a∧q.O6=some ⟨a,0,none⟩
 again:Rp aa gw q.B W.again q.zi
 pG:Rp aa gw q.B W.pG q.MG
 dK:Rp aa gw q.B W.dK q.IP
 said:Rp aa gw q.B W.said q.Zq
 qc:Rp aa gw q.B W.qc q.ahi
def l6(X:α→HP):Option α→HP
 |none=>l9 []
 |some a=>X a
def pH(l:Lc)(aa:List Nat)(x:Nat×Wk):HP:=Gt λq:Wq=>Kf (q.Ok aa x.1 x.2) (l9 [au x.1 (x.2.cs l q),au q.gwt (x.2.wait.cells l.told),bG 1 q.ss q.qw.reverse,bG 1 q.sb q.y6.reverse,bG 1 q.sl (ints x.2.left),l6 (uh q.go) x.2.op,l6 (λk:Lk=>au q.gl (k.cells l.gc)) x.2.look,l6 (λo:jH=>au q.gp (o.cells l.sp q.gp)) x.2.step,fz q.B])
section
variable{w0 w:World}{L R:List HP}{l:Lc}{gw:Nat}{W:Wk}{q:Wq}
def X2(h:St w0 w (pH l aa (gw,W)::R)):∃q:Wq,q.Ok aa gw W∧St w0 w (au gw (W.cs l q)::au q.gwt (W.wait.cells l.told)::bG 1 q.ss q.qw.reverse::bG 1 q.sb q.y6.reverse::bG 1 q.sl (ints W.left)::l6 (uh q.go) W.op::l6 (λk:Lk=>au q.gl (k.cells l.gc)) W.look::l6 (λo:jH=>au q.gp (o.cells l.sp q.gp)) W.step::fz q.B::R):=by
 obtain⟨q,h⟩:=h.some;obtain⟨hp,h⟩:=h.pure;exact⟨q,hp,h.open⟩
def ac8(hq:q.Ok aa gw W)(h:St w0 w (au gw (W.cs l q)::au q.gwt (W.wait.cells l.told)::bG 1 q.ss q.qw.reverse::bG 1 q.sb q.y6.reverse::bG 1 q.sl (ints W.left)::l6 (uh q.go) W.op::l6 (λk:Lk=>au q.gl (k.cells l.gc)) W.look::l6 (λo:jH=>au q.gp (o.cells l.sp q.gp)) W.step::fz q.B::R)):St w0 w (pH l aa (gw,W)::R):=
 St.ex q (St.YA hq (St.shut h))
def Wq.Ok.box{B':Bx}(h:q.Ok aa gw W)(hB:∀p∈q.B,p∈B'):Wq.Ok aa gw W {q with B:=B'}:=
 ⟨h.qw,h.y6.imp' λ_ _=>Rp.box hB,h.cT.box hB,h.after.box hB,h.seen.box hB,h.fits.box hB,h.got.box hB,h.none_.box hB,h.home.box hB,h.target,h.again.box hB,h.pG.box hB,h.dK.box hB,h.said.box hB,h.qc.box hB⟩
def Wq.Ok.qT{m:List Nat}(h:q.Ok aa gw W):Wq.Ok (aa++m) gw W q:=
 ⟨h.qw.imp' λ_ _ ⟨a,h1,h2⟩=>⟨a,S9 h1,h2⟩,h.y6.imp' λ_ _=>Rp.mono λ_ h=>h,h.cT.mono λ_ h=>h,h.after.mono λ_ h=>h,h.seen.mono λ_ h=>h,h.fits.mono λ_ h=>h,h.got.mono λ_ h=>h,h.none_.mono λ_ h=>h,h.home.mono λ_ h=>h,
  by have:=h.target;cases ht:W.target with
   |none=>rw[ht]at this;exact this
   |some x=>rw[ht]at this;obtain⟨a,h1,h2⟩:=this;exact⟨a,S9 h1,h2⟩,
  h.again.mono λ_ h=>h,h.pG.mono λ_ h=>h,h.dK.mono λ_ h=>h,h.said.mono λ_ h=>h,h.qc.mono λ_ h=>h⟩
def KL{g:Nat}{cs:List Value}(hq:q.Ok aa gw W):Wq.Ok aa gw W {q with B:=q.B++[(g,cs)]}:=hq.box λp h=>List.mem_append_left _ h
end
end Go.Proofs.YthidhjhkmjjckaaGreatDoor
namespace Go.Ev
open Go Go.RowKit
structure dB where
 aX:Int
 sl:Sl
 code:List (List Int)
structure Zr (P:Program) (ti tc tf ts tp tn:TypeId):Prop where
 i:∃fs,P.underlying ti=some (.struct fs)
 aBM:Vd P 4 ti=true
 ic:P.cellsOf ti=5
 ib:P.bytesOf ti=40
 c:P.underlying tc=some (.slice ti)
 f:∃f0 f1:Field,P.underlying tf=some (.struct #[f0,f1])∧f0.type=tn∧f0.offset=0∧f1.type=tc∧f1.offset=1
 n:P.underlying tn=some (.int .i64)
 nc:P.cellsOf tn=1
 cc:P.cellsOf tc=1
 fc:P.cellsOf tf=2
 fb:P.bytesOf tf=32
 s:P.underlying ts=some (.slice tf)
 sc:P.cellsOf ts=1
 p:∃f0:Field,P.underlying tp=some (.struct #[f0])∧f0.type=ts∧f0.offset=0
 pc:P.cellsOf tp=1
section
variable{P:Program}{w:World}{ti tc tf ts tp tn:TypeId}
structure tP (w:World) (s:Sl) (l:List (List Int)):Prop where
 rws:QM 5 w s (l.map Go.Ev.ints)
 GZ:∀i∈l,i.length=5∧∀y∈i,sy y
 Zs:l.length*40≤reachBytes
def tP.len{s:Sl}{l:List (List Int)}(h:tP w s l):s.n=l.length:=by have:=h.rws.len;simp at this;omega
def tP.ext{w':World}{s:Sl}{l:List (List Int)}(h:tP w s l)(he:Ext w w'):tP w' s l:=⟨h.rws.ext he,h.GZ,h.Zs⟩
def zx.code(T:Zr P ti tc tf ts tp tn){cs:List Value}(h:zx P w tc cs):∃(s:Sl) (l:List (List Int)),cs=[.slice s.a s.n s.c]∧tP w s l:=by
 obtain⟨s,es,rfl,hr,hb,h1,h2,b⟩:=h.slice T.c;obtain⟨fs,d⟩:=T.i;obtain⟨l,rfl,hl⟩:=zy (G:=λi:List Int=>i.length=5∧∀y∈i,sy y) λe he=>by
  obtain⟨xs,hx,hI⟩:=zy ((b e he).flat T.aBM);refine⟨xs,hx,?_,hI⟩;have:=(b e he).len (.inr ⟨fs,d⟩);rw[hx,T.ic]at this;simpa using this
 rw[T.ic]at hr;refine⟨s,l,rfl,hr,hl,?_⟩;rw[T.ib]at hb;simpa using hb
def dB.cells(x:dB):List Value:=[.int .i64 x.aX,.slice x.sl.a x.sl.n x.sl.c]
structure iA (w:World) (s:Sl) (l:List dB):Prop where
 rws:QM 2 w s (l.map dB.cells)
 code:∀x∈l,sy x.aX∧tP w x.sl x.code
 Zs:l.length*32≤reachBytes
def iA.len{s:Sl}{l:List dB}(h:iA w s l):s.n=l.length:=by have:=h.rws.len;simp at this;omega
def iA.ext{w':World}{s:Sl}{l:List dB}(h:iA w s l)(he:Ext w w'):iA w' s l:=⟨h.rws.ext he,λx hx=>⟨(h.code x hx).1,(h.code x hx).2.ext he⟩,h.Zs⟩
def zx.func(T:Zr P ti tc tf ts tp tn){cs:List Value}(h:zx P w tf cs):∃x:dB,cs=x.cells∧sy x.aX∧tP w x.sl x.code:=by
 obtain⟨f0,f1,hf,e1,e2,d,e⟩:=T.f;obtain⟨hl,c⟩:=h.struct hf;have h0:=c 0 f0 bf;have h1:=c 1 f1 bf;rw[e1,e2,T.nc]at h0;rw[d,e,T.cc]at h1;obtain⟨n,hn,hI⟩:=h0.int T.n;obtain⟨s,l,hs,hc⟩:=h1.code T;refine⟨⟨n,s,l⟩,?_,hI,hc⟩;have hlen:cs.length=2:=by rw[hl,T.fc]
 match cs,hlen with
 |[a,b],_=>simp at hn hs;simp[dB.cells,hn,hs]
def zx.funcs(T:Zr P ti tc tf ts tp tn){cs:List Value}(h:zx P w ts cs):∃(s:Sl) (l:List dB),cs=[.slice s.a s.n s.c]∧iA w s l:=by
 obtain⟨s,es,rfl,hr,hb,h1,h2,b⟩:=h.slice T.s;obtain⟨l,rfl,hl⟩:=zy λe he=>(b e he).func T;rw[T.fc]at hr;rw[T.fb]at hb;exact⟨s,l,rfl,hr,hl,gq hb⟩
def zx.program(T:Zr P ti tc tf ts tp tn){cs:List Value}(h:zx P w tp cs):∃(s:Sl) (l:List dB),cs=[.slice s.a s.n s.c]∧iA w s l:=by
 obtain⟨f0,hf,e1,e2⟩:=T.p;obtain⟨hl,b⟩:=h.struct hf;have h0:=b 0 f0 bf;rw[e1,e2,T.sc]at h0;have hlen:cs.length=1:=by rw[hl,T.pc]
 match cs,hlen with
 |[a],_=>exact zx.funcs T (gq h0)
def Arg.program(T:Zr P ti tc tf ts tp tn){v:Value}(h:Arg P w tp v):∃(s:Sl) (l:List dB),v= .agg #[.slice s.a s.n s.c]∧iA w s l:=by
 obtain⟨f0,hf,e1,e2⟩:=T.p;obtain⟨cs,rfl,hr⟩:=h.agg (.inr ⟨_,hf⟩);obtain⟨s,l,hcs,hF⟩:=hr.program T;refine⟨s,l,?_,hF⟩;congr 1;exact Array.ext' hcs
end
end Go.Ev
namespace Go.Proofs.YthidhjhkmjjckaaGreatDoor.Ck
open Go Go.Ev Go.Proofs
def elI{P:Program}{t:TypeId}(h:S0 P t=some (1,8,some (.int .i64 0))):ET P t 1 8 (.int .i64 0):=⟨h,rfl⟩
abbrev gA(x:List Int):Int:=x.getD 0 0
def BS(n:Int)(x:List Int):Int:=if gA x=11 then aF .i64 (n+1)else if gA x=12 then aF .i64 (n - 1)else n
def my:Int→List (List Int)→List Int
 |_,[]=>[]
 |n,x::l=>n::my (BS n x) l
def Sq:∀(l:List (List Int)) (n:Int),(my n l).length=l.length
 |[],_=>rfl
 |x::l,n=>by simp[my,Sq l]
variable{w:World}{s:Sl}{l:List (List Int)}{x:List Int}{i:Int}
def ixC{dn rest:List (List Int)}{c:Addr→Prop}(h:tP w s l)(hl:l=dn++x::rest)(hi:i=(dn.length:Int))
  (hc:∀p,x.length=5→(∀j v,(Go.Ev.ints x)[j]?=some v→w.cell? (p.add j)=some v)→c p):cN s i 5 c:=by
 have hn:=h.len.symm;subst hi;refine akF h.rws af (by rw[←hn,hl];simp;omega) λp e he hle hcell=> ?_
 rw[iZ,hl]at he;simp at he;subst he;exact hc p ((h.GZ x (by rw[hl];simp)).1) hcell
variable{j:Nat}
def m8(h:j<x.length):(Go.Ev.ints x)[j]?=some (.int .i64 (x.getD j 0)):=by
 simp[Go.Ev.ints,h]
def apv{k:Sl→ap}(hr:tP w s l)(hb:8*l.length≤281474976710656)
  (hc:∀s' w',St w w' [bG 1 s' (Go.Ev.ints (my 0 l))]→s'.n=l.length→k s' w'):oO s w k:=by
 have hl:=hr.len.symm;unfold oO;refine AT (.nil w) (elI aZ) rfl af af λs1 w2 h n1=>ot (fun(x:Int×Int) w'=> ∃dn rest acc n,l=dn++rest∧x=(n,(dn.length:Int))∧my 0 l=acc++my n rest∧acc.length=dn.length∧St w w' [bG 1 s1 (Go.Ev.ints acc++dU rest.length (.int .i64 0))])
  (λx _=>((s.n:Int) - x.2).toNat) ⟨[],l,[],0,rfl,rfl,rfl,rfl,by simpa[hl,Go.Ev.ints]using h⟩ ?_
 rintro x i ⟨dn,rest,acc,n,hlr,rfl,hd,ha,h⟩ C hC;cases rest with
 |nil=>
  refine aU (by simp only[decide_eq_false_iff_not];rw[←hl,hlr];simp) ?_
  refine hc s1 i ?_ (n1.trans hl.symm);simp[my]at hd;rw[hd];simpa using h
 |cons x rest=>
  have hlen:l.length=dn.length+(rest.length+1):=by rw[hlr];simp
  refine bK (by simp only[decide_eq_true_eq];omega) ?_
  refine ixC (hr.ext h.ext) hlr rfl λp h5 hcell=>Ho (by simp[Go.Ev.ints,h5]) hcell ?_
  refine aM h λg t h=>m7 h rfl (by simp[Go.Ev.ints,h5]) (by simp[Go.Ev.ints,Value.oneCell']) λj h=> ?_
  refine KX h af af af λg1 o m hrd c=>c h inferInstance 0 _ _ af rfl λa h=>cr h (by rw[m8 af]) ?_
  have q:aF .i64 ((dn.length:Int)+1)=((dn++[x]).length:Int):=by rw[dh ⟨af,af⟩];simp
  have r:(Go.Ev.ints acc++dU (rest.length+1) (Value.int .i64 0)).set ((dn.length:Int).toNat*1+0) (Value.int .i64 n)=Go.Ev.ints (acc++[n])++dU rest.length (Value.int .i64 0):=by
   have e:(dn.length:Int).toNat*1+0=(Go.Ev.ints acc).length+0:=by simp[Go.Ev.ints,ha]
   rw[e,List.set_append_right (h:=by omega),Nat.add_sub_cancel_left]
   simp[Go.Ev.ints,List.replicate_succ]
  have h:St w a [au g (Go.Ev.ints x).toArray.toList,bG 1 s1 (Go.Ev.ints (acc++[n])++dU rest.length (Value.int .i64 0))]:=by rw[←r];exact h
  have b:∀n',n'=BS n x→C (n',aF .i64 ((dn.length:Int)+1)) a:=by
   rintro n' rfl;rw[q];refine hC _ _ ⟨dn++[x],rest,acc++[n],BS n x,by simp[hlr],rfl,by rw[hd];simp[my],by simp[ha],?_⟩ ?_
   ·exact h.drop
   ·simp;omega
  unfold BS at b;refine ax (λhb=> ?_) λhb=> ?_
  ·simp only[beq_iff_eq]at hb;exact b _ (by rw[if_pos hb])
  ·have hb':¬gA x=11:=by simpa using hb
   refine ax (λd=> ?_) λd=> ?_
   ·have f:gA x=12:=by simpa using d
    exact b _ (by rw[if_neg hb',if_pos f])
   ·have f:¬gA x=12:=by simpa using d
    exact b _ (by rw[if_neg hb',if_neg f])
structure Fl where
 held:List Int
 pL:List Bool
 todo:List Int
def Sr(l:List Bool):List Value:=l.map Value.bool
def Fl.now(F:Fl)(i hv:Int):Int:=oH .i64 (F.held.getD i.toNat 0) hv
def Fl.stay(F:Fl)(i hv:Int):Bool:=F.pL.getD i.toNat false&&(F.now i hv==F.held.getD i.toNat 0)
def Fl.meet(F:Fl)(i hv:Int):Fl:=if F.stay i hv then F else{held:=F.held.set i.toNat (F.now i hv),pL:=F.pL.set i.toNat true,todo:=F.todo++[i]}
def auq(g:Nat)(code:Sl)(F:Fl)(p:Sl×Sl×Sl):List HP:=
 [au g [.slice code.a code.n code.c,.slice p.1.a p.1.n p.1.c,.slice p.2.1.a p.2.1.n p.2.1.c,.slice p.2.2.a p.2.2.n p.2.2.c],bG 1 p.1 (ints F.held),bG 1 p.2.1 (Sr F.pL),bG 1 p.2.2 (ints F.todo)]
def MH(g:Nat)(x:Sl×Fl):HP:=Gt λp=>l9 (auq g x.1 x.2 p)
variable{f:HP→List HP}{hv:Int}
section
variable{w0:World}{L:List HP}{g:Nat}{code:Sl}{F:Fl}
def ac9{R:List HP}(h:St w0 w (MH g (code,F)::R)):∃s1 s2 s3:Sl,St w0 w (au g [.slice code.a code.n code.c,.slice s1.a s1.n s1.c,.slice s2.a s2.n s2.c,.slice s3.a s3.n s3.c]::bG 1 s1 (ints F.held)::bG 1 s2 (Sr F.pL)::bG 1 s3 (ints F.todo)::R):=by
 obtain⟨p,h⟩:=h.some;exact⟨p.1,p.2.1,p.2.2,h.open⟩
def V3{R:List HP}{s1 s2 s3:Sl}(h:St w0 w (au g [.slice code.a code.n code.c,.slice s1.a s1.n s1.c,.slice s2.a s2.n s2.c,.slice s3.a s3.n s3.c]::bG 1 s1 (ints F.held)::bG 1 s2 (Sr F.pL)::bG 1 s3 (ints F.todo)::R)):St w0 w (MH g (code,F)::R):=
 St.ex (s1,s2,s3) (St.shut h)
def aur{l:List Bool}{i:Nat}(h:i<l.length):(Sr l)[i]?=some (.bool (l.getD i false)):=by simp[Sr,h]
def aym{xs:List Bool}{c:Bool→Prop}(h:St w0 w L)[a:At L (bG 1 s) (Sr xs) f](h0:0≤i)(h1:i<xs.length)(hc:c (xs.getD i.toNat false)):cN s i 1 λa=>He w a c:=by
 have hn:xs.length=s.n:=by have:=h.Gs (sz:=1) (s:=s);simpa[Sr]using this
 refine KX h af h0 af λg o _ hr _=>akB ?_ hc;have:=hr h 0 _ af (aur af);simpa using this
def apw{xs:List Bool}{x:Bool}{c:ap}(h:St w0 w L)[a:At L (bG 1 s) (Sr xs) f](h0:0≤i)(h1:i<xs.length)(hc:∀w',St w0 w' (f (bG 1 s (Sr (xs.set i.toNat x))))→c w'):cN s i 1 λa=>bN w a (.bool x) c:=by
 have hn:xs.length=s.n:=by have:=h.Gs (sz:=1) (s:=s);simpa[Sr]using this
 refine KX h af h0 af λg o _ _ hs=> ?_;have:=hs h a 0 (.bool x) c af rfl λw' h'=>hc w' (by
  have e:(Sr xs).set (i.toNat*1+0) (.bool x)=Sr (xs.set i.toNat x):=by simp[Sr,List.map_set]
  rwa[e]at h')
 simpa using this
def anM{k:Unit→ap}(h:St w0 w L)[a:At L (MH g) (code,F) f](h0:0≤i)(h1:i<F.held.length)(hl:F.pL.length=F.held.length)(hb:(F.todo.length+1)*8≤140737488355328)
  (hc:∀w',St w0 w' (f (MH g (code,F.meet i hv)))→k () w'):jF (some ⟨g,0,none⟩) i hv w k:=by
 obtain⟨R,ho,G⟩:=a.out;obtain⟨s1,s2,s3,hS⟩:=ac9 (ho h);unfold jF;refine bc (ea hS rfl (zB hS h0 h1 ?_));have fin:∀b,b=F.stay i hv→an b (k () w) (
  drew w λw16=>nn (some ⟨g,0,none⟩) λq=>cy w16 (aY q 2) λr=>nn (some ⟨g,0,none⟩) λt=>cy w16 (aY t 1) λu=>
  cN r i 1 λv=>bN w16 v (.bool true) λo=>cN u i 1 λy=>bN o y (.int .i64 (oH .i64 (F.held.getD i.toNat 0) hv)) λd=>
  nn (some ⟨g,0,none⟩) λz=>cy d (aY z 3) λj=>aE d #[(.int .i64 i)] 3 λA p=>
  og Tryz.prog #[69,69] 69 [(.slice j.a j.n j.c),(.slice (some A) 1 1)] p λl B=>
  nn (some ⟨g,0,none⟩) λC=>bN B (aY C 3) (.slice l.a l.n l.c) λm=>k () m):=by
  rintro b rfl;refine ax (λhst=> ?_) λhst=> ?_
  ·have e:F.meet i hv=F:=by unfold Fl.meet;rw[if_pos hst]
   have:=hc w;rw[e]at this;exact this (G (ho h))
  ·have e:F.meet i hv={held:=F.held.set i.toNat (F.now i hv),pL:=F.pL.set i.toNat true,todo:=F.todo++[i]}:=by unfold Fl.meet;rw[if_neg (by simp[hst])]
   rw[e]at hc;refine cH hS λw16 hS=>bc (ea hS rfl (bc (ea hS rfl ?_)));refine apw hS h0 af λo hS=>zC hS h0 h1 λd hS=>bc (ea hS rfl ?_);have H:F.todo.length=s3.n:=by have:=hS.Gs (sz:=1) (s:=s3);simpa using this
   refine aM hS λgn p hS=>M9 (x:=⟨some ⟨gn,0,none⟩,1,1⟩) hS (elI aZ) aZ (WJ (n:=1) hS.au rfl 1) (by simp[Value.oneCell']) (by simp only;omega) (by simp only;omega) λI J hS K=> ?_
   have hS:=hS.drop;refine bc (j4 hS rfl bf λm hS=>hc m (G (V3 (s1:=s1) (s2:=s2) (s3:=I) ?_)));simpa[ints,Fl.now]using hS
 unfold cz;refine bc (ea hS rfl (aym hS h0 af ?_));refine ax (λD=> ?_) λD=> ?_
 ·refine bc (ea hS rfl (zB hS h0 h1 ?_));exact fin _ (by unfold Fl.stay Fl.now;rw[D,Bool.true_and])
 ·exact fin _ (by unfold Fl.stay;rw[D,Bool.false_and])
end
def elB{P:Program}{t:TypeId}(h:S0 P t=some (1,1,some (.bool false))):ET P t 1 1 (.bool false):=⟨h,rfl⟩
def Y3(n:Nat):dU n (Value.int .i64 0)=ints (dU n 0):=by simp[ints]
def aut(n:Nat):dU n (Value.bool false)=Sr (dU n false):=by simp[Sr]
def qd(x:List Int):Bool:=(gA x==6)||(gA x==7)
def EL(x:List Int):Bool:=(gA x==16)||(gA x==15)
def yA(n:Nat)(x:List Int):Bool:=qd x&&decide (0≤x.getD 4 0∧x.getD 4 0<n)
def yB(n:Nat)(i:Int)(x:List Int):Bool:=(gA x !=6)&& !EL x&&decide (aF .i64 (i+1)<n)
def behind(n:Nat)(i:Int)(x:List Int):List Int:=(if yA n x then [x.getD 4 0]else [])++(if yB n i x then [aF .i64 (i+1)]else [])
variable{w0:World}{Y:Nat→bt}
def apx{Lk:List Int→List HP}{code:Sl}{ca ci:Addr}{lo:Nat}{k:Unit→ap}
  (h:St w0 w (Lk [])) (K:0≤i) (hx:l[i.toNat]?=some x)
  (hcell:∀{w ks},St w0 w (Lk ks)→w.cell? ca=some (.slice code.a code.n code.c)∧w.cell? ci=some (.int .i64 i)∧tP w code l)
  (hy:∀{B:HP} {ks:List Int} {z:Int} {w:World} {c:Value→ap},St w0 w (B::Lk ks)→ks++[z] <+:behind code.n i x→(∀w',St w0 w' (B::Lk (ks++[z]))→c (.bool true) w')→Y lo [.int .i64 z] w c)
  (hc:∀w',St w0 w' (Lk (behind code.n i x))→k () w'):xB Y (.func (.yield lo) #[] #[]) ca ci w k:=by
 unfold xB D6;obtain⟨hs,hi,hcd⟩:=hcell h;have J:i.toNat<l.length:=(kB.1 hx).1;have hn:=hcd.len;have C:l=l.take i.toNat++x::l.drop (i.toNat+1):=by
  obtain⟨_,e⟩:=kB.1 hx;rw[←e,List.getElem_cons_drop,List.take_append_drop]
 refine IY hs (uZ hi (ixC hcd C (by simp;omega) λp h5 hp=>Ho (by simp[Go.Ev.ints,h5]) hp ?_))
 refine aM h λg M h=>m7 h rfl (by simp[Go.Ev.ints,h5]) (by simp[Go.Ev.ints,Value.oneCell']) λD h=> ?_
 have ld:∀{w:World} {L:List HP} {o:Nat} {c:Int→Prop},St w0 w (au g (Go.Ev.ints x).toArray.toList::L)→o<5→c (x.getD o 0)→aJ .i64 w (aY ⟨g,0,none⟩ o) c:=by
  intro w L o c h ho hc;have:=cr (g:=g) (k:= .i64) h (gq (m8 (x:=x) (j:=o) af)) hc
  rw[dg,Nat.zero_add];exact this
 have m:∀d,St w0 d (au g (Go.Ev.ints x).toArray.toList::Lk (if yA code.n x then [x.getD 4 0]else []))→an false (k () d) (cz (λs=>
   aJ .i64 d (aY ⟨g,0,none⟩ 0) λi22=>
   an (i22 !=(6:Int)) (
    aJ .i64 d (aY ⟨g,0,none⟩ 0) λi23=>
    ju i23 d λF q=>
    an (!F) (
     aJ .i64 q ci λi26=>
     cy q ca λG=>
     (s (decide ((aF .i64 (i26+(1:Int)))<((G.n:Nat):Int))) q)) (
     (s false q))) (
    (s false d))) λH t=>
  an H (
   aJ .i64 t ci λi30=>
   nj (J0 [(sE,(λargs w c=>qW [(.i .i64)] args λx=>jU x w λr w=>c (e9 (dL [.b] r)) w)),(sF,(λargs w c=>qW [(.i .i64)] args λx=>ju x w λr w=>c (e9 (dL [.b] r)) w))] Y) (.func (.yield lo) #[] #[]) #[(.int .i64 (aF .i64 (i30+(1:Int))))] t λu v=>
   Ir u λI=>
   (k () v)) (
   (k () t))):=by
  intro d h;refine aU rfl ?_;unfold cz;obtain⟨hs,hi,_⟩:=hcell h.drop;have last:∀b,b=yB code.n i x→an b (
    aJ .i64 d ci λi30=>
    nj (J0 [(sE,(λargs w c=>qW [(.i .i64)] args λx=>jU x w λr w=>c (e9 (dL [.b] r)) w)),(sF,(λargs w c=>qW [(.i .i64)] args λx=>ju x w λr w=>c (e9 (dL [.b] r)) w))] Y) (.func (.yield lo) #[] #[]) #[(.int .i64 (aF .i64 (i30+(1:Int))))] d λu v=>
    Ir u λI=>(k () v)) (k () d):=by
   rintro b rfl;refine ax (λhb=> ?_) λhb=> ?_
   ·refine uZ hi (QS (hy h ?_ λw' h=>hc w' ?_))
    ·unfold behind;rw[if_pos hb];exact List.prefix_refl _
    ·have:=h.drop;unfold behind;rw[if_pos hb];exact this
   ·refine hc d ?_;have e:behind code.n i x=if yA code.n x then [x.getD 4 0]else []:=by unfold behind;rw[hb];simp
    rw[e];exact h.drop
  refine ld h af<|ax (λh6=> ?_) λh6=> ?_
  ·refine ld h af ?_;show an _ _ _;refine ax (λhe=> ?_) λhe=> ?_
   ·refine uZ hi (IY hs (last _ ?_));have he':EL x=false:=by simpa[EL]using he
    have y:(gA x !=6)=true:=h6;unfold yB;rw[y,he'];simp
   ·refine last _ ?_;have he':EL x=true:=by
     cases hE:EL x with
     |true=>rfl
     |false=>exact absurd he (by unfold EL at hE;simp only[gA]at hE;rw[hE];simp)
    unfold yB;rw[he'];simp
  ·refine last _ ?_;have y:(gA x !=6)=false:=h6;unfold yB;rw[y];simp
 unfold cz;refine ld h af ?_;show an _ _ _;refine ax (λhg=> ?_) λhg=> ?_
 ·have A:qd x=true:=hg;refine ld h af<|ax (λh4=> ?_) λh4=> ?_
  ·simp only[decide_eq_true_eq]at h4;obtain⟨hs,_,_⟩:=hcell h.drop;refine ld h af (IY hs ?_);refine ax (λf=> ?_) λf=> ?_
   ·simp only[decide_eq_true_eq]at f;have hA:yA code.n x=true:=by unfold yA;rw[A,decide_eq_true ⟨h4,f⟩];rfl
    refine ld h af (QS (hy h ?_ λw' h=> ?_))
    ·unfold behind;rw[if_pos hA];exact List.prefix_append _ _
    ·refine m w' ?_;rw[if_pos hA];exact h
   ·simp only[decide_eq_false_iff_not]at f;have hA:yA code.n x=false:=by unfold yA;rw[A,decide_eq_false (λh=>f h.2)];rfl
    refine m D ?_;rw[hA];exact h
  ·simp only[decide_eq_false_iff_not]at h4;have hA:yA code.n x=false:=by unfold yA;rw[A,decide_eq_false (λh=>h4 h.1)];rfl
   refine m D ?_;rw[hA];exact h
 ·have A:qd x=false:=hg;have hA:yA code.n x=false:=by unfold yA;rw[A];rfl
  refine m D ?_;rw[hA];exact h
def aAg{m:Nat}(h:m<2 ^ 63):(bv (m:Int)).toNat=m:=by
 rw[BitVec.toNat_ofInt];omega
def aje{b:BitVec 64}(h:b.toNat<2 ^ 63):b.toInt=b.toNat:=by
 rw[BitVec.toInt_eq_toNat_cond];split<;>omega
variable{b:Int}
def ayn{a:Int}(h0:0≤a)(h1:a≤255):0≤oH .i64 a b∧oH .i64 a b≤a:=by
 rw[QJ];have e:(bv a).toNat=a.toNat:=by
  have:=aAg (m:=a.toNat) af;rwa[Int.toNat_of_nonneg h0]at this
 have h2:(bv a&&&bv b).toNat≤a.toNat:=by rw[BitVec.toNat_and,e];exact Nat.and_le_left
 rw[aje af];omega
def MI(x:List Int)(h:Int):Int:=if gA x=8∧0≤x.getD 1 0∧x.getD 1 0<8 then Ti .i64 h (sD .i64 1 (x.getD 1 0))else h
def Fl.meets(hv:Int)(F:Fl)(zs:List Int):Fl:=zs.foldl (λF z=>F.meet z hv) F
def Fl.step(l:List (List Int))(F:Fl):Fl:=match F.todo with
 |[]=>F
 |i::t=>Fl.meets (MI (l.getD i.toNat []) (F.held.getD i.toNat 0)) {F with todo:=t} (behind l.length i (l.getD i.toNat []))
structure Fl.OK (n:Nat) (F:Fl):Prop where
 held:F.held.length=n
 pL:F.pL.length=n
 bits:∀h∈F.held,0≤h∧h≤255
 todo:∀i∈F.todo,0≤i∧i<n
def afj(l:List Int):Nat:=(l.map Int.toNat).sum
def afk(l:List Bool):Nat:=(l.map λb=>if b then 0 else 1).sum
def Fl.mu(F:Fl):Nat:=3*(afj F.held+afk F.pL)+F.todo.length
def afl:∀{l:List Int} {i:Nat} {a:Int},i<l.length→afj (l.set i a)+(l.getD i 0).toNat=afj l+a.toNat
 |[],i,a,h=>by simp at h
 |x::l,0,a,h=>by simp[afj];omega
 |x::l,i+1,a,h=>by
  have:=afl (a:=a) (gq h)
  simp[afj]at this ⊢;omega
def afm:∀{l:List Bool} {i:Nat},i<l.length→afk (l.set i true)+(if l.getD i false then 0 else 1)=afk l
 |[],i,h=>by simp at h
 |x::l,0,h=>by cases x<;>simp[afk] <;>omega
 |x::l,i+1,h=>by
  have:=afm (gq h)
  simp[afk]at this ⊢;omega
variable{n:Nat}{F:Fl}
def JB(h:F.OK n)(h0:0≤i)(h1:i<n):(F.meet i hv).OK n∧(F.meet i hv).mu≤F.mu:=by
 unfold Fl.meet;split
 ·exact⟨h,iw _⟩
 ·rename_i hst;have hi:i.toNat<F.held.length:=by rw[h.held];omega
  have c:i.toNat<F.pL.length:=by rw[h.pL];omega
  have hb:=h.bits (F.held.getD i.toNat 0) (by
   have e:F.held.getD i.toNat 0=F.held[i.toNat]:=by simp[hi]
   rw[e];exact List.getElem_mem hi)
  have ha:=ayn (b:=hv) hb.1 hb.2;refine⟨⟨by simp[h.held],by simp[h.pL],λx hx=> ?_,λz hz=> ?_⟩,?_⟩
  ·rcases List.mem_or_eq_of_mem_set hx with hx|rfl
   ·exact h.bits x hx
   ·unfold Fl.now;omega
  ·rcases zw.1 hz with hz|hz
   ·exact h.todo z hz
   ·simp at hz;omega
  ·have e1:=afl (a:=F.now i hv) hi;have e2:=afm c;simp only[Fl.mu,uv,List.length_singleton];unfold Fl.stay at hst;unfold Fl.now at e1 hst ⊢;cases d:F.pL.getD i.toNat false with
   |false=>rw[d]at e2;simp at e2;omega
   |true=>
    rw[d]at hst e2;simp only[Bool.true_and,beq_iff_eq]at hst;simp at e2;omega
def Ta{n:Nat}{hv:Int}:∀{zs:List Int} {F:Fl},F.OK n→(∀z∈zs,0≤z∧z<n)→(Fl.meets hv F zs).OK n∧(Fl.meets hv F zs).mu≤F.mu
 |[],F,h,_=>⟨h,iw _⟩
 |z::zs,F,h,hz=>by
  have h1:=JB (hv:=hv) h (hz z bf).1 (hz z bf).2;have h2:=Ta (hv:=hv) (zs:=zs) h1.1 λy hy=>hz y (by simp[hy])
  exact⟨h2.1,Nat.le_trans h2.2 h1.2⟩
def JC(hn:n≤4294967296)(h0:0≤i)(h1:i<n):∀z∈behind n i x,0≤z∧z<n:=by
 intro z hz;have hw:aF .i64 (i+1)=i+1:=dh ⟨af,af⟩;unfold behind at hz;rcases zw.1 hz with hz|hz
 ·split at hz
  ·rename_i hA;simp only[List.mem_singleton]at hz;subst hz;unfold yA at hA;simp only[iY,decide_eq_true_eq]at hA;exact hA.2
  ·cases hz
 ·split at hz
  ·rename_i hB;simp only[List.mem_singleton]at hz;subst hz;unfold yB at hB;simp only[iY,decide_eq_true_eq]at hB;rw[hw]at hB ⊢;exact⟨af,hB.2⟩
  ·cases hz
def auu(hn:l.length≤4294967296)(h:F.OK l.length)(ht:F.todo≠ []):(F.step l).OK l.length∧(F.step l).mu<F.mu:=by
 unfold Fl.step;split
 ·rename_i e;exact(ht e).elim
 ·rename_i i t e;have hi:=h.todo i (by rw[e];simp)
  have h':Fl.OK l.length {F with todo:=t}:=⟨h.held,h.pL,h.bits,λz hz=>h.todo z (by rw[e];simp[hz])⟩
  have h2:=Ta (hv:=MI (l.getD i.toNat []) (F.held.getD i.toNat 0)) h' (JC (x:=l.getD i.toNat []) hn hi.1 hi.2);refine⟨h2.1,Nat.lt_of_le_of_lt h2.2 ?_⟩;simp only[Fl.mu,e,List.length_cons];omega
def ahk{G S:Type}{f:(S→ap)→S→ap}(I:G→S→ap)(μ:G→Nat){g:G}{s:S}(h0:I g s w)
  (h:∀g s w,I g s w→∀C:S→ap,(∀g' s' w',I g' s' w'→μ g'<μ g→C s' w')→f C s w):jD f s w:=by
 have key:∀n g s w,μ g≤n→I g s w→jV f (n+1) s w:=by
  intro n;induction n with
  |zero=>intro g s w hn hI;exact h g s w hI _ λg' s' w' _ hlt=>by omega
  |succ n ih=>intro g s w hn hI;exact h g s w hI _ λg' s' w' a hlt=>ih g' s' w' af a
 exact⟨_,key _ g s w (iw _) h0⟩
def ajf(hv:Int)(F:Fl)(ks:List Int)(z:Int):F.meets hv (ks++[z])=(F.meets hv ks).meet z hv:=by simp[Fl.meets]
variable{c:Value→ap}
def My{d:(Nat→bt)→bt}{args:List Value}(h:d Y args w c):Df [(n,d)] n Y args w c:=by
 unfold Df;rw[Nat.beq_refl];exact h
variable{a:Addr}
def auv{v:Value}{b:Addr}(h:xB Y v a b w λr w=>c (.tuple #[]) w):rL Y [v,.pointer (some a),.pointer (some b)] w c:=h
variable{w':World}{g:Nat}
def ayo{gp gh ga:Nat}{nv:Value}{ds:List Nat}{C:Unit×List Nat→ap}
  (hS:St w w' [au gh [.int .i64 hv],MH g (s,F),au gp [.pointer (some ⟨g,0,none⟩)],I6 ds,au ga [nv,.slice s.a s.n s.c]]) (hr:tP w s l) (hF:F.OK l.length) (G:F.mu≤1000000) (hn:l.length≤1000) (t:0≤i) (hx:l[i.toNat]?=some x)
  (hc:∀D w'',St w w'' [I6 (D::ds),MH g (s,F.meets hv (behind l.length i x)),au gp [.pointer (some ⟨g,0,none⟩)],au ga [nv,.slice s.a s.n s.c]]→C ((),D::ds) w''):
  oP s i w' λd f=>Cg (Df [(rH,rL)]) [.i .i64] d f (fun(j:Int) b k=>aQ b ⟨gp,0,none⟩ λm=>aJ .i64 b ⟨gh,0,none⟩ λi157=>jF m j i157 b λ_u o=>k o) λq p=>C ((),q::ds) p:=by
 have H:i.toNat<l.length:=(kB.1 hx).1;have u:=hr.len;unfold oP;refine aM hS λgc w1 hS=>aM hS λv w2 hS=>S1 hS λlr D R w3 hS=>My (auv ?_);refine apx (Lk:=λks=>[obj lr (R .ready),obj D (.deferred (some [])),au v [.int .i64 i],au gc [.slice s.a s.n s.c],au gh [.int .i64 hv],MH g (s,F.meets hv ks),au gp [.pointer (some ⟨g,0,none⟩)],I6 ds,au ga [nv,.slice s.a s.n s.c]])
  hS t hx (fun{w ks} h=>⟨?_,?_,hr.ext h.ext⟩) (fun{B ks z w c} h hp r=> ?_) λK h=> ?_
 ·rw[(h.au).cell];rfl
 ·rw[(h.au).cell];rfl
 ·rw[u]at hp;have hin:=JC (x:=x) (n:=l.length) af t af;have hpre:∀y∈ks++[z],0≤y∧y<l.length:=λy hy=>hin y (hp.subset hy);have hz:=hpre z bf;have hks:=Ta (hv:=hv) (zs:=ks) hF λy hy=>hpre y (by simp[hy])
  refine amZ z (λc hc=>hc) h λA h=>CC h rfl (cr h rfl ?_);have hlen:(F.meets hv ks).todo.length≤(F.meets hv ks).mu:=by unfold Fl.mu;omega
  have I:=hks.2;refine anM h hz.1 (by rw[hks.1.held];exact hz.2) (by rw[hks.1.held,hks.1.pL]) af λL h=> ?_
  rw[←ajf]at h;exact ace h λJ h=>r J h
 ·have e:behind s.n i x=behind l.length i x:=by rw[u]
  simp only[e]at h;refine ace h λA h=>hc D A ?_;have h:=h.perm (M:=[obj D (.deferred (some [])),I6 ds,MH g (s,F.meets hv (behind l.length i x)),au gp [.pointer (some ⟨g,0,none⟩)],au ga [nv,.slice s.a s.n s.c],obj lr (R .exhausted),au v [.int .i64 i],au gc [.slice s.a s.n s.c],au gh [.int .i64 hv]]) Hp;have h:=LK h;exact((((h.rm 7 rfl).rm 6 rfl).rm 5 rfl).rm 4 rfl)
def bP{S:Type}{body:(S→ap)→Prop}{rest:S→ap}(Inv:S→ap)(h2:∀J:S→ap,(∀s w,Inv s w→J s w)→body J)(h1:∀s w,Inv s w→rest s w):cz body rest:=h2 rest h1
def A2(g gp ga:Nat)(s s1 s2:Sl)(aX:Int)(n:Nat):List HP:=[au g [.slice s.a s.n s.c,.slice s1.a s1.n s1.c,.slice s2.a s2.n s2.c,.slice none 0 0],bG 1 s1 (dU n (.int .i64 0)),bG 1 s2 (dU n (.bool false)),au gp [.pointer (some ⟨g,0,none⟩)],au ga [.int .i64 aX,.slice s.a s.n s.c]]
def anN(w:World)(ga:Nat)(s:Sl)(aX:Int)(a:Addr)(w':World):Prop:=∃g gp s1 s2,a=⟨gp,0,none⟩∧s1.n=s.n∧St w w' (A2 g gp ga s s1 s2 aX s.n)
variable{aX:Int}{L:List HP}
def leaf{gp ga:Nat}{s1 s2:Sl}{J:Addr→ap}(b:∀a w',anN w ga s aX a w'→J a w')(h:St w w' L)(n1:s1.n=s.n)(hp:L.Perm (A2 g gp ga s s1 s2 aX s.n)):J ⟨gp,0,none⟩ w':=
 b _ _ ⟨g,gp,s1,s2,rfl,n1,h.perm hp⟩
def EM(n:Nat):Fl:=⟨dU n 255,dU n false,[]⟩
def Fl.steps(l:List (List Int)):Nat→Fl→Fl
 |0,F=>F
 |m+1,F=>(Fl.steps l m F).step l
def Reached(l:List (List Int))(aX:Int)(F:Fl):Prop:=F.todo=[]∧(l=[]→F=EM 0)∧(l≠ []→∃m,F=Fl.steps l m ((EM l.length).meet 0 (oH .i64 aX 255)))
def anO(n:Nat):(EM n).OK n:=⟨by simp[EM],by simp[EM],λh hh=>by simp[EM]at hh;omega,λi hi=>by simp[EM]at hi⟩
def ayp{k:Sl→ap}(hr:tP w s l)(hn:s.n≤1000)
  (hc:∀F s' w',Reached l aX F→St w w' [bG 1 s' (ints F.held)]→k s' w'):pA #[.int .i64 aX,.slice s.a s.n s.c] w k:=by
 unfold pA K7;refine aM (.nil w) λga w2 h0=> ?_;refine ea (g:=ga) (o:=1) h0 rfl ?_;refine bP (anN w ga s aX) (λJ f=> ?_) λZ w76 hI=> ?_
 ·refine cH h0 λw5 h=>ea (g:=ga) (o:=1) h rfl ?_;have h5:=h;refine⟨?_,?_⟩
  ·refine AT (n:=s.n) h (elI aZ) rfl af af λs1 _ h n1=>eD h5 h ?_;refine⟨?_,?_⟩
   ·refine AT (n:=s.n) h (elB aZ) rfl af af λs2 _ h _=>eD h5 h ?_;refine⟨?_,?_⟩
    ·refine⟨?_,?_⟩
     ·refine aM h λg _ h=> ?_;refine aM h λgp _ h=>eD h5 h ?_;refine j4 (g:=gp) h rfl bf λ_ h=>leaf (g:=g) (s2:=s2) f h n1 ?_;unfold A2;exact Hp
     ·refine aM h λgp _ h=>eD h5 h ?_;refine aM h λg _ h=> ?_;refine j4 (g:=gp) h rfl bf λ_ h=>leaf (g:=g) (s2:=s2) f h n1 ?_;unfold A2;exact Hp
    ·refine aM h λgp _ h=>eD h5 h ?_;refine aM h λg _ h=> ?_;refine j4 (g:=gp) h rfl bf λ_ h=>leaf (g:=g) (s2:=s2) f h n1 ?_;unfold A2;exact Hp
   ·refine aM h λgp _ h=>eD h5 h ?_;refine AT (n:=s.n) h (elB aZ) rfl af af λs2 _ h _=>eD h5 h ?_;refine aM h λg _ h=> ?_;refine j4 (g:=gp) h rfl bf λ_ h=>leaf (g:=g) (s2:=s2) f h n1 ?_;unfold A2;exact Hp
  ·refine⟨?_,?_⟩
   ·refine AT (n:=s.n) h (elB aZ) rfl af af λs2 _ h _=>eD h5 h ?_;refine⟨?_,?_⟩
    ·refine AT (n:=s.n) h (elI aZ) rfl af af λs1 _ h n1=>eD h5 h ?_;refine⟨?_,?_⟩
     ·refine⟨?_,?_⟩
      ·refine aM h λg _ h=> ?_;refine aM h λgp _ h=>eD h5 h ?_;refine j4 (g:=gp) h rfl bf λ_ h=>leaf (g:=g) (s2:=s2) f h n1 ?_;unfold A2;exact Hp
      ·refine aM h λgp _ h=>eD h5 h ?_;refine aM h λg _ h=> ?_;refine j4 (g:=gp) h rfl bf λ_ h=>leaf (g:=g) (s2:=s2) f h n1 ?_;unfold A2;exact Hp
     ·refine aM h λgp _ h=>eD h5 h ?_;refine aM h λg _ h=> ?_;refine j4 (g:=gp) h rfl bf λ_ h=>leaf (g:=g) (s2:=s2) f h n1 ?_;unfold A2;exact Hp
    ·refine aM h λgp _ h=>eD h5 h ?_;refine AT (n:=s.n) h (elI aZ) rfl af af λs1 _ h n1=>eD h5 h ?_;refine aM h λg _ h=> ?_;refine j4 (g:=gp) h rfl bf λ_ h=>leaf (g:=g) (s2:=s2) f h n1 ?_;unfold A2;exact Hp
   ·refine aM h λgp _ h=>eD h5 h ?_;refine⟨?_,?_⟩
    ·refine AT (n:=s.n) h (elI aZ) rfl af af λs1 _ h n1=>eD h5 h ?_;refine AT (n:=s.n) h (elB aZ) rfl af af λs2 _ h _=>eD h5 h ?_;refine aM h λg _ h=> ?_;refine j4 (g:=gp) h rfl bf λ_ h=>leaf (g:=g) (s2:=s2) f h n1 ?_;unfold A2;exact Hp
    ·refine AT (n:=s.n) h (elB aZ) rfl af af λs2 _ h _=>eD h5 h ?_;refine AT (n:=s.n) h (elI aZ) rfl af af λs1 _ h n1=>eD h5 h ?_;refine aM h λg _ h=> ?_;refine j4 (g:=gp) h rfl bf λ_ h=>leaf (g:=g) (s2:=s2) f h n1 ?_;unfold A2;exact Hp
 ·obtain⟨g,gp,s1,s2,rfl,n1,h⟩:=hI;unfold A2 at h;have ru:=Y3 s.n;simp only[ru]at h;refine CC (g:=gp) (o:=0) (n:=some ⟨g,0,none⟩) h rfl (bc (ea (g:=g) (o:=1) h rfl ?_));refine bP (λ_ w'=>St w w' [au g [.slice s.a s.n s.c,.slice s1.a s1.n s1.c,.slice s2.a s2.n s2.c,.slice none 0 0],bG 1 s1 (ints (dU s.n 255)),bG 1 s2 (dU s.n (.bool false)),au gp [.pointer (some ⟨g,0,none⟩)],au ga [.int .i64 aX,.slice s.a s.n s.c]]) (λJ f=> ?_) λ_ A h=> ?_
  ·refine ot (fun(i:Int) w'=> ∃j:Nat,i=j∧j≤s.n∧St w w' [au g [.slice s.a s.n s.c,.slice s1.a s1.n s1.c,.slice s2.a s2.n s2.c,.slice none 0 0],bG 1 s1 (ints (dU j 255++dU (s.n - j) 0)),bG 1 s2 (dU s.n (.bool false)),au gp [.pointer (some ⟨g,0,none⟩)],au ga [.int .i64 aX,.slice s.a s.n s.c]])
    (λi _=>((s.n:Int) - i).toNat) ⟨0,rfl,af,by simpa using h⟩ ?_
   rintro i w83 ⟨j,rfl,hj,h⟩ C hC;refine ax (λhb=> ?_) λhb=> ?_
   ·simp only[decide_eq_true_eq]at hb;refine CC (g:=gp) (o:=0) (n:=some ⟨g,0,none⟩) h rfl (bc (ea (g:=g) (o:=1) h rfl (zC (s:=s1) (xs:=dU j 255++dU (s.n - j) 0) h af (by simp;omega) λw88 h=> ?_)))
    have hw:aF .i64 ((j:Int)+1)=((j+1:Nat):Int):=by rw[dh ⟨af,af⟩];simp
    rw[hw];refine hC _ _ ⟨j+1,rfl,af,?_⟩ af;have e:(dU j (255:Int)++dU (s.n - j) 0).set ((j:Int)).toNat 255=dU (j+1) 255++dU (s.n - (j+1)) 0:=by
     have e1:s.n - j=(s.n - (j+1))+1:=af;rw[iZ,List.set_append_right (h:=by simp),e1,List.length_replicate,Nat.sub_self,List.replicate_succ (n:=s.n - (j+1)),List.set_cons_zero,List.replicate_succ' (n:=j),List.append_assoc];rfl
    rw[e]at h;exact h
   ·simp only[decide_eq_false_iff_not]at hb;have e:j=s.n:=af;subst e;refine f () _ ?_;simpa using h
  ·have B:=hr.len;refine ax (λv=> ?_) λv=> ?_
   ·have hz:s.n=0:=by
     have:(s.n:Int)=0:=by simpa using v
     omega
    have hl:l=[]:=List.eq_nil_of_length_eq_zero af;refine CC (g:=gp) (o:=0) (n:=some ⟨g,0,none⟩) h rfl (bc (ea (g:=g) (o:=1) h rfl ?_));refine hc (EM 0) s1 A ⟨rfl,λ_=>rfl,λhne=>(hne hl).elim⟩ ?_;have e:ints (dU s.n 255)=ints (EM 0).held:=by rw[hz];rfl
    rw[←e];exact(((h.rm 4 rfl).rm 3 rfl).rm 2 rfl).rm 0 rfl
   ·have hz:s.n≠0:=by
     have:¬(s.n:Int)=0:=by simpa using v
     omega
    have hb0:=aut s.n;have h:=h.DJ 1;simp only[hb0]at h;have h:St w A [MH g (s,EM s.n),au gp [.pointer (some ⟨g,0,none⟩)],au ga [.int .i64 aX,.slice s.a s.n s.c]]:=
     V3 (F:=EM s.n) (s1:=s1) (s2:=s2) (s3:=⟨none,0,0⟩) (h.perm (by unfold EM;exact Hp))
    refine CC (g:=gp) (o:=0) (n:=some ⟨g,0,none⟩) h rfl (cr (g:=ga) (o:=0) h rfl ?_);refine anM (g:=g) (code:=s) (F:=EM s.n) h af (by simp[EM];omega) (by simp[EM]) (by simp[EM]) λw96 h=> ?_
    have h:=QR h;have hm0:=JB (hv:=oH .i64 aX 255) (i:=0) (anO l.length) af af;have aHX:(EM l.length).mu≤1000000:=by simp[Fl.mu,EM,afj,afk];omega
    refine ahk (G:=Fl) (λF x w'=>F.OK l.length∧F.mu≤1000000∧(∃m,F=Fl.steps l m ((EM l.length).meet 0 (oH .i64 aX 255)))∧St w w' [I6 x.2,MH g (s,F),au gp [.pointer (some ⟨g,0,none⟩)],au ga [.int .i64 aX,.slice s.a s.n s.c]]) Fl.mu
     (g:=(EM s.n).meet 0 (oH .i64 aX 255)) ⟨by rw[B];exact hm0.1,by rw[B];have:=hm0.2;omega,⟨0,by rw[B];rfl⟩,h⟩ ?_
    rintro F x w99 ⟨hF,hmu,⟨m,hm⟩,h⟩ C hC;obtain⟨t1,t2,t3,h⟩:=ac9 h.swap;refine CC (g:=gp) (o:=0) (n:=some ⟨g,0,none⟩) h rfl (bc (ea (g:=g) (o:=3) h rfl ?_));have H:F.todo.length=t3.n:=by have:=h.Gs (sz:=1) (s:=t3) (vs:=ints F.todo);simpa using this
    refine ax (λhe=> ?_) λhe=> ?_
    ·have he':(t3.n:Int)=0:=by simpa using he
     have hnil:F.todo=[]:=List.eq_nil_of_length_eq_zero af;refine CC (g:=gp) (o:=0) (n:=some ⟨g,0,none⟩) h rfl (bc (ea (g:=g) (o:=1) h rfl ?_));refine LL (h.front 4 rfl) λw' h=>hc F t1 w' ⟨hnil,λhl=> ?_,λ_=>⟨m,hm⟩⟩ ?_
     ·rw[hl]at B;exact(hz B).elim
     ·exact((((h.rm 5 rfl).rm 4 rfl).rm 3 rfl).rm 2 rfl).rm 0 rfl
    ·have he':¬(t3.n:Int)=0:=by simpa using he
     obtain⟨i,t,y⟩:∃i t,F.todo=i::t:=by
      cases e:F.todo with
      |nil=>rw[e]at H;simp at H;omega
      |cons i t=>exact⟨i,t,rfl⟩
     have hi:=hF.todo i (by rw[y];simp)
     have N:F.todo.getD (0:Int).toNat 0=i:=by rw[y];rfl
     refine CC (g:=gp) (o:=0) (n:=some ⟨g,0,none⟩) h rfl (bc (ea (g:=g) (o:=3) h rfl (zB (s:=t3) (xs:=F.todo) h af af ?_)));rw[N];refine cH h λS h=>CC (g:=gp) (o:=0) (n:=some ⟨g,0,none⟩) h rfl (CC (g:=gp) (o:=0) (n:=some ⟨g,0,none⟩) h rfl (bc (ea (g:=g) (o:=3) h rfl ?_)));refine arw (s:=t3) (vs:=ints F.todo) h af af λd hd h=>bc (j4 (g:=g) (o:=3) h rfl bf λT h=> ?_);refine CC (g:=gp) (o:=0) (n:=some ⟨g,0,none⟩) h rfl (bc (ea (g:=g) (o:=1) h rfl (zB (s:=t1) (xs:=F.held) h hi.1 (by rw[hF.held];exact hi.2) ?_)))
     refine aM h λgh U h=>j4 (g:=gh) (o:=0) h rfl bf λV h=> ?_;have O:i.toNat<l.length:=af;have hx:l[i.toNat]?=some l[i.toNat]:=iH O;have I:l=l.take i.toNat++l[i.toNat]::l.drop (i.toNat+1):=by rw[List.getElem_cons_drop,List.take_append_drop]
     generalize hxe:l[i.toNat]=q at hx I;refine ea (g:=ga) (o:=1) h rfl (ixC (hr.ext h.ext) I (by simp;omega) λp h5 hp=>Ho (by simp[Go.Ev.ints,h5]) hp ?_)
     refine aM h λgx W h=>m7 (g:=gx) h rfl (by simp[Go.Ev.ints,h5]) (by simp[Go.Ev.ints,Value.oneCell']) λr h=> ?_
     have ld:∀{o:Nat} {c:Int→Prop},o<5→c (q.getD o 0)→aJ .i64 r (aY ⟨gx,0,none⟩ o) c:=by
      intro o c ho hc;have:=cr (g:=gx) (o:=o) (k:= .i64) (n:=q.getD o 0) (c:=c) h (by simpa using m8 (x:=q) (j:=o) af) hc
      rw[dg,Nat.zero_add];exact this
     refine bP (λb w'=>b=decide (gA q=8∧0≤q.getD 1 0∧q.getD 1 0<8)∧w'=r) (λJ f=> ?_) ?_
     ·refine ld af (ax (λhb=> ?_) λhb=> ?_)
      ·have hb':gA q=8:=by simpa using hb
       refine ld af (ax (λP=> ?_) λP=> ?_)
       ·refine ld af (f _ _ ⟨?_,rfl⟩);have:=of_decide_eq_true P;rw[decide_eq_decide];exact⟨λh=>⟨hb',this,h⟩,λh=>h.2.2⟩
       ·have:=of_decide_eq_false P;exact f _ _ ⟨(decide_eq_false λh=>this h.2.1).symm,rfl⟩
      ·have hb':¬gA q=8:=by simpa using hb
       exact f _ _ ⟨(decide_eq_false λh=>hb' h.1).symm,rfl⟩
     rintro b K ⟨rfl,rfl⟩;have e1:(ints F.todo).drop ((1:Int).toNat*1)=ints t:=by rw[y];rfl
     simp only[e1]at h;have h:St w K [MH g (s,{F with todo:=t}),au gh [.int .i64 (F.held.getD i.toNat 0)],au gx (Go.Ev.ints q),au gp [.pointer (some ⟨g,0,none⟩)],I6 x.2,au ga [.int .i64 aX,.slice s.a s.n s.c]]:=
      V3 (F:={F with todo:=t}) (s1:=t1) (s2:=t2) (s3:=d) (h.perm Hp)
     refine bP (λ_ w'=>St w w' [MH g (s,{F with todo:=t}),au gh [.int .i64 (MI q (F.held.getD i.toNat 0))],au gx (Go.Ev.ints q),au gp [.pointer (some ⟨g,0,none⟩)],I6 x.2,au ga [.int .i64 aX,.slice s.a s.n s.c]]) (λJ f=> ?_) λ_ X h=> ?_
     ·refine ax (λhb=> ?_) λhb=> ?_
      ·have hb':=of_decide_eq_true hb;refine cH h λL h=>cr (g:=gh) (o:=0) h rfl ?_;have Q:=cr (g:=gx) (o:=1) (k:= .i64) (n:=q.getD 1 0) (c:=λi143=>HI .i64 1 i143 λi144=>bN L ⟨gh,0,none⟩ (.int .i64 (Ti .i64 (F.held.getD i.toNat 0) i144)) λu=>J () u) h (m8 af);refine Q ⟨hb'.2.1,?_⟩;refine j4 (g:=gh) (o:=0) h rfl bf λu h=>f () _ ?_;unfold MI;rw[if_pos hb'];exact h
      ·have hb':=of_decide_eq_false hb;refine f () _ ?_;unfold MI;rw[if_neg hb'];exact h
     refine ea (g:=ga) (o:=1) h rfl ?_;have R:Fl.OK l.length {F with todo:=t}:=⟨hF.held,hF.pL,hF.bits,λz hz=>hF.todo z (by rw[y];simp[hz])⟩
     have hm1:Fl.mu {F with todo:=t}≤F.mu:=by simp only[Fl.mu,y,List.length_cons];omega
     have hst:F.step l=Fl.meets (MI q (F.held.getD i.toNat 0)) {F with todo:=t} (behind l.length i q):=by
      have e:l.getD i.toNat []=q:=by simp[hx]
      unfold Fl.step;rw[y];simp only[e]
     have Y:=auu (l:=l) af hF (by rw[y];simp)
     have h:=(h.rm 2 rfl).perm (M:=[au gh [.int .i64 (MI q (F.held.getD i.toNat 0))],MH g (s,{F with todo:=t}),au gp [.pointer (some ⟨g,0,none⟩)],I6 x.2,au ga [.int .i64 aX,.slice s.a s.n s.c]]) Hp;refine ayo (g:=g) (gp:=gp) (gh:=gh) (ga:=ga) (x:=q) (ds:=x.2) h hr R af af hi.1 hx λD w'' h=> ?_;rw[←hst]at h;exact hC (F.step l) _ _ ⟨Y.1,af,⟨m+1,by show F.step l=(Fl.steps l m _).step l;rw[←hm]⟩,h⟩ Y.2
structure Wy where
 out:List Bool
 todo:List Int
def xo(x:List Int)(h:Int):Bool:=(gA x==8)&&(x.getD 1 0==h)
def W0(n:Nat):Wy:=⟨(dU n false).set 0 true,[0]⟩
inductive Way (l:List (List Int)) (h:Int):Int→Prop
 |zero:Way l h 0
 |next {i z:Int}:Way l h i→xo (l.getD i.toNat []) h=false→z∈behind l.length i (l.getD i.toNat [])→Way l h z
def KM(x y:Int){i:Nat}(h:i<64):tb (oH .i64 x y) i=(tb x i&&tb y i):=by
 unfold tb;rw[QJ,DH];simp
def aBO(x y:Int){i:Nat}(h:i<64):tb (Ti .i64 x y) i=(tb x i||tb y i):=by
 unfold tb;rw[agi,DH];simp
variable{h:Nat}
def ahl{a:Int}(h0:0≤a)(h1:a<8)(hh:h<8):tb (sD .i64 1 a) h=decide (a=(h:Int)):=by
 have key:∀a:Nat,a<8→∀h:Nat,h<8→tb (sD .i64 1 (a:Int)) h=decide (a=h):=e7;have:=key a.toNat af h hh;rw[Int.toNat_of_nonneg h0]at this;rw[this,decide_eq_decide];omega
def auw(hh:h<8):tb 255 h=true:=by
 have key:∀h:Nat,h<8→tb 255 h=true:=e7;exact key h hh
def ahm{v:Int}(hh:h<8):tb (MI x v) h=(tb v h||xo x h):=by
 unfold MI xo;by_cases ho:gA x=8
 ·by_cases ha:0≤x.getD 1 0∧x.getD 1 0<8
  ·rw[if_pos ⟨ho,ha⟩,aBO _ _ af,ahl ha.1 ha.2 hh];congr 1;have a:(gA x==8)=true:=by simpa using ho
   rw[a,Bool.true_and];rfl
  ·rw[if_neg (λq=>ha q.2)];have:(x.getD 1 0==(h:Int))=false:=by
    rw[beq_eq_false_iff_ne];intro e;exact ha ⟨af,af⟩
   rw[this];simp
 ·rw[if_neg (λq=>ho q.1)];have:(gA x==8)=false:=by simpa using ho
  rw[this];simp
def rs(f:Nat→Bool):Nat→Int
 |0=>0
 |h+1=>rs f h+if f h then 2 ^ h else 0
def Tb{f g:Nat→Bool}:∀{n:Nat},(∀h,h<n→f h=g h)→rs f n=rs g n
 |0,_=>rfl
 |n+1,hfg=>by simp only[rs];rw[Tb λh hh=>hfg h af,hfg n af]
def alz{v:Int}(h0:0≤v)(h1:v≤255):rs (tb v) 8=v:=by
 have key:∀n:Fin 256,rs (tb ((n.val:Nat):Int)) 8=((n.val:Nat):Int):=e7;have:=key ⟨v.toNat,af⟩;simp only at this;rwa[Int.toNat_of_nonneg h0]at this
def alA(f:Nat→Bool):∀n:Nat,0≤rs f n∧rs f n<2 ^ n
 |0=>by simp[rs]
 |n+1=>by
  have:=alA f n;simp only[rs];rw[Int.pow_succ];split<;>omega
def aBP{f:Nat→Bool}(hh:h<8):tb (rs f 8) h=f h:=by
 have key:∀a b c d e f g i:Bool,∀h:Nat,h<8→tb (rs (λn=>([a,b,c,d,e,f,g,i].getD n false)) 8) h=([a,b,c,d,e,f,g,i].getD h false):=e7;have:=key (f 0) (f 1) (f 2) (f 3) (f 4) (f 5) (f 6) (f 7) h hh;rw[show rs f 8=rs (λn=>([f 0,f 1,f 2,f 3,f 4,f 5,f 6,f 7].getD n false)) 8 from Tb λh hh=>by
  match h,hh with
  |0,_=>rfl
  |1,_=>rfl
  |2,_=>rfl
  |3,_=>rfl
  |4,_=>rfl
  |5,_=>rfl
  |6,_=>rfl
  |7,_=>rfl,this]
 match h,hh with
  |0,_=>rfl
  |1,_=>rfl
  |2,_=>rfl
  |3,_=>rfl
  |4,_=>rfl
  |5,_=>rfl
  |6,_=>rfl
  |7,_=>rfl
open Classical in
noncomputable def Zt (l:List (List Int)) (aX i:Int) (h:Nat):Bool:=tb aX h|| !decide (Way l h i)
noncomputable def qx (l:List (List Int)) (aX:Int):List Int:=(List.range l.length).map fun(i:Nat)=>rs (Zt l aX (i:Int)) 8
def V4(l:List (List Int))(aX:Int):(qx l aX).length=l.length:=by simp[qx]
def ada{i:Nat}(h:i<l.length):(qx l aX).getD i 0=rs (Zt l aX i) 8:=by
 simp[qx,h]
def V5:Zt l aX i h=true↔(tb aX h=true∨¬Way l h i):=by
 unfold Zt;simp
section
variable{z:Int}
def meet_mono(hF:F.OK n)(h0:0≤z)(h1:z<n)(hh:h<8):
  (F.pL.getD j false=true→(F.meet z hv).pL.getD j false=true)∧(tb (F.held.getD j 0) h=false→tb ((F.meet z hv).held.getD j 0) h=false)∧(∀y∈F.todo,y∈(F.meet z hv).todo):=by
 unfold Fl.meet;split
 ·exact⟨id,id,λ_ h=>h⟩
 ·have hz:z.toNat<F.held.length:=by rw[hF.held];omega
  have a:z.toNat<F.pL.length:=by rw[hF.pL];omega
  refine⟨λhc=> ?_,λhb=> ?_,λy hy=>List.mem_append_left _ hy⟩
  ·simp only[m0,List.getElem?_set];split
   ·simp[a]
   ·simpa using hc
  ·simp only[m0,List.getElem?_set];split
   ·rename_i e;subst e;simp only[hz,↓reduceIte,Option.getD_some];unfold Fl.now;rw[KM _ _ af,hb];rfl
   ·simpa using hb
def alB(hF:F.OK n)(h0:0≤z)(h1:z<n):
  ((F.meet z hv).held.getD j 0=F.held.getD j 0∧(F.meet z hv).pL.getD j false=F.pL.getD j false)∨(j:Int)∈(F.meet z hv).todo:=by
 unfold Fl.meet;split
 ·exact .inl ⟨rfl,rfl⟩
 ·by_cases e:z.toNat=j
  ·right;have:(j:Int)=z:=af;rw[this];simp
  ·left;simp[m0,List.getElem?_set,e]
def alC(hF:F.OK n)(h0:0≤z)(h1:z<n)(hh:h<8):
  (F.meet z hv).pL.getD z.toNat false=true∧(tb hv h=false→tb ((F.meet z hv).held.getD z.toNat 0) h=false):=by
 have hz:z.toNat<F.held.length:=by rw[hF.held];omega
 have a:z.toNat<F.pL.length:=by rw[hF.pL];omega
 unfold Fl.meet;split
 ·rename_i hs;unfold Fl.stay at hs;simp only[iY,beq_iff_eq]at hs;refine⟨hs.1,λhb=> ?_⟩;rw[←hs.2];unfold Fl.now;rw[KM _ _ af,hb,Bool.and_false]
 ·refine⟨by simp[m0,a],λhb=> ?_⟩
  simp only[m0,List.getElem?_set,hz,↓reduceIte,Option.getD_some];unfold Fl.now;rw[KM _ _ af,hb,Bool.and_false]
def ajh(hF:F.OK n)(h0:0≤z)(h1:z<n)(hh:h<8)(hb:tb ((F.meet z hv).held.getD j 0) h=false):tb (F.held.getD j 0) h=false∨((j:Int)=z∧tb hv h=false):=by
 have hz:z.toNat<F.held.length:=by rw[hF.held];omega
 unfold Fl.meet at hb;split at hb
 ·exact .inl hb
 ·by_cases e:z.toNat=j
  ·subst e;simp only[m0,List.getElem?_set,hz,↓reduceIte,Option.getD_some]at hb;unfold Fl.now at hb;rw[KM _ _ af]at hb;simp only[Bool.and_eq_false_iff]at hb;rcases hb with hb|hb
   ·exact .inl hb
   ·exact .inr ⟨af,hb⟩
  ·left;simpa[m0,List.getElem?_set,e]using hb
end
def vR{n:Nat}{hv:Int}{j h:Nat}(hh:h<8):∀{zs:List Int} {F:Fl},F.OK n→(∀z∈zs,0≤z∧z<n)→
  (F.pL.getD j false=true→(F.meets hv zs).pL.getD j false=true)∧(tb (F.held.getD j 0) h=false→tb ((F.meets hv zs).held.getD j 0) h=false)∧(∀y∈F.todo,y∈(F.meets hv zs).todo)
 |[],F,_,_=>⟨id,id,λ_ h=>h⟩
 |z::zs,F,hF,hz=>by
  have a:=hz z bf;have h1:=meet_mono (hv:=hv) hF a.1 a.2 (j:=j) hh;have h2:=vR (hv:=hv) (j:=j) hh (zs:=zs) (JB (hv:=hv) hF a.1 a.2).1 λy hy=>hz y (by simp[hy])
  exact⟨λq=>h2.1 (h1.1 q),λq=>h2.2.1 (h1.2.1 q),λy hy=>h2.2.2 y (h1.2.2 y hy)⟩
def aan{n:Nat}{hv:Int}{j:Nat}:∀{zs:List Int} {F:Fl},F.OK n→(∀z∈zs,0≤z∧z<n)→
  ((F.meets hv zs).held.getD j 0=F.held.getD j 0∧(F.meets hv zs).pL.getD j false=F.pL.getD j false)∨(j:Int)∈(F.meets hv zs).todo
 |[],F,_,_=> .inl ⟨rfl,rfl⟩
 |z::zs,F,hF,hz=>by
  have a:=hz z bf;have hok:=(JB (hv:=hv) hF a.1 a.2).1;have hzs:∀y∈zs,0≤y∧y<n:=λy hy=>hz y (by simp[hy])
  rcases alB hF a.1 a.2with h1|h1
  ·rcases aan hok hzs with h2|h2
   ·exact .inl ⟨h2.1.trans h1.1,h2.2.trans h1.2⟩
   ·exact .inr h2
  ·exact .inr ((vR (h:=0) (j:=j) af hok hzs).2.2 _ h1)
def Ss{n:Nat}{hv:Int}{h:Nat}(hh:h<8):∀{zs:List Int} {F:Fl},F.OK n→(∀z∈zs,0≤z∧z<n)→∀z∈zs,
  (F.meets hv zs).pL.getD z.toNat false=true∧(tb hv h=false→tb ((F.meets hv zs).held.getD z.toNat 0) h=false)
 |[],F,_,_=>λz hz=>by cases hz
 |z::zs,F,hF,hz=>by
  have a:=hz z bf;have hok:=(JB (hv:=hv) hF a.1 a.2).1;have hzs:∀y∈zs,0≤y∧y<n:=λy hy=>hz y (by simp[hy])
  intro y hy;rcases List.mem_cons.1 hy with rfl|hy
  ·have h1:=alC (hv:=hv) hF a.1 a.2 hh;have h2:=vR (hv:=hv) (j:=y.toNat) hh hok hzs;exact⟨h2.1 h1.1,λq=>h2.2.1 (h1.2 q)⟩
  ·exact Ss hh hok hzs y hy
def X3{n:Nat}{hv:Int}{j h:Nat}(hh:h<8):∀{zs:List Int} {F:Fl},F.OK n→(∀z∈zs,0≤z∧z<n)→tb ((F.meets hv zs).held.getD j 0) h=false→
  tb (F.held.getD j 0) h=false∨((j:Int)∈zs∧tb hv h=false)
 |[],F,_,_=>λh=> .inl h
 |z::zs,F,hF,hz=>by
  have a:=hz z bf;have hok:=(JB (hv:=hv) hF a.1 a.2).1;have hzs:∀y∈zs,0≤y∧y<n:=λy hy=>hz y (by simp[hy])
  intro hb;rcases X3 hh hok hzs hb with h1|h1
  ·rcases ajh hF a.1 a.2 hh h1 with h2|h2
   ·exact .inl h2
   ·exact .inr ⟨by simp[h2.1],h2.2⟩
  ·exact .inr ⟨by simp[h1.1],h1.2⟩
structure FI (l:List (List Int)) (aX:Int) (F:Fl):Prop where
 ok:F.OK l.length
 c0:F.pL.getD 0 false=true
 b0:∀h:Nat,h<8→tb aX h=false→tb (F.held.getD 0 0) h=false
 sound:∀i h:Nat,i<l.length→h<8→tb (F.held.getD i 0) h=false→tb aX h=false∧Way l h i
 aAh:∀i:Nat,i<l.length→F.pL.getD i false=true→(i:Int)∈F.todo∨∀z∈behind l.length i (l.getD i []),F.pL.getD z.toNat false=true∧∀h:Nat,h<8→tb (MI (l.getD i []) (F.held.getD i 0)) h=false→tb (F.held.getD z.toNat 0) h=false
def FI.start(hl:0<l.length):FI l aX ((EM l.length).meet 0 (oH .i64 aX 255)):=by
 have h0:=anO l.length;have hok:=(JB (hv:=oH .i64 aX 255) (i:=0) h0 af af).1;have e:(EM l.length).meet 0 (oH .i64 aX 255)=⟨(dU l.length 255).set 0 (oH .i64 255 (oH .i64 aX 255)),(dU l.length false).set 0 true,[0]⟩:=by
  have hs:(EM l.length).stay 0 (oH .i64 aX 255)=false:=by simp[Fl.stay,EM,hl]
  unfold Fl.meet;rw[hs];simp[EM,Fl.now,hl]
 have a:∀i:Nat,i<l.length→((EM l.length).meet 0 (oH .i64 aX 255)).held.getD i 0=if i=0 then oH .i64 255 (oH .i64 aX 255)else 255:=by
  intro i hi;rw[e];simp only[m0,List.getElem?_set];by_cases hz:i=0
  ·subst hz;simp[hl]
  ·have:¬0=i:=λq=>hz q.symm;simp[hz,this,hi]
 refine⟨hok,by rw[e];simp[hl],λh hh hb=> ?_,λi h hi hh hb=> ?_,λi hi hc=> ?_⟩
 ·rw[a 0 hl,if_pos rfl,KM _ _ af,KM _ _ af,hb];simp
 ·rw[a i hi]at hb;split at hb
  ·rename_i hz;subst hz;rw[KM _ _ af,KM _ _ af,auw hh]at hb;exact⟨gq hb,.zero⟩
  ·rw[auw hh]at hb;cases hb
 ·left;rw[e]at hc ⊢;simp only[m0,List.getElem?_set]at hc;by_cases hz:i=0
  ·subst hz;simp
  ·have:¬0=i:=λq=>hz q.symm;simp[this,hi]at hc
def FI.step{l:List (List Int)}{aX:Int}{F:Fl}(hn:l.length≤4294967296)(h:FI l aX F):FI l aX (F.step l):=by
 unfold Fl.step;cases ht:F.todo with
 |nil=>exact h
 |cons i t=>
  have hi:=h.ok.todo i (by rw[ht];simp)
  have hok:Fl.OK l.length {F with todo:=t}:=⟨h.ok.held,h.ok.pL,h.ok.bits,λz hz=>h.ok.todo z (by rw[ht];simp[hz])⟩
  have hzs:=JC (x:=l.getD i.toNat []) hn hi.1 hi.2;have hin:i.toNat<l.length:=af;have a:((i.toNat:Nat):Int)=i:=Int.toNat_of_nonneg hi.1;refine⟨(Ta hok hzs).1,(vR (h:=0) af hok hzs).1 h.c0,λh' hh hb=>(vR hh hok hzs).2.1 (h.b0 h' hh hb),λj h' hj hh hb=> ?_,λj hj hc=> ?_⟩
  ·rcases X3 hh hok hzs hb with h1|⟨b,h1⟩
   ·exact h.sound j h' hj hh h1
   ·rw[ahm hh]at h1;simp only[kf]at h1;have:=h.sound i.toNat h' hin hh h1.1;rw[a]at this;exact⟨this.1,this.2.next h1.2 b⟩
  ·rcases aan hok hzs with⟨h1,h2⟩|h1
   ·rw[h2]at hc;rw[h1];by_cases c:j=i.toNat
    ·subst c;right;intro z hz;rw[a]at hz;exact⟨(Ss (h:=0) af hok hzs z hz).1,λh' hh hb=>(Ss hh hok hzs z hz).2 hb⟩
    ·rcases h.aAh j hj hc with h3|h3
     ·left;rw[ht]at h3;rcases List.mem_cons.1 h3 with h3|h3
      ·omega
      ·exact(vR (h:=0) (j:=0) af hok hzs).2.2 _ h3
     ·right;intro z hz;exact⟨(vR (h:=0) af hok hzs).1 (h3 z hz).1,λh' hh hb=>(vR hh hok hzs).2.1 ((h3 z hz).2 h' hh hb)⟩
   ·exact .inl h1
def FI.steps{l:List (List Int)}{aX:Int}(hn:l.length≤4294967296){F:Fl}(h:FI l aX F):∀m,FI l aX (Fl.steps l m F)
 |0=>h
 |m+1=>(FI.steps hn h m).step hn
def FI.way(hn:l.length≤4294967296)(hl:0<l.length)(h:FI l aX F)(ht:F.todo=[]){h':Nat}(hh:h'<8)(hb:tb aX h'=false)(hw:Way l h' i):
  (0≤i∧i<l.length)∧F.pL.getD i.toNat false=true∧tb (F.held.getD i.toNat 0) h'=false:=by
 induction hw with
 |zero=>exact⟨⟨af,af⟩,h.c0,h.b0 h' hh hb⟩
 |@next i z hw hf hz ih=>
  obtain⟨hi,hc,a⟩:=ih;have hin:i.toNat<l.length:=af;have b:((i.toNat:Nat):Int)=i:=Int.toNat_of_nonneg hi.1;have:=JC hn hi.1 hi.2 z hz;rcases h.aAh i.toNat hin hc with h3|h3
  ·rw[ht]at h3;cases h3
  ·rw[b]at h3;have h4:=h3 z hz;refine⟨this,h4.1,h4.2 h' hh ?_⟩;rw[ahm hh,a,hf];rfl
def afn(hn:l.length≤4294967296)(hR:Reached l aX F):F.held=qx l aX:=by
 by_cases hl:l=[]
 ·subst hl;rw[hR.2.1 rfl];simp[EM,qx]
 ·obtain⟨m,hm⟩:=hR.2.2 hl;have hpos:0<l.length:=List.length_pos_iff.2 hl;have hI:FI l aX F:=by rw[hm];exact(FI.start hpos).steps hn m
  refine List.ext_getElem (by rw[hI.ok.held,V4]) λi h1 h2=> ?_
  have hi:i<l.length:=by rw[hI.ok.held]at h1;exact h1
  have e1:F.held[i]=F.held.getD i 0:=by simp[h1]
  have e2:(qx l aX)[i]=rs (Zt l aX i) 8:=by rw[←ada hi];simp[h2]
  have a:=hI.ok.bits F.held[i] (List.getElem_mem h1);rw[e2,←alz a.1 a.2];refine Tb λh hh=> ?_;rw[e1];cases hb:Zt l aX i h with
  |true=>
   cases c:tb (F.held.getD i 0) h with
   |true=>rfl
   |false=>
    have:=hI.sound i h hi hh c;rcases V5.1 hb with h3|h3
    ·rw[this.1]at h3;cases h3
    ·exact(h3 this.2).elim
  |false=>
   have b:¬(tb aX h=true∨¬Way l h i):=by rw[←V5,hb];simp
   have d:tb aX h=false:=by
    cases q:tb aX h with
    |true=>exact(b (.inl q)).elim
    |false=>rfl
   have hw:Way l h i:=Classical.byContradiction λq=>b (.inr q);have:=(hI.way hn hpos hR.1 hh d hw).2.2;rwa[iZ]at this
def auy{k:Sl→ap}(hr:tP w s l)(hn:l.length≤1000)
  (hc:∀s' w',St w w' [bG 1 s' (ints (qx l aX))]→s'.n=l.length→k s' w'):pA #[.int .i64 aX,.slice s.a s.n s.c] w k:=by
 have b:=hr.len;refine ayp hr af λF s' w' hR h=> ?_;rw[afn af hR]at h;have hl:(qx l aX).length=s'.n:=by have:=h.Gs (sz:=1) (s:=s');simpa using this
 exact hc s' w' h (by rw[←hl,V4])
def JD:List Int:=[1,0,0,5,1,1,0,0,1,1,1,0,1,1,1,0,1,1,1,0,1,1,1,0,0,0,0,2,1,0,0,2,1,0,0,3,1,1,0,0,1,1,1,0,0,0,0,4,1,0,0,0,0,0,0,0,0,0,0,0,1,0,0,0,1,0,0,0]
def kinds(op:Int):List Int:=(JD.drop (op.toNat*4)).take 4
def qJ(l:List Int):∀v∈eZ l,v.oneCell'=true:=by
 intro v hv;exact IK v (by simpa[eZ]using hv)
variable{k:Array Value→ap}
def Sj{op:Int}(h0:0≤op)(h1:op<17)(hc:∀w',St w w' []→k (eZ (kinds op)) w'):mg op w k:=by
 unfold mg;refine aM (.nil w) λg1 w2 h=> ?_;iterate 16 refine⟨rfl,?_⟩
 refine qL (eZ JD) rfl aZ<|aM h λg2 a h=>m7 h rfl aZ (qJ _) λb h=>uu h0 af<|qM h (by simp[ints,JD];omega) ?_
 have e:(List.take 4 (List.drop (0+op.toNat*4) (eZ JD).toList))=ints (kinds op):=by
  simp[kinds,ints,eZ,List.map_take,List.map_drop]
 rw[e];have hl:(kinds op).length=4:=by simp[kinds,JD];omega
 refine m7 h rfl (by simp[ints,hl]) (qJ _) λc h=> ?_
 refine je h (by simp[ints,hl]) ?_
 exact hc _ h.all
def pY(kd:Int):Int×Int:=cond (kd==1) (0,7) (cond (kd==2) (0,127) (cond (kd==3) (0,31) (cond (kd==4) (0,65535) (cond (kd==5) (-2147483648,2147483647) (0,0)))))
def ag9{kd:Int}{k:Int×Int→ap}(hc:k (pY kd) w):rR kd w k:=by
 unfold rR;unfold pY at hc;revert hc;cases (kd==1)<;>cases (kd==2)<;>cases (kd==3)<;>cases (kd==4)<;>cases (kd==5)<;>exact id
def fit(x ks:List Int)(j:Nat):Bool:= !(decide (x.getD (j+1) 0<(pY (ks.getD j 0)).1)||decide (x.getD (j+1) 0>(pY (ks.getD j 0)).2))
def fits(x ks:List Int):Bool:=(List.range 4).all (fit x ks)
def oV(x:List Int):Int:=if gA x<0∨17≤gA x then 13 else if fits x (kinds (gA x))then 0 else 10
def apy{ks:List Int}(h:∀j,j<4→fit x ks j=true):fits x ks=true:=by
 unfold fits;rw[tL];intro j hj;exact h j (gq hj)
def apz{ks:List Int}(hj:j<4)(h:fit x ks j=false):fits x ks=false:=by
 unfold fits;rw[List.all_eq_false];exact⟨j,gq hj,by simp[h]⟩
def apA{k:Int→ap}(h5:x.length=5)(hc:∀w',St w w' []→k (oV x) w'):fa (eZ x) w k:=by
 obtain⟨o,a,b,c,n,rfl⟩:∃o a b c n,x=[o,a,b,c,n]:=by
  match x,h5 with
  |[o,a,b,c,n],_=>exact⟨o,a,b,c,n,rfl⟩
 unfold fa Gg;refine aM (.nil w) λg1 w2 h=>bP (λb w'=>b=decide (o<0∨17≤o)∧w'=w2) (λJ f=> ?_) ?_
 ·refine cr h rfl (ax (λhb=> ?_) λhb=> ?_)
  ·have:=of_decide_eq_true hb;exact f _ _ ⟨(decide_eq_true (.inl this)).symm,rfl⟩
  ·have:=of_decide_eq_false hb;refine cr h rfl (f _ _ ⟨?_,rfl⟩);rw[decide_eq_decide];omega
 rintro b1 g ⟨rfl,rfl⟩;refine ax (λhb=> ?_) λhb=> ?_
 ·have:=of_decide_eq_true hb;have e:oV [o,a,b,c,n]=13:=if_pos this;have:=hc g h.all;rwa[e]at this
 ·have hno:=of_decide_eq_false hb;have e:oV [o,a,b,c,n]=if fits [o,a,b,c,n] (kinds o)then 0 else 10:=if_neg hno
  rw[e]at hc;have hl:(kinds o).length=4:=by simp[kinds,JD];omega
  refine cr h rfl<|Sj af af λm h2=> ?_;have h:=h.on h2.ext;refine aM h λg2 p h=>m7 h rfl (by simp[ints,hl]) (qJ _) λd h=> ?_
  refine cr h rfl (cr h rfl (cr h rfl (cr h rfl ?_)));refine ot (fun(y:Int×Int) w'=> ∃j:Nat,y=(0,(j:Int))∧j≤4∧(∀i,i<j→fit [o,a,b,c,n] (kinds o) i=true)∧w'=d) (λy _=>(4 - y.2).toNat) ⟨0,rfl,af,λi hi=>by omega,rfl⟩ ?_
  rintro _ _ ⟨j,rfl,q,hfit,rfl⟩ C hC;refine ax (λhb=> ?_) λhb=> ?_
  ·have hj:j<4:=by have:=of_decide_eq_true hb;dsimp only at this;omega
   have r:aF .i64 ((j:Int)+1)=((j+1:Nat):Int):=by rw[dh ⟨af,af⟩];simp
   refine arp (l:=[a,b,c,n]) (by dsimp only;omega) (by dsimp only;omega) rfl (I0 ?_)
   refine uu (by dsimp only;omega) (by dsimp only;omega) ?_
   refine cr h (by rw[show 0+(j:Int).toNat*1=j by omega];exact vU af) ?_
   refine ag9 ?_;have s:[a,b,c,n].getD (j:Int).toNat 0=[o,a,b,c,n].getD (j+1) 0:=by rw[iZ];rfl
   dsimp only;rw[s];have t:(decide ([o,a,b,c,n].getD (j+1) 0<(pY ((kinds o).getD j 0)).1)||decide ([o,a,b,c,n].getD (j+1) 0>(pY ((kinds o).getD j 0)).2))= !(fit [o,a,b,c,n] (kinds o) j):=by unfold fit;rw[Bool.not_not]
   rw[t];refine ax (λhb=> ?_) λhb=> ?_
   ·have hf:fit [o,a,b,c,n] (kinds o) j=false:=by simpa using hb
    have:=hc _ h.all;rw[apz hj hf]at this;exact this
   ·have hf:fit [o,a,b,c,n] (kinds o) j=true:=by simpa using hb
    rw[r];refine hC _ _ ⟨j+1,rfl,hj,λi hi=> ?_,rfl⟩ (by dsimp only;omega)
    by_cases e:i=j
    ·rw[e];exact hf
    ·exact hfit i af
  ·have hj:j=4:=by have:=of_decide_eq_false hb;dsimp only at this;omega
   subst hj;have:=hc _ h.all;rw[apy hfit]at this;exact this
def oG:Nat→List (List Int)→Int×Int
 |_,[]=>(0,0)
 |i,x::l=>if oV x !=0 then((i:Int),oV x)else oG (i+1) l
def qf(aX:Int)(l:List (List Int)):Int×Int:=
 if decide (aX<0)||decide (aX>255)then(-1,10)else if decide (l.length<1)||decide (l.length>128)then(-1,12)else oG 0 l
def adb{dn rest:List (List Int)}(hl:l=dn++x::rest)(hd:oG 0 l=oG dn.length (x::rest))(hx:(oV x !=0)=false):oG 0 l=oG (dn++[x]).length rest:=by
 rw[hd];simp[oG,hx]
def auz{k:Int×Int→ap}(hr:tP w s l)
  (hc:∀w',St w w' []→k (qf aX l) w'):qU #[.int .i64 aX,.slice s.a s.n s.c] w k:=by
 have m:=hr.len;unfold qU Jm;refine aM (.nil w) λg w2 h=>bP (λb w'=>b=(decide (aX<0)||decide (aX>255))∧w'=w2) (λJ d=> ?_) ?_
 ·refine cr h rfl (ax (λhb=> ?_) λhb=> ?_)
  ·exact d _ _ ⟨by rw[hb];rfl,rfl⟩
  ·refine cr h rfl (d _ _ ⟨by rw[hb];rfl,rfl⟩)
 rintro b1 o ⟨rfl,rfl⟩;unfold qf at hc;refine ax (λhb=> ?_) λhb=> ?_
 ·rw[hb]at hc;exact hc _ h.all
 ·rw[hb]at hc;refine bP (λb w'=>b=(decide (l.length<1)||decide (l.length>128))∧w'=o) (λJ d=> ?_) ?_
  ·have e1:decide (((s.n:Nat):Int)<1)=decide (l.length<1):=by rw[decide_eq_decide];omega
   have e2:decide (((s.n:Nat):Int)>128)=decide (l.length>128):=by rw[decide_eq_decide];omega
   refine ea h rfl (ax (λhb=> ?_) λhb=> ?_)
   ·exact d _ _ ⟨by rw[←e1];dsimp only at hb;rw[hb];rfl,rfl⟩
   ·refine ea h rfl (d _ _ ⟨by rw[←e1,←e2];dsimp only at hb;rw[hb];rfl,rfl⟩)
  rintro b2 q ⟨rfl,rfl⟩;refine ax (λf=> ?_) λf=> ?_
  ·rw[f]at hc;exact hc _ h.all
  ·rw[f]at hc;have r:l.length≤128:=by
    rw[kf]at f;have:=of_decide_eq_false f.2;omega
   refine ea h rfl<|ot (fun(i:Int) w'=> ∃dn rest,l=dn++rest∧i=(dn.length:Int)∧oG 0 l=oG dn.length rest∧St w w' []) (λi _=>((s.n:Int) - i).toNat) ⟨[],l,rfl,rfl,rfl,h.all⟩ ?_;rintro _ w16 ⟨dn,rest,hl,rfl,hd,h⟩ C hC;cases rest with
   |nil=>
    refine aU (by simp only[decide_eq_false_iff_not];rw[m,hl];simp) ?_
    rw[hd]at hc;exact hc _ h
   |cons x rest=>
    have hlen:l.length=dn.length+(rest.length+1):=by rw[hl];simp
    have t:aF .i64 ((dn.length:Int)+1)=((dn++[x]).length:Int):=by rw[dh ⟨af,af⟩];simp
    refine bK (by simp only[decide_eq_true_eq];omega) ?_
    refine ixC (hr.ext h.ext) hl rfl λp h5 hcell=>Ho (by simp[Go.Ev.ints,h5]) hcell ?_
    refine aM h λg2 u h=>m7 h rfl (by simp[Go.Ev.ints,h5]) (qJ _) λv h=>je h (by simp[Go.Ev.ints,h5]) ?_
    refine apA h5 λy h2=> ?_;have h:=h.all.on h2.ext;refine ax (λj=> ?_) λj=> ?_
    ·have e:oG dn.length (x::rest)=((dn.length:Int),oV x):=by unfold oG;rw[j];rfl
     rw[hd,e]at hc;exact hc _ h
    ·rw[t];exact hC _ _ ⟨dn++[x],rest,by rw[hl];simp,rfl,adb hl hd j,h⟩ (by simp;omega)
def G3(nf n:Nat)(x:List Int):Int:=if (qd x&&decide (x.getD 4 0≥n))||((gA x==8)&&decide (x.getD 4 0≥nf))then 10 else 0
def alD(n:Nat)(i:Nat)(x:List Int):Int:=if ((i:Int)==(n:Int) - 1)&&(gA x !=6)&& !EL x then 11 else 0
def sN(D:List Int)(i:Nat)(x:List Int):Bool:=
 if (gA x==12)||(gA x==13)then decide (D.getD i 0≥1)else if gA x==16 then D.getD i 0==0 else if qd x then D.getD (x.getD 4 0).toNat 0==D.getD i 0 else true
def B8(a b:Int):Bool:=(List.range 8).all λh=> !tb a h||tb b h
def G4(P:List dB)(i:Int):Int:=(P.map dB.aX).getD i.toNat 0
def rU(P:List dB)(hv:Int)(x:List Int):Bool:=
 if gA x==9 then tb hv (x.getD 2 0).toNat else if gA x==10 then tb hv (x.getD 3 0).toNat else if gA x==8 then B8 (G4 P (x.getD 4 0)) hv else true
def Bc(P:List dB)(n:Nat)(D H:List Int)(i:Nat)(x:List Int):Nat→Int
 |0=>G3 P.length n x
 |1=>alD n i x
 |2=>if sN D i x then 0 else 15
 |_=>if rU P (H.getD i 0) x then 0 else 16
def tG(P:List dB)(n:Nat)(D H:List Int)(i:Nat)(x:List Int):Int:=
 if Bc P n D H i x 0 !=0 then Bc P n D H i x 0 else if Bc P n D H i x 1 !=0 then Bc P n D H i x 1 else if Bc P n D H i x 2 !=0 then Bc P n D H i x 2 else Bc P n D H i x 3
def mZ(P:List dB)(n:Nat)(D H:List Int):Nat→List (List Int)→Option (Int×Int)
 |_,[]=>none
 |i,x::l=>if tG P n D H i x !=0 then some ((i:Int),tG P n D H i x)else mZ P n D H (i+1) l
noncomputable def A3 (P:List dB) (f:dB):Option (Int×Int):=mZ P f.code.length (my 0 f.code) (qx f.code f.aX) 0 f.code
noncomputable def uU (P:List dB):Nat→List dB→Option (Int×Int×Int)
 |_,[]=>none
 |k,f::l=>match A3 P f with
  |some (i,e)=>some ((k:Int),i,e)
  |none=>uU P (k+1) l
def rP:Nat→List dB→Option (Int×Int×Int)
 |_,[]=>none
 |k,f::l=>if (qf f.aX f.code).2 !=0 then some ((k:Int),(qf f.aX f.code).1,(qf f.aX f.code).2)else rP (k+1) l
noncomputable def tj (P:List dB):Int×Int×Int:=
 if decide (P.length<1)||decide (P.length>32)then(-1, -1,12)else match rP 0 P with
  |some x=>x
  |none=>if G4 P 0 !=0 then(0, -1,16)else match uU P 0 P with
   |some x=>x
   |none=>(0,0,0)
def ahn{c:Addr→Prop}(hr:tP w0 s l)(h:St w0 w L)(h0:0≤i)(hx:l[i.toNat]?=some x)
  (hc:∀p:Addr,x.length=5→(∀{w' L'},St w0 w' L'→∀{j v},(Go.Ev.ints x)[j]?=some v→w'.cell? (p.add j)=some v)→c p):cN s i 5 c:=
 QN hr.rws h h0 (by rw[l8,hx];rfl) λp hp=>hc p ((hr.GZ x (qn hx)).1) hp
def auA{e:List Value}{c:Prop}(he:n≤e.length)(h:∀{j v},e[j]?=some v→w.cell? (a.add j)=some v)(h':∀{j v},e[j]?=some v→w'.cell? (a.add j)=some v)(hc:c):ai n a w w' c:=
 ⟨λk hk=>by rw[h (iH af),h' (iH af)],hc⟩
def afo(h:oV x=0):0≤gA x∧gA x<17∧(qd x=true→0≤x.getD 4 0∧x.getD 4 0≤127)∧(gA x=8→0≤x.getD 4 0∧x.getD 4 0≤31∧0≤x.getD 1 0∧x.getD 1 0≤7)∧(gA x=9→0≤x.getD 2 0∧x.getD 2 0≤7)∧(gA x=10→0≤x.getD 3 0∧x.getD 3 0≤7):=by
 unfold oV at h;split at h
 ·cases h
 ·rename_i hno;split at h
  ·rename_i hf;unfold fits at hf;rw[tL]at hf;have f0:=hf 0 e7;have f1:=hf 1 e7;have f2:=hf 2 e7;have f3:=hf 3 e7;refine⟨af,af,λhg=> ?_,λho=> ?_,λho=> ?_,λho=> ?_⟩
   ·have:gA x=6∨gA x=7:=by unfold qd at hg;simpa using hg
    unfold fit at f3;rcases this with ho|ho<;>rw[ho]at f3<;>simp[kinds,JD,pY]at f3 ⊢ <;>omega
   ·unfold fit at f3 f0;rw[ho]at f3 f0;simp[kinds,JD,pY]at f3 f0 ⊢;omega
   ·unfold fit at f1;rw[ho]at f1;simp[kinds,JD,pY]at f1 ⊢;omega
   ·unfold fit at f2;rw[ho]at f2;simp[kinds,JD,pY]at f2 ⊢;omega
  ·cases h
section
variable{gj:Nat}{ps sd sh:Sl}{P:List dB}{D H:List Int}{R:List HP}{i:Nat}{k:Int→ap}
def apB(h:St w0 w (au gj [.slice ps.a ps.n ps.c,.slice s.a s.n s.c,.slice sd.a sd.n sd.c,.slice sh.a sh.n sh.c]::R))(hr:tP w0 s l)(hx:l[i]?=some x)(f:ps.n=P.length)
  (hc:∀w',St w0 w' (au gj [.slice ps.a ps.n ps.c,.slice s.a s.n s.c,.slice sd.a sd.n sd.c,.slice sh.a sh.n sh.c]::R)→k (G3 P.length l.length x) w'):ij (some ⟨gj,0,none⟩) (i:Int) w k:=by
 have t:=hr.len;unfold ij xZ;refine bc (ea h rfl (ahn hr h af hx λp h5 hp=>Ho (by simp[Go.Ev.ints,h5]) (λj v=>hp h) ?_))
 refine aM h λg z h=>m7 h rfl (by simp[Go.Ev.ints,h5]) (qJ _) λu h=> ?_
 have h:St w0 u (au g (ints x)::au gj [.slice ps.a ps.n ps.c,.slice s.a s.n s.c,.slice sd.a sd.n sd.c,.slice sh.a sh.n sh.c]::R):=h;refine bP (λb w'=>b=((qd x&&decide (x.getD 4 0≥l.length))||((gA x==8)&&decide (x.getD 4 0≥P.length)))∧St w0 w' (au g (ints x)::au gj [.slice ps.a ps.n ps.c,.slice s.a s.n s.c,.slice sd.a sd.n sd.c,.slice sh.a sh.n sh.c]::R)) (λJ m=> ?_) ?_
 ·refine cH h λd h=>cr h (m8 af) ?_;have second:(qd x&&decide (x.getD 4 0≥l.length))=false→aJ .i64 d (aY ⟨g,0,none⟩ 0) λi16=>
    an (i16==(8:Int)) (
     aJ .i64 d (aY ⟨g,0,none⟩ 4) λi17=>
     nn (some ⟨gj,0,none⟩) λq=>
     cy d (aY (aY q 0) 0) λr=>
     (J (decide (i17≥((r.n:Nat):Int))) d)) (
     (J false d)):=by
   intro ha;refine cr h (m8 af) (ax (λhb=> ?_) λhb=> ?_)
   ·refine cr (o:=4) h (m8 af) (bc (ea h rfl (m _ _ ⟨?_,h⟩)));have hb':(gA x==8)=true:=hb;dsimp only;rw[ha,hb',f];rfl
   ·refine m _ _ ⟨?_,h⟩;have hb':(gA x==8)=false:=hb;rw[ha,hb'];rfl
  show an _ _ _;refine ax (λhg=> ?_) λhg=> ?_
  ·have e:qd x=true:=hg;refine cr (o:=4) h (m8 af) (bc (ea h rfl (ax (λhb=> ?_) λhb=> ?_)))
   ·refine m _ _ ⟨?_,h⟩;dsimp only at hb;rw[t]at hb;rw[e,hb];rfl
   ·dsimp only at hb;rw[t]at hb;exact second (by rw[e,hb];rfl)
  ·have e:qd x=false:=hg;exact second (by rw[e];rfl)
 rintro b y ⟨rfl,h⟩;unfold G3 at hc;refine ax (λhb=> ?_) λhb=> ?_
 ·rw[hb]at hc;exact hc _ h.drop
 ·rw[hb]at hc;exact hc _ h.drop
def ays(h:St w0 w (au gj [.slice ps.a ps.n ps.c,.slice s.a s.n s.c,.slice sd.a sd.n sd.c,.slice sh.a sh.n sh.c]::R))(hr:tP w0 s l)(hx:l[i]?=some x)(hn:l.length≤1000)
  (hc:∀w',St w0 w' (au gj [.slice ps.a ps.n ps.c,.slice s.a s.n s.c,.slice sd.a sd.n sd.c,.slice sh.a sh.n sh.c]::R)→k (alD l.length i x) w'):jK (some ⟨gj,0,none⟩) (i:Int) w k:=by
 have e:=hr.len;unfold jK Bm;refine bc (ea h rfl (ahn hr h af hx λp h5 hp=>uZ (hp h (m8 af)) ?_));refine bP (λb w'=>b=(((i:Int)==(l.length:Int) - 1)&&(gA x !=6)&& !EL x)∧w'=w) (λJ d=> ?_) ?_
 ·refine bc (ea h rfl ?_);have hw:aF .i64 (((s.n:Nat):Int) - 1)=(l.length:Int) - 1:=by rw[e,dh ⟨af,af⟩]
  dsimp only;rw[hw];refine ax (λhb=> ?_) λhb=> ?_
  ·exact d _ _ ⟨by
     have hb':((i:Int)==(l.length:Int) - 1&&(gA x !=6))=true:=hb;rw[hb'];rfl,rfl⟩
  ·exact d _ _ ⟨by
     have hb':((i:Int)==(l.length:Int) - 1&&(gA x !=6))=false:=hb;rw[hb'];rfl,rfl⟩
 rintro b f ⟨rfl,rfl⟩;unfold alD at hc;refine ax (λhb=> ?_) λhb=> ?_
 ·rw[hb]at hc;exact hc _ h
 ·rw[hb]at hc;exact hc _ h
def Zu(h:St w0 w (au gj [.slice ps.a ps.n ps.c,.slice s.a s.n s.c,.slice sd.a sd.n sd.c,.slice sh.a sh.n sh.c]::bG 1 sd (ints D)::R))(hr:tP w0 s l)(hx:l[i]?=some x)(hn:l.length≤1000)(hD:D.length=l.length)
  (h0:qd x=true→0≤x.getD 4 0∧x.getD 4 0<l.length)
  (hc:∀w',St w0 w' (au gj [.slice ps.a ps.n ps.c,.slice s.a s.n s.c,.slice sd.a sd.n sd.c,.slice sh.a sh.n sh.c]::bG 1 sd (ints D)::R)→k (if sN D i x then 0 else 15) w'):ik (some ⟨gj,0,none⟩) (i:Int) w k:=by
 have G:=hr.len;have r:i<l.length:=(kB.1 hx).1;unfold ik;refine cH h λw1 h=>bc (ea h rfl (ahn hr h af hx λp h5 hp=>Ho (by simp[Go.Ev.ints,h5]) (λj v=>hp h) ?_))
 refine bc (ea h rfl ?_);have hdn:D.length=sd.n:=by have:=h.Gs (sz:=1) (s:=sd);simpa using this
 refine KX (s:=sd) h af af af λgd H _ hrd _=> ?_;have e:(ints D)[((i:Nat):Int).toNat*1+0]?=some (.int .i64 (D.getD i 0)):=by
  rw[show((i:Nat):Int).toNat*1+0=i by omega];exact vU af
 refine uZ (hrd h 0 _ af e) ?_;have h1:=h;refine aM h λg t h=>abZ (hrd h1 0 _ af e) (hrd h 0 _ af e)<|eD h1 h<|auA (by simp[Go.Ev.ints,h5]) (fun{j v}=>hp h1) (fun{j v}=>hp h) ?_
 refine eD h1 h<|m7 h rfl (by simp[Go.Ev.ints,h5]) (qJ _) λf h=> ?_
 refine abZ (hrd h1 0 _ af e) (hrd h 0 _ af e)<|eD h1 h ?_;have h:St w0 f (au g (ints x)::au gj [.slice ps.a ps.n ps.c,.slice s.a s.n s.c,.slice sd.a sd.n sd.c,.slice sh.a sh.n sh.c]::bG 1 sd (ints D)::R):=h;refine cr h (m8 af)<|bP (λb w'=>b=((gA x==12)||(gA x==13))∧w'=f) (λJ d=> ?_) ?_
 ·refine ax (λhb=> ?_) λhb=> ?_
  ·have hb':(gA x==12)=true:=hb;exact d _ _ ⟨by rw[hb'];rfl,rfl⟩
  ·have hb':(gA x==12)=false:=hb;exact d _ _ ⟨by rw[hb'];rfl,rfl⟩
 rintro u w16 ⟨rfl,rfl⟩;refine bP (λb w'=>b=sN D i x∧St w0 w' (au g (ints x)::au gj [.slice ps.a ps.n ps.c,.slice s.a s.n s.c,.slice sd.a sd.n sd.c,.slice sh.a sh.n sh.c]::bG 1 sd (ints D)::R)) (λJ d=> ?_) ?_
 ·unfold sN at d;refine ax (λhb=> ?_) λhb=> ?_
  ·rw[if_pos hb]at d;exact d _ _ ⟨rfl,h⟩
  ·rw[if_neg (by rw[hb];simp)]at d
   refine ax (λq=> ?_) λq=> ?_
   ·have hb':(gA x==16)=true:=q;rw[if_pos hb']at d;exact d _ _ ⟨rfl,h⟩
   ·have hb':(gA x==16)=false:=q;rw[if_neg (by rw[hb'];simp)]at d
    refine bP (λb w'=>b=qd x∧w'=w16) (λI m=> ?_) ?_
    ·refine ax (λhb=> ?_) λhb=> ?_
     ·have hb':(gA x==6)=true:=hb;exact m _ _ ⟨by unfold qd;rw[hb'];rfl,rfl⟩
     ·have hb':(gA x==6)=false:=hb;exact m _ _ ⟨by unfold qd;rw[hb'];rfl,rfl⟩
    rintro y z ⟨rfl,rfl⟩;refine ax (λhg=> ?_) λhg=> ?_
    ·rw[if_pos hg]at d;have A:=h0 hg;refine cH h λB h=>bc (ea h rfl (cr (o:=4) h (m8 af) ?_));refine zB h A.1 af<|d _ _ ⟨rfl,h⟩
    ·rw[if_neg (by rw[hg];simp)]at d
     exact d _ _ ⟨rfl,h⟩
 rintro C F ⟨rfl,h⟩;refine ax (λhb=> ?_) λhb=> ?_
 ·have hb':sN D i x=false:=by simpa using hb
  rw[hb']at hc;exact hc _ h.drop
 ·have hb':sN D i x=true:=by simpa using hb
  rw[hb']at hc;exact hc _ h.drop
end
def alE{a:Int}(h0:0≤a)(h1:a≤255):0≤tU .i64 a b∧tU .i64 a b≤a:=by
 rw[QK];have e:(bv a).toNat=a.toNat:=by
  have:=aAg (m:=a.toNat) af;rwa[Int.toNat_of_nonneg h0]at this
 have h2:(bv a&&&~~~ bv b).toNat≤a.toNat:=by rw[BitVec.toNat_and,e];exact Nat.and_le_left
 rw[aje af];omega
def X4(hh:h<8):tb 0 h=false:=by
 have:∀h:Nat,h<8→tb 0 h=false:=e7;exact this h hh
def A4{a:Int}:B8 a b=true↔∀h:Nat,h<8→tb a h=true→tb b h=true:=by
 unfold B8;rw[tL];refine⟨λq h hh ha=> ?_,λq h hh=> ?_⟩
 ·have:=q h (gq hh)
  rw[ha]at this;simpa using this
 ·have:=q h (gq hh)
  cases ha:tb a h with
  |false=>rfl
  |true=>rw[this ha];rfl
def KN{a:Int}(h0:0≤a)(h1:a≤255):(tU .i64 a b !=0)= !B8 a b:=by
 have hb:=alE (b:=b) h0 h1;cases hs:B8 a b with
 |true=>
  have hs':=A4.1 hs;have e:tU .i64 a b=0:=by
   rw[←alz hb.1 af,←alz (v:=0) af af];refine Tb λh hh=> ?_;rw[Vc _ _ af,X4 hh];cases ha:tb a h with
   |false=>rfl
   |true=>rw[hs' h hh ha];rfl
  rw[e];rfl
 |false=>
  have:tU .i64 a b≠0:=by
   intro e;have:B8 a b=true:=A4.2 λh hh ha=>by
    have h2:=Vc a b (i:=h) af;rw[e,X4 hh,ha]at h2;simpa using h2.symm
   rw[this]at hs;cases hs
  simpa using this
def ajj{a:Int}(h0:0≤a)(h1:a<8):B8 (sD .i64 1 a) b=tb b a.toNat:=by
 cases ht:tb b a.toNat with
 |true=>
  refine A4.2 λh hh ha=> ?_;rw[ahl h0 h1 hh]at ha;have:=of_decide_eq_true ha;have:h=a.toNat:=af;rw[this];exact ht
 |false=>
  cases hs:B8 (sD .i64 1 a) b with
  |false=>rfl
  |true=>
   have:=A4.1 hs a.toNat af (by rw[ahl h0 h1 af];exact decide_eq_true af)
   rw[this]at ht;cases ht
def ade{a:Int}(h0:0≤a)(h1:a<8):0≤sD .i64 1 a∧sD .i64 1 a≤255:=by
 have e:∀m:Nat,m<8→0≤sD .i64 1 (m:Int)∧sD .i64 1 (m:Int)≤255:=e7;have:=e a.toNat af;rwa[Int.toNat_of_nonneg h0]at this
def sub_zero:B8 0 b=true:=A4.2 λh hh ha=>by rw[X4 hh]at ha;cases ha
variable{P:List dB}
section
variable{gj:Nat}{ps sd sh:Sl}{D H:List Int}{R:List HP}{i:Nat}{k:Int→ap}
def OA{n:Int}{f:dB}(h:P[n.toNat]?=some f):G4 P n=f.aX:=by simp[G4,h]
def alF(h:St w0 w (au gj [.slice ps.a ps.n ps.c,.slice s.a s.n s.c,.slice sd.a sd.n sd.c,.slice sh.a sh.n sh.c]::bG 1 sd (ints D)::bG 1 sh (ints H)::R))(hr:tP w0 s l)(hF:iA w0 ps P)(hx:l[i]?=some x)(hn:l.length≤1000)(F:H.length=l.length)
  (hok:oV x=0) (d:G3 P.length l.length x=0) (hP:∀f∈P,0≤f.aX∧f.aX≤255)
  (hc:∀w',St w0 w' (au gj [.slice ps.a ps.n ps.c,.slice s.a s.n s.c,.slice sd.a sd.n sd.c,.slice sh.a sh.n sh.c]::bG 1 sd (ints D)::bG 1 sh (ints H)::R)→k (if rU P (H.getD i 0) x then 0 else 16) w'):gD (some ⟨gj,0,none⟩) (i:Int) w k:=by
 have G:=hr.len;have y:=hF.len;have z:i<l.length:=(kB.1 hx).1;obtain⟨_,_,_,e,m,r⟩:=afo hok;unfold gD;refine bc (ea h rfl (ahn hr h af hx λp h5 hp=>Ho (by simp[Go.Ev.ints,h5]) (λj v=>hp h) ?_))
 refine aM h λg I h=>m7 h rfl (by simp[Go.Ev.ints,h5]) (qJ _) λA h=> ?_
 have h:St w0 A (au g (ints x)::au gj [.slice ps.a ps.n ps.c,.slice s.a s.n s.c,.slice sd.a sd.n sd.c,.slice sh.a sh.n sh.c]::bG 1 sd (ints D)::bG 1 sh (ints H)::R):=h;refine cr h (m8 af)<|bP (λn w'=>(tU .i64 n (H.getD i 0) !=0)= !(rU P (H.getD i 0) x)∧St w0 w' (au g (ints x)::au gj [.slice ps.a ps.n ps.c,.slice s.a s.n s.c,.slice sd.a sd.n sd.c,.slice sh.a sh.n sh.c]::bG 1 sd (ints D)::bG 1 sh (ints H)::R)) (λJ b=> ?_) ?_
 ·unfold rU at b;refine ax (λhb=> ?_) λhb=> ?_
  ·have hb':(gA x==9)=true:=hb;have hB:=m (gq hb')
   rw[if_pos hb']at b;refine cr (o:=2) h (m8 af) ⟨hB.1,b _ _ ⟨?_,h⟩⟩;have:=ade hB.1 af;rw[KN this.1 this.2,ajj hB.1 af]
  ·have hb':(gA x==9)=false:=hb;rw[if_neg (by rw[hb'];simp)]at b
   refine ax (λhb=> ?_) λhb=> ?_
   ·have hb':(gA x==10)=true:=hb;have hB:=r (gq hb')
    rw[if_pos hb']at b;refine cr (o:=3) h (m8 af) ⟨hB.1,b _ _ ⟨?_,h⟩⟩;have:=ade hB.1 af;rw[KN this.1 this.2,ajj hB.1 af]
   ·have hb':(gA x==10)=false:=hb;rw[if_neg (by rw[hb'];simp)]at b
    refine ax (λhb=> ?_) λhb=> ?_
    ·have hb':(gA x==8)=true:=hb;have hB:=e (gq hb')
     have hlt:x.getD 4 0<P.length:=by
      unfold G3 at d;rw[hb']at d;by_cases q:x.getD 4 0≥P.length
      ·rw[decide_eq_true q]at d;simp at d
      ·omega
     rw[if_pos hb']at b;have hf:P[(x.getD 4 0).toNat]?=some P[(x.getD 4 0).toNat]:=iH af;have u:=hP _ (qn hf);refine cH h λB h=>bc (ea h rfl (cr (o:=4) h (m8 af) ?_));refine QN hF.rws h af (by rw[l8,hf];rfl) λp t=>uZ (t h rfl) ?_
     refine b _ _ ⟨?_,h⟩;rw[KN u.1 u.2,OA hf]
    ·have hb':(gA x==8)=false:=hb;rw[if_neg (by rw[hb'];simp)]at b
     refine b _ _ ⟨?_,h⟩;rw[KN af af,sub_zero]
 rintro n C ⟨hnn,h⟩;refine bc (ea h rfl (zB h af af ?_));rw[iZ,hnn];refine ax (λhb=> ?_) λhb=> ?_
 ·have hb':rU P (H.getD i 0) x=false:=by simpa using hb
  rw[hb']at hc;exact hc _ h.drop
 ·have hb':rU P (H.getD i 0) x=true:=by simpa using hb
  rw[hb']at hc;exact hc _ h.drop
end
def Si{M:List HP}(h:St w0 w L)(e:L=M):St w0 w M:=e▸h
section
variable{D H:List Int}{i:Nat}
def apC(hj:j<4)(h0:∀j',j'<j→Bc P n D H i x j'=0)(h1:(Bc P n D H i x j !=0)=true):tG P n D H i x=Bc P n D H i x j:=by
 unfold tG;match j,hj with
 |0,_=>rw[if_pos h1]
 |1,_=>rw[h0 0 af];simp[h1]
 |2,_=>rw[h0 0 af,h0 1 af];simp[h1]
 |3,_=>rw[h0 0 af,h0 1 af,h0 2 af];simp
def ajk(h0:∀j',j'<4→Bc P n D H i x j'=0):tG P n D H i x=0:=by
 unfold tG;rw[h0 0 af,h0 1 af,h0 2 af,h0 3 af];simp
end
def X5(kk:Nat):Option (Int×Int)→List Int
 |none=>[0,0,0]
 |some (i,e)=>[(kk:Int),i,e]
def X6(gj gk gf gr:Nat)(ps s sd sh:Sl)(D H:List Int)(asks:List Value)(nv:Int):List HP:=
 [au gj [.slice ps.a ps.n ps.c,.slice s.a s.n s.c,.slice sd.a sd.n sd.c,.slice sh.a sh.n sh.c],bG 1 sd (ints D),bG 1 sh (ints H),au gk asks,au gf [.int .i64 nv,.slice s.a s.n s.c],au gr (ints [0,0,0])]
def adf(gj:Nat):List Value:=[.func (.func ov) #[.pointer (some ⟨gj,0,none⟩)] #[],.func (.func qj) #[.pointer (some ⟨gj,0,none⟩)] #[],.func (.func ow) #[.pointer (some ⟨gj,0,none⟩)] #[],.func (.func nS) #[.pointer (some ⟨gj,0,none⟩)] #[]]
def X7{bY:ey}{id:FuncId}{a b:Value}{d:bt}(e:∀args w c,bY (.func id) args w c=d args.toList w c)(h:d [a,b] w c):nj bY (.func (.func id) #[a] #[]) #[b] w c:=
 bV e h
def ajl(h:ij (some a) i w λr w=>c (.int .i64 r) w):Fc [.pointer (some a),.int .i64 i] w c:=h
def apD(h:jK (some a) i w λr w=>c (.int .i64 r) w):H8 [.pointer (some a),.int .i64 i] w c:=h
def ajm(h:ik (some a) i w λr w=>c (.int .i64 r) w):Fe [.pointer (some a),.int .i64 i] w c:=h
def aho(h:gD (some a) i w λr w=>c (.int .i64 r) w):D7 [.pointer (some a),.int .i64 i] w c:=h
variable{ps:Sl}
def ajn{kk:Nat}{f:dB}(hF:iA w ps P)(hk:P[kk]?=some f)(hok:∀x∈f.code,oV x=0)(hlen:f.code.length≤128)
  (hP:∀f∈P,0≤f.aX∧f.aX≤255) (hc:∀w',St w w' []→k (eZ (X5 kk (A3 P f))) w'):nG #[.slice ps.a ps.n ps.c] (kk:Int) w k:=by
 have hcd:=(hF.code f (qn hk)).2;have I:=hcd.len;have z:=hF.len;unfold nG Ea;refine aM (.nil w) λg1 w2 h=>aM h λg3 Y h=>ea (g:=g1) (o:=0) h rfl ?_;refine QN (e:=dB.cells f) hF.rws h af (by rw[l8,iZ,hk];rfl) λp hp=>Ho (e:=dB.cells f) rfl (λj v=>hp h) ?_
 refine aM h λl Z h=>m7 (g:=l) h rfl rfl (by intro v hv;simp[dB.cells]at hv;rcases hv with rfl|rfl<;>rfl) λJ h=>cH h λA h=> ?_
 have h:St w A [au l [.int .i64 f.aX,.slice f.sl.a f.sl.n f.sl.c],au g3 (ints [0,0,0]),au g1 [.slice ps.a ps.n ps.c]]:=h;refine je (g:=g1) h rfl (ea (g:=l) (o:=1) h rfl (ea (g:=l) (o:=1) h rfl (je (g:=l) h rfl ?_)));have h11:=h;refine apv (hcd.ext h.ext) af λsd K h2 nd=> ?_;have h:=h.join h2;simp only[List.cons_append,List.nil_append]at h;refine eD h11 h (eD h11 h (eD h11 h ?_));have L:=h;refine auy (aX:=f.aX) (hcd.ext h.ext) af λsh N h3 nh=> ?_;have h:=h.join h3;simp only[List.cons_append,List.nil_append]at h;refine eD h11 h (eD h11 h ?_);refine⟨rfl,?_⟩;refine aM h λgj O h=>⟨rfl,⟨rfl,⟨rfl,⟨rfl,aM h λgk B h=> ?_⟩⟩⟩⟩;have h:St w B (X6 gj gk l g3 ps f.sl sd sh (my 0 f.code) (qx f.code f.aX) (adf gj) f.aX):=by
  refine St.perm (Si (M:=[au gk (adf gj),au gj [.slice ps.a ps.n ps.c,.slice f.sl.a f.sl.n f.sl.c,.slice sd.a sd.n sd.c,.slice sh.a sh.n sh.c],bG 1 sh (ints (qx f.code f.aX)),bG 1 sd (ints (my 0 f.code)),au l [.int .i64 f.aX,.slice f.sl.a f.sl.n f.sl.c],au g3 (ints [0,0,0])]) (h.rm 6 rfl) aZ) ?_;unfold X6;exact Hp
 unfold X6 at h;refine ea (g:=l) (o:=1) h rfl ?_;have s:(my 0 f.code).length=f.code.length:=Sq _ _;have t:(qx f.code f.aX).length=f.code.length:=V4 _ _;unfold A3 at hc;generalize my 0 f.code=D at h hc s;generalize qx f.code f.aX=H at h hc t;refine ot (fun(i:Int) w'=> ∃dn rest,f.code=dn++rest∧i=(dn.length:Int)∧mZ P f.code.length D H 0 f.code=mZ P f.code.length D H dn.length rest∧St w w' (X6 gj gk l g3 ps f.sl sd sh D H (adf gj) f.aX)) (λi _=>((f.sl.n:Int) - i).toNat) ⟨[],f.code,rfl,rfl,rfl,h⟩ ?_;rintro _ Q ⟨dn,rest,hl,rfl,hd,h⟩ C hC;cases rest with
 |nil=>
  refine aU (by simp only[decide_eq_false_iff_not];rw[I,hl];simp) ?_
  unfold X6 at h;refine m7 (g:=g3) h rfl rfl (qJ [0,0,0]) λR h=>je (g:=g3) h rfl ?_;rw[hd]at hc;exact hc _ h.all
 |cons x rest=>
  have S:f.code.length=dn.length+(rest.length+1):=by rw[hl];simp
  have T:aF .i64 ((dn.length:Int)+1)=((dn++[x]).length:Int):=by rw[dh ⟨af,af⟩];simp
  have hx:f.code[dn.length]?=some x:=by rw[hl];simp
  have u:=hok x (by rw[hl];simp)
  refine bK (by simp only[decide_eq_true_eq];omega) ?_
  refine ot (fun(i:Int) w'=> ∃j:Nat,i=(j:Int)∧j≤4∧(∀j',j'<j→Bc P f.code.length D H dn.length x j'=0)∧St w w' (X6 gj gk l g3 ps f.sl sd sh D H (adf gj) f.aX)) (λi _=>(4 - i).toNat) ⟨0,rfl,af,λj hj=>by omega,h⟩ ?_
  rintro _ U ⟨j,rfl,V,hz,h⟩ W F;refine ax (λhb=> ?_) λhb=> ?_
  ·have hj:j<4:=by have:=of_decide_eq_true hb;omega
   have X:aF .i64 ((j:Int)+1)=((j+1:Nat):Int):=by rw[dh ⟨af,af⟩];simp
   refine ars af af ?_;have fin:∀b,St w b (X6 gj gk l g3 ps f.sl sd sh D H (adf gj) f.aX)→an (Bc P f.code.length D H dn.length x j !=(0:Int)) (
      dQ 3 b ⟨g3,0,none⟩ #[(.int .i64 (kk:Int)),(.int .i64 (dn.length:Int)),(.int .i64 (Bc P f.code.length D H dn.length x j))] λm=>
      bx 3 m ⟨g3,0,none⟩ λy=>
      (k y m)) (
      (W (aF .i64 ((j:Int)+(1:Int))) b)):=by
    intro b h;refine ax (λhb=> ?_) λhb=> ?_
    ·unfold X6 at h;refine m7 (g:=g3) (vs:=eZ [(kk:Int),(dn.length:Int),Bc P f.code.length D H dn.length x j]) h rfl rfl (qJ _) λm h=>je (g:=g3) h rfl ?_;have G:=apC hj hz hb;have e:mZ P f.code.length D H dn.length (x::rest)=some ((dn.length:Int),Bc P f.code.length D H dn.length x j):=by
      unfold mZ;rw[G,if_pos hb]
     rw[hd,e]at hc;exact hc _ h.all
    ·rw[X];refine F _ _ ⟨j+1,rfl,hj,λj' hj'=> ?_,h⟩ af;by_cases q:j'=j
     ·rw[q];simpa using hb
     ·exact hz j' af
   unfold X6 at h;match j,hj,hz,fin with
   |0,_,hz,fin=>
    refine I2 (g:=gk) (o:=0) h rfl (X7 (d:=Fc) (λ_ _ _=>rfl) (ajl ?_));exact apB h (hcd) hx z λb h=>fin b h
   |1,_,hz,fin=>
    refine I2 (g:=gk) (o:=1) h rfl (X7 (d:=H8) (λ_ _ _=>rfl) (apD ?_));exact ays h hcd hx af λb h=>fin b h
   |2,_,hz,fin=>
    have r:G3 P.length f.code.length x=0:=hz 0 af;refine I2 (g:=gk) (o:=2) h rfl (X7 (d:=Fe) (λ_ _ _=>rfl) (ajm ?_));refine Zu h hcd hx af s (λhg=>⟨((afo u).2.2.1 hg).1,?_⟩) λb h=>fin b h;unfold G3 at r;rw[hg]at r;by_cases q:x.getD 4 0≥f.code.length
    ·rw[decide_eq_true q]at r;simp at r
    ·omega
   |3,_,hz,fin=>
    have r:G3 P.length f.code.length x=0:=hz 0 af;refine I2 (g:=gk) (o:=3) h rfl (X7 (d:=D7) (λ_ _ _=>rfl) (aho ?_));exact alF h hcd hF hx af t u r hP λb h=>fin b h
  ·have hj:j=4:=by have:=of_decide_eq_false hb;omega
   subst hj;rw[T];refine hC _ _ ⟨dn++[x],rest,by rw[hl];simp,rfl,?_,h⟩ (by simp;omega)
   rw[hd];have e:(tG P f.code.length D H dn.length x !=0)=false:=by rw[ajk hz];rfl
   simp[mZ,e]
def Su(x:Int×Int×Int):List Int:=[x.1,x.2.1,x.2.2]
def Sv:∀{l:List (List Int)} {i:Nat},(oG i l).2=0→∀x∈l,oV x=0
 |[],_,_,x,hx=>by cases hx
 |y::l,i,h,x,hx=>by
  unfold oG at h;split at h
  ·rename_i hb;simp only at h;rw[h]at hb;cases hb
  ·rename_i hb;rcases List.mem_cons.1 hx with rfl|hx
   ·simpa using hb
   ·exact Sv h x hx
def KO(h:(qf aX l).2=0):0≤aX∧aX≤255∧1≤l.length∧l.length≤128∧∀x∈l,oV x=0:=by
 unfold qf at h;split at h
 ·cases h
 ·rename_i h1;split at h
  ·cases h
  ·rename_i h2;simp only[Bool.or_eq_true,decide_eq_true_eq,not_or]at h1 h2;exact⟨af,af,af,af,Sv h⟩
def OB:∀{l:List dB} {k:Nat},rP k l=none→∀f∈l,(qf f.aX f.code).2=0
 |[],_,_,f,hf=>by cases hf
 |g::l,k,h,f,hf=>by
  unfold rP at h;split at h
  ·cases h
  ·rename_i hb;rcases List.mem_cons.1 hf with rfl|hf
   ·simpa using hb
   ·exact OB h f hf
def HB{P:List dB}{n:Nat}{D H:List Int}:∀{l:List (List Int)} {i:Nat} {a e:Int},mZ P n D H i l=some (a,e)→e≠0
 |[],_,_,_,h=>by cases h
 |x::l,i,a,e,h=>by
  unfold mZ at h;split at h
  ·rename_i hb;cases h
   simpa using hb
  ·exact HB h
def alG(hF:iA w ps P)
  (hc:∀w',St w w' []→k (eZ (Su (tj P))) w'):oQ #[.slice ps.a ps.n ps.c] w k:=by
 have d:=hF.len;unfold oQ FF;refine aM (.nil w) λg1 w2 h=>aM h λg3 x h=> ?_;have h:St w x [au g3 (ints [0,0,0]),au g1 [.slice ps.a ps.n ps.c]]:=h;have e1:decide (((ps.n:Nat):Int)<1)=decide (P.length<1):=by rw[decide_eq_decide];omega
 have e2:decide (((ps.n:Nat):Int)>32)=decide (P.length>32):=by rw[decide_eq_decide];omega
 refine bP (λb w'=>b=(decide (P.length<1)||decide (P.length>32))∧w'=x) (λJ l=> ?_) ?_
 ·refine ea h rfl (ax (λhb=> ?_) λhb=> ?_)
  ·exact l _ _ ⟨by rw[←e1];dsimp only at hb;rw[hb];rfl,rfl⟩
  ·refine ea h rfl (l _ _ ⟨by rw[←e1,←e2];dsimp only at hb;rw[hb];rfl,rfl⟩)
 rintro b8 y ⟨rfl,rfl⟩;unfold tj at hc;refine ax (λhb=> ?_) λhb=> ?_
 ·rw[hb]at hc;refine m7 (vs:=eZ [-1, -1,12]) h rfl rfl (qJ _) λm h=>je h rfl<|hc _ h.all
 ·rw[hb]at hc;rw[kf]at hb;have z:=of_decide_eq_false hb.1;have A:=of_decide_eq_false hb.2;refine ea h rfl<|bP (λ_ w'=>rP 0 P=none∧St w w' [au g3 (ints [0,0,0]),au g1 [.slice ps.a ps.n ps.c]]) (λJ l=> ?_) ?_
  ·refine ot (fun(i:Int) w'=> ∃dn rest,P=dn++rest∧i=(dn.length:Int)∧rP 0 P=rP dn.length rest∧St w w' [au g3 (ints [0,0,0]),au g1 [.slice ps.a ps.n ps.c]]) (λi _=>((ps.n:Int) - i).toNat) ⟨[],P,rfl,rfl,rfl,h⟩ ?_;rintro _ w16 ⟨dn,rest,hl,rfl,hd,h⟩ C hC;cases rest with
   |nil=>
    refine aU (by simp only[decide_eq_false_iff_not];rw[d,hl];simp) ?_
    exact l _ _ ⟨by rw[hd];rfl,h⟩
   |cons f rest=>
    have o:P.length=dn.length+(rest.length+1):=by rw[hl];simp
    have r:aF .i64 ((dn.length:Int)+1)=((dn++[f]).length:Int):=by rw[dh ⟨af,af⟩];simp
    have hx:P[dn.length]?=some f:=by rw[hl];simp
    have hcd:=(hF.code f (qn hx)).2;refine bK (by simp only[decide_eq_true_eq];omega) ?_
    refine QN hF.rws h af (by rw[l8,iZ,hx];rfl) λp hp=>Ho rfl (λj v=>hp h) ?_
    refine aM h λQ y h=>m7 h rfl rfl (by intro v hv;simp[dB.cells]at hv;rcases hv with rfl|rfl<;>rfl) λm h=>je h rfl ?_
    refine auz (hcd.ext h.ext) λB h2=> ?_;have h:=h.drop.on h2.ext;refine ax (λs=> ?_) λs=> ?_
    ·refine m7 (vs:=eZ [(dn.length:Int),(qf f.aX f.code).1,(qf f.aX f.code).2]) h rfl rfl (qJ _) λD h=>je h rfl ?_;have e:rP 0 P=some ((dn.length:Int),(qf f.aX f.code).1,(qf f.aX f.code).2):=by rw[hd];unfold rP;rw[if_pos s]
     rw[e]at hc;exact hc _ h.all
    ·rw[r];refine hC _ _ ⟨dn++[f],rest,by rw[hl];simp,rfl,?_,h⟩ (by simp;omega)
     have t:((qf f.aX f.code).2 !=0)=false:=s;rw[hd];simp[rP,t]
  rintro _ F ⟨hsh,h⟩;rw[hsh]at hc;have u:=OB hsh;have h0:P[0]?=some P[0]:=iH af;refine ea h rfl<|QN (e:=dB.cells P[0]) hF.rws h af (by rw[l8];simp[h0]) λp hp=>uZ (hp h rfl) ?_
  have G:G4 P 0=P[0].aX:=OA h0;rw[←G];refine ax (λhb=> ?_) λhb=> ?_
  ·refine m7 (vs:=eZ [0, -1,16]) h rfl rfl (qJ _) λH h=>je h rfl ?_;dsimp only at hc;rw[if_neg bf,if_pos hb]at hc;exact hc _ h.all
  ·dsimp only at hc;rw[if_neg bf,if_neg (by rw[hb];simp)]at hc
   refine ea h rfl<|ot (fun(i:Int) w'=> ∃dn rest,P=dn++rest∧i=(dn.length:Int)∧uU P 0 P=uU P dn.length rest∧St w w' [au g3 (ints [0,0,0]),au g1 [.slice ps.a ps.n ps.c]]) (λi _=>((ps.n:Int) - i).toNat) ⟨[],P,rfl,rfl,rfl,h⟩ ?_;rintro _ I ⟨dn,rest,hl,rfl,hd,h⟩ C hC;cases rest with
   |nil=>
    refine aU (by simp only[decide_eq_false_iff_not];rw[d,hl];simp) ?_
    refine m7 (vs:=eZ [0,0,0]) h rfl rfl (qJ _) λK h=>je h rfl ?_;have e:uU P 0 P=none:=by rw[hd];rfl
    rw[e]at hc;exact hc _ h.all
   |cons f rest=>
    have o:P.length=dn.length+(rest.length+1):=by rw[hl];simp
    have r:aF .i64 ((dn.length:Int)+1)=((dn++[f]).length:Int):=by rw[dh ⟨af,af⟩];simp
    have hx:P[dn.length]?=some f:=by rw[hl];simp
    have g:=KO (u f (qn hx));refine bK (by simp only[decide_eq_true_eq];omega) ?_
    refine je h rfl<|ajn (hF.ext h.ext) hx g.2.2.2.2 g.2.2.2.1 (λq hq=>⟨(KO (u q hq)).1,(KO (u q hq)).2.1⟩) λL h2=> ?_;have h:=h.on h2.ext;have hfl:(X5 dn.length (A3 P f)).length=3:=by cases A3 P f<;>rfl
    refine aM h λg4 M h=>m7 h rfl (by simp[eZ,ints,hfl]) (qJ _) λN h=>je h (by simp[eZ,ints,hfl]) ?_
    refine akD hfl (ys:=[0,0,0]) rfl ?_;cases hft:A3 P f with
    |none=>
     refine aU (by simp[X5]) ?_
     rw[r];refine hC _ _ ⟨dn++[f],rest,by rw[hl];simp,rfl,?_,h.drop⟩ (by simp;omega)
     rw[hd];simp[uU,hft]
    |some q=>
     obtain⟨i,e⟩:=q;have hne:=HB hft;refine bK (by simp[X5,hne]) ?_
     rw[hft]at h;refine je h rfl<|m7 h rfl rfl (qJ _) λO h=>je h rfl ?_;have e':uU P 0 P=some ((dn.length:Int),i,e):=by rw[hd];simp[uU,hft]
     rw[e']at hc;exact hc _ h.all
def apE{off c:Nat}{flat:List Int}(hb:pN w g (eZ flat))(h5:∀x∈l,x.length=5∧∀y∈x,sy y)
  (hfl:∀i,i<l.length→∀j,j<5→flat[off+i*5+j]?=(l.getD i [])[j]?) (Zs:l.length*40≤reachBytes):tP w ⟨some ⟨g,off,none⟩,l.length,c⟩ l:=by
 refine⟨⟨bf,λi e he=> ?_⟩,h5,Zs⟩;rw[l8]at he;cases hx:l[i]? with
 |none=>rw[hx]at he;cases he
 |some x=>
  rw[hx]at he;have he':e=ints x:=gq he.symm
  subst he';have hi:i<l.length:=(kB.1 hx).1;have a:=(h5 x (qn hx)).1;refine⟨by simp[ints,a],⟨g,off,none⟩,rfl,λj v hv=> ?_⟩
  have hj:j<5:=by have:=(kB.1 hv).1;simp[ints,a]at this;exact this
  have:=hfl i hi j hj;rw[dg,dg,hb.cell];have e2:l.getD i []=x:=by simp[hx]
  rw[e2]at this;simp only[eZ,ints,List.getElem?_toArray,l8]at hv ⊢;rw[this];exact hv
def ajo(m:Nat)(hn:l.length≤4294967296)(hl:l≠ [])(ht:(Fl.steps l m ((EM l.length).meet 0 (oH .i64 aX 255))).todo=[]):qx l aX=(Fl.steps l m ((EM l.length).meet 0 (oH .i64 aX 255))).held:=
 (afn hn ⟨ht,λq=>(hl q).elim,λ_=>⟨m,rfl⟩⟩).symm
def alH{H:List Int}{r:Option (Int×Int)}(a:qx l 0=H)(hsh:(qf 0 l).2=0)(hr:mZ [⟨0,s,l⟩] l.length (my 0 l) H 0 l=r):
  tj [⟨0,s,l⟩]=(match r with|none=>(0,0,0)|some (i,e)=>(0,i,e)):=by
 have e1:A3 [⟨0,s,l⟩] ⟨0,s,l⟩=r:=by unfold A3;rw[a];exact hr
 have e2:rP 0 [(⟨0,s,l⟩:dB)]=none:=by simp[rP,hsh]
 unfold tj;rw[e2];simp only[G4,uU,e1];cases r<;>simp
def aBQ:Zr Tryz.prog 75 76 78 22 24 3:=⟨⟨_,Tryz.underlying75⟩,aZ,aZ,aZ,Tryz.underlying76,⟨_,_,Tryz.underlying78,rfl,rfl,rfl,rfl⟩,Tryz.underlying3,aZ,aZ,aZ,aZ,Tryz.underlying22,aZ,⟨_,Tryz.underlying24,rfl,rfl⟩,aZ⟩
def afp{A:Type}{sz:Nat}:∀{es:List (List A)},(∀e∈es,e.length=sz)→es.flatten.length=es.length*sz
 |[],_=>by simp
 |e::es,h=>by
  have:=afp (es:=es) λx hx=>h x (by simp[hx])
  have he:=h e bf;simp only[List.flatten_cons,uv,List.length_cons,Nat.add_mul,Nat.one_mul];omega
def Tc{A:Type}{sz:Nat}:∀{es:List (List A)},(∀e∈es,e.length=sz)→∀{i j:Nat} {e:List A},es[i]?=some e→j<sz→es.flatten[i*sz+j]?=e[j]?
 |[],_,i,j,e,he,_=>by simp at he
 |x::es,h,0,j,e,he,hj=>by
  have hx:=h x bf;simp at he;subst he;rw[List.flatten_cons,Nat.zero_mul,Nat.zero_add,tJ af]
 |x::es,h,i+1,j,e,he,hj=>by
  have hx:=h x bf;rw[List.flatten_cons,u0 (by rw[hx,Nat.add_mul];omega),hx,Nat.add_mul,Nat.one_mul]
  rw[show i*sz+sz+j - sz=i*sz+j by omega]
  exact Tc (λy hy=>h y (by simp[hy])) (gq he) hj
def auB(p:Addr)(a b:Nat):(p.add a).add b=p.add (a+b):=by
 by_cases ha:a=0
 ·subst ha;simp[aY]
 ·by_cases hb:b=0
  ·subst hb;simp[aY]
  ·have:a+b≠0:=af;simp[aY,ha,hb,this,Nat.add_assoc]
def auC{sz:Nat}{es:List (List Value)}(h:Hj sz w s es.flatten)(hsz:0<sz)(a:∀e∈es,e.length=sz):QM sz w s es:=by
 have hl:es.length*sz=s.n*sz:=by rw[←afp a];exact h.len
 refine⟨Nat.eq_of_mul_eq_mul_right hsz hl,λi e he=> ?_⟩;have hlen:=a e (qn he);refine⟨hlen,?_⟩;have h0:=Tc a he hsz;obtain⟨p,hp,_⟩:=h.cell (i*sz+0) e[0] (by rw[h0];exact iH af)
 refine⟨p,hp,λj v hv=> ?_⟩;have hj:j<sz:=by have:=(kB.1 hv).1;omega
 obtain⟨p',hp',hc⟩:=h.cell (i*sz+j) v (by rw[Tc a he hj];exact hv)
 rw[hp]at hp';cases hp';rw[auB];exact hc
def awD(h:St w0 w L)[a:At L (bG 5 s) (l.map Go.Ev.ints).flatten f](h5:∀x∈l,x.length=5∧∀y∈x,sy y)(Zs:l.length*40≤reachBytes):tP w s l:=
 ⟨auC (h.own (sz:=5) (s:=s) (vs:=(l.map Go.Ev.ints).flatten)).sls af (λe he=>by obtain⟨x,hx,rfl⟩:=List.mem_map.1 he;simp[Go.Ev.ints,(h5 x hx).1]),h5,Zs⟩
def aEt(h:St w0 w L)[a:At L (bG 2 s) (P.map dB.cells).flatten f](hP:∀x∈P,sy x.aX∧tP w x.sl x.code)(Zs:P.length*32≤reachBytes):iA w s P:=
 ⟨auC (h.own (sz:=2) (s:=s) (vs:=(P.map dB.cells).flatten)).sls af (λe he=>by obtain⟨x,hx,rfl⟩:=List.mem_map.1 he;rfl),hP,Zs⟩
structure Few (P:List dB):Prop where
 n:P.length≤40
 c:∀f∈P,f.code.length≤140
def adg{k:Bool→ap}(hF:iA w ps P)(hc:∀w',St w w' []→k (decide (Su (tj P)=[0,0,0])) w'):gM #[.slice ps.a ps.n ps.c] w k:=by
 unfold gM FG;refine aM (.nil w) λg w2 h=>je h rfl (alG (hF.ext h.ext) λw' h2=> ?_);have h:=h.on h2.ext;exact akD (n:=3) (ys:=[0,0,0]) rfl rfl (hc w' h.all)
def alI(x:List Int):oV x=0∨oV x=10∨oV x=13:=by
 unfold oV;split
 ·exact .inr (.inr rfl)
 ·split
  ·exact .inl rfl
  ·exact .inr (.inl rfl)
def Sw:∀{l:List (List Int)} {i:Nat},(oG i l).2≠16
 |[],i=>by simp[oG]
 |x::l,i=>by
  unfold oG;split
  ·have:=alI x;simp only;omega
  ·exact Sw
def ahp(aX:Int)(l:List (List Int)):(qf aX l).2≠16:=by
 unfold qf;split
 ·simp
 ·split
  ·simp
  ·exact Sw
def ahq:∀{l:List dB} {k:Nat} {x:Int×Int×Int},rP k l=some x→x.2.2≠16
 |[],_,_,h=>by cases h
 |f::l,k,x,h=>by
  unfold rP at h;split at h
  ·cases h;exact ahp _ _
  ·exact ahq h
def X8{P:List dB}:∀{l:List dB} {k:Nat} {a i e:Int},uU P k l=some (a,i,e)→∃m f,l[m]?=some f∧a=((k+m:Nat):Int)∧A3 P f=some (i,e)
 |[],_,_,_,_,h=>by cases h
 |f::l,k,a,i,e,h=>by
  unfold uU at h;split at h
  ·rename_i i' e' he;cases h
   exact⟨0,f,rfl,rfl,he⟩
  ·obtain⟨m,g,h1,h2,h3⟩:=X8 h;exact⟨m+1,g,gq h1,by rw[h2];congr 1;omega,h3⟩
section
variable{D H:List Int}{i:Nat}
end
def B9(nf n:Nat)(x:List Int):Bool:=(qd x&&decide (x.getD 4 0≥n))||((gA x==8)&&decide (x.getD 4 0≥nf))
def Sx(n:Nat)(i:Nat)(x:List Int):Bool:=((i:Int)==(n:Int) - 1)&&(gA x !=6)&& !EL x
section
variable{D H:List Int}{i:Nat}
def auD(h:B9 P.length n x=true):tG P n D H i x=10:=by
 have e:Bc P n D H i x 0=10:=if_pos h;unfold tG;rw[e];rfl
def auE(h:B9 P.length n x=false):Bc P n D H i x 0=0:=if_neg (by unfold B9 at h;rw[h];simp)
def auF(h:B9 P.length n x=false)(h2:Sx n i x=true):tG P n D H i x=11:=by
 have e:Bc P n D H i x 1=11:=if_pos h2;unfold tG;rw[auE h,e];rfl
def Fw(h2:Sx n i x=false):Bc P n D H i x 1=0:=if_neg (by unfold Sx at h2;rw[h2];simp)
def auG(h:B9 P.length n x=false)(h2:Sx n i x=false)(h3:sN D i x=false):tG P n D H i x=15:=by
 have e:Bc P n D H i x 2=15:=if_neg (by rw[h3];simp)
 unfold tG;rw[auE h,Fw h2,e];rfl
def ajp(h:B9 P.length n x=false)(h2:Sx n i x=false)(h3:sN D i x=true):tG P n D H i x=if rU P (H.getD i 0) x then 0 else 16:=by
 have e:Bc P n D H i x 2=0:=if_pos h3;unfold tG;rw[auE h,Fw h2,e];rfl
def adh(h:B9 P.length n x=false):(qd x=true→x.getD 4 0<n)∧(gA x=8→x.getD 4 0<P.length):=by
 unfold B9 at h;rw[kf]at h;refine⟨λhg=> ?_,λho=> ?_⟩
 ·have:=h.1;rw[hg,Bool.true_and]at this;have:=of_decide_eq_false this;omega
 ·have:=h.2;rw[show(gA x==8)=true by simpa using ho,Bool.true_and]at this
  have:=of_decide_eq_false this;omega
end
def agq(x:List Int):Bool:= !((gA x==13)||((gA x==11)&&(x.getD 4 0 !=0)))
def aga(P:List dB):Bool:=P.all λf=>f.code.all agq
def aao:∀{l:List dB} {k:Nat} {x:Int×Int×Int},rP k l=some x→x.2.2≠0
 |[],_,_,h=>by cases h
 |f::l,k,x,h=>by
  unfold rP at h;split at h
  ·rename_i hb;cases h;simpa using hb
  ·exact aao h
structure Acc (P:List dB) (f:dB):Prop where
 n0:0≤f.aX
 n1:f.aX≤255
 l0:1≤f.code.length
 l1:f.code.length≤128
 ok:∀x∈f.code,oV x=0
 good:∀i x,f.code[i]?=some x→tG P f.code.length (my 0 f.code) (qx f.code f.aX) i x=0
structure oW (P:List dB):Prop where
 n0:1≤P.length
 n1:P.length≤32
 root:G4 P 0=0
 all:∀f∈P,Acc P f
def HC{P:List dB}{n:Nat}{D H:List Int}:∀{l:List (List Int)} {i:Nat},mZ P n D H i l=none↔∀j x,l[j]?=some x→tG P n D H (i+j) x=0
 |[],i=>by simp[mZ]
 |y::l,i=>by
  unfold mZ;split
  ·rename_i hb;refine⟨λh=>(by cases h),λh=> ?_⟩
   have:=h 0 y rfl;rw[Nat.add_zero]at this;rw[this]at hb;cases hb
  ·rename_i hb;rw[HC];refine⟨λh j x hx=> ?_,λh j x hx=> ?_⟩
   ·cases j with
    |zero=>simp at hx;subst hx;simpa using hb
    |succ j=>rw[show i+(j+1)=i+1+j by omega];exact h j x (gq hx)
   ·rw[show i+1+j=i+(j+1) by omega];exact h (j+1) x (gq hx)
def OC{P:List dB}:∀{l:List dB} {k:Nat},uU P k l=none↔∀f∈l,A3 P f=none
 |[],k=>by simp[uU]
 |g::l,k=>by
  unfold uU;cases h:A3 P g with
  |some q=>
   obtain⟨i,e⟩:=q;simp only;exact⟨λh=>(by cases h),λh2=>(by have:=h2 g bf;rw[h]at this;cases this)⟩
  |none=>
   simp only;rw[OC];refine⟨λh2 f hf=> ?_,λh2 f hf=>h2 f (by simp[hf])⟩
   rcases List.mem_cons.1 hf with rfl|hf
   ·exact h
   ·exact h2 f hf
def X9:∀{l:List (List Int)} {i:Nat},(∀x∈l,oV x=0)→(oG i l).2=0
 |[],_,_=>rfl
 |y::l,i,h=>by
  unfold oG;rw[if_neg (by rw[h y bf];simp)]
  exact X9 λx hx=>h x (by simp[hx])
def adi:∀{l:List dB} {k:Nat},(∀f∈l,(qf f.aX f.code).2=0)→rP k l=none
 |[],_,_=>rfl
 |y::l,k,h=>by
  unfold rP;rw[if_neg (by rw[h y bf];simp)]
  exact adi λx hx=>h x (by simp[hx])
def afq:(tj P).2.2=0↔oW P:=by
 constructor
 ·intro h;unfold tj at h;split at h
  ·exfalso;dsimp only at h;omega
  ·rename_i hno;simp only[Bool.or_eq_true,decide_eq_true_eq,not_or]at hno;cases hs:rP 0 P with
   |some x=>rw[hs]at h;exact(aao hs h).elim
   |none=>
    rw[hs]at h;simp only at h;split at h
    ·exfalso;dsimp only at h;omega
    ·rename_i g;cases hf:uU P 0 P with
     |some x=>
      obtain⟨a,i,e⟩:=x;rw[hf]at h;simp only at h;obtain⟨m,f,_,_,hfl⟩:=X8 hf;exact(HB hfl h).elim
     |none=>
      refine⟨af,af,gq g,λf hm=> ?_⟩
      obtain⟨a,b,c,d,e⟩:=KO (OB hs f hm);refine⟨a,b,c,d,e,λi x hx=> ?_⟩;have h1:=OC.1 hf f hm;unfold A3 at h1;have:=HC.1 h1 i x hx;rwa[Nat.zero_add]at this
 ·intro h;have hs:rP 0 P=none:=adi λf hf=>by
   have:=h.all f hf;have g:=this.n0;have k:=this.n1;have l:=this.l0;have n:=this.l1;unfold qf;rw[if_neg (by simp only[Bool.or_eq_true,decide_eq_true_eq];omega),if_neg (by simp only[Bool.or_eq_true,decide_eq_true_eq];omega)]
   exact X9 this.ok
  have hf:uU P 0 P=none:=OC.2 λf hf=>by
   unfold A3;exact HC.2 λj x hx=>by rw[Nat.zero_add];exact(h.all f hf).good j x hx
  have g:=h.n0;have k:=h.n1;unfold tj;rw[if_neg (by simp only[Bool.or_eq_true,decide_eq_true_eq];omega),hs]
  simp only;rw[if_neg (by rw[h.root];simp),hf]
structure Good (P:List dB) (n:Nat) (D H:List Int) (i:Nat) (x:List Int):Prop where
 places:B9 P.length n x=false
 last:Sx n i x=false
 scopes:sN D i x=true
 ajq:rU P (H.getD i 0) x=true
def apG{D H:List Int}{i:Nat}:tG P n D H i x=0↔Good P n D H i x:=by
 constructor
 ·intro h;cases h1:B9 P.length n x with
  |true=>rw[auD h1]at h;cases h
  |false=>
   cases h2:Sx n i x with
   |true=>rw[auF h1 h2]at h;cases h
   |false=>
    cases h3:sN D i x with
    |false=>rw[auG h1 h2 h3]at h;cases h
    |true=>
     cases h4:rU P (H.getD i 0) x with
     |false=>rw[ajp h1 h2 h3,h4]at h;simp at h
     |true=>exact⟨h1,h2,h3,h4⟩
 ·rintro⟨h1,h2,h3,h4⟩;rw[ajp h1 h2 h3,h4];rfl
def Ya:∀{l:List (List Int)} {n:Int} {i:Nat},i+1<l.length→(my n l).getD (i+1) 0=BS ((my n l).getD i 0) (l.getD i [])
 |[],_,_,h=>by simp at h
 |[x],_,i,h=>by simp at h
 |x::y::l,n,0,_=>by simp[my]
 |x::y::l,n,i+1,h=>by
  have:=Ya (l:=y::l) (n:=BS n x) (gq h)
  simp only[my,List.getD_cons_succ]at this ⊢;exact this
structure JE (P:List dB) (f:dB) (hv op at':Int):Prop where
 a0:0≤at'
 a1:at'<f.code.length
 inI:sy hv
 bits:∀h:Nat,h<8→tb hv h=false→tb f.aX h=false∧Way f.code h at'
 alJ:op=(my 0 f.code).getD at'.toNat 0
section
variable{f:dB}{op at':Int}
def OD(hA:Acc P f)(hW:JE P f hv op at')(hx:f.code[at'.toNat]?=some x):Good P f.code.length (my 0 f.code) (qx f.code f.aX) at'.toNat x:=apG.1 (hA.good _ _ hx)
def V6(hW:JE P f hv op at')(hh:h<8)(ht:tb ((qx f.code f.aX).getD at'.toNat 0) h=true):tb hv h=true:=by
 have h0:=hW.a0;have h1:=hW.a1;rw[ada af,aBP hh,Int.toNat_of_nonneg h0]at ht;cases q:tb hv h with
 |true=>rfl
 |false=>
  obtain⟨b1,b2⟩:=hW.bits h hh q;rcases V5.1 ht with r|r
  ·rw[b1]at r;cases r
  ·exact(r b2).elim
def adj(hn:f.code.length≤128)(hW:JE P f hv op at')(hx:f.code[at'.toNat]?=some x){z:Int}{Gq op':Int}(hz:z∈behind f.code.length at' x)(hI:sy Gq)
  (hb:∀h:Nat,h<8→tb Gq h=false→tb hv h=false∧xo x h=false) (ho:op'=(my 0 f.code).getD z.toNat 0):JE P f Gq op' z:=by
 have h0:=hW.a0;have h1:=hW.a1;have hin:=JC af h0 h1 z hz;have hg:f.code.getD at'.toNat []=x:=by simp[hx]
 refine⟨hin.1,hin.2,hI,λh hh ht=> ?_,ho⟩;obtain⟨b1,b2⟩:=hb h hh ht;obtain⟨c1,c2⟩:=hW.bits h hh b1;exact⟨c1,c2.next (by rw[hg];exact b2) (by rw[hg];exact hz)⟩
def Yb(hA:Acc P f)(hW:JE P f hv op at')(hx:f.code[at'.toNat]?=some x)(h6:gA x≠6)(b:gA x≠15)(c:gA x≠16):at'+1∈behind f.code.length at' x∧at'+1<f.code.length:=by
 have h0:=hW.a0;have h1:=hW.a1;have hl:=hA.l1;have hg:=OD hA hW hx;have he:EL x=false:=by unfold EL;rw[show(gA x==16)=false by simpa using c,show(gA x==15)=false by simpa using b];rfl
 have a:(gA x !=6)=true:=gq h6
 have hlt:at'+1<f.code.length:=by
  have:=hg.last;unfold Sx at this;rw[he,a]at this;simp only[Bool.and_true,Bool.not_false,beq_eq_false_iff_ne,ne_eq]at this;omega
 have hw:aF .i64 (at'+1)=at'+1:=dh ⟨af,af⟩;refine⟨?_,hlt⟩;unfold behind;have hB:yB f.code.length at' x=true:=by unfold yB;rw[he,a,hw,decide_eq_true hlt];rfl
 rw[if_pos hB,hw];simp
def ahr(hA:Acc P f)(hW:JE P f hv op at')(hx:f.code[at'.toNat]?=some x)(a:qd x=true):x.getD 4 0∈behind f.code.length at' x:=by
 have hg:=OD hA hW hx;have h1:=(adh hg.places).1 a;have h2:=(afo (hA.ok x (qn hx))).2.2.1 a;unfold behind;have hB:yA f.code.length x=true:=by unfold yA;rw[a,decide_eq_true ⟨h2.1,h1⟩];rfl
 rw[if_pos hB];simp
def aap(hW:JE P f hv op at')(hx:f.code[at'.toNat]?=some x)(hlt:at'+1<f.code.length):(my 0 f.code).getD (at'+1).toNat 0=BS op x:=by
 have h0:=hW.a0;have e:(at'+1).toNat=at'.toNat+1:=af;have hg:f.code.getD at'.toNat []=x:=by simp[hx]
 rw[e,Ya af,hg,←hW.alJ]
def adk{h:Int}(h8:gA x≠8):xo x h=false:=by
 unfold xo;rw[show(gA x==8)=false by simpa using h8];rfl
def alK(hA:Acc P f)(hW:JE P f hv op at')(hx:f.code[at'.toNat]?=some x)(h6:gA x≠6)(a:gA x≠15)(b:gA x≠16)(h8:gA x≠8):JE P f hv (BS op x) (at'+1):=by
 obtain⟨hz,hlt⟩:=Yb hA hW hx h6 a b;exact adj hA.l1 hW hx hz hW.inI (λh hh ht=>⟨ht,adk h8⟩) (aap hW hx hlt).symm
def alL(hA:Acc P f)(hW:JE P f hv op at')(hx:f.code[at'.toNat]?=some x)(a:qd x=true):JE P f hv op (x.getD 4 0):=by
 have hg:=OD hA hW hx;have ho:gA x=6∨gA x=7:=by unfold qd at a;simpa using a
 have h8:gA x≠8:=af;refine adj hA.l1 hW hx (ahr hA hW hx a) hW.inI (λh hh ht=>⟨ht,adk h8⟩) ?_;have:=hg.scopes;unfold sN at this;rw[if_neg (by rcases ho with ho|ho<;>rw[ho] <;>decide),if_neg (by rcases ho with ho|ho<;>rw[ho] <;>decide),if_pos a]at this
 rw[hW.alJ];exact(gq this:_=_).symm
end
def ayt(x y:Int):sy (Ti .i64 x y):=by rw[agi];exact abV _
def aaq{f:dB}(hA:Acc P f)(a:sy f.aX):JE P f f.aX 0 0:=by
 have:=hA.l0;refine⟨af,af,a,λh hh ht=>⟨ht,.zero⟩,?_⟩;cases hc:f.code with
 |nil=>rw[hc]at this;simp at this
 |cons x l=>rfl
end Go.Proofs.YthidhjhkmjjckaaGreatDoor.Ck
namespace Go.Proofs.YthidhjhkmjjckaaGreatDoor
open Go Go.Ev Go.Proofs
open Ko (ni CK)
variable{f:List Int}
def ayu{i:List Int}{ps:Sl}{P:List dB}{w:World}{k:Array Value×Int→ap}{g:dB}(hF:iA w ps P)(hf:f.length=19)(h0:0≤f.getD 0 0)(hg:P[(f.getD 0 0).toNat]?=some g)(h1:0≤f.getD 1 0)
  (hi:g.code[(f.getD 1 0).toNat]?=some i) (hk:∀w',Ext w w'→k (eZ i,0) w'):iQ (eZ f) #[.slice ps.a ps.n ps.c] w k:=by
 have hn:=hF.len;obtain⟨_,hcd⟩:=hF.code g (qn hg);have q:=hcd.len;have hlt:=(kB.1 hg).1;have r:=(kB.1 hi).1;have h5:=(hcd.GZ i (qn hi)).1;unfold iQ;refine aM (.nil w) λg1 w1 h=>aM h λg3 w3 h=>aM h λg5 e h=> ?_;have h:St w e [au g5 (ints [0,0,0,0,0]),au g3 [.slice ps.a ps.n ps.c],au g1 (ints f)]:=h;refine bP (λb w'=>b=false∧w'=e) (λJ l=> ?_) λb v d=> ?_
 ·refine cr h (vU af) (aU (by rw[decide_eq_false_iff_not];show¬f.getD 0 0<0;omega) ?_)
  refine cr h (vU af) (ea h rfl (l _ _ ⟨by rw[decide_eq_false_iff_not];show¬f.getD 0 0≥((ps.n:Nat):Int);omega,rfl⟩))
 rw[d.1,d.2];refine aU rfl<|ea h rfl (cr h (vU af) ?_);refine QN hF.rws h h0 (by rw[l8,hg];rfl) λp hp=> ?_
 refine IY (hp h rfl)<|bP (λb w'=>b=false∧w'=e) (λJ l=> ?_) λb v d=> ?_
 ·refine cr (o:=0+1) h (vU af) (aU (by rw[decide_eq_false_iff_not];show¬f.getD 1 0<0;omega) ?_)
  refine cr (o:=0+1) h (vU af) (l _ _ ⟨by rw[decide_eq_false_iff_not];show¬f.getD 1 0≥((g.sl.n:Nat):Int);omega,rfl⟩)
 rw[d.1,d.2];refine aU rfl<|cr (o:=0+1) h (vU af)<|QN hcd.rws h h1 (by rw[l8,hi];rfl) λp hp=> ?_
 refine Ho (by simp[ints,h5]) (λj v=>hp h) ?_
 refine m7 h rfl (by simp[ints,h5]) (Ck.qJ _) λm h=> ?_
 have h:St w m [au g5 (ints i),au g3 [.slice ps.a ps.n ps.c],au g1 (ints f)]:=h;refine je h (by simp[ints,h5]) ?_
 exact hk _ h.ext
def anP(op:Int):Bool:=decide (6≤op∧op≤12∨op=14)
def auH{op:Int}{w:World}{k:Bool→ap}(h0:0≤op)(h1:op<17)(hk:k (anP op) w):sJ op w k:=by
 unfold sJ;rcases Fr.aD3 h0 h1 with h|h|h|h|h|h|h|h|h|h|h|h|h|h|h|h|h<;>subst h<;>exact hk
variable{k:Array Value→ap}{g n:Nat}{o:List (Int×Int)}{x:Int}{X:HP}{sp st:Sl}{q:Wq}{P:Prop}
section
variable{w0 w:World}{L R:List HP}{l:Lc}{aa:List Nat}{G:Gl}{gw:Nat}{W:Wk}{f f2 f3:HP→List HP}
def _root_.Go.Ev.aI2{o m:Nat}{cs:List Value}{k:IntKind}{c:Int→Prop}(h:St w0 w L)[a:At L (au g) cs f](hv:cs[o+m+n]?=some (.int k x))(hc:c x):aJ k w (aY (aY ⟨g,o,none⟩ m) n) c:=by rw[dg];exact aI h hv hc
def _root_.Go.Ev.Z7{o m:Nat}{cs:List Value}{k:IntKind}{c:Int→Prop}(h:St w0 w L)[a:At L (au g) cs f](hc:c x)(hv:cs[o+m+n]?=some (.int k x):=by with_unfolding_all exact rfl):aJ k w (aY (aY ⟨g,o,none⟩ m) n) c:=aI2 h hv hc
def A5{α:Type}{K:α→HP}{x:α}(h:St w0 w (X::L))[a:At L K x f]:St w0 w (f X):=by
 obtain⟨R,ho,hb⟩:=a.split;have h2:St w0 w (X::K x::R):=St.under ho h;exact St.arE hb h2.swap.drop
def qA{cs:List Value}{B:Bx}(h:St w0 w (au g cs::L))[a:At L fz B f]:St w0 w (f (fz (B++[(g,cs)]))):=by
 obtain⟨R,ho,hb⟩:=a.split;have h2:St w0 w (au g cs::fz B::R):=St.under ho h;exact St.arE hb (ayk h2)
def _root_.Go.Ev.St.auI{A B:List HP}(h:St w0 w (A++(B++R))):St w0 w (B++(A++R)):=h.perm (List.perm_append_comm_assoc A B R)
def _root_.Go.Ev.St.back(n:Nat)(h:St w0 w (X::L)):St w0 w (L.insertIdx n X):=by
 by_cases hn:n≤L.length
 ·exact h.perm (List.perm_insertIdx X L hn).symm
 ·rw[List.insertIdx_of_length_lt af];exact h.drop
def _root_.Go.Ev.St.bk{L':List HP}(h:St w0 w (X::L))(n:Nat)(e:L.insertIdx n X=L':=by simp only[aBT,aBU] <;>exact rfl):St w0 w L':=e▸St.back n h
def dX(h:St w0 w (UW l aa G::pH l aa (gw,W)::R)):∃(sp st sw:Sl) (q:Wq),q.Ok aa gw W∧St w0 w (au l.gs (l.cs sp st sw G.steps G.err)::bH l.gm G.M::Da l.gk G.T::scp l.gc G.C::rws 4 sp (G.P.map tI)::bG 1 st (aa.map pt)::bG 1 sw (l.wa.map pt)::ni l.gt G.time::Lw l.gd G.D::LA aa G.ts::
  au gw (W.cs l q)::au q.gwt (W.wait.cells l.told)::bG 1 q.ss q.qw.reverse::bG 1 q.sb q.y6.reverse::bG 1 q.sl (ints W.left)::l6 (uh q.go) W.op::l6 (λk:Lk=>au q.gl (k.cells l.gc)) W.look::l6 (λo:jH=>au q.gp (o.cells l.sp q.gp)) W.step::fz q.B::R):=by
 obtain⟨sp,st,sw,h⟩:=rO h;obtain⟨q,hq,h⟩:=X2 (h.front 10 rfl);exact⟨sp,st,sw,q,hq,St.auI (A:=[_,_,_,_,_,_,_,_,_]) (B:=[_,_,_,_,_,_,_,_,_,_]) h⟩
def bn{sw:Sl}(hq:q.Ok aa gw W)(h:St w0 w (au l.gs (l.cs sp st sw G.steps G.err)::bH l.gm G.M::Da l.gk G.T::scp l.gc G.C::rws 4 sp (G.P.map tI)::bG 1 st (aa.map pt)::bG 1 sw (l.wa.map pt)::ni l.gt G.time::Lw l.gd G.D::LA aa G.ts::
  au gw (W.cs l q)::au q.gwt (W.wait.cells l.told)::bG 1 q.ss q.qw.reverse::bG 1 q.sb q.y6.reverse::bG 1 q.sl (ints W.left)::l6 (uh q.go) W.op::l6 (λk:Lk=>au q.gl (k.cells l.gc)) W.look::l6 (λo:jH=>au q.gp (o.cells l.sp q.gp)) W.step::fz q.B::R)):St w0 w (UW l aa G::pH l aa (gw,W)::R):=by
 have h2:=ac8 hq (St.auI (A:=[_,_,_,_,_,_,_,_,_,_]) (B:=[_,_,_,_,_,_,_,_,_]) h);exact pE (St.back 10 h2)
def _root_.Go.Ev.ptI{cs:Array Value}{o:Nat}{n:Int}{c:Int→Prop}(hv:cs[o]?=some (.int .i64 n))(hc:c n):Qq cs o λv=>xS .i64 v c:=by
 unfold Qq;rw[hv];exact hc
def KP{sw:Sl}{steps err e:Int}{k:Bool→ap}(h:St w0 w L)[a:At L (au l.gs) (l.cs sp st sw steps err) f](he:e≠0)(h0:err=0)(hk:∀w',St w0 w' (f (au l.gs (l.cs sp st sw steps e)))→k true w'):ae (some ⟨l.gs,0,none⟩) e w k:=by
 unfold ae;subst h0;have hb:(e !=0)=true:=by simp[he]
 rw[hb];refine bP (λb w'=>b=true∧w'=w) (λJ c=> ?_) ?_
 ·refine bK rfl<|bc (aI h rfl ?_);exact c _ _ ⟨rfl,rfl⟩
 rintro _ _ ⟨rfl,rfl⟩;refine bK rfl<|pS λw h=>hk w h
def AM{s:Option Addr}{k:Bool→ap}(hk:k false w):ae s 0 w k:=by
 unfold ae;refine QI<|aU rfl (aU rfl hk)
def cX{Q:Prop}(q:Q)(t:Q→P:=by intro zq;(with_reducible repeat' (first|refine bc ?_|refine cH h λw h=> ?_|refine Tn h ?_|refine Iy h ?_|refine u_B h ?_|refine u_S h ?_|refine u_V h ?_|refine u_T h ?_|refine WX h ?_|refine v_I h ?_|refine v_B h ?_|refine v_S h ?_|refine v_V h ?_|refine v_T h ?_|refine QT h ?_|refine Vh h ?_|refine Z7 h ?_|refine Hq h λw h=> ?_|refine v_C h λw h=> ?_|refine u_W h λw h=> ?_|refine QU h λw h=> ?_|refine aM h λgx w h=> ?_|refine vW ?_|refine nP h ?_|refine sR h ?_|refine I8 ?_|refine i_T ?_|refine u_1 ?_|refine AM ?_|refine Zn h hb ?_|fail));exact zq):P:=t q
def dZ{Q:ap}(q:∀w,St w0 w L→Q w)(t:(∀w,St w0 w L→Q w)→P:=by intro zq;(with_reducible repeat' (first|refine bc ?_|refine cH h λw h=> ?_|refine Tn h ?_|refine Iy h ?_|refine u_B h ?_|refine u_S h ?_|refine u_V h ?_|refine u_T h ?_|refine WX h ?_|refine v_I h ?_|refine v_B h ?_|refine v_S h ?_|refine v_V h ?_|refine v_T h ?_|refine QT h ?_|refine Vh h ?_|refine Z7 h ?_|refine Hq h λw h=> ?_|refine v_C h λw h=> ?_|refine u_W h λw h=> ?_|refine QU h λw h=> ?_|refine aM h λgx w h=> ?_|refine vW ?_|refine nP h ?_|refine sR h ?_|refine I8 ?_|refine i_T ?_|refine u_1 ?_|refine AM ?_|refine Zn h hb ?_|fail));exact zq w h):P:=t q
def vO{Q:Nat→ap}{L:Nat→List HP}(q:∀g w,St w0 w (L g)→Q g w)(t:(∀g w,St w0 w (L g)→Q g w)→P:=by intro zq;(with_reducible repeat' (first|refine bc ?_|refine cH h λw h=> ?_|refine Tn h ?_|refine Iy h ?_|refine u_B h ?_|refine u_S h ?_|refine u_V h ?_|refine u_T h ?_|refine WX h ?_|refine v_I h ?_|refine v_B h ?_|refine v_S h ?_|refine v_V h ?_|refine v_T h ?_|refine QT h ?_|refine Vh h ?_|refine Z7 h ?_|refine Hq h λw h=> ?_|refine v_C h λw h=> ?_|refine u_W h λw h=> ?_|refine QU h λw h=> ?_|refine aM h λgx w h=> ?_|refine vW ?_|refine nP h ?_|refine sR h ?_|refine I8 ?_|refine i_T ?_|refine u_1 ?_|refine AM ?_|refine Zn h hb ?_|fail));exact zq gx w h):P:=t q
def lF{a:Nat}{vs cs:List Value}{k:Option Addr→ap}(h:St w0 w L)[a1:At L (au gw) cs f](hs:q.qw=pt a::vs)(h5:cs[0+5]?=some (.slice q.ss.a q.ss.n q.ss.c))[a2:At L (bG 1 q.ss) q.qw.reverse f2](hk:∀w',St w0 w' L→k (some ⟨a,0,none⟩) w'):ah (some ⟨gw,0,none⟩) w k:=by
 unfold ah;have hn:=qY (s:=q.ss) h;have hm:=(h.own (sz:=1) (s:=q.ss)).max;have hcap:=(h.own (sz:=1) (s:=q.ss)).cap;rw[hs]at hn;simp only[List.length_reverse,List.length_cons]at hn;refine cH h λw h=>bc (aS h h5 (bc (aS h h5 ?_)));show cN q.ss (aF .i64 (((q.ss.n:Nat):Int) - 1)) 1 _;rw[kg ⟨af,af⟩];refine vP h af ?_ (hk _ h);rw[hs,List.reverse_cons,u0 (by simp;omega)]
 have e:(((q.ss.n:Nat):Int) - 1).toNat - vs.reverse.length=0:=by rw[List.length_reverse];omega
 rw[e];rfl
def Ca{t:Tk}{a:Nat}{so sc:Sl}{x:Int×Int}(h:St w0 w L)[a1:At L (au a) (t.cells so sc) f][a2:At L (rws 2 so) (t.cJ.map A1) f2](ho:t.cJ=o++[x])
  (hk:∀w',St w0 w' L→k #[.int .i64 x.1,.int .i64 x.2] w'):aq (some ⟨a,0,none⟩) w k:=by
 unfold aq;have hl:=(pg (sz:=2) (s:=so) h).2 af;obtain⟨R',b,_⟩:=a2.out;obtain⟨c,_,h3,_⟩:=LN a2 h;have hm:=(h3.own (sz:=2) (s:=so)).max;have hcap:=(h3.own (sz:=2) (s:=so)).cap;rw[ho]at hl;simp only[List.length_map,uv,List.length_cons,List.length_nil]at hl;refine zE λgx w h=> ?_;show cN so (aF .i64 (((so.n:Nat):Int) - 1)) 2 _;rw[kg ⟨af,af⟩];refine rA h af (e:=A1 x) ?_ af ?_
 ·rw[ho,List.map_append,u0 (by simp;omega)]
  have e:(((so.n:Nat):Int) - 1).toNat - (o.map A1).length=0:=by rw[List.length_map];omega
  rw[e];rfl
 refine pS λw h=>hk w h.drop
def G5{sw:Sl}{steps err:Int}{k:Bool→ap}(h:St w0 w L)[a1:At L (au gw) (W.cs l q) f][a2:At L (au l.gs) (l.cs sp st sw steps err) f2](h0:err=0)
  (h1:steps≥l.fuel→∀w',St w0 w' (f2 (au l.gs (l.cs sp st sw steps 22)))→k true w') (h2:¬steps≥l.fuel→∀w',St w0 w' L→k false w'):aD (some ⟨gw,0,none⟩) w k:=by
 unfold aD yp;refine pS λw h=>ax (λhb=> ?_) λhb=> ?_
 ·refine n8<|KP h e7 h0 λw h=>h1 (of_decide_eq_true hb) w h
 ·exact h2 (of_decide_eq_false hb) _ h
end
open Fr (A0 nE dY eI di iG jo nF o5)
def Gl.tick(G:Gl)(wk:Int):Gl:={G with M:=G.M.tick wk}
def Gl.mem(G:Gl)(M:bJ):Gl:={G with M:=M}
def Gl.fail(G:Gl)(e:Int):Gl:={G with err:=e}
def Gl.set(G:Gl)(x:Nat)(t:Tk):Gl:={G with ts:=G.ts.set x t}
def Gl.lZ(G:Gl):Gl:={G with steps:=wr (G.steps+1)}
def Wk.go(W:Wk)(f:Mt):Wk:={W with cT:= .m f}
def Wk.A6(W:Wk)(O:bu)(k:Kn):Wk:={W with op:=some O,after:=k,cT:= .m .pF}
def Wk.HE(W:Wk)(x:Int)(k:Kn):Wk:={W with jq:=x,home:=k,cT:= .m .tE}
def Wk.JF(W:Wk)(k:Kn):Wk:={W with said:=k,cT:= .m .tell}
def Wk.search(W:Wk)(a b c:Kn):Wk:={W with fits:=a,got:=b,none_:=c,cT:= .m .others}
def Wk.stop(W:Wk)(k:Kn):Wk:={W with pG:=k,step:=none,cT:= .m .stops}
def Wk.drain(W:Wk)(mark:Int)(k:Kn):Wk:={W with mark:=mark,dK:=k,cT:= .m .ul}
def Wk.looks(W:Wk)(s:Int)(k:Kn):Wk:={W with look:=some ⟨s,false,false⟩,seen:=k,cT:= .m .looking}
def Tk.kA(t:Tk):Int×Int:=t.cJ.getLastD (0,0)
def bz(P:List dB)(f:List Int):List Int:=match P[(f.getD 0 0).toNat]? with
 |some g=>g.code.getD (f.getD 1 0).toNat []
 |none=>[]
def anQ:Option bu→Int|some O=>O.tell|none=>0
section
variable(l:Lc)(P:List dB)(G:Gl)(W:Wk)
abbrev SW:=Gl×Wk
abbrev got(W:Wk):Int:=anQ W.op
def rest:SW:=(G.tick W.id,({W with late:=false,wait:=⟨1,G.M.get l.told⟩}:Wk).A6 (bu.B7 W.dq l.log 0 8) (.c .F9))
def F9(st:Int):SW:=(G,if st=1 then W.HE (got W) (.m .rest)else W.search .any (.c .S8) (.m .y5))
def y5:SW:=(G,if W.late then W.go .rest else if W.id≥l.base then{W with step:=some (jH.B7 W.id 3),cT:= .m .xn}else W.go .So)
def OE:SW:=(G.mem (G.M.ad W.id l.told 1),{W with cT:=W.said})
def So:SW:=(G.mem (G.M.ad W.id l.idle (bit W.id 1)),{W with wait:=⟨2,W.wait.seen⟩,cT:= .m .JA})
def JA:SW:=(G.mem (G.M.ad W.id l.idle (bit W.id (-1))),{W with wait:=⟨0,W.wait.seen⟩,cT:= .m .rest})
def xn(o:jH):SW:=
 let r:=o.go l.sp G.M W.id
 (G.mem r.2,if r.1.next=0 then{W with step:=some r.1,cT:=if r.1.ag7=W.id then .m .rest else .m .So}else{W with step:=some r.1})
def tE(t:Tk):SW:=(G.mem (G.M.cs W.id (t.jI+0) 0 1).1,{W with cT:=if (G.M.cs W.id (t.jI+0) 0 1).2 then .m .start else W.home})
def shut(k:Kn)(t:Tk):Wk:=({W with target:=none,qc:=k,again:= .sh k}:Wk).drain t.kA.2 (.c .Db)
def unwind(t:Tk):Wk:=if t.cJ.length=0 then W.go .put else shut W (.c .qI) t
def ends(x:Nat)(t:Tk)(kind v:Int):SW:=(G.set x {t with kind:=kind,v:=v},unwind W t)
def OF(x:Nat)(t:Tk):SW:=
 if W.stack.length≥l.deep then(G.fail 23,W)
 else((G.tick W.id).set x {t with cJ:=[(t.own,G.M.get (W.dq+1))]},({W with stack:=x::W.stack,back:=W.home::W.back}:Wk).looks t.l7 (.c .xp))
def xp(x:Nat)(t:Tk)(xm:Bool):SW:=if xm then ends G W x t 4 0 else(G,W.go .next)
def adl(op:Int):Mt:=([.fork,.join,.join,.cJ,.close,.cancel,.pass,.leave,.leave]:List Mt).getD (op - 8).toNat .pass
def afr(x:Nat)(t:Tk)(i:List Int):SW:=
 if G.steps≥l.fuel then(G.fail 22,W)
 else if (dY t.f i).2 then((G.set x {t with f:=(dY t.f i).1}).lZ,W.go .next)
 else(G,W.go (adl (i.getD 0 0)))
def V7(x:Nat)(t:Tk):SW:=if anP ((bz P t.f).getD 0 0)then(G,W.looks t.l7 (.nx (bz P t.f)))else afr l G W x t (bz P t.f)
def adm(x:Nat)(t:Tk)(i:List Int)(xm:Bool):SW:=if xm then ends G W x t 4 0 else afr l G W x t i
def fork(t:Tk)(nd:Nd):SW:=
 if wr (nd.nest+1)>32 then(G.fail 23,W)
 else if G.M.room 2=false then(G.fail 21,W)
 else({G with M:=(G.M.tick W.id).grow 2,C:=G.C++[⟨t.kA.1,wr (nd.nest+1),(G.M.cells.length:Nat)⟩],P:=G.P++[(-2,0,0,false)]},{W with own:=(G.C.length:Nat),cT:= .m .xo})
def Gl.more(G:Gl)(wk parent l7 own:Int)(f:List Int):Gl:=
 {G with M:=(G.M.tick wk).grow 3,T:=Hz G.T parent,ts:=G.ts++[⟨(G.T.length:Nat),l7,own,(G.M.cells.length:Nat),f,ByteArray.mk #[],[],[own],0,0⟩],P:=G.P.set own.toNat ((G.T.length:Nat),0,0,false)}
def EN(P:List dB)(n:Int):Int:=match P[n.toNat]? with|some g=>g.aX|none=>0
def KQ(x:Nat)(t:Tk):SW:=
 let i:=bz P t.f
 if G.steps≥l.fuel then(G.fail 22,W)
 else if G.M.room 3=false then(G.fail 21,W)
 else(((G.more W.id t.id t.kA.1 W.own (jo t.f (i.getD 4 0) (EN P (i.getD 4 0)))).set x {t with f:=eI t.f i (G.ts.length:Nat)}).lZ,{W with jq:=(G.ts.length:Nat),cT:= .m .tF})
def tF(nd:Nd):SW:=(G.mem (G.M.ad W.id (nd.at_+1) 1),W.A6 (bu.B7 W.dq l.log W.jq 0) (.c .um))
def um(st:Int):SW:=(G,if st=4 then W.HE W.jq (.m .next)else W.JF (.m .next))
def cJ:SW:=(G.tick W.id,{W with mark:=G.M.get (W.dq+1),cT:= .m .opens})
def opens(x:Nat)(t:Tk)(nd:Nd)(pk:Int):SW:=
 let i:=bz P t.f
 if G.steps≥l.fuel then(G.fail 22,W)
 else if wr (nd.nest+1)>32 then(G.fail 23,W)
 else if G.M.room 2=false then(G.fail 21,W)
 else
  let s:Int:=(G.C.length:Nat)
  let G1:Gl:={G with M:=(G.M.tick W.id).grow 2,C:=G.C++[⟨t.kA.1,wr (nd.nest+1),(G.M.cells.length:Nat)⟩],P:=G.P++[(t.id,((t.scopes.length:Nat):Int),pk,false)],time:=if i.getD 4 0>0 then(G.time.1,(Ko.Dt G.time s (i.getD 4 0)).2)else G.time}
  ((G1.set x {t with scopes:=t.scopes++[s],cJ:=t.cJ++[(s,W.mark)],f:=nE t.f}).lZ,W.go .next)
def close_(t:Tk):SW:=(G,shut W (.c .Co) t)
def Cq(P:List Pl)(i:Int):List Pl:=match P[i.toNat]? with|some p=>P.set i.toNat (p.1,p.2.1,p.2.2.1,true)|none=>P
def Gl.Zv(G:Gl)(x:Nat)(t:Tk):Gl:=
 {G with time:=(G.time.1,Ko.EK G.time.2 t.kA.1),P:=Cq G.P t.kA.1,ts:=G.ts.set x {t with cJ:=t.cJ.dropLast}}
def gL(x:Nat)(t:Tk)(nd:Nd):SW:=
 let i:=bz P t.f
 let a:=G.M.get nd.at_ !=0
 if G.steps≥l.fuel then(G.fail 22,W)
 else(((G.tick W.id).Zv x {t with gL:=t.gL++(if a then ByteArray.mk #[49]else ByteArray.mk #[48]),f:=iG t.f i a}).lZ,W.go .next)
def cancel(x:Nat)(t:Tk)(nd:Nd):SW:=
 if G.steps≥l.fuel then(G.fail 22,W)
 else(((G.mem (G.M.cs W.id nd.at_ 0 1).1).set x {t with f:=nE t.f}).lZ,W.JF (.m .next))
def pass(x:Nat)(t:Tk):SW:=if G.steps≥l.fuel then(G.fail 22,W)else((G.set x {t with f:=nE t.f}).lZ,W.go .next)
def leave(x:Nat)(t:Tk):SW:=
 let i:=bz P t.f
 if G.steps≥l.fuel then(G.fail 22,W)
 else(((G.set x {t with f:=nE t.f,kind:=if i.getD 0 0=15 then 3 else 2,v:=t.f.getD (2+(i.getD 1 0).toNat) 0})).lZ,unwind W t)
def ajr(x:Nat)(t:Tk):SW:=ends G W x t 4 0
def qI(x:Nat)(t:Tk):SW:=(G.Zv x t,unwind W {t with cJ:=t.cJ.dropLast})
def put(t:Tk):SW:=(if t.kind=4 then G else G.mem ((G.M.tick W.id).put (t.jI+1) t.v),W.go .fin)
def fin(t:Tk):SW:=(G.mem (G.M.cs W.id (t.jI+0) 1 t.kind).1,W.go .asks)
def asks(t:Tk):SW:=(G.tick W.id,{W with bits:=G.M.get (t.jI+2),cT:= .m .gone})
def gone(nd:Nd):SW:=
 let b:=W.back.headD .no
 let W1:Wk:={W with stack:=W.stack.tail,back:=W.back.tail,cT:=b}
 (G.mem (G.M.ad W.id (nd.at_+1) (-1)),if W.bits !=0||G.M.get (nd.at_+1)==1 then W1.JF b else W1)
def Gi(t:Tk)(x:Nat):SW:=(G.tick W.id,({W with target:=some x,late:=false,again:= .aw x,wait:=⟨1,G.M.get l.told⟩}:Wk).looks t.l7 (.c .th))
def join(t:Tk):SW:=
 let i:=bz P t.f
 Gi l G W t (t.f.getD (10+(if i.getD 0 0=10 then i.getD 3 0 else i.getD 2 0).toNat) 0).toNat
def th(xm:Bool):SW:=(G,if xm then W.stop (.m .cancelled)else W.go .asked)
def asked(t tt:Tk)(y:Nat):SW:=
 let kind:=G.M.get (tt.jI+0)
 (G.tick W.id,if kind=0 then W.stop (.V2 y W.again)else if kind=1 then W.drain (t.cJ.headD (0,0)).2 (.m .vQ)else({W with kind:=kind}:Wk).stop (.c .IF))
def joined(x:Nat)(t tt:Tk):SW:=
 let i:=bz P t.f
 if G.steps≥l.fuel then(G.fail 22,W)
 else
  let r:=di t.f i W.kind (if W.kind=4 then 0 else G.M.get (tt.jI+1))
  let G1:=if W.kind=4 then G else G.tick W.id
  if r.2.2 then((G1.set x {t with f:=r.1,kind:=3,v:=r.2.1}).lZ,unwind (W.go .next) t)
  else((G1.set x {t with f:=r.1}).lZ,W.go .next)
def vQ(t:Tk):SW:=(G,W.search (.hl t.id W.target) (.m .BQ) (.m .nothing))
def BQ(x:Int):SW:=(G,W.stop (.BR x W.again))
def dK(t:Tk):SW:=if W.dK= .m .vQ then vQ G W t else(G,W.go .rp)
def ul(t:Tk):SW:=
 let b:=G.M.get (W.dq+1)
 if b≤W.mark then dK (G.tick W.id) W t else(G.tick W.id,W.A6 (bu.B7 W.dq l.log 0 8) (.c .td))
def td(t:Tk)(st:Int):SW:=if st≠1 then dK G W t else BQ G W (got W)
def rp:SW:=(G.tick W.id,{W with late:=false,wait:=⟨1,G.M.get l.told⟩,cT:= .m .sx})
def sx(t:Tk)(nd:Nd):SW:=if G.M.get (nd.at_+1)=0 then(G.tick W.id,W.stop W.qc)else vQ (G.tick W.id) W t
def nothing:SW:=(G,if W.late then{W with cT:=W.again}else if W.target.isSome&& !W.bO then W.go .register else if W.blocked then{W with wait:=⟨2,W.wait.seen⟩,cT:= .m .Io}else{W with step:=some (jH.B7 0 1),cT:= .m .block})
def register(tt:Tk):SW:=(G.mem (G.M.ad W.id (tt.jI+2) (bit W.id 1)),{W with bO:=true,cT:=W.again})
def block(o:jH):SW:=
 let r:=o.go l.sp G.M W.id
 (G.mem r.2,if r.1.next=0 then{W with step:=some r.1,blocked:=true,cT:=W.again}else{W with step:=some r.1})
def again(t:Tk):SW:=match W.again with
 | .aw y=>Gi l G W t y
 | .sh k=>(G,shut W k t)
 |_=>(G,W)
def Io(t:Tk):SW:=again l G {W with wait:=⟨0,W.wait.seen⟩} t
def pG(x:Nat)(t:Tk)(id:Nat→Int):SW:=match W.pG with
 | .m .cancelled=>ends G W x t 4 0
 | .V2 y k=>(G,W.HE (id y) k)
 | .BR y k=>(G,W.HE y k)
 | .c .IF=>(G,W.go .joined)
 | .c .Co=>(G,W.go .gL)
 | .c .qI=>qI G W x t
 |_=>(G,W)
def stops(x:Nat)(t:Tk)(id jI:Nat→Int):SW:=
 if W.blocked then
  let r:=(W.step.getD (jH.B7 0 2)).go l.sp G.M W.id
  (G.mem r.2,if r.1.next=0 then{W with blocked:=false,step:=none}else{W with step:=some r.1})
 else if W.bO then(G.mem (G.M.ad W.id (jI (W.target.getD 0)+2) (bit W.id (-1))),{W with bO:=false})
 else pG G W x t id
def alM(t:Tk):SW:=if W.none_= .m .y5 then y5 l G W else nothing G W
def KR(t:Tk)(bw:List Int):SW:=match W.left with
 |[]=>alM l G W t
 |j::r=>(G,({W with left:=r}:Wk).A6 (bu.B7 (bw.getD j.toNat 0) l.log 0 15) (.m .Uv))
def others(t:Tk)(bw:List Int):SW:=
 KR l {G.tick W.id with D:=G.D.tail} {W with left:=VU (G.D.headD 0) (xI W.id (l.sp.bits G.M) (G.M.get l.idle) l.wa.length)} t bw
def Zw(W:Wk)(id:Nat→Int)(x:Int):Bool:=match W.fits with
 | .hl me none=>Sh G.T x me
 | .hl me (some y)=>Sh G.T x me||Sh G.T x (id y)
 |_=>true
def Uv(t:Tk)(bw:List Int)(id:Nat→Int)(st:Int):SW:=if st≠2∨Zw G W id (got W)=false then KR l G W t bw else(G,{W with after:= .m .AL})
def auJ(x:Int):SW:=if W.got= .m .BQ then BQ G W x else(G,W.HE x (.m .rest))
def AL(t:Tk)(bw:List Int)(st:Int):SW:=if st=1 then auJ G W (got W)else KR l G {W with late:=true} t bw
def zj(t:Tk)(bw:List Int)(id:Nat→Int)(st:Int):SW:=match W.after with
 | .c .F9=>F9 G W st
 | .c .um=>um G W st
 | .c .td=>td G W t st
 | .m .Uv=>Uv l G W t bw id st
 | .m .AL=>AL l G W t bw st
 |_=>(G,W)
def pF(O:bu)(t:Tk)(bw:List Int)(id:Nat→Int):SW:=
 let r:=O.step G.M W.id
 let W1:Wk:={W with op:=some r.1}
 if r.1.how=0 then(G.mem r.2,W1)else if r.1.how=6 then((G.mem r.2).fail r.1.err,W1)else zj l (G.mem r.2) W1 t bw id r.1.how
def Sy(x:Nat)(t:Tk)(xm:Bool):SW:=match W.seen with
 | .nx i=>adm l G W x t i xm
 | .c .th=>th G W xm
 | .c .xp=>xp G W x t xm
 |_=>(G,W)
def looking(k:Lk)(nd:Nd)(x:Nat)(t:Tk):SW:=
 let k':=k.go G.M nd
 let W1:Wk:={W with look:=some k'}
 if k'.done then Sy l (G.tick W.id) W1 x t k'.xm else(G.tick W.id,W1)
end
abbrev qR(w0 w:World)(l:Lc)(aa:List Nat)(gw:Nat)(G:Gl)(W:Wk)(R:List HP):Prop:=St w0 w (UW l aa G::pH l aa (gw,W)::R)
abbrev Fin(w0:World)(l:Lc)(aa:List Nat)(gw:Nat)(R:List HP)(k:Unit→ap)(r:Gl×Wk):Prop:=∀w',qR w0 w' l aa gw r.1 r.2 R→k () w'
abbrev xq(w0 w:World)(l:Lc)(aa:List Nat)(gw:Nat)(G:Gl)(W:Wk)(R:List HP)(sp st sw:Sl)(q:Wq):Prop:=
 St w0 w (au l.gs (l.cs sp st sw G.steps G.err)::bH l.gm G.M::Da l.gk G.T::scp l.gc G.C::rws 4 sp (G.P.map tI)::bG 1 st (aa.map pt)::bG 1 sw (l.wa.map pt)::ni l.gt G.time::Lw l.gd G.D::LA aa G.ts::
  au gw (W.cs l q)::au q.gwt (W.wait.cells l.told)::bG 1 q.ss q.qw.reverse::bG 1 q.sb q.y6.reverse::bG 1 q.sl (ints W.left)::l6 (uh q.go) W.op::l6 (λk:Lk=>au q.gl (k.cells l.gc)) W.look::l6 (λo:jH=>au q.gp (o.cells l.sp q.gp)) W.step::fz q.B::R)
variable{DC:Int}
section
variable{w0 w:World}{L R:List HP}{l:Lc}{aa:List Nat}{G:Gl}{gw b:Nat}{W:Wk}{k:Unit→ap}{sw:Sl}{f:HP→List HP}
def ahs{go:Nat}{o:Option bu}{k:Int→ap}(h:St w0 w L)[a:At L (l6 (uh go)) o f](ho:o.isSome=true)(hk:k (anQ o) w):cG (o.map λ_=>⟨go,0,none⟩) w k:=by
 cases o with
 |none=>cases ho
 |some O=>
  obtain⟨R,h1,_⟩:=a.out;have h2:St w0 w (uh go O::R):=h1 h;exact aBs h2 hk
def ayv(h:qR w0 w l aa gw G W R)(hc:G.M.can W.id l.told=true)(hk:Fin w0 l aa gw R k (rest l G W)):gW (some ⟨gw,0,none⟩) w k:=by
 obtain⟨sp,st,sw,q,hq,h⟩:=dX h;unfold gW Al;refine vO λgx w h=> ?_;obtain⟨b,a⟩:∃n,n=gx:=⟨_,rfl⟩;subst a;refine cX ?_;have h:=h.fr 2;have h:=h.fr 12;refine acF h hc λw h=> ?_;have h:=h.bk 12;have h:=h.bk 2;with_reducible repeat' (first|refine bc ?_|refine cH h λw h=> ?_|refine WX h ?_|refine QT h ?_|refine nP h ?_|refine sR h ?_|refine I8 ?_|refine AM ?_)
 refine ato h λgo w h=> ?_;have h:=A5 (K:=l6 (uh q.go)) h;unfold bq;with_reducible repeat' (first|refine bc ?_|refine Hq h λw h=> ?_|refine sR h ?_)
 have h:=qA h;exact hk w (bn (q:={q with go:=go,pJ:=_,KJ:=_,B:=_}) {KL hq with cT:=rfl,after:=⟨b,bf,rfl⟩} h)
def auK(hq:q.Ok aa gw W)(h:xq w0 w l aa gw G W R sp st sw q)(hb:(b,[pt gw])∈q.B)(ho:W.op.isSome=true)(hk:Fin w0 l aa gw R k (F9 G W DC)):gF DC ⟨b,0,none⟩ w k:=by
 unfold gF wA;unfold F9 at hk;refine ax (λhs=> ?_) λhs=> ?_
 ·rw[if_pos (gq hs)]at hk
  refine dZ λw h=>ahs h ho ?_;with_reducible repeat' (first|fail)
  unfold bi;refine dZ λw h=>hk _ (bn (q:={q with pJ:=mt gw .tE,LB:=mt gw .rest}) (by exact{hq with cT:=rfl,home:=rfl}) h)
 ·rw[if_neg (gq hs)]at hk
  refine cX ?_;unfold dx;refine dZ λw h=>hk _ (bn (q:={q with pJ:=mt gw .others,Zo:=aAf,ajd:=ct b .S8,Zp:=mt gw .y5}) (by exact{hq with cT:=rfl,fits:=rfl,got:=⟨b,hb,rfl⟩,none_:=rfl}) h)
def apH(hq:q.Ok aa gw W)(h:xq w0 w l aa gw G W R sp st sw q)(hb:(b,[pt gw])∈q.B)(hk:Fin w0 l aa gw R k (G,W.HE x (.m .rest))):eT x ⟨b,0,none⟩ w k:=by
 unfold eT uC;refine cX ?_;unfold bi;refine dZ λw h=>hk _ (bn (q:={q with pJ:=mt gw .tE,LB:=mt gw .rest}) (by exact{hq with cT:=rfl,home:=rfl}) h)
def auL(h:qR w0 w l aa gw G W R)(hk:Fin w0 l aa gw R k (y5 l G W)):iq (some ⟨gw,0,none⟩) w k:=by
 obtain⟨sp,st,sw,q,hq,h⟩:=dX h;unfold iq yl;unfold y5 at hk;refine cX<|ax (λhb=> ?_) λhb=> ?_
 ·rw[if_pos hb]at hk;refine dZ λw h=>hk _ (bn (q:={q with pJ:=mt gw .rest}) (by exact{hq with cT:=rfl}) h)
 rw[if_neg (by rw[hb];simp)]at hk
 refine dZ λw h=>ax (λhb=> ?_) λhb=> ?_
 ·rw[if_pos (of_decide_eq_true hb)]at hk;refine dZ λw h=>apj h λg w h=> ?_;have h:=A5 (K:=l6 (λo:jH=>au q.gp (o.cells l.sp q.gp))) h;refine dZ λw h=>hk _ (bn (q:={q with pJ:=mt gw .xn,gp:=g}) (by exact{hq with cT:=rfl}) h)
 ·rw[if_neg (of_decide_eq_false hb)]at hk;refine dZ λw h=>hk _ (bn (q:={q with pJ:=mt gw .So}) (by exact{hq with cT:=rfl}) h)
def auM(h:qR w0 w l aa gw G W R)(hc:G.M.can W.id l.told=true)(hk:Fin w0 l aa gw R k (OE l G W)):gT (some ⟨gw,0,none⟩) w k:=by
 obtain⟨sp,st,sw,q,hq,h⟩:=dX h;unfold gT Af;have hv:=hq.said.one;refine dZ λw h=>anl h hc λw h=> ?_;with_reducible repeat' (first|refine bc ?_|refine u_V h ?_|refine Hq h λw h=> ?_|refine nP h ?_|refine i_T ?_|refine AM ?_)
 exact hk _ (bn (q:={q with pJ:=q.Zq}) (by exact{hq with cT:=hq.said}) h)
def aBV(h:qR w0 w l aa gw G W R)(hw:0≤W.id∧W.id≤16)(hc:G.M.can W.id l.idle=true)(hh:W.wait.how=1)(hk:Fin w0 l aa gw R k (So l G W)):iP (some ⟨gw,0,none⟩) w k:=by
 obtain⟨sp,st,sw,q,hq,h⟩:=dX h;unfold iP By;refine cX<|bP (λb w=>b=false∧xq w0 w l aa gw (G.mem (G.M.ad W.id l.idle (bit W.id 1))) {W with wait:=⟨2,W.wait.seen⟩} R sp st sw q) (λJ a=> ?_) ?_
 ·refine dZ λw h=>aoZ h hw hc λw h=> ?_;with_reducible repeat' (first|refine bc ?_|refine Tn h ?_|refine nP h ?_|refine I8 ?_|refine AM ?_)
  refine anm h λw h=> ?_;rw[if_pos hh];rw[if_pos hh]at h;with_reducible repeat' (first|refine nP h ?_|refine AM ?_)
  exact a _ _ ⟨rfl,h⟩
 clear h;rintro _ w ⟨rfl,h⟩;refine dZ λw h=>hk _ (bn (q:={q with pJ:=mt gw .JA}) (by exact{hq with cT:=rfl}) h)
def ayw(h:qR w0 w l aa gw G W R)(hw:0≤W.id∧W.id≤16)(hc:G.M.can W.id l.idle=true)(hk:Fin w0 l aa gw R k (JA l G W)):gU (some ⟨gw,0,none⟩) w k:=by
 obtain⟨sp,st,sw,q,hq,h⟩:=dX h;unfold gU Ah;refine cX ?_;refine ae7 h λw h=>dZ λw h=>ao0 h hw hc λw h=> ?_;with_reducible repeat' (first|refine bc ?_|refine Hq h λw h=> ?_|refine nP h ?_|refine i_T ?_|refine AM ?_)
 exact hk _ (bn (q:={q with pJ:=mt gw .rest}) (by exact{hq with cT:=rfl}) h)
def alN(h:qR w0 w l aa gw G W R)(hc:G.M.can W.id l.told=true)(hk:Fin w0 l aa gw R k (rp l G W)):eN (some ⟨gw,0,none⟩) w k:=by
 obtain⟨sp,st,sw,q,hq,h⟩:=dX h;unfold eN vv;refine dZ λw h=> ?_;have h:=h.fr 1;have h:=h.fr 11;refine acF h hc λw h=> ?_;have h:=h.bk 11;have h:=h.bk 1;with_reducible repeat' (first|refine bc ?_|refine Hq h λw h=> ?_|refine nP h ?_|refine I8 ?_|refine AM ?_)
 exact hk _ (bn (q:={q with pJ:=mt gw .sx}) (by exact{hq with cT:=rfl}) h)
def ayx(h:qR w0 w l aa gw G W R)(hA:xH W.dq)(hc:G.M.can W.id (W.dq+1)=true)(hk:Fin w0 l aa gw R k (cJ G W)):gZ (some ⟨gw,0,none⟩) w k:=by
 obtain⟨sp,st,sw,q,hq,h⟩:=dX h;unfold gZ As;refine dZ λw h=>VT h hA hc λw h=> ?_;refine dZ λw h=>hk _ (bn (q:={q with pJ:=mt gw .opens}) (by exact{hq with cT:=rfl}) h)
def apI{o:jH}(h:qR w0 w l aa gw G W R)(hT:TZ w0)(hs:l.sp.OK)(a:G.M.OK)(ho:W.step=some o)(hf:o.GX l.sp G.M W.id)(hk:Fin w0 l aa gw R k (xn l G W o)):fm (some ⟨gw,0,none⟩) w k:=by
 obtain⟨id,dq,wait,stack,back,cT,op,after,look,seen,step,left,late,fits,got,none_,jq,home,target,kind,bO,blocked,again,pG,mark,dK,own,said,bits,qc⟩:=W;dsimp only at ho;subst ho;obtain⟨sp,st,sw,q,hq,h⟩:=dX h;unfold fm wK;unfold xn at hk;dsimp only[l6]at h;refine dZ λw h=> ?_;have h:=h.fr 1;have h:=h.fr 17;refine Ze h hT hs a hf λw h=> ?_;have h:=h.bk 17;have h:=h.bk 1;generalize o.go l.sp G.M id=r at h hk ⊢;refine cX<|ax (λhb=> ?_) λhb=> ?_
 ·have hb:¬r.1.next=0:=by simpa using hb
  simp only[if_neg hb]at hk;exact hk _ (bn (by exact{hq with}) h)
 ·have hb:r.1.next=0:=by simpa using hb
  simp only[if_pos hb]at hk;refine dZ λw h=>atD h ?_;refine cX<|ax (λhb=> ?_) λhb=> ?_
  ·rw[if_pos (gq hb)]at hk
   refine dZ λw h=>hk _ (bn (q:={q with pJ:=mt gw .rest}) (by exact{hq with cT:=rfl}) h)
  ·rw[if_neg (gq hb)]at hk
   exact hk _ (bn (q:={q with pJ:=mt gw .So}) (by exact{hq with cT:=rfl}) h)
end
abbrev TL(l:Lc)(aa:List Nat)(gw:Nat)(G:Gl)(W:Wk)(R:List HP)(sp st sw:Sl)(q:Wq)(x a:Nat)(t:Tk)(so sc:Sl):List HP:=
 au a (t.cells so sc)::rws 2 so (t.cJ.map A1)::bG 1 sc (ints t.scopes)::jO tkP ((aa.zip G.ts).eraseIdx x)::au l.gs (l.cs sp st sw G.steps G.err)::bH l.gm G.M::Da l.gk G.T::scp l.gc G.C::rws 4 sp (G.P.map tI)::bG 1 st (aa.map pt)::bG 1 sw (l.wa.map pt)::ni l.gt G.time::Lw l.gd G.D::
  au gw (W.cs l q)::au q.gwt (W.wait.cells l.told)::bG 1 q.ss q.qw.reverse::bG 1 q.sb q.y6.reverse::bG 1 q.sl (ints W.left)::l6 (uh q.go) W.op::l6 (λk:Lk=>au q.gl (k.cells l.gc)) W.look::l6 (λo:jH=>au q.gp (o.cells l.sp q.gp)) W.step::fz q.B::R
abbrev TO(w0 w:World)(l:Lc)(aa:List Nat)(gw:Nat)(G:Gl)(W:Wk)(R:List HP)(sp st sw:Sl)(q:Wq)(x a:Nat)(t:Tk)(so sc:Sl):Prop:=St w0 w (TL l aa gw G W R sp st sw q x a t so sc)
structure Tp (aa:List Nat) (G:Gl) (x a:Nat) (t:Tk):Prop where
 len:aa.length=G.ts.length
 a:aa[x]?=some a
 t:G.ts[x]?=some t
variable{kk:Kn}
section
variable{w0 w:World}{L R:List HP}{l:Lc}{aa:List Nat}{G:Gl}{gw b x a:Nat}{W:Wk}{k:Unit→ap}{sw so sc:Sl}{f:HP→List HP}{t t':Tk}{s':List Nat}
def m5(hq:q.Ok aa gw W)(hs:W.stack=x::s'):∃a vs,aa[x]?=some a∧q.qw=pt a::vs∧KK (Pts aa) s' vs:=by
 have h:=hq.qw;rw[hs]at h;generalize q.qw=s at h ⊢;cases h with
 |cons h1 h2=>
  obtain⟨a,h3,rfl⟩:=h1;exact⟨a,_,h3,rfl,h2⟩
def xJ(h:xq w0 w l aa gw G W R sp st sw q):aa.length=G.ts.length:=KI (h.front 9 rfl)
def n7(h:xq w0 w l aa gw G W R sp st sw q)(ha:aa[x]?=some a)(ht:G.ts[x]?=some t):Tp aa G x a t∧∃so sc,TO w0 w l aa gw G W R sp st sw q x a t so sc:=by
 refine⟨⟨xJ h,ha,ht⟩,?_⟩;have h:=h.fr 9;exact sv h ha ht
def vH(hp:Tp aa G x a t)(h:TO w0 w l aa gw G W R sp st sw q x a t' so sc):xq w0 w l aa gw (G.set x t') W R sp st sw q:=by
 have h:=ajc hp.len hp.a h;exact St.back 9 h
def afs(hp:Tp aa G x a t):G.set x t=G:=by
 have e:G.ts.set x t=G.ts:=by
  apply List.ext_getElem?;intro j;by_cases hj:x=j
  ·subst hj;rw[uO (kB.1 hp.t).1,hp.t]
  ·rw[r0 hj]
 unfold Gl.set;rw[e]
def oX(hp:Tp aa G x a t)(h:TO w0 w l aa gw G W R sp st sw q x a t so sc):xq w0 w l aa gw G W R sp st sw q:=by
 have h:=vH hp h;rwa[afs hp]at h
def qg(hl:aa.length=G.ts.length)(ha:aa[x]?=some a)(ht:G.ts[x]?=some t)(h:St w0 w (au a (t.cells so sc)::rws 2 so (t.cJ.map A1)::bG 1 sc (ints t.scopes)::jO tkP ((aa.zip G.ts).eraseIdx x)::R)):St w0 w (LA aa G.ts::R):=by
 have h:=ajc hl ha h;have e:=congrArg Gl.ts (afs ⟨hl,ha,ht⟩);unfold Gl.set at e;dsimp only at e;rwa[e]at h
def Cr{m:Int×Int}(ho:t.cJ=o++[m]):t.kA=m:=by
 unfold Tk.kA;rw[ho];simp
def aht{kv:Value}(hq:q.Ok aa gw W)(h:xq w0 w l aa gw G W R sp st sw q)(hs:W.stack=x::s')(ht:G.ts[x]?=some t)(ho:t.cJ≠ [])(hv:Rp aa gw q.B kk kv)
  (hk:Fin w0 l aa gw R k (G,shut W kk t)):cF (some ⟨gw,0,none⟩) kv w k:=by
 have hl:=xJ h;obtain⟨a,vs,ha,hst,_⟩:=m5 hq hs;have e:=hv.one;obtain⟨o,m,d⟩:∃o m,t.cJ=o++[m]:=⟨_,_,(List.dropLast_concat_getLast ho).symm⟩;unfold cF z8;with_reducible repeat' (first|refine bc ?_|refine cH h λw h=> ?_|refine WX h ?_|refine v_V h ?_|refine Hq h λw h=> ?_|refine aM h λgx w h=> ?_|refine sR h ?_|refine u_1 ?_)
 obtain⟨gc,c⟩:∃n,n=gx:=⟨_,rfl⟩;subst c;refine cX ?_;obtain⟨b,c⟩:∃n,n=gx:=⟨_,rfl⟩;subst c;refine cX ?_;refine lF h hst vM λw h=> ?_;with_reducible repeat' (first|refine sR h ?_|fail)
 have h:=h.fr 11;obtain⟨so,sc,h⟩:=sv h ha ht;refine Ca h d λw h=> ?_;have h:=qg hl ha ht h;have h:=h.bk 11;with_reducible repeat' (first|refine sR h ?_|fail)
 refine ptI (by rfl) ?_
 unfold dM;refine dZ λw h=> ?_;have h:=qA h;have h:=qA h;unfold shut at hk;rw[Cr d]at hk;have hm:∀p∈q.B,p∈q.B++[(gc,[kv])] ++[(b,[pt gw])]:=λp hp=>List.mem_append_left _ (List.mem_append_left _ hp);exact hk _ (bn (q:={q with pJ:=mt gw .ul,O6:=none,ahi:=kv,zi:= .func (.func fN) #[] #[pt b,pt gc],IP:=ct b .Db,B:=q.B++[(gc,[kv])] ++[(b,[pt gw])]})
  (by exact{hq.box hm with cT:=rfl,target:=rfl,qc:=hv.box hm,again:=⟨b,gc,kv,bf,hv.box hm,bf,rfl⟩,dK:=⟨b,bf,rfl⟩}) h)
def aft(h:qR w0 w l aa gw G W R)(hs:W.stack=x::s')(ht:G.ts[x]?=some t)(hk:Fin w0 l aa gw R k (G,unwind W t)):dy (some ⟨gw,0,none⟩) w k:=by
 obtain⟨sp,st,sw,q,hq,h⟩:=dX h;have hl:=xJ h;obtain⟨a,vs,ha,hst,_⟩:=m5 hq hs;unfold dy wG;unfold unwind at hk;refine vO λgx w h=> ?_;obtain⟨b,d⟩:∃n,n=gx:=⟨_,rfl⟩;subst d;refine cX ?_;refine lF h hst vM λw h=> ?_;have h:=h.fr 10;obtain⟨so,sc,h⟩:=sv h ha ht;have hn:=(pg (sz:=2) (s:=so) h).2 af;rw[List.length_map]at hn;refine cX<|ax (λhb=> ?_) λhb=> ?_
 ·have hb:t.cJ.length=0:=by
   have:((so.n:Nat):Int)=0:=gq hb
   omega
  rw[if_pos hb]at hk;refine dZ λw h=> ?_;have h:=qg hl ha ht h;have h:=h.bk 10;have h:=h.zm 0;exact hk _ (bn (q:={q with pJ:=mt gw .put}) (by exact{hq with cT:=rfl}) h)
 ·have hb:¬t.cJ.length=0:=by
   intro q;have:((so.n:Nat):Int)=0:=af;simp[this]at hb
  rw[if_neg hb]at hk;refine cX ?_;have h:=qg hl ha ht h;have h:=h.bk 10;have h:=qA h;exact aht (kk:= .c .qI) (KL hq) h hs ht (by intro q;rw[q]at hb;exact hb rfl) ⟨b,bf,rfl⟩ hk
def abf{kind v:Int}(h:qR w0 w l aa gw G W R)(hs:W.stack=x::s')(ht:G.ts[x]?=some t)(hk:Fin w0 l aa gw R k (ends G W x t kind v)):cB (some ⟨gw,0,none⟩) kind v w k:=by
 obtain⟨sp,st,sw,q,hq,h⟩:=dX h;have hl:=xJ h;obtain⟨a,vs,ha,hst,_⟩:=m5 hq hs;unfold cB Aa;refine lF h hst vM λw h=> ?_;obtain⟨hp,so,sc,h⟩:=n7 h ha ht;refine dZ λw h=> ?_;have h:=vH (t':={t with kind:=kind,v:=v}) hp h;refine aft (bn hq h) hs (t:={t with kind:=kind,v:=v}) ?_ hk;unfold Gl.set;exact uO (kB.1 ht).1
end
variable{xm:Bool}
section
variable{w0 w:World}{L R:List HP}{l:Lc}{aa:List Nat}{G:Gl}{gw b x a:Nat}{W:Wk}{k:Unit→ap}{sw so sc:Sl}{f:HP→List HP}{t t':Tk}{s':List Nat}
def Zx(hl:aa.length=G.ts.length)(ht:G.ts[x]?=some t):∃a,aa[x]?=some a:=⟨aa[x]'(by have:=(kB.1 ht).1;omega),iH _⟩
def adn(ha:aa[x]?=some a):(aa.map pt)[((x:Nat):Int).toNat]?=some (.pointer (some ⟨a,0,none⟩)):=by rw[iZ,l8,ha];rfl
def apJ(h:qR w0 w l aa gw G W R)(hx:W.jq=(x:Nat))(ht:G.ts[x]?=some t)(b:G.M.OK)(hc:G.M.can W.id (t.jI+0)=true)(hk:Fin w0 l aa gw R k (tE G W t)):fo (some ⟨gw,0,none⟩) w k:=by
 obtain⟨sp,st,sw,q,hq,h⟩:=dX h;have hl:=xJ h;obtain⟨a,ha⟩:=Zx hl ht;unfold fo wN;unfold tE at hk;have hv:=hq.home.one;refine dZ λw h=> ?_;show cN st W.jq 1 _;rw[hx];refine vP h af (adn ha) ?_;have h:=h.fr 9;obtain⟨so,sc,h⟩:=sv h ha ht;refine cX<|ao3 h b hc λw h=> ?_;have h:=qg hl ha ht h;have h:=h.bk 9;refine dZ λw h=>ax (λhb=> ?_) λhb=> ?_
 ·have hb:(G.M.cs W.id (t.jI+0) 0 1).2=true:=hb;rw[if_pos hb]at hk;refine dZ λw h=>hk _ (bn (q:={q with pJ:=mt gw .start}) (by exact{hq with cT:=rfl}) h)
 ·have hb:(G.M.cs W.id (t.jI+0) 0 1).2=false:=hb;rw[if_neg (by rw[hb];simp)]at hk
  exact hk _ (bn (q:={q with pJ:=q.LB}) (by exact{hq with cT:=hq.home}) h)
def aBW(h:qR w0 w l aa gw G W R)(hs:W.stack=x::s')(ht:G.ts[x]?=some t)(d:G.M.OK)(hc:G.M.can W.id (t.jI+1)=true)(hk:Fin w0 l aa gw R k (put G W t)):iR (some ⟨gw,0,none⟩) w k:=by
 obtain⟨sp,st,sw,q,hq,h⟩:=dX h;obtain⟨a,vs,ha,hst,_⟩:=m5 hq hs;unfold iR BE;unfold put at hk;refine lF h hst vM λw h=> ?_;obtain⟨hp,so,sc,h⟩:=n7 h ha ht;refine bP (λb w=>b=true∧xq w0 w l aa gw (if t.kind=4 then G else G.mem ((G.M.tick W.id).put (t.jI+1) t.v)) W R sp st sw q) (λJ c=> ?_) ?_
 ·refine dZ λw h=>ax (λhb=> ?_) λhb=> ?_
  ·rw[if_pos (gq hb)]at c
   exact c _ _ ⟨rfl,oX hp h⟩
  ·rw[if_neg (gq hb)]at c
   refine cX<|axK h d hc λw h=> ?_;with_reducible repeat' (first|refine nP h ?_|refine AM ?_)
   refine c _ _ ⟨rfl,?_⟩;have h:=qg hp.len hp.a hp.t h;have h:=h.bk 9;exact h
 clear h;rintro _ w ⟨rfl,h⟩;refine dZ λw h=>hk _ (bn (q:={q with pJ:=mt gw .fin}) (by exact{hq with cT:=rfl}) h)
def aBX(h:qR w0 w l aa gw G W R)(hs:W.stack=x::s')(ht:G.ts[x]?=some t)(b:G.M.OK)(hto:2≤t.kind∧t.kind≤4)(hc:G.M.can W.id (t.jI+0)=true)(hk:Fin w0 l aa gw R k (fin G W t)):iS (some ⟨gw,0,none⟩) w k:=by
 obtain⟨sp,st,sw,q,hq,h⟩:=dX h;obtain⟨a,vs,ha,hst,_⟩:=m5 hq hs;unfold iS BG;refine lF h hst vM λw h=> ?_;obtain⟨hp,so,sc,h⟩:=n7 h ha ht;refine dZ λw h=>axL h b hto hc λw h=> ?_;have h:=qg hp.len hp.a hp.t h;have h:=h.bk 9;refine dZ λw h=>hk _ (bn (q:={q with pJ:=mt gw .asks}) (by exact{hq with cT:=rfl}) h)
def ayy(h:qR w0 w l aa gw G W R)(hs:W.stack=x::s')(ht:G.ts[x]?=some t)(b:G.M.OK)(hc:G.M.can W.id (t.jI+2)=true)(hk:Fin w0 l aa gw R k (asks G W t)):ia (some ⟨gw,0,none⟩) w k:=by
 obtain⟨sp,st,sw,q,hq,h⟩:=dX h;obtain⟨a,vs,ha,hst,_⟩:=m5 hq hs;unfold ia AB;refine dZ λw h=> ?_;refine lF h hst vM λw h=> ?_;obtain⟨hp,so,sc,h⟩:=n7 h ha ht;with_reducible repeat' (first|refine bc ?_|refine QT h ?_|refine nP h ?_)
 refine aiK h b hc λw h=> ?_;have h:=qg hp.len hp.a hp.t h;have h:=h.bk 9;refine dZ λw h=>hk _ (bn (q:={q with pJ:=mt gw .gone}) (by exact{hq with cT:=rfl}) h)
def OG(h:qR w0 w l aa gw G W R)(hs:W.stack=x::s')(ht:G.ts[x]?=some t)(hk:Fin w0 l aa gw R k (ajr G W x t)):bB (some ⟨gw,0,none⟩) w k:=by
 unfold bB tN;exact abf h hs ht hk
def auN(h:qR w0 w l aa gw G W R)(hs:W.stack=x::s')(ht:G.ts[x]?=some t)(ho:t.cJ≠ [])(hk:Fin w0 l aa gw R k (close_ G W t)):fY (some ⟨gw,0,none⟩) w k:=by
 obtain⟨sp,st,sw,q,hq,h⟩:=dX h;unfold fY yJ;refine vO λgx w h=> ?_;obtain⟨a,b⟩:∃n,n=gx:=⟨_,rfl⟩;subst b;refine cX ?_;have h:=qA h;exact aht (kk:= .c .Co) (KL hq) h hs ht ho ⟨a,bf,rfl⟩ hk
def apK(hq:q.Ok aa gw W)(h:xq w0 w l aa gw G W R sp st sw q)(hb:(b,[pt gw])∈q.B)(hk:Fin w0 l aa gw R k (G,W.go .gL)):fJ ⟨b,0,none⟩ w k:=by
 unfold fJ;refine dZ λw h=>hk _ (bn (q:={q with pJ:=mt gw .gL}) (by exact{hq with cT:=rfl}) h)
def apL(hq:q.Ok aa gw W)(h:xq w0 w l aa gw G W R sp st sw q)(hb:(b,[pt gw])∈q.B)(hk:Fin w0 l aa gw R k (G,W.go .joined)):fH ⟨b,0,none⟩ w k:=by
 unfold fH;refine dZ λw h=>hk _ (bn (q:={q with pJ:=mt gw .joined}) (by exact{hq with cT:=rfl}) h)
def auO(hq:q.Ok aa gw W)(h:xq w0 w l aa gw G W R sp st sw q)(hb:(b,[pt gw])∈q.B)(hk:Fin w0 l aa gw R k (G,W.go .rp)):cV ⟨b,0,none⟩ w k:=by
 unfold cV;refine dZ λw h=>hk _ (bn (q:={q with pJ:=mt gw .rp}) (by exact{hq with cT:=rfl}) h)
def apM(hq:q.Ok aa gw W)(h:xq w0 w l aa gw G W R sp st sw q)(hb:(b,[pt gw])∈q.B)(hs:W.stack=x::s')(ht:G.ts[x]?=some t)(hk:Fin w0 l aa gw R k (xp G W x t xm)):fF xm ⟨b,0,none⟩ w k:=by
 unfold fF vr;unfold xp at hk;cases xm
 ·refine aU rfl<|dZ λw h=>hk _ (bn (q:={q with pJ:=mt gw .next}) (by exact{hq with cT:=rfl}) h)
 ·refine bK rfl<|cX<|OG (bn hq h) hs ht hk
def alO(hq:q.Ok aa gw W)(h:xq w0 w l aa gw G W R sp st sw q)(hb:(b,[pt gw])∈q.B)(hk:Fin w0 l aa gw R k (th G W xm)):eW xm ⟨b,0,none⟩ w k:=by
 unfold eW uF;unfold th at hk;cases xm
 ·refine aU rfl<|dZ λw h=>hk _ (bn (q:={q with pJ:=mt gw .asked}) (by exact{hq with cT:=rfl}) h)
 ·refine bK rfl<|cX ?_;unfold bI;refine dZ λw h=> ?_;have h:=A5 (K:=l6 (λo:jH=>au q.gp (o.cells l.sp q.gp))) (St.shut (A:=[]) h);exact hk _ (bn (q:={q with pJ:=mt gw .stops,MG:=mt gw .cancelled}) (by exact{hq with cT:=rfl,pG:=rfl}) h)
def alP(hq:q.Ok aa gw W)(h:xq w0 w l aa gw G W R sp st sw q)(hb:(b,[pt gw])∈q.B)(hk:Fin w0 l aa gw R k (um G W DC)):eU DC ⟨b,0,none⟩ w k:=by
 unfold eU uD;unfold um at hk;refine ax (λhs=> ?_) λhs=> ?_
 ·rw[if_pos (gq hs)]at hk
  refine dZ λw h=> ?_;unfold bi;refine dZ λw h=>hk _ (bn (q:={q with pJ:=mt gw .tE,LB:=mt gw .next}) (by exact{hq with cT:=rfl,home:=rfl}) h)
 ·rw[if_neg (gq hs)]at hk
  refine cX ?_;unfold cj;refine dZ λw h=>hk _ (bn (q:={q with pJ:=mt gw .tell,Zq:=mt gw .next}) (by exact{hq with cT:=rfl,said:=rfl}) h)
end
open Fr (A0 nE dY eI di iG jo nF o5 qH kz qt qa qb pZ)
structure In (P:List dB) (f i:List Int):Prop where
 len:f.length=19
 f0:0≤f.getD 0 0
 f1:0≤f.getD 1 0
 fn:∃g,P[(f.getD 0 0).toNat]?=some g∧g.code[(f.getD 1 0).toNat]?=some i
 GZ:i.length=5
def In.ins{P:List dB}{i:List Int}(h:In P f i):bz P f=i:=by
 obtain⟨g,h1,h2⟩:=h.fn;unfold bz;rw[h1];show g.code.getD _ []=i;rw[m0,h2];rfl
def JG{l:List Int}(h:l.length=5):∃a b c d e,l=[a,b,c,d,e]:=by
 match l,h with
 |[a,b,c,d,e],_=>exact⟨a,b,c,d,e,rfl⟩
variable{f':List Int}
section
variable{w0 w:World}{L R:List HP}{l:Lc}{P:List dB}{aa:List Nat}{G:Gl}{gw b x a:Nat}{W:Wk}{k:Unit→ap}{sw so sc:Sl}{f:HP→List HP}{t t':Tk}{s':List Nat}{vs:List Value}{i:List Int}
def ahu{ps:Sl}{k:Array Value×Int→ap}(h:St w0 w L)(hF:iA w0 ps P)(hI:In P t.f i)(hk:∀w',St w0 w' L→k (eZ i,0) w'):iQ (frV t.f).toArray #[.slice ps.a ps.n ps.c] w k:=by
 rw[Oz hI.len];obtain⟨g,h1,h2⟩:=hI.fn;exact ayu (hF.ext h.ext) hI.len hI.f0 h1 hI.f1 h2 λw' he=>hk w' (h.on he)
def ajs{k:Array Value×Bool→ap}(h:St w0 w L)(hf:t.f.length=19)(h5:i.length=5)(hk:∀w',St w0 w' L→k (eZ (dY t.f i).1,(dY t.f i).2) w'):jc (frV t.f).toArray (eZ i) w k:=by
 rw[Oz hf];exact Fr.atP hf h5 λw' he=>hk w' (h.on he)
def anR{n':Nat}{cs:List Value}{i:Int}{v:Value}{c:Value→Prop}(h:St w0 w L)[a:At L (au g) cs f](h0:0≤i)(hn:i<n)(hv:cs[i.toNat]?=some v)(hc:c v):cN ⟨some ⟨g,0,none⟩,n,n'⟩ i 1 λa=>tH w a c:=by
 refine⟨⟨h0,hn⟩,?_⟩;show tH w ((⟨g,0,none⟩:Addr).add (i.toNat*1)) c;rw[dg];exact I2 h (gq hv) hc
def AN{c:ap}(h:St w0 w L)[a1:At L (au a) (t.cells so sc) f](hf:f'.length=19)(hc:∀w',St w0 w' (f (au a (({t with f:=f'}:Tk).cells so sc)))→c w'):dQ 19 w (aY ⟨a,0,none⟩ 4) (eZ f') c:=by
 refine aW h (by simp[eZ,hf]) (by simp[Tk.cells]) (Ck.qJ _) λw h=>hc w ?_
 have e:(t.cells so sc).take (0+4)++((eZ f').toList++(t.cells so sc).drop (0+4+19))=({t with f:=f'}:Tk).cells so sc:=by
  have:(eZ f').toList=frV f':=by rw[anL hf]
  rw[this];rfl
 rw[e]at h;exact h
def afu{cs:List Value}{c:ap}(h:St w0 w L)[a1:At L (au g) cs f](hcs:cs.length=19)(hf:f'.length=19)(hc:∀w',St w0 w' (f (au g (ints f')))→c w'):dQ 19 w ⟨g,0,none⟩ (eZ f') c:=
 m7 h hcs (by simp[eZ,hf]) (Ck.qJ _) λw h=>hc w h
def anS{c:Array Value→Prop}(h:St w0 w L)[a1:At L (au g) (ints f') f](hf:f'.length=19)(hc:c (eZ f')):bx 19 w ⟨g,0,none⟩ c:=
 je h (by simp[ints,hf]) hc
def JH{k:Array Value→ap}(hF:iA w0 l.ps P)(hI:In P t.f i)(h:TO w0 w l aa gw G W R sp st sw q x a t so sc)(hst:q.qw=pt a::vs)(hk:∀w',TO w0 w' l aa gw G W R sp st sw q x a t so sc→k (eZ i) w'):aH (some ⟨gw,0,none⟩) w k:=by
 have h5:=hI.GZ;unfold aH yD;refine vO λgx w h=> ?_;obtain⟨g0,j⟩:∃n,n=gx:=⟨_,rfl⟩;subst j;refine bP (fun(x2:Addr×Int) w=> ∃g1,x2=(⟨g1,0,none⟩,0)∧St w0 w (au g1 (ints i)::au g0 (ints [0,0,0,0,0])::TL l aa gw G W R sp st sw q x a t so sc)) (λJ g=> ?_) ?_
 ·have m:∃a b c d e,i=[a,b,c,d,e]:=JG h5;obtain⟨i0,i1,i2,i3,i4,hi⟩:=m;with_reducible repeat' (first|refine bc ?_|refine cH h λw h=> ?_|refine Tn h ?_|refine QT h ?_|refine aM h λgx w h=> ?_|refine nP h ?_|refine y8 ?_ ?_)
  ·refine lF h hst vM λw h=> ?_;with_reducible repeat' (first|refine bc ?_|refine QT h ?_|refine aM h λgx w h=> ?_|refine nP h ?_|refine y8 ?_ ?_)
   ·refine ahu h hF hI λw h=> ?_;subst hi;with_reducible repeat' (first|refine QU h λw h=> ?_|refine aM h λgx w h=> ?_|refine nP h ?_)
    exact g _ _ ⟨_,rfl,h⟩
   ·refine ahu h hF hI λw h=> ?_;subst hi;with_reducible repeat' (first|refine QU h λw h=> ?_|fail)
    exact g _ _ ⟨_,rfl,h⟩
  ·refine lF h hst vM λw h=> ?_;with_reducible repeat' (first|refine bc ?_|refine QT h ?_|refine nP h ?_)
   refine ahu h hF hI λw h=> ?_;subst hi;refine dZ λw h=>g _ _ ⟨_,rfl,h⟩
 clear h;rintro _ w ⟨g1,rfl,h⟩;obtain⟨i0,i1,i2,i3,i4,rfl⟩:=JG h5;refine dZ λw h=>hk _ ((h.rm 0 rfl).rm 0 rfl)
def anT(hF:iA w0 l.ps P)(h:qR w0 w l aa gw G W R)(he:G.err=0)(hs:W.stack=x::s')(ht:G.ts[x]?=some t)(hf:t.f.length=19)(h5:i.length=5)(hop:(dY t.f i).2=false→8≤i.getD 0 0∧i.getD 0 0≤16)(hk:Fin w0 l aa gw R k (afr l G W x t i)):ej (some ⟨gw,0,none⟩) (eZ i) w k:=by
 obtain⟨sp,st,sw,q,hq,h⟩:=dX h;obtain⟨a,vs,ha,hst,_⟩:=m5 hq hs;obtain⟨hp,so,sc,h⟩:=n7 h ha ht;unfold ej Ae;unfold afr at hk;refine vO λgx w h=> ?_;obtain⟨g1,c⟩:∃n,n=gx:=⟨_,rfl⟩;subst c;refine G5 h he (λhb w h=> ?_) λhb w h=> ?_
 ·rw[if_pos hb]at hk;refine cX ?_;have h:=h.zm 0;exact hk _ (bn hq (oX ⟨hp.len,hp.a,hp.t⟩ h))
 rw[if_neg hb]at hk;refine cX ?_;refine lF h hst vM λw h=>bP (fun(x2:Addr×Bool) w=> ∃g2,x2=(⟨g2,0,none⟩,(dY t.f i).2)∧St w0 w (au g2 (ints (dY t.f i).1)::au g1 (ints i)::TL l aa gw G W R sp st sw q x a t so sc)) (λJ j=> ?_) ?_
 ·obtain⟨i0,i1,i2,i3,i4,hi⟩:=JG h5;have b:(dY t.f i).1.length=19:=qt hf;subst hi;with_reducible repeat' (first|refine bc ?_|refine cH h λw h=> ?_|refine QT h ?_|refine Vh h ?_|refine aM h λgx w h=> ?_|refine nP h ?_|refine sR h ?_|refine y8 ?_ ?_|fail)
  ·refine ajs (t:=t) (i:=[i0,i1,i2,i3,i4]) h hf rfl λw h=> ?_;with_reducible repeat' (first|refine aM h λgx w h=> ?_|refine nP h ?_|refine sR h ?_|fail)
   refine afu h rfl b λw h=> ?_;exact j _ _ ⟨_,rfl,h⟩
  ·refine ajs (t:=t) (i:=[i0,i1,i2,i3,i4]) h hf rfl λw h=>afu h rfl b λw h=> ?_;exact j _ _ ⟨_,rfl,h⟩
 clear h;rintro _ w ⟨g2,rfl,h⟩;have b:(dY t.f i).1.length=19:=qt hf;refine ax (λhb=> ?_) λhb=> ?_
 ·have hb:(dY t.f i).2=true:=hb;rw[if_pos hb]at hk;refine anS h b ?_;refine cX ?_;refine AN h b λw h=>dZ λw h=> ?_;have h:=(h.rm 0 rfl).rm 0 rfl;exact hk _ (bn (q:={q with pJ:=mt gw .next}) (by exact{hq with cT:=rfl}) (vH (G:=G.lZ) ⟨hp.len,hp.a,hp.t⟩ h))
 ·have hb:(dY t.f i).2=false:=hb;rw[if_neg (by rw[hb];simp)]at hk
  obtain⟨i0,i1,i2,i3,i4,hi⟩:=JG h5;have hop:=hop hb;subst hi;refine vO λgx w h=> ?_;obtain⟨g3,c⟩:∃n,n=gx:=⟨_,rfl⟩;subst c;have hop:8≤i0∧i0≤16:=hop;have key:∀(m:Mt) (w:World) (L':List HP),(G,W.go (adl i0))=(G,W.go m)→TO w0 w l aa gw G (W.go m) R sp st sw {q with pJ:=mt gw m} x a t so sc→k () w:=λm w L' e h=>by
   have e2:([i0,i1,i2,i3,i4]:List Int).getD 0 0=i0:=rfl;rw[e2,e]at hk;exact hk _ (bn (by exact{hq with cT:=rfl}) (oX ⟨hp.len,hp.a,hp.t⟩ h))
  have hw:aF .i64 (i0 - 8)=i0 - 8:=kg ⟨af,af⟩;rw[hw];have d:i0=8∨i0=9∨i0=10∨i0=11∨i0=12∨i0=13∨i0=14∨i0=15∨i0=16:=af;rcases d with rfl|rfl|rfl|rfl|rfl|rfl|rfl|rfl|rfl;all_goals
   refine anR (g:=g3) h e7 e7 rfl ?_;refine dZ λw h=> ?_;have h:=((h.rm 0 rfl).rm 0 rfl).rm 0 rfl
  ·exact key .fork _ [] rfl h
  ·exact key .join _ [] rfl h
  ·exact key .join _ [] rfl h
  ·exact key .cJ _ [] rfl h
  ·exact key .close _ [] rfl h
  ·exact key .cancel _ [] rfl h
  ·exact key .pass _ [] rfl h
  ·exact key .leave _ [] rfl h
  ·exact key .leave _ [] rfl h
end
section
variable{w0 w:World}{L R:List HP}{l:Lc}{P:List dB}{aa:List Nat}{G:Gl}{gw b c x a:Nat}{W:Wk}{k:Unit→ap}{sw so sc:Sl}{f:HP→List HP}{t t':Tk}{s':List Nat}{vs:List Value}{i:List Int}{nd:Nd}
def ado{s:Int}{kv:Value}(hq:q.Ok aa gw W)(h:xq w0 w l aa gw G W R sp st sw q)(hv:Rp aa gw q.B kk kv)(hs:nZ G.C s=some nd)(hk:Fin w0 l aa gw R k (G,W.looks s kk)):cv (some ⟨gw,0,none⟩) s kv w k:=by
 unfold cv yx;have a:=hv.one;refine cX<|axH h hs λgl w h=> ?_;have h:=A5 (K:=l6 (λk:Lk=>au q.gl (k.cells l.gc))) h;refine dZ λw h=>hk _ (bn (q:={q with pJ:=mt gw .looking,alx:=kv,gl:=gl}) (by exact{hq with cT:=rfl,seen:=hv}) h)
def ayz(hF:iA w0 l.ps P)(hI:In P t.f i)(h:qR w0 w l aa gw G W R)(he:G.err=0)(hs:W.stack=x::s')(ht:G.ts[x]?=some t)(hsc:nZ G.C t.l7=some nd)(hi:0≤i.getD 0 0∧i.getD 0 0<17)(hop:(dY t.f i).2=false→8≤i.getD 0 0∧i.getD 0 0≤16)(hk:Fin w0 l aa gw R k (V7 l P G W x t)):gV (some ⟨gw,0,none⟩) w k:=by
 obtain⟨sp,st,sw,q,hq,h⟩:=dX h;obtain⟨a,vs,ha,hst,_⟩:=m5 hq hs;obtain⟨hp,so,sc,h⟩:=n7 h ha ht;unfold gV Aj;unfold V7 at hk;rw[hI.ins]at hk;have h5:=hI.GZ;obtain⟨i0,i1,i2,i3,i4,rfl⟩:=JG h5;have hi:0≤i0∧i0<17:=hi;refine vO λgx w h=> ?_;obtain⟨c,b⟩:∃n,n=gx:=⟨_,rfl⟩;subst b;refine cX ?_;have h:=h.bk 22;refine JH hF hI h hst λw h=> ?_;have h:=h.fr 22;refine vO λgx w h=> ?_;obtain⟨gc,b⟩:∃n,n=gx:=⟨_,rfl⟩;subst b;refine auH hi.1 hi.2 ?_;have e0:([i0,i1,i2,i3,i4]:List Int).getD 0 0=i0:=rfl;rw[e0]at hk;refine ax (λhb=> ?_) λhb=> ?_
 ·have hb:anP i0=false:=by simpa using hb
  rw[if_neg (by rw[hb];simp)]at hk
  refine cX ?_;have h:TO w0 w l aa gw G W R sp st sw q x a t so sc:=(h.rm 0 rfl).rm 0 rfl;have h:=bn hq (oX hp h);exact anT (i:=[i0,i1,i2,i3,i4]) hF h he hs ht hI.len h5 hop hk
 ·have hb:anP i0=true:=by simpa using hb
  rw[if_pos hb]at hk;refine dZ λw h=> ?_;refine lF h hst vM λw h=> ?_;with_reducible repeat' (first|refine bc ?_|refine Iy h ?_|refine sR h ?_)
  have h:=h.swap;have h:=qA h;have h:=qA h;have h:TO w0 w l aa gw G W R sp st sw {q with B:=q.B++[(c,[pt gw])] ++[(gc,ints [i0,i1,i2,i3,i4])]} x a t so sc:=h;exact ado (kk:= .nx [i0,i1,i2,i3,i4]) (hq.box λp hp=>List.mem_append_left _ (List.mem_append_left _ hp)) (oX hp h) ⟨c,gc,bf,bf,rfl,rfl⟩ hsc hk
def auP(hF:iA w0 l.ps P)(hq:q.Ok aa gw W)(h:xq w0 w l aa gw G W R sp st sw q)(hb:(b,[pt gw])∈q.B)(hc:(c,ints i)∈q.B)(h5:i.length=5)(he:G.err=0)(hs:W.stack=x::s')(ht:G.ts[x]?=some t)(hf:t.f.length=19)(hop:(dY t.f i).2=false→8≤i.getD 0 0∧i.getD 0 0≤16)
  (hk:Fin w0 l aa gw R k (adm l G W x t i xm)):gH xm ⟨b,0,none⟩ ⟨c,0,none⟩ w k:=by
 unfold gH wH;unfold adm at hk;cases xm
 ·refine aU rfl<|cX<|fzW (n:=5) h hc (by simp[ints,h5]) ?_
  exact anT hF (bn hq h) he hs ht hf h5 hop hk
 ·refine bK rfl<|cX<|OG (bn hq h) hs ht hk
def Td{k:Array Value→ap}(h:St w0 w L)(hf:t.f.length=19)(hk:∀w',St w0 w' L→k (eZ (nE t.f)) w'):av (frV t.f).toArray w k:=by
 rw[Oz hf];exact Fr.acQ hf λw' he=>hk w' (h.on he)
def ayA(h:qR w0 w l aa gw G W R)(he:G.err=0)(hs:W.stack=x::s')(ht:G.ts[x]?=some t)(hf:t.f.length=19)(hk:Fin w0 l aa gw R k (pass l G W x t)):g9 (some ⟨gw,0,none⟩) w k:=by
 obtain⟨sp,st,sw,q,hq,h⟩:=dX h;obtain⟨a,vs,ha,hst,_⟩:=m5 hq hs;obtain⟨hp,so,sc,h⟩:=n7 h ha ht;unfold g9 Ax;unfold pass at hk;refine G5 h he (λhb w h=> ?_) λhb w h=> ?_
 ·rw[if_pos hb]at hk;refine cX<|hk _ (bn hq (oX ⟨hp.len,hp.a,hp.t⟩ h))
 rw[if_neg hb]at hk;refine cX ?_;refine lF h hst vM λw h=>cX ?_;refine lF h hst vM λw h=>cX<|Td h hf λw h=>cX ?_;refine AN h (by rw[kz,hf]) λw h=> ?_
 unfold aG;refine dZ λw h=>hk _ (bn (q:={q with pJ:=mt gw .next}) (by exact{hq with cT:=rfl}) (vH (G:=G.lZ) ⟨hp.len,hp.a,hp.t⟩ h))
end
def auQ{j:Nat}(h1:j≠1)(h2:j≠18):(nE f).getD j 0=f.getD j 0:=by
 unfold nE A0;rw[m0,r0 af,r0 af,m0]
section
variable{w0 w:World}{L R:List HP}{l:Lc}{P:List dB}{aa:List Nat}{G:Gl}{gw b c x a:Nat}{W:Wk}{k:Unit→ap}{sw so sc:Sl}{f:HP→List HP}{t t':Tk}{s':List Nat}{vs:List Value}{i:List Int}{nd:Nd}
def auR:(G.set x t).set x t'=G.set x t':=by unfold Gl.set;dsimp only;rw[List.set_set]
def ahv(ht:G.ts[x]?=some t):(G.set x t').ts[x]?=some t':=uO (kB.1 ht).1
def ldR{r:Int}{c:Int→Prop}(h:St w0 w L)[a1:At L (au a) (t.cells so sc) f](h0:0≤r)(h1:r<8)(hc:c (t.f.getD (2+r.toNat) 0)):Hf (aY (aY ⟨a,0,none⟩ 4) 2) 8 r 1 λp=>aJ .i64 w p c:=by
 refine uu h0 h1 ?_;rw[dg];show aJ .i64 w ⟨a,0+4+2+r.toNat*1,none⟩ c;refine cr h ?_ hc;have:r=0∨r=1∨r=2∨r=3∨r=4∨r=5∨r=6∨r=7:=af;rcases this with rfl|rfl|rfl|rfl|rfl|rfl|rfl|rfl<;>rfl
def aAi{r:Int}{c:Int→Prop}(h:St w0 w L)[a1:At L (au a) (t.cells so sc) f](h0:0≤r)(h1:r<8)(hc:c (t.f.getD (10+r.toNat) 0)):Hf (aY (aY ⟨a,0,none⟩ 4) 10) 8 r 1 λp=>aJ .i64 w p c:=by
 refine uu h0 h1 ?_;rw[dg];show aJ .i64 w ⟨a,0+4+10+r.toNat*1,none⟩ c;refine cr h ?_ hc;have:r=0∨r=1∨r=2∨r=3∨r=4∨r=5∨r=6∨r=7:=af;rcases this with rfl|rfl|rfl|rfl|rfl|rfl|rfl|rfl<;>rfl
def auS(hF:iA w0 l.ps P)(hI:In P t.f i)(h:qR w0 w l aa gw G W R)(he:G.err=0)(hs:W.stack=x::s')(ht:G.ts[x]?=some t)(hA:0≤i.getD 1 0∧i.getD 1 0<8)(hk:Fin w0 l aa gw R k (leave l P G W x t)):fZ (some ⟨gw,0,none⟩) w k:=by
 obtain⟨sp,st,sw,q,hq,h⟩:=dX h;obtain⟨a,vs,ha,hst,_⟩:=m5 hq hs;obtain⟨hp,so,sc,h⟩:=n7 h ha ht;unfold fZ yM;unfold leave at hk;rw[hI.ins]at hk;have hf:=hI.len;obtain⟨i0,i1,i2,i3,i4,rfl⟩:=JG hI.GZ;have hA:0≤i1∧i1<8:=hA;have b:(nE t.f).getD (2+i1.toNat) 0=t.f.getD (2+i1.toNat) 0:=auQ af af;refine G5 h he (λhb w h=> ?_) λhb w h=> ?_
 ·rw[if_pos hb]at hk;refine cX<|hk _ (bn hq (oX ⟨hp.len,hp.a,hp.t⟩ h))
 rw[if_neg hb]at hk;refine cX ?_;refine lF h hst vM λw h=>JH hF hI h hst λw h=>vO λgx w h=> ?_;obtain⟨gc,c⟩:∃n,n=gx:=⟨_,rfl⟩;subst c;refine Td h hf λw h=>cX<|AN h (by rw[kz,hf]) λw h=> ?_
 unfold aG;refine dZ λw h=>ax (λhb=> ?_) λhb=> ?_
 ·have hb:i0=15:=by simpa using hb
  refine dZ λw h=>ldR h hA.1 hA.2 ?_;have h:=h.rm 0 rfl;have h:qR w0 w l aa gw (G.lZ.set x {t with f:=nE t.f}) (W.go .next) R:=bn (q:={q with pJ:=mt gw .next}) (by exact{hq with cT:=rfl}) (vH ⟨hp.len,hp.a,hp.t⟩ h)
  refine abf h hs (ahv ht) ?_;unfold ends;rw[auR];rw[if_pos (show([i0,i1,i2,i3,i4]:List Int).getD 0 0=15 from hb)]at hk;show Fin w0 l aa gw R k (G.lZ.set x {t with f:=nE t.f,kind:=3,v:=(nE t.f).getD (2+i1.toNat) 0},_);rw[b];exact hk
 ·have hb:¬i0=15:=by simpa using hb
  refine dZ λw h=>ldR h hA.1 hA.2 ?_;have h:=h.rm 0 rfl;have h:qR w0 w l aa gw (G.lZ.set x {t with f:=nE t.f}) (W.go .next) R:=bn (q:={q with pJ:=mt gw .next}) (by exact{hq with cT:=rfl}) (vH ⟨hp.len,hp.a,hp.t⟩ h)
  refine abf h hs (ahv ht) ?_;unfold ends;rw[auR];rw[if_neg (show¬([i0,i1,i2,i3,i4]:List Int).getD 0 0=15 from hb)]at hk;show Fin w0 l aa gw R k (G.lZ.set x {t with f:=nE t.f,kind:=2,v:=(nE t.f).getD (2+i1.toNat) 0},_);rw[b];exact hk
def apN(h:qR w0 w l aa gw G W R)(he:G.err=0)(hs:W.stack=x::s')(ht:G.ts[x]?=some t)(hf:t.f.length=19)(ho:t.cJ≠ [])(hsc:nZ G.C t.kA.1=some nd)(hc:G.M.can W.id nd.at_=true)(hk:Fin w0 l aa gw R k (cancel l G W x t nd)):fx (some ⟨gw,0,none⟩) w k:=by
 obtain⟨sp,st,sw,q,hq,h⟩:=dX h;obtain⟨a,vs,ha,hst,_⟩:=m5 hq hs;obtain⟨hp,so,sc,h⟩:=n7 h ha ht;obtain⟨o,m,b⟩:∃o m,t.cJ=o++[m]:=⟨_,_,(List.dropLast_concat_getLast ho).symm⟩;unfold fx wW;unfold cancel at hk;rw[Cr b]at hsc;refine G5 h he (λhb w h=> ?_) λhb w h=> ?_
 ·rw[if_pos hb]at hk;refine cX<|hk _ (bn hq (oX ⟨hp.len,hp.a,hp.t⟩ h))
 rw[if_neg hb]at hk;refine cX ?_;refine lF h hst vM λw h=>dZ λw h=>Ca h b λw h=> ?_;with_reducible repeat' (first|refine nP h ?_|fail)
 refine ptI (by rfl) ?_
 refine as9 h hsc hc λw h=>cX<|Td h hf λw h=>cX ?_;refine AN h (by rw[kz,hf]) λw h=> ?_
 unfold aG cj;refine dZ λw h=>hk _ (bn (q:={q with pJ:=mt gw .tell,Zq:=mt gw .next}) (by exact{hq with cT:=rfl,said:=rfl}) (vH (G:=(G.mem (G.M.cs W.id nd.at_ 0 1).1).lZ) ⟨hp.len,hp.a,hp.t⟩ h))
end
section
variable{w0 w:World}{L R:List HP}{l:Lc}{P:List dB}{aa:List Nat}{G:Gl}{gw b c x a:Nat}{W:Wk}{k:Unit→ap}{sw so sc:Sl}{f:HP→List HP}{t t':Tk}{s':List Nat}{vs:List Value}{i:List Int}{nd:Nd}{p:Pl}
structure Dr (G:Gl) (s:Int):Prop where
 Zs:G.time.2.length≤100000
 ck:CK G.time
 s0:0≤s
 pl:∃p,G.P[s.toNat]?=some p
def anU{m:Int×Int}(h:TO w0 w l aa gw G W R sp st sw q x a t so sc)(hst:q.qw=pt a::vs)(b:t.cJ=o++[m])(hd:Dr G m.1)
  (hk:∀c w',TO w0 w' l aa gw {G with time:=(G.time.1,Ko.EK G.time.2 m.1),P:=Cq G.P m.1} W R sp st sw q x a {t with cJ:=o} c sc→k () w'):eo (some ⟨gw,0,none⟩) w k:=by
 obtain⟨p,hp⟩:=hd.pl;unfold eo Aw;refine lF h hst vM λw h=>Ca h b λw h=>ptI (by rfl) ?_
 refine cX ?_;refine Ko.ayh hd.Zs hd.ck h λw h=>cX ?_;refine rSt h hd.s0 (by rw[l8,hp];rfl) af rfl λw h=> ?_
 have hn:=(pg (sz:=2) (s:=so) h).2 af;obtain⟨f,_,h3,_⟩:=LN (s:=so) (sz:=2) inferInstance h;have hm:=(h3.own (sz:=2) (s:=so)).max;have hcap:=(h3.own (sz:=2) (s:=so)).cap;rw[List.length_map]at hn;have e:t.cJ.length=o.length+1:=by rw[b];simp
 refine dZ λw h=> ?_;have e0:aF .i64 (((so.n:Nat):Int) - 1)=(o.length:Nat):=by rw[kg ⟨af,af⟩];omega
 show Th so 2 0 (aF .i64 (((so.n:Nat):Int) - 1)) _;rw[e0];refine aDr h af af (by rw[List.length_map];omega) λd hdn h=> ?_
 have e1:(t.cJ.map A1).take ((o.length:Nat):Int).toNat=o.map A1:=by rw[iZ,b,List.map_append,List.take_append_of_le_length bf,List.take_of_length_le bf]
 have e2:(G.P.map tI).set m.1.toNat ((tI p).set 3 (.bool true))=(Cq G.P m.1).map tI:=by unfold Cq;rw[hp];simp only[List.map_set];rfl
 rw[e1,e2]at h;refine dZ λw h=>hk d w h
def alQ{o:List (Int×Int)}{m:Int×Int}(hq:q.Ok aa gw W)(h:xq w0 w l aa gw G W R sp st sw q)(hb:(b,[pt gw])∈q.B)(hs:W.stack=x::s')(ht:G.ts[x]?=some t)(ho:t.cJ≠ [])(hd:Dr G t.kA.1)(hk:Fin w0 l aa gw R k (qI G W x t)):eX ⟨b,0,none⟩ w k:=by
 obtain⟨o,m,c⟩:∃o m,t.cJ=o++[m]:=⟨_,_,(List.dropLast_concat_getLast ho).symm⟩;obtain⟨a,vs,ha,hst,_⟩:=m5 hq hs;obtain⟨hp,so,sc,h⟩:=n7 h ha ht;unfold eX uL;unfold qI at hk;rw[Cr c]at hd;refine cX ?_;refine anU h hst c hd λe w h=>cX ?_;have d:t.cJ.dropLast=o:=by rw[c];simp
 rw[d]at hk;have eg:G.Zv x t=({G with time:=(G.time.1,Ko.EK G.time.2 m.1),P:=Cq G.P m.1}:Gl).set x {t with cJ:=o}:=by unfold Gl.Zv;rw[Cr c,d];rfl
 rw[eg]at hk;exact aft (bn hq (vH (G:={G with time:=(G.time.1,Ko.EK G.time.2 m.1),P:=Cq G.P m.1}) ⟨hp.len,hp.a,hp.t⟩ h)) hs (ahv ht) hk
def apO{k:Array Value→ap}(h:St w0 w L)(hf:t.f.length=19)(h5:i.length=5)(hk:∀w',St w0 w' L→k (eZ (iG t.f i xm)) w'):jg (frV t.f).toArray (eZ i) xm w k:=by
 rw[Oz hf];exact Fr.apm hf h5 λw' he=>hk w' (h.on he)
def apP(hF:iA w0 l.ps P)(hI:In P t.f i)(h:qR w0 w l aa gw G W R)(he:G.err=0)(hs:W.stack=x::s')(ht:G.ts[x]?=some t)(ho:t.cJ≠ [])(hd:Dr G t.kA.1)(hsc:nZ G.C t.kA.1=some nd)(hc:G.M.can W.id nd.at_=true)(hsz:t.gL.size≤1000000)(hk:Fin w0 l aa gw R k (gL l P G W x t nd)):fq (some ⟨gw,0,none⟩) w k:=by
 obtain⟨o,m,c⟩:∃o m,t.cJ=o++[m]:=⟨_,_,(List.dropLast_concat_getLast ho).symm⟩;obtain⟨sp,st,sw,q,hq,h⟩:=dX h;obtain⟨a,vs,ha,hst,_⟩:=m5 hq hs;obtain⟨hp,so,sc,h⟩:=n7 h ha ht;unfold fq wU;unfold gL at hk;rw[Cr c]at hsc hd;rw[hI.ins]at hk;have hf:=hI.len;have h5:=hI.GZ;obtain⟨i0,i1,i2,i3,i4,hi⟩:=JG h5;refine G5 h he (λhb w h=> ?_) λhb w h=> ?_
 ·simp only[if_pos hb]at hk;refine cX<|hk _ (bn hq (oX ⟨hp.len,hp.a,hp.t⟩ h))
 simp only[if_neg hb]at hk;refine cX ?_;refine lF h hst vM λw h=>JH hF hI h hst λw h=> ?_;subst hi;refine vO λgx w h=> ?_;obtain⟨gc,e⟩:∃n,n=gx:=⟨_,rfl⟩;subst e;refine Ca h c λw h=> ?_;with_reducible repeat' (first|refine nP h ?_|fail)
 refine ptI (by rfl) ?_
 refine aiH h hsc hc λw h=>cX ?_;generalize (G.M.get nd.at_ !=0)=b at hk ⊢;refine bP (fun(s:ByteArray) w'=>s=(if b then ByteArray.mk #[49]else ByteArray.mk #[48])∧w'=w) (λJ d=> ?_) ?_
 ·cases b
  ·exact aU rfl (d _ _ ⟨rfl,rfl⟩)
  ·exact bK rfl (d _ _ ⟨rfl,rfl⟩)
 rintro s _ ⟨hs1,rfl⟩;refine cX ?_;refine⟨?_,?_⟩
 ·have:s.size=1:=by rw[hs1];cases b<;>rfl
  rw[this];omega
 refine dZ λw h=>apO (i:=[i0,i1,i2,i3,i4]) h hf h5 λw h=>cX ?_;refine AN (t:={t with gL:=t.gL++s}) h (by rw[pZ,hf]) λw h=> ?_
 have h:=h.zm 0;have h:TO w0 w l aa gw (G.tick W.id) W R sp st sw q x a {t with gL:=t.gL++s,f:=iG t.f [i0,i1,i2,i3,i4] b} so sc:=h;refine anU h hst c ⟨hd.Zs,hd.ck,hd.s0,hd.pl⟩ λg w h=> ?_;unfold aG;refine dZ λw h=> ?_;have j:t.cJ.dropLast=o:=by rw[c];simp
 have eg:(((G.tick W.id).Zv x {t with gL:=t.gL++s,f:=iG t.f [i0,i1,i2,i3,i4] b}).lZ)=({G.tick W.id with time:=(G.time.1,Ko.EK G.time.2 m.1),P:=Cq G.P m.1}:Gl).lZ.set x {t with gL:=t.gL++s,f:=iG t.f [i0,i1,i2,i3,i4] b,cJ:=o}:=by
  unfold Gl.Zv Tk.kA;dsimp only;rw[show t.cJ.getLastD (0,0)=m from Cr c,j];rfl
 rw[←hs1,eg]at hk;exact hk _ (bn (q:={q with pJ:=mt gw .next}) (by exact{hq with cT:=rfl}) (vH ⟨hp.len,hp.a,hp.t⟩ h))
end
section
variable{w0 w:World}{L R:List HP}{l:Lc}{P:List dB}{aa:List Nat}{G:Gl}{gw b c x a:Nat}{W:Wk}{k:Unit→ap}{sw so sc:Sl}{f:HP→List HP}{t t':Tk}{s':List Nat}{vs:List Value}{i:List Int}{nd:Nd}{p:Pl}
def Yc{sz:Nat}{e:List Value}(h:St w0 w (au g e::L))(hl:e.length=sz)(h1:∀v∈e,v.oneCell'=true):St w0 w (rws sz ⟨some ⟨g,0,none⟩,1,1⟩ [e]::L):=by
 have h2:=St.asS (g:=g) (n:=1) (sz:=sz) h af af h1;refine St.YA (by intro e' he;simp at he;rw[he];exact hl) ?_
 simpa using h2
def anV:ET Tryz.prog 97 1 8 (.pointer none):=⟨aZ,aZ⟩
def auU:ET Tryz.prog 146 1 8 .nilFunc:=⟨aZ,aZ⟩
def auV(h:qR w0 w l aa gw G W R)(he:G.err=0)(hx:W.jq=(x:Nat))(ht:G.ts[x]?=some t)(hA:xH W.dq)(hc:G.M.can W.id (W.dq+1)=true)(hsc:nZ G.C t.l7=some nd)(j:W.stack.length≤100000)(m:W.back.length≤100000)(hk:Fin w0 l aa gw R k (OF l G W x t)):fV (some ⟨gw,0,none⟩) w k:=by
 obtain⟨sp,st,sw,q,hq,h⟩:=dX h;have hl:=xJ h;obtain⟨a,ha⟩:=Zx hl ht;have hn:=qY (s:=q.ss) h;have b:=hq.qw.len;have o:=hq.y6.len;rw[List.length_reverse]at hn;unfold fV yz;unfold OF at hk;have hv:=hq.home.one;refine vO λgx w h=> ?_;obtain⟨d,e⟩:∃n,n=gx:=⟨_,rfl⟩;subst e;refine cX ?_;refine ax (λhb=> ?_) λhb=> ?_
 ·have hb:(W.stack.length:Int)≥l.deep:=by rw[b,←hn];exact of_decide_eq_true hb
  rw[if_pos hb]at hk;refine cX ?_;refine KP h e7 he λw h=> ?_;exact hk _ (bn hq (h.rm 0 rfl))
 have hb:¬(W.stack.length:Int)≥l.deep:=by rw[b,←hn];exact of_decide_eq_false hb
 rw[if_neg hb]at hk;refine dZ λw h=> ?_;refine VT (M:=G.M) h hA hc λw h=> ?_;refine dZ λw h=> ?_;show cN st W.jq 1 _;rw[hx];refine vP (s:=st) h af (adn ha) ?_;have h:=h.fr 10;obtain⟨so,sc,h⟩:=sv h ha ht;refine cX ?_;refine Jw rfl rfl ?_;refine vO λgx w h=> ?_;obtain⟨gn,e⟩:∃n,n=gx:=⟨_,rfl⟩;subst e;have h:=Yc (sz:=2) h rfl (by simp[Value.oneCell'])
 have h:=A5 (K:=rws 2 so) h;have h:=h.fr 4;have h:=h.bk 22;refine bP (fun(_:Unit) w=> ∃s1 s2,TO w0 w l aa gw (G.tick W.id) {W with stack:=x::W.stack,back:=W.home::W.back} (au d [pt gw]::R) sp st sw {q with ss:=s1,sb:=s2,qw:=pt a::q.qw,y6:=q.LB::q.y6} x a {t with cJ:=[(t.own,G.M.get (W.dq+1))]} ⟨some ⟨gn,0,none⟩,1,1⟩ sc) (λJ f=> ?_) ?_
 ·have hls:q.qw.reverse.length≤1000000:=by rw[List.length_reverse];omega
  have hlb:q.y6.reverse.length≤1000000:=by rw[List.length_reverse];omega
  with_reducible repeat' (first|refine bc ?_|refine cH h λw h=> ?_|refine u_S h ?_|refine u_V h ?_|refine WX h ?_|refine aM h λgx w h=> ?_|refine nP h ?_|refine sR h ?_|refine y8 ?_ ?_|refine u_1 ?_|fail)
  ·refine I9 (s:=q.ss) h anV aZ rfl hls af λs1 w h i=> ?_;with_reducible repeat' (first|refine aM h λgx w h=> ?_|refine nP h ?_|refine sR h ?_|refine u_1 ?_|fail)
   refine I9 (s:=q.sb) h auU aZ hv hlb af λs2 w h b=> ?_;with_reducible repeat' (first|refine bc ?_|refine Hq h λw h=> ?_|refine sR h ?_|fail)
   have h:=(h.rm 0 rfl).rm 0 rfl;rw[←List.reverse_cons,←List.reverse_cons]at h;exact f _ _ ⟨s1,s2,h⟩
  ·refine I9 (s:=q.ss) h anV aZ rfl hls af λs1 w h i=> ?_;with_reducible repeat' (first|refine nP h ?_|refine sR h ?_|fail)
   refine I9 (s:=q.sb) h auU aZ hv hlb af λs2 w h b=> ?_;with_reducible repeat' (first|refine bc ?_|refine Hq h λw h=> ?_|refine sR h ?_|fail)
   have h:=(h.rm 0 rfl).rm 0 rfl;rw[←List.reverse_cons,←List.reverse_cons]at h;exact f _ _ ⟨s1,s2,h⟩
  ·refine I9 (s:=q.ss) h anV aZ rfl hls af λs1 w h i=> ?_;with_reducible repeat' (first|refine nP h ?_|refine sR h ?_|fail)
   refine I9 (s:=q.sb) h auU aZ hv hlb af λs2 w h b=> ?_;with_reducible repeat' (first|refine bc ?_|refine Hq h λw h=> ?_|refine sR h ?_|fail)
   have h:=(h.rm 0 rfl).rm 0 rfl;rw[←List.reverse_cons,←List.reverse_cons]at h;exact f _ _ ⟨s1,s2,h⟩
 clear h;rintro _ w ⟨s1,s2,h⟩;have h:=h.fr 22;refine dZ λw h=> ?_;have h:=qA h;have hp:Tp aa (G.tick W.id) x a t:=⟨hl,ha,ht⟩;have h:=vH (q:={q with ss:=s1,sb:=s2,qw:=pt a::q.qw,y6:=q.LB::q.y6,B:=q.B++[(d,[pt gw])]}) hp h;exact ado (kk:= .c .xp)
  (by exact{KL (g:=d) (cs:=[pt gw]) hq with qw:= .cons ⟨a,ha,rfl⟩ hq.qw,y6:= .cons (hq.home.box λp h=>List.mem_append_left _ h) (KL (g:=d) (cs:=[pt gw]) hq).y6}) h ⟨d,bf,rfl⟩ hsc hk
end
section
variable{w0 w:World}{L R:List HP}{l:Lc}{P:List dB}{aa:List Nat}{G:Gl}{gw b c x a:Nat}{W:Wk}{k:Unit→ap}{sw so sc:Sl}{f:HP→List HP}{t t':Tk}{s':List Nat}{vs:List Value}{i:List Int}{nd:Nd}{p:Pl}
def auW{kb:Kn}{bs:List Kn}(hq:q.Ok aa gw W)(hs:W.back=kb::bs):∃u us,Rp aa gw q.B kb u∧q.y6=u::us∧KK (Rp aa gw q.B) bs us:=by
 have h:=hq.y6;rw[hs]at h;generalize q.y6=s at h ⊢;cases h with
 |cons h1 h2=>exact⟨_,_,h1,rfl,h2⟩
def ayB{kb:Kn}{bs:List Kn}(h:qR w0 w l aa gw G W R)(hs:W.stack=x::s')(hbk:W.back=kb::bs)(d:bs.length=s'.length)(ht:G.ts[x]?=some t)(e:G.M.OK)(hsc:nZ G.C t.l7=some nd)(hc:G.M.can W.id (nd.at_+1)=true)(hk:Fin w0 l aa gw R k (gone G W nd)):ie (some ⟨gw,0,none⟩) w k:=by
 obtain⟨sp,st,sw,q,hq,h⟩:=dX h;obtain⟨a,vs,ha,hst,hvs⟩:=m5 hq hs;obtain⟨u,us,hu,b,c⟩:=auW hq hbk;have f:=hu.one;have g:=hvs.len;have i:=c.len;unfold ie AE;unfold gone at hk;rw[hs,hbk]at hk;have hn:=qY (s:=q.ss) h;have hm:=(h.own (sz:=1) (s:=q.ss)).max;have hcap:=(h.own (sz:=1) (s:=q.ss)).cap;rw[hst,List.length_reverse,List.length_cons]at hn;refine dZ λw h=> ?_;refine lF h hst vM λw h=> ?_;obtain⟨hp,so,sc,h⟩:=n7 h ha ht;with_reducible repeat' (first|refine bc ?_|refine Iy h ?_|refine nP h ?_)
 refine as8 h hsc hc e λw h=> ?_;have h:=qg hp.len hp.a hp.t h;have h:=h.bk 9;refine cX ?_;have e0:aF .i64 (((q.ss.n:Nat):Int) - 1)=(vs.length:Nat):=by rw[kg ⟨af,af⟩];omega
 show cN q.sb (aF .i64 (((q.ss.n:Nat):Int) - 1)) 1 _;rw[e0];refine vV h af (x:=u) ?_ ?_
 ·rw[b,iZ,List.reverse_cons,u0 (by simp;omega)]
  have:vs.length - us.reverse.length=0:=by rw[List.length_reverse];omega
  rw[this];rfl
 refine dZ λw h=> ?_;show Th q.ss 1 0 ((vs.length:Nat):Int) _;refine am1 h af (by rw[hst];simp;omega) λs1 hs1 h=> ?_
 refine cX ?_;show Th q.sb 1 0 ((vs.length:Nat):Int) _;refine am1 h af (by rw[b];simp;omega) λs2 j h=> ?_
 have e1:q.qw.reverse.take ((vs.length:Nat):Int).toNat=vs.reverse:=by rw[iZ,hst,List.reverse_cons,List.take_append_of_le_length bf,List.take_of_length_le bf]
 have e2:q.y6.reverse.take ((vs.length:Nat):Int).toNat=us.reverse:=by rw[iZ,b,List.reverse_cons,List.take_append_of_le_length (by simp;omega),List.take_of_length_le (by simp;omega)]
 rw[e1,e2]at h;refine dZ λw h=> ?_;dsimp only[List.headD,List.tail]at hk;refine ax (λhb=> ?_) λhb=> ?_
 ·have hb:(W.bits !=0||G.M.get (nd.at_+1)==1)=true:=hb;rw[if_pos hb]at hk;unfold cj;refine dZ λw h=>hk _ (bn (q:={q with pJ:=mt gw .tell,Zq:=u,ss:=s1,sb:=s2,qw:=vs,y6:=us}) (by exact{hq with cT:=rfl,said:=hu,qw:=hvs,y6:=c}) h)
 ·have hb:(W.bits !=0||G.M.get (nd.at_+1)==1)=false:=hb;rw[if_neg (by rw[hb];simp)]at hk
  exact hk _ (bn (q:={q with pJ:=u,ss:=s1,sb:=s2,qw:=vs,y6:=us}) (by exact{hq with cT:=hu,qw:=hvs,y6:=c}) h)
def auX:ET Tryz.prog 96 4 32 (.agg #[.int .i64 0,.int .i64 0,.int .i64 0,.bool false]):=⟨aZ,aZ⟩
def ayC(h:qR w0 w l aa gw G W R)(he:G.err=0)(hs:W.stack=x::s')(ht:G.ts[x]?=some t)(ho:t.cJ≠ [])(c:G.M.OK)(d:G.M.caller W.id=true)(hC:G.C.length≤1000000)(hP:G.P.length≤1000000)(hsc:nZ G.C t.kA.1=some nd)(hk:Fin w0 l aa gw R k (fork G W t nd)):gX (some ⟨gw,0,none⟩) w k:=by
 obtain⟨o,m,b⟩:∃o m,t.cJ=o++[m]:=⟨_,_,(List.dropLast_concat_getLast ho).symm⟩;obtain⟨sp,st,sw,q,hq,h⟩:=dX h;obtain⟨a,vs,ha,hst,hvs⟩:=m5 hq hs;unfold gX An;unfold fork at hk;rw[Cr b]at hk hsc;refine dZ λw h=> ?_;refine lF h hst vM λw h=> ?_;obtain⟨hp,so,sc,h⟩:=n7 h ha ht;with_reducible repeat' (first|refine nP h ?_|fail)
 refine Ca h b λw h=> ?_;have h:=qg hp.len hp.a hp.t h;have h:=h.bk 9;with_reducible repeat' (first|refine nP h ?_|fail)
 refine ptI (by rfl) ?_
 refine agZ h hsc d c hC (λhd w h=> ?_) (λhd hr w h=> ?_) λhd hr w h=> ?_
 ·rw[if_pos hd]at hk;refine cX ?_;exact KP h e7 he λw h=>hk _ (bn hq h)
 ·rw[if_neg hd,if_pos hr]at hk;refine cX ?_;exact KP h e7 he λw h=>hk _ (bn hq h)
 ·rw[if_neg hd,if_neg (by rw[hr];simp)]at hk
  refine dZ λw h=> ?_;refine Jw rfl rfl<|vO λgx w h=> ?_;refine Z8 h auX aZ rfl af (by simp[Value.oneCell']) (gq hP) af λs1 w h hn=> ?_
  have h:=h.zm 0;have e1:G.P.map tI++[tI (-2,0,0,false)]=(G.P++[(-2,0,0,false)]).map tI:=by simp
  rw[e1]at h;with_reducible repeat' (first|refine bc ?_|refine Hq h λw h=> ?_|refine nP h ?_)
  exact hk _ (bn (q:={q with pJ:=mt gw .xo}) (by exact{hq with cT:=rfl}) h)
def apQ(h:qR w0 w l aa gw G W R)(hs:W.stack=x::s')(ht:G.ts[x]?=some t)(ho:t.cJ≠ [])(d:G.M.OK)(hsc:nZ G.C t.kA.1=some nd)(hc:G.M.can W.id (nd.at_+1)=true)(hk:Fin w0 l aa gw R k (tF l G W nd)):fp (some ⟨gw,0,none⟩) w k:=by
 obtain⟨o,m,c⟩:∃o m,t.cJ=o++[m]:=⟨_,_,(List.dropLast_concat_getLast ho).symm⟩;obtain⟨sp,st,sw,q,hq,h⟩:=dX h;obtain⟨a,vs,ha,hst,hvs⟩:=m5 hq hs;unfold fp wP;unfold tF at hk;rw[Cr c]at hsc;refine vO λgx w h=> ?_;obtain⟨b,e⟩:∃n,n=gx:=⟨_,rfl⟩;subst e;refine cX ?_;refine lF h hst vM λw h=> ?_;have h:=h.fr 10;have hl:aa.length=G.ts.length:=KI h;obtain⟨so,sc,h⟩:=sv h ha ht;with_reducible repeat' (first|refine nP h ?_|refine sR h ?_)
 refine Ca h c λw h=> ?_;have h:=qg hl ha ht h;have h:=h.bk 10;with_reducible repeat' (first|refine nP h ?_|refine sR h ?_)
 refine ptI (by rfl) ?_
 refine aiG h hsc hc d λw h=> ?_;with_reducible repeat' (first|refine bc ?_|refine cH h λw h=> ?_|refine Iy h ?_|refine WX h ?_|refine QT h ?_|refine nP h ?_|refine sR h ?_|refine I8 ?_|refine AM ?_)
 refine anp h λgo w h=> ?_;have h:=A5 (K:=l6 (uh q.go)) h;refine cX ?_;unfold bq;with_reducible repeat' (first|refine bc ?_|refine Hq h λw h=> ?_|refine sR h ?_)
 have h:=qA h;exact hk w (bn (q:={q with go:=go,pJ:=mt gw .pF,KJ:=ct b .um,B:=q.B++[(b,[pt gw])]}) (by exact{KL hq with cT:=rfl,after:=⟨b,bf,rfl⟩}) h)
end
variable{u:Value}{z:Int}
section
variable{w0 w:World}{L R:List HP}{l:Lc}{P:List dB}{aa:List Nat}{G:Gl}{gw b c d x y a a':Nat}{W:Wk}{k:Unit→ap}{sw so sc:Sl}{f:HP→List HP}{t t' tt:Tk}{s':List Nat}{vs:List Value}{i:List Int}{nd:Nd}{p:Pl}
def Zy(h:qR w0 w l aa gw G W R)(hs:W.stack=x::s')(ht:G.ts[x]?=some t)(hy:aa[y]?=some a')(hc:G.M.can W.id l.told=true)(hsc:nZ G.C t.l7=some nd)(hk:Fin w0 l aa gw R k (Gi l G W t y)):c9 (some ⟨gw,0,none⟩) (some ⟨a',0,none⟩) w k:=by
 obtain⟨sp,st,sw,q,hq,h⟩:=dX h;have hl:=xJ h;obtain⟨a,vs,ha,hst,hvs⟩:=m5 hq hs;unfold c9 wR;with_reducible repeat' (first|refine bc ?_|refine cH h λw h=> ?_|refine Tn h ?_|refine Iy h ?_|refine WX h ?_|refine Hq h λw h=> ?_|refine aM h λgx w h=> ?_|refine sR h ?_)
 obtain⟨gc,d⟩:∃n,n=gx:=⟨_,rfl⟩;subst d;obtain⟨b,d⟩:∃n,n=gx:=⟨_,rfl⟩;subst d;have h:=h.fr 3;have h:=h.fr 13;refine acF h hc λw h=> ?_;have h:=h.bk 13;have h:=h.bk 3;with_reducible repeat' (first|refine cH h λw h=> ?_|refine WX h ?_|refine nP h ?_|refine sR h ?_|refine I8 ?_|refine AM ?_)
 refine lF h hst vM λw h=> ?_;have h:=h.fr 11;obtain⟨so,sc,h⟩:=sv h ha ht;with_reducible repeat' (first|refine bc ?_|refine Iy h ?_|refine sR h ?_)
 have h:=qg hl ha ht h;have h:=h.bk 11;have h:=qA h;have h:=qA h;have hm:∀p∈q.B,p∈q.B++[(gc,[pt a'])] ++[(b,[pt gw])]:=λp hp=>List.mem_append_left _ (List.mem_append_left _ hp);exact ado (kk:= .c .th) (G:=G.tick W.id) (q:={q with O6:=some ⟨a',0,none⟩,zi:= .func (.func eP) #[] #[pt b,pt gc],B:=q.B++[(gc,[pt a'])] ++[(b,[pt gw])]})
  (by exact{hq.box hm with target:=⟨a',hy,rfl⟩,again:=⟨b,gc,a',bf,hy,bf,rfl⟩}) h ⟨b,bf,rfl⟩ hsc hk
def aAj(hq:q.Ok aa gw W)(h:xq w0 w l aa gw G W R sp st sw q)(hb:(b,[pt gw])∈q.B)(hcb:(c,[pt a'])∈q.B)(hs:W.stack=x::s')(ht:G.ts[x]?=some t)(hy:aa[y]?=some a')(hc:G.M.can W.id l.told=true)(hsc:nZ G.C t.l7=some nd)(hk:Fin w0 l aa gw R k (Gi l G W t y)):cw ⟨b,0,none⟩ ⟨c,0,none⟩ w k:=by
 unfold cw uK;refine Zn h hb (Zn h hcb ?_);exact Zy (bn hq h) hs ht hy hc hsc hk
def aAk(hq:q.Ok aa gw W)(h:xq w0 w l aa gw G W R sp st sw q)(hb:(b,[pt gw])∈q.B)(hcb:(c,[u])∈q.B)(hv:Rp aa gw q.B kk u)(hs:W.stack=x::s')(ht:G.ts[x]?=some t)(ho:t.cJ≠ [])(hk:Fin w0 l aa gw R k (G,shut W kk t)):cL ⟨b,0,none⟩ ⟨c,0,none⟩ w k:=by
 unfold cL xf;refine Zn h hb (fzV h hcb ?_);exact aht hq h hs ht ho hv hk
def abg(hq:q.Ok aa gw W)(h:xq w0 w l aa gw G W R sp st sw q)(hv:Rp aa gw q.B kk u)(hk:Fin w0 l aa gw R k (G,W.stop kk)):bI (some ⟨gw,0,none⟩) u w k:=by
 unfold bI;have a:=hv.one;refine dZ λw h=> ?_;have h:=A5 (K:=l6 (λo:jH=>au q.gp (o.cells l.sp q.gp))) (St.shut (A:=[]) h);exact hk _ (bn (q:={q with pJ:=mt gw .stops,MG:=u}) (by exact{hq with cT:=rfl,pG:=hv}) h)
def anW(hq:q.Ok aa gw W)(h:xq w0 w l aa gw G W R sp st sw q)(hv:Rp aa gw q.B kk u)(hk:Fin w0 l aa gw R k (G,W.HE z kk)):bi (some ⟨gw,0,none⟩) z u w k:=by
 unfold bi;have a:=hv.one;refine dZ λw h=>hk _ (bn (q:={q with pJ:=mt gw .tE,LB:=u}) (by exact{hq with cT:=rfl,home:=hv}) h)
def aB0(hq:q.Ok aa gw W)(h:xq w0 w l aa gw G W R sp st sw q)(hb:(b,[pt gw])∈q.B)(hy:aa[y]?=some a')(hcb:(c,[pt a'])∈q.B)(hv:Rp aa gw q.B kk u)(hdb:(d,[u])∈q.B)(ht:G.ts[y]?=some tt)(hk:Fin w0 l aa gw R k (G,W.HE tt.id kk)):fG ⟨b,0,none⟩ ⟨c,0,none⟩ ⟨d,0,none⟩ w k:=by
 unfold fG vB;obtain⟨hp,so,sc,h⟩:=n7 h hy ht;with_reducible repeat' (first|refine bc ?_|refine cH h λw h=> ?_|refine Iy h ?_|refine Zn h hb ?_|refine Zn h hcb ?_|refine fzV h hdb ?_)
 exact anW hq (oX hp h) hv hk
def aB1(hq:q.Ok aa gw W)(h:xq w0 w l aa gw G W R sp st sw q)(hb:(b,[pt gw])∈q.B)(hcb:(c,[.int .i64 z])∈q.B)(hv:Rp aa gw q.B kk u)(hdb:(d,[u])∈q.B)(hk:Fin w0 l aa gw R k (G,W.HE z kk)):fI ⟨b,0,none⟩ ⟨c,0,none⟩ ⟨d,0,none⟩ w k:=by
 unfold fI vC;refine Zn h hb (fzI h hcb (fzV h hdb ?_));exact anW hq h hv hk
def ajt(h:qR w0 w l aa gw G W R)(hk:Fin w0 l aa gw R k (BQ G W z)):cW (some ⟨gw,0,none⟩) z w k:=by
 obtain⟨sp,st,sw,q,hq,h⟩:=dX h;unfold cW ym;have hv:=hq.again.one;with_reducible repeat' (first|refine bc ?_|refine u_V h ?_|refine WX h ?_|refine v_C h λw h=> ?_|refine aM h λgx w h=> ?_)
 obtain⟨gd,a⟩:∃n,n=gx:=⟨_,rfl⟩;subst a;obtain⟨gc,a⟩:∃n,n=gx:=⟨_,rfl⟩;subst a;obtain⟨b,a⟩:∃n,n=gx:=⟨_,rfl⟩;subst a;have h:=qA h;have h:=qA h;have h:=qA h;have hm:∀p∈q.B,p∈q.B++[(gd,[q.zi])] ++[(gc,[.int .i64 z])] ++[(b,[pt gw])]:=λp hp=>List.mem_append_left _ (List.mem_append_left _ (List.mem_append_left _ hp));exact abg (kk:= .BR z W.again) (hq.box hm) h ⟨b,gc,gd,q.zi,bf,bf,hq.again.box hm,bf,rfl⟩ hk
def auY(h:qR w0 w l aa gw G W R)(hs:W.stack=x::s')(ht:G.ts[x]?=some t)(i:G.M.OK)(hty:W.target=some y)(f:G.ts[y]?=some tt)(hc:G.M.can W.id (tt.jI+0)=true)(ho:t.cJ≠ [])(hk:Fin w0 l aa gw R k (asked G W t tt y)):gu (some ⟨gw,0,none⟩) w k:=by
 obtain⟨sp,st,sw,q,hq,h⟩:=dX h;have hl:=xJ h;obtain⟨a,vs,ha,hst,hvs⟩:=m5 hq hs;obtain⟨a',hy,b⟩:∃a',aa[y]?=some a'∧q.O6=some ⟨a',0,none⟩:=by have:=hq.target;rw[hty]at this;exact this
 unfold gu yO;unfold asked at hk;have hv:=hq.again.one;refine vO λgx w h=> ?_;obtain⟨e,d⟩:∃n,n=gx:=⟨_,rfl⟩;subst d;rw[b];have h:=h.fr 10;obtain⟨so,sc,h⟩:=sv h hy f;refine cX<|ao1 h i hc λw h=> ?_;have h:=qg hl hy f h;have h:=h.bk 10;refine vO λgx w h=> ?_;obtain⟨gc,d⟩:∃n,n=gx:=⟨_,rfl⟩;subst d;rw[b]at h;dsimp only at hk;refine ax (λhb=> ?_) λhb=> ?_
 ·rw[if_pos (gq hb)]at hk
  refine vO λgx w h=> ?_;obtain⟨gd,d⟩:∃n,n=gx:=⟨_,rfl⟩;subst d;have h:=qA h;have h:=qA h;have h:=qA h;have hm:∀p∈q.B,p∈q.B++[(gd,[q.zi])] ++[(gc,[pt a'])] ++[(e,[pt gw])]:=λp hp=>List.mem_append_left _ (List.mem_append_left _ (List.mem_append_left _ hp));exact abg (kk:= .V2 y W.again) (hq.box hm) h ⟨e,gc,gd,a',q.zi,bf,hy,bf,hq.again.box hm,bf,rfl⟩ hk
 rw[if_neg (gq hb)]at hk
 refine ax (λhb=> ?_) λhb=> ?_
 ·rw[if_pos (gq hb)]at hk
  refine dZ λw h=> ?_;refine lF h hst vM λw h=> ?_;have h:=h.fr 11;obtain⟨so,sc,h⟩:=sv h ha ht;with_reducible repeat' (first|refine bc ?_|refine u_S h ?_|refine sR h ?_)
  cases hop:t.cJ with
  |nil=>exact(ho hop).elim
  |cons m o=>
   rw[hop]at hk;refine rI h e7 (by rw[hop];rfl) rfl ?_
   have h:=qg hl ha ht h;have h:=h.bk 11;unfold dM;refine dZ λw h=> ?_;have h:=(h.rm 0 rfl).rm 0 rfl;exact hk _ (bn (q:={q with pJ:=mt gw .ul,IP:=mt gw .vQ}) (by exact{hq with cT:=rfl,dK:=rfl}) h)
 ·rw[if_neg (gq hb)]at hk
  refine dZ λw h=> ?_;have h:=h.zm 0;have h:=qA h;exact abg (kk:= .c .IF) (by exact{KL (g:=e) (cs:=[pt gw]) hq with}) h ⟨e,bf,rfl⟩ hk
end
variable{c:Value→ap}{p:Addr}
section
variable{w0 w:World}{L R:List HP}{l:Lc}{P:List dB}{aa:List Nat}{G:Gl}{gw b c d x y a a':Nat}{W:Wk}{k:Unit→ap}{sw so sc:Sl}{f:HP→List HP}{t t' tt:Tk}{s':List Nat}{vs:List Value}{i:List Int}{nd:Nd}{p:Pl}
def anX(h:qR w0 w l aa gw G W R)(hs:W.stack=x::s')(ht:G.ts[x]?=some t)(hk:Fin w0 l aa gw R k (vQ G W t)):cu (some ⟨gw,0,none⟩) w k:=by
 obtain⟨sp,st,sw,q,hq,h⟩:=dX h;obtain⟨a,vs,ha,hst,hvs⟩:=m5 hq hs;obtain⟨hp,so,sc,h⟩:=n7 h ha ht;unfold cu z0;unfold vQ at hk;refine vO λgx w h=> ?_;obtain⟨c,d⟩:∃n,n=gx:=⟨_,rfl⟩;subst d;refine bP (fun(x2:Addr×Addr) w=> ∃g1 g2,x2=(⟨g1,0,none⟩,⟨g2,0,none⟩)∧St w0 w (au g1 [.int .i64 t.id]::au g2 [.pointer q.O6]::au c [pt gw]::TL l aa gw G W R sp st sw q x a t so sc)) (λJ b=> ?_) ?_
 ·with_reducible repeat' (first|refine bc ?_|refine cH h λw h=> ?_|refine Tn h ?_|refine WX h ?_|refine aM h λgx w h=> ?_|refine nP h ?_|refine sR h ?_|refine y8 ?_ ?_|fail)
  ·refine lF h hst vM λw h=> ?_;with_reducible repeat' (first|refine bc ?_|refine Iy h ?_|refine v_C h λw h=> ?_|refine aM h λgx w h=> ?_|refine nP h ?_|refine sR h ?_|refine y8 ?_ ?_|fail)
   ·exact b _ _ ⟨_,_,rfl,h.swap⟩
   ·exact b _ _ ⟨_,_,rfl,h⟩
  ·refine lF h hst vM λw h=> ?_;with_reducible repeat' (first|refine bc ?_|refine Iy h ?_|refine v_C h λw h=> ?_|refine aM h λgx w h=> ?_|refine nP h ?_|refine sR h ?_|fail)
   exact b _ _ ⟨_,_,rfl,h.swap⟩
  ·refine lF h hst vM λw h=> ?_;with_reducible repeat' (first|refine bc ?_|refine Iy h ?_|refine v_C h λw h=> ?_|refine nP h ?_|refine sR h ?_|fail)
   exact b _ _ ⟨_,_,rfl,h.swap⟩
  ·refine lF h hst vM λw h=> ?_;with_reducible repeat' (first|refine bc ?_|refine Iy h ?_|refine v_C h λw h=> ?_|refine aM h λgx w h=> ?_|refine nP h ?_|refine sR h ?_|fail)
   exact b _ _ ⟨_,_,rfl,h⟩
  ·refine lF h hst vM λw h=> ?_;with_reducible repeat' (first|refine bc ?_|refine Iy h ?_|refine v_C h λw h=> ?_|refine nP h ?_|refine sR h ?_|fail)
   exact b _ _ ⟨_,_,rfl,h⟩
 clear h;rintro _ w ⟨g1,g2,rfl,h⟩;unfold dx;refine dZ λw h=> ?_;have h:=qA h;have h:=qA h;have h:=qA h;have hm:∀p∈q.B,p∈q.B++[(g1,[.int .i64 t.id])] ++[(g2,[.pointer q.O6])] ++[(c,[pt gw])]:=λp hp=>List.mem_append_left _ (List.mem_append_left _ (List.mem_append_left _ hp));exact hk _ (bn (q:={q with pJ:=mt gw .others,Zo:= .func (.func lY) #[] #[pt c,pt g1,pt g2],ajd:=mt gw .BQ,Zp:=mt gw .nothing,B:=q.B++[(g1,[.int .i64 t.id])] ++[(g2,[.pointer q.O6])] ++[(c,[pt gw])]})
  (by exact{hq.box hm with cT:=rfl,fits:=⟨c,g1,g2,q.O6,bf,bf,bf,by have h9:=hq.target;revert h9;cases W.target<;>exact λh=>h,rfl⟩,got:=rfl,none_:=rfl}) (oX hp h))
def auZ{p:Option Addr}{c:Value→ap}(h:cu p w λ_ w=>c (.tuple #[]) w):z5 [.pointer p] w c:=h
def apR{p:Addr}{c:Value→ap}(h:cV p w λ_ w=>c (.tuple #[]) w):wF [.pointer (some p)] w c:=h
def adp{bY:ey}{c:Value→ap}(hd:W.dK= .m .vQ∨W.dK= .c .Db)(e1:∀args w c,bY (.func ku) args w c=z5 args.toList w c)(e2:∀args w c,bY (.func kr) args w c=wF args.toList w c)
  (hq:q.Ok aa gw W) (h:xq w0 w l aa gw G W R sp st sw q) (hs:W.stack=x::s') (ht:G.ts[x]?=some t) (hk:Fin w0 l aa gw R (λ_ w=>c (.tuple #[]) w) (dK G W t)):nj bY q.IP #[] w c:=by
 unfold dK at hk;have hv:=hq.dK;rcases hd with hd|hd
 ·rw[hd]at hk hv;obtain hv:q.IP=mt gw .vQ:=hv;rw[hv];rw[if_pos rfl]at hk;refine bV e1 (auZ ?_);exact anX (bn hq h) hs ht hk
 ·rw[hd]at hk hv;obtain⟨b,hb,hv⟩:=hv;rw[hv];rw[if_neg e7]at hk;refine bV e2 (apR ?_);exact auO hq h hb hk
def apS(h:qR w0 w l aa gw G W R)(hs:W.stack=x::s')(ht:G.ts[x]?=some t)(hd:W.dK= .m .vQ∨W.dK= .c .Db)(hA:xH W.dq)(hc:G.M.can W.id (W.dq+1)=true)(hk:Fin w0 l aa gw R k (ul l G W t)):fA (some ⟨gw,0,none⟩) w k:=by
 obtain⟨sp,st,sw,q,hq,h⟩:=dX h;unfold fA xd;unfold ul at hk;dsimp only at hk;refine vO λgx w h=> ?_;obtain⟨a,b⟩:∃n,n=gx:=⟨_,rfl⟩;subst b;refine VT h hA hc λw h=>cX<|ax (λhb=> ?_) λhb=> ?_
 ·rw[if_pos (of_decide_eq_true hb)]at hk;refine cX ?_;have h:=h.zm 0;exact adp (G:=G.tick W.id) hd (λ_ _ _=>rfl) (λ_ _ _=>rfl) hq h hs ht hk
 ·rw[if_neg (of_decide_eq_false hb)]at hk;refine dZ λw h=>ato h λgo w h=> ?_;have h:=A5 (K:=l6 (uh q.go)) h;refine cX ?_;unfold bq;with_reducible repeat' (first|refine bc ?_|refine Hq h λw h=> ?_|refine sR h ?_)
  have h:=qA h;exact hk w (bn (q:={q with go:=go,pJ:=mt gw .pF,KJ:=ct a .td,B:=q.B++[(a,[pt gw])]}) (by exact{KL hq with cT:=rfl,after:=⟨a,bf,rfl⟩}) h)
def alR(hq:q.Ok aa gw W)(h:xq w0 w l aa gw G W R sp st sw q)(hb:(b,[pt gw])∈q.B)(ho:W.op.isSome=true)(hs:W.stack=x::s')(ht:G.ts[x]?=some t)(hd:W.dK= .m .vQ∨W.dK= .c .Db)(hk:Fin w0 l aa gw R k (td G W t DC)):eV DC ⟨b,0,none⟩ w k:=by
 unfold eV uE;unfold td at hk;refine ax (λhb'=> ?_) λhb'=> ?_
 ·rw[if_pos (gq hb')]at hk
  refine cX<|adp hd (λ_ _ _=>rfl) (λ_ _ _=>rfl) hq h hs ht hk
 ·rw[if_neg (gq hb')]at hk
  refine dZ λw h=>ahs h ho ?_;with_reducible repeat' (first|refine vW ?_|fail)
  exact ajt (bn hq h) hk
def alS(h:qR w0 w l aa gw G W R)(hs:W.stack=x::s')(ht:G.ts[x]?=some t)(ho:t.cJ≠ [])(c:G.M.OK)(hsc:nZ G.C t.kA.1=some nd)(hc:G.M.can W.id (nd.at_+1)=true)(hk:Fin w0 l aa gw R k (sx G W t nd)):eO (some ⟨gw,0,none⟩) w k:=by
 obtain⟨o,m,b⟩:∃o m,t.cJ=o++[m]:=⟨_,_,(List.dropLast_concat_getLast ho).symm⟩;obtain⟨sp,st,sw,q,hq,h⟩:=dX h;have hl:=xJ h;obtain⟨a,vs,ha,hst,hvs⟩:=m5 hq hs;unfold eO vz;unfold sx at hk;rw[Cr b]at hsc;have hv:=hq.qc.one;refine dZ λw h=> ?_;refine lF h hst vM λw h=> ?_;have h:=h.fr 9;obtain⟨so,sc,h⟩:=sv h ha ht;with_reducible repeat' (first|refine nP h ?_|fail)
 refine Ca h b λw h=> ?_;have h:=qg hl ha ht h;have h:=h.bk 9;with_reducible repeat' (first|refine nP h ?_|fail)
 refine ptI (by rfl) ?_
 refine axG h hsc hc c λw h=>cX<|ax (λhb=> ?_) λhb=> ?_
 ·rw[if_pos (gq hb)]at hk
  refine cX<|abg hq h hq.qc hk
 ·rw[if_neg (gq hb)]at hk
  exact anX (bn (G:=G.tick W.id) hq h) hs ht hk
end
def Gl.vJ(G:Gl)(y:Nat):Int:=match G.ts[y]? with|some t=>t.id|none=>0
def Gl.V8(G:Gl)(y:Nat):Int:=match G.ts[y]? with|some t=>t.jI|none=>0
variable{r:Addr}
section
variable{w0 w:World}{L R:List HP}{l:Lc}{P:List dB}{aa:List Nat}{G:Gl}{gw b c d x y a a':Nat}{W:Wk}{k:Unit→ap}{sw so sc:Sl}{f:HP→List HP}{t t' tt:Tk}{s':List Nat}{vs:List Value}{i:List Int}{nd:Nd}{p:Pl}
def Zz(hq:q.Ok aa gw W)(hty:W.target=some y):∃a',aa[y]?=some a'∧q.O6=some ⟨a',0,none⟩:=by have:=hq.target;rw[hty]at this;exact this
def ayD(hq:q.Ok aa gw W):(eA q.O6)=(eA W.target):=by
 have:=hq.target;revert this;cases W.target with
 |none=>intro h;rw[h];rfl
 |some x=>rintro⟨a,_,h⟩;rw[h];rfl
def alT(h:qR w0 w l aa gw G W R)(hh:W.wait.how=1)(hk:Fin w0 l aa gw R k (nothing G W)):fE (some ⟨gw,0,none⟩) w k:=by
 obtain⟨sp,st,sw,q,hq,h⟩:=dX h;unfold fE vo;unfold nothing at hk;have hv:=hq.again.one;refine cX<|ax (λhb=> ?_) λhb=> ?_
 ·rw[if_pos hb]at hk;refine dZ λw h=>hk _ (bn (q:={q with pJ:=q.zi}) (by exact{hq with cT:=hq.again}) h)
 rw[if_neg (by rw[hb];simp)]at hk
 refine bP (λb w'=>b=(W.target.isSome&& !W.bO)∧w'=w) (λJ a=> ?_) ?_
 ·refine cX ?_;rw[ayD hq];refine ax (λhb=> ?_) λhb=> ?_
  ·refine cX<|a _ _ ⟨?_,rfl⟩;cases ht:W.target with
   |none=>rw[ht]at hb;cases hb
   |some y=>rfl
  ·refine a _ _ ⟨?_,rfl⟩;cases ht:W.target with
   |none=>rfl
   |some y=>rw[ht]at hb;cases hb
 rintro _ _ ⟨rfl,rfl⟩;refine ax (λhb=> ?_) λhb=> ?_
 ·rw[if_pos hb]at hk;refine dZ λw h=>hk _ (bn (q:={q with pJ:=mt gw .register}) (by exact{hq with cT:=rfl}) h)
 rw[if_neg (by rw[hb];simp)]at hk
 refine cX<|ax (λhb=> ?_) λhb=> ?_
 ·rw[if_neg (gq hb)]at hk
  refine cX<|atC h λgp w h=> ?_;have h:=A5 (K:=l6 (λo:jH=>au q.gp (o.cells l.sp q.gp))) h;refine dZ λw h=>hk _ (bn (q:={q with pJ:=mt gw .block,gp:=gp}) (by exact{hq with cT:=rfl}) h)
 ·rw[if_pos (gq hb)]at hk
  refine dZ λw h=>anm h λw h=> ?_;rw[if_pos hh];rw[if_pos hh]at h;with_reducible repeat' (first|refine bc ?_|refine Hq h λw h=> ?_|refine nP h ?_|refine i_T ?_|refine AM ?_)
  exact hk _ (bn (q:={q with pJ:=mt gw .Io}) (by exact{hq with cT:=rfl}) h)
def ajv(h:qR w0 w l aa gw G W R)(hty:W.target=some y)(b:G.ts[y]?=some tt)(c:G.M.OK)(hw:0≤W.id∧W.id≤16)(hc:G.M.can W.id (tt.jI+2)=true)(hk:Fin w0 l aa gw R k (register G W tt)):ez (some ⟨gw,0,none⟩) w k:=by
 obtain⟨sp,st,sw,q,hq,h⟩:=dX h;have hl:=xJ h;obtain⟨a',hy,a⟩:=Zz hq hty;unfold ez uI;have hv:=hq.again.one;refine dZ λw h=> ?_;rw[a];have h:=h.fr 9;obtain⟨so,sc,h⟩:=sv h hy b;refine cX<|atf h c hw hc λw h=> ?_;have h:=qg hl hy b h;have h:=h.bk 9;with_reducible repeat' (first|refine bc ?_|refine u_V h ?_|refine Hq h λw h=> ?_|refine nP h ?_|refine i_T ?_|refine AM ?_)
 exact hk _ (bn (q:={q with pJ:=q.zi}) (by exact{hq with cT:=hq.again}) h)
def au0{o:jH}(h:qR w0 w l aa gw G W R)(hT:TZ w0)(hs:l.sp.OK)(a:G.M.OK)(ho:W.step=some o)(hf:o.GX l.sp G.M W.id)(hk:Fin w0 l aa gw R k (block l G W o)):gv (some ⟨gw,0,none⟩) w k:=by
 obtain⟨id,dq,wait,stack,back,cT,op,after,look,seen,step,left,late,fits,got,none_,jq,home,target,kind,bO,blocked,again,pG,mark,dK,own,said,bits,qc⟩:=W;dsimp only at ho;subst ho;obtain⟨sp,st,sw,q,hq,h⟩:=dX h;unfold gv yT;unfold block at hk;dsimp only[l6]at h;have hv:=hq.again.one;refine dZ λw h=> ?_;have h:=h.fr 1;have h:=h.fr 17;refine Ze h hT hs a hf λw h=> ?_;have h:=h.bk 17;have h:=h.bk 1;generalize o.go l.sp G.M id=r at h hk ⊢;refine cX<|ax (λhb=> ?_) λhb=> ?_
 ·have hb:r.1.next=0:=by simpa using hb
  simp only[if_pos hb]at hk;refine dZ λw h=>hk _ (bn (q:={q with pJ:=q.zi}) (by exact{hq with cT:=hq.again}) h)
 ·have hb:¬r.1.next=0:=by simpa using hb
  simp only[if_neg hb]at hk;exact hk _ (bn (by exact{hq with}) h)
def au1{p:Addr}{c:Value→ap}(h:cw p r w λ_ w=>c (.tuple #[]) w):oU [.pointer (some p),.pointer (some r)] w c:=h
def au2{p:Addr}{c:Value→ap}(h:cL p r w λ_ w=>c (.tuple #[]) w):pX [.pointer (some p),.pointer (some r)] w c:=h
def afv(G:Gl)(W:Wk)(t:Tk):Prop:=match W.again with
 | .aw y=>True
 | .sh k=>t.cJ≠ []
 |_=>False
def au3{bY:ey}{c:Value→ap}(hd:afv G W t)(e1:∀args w c,bY (.func eP) args w c=oU args.toList w c)(e2:∀args w c,bY (.func fN) args w c=pX args.toList w c)
  (hq:q.Ok aa gw W) (h:xq w0 w l aa gw G W R sp st sw q) (hs:W.stack=x::s') (ht:G.ts[x]?=some t) (hc:G.M.can W.id l.told=true) (hsc:nZ G.C t.l7=some nd) (hk:Fin w0 l aa gw R (λ_ w=>c (.tuple #[]) w) (again l G W t)):nj bY q.zi #[] w c:=by
 unfold again at hk;unfold afv at hd;have hv:=hq.again;revert hd hk hv;cases hag:W.again<;>intro hd hk hv<;>first|exact hd.elim|skip
 ·rename_i y;obtain⟨b,c',a',hb,hy,a,hv⟩:=hv;rw[hv];refine bV e1 (au1 ?_);exact aAj hq h hb a hs ht hy hc hsc hk
 ·rename_i kk;obtain⟨b,c',u,hb,hu,a,hv⟩:=hv;rw[hv];refine bV e2 (au2 ?_);exact aAk hq h hb a hu hs ht hd hk
def ayE(h:qR w0 w l aa gw G W R)(hs:W.stack=x::s')(ht:G.ts[x]?=some t)(hd:afv G W t)(hc:G.M.can W.id l.told=true)(hsc:nZ G.C t.l7=some nd)(hk:Fin w0 l aa gw R k (Io l G W t)):ig (some ⟨gw,0,none⟩) w k:=by
 obtain⟨sp,st,sw,q,hq,h⟩:=dX h;unfold ig AG;unfold Io at hk;refine cX ?_;refine ae7 h λw h=>cX<|au3 (W:={W with wait:=⟨0,W.wait.seen⟩}) hd (λ_ _ _=>rfl) (λ_ _ _=>rfl) (by exact{hq with}) h hs ht hc hsc hk
end
section
variable{w0 w:World}{L R:List HP}{l:Lc}{P:List dB}{aa:List Nat}{G:Gl}{gw b c d x y a a':Nat}{W:Wk}{k:Unit→ap}{sw so sc:Sl}{f:HP→List HP}{t t' tt:Tk}{s':List Nat}{vs:List Value}{i:List Int}{nd:Nd}{p:Pl}
def aev{p:Option Addr}{c:Value→ap}(h:bB p w λ_ w=>c (.tuple #[]) w):Ba [.pointer p] w c:=h
def ayF{p s:Addr}{c:Value→ap}(h:fG p r s w λ_ w=>c (.tuple #[]) w):Dl [.pointer (some p),.pointer (some r),.pointer (some s)] w c:=h
def ayG{p s:Addr}{c:Value→ap}(h:fI p r s w λ_ w=>c (.tuple #[]) w):Dn [.pointer (some p),.pointer (some r),.pointer (some s)] w c:=h
def alU{p:Addr}{c:Value→ap}(h:fH p w λ_ w=>c (.tuple #[]) w):Dm [.pointer (some p)] w c:=h
def alV{p:Addr}{c:Value→ap}(h:fJ p w λ_ w=>c (.tuple #[]) w):Dp [.pointer (some p)] w c:=h
def ajx{p:Addr}{c:Value→ap}(h:eX p w λ_ w=>c (.tuple #[]) w):B6 [.pointer (some p)] w c:=h
def anY(G:Gl)(W:Wk)(t:Tk):Prop:=match W.pG with
 | .m .cancelled=>True
 | .V2 y _=>y<G.ts.length
 | .BR _ _=>True
 | .c .IF=>True
 | .c .Co=>True
 | .c .qI=>t.cJ≠ []∧Dr G t.kA.1
 |_=>False
def au4(h:qR w0 w l aa gw G W R)(hT:TZ w0)(hs:W.stack=x::s')(ht:G.ts[x]?=some t)(hsp:l.sp.OK)(p:G.M.OK)(hw:0≤W.id∧W.id≤16)
  (h1:W.blocked=true→(W.step.getD (jH.B7 0 2)).GX l.sp G.M W.id)
  (h2:W.blocked=false→W.bO=true→∃y tt,W.target=some y∧G.ts[y]?=some tt∧G.M.can W.id (tt.jI+2)=true)
  (h3:W.blocked=false→W.bO=false→anY G W t) (hk:Fin w0 l aa gw R k (stops l G W x t G.vJ G.V8)):gy (some ⟨gw,0,none⟩) w k:=by
 obtain⟨id,dq,wait,stack,back,cT,op,after,look,seen,step,left,late,fits,got,none_,jq,home,target,kind,bO,blocked,again,s,mark,dK,own,said,bits,qc⟩:=W;obtain⟨sp,st,sw,q,hq,h⟩:=dX h;have hl:=xJ h;unfold gy yV;unfold stops at hk;dsimp only at h1 h2 h3 hw hs hk;refine cX ?_;cases blocked
 ·refine aU rfl ?_;rw[if_neg e7]at hk;refine cX ?_;cases bO
  ·refine aU rfl ?_;rw[if_neg e7]at hk;refine cX ?_;replace h3:=h3 rfl rfl;unfold anY at h3;unfold pG at hk;have hv:=hq.pG;clear h1 h2;cases s with
   |m f=>
    have d:f= .cancelled:=by cases f<;>first|rfl|exact h3.elim
    subst d;obtain hv:q.MG=mt gw .cancelled:=hv;rw[hv];refine bV (λ_ _ _=>rfl) (aev ?_);exact OG (bn hq h) hs ht hk
   |V2 y kk=>
    obtain⟨b,c',d',a',u,hb,hy,g,hu,j,hv⟩:=hv;rw[hv];refine bV (λ_ _ _=>rfl) (ayF ?_);have h3:y<G.ts.length:=h3;have a:G.ts[y]?=some (G.ts[y]'h3):=iH h3;refine aB0 hq h hb hy g hu j a ?_;have e:G.vJ y=(G.ts[y]'h3).id:=by unfold Gl.vJ;rw[a]
    rw[←e];exact hk
   |BR y kk=>
    obtain⟨b,c',d',u,hb,g,hu,j,hv⟩:=hv;rw[hv];refine bV (λ_ _ _=>rfl) (ayG ?_);exact aB1 hq h hb g hu j hk
   |c f=>
    obtain⟨b,hb,hv⟩:=hv;rw[hv];cases f<;>first|exact h3.elim|skip
    ·refine bV (λ_ _ _=>rfl) (alU ?_);exact apL hq h hb hk
    ·refine bV (λ_ _ _=>rfl) (alV ?_);exact apK hq h hb hk
    ·refine bV (λ_ _ _=>rfl) (ajx ?_);exact alQ (o:=[]) (m:=(0,0)) hq h hb hs ht h3.1 h3.2 hk
   |no=>exact h3.elim
   |any=>exact h3.elim
   |nx i=>exact h3.elim
   |aw y=>exact h3.elim
   |sh kk=>exact h3.elim
   |hl m z=>exact h3.elim
  ·refine bK rfl ?_;rw[if_pos rfl]at hk;obtain⟨y,tt,hty,a,hc⟩:=h2 rfl rfl;obtain⟨a',hy,n⟩:=Zz hq hty;refine dZ λw h=> ?_;rw[n];have h:=h.fr 9;obtain⟨so,sc,h⟩:=sv h hy a;refine cX<|ao4 h p hw hc λw h=> ?_;have h:=qg hl hy a h;have h:=h.bk 9;with_reducible repeat' (first|refine bc ?_|refine Hq h λw h=> ?_|refine nP h ?_|refine i_T ?_|refine AM ?_)
   have e:G.V8 (target.getD 0)=tt.jI:=by
    have hty:target=some y:=hty;unfold Gl.V8;rw[hty,Option.getD_some,a]
   rw[e]at hk;exact hk _ (bn (by exact{hq with}) h)
 ·refine bK rfl ?_;rw[if_pos rfl]at hk;replace h1:=h1 rfl;refine cX<|bP (fun(_:Unit) w=> ∃gp,xq w0 w l aa gw G ⟨id,dq,wait,stack,back,cT,op,after,look,seen,some (step.getD (jH.B7 0 2)),left,late,fits,got,none_,jq,home,target,kind,bO,true,again,s,mark,dK,own,said,bits,qc⟩ R sp st sw {q with gp:=gp}) (λJ v=> ?_) ?_
  ·cases step with
   |none=>
    refine bK rfl<|cX<|api h λgp w h=> ?_;have h:=A5 (K:=l6 (λo:jH=>au q.gp (o.cells l.sp q.gp))) h;refine dZ λw h=>v _ _ ⟨gp,h⟩
   |some o=>
    refine aU rfl<|v _ _ ⟨q.gp,h⟩
  clear h;rintro _ w ⟨gp,h⟩;generalize step.getD (jH.B7 0 2)=o at h1 hk h;dsimp only[xq,l6]at h;refine dZ λw h=> ?_;have h:=h.fr 1;have h:=h.fr 17;refine Ze h hT hsp p h1 λw h=> ?_;have h:=h.bk 17;have h:=h.bk 1;generalize o.go l.sp G.M id=r at h hk ⊢;refine cX<|ax (λhb=> ?_) λhb=> ?_
  ·have hb:r.1.next=0:=by simpa using hb
   simp only[if_pos hb]at hk;refine dZ λw h=> ?_;have h:=A5 (K:=au gp) (St.shut (A:=[]) h);exact hk _ (bn (by exact{hq with}) h)
  ·have hb:¬r.1.next=0:=by simpa using hb
   simp only[if_neg hb]at hk;exact hk _ (bn (by exact{hq with}) h)
end
section
variable{w0 w:World}{L R:List HP}{l:Lc}{P:List dB}{aa:List Nat}{G:Gl}{gw b c d x y a a':Nat}{W:Wk}{k:Unit→ap}{sw so sc:Sl}{f:HP→List HP}{t t' tt:Tk}{s':List Nat}{vs:List Value}{i:List Int}{nd:Nd}{p:Pl}
def G6(i:List Int):Int:=if i.getD 0 0=10 then i.getD 3 0 else i.getD 2 0
def ayH(hF:iA w0 l.ps P)(hI:In P t.f i)(h:qR w0 w l aa gw G W R)(hs:W.stack=x::s')(ht:G.ts[x]?=some t)(hh:0≤G6 i∧G6 i<8)(hy:t.f.getD (10+(G6 i).toNat) 0=(y:Nat))(c:G.ts[y]?=some tt)(hc:G.M.can W.id l.told=true)(hsc:nZ G.C t.l7=some nd)
  (hk:Fin w0 l aa gw R k (join l P G W t)):gY (some ⟨gw,0,none⟩) w k:=by
 obtain⟨sp,st,sw,q,hq,h⟩:=dX h;obtain⟨a,vs,ha,hst,_⟩:=m5 hq hs;obtain⟨hp,so,sc,h⟩:=n7 h ha ht;obtain⟨a',b⟩:=Zx hp.len c;unfold gY Aq;unfold join at hk;rw[hI.ins]at hk;have e1:(if i.getD 0 0=10 then i.getD 3 0 else i.getD 2 0)=G6 i:=rfl
 dsimp only at hk;rw[e1,hy,iZ]at hk;refine JH hF hI h hst λw h=> ?_;obtain⟨i0,i1,i2,i3,i4,rfl⟩:=JG hI.GZ;refine vO λgx w h=> ?_;obtain⟨gc,d⟩:∃n,n=gx:=⟨_,rfl⟩;subst d;refine ax (λhb=> ?_) λhb=> ?_
 ·have hb:i0=10:=by simpa using hb
  have e2:G6 [i0,i1,i2,i3,i4]=i3:=if_pos hb;rw[e2]at hh hy;refine dZ λw h=> ?_;refine lF h hst vM λw h=> ?_;with_reducible repeat' (first|refine bc ?_|refine nP h ?_)
  refine aAi h hh.1 hh.2 ?_;rw[hy];refine vP h af (adn b) ?_;have h:=h.rm 0 rfl;exact Zy (bn hq (oX hp h)) hs ht b hc hsc hk
 ·have hb:¬i0=10:=by simpa using hb
  have e2:G6 [i0,i1,i2,i3,i4]=i2:=if_neg hb;rw[e2]at hh hy;refine dZ λw h=> ?_;refine lF h hst vM λw h=> ?_;with_reducible repeat' (first|refine bc ?_|refine nP h ?_)
  refine aAi h hh.1 hh.2 ?_;rw[hy];refine vP h af (adn b) ?_;have h:=h.rm 0 rfl;exact Zy (bn hq (oX hp h)) hs ht b hc hsc hk
def afw{kind v:Int}{k:Array Value×Int×Bool→ap}(h:St w0 w L)(hf:t.f.length=19)(h5:i.length=5)(hk:∀w',St w0 w' L→k (eZ (di t.f i kind v).1,(di t.f i kind v).2.1,(di t.f i kind v).2.2) w'):iu (frV t.f).toArray (eZ i) kind v w k:=by
 rw[Oz hf];exact Fr.apo hf h5 λw' he=>hk w' (h.on he)
def apT(hF:iA w0 l.ps P)(hI:In P t.f i)(h:qR w0 w l aa gw G W R)(he:G.err=0)(hs:W.stack=x::s')(ht:G.ts[x]?=some t)(m:G.M.OK)(hty:W.target=some y)(j:G.ts[y]?=some tt)(hc:G.M.can W.id (tt.jI+1)=true)
  (hk:Fin w0 l aa gw R k (joined l P G W x t tt)):fy (some ⟨gw,0,none⟩) w k:=by
 obtain⟨sp,st,sw,q,hq,h⟩:=dX h;obtain⟨a,vs,ha,hst,_⟩:=m5 hq hs;obtain⟨a',hy,d⟩:=Zz hq hty;obtain⟨hp,so,sc,h⟩:=n7 h ha ht;unfold fy xa;unfold joined at hk;rw[hI.ins]at hk;dsimp only at hk;have hf:=hI.len;refine G5 h he (λhb w h=> ?_) λhb w h=> ?_
 ·rw[if_pos hb]at hk;refine cX ?_;exact hk _ (bn hq (oX ⟨hp.len,hp.a,hp.t⟩ h))
 rw[if_neg hb]at hk;refine cX ?_;refine lF h hst vM λw h=>JH hF hI h hst λw h=> ?_;have h5:=hI.GZ;obtain⟨i0,i1,i2,i3,i4,rfl⟩:=JG h5;refine vO λgx w h=> ?_;obtain⟨gc,o⟩:∃n,n=gx:=⟨_,rfl⟩;subst o;refine bP (fun(v:Int) w=> ∃so sc,v=(if W.kind=4 then 0 else G.M.get (tt.jI+1))∧St w0 w (au gc (ints [i0,i1,i2,i3,i4])::TL l aa gw (if W.kind=4 then G else G.tick W.id) W R sp st sw q x a t so sc)) (λJ c=> ?_) ?_
 ·refine ax (λhb=> ?_) λhb=> ?_
  ·have hb:¬W.kind=4:=by simpa using hb
   rw[if_neg hb,if_neg hb]at c;refine dZ λw h=> ?_;rw[d];have h:=h.fr 0;have h2:=St.back 22 h;simp only[aBT,aBU]at h2;have h:=oX hp h2;clear h2;dsimp only[xq]at h;have h:=h.fr 9;obtain⟨p,r,h⟩:=sv h hy j;refine cX ?_;refine ao2 h m hc λw h=> ?_;have h:=qg hp.len hy j h;have h:=h.bk 9;obtain⟨_,e,g,h⟩:=n7 (G:=G.tick W.id) h ha ht;refine cX ?_;have h:=h.fr 22;exact c _ _ ⟨e,g,rfl,h⟩
  ·have hb:W.kind=4:=by simpa using hb
   rw[if_pos hb,if_pos hb]at c;exact c _ _ ⟨so,sc,rfl,h⟩
 clear h;have BR:Tp aa (if W.kind=4 then G else G.tick W.id) x a t:=by split<;>exact⟨hp.len,hp.a,hp.t⟩
 rintro v w ⟨so,sc,hv,h⟩;rw[←hv]at hk;clear hv;generalize (if W.kind=4 then G else G.tick W.id)=G1 at hk h BR
 generalize hi:[i0,i1,i2,i3,i4]=i at hk h h5;have b:(di t.f i W.kind v).1.length=19:=by rw[qb,hf]
 refine bP (fun(x2:Addr×(Int×Bool)) w=> ∃g2,x2=(⟨g2,0,none⟩,(di t.f i W.kind v).2.1,(di t.f i W.kind v).2.2)∧St w0 w (au g2 (ints (di t.f i W.kind v).1)::au gc (ints i)::TL l aa gw G1 W R sp st sw q x a t so sc)) (λJ c=> ?_) ?_
 ·subst hi;with_reducible repeat' (first|refine bc ?_|refine cH h λw h=> ?_|refine Iy h ?_|refine QT h ?_|refine Vh h ?_|refine aM h λgx w h=> ?_|refine nP h ?_|refine sR h ?_|refine y8 ?_ ?_|fail)
  ·refine afw (t:=t) (i:=[i0,i1,i2,i3,i4]) h hf h5 λw h=> ?_;with_reducible repeat' (first|refine aM h λgx w h=> ?_|refine nP h ?_|refine sR h ?_|fail)
   refine afu h rfl b λw h=>c _ _ ⟨_,rfl,h⟩
  ·refine afw (t:=t) (i:=[i0,i1,i2,i3,i4]) h hf h5 λw h=>afu h rfl b λw h=>c _ _ ⟨_,rfl,h⟩
 clear h;rintro _ w ⟨g2,rfl,h⟩;dsimp only;refine anS h b ?_;refine cX ?_;refine AN h b λw h=> ?_;have h:=(h.rm 0 rfl).rm 0 rfl;simp only[I7]at h;unfold aG;refine dZ λw h=> ?_;have h:qR w0 w l aa gw (G1.lZ.set x {t with f:=(di t.f i W.kind v).1}) (W.go .next) R:=bn (q:={q with pJ:=mt gw .next}) (by exact{hq with cT:=rfl}) (vH ⟨BR.len,BR.a,BR.t⟩ h)
 refine ax (λhb=> ?_) λhb=> ?_
 ·have hb:(di t.f i W.kind v).2.2=true:=hb;rw[if_pos hb]at hk;refine abf h hs (uO (kB.1 BR.t).1) ?_;unfold ends;rw[auR];exact hk
 ·have hb:(di t.f i W.kind v).2.2=false:=hb;rw[if_neg (by rw[hb];simp)]at hk
  exact hk _ h
end
end Go.Proofs.YthidhjhkmjjckaaGreatDoor
