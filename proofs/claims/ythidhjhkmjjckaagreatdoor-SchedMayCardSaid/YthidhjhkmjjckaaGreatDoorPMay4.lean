/-
  Parts of the proof of LMay: printed by a program out of longer texts.
-/
import Derived.Test.YthidhjhkmjjckaaGreatDoorPMay3
set_option linter.unusedSimpArgs false
set_option linter.unusedVariables false
set_option maxRecDepth 100000
open List renaming getElem?_eq_some_iff→kJ,getElem?_eq_getElem→j4,getD_eq_getElem?_getD→nI,getElem?_append_left→sZ,getElem?_append_right→uI,getElem?_set_ne→rK,getElem?_set_self→uu,mem_of_getElem?→q6,getElem?_map→pz,eraseIdx→Iw,insertIdx_succ_cons→azV,insertIdx_zero→azW,replicate→dM,mem_append→y7,length_append→tV,all_eq_true→xz
open Go.Sem renaming run_pure→cK,run_bind→cL
open Go.Result renaming andThen_ok→cF
open Bool renaming or_eq_false_iff→kx,and_eq_true→iZ
open Option renaming isNone→eL
open Go.IntKind renaming wrap→aG
open Int renaming toNat_natCast→kR
open Array renaming setIfInBounds→eM,getElem?_eq_some_iff→AL
open Nat renaming le_refl→iv
open Go.Addr renaming add→aY
namespace Go.Ev
open Go Go.RowKit
section
variable {P:Program} {w0 w:World} {L:List HP} {sz:Nat} {s:Sl} {vs:List Value} {f:HP→List HP}
def isStr(P:Program)(t:TypeId):Bool:=match P.underlying t with|some (.struct _)=>true|_=>false
theorem aj8{t:TypeId}(h:isStr P t=true):∃fs,P.underlying t=some (.struct fs):=by
 unfold isStr at h;split at h
 ·exact⟨_,by assumption⟩
 ·cases h
theorem aj9{c:KT []→Prop}(h:c ()):HM [] (.tuple #[]) c:=h
theorem av8{x:Array Value}{b:Bool}{c:KT [.ag,.b]→Prop}(h:c (x,b)):HM [.ag,.b] (.tuple #[.agg x,.bool b]) c:=h
theorem azD{t xt:TypeId}{v:Value}{c:Value→aq}(hu:isStr P t=true)(hc:c (.tuple #[v,.bool true]) w):tyA P (.iface t v) xt t true w c:=by
 unfold tyA;obtain⟨fs,hu⟩:=aj8 hu;have hr:(Instr.typeAssert (.iface t v) xt t true).run P w= .ok (.tuple #[v,.bool true]) w:=by
  simp[Instr.typeAssert,run_underlying hu]
 rw[hr];exact hc
theorem asf{i:Int}{x:Array Value}{c:aq}(h:St w0 w L)[a:At L (bP sz s) vs f](hsz:0<sz)(h0:0≤i)(h1:i<s.n)(hx:x.size=sz)(hone:∀v∈x,v.oneCell'=true)
  (hc:∀w',St w0 w' (f (bP sz s (vs.take (i.toNat*sz)++(x.toList++vs.drop (i.toNat*sz+sz)))))→c w'):cZ s i sz λa=>dZ sz w a x c:=by
 have ho:qf sz w s vs:=h.own;have hi:i.toNat<s.n:=ah;have hlt:i.toNat*sz+sz≤s.n*sz:=by
  rw[←Nat.succ_mul];exact Nat.mul_le_mul_right _ hi
 have axS:s.n*sz≤s.c*sz:=Nat.mul_le_mul_right _ ho.cap;have hvl:=ho.len;rcases ho.row with⟨h2,h3⟩|⟨g,off,cs,h2,h3,h4,h5⟩
 ·have:=ho.cap;omega
 ·unfold cZ;rw[h2];refine⟨⟨h0,h1⟩,?_⟩;rw[cY];refine ae0 h3 hx ah hone λw' cs' k1 k2 k3 k4 k5 k6=>hc w' (h.Mr a λF1 hF=>⟨k5.mono λk _ hk=>(hF.1 k).2 (by simp[Sl.ax,h2,hk]),F1,⟨hF.1,?_⟩,λk hk=> .inl hk⟩)
  have qL:x.toList.length=sz:=by simpa using hx
  refine⟨by simp only[tV,List.length_take,List.length_drop,qL];omega,ho.cap,ho.max,λv hv=> ?_,.inr ⟨g,off,cs',h2,k1,ah,λk u hk=> ?_⟩⟩
  ·rcases y7.1 hv with hv|hv
   ·exact ho.one v (List.mem_of_mem_take hv)
   ·rcases y7.1 hv with hv|hv
    ·exact hone v (by simpa using hv)
    ·exact ho.one v (List.mem_of_mem_drop hv)
  ·by_cases q1:k<i.toNat*sz
   ·rw[sZ (by simp;omega),List.getElem?_take_of_lt q1]at hk
    rw[k3 _ ah];exact h5 k u hk
   ·rw[uI (by simp;omega)]at hk
    simp only[List.length_take]at hk;rw[show k - min (i.toNat*sz) vs.length=k - i.toNat*sz by omega]at hk
    by_cases q2:k<i.toNat*sz+sz
    ·rw[sZ ah]at hk;have:=k4 (k - i.toNat*sz) ah;rw[show off+i.toNat*sz+(k - i.toNat*sz)=off+k by omega]at this
     rw[this];simpa using hk
    ·rw[uI ah,List.getElem?_drop,qL]at hk;rw[show i.toNat*sz+sz+(k - i.toNat*sz - sz)=k by omega]at hk
     rw[k3 _ ah];exact h5 k u hk
theorem ash{i:Int}{c:Array Value→Prop}(h:St w0 w L)[a:At L (bP sz s) vs f](hsz:0<sz)(h0:0≤i)(h1:i<s.n)
  (hc:c ((vs.drop (i.toNat*sz)).take sz).toArray):cZ s i sz λa=>bD sz w a c:=by
 refine Kf h hsz h0 h1 λg o _ hr _=> ?_;have hlen:=h.FU (sz:=sz) (s:=s) (vs:=vs);have hlt:i.toNat*sz+sz≤s.n*sz:=by
  rw[←Nat.succ_mul];exact Nat.mul_le_mul_right _ ah
 have hl:((vs.drop (i.toNat*sz)).take sz).length=sz:=by simp;omega
 refine GO hl (λj v hv=> ?_) hc;have hj:j<sz:=by have:=(kJ.1 hv).1;omega
 rw[List.getElem?_take_of_lt hj,List.getElem?_drop]at hv;rw[cY];exact hr h j v hj hv
end
theorem azE{P:Program}{t:TypeId}(h:R9 P t=some (1,8,some (.int .i64 0))):GM P t 1 8 (.int .i64 0):=⟨h,rfl⟩
theorem At.aCh{α:Type}{L:List HP}{k:α→HP}{x:α}{f:HP→List HP}(a:At L k x f):∃R,(∀{w0 w},St w0 w L→St w0 w (k x::R))∧(∀{X w0 w},St w0 w (X::R)→St w0 w (f X))∧∀{X Y w0 w},St w0 w (X::Y::R)→St w0 w (Y::f X):=by
 obtain⟨R,h1,h2⟩:=a.split;refine⟨R,fun⟨a,F,b,c⟩=>⟨a,F,h1 b,c⟩,fun⟨a,F,b,c⟩=>⟨a,F,h2 b,c⟩,λh=> ?_⟩;obtain⟨e,F,⟨F1,F2,k1,k2,k3,k4⟩,c⟩:=h.swap;exact⟨e,F,⟨F1,F2,k1,h2 k2,k3,k4⟩,c⟩
def afT(P:Program)(t:TypeId)(name:String):Option (Bool×Option (FuncId×Bool)):=match P.info? t with
 |some i=>match i.methods.find? λm=>m.name==name with
  |some m=>some (m.path.isEmpty,m.func)
  |none=>none
 |none=>none
theorem abK{P:Program}{t:TypeId}{name:String}{r:Option (FuncId×Bool)}(h:afT P t name=some (true,r)):∃i m,P.info? t=some i∧(i.methods.find? λm=>m.name==name)=some m∧m.path=#[]∧m.func=r:=by
 unfold afT at h;split at h
 ·rename_i i hi;split at h
  ·rename_i m hm;simp only[Option.some.injEq,Prod.mk.injEq]at h;exact⟨i,m,hi,hm,by simpa using h.1,h.2⟩
  ·cases h
 ·cases h
end Go.Ev
namespace Go.Proofs.YthidhjhkmjjckaaGreatDoor.Ko
open Go Go.Ev Go.Proofs
def fl:DL→List Value
 |[]=>[]
 |x::d=> .int .i64 x.1:: .int .i64 x.2::fl d
theorem amg:∀d:DL,(fl d).length=d.length*2
 |[]=>rfl
 |x::d=>by simp[fl,amg d];omega
theorem amh:∀(d e:DL),fl (d++e)=fl d++fl e
 |[],e=>rfl
 |x::d,e=>by simp[fl,amh d e]
theorem ahL:∀(d:DL) (m:Nat),(fl d).take (m*2)=fl (d.take m)
 |[],m=>by simp[fl]
 |x::d,0=>by simp[fl]
 |x::d,m+1=>by
  rw[show(m+1)*2=m*2+1+1 by omega]
  simp[fl,ahL d m]
theorem abL{x:Int×Int}{d:DL}{k:Nat}:gd (x::d) (k+1)=gd d k:=by simp[gd]
theorem ahM:∀{d:DL} {i:Nat},i<d.length→(fl d)[i*2+0]?=some (.int .i64 (gd d i).1)
 |x::d,0,_=>rfl
 |x::d,i+1,h=>by
  rw[show(i+1)*2+0=(i*2+0)+1+1 by omega,abL]
  simp only[fl,List.getElem?_cons_succ];exact ahM (by simpa using h)
theorem ahN:∀{d:DL} {i:Nat},i<d.length→(fl d)[i*2+1]?=some (.int .i64 (gd d i).2)
 |x::d,0,_=>rfl
 |x::d,i+1,h=>by
  rw[show(i+1)*2+1=(i*2+1)+1+1 by omega,abL]
  simp only[fl,List.getElem?_cons_succ];exact ahN (by simpa using h)
theorem ahO:∀{d:DL} {i:Nat},i<d.length→((fl d).drop (i*2)).take 2=[.int .i64 (gd d i).1,.int .i64 (gd d i).2]
 |x::d,0,_=>rfl
 |x::d,i+1,h=>by
  rw[show(i+1)*2=i*2+1+1 by omega,abL]
  simp only[fl,List.drop_succ_cons];exact ahO (by simpa using h)
theorem ami{x:Int×Int}:∀{d:DL} {i:Nat},i<d.length→(fl d).take (i*2)++([.int .i64 x.1,.int .i64 x.2] ++(fl d).drop (i*2+2))=fl (d.set i x)
 |y::d,0,_=>by simp[fl]
 |y::d,i+1,h=>by
  rw[show(i+1)*2=i*2+1+1 by omega,show i*2+1+1+2=(i*2+2)+1+1 by omega]
  simp only[fl,List.take_succ_cons,List.drop_succ_cons,List.cons_append,List.set_cons_succ];rw[←ami (d:=d) (by simpa using h)]
  rfl
section
variable {w0 w:World} {L:List HP} {s:Sl} {d:DL} {f:HP→List HP}
theorem St.WW(h:St w0 w L)[a:At L (bP 2 s) (fl d) f]:s.n=d.length:=by
 have:=h.FU (sz:=2) (s:=s) (vs:=fl d);rw[amg]at this;omega
theorem WX{i:Int}{c:Int→Prop}(h:St w0 w L)[a:At L (bP 2 s) (fl d) f](h0:0≤i)(h1:i<d.length)(hc:c (gd d i.toNat).1):cZ s i 2 λa=>aN .i64 w (aY a 0) c:=by
 have hn:=St.WW (s:=s) (d:=d) h;refine Kf h ah h0 ah λg o _ hr _=> ?_;exact uH (hr h 0 _ ah (ahM ah)) hc
theorem afU{i:Int}{c:Int→Prop}(h:St w0 w L)[a:At L (bP 2 s) (fl d) f](h0:0≤i)(h1:i<d.length)(hc:c (gd d i.toNat).2):cZ s i 2 λa=>aN .i64 w (aY a 1) c:=by
 have hn:=St.WW (s:=s) (d:=d) h;refine Kf h ah h0 ah λg o _ hr _=> ?_;rw[cY];exact uH (hr h 1 _ ah (ahN ah)) hc
theorem Z1{i:Int}{c:Array Value→Prop}(h:St w0 w L)[a:At L (bP 2 s) (fl d) f](h0:0≤i)(h1:i<d.length)(hc:c #[.int .i64 (gd d i.toNat).1,.int .i64 (gd d i.toNat).2]):cZ s i 2 λa=>bD 2 w a c:=by
 have hn:=St.WW (s:=s) (d:=d) h;refine ash h ah h0 ah ?_;rw[ahO ah];exact hc
theorem amj{i:Int}{x y:Int}{c:aq}(h:St w0 w L)[a:At L (bP 2 s) (fl d) f](h0:0≤i)(h1:i<d.length)(hc:∀w',St w0 w' (f (bP 2 s (fl (d.set i.toNat (x,y)))))→c w'):cZ s i 2 λa=>dZ 2 w a #[.int .i64 x,.int .i64 y] c:=by
 have hn:=St.WW (s:=s) (d:=d) h;refine asf h ah h0 ah rfl (by intro v hv;simp at hv;rcases hv with rfl|rfl<;>rfl) λw' h'=>hc w' ?_
 rw[←ami ah];exact h'
theorem av9{i j:Int}{c:Bool→aq}(h:St w0 w L)[a:At L (bP 2 s) (fl d) f](hi:0≤i∧i<d.length)(hj:0≤j∧j<d.length)(hc:∀w',St w0 w' L→c (decide (rC (gd d i.toNat) (gd d j.toNat))) w'):dL s i j w c:=by
 unfold dL;refine aF h λw1 h=> ?_;refine WX (d:=d) h hi.1 hi.2 ?_;refine WX (d:=d) h hj.1 hj.2 ?_;refine ay (λhb=> ?_) λhb=> ?_
 ·have hb:=of_decide_eq_true hb;have e:rC (gd d i.toNat) (gd d j.toNat):= .inl hb;have:=hc w1 h;rwa[decide_eq_true e]at this
 ·have hb:=of_decide_eq_false hb;refine WX (d:=d) h hi.1 hi.2 ?_;refine WX (d:=d) h hj.1 hj.2 ?_;refine ay (λjL=> ?_) λjL=> ?_
  ·have jL:(gd d i.toNat).1=(gd d j.toNat).1:=by simpa using jL
   refine afU (d:=d) h hi.1 hi.2 ?_;refine afU (d:=d) h hj.1 hj.2 ?_;have:=hc w1 h;have e:decide (rC (gd d i.toNat) (gd d j.toNat))=decide ((gd d i.toNat).2<(gd d j.toNat).2):=by
    rw[decide_eq_decide];unfold rC;omega
   rwa[e]at this
  ·have jL:(gd d i.toNat).1≠(gd d j.toNat).1:=by simpa using jL
   have:=hc w1 h;have e:¬rC (gd d i.toNat) (gd d j.toNat):=by unfold rC;omega
   rwa[decide_eq_false e]at this
end
section
variable {w0 w:World} {R:List HP} {s:Sl} {d:DL}
theorem awa{i j:Int}{B:HP}{c:Unit→aq}(h:St w0 w (B::bP 2 s (fl d)::R))(hi:0≤i∧i<d.length)(hj:0≤j∧j<d.length)(hc:∀w',St w0 w' (B::bP 2 s (fl (KR d i.toNat j.toNat))::R)→c () w'):bB s i j w c:=by
 unfold bB;refine aF h λw1 h=> ?_;refine Z1 (d:=d) h hj.1 hj.2 ?_;refine Z1 (d:=d) h hi.1 hi.2 ?_;refine amj (d:=d) h hi.1 hi.2 λw2 h=> ?_;refine amj (d:=d.set i.toNat (gd d j.toNat)) h hj.1 (by simpa using hj.2) λw3 h=> ?_
 exact hc w3 h
abbrev pv(g:Nat):Value:= .iface 261 (.pointer (some ⟨g,1,none⟩))
abbrev uv(now:Int)(gm:Nat)(s:Sl):List Value:=[.int .i64 now,.slice s.a s.n s.c,.map (some gm)]
variable {g gm:Nat} {now:Int} {bX:eb}
theorem ahP:Tryz.prog.types.size≠0:=λh=>by
 have e:Nat.beq Tryz.prog.types.size 0=false:=by kernel_rfl
 rw[h]at e;cases e
theorem abM{name:String}{f:Nat}{args:Array Value}{c:Value→aq}(hm:afT Tryz.prog 261 name=some (true,some (f,false)))(h:St w0 w (ax g (uv now gm s)::R))(hc:bX (.func f) (#[.slice s.a s.n s.c] ++args) w c):pF bX Tryz.prog (pv g) name args w c:=by
 obtain⟨i,m,h1,h2,h3,h4⟩:=abK hm;have hcell:w.cell? ⟨g,1,none⟩=some (.slice s.a s.n s.c):=by
  have hb:=h.ax (g:=g) (cs:=uv now gm s);rw[hb.cell];rfl
 exact ar9 (e:=209) (e2:=259) h1 h2 h3 h4 be be be ahP hcell hc
theorem ahQ{name:String}{f:Nat}{args:Array Value}{c:Value→aq}(hm:afT Tryz.prog 261 name=some (true,some (f,true)))(hc:bX (.func f) (#[.pointer (some ⟨g,1,none⟩)] ++args) w c):pF bX Tryz.prog (pv g) name args w c:=by
 obtain⟨i,m,h1,h2,h3,h4⟩:=abK hm;exact ar8 (e:=209) h1 h2 h3 h4 be ahP hc
theorem aka{i j:Int}{c:Value→aq}(ho:∀args w c,bX (.func k7) args w c=WA args.toList w c)(h:St w0 w (ax g (uv now gm s)::bP 2 s (fl d)::R))(hi:0≤i∧i<d.length)(hj:0≤j∧j<d.length)
  (hc:∀w',St w0 w' (ax g (uv now gm s)::bP 2 s (fl d)::R)→c (.bool (decide (rC (gd d i.toNat) (gd d j.toNat)))) w'):pF bX Tryz.prog (pv g) "Less" #[.int .i64 i,.int .i64 j] w c:=by
 refine abM (f:=k7) (by kernel_rfl) h ?_
 rw[ho,show(#[Value.slice s.a s.n s.c] ++ #[Value.int IntKind.i64 i,Value.int IntKind.i64 j]).toList=[.slice s.a s.n s.c,.int .i64 i,.int .i64 j] by simp]
 show dL s i j w (fun r w=>c (eV (dB [.b] r)) w);exact av9 (d:=d) h hi hj hc
theorem afV{i j:Int}{c:Value→aq}(ho:∀args w c,bX (.func dx) args w c=WB args.toList w c)(h:St w0 w (ax g (uv now gm s)::bP 2 s (fl d)::R))(hi:0≤i∧i<d.length)(hj:0≤j∧j<d.length)
  (hc:∀w',St w0 w' (ax g (uv now gm s)::bP 2 s (fl (KR d i.toNat j.toNat))::R)→c (.tuple #[]) w'):pF bX Tryz.prog (pv g) "Swap" #[.int .i64 i,.int .i64 j] w c:=by
 refine abM (f:=dx) (by kernel_rfl) h ?_
 rw[ho,show(#[Value.slice s.a s.n s.c] ++ #[Value.int IntKind.i64 i,Value.int IntKind.i64 j]).toList=[.slice s.a s.n s.c,.int .i64 i,.int .i64 j] by simp]
 show bB s i j w (fun r w=>c (eV (dB [] r)) w);exact awa (d:=d) h hi hj hc
theorem asi{c:Value→aq}(ho:∀args w c,bX (.func fI) args w c=XX args.toList w c)(h:St w0 w (ax g (uv now gm s)::bP 2 s (fl d)::R))
  (hc:c (.int .i64 (d.length:Int)) w):pF bX Tryz.prog (pv g) "Len" #[] w c:=by
 refine abM (f:=fI) (by kernel_rfl) h ?_
 rw[ho];show c (.int .i64 (s.n:Int)) w;rw[St.WW (s:=s) (d:=d) h];exact hc
end
end Go.Proofs.YthidhjhkmjjckaaGreatDoor.Ko
namespace Go.Ev
open Go Go.RowKit
theorem anT{w:World}{g sz:Nat}{l:List Value}{n:Nat}(hb:pG w g l.toArray)(hn:l.length=n*sz)(c:Nat):GK sz w ⟨some ⟨g,0,none⟩,n,c⟩ l:=
 ⟨hn,λi v hv=>⟨_,rfl,by rw[cY,hb.cell];simpa using hv⟩⟩
end Go.Ev
namespace Go.Proofs.YthidhjhkmjjckaaGreatDoor.Ko
open Go Go.Ev Go.Proofs
structure Rl (d d':DL) (n:Nat):Prop where
 perm:d'.Perm d
 same:∀k,n≤k→gd d' k=gd d k
theorem Rl.refl(d:DL)(n:Nat):Rl d d n:=⟨.refl _,λ_ _=>rfl⟩
theorem Rl.trans{a b c:DL}{n:Nat}(h:Rl a b n)(k:Rl b c n):Rl a c n:=⟨k.perm.trans h.perm,λi hi=>(k.same i hi).trans (h.same i hi)⟩
theorem Rl.len{a b:DL}{n:Nat}(h:Rl a b n):b.length=a.length:=h.perm.length_eq
theorem Rl.KR{d:DL}{n i j:Nat}(hi:i<n)(hj:j<n)(hn:n≤d.length):Rl d (KR d i j) n:=
 ⟨Ye ah ah,λk hk=>by rw[Sh ah ah,if_neg ah,if_neg ah]⟩
theorem awb{j:Nat}(h:j≤2000000):Vm .i64 (aG .i64 ((j:Int) - 1)) 2=((qZ j:Nat):Int):=by
 unfold Vm qZ;rw[cT (x:=(j:Int) - 1) ⟨ah,ah⟩];by_cases h0:j=0
 ·subst h0;rfl
 ·have e:(((j:Int) - 1).tdiv 2)=(((j - 1) / 2:Nat):Int):=by
   rw[show(j:Int) - 1=((j - 1:Nat):Int) by omega];rfl
  rw[e,cT ⟨ah,ah⟩]
theorem U6{k i:Nat}(h1:1≤k)(h:qZ k=i):k=2*i+1∨k=2*i+2:=by unfold qZ at h;omega
theorem awc(i:Nat):qZ (2*i+1)=i:=by unfold qZ;omega
theorem awd(i:Nat):qZ (2*i+2)=i:=by unfold qZ;omega
section
variable {w0 w:World} {R:List HP} {s:Sl} {d:DL} {g gm:Nat} {now:Int}
theorem aya{j n:Nat}{c:Unit→aq}(h:St w0 w (ax g (uv now gm s)::bP 2 s (fl d)::R))(hu:HU d n j)(hn:n≤d.length)(hj:j<n)(hl:d.length≤2000000)
  (hc:∀d' w',Rl d d' n→HH d' n→St w0 w' (ax g (uv now gm s)::bP 2 s (fl d')::R)→c () w'):cw (pv g) (j:Int) w c:=by
 unfold cw zZ;refine og (fun(i:Int) w'=> ∃(jn:Nat) (d':DL),i=(jn:Int)∧jn<n∧Rl d d' n∧HU d' n jn∧St w0 w' (ax g (uv now gm s)::bP 2 s (fl d')::R)) (λi _=>i.toNat) ⟨j,d,rfl,hj,.refl _ _,hu,h⟩ ?_;rintro _ w1 ⟨i,d1,rfl,hi,hr,hU,h1⟩ C hC;have hlen:=hr.len;rw[awb ah];refine bS (λb w'=>b=decide (i=0∨¬rC (gd d1 i) (gd d1 (qZ i)))∧St w0 w' (ax g (uv now gm s)::bP 2 s (fl d1)::R)) (λJ hJ=> ?_) ?_
 ·refine ay (λhb=> ?_) λhb=> ?_
  ·have hb:((qZ i:Nat):Int)=i:=by simpa using hb
   refine hJ _ _ ⟨(decide_eq_true (.inl ?_)).symm,h1⟩;unfold qZ at hb;omega
  ·have hb:((qZ i:Nat):Int)≠i:=by simpa using hb
   have Xt:1≤i:=by unfold qZ at hb;omega
   have hp:=tN Xt;refine aka (d:=d1) (λ_ _ _=>rfl) h1 ⟨ah,ah⟩ ⟨ah,ah⟩ λw2 h2=> ?_;simp only[kR];refine hJ _ _ ⟨?_,h2⟩;rw[Bool.eq_iff_iff];simp only[Bool.not_eq_true',decide_eq_false_iff_not,decide_eq_true_eq];constructor
   ·exact .inr
   ·rintro(q|q)
    ·omega
    ·exact q
 ·rintro _ w2 ⟨rfl,h2⟩;refine ay (λhb=> ?_) λhb=> ?_
  ·exact hc d1 w2 hr (amd hU (of_decide_eq_true hb)) h2
  ·have hb:=of_decide_eq_false hb;have Xt:1≤i:=by
    rcases Nat.eq_zero_or_pos i with q|q
    ·exact(hb (.inl q)).elim
    ·exact q
   have hlt:rC (gd d1 i) (gd d1 (qZ i)):=Decidable.not_not.1 λq=>hb (.inr q);have hp:=tN Xt;refine afV (d:=d1) (λ_ _ _=>rfl) h2 ⟨ah,ah⟩ ⟨ah,ah⟩ λw3 h3=> ?_;simp only[kR]at h3;exact hC _ _ ⟨qZ i,_,rfl,ah,hr.trans (.KR ah ah ah),asb hU ah Xt ah hlt,h3⟩ (by simpa using hp)
theorem amk{i0 n:Nat}{c:Bool→aq}(h:St w0 w (ax g (uv now gm s)::bP 2 s (fl d)::R))(hu:HD d n i0 i0)(hn:n≤d.length)(hj:i0≤n)(hl:d.length≤2000000)
  (hc:∀b d' w',Rl d d' n→(b=true→HH d' n)→(b=false→HU d' n i0)→St w0 w' (ax g (uv now gm s)::bP 2 s (fl d')::R)→c b w'):bT (pv g) (i0:Int) (n:Int) w c:=by
 unfold bT wD;refine og (fun(i:Int) w'=> ∃(jn:Nat) (d':DL),i=(jn:Int)∧jn≤n∧i0≤jn∧Rl d d' n∧HD d' n i0 jn∧St w0 w' (ax g (uv now gm s)::bP 2 s (fl d')::R)) (λi _=>n - i.toNat) ⟨i0,d,rfl,hj,iv _,.refl _ _,hu,h⟩ ?_;rintro _ w1 ⟨i,d1,rfl,hi,Xt,hr,hD,h1⟩ C hC;have hlen:=hr.len;have e1:aG .i64 (aG .i64 (2*(i:Int))+1)=((2*i+1:Nat):Int):=by
  rw[cT (x:=2*(i:Int)) ⟨ah,ah⟩,cT ⟨ah,ah⟩];omega
 have e2:aG .i64 (((2*i+1:Nat):Int)+1)=((2*i+2:Nat):Int):=by
  rw[cT ⟨ah,ah⟩];omega
 rw[e1,e2];have fin:∀w2 (d2:DL),d2=d1→(∀k,1≤k→k<n→qZ k=i→¬rC (gd d1 k) (gd d1 i))→St w0 w2 (ax g (uv now gm s)::bP 2 s (fl d1)::R)→c (decide ((i:Int)>(i0:Int))) w2:=by
  intro w2 _ _ hk h2;have hE:=av7 hD hk;refine hc _ d1 w2 hr (λhb=>hE.1 ?_) (λhb=>hE.2 ?_) h2
  ·have:=of_decide_eq_true hb;omega
  ·have:=of_decide_eq_false hb;omega
 refine ay (λhb=> ?_) λhb=> ?_
 ·have hb:((2*i+1:Nat):Int)≥n:=by
   rcases Bool.or_eq_true_iff.1 hb with q|q
   ·exact of_decide_eq_true q
   ·have:=of_decide_eq_true q;omega
  refine fin w1 d1 rfl (λk k1 kn kp=> ?_) h1;rcases U6 k1 kp with q|q<;>omega
 ·have hb:2*i+1<n:=by
   have:=of_decide_eq_false (kx.1 hb).1;omega
  refine bS (λb w'=>b=decide (2*i+2<n∧rC (gd d1 (2*i+2)) (gd d1 (2*i+1)))∧St w0 w' (ax g (uv now gm s)::bP 2 s (fl d1)::R)) (λJ hJ=> ?_) ?_
  ·refine ay (λjL=> ?_) λjL=> ?_
   ·have jL:=of_decide_eq_true jL;refine aka (d:=d1) (λ_ _ _=>rfl) h1 ⟨ah,ah⟩ ⟨ah,ah⟩ λw2 h2=> ?_;simp only[kR];refine hJ _ _ ⟨?_,h2⟩;rw[decide_eq_decide];exact⟨λq=>⟨ah,q⟩,λq=>q.2⟩
   ·have jL:=of_decide_eq_false jL;refine hJ _ _ ⟨(decide_eq_false λq=> ?_).symm,h1⟩;omega
  ·rintro b w2 ⟨hbe,h2⟩;refine bS (fun(x:Int) w'=>w'=w2∧∃jn:Nat,x=(jn:Int)∧jn<n∧1≤jn∧qZ jn=i∧∀k,1≤k→k<n→qZ k=i→¬rC (gd d1 k) (gd d1 jn)) (λJ hJ=> ?_) ?_
   ·refine ay (λsx=> ?_) λsx=> ?_
    ·rw[hbe]at sx;have sx:=of_decide_eq_true sx;refine hJ _ _ ⟨rfl,2*i+2,rfl,sx.1,ah,awd i,λk k1 kn kp=> ?_⟩;rcases U6 k1 kp with rfl|rfl
     ·exact U5 sx.2
     ·exact abI _
    ·rw[hbe]at sx;have sx:=of_decide_eq_false sx;refine hJ _ _ ⟨rfl,2*i+1,rfl,hb,ah,awc i,λk k1 kn kp=> ?_⟩;rcases U6 k1 kp with rfl|rfl
     ·exact abI _
     ·exact λq=>sx ⟨kn,q⟩
   ·rintro _ _ ⟨rfl,jn,rfl,hjn,hj1,hjp,hmin⟩;refine aka (d:=d1) (λ_ _ _=>rfl) h2 ⟨ah,ah⟩ ⟨ah,ah⟩ λw3 h3=> ?_;simp only[kR];show ap (!decide (rC (gd d1 jn) (gd d1 i))) _ _;refine ay (λIT=> ?_) λIT=> ?_
    ·have IT:¬rC (gd d1 jn) (gd d1 i):=by simpa using IT
     exact fin w3 d1 rfl (λk k1 kn kp=>NM (hmin k k1 kn kp) IT) h3
    ·have IT:rC (gd d1 jn) (gd d1 i):=by simpa using IT
     have hpj:=tN hj1;rw[hjp]at hpj;refine afV (d:=d1) (λ_ _ _=>rfl) h3 ⟨ah,ah⟩ ⟨ah,ah⟩ λw4 h4=> ?_;simp only[kR]at h4;exact hC _ _ ⟨jn,_,rfl,ah,ah,hr.trans (.KR ah ah ah),asc hD ah Xt hj1 hjn hjp hmin IT,h4⟩ (by simp only[kR];omega)
theorem elD:GM Tryz.prog 209 2 16 (.agg #[.int .i64 0,.int .i64 0]):=⟨be,rfl⟩
theorem asj{x:Int×Int}{L:List HP}{f:HP→List HP}{c:Sl→aq}(h:St w0 w L)[a:At L (bP 2 s) (fl d) f](hn:d.length≤2000000){gx:Nat}{cs:List Value}{f2:HP→List HP}[a2:At L (ax gx) cs f2](hcs:cs=[.int .i64 x.1,.int .i64 x.2])(hc:∀s' w',St w0 w' (f (bP 2 s' (fl (d++[x]))))→c s' w'):
  qd Tryz.prog #[209,209] 209 [(.slice s.a s.n s.c),(.slice (some ⟨gx,0,none⟩) 1 1)] w c:=by
 have hl:=St.WW (s:=s) (d:=d) h;subst hcs;refine Sa (s:=s) (vs:=fl d) (x:=⟨some ⟨gx,0,none⟩,1,1⟩) (ys:=[.int .i64 x.1,.int .i64 x.2]) h elD be (anT (n:=1) (l:=[.int .i64 x.1,.int .i64 x.2]) (h.ax (g:=gx)) rfl 1) (by simp[Value.oneCell']) (by simp only;omega) (by simp only;omega) λs2 w3 h n2=> ?_
 refine hc s2 w3 ?_;rw[amh];exact h
theorem asm{x:Int×Int}{c:Unit→aq}(h:St w0 w (ax g (uv now gm s)::bP 2 s (fl d)::R))(hn:d.length≤2000000)
  (hc:∀s' w',St w0 w' (ax g (uv now gm s')::bP 2 s' (fl (d++[x]))::R)→c () w'):j3 (some ⟨g,1,none⟩) (.iface 259 (.agg #[.int .i64 x.1,.int .i64 x.2])) w c:=by
 unfold j3;refine azD be (av8 ?_);refine av h λga w2 h=> ?_;refine m8 (g:=ga) (n:=2) h rfl rfl (by intro v hv;simp at hv;rcases hv with rfl|rfl<;>rfl) λw3 h=> ?_
 refine bO rfl ?_;refine aF h λw4 h=> ?_;refine an ?_;refine ea (g:=g) (o:=1) h rfl ?_;refine jZ (g:=ga) (n:=2) h rfl ?_;refine qK #[.int .i64 x.1,.int .i64 x.2] rfl rfl ?_;refine av h λgb w5 h=> ?_;refine Bu (g:=g) (o:=1) (cs:=(uv now gm s).toArray) (St.ax (g:=g) (by assumption)) (h.ax (g:=g)) ?_
 refine asj (x:=x) (s:=s) (d:=d) (gx:=gb) h hn rfl λs' w6 h=> ?_;refine an ?_;refine jY (g:=g) (o:=1) h rfl bc λw7 h=> ?_;refine hc s' w7 ?_;have h:St w0 w7 (ax gb _::ax ga _::ax g (uv now gm s')::bP 2 s' (fl (d++[x]))::R):=h;exact h.drop.drop
theorem asn{n:Nat}(hn:n+1=d.length):d=d.take n++[gd d n]:=by
 have hlt:n<d.length:=ah;have e:gd d n=d[n]:=by unfold gd;rw[nI,j4 hlt];rfl
 rw[e,List.take_append_getElem hlt,List.take_of_length_le ah]
theorem awf{n:Nat}{c:Value→aq}(h:St w0 w (ax g (uv now gm s)::bP 2 s (fl d)::R))(hl:d.length≤2000000)(hn:n+1=d.length)
  (hc:∀v s' w',St w0 w' (ax g (uv now gm s')::bP 2 s' (fl (d.take n))::R)→c v w'):dz (some ⟨g,1,none⟩) w c:=by
 have xg:=St.WW (s:=s) (d:=d) h;have e1:aG .i64 (((s.n:Nat):Int) - 1)=((n:Nat):Int):=by
  rw[cT ⟨ah,ah⟩];omega
 unfold dz;refine an (ea (g:=g) (o:=1) h rfl ?_);refine an (ea (g:=g) (o:=1) h rfl ?_);dsimp only;rw[e1];refine Z1 (d:=d) h ah ah ?_;refine av h λga w2 h=> ?_;refine m8 (g:=ga) (n:=2) h rfl rfl (by intro v hv;simp at hv;rcases hv with rfl|rfl<;>rfl) λw3 h=> ?_
 refine an (ea (g:=g) (o:=1) h rfl ?_);refine ajm (s:=s) (vs:=fl d) h ah ah ah λs' n' h=> ?_;refine an ?_;refine jY (g:=g) (o:=1) h rfl bc λw4 h=> ?_;refine jZ (g:=ga) (n:=2) h rfl ?_;refine hc _ s' w4 ?_;have e2:((fl d).drop ((0:Int).toNat*2)).take ((((n:Nat):Int).toNat - (0:Int).toNat)*2)=fl (d.take n):=by
  simp only[kR,Int.toNat_zero,Nat.zero_mul,List.drop_zero,Nat.sub_zero];exact ahL d n
 rw[e2]at h;exact h.drop
theorem azF{bX:eb}{x:Int×Int}{c:Value→aq}(ho:∀args w c,bX (.func rf) args w c=WC args.toList w c)(h:St w0 w (ax g (uv now gm s)::bP 2 s (fl d)::R))(hn:d.length≤2000000)
  (hc:∀s' w',St w0 w' (ax g (uv now gm s')::bP 2 s' (fl (d++[x]))::R)→c (.tuple #[]) w'):pF bX Tryz.prog (pv g) "Push" #[.iface 259 (.agg #[.int .i64 x.1,.int .i64 x.2])] w c:=by
 refine ahQ (f:=rf) (by kernel_rfl) ?_
 rw[ho,show(#[Value.pointer (some ⟨g,1,none⟩)] ++ #[Value.iface 259 (.agg #[.int .i64 x.1,.int .i64 x.2])]).toList=[.pointer (some ⟨g,1,none⟩),.iface 259 (.agg #[.int .i64 x.1,.int .i64 x.2])] by simp]
 show j3 (some ⟨g,1,none⟩) (.iface 259 (.agg #[.int .i64 x.1,.int .i64 x.2])) w (fun r w=>c (eV (dB [] r)) w);exact asm h hn hc
theorem aso{bX:eb}{n:Nat}{c:Value→aq}(ho:∀args w c,bX (.func iC) args w c=LD args.toList w c)(h:St w0 w (ax g (uv now gm s)::bP 2 s (fl d)::R))(hl:d.length≤2000000)(hn:n+1=d.length)
  (hc:∀v s' w',St w0 w' (ax g (uv now gm s')::bP 2 s' (fl (d.take n))::R)→c v w'):pF bX Tryz.prog (pv g) "Pop" #[] w c:=by
 refine ahQ (f:=iC) (by kernel_rfl) ?_
 rw[ho,show(#[Value.pointer (some ⟨g,1,none⟩)] ++(#[]:Array Value)).toList=[Value.pointer (some ⟨g,1,none⟩)] by simp]
 show dz (some ⟨g,1,none⟩) w (fun r w=>c (eV (dB [.raw] r)) w);exact awf h hl hn fun v s' w' h=>hc v s' w' h
theorem asp{x:Int×Int}{c:Unit→aq}(h:St w0 w (ax g (uv now gm s)::bP 2 s (fl d)::R))(hn:d.length≤1000000)(hh:HH d d.length)
  (hc:∀d' s' w',d'.Perm (d++[x])→HH d' d'.length→St w0 w' (ax g (uv now gm s')::bP 2 s' (fl d')::R)→c () w'):jt (pv g) (.iface 259 (.agg #[.int .i64 x.1,.int .i64 x.2])) w c:=by
 unfold jt wC;refine azF (x:=x) (λ_ _ _=>rfl) h ah λs1 w1 h=> ?_;refine asi (d:=d++[x]) (λ_ _ _=>rfl) h ?_;have el:(d++[x]).length=d.length+1:=by simp
 have e1:aG .i64 (((d++[x]).length:Int) - 1)=((d.length:Nat):Int):=by
  rw[cT ⟨ah,ah⟩];omega
 show cw _ (aG .i64 (((d++[x]).length:Int) - 1)) w1 (λu w=>c () w);rw[e1];refine aya (d:=d++[x]) (n:=d.length+1) h (ase hh) ah ah ah λd' w' hr hh' h=> ?_;exact hc d' s1 w' hr.perm (by rw[hr.len,el];exact hh') h
theorem Rl.head{d d':DL}{n:Nat}(h:Rl d d' n)(hn:n+1=d.length):(gd d n::d'.take n).Perm d:=by
 have hl:=h.len;have e:=asn (d:=d') (n:=n) ah;have:=h.perm;rw[e,h.same n (iv _)]at this;refine .trans ?_ this;exact(List.perm_append_comm (l₁:=[gd d n]) (l₂:=d'.take n))
theorem awg{c:Value→aq}(h:St w0 w (ax g (uv now gm s)::bP 2 s (fl d)::R))(hl:d.length≤1000000)(h0:1≤d.length)(hh:HH d d.length)
  (hc:∀v d' s' w',(gd d 0::d').Perm d→HH d' d'.length→St w0 w' (ax g (uv now gm s')::bP 2 s' (fl d')::R)→c v w'):jT (pv g) w c:=by
 obtain⟨n,hn⟩:∃n,n+1=d.length:=⟨d.length - 1,ah⟩;unfold jT yG;refine asi (d:=d) (λ_ _ _=>rfl) h ?_;have e1:aG .i64 ((d.length:Int) - 1)=((n:Nat):Int):=by
  rw[cT ⟨ah,ah⟩];omega
 refine Io ?_;rw[e1];refine afV (d:=d) (λ_ _ _=>rfl) h ⟨ah,ah⟩ ⟨ah,ah⟩ λw1 h=> ?_;simp only[kR,Int.toNat_zero]at h;have hsl:=ahI d 0 n;have hD:HD (KR d 0 n) n 0 0:=by
  rcases Nat.eq_zero_or_pos n with q|q
  ·subst q;exact⟨λk k1 kn=>by omega,λk k1 kn=>by omega⟩
  ·exact amf hh hn q
 refine aj9 ?_;refine amk (i0:=0) (n:=n) h hD ah ah ah λb d' w2 hr ht hf h=> ?_;have hH:HH d' n:=by
  cases b
  ·exact amd (hf rfl) (.inl rfl)
  ·exact ht rfl
 have hlen:=hr.len;refine aso (d:=d') (n:=n) (λ_ _ _=>rfl) h ah ah λv s' w3 h=> ?_;refine hc v _ s' w3 ?_ (abJ hH ah) h;have:=hr.head ah;rw[Sh ah ah,if_pos rfl]at this;exact this.trans (Ye ah ah)
theorem awh{i:Nat}{c:Value→aq}(h:St w0 w (ax g (uv now gm s)::bP 2 s (fl d)::R))(hl:d.length≤1000000)(h0:i<d.length)(hh:HH d d.length)
  (hc:∀v d' s' w',(gd d i::d').Perm d→HH d' d'.length→St w0 w' (ax g (uv now gm s')::bP 2 s' (fl d')::R)→c v w'):ir (pv g) (i:Int) w c:=by
 obtain⟨n,hn⟩:∃n,n+1=d.length:=⟨d.length - 1,by omega⟩
 unfold ir ug;refine asi (d:=d) (fun _ _ _=>rfl) h ?_;have e1:IntKind.wrap .i64 ((d.length:Int) - 1)=((n:Nat):Int):=by
  rw[cT ⟨by omega,by omega⟩];omega
 refine Io ?_;rw[e1];refine ay (fun hb=> ?_) fun hb=> ?_
 ·have hb:(n:Int)≠i:=by simpa using hb
  have hsl:=ahI d i n;refine afV (d:=d) (fun _ _ _=>rfl) h ⟨by omega,by omega⟩ ⟨by omega,by omega⟩ fun w1 h=> ?_
  simp only[Int.toNat_natCast]at h;have fin:∀{d' w2} {c:Value→aq} {bX:eb},(∀args w c,bX (.func iC) args w c=LD args.toList w c)→(∀v d' s' w',(gd d i::d').Perm d→HH d' d'.length→St w0 w' (ax g (uv now gm s')::bP 2 s' (fl d')::R)→c v w')→Rl (KR d i n) d' n→HH d' n→St w0 w2 (ax g (uv now gm s)::bP 2 s (fl d')::R)→pF bX Tryz.prog (pv g) "Pop" #[] w2 c:=by
   intro d' w2 c bX ho hc hr hH h;have hlen:=hr.len;refine aso (d:=d') (n:=n) ho h (by omega) (by omega) fun v s' w3 h=> ?_
   refine hc v _ s' w3 ?_ (abJ hH (by omega)) h
   have:=hr.head (by omega)
   rw[Sh (by omega) (by omega),if_pos rfl]at this
   exact this.trans (Ye (by omega) (by omega))
  refine aj9 ?_;refine amk (i0:=i) (n:=n) h (amf hh hn (by omega)) (by omega) (by omega) (by omega) fun b d' w2 hr ht hf h=> ?_
  have hlen:=hr.len;cases b
  ·refine bO rfl ?_;refine aya (d:=d') (n:=n) h (hf rfl) (by omega) (by omega) (by omega) fun d2 w3 hr2 hh2 h=> ?_
   exact fin (fun _ _ _=>rfl) hc (hr.trans hr2) hh2 h
  ·refine bh rfl ?_;exact fin (fun _ _ _=>rfl) hc hr (ht rfl) h
 ·have hb:(n:Int)=i:=by simpa using hb
  have:n=i:=by omega
  subst this;refine aso (d:=d) (n:=n) (fun _ _ _=>rfl) h (by omega) hn fun v s' w3 h=> ?_
  refine hc v _ s' w3 ((Rl.refl d n).head hn) (abJ (fun k k1 kn=>hh k k1 (by omega)) (by omega)) h
theorem azG{x:Int×Int}{c:Int→aq}(h:St w0 w (ax g (uv now gm s)::bP 2 s (fl d)::R))(hl:d.length≤1000000)(hx:x∈d)
  (hc:∀(i:Nat) w',i<d.length→gd d i=x→St w0 w' (ax g (uv now gm s)::bP 2 s (fl d)::R)→c (i:Int) w'):cz s #[.int .i64 x.1,.int .i64 x.2] w c:=by
 have xg:=St.WW (s:=s) (d:=d) h;obtain⟨m,hm,Vz⟩:=List.getElem_of_mem hx;have hmg:gd d m=x:=by unfold gd;rw[nI,j4 hm];exact Vz
 unfold cz;refine av h λga w1 h=> ?_;refine og (fun(i:Int) w'=> ∃j:Nat,i=(j:Int)∧j≤m∧St w0 w' (ax ga [.int .i64 x.1,.int .i64 x.2]::ax g (uv now gm s)::bP 2 s (fl d)::R)) (λi _=>m - i.toNat) ⟨0,rfl,ah,h⟩ ?_;rintro _ w2 ⟨j,rfl,hj,h⟩ C hC;refine bO (decide_eq_true ah) ?_;refine aF h λw3 h=> ?_;refine jZ (g:=ga) (n:=2) h rfl ?_;refine Z1 (d:=d) h ah ah ?_;refine ajg (n:=2) (xs:=[x.1,x.2]) (ys:=[(gd d (j:Int).toNat).1,(gd d (j:Int).toNat).2]) rfl rfl ?_;refine ay (λhb=> ?_) λhb=> ?_
 ·have hb:=of_decide_eq_true hb;simp only[kR,List.cons.injEq,and_true]at hb;exact hc j w3 ah (by rw[Prod.ext_iff];exact⟨hb.1.symm,hb.2.symm⟩) h.drop
 ·have hb:=of_decide_eq_false hb;simp only[kR,List.cons.injEq,and_true]at hb;have hne:j≠m:=by rintro rfl;exact hb (by rw[hmg];exact⟨rfl,rfl⟩)
  have e:aG .i64 ((j:Int)+1)=((j+1:Nat):Int):=by
   rw[cT ⟨ah,ah⟩];omega
  rw[e];exact hC _ _ ⟨j+1,rfl,ah,h⟩ (by simp only[kR];omega)
end
abbrev MT:Int:=1099511627776
def sw(x:Int×Int):Int×Int:=(x.2,x.1)
def has(S:DL)(id:Int):Bool:=S.any λx=>x.2==id
theorem WY{S:DL}{id:Int}:has S id=true↔∃x∈S,x.2=id:=by unfold has;rw[List.any_eq_true];simp
structure CK (x:Int×DL):Prop where
 lo:0≤x.1
 hi:x.1≤MT
 ids:∀y∈x.2,0≤y.2
 due:∀y∈x.2,x.1<y.1∧y.1≤MT+MT
 srt:Srt x.2
 one:(x.2.map (·.2)).Nodup
def CM(x:Int×DL)(id n:Int):Int×DL:=
 if id<0∨n<1∨n>MT then(10,x.2)else if has x.2 id=true then(18,x.2)else(0,ins (x.1+n,id) x.2)
def D6(S:DL)(id:Int):DL:=S.filter λy=>decide (y.2≠id)
def abN(S:DL)(t:Int):DL:=S.filter λy=>decide (y.1≤t)
def NN(S:DL)(t:Int):DL:=S.filter λy=>decide (¬y.1≤t)
def RC(now n:Int):Bool:=decide (0≤n∧n≤MT - now)
def ids(S:DL):List Int:=S.map (·.2)
theorem abO{x y:Int×Int}{S:DL}:y∈ins x S↔y=x∨y∈S:=by
 rw[(Ib x S).mem_iff,List.mem_cons]
theorem ad5{S:DL}{id:Int}(h:¬has S id=true):∀y∈S,y.2≠id:=λy hy q=>h (WY.2 ⟨y,hy,q⟩)
theorem CK.set{x:Int×DL}(h:CK x)(id n:Int):CK (x.1,(CM x id n).2):=by
 unfold CM;split
 ·exact h
 ·rename_i h1;split
  ·exact h
  ·rename_i h2;have h3:=ad5 h2;have hlo:=h.lo;have hhi:=h.hi;refine⟨h.lo,h.hi,λy hy=> ?_,λy hy=> ?_,ahK h.srt λq=>h3 _ q rfl,?_⟩
   ·rcases abO.1 hy with rfl|hy
    ·dsimp only;omega
    ·exact h.ids y hy
   ·rcases abO.1 hy with rfl|hy
    ·unfold MT at*;dsimp only at*;omega
    ·exact h.due y hy
   ·refine(((Ib (x.1+n,id) x.2).map (·.2)).nodup_iff).2 ?_;rw[List.map_cons,List.nodup_cons];refine⟨λq=> ?_,h.one⟩;obtain⟨y,hy,e⟩:=List.mem_map.1 q;exact h3 y hy e
theorem Ua{S:DL}(h:(S.map (·.2)).Nodup)(p:Int×Int→Bool):((S.filter p).map (·.2)).Nodup:=
 h.sublist (List.filter_sublist.map _)
theorem CK.drop{x:Int×DL}(h:CK x)(id:Int):CK (x.1,D6 x.2 id):=by
 unfold D6;exact⟨h.lo,h.hi,λy hy=>h.ids y (List.mem_filter.1 hy).1,λy hy=>h.due y (List.mem_filter.1 hy).1,Y5 h.srt _,Ua h.one _⟩
theorem CK.adv{x:Int×DL}(h:CK x){n:Int}(hn:RC x.1 n=true):CK (x.1+n,NN x.2 (x.1+n)):=by
 have hn:=of_decide_eq_true hn;have h1:=h.lo;have h2:=h.hi;unfold NN;refine⟨by dsimp only;omega,by dsimp only;omega,λy hy=>h.ids y (List.mem_filter.1 hy).1,λy hy=> ?_,Y5 h.srt _,Ua h.one _⟩
 have:=h.due y (List.mem_filter.1 hy).1;have h3:=(List.mem_filter.1 hy).2;simp only[decide_eq_true_eq]at h3;dsimp only;omega
def oe(g:Nat)(x:Int×DL):HP:=FV λq:{q:Sl×Nat×DL×List (Int×Int) // q.2.2.1.Perm x.2∧HH q.2.2.1 q.2.2.1.length∧q.2.2.2.Perm (x.2.map sw)}=>
 mG [ax g (uv x.1 q.1.2.1 q.1.1),bP 2 q.1.1 (fl q.1.2.2.1),mp q.1.2.1 q.1.2.2.2]
section
variable {w0 w:World} {L:List HP} {g:Nat} {now:Int} {S:DL} {f:HP→List HP}
theorem Si(h:St w0 w (oe g (now,S)::L)):∃(s:Sl) (gm:Nat) (d:DL) (l:List (Int×Int)),d.Perm S∧HH d d.length∧l.Perm (S.map sw)∧St w0 w (ax g (uv now gm s)::bP 2 s (fl d)::mp gm l::L):=by
 obtain⟨⟨⟨s,gm,d,l⟩,h1,h2,h3⟩,h⟩:=h.some;exact⟨s,gm,d,l,h1,h2,h3,h.open⟩
theorem CN{s:Sl}{gm:Nat}{d:DL}{l:List (Int×Int)}(h1:d.Perm S)(h2:HH d d.length)(h3:l.Perm (S.map sw))(h:St w0 w (ax g (uv now gm s)::bP 2 s (fl d)::mp gm l::L)):St w0 w (oe g (now,S)::L):=
 St.ex (X:=λq:{q:Sl×Nat×DL×List (Int×Int) // q.2.2.1.Perm S∧HH q.2.2.1 q.2.2.1.length∧q.2.2.2.Perm (S.map sw)}=>
  mG [ax g (uv now q.1.2.1 q.1.1),bP 2 q.1.1 (fl q.1.2.2.1),mp q.1.2.1 q.1.2.2.2]) ⟨(s,gm,d,l),h1,h2,h3⟩ (St.shut h)
theorem akb{l:List (Int×Int)}{k v:Int}(h:HI l k=some v):(k,v)∈l:=by
 unfold HI at h;cases hf:l.find? λx=>x.1==k with
 |none=>rw[hf]at h;cases h
 |some y=>
  rw[hf]at h;simp only[Option.map_some,Option.some.injEq]at h;have h1:=List.mem_of_find?_eq_some hf;have h2:=List.find?_some hf;simp only[beq_iff_eq]at h2;rw[←h,←h2];exact h1
theorem L0{l:List (Int×Int)}{k:Int}(hl:l.Perm (S.map sw)):(HI l k).isSome=has S k:=by
 rw[Bool.eq_iff_iff,WY];unfold HI;rw[Option.isSome_map,List.find?_isSome];constructor
 ·rintro⟨x,hx,e⟩;obtain⟨y,hy,rfl⟩:=List.mem_map.1 (hl.subset hx);exact⟨y,hy,by simpa[sw]using e⟩
 ·rintro⟨y,hy,e⟩;exact⟨sw y,hl.symm.subset (List.mem_map.2 ⟨y,hy,rfl⟩),by simpa[sw]using e⟩
theorem Y6{l:List (Int×Int)}(hl:l.Perm (S.map sw))(hS:(S.map (·.2)).Nodup):(l.map (·.1)).Nodup:=by
 refine((hl.map (·.1)).nodup_iff).2 ?_;rw[List.map_map];exact hS
theorem mpT:MpT Tryz.prog 207 3 2:=⟨be,be,be⟩
theorem aml{n:Int}{b:Bool}{c:KT [.i .i64,.b]→Prop}(h:c (n,b)):HM [.i .i64,.b] (.tuple #[.int .i64 n,.bool b]) c:=h
theorem afW{c:Option Addr→aq}(h:St w0 w L)(hc:∀g w',St w0 w' (oe g (0,[])::L)→c (some ⟨g,0,none⟩) w'):nZ w c:=by
 unfold nZ;refine ar7 h λgm w1 h=> ?_;refine av h λg w2 h=>hc g w2 ?_;have h:=(h.Jv 2).swap;exact CN (s:=⟨none,0,0⟩) (d:=[]) (.refl _) (λk k1 kn=>by simp at kn) (.refl _) h
theorem abP{d:DL}{x:Int×Int}(h1:d.Perm (x::S))(h2:HH d d.length)(h3:Srt (x::S)):gd d 0=x:=by
 have hlen:d.length=S.length+1:=by rw[h1.length_eq];simp
 have hmem:gd d 0∈d:=by
  unfold gd;rw[nI,j4 ah];simp
 rcases List.mem_cons.1 (h1.subset hmem)with e|e
 ·exact e
 ·have hx:x∈d:=h1.symm.subset bc;obtain⟨m,hm,Vz⟩:=List.getElem_of_mem hx;have hmg:gd d m=x:=by unfold gd;rw[nI,j4 hm];exact Vz
  have:=asd h2 m hm;rw[hmg]at this;exact absurd ((List.pairwise_cons.1 h3).1 _ e) this
def aEH(S:DL):Int×Int×Bool:=match S with|[]=>(0,0,false)|x::_=>(x.1,x.2,true)
theorem azI{id n:Int}{c:Int→aq}(hl:S.length≤100000)(hC:CK (now,S))(h:St w0 w L)[a:At L (oe g) (now,S) f](hc:∀w',St w0 w' (f (oe g (now,(CM (now,S) id n).2)))→c (CM (now,S) id n).1 w'):mq (some ⟨g,0,none⟩) id n w c:=by
 obtain⟨R,ho,hs⟩:=a.out;have h:=ho h;unfold mq Cm;refine bh rfl (ay (λhb=> ?_) λhb=> ?_)
 ·have e:CM (now,S) id n=(10,S):=by
   unfold CM;rw[if_pos];simp only[Bool.or_eq_true,decide_eq_true_eq]at hb;unfold MT;omega
  rw[e]at hc;exact hc _ (hs h)
 ·have hb:¬(id<0∨n<1∨n>MT):=by
   simp only[kx,decide_eq_false_iff_not]at hb;unfold MT;omega
  obtain⟨s,gm,d,l,h1,h2,h3,h4⟩:=Si h;refine an (aaP (g:=g) (o:=2) h4 rfl ?_);refine amb (g:=gm) (l:=l) mpT h4 (aml ?_);dsimp only;rw[L0 h3];refine ay (λjL=> ?_) λjL=> ?_
  ·have e:CM (now,S) id n=(18,S):=by unfold CM;rw[if_neg hb,if_pos jL]
   rw[e]at hc;exact hc _ (hs (CN h1 h2 h3 h4))
  ·have e:CM (now,S) id n=(0,ins (now+n,id) S):=by unfold CM;rw[if_neg hb,if_neg (by simp[jL])]
   rw[e]at hc;have hlo:=hC.lo;have hhi:=hC.hi;dsimp only at hlo hhi;have ew:aG .i64 (now+n)=now+n:=cT ⟨by unfold MT at*;omega,by unfold MT at*;omega⟩
   refine aF h4 λw1 h4=> ?_;refine an (aaP (g:=g) (o:=2) h4 rfl ?_);refine an (cn (g:=g) (o:=0) h4 rfl ?_);have hno:HI l id=none:=by
    have:=L0 (k:=id) h3;rw[jL]at this;simpa using this
   refine anQ (g:=gm) (l:=l) mpT h4 hno λw2 h4=> ?_;refine aF h4 λw3 h4=> ?_;refine an (an (cn (g:=g) (o:=0) h4 rfl ?_));rw[ew]at h4 ⊢;refine asp (x:=(now+n,id)) (d:=d) h4 (by rw[h1.length_eq];omega) h2 λd' s' w4 hp hh h5=> ?_
   refine hc w4 (hs (CN ?_ hh ?_ h5))
   ·exact(hp.trans (List.perm_append_comm (l₁:=d) (l₂:=[(now+n,id)]))).trans ((h1.cons _).trans (Ib _ _).symm)
   ·refine .trans ?_ ((Ib (now+n,id) S).map sw).symm;exact(List.perm_append_comm (l₁:=l) (l₂:=[(id,now+n)])).trans (h3.cons _)
theorem awj{id:Int}{c:Bool→aq}(hl:S.length≤100000)(hC:CK (now,S))(h:St w0 w L)[a:At L (oe g) (now,S) f](hc:∀w',St w0 w' (f (oe g (now,D6 S id)))→c (has S id) w'):lj (some ⟨g,0,none⟩) id w c:=by
 obtain⟨R,ho,hs⟩:=a.out;have h:=ho h;obtain⟨s,gm,d,l,h1,h2,h3,h4⟩:=Si h;unfold lj Bf;refine bh rfl (an (aaP (g:=g) (o:=2) h4 rfl ?_));refine amb (g:=gm) (l:=l) mpT h4 (aml ?_);dsimp only;have hone:=hC.one;dsimp only at hone;rw[L0 h3];refine ay (λjL=> ?_) λjL=> ?_
 ·refine an (aaP (g:=g) (o:=2) h4 rfl ?_);have hsome:(HI l id).isSome=true:=by rw[L0 h3];exact jL
  obtain⟨v,hv⟩:=Option.isSome_iff_exists.1 hsome;rw[hv,Option.getD_some];have hm:(v,id)∈d:=by
   obtain⟨y,hy,e⟩:=List.mem_map.1 (h3.subset (akb hv));have:y=(v,id):=by obtain⟨y1,y2⟩:=y;simp[sw]at e;simp[e]
   rw[←this];exact h1.symm.subset hy
  refine amc (g:=gm) (l:=l) mpT h4 (Y6 h3 hone) hsome λw1 h4=> ?_;refine aF h4 λw2 h4=> ?_;refine an (an (ea (g:=g) (o:=1) h4 rfl (agW ?_)));refine azG (x:=(v,id)) (d:=d) h4 (by rw[h1.length_eq];omega) hm λi w3 hi hgi h4=> ?_
  refine awh (d:=d) h4 (by rw[h1.length_eq];omega) hi h2 λ_ d' s' w4 hp hh h5=> ?_
  refine hc w4 (hs (CN ?_ hh ?_ h5))
  ·rw[hgi]at hp;have hp2:=hp.trans h1;have hnd:(((v,id)::d').map (·.2)).Nodup:=((hp2.map (·.2)).nodup_iff).2 hone;rw[List.map_cons,List.nodup_cons]at hnd;have hp3:=hp2.filter λy=>decide (y.2≠id);rw[List.filter_cons_of_neg bc]at hp3;have e:d'.filter (λy=>decide (y.2≠id))=d':=by
    rw[List.filter_eq_self];intro y hy;simp only[ne_eq,decide_eq_true_eq];exact λq=>hnd.1 (List.mem_map.2 ⟨y,hy,q⟩)
   rw[e]at hp3;exact hp3
  ·have:=h3.filter λx=>decide (x.1≠id);unfold D6;rw[List.filter_map]at this;exact this
 ·rw[jL]at hc ⊢;have e:D6 S id=S:=by
   unfold D6;rw[List.filter_eq_self];intro y hy;simp only[ne_eq,decide_eq_true_eq];exact ad5 (by simp[jL]) y hy
  rw[e]at hc;exact hc w (hs (CN h1 h2 h3 h4))
theorem awk{C T:DL}{t:Int}(h1:∀y∈C,y.1≤t)(h2:∀y∈T,¬y.1≤t):abN (C++T) t=C∧NN (C++T) t=T:=by
 unfold abN NN;have e1:C.filter (λy=>decide (y.1≤t))=C:=by rw[List.filter_eq_self];intro y hy;simpa using h1 y hy
 have e2:T.filter (λy=>decide (y.1≤t))=[]:=by rw[List.filter_eq_nil_iff];intro y hy;simpa using h2 y hy
 have e3:C.filter (λy=>decide (¬y.1≤t))=[]:=by rw[List.filter_eq_nil_iff];intro y hy;simpa using h1 y hy
 have e4:T.filter (λy=>decide (¬y.1≤t))=T:=by rw[List.filter_eq_self];intro y hy;simpa using h2 y hy
 rw[List.filter_append,List.filter_append,e1,e2,e3,e4];simp
def aCj(T:DL)(t:Int):Bool:=match T with|[]=>false|x::_=>decide (x.1≤t)
theorem azK{n:Int}{c:Sl×Int→aq}(hl:S.length≤100000)(hC:CK (now,S))(h:St w0 w L)[a:At L (oe g) (now,S) f]
  (hc:RC now n=true→∀s' w',St w0 w' (bP 1 s' (ints (ids (abN S (now+n))))::f (oe g (now+n,NN S (now+n))))→c (s',0) w')
  (hno:RC now n=false→St w0 w L→c (⟨none,0,0⟩,10) w):jw (some ⟨g,0,none⟩) n w c:=by
 obtain⟨R,ho,hs,Im⟩:=a.aCh;have h':=ho h;obtain⟨s,gm,d,l,h1,h2,h3,h4⟩:=Si h';have hlo:=hC.lo;have hhi:=hC.hi;dsimp only at hlo hhi;unfold jw wQ;refine bh rfl (bS (λb w'=>b= !RC now n∧w'=w) (λJ hJ=> ?_) ?_)
 ·refine ay (λhb=> ?_) λhb=> ?_
  ·have hb:=of_decide_eq_true hb;refine hJ _ _ ⟨?_,rfl⟩;unfold RC;rw[decide_eq_false ah];rfl
  ·have hb:=of_decide_eq_false hb;refine an (cn (g:=g) (o:=0) h4 rfl (hJ _ _ ⟨?_,rfl⟩));rw[cT ⟨by unfold MT at*;omega,by unfold MT at*;omega⟩]
   unfold RC MT;rw[Bool.eq_iff_iff];simp only[decide_eq_true_eq,Bool.not_eq_true',decide_eq_false_iff_not];omega
 rintro _ w1 ⟨rfl,rfl⟩;refine ay (λhb=> ?_) λhb=> ?_
 ·exact hno (by simpa using hb) h
 have hok:RC now n=true:=by simpa using hb
 have aFM:=of_decide_eq_true hok;refine an (cn (g:=g) (o:=0) h4 rfl (an ?_));rw[cT (x:=now+n) ⟨by unfold MT at*;omega,by unfold MT at*;omega⟩]
 refine jY (g:=g) (o:=0) h4 rfl bc λw2 h4=> ?_;have h5:St w0 w2 (oe g (now+n,S)::R):=CN (s:=s) h1 h2 h3 h4;refine og (fun(r:Sl) w'=> ∃C T,S=C++T∧(∀y∈C,y.1≤now+n)∧St w0 w' (oe g (now+n,T)::bP 1 r (ints (ids C))::R)) (λr _=>S.length - r.n) ⟨[],S,rfl,bc,((h5.Jv 1).swap:St w0 w2 (oe g (now+n,S)::bP 1 ⟨none,0,0⟩ (ints (ids []))::R))⟩ ?_;rintro r w3 ⟨C,T,rfl,hCt,h⟩ K hK;have hr:r.n=C.length:=by
  have:=h.FU (sz:=1) (s:=r) (vs:=ints (ids C));simp[ids]at this;omega
 obtain⟨s,gm,d,l,h1,h2,h3,h4⟩:=Si h;have hn:s.n=T.length:=by rw[St.WW (s:=s) (d:=d) h4,h1.length_eq]
 have hdl:=h1.length_eq;have ass:Srt T:=(List.pairwise_append.1 hC.srt).2.1;have hnd:(T.map (·.2)).Nodup:=by
  have:=hC.one;dsimp only at this;rw[List.map_append]at this;exact(List.nodup_append.1 this).2.1
 refine bS (λb w'=>b=aCj T (now+n)∧St w0 w' (ax g (uv (now+n) gm s)::bP 2 s (fl d)::mp gm l::bP 1 r (ints (ids C))::R)) (λJ hJ=> ?_) ?_
 ·refine aF h4 λw4 h4=> ?_;refine an (ea (g:=g) (o:=1) h4 rfl ?_);dsimp only;refine ay (λhb=> ?_) λhb=> ?_
  ·have hb:=of_decide_eq_true hb;cases T with
   |nil=>simp at hn;omega
   |cons x T=>
    have hg:=abP h1 h2 ass;refine an (ea (g:=g) (o:=1) h4 rfl ?_);refine WX (s:=s) (d:=d) h4 ah ah ?_;refine an (cn (g:=g) (o:=0) h4 rfl ?_);refine hJ _ _ ⟨?_,h4⟩;show decide ((gd d 0).1≤now+n)=decide (x.1≤now+n);rw[hg]
  ·have hb:=of_decide_eq_false hb;cases T with
   |nil=>exact hJ _ _ ⟨rfl,h4⟩
   |cons x T=>simp at hn;omega
 rintro _ w4 ⟨rfl,h4⟩;refine ay (λhb=> ?_) λhb=> ?_
 ·cases T with
  |nil=>cases hb
  |cons x T=>
   have hb:=of_decide_eq_true hb;have hg:=abP h1 h2 ass;simp only[tV,List.length_cons]at hl hdl;refine an (ea (g:=g) (o:=1) h4 rfl ?_);refine afU (s:=s) (d:=d) h4 ah ah ?_;have eg:(gd d (0:Int).toNat)=x:=hg;rw[eg];refine an ?_;refine awg (d:=d) h4 ah ah h2 λ_ d' s' w5 hp hh h5=> ?_;refine an (aaP (g:=g) (o:=2) h5 rfl ?_);have hsome:(HI l x.2).isSome=true:=by rw[L0 h3,WY];exact⟨x,bc,rfl⟩
   refine amc (g:=gm) (l:=l) mpT h5 (Y6 h3 hnd) hsome λw6 h5=> ?_;refine av h5 λga w7 h5=> ?_;refine Sa (s:=r) (vs:=ints (ids C)) (x:=⟨some ⟨ga,0,none⟩,1,1⟩) (ys:=[.int .i64 x.2]) h5 (azE be) be (aaH (n:=1) (l:=[.int .i64 x.2]) (h5.ax (g:=ga)) rfl 1) (by simp[Value.oneCell']) (by simp only;omega) (by simp only;omega) λs2 w8 h6 n2=> ?_
   have h7:=h6.drop;refine hK s2 w8 ⟨C++[x],T,bc,λy hy=> ?_,?_⟩ ?_
   ·rcases y7.1 hy with hy|hy
    ·exact hCt y hy
    ·simp only[List.mem_singleton]at hy;subst hy;exact hb
   ·have e:ints (ids C)++[Value.int .i64 x.2]=ints (ids (C++[x])):=by simp[ids,ints]
    rw[e]at h7;rw[hg]at hp;refine CN (d:=d') ?_ hh ?_ h7
    ·exact(hp.trans h1).cons_inv
    ·have h8:=h3.filter λy=>decide (y.1≠x.2);rw[List.map_cons,List.filter_cons_of_neg (by simp[sw])]at h8
     have e:(T.map sw).filter (λy=>decide (y.1≠x.2))=T.map sw:=by
      rw[List.filter_eq_self];intro z hz;obtain⟨y,hy,rfl⟩:=List.mem_map.1 hz;rw[List.map_cons,List.nodup_cons]at hnd;simp only[ne_eq,decide_eq_true_eq];exact λq=>hnd.1 (List.mem_map.2 ⟨y,hy,q⟩)
     rw[e]at h8;exact h8
   ·simp only[tV,List.length_cons];dsimp only at n2;omega
 ·have hT:∀y∈T,¬y.1≤now+n:=by
   cases T with
   |nil=>simp
   |cons x T=>
    have hb:=of_decide_eq_false hb;intro y hy;rcases List.mem_cons.1 hy with rfl|hy
    ·exact hb
    ·have:=(List.pairwise_cons.1 ass).1 y hy;unfold rC at this;omega
  obtain⟨e1,e2⟩:=awk hCt hT;refine hc hok r w4 (Im ?_);rw[e1,e2];exact CN h1 h2 h3 h4
end
end Go.Proofs.YthidhjhkmjjckaaGreatDoor.Ko
namespace Go.Proofs.YthidhjhkmjjckaaGreatDoor
open Go Go.Ev Go.Proofs
open Ko (oe CK)
abbrev pt(a:Nat):Value:= .pointer (some ⟨a,0,none⟩)
structure Tk where
 id:Int
 lX:Int
 own:Int
 jC:Int
 f:List Int
 gF:ByteArray
 cD:List (Int×Int)
 scopes:List Int
 kind:Int
 v:Int
abbrev frV(f:List Int):List Value:=[.int .i64 (f.getD 0 0),.int .i64 (f.getD 1 0),.int .i64 (f.getD 2 0),.int .i64 (f.getD 3 0),.int .i64 (f.getD 4 0),.int .i64 (f.getD 5 0),.int .i64 (f.getD 6 0),.int .i64 (f.getD 7 0),.int .i64 (f.getD 8 0),.int .i64 (f.getD 9 0),.int .i64 (f.getD 10 0),.int .i64 (f.getD 11 0),.int .i64 (f.getD 12 0),.int .i64 (f.getD 13 0),.int .i64 (f.getD 14 0),.int .i64 (f.getD 15 0),.int .i64 (f.getD 16 0),.int .i64 (f.getD 17 0),.int .i64 (f.getD 18 0)]
theorem amm{f:List Int}(hf:f.length=19):frV f=ints f:=by
 obtain⟨a,b,c,d,e,g,h,i,j,k,m,n,o,p,q,r,s,t,u,rfl⟩:=Fr.afN hf;rfl
theorem NO{f:List Int}(hf:f.length=19):(frV f).toArray=eU f:=by rw[amm hf]
def Tk.cells(so sc:Sl)(t:Tk):List Value:=[.int .i64 t.id,.int .i64 t.lX,.int .i64 t.own,.int .i64 t.jC,.int .i64 (t.f.getD 0 0),.int .i64 (t.f.getD 1 0),.int .i64 (t.f.getD 2 0),.int .i64 (t.f.getD 3 0),.int .i64 (t.f.getD 4 0),.int .i64 (t.f.getD 5 0),.int .i64 (t.f.getD 6 0),.int .i64 (t.f.getD 7 0),.int .i64 (t.f.getD 8 0),.int .i64 (t.f.getD 9 0),.int .i64 (t.f.getD 10 0),.int .i64 (t.f.getD 11 0),.int .i64 (t.f.getD 12 0),.int .i64 (t.f.getD 13 0),.int .i64 (t.f.getD 14 0),.int .i64 (t.f.getD 15 0),.int .i64 (t.f.getD 16 0),.int .i64 (t.f.getD 17 0),.int .i64 (t.f.getD 18 0),.string t.gF,.slice so.a so.n so.c,.slice sc.a sc.n sc.c,.int .i64 t.kind,.int .i64 t.v]
abbrev Ay(x:Int×Int):List Value:=[.int .i64 x.1,.int .i64 x.2]
def ZI(x:Nat×Tk):HP:=FV λq:Sl×Sl=>mG [ax x.1 (x.2.cells q.1 q.2),rws 2 q.1 (x.2.cD.map Ay),bP 1 q.2 (ints x.2.scopes)]
def L1(aa:List Nat)(ts:List Tk):HP:=Jw (aa.length=ts.length) (lZ ZI (aa.zip ts))
section
variable {w0 w:World} {L R:List HP} {aa:List Nat} {ts:List Tk} {t:Tk} {x a:Nat}
theorem NP(h:St w0 w (L1 aa ts::R)):aa.length=ts.length:=h.pure.1
theorem sG(h:St w0 w (L1 aa ts::R))(ha:aa[x]?=some a)(ht:ts[x]?=some t):∃so sc:Sl,St w0 w (ax a (t.cells so sc)::rws 2 so (t.cD.map Ay)::bP 1 sc (ints t.scopes)::lZ ZI ((aa.zip ts).eraseIdx x)::R):=by
 obtain⟨_,h⟩:=h.pure;have h2:St w0 w (ZI (a,t)::lZ ZI ((aa.zip ts).eraseIdx x)::R):=Iy h (by rw[List.getElem?_zip_eq_some];exact⟨ha,ht⟩)
 obtain⟨q,h⟩:=St.some h2;exact⟨q.1,q.2,h.open⟩
theorem ahR{t':Tk}{so sc:Sl}(hl:aa.length=ts.length)(ha:aa[x]?=some a)(h:St w0 w (ax a (t'.cells so sc)::rws 2 so (t'.cD.map Ay)::bP 1 sc (ints t'.scopes)::lZ ZI ((aa.zip ts).eraseIdx x)::R)):St w0 w (L1 aa (ts.set x t')::R):=by
 have hx:=(kJ.1 ha).1;have h2:St w0 w (ZI (a,t')::lZ ZI ((aa.zip ts).eraseIdx x)::R):=St.ex (X:=λq:Sl×Sl=>mG [ax a (t'.cells q.1 q.2),rws 2 q.1 (t'.cD.map Ay),bP 1 q.2 (ints t'.scopes)]) (so,sc) (St.shut h);have h3:=ZV h2 (by simp;omega)
 refine St.pur (by simpa using hl) ?_
 have e:(aa.zip ts).set x (a,t')=aa.zip (ts.set x t'):=by
  apply List.ext_getElem?;intro j;by_cases hj:x=j
  ·subst hj;rw[uu (by simp;omega)]
   symm;rw[List.getElem?_zip_eq_some];exact⟨ha,by rw[uu ah]⟩
  ·rw[rK hj,List.zip,List.getElem?_zipWith,List.getElem?_zipWith,rK hj]
 rwa[e]at h3
theorem awl{t':Tk}{g:Nat}{so sc:Sl}(hl:aa.length=ts.length)(h:St w0 w (ax g (t'.cells so sc)::rws 2 so (t'.cD.map Ay)::bP 1 sc (ints t'.scopes)::L1 aa ts::R)):St w0 w (L1 (aa++[g]) (ts++[t'])::R):=by
 have h2:St w0 w (ZI (g,t')::L1 aa ts::R):=St.ex (X:=λq:Sl×Sl=>mG [ax g (t'.cells q.1 q.2),rws 2 q.1 (t'.cD.map Ay),bP 1 q.2 (ints t'.scopes)]) (so,sc) (St.shut h);obtain⟨_,h3⟩:=h2.swap.pure;have h4:=VR h3.swap;refine St.pur (by simpa using hl) ?_
 rwa[List.zip_append hl]
end
structure Lc where
 gs:Nat
 gm:Nat
 gk:Nat
 gc:Nat
 gt:Nat
 gd:Nat
 ps:Sl
 base:Int
 spare:Int
 cells:Int
 fuel:Int
 deep:Int
 log:Int
 told:Int
 idle:Int
 sp:Sp
 wa:List Nat
abbrev Pl:=Int×Int×Int×Bool
abbrev uw(x:Pl):List Value:=[.int .i64 x.1,.int .i64 x.2.1,.int .i64 x.2.2.1,.bool x.2.2.2]
structure Gl where
 M:bK
 T:List Kt
 C:List Nd
 P:List Pl
 ts:List Tk
 time:Int×List (Int×Int)
 D:List Int
 steps:Int
 err:Int
def Lc.cs(l:Lc)(sp st sw:Sl)(steps err:Int):List Value:=[.slice l.ps.a l.ps.n l.ps.c,.int .i64 l.base,.int .i64 l.spare,.int .i64 l.cells,.int .i64 l.fuel,.int .i64 l.deep,.int .i64 l.log,pt l.gm,pt l.gk,pt l.gc,
 .slice sp.a sp.n sp.c,.slice st.a st.n st.c,.int .i64 l.told,.int .i64 l.idle,.int .i64 l.sp.at_,.int .i64 l.sp.base,.int .i64 l.sp.most,pt l.gt,pt l.gd,.slice sw.a sw.n sw.c,.int .i64 steps,.int .i64 err]
def Ub(l:Lc)(aa:List Nat)(G:Gl):HP:=FV λq:Sl×Sl×Sl=>mG [ax l.gs (l.cs q.1 q.2.1 q.2.2 G.steps G.err),bI l.gm G.M,Cr l.gk G.T,scp l.gc G.C,rws 4 q.1 (G.P.map uw),bP 1 q.2.1 (aa.map pt),bP 1 q.2.2 (l.wa.map pt),oe l.gt G.time,KO l.gd G.D,L1 aa G.ts]
section
variable {w0 w:World} {L R:List HP} {l:Lc} {aa:List Nat} {G:Gl}
theorem xw(h:St w0 w (Ub l aa G::R)):∃sp st sw:Sl,St w0 w (ax l.gs (l.cs sp st sw G.steps G.err)::bI l.gm G.M::Cr l.gk G.T::scp l.gc G.C::rws 4 sp (G.P.map uw)::bP 1 st (aa.map pt)::bP 1 sw (l.wa.map pt)::oe l.gt G.time::KO l.gd G.D::L1 aa G.ts::R):=by
 obtain⟨q,h⟩:=h.some;exact⟨q.1,q.2.1,q.2.2,h.open⟩
theorem tw{sp st sw:Sl}(h:St w0 w (ax l.gs (l.cs sp st sw G.steps G.err)::bI l.gm G.M::Cr l.gk G.T::scp l.gc G.C::rws 4 sp (G.P.map uw)::bP 1 st (aa.map pt)::bP 1 sw (l.wa.map pt)::oe l.gt G.time::KO l.gd G.D::L1 aa G.ts::R)):St w0 w (Ub l aa G::R):=
 St.ex (X:=λq:Sl×Sl×Sl=>mG [ax l.gs (l.cs q.1 q.2.1 q.2.2 G.steps G.err),bI l.gm G.M,Cr l.gk G.T,scp l.gc G.C,rws 4 q.1 (G.P.map uw),bP 1 q.2.1 (aa.map pt),bP 1 q.2.2 (l.wa.map pt),oe l.gt G.time,KO l.gd G.D,L1 aa G.ts]) (sp,st,sw) (St.shut h)
end
inductive Mt
 |rest|pn|looking|tell|others|wU|RD|IU|sU|start|next|fork|wV|sV|join|cD|opens|close|gF|cancel|pass|leave|put|fin|asks|gone|asked|joined|tO|qV|rT|register|block|HJ|stops
 |cancelled|vu|Bp|yJ|nothing|Tv|Aj
 deriving DecidableEq
def Mt.fn:Mt→Nat
 | .rest=>fZ| .pn=>kT| .looking=>kU| .tell=>ni| .others=>lK| .wU=>lM| .RD=>my| .IU=>ng
 | .sU=>lJ| .start=>mL| .next=>gu| .fork=>lA| .wV=>mM| .sV=>lO| .join=>jm| .cD=>lB| .opens=>mN
 | .close=>kM| .gF=>lN| .cancel=>j7| .pass=>lC| .leave=>iR| .put=>nX| .fin=>nY| .asks=>nj| .gone=>nk
 | .asked=>mO| .joined=>lQ| .tO=>lP| .qV=>kV| .rT=>kW| .register=>kA| .block=>mR| .HJ=>nl| .stops=>mP
 | .cancelled=>j1| .vu=>j9| .Bp=>mQ| .yJ=>qo| .nothing=>o8| .Tv=>rO| .Aj=>qq
inductive Ct
 |FA|Sj|tP|sH|wW|sI|HY|Cs|BW|qw
 deriving DecidableEq
def Ct.fn:Ct→Nat
 | .FA=>pI| .Sj=>oE| .tP=>oH| .sH=>oI| .wW=>oZ| .sI=>oG| .HY=>o7| .Cs=>j8
 | .BW=>o5| .qw=>oF
inductive Kn
 |no
 |any
 |m (f:Mt)
 |c (f:Ct)
 |nx (i:List Int)
 |aw (x:Nat)
 |sh (k:Kn)
 |U7 (x:Nat) (k:Kn)
 |Bq (x:Int) (k:Kn)
 |hl (me:Int) (t:Option Nat)
 deriving DecidableEq
abbrev mt(gw:Nat)(f:Mt):Value:= .func (.func f.fn) #[pt gw] #[]
abbrev ct(b:Nat)(f:Ct):Value:= .func (.func f.fn) #[] #[pt b]
abbrev ayb:Value:= .func (.func kz) #[] #[]
abbrev Bx:=List (Nat×List Value)
def Rp(aa:List Nat)(gw:Nat)(B:Bx):Kn→Value→Prop
 | .no,v=>v= .nilFunc
 | .any,v=>v= .func (.func kz) #[] #[]
 | .m f,v=>v= .func (.func f.fn) #[pt gw] #[]
 | .c f,v=> ∃b,(b,[pt gw])∈B∧v= .func (.func f.fn) #[] #[pt b]
 | .nx i,v=> ∃b c,(b,[pt gw])∈B∧(c,ints i)∈B∧i.length=5∧v= .func (.func pJ) #[] #[pt b,pt c]
 | .aw x,v=> ∃b c a,(b,[pt gw])∈B∧aa[x]?=some a∧(c,[pt a])∈B∧v= .func (.func eJ) #[] #[pt b,pt c]
 | .sh k,v=> ∃b c u,(b,[pt gw])∈B∧Rp aa gw B k u∧(c,[u])∈B∧v= .func (.func fG) #[] #[pt b,pt c]
 | .U7 x k,v=> ∃b c d a u,(b,[pt gw])∈B∧aa[x]?=some a∧(c,[pt a])∈B∧Rp aa gw B k u∧(d,[u])∈B∧v= .func (.func o6) #[] #[pt b,pt c,pt d]
 | .Bq x k,v=> ∃b c d u,(b,[pt gw])∈B∧(c,[.int .i64 x])∈B∧Rp aa gw B k u∧(d,[u])∈B∧v= .func (.func o9) #[] #[pt b,pt c,pt d]
 | .hl me t,v=> ∃b c d p,(b,[pt gw])∈B∧(c,[.int .i64 me])∈B∧(d,[.pointer p])∈B∧(match t with|none=>p=none|some x=> ∃a,aa[x]?=some a∧p=some ⟨a,0,none⟩)∧v= .func (.func lR) #[] #[pt b,pt c,pt d]
theorem Rp.one{aa:List Nat}{gw:Nat}{B:Bx}:∀{k:Kn} {v:Value},Rp aa gw B k v→v.oneCell'=true
 | .no,_,h=>by obtain rfl:=h;rfl
 | .any,_,h=>by obtain rfl:=h;rfl
 | .m f,_,h=>by obtain rfl:=h;rfl
 | .c f,_,h=>by obtain⟨_,_,rfl⟩:=h;rfl
 | .nx i,_,h=>by obtain⟨_,_,_,_,_,rfl⟩:=h;rfl
 | .aw x,_,h=>by obtain⟨_,_,_,_,_,_,rfl⟩:=h;rfl
 | .sh k,_,h=>by obtain⟨_,_,_,_,_,_,rfl⟩:=h;rfl
 | .U7 x k,_,h=>by obtain⟨_,_,_,_,_,_,_,_,_,_,rfl⟩:=h;rfl
 | .Bq x k,_,h=>by obtain⟨_,_,_,_,_,_,_,_,rfl⟩:=h;rfl
 | .hl me t,_,h=>by obtain⟨_,_,_,_,_,_,_,_,rfl⟩:=h;rfl
theorem Sk{aa:List Nat}{l:List Nat}{x a:Nat}(h:aa[x]?=some a):(aa++l)[x]?=some a:=by
 rw[sZ (kJ.1 h).1,h]
theorem Rp.mono{aa l:List Nat}{gw:Nat}{B B':Bx}(hB:∀p∈B,p∈B'):∀{k:Kn} {v:Value},Rp aa gw B k v→Rp (aa++l) gw B' k v
 | .no,_,h=>h
 | .any,_,h=>h
 | .m f,_,h=>h
 | .c f,_,h=>by obtain⟨b,h1,h2⟩:=h;exact⟨b,hB _ h1,h2⟩
 | .nx i,_,h=>by obtain⟨b,c,h1,h2,h3,h4⟩:=h;exact⟨b,c,hB _ h1,hB _ h2,h3,h4⟩
 | .aw x,_,h=>by obtain⟨b,c,a,h1,h2,h3,h4⟩:=h;exact⟨b,c,a,hB _ h1,Sk h2,hB _ h3,h4⟩
 | .sh k,_,h=>by obtain⟨b,c,u,h1,h2,h3,h4⟩:=h;exact⟨b,c,u,hB _ h1,Rp.mono hB h2,hB _ h3,h4⟩
 | .U7 x k,_,h=>by obtain⟨b,c,d,a,u,h1,h2,h3,h4,h5,h6⟩:=h;exact⟨b,c,d,a,u,hB _ h1,Sk h2,hB _ h3,Rp.mono hB h4,hB _ h5,h6⟩
 | .Bq x k,_,h=>by obtain⟨b,c,d,u,h1,h2,h3,h4,h5⟩:=h;exact⟨b,c,d,u,hB _ h1,hB _ h2,Rp.mono hB h3,hB _ h4,h5⟩
 | .hl me none,_,h=>by obtain⟨b,c,d,p,h1,h2,h3,h4,h5⟩:=h;exact⟨b,c,d,p,hB _ h1,hB _ h2,hB _ h3,h4,h5⟩
 | .hl me (some x),_,h=>by obtain⟨b,c,d,p,h1,h2,h3,⟨a,h4,h6⟩,h5⟩:=h;exact⟨b,c,d,p,hB _ h1,hB _ h2,hB _ h3,⟨a,Sk h4,h6⟩,h5⟩
theorem Rp.box{aa:List Nat}{gw:Nat}{B B':Bx}(hB:∀p∈B,p∈B'){k:Kn}{v:Value}(h:Rp aa gw B k v):Rp aa gw B' k v:=by
 have:=Rp.mono (l:=[]) hB h;rwa[List.append_nil]at this
def fz(B:Bx):HP:=lZ (λp:Nat×List Value=>ax p.1 p.2) B
section
variable {w0 w:World} {L R:List HP} {B:Bx} {f:HP→List HP} {g:Nat}
theorem Z2{cs:List Value}(h:St w0 w L)[a:At L fz B f](hm:(g,cs)∈B):∃R,St w0 w (ax g cs::R):=by
 obtain⟨R,ho,_⟩:=a.out;obtain⟨i,hi⟩:=List.mem_iff_getElem?.1 hm;exact⟨_,Iy (X:=λp:Nat×List Value=>ax p.1 p.2) (ho h) hi⟩
theorem Eo{x:Option Addr}{c:Option Addr→Prop}(h:St w0 w L)[a:At L fz B f](hm:(g,[.pointer x])∈B)(hc:c x):aR w ⟨g,0,none⟩ c:=by
 obtain⟨R,h2⟩:=Z2 h hm;exact B5 h2 rfl hc
theorem fzI{x:Int}{c:Int→Prop}(h:St w0 w L)[a:At L fz B f](hm:(g,[.int .i64 x])∈B)(hc:c x):aN .i64 w ⟨g,0,none⟩ c:=by
 obtain⟨R,h2⟩:=Z2 h hm;exact cn h2 rfl hc
theorem fzV{x:Value}{c:Value→Prop}(h:St w0 w L)[a:At L fz B f](hm:(g,[x])∈B)(hc:c x):sX w ⟨g,0,none⟩ c:=by
 obtain⟨R,h2⟩:=Z2 h hm;exact Iq h2 rfl hc
theorem fzW{cs:List Value}{n:Nat}{c:Array Value→Prop}(h:St w0 w L)[a:At L fz B f](hm:(g,cs)∈B)(hn:cs.length=n)(hc:c cs.toArray):bD n w ⟨g,0,none⟩ c:=by
 obtain⟨R,h2⟩:=Z2 h hm;subst hn;exact jZ h2 rfl hc
theorem awm{cs:List Value}(h:St w0 w (ax g cs::fz B::R)):St w0 w (fz (B++[(g,cs)])::R):=VR (X:=λp:Nat×List Value=>ax p.1 p.2) (b:=(g,cs)) h
theorem ast(h:St w0 w R):St w0 w (fz []::R):=VS h
end
structure Wk where
 id:Int
 dq:Int
 wait:Wt
 stack:List Nat
 back:List Kn
 cM:Kn
 op:Option bp
 after:Kn
 look:Option Lk
 seen:Kn
 step:Option jI
 left:List Int
 late:Bool
 fits:Kn
 got:Kn
 none_:Kn
 jk:Int
 home:Kn
 target:Option Nat
 kind:Int
 bH:Bool
 blocked:Bool
 again:Kn
 po:Kn
 mark:Int
 dA:Kn
 own:Int
 said:Kn
 bits:Int
 pT:Kn
structure Wq where
 gwt:Nat
 ss:Sl
 rV:List Value
 sb:Sl
 y3:List Value
 px:Value
 go:Nat
 JT:Value
 gl:Nat
 akc:Value
 gp:Nat
 sl:Sl
 Yf:Value
 ahS:Value
 Yg:Value
 KS:Value
 On:Option Addr
 yU:Value
 L2:Value
 Ic:Value
 Yh:Value
 afX:Value
 B:Bx
def poi{α:Type}(g:Nat)(o:Option α):Value:= .pointer (o.map λ_=>⟨g,0,none⟩)
def Wk.cs(l:Lc)(q:Wq)(W:Wk):List Value:=[pt l.gs,.int .i64 W.id,.int .i64 W.dq,.int .i64 l.log,pt q.gwt,.slice q.ss.a q.ss.n q.ss.c,.slice q.sb.a q.sb.n q.sb.c,q.px,poi q.go W.op,q.JT,poi q.gl W.look,q.akc,poi q.gp W.step,.slice q.sl.a q.sl.n q.sl.c,.bool W.late,q.Yf,q.ahS,q.Yg,.int .i64 W.jk,q.KS,.pointer q.On,.int .i64 W.kind,.bool W.bH,.bool W.blocked,q.yU,q.L2,.int .i64 W.mark,q.Ic,.int .i64 W.own,q.Yh,.int .i64 W.bits,q.afX]
inductive Oo {α β:Type} (P:α→β→Prop):List α→List β→Prop
 |nil:Oo P [] []
 |cons {a:α} {b:β} {l:List α} {m:List β}:P a b→Oo P l m→Oo P (a::l) (b::m)
theorem Oo.imp'{α β:Type}{P Q:α→β→Prop}(hPQ:∀a b,P a b→Q a b){l:List α}{m:List β}(h:Oo P l m):Oo Q l m:=by
 induction h with
 |nil=>exact .nil
 |cons h1 _ ih=>exact .cons (hPQ _ _ h1) ih
theorem Oo.len{α β:Type}{P:α→β→Prop}{l:List α}{m:List β}(h:Oo P l m):l.length=m.length:=by
 induction h with
 |nil=>rfl
 |cons _ _ ih=>simp[ih]
def Pts(aa:List Nat)(x:Nat)(v:Value):Prop:=∃a,aa[x]?=some a∧v=pt a
structure Wq.Ok (aa:List Nat) (gw:Nat) (W:Wk) (q:Wq):Prop where
 rV:Oo (Pts aa) W.stack q.rV
 y3:Oo (Rp aa gw q.B) W.back q.y3
 cM:Rp aa gw q.B W.cM q.px
 after:Rp aa gw q.B W.after q.JT
 seen:Rp aa gw q.B W.seen q.akc
 fits:Rp aa gw q.B W.fits q.Yf
 got:Rp aa gw q.B W.got q.ahS
 none_:Rp aa gw q.B W.none_ q.Yg
 home:Rp aa gw q.B W.home q.KS
 target:match W.target with|none=>q.On=none|some x=> ∃a,aa[x]?=some a∧q.On=some ⟨a,0,none⟩
 again:Rp aa gw q.B W.again q.yU
 po:Rp aa gw q.B W.po q.L2
 dA:Rp aa gw q.B W.dA q.Ic
 said:Rp aa gw q.B W.said q.Yh
 pT:Rp aa gw q.B W.pT q.afX
def mX{α:Type}(X:α→HP):Option α→HP
 |none=>mG []
 |some a=>X a
def qx(l:Lc)(aa:List Nat)(x:Nat×Wk):HP:=FV λq:Wq=>Jw (q.Ok aa x.1 x.2) (mG [ax x.1 (x.2.cs l q),ax q.gwt (x.2.wait.cells l.told),bP 1 q.ss q.rV.reverse,bP 1 q.sb q.y3.reverse,bP 1 q.sl (ints x.2.left),mX (uq q.go) x.2.op,mX (λk:Lk=>ax q.gl (k.cells l.gc)) x.2.look,mX (λo:jI=>ax q.gp (o.cells l.sp q.gp)) x.2.step,fz q.B])
section
variable {w0 w:World} {L R:List HP} {l:Lc} {aa:List Nat} {gw:Nat} {W:Wk} {q:Wq}
theorem abQ(h:St w0 w (qx l aa (gw,W)::R)):∃q:Wq,q.Ok aa gw W∧St w0 w (ax gw (W.cs l q)::ax q.gwt (W.wait.cells l.told)::bP 1 q.ss q.rV.reverse::bP 1 q.sb q.y3.reverse::bP 1 q.sl (ints W.left)::mX (uq q.go) W.op::mX (λk:Lk=>ax q.gl (k.cells l.gc)) W.look::mX (λo:jI=>ax q.gp (o.cells l.sp q.gp)) W.step::fz q.B::R):=by
 obtain⟨q,h⟩:=h.some;obtain⟨hp,h⟩:=h.pure;exact⟨q,hp,h.open⟩
theorem ahT(hq:q.Ok aa gw W)(h:St w0 w (ax gw (W.cs l q)::ax q.gwt (W.wait.cells l.told)::bP 1 q.ss q.rV.reverse::bP 1 q.sb q.y3.reverse::bP 1 q.sl (ints W.left)::mX (uq q.go) W.op::mX (λk:Lk=>ax q.gl (k.cells l.gc)) W.look::mX (λo:jI=>ax q.gp (o.cells l.sp q.gp)) W.step::fz q.B::R)):St w0 w (qx l aa (gw,W)::R):=
 St.ex (X:=λq:Wq=>Jw (q.Ok aa gw W) (mG [ax gw (W.cs l q),ax q.gwt (W.wait.cells l.told),bP 1 q.ss q.rV.reverse,bP 1 q.sb q.y3.reverse,bP 1 q.sl (ints W.left),mX (uq q.go) W.op,mX (λk:Lk=>ax q.gl (k.cells l.gc)) W.look,mX (λo:jI=>ax q.gp (o.cells l.sp q.gp)) W.step,fz q.B])) q (St.pur hq (St.shut h))
theorem Wq.Ok.box{B':Bx}(h:q.Ok aa gw W)(hB:∀p∈q.B,p∈B'):Wq.Ok aa gw W {q with B:=B'}:=
 ⟨h.rV,h.y3.imp' λ_ _=>Rp.box hB,h.cM.box hB,h.after.box hB,h.seen.box hB,h.fits.box hB,h.got.box hB,h.none_.box hB,h.home.box hB,h.target,h.again.box hB,h.po.box hB,h.dA.box hB,h.said.box hB,h.pT.box hB⟩
theorem Wq.Ok.qG{m:List Nat}(h:q.Ok aa gw W):Wq.Ok (aa++m) gw W q:=
 ⟨h.rV.imp' λ_ _ ⟨a,h1,h2⟩=>⟨a,Sk h1,h2⟩,h.y3.imp' λ_ _=>Rp.mono λ_ h=>h,h.cM.mono λ_ h=>h,h.after.mono λ_ h=>h,h.seen.mono λ_ h=>h,h.fits.mono λ_ h=>h,h.got.mono λ_ h=>h,h.none_.mono λ_ h=>h,h.home.mono λ_ h=>h,
  by have:=h.target;cases ht:W.target with
   |none=>rw[ht]at this;exact this
   |some x=>rw[ht]at this;obtain⟨a,h1,h2⟩:=this;exact⟨a,Sk h1,h2⟩,
  h.again.mono λ_ h=>h,h.po.mono λ_ h=>h,h.dA.mono λ_ h=>h,h.said.mono λ_ h=>h,h.pT.mono λ_ h=>h⟩
theorem JU{g:Nat}{cs:List Value}(hq:q.Ok aa gw W):Wq.Ok aa gw W {q with B:=q.B++[(g,cs)]}:=hq.box λp h=>List.mem_append_left _ h
end
end Go.Proofs.YthidhjhkmjjckaaGreatDoor
namespace Go.Ev
open Go Go.RowKit
structure dH where
 aX:Int
 sl:Sl
 code:List (List Int)
structure Yi (P:Program) (ti tc tf ts tp tn:TypeId):Prop where
 i:∃fs,P.underlying ti=some (.struct fs)
 azN:Xu P 4 ti=true
 ic:P.cellsOf ti=5
 ib:P.bytesOf ti=40
 c:P.underlying tc=some (.slice ti)
 f:∃f0 f1:Field,P.underlying tf=some (.struct #[f0,f1])∧f0.type=tn∧f0.offset=0∧f1.type=tc∧f1.offset=1
 n:P.underlying tn=some (.int .i64)
 nc:P.cellsOf tn=1
 cc:P.cellsOf tc=1
 fc:P.cellsOf tf=2
 fb:P.bytesOf tf=32
 s:P.underlying ts=some (.slice tf)
 sc:P.cellsOf ts=1
 p:∃f0:Field,P.underlying tp=some (.struct #[f0])∧f0.type=ts∧f0.offset=0
 pc:P.cellsOf tp=1
section
variable {P:Program} {w:World} {ti tc tf ts tp tn:TypeId}
structure tr (w:World) (s:Sl) (l:List (List Int)):Prop where
 rws:Uq 5 w s (l.map Go.Ev.ints)
 Gw:∀i∈l,i.length=5∧∀y∈i,uJ y
 ZJ:l.length*40≤reachBytes
theorem tr.len{s:Sl}{l:List (List Int)}(h:tr w s l):s.n=l.length:=by have:=h.rws.len;simp at this;omega
theorem tr.ext{w':World}{s:Sl}{l:List (List Int)}(h:tr w s l)(he:Ext w w'):tr w' s l:=⟨h.rws.ext he,h.Gw,h.ZJ⟩
theorem Ej.code(T:Yi P ti tc tf ts tp tn){cs:List Value}(h:Ej P w tc cs):∃(s:Sl) (l:List (List Int)),cs=[.slice s.a s.n s.c]∧tr w s l:=by
 obtain⟨s,es,rfl,hr,hb,h1,h2,n9⟩:=h.slice T.c;obtain⟨fs,Yd⟩:=T.i;obtain⟨l,rfl,hl⟩:=FT (f:=Go.Ev.ints) (G:=λi:List Int=>i.length=5∧∀y∈i,uJ y) (es:=es) λe he=>by
  obtain⟨xs,hx,hI⟩:=FT ((n9 e he).flat T.azN);refine⟨xs,hx,?_,hI⟩;have:=(n9 e he).len (.inr ⟨fs,Yd⟩);rw[hx,T.ic]at this;simpa using this
 rw[T.ic]at hr;refine⟨s,l,rfl,hr,hl,?_⟩;rw[T.ib]at hb;simpa using hb
def dH.cells(x:dH):List Value:=[.int .i64 x.aX,.slice x.sl.a x.sl.n x.sl.c]
structure iN (w:World) (s:Sl) (l:List dH):Prop where
 rws:Uq 2 w s (l.map dH.cells)
 code:∀x∈l,uJ x.aX∧tr w x.sl x.code
 ZJ:l.length*32≤reachBytes
theorem iN.len{s:Sl}{l:List dH}(h:iN w s l):s.n=l.length:=by have:=h.rws.len;simp at this;omega
theorem iN.ext{w':World}{s:Sl}{l:List dH}(h:iN w s l)(he:Ext w w'):iN w' s l:=⟨h.rws.ext he,λx hx=>⟨(h.code x hx).1,(h.code x hx).2.ext he⟩,h.ZJ⟩
theorem Ej.func(T:Yi P ti tc tf ts tp tn){cs:List Value}(h:Ej P w tf cs):∃x:dH,cs=x.cells∧uJ x.aX∧tr w x.sl x.code:=by
 obtain⟨f0,f1,hf,e1,e2,e3,e4⟩:=T.f;obtain⟨hl,n9⟩:=h.struct hf;have h0:=n9 0 f0 bc;have h1:=n9 1 f1 bc;rw[e1,e2,T.nc]at h0;rw[e3,e4,T.cc]at h1;obtain⟨n,hn,hI⟩:=h0.int T.n;obtain⟨s,l,hs,hc⟩:=h1.code T;refine⟨⟨n,s,l⟩,?_,hI,hc⟩;have hlen:cs.length=2:=by rw[hl,T.fc]
 match cs,hlen with
 |[a,b],_=>simp at hn hs;simp[dH.cells,hn,hs]
theorem Ej.funcs(T:Yi P ti tc tf ts tp tn){cs:List Value}(h:Ej P w ts cs):∃(s:Sl) (l:List dH),cs=[.slice s.a s.n s.c]∧iN w s l:=by
 obtain⟨s,es,rfl,hr,hb,h1,h2,n9⟩:=h.slice T.s;obtain⟨l,rfl,hl⟩:=FT (f:=dH.cells) (G:=λx=>uJ x.aX∧tr w x.sl x.code) (es:=es) λe he=>(n9 e he).func T;rw[T.fc]at hr;rw[T.fb]at hb;exact⟨s,l,rfl,hr,hl,by simpa using hb⟩
theorem Ej.program(T:Yi P ti tc tf ts tp tn){cs:List Value}(h:Ej P w tp cs):∃(s:Sl) (l:List dH),cs=[.slice s.a s.n s.c]∧iN w s l:=by
 obtain⟨f0,hf,e1,e2⟩:=T.p;obtain⟨hl,n9⟩:=h.struct hf;have h0:=n9 0 f0 bc;rw[e1,e2,T.sc]at h0;have hlen:cs.length=1:=by rw[hl,T.pc]
 match cs,hlen with
 |[a],_=>exact Ej.funcs T (by simpa using h0)
theorem Arg.program(T:Yi P ti tc tf ts tp tn){v:Value}(h:Arg P w tp v):∃(s:Sl) (l:List dH),v= .agg #[.slice s.a s.n s.c]∧iN w s l:=by
 obtain⟨f0,hf,e1,e2⟩:=T.p;obtain⟨cs,rfl,hr⟩:=h.agg (.inr ⟨_,hf⟩);obtain⟨s,l,hcs,hF⟩:=hr.program T;refine⟨s,l,?_,hF⟩;congr 1;exact Array.ext' hcs
end
end Go.Ev
namespace Go.Proofs.YthidhjhkmjjckaaGreatDoor.Ck
open Go Go.Ev Go.Proofs
theorem elI{P:Program}{t:TypeId}(h:R9 P t=some (1,8,some (.int .i64 0))):GM P t 1 8 (.int .i64 0):=⟨h,rfl⟩
abbrev fW(x:List Int):Int:=x.getD 0 0
def Br(n:Int)(x:List Int):Int:=if fW x=11 then aG .i64 (n+1)else if fW x=12 then aG .i64 (n - 1)else n
def nT:Int→List (List Int)→List Int
 |_,[]=>[]
 |n,x::l=>n::nT (Br n x) l
theorem RE:∀(l:List (List Int)) (n:Int),(nT n l).length=l.length
 |[],_=>rfl
 |x::l,n=>by simp[nT,RE l]
theorem ixC{w:World}{s:Sl}{l:List (List Int)}{dn rest:List (List Int)}{x:List Int}{i:Int}{c:Addr→Prop}(h:tr w s l)(hl:l=dn++x::rest)(hi:i=(dn.length:Int))
  (hc:∀p,x.length=5→(∀j v,(Go.Ev.ints x)[j]?=some v→w.cell? (p.add j)=some v)→c p):cZ s i 5 c:=by
 have hn:=h.len.symm;subst hi;refine aji h.rws ah (by rw[←hn,hl];simp;omega) λp e he hle hcell=> ?_
 rw[kR,hl]at he;simp at he;subst he;exact hc p ((h.Gw x (by rw[hl];simp)).1) hcell
theorem m0{x:List Int}{j:Nat}(h:j<x.length):(Go.Ev.ints x)[j]?=some (.int .i64 (x.getD j 0)):=by
 simp[Go.Ev.ints,h]
theorem anU{w:World}{s:Sl}{l:List (List Int)}{k:Sl→aq}(hr:tr w s l)(hb:8*l.length≤281474976710656)
  (hc:∀s' w',St w w' [bP 1 s' (Go.Ev.ints (nT 0 l))]→s'.n=l.length→k s' w'):oJ s w k:=by
 have hl:=hr.len.symm;unfold oJ;refine Ao (n:=s.n) (.nil w) (elI be) rfl ah ah λs1 w2 h n1=> ?_;refine og (fun(x:Int×Int) w'=> ∃dn rest acc n,l=dn++rest∧x=(n,(dn.length:Int))∧nT 0 l=acc++nT n rest∧acc.length=dn.length∧St w w' [bP 1 s1 (Go.Ev.ints acc++dM rest.length (.int .i64 0))])
  (λx _=>((s.n:Int) - x.2).toNat) ⟨[],l,[],0,rfl,rfl,rfl,rfl,by simpa[hl,Go.Ev.ints]using h⟩ ?_
 rintro x w5 ⟨dn,rest,acc,n,hlr,rfl,hd,ha,h⟩ C hC;cases rest with
 |nil=>
  refine bh (by simp only[decide_eq_false_iff_not];rw[←hl,hlr];simp) ?_
  refine hc s1 w5 ?_ (n1.trans hl.symm);simp[nT]at hd;rw[hd];simpa using h
 |cons x rest=>
  have hlen:l.length=dn.length+(rest.length+1):=by rw[hlr];simp
  refine bO (by simp only[decide_eq_true_eq];omega) ?_
  refine ixC (hr.ext h.ext) hlr rfl λp h5 hcell=>GO (by simp[Go.Ev.ints,h5]) hcell ?_
  refine av h λg w9 h=> ?_;refine m8 (g:=g) h rfl (by simp[Go.Ev.ints,h5]) (by simp[Go.Ev.ints,Value.oneCell']) λw10 h=> ?_
  refine Kf (s:=s1) (vs:=Go.Ev.ints acc++dM (rest.length+1) (.int .i64 0)) h ah ah ah λg1 o ZE hrd hwr=> ?_;refine hwr h inferInstance 0 _ _ ah rfl λw12 h=> ?_;refine cn (g:=g) (o:=0) h (by rw[m0 ah]) ?_
  have Mx:aG .i64 ((dn.length:Int)+1)=((dn++[x]).length:Int):=by rw[cT ⟨ah,ah⟩];simp
  have TY:(Go.Ev.ints acc++dM (rest.length+1) (Value.int .i64 0)).set ((dn.length:Int).toNat*1+0) (Value.int .i64 n)=Go.Ev.ints (acc++[n])++dM rest.length (Value.int .i64 0):=by
   have e:(dn.length:Int).toNat*1+0=(Go.Ev.ints acc).length+0:=by simp[Go.Ev.ints,ha]
   rw[e,List.set_append_right (h:=by omega),Nat.add_sub_cancel_left]
   simp[Go.Ev.ints,List.replicate_succ]
  have h:St w w12 [ax g (Go.Ev.ints x).toArray.toList,bP 1 s1 (Go.Ev.ints (acc++[n])++dM rest.length (Value.int .i64 0))]:=by rw[←TY];exact h
  have CU:∀n',n'=Br n x→C (n',aG .i64 ((dn.length:Int)+1)) w12:=by
   rintro n' rfl;rw[Mx];refine hC _ _ ⟨dn++[x],rest,acc++[n],Br n x,by simp[hlr],rfl,by rw[hd];simp[nT],by simp[ha],?_⟩ ?_
   ·exact h.drop
   ·simp;omega
  unfold Br at CU;refine ay (λhb=> ?_) λhb=> ?_
  ·simp only[beq_iff_eq]at hb;exact CU _ (by rw[if_pos hb])
  ·have hb':¬fW x=11:=by simpa using hb
   refine ay (λjL=> ?_) λjL=> ?_
   ·have yS:fW x=12:=by simpa using jL
    exact CU _ (by rw[if_neg hb',if_pos yS])
   ·have yS:¬fW x=12:=by simpa using jL
    exact CU _ (by rw[if_neg hb',if_neg yS])
structure Fl where
 held:List Int
 pA:List Bool
 todo:List Int
def RF(l:List Bool):List Value:=l.map Value.bool
def Fl.now(F:Fl)(i hv:Int):Int:=oC .i64 (F.held.getD i.toNat 0) hv
def Fl.stay(F:Fl)(i hv:Int):Bool:=F.pA.getD i.toNat false&&(F.now i hv==F.held.getD i.toNat 0)
def Fl.meet(F:Fl)(i hv:Int):Fl:=if F.stay i hv then F else{held:=F.held.set i.toNat (F.now i hv),pA:=F.pA.set i.toNat true,todo:=F.todo++[i]}
def asu(g:Nat)(code:Sl)(F:Fl)(p:Sl×Sl×Sl):List HP:=
 [ax g [.slice code.a code.n code.c,.slice p.1.a p.1.n p.1.c,.slice p.2.1.a p.2.1.n p.2.1.c,.slice p.2.2.a p.2.2.n p.2.2.c],bP 1 p.1 (ints F.held),bP 1 p.2.1 (RF F.pA),bP 1 p.2.2 (ints F.todo)]
def L3(g:Nat)(x:Sl×Fl):HP:=FV λp=>mG (asu g x.1 x.2 p)
section
variable {w0 w:World} {L:List HP} {g:Nat} {code:Sl} {F:Fl}
theorem abR{R:List HP}(h:St w0 w (L3 g (code,F)::R)):∃s1 s2 s3:Sl,St w0 w (ax g [.slice code.a code.n code.c,.slice s1.a s1.n s1.c,.slice s2.a s2.n s2.c,.slice s3.a s3.n s3.c]::bP 1 s1 (ints F.held)::bP 1 s2 (RF F.pA)::bP 1 s3 (ints F.todo)::R):=by
 obtain⟨p,h⟩:=h.some;exact⟨p.1,p.2.1,p.2.2,h.open⟩
theorem U8{R:List HP}{s1 s2 s3:Sl}(h:St w0 w (ax g [.slice code.a code.n code.c,.slice s1.a s1.n s1.c,.slice s2.a s2.n s2.c,.slice s3.a s3.n s3.c]::bP 1 s1 (ints F.held)::bP 1 s2 (RF F.pA)::bP 1 s3 (ints F.todo)::R)):St w0 w (L3 g (code,F)::R):=
 St.ex (X:=λp=>mG (asu g code F p)) (s1,s2,s3) (St.shut h)
theorem asv{l:List Bool}{i:Nat}(h:i<l.length):(RF l)[i]?=some (.bool (l.getD i false)):=by simp[RF,h]
theorem awo{s:Sl}{xs:List Bool}{i:Int}{f:HP→List HP}{c:Bool→Prop}(h:St w0 w L)[a:At L (bP 1 s) (RF xs) f](h0:0≤i)(h1:i<xs.length)(hc:c (xs.getD i.toNat false)):cZ s i 1 λa=>Jc w a c:=by
 have hn:xs.length=s.n:=by have:=h.FU (sz:=1) (s:=s) (vs:=RF xs);simpa[RF]using this
 refine Kf h ah h0 ah λg o _ hr _=>aje ?_ hc;have:=hr h 0 _ ah (asv (i:=i.toNat*1+0) ah);simpa using this
theorem anV{s:Sl}{xs:List Bool}{i:Int}{x:Bool}{f:HP→List HP}{c:aq}(h:St w0 w L)[a:At L (bP 1 s) (RF xs) f](h0:0≤i)(h1:i<xs.length)(hc:∀w',St w0 w' (f (bP 1 s (RF (xs.set i.toNat x))))→c w'):cZ s i 1 λa=>bJ w a (.bool x) c:=by
 have hn:xs.length=s.n:=by have:=h.FU (sz:=1) (s:=s) (vs:=RF xs);simpa[RF]using this
 refine Kf h ah h0 ah λg o _ _ hs=> ?_;have:=hs h a 0 (.bool x) c ah rfl λw' h'=>hc w' (by
  have e:(RF xs).set (i.toNat*1+0) (.bool x)=RF (xs.set i.toNat x):=by simp[RF,List.map_set]
  rwa[e]at h')
 simpa using this
theorem amn{i hv:Int}{f:HP→List HP}{k:Unit→aq}(h:St w0 w L)[a:At L (L3 g) (code,F) f](h0:0≤i)(h1:i<F.held.length)(hl:F.pA.length=F.held.length)(hb:(F.todo.length+1)*8≤140737488355328)
  (hc:∀w',St w0 w' (f (L3 g (code,F.meet i hv)))→k () w'):jz (some ⟨g,0,none⟩) i hv w k:=by
 obtain⟨R,ho,pB⟩:=a.out;obtain⟨s1,s2,s3,hS⟩:=abR (ho h);unfold jz;refine an (ea (o:=1) hS rfl (AN (s:=s1) (xs:=F.held) hS h0 h1 ?_));have fin:∀b,b=F.stay i hv→ap b (k () w) (
  drew w λw16=>nn (some ⟨g,0,none⟩) λa17=>cC w16 (aY a17 2) λs18=>nn (some ⟨g,0,none⟩) λa19=>cC w16 (aY a19 1) λs20=>
  cZ s18 i 1 λa21=>bJ w16 a21 (.bool true) λw22=>cZ s20 i 1 λa23=>bJ w22 a23 (.int .i64 (oC .i64 (F.held.getD i.toNat 0) hv)) λw24=>
  nn (some ⟨g,0,none⟩) λa25=>cC w24 (aY a25 3) λs26=>aL w24 #[(.int .i64 i)] 3 λa27 w28=>
  qd Tryz.prog #[69,69] 69 [(.slice s26.a s26.n s26.c),(.slice (some a27) 1 1)] w28 λs29 w30=>
  nn (some ⟨g,0,none⟩) λa31=>bJ w30 (aY a31 3) (.slice s29.a s29.n s29.c) λw32=>k () w32):=by
  rintro b rfl;refine ay (λhst=> ?_) λhst=> ?_
  ·have e:F.meet i hv=F:=by unfold Fl.meet;rw[if_pos hst]
   have:=hc w;rw[e]at this;exact this (pB (ho h))
  ·have e:F.meet i hv={held:=F.held.set i.toNat (F.now i hv),pA:=F.pA.set i.toNat true,todo:=F.todo++[i]}:=by unfold Fl.meet;rw[if_neg (by simp[hst])]
   rw[e]at hc;refine aF hS λw16 hS=>an (ea (o:=2) hS rfl (an (ea (o:=1) hS rfl ?_)));refine anV (s:=s2) (xs:=F.pA) hS h0 ah λw22 hS=> ?_;refine y9 (s:=s1) (xs:=F.held) hS h0 h1 λw24 hS=>an (ea (o:=3) hS rfl ?_);have hn3:F.todo.length=s3.n:=by have:=hS.FU (sz:=1) (s:=s3) (vs:=ints F.todo);simpa using this
   refine av hS λgn w28 hS=> ?_;refine Sa (s:=s3) (vs:=ints F.todo) (x:=⟨some ⟨gn,0,none⟩,1,1⟩) (ys:=[.int .i64 i]) hS (elI be) be (aaH (n:=1) (l:=[.int .i64 i]) hS.ax rfl 1) (by simp[Value.oneCell']) (by simp only;omega) (by simp only;omega) λs6 w7 hS n6=> ?_
   have hS:=hS.drop;refine an (jY (g:=g) (o:=3) hS rfl bc λw32 hS=>hc w32 (pB (U8 (s1:=s1) (s2:=s2) (s3:=s6) ?_)));simpa[ints,Fl.now]using hS
 unfold cE;refine an (ea (o:=2) hS rfl (awo (s:=s2) (xs:=F.pA) hS h0 ah ?_));refine ay (λUo=> ?_) λUo=> ?_
 ·refine an (ea (o:=1) hS rfl (AN (s:=s1) (xs:=F.held) hS h0 h1 ?_));exact fin _ (by unfold Fl.stay Fl.now;rw[Uo,Bool.true_and])
 ·exact fin _ (by unfold Fl.stay;rw[Uo,Bool.false_and])
end
theorem elB{P:Program}{t:TypeId}(h:R9 P t=some (1,1,some (.bool false))):GM P t 1 1 (.bool false):=⟨h,rfl⟩
theorem XY(n:Nat):dM n (Value.int .i64 0)=ints (dM n 0):=by simp[ints]
theorem asx(n:Nat):dM n (Value.bool false)=RF (dM n false):=by simp[RF]
def pU(x:List Int):Bool:=(fW x==6)||(fW x==7)
def D7(x:List Int):Bool:=(fW x==16)||(fW x==15)
def yA(n:Nat)(x:List Int):Bool:=pU x&&decide (0≤x.getD 4 0∧x.getD 4 0<n)
def yB(n:Nat)(i:Int)(x:List Int):Bool:=(fW x !=6)&& !D7 x&&decide (aG .i64 (i+1)<n)
def behind(n:Nat)(i:Int)(x:List Int):List Int:=(if yA n x then [x.getD 4 0]else [])++(if yB n i x then [aG .i64 (i+1)]else [])
theorem anW{w0 w:World}{Lk:List Int→List HP}{code:Sl}{l:List (List Int)}{i:Int}{x:List Int}{ca ci:Addr}{lo:Nat}{Y:Nat→bn}{k:Unit→aq}
  (h:St w0 w (Lk [])) (Xt:0≤i) (hx:l[i.toNat]?=some x)
  (hcell:∀{w ks},St w0 w (Lk ks)→w.cell? ca=some (.slice code.a code.n code.c)∧w.cell? ci=some (.int .i64 i)∧tr w code l)
  (hy:∀{B:HP} {ks:List Int} {z:Int} {w:World} {c:Value→aq},St w0 w (B::Lk ks)→ks++[z] <+:behind code.n i x→(∀w',St w0 w' (B::Lk (ks++[z]))→c (.bool true) w')→Y lo [.int .i64 z] w c)
  (hc:∀w',St w0 w' (Lk (behind code.n i x))→k () w'):xb Y (.func (.yield lo) #[] #[]) ca ci w k:=by
 unfold xb Dq;obtain⟨hs,hi,hcd⟩:=hcell h;have hil:i.toNat<l.length:=(kJ.1 hx).1;have hn:=hcd.len;have Z3:l=l.take i.toNat++x::l.drop (i.toNat+1):=by
  obtain⟨_,e⟩:=kJ.1 hx;rw[←e,List.getElem_cons_drop,List.take_append_drop]
 refine Il (s:=code) hs (uH hi (ixC hcd Z3 (by simp;omega) λp h5 hp=>GO (by simp[Go.Ev.ints,h5]) hp ?_))
 refine av h λg w6 h=> ?_;refine m8 (g:=g) h rfl (by simp[Go.Ev.ints,h5]) (by simp[Go.Ev.ints,Value.oneCell']) λw7 h=> ?_
 have ld:∀{w:World} {L:List HP} {o:Nat} {c:Int→Prop},St w0 w (ax g (Go.Ev.ints x).toArray.toList::L)→o<5→c (x.getD o 0)→aN .i64 w (aY ⟨g,0,none⟩ o) c:=by
  intro w L o c h ho hc;have:=cn (g:=g) (o:=o) (k:= .i64) (n:=x.getD o 0) (c:=c) h (by simpa using m0 (x:=x) (j:=o) ah) hc
  rw[cY,Nat.zero_add];exact this
 have afY:∀w20,St w0 w20 (ax g (Go.Ev.ints x).toArray.toList::Lk (if yA code.n x then [x.getD 4 0]else []))→ap false (k () w20) (cE (S:=Bool) (λJ21=>
   aN .i64 w20 (aY ⟨g,0,none⟩ 0) λi22=>
   ap (i22 !=(6:Int)) (
    aN .i64 w20 (aY ⟨g,0,none⟩ 0) λi23=>
    jq i23 w20 λb24 w25=>
    ap (!b24) (
     aN .i64 w25 ci λi26=>
     cC w25 ca λs27=>
     (J21 (decide ((aG .i64 (i26+(1:Int)))<((s27.n:Nat):Int))) w25)) (
     (J21 false w25))) (
    (J21 false w20))) λb28 w29=>
  ap b28 (
   aN .i64 w29 ci λi30=>
   m5 (Jq [(rZ,(λargs w c=>qJ [(.i .i64)] args λx=>jO x w λr w=>c (eV (dB [.b] r)) w)),(r0,(λargs w c=>qJ [(.i .i64)] args λx=>jq x w λr w=>c (eV (dB [.b] r)) w))] Y) (.func (.yield lo) #[] #[]) #[(.int .i64 (aG .i64 (i30+(1:Int))))] w29 λv31 w32=>
   HL v31 λb33=>
   (k () w32)) (
   (k () w29))):=by
  intro w20 h;refine bh rfl ?_;unfold cE;obtain⟨hs,hi,_⟩:=hcell h.drop;have last:∀b,b=yB code.n i x→ap b (
    aN .i64 w20 ci λi30=>
    m5 (Jq [(rZ,(λargs w c=>qJ [(.i .i64)] args λx=>jO x w λr w=>c (eV (dB [.b] r)) w)),(r0,(λargs w c=>qJ [(.i .i64)] args λx=>jq x w λr w=>c (eV (dB [.b] r)) w))] Y) (.func (.yield lo) #[] #[]) #[(.int .i64 (aG .i64 (i30+(1:Int))))] w20 λv31 w32=>
    HL v31 λb33=>(k () w32)) (k () w20):=by
   rintro b rfl;refine ay (λhb=> ?_) λhb=> ?_
   ·refine uH hi (P9 (hy h ?_ λw' h=>hc w' ?_))
    ·unfold behind;rw[if_pos hb];exact List.prefix_refl _
    ·have:=h.drop;unfold behind;rw[if_pos hb];exact this
   ·refine hc w20 ?_;have e:behind code.n i x=if yA code.n x then [x.getD 4 0]else []:=by unfold behind;rw[hb];simp
    rw[e];exact h.drop
  refine ld h ah ?_;refine ay (λh6=> ?_) λh6=> ?_
  ·refine ld h ah ?_;show ap _ _ _;refine ay (λhe=> ?_) λhe=> ?_
   ·refine uH hi (Il (s:=code) hs (last _ ?_));have he':D7 x=false:=by simpa[D7]using he
    have h6':(fW x !=6)=true:=h6;unfold yB;rw[h6',he'];simp
   ·refine last _ ?_;have he':D7 x=true:=by
     cases hE:D7 x with
     |true=>rfl
     |false=>exact absurd he (by unfold D7 at hE;simp only[fW]at hE;rw[hE];simp)
    unfold yB;rw[he'];simp
  ·refine last _ ?_;have h6':(fW x !=6)=false:=h6;unfold yB;rw[h6'];simp
 unfold cE;refine ld h ah ?_;show ap _ _ _;refine ay (λhg=> ?_) λhg=> ?_
 ·have KW:pU x=true:=hg;refine ld h ah ?_;refine ay (λh4=> ?_) λh4=> ?_
  ·simp only[decide_eq_true_eq]at h4;obtain⟨hs,_,_⟩:=hcell h.drop;refine ld h ah (Il (s:=code) hs ?_);refine ay (λh5'=> ?_) λh5'=> ?_
   ·simp only[decide_eq_true_eq]at h5';have hA:yA code.n x=true:=by unfold yA;rw[KW,decide_eq_true ⟨h4,h5'⟩];rfl
    refine ld h ah (P9 (hy h ?_ λw' h=> ?_))
    ·unfold behind;rw[if_pos hA];exact List.prefix_append _ _
    ·refine afY w' ?_;rw[if_pos hA];exact h
   ·simp only[decide_eq_false_iff_not]at h5';have hA:yA code.n x=false:=by unfold yA;rw[KW,decide_eq_false (λh=>h5' h.2)];rfl
    refine afY w7 ?_;rw[hA];exact h
  ·simp only[decide_eq_false_iff_not]at h4;have hA:yA code.n x=false:=by unfold yA;rw[KW,decide_eq_false (λh=>h4 h.1)];rfl
   refine afY w7 ?_;rw[hA];exact h
 ·have KW:pU x=false:=hg;have hA:yA code.n x=false:=by unfold yA;rw[KW];rfl
  refine afY w7 ?_;rw[hA];exact h
theorem ayc{m:Nat}(h:m<2 ^ 63):(bv (m:Int)).toNat=m:=by
 rw[BitVec.toNat_ofInt];omega
theorem ahU{b:BitVec 64}(h:b.toNat<2 ^ 63):b.toInt=b.toNat:=by
 rw[BitVec.toInt_eq_toNat_cond];split<;>omega
theorem awp{a b:Int}(h0:0≤a)(h1:a≤255):0≤oC .i64 a b∧oC .i64 a b≤a:=by
 rw[P3];have e:(bv a).toNat=a.toNat:=by
  have:=ayc (m:=a.toNat) ah;rwa[Int.toNat_of_nonneg h0]at this
 have h2:(bv a&&&bv b).toNat≤a.toNat:=by rw[BitVec.toNat_and,e];exact Nat.and_le_left
 rw[ahU ah];omega
def L4(x:List Int)(h:Int):Int:=if fW x=8∧0≤x.getD 1 0∧x.getD 1 0<8 then Sx .i64 h (rX .i64 1 (x.getD 1 0))else h
def Fl.meets(hv:Int)(F:Fl)(zs:List Int):Fl:=zs.foldl (λF z=>F.meet z hv) F
def Fl.step(l:List (List Int))(F:Fl):Fl:=match F.todo with
 |[]=>F
 |i::t=>Fl.meets (L4 (l.getD i.toNat []) (F.held.getD i.toNat 0)) {F with todo:=t} (behind l.length i (l.getD i.toNat []))
structure Fl.OK (n:Nat) (F:Fl):Prop where
 held:F.held.length=n
 pA:F.pA.length=n
 bits:∀h∈F.held,0≤h∧h≤255
 todo:∀i∈F.todo,0≤i∧i<n
def ad6(l:List Int):Nat:=(l.map Int.toNat).sum
def ad7(l:List Bool):Nat:=(l.map λb=>if b then 0 else 1).sum
def Fl.mu(F:Fl):Nat:=3*(ad6 F.held+ad7 F.pA)+F.todo.length
theorem ad8:∀{l:List Int} {i:Nat} {a:Int},i<l.length→ad6 (l.set i a)+(l.getD i 0).toNat=ad6 l+a.toNat
 |[],i,a,h=>by simp at h
 |x::l,0,a,h=>by simp[ad6];omega
 |x::l,i+1,a,h=>by
  have:=ad8 (l:=l) (i:=i) (a:=a) (by simpa using h)
  simp[ad6]at this ⊢;omega
theorem ad9:∀{l:List Bool} {i:Nat},i<l.length→ad7 (l.set i true)+(if l.getD i false then 0 else 1)=ad7 l
 |[],i,h=>by simp at h
 |x::l,0,h=>by cases x<;>simp[ad7] <;>omega
 |x::l,i+1,h=>by
  have:=ad9 (l:=l) (i:=i) (by simpa using h)
  simp[ad7]at this ⊢;omega
theorem IW{n:Nat}{F:Fl}{i hv:Int}(h:F.OK n)(h0:0≤i)(h1:i<n):(F.meet i hv).OK n∧(F.meet i hv).mu≤F.mu:=by
 unfold Fl.meet;split
 ·exact⟨h,iv _⟩
 ·rename_i hst;have hi:i.toNat<F.held.length:=by rw[h.held];omega
  have hic:i.toNat<F.pA.length:=by rw[h.pA];omega
  have hb:=h.bits (F.held.getD i.toNat 0) (by
   have e:F.held.getD i.toNat 0=F.held[i.toNat]:=by simp[hi]
   rw[e];exact List.getElem_mem hi)
  have ha:=awp (b:=hv) hb.1 hb.2;refine⟨⟨by simp[h.held],by simp[h.pA],λx hx=> ?_,λz hz=> ?_⟩,?_⟩
  ·rcases List.mem_or_eq_of_mem_set hx with hx|rfl
   ·exact h.bits x hx
   ·unfold Fl.now;omega
  ·rcases y7.1 hz with hz|hz
   ·exact h.todo z hz
   ·simp at hz;omega
  ·have e1:=ad8 (a:=F.now i hv) hi;have e2:=ad9 hic;simp only[Fl.mu,tV,List.length_singleton];unfold Fl.stay at hst;unfold Fl.now at e1 hst ⊢;cases Uo:F.pA.getD i.toNat false with
   |false=>rw[Uo]at e2;simp at e2;omega
   |true=>
    rw[Uo]at hst e2;simp only[Bool.true_and,beq_iff_eq]at hst;simp at e2;omega
theorem Sn{n:Nat}{hv:Int}:∀{zs:List Int} {F:Fl},F.OK n→(∀z∈zs,0≤z∧z<n)→(Fl.meets hv F zs).OK n∧(Fl.meets hv F zs).mu≤F.mu
 |[],F,h,_=>⟨h,iv _⟩
 |z::zs,F,h,hz=>by
  have h1:=IW (hv:=hv) h (hz z bc).1 (hz z bc).2;have h2:=Sn (hv:=hv) (zs:=zs) h1.1 λy hy=>hz y (by simp[hy])
  exact⟨h2.1,Nat.le_trans h2.2 h1.2⟩
theorem IX{n:Nat}{i:Int}{x:List Int}(hn:n≤4294967296)(h0:0≤i)(h1:i<n):∀z∈behind n i x,0≤z∧z<n:=by
 intro z hz;have hw:aG .i64 (i+1)=i+1:=cT ⟨ah,ah⟩;unfold behind at hz;rcases y7.1 hz with hz|hz
 ·split at hz
  ·rename_i hA;simp only[List.mem_singleton]at hz;subst hz;unfold yA at hA;simp only[iZ,decide_eq_true_eq]at hA;exact hA.2
  ·cases hz
 ·split at hz
  ·rename_i hB;simp only[List.mem_singleton]at hz;subst hz;unfold yB at hB;simp only[iZ,decide_eq_true_eq]at hB;rw[hw]at hB ⊢;exact⟨ah,hB.2⟩
  ·cases hz
theorem asy{l:List (List Int)}{F:Fl}(hn:l.length≤4294967296)(h:F.OK l.length)(ht:F.todo≠ []):(F.step l).OK l.length∧(F.step l).mu<F.mu:=by
 unfold Fl.step;split
 ·rename_i e;exact(ht e).elim
 ·rename_i i t e;have hi:=h.todo i (by rw[e];simp)
  have h':Fl.OK l.length {F with todo:=t}:=⟨h.held,h.pA,h.bits,λz hz=>h.todo z (by rw[e];simp[hz])⟩
  have h2:=Sn (hv:=L4 (l.getD i.toNat []) (F.held.getD i.toNat 0)) h' (IX (x:=l.getD i.toNat []) hn hi.1 hi.2);refine⟨h2.1,Nat.lt_of_le_of_lt h2.2 ?_⟩;simp only[Fl.mu,e,List.length_cons];omega
theorem afZ{G S:Type}{f:(S→aq)→S→aq}(I:G→S→aq)(μ:G→Nat){g:G}{s:S}{w:World}(h0:I g s w)
  (h:∀g s w,I g s w→∀C:S→aq,(∀g' s' w',I g' s' w'→μ g'<μ g→C s' w')→f C s w):kH f s w:=by
 have key:∀n g s w,μ g≤n→I g s w→jP f (n+1) s w:=by
  intro n;induction n with
  |zero=>intro g s w hn hI;exact h g s w hI _ λg' s' w' _ hlt=>by omega
  |succ n ih=>intro g s w hn hI;exact h g s w hI _ λg' s' w' hI' hlt=>ih g' s' w' ah hI'
 exact⟨_,key _ g s w (iv _) h0⟩
theorem ahV(hv:Int)(F:Fl)(ks:List Int)(z:Int):F.meets hv (ks++[z])=(F.meets hv ks).meet z hv:=by simp[Fl.meets]
theorem LS{n:Nat}{d:(Nat→bn)→bn}{Y:Nat→bn}{args:List Value}{w:World}{c:Value→aq}(h:d Y args w c):Cz [(n,d)] n Y args w c:=by
 unfold Cz;rw[Nat.beq_refl];exact h
theorem asz{Y:Nat→bn}{v:Value}{a b:Addr}{w:World}{c:Value→aq}(h:xb Y v a b w λr w=>c (.tuple #[]) w):rh Y [v,.pointer (some a),.pointer (some b)] w c:=h
theorem awq{w w':World}{g gp gh ga:Nat}{s:Sl}{F:Fl}{l:List (List Int)}{x:List Int}{i hv:Int}{nv:Value}{ds:List Nat}{C:Unit×List Nat→aq}
  (hS:St w w' [ax gh [.int .i64 hv],L3 g (s,F),ax gp [.pointer (some ⟨g,0,none⟩)],Iu ds,ax ga [nv,.slice s.a s.n s.c]]) (hr:tr w s l) (hF:F.OK l.length) (hmu:F.mu≤1000000) (hn:l.length≤1000) (Xt:0≤i) (hx:l[i.toNat]?=some x)
  (hc:∀D w'',St w w'' [Iu (D::ds),L3 g (s,F.meets hv (behind l.length i x)),ax gp [.pointer (some ⟨g,0,none⟩)],ax ga [nv,.slice s.a s.n s.c]]→C ((),D::ds) w''):
  oK s i w' λv149 w150=>BQ (Cz [(q8,rh)]) [.i .i64] v149 w150 (fun(x151:Int) w152 C153=>aR w152 ⟨gp,0,none⟩ λp156=>aN .i64 w152 ⟨gh,0,none⟩ λi157=>jz p156 x151 i157 w152 λ_u w158=>C153 w158) λaqZ w155=>C ((),aqZ::ds) w155:=by
 have hil:i.toNat<l.length:=(kJ.1 hx).1;have xg:=hr.len;unfold oK;refine av hS λgc w1 hS=>av hS λgi w2 hS=> ?_;refine Sb hS λlr D R w3 hS=> ?_;refine LS (asz (v:= .func (.yield lr) #[] #[]) (a:=⟨gc,0,none⟩) (b:=⟨gi,0,none⟩) ?_);refine anW (x:=x) (l:=l) (code:=s) (Lk:=λks=>[obj lr (R .ready),obj D (.deferred (some [])),ax gi [.int .i64 i],ax gc [.slice s.a s.n s.c],ax gh [.int .i64 hv],L3 g (s,F.meets hv ks),ax gp [.pointer (some ⟨g,0,none⟩)],Iu ds,ax ga [nv,.slice s.a s.n s.c]])
  hS Xt hx (fun{w ks} h=>⟨?_,?_,hr.ext h.ext⟩) (fun{B ks z w c} h hp hcc=> ?_) λw4 h=> ?_
 ·rw[(h.ax (g:=gc) (cs:=[.slice s.a s.n s.c])).cell];rfl
 ·rw[(h.ax (g:=gi) (cs:=[.int .i64 i])).cell];rfl
 ·rw[xg]at hp;have hin:=IX (x:=x) (n:=l.length) (i:=i) ah Xt ah;have hpre:∀y∈ks++[z],0≤y∧y<l.length:=λy hy=>hin y (hp.subset hy);have hz:=hpre z bc;have hks:=Sn (hv:=hv) (zs:=ks) hF λy hy=>hpre y (by simp[hy])
  refine alD (l:=lr) (R:=R) (kk:=[.i .i64]) z (λc hc=>hc) h λw5 h=> ?_;refine B5 (g:=gp) (o:=0) h rfl (cn (g:=gh) (o:=0) h rfl ?_);have hlen:(F.meets hv ks).todo.length≤(F.meets hv ks).mu:=by unfold Fl.mu;omega
  have akd:=hks.2;refine amn (g:=g) (code:=s) (F:=F.meets hv ks) h hz.1 (by rw[hks.1.held];exact hz.2) (by rw[hks.1.held,hks.1.pA]) ah λw6 h=> ?_
  rw[←ahV]at h;exact aa3 (g:=lr) (o:=R .busy) (o':=R .ready) (c:=c (.bool true)) h λw7 h=>hcc w7 h
 ·have e:behind s.n i x=behind l.length i x:=by rw[xg]
  simp only[e]at h;refine aa3 (g:=lr) (o:=R .ready) (o':=R .exhausted) (c:=C ((),D::ds)) h λw5 h=>hc D w5 ?_;have h:=h.perm (M:=[obj D (.deferred (some [])),Iu ds,L3 g (s,F.meets hv (behind l.length i x)),ax gp [.pointer (some ⟨g,0,none⟩)],ax ga [nv,.slice s.a s.n s.c],obj lr (R .exhausted),ax gi [.int .i64 i],ax gc [.slice s.a s.n s.c],ax gh [.int .i64 hv]]) GP;have h:=K4 h;exact((((h.rm 7 rfl).rm 6 rfl).rm 5 rfl).rm 4 rfl)
theorem bS{S:Type}{body:(S→aq)→Prop}{rest:S→aq}(Inv:S→aq)(h2:∀J:S→aq,(∀s w,Inv s w→J s w)→body J)(h1:∀s w,Inv s w→rest s w):cE body rest:=h2 rest h1
def Az(g gp ga:Nat)(s s1 s2:Sl)(aX:Int)(n:Nat):List HP:=[ax g [.slice s.a s.n s.c,.slice s1.a s1.n s1.c,.slice s2.a s2.n s2.c,.slice none 0 0],bP 1 s1 (dM n (.int .i64 0)),bP 1 s2 (dM n (.bool false)),ax gp [.pointer (some ⟨g,0,none⟩)],ax ga [.int .i64 aX,.slice s.a s.n s.c]]
def amo(w:World)(ga:Nat)(s:Sl)(aX:Int)(a:Addr)(w':World):Prop:=∃g gp s1 s2,a=⟨gp,0,none⟩∧s1.n=s.n∧St w w' (Az g gp ga s s1 s2 aX s.n)
theorem leaf{w w':World}{g gp ga:Nat}{s s1 s2:Sl}{aX:Int}{L:List HP}{J:Addr→aq}(hJ:∀a w',amo w ga s aX a w'→J a w')(h:St w w' L)(n1:s1.n=s.n)(hp:L.Perm (Az g gp ga s s1 s2 aX s.n)):J ⟨gp,0,none⟩ w':=
 hJ _ _ ⟨g,gp,s1,s2,rfl,n1,h.perm hp⟩
def Ea(n:Nat):Fl:=⟨dM n 255,dM n false,[]⟩
def Fl.steps(l:List (List Int)):Nat→Fl→Fl
 |0,F=>F
 |m+1,F=>(Fl.steps l m F).step l
def Reached(l:List (List Int))(aX:Int)(F:Fl):Prop:=F.todo=[]∧(l=[]→F=Ea 0)∧(l≠ []→∃m,F=Fl.steps l m ((Ea l.length).meet 0 (oC .i64 aX 255)))
theorem amq(n:Nat):(Ea n).OK n:=⟨by simp[Ea],by simp[Ea],λh hh=>by simp[Ea]at hh;omega,λi hi=>by simp[Ea]at hi⟩
theorem awr{w:World}{s:Sl}{aX:Int}{l:List (List Int)}{k:Sl→aq}(hr:tr w s l)(hn:s.n≤1000)
  (hc:∀F s' w',Reached l aX F→St w w' [bP 1 s' (ints F.held)]→k s' w'):pb #[.int .i64 aX,.slice s.a s.n s.c] w k:=by
 unfold pb Km;refine av (.nil w) λga w2 h0=> ?_;refine ea (g:=ga) (o:=1) h0 rfl ?_;refine bS (amo w ga s aX) (λJ hJ=> ?_) λa75 w76 hI=> ?_
 ·refine aF h0 λw5 h=>ea (g:=ga) (o:=1) h rfl ?_;have h5:=h;refine⟨?_,?_⟩
  ·refine Ao (n:=s.n) h (elI be) rfl ah ah λs1 _ h n1=>eT h5 h ?_;refine⟨?_,?_⟩
   ·refine Ao (n:=s.n) h (elB be) rfl ah ah λs2 _ h _=>eT h5 h ?_;refine⟨?_,?_⟩
    ·refine⟨?_,?_⟩
     ·refine av h λg _ h=> ?_;refine av h λgp _ h=>eT h5 h ?_;refine jY (g:=gp) h rfl bc λ_ h=>leaf (g:=g) (s2:=s2) hJ h n1 ?_;unfold Az;repeat' (first|exact List.Perm.refl _|refine bx 0 rfl ?_|refine bx 1 rfl ?_|refine bx 2 rfl ?_|refine bx 3 rfl ?_|refine bx 4 rfl ?_|refine bx 5 rfl ?_|refine bx 6 rfl ?_|refine bx 7 rfl ?_)
     ·refine av h λgp _ h=>eT h5 h ?_;refine av h λg _ h=> ?_;refine jY (g:=gp) h rfl bc λ_ h=>leaf (g:=g) (s2:=s2) hJ h n1 ?_;unfold Az;repeat' (first|exact List.Perm.refl _|refine bx 0 rfl ?_|refine bx 1 rfl ?_|refine bx 2 rfl ?_|refine bx 3 rfl ?_|refine bx 4 rfl ?_|refine bx 5 rfl ?_|refine bx 6 rfl ?_|refine bx 7 rfl ?_)
    ·refine av h λgp _ h=>eT h5 h ?_;refine av h λg _ h=> ?_;refine jY (g:=gp) h rfl bc λ_ h=>leaf (g:=g) (s2:=s2) hJ h n1 ?_;unfold Az;repeat' (first|exact List.Perm.refl _|refine bx 0 rfl ?_|refine bx 1 rfl ?_|refine bx 2 rfl ?_|refine bx 3 rfl ?_|refine bx 4 rfl ?_|refine bx 5 rfl ?_|refine bx 6 rfl ?_|refine bx 7 rfl ?_)
   ·refine av h λgp _ h=>eT h5 h ?_;refine Ao (n:=s.n) h (elB be) rfl ah ah λs2 _ h _=>eT h5 h ?_;refine av h λg _ h=> ?_;refine jY (g:=gp) h rfl bc λ_ h=>leaf (g:=g) (s2:=s2) hJ h n1 ?_;unfold Az;repeat' (first|exact List.Perm.refl _|refine bx 0 rfl ?_|refine bx 1 rfl ?_|refine bx 2 rfl ?_|refine bx 3 rfl ?_|refine bx 4 rfl ?_|refine bx 5 rfl ?_|refine bx 6 rfl ?_|refine bx 7 rfl ?_)
  ·refine⟨?_,?_⟩
   ·refine Ao (n:=s.n) h (elB be) rfl ah ah λs2 _ h _=>eT h5 h ?_;refine⟨?_,?_⟩
    ·refine Ao (n:=s.n) h (elI be) rfl ah ah λs1 _ h n1=>eT h5 h ?_;refine⟨?_,?_⟩
     ·refine⟨?_,?_⟩
      ·refine av h λg _ h=> ?_;refine av h λgp _ h=>eT h5 h ?_;refine jY (g:=gp) h rfl bc λ_ h=>leaf (g:=g) (s2:=s2) hJ h n1 ?_;unfold Az;repeat' (first|exact List.Perm.refl _|refine bx 0 rfl ?_|refine bx 1 rfl ?_|refine bx 2 rfl ?_|refine bx 3 rfl ?_|refine bx 4 rfl ?_|refine bx 5 rfl ?_|refine bx 6 rfl ?_|refine bx 7 rfl ?_)
      ·refine av h λgp _ h=>eT h5 h ?_;refine av h λg _ h=> ?_;refine jY (g:=gp) h rfl bc λ_ h=>leaf (g:=g) (s2:=s2) hJ h n1 ?_;unfold Az;repeat' (first|exact List.Perm.refl _|refine bx 0 rfl ?_|refine bx 1 rfl ?_|refine bx 2 rfl ?_|refine bx 3 rfl ?_|refine bx 4 rfl ?_|refine bx 5 rfl ?_|refine bx 6 rfl ?_|refine bx 7 rfl ?_)
     ·refine av h λgp _ h=>eT h5 h ?_;refine av h λg _ h=> ?_;refine jY (g:=gp) h rfl bc λ_ h=>leaf (g:=g) (s2:=s2) hJ h n1 ?_;unfold Az;repeat' (first|exact List.Perm.refl _|refine bx 0 rfl ?_|refine bx 1 rfl ?_|refine bx 2 rfl ?_|refine bx 3 rfl ?_|refine bx 4 rfl ?_|refine bx 5 rfl ?_|refine bx 6 rfl ?_|refine bx 7 rfl ?_)
    ·refine av h λgp _ h=>eT h5 h ?_;refine Ao (n:=s.n) h (elI be) rfl ah ah λs1 _ h n1=>eT h5 h ?_;refine av h λg _ h=> ?_;refine jY (g:=gp) h rfl bc λ_ h=>leaf (g:=g) (s2:=s2) hJ h n1 ?_;unfold Az;repeat' (first|exact List.Perm.refl _|refine bx 0 rfl ?_|refine bx 1 rfl ?_|refine bx 2 rfl ?_|refine bx 3 rfl ?_|refine bx 4 rfl ?_|refine bx 5 rfl ?_|refine bx 6 rfl ?_|refine bx 7 rfl ?_)
   ·refine av h λgp _ h=>eT h5 h ?_;refine⟨?_,?_⟩
    ·refine Ao (n:=s.n) h (elI be) rfl ah ah λs1 _ h n1=>eT h5 h ?_;refine Ao (n:=s.n) h (elB be) rfl ah ah λs2 _ h _=>eT h5 h ?_;refine av h λg _ h=> ?_;refine jY (g:=gp) h rfl bc λ_ h=>leaf (g:=g) (s2:=s2) hJ h n1 ?_;unfold Az;repeat' (first|exact List.Perm.refl _|refine bx 0 rfl ?_|refine bx 1 rfl ?_|refine bx 2 rfl ?_|refine bx 3 rfl ?_|refine bx 4 rfl ?_|refine bx 5 rfl ?_|refine bx 6 rfl ?_|refine bx 7 rfl ?_)
    ·refine Ao (n:=s.n) h (elB be) rfl ah ah λs2 _ h _=>eT h5 h ?_;refine Ao (n:=s.n) h (elI be) rfl ah ah λs1 _ h n1=>eT h5 h ?_;refine av h λg _ h=> ?_;refine jY (g:=gp) h rfl bc λ_ h=>leaf (g:=g) (s2:=s2) hJ h n1 ?_;unfold Az;repeat' (first|exact List.Perm.refl _|refine bx 0 rfl ?_|refine bx 1 rfl ?_|refine bx 2 rfl ?_|refine bx 3 rfl ?_|refine bx 4 rfl ?_|refine bx 5 rfl ?_|refine bx 6 rfl ?_|refine bx 7 rfl ?_)
 ·obtain⟨g,gp,s1,s2,rfl,n1,h⟩:=hI;unfold Az at h;have qX:=XY s.n;simp only[qX]at h;refine B5 (g:=gp) (o:=0) (n:=some ⟨g,0,none⟩) h rfl (an (ea (g:=g) (o:=1) h rfl ?_));refine bS (λ_ w'=>St w w' [ax g [.slice s.a s.n s.c,.slice s1.a s1.n s1.c,.slice s2.a s2.n s2.c,.slice none 0 0],bP 1 s1 (ints (dM s.n 255)),bP 1 s2 (dM s.n (.bool false)),ax gp [.pointer (some ⟨g,0,none⟩)],ax ga [.int .i64 aX,.slice s.a s.n s.c]]) (λJ hJ=> ?_) λ_ w90 h=> ?_
  ·refine og (fun(i:Int) w'=> ∃j:Nat,i=j∧j≤s.n∧St w w' [ax g [.slice s.a s.n s.c,.slice s1.a s1.n s1.c,.slice s2.a s2.n s2.c,.slice none 0 0],bP 1 s1 (ints (dM j 255++dM (s.n - j) 0)),bP 1 s2 (dM s.n (.bool false)),ax gp [.pointer (some ⟨g,0,none⟩)],ax ga [.int .i64 aX,.slice s.a s.n s.c]])
    (λi _=>((s.n:Int) - i).toNat) ⟨0,rfl,ah,by simpa using h⟩ ?_
   rintro i w83 ⟨j,rfl,hj,h⟩ C hC;refine ay (λhb=> ?_) λhb=> ?_
   ·simp only[decide_eq_true_eq]at hb;refine B5 (g:=gp) (o:=0) (n:=some ⟨g,0,none⟩) h rfl (an (ea (g:=g) (o:=1) h rfl (y9 (s:=s1) (xs:=dM j 255++dM (s.n - j) 0) h ah (by simp;omega) λw88 h=> ?_)))
    have hw:aG .i64 ((j:Int)+1)=((j+1:Nat):Int):=by rw[cT ⟨ah,ah⟩];simp
    rw[hw];refine hC _ _ ⟨j+1,rfl,ah,?_⟩ ah;have e:(dM j (255:Int)++dM (s.n - j) 0).set ((j:Int)).toNat 255=dM (j+1) 255++dM (s.n - (j+1)) 0:=by
     have e1:s.n - j=(s.n - (j+1))+1:=ah;rw[kR,List.set_append_right (h:=by simp),e1,List.length_replicate,Nat.sub_self,List.replicate_succ (n:=s.n - (j+1)),List.set_cons_zero,List.replicate_succ' (n:=j),List.append_assoc];rfl
    rw[e]at h;exact h
   ·simp only[decide_eq_false_iff_not]at hb;have e:j=s.n:=ah;subst e;refine hJ () _ ?_;simpa using h
  ·have xg:=hr.len;refine ay (λh0'=> ?_) λh0'=> ?_
   ·have hz:s.n=0:=by
     have:(s.n:Int)=0:=by simpa using h0'
     omega
    have hl:l=[]:=List.eq_nil_of_length_eq_zero ah;refine B5 (g:=gp) (o:=0) (n:=some ⟨g,0,none⟩) h rfl (an (ea (g:=g) (o:=1) h rfl ?_));refine hc (Ea 0) s1 w90 ⟨rfl,λ_=>rfl,λhne=>(hne hl).elim⟩ ?_;have e:ints (dM s.n 255)=ints (Ea 0).held:=by rw[hz];rfl
    rw[←e];exact(((h.rm 4 rfl).rm 3 rfl).rm 2 rfl).rm 0 rfl
   ·have hz:s.n≠0:=by
     have:¬(s.n:Int)=0:=by simpa using h0'
     omega
    have hb0:=asx s.n;have h:=h.Jv 1;simp only[hb0]at h;have h:St w w90 [L3 g (s,Ea s.n),ax gp [.pointer (some ⟨g,0,none⟩)],ax ga [.int .i64 aX,.slice s.a s.n s.c]]:=
     U8 (F:=Ea s.n) (s1:=s1) (s2:=s2) (s3:=⟨none,0,0⟩) (h.perm (by unfold Ea;repeat' (first|exact List.Perm.refl _|refine bx 0 rfl ?_|refine bx 1 rfl ?_|refine bx 2 rfl ?_|refine bx 3 rfl ?_|refine bx 4 rfl ?_|refine bx 5 rfl ?_|refine bx 6 rfl ?_|refine bx 7 rfl ?_)))
    refine B5 (g:=gp) (o:=0) (n:=some ⟨g,0,none⟩) h rfl (cn (g:=ga) (o:=0) h rfl ?_);refine amn (g:=g) (code:=s) (F:=Ea s.n) h ah (by simp[Ea];omega) (by simp[Ea]) (by simp[Ea]) λw96 h=> ?_
    have h:=P8 h;have hm0:=IW (hv:=oC .i64 aX 255) (i:=0) (amq l.length) ah ah;have aFN:(Ea l.length).mu≤1000000:=by simp[Fl.mu,Ea,ad6,ad7];omega
    refine afZ (G:=Fl) (λF x w'=>F.OK l.length∧F.mu≤1000000∧(∃m,F=Fl.steps l m ((Ea l.length).meet 0 (oC .i64 aX 255)))∧St w w' [Iu x.2,L3 g (s,F),ax gp [.pointer (some ⟨g,0,none⟩)],ax ga [.int .i64 aX,.slice s.a s.n s.c]]) Fl.mu
     (g:=(Ea s.n).meet 0 (oC .i64 aX 255)) ⟨by rw[xg];exact hm0.1,by rw[xg];have:=hm0.2;omega,⟨0,by rw[xg];rfl⟩,h⟩ ?_
    rintro F x w99 ⟨hF,hmu,⟨m,hm⟩,h⟩ C hC;obtain⟨t1,t2,t3,h⟩:=abR h.swap;refine B5 (g:=gp) (o:=0) (n:=some ⟨g,0,none⟩) h rfl (an (ea (g:=g) (o:=3) h rfl ?_));have hn3:F.todo.length=t3.n:=by have:=h.FU (sz:=1) (s:=t3) (vs:=ints F.todo);simpa using this
    refine ay (λhe=> ?_) λhe=> ?_
    ·have he':(t3.n:Int)=0:=by simpa using he
     have hnil:F.todo=[]:=List.eq_nil_of_length_eq_zero ah;refine B5 (g:=gp) (o:=0) (n:=some ⟨g,0,none⟩) h rfl (an (ea (g:=g) (o:=1) h rfl ?_));refine K5 (h.front 4 rfl) λw' h=>hc F t1 w' ⟨hnil,λhl=> ?_,λ_=>⟨m,hm⟩⟩ ?_
     ·rw[hl]at xg;exact(hz xg).elim
     ·exact((((h.rm 5 rfl).rm 4 rfl).rm 3 rfl).rm 2 rfl).rm 0 rfl
    ·have he':¬(t3.n:Int)=0:=by simpa using he
     obtain⟨i,t,Yd⟩:∃i t,F.todo=i::t:=by
      cases e:F.todo with
      |nil=>rw[e]at hn3;simp at hn3;omega
      |cons i t=>exact⟨i,t,rfl⟩
     have hi:=hF.todo i (by rw[Yd];simp)
     have hg0:F.todo.getD (0:Int).toNat 0=i:=by rw[Yd];rfl
     refine B5 (g:=gp) (o:=0) (n:=some ⟨g,0,none⟩) h rfl (an (ea (g:=g) (o:=3) h rfl (AN (s:=t3) (xs:=F.todo) h ah ah ?_)));rw[hg0];refine aF h λw112 h=>B5 (g:=gp) (o:=0) (n:=some ⟨g,0,none⟩) h rfl (B5 (g:=gp) (o:=0) (n:=some ⟨g,0,none⟩) h rfl (an (ea (g:=g) (o:=3) h rfl ?_)));refine apM (s:=t3) (vs:=ints F.todo) h ah ah λd hd h=>an (jY (g:=g) (o:=3) h rfl bc λw119 h=> ?_);refine B5 (g:=gp) (o:=0) (n:=some ⟨g,0,none⟩) h rfl (an (ea (g:=g) (o:=1) h rfl (AN (s:=t1) (xs:=F.held) h hi.1 (by rw[hF.held];exact hi.2) ?_)))
     refine av h λgh w126 h=>jY (g:=gh) (o:=0) h rfl bc λw127 h=> ?_;have hil:i.toNat<l.length:=ah;have hx:l[i.toNat]?=some l[i.toNat]:=j4 hil;have Z3:l=l.take i.toNat++l[i.toNat]::l.drop (i.toNat+1):=by rw[List.getElem_cons_drop,List.take_append_drop]
     generalize hxe:l[i.toNat]=x5 at hx Z3;refine ea (g:=ga) (o:=1) h rfl (ixC (hr.ext h.ext) Z3 (by simp;omega) λp h5 hp=>GO (by simp[Go.Ev.ints,h5]) hp ?_)
     refine av h λgx w132 h=>m8 (g:=gx) h rfl (by simp[Go.Ev.ints,h5]) (by simp[Go.Ev.ints,Value.oneCell']) λw133 h=> ?_
     have ld:∀{o:Nat} {c:Int→Prop},o<5→c (x5.getD o 0)→aN .i64 w133 (aY ⟨gx,0,none⟩ o) c:=by
      intro o c ho hc;have:=cn (g:=gx) (o:=o) (k:= .i64) (n:=x5.getD o 0) (c:=c) h (by simpa using m0 (x:=x5) (j:=o) ah) hc
      rw[cY,Nat.zero_add];exact this
     refine bS (λb w'=>b=decide (fW x5=8∧0≤x5.getD 1 0∧x5.getD 1 0<8)∧w'=w133) (λJ hJ=> ?_) ?_
     ·refine ld ah (ay (λhb=> ?_) λhb=> ?_)
      ·have hb':fW x5=8:=by simpa using hb
       refine ld ah (ay (λjL=> ?_) λjL=> ?_)
       ·refine ld ah (hJ _ _ ⟨?_,rfl⟩);have:=of_decide_eq_true jL;rw[decide_eq_decide];exact⟨λh=>⟨hb',this,h⟩,λh=>h.2.2⟩
       ·have:=of_decide_eq_false jL;exact hJ _ _ ⟨(decide_eq_false λh=>this h.2.1).symm,rfl⟩
      ·have hb':¬fW x5=8:=by simpa using hb
       exact hJ _ _ ⟨(decide_eq_false λh=>hb' h.1).symm,rfl⟩
     rintro b w139 ⟨rfl,rfl⟩;have e1:(ints F.todo).drop ((1:Int).toNat*1)=ints t:=by rw[Yd];rfl
     simp only[e1]at h;have h:St w w139 [L3 g (s,{F with todo:=t}),ax gh [.int .i64 (F.held.getD i.toNat 0)],ax gx (Go.Ev.ints x5),ax gp [.pointer (some ⟨g,0,none⟩)],Iu x.2,ax ga [.int .i64 aX,.slice s.a s.n s.c]]:=
      U8 (F:={F with todo:=t}) (s1:=t1) (s2:=t2) (s3:=d) (h.perm GP)
     refine bS (λ_ w'=>St w w' [L3 g (s,{F with todo:=t}),ax gh [.int .i64 (L4 x5 (F.held.getD i.toNat 0))],ax gx (Go.Ev.ints x5),ax gp [.pointer (some ⟨g,0,none⟩)],Iu x.2,ax ga [.int .i64 aX,.slice s.a s.n s.c]]) (λJ hJ=> ?_) λ_ w147 h=> ?_
     ·refine ay (λhb=> ?_) λhb=> ?_
      ·have hb':=of_decide_eq_true hb;refine aF h λw137 h=>cn (g:=gh) (o:=0) h rfl ?_;have ld2:=cn (g:=gx) (o:=1) (k:= .i64) (n:=x5.getD 1 0) (c:=λi143=>G9 .i64 1 i143 λi144=>bJ w137 ⟨gh,0,none⟩ (.int .i64 (Sx .i64 (F.held.getD i.toNat 0) i144)) λw141=>J () w141) h (m0 ah);refine ld2 ⟨hb'.2.1,?_⟩;refine jY (g:=gh) (o:=0) h rfl bc λw141 h=>hJ () _ ?_;unfold L4;rw[if_pos hb'];exact h
      ·have hb':=of_decide_eq_false hb;refine hJ () _ ?_;unfold L4;rw[if_neg hb'];exact h
     refine ea (g:=ga) (o:=1) h rfl ?_;have hF1:Fl.OK l.length {F with todo:=t}:=⟨hF.held,hF.pA,hF.bits,λz hz=>hF.todo z (by rw[Yd];simp[hz])⟩
     have hm1:Fl.mu {F with todo:=t}≤F.mu:=by simp only[Fl.mu,Yd,List.length_cons];omega
     have hst:F.step l=Fl.meets (L4 x5 (F.held.getD i.toNat 0)) {F with todo:=t} (behind l.length i x5):=by
      have e:l.getD i.toNat []=x5:=by simp[hx]
      unfold Fl.step;rw[Yd];simp only[e]
     have Im:=asy (l:=l) ah hF (by rw[Yd];simp)
     have h:=(h.rm 2 rfl).perm (M:=[ax gh [.int .i64 (L4 x5 (F.held.getD i.toNat 0))],L3 g (s,{F with todo:=t}),ax gp [.pointer (some ⟨g,0,none⟩)],Iu x.2,ax ga [.int .i64 aX,.slice s.a s.n s.c]]) GP;refine awq (g:=g) (gp:=gp) (gh:=gh) (ga:=ga) (x:=x5) (ds:=x.2) h hr hF1 ah ah hi.1 hx λD w'' h=> ?_;rw[←hst]at h;exact hC (F.step l) _ _ ⟨Im.1,ah,⟨m+1,by show F.step l=(Fl.steps l m _).step l;rw[←hm]⟩,h⟩ Im.2
structure Wy where
 out:List Bool
 todo:List Int
def wV(x:List Int)(h:Int):Bool:=(fW x==8)&&(x.getD 1 0==h)
def W0(n:Nat):Wy:=⟨(dM n false).set 0 true,[0]⟩
inductive Way (l:List (List Int)) (h:Int):Int→Prop
 |zero:Way l h 0
 |next {i z:Int}:Way l h i→wV (l.getD i.toNat []) h=false→z∈behind l.length i (l.getD i.toNat [])→Way l h z
theorem JV(x y:Int){i:Nat}(h:i<64):tb (oC .i64 x y) i=(tb x i&&tb y i):=by
 unfold tb;rw[P3,CZ];simp
theorem azP(x y:Int){i:Nat}(h:i<64):tb (Sx .i64 x y) i=(tb x i||tb y i):=by
 unfold tb;rw[ae1,CZ];simp
theorem af0{a:Int}{h:Nat}(h0:0≤a)(h1:a<8)(hh:h<8):tb (rX .i64 1 a) h=decide (a=(h:Int)):=by
 have key:∀a:Nat,a<8→∀h:Nat,h<8→tb (rX .i64 1 (a:Int)) h=decide (a=h):=fY;have:=key a.toNat ah h hh;rw[Int.toNat_of_nonneg h0]at this;rw[this,decide_eq_decide];omega
theorem asA{h:Nat}(hh:h<8):tb 255 h=true:=by
 have key:∀h:Nat,h<8→tb 255 h=true:=fY;exact key h hh
theorem af1{x:List Int}{v:Int}{h:Nat}(hh:h<8):tb (L4 x v) h=(tb v h||wV x h):=by
 unfold L4 wV;by_cases ho:fW x=8
 ·by_cases ha:0≤x.getD 1 0∧x.getD 1 0<8
  ·rw[if_pos ⟨ho,ha⟩,azP _ _ ah,af0 ha.1 ha.2 hh];congr 1;have e8:(fW x==8)=true:=by simpa using ho
   rw[e8,Bool.true_and];rfl
  ·rw[if_neg (λq=>ha q.2)];have:(x.getD 1 0==(h:Int))=false:=by
    rw[beq_eq_false_iff_ne];intro e;exact ha ⟨ah,ah⟩
   rw[this];simp
 ·rw[if_neg (λq=>ho q.1)];have:(fW x==8)=false:=by simpa using ho
  rw[this];simp
def rs(f:Nat→Bool):Nat→Int
 |0=>0
 |h+1=>rs f h+if f h then 2 ^ h else 0
theorem So{f g:Nat→Bool}:∀{n:Nat},(∀h,h<n→f h=g h)→rs f n=rs g n
 |0,_=>rfl
 |n+1,hfg=>by simp only[rs];rw[So (n:=n) λh hh=>hfg h ah,hfg n ah]
theorem ake{v:Int}(h0:0≤v)(h1:v≤255):rs (tb v) 8=v:=by
 have key:∀n:Fin 256,rs (tb ((n.val:Nat):Int)) 8=((n.val:Nat):Int):=fY;have:=key ⟨v.toNat,ah⟩;simp only at this;rwa[Int.toNat_of_nonneg h0]at this
theorem akf(f:Nat→Bool):∀n:Nat,0≤rs f n∧rs f n<2 ^ n
 |0=>by simp[rs]
 |n+1=>by
  have:=akf f n;simp only[rs];rw[Int.pow_succ];split<;>omega
theorem azQ{f:Nat→Bool}{h:Nat}(hh:h<8):tb (rs f 8) h=f h:=by
 have key:∀a b c d e f g i:Bool,∀h:Nat,h<8→tb (rs (λn=>([a,b,c,d,e,f,g,i].getD n false)) 8) h=([a,b,c,d,e,f,g,i].getD h false):=fY;have:=key (f 0) (f 1) (f 2) (f 3) (f 4) (f 5) (f 6) (f 7) h hh;rw[show rs f 8=rs (λn=>([f 0,f 1,f 2,f 3,f 4,f 5,f 6,f 7].getD n false)) 8 from So λh hh=>by
  match h,hh with
  |0,_=>rfl
  |1,_=>rfl
  |2,_=>rfl
  |3,_=>rfl
  |4,_=>rfl
  |5,_=>rfl
  |6,_=>rfl
  |7,_=>rfl,this]
 match h,hh with
  |0,_=>rfl
  |1,_=>rfl
  |2,_=>rfl
  |3,_=>rfl
  |4,_=>rfl
  |5,_=>rfl
  |6,_=>rfl
  |7,_=>rfl
open Classical in
noncomputable def Yj (l:List (List Int)) (aX i:Int) (h:Nat):Bool:=tb aX h|| !decide (Way l h i)
noncomputable def rE (l:List (List Int)) (aX:Int):List Int:=(List.range l.length).map fun(i:Nat)=>rs (Yj l aX (i:Int)) 8
theorem U9(l:List (List Int))(aX:Int):(rE l aX).length=l.length:=by simp[rE]
theorem abS{l:List (List Int)}{aX:Int}{i:Nat}(h:i<l.length):(rE l aX).getD i 0=rs (Yj l aX i) 8:=by
 simp[rE,h]
theorem Va{l:List (List Int)}{aX i:Int}{h:Nat}:Yj l aX i h=true↔(tb aX h=true∨¬Way l h i):=by
 unfold Yj;simp
section
variable {n:Nat} {F:Fl} {z hv:Int}
theorem meet_mono(hF:F.OK n)(h0:0≤z)(h1:z<n){j h:Nat}(hh:h<8):
  (F.pA.getD j false=true→(F.meet z hv).pA.getD j false=true)∧(tb (F.held.getD j 0) h=false→tb ((F.meet z hv).held.getD j 0) h=false)∧(∀y∈F.todo,y∈(F.meet z hv).todo):=by
 unfold Fl.meet;split
 ·exact⟨id,id,λ_ h=>h⟩
 ·have hz:z.toNat<F.held.length:=by rw[hF.held];omega
  have hzc:z.toNat<F.pA.length:=by rw[hF.pA];omega
  refine⟨λhc=> ?_,λhb=> ?_,λy hy=>List.mem_append_left _ hy⟩
  ·simp only[nI,List.getElem?_set];split
   ·simp[hzc]
   ·simpa using hc
  ·simp only[nI,List.getElem?_set];split
   ·rename_i e;subst e;simp only[hz,↓reduceIte,Option.getD_some];unfold Fl.now;rw[JV _ _ ah,hb];rfl
   ·simpa using hb
theorem akg(hF:F.OK n)(h0:0≤z)(h1:z<n){j:Nat}:
  ((F.meet z hv).held.getD j 0=F.held.getD j 0∧(F.meet z hv).pA.getD j false=F.pA.getD j false)∨(j:Int)∈(F.meet z hv).todo:=by
 unfold Fl.meet;split
 ·exact .inl ⟨rfl,rfl⟩
 ·by_cases e:z.toNat=j
  ·right;have:(j:Int)=z:=ah;rw[this];simp
  ·left;simp[nI,List.getElem?_set,e]
theorem akh(hF:F.OK n)(h0:0≤z)(h1:z<n){h:Nat}(hh:h<8):
  (F.meet z hv).pA.getD z.toNat false=true∧(tb hv h=false→tb ((F.meet z hv).held.getD z.toNat 0) h=false):=by
 have hz:z.toNat<F.held.length:=by rw[hF.held];omega
 have hzc:z.toNat<F.pA.length:=by rw[hF.pA];omega
 unfold Fl.meet;split
 ·rename_i hs;unfold Fl.stay at hs;simp only[iZ,beq_iff_eq]at hs;refine⟨hs.1,λhb=> ?_⟩;rw[←hs.2];unfold Fl.now;rw[JV _ _ ah,hb,Bool.and_false]
 ·refine⟨by simp[nI,hzc],λhb=> ?_⟩
  simp only[nI,List.getElem?_set,hz,↓reduceIte,Option.getD_some];unfold Fl.now;rw[JV _ _ ah,hb,Bool.and_false]
theorem ahW(hF:F.OK n)(h0:0≤z)(h1:z<n){j h:Nat}(hh:h<8)(hb:tb ((F.meet z hv).held.getD j 0) h=false):tb (F.held.getD j 0) h=false∨((j:Int)=z∧tb hv h=false):=by
 have hz:z.toNat<F.held.length:=by rw[hF.held];omega
 unfold Fl.meet at hb;split at hb
 ·exact .inl hb
 ·by_cases e:z.toNat=j
  ·subst e;simp only[nI,List.getElem?_set,hz,↓reduceIte,Option.getD_some]at hb;unfold Fl.now at hb;rw[JV _ _ ah]at hb;simp only[Bool.and_eq_false_iff]at hb;rcases hb with hb|hb
   ·exact .inl hb
   ·exact .inr ⟨ah,hb⟩
  ·left;simpa[nI,List.getElem?_set,e]using hb
end
theorem vv{n:Nat}{hv:Int}{j h:Nat}(hh:h<8):∀{zs:List Int} {F:Fl},F.OK n→(∀z∈zs,0≤z∧z<n)→
  (F.pA.getD j false=true→(F.meets hv zs).pA.getD j false=true)∧(tb (F.held.getD j 0) h=false→tb ((F.meets hv zs).held.getD j 0) h=false)∧(∀y∈F.todo,y∈(F.meets hv zs).todo)
 |[],F,_,_=>⟨id,id,λ_ h=>h⟩
 |z::zs,F,hF,hz=>by
  have NQ:=hz z bc;have h1:=meet_mono (hv:=hv) hF NQ.1 NQ.2 (j:=j) hh;have h2:=vv (hv:=hv) (j:=j) hh (zs:=zs) (IW (hv:=hv) hF NQ.1 NQ.2).1 λy hy=>hz y (by simp[hy])
  exact⟨λq=>h2.1 (h1.1 q),λq=>h2.2.1 (h1.2.1 q),λy hy=>h2.2.2 y (h1.2.2 y hy)⟩
theorem Y7{n:Nat}{hv:Int}{j:Nat}:∀{zs:List Int} {F:Fl},F.OK n→(∀z∈zs,0≤z∧z<n)→
  ((F.meets hv zs).held.getD j 0=F.held.getD j 0∧(F.meets hv zs).pA.getD j false=F.pA.getD j false)∨(j:Int)∈(F.meets hv zs).todo
 |[],F,_,_=> .inl ⟨rfl,rfl⟩
 |z::zs,F,hF,hz=>by
  have NQ:=hz z bc;have hok:=(IW (hv:=hv) hF NQ.1 NQ.2).1;have hzs:∀y∈zs,0≤y∧y<n:=λy hy=>hz y (by simp[hy])
  rcases akg (hv:=hv) hF NQ.1 NQ.2 (j:=j)with h1|h1
  ·rcases Y7 (hv:=hv) (j:=j) (zs:=zs) hok hzs with h2|h2
   ·exact .inl ⟨h2.1.trans h1.1,h2.2.trans h1.2⟩
   ·exact .inr h2
  ·exact .inr ((vv (h:=0) (j:=j) ah (zs:=zs) hok hzs).2.2 _ h1)
theorem RG{n:Nat}{hv:Int}{h:Nat}(hh:h<8):∀{zs:List Int} {F:Fl},F.OK n→(∀z∈zs,0≤z∧z<n)→∀z∈zs,
  (F.meets hv zs).pA.getD z.toNat false=true∧(tb hv h=false→tb ((F.meets hv zs).held.getD z.toNat 0) h=false)
 |[],F,_,_=>λz hz=>by cases hz
 |z::zs,F,hF,hz=>by
  have NQ:=hz z bc;have hok:=(IW (hv:=hv) hF NQ.1 NQ.2).1;have hzs:∀y∈zs,0≤y∧y<n:=λy hy=>hz y (by simp[hy])
  intro y hy;rcases List.mem_cons.1 hy with rfl|hy
  ·have h1:=akh (hv:=hv) hF NQ.1 NQ.2 hh;have h2:=vv (hv:=hv) (j:=y.toNat) hh (zs:=zs) hok hzs;exact⟨h2.1 h1.1,λq=>h2.2.1 (h1.2 q)⟩
  ·exact RG (hv:=hv) hh (zs:=zs) hok hzs y hy
theorem WZ{n:Nat}{hv:Int}{j h:Nat}(hh:h<8):∀{zs:List Int} {F:Fl},F.OK n→(∀z∈zs,0≤z∧z<n)→tb ((F.meets hv zs).held.getD j 0) h=false→
  tb (F.held.getD j 0) h=false∨((j:Int)∈zs∧tb hv h=false)
 |[],F,_,_=>λh=> .inl h
 |z::zs,F,hF,hz=>by
  have NQ:=hz z bc;have hok:=(IW (hv:=hv) hF NQ.1 NQ.2).1;have hzs:∀y∈zs,0≤y∧y<n:=λy hy=>hz y (by simp[hy])
  intro hb;rcases WZ (hv:=hv) (j:=j) hh (zs:=zs) hok hzs hb with h1|h1
  ·rcases ahW (hv:=hv) hF NQ.1 NQ.2 hh h1 with h2|h2
   ·exact .inl h2
   ·exact .inr ⟨by simp[h2.1],h2.2⟩
  ·exact .inr ⟨by simp[h1.1],h1.2⟩
structure FI (l:List (List Int)) (aX:Int) (F:Fl):Prop where
 ok:F.OK l.length
 c0:F.pA.getD 0 false=true
 b0:∀h:Nat,h<8→tb aX h=false→tb (F.held.getD 0 0) h=false
 sound:∀i h:Nat,i<l.length→h<8→tb (F.held.getD i 0) h=false→tb aX h=false∧Way l h i
 ayd:∀i:Nat,i<l.length→F.pA.getD i false=true→(i:Int)∈F.todo∨∀z∈behind l.length i (l.getD i []),F.pA.getD z.toNat false=true∧∀h:Nat,h<8→tb (L4 (l.getD i []) (F.held.getD i 0)) h=false→tb (F.held.getD z.toNat 0) h=false
theorem FI.start{l:List (List Int)}{aX:Int}(hl:0<l.length):FI l aX ((Ea l.length).meet 0 (oC .i64 aX 255)):=by
 have h0:=amq l.length;have hok:=(IW (hv:=oC .i64 aX 255) (i:=0) h0 ah ah).1;have e:(Ea l.length).meet 0 (oC .i64 aX 255)=⟨(dM l.length 255).set 0 (oC .i64 255 (oC .i64 aX 255)),(dM l.length false).set 0 true,[0]⟩:=by
  have hs:(Ea l.length).stay 0 (oC .i64 aX 255)=false:=by simp[Fl.stay,Ea,hl]
  unfold Fl.meet;rw[hs];simp[Ea,Fl.now,hl]
 have hhe:∀i:Nat,i<l.length→((Ea l.length).meet 0 (oC .i64 aX 255)).held.getD i 0=if i=0 then oC .i64 255 (oC .i64 aX 255)else 255:=by
  intro i hi;rw[e];simp only[nI,List.getElem?_set];by_cases hz:i=0
  ·subst hz;simp[hl]
  ·have:¬0=i:=λq=>hz q.symm;simp[hz,this,hi]
 refine⟨hok,by rw[e];simp[hl],λh hh hb=> ?_,λi h hi hh hb=> ?_,λi hi hc=> ?_⟩
 ·rw[hhe 0 hl,if_pos rfl,JV _ _ ah,JV _ _ ah,hb];simp
 ·rw[hhe i hi]at hb;split at hb
  ·rename_i hz;subst hz;rw[JV _ _ ah,JV _ _ ah,asA hh]at hb;exact⟨by simpa using hb,.zero⟩
  ·rw[asA hh]at hb;cases hb
 ·left;rw[e]at hc ⊢;simp only[nI,List.getElem?_set]at hc;by_cases hz:i=0
  ·subst hz;simp
  ·have:¬0=i:=λq=>hz q.symm;simp[this,hi]at hc
theorem FI.step{l:List (List Int)}{aX:Int}{F:Fl}(hn:l.length≤4294967296)(h:FI l aX F):FI l aX (F.step l):=by
 unfold Fl.step;cases ht:F.todo with
 |nil=>exact h
 |cons i t=>
  have hi:=h.ok.todo i (by rw[ht];simp)
  have hok:Fl.OK l.length {F with todo:=t}:=⟨h.ok.held,h.ok.pA,h.ok.bits,λz hz=>h.ok.todo z (by rw[ht];simp[hz])⟩
  have hzs:=IX (x:=l.getD i.toNat []) hn hi.1 hi.2;have hin:i.toNat<l.length:=ah;have hii:((i.toNat:Nat):Int)=i:=Int.toNat_of_nonneg hi.1;refine⟨(Sn hok hzs).1,(vv (h:=0) ah hok hzs).1 h.c0,λh' hh hb=>(vv hh hok hzs).2.1 (h.b0 h' hh hb),λj h' hj hh hb=> ?_,λj hj hc=> ?_⟩
  ·rcases WZ hh hok hzs hb with h1|⟨hjz,h1⟩
   ·exact h.sound j h' hj hh h1
   ·rw[af1 hh]at h1;simp only[kx]at h1;have:=h.sound i.toNat h' hin hh h1.1;rw[hii]at this;exact⟨this.1,this.2.next h1.2 hjz⟩
  ·rcases Y7 (j:=j) (hv:=L4 (l.getD i.toNat []) (F.held.getD i.toNat 0)) hok hzs with⟨h1,h2⟩|h1
   ·rw[h2]at hc;rw[h1];by_cases hji:j=i.toNat
    ·subst hji;right;intro z hz;rw[hii]at hz;exact⟨(RG (h:=0) ah hok hzs z hz).1,λh' hh hb=>(RG hh hok hzs z hz).2 hb⟩
    ·rcases h.ayd j hj hc with h3|h3
     ·left;rw[ht]at h3;rcases List.mem_cons.1 h3 with h3|h3
      ·omega
      ·exact(vv (h:=0) (j:=0) ah hok hzs).2.2 _ h3
     ·right;intro z hz;exact⟨(vv (h:=0) ah hok hzs).1 (h3 z hz).1,λh' hh hb=>(vv hh hok hzs).2.1 ((h3 z hz).2 h' hh hb)⟩
   ·exact .inl h1
theorem FI.steps{l:List (List Int)}{aX:Int}(hn:l.length≤4294967296){F:Fl}(h:FI l aX F):∀m,FI l aX (Fl.steps l m F)
 |0=>h
 |m+1=>(FI.steps hn h m).step hn
theorem FI.way{l:List (List Int)}{aX:Int}{F:Fl}(hn:l.length≤4294967296)(hl:0<l.length)(h:FI l aX F)(ht:F.todo=[]){h':Nat}(hh:h'<8)(hb:tb aX h'=false){i:Int}(hw:Way l h' i):
  (0≤i∧i<l.length)∧F.pA.getD i.toNat false=true∧tb (F.held.getD i.toNat 0) h'=false:=by
 induction hw with
 |zero=>exact⟨⟨ah,ah⟩,h.c0,h.b0 h' hh hb⟩
 |@next i z hw hf hz ih=>
  obtain⟨hi,hc,hbi⟩:=ih;have hin:i.toNat<l.length:=ah;have hii:((i.toNat:Nat):Int)=i:=Int.toNat_of_nonneg hi.1;have:=IX (x:=l.getD i.toNat []) hn hi.1 hi.2 z hz;rcases h.ayd i.toNat hin hc with h3|h3
  ·rw[ht]at h3;cases h3
  ·rw[hii]at h3;have h4:=h3 z hz;refine⟨this,h4.1,h4.2 h' hh ?_⟩;rw[af1 hh,hbi,hf];rfl
theorem aea{l:List (List Int)}{aX:Int}{F:Fl}(hn:l.length≤4294967296)(hR:Reached l aX F):F.held=rE l aX:=by
 by_cases hl:l=[]
 ·subst hl;rw[hR.2.1 rfl];simp[Ea,rE]
 ·obtain⟨m,hm⟩:=hR.2.2 hl;have hpos:0<l.length:=List.length_pos_iff.2 hl;have hI:FI l aX F:=by rw[hm];exact(FI.start hpos).steps hn m
  refine List.ext_getElem (by rw[hI.ok.held,U9]) λi h1 h2=> ?_
  have hi:i<l.length:=by rw[hI.ok.held]at h1;exact h1
  have e1:F.held[i]=F.held.getD i 0:=by simp[h1]
  have e2:(rE l aX)[i]=rs (Yj l aX i) 8:=by rw[←abS hi];simp[h2]
  have ZH:=hI.ok.bits F.held[i] (List.getElem_mem h1);rw[e2,←ake ZH.1 ZH.2];refine So λh hh=> ?_;rw[e1];cases hb:Yj l aX i h with
  |true=>
   cases jL:tb (F.held.getD i 0) h with
   |true=>rfl
   |false=>
    have:=hI.sound i h hi hh jL;rcases Va.1 hb with h3|h3
    ·rw[this.1]at h3;cases h3
    ·exact(h3 this.2).elim
  |false=>
   have ux:¬(tb aX h=true∨¬Way l h i):=by rw[←Va,hb];simp
   have E7:tb aX h=false:=by
    cases q:tb aX h with
    |true=>exact(ux (.inl q)).elim
    |false=>rfl
   have hw:Way l h i:=Classical.byContradiction λq=>ux (.inr q);have:=(hI.way hn hpos hR.1 hh E7 hw).2.2;rwa[kR]at this
end Go.Proofs.YthidhjhkmjjckaaGreatDoor.Ck
namespace Go.Proofs.YthidhjhkmjjckaaGreatDoor.Ck
open Go Go.Ev Go.Proofs
theorem asB{w:World}{s:Sl}{aX:Int}{l:List (List Int)}{k:Sl→aq}(hr:tr w s l)(hn:l.length≤1000)
  (hc:∀s' w',St w w' [bP 1 s' (ints (rE l aX))]→s'.n=l.length→k s' w'):pb #[.int .i64 aX,.slice s.a s.n s.c] w k:=by
 have xg:=hr.len;refine awr hr ah λF s' w' hR h=> ?_;rw[aea ah hR]at h;have hl:(rE l aX).length=s'.n:=by have:=h.FU (sz:=1) (s:=s') (vs:=ints (rE l aX));simpa using this
 exact hc s' w' h (by rw[←hl,U9])
def IY:List Int:=[1,0,0,5,1,1,0,0,1,1,1,0,1,1,1,0,1,1,1,0,1,1,1,0,0,0,0,2,1,0,0,2,1,0,0,3,1,1,0,0,1,1,1,0,0,0,0,4,1,0,0,0,0,0,0,0,0,0,0,0,1,0,0,0,1,0,0,0]
def kinds(op:Int):List Int:=(IY.drop (op.toNat*4)).take 4
theorem qy(l:List Int):∀v∈eU l,v.oneCell'=true:=by
 intro v hv;exact H8 v (by simpa[eU]using hv)
theorem RA{w:World}{op:Int}{k:Array Value→aq}(h0:0≤op)(h1:op<17)(hc:∀w',St w w' []→k (eU (kinds op)) w'):l6 op w k:=by
 unfold l6;refine av (.nil w) λg1 w2 h=> ?_;iterate 16 refine⟨rfl,?_⟩
 refine qK (eU IY) rfl be ?_;refine av h λg2 w21 h=> ?_;refine m8 (g:=g2) h rfl be (qy _) λw22 h=> ?_;refine tU h0 ah ?_;refine qz (g:=g2) h (by simp[ints,IY];omega) ?_
 have e:(List.take 4 (List.drop (0+op.toNat*4) (eU IY).toList))=ints (kinds op):=by
  simp[kinds,ints,eU,List.map_take,List.map_drop]
 rw[e];have hl:(kinds op).length=4:=by simp[kinds,IY];omega
 refine m8 (g:=g1) h rfl (by simp[ints,hl]) (qy _) λw25 h=> ?_
 refine jZ (g:=g1) h (by simp[ints,hl]) ?_
 exact hc _ h.all
def pP(kd:Int):Int×Int:=cond (kd==1) (0,7) (cond (kd==2) (0,127) (cond (kd==3) (0,31) (cond (kd==4) (0,65535) (cond (kd==5) (-2147483648,2147483647) (0,0)))))
theorem afO{w:World}{kd:Int}{k:Int×Int→aq}(hc:k (pP kd) w):rz kd w k:=by
 unfold rz;unfold pP at hc;revert hc;cases (kd==1)<;>cases (kd==2)<;>cases (kd==3)<;>cases (kd==4)<;>cases (kd==5)<;>exact id
def fit(x ks:List Int)(j:Nat):Bool:= !(decide (x.getD (j+1) 0<(pP (ks.getD j 0)).1)||decide (x.getD (j+1) 0>(pP (ks.getD j 0)).2))
def fits(x ks:List Int):Bool:=(List.range 4).all (fit x ks)
def oP(x:List Int):Int:=if fW x<0∨17≤fW x then 13 else if fits x (kinds (fW x))then 0 else 10
theorem anX{x ks:List Int}(h:∀j,j<4→fit x ks j=true):fits x ks=true:=by
 unfold fits;rw[xz];intro j hj;exact h j (by simpa using hj)
theorem anY{x ks:List Int}{j:Nat}(hj:j<4)(h:fit x ks j=false):fits x ks=false:=by
 unfold fits;rw[List.all_eq_false];exact⟨j,by simpa using hj,by simp[h]⟩
theorem anZ{w:World}{x:List Int}{k:Int→aq}(h5:x.length=5)(hc:∀w',St w w' []→k (oP x) w'):eW (eU x) w k:=by
 obtain⟨o,a,b,c,n,rfl⟩:∃o a b c n,x=[o,a,b,c,n]:=by
  match x,h5 with
  |[o,a,b,c,n],_=>exact⟨o,a,b,c,n,rfl⟩
 unfold eW FF;refine av (.nil w) λg1 w2 h=> ?_;refine bS (λb w'=>b=decide (o<0∨17≤o)∧w'=w2) (λJ hJ=> ?_) ?_
 ·refine cn (g:=g1) (o:=0) h rfl (ay (λhb=> ?_) λhb=> ?_)
  ·have:=of_decide_eq_true hb;exact hJ _ _ ⟨(decide_eq_true (.inl this)).symm,rfl⟩
  ·have:=of_decide_eq_false hb;refine cn (g:=g1) (o:=0) h rfl (hJ _ _ ⟨?_,rfl⟩);rw[decide_eq_decide];omega
 rintro b1 w7 ⟨rfl,rfl⟩;refine ay (λhb=> ?_) λhb=> ?_
 ·have:=of_decide_eq_true hb;have e:oP [o,a,b,c,n]=13:=if_pos this;have:=hc w7 h.all;rwa[e]at this
 ·have hno:=of_decide_eq_false hb;have e:oP [o,a,b,c,n]=if fits [o,a,b,c,n] (kinds o)then 0 else 10:=if_neg hno
  rw[e]at hc;have hl:(kinds o).length=4:=by simp[kinds,IY];omega
  refine cn (g:=g1) (o:=0) h rfl ?_;refine RA ah ah λw10 h2=> ?_;have h:=h.on h2.ext;refine av h λg2 w12 h=> ?_;refine m8 (g:=g2) h rfl (by simp[ints,hl]) (qy _) λw13 h=> ?_
  refine cn (g:=g1) (o:=1) h rfl (cn (g:=g1) (o:=2) h rfl (cn (g:=g1) (o:=3) h rfl (cn (g:=g1) (o:=4) h rfl ?_)));refine og (fun(y:Int×Int) w'=> ∃j:Nat,y=(0,(j:Int))∧j≤4∧(∀i,i<j→fit [o,a,b,c,n] (kinds o) i=true)∧w'=w13) (λy _=>(4 - y.2).toNat) ⟨0,rfl,ah,λi hi=>by omega,rfl⟩ ?_
  rintro _ _ ⟨j,rfl,hj4,hfit,rfl⟩ C hC;refine ay (λhb=> ?_) λhb=> ?_
  ·have hj:j<4:=by have:=of_decide_eq_true hb;dsimp only at this;omega
   have Sz:aG .i64 ((j:Int)+1)=((j+1:Nat):Int):=by rw[cT ⟨ah,ah⟩];simp
   refine apG (l:=[a,b,c,n]) (by dsimp only;omega) (by dsimp only;omega) rfl (Io ?_)
   refine tU (by dsimp only;omega) (by dsimp only;omega) ?_
   refine cn (g:=g2) (o:=0+(j:Int).toNat*1) (n:=(kinds o).getD j 0) h (by rw[show 0+(j:Int).toNat*1=j by omega];exact vB ah) ?_
   refine afO ?_;have ef:[a,b,c,n].getD (j:Int).toNat 0=[o,a,b,c,n].getD (j+1) 0:=by rw[kR];rfl
   dsimp only;rw[ef];have ed:(decide ([o,a,b,c,n].getD (j+1) 0<(pP ((kinds o).getD j 0)).1)||decide ([o,a,b,c,n].getD (j+1) 0>(pP ((kinds o).getD j 0)).2))= !(fit [o,a,b,c,n] (kinds o) j):=by unfold fit;rw[Bool.not_not]
   rw[ed];refine ay (λhb=> ?_) λhb=> ?_
   ·have hf:fit [o,a,b,c,n] (kinds o) j=false:=by simpa using hb
    have:=hc _ h.all;rw[anY hj hf]at this;exact this
   ·have hf:fit [o,a,b,c,n] (kinds o) j=true:=by simpa using hb
    rw[Sz];refine hC _ _ ⟨j+1,rfl,hj,λi hi=> ?_,rfl⟩ (by dsimp only;omega)
    by_cases e:i=j
    ·rw[e];exact hf
    ·exact hfit i ah
  ·have hj:j=4:=by have:=of_decide_eq_false hb;dsimp only at this;omega
   subst hj;have:=hc _ h.all;rw[anX hfit]at this;exact this
def oB:Nat→List (List Int)→Int×Int
 |_,[]=>(0,0)
 |i,x::l=>if oP x !=0 then((i:Int),oP x)else oB (i+1) l
def rp(aX:Int)(l:List (List Int)):Int×Int:=
 if decide (aX<0)||decide (aX>255)then(-1,10)else if decide (l.length<1)||decide (l.length>128)then(-1,12)else oB 0 l
theorem abT{l dn rest:List (List Int)}{x:List Int}(hl:l=dn++x::rest)(hd:oB 0 l=oB dn.length (x::rest))(hx:(oP x !=0)=false):oB 0 l=oB (dn++[x]).length rest:=by
 rw[hd];simp[oB,hx]
theorem asC{w:World}{s:Sl}{aX:Int}{l:List (List Int)}{k:Int×Int→aq}(hr:tr w s l)
  (hc:∀w',St w w' []→k (rp aX l) w'):qH #[.int .i64 aX,.slice s.a s.n s.c] w k:=by
 have xg:=hr.len;unfold qH IG;refine av (.nil w) λg w2 h=> ?_;refine bS (λb w'=>b=(decide (aX<0)||decide (aX>255))∧w'=w2) (λJ hJ=> ?_) ?_
 ·refine cn (g:=g) (o:=0) h rfl (ay (λhb=> ?_) λhb=> ?_)
  ·exact hJ _ _ ⟨by rw[hb];rfl,rfl⟩
  ·refine cn (g:=g) (o:=0) h rfl (hJ _ _ ⟨by rw[hb];rfl,rfl⟩)
 rintro b1 w7 ⟨rfl,rfl⟩;unfold rp at hc;refine ay (λhb=> ?_) λhb=> ?_
 ·rw[hb]at hc;exact hc _ h.all
 ·rw[hb]at hc;refine bS (λb w'=>b=(decide (l.length<1)||decide (l.length>128))∧w'=w7) (λJ hJ=> ?_) ?_
  ·have e1:decide (((s.n:Nat):Int)<1)=decide (l.length<1):=by rw[decide_eq_decide];omega
   have e2:decide (((s.n:Nat):Int)>128)=decide (l.length>128):=by rw[decide_eq_decide];omega
   refine ea (g:=g) (o:=1) h rfl (ay (λhb=> ?_) λhb=> ?_)
   ·exact hJ _ _ ⟨by rw[←e1];dsimp only at hb;rw[hb];rfl,rfl⟩
   ·refine ea (g:=g) (o:=1) h rfl (hJ _ _ ⟨by rw[←e1,←e2];dsimp only at hb;rw[hb];rfl,rfl⟩)
  rintro b2 w12 ⟨rfl,rfl⟩;refine ay (λjL=> ?_) λjL=> ?_
  ·rw[jL]at hc;exact hc _ h.all
  ·rw[jL]at hc;have aEQ:l.length≤128:=by
    rw[kx]at jL;have:=of_decide_eq_false jL.2;omega
   refine ea (g:=g) (o:=1) h rfl ?_;refine og (fun(i:Int) w'=> ∃dn rest,l=dn++rest∧i=(dn.length:Int)∧oB 0 l=oB dn.length rest∧St w w' []) (λi _=>((s.n:Int) - i).toNat) ⟨[],l,rfl,rfl,rfl,h.all⟩ ?_;rintro _ w16 ⟨dn,rest,hl,rfl,hd,h⟩ C hC;cases rest with
   |nil=>
    refine bh (by simp only[decide_eq_false_iff_not];rw[xg,hl];simp) ?_
    rw[hd]at hc;exact hc _ h
   |cons x rest=>
    have hlen:l.length=dn.length+(rest.length+1):=by rw[hl];simp
    have Mx:aG .i64 ((dn.length:Int)+1)=((dn++[x]).length:Int):=by rw[cT ⟨ah,ah⟩];simp
    refine bO (by simp only[decide_eq_true_eq];omega) ?_
    refine ixC (hr.ext h.ext) hl rfl λp h5 hcell=>GO (by simp[Go.Ev.ints,h5]) hcell ?_
    refine av h λg2 w20 h=>m8 (g:=g2) h rfl (by simp[Go.Ev.ints,h5]) (qy _) λw21 h=>jZ (g:=g2) h (by simp[Go.Ev.ints,h5]) ?_
    refine anZ h5 λw24 h2=> ?_;have h:=h.all.on h2.ext;refine ay (λsx=> ?_) λsx=> ?_
    ·have e:oB dn.length (x::rest)=((dn.length:Int),oP x):=by unfold oB;rw[sx];rfl
     rw[hd,e]at hc;exact hc _ h
    ·rw[Mx];exact hC _ _ ⟨dn++[x],rest,by rw[hl];simp,rfl,abT hl hd sx,h⟩ (by simp;omega)
def Gx(nf n:Nat)(x:List Int):Int:=if (pU x&&decide (x.getD 4 0≥n))||((fW x==8)&&decide (x.getD 4 0≥nf))then 10 else 0
def aki(n:Nat)(i:Nat)(x:List Int):Int:=if ((i:Int)==(n:Int) - 1)&&(fW x !=6)&& !D7 x then 11 else 0
def sr(D:List Int)(i:Nat)(x:List Int):Bool:=
 if (fW x==12)||(fW x==13)then decide (D.getD i 0≥1)else if fW x==16 then D.getD i 0==0 else if pU x then D.getD (x.getD 4 0).toNat 0==D.getD i 0 else true
def BH(a b:Int):Bool:=(List.range 8).all λh=> !tb a h||tb b h
def Gy(P:List dH)(i:Int):Int:=(P.map dH.aX).getD i.toNat 0
def rF(P:List dH)(hv:Int)(x:List Int):Bool:=
 if fW x==9 then tb hv (x.getD 2 0).toNat else if fW x==10 then tb hv (x.getD 3 0).toNat else if fW x==8 then BH (Gy P (x.getD 4 0)) hv else true
def AJ(P:List dH)(n:Nat)(D H:List Int)(i:Nat)(x:List Int):Nat→Int
 |0=>Gx P.length n x
 |1=>aki n i x
 |2=>if sr D i x then 0 else 15
 |_=>if rF P (H.getD i 0) x then 0 else 16
def sW(P:List dH)(n:Nat)(D H:List Int)(i:Nat)(x:List Int):Int:=
 if AJ P n D H i x 0 !=0 then AJ P n D H i x 0 else if AJ P n D H i x 1 !=0 then AJ P n D H i x 1 else if AJ P n D H i x 2 !=0 then AJ P n D H i x 2 else AJ P n D H i x 3
def oX(P:List dH)(n:Nat)(D H:List Int):Nat→List (List Int)→Option (Int×Int)
 |_,[]=>none
 |i,x::l=>if sW P n D H i x !=0 then some ((i:Int),sW P n D H i x)else oX P n D H (i+1) l
noncomputable def AA (P:List dH) (f:dH):Option (Int×Int):=oX P f.code.length (nT 0 f.code) (rE f.code f.aX) 0 f.code
noncomputable def uC (P:List dH):Nat→List dH→Option (Int×Int×Int)
 |_,[]=>none
 |k,f::l=>match AA P f with
  |some (i,e)=>some ((k:Int),i,e)
  |none=>uC P (k+1) l
def rq:Nat→List dH→Option (Int×Int×Int)
 |_,[]=>none
 |k,f::l=>if (rp f.aX f.code).2 !=0 then some ((k:Int),(rp f.aX f.code).1,(rp f.aX f.code).2)else rq (k+1) l
noncomputable def sJ (P:List dH):Int×Int×Int:=
 if decide (P.length<1)||decide (P.length>32)then(-1, -1,12)else match rq 0 P with
  |some x=>x
  |none=>if Gy P 0 !=0 then(0, -1,16)else match uC P 0 P with
   |some x=>x
   |none=>(0,0,0)
theorem af2{w0 w:World}{L:List HP}{s:Sl}{l:List (List Int)}{x:List Int}{i:Int}{c:Addr→Prop}(hr:tr w0 s l)(h:St w0 w L)(h0:0≤i)(hx:l[i.toNat]?=some x)
  (hc:∀p:Addr,x.length=5→(∀{w' L'},St w0 w' L'→∀{j v},(Go.Ev.ints x)[j]?=some v→w'.cell? (p.add j)=some v)→c p):cZ s i 5 c:=
 P6 (e:=Go.Ev.ints x) hr.rws h h0 (by rw[pz,hx];rfl) λp hp=>hc p ((hr.Gw x (q6 hx)).1) hp
theorem asD{n:Nat}{a:Addr}{e:List Value}{w w':World}{c:Prop}(he:n≤e.length)(h:∀{j v},e[j]?=some v→w.cell? (a.add j)=some v)(h':∀{j v},e[j]?=some v→w'.cell? (a.add j)=some v)(hc:c):ai n a w w' c:=
 ⟨λk hk=>by rw[h (j4 ah),h' (j4 ah)],hc⟩
theorem aeb{x:List Int}(h:oP x=0):0≤fW x∧fW x<17∧(pU x=true→0≤x.getD 4 0∧x.getD 4 0≤127)∧(fW x=8→0≤x.getD 4 0∧x.getD 4 0≤31∧0≤x.getD 1 0∧x.getD 1 0≤7)∧(fW x=9→0≤x.getD 2 0∧x.getD 2 0≤7)∧(fW x=10→0≤x.getD 3 0∧x.getD 3 0≤7):=by
 unfold oP at h;split at h
 ·cases h
 ·rename_i hno;split at h
  ·rename_i hf;unfold fits at hf;rw[xz]at hf;have f0:=hf 0 fY;have f1:=hf 1 fY;have f2:=hf 2 fY;have f3:=hf 3 fY;refine⟨ah,ah,λhg=> ?_,λho=> ?_,λho=> ?_,λho=> ?_⟩
   ·have:fW x=6∨fW x=7:=by unfold pU at hg;simpa using hg
    unfold fit at f3;rcases this with ho|ho<;>rw[ho]at f3<;>simp[kinds,IY,pP]at f3 ⊢ <;>omega
   ·unfold fit at f3 f0;rw[ho]at f3 f0;simp[kinds,IY,pP]at f3 f0 ⊢;omega
   ·unfold fit at f1;rw[ho]at f1;simp[kinds,IY,pP]at f1 ⊢;omega
   ·unfold fit at f2;rw[ho]at f2;simp[kinds,IY,pP]at f2 ⊢;omega
  ·cases h
section
variable {w0 w:World} {gj:Nat} {ps s sd sh:Sl} {P:List dH} {l:List (List Int)} {D H:List Int} {R:List HP} {i:Nat} {x:List Int} {k:Int→aq}
theorem an0(h:St w0 w (ax gj [.slice ps.a ps.n ps.c,.slice s.a s.n s.c,.slice sd.a sd.n sd.c,.slice sh.a sh.n sh.c]::R))(hr:tr w0 s l)(hx:l[i]?=some x)(hpn:ps.n=P.length)
  (hc:∀w',St w0 w' (ax gj [.slice ps.a ps.n ps.c,.slice s.a s.n s.c,.slice sd.a sd.n sd.c,.slice sh.a sh.n sh.c]::R)→k (Gx P.length l.length x) w'):ia (some ⟨gj,0,none⟩) (i:Int) w k:=by
 have xg:=hr.len;unfold ia xH;refine an (ea (g:=gj) (o:=1) h rfl (af2 hr h ah hx λp h5 hp=>GO (by simp[Go.Ev.ints,h5]) (λj v=>hp h) ?_))
 refine av h λg w6 h=>m8 (g:=g) h rfl (by simp[Go.Ev.ints,h5]) (qy _) λw7 h=> ?_
 have h:St w0 w7 (ax g (ints x)::ax gj [.slice ps.a ps.n ps.c,.slice s.a s.n s.c,.slice sd.a sd.n sd.c,.slice sh.a sh.n sh.c]::R):=h;refine bS (λb w'=>b=((pU x&&decide (x.getD 4 0≥l.length))||((fW x==8)&&decide (x.getD 4 0≥P.length)))∧St w0 w' (ax g (ints x)::ax gj [.slice ps.a ps.n ps.c,.slice s.a s.n s.c,.slice sd.a sd.n sd.c,.slice sh.a sh.n sh.c]::R)) (λJ hJ=> ?_) ?_
 ·refine aF h λw9 h=>cn (g:=g) (o:=0) h (m0 ah) ?_;have second:(pU x&&decide (x.getD 4 0≥l.length))=false→aN .i64 w9 (aY ⟨g,0,none⟩ 0) λi16=>
    ap (i16==(8:Int)) (
     aN .i64 w9 (aY ⟨g,0,none⟩ 4) λi17=>
     nn (some ⟨gj,0,none⟩) λa18=>
     cC w9 (aY (aY a18 0) 0) λs19=>
     (J (decide (i17≥((s19.n:Nat):Int))) w9)) (
     (J false w9)):=by
   intro ha;refine cn (g:=g) (o:=0) h (m0 ah) (ay (λhb=> ?_) λhb=> ?_)
   ·refine cn (g:=g) (o:=4) h (m0 ah) (an (ea (g:=gj) (o:=0) h rfl (hJ _ _ ⟨?_,h⟩)));have hb':(fW x==8)=true:=hb;dsimp only;rw[ha,hb',hpn];rfl
   ·refine hJ _ _ ⟨?_,h⟩;have hb':(fW x==8)=false:=hb;rw[ha,hb'];rfl
  show ap _ _ _;refine ay (λhg=> ?_) λhg=> ?_
  ·have KW:pU x=true:=hg;refine cn (g:=g) (o:=4) h (m0 ah) (an (ea (g:=gj) (o:=1) h rfl (ay (λhb=> ?_) λhb=> ?_)))
   ·refine hJ _ _ ⟨?_,h⟩;dsimp only at hb;rw[xg]at hb;rw[KW,hb];rfl
   ·dsimp only at hb;rw[xg]at hb;exact second (by rw[KW,hb];rfl)
  ·have KW:pU x=false:=hg;exact second (by rw[KW];rfl)
 rintro b w25 ⟨rfl,h⟩;unfold Gx at hc;refine ay (λhb=> ?_) λhb=> ?_
 ·rw[hb]at hc;exact hc _ h.drop
 ·rw[hb]at hc;exact hc _ h.drop
theorem awt(h:St w0 w (ax gj [.slice ps.a ps.n ps.c,.slice s.a s.n s.c,.slice sd.a sd.n sd.c,.slice sh.a sh.n sh.c]::R))(hr:tr w0 s l)(hx:l[i]?=some x)(hn:l.length≤1000)
  (hc:∀w',St w0 w' (ax gj [.slice ps.a ps.n ps.c,.slice s.a s.n s.c,.slice sd.a sd.n sd.c,.slice sh.a sh.n sh.c]::R)→k (aki l.length i x) w'):jE (some ⟨gj,0,none⟩) (i:Int) w k:=by
 have xg:=hr.len;unfold jE AY;refine an (ea (g:=gj) (o:=1) h rfl (af2 hr h ah hx λp h5 hp=>uH (hp h (m0 ah)) ?_));refine bS (λb w'=>b=(((i:Int)==(l.length:Int) - 1)&&(fW x !=6)&& !D7 x)∧w'=w) (λJ hJ=> ?_) ?_
 ·refine an (ea (g:=gj) (o:=1) h rfl ?_);have hw:aG .i64 (((s.n:Nat):Int) - 1)=(l.length:Int) - 1:=by rw[xg,cT ⟨ah,ah⟩]
  dsimp only;rw[hw];refine ay (λhb=> ?_) λhb=> ?_
  ·exact hJ _ _ ⟨by
     have hb':((i:Int)==(l.length:Int) - 1&&(fW x !=6))=true:=hb;rw[hb'];rfl,rfl⟩
  ·exact hJ _ _ ⟨by
     have hb':((i:Int)==(l.length:Int) - 1&&(fW x !=6))=false:=hb;rw[hb'];rfl,rfl⟩
 rintro b w25 ⟨rfl,rfl⟩;unfold aki at hc;refine ay (λhb=> ?_) λhb=> ?_
 ·rw[hb]at hc;exact hc _ h
 ·rw[hb]at hc;exact hc _ h
theorem an1(h:St w0 w (ax gj [.slice ps.a ps.n ps.c,.slice s.a s.n s.c,.slice sd.a sd.n sd.c,.slice sh.a sh.n sh.c]::bP 1 sd (ints D)::R))(hr:tr w0 s l)(hx:l[i]?=some x)(hn:l.length≤1000)(hD:D.length=l.length)
  (h0:pU x=true→0≤x.getD 4 0∧x.getD 4 0<l.length)
  (hc:∀w',St w0 w' (ax gj [.slice ps.a ps.n ps.c,.slice s.a s.n s.c,.slice sd.a sd.n sd.c,.slice sh.a sh.n sh.c]::bP 1 sd (ints D)::R)→k (if sr D i x then 0 else 15) w'):ie (some ⟨gj,0,none⟩) (i:Int) w k:=by
 have xg:=hr.len;have hil:i<l.length:=(kJ.1 hx).1;unfold ie;refine aF h λw1 h=> ?_;refine an (ea (g:=gj) (o:=1) h rfl (af2 hr h ah hx λp h5 hp=>GO (by simp[Go.Ev.ints,h5]) (λj v=>hp h) ?_))
 refine an (ea (g:=gj) (o:=2) h rfl ?_);have hdn:D.length=sd.n:=by have:=h.FU (sz:=1) (s:=sd) (vs:=ints D);simpa using this
 refine Kf (s:=sd) (vs:=ints D) h ah ah ah λgd od _ hrd _=> ?_;have sK:(ints D)[((i:Nat):Int).toNat*1+0]?=some (.int .i64 (D.getD i 0)):=by
  rw[show((i:Nat):Int).toNat*1+0=i by omega];exact vB ah
 refine uH (hrd h 0 _ ah sK) ?_;have h1:=h;refine av h λg w11 h=> ?_;refine aaR (hrd h1 0 _ ah sK) (hrd h 0 _ ah sK) ?_;refine eT h1 h ?_;refine asD (e:=ints x) (by simp[Go.Ev.ints,h5]) (fun{j v}=>hp h1) (fun{j v}=>hp h) ?_
 refine eT h1 h ?_;refine m8 (g:=g) h rfl (by simp[Go.Ev.ints,h5]) (qy _) λw12 h=> ?_
 refine aaR (hrd h1 0 _ ah sK) (hrd h 0 _ ah sK) ?_;refine eT h1 h ?_;have h:St w0 w12 (ax g (ints x)::ax gj [.slice ps.a ps.n ps.c,.slice s.a s.n s.c,.slice sd.a sd.n sd.c,.slice sh.a sh.n sh.c]::bP 1 sd (ints D)::R):=h;refine cn (g:=g) (o:=0) h (m0 ah) ?_;refine bS (λb w'=>b=((fW x==12)||(fW x==13))∧w'=w12) (λJ hJ=> ?_) ?_
 ·refine ay (λhb=> ?_) λhb=> ?_
  ·have hb':(fW x==12)=true:=hb;exact hJ _ _ ⟨by rw[hb'];rfl,rfl⟩
  ·have hb':(fW x==12)=false:=hb;exact hJ _ _ ⟨by rw[hb'];rfl,rfl⟩
 rintro b15 w16 ⟨rfl,rfl⟩;refine bS (λb w'=>b=sr D i x∧St w0 w' (ax g (ints x)::ax gj [.slice ps.a ps.n ps.c,.slice s.a s.n s.c,.slice sd.a sd.n sd.c,.slice sh.a sh.n sh.c]::bP 1 sd (ints D)::R)) (λJ hJ=> ?_) ?_
 ·unfold sr at hJ;refine ay (λhb=> ?_) λhb=> ?_
  ·rw[if_pos hb]at hJ;exact hJ _ _ ⟨rfl,h⟩
  ·rw[if_neg (by rw[hb];simp)]at hJ
   refine ay (λjL=> ?_) λjL=> ?_
   ·have hb':(fW x==16)=true:=jL;rw[if_pos hb']at hJ;exact hJ _ _ ⟨rfl,h⟩
   ·have hb':(fW x==16)=false:=jL;rw[if_neg (by rw[hb'];simp)]at hJ
    refine bS (λb w'=>b=pU x∧w'=w16) (λJ2 hJ2=> ?_) ?_
    ·refine ay (λhb=> ?_) λhb=> ?_
     ·have hb':(fW x==6)=true:=hb;exact hJ2 _ _ ⟨by unfold pU;rw[hb'];rfl,rfl⟩
     ·have hb':(fW x==6)=false:=hb;exact hJ2 _ _ ⟨by unfold pU;rw[hb'];rfl,rfl⟩
    rintro b19 w20 ⟨rfl,rfl⟩;refine ay (λhg=> ?_) λhg=> ?_
    ·rw[if_pos hg]at hJ;have hN:=h0 hg;refine aF h λw21 h=>an (ea (g:=gj) (o:=2) h rfl (cn (g:=g) (o:=4) h (m0 ah) ?_));refine AN (s:=sd) (xs:=D) h hN.1 ah ?_;exact hJ _ _ ⟨rfl,h⟩
    ·rw[if_neg (by rw[hg];simp)]at hJ
     exact hJ _ _ ⟨rfl,h⟩
 rintro b27 w28 ⟨rfl,h⟩;refine ay (λhb=> ?_) λhb=> ?_
 ·have hb':sr D i x=false:=by simpa using hb
  rw[hb']at hc;exact hc _ h.drop
 ·have hb':sr D i x=true:=by simpa using hb
  rw[hb']at hc;exact hc _ h.drop
end
theorem akj{a b:Int}(h0:0≤a)(h1:a≤255):0≤tB .i64 a b∧tB .i64 a b≤a:=by
 rw[P4];have e:(bv a).toNat=a.toNat:=by
  have:=ayc (m:=a.toNat) ah;rwa[Int.toNat_of_nonneg h0]at this
 have h2:(bv a&&&~~~ bv b).toNat≤a.toNat:=by rw[BitVec.toNat_and,e];exact Nat.and_le_left
 rw[ahU ah];omega
theorem W2{h:Nat}(hh:h<8):tb 0 h=false:=by
 have:∀h:Nat,h<8→tb 0 h=false:=fY;exact this h hh
theorem AB{a b:Int}:BH a b=true↔∀h:Nat,h<8→tb a h=true→tb b h=true:=by
 unfold BH;rw[xz];refine⟨λq h hh ha=> ?_,λq h hh=> ?_⟩
 ·have:=q h (by simpa using hh)
  rw[ha]at this;simpa using this
 ·have:=q h (by simpa using hh)
  cases ha:tb a h with
  |false=>rfl
  |true=>rw[this ha];rfl
theorem JW{a b:Int}(h0:0≤a)(h1:a≤255):(tB .i64 a b !=0)= !BH a b:=by
 have hb:=akj (b:=b) h0 h1;cases hs:BH a b with
 |true=>
  have hs':=AB.1 hs;have e:tB .i64 a b=0:=by
   rw[←ake (v:=tB .i64 a b) hb.1 ah,←ake (v:=0) ah ah];refine So λh hh=> ?_;rw[Up _ _ ah,W2 hh];cases ha:tb a h with
   |false=>rfl
   |true=>rw[hs' h hh ha];rfl
  rw[e];rfl
 |false=>
  have:tB .i64 a b≠0:=by
   intro e;have:BH a b=true:=AB.2 λh hh ha=>by
    have h2:=Up a b (i:=h) ah;rw[e,W2 hh,ha]at h2;simpa using h2.symm
   rw[this]at hs;cases hs
  simpa using this
theorem ahY{a b:Int}(h0:0≤a)(h1:a<8):BH (rX .i64 1 a) b=tb b a.toNat:=by
 cases ht:tb b a.toNat with
 |true=>
  refine AB.2 λh hh ha=> ?_;rw[af0 h0 h1 hh]at ha;have:=of_decide_eq_true ha;have:h=a.toNat:=ah;rw[this];exact ht
 |false=>
  cases hs:BH (rX .i64 1 a) b with
  |false=>rfl
  |true=>
   have:=AB.1 hs a.toNat ah (by rw[af0 h0 h1 ah];exact decide_eq_true ah)
   rw[this]at ht;cases ht
theorem abU{a:Int}(h0:0≤a)(h1:a<8):0≤rX .i64 1 a∧rX .i64 1 a≤255:=by
 have e:∀m:Nat,m<8→0≤rX .i64 1 (m:Int)∧rX .i64 1 (m:Int)≤255:=fY;have:=e a.toNat ah;rwa[Int.toNat_of_nonneg h0]at this
theorem sub_zero{b:Int}:BH 0 b=true:=AB.2 λh hh ha=>by rw[W2 hh]at ha;cases ha
section
variable {w0 w:World} {gj:Nat} {ps s sd sh:Sl} {P:List dH} {l:List (List Int)} {D H:List Int} {R:List HP} {i:Nat} {x:List Int} {k:Int→aq}
theorem NR{P:List dH}{n:Int}{f:dH}(h:P[n.toNat]?=some f):Gy P n=f.aX:=by simp[Gy,h]
theorem akk(h:St w0 w (ax gj [.slice ps.a ps.n ps.c,.slice s.a s.n s.c,.slice sd.a sd.n sd.c,.slice sh.a sh.n sh.c]::bP 1 sd (ints D)::bP 1 sh (ints H)::R))(hr:tr w0 s l)(hF:iN w0 ps P)(hx:l[i]?=some x)(hn:l.length≤1000)(hH:H.length=l.length)
  (hok:oP x=0) (B2:Gx P.length l.length x=0) (hP:∀f∈P,0≤f.aX∧f.aX≤255)
  (hc:∀w',St w0 w' (ax gj [.slice ps.a ps.n ps.c,.slice s.a s.n s.c,.slice sd.a sd.n sd.c,.slice sh.a sh.n sh.c]::bP 1 sd (ints D)::bP 1 sh (ints H)::R)→k (if rF P (H.getD i 0) x then 0 else 16) w'):gv (some ⟨gj,0,none⟩) (i:Int) w k:=by
 have xg:=hr.len;have hpn:=hF.len;have hil:i<l.length:=(kJ.1 hx).1;obtain⟨_,_,_,hk8,hk9,aCp⟩:=aeb hok;unfold gv;refine an (ea (g:=gj) (o:=1) h rfl (af2 hr h ah hx λp h5 hp=>GO (by simp[Go.Ev.ints,h5]) (λj v=>hp h) ?_))
 refine av h λg w6 h=>m8 (g:=g) h rfl (by simp[Go.Ev.ints,h5]) (qy _) λw7 h=> ?_
 have h:St w0 w7 (ax g (ints x)::ax gj [.slice ps.a ps.n ps.c,.slice s.a s.n s.c,.slice sd.a sd.n sd.c,.slice sh.a sh.n sh.c]::bP 1 sd (ints D)::bP 1 sh (ints H)::R):=h;refine cn (g:=g) (o:=0) h (m0 ah) ?_;refine bS (λn w'=>(tB .i64 n (H.getD i 0) !=0)= !(rF P (H.getD i 0) x)∧St w0 w' (ax g (ints x)::ax gj [.slice ps.a ps.n ps.c,.slice s.a s.n s.c,.slice sd.a sd.n sd.c,.slice sh.a sh.n sh.c]::bP 1 sd (ints D)::bP 1 sh (ints H)::R)) (λJ hJ=> ?_) ?_
 ·unfold rF at hJ;refine ay (λhb=> ?_) λhb=> ?_
  ·have hb':(fW x==9)=true:=hb;have hB:=hk9 (by simpa using hb')
   rw[if_pos hb']at hJ;refine cn (g:=g) (o:=2) h (m0 ah) ⟨hB.1,hJ _ _ ⟨?_,h⟩⟩;have:=abU (a:=x.getD 2 0) hB.1 ah;rw[JW this.1 this.2,ahY hB.1 ah]
  ·have hb':(fW x==9)=false:=hb;rw[if_neg (by rw[hb'];simp)]at hJ
   refine ay (λhb=> ?_) λhb=> ?_
   ·have hb':(fW x==10)=true:=hb;have hB:=aCp (by simpa using hb')
    rw[if_pos hb']at hJ;refine cn (g:=g) (o:=3) h (m0 ah) ⟨hB.1,hJ _ _ ⟨?_,h⟩⟩;have:=abU (a:=x.getD 3 0) hB.1 ah;rw[JW this.1 this.2,ahY hB.1 ah]
   ·have hb':(fW x==10)=false:=hb;rw[if_neg (by rw[hb'];simp)]at hJ
    refine ay (λhb=> ?_) λhb=> ?_
    ·have hb':(fW x==8)=true:=hb;have hB:=hk8 (by simpa using hb')
     have hlt:x.getD 4 0<P.length:=by
      unfold Gx at B2;rw[hb']at B2;by_cases q:x.getD 4 0≥P.length
      ·rw[decide_eq_true q]at B2;simp at B2
      ·omega
     rw[if_pos hb']at hJ;have hf:P[(x.getD 4 0).toNat]?=some P[(x.getD 4 0).toNat]:=j4 ah;have jL:=hP _ (q6 hf);refine aF h λw14 h=>an (ea (g:=gj) (o:=0) h rfl (cn (g:=g) (o:=4) h (m0 ah) ?_));refine P6 (e:=dH.cells P[(x.getD 4 0).toNat]) hF.rws h ah (by rw[pz,hf];rfl) λp hp2=>uH (hp2 h rfl) ?_
     refine hJ _ _ ⟨?_,h⟩;rw[JW jL.1 jL.2,NR hf]
    ·have hb':(fW x==8)=false:=hb;rw[if_neg (by rw[hb'];simp)]at hJ
     refine hJ _ _ ⟨?_,h⟩;rw[JW ah ah,sub_zero]
 rintro n w21 ⟨hnn,h⟩;refine an (ea (g:=gj) (o:=3) h rfl (AN (s:=sh) (xs:=H) h ah ah ?_));rw[kR,hnn];refine ay (λhb=> ?_) λhb=> ?_
 ·have hb':rF P (H.getD i 0) x=false:=by simpa using hb
  rw[hb']at hc;exact hc _ h.drop
 ·have hb':rF P (H.getD i 0) x=true:=by simpa using hb
  rw[hb']at hc;exact hc _ h.drop
end
theorem Rz{w0 w:World}{L M:List HP}(h:St w0 w L)(e:L=M):St w0 w M:=e▸h
section
variable {P:List dH} {n:Nat} {D H:List Int} {i:Nat} {x:List Int}
theorem an2{j:Nat}(hj:j<4)(h0:∀j',j'<j→AJ P n D H i x j'=0)(h1:(AJ P n D H i x j !=0)=true):sW P n D H i x=AJ P n D H i x j:=by
 unfold sW;match j,hj with
 |0,_=>rw[if_pos h1]
 |1,_=>rw[h0 0 ah];simp[h1]
 |2,_=>rw[h0 0 ah,h0 1 ah];simp[h1]
 |3,_=>rw[h0 0 ah,h0 1 ah,h0 2 ah];simp
theorem ahZ(h0:∀j',j'<4→AJ P n D H i x j'=0):sW P n D H i x=0:=by
 unfold sW;rw[h0 0 ah,h0 1 ah,h0 2 ah,h0 3 ah];simp
end
def W3(kk:Nat):Option (Int×Int)→List Int
 |none=>[0,0,0]
 |some (i,e)=>[(kk:Int),i,e]
def W4(gj gk gf gr:Nat)(ps s sd sh:Sl)(D H:List Int)(asks:List Value)(nv:Int):List HP:=
 [ax gj [.slice ps.a ps.n ps.c,.slice s.a s.n s.c,.slice sd.a sd.n sd.c,.slice sh.a sh.n sh.c],bP 1 sd (ints D),bP 1 sh (ints H),ax gk asks,ax gf [.int .i64 nv,.slice s.a s.n s.c],ax gr (ints [0,0,0])]
def abV(gj:Nat):List Value:=[.func (.func oh) #[.pointer (some ⟨gj,0,none⟩)] #[],.func (.func qa) #[.pointer (some ⟨gj,0,none⟩)] #[],.func (.func ol) #[.pointer (some ⟨gj,0,none⟩)] #[],.func (.func nM) #[.pointer (some ⟨gj,0,none⟩)] #[]]
theorem W5{bX:eb}{id:FuncId}{a b:Value}{w:World}{c:Value→aq}{d:bn}(e:∀args w c,bX (.func id) args w c=d args.toList w c)(h:d [a,b] w c):m5 bX (.func (.func id) #[a] #[]) #[b] w c:=
 bU e h
theorem ah0{a:Addr}{i:Int}{w:World}{c:Value→aq}(h:ia (some a) i w λr w=>c (.int .i64 r) w):EG [.pointer (some a),.int .i64 i] w c:=h
theorem an3{a:Addr}{i:Int}{w:World}{c:Value→aq}(h:jE (some a) i w λr w=>c (.int .i64 r) w):Ht [.pointer (some a),.int .i64 i] w c:=h
theorem ah1{a:Addr}{i:Int}{w:World}{c:Value→aq}(h:ie (some a) i w λr w=>c (.int .i64 r) w):EH [.pointer (some a),.int .i64 i] w c:=h
theorem af3{a:Addr}{i:Int}{w:World}{c:Value→aq}(h:gv (some a) i w λr w=>c (.int .i64 r) w):Ds [.pointer (some a),.int .i64 i] w c:=h
theorem ah2{w:World}{ps:Sl}{P:List dH}{kk:Nat}{f:dH}{k:Array Value→aq}(hF:iN w ps P)(hk:P[kk]?=some f)(hok:∀x∈f.code,oP x=0)(hlen:f.code.length≤128)
  (hP:∀f∈P,0≤f.aX∧f.aX≤255) (hc:∀w',St w w' []→k (eU (W3 kk (AA P f))) w'):nw #[.slice ps.a ps.n ps.c] (kk:Int) w k:=by
 have hcd:=(hF.code f (q6 hk)).2;have xg:=hcd.len;have hpn:=hF.len;unfold nw Dt;refine av (.nil w) λg1 w2 h=>av h λg3 w4 h=>ea (g:=g1) (o:=0) h rfl ?_;refine P6 (e:=dH.cells f) hF.rws h ah (by rw[pz,kR,hk];rfl) λp hp=>GO (e:=dH.cells f) rfl (λj v=>hp h) ?_
 refine av h λg8 w9 h=>m8 (g:=g8) h rfl rfl (by intro v hv;simp[dH.cells]at hv;rcases hv with rfl|rfl<;>rfl) λw10 h=>aF h λw11 h=> ?_
 have h:St w w11 [ax g8 [.int .i64 f.aX,.slice f.sl.a f.sl.n f.sl.c],ax g3 (ints [0,0,0]),ax g1 [.slice ps.a ps.n ps.c]]:=h;refine jZ (g:=g1) h rfl (ea (g:=g8) (o:=1) h rfl (ea (g:=g8) (o:=1) h rfl (jZ (g:=g8) h rfl ?_)));have h11:=h;refine anU (hcd.ext h.ext) ah λsd w17 h2 nd=> ?_;have h:=h.join h2;simp only[List.cons_append,List.nil_append]at h;refine eT h11 h (eT h11 h (eT h11 h ?_));have h17:=h;refine asB (aX:=f.aX) (hcd.ext h.ext) ah λsh w19 h3 nh=> ?_;have h:=h.join h3;simp only[List.cons_append,List.nil_append]at h;refine eT h11 h (eT h11 h ?_);refine⟨rfl,?_⟩;refine av h λgj w22 h=>⟨rfl,⟨rfl,⟨rfl,⟨rfl,av h λgk w24 h=> ?_⟩⟩⟩⟩;have h:St w w24 (W4 gj gk g8 g3 ps f.sl sd sh (nT 0 f.code) (rE f.code f.aX) (abV gj) f.aX):=by
  refine St.perm (Rz (M:=[ax gk (abV gj),ax gj [.slice ps.a ps.n ps.c,.slice f.sl.a f.sl.n f.sl.c,.slice sd.a sd.n sd.c,.slice sh.a sh.n sh.c],bP 1 sh (ints (rE f.code f.aX)),bP 1 sd (ints (nT 0 f.code)),ax g8 [.int .i64 f.aX,.slice f.sl.a f.sl.n f.sl.c],ax g3 (ints [0,0,0])]) (h.rm 6 rfl) be) ?_;unfold W4;repeat' (first|exact List.Perm.refl _|refine bx 0 rfl ?_|refine bx 1 rfl ?_|refine bx 2 rfl ?_|refine bx 3 rfl ?_|refine bx 4 rfl ?_|refine bx 5 rfl ?_|refine bx 6 rfl ?_|refine bx 7 rfl ?_)
 unfold W4 at h;refine ea (g:=g8) (o:=1) h rfl ?_;have hDl:(nT 0 f.code).length=f.code.length:=RE _ _;have hHl:(rE f.code f.aX).length=f.code.length:=U9 _ _;unfold AA at hc;generalize nT 0 f.code=D at h hc hDl;generalize rE f.code f.aX=H at h hc hHl;refine og (fun(i:Int) w'=> ∃dn rest,f.code=dn++rest∧i=(dn.length:Int)∧oX P f.code.length D H 0 f.code=oX P f.code.length D H dn.length rest∧St w w' (W4 gj gk g8 g3 ps f.sl sd sh D H (abV gj) f.aX)) (λi _=>((f.sl.n:Int) - i).toNat) ⟨[],f.code,rfl,rfl,rfl,h⟩ ?_;rintro _ w28 ⟨dn,rest,hl,rfl,hd,h⟩ C hC;cases rest with
 |nil=>
  refine bh (by simp only[decide_eq_false_iff_not];rw[xg,hl];simp) ?_
  unfold W4 at h;refine m8 (g:=g3) h rfl rfl (qy [0,0,0]) λw39 h=>jZ (g:=g3) h rfl ?_;rw[hd]at hc;exact hc _ h.all
 |cons x rest=>
  have akd:f.code.length=dn.length+(rest.length+1):=by rw[hl];simp
  have Mx:aG .i64 ((dn.length:Int)+1)=((dn++[x]).length:Int):=by rw[cT ⟨ah,ah⟩];simp
  have hx:f.code[dn.length]?=some x:=by rw[hl];simp
  have hcx:=hok x (by rw[hl];simp)
  refine bO (by simp only[decide_eq_true_eq];omega) ?_
  refine og (fun(i:Int) w'=> ∃j:Nat,i=(j:Int)∧j≤4∧(∀j',j'<j→AJ P f.code.length D H dn.length x j'=0)∧St w w' (W4 gj gk g8 g3 ps f.sl sd sh D H (abV gj) f.aX)) (λi _=>(4 - i).toNat) ⟨0,rfl,ah,λj hj=>by omega,h⟩ ?_
  rintro _ w31 ⟨j,rfl,hj4,hz,h⟩ C2 hC2;refine ay (λhb=> ?_) λhb=> ?_
  ·have hj:j<4:=by have:=of_decide_eq_true hb;omega
   have Sz:aG .i64 ((j:Int)+1)=((j+1:Nat):Int):=by rw[cT ⟨ah,ah⟩];simp
   refine apI ah ah ?_;have fin:∀w35,St w w35 (W4 gj gk g8 g3 ps f.sl sd sh D H (abV gj) f.aX)→ap (AJ P f.code.length D H dn.length x j !=(0:Int)) (
      dZ 3 w35 ⟨g3,0,none⟩ #[(.int .i64 (kk:Int)),(.int .i64 (dn.length:Int)),(.int .i64 (AJ P f.code.length D H dn.length x j))] λw37=>
      bD 3 w37 ⟨g3,0,none⟩ λcs38=>
      (k cs38 w37)) (
      (C2 (aG .i64 ((j:Int)+(1:Int))) w35)):=by
    intro w35 h;refine ay (λhb=> ?_) λhb=> ?_
    ·unfold W4 at h;refine m8 (g:=g3) (vs:=eU [(kk:Int),(dn.length:Int),AJ P f.code.length D H dn.length x j]) h rfl rfl (qy _) λw37 h=>jZ (g:=g3) h rfl ?_;have hwr:=an2 hj hz hb;have e:oX P f.code.length D H dn.length (x::rest)=some ((dn.length:Int),AJ P f.code.length D H dn.length x j):=by
      unfold oX;rw[hwr,if_pos hb]
     rw[hd,e]at hc;exact hc _ h.all
    ·rw[Sz];refine hC2 _ _ ⟨j+1,rfl,hj,λj' hj'=> ?_,h⟩ ah;by_cases q:j'=j
     ·rw[q];simpa using hb
     ·exact hz j' ah
   unfold W4 at h;match j,hj,hz,fin with
   |0,_,hz,fin=>
    refine Iq (g:=gk) (o:=0) h rfl (W5 (d:=EG) (λ_ _ _=>rfl) (ah0 ?_));exact an0 h (hcd) hx hpn λw35 h=>fin w35 h
   |1,_,hz,fin=>
    refine Iq (g:=gk) (o:=1) h rfl (W5 (d:=Ht) (λ_ _ _=>rfl) (an3 ?_));exact awt h hcd hx ah λw35 h=>fin w35 h
   |2,_,hz,fin=>
    have Fw:Gx P.length f.code.length x=0:=hz 0 ah;refine Iq (g:=gk) (o:=2) h rfl (W5 (d:=EH) (λ_ _ _=>rfl) (ah1 ?_));refine an1 h hcd hx ah hDl (λhg=>⟨((aeb hcx).2.2.1 hg).1,?_⟩) λw35 h=>fin w35 h;unfold Gx at Fw;rw[hg]at Fw;by_cases q:x.getD 4 0≥f.code.length
    ·rw[decide_eq_true q]at Fw;simp at Fw
    ·omega
   |3,_,hz,fin=>
    have Fw:Gx P.length f.code.length x=0:=hz 0 ah;refine Iq (g:=gk) (o:=3) h rfl (W5 (d:=Ds) (λ_ _ _=>rfl) (af3 ?_));exact akk h hcd hF hx ah hHl hcx Fw hP λw35 h=>fin w35 h
  ·have hj:j=4:=by have:=of_decide_eq_false hb;omega
   subst hj;rw[Mx];refine hC _ _ ⟨dn++[x],rest,by rw[hl];simp,rfl,?_,h⟩ (by simp;omega)
   rw[hd];have e:(sW P f.code.length D H dn.length x !=0)=false:=by rw[ahZ hz];rfl
   simp[oX,e]
def Tw(x:Int×Int×Int):List Int:=[x.1,x.2.1,x.2.2]
theorem RH:∀{l:List (List Int)} {i:Nat},(oB i l).2=0→∀x∈l,oP x=0
 |[],_,_,x,hx=>by cases hx
 |y::l,i,h,x,hx=>by
  unfold oB at h;split at h
  ·rename_i hb;simp only at h;rw[h]at hb;cases hb
  ·rename_i hb;rcases List.mem_cons.1 hx with rfl|hx
   ·simpa using hb
   ·exact RH h x hx
theorem JX{aX:Int}{l:List (List Int)}(h:(rp aX l).2=0):0≤aX∧aX≤255∧1≤l.length∧l.length≤128∧∀x∈l,oP x=0:=by
 unfold rp at h;split at h
 ·cases h
 ·rename_i h1;split at h
  ·cases h
  ·rename_i h2;simp only[Bool.or_eq_true,decide_eq_true_eq,not_or]at h1 h2;exact⟨ah,ah,ah,ah,RH h⟩
theorem NS:∀{l:List dH} {k:Nat},rq k l=none→∀f∈l,(rp f.aX f.code).2=0
 |[],_,_,f,hf=>by cases hf
 |g::l,k,h,f,hf=>by
  unfold rq at h;split at h
  ·cases h
  ·rename_i hb;rcases List.mem_cons.1 hf with rfl|hf
   ·simpa using hb
   ·exact NS h f hf
theorem G4{P:List dH}{n:Nat}{D H:List Int}:∀{l:List (List Int)} {i:Nat} {a e:Int},oX P n D H i l=some (a,e)→e≠0
 |[],_,_,_,h=>by cases h
 |x::l,i,a,e,h=>by
  unfold oX at h;split at h
  ·rename_i hb;cases h
   simpa using hb
  ·exact G4 h
theorem akl{w:World}{ps:Sl}{P:List dH}{k:Array Value→aq}(hF:iN w ps P)
  (hc:∀w',St w w' []→k (eU (Tw (sJ P))) w'):oL #[.slice ps.a ps.n ps.c] w k:=by
 have hpn:=hF.len;unfold oL Fa;refine av (.nil w) λg1 w2 h=>av h λg3 w4 h=> ?_;have h:St w w4 [ax g3 (ints [0,0,0]),ax g1 [.slice ps.a ps.n ps.c]]:=h;have e1:decide (((ps.n:Nat):Int)<1)=decide (P.length<1):=by rw[decide_eq_decide];omega
 have e2:decide (((ps.n:Nat):Int)>32)=decide (P.length>32):=by rw[decide_eq_decide];omega
 refine bS (λb w'=>b=(decide (P.length<1)||decide (P.length>32))∧w'=w4) (λJ hJ=> ?_) ?_
 ·refine ea (g:=g1) (o:=0) h rfl (ay (λhb=> ?_) λhb=> ?_)
  ·exact hJ _ _ ⟨by rw[←e1];dsimp only at hb;rw[hb];rfl,rfl⟩
  ·refine ea (g:=g1) (o:=0) h rfl (hJ _ _ ⟨by rw[←e1,←e2];dsimp only at hb;rw[hb];rfl,rfl⟩)
 rintro b8 w9 ⟨rfl,rfl⟩;unfold sJ at hc;refine ay (λhb=> ?_) λhb=> ?_
 ·rw[hb]at hc;refine m8 (g:=g3) (vs:=eU [-1, -1,12]) h rfl rfl (qy _) λw10 h=>jZ (g:=g3) h rfl ?_;exact hc _ h.all
 ·rw[hb]at hc;rw[kx]at hb;have hl1:=of_decide_eq_false hb.1;have hl2:=of_decide_eq_false hb.2;refine ea (g:=g1) (o:=0) h rfl ?_;refine bS (λ_ w'=>rq 0 P=none∧St w w' [ax g3 (ints [0,0,0]),ax g1 [.slice ps.a ps.n ps.c]]) (λJ hJ=> ?_) ?_
  ·refine og (fun(i:Int) w'=> ∃dn rest,P=dn++rest∧i=(dn.length:Int)∧rq 0 P=rq dn.length rest∧St w w' [ax g3 (ints [0,0,0]),ax g1 [.slice ps.a ps.n ps.c]]) (λi _=>((ps.n:Int) - i).toNat) ⟨[],P,rfl,rfl,rfl,h⟩ ?_;rintro _ w16 ⟨dn,rest,hl,rfl,hd,h⟩ C hC;cases rest with
   |nil=>
    refine bh (by simp only[decide_eq_false_iff_not];rw[hpn,hl];simp) ?_
    exact hJ _ _ ⟨by rw[hd];rfl,h⟩
   |cons f rest=>
    have akd:P.length=dn.length+(rest.length+1):=by rw[hl];simp
    have Mx:aG .i64 ((dn.length:Int)+1)=((dn++[f]).length:Int):=by rw[cT ⟨ah,ah⟩];simp
    have hx:P[dn.length]?=some f:=by rw[hl];simp
    have hcd:=(hF.code f (q6 hx)).2;refine bO (by simp only[decide_eq_true_eq];omega) ?_
    refine P6 (e:=dH.cells f) hF.rws h ah (by rw[pz,kR,hx];rfl) λp hp=>GO (e:=dH.cells f) rfl (λj v=>hp h) ?_
    refine av h λg8 w9 h=>m8 (g:=g8) h rfl rfl (by intro v hv;simp[dH.cells]at hv;rcases hv with rfl|rfl<;>rfl) λw10 h=>jZ (g:=g8) h rfl ?_
    refine asC (aX:=f.aX) (s:=f.sl) (l:=f.code) (hcd.ext h.ext) λw24 h2=> ?_;have h:=h.drop.on h2.ext;refine ay (λsx=> ?_) λsx=> ?_
    ·refine m8 (g:=g3) (vs:=eU [(dn.length:Int),(rp f.aX f.code).1,(rp f.aX f.code).2]) h rfl rfl (qy _) λw25 h=>jZ (g:=g3) h rfl ?_;have e:rq 0 P=some ((dn.length:Int),(rp f.aX f.code).1,(rp f.aX f.code).2):=by rw[hd];unfold rq;rw[if_pos sx]
     rw[e]at hc;exact hc _ h.all
    ·rw[Mx];refine hC _ _ ⟨dn++[f],rest,by rw[hl];simp,rfl,?_,h⟩ (by simp;omega)
     have ad3:((rp f.aX f.code).2 !=0)=false:=sx;rw[hd];simp[rq,ad3]
  rintro _ w28 ⟨hsh,h⟩;rw[hsh]at hc;have n9:=NS hsh;have h0:P[0]?=some P[0]:=j4 ah;refine ea (g:=g1) (o:=0) h rfl ?_;refine P6 (e:=dH.cells P[0]) hF.rws h ah (by rw[pz];simp[h0]) λp hp=>uH (hp h rfl) ?_
  have qX:Gy P 0=P[0].aX:=NR (n:=0) h0;rw[←qX];refine ay (λhb=> ?_) λhb=> ?_
  ·refine m8 (g:=g3) (vs:=eU [0, -1,16]) h rfl rfl (qy _) λw32 h=>jZ (g:=g3) h rfl ?_;dsimp only at hc;rw[if_neg bc,if_pos hb]at hc;exact hc _ h.all
  ·dsimp only at hc;rw[if_neg bc,if_neg (by rw[hb];simp)]at hc
   refine ea (g:=g1) (o:=0) h rfl ?_;refine og (fun(i:Int) w'=> ∃dn rest,P=dn++rest∧i=(dn.length:Int)∧uC P 0 P=uC P dn.length rest∧St w w' [ax g3 (ints [0,0,0]),ax g1 [.slice ps.a ps.n ps.c]]) (λi _=>((ps.n:Int) - i).toNat) ⟨[],P,rfl,rfl,rfl,h⟩ ?_;rintro _ w37 ⟨dn,rest,hl,rfl,hd,h⟩ C hC;cases rest with
   |nil=>
    refine bh (by simp only[decide_eq_false_iff_not];rw[hpn,hl];simp) ?_
    refine m8 (g:=g3) (vs:=eU [0,0,0]) h rfl rfl (qy _) λw49 h=>jZ (g:=g3) h rfl ?_;have e:uC P 0 P=none:=by rw[hd];rfl
    rw[e]at hc;exact hc _ h.all
   |cons f rest=>
    have akd:P.length=dn.length+(rest.length+1):=by rw[hl];simp
    have Mx:aG .i64 ((dn.length:Int)+1)=((dn++[f]).length:Int):=by rw[cT ⟨ah,ah⟩];simp
    have hx:P[dn.length]?=some f:=by rw[hl];simp
    have hsf:=JX (n9 f (q6 hx));refine bO (by simp only[decide_eq_true_eq];omega) ?_
    refine jZ (g:=g1) h rfl ?_;refine ah2 (ps:=ps) (P:=P) (f:=f) (hF.ext h.ext) hx hsf.2.2.2.2 hsf.2.2.2.1 (λq hq=>⟨(JX (n9 q hq)).1,(JX (n9 q hq)).2.1⟩) λw40 h2=> ?_;have h:=h.on h2.ext;have hfl:(W3 dn.length (AA P f)).length=3:=by cases AA P f<;>rfl
    refine av h λg4 w42 h=>m8 (g:=g4) h rfl (by simp[eU,ints,hfl]) (qy _) λw43 h=>jZ (g:=g4) h (by simp[eU,ints,hfl]) ?_
    refine ajg (n:=3) hfl (ys:=[0,0,0]) rfl ?_;cases hft:AA P f with
    |none=>
     refine bh (by simp[W3]) ?_
     rw[Mx];refine hC _ _ ⟨dn++[f],rest,by rw[hl];simp,rfl,?_,h.drop⟩ (by simp;omega)
     rw[hd];simp[uC,hft]
    |some q=>
     obtain⟨i,e⟩:=q;have hne:=G4 hft;refine bO (by simp[W3,hne]) ?_
     rw[hft]at h;refine jZ (g:=g4) h rfl ?_;refine m8 (g:=g3) (vs:=eU (W3 dn.length (some (i,e)))) h rfl rfl (qy _) λw47 h=>jZ (g:=g3) h rfl ?_;have e':uC P 0 P=some ((dn.length:Int),i,e):=by rw[hd];simp[uC,hft]
     rw[e']at hc;exact hc _ h.all
theorem an4{w:World}{g off c:Nat}{flat:List Int}{l:List (List Int)}(hb:pG w g (eU flat))(h5:∀x∈l,x.length=5∧∀y∈x,uJ y)
  (hfl:∀i,i<l.length→∀j,j<5→flat[off+i*5+j]?=(l.getD i [])[j]?) (ZJ:l.length*40≤reachBytes):tr w ⟨some ⟨g,off,none⟩,l.length,c⟩ l:=by
 refine⟨⟨bc,λi e he=> ?_⟩,h5,ZJ⟩;rw[pz]at he;cases hx:l[i]? with
 |none=>rw[hx]at he;cases he
 |some x=>
  rw[hx]at he;have he':e=ints x:=by simpa using he.symm
  subst he';have hi:i<l.length:=(kJ.1 hx).1;have hx5:=(h5 x (q6 hx)).1;refine⟨by simp[ints,hx5],⟨g,off,none⟩,rfl,λj v hv=> ?_⟩
  have hj:j<5:=by have:=(kJ.1 hv).1;simp[ints,hx5]at this;exact this
  have:=hfl i hi j hj;rw[cY,cY,hb.cell];have e2:l.getD i []=x:=by simp[hx]
  rw[e2]at this;simp only[eU,ints,List.getElem?_toArray,pz]at hv ⊢;rw[this];exact hv
theorem ah3{l:List (List Int)}{aX:Int}(m:Nat)(hn:l.length≤4294967296)(hl:l≠ [])(ht:(Fl.steps l m ((Ea l.length).meet 0 (oC .i64 aX 255))).todo=[]):rE l aX=(Fl.steps l m ((Ea l.length).meet 0 (oC .i64 aX 255))).held:=
 (aea hn ⟨ht,λq=>(hl q).elim,λ_=>⟨m,rfl⟩⟩).symm
theorem akm{s:Sl}{l:List (List Int)}{H:List Int}{r:Option (Int×Int)}(hH:rE l 0=H)(hsh:(rp 0 l).2=0)(hr:oX [⟨0,s,l⟩] l.length (nT 0 l) H 0 l=r):
  sJ [⟨0,s,l⟩]=(match r with|none=>(0,0,0)|some (i,e)=>(0,i,e)):=by
 have e1:AA [⟨0,s,l⟩] ⟨0,s,l⟩=r:=by unfold AA;rw[hH];exact hr
 have e2:rq 0 [(⟨0,s,l⟩:dH)]=none:=by simp[rq,hsh]
 unfold sJ;rw[e2];simp only[Gy,uC,e1];cases r<;>simp
theorem azR:Yi Tryz.prog 75 76 78 22 24 3:=⟨⟨_,Tryz.underlying75⟩,be,be,be,Tryz.underlying76,⟨_,_,Tryz.underlying78,rfl,rfl,rfl,rfl⟩,Tryz.underlying3,be,be,be,be,Tryz.underlying22,be,⟨_,Tryz.underlying24,rfl,rfl⟩,be⟩
theorem aec{A:Type}{sz:Nat}:∀{es:List (List A)},(∀e∈es,e.length=sz)→es.flatten.length=es.length*sz
 |[],_=>by simp
 |e::es,h=>by
  have:=aec (es:=es) λx hx=>h x (by simp[hx])
  have he:=h e bc;simp only[List.flatten_cons,tV,List.length_cons,Nat.add_mul,Nat.one_mul];omega
theorem Sq{A:Type}{sz:Nat}:∀{es:List (List A)},(∀e∈es,e.length=sz)→∀{i j:Nat} {e:List A},es[i]?=some e→j<sz→es.flatten[i*sz+j]?=e[j]?
 |[],_,i,j,e,he,_=>by simp at he
 |x::es,h,0,j,e,he,hj=>by
  have hx:=h x bc;simp at he;subst he;rw[List.flatten_cons,Nat.zero_mul,Nat.zero_add,sZ ah]
 |x::es,h,i+1,j,e,he,hj=>by
  have hx:=h x bc;rw[List.flatten_cons,uI (by rw[hx,Nat.add_mul];omega),hx,Nat.add_mul,Nat.one_mul]
  rw[show i*sz+sz+j - sz=i*sz+j by omega]
  exact Sq (λy hy=>h y (by simp[hy])) (by simpa using he) hj
theorem asE(p:Addr)(a b:Nat):(p.add a).add b=p.add (a+b):=by
 by_cases ha:a=0
 ·subst ha;simp[aY]
 ·by_cases hb:b=0
  ·subst hb;simp[aY]
  ·have:a+b≠0:=ah;simp[aY,ha,hb,this,Nat.add_assoc]
theorem asF{sz:Nat}{w:World}{s:Sl}{es:List (List Value)}(h:GK sz w s es.flatten)(hsz:0<sz)(n9:∀e∈es,e.length=sz):Uq sz w s es:=by
 have hl:es.length*sz=s.n*sz:=by rw[←aec n9];exact h.len
 refine⟨Nat.eq_of_mul_eq_mul_right hsz hl,λi e he=> ?_⟩;have hlen:=n9 e (q6 he);refine⟨hlen,?_⟩;have h0:=Sq n9 he hsz;obtain⟨p,hp,_⟩:=h.cell (i*sz+0) e[0] (by rw[h0];exact j4 ah)
 refine⟨p,hp,λj v hv=> ?_⟩;have hj:j<sz:=by have:=(kJ.1 hv).1;omega
 obtain⟨p',hp',hc⟩:=h.cell (i*sz+j) v (by rw[Sq n9 he hj];exact hv)
 rw[hp]at hp';cases hp';rw[asE];exact hc
structure Few (P:List dH):Prop where
 n:P.length≤40
 c:∀f∈P,f.code.length≤140
theorem azT{w:World}{ps:Sl}{P:List dH}{k:Bool→aq}(hF:iN w ps P)(hc:∀b w',St w w' []→(b=true→Few P)→k b w'):k8 #[.slice ps.a ps.n ps.c] w k:=by
 have hpn:=hF.len;unfold k8;refine av (.nil w) λg1 w2 h=> ?_;refine og (fun(i:Int) w'=> ∃dn rest,P=dn++rest∧i=(dn.length:Int)∧dn.length≤41∧(∀f∈dn,f.code.length≤140)∧St w w' [ax g1 [.slice ps.a ps.n ps.c]]) (λi _=>(41 - i).toNat) ⟨[],P,rfl,rfl,bc,bc,h⟩ ?_;rintro _ w5 ⟨dn,rest,hl,rfl,h41,hd,h⟩ C hC;refine ea (g:=g1) (o:=0) h rfl (ay (λhb=> ?_) λhb=> ?_)
 ·simp only[iZ,decide_eq_true_eq]at hb;have hlt:dn.length<P.length:=ah;obtain⟨f,rest,rfl⟩:∃f r,rest=f::r:=by
   cases rest with
   |nil=>rw[hl]at hlt;simp at hlt
   |cons f r=>exact⟨f,r,rfl⟩
  have hx:P[dn.length]?=some f:=by rw[hl];simp
  have hcd:=(hF.code f (q6 hx)).2;have pB:=hcd.len;refine ea (g:=g1) (o:=0) h rfl ?_;refine P6 (e:=dH.cells f) hF.rws h ah (by rw[pz,kR,hx];rfl) λp hp=>Il (s:=f.sl) (hp h rfl) (ay (λjL=> ?_) λjL=> ?_)
  ·exact hc _ _ h.all λq=>by cases q
  ·have hle:f.code.length≤140:=by have:=of_decide_eq_false jL;omega
   have Mx:aG .i64 ((dn.length:Int)+1)=((dn++[f]).length:Int):=by rw[cT ⟨ah,ah⟩];simp
   rw[Mx];refine hC _ _ ⟨dn++[f],rest,by rw[hl];simp,rfl,by simp;omega,λq hq=> ?_,h⟩ (by simp;omega)
   rcases y7.1 hq with hq|hq
   ·exact hd q hq
   ·simp at hq;rw[hq];exact hle
 ·refine ea (g:=g1) (o:=0) h rfl (hc _ _ h.all λq=> ?_);have hle:P.length≤40:=by have:=of_decide_eq_true q;dsimp only at this;omega
  refine⟨hle,λf hf=> ?_⟩;cases rest with
  |nil=>rw[hl]at hf;simp at hf;exact hd f hf
  |cons g r=>
   have h1:dn.length<P.length:=by rw[hl];simp
   exfalso;dsimp only at hb;rw[decide_eq_true ah,decide_eq_true ah]at hb;cases hb
theorem abW{w:World}{ps:Sl}{P:List dH}{k:Bool→aq}(hF:iN w ps P)(hc:∀w',St w w' []→k (decide (Tw (sJ P)=[0,0,0])) w'):gG #[.slice ps.a ps.n ps.c] w k:=by
 unfold gG Fb;refine av (.nil w) λg w2 h=>jZ (g:=g) h rfl (akl (hF.ext h.ext) λw' h2=> ?_);have h:=h.on h2.ext;exact ajg (n:=3) (xs:=Tw (sJ P)) (ys:=[0,0,0]) rfl rfl (hc w' h.all)
theorem akn(x:List Int):oP x=0∨oP x=10∨oP x=13:=by
 unfold oP;split
 ·exact .inr (.inr rfl)
 ·split
  ·exact .inl rfl
  ·exact .inr (.inl rfl)
theorem RI:∀{l:List (List Int)} {i:Nat},(oB i l).2≠16
 |[],i=>by simp[oB]
 |x::l,i=>by
  unfold oB;split
  ·have:=akn x;simp only;omega
  ·exact RI
theorem af4(aX:Int)(l:List (List Int)):(rp aX l).2≠16:=by
 unfold rp;split
 ·simp
 ·split
  ·simp
  ·exact RI
theorem af5:∀{l:List dH} {k:Nat} {x:Int×Int×Int},rq k l=some x→x.2.2≠16
 |[],_,_,h=>by cases h
 |f::l,k,x,h=>by
  unfold rq at h;split at h
  ·cases h;exact af4 _ _
  ·exact af5 h
theorem W6{P:List dH}:∀{l:List dH} {k:Nat} {a i e:Int},uC P k l=some (a,i,e)→∃m f,l[m]?=some f∧a=((k+m:Nat):Int)∧AA P f=some (i,e)
 |[],_,_,_,_,h=>by cases h
 |f::l,k,a,i,e,h=>by
  unfold uC at h;split at h
  ·rename_i i' e' he;cases h
   exact⟨0,f,rfl,rfl,he⟩
  ·obtain⟨m,g,h1,h2,h3⟩:=W6 h;exact⟨m+1,g,by simpa using h1,by rw[h2];congr 1;omega,h3⟩
section
variable {P:List dH} {n:Nat} {D H:List Int} {i:Nat} {x:List Int}
end
def BJ(nf n:Nat)(x:List Int):Bool:=(pU x&&decide (x.getD 4 0≥n))||((fW x==8)&&decide (x.getD 4 0≥nf))
def RJ(n:Nat)(i:Nat)(x:List Int):Bool:=((i:Int)==(n:Int) - 1)&&(fW x !=6)&& !D7 x
section
variable {P:List dH} {n:Nat} {D H:List Int} {i:Nat} {x:List Int}
theorem asG(h:BJ P.length n x=true):sW P n D H i x=10:=by
 have e:AJ P n D H i x 0=10:=if_pos h;unfold sW;rw[e];rfl
theorem asH(h:BJ P.length n x=false):AJ P n D H i x 0=0:=if_neg (by unfold BJ at h;rw[h];simp)
theorem asI(h:BJ P.length n x=false)(h2:RJ n i x=true):sW P n D H i x=11:=by
 have e:AJ P n D H i x 1=11:=if_pos h2;unfold sW;rw[asH h,e];rfl
theorem EX(h2:RJ n i x=false):AJ P n D H i x 1=0:=if_neg (by unfold RJ at h2;rw[h2];simp)
theorem asJ(h:BJ P.length n x=false)(h2:RJ n i x=false)(h3:sr D i x=false):sW P n D H i x=15:=by
 have e:AJ P n D H i x 2=15:=if_neg (by rw[h3];simp)
 unfold sW;rw[asH h,EX h2,e];rfl
theorem ah4(h:BJ P.length n x=false)(h2:RJ n i x=false)(h3:sr D i x=true):sW P n D H i x=if rF P (H.getD i 0) x then 0 else 16:=by
 have e:AJ P n D H i x 2=0:=if_pos h3;unfold sW;rw[asH h,EX h2,e];rfl
theorem abX(h:BJ P.length n x=false):(pU x=true→x.getD 4 0<n)∧(fW x=8→x.getD 4 0<P.length):=by
 unfold BJ at h;rw[kx]at h;refine⟨λhg=> ?_,λho=> ?_⟩
 ·have:=h.1;rw[hg,Bool.true_and]at this;have:=of_decide_eq_false this;omega
 ·have:=h.2;rw[show(fW x==8)=true by simpa using ho,Bool.true_and]at this
  have:=of_decide_eq_false this;omega
end
theorem Y8:∀{l:List dH} {k:Nat} {x:Int×Int×Int},rq k l=some x→x.2.2≠0
 |[],_,_,h=>by cases h
 |f::l,k,x,h=>by
  unfold rq at h;split at h
  ·rename_i hb;cases h;simpa using hb
  ·exact Y8 h
structure Acc (P:List dH) (f:dH):Prop where
 n0:0≤f.aX
 n1:f.aX≤255
 l0:1≤f.code.length
 l1:f.code.length≤128
 ok:∀x∈f.code,oP x=0
 good:∀i x,f.code[i]?=some x→sW P f.code.length (nT 0 f.code) (rE f.code f.aX) i x=0
structure pV (P:List dH):Prop where
 n0:1≤P.length
 n1:P.length≤32
 root:Gy P 0=0
 all:∀f∈P,Acc P f
theorem G5{P:List dH}{n:Nat}{D H:List Int}:∀{l:List (List Int)} {i:Nat},oX P n D H i l=none↔∀j x,l[j]?=some x→sW P n D H (i+j) x=0
 |[],i=>by simp[oX]
 |y::l,i=>by
  unfold oX;split
  ·rename_i hb;refine⟨λh=>(by cases h),λh=> ?_⟩
   have:=h 0 y rfl;rw[Nat.add_zero]at this;rw[this]at hb;cases hb
  ·rename_i hb;rw[G5];refine⟨λh j x hx=> ?_,λh j x hx=> ?_⟩
   ·cases j with
    |zero=>simp at hx;subst hx;simpa using hb
    |succ j=>rw[show i+(j+1)=i+1+j by omega];exact h j x (by simpa using hx)
   ·rw[show i+1+j=i+(j+1) by omega];exact h (j+1) x (by simpa using hx)
theorem NT{P:List dH}:∀{l:List dH} {k:Nat},uC P k l=none↔∀f∈l,AA P f=none
 |[],k=>by simp[uC]
 |g::l,k=>by
  unfold uC;cases h:AA P g with
  |some q=>
   obtain⟨i,e⟩:=q;simp only;exact⟨λh=>(by cases h),λh2=>(by have:=h2 g bc;rw[h]at this;cases this)⟩
  |none=>
   simp only;rw[NT];refine⟨λh2 f hf=> ?_,λh2 f hf=>h2 f (by simp[hf])⟩
   rcases List.mem_cons.1 hf with rfl|hf
   ·exact h
   ·exact h2 f hf
theorem W7:∀{l:List (List Int)} {i:Nat},(∀x∈l,oP x=0)→(oB i l).2=0
 |[],_,_=>rfl
 |y::l,i,h=>by
  unfold oB;rw[if_neg (by rw[h y bc];simp)]
  exact W7 λx hx=>h x (by simp[hx])
theorem abY:∀{l:List dH} {k:Nat},(∀f∈l,(rp f.aX f.code).2=0)→rq k l=none
 |[],_,_=>rfl
 |y::l,k,h=>by
  unfold rq;rw[if_neg (by rw[h y bc];simp)]
  exact abY λx hx=>h x (by simp[hx])
theorem an5{P:List dH}:(sJ P).2.2=0↔pV P:=by
 constructor
 ·intro h;unfold sJ at h;split at h
  ·exfalso;dsimp only at h;omega
  ·rename_i hno;simp only[Bool.or_eq_true,decide_eq_true_eq,not_or]at hno;cases hs:rq 0 P with
   |some x=>rw[hs]at h;exact(Y8 hs h).elim
   |none=>
    rw[hs]at h;simp only at h;split at h
    ·exfalso;dsimp only at h;omega
    ·rename_i qX;cases hf:uC P 0 P with
     |some x=>
      obtain⟨a,i,e⟩:=x;rw[hf]at h;simp only at h;obtain⟨m,f,_,_,hfl⟩:=W6 hf;exact(G4 hfl h).elim
     |none=>
      refine⟨ah,ah,by simpa using qX,λf hm=> ?_⟩
      obtain⟨a,b,c,d,e⟩:=JX (NS hs f hm);refine⟨a,b,c,d,e,λi x hx=> ?_⟩;have h1:=NT.1 hf f hm;unfold AA at h1;have:=G5.1 h1 i x hx;rwa[Nat.zero_add]at this
 ·intro h;have hs:rq 0 P=none:=abY λf hf=>by
   have:=h.all f hf;have qX:=this.n0;have ux:=this.n1;have hl0:=this.l0;have hl1:=this.l1;unfold rp;rw[if_neg (by simp only[Bool.or_eq_true,decide_eq_true_eq];omega),if_neg (by simp only[Bool.or_eq_true,decide_eq_true_eq];omega)]
   exact W7 this.ok
  have hf:uC P 0 P=none:=NT.2 λf hf=>by
   unfold AA;exact G5.2 λj x hx=>by rw[Nat.zero_add];exact(h.all f hf).good j x hx
  have qX:=h.n0;have ux:=h.n1;unfold sJ;rw[if_neg (by simp only[Bool.or_eq_true,decide_eq_true_eq];omega),hs]
  simp only;rw[if_neg (by rw[h.root];simp),hf]
structure Good (P:List dH) (n:Nat) (D H:List Int) (i:Nat) (x:List Int):Prop where
 places:BJ P.length n x=false
 last:RJ n i x=false
 scopes:sr D i x=true
 ah5:rF P (H.getD i 0) x=true
theorem an6{P:List dH}{n:Nat}{D H:List Int}{i:Nat}{x:List Int}:sW P n D H i x=0↔Good P n D H i x:=by
 constructor
 ·intro h;cases h1:BJ P.length n x with
  |true=>rw[asG h1]at h;cases h
  |false=>
   cases h2:RJ n i x with
   |true=>rw[asI h1 h2]at h;cases h
   |false=>
    cases h3:sr D i x with
    |false=>rw[asJ h1 h2 h3]at h;cases h
    |true=>
     cases h4:rF P (H.getD i 0) x with
     |false=>rw[ah4 h1 h2 h3,h4]at h;simp at h
     |true=>exact⟨h1,h2,h3,h4⟩
 ·rintro⟨h1,h2,h3,h4⟩;rw[ah4 h1 h2 h3,h4];rfl
theorem W8:∀{l:List (List Int)} {n:Int} {i:Nat},i+1<l.length→(nT n l).getD (i+1) 0=Br ((nT n l).getD i 0) (l.getD i [])
 |[],_,_,h=>by simp at h
 |[x],_,i,h=>by simp at h
 |x::y::l,n,0,_=>by simp[nT]
 |x::y::l,n,i+1,h=>by
  have:=W8 (l:=y::l) (n:=Br n x) (i:=i) (by simpa using h)
  simp only[nT,List.getD_cons_succ]at this ⊢;exact this
structure IZ (P:List dH) (f:dH) (hv op at':Int):Prop where
 a0:0≤at'
 a1:at'<f.code.length
 inI:uJ hv
 bits:∀h:Nat,h<8→tb hv h=false→tb f.aX h=false∧Way f.code h at'
 ako:op=(nT 0 f.code).getD at'.toNat 0
section
variable {P:List dH} {f:dH} {hv op at':Int} {x:List Int}
theorem NU(hA:Acc P f)(hW:IZ P f hv op at')(hx:f.code[at'.toNat]?=some x):Good P f.code.length (nT 0 f.code) (rE f.code f.aX) at'.toNat x:=an6.1 (hA.good _ _ hx)
theorem Vb(hW:IZ P f hv op at'){h:Nat}(hh:h<8)(ht:tb ((rE f.code f.aX).getD at'.toNat 0) h=true):tb hv h=true:=by
 have h0:=hW.a0;have h1:=hW.a1;rw[abS ah,azQ hh,Int.toNat_of_nonneg h0]at ht;cases q:tb hv h with
 |true=>rfl
 |false=>
  obtain⟨b1,b2⟩:=hW.bits h hh q;rcases Va.1 ht with r|r
  ·rw[b1]at r;cases r
  ·exact(r b2).elim
theorem abZ(hn:f.code.length≤128)(hW:IZ P f hv op at')(hx:f.code[at'.toNat]?=some x){z:Int}{FP op':Int}(hz:z∈behind f.code.length at' x)(hI:uJ FP)
  (hb:∀h:Nat,h<8→tb FP h=false→tb hv h=false∧wV x h=false) (ho:op'=(nT 0 f.code).getD z.toNat 0):IZ P f FP op' z:=by
 have h0:=hW.a0;have h1:=hW.a1;have hin:=IX (x:=x) (n:=f.code.length) (i:=at') ah h0 h1 z hz;have hg:f.code.getD at'.toNat []=x:=by simp[hx]
 refine⟨hin.1,hin.2,hI,λh hh ht=> ?_,ho⟩;obtain⟨b1,b2⟩:=hb h hh ht;obtain⟨c1,c2⟩:=hW.bits h hh b1;exact⟨c1,c2.next (by rw[hg];exact b2) (by rw[hg];exact hz)⟩
theorem W9(hA:Acc P f)(hW:IZ P f hv op at')(hx:f.code[at'.toNat]?=some x)(h6:fW x≠6)(h15:fW x≠15)(h16:fW x≠16):at'+1∈behind f.code.length at' x∧at'+1<f.code.length:=by
 have h0:=hW.a0;have h1:=hW.a1;have hl:=hA.l1;have hg:=NU hA hW hx;have he:D7 x=false:=by unfold D7;rw[show(fW x==16)=false by simpa using h16,show(fW x==15)=false by simpa using h15];rfl
 have h6':(fW x !=6)=true:=by simpa using h6
 have hlt:at'+1<f.code.length:=by
  have:=hg.last;unfold RJ at this;rw[he,h6']at this;simp only[Bool.and_true,Bool.not_false,beq_eq_false_iff_ne,ne_eq]at this;omega
 have hw:aG .i64 (at'+1)=at'+1:=cT ⟨ah,ah⟩;refine⟨?_,hlt⟩;unfold behind;have hB:yB f.code.length at' x=true:=by unfold yB;rw[he,h6',hw,decide_eq_true hlt];rfl
 rw[if_pos hB,hw];simp
theorem af6(hA:Acc P f)(hW:IZ P f hv op at')(hx:f.code[at'.toNat]?=some x)(CU:pU x=true):x.getD 4 0∈behind f.code.length at' x:=by
 have hg:=NU hA hW hx;have h1:=(abX hg.places).1 CU;have h2:=(aeb (hA.ok x (q6 hx))).2.2.1 CU;unfold behind;have hB:yA f.code.length x=true:=by unfold yA;rw[CU,decide_eq_true ⟨h2.1,h1⟩];rfl
 rw[if_pos hB];simp
theorem Y9(hW:IZ P f hv op at')(hx:f.code[at'.toNat]?=some x)(hlt:at'+1<f.code.length):(nT 0 f.code).getD (at'+1).toNat 0=Br op x:=by
 have h0:=hW.a0;have e:(at'+1).toNat=at'.toNat+1:=ah;have hg:f.code.getD at'.toNat []=x:=by simp[hx]
 rw[e,W8 ah,hg,←hW.ako]
theorem ab0{h:Int}(h8:fW x≠8):wV x h=false:=by
 unfold wV;rw[show(fW x==8)=false by simpa using h8];rfl
theorem akp(hA:Acc P f)(hW:IZ P f hv op at')(hx:f.code[at'.toNat]?=some x)(h6:fW x≠6)(h15:fW x≠15)(h16:fW x≠16)(h8:fW x≠8):IZ P f hv (Br op x) (at'+1):=by
 obtain⟨hz,hlt⟩:=W9 hA hW hx h6 h15 h16;exact abZ hA.l1 hW hx hz hW.inI (λh hh ht=>⟨ht,ab0 h8⟩) (Y9 hW hx hlt).symm
theorem akq(hA:Acc P f)(hW:IZ P f hv op at')(hx:f.code[at'.toNat]?=some x)(CU:pU x=true):IZ P f hv op (x.getD 4 0):=by
 have hg:=NU hA hW hx;have ho:fW x=6∨fW x=7:=by unfold pU at CU;simpa using CU
 have h8:fW x≠8:=ah;refine abZ hA.l1 hW hx (af6 hA hW hx CU) hW.inI (λh hh ht=>⟨ht,ab0 h8⟩) ?_;have:=hg.scopes;unfold sr at this;rw[if_neg (by rcases ho with ho|ho<;>rw[ho] <;>decide),if_neg (by rcases ho with ho|ho<;>rw[ho] <;>decide),if_pos CU]at this
 rw[hW.ako];exact(by simpa using this:_=_).symm
end
theorem awu(x y:Int):uJ (Sx .i64 x y):=by rw[ae1];exact aaM _
theorem Za{P:List dH}{f:dH}(hA:Acc P f)(hN:uJ f.aX):IZ P f f.aX 0 0:=by
 have:=hA.l0;refine⟨ah,ah,hN,λh hh ht=>⟨ht,.zero⟩,?_⟩;cases hc:f.code with
 |nil=>rw[hc]at this;simp at this
 |cons x l=>rfl
end Go.Proofs.YthidhjhkmjjckaaGreatDoor.Ck
namespace Go.Proofs.YthidhjhkmjjckaaGreatDoor
open Go Go.Ev Go.Proofs
open Ko (oe CK)
theorem awv{f i:List Int}{ps:Sl}{P:List dH}{w:World}{k:Array Value×Int→aq}{g:dH}(hF:iN w ps P)(hf:f.length=19)(h0:0≤f.getD 0 0)(hg:P[(f.getD 0 0).toNat]?=some g)(h1:0≤f.getD 1 0)
  (hi:g.code[(f.getD 1 0).toNat]?=some i) (hk:∀w',Ext w w'→k (eU i,0) w'):iK (eU f) #[.slice ps.a ps.n ps.c] w k:=by
 have hn:=hF.len;obtain⟨_,hcd⟩:=hF.code g (q6 hg);have hcn:=hcd.len;have hlt:=(kJ.1 hg).1;have adD:=(kJ.1 hi).1;have h5:=(hcd.Gw i (q6 hi)).1;unfold iK;refine av (.nil w) λg1 w1 h=>av h λg3 w3 h=>av h λg5 w6 h=> ?_;have h:St w w6 [ax g5 (ints [0,0,0,0,0]),ax g3 [.slice ps.a ps.n ps.c],ax g1 (ints f)]:=h;refine bS (λb w'=>b=false∧w'=w6) (λJ hJ=> ?_) λb v hbv=> ?_
 ·refine cn (g:=g1) (o:=0+0) h (vB ah) (bh (by rw[decide_eq_false_iff_not];show¬f.getD 0 0<0;omega) ?_)
  refine cn (g:=g1) (o:=0+0) h (vB ah) (ea (g:=g3) (o:=0+0) h rfl (hJ _ _ ⟨by rw[decide_eq_false_iff_not];show¬f.getD 0 0≥((ps.n:Nat):Int);omega,rfl⟩))
 rw[hbv.1,hbv.2];refine bh rfl ?_;refine ea (g:=g3) (o:=0+0) h rfl (cn (g:=g1) (o:=0+0) h (vB ah) ?_);refine P6 (i:=f.getD 0 0) (e:=dH.cells g) hF.rws h h0 (by rw[pz,hg];rfl) λp hp=> ?_
 refine Il (s:=g.sl) (hp h (j:=1) rfl) ?_;refine bS (λb w'=>b=false∧w'=w6) (λJ hJ=> ?_) λb v hbv=> ?_
 ·refine cn (g:=g1) (o:=0+1) h (vB ah) (bh (by rw[decide_eq_false_iff_not];show¬f.getD 1 0<0;omega) ?_)
  refine cn (g:=g1) (o:=0+1) h (vB ah) (hJ _ _ ⟨by rw[decide_eq_false_iff_not];show¬f.getD 1 0≥((g.sl.n:Nat):Int);omega,rfl⟩)
 rw[hbv.1,hbv.2];refine bh rfl ?_;refine cn (g:=g1) (o:=0+1) h (vB ah) ?_;refine P6 (i:=f.getD 1 0) (e:=ints i) hcd.rws h h1 (by rw[pz,hi];rfl) λp hp=> ?_
 refine GO (e:=ints i) (by simp[ints,h5]) (λj v=>hp h) ?_
 refine m8 (g:=g5) h rfl (by simp[ints,h5]) (Ck.qy _) λw29 h=> ?_
 have h:St w w29 [ax g5 (ints i),ax g3 [.slice ps.a ps.n ps.c],ax g1 (ints f)]:=h;refine jZ (g:=g5) h (by simp[ints,h5]) ?_
 exact hk _ h.ext
def amr(op:Int):Bool:=decide (6≤op∧op≤12∨op=14)
theorem asK{op:Int}{w:World}{k:Bool→aq}(h0:0≤op)(h1:op<17)(hk:k (amr op) w):r7 op w k:=by
 unfold r7;rcases Fr.aB3 h0 h1 with h|h|h|h|h|h|h|h|h|h|h|h|h|h|h|h|h<;>subst h<;>exact hk
section
variable {w0 w:World} {L R:List HP} {l:Lc} {aa:List Nat} {G:Gl} {gw:Nat} {W:Wk} {f f2 f3:HP→List HP}
theorem _root_.Go.Ev.aI2{g o m n:Nat}{cs:List Value}{k:IntKind}{x:Int}{c:Int→Prop}(h:St w0 w L)[a:At L (ax g) cs f](hv:cs[o+m+n]?=some (.int k x))(hc:c x):aN k w (aY (aY ⟨g,o,none⟩ m) n) c:=by rw[cY];exact aI h hv hc
theorem _root_.Go.Ev.pN{g o m n:Nat}{cs:List Value}{k:IntKind}{x:Int}{c:Int→Prop}(h:St w0 w L)[a:At L (ax g) cs f](hc:c x)(hv:cs[o+m+n]?=some (.int k x):=by with_unfolding_all exact rfl):aN k w (aY (aY ⟨g,o,none⟩ m) n) c:=aI2 h hv hc
theorem AD{α:Type}{K:α→HP}{x:α}{X:HP}(h:St w0 w (X::L))[a:At L K x f]:St w0 w (f X):=by
 obtain⟨R,ho,hb⟩:=a.split;have h2:St w0 w (X::K x::R):=St.under ho h;exact St.apU hb h2.swap.drop
theorem qm{g:Nat}{cs:List Value}{B:Bx}(h:St w0 w (ax g cs::L))[a:At L fz B f]:St w0 w (f (fz (B++[(g,cs)]))):=by
 obtain⟨R,ho,hb⟩:=a.split;have h2:St w0 w (ax g cs::fz B::R):=St.under ho h;exact St.apU hb (awm h2)
theorem _root_.Go.Ev.St.asL{A B:List HP}(h:St w0 w (A++(B++R))):St w0 w (B++(A++R)):=h.perm (List.perm_append_comm_assoc A B R)
theorem _root_.Go.Ev.St.back(n:Nat){X:HP}(h:St w0 w (X::L)):St w0 w (L.insertIdx n X):=by
 by_cases hn:n≤L.length
 ·exact h.perm (List.perm_insertIdx X L hn).symm
 ·rw[List.insertIdx_of_length_lt ah];exact h.drop
theorem _root_.Go.Ev.St.bk{X:HP}{L':List HP}(h:St w0 w (X::L))(n:Nat)(e:L.insertIdx n X=L':=by simp only[azV,azW] <;>exact rfl):St w0 w L':=e▸St.back n h
theorem dN(h:St w0 w (Ub l aa G::qx l aa (gw,W)::R)):∃(sp st sw:Sl) (q:Wq),q.Ok aa gw W∧St w0 w (ax l.gs (l.cs sp st sw G.steps G.err)::bI l.gm G.M::Cr l.gk G.T::scp l.gc G.C::rws 4 sp (G.P.map uw)::bP 1 st (aa.map pt)::bP 1 sw (l.wa.map pt)::oe l.gt G.time::KO l.gd G.D::L1 aa G.ts::
  ax gw (W.cs l q)::ax q.gwt (W.wait.cells l.told)::bP 1 q.ss q.rV.reverse::bP 1 q.sb q.y3.reverse::bP 1 q.sl (ints W.left)::mX (uq q.go) W.op::mX (λk:Lk=>ax q.gl (k.cells l.gc)) W.look::mX (λo:jI=>ax q.gp (o.cells l.sp q.gp)) W.step::fz q.B::R):=by
 obtain⟨sp,st,sw,h⟩:=xw h;obtain⟨q,hq,h⟩:=abQ (h.front 10 rfl);exact⟨sp,st,sw,q,hq,St.asL (A:=[_,_,_,_,_,_,_,_,_]) (B:=[_,_,_,_,_,_,_,_,_,_]) (R:=R) h⟩
theorem bi{sp st sw:Sl}{q:Wq}(hq:q.Ok aa gw W)(h:St w0 w (ax l.gs (l.cs sp st sw G.steps G.err)::bI l.gm G.M::Cr l.gk G.T::scp l.gc G.C::rws 4 sp (G.P.map uw)::bP 1 st (aa.map pt)::bP 1 sw (l.wa.map pt)::oe l.gt G.time::KO l.gd G.D::L1 aa G.ts::
  ax gw (W.cs l q)::ax q.gwt (W.wait.cells l.told)::bP 1 q.ss q.rV.reverse::bP 1 q.sb q.y3.reverse::bP 1 q.sl (ints W.left)::mX (uq q.go) W.op::mX (λk:Lk=>ax q.gl (k.cells l.gc)) W.look::mX (λo:jI=>ax q.gp (o.cells l.sp q.gp)) W.step::fz q.B::R)):St w0 w (Ub l aa G::qx l aa (gw,W)::R):=by
 have h2:=ahT hq (St.asL (A:=[_,_,_,_,_,_,_,_,_,_]) (B:=[_,_,_,_,_,_,_,_,_]) (R:=R) h);exact tw (St.back 10 h2)
theorem _root_.Go.Ev.ptI{cs:Array Value}{o:Nat}{n:Int}{c:Int→Prop}(hv:cs[o]?=some (.int .i64 n))(hc:c n):PJ cs o λv=>xy .i64 v c:=by
 unfold PJ;rw[hv];exact hc
theorem JY{sp st sw:Sl}{steps err e:Int}{k:Bool→aq}(h:St w0 w L)[a:At L (ax l.gs) (l.cs sp st sw steps err) f](he:e≠0)(h0:err=0)(hk:∀w',St w0 w' (f (ax l.gs (l.cs sp st sw steps e)))→k true w'):ae (some ⟨l.gs,0,none⟩) e w k:=by
 unfold ae;subst h0;have hb:(e !=0)=true:=by simp[he]
 rw[hb];refine bS (λb w'=>b=true∧w'=w) (λJ hJ=> ?_) ?_
 ·refine bO rfl ?_;refine an (aI h rfl ?_);exact hJ _ _ ⟨rfl,rfl⟩
 rintro _ _ ⟨rfl,rfl⟩;refine bO rfl ?_;with_reducible repeat' (first|refine an ?_|refine dO h λw h=> ?_|fail)
 exact hk w h
theorem lT{s:Option Addr}{k:Bool→aq}(hk:k false w):ae s 0 w k:=by
 unfold ae;refine P2 ?_;exact bh rfl (bh rfl hk)
theorem lu{q:Wq}{a:Nat}{vs cs:List Value}{k:Option Addr→aq}(h:St w0 w L)[a1:At L (ax gw) cs f](hs:q.rV=pt a::vs)(h5:cs[0+5]?=some (.slice q.ss.a q.ss.n q.ss.c))[a2:At L (bP 1 q.ss) q.rV.reverse f2](hk:∀w',St w0 w' L→k (some ⟨a,0,none⟩) w'):af (some ⟨gw,0,none⟩) w k:=by
 unfold af;have hn:=uN (s:=q.ss) (vs:=q.rV.reverse) h;have hm:=(h.own (sz:=1) (s:=q.ss) (vs:=q.rV.reverse)).max;have hcap:=(h.own (sz:=1) (s:=q.ss) (vs:=q.rV.reverse)).cap;rw[hs]at hn;simp only[List.length_reverse,List.length_cons]at hn;refine aF h λw h=>an (aS h h5 (an (aS h h5 ?_)));show cZ q.ss (aG .i64 (((q.ss.n:Nat):Int) - 1)) 1 _;rw[lY ⟨ah,ah⟩];refine vP (s:=q.ss) (vs:=q.rV.reverse) h ah (x:=some ⟨a,0,none⟩) ?_ (hk _ h);rw[hs,List.reverse_cons,uI (by simp;omega)]
 have e:(((q.ss.n:Nat):Int) - 1).toNat - vs.reverse.length=0:=by rw[List.length_reverse];omega
 rw[e];rfl
theorem BK{t:Tk}{a:Nat}{so sc:Sl}{x:Int×Int}{o:List (Int×Int)}{k:Array Value→aq}(h:St w0 w L)[a1:At L (ax a) (t.cells so sc) f][a2:At L (rws 2 so) (t.cD.map Ay) f2](ho:t.cD=o++[x])
  (hk:∀w',St w0 w' L→k #[.int .i64 x.1,.int .i64 x.2] w'):au (some ⟨a,0,none⟩) w k:=by
 unfold au;have hl:=(tE (sz:=2) (s:=so) (es:=t.cD.map Ay) h).2 ah;obtain⟨R',yX,_⟩:=a2.out;obtain⟨R2,_,h3,_⟩:=K6 a2 h;have hm:=(h3.own (sz:=2) (s:=so) (vs:=(t.cD.map Ay).flatten)).max;have hcap:=(h3.own (sz:=2) (s:=so) (vs:=(t.cD.map Ay).flatten)).cap;rw[ho]at hl;simp only[List.length_map,tV,List.length_cons,List.length_nil]at hl;with_reducible repeat' (first|refine an ?_|refine aF h λw h=> ?_|refine j5 h ?_|refine av h λgx w h=> ?_|fail)
 show cZ so (aG .i64 (((so.n:Nat):Int) - 1)) 2 _;rw[lY ⟨ah,ah⟩];refine rA (sz:=2) (s:=so) (es:=t.cD.map Ay) h ah (e:=Ay x) ?_ ah ?_
 ·rw[ho,List.map_append,uI (by simp;omega)]
  have e:(((so.n:Nat):Int) - 1).toNat - (o.map Ay).length=0:=by rw[List.length_map];omega
  rw[e];rfl
 with_reducible repeat' (first|refine mI h ?_|refine nW h λw h=> ?_|fail)
 exact hk w h.drop
theorem Gz{q:Wq}{sp st sw:Sl}{steps err:Int}{k:Bool→aq}(h:St w0 w L)[a1:At L (ax gw) (W.cs l q) f][a2:At L (ax l.gs) (l.cs sp st sw steps err) f2](h0:err=0)
  (h1:steps≥l.fuel→∀w',St w0 w' (f2 (ax l.gs (l.cs sp st sw steps 22)))→k true w') (h2:¬steps≥l.fuel→∀w',St w0 w' L→k false w'):aE (some ⟨gw,0,none⟩) w k:=by
 unfold aE xW;with_reducible repeat' (first|refine an ?_|refine aF h λw h=> ?_|refine da h ?_|refine cS h ?_|refine pN h ?_|fail)
 refine ay (λhb=> ?_) λhb=> ?_
 ·with_reducible repeat' (first|refine an ?_|refine da h ?_|fail)
  exact JY h fY h0 λw h=>h1 (of_decide_eq_true hb) w h
 ·exact h2 (of_decide_eq_false hb) _ h
end
end Go.Proofs.YthidhjhkmjjckaaGreatDoor
namespace Go.Proofs.YthidhjhkmjjckaaGreatDoor
open Go Go.Ev Go.Proofs
open Fr (Ax nu dQ eB dc iB jj nR oT)
def Gl.tick(G:Gl)(wk:Int):Gl:={G with M:=G.M.tick wk}
def Gl.mem(G:Gl)(M:bK):Gl:={G with M:=M}
def Gl.fail(G:Gl)(e:Int):Gl:={G with err:=e}
def Gl.set(G:Gl)(x:Nat)(t:Tk):Gl:={G with ts:=G.ts.set x t}
def Gl.lU(G:Gl):Gl:={G with steps:=wr (G.steps+1)}
def Wk.go(W:Wk)(f:Mt):Wk:={W with cM:= .m f}
def Wk.AE(W:Wk)(O:bp)(k:Kn):Wk:={W with op:=some O,after:=k,cM:= .m .pn}
def Wk.G6(W:Wk)(x:Int)(k:Kn):Wk:={W with jk:=x,home:=k,cM:= .m .sU}
def Wk.I0(W:Wk)(k:Kn):Wk:={W with said:=k,cM:= .m .tell}
def Wk.search(W:Wk)(a b c:Kn):Wk:={W with fits:=a,got:=b,none_:=c,cM:= .m .others}
def Wk.stop(W:Wk)(k:Kn):Wk:={W with po:=k,step:=none,cM:= .m .stops}
def Wk.drain(W:Wk)(mark:Int)(k:Kn):Wk:={W with mark:=mark,dA:=k,cM:= .m .tO}
def Wk.looks(W:Wk)(s:Int)(k:Kn):Wk:={W with look:=some ⟨s,false,false⟩,seen:=k,cM:= .m .looking}
def Tk.ku(t:Tk):Int×Int:=t.cD.getLastD (0,0)
def bu(P:List dH)(f:List Int):List Int:=match P[(f.getD 0 0).toNat]? with
 |some g=>g.code.getD (f.getD 1 0).toNat []
 |none=>[]
def ams:Option bp→Int|some O=>O.tell|none=>0
section
variable (l:Lc) (P:List dH) (G:Gl) (W:Wk)
abbrev SW:=Gl×Wk
abbrev got(W:Wk):Int:=ams W.op
def rest:SW:=(G.tick W.id,({W with late:=false,wait:=⟨1,G.M.get l.told⟩}:Wk).AE (bp.CT W.dq l.log 0 8) (.c .FA))
def FA(st:Int):SW:=(G,if st=1 then W.G6 (got W) (.m .rest)else W.search .any (.c .Sj) (.m .yJ))
def yJ:SW:=(G,if W.late then W.go .rest else if W.id≥l.base then{W with step:=some (jI.CT W.id 3),cM:= .m .wU}else W.go .RD)
def NV:SW:=(G.mem (G.M.ad W.id l.told 1),{W with cM:=W.said})
def RD:SW:=(G.mem (G.M.ad W.id l.idle (bit W.id 1)),{W with wait:=⟨2,W.wait.seen⟩,cM:= .m .IU})
def IU:SW:=(G.mem (G.M.ad W.id l.idle (bit W.id (-1))),{W with wait:=⟨0,W.wait.seen⟩,cM:= .m .rest})
def wU(o:jI):SW:=
 let r:=o.go l.sp G.M W.id
 (G.mem r.2,if r.1.next=0 then{W with step:=some r.1,cM:=if r.1.afM=W.id then .m .rest else .m .RD}else{W with step:=some r.1})
def sU(t:Tk):SW:=(G.mem (G.M.cs W.id (t.jC+0) 0 1).1,{W with cM:=if (G.M.cs W.id (t.jC+0) 0 1).2 then .m .start else W.home})
def shut(k:Kn)(t:Tk):Wk:=({W with target:=none,pT:=k,again:= .sh k}:Wk).drain t.ku.2 (.c .Cs)
def unwind(t:Tk):Wk:=if t.cD.length=0 then W.go .put else shut W (.c .qw) t
def ends(x:Nat)(t:Tk)(kind v:Int):SW:=(G.set x {t with kind:=kind,v:=v},unwind W t)
def NW(x:Nat)(t:Tk):SW:=
 if W.stack.length≥l.deep then(G.fail 23,W)
 else((G.tick W.id).set x {t with cD:=[(t.own,G.M.get (W.dq+1))]},({W with stack:=x::W.stack,back:=W.home::W.back}:Wk).looks t.lX (.c .wW))
def wW(x:Nat)(t:Tk)(wT:Bool):SW:=if wT then ends G W x t 4 0 else(G,W.go .next)
def ab1(op:Int):Mt:=([.fork,.join,.join,.cD,.close,.cancel,.pass,.leave,.leave]:List Mt).getD (op - 8).toNat .pass
def aed(x:Nat)(t:Tk)(i:List Int):SW:=
 if G.steps≥l.fuel then(G.fail 22,W)
 else if (dQ t.f i).2 then((G.set x {t with f:=(dQ t.f i).1}).lU,W.go .next)
 else(G,W.go (ab1 (i.getD 0 0)))
def Vc(x:Nat)(t:Tk):SW:=if amr ((bu P t.f).getD 0 0)then(G,W.looks t.lX (.nx (bu P t.f)))else aed l G W x t (bu P t.f)
def ab2(x:Nat)(t:Tk)(i:List Int)(wT:Bool):SW:=if wT then ends G W x t 4 0 else aed l G W x t i
def fork(t:Tk)(nd:Nd):SW:=
 if wr (nd.nest+1)>32 then(G.fail 23,W)
 else if G.M.room 2=false then(G.fail 21,W)
 else({G with M:=(G.M.tick W.id).grow 2,C:=G.C++[⟨t.ku.1,wr (nd.nest+1),(G.M.cells.length:Nat)⟩],P:=G.P++[(-2,0,0,false)]},{W with own:=(G.C.length:Nat),cM:= .m .wV})
def Gl.more(G:Gl)(wk parent lX own:Int)(f:List Int):Gl:=
 {G with M:=(G.M.tick wk).grow 3,T:=G3 G.T parent,ts:=G.ts++[⟨(G.T.length:Nat),lX,own,(G.M.cells.length:Nat),f,ByteArray.mk #[],[],[own],0,0⟩],P:=G.P.set own.toNat ((G.T.length:Nat),0,0,false)}
def Eb(P:List dH)(n:Int):Int:=match P[n.toNat]? with|some g=>g.aX|none=>0
def JZ(x:Nat)(t:Tk):SW:=
 let i:=bu P t.f
 if G.steps≥l.fuel then(G.fail 22,W)
 else if G.M.room 3=false then(G.fail 21,W)
 else(((G.more W.id t.id t.ku.1 W.own (jj t.f (i.getD 4 0) (Eb P (i.getD 4 0)))).set x {t with f:=eB t.f i (G.ts.length:Nat)}).lU,{W with jk:=(G.ts.length:Nat),cM:= .m .sV})
def sV(nd:Nd):SW:=(G.mem (G.M.ad W.id (nd.at_+1) 1),W.AE (bp.CT W.dq l.log W.jk 0) (.c .tP))
def tP(st:Int):SW:=(G,if st=4 then W.G6 W.jk (.m .next)else W.I0 (.m .next))
def cD:SW:=(G.tick W.id,{W with mark:=G.M.get (W.dq+1),cM:= .m .opens})
def opens(x:Nat)(t:Tk)(nd:Nd)(pk:Int):SW:=
 let i:=bu P t.f
 if G.steps≥l.fuel then(G.fail 22,W)
 else if wr (nd.nest+1)>32 then(G.fail 23,W)
 else if G.M.room 2=false then(G.fail 21,W)
 else
  let s:Int:=(G.C.length:Nat)
  let G1:Gl:={G with M:=(G.M.tick W.id).grow 2,C:=G.C++[⟨t.ku.1,wr (nd.nest+1),(G.M.cells.length:Nat)⟩],P:=G.P++[(t.id,((t.scopes.length:Nat):Int),pk,false)],time:=if i.getD 4 0>0 then(G.time.1,(Ko.CM G.time s (i.getD 4 0)).2)else G.time}
  ((G1.set x {t with scopes:=t.scopes++[s],cD:=t.cD++[(s,W.mark)],f:=nu t.f}).lU,W.go .next)
def close_(t:Tk):SW:=(G,shut W (.c .BW) t)
def BX(P:List Pl)(i:Int):List Pl:=match P[i.toNat]? with|some p=>P.set i.toNat (p.1,p.2.1,p.2.2.1,true)|none=>P
def Gl.Yk(G:Gl)(x:Nat)(t:Tk):Gl:=
 {G with time:=(G.time.1,Ko.D6 G.time.2 t.ku.1),P:=BX G.P t.ku.1,ts:=G.ts.set x {t with cD:=t.cD.dropLast}}
def gF(x:Nat)(t:Tk)(nd:Nd):SW:=
 let i:=bu P t.f
 let a:=G.M.get nd.at_ !=0
 if G.steps≥l.fuel then(G.fail 22,W)
 else(((G.tick W.id).Yk x {t with gF:=t.gF++(if a then ByteArray.mk #[49]else ByteArray.mk #[48]),f:=iB t.f i a}).lU,W.go .next)
def cancel(x:Nat)(t:Tk)(nd:Nd):SW:=
 if G.steps≥l.fuel then(G.fail 22,W)
 else(((G.mem (G.M.cs W.id nd.at_ 0 1).1).set x {t with f:=nu t.f}).lU,W.I0 (.m .next))
def pass(x:Nat)(t:Tk):SW:=if G.steps≥l.fuel then(G.fail 22,W)else((G.set x {t with f:=nu t.f}).lU,W.go .next)
def leave(x:Nat)(t:Tk):SW:=
 let i:=bu P t.f
 if G.steps≥l.fuel then(G.fail 22,W)
 else(((G.set x {t with f:=nu t.f,kind:=if i.getD 0 0=15 then 3 else 2,v:=t.f.getD (2+(i.getD 1 0).toNat) 0})).lU,unwind W t)
def ah6(x:Nat)(t:Tk):SW:=ends G W x t 4 0
def qw(x:Nat)(t:Tk):SW:=(G.Yk x t,unwind W {t with cD:=t.cD.dropLast})
def put(t:Tk):SW:=(if t.kind=4 then G else G.mem ((G.M.tick W.id).put (t.jC+1) t.v),W.go .fin)
def fin(t:Tk):SW:=(G.mem (G.M.cs W.id (t.jC+0) 1 t.kind).1,W.go .asks)
def asks(t:Tk):SW:=(G.tick W.id,{W with bits:=G.M.get (t.jC+2),cM:= .m .gone})
def gone(nd:Nd):SW:=
 let b:=W.back.headD .no
 let W1:Wk:={W with stack:=W.stack.tail,back:=W.back.tail,cM:=b}
 (G.mem (G.M.ad W.id (nd.at_+1) (-1)),if W.bits !=0||G.M.get (nd.at_+1)==1 then W1.I0 b else W1)
def FH(t:Tk)(x:Nat):SW:=(G.tick W.id,({W with target:=some x,late:=false,again:= .aw x,wait:=⟨1,G.M.get l.told⟩}:Wk).looks t.lX (.c .sI))
def join(t:Tk):SW:=
 let i:=bu P t.f
 FH l G W t (t.f.getD (10+(if i.getD 0 0=10 then i.getD 3 0 else i.getD 2 0).toNat) 0).toNat
def sI(wT:Bool):SW:=(G,if wT then W.stop (.m .cancelled)else W.go .asked)
def asked(t tt:Tk)(y:Nat):SW:=
 let kind:=G.M.get (tt.jC+0)
 (G.tick W.id,if kind=0 then W.stop (.U7 y W.again)else if kind=1 then W.drain (t.cD.headD (0,0)).2 (.m .vu)else({W with kind:=kind}:Wk).stop (.c .HY))
def joined(x:Nat)(t tt:Tk):SW:=
 let i:=bu P t.f
 if G.steps≥l.fuel then(G.fail 22,W)
 else
  let r:=dc t.f i W.kind (if W.kind=4 then 0 else G.M.get (tt.jC+1))
  let G1:=if W.kind=4 then G else G.tick W.id
  if r.2.2 then((G1.set x {t with f:=r.1,kind:=3,v:=r.2.1}).lU,unwind (W.go .next) t)
  else((G1.set x {t with f:=r.1}).lU,W.go .next)
def vu(t:Tk):SW:=(G,W.search (.hl t.id W.target) (.m .Bp) (.m .nothing))
def Bp(x:Int):SW:=(G,W.stop (.Bq x W.again))
def dA(t:Tk):SW:=if W.dA= .m .vu then vu G W t else(G,W.go .qV)
def tO(t:Tk):SW:=
 let b:=G.M.get (W.dq+1)
 if b≤W.mark then dA (G.tick W.id) W t else(G.tick W.id,W.AE (bp.CT W.dq l.log 0 8) (.c .sH))
def sH(t:Tk)(st:Int):SW:=if st≠1 then dA G W t else Bp G W (got W)
def qV:SW:=(G.tick W.id,{W with late:=false,wait:=⟨1,G.M.get l.told⟩,cM:= .m .rT})
def rT(t:Tk)(nd:Nd):SW:=if G.M.get (nd.at_+1)=0 then(G.tick W.id,W.stop W.pT)else vu (G.tick W.id) W t
def nothing:SW:=(G,if W.late then{W with cM:=W.again}else if W.target.isSome&& !W.bH then W.go .register else if W.blocked then{W with wait:=⟨2,W.wait.seen⟩,cM:= .m .HJ}else{W with step:=some (jI.CT 0 1),cM:= .m .block})
def register(tt:Tk):SW:=(G.mem (G.M.ad W.id (tt.jC+2) (bit W.id 1)),{W with bH:=true,cM:=W.again})
def block(o:jI):SW:=
 let r:=o.go l.sp G.M W.id
 (G.mem r.2,if r.1.next=0 then{W with step:=some r.1,blocked:=true,cM:=W.again}else{W with step:=some r.1})
def again(t:Tk):SW:=match W.again with
 | .aw y=>FH l G W t y
 | .sh k=>(G,shut W k t)
 |_=>(G,W)
def HJ(t:Tk):SW:=again l G {W with wait:=⟨0,W.wait.seen⟩} t
def po(x:Nat)(t:Tk)(id:Nat→Int):SW:=match W.po with
 | .m .cancelled=>ends G W x t 4 0
 | .U7 y k=>(G,W.G6 (id y) k)
 | .Bq y k=>(G,W.G6 y k)
 | .c .HY=>(G,W.go .joined)
 | .c .BW=>(G,W.go .gF)
 | .c .qw=>qw G W x t
 |_=>(G,W)
def stops(x:Nat)(t:Tk)(id jC:Nat→Int):SW:=
 if W.blocked then
  let r:=(W.step.getD (jI.CT 0 2)).go l.sp G.M W.id
  (G.mem r.2,if r.1.next=0 then{W with blocked:=false,step:=none}else{W with step:=some r.1})
 else if W.bH then(G.mem (G.M.ad W.id (jC (W.target.getD 0)+2) (bit W.id (-1))),{W with bH:=false})
 else po G W x t id
def akr(t:Tk):SW:=if W.none_= .m .yJ then yJ l G W else nothing G W
def J0(t:Tk)(bt:List Int):SW:=match W.left with
 |[]=>akr l G W t
 |j::r=>(G,({W with left:=r}:Wk).AE (bp.CT (bt.getD j.toNat 0) l.log 0 15) (.m .Tv))
def others(t:Tk)(bt:List Int):SW:=
 J0 l {G.tick W.id with D:=G.D.tail} {W with left:=UZ (G.D.headD 0) (xh W.id (l.sp.bits G.M) (G.M.get l.idle) l.wa.length)} t bt
def Yl(W:Wk)(id:Nat→Int)(x:Int):Bool:=match W.fits with
 | .hl me none=>Ry G.T x me
 | .hl me (some y)=>Ry G.T x me||Ry G.T x (id y)
 |_=>true
def Tv(t:Tk)(bt:List Int)(id:Nat→Int)(st:Int):SW:=if st≠2∨Yl G W id (got W)=false then J0 l G W t bt else(G,{W with after:= .m .Aj})
def asM(x:Int):SW:=if W.got= .m .Bp then Bp G W x else(G,W.G6 x (.m .rest))
def Aj(t:Tk)(bt:List Int)(st:Int):SW:=if st=1 then asM G W (got W)else J0 l G {W with late:=true} t bt
def yV(t:Tk)(bt:List Int)(id:Nat→Int)(st:Int):SW:=match W.after with
 | .c .FA=>FA G W st
 | .c .tP=>tP G W st
 | .c .sH=>sH G W t st
 | .m .Tv=>Tv l G W t bt id st
 | .m .Aj=>Aj l G W t bt st
 |_=>(G,W)
def pn(O:bp)(t:Tk)(bt:List Int)(id:Nat→Int):SW:=
 let r:=O.step G.M W.id
 let W1:Wk:={W with op:=some r.1}
 if r.1.how=0 then(G.mem r.2,W1)else if r.1.how=6 then((G.mem r.2).fail r.1.err,W1)else yV l (G.mem r.2) W1 t bt id r.1.how
def RK(x:Nat)(t:Tk)(wT:Bool):SW:=match W.seen with
 | .nx i=>ab2 l G W x t i wT
 | .c .sI=>sI G W wT
 | .c .wW=>wW G W x t wT
 |_=>(G,W)
def looking(k:Lk)(nd:Nd)(x:Nat)(t:Tk):SW:=
 let k':=k.go G.M nd
 let W1:Wk:={W with look:=some k'}
 if k'.done then RK l (G.tick W.id) W1 x t k'.wT else(G.tick W.id,W1)
end
end Go.Proofs.YthidhjhkmjjckaaGreatDoor
namespace Go.Proofs.YthidhjhkmjjckaaGreatDoor
open Go Go.Ev Go.Proofs
open Ko (oe CK)
abbrev qE(w0 w:World)(l:Lc)(aa:List Nat)(gw:Nat)(G:Gl)(W:Wk)(R:List HP):Prop:=St w0 w (Ub l aa G::qx l aa (gw,W)::R)
abbrev Fin(w0:World)(l:Lc)(aa:List Nat)(gw:Nat)(R:List HP)(k:Unit→aq)(r:Gl×Wk):Prop:=∀w',qE w0 w' l aa gw r.1 r.2 R→k () w'
abbrev wX(w0 w:World)(l:Lc)(aa:List Nat)(gw:Nat)(G:Gl)(W:Wk)(R:List HP)(sp st sw:Sl)(q:Wq):Prop:=
 St w0 w (ax l.gs (l.cs sp st sw G.steps G.err)::bI l.gm G.M::Cr l.gk G.T::scp l.gc G.C::rws 4 sp (G.P.map uw)::bP 1 st (aa.map pt)::bP 1 sw (l.wa.map pt)::oe l.gt G.time::KO l.gd G.D::L1 aa G.ts::
  ax gw (W.cs l q)::ax q.gwt (W.wait.cells l.told)::bP 1 q.ss q.rV.reverse::bP 1 q.sb q.y3.reverse::bP 1 q.sl (ints W.left)::mX (uq q.go) W.op::mX (λk:Lk=>ax q.gl (k.cells l.gc)) W.look::mX (λo:jI=>ax q.gp (o.cells l.sp q.gp)) W.step::fz q.B::R)
section
variable {w0 w:World} {L R:List HP} {l:Lc} {aa:List Nat} {G:Gl} {gw b:Nat} {W:Wk} {k:Unit→aq} {sp st sw:Sl} {q:Wq} {f:HP→List HP}
theorem af7{go:Nat}{o:Option bp}{k:Int→aq}(h:St w0 w L)[a:At L (mX (uq go)) o f](ho:o.isSome=true)(hk:k (ams o) w):cB (o.map λ_=>⟨go,0,none⟩) w k:=by
 cases o with
 |none=>cases ho
 |some O=>
  obtain⟨R,h1,_⟩:=a.out;have h2:St w0 w (uq go O::R):=h1 h;exact azs (O:=O) h2 hk
theorem aww(h:qE w0 w l aa gw G W R)(hc:G.M.can W.id l.told=true)(hk:Fin w0 l aa gw R k (rest l G W)):gS (some ⟨gw,0,none⟩) w k:=by
 obtain⟨sp,st,sw,q,hq,h⟩:=dN h;unfold gS zQ;with_reducible repeat' (first|refine an ?_|refine aF h λw h=> ?_|refine da h ?_|refine cS h ?_|refine lW h ?_|refine dO h λw h=> ?_|refine av h λgx w h=> ?_|fail)
 obtain⟨b,lS⟩:∃n,n=gx:=⟨_,rfl⟩;subst lS;with_reducible repeat' (first|refine an ?_|refine aF h λw h=> ?_|refine da h ?_|refine cS h ?_|refine uL h ?_|refine j5 h ?_|refine pC h ?_|refine zb h ?_|refine lW h ?_|refine vt h ?_|refine AO h ?_|refine sY h ?_|refine Ar h ?_|refine AP h ?_|refine mH h ?_|refine mI h ?_|refine pN h ?_|refine dO h λw h=> ?_|refine qY h λw h=> ?_|refine vC h λw h=> ?_|refine nW h λw h=> ?_|refine av h λgx w h=> ?_|refine cP ?_|refine ja h ?_|refine mJ h ?_|refine fX ?_ ?_|refine fE ?_|refine nJ ?_|refine xB ?_|fail)
 have h:=h.fr 2;have h:=h.fr 12;refine abn (M:=G.M) h hc λw h=> ?_;have h:=h.bk 12;have h:=h.bk 2;with_reducible repeat' (first|refine an ?_|refine aF h λw h=> ?_|refine lW h ?_|refine mH h ?_|refine ja h ?_|refine mJ h ?_|refine fE ?_|refine lT ?_|fail)
 refine aru h λgo w h=> ?_;have h:=AD (K:=mX (uq q.go)) h;unfold bl;with_reducible repeat' (first|refine an ?_|refine dO h λw h=> ?_|refine mJ h ?_|fail)
 have h:=qm h;exact hk w (bi (q:={q with go:=go,px:=_,JT:=_,B:=_}) {JU (g:=b) (cs:=[pt gw]) hq with cM:=rfl,after:=⟨b,bc,rfl⟩} h)
theorem asN{CV:Int}(hq:q.Ok aa gw W)(h:wX w0 w l aa gw G W R sp st sw q)(hb:(b,[pt gw])∈q.B)(ho:W.op.isSome=true)(hk:Fin w0 l aa gw R k (FA G W CV)):gA CV ⟨b,0,none⟩ w k:=by
 unfold gA vW;unfold FA at hk;refine ay (λhs=> ?_) λhs=> ?_
 ·rw[if_pos (by simpa using hs)]at hk
  with_reducible repeat' (first|refine an ?_|refine aF h λw h=> ?_|refine da h ?_|refine Eo h hb ?_|fail)
  refine af7 h ho ?_;with_reducible repeat' (first|refine cP ?_|fail)
  unfold bg;with_reducible repeat' (first|refine an ?_|refine dO h λw h=> ?_|fail)
  exact hk _ (bi (q:={q with px:=mt gw .sU,KS:=mt gw .rest}) (by exact{hq with cM:=rfl,home:=rfl}) h)
 ·rw[if_neg (by simpa using hs)]at hk
  with_reducible repeat' (first|refine Eo h hb ?_|fail)
  unfold di;with_reducible repeat' (first|refine an ?_|refine dO h λw h=> ?_|fail)
  exact hk _ (bi (q:={q with px:=mt gw .others,Yf:=ayb,ahS:=ct b .Sj,Yg:=mt gw .yJ}) (by exact{hq with cM:=rfl,fits:=rfl,got:=⟨b,hb,rfl⟩,none_:=rfl}) h)
theorem an7{x:Int}(hq:q.Ok aa gw W)(h:wX w0 w l aa gw G W R sp st sw q)(hb:(b,[pt gw])∈q.B)(hk:Fin w0 l aa gw R k (G,W.G6 x (.m .rest))):eN x ⟨b,0,none⟩ w k:=by
 unfold eN uc;with_reducible repeat' (first|refine Eo h hb ?_|fail)
 unfold bg;with_reducible repeat' (first|refine an ?_|refine dO h λw h=> ?_|fail)
 exact hk _ (bi (q:={q with px:=mt gw .sU,KS:=mt gw .rest}) (by exact{hq with cM:=rfl,home:=rfl}) h)
theorem asO(h:qE w0 w l aa gw G W R)(hk:Fin w0 l aa gw R k (yJ l G W)):ig (some ⟨gw,0,none⟩) w k:=by
 obtain⟨sp,st,sw,q,hq,h⟩:=dN h;unfold ig xS;unfold yJ at hk;with_reducible repeat' (first|refine an ?_|refine uL h ?_|fail)
 refine ay (λhb=> ?_) λhb=> ?_
 ·rw[if_pos hb]at hk;with_reducible repeat' (first|refine an ?_|refine dO h λw h=> ?_|fail)
  exact hk _ (bi (q:={q with px:=mt gw .rest}) (by exact{hq with cM:=rfl}) h)
 rw[if_neg (by rw[hb];simp)]at hk
 with_reducible repeat' (first|refine an ?_|refine aF h λw h=> ?_|refine da h ?_|refine cS h ?_|refine pN h ?_|fail)
 refine ay (λhb=> ?_) λhb=> ?_
 ·rw[if_pos (of_decide_eq_true hb)]at hk;with_reducible repeat' (first|refine an ?_|refine aF h λw h=> ?_|refine da h ?_|refine cS h ?_|refine mH h ?_|fail)
  refine anK (s:=l.sp) h λg w h=> ?_;have h:=AD (K:=mX (λo:jI=>ax q.gp (o.cells l.sp q.gp))) h;with_reducible repeat' (first|refine an ?_|refine dO h λw h=> ?_|fail)
  exact hk _ (bi (q:={q with px:=mt gw .wU,gp:=g}) (by exact{hq with cM:=rfl}) h)
 ·rw[if_neg (of_decide_eq_false hb)]at hk;with_reducible repeat' (first|refine an ?_|refine dO h λw h=> ?_|fail)
  exact hk _ (bi (q:={q with px:=mt gw .RD}) (by exact{hq with cM:=rfl}) h)
theorem asP(h:qE w0 w l aa gw G W R)(hc:G.M.can W.id l.told=true)(hk:Fin w0 l aa gw R k (NV l G W)):gP (some ⟨gw,0,none⟩) w k:=by
 obtain⟨sp,st,sw,q,hq,h⟩:=dN h;unfold gP zK;have hv:=hq.said.one;with_reducible repeat' (first|refine an ?_|refine aF h λw h=> ?_|refine da h ?_|refine cS h ?_|refine mH h ?_|fail)
 refine alY (M:=G.M) h hc λw h=> ?_;with_reducible repeat' (first|refine an ?_|refine pC h ?_|refine dO h λw h=> ?_|refine ja h ?_|refine nJ ?_|refine lT ?_|fail)
 exact hk _ (bi (q:={q with px:=q.Yh}) (by exact{hq with cM:=hq.said}) h)
theorem azX(h:qE w0 w l aa gw G W R)(hw:0≤W.id∧W.id≤16)(hc:G.M.can W.id l.idle=true)(hh:W.wait.how=1)(hk:Fin w0 l aa gw R k (RD l G W)):iJ (some ⟨gw,0,none⟩) w k:=by
 obtain⟨sp,st,sw,q,hq,h⟩:=dN h;unfold iJ Ba;with_reducible repeat' (first|refine an ?_|refine aF h λw h=> ?_|refine da h ?_|refine cS h ?_|refine uL h ?_|refine j5 h ?_|refine pC h ?_|refine zb h ?_|refine lW h ?_|refine vt h ?_|refine AO h ?_|refine sY h ?_|refine Ar h ?_|refine AP h ?_|refine mH h ?_|refine mI h ?_|refine pN h ?_|refine dO h λw h=> ?_|refine qY h λw h=> ?_|refine vC h λw h=> ?_|refine nW h λw h=> ?_|refine av h λgx w h=> ?_|refine cP ?_|refine ja h ?_|refine mJ h ?_|refine fX ?_ ?_|refine fE ?_|refine nJ ?_|refine xB ?_|fail)
 refine bS (λb w=>b=false∧wX w0 w l aa gw (G.mem (G.M.ad W.id l.idle (bit W.id 1))) {W with wait:=⟨2,W.wait.seen⟩} R sp st sw q) (λJ hJ=> ?_) ?_
 ·with_reducible repeat' (first|refine an ?_|refine aF h λw h=> ?_|refine da h ?_|refine cS h ?_|refine mH h ?_|fail)
  refine anr (M:=G.M) h hw hc λw h=> ?_;with_reducible repeat' (first|refine an ?_|refine da h ?_|refine ja h ?_|refine fE ?_|refine lT ?_|fail)
  refine alZ (x:=W.wait) h λw h=> ?_;rw[if_pos hh];rw[if_pos hh]at h;with_reducible repeat' (first|refine ja h ?_|refine lT ?_|fail)
  exact hJ _ _ ⟨rfl,h⟩
 clear h;rintro _ w ⟨rfl,h⟩;with_reducible repeat' (first|refine an ?_|refine dO h λw h=> ?_|refine fE ?_|fail)
 exact hk _ (bi (q:={q with px:=mt gw .IU}) (by exact{hq with cM:=rfl}) h)
theorem awx(h:qE w0 w l aa gw G W R)(hw:0≤W.id∧W.id≤16)(hc:G.M.can W.id l.idle=true)(hk:Fin w0 l aa gw R k (IU l G W)):gQ (some ⟨gw,0,none⟩) w k:=by
 obtain⟨sp,st,sw,q,hq,h⟩:=dN h;unfold gQ zM;with_reducible repeat' (first|refine an ?_|refine da h ?_|fail)
 refine adU (x:=W.wait) h λw h=> ?_;with_reducible repeat' (first|refine an ?_|refine aF h λw h=> ?_|refine da h ?_|refine cS h ?_|refine mH h ?_|fail)
 refine ans (M:=G.M) h hw hc λw h=> ?_;with_reducible repeat' (first|refine an ?_|refine dO h λw h=> ?_|refine ja h ?_|refine nJ ?_|refine lT ?_|fail)
 exact hk _ (bi (q:={q with px:=mt gw .rest}) (by exact{hq with cM:=rfl}) h)
theorem akt(h:qE w0 w l aa gw G W R)(hc:G.M.can W.id l.told=true)(hk:Fin w0 l aa gw R k (qV l G W)):eH (some ⟨gw,0,none⟩) w k:=by
 obtain⟨sp,st,sw,q,hq,h⟩:=dN h;unfold eH vc;with_reducible repeat' (first|refine an ?_|refine aF h λw h=> ?_|refine da h ?_|refine cS h ?_|refine dO h λw h=> ?_|fail)
 have h:=h.fr 1;have h:=h.fr 11;refine abn (M:=G.M) h hc λw h=> ?_;have h:=h.bk 11;have h:=h.bk 1;with_reducible repeat' (first|refine an ?_|refine dO h λw h=> ?_|refine ja h ?_|refine fE ?_|refine lT ?_|fail)
 exact hk _ (bi (q:={q with px:=mt gw .rT}) (by exact{hq with cM:=rfl}) h)
theorem awy(h:qE w0 w l aa gw G W R)(hA:yY W.dq)(hc:G.M.can W.id (W.dq+1)=true)(hk:Fin w0 l aa gw R k (cD G W)):gV (some ⟨gw,0,none⟩) w k:=by
 obtain⟨sp,st,sw,q,hq,h⟩:=dN h;unfold gV zX;with_reducible repeat' (first|refine an ?_|refine aF h λw h=> ?_|refine da h ?_|refine cS h ?_|refine mH h ?_|fail)
 refine UY (M:=G.M) h hA hc λw h=> ?_;with_reducible repeat' (first|refine an ?_|refine da h ?_|refine dO h λw h=> ?_|refine fE ?_|refine lT ?_|fail)
 exact hk _ (bi (q:={q with px:=mt gw .opens}) (by exact{hq with cM:=rfl}) h)
theorem an8{o:jI}(h:qE w0 w l aa gw G W R)(hT:TZ w0)(hs:l.sp.OK)(hM:G.M.OK)(ho:W.step=some o)(hf:o.Gu l.sp G.M W.id)(hk:Fin w0 l aa gw R k (wU l G W o)):fa (some ⟨gw,0,none⟩) w k:=by
 obtain⟨id,dq,wait,stack,back,cM,op,after,look,seen,step,left,late,fits,got,none_,jk,home,target,kind,bH,blocked,again,po,mark,dA,own,said,bits,pT⟩:=W;dsimp only at ho;subst ho;obtain⟨sp,st,sw,q,hq,h⟩:=dN h;unfold fa wm;unfold wU at hk;dsimp only[mX]at h;with_reducible repeat' (first|refine an ?_|refine aF h λw h=> ?_|refine da h ?_|refine cS h ?_|fail)
 have h:=h.fr 1;have h:=h.fr 17;refine X6 (s:=l.sp) (M:=G.M) (o:=o) h hT hs hM hf λw h=> ?_;have h:=h.bk 17;have h:=h.bk 1;generalize o.go l.sp G.M id=r at h hk ⊢;with_reducible repeat' (first|refine an ?_|refine da h ?_|refine lT ?_|fail)
 refine ay (λhb=> ?_) λhb=> ?_
 ·have hb:¬r.1.next=0:=by simpa using hb
  simp only[if_neg hb]at hk;exact hk _ (bi (q:=q) (by exact{hq with}) h)
 ·have hb:r.1.next=0:=by simpa using hb
  simp only[if_pos hb]at hk;with_reducible repeat' (first|refine an ?_|refine aF h λw h=> ?_|refine da h ?_|refine cS h ?_|refine dO h λw h=> ?_|fail)
  refine arH (s:=l.sp) (o:=r.1) h ?_;with_reducible repeat' (first|refine cP ?_|fail)
  refine ay (λhb=> ?_) λhb=> ?_
  ·rw[if_pos (by simpa using hb)]at hk
   with_reducible repeat' (first|refine an ?_|refine dO h λw h=> ?_|fail)
   exact hk _ (bi (q:={q with px:=mt gw .rest}) (by exact{hq with cM:=rfl}) h)
  ·rw[if_neg (by simpa using hb)]at hk
   exact hk _ (bi (q:={q with px:=mt gw .RD}) (by exact{hq with cM:=rfl}) h)
end
open Fr (Ax nu dQ eB dc iB jj nR oT)
abbrev TL(l:Lc)(aa:List Nat)(gw:Nat)(G:Gl)(W:Wk)(R:List HP)(sp st sw:Sl)(q:Wq)(x a:Nat)(t:Tk)(so sc:Sl):List HP:=
 ax a (t.cells so sc)::rws 2 so (t.cD.map Ay)::bP 1 sc (ints t.scopes)::lZ ZI ((aa.zip G.ts).eraseIdx x)::ax l.gs (l.cs sp st sw G.steps G.err)::bI l.gm G.M::Cr l.gk G.T::scp l.gc G.C::rws 4 sp (G.P.map uw)::bP 1 st (aa.map pt)::bP 1 sw (l.wa.map pt)::oe l.gt G.time::KO l.gd G.D::
  ax gw (W.cs l q)::ax q.gwt (W.wait.cells l.told)::bP 1 q.ss q.rV.reverse::bP 1 q.sb q.y3.reverse::bP 1 q.sl (ints W.left)::mX (uq q.go) W.op::mX (λk:Lk=>ax q.gl (k.cells l.gc)) W.look::mX (λo:jI=>ax q.gp (o.cells l.sp q.gp)) W.step::fz q.B::R
abbrev TO(w0 w:World)(l:Lc)(aa:List Nat)(gw:Nat)(G:Gl)(W:Wk)(R:List HP)(sp st sw:Sl)(q:Wq)(x a:Nat)(t:Tk)(so sc:Sl):Prop:=St w0 w (TL l aa gw G W R sp st sw q x a t so sc)
structure Tp (aa:List Nat) (G:Gl) (x a:Nat) (t:Tk):Prop where
 len:aa.length=G.ts.length
 a:aa[x]?=some a
 t:G.ts[x]?=some t
section
variable {w0 w:World} {L R:List HP} {l:Lc} {aa:List Nat} {G:Gl} {gw b x a:Nat} {W:Wk} {k:Unit→aq} {sp st sw so sc:Sl} {q:Wq} {f:HP→List HP} {t t':Tk} {s':List Nat}
theorem mY(hq:q.Ok aa gw W)(hs:W.stack=x::s'):∃a vs,aa[x]?=some a∧q.rV=pt a::vs∧Oo (Pts aa) s' vs:=by
 have h:=hq.rV;rw[hs]at h;generalize q.rV=s at h ⊢;cases h with
 |cons h1 h2=>
  obtain⟨a,h3,rfl⟩:=h1;exact⟨a,_,h3,rfl,h2⟩
theorem xj(h:wX w0 w l aa gw G W R sp st sw q):aa.length=G.ts.length:=NP (h.front 9 rfl)
theorem nU(h:wX w0 w l aa gw G W R sp st sw q)(ha:aa[x]?=some a)(ht:G.ts[x]?=some t):Tp aa G x a t∧∃so sc,TO w0 w l aa gw G W R sp st sw q x a t so sc:=by
 refine⟨⟨xj h,ha,ht⟩,?_⟩;have h:=h.fr 9;exact sG h ha ht
theorem vo(hp:Tp aa G x a t)(h:TO w0 w l aa gw G W R sp st sw q x a t' so sc):wX w0 w l aa gw (G.set x t') W R sp st sw q:=by
 have h:=ahR (t':=t') hp.len hp.a h;exact St.back 9 h
theorem aee(hp:Tp aa G x a t):G.set x t=G:=by
 have e:G.ts.set x t=G.ts:=by
  apply List.ext_getElem?;intro j;by_cases hj:x=j
  ·subst hj;rw[uu (kJ.1 hp.t).1,hp.t]
  ·rw[rK hj]
 unfold Gl.set;rw[e]
theorem oQ(hp:Tp aa G x a t)(h:TO w0 w l aa gw G W R sp st sw q x a t so sc):wX w0 w l aa gw G W R sp st sw q:=by
 have h:=vo hp h;rwa[aee hp]at h
theorem pW{so sc:Sl}(hl:aa.length=G.ts.length)(ha:aa[x]?=some a)(ht:G.ts[x]?=some t)(h:St w0 w (ax a (t.cells so sc)::rws 2 so (t.cD.map Ay)::bP 1 sc (ints t.scopes)::lZ ZI ((aa.zip G.ts).eraseIdx x)::R)):St w0 w (L1 aa G.ts::R):=by
 have h:=ahR (t':=t) hl ha h;have e:=congrArg Gl.ts (aee ⟨hl,ha,ht⟩);unfold Gl.set at e;dsimp only at e;rwa[e]at h
theorem BY{o:List (Int×Int)}{m:Int×Int}(ho:t.cD=o++[m]):t.ku=m:=by
 unfold Tk.ku;rw[ho];simp
theorem af8{kv:Value}{kk:Kn}(hq:q.Ok aa gw W)(h:wX w0 w l aa gw G W R sp st sw q)(hs:W.stack=x::s')(ht:G.ts[x]?=some t)(ho:t.cD≠ [])(hv:Rp aa gw q.B kk kv)
  (hk:Fin w0 l aa gw R k (G,shut W kk t)):cA (some ⟨gw,0,none⟩) kv w k:=by
 have hl:=xj h;obtain⟨a,vs,ha,hst,_⟩:=mY hq hs;have Zp:=hv.one;obtain⟨o,m,wY⟩:∃o m,t.cD=o++[m]:=⟨_,_,(List.dropLast_concat_getLast ho).symm⟩;unfold cA zE;with_reducible repeat' (first|refine an ?_|refine aF h λw h=> ?_|refine lW h ?_|refine Ar h ?_|refine dO h λw h=> ?_|refine av h λgx w h=> ?_|refine mJ h ?_|refine xB ?_|fail)
 obtain⟨gc,lS⟩:∃n,n=gx:=⟨_,rfl⟩;subst lS;with_reducible repeat' (first|refine an ?_|refine aF h λw h=> ?_|refine da h ?_|refine cS h ?_|refine uL h ?_|refine j5 h ?_|refine pC h ?_|refine zb h ?_|refine lW h ?_|refine vt h ?_|refine AO h ?_|refine sY h ?_|refine Ar h ?_|refine AP h ?_|refine mH h ?_|refine mI h ?_|refine pN h ?_|refine dO h λw h=> ?_|refine qY h λw h=> ?_|refine vC h λw h=> ?_|refine nW h λw h=> ?_|refine av h λgx w h=> ?_|refine cP ?_|refine ja h ?_|refine mJ h ?_|refine fX ?_ ?_|refine fE ?_|refine nJ ?_|refine xB ?_|fail)
 obtain⟨gb,lS⟩:∃n,n=gx:=⟨_,rfl⟩;subst lS;with_reducible repeat' (first|refine an ?_|refine aF h λw h=> ?_|refine da h ?_|refine cS h ?_|refine uL h ?_|refine j5 h ?_|refine pC h ?_|refine zb h ?_|refine lW h ?_|refine vt h ?_|refine AO h ?_|refine sY h ?_|refine Ar h ?_|refine AP h ?_|refine mH h ?_|refine mI h ?_|refine pN h ?_|refine dO h λw h=> ?_|refine qY h λw h=> ?_|refine vC h λw h=> ?_|refine nW h λw h=> ?_|refine av h λgx w h=> ?_|refine cP ?_|refine ja h ?_|refine mJ h ?_|refine fX ?_ ?_|refine fE ?_|refine nJ ?_|refine xB ?_|fail)
 refine lu h hst vw λw h=> ?_;with_reducible repeat' (first|refine mJ h ?_|fail)
 have h:=h.fr 11;obtain⟨so,sc,h⟩:=sG h ha ht;refine BK h wY λw h=> ?_;have h:=pW hl ha ht h;have h:=h.bk 11;with_reducible repeat' (first|refine mJ h ?_|fail)
 refine ptI (by rfl) ?_
 unfold dF;with_reducible repeat' (first|refine an ?_|refine dO h λw h=> ?_|fail)
 have h:=qm h;have h:=qm h;unfold shut at hk;rw[BY wY]at hk;have hm:∀p∈q.B,p∈q.B++[(gc,[kv])] ++[(gb,[pt gw])]:=λp hp=>List.mem_append_left _ (List.mem_append_left _ hp);exact hk _ (bi (q:={q with px:=mt gw .tO,On:=none,afX:=kv,yU:= .func (.func fG) #[] #[pt gb,pt gc],Ic:=ct gb .Cs,B:=q.B++[(gc,[kv])] ++[(gb,[pt gw])]})
  (by exact{hq.box hm with cM:=rfl,target:=rfl,pT:=hv.box hm,again:=⟨gb,gc,kv,bc,hv.box hm,bc,rfl⟩,dA:=⟨gb,bc,rfl⟩}) h)
theorem aef(h:qE w0 w l aa gw G W R)(hs:W.stack=x::s')(ht:G.ts[x]?=some t)(hk:Fin w0 l aa gw R k (G,unwind W t)):dk (some ⟨gw,0,none⟩) w k:=by
 obtain⟨sp,st,sw,q,hq,h⟩:=dN h;have hl:=xj h;obtain⟨a,vs,ha,hst,_⟩:=mY hq hs;unfold dk wg;unfold unwind at hk;with_reducible repeat' (first|refine lW h ?_|refine av h λgx w h=> ?_|fail)
 obtain⟨gb,lS⟩:∃n,n=gx:=⟨_,rfl⟩;subst lS;with_reducible repeat' (first|refine an ?_|refine aF h λw h=> ?_|refine da h ?_|refine cS h ?_|refine uL h ?_|refine j5 h ?_|refine pC h ?_|refine zb h ?_|refine lW h ?_|refine vt h ?_|refine AO h ?_|refine sY h ?_|refine Ar h ?_|refine AP h ?_|refine mH h ?_|refine mI h ?_|refine pN h ?_|refine dO h λw h=> ?_|refine qY h λw h=> ?_|refine vC h λw h=> ?_|refine nW h λw h=> ?_|refine av h λgx w h=> ?_|refine cP ?_|refine ja h ?_|refine mJ h ?_|refine fX ?_ ?_|refine fE ?_|refine nJ ?_|refine xB ?_|fail)
 refine lu h hst vw λw h=> ?_;have h:=h.fr 10;obtain⟨so,sc,h⟩:=sG h ha ht;have hn:=(tE (sz:=2) (s:=so) (es:=t.cD.map Ay) h).2 ah;rw[List.length_map]at hn;with_reducible repeat' (first|refine an ?_|refine j5 h ?_|fail)
 refine ay (λhb=> ?_) λhb=> ?_
 ·have hb:t.cD.length=0:=by
   have:((so.n:Nat):Int)=0:=by simpa using hb
   omega
  rw[if_pos hb]at hk;with_reducible repeat' (first|refine an ?_|refine lW h ?_|refine dO h λw h=> ?_|fail)
  have h:=pW hl ha ht h;have h:=h.bk 10;have h:=h.Ek 0;exact hk _ (bi (q:={q with px:=mt gw .put}) (by exact{hq with cM:=rfl}) h)
 ·have hb:¬t.cD.length=0:=by
   intro q;have:((so.n:Nat):Int)=0:=ah;simp[this]at hb
  rw[if_neg hb]at hk;with_reducible repeat' (first|refine lW h ?_|fail)
  have h:=pW hl ha ht h;have h:=h.bk 10;have h:=qm h;exact af8 (kk:= .c .qw) (q:={q with B:=q.B++[(gb,[pt gw])]}) (JU hq) h hs ht (by intro q;rw[q]at hb;exact hb rfl) ⟨gb,bc,rfl⟩ hk
theorem Z4{kind v:Int}(h:qE w0 w l aa gw G W R)(hs:W.stack=x::s')(ht:G.ts[x]?=some t)(hk:Fin w0 l aa gw R k (ends G W x t kind v)):cv (some ⟨gw,0,none⟩) kind v w k:=by
 obtain⟨sp,st,sw,q,hq,h⟩:=dN h;have hl:=xj h;obtain⟨a,vs,ha,hst,_⟩:=mY hq hs;unfold cv zG;refine lu h hst vw λw h=> ?_;obtain⟨hp,so,sc,h⟩:=nU h ha ht;with_reducible repeat' (first|refine an ?_|refine dO h λw h=> ?_|fail)
 have h:=vo (t':={t with kind:=kind,v:=v}) hp h;refine aef (bi hq h) hs (t:={t with kind:=kind,v:=v}) ?_ hk;unfold Gl.set;exact uu (kJ.1 ht).1
end
section
variable {w0 w:World} {L R:List HP} {l:Lc} {aa:List Nat} {G:Gl} {gw b x a:Nat} {W:Wk} {k:Unit→aq} {sp st sw so sc:Sl} {q:Wq} {f:HP→List HP} {t t':Tk} {s':List Nat}
theorem Ym(hl:aa.length=G.ts.length)(ht:G.ts[x]?=some t):∃a,aa[x]?=some a:=⟨aa[x]'(by have:=(kJ.1 ht).1;omega),j4 _⟩
theorem ab3(ha:aa[x]?=some a):(aa.map pt)[((x:Nat):Int).toNat]?=some (.pointer (some ⟨a,0,none⟩)):=by rw[kR,pz,ha];rfl
theorem an9(h:qE w0 w l aa gw G W R)(hx:W.jk=(x:Nat))(ht:G.ts[x]?=some t)(hM:G.M.OK)(hc:G.M.can W.id (t.jC+0)=true)(hk:Fin w0 l aa gw R k (sU G W t)):fe (some ⟨gw,0,none⟩) w k:=by
 obtain⟨sp,st,sw,q,hq,h⟩:=dN h;have hl:=xj h;obtain⟨a,ha⟩:=Ym hl ht;unfold fe wu;unfold sU at hk;have hv:=hq.home.one;with_reducible repeat' (first|refine an ?_|refine aF h λw h=> ?_|refine da h ?_|refine cS h ?_|refine j5 h ?_|fail)
 show cZ st W.jk 1 _;rw[hx];refine vP (s:=st) (vs:=aa.map pt) h ah (ab3 ha) ?_;have h:=h.fr 9;obtain⟨so,sc,h⟩:=sG h ha ht;with_reducible repeat' (first|refine an ?_|refine da h ?_|refine cS h ?_|refine mH h ?_|fail)
 refine anv (M:=G.M) h hM hc λw h=> ?_;have h:=pW hl ha ht h;have h:=h.bk 9;with_reducible repeat' (first|refine an ?_|refine da h ?_|refine pC h ?_|refine dO h λw h=> ?_|refine fE ?_|refine lT ?_|fail)
 refine ay (λhb=> ?_) λhb=> ?_
 ·have hb:(G.M.cs W.id (t.jC+0) 0 1).2=true:=hb;rw[if_pos hb]at hk;with_reducible repeat' (first|refine an ?_|refine dO h λw h=> ?_|fail)
  exact hk _ (bi (q:={q with px:=mt gw .start}) (by exact{hq with cM:=rfl}) h)
 ·have hb:(G.M.cs W.id (t.jC+0) 0 1).2=false:=hb;rw[if_neg (by rw[hb];simp)]at hk
  exact hk _ (bi (q:={q with px:=q.KS}) (by exact{hq with cM:=hq.home}) h)
theorem azY(h:qE w0 w l aa gw G W R)(hs:W.stack=x::s')(ht:G.ts[x]?=some t)(hM:G.M.OK)(hc:G.M.can W.id (t.jC+1)=true)(hk:Fin w0 l aa gw R k (put G W t)):iL (some ⟨gw,0,none⟩) w k:=by
 obtain⟨sp,st,sw,q,hq,h⟩:=dN h;obtain⟨a,vs,ha,hst,_⟩:=mY hq hs;unfold iL Bg;unfold put at hk;refine lu h hst vw λw h=> ?_;obtain⟨hp,so,sc,h⟩:=nU h ha ht;refine bS (λb w=>b=true∧wX w0 w l aa gw (if t.kind=4 then G else G.mem ((G.M.tick W.id).put (t.jC+1) t.v)) W R sp st sw q) (λJ hJ=> ?_) ?_
 ·with_reducible repeat' (first|refine an ?_|refine aF h λw h=> ?_|refine cS h ?_|fail)
  refine ay (λhb=> ?_) λhb=> ?_
  ·rw[if_pos (by simpa using hb)]at hJ
   exact hJ _ _ ⟨rfl,oQ hp h⟩
  ·rw[if_neg (by simpa using hb)]at hJ
   with_reducible repeat' (first|refine an ?_|refine da h ?_|refine cS h ?_|refine mH h ?_|fail)
   refine avL (M:=G.M) h hM hc λw h=> ?_;with_reducible repeat' (first|refine ja h ?_|refine lT ?_|fail)
   refine hJ _ _ ⟨rfl,?_⟩;have h:=pW hp.len hp.a hp.t h;have h:=h.bk 9;exact h
 clear h;rintro _ w ⟨rfl,h⟩;with_reducible repeat' (first|refine an ?_|refine dO h λw h=> ?_|refine nJ ?_|fail)
 exact hk _ (bi (q:={q with px:=mt gw .fin}) (by exact{hq with cM:=rfl}) h)
theorem azZ(h:qE w0 w l aa gw G W R)(hs:W.stack=x::s')(ht:G.ts[x]?=some t)(hM:G.M.OK)(hto:2≤t.kind∧t.kind≤4)(hc:G.M.can W.id (t.jC+0)=true)(hk:Fin w0 l aa gw R k (fin G W t)):iM (some ⟨gw,0,none⟩) w k:=by
 obtain⟨sp,st,sw,q,hq,h⟩:=dN h;obtain⟨a,vs,ha,hst,_⟩:=mY hq hs;unfold iM Bi;refine lu h hst vw λw h=> ?_;obtain⟨hp,so,sc,h⟩:=nU h ha ht;with_reducible repeat' (first|refine an ?_|refine aF h λw h=> ?_|refine da h ?_|refine cS h ?_|refine mH h ?_|fail)
 refine avM (M:=G.M) h hM hto hc λw h=> ?_;have h:=pW hp.len hp.a hp.t h;have h:=h.bk 9;with_reducible repeat' (first|refine an ?_|refine da h ?_|refine dO h λw h=> ?_|refine nJ ?_|refine lT ?_|fail)
 exact hk _ (bi (q:={q with px:=mt gw .asks}) (by exact{hq with cM:=rfl}) h)
theorem awz(h:qE w0 w l aa gw G W R)(hs:W.stack=x::s')(ht:G.ts[x]?=some t)(hM:G.M.OK)(hc:G.M.can W.id (t.jC+2)=true)(hk:Fin w0 l aa gw R k (asks G W t)):gX (some ⟨gw,0,none⟩) w k:=by
 obtain⟨sp,st,sw,q,hq,h⟩:=dN h;obtain⟨a,vs,ha,hst,_⟩:=mY hq hs;unfold gX z9;with_reducible repeat' (first|refine an ?_|refine aF h λw h=> ?_|refine da h ?_|refine cS h ?_|fail)
 refine lu h hst vw λw h=> ?_;obtain⟨hp,so,sc,h⟩:=nU h ha ht;with_reducible repeat' (first|refine an ?_|refine mH h ?_|refine ja h ?_|fail)
 refine ahp (M:=G.M) h hM hc λw h=> ?_;have h:=pW hp.len hp.a hp.t h;have h:=h.bk 9;with_reducible repeat' (first|refine an ?_|refine da h ?_|refine dO h λw h=> ?_|refine nJ ?_|refine lT ?_|fail)
 exact hk _ (bi (q:={q with px:=mt gw .gone}) (by exact{hq with cM:=rfl}) h)
theorem NX(h:qE w0 w l aa gw G W R)(hs:W.stack=x::s')(ht:G.ts[x]?=some t)(hk:Fin w0 l aa gw R k (ah6 G W x t)):bw (some ⟨gw,0,none⟩) w k:=by
 unfold bw tj;exact Z4 h hs ht hk
theorem asQ(h:qE w0 w l aa gw G W R)(hs:W.stack=x::s')(ht:G.ts[x]?=some t)(ho:t.cD≠ [])(hk:Fin w0 l aa gw R k (close_ G W t)):fQ (some ⟨gw,0,none⟩) w k:=by
 obtain⟨sp,st,sw,q,hq,h⟩:=dN h;unfold fQ ym;with_reducible repeat' (first|refine lW h ?_|refine av h λgx w h=> ?_|fail)
 obtain⟨gb,lS⟩:∃n,n=gx:=⟨_,rfl⟩;subst lS;with_reducible repeat' (first|refine an ?_|refine aF h λw h=> ?_|refine da h ?_|refine cS h ?_|refine uL h ?_|refine j5 h ?_|refine pC h ?_|refine zb h ?_|refine lW h ?_|refine vt h ?_|refine AO h ?_|refine sY h ?_|refine Ar h ?_|refine AP h ?_|refine mH h ?_|refine mI h ?_|refine pN h ?_|refine dO h λw h=> ?_|refine qY h λw h=> ?_|refine vC h λw h=> ?_|refine nW h λw h=> ?_|refine av h λgx w h=> ?_|refine cP ?_|refine ja h ?_|refine mJ h ?_|refine fX ?_ ?_|refine fE ?_|refine nJ ?_|refine xB ?_|fail)
 have h:=qm h;exact af8 (kk:= .c .BW) (q:={q with B:=q.B++[(gb,[pt gw])]}) (JU hq) h hs ht ho ⟨gb,bc,rfl⟩ hk
theorem aoa(hq:q.Ok aa gw W)(h:wX w0 w l aa gw G W R sp st sw q)(hb:(b,[pt gw])∈q.B)(hk:Fin w0 l aa gw R k (G,W.go .gF)):fC ⟨b,0,none⟩ w k:=by
 unfold fC;with_reducible repeat' (first|refine an ?_|refine dO h λw h=> ?_|refine Eo h hb ?_|fail)
 exact hk _ (bi (q:={q with px:=mt gw .gF}) (by exact{hq with cM:=rfl}) h)
theorem aob(hq:q.Ok aa gw W)(h:wX w0 w l aa gw G W R sp st sw q)(hb:(b,[pt gw])∈q.B)(hk:Fin w0 l aa gw R k (G,W.go .joined)):fA ⟨b,0,none⟩ w k:=by
 unfold fA;with_reducible repeat' (first|refine an ?_|refine dO h λw h=> ?_|refine Eo h hb ?_|fail)
 exact hk _ (bi (q:={q with px:=mt gw .joined}) (by exact{hq with cM:=rfl}) h)
theorem asR(hq:q.Ok aa gw W)(h:wX w0 w l aa gw G W R sp st sw q)(hb:(b,[pt gw])∈q.B)(hk:Fin w0 l aa gw R k (G,W.go .qV)):cN ⟨b,0,none⟩ w k:=by
 unfold cN;with_reducible repeat' (first|refine an ?_|refine dO h λw h=> ?_|refine Eo h hb ?_|fail)
 exact hk _ (bi (q:={q with px:=mt gw .qV}) (by exact{hq with cM:=rfl}) h)
theorem aoc{wT:Bool}(hq:q.Ok aa gw W)(h:wX w0 w l aa gw G W R sp st sw q)(hb:(b,[pt gw])∈q.B)(hs:W.stack=x::s')(ht:G.ts[x]?=some t)(hk:Fin w0 l aa gw R k (wW G W x t wT)):fx wT ⟨b,0,none⟩ w k:=by
 unfold fx u4;unfold wW at hk;cases wT
 ·refine bh rfl ?_;with_reducible repeat' (first|refine an ?_|refine dO h λw h=> ?_|refine Eo h hb ?_|fail)
  exact hk _ (bi (q:={q with px:=mt gw .next}) (by exact{hq with cM:=rfl}) h)
 ·refine bO rfl ?_;with_reducible repeat' (first|refine Eo h hb ?_|fail)
  exact NX (bi hq h) hs ht hk
theorem aku{wT:Bool}(hq:q.Ok aa gw W)(h:wX w0 w l aa gw G W R sp st sw q)(hb:(b,[pt gw])∈q.B)(hk:Fin w0 l aa gw R k (sI G W wT)):eR wT ⟨b,0,none⟩ w k:=by
 unfold eR uf;unfold sI at hk;cases wT
 ·refine bh rfl ?_;with_reducible repeat' (first|refine an ?_|refine dO h λw h=> ?_|refine Eo h hb ?_|fail)
  exact hk _ (bi (q:={q with px:=mt gw .asked}) (by exact{hq with cM:=rfl}) h)
 ·refine bO rfl ?_;with_reducible repeat' (first|refine Eo h hb ?_|fail)
  unfold bG;with_reducible repeat' (first|refine an ?_|refine dO h λw h=> ?_|fail)
  have h:=AD (K:=mX (λo:jI=>ax q.gp (o.cells l.sp q.gp))) (X:=mX (λo:jI=>ax q.gp (o.cells l.sp q.gp)) none) (St.shut (A:=[]) h);exact hk _ (bi (q:={q with px:=mt gw .stops,L2:=mt gw .cancelled}) (by exact{hq with cM:=rfl,po:=rfl}) h)
theorem akv{CV:Int}(hq:q.Ok aa gw W)(h:wX w0 w l aa gw G W R sp st sw q)(hb:(b,[pt gw])∈q.B)(hk:Fin w0 l aa gw R k (tP G W CV)):eO CV ⟨b,0,none⟩ w k:=by
 unfold eO ud;unfold tP at hk;refine ay (λhs=> ?_) λhs=> ?_
 ·rw[if_pos (by simpa using hs)]at hk
  with_reducible repeat' (first|refine an ?_|refine aF h λw h=> ?_|refine cS h ?_|refine Eo h hb ?_|fail)
  unfold bg;with_reducible repeat' (first|refine an ?_|refine dO h λw h=> ?_|fail)
  exact hk _ (bi (q:={q with px:=mt gw .sU,KS:=mt gw .next}) (by exact{hq with cM:=rfl,home:=rfl}) h)
 ·rw[if_neg (by simpa using hs)]at hk
  with_reducible repeat' (first|refine Eo h hb ?_|fail)
  unfold cf;with_reducible repeat' (first|refine an ?_|refine dO h λw h=> ?_|fail)
  exact hk _ (bi (q:={q with px:=mt gw .tell,Yh:=mt gw .next}) (by exact{hq with cM:=rfl,said:=rfl}) h)
end
end Go.Proofs.YthidhjhkmjjckaaGreatDoor
namespace Go.Proofs.YthidhjhkmjjckaaGreatDoor
open Go Go.Ev Go.Proofs
open Ko (oe CK)
open Fr (Ax nu dQ eB dc iB jj nR oT qv kr qi pR pS pQ)
structure In (P:List dH) (f i:List Int):Prop where
 len:f.length=19
 f0:0≤f.getD 0 0
 f1:0≤f.getD 1 0
 fn:∃g,P[(f.getD 0 0).toNat]?=some g∧g.code[(f.getD 1 0).toNat]?=some i
 Gw:i.length=5
theorem In.ins{P:List dH}{f i:List Int}(h:In P f i):bu P f=i:=by
 obtain⟨g,h1,h2⟩:=h.fn;unfold bu;rw[h1];show g.code.getD _ []=i;rw[nI,h2];rfl
theorem I1{l:List Int}(h:l.length=5):∃a b c d e,l=[a,b,c,d,e]:=by
 match l,h with
 |[a,b,c,d,e],_=>exact⟨a,b,c,d,e,rfl⟩
section
variable {w0 w:World} {L R:List HP} {l:Lc} {P:List dH} {aa:List Nat} {G:Gl} {gw b x a:Nat} {W:Wk} {k:Unit→aq} {sp st sw so sc:Sl} {q:Wq} {f:HP→List HP} {t t':Tk} {s':List Nat} {vs:List Value} {i:List Int}
theorem af9{ps:Sl}{k:Array Value×Int→aq}(h:St w0 w L)(hF:iN w0 ps P)(hI:In P t.f i)(hk:∀w',St w0 w' L→k (eU i,0) w'):iK (frV t.f).toArray #[.slice ps.a ps.n ps.c] w k:=by
 rw[NO hI.len];obtain⟨g,h1,h2⟩:=hI.fn;exact awv (hF.ext h.ext) hI.len hI.f0 h1 hI.f1 h2 λw' he=>hk w' (h.on he)
theorem ah7{k:Array Value×Bool→aq}(h:St w0 w L)(hf:t.f.length=19)(h5:i.length=5)(hk:∀w',St w0 w' L→k (eU (dQ t.f i).1,(dQ t.f i).2) w'):iW (frV t.f).toArray (eU i) w k:=by
 rw[NO hf];exact Fr.arT hf h5 λw' he=>hk w' (h.on he)
theorem amt{g n n':Nat}{cs:List Value}{i:Int}{v:Value}{c:Value→Prop}(h:St w0 w L)[a:At L (ax g) cs f](h0:0≤i)(hn:i<n)(hv:cs[i.toNat]?=some v)(hc:c v):cZ ⟨some ⟨g,0,none⟩,n,n'⟩ i 1 λa=>sX w a c:=by
 refine⟨⟨h0,hn⟩,?_⟩;show sX w ((⟨g,0,none⟩:Addr).add (i.toNat*1)) c;rw[cY];exact Iq (g:=g) (o:=0+i.toNat*1) h (by simpa using hv) hc
theorem Ak{f':List Int}{c:aq}(h:St w0 w L)[a1:At L (ax a) (t.cells so sc) f](hf:f'.length=19)(hc:∀w',St w0 w' (f (ax a (({t with f:=f'}:Tk).cells so sc)))→c w'):dZ 19 w (aY ⟨a,0,none⟩ 4) (eU f') c:=by
 refine aW (m:=19) h (by simp[eU,hf]) (by simp[Tk.cells]) (Ck.qy _) λw h=>hc w ?_
 have e:(t.cells so sc).take (0+4)++((eU f').toList++(t.cells so sc).drop (0+4+19))=({t with f:=f'}:Tk).cells so sc:=by
  have:(eU f').toList=frV f':=by rw[amm hf]
  rw[this];rfl
 rw[e]at h;exact h
theorem aeg{g:Nat}{cs:List Value}{f':List Int}{c:aq}(h:St w0 w L)[a1:At L (ax g) cs f](hcs:cs.length=19)(hf:f'.length=19)(hc:∀w',St w0 w' (f (ax g (ints f')))→c w'):dZ 19 w ⟨g,0,none⟩ (eU f') c:=
 m8 h hcs (by simp[eU,hf]) (Ck.qy _) λw h=>hc w h
theorem amu{g:Nat}{f':List Int}{c:Array Value→Prop}(h:St w0 w L)[a1:At L (ax g) (ints f') f](hf:f'.length=19)(hc:c (eU f')):bD 19 w ⟨g,0,none⟩ c:=
 jZ h (by simp[ints,hf]) hc
theorem I2{k:Array Value→aq}(hF:iN w0 l.ps P)(hI:In P t.f i)(h:TO w0 w l aa gw G W R sp st sw q x a t so sc)(hst:q.rV=pt a::vs)(hk:∀w',TO w0 w' l aa gw G W R sp st sw q x a t so sc→k (eU i) w'):aK (some ⟨gw,0,none⟩) w k:=by
 have h5:=hI.Gw;unfold aK ye;with_reducible repeat' (first|refine av h λgx w h=> ?_|fail)
 obtain⟨g0,lS⟩:∃n,n=gx:=⟨_,rfl⟩;subst lS;refine bS (fun(x2:Addr×Int) w=> ∃g1,x2=(⟨g1,0,none⟩,0)∧St w0 w (ax g1 (ints i)::ax g0 (ints [0,0,0,0,0])::TL l aa gw G W R sp st sw q x a t so sc)) (λJ hJ=> ?_) ?_
 ·have e5:∃a b c d e,i=[a,b,c,d,e]:=I1 h5;obtain⟨i0,i1,i2,i3,i4,hi⟩:=e5;with_reducible repeat' (first|refine an ?_|refine aF h λw h=> ?_|refine da h ?_|refine mH h ?_|refine av h λgx w h=> ?_|refine ja h ?_|refine fX ?_ ?_|fail)
  ·refine lu h hst vw λw h=> ?_;with_reducible repeat' (first|refine an ?_|refine mH h ?_|refine av h λgx w h=> ?_|refine ja h ?_|refine fX ?_ ?_|fail)
   ·refine af9 (t:=t) h hF hI λw h=> ?_;subst hi;with_reducible repeat' (first|refine nW h λw h=> ?_|refine av h λgx w h=> ?_|refine ja h ?_|fail)
    exact hJ _ _ ⟨_,rfl,h⟩
   ·refine af9 (t:=t) h hF hI λw h=> ?_;subst hi;with_reducible repeat' (first|refine nW h λw h=> ?_|fail)
    exact hJ _ _ ⟨_,rfl,h⟩
  ·refine lu h hst vw λw h=> ?_;with_reducible repeat' (first|refine an ?_|refine mH h ?_|refine ja h ?_|fail)
   refine af9 (t:=t) h hF hI λw h=> ?_;subst hi;with_reducible repeat' (first|refine nW h λw h=> ?_|fail)
   exact hJ _ _ ⟨_,rfl,h⟩
 clear h;rintro _ w ⟨g1,rfl,h⟩;obtain⟨i0,i1,i2,i3,i4,rfl⟩:=I1 h5;with_reducible repeat' (first|refine an ?_|refine da h ?_|refine mI h ?_|refine nW h λw h=> ?_|refine lT ?_|fail)
 exact hk _ ((h.rm 0 rfl).rm 0 rfl)
theorem amv(hF:iN w0 l.ps P)(h:qE w0 w l aa gw G W R)(he:G.err=0)(hs:W.stack=x::s')(ht:G.ts[x]?=some t)(hf:t.f.length=19)(h5:i.length=5)(hop:(dQ t.f i).2=false→8≤i.getD 0 0∧i.getD 0 0≤16)(hk:Fin w0 l aa gw R k (aed l G W x t i)):dV (some ⟨gw,0,none⟩) (eU i) w k:=by
 obtain⟨sp,st,sw,q,hq,h⟩:=dN h;obtain⟨a,vs,ha,hst,_⟩:=mY hq hs;obtain⟨hp,so,sc,h⟩:=nU h ha ht;unfold dV zJ;unfold aed at hk;with_reducible repeat' (first|refine av h λgx w h=> ?_|fail)
 obtain⟨g1,lS⟩:∃n,n=gx:=⟨_,rfl⟩;subst lS;refine Gz h he (λhb w h=> ?_) λhb w h=> ?_
 ·rw[if_pos hb]at hk;with_reducible repeat' (first|refine nJ ?_|fail)
  have h:=h.Ek 0;exact hk _ (bi (G:=G.fail 22) hq (oQ (G:=G.fail 22) ⟨hp.len,hp.a,hp.t⟩ h))
 rw[if_neg hb]at hk;with_reducible repeat' (first|refine fE ?_|fail)
 refine lu h hst vw λw h=> ?_;refine bS (fun(x2:Addr×Bool) w=> ∃g2,x2=(⟨g2,0,none⟩,(dQ t.f i).2)∧St w0 w (ax g2 (ints (dQ t.f i).1)::ax g1 (ints i)::TL l aa gw G W R sp st sw q x a t so sc)) (λJ hJ=> ?_) ?_
 ·obtain⟨i0,i1,i2,i3,i4,hi⟩:=I1 h5;have B2:(dQ t.f i).1.length=19:=qi hf;subst hi;with_reducible repeat' (first|refine an ?_|refine aF h λw h=> ?_|refine mH h ?_|refine mI h ?_|refine av h λgx w h=> ?_|refine ja h ?_|refine mJ h ?_|refine fX ?_ ?_|fail)
  ·refine ah7 (t:=t) (i:=[i0,i1,i2,i3,i4]) h hf rfl λw h=> ?_;with_reducible repeat' (first|refine av h λgx w h=> ?_|refine ja h ?_|refine mJ h ?_|fail)
   refine aeg h rfl B2 λw h=> ?_;exact hJ _ _ ⟨_,rfl,h⟩
  ·refine ah7 (t:=t) (i:=[i0,i1,i2,i3,i4]) h hf rfl λw h=> ?_;refine aeg h rfl B2 λw h=> ?_;exact hJ _ _ ⟨_,rfl,h⟩
 clear h;rintro _ w ⟨g2,rfl,h⟩;have B2:(dQ t.f i).1.length=19:=qi hf;refine ay (λhb=> ?_) λhb=> ?_
 ·have hb:(dQ t.f i).2=true:=hb;rw[if_pos hb]at hk;refine amu h B2 ?_;with_reducible repeat' (first|refine an ?_|fail)
  refine Ak h B2 λw h=> ?_;with_reducible repeat' (first|refine an ?_|refine da h ?_|refine cS h ?_|refine dO h λw h=> ?_|fail)
  have h:=(h.rm 0 rfl).rm 0 rfl;exact hk _ (bi (q:={q with px:=mt gw .next}) (by exact{hq with cM:=rfl}) (vo (t':={t with f:=(dQ t.f i).1}) (G:=G.lU) (W:=W.go .next) ⟨hp.len,hp.a,hp.t⟩ h))
 ·have hb:(dQ t.f i).2=false:=hb;rw[if_neg (by rw[hb];simp)]at hk
  obtain⟨i0,i1,i2,i3,i4,hi⟩:=I1 h5;have hop:=hop hb;subst hi;with_reducible repeat' (first|refine cS h ?_|refine av h λgx w h=> ?_|refine xB ?_|fail)
  obtain⟨g3,lS⟩:∃n,n=gx:=⟨_,rfl⟩;subst lS;have hop:8≤i0∧i0≤16:=hop;have key:∀(m:Mt) (w:World) (L':List HP),(G,W.go (ab1 i0))=(G,W.go m)→TO w0 w l aa gw G (W.go m) R sp st sw {q with px:=mt gw m} x a t so sc→k () w:=λm w L' e h=>by
   have e2:([i0,i1,i2,i3,i4]:List Int).getD 0 0=i0:=rfl;rw[e2,e]at hk;exact hk _ (bi (q:={q with px:=mt gw m}) (by exact{hq with cM:=rfl}) (oQ ⟨hp.len,hp.a,hp.t⟩ h))
  have hw:aG .i64 (i0 - 8)=i0 - 8:=lY ⟨ah,ah⟩;rw[hw];have h16:i0=8∨i0=9∨i0=10∨i0=11∨i0=12∨i0=13∨i0=14∨i0=15∨i0=16:=ah;rcases h16 with rfl|rfl|rfl|rfl|rfl|rfl|rfl|rfl|rfl;all_goals
   refine amt (g:=g3) h fY fY rfl ?_;with_reducible repeat' (first|refine an ?_|refine dO h λw h=> ?_|fail)
   have h:=((h.rm 0 rfl).rm 0 rfl).rm 0 rfl
  ·exact key .fork _ [] rfl h
  ·exact key .join _ [] rfl h
  ·exact key .join _ [] rfl h
  ·exact key .cD _ [] rfl h
  ·exact key .close _ [] rfl h
  ·exact key .cancel _ [] rfl h
  ·exact key .pass _ [] rfl h
  ·exact key .leave _ [] rfl h
  ·exact key .leave _ [] rfl h
end
section
variable {w0 w:World} {L R:List HP} {l:Lc} {P:List dH} {aa:List Nat} {G:Gl} {gw b c x a:Nat} {W:Wk} {k:Unit→aq} {sp st sw so sc:Sl} {q:Wq} {f:HP→List HP} {t t':Tk} {s':List Nat} {vs:List Value} {i:List Int} {nd:Nd}
theorem ab4{s:Int}{kv:Value}{kk:Kn}(hq:q.Ok aa gw W)(h:wX w0 w l aa gw G W R sp st sw q)(hv:Rp aa gw q.B kk kv)(hs:oc G.C s=some nd)(hk:Fin w0 l aa gw R k (G,W.looks s kk)):cr (some ⟨gw,0,none⟩) s kv w k:=by
 unfold cr ya;have Zp:=hv.one;with_reducible repeat' (first|refine an ?_|refine da h ?_|fail)
 refine avI (C:=G.C) h hs λgl w h=> ?_;have h:=AD (K:=mX (λk:Lk=>ax q.gl (k.cells l.gc))) h;with_reducible repeat' (first|refine an ?_|refine da h ?_|refine dO h λw h=> ?_|refine fE ?_|refine lT ?_|fail)
 exact hk _ (bi (q:={q with px:=mt gw .looking,akc:=kv,gl:=gl}) (by exact{hq with cM:=rfl,seen:=hv}) h)
theorem awA(hF:iN w0 l.ps P)(hI:In P t.f i)(h:qE w0 w l aa gw G W R)(he:G.err=0)(hs:W.stack=x::s')(ht:G.ts[x]?=some t)(hsc:oc G.C t.lX=some nd)(hi:0≤i.getD 0 0∧i.getD 0 0<17)(hop:(dQ t.f i).2=false→8≤i.getD 0 0∧i.getD 0 0≤16)(hk:Fin w0 l aa gw R k (Vc l P G W x t)):gR (some ⟨gw,0,none⟩) w k:=by
 obtain⟨sp,st,sw,q,hq,h⟩:=dN h;obtain⟨a,vs,ha,hst,_⟩:=mY hq hs;obtain⟨hp,so,sc,h⟩:=nU h ha ht;unfold gR zO;unfold Vc at hk;rw[hI.ins]at hk;have h5:=hI.Gw;obtain⟨i0,i1,i2,i3,i4,rfl⟩:=I1 h5;have hi:0≤i0∧i0<17:=hi;with_reducible repeat' (first|refine lW h ?_|refine av h λgx w h=> ?_|fail)
 obtain⟨gb,lS⟩:∃n,n=gx:=⟨_,rfl⟩;subst lS;with_reducible repeat' (first|refine an ?_|refine aF h λw h=> ?_|refine da h ?_|refine cS h ?_|refine uL h ?_|refine j5 h ?_|refine pC h ?_|refine zb h ?_|refine lW h ?_|refine vt h ?_|refine AO h ?_|refine sY h ?_|refine Ar h ?_|refine AP h ?_|refine mH h ?_|refine mI h ?_|refine pN h ?_|refine dO h λw h=> ?_|refine qY h λw h=> ?_|refine vC h λw h=> ?_|refine nW h λw h=> ?_|refine av h λgx w h=> ?_|refine cP ?_|refine ja h ?_|refine mJ h ?_|refine fX ?_ ?_|refine fE ?_|refine nJ ?_|refine xB ?_|fail)
 have h:=h.bk 22;refine I2 (R:=ax gb [pt gw]::R) hF hI h hst λw h=> ?_;have h:=h.fr 22;with_reducible repeat' (first|refine cS h ?_|refine nW h λw h=> ?_|refine av h λgx w h=> ?_|fail)
 obtain⟨gc,lS⟩:∃n,n=gx:=⟨_,rfl⟩;subst lS;refine asK hi.1 hi.2 ?_;have e0:([i0,i1,i2,i3,i4]:List Int).getD 0 0=i0:=rfl;rw[e0]at hk;refine ay (λhb=> ?_) λhb=> ?_
 ·have hb:amr i0=false:=by simpa using hb
  rw[if_neg (by rw[hb];simp)]at hk
  with_reducible repeat' (first|refine lW h ?_|refine mI h ?_|fail)
  have h:TO w0 w l aa gw G W R sp st sw q x a t so sc:=(h.rm 0 rfl).rm 0 rfl;have h:=bi hq (oQ hp h);exact amv (i:=[i0,i1,i2,i3,i4]) hF h he hs ht hI.len h5 hop hk
 ·have hb:amr i0=true:=by simpa using hb
  rw[if_pos hb]at hk;with_reducible repeat' (first|refine aF h λw h=> ?_|refine lW h ?_|fail)
  refine lu h hst vw λw h=> ?_;with_reducible repeat' (first|refine an ?_|refine cS h ?_|refine mJ h ?_|fail)
  have h:=h.swap;have h:=qm h;have h:=qm h;have h:TO w0 w l aa gw G W R sp st sw {q with B:=q.B++[(gb,[pt gw])] ++[(gc,ints [i0,i1,i2,i3,i4])]} x a t so sc:=h;exact ab4 (kk:= .nx [i0,i1,i2,i3,i4]) (q:={q with B:=q.B++[(gb,[pt gw])] ++[(gc,ints [i0,i1,i2,i3,i4])]}) (hq.box λp hp=>List.mem_append_left _ (List.mem_append_left _ hp)) (oQ hp h) ⟨gb,gc,bc,bc,rfl,rfl⟩ hsc hk
theorem asT{wT:Bool}(hF:iN w0 l.ps P)(hq:q.Ok aa gw W)(h:wX w0 w l aa gw G W R sp st sw q)(hb:(b,[pt gw])∈q.B)(hc:(c,ints i)∈q.B)(h5:i.length=5)(he:G.err=0)(hs:W.stack=x::s')(ht:G.ts[x]?=some t)(hf:t.f.length=19)(hop:(dQ t.f i).2=false→8≤i.getD 0 0∧i.getD 0 0≤16)
  (hk:Fin w0 l aa gw R k (ab2 l G W x t i wT)):gC wT ⟨b,0,none⟩ ⟨c,0,none⟩ w k:=by
 unfold gC wh;unfold ab2 at hk;cases wT
 ·refine bh rfl ?_;with_reducible repeat' (first|refine Eo h hb ?_|fail)
  refine fzW (n:=5) h hc (by simp[ints,h5]) ?_
  exact amv (i:=i) hF (bi hq h) he hs ht hf h5 hop hk
 ·refine bO rfl ?_;with_reducible repeat' (first|refine Eo h hb ?_|fail)
  exact NX (bi hq h) hs ht hk
theorem Sr{k:Array Value→aq}(h:St w0 w L)(hf:t.f.length=19)(hk:∀w',St w0 w' L→k (eU (nu t.f)) w'):az (frV t.f).toArray w k:=by
 rw[NO hf];exact Fr.abz hf λw' he=>hk w' (h.on he)
theorem awB(h:qE w0 w l aa gw G W R)(he:G.err=0)(hs:W.stack=x::s')(ht:G.ts[x]?=some t)(hf:t.f.length=19)(hk:Fin w0 l aa gw R k (pass l G W x t)):gW (some ⟨gw,0,none⟩) w k:=by
 obtain⟨sp,st,sw,q,hq,h⟩:=dN h;obtain⟨a,vs,ha,hst,_⟩:=mY hq hs;obtain⟨hp,so,sc,h⟩:=nU h ha ht;unfold gW z5;unfold pass at hk;refine Gz h he (λhb w h=> ?_) λhb w h=> ?_
 ·rw[if_pos hb]at hk;with_reducible repeat' (first|refine fE ?_|fail)
  exact hk _ (bi (G:=G.fail 22) hq (oQ (G:=G.fail 22) ⟨hp.len,hp.a,hp.t⟩ h))
 rw[if_neg hb]at hk;with_reducible repeat' (first|refine nJ ?_|fail)
 refine lu h hst vw λw h=> ?_;with_reducible repeat' (first|refine an ?_|refine aF h λw h=> ?_|refine da h ?_|refine cS h ?_|refine uL h ?_|refine j5 h ?_|refine pC h ?_|refine zb h ?_|refine lW h ?_|refine vt h ?_|refine AO h ?_|refine sY h ?_|refine Ar h ?_|refine AP h ?_|refine mH h ?_|refine mI h ?_|refine pN h ?_|refine dO h λw h=> ?_|refine qY h λw h=> ?_|refine vC h λw h=> ?_|refine nW h λw h=> ?_|refine av h λgx w h=> ?_|refine cP ?_|refine ja h ?_|refine mJ h ?_|refine fX ?_ ?_|refine fE ?_|refine nJ ?_|refine xB ?_|fail)
 refine lu h hst vw λw h=> ?_;with_reducible repeat' (first|refine an ?_|refine mH h ?_|fail)
 refine Sr (t:=t) h hf λw h=> ?_;with_reducible repeat' (first|refine an ?_|fail)
 refine Ak h (by rw[kr,hf]) λw h=> ?_
 unfold aH;with_reducible repeat' (first|refine an ?_|refine da h ?_|refine cS h ?_|refine dO h λw h=> ?_|fail)
 exact hk _ (bi (q:={q with px:=mt gw .next}) (by exact{hq with cM:=rfl}) (vo (t':={t with f:=nu t.f}) (G:=G.lU) (W:=W.go .next) ⟨hp.len,hp.a,hp.t⟩ h))
end
theorem asU{f:List Int}{j:Nat}(h1:j≠1)(h2:j≠18):(nu f).getD j 0=f.getD j 0:=by
 unfold nu Ax;rw[nI,rK ah,rK ah,nI]
section
variable {w0 w:World} {L R:List HP} {l:Lc} {P:List dH} {aa:List Nat} {G:Gl} {gw b c x a:Nat} {W:Wk} {k:Unit→aq} {sp st sw so sc:Sl} {q:Wq} {f:HP→List HP} {t t':Tk} {s':List Nat} {vs:List Value} {i:List Int} {nd:Nd}
theorem asV:(G.set x t).set x t'=G.set x t':=by unfold Gl.set;dsimp only;rw[List.set_set]
theorem aga(ht:G.ts[x]?=some t):(G.set x t').ts[x]?=some t':=uu (kJ.1 ht).1
theorem ldR{r:Int}{c:Int→Prop}(h:St w0 w L)[a1:At L (ax a) (t.cells so sc) f](h0:0≤r)(h1:r<8)(hc:c (t.f.getD (2+r.toNat) 0)):GG (aY (aY ⟨a,0,none⟩ 4) 2) 8 r 1 λp=>aN .i64 w p c:=by
 refine tU h0 h1 ?_;rw[cY];show aN .i64 w ⟨a,0+4+2+r.toNat*1,none⟩ c;refine cn (g:=a) h ?_ hc;have:r=0∨r=1∨r=2∨r=3∨r=4∨r=5∨r=6∨r=7:=ah;rcases this with rfl|rfl|rfl|rfl|rfl|rfl|rfl|rfl<;>rfl
theorem aye{r:Int}{c:Int→Prop}(h:St w0 w L)[a1:At L (ax a) (t.cells so sc) f](h0:0≤r)(h1:r<8)(hc:c (t.f.getD (10+r.toNat) 0)):GG (aY (aY ⟨a,0,none⟩ 4) 10) 8 r 1 λp=>aN .i64 w p c:=by
 refine tU h0 h1 ?_;rw[cY];show aN .i64 w ⟨a,0+4+10+r.toNat*1,none⟩ c;refine cn (g:=a) h ?_ hc;have:r=0∨r=1∨r=2∨r=3∨r=4∨r=5∨r=6∨r=7:=ah;rcases this with rfl|rfl|rfl|rfl|rfl|rfl|rfl|rfl<;>rfl
theorem asW(hF:iN w0 l.ps P)(hI:In P t.f i)(h:qE w0 w l aa gw G W R)(he:G.err=0)(hs:W.stack=x::s')(ht:G.ts[x]?=some t)(hA:0≤i.getD 1 0∧i.getD 1 0<8)(hk:Fin w0 l aa gw R k (leave l P G W x t)):fS (some ⟨gw,0,none⟩) w k:=by
 obtain⟨sp,st,sw,q,hq,h⟩:=dN h;obtain⟨a,vs,ha,hst,_⟩:=mY hq hs;obtain⟨hp,so,sc,h⟩:=nU h ha ht;unfold fS yp;unfold leave at hk;rw[hI.ins]at hk;have hf:=hI.len;obtain⟨i0,i1,i2,i3,i4,rfl⟩:=I1 hI.Gw;have hA:0≤i1∧i1<8:=hA;have hA2:(nu t.f).getD (2+i1.toNat) 0=t.f.getD (2+i1.toNat) 0:=asU ah ah;refine Gz h he (λhb w h=> ?_) λhb w h=> ?_
 ·rw[if_pos hb]at hk;with_reducible repeat' (first|refine nJ ?_|fail)
  exact hk _ (bi (G:=G.fail 22) hq (oQ (G:=G.fail 22) ⟨hp.len,hp.a,hp.t⟩ h))
 rw[if_neg hb]at hk;with_reducible repeat' (first|refine fE ?_|fail)
 refine lu h hst vw λw h=> ?_;refine I2 hF hI h hst λw h=> ?_;with_reducible repeat' (first|refine an ?_|refine mH h ?_|refine nW h λw h=> ?_|refine av h λgx w h=> ?_|fail)
 obtain⟨gc,lS⟩:∃n,n=gx:=⟨_,rfl⟩;subst lS;refine Sr (t:=t) h hf λw h=> ?_;with_reducible repeat' (first|refine an ?_|fail)
 refine Ak h (by rw[kr,hf]) λw h=> ?_
 unfold aH;with_reducible repeat' (first|refine an ?_|refine da h ?_|refine cS h ?_|refine dO h λw h=> ?_|fail)
 refine ay (λhb=> ?_) λhb=> ?_
 ·have hb:i0=15:=by simpa using hb
  with_reducible repeat' (first|refine an ?_|refine aF h λw h=> ?_|refine cS h ?_|fail)
  refine ldR (t:={t with f:=nu t.f}) h hA.1 hA.2 ?_;have h:=h.rm 0 rfl;have h:qE w0 w l aa gw (G.lU.set x {t with f:=nu t.f}) (W.go .next) R:=bi (q:={q with px:=mt gw .next}) (by exact{hq with cM:=rfl}) (vo (t':={t with f:=nu t.f}) (G:=G.lU) (W:=W.go .next) ⟨hp.len,hp.a,hp.t⟩ h)
  refine Z4 h hs (t:={t with f:=nu t.f}) (aga ht) ?_;unfold ends;rw[asV];rw[if_pos (show([i0,i1,i2,i3,i4]:List Int).getD 0 0=15 from hb)]at hk;show Fin w0 l aa gw R k (G.lU.set x {t with f:=nu t.f,kind:=3,v:=(nu t.f).getD (2+i1.toNat) 0},_);rw[hA2];exact hk
 ·have hb:¬i0=15:=by simpa using hb
  with_reducible repeat' (first|refine an ?_|refine aF h λw h=> ?_|refine cS h ?_|fail)
  refine ldR (t:={t with f:=nu t.f}) h hA.1 hA.2 ?_;have h:=h.rm 0 rfl;have h:qE w0 w l aa gw (G.lU.set x {t with f:=nu t.f}) (W.go .next) R:=bi (q:={q with px:=mt gw .next}) (by exact{hq with cM:=rfl}) (vo (t':={t with f:=nu t.f}) (G:=G.lU) (W:=W.go .next) ⟨hp.len,hp.a,hp.t⟩ h)
  refine Z4 h hs (t:={t with f:=nu t.f}) (aga ht) ?_;unfold ends;rw[asV];rw[if_neg (show¬([i0,i1,i2,i3,i4]:List Int).getD 0 0=15 from hb)]at hk;show Fin w0 l aa gw R k (G.lU.set x {t with f:=nu t.f,kind:=2,v:=(nu t.f).getD (2+i1.toNat) 0},_);rw[hA2];exact hk
theorem aod(h:qE w0 w l aa gw G W R)(he:G.err=0)(hs:W.stack=x::s')(ht:G.ts[x]?=some t)(hf:t.f.length=19)(ho:t.cD≠ [])(hsc:oc G.C t.ku.1=some nd)(hc:G.M.can W.id nd.at_=true)(hk:Fin w0 l aa gw R k (cancel l G W x t nd)):fh (some ⟨gw,0,none⟩) w k:=by
 obtain⟨sp,st,sw,q,hq,h⟩:=dN h;obtain⟨a,vs,ha,hst,_⟩:=mY hq hs;obtain⟨hp,so,sc,h⟩:=nU h ha ht;obtain⟨o,m,wY⟩:∃o m,t.cD=o++[m]:=⟨_,_,(List.dropLast_concat_getLast ho).symm⟩;unfold fh wG;unfold cancel at hk;rw[BY wY]at hsc;refine Gz h he (λhb w h=> ?_) λhb w h=> ?_
 ·rw[if_pos hb]at hk;with_reducible repeat' (first|refine nJ ?_|fail)
  exact hk _ (bi (G:=G.fail 22) hq (oQ (G:=G.fail 22) ⟨hp.len,hp.a,hp.t⟩ h))
 rw[if_neg hb]at hk;with_reducible repeat' (first|refine fE ?_|fail)
 refine lu h hst vw λw h=> ?_;with_reducible repeat' (first|refine an ?_|refine aF h λw h=> ?_|refine da h ?_|refine cS h ?_|fail)
 refine BK h wY λw h=> ?_;with_reducible repeat' (first|refine ja h ?_|fail)
 refine ptI (by rfl) ?_
 refine arf (C:=G.C) (M:=G.M) h hsc hc λw h=> ?_;with_reducible repeat' (first|refine an ?_|refine da h ?_|refine mH h ?_|refine fE ?_|refine lT ?_|fail)
 refine Sr (t:=t) h hf λw h=> ?_;with_reducible repeat' (first|refine an ?_|fail)
 refine Ak h (by rw[kr,hf]) λw h=> ?_
 unfold aH cf;with_reducible repeat' (first|refine an ?_|refine da h ?_|refine cS h ?_|refine dO h λw h=> ?_|fail)
 exact hk _ (bi (q:={q with px:=mt gw .tell,Yh:=mt gw .next}) (by exact{hq with cM:=rfl,said:=rfl}) (vo (t':={t with f:=nu t.f}) (G:=(G.mem (G.M.cs W.id nd.at_ 0 1).1).lU) (W:=W.I0 (.m .next)) ⟨hp.len,hp.a,hp.t⟩ h))
end
section
variable {w0 w:World} {L R:List HP} {l:Lc} {P:List dH} {aa:List Nat} {G:Gl} {gw b c x a:Nat} {W:Wk} {k:Unit→aq} {sp st sw so sc:Sl} {q:Wq} {f:HP→List HP} {t t':Tk} {s':List Nat} {vs:List Value} {i:List Int} {nd:Nd} {p:Pl}
structure Dr (G:Gl) (s:Int):Prop where
 ZJ:G.time.2.length≤100000
 ck:CK G.time
 s0:0≤s
 pl:∃p,G.P[s.toNat]?=some p
theorem amw{o:List (Int×Int)}{m:Int×Int}(h:TO w0 w l aa gw G W R sp st sw q x a t so sc)(hst:q.rV=pt a::vs)(wY:t.cD=o++[m])(hd:Dr G m.1)
  (hk:∀so' w',TO w0 w' l aa gw {G with time:=(G.time.1,Ko.D6 G.time.2 m.1),P:=BX G.P m.1} W R sp st sw q x a {t with cD:=o} so' sc→k () w'):dW (some ⟨gw,0,none⟩) w k:=by
 obtain⟨p,hp⟩:=hd.pl;unfold dW z0;refine lu h hst vw λw h=> ?_;refine BK h wY λw h=> ?_;refine ptI (by rfl) ?_
 with_reducible repeat' (first|refine an ?_|refine da h ?_|fail)
 refine Ko.awj (now:=G.time.1) (S:=G.time.2) hd.ZJ hd.ck h λw h=> ?_;with_reducible repeat' (first|refine an ?_|refine da h ?_|refine j5 h ?_|fail)
 refine rSt (sz:=4) (s:=sp) (es:=G.P.map uw) h hd.s0 (e:=uw p) (by rw[pz,hp];rfl) ah rfl λw h=> ?_
 have hn:=(tE (sz:=2) (s:=so) (es:=t.cD.map Ay) h).2 ah;obtain⟨R2,_,h3,_⟩:=K6 (s:=so) (sz:=2) (es:=t.cD.map Ay) inferInstance h;have hm:=(h3.own (sz:=2) (s:=so) (vs:=(t.cD.map Ay).flatten)).max;have hcap:=(h3.own (sz:=2) (s:=so) (vs:=(t.cD.map Ay).flatten)).cap;rw[List.length_map]at hn;have hol:t.cD.length=o.length+1:=by rw[wY];simp
 with_reducible repeat' (first|refine an ?_|refine aF h λw h=> ?_|refine j5 h ?_|fail)
 have e0:aG .i64 (((so.n:Nat):Int) - 1)=(o.length:Nat):=by rw[lY ⟨ah,ah⟩];omega
 show Sw so 2 0 (aG .i64 (((so.n:Nat):Int) - 1)) _;rw[e0];refine aBr (sz:=2) (s:=so) (es:=t.cD.map Ay) h ah ah (by rw[List.length_map];omega) λd hdn h=> ?_
 have e1:(t.cD.map Ay).take ((o.length:Nat):Int).toNat=o.map Ay:=by rw[kR,wY,List.map_append,List.take_append_of_le_length bc,List.take_of_length_le bc]
 have e2:(G.P.map uw).set m.1.toNat ((uw p).set 3 (.bool true))=(BX G.P m.1).map uw:=by unfold BX;rw[hp];simp only[List.map_set];rfl
 rw[e1,e2]at h;with_reducible repeat' (first|refine an ?_|refine dO h λw h=> ?_|fail)
 exact hk d w h
theorem akw{o:List (Int×Int)}{m:Int×Int}(hq:q.Ok aa gw W)(h:wX w0 w l aa gw G W R sp st sw q)(hb:(b,[pt gw])∈q.B)(hs:W.stack=x::s')(ht:G.ts[x]?=some t)(ho:t.cD≠ [])(hd:Dr G t.ku.1)(hk:Fin w0 l aa gw R k (qw G W x t)):eS ⟨b,0,none⟩ w k:=by
 obtain⟨o,m,wY⟩:∃o m,t.cD=o++[m]:=⟨_,_,(List.dropLast_concat_getLast ho).symm⟩;obtain⟨a,vs,ha,hst,_⟩:=mY hq hs;obtain⟨hp,so,sc,h⟩:=nU h ha ht;unfold eS um;unfold qw at hk;rw[BY wY]at hd;with_reducible repeat' (first|refine Eo h hb ?_|fail)
 refine amw h hst wY hd λso' w h=> ?_;with_reducible repeat' (first|refine Eo h hb ?_|fail)
 have ed:t.cD.dropLast=o:=by rw[wY];simp
 rw[ed]at hk;have eg:G.Yk x t=({G with time:=(G.time.1,Ko.D6 G.time.2 m.1),P:=BX G.P m.1}:Gl).set x {t with cD:=o}:=by unfold Gl.Yk;rw[BY wY,ed];rfl
 rw[eg]at hk;exact aef (bi hq (vo (G:={G with time:=(G.time.1,Ko.D6 G.time.2 m.1),P:=BX G.P m.1}) ⟨hp.len,hp.a,hp.t⟩ h)) hs (aga ht) hk
theorem aoe{wT:Bool}{k:Array Value→aq}(h:St w0 w L)(hf:t.f.length=19)(h5:i.length=5)(hk:∀w',St w0 w' L→k (eU (iB t.f i wT)) w'):jc (frV t.f).toArray (eU i) wT w k:=by
 rw[NO hf];exact Fr.anM hf h5 λw' he=>hk w' (h.on he)
theorem aof(hF:iN w0 l.ps P)(hI:In P t.f i)(h:qE w0 w l aa gw G W R)(he:G.err=0)(hs:W.stack=x::s')(ht:G.ts[x]?=some t)(ho:t.cD≠ [])(hd:Dr G t.ku.1)(hsc:oc G.C t.ku.1=some nd)(hc:G.M.can W.id nd.at_=true)(hsz:t.gF.size≤1000000)(hk:Fin w0 l aa gw R k (gF l P G W x t nd)):fg (some ⟨gw,0,none⟩) w k:=by
 obtain⟨o,m,wY⟩:∃o m,t.cD=o++[m]:=⟨_,_,(List.dropLast_concat_getLast ho).symm⟩;obtain⟨sp,st,sw,q,hq,h⟩:=dN h;obtain⟨a,vs,ha,hst,_⟩:=mY hq hs;obtain⟨hp,so,sc,h⟩:=nU h ha ht;unfold fg wE;unfold gF at hk;rw[BY wY]at hsc hd;rw[hI.ins]at hk;have hf:=hI.len;have h5:=hI.Gw;obtain⟨i0,i1,i2,i3,i4,hi⟩:=I1 h5;refine Gz h he (λhb w h=> ?_) λhb w h=> ?_
 ·simp only[if_pos hb]at hk;with_reducible repeat' (first|refine nJ ?_|fail)
  exact hk _ (bi (G:=G.fail 22) hq (oQ (G:=G.fail 22) ⟨hp.len,hp.a,hp.t⟩ h))
 simp only[if_neg hb]at hk;with_reducible repeat' (first|refine fE ?_|fail)
 refine lu h hst vw λw h=> ?_;refine I2 hF hI h hst λw h=> ?_;subst hi;with_reducible repeat' (first|refine an ?_|refine aF h λw h=> ?_|refine da h ?_|refine cS h ?_|refine nW h λw h=> ?_|refine av h λgx w h=> ?_|fail)
 obtain⟨gc,lS⟩:∃n,n=gx:=⟨_,rfl⟩;subst lS;refine BK h wY λw h=> ?_;with_reducible repeat' (first|refine ja h ?_|fail)
 refine ptI (by rfl) ?_
 refine ahm (C:=G.C) (M:=G.M) h hsc hc λw h=> ?_;with_reducible repeat' (first|refine an ?_|refine da h ?_|refine fE ?_|refine lT ?_|fail)
 generalize (G.M.get nd.at_ !=0)=ak at hk ⊢;refine bS (fun(s:ByteArray) w'=>s=(if ak then ByteArray.mk #[49]else ByteArray.mk #[48])∧w'=w) (λJ hJ=> ?_) ?_
 ·cases ak
  ·exact bh rfl (hJ _ _ ⟨rfl,rfl⟩)
  ·exact bO rfl (hJ _ _ ⟨rfl,rfl⟩)
 rintro s _ ⟨hs1,rfl⟩;with_reducible repeat' (first|refine an ?_|refine zb h ?_|fail)
 refine⟨?_,?_⟩
 ·have:s.size=1:=by rw[hs1];cases ak<;>rfl
  rw[this];omega
 with_reducible repeat' (first|refine an ?_|refine aF h λw h=> ?_|refine mH h ?_|refine mI h ?_|refine dO h λw h=> ?_|fail)
 refine aoe (t:=t) (i:=[i0,i1,i2,i3,i4]) h hf h5 λw h=> ?_;with_reducible repeat' (first|refine an ?_|fail)
 refine Ak (t:={t with gF:=t.gF++s}) h (by rw[pQ,hf]) λw h=> ?_
 have h:=h.Ek 0;have h:TO w0 w l aa gw (G.tick W.id) W R sp st sw q x a {t with gF:=t.gF++s,f:=iB t.f [i0,i1,i2,i3,i4] ak} so sc:=h;refine amw h hst wY ⟨hd.ZJ,hd.ck,hd.s0,hd.pl⟩ λso' w h=> ?_;unfold aH;with_reducible repeat' (first|refine an ?_|refine da h ?_|refine cS h ?_|refine dO h λw h=> ?_|fail)
 have ed:t.cD.dropLast=o:=by rw[wY];simp
 have eg:(((G.tick W.id).Yk x {t with gF:=t.gF++s,f:=iB t.f [i0,i1,i2,i3,i4] ak}).lU)=({G.tick W.id with time:=(G.time.1,Ko.D6 G.time.2 m.1),P:=BX G.P m.1}:Gl).lU.set x {t with gF:=t.gF++s,f:=iB t.f [i0,i1,i2,i3,i4] ak,cD:=o}:=by
  unfold Gl.Yk Tk.ku;dsimp only;rw[show t.cD.getLastD (0,0)=m from BY wY,ed];rfl
 rw[←hs1,eg]at hk;exact hk _ (bi (q:={q with px:=mt gw .next}) (by exact{hq with cM:=rfl}) (vo (t':={t with gF:=t.gF++s,f:=iB t.f [i0,i1,i2,i3,i4] ak,cD:=o}) (G:=({G.tick W.id with time:=(G.time.1,Ko.D6 G.time.2 m.1),P:=BX G.P m.1}:Gl).lU) (W:=W.go .next) ⟨hp.len,hp.a,hp.t⟩ h))
end
end Go.Proofs.YthidhjhkmjjckaaGreatDoor
namespace Go.Proofs.YthidhjhkmjjckaaGreatDoor
open Go Go.Ev Go.Proofs
open Ko (oe CK)
section
variable {w0 w:World} {L R:List HP} {l:Lc} {P:List dH} {aa:List Nat} {G:Gl} {gw b c x a:Nat} {W:Wk} {k:Unit→aq} {sp st sw so sc:Sl} {q:Wq} {f:HP→List HP} {t t':Tk} {s':List Nat} {vs:List Value} {i:List Int} {nd:Nd} {p:Pl}
theorem ab5{g sz:Nat}{e:List Value}(h:St w0 w (ax g e::L))(hl:e.length=sz)(h1:∀v∈e,v.oneCell'=true):St w0 w (rws sz ⟨some ⟨g,0,none⟩,1,1⟩ [e]::L):=by
 have h2:=St.asS (g:=g) (n:=1) (sz:=sz) (cs:=e) h ah ah h1;refine St.pur (by intro e' he;simp at he;rw[he];exact hl) ?_
 simpa using h2
theorem amx:GM Tryz.prog 97 1 8 (.pointer none):=⟨be,be⟩
theorem asY:GM Tryz.prog 146 1 8 .nilFunc:=⟨be,be⟩
theorem asZ(h:qE w0 w l aa gw G W R)(he:G.err=0)(hx:W.jk=(x:Nat))(ht:G.ts[x]?=some t)(hA:yY W.dq)(hc:G.M.can W.id (W.dq+1)=true)(hsc:oc G.C t.lX=some nd)(hl1:W.stack.length≤100000)(hl2:W.back.length≤100000)(hk:Fin w0 l aa gw R k (NW l G W x t)):fN (some ⟨gw,0,none⟩) w k:=by
 obtain⟨sp,st,sw,q,hq,h⟩:=dN h;have hl:=xj h;obtain⟨a,ha⟩:=Ym hl ht;have hn:=uN (s:=q.ss) (vs:=q.rV.reverse) h;have E7:=hq.rV.len;have hn3:=hq.y3.len;rw[List.length_reverse]at hn;unfold fN yc;unfold NW at hk;have hv:=hq.home.one;with_reducible repeat' (first|refine an ?_|refine aF h λw h=> ?_|refine da h ?_|refine j5 h ?_|refine lW h ?_|refine pN h ?_|refine av h λgx w h=> ?_|fail)
 obtain⟨gb,lS⟩:∃n,n=gx:=⟨_,rfl⟩;subst lS;with_reducible repeat' (first|refine an ?_|refine aF h λw h=> ?_|refine da h ?_|refine cS h ?_|refine uL h ?_|refine j5 h ?_|refine pC h ?_|refine zb h ?_|refine lW h ?_|refine vt h ?_|refine AO h ?_|refine sY h ?_|refine Ar h ?_|refine AP h ?_|refine mH h ?_|refine mI h ?_|refine pN h ?_|refine dO h λw h=> ?_|refine qY h λw h=> ?_|refine vC h λw h=> ?_|refine nW h λw h=> ?_|refine av h λgx w h=> ?_|refine cP ?_|refine ja h ?_|refine mJ h ?_|refine fX ?_ ?_|refine fE ?_|refine nJ ?_|refine xB ?_|fail)
 refine ay (λhb=> ?_) λhb=> ?_
 ·have hb:(W.stack.length:Int)≥l.deep:=by rw[E7,←hn];exact of_decide_eq_true hb
  rw[if_pos hb]at hk;with_reducible repeat' (first|refine an ?_|refine da h ?_|refine lW h ?_|fail)
  refine JY h fY he λw h=> ?_;exact hk _ (bi (G:=G.fail 23) hq (h.rm 0 rfl))
 have hb:¬(W.stack.length:Int)≥l.deep:=by rw[E7,←hn];exact of_decide_eq_false hb
 rw[if_neg hb]at hk;with_reducible repeat' (first|refine an ?_|refine aF h λw h=> ?_|refine da h ?_|refine cS h ?_|refine lW h ?_|refine mH h ?_|fail)
 refine UY (M:=G.M) h hA hc λw h=> ?_;with_reducible repeat' (first|refine an ?_|refine aF h λw h=> ?_|refine da h ?_|refine cS h ?_|refine j5 h ?_|refine lW h ?_|refine fE ?_|refine lT ?_|fail)
 show cZ st W.jk 1 _;rw[hx];refine vP (s:=st) (vs:=aa.map pt) h ah (ab3 ha) ?_;have h:=h.fr 10;obtain⟨so,sc,h⟩:=sG h ha ht;with_reducible repeat' (first|refine an ?_|refine cS h ?_|fail)
 refine NJ rfl rfl ?_;with_reducible repeat' (first|refine an ?_|refine dO h λw h=> ?_|refine av h λgx w h=> ?_|fail)
 obtain⟨gn,lS⟩:∃n,n=gx:=⟨_,rfl⟩;subst lS;have h:=ab5 (sz:=2) (e:=Ay (t.own,G.M.get (W.dq+1))) h rfl (by simp[Value.oneCell'])
 have h:=AD (K:=rws 2 so) h;have h:=h.fr 4;have h:=h.bk 22;refine bS (fun(_:Unit) w=> ∃s1 s2,TO w0 w l aa gw (G.tick W.id) {W with stack:=x::W.stack,back:=W.home::W.back} (ax gb [pt gw]::R) sp st sw {q with ss:=s1,sb:=s2,rV:=pt a::q.rV,y3:=q.KS::q.y3} x a {t with cD:=[(t.own,G.M.get (W.dq+1))]} ⟨some ⟨gn,0,none⟩,1,1⟩ sc) (λJ hJ=> ?_) ?_
 ·have hls:q.rV.reverse.length≤1000000:=by rw[List.length_reverse];omega
  have hlb:q.y3.reverse.length≤1000000:=by rw[List.length_reverse];omega
  with_reducible repeat' (first|refine an ?_|refine aF h λw h=> ?_|refine j5 h ?_|refine pC h ?_|refine lW h ?_|refine av h λgx w h=> ?_|refine ja h ?_|refine mJ h ?_|refine fX ?_ ?_|refine xB ?_|fail)
  ·refine K7 (s:=q.ss) (vs:=q.rV.reverse) h amx be rfl hls ah λs1 w h ux=> ?_;with_reducible repeat' (first|refine av h λgx w h=> ?_|refine ja h ?_|refine mJ h ?_|refine xB ?_|fail)
   refine K7 (s:=q.sb) (vs:=q.y3.reverse) h asY be hv hlb ah λs2 w h E7=> ?_;with_reducible repeat' (first|refine an ?_|refine dO h λw h=> ?_|refine mJ h ?_|fail)
   have h:=(h.rm 0 rfl).rm 0 rfl;rw[←List.reverse_cons,←List.reverse_cons]at h;exact hJ _ _ ⟨s1,s2,h⟩
  ·refine K7 (s:=q.ss) (vs:=q.rV.reverse) h amx be rfl hls ah λs1 w h ux=> ?_;with_reducible repeat' (first|refine ja h ?_|refine mJ h ?_|fail)
   refine K7 (s:=q.sb) (vs:=q.y3.reverse) h asY be hv hlb ah λs2 w h E7=> ?_;with_reducible repeat' (first|refine an ?_|refine dO h λw h=> ?_|refine mJ h ?_|fail)
   have h:=(h.rm 0 rfl).rm 0 rfl;rw[←List.reverse_cons,←List.reverse_cons]at h;exact hJ _ _ ⟨s1,s2,h⟩
  ·refine K7 (s:=q.ss) (vs:=q.rV.reverse) h amx be rfl hls ah λs1 w h ux=> ?_;with_reducible repeat' (first|refine ja h ?_|refine mJ h ?_|fail)
   refine K7 (s:=q.sb) (vs:=q.y3.reverse) h asY be hv hlb ah λs2 w h E7=> ?_;with_reducible repeat' (first|refine an ?_|refine dO h λw h=> ?_|refine mJ h ?_|fail)
   have h:=(h.rm 0 rfl).rm 0 rfl;rw[←List.reverse_cons,←List.reverse_cons]at h;exact hJ _ _ ⟨s1,s2,h⟩
 clear h;rintro _ w ⟨s1,s2,h⟩;have h:=h.fr 22;with_reducible repeat' (first|refine an ?_|refine aF h λw h=> ?_|refine cS h ?_|refine lW h ?_|fail)
 have h:=qm h;have hp:Tp aa (G.tick W.id) x a t:=⟨hl,ha,ht⟩;have h:=vo (q:={q with ss:=s1,sb:=s2,rV:=pt a::q.rV,y3:=q.KS::q.y3,B:=q.B++[(gb,[pt gw])]}) hp h;exact ab4 (kk:= .c .wW) (W:={W with stack:=x::W.stack,back:=W.home::W.back}) (q:={q with ss:=s1,sb:=s2,rV:=pt a::q.rV,y3:=q.KS::q.y3,B:=q.B++[(gb,[pt gw])]})
  (by exact{JU (g:=gb) (cs:=[pt gw]) hq with rV:= .cons ⟨a,ha,rfl⟩ hq.rV,y3:= .cons (hq.home.box λp h=>List.mem_append_left _ h) (JU (g:=gb) (cs:=[pt gw]) hq).y3}) h ⟨gb,bc,rfl⟩ hsc hk
end
section
variable {w0 w:World} {L R:List HP} {l:Lc} {P:List dH} {aa:List Nat} {G:Gl} {gw b c x a:Nat} {W:Wk} {k:Unit→aq} {sp st sw so sc:Sl} {q:Wq} {f:HP→List HP} {t t':Tk} {s':List Nat} {vs:List Value} {i:List Int} {nd:Nd} {p:Pl}
theorem as0{kb:Kn}{bs:List Kn}(hq:q.Ok aa gw W)(hs:W.back=kb::bs):∃u us,Rp aa gw q.B kb u∧q.y3=u::us∧Oo (Rp aa gw q.B) bs us:=by
 have h:=hq.y3;rw[hs]at h;generalize q.y3=s at h ⊢;cases h with
 |cons h1 h2=>exact⟨_,_,h1,rfl,h2⟩
theorem awC{kb:Kn}{bs:List Kn}(h:qE w0 w l aa gw G W R)(hs:W.stack=x::s')(hbk:W.back=kb::bs)(hbl:bs.length=s'.length)(ht:G.ts[x]?=some t)(hM:G.M.OK)(hsc:oc G.C t.lX=some nd)(hc:G.M.can W.id (nd.at_+1)=true)(hk:Fin w0 l aa gw R k (gone G W nd)):gY (some ⟨gw,0,none⟩) w k:=by
 obtain⟨sp,st,sw,q,hq,h⟩:=dN h;obtain⟨a,vs,ha,hst,hvs⟩:=mY hq hs;obtain⟨u,us,hu,hbu,hus⟩:=as0 hq hbk;have hu1:=hu.one;have Zp:=hvs.len;have hv2:=hus.len;unfold gY Ab;unfold gone at hk;rw[hs,hbk]at hk;have hn:=uN (s:=q.ss) (vs:=q.rV.reverse) h;have hm:=(h.own (sz:=1) (s:=q.ss) (vs:=q.rV.reverse)).max;have hcap:=(h.own (sz:=1) (s:=q.ss) (vs:=q.rV.reverse)).cap;rw[hst,List.length_reverse,List.length_cons]at hn;with_reducible repeat' (first|refine an ?_|refine aF h λw h=> ?_|refine da h ?_|refine cS h ?_|fail)
 refine lu h hst vw λw h=> ?_;obtain⟨hp,so,sc,h⟩:=nU h ha ht;with_reducible repeat' (first|refine an ?_|refine cS h ?_|refine ja h ?_|fail)
 refine are (C:=G.C) (M:=G.M) h hsc hc hM λw h=> ?_;have h:=pW hp.len hp.a hp.t h;have h:=h.bk 9;with_reducible repeat' (first|refine an ?_|refine da h ?_|refine j5 h ?_|refine fE ?_|refine lT ?_|fail)
 have e0:aG .i64 (((q.ss.n:Nat):Int) - 1)=(vs.length:Nat):=by rw[lY ⟨ah,ah⟩];omega
 show cZ q.sb (aG .i64 (((q.ss.n:Nat):Int) - 1)) 1 _;rw[e0];refine vV (s:=q.sb) (vs:=q.y3.reverse) h ah (x:=u) ?_ ?_
 ·rw[hbu,kR,List.reverse_cons,uI (by simp;omega)]
  have:vs.length - us.reverse.length=0:=by rw[List.length_reverse];omega
  rw[this];rfl
 with_reducible repeat' (first|refine an ?_|refine aF h λw h=> ?_|refine j5 h ?_|fail)
 show Sw q.ss 1 0 ((vs.length:Nat):Int) _;refine alF (s:=q.ss) (vs:=q.rV.reverse) h ah (by rw[hst];simp;omega) λs1 hs1 h=> ?_
 with_reducible repeat' (first|refine an ?_|refine j5 h ?_|fail)
 show Sw q.sb 1 0 ((vs.length:Nat):Int) _;refine alF (s:=q.sb) (vs:=q.y3.reverse) h ah (by rw[hbu];simp;omega) λs2 Im h=> ?_
 have e1:q.rV.reverse.take ((vs.length:Nat):Int).toNat=vs.reverse:=by rw[kR,hst,List.reverse_cons,List.take_append_of_le_length bc,List.take_of_length_le bc]
 have e2:q.y3.reverse.take ((vs.length:Nat):Int).toNat=us.reverse:=by rw[kR,hbu,List.reverse_cons,List.take_append_of_le_length (by simp;omega),List.take_of_length_le (by simp;omega)]
 rw[e1,e2]at h;with_reducible repeat' (first|refine an ?_|refine cS h ?_|refine dO h λw h=> ?_|fail)
 dsimp only[List.headD,List.tail]at hk;refine ay (λhb=> ?_) λhb=> ?_
 ·have hb:(W.bits !=0||G.M.get (nd.at_+1)==1)=true:=hb;rw[if_pos hb]at hk;unfold cf;with_reducible repeat' (first|refine an ?_|refine dO h λw h=> ?_|fail)
  exact hk _ (bi (q:={q with px:=mt gw .tell,Yh:=u,ss:=s1,sb:=s2,rV:=vs,y3:=us}) (by exact{hq with cM:=rfl,said:=hu,rV:=hvs,y3:=hus}) h)
 ·have hb:(W.bits !=0||G.M.get (nd.at_+1)==1)=false:=hb;rw[if_neg (by rw[hb];simp)]at hk
  exact hk _ (bi (q:={q with px:=u,ss:=s1,sb:=s2,rV:=vs,y3:=us}) (by exact{hq with cM:=hu,rV:=hvs,y3:=hus}) h)
theorem as2:GM Tryz.prog 96 4 32 (.agg #[.int .i64 0,.int .i64 0,.int .i64 0,.bool false]):=⟨be,be⟩
theorem awD(h:qE w0 w l aa gw G W R)(he:G.err=0)(hs:W.stack=x::s')(ht:G.ts[x]?=some t)(ho:t.cD≠ [])(hM:G.M.OK)(pB:G.M.caller W.id=true)(hC:G.C.length≤1000000)(hP:G.P.length≤1000000)(hsc:oc G.C t.ku.1=some nd)(hk:Fin w0 l aa gw R k (fork G W t nd)):gT (some ⟨gw,0,none⟩) w k:=by
 obtain⟨o,m,wY⟩:∃o m,t.cD=o++[m]:=⟨_,_,(List.dropLast_concat_getLast ho).symm⟩;obtain⟨sp,st,sw,q,hq,h⟩:=dN h;obtain⟨a,vs,ha,hst,hvs⟩:=mY hq hs;unfold gT zS;unfold fork at hk;rw[BY wY]at hk hsc;with_reducible repeat' (first|refine an ?_|refine aF h λw h=> ?_|refine da h ?_|refine cS h ?_|fail)
 refine lu h hst vw λw h=> ?_;obtain⟨hp,so,sc,h⟩:=nU h ha ht;with_reducible repeat' (first|refine ja h ?_|fail)
 refine BK h wY λw h=> ?_;have h:=pW hp.len hp.a hp.t h;have h:=h.bk 9;with_reducible repeat' (first|refine ja h ?_|fail)
 refine ptI (by rfl) ?_
 refine afG (C:=G.C) (M:=G.M) h hsc pB hM hC (λhd w h=> ?_) (λhd hr w h=> ?_) λhd hr w h=> ?_
 ·rw[if_pos hd]at hk;with_reducible repeat' (first|refine an ?_|refine da h ?_|fail)
  exact JY h fY he λw h=>hk _ (bi (G:=G.fail 23) hq h)
 ·rw[if_neg hd,if_pos hr]at hk;with_reducible repeat' (first|refine an ?_|refine da h ?_|fail)
  exact JY h fY he λw h=>hk _ (bi (G:=G.fail 21) hq h)
 ·rw[if_neg hd,if_neg (by rw[hr];simp)]at hk
  with_reducible repeat' (first|refine an ?_|refine aF h λw h=> ?_|refine da h ?_|refine j5 h ?_|refine cP ?_|refine fE ?_|refine lT ?_|fail)
  refine NJ rfl rfl ?_;with_reducible repeat' (first|refine av h λgx w h=> ?_|refine ja h ?_|fail)
  refine adL (sz:=4) (s:=sp) (es:=G.P.map uw) (e:=uw (-2,0,0,false)) h as2 be rfl ah (by simp[Value.oneCell']) (by simpa using hP) ah λs1 w h hn=> ?_
  have h:=h.Ek 0;have e1:G.P.map uw++[uw (-2,0,0,false)]=(G.P++[(-2,0,0,false)]).map uw:=by simp
  rw[e1]at h;with_reducible repeat' (first|refine an ?_|refine dO h λw h=> ?_|refine ja h ?_|fail)
  exact hk _ (bi (G:={G with M:=(G.M.tick W.id).grow 2,C:=G.C++[⟨m.1,wr (nd.nest+1),(G.M.cells.length:Nat)⟩],P:=G.P++[(-2,0,0,false)]}) (sp:=s1) (q:={q with px:=mt gw .wV}) (by exact{hq with cM:=rfl}) h)
theorem aog(h:qE w0 w l aa gw G W R)(hs:W.stack=x::s')(ht:G.ts[x]?=some t)(ho:t.cD≠ [])(hM:G.M.OK)(hsc:oc G.C t.ku.1=some nd)(hc:G.M.can W.id (nd.at_+1)=true)(hk:Fin w0 l aa gw R k (sV l G W nd)):ff (some ⟨gw,0,none⟩) w k:=by
 obtain⟨o,m,wY⟩:∃o m,t.cD=o++[m]:=⟨_,_,(List.dropLast_concat_getLast ho).symm⟩;obtain⟨sp,st,sw,q,hq,h⟩:=dN h;obtain⟨a,vs,ha,hst,hvs⟩:=mY hq hs;unfold ff wz;unfold sV at hk;rw[BY wY]at hsc;with_reducible repeat' (first|refine an ?_|refine aF h λw h=> ?_|refine da h ?_|refine cS h ?_|refine lW h ?_|refine av h λgx w h=> ?_|fail)
 obtain⟨gb,lS⟩:∃n,n=gx:=⟨_,rfl⟩;subst lS;with_reducible repeat' (first|refine an ?_|refine aF h λw h=> ?_|refine da h ?_|refine cS h ?_|refine uL h ?_|refine j5 h ?_|refine pC h ?_|refine zb h ?_|refine lW h ?_|refine vt h ?_|refine AO h ?_|refine sY h ?_|refine Ar h ?_|refine AP h ?_|refine mH h ?_|refine mI h ?_|refine pN h ?_|refine dO h λw h=> ?_|refine qY h λw h=> ?_|refine vC h λw h=> ?_|refine nW h λw h=> ?_|refine av h λgx w h=> ?_|refine cP ?_|refine ja h ?_|refine mJ h ?_|refine fX ?_ ?_|refine fE ?_|refine nJ ?_|refine xB ?_|fail)
 refine lu h hst vw λw h=> ?_;have h:=h.fr 10;have hl:aa.length=G.ts.length:=NP h;obtain⟨so,sc,h⟩:=sG h ha ht;with_reducible repeat' (first|refine ja h ?_|refine mJ h ?_|fail)
 refine BK h wY λw h=> ?_;have h:=pW hl ha ht h;have h:=h.bk 10;with_reducible repeat' (first|refine ja h ?_|refine mJ h ?_|fail)
 refine ptI (by rfl) ?_
 refine ahl (C:=G.C) (M:=G.M) h hsc hc hM λw h=> ?_;with_reducible repeat' (first|refine an ?_|refine aF h λw h=> ?_|refine cS h ?_|refine lW h ?_|refine mH h ?_|refine ja h ?_|refine mJ h ?_|refine fE ?_|refine lT ?_|fail)
 refine al2 h λgo w h=> ?_;have h:=AD (K:=mX (uq q.go)) h;with_reducible repeat' (first|refine mJ h ?_|fail)
 unfold bl;with_reducible repeat' (first|refine an ?_|refine dO h λw h=> ?_|fail)
 have h:=qm h;exact hk w (bi (G:=G.mem (G.M.ad W.id (nd.at_+1) 1)) (q:={q with go:=go,px:=mt gw .pn,JT:=ct gb .tP,B:=q.B++[(gb,[pt gw])]}) (by exact{JU (g:=gb) (cs:=[pt gw]) hq with cM:=rfl,after:=⟨gb,bc,rfl⟩}) h)
end
section
variable {w0 w:World} {L R:List HP} {l:Lc} {P:List dH} {aa:List Nat} {G:Gl} {gw b c d x y a a':Nat} {W:Wk} {k:Unit→aq} {sp st sw so sc:Sl} {q:Wq} {f:HP→List HP} {t t' tt:Tk} {s':List Nat} {vs:List Value} {i:List Int} {nd:Nd} {p:Pl}
theorem Yn(h:qE w0 w l aa gw G W R)(hs:W.stack=x::s')(ht:G.ts[x]?=some t)(hy:aa[y]?=some a')(hc:G.M.can W.id l.told=true)(hsc:oc G.C t.lX=some nd)(hk:Fin w0 l aa gw R k (FH l G W t y)):cV (some ⟨gw,0,none⟩) (some ⟨a',0,none⟩) w k:=by
 obtain⟨sp,st,sw,q,hq,h⟩:=dN h;have hl:=xj h;obtain⟨a,vs,ha,hst,hvs⟩:=mY hq hs;unfold cV wB;with_reducible repeat' (first|refine an ?_|refine aF h λw h=> ?_|refine da h ?_|refine cS h ?_|refine lW h ?_|refine dO h λw h=> ?_|refine av h λgx w h=> ?_|refine mJ h ?_|fail)
 obtain⟨gc,lS⟩:∃n,n=gx:=⟨_,rfl⟩;subst lS;obtain⟨gb,lS⟩:∃n,n=gx:=⟨_,rfl⟩;subst lS;have h:=h.fr 3;have h:=h.fr 13;refine abn (M:=G.M) h hc λw h=> ?_;have h:=h.bk 13;have h:=h.bk 3;with_reducible repeat' (first|refine aF h λw h=> ?_|refine lW h ?_|refine ja h ?_|refine mJ h ?_|refine fE ?_|refine lT ?_|fail)
 refine lu h hst vw λw h=> ?_;have h:=h.fr 11;obtain⟨so,sc,h⟩:=sG h ha ht;with_reducible repeat' (first|refine an ?_|refine cS h ?_|refine mJ h ?_|fail)
 have h:=pW hl ha ht h;have h:=h.bk 11;have h:=qm h;have h:=qm h;have hm:∀p∈q.B,p∈q.B++[(gc,[pt a'])] ++[(gb,[pt gw])]:=λp hp=>List.mem_append_left _ (List.mem_append_left _ hp);exact ab4 (kk:= .c .sI) (G:=G.tick W.id) (W:={W with target:=some y,late:=false,again:= .aw y,wait:=⟨1,G.M.get l.told⟩}) (q:={q with On:=some ⟨a',0,none⟩,yU:= .func (.func eJ) #[] #[pt gb,pt gc],B:=q.B++[(gc,[pt a'])] ++[(gb,[pt gw])]})
  (by exact{hq.box hm with target:=⟨a',hy,rfl⟩,again:=⟨gb,gc,a',bc,hy,bc,rfl⟩}) h ⟨gb,bc,rfl⟩ hsc hk
theorem ayf(hq:q.Ok aa gw W)(h:wX w0 w l aa gw G W R sp st sw q)(hb:(b,[pt gw])∈q.B)(hcb:(c,[pt a'])∈q.B)(hs:W.stack=x::s')(ht:G.ts[x]?=some t)(hy:aa[y]?=some a')(hc:G.M.can W.id l.told=true)(hsc:oc G.C t.lX=some nd)(hk:Fin w0 l aa gw R k (FH l G W t y)):cu ⟨b,0,none⟩ ⟨c,0,none⟩ w k:=by
 unfold cu ul;refine Eo h hb (Eo h hcb ?_);exact Yn (bi hq h) hs ht hy hc hsc hk
theorem ayg{kk:Kn}{u:Value}(hq:q.Ok aa gw W)(h:wX w0 w l aa gw G W R sp st sw q)(hb:(b,[pt gw])∈q.B)(hcb:(c,[u])∈q.B)(hv:Rp aa gw q.B kk u)(hs:W.stack=x::s')(ht:G.ts[x]?=some t)(ho:t.cD≠ [])(hk:Fin w0 l aa gw R k (G,shut W kk t)):cG ⟨b,0,none⟩ ⟨c,0,none⟩ w k:=by
 unfold cG wO;refine Eo h hb (fzV h hcb ?_);exact af8 hq h hs ht ho hv hk
theorem Z5{kk:Kn}{u:Value}(hq:q.Ok aa gw W)(h:wX w0 w l aa gw G W R sp st sw q)(hv:Rp aa gw q.B kk u)(hk:Fin w0 l aa gw R k (G,W.stop kk)):bG (some ⟨gw,0,none⟩) u w k:=by
 unfold bG;have Zp:=hv.one;with_reducible repeat' (first|refine an ?_|refine dO h λw h=> ?_|fail)
 have h:=AD (K:=mX (λo:jI=>ax q.gp (o.cells l.sp q.gp))) (X:=mX (λo:jI=>ax q.gp (o.cells l.sp q.gp)) none) (St.shut (A:=[]) h);exact hk _ (bi (q:={q with px:=mt gw .stops,L2:=u}) (by exact{hq with cM:=rfl,po:=hv}) h)
theorem amy{kk:Kn}{u:Value}{z:Int}(hq:q.Ok aa gw W)(h:wX w0 w l aa gw G W R sp st sw q)(hv:Rp aa gw q.B kk u)(hk:Fin w0 l aa gw R k (G,W.G6 z kk)):bg (some ⟨gw,0,none⟩) z u w k:=by
 unfold bg;have Zp:=hv.one;with_reducible repeat' (first|refine an ?_|refine dO h λw h=> ?_|fail)
 exact hk _ (bi (q:={q with px:=mt gw .sU,KS:=u}) (by exact{hq with cM:=rfl,home:=hv}) h)
theorem az2{kk:Kn}{u:Value}(hq:q.Ok aa gw W)(h:wX w0 w l aa gw G W R sp st sw q)(hb:(b,[pt gw])∈q.B)(hy:aa[y]?=some a')(hcb:(c,[pt a'])∈q.B)(hv:Rp aa gw q.B kk u)(hdb:(d,[u])∈q.B)(ht:G.ts[y]?=some tt)(hk:Fin w0 l aa gw R k (G,W.G6 tt.id kk)):fy ⟨b,0,none⟩ ⟨c,0,none⟩ ⟨d,0,none⟩ w k:=by
 unfold fy vh;obtain⟨hp,so,sc,h⟩:=nU h hy ht;with_reducible repeat' (first|refine an ?_|refine aF h λw h=> ?_|refine cS h ?_|refine Eo h hb ?_|refine Eo h hcb ?_|refine fzV h hdb ?_|fail)
 exact amy hq (oQ hp h) hv hk
theorem az3{kk:Kn}{u:Value}{z:Int}(hq:q.Ok aa gw W)(h:wX w0 w l aa gw G W R sp st sw q)(hb:(b,[pt gw])∈q.B)(hcb:(c,[.int .i64 z])∈q.B)(hv:Rp aa gw q.B kk u)(hdb:(d,[u])∈q.B)(hk:Fin w0 l aa gw R k (G,W.G6 z kk)):fB ⟨b,0,none⟩ ⟨c,0,none⟩ ⟨d,0,none⟩ w k:=by
 unfold fB vj;refine Eo h hb (fzI h hcb (fzV h hdb ?_));exact amy hq h hv hk
theorem ah8{z:Int}(h:qE w0 w l aa gw G W R)(hk:Fin w0 l aa gw R k (Bp G W z)):cO (some ⟨gw,0,none⟩) z w k:=by
 obtain⟨sp,st,sw,q,hq,h⟩:=dN h;unfold cO xT;have hv:=hq.again.one;with_reducible repeat' (first|refine an ?_|refine pC h ?_|refine lW h ?_|refine qY h λw h=> ?_|refine av h λgx w h=> ?_|fail)
 obtain⟨gd,lS⟩:∃n,n=gx:=⟨_,rfl⟩;subst lS;obtain⟨gc,lS⟩:∃n,n=gx:=⟨_,rfl⟩;subst lS;obtain⟨gb,lS⟩:∃n,n=gx:=⟨_,rfl⟩;subst lS;have h:=qm h;have h:=qm h;have h:=qm h;have hm:∀p∈q.B,p∈q.B++[(gd,[q.yU])] ++[(gc,[.int .i64 z])] ++[(gb,[pt gw])]:=λp hp=>List.mem_append_left _ (List.mem_append_left _ (List.mem_append_left _ hp));exact Z5 (kk:= .Bq z W.again) (q:={q with B:=q.B++[(gd,[q.yU])] ++[(gc,[.int .i64 z])] ++[(gb,[pt gw])]}) (hq.box hm) h ⟨gb,gc,gd,q.yU,bc,bc,hq.again.box hm,bc,rfl⟩ hk
theorem as3(h:qE w0 w l aa gw G W R)(hs:W.stack=x::s')(ht:G.ts[x]?=some t)(hM:G.M.OK)(hty:W.target=some y)(L5:G.ts[y]?=some tt)(hc:G.M.can W.id (tt.jC+0)=true)(ho:t.cD≠ [])(hk:Fin w0 l aa gw R k (asked G W t tt y)):fT (some ⟨gw,0,none⟩) w k:=by
 obtain⟨sp,st,sw,q,hq,h⟩:=dN h;have hl:=xj h;obtain⟨a,vs,ha,hst,hvs⟩:=mY hq hs;obtain⟨a',hy,hpt⟩:∃a',aa[y]?=some a'∧q.On=some ⟨a',0,none⟩:=by have:=hq.target;rw[hty]at this;exact this
 unfold fT yu;unfold asked at hk;have hv:=hq.again.one;with_reducible repeat' (first|refine an ?_|refine aF h λw h=> ?_|refine da h ?_|refine lW h ?_|refine av h λgx w h=> ?_|fail)
 obtain⟨gb,lS⟩:∃n,n=gx:=⟨_,rfl⟩;subst lS;rw[hpt];have h:=h.fr 10;obtain⟨so,sc,h⟩:=sG h hy L5;with_reducible repeat' (first|refine an ?_|refine da h ?_|refine cS h ?_|refine lW h ?_|refine mH h ?_|fail)
 refine ant (M:=G.M) h hM hc λw h=> ?_;have h:=pW hl hy L5 h;have h:=h.bk 10;with_reducible repeat' (first|refine an ?_|refine da h ?_|refine lW h ?_|refine qY h λw h=> ?_|refine av h λgx w h=> ?_|refine fE ?_|refine lT ?_|fail)
 obtain⟨gc,lS⟩:∃n,n=gx:=⟨_,rfl⟩;subst lS;rw[hpt]at h;dsimp only at hk;refine ay (λhb=> ?_) λhb=> ?_
 ·rw[if_pos (by simpa using hb)]at hk
  with_reducible repeat' (first|refine an ?_|refine pC h ?_|refine lW h ?_|refine qY h λw h=> ?_|refine av h λgx w h=> ?_|fail)
  obtain⟨gd,lS⟩:∃n,n=gx:=⟨_,rfl⟩;subst lS;have h:=qm h;have h:=qm h;have h:=qm h;have hm:∀p∈q.B,p∈q.B++[(gd,[q.yU])] ++[(gc,[pt a'])] ++[(gb,[pt gw])]:=λp hp=>List.mem_append_left _ (List.mem_append_left _ (List.mem_append_left _ hp));exact Z5 (G:=G.tick W.id) (kk:= .U7 y W.again) (q:={q with B:=q.B++[(gd,[q.yU])] ++[(gc,[pt a'])] ++[(gb,[pt gw])]}) (hq.box hm) h ⟨gb,gc,gd,a',q.yU,bc,hy,bc,hq.again.box hm,bc,rfl⟩ hk
 rw[if_neg (by simpa using hb)]at hk
 refine ay (λhb=> ?_) λhb=> ?_
 ·rw[if_pos (by simpa using hb)]at hk
  with_reducible repeat' (first|refine aF h λw h=> ?_|refine lW h ?_|fail)
  refine lu h hst vw λw h=> ?_;have h:=h.fr 11;obtain⟨so,sc,h⟩:=sG h ha ht;with_reducible repeat' (first|refine an ?_|refine j5 h ?_|refine mJ h ?_|fail)
  cases hop:t.cD with
  |nil=>exact(ho hop).elim
  |cons m o=>
   rw[hop]at hk;refine rI (sz:=2) (s:=so) (es:=t.cD.map Ay) h fY (e:=Ay m) (j:=1) (by rw[hop];rfl) rfl ?_
   have h:=pW hl ha ht h;have h:=h.bk 11;unfold dF;with_reducible repeat' (first|refine an ?_|refine dO h λw h=> ?_|fail)
   have h:=(h.rm 0 rfl).rm 0 rfl;exact hk _ (bi (G:=G.tick W.id) (q:={q with px:=mt gw .tO,Ic:=mt gw .vu}) (by exact{hq with cM:=rfl,dA:=rfl}) h)
 ·rw[if_neg (by simpa using hb)]at hk
  with_reducible repeat' (first|refine an ?_|refine lW h ?_|refine dO h λw h=> ?_|fail)
  have h:=h.Ek 0;have h:=qm h;exact Z5 (G:=G.tick W.id) (W:={W with kind:=G.M.get (tt.jC+0)}) (kk:= .c .HY) (q:={q with B:=q.B++[(gb,[pt gw])]}) (by exact{JU (g:=gb) (cs:=[pt gw]) hq with}) h ⟨gb,bc,rfl⟩ hk
end
section
variable {w0 w:World} {L R:List HP} {l:Lc} {P:List dH} {aa:List Nat} {G:Gl} {gw b c d x y a a':Nat} {W:Wk} {k:Unit→aq} {sp st sw so sc:Sl} {q:Wq} {f:HP→List HP} {t t' tt:Tk} {s':List Nat} {vs:List Value} {i:List Int} {nd:Nd} {p:Pl}
theorem amz(h:qE w0 w l aa gw G W R)(hs:W.stack=x::s')(ht:G.ts[x]?=some t)(hk:Fin w0 l aa gw R k (vu G W t)):cm (some ⟨gw,0,none⟩) w k:=by
 obtain⟨sp,st,sw,q,hq,h⟩:=dN h;obtain⟨a,vs,ha,hst,hvs⟩:=mY hq hs;obtain⟨hp,so,sc,h⟩:=nU h ha ht;unfold cm zA;unfold vu at hk;with_reducible repeat' (first|refine av h λgx w h=> ?_|fail)
 obtain⟨gb,lS⟩:∃n,n=gx:=⟨_,rfl⟩;subst lS;refine bS (fun(x2:Addr×Addr) w=> ∃g1 g2,x2=(⟨g1,0,none⟩,⟨g2,0,none⟩)∧St w0 w (ax g1 [.int .i64 t.id]::ax g2 [.pointer q.On]::ax gb [pt gw]::TL l aa gw G W R sp st sw q x a t so sc)) (λJ hJ=> ?_) ?_
 ·with_reducible repeat' (first|refine an ?_|refine aF h λw h=> ?_|refine da h ?_|refine lW h ?_|refine av h λgx w h=> ?_|refine ja h ?_|refine mJ h ?_|refine fX ?_ ?_|fail)
  ·refine lu h hst vw λw h=> ?_;with_reducible repeat' (first|refine an ?_|refine cS h ?_|refine qY h λw h=> ?_|refine av h λgx w h=> ?_|refine ja h ?_|refine mJ h ?_|refine fX ?_ ?_|fail)
   ·exact hJ _ _ ⟨_,_,rfl,h.swap⟩
   ·exact hJ _ _ ⟨_,_,rfl,h⟩
  ·refine lu h hst vw λw h=> ?_;with_reducible repeat' (first|refine an ?_|refine cS h ?_|refine qY h λw h=> ?_|refine av h λgx w h=> ?_|refine ja h ?_|refine mJ h ?_|fail)
   exact hJ _ _ ⟨_,_,rfl,h.swap⟩
  ·refine lu h hst vw λw h=> ?_;with_reducible repeat' (first|refine an ?_|refine cS h ?_|refine qY h λw h=> ?_|refine ja h ?_|refine mJ h ?_|fail)
   exact hJ _ _ ⟨_,_,rfl,h.swap⟩
  ·refine lu h hst vw λw h=> ?_;with_reducible repeat' (first|refine an ?_|refine cS h ?_|refine qY h λw h=> ?_|refine av h λgx w h=> ?_|refine ja h ?_|refine mJ h ?_|fail)
   exact hJ _ _ ⟨_,_,rfl,h⟩
  ·refine lu h hst vw λw h=> ?_;with_reducible repeat' (first|refine an ?_|refine cS h ?_|refine qY h λw h=> ?_|refine ja h ?_|refine mJ h ?_|fail)
   exact hJ _ _ ⟨_,_,rfl,h⟩
 clear h;rintro _ w ⟨g1,g2,rfl,h⟩;unfold di;with_reducible repeat' (first|refine an ?_|refine lW h ?_|refine dO h λw h=> ?_|fail)
 have h:=qm h;have h:=qm h;have h:=qm h;have hm:∀p∈q.B,p∈q.B++[(g1,[.int .i64 t.id])] ++[(g2,[.pointer q.On])] ++[(gb,[pt gw])]:=λp hp=>List.mem_append_left _ (List.mem_append_left _ (List.mem_append_left _ hp));exact hk _ (bi (q:={q with px:=mt gw .others,Yf:= .func (.func lR) #[] #[pt gb,pt g1,pt g2],ahS:=mt gw .Bp,Yg:=mt gw .nothing,B:=q.B++[(g1,[.int .i64 t.id])] ++[(g2,[.pointer q.On])] ++[(gb,[pt gw])]})
  (by exact{hq.box hm with cM:=rfl,fits:=⟨gb,g1,g2,q.On,bc,bc,bc,by have h9:=hq.target;revert h9;cases W.target<;>exact λh=>h,rfl⟩,got:=rfl,none_:=rfl}) (oQ hp h))
theorem as4{p:Option Addr}{c:Value→aq}(h:cm p w λ_ w=>c (.tuple #[]) w):zB [.pointer p] w c:=h
theorem aoh{p:Addr}{c:Value→aq}(h:cN p w λ_ w=>c (.tuple #[]) w):we [.pointer (some p)] w c:=h
theorem ab6{bX:eb}{c:Value→aq}(hd:W.dA= .m .vu∨W.dA= .c .Cs)(e1:∀args w c,bX (.func j9) args w c=zB args.toList w c)(e2:∀args w c,bX (.func j8) args w c=we args.toList w c)
  (hq:q.Ok aa gw W) (h:wX w0 w l aa gw G W R sp st sw q) (hs:W.stack=x::s') (ht:G.ts[x]?=some t) (hk:Fin w0 l aa gw R (λ_ w=>c (.tuple #[]) w) (dA G W t)):m5 bX q.Ic #[] w c:=by
 unfold dA at hk;have hv:=hq.dA;rcases hd with hd|hd
 ·rw[hd]at hk hv;obtain hv:q.Ic=mt gw .vu:=hv;rw[hv];rw[if_pos rfl]at hk;refine bU (d:=zB) e1 (as4 ?_);exact amz (bi hq h) hs ht hk
 ·rw[hd]at hk hv;obtain⟨b,hb,hv⟩:=hv;rw[hv];rw[if_neg fY]at hk;refine bU (d:=we) e2 (aoh ?_);exact asR hq h hb hk
theorem aoi(h:qE w0 w l aa gw G W R)(hs:W.stack=x::s')(ht:G.ts[x]?=some t)(hd:W.dA= .m .vu∨W.dA= .c .Cs)(hA:yY W.dq)(hc:G.M.can W.id (W.dq+1)=true)(hk:Fin w0 l aa gw R k (tO l G W t)):fm (some ⟨gw,0,none⟩) w k:=by
 obtain⟨sp,st,sw,q,hq,h⟩:=dN h;unfold fm wM;unfold tO at hk;dsimp only at hk;with_reducible repeat' (first|refine an ?_|refine aF h λw h=> ?_|refine da h ?_|refine cS h ?_|refine lW h ?_|refine mH h ?_|refine av h λgx w h=> ?_|fail)
 obtain⟨gb,lS⟩:∃n,n=gx:=⟨_,rfl⟩;subst lS;refine UY (M:=G.M) h hA hc λw h=> ?_;with_reducible repeat' (first|refine an ?_|refine da h ?_|refine cS h ?_|refine lW h ?_|refine fE ?_|refine lT ?_|fail)
 refine ay (λhb=> ?_) λhb=> ?_
 ·rw[if_pos (of_decide_eq_true hb)]at hk;with_reducible repeat' (first|refine an ?_|refine pC h ?_|refine lW h ?_|fail)
  have h:=h.Ek 0;exact ab6 (G:=G.tick W.id) hd (λ_ _ _=>rfl) (λ_ _ _=>rfl) hq h hs ht hk
 ·rw[if_neg (of_decide_eq_false hb)]at hk;with_reducible repeat' (first|refine an ?_|refine aF h λw h=> ?_|refine lW h ?_|refine mH h ?_|fail)
  refine aru h λgo w h=> ?_;have h:=AD (K:=mX (uq q.go)) h;with_reducible repeat' (first|refine mJ h ?_|fail)
  unfold bl;with_reducible repeat' (first|refine an ?_|refine dO h λw h=> ?_|fail)
  have h:=qm h;exact hk w (bi (G:=G.tick W.id) (q:={q with go:=go,px:=mt gw .pn,JT:=ct gb .sH,B:=q.B++[(gb,[pt gw])]}) (by exact{JU (g:=gb) (cs:=[pt gw]) hq with cM:=rfl,after:=⟨gb,bc,rfl⟩}) h)
theorem akx{CV:Int}(hq:q.Ok aa gw W)(h:wX w0 w l aa gw G W R sp st sw q)(hb:(b,[pt gw])∈q.B)(ho:W.op.isSome=true)(hs:W.stack=x::s')(ht:G.ts[x]?=some t)(hd:W.dA= .m .vu∨W.dA= .c .Cs)(hk:Fin w0 l aa gw R k (sH G W t CV)):eP CV ⟨b,0,none⟩ w k:=by
 unfold eP ue;unfold sH at hk;refine ay (λhb'=> ?_) λhb'=> ?_
 ·rw[if_pos (by simpa using hb')]at hk
  with_reducible repeat' (first|refine an ?_|refine pC h ?_|refine Eo h hb ?_|fail)
  exact ab6 hd (λ_ _ _=>rfl) (λ_ _ _=>rfl) hq h hs ht hk
 ·rw[if_neg (by simpa using hb')]at hk
  with_reducible repeat' (first|refine an ?_|refine aF h λw h=> ?_|refine da h ?_|refine Eo h hb ?_|fail)
  refine af7 h ho ?_;with_reducible repeat' (first|refine cP ?_|fail)
  exact ah8 (bi hq h) hk
theorem aky(h:qE w0 w l aa gw G W R)(hs:W.stack=x::s')(ht:G.ts[x]?=some t)(ho:t.cD≠ [])(hM:G.M.OK)(hsc:oc G.C t.ku.1=some nd)(hc:G.M.can W.id (nd.at_+1)=true)(hk:Fin w0 l aa gw R k (rT G W t nd)):eI (some ⟨gw,0,none⟩) w k:=by
 obtain⟨o,m,wY⟩:∃o m,t.cD=o++[m]:=⟨_,_,(List.dropLast_concat_getLast ho).symm⟩;obtain⟨sp,st,sw,q,hq,h⟩:=dN h;have hl:=xj h;obtain⟨a,vs,ha,hst,hvs⟩:=mY hq hs;unfold eI vf;unfold rT at hk;rw[BY wY]at hsc;have hv:=hq.pT.one;with_reducible repeat' (first|refine an ?_|refine aF h λw h=> ?_|refine da h ?_|refine cS h ?_|fail)
 refine lu h hst vw λw h=> ?_;have h:=h.fr 9;obtain⟨so,sc,h⟩:=sG h ha ht;with_reducible repeat' (first|refine ja h ?_|fail)
 refine BK h wY λw h=> ?_;have h:=pW hl ha ht h;have h:=h.bk 9;with_reducible repeat' (first|refine ja h ?_|fail)
 refine ptI (by rfl) ?_
 refine avH (C:=G.C) (M:=G.M) h hsc hc hM λw h=> ?_;with_reducible repeat' (first|refine an ?_|refine da h ?_|refine fE ?_|refine lT ?_|fail)
 refine ay (λhb=> ?_) λhb=> ?_
 ·rw[if_pos (by simpa using hb)]at hk
  with_reducible repeat' (first|refine an ?_|refine pC h ?_|fail)
  exact Z5 (G:=G.tick W.id) hq h hq.pT hk
 ·rw[if_neg (by simpa using hb)]at hk
  exact amz (bi (G:=G.tick W.id) hq h) hs ht hk
end
def Gl.vp(G:Gl)(y:Nat):Int:=match G.ts[y]? with|some t=>t.id|none=>0
def Gl.Vd(G:Gl)(y:Nat):Int:=match G.ts[y]? with|some t=>t.jC|none=>0
section
variable {w0 w:World} {L R:List HP} {l:Lc} {P:List dH} {aa:List Nat} {G:Gl} {gw b c d x y a a':Nat} {W:Wk} {k:Unit→aq} {sp st sw so sc:Sl} {q:Wq} {f:HP→List HP} {t t' tt:Tk} {s':List Nat} {vs:List Value} {i:List Int} {nd:Nd} {p:Pl}
theorem Yo(hq:q.Ok aa gw W)(hty:W.target=some y):∃a',aa[y]?=some a'∧q.On=some ⟨a',0,none⟩:=by have:=hq.target;rw[hty]at this;exact this
theorem awE(hq:q.Ok aa gw W):(eL q.On)=(eL W.target):=by
 have:=hq.target;revert this;cases W.target with
 |none=>intro h;rw[h];rfl
 |some x=>rintro⟨a,_,h⟩;rw[h];rfl
theorem akz(h:qE w0 w l aa gw G W R)(hh:W.wait.how=1)(hk:Fin w0 l aa gw R k (nothing G W)):fu (some ⟨gw,0,none⟩) w k:=by
 obtain⟨sp,st,sw,q,hq,h⟩:=dN h;unfold fu uY;unfold nothing at hk;have hv:=hq.again.one;with_reducible repeat' (first|refine an ?_|refine uL h ?_|fail)
 refine ay (λhb=> ?_) λhb=> ?_
 ·rw[if_pos hb]at hk;with_reducible repeat' (first|refine an ?_|refine pC h ?_|refine dO h λw h=> ?_|fail)
  exact hk _ (bi (q:={q with px:=q.yU}) (by exact{hq with cM:=hq.again}) h)
 rw[if_neg (by rw[hb];simp)]at hk
 refine bS (λb w'=>b=(W.target.isSome&& !W.bH)∧w'=w) (λJ hJ=> ?_) ?_
 ·with_reducible repeat' (first|refine an ?_|refine da h ?_|fail)
  rw[awE hq];refine ay (λhb=> ?_) λhb=> ?_
  ·with_reducible repeat' (first|refine an ?_|refine uL h ?_|fail)
   refine hJ _ _ ⟨?_,rfl⟩;cases ht:W.target with
   |none=>rw[ht]at hb;cases hb
   |some y=>rfl
  ·refine hJ _ _ ⟨?_,rfl⟩;cases ht:W.target with
   |none=>rfl
   |some y=>rw[ht]at hb;cases hb
 rintro _ _ ⟨rfl,rfl⟩;refine ay (λhb=> ?_) λhb=> ?_
 ·rw[if_pos hb]at hk;with_reducible repeat' (first|refine an ?_|refine dO h λw h=> ?_|fail)
  exact hk _ (bi (q:={q with px:=mt gw .register}) (by exact{hq with cM:=rfl}) h)
 rw[if_neg (by rw[hb];simp)]at hk
 with_reducible repeat' (first|refine an ?_|refine uL h ?_|fail)
 refine ay (λhb=> ?_) λhb=> ?_
 ·rw[if_neg (by simpa using hb)]at hk
  with_reducible repeat' (first|refine an ?_|refine da h ?_|refine mH h ?_|fail)
  refine arG (s:=l.sp) h λgp w h=> ?_;have h:=AD (K:=mX (λo:jI=>ax q.gp (o.cells l.sp q.gp))) h;with_reducible repeat' (first|refine an ?_|refine dO h λw h=> ?_|fail)
  exact hk _ (bi (q:={q with px:=mt gw .block,gp:=gp}) (by exact{hq with cM:=rfl}) h)
 ·rw[if_pos (by simpa using hb)]at hk
  with_reducible repeat' (first|refine an ?_|refine aF h λw h=> ?_|refine da h ?_|fail)
  refine alZ (x:=W.wait) h λw h=> ?_;rw[if_pos hh];rw[if_pos hh]at h;with_reducible repeat' (first|refine an ?_|refine dO h λw h=> ?_|refine ja h ?_|refine nJ ?_|refine lT ?_|fail)
  exact hk _ (bi (q:={q with px:=mt gw .HJ}) (by exact{hq with cM:=rfl}) h)
theorem aia(h:qE w0 w l aa gw G W R)(hty:W.target=some y)(L5:G.ts[y]?=some tt)(hM:G.M.OK)(hw:0≤W.id∧W.id≤16)(hc:G.M.can W.id (tt.jC+2)=true)(hk:Fin w0 l aa gw R k (register G W tt)):ec (some ⟨gw,0,none⟩) w k:=by
 obtain⟨sp,st,sw,q,hq,h⟩:=dN h;have hl:=xj h;obtain⟨a',hy,hpt⟩:=Yo hq hty;unfold ec uj;have hv:=hq.again.one;with_reducible repeat' (first|refine an ?_|refine aF h λw h=> ?_|refine da h ?_|fail)
 rw[hpt];have h:=h.fr 9;obtain⟨so,sc,h⟩:=sG h hy L5;with_reducible repeat' (first|refine an ?_|refine da h ?_|refine cS h ?_|refine mH h ?_|fail)
 refine arl (M:=G.M) h hM hw hc λw h=> ?_;have h:=pW hl hy L5 h;have h:=h.bk 9;with_reducible repeat' (first|refine an ?_|refine pC h ?_|refine dO h λw h=> ?_|refine ja h ?_|refine nJ ?_|refine lT ?_|fail)
 exact hk _ (bi (G:=G.mem (G.M.ad W.id (tt.jC+2) (bit W.id 1))) (q:={q with px:=q.yU}) (by exact{hq with cM:=hq.again}) h)
theorem as5{o:jI}(h:qE w0 w l aa gw G W R)(hT:TZ w0)(hs:l.sp.OK)(hM:G.M.OK)(ho:W.step=some o)(hf:o.Gu l.sp G.M W.id)(hk:Fin w0 l aa gw R k (block l G W o)):fU (some ⟨gw,0,none⟩) w k:=by
 obtain⟨id,dq,wait,stack,back,cM,op,after,look,seen,step,left,late,fits,got,none_,jk,home,target,kind,bH,blocked,again,po,mark,dA,own,said,bits,pT⟩:=W;dsimp only at ho;subst ho;obtain⟨sp,st,sw,q,hq,h⟩:=dN h;unfold fU yC;unfold block at hk;dsimp only[mX]at h;have hv:=hq.again.one;with_reducible repeat' (first|refine an ?_|refine aF h λw h=> ?_|refine da h ?_|refine cS h ?_|fail)
 have h:=h.fr 1;have h:=h.fr 17;refine X6 (s:=l.sp) (M:=G.M) (o:=o) h hT hs hM hf λw h=> ?_;have h:=h.bk 17;have h:=h.bk 1;generalize o.go l.sp G.M id=r at h hk ⊢;with_reducible repeat' (first|refine an ?_|refine da h ?_|refine lT ?_|fail)
 refine ay (λhb=> ?_) λhb=> ?_
 ·have hb:r.1.next=0:=by simpa using hb
  simp only[if_pos hb]at hk;with_reducible repeat' (first|refine an ?_|refine pC h ?_|refine dO h λw h=> ?_|fail)
  exact hk _ (bi (G:=G.mem r.2) (q:={q with px:=q.yU}) (by exact{hq with cM:=hq.again}) h)
 ·have hb:¬r.1.next=0:=by simpa using hb
  simp only[if_neg hb]at hk;exact hk _ (bi (G:=G.mem r.2) (q:=q) (by exact{hq with}) h)
theorem as6{p r:Addr}{c:Value→aq}(h:cu p r w λ_ w=>c (.tuple #[]) w):oO [.pointer (some p),.pointer (some r)] w c:=h
theorem as7{p r:Addr}{c:Value→aq}(h:cG p r w λ_ w=>c (.tuple #[]) w):pM [.pointer (some p),.pointer (some r)] w c:=h
def aeh(G:Gl)(W:Wk)(t:Tk):Prop:=match W.again with
 | .aw y=>True
 | .sh k=>t.cD≠ []
 |_=>False
theorem as8{bX:eb}{c:Value→aq}(hd:aeh G W t)(e1:∀args w c,bX (.func eJ) args w c=oO args.toList w c)(e2:∀args w c,bX (.func fG) args w c=pM args.toList w c)
  (hq:q.Ok aa gw W) (h:wX w0 w l aa gw G W R sp st sw q) (hs:W.stack=x::s') (ht:G.ts[x]?=some t) (hc:G.M.can W.id l.told=true) (hsc:oc G.C t.lX=some nd) (hk:Fin w0 l aa gw R (λ_ w=>c (.tuple #[]) w) (again l G W t)):m5 bX q.yU #[] w c:=by
 unfold again at hk;unfold aeh at hd;have hv:=hq.again;revert hd hk hv;cases hag:W.again<;>intro hd hk hv<;>first|exact hd.elim|skip
 ·rename_i y;obtain⟨b,c',a',hb,hy,Ei,hv⟩:=hv;rw[hv];refine bU (d:=oO) e1 (as6 ?_);exact ayf hq h hb Ei hs ht hy hc hsc hk
 ·rename_i kk;obtain⟨b,c',u,hb,hu,Ei,hv⟩:=hv;rw[hv];refine bU (d:=pM) e2 (as7 ?_);exact ayg hq h hb Ei hu hs ht hd hk
theorem awF(h:qE w0 w l aa gw G W R)(hs:W.stack=x::s')(ht:G.ts[x]?=some t)(hd:aeh G W t)(hc:G.M.can W.id l.told=true)(hsc:oc G.C t.lX=some nd)(hk:Fin w0 l aa gw R k (HJ l G W t)):gZ (some ⟨gw,0,none⟩) w k:=by
 obtain⟨sp,st,sw,q,hq,h⟩:=dN h;unfold gZ Ae;unfold HJ at hk;with_reducible repeat' (first|refine an ?_|refine da h ?_|fail)
 refine adU (x:=W.wait) h λw h=> ?_;with_reducible repeat' (first|refine an ?_|refine pC h ?_|fail)
 exact as8 (W:={W with wait:=⟨0,W.wait.seen⟩}) hd (λ_ _ _=>rfl) (λ_ _ _=>rfl) (by exact{hq with}) h hs ht hc hsc hk
end
open Fr (Ax nu dQ eB dc iB jj nR oT qv kr qi pR pS pQ)
section
variable {w0 w:World} {L R:List HP} {l:Lc} {P:List dH} {aa:List Nat} {G:Gl} {gw b c d x y a a':Nat} {W:Wk} {k:Unit→aq} {sp st sw so sc:Sl} {q:Wq} {f:HP→List HP} {t t' tt:Tk} {s':List Nat} {vs:List Value} {i:List Int} {nd:Nd} {p:Pl}
theorem adg{p:Option Addr}{c:Value→aq}(h:bw p w λ_ w=>c (.tuple #[]) w):AH [.pointer p] w c:=h
theorem awG{p r s:Addr}{c:Value→aq}(h:fy p r s w λ_ w=>c (.tuple #[]) w):CE [.pointer (some p),.pointer (some r),.pointer (some s)] w c:=h
theorem awH{p r s:Addr}{c:Value→aq}(h:fB p r s w λ_ w=>c (.tuple #[]) w):CG [.pointer (some p),.pointer (some r),.pointer (some s)] w c:=h
theorem akA{p:Addr}{c:Value→aq}(h:fA p w λ_ w=>c (.tuple #[]) w):CF [.pointer (some p)] w c:=h
theorem akB{p:Addr}{c:Value→aq}(h:fC p w λ_ w=>c (.tuple #[]) w):CH [.pointer (some p)] w c:=h
theorem aib{p:Addr}{c:Value→aq}(h:eS p w λ_ w=>c (.tuple #[]) w):BG [.pointer (some p)] w c:=h
def amA(G:Gl)(W:Wk)(t:Tk):Prop:=match W.po with
 | .m .cancelled=>True
 | .U7 y _=>y<G.ts.length
 | .Bq _ _=>True
 | .c .HY=>True
 | .c .BW=>True
 | .c .qw=>t.cD≠ []∧Dr G t.ku.1
 |_=>False
theorem as9(h:qE w0 w l aa gw G W R)(hT:TZ w0)(hs:W.stack=x::s')(ht:G.ts[x]?=some t)(hsp:l.sp.OK)(hM:G.M.OK)(hw:0≤W.id∧W.id≤16)
  (h1:W.blocked=true→(W.step.getD (jI.CT 0 2)).Gu l.sp G.M W.id)
  (h2:W.blocked=false→W.bH=true→∃y tt,W.target=some y∧G.ts[y]?=some tt∧G.M.can W.id (tt.jC+2)=true)
  (h3:W.blocked=false→W.bH=false→amA G W t) (hk:Fin w0 l aa gw R k (stops l G W x t G.vp G.Vd)):fV (some ⟨gw,0,none⟩) w k:=by
 obtain⟨id,dq,wait,stack,back,cM,op,after,look,seen,step,left,late,fits,got,none_,jk,home,target,kind,bH,blocked,again,CO,mark,dA,own,said,bits,pT⟩:=W;obtain⟨sp,st,sw,q,hq,h⟩:=dN h;have hl:=xj h;unfold fV yE;unfold stops at hk;dsimp only at h1 h2 h3 hw hs hk;with_reducible repeat' (first|refine an ?_|refine uL h ?_|fail)
 cases blocked
 ·refine bh rfl ?_;rw[if_neg fY]at hk;with_reducible repeat' (first|refine an ?_|refine uL h ?_|fail)
  cases bH
  ·refine bh rfl ?_;rw[if_neg fY]at hk;with_reducible repeat' (first|refine an ?_|refine pC h ?_|fail)
   replace h3:=h3 rfl rfl;unfold amA at h3;unfold po at hk;have hv:=hq.po;clear h1 h2;cases CO with
   |m f=>
    have hfc:f= .cancelled:=by cases f<;>first|rfl|exact h3.elim
    subst hfc;obtain hv:q.L2=mt gw .cancelled:=hv;rw[hv];refine bU (d:=AH) (λ_ _ _=>rfl) (adg ?_);exact NX (bi hq h) hs ht hk
   |U7 y kk=>
    obtain⟨b,c',d',a',u,hb,hy,Ei,hu,oD,hv⟩:=hv;rw[hv];refine bU (d:=CE) (λ_ _ _=>rfl) (awG ?_);have h3:y<G.ts.length:=h3;have L5:G.ts[y]?=some (G.ts[y]'h3):=j4 h3;refine az2 (kk:=kk) (tt:=G.ts[y]'h3) hq h hb hy Ei hu oD L5 ?_;have e:G.vp y=(G.ts[y]'h3).id:=by unfold Gl.vp;rw[L5]
    rw[←e];exact hk
   |Bq y kk=>
    obtain⟨b,c',d',u,hb,Ei,hu,oD,hv⟩:=hv;rw[hv];refine bU (d:=CG) (λ_ _ _=>rfl) (awH ?_);exact az3 (kk:=kk) hq h hb Ei hu oD hk
   |c f=>
    obtain⟨b,hb,hv⟩:=hv;rw[hv];cases f<;>first|exact h3.elim|skip
    ·refine bU (d:=CF) (λ_ _ _=>rfl) (akA ?_);exact aob hq h hb hk
    ·refine bU (d:=CH) (λ_ _ _=>rfl) (akB ?_);exact aoa hq h hb hk
    ·refine bU (d:=BG) (λ_ _ _=>rfl) (aib ?_);exact akw (o:=[]) (m:=(0,0)) hq h hb hs ht h3.1 h3.2 hk
   |no=>exact h3.elim
   |any=>exact h3.elim
   |nx i=>exact h3.elim
   |aw y=>exact h3.elim
   |sh kk=>exact h3.elim
   |hl m z=>exact h3.elim
  ·refine bO rfl ?_;rw[if_pos rfl]at hk;obtain⟨y,tt,hty,L5,hc⟩:=h2 rfl rfl;obtain⟨a',hy,hpt⟩:=Yo hq hty;with_reducible repeat' (first|refine an ?_|refine aF h λw h=> ?_|refine da h ?_|fail)
   rw[hpt];have h:=h.fr 9;obtain⟨so,sc,h⟩:=sG h hy L5;with_reducible repeat' (first|refine an ?_|refine da h ?_|refine cS h ?_|refine mH h ?_|fail)
   refine anw (M:=G.M) h hM hw hc λw h=> ?_;have h:=pW hl hy L5 h;have h:=h.bk 9;with_reducible repeat' (first|refine an ?_|refine dO h λw h=> ?_|refine ja h ?_|refine nJ ?_|refine lT ?_|fail)
   have e:G.Vd (target.getD 0)=tt.jC:=by
    have hty:target=some y:=hty;unfold Gl.Vd;rw[hty,Option.getD_some,L5]
   rw[e]at hk;exact hk _ (bi (G:=G.mem (G.M.ad id (tt.jC+2) (bit id (-1)))) (q:=q) (by exact{hq with}) h)
 ·refine bO rfl ?_;rw[if_pos rfl]at hk;replace h1:=h1 rfl;with_reducible repeat' (first|refine an ?_|refine da h ?_|fail)
  refine bS (fun(_:Unit) w=> ∃gp,wX w0 w l aa gw G ⟨id,dq,wait,stack,back,cM,op,after,look,seen,some (step.getD (jI.CT 0 2)),left,late,fits,got,none_,jk,home,target,kind,bH,true,again,CO,mark,dA,own,said,bits,pT⟩ R sp st sw {q with gp:=gp}) (λJ hJ=> ?_) ?_
  ·cases step with
   |none=>
    refine bO rfl ?_;with_reducible repeat' (first|refine an ?_|refine da h ?_|refine mH h ?_|fail)
    refine anJ (s:=l.sp) h λgp w h=> ?_;have h:=AD (K:=mX (λo:jI=>ax q.gp (o.cells l.sp q.gp))) h;with_reducible repeat' (first|refine an ?_|refine dO h λw h=> ?_|fail)
    exact hJ _ _ ⟨gp,h⟩
   |some o=>
    refine bh rfl ?_;exact hJ _ _ ⟨q.gp,h⟩
  clear h;rintro _ w ⟨gp,h⟩;generalize step.getD (jI.CT 0 2)=o at h1 hk h;dsimp only[wX,mX]at h;with_reducible repeat' (first|refine an ?_|refine aF h λw h=> ?_|refine da h ?_|refine cS h ?_|fail)
  have h:=h.fr 1;have h:=h.fr 17;refine X6 (s:=l.sp) (M:=G.M) (o:=o) h hT hsp hM h1 λw h=> ?_;have h:=h.bk 17;have h:=h.bk 1;generalize o.go l.sp G.M id=r at h hk ⊢;with_reducible repeat' (first|refine an ?_|refine da h ?_|refine lT ?_|fail)
  refine ay (λhb=> ?_) λhb=> ?_
  ·have hb:r.1.next=0:=by simpa using hb
   simp only[if_pos hb]at hk;with_reducible repeat' (first|refine an ?_|refine dO h λw h=> ?_|fail)
   have h:=AD (K:=ax gp) (X:=mX (λo:jI=>ax gp (o.cells l.sp gp)) none) (St.shut (A:=[]) h);exact hk _ (bi (G:=G.mem r.2) (q:={q with gp:=gp}) (by exact{hq with}) h)
  ·have hb:¬r.1.next=0:=by simpa using hb
   simp only[if_neg hb]at hk;exact hk _ (bi (G:=G.mem r.2) (q:={q with gp:=gp}) (by exact{hq with}) h)
end
end Go.Proofs.YthidhjhkmjjckaaGreatDoor
