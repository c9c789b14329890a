/-
  Parts of the proof of LNil: printed by a program out of longer texts.
-/
import Derived.Test.YthidhjhkmjjckaaGreatDoorPNil3
set_option linter.unusedSimpArgs false
set_option linter.unusedVariables false
set_option maxRecDepth 100000
open List renaming getElem?_eq_some_iff→kO,getElem?_eq_getElem→kq,getD_eq_getElem?_getD→nr,getElem?_append_left→sY,getElem?_append_right→uK,getElem?_set_ne→rG,getElem?_set_self→uw,mem_of_getElem?→r0,getElem?_map→pB,eraseIdx→Iy,insertIdx_succ_cons→aAd,insertIdx_zero→aAe,replicate→dM,mem_append→B0,length_append→tW,all_eq_true→xz
open Go.Sem renaming run_pure→cO,run_bind→cQ
open Go.Result renaming andThen_ok→cJ
open Bool renaming or_eq_false_iff→j5,and_eq_true→iW
open Option renaming isNone→ej
open Go.IntKind renaming wrap→aL
open Int renaming toNat_natCast→kY
open Array renaming setIfInBounds→eM,getElem?_eq_some_iff→AO
open Nat renaming le_refl→iN
open Go.Addr renaming add→aX
namespace Go.Ev
open Go Go.RowKit
section
variable {P:Program} {w0 w:World} {L:List HP} {sz:Nat} {s:Sl} {vs:List Value} {f:HP→List HP}
def isStr(P:Program)(t:TypeId):Bool:=match P.underlying t with|some (.struct _)=>true|_=>false
theorem ako{t:TypeId}(h:isStr P t=true):∃fs,P.underlying t=some (.struct fs):=by
 unfold isStr at h;split at h
 ·exact⟨_,by assumption⟩
 ·cases h
theorem akp{c:KT []→Prop}(h:c ()):HM [] (.tuple #[]) c:=h
theorem aww{x:Array Value}{b:Bool}{c:KT [.ag,.b]→Prop}(h:c (x,b)):HM [.ag,.b] (.tuple #[.agg x,.bool b]) c:=h
theorem azZ{t xt:TypeId}{v:Value}{c:Value→aq}(hu:isStr P t=true)(hc:c (.tuple #[v,.bool true]) w):tyA P (.iface t v) xt t true w c:=by
 unfold tyA;obtain⟨fs,hu⟩:=ako hu;have hr:(Instr.typeAssert (.iface t v) xt t true).run P w= .ok (.tuple #[v,.bool true]) w:=by
  simp[Instr.typeAssert,run_underlying hu]
 rw[hr];exact hc
theorem asF{i:Int}{x:Array Value}{c:aq}(h:St w0 w L)[a:At L (bQ sz s) vs f](hsz:0<sz)(h0:0≤i)(h1:i<s.n)(hx:x.size=sz)(hone:∀v∈x,v.oneCell'=true)
  (hc:∀w',St w0 w' (f (bQ sz s (vs.take (i.toNat*sz)++(x.toList++vs.drop (i.toNat*sz+sz)))))→c w'):cW s i sz λa=>dK sz w a x c:=by
 have ho:pY sz w s vs:=h.own;have hi:i.toNat<s.n:=ah;have hlt:i.toNat*sz+sz≤s.n*sz:=by
  rw[←Nat.succ_mul];exact Nat.mul_le_mul_right _ hi
 have ayi:s.n*sz≤s.c*sz:=Nat.mul_le_mul_right _ ho.cap;have hvl:=ho.len;rcases ho.row with⟨h2,h3⟩|⟨g,off,cs,h2,h3,h4,h5⟩
 ·have:=ho.cap;omega
 ·unfold cW;rw[h2];refine⟨⟨h0,h1⟩,?_⟩;rw[c8];refine afh h3 hx ah hone λw' cs' k1 k2 k3 k4 k5 k6=>hc w' (h.Mx a λF1 hF=>⟨k5.mono λk _ hk=>(hF.1 k).2 (by simp[Sl.ax,h2,hk]),F1,⟨hF.1,?_⟩,λk hk=> .inl hk⟩)
  have qI:x.toList.length=sz:=by simpa using hx
  refine⟨by simp only[tW,List.length_take,List.length_drop,qI];omega,ho.cap,ho.max,λv hv=> ?_,.inr ⟨g,off,cs',h2,k1,ah,λk u hk=> ?_⟩⟩
  ·rcases B0.1 hv with hv|hv
   ·exact ho.one v (List.mem_of_mem_take hv)
   ·rcases B0.1 hv with hv|hv
    ·exact hone v (by simpa using hv)
    ·exact ho.one v (List.mem_of_mem_drop hv)
  ·by_cases q1:k<i.toNat*sz
   ·rw[sY (by simp;omega),List.getElem?_take_of_lt q1]at hk
    rw[k3 _ ah];exact h5 k u hk
   ·rw[uK (by simp;omega)]at hk
    simp only[List.length_take]at hk;rw[show k - min (i.toNat*sz) vs.length=k - i.toNat*sz by omega]at hk
    by_cases q2:k<i.toNat*sz+sz
    ·rw[sY ah]at hk;have:=k4 (k - i.toNat*sz) ah;rw[show off+i.toNat*sz+(k - i.toNat*sz)=off+k by omega]at this
     rw[this];simpa using hk
    ·rw[uK ah,List.getElem?_drop,qI]at hk;rw[show i.toNat*sz+sz+(k - i.toNat*sz - sz)=k by omega]at hk
     rw[k3 _ ah];exact h5 k u hk
theorem asG{i:Int}{c:Array Value→Prop}(h:St w0 w L)[a:At L (bQ sz s) vs f](hsz:0<sz)(h0:0≤i)(h1:i<s.n)
  (hc:c ((vs.drop (i.toNat*sz)).take sz).toArray):cW s i sz λa=>bG sz w a c:=by
 refine Kj h hsz h0 h1 λg o _ hr _=> ?_;have hlen:=h.FR (sz:=sz) (s:=s) (vs:=vs);have hlt:i.toNat*sz+sz≤s.n*sz:=by
  rw[←Nat.succ_mul];exact Nat.mul_le_mul_right _ ah
 have hl:((vs.drop (i.toNat*sz)).take sz).length=sz:=by simp;omega
 refine GK hl (λj v hv=> ?_) hc;have hj:j<sz:=by have:=(kO.1 hv).1;omega
 rw[List.getElem?_take_of_lt hj,List.getElem?_drop]at hv;rw[c8];exact hr h j v hj hv
end
theorem az0{P:Program}{t:TypeId}(h:Sj P t=some (1,8,some (.int .i64 0))):GI P t 1 8 (.int .i64 0):=⟨h,rfl⟩
theorem At.aCz{α:Type}{L:List HP}{k:α→HP}{x:α}{f:HP→List HP}(a:At L k x f):∃R,(∀{w0 w},St w0 w L→St w0 w (k x::R))∧(∀{X w0 w},St w0 w (X::R)→St w0 w (f X))∧∀{X Y w0 w},St w0 w (X::Y::R)→St w0 w (Y::f X):=by
 obtain⟨R,h1,h2⟩:=a.split;refine⟨R,fun⟨a,F,b,c⟩=>⟨a,F,h1 b,c⟩,fun⟨a,F,b,c⟩=>⟨a,F,h2 b,c⟩,λh=> ?_⟩;obtain⟨e,F,⟨F1,F2,k1,k2,k3,k4⟩,c⟩:=h.swap;exact⟨e,F,⟨F1,F2,k1,h2 k2,k3,k4⟩,c⟩
def agb(P:Program)(t:TypeId)(name:String):Option (Bool×Option (FuncId×Bool)):=match P.info? t with
 |some i=>match i.methods.find? λm=>m.name==name with
  |some m=>some (m.path.isEmpty,m.func)
  |none=>none
 |none=>none
theorem ab5{P:Program}{t:TypeId}{name:String}{r:Option (FuncId×Bool)}(h:agb P t name=some (true,r)):∃i m,P.info? t=some i∧(i.methods.find? λm=>m.name==name)=some m∧m.path=#[]∧m.func=r:=by
 unfold agb at h;split at h
 ·rename_i i hi;split at h
  ·rename_i m hm;simp only[Option.some.injEq,Prod.mk.injEq]at h;exact⟨i,m,hi,hm,by simpa using h.1,h.2⟩
  ·cases h
 ·cases h
end Go.Ev
namespace Go.Proofs.YthidhjhkmjjckaaGreatDoor.Ko
open Go Go.Ev Go.Proofs
def fl:DL→List Value
 |[]=>[]
 |x::d=> .int .i64 x.1:: .int .i64 x.2::fl d
theorem amB:∀d:DL,(fl d).length=d.length*2
 |[]=>rfl
 |x::d=>by simp[fl,amB d];omega
theorem amC:∀(d e:DL),fl (d++e)=fl d++fl e
 |[],e=>rfl
 |x::d,e=>by simp[fl,amC d e]
theorem ah4:∀(d:DL) (m:Nat),(fl d).take (m*2)=fl (d.take m)
 |[],m=>by simp[fl]
 |x::d,0=>by simp[fl]
 |x::d,m+1=>by
  rw[show(m+1)*2=m*2+1+1 by omega]
  simp[fl,ah4 d m]
theorem ab6{x:Int×Int}{d:DL}{k:Nat}:gd (x::d) (k+1)=gd d k:=by simp[gd]
theorem ah5:∀{d:DL} {i:Nat},i<d.length→(fl d)[i*2+0]?=some (.int .i64 (gd d i).1)
 |x::d,0,_=>rfl
 |x::d,i+1,h=>by
  rw[show(i+1)*2+0=(i*2+0)+1+1 by omega,ab6]
  simp only[fl,List.getElem?_cons_succ];exact ah5 (by simpa using h)
theorem ah6:∀{d:DL} {i:Nat},i<d.length→(fl d)[i*2+1]?=some (.int .i64 (gd d i).2)
 |x::d,0,_=>rfl
 |x::d,i+1,h=>by
  rw[show(i+1)*2+1=(i*2+1)+1+1 by omega,ab6]
  simp only[fl,List.getElem?_cons_succ];exact ah6 (by simpa using h)
theorem ah7:∀{d:DL} {i:Nat},i<d.length→((fl d).drop (i*2)).take 2=[.int .i64 (gd d i).1,.int .i64 (gd d i).2]
 |x::d,0,_=>rfl
 |x::d,i+1,h=>by
  rw[show(i+1)*2=i*2+1+1 by omega,ab6]
  simp only[fl,List.drop_succ_cons];exact ah7 (by simpa using h)
theorem amD{x:Int×Int}:∀{d:DL} {i:Nat},i<d.length→(fl d).take (i*2)++([.int .i64 x.1,.int .i64 x.2] ++(fl d).drop (i*2+2))=fl (d.set i x)
 |y::d,0,_=>by simp[fl]
 |y::d,i+1,h=>by
  rw[show(i+1)*2=i*2+1+1 by omega,show i*2+1+1+2=(i*2+2)+1+1 by omega]
  simp only[fl,List.take_succ_cons,List.drop_succ_cons,List.cons_append,List.set_cons_succ];rw[←amD (d:=d) (by simpa using h)]
  rfl
section
variable {w0 w:World} {L:List HP} {s:Sl} {d:DL} {f:HP→List HP}
theorem St.Xh(h:St w0 w L)[a:At L (bQ 2 s) (fl d) f]:s.n=d.length:=by
 have:=h.FR (sz:=2) (s:=s) (vs:=fl d);rw[amB]at this;omega
theorem Xi{i:Int}{c:Int→Prop}(h:St w0 w L)[a:At L (bQ 2 s) (fl d) f](h0:0≤i)(h1:i<d.length)(hc:c (gd d i.toNat).1):cW s i 2 λa=>aN .i64 w (aX a 0) c:=by
 have hn:=St.Xh (s:=s) (d:=d) h;refine Kj h ah h0 ah λg o _ hr _=> ?_;exact uJ (hr h 0 _ ah (ah5 ah)) hc
theorem agc{i:Int}{c:Int→Prop}(h:St w0 w L)[a:At L (bQ 2 s) (fl d) f](h0:0≤i)(h1:i<d.length)(hc:c (gd d i.toNat).2):cW s i 2 λa=>aN .i64 w (aX a 1) c:=by
 have hn:=St.Xh (s:=s) (d:=d) h;refine Kj h ah h0 ah λg o _ hr _=> ?_;rw[c8];exact uJ (hr h 1 _ ah (ah6 ah)) hc
theorem aai{i:Int}{c:Array Value→Prop}(h:St w0 w L)[a:At L (bQ 2 s) (fl d) f](h0:0≤i)(h1:i<d.length)(hc:c #[.int .i64 (gd d i.toNat).1,.int .i64 (gd d i.toNat).2]):cW s i 2 λa=>bG 2 w a c:=by
 have hn:=St.Xh (s:=s) (d:=d) h;refine asG h ah h0 ah ?_;rw[ah7 ah];exact hc
theorem amE{i:Int}{x y:Int}{c:aq}(h:St w0 w L)[a:At L (bQ 2 s) (fl d) f](h0:0≤i)(h1:i<d.length)(hc:∀w',St w0 w' (f (bQ 2 s (fl (d.set i.toNat (x,y)))))→c w'):cW s i 2 λa=>dK 2 w a #[.int .i64 x,.int .i64 y] c:=by
 have hn:=St.Xh (s:=s) (d:=d) h;refine asF h ah h0 ah rfl (by intro v hv;simp at hv;rcases hv with rfl|rfl<;>rfl) λw' h'=>hc w' ?_
 rw[←amD ah];exact h'
theorem awx{i j:Int}{c:Bool→aq}(h:St w0 w L)[a:At L (bQ 2 s) (fl d) f](hi:0≤i∧i<d.length)(hj:0≤j∧j<d.length)(hc:∀w',St w0 w' L→c (decide (ry (gd d i.toNat) (gd d j.toNat))) w'):dJ s i j w c:=by
 unfold dJ;refine aK h λw1 h=> ?_;refine Xi (d:=d) h hi.1 hi.2 ?_;refine Xi (d:=d) h hj.1 hj.2 ?_;refine aF (λhb=> ?_) λhb=> ?_
 ·have hb:=of_decide_eq_true hb;have e:ry (gd d i.toNat) (gd d j.toNat):= .inl hb;have:=hc w1 h;rwa[decide_eq_true e]at this
 ·have hb:=of_decide_eq_false hb;refine Xi (d:=d) h hi.1 hi.2 ?_;refine Xi (d:=d) h hj.1 hj.2 ?_;refine aF (λjP=> ?_) λjP=> ?_
  ·have jP:(gd d i.toNat).1=(gd d j.toNat).1:=by simpa using jP
   refine agc (d:=d) h hi.1 hi.2 ?_;refine agc (d:=d) h hj.1 hj.2 ?_;have:=hc w1 h;have e:decide (ry (gd d i.toNat) (gd d j.toNat))=decide ((gd d i.toNat).2<(gd d j.toNat).2):=by
    rw[decide_eq_decide];unfold ry;omega
   rwa[e]at this
  ·have jP:(gd d i.toNat).1≠(gd d j.toNat).1:=by simpa using jP
   have:=hc w1 h;have e:¬ry (gd d i.toNat) (gd d j.toNat):=by unfold ry;omega
   rwa[decide_eq_false e]at this
end
section
variable {w0 w:World} {R:List HP} {s:Sl} {d:DL}
theorem awy{i j:Int}{B:HP}{c:Unit→aq}(h:St w0 w (B::bQ 2 s (fl d)::R))(hi:0≤i∧i<d.length)(hj:0≤j∧j<d.length)(hc:∀w',St w0 w' (B::bQ 2 s (fl (KW d i.toNat j.toNat))::R)→c () w'):bF s i j w c:=by
 unfold bF;refine aK h λw1 h=> ?_;refine aai (d:=d) h hj.1 hj.2 ?_;refine aai (d:=d) h hi.1 hi.2 ?_;refine amE (d:=d) h hi.1 hi.2 λw2 h=> ?_;refine amE (d:=d.set i.toNat (gd d j.toNat)) h hj.1 (by simpa using hj.2) λw3 h=> ?_
 exact hc w3 h
abbrev pv(g:Nat):Value:= .iface 261 (.pointer (some ⟨g,1,none⟩))
abbrev ux(now:Int)(gm:Nat)(s:Sl):List Value:=[.int .i64 now,.slice s.a s.n s.c,.map (some gm)]
variable {g gm:Nat} {now:Int} {bZ:eb}
theorem ah8:Tryz.prog.types.size≠0:=λh=>by
 have e:Nat.beq Tryz.prog.types.size 0=false:=by kernel_rfl
 rw[h]at e;cases e
theorem ab7{name:String}{f:Nat}{args:Array Value}{c:Value→aq}(hm:agb Tryz.prog 261 name=some (true,some (f,false)))(h:St w0 w (ax g (ux now gm s)::R))(hc:bZ (.func f) (#[.slice s.a s.n s.c] ++args) w c):px bZ Tryz.prog (pv g) name args w c:=by
 obtain⟨i,m,h1,h2,h3,h4⟩:=ab5 hm;have hcell:w.cell? ⟨g,1,none⟩=some (.slice s.a s.n s.c):=by
  have hb:=h.ax (g:=g) (cs:=ux now gm s);rw[hb.cell];rfl
 exact asz (e:=209) (e2:=259) h1 h2 h3 h4 bf bf bf ah8 hcell hc
theorem ah9{name:String}{f:Nat}{args:Array Value}{c:Value→aq}(hm:agb Tryz.prog 261 name=some (true,some (f,true)))(hc:bZ (.func f) (#[.pointer (some ⟨g,1,none⟩)] ++args) w c):px bZ Tryz.prog (pv g) name args w c:=by
 obtain⟨i,m,h1,h2,h3,h4⟩:=ab5 hm;exact asy (e:=209) h1 h2 h3 h4 bf ah8 hc
theorem akq{i j:Int}{c:Value→aq}(ho:∀args w c,bZ (.func kP) args w c=WX args.toList w c)(h:St w0 w (ax g (ux now gm s)::bQ 2 s (fl d)::R))(hi:0≤i∧i<d.length)(hj:0≤j∧j<d.length)
  (hc:∀w',St w0 w' (ax g (ux now gm s)::bQ 2 s (fl d)::R)→c (.bool (decide (ry (gd d i.toNat) (gd d j.toNat)))) w'):px bZ Tryz.prog (pv g) "Less" #[.int .i64 i,.int .i64 j] w c:=by
 refine ab7 (f:=kP) (by kernel_rfl) h ?_
 rw[ho,show(#[Value.slice s.a s.n s.c] ++ #[Value.int IntKind.i64 i,Value.int IntKind.i64 j]).toList=[.slice s.a s.n s.c,.int .i64 i,.int .i64 j] by simp]
 show dJ s i j w (fun r w=>c (eW (dz [.b] r)) w);exact awx (d:=d) h hi hj hc
theorem agd{i j:Int}{c:Value→aq}(ho:∀args w c,bZ (.func dm) args w c=WY args.toList w c)(h:St w0 w (ax g (ux now gm s)::bQ 2 s (fl d)::R))(hi:0≤i∧i<d.length)(hj:0≤j∧j<d.length)
  (hc:∀w',St w0 w' (ax g (ux now gm s)::bQ 2 s (fl (KW d i.toNat j.toNat))::R)→c (.tuple #[]) w'):px bZ Tryz.prog (pv g) "Swap" #[.int .i64 i,.int .i64 j] w c:=by
 refine ab7 (f:=dm) (by kernel_rfl) h ?_
 rw[ho,show(#[Value.slice s.a s.n s.c] ++ #[Value.int IntKind.i64 i,Value.int IntKind.i64 j]).toList=[.slice s.a s.n s.c,.int .i64 i,.int .i64 j] by simp]
 show bF s i j w (fun r w=>c (eW (dz [] r)) w);exact awy (d:=d) h hi hj hc
theorem asH{c:Value→aq}(ho:∀args w c,bZ (.func fG) args w c=Yg args.toList w c)(h:St w0 w (ax g (ux now gm s)::bQ 2 s (fl d)::R))
  (hc:c (.int .i64 (d.length:Int)) w):px bZ Tryz.prog (pv g) "Len" #[] w c:=by
 refine ab7 (f:=fG) (by kernel_rfl) h ?_
 rw[ho];show c (.int .i64 (s.n:Int)) w;rw[St.Xh (s:=s) (d:=d) h];exact hc
end
end Go.Proofs.YthidhjhkmjjckaaGreatDoor.Ko
namespace Go.Ev
open Go Go.RowKit
theorem aoc{w:World}{g sz:Nat}{l:List Value}{n:Nat}(hb:pA w g l.toArray)(hn:l.length=n*sz)(c:Nat):GH sz w ⟨some ⟨g,0,none⟩,n,c⟩ l:=
 ⟨hn,λi v hv=>⟨_,rfl,by rw[c8,hb.cell];simpa using hv⟩⟩
end Go.Ev
namespace Go.Proofs.YthidhjhkmjjckaaGreatDoor.Ko
open Go Go.Ev Go.Proofs
structure Rl (d d':DL) (n:Nat):Prop where
 perm:d'.Perm d
 same:∀k,n≤k→gd d' k=gd d k
theorem Rl.refl(d:DL)(n:Nat):Rl d d n:=⟨.refl _,λ_ _=>rfl⟩
theorem Rl.trans{a b c:DL}{n:Nat}(h:Rl a b n)(k:Rl b c n):Rl a c n:=⟨k.perm.trans h.perm,λi hi=>(k.same i hi).trans (h.same i hi)⟩
theorem Rl.len{a b:DL}{n:Nat}(h:Rl a b n):b.length=a.length:=h.perm.length_eq
theorem Rl.KW{d:DL}{n i j:Nat}(hi:i<n)(hj:j<n)(hn:n≤d.length):Rl d (KW d i j) n:=
 ⟨Yw ah ah,λk hk=>by rw[Sv ah ah,if_neg ah,if_neg ah]⟩
theorem awz{j:Nat}(h:j≤2000000):VC .i64 (aL .i64 ((j:Int) - 1)) 2=((qZ j:Nat):Int):=by
 unfold VC qZ;rw[dQ (x:=(j:Int) - 1) ⟨ah,ah⟩];by_cases h0:j=0
 ·subst h0;rfl
 ·have e:(((j:Int) - 1).tdiv 2)=(((j - 1) / 2:Nat):Int):=by
   rw[show(j:Int) - 1=((j - 1:Nat):Int) by omega];rfl
  rw[e,dQ ⟨ah,ah⟩]
theorem Vn{k i:Nat}(h1:1≤k)(h:qZ k=i):k=2*i+1∨k=2*i+2:=by unfold qZ at h;omega
theorem awA(i:Nat):qZ (2*i+1)=i:=by unfold qZ;omega
theorem awB(i:Nat):qZ (2*i+2)=i:=by unfold qZ;omega
section
variable {w0 w:World} {R:List HP} {s:Sl} {d:DL} {g gm:Nat} {now:Int}
theorem ayA{j n:Nat}{c:Unit→aq}(h:St w0 w (ax g (ux now gm s)::bQ 2 s (fl d)::R))(hu:HU d n j)(hn:n≤d.length)(hj:j<n)(hl:d.length≤2000000)
  (hc:∀d' w',Rl d d' n→HH d' n→St w0 w' (ax g (ux now gm s)::bQ 2 s (fl d')::R)→c () w'):cA (pv g) (j:Int) w c:=by
 unfold cA z7;refine pT (fun(i:Int) w'=> ∃(jn:Nat) (d':DL),i=(jn:Int)∧jn<n∧Rl d d' n∧HU d' n jn∧St w0 w' (ax g (ux now gm s)::bQ 2 s (fl d')::R)) (λi _=>i.toNat) ⟨j,d,rfl,hj,.refl _ _,hu,h⟩ ?_;rintro _ w1 ⟨i,d1,rfl,hi,hr,hU,h1⟩ C hC;have hlen:=hr.len;rw[awz ah];refine bU (λb w'=>b=decide (i=0∨¬ry (gd d1 i) (gd d1 (qZ i)))∧St w0 w' (ax g (ux now gm s)::bQ 2 s (fl d1)::R)) (λJ hJ=> ?_) ?_
 ·refine aF (λhb=> ?_) λhb=> ?_
  ·have hb:((qZ i:Nat):Int)=i:=by simpa using hb
   refine hJ _ _ ⟨(decide_eq_true (.inl ?_)).symm,h1⟩;unfold qZ at hb;omega
  ·have hb:((qZ i:Nat):Int)≠i:=by simpa using hb
   have XM:1≤i:=by unfold qZ at hb;omega
   have hp:=tO XM;refine akq (d:=d1) (λ_ _ _=>rfl) h1 ⟨ah,ah⟩ ⟨ah,ah⟩ λw2 h2=> ?_;simp only[kY];refine hJ _ _ ⟨?_,h2⟩;rw[Bool.eq_iff_iff];simp only[Bool.not_eq_true',decide_eq_false_iff_not,decide_eq_true_eq];constructor
   ·exact .inr
   ·rintro(q|q)
    ·omega
    ·exact q
 ·rintro _ w2 ⟨rfl,h2⟩;refine aF (λhb=> ?_) λhb=> ?_
  ·exact hc d1 w2 hr (amy hU (of_decide_eq_true hb)) h2
  ·have hb:=of_decide_eq_false hb;have XM:1≤i:=by
    rcases Nat.eq_zero_or_pos i with q|q
    ·exact(hb (.inl q)).elim
    ·exact q
   have hlt:ry (gd d1 i) (gd d1 (qZ i)):=Decidable.not_not.1 λq=>hb (.inr q);have hp:=tO XM;refine agd (d:=d1) (λ_ _ _=>rfl) h2 ⟨ah,ah⟩ ⟨ah,ah⟩ λw3 h3=> ?_;simp only[kY]at h3;exact hC _ _ ⟨qZ i,_,rfl,ah,hr.trans (.KW ah ah ah),asB hU ah XM ah hlt,h3⟩ (by simpa using hp)
theorem amF{i0 n:Nat}{c:Bool→aq}(h:St w0 w (ax g (ux now gm s)::bQ 2 s (fl d)::R))(hu:HD d n i0 i0)(hn:n≤d.length)(hj:i0≤n)(hl:d.length≤2000000)
  (hc:∀b d' w',Rl d d' n→(b=true→HH d' n)→(b=false→HU d' n i0)→St w0 w' (ax g (ux now gm s)::bQ 2 s (fl d')::R)→c b w'):bV (pv g) (i0:Int) (n:Int) w c:=by
 unfold bV wC;refine pT (fun(i:Int) w'=> ∃(jn:Nat) (d':DL),i=(jn:Int)∧jn≤n∧i0≤jn∧Rl d d' n∧HD d' n i0 jn∧St w0 w' (ax g (ux now gm s)::bQ 2 s (fl d')::R)) (λi _=>n - i.toNat) ⟨i0,d,rfl,hj,iN _,.refl _ _,hu,h⟩ ?_;rintro _ w1 ⟨i,d1,rfl,hi,XM,hr,hD,h1⟩ C hC;have hlen:=hr.len;have e1:aL .i64 (aL .i64 (2*(i:Int))+1)=((2*i+1:Nat):Int):=by
  rw[dQ (x:=2*(i:Int)) ⟨ah,ah⟩,dQ ⟨ah,ah⟩];omega
 have e2:aL .i64 (((2*i+1:Nat):Int)+1)=((2*i+2:Nat):Int):=by
  rw[dQ ⟨ah,ah⟩];omega
 rw[e1,e2];have fin:∀w2 (d2:DL),d2=d1→(∀k,1≤k→k<n→qZ k=i→¬ry (gd d1 k) (gd d1 i))→St w0 w2 (ax g (ux now gm s)::bQ 2 s (fl d1)::R)→c (decide ((i:Int)>(i0:Int))) w2:=by
  intro w2 _ _ hk h2;have hE:=awv hD hk;refine hc _ d1 w2 hr (λhb=>hE.1 ?_) (λhb=>hE.2 ?_) h2
  ·have:=of_decide_eq_true hb;omega
  ·have:=of_decide_eq_false hb;omega
 refine aF (λhb=> ?_) λhb=> ?_
 ·have hb:((2*i+1:Nat):Int)≥n:=by
   rcases Bool.or_eq_true_iff.1 hb with q|q
   ·exact of_decide_eq_true q
   ·have:=of_decide_eq_true q;omega
  refine fin w1 d1 rfl (λk k1 kn kp=> ?_) h1;rcases Vn k1 kp with q|q<;>omega
 ·have hb:2*i+1<n:=by
   have:=of_decide_eq_false (j5.1 hb).1;omega
  refine bU (λb w'=>b=decide (2*i+2<n∧ry (gd d1 (2*i+2)) (gd d1 (2*i+1)))∧St w0 w' (ax g (ux now gm s)::bQ 2 s (fl d1)::R)) (λJ hJ=> ?_) ?_
  ·refine aF (λjP=> ?_) λjP=> ?_
   ·have jP:=of_decide_eq_true jP;refine akq (d:=d1) (λ_ _ _=>rfl) h1 ⟨ah,ah⟩ ⟨ah,ah⟩ λw2 h2=> ?_;simp only[kY];refine hJ _ _ ⟨?_,h2⟩;rw[decide_eq_decide];exact⟨λq=>⟨ah,q⟩,λq=>q.2⟩
   ·have jP:=of_decide_eq_false jP;refine hJ _ _ ⟨(decide_eq_false λq=> ?_).symm,h1⟩;omega
  ·rintro b w2 ⟨hbe,h2⟩;refine bU (fun(x:Int) w'=>w'=w2∧∃jn:Nat,x=(jn:Int)∧jn<n∧1≤jn∧qZ jn=i∧∀k,1≤k→k<n→qZ k=i→¬ry (gd d1 k) (gd d1 jn)) (λJ hJ=> ?_) ?_
   ·refine aF (λsB=> ?_) λsB=> ?_
    ·rw[hbe]at sB;have sB:=of_decide_eq_true sB;refine hJ _ _ ⟨rfl,2*i+2,rfl,sB.1,ah,awB i,λk k1 kn kp=> ?_⟩;rcases Vn k1 kp with rfl|rfl
     ·exact Vm sB.2
     ·exact ab3 _
    ·rw[hbe]at sB;have sB:=of_decide_eq_false sB;refine hJ _ _ ⟨rfl,2*i+1,rfl,hb,ah,awA i,λk k1 kn kp=> ?_⟩;rcases Vn k1 kp with rfl|rfl
     ·exact ab3 _
     ·exact λq=>sB ⟨kn,q⟩
   ·rintro _ _ ⟨rfl,jn,rfl,hjn,hj1,hjp,hmin⟩;refine akq (d:=d1) (λ_ _ _=>rfl) h2 ⟨ah,ah⟩ ⟨ah,ah⟩ λw3 h3=> ?_;simp only[kY];show ap (!decide (ry (gd d1 jn) (gd d1 i))) _ _;refine aF (λIZ=> ?_) λIZ=> ?_
    ·have IZ:¬ry (gd d1 jn) (gd d1 i):=by simpa using IZ
     exact fin w3 d1 rfl (λk k1 kn kp=>NT (hmin k k1 kn kp) IZ) h3
    ·have IZ:ry (gd d1 jn) (gd d1 i):=by simpa using IZ
     have hpj:=tO hj1;rw[hjp]at hpj;refine agd (d:=d1) (λ_ _ _=>rfl) h3 ⟨ah,ah⟩ ⟨ah,ah⟩ λw4 h4=> ?_;simp only[kY]at h4;exact hC _ _ ⟨jn,_,rfl,ah,ah,hr.trans (.KW ah ah ah),asC hD ah XM hj1 hjn hjp hmin IZ,h4⟩ (by simp only[kY];omega)
theorem elD:GI Tryz.prog 209 2 16 (.agg #[.int .i64 0,.int .i64 0]):=⟨bf,rfl⟩
theorem asI{x:Int×Int}{L:List HP}{f:HP→List HP}{c:Sl→aq}(h:St w0 w L)[a:At L (bQ 2 s) (fl d) f](hn:d.length≤2000000){gx:Nat}{cs:List Value}{f2:HP→List HP}[a2:At L (ax gx) cs f2](hcs:cs=[.int .i64 x.1,.int .i64 x.2])(hc:∀s' w',St w0 w' (f (bQ 2 s' (fl (d++[x]))))→c s' w'):
  oh Tryz.prog #[209,209] 209 [(.slice s.a s.n s.c),(.slice (some ⟨gx,0,none⟩) 1 1)] w c:=by
 have hl:=St.Xh (s:=s) (d:=d) h;subst hcs;refine Sk (s:=s) (vs:=fl d) (x:=⟨some ⟨gx,0,none⟩,1,1⟩) (ys:=[.int .i64 x.1,.int .i64 x.2]) h elD bf (aoc (n:=1) (l:=[.int .i64 x.1,.int .i64 x.2]) (h.ax (g:=gx)) rfl 1) (by simp[Value.oneCell']) (by simp only;omega) (by simp only;omega) λs2 w3 h n2=> ?_
 refine hc s2 w3 ?_;rw[amC];exact h
theorem asJ{x:Int×Int}{c:Unit→aq}(h:St w0 w (ax g (ux now gm s)::bQ 2 s (fl d)::R))(hn:d.length≤2000000)
  (hc:∀s' w',St w0 w' (ax g (ux now gm s')::bQ 2 s' (fl (d++[x]))::R)→c () w'):jU (some ⟨g,1,none⟩) (.iface 259 (.agg #[.int .i64 x.1,.int .i64 x.2])) w c:=by
 unfold jU;refine azZ bf (aww ?_);refine av h λga w2 h=> ?_;refine mW (g:=ga) (n:=2) h rfl rfl (by intro v hv;simp at hv;rcases hv with rfl|rfl<;>rfl) λw3 h=> ?_
 refine bH rfl ?_;refine aK h λw4 h=> ?_;refine an ?_;refine eu (g:=g) (o:=1) h rfl ?_;refine jG (g:=ga) (n:=2) h rfl ?_;refine qH #[.int .i64 x.1,.int .i64 x.2] rfl rfl ?_;refine av h λgb w5 h=> ?_;refine Bs (g:=g) (o:=1) (cs:=(ux now gm s).toArray) (St.ax (g:=g) (by assumption)) (h.ax (g:=g)) ?_
 refine asI (x:=x) (s:=s) (d:=d) (gx:=gb) h hn rfl λs' w6 h=> ?_;refine an ?_;refine jR (g:=g) (o:=1) h rfl bh λw7 h=> ?_;refine hc s' w7 ?_;have h:St w0 w7 (ax gb _::ax ga _::ax g (ux now gm s')::bQ 2 s' (fl (d++[x]))::R):=h;exact h.drop.drop
theorem asK{n:Nat}(hn:n+1=d.length):d=d.take n++[gd d n]:=by
 have hlt:n<d.length:=ah;have e:gd d n=d[n]:=by unfold gd;rw[nr,kq hlt];rfl
 rw[e,List.take_append_getElem hlt,List.take_of_length_le ah]
theorem awD{n:Nat}{c:Value→aq}(h:St w0 w (ax g (ux now gm s)::bQ 2 s (fl d)::R))(hl:d.length≤2000000)(hn:n+1=d.length)
  (hc:∀v s' w',St w0 w' (ax g (ux now gm s')::bQ 2 s' (fl (d.take n))::R)→c v w'):dx (some ⟨g,1,none⟩) w c:=by
 have xj:=St.Xh (s:=s) (d:=d) h;have e1:aL .i64 (((s.n:Nat):Int) - 1)=((n:Nat):Int):=by
  rw[dQ ⟨ah,ah⟩];omega
 unfold dx;refine an (eu (g:=g) (o:=1) h rfl ?_);refine an (eu (g:=g) (o:=1) h rfl ?_);dsimp only;rw[e1];refine aai (d:=d) h ah ah ?_;refine av h λga w2 h=> ?_;refine mW (g:=ga) (n:=2) h rfl rfl (by intro v hv;simp at hv;rcases hv with rfl|rfl<;>rfl) λw3 h=> ?_
 refine an (eu (g:=g) (o:=1) h rfl ?_);refine ajF (s:=s) (vs:=fl d) h ah ah ah λs' n' h=> ?_;refine an ?_;refine jR (g:=g) (o:=1) h rfl bh λw4 h=> ?_;refine jG (g:=ga) (n:=2) h rfl ?_;refine hc _ s' w4 ?_;have e2:((fl d).drop ((0:Int).toNat*2)).take ((((n:Nat):Int).toNat - (0:Int).toNat)*2)=fl (d.take n):=by
  simp only[kY,Int.toNat_zero,Nat.zero_mul,List.drop_zero,Nat.sub_zero];exact ah4 d n
 rw[e2]at h;exact h.drop
theorem az1{bZ:eb}{x:Int×Int}{c:Value→aq}(ho:∀args w c,bZ (.func rh) args w c=WZ args.toList w c)(h:St w0 w (ax g (ux now gm s)::bQ 2 s (fl d)::R))(hn:d.length≤2000000)
  (hc:∀s' w',St w0 w' (ax g (ux now gm s')::bQ 2 s' (fl (d++[x]))::R)→c (.tuple #[]) w'):px bZ Tryz.prog (pv g) "Push" #[.iface 259 (.agg #[.int .i64 x.1,.int .i64 x.2])] w c:=by
 refine ah9 (f:=rh) (by kernel_rfl) ?_
 rw[ho,show(#[Value.pointer (some ⟨g,1,none⟩)] ++ #[Value.iface 259 (.agg #[.int .i64 x.1,.int .i64 x.2])]).toList=[.pointer (some ⟨g,1,none⟩),.iface 259 (.agg #[.int .i64 x.1,.int .i64 x.2])] by simp]
 show jU (some ⟨g,1,none⟩) (.iface 259 (.agg #[.int .i64 x.1,.int .i64 x.2])) w (fun r w=>c (eW (dz [] r)) w);exact asJ h hn hc
theorem asL{bZ:eb}{n:Nat}{c:Value→aq}(ho:∀args w c,bZ (.func iw) args w c=LJ args.toList w c)(h:St w0 w (ax g (ux now gm s)::bQ 2 s (fl d)::R))(hl:d.length≤2000000)(hn:n+1=d.length)
  (hc:∀v s' w',St w0 w' (ax g (ux now gm s')::bQ 2 s' (fl (d.take n))::R)→c v w'):px bZ Tryz.prog (pv g) "Pop" #[] w c:=by
 refine ah9 (f:=iw) (by kernel_rfl) ?_
 rw[ho,show(#[Value.pointer (some ⟨g,1,none⟩)] ++(#[]:Array Value)).toList=[Value.pointer (some ⟨g,1,none⟩)] by simp]
 show dx (some ⟨g,1,none⟩) w (fun r w=>c (eW (dz [.raw] r)) w);exact awD h hl hn fun v s' w' h=>hc v s' w' h
theorem asM{x:Int×Int}{c:Unit→aq}(h:St w0 w (ax g (ux now gm s)::bQ 2 s (fl d)::R))(hn:d.length≤1000000)(hh:HH d d.length)
  (hc:∀d' s' w',d'.Perm (d++[x])→HH d' d'.length→St w0 w' (ax g (ux now gm s')::bQ 2 s' (fl d')::R)→c () w'):jj (pv g) (.iface 259 (.agg #[.int .i64 x.1,.int .i64 x.2])) w c:=by
 unfold jj wB;refine az1 (x:=x) (λ_ _ _=>rfl) h ah λs1 w1 h=> ?_;refine asH (d:=d++[x]) (λ_ _ _=>rfl) h ?_;have el:(d++[x]).length=d.length+1:=by simp
 have e1:aL .i64 (((d++[x]).length:Int) - 1)=((d.length:Nat):Int):=by
  rw[dQ ⟨ah,ah⟩];omega
 show cA _ (aL .i64 (((d++[x]).length:Int) - 1)) w1 (λu w=>c () w);rw[e1];refine ayA (d:=d++[x]) (n:=d.length+1) h (asE hh) ah ah ah λd' w' hr hh' h=> ?_;exact hc d' s1 w' hr.perm (by rw[hr.len,el];exact hh') h
theorem Rl.head{d d':DL}{n:Nat}(h:Rl d d' n)(hn:n+1=d.length):(gd d n::d'.take n).Perm d:=by
 have hl:=h.len;have e:=asK (d:=d') (n:=n) ah;have:=h.perm;rw[e,h.same n (iN _)]at this;refine .trans ?_ this;exact(List.perm_append_comm (l₁:=[gd d n]) (l₂:=d'.take n))
theorem awE{c:Value→aq}(h:St w0 w (ax g (ux now gm s)::bQ 2 s (fl d)::R))(hl:d.length≤1000000)(h0:1≤d.length)(hh:HH d d.length)
  (hc:∀v d' s' w',(gd d 0::d').Perm d→HH d' d'.length→St w0 w' (ax g (ux now gm s')::bQ 2 s' (fl d')::R)→c v w'):jK (pv g) w c:=by
 obtain⟨n,hn⟩:∃n,n+1=d.length:=⟨d.length - 1,ah⟩;unfold jK yH;refine asH (d:=d) (λ_ _ _=>rfl) h ?_;have e1:aL .i64 ((d.length:Int) - 1)=((n:Nat):Int):=by
  rw[dQ ⟨ah,ah⟩];omega
 refine Ip ?_;rw[e1];refine agd (d:=d) (λ_ _ _=>rfl) h ⟨ah,ah⟩ ⟨ah,ah⟩ λw1 h=> ?_;simp only[kY,Int.toNat_zero]at h;have hsl:=ah0 d 0 n;have hD:HD (KW d 0 n) n 0 0:=by
  rcases Nat.eq_zero_or_pos n with q|q
  ·subst q;exact⟨λk k1 kn=>by omega,λk k1 kn=>by omega⟩
  ·exact amA hh hn q
 refine akp ?_;refine amF (i0:=0) (n:=n) h hD ah ah ah λb d' w2 hr ht hf h=> ?_;have hH:HH d' n:=by
  cases b
  ·exact amy (hf rfl) (.inl rfl)
  ·exact ht rfl
 have hlen:=hr.len;refine asL (d:=d') (n:=n) (λ_ _ _=>rfl) h ah ah λv s' w3 h=> ?_;refine hc v _ s' w3 ?_ (ab4 hH ah) h;have:=hr.head ah;rw[Sv ah ah,if_pos rfl]at this;exact this.trans (Yw ah ah)
theorem awF{i:Nat}{c:Value→aq}(h:St w0 w (ax g (ux now gm s)::bQ 2 s (fl d)::R))(hl:d.length≤1000000)(h0:i<d.length)(hh:HH d d.length)
  (hc:∀v d' s' w',(gd d i::d').Perm d→HH d' d'.length→St w0 w' (ax g (ux now gm s')::bQ 2 s' (fl d')::R)→c v w'):ic (pv g) (i:Int) w c:=by
 obtain⟨n,hn⟩:∃n,n+1=d.length:=⟨d.length - 1,by omega⟩
 unfold ic uj;refine asH (d:=d) (fun _ _ _=>rfl) h ?_;have e1:IntKind.wrap .i64 ((d.length:Int) - 1)=((n:Nat):Int):=by
  rw[dQ ⟨by omega,by omega⟩];omega
 refine Ip ?_;rw[e1];refine aF (fun hb=> ?_) fun hb=> ?_
 ·have hb:(n:Int)≠i:=by simpa using hb
  have hsl:=ah0 d i n;refine agd (d:=d) (fun _ _ _=>rfl) h ⟨by omega,by omega⟩ ⟨by omega,by omega⟩ fun w1 h=> ?_
  simp only[Int.toNat_natCast]at h;have fin:∀{d' w2} {c:Value→aq} {bZ:eb},(∀args w c,bZ (.func iw) args w c=LJ args.toList w c)→(∀v d' s' w',(gd d i::d').Perm d→HH d' d'.length→St w0 w' (ax g (ux now gm s')::bQ 2 s' (fl d')::R)→c v w')→Rl (KW d i n) d' n→HH d' n→St w0 w2 (ax g (ux now gm s)::bQ 2 s (fl d')::R)→px bZ Tryz.prog (pv g) "Pop" #[] w2 c:=by
   intro d' w2 c bZ ho hc hr hH h;have hlen:=hr.len;refine asL (d:=d') (n:=n) ho h (by omega) (by omega) fun v s' w3 h=> ?_
   refine hc v _ s' w3 ?_ (ab4 hH (by omega)) h
   have:=hr.head (by omega)
   rw[Sv (by omega) (by omega),if_pos rfl]at this
   exact this.trans (Yw (by omega) (by omega))
  refine akp ?_;refine amF (i0:=i) (n:=n) h (amA hh hn (by omega)) (by omega) (by omega) (by omega) fun b d' w2 hr ht hf h=> ?_
  have hlen:=hr.len;cases b
  ·refine bH rfl ?_;refine ayA (d:=d') (n:=n) h (hf rfl) (by omega) (by omega) (by omega) fun d2 w3 hr2 hh2 h=> ?_
   exact fin (fun _ _ _=>rfl) hc (hr.trans hr2) hh2 h
  ·refine bp rfl ?_;exact fin (fun _ _ _=>rfl) hc hr (ht rfl) h
 ·have hb:(n:Int)=i:=by simpa using hb
  have:n=i:=by omega
  subst this;refine asL (d:=d) (n:=n) (fun _ _ _=>rfl) h (by omega) hn fun v s' w3 h=> ?_
  refine hc v _ s' w3 ((Rl.refl d n).head hn) (ab4 (fun k k1 kn=>hh k k1 (by omega)) (by omega)) h
theorem az2{x:Int×Int}{c:Int→aq}(h:St w0 w (ax g (ux now gm s)::bQ 2 s (fl d)::R))(hl:d.length≤1000000)(hx:x∈d)
  (hc:∀(i:Nat) w',i<d.length→gd d i=x→St w0 w' (ax g (ux now gm s)::bQ 2 s (fl d)::R)→c (i:Int) w'):cC s #[.int .i64 x.1,.int .i64 x.2] w c:=by
 have xj:=St.Xh (s:=s) (d:=d) h;obtain⟨m,hm,VP⟩:=List.getElem_of_mem hx;have hmg:gd d m=x:=by unfold gd;rw[nr,kq hm];exact VP
 unfold cC;refine av h λga w1 h=> ?_;refine pT (fun(i:Int) w'=> ∃j:Nat,i=(j:Int)∧j≤m∧St w0 w' (ax ga [.int .i64 x.1,.int .i64 x.2]::ax g (ux now gm s)::bQ 2 s (fl d)::R)) (λi _=>m - i.toNat) ⟨0,rfl,ah,h⟩ ?_;rintro _ w2 ⟨j,rfl,hj,h⟩ C hC;refine bH (decide_eq_true ah) ?_;refine aK h λw3 h=> ?_;refine jG (g:=ga) (n:=2) h rfl ?_;refine aai (d:=d) h ah ah ?_;refine ajA (n:=2) (xs:=[x.1,x.2]) (ys:=[(gd d (j:Int).toNat).1,(gd d (j:Int).toNat).2]) rfl rfl ?_;refine aF (λhb=> ?_) λhb=> ?_
 ·have hb:=of_decide_eq_true hb;simp only[kY,List.cons.injEq,and_true]at hb;exact hc j w3 ah (by rw[Prod.ext_iff];exact⟨hb.1.symm,hb.2.symm⟩) h.drop
 ·have hb:=of_decide_eq_false hb;simp only[kY,List.cons.injEq,and_true]at hb;have hne:j≠m:=by rintro rfl;exact hb (by rw[hmg];exact⟨rfl,rfl⟩)
  have e:aL .i64 ((j:Int)+1)=((j+1:Nat):Int):=by
   rw[dQ ⟨ah,ah⟩];omega
  rw[e];exact hC _ _ ⟨j+1,rfl,ah,h⟩ (by simp only[kY];omega)
end
abbrev MT:Int:=1099511627776
def sw(x:Int×Int):Int×Int:=(x.2,x.1)
def has(S:DL)(id:Int):Bool:=S.any λx=>x.2==id
theorem Xj{S:DL}{id:Int}:has S id=true↔∃x∈S,x.2=id:=by unfold has;rw[List.any_eq_true];simp
structure CK (x:Int×DL):Prop where
 lo:0≤x.1
 hi:x.1≤MT
 ids:∀y∈x.2,0≤y.2
 due:∀y∈x.2,x.1<y.1∧y.1≤MT+MT
 srt:Srt x.2
 one:(x.2.map (·.2)).Nodup
def CM(x:Int×DL)(id n:Int):Int×DL:=
 if id<0∨n<1∨n>MT then(10,x.2)else if has x.2 id=true then(18,x.2)else(0,ins (x.1+n,id) x.2)
def Ea(S:DL)(id:Int):DL:=S.filter λy=>decide (y.2≠id)
def ab8(S:DL)(t:Int):DL:=S.filter λy=>decide (y.1≤t)
def NU(S:DL)(t:Int):DL:=S.filter λy=>decide (¬y.1≤t)
def RM(now n:Int):Bool:=decide (0≤n∧n≤MT - now)
def ids(S:DL):List Int:=S.map (·.2)
theorem ab9{x y:Int×Int}{S:DL}:y∈ins x S↔y=x∨y∈S:=by
 rw[(Ic x S).mem_iff,List.mem_cons]
theorem aem{S:DL}{id:Int}(h:¬has S id=true):∀y∈S,y.2≠id:=λy hy q=>h (Xj.2 ⟨y,hy,q⟩)
theorem CK.set{x:Int×DL}(h:CK x)(id n:Int):CK (x.1,(CM x id n).2):=by
 unfold CM;split
 ·exact h
 ·rename_i h1;split
  ·exact h
  ·rename_i h2;have h3:=aem h2;have hlo:=h.lo;have hhi:=h.hi;refine⟨h.lo,h.hi,λy hy=> ?_,λy hy=> ?_,ah3 h.srt λq=>h3 _ q rfl,?_⟩
   ·rcases ab9.1 hy with rfl|hy
    ·dsimp only;omega
    ·exact h.ids y hy
   ·rcases ab9.1 hy with rfl|hy
    ·unfold MT at*;dsimp only at*;omega
    ·exact h.due y hy
   ·refine(((Ic (x.1+n,id) x.2).map (·.2)).nodup_iff).2 ?_;rw[List.map_cons,List.nodup_cons];refine⟨λq=> ?_,h.one⟩;obtain⟨y,hy,e⟩:=List.mem_map.1 q;exact h3 y hy e
theorem Uj{S:DL}(h:(S.map (·.2)).Nodup)(p:Int×Int→Bool):((S.filter p).map (·.2)).Nodup:=
 h.sublist (List.filter_sublist.map _)
theorem CK.drop{x:Int×DL}(h:CK x)(id:Int):CK (x.1,Ea x.2 id):=by
 unfold Ea;exact⟨h.lo,h.hi,λy hy=>h.ids y (List.mem_filter.1 hy).1,λy hy=>h.due y (List.mem_filter.1 hy).1,Zm h.srt _,Uj h.one _⟩
theorem CK.adv{x:Int×DL}(h:CK x){n:Int}(hn:RM x.1 n=true):CK (x.1+n,NU x.2 (x.1+n)):=by
 have hn:=of_decide_eq_true hn;have h1:=h.lo;have h2:=h.hi;unfold NU;refine⟨by dsimp only;omega,by dsimp only;omega,λy hy=>h.ids y (List.mem_filter.1 hy).1,λy hy=> ?_,Zm h.srt _,Uj h.one _⟩
 have:=h.due y (List.mem_filter.1 hy).1;have h3:=(List.mem_filter.1 hy).2;simp only[decide_eq_true_eq]at h3;dsimp only;omega
def oE(g:Nat)(x:Int×DL):HP:=FT λq:{q:Sl×Nat×DL×List (Int×Int) // q.2.2.1.Perm x.2∧HH q.2.2.1 q.2.2.1.length∧q.2.2.2.Perm (x.2.map sw)}=>
 mr [ax g (ux x.1 q.1.2.1 q.1.1),bQ 2 q.1.1 (fl q.1.2.2.1),mp q.1.2.1 q.1.2.2.2]
section
variable {w0 w:World} {L:List HP} {g:Nat} {now:Int} {S:DL} {f:HP→List HP}
theorem Sw(h:St w0 w (oE g (now,S)::L)):∃(s:Sl) (gm:Nat) (d:DL) (l:List (Int×Int)),d.Perm S∧HH d d.length∧l.Perm (S.map sw)∧St w0 w (ax g (ux now gm s)::bQ 2 s (fl d)::mp gm l::L):=by
 obtain⟨⟨⟨s,gm,d,l⟩,h1,h2,h3⟩,h⟩:=h.some;exact⟨s,gm,d,l,h1,h2,h3,h.open⟩
theorem CN{s:Sl}{gm:Nat}{d:DL}{l:List (Int×Int)}(h1:d.Perm S)(h2:HH d d.length)(h3:l.Perm (S.map sw))(h:St w0 w (ax g (ux now gm s)::bQ 2 s (fl d)::mp gm l::L)):St w0 w (oE g (now,S)::L):=
 St.ex (X:=λq:{q:Sl×Nat×DL×List (Int×Int) // q.2.2.1.Perm S∧HH q.2.2.1 q.2.2.1.length∧q.2.2.2.Perm (S.map sw)}=>
  mr [ax g (ux now q.1.2.1 q.1.1),bQ 2 q.1.1 (fl q.1.2.2.1),mp q.1.2.1 q.1.2.2.2]) ⟨(s,gm,d,l),h1,h2,h3⟩ (St.shut h)
theorem akr{l:List (Int×Int)}{k v:Int}(h:HG l k=some v):(k,v)∈l:=by
 unfold HG at h;cases hf:l.find? λx=>x.1==k with
 |none=>rw[hf]at h;cases h
 |some y=>
  rw[hf]at h;simp only[Option.map_some,Option.some.injEq]at h;have h1:=List.mem_of_find?_eq_some hf;have h2:=List.find?_some hf;simp only[beq_iff_eq]at h2;rw[←h,←h2];exact h1
theorem L5{l:List (Int×Int)}{k:Int}(hl:l.Perm (S.map sw)):(HG l k).isSome=has S k:=by
 rw[Bool.eq_iff_iff,Xj];unfold HG;rw[Option.isSome_map,List.find?_isSome];constructor
 ·rintro⟨x,hx,e⟩;obtain⟨y,hy,rfl⟩:=List.mem_map.1 (hl.subset hx);exact⟨y,hy,by simpa[sw]using e⟩
 ·rintro⟨y,hy,e⟩;exact⟨sw y,hl.symm.subset (List.mem_map.2 ⟨y,hy,rfl⟩),by simpa[sw]using e⟩
theorem Zn{l:List (Int×Int)}(hl:l.Perm (S.map sw))(hS:(S.map (·.2)).Nodup):(l.map (·.1)).Nodup:=by
 refine((hl.map (·.1)).nodup_iff).2 ?_;rw[List.map_map];exact hS
theorem mpT:MpT Tryz.prog 207 3 2:=⟨bf,bf,bf⟩
theorem amG{n:Int}{b:Bool}{c:KT [.i .i64,.b]→Prop}(h:c (n,b)):HM [.i .i64,.b] (.tuple #[.int .i64 n,.bool b]) c:=h
theorem akt{c:Option Addr→aq}(h:St w0 w L)(hc:∀g w',St w0 w' (oE g (0,[])::L)→c (some ⟨g,0,none⟩) w'):nK w c:=by
 unfold nK;refine asx h λgm w1 h=> ?_;refine av h λg w2 h=>hc g w2 ?_;have h:=(h.Jx 2).swap;exact CN (s:=⟨none,0,0⟩) (d:=[]) (.refl _) (λk k1 kn=>by simp at kn) (.refl _) h
theorem acd{d:DL}{x:Int×Int}(h1:d.Perm (x::S))(h2:HH d d.length)(h3:Srt (x::S)):gd d 0=x:=by
 have hlen:d.length=S.length+1:=by rw[h1.length_eq];simp
 have hmem:gd d 0∈d:=by
  unfold gd;rw[nr,kq ah];simp
 rcases List.mem_cons.1 (h1.subset hmem)with e|e
 ·exact e
 ·have hx:x∈d:=h1.symm.subset bh;obtain⟨m,hm,VP⟩:=List.getElem_of_mem hx;have hmg:gd d m=x:=by unfold gd;rw[nr,kq hm];exact VP
  have:=asD h2 m hm;rw[hmg]at this;exact absurd ((List.pairwise_cons.1 h3).1 _ e) this
def aE1(S:DL):Int×Int×Bool:=match S with|[]=>(0,0,false)|x::_=>(x.1,x.2,true)
theorem az4{id n:Int}{c:Int→aq}(hl:S.length≤100000)(hC:CK (now,S))(h:St w0 w L)[a:At L (oE g) (now,S) f](hc:∀w',St w0 w' (f (oE g (now,(CM (now,S) id n).2)))→c (CM (now,S) id n).1 w'):l6 (some ⟨g,0,none⟩) id n w c:=by
 obtain⟨R,ho,hs⟩:=a.out;have h:=ho h;unfold l6 Cj;refine bp rfl (aF (λhb=> ?_) λhb=> ?_)
 ·have e:CM (now,S) id n=(10,S):=by
   unfold CM;rw[if_pos];simp only[Bool.or_eq_true,decide_eq_true_eq]at hb;unfold MT;omega
  rw[e]at hc;exact hc _ (hs h)
 ·have hb:¬(id<0∨n<1∨n>MT):=by
   simp only[j5,decide_eq_false_iff_not]at hb;unfold MT;omega
  obtain⟨s,gm,d,l,h1,h2,h3,h4⟩:=Sw h;refine an (aa6 (g:=g) (o:=2) h4 rfl ?_);refine amw (g:=gm) (l:=l) mpT h4 (amG ?_);dsimp only;rw[L5 h3];refine aF (λjP=> ?_) λjP=> ?_
  ·have e:CM (now,S) id n=(18,S):=by unfold CM;rw[if_neg hb,if_pos jP]
   rw[e]at hc;exact hc _ (hs (CN h1 h2 h3 h4))
  ·have e:CM (now,S) id n=(0,ins (now+n,id) S):=by unfold CM;rw[if_neg hb,if_neg (by simp[jP])]
   rw[e]at hc;have hlo:=hC.lo;have hhi:=hC.hi;dsimp only at hlo hhi;have ew:aL .i64 (now+n)=now+n:=dQ ⟨by unfold MT at*;omega,by unfold MT at*;omega⟩
   refine aK h4 λw1 h4=> ?_;refine an (aa6 (g:=g) (o:=2) h4 rfl ?_);refine an (cv (g:=g) (o:=0) h4 rfl ?_);have hno:HG l id=none:=by
    have:=L5 (k:=id) h3;rw[jP]at this;simpa using this
   refine an9 (g:=gm) (l:=l) mpT h4 hno λw2 h4=> ?_;refine aK h4 λw3 h4=> ?_;refine an (an (cv (g:=g) (o:=0) h4 rfl ?_));rw[ew]at h4 ⊢;refine asM (x:=(now+n,id)) (d:=d) h4 (by rw[h1.length_eq];omega) h2 λd' s' w4 hp hh h5=> ?_
   refine hc w4 (hs (CN ?_ hh ?_ h5))
   ·exact(hp.trans (List.perm_append_comm (l₁:=d) (l₂:=[(now+n,id)]))).trans ((h1.cons _).trans (Ic _ _).symm)
   ·refine .trans ?_ ((Ic (now+n,id) S).map sw).symm;exact(List.perm_append_comm (l₁:=l) (l₂:=[(id,now+n)])).trans (h3.cons _)
theorem awH{id:Int}{c:Bool→aq}(hl:S.length≤100000)(hC:CK (now,S))(h:St w0 w L)[a:At L (oE g) (now,S) f](hc:∀w',St w0 w' (f (oE g (now,Ea S id)))→c (has S id) w'):kS (some ⟨g,0,none⟩) id w c:=by
 obtain⟨R,ho,hs⟩:=a.out;have h:=ho h;obtain⟨s,gm,d,l,h1,h2,h3,h4⟩:=Sw h;unfold kS Bd;refine bp rfl (an (aa6 (g:=g) (o:=2) h4 rfl ?_));refine amw (g:=gm) (l:=l) mpT h4 (amG ?_);dsimp only;have hone:=hC.one;dsimp only at hone;rw[L5 h3];refine aF (λjP=> ?_) λjP=> ?_
 ·refine an (aa6 (g:=g) (o:=2) h4 rfl ?_);have hsome:(HG l id).isSome=true:=by rw[L5 h3];exact jP
  obtain⟨v,hv⟩:=Option.isSome_iff_exists.1 hsome;rw[hv,Option.getD_some];have hm:(v,id)∈d:=by
   obtain⟨y,hy,e⟩:=List.mem_map.1 (h3.subset (akr hv));have:y=(v,id):=by obtain⟨y1,y2⟩:=y;simp[sw]at e;simp[e]
   rw[←this];exact h1.symm.subset hy
  refine amx (g:=gm) (l:=l) mpT h4 (Zn h3 hone) hsome λw1 h4=> ?_;refine aK h4 λw2 h4=> ?_;refine an (an (eu (g:=g) (o:=1) h4 rfl (ahd ?_)));refine az2 (x:=(v,id)) (d:=d) h4 (by rw[h1.length_eq];omega) hm λi w3 hi hgi h4=> ?_
  refine awF (d:=d) h4 (by rw[h1.length_eq];omega) hi h2 λ_ d' s' w4 hp hh h5=> ?_
  refine hc w4 (hs (CN ?_ hh ?_ h5))
  ·rw[hgi]at hp;have hp2:=hp.trans h1;have hnd:(((v,id)::d').map (·.2)).Nodup:=((hp2.map (·.2)).nodup_iff).2 hone;rw[List.map_cons,List.nodup_cons]at hnd;have hp3:=hp2.filter λy=>decide (y.2≠id);rw[List.filter_cons_of_neg bh]at hp3;have e:d'.filter (λy=>decide (y.2≠id))=d':=by
    rw[List.filter_eq_self];intro y hy;simp only[ne_eq,decide_eq_true_eq];exact λq=>hnd.1 (List.mem_map.2 ⟨y,hy,q⟩)
   rw[e]at hp3;exact hp3
  ·have:=h3.filter λx=>decide (x.1≠id);unfold Ea;rw[List.filter_map]at this;exact this
 ·rw[jP]at hc ⊢;have e:Ea S id=S:=by
   unfold Ea;rw[List.filter_eq_self];intro y hy;simp only[ne_eq,decide_eq_true_eq];exact aem (by simp[jP]) y hy
  rw[e]at hc;exact hc w (hs (CN h1 h2 h3 h4))
theorem awI{C T:DL}{t:Int}(h1:∀y∈C,y.1≤t)(h2:∀y∈T,¬y.1≤t):ab8 (C++T) t=C∧NU (C++T) t=T:=by
 unfold ab8 NU;have e1:C.filter (λy=>decide (y.1≤t))=C:=by rw[List.filter_eq_self];intro y hy;simpa using h1 y hy
 have e2:T.filter (λy=>decide (y.1≤t))=[]:=by rw[List.filter_eq_nil_iff];intro y hy;simpa using h2 y hy
 have e3:C.filter (λy=>decide (¬y.1≤t))=[]:=by rw[List.filter_eq_nil_iff];intro y hy;simpa using h1 y hy
 have e4:T.filter (λy=>decide (¬y.1≤t))=T:=by rw[List.filter_eq_self];intro y hy;simpa using h2 y hy
 rw[List.filter_append,List.filter_append,e1,e2,e3,e4];simp
def aCB(T:DL)(t:Int):Bool:=match T with|[]=>false|x::_=>decide (x.1≤t)
theorem az6{n:Int}{c:Sl×Int→aq}(hl:S.length≤100000)(hC:CK (now,S))(h:St w0 w L)[a:At L (oE g) (now,S) f]
  (hc:RM now n=true→∀s' w',St w0 w' (bQ 1 s' (ints (ids (ab8 S (now+n))))::f (oE g (now+n,NU S (now+n))))→c (s',0) w')
  (hno:RM now n=false→St w0 w L→c (⟨none,0,0⟩,10) w):jm (some ⟨g,0,none⟩) n w c:=by
 obtain⟨R,ho,hs,Io⟩:=a.aCz;have h':=ho h;obtain⟨s,gm,d,l,h1,h2,h3,h4⟩:=Sw h';have hlo:=hC.lo;have hhi:=hC.hi;dsimp only at hlo hhi;unfold jm wP;refine bp rfl (bU (λb w'=>b= !RM now n∧w'=w) (λJ hJ=> ?_) ?_)
 ·refine aF (λhb=> ?_) λhb=> ?_
  ·have hb:=of_decide_eq_true hb;refine hJ _ _ ⟨?_,rfl⟩;unfold RM;rw[decide_eq_false ah];rfl
  ·have hb:=of_decide_eq_false hb;refine an (cv (g:=g) (o:=0) h4 rfl (hJ _ _ ⟨?_,rfl⟩));rw[dQ ⟨by unfold MT at*;omega,by unfold MT at*;omega⟩]
   unfold RM MT;rw[Bool.eq_iff_iff];simp only[decide_eq_true_eq,Bool.not_eq_true',decide_eq_false_iff_not];omega
 rintro _ w1 ⟨rfl,rfl⟩;refine aF (λhb=> ?_) λhb=> ?_
 ·exact hno (by simpa using hb) h
 have hok:RM now n=true:=by simpa using hb
 have aF6:=of_decide_eq_true hok;refine an (cv (g:=g) (o:=0) h4 rfl (an ?_));rw[dQ (x:=now+n) ⟨by unfold MT at*;omega,by unfold MT at*;omega⟩]
 refine jR (g:=g) (o:=0) h4 rfl bh λw2 h4=> ?_;have h5:St w0 w2 (oE g (now+n,S)::R):=CN (s:=s) h1 h2 h3 h4;refine pT (fun(r:Sl) w'=> ∃C T,S=C++T∧(∀y∈C,y.1≤now+n)∧St w0 w' (oE g (now+n,T)::bQ 1 r (ints (ids C))::R)) (λr _=>S.length - r.n) ⟨[],S,rfl,bh,((h5.Jx 1).swap:St w0 w2 (oE g (now+n,S)::bQ 1 ⟨none,0,0⟩ (ints (ids []))::R))⟩ ?_;rintro r w3 ⟨C,T,rfl,hCt,h⟩ K hK;have hr:r.n=C.length:=by
  have:=h.FR (sz:=1) (s:=r) (vs:=ints (ids C));simp[ids]at this;omega
 obtain⟨s,gm,d,l,h1,h2,h3,h4⟩:=Sw h;have hn:s.n=T.length:=by rw[St.Xh (s:=s) (d:=d) h4,h1.length_eq]
 have hdl:=h1.length_eq;have asO:Srt T:=(List.pairwise_append.1 hC.srt).2.1;have hnd:(T.map (·.2)).Nodup:=by
  have:=hC.one;dsimp only at this;rw[List.map_append]at this;exact(List.nodup_append.1 this).2.1
 refine bU (λb w'=>b=aCB T (now+n)∧St w0 w' (ax g (ux (now+n) gm s)::bQ 2 s (fl d)::mp gm l::bQ 1 r (ints (ids C))::R)) (λJ hJ=> ?_) ?_
 ·refine aK h4 λw4 h4=> ?_;refine an (eu (g:=g) (o:=1) h4 rfl ?_);dsimp only;refine aF (λhb=> ?_) λhb=> ?_
  ·have hb:=of_decide_eq_true hb;cases T with
   |nil=>simp at hn;omega
   |cons x T=>
    have hg:=acd h1 h2 asO;refine an (eu (g:=g) (o:=1) h4 rfl ?_);refine Xi (s:=s) (d:=d) h4 ah ah ?_;refine an (cv (g:=g) (o:=0) h4 rfl ?_);refine hJ _ _ ⟨?_,h4⟩;show decide ((gd d 0).1≤now+n)=decide (x.1≤now+n);rw[hg]
  ·have hb:=of_decide_eq_false hb;cases T with
   |nil=>exact hJ _ _ ⟨rfl,h4⟩
   |cons x T=>simp at hn;omega
 rintro _ w4 ⟨rfl,h4⟩;refine aF (λhb=> ?_) λhb=> ?_
 ·cases T with
  |nil=>cases hb
  |cons x T=>
   have hb:=of_decide_eq_true hb;have hg:=acd h1 h2 asO;simp only[tW,List.length_cons]at hl hdl;refine an (eu (g:=g) (o:=1) h4 rfl ?_);refine agc (s:=s) (d:=d) h4 ah ah ?_;have eg:(gd d (0:Int).toNat)=x:=hg;rw[eg];refine an ?_;refine awE (d:=d) h4 ah ah h2 λ_ d' s' w5 hp hh h5=> ?_;refine an (aa6 (g:=g) (o:=2) h5 rfl ?_);have hsome:(HG l x.2).isSome=true:=by rw[L5 h3,Xj];exact⟨x,bh,rfl⟩
   refine amx (g:=gm) (l:=l) mpT h5 (Zn h3 hnd) hsome λw6 h5=> ?_;refine av h5 λga w7 h5=> ?_;refine Sk (s:=r) (vs:=ints (ids C)) (x:=⟨some ⟨ga,0,none⟩,1,1⟩) (ys:=[.int .i64 x.2]) h5 (az0 bf) bf (aaX (n:=1) (l:=[.int .i64 x.2]) (h5.ax (g:=ga)) rfl 1) (by simp[Value.oneCell']) (by simp only;omega) (by simp only;omega) λs2 w8 h6 n2=> ?_
   have h7:=h6.drop;refine hK s2 w8 ⟨C++[x],T,bh,λy hy=> ?_,?_⟩ ?_
   ·rcases B0.1 hy with hy|hy
    ·exact hCt y hy
    ·simp only[List.mem_singleton]at hy;subst hy;exact hb
   ·have e:ints (ids C)++[Value.int .i64 x.2]=ints (ids (C++[x])):=by simp[ids,ints]
    rw[e]at h7;rw[hg]at hp;refine CN (d:=d') ?_ hh ?_ h7
    ·exact(hp.trans h1).cons_inv
    ·have h8:=h3.filter λy=>decide (y.1≠x.2);rw[List.map_cons,List.filter_cons_of_neg (by simp[sw])]at h8
     have e:(T.map sw).filter (λy=>decide (y.1≠x.2))=T.map sw:=by
      rw[List.filter_eq_self];intro z hz;obtain⟨y,hy,rfl⟩:=List.mem_map.1 hz;rw[List.map_cons,List.nodup_cons]at hnd;simp only[ne_eq,decide_eq_true_eq];exact λq=>hnd.1 (List.mem_map.2 ⟨y,hy,q⟩)
     rw[e]at h8;exact h8
   ·simp only[tW,List.length_cons];dsimp only at n2;omega
 ·have hT:∀y∈T,¬y.1≤now+n:=by
   cases T with
   |nil=>simp
   |cons x T=>
    have hb:=of_decide_eq_false hb;intro y hy;rcases List.mem_cons.1 hy with rfl|hy
    ·exact hb
    ·have:=(List.pairwise_cons.1 asO).1 y hy;unfold ry at this;omega
  obtain⟨e1,e2⟩:=awI hCt hT;refine hc hok r w4 (Io ?_);rw[e1,e2];exact CN h1 h2 h3 h4
end
end Go.Proofs.YthidhjhkmjjckaaGreatDoor.Ko
namespace Go.Proofs.YthidhjhkmjjckaaGreatDoor
open Go Go.Ev Go.Proofs
open Ko (oE CK)
abbrev pt(a:Nat):Value:= .pointer (some ⟨a,0,none⟩)
structure Tk where
 id:Int
 lN:Int
 own:Int
 jt:Int
 f:List Int
 gC:ByteArray
 cI:List (Int×Int)
 scopes:List Int
 kind:Int
 v:Int
abbrev frV(f:List Int):List Value:=[.int .i64 (f.getD 0 0),.int .i64 (f.getD 1 0),.int .i64 (f.getD 2 0),.int .i64 (f.getD 3 0),.int .i64 (f.getD 4 0),.int .i64 (f.getD 5 0),.int .i64 (f.getD 6 0),.int .i64 (f.getD 7 0),.int .i64 (f.getD 8 0),.int .i64 (f.getD 9 0),.int .i64 (f.getD 10 0),.int .i64 (f.getD 11 0),.int .i64 (f.getD 12 0),.int .i64 (f.getD 13 0),.int .i64 (f.getD 14 0),.int .i64 (f.getD 15 0),.int .i64 (f.getD 16 0),.int .i64 (f.getD 17 0),.int .i64 (f.getD 18 0)]
theorem amH{f:List Int}(hf:f.length=19):frV f=ints f:=by
 obtain⟨a,b,c,d,e,g,h,i,j,k,m,n,o,p,q,r,s,t,u,rfl⟩:=Fr.af5 hf;rfl
theorem NV{f:List Int}(hf:f.length=19):(frV f).toArray=eV f:=by rw[amH hf]
def Tk.cells(so sc:Sl)(t:Tk):List Value:=[.int .i64 t.id,.int .i64 t.lN,.int .i64 t.own,.int .i64 t.jt,.int .i64 (t.f.getD 0 0),.int .i64 (t.f.getD 1 0),.int .i64 (t.f.getD 2 0),.int .i64 (t.f.getD 3 0),.int .i64 (t.f.getD 4 0),.int .i64 (t.f.getD 5 0),.int .i64 (t.f.getD 6 0),.int .i64 (t.f.getD 7 0),.int .i64 (t.f.getD 8 0),.int .i64 (t.f.getD 9 0),.int .i64 (t.f.getD 10 0),.int .i64 (t.f.getD 11 0),.int .i64 (t.f.getD 12 0),.int .i64 (t.f.getD 13 0),.int .i64 (t.f.getD 14 0),.int .i64 (t.f.getD 15 0),.int .i64 (t.f.getD 16 0),.int .i64 (t.f.getD 17 0),.int .i64 (t.f.getD 18 0),.string t.gC,.slice so.a so.n so.c,.slice sc.a sc.n sc.c,.int .i64 t.kind,.int .i64 t.v]
abbrev Az(x:Int×Int):List Value:=[.int .i64 x.1,.int .i64 x.2]
def ZZ(x:Nat×Tk):HP:=FT λq:Sl×Sl=>mr [ax x.1 (x.2.cells q.1 q.2),rws 2 q.1 (x.2.cI.map Az),bQ 1 q.2 (ints x.2.scopes)]
def L6(aa:List Nat)(ts:List Tk):HP:=Jy (aa.length=ts.length) (lP ZZ (aa.zip ts))
section
variable {w0 w:World} {L R:List HP} {aa:List Nat} {ts:List Tk} {t:Tk} {x a:Nat}
theorem NW(h:St w0 w (L6 aa ts::R)):aa.length=ts.length:=h.pure.1
theorem sI(h:St w0 w (L6 aa ts::R))(ha:aa[x]?=some a)(ht:ts[x]?=some t):∃so sc:Sl,St w0 w (ax a (t.cells so sc)::rws 2 so (t.cI.map Az)::bQ 1 sc (ints t.scopes)::lP ZZ ((aa.zip ts).eraseIdx x)::R):=by
 obtain⟨_,h⟩:=h.pure;have h2:St w0 w (ZZ (a,t)::lP ZZ ((aa.zip ts).eraseIdx x)::R):=Iz h (by rw[List.getElem?_zip_eq_some];exact⟨ha,ht⟩)
 obtain⟨q,h⟩:=St.some h2;exact⟨q.1,q.2,h.open⟩
theorem aia{t':Tk}{so sc:Sl}(hl:aa.length=ts.length)(ha:aa[x]?=some a)(h:St w0 w (ax a (t'.cells so sc)::rws 2 so (t'.cI.map Az)::bQ 1 sc (ints t'.scopes)::lP ZZ ((aa.zip ts).eraseIdx x)::R)):St w0 w (L6 aa (ts.set x t')::R):=by
 have hx:=(kO.1 ha).1;have h2:St w0 w (ZZ (a,t')::lP ZZ ((aa.zip ts).eraseIdx x)::R):=St.ex (X:=λq:Sl×Sl=>mr [ax a (t'.cells q.1 q.2),rws 2 q.1 (t'.cI.map Az),bQ 1 q.2 (ints t'.scopes)]) (so,sc) (St.shut h);have h3:=aac h2 (by simp;omega)
 refine St.pur (by simpa using hl) ?_
 have e:(aa.zip ts).set x (a,t')=aa.zip (ts.set x t'):=by
  apply List.ext_getElem?;intro j;by_cases hj:x=j
  ·subst hj;rw[uw (by simp;omega)]
   symm;rw[List.getElem?_zip_eq_some];exact⟨ha,by rw[uw ah]⟩
  ·rw[rG hj,List.zip,List.getElem?_zipWith,List.getElem?_zipWith,rG hj]
 rwa[e]at h3
theorem awJ{t':Tk}{g:Nat}{so sc:Sl}(hl:aa.length=ts.length)(h:St w0 w (ax g (t'.cells so sc)::rws 2 so (t'.cI.map Az)::bQ 1 sc (ints t'.scopes)::L6 aa ts::R)):St w0 w (L6 (aa++[g]) (ts++[t'])::R):=by
 have h2:St w0 w (ZZ (g,t')::L6 aa ts::R):=St.ex (X:=λq:Sl×Sl=>mr [ax g (t'.cells q.1 q.2),rws 2 q.1 (t'.cI.map Az),bQ 1 q.2 (ints t'.scopes)]) (so,sc) (St.shut h);obtain⟨_,h3⟩:=h2.swap.pure;have h4:=V9 h3.swap;refine St.pur (by simpa using hl) ?_
 rwa[List.zip_append hl]
end
structure Lc where
 gs:Nat
 gm:Nat
 gk:Nat
 gc:Nat
 gt:Nat
 gd:Nat
 ps:Sl
 base:Int
 spare:Int
 cells:Int
 fuel:Int
 deep:Int
 log:Int
 told:Int
 idle:Int
 sp:Sp
 wa:List Nat
abbrev Pl:=Int×Int×Int×Bool
abbrev uy(x:Pl):List Value:=[.int .i64 x.1,.int .i64 x.2.1,.int .i64 x.2.2.1,.bool x.2.2.2]
structure Gl where
 M:bO
 T:List Kt
 C:List Nd
 P:List Pl
 ts:List Tk
 time:Int×List (Int×Int)
 D:List Int
 steps:Int
 err:Int
def Lc.cs(l:Lc)(sp st sw:Sl)(steps err:Int):List Value:=[.slice l.ps.a l.ps.n l.ps.c,.int .i64 l.base,.int .i64 l.spare,.int .i64 l.cells,.int .i64 l.fuel,.int .i64 l.deep,.int .i64 l.log,pt l.gm,pt l.gk,pt l.gc,
 .slice sp.a sp.n sp.c,.slice st.a st.n st.c,.int .i64 l.told,.int .i64 l.idle,.int .i64 l.sp.at_,.int .i64 l.sp.base,.int .i64 l.sp.most,pt l.gt,pt l.gd,.slice sw.a sw.n sw.c,.int .i64 steps,.int .i64 err]
def Uk(l:Lc)(aa:List Nat)(G:Gl):HP:=FT λq:Sl×Sl×Sl=>mr [ax l.gs (l.cs q.1 q.2.1 q.2.2 G.steps G.err),bN l.gm G.M,Cr l.gk G.T,scp l.gc G.C,rws 4 q.1 (G.P.map uy),bQ 1 q.2.1 (aa.map pt),bQ 1 q.2.2 (l.wa.map pt),oE l.gt G.time,KS l.gd G.D,L6 aa G.ts]
section
variable {w0 w:World} {L R:List HP} {l:Lc} {aa:List Nat} {G:Gl}
theorem AA(h:St w0 w (Uk l aa G::R)):∃sp st sw:Sl,St w0 w (ax l.gs (l.cs sp st sw G.steps G.err)::bN l.gm G.M::Cr l.gk G.T::scp l.gc G.C::rws 4 sp (G.P.map uy)::bQ 1 st (aa.map pt)::bQ 1 sw (l.wa.map pt)::oE l.gt G.time::KS l.gd G.D::L6 aa G.ts::R):=by
 obtain⟨q,h⟩:=h.some;exact⟨q.1,q.2.1,q.2.2,h.open⟩
theorem vn{sp st sw:Sl}(h:St w0 w (ax l.gs (l.cs sp st sw G.steps G.err)::bN l.gm G.M::Cr l.gk G.T::scp l.gc G.C::rws 4 sp (G.P.map uy)::bQ 1 st (aa.map pt)::bQ 1 sw (l.wa.map pt)::oE l.gt G.time::KS l.gd G.D::L6 aa G.ts::R)):St w0 w (Uk l aa G::R):=
 St.ex (X:=λq:Sl×Sl×Sl=>mr [ax l.gs (l.cs q.1 q.2.1 q.2.2 G.steps G.err),bN l.gm G.M,Cr l.gk G.T,scp l.gc G.C,rws 4 q.1 (G.P.map uy),bQ 1 q.2.1 (aa.map pt),bQ 1 q.2.2 (l.wa.map pt),oE l.gt G.time,KS l.gd G.D,L6 aa G.ts]) (sp,st,sw) (St.shut h)
end
inductive Mt
 |rest|o7|looking|tell|others|wU|RN|I0|sU|start|next|fork|wV|sV|join|cI|opens|close|gC|cancel|pass|leave|put|fin|asks|gone|asked|joined|tP|qU|rR|register|block|HI|stops
 |cancelled|vu|Bo|yL|nothing|TH|Am
 deriving DecidableEq
def Mt.fn:Mt→Nat
 | .rest=>fV| .o7=>kH| .looking=>kI| .tell=>mZ| .others=>lB| .wU=>lC| .RN=>mb| .I0=>mY
 | .sU=>lA| .start=>mz| .next=>fW| .fork=>kZ| .wV=>mA| .sV=>lE| .join=>je| .cI=>k7| .opens=>mB
 | .close=>kz| .gC=>lD| .cancel=>jW| .pass=>k8| .leave=>iK| .put=>nI| .fin=>nJ| .asks=>m0| .gone=>m3
 | .asked=>mD| .joined=>lG| .tP=>lF| .qU=>kJ| .rR=>kK| .register=>j7| .block=>mG| .HI=>m4| .stops=>mE
 | .cancelled=>jT| .vu=>jY| .Bo=>mF| .yL=>qj| .nothing=>oV| .TH=>rN| .Am=>qm
inductive Ct
 |FA|Sx|tQ|sJ|wW|sK|HZ|Cs|BS|qq
 deriving DecidableEq
def Ct.fn:Ct→Nat
 | .FA=>pC| .Sx=>om| .tQ=>ov| .sJ=>ow| .wW=>oO| .sK=>ou| .HZ=>oU| .Cs=>jX
 | .BS=>oS| .qq=>ot
inductive Kn
 |no
 |any
 |m (f:Mt)
 |c (f:Ct)
 |nx (i:List Int)
 |aw (x:Nat)
 |sh (k:Kn)
 |Vo (x:Nat) (k:Kn)
 |Bp (x:Int) (k:Kn)
 |hl (me:Int) (t:Option Nat)
 deriving DecidableEq
abbrev mt(gw:Nat)(f:Mt):Value:= .func (.func f.fn) #[pt gw] #[]
abbrev ct(b:Nat)(f:Ct):Value:= .func (.func f.fn) #[] #[pt b]
abbrev ayB:Value:= .func (.func j6) #[] #[]
abbrev Bx:=List (Nat×List Value)
def Rp(aa:List Nat)(gw:Nat)(B:Bx):Kn→Value→Prop
 | .no,v=>v= .nilFunc
 | .any,v=>v= .func (.func j6) #[] #[]
 | .m f,v=>v= .func (.func f.fn) #[pt gw] #[]
 | .c f,v=> ∃b,(b,[pt gw])∈B∧v= .func (.func f.fn) #[] #[pt b]
 | .nx i,v=> ∃b c,(b,[pt gw])∈B∧(c,ints i)∈B∧i.length=5∧v= .func (.func pD) #[] #[pt b,pt c]
 | .aw x,v=> ∃b c a,(b,[pt gw])∈B∧aa[x]?=some a∧(c,[pt a])∈B∧v= .func (.func eJ) #[] #[pt b,pt c]
 | .sh k,v=> ∃b c u,(b,[pt gw])∈B∧Rp aa gw B k u∧(c,[u])∈B∧v= .func (.func fE) #[] #[pt b,pt c]
 | .Vo x k,v=> ∃b c d a u,(b,[pt gw])∈B∧aa[x]?=some a∧(c,[pt a])∈B∧Rp aa gw B k u∧(d,[u])∈B∧v= .func (.func oT) #[] #[pt b,pt c,pt d]
 | .Bp x k,v=> ∃b c d u,(b,[pt gw])∈B∧(c,[.int .i64 x])∈B∧Rp aa gw B k u∧(d,[u])∈B∧v= .func (.func oW) #[] #[pt b,pt c,pt d]
 | .hl me t,v=> ∃b c d p,(b,[pt gw])∈B∧(c,[.int .i64 me])∈B∧(d,[.pointer p])∈B∧(match t with|none=>p=none|some x=> ∃a,aa[x]?=some a∧p=some ⟨a,0,none⟩)∧v= .func (.func lH) #[] #[pt b,pt c,pt d]
theorem Rp.one{aa:List Nat}{gw:Nat}{B:Bx}:∀{k:Kn} {v:Value},Rp aa gw B k v→v.oneCell'=true
 | .no,_,h=>by obtain rfl:=h;rfl
 | .any,_,h=>by obtain rfl:=h;rfl
 | .m f,_,h=>by obtain rfl:=h;rfl
 | .c f,_,h=>by obtain⟨_,_,rfl⟩:=h;rfl
 | .nx i,_,h=>by obtain⟨_,_,_,_,_,rfl⟩:=h;rfl
 | .aw x,_,h=>by obtain⟨_,_,_,_,_,_,rfl⟩:=h;rfl
 | .sh k,_,h=>by obtain⟨_,_,_,_,_,_,rfl⟩:=h;rfl
 | .Vo x k,_,h=>by obtain⟨_,_,_,_,_,_,_,_,_,_,rfl⟩:=h;rfl
 | .Bp x k,_,h=>by obtain⟨_,_,_,_,_,_,_,_,rfl⟩:=h;rfl
 | .hl me t,_,h=>by obtain⟨_,_,_,_,_,_,_,_,rfl⟩:=h;rfl
theorem Sy{aa:List Nat}{l:List Nat}{x a:Nat}(h:aa[x]?=some a):(aa++l)[x]?=some a:=by
 rw[sY (kO.1 h).1,h]
theorem Rp.mono{aa l:List Nat}{gw:Nat}{B B':Bx}(hB:∀p∈B,p∈B'):∀{k:Kn} {v:Value},Rp aa gw B k v→Rp (aa++l) gw B' k v
 | .no,_,h=>h
 | .any,_,h=>h
 | .m f,_,h=>h
 | .c f,_,h=>by obtain⟨b,h1,h2⟩:=h;exact⟨b,hB _ h1,h2⟩
 | .nx i,_,h=>by obtain⟨b,c,h1,h2,h3,h4⟩:=h;exact⟨b,c,hB _ h1,hB _ h2,h3,h4⟩
 | .aw x,_,h=>by obtain⟨b,c,a,h1,h2,h3,h4⟩:=h;exact⟨b,c,a,hB _ h1,Sy h2,hB _ h3,h4⟩
 | .sh k,_,h=>by obtain⟨b,c,u,h1,h2,h3,h4⟩:=h;exact⟨b,c,u,hB _ h1,Rp.mono hB h2,hB _ h3,h4⟩
 | .Vo x k,_,h=>by obtain⟨b,c,d,a,u,h1,h2,h3,h4,h5,h6⟩:=h;exact⟨b,c,d,a,u,hB _ h1,Sy h2,hB _ h3,Rp.mono hB h4,hB _ h5,h6⟩
 | .Bp x k,_,h=>by obtain⟨b,c,d,u,h1,h2,h3,h4,h5⟩:=h;exact⟨b,c,d,u,hB _ h1,hB _ h2,Rp.mono hB h3,hB _ h4,h5⟩
 | .hl me none,_,h=>by obtain⟨b,c,d,p,h1,h2,h3,h4,h5⟩:=h;exact⟨b,c,d,p,hB _ h1,hB _ h2,hB _ h3,h4,h5⟩
 | .hl me (some x),_,h=>by obtain⟨b,c,d,p,h1,h2,h3,⟨a,h4,h6⟩,h5⟩:=h;exact⟨b,c,d,p,hB _ h1,hB _ h2,hB _ h3,⟨a,Sy h4,h6⟩,h5⟩
theorem Rp.box{aa:List Nat}{gw:Nat}{B B':Bx}(hB:∀p∈B,p∈B'){k:Kn}{v:Value}(h:Rp aa gw B k v):Rp aa gw B' k v:=by
 have:=Rp.mono (l:=[]) hB h;rwa[List.append_nil]at this
def fz(B:Bx):HP:=lP (λp:Nat×List Value=>ax p.1 p.2) B
section
variable {w0 w:World} {L R:List HP} {B:Bx} {f:HP→List HP} {g:Nat}
theorem aaj{cs:List Value}(h:St w0 w L)[a:At L fz B f](hm:(g,cs)∈B):∃R,St w0 w (ax g cs::R):=by
 obtain⟨R,ho,_⟩:=a.out;obtain⟨i,hi⟩:=List.mem_iff_getElem?.1 hm;exact⟨_,Iz (X:=λp:Nat×List Value=>ax p.1 p.2) (ho h) hi⟩
theorem Eo{x:Option Addr}{c:Option Addr→Prop}(h:St w0 w L)[a:At L fz B f](hm:(g,[.pointer x])∈B)(hc:c x):aR w ⟨g,0,none⟩ c:=by
 obtain⟨R,h2⟩:=aaj h hm;exact B2 h2 rfl hc
theorem fzI{x:Int}{c:Int→Prop}(h:St w0 w L)[a:At L fz B f](hm:(g,[.int .i64 x])∈B)(hc:c x):aN .i64 w ⟨g,0,none⟩ c:=by
 obtain⟨R,h2⟩:=aaj h hm;exact cv h2 rfl hc
theorem fzV{x:Value}{c:Value→Prop}(h:St w0 w L)[a:At L fz B f](hm:(g,[x])∈B)(hc:c x):sX w ⟨g,0,none⟩ c:=by
 obtain⟨R,h2⟩:=aaj h hm;exact Ir h2 rfl hc
theorem fzW{cs:List Value}{n:Nat}{c:Array Value→Prop}(h:St w0 w L)[a:At L fz B f](hm:(g,cs)∈B)(hn:cs.length=n)(hc:c cs.toArray):bG n w ⟨g,0,none⟩ c:=by
 obtain⟨R,h2⟩:=aaj h hm;subst hn;exact jG h2 rfl hc
theorem awK{cs:List Value}(h:St w0 w (ax g cs::fz B::R)):St w0 w (fz (B++[(g,cs)])::R):=V9 (X:=λp:Nat×List Value=>ax p.1 p.2) (b:=(g,cs)) h
theorem asP(h:St w0 w R):St w0 w (fz []::R):=Wa h
end
structure Wk where
 id:Int
 dq:Int
 wait:Wt
 stack:List Nat
 back:List Kn
 cR:Kn
 op:Option bw
 after:Kn
 look:Option Lk
 seen:Kn
 step:Option jz
 left:List Int
 late:Bool
 fits:Kn
 got:Kn
 none_:Kn
 jc:Int
 home:Kn
 target:Option Nat
 kind:Int
 bK:Bool
 blocked:Bool
 again:Kn
 o8:Kn
 mark:Int
 dy:Kn
 own:Int
 said:Kn
 bits:Int
 pM:Kn
structure Wq where
 gwt:Nat
 ss:Sl
 rV:List Value
 sb:Sl
 y9:List Value
 pe:Value
 go:Nat
 JW:Value
 gl:Nat
 aku:Value
 gp:Nat
 sl:Sl
 Yx:Value
 aib:Value
 Yy:Value
 KX:Value
 Ox:Option Addr
 yZ:Value
 L7:Value
 Ie:Value
 Yz:Value
 age:Value
 B:Bx
def poi{α:Type}(g:Nat)(o:Option α):Value:= .pointer (o.map λ_=>⟨g,0,none⟩)
def Wk.cs(l:Lc)(q:Wq)(W:Wk):List Value:=[pt l.gs,.int .i64 W.id,.int .i64 W.dq,.int .i64 l.log,pt q.gwt,.slice q.ss.a q.ss.n q.ss.c,.slice q.sb.a q.sb.n q.sb.c,q.pe,poi q.go W.op,q.JW,poi q.gl W.look,q.aku,poi q.gp W.step,.slice q.sl.a q.sl.n q.sl.c,.bool W.late,q.Yx,q.aib,q.Yy,.int .i64 W.jc,q.KX,.pointer q.Ox,.int .i64 W.kind,.bool W.bK,.bool W.blocked,q.yZ,q.L7,.int .i64 W.mark,q.Ie,.int .i64 W.own,q.Yz,.int .i64 W.bits,q.age]
inductive Oy {α β:Type} (P:α→β→Prop):List α→List β→Prop
 |nil:Oy P [] []
 |cons {a:α} {b:β} {l:List α} {m:List β}:P a b→Oy P l m→Oy P (a::l) (b::m)
theorem Oy.imp'{α β:Type}{P Q:α→β→Prop}(hPQ:∀a b,P a b→Q a b){l:List α}{m:List β}(h:Oy P l m):Oy Q l m:=by
 induction h with
 |nil=>exact .nil
 |cons h1 _ ih=>exact .cons (hPQ _ _ h1) ih
theorem Oy.len{α β:Type}{P:α→β→Prop}{l:List α}{m:List β}(h:Oy P l m):l.length=m.length:=by
 induction h with
 |nil=>rfl
 |cons _ _ ih=>simp[ih]
def Pts(aa:List Nat)(x:Nat)(v:Value):Prop:=∃a,aa[x]?=some a∧v=pt a
structure Wq.Ok (aa:List Nat) (gw:Nat) (W:Wk) (q:Wq):Prop where
 rV:Oy (Pts aa) W.stack q.rV
 y9:Oy (Rp aa gw q.B) W.back q.y9
 cR:Rp aa gw q.B W.cR q.pe
 after:Rp aa gw q.B W.after q.JW
 seen:Rp aa gw q.B W.seen q.aku
 fits:Rp aa gw q.B W.fits q.Yx
 got:Rp aa gw q.B W.got q.aib
 none_:Rp aa gw q.B W.none_ q.Yy
 home:Rp aa gw q.B W.home q.KX
 target:match W.target with|none=>q.Ox=none|some x=> ∃a,aa[x]?=some a∧q.Ox=some ⟨a,0,none⟩
 again:Rp aa gw q.B W.again q.yZ
 o8:Rp aa gw q.B W.o8 q.L7
 dy:Rp aa gw q.B W.dy q.Ie
 said:Rp aa gw q.B W.said q.Yz
 pM:Rp aa gw q.B W.pM q.age
def mN{α:Type}(X:α→HP):Option α→HP
 |none=>mr []
 |some a=>X a
def qt(l:Lc)(aa:List Nat)(x:Nat×Wk):HP:=FT λq:Wq=>Jy (q.Ok aa x.1 x.2) (mr [ax x.1 (x.2.cs l q),ax q.gwt (x.2.wait.cells l.told),bQ 1 q.ss q.rV.reverse,bQ 1 q.sb q.y9.reverse,bQ 1 q.sl (ints x.2.left),mN (uu q.go) x.2.op,mN (λk:Lk=>ax q.gl (k.cells l.gc)) x.2.look,mN (λo:jz=>ax q.gp (o.cells l.sp q.gp)) x.2.step,fz q.B])
section
variable {w0 w:World} {L R:List HP} {l:Lc} {aa:List Nat} {gw:Nat} {W:Wk} {q:Wq}
theorem ace(h:St w0 w (qt l aa (gw,W)::R)):∃q:Wq,q.Ok aa gw W∧St w0 w (ax gw (W.cs l q)::ax q.gwt (W.wait.cells l.told)::bQ 1 q.ss q.rV.reverse::bQ 1 q.sb q.y9.reverse::bQ 1 q.sl (ints W.left)::mN (uu q.go) W.op::mN (λk:Lk=>ax q.gl (k.cells l.gc)) W.look::mN (λo:jz=>ax q.gp (o.cells l.sp q.gp)) W.step::fz q.B::R):=by
 obtain⟨q,h⟩:=h.some;obtain⟨hp,h⟩:=h.pure;exact⟨q,hp,h.open⟩
theorem aic(hq:q.Ok aa gw W)(h:St w0 w (ax gw (W.cs l q)::ax q.gwt (W.wait.cells l.told)::bQ 1 q.ss q.rV.reverse::bQ 1 q.sb q.y9.reverse::bQ 1 q.sl (ints W.left)::mN (uu q.go) W.op::mN (λk:Lk=>ax q.gl (k.cells l.gc)) W.look::mN (λo:jz=>ax q.gp (o.cells l.sp q.gp)) W.step::fz q.B::R)):St w0 w (qt l aa (gw,W)::R):=
 St.ex (X:=λq:Wq=>Jy (q.Ok aa gw W) (mr [ax gw (W.cs l q),ax q.gwt (W.wait.cells l.told),bQ 1 q.ss q.rV.reverse,bQ 1 q.sb q.y9.reverse,bQ 1 q.sl (ints W.left),mN (uu q.go) W.op,mN (λk:Lk=>ax q.gl (k.cells l.gc)) W.look,mN (λo:jz=>ax q.gp (o.cells l.sp q.gp)) W.step,fz q.B])) q (St.pur hq (St.shut h))
theorem Wq.Ok.box{B':Bx}(h:q.Ok aa gw W)(hB:∀p∈q.B,p∈B'):Wq.Ok aa gw W {q with B:=B'}:=
 ⟨h.rV,h.y9.imp' λ_ _=>Rp.box hB,h.cR.box hB,h.after.box hB,h.seen.box hB,h.fits.box hB,h.got.box hB,h.none_.box hB,h.home.box hB,h.target,h.again.box hB,h.o8.box hB,h.dy.box hB,h.said.box hB,h.pM.box hB⟩
theorem Wq.Ok.qD{m:List Nat}(h:q.Ok aa gw W):Wq.Ok (aa++m) gw W q:=
 ⟨h.rV.imp' λ_ _ ⟨a,h1,h2⟩=>⟨a,Sy h1,h2⟩,h.y9.imp' λ_ _=>Rp.mono λ_ h=>h,h.cR.mono λ_ h=>h,h.after.mono λ_ h=>h,h.seen.mono λ_ h=>h,h.fits.mono λ_ h=>h,h.got.mono λ_ h=>h,h.none_.mono λ_ h=>h,h.home.mono λ_ h=>h,
  by have:=h.target;cases ht:W.target with
   |none=>rw[ht]at this;exact this
   |some x=>rw[ht]at this;obtain⟨a,h1,h2⟩:=this;exact⟨a,Sy h1,h2⟩,
  h.again.mono λ_ h=>h,h.o8.mono λ_ h=>h,h.dy.mono λ_ h=>h,h.said.mono λ_ h=>h,h.pM.mono λ_ h=>h⟩
theorem JX{g:Nat}{cs:List Value}(hq:q.Ok aa gw W):Wq.Ok aa gw W {q with B:=q.B++[(g,cs)]}:=hq.box λp h=>List.mem_append_left _ h
end
end Go.Proofs.YthidhjhkmjjckaaGreatDoor
namespace Go.Ev
open Go Go.RowKit
structure ea where
 aY:Int
 sl:Sl
 code:List (List Int)
section
variable {P:Program} {w:World} {ti tc tf ts tp tn:TypeId}
structure wX (w:World) (s:Sl) (l:List (List Int)):Prop where
 rws:V2 5 w s (l.map Go.Ev.ints)
 Gu:∀i∈l,i.length=5∧∀y∈i,xb y
 Z0:l.length*40≤reachBytes
theorem wX.len{s:Sl}{l:List (List Int)}(h:wX w s l):s.n=l.length:=by have:=h.rws.len;simp at this;omega
theorem wX.ext{w':World}{s:Sl}{l:List (List Int)}(h:wX w s l)(he:Ext w w'):wX w' s l:=⟨h.rws.ext he,h.Gu,h.Z0⟩
def ea.cells(x:ea):List Value:=[.int .i64 x.aY,.slice x.sl.a x.sl.n x.sl.c]
structure j2 (w:World) (s:Sl) (l:List ea):Prop where
 rws:V2 2 w s (l.map ea.cells)
 code:∀x∈l,xb x.aY∧wX w x.sl x.code
 Z0:l.length*32≤reachBytes
theorem j2.len{s:Sl}{l:List ea}(h:j2 w s l):s.n=l.length:=by have:=h.rws.len;simp at this;omega
theorem j2.ext{w':World}{s:Sl}{l:List ea}(h:j2 w s l)(he:Ext w w'):j2 w' s l:=⟨h.rws.ext he,λx hx=>⟨(h.code x hx).1,(h.code x hx).2.ext he⟩,h.Z0⟩
end
end Go.Ev
namespace Go.Proofs.YthidhjhkmjjckaaGreatDoor.Ck
open Go Go.Ev Go.Proofs
theorem elI{P:Program}{t:TypeId}(h:Sj P t=some (1,8,some (.int .i64 0))):GI P t 1 8 (.int .i64 0):=⟨h,rfl⟩
abbrev fU(x:List Int):Int:=x.getD 0 0
def Bq(n:Int)(x:List Int):Int:=if fU x=11 then aL .i64 (n+1)else if fU x=12 then aL .i64 (n - 1)else n
def nS:Int→List (List Int)→List Int
 |_,[]=>[]
 |n,x::l=>n::nS (Bq n x) l
theorem RO:∀(l:List (List Int)) (n:Int),(nS n l).length=l.length
 |[],_=>rfl
 |x::l,n=>by simp[nS,RO l]
theorem ixC{w:World}{s:Sl}{l:List (List Int)}{dn rest:List (List Int)}{x:List Int}{i:Int}{c:Addr→Prop}(h:wX w s l)(hl:l=dn++x::rest)(hi:i=(dn.length:Int))
  (hc:∀p,x.length=5→(∀j v,(Go.Ev.ints x)[j]?=some v→w.cell? (p.add j)=some v)→c p):cW s i 5 c:=by
 have hn:=h.len.symm;subst hi;refine ajC h.rws ah (by rw[←hn,hl];simp;omega) λp e he hle hcell=> ?_
 rw[kY,hl]at he;simp at he;subst he;exact hc p ((h.Gu x (by rw[hl];simp)).1) hcell
theorem mQ{x:List Int}{j:Nat}(h:j<x.length):(Go.Ev.ints x)[j]?=some (.int .i64 (x.getD j 0)):=by
 simp[Go.Ev.ints,h]
theorem aod{w:World}{s:Sl}{l:List (List Int)}{k:Sl→aq}(hr:wX w s l)(hb:8*l.length≤281474976710656)
  (hc:∀s' w',St w w' [bQ 1 s' (Go.Ev.ints (nS 0 l))]→s'.n=l.length→k s' w'):ox s w k:=by
 have hl:=hr.len.symm;unfold ox;refine As (n:=s.n) (.nil w) (elI bf) rfl ah ah λs1 w2 h n1=> ?_;refine pT (fun(x:Int×Int) w'=> ∃dn rest acc n,l=dn++rest∧x=(n,(dn.length:Int))∧nS 0 l=acc++nS n rest∧acc.length=dn.length∧St w w' [bQ 1 s1 (Go.Ev.ints acc++dM rest.length (.int .i64 0))])
  (λx _=>((s.n:Int) - x.2).toNat) ⟨[],l,[],0,rfl,rfl,rfl,rfl,by simpa[hl,Go.Ev.ints]using h⟩ ?_
 rintro x w5 ⟨dn,rest,acc,n,hlr,rfl,hd,ha,h⟩ C hC;cases rest with
 |nil=>
  refine bp (by simp only[decide_eq_false_iff_not];rw[←hl,hlr];simp) ?_
  refine hc s1 w5 ?_ (n1.trans hl.symm);simp[nS]at hd;rw[hd];simpa using h
 |cons x rest=>
  have hlen:l.length=dn.length+(rest.length+1):=by rw[hlr];simp
  refine bH (by simp only[decide_eq_true_eq];omega) ?_
  refine ixC (hr.ext h.ext) hlr rfl λp h5 hcell=>GK (by simp[Go.Ev.ints,h5]) hcell ?_
  refine av h λg w9 h=> ?_;refine mW (g:=g) h rfl (by simp[Go.Ev.ints,h5]) (by simp[Go.Ev.ints,Value.oneCell']) λw10 h=> ?_
  refine Kj (s:=s1) (vs:=Go.Ev.ints acc++dM (rest.length+1) (.int .i64 0)) h ah ah ah λg1 o ZV hrd hwr=> ?_;refine hwr h inferInstance 0 _ _ ah rfl λw12 h=> ?_;refine cv (g:=g) (o:=0) h (by rw[mQ ah]) ?_
  have Qk:aL .i64 ((dn.length:Int)+1)=((dn++[x]).length:Int):=by rw[dQ ⟨ah,ah⟩];simp
  have Ui:(Go.Ev.ints acc++dM (rest.length+1) (Value.int .i64 0)).set ((dn.length:Int).toNat*1+0) (Value.int .i64 n)=Go.Ev.ints (acc++[n])++dM rest.length (Value.int .i64 0):=by
   have e:(dn.length:Int).toNat*1+0=(Go.Ev.ints acc).length+0:=by simp[Go.Ev.ints,ha]
   rw[e,List.set_append_right (h:=by omega),Nat.add_sub_cancel_left]
   simp[Go.Ev.ints,List.replicate_succ]
  have h:St w w12 [ax g (Go.Ev.ints x).toArray.toList,bQ 1 s1 (Go.Ev.ints (acc++[n])++dM rest.length (Value.int .i64 0))]:=by rw[←Ui];exact h
  have CU:∀n',n'=Bq n x→C (n',aL .i64 ((dn.length:Int)+1)) w12:=by
   rintro n' rfl;rw[Qk];refine hC _ _ ⟨dn++[x],rest,acc++[n],Bq n x,by simp[hlr],rfl,by rw[hd];simp[nS],by simp[ha],?_⟩ ?_
   ·exact h.drop
   ·simp;omega
  unfold Bq at CU;refine aF (λhb=> ?_) λhb=> ?_
  ·simp only[beq_iff_eq]at hb;exact CU _ (by rw[if_pos hb])
  ·have hb':¬fU x=11:=by simpa using hb
   refine aF (λjP=> ?_) λjP=> ?_
   ·have yX:fU x=12:=by simpa using jP
    exact CU _ (by rw[if_neg hb',if_pos yX])
   ·have yX:¬fU x=12:=by simpa using jP
    exact CU _ (by rw[if_neg hb',if_neg yX])
structure Fl where
 held:List Int
 ph:List Bool
 todo:List Int
def RP(l:List Bool):List Value:=l.map Value.bool
def Fl.now(F:Fl)(i hv:Int):Int:=og .i64 (F.held.getD i.toNat 0) hv
def Fl.stay(F:Fl)(i hv:Int):Bool:=F.ph.getD i.toNat false&&(F.now i hv==F.held.getD i.toNat 0)
def Fl.meet(F:Fl)(i hv:Int):Fl:=if F.stay i hv then F else{held:=F.held.set i.toNat (F.now i hv),ph:=F.ph.set i.toNat true,todo:=F.todo++[i]}
def asQ(g:Nat)(code:Sl)(F:Fl)(p:Sl×Sl×Sl):List HP:=
 [ax g [.slice code.a code.n code.c,.slice p.1.a p.1.n p.1.c,.slice p.2.1.a p.2.1.n p.2.1.c,.slice p.2.2.a p.2.2.n p.2.2.c],bQ 1 p.1 (ints F.held),bQ 1 p.2.1 (RP F.ph),bQ 1 p.2.2 (ints F.todo)]
def L8(g:Nat)(x:Sl×Fl):HP:=FT λp=>mr (asQ g x.1 x.2 p)
section
variable {w0 w:World} {L:List HP} {g:Nat} {code:Sl} {F:Fl}
theorem acf{R:List HP}(h:St w0 w (L8 g (code,F)::R)):∃s1 s2 s3:Sl,St w0 w (ax g [.slice code.a code.n code.c,.slice s1.a s1.n s1.c,.slice s2.a s2.n s2.c,.slice s3.a s3.n s3.c]::bQ 1 s1 (ints F.held)::bQ 1 s2 (RP F.ph)::bQ 1 s3 (ints F.todo)::R):=by
 obtain⟨p,h⟩:=h.some;exact⟨p.1,p.2.1,p.2.2,h.open⟩
theorem Vp{R:List HP}{s1 s2 s3:Sl}(h:St w0 w (ax g [.slice code.a code.n code.c,.slice s1.a s1.n s1.c,.slice s2.a s2.n s2.c,.slice s3.a s3.n s3.c]::bQ 1 s1 (ints F.held)::bQ 1 s2 (RP F.ph)::bQ 1 s3 (ints F.todo)::R)):St w0 w (L8 g (code,F)::R):=
 St.ex (X:=λp=>mr (asQ g code F p)) (s1,s2,s3) (St.shut h)
theorem asR{l:List Bool}{i:Nat}(h:i<l.length):(RP l)[i]?=some (.bool (l.getD i false)):=by simp[RP,h]
theorem awM{s:Sl}{xs:List Bool}{i:Int}{f:HP→List HP}{c:Bool→Prop}(h:St w0 w L)[a:At L (bQ 1 s) (RP xs) f](h0:0≤i)(h1:i<xs.length)(hc:c (xs.getD i.toNat false)):cW s i 1 λa=>Ig w a c:=by
 have hn:xs.length=s.n:=by have:=h.FR (sz:=1) (s:=s) (vs:=RP xs);simpa[RP]using this
 refine Kj h ah h0 ah λg o _ hr _=>ajy ?_ hc;have:=hr h 0 _ ah (asR (i:=i.toNat*1+0) ah);simpa using this
theorem aoe{s:Sl}{xs:List Bool}{i:Int}{x:Bool}{f:HP→List HP}{c:aq}(h:St w0 w L)[a:At L (bQ 1 s) (RP xs) f](h0:0≤i)(h1:i<xs.length)(hc:∀w',St w0 w' (f (bQ 1 s (RP (xs.set i.toNat x))))→c w'):cW s i 1 λa=>bJ w a (.bool x) c:=by
 have hn:xs.length=s.n:=by have:=h.FR (sz:=1) (s:=s) (vs:=RP xs);simpa[RP]using this
 refine Kj h ah h0 ah λg o _ _ hs=> ?_;have:=hs h a 0 (.bool x) c ah rfl λw' h'=>hc w' (by
  have e:(RP xs).set (i.toNat*1+0) (.bool x)=RP (xs.set i.toNat x):=by simp[RP,List.map_set]
  rwa[e]at h')
 simpa using this
theorem amI{i hv:Int}{f:HP→List HP}{k:Unit→aq}(h:St w0 w L)[a:At L (L8 g) (code,F) f](h0:0≤i)(h1:i<F.held.length)(hl:F.ph.length=F.held.length)(hb:(F.todo.length+1)*8≤140737488355328)
  (hc:∀w',St w0 w' (f (L8 g (code,F.meet i hv)))→k () w'):jr (some ⟨g,0,none⟩) i hv w k:=by
 obtain⟨R,ho,py⟩:=a.out;obtain⟨s1,s2,s3,hS⟩:=acf (ho h);unfold jr;refine an (eu (o:=1) hS rfl (AQ (s:=s1) (xs:=F.held) hS h0 h1 ?_));have fin:∀b,b=F.stay i hv→ap b (k () w) (
  drew w λw16=>nn (some ⟨g,0,none⟩) λa17=>cE w16 (aX a17 2) λs18=>nn (some ⟨g,0,none⟩) λa19=>cE w16 (aX a19 1) λs20=>
  cW s18 i 1 λa21=>bJ w16 a21 (.bool true) λw22=>cW s20 i 1 λa23=>bJ w22 a23 (.int .i64 (og .i64 (F.held.getD i.toNat 0) hv)) λw24=>
  nn (some ⟨g,0,none⟩) λa25=>cE w24 (aX a25 3) λs26=>aH w24 #[(.int .i64 i)] 3 λa27 w28=>
  oh Tryz.prog #[69,69] 69 [(.slice s26.a s26.n s26.c),(.slice (some a27) 1 1)] w28 λs29 w30=>
  nn (some ⟨g,0,none⟩) λa31=>bJ w30 (aX a31 3) (.slice s29.a s29.n s29.c) λw32=>k () w32):=by
  rintro b rfl;refine aF (λhst=> ?_) λhst=> ?_
  ·have e:F.meet i hv=F:=by unfold Fl.meet;rw[if_pos hst]
   have:=hc w;rw[e]at this;exact this (py (ho h))
  ·have e:F.meet i hv={held:=F.held.set i.toNat (F.now i hv),ph:=F.ph.set i.toNat true,todo:=F.todo++[i]}:=by unfold Fl.meet;rw[if_neg (by simp[hst])]
   rw[e]at hc;refine aK hS λw16 hS=>an (eu (o:=2) hS rfl (an (eu (o:=1) hS rfl ?_)));refine aoe (s:=s2) (xs:=F.ph) hS h0 ah λw22 hS=> ?_;refine zf (s:=s1) (xs:=F.held) hS h0 h1 λw24 hS=>an (eu (o:=3) hS rfl ?_);have hn3:F.todo.length=s3.n:=by have:=hS.FR (sz:=1) (s:=s3) (vs:=ints F.todo);simpa using this
   refine av hS λgn w28 hS=> ?_;refine Sk (s:=s3) (vs:=ints F.todo) (x:=⟨some ⟨gn,0,none⟩,1,1⟩) (ys:=[.int .i64 i]) hS (elI bf) bf (aaX (n:=1) (l:=[.int .i64 i]) hS.ax rfl 1) (by simp[Value.oneCell']) (by simp only;omega) (by simp only;omega) λs6 w7 hS n6=> ?_
   have hS:=hS.drop;refine an (jR (g:=g) (o:=3) hS rfl bh λw32 hS=>hc w32 (py (Vp (s1:=s1) (s2:=s2) (s3:=s6) ?_)));simpa[ints,Fl.now]using hS
 unfold cD;refine an (eu (o:=2) hS rfl (awM (s:=s2) (xs:=F.ph) hS h0 ah ?_));refine aF (λUx=> ?_) λUx=> ?_
 ·refine an (eu (o:=1) hS rfl (AQ (s:=s1) (xs:=F.held) hS h0 h1 ?_));exact fin _ (by unfold Fl.stay Fl.now;rw[Ux,Bool.true_and])
 ·exact fin _ (by unfold Fl.stay;rw[Ux,Bool.false_and])
end
theorem elB{P:Program}{t:TypeId}(h:Sj P t=some (1,1,some (.bool false))):GI P t 1 1 (.bool false):=⟨h,rfl⟩
theorem Yh(n:Nat):dM n (Value.int .i64 0)=ints (dM n 0):=by simp[ints]
theorem asU(n:Nat):dM n (Value.bool false)=RP (dM n false):=by simp[RP]
def pN(x:List Int):Bool:=(fU x==6)||(fU x==7)
def Eb(x:List Int):Bool:=(fU x==16)||(fU x==15)
def yA(n:Nat)(x:List Int):Bool:=pN x&&decide (0≤x.getD 4 0∧x.getD 4 0<n)
def yB(n:Nat)(i:Int)(x:List Int):Bool:=(fU x !=6)&& !Eb x&&decide (aL .i64 (i+1)<n)
def behind(n:Nat)(i:Int)(x:List Int):List Int:=(if yA n x then [x.getD 4 0]else [])++(if yB n i x then [aL .i64 (i+1)]else [])
theorem aof{w0 w:World}{Lk:List Int→List HP}{code:Sl}{l:List (List Int)}{i:Int}{x:List Int}{ca ci:Addr}{lo:Nat}{Y:Nat→bu}{k:Unit→aq}
  (h:St w0 w (Lk [])) (XM:0≤i) (hx:l[i.toNat]?=some x)
  (hcell:∀{w ks},St w0 w (Lk ks)→w.cell? ca=some (.slice code.a code.n code.c)∧w.cell? ci=some (.int .i64 i)∧wX w code l)
  (hy:∀{B:HP} {ks:List Int} {z:Int} {w:World} {c:Value→aq},St w0 w (B::Lk ks)→ks++[z] <+:behind code.n i x→(∀w',St w0 w' (B::Lk (ks++[z]))→c (.bool true) w')→Y lo [.int .i64 z] w c)
  (hc:∀w',St w0 w' (Lk (behind code.n i x))→k () w'):xe Y (.func (.yield lo) #[] #[]) ca ci w k:=by
 unfold xe Du;obtain⟨hs,hi,hcd⟩:=hcell h;have hil:i.toNat<l.length:=(kO.1 hx).1;have hn:=hcd.len;have aak:l=l.take i.toNat++x::l.drop (i.toNat+1):=by
  obtain⟨_,e⟩:=kO.1 hx;rw[←e,List.getElem_cons_drop,List.take_append_drop]
 refine Kh (s:=code) hs (uJ hi (ixC hcd aak (by simp;omega) λp h5 hp=>GK (by simp[Go.Ev.ints,h5]) hp ?_))
 refine av h λg w6 h=> ?_;refine mW (g:=g) h rfl (by simp[Go.Ev.ints,h5]) (by simp[Go.Ev.ints,Value.oneCell']) λw7 h=> ?_
 have ld:∀{w:World} {L:List HP} {o:Nat} {c:Int→Prop},St w0 w (ax g (Go.Ev.ints x).toArray.toList::L)→o<5→c (x.getD o 0)→aN .i64 w (aX ⟨g,0,none⟩ o) c:=by
  intro w L o c h ho hc;have:=cv (g:=g) (o:=o) (k:= .i64) (n:=x.getD o 0) (c:=c) h (by simpa using mQ (x:=x) (j:=o) ah) hc
  rw[c8,Nat.zero_add];exact this
 have agf:∀w20,St w0 w20 (ax g (Go.Ev.ints x).toArray.toList::Lk (if yA code.n x then [x.getD 4 0]else []))→ap false (k () w20) (cD (S:=Bool) (λJ21=>
   aN .i64 w20 (aX ⟨g,0,none⟩ 0) λi22=>
   ap (i22 !=(6:Int)) (
    aN .i64 w20 (aX ⟨g,0,none⟩ 0) λi23=>
    jg i23 w20 λb24 w25=>
    ap (!b24) (
     aN .i64 w25 ci λi26=>
     cE w25 ca λs27=>
     (J21 (decide ((aL .i64 (i26+(1:Int)))<((s27.n:Nat):Int))) w25)) (
     (J21 false w25))) (
    (J21 false w20))) λb28 w29=>
  ap b28 (
   aN .i64 w29 ci λi30=>
   mT (Js [(r4,(λargs w c=>qG [(.i .i64)] args λx=>jE x w λr w=>c (eW (dz [.b] r)) w)),(r5,(λargs w c=>qG [(.i .i64)] args λx=>jg x w λr w=>c (eW (dz [.b] r)) w))] Y) (.func (.yield lo) #[] #[]) #[(.int .i64 (aL .i64 (i30+(1:Int))))] w29 λv31 w32=>
   HL v31 λb33=>
   (k () w32)) (
   (k () w29))):=by
  intro w20 h;refine bp rfl ?_;unfold cD;obtain⟨hs,hi,_⟩:=hcell h.drop;have last:∀b,b=yB code.n i x→ap b (
    aN .i64 w20 ci λi30=>
    mT (Js [(r4,(λargs w c=>qG [(.i .i64)] args λx=>jE x w λr w=>c (eW (dz [.b] r)) w)),(r5,(λargs w c=>qG [(.i .i64)] args λx=>jg x w λr w=>c (eW (dz [.b] r)) w))] Y) (.func (.yield lo) #[] #[]) #[(.int .i64 (aL .i64 (i30+(1:Int))))] w20 λv31 w32=>
    HL v31 λb33=>(k () w32)) (k () w20):=by
   rintro b rfl;refine aF (λhb=> ?_) λhb=> ?_
   ·refine uJ hi (Qm (hy h ?_ λw' h=>hc w' ?_))
    ·unfold behind;rw[if_pos hb];exact List.prefix_refl _
    ·have:=h.drop;unfold behind;rw[if_pos hb];exact this
   ·refine hc w20 ?_;have e:behind code.n i x=if yA code.n x then [x.getD 4 0]else []:=by unfold behind;rw[hb];simp
    rw[e];exact h.drop
  refine ld h ah ?_;refine aF (λh6=> ?_) λh6=> ?_
  ·refine ld h ah ?_;show ap _ _ _;refine aF (λhe=> ?_) λhe=> ?_
   ·refine uJ hi (Kh (s:=code) hs (last _ ?_));have he':Eb x=false:=by simpa[Eb]using he
    have h6':(fU x !=6)=true:=h6;unfold yB;rw[h6',he'];simp
   ·refine last _ ?_;have he':Eb x=true:=by
     cases hE:Eb x with
     |true=>rfl
     |false=>exact absurd he (by unfold Eb at hE;simp only[fU]at hE;rw[hE];simp)
    unfold yB;rw[he'];simp
  ·refine last _ ?_;have h6':(fU x !=6)=false:=h6;unfold yB;rw[h6'];simp
 unfold cD;refine ld h ah ?_;show ap _ _ _;refine aF (λhg=> ?_) λhg=> ?_
 ·have K3:pN x=true:=hg;refine ld h ah ?_;refine aF (λh4=> ?_) λh4=> ?_
  ·simp only[decide_eq_true_eq]at h4;obtain⟨hs,_,_⟩:=hcell h.drop;refine ld h ah (Kh (s:=code) hs ?_);refine aF (λh5'=> ?_) λh5'=> ?_
   ·simp only[decide_eq_true_eq]at h5';have hA:yA code.n x=true:=by unfold yA;rw[K3,decide_eq_true ⟨h4,h5'⟩];rfl
    refine ld h ah (Qm (hy h ?_ λw' h=> ?_))
    ·unfold behind;rw[if_pos hA];exact List.prefix_append _ _
    ·refine agf w' ?_;rw[if_pos hA];exact h
   ·simp only[decide_eq_false_iff_not]at h5';have hA:yA code.n x=false:=by unfold yA;rw[K3,decide_eq_false (λh=>h5' h.2)];rfl
    refine agf w7 ?_;rw[hA];exact h
  ·simp only[decide_eq_false_iff_not]at h4;have hA:yA code.n x=false:=by unfold yA;rw[K3,decide_eq_false (λh=>h4 h.1)];rfl
   refine agf w7 ?_;rw[hA];exact h
 ·have K3:pN x=false:=hg;have hA:yA code.n x=false:=by unfold yA;rw[K3];rfl
  refine agf w7 ?_;rw[hA];exact h
theorem ayC{m:Nat}(h:m<2 ^ 63):(bv (m:Int)).toNat=m:=by
 rw[BitVec.toNat_ofInt];omega
theorem aid{b:BitVec 64}(h:b.toNat<2 ^ 63):b.toInt=b.toNat:=by
 rw[BitVec.toInt_eq_toNat_cond];split<;>omega
theorem awN{a b:Int}(h0:0≤a)(h1:a≤255):0≤og .i64 a b∧og .i64 a b≤a:=by
 rw[Qg];have e:(bv a).toNat=a.toNat:=by
  have:=ayC (m:=a.toNat) ah;rwa[Int.toNat_of_nonneg h0]at this
 have h2:(bv a&&&bv b).toNat≤a.toNat:=by rw[BitVec.toNat_and,e];exact Nat.and_le_left
 rw[aid ah];omega
def L9(x:List Int)(h:Int):Int:=if fU x=8∧0≤x.getD 1 0∧x.getD 1 0<8 then SH .i64 h (sx .i64 1 (x.getD 1 0))else h
def Fl.meets(hv:Int)(F:Fl)(zs:List Int):Fl:=zs.foldl (λF z=>F.meet z hv) F
def Fl.step(l:List (List Int))(F:Fl):Fl:=match F.todo with
 |[]=>F
 |i::t=>Fl.meets (L9 (l.getD i.toNat []) (F.held.getD i.toNat 0)) {F with todo:=t} (behind l.length i (l.getD i.toNat []))
structure Fl.OK (n:Nat) (F:Fl):Prop where
 held:F.held.length=n
 ph:F.ph.length=n
 bits:∀h∈F.held,0≤h∧h≤255
 todo:∀i∈F.todo,0≤i∧i<n
def aen(l:List Int):Nat:=(l.map Int.toNat).sum
def aeo(l:List Bool):Nat:=(l.map λb=>if b then 0 else 1).sum
def Fl.mu(F:Fl):Nat:=3*(aen F.held+aeo F.ph)+F.todo.length
theorem aep:∀{l:List Int} {i:Nat} {a:Int},i<l.length→aen (l.set i a)+(l.getD i 0).toNat=aen l+a.toNat
 |[],i,a,h=>by simp at h
 |x::l,0,a,h=>by simp[aen];omega
 |x::l,i+1,a,h=>by
  have:=aep (l:=l) (i:=i) (a:=a) (by simpa using h)
  simp[aen]at this ⊢;omega
theorem aeq:∀{l:List Bool} {i:Nat},i<l.length→aeo (l.set i true)+(if l.getD i false then 0 else 1)=aeo l
 |[],i,h=>by simp at h
 |x::l,0,h=>by cases x<;>simp[aeo] <;>omega
 |x::l,i+1,h=>by
  have:=aeq (l:=l) (i:=i) (by simpa using h)
  simp[aeo]at this ⊢;omega
theorem I1{n:Nat}{F:Fl}{i hv:Int}(h:F.OK n)(h0:0≤i)(h1:i<n):(F.meet i hv).OK n∧(F.meet i hv).mu≤F.mu:=by
 unfold Fl.meet;split
 ·exact⟨h,iN _⟩
 ·rename_i hst;have hi:i.toNat<F.held.length:=by rw[h.held];omega
  have hic:i.toNat<F.ph.length:=by rw[h.ph];omega
  have hb:=h.bits (F.held.getD i.toNat 0) (by
   have e:F.held.getD i.toNat 0=F.held[i.toNat]:=by simp[hi]
   rw[e];exact List.getElem_mem hi)
  have ha:=awN (b:=hv) hb.1 hb.2;refine⟨⟨by simp[h.held],by simp[h.ph],λx hx=> ?_,λz hz=> ?_⟩,?_⟩
  ·rcases List.mem_or_eq_of_mem_set hx with hx|rfl
   ·exact h.bits x hx
   ·unfold Fl.now;omega
  ·rcases B0.1 hz with hz|hz
   ·exact h.todo z hz
   ·simp at hz;omega
  ·have e1:=aep (a:=F.now i hv) hi;have e2:=aeq hic;simp only[Fl.mu,tW,List.length_singleton];unfold Fl.stay at hst;unfold Fl.now at e1 hst ⊢;cases Ux:F.ph.getD i.toNat false with
   |false=>rw[Ux]at e2;simp at e2;omega
   |true=>
    rw[Ux]at hst e2;simp only[Bool.true_and,beq_iff_eq]at hst;simp at e2;omega
theorem Sz{n:Nat}{hv:Int}:∀{zs:List Int} {F:Fl},F.OK n→(∀z∈zs,0≤z∧z<n)→(Fl.meets hv F zs).OK n∧(Fl.meets hv F zs).mu≤F.mu
 |[],F,h,_=>⟨h,iN _⟩
 |z::zs,F,h,hz=>by
  have h1:=I1 (hv:=hv) h (hz z bh).1 (hz z bh).2;have h2:=Sz (hv:=hv) (zs:=zs) h1.1 λy hy=>hz y (by simp[hy])
  exact⟨h2.1,Nat.le_trans h2.2 h1.2⟩
theorem I2{n:Nat}{i:Int}{x:List Int}(hn:n≤4294967296)(h0:0≤i)(h1:i<n):∀z∈behind n i x,0≤z∧z<n:=by
 intro z hz;have hw:aL .i64 (i+1)=i+1:=dQ ⟨ah,ah⟩;unfold behind at hz;rcases B0.1 hz with hz|hz
 ·split at hz
  ·rename_i hA;simp only[List.mem_singleton]at hz;subst hz;unfold yA at hA;simp only[iW,decide_eq_true_eq]at hA;exact hA.2
  ·cases hz
 ·split at hz
  ·rename_i hB;simp only[List.mem_singleton]at hz;subst hz;unfold yB at hB;simp only[iW,decide_eq_true_eq]at hB;rw[hw]at hB ⊢;exact⟨ah,hB.2⟩
  ·cases hz
theorem asV{l:List (List Int)}{F:Fl}(hn:l.length≤4294967296)(h:F.OK l.length)(ht:F.todo≠ []):(F.step l).OK l.length∧(F.step l).mu<F.mu:=by
 unfold Fl.step;split
 ·rename_i e;exact(ht e).elim
 ·rename_i i t e;have hi:=h.todo i (by rw[e];simp)
  have h':Fl.OK l.length {F with todo:=t}:=⟨h.held,h.ph,h.bits,λz hz=>h.todo z (by rw[e];simp[hz])⟩
  have h2:=Sz (hv:=L9 (l.getD i.toNat []) (F.held.getD i.toNat 0)) h' (I2 (x:=l.getD i.toNat []) hn hi.1 hi.2);refine⟨h2.1,Nat.lt_of_le_of_lt h2.2 ?_⟩;simp only[Fl.mu,e,List.length_cons];omega
theorem agh{G S:Type}{f:(S→aq)→S→aq}(I:G→S→aq)(μ:G→Nat){g:G}{s:S}{w:World}(h0:I g s w)
  (h:∀g s w,I g s w→∀C:S→aq,(∀g' s' w',I g' s' w'→μ g'<μ g→C s' w')→f C s w):jO f s w:=by
 have key:∀n g s w,μ g≤n→I g s w→jF f (n+1) s w:=by
  intro n;induction n with
  |zero=>intro g s w hn hI;exact h g s w hI _ λg' s' w' _ hlt=>by omega
  |succ n ih=>intro g s w hn hI;exact h g s w hI _ λg' s' w' hI' hlt=>ih g' s' w' ah hI'
 exact⟨_,key _ g s w (iN _) h0⟩
theorem aie(hv:Int)(F:Fl)(ks:List Int)(z:Int):F.meets hv (ks++[z])=(F.meets hv ks).meet z hv:=by simp[Fl.meets]
theorem LZ{n:Nat}{d:(Nat→bu)→bu}{Y:Nat→bu}{args:List Value}{w:World}{c:Value→aq}(h:d Y args w c):Cy [(n,d)] n Y args w c:=by
 unfold Cy;rw[Nat.beq_refl];exact h
theorem asW{Y:Nat→bu}{v:Value}{a b:Addr}{w:World}{c:Value→aq}(h:xe Y v a b w λr w=>c (.tuple #[]) w):ri Y [v,.pointer (some a),.pointer (some b)] w c:=h
theorem awO{w w':World}{g gp gh ga:Nat}{s:Sl}{F:Fl}{l:List (List Int)}{x:List Int}{i hv:Int}{nv:Value}{ds:List Nat}{C:Unit×List Nat→aq}
  (hS:St w w' [ax gh [.int .i64 hv],L8 g (s,F),ax gp [.pointer (some ⟨g,0,none⟩)],Iw ds,ax ga [nv,.slice s.a s.n s.c]]) (hr:wX w s l) (hF:F.OK l.length) (hmu:F.mu≤1000000) (hn:l.length≤1000) (XM:0≤i) (hx:l[i.toNat]?=some x)
  (hc:∀D w'',St w w'' [Iw (D::ds),L8 g (s,F.meets hv (behind l.length i x)),ax gp [.pointer (some ⟨g,0,none⟩)],ax ga [nv,.slice s.a s.n s.c]]→C ((),D::ds) w''):
  oy s i w' λv149 w150=>BM (Cy [(q9,ri)]) [.i .i64] v149 w150 (fun(x151:Int) w152 C153=>aR w152 ⟨gp,0,none⟩ λp156=>aN .i64 w152 ⟨gh,0,none⟩ λi157=>jr p156 x151 i157 w152 λ_u w158=>C153 w158) λarm w155=>C ((),arm::ds) w155:=by
 have hil:i.toNat<l.length:=(kO.1 hx).1;have xj:=hr.len;unfold oy;refine av hS λgc w1 hS=>av hS λgi w2 hS=> ?_;refine Sn hS λlr D R w3 hS=> ?_;refine LZ (asW (v:= .func (.yield lr) #[] #[]) (a:=⟨gc,0,none⟩) (b:=⟨gi,0,none⟩) ?_);refine aof (x:=x) (l:=l) (code:=s) (Lk:=λks=>[obj lr (R .ready),obj D (.deferred (some [])),ax gi [.int .i64 i],ax gc [.slice s.a s.n s.c],ax gh [.int .i64 hv],L8 g (s,F.meets hv ks),ax gp [.pointer (some ⟨g,0,none⟩)],Iw ds,ax ga [nv,.slice s.a s.n s.c]])
  hS XM hx (fun{w ks} h=>⟨?_,?_,hr.ext h.ext⟩) (fun{B ks z w c} h hp hcc=> ?_) λw4 h=> ?_
 ·rw[(h.ax (g:=gc) (cs:=[.slice s.a s.n s.c])).cell];rfl
 ·rw[(h.ax (g:=gi) (cs:=[.int .i64 i])).cell];rfl
 ·rw[xj]at hp;have hin:=I2 (x:=x) (n:=l.length) (i:=i) ah XM ah;have hpre:∀y∈ks++[z],0≤y∧y<l.length:=λy hy=>hin y (hp.subset hy);have hz:=hpre z bh;have hks:=Sz (hv:=hv) (zs:=ks) hF λy hy=>hpre y (by simp[hy])
  refine alY (l:=lr) (R:=R) (kk:=[.i .i64]) z (λc hc=>hc) h λw5 h=> ?_;refine B2 (g:=gp) (o:=0) h rfl (cv (g:=gh) (o:=0) h rfl ?_);have hlen:(F.meets hv ks).todo.length≤(F.meets hv ks).mu:=by unfold Fl.mu;omega
  have akv:=hks.2;refine amI (g:=g) (code:=s) (F:=F.meets hv ks) h hz.1 (by rw[hks.1.held];exact hz.2) (by rw[hks.1.held,hks.1.ph]) ah λw6 h=> ?_
  rw[←aie]at h;exact abk (g:=lr) (o:=R .busy) (o':=R .ready) (c:=c (.bool true)) h λw7 h=>hcc w7 h
 ·have e:behind s.n i x=behind l.length i x:=by rw[xj]
  simp only[e]at h;refine abk (g:=lr) (o:=R .ready) (o':=R .exhausted) (c:=C ((),D::ds)) h λw5 h=>hc D w5 ?_;have h:=h.perm (M:=[obj D (.deferred (some [])),Iw ds,L8 g (s,F.meets hv (behind l.length i x)),ax gp [.pointer (some ⟨g,0,none⟩)],ax ga [nv,.slice s.a s.n s.c],obj lr (R .exhausted),ax gi [.int .i64 i],ax gc [.slice s.a s.n s.c],ax gh [.int .i64 hv]]) GL;have h:=K8 h;exact((((h.rm 7 rfl).rm 6 rfl).rm 5 rfl).rm 4 rfl)
theorem bU{S:Type}{body:(S→aq)→Prop}{rest:S→aq}(Inv:S→aq)(h2:∀J:S→aq,(∀s w,Inv s w→J s w)→body J)(h1:∀s w,Inv s w→rest s w):cD body rest:=h2 rest h1
def AB(g gp ga:Nat)(s s1 s2:Sl)(aY:Int)(n:Nat):List HP:=[ax g [.slice s.a s.n s.c,.slice s1.a s1.n s1.c,.slice s2.a s2.n s2.c,.slice none 0 0],bQ 1 s1 (dM n (.int .i64 0)),bQ 1 s2 (dM n (.bool false)),ax gp [.pointer (some ⟨g,0,none⟩)],ax ga [.int .i64 aY,.slice s.a s.n s.c]]
def amJ(w:World)(ga:Nat)(s:Sl)(aY:Int)(a:Addr)(w':World):Prop:=∃g gp s1 s2,a=⟨gp,0,none⟩∧s1.n=s.n∧St w w' (AB g gp ga s s1 s2 aY s.n)
theorem leaf{w w':World}{g gp ga:Nat}{s s1 s2:Sl}{aY:Int}{L:List HP}{J:Addr→aq}(hJ:∀a w',amJ w ga s aY a w'→J a w')(h:St w w' L)(n1:s1.n=s.n)(hp:L.Perm (AB g gp ga s s1 s2 aY s.n)):J ⟨gp,0,none⟩ w':=
 hJ _ _ ⟨g,gp,s1,s2,rfl,n1,h.perm hp⟩
def Ec(n:Nat):Fl:=⟨dM n 255,dM n false,[]⟩
def Fl.steps(l:List (List Int)):Nat→Fl→Fl
 |0,F=>F
 |m+1,F=>(Fl.steps l m F).step l
def Reached(l:List (List Int))(aY:Int)(F:Fl):Prop:=F.todo=[]∧(l=[]→F=Ec 0)∧(l≠ []→∃m,F=Fl.steps l m ((Ec l.length).meet 0 (og .i64 aY 255)))
theorem amK(n:Nat):(Ec n).OK n:=⟨by simp[Ec],by simp[Ec],λh hh=>by simp[Ec]at hh;omega,λi hi=>by simp[Ec]at hi⟩
theorem awP{w:World}{s:Sl}{aY:Int}{l:List (List Int)}{k:Sl→aq}(hr:wX w s l)(hn:s.n≤1000)
  (hc:∀F s' w',Reached l aY F→St w w' [bQ 1 s' (ints F.held)]→k s' w'):oX #[.int .i64 aY,.slice s.a s.n s.c] w k:=by
 unfold oX Ku;refine av (.nil w) λga w2 h0=> ?_;refine eu (g:=ga) (o:=1) h0 rfl ?_;refine bU (amJ w ga s aY) (λJ hJ=> ?_) λa75 w76 hI=> ?_
 ·refine aK h0 λw5 h=>eu (g:=ga) (o:=1) h rfl ?_;have h5:=h;refine⟨?_,?_⟩
  ·refine As (n:=s.n) h (elI bf) rfl ah ah λs1 _ h n1=>eU h5 h ?_;refine⟨?_,?_⟩
   ·refine As (n:=s.n) h (elB bf) rfl ah ah λs2 _ h _=>eU h5 h ?_;refine⟨?_,?_⟩
    ·refine⟨?_,?_⟩
     ·refine av h λg _ h=> ?_;refine av h λgp _ h=>eU h5 h ?_;refine jR (g:=gp) h rfl bh λ_ h=>leaf (g:=g) (s2:=s2) hJ h n1 ?_;unfold AB;repeat' (first|exact List.Perm.refl _|refine bD 0 rfl ?_|refine bD 1 rfl ?_|refine bD 2 rfl ?_|refine bD 3 rfl ?_|refine bD 4 rfl ?_|refine bD 5 rfl ?_|refine bD 6 rfl ?_|refine bD 7 rfl ?_)
     ·refine av h λgp _ h=>eU h5 h ?_;refine av h λg _ h=> ?_;refine jR (g:=gp) h rfl bh λ_ h=>leaf (g:=g) (s2:=s2) hJ h n1 ?_;unfold AB;repeat' (first|exact List.Perm.refl _|refine bD 0 rfl ?_|refine bD 1 rfl ?_|refine bD 2 rfl ?_|refine bD 3 rfl ?_|refine bD 4 rfl ?_|refine bD 5 rfl ?_|refine bD 6 rfl ?_|refine bD 7 rfl ?_)
    ·refine av h λgp _ h=>eU h5 h ?_;refine av h λg _ h=> ?_;refine jR (g:=gp) h rfl bh λ_ h=>leaf (g:=g) (s2:=s2) hJ h n1 ?_;unfold AB;repeat' (first|exact List.Perm.refl _|refine bD 0 rfl ?_|refine bD 1 rfl ?_|refine bD 2 rfl ?_|refine bD 3 rfl ?_|refine bD 4 rfl ?_|refine bD 5 rfl ?_|refine bD 6 rfl ?_|refine bD 7 rfl ?_)
   ·refine av h λgp _ h=>eU h5 h ?_;refine As (n:=s.n) h (elB bf) rfl ah ah λs2 _ h _=>eU h5 h ?_;refine av h λg _ h=> ?_;refine jR (g:=gp) h rfl bh λ_ h=>leaf (g:=g) (s2:=s2) hJ h n1 ?_;unfold AB;repeat' (first|exact List.Perm.refl _|refine bD 0 rfl ?_|refine bD 1 rfl ?_|refine bD 2 rfl ?_|refine bD 3 rfl ?_|refine bD 4 rfl ?_|refine bD 5 rfl ?_|refine bD 6 rfl ?_|refine bD 7 rfl ?_)
  ·refine⟨?_,?_⟩
   ·refine As (n:=s.n) h (elB bf) rfl ah ah λs2 _ h _=>eU h5 h ?_;refine⟨?_,?_⟩
    ·refine As (n:=s.n) h (elI bf) rfl ah ah λs1 _ h n1=>eU h5 h ?_;refine⟨?_,?_⟩
     ·refine⟨?_,?_⟩
      ·refine av h λg _ h=> ?_;refine av h λgp _ h=>eU h5 h ?_;refine jR (g:=gp) h rfl bh λ_ h=>leaf (g:=g) (s2:=s2) hJ h n1 ?_;unfold AB;repeat' (first|exact List.Perm.refl _|refine bD 0 rfl ?_|refine bD 1 rfl ?_|refine bD 2 rfl ?_|refine bD 3 rfl ?_|refine bD 4 rfl ?_|refine bD 5 rfl ?_|refine bD 6 rfl ?_|refine bD 7 rfl ?_)
      ·refine av h λgp _ h=>eU h5 h ?_;refine av h λg _ h=> ?_;refine jR (g:=gp) h rfl bh λ_ h=>leaf (g:=g) (s2:=s2) hJ h n1 ?_;unfold AB;repeat' (first|exact List.Perm.refl _|refine bD 0 rfl ?_|refine bD 1 rfl ?_|refine bD 2 rfl ?_|refine bD 3 rfl ?_|refine bD 4 rfl ?_|refine bD 5 rfl ?_|refine bD 6 rfl ?_|refine bD 7 rfl ?_)
     ·refine av h λgp _ h=>eU h5 h ?_;refine av h λg _ h=> ?_;refine jR (g:=gp) h rfl bh λ_ h=>leaf (g:=g) (s2:=s2) hJ h n1 ?_;unfold AB;repeat' (first|exact List.Perm.refl _|refine bD 0 rfl ?_|refine bD 1 rfl ?_|refine bD 2 rfl ?_|refine bD 3 rfl ?_|refine bD 4 rfl ?_|refine bD 5 rfl ?_|refine bD 6 rfl ?_|refine bD 7 rfl ?_)
    ·refine av h λgp _ h=>eU h5 h ?_;refine As (n:=s.n) h (elI bf) rfl ah ah λs1 _ h n1=>eU h5 h ?_;refine av h λg _ h=> ?_;refine jR (g:=gp) h rfl bh λ_ h=>leaf (g:=g) (s2:=s2) hJ h n1 ?_;unfold AB;repeat' (first|exact List.Perm.refl _|refine bD 0 rfl ?_|refine bD 1 rfl ?_|refine bD 2 rfl ?_|refine bD 3 rfl ?_|refine bD 4 rfl ?_|refine bD 5 rfl ?_|refine bD 6 rfl ?_|refine bD 7 rfl ?_)
   ·refine av h λgp _ h=>eU h5 h ?_;refine⟨?_,?_⟩
    ·refine As (n:=s.n) h (elI bf) rfl ah ah λs1 _ h n1=>eU h5 h ?_;refine As (n:=s.n) h (elB bf) rfl ah ah λs2 _ h _=>eU h5 h ?_;refine av h λg _ h=> ?_;refine jR (g:=gp) h rfl bh λ_ h=>leaf (g:=g) (s2:=s2) hJ h n1 ?_;unfold AB;repeat' (first|exact List.Perm.refl _|refine bD 0 rfl ?_|refine bD 1 rfl ?_|refine bD 2 rfl ?_|refine bD 3 rfl ?_|refine bD 4 rfl ?_|refine bD 5 rfl ?_|refine bD 6 rfl ?_|refine bD 7 rfl ?_)
    ·refine As (n:=s.n) h (elB bf) rfl ah ah λs2 _ h _=>eU h5 h ?_;refine As (n:=s.n) h (elI bf) rfl ah ah λs1 _ h n1=>eU h5 h ?_;refine av h λg _ h=> ?_;refine jR (g:=gp) h rfl bh λ_ h=>leaf (g:=g) (s2:=s2) hJ h n1 ?_;unfold AB;repeat' (first|exact List.Perm.refl _|refine bD 0 rfl ?_|refine bD 1 rfl ?_|refine bD 2 rfl ?_|refine bD 3 rfl ?_|refine bD 4 rfl ?_|refine bD 5 rfl ?_|refine bD 6 rfl ?_|refine bD 7 rfl ?_)
 ·obtain⟨g,gp,s1,s2,rfl,n1,h⟩:=hI;unfold AB at h;have qW:=Yh s.n;simp only[qW]at h;refine B2 (g:=gp) (o:=0) (n:=some ⟨g,0,none⟩) h rfl (an (eu (g:=g) (o:=1) h rfl ?_));refine bU (λ_ w'=>St w w' [ax g [.slice s.a s.n s.c,.slice s1.a s1.n s1.c,.slice s2.a s2.n s2.c,.slice none 0 0],bQ 1 s1 (ints (dM s.n 255)),bQ 1 s2 (dM s.n (.bool false)),ax gp [.pointer (some ⟨g,0,none⟩)],ax ga [.int .i64 aY,.slice s.a s.n s.c]]) (λJ hJ=> ?_) λ_ w90 h=> ?_
  ·refine pT (fun(i:Int) w'=> ∃j:Nat,i=j∧j≤s.n∧St w w' [ax g [.slice s.a s.n s.c,.slice s1.a s1.n s1.c,.slice s2.a s2.n s2.c,.slice none 0 0],bQ 1 s1 (ints (dM j 255++dM (s.n - j) 0)),bQ 1 s2 (dM s.n (.bool false)),ax gp [.pointer (some ⟨g,0,none⟩)],ax ga [.int .i64 aY,.slice s.a s.n s.c]])
    (λi _=>((s.n:Int) - i).toNat) ⟨0,rfl,ah,by simpa using h⟩ ?_
   rintro i w83 ⟨j,rfl,hj,h⟩ C hC;refine aF (λhb=> ?_) λhb=> ?_
   ·simp only[decide_eq_true_eq]at hb;refine B2 (g:=gp) (o:=0) (n:=some ⟨g,0,none⟩) h rfl (an (eu (g:=g) (o:=1) h rfl (zf (s:=s1) (xs:=dM j 255++dM (s.n - j) 0) h ah (by simp;omega) λw88 h=> ?_)))
    have hw:aL .i64 ((j:Int)+1)=((j+1:Nat):Int):=by rw[dQ ⟨ah,ah⟩];simp
    rw[hw];refine hC _ _ ⟨j+1,rfl,ah,?_⟩ ah;have e:(dM j (255:Int)++dM (s.n - j) 0).set ((j:Int)).toNat 255=dM (j+1) 255++dM (s.n - (j+1)) 0:=by
     have e1:s.n - j=(s.n - (j+1))+1:=ah;rw[kY,List.set_append_right (h:=by simp),e1,List.length_replicate,Nat.sub_self,List.replicate_succ (n:=s.n - (j+1)),List.set_cons_zero,List.replicate_succ' (n:=j),List.append_assoc];rfl
    rw[e]at h;exact h
   ·simp only[decide_eq_false_iff_not]at hb;have e:j=s.n:=ah;subst e;refine hJ () _ ?_;simpa using h
  ·have xj:=hr.len;refine aF (λh0'=> ?_) λh0'=> ?_
   ·have hz:s.n=0:=by
     have:(s.n:Int)=0:=by simpa using h0'
     omega
    have hl:l=[]:=List.eq_nil_of_length_eq_zero ah;refine B2 (g:=gp) (o:=0) (n:=some ⟨g,0,none⟩) h rfl (an (eu (g:=g) (o:=1) h rfl ?_));refine hc (Ec 0) s1 w90 ⟨rfl,λ_=>rfl,λhne=>(hne hl).elim⟩ ?_;have e:ints (dM s.n 255)=ints (Ec 0).held:=by rw[hz];rfl
    rw[←e];exact(((h.rm 4 rfl).rm 3 rfl).rm 2 rfl).rm 0 rfl
   ·have hz:s.n≠0:=by
     have:¬(s.n:Int)=0:=by simpa using h0'
     omega
    have hb0:=asU s.n;have h:=h.Jx 1;simp only[hb0]at h;have h:St w w90 [L8 g (s,Ec s.n),ax gp [.pointer (some ⟨g,0,none⟩)],ax ga [.int .i64 aY,.slice s.a s.n s.c]]:=
     Vp (F:=Ec s.n) (s1:=s1) (s2:=s2) (s3:=⟨none,0,0⟩) (h.perm (by unfold Ec;repeat' (first|exact List.Perm.refl _|refine bD 0 rfl ?_|refine bD 1 rfl ?_|refine bD 2 rfl ?_|refine bD 3 rfl ?_|refine bD 4 rfl ?_|refine bD 5 rfl ?_|refine bD 6 rfl ?_|refine bD 7 rfl ?_)))
    refine B2 (g:=gp) (o:=0) (n:=some ⟨g,0,none⟩) h rfl (cv (g:=ga) (o:=0) h rfl ?_);refine amI (g:=g) (code:=s) (F:=Ec s.n) h ah (by simp[Ec];omega) (by simp[Ec]) (by simp[Ec]) λw96 h=> ?_
    have h:=Ql h;have hm0:=I1 (hv:=og .i64 aY 255) (i:=0) (amK l.length) ah ah;have aF7:(Ec l.length).mu≤1000000:=by simp[Fl.mu,Ec,aen,aeo];omega
    refine agh (G:=Fl) (λF x w'=>F.OK l.length∧F.mu≤1000000∧(∃m,F=Fl.steps l m ((Ec l.length).meet 0 (og .i64 aY 255)))∧St w w' [Iw x.2,L8 g (s,F),ax gp [.pointer (some ⟨g,0,none⟩)],ax ga [.int .i64 aY,.slice s.a s.n s.c]]) Fl.mu
     (g:=(Ec s.n).meet 0 (og .i64 aY 255)) ⟨by rw[xj];exact hm0.1,by rw[xj];have:=hm0.2;omega,⟨0,by rw[xj];rfl⟩,h⟩ ?_
    rintro F x w99 ⟨hF,hmu,⟨m,hm⟩,h⟩ C hC;obtain⟨t1,t2,t3,h⟩:=acf h.swap;refine B2 (g:=gp) (o:=0) (n:=some ⟨g,0,none⟩) h rfl (an (eu (g:=g) (o:=3) h rfl ?_));have hn3:F.todo.length=t3.n:=by have:=h.FR (sz:=1) (s:=t3) (vs:=ints F.todo);simpa using this
    refine aF (λhe=> ?_) λhe=> ?_
    ·have he':(t3.n:Int)=0:=by simpa using he
     have hnil:F.todo=[]:=List.eq_nil_of_length_eq_zero ah;refine B2 (g:=gp) (o:=0) (n:=some ⟨g,0,none⟩) h rfl (an (eu (g:=g) (o:=1) h rfl ?_));refine K9 (h.front 4 rfl) λw' h=>hc F t1 w' ⟨hnil,λhl=> ?_,λ_=>⟨m,hm⟩⟩ ?_
     ·rw[hl]at xj;exact(hz xj).elim
     ·exact((((h.rm 5 rfl).rm 4 rfl).rm 3 rfl).rm 2 rfl).rm 0 rfl
    ·have he':¬(t3.n:Int)=0:=by simpa using he
     obtain⟨i,t,hti⟩:∃i t,F.todo=i::t:=by
      cases e:F.todo with
      |nil=>rw[e]at hn3;simp at hn3;omega
      |cons i t=>exact⟨i,t,rfl⟩
     have hi:=hF.todo i (by rw[hti];simp)
     have hg0:F.todo.getD (0:Int).toNat 0=i:=by rw[hti];rfl
     refine B2 (g:=gp) (o:=0) (n:=some ⟨g,0,none⟩) h rfl (an (eu (g:=g) (o:=3) h rfl (AQ (s:=t3) (xs:=F.todo) h ah ah ?_)));rw[hg0];refine aK h λw112 h=>B2 (g:=gp) (o:=0) (n:=some ⟨g,0,none⟩) h rfl (B2 (g:=gp) (o:=0) (n:=some ⟨g,0,none⟩) h rfl (an (eu (g:=g) (o:=3) h rfl ?_)));refine ap6 (s:=t3) (vs:=ints F.todo) h ah ah λd hd h=>an (jR (g:=g) (o:=3) h rfl bh λw119 h=> ?_);refine B2 (g:=gp) (o:=0) (n:=some ⟨g,0,none⟩) h rfl (an (eu (g:=g) (o:=1) h rfl (AQ (s:=t1) (xs:=F.held) h hi.1 (by rw[hF.held];exact hi.2) ?_)))
     refine av h λgh w126 h=>jR (g:=gh) (o:=0) h rfl bh λw127 h=> ?_;have hil:i.toNat<l.length:=ah;have hx:l[i.toNat]?=some l[i.toNat]:=kq hil;have aak:l=l.take i.toNat++l[i.toNat]::l.drop (i.toNat+1):=by rw[List.getElem_cons_drop,List.take_append_drop]
     generalize hxe:l[i.toNat]=x5 at hx aak;refine eu (g:=ga) (o:=1) h rfl (ixC (hr.ext h.ext) aak (by simp;omega) λp h5 hp=>GK (by simp[Go.Ev.ints,h5]) hp ?_)
     refine av h λgx w132 h=>mW (g:=gx) h rfl (by simp[Go.Ev.ints,h5]) (by simp[Go.Ev.ints,Value.oneCell']) λw133 h=> ?_
     have ld:∀{o:Nat} {c:Int→Prop},o<5→c (x5.getD o 0)→aN .i64 w133 (aX ⟨gx,0,none⟩ o) c:=by
      intro o c ho hc;have:=cv (g:=gx) (o:=o) (k:= .i64) (n:=x5.getD o 0) (c:=c) h (by simpa using mQ (x:=x5) (j:=o) ah) hc
      rw[c8,Nat.zero_add];exact this
     refine bU (λb w'=>b=decide (fU x5=8∧0≤x5.getD 1 0∧x5.getD 1 0<8)∧w'=w133) (λJ hJ=> ?_) ?_
     ·refine ld ah (aF (λhb=> ?_) λhb=> ?_)
      ·have hb':fU x5=8:=by simpa using hb
       refine ld ah (aF (λjP=> ?_) λjP=> ?_)
       ·refine ld ah (hJ _ _ ⟨?_,rfl⟩);have:=of_decide_eq_true jP;rw[decide_eq_decide];exact⟨λh=>⟨hb',this,h⟩,λh=>h.2.2⟩
       ·have:=of_decide_eq_false jP;exact hJ _ _ ⟨(decide_eq_false λh=>this h.2.1).symm,rfl⟩
      ·have hb':¬fU x5=8:=by simpa using hb
       exact hJ _ _ ⟨(decide_eq_false λh=>hb' h.1).symm,rfl⟩
     rintro b w139 ⟨rfl,rfl⟩;have e1:(ints F.todo).drop ((1:Int).toNat*1)=ints t:=by rw[hti];rfl
     simp only[e1]at h;have h:St w w139 [L8 g (s,{F with todo:=t}),ax gh [.int .i64 (F.held.getD i.toNat 0)],ax gx (Go.Ev.ints x5),ax gp [.pointer (some ⟨g,0,none⟩)],Iw x.2,ax ga [.int .i64 aY,.slice s.a s.n s.c]]:=
      Vp (F:={F with todo:=t}) (s1:=t1) (s2:=t2) (s3:=d) (h.perm GL)
     refine bU (λ_ w'=>St w w' [L8 g (s,{F with todo:=t}),ax gh [.int .i64 (L9 x5 (F.held.getD i.toNat 0))],ax gx (Go.Ev.ints x5),ax gp [.pointer (some ⟨g,0,none⟩)],Iw x.2,ax ga [.int .i64 aY,.slice s.a s.n s.c]]) (λJ hJ=> ?_) λ_ w147 h=> ?_
     ·refine aF (λhb=> ?_) λhb=> ?_
      ·have hb':=of_decide_eq_true hb;refine aK h λw137 h=>cv (g:=gh) (o:=0) h rfl ?_;have ld2:=cv (g:=gx) (o:=1) (k:= .i64) (n:=x5.getD 1 0) (c:=λi143=>G6 .i64 1 i143 λi144=>bJ w137 ⟨gh,0,none⟩ (.int .i64 (SH .i64 (F.held.getD i.toNat 0) i144)) λw141=>J () w141) h (mQ ah);refine ld2 ⟨hb'.2.1,?_⟩;refine jR (g:=gh) (o:=0) h rfl bh λw141 h=>hJ () _ ?_;unfold L9;rw[if_pos hb'];exact h
      ·have hb':=of_decide_eq_false hb;refine hJ () _ ?_;unfold L9;rw[if_neg hb'];exact h
     refine eu (g:=ga) (o:=1) h rfl ?_;have hF1:Fl.OK l.length {F with todo:=t}:=⟨hF.held,hF.ph,hF.bits,λz hz=>hF.todo z (by rw[hti];simp[hz])⟩
     have hm1:Fl.mu {F with todo:=t}≤F.mu:=by simp only[Fl.mu,hti,List.length_cons];omega
     have hst:F.step l=Fl.meets (L9 x5 (F.held.getD i.toNat 0)) {F with todo:=t} (behind l.length i x5):=by
      have e:l.getD i.toNat []=x5:=by simp[hx]
      unfold Fl.step;rw[hti];simp only[e]
     have Io:=asV (l:=l) ah hF (by rw[hti];simp)
     have h:=(h.rm 2 rfl).perm (M:=[ax gh [.int .i64 (L9 x5 (F.held.getD i.toNat 0))],L8 g (s,{F with todo:=t}),ax gp [.pointer (some ⟨g,0,none⟩)],Iw x.2,ax ga [.int .i64 aY,.slice s.a s.n s.c]]) GL;refine awO (g:=g) (gp:=gp) (gh:=gh) (ga:=ga) (x:=x5) (ds:=x.2) h hr hF1 ah ah hi.1 hx λD w'' h=> ?_;rw[←hst]at h;exact hC (F.step l) _ _ ⟨Io.1,ah,⟨m+1,by show F.step l=(Fl.steps l m _).step l;rw[←hm]⟩,h⟩ Io.2
structure Wy where
 out:List Bool
 todo:List Int
def wV(x:List Int)(h:Int):Bool:=(fU x==8)&&(x.getD 1 0==h)
def W0(n:Nat):Wy:=⟨(dM n false).set 0 true,[0]⟩
inductive Way (l:List (List Int)) (h:Int):Int→Prop
 |zero:Way l h 0
 |next {i z:Int}:Way l h i→wV (l.getD i.toNat []) h=false→z∈behind l.length i (l.getD i.toNat [])→Way l h z
theorem JY(x y:Int){i:Nat}(h:i<64):tb (og .i64 x y) i=(tb x i&&tb y i):=by
 unfold tb;rw[Qg,C0];simp
theorem aAa(x y:Int){i:Nat}(h:i<64):tb (SH .i64 x y) i=(tb x i||tb y i):=by
 unfold tb;rw[afi,C0];simp
theorem agi{a:Int}{h:Nat}(h0:0≤a)(h1:a<8)(hh:h<8):tb (sx .i64 1 a) h=decide (a=(h:Int)):=by
 have key:∀a:Nat,a<8→∀h:Nat,h<8→tb (sx .i64 1 (a:Int)) h=decide (a=h):=gD;have:=key a.toNat ah h hh;rw[Int.toNat_of_nonneg h0]at this;rw[this,decide_eq_decide];omega
theorem asX{h:Nat}(hh:h<8):tb 255 h=true:=by
 have key:∀h:Nat,h<8→tb 255 h=true:=gD;exact key h hh
theorem agj{x:List Int}{v:Int}{h:Nat}(hh:h<8):tb (L9 x v) h=(tb v h||wV x h):=by
 unfold L9 wV;by_cases ho:fU x=8
 ·by_cases ha:0≤x.getD 1 0∧x.getD 1 0<8
  ·rw[if_pos ⟨ho,ha⟩,aAa _ _ ah,agi ha.1 ha.2 hh];congr 1;have e8:(fU x==8)=true:=by simpa using ho
   rw[e8,Bool.true_and];rfl
  ·rw[if_neg (λq=>ha q.2)];have:(x.getD 1 0==(h:Int))=false:=by
    rw[beq_eq_false_iff_ne];intro e;exact ha ⟨ah,ah⟩
   rw[this];simp
 ·rw[if_neg (λq=>ho q.1)];have:(fU x==8)=false:=by simpa using ho
  rw[this];simp
def rs(f:Nat→Bool):Nat→Int
 |0=>0
 |h+1=>rs f h+if f h then 2 ^ h else 0
theorem SA{f g:Nat→Bool}:∀{n:Nat},(∀h,h<n→f h=g h)→rs f n=rs g n
 |0,_=>rfl
 |n+1,hfg=>by simp only[rs];rw[SA (n:=n) λh hh=>hfg h ah,hfg n ah]
theorem akw{v:Int}(h0:0≤v)(h1:v≤255):rs (tb v) 8=v:=by
 have key:∀n:Fin 256,rs (tb ((n.val:Nat):Int)) 8=((n.val:Nat):Int):=gD;have:=key ⟨v.toNat,ah⟩;simp only at this;rwa[Int.toNat_of_nonneg h0]at this
theorem akx(f:Nat→Bool):∀n:Nat,0≤rs f n∧rs f n<2 ^ n
 |0=>by simp[rs]
 |n+1=>by
  have:=akx f n;simp only[rs];rw[Int.pow_succ];split<;>omega
theorem aAb{f:Nat→Bool}{h:Nat}(hh:h<8):tb (rs f 8) h=f h:=by
 have key:∀a b c d e f g i:Bool,∀h:Nat,h<8→tb (rs (λn=>([a,b,c,d,e,f,g,i].getD n false)) 8) h=([a,b,c,d,e,f,g,i].getD h false):=gD;have:=key (f 0) (f 1) (f 2) (f 3) (f 4) (f 5) (f 6) (f 7) h hh;rw[show rs f 8=rs (λn=>([f 0,f 1,f 2,f 3,f 4,f 5,f 6,f 7].getD n false)) 8 from SA λh hh=>by
  match h,hh with
  |0,_=>rfl
  |1,_=>rfl
  |2,_=>rfl
  |3,_=>rfl
  |4,_=>rfl
  |5,_=>rfl
  |6,_=>rfl
  |7,_=>rfl,this]
 match h,hh with
  |0,_=>rfl
  |1,_=>rfl
  |2,_=>rfl
  |3,_=>rfl
  |4,_=>rfl
  |5,_=>rfl
  |6,_=>rfl
  |7,_=>rfl
open Classical in
noncomputable def YA (l:List (List Int)) (aY i:Int) (h:Nat):Bool:=tb aY h|| !decide (Way l h i)
noncomputable def rX (l:List (List Int)) (aY:Int):List Int:=(List.range l.length).map fun(i:Nat)=>rs (YA l aY (i:Int)) 8
theorem Vq(l:List (List Int))(aY:Int):(rX l aY).length=l.length:=by simp[rX]
theorem acg{l:List (List Int)}{aY:Int}{i:Nat}(h:i<l.length):(rX l aY).getD i 0=rs (YA l aY i) 8:=by
 simp[rX,h]
theorem Vr{l:List (List Int)}{aY i:Int}{h:Nat}:YA l aY i h=true↔(tb aY h=true∨¬Way l h i):=by
 unfold YA;simp
section
variable {n:Nat} {F:Fl} {z hv:Int}
theorem meet_mono(hF:F.OK n)(h0:0≤z)(h1:z<n){j h:Nat}(hh:h<8):
  (F.ph.getD j false=true→(F.meet z hv).ph.getD j false=true)∧(tb (F.held.getD j 0) h=false→tb ((F.meet z hv).held.getD j 0) h=false)∧(∀y∈F.todo,y∈(F.meet z hv).todo):=by
 unfold Fl.meet;split
 ·exact⟨id,id,λ_ h=>h⟩
 ·have hz:z.toNat<F.held.length:=by rw[hF.held];omega
  have hzc:z.toNat<F.ph.length:=by rw[hF.ph];omega
  refine⟨λhc=> ?_,λhb=> ?_,λy hy=>List.mem_append_left _ hy⟩
  ·simp only[nr,List.getElem?_set];split
   ·simp[hzc]
   ·simpa using hc
  ·simp only[nr,List.getElem?_set];split
   ·rename_i e;subst e;simp only[hz,↓reduceIte,Option.getD_some];unfold Fl.now;rw[JY _ _ ah,hb];rfl
   ·simpa using hb
theorem aky(hF:F.OK n)(h0:0≤z)(h1:z<n){j:Nat}:
  ((F.meet z hv).held.getD j 0=F.held.getD j 0∧(F.meet z hv).ph.getD j false=F.ph.getD j false)∨(j:Int)∈(F.meet z hv).todo:=by
 unfold Fl.meet;split
 ·exact .inl ⟨rfl,rfl⟩
 ·by_cases e:z.toNat=j
  ·right;have:(j:Int)=z:=ah;rw[this];simp
  ·left;simp[nr,List.getElem?_set,e]
theorem akz(hF:F.OK n)(h0:0≤z)(h1:z<n){h:Nat}(hh:h<8):
  (F.meet z hv).ph.getD z.toNat false=true∧(tb hv h=false→tb ((F.meet z hv).held.getD z.toNat 0) h=false):=by
 have hz:z.toNat<F.held.length:=by rw[hF.held];omega
 have hzc:z.toNat<F.ph.length:=by rw[hF.ph];omega
 unfold Fl.meet;split
 ·rename_i hs;unfold Fl.stay at hs;simp only[iW,beq_iff_eq]at hs;refine⟨hs.1,λhb=> ?_⟩;rw[←hs.2];unfold Fl.now;rw[JY _ _ ah,hb,Bool.and_false]
 ·refine⟨by simp[nr,hzc],λhb=> ?_⟩
  simp only[nr,List.getElem?_set,hz,↓reduceIte,Option.getD_some];unfold Fl.now;rw[JY _ _ ah,hb,Bool.and_false]
theorem aif(hF:F.OK n)(h0:0≤z)(h1:z<n){j h:Nat}(hh:h<8)(hb:tb ((F.meet z hv).held.getD j 0) h=false):tb (F.held.getD j 0) h=false∨((j:Int)=z∧tb hv h=false):=by
 have hz:z.toNat<F.held.length:=by rw[hF.held];omega
 unfold Fl.meet at hb;split at hb
 ·exact .inl hb
 ·by_cases e:z.toNat=j
  ·subst e;simp only[nr,List.getElem?_set,hz,↓reduceIte,Option.getD_some]at hb;unfold Fl.now at hb;rw[JY _ _ ah]at hb;simp only[Bool.and_eq_false_iff]at hb;rcases hb with hb|hb
   ·exact .inl hb
   ·exact .inr ⟨ah,hb⟩
  ·left;simpa[nr,List.getElem?_set,e]using hb
end
theorem vv{n:Nat}{hv:Int}{j h:Nat}(hh:h<8):∀{zs:List Int} {F:Fl},F.OK n→(∀z∈zs,0≤z∧z<n)→
  (F.ph.getD j false=true→(F.meets hv zs).ph.getD j false=true)∧(tb (F.held.getD j 0) h=false→tb ((F.meets hv zs).held.getD j 0) h=false)∧(∀y∈F.todo,y∈(F.meets hv zs).todo)
 |[],F,_,_=>⟨id,id,λ_ h=>h⟩
 |z::zs,F,hF,hz=>by
  have NX:=hz z bh;have h1:=meet_mono (hv:=hv) hF NX.1 NX.2 (j:=j) hh;have h2:=vv (hv:=hv) (j:=j) hh (zs:=zs) (I1 (hv:=hv) hF NX.1 NX.2).1 λy hy=>hz y (by simp[hy])
  exact⟨λq=>h2.1 (h1.1 q),λq=>h2.2.1 (h1.2.1 q),λy hy=>h2.2.2 y (h1.2.2 y hy)⟩
theorem Zo{n:Nat}{hv:Int}{j:Nat}:∀{zs:List Int} {F:Fl},F.OK n→(∀z∈zs,0≤z∧z<n)→
  ((F.meets hv zs).held.getD j 0=F.held.getD j 0∧(F.meets hv zs).ph.getD j false=F.ph.getD j false)∨(j:Int)∈(F.meets hv zs).todo
 |[],F,_,_=> .inl ⟨rfl,rfl⟩
 |z::zs,F,hF,hz=>by
  have NX:=hz z bh;have hok:=(I1 (hv:=hv) hF NX.1 NX.2).1;have hzs:∀y∈zs,0≤y∧y<n:=λy hy=>hz y (by simp[hy])
  rcases aky (hv:=hv) hF NX.1 NX.2 (j:=j)with h1|h1
  ·rcases Zo (hv:=hv) (j:=j) (zs:=zs) hok hzs with h2|h2
   ·exact .inl ⟨h2.1.trans h1.1,h2.2.trans h1.2⟩
   ·exact .inr h2
  ·exact .inr ((vv (h:=0) (j:=j) ah (zs:=zs) hok hzs).2.2 _ h1)
theorem RQ{n:Nat}{hv:Int}{h:Nat}(hh:h<8):∀{zs:List Int} {F:Fl},F.OK n→(∀z∈zs,0≤z∧z<n)→∀z∈zs,
  (F.meets hv zs).ph.getD z.toNat false=true∧(tb hv h=false→tb ((F.meets hv zs).held.getD z.toNat 0) h=false)
 |[],F,_,_=>λz hz=>by cases hz
 |z::zs,F,hF,hz=>by
  have NX:=hz z bh;have hok:=(I1 (hv:=hv) hF NX.1 NX.2).1;have hzs:∀y∈zs,0≤y∧y<n:=λy hy=>hz y (by simp[hy])
  intro y hy;rcases List.mem_cons.1 hy with rfl|hy
  ·have h1:=akz (hv:=hv) hF NX.1 NX.2 hh;have h2:=vv (hv:=hv) (j:=y.toNat) hh (zs:=zs) hok hzs;exact⟨h2.1 h1.1,λq=>h2.2.1 (h1.2 q)⟩
  ·exact RQ (hv:=hv) hh (zs:=zs) hok hzs y hy
theorem Xk{n:Nat}{hv:Int}{j h:Nat}(hh:h<8):∀{zs:List Int} {F:Fl},F.OK n→(∀z∈zs,0≤z∧z<n)→tb ((F.meets hv zs).held.getD j 0) h=false→
  tb (F.held.getD j 0) h=false∨((j:Int)∈zs∧tb hv h=false)
 |[],F,_,_=>λh=> .inl h
 |z::zs,F,hF,hz=>by
  have NX:=hz z bh;have hok:=(I1 (hv:=hv) hF NX.1 NX.2).1;have hzs:∀y∈zs,0≤y∧y<n:=λy hy=>hz y (by simp[hy])
  intro hb;rcases Xk (hv:=hv) (j:=j) hh (zs:=zs) hok hzs hb with h1|h1
  ·rcases aif (hv:=hv) hF NX.1 NX.2 hh h1 with h2|h2
   ·exact .inl h2
   ·exact .inr ⟨by simp[h2.1],h2.2⟩
  ·exact .inr ⟨by simp[h1.1],h1.2⟩
structure FI (l:List (List Int)) (aY:Int) (F:Fl):Prop where
 ok:F.OK l.length
 c0:F.ph.getD 0 false=true
 b0:∀h:Nat,h<8→tb aY h=false→tb (F.held.getD 0 0) h=false
 sound:∀i h:Nat,i<l.length→h<8→tb (F.held.getD i 0) h=false→tb aY h=false∧Way l h i
 ayD:∀i:Nat,i<l.length→F.ph.getD i false=true→(i:Int)∈F.todo∨∀z∈behind l.length i (l.getD i []),F.ph.getD z.toNat false=true∧∀h:Nat,h<8→tb (L9 (l.getD i []) (F.held.getD i 0)) h=false→tb (F.held.getD z.toNat 0) h=false
theorem FI.start{l:List (List Int)}{aY:Int}(hl:0<l.length):FI l aY ((Ec l.length).meet 0 (og .i64 aY 255)):=by
 have h0:=amK l.length;have hok:=(I1 (hv:=og .i64 aY 255) (i:=0) h0 ah ah).1;have e:(Ec l.length).meet 0 (og .i64 aY 255)=⟨(dM l.length 255).set 0 (og .i64 255 (og .i64 aY 255)),(dM l.length false).set 0 true,[0]⟩:=by
  have hs:(Ec l.length).stay 0 (og .i64 aY 255)=false:=by simp[Fl.stay,Ec,hl]
  unfold Fl.meet;rw[hs];simp[Ec,Fl.now,hl]
 have hhe:∀i:Nat,i<l.length→((Ec l.length).meet 0 (og .i64 aY 255)).held.getD i 0=if i=0 then og .i64 255 (og .i64 aY 255)else 255:=by
  intro i hi;rw[e];simp only[nr,List.getElem?_set];by_cases hz:i=0
  ·subst hz;simp[hl]
  ·have:¬0=i:=λq=>hz q.symm;simp[hz,this,hi]
 refine⟨hok,by rw[e];simp[hl],λh hh hb=> ?_,λi h hi hh hb=> ?_,λi hi hc=> ?_⟩
 ·rw[hhe 0 hl,if_pos rfl,JY _ _ ah,JY _ _ ah,hb];simp
 ·rw[hhe i hi]at hb;split at hb
  ·rename_i hz;subst hz;rw[JY _ _ ah,JY _ _ ah,asX hh]at hb;exact⟨by simpa using hb,.zero⟩
  ·rw[asX hh]at hb;cases hb
 ·left;rw[e]at hc ⊢;simp only[nr,List.getElem?_set]at hc;by_cases hz:i=0
  ·subst hz;simp
  ·have:¬0=i:=λq=>hz q.symm;simp[this,hi]at hc
theorem FI.step{l:List (List Int)}{aY:Int}{F:Fl}(hn:l.length≤4294967296)(h:FI l aY F):FI l aY (F.step l):=by
 unfold Fl.step;cases ht:F.todo with
 |nil=>exact h
 |cons i t=>
  have hi:=h.ok.todo i (by rw[ht];simp)
  have hok:Fl.OK l.length {F with todo:=t}:=⟨h.ok.held,h.ok.ph,h.ok.bits,λz hz=>h.ok.todo z (by rw[ht];simp[hz])⟩
  have hzs:=I2 (x:=l.getD i.toNat []) hn hi.1 hi.2;have hin:i.toNat<l.length:=ah;have hii:((i.toNat:Nat):Int)=i:=Int.toNat_of_nonneg hi.1;refine⟨(Sz hok hzs).1,(vv (h:=0) ah hok hzs).1 h.c0,λh' hh hb=>(vv hh hok hzs).2.1 (h.b0 h' hh hb),λj h' hj hh hb=> ?_,λj hj hc=> ?_⟩
  ·rcases Xk hh hok hzs hb with h1|⟨hjz,h1⟩
   ·exact h.sound j h' hj hh h1
   ·rw[agj hh]at h1;simp only[j5]at h1;have:=h.sound i.toNat h' hin hh h1.1;rw[hii]at this;exact⟨this.1,this.2.next h1.2 hjz⟩
  ·rcases Zo (j:=j) (hv:=L9 (l.getD i.toNat []) (F.held.getD i.toNat 0)) hok hzs with⟨h1,h2⟩|h1
   ·rw[h2]at hc;rw[h1];by_cases hji:j=i.toNat
    ·subst hji;right;intro z hz;rw[hii]at hz;exact⟨(RQ (h:=0) ah hok hzs z hz).1,λh' hh hb=>(RQ hh hok hzs z hz).2 hb⟩
    ·rcases h.ayD j hj hc with h3|h3
     ·left;rw[ht]at h3;rcases List.mem_cons.1 h3 with h3|h3
      ·omega
      ·exact(vv (h:=0) (j:=0) ah hok hzs).2.2 _ h3
     ·right;intro z hz;exact⟨(vv (h:=0) ah hok hzs).1 (h3 z hz).1,λh' hh hb=>(vv hh hok hzs).2.1 ((h3 z hz).2 h' hh hb)⟩
   ·exact .inl h1
theorem FI.steps{l:List (List Int)}{aY:Int}(hn:l.length≤4294967296){F:Fl}(h:FI l aY F):∀m,FI l aY (Fl.steps l m F)
 |0=>h
 |m+1=>(FI.steps hn h m).step hn
theorem FI.way{l:List (List Int)}{aY:Int}{F:Fl}(hn:l.length≤4294967296)(hl:0<l.length)(h:FI l aY F)(ht:F.todo=[]){h':Nat}(hh:h'<8)(hb:tb aY h'=false){i:Int}(hw:Way l h' i):
  (0≤i∧i<l.length)∧F.ph.getD i.toNat false=true∧tb (F.held.getD i.toNat 0) h'=false:=by
 induction hw with
 |zero=>exact⟨⟨ah,ah⟩,h.c0,h.b0 h' hh hb⟩
 |@next i z hw hf hz ih=>
  obtain⟨hi,hc,hbi⟩:=ih;have hin:i.toNat<l.length:=ah;have hii:((i.toNat:Nat):Int)=i:=Int.toNat_of_nonneg hi.1;have:=I2 (x:=l.getD i.toNat []) hn hi.1 hi.2 z hz;rcases h.ayD i.toNat hin hc with h3|h3
  ·rw[ht]at h3;cases h3
  ·rw[hii]at h3;have h4:=h3 z hz;refine⟨this,h4.1,h4.2 h' hh ?_⟩;rw[agj hh,hbi,hf];rfl
theorem aer{l:List (List Int)}{aY:Int}{F:Fl}(hn:l.length≤4294967296)(hR:Reached l aY F):F.held=rX l aY:=by
 by_cases hl:l=[]
 ·subst hl;rw[hR.2.1 rfl];simp[Ec,rX]
 ·obtain⟨m,hm⟩:=hR.2.2 hl;have hpos:0<l.length:=List.length_pos_iff.2 hl;have hI:FI l aY F:=by rw[hm];exact(FI.start hpos).steps hn m
  refine List.ext_getElem (by rw[hI.ok.held,Vq]) λi h1 h2=> ?_
  have hi:i<l.length:=by rw[hI.ok.held]at h1;exact h1
  have e1:F.held[i]=F.held.getD i 0:=by simp[h1]
  have e2:(rX l aY)[i]=rs (YA l aY i) 8:=by rw[←acg hi];simp[h2]
  have ZY:=hI.ok.bits F.held[i] (List.getElem_mem h1);rw[e2,←akw ZY.1 ZY.2];refine SA λh hh=> ?_;rw[e1];cases hb:YA l aY i h with
  |true=>
   cases jP:tb (F.held.getD i 0) h with
   |true=>rfl
   |false=>
    have:=hI.sound i h hi hh jP;rcases Vr.1 hb with h3|h3
    ·rw[this.1]at h3;cases h3
    ·exact(h3 this.2).elim
  |false=>
   have uz:¬(tb aY h=true∨¬Way l h i):=by rw[←Vr,hb];simp
   have E7:tb aY h=false:=by
    cases q:tb aY h with
    |true=>exact(uz (.inl q)).elim
    |false=>rfl
   have hw:Way l h i:=Classical.byContradiction λq=>uz (.inr q);have:=(hI.way hn hpos hR.1 hh E7 hw).2.2;rwa[kY]at this
end Go.Proofs.YthidhjhkmjjckaaGreatDoor.Ck
namespace Go.Proofs.YthidhjhkmjjckaaGreatDoor.Ck
open Go Go.Ev Go.Proofs
theorem asY{w:World}{s:Sl}{aY:Int}{l:List (List Int)}{k:Sl→aq}(hr:wX w s l)(hn:l.length≤1000)
  (hc:∀s' w',St w w' [bQ 1 s' (ints (rX l aY))]→s'.n=l.length→k s' w'):oX #[.int .i64 aY,.slice s.a s.n s.c] w k:=by
 have xj:=hr.len;refine awP hr ah λF s' w' hR h=> ?_;rw[aer ah hR]at h;have hl:(rX l aY).length=s'.n:=by have:=h.FR (sz:=1) (s:=s') (vs:=ints (rX l aY));simpa using this
 exact hc s' w' h (by rw[←hl,Vq])
def I3:List Int:=[1,0,0,5,1,1,0,0,1,1,1,0,1,1,1,0,1,1,1,0,1,1,1,0,0,0,0,2,1,0,0,2,1,0,0,3,1,1,0,0,1,1,1,0,0,0,0,4,1,0,0,0,0,0,0,0,0,0,0,0,1,0,0,0,1,0,0,0]
def kinds(op:Int):List Int:=(I3.drop (op.toNat*4)).take 4
theorem qu(l:List Int):∀v∈eV l,v.oneCell'=true:=by
 intro v hv;exact H9 v (by simpa[eV]using hv)
theorem RK{w:World}{op:Int}{k:Array Value→aq}(h0:0≤op)(h1:op<17)(hc:∀w',St w w' []→k (eV (kinds op)) w'):lR op w k:=by
 unfold lR;refine av (.nil w) λg1 w2 h=> ?_;iterate 16 refine⟨rfl,?_⟩
 refine qH (eV I3) rfl bf ?_;refine av h λg2 w21 h=> ?_;refine mW (g:=g2) h rfl bf (qu _) λw22 h=> ?_;refine tV h0 ah ?_;refine qv (g:=g2) h (by simp[ints,I3];omega) ?_
 have e:(List.take 4 (List.drop (0+op.toNat*4) (eV I3).toList))=ints (kinds op):=by
  simp[kinds,ints,eV,List.map_take,List.map_drop]
 rw[e];have hl:(kinds op).length=4:=by simp[kinds,I3];omega
 refine mW (g:=g1) h rfl (by simp[ints,hl]) (qu _) λw25 h=> ?_
 refine jG (g:=g1) h (by simp[ints,hl]) ?_
 exact hc _ h.all
def pI(kd:Int):Int×Int:=cond (kd==1) (0,7) (cond (kd==2) (0,127) (cond (kd==3) (0,31) (cond (kd==4) (0,65535) (cond (kd==5) (-2147483648,2147483647) (0,0)))))
theorem af6{w:World}{kd:Int}{k:Int×Int→aq}(hc:k (pI kd) w):ru kd w k:=by
 unfold ru;unfold pI at hc;revert hc;cases (kd==1)<;>cases (kd==2)<;>cases (kd==3)<;>cases (kd==4)<;>cases (kd==5)<;>exact id
def fit(x ks:List Int)(j:Nat):Bool:= !(decide (x.getD (j+1) 0<(pI (ks.getD j 0)).1)||decide (x.getD (j+1) 0>(pI (ks.getD j 0)).2))
def fits(x ks:List Int):Bool:=(List.range 4).all (fit x ks)
def oD(x:List Int):Int:=if fU x<0∨17≤fU x then 13 else if fits x (kinds (fU x))then 0 else 10
theorem aog{x ks:List Int}(h:∀j,j<4→fit x ks j=true):fits x ks=true:=by
 unfold fits;rw[xz];intro j hj;exact h j (by simpa using hj)
theorem aoh{x ks:List Int}{j:Nat}(hj:j<4)(h:fit x ks j=false):fits x ks=false:=by
 unfold fits;rw[List.all_eq_false];exact⟨j,by simpa using hj,by simp[h]⟩
theorem aoi{w:World}{x:List Int}{k:Int→aq}(h5:x.length=5)(hc:∀w',St w w' []→k (oD x) w'):eX (eV x) w k:=by
 obtain⟨o,a,b,c,n,rfl⟩:∃o a b c n,x=[o,a,b,c,n]:=by
  match x,h5 with
  |[o,a,b,c,n],_=>exact⟨o,a,b,c,n,rfl⟩
 unfold eX FE;refine av (.nil w) λg1 w2 h=> ?_;refine bU (λb w'=>b=decide (o<0∨17≤o)∧w'=w2) (λJ hJ=> ?_) ?_
 ·refine cv (g:=g1) (o:=0) h rfl (aF (λhb=> ?_) λhb=> ?_)
  ·have:=of_decide_eq_true hb;exact hJ _ _ ⟨(decide_eq_true (.inl this)).symm,rfl⟩
  ·have:=of_decide_eq_false hb;refine cv (g:=g1) (o:=0) h rfl (hJ _ _ ⟨?_,rfl⟩);rw[decide_eq_decide];omega
 rintro b1 w7 ⟨rfl,rfl⟩;refine aF (λhb=> ?_) λhb=> ?_
 ·have:=of_decide_eq_true hb;have e:oD [o,a,b,c,n]=13:=if_pos this;have:=hc w7 h.all;rwa[e]at this
 ·have hno:=of_decide_eq_false hb;have e:oD [o,a,b,c,n]=if fits [o,a,b,c,n] (kinds o)then 0 else 10:=if_neg hno
  rw[e]at hc;have hl:(kinds o).length=4:=by simp[kinds,I3];omega
  refine cv (g:=g1) (o:=0) h rfl ?_;refine RK ah ah λw10 h2=> ?_;have h:=h.on h2.ext;refine av h λg2 w12 h=> ?_;refine mW (g:=g2) h rfl (by simp[ints,hl]) (qu _) λw13 h=> ?_
  refine cv (g:=g1) (o:=1) h rfl (cv (g:=g1) (o:=2) h rfl (cv (g:=g1) (o:=3) h rfl (cv (g:=g1) (o:=4) h rfl ?_)));refine pT (fun(y:Int×Int) w'=> ∃j:Nat,y=(0,(j:Int))∧j≤4∧(∀i,i<j→fit [o,a,b,c,n] (kinds o) i=true)∧w'=w13) (λy _=>(4 - y.2).toNat) ⟨0,rfl,ah,λi hi=>by omega,rfl⟩ ?_
  rintro _ _ ⟨j,rfl,hj4,hfit,rfl⟩ C hC;refine aF (λhb=> ?_) λhb=> ?_
  ·have hj:j<4:=by have:=of_decide_eq_true hb;dsimp only at this;omega
   have SK:aL .i64 ((j:Int)+1)=((j+1:Nat):Int):=by rw[dQ ⟨ah,ah⟩];simp
   refine ap0 (l:=[a,b,c,n]) (by dsimp only;omega) (by dsimp only;omega) rfl (Ip ?_)
   refine tV (by dsimp only;omega) (by dsimp only;omega) ?_
   refine cv (g:=g2) (o:=0+(j:Int).toNat*1) (n:=(kinds o).getD j 0) h (by rw[show 0+(j:Int).toNat*1=j by omega];exact vB ah) ?_
   refine af6 ?_;have ef:[a,b,c,n].getD (j:Int).toNat 0=[o,a,b,c,n].getD (j+1) 0:=by rw[kY];rfl
   dsimp only;rw[ef];have ed:(decide ([o,a,b,c,n].getD (j+1) 0<(pI ((kinds o).getD j 0)).1)||decide ([o,a,b,c,n].getD (j+1) 0>(pI ((kinds o).getD j 0)).2))= !(fit [o,a,b,c,n] (kinds o) j):=by unfold fit;rw[Bool.not_not]
   rw[ed];refine aF (λhb=> ?_) λhb=> ?_
   ·have hf:fit [o,a,b,c,n] (kinds o) j=false:=by simpa using hb
    have:=hc _ h.all;rw[aoh hj hf]at this;exact this
   ·have hf:fit [o,a,b,c,n] (kinds o) j=true:=by simpa using hb
    rw[SK];refine hC _ _ ⟨j+1,rfl,hj,λi hi=> ?_,rfl⟩ (by dsimp only;omega)
    by_cases e:i=j
    ·rw[e];exact hf
    ·exact hfit i ah
  ·have hj:j=4:=by have:=of_decide_eq_false hb;dsimp only at this;omega
   subst hj;have:=hc _ h.all;rw[aog hfit]at this;exact this
def oe:Nat→List (List Int)→Int×Int
 |_,[]=>(0,0)
 |i,x::l=>if oD x !=0 then((i:Int),oD x)else oe (i+1) l
def rZ(aY:Int)(l:List (List Int)):Int×Int:=
 if decide (aY<0)||decide (aY>255)then(-1,10)else if decide (l.length<1)||decide (l.length>128)then(-1,12)else oe 0 l
theorem ach{l dn rest:List (List Int)}{x:List Int}(hl:l=dn++x::rest)(hd:oe 0 l=oe dn.length (x::rest))(hx:(oD x !=0)=false):oe 0 l=oe (dn++[x]).length rest:=by
 rw[hd];simp[oe,hx]
theorem asZ{w:World}{s:Sl}{aY:Int}{l:List (List Int)}{k:Int×Int→aq}(hr:wX w s l)
  (hc:∀w',St w w' []→k (rZ aY l) w'):qE #[.int .i64 aY,.slice s.a s.n s.c] w k:=by
 have xj:=hr.len;unfold qE IM;refine av (.nil w) λg w2 h=> ?_;refine bU (λb w'=>b=(decide (aY<0)||decide (aY>255))∧w'=w2) (λJ hJ=> ?_) ?_
 ·refine cv (g:=g) (o:=0) h rfl (aF (λhb=> ?_) λhb=> ?_)
  ·exact hJ _ _ ⟨by rw[hb];rfl,rfl⟩
  ·refine cv (g:=g) (o:=0) h rfl (hJ _ _ ⟨by rw[hb];rfl,rfl⟩)
 rintro b1 w7 ⟨rfl,rfl⟩;unfold rZ at hc;refine aF (λhb=> ?_) λhb=> ?_
 ·rw[hb]at hc;exact hc _ h.all
 ·rw[hb]at hc;refine bU (λb w'=>b=(decide (l.length<1)||decide (l.length>128))∧w'=w7) (λJ hJ=> ?_) ?_
  ·have e1:decide (((s.n:Nat):Int)<1)=decide (l.length<1):=by rw[decide_eq_decide];omega
   have e2:decide (((s.n:Nat):Int)>128)=decide (l.length>128):=by rw[decide_eq_decide];omega
   refine eu (g:=g) (o:=1) h rfl (aF (λhb=> ?_) λhb=> ?_)
   ·exact hJ _ _ ⟨by rw[←e1];dsimp only at hb;rw[hb];rfl,rfl⟩
   ·refine eu (g:=g) (o:=1) h rfl (hJ _ _ ⟨by rw[←e1,←e2];dsimp only at hb;rw[hb];rfl,rfl⟩)
  rintro b2 w12 ⟨rfl,rfl⟩;refine aF (λjP=> ?_) λjP=> ?_
  ·rw[jP]at hc;exact hc _ h.all
  ·rw[jP]at hc;have aFa:l.length≤128:=by
    rw[j5]at jP;have:=of_decide_eq_false jP.2;omega
   refine eu (g:=g) (o:=1) h rfl ?_;refine pT (fun(i:Int) w'=> ∃dn rest,l=dn++rest∧i=(dn.length:Int)∧oe 0 l=oe dn.length rest∧St w w' []) (λi _=>((s.n:Int) - i).toNat) ⟨[],l,rfl,rfl,rfl,h.all⟩ ?_;rintro _ w16 ⟨dn,rest,hl,rfl,hd,h⟩ C hC;cases rest with
   |nil=>
    refine bp (by simp only[decide_eq_false_iff_not];rw[xj,hl];simp) ?_
    rw[hd]at hc;exact hc _ h
   |cons x rest=>
    have hlen:l.length=dn.length+(rest.length+1):=by rw[hl];simp
    have Qk:aL .i64 ((dn.length:Int)+1)=((dn++[x]).length:Int):=by rw[dQ ⟨ah,ah⟩];simp
    refine bH (by simp only[decide_eq_true_eq];omega) ?_
    refine ixC (hr.ext h.ext) hl rfl λp h5 hcell=>GK (by simp[Go.Ev.ints,h5]) hcell ?_
    refine av h λg2 w20 h=>mW (g:=g2) h rfl (by simp[Go.Ev.ints,h5]) (qu _) λw21 h=>jG (g:=g2) h (by simp[Go.Ev.ints,h5]) ?_
    refine aoi h5 λw24 h2=> ?_;have h:=h.all.on h2.ext;refine aF (λsB=> ?_) λsB=> ?_
    ·have e:oe dn.length (x::rest)=((dn.length:Int),oD x):=by unfold oe;rw[sB];rfl
     rw[hd,e]at hc;exact hc _ h
    ·rw[Qk];exact hC _ _ ⟨dn++[x],rest,by rw[hl];simp,rfl,ach hl hd sB,h⟩ (by simp;omega)
def Gv(nf n:Nat)(x:List Int):Int:=if (pN x&&decide (x.getD 4 0≥n))||((fU x==8)&&decide (x.getD 4 0≥nf))then 10 else 0
def akA(n:Nat)(i:Nat)(x:List Int):Int:=if ((i:Int)==(n:Int) - 1)&&(fU x !=6)&& !Eb x then 11 else 0
def sv(D:List Int)(i:Nat)(x:List Int):Bool:=
 if (fU x==12)||(fU x==13)then decide (D.getD i 0≥1)else if fU x==16 then D.getD i 0==0 else if pN x then D.getD (x.getD 4 0).toNat 0==D.getD i 0 else true
def BE(a b:Int):Bool:=(List.range 8).all λh=> !tb a h||tb b h
def Gw(P:List ea)(i:Int):Int:=(P.map ea.aY).getD i.toNat 0
def rz(P:List ea)(hv:Int)(x:List Int):Bool:=
 if fU x==9 then tb hv (x.getD 2 0).toNat else if fU x==10 then tb hv (x.getD 3 0).toNat else if fU x==8 then BE (Gw P (x.getD 4 0)) hv else true
def AM(P:List ea)(n:Nat)(D H:List Int)(i:Nat)(x:List Int):Nat→Int
 |0=>Gv P.length n x
 |1=>akA n i x
 |2=>if sv D i x then 0 else 15
 |_=>if rz P (H.getD i 0) x then 0 else 16
def sW(P:List ea)(n:Nat)(D H:List Int)(i:Nat)(x:List Int):Int:=
 if AM P n D H i x 0 !=0 then AM P n D H i x 0 else if AM P n D H i x 1 !=0 then AM P n D H i x 1 else if AM P n D H i x 2 !=0 then AM P n D H i x 2 else AM P n D H i x 3
def pP(P:List ea)(n:Nat)(D H:List Int):Nat→List (List Int)→Option (Int×Int)
 |_,[]=>none
 |i,x::l=>if sW P n D H i x !=0 then some ((i:Int),sW P n D H i x)else pP P n D H (i+1) l
noncomputable def AD (P:List ea) (f:ea):Option (Int×Int):=pP P f.code.length (nS 0 f.code) (rX f.code f.aY) 0 f.code
noncomputable def uE (P:List ea):Nat→List ea→Option (Int×Int×Int)
 |_,[]=>none
 |k,f::l=>match AD P f with
  |some (i,e)=>some ((k:Int),i,e)
  |none=>uE P (k+1) l
def rp:Nat→List ea→Option (Int×Int×Int)
 |_,[]=>none
 |k,f::l=>if (rZ f.aY f.code).2 !=0 then some ((k:Int),(rZ f.aY f.code).1,(rZ f.aY f.code).2)else rp (k+1) l
noncomputable def yM (P:List ea):Int×Int×Int:=
 if decide (P.length<1)||decide (P.length>32)then(-1, -1,12)else match rp 0 P with
  |some x=>x
  |none=>if Gw P 0 !=0 then(0, -1,16)else match uE P 0 P with
   |some x=>x
   |none=>(0,0,0)
theorem agk{w0 w:World}{L:List HP}{s:Sl}{l:List (List Int)}{x:List Int}{i:Int}{c:Addr→Prop}(hr:wX w0 s l)(h:St w0 w L)(h0:0≤i)(hx:l[i.toNat]?=some x)
  (hc:∀p:Addr,x.length=5→(∀{w' L'},St w0 w' L'→∀{j v},(Go.Ev.ints x)[j]?=some v→w'.cell? (p.add j)=some v)→c p):cW s i 5 c:=
 Uz (e:=Go.Ev.ints x) hr.rws h h0 (by rw[pB,hx];rfl) λp hp=>hc p ((hr.Gu x (r0 hx)).1) hp
theorem as0{n:Nat}{a:Addr}{e:List Value}{w w':World}{c:Prop}(he:n≤e.length)(h:∀{j v},e[j]?=some v→w.cell? (a.add j)=some v)(h':∀{j v},e[j]?=some v→w'.cell? (a.add j)=some v)(hc:c):ai n a w w' c:=
 ⟨λk hk=>by rw[h (kq ah),h' (kq ah)],hc⟩
theorem aes{x:List Int}(h:oD x=0):0≤fU x∧fU x<17∧(pN x=true→0≤x.getD 4 0∧x.getD 4 0≤127)∧(fU x=8→0≤x.getD 4 0∧x.getD 4 0≤31∧0≤x.getD 1 0∧x.getD 1 0≤7)∧(fU x=9→0≤x.getD 2 0∧x.getD 2 0≤7)∧(fU x=10→0≤x.getD 3 0∧x.getD 3 0≤7):=by
 unfold oD at h;split at h
 ·cases h
 ·rename_i hno;split at h
  ·rename_i hf;unfold fits at hf;rw[xz]at hf;have f0:=hf 0 gD;have f1:=hf 1 gD;have f2:=hf 2 gD;have f3:=hf 3 gD;refine⟨ah,ah,λhg=> ?_,λho=> ?_,λho=> ?_,λho=> ?_⟩
   ·have:fU x=6∨fU x=7:=by unfold pN at hg;simpa using hg
    unfold fit at f3;rcases this with ho|ho<;>rw[ho]at f3<;>simp[kinds,I3,pI]at f3 ⊢ <;>omega
   ·unfold fit at f3 f0;rw[ho]at f3 f0;simp[kinds,I3,pI]at f3 f0 ⊢;omega
   ·unfold fit at f1;rw[ho]at f1;simp[kinds,I3,pI]at f1 ⊢;omega
   ·unfold fit at f2;rw[ho]at f2;simp[kinds,I3,pI]at f2 ⊢;omega
  ·cases h
section
variable {w0 w:World} {gj:Nat} {ps s sd sh:Sl} {P:List ea} {l:List (List Int)} {D H:List Int} {R:List HP} {i:Nat} {x:List Int} {k:Int→aq}
theorem aoj(h:St w0 w (ax gj [.slice ps.a ps.n ps.c,.slice s.a s.n s.c,.slice sd.a sd.n sd.c,.slice sh.a sh.n sh.c]::R))(hr:wX w0 s l)(hx:l[i]?=some x)(hpn:ps.n=P.length)
  (hc:∀w',St w0 w' (ax gj [.slice ps.a ps.n ps.c,.slice s.a s.n s.c,.slice sd.a sd.n sd.c,.slice sh.a sh.n sh.c]::R)→k (Gv P.length l.length x) w'):gW (some ⟨gj,0,none⟩) (i:Int) w k:=by
 have xj:=hr.len;unfold gW xJ;refine an (eu (g:=gj) (o:=1) h rfl (agk hr h ah hx λp h5 hp=>GK (by simp[Go.Ev.ints,h5]) (λj v=>hp h) ?_))
 refine av h λg w6 h=>mW (g:=g) h rfl (by simp[Go.Ev.ints,h5]) (qu _) λw7 h=> ?_
 have h:St w0 w7 (ax g (ints x)::ax gj [.slice ps.a ps.n ps.c,.slice s.a s.n s.c,.slice sd.a sd.n sd.c,.slice sh.a sh.n sh.c]::R):=h;refine bU (λb w'=>b=((pN x&&decide (x.getD 4 0≥l.length))||((fU x==8)&&decide (x.getD 4 0≥P.length)))∧St w0 w' (ax g (ints x)::ax gj [.slice ps.a ps.n ps.c,.slice s.a s.n s.c,.slice sd.a sd.n sd.c,.slice sh.a sh.n sh.c]::R)) (λJ hJ=> ?_) ?_
 ·refine aK h λw9 h=>cv (g:=g) (o:=0) h (mQ ah) ?_;have second:(pN x&&decide (x.getD 4 0≥l.length))=false→aN .i64 w9 (aX ⟨g,0,none⟩ 0) λi16=>
    ap (i16==(8:Int)) (
     aN .i64 w9 (aX ⟨g,0,none⟩ 4) λi17=>
     nn (some ⟨gj,0,none⟩) λa18=>
     cE w9 (aX (aX a18 0) 0) λs19=>
     (J (decide (i17≥((s19.n:Nat):Int))) w9)) (
     (J false w9)):=by
   intro ha;refine cv (g:=g) (o:=0) h (mQ ah) (aF (λhb=> ?_) λhb=> ?_)
   ·refine cv (g:=g) (o:=4) h (mQ ah) (an (eu (g:=gj) (o:=0) h rfl (hJ _ _ ⟨?_,h⟩)));have hb':(fU x==8)=true:=hb;dsimp only;rw[ha,hb',hpn];rfl
   ·refine hJ _ _ ⟨?_,h⟩;have hb':(fU x==8)=false:=hb;rw[ha,hb'];rfl
  show ap _ _ _;refine aF (λhg=> ?_) λhg=> ?_
  ·have K3:pN x=true:=hg;refine cv (g:=g) (o:=4) h (mQ ah) (an (eu (g:=gj) (o:=1) h rfl (aF (λhb=> ?_) λhb=> ?_)))
   ·refine hJ _ _ ⟨?_,h⟩;dsimp only at hb;rw[xj]at hb;rw[K3,hb];rfl
   ·dsimp only at hb;rw[xj]at hb;exact second (by rw[K3,hb];rfl)
  ·have K3:pN x=false:=hg;exact second (by rw[K3];rfl)
 rintro b w25 ⟨rfl,h⟩;unfold Gv at hc;refine aF (λhb=> ?_) λhb=> ?_
 ·rw[hb]at hc;exact hc _ h.drop
 ·rw[hb]at hc;exact hc _ h.drop
theorem awR(h:St w0 w (ax gj [.slice ps.a ps.n ps.c,.slice s.a s.n s.c,.slice sd.a sd.n sd.c,.slice sh.a sh.n sh.c]::R))(hr:wX w0 s l)(hx:l[i]?=some x)(hn:l.length≤1000)
  (hc:∀w',St w0 w' (ax gj [.slice ps.a ps.n ps.c,.slice s.a s.n s.c,.slice sd.a sd.n sd.c,.slice sh.a sh.n sh.c]::R)→k (akA l.length i x) w'):jv (some ⟨gj,0,none⟩) (i:Int) w k:=by
 have xj:=hr.len;unfold jv AX;refine an (eu (g:=gj) (o:=1) h rfl (agk hr h ah hx λp h5 hp=>uJ (hp h (mQ ah)) ?_));refine bU (λb w'=>b=(((i:Int)==(l.length:Int) - 1)&&(fU x !=6)&& !Eb x)∧w'=w) (λJ hJ=> ?_) ?_
 ·refine an (eu (g:=gj) (o:=1) h rfl ?_);have hw:aL .i64 (((s.n:Nat):Int) - 1)=(l.length:Int) - 1:=by rw[xj,dQ ⟨ah,ah⟩]
  dsimp only;rw[hw];refine aF (λhb=> ?_) λhb=> ?_
  ·exact hJ _ _ ⟨by
     have hb':((i:Int)==(l.length:Int) - 1&&(fU x !=6))=true:=hb;rw[hb'];rfl,rfl⟩
  ·exact hJ _ _ ⟨by
     have hb':((i:Int)==(l.length:Int) - 1&&(fU x !=6))=false:=hb;rw[hb'];rfl,rfl⟩
 rintro b w25 ⟨rfl,rfl⟩;unfold akA at hc;refine aF (λhb=> ?_) λhb=> ?_
 ·rw[hb]at hc;exact hc _ h
 ·rw[hb]at hc;exact hc _ h
theorem aok(h:St w0 w (ax gj [.slice ps.a ps.n ps.c,.slice s.a s.n s.c,.slice sd.a sd.n sd.c,.slice sh.a sh.n sh.c]::bQ 1 sd (ints D)::R))(hr:wX w0 s l)(hx:l[i]?=some x)(hn:l.length≤1000)(hD:D.length=l.length)
  (h0:pN x=true→0≤x.getD 4 0∧x.getD 4 0<l.length)
  (hc:∀w',St w0 w' (ax gj [.slice ps.a ps.n ps.c,.slice s.a s.n s.c,.slice sd.a sd.n sd.c,.slice sh.a sh.n sh.c]::bQ 1 sd (ints D)::R)→k (if sv D i x then 0 else 15) w'):gX (some ⟨gj,0,none⟩) (i:Int) w k:=by
 have xj:=hr.len;have hil:i<l.length:=(kO.1 hx).1;unfold gX;refine aK h λw1 h=> ?_;refine an (eu (g:=gj) (o:=1) h rfl (agk hr h ah hx λp h5 hp=>GK (by simp[Go.Ev.ints,h5]) (λj v=>hp h) ?_))
 refine an (eu (g:=gj) (o:=2) h rfl ?_);have hdn:D.length=sd.n:=by have:=h.FR (sz:=1) (s:=sd) (vs:=ints D);simpa using this
 refine Kj (s:=sd) (vs:=ints D) h ah ah ah λgd od _ hrd _=> ?_;have sL:(ints D)[((i:Nat):Int).toNat*1+0]?=some (.int .i64 (D.getD i 0)):=by
  rw[show((i:Nat):Int).toNat*1+0=i by omega];exact vB ah
 refine uJ (hrd h 0 _ ah sL) ?_;have h1:=h;refine av h λg w11 h=> ?_;refine aa8 (hrd h1 0 _ ah sL) (hrd h 0 _ ah sL) ?_;refine eU h1 h ?_;refine as0 (e:=ints x) (by simp[Go.Ev.ints,h5]) (fun{j v}=>hp h1) (fun{j v}=>hp h) ?_
 refine eU h1 h ?_;refine mW (g:=g) h rfl (by simp[Go.Ev.ints,h5]) (qu _) λw12 h=> ?_
 refine aa8 (hrd h1 0 _ ah sL) (hrd h 0 _ ah sL) ?_;refine eU h1 h ?_;have h:St w0 w12 (ax g (ints x)::ax gj [.slice ps.a ps.n ps.c,.slice s.a s.n s.c,.slice sd.a sd.n sd.c,.slice sh.a sh.n sh.c]::bQ 1 sd (ints D)::R):=h;refine cv (g:=g) (o:=0) h (mQ ah) ?_;refine bU (λb w'=>b=((fU x==12)||(fU x==13))∧w'=w12) (λJ hJ=> ?_) ?_
 ·refine aF (λhb=> ?_) λhb=> ?_
  ·have hb':(fU x==12)=true:=hb;exact hJ _ _ ⟨by rw[hb'];rfl,rfl⟩
  ·have hb':(fU x==12)=false:=hb;exact hJ _ _ ⟨by rw[hb'];rfl,rfl⟩
 rintro b15 w16 ⟨rfl,rfl⟩;refine bU (λb w'=>b=sv D i x∧St w0 w' (ax g (ints x)::ax gj [.slice ps.a ps.n ps.c,.slice s.a s.n s.c,.slice sd.a sd.n sd.c,.slice sh.a sh.n sh.c]::bQ 1 sd (ints D)::R)) (λJ hJ=> ?_) ?_
 ·unfold sv at hJ;refine aF (λhb=> ?_) λhb=> ?_
  ·rw[if_pos hb]at hJ;exact hJ _ _ ⟨rfl,h⟩
  ·rw[if_neg (by rw[hb];simp)]at hJ
   refine aF (λjP=> ?_) λjP=> ?_
   ·have hb':(fU x==16)=true:=jP;rw[if_pos hb']at hJ;exact hJ _ _ ⟨rfl,h⟩
   ·have hb':(fU x==16)=false:=jP;rw[if_neg (by rw[hb'];simp)]at hJ
    refine bU (λb w'=>b=pN x∧w'=w16) (λJ2 hJ2=> ?_) ?_
    ·refine aF (λhb=> ?_) λhb=> ?_
     ·have hb':(fU x==6)=true:=hb;exact hJ2 _ _ ⟨by unfold pN;rw[hb'];rfl,rfl⟩
     ·have hb':(fU x==6)=false:=hb;exact hJ2 _ _ ⟨by unfold pN;rw[hb'];rfl,rfl⟩
    rintro b19 w20 ⟨rfl,rfl⟩;refine aF (λhg=> ?_) λhg=> ?_
    ·rw[if_pos hg]at hJ;have hN:=h0 hg;refine aK h λw21 h=>an (eu (g:=gj) (o:=2) h rfl (cv (g:=g) (o:=4) h (mQ ah) ?_));refine AQ (s:=sd) (xs:=D) h hN.1 ah ?_;exact hJ _ _ ⟨rfl,h⟩
    ·rw[if_neg (by rw[hg];simp)]at hJ
     exact hJ _ _ ⟨rfl,h⟩
 rintro b27 w28 ⟨rfl,h⟩;refine aF (λhb=> ?_) λhb=> ?_
 ·have hb':sv D i x=false:=by simpa using hb
  rw[hb']at hc;exact hc _ h.drop
 ·have hb':sv D i x=true:=by simpa using hb
  rw[hb']at hc;exact hc _ h.drop
end
theorem akC{a b:Int}(h0:0≤a)(h1:a≤255):0≤tw .i64 a b∧tw .i64 a b≤a:=by
 rw[Qh];have e:(bv a).toNat=a.toNat:=by
  have:=ayC (m:=a.toNat) ah;rwa[Int.toNat_of_nonneg h0]at this
 have h2:(bv a&&&~~~ bv b).toNat≤a.toNat:=by rw[BitVec.toNat_and,e];exact Nat.and_le_left
 rw[aid ah];omega
theorem Xl{h:Nat}(hh:h<8):tb 0 h=false:=by
 have:∀h:Nat,h<8→tb 0 h=false:=gD;exact this h hh
theorem AE{a b:Int}:BE a b=true↔∀h:Nat,h<8→tb a h=true→tb b h=true:=by
 unfold BE;rw[xz];refine⟨λq h hh ha=> ?_,λq h hh=> ?_⟩
 ·have:=q h (by simpa using hh)
  rw[ha]at this;simpa using this
 ·have:=q h (by simpa using hh)
  cases ha:tb a h with
  |false=>rfl
  |true=>rw[this ha];rfl
theorem JZ{a b:Int}(h0:0≤a)(h1:a≤255):(tw .i64 a b !=0)= !BE a b:=by
 have hb:=akC (b:=b) h0 h1;cases hs:BE a b with
 |true=>
  have hs':=AE.1 hs;have e:tw .i64 a b=0:=by
   rw[←akw (v:=tw .i64 a b) hb.1 ah,←akw (v:=0) ah ah];refine SA λh hh=> ?_;rw[Uy _ _ ah,Xl hh];cases ha:tb a h with
   |false=>rfl
   |true=>rw[hs' h hh ha];rfl
  rw[e];rfl
 |false=>
  have:tw .i64 a b≠0:=by
   intro e;have:BE a b=true:=AE.2 λh hh ha=>by
    have h2:=Uy a b (i:=h) ah;rw[e,Xl hh,ha]at h2;simpa using h2.symm
   rw[this]at hs;cases hs
  simpa using this
theorem aih{a b:Int}(h0:0≤a)(h1:a<8):BE (sx .i64 1 a) b=tb b a.toNat:=by
 cases ht:tb b a.toNat with
 |true=>
  refine AE.2 λh hh ha=> ?_;rw[agi h0 h1 hh]at ha;have:=of_decide_eq_true ha;have:h=a.toNat:=ah;rw[this];exact ht
 |false=>
  cases hs:BE (sx .i64 1 a) b with
  |false=>rfl
  |true=>
   have:=AE.1 hs a.toNat ah (by rw[agi h0 h1 ah];exact decide_eq_true ah)
   rw[this]at ht;cases ht
theorem aci{a:Int}(h0:0≤a)(h1:a<8):0≤sx .i64 1 a∧sx .i64 1 a≤255:=by
 have e:∀m:Nat,m<8→0≤sx .i64 1 (m:Int)∧sx .i64 1 (m:Int)≤255:=gD;have:=e a.toNat ah;rwa[Int.toNat_of_nonneg h0]at this
theorem sub_zero{b:Int}:BE 0 b=true:=AE.2 λh hh ha=>by rw[Xl hh]at ha;cases ha
section
variable {w0 w:World} {gj:Nat} {ps s sd sh:Sl} {P:List ea} {l:List (List Int)} {D H:List Int} {R:List HP} {i:Nat} {x:List Int} {k:Int→aq}
theorem NY{P:List ea}{n:Int}{f:ea}(h:P[n.toNat]?=some f):Gw P n=f.aY:=by simp[Gw,h]
theorem akD(h:St w0 w (ax gj [.slice ps.a ps.n ps.c,.slice s.a s.n s.c,.slice sd.a sd.n sd.c,.slice sh.a sh.n sh.c]::bQ 1 sd (ints D)::bQ 1 sh (ints H)::R))(hr:wX w0 s l)(hF:j2 w0 ps P)(hx:l[i]?=some x)(hn:l.length≤1000)(hH:H.length=l.length)
  (hok:oD x=0) (BY:Gv P.length l.length x=0) (hP:∀f∈P,0≤f.aY∧f.aY≤255)
  (hc:∀w',St w0 w' (ax gj [.slice ps.a ps.n ps.c,.slice s.a s.n s.c,.slice sd.a sd.n sd.c,.slice sh.a sh.n sh.c]::bQ 1 sd (ints D)::bQ 1 sh (ints H)::R)→k (if rz P (H.getD i 0) x then 0 else 16) w'):fX (some ⟨gj,0,none⟩) (i:Int) w k:=by
 have xj:=hr.len;have hpn:=hF.len;have hil:i<l.length:=(kO.1 hx).1;obtain⟨_,_,_,hk8,hk9,aCH⟩:=aes hok;unfold fX;refine an (eu (g:=gj) (o:=1) h rfl (agk hr h ah hx λp h5 hp=>GK (by simp[Go.Ev.ints,h5]) (λj v=>hp h) ?_))
 refine av h λg w6 h=>mW (g:=g) h rfl (by simp[Go.Ev.ints,h5]) (qu _) λw7 h=> ?_
 have h:St w0 w7 (ax g (ints x)::ax gj [.slice ps.a ps.n ps.c,.slice s.a s.n s.c,.slice sd.a sd.n sd.c,.slice sh.a sh.n sh.c]::bQ 1 sd (ints D)::bQ 1 sh (ints H)::R):=h;refine cv (g:=g) (o:=0) h (mQ ah) ?_;refine bU (λn w'=>(tw .i64 n (H.getD i 0) !=0)= !(rz P (H.getD i 0) x)∧St w0 w' (ax g (ints x)::ax gj [.slice ps.a ps.n ps.c,.slice s.a s.n s.c,.slice sd.a sd.n sd.c,.slice sh.a sh.n sh.c]::bQ 1 sd (ints D)::bQ 1 sh (ints H)::R)) (λJ hJ=> ?_) ?_
 ·unfold rz at hJ;refine aF (λhb=> ?_) λhb=> ?_
  ·have hb':(fU x==9)=true:=hb;have hB:=hk9 (by simpa using hb')
   rw[if_pos hb']at hJ;refine cv (g:=g) (o:=2) h (mQ ah) ⟨hB.1,hJ _ _ ⟨?_,h⟩⟩;have:=aci (a:=x.getD 2 0) hB.1 ah;rw[JZ this.1 this.2,aih hB.1 ah]
  ·have hb':(fU x==9)=false:=hb;rw[if_neg (by rw[hb'];simp)]at hJ
   refine aF (λhb=> ?_) λhb=> ?_
   ·have hb':(fU x==10)=true:=hb;have hB:=aCH (by simpa using hb')
    rw[if_pos hb']at hJ;refine cv (g:=g) (o:=3) h (mQ ah) ⟨hB.1,hJ _ _ ⟨?_,h⟩⟩;have:=aci (a:=x.getD 3 0) hB.1 ah;rw[JZ this.1 this.2,aih hB.1 ah]
   ·have hb':(fU x==10)=false:=hb;rw[if_neg (by rw[hb'];simp)]at hJ
    refine aF (λhb=> ?_) λhb=> ?_
    ·have hb':(fU x==8)=true:=hb;have hB:=hk8 (by simpa using hb')
     have hlt:x.getD 4 0<P.length:=by
      unfold Gv at BY;rw[hb']at BY;by_cases q:x.getD 4 0≥P.length
      ·rw[decide_eq_true q]at BY;simp at BY
      ·omega
     rw[if_pos hb']at hJ;have hf:P[(x.getD 4 0).toNat]?=some P[(x.getD 4 0).toNat]:=kq ah;have jP:=hP _ (r0 hf);refine aK h λw14 h=>an (eu (g:=gj) (o:=0) h rfl (cv (g:=g) (o:=4) h (mQ ah) ?_));refine Uz (e:=ea.cells P[(x.getD 4 0).toNat]) hF.rws h ah (by rw[pB,hf];rfl) λp hp2=>uJ (hp2 h rfl) ?_
     refine hJ _ _ ⟨?_,h⟩;rw[JZ jP.1 jP.2,NY hf]
    ·have hb':(fU x==8)=false:=hb;rw[if_neg (by rw[hb'];simp)]at hJ
     refine hJ _ _ ⟨?_,h⟩;rw[JZ ah ah,sub_zero]
 rintro n w21 ⟨hnn,h⟩;refine an (eu (g:=gj) (o:=3) h rfl (AQ (s:=sh) (xs:=H) h ah ah ?_));rw[kY,hnn];refine aF (λhb=> ?_) λhb=> ?_
 ·have hb':rz P (H.getD i 0) x=false:=by simpa using hb
  rw[hb']at hc;exact hc _ h.drop
 ·have hb':rz P (H.getD i 0) x=true:=by simpa using hb
  rw[hb']at hc;exact hc _ h.drop
end
theorem RJ{w0 w:World}{L M:List HP}(h:St w0 w L)(e:L=M):St w0 w M:=e▸h
section
variable {P:List ea} {n:Nat} {D H:List Int} {i:Nat} {x:List Int}
theorem aol{j:Nat}(hj:j<4)(h0:∀j',j'<j→AM P n D H i x j'=0)(h1:(AM P n D H i x j !=0)=true):sW P n D H i x=AM P n D H i x j:=by
 unfold sW;match j,hj with
 |0,_=>rw[if_pos h1]
 |1,_=>rw[h0 0 ah];simp[h1]
 |2,_=>rw[h0 0 ah,h0 1 ah];simp[h1]
 |3,_=>rw[h0 0 ah,h0 1 ah,h0 2 ah];simp
theorem aii(h0:∀j',j'<4→AM P n D H i x j'=0):sW P n D H i x=0:=by
 unfold sW;rw[h0 0 ah,h0 1 ah,h0 2 ah,h0 3 ah];simp
end
def Xm(kk:Nat):Option (Int×Int)→List Int
 |none=>[0,0,0]
 |some (i,e)=>[(kk:Int),i,e]
def Xn(gj gk gf gr:Nat)(ps s sd sh:Sl)(D H:List Int)(asks:List Value)(nv:Int):List HP:=
 [ax gj [.slice ps.a ps.n ps.c,.slice s.a s.n s.c,.slice sd.a sd.n sd.c,.slice sh.a sh.n sh.c],bQ 1 sd (ints D),bQ 1 sh (ints H),ax gk asks,ax gf [.int .i64 nv,.slice s.a s.n s.c],ax gr (ints [0,0,0])]
def acj(gj:Nat):List Value:=[.func (.func nV) #[.pointer (some ⟨gj,0,none⟩)] #[],.func (.func pV) #[.pointer (some ⟨gj,0,none⟩)] #[],.func (.func nW) #[.pointer (some ⟨gj,0,none⟩)] #[],.func (.func ny) #[.pointer (some ⟨gj,0,none⟩)] #[]]
theorem Xo{bZ:eb}{id:FuncId}{a b:Value}{w:World}{c:Value→aq}{d:bu}(e:∀args w c,bZ (.func id) args w c=d args.toList w c)(h:d [a,b] w c):mT bZ (.func (.func id) #[a] #[]) #[b] w c:=
 bX e h
theorem aij{a:Addr}{i:Int}{w:World}{c:Value→aq}(h:gW (some a) i w λr w=>c (.int .i64 r) w):EF [.pointer (some a),.int .i64 i] w c:=h
theorem aom{a:Addr}{i:Int}{w:World}{c:Value→aq}(h:jv (some a) i w λr w=>c (.int .i64 r) w):Hr [.pointer (some a),.int .i64 i] w c:=h
theorem aik{a:Addr}{i:Int}{w:World}{c:Value→aq}(h:gX (some a) i w λr w=>c (.int .i64 r) w):EG [.pointer (some a),.int .i64 i] w c:=h
theorem agl{a:Addr}{i:Int}{w:World}{c:Value→aq}(h:fX (some a) i w λr w=>c (.int .i64 r) w):Dv [.pointer (some a),.int .i64 i] w c:=h
theorem ail{w:World}{ps:Sl}{P:List ea}{kk:Nat}{f:ea}{k:Array Value→aq}(hF:j2 w ps P)(hk:P[kk]?=some f)(hok:∀x∈f.code,oD x=0)(hlen:f.code.length≤128)
  (hP:∀f∈P,0≤f.aY∧f.aY≤255) (hc:∀w',St w w' []→k (eV (Xm kk (AD P f))) w'):m9 #[.slice ps.a ps.n ps.c] (kk:Int) w k:=by
 have hcd:=(hF.code f (r0 hk)).2;have xj:=hcd.len;have hpn:=hF.len;unfold m9 Dw;refine av (.nil w) λg1 w2 h=>av h λg3 w4 h=>eu (g:=g1) (o:=0) h rfl ?_;refine Uz (e:=ea.cells f) hF.rws h ah (by rw[pB,kY,hk];rfl) λp hp=>GK (e:=ea.cells f) rfl (λj v=>hp h) ?_
 refine av h λg8 w9 h=>mW (g:=g8) h rfl rfl (by intro v hv;simp[ea.cells]at hv;rcases hv with rfl|rfl<;>rfl) λw10 h=>aK h λw11 h=> ?_
 have h:St w w11 [ax g8 [.int .i64 f.aY,.slice f.sl.a f.sl.n f.sl.c],ax g3 (ints [0,0,0]),ax g1 [.slice ps.a ps.n ps.c]]:=h;refine jG (g:=g1) h rfl (eu (g:=g8) (o:=1) h rfl (eu (g:=g8) (o:=1) h rfl (jG (g:=g8) h rfl ?_)));have h11:=h;refine aod (hcd.ext h.ext) ah λsd w17 h2 nd=> ?_;have h:=h.join h2;simp only[List.cons_append,List.nil_append]at h;refine eU h11 h (eU h11 h (eU h11 h ?_));have h17:=h;refine asY (aY:=f.aY) (hcd.ext h.ext) ah λsh w19 h3 nh=> ?_;have h:=h.join h3;simp only[List.cons_append,List.nil_append]at h;refine eU h11 h (eU h11 h ?_);refine⟨rfl,?_⟩;refine av h λgj w22 h=>⟨rfl,⟨rfl,⟨rfl,⟨rfl,av h λgk w24 h=> ?_⟩⟩⟩⟩;have h:St w w24 (Xn gj gk g8 g3 ps f.sl sd sh (nS 0 f.code) (rX f.code f.aY) (acj gj) f.aY):=by
  refine St.perm (RJ (M:=[ax gk (acj gj),ax gj [.slice ps.a ps.n ps.c,.slice f.sl.a f.sl.n f.sl.c,.slice sd.a sd.n sd.c,.slice sh.a sh.n sh.c],bQ 1 sh (ints (rX f.code f.aY)),bQ 1 sd (ints (nS 0 f.code)),ax g8 [.int .i64 f.aY,.slice f.sl.a f.sl.n f.sl.c],ax g3 (ints [0,0,0])]) (h.rm 6 rfl) bf) ?_;unfold Xn;repeat' (first|exact List.Perm.refl _|refine bD 0 rfl ?_|refine bD 1 rfl ?_|refine bD 2 rfl ?_|refine bD 3 rfl ?_|refine bD 4 rfl ?_|refine bD 5 rfl ?_|refine bD 6 rfl ?_|refine bD 7 rfl ?_)
 unfold Xn at h;refine eu (g:=g8) (o:=1) h rfl ?_;have hDl:(nS 0 f.code).length=f.code.length:=RO _ _;have hHl:(rX f.code f.aY).length=f.code.length:=Vq _ _;unfold AD at hc;generalize nS 0 f.code=D at h hc hDl;generalize rX f.code f.aY=H at h hc hHl;refine pT (fun(i:Int) w'=> ∃dn rest,f.code=dn++rest∧i=(dn.length:Int)∧pP P f.code.length D H 0 f.code=pP P f.code.length D H dn.length rest∧St w w' (Xn gj gk g8 g3 ps f.sl sd sh D H (acj gj) f.aY)) (λi _=>((f.sl.n:Int) - i).toNat) ⟨[],f.code,rfl,rfl,rfl,h⟩ ?_;rintro _ w28 ⟨dn,rest,hl,rfl,hd,h⟩ C hC;cases rest with
 |nil=>
  refine bp (by simp only[decide_eq_false_iff_not];rw[xj,hl];simp) ?_
  unfold Xn at h;refine mW (g:=g3) h rfl rfl (qu [0,0,0]) λw39 h=>jG (g:=g3) h rfl ?_;rw[hd]at hc;exact hc _ h.all
 |cons x rest=>
  have akv:f.code.length=dn.length+(rest.length+1):=by rw[hl];simp
  have Qk:aL .i64 ((dn.length:Int)+1)=((dn++[x]).length:Int):=by rw[dQ ⟨ah,ah⟩];simp
  have hx:f.code[dn.length]?=some x:=by rw[hl];simp
  have hcx:=hok x (by rw[hl];simp)
  refine bH (by simp only[decide_eq_true_eq];omega) ?_
  refine pT (fun(i:Int) w'=> ∃j:Nat,i=(j:Int)∧j≤4∧(∀j',j'<j→AM P f.code.length D H dn.length x j'=0)∧St w w' (Xn gj gk g8 g3 ps f.sl sd sh D H (acj gj) f.aY)) (λi _=>(4 - i).toNat) ⟨0,rfl,ah,λj hj=>by omega,h⟩ ?_
  rintro _ w31 ⟨j,rfl,hj4,hz,h⟩ C2 hC2;refine aF (λhb=> ?_) λhb=> ?_
  ·have hj:j<4:=by have:=of_decide_eq_true hb;omega
   have SK:aL .i64 ((j:Int)+1)=((j+1:Nat):Int):=by rw[dQ ⟨ah,ah⟩];simp
   refine ap2 ah ah ?_;have fin:∀w35,St w w35 (Xn gj gk g8 g3 ps f.sl sd sh D H (acj gj) f.aY)→ap (AM P f.code.length D H dn.length x j !=(0:Int)) (
      dK 3 w35 ⟨g3,0,none⟩ #[(.int .i64 (kk:Int)),(.int .i64 (dn.length:Int)),(.int .i64 (AM P f.code.length D H dn.length x j))] λw37=>
      bG 3 w37 ⟨g3,0,none⟩ λcs38=>
      (k cs38 w37)) (
      (C2 (aL .i64 ((j:Int)+(1:Int))) w35)):=by
    intro w35 h;refine aF (λhb=> ?_) λhb=> ?_
    ·unfold Xn at h;refine mW (g:=g3) (vs:=eV [(kk:Int),(dn.length:Int),AM P f.code.length D H dn.length x j]) h rfl rfl (qu _) λw37 h=>jG (g:=g3) h rfl ?_;have hwr:=aol hj hz hb;have e:pP P f.code.length D H dn.length (x::rest)=some ((dn.length:Int),AM P f.code.length D H dn.length x j):=by
      unfold pP;rw[hwr,if_pos hb]
     rw[hd,e]at hc;exact hc _ h.all
    ·rw[SK];refine hC2 _ _ ⟨j+1,rfl,hj,λj' hj'=> ?_,h⟩ ah;by_cases q:j'=j
     ·rw[q];simpa using hb
     ·exact hz j' ah
   unfold Xn at h;match j,hj,hz,fin with
   |0,_,hz,fin=>
    refine Ir (g:=gk) (o:=0) h rfl (Xo (d:=EF) (λ_ _ _=>rfl) (aij ?_));exact aoj h (hcd) hx hpn λw35 h=>fin w35 h
   |1,_,hz,fin=>
    refine Ir (g:=gk) (o:=1) h rfl (Xo (d:=Hr) (λ_ _ _=>rfl) (aom ?_));exact awR h hcd hx ah λw35 h=>fin w35 h
   |2,_,hz,fin=>
    have Fv:Gv P.length f.code.length x=0:=hz 0 ah;refine Ir (g:=gk) (o:=2) h rfl (Xo (d:=EG) (λ_ _ _=>rfl) (aik ?_));refine aok h hcd hx ah hDl (λhg=>⟨((aes hcx).2.2.1 hg).1,?_⟩) λw35 h=>fin w35 h;unfold Gv at Fv;rw[hg]at Fv;by_cases q:x.getD 4 0≥f.code.length
    ·rw[decide_eq_true q]at Fv;simp at Fv
    ·omega
   |3,_,hz,fin=>
    have Fv:Gv P.length f.code.length x=0:=hz 0 ah;refine Ir (g:=gk) (o:=3) h rfl (Xo (d:=Dv) (λ_ _ _=>rfl) (agl ?_));exact akD h hcd hF hx ah hHl hcx Fv hP λw35 h=>fin w35 h
  ·have hj:j=4:=by have:=of_decide_eq_false hb;omega
   subst hj;rw[Qk];refine hC _ _ ⟨dn++[x],rest,by rw[hl];simp,rfl,?_,h⟩ (by simp;omega)
   rw[hd];have e:(sW P f.code.length D H dn.length x !=0)=false:=by rw[aii hz];rfl
   simp[pP,e]
def tri(x:Int×Int×Int):List Int:=[x.1,x.2.1,x.2.2]
theorem RR:∀{l:List (List Int)} {i:Nat},(oe i l).2=0→∀x∈l,oD x=0
 |[],_,_,x,hx=>by cases hx
 |y::l,i,h,x,hx=>by
  unfold oe at h;split at h
  ·rename_i hb;simp only at h;rw[h]at hb;cases hb
  ·rename_i hb;rcases List.mem_cons.1 hx with rfl|hx
   ·simpa using hb
   ·exact RR h x hx
theorem J0{aY:Int}{l:List (List Int)}(h:(rZ aY l).2=0):0≤aY∧aY≤255∧1≤l.length∧l.length≤128∧∀x∈l,oD x=0:=by
 unfold rZ at h;split at h
 ·cases h
 ·rename_i h1;split at h
  ·cases h
  ·rename_i h2;simp only[Bool.or_eq_true,decide_eq_true_eq,not_or]at h1 h2;exact⟨ah,ah,ah,ah,RR h⟩
theorem NZ:∀{l:List ea} {k:Nat},rp k l=none→∀f∈l,(rZ f.aY f.code).2=0
 |[],_,_,f,hf=>by cases hf
 |g::l,k,h,f,hf=>by
  unfold rp at h;split at h
  ·cases h
  ·rename_i hb;rcases List.mem_cons.1 hf with rfl|hf
   ·simpa using hb
   ·exact NZ h f hf
theorem GY{P:List ea}{n:Nat}{D H:List Int}:∀{l:List (List Int)} {i:Nat} {a e:Int},pP P n D H i l=some (a,e)→e≠0
 |[],_,_,_,h=>by cases h
 |x::l,i,a,e,h=>by
  unfold pP at h;split at h
  ·rename_i hb;cases h
   simpa using hb
  ·exact GY h
theorem akE{w:World}{ps:Sl}{P:List ea}{k:Array Value→aq}(hF:j2 w ps P)
  (hc:∀w',St w w' []→k (eV (tri (yM P))) w'):oz #[.slice ps.a ps.n ps.c] w k:=by
 have hpn:=hF.len;unfold oz Fa;refine av (.nil w) λg1 w2 h=>av h λg3 w4 h=> ?_;have h:St w w4 [ax g3 (ints [0,0,0]),ax g1 [.slice ps.a ps.n ps.c]]:=h;have e1:decide (((ps.n:Nat):Int)<1)=decide (P.length<1):=by rw[decide_eq_decide];omega
 have e2:decide (((ps.n:Nat):Int)>32)=decide (P.length>32):=by rw[decide_eq_decide];omega
 refine bU (λb w'=>b=(decide (P.length<1)||decide (P.length>32))∧w'=w4) (λJ hJ=> ?_) ?_
 ·refine eu (g:=g1) (o:=0) h rfl (aF (λhb=> ?_) λhb=> ?_)
  ·exact hJ _ _ ⟨by rw[←e1];dsimp only at hb;rw[hb];rfl,rfl⟩
  ·refine eu (g:=g1) (o:=0) h rfl (hJ _ _ ⟨by rw[←e1,←e2];dsimp only at hb;rw[hb];rfl,rfl⟩)
 rintro b8 w9 ⟨rfl,rfl⟩;unfold yM at hc;refine aF (λhb=> ?_) λhb=> ?_
 ·rw[hb]at hc;refine mW (g:=g3) (vs:=eV [-1, -1,12]) h rfl rfl (qu _) λw10 h=>jG (g:=g3) h rfl ?_;exact hc _ h.all
 ·rw[hb]at hc;rw[j5]at hb;have hl1:=of_decide_eq_false hb.1;have hl2:=of_decide_eq_false hb.2;refine eu (g:=g1) (o:=0) h rfl ?_;refine bU (λ_ w'=>rp 0 P=none∧St w w' [ax g3 (ints [0,0,0]),ax g1 [.slice ps.a ps.n ps.c]]) (λJ hJ=> ?_) ?_
  ·refine pT (fun(i:Int) w'=> ∃dn rest,P=dn++rest∧i=(dn.length:Int)∧rp 0 P=rp dn.length rest∧St w w' [ax g3 (ints [0,0,0]),ax g1 [.slice ps.a ps.n ps.c]]) (λi _=>((ps.n:Int) - i).toNat) ⟨[],P,rfl,rfl,rfl,h⟩ ?_;rintro _ w16 ⟨dn,rest,hl,rfl,hd,h⟩ C hC;cases rest with
   |nil=>
    refine bp (by simp only[decide_eq_false_iff_not];rw[hpn,hl];simp) ?_
    exact hJ _ _ ⟨by rw[hd];rfl,h⟩
   |cons f rest=>
    have akv:P.length=dn.length+(rest.length+1):=by rw[hl];simp
    have Qk:aL .i64 ((dn.length:Int)+1)=((dn++[f]).length:Int):=by rw[dQ ⟨ah,ah⟩];simp
    have hx:P[dn.length]?=some f:=by rw[hl];simp
    have hcd:=(hF.code f (r0 hx)).2;refine bH (by simp only[decide_eq_true_eq];omega) ?_
    refine Uz (e:=ea.cells f) hF.rws h ah (by rw[pB,kY,hx];rfl) λp hp=>GK (e:=ea.cells f) rfl (λj v=>hp h) ?_
    refine av h λg8 w9 h=>mW (g:=g8) h rfl rfl (by intro v hv;simp[ea.cells]at hv;rcases hv with rfl|rfl<;>rfl) λw10 h=>jG (g:=g8) h rfl ?_
    refine asZ (aY:=f.aY) (s:=f.sl) (l:=f.code) (hcd.ext h.ext) λw24 h2=> ?_;have h:=h.drop.on h2.ext;refine aF (λsB=> ?_) λsB=> ?_
    ·refine mW (g:=g3) (vs:=eV [(dn.length:Int),(rZ f.aY f.code).1,(rZ f.aY f.code).2]) h rfl rfl (qu _) λw25 h=>jG (g:=g3) h rfl ?_;have e:rp 0 P=some ((dn.length:Int),(rZ f.aY f.code).1,(rZ f.aY f.code).2):=by rw[hd];unfold rp;rw[if_pos sB]
     rw[e]at hc;exact hc _ h.all
    ·rw[Qk];refine hC _ _ ⟨dn++[f],rest,by rw[hl];simp,rfl,?_,h⟩ (by simp;omega)
     have aek:((rZ f.aY f.code).2 !=0)=false:=sB;rw[hd];simp[rp,aek]
  rintro _ w28 ⟨hsh,h⟩;rw[hsh]at hc;have q5:=NZ hsh;have h0:P[0]?=some P[0]:=kq ah;refine eu (g:=g1) (o:=0) h rfl ?_;refine Uz (e:=ea.cells P[0]) hF.rws h ah (by rw[pB];simp[h0]) λp hp=>uJ (hp h rfl) ?_
  have qW:Gw P 0=P[0].aY:=NY (n:=0) h0;rw[←qW];refine aF (λhb=> ?_) λhb=> ?_
  ·refine mW (g:=g3) (vs:=eV [0, -1,16]) h rfl rfl (qu _) λw32 h=>jG (g:=g3) h rfl ?_;dsimp only at hc;rw[if_neg bh,if_pos hb]at hc;exact hc _ h.all
  ·dsimp only at hc;rw[if_neg bh,if_neg (by rw[hb];simp)]at hc
   refine eu (g:=g1) (o:=0) h rfl ?_;refine pT (fun(i:Int) w'=> ∃dn rest,P=dn++rest∧i=(dn.length:Int)∧uE P 0 P=uE P dn.length rest∧St w w' [ax g3 (ints [0,0,0]),ax g1 [.slice ps.a ps.n ps.c]]) (λi _=>((ps.n:Int) - i).toNat) ⟨[],P,rfl,rfl,rfl,h⟩ ?_;rintro _ w37 ⟨dn,rest,hl,rfl,hd,h⟩ C hC;cases rest with
   |nil=>
    refine bp (by simp only[decide_eq_false_iff_not];rw[hpn,hl];simp) ?_
    refine mW (g:=g3) (vs:=eV [0,0,0]) h rfl rfl (qu _) λw49 h=>jG (g:=g3) h rfl ?_;have e:uE P 0 P=none:=by rw[hd];rfl
    rw[e]at hc;exact hc _ h.all
   |cons f rest=>
    have akv:P.length=dn.length+(rest.length+1):=by rw[hl];simp
    have Qk:aL .i64 ((dn.length:Int)+1)=((dn++[f]).length:Int):=by rw[dQ ⟨ah,ah⟩];simp
    have hx:P[dn.length]?=some f:=by rw[hl];simp
    have hsf:=J0 (q5 f (r0 hx));refine bH (by simp only[decide_eq_true_eq];omega) ?_
    refine jG (g:=g1) h rfl ?_;refine ail (ps:=ps) (P:=P) (f:=f) (hF.ext h.ext) hx hsf.2.2.2.2 hsf.2.2.2.1 (λq hq=>⟨(J0 (q5 q hq)).1,(J0 (q5 q hq)).2.1⟩) λw40 h2=> ?_;have h:=h.on h2.ext;have hfl:(Xm dn.length (AD P f)).length=3:=by cases AD P f<;>rfl
    refine av h λg4 w42 h=>mW (g:=g4) h rfl (by simp[eV,ints,hfl]) (qu _) λw43 h=>jG (g:=g4) h (by simp[eV,ints,hfl]) ?_
    refine ajA (n:=3) hfl (ys:=[0,0,0]) rfl ?_;cases hft:AD P f with
    |none=>
     refine bp (by simp[Xm]) ?_
     rw[Qk];refine hC _ _ ⟨dn++[f],rest,by rw[hl];simp,rfl,?_,h.drop⟩ (by simp;omega)
     rw[hd];simp[uE,hft]
    |some q=>
     obtain⟨i,e⟩:=q;have hne:=GY hft;refine bH (by simp[Xm,hne]) ?_
     rw[hft]at h;refine jG (g:=g4) h rfl ?_;refine mW (g:=g3) (vs:=eV (Xm dn.length (some (i,e)))) h rfl rfl (qu _) λw47 h=>jG (g:=g3) h rfl ?_;have e':uE P 0 P=some ((dn.length:Int),i,e):=by rw[hd];simp[uE,hft]
     rw[e']at hc;exact hc _ h.all
theorem aon{w:World}{g off c:Nat}{flat:List Int}{l:List (List Int)}(hb:pA w g (eV flat))(h5:∀x∈l,x.length=5∧∀y∈x,xb y)
  (hfl:∀i,i<l.length→∀j,j<5→flat[off+i*5+j]?=(l.getD i [])[j]?) (Z0:l.length*40≤reachBytes):wX w ⟨some ⟨g,off,none⟩,l.length,c⟩ l:=by
 refine⟨⟨bh,λi e he=> ?_⟩,h5,Z0⟩;rw[pB]at he;cases hx:l[i]? with
 |none=>rw[hx]at he;cases he
 |some x=>
  rw[hx]at he;have he':e=ints x:=by simpa using he.symm
  subst he';have hi:i<l.length:=(kO.1 hx).1;have hx5:=(h5 x (r0 hx)).1;refine⟨by simp[ints,hx5],⟨g,off,none⟩,rfl,λj v hv=> ?_⟩
  have hj:j<5:=by have:=(kO.1 hv).1;simp[ints,hx5]at this;exact this
  have:=hfl i hi j hj;rw[c8,c8,hb.cell];have e2:l.getD i []=x:=by simp[hx]
  rw[e2]at this;simp only[eV,ints,List.getElem?_toArray,pB]at hv ⊢;rw[this];exact hv
theorem aim{l:List (List Int)}{aY:Int}(m:Nat)(hn:l.length≤4294967296)(hl:l≠ [])(ht:(Fl.steps l m ((Ec l.length).meet 0 (og .i64 aY 255))).todo=[]):rX l aY=(Fl.steps l m ((Ec l.length).meet 0 (og .i64 aY 255))).held:=
 (aer hn ⟨ht,λq=>(hl q).elim,λ_=>⟨m,rfl⟩⟩).symm
theorem akF{s:Sl}{l:List (List Int)}{H:List Int}{r:Option (Int×Int)}(hH:rX l 0=H)(hsh:(rZ 0 l).2=0)(hr:pP [⟨0,s,l⟩] l.length (nS 0 l) H 0 l=r):
  yM [⟨0,s,l⟩]=(match r with|none=>(0,0,0)|some (i,e)=>(0,i,e)):=by
 have e1:AD [⟨0,s,l⟩] ⟨0,s,l⟩=r:=by unfold AD;rw[hH];exact hr
 have e2:rp 0 [(⟨0,s,l⟩:ea)]=none:=by simp[rp,hsh]
 unfold yM;rw[e2];simp only[Gw,uE,e1];cases r<;>simp
theorem aet{A:Type}{sz:Nat}:∀{es:List (List A)},(∀e∈es,e.length=sz)→es.flatten.length=es.length*sz
 |[],_=>by simp
 |e::es,h=>by
  have:=aet (es:=es) λx hx=>h x (by simp[hx])
  have he:=h e bh;simp only[List.flatten_cons,tW,List.length_cons,Nat.add_mul,Nat.one_mul];omega
theorem SB{A:Type}{sz:Nat}:∀{es:List (List A)},(∀e∈es,e.length=sz)→∀{i j:Nat} {e:List A},es[i]?=some e→j<sz→es.flatten[i*sz+j]?=e[j]?
 |[],_,i,j,e,he,_=>by simp at he
 |x::es,h,0,j,e,he,hj=>by
  have hx:=h x bh;simp at he;subst he;rw[List.flatten_cons,Nat.zero_mul,Nat.zero_add,sY ah]
 |x::es,h,i+1,j,e,he,hj=>by
  have hx:=h x bh;rw[List.flatten_cons,uK (by rw[hx,Nat.add_mul];omega),hx,Nat.add_mul,Nat.one_mul]
  rw[show i*sz+sz+j - sz=i*sz+j by omega]
  exact SB (λy hy=>h y (by simp[hy])) (by simpa using he) hj
theorem as2(p:Addr)(a b:Nat):(p.add a).add b=p.add (a+b):=by
 by_cases ha:a=0
 ·subst ha;simp[aX]
 ·by_cases hb:b=0
  ·subst hb;simp[aX]
  ·have:a+b≠0:=ah;simp[aX,ha,hb,this,Nat.add_assoc]
theorem as3{sz:Nat}{w:World}{s:Sl}{es:List (List Value)}(h:GH sz w s es.flatten)(hsz:0<sz)(q5:∀e∈es,e.length=sz):V2 sz w s es:=by
 have hl:es.length*sz=s.n*sz:=by rw[←aet q5];exact h.len
 refine⟨Nat.eq_of_mul_eq_mul_right hsz hl,λi e he=> ?_⟩;have hlen:=q5 e (r0 he);refine⟨hlen,?_⟩;have h0:=SB q5 he hsz;obtain⟨p,hp,_⟩:=h.cell (i*sz+0) e[0] (by rw[h0];exact kq ah)
 refine⟨p,hp,λj v hv=> ?_⟩;have hj:j<sz:=by have:=(kO.1 hv).1;omega
 obtain⟨p',hp',hc⟩:=h.cell (i*sz+j) v (by rw[SB q5 he hj];exact hv)
 rw[hp]at hp';cases hp';rw[as2];exact hc
theorem akG{w:World}{ps:Sl}{P:List ea}{k:Bool→aq}(hF:j2 w ps P)(hc:∀w',St w w' []→k (decide (tri (yM P)=[0,0,0])) w'):m5 #[.slice ps.a ps.n ps.c] w k:=by
 unfold m5 Fb;refine av (.nil w) λg w2 h=>jG (g:=g) h rfl (akE (hF.ext h.ext) λw' h2=> ?_);have h:=h.on h2.ext;exact ajA (n:=3) (xs:=tri (yM P)) (ys:=[0,0,0]) rfl rfl (hc w' h.all)
theorem akH(x:List Int):oD x=0∨oD x=10∨oD x=13:=by
 unfold oD;split
 ·exact .inr (.inr rfl)
 ·split
  ·exact .inl rfl
  ·exact .inr (.inl rfl)
theorem RS:∀{l:List (List Int)} {i:Nat},(oe i l).2≠16
 |[],i=>by simp[oe]
 |x::l,i=>by
  unfold oe;split
  ·have:=akH x;simp only;omega
  ·exact RS
theorem agm(aY:Int)(l:List (List Int)):(rZ aY l).2≠16:=by
 unfold rZ;split
 ·simp
 ·split
  ·simp
  ·exact RS
theorem agn:∀{l:List ea} {k:Nat} {x:Int×Int×Int},rp k l=some x→x.2.2≠16
 |[],_,_,h=>by cases h
 |f::l,k,x,h=>by
  unfold rp at h;split at h
  ·cases h;exact agm _ _
  ·exact agn h
theorem Xp{P:List ea}:∀{l:List ea} {k:Nat} {a i e:Int},uE P k l=some (a,i,e)→∃m f,l[m]?=some f∧a=((k+m:Nat):Int)∧AD P f=some (i,e)
 |[],_,_,_,_,h=>by cases h
 |f::l,k,a,i,e,h=>by
  unfold uE at h;split at h
  ·rename_i i' e' he;cases h
   exact⟨0,f,rfl,rfl,he⟩
  ·obtain⟨m,g,h1,h2,h3⟩:=Xp h;exact⟨m+1,g,by simpa using h1,by rw[h2];congr 1;omega,h3⟩
section
variable {P:List ea} {n:Nat} {D H:List Int} {i:Nat} {x:List Int}
end
def BF(nf n:Nat)(x:List Int):Bool:=(pN x&&decide (x.getD 4 0≥n))||((fU x==8)&&decide (x.getD 4 0≥nf))
def RT(n:Nat)(i:Nat)(x:List Int):Bool:=((i:Int)==(n:Int) - 1)&&(fU x !=6)&& !Eb x
section
variable {P:List ea} {n:Nat} {D H:List Int} {i:Nat} {x:List Int}
theorem as4(h:BF P.length n x=true):sW P n D H i x=10:=by
 have e:AM P n D H i x 0=10:=if_pos h;unfold sW;rw[e];rfl
theorem as5(h:BF P.length n x=false):AM P n D H i x 0=0:=if_neg (by unfold BF at h;rw[h];simp)
theorem as6(h:BF P.length n x=false)(h2:RT n i x=true):sW P n D H i x=11:=by
 have e:AM P n D H i x 1=11:=if_pos h2;unfold sW;rw[as5 h,e];rfl
theorem EX(h2:RT n i x=false):AM P n D H i x 1=0:=if_neg (by unfold RT at h2;rw[h2];simp)
theorem as7(h:BF P.length n x=false)(h2:RT n i x=false)(h3:sv D i x=false):sW P n D H i x=15:=by
 have e:AM P n D H i x 2=15:=if_neg (by rw[h3];simp)
 unfold sW;rw[as5 h,EX h2,e];rfl
theorem ain(h:BF P.length n x=false)(h2:RT n i x=false)(h3:sv D i x=true):sW P n D H i x=if rz P (H.getD i 0) x then 0 else 16:=by
 have e:AM P n D H i x 2=0:=if_pos h3;unfold sW;rw[as5 h,EX h2,e];rfl
theorem acm(h:BF P.length n x=false):(pN x=true→x.getD 4 0<n)∧(fU x=8→x.getD 4 0<P.length):=by
 unfold BF at h;rw[j5]at h;refine⟨λhg=> ?_,λho=> ?_⟩
 ·have:=h.1;rw[hg,Bool.true_and]at this;have:=of_decide_eq_false this;omega
 ·have:=h.2;rw[show(fU x==8)=true by simpa using ho,Bool.true_and]at this
  have:=of_decide_eq_false this;omega
end
theorem Zp:∀{l:List ea} {k:Nat} {x:Int×Int×Int},rp k l=some x→x.2.2≠0
 |[],_,_,h=>by cases h
 |f::l,k,x,h=>by
  unfold rp at h;split at h
  ·rename_i hb;cases h;simpa using hb
  ·exact Zp h
structure Acc (P:List ea) (f:ea):Prop where
 n0:0≤f.aY
 n1:f.aY≤255
 l0:1≤f.code.length
 l1:f.code.length≤128
 ok:∀x∈f.code,oD x=0
 good:∀i x,f.code[i]?=some x→sW P f.code.length (nS 0 f.code) (rX f.code f.aY) i x=0
structure qc (P:List ea):Prop where
 n0:1≤P.length
 n1:P.length≤32
 root:Gw P 0=0
 all:∀f∈P,Acc P f
theorem GZ{P:List ea}{n:Nat}{D H:List Int}:∀{l:List (List Int)} {i:Nat},pP P n D H i l=none↔∀j x,l[j]?=some x→sW P n D H (i+j) x=0
 |[],i=>by simp[pP]
 |y::l,i=>by
  unfold pP;split
  ·rename_i hb;refine⟨λh=>(by cases h),λh=> ?_⟩
   have:=h 0 y rfl;rw[Nat.add_zero]at this;rw[this]at hb;cases hb
  ·rename_i hb;rw[GZ];refine⟨λh j x hx=> ?_,λh j x hx=> ?_⟩
   ·cases j with
    |zero=>simp at hx;subst hx;simpa using hb
    |succ j=>rw[show i+(j+1)=i+1+j by omega];exact h j x (by simpa using hx)
   ·rw[show i+1+j=i+(j+1) by omega];exact h (j+1) x (by simpa using hx)
theorem N0{P:List ea}:∀{l:List ea} {k:Nat},uE P k l=none↔∀f∈l,AD P f=none
 |[],k=>by simp[uE]
 |g::l,k=>by
  unfold uE;cases h:AD P g with
  |some q=>
   obtain⟨i,e⟩:=q;simp only;exact⟨λh=>(by cases h),λh2=>(by have:=h2 g bh;rw[h]at this;cases this)⟩
  |none=>
   simp only;rw[N0];refine⟨λh2 f hf=> ?_,λh2 f hf=>h2 f (by simp[hf])⟩
   rcases List.mem_cons.1 hf with rfl|hf
   ·exact h
   ·exact h2 f hf
theorem Xq:∀{l:List (List Int)} {i:Nat},(∀x∈l,oD x=0)→(oe i l).2=0
 |[],_,_=>rfl
 |y::l,i,h=>by
  unfold oe;rw[if_neg (by rw[h y bh];simp)]
  exact Xq λx hx=>h x (by simp[hx])
theorem acn:∀{l:List ea} {k:Nat},(∀f∈l,(rZ f.aY f.code).2=0)→rp k l=none
 |[],_,_=>rfl
 |y::l,k,h=>by
  unfold rp;rw[if_neg (by rw[h y bh];simp)]
  exact acn λx hx=>h x (by simp[hx])
theorem aoo{P:List ea}:(yM P).2.2=0↔qc P:=by
 constructor
 ·intro h;unfold yM at h;split at h
  ·exfalso;dsimp only at h;omega
  ·rename_i hno;simp only[Bool.or_eq_true,decide_eq_true_eq,not_or]at hno;cases hs:rp 0 P with
   |some x=>rw[hs]at h;exact(Zp hs h).elim
   |none=>
    rw[hs]at h;simp only at h;split at h
    ·exfalso;dsimp only at h;omega
    ·rename_i qW;cases hf:uE P 0 P with
     |some x=>
      obtain⟨a,i,e⟩:=x;rw[hf]at h;simp only at h;obtain⟨m,f,_,_,hfl⟩:=Xp hf;exact(GY hfl h).elim
     |none=>
      refine⟨ah,ah,by simpa using qW,λf hm=> ?_⟩
      obtain⟨a,b,c,d,e⟩:=J0 (NZ hs f hm);refine⟨a,b,c,d,e,λi x hx=> ?_⟩;have h1:=N0.1 hf f hm;unfold AD at h1;have:=GZ.1 h1 i x hx;rwa[Nat.zero_add]at this
 ·intro h;have hs:rp 0 P=none:=acn λf hf=>by
   have:=h.all f hf;have qW:=this.n0;have uz:=this.n1;have hl0:=this.l0;have hl1:=this.l1;unfold rZ;rw[if_neg (by simp only[Bool.or_eq_true,decide_eq_true_eq];omega),if_neg (by simp only[Bool.or_eq_true,decide_eq_true_eq];omega)]
   exact Xq this.ok
  have hf:uE P 0 P=none:=N0.2 λf hf=>by
   unfold AD;exact GZ.2 λj x hx=>by rw[Nat.zero_add];exact(h.all f hf).good j x hx
  have qW:=h.n0;have uz:=h.n1;unfold yM;rw[if_neg (by simp only[Bool.or_eq_true,decide_eq_true_eq];omega),hs]
  simp only;rw[if_neg (by rw[h.root];simp),hf]
structure Good (P:List ea) (n:Nat) (D H:List Int) (i:Nat) (x:List Int):Prop where
 places:BF P.length n x=false
 last:RT n i x=false
 scopes:sv D i x=true
 aio:rz P (H.getD i 0) x=true
theorem aop{P:List ea}{n:Nat}{D H:List Int}{i:Nat}{x:List Int}:sW P n D H i x=0↔Good P n D H i x:=by
 constructor
 ·intro h;cases h1:BF P.length n x with
  |true=>rw[as4 h1]at h;cases h
  |false=>
   cases h2:RT n i x with
   |true=>rw[as6 h1 h2]at h;cases h
   |false=>
    cases h3:sv D i x with
    |false=>rw[as7 h1 h2 h3]at h;cases h
    |true=>
     cases h4:rz P (H.getD i 0) x with
     |false=>rw[ain h1 h2 h3,h4]at h;simp at h
     |true=>exact⟨h1,h2,h3,h4⟩
 ·rintro⟨h1,h2,h3,h4⟩;rw[ain h1 h2 h3,h4];rfl
theorem Xr:∀{l:List (List Int)} {n:Int} {i:Nat},i+1<l.length→(nS n l).getD (i+1) 0=Bq ((nS n l).getD i 0) (l.getD i [])
 |[],_,_,h=>by simp at h
 |[x],_,i,h=>by simp at h
 |x::y::l,n,0,_=>by simp[nS]
 |x::y::l,n,i+1,h=>by
  have:=Xr (l:=y::l) (n:=Bq n x) (i:=i) (by simpa using h)
  simp only[nS,List.getD_cons_succ]at this ⊢;exact this
structure I4 (P:List ea) (f:ea) (hv op at':Int):Prop where
 a0:0≤at'
 a1:at'<f.code.length
 inI:xb hv
 bits:∀h:Nat,h<8→tb hv h=false→tb f.aY h=false∧Way f.code h at'
 akI:op=(nS 0 f.code).getD at'.toNat 0
section
variable {P:List ea} {f:ea} {hv op at':Int} {x:List Int}
theorem N1(hA:Acc P f)(hW:I4 P f hv op at')(hx:f.code[at'.toNat]?=some x):Good P f.code.length (nS 0 f.code) (rX f.code f.aY) at'.toNat x:=aop.1 (hA.good _ _ hx)
theorem Vs(hW:I4 P f hv op at'){h:Nat}(hh:h<8)(ht:tb ((rX f.code f.aY).getD at'.toNat 0) h=true):tb hv h=true:=by
 have h0:=hW.a0;have h1:=hW.a1;rw[acg ah,aAb hh,Int.toNat_of_nonneg h0]at ht;cases q:tb hv h with
 |true=>rfl
 |false=>
  obtain⟨b1,b2⟩:=hW.bits h hh q;rcases Vr.1 ht with r|r
  ·rw[b1]at r;cases r
  ·exact(r b2).elim
theorem aco(hn:f.code.length≤128)(hW:I4 P f hv op at')(hx:f.code[at'.toNat]?=some x){z:Int}{FO op':Int}(hz:z∈behind f.code.length at' x)(hI:xb FO)
  (hb:∀h:Nat,h<8→tb FO h=false→tb hv h=false∧wV x h=false) (ho:op'=(nS 0 f.code).getD z.toNat 0):I4 P f FO op' z:=by
 have h0:=hW.a0;have h1:=hW.a1;have hin:=I2 (x:=x) (n:=f.code.length) (i:=at') ah h0 h1 z hz;have hg:f.code.getD at'.toNat []=x:=by simp[hx]
 refine⟨hin.1,hin.2,hI,λh hh ht=> ?_,ho⟩;obtain⟨b1,b2⟩:=hb h hh ht;obtain⟨c1,c2⟩:=hW.bits h hh b1;exact⟨c1,c2.next (by rw[hg];exact b2) (by rw[hg];exact hz)⟩
theorem Xs(hA:Acc P f)(hW:I4 P f hv op at')(hx:f.code[at'.toNat]?=some x)(h6:fU x≠6)(h15:fU x≠15)(h16:fU x≠16):at'+1∈behind f.code.length at' x∧at'+1<f.code.length:=by
 have h0:=hW.a0;have h1:=hW.a1;have hl:=hA.l1;have hg:=N1 hA hW hx;have he:Eb x=false:=by unfold Eb;rw[show(fU x==16)=false by simpa using h16,show(fU x==15)=false by simpa using h15];rfl
 have h6':(fU x !=6)=true:=by simpa using h6
 have hlt:at'+1<f.code.length:=by
  have:=hg.last;unfold RT at this;rw[he,h6']at this;simp only[Bool.and_true,Bool.not_false,beq_eq_false_iff_ne,ne_eq]at this;omega
 have hw:aL .i64 (at'+1)=at'+1:=dQ ⟨ah,ah⟩;refine⟨?_,hlt⟩;unfold behind;have hB:yB f.code.length at' x=true:=by unfold yB;rw[he,h6',hw,decide_eq_true hlt];rfl
 rw[if_pos hB,hw];simp
theorem ago(hA:Acc P f)(hW:I4 P f hv op at')(hx:f.code[at'.toNat]?=some x)(CU:pN x=true):x.getD 4 0∈behind f.code.length at' x:=by
 have hg:=N1 hA hW hx;have h1:=(acm hg.places).1 CU;have h2:=(aes (hA.ok x (r0 hx))).2.2.1 CU;unfold behind;have hB:yA f.code.length x=true:=by unfold yA;rw[CU,decide_eq_true ⟨h2.1,h1⟩];rfl
 rw[if_pos hB];simp
theorem Zq(hW:I4 P f hv op at')(hx:f.code[at'.toNat]?=some x)(hlt:at'+1<f.code.length):(nS 0 f.code).getD (at'+1).toNat 0=Bq op x:=by
 have h0:=hW.a0;have e:(at'+1).toNat=at'.toNat+1:=ah;have hg:f.code.getD at'.toNat []=x:=by simp[hx]
 rw[e,Xr ah,hg,←hW.akI]
theorem acp{h:Int}(h8:fU x≠8):wV x h=false:=by
 unfold wV;rw[show(fU x==8)=false by simpa using h8];rfl
theorem akJ(hA:Acc P f)(hW:I4 P f hv op at')(hx:f.code[at'.toNat]?=some x)(h6:fU x≠6)(h15:fU x≠15)(h16:fU x≠16)(h8:fU x≠8):I4 P f hv (Bq op x) (at'+1):=by
 obtain⟨hz,hlt⟩:=Xs hA hW hx h6 h15 h16;exact aco hA.l1 hW hx hz hW.inI (λh hh ht=>⟨ht,acp h8⟩) (Zq hW hx hlt).symm
theorem akK(hA:Acc P f)(hW:I4 P f hv op at')(hx:f.code[at'.toNat]?=some x)(CU:pN x=true):I4 P f hv op (x.getD 4 0):=by
 have hg:=N1 hA hW hx;have ho:fU x=6∨fU x=7:=by unfold pN at CU;simpa using CU
 have h8:fU x≠8:=ah;refine aco hA.l1 hW hx (ago hA hW hx CU) hW.inI (λh hh ht=>⟨ht,acp h8⟩) ?_;have:=hg.scopes;unfold sv at this;rw[if_neg (by rcases ho with ho|ho<;>rw[ho] <;>decide),if_neg (by rcases ho with ho|ho<;>rw[ho] <;>decide),if_pos CU]at this
 rw[hW.akI];exact(by simpa using this:_=_).symm
end
theorem awS(x y:Int):xb (SH .i64 x y):=by rw[afi];exact aa2 _
theorem Zr{P:List ea}{f:ea}(hA:Acc P f)(hN:xb f.aY):I4 P f f.aY 0 0:=by
 have:=hA.l0;refine⟨ah,ah,hN,λh hh ht=>⟨ht,.zero⟩,?_⟩;cases hc:f.code with
 |nil=>rw[hc]at this;simp at this
 |cons x l=>rfl
end Go.Proofs.YthidhjhkmjjckaaGreatDoor.Ck
namespace Go.Proofs.YthidhjhkmjjckaaGreatDoor
open Go Go.Ev Go.Proofs
open Ko (oE CK)
theorem awT{f i:List Int}{ps:Sl}{P:List ea}{w:World}{k:Array Value×Int→aq}{g:ea}(hF:j2 w ps P)(hf:f.length=19)(h0:0≤f.getD 0 0)(hg:P[(f.getD 0 0).toNat]?=some g)(h1:0≤f.getD 1 0)
  (hi:g.code[(f.getD 1 0).toNat]?=some i) (hk:∀w',Ext w w'→k (eV i,0) w'):iE (eV f) #[.slice ps.a ps.n ps.c] w k:=by
 have hn:=hF.len;obtain⟨_,hcd⟩:=hF.code g (r0 hg);have hcn:=hcd.len;have hlt:=(kO.1 hg).1;have adV:=(kO.1 hi).1;have h5:=(hcd.Gu i (r0 hi)).1;unfold iE;refine av (.nil w) λg1 w1 h=>av h λg3 w3 h=>av h λg5 w6 h=> ?_;have h:St w w6 [ax g5 (ints [0,0,0,0,0]),ax g3 [.slice ps.a ps.n ps.c],ax g1 (ints f)]:=h;refine bU (λb w'=>b=false∧w'=w6) (λJ hJ=> ?_) λb v hbv=> ?_
 ·refine cv (g:=g1) (o:=0+0) h (vB ah) (bp (by rw[decide_eq_false_iff_not];show¬f.getD 0 0<0;omega) ?_)
  refine cv (g:=g1) (o:=0+0) h (vB ah) (eu (g:=g3) (o:=0+0) h rfl (hJ _ _ ⟨by rw[decide_eq_false_iff_not];show¬f.getD 0 0≥((ps.n:Nat):Int);omega,rfl⟩))
 rw[hbv.1,hbv.2];refine bp rfl ?_;refine eu (g:=g3) (o:=0+0) h rfl (cv (g:=g1) (o:=0+0) h (vB ah) ?_);refine Uz (i:=f.getD 0 0) (e:=ea.cells g) hF.rws h h0 (by rw[pB,hg];rfl) λp hp=> ?_
 refine Kh (s:=g.sl) (hp h (j:=1) rfl) ?_;refine bU (λb w'=>b=false∧w'=w6) (λJ hJ=> ?_) λb v hbv=> ?_
 ·refine cv (g:=g1) (o:=0+1) h (vB ah) (bp (by rw[decide_eq_false_iff_not];show¬f.getD 1 0<0;omega) ?_)
  refine cv (g:=g1) (o:=0+1) h (vB ah) (hJ _ _ ⟨by rw[decide_eq_false_iff_not];show¬f.getD 1 0≥((g.sl.n:Nat):Int);omega,rfl⟩)
 rw[hbv.1,hbv.2];refine bp rfl ?_;refine cv (g:=g1) (o:=0+1) h (vB ah) ?_;refine Uz (i:=f.getD 1 0) (e:=ints i) hcd.rws h h1 (by rw[pB,hi];rfl) λp hp=> ?_
 refine GK (e:=ints i) (by simp[ints,h5]) (λj v=>hp h) ?_
 refine mW (g:=g5) h rfl (by simp[ints,h5]) (Ck.qu _) λw29 h=> ?_
 have h:St w w29 [ax g5 (ints i),ax g3 [.slice ps.a ps.n ps.c],ax g1 (ints f)]:=h;refine jG (g:=g5) h (by simp[ints,h5]) ?_
 exact hk _ h.ext
def amL(op:Int):Bool:=decide (6≤op∧op≤12∨op=14)
theorem as8{op:Int}{w:World}{k:Bool→aq}(h0:0≤op)(h1:op<17)(hk:k (amL op) w):r9 op w k:=by
 unfold r9;rcases Fr.aCl h0 h1 with h|h|h|h|h|h|h|h|h|h|h|h|h|h|h|h|h<;>subst h<;>exact hk
section
variable {w0 w:World} {L R:List HP} {l:Lc} {aa:List Nat} {G:Gl} {gw:Nat} {W:Wk} {f f2 f3:HP→List HP}
theorem _root_.Go.Ev.aI2{g o m n:Nat}{cs:List Value}{k:IntKind}{x:Int}{c:Int→Prop}(h:St w0 w L)[a:At L (ax g) cs f](hv:cs[o+m+n]?=some (.int k x))(hc:c x):aN k w (aX (aX ⟨g,o,none⟩ m) n) c:=by rw[c8];exact aI h hv hc
theorem _root_.Go.Ev.yU{g o m n:Nat}{cs:List Value}{k:IntKind}{x:Int}{c:Int→Prop}(h:St w0 w L)[a:At L (ax g) cs f](hc:c x)(hv:cs[o+m+n]?=some (.int k x):=by with_unfolding_all exact rfl):aN k w (aX (aX ⟨g,o,none⟩ m) n) c:=aI2 h hv hc
theorem AF{α:Type}{K:α→HP}{x:α}{X:HP}(h:St w0 w (X::L))[a:At L K x f]:St w0 w (f X):=by
 obtain⟨R,ho,hb⟩:=a.split;have h2:St w0 w (X::K x::R):=St.under ho h;exact St.aqe hb h2.swap.drop
theorem qh{g:Nat}{cs:List Value}{B:Bx}(h:St w0 w (ax g cs::L))[a:At L fz B f]:St w0 w (f (fz (B++[(g,cs)]))):=by
 obtain⟨R,ho,hb⟩:=a.split;have h2:St w0 w (ax g cs::fz B::R):=St.under ho h;exact St.aqe hb (awK h2)
theorem _root_.Go.Ev.St.as9{A B:List HP}(h:St w0 w (A++(B++R))):St w0 w (B++(A++R)):=h.perm (List.perm_append_comm_assoc A B R)
theorem _root_.Go.Ev.St.back(n:Nat){X:HP}(h:St w0 w (X::L)):St w0 w (L.insertIdx n X):=by
 by_cases hn:n≤L.length
 ·exact h.perm (List.perm_insertIdx X L hn).symm
 ·rw[List.insertIdx_of_length_lt ah];exact h.drop
theorem _root_.Go.Ev.St.bk{X:HP}{L':List HP}(h:St w0 w (X::L))(n:Nat)(e:L.insertIdx n X=L':=by simp only[aAd,aAe] <;>exact rfl):St w0 w L':=e▸St.back n h
theorem dN(h:St w0 w (Uk l aa G::qt l aa (gw,W)::R)):∃(sp st sw:Sl) (q:Wq),q.Ok aa gw W∧St w0 w (ax l.gs (l.cs sp st sw G.steps G.err)::bN l.gm G.M::Cr l.gk G.T::scp l.gc G.C::rws 4 sp (G.P.map uy)::bQ 1 st (aa.map pt)::bQ 1 sw (l.wa.map pt)::oE l.gt G.time::KS l.gd G.D::L6 aa G.ts::
  ax gw (W.cs l q)::ax q.gwt (W.wait.cells l.told)::bQ 1 q.ss q.rV.reverse::bQ 1 q.sb q.y9.reverse::bQ 1 q.sl (ints W.left)::mN (uu q.go) W.op::mN (λk:Lk=>ax q.gl (k.cells l.gc)) W.look::mN (λo:jz=>ax q.gp (o.cells l.sp q.gp)) W.step::fz q.B::R):=by
 obtain⟨sp,st,sw,h⟩:=AA h;obtain⟨q,hq,h⟩:=ace (h.front 10 rfl);exact⟨sp,st,sw,q,hq,St.as9 (A:=[_,_,_,_,_,_,_,_,_]) (B:=[_,_,_,_,_,_,_,_,_,_]) (R:=R) h⟩
theorem bn{sp st sw:Sl}{q:Wq}(hq:q.Ok aa gw W)(h:St w0 w (ax l.gs (l.cs sp st sw G.steps G.err)::bN l.gm G.M::Cr l.gk G.T::scp l.gc G.C::rws 4 sp (G.P.map uy)::bQ 1 st (aa.map pt)::bQ 1 sw (l.wa.map pt)::oE l.gt G.time::KS l.gd G.D::L6 aa G.ts::
  ax gw (W.cs l q)::ax q.gwt (W.wait.cells l.told)::bQ 1 q.ss q.rV.reverse::bQ 1 q.sb q.y9.reverse::bQ 1 q.sl (ints W.left)::mN (uu q.go) W.op::mN (λk:Lk=>ax q.gl (k.cells l.gc)) W.look::mN (λo:jz=>ax q.gp (o.cells l.sp q.gp)) W.step::fz q.B::R)):St w0 w (Uk l aa G::qt l aa (gw,W)::R):=by
 have h2:=aic hq (St.as9 (A:=[_,_,_,_,_,_,_,_,_,_]) (B:=[_,_,_,_,_,_,_,_,_]) (R:=R) h);exact vn (St.back 10 h2)
theorem _root_.Go.Ev.ptI{cs:Array Value}{o:Nat}{n:Int}{c:Int→Prop}(hv:cs[o]?=some (.int .i64 n))(hc:c n):PW cs o λv=>xy .i64 v c:=by
 unfold PW;rw[hv];exact hc
theorem Ka{sp st sw:Sl}{steps err e:Int}{k:Bool→aq}(h:St w0 w L)[a:At L (ax l.gs) (l.cs sp st sw steps err) f](he:e≠0)(h0:err=0)(hk:∀w',St w0 w' (f (ax l.gs (l.cs sp st sw steps e)))→k true w'):ae (some ⟨l.gs,0,none⟩) e w k:=by
 unfold ae;subst h0;have hb:(e !=0)=true:=by simp[he]
 rw[hb];refine bU (λb w'=>b=true∧w'=w) (λJ hJ=> ?_) ?_
 ·refine bH rfl ?_;refine an (aI h rfl ?_);exact hJ _ _ ⟨rfl,rfl⟩
 rintro _ _ ⟨rfl,rfl⟩;refine bH rfl ?_;with_reducible repeat' (first|refine an ?_|refine eL h λw h=> ?_|fail)
 exact hk w h
theorem lJ{s:Option Addr}{k:Bool→aq}(hk:k false w):ae s 0 w k:=by
 unfold ae;refine Qf ?_;exact bp rfl (bp rfl hk)
theorem kX{q:Wq}{a:Nat}{vs cs:List Value}{k:Option Addr→aq}(h:St w0 w L)[a1:At L (ax gw) cs f](hs:q.rV=pt a::vs)(h5:cs[0+5]?=some (.slice q.ss.a q.ss.n q.ss.c))[a2:At L (bQ 1 q.ss) q.rV.reverse f2](hk:∀w',St w0 w' L→k (some ⟨a,0,none⟩) w'):af (some ⟨gw,0,none⟩) w k:=by
 unfold af;have hn:=uN (s:=q.ss) (vs:=q.rV.reverse) h;have hm:=(h.own (sz:=1) (s:=q.ss) (vs:=q.rV.reverse)).max;have hcap:=(h.own (sz:=1) (s:=q.ss) (vs:=q.rV.reverse)).cap;rw[hs]at hn;simp only[List.length_reverse,List.length_cons]at hn;refine aK h λw h=>an (aS h h5 (an (aS h h5 ?_)));show cW q.ss (aL .i64 (((q.ss.n:Nat):Int) - 1)) 1 _;rw[lO ⟨ah,ah⟩];refine vP (s:=q.ss) (vs:=q.rV.reverse) h ah (x:=some ⟨a,0,none⟩) ?_ (hk _ h);rw[hs,List.reverse_cons,uK (by simp;omega)]
 have e:(((q.ss.n:Nat):Int) - 1).toNat - vs.reverse.length=0:=by rw[List.length_reverse];omega
 rw[e];rfl
theorem BG{t:Tk}{a:Nat}{so sc:Sl}{x:Int×Int}{o:List (Int×Int)}{k:Array Value→aq}(h:St w0 w L)[a1:At L (ax a) (t.cells so sc) f][a2:At L (rws 2 so) (t.cI.map Az) f2](ho:t.cI=o++[x])
  (hk:∀w',St w0 w' L→k #[.int .i64 x.1,.int .i64 x.2] w'):au (some ⟨a,0,none⟩) w k:=by
 unfold au;have hl:=(tC (sz:=2) (s:=so) (es:=t.cI.map Az) h).2 ah;obtain⟨R',y5,_⟩:=a2.out;obtain⟨R2,_,h3,_⟩:=Lb a2 h;have hm:=(h3.own (sz:=2) (s:=so) (vs:=(t.cI.map Az).flatten)).max;have hcap:=(h3.own (sz:=2) (s:=so) (vs:=(t.cI.map Az).flatten)).cap;rw[ho]at hl;simp only[List.length_map,tW,List.length_cons,List.length_nil]at hl;with_reducible repeat' (first|refine an ?_|refine aK h λw h=> ?_|refine mJ h ?_|refine av h λgx w h=> ?_|fail)
 show cW so (aL .i64 (((so.n:Nat):Int) - 1)) 2 _;rw[lO ⟨ah,ah⟩];refine rA (sz:=2) (s:=so) (es:=t.cI.map Az) h ah (e:=Az x) ?_ ah ?_
 ·rw[ho,List.map_append,uK (by simp;omega)]
  have e:(((so.n:Nat):Int) - 1).toNat - (o.map Az).length=0:=by rw[List.length_map];omega
  rw[e];rfl
 with_reducible repeat' (first|refine pn h ?_|refine qX h λw h=> ?_|fail)
 exact hk w h.drop
theorem Gx{q:Wq}{sp st sw:Sl}{steps err:Int}{k:Bool→aq}(h:St w0 w L)[a1:At L (ax gw) (W.cs l q) f][a2:At L (ax l.gs) (l.cs sp st sw steps err) f2](h0:err=0)
  (h1:steps≥l.fuel→∀w',St w0 w' (f2 (ax l.gs (l.cs sp st sw steps 22)))→k true w') (h2:¬steps≥l.fuel→∀w',St w0 w' L→k false w'):aE (some ⟨gw,0,none⟩) w k:=by
 unfold aE xX;with_reducible repeat' (first|refine an ?_|refine aK h λw h=> ?_|refine dL h ?_|refine dX h ?_|refine yU h ?_|fail)
 refine aF (λhb=> ?_) λhb=> ?_
 ·with_reducible repeat' (first|refine an ?_|refine dL h ?_|fail)
  exact Ka h gD h0 λw h=>h1 (of_decide_eq_true hb) w h
 ·exact h2 (of_decide_eq_false hb) _ h
end
end Go.Proofs.YthidhjhkmjjckaaGreatDoor
namespace Go.Proofs.YthidhjhkmjjckaaGreatDoor
open Go Go.Ev Go.Proofs
open Fr (Ay m8 dO eC c9 iv jb nF oH)
def Gl.tick(G:Gl)(wk:Int):Gl:={G with M:=G.M.tick wk}
def Gl.mem(G:Gl)(M:bO):Gl:={G with M:=M}
def Gl.fail(G:Gl)(e:Int):Gl:={G with err:=e}
def Gl.set(G:Gl)(x:Nat)(t:Tk):Gl:={G with ts:=G.ts.set x t}
def Gl.lK(G:Gl):Gl:={G with steps:=wr (G.steps+1)}
def Wk.go(W:Wk)(f:Mt):Wk:={W with cR:= .m f}
def Wk.AG(W:Wk)(O:bw)(k:Kn):Wk:={W with op:=some O,after:=k,cR:= .m .o7}
def Wk.G3(W:Wk)(x:Int)(k:Kn):Wk:={W with jc:=x,home:=k,cR:= .m .sU}
def Wk.I5(W:Wk)(k:Kn):Wk:={W with said:=k,cR:= .m .tell}
def Wk.search(W:Wk)(a b c:Kn):Wk:={W with fits:=a,got:=b,none_:=c,cR:= .m .others}
def Wk.stop(W:Wk)(k:Kn):Wk:={W with o8:=k,step:=none,cR:= .m .stops}
def Wk.drain(W:Wk)(mark:Int)(k:Kn):Wk:={W with mark:=mark,dy:=k,cR:= .m .tP}
def Wk.looks(W:Wk)(s:Int)(k:Kn):Wk:={W with look:=some ⟨s,false,false⟩,seen:=k,cR:= .m .looking}
def Tk.j3(t:Tk):Int×Int:=t.cI.getLastD (0,0)
def bz(P:List ea)(f:List Int):List Int:=match P[(f.getD 0 0).toNat]? with
 |some g=>g.code.getD (f.getD 1 0).toNat []
 |none=>[]
def amM:Option bw→Int|some O=>O.tell|none=>0
section
variable (l:Lc) (P:List ea) (G:Gl) (W:Wk)
abbrev SW:=Gl×Wk
abbrev got(W:Wk):Int:=amM W.op
def rest:SW:=(G.tick W.id,({W with late:=false,wait:=⟨1,G.M.get l.told⟩}:Wk).AG (bw.CT W.dq l.log 0 8) (.c .FA))
def FA(st:Int):SW:=(G,if st=1 then W.G3 (got W) (.m .rest)else W.search .any (.c .Sx) (.m .yL))
def yL:SW:=(G,if W.late then W.go .rest else if W.id≥l.base then{W with step:=some (jz.CT W.id 3),cR:= .m .wU}else W.go .RN)
def N2:SW:=(G.mem (G.M.ad W.id l.told 1),{W with cR:=W.said})
def RN:SW:=(G.mem (G.M.ad W.id l.idle (bit W.id 1)),{W with wait:=⟨2,W.wait.seen⟩,cR:= .m .I0})
def I0:SW:=(G.mem (G.M.ad W.id l.idle (bit W.id (-1))),{W with wait:=⟨0,W.wait.seen⟩,cR:= .m .rest})
def wU(o:jz):SW:=
 let r:=o.go l.sp G.M W.id
 (G.mem r.2,if r.1.next=0 then{W with step:=some r.1,cR:=if r.1.af4=W.id then .m .rest else .m .RN}else{W with step:=some r.1})
def sU(t:Tk):SW:=(G.mem (G.M.cs W.id (t.jt+0) 0 1).1,{W with cR:=if (G.M.cs W.id (t.jt+0) 0 1).2 then .m .start else W.home})
def shut(k:Kn)(t:Tk):Wk:=({W with target:=none,pM:=k,again:= .sh k}:Wk).drain t.j3.2 (.c .Cs)
def unwind(t:Tk):Wk:=if t.cI.length=0 then W.go .put else shut W (.c .qq) t
def ends(x:Nat)(t:Tk)(kind v:Int):SW:=(G.set x {t with kind:=kind,v:=v},unwind W t)
def N3(x:Nat)(t:Tk):SW:=
 if W.stack.length≥l.deep then(G.fail 23,W)
 else((G.tick W.id).set x {t with cI:=[(t.own,G.M.get (W.dq+1))]},({W with stack:=x::W.stack,back:=W.home::W.back}:Wk).looks t.lN (.c .wW))
def wW(x:Nat)(t:Tk)(wT:Bool):SW:=if wT then ends G W x t 4 0 else(G,W.go .next)
def acq(op:Int):Mt:=([.fork,.join,.join,.cI,.close,.cancel,.pass,.leave,.leave]:List Mt).getD (op - 8).toNat .pass
def aeu(x:Nat)(t:Tk)(i:List Int):SW:=
 if G.steps≥l.fuel then(G.fail 22,W)
 else if (dO t.f i).2 then((G.set x {t with f:=(dO t.f i).1}).lK,W.go .next)
 else(G,W.go (acq (i.getD 0 0)))
def Vt(x:Nat)(t:Tk):SW:=if amL ((bz P t.f).getD 0 0)then(G,W.looks t.lN (.nx (bz P t.f)))else aeu l G W x t (bz P t.f)
def acr(x:Nat)(t:Tk)(i:List Int)(wT:Bool):SW:=if wT then ends G W x t 4 0 else aeu l G W x t i
def fork(t:Tk)(nd:Nd):SW:=
 if wr (nd.nest+1)>32 then(G.fail 23,W)
 else if G.M.room 2=false then(G.fail 21,W)
 else({G with M:=(G.M.tick W.id).grow 2,C:=G.C++[⟨t.j3.1,wr (nd.nest+1),(G.M.cells.length:Nat)⟩],P:=G.P++[(-2,0,0,false)]},{W with own:=(G.C.length:Nat),cR:= .m .wV})
def Gl.more(G:Gl)(wk parent lN own:Int)(f:List Int):Gl:=
 {G with M:=(G.M.tick wk).grow 3,T:=GX G.T parent,ts:=G.ts++[⟨(G.T.length:Nat),lN,own,(G.M.cells.length:Nat),f,ByteArray.mk #[],[],[own],0,0⟩],P:=G.P.set own.toNat ((G.T.length:Nat),0,0,false)}
def Ed(P:List ea)(n:Int):Int:=match P[n.toNat]? with|some g=>g.aY|none=>0
def Kb(x:Nat)(t:Tk):SW:=
 let i:=bz P t.f
 if G.steps≥l.fuel then(G.fail 22,W)
 else if G.M.room 3=false then(G.fail 21,W)
 else(((G.more W.id t.id t.j3.1 W.own (jb t.f (i.getD 4 0) (Ed P (i.getD 4 0)))).set x {t with f:=eC t.f i (G.ts.length:Nat)}).lK,{W with jc:=(G.ts.length:Nat),cR:= .m .sV})
def sV(nd:Nd):SW:=(G.mem (G.M.ad W.id (nd.at_+1) 1),W.AG (bw.CT W.dq l.log W.jc 0) (.c .tQ))
def tQ(st:Int):SW:=(G,if st=4 then W.G3 W.jc (.m .next)else W.I5 (.m .next))
def cI:SW:=(G.tick W.id,{W with mark:=G.M.get (W.dq+1),cR:= .m .opens})
def opens(x:Nat)(t:Tk)(nd:Nd)(pk:Int):SW:=
 let i:=bz P t.f
 if G.steps≥l.fuel then(G.fail 22,W)
 else if wr (nd.nest+1)>32 then(G.fail 23,W)
 else if G.M.room 2=false then(G.fail 21,W)
 else
  let s:Int:=(G.C.length:Nat)
  let G1:Gl:={G with M:=(G.M.tick W.id).grow 2,C:=G.C++[⟨t.j3.1,wr (nd.nest+1),(G.M.cells.length:Nat)⟩],P:=G.P++[(t.id,((t.scopes.length:Nat):Int),pk,false)],time:=if i.getD 4 0>0 then(G.time.1,(Ko.CM G.time s (i.getD 4 0)).2)else G.time}
  ((G1.set x {t with scopes:=t.scopes++[s],cI:=t.cI++[(s,W.mark)],f:=m8 t.f}).lK,W.go .next)
def close_(t:Tk):SW:=(G,shut W (.c .BS) t)
def BT(P:List Pl)(i:Int):List Pl:=match P[i.toNat]? with|some p=>P.set i.toNat (p.1,p.2.1,p.2.2.1,true)|none=>P
def Gl.YB(G:Gl)(x:Nat)(t:Tk):Gl:=
 {G with time:=(G.time.1,Ko.Ea G.time.2 t.j3.1),P:=BT G.P t.j3.1,ts:=G.ts.set x {t with cI:=t.cI.dropLast}}
def gC(x:Nat)(t:Tk)(nd:Nd):SW:=
 let i:=bz P t.f
 let a:=G.M.get nd.at_ !=0
 if G.steps≥l.fuel then(G.fail 22,W)
 else(((G.tick W.id).YB x {t with gC:=t.gC++(if a then ByteArray.mk #[49]else ByteArray.mk #[48]),f:=iv t.f i a}).lK,W.go .next)
def cancel(x:Nat)(t:Tk)(nd:Nd):SW:=
 if G.steps≥l.fuel then(G.fail 22,W)
 else(((G.mem (G.M.cs W.id nd.at_ 0 1).1).set x {t with f:=m8 t.f}).lK,W.I5 (.m .next))
def pass(x:Nat)(t:Tk):SW:=if G.steps≥l.fuel then(G.fail 22,W)else((G.set x {t with f:=m8 t.f}).lK,W.go .next)
def leave(x:Nat)(t:Tk):SW:=
 let i:=bz P t.f
 if G.steps≥l.fuel then(G.fail 22,W)
 else(((G.set x {t with f:=m8 t.f,kind:=if i.getD 0 0=15 then 3 else 2,v:=t.f.getD (2+(i.getD 1 0).toNat) 0})).lK,unwind W t)
def aip(x:Nat)(t:Tk):SW:=ends G W x t 4 0
def qq(x:Nat)(t:Tk):SW:=(G.YB x t,unwind W {t with cI:=t.cI.dropLast})
def put(t:Tk):SW:=(if t.kind=4 then G else G.mem ((G.M.tick W.id).put (t.jt+1) t.v),W.go .fin)
def fin(t:Tk):SW:=(G.mem (G.M.cs W.id (t.jt+0) 1 t.kind).1,W.go .asks)
def asks(t:Tk):SW:=(G.tick W.id,{W with bits:=G.M.get (t.jt+2),cR:= .m .gone})
def gone(nd:Nd):SW:=
 let b:=W.back.headD .no
 let W1:Wk:={W with stack:=W.stack.tail,back:=W.back.tail,cR:=b}
 (G.mem (G.M.ad W.id (nd.at_+1) (-1)),if W.bits !=0||G.M.get (nd.at_+1)==1 then W1.I5 b else W1)
def FG(t:Tk)(x:Nat):SW:=(G.tick W.id,({W with target:=some x,late:=false,again:= .aw x,wait:=⟨1,G.M.get l.told⟩}:Wk).looks t.lN (.c .sK))
def join(t:Tk):SW:=
 let i:=bz P t.f
 FG l G W t (t.f.getD (10+(if i.getD 0 0=10 then i.getD 3 0 else i.getD 2 0).toNat) 0).toNat
def sK(wT:Bool):SW:=(G,if wT then W.stop (.m .cancelled)else W.go .asked)
def asked(t tt:Tk)(y:Nat):SW:=
 let kind:=G.M.get (tt.jt+0)
 (G.tick W.id,if kind=0 then W.stop (.Vo y W.again)else if kind=1 then W.drain (t.cI.headD (0,0)).2 (.m .vu)else({W with kind:=kind}:Wk).stop (.c .HZ))
def joined(x:Nat)(t tt:Tk):SW:=
 let i:=bz P t.f
 if G.steps≥l.fuel then(G.fail 22,W)
 else
  let r:=c9 t.f i W.kind (if W.kind=4 then 0 else G.M.get (tt.jt+1))
  let G1:=if W.kind=4 then G else G.tick W.id
  if r.2.2 then((G1.set x {t with f:=r.1,kind:=3,v:=r.2.1}).lK,unwind (W.go .next) t)
  else((G1.set x {t with f:=r.1}).lK,W.go .next)
def vu(t:Tk):SW:=(G,W.search (.hl t.id W.target) (.m .Bo) (.m .nothing))
def Bo(x:Int):SW:=(G,W.stop (.Bp x W.again))
def dy(t:Tk):SW:=if W.dy= .m .vu then vu G W t else(G,W.go .qU)
def tP(t:Tk):SW:=
 let b:=G.M.get (W.dq+1)
 if b≤W.mark then dy (G.tick W.id) W t else(G.tick W.id,W.AG (bw.CT W.dq l.log 0 8) (.c .sJ))
def sJ(t:Tk)(st:Int):SW:=if st≠1 then dy G W t else Bo G W (got W)
def qU:SW:=(G.tick W.id,{W with late:=false,wait:=⟨1,G.M.get l.told⟩,cR:= .m .rR})
def rR(t:Tk)(nd:Nd):SW:=if G.M.get (nd.at_+1)=0 then(G.tick W.id,W.stop W.pM)else vu (G.tick W.id) W t
def nothing:SW:=(G,if W.late then{W with cR:=W.again}else if W.target.isSome&& !W.bK then W.go .register else if W.blocked then{W with wait:=⟨2,W.wait.seen⟩,cR:= .m .HI}else{W with step:=some (jz.CT 0 1),cR:= .m .block})
def register(tt:Tk):SW:=(G.mem (G.M.ad W.id (tt.jt+2) (bit W.id 1)),{W with bK:=true,cR:=W.again})
def block(o:jz):SW:=
 let r:=o.go l.sp G.M W.id
 (G.mem r.2,if r.1.next=0 then{W with step:=some r.1,blocked:=true,cR:=W.again}else{W with step:=some r.1})
def again(t:Tk):SW:=match W.again with
 | .aw y=>FG l G W t y
 | .sh k=>(G,shut W k t)
 |_=>(G,W)
def HI(t:Tk):SW:=again l G {W with wait:=⟨0,W.wait.seen⟩} t
def o8(x:Nat)(t:Tk)(id:Nat→Int):SW:=match W.o8 with
 | .m .cancelled=>ends G W x t 4 0
 | .Vo y k=>(G,W.G3 (id y) k)
 | .Bp y k=>(G,W.G3 y k)
 | .c .HZ=>(G,W.go .joined)
 | .c .BS=>(G,W.go .gC)
 | .c .qq=>qq G W x t
 |_=>(G,W)
def stops(x:Nat)(t:Tk)(id jt:Nat→Int):SW:=
 if W.blocked then
  let r:=(W.step.getD (jz.CT 0 2)).go l.sp G.M W.id
  (G.mem r.2,if r.1.next=0 then{W with blocked:=false,step:=none}else{W with step:=some r.1})
 else if W.bK then(G.mem (G.M.ad W.id (jt (W.target.getD 0)+2) (bit W.id (-1))),{W with bK:=false})
 else o8 G W x t id
def akL(t:Tk):SW:=if W.none_= .m .yL then yL l G W else nothing G W
def Kc(t:Tk)(bx:List Int):SW:=match W.left with
 |[]=>akL l G W t
 |j::r=>(G,({W with left:=r}:Wk).AG (bw.CT (bx.getD j.toNat 0) l.log 0 15) (.m .TH))
def others(t:Tk)(bx:List Int):SW:=
 Kc l {G.tick W.id with D:=G.D.tail} {W with left:=Vg (G.D.headD 0) (xk W.id (l.sp.bits G.M) (G.M.get l.idle) l.wa.length)} t bx
def YC(W:Wk)(id:Nat→Int)(x:Int):Bool:=match W.fits with
 | .hl me none=>RI G.T x me
 | .hl me (some y)=>RI G.T x me||RI G.T x (id y)
 |_=>true
def TH(t:Tk)(bx:List Int)(id:Nat→Int)(st:Int):SW:=if st≠2∨YC G W id (got W)=false then Kc l G W t bx else(G,{W with after:= .m .Am})
def ata(x:Int):SW:=if W.got= .m .Bo then Bo G W x else(G,W.G3 x (.m .rest))
def Am(t:Tk)(bx:List Int)(st:Int):SW:=if st=1 then ata G W (got W)else Kc l G {W with late:=true} t bx
def y3(t:Tk)(bx:List Int)(id:Nat→Int)(st:Int):SW:=match W.after with
 | .c .FA=>FA G W st
 | .c .tQ=>tQ G W st
 | .c .sJ=>sJ G W t st
 | .m .TH=>TH l G W t bx id st
 | .m .Am=>Am l G W t bx st
 |_=>(G,W)
def o7(O:bw)(t:Tk)(bx:List Int)(id:Nat→Int):SW:=
 let r:=O.step G.M W.id
 let W1:Wk:={W with op:=some r.1}
 if r.1.how=0 then(G.mem r.2,W1)else if r.1.how=6 then((G.mem r.2).fail r.1.err,W1)else y3 l (G.mem r.2) W1 t bx id r.1.how
def RU(x:Nat)(t:Tk)(wT:Bool):SW:=match W.seen with
 | .nx i=>acr l G W x t i wT
 | .c .sK=>sK G W wT
 | .c .wW=>wW G W x t wT
 |_=>(G,W)
def looking(k:Lk)(nd:Nd)(x:Nat)(t:Tk):SW:=
 let k':=k.go G.M nd
 let W1:Wk:={W with look:=some k'}
 if k'.done then RU l (G.tick W.id) W1 x t k'.wT else(G.tick W.id,W1)
end
end Go.Proofs.YthidhjhkmjjckaaGreatDoor
namespace Go.Proofs.YthidhjhkmjjckaaGreatDoor
open Go Go.Ev Go.Proofs
open Ko (oE CK)
abbrev qB(w0 w:World)(l:Lc)(aa:List Nat)(gw:Nat)(G:Gl)(W:Wk)(R:List HP):Prop:=St w0 w (Uk l aa G::qt l aa (gw,W)::R)
abbrev Fin(w0:World)(l:Lc)(aa:List Nat)(gw:Nat)(R:List HP)(k:Unit→aq)(r:Gl×Wk):Prop:=∀w',qB w0 w' l aa gw r.1 r.2 R→k () w'
abbrev wY(w0 w:World)(l:Lc)(aa:List Nat)(gw:Nat)(G:Gl)(W:Wk)(R:List HP)(sp st sw:Sl)(q:Wq):Prop:=
 St w0 w (ax l.gs (l.cs sp st sw G.steps G.err)::bN l.gm G.M::Cr l.gk G.T::scp l.gc G.C::rws 4 sp (G.P.map uy)::bQ 1 st (aa.map pt)::bQ 1 sw (l.wa.map pt)::oE l.gt G.time::KS l.gd G.D::L6 aa G.ts::
  ax gw (W.cs l q)::ax q.gwt (W.wait.cells l.told)::bQ 1 q.ss q.rV.reverse::bQ 1 q.sb q.y9.reverse::bQ 1 q.sl (ints W.left)::mN (uu q.go) W.op::mN (λk:Lk=>ax q.gl (k.cells l.gc)) W.look::mN (λo:jz=>ax q.gp (o.cells l.sp q.gp)) W.step::fz q.B::R)
section
variable {w0 w:World} {L R:List HP} {l:Lc} {aa:List Nat} {G:Gl} {gw b:Nat} {W:Wk} {k:Unit→aq} {sp st sw:Sl} {q:Wq} {f:HP→List HP}
theorem agp{go:Nat}{o:Option bw}{k:Int→aq}(h:St w0 w L)[a:At L (mN (uu go)) o f](ho:o.isSome=true)(hk:k (amM o) w):cG (o.map λ_=>⟨go,0,none⟩) w k:=by
 cases o with
 |none=>cases ho
 |some O=>
  obtain⟨R,h1,_⟩:=a.out;have h2:St w0 w (uu go O::R):=h1 h;exact azO (O:=O) h2 hk
theorem awU(h:qB w0 w l aa gw G W R)(hc:G.M.can W.id l.told=true)(hk:Fin w0 l aa gw R k (rest l G W)):gN (some ⟨gw,0,none⟩) w k:=by
 obtain⟨sp,st,sw,q,hq,h⟩:=dN h;unfold gN zU;with_reducible repeat' (first|refine an ?_|refine aK h λw h=> ?_|refine dL h ?_|refine dX h ?_|refine oI h ?_|refine eL h λw h=> ?_|refine av h λgx w h=> ?_|fail)
 obtain⟨b,lI⟩:∃n,n=gx:=⟨_,rfl⟩;subst lI;with_reducible repeat' (first|refine an ?_|refine aK h λw h=> ?_|refine dL h ?_|refine dX h ?_|refine FU h ?_|refine mJ h ?_|refine td h ?_|refine La h ?_|refine oI h ?_|refine GM h ?_|refine OB h ?_|refine B3 h ?_|refine MD h ?_|refine OC h ?_|refine pi h ?_|refine pn h ?_|refine yU h ?_|refine eL h λw h=> ?_|refine xB h λw h=> ?_|refine HV h λw h=> ?_|refine qX h λw h=> ?_|refine av h λgx w h=> ?_|refine gA ?_|refine kr h ?_|refine po h ?_|refine lu ?_ ?_|refine ij ?_|refine qx ?_|refine Jf ?_|fail)
 have h:=h.fr 2;have h:=h.fr 12;refine abI (M:=G.M) h hc λw h=> ?_;have h:=h.bk 12;have h:=h.bk 2;with_reducible repeat' (first|refine an ?_|refine aK h λw h=> ?_|refine oI h ?_|refine pi h ?_|refine kr h ?_|refine po h ?_|refine ij ?_|refine lJ ?_|fail)
 refine arQ h λgo w h=> ?_;have h:=AF (K:=mN (uu q.go)) h;unfold bt;with_reducible repeat' (first|refine an ?_|refine eL h λw h=> ?_|refine po h ?_|fail)
 have h:=qh h;exact hk w (bn (q:={q with go:=go,pe:=_,JW:=_,B:=_}) {JX (g:=b) (cs:=[pt gw]) hq with cR:=rfl,after:=⟨b,bh,rfl⟩} h)
theorem atb{CV:Int}(hq:q.Ok aa gw W)(h:wY w0 w l aa gw G W R sp st sw q)(hb:(b,[pt gw])∈q.B)(ho:W.op.isSome=true)(hk:Fin w0 l aa gw R k (FA G W CV)):fZ CV ⟨b,0,none⟩ w k:=by
 unfold fZ vU;unfold FA at hk;refine aF (λhs=> ?_) λhs=> ?_
 ·rw[if_pos (by simpa using hs)]at hk
  with_reducible repeat' (first|refine an ?_|refine aK h λw h=> ?_|refine dL h ?_|refine Eo h hb ?_|fail)
  refine agp h ho ?_;with_reducible repeat' (first|refine gA ?_|fail)
  unfold bi;with_reducible repeat' (first|refine an ?_|refine eL h λw h=> ?_|fail)
  exact hk _ (bn (q:={q with pe:=mt gw .sU,KX:=mt gw .rest}) (by exact{hq with cR:=rfl,home:=rfl}) h)
 ·rw[if_neg (by simpa using hs)]at hk
  with_reducible repeat' (first|refine Eo h hb ?_|fail)
  unfold dg;with_reducible repeat' (first|refine an ?_|refine eL h λw h=> ?_|fail)
  exact hk _ (bn (q:={q with pe:=mt gw .others,Yx:=ayB,aib:=ct b .Sx,Yy:=mt gw .yL}) (by exact{hq with cR:=rfl,fits:=rfl,got:=⟨b,hb,rfl⟩,none_:=rfl}) h)
theorem aoq{x:Int}(hq:q.Ok aa gw W)(h:wY w0 w l aa gw G W R sp st sw q)(hb:(b,[pt gw])∈q.B)(hk:Fin w0 l aa gw R k (G,W.G3 x (.m .rest))):eN x ⟨b,0,none⟩ w k:=by
 unfold eN ue;with_reducible repeat' (first|refine Eo h hb ?_|fail)
 unfold bi;with_reducible repeat' (first|refine an ?_|refine eL h λw h=> ?_|fail)
 exact hk _ (bn (q:={q with pe:=mt gw .sU,KX:=mt gw .rest}) (by exact{hq with cR:=rfl,home:=rfl}) h)
theorem atc(h:qB w0 w l aa gw G W R)(hk:Fin w0 l aa gw R k (yL l G W)):gY (some ⟨gw,0,none⟩) w k:=by
 obtain⟨sp,st,sw,q,hq,h⟩:=dN h;unfold gY xT;unfold yL at hk;with_reducible repeat' (first|refine an ?_|refine FU h ?_|fail)
 refine aF (λhb=> ?_) λhb=> ?_
 ·rw[if_pos hb]at hk;with_reducible repeat' (first|refine an ?_|refine eL h λw h=> ?_|fail)
  exact hk _ (bn (q:={q with pe:=mt gw .rest}) (by exact{hq with cR:=rfl}) h)
 rw[if_neg (by rw[hb];simp)]at hk
 with_reducible repeat' (first|refine an ?_|refine aK h λw h=> ?_|refine dL h ?_|refine dX h ?_|refine yU h ?_|fail)
 refine aF (λhb=> ?_) λhb=> ?_
 ·rw[if_pos (of_decide_eq_true hb)]at hk;with_reducible repeat' (first|refine an ?_|refine aK h λw h=> ?_|refine dL h ?_|refine dX h ?_|refine pi h ?_|fail)
  refine an3 (s:=l.sp) h λg w h=> ?_;have h:=AF (K:=mN (λo:jz=>ax q.gp (o.cells l.sp q.gp))) h;with_reducible repeat' (first|refine an ?_|refine eL h λw h=> ?_|fail)
  exact hk _ (bn (q:={q with pe:=mt gw .wU,gp:=g}) (by exact{hq with cR:=rfl}) h)
 ·rw[if_neg (of_decide_eq_false hb)]at hk;with_reducible repeat' (first|refine an ?_|refine eL h λw h=> ?_|fail)
  exact hk _ (bn (q:={q with pe:=mt gw .RN}) (by exact{hq with cR:=rfl}) h)
theorem atd(h:qB w0 w l aa gw G W R)(hc:G.M.can W.id l.told=true)(hk:Fin w0 l aa gw R k (N2 l G W)):gK (some ⟨gw,0,none⟩) w k:=by
 obtain⟨sp,st,sw,q,hq,h⟩:=dN h;unfold gK zO;have hv:=hq.said.one;with_reducible repeat' (first|refine an ?_|refine aK h λw h=> ?_|refine dL h ?_|refine dX h ?_|refine pi h ?_|fail)
 refine ami (M:=G.M) h hc λw h=> ?_;with_reducible repeat' (first|refine an ?_|refine td h ?_|refine eL h λw h=> ?_|refine kr h ?_|refine qx ?_|refine lJ ?_|fail)
 exact hk _ (bn (q:={q with pe:=q.Yz}) (by exact{hq with cR:=hq.said}) h)
theorem aAf(h:qB w0 w l aa gw G W R)(hw:0≤W.id∧W.id≤16)(hc:G.M.can W.id l.idle=true)(hh:W.wait.how=1)(hk:Fin w0 l aa gw R k (RN l G W)):iD (some ⟨gw,0,none⟩) w k:=by
 obtain⟨sp,st,sw,q,hq,h⟩:=dN h;unfold iD A8;with_reducible repeat' (first|refine an ?_|refine aK h λw h=> ?_|refine dL h ?_|refine dX h ?_|refine FU h ?_|refine mJ h ?_|refine td h ?_|refine La h ?_|refine oI h ?_|refine GM h ?_|refine OB h ?_|refine B3 h ?_|refine MD h ?_|refine OC h ?_|refine pi h ?_|refine pn h ?_|refine yU h ?_|refine eL h λw h=> ?_|refine xB h λw h=> ?_|refine HV h λw h=> ?_|refine qX h λw h=> ?_|refine av h λgx w h=> ?_|refine gA ?_|refine kr h ?_|refine po h ?_|refine lu ?_ ?_|refine ij ?_|refine qx ?_|refine Jf ?_|fail)
 refine bU (λb w=>b=false∧wY w0 w l aa gw (G.mem (G.M.ad W.id l.idle (bit W.id 1))) {W with wait:=⟨2,W.wait.seen⟩} R sp st sw q) (λJ hJ=> ?_) ?_
 ·with_reducible repeat' (first|refine an ?_|refine aK h λw h=> ?_|refine dL h ?_|refine dX h ?_|refine pi h ?_|fail)
  refine anL (M:=G.M) h hw hc λw h=> ?_;with_reducible repeat' (first|refine an ?_|refine dL h ?_|refine kr h ?_|refine ij ?_|refine lJ ?_|fail)
  refine amj (x:=W.wait) h λw h=> ?_;rw[if_pos hh];rw[if_pos hh]at h;with_reducible repeat' (first|refine kr h ?_|refine lJ ?_|fail)
  exact hJ _ _ ⟨rfl,h⟩
 clear h;rintro _ w ⟨rfl,h⟩;with_reducible repeat' (first|refine an ?_|refine eL h λw h=> ?_|refine ij ?_|fail)
 exact hk _ (bn (q:={q with pe:=mt gw .I0}) (by exact{hq with cR:=rfl}) h)
theorem awV(h:qB w0 w l aa gw G W R)(hw:0≤W.id∧W.id≤16)(hc:G.M.can W.id l.idle=true)(hk:Fin w0 l aa gw R k (I0 l G W)):gL (some ⟨gw,0,none⟩) w k:=by
 obtain⟨sp,st,sw,q,hq,h⟩:=dN h;unfold gL zQ;with_reducible repeat' (first|refine an ?_|refine dL h ?_|fail)
 refine aeb (x:=W.wait) h λw h=> ?_;with_reducible repeat' (first|refine an ?_|refine aK h λw h=> ?_|refine dL h ?_|refine dX h ?_|refine pi h ?_|fail)
 refine anM (M:=G.M) h hw hc λw h=> ?_;with_reducible repeat' (first|refine an ?_|refine eL h λw h=> ?_|refine kr h ?_|refine qx ?_|refine lJ ?_|fail)
 exact hk _ (bn (q:={q with pe:=mt gw .rest}) (by exact{hq with cR:=rfl}) h)
theorem akM(h:qB w0 w l aa gw G W R)(hc:G.M.can W.id l.told=true)(hk:Fin w0 l aa gw R k (qU l G W)):eH (some ⟨gw,0,none⟩) w k:=by
 obtain⟨sp,st,sw,q,hq,h⟩:=dN h;unfold eH u9;with_reducible repeat' (first|refine an ?_|refine aK h λw h=> ?_|refine dL h ?_|refine dX h ?_|refine eL h λw h=> ?_|fail)
 have h:=h.fr 1;have h:=h.fr 11;refine abI (M:=G.M) h hc λw h=> ?_;have h:=h.bk 11;have h:=h.bk 1;with_reducible repeat' (first|refine an ?_|refine eL h λw h=> ?_|refine kr h ?_|refine ij ?_|refine lJ ?_|fail)
 exact hk _ (bn (q:={q with pe:=mt gw .rR}) (by exact{hq with cR:=rfl}) h)
theorem awW(h:qB w0 w l aa gw G W R)(hA:y7 W.dq)(hc:G.M.can W.id (W.dq+1)=true)(hk:Fin w0 l aa gw R k (cI G W)):gQ (some ⟨gw,0,none⟩) w k:=by
 obtain⟨sp,st,sw,q,hq,h⟩:=dN h;unfold gQ z5;with_reducible repeat' (first|refine an ?_|refine aK h λw h=> ?_|refine dL h ?_|refine dX h ?_|refine pi h ?_|fail)
 refine Vf (M:=G.M) h hA hc λw h=> ?_;with_reducible repeat' (first|refine an ?_|refine dL h ?_|refine eL h λw h=> ?_|refine ij ?_|refine lJ ?_|fail)
 exact hk _ (bn (q:={q with pe:=mt gw .opens}) (by exact{hq with cR:=rfl}) h)
theorem aor{o:jz}(h:qB w0 w l aa gw G W R)(hT:TZ w0)(hs:l.sp.OK)(hM:G.M.OK)(ho:W.step=some o)(hf:o.Gs l.sp G.M W.id)(hk:Fin w0 l aa gw R k (wU l G W o)):fb (some ⟨gw,0,none⟩) w k:=by
 obtain⟨id,dq,wait,stack,back,cR,op,after,look,seen,step,left,late,fits,got,none_,jc,home,target,kind,bK,blocked,again,o8,mark,dy,own,said,bits,pM⟩:=W;dsimp only at ho;subst ho;obtain⟨sp,st,sw,q,hq,h⟩:=dN h;unfold fb wj;unfold wU at hk;dsimp only[mN]at h;with_reducible repeat' (first|refine an ?_|refine aK h λw h=> ?_|refine dL h ?_|refine dX h ?_|fail)
 have h:=h.fr 1;have h:=h.fr 17;refine Yp (s:=l.sp) (M:=G.M) (o:=o) h hT hs hM hf λw h=> ?_;have h:=h.bk 17;have h:=h.bk 1;generalize o.go l.sp G.M id=r at h hk ⊢;with_reducible repeat' (first|refine an ?_|refine dL h ?_|refine lJ ?_|fail)
 refine aF (λhb=> ?_) λhb=> ?_
 ·have hb:¬r.1.next=0:=by simpa using hb
  simp only[if_neg hb]at hk;exact hk _ (bn (q:=q) (by exact{hq with}) h)
 ·have hb:r.1.next=0:=by simpa using hb
  simp only[if_pos hb]at hk;with_reducible repeat' (first|refine an ?_|refine aK h λw h=> ?_|refine dL h ?_|refine dX h ?_|refine eL h λw h=> ?_|fail)
  refine ar3 (s:=l.sp) (o:=r.1) h ?_;with_reducible repeat' (first|refine gA ?_|fail)
  refine aF (λhb=> ?_) λhb=> ?_
  ·rw[if_pos (by simpa using hb)]at hk
   with_reducible repeat' (first|refine an ?_|refine eL h λw h=> ?_|fail)
   exact hk _ (bn (q:={q with pe:=mt gw .rest}) (by exact{hq with cR:=rfl}) h)
  ·rw[if_neg (by simpa using hb)]at hk
   exact hk _ (bn (q:={q with pe:=mt gw .RN}) (by exact{hq with cR:=rfl}) h)
end
open Fr (Ay m8 dO eC c9 iv jb nF oH)
abbrev TL(l:Lc)(aa:List Nat)(gw:Nat)(G:Gl)(W:Wk)(R:List HP)(sp st sw:Sl)(q:Wq)(x a:Nat)(t:Tk)(so sc:Sl):List HP:=
 ax a (t.cells so sc)::rws 2 so (t.cI.map Az)::bQ 1 sc (ints t.scopes)::lP ZZ ((aa.zip G.ts).eraseIdx x)::ax l.gs (l.cs sp st sw G.steps G.err)::bN l.gm G.M::Cr l.gk G.T::scp l.gc G.C::rws 4 sp (G.P.map uy)::bQ 1 st (aa.map pt)::bQ 1 sw (l.wa.map pt)::oE l.gt G.time::KS l.gd G.D::
  ax gw (W.cs l q)::ax q.gwt (W.wait.cells l.told)::bQ 1 q.ss q.rV.reverse::bQ 1 q.sb q.y9.reverse::bQ 1 q.sl (ints W.left)::mN (uu q.go) W.op::mN (λk:Lk=>ax q.gl (k.cells l.gc)) W.look::mN (λo:jz=>ax q.gp (o.cells l.sp q.gp)) W.step::fz q.B::R
abbrev TO(w0 w:World)(l:Lc)(aa:List Nat)(gw:Nat)(G:Gl)(W:Wk)(R:List HP)(sp st sw:Sl)(q:Wq)(x a:Nat)(t:Tk)(so sc:Sl):Prop:=St w0 w (TL l aa gw G W R sp st sw q x a t so sc)
structure Tp (aa:List Nat) (G:Gl) (x a:Nat) (t:Tk):Prop where
 len:aa.length=G.ts.length
 a:aa[x]?=some a
 t:G.ts[x]?=some t
section
variable {w0 w:World} {L R:List HP} {l:Lc} {aa:List Nat} {G:Gl} {gw b x a:Nat} {W:Wk} {k:Unit→aq} {sp st sw so sc:Sl} {q:Wq} {f:HP→List HP} {t t':Tk} {s':List Nat}
theorem mO(hq:q.Ok aa gw W)(hs:W.stack=x::s'):∃a vs,aa[x]?=some a∧q.rV=pt a::vs∧Oy (Pts aa) s' vs:=by
 have h:=hq.rV;rw[hs]at h;generalize q.rV=s at h ⊢;cases h with
 |cons h1 h2=>
  obtain⟨a,h3,rfl⟩:=h1;exact⟨a,_,h3,rfl,h2⟩
theorem xl(h:wY w0 w l aa gw G W R sp st sw q):aa.length=G.ts.length:=NW (h.front 9 rfl)
theorem nH(h:wY w0 w l aa gw G W R sp st sw q)(ha:aa[x]?=some a)(ht:G.ts[x]?=some t):Tp aa G x a t∧∃so sc,TO w0 w l aa gw G W R sp st sw q x a t so sc:=by
 refine⟨⟨xl h,ha,ht⟩,?_⟩;have h:=h.fr 9;exact sI h ha ht
theorem vo(hp:Tp aa G x a t)(h:TO w0 w l aa gw G W R sp st sw q x a t' so sc):wY w0 w l aa gw (G.set x t') W R sp st sw q:=by
 have h:=aia (t':=t') hp.len hp.a h;exact St.back 9 h
theorem aev(hp:Tp aa G x a t):G.set x t=G:=by
 have e:G.ts.set x t=G.ts:=by
  apply List.ext_getElem?;intro j;by_cases hj:x=j
  ·subst hj;rw[uw (kO.1 hp.t).1,hp.t]
  ·rw[rG hj]
 unfold Gl.set;rw[e]
theorem oF(hp:Tp aa G x a t)(h:TO w0 w l aa gw G W R sp st sw q x a t so sc):wY w0 w l aa gw G W R sp st sw q:=by
 have h:=vo hp h;rwa[aev hp]at h
theorem pQ{so sc:Sl}(hl:aa.length=G.ts.length)(ha:aa[x]?=some a)(ht:G.ts[x]?=some t)(h:St w0 w (ax a (t.cells so sc)::rws 2 so (t.cI.map Az)::bQ 1 sc (ints t.scopes)::lP ZZ ((aa.zip G.ts).eraseIdx x)::R)):St w0 w (L6 aa G.ts::R):=by
 have h:=aia (t':=t) hl ha h;have e:=congrArg Gl.ts (aev ⟨hl,ha,ht⟩);unfold Gl.set at e;dsimp only at e;rwa[e]at h
theorem BU{o:List (Int×Int)}{m:Int×Int}(ho:t.cI=o++[m]):t.j3=m:=by
 unfold Tk.j3;rw[ho];simp
theorem agq{kv:Value}{kk:Kn}(hq:q.Ok aa gw W)(h:wY w0 w l aa gw G W R sp st sw q)(hs:W.stack=x::s')(ht:G.ts[x]?=some t)(ho:t.cI≠ [])(hv:Rp aa gw q.B kk kv)
  (hk:Fin w0 l aa gw R k (G,shut W kk t)):cF (some ⟨gw,0,none⟩) kv w k:=by
 have hl:=xl h;obtain⟨a,vs,ha,hst,_⟩:=mO hq hs;have ZG:=hv.one;obtain⟨o,m,wZ⟩:∃o m,t.cI=o++[m]:=⟨_,_,(List.dropLast_concat_getLast ho).symm⟩;unfold cF zI;with_reducible repeat' (first|refine an ?_|refine aK h λw h=> ?_|refine oI h ?_|refine MD h ?_|refine eL h λw h=> ?_|refine av h λgx w h=> ?_|refine po h ?_|refine Jf ?_|fail)
 obtain⟨gc,lI⟩:∃n,n=gx:=⟨_,rfl⟩;subst lI;with_reducible repeat' (first|refine an ?_|refine aK h λw h=> ?_|refine dL h ?_|refine dX h ?_|refine FU h ?_|refine mJ h ?_|refine td h ?_|refine La h ?_|refine oI h ?_|refine GM h ?_|refine OB h ?_|refine B3 h ?_|refine MD h ?_|refine OC h ?_|refine pi h ?_|refine pn h ?_|refine yU h ?_|refine eL h λw h=> ?_|refine xB h λw h=> ?_|refine HV h λw h=> ?_|refine qX h λw h=> ?_|refine av h λgx w h=> ?_|refine gA ?_|refine kr h ?_|refine po h ?_|refine lu ?_ ?_|refine ij ?_|refine qx ?_|refine Jf ?_|fail)
 obtain⟨gb,lI⟩:∃n,n=gx:=⟨_,rfl⟩;subst lI;with_reducible repeat' (first|refine an ?_|refine aK h λw h=> ?_|refine dL h ?_|refine dX h ?_|refine FU h ?_|refine mJ h ?_|refine td h ?_|refine La h ?_|refine oI h ?_|refine GM h ?_|refine OB h ?_|refine B3 h ?_|refine MD h ?_|refine OC h ?_|refine pi h ?_|refine pn h ?_|refine yU h ?_|refine eL h λw h=> ?_|refine xB h λw h=> ?_|refine HV h λw h=> ?_|refine qX h λw h=> ?_|refine av h λgx w h=> ?_|refine gA ?_|refine kr h ?_|refine po h ?_|refine lu ?_ ?_|refine ij ?_|refine qx ?_|refine Jf ?_|fail)
 refine kX h hst vw λw h=> ?_;with_reducible repeat' (first|refine po h ?_|fail)
 have h:=h.fr 11;obtain⟨so,sc,h⟩:=sI h ha ht;refine BG h wZ λw h=> ?_;have h:=pQ hl ha ht h;have h:=h.bk 11;with_reducible repeat' (first|refine po h ?_|fail)
 refine ptI (by rfl) ?_
 unfold dD;with_reducible repeat' (first|refine an ?_|refine eL h λw h=> ?_|fail)
 have h:=qh h;have h:=qh h;unfold shut at hk;rw[BU wZ]at hk;have hm:∀p∈q.B,p∈q.B++[(gc,[kv])] ++[(gb,[pt gw])]:=λp hp=>List.mem_append_left _ (List.mem_append_left _ hp);exact hk _ (bn (q:={q with pe:=mt gw .tP,Ox:=none,age:=kv,yZ:= .func (.func fE) #[] #[pt gb,pt gc],Ie:=ct gb .Cs,B:=q.B++[(gc,[kv])] ++[(gb,[pt gw])]})
  (by exact{hq.box hm with cR:=rfl,target:=rfl,pM:=hv.box hm,again:=⟨gb,gc,kv,bh,hv.box hm,bh,rfl⟩,dy:=⟨gb,bh,rfl⟩}) h)
theorem aew(h:qB w0 w l aa gw G W R)(hs:W.stack=x::s')(ht:G.ts[x]?=some t)(hk:Fin w0 l aa gw R k (G,unwind W t)):dh (some ⟨gw,0,none⟩) w k:=by
 obtain⟨sp,st,sw,q,hq,h⟩:=dN h;have hl:=xl h;obtain⟨a,vs,ha,hst,_⟩:=mO hq hs;unfold dh we;unfold unwind at hk;with_reducible repeat' (first|refine oI h ?_|refine av h λgx w h=> ?_|fail)
 obtain⟨gb,lI⟩:∃n,n=gx:=⟨_,rfl⟩;subst lI;with_reducible repeat' (first|refine an ?_|refine aK h λw h=> ?_|refine dL h ?_|refine dX h ?_|refine FU h ?_|refine mJ h ?_|refine td h ?_|refine La h ?_|refine oI h ?_|refine GM h ?_|refine OB h ?_|refine B3 h ?_|refine MD h ?_|refine OC h ?_|refine pi h ?_|refine pn h ?_|refine yU h ?_|refine eL h λw h=> ?_|refine xB h λw h=> ?_|refine HV h λw h=> ?_|refine qX h λw h=> ?_|refine av h λgx w h=> ?_|refine gA ?_|refine kr h ?_|refine po h ?_|refine lu ?_ ?_|refine ij ?_|refine qx ?_|refine Jf ?_|fail)
 refine kX h hst vw λw h=> ?_;have h:=h.fr 10;obtain⟨so,sc,h⟩:=sI h ha ht;have hn:=(tC (sz:=2) (s:=so) (es:=t.cI.map Az) h).2 ah;rw[List.length_map]at hn;with_reducible repeat' (first|refine an ?_|refine mJ h ?_|fail)
 refine aF (λhb=> ?_) λhb=> ?_
 ·have hb:t.cI.length=0:=by
   have:((so.n:Nat):Int)=0:=by simpa using hb
   omega
  rw[if_pos hb]at hk;with_reducible repeat' (first|refine an ?_|refine oI h ?_|refine eL h λw h=> ?_|fail)
  have h:=pQ hl ha ht h;have h:=h.bk 10;have h:=h.El 0;exact hk _ (bn (q:={q with pe:=mt gw .put}) (by exact{hq with cR:=rfl}) h)
 ·have hb:¬t.cI.length=0:=by
   intro q;have:((so.n:Nat):Int)=0:=ah;simp[this]at hb
  rw[if_neg hb]at hk;with_reducible repeat' (first|refine oI h ?_|fail)
  have h:=pQ hl ha ht h;have h:=h.bk 10;have h:=qh h;exact agq (kk:= .c .qq) (q:={q with B:=q.B++[(gb,[pt gw])]}) (JX hq) h hs ht (by intro q;rw[q]at hb;exact hb rfl) ⟨gb,bh,rfl⟩ hk
theorem aal{kind v:Int}(h:qB w0 w l aa gw G W R)(hs:W.stack=x::s')(ht:G.ts[x]?=some t)(hk:Fin w0 l aa gw R k (ends G W x t kind v)):cz (some ⟨gw,0,none⟩) kind v w k:=by
 obtain⟨sp,st,sw,q,hq,h⟩:=dN h;have hl:=xl h;obtain⟨a,vs,ha,hst,_⟩:=mO hq hs;unfold cz zK;refine kX h hst vw λw h=> ?_;obtain⟨hp,so,sc,h⟩:=nH h ha ht;with_reducible repeat' (first|refine an ?_|refine eL h λw h=> ?_|fail)
 have h:=vo (t':={t with kind:=kind,v:=v}) hp h;refine aew (bn hq h) hs (t:={t with kind:=kind,v:=v}) ?_ hk;unfold Gl.set;exact uw (kO.1 ht).1
end
section
variable {w0 w:World} {L R:List HP} {l:Lc} {aa:List Nat} {G:Gl} {gw b x a:Nat} {W:Wk} {k:Unit→aq} {sp st sw so sc:Sl} {q:Wq} {f:HP→List HP} {t t':Tk} {s':List Nat}
theorem YD(hl:aa.length=G.ts.length)(ht:G.ts[x]?=some t):∃a,aa[x]?=some a:=⟨aa[x]'(by have:=(kO.1 ht).1;omega),kq _⟩
theorem acs(ha:aa[x]?=some a):(aa.map pt)[((x:Nat):Int).toNat]?=some (.pointer (some ⟨a,0,none⟩)):=by rw[kY,pB,ha];rfl
theorem aos(h:qB w0 w l aa gw G W R)(hx:W.jc=(x:Nat))(ht:G.ts[x]?=some t)(hM:G.M.OK)(hc:G.M.can W.id (t.jt+0)=true)(hk:Fin w0 l aa gw R k (sU G W t)):fc (some ⟨gw,0,none⟩) w k:=by
 obtain⟨sp,st,sw,q,hq,h⟩:=dN h;have hl:=xl h;obtain⟨a,ha⟩:=YD hl ht;unfold fc wq;unfold sU at hk;have hv:=hq.home.one;with_reducible repeat' (first|refine an ?_|refine aK h λw h=> ?_|refine dL h ?_|refine dX h ?_|refine mJ h ?_|fail)
 show cW st W.jc 1 _;rw[hx];refine vP (s:=st) (vs:=aa.map pt) h ah (acs ha) ?_;have h:=h.fr 9;obtain⟨so,sc,h⟩:=sI h ha ht;with_reducible repeat' (first|refine an ?_|refine dL h ?_|refine dX h ?_|refine pi h ?_|fail)
 refine anP (M:=G.M) h hM hc λw h=> ?_;have h:=pQ hl ha ht h;have h:=h.bk 9;with_reducible repeat' (first|refine an ?_|refine dL h ?_|refine td h ?_|refine eL h λw h=> ?_|refine ij ?_|refine lJ ?_|fail)
 refine aF (λhb=> ?_) λhb=> ?_
 ·have hb:(G.M.cs W.id (t.jt+0) 0 1).2=true:=hb;rw[if_pos hb]at hk;with_reducible repeat' (first|refine an ?_|refine eL h λw h=> ?_|fail)
  exact hk _ (bn (q:={q with pe:=mt gw .start}) (by exact{hq with cR:=rfl}) h)
 ·have hb:(G.M.cs W.id (t.jt+0) 0 1).2=false:=hb;rw[if_neg (by rw[hb];simp)]at hk
  exact hk _ (bn (q:={q with pe:=q.KX}) (by exact{hq with cR:=hq.home}) h)
theorem aAg(h:qB w0 w l aa gw G W R)(hs:W.stack=x::s')(ht:G.ts[x]?=some t)(hM:G.M.OK)(hc:G.M.can W.id (t.jt+1)=true)(hk:Fin w0 l aa gw R k (put G W t)):iF (some ⟨gw,0,none⟩) w k:=by
 obtain⟨sp,st,sw,q,hq,h⟩:=dN h;obtain⟨a,vs,ha,hst,_⟩:=mO hq hs;unfold iF Be;unfold put at hk;refine kX h hst vw λw h=> ?_;obtain⟨hp,so,sc,h⟩:=nH h ha ht;refine bU (λb w=>b=true∧wY w0 w l aa gw (if t.kind=4 then G else G.mem ((G.M.tick W.id).put (t.jt+1) t.v)) W R sp st sw q) (λJ hJ=> ?_) ?_
 ·with_reducible repeat' (first|refine an ?_|refine aK h λw h=> ?_|refine dX h ?_|fail)
  refine aF (λhb=> ?_) λhb=> ?_
  ·rw[if_pos (by simpa using hb)]at hJ
   exact hJ _ _ ⟨rfl,oF hp h⟩
  ·rw[if_neg (by simpa using hb)]at hJ
   with_reducible repeat' (first|refine an ?_|refine dL h ?_|refine dX h ?_|refine pi h ?_|fail)
   refine av9 (M:=G.M) h hM hc λw h=> ?_;with_reducible repeat' (first|refine kr h ?_|refine lJ ?_|fail)
   refine hJ _ _ ⟨rfl,?_⟩;have h:=pQ hp.len hp.a hp.t h;have h:=h.bk 9;exact h
 clear h;rintro _ w ⟨rfl,h⟩;with_reducible repeat' (first|refine an ?_|refine eL h λw h=> ?_|refine qx ?_|fail)
 exact hk _ (bn (q:={q with pe:=mt gw .fin}) (by exact{hq with cR:=rfl}) h)
theorem aAh(h:qB w0 w l aa gw G W R)(hs:W.stack=x::s')(ht:G.ts[x]?=some t)(hM:G.M.OK)(hto:2≤t.kind∧t.kind≤4)(hc:G.M.can W.id (t.jt+0)=true)(hk:Fin w0 l aa gw R k (fin G W t)):iG (some ⟨gw,0,none⟩) w k:=by
 obtain⟨sp,st,sw,q,hq,h⟩:=dN h;obtain⟨a,vs,ha,hst,_⟩:=mO hq hs;unfold iG Bg;refine kX h hst vw λw h=> ?_;obtain⟨hp,so,sc,h⟩:=nH h ha ht;with_reducible repeat' (first|refine an ?_|refine aK h λw h=> ?_|refine dL h ?_|refine dX h ?_|refine pi h ?_|fail)
 refine awa (M:=G.M) h hM hto hc λw h=> ?_;have h:=pQ hp.len hp.a hp.t h;have h:=h.bk 9;with_reducible repeat' (first|refine an ?_|refine dL h ?_|refine eL h λw h=> ?_|refine qx ?_|refine lJ ?_|fail)
 exact hk _ (bn (q:={q with pe:=mt gw .asks}) (by exact{hq with cR:=rfl}) h)
theorem awX(h:qB w0 w l aa gw G W R)(hs:W.stack=x::s')(ht:G.ts[x]?=some t)(hM:G.M.OK)(hc:G.M.can W.id (t.jt+2)=true)(hk:Fin w0 l aa gw R k (asks G W t)):gS (some ⟨gw,0,none⟩) w k:=by
 obtain⟨sp,st,sw,q,hq,h⟩:=dN h;obtain⟨a,vs,ha,hst,_⟩:=mO hq hs;unfold gS Ae;with_reducible repeat' (first|refine an ?_|refine aK h λw h=> ?_|refine dL h ?_|refine dX h ?_|fail)
 refine kX h hst vw λw h=> ?_;obtain⟨hp,so,sc,h⟩:=nH h ha ht;with_reducible repeat' (first|refine an ?_|refine pi h ?_|refine kr h ?_|fail)
 refine ahH (M:=G.M) h hM hc λw h=> ?_;have h:=pQ hp.len hp.a hp.t h;have h:=h.bk 9;with_reducible repeat' (first|refine an ?_|refine dL h ?_|refine eL h λw h=> ?_|refine qx ?_|refine lJ ?_|fail)
 exact hk _ (bn (q:={q with pe:=mt gw .gone}) (by exact{hq with cR:=rfl}) h)
theorem N4(h:qB w0 w l aa gw G W R)(hs:W.stack=x::s')(ht:G.ts[x]?=some t)(hk:Fin w0 l aa gw R k (aip G W x t)):bB (some ⟨gw,0,none⟩) w k:=by
 unfold bB tj;exact aal h hs ht hk
theorem ate(h:qB w0 w l aa gw G W R)(hs:W.stack=x::s')(ht:G.ts[x]?=some t)(ho:t.cI≠ [])(hk:Fin w0 l aa gw R k (close_ G W t)):fO (some ⟨gw,0,none⟩) w k:=by
 obtain⟨sp,st,sw,q,hq,h⟩:=dN h;unfold fO yn;with_reducible repeat' (first|refine oI h ?_|refine av h λgx w h=> ?_|fail)
 obtain⟨gb,lI⟩:∃n,n=gx:=⟨_,rfl⟩;subst lI;with_reducible repeat' (first|refine an ?_|refine aK h λw h=> ?_|refine dL h ?_|refine dX h ?_|refine FU h ?_|refine mJ h ?_|refine td h ?_|refine La h ?_|refine oI h ?_|refine GM h ?_|refine OB h ?_|refine B3 h ?_|refine MD h ?_|refine OC h ?_|refine pi h ?_|refine pn h ?_|refine yU h ?_|refine eL h λw h=> ?_|refine xB h λw h=> ?_|refine HV h λw h=> ?_|refine qX h λw h=> ?_|refine av h λgx w h=> ?_|refine gA ?_|refine kr h ?_|refine po h ?_|refine lu ?_ ?_|refine ij ?_|refine qx ?_|refine Jf ?_|fail)
 have h:=qh h;exact agq (kk:= .c .BS) (q:={q with B:=q.B++[(gb,[pt gw])]}) (JX hq) h hs ht ho ⟨gb,bh,rfl⟩ hk
theorem aot(hq:q.Ok aa gw W)(h:wY w0 w l aa gw G W R sp st sw q)(hb:(b,[pt gw])∈q.B)(hk:Fin w0 l aa gw R k (G,W.go .gC)):fB ⟨b,0,none⟩ w k:=by
 unfold fB;with_reducible repeat' (first|refine an ?_|refine eL h λw h=> ?_|refine Eo h hb ?_|fail)
 exact hk _ (bn (q:={q with pe:=mt gw .gC}) (by exact{hq with cR:=rfl}) h)
theorem aou(hq:q.Ok aa gw W)(h:wY w0 w l aa gw G W R sp st sw q)(hb:(b,[pt gw])∈q.B)(hk:Fin w0 l aa gw R k (G,W.go .joined)):fy ⟨b,0,none⟩ w k:=by
 unfold fy;with_reducible repeat' (first|refine an ?_|refine eL h λw h=> ?_|refine Eo h hb ?_|fail)
 exact hk _ (bn (q:={q with pe:=mt gw .joined}) (by exact{hq with cR:=rfl}) h)
theorem atf(hq:q.Ok aa gw W)(h:wY w0 w l aa gw G W R sp st sw q)(hb:(b,[pt gw])∈q.B)(hk:Fin w0 l aa gw R k (G,W.go .qU)):cT ⟨b,0,none⟩ w k:=by
 unfold cT;with_reducible repeat' (first|refine an ?_|refine eL h λw h=> ?_|refine Eo h hb ?_|fail)
 exact hk _ (bn (q:={q with pe:=mt gw .qU}) (by exact{hq with cR:=rfl}) h)
theorem aov{wT:Bool}(hq:q.Ok aa gw W)(h:wY w0 w l aa gw G W R sp st sw q)(hb:(b,[pt gw])∈q.B)(hs:W.stack=x::s')(ht:G.ts[x]?=some t)(hk:Fin w0 l aa gw R k (wW G W x t wT)):fu wT ⟨b,0,none⟩ w k:=by
 unfold fu u0;unfold wW at hk;cases wT
 ·refine bp rfl ?_;with_reducible repeat' (first|refine an ?_|refine eL h λw h=> ?_|refine Eo h hb ?_|fail)
  exact hk _ (bn (q:={q with pe:=mt gw .next}) (by exact{hq with cR:=rfl}) h)
 ·refine bH rfl ?_;with_reducible repeat' (first|refine Eo h hb ?_|fail)
  exact N4 (bn hq h) hs ht hk
theorem akN{wT:Bool}(hq:q.Ok aa gw W)(h:wY w0 w l aa gw G W R sp st sw q)(hb:(b,[pt gw])∈q.B)(hk:Fin w0 l aa gw R k (sK G W wT)):eR wT ⟨b,0,none⟩ w k:=by
 unfold eR uh;unfold sK at hk;cases wT
 ·refine bp rfl ?_;with_reducible repeat' (first|refine an ?_|refine eL h λw h=> ?_|refine Eo h hb ?_|fail)
  exact hk _ (bn (q:={q with pe:=mt gw .asked}) (by exact{hq with cR:=rfl}) h)
 ·refine bH rfl ?_;with_reducible repeat' (first|refine Eo h hb ?_|fail)
  unfold bI;with_reducible repeat' (first|refine an ?_|refine eL h λw h=> ?_|fail)
  have h:=AF (K:=mN (λo:jz=>ax q.gp (o.cells l.sp q.gp))) (X:=mN (λo:jz=>ax q.gp (o.cells l.sp q.gp)) none) (St.shut (A:=[]) h);exact hk _ (bn (q:={q with pe:=mt gw .stops,L7:=mt gw .cancelled}) (by exact{hq with cR:=rfl,o8:=rfl}) h)
theorem akO{CV:Int}(hq:q.Ok aa gw W)(h:wY w0 w l aa gw G W R sp st sw q)(hb:(b,[pt gw])∈q.B)(hk:Fin w0 l aa gw R k (tQ G W CV)):eO CV ⟨b,0,none⟩ w k:=by
 unfold eO uf;unfold tQ at hk;refine aF (λhs=> ?_) λhs=> ?_
 ·rw[if_pos (by simpa using hs)]at hk
  with_reducible repeat' (first|refine an ?_|refine aK h λw h=> ?_|refine dX h ?_|refine Eo h hb ?_|fail)
  unfold bi;with_reducible repeat' (first|refine an ?_|refine eL h λw h=> ?_|fail)
  exact hk _ (bn (q:={q with pe:=mt gw .sU,KX:=mt gw .next}) (by exact{hq with cR:=rfl,home:=rfl}) h)
 ·rw[if_neg (by simpa using hs)]at hk
  with_reducible repeat' (first|refine Eo h hb ?_|fail)
  unfold cm;with_reducible repeat' (first|refine an ?_|refine eL h λw h=> ?_|fail)
  exact hk _ (bn (q:={q with pe:=mt gw .tell,Yz:=mt gw .next}) (by exact{hq with cR:=rfl,said:=rfl}) h)
end
end Go.Proofs.YthidhjhkmjjckaaGreatDoor
namespace Go.Proofs.YthidhjhkmjjckaaGreatDoor
open Go Go.Ev Go.Proofs
open Ko (oE CK)
open Fr (Ay m8 dO eC c9 iv jb nF oH qp j1 qb pK pL pJ)
structure In (P:List ea) (f i:List Int):Prop where
 len:f.length=19
 f0:0≤f.getD 0 0
 f1:0≤f.getD 1 0
 fn:∃g,P[(f.getD 0 0).toNat]?=some g∧g.code[(f.getD 1 0).toNat]?=some i
 Gu:i.length=5
theorem In.ins{P:List ea}{f i:List Int}(h:In P f i):bz P f=i:=by
 obtain⟨g,h1,h2⟩:=h.fn;unfold bz;rw[h1];show g.code.getD _ []=i;rw[nr,h2];rfl
theorem I6{l:List Int}(h:l.length=5):∃a b c d e,l=[a,b,c,d,e]:=by
 match l,h with
 |[a,b,c,d,e],_=>exact⟨a,b,c,d,e,rfl⟩
section
variable {w0 w:World} {L R:List HP} {l:Lc} {P:List ea} {aa:List Nat} {G:Gl} {gw b x a:Nat} {W:Wk} {k:Unit→aq} {sp st sw so sc:Sl} {q:Wq} {f:HP→List HP} {t t':Tk} {s':List Nat} {vs:List Value} {i:List Int}
theorem agr{ps:Sl}{k:Array Value×Int→aq}(h:St w0 w L)(hF:j2 w0 ps P)(hI:In P t.f i)(hk:∀w',St w0 w' L→k (eV i,0) w'):iE (frV t.f).toArray #[.slice ps.a ps.n ps.c] w k:=by
 rw[NV hI.len];obtain⟨g,h1,h2⟩:=hI.fn;exact awT (hF.ext h.ext) hI.len hI.f0 h1 hI.f1 h2 λw' he=>hk w' (h.on he)
theorem aiq{k:Array Value×Bool→aq}(h:St w0 w L)(hf:t.f.length=19)(h5:i.length=5)(hk:∀w',St w0 w' L→k (eV (dO t.f i).1,(dO t.f i).2) w'):iQ (frV t.f).toArray (eV i) w k:=by
 rw[NV hf];exact Fr.asf hf h5 λw' he=>hk w' (h.on he)
theorem amN{g n n':Nat}{cs:List Value}{i:Int}{v:Value}{c:Value→Prop}(h:St w0 w L)[a:At L (ax g) cs f](h0:0≤i)(hn:i<n)(hv:cs[i.toNat]?=some v)(hc:c v):cW ⟨some ⟨g,0,none⟩,n,n'⟩ i 1 λa=>sX w a c:=by
 refine⟨⟨h0,hn⟩,?_⟩;show sX w ((⟨g,0,none⟩:Addr).add (i.toNat*1)) c;rw[c8];exact Ir (g:=g) (o:=0+i.toNat*1) h (by simpa using hv) hc
theorem An{f':List Int}{c:aq}(h:St w0 w L)[a1:At L (ax a) (t.cells so sc) f](hf:f'.length=19)(hc:∀w',St w0 w' (f (ax a (({t with f:=f'}:Tk).cells so sc)))→c w'):dK 19 w (aX ⟨a,0,none⟩ 4) (eV f') c:=by
 refine aW (m:=19) h (by simp[eV,hf]) (by simp[Tk.cells]) (Ck.qu _) λw h=>hc w ?_
 have e:(t.cells so sc).take (0+4)++((eV f').toList++(t.cells so sc).drop (0+4+19))=({t with f:=f'}:Tk).cells so sc:=by
  have:(eV f').toList=frV f':=by rw[amH hf]
  rw[this];rfl
 rw[e]at h;exact h
theorem aex{g:Nat}{cs:List Value}{f':List Int}{c:aq}(h:St w0 w L)[a1:At L (ax g) cs f](hcs:cs.length=19)(hf:f'.length=19)(hc:∀w',St w0 w' (f (ax g (ints f')))→c w'):dK 19 w ⟨g,0,none⟩ (eV f') c:=
 mW h hcs (by simp[eV,hf]) (Ck.qu _) λw h=>hc w h
theorem amO{g:Nat}{f':List Int}{c:Array Value→Prop}(h:St w0 w L)[a1:At L (ax g) (ints f') f](hf:f'.length=19)(hc:c (eV f')):bG 19 w ⟨g,0,none⟩ c:=
 jG h (by simp[ints,hf]) hc
theorem I7{k:Array Value→aq}(hF:j2 w0 l.ps P)(hI:In P t.f i)(h:TO w0 w l aa gw G W R sp st sw q x a t so sc)(hst:q.rV=pt a::vs)(hk:∀w',TO w0 w' l aa gw G W R sp st sw q x a t so sc→k (eV i) w'):aJ (some ⟨gw,0,none⟩) w k:=by
 have h5:=hI.Gu;unfold aJ yf;with_reducible repeat' (first|refine av h λgx w h=> ?_|fail)
 obtain⟨g0,lI⟩:∃n,n=gx:=⟨_,rfl⟩;subst lI;refine bU (fun(x2:Addr×Int) w=> ∃g1,x2=(⟨g1,0,none⟩,0)∧St w0 w (ax g1 (ints i)::ax g0 (ints [0,0,0,0,0])::TL l aa gw G W R sp st sw q x a t so sc)) (λJ hJ=> ?_) ?_
 ·have e5:∃a b c d e,i=[a,b,c,d,e]:=I6 h5;obtain⟨i0,i1,i2,i3,i4,hi⟩:=e5;with_reducible repeat' (first|refine an ?_|refine aK h λw h=> ?_|refine dL h ?_|refine pi h ?_|refine av h λgx w h=> ?_|refine kr h ?_|refine lu ?_ ?_|fail)
  ·refine kX h hst vw λw h=> ?_;with_reducible repeat' (first|refine an ?_|refine pi h ?_|refine av h λgx w h=> ?_|refine kr h ?_|refine lu ?_ ?_|fail)
   ·refine agr (t:=t) h hF hI λw h=> ?_;subst hi;with_reducible repeat' (first|refine qX h λw h=> ?_|refine av h λgx w h=> ?_|refine kr h ?_|fail)
    exact hJ _ _ ⟨_,rfl,h⟩
   ·refine agr (t:=t) h hF hI λw h=> ?_;subst hi;with_reducible repeat' (first|refine qX h λw h=> ?_|fail)
    exact hJ _ _ ⟨_,rfl,h⟩
  ·refine kX h hst vw λw h=> ?_;with_reducible repeat' (first|refine an ?_|refine pi h ?_|refine kr h ?_|fail)
   refine agr (t:=t) h hF hI λw h=> ?_;subst hi;with_reducible repeat' (first|refine qX h λw h=> ?_|fail)
   exact hJ _ _ ⟨_,rfl,h⟩
 clear h;rintro _ w ⟨g1,rfl,h⟩;obtain⟨i0,i1,i2,i3,i4,rfl⟩:=I6 h5;with_reducible repeat' (first|refine an ?_|refine dL h ?_|refine pn h ?_|refine qX h λw h=> ?_|refine lJ ?_|fail)
 exact hk _ ((h.rm 0 rfl).rm 0 rfl)
theorem amP(hF:j2 w0 l.ps P)(h:qB w0 w l aa gw G W R)(he:G.err=0)(hs:W.stack=x::s')(ht:G.ts[x]?=some t)(hf:t.f.length=19)(h5:i.length=5)(hop:(dO t.f i).2=false→8≤i.getD 0 0∧i.getD 0 0≤16)(hk:Fin w0 l aa gw R k (aeu l G W x t i)):dV (some ⟨gw,0,none⟩) (eV i) w k:=by
 obtain⟨sp,st,sw,q,hq,h⟩:=dN h;obtain⟨a,vs,ha,hst,_⟩:=mO hq hs;obtain⟨hp,so,sc,h⟩:=nH h ha ht;unfold dV zN;unfold aeu at hk;with_reducible repeat' (first|refine av h λgx w h=> ?_|fail)
 obtain⟨g1,lI⟩:∃n,n=gx:=⟨_,rfl⟩;subst lI;refine Gx h he (λhb w h=> ?_) λhb w h=> ?_
 ·rw[if_pos hb]at hk;with_reducible repeat' (first|refine qx ?_|fail)
  have h:=h.El 0;exact hk _ (bn (G:=G.fail 22) hq (oF (G:=G.fail 22) ⟨hp.len,hp.a,hp.t⟩ h))
 rw[if_neg hb]at hk;with_reducible repeat' (first|refine ij ?_|fail)
 refine kX h hst vw λw h=> ?_;refine bU (fun(x2:Addr×Bool) w=> ∃g2,x2=(⟨g2,0,none⟩,(dO t.f i).2)∧St w0 w (ax g2 (ints (dO t.f i).1)::ax g1 (ints i)::TL l aa gw G W R sp st sw q x a t so sc)) (λJ hJ=> ?_) ?_
 ·obtain⟨i0,i1,i2,i3,i4,hi⟩:=I6 h5;have BY:(dO t.f i).1.length=19:=qb hf;subst hi;with_reducible repeat' (first|refine an ?_|refine aK h λw h=> ?_|refine pi h ?_|refine pn h ?_|refine av h λgx w h=> ?_|refine kr h ?_|refine po h ?_|refine lu ?_ ?_|fail)
  ·refine aiq (t:=t) (i:=[i0,i1,i2,i3,i4]) h hf rfl λw h=> ?_;with_reducible repeat' (first|refine av h λgx w h=> ?_|refine kr h ?_|refine po h ?_|fail)
   refine aex h rfl BY λw h=> ?_;exact hJ _ _ ⟨_,rfl,h⟩
  ·refine aiq (t:=t) (i:=[i0,i1,i2,i3,i4]) h hf rfl λw h=> ?_;refine aex h rfl BY λw h=> ?_;exact hJ _ _ ⟨_,rfl,h⟩
 clear h;rintro _ w ⟨g2,rfl,h⟩;have BY:(dO t.f i).1.length=19:=qb hf;refine aF (λhb=> ?_) λhb=> ?_
 ·have hb:(dO t.f i).2=true:=hb;rw[if_pos hb]at hk;refine amO h BY ?_;with_reducible repeat' (first|refine an ?_|fail)
  refine An h BY λw h=> ?_;with_reducible repeat' (first|refine an ?_|refine dL h ?_|refine dX h ?_|refine eL h λw h=> ?_|fail)
  have h:=(h.rm 0 rfl).rm 0 rfl;exact hk _ (bn (q:={q with pe:=mt gw .next}) (by exact{hq with cR:=rfl}) (vo (t':={t with f:=(dO t.f i).1}) (G:=G.lK) (W:=W.go .next) ⟨hp.len,hp.a,hp.t⟩ h))
 ·have hb:(dO t.f i).2=false:=hb;rw[if_neg (by rw[hb];simp)]at hk
  obtain⟨i0,i1,i2,i3,i4,hi⟩:=I6 h5;have hop:=hop hb;subst hi;with_reducible repeat' (first|refine dX h ?_|refine av h λgx w h=> ?_|refine Jf ?_|fail)
  obtain⟨g3,lI⟩:∃n,n=gx:=⟨_,rfl⟩;subst lI;have hop:8≤i0∧i0≤16:=hop;have key:∀(m:Mt) (w:World) (L':List HP),(G,W.go (acq i0))=(G,W.go m)→TO w0 w l aa gw G (W.go m) R sp st sw {q with pe:=mt gw m} x a t so sc→k () w:=λm w L' e h=>by
   have e2:([i0,i1,i2,i3,i4]:List Int).getD 0 0=i0:=rfl;rw[e2,e]at hk;exact hk _ (bn (q:={q with pe:=mt gw m}) (by exact{hq with cR:=rfl}) (oF ⟨hp.len,hp.a,hp.t⟩ h))
  have hw:aL .i64 (i0 - 8)=i0 - 8:=lO ⟨ah,ah⟩;rw[hw];have h16:i0=8∨i0=9∨i0=10∨i0=11∨i0=12∨i0=13∨i0=14∨i0=15∨i0=16:=ah;rcases h16 with rfl|rfl|rfl|rfl|rfl|rfl|rfl|rfl|rfl;all_goals
   refine amN (g:=g3) h gD gD rfl ?_;with_reducible repeat' (first|refine an ?_|refine eL h λw h=> ?_|fail)
   have h:=((h.rm 0 rfl).rm 0 rfl).rm 0 rfl
  ·exact key .fork _ [] rfl h
  ·exact key .join _ [] rfl h
  ·exact key .join _ [] rfl h
  ·exact key .cI _ [] rfl h
  ·exact key .close _ [] rfl h
  ·exact key .cancel _ [] rfl h
  ·exact key .pass _ [] rfl h
  ·exact key .leave _ [] rfl h
  ·exact key .leave _ [] rfl h
end
section
variable {w0 w:World} {L R:List HP} {l:Lc} {P:List ea} {aa:List Nat} {G:Gl} {gw b c x a:Nat} {W:Wk} {k:Unit→aq} {sp st sw so sc:Sl} {q:Wq} {f:HP→List HP} {t t':Tk} {s':List Nat} {vs:List Value} {i:List Int} {nd:Nd}
theorem acu{s:Int}{kv:Value}{kk:Kn}(hq:q.Ok aa gw W)(h:wY w0 w l aa gw G W R sp st sw q)(hv:Rp aa gw q.B kk kv)(hs:nR G.C s=some nd)(hk:Fin w0 l aa gw R k (G,W.looks s kk)):cw (some ⟨gw,0,none⟩) s kv w k:=by
 unfold cw yb;have ZG:=hv.one;with_reducible repeat' (first|refine an ?_|refine dL h ?_|fail)
 refine av6 (C:=G.C) h hs λgl w h=> ?_;have h:=AF (K:=mN (λk:Lk=>ax q.gl (k.cells l.gc))) h;with_reducible repeat' (first|refine an ?_|refine dL h ?_|refine eL h λw h=> ?_|refine ij ?_|refine lJ ?_|fail)
 exact hk _ (bn (q:={q with pe:=mt gw .looking,aku:=kv,gl:=gl}) (by exact{hq with cR:=rfl,seen:=hv}) h)
theorem awY(hF:j2 w0 l.ps P)(hI:In P t.f i)(h:qB w0 w l aa gw G W R)(he:G.err=0)(hs:W.stack=x::s')(ht:G.ts[x]?=some t)(hsc:nR G.C t.lN=some nd)(hi:0≤i.getD 0 0∧i.getD 0 0<17)(hop:(dO t.f i).2=false→8≤i.getD 0 0∧i.getD 0 0≤16)(hk:Fin w0 l aa gw R k (Vt l P G W x t)):gM (some ⟨gw,0,none⟩) w k:=by
 obtain⟨sp,st,sw,q,hq,h⟩:=dN h;obtain⟨a,vs,ha,hst,_⟩:=mO hq hs;obtain⟨hp,so,sc,h⟩:=nH h ha ht;unfold gM zS;unfold Vt at hk;rw[hI.ins]at hk;have h5:=hI.Gu;obtain⟨i0,i1,i2,i3,i4,rfl⟩:=I6 h5;have hi:0≤i0∧i0<17:=hi;with_reducible repeat' (first|refine oI h ?_|refine av h λgx w h=> ?_|fail)
 obtain⟨gb,lI⟩:∃n,n=gx:=⟨_,rfl⟩;subst lI;with_reducible repeat' (first|refine an ?_|refine aK h λw h=> ?_|refine dL h ?_|refine dX h ?_|refine FU h ?_|refine mJ h ?_|refine td h ?_|refine La h ?_|refine oI h ?_|refine GM h ?_|refine OB h ?_|refine B3 h ?_|refine MD h ?_|refine OC h ?_|refine pi h ?_|refine pn h ?_|refine yU h ?_|refine eL h λw h=> ?_|refine xB h λw h=> ?_|refine HV h λw h=> ?_|refine qX h λw h=> ?_|refine av h λgx w h=> ?_|refine gA ?_|refine kr h ?_|refine po h ?_|refine lu ?_ ?_|refine ij ?_|refine qx ?_|refine Jf ?_|fail)
 have h:=h.bk 22;refine I7 (R:=ax gb [pt gw]::R) hF hI h hst λw h=> ?_;have h:=h.fr 22;with_reducible repeat' (first|refine dX h ?_|refine qX h λw h=> ?_|refine av h λgx w h=> ?_|fail)
 obtain⟨gc,lI⟩:∃n,n=gx:=⟨_,rfl⟩;subst lI;refine as8 hi.1 hi.2 ?_;have e0:([i0,i1,i2,i3,i4]:List Int).getD 0 0=i0:=rfl;rw[e0]at hk;refine aF (λhb=> ?_) λhb=> ?_
 ·have hb:amL i0=false:=by simpa using hb
  rw[if_neg (by rw[hb];simp)]at hk
  with_reducible repeat' (first|refine oI h ?_|refine pn h ?_|fail)
  have h:TO w0 w l aa gw G W R sp st sw q x a t so sc:=(h.rm 0 rfl).rm 0 rfl;have h:=bn hq (oF hp h);exact amP (i:=[i0,i1,i2,i3,i4]) hF h he hs ht hI.len h5 hop hk
 ·have hb:amL i0=true:=by simpa using hb
  rw[if_pos hb]at hk;with_reducible repeat' (first|refine aK h λw h=> ?_|refine oI h ?_|fail)
  refine kX h hst vw λw h=> ?_;with_reducible repeat' (first|refine an ?_|refine dX h ?_|refine po h ?_|fail)
  have h:=h.swap;have h:=qh h;have h:=qh h;have h:TO w0 w l aa gw G W R sp st sw {q with B:=q.B++[(gb,[pt gw])] ++[(gc,ints [i0,i1,i2,i3,i4])]} x a t so sc:=h;exact acu (kk:= .nx [i0,i1,i2,i3,i4]) (q:={q with B:=q.B++[(gb,[pt gw])] ++[(gc,ints [i0,i1,i2,i3,i4])]}) (hq.box λp hp=>List.mem_append_left _ (List.mem_append_left _ hp)) (oF hp h) ⟨gb,gc,bh,bh,rfl,rfl⟩ hsc hk
theorem atg{wT:Bool}(hF:j2 w0 l.ps P)(hq:q.Ok aa gw W)(h:wY w0 w l aa gw G W R sp st sw q)(hb:(b,[pt gw])∈q.B)(hc:(c,ints i)∈q.B)(h5:i.length=5)(he:G.err=0)(hs:W.stack=x::s')(ht:G.ts[x]?=some t)(hf:t.f.length=19)(hop:(dO t.f i).2=false→8≤i.getD 0 0∧i.getD 0 0≤16)
  (hk:Fin w0 l aa gw R k (acr l G W x t i wT)):gv wT ⟨b,0,none⟩ ⟨c,0,none⟩ w k:=by
 unfold gv wg;unfold acr at hk;cases wT
 ·refine bp rfl ?_;with_reducible repeat' (first|refine Eo h hb ?_|fail)
  refine fzW (n:=5) h hc (by simp[ints,h5]) ?_
  exact amP (i:=i) hF (bn hq h) he hs ht hf h5 hop hk
 ·refine bH rfl ?_;with_reducible repeat' (first|refine Eo h hb ?_|fail)
  exact N4 (bn hq h) hs ht hk
theorem SC{k:Array Value→aq}(h:St w0 w L)(hf:t.f.length=19)(hk:∀w',St w0 w' L→k (eV (m8 t.f)) w'):ay (frV t.f).toArray w k:=by
 rw[NV hf];exact Fr.abT hf λw' he=>hk w' (h.on he)
theorem awZ(h:qB w0 w l aa gw G W R)(he:G.err=0)(hs:W.stack=x::s')(ht:G.ts[x]?=some t)(hf:t.f.length=19)(hk:Fin w0 l aa gw R k (pass l G W x t)):gR (some ⟨gw,0,none⟩) w k:=by
 obtain⟨sp,st,sw,q,hq,h⟩:=dN h;obtain⟨a,vs,ha,hst,_⟩:=mO hq hs;obtain⟨hp,so,sc,h⟩:=nH h ha ht;unfold gR z9;unfold pass at hk;refine Gx h he (λhb w h=> ?_) λhb w h=> ?_
 ·rw[if_pos hb]at hk;with_reducible repeat' (first|refine ij ?_|fail)
  exact hk _ (bn (G:=G.fail 22) hq (oF (G:=G.fail 22) ⟨hp.len,hp.a,hp.t⟩ h))
 rw[if_neg hb]at hk;with_reducible repeat' (first|refine qx ?_|fail)
 refine kX h hst vw λw h=> ?_;with_reducible repeat' (first|refine an ?_|refine aK h λw h=> ?_|refine dL h ?_|refine dX h ?_|refine FU h ?_|refine mJ h ?_|refine td h ?_|refine La h ?_|refine oI h ?_|refine GM h ?_|refine OB h ?_|refine B3 h ?_|refine MD h ?_|refine OC h ?_|refine pi h ?_|refine pn h ?_|refine yU h ?_|refine eL h λw h=> ?_|refine xB h λw h=> ?_|refine HV h λw h=> ?_|refine qX h λw h=> ?_|refine av h λgx w h=> ?_|refine gA ?_|refine kr h ?_|refine po h ?_|refine lu ?_ ?_|refine ij ?_|refine qx ?_|refine Jf ?_|fail)
 refine kX h hst vw λw h=> ?_;with_reducible repeat' (first|refine an ?_|refine pi h ?_|fail)
 refine SC (t:=t) h hf λw h=> ?_;with_reducible repeat' (first|refine an ?_|fail)
 refine An h (by rw[j1,hf]) λw h=> ?_
 unfold aG;with_reducible repeat' (first|refine an ?_|refine dL h ?_|refine dX h ?_|refine eL h λw h=> ?_|fail)
 exact hk _ (bn (q:={q with pe:=mt gw .next}) (by exact{hq with cR:=rfl}) (vo (t':={t with f:=m8 t.f}) (G:=G.lK) (W:=W.go .next) ⟨hp.len,hp.a,hp.t⟩ h))
end
theorem ath{f:List Int}{j:Nat}(h1:j≠1)(h2:j≠18):(m8 f).getD j 0=f.getD j 0:=by
 unfold m8 Ay;rw[nr,rG ah,rG ah,nr]
section
variable {w0 w:World} {L R:List HP} {l:Lc} {P:List ea} {aa:List Nat} {G:Gl} {gw b c x a:Nat} {W:Wk} {k:Unit→aq} {sp st sw so sc:Sl} {q:Wq} {f:HP→List HP} {t t':Tk} {s':List Nat} {vs:List Value} {i:List Int} {nd:Nd}
theorem ati:(G.set x t).set x t'=G.set x t':=by unfold Gl.set;dsimp only;rw[List.set_set]
theorem ags(ht:G.ts[x]?=some t):(G.set x t').ts[x]?=some t':=uw (kO.1 ht).1
theorem ldR{r:Int}{c:Int→Prop}(h:St w0 w L)[a1:At L (ax a) (t.cells so sc) f](h0:0≤r)(h1:r<8)(hc:c (t.f.getD (2+r.toNat) 0)):GC (aX (aX ⟨a,0,none⟩ 4) 2) 8 r 1 λp=>aN .i64 w p c:=by
 refine tV h0 h1 ?_;rw[c8];show aN .i64 w ⟨a,0+4+2+r.toNat*1,none⟩ c;refine cv (g:=a) h ?_ hc;have:r=0∨r=1∨r=2∨r=3∨r=4∨r=5∨r=6∨r=7:=ah;rcases this with rfl|rfl|rfl|rfl|rfl|rfl|rfl|rfl<;>rfl
theorem ayE{r:Int}{c:Int→Prop}(h:St w0 w L)[a1:At L (ax a) (t.cells so sc) f](h0:0≤r)(h1:r<8)(hc:c (t.f.getD (10+r.toNat) 0)):GC (aX (aX ⟨a,0,none⟩ 4) 10) 8 r 1 λp=>aN .i64 w p c:=by
 refine tV h0 h1 ?_;rw[c8];show aN .i64 w ⟨a,0+4+10+r.toNat*1,none⟩ c;refine cv (g:=a) h ?_ hc;have:r=0∨r=1∨r=2∨r=3∨r=4∨r=5∨r=6∨r=7:=ah;rcases this with rfl|rfl|rfl|rfl|rfl|rfl|rfl|rfl<;>rfl
theorem atj(hF:j2 w0 l.ps P)(hI:In P t.f i)(h:qB w0 w l aa gw G W R)(he:G.err=0)(hs:W.stack=x::s')(ht:G.ts[x]?=some t)(hA:0≤i.getD 1 0∧i.getD 1 0<8)(hk:Fin w0 l aa gw R k (leave l P G W x t)):fP (some ⟨gw,0,none⟩) w k:=by
 obtain⟨sp,st,sw,q,hq,h⟩:=dN h;obtain⟨a,vs,ha,hst,_⟩:=mO hq hs;obtain⟨hp,so,sc,h⟩:=nH h ha ht;unfold fP yq;unfold leave at hk;rw[hI.ins]at hk;have hf:=hI.len;obtain⟨i0,i1,i2,i3,i4,rfl⟩:=I6 hI.Gu;have hA:0≤i1∧i1<8:=hA;have hA2:(m8 t.f).getD (2+i1.toNat) 0=t.f.getD (2+i1.toNat) 0:=ath ah ah;refine Gx h he (λhb w h=> ?_) λhb w h=> ?_
 ·rw[if_pos hb]at hk;with_reducible repeat' (first|refine qx ?_|fail)
  exact hk _ (bn (G:=G.fail 22) hq (oF (G:=G.fail 22) ⟨hp.len,hp.a,hp.t⟩ h))
 rw[if_neg hb]at hk;with_reducible repeat' (first|refine ij ?_|fail)
 refine kX h hst vw λw h=> ?_;refine I7 hF hI h hst λw h=> ?_;with_reducible repeat' (first|refine an ?_|refine pi h ?_|refine qX h λw h=> ?_|refine av h λgx w h=> ?_|fail)
 obtain⟨gc,lI⟩:∃n,n=gx:=⟨_,rfl⟩;subst lI;refine SC (t:=t) h hf λw h=> ?_;with_reducible repeat' (first|refine an ?_|fail)
 refine An h (by rw[j1,hf]) λw h=> ?_
 unfold aG;with_reducible repeat' (first|refine an ?_|refine dL h ?_|refine dX h ?_|refine eL h λw h=> ?_|fail)
 refine aF (λhb=> ?_) λhb=> ?_
 ·have hb:i0=15:=by simpa using hb
  with_reducible repeat' (first|refine an ?_|refine aK h λw h=> ?_|refine dX h ?_|fail)
  refine ldR (t:={t with f:=m8 t.f}) h hA.1 hA.2 ?_;have h:=h.rm 0 rfl;have h:qB w0 w l aa gw (G.lK.set x {t with f:=m8 t.f}) (W.go .next) R:=bn (q:={q with pe:=mt gw .next}) (by exact{hq with cR:=rfl}) (vo (t':={t with f:=m8 t.f}) (G:=G.lK) (W:=W.go .next) ⟨hp.len,hp.a,hp.t⟩ h)
  refine aal h hs (t:={t with f:=m8 t.f}) (ags ht) ?_;unfold ends;rw[ati];rw[if_pos (show([i0,i1,i2,i3,i4]:List Int).getD 0 0=15 from hb)]at hk;show Fin w0 l aa gw R k (G.lK.set x {t with f:=m8 t.f,kind:=3,v:=(m8 t.f).getD (2+i1.toNat) 0},_);rw[hA2];exact hk
 ·have hb:¬i0=15:=by simpa using hb
  with_reducible repeat' (first|refine an ?_|refine aK h λw h=> ?_|refine dX h ?_|fail)
  refine ldR (t:={t with f:=m8 t.f}) h hA.1 hA.2 ?_;have h:=h.rm 0 rfl;have h:qB w0 w l aa gw (G.lK.set x {t with f:=m8 t.f}) (W.go .next) R:=bn (q:={q with pe:=mt gw .next}) (by exact{hq with cR:=rfl}) (vo (t':={t with f:=m8 t.f}) (G:=G.lK) (W:=W.go .next) ⟨hp.len,hp.a,hp.t⟩ h)
  refine aal h hs (t:={t with f:=m8 t.f}) (ags ht) ?_;unfold ends;rw[ati];rw[if_neg (show¬([i0,i1,i2,i3,i4]:List Int).getD 0 0=15 from hb)]at hk;show Fin w0 l aa gw R k (G.lK.set x {t with f:=m8 t.f,kind:=2,v:=(m8 t.f).getD (2+i1.toNat) 0},_);rw[hA2];exact hk
theorem aow(h:qB w0 w l aa gw G W R)(he:G.err=0)(hs:W.stack=x::s')(ht:G.ts[x]?=some t)(hf:t.f.length=19)(ho:t.cI≠ [])(hsc:nR G.C t.j3.1=some nd)(hc:G.M.can W.id nd.at_=true)(hk:Fin w0 l aa gw R k (cancel l G W x t nd)):fg (some ⟨gw,0,none⟩) w k:=by
 obtain⟨sp,st,sw,q,hq,h⟩:=dN h;obtain⟨a,vs,ha,hst,_⟩:=mO hq hs;obtain⟨hp,so,sc,h⟩:=nH h ha ht;obtain⟨o,m,wZ⟩:∃o m,t.cI=o++[m]:=⟨_,_,(List.dropLast_concat_getLast ho).symm⟩;unfold fg wF;unfold cancel at hk;rw[BU wZ]at hsc;refine Gx h he (λhb w h=> ?_) λhb w h=> ?_
 ·rw[if_pos hb]at hk;with_reducible repeat' (first|refine qx ?_|fail)
  exact hk _ (bn (G:=G.fail 22) hq (oF (G:=G.fail 22) ⟨hp.len,hp.a,hp.t⟩ h))
 rw[if_neg hb]at hk;with_reducible repeat' (first|refine ij ?_|fail)
 refine kX h hst vw λw h=> ?_;with_reducible repeat' (first|refine an ?_|refine aK h λw h=> ?_|refine dL h ?_|refine dX h ?_|fail)
 refine BG h wZ λw h=> ?_;with_reducible repeat' (first|refine kr h ?_|fail)
 refine ptI (by rfl) ?_
 refine arD (C:=G.C) (M:=G.M) h hsc hc λw h=> ?_;with_reducible repeat' (first|refine an ?_|refine dL h ?_|refine pi h ?_|refine ij ?_|refine lJ ?_|fail)
 refine SC (t:=t) h hf λw h=> ?_;with_reducible repeat' (first|refine an ?_|fail)
 refine An h (by rw[j1,hf]) λw h=> ?_
 unfold aG cm;with_reducible repeat' (first|refine an ?_|refine dL h ?_|refine dX h ?_|refine eL h λw h=> ?_|fail)
 exact hk _ (bn (q:={q with pe:=mt gw .tell,Yz:=mt gw .next}) (by exact{hq with cR:=rfl,said:=rfl}) (vo (t':={t with f:=m8 t.f}) (G:=(G.mem (G.M.cs W.id nd.at_ 0 1).1).lK) (W:=W.I5 (.m .next)) ⟨hp.len,hp.a,hp.t⟩ h))
end
section
variable {w0 w:World} {L R:List HP} {l:Lc} {P:List ea} {aa:List Nat} {G:Gl} {gw b c x a:Nat} {W:Wk} {k:Unit→aq} {sp st sw so sc:Sl} {q:Wq} {f:HP→List HP} {t t':Tk} {s':List Nat} {vs:List Value} {i:List Int} {nd:Nd} {p:Pl}
structure Dr (G:Gl) (s:Int):Prop where
 Z0:G.time.2.length≤100000
 ck:CK G.time
 s0:0≤s
 pl:∃p,G.P[s.toNat]?=some p
theorem amQ{o:List (Int×Int)}{m:Int×Int}(h:TO w0 w l aa gw G W R sp st sw q x a t so sc)(hst:q.rV=pt a::vs)(wZ:t.cI=o++[m])(hd:Dr G m.1)
  (hk:∀so' w',TO w0 w' l aa gw {G with time:=(G.time.1,Ko.Ea G.time.2 m.1),P:=BT G.P m.1} W R sp st sw q x a {t with cI:=o} so' sc→k () w'):dW (some ⟨gw,0,none⟩) w k:=by
 obtain⟨p,hp⟩:=hd.pl;unfold dW z8;refine kX h hst vw λw h=> ?_;refine BG h wZ λw h=> ?_;refine ptI (by rfl) ?_
 with_reducible repeat' (first|refine an ?_|refine dL h ?_|fail)
 refine Ko.awH (now:=G.time.1) (S:=G.time.2) hd.Z0 hd.ck h λw h=> ?_;with_reducible repeat' (first|refine an ?_|refine dL h ?_|refine mJ h ?_|fail)
 refine rSt (sz:=4) (s:=sp) (es:=G.P.map uy) h hd.s0 (e:=uy p) (by rw[pB,hp];rfl) ah rfl λw h=> ?_
 have hn:=(tC (sz:=2) (s:=so) (es:=t.cI.map Az) h).2 ah;obtain⟨R2,_,h3,_⟩:=Lb (s:=so) (sz:=2) (es:=t.cI.map Az) inferInstance h;have hm:=(h3.own (sz:=2) (s:=so) (vs:=(t.cI.map Az).flatten)).max;have hcap:=(h3.own (sz:=2) (s:=so) (vs:=(t.cI.map Az).flatten)).cap;rw[List.length_map]at hn;have hol:t.cI.length=o.length+1:=by rw[wZ];simp
 with_reducible repeat' (first|refine an ?_|refine aK h λw h=> ?_|refine mJ h ?_|fail)
 have e0:aL .i64 (((so.n:Nat):Int) - 1)=(o.length:Nat):=by rw[lO ⟨ah,ah⟩];omega
 show SG so 2 0 (aL .i64 (((so.n:Nat):Int) - 1)) _;rw[e0];refine aBJ (sz:=2) (s:=so) (es:=t.cI.map Az) h ah ah (by rw[List.length_map];omega) λd hdn h=> ?_
 have e1:(t.cI.map Az).take ((o.length:Nat):Int).toNat=o.map Az:=by rw[kY,wZ,List.map_append,List.take_append_of_le_length bh,List.take_of_length_le bh]
 have e2:(G.P.map uy).set m.1.toNat ((uy p).set 3 (.bool true))=(BT G.P m.1).map uy:=by unfold BT;rw[hp];simp only[List.map_set];rfl
 rw[e1,e2]at h;with_reducible repeat' (first|refine an ?_|refine eL h λw h=> ?_|fail)
 exact hk d w h
theorem akP{o:List (Int×Int)}{m:Int×Int}(hq:q.Ok aa gw W)(h:wY w0 w l aa gw G W R sp st sw q)(hb:(b,[pt gw])∈q.B)(hs:W.stack=x::s')(ht:G.ts[x]?=some t)(ho:t.cI≠ [])(hd:Dr G t.j3.1)(hk:Fin w0 l aa gw R k (qq G W x t)):eS ⟨b,0,none⟩ w k:=by
 obtain⟨o,m,wZ⟩:∃o m,t.cI=o++[m]:=⟨_,_,(List.dropLast_concat_getLast ho).symm⟩;obtain⟨a,vs,ha,hst,_⟩:=mO hq hs;obtain⟨hp,so,sc,h⟩:=nH h ha ht;unfold eS uq;unfold qq at hk;rw[BU wZ]at hd;with_reducible repeat' (first|refine Eo h hb ?_|fail)
 refine amQ h hst wZ hd λso' w h=> ?_;with_reducible repeat' (first|refine Eo h hb ?_|fail)
 have ed:t.cI.dropLast=o:=by rw[wZ];simp
 rw[ed]at hk;have eg:G.YB x t=({G with time:=(G.time.1,Ko.Ea G.time.2 m.1),P:=BT G.P m.1}:Gl).set x {t with cI:=o}:=by unfold Gl.YB;rw[BU wZ,ed];rfl
 rw[eg]at hk;exact aew (bn hq (vo (G:={G with time:=(G.time.1,Ko.Ea G.time.2 m.1),P:=BT G.P m.1}) ⟨hp.len,hp.a,hp.t⟩ h)) hs (ags ht) hk
theorem aox{wT:Bool}{k:Array Value→aq}(h:St w0 w L)(hf:t.f.length=19)(h5:i.length=5)(hk:∀w',St w0 w' L→k (eV (iv t.f i wT)) w'):iT (frV t.f).toArray (eV i) wT w k:=by
 rw[NV hf];exact Fr.an5 hf h5 λw' he=>hk w' (h.on he)
theorem aoy(hF:j2 w0 l.ps P)(hI:In P t.f i)(h:qB w0 w l aa gw G W R)(he:G.err=0)(hs:W.stack=x::s')(ht:G.ts[x]?=some t)(ho:t.cI≠ [])(hd:Dr G t.j3.1)(hsc:nR G.C t.j3.1=some nd)(hc:G.M.can W.id nd.at_=true)(hsz:t.gC.size≤1000000)(hk:Fin w0 l aa gw R k (gC l P G W x t nd)):ff (some ⟨gw,0,none⟩) w k:=by
 obtain⟨o,m,wZ⟩:∃o m,t.cI=o++[m]:=⟨_,_,(List.dropLast_concat_getLast ho).symm⟩;obtain⟨sp,st,sw,q,hq,h⟩:=dN h;obtain⟨a,vs,ha,hst,_⟩:=mO hq hs;obtain⟨hp,so,sc,h⟩:=nH h ha ht;unfold ff wD;unfold gC at hk;rw[BU wZ]at hsc hd;rw[hI.ins]at hk;have hf:=hI.len;have h5:=hI.Gu;obtain⟨i0,i1,i2,i3,i4,hi⟩:=I6 h5;refine Gx h he (λhb w h=> ?_) λhb w h=> ?_
 ·simp only[if_pos hb]at hk;with_reducible repeat' (first|refine qx ?_|fail)
  exact hk _ (bn (G:=G.fail 22) hq (oF (G:=G.fail 22) ⟨hp.len,hp.a,hp.t⟩ h))
 simp only[if_neg hb]at hk;with_reducible repeat' (first|refine ij ?_|fail)
 refine kX h hst vw λw h=> ?_;refine I7 hF hI h hst λw h=> ?_;subst hi;with_reducible repeat' (first|refine an ?_|refine aK h λw h=> ?_|refine dL h ?_|refine dX h ?_|refine qX h λw h=> ?_|refine av h λgx w h=> ?_|fail)
 obtain⟨gc,lI⟩:∃n,n=gx:=⟨_,rfl⟩;subst lI;refine BG h wZ λw h=> ?_;with_reducible repeat' (first|refine kr h ?_|fail)
 refine ptI (by rfl) ?_
 refine ahE (C:=G.C) (M:=G.M) h hsc hc λw h=> ?_;with_reducible repeat' (first|refine an ?_|refine dL h ?_|refine ij ?_|refine lJ ?_|fail)
 generalize (G.M.get nd.at_ !=0)=ak at hk ⊢;refine bU (fun(s:ByteArray) w'=>s=(if ak then ByteArray.mk #[49]else ByteArray.mk #[48])∧w'=w) (λJ hJ=> ?_) ?_
 ·cases ak
  ·exact bp rfl (hJ _ _ ⟨rfl,rfl⟩)
  ·exact bH rfl (hJ _ _ ⟨rfl,rfl⟩)
 rintro s _ ⟨hs1,rfl⟩;with_reducible repeat' (first|refine an ?_|refine La h ?_|fail)
 refine⟨?_,?_⟩
 ·have:s.size=1:=by rw[hs1];cases ak<;>rfl
  rw[this];omega
 with_reducible repeat' (first|refine an ?_|refine aK h λw h=> ?_|refine pi h ?_|refine pn h ?_|refine eL h λw h=> ?_|fail)
 refine aox (t:=t) (i:=[i0,i1,i2,i3,i4]) h hf h5 λw h=> ?_;with_reducible repeat' (first|refine an ?_|fail)
 refine An (t:={t with gC:=t.gC++s}) h (by rw[pJ,hf]) λw h=> ?_
 have h:=h.El 0;have h:TO w0 w l aa gw (G.tick W.id) W R sp st sw q x a {t with gC:=t.gC++s,f:=iv t.f [i0,i1,i2,i3,i4] ak} so sc:=h;refine amQ h hst wZ ⟨hd.Z0,hd.ck,hd.s0,hd.pl⟩ λso' w h=> ?_;unfold aG;with_reducible repeat' (first|refine an ?_|refine dL h ?_|refine dX h ?_|refine eL h λw h=> ?_|fail)
 have ed:t.cI.dropLast=o:=by rw[wZ];simp
 have eg:(((G.tick W.id).YB x {t with gC:=t.gC++s,f:=iv t.f [i0,i1,i2,i3,i4] ak}).lK)=({G.tick W.id with time:=(G.time.1,Ko.Ea G.time.2 m.1),P:=BT G.P m.1}:Gl).lK.set x {t with gC:=t.gC++s,f:=iv t.f [i0,i1,i2,i3,i4] ak,cI:=o}:=by
  unfold Gl.YB Tk.j3;dsimp only;rw[show t.cI.getLastD (0,0)=m from BU wZ,ed];rfl
 rw[←hs1,eg]at hk;exact hk _ (bn (q:={q with pe:=mt gw .next}) (by exact{hq with cR:=rfl}) (vo (t':={t with gC:=t.gC++s,f:=iv t.f [i0,i1,i2,i3,i4] ak,cI:=o}) (G:=({G.tick W.id with time:=(G.time.1,Ko.Ea G.time.2 m.1),P:=BT G.P m.1}:Gl).lK) (W:=W.go .next) ⟨hp.len,hp.a,hp.t⟩ h))
end
end Go.Proofs.YthidhjhkmjjckaaGreatDoor
namespace Go.Proofs.YthidhjhkmjjckaaGreatDoor
open Go Go.Ev Go.Proofs
open Ko (oE CK)
section
variable {w0 w:World} {L R:List HP} {l:Lc} {P:List ea} {aa:List Nat} {G:Gl} {gw b c x a:Nat} {W:Wk} {k:Unit→aq} {sp st sw so sc:Sl} {q:Wq} {f:HP→List HP} {t t':Tk} {s':List Nat} {vs:List Value} {i:List Int} {nd:Nd} {p:Pl}
theorem acv{g sz:Nat}{e:List Value}(h:St w0 w (ax g e::L))(hl:e.length=sz)(h1:∀v∈e,v.oneCell'=true):St w0 w (rws sz ⟨some ⟨g,0,none⟩,1,1⟩ [e]::L):=by
 have h2:=St.asS (g:=g) (n:=1) (sz:=sz) (cs:=e) h ah ah h1;refine St.pur (by intro e' he;simp at he;rw[he];exact hl) ?_
 simpa using h2
theorem amR:GI Tryz.prog 97 1 8 (.pointer none):=⟨bf,bf⟩
theorem atl:GI Tryz.prog 146 1 8 .nilFunc:=⟨bf,bf⟩
theorem atm(h:qB w0 w l aa gw G W R)(he:G.err=0)(hx:W.jc=(x:Nat))(ht:G.ts[x]?=some t)(hA:y7 W.dq)(hc:G.M.can W.id (W.dq+1)=true)(hsc:nR G.C t.lN=some nd)(hl1:W.stack.length≤100000)(hl2:W.back.length≤100000)(hk:Fin w0 l aa gw R k (N3 l G W x t)):fL (some ⟨gw,0,none⟩) w k:=by
 obtain⟨sp,st,sw,q,hq,h⟩:=dN h;have hl:=xl h;obtain⟨a,ha⟩:=YD hl ht;have hn:=uN (s:=q.ss) (vs:=q.rV.reverse) h;have E7:=hq.rV.len;have hn3:=hq.y9.len;rw[List.length_reverse]at hn;unfold fL yd;unfold N3 at hk;have hv:=hq.home.one;with_reducible repeat' (first|refine an ?_|refine aK h λw h=> ?_|refine dL h ?_|refine mJ h ?_|refine oI h ?_|refine yU h ?_|refine av h λgx w h=> ?_|fail)
 obtain⟨gb,lI⟩:∃n,n=gx:=⟨_,rfl⟩;subst lI;with_reducible repeat' (first|refine an ?_|refine aK h λw h=> ?_|refine dL h ?_|refine dX h ?_|refine FU h ?_|refine mJ h ?_|refine td h ?_|refine La h ?_|refine oI h ?_|refine GM h ?_|refine OB h ?_|refine B3 h ?_|refine MD h ?_|refine OC h ?_|refine pi h ?_|refine pn h ?_|refine yU h ?_|refine eL h λw h=> ?_|refine xB h λw h=> ?_|refine HV h λw h=> ?_|refine qX h λw h=> ?_|refine av h λgx w h=> ?_|refine gA ?_|refine kr h ?_|refine po h ?_|refine lu ?_ ?_|refine ij ?_|refine qx ?_|refine Jf ?_|fail)
 refine aF (λhb=> ?_) λhb=> ?_
 ·have hb:(W.stack.length:Int)≥l.deep:=by rw[E7,←hn];exact of_decide_eq_true hb
  rw[if_pos hb]at hk;with_reducible repeat' (first|refine an ?_|refine dL h ?_|refine oI h ?_|fail)
  refine Ka h gD he λw h=> ?_;exact hk _ (bn (G:=G.fail 23) hq (h.rm 0 rfl))
 have hb:¬(W.stack.length:Int)≥l.deep:=by rw[E7,←hn];exact of_decide_eq_false hb
 rw[if_neg hb]at hk;with_reducible repeat' (first|refine an ?_|refine aK h λw h=> ?_|refine dL h ?_|refine dX h ?_|refine oI h ?_|refine pi h ?_|fail)
 refine Vf (M:=G.M) h hA hc λw h=> ?_;with_reducible repeat' (first|refine an ?_|refine aK h λw h=> ?_|refine dL h ?_|refine dX h ?_|refine mJ h ?_|refine oI h ?_|refine ij ?_|refine lJ ?_|fail)
 show cW st W.jc 1 _;rw[hx];refine vP (s:=st) (vs:=aa.map pt) h ah (acs ha) ?_;have h:=h.fr 10;obtain⟨so,sc,h⟩:=sI h ha ht;with_reducible repeat' (first|refine an ?_|refine dX h ?_|fail)
 refine NQ rfl rfl ?_;with_reducible repeat' (first|refine an ?_|refine eL h λw h=> ?_|refine av h λgx w h=> ?_|fail)
 obtain⟨gn,lI⟩:∃n,n=gx:=⟨_,rfl⟩;subst lI;have h:=acv (sz:=2) (e:=Az (t.own,G.M.get (W.dq+1))) h rfl (by simp[Value.oneCell'])
 have h:=AF (K:=rws 2 so) h;have h:=h.fr 4;have h:=h.bk 22;refine bU (fun(_:Unit) w=> ∃s1 s2,TO w0 w l aa gw (G.tick W.id) {W with stack:=x::W.stack,back:=W.home::W.back} (ax gb [pt gw]::R) sp st sw {q with ss:=s1,sb:=s2,rV:=pt a::q.rV,y9:=q.KX::q.y9} x a {t with cI:=[(t.own,G.M.get (W.dq+1))]} ⟨some ⟨gn,0,none⟩,1,1⟩ sc) (λJ hJ=> ?_) ?_
 ·have hls:q.rV.reverse.length≤1000000:=by rw[List.length_reverse];omega
  have hlb:q.y9.reverse.length≤1000000:=by rw[List.length_reverse];omega
  with_reducible repeat' (first|refine an ?_|refine aK h λw h=> ?_|refine mJ h ?_|refine td h ?_|refine oI h ?_|refine av h λgx w h=> ?_|refine kr h ?_|refine po h ?_|refine lu ?_ ?_|refine Jf ?_|fail)
  ·refine Ld (s:=q.ss) (vs:=q.rV.reverse) h amR bf rfl hls ah λs1 w h uz=> ?_;with_reducible repeat' (first|refine av h λgx w h=> ?_|refine kr h ?_|refine po h ?_|refine Jf ?_|fail)
   refine Ld (s:=q.sb) (vs:=q.y9.reverse) h atl bf hv hlb ah λs2 w h E7=> ?_;with_reducible repeat' (first|refine an ?_|refine eL h λw h=> ?_|refine po h ?_|fail)
   have h:=(h.rm 0 rfl).rm 0 rfl;rw[←List.reverse_cons,←List.reverse_cons]at h;exact hJ _ _ ⟨s1,s2,h⟩
  ·refine Ld (s:=q.ss) (vs:=q.rV.reverse) h amR bf rfl hls ah λs1 w h uz=> ?_;with_reducible repeat' (first|refine kr h ?_|refine po h ?_|fail)
   refine Ld (s:=q.sb) (vs:=q.y9.reverse) h atl bf hv hlb ah λs2 w h E7=> ?_;with_reducible repeat' (first|refine an ?_|refine eL h λw h=> ?_|refine po h ?_|fail)
   have h:=(h.rm 0 rfl).rm 0 rfl;rw[←List.reverse_cons,←List.reverse_cons]at h;exact hJ _ _ ⟨s1,s2,h⟩
  ·refine Ld (s:=q.ss) (vs:=q.rV.reverse) h amR bf rfl hls ah λs1 w h uz=> ?_;with_reducible repeat' (first|refine kr h ?_|refine po h ?_|fail)
   refine Ld (s:=q.sb) (vs:=q.y9.reverse) h atl bf hv hlb ah λs2 w h E7=> ?_;with_reducible repeat' (first|refine an ?_|refine eL h λw h=> ?_|refine po h ?_|fail)
   have h:=(h.rm 0 rfl).rm 0 rfl;rw[←List.reverse_cons,←List.reverse_cons]at h;exact hJ _ _ ⟨s1,s2,h⟩
 clear h;rintro _ w ⟨s1,s2,h⟩;have h:=h.fr 22;with_reducible repeat' (first|refine an ?_|refine aK h λw h=> ?_|refine dX h ?_|refine oI h ?_|fail)
 have h:=qh h;have hp:Tp aa (G.tick W.id) x a t:=⟨hl,ha,ht⟩;have h:=vo (q:={q with ss:=s1,sb:=s2,rV:=pt a::q.rV,y9:=q.KX::q.y9,B:=q.B++[(gb,[pt gw])]}) hp h;exact acu (kk:= .c .wW) (W:={W with stack:=x::W.stack,back:=W.home::W.back}) (q:={q with ss:=s1,sb:=s2,rV:=pt a::q.rV,y9:=q.KX::q.y9,B:=q.B++[(gb,[pt gw])]})
  (by exact{JX (g:=gb) (cs:=[pt gw]) hq with rV:= .cons ⟨a,ha,rfl⟩ hq.rV,y9:= .cons (hq.home.box λp h=>List.mem_append_left _ h) (JX (g:=gb) (cs:=[pt gw]) hq).y9}) h ⟨gb,bh,rfl⟩ hsc hk
end
section
variable {w0 w:World} {L R:List HP} {l:Lc} {P:List ea} {aa:List Nat} {G:Gl} {gw b c x a:Nat} {W:Wk} {k:Unit→aq} {sp st sw so sc:Sl} {q:Wq} {f:HP→List HP} {t t':Tk} {s':List Nat} {vs:List Value} {i:List Int} {nd:Nd} {p:Pl}
theorem atn{kb:Kn}{bs:List Kn}(hq:q.Ok aa gw W)(hs:W.back=kb::bs):∃u us,Rp aa gw q.B kb u∧q.y9=u::us∧Oy (Rp aa gw q.B) bs us:=by
 have h:=hq.y9;rw[hs]at h;generalize q.y9=s at h ⊢;cases h with
 |cons h1 h2=>exact⟨_,_,h1,rfl,h2⟩
theorem aw0{kb:Kn}{bs:List Kn}(h:qB w0 w l aa gw G W R)(hs:W.stack=x::s')(hbk:W.back=kb::bs)(hbl:bs.length=s'.length)(ht:G.ts[x]?=some t)(hM:G.M.OK)(hsc:nR G.C t.lN=some nd)(hc:G.M.can W.id (nd.at_+1)=true)(hk:Fin w0 l aa gw R k (gone G W nd)):gT (some ⟨gw,0,none⟩) w k:=by
 obtain⟨sp,st,sw,q,hq,h⟩:=dN h;obtain⟨a,vs,ha,hst,hvs⟩:=mO hq hs;obtain⟨u,us,hu,hbu,hus⟩:=atn hq hbk;have hu1:=hu.one;have ZG:=hvs.len;have hv2:=hus.len;unfold gT Ag;unfold gone at hk;rw[hs,hbk]at hk;have hn:=uN (s:=q.ss) (vs:=q.rV.reverse) h;have hm:=(h.own (sz:=1) (s:=q.ss) (vs:=q.rV.reverse)).max;have hcap:=(h.own (sz:=1) (s:=q.ss) (vs:=q.rV.reverse)).cap;rw[hst,List.length_reverse,List.length_cons]at hn;with_reducible repeat' (first|refine an ?_|refine aK h λw h=> ?_|refine dL h ?_|refine dX h ?_|fail)
 refine kX h hst vw λw h=> ?_;obtain⟨hp,so,sc,h⟩:=nH h ha ht;with_reducible repeat' (first|refine an ?_|refine dX h ?_|refine kr h ?_|fail)
 refine arC (C:=G.C) (M:=G.M) h hsc hc hM λw h=> ?_;have h:=pQ hp.len hp.a hp.t h;have h:=h.bk 9;with_reducible repeat' (first|refine an ?_|refine dL h ?_|refine mJ h ?_|refine ij ?_|refine lJ ?_|fail)
 have e0:aL .i64 (((q.ss.n:Nat):Int) - 1)=(vs.length:Nat):=by rw[lO ⟨ah,ah⟩];omega
 show cW q.sb (aL .i64 (((q.ss.n:Nat):Int) - 1)) 1 _;rw[e0];refine vV (s:=q.sb) (vs:=q.y9.reverse) h ah (x:=u) ?_ ?_
 ·rw[hbu,kY,List.reverse_cons,uK (by simp;omega)]
  have:vs.length - us.reverse.length=0:=by rw[List.length_reverse];omega
  rw[this];rfl
 with_reducible repeat' (first|refine an ?_|refine aK h λw h=> ?_|refine mJ h ?_|fail)
 show SG q.ss 1 0 ((vs.length:Nat):Int) _;refine al0 (s:=q.ss) (vs:=q.rV.reverse) h ah (by rw[hst];simp;omega) λs1 hs1 h=> ?_
 with_reducible repeat' (first|refine an ?_|refine mJ h ?_|fail)
 show SG q.sb 1 0 ((vs.length:Nat):Int) _;refine al0 (s:=q.sb) (vs:=q.y9.reverse) h ah (by rw[hbu];simp;omega) λs2 Io h=> ?_
 have e1:q.rV.reverse.take ((vs.length:Nat):Int).toNat=vs.reverse:=by rw[kY,hst,List.reverse_cons,List.take_append_of_le_length bh,List.take_of_length_le bh]
 have e2:q.y9.reverse.take ((vs.length:Nat):Int).toNat=us.reverse:=by rw[kY,hbu,List.reverse_cons,List.take_append_of_le_length (by simp;omega),List.take_of_length_le (by simp;omega)]
 rw[e1,e2]at h;with_reducible repeat' (first|refine an ?_|refine dX h ?_|refine eL h λw h=> ?_|fail)
 dsimp only[List.headD,List.tail]at hk;refine aF (λhb=> ?_) λhb=> ?_
 ·have hb:(W.bits !=0||G.M.get (nd.at_+1)==1)=true:=hb;rw[if_pos hb]at hk;unfold cm;with_reducible repeat' (first|refine an ?_|refine eL h λw h=> ?_|fail)
  exact hk _ (bn (q:={q with pe:=mt gw .tell,Yz:=u,ss:=s1,sb:=s2,rV:=vs,y9:=us}) (by exact{hq with cR:=rfl,said:=hu,rV:=hvs,y9:=hus}) h)
 ·have hb:(W.bits !=0||G.M.get (nd.at_+1)==1)=false:=hb;rw[if_neg (by rw[hb];simp)]at hk
  exact hk _ (bn (q:={q with pe:=u,ss:=s1,sb:=s2,rV:=vs,y9:=us}) (by exact{hq with cR:=hu,rV:=hvs,y9:=hus}) h)
theorem ato:GI Tryz.prog 96 4 32 (.agg #[.int .i64 0,.int .i64 0,.int .i64 0,.bool false]):=⟨bf,bf⟩
theorem aw1(h:qB w0 w l aa gw G W R)(he:G.err=0)(hs:W.stack=x::s')(ht:G.ts[x]?=some t)(ho:t.cI≠ [])(hM:G.M.OK)(py:G.M.caller W.id=true)(hC:G.C.length≤1000000)(hP:G.P.length≤1000000)(hsc:nR G.C t.j3.1=some nd)(hk:Fin w0 l aa gw R k (fork G W t nd)):gO (some ⟨gw,0,none⟩) w k:=by
 obtain⟨o,m,wZ⟩:∃o m,t.cI=o++[m]:=⟨_,_,(List.dropLast_concat_getLast ho).symm⟩;obtain⟨sp,st,sw,q,hq,h⟩:=dN h;obtain⟨a,vs,ha,hst,hvs⟩:=mO hq hs;unfold gO zW;unfold fork at hk;rw[BU wZ]at hk hsc;with_reducible repeat' (first|refine an ?_|refine aK h λw h=> ?_|refine dL h ?_|refine dX h ?_|fail)
 refine kX h hst vw λw h=> ?_;obtain⟨hp,so,sc,h⟩:=nH h ha ht;with_reducible repeat' (first|refine kr h ?_|fail)
 refine BG h wZ λw h=> ?_;have h:=pQ hp.len hp.a hp.t h;have h:=h.bk 9;with_reducible repeat' (first|refine kr h ?_|fail)
 refine ptI (by rfl) ?_
 refine afY (C:=G.C) (M:=G.M) h hsc py hM hC (λhd w h=> ?_) (λhd hr w h=> ?_) λhd hr w h=> ?_
 ·rw[if_pos hd]at hk;with_reducible repeat' (first|refine an ?_|refine dL h ?_|fail)
  exact Ka h gD he λw h=>hk _ (bn (G:=G.fail 23) hq h)
 ·rw[if_neg hd,if_pos hr]at hk;with_reducible repeat' (first|refine an ?_|refine dL h ?_|fail)
  exact Ka h gD he λw h=>hk _ (bn (G:=G.fail 21) hq h)
 ·rw[if_neg hd,if_neg (by rw[hr];simp)]at hk
  with_reducible repeat' (first|refine an ?_|refine aK h λw h=> ?_|refine dL h ?_|refine mJ h ?_|refine gA ?_|refine ij ?_|refine lJ ?_|fail)
  refine NQ rfl rfl ?_;with_reducible repeat' (first|refine av h λgx w h=> ?_|refine kr h ?_|fail)
  refine ad3 (sz:=4) (s:=sp) (es:=G.P.map uy) (e:=uy (-2,0,0,false)) h ato bf rfl ah (by simp[Value.oneCell']) (by simpa using hP) ah λs1 w h hn=> ?_
  have h:=h.El 0;have e1:G.P.map uy++[uy (-2,0,0,false)]=(G.P++[(-2,0,0,false)]).map uy:=by simp
  rw[e1]at h;with_reducible repeat' (first|refine an ?_|refine eL h λw h=> ?_|refine kr h ?_|fail)
  exact hk _ (bn (G:={G with M:=(G.M.tick W.id).grow 2,C:=G.C++[⟨m.1,wr (nd.nest+1),(G.M.cells.length:Nat)⟩],P:=G.P++[(-2,0,0,false)]}) (sp:=s1) (q:={q with pe:=mt gw .wV}) (by exact{hq with cR:=rfl}) h)
theorem aoz(h:qB w0 w l aa gw G W R)(hs:W.stack=x::s')(ht:G.ts[x]?=some t)(ho:t.cI≠ [])(hM:G.M.OK)(hsc:nR G.C t.j3.1=some nd)(hc:G.M.can W.id (nd.at_+1)=true)(hk:Fin w0 l aa gw R k (sV l G W nd)):fe (some ⟨gw,0,none⟩) w k:=by
 obtain⟨o,m,wZ⟩:∃o m,t.cI=o++[m]:=⟨_,_,(List.dropLast_concat_getLast ho).symm⟩;obtain⟨sp,st,sw,q,hq,h⟩:=dN h;obtain⟨a,vs,ha,hst,hvs⟩:=mO hq hs;unfold fe wv;unfold sV at hk;rw[BU wZ]at hsc;with_reducible repeat' (first|refine an ?_|refine aK h λw h=> ?_|refine dL h ?_|refine dX h ?_|refine oI h ?_|refine av h λgx w h=> ?_|fail)
 obtain⟨gb,lI⟩:∃n,n=gx:=⟨_,rfl⟩;subst lI;with_reducible repeat' (first|refine an ?_|refine aK h λw h=> ?_|refine dL h ?_|refine dX h ?_|refine FU h ?_|refine mJ h ?_|refine td h ?_|refine La h ?_|refine oI h ?_|refine GM h ?_|refine OB h ?_|refine B3 h ?_|refine MD h ?_|refine OC h ?_|refine pi h ?_|refine pn h ?_|refine yU h ?_|refine eL h λw h=> ?_|refine xB h λw h=> ?_|refine HV h λw h=> ?_|refine qX h λw h=> ?_|refine av h λgx w h=> ?_|refine gA ?_|refine kr h ?_|refine po h ?_|refine lu ?_ ?_|refine ij ?_|refine qx ?_|refine Jf ?_|fail)
 refine kX h hst vw λw h=> ?_;have h:=h.fr 10;have hl:aa.length=G.ts.length:=NW h;obtain⟨so,sc,h⟩:=sI h ha ht;with_reducible repeat' (first|refine kr h ?_|refine po h ?_|fail)
 refine BG h wZ λw h=> ?_;have h:=pQ hl ha ht h;have h:=h.bk 10;with_reducible repeat' (first|refine kr h ?_|refine po h ?_|fail)
 refine ptI (by rfl) ?_
 refine ahD (C:=G.C) (M:=G.M) h hsc hc hM λw h=> ?_;with_reducible repeat' (first|refine an ?_|refine aK h λw h=> ?_|refine dX h ?_|refine oI h ?_|refine pi h ?_|refine kr h ?_|refine po h ?_|refine ij ?_|refine lJ ?_|fail)
 refine amm h λgo w h=> ?_;have h:=AF (K:=mN (uu q.go)) h;with_reducible repeat' (first|refine po h ?_|fail)
 unfold bt;with_reducible repeat' (first|refine an ?_|refine eL h λw h=> ?_|fail)
 have h:=qh h;exact hk w (bn (G:=G.mem (G.M.ad W.id (nd.at_+1) 1)) (q:={q with go:=go,pe:=mt gw .o7,JW:=ct gb .tQ,B:=q.B++[(gb,[pt gw])]}) (by exact{JX (g:=gb) (cs:=[pt gw]) hq with cR:=rfl,after:=⟨gb,bh,rfl⟩}) h)
end
section
variable {w0 w:World} {L R:List HP} {l:Lc} {P:List ea} {aa:List Nat} {G:Gl} {gw b c d x y a a':Nat} {W:Wk} {k:Unit→aq} {sp st sw so sc:Sl} {q:Wq} {f:HP→List HP} {t t' tt:Tk} {s':List Nat} {vs:List Value} {i:List Int} {nd:Nd} {p:Pl}
theorem YE(h:qB w0 w l aa gw G W R)(hs:W.stack=x::s')(ht:G.ts[x]?=some t)(hy:aa[y]?=some a')(hc:G.M.can W.id l.told=true)(hsc:nR G.C t.lN=some nd)(hk:Fin w0 l aa gw R k (FG l G W t y)):c6 (some ⟨gw,0,none⟩) (some ⟨a',0,none⟩) w k:=by
 obtain⟨sp,st,sw,q,hq,h⟩:=dN h;have hl:=xl h;obtain⟨a,vs,ha,hst,hvs⟩:=mO hq hs;unfold c6 wA;with_reducible repeat' (first|refine an ?_|refine aK h λw h=> ?_|refine dL h ?_|refine dX h ?_|refine oI h ?_|refine eL h λw h=> ?_|refine av h λgx w h=> ?_|refine po h ?_|fail)
 obtain⟨gc,lI⟩:∃n,n=gx:=⟨_,rfl⟩;subst lI;obtain⟨gb,lI⟩:∃n,n=gx:=⟨_,rfl⟩;subst lI;have h:=h.fr 3;have h:=h.fr 13;refine abI (M:=G.M) h hc λw h=> ?_;have h:=h.bk 13;have h:=h.bk 3;with_reducible repeat' (first|refine aK h λw h=> ?_|refine oI h ?_|refine kr h ?_|refine po h ?_|refine ij ?_|refine lJ ?_|fail)
 refine kX h hst vw λw h=> ?_;have h:=h.fr 11;obtain⟨so,sc,h⟩:=sI h ha ht;with_reducible repeat' (first|refine an ?_|refine dX h ?_|refine po h ?_|fail)
 have h:=pQ hl ha ht h;have h:=h.bk 11;have h:=qh h;have h:=qh h;have hm:∀p∈q.B,p∈q.B++[(gc,[pt a'])] ++[(gb,[pt gw])]:=λp hp=>List.mem_append_left _ (List.mem_append_left _ hp);exact acu (kk:= .c .sK) (G:=G.tick W.id) (W:={W with target:=some y,late:=false,again:= .aw y,wait:=⟨1,G.M.get l.told⟩}) (q:={q with Ox:=some ⟨a',0,none⟩,yZ:= .func (.func eJ) #[] #[pt gb,pt gc],B:=q.B++[(gc,[pt a'])] ++[(gb,[pt gw])]})
  (by exact{hq.box hm with target:=⟨a',hy,rfl⟩,again:=⟨gb,gc,a',bh,hy,bh,rfl⟩}) h ⟨gb,bh,rfl⟩ hsc hk
theorem ayF(hq:q.Ok aa gw W)(h:wY w0 w l aa gw G W R sp st sw q)(hb:(b,[pt gw])∈q.B)(hcb:(c,[pt a'])∈q.B)(hs:W.stack=x::s')(ht:G.ts[x]?=some t)(hy:aa[y]?=some a')(hc:G.M.can W.id l.told=true)(hsc:nR G.C t.lN=some nd)(hk:Fin w0 l aa gw R k (FG l G W t y)):cy ⟨b,0,none⟩ ⟨c,0,none⟩ w k:=by
 unfold cy uo;refine Eo h hb (Eo h hcb ?_);exact YE (bn hq h) hs ht hy hc hsc hk
theorem ayG{kk:Kn}{u:Value}(hq:q.Ok aa gw W)(h:wY w0 w l aa gw G W R sp st sw q)(hb:(b,[pt gw])∈q.B)(hcb:(c,[u])∈q.B)(hv:Rp aa gw q.B kk u)(hs:W.stack=x::s')(ht:G.ts[x]?=some t)(ho:t.cI≠ [])(hk:Fin w0 l aa gw R k (G,shut W kk t)):cL ⟨b,0,none⟩ ⟨c,0,none⟩ w k:=by
 unfold cL wN;refine Eo h hb (fzV h hcb ?_);exact agq hq h hs ht ho hv hk
theorem aam{kk:Kn}{u:Value}(hq:q.Ok aa gw W)(h:wY w0 w l aa gw G W R sp st sw q)(hv:Rp aa gw q.B kk u)(hk:Fin w0 l aa gw R k (G,W.stop kk)):bI (some ⟨gw,0,none⟩) u w k:=by
 unfold bI;have ZG:=hv.one;with_reducible repeat' (first|refine an ?_|refine eL h λw h=> ?_|fail)
 have h:=AF (K:=mN (λo:jz=>ax q.gp (o.cells l.sp q.gp))) (X:=mN (λo:jz=>ax q.gp (o.cells l.sp q.gp)) none) (St.shut (A:=[]) h);exact hk _ (bn (q:={q with pe:=mt gw .stops,L7:=u}) (by exact{hq with cR:=rfl,o8:=hv}) h)
theorem amS{kk:Kn}{u:Value}{z:Int}(hq:q.Ok aa gw W)(h:wY w0 w l aa gw G W R sp st sw q)(hv:Rp aa gw q.B kk u)(hk:Fin w0 l aa gw R k (G,W.G3 z kk)):bi (some ⟨gw,0,none⟩) z u w k:=by
 unfold bi;have ZG:=hv.one;with_reducible repeat' (first|refine an ?_|refine eL h λw h=> ?_|fail)
 exact hk _ (bn (q:={q with pe:=mt gw .sU,KX:=u}) (by exact{hq with cR:=rfl,home:=hv}) h)
theorem aAk{kk:Kn}{u:Value}(hq:q.Ok aa gw W)(h:wY w0 w l aa gw G W R sp st sw q)(hb:(b,[pt gw])∈q.B)(hy:aa[y]?=some a')(hcb:(c,[pt a'])∈q.B)(hv:Rp aa gw q.B kk u)(hdb:(d,[u])∈q.B)(ht:G.ts[y]?=some tt)(hk:Fin w0 l aa gw R k (G,W.G3 tt.id kk)):fx ⟨b,0,none⟩ ⟨c,0,none⟩ ⟨d,0,none⟩ w k:=by
 unfold fx vg;obtain⟨hp,so,sc,h⟩:=nH h hy ht;with_reducible repeat' (first|refine an ?_|refine aK h λw h=> ?_|refine dX h ?_|refine Eo h hb ?_|refine Eo h hcb ?_|refine fzV h hdb ?_|fail)
 exact amS hq (oF hp h) hv hk
theorem aAl{kk:Kn}{u:Value}{z:Int}(hq:q.Ok aa gw W)(h:wY w0 w l aa gw G W R sp st sw q)(hb:(b,[pt gw])∈q.B)(hcb:(c,[.int .i64 z])∈q.B)(hv:Rp aa gw q.B kk u)(hdb:(d,[u])∈q.B)(hk:Fin w0 l aa gw R k (G,W.G3 z kk)):fA ⟨b,0,none⟩ ⟨c,0,none⟩ ⟨d,0,none⟩ w k:=by
 unfold fA vh;refine Eo h hb (fzI h hcb (fzV h hdb ?_));exact amS hq h hv hk
theorem air{z:Int}(h:qB w0 w l aa gw G W R)(hk:Fin w0 l aa gw R k (Bo G W z)):cU (some ⟨gw,0,none⟩) z w k:=by
 obtain⟨sp,st,sw,q,hq,h⟩:=dN h;unfold cU xU;have hv:=hq.again.one;with_reducible repeat' (first|refine an ?_|refine td h ?_|refine oI h ?_|refine xB h λw h=> ?_|refine av h λgx w h=> ?_|fail)
 obtain⟨gd,lI⟩:∃n,n=gx:=⟨_,rfl⟩;subst lI;obtain⟨gc,lI⟩:∃n,n=gx:=⟨_,rfl⟩;subst lI;obtain⟨gb,lI⟩:∃n,n=gx:=⟨_,rfl⟩;subst lI;have h:=qh h;have h:=qh h;have h:=qh h;have hm:∀p∈q.B,p∈q.B++[(gd,[q.yZ])] ++[(gc,[.int .i64 z])] ++[(gb,[pt gw])]:=λp hp=>List.mem_append_left _ (List.mem_append_left _ (List.mem_append_left _ hp));exact aam (kk:= .Bp z W.again) (q:={q with B:=q.B++[(gd,[q.yZ])] ++[(gc,[.int .i64 z])] ++[(gb,[pt gw])]}) (hq.box hm) h ⟨gb,gc,gd,q.yZ,bh,bh,hq.again.box hm,bh,rfl⟩ hk
theorem atp(h:qB w0 w l aa gw G W R)(hs:W.stack=x::s')(ht:G.ts[x]?=some t)(hM:G.M.OK)(Vu:W.target=some y)(Ma:G.ts[y]?=some tt)(hc:G.M.can W.id (tt.jt+0)=true)(ho:t.cI≠ [])(hk:Fin w0 l aa gw R k (asked G W t tt y)):fQ (some ⟨gw,0,none⟩) w k:=by
 obtain⟨sp,st,sw,q,hq,h⟩:=dN h;have hl:=xl h;obtain⟨a,vs,ha,hst,hvs⟩:=mO hq hs;obtain⟨a',hy,hpt⟩:∃a',aa[y]?=some a'∧q.Ox=some ⟨a',0,none⟩:=by have:=hq.target;rw[Vu]at this;exact this
 unfold fQ yw;unfold asked at hk;have hv:=hq.again.one;with_reducible repeat' (first|refine an ?_|refine aK h λw h=> ?_|refine dL h ?_|refine oI h ?_|refine av h λgx w h=> ?_|fail)
 obtain⟨gb,lI⟩:∃n,n=gx:=⟨_,rfl⟩;subst lI;rw[hpt];have h:=h.fr 10;obtain⟨so,sc,h⟩:=sI h hy Ma;with_reducible repeat' (first|refine an ?_|refine dL h ?_|refine dX h ?_|refine oI h ?_|refine pi h ?_|fail)
 refine anN (M:=G.M) h hM hc λw h=> ?_;have h:=pQ hl hy Ma h;have h:=h.bk 10;with_reducible repeat' (first|refine an ?_|refine dL h ?_|refine oI h ?_|refine xB h λw h=> ?_|refine av h λgx w h=> ?_|refine ij ?_|refine lJ ?_|fail)
 obtain⟨gc,lI⟩:∃n,n=gx:=⟨_,rfl⟩;subst lI;rw[hpt]at h;dsimp only at hk;refine aF (λhb=> ?_) λhb=> ?_
 ·rw[if_pos (by simpa using hb)]at hk
  with_reducible repeat' (first|refine an ?_|refine td h ?_|refine oI h ?_|refine xB h λw h=> ?_|refine av h λgx w h=> ?_|fail)
  obtain⟨gd,lI⟩:∃n,n=gx:=⟨_,rfl⟩;subst lI;have h:=qh h;have h:=qh h;have h:=qh h;have hm:∀p∈q.B,p∈q.B++[(gd,[q.yZ])] ++[(gc,[pt a'])] ++[(gb,[pt gw])]:=λp hp=>List.mem_append_left _ (List.mem_append_left _ (List.mem_append_left _ hp));exact aam (G:=G.tick W.id) (kk:= .Vo y W.again) (q:={q with B:=q.B++[(gd,[q.yZ])] ++[(gc,[pt a'])] ++[(gb,[pt gw])]}) (hq.box hm) h ⟨gb,gc,gd,a',q.yZ,bh,hy,bh,hq.again.box hm,bh,rfl⟩ hk
 rw[if_neg (by simpa using hb)]at hk
 refine aF (λhb=> ?_) λhb=> ?_
 ·rw[if_pos (by simpa using hb)]at hk
  with_reducible repeat' (first|refine aK h λw h=> ?_|refine oI h ?_|fail)
  refine kX h hst vw λw h=> ?_;have h:=h.fr 11;obtain⟨so,sc,h⟩:=sI h ha ht;with_reducible repeat' (first|refine an ?_|refine mJ h ?_|refine po h ?_|fail)
  cases hop:t.cI with
  |nil=>exact(ho hop).elim
  |cons m o=>
   rw[hop]at hk;refine rI (sz:=2) (s:=so) (es:=t.cI.map Az) h gD (e:=Az m) (j:=1) (by rw[hop];rfl) rfl ?_
   have h:=pQ hl ha ht h;have h:=h.bk 11;unfold dD;with_reducible repeat' (first|refine an ?_|refine eL h λw h=> ?_|fail)
   have h:=(h.rm 0 rfl).rm 0 rfl;exact hk _ (bn (G:=G.tick W.id) (q:={q with pe:=mt gw .tP,Ie:=mt gw .vu}) (by exact{hq with cR:=rfl,dy:=rfl}) h)
 ·rw[if_neg (by simpa using hb)]at hk
  with_reducible repeat' (first|refine an ?_|refine oI h ?_|refine eL h λw h=> ?_|fail)
  have h:=h.El 0;have h:=qh h;exact aam (G:=G.tick W.id) (W:={W with kind:=G.M.get (tt.jt+0)}) (kk:= .c .HZ) (q:={q with B:=q.B++[(gb,[pt gw])]}) (by exact{JX (g:=gb) (cs:=[pt gw]) hq with}) h ⟨gb,bh,rfl⟩ hk
end
section
variable {w0 w:World} {L R:List HP} {l:Lc} {P:List ea} {aa:List Nat} {G:Gl} {gw b c d x y a a':Nat} {W:Wk} {k:Unit→aq} {sp st sw so sc:Sl} {q:Wq} {f:HP→List HP} {t t' tt:Tk} {s':List Nat} {vs:List Value} {i:List Int} {nd:Nd} {p:Pl}
theorem amT(h:qB w0 w l aa gw G W R)(hs:W.stack=x::s')(ht:G.ts[x]?=some t)(hk:Fin w0 l aa gw R k (vu G W t)):cr (some ⟨gw,0,none⟩) w k:=by
 obtain⟨sp,st,sw,q,hq,h⟩:=dN h;obtain⟨a,vs,ha,hst,hvs⟩:=mO hq hs;obtain⟨hp,so,sc,h⟩:=nH h ha ht;unfold cr zE;unfold vu at hk;with_reducible repeat' (first|refine av h λgx w h=> ?_|fail)
 obtain⟨gb,lI⟩:∃n,n=gx:=⟨_,rfl⟩;subst lI;refine bU (fun(x2:Addr×Addr) w=> ∃g1 g2,x2=(⟨g1,0,none⟩,⟨g2,0,none⟩)∧St w0 w (ax g1 [.int .i64 t.id]::ax g2 [.pointer q.Ox]::ax gb [pt gw]::TL l aa gw G W R sp st sw q x a t so sc)) (λJ hJ=> ?_) ?_
 ·with_reducible repeat' (first|refine an ?_|refine aK h λw h=> ?_|refine dL h ?_|refine oI h ?_|refine av h λgx w h=> ?_|refine kr h ?_|refine po h ?_|refine lu ?_ ?_|fail)
  ·refine kX h hst vw λw h=> ?_;with_reducible repeat' (first|refine an ?_|refine dX h ?_|refine xB h λw h=> ?_|refine av h λgx w h=> ?_|refine kr h ?_|refine po h ?_|refine lu ?_ ?_|fail)
   ·exact hJ _ _ ⟨_,_,rfl,h.swap⟩
   ·exact hJ _ _ ⟨_,_,rfl,h⟩
  ·refine kX h hst vw λw h=> ?_;with_reducible repeat' (first|refine an ?_|refine dX h ?_|refine xB h λw h=> ?_|refine av h λgx w h=> ?_|refine kr h ?_|refine po h ?_|fail)
   exact hJ _ _ ⟨_,_,rfl,h.swap⟩
  ·refine kX h hst vw λw h=> ?_;with_reducible repeat' (first|refine an ?_|refine dX h ?_|refine xB h λw h=> ?_|refine kr h ?_|refine po h ?_|fail)
   exact hJ _ _ ⟨_,_,rfl,h.swap⟩
  ·refine kX h hst vw λw h=> ?_;with_reducible repeat' (first|refine an ?_|refine dX h ?_|refine xB h λw h=> ?_|refine av h λgx w h=> ?_|refine kr h ?_|refine po h ?_|fail)
   exact hJ _ _ ⟨_,_,rfl,h⟩
  ·refine kX h hst vw λw h=> ?_;with_reducible repeat' (first|refine an ?_|refine dX h ?_|refine xB h λw h=> ?_|refine kr h ?_|refine po h ?_|fail)
   exact hJ _ _ ⟨_,_,rfl,h⟩
 clear h;rintro _ w ⟨g1,g2,rfl,h⟩;unfold dg;with_reducible repeat' (first|refine an ?_|refine oI h ?_|refine eL h λw h=> ?_|fail)
 have h:=qh h;have h:=qh h;have h:=qh h;have hm:∀p∈q.B,p∈q.B++[(g1,[.int .i64 t.id])] ++[(g2,[.pointer q.Ox])] ++[(gb,[pt gw])]:=λp hp=>List.mem_append_left _ (List.mem_append_left _ (List.mem_append_left _ hp));exact hk _ (bn (q:={q with pe:=mt gw .others,Yx:= .func (.func lH) #[] #[pt gb,pt g1,pt g2],aib:=mt gw .Bo,Yy:=mt gw .nothing,B:=q.B++[(g1,[.int .i64 t.id])] ++[(g2,[.pointer q.Ox])] ++[(gb,[pt gw])]})
  (by exact{hq.box hm with cR:=rfl,fits:=⟨gb,g1,g2,q.Ox,bh,bh,bh,by have h9:=hq.target;revert h9;cases W.target<;>exact λh=>h,rfl⟩,got:=rfl,none_:=rfl}) (oF hp h))
theorem atq{p:Option Addr}{c:Value→aq}(h:cr p w λ_ w=>c (.tuple #[]) w):zF [.pointer p] w c:=h
theorem aoA{p:Addr}{c:Value→aq}(h:cT p w λ_ w=>c (.tuple #[]) w):wc [.pointer (some p)] w c:=h
theorem acw{bZ:eb}{c:Value→aq}(hd:W.dy= .m .vu∨W.dy= .c .Cs)(e1:∀args w c,bZ (.func jY) args w c=zF args.toList w c)(e2:∀args w c,bZ (.func jX) args w c=wc args.toList w c)
  (hq:q.Ok aa gw W) (h:wY w0 w l aa gw G W R sp st sw q) (hs:W.stack=x::s') (ht:G.ts[x]?=some t) (hk:Fin w0 l aa gw R (λ_ w=>c (.tuple #[]) w) (dy G W t)):mT bZ q.Ie #[] w c:=by
 unfold dy at hk;have hv:=hq.dy;rcases hd with hd|hd
 ·rw[hd]at hk hv;obtain hv:q.Ie=mt gw .vu:=hv;rw[hv];rw[if_pos rfl]at hk;refine bX (d:=zF) e1 (atq ?_);exact amT (bn hq h) hs ht hk
 ·rw[hd]at hk hv;obtain⟨b,hb,hv⟩:=hv;rw[hv];rw[if_neg gD]at hk;refine bX (d:=wc) e2 (aoA ?_);exact atf hq h hb hk
theorem aoB(h:qB w0 w l aa gw G W R)(hs:W.stack=x::s')(ht:G.ts[x]?=some t)(hd:W.dy= .m .vu∨W.dy= .c .Cs)(hA:y7 W.dq)(hc:G.M.can W.id (W.dq+1)=true)(hk:Fin w0 l aa gw R k (tP l G W t)):fj (some ⟨gw,0,none⟩) w k:=by
 obtain⟨sp,st,sw,q,hq,h⟩:=dN h;unfold fj wL;unfold tP at hk;dsimp only at hk;with_reducible repeat' (first|refine an ?_|refine aK h λw h=> ?_|refine dL h ?_|refine dX h ?_|refine oI h ?_|refine pi h ?_|refine av h λgx w h=> ?_|fail)
 obtain⟨gb,lI⟩:∃n,n=gx:=⟨_,rfl⟩;subst lI;refine Vf (M:=G.M) h hA hc λw h=> ?_;with_reducible repeat' (first|refine an ?_|refine dL h ?_|refine dX h ?_|refine oI h ?_|refine ij ?_|refine lJ ?_|fail)
 refine aF (λhb=> ?_) λhb=> ?_
 ·rw[if_pos (of_decide_eq_true hb)]at hk;with_reducible repeat' (first|refine an ?_|refine td h ?_|refine oI h ?_|fail)
  have h:=h.El 0;exact acw (G:=G.tick W.id) hd (λ_ _ _=>rfl) (λ_ _ _=>rfl) hq h hs ht hk
 ·rw[if_neg (of_decide_eq_false hb)]at hk;with_reducible repeat' (first|refine an ?_|refine aK h λw h=> ?_|refine oI h ?_|refine pi h ?_|fail)
  refine arQ h λgo w h=> ?_;have h:=AF (K:=mN (uu q.go)) h;with_reducible repeat' (first|refine po h ?_|fail)
  unfold bt;with_reducible repeat' (first|refine an ?_|refine eL h λw h=> ?_|fail)
  have h:=qh h;exact hk w (bn (G:=G.tick W.id) (q:={q with go:=go,pe:=mt gw .o7,JW:=ct gb .sJ,B:=q.B++[(gb,[pt gw])]}) (by exact{JX (g:=gb) (cs:=[pt gw]) hq with cR:=rfl,after:=⟨gb,bh,rfl⟩}) h)
theorem akQ{CV:Int}(hq:q.Ok aa gw W)(h:wY w0 w l aa gw G W R sp st sw q)(hb:(b,[pt gw])∈q.B)(ho:W.op.isSome=true)(hs:W.stack=x::s')(ht:G.ts[x]?=some t)(hd:W.dy= .m .vu∨W.dy= .c .Cs)(hk:Fin w0 l aa gw R k (sJ G W t CV)):eP CV ⟨b,0,none⟩ w k:=by
 unfold eP ug;unfold sJ at hk;refine aF (λhb'=> ?_) λhb'=> ?_
 ·rw[if_pos (by simpa using hb')]at hk
  with_reducible repeat' (first|refine an ?_|refine td h ?_|refine Eo h hb ?_|fail)
  exact acw hd (λ_ _ _=>rfl) (λ_ _ _=>rfl) hq h hs ht hk
 ·rw[if_neg (by simpa using hb')]at hk
  with_reducible repeat' (first|refine an ?_|refine aK h λw h=> ?_|refine dL h ?_|refine Eo h hb ?_|fail)
  refine agp h ho ?_;with_reducible repeat' (first|refine gA ?_|fail)
  exact air (bn hq h) hk
theorem akR(h:qB w0 w l aa gw G W R)(hs:W.stack=x::s')(ht:G.ts[x]?=some t)(ho:t.cI≠ [])(hM:G.M.OK)(hsc:nR G.C t.j3.1=some nd)(hc:G.M.can W.id (nd.at_+1)=true)(hk:Fin w0 l aa gw R k (rR G W t nd)):eI (some ⟨gw,0,none⟩) w k:=by
 obtain⟨o,m,wZ⟩:∃o m,t.cI=o++[m]:=⟨_,_,(List.dropLast_concat_getLast ho).symm⟩;obtain⟨sp,st,sw,q,hq,h⟩:=dN h;have hl:=xl h;obtain⟨a,vs,ha,hst,hvs⟩:=mO hq hs;unfold eI ve;unfold rR at hk;rw[BU wZ]at hsc;have hv:=hq.pM.one;with_reducible repeat' (first|refine an ?_|refine aK h λw h=> ?_|refine dL h ?_|refine dX h ?_|fail)
 refine kX h hst vw λw h=> ?_;have h:=h.fr 9;obtain⟨so,sc,h⟩:=sI h ha ht;with_reducible repeat' (first|refine kr h ?_|fail)
 refine BG h wZ λw h=> ?_;have h:=pQ hl ha ht h;have h:=h.bk 9;with_reducible repeat' (first|refine kr h ?_|fail)
 refine ptI (by rfl) ?_
 refine av5 (C:=G.C) (M:=G.M) h hsc hc hM λw h=> ?_;with_reducible repeat' (first|refine an ?_|refine dL h ?_|refine ij ?_|refine lJ ?_|fail)
 refine aF (λhb=> ?_) λhb=> ?_
 ·rw[if_pos (by simpa using hb)]at hk
  with_reducible repeat' (first|refine an ?_|refine td h ?_|fail)
  exact aam (G:=G.tick W.id) hq h hq.pM hk
 ·rw[if_neg (by simpa using hb)]at hk
  exact amT (bn (G:=G.tick W.id) hq h) hs ht hk
end
def Gl.vp(G:Gl)(y:Nat):Int:=match G.ts[y]? with|some t=>t.id|none=>0
def Gl.Vv(G:Gl)(y:Nat):Int:=match G.ts[y]? with|some t=>t.jt|none=>0
section
variable {w0 w:World} {L R:List HP} {l:Lc} {P:List ea} {aa:List Nat} {G:Gl} {gw b c d x y a a':Nat} {W:Wk} {k:Unit→aq} {sp st sw so sc:Sl} {q:Wq} {f:HP→List HP} {t t' tt:Tk} {s':List Nat} {vs:List Value} {i:List Int} {nd:Nd} {p:Pl}
theorem YF(hq:q.Ok aa gw W)(Vu:W.target=some y):∃a',aa[y]?=some a'∧q.Ox=some ⟨a',0,none⟩:=by have:=hq.target;rw[Vu]at this;exact this
theorem aw2(hq:q.Ok aa gw W):(ej q.Ox)=(ej W.target):=by
 have:=hq.target;revert this;cases W.target with
 |none=>intro h;rw[h];rfl
 |some x=>rintro⟨a,_,h⟩;rw[h];rfl
theorem akS(h:qB w0 w l aa gw G W R)(hh:W.wait.how=1)(hk:Fin w0 l aa gw R k (nothing G W)):fq (some ⟨gw,0,none⟩) w k:=by
 obtain⟨sp,st,sw,q,hq,h⟩:=dN h;unfold fq uX;unfold nothing at hk;have hv:=hq.again.one;with_reducible repeat' (first|refine an ?_|refine FU h ?_|fail)
 refine aF (λhb=> ?_) λhb=> ?_
 ·rw[if_pos hb]at hk;with_reducible repeat' (first|refine an ?_|refine td h ?_|refine eL h λw h=> ?_|fail)
  exact hk _ (bn (q:={q with pe:=q.yZ}) (by exact{hq with cR:=hq.again}) h)
 rw[if_neg (by rw[hb];simp)]at hk
 refine bU (λb w'=>b=(W.target.isSome&& !W.bK)∧w'=w) (λJ hJ=> ?_) ?_
 ·with_reducible repeat' (first|refine an ?_|refine dL h ?_|fail)
  rw[aw2 hq];refine aF (λhb=> ?_) λhb=> ?_
  ·with_reducible repeat' (first|refine an ?_|refine FU h ?_|fail)
   refine hJ _ _ ⟨?_,rfl⟩;cases ht:W.target with
   |none=>rw[ht]at hb;cases hb
   |some y=>rfl
  ·refine hJ _ _ ⟨?_,rfl⟩;cases ht:W.target with
   |none=>rfl
   |some y=>rw[ht]at hb;cases hb
 rintro _ _ ⟨rfl,rfl⟩;refine aF (λhb=> ?_) λhb=> ?_
 ·rw[if_pos hb]at hk;with_reducible repeat' (first|refine an ?_|refine eL h λw h=> ?_|fail)
  exact hk _ (bn (q:={q with pe:=mt gw .register}) (by exact{hq with cR:=rfl}) h)
 rw[if_neg (by rw[hb];simp)]at hk
 with_reducible repeat' (first|refine an ?_|refine FU h ?_|fail)
 refine aF (λhb=> ?_) λhb=> ?_
 ·rw[if_neg (by simpa using hb)]at hk
  with_reducible repeat' (first|refine an ?_|refine dL h ?_|refine pi h ?_|fail)
  refine ar2 (s:=l.sp) h λgp w h=> ?_;have h:=AF (K:=mN (λo:jz=>ax q.gp (o.cells l.sp q.gp))) h;with_reducible repeat' (first|refine an ?_|refine eL h λw h=> ?_|fail)
  exact hk _ (bn (q:={q with pe:=mt gw .block,gp:=gp}) (by exact{hq with cR:=rfl}) h)
 ·rw[if_pos (by simpa using hb)]at hk
  with_reducible repeat' (first|refine an ?_|refine aK h λw h=> ?_|refine dL h ?_|fail)
  refine amj (x:=W.wait) h λw h=> ?_;rw[if_pos hh];rw[if_pos hh]at h;with_reducible repeat' (first|refine an ?_|refine eL h λw h=> ?_|refine kr h ?_|refine qx ?_|refine lJ ?_|fail)
  exact hk _ (bn (q:={q with pe:=mt gw .HI}) (by exact{hq with cR:=rfl}) h)
theorem ait(h:qB w0 w l aa gw G W R)(Vu:W.target=some y)(Ma:G.ts[y]?=some tt)(hM:G.M.OK)(hw:0≤W.id∧W.id≤16)(hc:G.M.can W.id (tt.jt+2)=true)(hk:Fin w0 l aa gw R k (register G W tt)):ec (some ⟨gw,0,none⟩) w k:=by
 obtain⟨sp,st,sw,q,hq,h⟩:=dN h;have hl:=xl h;obtain⟨a',hy,hpt⟩:=YF hq Vu;unfold ec ul;have hv:=hq.again.one;with_reducible repeat' (first|refine an ?_|refine aK h λw h=> ?_|refine dL h ?_|fail)
 rw[hpt];have h:=h.fr 9;obtain⟨so,sc,h⟩:=sI h hy Ma;with_reducible repeat' (first|refine an ?_|refine dL h ?_|refine dX h ?_|refine pi h ?_|fail)
 refine arI (M:=G.M) h hM hw hc λw h=> ?_;have h:=pQ hl hy Ma h;have h:=h.bk 9;with_reducible repeat' (first|refine an ?_|refine td h ?_|refine eL h λw h=> ?_|refine kr h ?_|refine qx ?_|refine lJ ?_|fail)
 exact hk _ (bn (G:=G.mem (G.M.ad W.id (tt.jt+2) (bit W.id 1))) (q:={q with pe:=q.yZ}) (by exact{hq with cR:=hq.again}) h)
theorem atr{o:jz}(h:qB w0 w l aa gw G W R)(hT:TZ w0)(hs:l.sp.OK)(hM:G.M.OK)(ho:W.step=some o)(hf:o.Gs l.sp G.M W.id)(hk:Fin w0 l aa gw R k (block l G W o)):fS (some ⟨gw,0,none⟩) w k:=by
 obtain⟨id,dq,wait,stack,back,cR,op,after,look,seen,step,left,late,fits,got,none_,jc,home,target,kind,bK,blocked,again,o8,mark,dy,own,said,bits,pM⟩:=W;dsimp only at ho;subst ho;obtain⟨sp,st,sw,q,hq,h⟩:=dN h;unfold fS yD;unfold block at hk;dsimp only[mN]at h;have hv:=hq.again.one;with_reducible repeat' (first|refine an ?_|refine aK h λw h=> ?_|refine dL h ?_|refine dX h ?_|fail)
 have h:=h.fr 1;have h:=h.fr 17;refine Yp (s:=l.sp) (M:=G.M) (o:=o) h hT hs hM hf λw h=> ?_;have h:=h.bk 17;have h:=h.bk 1;generalize o.go l.sp G.M id=r at h hk ⊢;with_reducible repeat' (first|refine an ?_|refine dL h ?_|refine lJ ?_|fail)
 refine aF (λhb=> ?_) λhb=> ?_
 ·have hb:r.1.next=0:=by simpa using hb
  simp only[if_pos hb]at hk;with_reducible repeat' (first|refine an ?_|refine td h ?_|refine eL h λw h=> ?_|fail)
  exact hk _ (bn (G:=G.mem r.2) (q:={q with pe:=q.yZ}) (by exact{hq with cR:=hq.again}) h)
 ·have hb:¬r.1.next=0:=by simpa using hb
  simp only[if_neg hb]at hk;exact hk _ (bn (G:=G.mem r.2) (q:=q) (by exact{hq with}) h)
theorem att{p r:Addr}{c:Value→aq}(h:cy p r w λ_ w=>c (.tuple #[]) w):oC [.pointer (some p),.pointer (some r)] w c:=h
theorem atu{p r:Addr}{c:Value→aq}(h:cL p r w λ_ w=>c (.tuple #[]) w):pH [.pointer (some p),.pointer (some r)] w c:=h
def aey(G:Gl)(W:Wk)(t:Tk):Prop:=match W.again with
 | .aw y=>True
 | .sh k=>t.cI≠ []
 |_=>False
theorem atv{bZ:eb}{c:Value→aq}(hd:aey G W t)(e1:∀args w c,bZ (.func eJ) args w c=oC args.toList w c)(e2:∀args w c,bZ (.func fE) args w c=pH args.toList w c)
  (hq:q.Ok aa gw W) (h:wY w0 w l aa gw G W R sp st sw q) (hs:W.stack=x::s') (ht:G.ts[x]?=some t) (hc:G.M.can W.id l.told=true) (hsc:nR G.C t.lN=some nd) (hk:Fin w0 l aa gw R (λ_ w=>c (.tuple #[]) w) (again l G W t)):mT bZ q.yZ #[] w c:=by
 unfold again at hk;unfold aey at hd;have hv:=hq.again;revert hd hk hv;cases hag:W.again<;>intro hd hk hv<;>first|exact hd.elim|skip
 ·rename_i y;obtain⟨b,c',a',hb,hy,Ek,hv⟩:=hv;rw[hv];refine bX (d:=oC) e1 (att ?_);exact ayF hq h hb Ek hs ht hy hc hsc hk
 ·rename_i kk;obtain⟨b,c',u,hb,hu,Ek,hv⟩:=hv;rw[hv];refine bX (d:=pH) e2 (atu ?_);exact ayG hq h hb Ek hu hs ht hd hk
theorem aw3(h:qB w0 w l aa gw G W R)(hs:W.stack=x::s')(ht:G.ts[x]?=some t)(hd:aey G W t)(hc:G.M.can W.id l.told=true)(hsc:nR G.C t.lN=some nd)(hk:Fin w0 l aa gw R k (HI l G W t)):gU (some ⟨gw,0,none⟩) w k:=by
 obtain⟨sp,st,sw,q,hq,h⟩:=dN h;unfold gU Ai;unfold HI at hk;with_reducible repeat' (first|refine an ?_|refine dL h ?_|fail)
 refine aeb (x:=W.wait) h λw h=> ?_;with_reducible repeat' (first|refine an ?_|refine td h ?_|fail)
 exact atv (W:={W with wait:=⟨0,W.wait.seen⟩}) hd (λ_ _ _=>rfl) (λ_ _ _=>rfl) (by exact{hq with}) h hs ht hc hsc hk
end
open Fr (Ay m8 dO eC c9 iv jb nF oH qp j1 qb pK pL pJ)
section
variable {w0 w:World} {L R:List HP} {l:Lc} {P:List ea} {aa:List Nat} {G:Gl} {gw b c d x y a a':Nat} {W:Wk} {k:Unit→aq} {sp st sw so sc:Sl} {q:Wq} {f:HP→List HP} {t t' tt:Tk} {s':List Nat} {vs:List Value} {i:List Int} {nd:Nd} {p:Pl}
theorem adz{p:Option Addr}{c:Value→aq}(h:bB p w λ_ w=>c (.tuple #[]) w):AK [.pointer p] w c:=h
theorem aw4{p r s:Addr}{c:Value→aq}(h:fx p r s w λ_ w=>c (.tuple #[]) w):CE [.pointer (some p),.pointer (some r),.pointer (some s)] w c:=h
theorem aw5{p r s:Addr}{c:Value→aq}(h:fA p r s w λ_ w=>c (.tuple #[]) w):CG [.pointer (some p),.pointer (some r),.pointer (some s)] w c:=h
theorem akT{p:Addr}{c:Value→aq}(h:fy p w λ_ w=>c (.tuple #[]) w):CF [.pointer (some p)] w c:=h
theorem akU{p:Addr}{c:Value→aq}(h:fB p w λ_ w=>c (.tuple #[]) w):CH [.pointer (some p)] w c:=h
theorem aiu{p:Addr}{c:Value→aq}(h:eS p w λ_ w=>c (.tuple #[]) w):BD [.pointer (some p)] w c:=h
def amU(G:Gl)(W:Wk)(t:Tk):Prop:=match W.o8 with
 | .m .cancelled=>True
 | .Vo y _=>y<G.ts.length
 | .Bp _ _=>True
 | .c .HZ=>True
 | .c .BS=>True
 | .c .qq=>t.cI≠ []∧Dr G t.j3.1
 |_=>False
theorem atw(h:qB w0 w l aa gw G W R)(hT:TZ w0)(hs:W.stack=x::s')(ht:G.ts[x]?=some t)(hsp:l.sp.OK)(hM:G.M.OK)(hw:0≤W.id∧W.id≤16)
  (h1:W.blocked=true→(W.step.getD (jz.CT 0 2)).Gs l.sp G.M W.id)
  (h2:W.blocked=false→W.bK=true→∃y tt,W.target=some y∧G.ts[y]?=some tt∧G.M.can W.id (tt.jt+2)=true)
  (h3:W.blocked=false→W.bK=false→amU G W t) (hk:Fin w0 l aa gw R k (stops l G W x t G.vp G.Vv)):fT (some ⟨gw,0,none⟩) w k:=by
 obtain⟨id,dq,wait,stack,back,cR,op,after,look,seen,step,left,late,fits,got,none_,jc,home,target,kind,bK,blocked,again,CO,mark,dy,own,said,bits,pM⟩:=W;obtain⟨sp,st,sw,q,hq,h⟩:=dN h;have hl:=xl h;unfold fT yF;unfold stops at hk;dsimp only at h1 h2 h3 hw hs hk;with_reducible repeat' (first|refine an ?_|refine FU h ?_|fail)
 cases blocked
 ·refine bp rfl ?_;rw[if_neg gD]at hk;with_reducible repeat' (first|refine an ?_|refine FU h ?_|fail)
  cases bK
  ·refine bp rfl ?_;rw[if_neg gD]at hk;with_reducible repeat' (first|refine an ?_|refine td h ?_|fail)
   replace h3:=h3 rfl rfl;unfold amU at h3;unfold o8 at hk;have hv:=hq.o8;clear h1 h2;cases CO with
   |m f=>
    have hfc:f= .cancelled:=by cases f<;>first|rfl|exact h3.elim
    subst hfc;obtain hv:q.L7=mt gw .cancelled:=hv;rw[hv];refine bX (d:=AK) (λ_ _ _=>rfl) (adz ?_);exact N4 (bn hq h) hs ht hk
   |Vo y kk=>
    obtain⟨b,c',d',a',u,hb,hy,Ek,hu,ol,hv⟩:=hv;rw[hv];refine bX (d:=CE) (λ_ _ _=>rfl) (aw4 ?_);have h3:y<G.ts.length:=h3;have Ma:G.ts[y]?=some (G.ts[y]'h3):=kq h3;refine aAk (kk:=kk) (tt:=G.ts[y]'h3) hq h hb hy Ek hu ol Ma ?_;have e:G.vp y=(G.ts[y]'h3).id:=by unfold Gl.vp;rw[Ma]
    rw[←e];exact hk
   |Bp y kk=>
    obtain⟨b,c',d',u,hb,Ek,hu,ol,hv⟩:=hv;rw[hv];refine bX (d:=CG) (λ_ _ _=>rfl) (aw5 ?_);exact aAl (kk:=kk) hq h hb Ek hu ol hk
   |c f=>
    obtain⟨b,hb,hv⟩:=hv;rw[hv];cases f<;>first|exact h3.elim|skip
    ·refine bX (d:=CF) (λ_ _ _=>rfl) (akT ?_);exact aou hq h hb hk
    ·refine bX (d:=CH) (λ_ _ _=>rfl) (akU ?_);exact aot hq h hb hk
    ·refine bX (d:=BD) (λ_ _ _=>rfl) (aiu ?_);exact akP (o:=[]) (m:=(0,0)) hq h hb hs ht h3.1 h3.2 hk
   |no=>exact h3.elim
   |any=>exact h3.elim
   |nx i=>exact h3.elim
   |aw y=>exact h3.elim
   |sh kk=>exact h3.elim
   |hl m z=>exact h3.elim
  ·refine bH rfl ?_;rw[if_pos rfl]at hk;obtain⟨y,tt,Vu,Ma,hc⟩:=h2 rfl rfl;obtain⟨a',hy,hpt⟩:=YF hq Vu;with_reducible repeat' (first|refine an ?_|refine aK h λw h=> ?_|refine dL h ?_|fail)
   rw[hpt];have h:=h.fr 9;obtain⟨so,sc,h⟩:=sI h hy Ma;with_reducible repeat' (first|refine an ?_|refine dL h ?_|refine dX h ?_|refine pi h ?_|fail)
   refine anQ (M:=G.M) h hM hw hc λw h=> ?_;have h:=pQ hl hy Ma h;have h:=h.bk 9;with_reducible repeat' (first|refine an ?_|refine eL h λw h=> ?_|refine kr h ?_|refine qx ?_|refine lJ ?_|fail)
   have e:G.Vv (target.getD 0)=tt.jt:=by
    have Vu:target=some y:=Vu;unfold Gl.Vv;rw[Vu,Option.getD_some,Ma]
   rw[e]at hk;exact hk _ (bn (G:=G.mem (G.M.ad id (tt.jt+2) (bit id (-1)))) (q:=q) (by exact{hq with}) h)
 ·refine bH rfl ?_;rw[if_pos rfl]at hk;replace h1:=h1 rfl;with_reducible repeat' (first|refine an ?_|refine dL h ?_|fail)
  refine bU (fun(_:Unit) w=> ∃gp,wY w0 w l aa gw G ⟨id,dq,wait,stack,back,cR,op,after,look,seen,some (step.getD (jz.CT 0 2)),left,late,fits,got,none_,jc,home,target,kind,bK,true,again,CO,mark,dy,own,said,bits,pM⟩ R sp st sw {q with gp:=gp}) (λJ hJ=> ?_) ?_
  ·cases step with
   |none=>
    refine bH rfl ?_;with_reducible repeat' (first|refine an ?_|refine dL h ?_|refine pi h ?_|fail)
    refine an2 (s:=l.sp) h λgp w h=> ?_;have h:=AF (K:=mN (λo:jz=>ax q.gp (o.cells l.sp q.gp))) h;with_reducible repeat' (first|refine an ?_|refine eL h λw h=> ?_|fail)
    exact hJ _ _ ⟨gp,h⟩
   |some o=>
    refine bp rfl ?_;exact hJ _ _ ⟨q.gp,h⟩
  clear h;rintro _ w ⟨gp,h⟩;generalize step.getD (jz.CT 0 2)=o at h1 hk h;dsimp only[wY,mN]at h;with_reducible repeat' (first|refine an ?_|refine aK h λw h=> ?_|refine dL h ?_|refine dX h ?_|fail)
  have h:=h.fr 1;have h:=h.fr 17;refine Yp (s:=l.sp) (M:=G.M) (o:=o) h hT hsp hM h1 λw h=> ?_;have h:=h.bk 17;have h:=h.bk 1;generalize o.go l.sp G.M id=r at h hk ⊢;with_reducible repeat' (first|refine an ?_|refine dL h ?_|refine lJ ?_|fail)
  refine aF (λhb=> ?_) λhb=> ?_
  ·have hb:r.1.next=0:=by simpa using hb
   simp only[if_pos hb]at hk;with_reducible repeat' (first|refine an ?_|refine eL h λw h=> ?_|fail)
   have h:=AF (K:=ax gp) (X:=mN (λo:jz=>ax gp (o.cells l.sp gp)) none) (St.shut (A:=[]) h);exact hk _ (bn (G:=G.mem r.2) (q:={q with gp:=gp}) (by exact{hq with}) h)
  ·have hb:¬r.1.next=0:=by simpa using hb
   simp only[if_neg hb]at hk;exact hk _ (bn (G:=G.mem r.2) (q:={q with gp:=gp}) (by exact{hq with}) h)
end
section
variable {w0 w:World} {L R:List HP} {l:Lc} {P:List ea} {aa:List Nat} {G:Gl} {gw b c d x y a a':Nat} {W:Wk} {k:Unit→aq} {sp st sw so sc:Sl} {q:Wq} {f:HP→List HP} {t t' tt:Tk} {s':List Nat} {vs:List Value} {i:List Int} {nd:Nd} {p:Pl}
def Gy(i:List Int):Int:=if i.getD 0 0=10 then i.getD 3 0 else i.getD 2 0
theorem aw6(hF:j2 w0 l.ps P)(hI:In P t.f i)(h:qB w0 w l aa gw G W R)(hs:W.stack=x::s')(ht:G.ts[x]?=some t)(hh:0≤Gy i∧Gy i<8)(hy:t.f.getD (10+(Gy i).toNat) 0=(y:Nat))(Ma:G.ts[y]?=some tt)(hc:G.M.can W.id l.told=true)(hsc:nR G.C t.lN=some nd)
  (hk:Fin w0 l aa gw R k (join l P G W t)):gP (some ⟨gw,0,none⟩) w k:=by
 obtain⟨sp,st,sw,q,hq,h⟩:=dN h;obtain⟨a,vs,ha,hst,_⟩:=mO hq hs;obtain⟨hp,so,sc,h⟩:=nH h ha ht;obtain⟨a',ha'⟩:=YD hp.len Ma;unfold gP zZ;unfold join at hk;rw[hI.ins]at hk;have e1:(if i.getD 0 0=10 then i.getD 3 0 else i.getD 2 0)=Gy i:=rfl
 dsimp only at hk;rw[e1,hy,kY]at hk;refine I7 hF hI h hst λw h=> ?_;obtain⟨i0,i1,i2,i3,i4,rfl⟩:=I6 hI.Gu;with_reducible repeat' (first|refine dX h ?_|refine qX h λw h=> ?_|refine av h λgx w h=> ?_|fail)
 obtain⟨gc,lI⟩:∃n,n=gx:=⟨_,rfl⟩;subst lI;refine aF (λhb=> ?_) λhb=> ?_
 ·have hb:i0=10:=by simpa using hb
  have e2:Gy [i0,i1,i2,i3,i4]=i3:=if_pos hb;rw[e2]at hh hy;with_reducible repeat' (first|refine an ?_|refine aK h λw h=> ?_|refine dL h ?_|refine dX h ?_|refine mJ h ?_|fail)
  refine kX h hst vw λw h=> ?_;with_reducible repeat' (first|refine an ?_|refine kr h ?_|fail)
  refine ayE h hh.1 hh.2 ?_;rw[hy];refine vP (s:=st) (vs:=aa.map pt) h ah (acs ha') ?_;have h:=h.rm 0 rfl;exact YE (bn hq (oF hp h)) hs ht ha' hc hsc hk
 ·have hb:¬i0=10:=by simpa using hb
  have e2:Gy [i0,i1,i2,i3,i4]=i2:=if_neg hb;rw[e2]at hh hy;with_reducible repeat' (first|refine an ?_|refine aK h λw h=> ?_|refine dL h ?_|refine mJ h ?_|fail)
  refine kX h hst vw λw h=> ?_;with_reducible repeat' (first|refine an ?_|refine kr h ?_|fail)
  refine ayE h hh.1 hh.2 ?_;rw[hy];refine vP (s:=st) (vs:=aa.map pt) h ah (acs ha') ?_;have h:=h.rm 0 rfl;exact YE (bn hq (oF hp h)) hs ht ha' hc hsc hk
theorem aez{kind v:Int}{k:Array Value×Int×Bool→aq}(h:St w0 w L)(hf:t.f.length=19)(h5:i.length=5)(hk:∀w',St w0 w' L→k (eV (c9 t.f i kind v).1,(c9 t.f i kind v).2.1,(c9 t.f i kind v).2.2) w'):g9 (frV t.f).toArray (eV i) kind v w k:=by
 rw[NV hf];exact Fr.an7 hf h5 λw' he=>hk w' (h.on he)
theorem aoC(hF:j2 w0 l.ps P)(hI:In P t.f i)(h:qB w0 w l aa gw G W R)(he:G.err=0)(hs:W.stack=x::s')(ht:G.ts[x]?=some t)(hM:G.M.OK)(Vu:W.target=some y)(Ma:G.ts[y]?=some tt)(hc:G.M.can W.id (tt.jt+1)=true)
  (hk:Fin w0 l aa gw R k (joined l P G W x t tt)):fh (some ⟨gw,0,none⟩) w k:=by
 obtain⟨sp,st,sw,q,hq,h⟩:=dN h;obtain⟨a,vs,ha,hst,_⟩:=mO hq hs;obtain⟨a',hy,hpt⟩:=YF hq Vu;obtain⟨hp,so,sc,h⟩:=nH h ha ht;unfold fh wJ;unfold joined at hk;rw[hI.ins]at hk;dsimp only at hk;have hf:=hI.len;refine Gx h he (λhb w h=> ?_) λhb w h=> ?_
 ·rw[if_pos hb]at hk;with_reducible repeat' (first|refine qx ?_|fail)
  exact hk _ (bn (G:=G.fail 22) hq (oF (G:=G.fail 22) ⟨hp.len,hp.a,hp.t⟩ h))
 rw[if_neg hb]at hk;with_reducible repeat' (first|refine ij ?_|fail)
 refine kX h hst vw λw h=> ?_;refine I7 hF hI h hst λw h=> ?_;have h5:=hI.Gu;obtain⟨i0,i1,i2,i3,i4,rfl⟩:=I6 h5;with_reducible repeat' (first|refine an ?_|refine dX h ?_|refine qX h λw h=> ?_|refine av h λgx w h=> ?_|fail)
 obtain⟨gc,lI⟩:∃n,n=gx:=⟨_,rfl⟩;subst lI;refine bU (fun(v:Int) w=> ∃so sc,v=(if W.kind=4 then 0 else G.M.get (tt.jt+1))∧St w0 w (ax gc (ints [i0,i1,i2,i3,i4])::TL l aa gw (if W.kind=4 then G else G.tick W.id) W R sp st sw q x a t so sc)) (λJ hJ=> ?_) ?_
 ·refine aF (λhb=> ?_) λhb=> ?_
  ·have hb:¬W.kind=4:=by simpa using hb
   rw[if_neg hb,if_neg hb]at hJ;with_reducible repeat' (first|refine an ?_|refine aK h λw h=> ?_|refine dL h ?_|fail)
   rw[hpt];have h:=h.fr 0;have h2:=St.back 22 h;simp only[aAd,aAe]at h2;have h:=oF (R:=ax gc (ints [i0,i1,i2,i3,i4])::R) hp h2;clear h2;dsimp only[wY]at h;have h:=h.fr 9;obtain⟨so',sc',h⟩:=sI h hy Ma;with_reducible repeat' (first|refine an ?_|refine dL h ?_|refine dX h ?_|refine pi h ?_|fail)
   refine anO (M:=G.M) h hM hc λw h=> ?_;have h:=pQ hp.len hy Ma h;have h:=h.bk 9;obtain⟨_,so2,sc2,h⟩:=nH (G:=G.tick W.id) (R:=ax gc (ints [i0,i1,i2,i3,i4])::R) h ha ht;with_reducible repeat' (first|refine an ?_|refine dL h ?_|refine ij ?_|refine lJ ?_|fail)
   have h:=h.fr 22;exact hJ _ _ ⟨so2,sc2,rfl,h⟩
  ·have hb:W.kind=4:=by simpa using hb
   rw[if_pos hb,if_pos hb]at hJ;exact hJ _ _ ⟨so,sc,rfl,h⟩
 clear h;have Bp:Tp aa (if W.kind=4 then G else G.tick W.id) x a t:=by split<;>exact⟨hp.len,hp.a,hp.t⟩
 rintro v w ⟨so,sc,hv,h⟩;rw[←hv]at hk;clear hv;generalize (if W.kind=4 then G else G.tick W.id)=G1 at hk h Bp
 generalize hi:[i0,i1,i2,i3,i4]=i at hk h h5;have hjl:(c9 t.f i W.kind v).1.length=19:=by rw[pL,hf]
 refine bU (fun(x2:Addr×(Int×Bool)) w=> ∃g2,x2=(⟨g2,0,none⟩,(c9 t.f i W.kind v).2.1,(c9 t.f i W.kind v).2.2)∧St w0 w (ax g2 (ints (c9 t.f i W.kind v).1)::ax gc (ints i)::TL l aa gw G1 W R sp st sw q x a t so sc)) (λJ hJ=> ?_) ?_
 ·subst hi;with_reducible repeat' (first|refine an ?_|refine aK h λw h=> ?_|refine dX h ?_|refine pi h ?_|refine pn h ?_|refine av h λgx w h=> ?_|refine kr h ?_|refine po h ?_|refine lu ?_ ?_|fail)
  ·refine aez (t:=t) (i:=[i0,i1,i2,i3,i4]) h hf h5 λw h=> ?_;with_reducible repeat' (first|refine av h λgx w h=> ?_|refine kr h ?_|refine po h ?_|fail)
   refine aex h rfl hjl λw h=> ?_;exact hJ _ _ ⟨_,rfl,h⟩
  ·refine aez (t:=t) (i:=[i0,i1,i2,i3,i4]) h hf h5 λw h=> ?_;refine aex h rfl hjl λw h=> ?_;exact hJ _ _ ⟨_,rfl,h⟩
 clear h;rintro _ w ⟨g2,rfl,h⟩;dsimp only;refine amO h hjl ?_;with_reducible repeat' (first|refine an ?_|fail)
 refine An h hjl λw h=> ?_;have h:=(h.rm 0 rfl).rm 0 rfl;simp only[Iy]at h;unfold aG;with_reducible repeat' (first|refine an ?_|refine dL h ?_|refine dX h ?_|refine eL h λw h=> ?_|fail)
 have h:qB w0 w l aa gw (G1.lK.set x {t with f:=(c9 t.f i W.kind v).1}) (W.go .next) R:=bn (q:={q with pe:=mt gw .next}) (by exact{hq with cR:=rfl}) (vo (t':={t with f:=(c9 t.f i W.kind v).1}) (G:=G1.lK) (W:=W.go .next) ⟨Bp.len,Bp.a,Bp.t⟩ h)
 refine aF (λhb=> ?_) λhb=> ?_
 ·have hb:(c9 t.f i W.kind v).2.2=true:=hb;rw[if_pos hb]at hk;refine aal h hs (t:={t with f:=(c9 t.f i W.kind v).1}) (uw (kO.1 Bp.t).1) ?_;unfold ends;rw[ati];exact hk
 ·have hb:(c9 t.f i W.kind v).2.2=false:=hb;rw[if_neg (by rw[hb];simp)]at hk
  exact hk _ h
end
end Go.Proofs.YthidhjhkmjjckaaGreatDoor
