/-
  Parts of the proof of LOnce: printed by a program out of longer texts.
-/
import Derived.Test.YthidhjhkmjjckaaGreatDoorPOnce3
set_option linter.unusedSimpArgs false
set_option linter.unusedVariables false
set_option maxRecDepth 100000
set_option linter.defProp false
open Go.Value renaming pointer->IB,tuple->J3,slice->IC,bool->Iq
open Go.IntKind renaming i64->B_
open Or renaming inl->D_,inr->E_
open Go.Fn renaming func->F_
open Option renaming some->G_,none->H_,getD_some->jB
open Bool renaming true->J_,false->K_,or_eq_true->ed
open Decidable renaming decide->L_
open Go renaming Value->M_,World->N_,Addr->P_
open BitVec renaming toNat_and->Jd
open ByteArray renaming mk->Oq
open Go.Ev renaming ints->ee
open Int renaming toNat_of_nonneg->ef
open List renaming cons_append->S',dropLast_concat_getLast->ei,drop_succ_cons->ep,eq_nil_of_length_eq_zero->o_,filter_cons_of_neg->ew,filter_eq_nil_iff->Us,filter_eq_self->fu,getElem?_cons_succ->gg,getElem?_set->gi,getElem?_take_of_lt->u_,getElem_of_mem->w_,length_cons->x_,length_map->U',length_reverse->gz,map_cons->z_,mem_append_left->hG,mem_cons->BP,mem_filter->C5,mem_map->C6,mem_singleton->hM,nodup_cons->VN,pairwise_cons->VO,perm_append_comm->hN,range->CX,reverse_cons->hU
open Nat renaming mul_le_mul_right->F3,zero_add->FM
open List renaming getElem?_eq_some_iff->kB,getElem?_eq_getElem->iH,getD_eq_getElem?_getD->m0,getElem?_append_left->tJ,getElem?_append_right->u0,getElem?_set_ne->r0,getElem?_set_self->uO,mem_of_getElem?->qn,getElem?_map->l8,eraseIdx->I7,insertIdx_succ_cons->aBT,insertIdx_zero->aBU,replicate->dU,mem_append->zw,length_append->uv,all_eq_true->tL
open Go.Sem renaming run_pure->cP,run_bind->cR
open Go.Result renaming andThen_ok->cK
open Bool renaming or_eq_false_iff->kf,and_eq_true->iY
open Option renaming isNone->eA
open Go.IntKind renaming wrap->aF
open Int renaming toNat_natCast->iZ
open Array renaming setIfInBounds->eS,getElem?_eq_some_iff->Bf
open Nat renaming le_refl->iw
open Go.Addr renaming add->aY
namespace Go.Ev
open Go Go.RowKit
def isStr(P:Program)(t:TypeId):Bool:=match P.underlying t with|some (.struct _)=>J_|_=>K_
variable{P:Program}{t:TypeId}
theorem als(h:isStr P t=J_):∃fs,P.underlying t=G_ (.struct fs):=by
 unfold isStr at h;grind
def alu{c:KT []->Prop}(h:c ()):Is [] (J3 #[]) c:=h
variable{x:Array M_}
def ax6{b:Bool}{c:KT [.ag,.b]->Prop}(h:c (x,b)):Is [.ag,.b] (J3 #[.agg x,Iq b]) c:=h
variable{w:N_}
variable{z3:TypeId}{zd:M_}
def aBB{c:M_->ap}(a:isStr P t=J_)(b:c (J3 #[zd,Iq J_]) w):tyA P (.iface t zd) z3 t J_ w c:=by
 unfold tyA;obtain⟨fs,a⟩:=als a;have d:(Instr.typeAssert (.iface t zd) z3 t J_).run P w= .ok (J3 #[zd,Iq J_]) w:=by
  simp[Instr.typeAssert,run_underlying a]
 rw[d];exact b
variable{L:List HP}{f:HP->List HP}{i:Int}{s:Sl}{sz:Nat}{vs:List M_}{w0:N_}
theorem auf{c:ap}(h:St w0 w L)[a:At L (bG sz s) vs f](o:0<sz)(p:0<=i)(q:i<s.n)(j:x.size=sz)(d:∀v∈x,v.oneCell'=J_)
  (r:∀w',St w0 w' (f (bG sz s (vs.take (i.toNat*sz)++(x.toList++vs.drop (i.toNat*sz+sz)))))->c w'):cN s i sz λa=>dQ sz w a x c:=by
 have e:qo sz w s vs:=h.own;have hi:i.toNat<s.n:=af;have t:i.toNat*sz+sz<=s.n*sz:=by
  rw[<-Nat.succ_mul];exact F3 _ hi
 have y:s.n*sz<=s.c*sz:=F3 _ e.cap;have z:=e.len;rcases e.row with⟨h2,l⟩|⟨g,off,cs,h2,l,I,A⟩
 .have:=e.cap;omega
 .unfold cN;rw[h2];refine⟨⟨p,q⟩,?_⟩;rw[dg];refine agh l j af d λw' cs' B k2 C k4 D J=>r w' (h.M8 a λF m=>⟨D.mono λk _ b=>(m.1 k).2 (by simp[Sl.au,h2,b]),F,⟨m.1,?_⟩,λk b=>D_ b⟩)
  have G:x.toList.length=sz:=gq j
  refine⟨by simp only[uv,List.length_take,List.length_drop,G];omega,e.cap,e.max,λv hv=>?_,E_ ⟨g,off,cs',h2,B,af,λk u b=>?_⟩⟩
  .rcases zw.1 hv with hv|hv
   .exact e.one v (List.mem_of_mem_take hv)
   .rcases zw.1 hv with hv|hv
    .exact d v (gq hv)
    .exact e.one v (List.mem_of_mem_drop hv)
  .by_cases H:k<i.toNat*sz
   .rw[tJ (by simp;omega),u_ H]at b
    rw[C _ af];exact A k u b
   .rw[u0 (by simp;omega)]at b
    simp only[List.length_take]at b;rw[show k - min (i.toNat*sz) vs.length=k - i.toNat*sz by omega]at b
    grind
theorem aug{c:Array M_->Prop}(h:St w0 w L)[a:At L (bG sz s) vs f](b:0<sz)(k:0<=i)(l:i<s.n)
  (m:c ((vs.drop (i.toNat*sz)).take sz).toArray):cN s i sz λa=>bx sz w a c:=by
 refine KX h b k l λg o _ p _=>?_;have d:=h.Gs (sz:=sz) (s:=s);have q:i.toNat*sz+sz<=s.n*sz:=by
  rw[<-Nat.succ_mul];exact F3 _ af
 have r:((vs.drop (i.toNat*sz)).take sz).length=sz:=by simp;omega
 refine Ho r (λj v hv=>?_) m;have e:j<sz:=by grind
 rw[u_ e,List.getElem?_drop]at hv;rw[dg];exact p h j v e hv
def aBC(h:S0 P t=G_ (1,8,G_ (I_ 0))):ET P t 1 8 (I_ 0):=⟨h,rfl⟩
def At.aEj{α:Type}{k:α->HP}{x:α}(a:At L k x f):∃R,(∀{w0 w},St w0 w L->St w0 w (k x::R))/\(∀{X w0 w},St w0 w (X::R)->St w0 w (f X))/\∀{X Y w0 w},St w0 w (X::Y::R)->St w0 w (Y::f X):=by
 obtain⟨R,d,h2⟩:=a.split;refine⟨R,fun⟨a,F,b,c⟩=>⟨a,F,d b,c⟩,fun⟨a,F,b,c⟩=>⟨a,F,h2 b,c⟩,λh=>?_⟩;obtain⟨e,F,⟨g,i,j,k2,l,k4⟩,c⟩:=h.swap;exact⟨e,F,⟨g,i,j,h2 k2,l,k4⟩,c⟩
def ahe(P:Program)(t:TypeId)(name:String):Option (Bool×Option (FuncId×Bool)):=match P.info? t with
 |some i=>match i.methods.find? λm=>m.name==name with
  |some m=>G_ (m.path.isEmpty,m.func)
  |none=>H_
 |none=>H_
theorem ac1{name:String}{r:Option (FuncId×Bool)}(h:ahe P t name=G_ (J_,r)):∃i m,P.info? t=G_ i/\(i.methods.find? λm=>m.name==name)=G_ m/\m.path=#[]/\m.func=r:=by
 unfold ahe at h;grind
end Go.Ev
namespace Go.Proofs.YthidhjhkmjjckaaGreatDoor.Ko
open Go Go.Ev Go.Proofs
def fl:DL->List M_
 |[]=>[]
 |x::d=> I_ x.1:: I_ x.2::fl d
def anF:∀d:DL,(fl d).length=d.length*2
 |[]=>rfl
 |x::d=>by simp[fl,anF d];omega
def anG:∀(d e:DL),fl (d++e)=fl d++fl e
 |[],e=>rfl
 |x::d,e=>by simp[fl,anG d e]
def ai6:∀(d:DL) (m:Nat),(fl d).take (m*2)=fl (d.take m)
 |[],m=>by simp[fl]
 |x::d,0=>by simp[fl]
 |x::d,m+1=>by
  rw[show(m+1)*2=m*2+1+1 by omega]
  simp[fl,ai6 d m]
variable{d:DL}
variable{zh:Int×Int}
def ac2{k:Nat}:gd (zh::d) (k+1)=gd d k:=by simp[gd]
def ai7:∀{d:DL} {i:Nat},i<d.length->(fl d)[i*2+0]?=G_ (I_ (gd d i).1)
 |x::d,0,_=>rfl
 |x::d,i+1,h=>by
  rw[show(i+1)*2+0=(i*2+0)+1+1 by omega,ac2]
  simp only[fl,gg];exact ai7 (gq h)
def ai8:∀{d:DL} {i:Nat},i<d.length->(fl d)[i*2+1]?=G_ (I_ (gd d i).2)
 |x::d,0,_=>rfl
 |x::d,i+1,h=>by
  rw[show(i+1)*2+1=(i*2+1)+1+1 by omega,ac2]
  simp only[fl,gg];exact ai8 (gq h)
def ai9:∀{d:DL} {i:Nat},i<d.length->((fl d).drop (i*2)).take 2=[I_ (gd d i).1,I_ (gd d i).2]
 |x::d,0,_=>rfl
 |x::d,i+1,h=>by
  rw[show(i+1)*2=i*2+1+1 by omega,ac2]
  simp only[fl,ep];exact ai9 (gq h)
def anH{x:Int×Int}:∀{d:DL} {i:Nat},i<d.length->(fl d).take (i*2)++([I_ x.1,I_ x.2] ++(fl d).drop (i*2+2))=fl (d.set i x)
 |y::d,0,_=>by simp[fl]
 |y::d,i+1,h=>by
  rw[show(i+1)*2=i*2+1+1 by omega,show i*2+1+1+2=(i*2+2)+1+1 by omega]
  simp only[fl,List.take_succ_cons,ep,S',List.set_cons_succ];rw[<-anH (gq h)]
  rfl
variable{L:List HP}{f:HP->List HP}{s:Sl}{w w0:N_}
def St.XZ(h:St w0 w L)[a:At L (bG 2 s) (fl d) f]:s.n=d.length:=by
 have:=h.Gs (sz:=2) (s:=s);rw[anF]at this;omega
variable{c:Int->Prop}{i:Int}
def X0(h:St w0 w L)[a:At L (bG 2 s) (fl d) f](b:0<=i)(k:i<d.length)(e:c (gd d i.toNat).1):cN s i 2 λa=>aJ B_ w (aY a 0) c:=by
 have l:=St.XZ (s:=s) h;refine KX h af b af λg o _ j _=>uZ (j h 0 _ af (ai7 af)) e
def ahf(h:St w0 w L)[a:At L (bG 2 s) (fl d) f](b:0<=i)(k:i<d.length)(e:c (gd d i.toNat).2):cN s i 2 λa=>aJ B_ w (aY a 1) c:=by
 have l:=St.XZ (s:=s) h;refine KX h af b af λg o _ j _=>?_;rw[dg];exact uZ (j h 1 _ af (ai8 af)) e
def abc{c:Array M_->Prop}(h:St w0 w L)[a:At L (bG 2 s) (fl d) f](b:0<=i)(g:i<d.length)(e:c #[I_ (gd d i.toNat).1,I_ (gd d i.toNat).2]):cN s i 2 λa=>bx 2 w a c:=by
 have j:=St.XZ (s:=s) h;refine aug h af b af ?_;rw[ai9 af];exact e
variable{zn:Int}
def anI{y:Int}{c:ap}(h:St w0 w L)[a:At L (bG 2 s) (fl d) f](b:0<=i)(g:i<d.length)(e:∀w',St w0 w' (f (bG 2 s (fl (d.set i.toNat (zn,y)))))->c w'):cN s i 2 λa=>dQ 2 w a #[I_ zn,I_ y] c:=by
 have j:=St.XZ (s:=s) h;refine auf h af b af rfl (by intro v hv;simp at hv;rcases hv with rfl|rfl<;>rfl) λw' h'=>e w' ?_
 rw[<-anH af];exact h'
variable{j:Int}
theorem ax7{c:Bool->ap}(h:St w0 w L)[a:At L (bG 2 s) (fl d) f](hi:0<=i/\i<d.length)(b:0<=j/\j<d.length)(k:∀w',St w0 w' L->c (L_ (rT (gd d i.toNat) (gd d j.toNat))) w'):dW s i j w c:=by
 unfold dW;refine cH h λw1 h=>X0 h hi.1 hi.2<|X0 h b.1 b.2<|ax (λhb=>?_) λhb=>?_
 .have hb:=of_decide_eq_true hb;have e:rT (gd d i.toNat) (gd d j.toNat):=D_ hb;grind
 .have hb:=of_decide_eq_false hb;refine X0 h hi.1 hi.2<|X0 h b.1 b.2<|ax (λg=>?_) λg=>?_
  .have g:(gd d i.toNat).1=(gd d j.toNat).1:=by simpa using g
   refine ahf h hi.1 hi.2<|ahf h b.1 b.2 ?_;have:=k w1 h;have e:L_ (rT (gd d i.toNat) (gd d j.toNat))=L_ ((gd d i.toNat).2<(gd d j.toNat).2):=by
    rw[decide_eq_decide];unfold rT;omega
   rwa[e]at this
  .have g:(gd d i.toNat).1≠(gd d j.toNat).1:=by simpa using g
   have:=k w1 h;have e:¬rT (gd d i.toNat) (gd d j.toNat):=by unfold rT;omega
   rwa[decide_eq_false e]at this
variable{R:List HP}
variable{zp:HP}
def ax8{c:Unit->ap}(h:St w0 w (zp::bG 2 s (fl d)::R))(hi:0<=i/\i<d.length)(a:0<=j/\j<d.length)(b:∀w',St w0 w' (zp::bG 2 s (fl (Lz d i.toNat j.toNat))::R)->c () w'):bF s i j w c:=by
 unfold bF;refine cH h λw1 h=>abc h a.1 a.2<|abc h hi.1 hi.2<|anI h hi.1 hi.2 λf h=>anI h a.1 (gq a.2) λe h=>?_
 exact b e h
abbrev pv(g:Nat):Value:= .iface 261 (IB (G_ ⟨g,1,H_⟩))
abbrev uP(now:Int)(gm:Nat)(s:Sl):List Value:=[I_ now,S_ s,.map (G_ gm)]
def aja:Tryz.prog.types.size≠0:=λh=>by
 have e:Nat.beq Tryz.prog.types.size 0=false:=by kernel_rfl
 rw[h]at e;cases e
variable{args:Array M_}{bY:ey}{c:M_->ap}{f g:Nat}{name:String}{now:Int}
variable{zr:Nat}
def ac3(b:ahe Tryz.prog 261 name=G_ (J_,G_ (f,K_)))(h:St w0 w (au g (uP now zr s)::R))(d:bY (.func f) (#[S_ s] ++args) w c):pR bY Tryz.prog (pv g) name args w c:=by
 obtain⟨i,m,j,h2,k,l⟩:=ac1 b;have hcell:w.cell? ⟨g,1,H_⟩=G_ (S_ s):=by
  have hb:=h.au (g:=g);rw[hb.cell];rfl
 exact at7 (e:=209) (e2:=259) j h2 k l aZ aZ aZ aja hcell d
def ajb(a:ahe Tryz.prog 261 name=G_ (J_,G_ (f,J_)))(b:bY (.func f) (#[IB (G_ ⟨g,1,H_⟩)] ++args) w c):pR bY Tryz.prog (pv g) name args w c:=by
 obtain⟨i,m,d,h2,j,k⟩:=ac1 a;exact at6 (e:=209) d h2 j k aZ aja b
def alv(ho:∀args w c,bY (.func lj) args w c=XF args.toList w c)(h:St w0 w (au g (uP now zr s)::bG 2 s (fl d)::R))(hi:0<=i/\i<d.length)(hj:0<=j/\j<d.length)
  (hc:∀w',St w0 w' (au g (uP now zr s)::bG 2 s (fl d)::R)->c (Iq (L_ (rT (gd d i.toNat) (gd d j.toNat)))) w'):pR bY Tryz.prog (pv g) "Less" #[I_ i,I_ j] w c:=by
 refine ac3 (f:=lj) (by kernel_rfl) h ?_
 rw[ho,show(#[Value.slice s.a s.n s.c] ++ #[Value.int IntKind.i64 i,Value.int IntKind.i64 j]).toList=[S_ s,I_ i,I_ j] by simp]
 show dW s i j w (fun r w=>c (e9 (dL [.b] r)) w);exact ax7 h hi hj hc
def ahg(ho:∀args w c,bY (.func dH) args w c=XG args.toList w c)(h:St w0 w (au g (uP now zr s)::bG 2 s (fl d)::R))(hi:0<=i/\i<d.length)(hj:0<=j/\j<d.length)
  (hc:∀w',St w0 w' (au g (uP now zr s)::bG 2 s (fl (Lz d i.toNat j.toNat))::R)->c (J3 #[]) w'):pR bY Tryz.prog (pv g) "Swap" #[I_ i,I_ j] w c:=by
 refine ac3 (f:=dH) (by kernel_rfl) h ?_
 rw[ho,show(#[Value.slice s.a s.n s.c] ++ #[Value.int IntKind.i64 i,Value.int IntKind.i64 j]).toList=[S_ s,I_ i,I_ j] by simp]
 show bF s i j w (fun r w=>c (e9 (dL [] r)) w);exact ax8 h hi hj hc
def auh(ho:∀args w c,bY (.func fP) args w c=Y2 args.toList w c)(h:St w0 w (au g (uP now zr s)::bG 2 s (fl d)::R))
  (hc:c (I_ (d.length:Int)) w):pR bY Tryz.prog (pv g) "Len" #[] w c:=by
 refine ac3 (f:=fP) (by kernel_rfl) h ?_
 rw[ho];show c (I_ (s.n:Int)) w;rw[St.XZ h];exact hc
end Go.Proofs.YthidhjhkmjjckaaGreatDoor.Ko
namespace Go.Ev
open Go Go.RowKit
variable{zt:N_}{zr:Nat}
def apu{g:Nat}{l:List M_}{n:Nat}(hb:pN zt g l.toArray)(a:l.length=n*zr)(c:Nat):Hj zr zt ⟨A_ g,n,c⟩ l:=
 ⟨a,λi v hv=>⟨_,rfl,by rw[dg,hb.cell];simpa using hv⟩⟩
end Go.Ev
namespace Go.Proofs.YthidhjhkmjjckaaGreatDoor.Ko
open Go Go.Ev Go.Proofs
structure Rl (d d':DL) (n:Nat):Prop where
 perm:d'.Perm d
 same:∀k,n<=k->gd d' k=gd d k
def Rl.refl(d:DL)(n:Nat):Rl d d n:=⟨.refl _,λ_ _=>rfl⟩
variable{a b:DL}{n:Nat}
variable{y0:DL}
def Rl.trans(h:Rl a b n)(k:Rl b y0 n):Rl a y0 n:=⟨k.perm.trans h.perm,λi hi=>(k.same i hi).trans (h.same i hi)⟩
def Rl.len(h:Rl a b n):b.length=a.length:=h.perm.length_eq
def Rl.Lz{d:DL}{n i j:Nat}(hi:i<n)(a:j<n)(b:n<=d.length):Rl d (Lz d i j) n:=
 ⟨Zm af af,λk c=>by rw[S7 af af,HQ af,HQ af]⟩
theorem ax9(h:n<=2000000):Wf B_ (aF B_ ((n:Int) - 1)) 2=((rz n:Nat):Int):=by
 unfold Wf rz;rw[dh (x:=(n:Int) - 1) ⟨af,af⟩];by_cases a:n=0
 .subst a;rfl
 .have e:(((n:Int) - 1).tdiv 2)=(((n - 1) / 2:Nat):Int):=by
   grind
  rw[e,dh ⟨af,af⟩]
variable{zr:Nat}
def V1(a:1<=n)(h:rz n=zr):n=2*zr+1\/n=2*zr+2:=by unfold rz at h;omega
def aya(i:Nat):rz (2*i+1)=i:=by unfold rz;omega
def ayb(i:Nat):rz (2*i+2)=i:=by unfold rz;omega
variable{R:List HP}{d:DL}{g:Nat}{now:Int}{s:Sl}{w w0:N_}
theorem aAe{j:Nat}{c:Unit->ap}(h:St w0 w (au g (uP now zr s)::bG 2 s (fl d)::R))(t:HU d n j)(x:n<=d.length)(u:j<n)(y:d.length<=2000000)
  (v:∀d' w',Rl d d' n->HH d' n->St w0 w' (au g (uP now zr s)::bG 2 s (fl d')::R)->c () w'):cC (pv g) (j:Int) w c:=by
 unfold cC Av;refine ot (fun(i:Int) w'=> ∃(e:Nat) (d':DL),i=(e:Int)/\e<n/\Rl d d' n/\HU d' n e/\St w0 w' (au g (uP now zr s)::bG 2 s (fl d')::R)) (λi _=>i.toNat) ⟨j,d,rfl,u,.refl _ _,t,h⟩ ?_;rintro _ w1 ⟨i,d1,rfl,hi,hr,k,h1⟩ C hC;have l:=hr.len;rw[ax9 af];refine bP (λb w'=>b=L_ (i=0\/¬rT (gd d1 i) (gd d1 (rz i)))/\St w0 w' (au g (uP now zr s)::bG 2 s (fl d1)::R)) (λJ m=>?_) ?_
 .refine ax (λhb=>?_) λhb=>?_
  .have hb:((rz i:Nat):Int)=i:=by simpa using hb
   refine m _ _ ⟨(decide_eq_true (D_ ?_)).symm,h1⟩;unfold rz at hb;omega
  .have hb:((rz i:Nat):Int)≠i:=by simpa using hb
   have a:1<=i:=by unfold rz at hb;omega
   have o:=uk a;refine alv (λ_ _ _=>rfl) h1 ⟨af,af⟩ ⟨af,af⟩ λp h2=>?_;simp only[iZ];refine m _ _ ⟨?_,h2⟩;grind
 .rintro _ p ⟨rfl,h2⟩;refine ax (λhb=>?_) λhb=>?_
  .exact v d1 p hr (anC k (of_decide_eq_true hb)) h2
  .have hb:=of_decide_eq_false hb;have a:1<=i:=by
    grind
   have f:rT (gd d1 i) (gd d1 (rz i)):=Decidable.not_not.1 λq=>hb (E_ q);have o:=uk a;refine ahg (λ_ _ _=>rfl) h2 ⟨af,af⟩ ⟨af,af⟩ λz r=>?_;simp only[iZ]at r;exact hC _ _ ⟨rz i,_,rfl,af,hr.trans (.Lz af af af),aub k af a af f,r⟩ (gq o)
theorem anJ{i0:Nat}{c:Bool->ap}(h:St w0 w (au g (uP now zr s)::bG 2 s (fl d)::R))(F:HD d n i0 i0)(N:n<=d.length)(G:i0<=n)(O:d.length<=2000000)
  (P:∀b d' w',Rl d d' n->(b=J_->HH d' n)->(b=K_->HU d' n i0)->St w0 w' (au g (uP now zr s)::bG 2 s (fl d')::R)->c b w'):bU (pv g) (i0:Int) (n:Int) w c:=by
 unfold bU wT;refine ot (fun(i:Int) w'=> ∃(a:Nat) (d':DL),i=(a:Int)/\a<=n/\i0<=a/\Rl d d' n/\HD d' n i0 a/\St w0 w' (au g (uP now zr s)::bG 2 s (fl d')::R)) (λi _=>n - i.toNat) ⟨i0,d,rfl,G,iw _,.refl _ _,F,h⟩ ?_;rintro _ w1 ⟨i,d1,rfl,hi,H,hr,hD,h1⟩ C hC;have A:=hr.len;have I:aF B_ (aF B_ (2*(i:Int))+1)=((2*i+1:Nat):Int):=by
  rw[dh (x:=2*(i:Int)) ⟨af,af⟩,dh ⟨af,af⟩];omega
 have e2:aF B_ (((2*i+1:Nat):Int)+1)=((2*i+2:Nat):Int):=by
  rw[dh ⟨af,af⟩];omega
 rw[I,e2];have fin:∀m (K:DL),K=d1->(∀k,1<=k->k<n->rz k=i->¬rT (gd d1 k) (gd d1 i))->St w0 m (au g (uP now zr s)::bG 2 s (fl d1)::R)->c (L_ ((i:Int)>(i0:Int))) m:=by
  intro m _ _ L h2;have Q:=ax5 hD L;grind
 refine ax (λhb=>?_) λhb=>?_
 .have hb:((2*i+1:Nat):Int)>=n:=by
   grind
  refine fin w1 d1 rfl (λk f o j=>?_) h1;rcases V1 f j with q|q<;>omega
 .have hb:2*i+1<n:=by
   grind
  refine bP (λb w'=>b=L_ (2*i+2<n/\rT (gd d1 (2*i+2)) (gd d1 (2*i+1)))/\St w0 w' (au g (uP now zr s)::bG 2 s (fl d1)::R)) (λJ u=>?_) ?_
  .refine ax (λv=>?_) λv=>?_
   .have v:=of_decide_eq_true v;refine alv (λ_ _ _=>rfl) h1 ⟨af,af⟩ ⟨af,af⟩ λm h2=>?_;simp only[iZ];refine u _ _ ⟨?_,h2⟩;grind
   .grind
  .rintro b m ⟨p,h2⟩;refine bP (fun(x:Int) w'=>w'=m/\∃a:Nat,x=(a:Int)/\a<n/\1<=a/\rz a=i/\∀k,1<=k->k<n->rz k=i->¬rT (gd d1 k) (gd d1 a)) (λJ u=>?_) ?_
   .refine ax (λe=>?_) λe=>?_
    .rw[p]at e;have e:=of_decide_eq_true e;refine u _ _ ⟨rfl,2*i+2,rfl,e.1,af,ayb i,λk f o j=>?_⟩;rcases V1 f j with rfl|rfl
     .exact V0 e.2
     .exact acZ _
    .rw[p]at e;have e:=of_decide_eq_false e;refine u _ _ ⟨rfl,2*i+1,rfl,hb,af,aya i,λk f o j=>?_⟩;rcases V1 f j with rfl|rfl
     .exact acZ _
     .exact λq=>e ⟨o,q⟩
   .rintro _ _ ⟨rfl,a,rfl,y,r,t,hmin⟩;refine alv (λ_ _ _=>rfl) h2 ⟨af,af⟩ ⟨af,af⟩ λM B=>?_;simp only[iZ];show an (!decide (rT (gd d1 a) (gd d1 i))) _ _;refine ax (λl=>?_) λl=>?_
    .have l:¬rT (gd d1 a) (gd d1 i):=by simpa using l
     exact fin M d1 rfl (λk f o j=>Ox (hmin k f o j) l) B
    .have l:rT (gd d1 a) (gd d1 i):=by simpa using l
     have z:=uk r;rw[t]at z;refine ahg (λ_ _ _=>rfl) B ⟨af,af⟩ ⟨af,af⟩ λS D=>?_;simp only[iZ]at D;exact hC _ _ ⟨a,_,rfl,af,af,hr.trans (.Lz af af af),auc hD af H r y t hmin l,D⟩ (by simp only[iZ];omega)
def elD:ET Tryz.prog 209 2 16 (.agg #[I_ 0,I_ 0]):=⟨aZ,rfl⟩
variable{L:List HP}{f:HP->List HP}{x:Int×Int}
variable{y1:List M_}{y2:HP->List HP}
def aui{c:Sl->ap}(h:St w0 w L)[a:At L (bG 2 s) (fl d) f](i:d.length<=2000000)[a2:At L (au zr) y1 y2](b:y1=[I_ x.1,I_ x.2])(e:∀s' w',St w0 w' (f (bG 2 s' (fl (d++[x]))))->c s' w'):
  og Tryz.prog #[209,209] 209 [(S_ s),(IC (A_ zr) 1 1)] w c:=by
 have j:=St.XZ (s:=s) h;subst b;refine M9 (x:=⟨A_ zr,1,1⟩) h elD aZ (apu (h.au) rfl 1) (by simp[Value.oneCell']) (by simp only;omega) (by simp only;omega) λs2 g h k=>?_
 refine e s2 g ?_;rw[anG];exact h
def auj{c:Unit->ap}(h:St w0 w (au g (uP now n s)::bG 2 s (fl d)::R))(b:d.length<=2000000)
  (e:∀s' w',St w0 w' (au g (uP now n s')::bG 2 s' (fl (d++[x]))::R)->c () w'):j8 (G_ ⟨g,1,H_⟩) (.iface 259 (.agg #[I_ x.1,I_ x.2])) w c:=by
 unfold j8;refine aBB aZ (ax6 ?_);refine aM h λga i h=>m7 h rfl rfl (by intro v hv;simp at hv;rcases hv with rfl|rfl<;>rfl) λj h=>?_
 refine bK rfl<|cH h λk h=>bc<|ea h rfl<|je h rfl<|qL #[I_ x.1,I_ x.2] rfl rfl<|aM h λf l h=>BV (St.au (by assumption)) (h.au) ?_
 refine aui h b rfl λs' m h=>bc<|j4 h rfl bf λa h=>e s' a ?_;have h:St w0 a (au f _::au ga _::au g (uP now n s')::bG 2 s' (fl (d++[x]))::R):=h;exact h.drop.drop
def auk(b:n+1=d.length):d=d.take n++[gd d n]:=by
 have a:n<d.length:=af;have e:gd d n=d[n]:=by unfold gd;rw[m0,iH a];rfl
 rw[e,List.take_append_getElem a,List.take_of_length_le af]
variable{c:M_->ap}
def ayd(h:St w0 w (au g (uP now zr s)::bG 2 s (fl d)::R))(e:d.length<=2000000)(f:n+1=d.length)
  (hc:∀v s' w',St w0 w' (au g (uP now zr s')::bG 2 s' (fl (d.take n))::R)->c v w'):dJ (G_ ⟨g,1,H_⟩) w c:=by
 have i:=St.XZ (s:=s) h;have a:aF B_ (((s.n:Nat):Int) - 1)=((n:Nat):Int):=by
  rw[dh ⟨af,af⟩];omega
 unfold dJ;refine bc (ea h rfl ?_);refine bc (ea h rfl ?_);dsimp only;rw[a];refine abc h af af<|aM h λga j h=>m7 h rfl rfl (by intro v hv;simp at hv;rcases hv with rfl|rfl<;>rfl) λk h=>?_
 refine bc (ea h rfl ?_);refine akJ (s:=s) h af af af λs' n' h=>bc<|j4 h rfl bf λb h=>je h rfl<|hc _ s' b ?_;have e2:((fl d).drop ((0:Int).toNat*2)).take ((((n:Nat):Int).toNat - (0:Int).toNat)*2)=fl (d.take n):=by
  simp only[iZ,Int.toNat_zero,Nat.zero_mul,List.drop_zero,Nat.sub_zero];exact ai6 d n
 rw[e2]at h;exact h.drop
variable{y3:ey}
def aBD(ho:∀args w c,y3 (.func rK) args w c=XH args.toList w c)(h:St w0 w (au g (uP now n s)::bG 2 s (fl d)::R))(hn:d.length<=2000000)
  (hc:∀s' w',St w0 w' (au g (uP now n s')::bG 2 s' (fl (d++[x]))::R)->c (J3 #[]) w'):pR y3 Tryz.prog (pv g) "Push" #[.iface 259 (.agg #[I_ x.1,I_ x.2])] w c:=by
 refine ajb (f:=rK) (by kernel_rfl) ?_
 rw[ho,show(#[Value.pointer (G_ ⟨g,1,H_⟩)] ++ #[Value.iface 259 (.agg #[I_ x.1,I_ x.2])]).toList=[IB (G_ ⟨g,1,H_⟩),.iface 259 (.agg #[I_ x.1,I_ x.2])] by simp]
 show j8 (G_ ⟨g,1,H_⟩) (.iface 259 (.agg #[I_ x.1,I_ x.2])) w (fun r w=>c (e9 (dL [] r)) w);exact auj h hn hc
def aul(ho:∀args w c,y3 (.func iI) args w c=Mj args.toList w c)(h:St w0 w (au g (uP now zr s)::bG 2 s (fl d)::R))(hl:d.length<=2000000)(hn:n+1=d.length)
  (hc:∀v s' w',St w0 w' (au g (uP now zr s')::bG 2 s' (fl (d.take n))::R)->c v w'):pR y3 Tryz.prog (pv g) "Pop" #[] w c:=by
 refine ajb (f:=iI) (by kernel_rfl) ?_
 rw[ho,show(#[Value.pointer (G_ ⟨g,1,H_⟩)] ++(#[]:Array M_)).toList=[Value.pointer (G_ ⟨g,1,H_⟩)] by simp]
 show dJ (G_ ⟨g,1,H_⟩) w (fun r w=>c (e9 (dL [.raw] r)) w);exact ayd h hl hn fun v s' w' h=>hc v s' w' h
def aum{c:Unit->ap}(h:St w0 w (au g (uP now n s)::bG 2 s (fl d)::R))(k:d.length<=1000000)(e:HH d d.length)
  (f:∀d' s' w',d'.Perm (d++[x])->HH d' d'.length->St w0 w' (au g (uP now n s')::bG 2 s' (fl d')::R)->c () w'):jx (pv g) (.iface 259 (.agg #[I_ x.1,I_ x.2])) w c:=by
 unfold jx wS;refine aBD (λ_ _ _=>rfl) h af λs1 w1 h=>auh (λ_ _ _=>rfl) h ?_;have i:(d++[x]).length=d.length+1:=by simp
 have j:aF B_ (((d++[x]).length:Int) - 1)=((d.length:Nat):Int):=by
  rw[dh ⟨af,af⟩];omega
 show cC _ (aF B_ (((d++[x]).length:Int) - 1)) w1 (λu w=>c () w);rw[j];refine aAe h (aue e) af af af λd' w' b a h=>f d' s1 w' b.perm (by rw[b.len,i];exact a) h
theorem Rl.head(h:Rl d y0 n)(a:n+1=d.length):(gd d n::y0.take n).Perm d:=by
 have b:=h.len;have e:=auk (d:=y0) (n:=n) af;have:=h.perm;rw[e,h.same n (iw _)]at this;grind
def aye(h:St w0 w (au g (uP now zr s)::bG 2 s (fl d)::R))(y:d.length<=1000000)(z:1<=d.length)(f:HH d d.length)
  (i:∀v d' s' w',(gd d 0::d').Perm d->HH d' d'.length->St w0 w' (au g (uP now zr s')::bG 2 s' (fl d')::R)->c v w'):j0 (pv g) w c:=by
 obtain⟨n,j⟩:∃n,n+1=d.length:=⟨d.length - 1,af⟩;unfold j0 yX;refine auh (λ_ _ _=>rfl) h ?_;have l:aF B_ ((d.length:Int) - 1)=((n:Nat):Int):=by
  rw[dh ⟨af,af⟩];omega
 refine I0 ?_;rw[l];refine ahg (λ_ _ _=>rfl) h ⟨af,af⟩ ⟨af,af⟩ λw1 h=>?_;simp only[iZ,Int.toNat_zero]at h;have A:=ai2 d 0 n;have m:HD (Lz d 0 n) n 0 0:=by
  rcases Nat.eq_zero_or_pos n with q|q
  .subst q;exact⟨λk o p=>by omega,λk o p=>by omega⟩
  .exact anE f j q
 refine alu<|anJ (i0:=0) h m af af af λb d' B a r t h=>?_;have u:HH d' n:=by
  cases b
  .exact anC (t rfl) (D_ rfl)
  .exact r rfl
 have e:=a.len;refine aul (λ_ _ _=>rfl) h af af λv s' x h=>i v _ s' x ?_ (ac0 u af) h;have:=a.head af;rw[S7 af af,HK rfl]at this;exact this.trans (Zm af af)
def ayf{i:Nat}(h:St w0 w (au g (uP now zr s)::bG 2 s (fl d)::R))(hl:d.length<=1000000)(h0:i<d.length)(hh:HH d d.length)
  (hc:∀v d' s' w',(gd d i::d').Perm d->HH d' d'.length->St w0 w' (au g (uP now zr s')::bG 2 s' (fl d')::R)->c v w'):iy (pv g) (i:Int) w c:=by
 obtain⟨n,hn⟩:∃n,n+1=d.length:=⟨d.length - 1,by omega⟩
 unfold iy uG;refine auh (fun _ _ _=>rfl) h ?_;have e1:IntKind.wrap B_ ((d.length:Int) - 1)=((n:Nat):Int):=by
  rw[dh ⟨by omega,by omega⟩];omega
 refine I0 ?_;rw[e1];refine ax (fun hb=>?_) fun hb=>?_
 .have hb:(n:Int)≠i:=by simpa using hb
  have Y8:=ai2 d i n;refine ahg (fun _ _ _=>rfl) h ⟨by omega,by omega⟩ ⟨by omega,by omega⟩ fun w1 h=>?_
  simp only[Int.toNat_natCast]at h;have fin:∀{d' w2} {c:M_->ap} {bY:ey},(∀args w c,bY (.func iI) args w c=Mj args.toList w c)->(∀v d' s' w',(gd d i::d').Perm d->HH d' d'.length->St w0 w' (au g (uP now zr s')::bG 2 s' (fl d')::R)->c v w')->Rl (Lz d i n) d' n->HH d' n->St w0 w2 (au g (uP now zr s)::bG 2 s (fl d')::R)->pR bY Tryz.prog (pv g) "Pop" #[] w2 c:=by
   intro d' w2 c bY ho hc hr hH h;have hlen:=hr.len;refine aul (n:=n) ho h (by omega) (by omega) fun v s' w3 h=>?_
   refine hc v _ s' w3 ?_ (ac0 hH (by omega)) h
   have:=hr.head (by omega)
   rw[S7 (by omega) (by omega),HK rfl]at this
   exact this.trans (Zm (by omega) (by omega))
  refine alu<|anJ h (anE hh hn (by omega)) (by omega) (by omega) (by omega) fun b d' w2 hr ht hf h=>?_
  have hlen:=hr.len;cases b
  .refine bK rfl<|aAe h (hf rfl) (by omega) (by omega) (by omega) fun d2 w3 hr2 hh2 h=>?_
   exact fin (fun _ _ _=>rfl) hc (hr.trans hr2) hh2 h
  .refine aU rfl<|fin (fun _ _ _=>rfl) hc hr (ht rfl) h
 .have hb:(n:Int)=i:=by simpa using hb
  have:n=i:=by omega
  subst this;refine aul (fun _ _ _=>rfl) h (by omega) hn fun v s' w3 h=>?_
  refine hc v _ s' w3 ((Rl.refl d n).head hn) (ac0 (fun k k1 kn=>hh k k1 (by omega)) (by omega)) h
theorem aBE{c:Int->ap}(h:St w0 w (au g (uP now zr s)::bG 2 s (fl d)::R))(p:d.length<=1000000)(a:x∈d)
  (b:∀(i:Nat) w',i<d.length->gd d i=x->St w0 w' (au g (uP now zr s)::bG 2 s (fl d)::R)->c (i:Int) w'):cE s #[I_ x.1,I_ x.2] w c:=by
 have q:=St.XZ (s:=s) h;obtain⟨m,f,k⟩:=w_ a;have l:gd d m=x:=by unfold gd;rw[m0,iH f];exact k
 unfold cE;refine aM h λga w1 h=>ot (fun(i:Int) w'=> ∃j:Nat,i=(j:Int)/\j<=m/\St w0 w' (au ga [I_ x.1,I_ x.2]::au g (uP now zr s)::bG 2 s (fl d)::R)) (λi _=>m - i.toNat) ⟨0,rfl,af,h⟩ ?_;rintro _ w2 ⟨j,rfl,hj,h⟩ C hC;refine bK (decide_eq_true af)<|cH h λn h=>je h rfl<|abc h af af<|akD (xs:=[x.1,x.2]) (ys:=[(gd d (j:Int).toNat).1,(gd d (j:Int).toNat).2]) rfl rfl<|ax (λhb=>?_) λhb=>?_
 .have hb:=of_decide_eq_true hb;simp only[iZ,List.cons.injEq,and_true]at hb;exact b j n af (by rw[Prod.ext_iff];exact⟨hb.1.symm,hb.2.symm⟩) h.drop
 .have hb:=of_decide_eq_false hb;simp only[iZ,List.cons.injEq,and_true]at hb;have o:j≠m:=by grind
  have e:aF B_ ((j:Int)+1)=((j+1:Nat):Int):=by
   rw[dh ⟨af,af⟩];omega
  rw[e];exact hC _ _ ⟨j+1,rfl,af,h⟩ (by simp only[iZ];omega)
abbrev MT:Int:=1099511627776
def sw(x:Int×Int):Int×Int:=(x.2,x.1)
def has(S:DL)(id:Int):Bool:=S.any λx=>x.2==id
variable{S:DL}
def X1{id:Int}:has S id=J_↔∃x∈S,x.2=id:=by unfold has;rw[List.any_eq_true];simp
structure CK (x:Int×DL):Prop where
 lo:0<=x.1
 hi:x.1<=MT
 ids:∀y∈x.2,0<=y.2
 due:∀y∈x.2,x.1<y.1/\y.1<=MT+MT
 srt:Srt x.2
 one:(x.2.map (·.2)).Nodup
def Dt(x:Int×DL)(id n:Int):Int×DL:=
 if id<0\/n<1\/n>MT then(10,x.2)else if has x.2 id=J_ then(18,x.2)else(0,ins (x.1+n,id) x.2)
def EK(S:DL)(id:Int):DL:=S.filter λy=>L_ (y.2≠id)
def ac4(S:DL)(t:Int):DL:=S.filter λy=>L_ (y.1<=t)
def Oy(S:DL)(t:Int):DL:=S.filter λy=>L_ (¬y.1<=t)
def Sn(now n:Int):Bool:=L_ (0<=n/\n<=MT - now)
def ids(S:DL):List Int:=S.map (·.2)
variable{zh:Int×Int}
def ac5:zh∈ins x S↔zh=x\/zh∈S:=by
 rw[(IN x S).mem_iff,BP]
def afi{id:Int}(h:¬has S id=J_):∀y∈S,y.2≠id:=λy a q=>h (X1.2 ⟨y,a,q⟩)
variable{x:Int×DL}
theorem CK.set(h:CK x)(id n:Int):CK (x.1,(Dt x id n).2):=by
 unfold Dt;split
 .exact h
 .rename_i d;split
  .exact h
  .rename_i h2;have a:=afi h2;have b:=h.lo;have c:=h.hi;refine⟨h.lo,h.hi,λy hy=>?_,λy hy=>?_,ai5 h.srt λq=>a _ q rfl,?_⟩
   .rcases ac5.1 hy with rfl|hy
    .dsimp only;omega
    .exact h.ids y hy
   .rcases ac5.1 hy with rfl|hy
    .grind
    .exact h.due y hy
   .refine(((IN (x.1+n,id) x.2).map (·.2)).nodup_iff).2 ?_;rw[z_,VN];refine⟨λq=>?_,h.one⟩;grind
def UU(h:(S.map (·.2)).Nodup)(p:Int×Int->Bool):((S.filter p).map (·.2)).Nodup:=
 h.sublist (List.filter_sublist.map _)
def CK.drop(h:CK x)(id:Int):CK (x.1,EK x.2 id):=by
 unfold EK;exact⟨h.lo,h.hi,λy a=>h.ids y (C5.1 a).1,λy a=>h.due y (C5.1 a).1,aal h.srt _,UU h.one _⟩
variable{n:Int}
theorem CK.adv(h:CK x)(b:Sn x.1 n=J_):CK (x.1+n,Oy x.2 (x.1+n)):=by
 have b:=of_decide_eq_true b;have c:=h.lo;have h2:=h.hi;unfold Oy;refine⟨by dsimp only;omega,by dsimp only;omega,λy a=>h.ids y (C5.1 a).1,λy a=>?_,aal h.srt _,UU h.one _⟩
 have:=h.due y (C5.1 a).1;grind
def ni(g:Nat)(x:Int×DL):HP:=Gt λq:{q:Sl×Nat×DL×List (Int×Int) // q.2.2.1.Perm x.2/\HH q.2.2.1 q.2.2.1.length/\q.2.2.2.Perm (x.2.map sw)}=>
 l9 [au g (uP x.1 q.1.2.1 q.1.1),bG 2 q.1.1 (fl q.1.2.2.1),mp q.1.2.1 q.1.2.2.2]
def ME(h:St w0 w (ni g (now,S)::L)):∃(s:Sl) (gm:Nat) (d:DL) (l:List (Int×Int)),d.Perm S/\HH d d.length/\l.Perm (S.map sw)/\St w0 w (au g (uP now gm s)::bG 2 s (fl d)::mp gm l::L):=by
 obtain⟨⟨⟨s,gm,d,l⟩,a,h2,b⟩,h⟩:=h.some;exact⟨s,gm,d,l,a,h2,b,h.open⟩
variable{l:List (Int×Int)}
def Du(a:d.Perm S)(h2:HH d d.length)(b:l.Perm (S.map sw))(h:St w0 w (au g (uP now zr s)::bG 2 s (fl d)::mp zr l::L)):St w0 w (ni g (now,S)::L):=
 St.ex ⟨(s,zr,d,l),a,h2,b⟩ (St.shut h)
variable{zn:Int}
theorem alw(h:Im l n=G_ zn):(n,zn)∈l:=by
 unfold Im at h;cases hf:l.find? λx=>x.1==n with
 |none=>rw[hf]at h;cases h
 |some y=>
  grind
def MF{k:Int}(b:l.Perm (S.map sw)):(Im l k).isSome=has S k:=by
 rw[Bool.eq_iff_iff,X1];unfold Im;rw[Option.isSome_map,List.find?_isSome];constructor
 .rintro⟨x,c,e⟩;obtain⟨y,a,rfl⟩:=C6.1 (b.subset c);exact⟨y,a,by simpa[sw]using e⟩
 .rintro⟨y,a,e⟩;exact⟨sw y,b.symm.subset (C6.2 ⟨y,a,rfl⟩),by simpa[sw]using e⟩
def aam(a:l.Perm (S.map sw))(b:(S.map (·.2)).Nodup):(l.map (·.1)).Nodup:=by
 refine((a.map (·.1)).nodup_iff).2 ?_;rw[List.map_map];exact b
def mpT:MpT Tryz.prog 207 3 2:=⟨aZ,aZ,aZ⟩
def anK{b:Bool}{c:KT [.i B_,.b]->Prop}(h:c (n,b)):Is [.i B_,.b] (J3 #[I_ n,Iq b]) c:=h
def ahh{c:Option P_->ap}(h:St w0 w L)(a:∀g w',St w0 w' (ni g (0,[])::L)->c (A_ g) w'):ob w c:=by
 unfold ob;refine at5 h λgm w1 h=>aM h λg b h=>a g b ?_;have h:=(h.DJ 2).swap;exact Du (s:=⟨H_,0,0⟩) (.refl _) (λk e d=>by simp at d) (.refl _) h
def ac6{x:Int×Int}(b:d.Perm (x::S))(h2:HH d d.length)(i:Srt (x::S)):gd d 0=x:=by
 have f:d.length=S.length+1:=by rw[b.length_eq];simp
 have a:gd d 0∈d:=by
  unfold gd;rw[m0,iH af];simp
 rcases BP.1 (b.subset a)with e|e
 .exact e
 .have j:x∈d:=b.symm.subset bf;obtain⟨m,g,k⟩:=w_ j;have c:gd d m=x:=by unfold gd;rw[m0,iH g];exact k
  have:=aud h2 m g;rw[c]at this;exact absurd ((VO.1 i).1 _ e) this
def aGQ(S:DL):Int×Int×Bool:=match S with|[]=>(0,0,K_)|x::_=>(x.1,x.2,J_)
theorem aBH{c:Int->ap}(C:S.length<=100000)(r:CK (now,S))(h:St w0 w L)[a:At L (ni g) (now,S) f](i:∀w',St w0 w' (f (ni g (now,(Dt (now,S) zn n).2)))->c (Dt (now,S) zn n).1 w'):mD (A_ g) zn n w c:=by
 obtain⟨R,u,hs⟩:=a.out;have h:=u h;unfold mD CU;refine aU rfl (ax (λhb=>?_) λhb=>?_)
 .have e:Dt (now,S) zn n=(10,S):=by
   unfold Dt;grind
  rw[e]at i;exact i _ (hs h)
 .have hb:¬(zn<0\/n<1\/n>MT):=by
   grind
  obtain⟨s,gm,d,l,t,h2,m,b⟩:=ME h;refine bc (abY b rfl ?_);refine anA mpT b (anK ?_);dsimp only;rw[MF m];refine ax (λj=>?_) λj=>?_
  .have e:Dt (now,S) zn n=(18,S):=by unfold Dt;rw[HQ hb,HK j]
   grind
  .have e:Dt (now,S) zn n=(0,ins (now+n,zn) S):=by unfold Dt;rw[HQ hb,HQ (by simp[j])]
   rw[e]at i;have o:=r.lo;have p:=r.hi;dsimp only at o p;have v:aF B_ (now+n)=now+n:=dh ⟨by unfold MT at*;omega,by unfold MT at*;omega⟩
   refine cH b λw1 b=>bc (abY b rfl ?_);refine bc (cr b rfl ?_);have q:Im l zn=none:=by
    have:=MF (k:=zn) m;rw[j]at this;simpa using this
   refine apr mpT b q λD b=>cH b λF b=>bc (bc (cr b rfl ?_));rw[v]at b ⊢;refine aum (x:=(now+n,zn)) b (by rw[t.length_eq];omega) h2 λd' s' y z A B=>?_
   refine i y (hs (Du ?_ A ?_ B))
   .exact(z.trans (hN)).trans ((t.cons _).trans (IN _ _).symm)
   .refine .trans ?_ ((IN (now+n,zn) S).map sw).symm;exact(hN).trans (m.cons _)
theorem ayh{c:Bool->ap}(H:S.length<=100000)(A:CK (now,S))(h:St w0 w L)[a:At L (ni g) (now,S) f](t:∀w',St w0 w' (f (ni g (now,EK S zn)))->c (has S zn) w'):lu (A_ g) zn w c:=by
 obtain⟨R,B,hs⟩:=a.out;have h:=B h;obtain⟨s,gm,d,l,p,h2,m,b⟩:=ME h;unfold lu BD;refine aU rfl (bc (abY b rfl ?_));refine anA mpT b (anK ?_);dsimp only;have j:=A.one;dsimp only at j;rw[MF m];refine ax (λo=>?_) λo=>?_
 .refine bc (abY b rfl ?_);have hsome:(Im l zn).isSome=true:=by rw[MF m];exact o
  obtain⟨v,hv⟩:=Option.isSome_iff_exists.1 hsome;rw[hv,jB];have C:(v,zn)∈d:=by
   obtain⟨y,u,e⟩:=C6.1 (m.subset (alw hv));have:y=(v,zn):=by obtain⟨I,J⟩:=y;simp[sw]at e;simp[e]
   grind
  refine anB mpT b (aam m j) hsome λw1 b=>cH b λK b=>bc (bc (ea b rfl (aif ?_)));refine aBE b (by rw[p.length_eq];omega) C λi M hi q b=>?_
  refine ayf b (by rw[p.length_eq];omega) hi h2 λ_ d' s' D z F G=>?_
  refine t D (hs (Du ?_ F ?_ G))
  .rw[q]at z;have n:=z.trans p;have r:(((v,zn)::d').map (·.2)).Nodup:=((n.map (·.2)).nodup_iff).2 j;rw[z_,VN]at r;have k:=n.filter λy=>L_ (y.2≠zn);rw[ew bf]at k;have e:d'.filter (λy=>L_ (y.2≠zn))=d':=by
    rw[fu];grind
   rw[e]at k;exact k
  .have:=m.filter λx=>L_ (x.1≠zn);unfold EK;rw[List.filter_map]at this;exact this
 .rw[o]at t ⊢;have e:EK S zn=S:=by
   unfold EK;rw[fu];intro y u;simp only[ne_eq,decide_eq_true_eq];exact afi (by simp[o]) y u
  grind
theorem ayi{C T:DL}(b:∀y∈C,y.1<=n)(h2:∀y∈T,¬y.1<=n):ac4 (C++T) n=C/\Oy (C++T) n=T:=by
 unfold ac4 Oy;have c:C.filter (λy=>L_ (y.1<=n))=C:=by rw[fu];intro y a;simpa using b y a
 have e2:T.filter (λy=>L_ (y.1<=n))=[]:=by rw[Us];intro y a;simpa using h2 y a
 have d:C.filter (λy=>L_ (¬y.1<=n))=[]:=by rw[Us];intro y a;simpa using b y a
 have e:T.filter (λy=>L_ (¬y.1<=n))=T:=by rw[fu];intro y a;simpa using h2 y a
 grind
def aEl(T:DL)(t:Int):Bool:=match T with|[]=>K_|x::_=>L_ (x.1<=t)
theorem aBJ{c:Sl×Int->ap}(Q:S.length<=100000)(u:CK (now,S))(h:St w0 w L)[a:At L (ni g) (now,S) f]
  (U:Sn now n=J_->∀s' w',St w0 w' (bG 1 s' (ints (ids (ac4 S (now+n))))::f (ni g (now+n,Oy S (now+n))))->c (s',0) w')
  (A:Sn now n=K_->St w0 w L->c (⟨H_,0,0⟩,10) w):jA (A_ g) n w c:=by
 obtain⟨R,V,hs,W⟩:=a.aEj;have h':=V h;obtain⟨s,gm,d,l,j,h2,o,i⟩:=ME h';have B:=u.lo;have D:=u.hi;dsimp only at B D;unfold jA xh;refine aU rfl (bP (λb w'=>b= !Sn now n/\w'=w) (λJ p=>?_) ?_)
 .refine ax (λhb=>?_) λhb=>?_
  .have hb:=of_decide_eq_true hb;refine p _ _ ⟨?_,rfl⟩;unfold Sn;rw[decide_eq_false af];rfl
  .have hb:=of_decide_eq_false hb;refine bc (cr i rfl (p _ _ ⟨?_,rfl⟩));rw[dh ⟨by unfold MT at*;omega,by unfold MT at*;omega⟩]
   unfold Sn MT;grind
 rintro _ w1 ⟨rfl,rfl⟩;refine ax (λhb=>?_) λhb=>?_
 .exact A (gq hb) h
 have t:Sn now n=true:=gq hb
 have X:=of_decide_eq_true t;refine bc (cr i rfl (bc ?_));rw[dh ⟨by unfold MT at*;omega,by unfold MT at*;omega⟩]
 refine j4 i rfl bf λI i=>?_;have h5:St w0 I (ni g (now+n,S)::R):=Du j h2 o i;refine ot (fun(r:Sl) w'=> ∃C T,S=C++T/\(∀y∈C,y.1<=now+n)/\St w0 w' (ni g (now+n,T)::bG 1 r (ints (ids C))::R)) (λr _=>S.length - r.n) ⟨[],S,rfl,bf,((h5.DJ 1).swap:St w0 I (ni g (now+n,S)::bG 1 ⟨H_,0,0⟩ (ints (ids []))::R))⟩ ?_;rintro r w3 ⟨C,T,rfl,F,h⟩ K hK;have hr:r.n=C.length:=by
  have:=h.Gs (sz:=1) (s:=r);simp[ids]at this;omega
 obtain⟨s,gm,d,l,j,h2,o,i⟩:=ME h;have M:s.n=T.length:=by rw[St.XZ i,j.length_eq]
 have G:=j.length_eq;have k:Srt T:=(List.pairwise_append.1 u.srt).2.1;have m:(T.map (·.2)).Nodup:=by
  have:=u.one;grind
 refine bP (λb w'=>b=aEl T (now+n)/\St w0 w' (au g (uP (now+n) gm s)::bG 2 s (fl d)::mp gm l::bG 1 r (ints (ids C))::R)) (λJ p=>?_) ?_
 .refine cH i λN i=>bc (ea i rfl ?_);dsimp only;refine ax (λhb=>?_) λhb=>?_
  .have hb:=of_decide_eq_true hb;cases T with
   |nil=>simp at M;omega
   |cons x T=>
    have v:=ac6 j h2 k;refine bc (ea i rfl ?_);refine X0 i af af<|bc (cr i rfl ?_);refine p _ _ ⟨?_,i⟩;show L_ ((gd d 0).1<=now+n)=L_ (x.1<=now+n);rw[v]
  .have hb:=of_decide_eq_false hb;cases T with
   |nil=>exact p _ _ ⟨rfl,i⟩
   |cons x T=>simp at M;omega
 rintro _ N ⟨rfl,i⟩;refine ax (λhb=>?_) λhb=>?_
 .cases T with
  |nil=>cases hb
  |cons x T=>
   have hb:=of_decide_eq_true hb;have v:=ac6 j h2 k;simp only[uv,x_]at Q G;refine bc (ea i rfl ?_);refine ahf i af af ?_;have Y:(gd d (0:Int).toNat)=x:=v;rw[Y];refine bc<|aye i af af h2 λ_ d' s' w5 O Z h5=>bc (abY h5 rfl ?_);have hsome:(Im l x.2).isSome=true:=by rw[MF o,X1];exact⟨x,bf,rfl⟩
   refine anB mpT h5 (aam o m) hsome λw6 h5=>aM h5 λga w7 h5=>M9 (x:=⟨A_ ga,1,1⟩) h5 (aBC aZ) aZ (WJ (n:=1) (h5.au) rfl 1) (by simp[Value.oneCell']) (by simp only;omega) (by simp only;omega) λs2 w8 h6 n2=>?_
   have P:=h6.drop;refine hK s2 w8 ⟨C++[x],T,bf,λy hy=>?_,?_⟩ ?_
   .grind
   .have e:ints (ids C)++[Value.int B_ x.2]=ints (ids (C++[x])):=by simp[ids,ints]
    rw[e]at P;rw[v]at O;refine Du ?_ Z ?_ P
    .exact(O.trans j).cons_inv
    .have H:=o.filter λy=>L_ (y.1≠x.2);rw[z_,ew (by simp[sw])]at H
     have e:(T.map sw).filter (λy=>L_ (y.1≠x.2))=T.map sw:=by
      rw[fu];intro z hz;obtain⟨y,hy,rfl⟩:=C6.1 hz;rw[z_,VN]at m;simp only[ne_eq,decide_eq_true_eq];exact λq=>m.1 (C6.2 ⟨y,hy,q⟩)
     rw[e]at H;exact H
   .grind
 .have hT:∀y∈T,¬y.1<=now+n:=by
   cases T with
   |nil=>simp
   |cons x T=>
    have hb:=of_decide_eq_false hb;intro y hy;rcases BP.1 hy with rfl|hy
    .exact hb
    .have:=(VO.1 k).1 y hy;unfold rT at this;omega
  obtain⟨e1,e2⟩:=ayi F hT;refine U t r N (W ?_);rw[e1,e2];exact Du j h2 o i
end Go.Proofs.YthidhjhkmjjckaaGreatDoor.Ko
namespace Go.Proofs.YthidhjhkmjjckaaGreatDoor
open Go Go.Ev Go.Proofs
open Ko (ni CK)
abbrev pt(a:Nat):Value:=IB (A_ a)
structure Tk where
 id:Int
 l7:Int
 own:Int
 jI:Int
 f:List Int
 gL:ByteArray
 cJ:List (Int×Int)
 scopes:List Int
 kind:Int
 v:Int
abbrev frV(f:List Int):List Value:=[I_ (f.getD 0 0),I_ (f.getD 1 0),I_ (f.getD 2 0),I_ (f.getD 3 0),I_ (f.getD 4 0),I_ (f.getD 5 0),I_ (f.getD 6 0),I_ (f.getD 7 0),I_ (f.getD 8 0),I_ (f.getD 9 0),I_ (f.getD 10 0),I_ (f.getD 11 0),I_ (f.getD 12 0),I_ (f.getD 13 0),I_ (f.getD 14 0),I_ (f.getD 15 0),I_ (f.getD 16 0),I_ (f.getD 17 0),I_ (f.getD 18 0)]
variable{f:List Int}
def anL(l:f.length=19):frV f=ints f:=by
 obtain⟨a,b,c,d,e,g,h,i,j,k,m,n,o,p,q,r,s,t,u,rfl⟩:=Fr.ag8 l;rfl
def Oz(a:f.length=19):(frV f).toArray=eZ f:=by rw[anL a]
def Tk.cells(so sc:Sl)(t:Tk):List Value:=[I_ t.id,I_ t.l7,I_ t.own,I_ t.jI,I_ (t.f.getD 0 0),I_ (t.f.getD 1 0),I_ (t.f.getD 2 0),I_ (t.f.getD 3 0),I_ (t.f.getD 4 0),I_ (t.f.getD 5 0),I_ (t.f.getD 6 0),I_ (t.f.getD 7 0),I_ (t.f.getD 8 0),I_ (t.f.getD 9 0),I_ (t.f.getD 10 0),I_ (t.f.getD 11 0),I_ (t.f.getD 12 0),I_ (t.f.getD 13 0),I_ (t.f.getD 14 0),I_ (t.f.getD 15 0),I_ (t.f.getD 16 0),I_ (t.f.getD 17 0),I_ (t.f.getD 18 0),.string t.gL,S_ so,S_ sc,I_ t.kind,I_ t.v]
abbrev A1(x:Int×Int):List Value:=[I_ x.1,I_ x.2]
def tkP(x:Nat×Tk):HP:=Gt λq:Sl×Sl=>l9 [au x.1 (x.2.cells q.1 q.2),rws 2 q.1 (x.2.cJ.map A1),bG 1 q.2 (ints x.2.scopes)]
def LA(aa:List Nat)(ts:List Tk):HP:=Kf (aa.length=ts.length) (jO tkP (aa.zip ts))
variable{R:List HP}{aa:List Nat}{ts:List Tk}{w w0:N_}
def KI(h:St w0 w (LA aa ts::R)):aa.length=ts.length:=h.pure.1
variable{a x:Nat}
variable{yi:Tk}
def sv(h:St w0 w (LA aa ts::R))(b:aa[x]?=G_ a)(c:ts[x]?=G_ yi):∃so sc:Sl,St w0 w (au a (yi.cells so sc)::rws 2 so (yi.cJ.map A1)::bG 1 sc (ints yi.scopes)::jO tkP ((aa.zip ts).eraseIdx x)::R):=by
 obtain⟨_,h⟩:=h.pure;have h2:St w0 w (tkP (a,yi)::jO tkP ((aa.zip ts).eraseIdx x)::R):=BW h (by rw[List.getElem?_zip_eq_some];exact⟨b,c⟩)
 obtain⟨q,h⟩:=St.some h2;exact⟨q.1,q.2,h.open⟩
variable{sc:Sl}{t':Tk}
variable{yk:Sl}
theorem ajc(b:aa.length=ts.length)(c:aa[x]?=G_ a)(h:St w0 w (au a (t'.cells yk sc)::rws 2 yk (t'.cJ.map A1)::bG 1 sc (ints t'.scopes)::jO tkP ((aa.zip ts).eraseIdx x)::R)):St w0 w (LA aa (ts.set x t')::R):=by
 have f:=(kB.1 c).1;have h2:St w0 w (tkP (a,t')::jO tkP ((aa.zip ts).eraseIdx x)::R):=St.ex (yk,sc) (St.shut h);have d:=WY h2 (by simp;omega)
 refine St.YA (gq b) ?_
 have e:(aa.zip ts).set x (a,t')=aa.zip (ts.set x t'):=by
  apply List.ext_getElem?;grind
 rwa[e]at d
variable{g:Nat}
def ayj(a:aa.length=ts.length)(h:St w0 w (au g (t'.cells yk sc)::rws 2 yk (t'.cJ.map A1)::bG 1 sc (ints t'.scopes)::LA aa ts::R)):St w0 w (LA (aa++[g]) (ts++[t'])::R):=by
 have h2:St w0 w (tkP (g,t')::LA aa ts::R):=St.ex (yk,sc) (St.shut h);obtain⟨_,b⟩:=h2.swap.pure;have c:=QV b.swap;refine St.YA (gq a) ?_
 rwa[List.zip_append a]
structure Lc where
 gs:Nat
 gm:Nat
 gk:Nat
 gc:Nat
 gt:Nat
 gd:Nat
 ps:Sl
 base:Int
 spare:Int
 cells:Int
 fuel:Int
 deep:Int
 log:Int
 told:Int
 idle:Int
 sp:Sp
 wa:List Nat
abbrev Pl:=Int×Int×Int×Bool
abbrev tI(x:Pl):List Value:=[I_ x.1,I_ x.2.1,I_ x.2.2.1,Iq x.2.2.2]
structure Gl where
 M:bJ
 T:List Kt
 C:List Nd
 P:List Pl
 ts:List Tk
 time:Int×List (Int×Int)
 D:List Int
 steps:Int
 err:Int
def Lc.cs(l:Lc)(sp st sw:Sl)(steps err:Int):List Value:=[S_ l.ps,I_ l.base,I_ l.spare,I_ l.cells,I_ l.fuel,I_ l.deep,I_ l.log,pt l.gm,pt l.gk,pt l.gc,
 IC sp.a sp.n sp.c,S_ st,I_ l.told,I_ l.idle,I_ l.sp.at_,I_ l.sp.base,I_ l.sp.most,pt l.gt,pt l.gd,S_ sw,I_ steps,I_ err]
def UW(l:Lc)(aa:List Nat)(G:Gl):HP:=Gt λq:Sl×Sl×Sl=>l9 [au l.gs (l.cs q.1 q.2.1 q.2.2 G.steps G.err),bH l.gm G.M,Da l.gk G.T,scp l.gc G.C,rws 4 q.1 (G.P.map tI),bG 1 q.2.1 (aa.map pt),bG 1 q.2.2 (l.wa.map pt),ni l.gt G.time,Lw l.gd G.D,LA aa G.ts]
variable{G:Gl}{l:Lc}
def rO(h:St w0 w (UW l aa G::R)):∃sp st sw:Sl,St w0 w (au l.gs (l.cs sp st sw G.steps G.err)::bH l.gm G.M::Da l.gk G.T::scp l.gc G.C::rws 4 sp (G.P.map tI)::bG 1 st (aa.map pt)::bG 1 sw (l.wa.map pt)::ni l.gt G.time::Lw l.gd G.D::LA aa G.ts::R):=by
 obtain⟨q,h⟩:=h.some;exact⟨q.1,q.2.1,q.2.2,h.open⟩
def pE{sw:Sl}(h:St w0 w (au l.gs (l.cs yk sc sw G.steps G.err)::bH l.gm G.M::Da l.gk G.T::scp l.gc G.C::rws 4 yk (G.P.map tI)::bG 1 sc (aa.map pt)::bG 1 sw (l.wa.map pt)::ni l.gt G.time::Lw l.gd G.D::LA aa G.ts::R)):St w0 w (UW l aa G::R):=
 St.ex (yk,sc,sw) (St.shut h)
inductive Mt
 |rest|pF|looking|tell|others|xn|So|JA|tE|start|next|fork|xo|tF|join|cJ|opens|close|gL|cancel|pass|leave|put|fin|asks|gone|asked|joined|ul|rp|sx|register|block|Io|stops
 |cancelled|vQ|BQ|y5|nothing|Uv|AL
 deriving DecidableEq
def Mt.fn:Mt->Nat
 | .rest=>gB| .pF=>kW| .looking=>kX| .tell=>nu| .others=>lS| .xn=>lT| .So=>mI| .JA=>nr
 | .tE=>lR| .start=>mQ| .next=>gC| .fork=>lH| .xo=>mR| .tF=>lV| .join=>js| .cJ=>lI| .opens=>mS
 | .close=>kO| .gL=>lU| .cancel=>kq| .pass=>lJ| .leave=>iV| .put=>n9| .fin=>oa| .asks=>nw| .gone=>ny
 | .asked=>mT| .joined=>lX| .ul=>lW| .rp=>kY| .sx=>kZ| .register=>kE| .block=>mW| .Io=>nA| .stops=>mU
 | .cancelled=>j6| .vQ=>ku| .BQ=>mV| .y5=>qC| .nothing=>py| .Uv=>r9| .AL=>qE
inductive Ct
 |F9|S8|um|td|xp|th|IF|Db|Co|qI
 deriving DecidableEq
def Ct.fn:Ct->Nat
 | .F9=>pT| .S8=>oJ| .um=>oM| .td=>oN| .xp=>pi| .th=>oL| .IF=>px| .Db=>kr
 | .Co=>pq| .qI=>oK
inductive Kn
 |no
 |any
 |m (f:Mt)
 |c (f:Ct)
 |nx (i:List Int)
 |aw (x:Nat)
 |sh (k:Kn)
 |V2 (x:Nat) (k:Kn)
 |BR (x:Int) (k:Kn)
 |hl (me:Int) (t:Option Nat)
 deriving DecidableEq
abbrev mt(gw:Nat)(f:Mt):Value:= .func (F_ f.fn) #[pt gw] #[]
abbrev ct(b:Nat)(f:Ct):Value:= .func (F_ f.fn) #[] #[pt b]
abbrev aAf:Value:= .func (F_ kD) #[] #[]
abbrev Bx:=List (Nat×List M_)
def Rp(aa:List Nat)(gw:Nat)(B:Bx):Kn->M_->Prop
 | .no,v=>v= .nilFunc
 | .any,v=>v= .func (F_ kD) #[] #[]
 | .m f,v=>v= .func (F_ f.fn) #[pt gw] #[]
 | .c f,v=> ∃b,(b,[pt gw])∈B/\v= .func (F_ f.fn) #[] #[pt b]
 | .nx i,v=> ∃b c,(b,[pt gw])∈B/\(c,ints i)∈B/\i.length=5/\v= .func (F_ pU) #[] #[pt b,pt c]
 | .aw x,v=> ∃b c a,(b,[pt gw])∈B/\aa[x]?=G_ a/\(c,[pt a])∈B/\v= .func (F_ eP) #[] #[pt b,pt c]
 | .sh k,v=> ∃b c u,(b,[pt gw])∈B/\Rp aa gw B k u/\(c,[u])∈B/\v= .func (F_ fN) #[] #[pt b,pt c]
 | .V2 x k,v=> ∃b c d a u,(b,[pt gw])∈B/\aa[x]?=G_ a/\(c,[pt a])∈B/\Rp aa gw B k u/\(d,[u])∈B/\v= .func (F_ pu) #[] #[pt b,pt c,pt d]
 | .BR x k,v=> ∃b c d u,(b,[pt gw])∈B/\(c,[I_ x])∈B/\Rp aa gw B k u/\(d,[u])∈B/\v= .func (F_ pz) #[] #[pt b,pt c,pt d]
 | .hl me t,v=> ∃b c d p,(b,[pt gw])∈B/\(c,[I_ me])∈B/\(d,[IB p])∈B/\(match t with|none=>p=H_|some x=> ∃a,aa[x]?=G_ a/\p=A_ a)/\v= .func (F_ lY) #[] #[pt b,pt c,pt d]
variable{B:Bx}{gw:Nat}
def Rp.one:∀{k:Kn} {v:M_},Rp aa gw B k v->v.oneCell'=J_
 | .no,_,h=>by obtain rfl:=h;rfl
 | .any,_,h=>by obtain rfl:=h;rfl
 | .m f,_,h=>by obtain rfl:=h;rfl
 | .c f,_,h=>by obtain⟨_,_,rfl⟩:=h;rfl
 | .nx i,_,h=>by obtain⟨_,_,_,_,_,rfl⟩:=h;rfl
 | .aw x,_,h=>by obtain⟨_,_,_,_,_,_,rfl⟩:=h;rfl
 | .sh k,_,h=>by obtain⟨_,_,_,_,_,_,rfl⟩:=h;rfl
 | .V2 x k,_,h=>by obtain⟨_,_,_,_,_,_,_,_,_,_,rfl⟩:=h;rfl
 | .BR x k,_,h=>by obtain⟨_,_,_,_,_,_,_,_,rfl⟩:=h;rfl
 | .hl me t,_,h=>by obtain⟨_,_,_,_,_,_,_,_,rfl⟩:=h;rfl
variable{l:List Nat}
def S9(h:aa[x]?=G_ a):(aa++l)[x]?=G_ a:=by
 rw[tJ (kB.1 h).1,h]
variable{B':Bx}
def Rp.mono(e:∀p∈B,p∈B'):∀{k:Kn} {v:M_},Rp aa gw B k v->Rp (aa++l) gw B' k v
 | .no,_,h=>h
 | .any,_,h=>h
 | .m f,_,h=>h
 | .c f,_,h=>by obtain⟨b,g,h2⟩:=h;exact⟨b,e _ g,h2⟩
 | .nx i,_,h=>by obtain⟨b,c,g,h2,j,n⟩:=h;exact⟨b,c,e _ g,e _ h2,j,n⟩
 | .aw x,_,h=>by obtain⟨b,c,a,g,h2,j,n⟩:=h;exact⟨b,c,a,e _ g,S9 h2,e _ j,n⟩
 | .sh k,_,h=>by obtain⟨b,c,u,g,h2,j,n⟩:=h;exact⟨b,c,u,e _ g,Rp.mono e h2,e _ j,n⟩
 | .V2 x k,_,h=>by obtain⟨b,c,d,a,u,g,h2,j,n,o,q⟩:=h;exact⟨b,c,d,a,u,e _ g,S9 h2,e _ j,Rp.mono e n,e _ o,q⟩
 | .BR x k,_,h=>by obtain⟨b,c,d,u,g,h2,j,n,o⟩:=h;exact⟨b,c,d,u,e _ g,e _ h2,Rp.mono e j,e _ n,o⟩
 | .hl me none,_,h=>by obtain⟨b,c,d,p,g,h2,j,n,o⟩:=h;exact⟨b,c,d,p,e _ g,e _ h2,e _ j,n,o⟩
 | .hl me (some x),_,h=>by obtain⟨b,c,d,p,g,h2,j,⟨a,n,q⟩,o⟩:=h;exact⟨b,c,d,p,e _ g,e _ h2,e _ j,⟨a,S9 n,q⟩,o⟩
variable{yr:Kn}
def Rp.box(a:∀p∈B,p∈B'){v:M_}(h:Rp aa gw B yr v):Rp aa gw B' yr v:=by
 have:=Rp.mono (l:=[]) a h;rwa[List.append_nil]at this
def fz(B:Bx):HP:=jO (λp:Nat×List M_=>au p.1 p.2) B
variable{L:List HP}{f:HP->List HP}
variable{y1:List M_}
def abd(h:St w0 w L)[a:At L fz B f](b:(g,y1)∈B):∃R,St w0 w (au g y1::R):=by
 obtain⟨R,c,_⟩:=a.out;obtain⟨i,hi⟩:=List.mem_iff_getElem?.1 b;exact⟨_,BW (X:=λp:Nat×List M_=>au p.1 p.2) (c h) hi⟩
variable{yv:Option P_}
def Zn{c:Option P_->Prop}(h:St w0 w L)[a:At L fz B f](b:(g,[IB yv])∈B)(d:c yv):aQ w ⟨g,0,H_⟩ c:=by
 obtain⟨R,h2⟩:=abd h b;exact CC h2 rfl d
variable{zn:Int}
def fzI{c:Int->Prop}(h:St w0 w L)[a:At L fz B f](b:(g,[I_ zn])∈B)(d:c zn):aJ B_ w ⟨g,0,H_⟩ c:=by
 obtain⟨R,h2⟩:=abd h b;exact cr h2 rfl d
variable{zd:M_}
def fzV{c:M_->Prop}(h:St w0 w L)[a:At L fz B f](b:(g,[zd])∈B)(d:c zd):tH w ⟨g,0,H_⟩ c:=by
 obtain⟨R,h2⟩:=abd h b;exact I2 h2 rfl d
def fzW{n:Nat}{c:Array M_->Prop}(h:St w0 w L)[a:At L fz B f](b:(g,y1)∈B)(d:y1.length=n)(e:c y1.toArray):bx n w ⟨g,0,H_⟩ c:=by
 obtain⟨R,h2⟩:=abd h b;subst d;exact je h2 rfl e
def ayk(h:St w0 w (au g y1::fz B::R)):St w0 w (fz (B++[(g,y1)])::R):=QV h
def aup(h:St w0 w R):St w0 w (fz []::R):=QW h
structure Wk where
 id:Int
 dq:Int
 wait:Wt
 stack:List Nat
 back:List Kn
 cT:Kn
 op:Option bu
 after:Kn
 look:Option Lk
 seen:Kn
 step:Option jH
 left:List Int
 late:Bool
 fits:Kn
 got:Kn
 none_:Kn
 jq:Int
 home:Kn
 target:Option Nat
 kind:Int
 bO:Bool
 blocked:Bool
 again:Kn
 pG:Kn
 mark:Int
 dK:Kn
 own:Int
 said:Kn
 bits:Int
 qc:Kn
structure Wq where
 gwt:Nat
 ss:Sl
 qw:List M_
 sb:Sl
 y6:List M_
 pJ:M_
 go:Nat
 KJ:M_
 gl:Nat
 alx:M_
 gp:Nat
 sl:Sl
 Zo:M_
 ajd:M_
 Zp:M_
 LB:M_
 O6:Option P_
 zi:M_
 MG:M_
 IP:M_
 Zq:M_
 ahi:M_
 B:Bx
def poi{α:Type}(g:Nat)(o:Option α):Value:=IB (o.map λ_=>⟨g,0,H_⟩)
def Wk.cs(l:Lc)(q:Wq)(W:Wk):List Value:=[pt l.gs,I_ W.id,I_ W.dq,I_ l.log,pt q.gwt,S_ q.ss,S_ q.sb,q.pJ,poi q.go W.op,q.KJ,poi q.gl W.look,q.alx,poi q.gp W.step,S_ q.sl,Iq W.late,q.Zo,q.ajd,q.Zp,I_ W.jq,q.LB,IB q.O6,I_ W.kind,Iq W.bO,Iq W.blocked,q.zi,q.MG,I_ W.mark,q.IP,I_ W.own,q.Zq,I_ W.bits,q.ahi]
inductive KK {α β:Type} (P:α->β->Prop):List α->List β->Prop
 |nil:KK P [] []
 |cons {a:α} {b:β} {l:List α} {m:List β}:P a b->KK P l m->KK P (a::l) (b::m)
variable{α β:Type}{P:α->β->Prop}{l:List α}{m:List β}
def KK.imp'{Q:α->β->Prop}(c:∀a b,P a b->Q a b)(h:KK P l m):KK Q l m:=by
 induction h with
 |nil=>exact .nil
 |cons h1 _ ih=>exact .cons (c _ _ h1) ih
def KK.len(h:KK P l m):l.length=m.length:=by
 induction h with
 |nil=>rfl
 |cons _ _ ih=>simp[ih]
def Pts(aa:List Nat)(x:Nat)(v:M_):Prop:=∃a,aa[x]?=G_ a/\v=pt a
structure Wq.Ok (aa:List Nat) (gw:Nat) (W:Wk) (q:Wq):Prop where
 qw:KK (Pts aa) W.stack q.qw
 y6:KK (Rp aa gw q.B) W.back q.y6
 cT:Rp aa gw q.B W.cT q.pJ
 after:Rp aa gw q.B W.after q.KJ
 seen:Rp aa gw q.B W.seen q.alx
 fits:Rp aa gw q.B W.fits q.Zo
 got:Rp aa gw q.B W.got q.ajd
 none_:Rp aa gw q.B W.none_ q.Zp
 home:Rp aa gw q.B W.home q.LB
 target:match W.target with|none=>q.O6=H_|some x=> ∃a,aa[x]?=G_ a/\q.O6=A_ a
 again:Rp aa gw q.B W.again q.zi
 pG:Rp aa gw q.B W.pG q.MG
 dK:Rp aa gw q.B W.dK q.IP
 said:Rp aa gw q.B W.said q.Zq
 qc:Rp aa gw q.B W.qc q.ahi
def l6{α:Type}(X:α->HP):Option α->HP
 |none=>l9 []
 |some a=>X a
def pH(l:Lc)(aa:List Nat)(x:Nat×Wk):HP:=Gt λq:Wq=>Kf (q.Ok aa x.1 x.2) (l9 [au x.1 (x.2.cs l q),au q.gwt (x.2.wait.cells l.told),bG 1 q.ss q.qw.reverse,bG 1 q.sb q.y6.reverse,bG 1 q.sl (ints x.2.left),l6 (uh q.go) x.2.op,l6 (λk:Lk=>au q.gl (k.cells l.gc)) x.2.look,l6 (λo:jH=>au q.gp (o.cells l.sp q.gp)) x.2.step,fz q.B])
variable{W:Wk}{l:Lc}{q:Wq}
def X2(h:St w0 w (pH l aa (gw,W)::R)):∃q:Wq,q.Ok aa gw W/\St w0 w (au gw (W.cs l q)::au q.gwt (W.wait.cells l.told)::bG 1 q.ss q.qw.reverse::bG 1 q.sb q.y6.reverse::bG 1 q.sl (ints W.left)::l6 (uh q.go) W.op::l6 (λk:Lk=>au q.gl (k.cells l.gc)) W.look::l6 (λo:jH=>au q.gp (o.cells l.sp q.gp)) W.step::fz q.B::R):=by
 obtain⟨q,h⟩:=h.some;obtain⟨a,h⟩:=h.pure;exact⟨q,a,h.open⟩
def ac8(hq:q.Ok aa gw W)(h:St w0 w (au gw (W.cs l q)::au q.gwt (W.wait.cells l.told)::bG 1 q.ss q.qw.reverse::bG 1 q.sb q.y6.reverse::bG 1 q.sl (ints W.left)::l6 (uh q.go) W.op::l6 (λk:Lk=>au q.gl (k.cells l.gc)) W.look::l6 (λo:jH=>au q.gp (o.cells l.sp q.gp)) W.step::fz q.B::R)):St w0 w (pH l aa (gw,W)::R):=
 St.ex q (St.YA hq (St.shut h))
def Wq.Ok.box(h:q.Ok aa gw W)(a:∀p∈q.B,p∈B'):Wq.Ok aa gw W {q with B:=B'}:=
 ⟨h.qw,h.y6.imp' λ_ _=>Rp.box a,h.cT.box a,h.after.box a,h.seen.box a,h.fits.box a,h.got.box a,h.none_.box a,h.home.box a,h.target,h.again.box a,h.pG.box a,h.dK.box a,h.said.box a,h.qc.box a⟩
def Wq.Ok.qT{m:List Nat}(h:q.Ok aa gw W):Wq.Ok (aa++m) gw W q:=
 ⟨h.qw.imp' λ_ _ ⟨a,b,h2⟩=>⟨a,S9 b,h2⟩,h.y6.imp' λ_ _=>Rp.mono λ_ h=>h,h.cT.mono λ_ h=>h,h.after.mono λ_ h=>h,h.seen.mono λ_ h=>h,h.fits.mono λ_ h=>h,h.got.mono λ_ h=>h,h.none_.mono λ_ h=>h,h.home.mono λ_ h=>h,
  by have:=h.target;cases ht:W.target with
   |none=>rw[ht]at this;exact this
   |some x=>rw[ht]at this;obtain⟨a,b,h2⟩:=this;exact⟨a,S9 b,h2⟩,
  h.again.mono λ_ h=>h,h.pG.mono λ_ h=>h,h.dK.mono λ_ h=>h,h.said.mono λ_ h=>h,h.qc.mono λ_ h=>h⟩
def KL{cs:List M_}(hq:q.Ok aa gw W):Wq.Ok aa gw W {q with B:=q.B++[(g,cs)]}:=hq.box λp h=>hG _ h
end Go.Proofs.YthidhjhkmjjckaaGreatDoor
namespace Go.Proofs.YthidhjhkmjjckaaGreatDoor.Ck
open Go Go.Ev Go.Proofs
variable{P:Program}{t:TypeId}
def elI(h:S0 P t=G_ (1,8,G_ (I_ 0))):ET P t 1 8 (I_ 0):=⟨h,rfl⟩
abbrev gA(x:List Int):Int:=x.getD 0 0
def BS(n:Int)(x:List Int):Int:=if gA x=11 then aF B_ (n+1)else if gA x=12 then aF B_ (n - 1)else n
def my:Int->List (List Int)->List Int
 |_,[]=>[]
 |n,x::l=>n::my (BS n x) l
def Sq:∀(l:List (List Int)) (n:Int),(my n l).length=l.length
 |[],_=>rfl
 |x::l,n=>by simp[my,Sq l]
variable{dn l:List (List Int)}{s:Sl}{w:N_}{x:List Int}
variable{x0:List (List Int)}{zn:Int}
theorem ixC{c:P_->Prop}(h:tP w s l)(a:l=dn++x::x0)(hi:zn=(dn.length:Int))
  (g:∀p,x.length=5->(∀j v,(ee x)[j]?=G_ v->w.cell? (p.add j)=G_ v)->c p):cN s zn 5 c:=by
 have b:=h.len.symm;subst hi;refine akF h.rws af (by rw[<-b,a];simp;omega) λp e d f hcell=>?_
 rw[iZ,a]at d;grind
variable{j:Nat}
def m8(h:j<x.length):(ee x)[j]?=G_ (I_ (x.getD j 0)):=by
 simp[ee,h]
theorem apv{k:Sl->ap}(d:tP w s l)(hb:8*l.length<=281474976710656)
  (i:∀s' w',St w w' [bG 1 s' (ee (my 0 l))]->s'.n=l.length->k s' w'):oO s w k:=by
 have b:=d.len.symm;unfold oO;refine AT (.nil w) (elI aZ) rfl af af λs1 B h j=>ot (fun(x:Int×Int) w'=> ∃dn rest acc n,l=dn++rest/\x=(n,(dn.length:Int))/\my 0 l=acc++my n rest/\acc.length=dn.length/\St w w' [bG 1 s1 (ee acc++dU rest.length (I_ 0))])
  (λx _=>((s.n:Int) - x.2).toNat) ⟨[],l,[],0,rfl,rfl,rfl,rfl,by simpa[b,ee]using h⟩ ?_
 rintro x m ⟨dn,rest,acc,n,hlr,rfl,hd,ha,h⟩ C hC;cases rest with
 |nil=>
  refine aU (by simp only[decide_eq_false_iff_not];rw[<-b,hlr];simp) ?_
  refine i s1 m ?_ (j.trans b.symm);simp[my]at hd;rw[hd];simpa using h
 |cons x rest=>
  have e:l.length=dn.length+(rest.length+1):=by rw[hlr];simp
  refine bK (by simp only[decide_eq_true_eq];omega) ?_
  refine ixC (d.ext h.ext) hlr rfl λp f hcell=>Ho (by simp[ee,f]) hcell ?_
  refine aM h λg D h=>m7 h rfl (by simp[ee,f]) (by simp[ee,Value.oneCell']) λq h=>?_
  refine KX h af af af λg1 o r t c=>c h inferInstance 0 _ _ af rfl λa h=>cr h (by rw[m8 af]) ?_
  have u:aF B_ ((dn.length:Int)+1)=((dn++[x]).length:Int):=by rw[dh ⟨af,af⟩];simp
  have v:(ee acc++dU (rest.length+1) (Value.int B_ 0)).set ((dn.length:Int).toNat*1+0) (Value.int B_ n)=ee (acc++[n])++dU rest.length (Value.int B_ 0):=by grind
  have h:St w a [au g (ee x).toArray.toList,bG 1 s1 (ee (acc++[n])++dU rest.length (Value.int B_ 0))]:=by rw[<-v];exact h
  have y:∀n',n'=BS n x->C (n',aF B_ ((dn.length:Int)+1)) a:=by
   rintro n' rfl;rw[u];refine hC _ _ ⟨dn++[x],rest,acc++[n],BS n x,by simp[hlr],rfl,by rw[hd];simp[my],by simp[ha],?_⟩ ?_
   .exact h.drop
   .simp;omega
  unfold BS at y;refine ax (λhb=>?_) λhb=>?_
  .grind
  .have z:¬gA x=11:=by simpa using hb
   refine ax (λA=>?_) λA=>?_
   iterate 2 grind
structure Fl where
 held:List Int
 pL:List Bool
 todo:List Int
def Sr(l:List Bool):List Value:=l.map Value.bool
def Fl.now(F:Fl)(i hv:Int):Int:=oH B_ (F.held.getD i.toNat 0) hv
def Fl.stay(F:Fl)(i hv:Int):Bool:=F.pL.getD i.toNat K_&&(F.now i hv==F.held.getD i.toNat 0)
def Fl.meet(F:Fl)(i hv:Int):Fl:=if F.stay i hv then F else{held:=F.held.set i.toNat (F.now i hv),pL:=F.pL.set i.toNat J_,todo:=F.todo++[i]}
def auq(g:Nat)(code:Sl)(F:Fl)(p:Sl×Sl×Sl):List HP:=
 [au g [S_ code,S_ p.1,S_ p.2.1,S_ p.2.2],bG 1 p.1 (ints F.held),bG 1 p.2.1 (Sr F.pL),bG 1 p.2.2 (ints F.todo)]
def MH(g:Nat)(x:Sl×Fl):HP:=Gt λp=>l9 (auq g x.1 x.2 p)
variable{F:Fl}{R:List HP}{code:Sl}{g:Nat}{w0:N_}
def ac9(h:St w0 w (MH g (code,F)::R)):∃s1 s2 s3:Sl,St w0 w (au g [S_ code,S_ s1,S_ s2,S_ s3]::bG 1 s1 (ints F.held)::bG 1 s2 (Sr F.pL)::bG 1 s3 (ints F.todo)::R):=by
 obtain⟨p,h⟩:=h.some;exact⟨p.1,p.2.1,p.2.2,h.open⟩
variable{s1 s2:Sl}
def V3{s3:Sl}(h:St w0 w (au g [S_ code,S_ s1,S_ s2,S_ s3]::bG 1 s1 (ints F.held)::bG 1 s2 (Sr F.pL)::bG 1 s3 (ints F.todo)::R)):St w0 w (MH g (code,F)::R):=
 St.ex (s1,s2,s3) (St.shut h)
def aur{l:List Bool}(h:j<l.length):(Sr l)[j]?=G_ (Iq (l.getD j K_)):=by simp[Sr,h]
variable{L:List HP}{f:HP->List HP}{i:Int}{xs:List Bool}
def aym{c:Bool->Prop}(h:St w0 w L)[a:At L (bG 1 s) (Sr xs) f](b:0<=i)(j:i<xs.length)(d:c (xs.getD i.toNat K_)):cN s i 1 λa=>He w a c:=by
 have k:xs.length=s.n:=by have:=h.Gs (sz:=1) (s:=s);simpa[Sr]using this
 refine KX h af b af λg o _ e _=>akB ?_ d;have:=e h 0 _ af (aur af);simpa using this
variable{x1:Bool}
def apw{c:ap}(h:St w0 w L)[a:At L (bG 1 s) (Sr xs) f](b:0<=i)(j:i<xs.length)(d:∀w',St w0 w' (f (bG 1 s (Sr (xs.set i.toNat x1))))->c w'):cN s i 1 λa=>bN w a (Iq x1) c:=by
 have k:xs.length=s.n:=by have:=h.Gs (sz:=1) (s:=s);simpa[Sr]using this
 refine KX h af b af λg o _ _ hs=>?_;have:=hs h a 0 (Iq x1) c af rfl λw' h'=>d w' (by
  have e:(Sr xs).set (i.toNat*1+0) (Iq x1)=Sr (xs.set i.toNat x1):=by simp[Sr,List.map_set]
  rwa[e]at h')
 simpa using this
variable{hv:Int}{k:Unit->ap}
theorem anM(h:St w0 w L)[a:At L (MH g) (code,F) f](q:0<=i)(u:i<F.held.length)(S:F.pL.length=F.held.length)(hb:(F.todo.length+1)*8<=140737488355328)
  (K:∀w',St w0 w' (f (MH g (code,F.meet i hv)))->k () w'):jF (A_ g) i hv w k:=by
 obtain⟨R,M,N⟩:=a.out;obtain⟨s1,s2,s3,hS⟩:=ac9 (M h);unfold jF;refine bc (ea hS rfl (zB hS q u ?_));have fin:∀b,b=F.stay i hv->an b (k () w) (
  drew w λd=>nn (A_ g) λv=>cy d (aY v 2) λy=>nn (A_ g) λz=>cy d (aY z 1) λA=>
  cN y i 1 λB=>bN d B (Iq J_) λr=>cN A i 1 λC=>bN r C (I_ (oH B_ (F.held.getD i.toNat 0) hv)) λj=>
  nn (A_ g) λD=>cy j (aY D 3) λl=>aE j #[(I_ i)] 3 λG t=>
  og Tryz.prog #[69,69] 69 [(S_ l),(IC (G_ G) 1 1)] t λm H=>
  nn (A_ g) λI=>bN H (aY I 3) (S_ m) λo=>k () o):=by
  rintro b rfl;refine ax (λp=>?_) λp=>?_
  .have e:F.meet i hv=F:=by unfold Fl.meet;rw[HK p]
   grind
  .have e:F.meet i hv={held:=F.held.set i.toNat (F.now i hv),pL:=F.pL.set i.toNat J_,todo:=F.todo++[i]}:=by unfold Fl.meet;rw[HQ (by simp[p])]
   rw[e]at K;refine cH hS λd hS=>bc (ea hS rfl (bc (ea hS rfl ?_)));refine apw hS q af λr hS=>zC hS q u λj hS=>bc (ea hS rfl ?_);have O:F.todo.length=s3.n:=by have:=hS.Gs (sz:=1) (s:=s3);simpa using this
   refine aM hS λP t hS=>M9 (x:=⟨A_ P,1,1⟩) hS (elI aZ) aZ (WJ (n:=1) hS.au rfl 1) (by simp[Value.oneCell']) (by simp only;omega) (by simp only;omega) λQ T hS U=>?_
   have hS:=hS.drop;refine bc (j4 hS rfl bf λo hS=>K o (N (V3 (s1:=s1) (s2:=s2) (s3:=Q) ?_)));simpa[ints,Fl.now]using hS
 unfold cz;refine bc (ea hS rfl (aym hS q af ?_));refine ax (λJ=>?_) λJ=>?_
 .refine bc (ea hS rfl (zB hS q u ?_));exact fin _ (by unfold Fl.stay Fl.now;rw[J,Bool.true_and])
 .exact fin _ (by unfold Fl.stay;rw[J,Bool.false_and])
def elB(h:S0 P t=G_ (1,1,G_ (Iq K_))):ET P t 1 1 (Iq K_):=⟨h,rfl⟩
def Y3(n:Nat):dU n (Value.int B_ 0)=ints (dU n 0):=by simp[ints]
def aut(n:Nat):dU n (Value.bool K_)=Sr (dU n K_):=by simp[Sr]
def qd(x:List Int):Bool:=(gA x==6)||(gA x==7)
def EL(x:List Int):Bool:=(gA x==16)||(gA x==15)
def yA(n:Nat)(x:List Int):Bool:=qd x&&L_ (0<=x.getD 4 0/\x.getD 4 0<n)
def yB(n:Nat)(i:Int)(x:List Int):Bool:=(gA x !=6)&& !EL x&&L_ (aF B_ (i+1)<n)
def behind(n:Nat)(i:Int)(x:List Int):List Int:=(if yA n x then [x.getD 4 0]else [])++(if yB n i x then [aF B_ (i+1)]else [])
variable{Y:Nat->bt}
variable{x3:P_}{zr:Nat}
theorem apx{Lk:List Int->List HP}{ci:P_}
  (h:St w0 w (Lk [])) (Yx:0<=i) (W:l[i.toNat]?=G_ x)
  (hcell:∀{w ks},St w0 w (Lk ks)->w.cell? x3=G_ (S_ code)/\w.cell? ci=G_ (I_ i)/\tP w code l)
  (X:∀{B:HP} {ks:List Int} {z:Int} {w:N_} {c:M_->ap},St w0 w (B::Lk ks)->ks++[z] <+:behind code.n i x->(∀w',St w0 w' (B::Lk (ks++[z]))->c (Iq J_) w')->Y zr [I_ z] w c)
  (I:∀w',St w0 w' (Lk (behind code.n i x))->k () w'):xB Y (.func (.yield zr) #[] #[]) x3 ci w k:=by
 unfold xB D6;obtain⟨hs,hi,F⟩:=hcell h;have hil:i.toNat<l.length:=(kB.1 W).1;have hn:=F.len;have J:l=l.take i.toNat++x::l.drop (i.toNat+1):=by
  obtain⟨_,e⟩:=kB.1 W;rw[<-e,List.getElem_cons_drop,List.take_append_drop]
 refine IY hs (uZ hi (ixC F J (by simp;omega) λp Z hp=>Ho (by simp[ee,Z]) hp ?_))
 refine aM h λg w6 h=>m7 h rfl (by simp[ee,Z]) (by simp[ee,Value.oneCell']) λK h=>?_
 have ld:∀{w:N_} {L:List HP} {o:Nat} {c:Int->Prop},St w0 w (au g (ee x).toArray.toList::L)->o<5->c (x.getD o 0)->aJ B_ w (aY ⟨g,0,H_⟩ o) c:=by
  intro w L o c h ho I;have:=cr (g:=g) (k:=B_) h (gq (m8 (x:=x) (j:=o) af)) I
  rw[dg,FM];exact this
 have m:∀d,St w0 d (au g (ee x).toArray.toList::Lk (if yA code.n x then [x.getD 4 0]else []))->an K_ (k () d) (cz (λs=>
   aJ B_ d (aY ⟨g,0,H_⟩ 0) λM=>
   an (M !=(6:Int)) (
    aJ B_ d (aY ⟨g,0,H_⟩ 0) λN=>
    ju N d λO q=>
    an (!O) (
     aJ B_ q ci λP=>
     cy q x3 λQ=>
     (s (L_ ((aF B_ (P+(1:Int)))<((Q.n:Nat):Int))) q)) (
     (s K_ q))) (
    (s K_ d))) λR t=>
  an R (
   aJ B_ t ci λu=>
   nj (J0 [(sE,(λargs w c=>qW [(.i B_)] args λx=>jU x w λr w=>c (e9 (dL [.b] r)) w)),(sF,(λargs w c=>qW [(.i B_)] args λx=>ju x w λr w=>c (e9 (dL [.b] r)) w))] Y) (.func (.yield zr) #[] #[]) #[(I_ (aF B_ (u+(1:Int))))] t λv y=>
   Ir v λS=>
   (k () y)) (
   (k () t))):=by
  intro d h;refine aU rfl ?_;unfold cz;obtain⟨hs,hi,_⟩:=hcell h.drop;have last:∀b,b=yB code.n i x->an b (
    aJ B_ d ci λu=>
    nj (J0 [(sE,(λargs w c=>qW [(.i B_)] args λx=>jU x w λr w=>c (e9 (dL [.b] r)) w)),(sF,(λargs w c=>qW [(.i B_)] args λx=>ju x w λr w=>c (e9 (dL [.b] r)) w))] Y) (.func (.yield zr) #[] #[]) #[(I_ (aF B_ (u+(1:Int))))] d λv y=>
    Ir v λS=>(k () y)) (k () d):=by
   rintro b rfl;refine ax (λhb=>?_) λhb=>?_
   .refine uZ hi (QS (X h ?_ λw' h=>I w' ?_))
    .unfold behind;grind
    .have:=h.drop;unfold behind;rw[HK hb];exact this
   .refine I d ?_;have e:behind code.n i x=if yA code.n x then [x.getD 4 0]else []:=by unfold behind;rw[hb];simp
    rw[e];exact h.drop
  refine ld h af<|ax (λT=>?_) λT=>?_
  .refine ld h af ?_;show an _ _ _;refine ax (λU=>?_) λU=>?_
   .refine uZ hi (IY hs (last _ ?_));have A:EL x=false:=by simpa[EL]using U
    have C:(gA x !=6)=true:=T;unfold yB;rw[C,A];simp
   .refine last _ ?_;have A:EL x=true:=by
     cases hE:EL x with
     |true=>rfl
     |false=>exact absurd U (by unfold EL at hE;simp only[gA]at hE;rw[hE];simp)
    unfold yB;rw[A];simp
  .refine last _ ?_;have C:(gA x !=6)=false:=T;unfold yB;rw[C];simp
 unfold cz;refine ld h af ?_;show an _ _ _;refine ax (λV=>?_) λV=>?_
 .have G:qd x=true:=V;refine ld h af<|ax (λH=>?_) λH=>?_
  .simp only[decide_eq_true_eq]at H;obtain⟨hs,_,_⟩:=hcell h.drop;refine ld h af (IY hs ?_);refine ax (λf=>?_) λf=>?_
   .simp only[decide_eq_true_eq]at f;have D:yA code.n x=true:=by unfold yA;rw[G,decide_eq_true ⟨H,f⟩];rfl
    refine ld h af (QS (X h ?_ λw' h=>?_))
    .unfold behind;grind
    .refine m w' ?_;rw[HK D];exact h
   .simp only[decide_eq_false_iff_not]at f;have D:yA code.n x=false:=by unfold yA;rw[G,decide_eq_false (λh=>f h.2)];rfl
    refine m K ?_;rw[D];exact h
  .simp only[decide_eq_false_iff_not]at H;have D:yA code.n x=false:=by unfold yA;rw[G,decide_eq_false (λh=>H h.1)];rfl
   refine m K ?_;rw[D];exact h
 .have G:qd x=false:=V;have D:yA code.n x=false:=by unfold yA;rw[G];rfl
  refine m K ?_;rw[D];exact h
theorem aAg{m:Nat}(h:m<2 ^ 63):(bv (m:Int)).toNat=m:=by grind
theorem aje{b:BitVec 64}(h:b.toNat<2 ^ 63):b.toInt=b.toNat:=by grind
theorem ayn{a b:Int}(c:0<=a)(d:a<=255):0<=oH B_ a b/\oH B_ a b<=a:=by
 rw[QJ];have e:(bv a).toNat=a.toNat:=by grind
 have h2:(bv a&&&bv b).toNat<=a.toNat:=by rw[Jd,e];exact Nat.and_le_left
 rw[aje af];omega
def MI(x:List Int)(h:Int):Int:=if gA x=8/\0<=x.getD 1 0/\x.getD 1 0<8 then Ti B_ h (sD B_ 1 (x.getD 1 0))else h
def Fl.meets(hv:Int)(F:Fl)(zs:List Int):Fl:=zs.foldl (λF z=>F.meet z hv) F
def Fl.step(l:List (List Int))(F:Fl):Fl:=match F.todo with
 |[]=>F
 |i::t=>Fl.meets (MI (l.getD i.toNat []) (F.held.getD i.toNat 0)) {F with todo:=t} (behind l.length i (l.getD i.toNat []))
structure Fl.OK (n:Nat) (F:Fl):Prop where
 held:F.held.length=n
 pL:F.pL.length=n
 bits:∀h∈F.held,0<=h/\h<=255
 todo:∀i∈F.todo,0<=i/\i<n
def afj(l:List Int):Nat:=(l.map Int.toNat).sum
def afk(l:List Bool):Nat:=(l.map λb=>if b then 0 else 1).sum
def Fl.mu(F:Fl):Nat:=3*(afj F.held+afk F.pL)+F.todo.length
def afl:∀{l:List Int} {i:Nat} {a:Int},i<l.length->afj (l.set i a)+(l.getD i 0).toNat=afj l+a.toNat
 |[],i,a,h=>by simp at h
 |x::l,0,a,h=>by simp[afj];omega
 |x::l,i+1,a,h=>by
  have:=afl (a:=a) (gq h)
  simp[afj]at this ⊢;omega
def afm:∀{l:List Bool} {i:Nat},i<l.length->afk (l.set i J_)+(if l.getD i K_ then 0 else 1)=afk l
 |[],i,h=>by simp at h
 |x::l,0,h=>by cases x<;>simp[afk] <;>omega
 |x::l,i+1,h=>by
  have:=afm (gq h)
  simp[afk]at this ⊢;omega
variable{n:Nat}
theorem JB(h:F.OK n)(j:0<=i)(k:i<n):(F.meet i hv).OK n/\(F.meet i hv).mu<=F.mu:=by
 unfold Fl.meet;split
 .exact⟨h,iw _⟩
 .rename_i c;have hi:i.toNat<F.held.length:=by rw[h.held];omega
  have d:i.toNat<F.pL.length:=by rw[h.pL];omega
  have hb:=h.bits (F.held.getD i.toNat 0) (by
   have e:F.held.getD i.toNat 0=F.held[i.toNat]:=by simp[hi]
   rw[e];exact List.getElem_mem hi)
  have l:=ayn (b:=hv) hb.1 hb.2;refine⟨⟨by simp[h.held],by simp[h.pL],λx f=>?_,λz hz=>?_⟩,?_⟩
  .rcases List.mem_or_eq_of_mem_set f with f|rfl
   .exact h.bits x f
   .unfold Fl.now;omega
  .rcases zw.1 hz with hz|hz
   .exact h.todo z hz
   .simp at hz;omega
  .have g:=afl (a:=F.now i hv) hi;have e2:=afm d;simp only[Fl.mu,uv,List.length_singleton];unfold Fl.stay at c;unfold Fl.now at g c ⊢;grind
def Ta{n:Nat}{hv:Int}:∀{zs:List Int} {F:Fl},F.OK n->(∀z∈zs,0<=z/\z<n)->(Fl.meets hv F zs).OK n/\(Fl.meets hv F zs).mu<=F.mu
 |[],F,h,_=>⟨h,iw _⟩
 |z::zs,F,h,hz=>by
  have a:=JB (hv:=hv) h (hz z bf).1 (hz z bf).2;have h2:=Ta (hv:=hv) (zs:=zs) a.1 λy b=>hz y (by simp[b])
  exact⟨h2.1,Nat.le_trans h2.2 a.2⟩
theorem JC(c:n<=4294967296)(d:0<=i)(e:i<n):∀z∈behind n i x,0<=z/\z<n:=by
 intro z hz;have f:aF B_ (i+1)=i+1:=dh ⟨af,af⟩;unfold behind at hz;rcases zw.1 hz with hz|hz
 .split at hz
  .rename_i a;simp only[hM]at hz;subst hz;unfold yA at a;grind
  .cases hz
 .split at hz
  .rename_i b;simp only[hM]at hz;subst hz;unfold yB at b;grind
  .cases hz
def auu(a:l.length<=4294967296)(h:F.OK l.length)(b:F.todo≠ []):(F.step l).OK l.length/\(F.step l).mu<F.mu:=by
 unfold Fl.step;split
 .rename_i e;exact(b e).elim
 .rename_i i t e;have hi:=h.todo i (by rw[e];simp)
  have h':Fl.OK l.length {F with todo:=t}:=⟨h.held,h.pL,h.bits,λz c=>h.todo z (by rw[e];simp[c])⟩
  have h2:=Ta (hv:=MI (l.getD i.toNat []) (F.held.getD i.toNat 0)) h' (JC (x:=l.getD i.toNat []) a hi.1 hi.2);refine⟨h2.1,Nat.lt_of_le_of_lt h2.2 ?_⟩;simp only[Fl.mu,e,x_];omega
def ahk{G S:Type}{f:(S->ap)->S->ap}(I:G->S->ap)(μ:G->Nat){g:G}{s:S}(e:I g s w)
  (h:∀g s w,I g s w->∀C:S->ap,(∀a s' w',I a s' w'->μ a<μ g->C s' w')->f C s w):jD f s w:=by
 have key:∀n g s w,μ g<=n->I g s w->jV f (n+1) s w:=by
  intro n;induction n with
  |zero=>intro g s w i b;exact h g s w b _ λa s' w' _ c=>by omega
  |succ n ih=>intro g s w i b;exact h g s w b _ λa s' w' d c=>ih a s' w' af d
 exact⟨_,key _ g s w (iw _) e⟩
def ajf(hv:Int)(F:Fl)(ks:List Int)(z:Int):F.meets hv (ks++[z])=(F.meets hv ks).meet z hv:=by simp[Fl.meets]
variable{c:M_->ap}
variable{y1:List M_}
def My{d:(Nat->bt)->bt}(h:d Y y1 w c):Df [(n,d)] n Y y1 w c:=by
 unfold Df;rw[Nat.beq_refl];exact h
variable{zd:M_}
def auv{b:P_}(h:xB Y zd x3 b w λr w=>c (J3 #[]) w):rL Y [zd,IB (G_ x3),IB (G_ b)] w c:=h
variable{ga gp:Nat}{w':N_}
def ayo{gh:Nat}{ds:List Nat}{C:Unit×List Nat->ap}
  (j:St w w' [au gh [I_ hv],MH g (s,F),au gp [IB (A_ g)],I6 ds,au ga [zd,S_ s]]) (K:tP w s l) (V:F.OK l.length) (W:F.mu<=1000000) (hn:l.length<=1000) (L:0<=i) (N:l[i.toNat]?=G_ x)
  (A:∀D k,St w k [I6 (D::ds),MH g (s,F.meets hv (behind l.length i x)),au gp [IB (A_ g)],au ga [zd,S_ s]]->C ((),D::ds) k):
  oP s i w' λm o=>Cg (Df [(rH,rL)]) [.i B_] m o (fun(p:Int) b q=>aQ b ⟨gp,0,H_⟩ λr=>aJ B_ b ⟨gh,0,H_⟩ λt=>jF r p t b λ_u u=>q u) λG v=>C ((),G::ds) v:=by
 have X:i.toNat<l.length:=(kB.1 N).1;have O:=K.len;unfold oP;refine aM j λgc w1 j=>aM j λP w2 j=>S1 j λQ D R w3 j=>My (auv ?_);refine apx (Lk:=λks=>[obj Q (R .ready),obj D (.deferred (G_ [])),au P [I_ i],au gc [S_ s],au gh [I_ hv],MH g (s,F.meets hv ks),au gp [IB (A_ g)],I6 ds,au ga [zd,S_ s]])
  j L N (fun{w ks} h=>⟨?_,?_,K.ext h.ext⟩) (fun{B ks z w c} h hp H=>?_) λw4 h=>?_
 iterate 2 rw[(h.au).cell];rfl
 .rw[O]at hp;have I:=JC (x:=x) (n:=l.length) af L af;have f:∀y∈ks++[z],0<=y/\y<l.length:=λy J=>I y (hp.subset J);have S:=f z bf;have d:=Ta (hv:=hv) (zs:=ks) V λy J=>f y (by simp[J])
  refine amZ z (λc A=>A) h λT h=>CC h rfl (cr h rfl ?_);have U:(F.meets hv ks).todo.length<=(F.meets hv ks).mu:=by unfold Fl.mu;omega
  have Y:=d.2;refine anM h S.1 (by rw[d.1.held];exact S.2) (by rw[d.1.held,d.1.pL]) af λw6 h=>?_
  rw[<-ajf]at h;exact ace h λZ h=>H Z h
 .have e:behind s.n i x=behind l.length i x:=by rw[O]
  simp only[e]at h;refine ace h λT h=>A D T ?_;have h:=h.perm (M:=[obj D (.deferred (G_ [])),I6 ds,MH g (s,F.meets hv (behind l.length i x)),au gp [IB (A_ g)],au ga [zd,S_ s],obj Q (R .exhausted),au P [I_ i],au gc [S_ s],au gh [I_ hv]]) Hp;have h:=LK h;exact((((h.rm 7 rfl).rm 6 rfl).rm 5 rfl).rm 4 rfl)
def bP{S:Type}{body:(S->ap)->Prop}{rest:S->ap}(Inv:S->ap)(h2:∀J:S->ap,(∀s w,Inv s w->J s w)->body J)(a:∀s w,Inv s w->rest s w):cz body rest:=h2 rest a
def A2(g gp ga:Nat)(s s1 s2:Sl)(aX:Int)(n:Nat):List HP:=[au g [S_ s,S_ s1,S_ s2,IC H_ 0 0],bG 1 s1 (dU n (I_ 0)),bG 1 s2 (dU n (Iq K_)),au gp [IB (A_ g)],au ga [I_ aX,S_ s]]
def anN(w:N_)(ga:Nat)(s:Sl)(aX:Int)(a:P_)(w':N_):Prop:=∃g gp s1 s2,a=⟨gp,0,H_⟩/\s1.n=s.n/\St w w' (A2 g gp ga s s1 s2 aX s.n)
variable{aX:Int}
def leaf{J:P_->ap}(b:∀a w',anN w ga s aX a w'->J a w')(h:St w w' L)(c:s1.n=s.n)(d:L.Perm (A2 g gp ga s s1 s2 aX s.n)):J ⟨gp,0,H_⟩ w':=
 b _ _ ⟨g,gp,s1,s2,rfl,c,h.perm d⟩
def EM(n:Nat):Fl:=⟨dU n 255,dU n K_,[]⟩
def Fl.steps(l:List (List Int)):Nat->Fl->Fl
 |0,F=>F
 |m+1,F=>(Fl.steps l m F).step l
def Reached(l:List (List Int))(aX:Int)(F:Fl):Prop:=F.todo=[]/\(l=[]->F=EM 0)/\(l≠ []->∃m,F=Fl.steps l m ((EM l.length).meet 0 (oH B_ aX 255)))
def anO(n:Nat):(EM n).OK n:=⟨by simp[EM],by simp[EM],λh a=>by simp[EM]at a;omega,λi hi=>by simp[EM]at hi⟩
theorem ayp{k:Sl->ap}(W:tP w s l)(hn:s.n<=1000)
  (V:∀F s' w',Reached l aX F->St w w' [bG 1 s' (ints F.held)]->k s' w'):pA #[I_ aX,S_ s] w k:=by
 unfold pA K7;refine aM (.nil w) λga w2 h0=>?_;refine ea (g:=ga) (o:=1) h0 rfl ?_;refine bP (anN w ga s aX) (λJ r=>?_) λa75 w76 hI=>?_
 .refine cH h0 λw5 h=>ea (g:=ga) (o:=1) h rfl ?_;have f:=h;refine⟨?_,?_⟩
  .refine AT (n:=s.n) h (elI aZ) rfl af af λs1 _ h u=>eD f h ?_;refine⟨?_,?_⟩
   .refine AT (n:=s.n) h (elB aZ) rfl af af λs2 _ h _=>eD f h ?_;refine⟨?_,?_⟩
    .refine⟨?_,?_⟩
     .refine aM h λg _ h=>?_;refine aM h λgp _ h=>eD f h ?_;refine j4 (g:=gp) h rfl bf λ_ h=>leaf (g:=g) (s2:=s2) r h u ?_;unfold A2;exact Hp
     .refine aM h λgp _ h=>eD f h ?_;refine aM h λg _ h=>?_;refine j4 (g:=gp) h rfl bf λ_ h=>leaf (g:=g) (s2:=s2) r h u ?_;unfold A2;exact Hp
    .refine aM h λgp _ h=>eD f h ?_;refine aM h λg _ h=>?_;refine j4 (g:=gp) h rfl bf λ_ h=>leaf (g:=g) (s2:=s2) r h u ?_;unfold A2;exact Hp
   .refine aM h λgp _ h=>eD f h ?_;refine AT (n:=s.n) h (elB aZ) rfl af af λs2 _ h _=>eD f h ?_;refine aM h λg _ h=>?_;refine j4 (g:=gp) h rfl bf λ_ h=>leaf (g:=g) (s2:=s2) r h u ?_;unfold A2;exact Hp
  .refine⟨?_,?_⟩
   .refine AT (n:=s.n) h (elB aZ) rfl af af λs2 _ h _=>eD f h ?_;refine⟨?_,?_⟩
    .refine AT (n:=s.n) h (elI aZ) rfl af af λs1 _ h u=>eD f h ?_;refine⟨?_,?_⟩
     .refine⟨?_,?_⟩
      .refine aM h λg _ h=>?_;refine aM h λgp _ h=>eD f h ?_;refine j4 (g:=gp) h rfl bf λ_ h=>leaf (g:=g) (s2:=s2) r h u ?_;unfold A2;exact Hp
      .refine aM h λgp _ h=>eD f h ?_;refine aM h λg _ h=>?_;refine j4 (g:=gp) h rfl bf λ_ h=>leaf (g:=g) (s2:=s2) r h u ?_;unfold A2;exact Hp
     .refine aM h λgp _ h=>eD f h ?_;refine aM h λg _ h=>?_;refine j4 (g:=gp) h rfl bf λ_ h=>leaf (g:=g) (s2:=s2) r h u ?_;unfold A2;exact Hp
    .refine aM h λgp _ h=>eD f h ?_;refine AT (n:=s.n) h (elI aZ) rfl af af λs1 _ h u=>eD f h ?_;refine aM h λg _ h=>?_;refine j4 (g:=gp) h rfl bf λ_ h=>leaf (g:=g) (s2:=s2) r h u ?_;unfold A2;exact Hp
   .refine aM h λgp _ h=>eD f h ?_;refine⟨?_,?_⟩
    .refine AT (n:=s.n) h (elI aZ) rfl af af λs1 _ h u=>eD f h ?_;refine AT (n:=s.n) h (elB aZ) rfl af af λs2 _ h _=>eD f h ?_;refine aM h λg _ h=>?_;refine j4 (g:=gp) h rfl bf λ_ h=>leaf (g:=g) (s2:=s2) r h u ?_;unfold A2;exact Hp
    .refine AT (n:=s.n) h (elB aZ) rfl af af λs2 _ h _=>eD f h ?_;refine AT (n:=s.n) h (elI aZ) rfl af af λs1 _ h u=>eD f h ?_;refine aM h λg _ h=>?_;refine j4 (g:=gp) h rfl bf λ_ h=>leaf (g:=g) (s2:=s2) r h u ?_;unfold A2;exact Hp
 .obtain⟨g,gp,s1,s2,rfl,u,h⟩:=hI;unfold A2 at h;have ru:=Y3 s.n;simp only[ru]at h;refine CC (g:=gp) (o:=0) (n:=A_ g) h rfl (bc (ea (g:=g) (o:=1) h rfl ?_));refine bP (λ_ w'=>St w w' [au g [S_ s,S_ s1,S_ s2,IC H_ 0 0],bG 1 s1 (ints (dU s.n 255)),bG 1 s2 (dU s.n (Iq K_)),au gp [IB (A_ g)],au ga [I_ aX,S_ s]]) (λJ r=>?_) λ_ I h=>?_
  .refine ot (fun(i:Int) w'=> ∃j:Nat,i=j/\j<=s.n/\St w w' [au g [S_ s,S_ s1,S_ s2,IC H_ 0 0],bG 1 s1 (ints (dU j 255++dU (s.n - j) 0)),bG 1 s2 (dU s.n (Iq K_)),au gp [IB (A_ g)],au ga [I_ aX,S_ s]])
    (λi _=>((s.n:Int) - i).toNat) ⟨0,rfl,af,by simpa using h⟩ ?_
   rintro i w83 ⟨j,rfl,hj,h⟩ C hC;refine ax (λhb=>?_) λhb=>?_
   .simp only[decide_eq_true_eq]at hb;refine CC (g:=gp) (o:=0) (n:=A_ g) h rfl (bc (ea (g:=g) (o:=1) h rfl (zC (s:=s1) (xs:=dU j 255++dU (s.n - j) 0) h af (by simp;omega) λw88 h=>?_)))
    have hw:aF B_ ((j:Int)+1)=((j+1:Nat):Int):=by rw[dh ⟨af,af⟩];simp
    rw[hw];refine hC _ _ ⟨j+1,rfl,af,?_⟩ af;have e:(dU j (255:Int)++dU (s.n - j) 0).set ((j:Int)).toNat 255=dU (j+1) 255++dU (s.n - (j+1)) 0:=by
     have X:s.n - j=(s.n - (j+1))+1:=af;rw[iZ,List.set_append_right (h:=by simp),X,List.length_replicate,Nat.sub_self,List.replicate_succ (n:=s.n - (j+1)),List.set_cons_zero,List.replicate_succ' (n:=j),List.append_assoc];rfl
    rw[e]at h;exact h
   .simp only[decide_eq_false_iff_not]at hb;have e:j=s.n:=af;subst e;grind
  .have K:=W.len;refine ax (λY=>?_) λY=>?_
   .have L:s.n=0:=by
     grind
    have Z:l=[]:=o_ af;refine CC (g:=gp) (o:=0) (n:=A_ g) h rfl (bc (ea (g:=g) (o:=1) h rfl ?_));refine V (EM 0) s1 I ⟨rfl,λ_=>rfl,λhne=>(hne Z).elim⟩ ?_;have e:ints (dU s.n 255)=ints (EM 0).held:=by rw[L];rfl
    rw[<-e];exact(((h.rm 4 rfl).rm 3 rfl).rm 2 rfl).rm 0 rfl
   .have L:s.n≠0:=by
     grind
    have hb0:=aut s.n;have h:=h.DJ 1;simp only[hb0]at h;have h:St w I [MH g (s,EM s.n),au gp [IB (A_ g)],au ga [I_ aX,S_ s]]:=
     V3 (F:=EM s.n) (s1:=s1) (s2:=s2) (s3:=⟨H_,0,0⟩) (h.perm (by unfold EM;exact Hp))
    refine CC (g:=gp) (o:=0) (n:=A_ g) h rfl (cr (g:=ga) (o:=0) h rfl ?_);refine anM (g:=g) (code:=s) (F:=EM s.n) h af (by simp[EM];omega) (by simp[EM]) (by simp[EM]) λw96 h=>?_
    have h:=QR h;have N:=JB (hv:=oH B_ aX 255) (i:=0) (anO l.length) af af;have aHX:(EM l.length).mu<=1000000:=by simp[Fl.mu,EM,afj,afk];omega
    refine ahk (G:=Fl) (λF x w'=>F.OK l.length/\F.mu<=1000000/\(∃m,F=Fl.steps l m ((EM l.length).meet 0 (oH B_ aX 255)))/\St w w' [I6 x.2,MH g (s,F),au gp [IB (A_ g)],au ga [I_ aX,S_ s]]) Fl.mu
     (g:=(EM s.n).meet 0 (oH B_ aX 255)) ⟨by rw[K];exact N.1,by rw[K];have:=N.2;omega,⟨0,by rw[K];rfl⟩,h⟩ ?_
    rintro F x w99 ⟨hF,hmu,⟨m,hm⟩,h⟩ C hC;obtain⟨t1,t2,H,h⟩:=ac9 h.swap;refine CC (g:=gp) (o:=0) (n:=A_ g) h rfl (bc (ea (g:=g) (o:=3) h rfl ?_));have O:F.todo.length=H.n:=by have:=h.Gs (sz:=1) (s:=H) (vs:=ints F.todo);simpa using this
    refine ax (λhe=>?_) λhe=>?_
    .have he':(H.n:Int)=0:=by simpa using he
     have P:F.todo=[]:=o_ af;refine CC (g:=gp) (o:=0) (n:=A_ g) h rfl (bc (ea (g:=g) (o:=1) h rfl ?_));refine LL (h.front 4 rfl) λw' h=>V F t1 w' ⟨P,λZ=>?_,λ_=>⟨m,hm⟩⟩ ?_
     .rw[Z]at K;exact(L K).elim
     .exact((((h.rm 5 rfl).rm 4 rfl).rm 3 rfl).rm 2 rfl).rm 0 rfl
    .have he':¬(H.n:Int)=0:=by simpa using he
     obtain⟨i,t,B⟩:∃i t,F.todo=i::t:=by
      cases e:F.todo with
      |nil=>rw[e]at O;simp at O;omega
      |cons i t=>exact⟨i,t,rfl⟩
     have hi:=hF.todo i (by rw[B];simp)
     have hg0:F.todo.getD (0:Int).toNat 0=i:=by rw[B];rfl
     refine CC (g:=gp) (o:=0) (n:=A_ g) h rfl (bc (ea (g:=g) (o:=3) h rfl (zB (s:=H) (xs:=F.todo) h af af ?_)));rw[hg0];refine cH h λw112 h=>CC (g:=gp) (o:=0) (n:=A_ g) h rfl (CC (g:=gp) (o:=0) (n:=A_ g) h rfl (bc (ea (g:=g) (o:=3) h rfl ?_)));refine arw (s:=H) (vs:=ints F.todo) h af af λd hd h=>bc (j4 (g:=g) (o:=3) h rfl bf λw119 h=>?_);refine CC (g:=gp) (o:=0) (n:=A_ g) h rfl (bc (ea (g:=g) (o:=1) h rfl (zB (s:=t1) (xs:=F.held) h hi.1 (by rw[hF.held];exact hi.2) ?_)))
     refine aM h λgh w126 h=>j4 (g:=gh) (o:=0) h rfl bf λw127 h=>?_;have hil:i.toNat<l.length:=af;have hx:l[i.toNat]?=G_ l[i.toNat]:=iH hil;have Q:l=l.take i.toNat++l[i.toNat]::l.drop (i.toNat+1):=by simp_all
     generalize hxe:l[i.toNat]=q at hx Q;refine ea (g:=ga) (o:=1) h rfl (ixC (W.ext h.ext) Q (by simp;omega) λp f hp=>Ho (by simp[ee,f]) hp ?_)
     refine aM h λgx w132 h=>m7 (g:=gx) h rfl (by simp[ee,f]) (by simp[ee,Value.oneCell']) λy h=>?_
     have ld:∀{o:Nat} {c:Int->Prop},o<5->c (q.getD o 0)->aJ B_ y (aY ⟨gx,0,H_⟩ o) c:=by
      intro o c ho V;have:=cr (g:=gx) (o:=o) (k:=B_) (n:=q.getD o 0) (c:=c) h (by simpa using m8 (x:=q) (j:=o) af) V
      rw[dg,FM];exact this
     refine bP (λb w'=>b=L_ (gA q=8/\0<=q.getD 1 0/\q.getD 1 0<8)/\w'=y) (λJ r=>?_) ?_
     .refine ld af (ax (λhb=>?_) λhb=>?_)
      .have v:gA q=8:=by simpa using hb
       refine ld af (ax (λjR=>?_) λjR=>?_)
       iterate 2 grind
      .grind
     rintro b R ⟨rfl,rfl⟩;have X:(ints F.todo).drop ((1:Int).toNat*1)=ints t:=by rw[B];rfl
     simp only[X]at h;have h:St w R [MH g (s,{F with todo:=t}),au gh [I_ (F.held.getD i.toNat 0)],au gx (ee q),au gp [IB (A_ g)],I6 x.2,au ga [I_ aX,S_ s]]:=
      V3 (F:={F with todo:=t}) (s1:=t1) (s2:=t2) (s3:=d) (h.perm Hp)
     refine bP (λ_ w'=>St w w' [MH g (s,{F with todo:=t}),au gh [I_ (MI q (F.held.getD i.toNat 0))],au gx (ee q),au gp [IB (A_ g)],I6 x.2,au ga [I_ aX,S_ s]]) (λJ r=>?_) λ_ w147 h=>?_
     .refine ax (λhb=>?_) λhb=>?_
      .have v:=of_decide_eq_true hb;refine cH h λS h=>cr (g:=gh) (o:=0) h rfl ?_;have ld2:=cr (g:=gx) (o:=1) (k:=B_) (n:=q.getD 1 0) (c:=λT=>HI B_ 1 T λU=>bN S ⟨gh,0,H_⟩ (I_ (Ti B_ (F.held.getD i.toNat 0) U)) λA=>J () A) h (m8 af);refine ld2 ⟨v.2.1,?_⟩;refine j4 (g:=gh) (o:=0) h rfl bf λA h=>r () _ ?_;unfold MI;rw[HK v];exact h
      .have v:=of_decide_eq_false hb;refine r () _ ?_;unfold MI;rw[HQ v];exact h
     refine ea (g:=ga) (o:=1) h rfl ?_;have hF1:Fl.OK l.length {F with todo:=t}:=⟨hF.held,hF.pL,hF.bits,λz L=>hF.todo z (by rw[B];simp[L])⟩
     have hm1:Fl.mu {F with todo:=t}<=F.mu:=by simp only[Fl.mu,B,x_];omega
     have hst:F.step l=Fl.meets (MI q (F.held.getD i.toNat 0)) {F with todo:=t} (behind l.length i q):=by
      have e:l.getD i.toNat []=q:=by simp[hx]
      unfold Fl.step;rw[B];simp only[e]
     have IZ:=auu (l:=l) af hF (by rw[B];simp)
     have h:=(h.rm 2 rfl).perm (M:=[au gh [I_ (MI q (F.held.getD i.toNat 0))],MH g (s,{F with todo:=t}),au gp [IB (A_ g)],I6 x.2,au ga [I_ aX,S_ s]]) Hp;refine ayo (g:=g) (gp:=gp) (gh:=gh) (ga:=ga) (x:=q) (ds:=x.2) h W hF1 af af hi.1 hx λD w'' h=>?_;rw[<-hst]at h;exact hC (F.step l) _ _ ⟨IZ.1,af,⟨m+1,by show F.step l=(Fl.steps l m _).step l;rw[<-hm]⟩,h⟩ IZ.2
structure Wy where
 out:List Bool
 todo:List Int
def xo(x:List Int)(h:Int):Bool:=(gA x==8)&&(x.getD 1 0==h)
def W0(n:Nat):Wy:=⟨(dU n K_).set 0 J_,[0]⟩
inductive Way (l:List (List Int)) (h:Int):Int->Prop
 |zero:Way l h 0
 |next {i z:Int}:Way l h i->xo (l.getD i.toNat []) h=K_->z∈behind l.length i (l.getD i.toNat [])->Way l h z
variable{i:Nat}
def KM(x y:Int)(h:i<64):tb (oH B_ x y) i=(tb x i&&tb y i):=by
 unfold tb;rw[QJ,DH];simp
def aBO(x y:Int)(h:i<64):tb (Ti B_ x y) i=(tb x i||tb y i):=by
 unfold tb;rw[agi,DH];simp
variable{h:Nat}
theorem ahl{a:Int}(c:0<=a)(d:a<8)(b:h<8):tb (sD B_ 1 a) h=L_ (a=(h:Int)):=by
 have key:∀a:Nat,a<8->∀h:Nat,h<8->tb (sD B_ 1 (a:Int)) h=L_ (a=h):=e7;have:=key a.toNat af h b;grind
def auw(a:h<8):tb 255 h=true:=by
 have key:∀h:Nat,h<8->tb 255 h=true:=e7;exact key h a
theorem ahm(b:h<8):tb (MI x zn) h=(tb zn h||xo x h):=by
 unfold MI xo;by_cases c:gA x=8
 .by_cases a:0<=x.getD 1 0/\x.getD 1 0<8
  .rw[HK ⟨c,a⟩,aBO _ _ af,ahl a.1 a.2 b];grind
  .grind
 .grind
def rs(f:Nat->Bool):Nat->Int
 |0=>0
 |h+1=>rs f h+if f h then 2 ^ h else 0
def Tb{f g:Nat->Bool}:∀{n:Nat},(∀h,h<n->f h=g h)->rs f n=rs g n
 |0,_=>rfl
 |n+1,hfg=>by simp only[rs];rw[Tb λh a=>hfg h af,hfg n af]
def alz{v:Int}(a:0<=v)(b:v<=255):rs (tb v) 8=v:=by
 have key:∀n:Fin 256,rs (tb ((n.val:Nat):Int)) 8=((n.val:Nat):Int):=e7;have:=key ⟨v.toNat,af⟩;simp only at this;rwa[ef a]at this
theorem alA(f:Nat->Bool):∀n:Nat,0<=rs f n/\rs f n<2 ^ n
 |0=>by simp[rs]
 |n+1=>by
  have:=alA f n;simp only[rs];grind
def aBP{f:Nat->Bool}(j:h<8):tb (rs f 8) h=f h:=by
 have key:∀a b c d e f g i:Bool,∀h:Nat,h<8->tb (rs (λn=>([a,b,c,d,e,f,g,i].getD n K_)) 8) h=([a,b,c,d,e,f,g,i].getD h K_):=e7;have:=key (f 0) (f 1) (f 2) (f 3) (f 4) (f 5) (f 6) (f 7) h j;rw[show rs f 8=rs (λn=>([f 0,f 1,f 2,f 3,f 4,f 5,f 6,f 7].getD n K_)) 8 from Tb λh j=>by
  match h,j with
  |0,_=>rfl
  |1,_=>rfl
  |2,_=>rfl
  |3,_=>rfl
  |4,_=>rfl
  |5,_=>rfl
  |6,_=>rfl
  |7,_=>rfl,this]
 match h,j with
  |0,_=>rfl
  |1,_=>rfl
  |2,_=>rfl
  |3,_=>rfl
  |4,_=>rfl
  |5,_=>rfl
  |6,_=>rfl
  |7,_=>rfl
open Classical in
noncomputable def Zt (l:List (List Int)) (aX i:Int) (h:Nat):Bool:=tb aX h|| !decide (Way l h i)
noncomputable def qx (l:List (List Int)) (aX:Int):List Int:=(CX l.length).map fun(i:Nat)=>rs (Zt l aX (i:Int)) 8
def V4(l:List (List Int))(aX:Int):(qx l aX).length=l.length:=by simp[qx]
def ada(h:i<l.length):(qx l aX).getD i 0=rs (Zt l aX i) 8:=by
 simp[qx,h]
variable{i:Int}
def V5:Zt l aX i h=J_↔(tb aX h=J_\/¬Way l h i):=by
 unfold Zt;simp
variable{z:Int}
theorem meet_mono(a:F.OK n)(f:0<=z)(g:z<n)(i:h<8):
  (F.pL.getD j K_=J_->(F.meet z hv).pL.getD j K_=J_)/\(tb (F.held.getD j 0) h=K_->tb ((F.meet z hv).held.getD j 0) h=K_)/\(∀y∈F.todo,y∈(F.meet z hv).todo):=by
 unfold Fl.meet;split
 .exact⟨id,id,λ_ h=>h⟩
 .have b:z.toNat<F.held.length:=by rw[a.held];omega
  have c:z.toNat<F.pL.length:=by rw[a.pL];omega
  refine⟨λk=>?_,λhb=>?_,λy d=>hG _ d⟩
  .grind
  .simp only[m0,gi];split
   .rename_i e;subst e;simp only[b,↓reduceIte,jB];unfold Fl.now;rw[KM _ _ af,hb];rfl
   .simpa using hb
theorem alB(a:F.OK n)(b:0<=z)(c:z<n):
  ((F.meet z hv).held.getD j 0=F.held.getD j 0/\(F.meet z hv).pL.getD j K_=F.pL.getD j K_)\/(j:Int)∈(F.meet z hv).todo:=by
 unfold Fl.meet;grind
def alC(b:F.OK n)(d:0<=z)(e:z<n)(f:h<8):
  (F.meet z hv).pL.getD z.toNat K_=J_/\(tb hv h=K_->tb ((F.meet z hv).held.getD z.toNat 0) h=K_):=by
 have c:z.toNat<F.held.length:=by rw[b.held];omega
 have a:z.toNat<F.pL.length:=by rw[b.pL];omega
 unfold Fl.meet;split
 .rename_i hs;unfold Fl.stay at hs;simp only[iY,beq_iff_eq]at hs;refine⟨hs.1,λhb=>?_⟩;rw[<-hs.2];unfold Fl.now;rw[KM _ _ af,hb,Bool.and_false]
 .refine⟨by simp[m0,a],λhb=>?_⟩
  simp only[m0,gi,c,↓reduceIte,jB];unfold Fl.now;rw[KM _ _ af,hb,Bool.and_false]
theorem ajh(a:F.OK n)(c:0<=z)(d:z<n)(f:h<8)(hb:tb ((F.meet z hv).held.getD j 0) h=K_):tb (F.held.getD j 0) h=K_\/((j:Int)=z/\tb hv h=K_):=by
 have b:z.toNat<F.held.length:=by rw[a.held];omega
 unfold Fl.meet at hb;split at hb
 .exact D_ hb
 .by_cases e:z.toNat=j
  .subst e;simp only[m0,gi,b,↓reduceIte,jB]at hb;unfold Fl.now at hb;rw[KM _ _ af]at hb;grind
  .grind
def vR{n:Nat}{hv:Int}{j h:Nat}(d:h<8):∀{zs:List Int} {F:Fl},F.OK n->(∀z∈zs,0<=z/\z<n)->
  (F.pL.getD j K_=J_->(F.meets hv zs).pL.getD j K_=J_)/\(tb (F.held.getD j 0) h=K_->tb ((F.meets hv zs).held.getD j 0) h=K_)/\(∀y∈F.todo,y∈(F.meets hv zs).todo)
 |[],F,_,_=>⟨id,id,λ_ h=>h⟩
 |z::zs,F,hF,hz=>by
  have a:=hz z bf;have b:=meet_mono (hv:=hv) hF a.1 a.2 (j:=j) d;have h2:=vR (hv:=hv) (j:=j) d (zs:=zs) (JB (hv:=hv) hF a.1 a.2).1 λy c=>hz y (by simp[c])
  exact⟨λq=>h2.1 (b.1 q),λq=>h2.2.1 (b.2.1 q),λy c=>h2.2.2 y (b.2.2 y c)⟩
def aan{n:Nat}{hv:Int}{j:Nat}:∀{zs:List Int} {F:Fl},F.OK n->(∀z∈zs,0<=z/\z<n)->
  ((F.meets hv zs).held.getD j 0=F.held.getD j 0/\(F.meets hv zs).pL.getD j K_=F.pL.getD j K_)\/(j:Int)∈(F.meets hv zs).todo
 |[],F,_,_=>D_ ⟨rfl,rfl⟩
 |z::zs,F,hF,hz=>by
  have c:=hz z bf;have a:=(JB (hv:=hv) hF c.1 c.2).1;have b:∀y∈zs,0<=y/\y<n:=λy d=>hz y (by simp[d])
  rcases alB hF c.1 c.2with h1|h1
  .rcases aan a b with h2|h2
   .exact D_ ⟨h2.1.trans h1.1,h2.2.trans h1.2⟩
   .exact E_ h2
  .exact E_ ((vR (h:=0) (j:=j) af a b).2.2 _ h1)
def Ss{n:Nat}{hv:Int}{h:Nat}(e:h<8):∀{zs:List Int} {F:Fl},F.OK n->(∀z∈zs,0<=z/\z<n)->∀z∈zs,
  (F.meets hv zs).pL.getD z.toNat K_=J_/\(tb hv h=K_->tb ((F.meets hv zs).held.getD z.toNat 0) h=K_)
 |[],F,_,_=>λz c=>by cases c
 |z::zs,F,hF,c=>by
  have d:=c z bf;have a:=(JB (hv:=hv) hF d.1 d.2).1;have b:∀y∈zs,0<=y/\y<n:=λy hy=>c y (by simp[hy])
  intro y hy;rcases BP.1 hy with rfl|hy
  .have f:=alC (hv:=hv) hF d.1 d.2 e;have h2:=vR (hv:=hv) (j:=y.toNat) e a b;exact⟨h2.1 f.1,λq=>h2.2.1 (f.2 q)⟩
  .exact Ss e a b y hy
theorem X3{n:Nat}{hv:Int}{j h:Nat}(d:h<8):∀{zs:List Int} {F:Fl},F.OK n->(∀z∈zs,0<=z/\z<n)->tb ((F.meets hv zs).held.getD j 0) h=K_->
  tb (F.held.getD j 0) h=K_\/((j:Int)∈zs/\tb hv h=K_)
 |[],F,_,_=>λh=>D_ h
 |z::zs,F,hF,hz=>by
  have a:=hz z bf;have b:=(JB (hv:=hv) hF a.1 a.2).1;have c:∀y∈zs,0<=y/\y<n:=λy e=>hz y (by simp[e])
  intro hb;rcases X3 d b c hb with h1|h1
  .rcases ajh hF a.1 a.2 d h1 with h2|h2
   .exact D_ h2
   .grind
  .grind
structure FI (l:List (List Int)) (aX:Int) (F:Fl):Prop where
 ok:F.OK l.length
 c0:F.pL.getD 0 K_=J_
 b0:∀h:Nat,h<8->tb aX h=K_->tb (F.held.getD 0 0) h=K_
 sound:∀i h:Nat,i<l.length->h<8->tb (F.held.getD i 0) h=K_->tb aX h=K_/\Way l h i
 aAh:∀i:Nat,i<l.length->F.pL.getD i K_=J_->(i:Int)∈F.todo\/∀z∈behind l.length i (l.getD i []),F.pL.getD z.toNat K_=J_/\∀h:Nat,h<8->tb (MI (l.getD i []) (F.held.getD i 0)) h=K_->tb (F.held.getD z.toNat 0) h=K_
theorem FI.start(b:0<l.length):FI l aX ((EM l.length).meet 0 (oH B_ aX 255)):=by
 have j:=anO l.length;have d:=(JB (hv:=oH B_ aX 255) (i:=0) j af af).1;have e:(EM l.length).meet 0 (oH B_ aX 255)=⟨(dU l.length 255).set 0 (oH B_ 255 (oH B_ aX 255)),(dU l.length K_).set 0 J_,[0]⟩:=by
  have hs:(EM l.length).stay 0 (oH B_ aX 255)=false:=by simp[Fl.stay,EM,b]
  unfold Fl.meet;rw[hs];simp[EM,Fl.now,b]
 have a:∀i:Nat,i<l.length->((EM l.length).meet 0 (oH B_ aX 255)).held.getD i 0=if i=0 then oH B_ 255 (oH B_ aX 255)else 255:=by grind
 refine⟨d,by rw[e];simp[b],λh f hb=>?_,λi h hi f hb=>?_,λi hi g=>?_⟩
 .rw[a 0 b,HK rfl,KM _ _ af,KM _ _ af,hb];simp
 .rw[a i hi]at hb;split at hb
  .rename_i c;subst c;rw[KM _ _ af,KM _ _ af,auw f]at hb;exact⟨gq hb,.zero⟩
  .rw[auw f]at hb;cases hb
 .left;rw[e]at g ⊢;simp only[m0,gi]at g;by_cases c:i=0
  .subst c;simp
  .have:¬0=i:=λq=>c q.symm;simp[this,hi]at g
def FI.step(o:l.length<=4294967296)(h:FI l aX F):FI l aX (F.step l):=by
 unfold Fl.step;cases ht:F.todo with
 |nil=>exact h
 |cons i t=>
  have hi:=h.ok.todo i (by rw[ht];simp)
  have a:Fl.OK l.length {F with todo:=t}:=⟨h.ok.held,h.ok.pL,h.ok.bits,λz d=>h.ok.todo z (by rw[ht];simp[d])⟩
  have b:=JC (x:=l.getD i.toNat []) o hi.1 hi.2;have f:i.toNat<l.length:=af;have e:((i.toNat:Nat):Int)=i:=ef hi.1;refine⟨(Ta a b).1,(vR (h:=0) af a b).1 h.c0,λh' c hb=>(vR c a b).2.1 (h.b0 h' c hb),λj h' g c hb=>?_,λj g n=>?_⟩
  .rcases X3 c a b hb with h1|⟨k,h1⟩
   .exact h.sound j h' g c h1
   .rw[ahm c]at h1;simp only[kf]at h1;have:=h.sound i.toNat h' f c h1.1;rw[e]at this;exact⟨this.1,this.2.next h1.2 k⟩
  .rcases aan a b with⟨h1,h2⟩|h1
   .rw[h2]at n;rw[h1];by_cases m:j=i.toNat
    .subst m;right;intro z d;rw[e]at d;exact⟨(Ss (h:=0) af a b z d).1,λh' c hb=>(Ss c a b z d).2 hb⟩
    .rcases h.aAh j g n with h3|h3
     .left;rw[ht]at h3;rcases BP.1 h3 with h3|h3
      .omega
      .exact(vR (h:=0) (j:=0) af a b).2.2 _ h3
     .right;intro z d;exact⟨(vR (h:=0) af a b).1 (h3 z d).1,λh' c hb=>(vR c a b).2.1 ((h3 z d).2 h' c hb)⟩
   .exact D_ h1
def FI.steps(a:l.length<=4294967296)(h:FI l aX F):∀m,FI l aX (Fl.steps l m F)
 |0=>h
 |m+1=>(FI.steps a h m).step a
def FI.way(g:l.length<=4294967296)(m:0<l.length)(h:FI l aX F)(j:F.todo=[])(a:n<8)(hb:tb aX n=K_)(e:Way l n i):
  (0<=i/\i<l.length)/\F.pL.getD i.toNat K_=J_/\tb (F.held.getD i.toNat 0) n=false:=by
 induction e with
 |zero=>exact⟨⟨af,af⟩,h.c0,h.b0 n a hb⟩
 |@next i z e hf hz ih=>
  obtain⟨hi,k,b⟩:=ih;have c:i.toNat<l.length:=af;have d:((i.toNat:Nat):Int)=i:=ef hi.1;have:=JC g hi.1 hi.2 z hz;rcases h.aAh i.toNat c k with h3|h3
  .rw[j]at h3;cases h3
  .rw[d]at h3;have f:=h3 z hz;refine⟨this,f.1,f.2 n a ?_⟩;rw[ahm a,b,hf];rfl
theorem afn(g:l.length<=4294967296)(e:Reached l aX F):F.held=qx l aX:=by
 by_cases f:l=[]
 .subst f;rw[e.2.1 rfl];simp[EM,qx]
 .obtain⟨m,k⟩:=e.2.2 f;have a:0<l.length:=List.length_pos_iff.2 f;have b:FI l aX F:=by rw[k];exact(FI.start a).steps g m
  refine List.ext_getElem (by rw[b.ok.held,V4]) λi d h2=>?_
  have hi:i<l.length:=by rw[b.ok.held]at d;exact d
  have n:F.held[i]=F.held.getD i 0:=by simp[d]
  have e2:(qx l aX)[i]=rs (Zt l aX i) 8:=by rw[<-ada hi];simp[h2]
  have c:=b.ok.bits F.held[i] (List.getElem_mem d);rw[e2,<-alz c.1 c.2];refine Tb λh j=>?_;rw[n];cases hb:Zt l aX i h with
  |true=>
   cases o:tb (F.held.getD i 0) h with
   |true=>rfl
   |false=>
    have:=b.sound i h hi j o;rcases V5.1 hb with h3|h3
    .rw[this.1]at h3;cases h3
    .exact(h3 this.2).elim
  |false=>
   have p:¬(tb aX h=J_\/¬Way l h i):=by rw[<-V5,hb];simp
   have r:tb aX h=false:=by grind
   have s:Way l h i:=Classical.byContradiction λq=>p (E_ q);have:=(b.way g a e.1 j r s).2.2;rwa[iZ]at this
def auy{k:Sl->ap}(b:tP w s l)(g:l.length<=1000)
  (d:∀s' w',St w w' [bG 1 s' (ints (qx l aX))]->s'.n=l.length->k s' w'):pA #[I_ aX,S_ s] w k:=by
 have i:=b.len;refine ayp b af λF s' w' e h=>?_;rw[afn af e]at h;have f:(qx l aX).length=s'.n:=by have:=h.Gs (sz:=1) (s:=s');simpa using this
 exact d s' w' h (by rw[<-f,V4])
def JD:List Int:=[1,0,0,5,1,1,0,0,1,1,1,0,1,1,1,0,1,1,1,0,1,1,1,0,0,0,0,2,1,0,0,2,1,0,0,3,1,1,0,0,1,1,1,0,0,0,0,4,1,0,0,0,0,0,0,0,0,0,0,0,1,0,0,0,1,0,0,0]
def kinds(op:Int):List Int:=(JD.drop (op.toNat*4)).take 4
def qJ(l:List Int):∀v∈eZ l,v.oneCell'=true:=by
 intro v hv;exact IK v (by simpa[eZ]using hv)
variable{op:Int}
def Sj{k:Array M_->ap}(b:0<=op)(i:op<17)(c:∀w',St w w' []->k (eZ (kinds op)) w'):mg op w k:=by
 unfold mg;refine aM (.nil w) λg1 j h=>?_;iterate 16 refine⟨rfl,?_⟩
 refine qL (eZ JD) rfl aZ<|aM h λg2 d h=>m7 h rfl aZ (qJ _) λf h=>uu b af<|qM h (by simp[ints,JD];omega) ?_
 have e:(List.take 4 (List.drop (0+op.toNat*4) (eZ JD).toList))=ints (kinds op):=by
  simp[kinds,ints,eZ,List.map_take,List.map_drop]
 rw[e];have a:(kinds op).length=4:=by simp[kinds,JD];omega
 refine m7 h rfl (by simp[ints,a]) (qJ _) λg h=>?_
 refine je h (by simp[ints,a]) ?_
 exact c _ h.all
def pY(kd:Int):Int×Int:=cond (kd==1) (0,7) (cond (kd==2) (0,127) (cond (kd==3) (0,31) (cond (kd==4) (0,65535) (cond (kd==5) (-2147483648,2147483647) (0,0)))))
def ag9{k:Int×Int->ap}(a:k (pY i) w):rR i w k:=by
 unfold rR;unfold pY at a;revert a;cases (i==1)<;>cases (i==2)<;>cases (i==3)<;>cases (i==4)<;>cases (i==5)<;>exact id
def fit(x ks:List Int)(j:Nat):Bool:= !(L_ (x.getD (j+1) 0<(pY (ks.getD j 0)).1)||L_ (x.getD (j+1) 0>(pY (ks.getD j 0)).2))
def fits(x ks:List Int):Bool:=(CX 4).all (fit x ks)
def oV(x:List Int):Int:=if gA x<0\/17<=gA x then 13 else if fits x (kinds (gA x))then 0 else 10
variable{ks:List Int}
theorem apy(h:∀j,j<4->fit x ks j=J_):fits x ks=true:=by
 unfold fits;grind
theorem apz(a:j<4)(h:fit x ks j=K_):fits x ks=false:=by
 unfold fits;grind
theorem apA{k:Int->ap}(p:x.length=5)(d:∀w',St w w' []->k (oV x) w'):fa (eZ x) w k:=by
 obtain⟨o,a,b,c,n,rfl⟩:∃o a b c n,x=[o,a,b,c,n]:=by
  match x,p with
  |[o,a,b,c,n],_=>exact⟨o,a,b,c,n,rfl⟩
 unfold fa Gg;refine aM (.nil w) λg1 q h=>bP (λb w'=>b=L_ (o<0\/17<=o)/\w'=q) (λJ r=>?_) ?_
 .refine cr h rfl (ax (λhb=>?_) λhb=>?_)
  .grind
  .have:=of_decide_eq_false hb;refine cr h rfl (r _ _ ⟨?_,rfl⟩);rw[decide_eq_decide];omega
 rintro b1 s ⟨rfl,rfl⟩;refine ax (λhb=>?_) λhb=>?_
 .have:=of_decide_eq_true hb;have e:oV [o,a,b,c,n]=13:=HK this;have:=d s h.all;rwa[e]at this
 .have f:=of_decide_eq_false hb;have e:oV [o,a,b,c,n]=if fits [o,a,b,c,n] (kinds o)then 0 else 10:=HQ f
  rw[e]at d;have t:(kinds o).length=4:=by simp[kinds,JD];omega
  refine cr h rfl<|Sj af af λu h2=>?_;have h:=h.on h2.ext;refine aM h λg2 v h=>m7 h rfl (by simp[ints,t]) (qJ _) λg h=>?_
  refine cr h rfl (cr h rfl (cr h rfl (cr h rfl ?_)));refine ot (fun(y:Int×Int) w'=> ∃j:Nat,y=(0,(j:Int))/\j<=4/\(∀i,i<j->fit [o,a,b,c,n] (kinds o) i=J_)/\w'=g) (λy _=>(4 - y.2).toNat) ⟨0,rfl,af,λi hi=>by omega,rfl⟩ ?_
  rintro _ _ ⟨j,rfl,z,hfit,rfl⟩ C hC;refine ax (λhb=>?_) λhb=>?_
  .have m:j<4:=by grind
   have F:aF B_ ((j:Int)+1)=((j+1:Nat):Int):=by rw[dh ⟨af,af⟩];simp
   refine arp (l:=[a,b,c,n]) (by dsimp only;omega) (by dsimp only;omega) rfl (I0 ?_)
   refine uu (by dsimp only;omega) (by dsimp only;omega) ?_
   refine cr h (by rw[show 0+(j:Int).toNat*1=j by omega];exact vU af) ?_
   refine ag9 ?_;have A:[a,b,c,n].getD (j:Int).toNat 0=[o,a,b,c,n].getD (j+1) 0:=by rw[iZ];rfl
   dsimp only;rw[A];have B:(L_ ([o,a,b,c,n].getD (j+1) 0<(pY ((kinds o).getD j 0)).1)||L_ ([o,a,b,c,n].getD (j+1) 0>(pY ((kinds o).getD j 0)).2))= !(fit [o,a,b,c,n] (kinds o) j):=by unfold fit;rw[Bool.not_not]
   rw[B];refine ax (λhb=>?_) λhb=>?_
   .have D:fit [o,a,b,c,n] (kinds o) j=false:=by simpa using hb
    have:=d _ h.all;rw[apz m D]at this;exact this
   .grind
  .have m:j=4:=by grind
   subst m;have:=d _ h.all;rw[apy hfit]at this;exact this
def oG:Nat->List (List Int)->Int×Int
 |_,[]=>(0,0)
 |i,x::l=>if oV x !=0 then((i:Int),oV x)else oG (i+1) l
def qf(aX:Int)(l:List (List Int)):Int×Int:=
 if L_ (aX<0)||L_ (aX>255)then(-1,10)else if L_ (l.length<1)||L_ (l.length>128)then(-1,12)else oG 0 l
def adb{rest:List (List Int)}(c:l=dn++x::rest)(a:oG 0 l=oG dn.length (x::rest))(b:(oV x !=0)=K_):oG 0 l=oG (dn++[x]).length rest:=by
 rw[a];simp[oG,b]
theorem auz{k:Int×Int->ap}(q:tP w s l)
  (d:∀w',St w w' []->k (qf aX l) w'):qU #[I_ aX,S_ s] w k:=by
 have t:=q.len;unfold qU Jm;refine aM (.nil w) λg u h=>bP (λb w'=>b=(L_ (aX<0)||decide (aX>255))/\w'=u) (λJ j=>?_) ?_
 .refine cr h rfl (ax (λhb=>?_) λhb=>?_)
  .grind
  .refine cr h rfl (j _ _ ⟨by rw[hb];rfl,rfl⟩)
 rintro b1 v ⟨rfl,rfl⟩;unfold qf at d;refine ax (λhb=>?_) λhb=>?_
 .rw[hb]at d;exact d _ h.all
 .rw[hb]at d;refine bP (λb w'=>b=(L_ (l.length<1)||decide (l.length>128))/\w'=v) (λJ j=>?_) ?_
  .have y:L_ (((s.n:Nat):Int)<1)=L_ (l.length<1):=by grind
   have e2:L_ (((s.n:Nat):Int)>128)=L_ (l.length>128):=by grind
   refine ea h rfl (ax (λhb=>?_) λhb=>?_)
   .grind
   .refine ea h rfl (j _ _ ⟨by rw[<-y,<-e2];dsimp only at hb;rw[hb];rfl,rfl⟩)
  rintro b2 z ⟨rfl,rfl⟩;refine ax (λm=>?_) λm=>?_
  .rw[m]at d;exact d _ h.all
  .rw[m]at d;have A:l.length<=128:=by
    grind
   refine ea h rfl<|ot (fun(i:Int) w'=> ∃dn rest,l=dn++rest/\i=(dn.length:Int)/\oG 0 l=oG dn.length rest/\St w w' []) (λi _=>((s.n:Int) - i).toNat) ⟨[],l,rfl,rfl,rfl,h.all⟩ ?_;rintro _ w16 ⟨dn,rest,hl,rfl,hd,h⟩ C hC;cases rest with
   |nil=>
    refine aU (by simp only[decide_eq_false_iff_not];rw[t,hl];simp) ?_
    rw[hd]at d;exact d _ h
   |cons x rest=>
    have r:l.length=dn.length+(rest.length+1):=by rw[hl];simp
    have B:aF B_ ((dn.length:Int)+1)=((dn++[x]).length:Int):=by rw[dh ⟨af,af⟩];simp
    refine bK (by simp only[decide_eq_true_eq];omega) ?_
    refine ixC (q.ext h.ext) hl rfl λp f hcell=>Ho (by simp[ee,f]) hcell ?_
    refine aM h λg2 D h=>m7 h rfl (by simp[ee,f]) (qJ _) λF h=>je h (by simp[ee,f]) ?_
    refine apA f λG h2=>?_;have h:=h.all.on h2.ext;refine ax (λo=>?_) λo=>?_
    .have e:oG dn.length (x::rest)=((dn.length:Int),oV x):=by unfold oG;rw[o];rfl
     rw[hd,e]at d;exact d _ h
    .rw[B];exact hC _ _ ⟨dn++[x],rest,by rw[hl];simp,rfl,adb hl hd o,h⟩ (by simp;omega)
def G3(nf n:Nat)(x:List Int):Int:=if (qd x&&L_ (x.getD 4 0>=n))||((gA x==8)&&L_ (x.getD 4 0>=nf))then 10 else 0
def alD(n:Nat)(i:Nat)(x:List Int):Int:=if ((i:Int)==(n:Int) - 1)&&(gA x !=6)&& !EL x then 11 else 0
def sN(D:List Int)(i:Nat)(x:List Int):Bool:=
 if (gA x==12)||(gA x==13)then L_ (D.getD i 0>=1)else if gA x==16 then D.getD i 0==0 else if qd x then D.getD (x.getD 4 0).toNat 0==D.getD i 0 else J_
def B8(a b:Int):Bool:=(CX 8).all λh=> !tb a h||tb b h
def G4(P:List dB)(i:Int):Int:=(P.map dB.aX).getD i.toNat 0
def rU(P:List dB)(hv:Int)(x:List Int):Bool:=
 if gA x==9 then tb hv (x.getD 2 0).toNat else if gA x==10 then tb hv (x.getD 3 0).toNat else if gA x==8 then B8 (G4 P (x.getD 4 0)) hv else J_
def Bc(P:List dB)(n:Nat)(D H:List Int)(i:Nat)(x:List Int):Nat->Int
 |0=>G3 P.length n x
 |1=>alD n i x
 |2=>if sN D i x then 0 else 15
 |_=>if rU P (H.getD i 0) x then 0 else 16
def tG(P:List dB)(n:Nat)(D H:List Int)(i:Nat)(x:List Int):Int:=
 if Bc P n D H i x 0 !=0 then Bc P n D H i x 0 else if Bc P n D H i x 1 !=0 then Bc P n D H i x 1 else if Bc P n D H i x 2 !=0 then Bc P n D H i x 2 else Bc P n D H i x 3
def mZ(P:List dB)(n:Nat)(D H:List Int):Nat->List (List Int)->Option (Int×Int)
 |_,[]=>H_
 |i,x::l=>if tG P n D H i x !=0 then G_ ((i:Int),tG P n D H i x)else mZ P n D H (i+1) l
noncomputable def A3 (P:List dB) (f:dB):Option (Int×Int):=mZ P f.code.length (my 0 f.code) (qx f.code f.aX) 0 f.code
noncomputable def uU (P:List dB):Nat->List dB->Option (Int×Int×Int)
 |_,[]=>H_
 |k,f::l=>match A3 P f with
  |some (i,e)=>G_ ((k:Int),i,e)
  |none=>uU P (k+1) l
def rP:Nat->List dB->Option (Int×Int×Int)
 |_,[]=>H_
 |k,f::l=>if (qf f.aX f.code).2 !=0 then G_ ((k:Int),(qf f.aX f.code).1,(qf f.aX f.code).2)else rP (k+1) l
noncomputable def tj (P:List dB):Int×Int×Int:=
 if L_ (P.length<1)||L_ (P.length>32)then(-1, -1,12)else match rP 0 P with
  |some x=>x
  |none=>if G4 P 0 !=0 then(0, -1,16)else match uU P 0 P with
   |some x=>x
   |none=>(0,0,0)
def ahn{c:P_->Prop}(hr:tP w0 s l)(h:St w0 w L)(b:0<=i)(a:l[i.toNat]?=G_ x)
  (d:∀p:P_,x.length=5->(∀{w' L'},St w0 w' L'->∀{j v},(ee x)[j]?=G_ v->w'.cell? (p.add j)=G_ v)->c p):cN s i 5 c:=
 QN hr.rws h b (by rw[l8,a];rfl) λp e=>d p ((hr.GZ x (qn a)).1) e
def auA{c:Prop}(d:n<=y1.length)(h:∀{j v},y1[j]?=G_ v->w.cell? (x3.add j)=G_ v)(h':∀{j v},y1[j]?=G_ v->w'.cell? (x3.add j)=G_ v)(b:c):ai n x3 w w' c:=
 ⟨λk f=>by rw[h (iH af),h' (iH af)],b⟩
def afo(h:oV x=0):0<=gA x/\gA x<17/\(qd x=J_->0<=x.getD 4 0/\x.getD 4 0<=127)/\(gA x=8->0<=x.getD 4 0/\x.getD 4 0<=31/\0<=x.getD 1 0/\x.getD 1 0<=7)/\(gA x=9->0<=x.getD 2 0/\x.getD 2 0<=7)/\(gA x=10->0<=x.getD 3 0/\x.getD 3 0<=7):=by
 unfold oV at h;split at h
 .cases h
 .rename_i c;split at h
  .rename_i a;unfold fits at a;rw[tL]at a;have f0:=a 0 e7;have f1:=a 1 e7;have f2:=a 2 e7;have f3:=a 3 e7;refine⟨af,af,λb=>?_,λho=>?_,λho=>?_,λho=>?_⟩
   .have:gA x=6\/gA x=7:=by unfold qd at b;simpa using b
    unfold fit at f3;rcases this with ho|ho<;>rw[ho]at f3<;>simp[kinds,JD,pY]at f3 ⊢ <;>omega
   .unfold fit at f3 f0;rw[ho]at f3 f0;simp[kinds,JD,pY]at f3 f0 ⊢;omega
   .unfold fit at f1;rw[ho]at f1;simp[kinds,JD,pY]at f1 ⊢;omega
   .unfold fit at f2;rw[ho]at f2;simp[kinds,JD,pY]at f2 ⊢;omega
  .cases h
variable{P:List dB}{gj i:Nat}{k:Int->ap}{ps sd sh:Sl}
theorem apB(h:St w0 w (au gj [S_ ps,S_ s,S_ sd,S_ sh]::R))(u:tP w0 s l)(A:l[i]?=G_ x)(B:ps.n=P.length)
  (d:∀w',St w0 w' (au gj [S_ ps,S_ s,S_ sd,S_ sh]::R)->k (G3 P.length l.length x) w'):ij (A_ gj) (i:Int) w k:=by
 have H:=u.len;unfold ij xZ;refine bc (ea h rfl (ahn u h af A λp y C=>Ho (by simp[ee,y]) (λj v=>C h) ?_))
 refine aM h λg I h=>m7 h rfl (by simp[ee,y]) (qJ _) λD h=>?_
 have h:St w0 D (au g (ints x)::au gj [S_ ps,S_ s,S_ sd,S_ sh]::R):=h;refine bP (λb w'=>b=((qd x&&L_ (x.getD 4 0>=l.length))||((gA x==8)&&decide (x.getD 4 0>=P.length)))/\St w0 w' (au g (ints x)::au gj [S_ ps,S_ s,S_ sd,S_ sh]::R)) (λJ F=>?_) ?_
 .refine cH h λe h=>cr h (m8 af) ?_;have second:(qd x&&L_ (x.getD 4 0>=l.length))=K_->aJ B_ e (aY ⟨g,0,H_⟩ 0) λf=>
    an (f==(8:Int)) (
     aJ B_ e (aY ⟨g,0,H_⟩ 4) λm=>
     nn (A_ gj) λq=>
     cy e (aY (aY q 0) 0) λr=>
     (J (L_ (m>=((r.n:Nat):Int))) e)) (
     (J K_ e)):=by
   intro K;refine cr h (m8 af) (ax (λhb=>?_) λhb=>?_)
   .refine cr (o:=4) h (m8 af) (bc (ea h rfl (F _ _ ⟨?_,h⟩)));grind
   .grind
  show an _ _ _;refine ax (λt=>?_) λt=>?_
  .have z:qd x=true:=t;refine cr (o:=4) h (m8 af) (bc (ea h rfl (ax (λhb=>?_) λhb=>?_)))
   iterate 2 grind
  .have z:qd x=false:=t;exact second (by rw[z];rfl)
 rintro b G ⟨rfl,h⟩;unfold G3 at d;refine ax (λhb=>?_) λhb=>?_
 iterate 2 rw[hb]at d;exact d _ h.drop
def ays(h:St w0 w (au gj [S_ ps,S_ s,S_ sd,S_ sh]::R))(f:tP w0 s l)(j:l[i]?=G_ x)(t:l.length<=1000)
  (e:∀w',St w0 w' (au gj [S_ ps,S_ s,S_ sd,S_ sh]::R)->k (alD l.length i x) w'):jK (A_ gj) (i:Int) w k:=by
 have m:=f.len;unfold jK Bm;refine bc (ea h rfl (ahn f h af j λp u o=>uZ (o h (m8 af)) ?_));refine bP (λb w'=>b=(((i:Int)==(l.length:Int) - 1)&&(gA x !=6)&& !EL x)/\w'=w) (λJ g=>?_) ?_
 .refine bc (ea h rfl ?_);have q:aF B_ (((s.n:Nat):Int) - 1)=(l.length:Int) - 1:=by rw[m,dh ⟨af,af⟩]
  dsimp only;rw[q];refine ax (λhb=>?_) λhb=>?_
  .exact g _ _ ⟨by
     have d:((i:Int)==(l.length:Int) - 1&&(gA x !=6))=true:=hb;rw[d];rfl,rfl⟩
  .exact g _ _ ⟨by
     have d:((i:Int)==(l.length:Int) - 1&&(gA x !=6))=false:=hb;rw[d];rfl,rfl⟩
 rintro b r ⟨rfl,rfl⟩;unfold alD at e;refine ax (λhb=>?_) λhb=>?_
 iterate 2 rw[hb]at e;exact e _ h
variable{D:List Int}
theorem Zu(h:St w0 w (au gj [S_ ps,S_ s,S_ sd,S_ sh]::bG 1 sd (ints D)::R))(B:tP w0 s l)(C:l[i]?=G_ x)(T:l.length<=1000)(U:D.length=l.length)
  (G:qd x=J_->0<=x.getD 4 0/\x.getD 4 0<l.length)
  (u:∀w',St w0 w' (au gj [S_ ps,S_ s,S_ sd,S_ sh]::bG 1 sd (ints D)::R)->k (if sN D i x then 0 else 15) w'):ik (A_ gj) (i:Int) w k:=by
 have V:=B.len;have H:i<l.length:=(kB.1 C).1;unfold ik;refine cH h λw1 h=>bc (ea h rfl (ahn B h af C λp z A=>Ho (by simp[ee,z]) (λj v=>A h) ?_))
 refine bc (ea h rfl ?_);have I:D.length=sd.n:=by have:=h.Gs (sz:=1) (s:=sd);simpa using this
 refine KX (s:=sd) h af af af λgd W _ e _=>?_;have q:(ints D)[((i:Nat):Int).toNat*1+0]?=G_ (I_ (D.getD i 0)):=by
  rw[show((i:Nat):Int).toNat*1+0=i by omega];exact vU af
 refine uZ (e h 0 _ af q) ?_;have m:=h;refine aM h λg K h=>abZ (e m 0 _ af q) (e h 0 _ af q)<|eD m h<|auA (by simp[ee,z]) (fun{j v}=>A m) (fun{j v}=>A h) ?_
 refine eD m h<|m7 h rfl (by simp[ee,z]) (qJ _) λr h=>?_
 refine abZ (e m 0 _ af q) (e h 0 _ af q)<|eD m h ?_;have h:St w0 r (au g (ints x)::au gj [S_ ps,S_ s,S_ sd,S_ sh]::bG 1 sd (ints D)::R):=h;refine cr h (m8 af)<|bP (λb w'=>b=((gA x==12)||(gA x==13))/\w'=r) (λJ f=>?_) ?_
 .refine ax (λhb=>?_) λhb=>?_
  iterate 2 grind
 rintro L w16 ⟨rfl,rfl⟩;refine bP (λb w'=>b=sN D i x/\St w0 w' (au g (ints x)::au gj [S_ ps,S_ s,S_ sd,S_ sh]::bG 1 sd (ints D)::R)) (λJ f=>?_) ?_
 .unfold sN at f;refine ax (λhb=>?_) λhb=>?_
  .rw[HK hb]at f;exact f _ _ ⟨rfl,h⟩
  .rw[HQ (by rw[hb];simp)]at f
   refine ax (λF=>?_) λF=>?_
   .grind
   .have d:(gA x==16)=false:=F;rw[HQ (by rw[d];simp)]at f
    refine bP (λb w'=>b=qd x/\w'=w16) (λX t=>?_) ?_
    .refine ax (λhb=>?_) λhb=>?_
     .have d:(gA x==6)=true:=hb;exact t _ _ ⟨by unfold qd;rw[d];rfl,rfl⟩
     .have d:(gA x==6)=false:=hb;exact t _ _ ⟨by unfold qd;rw[d];rfl,rfl⟩
    rintro M N ⟨rfl,rfl⟩;refine ax (λy=>?_) λy=>?_
    .rw[HK y]at f;have O:=G y;refine cH h λP h=>bc (ea h rfl (cr (o:=4) h (m8 af) ?_));refine zB h O.1 af<|f _ _ ⟨rfl,h⟩
    .rw[HQ (by rw[y];simp)]at f
     exact f _ _ ⟨rfl,h⟩
 rintro Q S ⟨rfl,h⟩;refine ax (λhb=>?_) λhb=>?_
 .have d:sN D i x=false:=by simpa using hb
  rw[d]at u;exact u _ h.drop
 .have d:sN D i x=true:=by simpa using hb
  rw[d]at u;exact u _ h.drop
variable{a b:Int}
theorem alE(c:0<=a)(d:a<=255):0<=tU B_ a b/\tU B_ a b<=a:=by
 rw[QK];have e:(bv a).toNat=a.toNat:=by grind
 have h2:(bv a&&&~~~ bv b).toNat<=a.toNat:=by rw[Jd,e];exact Nat.and_le_left
 rw[aje af];omega
def X4(a:h<8):tb 0 h=false:=by
 have:∀h:Nat,h<8->tb 0 h=false:=e7;exact this h a
theorem A4:B8 a b=J_↔∀h:Nat,h<8->tb a h=J_->tb b h=true:=by
 unfold B8;grind
theorem KN(d:0<=a)(f:a<=255):(tU B_ a b !=0)= !B8 a b:=by
 have hb:=alE (b:=b) d f;cases hs:B8 a b with
 |true=>
  have hs':=A4.1 hs;have e:tU B_ a b=0:=by
   rw[<-alz hb.1 af,<-alz (v:=0) af af];refine Tb λh c=>?_;rw[Vc _ _ af,X4 c];grind
  rw[e];rfl
 |false=>
  have:tU B_ a b≠0:=by
   intro e;have:B8 a b=true:=A4.2 λh c g=>by
    have h2:=Vc a b (i:=h) af;rw[e,X4 c,g]at h2;simpa using h2.symm
   rw[this]at hs;cases hs
  simpa using this
theorem ajj(c:0<=a)(d:a<8):B8 (sD B_ 1 a) b=tb b a.toNat:=by
 cases ht:tb b a.toNat with
 |true=>
  refine A4.2 λh e f=>?_;rw[ahl c d e]at f;grind
 |false=>
  cases hs:B8 (sD B_ 1 a) b with
  |false=>rfl
  |true=>
   have:=A4.1 hs a.toNat af (by rw[ahl c d af];exact decide_eq_true af)
   rw[this]at ht;cases ht
theorem ade(b:0<=a)(c:a<8):0<=sD B_ 1 a/\sD B_ 1 a<=255:=by
 have e:∀m:Nat,m<8->0<=sD B_ 1 (m:Int)/\sD B_ 1 (m:Int)<=255:=e7;have:=e a.toNat af;grind
def sub_zero:B8 0 b=true:=A4.2 λh c a=>by rw[X4 c]at a;cases a
variable{f:dB}
def OA(h:P[z.toNat]?=G_ f):G4 P z=f.aX:=by simp[G4,h]
variable{H:List Int}
theorem alF(h:St w0 w (au gj [S_ ps,S_ s,S_ sd,S_ sh]::bG 1 sd (ints D)::bG 1 sh (ints H)::R))(A:tP w0 s l)(B:iA w0 ps P)(C:l[i]?=G_ x)(U:l.length<=1000)(V:H.length=l.length)
  (q:oV x=0) (I:G3 P.length l.length x=0) (K:∀f∈P,0<=f.aX/\f.aX<=255)
  (m:∀w',St w0 w' (au gj [S_ ps,S_ s,S_ sd,S_ sh]::bG 1 sd (ints D)::bG 1 sh (ints H)::R)->k (if rU P (H.getD i 0) x then 0 else 16) w'):gD (A_ gj) (i:Int) w k:=by
 have W:=A.len;have L:=B.len;have M:i<l.length:=(kB.1 C).1;obtain⟨_,_,_,r,t,u⟩:=afo q;unfold gD;refine bc (ea h rfl (ahn A h af C λp F N=>Ho (by simp[ee,F]) (λj v=>N h) ?_))
 refine aM h λg X h=>m7 h rfl (by simp[ee,F]) (qJ _) λO h=>?_
 have h:St w0 O (au g (ints x)::au gj [S_ ps,S_ s,S_ sd,S_ sh]::bG 1 sd (ints D)::bG 1 sh (ints H)::R):=h;refine cr h (m8 af)<|bP (λn w'=>(tU B_ n (H.getD i 0) !=0)= !(rU P (H.getD i 0) x)/\St w0 w' (au g (ints x)::au gj [S_ ps,S_ s,S_ sd,S_ sh]::bG 1 sd (ints D)::bG 1 sh (ints H)::R)) (λJ d=>?_) ?_
 .unfold rU at d;refine ax (λhb=>?_) λhb=>?_
  .have b:(gA x==9)=true:=hb;have e:=t (gq b)
   rw[HK b]at d;refine cr (o:=2) h (m8 af) ⟨e.1,d _ _ ⟨?_,h⟩⟩;have:=ade e.1 af;rw[KN this.1 this.2,ajj e.1 af]
  .have b:(gA x==9)=false:=hb;rw[HQ (by rw[b];simp)]at d
   refine ax (λhb=>?_) λhb=>?_
   .have b:(gA x==10)=true:=hb;have e:=u (gq b)
    rw[HK b]at d;refine cr (o:=3) h (m8 af) ⟨e.1,d _ _ ⟨?_,h⟩⟩;have:=ade e.1 af;rw[KN this.1 this.2,ajj e.1 af]
   .have b:(gA x==10)=false:=hb;rw[HQ (by rw[b];simp)]at d
    refine ax (λhb=>?_) λhb=>?_
    .have b:(gA x==8)=true:=hb;have e:=r (gq b)
     have Q:x.getD 4 0<P.length:=by
      unfold G3 at I;grind
     rw[HK b]at d;have y:P[(x.getD 4 0).toNat]?=G_ P[(x.getD 4 0).toNat]:=iH af;have G:=K _ (qn y);refine cH h λS h=>bc (ea h rfl (cr (o:=4) h (m8 af) ?_));refine QN B.rws h af (by rw[l8,y];rfl) λp z=>uZ (z h rfl) ?_
     refine d _ _ ⟨?_,h⟩;rw[KN G.1 G.2,OA y]
    .have b:(gA x==8)=false:=hb;rw[HQ (by rw[b];simp)]at d
     refine d _ _ ⟨?_,h⟩;rw[KN af af,sub_zero]
 rintro n T ⟨hnn,h⟩;refine bc (ea h rfl (zB h af af ?_));rw[iZ,hnn];refine ax (λhb=>?_) λhb=>?_
 .have b:rU P (H.getD i 0) x=false:=by simpa using hb
  rw[b]at m;exact m _ h.drop
 .have b:rU P (H.getD i 0) x=true:=by simpa using hb
  rw[b]at m;exact m _ h.drop
def Si{M:List HP}(h:St w0 w L)(e:L=M):St w0 w M:=e▸h
theorem apC(b:j<4)(c:∀a,a<j->Bc P n D H i x a=0)(d:(Bc P n D H i x j !=0)=J_):tG P n D H i x=Bc P n D H i x j:=by
 unfold tG;grind
theorem ajk(b:∀a,a<4->Bc P n D H i x a=0):tG P n D H i x=0:=by
 unfold tG;grind
def X5(kk:Nat):Option (Int×Int)->List Int
 |none=>[0,0,0]
 |some (i,e)=>[(kk:Int),i,e]
def X6(gj gk gf gr:Nat)(ps s sd sh:Sl)(D H:List Int)(asks:List M_)(nv:Int):List HP:=
 [au gj [S_ ps,S_ s,S_ sd,S_ sh],bG 1 sd (ints D),bG 1 sh (ints H),au gk asks,au gf [I_ nv,S_ s],au gr (ints [0,0,0])]
def adf(gj:Nat):List Value:=[.func (F_ ov) #[IB (A_ gj)] #[],.func (F_ qj) #[IB (A_ gj)] #[],.func (F_ ow) #[IB (A_ gj)] #[],.func (F_ nS) #[IB (A_ gj)] #[]]
variable{y3:ey}
def X7{id:FuncId}{b:M_}{d:bt}(e:∀args w c,y3 (.func id) args w c=d args.toList w c)(h:d [zd,b] w c):nj y3 (.func (F_ id) #[zd] #[]) #[b] w c:=
 bV e h
variable{a:P_}{i:Int}
def ajl(h:ij (G_ a) i w λr w=>c (I_ r) w):Fc [IB (G_ a),I_ i] w c:=h
def apD(h:jK (G_ a) i w λr w=>c (I_ r) w):H8 [IB (G_ a),I_ i] w c:=h
def ajm(h:ik (G_ a) i w λr w=>c (I_ r) w):Fe [IB (G_ a),I_ i] w c:=h
def aho(h:gD (G_ a) i w λr w=>c (I_ r) w):D7 [IB (G_ a),I_ i] w c:=h
variable{k:Array M_->ap}
theorem ajn(F:iA w ps P)(S:P[zr]?=G_ f)(I:∀x∈f.code,oV x=0)(T:f.code.length<=128)
  (U:∀f∈P,0<=f.aX/\f.aX<=255) (s:∀w',St w w' []->k (eZ (X5 zr (A3 P f))) w'):nG #[S_ ps] (zr:Int) w k:=by
 have l:=(F.code f (qn S)).2;have V:=l.len;have J:=F.len;unfold nG Ea;refine aM (.nil w) λg1 w2 h=>aM h λg3 w4 h=>ea (g:=g1) (o:=0) h rfl ?_;refine QN (e:=dB.cells f) F.rws h af (by rw[l8,iZ,S];rfl) λp W=>Ho (e:=dB.cells f) rfl (λj v=>W h) ?_
 refine aM h λm w9 h=>m7 (g:=m) h rfl rfl (by intro v hv;simp[dB.cells]at hv;rcases hv with rfl|rfl<;>rfl) λX h=>cH h λK h=>?_
 have h:St w K [au m [I_ f.aX,S_ f.sl],au g3 (ints [0,0,0]),au g1 [S_ ps]]:=h;refine je (g:=g1) h rfl (ea (g:=m) (o:=1) h rfl (ea (g:=m) (o:=1) h rfl (je (g:=m) h rfl ?_)));have q:=h;refine apv (l.ext h.ext) af λsd Y h2 nd=>?_;have h:=h.join h2;simp only[S',List.nil_append]at h;refine eD q h (eD q h (eD q h ?_));have Z:=h;refine auy (aX:=f.aX) (l.ext h.ext) af λsh w19 h3 nh=>?_;have h:=h.join h3;simp only[S',List.nil_append]at h;refine eD q h (eD q h ?_);refine⟨rfl,?_⟩;refine aM h λgj w22 h=>⟨rfl,⟨rfl,⟨rfl,⟨rfl,aM h λr L h=>?_⟩⟩⟩⟩;have h:St w L (X6 gj r m g3 ps f.sl sd sh (my 0 f.code) (qx f.code f.aX) (adf gj) f.aX):=by
  refine St.perm (Si (M:=[au r (adf gj),au gj [S_ ps,S_ f.sl,S_ sd,S_ sh],bG 1 sh (ints (qx f.code f.aX)),bG 1 sd (ints (my 0 f.code)),au m [I_ f.aX,S_ f.sl],au g3 (ints [0,0,0])]) (h.rm 6 rfl) aZ) ?_;unfold X6;exact Hp
 unfold X6 at h;refine ea (g:=m) (o:=1) h rfl ?_;have y:(my 0 f.code).length=f.code.length:=Sq _ _;have z:(qx f.code f.aX).length=f.code.length:=V4 _ _;unfold A3 at s;generalize my 0 f.code=D at h s y;generalize qx f.code f.aX=H at h s z;refine ot (fun(i:Int) w'=> ∃dn rest,f.code=dn++rest/\i=(dn.length:Int)/\mZ P f.code.length D H 0 f.code=mZ P f.code.length D H dn.length rest/\St w w' (X6 gj r m g3 ps f.sl sd sh D H (adf gj) f.aX)) (λi _=>((f.sl.n:Int) - i).toNat) ⟨[],f.code,rfl,rfl,rfl,h⟩ ?_;rintro _ w28 ⟨dn,rest,hl,rfl,hd,h⟩ C hC;cases rest with
 |nil=>
  refine aU (by simp only[decide_eq_false_iff_not];rw[V,hl];simp) ?_
  unfold X6 at h;refine m7 (g:=g3) h rfl rfl (qJ [0,0,0]) λw39 h=>je (g:=g3) h rfl ?_;rw[hd]at s;exact s _ h.all
 |cons x rest=>
  have aly:f.code.length=dn.length+(rest.length+1):=by rw[hl];simp
  have KZ:aF B_ ((dn.length:Int)+1)=((dn++[x]).length:Int):=by rw[dh ⟨af,af⟩];simp
  have G:f.code[dn.length]?=G_ x:=by rw[hl];simp
  have A:=I x (by rw[hl];simp)
  refine bK (by simp only[decide_eq_true_eq];omega) ?_
  refine ot (fun(i:Int) w'=> ∃j:Nat,i=(j:Int)/\j<=4/\(∀N,N<j->Bc P f.code.length D H dn.length x N=0)/\St w w' (X6 gj r m g3 ps f.sl sd sh D H (adf gj) f.aX)) (λi _=>(4 - i).toNat) ⟨0,rfl,af,λj u=>by omega,h⟩ ?_
  rintro _ w31 ⟨j,rfl,hj4,hz,h⟩ C2 O;refine ax (λhb=>?_) λhb=>?_
  .have u:j<4:=by grind
   have Tm:aF B_ ((j:Int)+1)=((j+1:Nat):Int):=by rw[dh ⟨af,af⟩];simp
   refine ars af af ?_;have fin:∀b,St w b (X6 gj r m g3 ps f.sl sd sh D H (adf gj) f.aX)->an (Bc P f.code.length D H dn.length x j !=(0:Int)) (
      dQ 3 b ⟨g3,0,H_⟩ #[(I_ (zr:Int)),(I_ (dn.length:Int)),(I_ (Bc P f.code.length D H dn.length x j))] λt=>
      bx 3 t ⟨g3,0,H_⟩ λB=>
      (k B t)) (
      (C2 (aF B_ ((j:Int)+(1:Int))) b)):=by
    intro b h;refine ax (λhb=>?_) λhb=>?_
    .unfold X6 at h;refine m7 (g:=g3) (vs:=eZ [(zr:Int),(dn.length:Int),Bc P f.code.length D H dn.length x j]) h rfl rfl (qJ _) λt h=>je (g:=g3) h rfl ?_;have Q:=apC u hz hb;have e:mZ P f.code.length D H dn.length (x::rest)=G_ ((dn.length:Int),Bc P f.code.length D H dn.length x j):=by
      unfold mZ;rw[Q,HK hb]
     rw[hd,e]at s;exact s _ h.all
    .rw[Tm];refine O _ _ ⟨j+1,rfl,u,λN hj'=>?_,h⟩ af;grind
   unfold X6 at h;match j,u,hz,fin with
   |0,_,hz,fin=>
    refine I2 (g:=r) (o:=0) h rfl (X7 (d:=Fc) (λ_ _ _=>rfl) (ajl ?_));exact apB h (l) G J λb h=>fin b h
   |1,_,hz,fin=>
    refine I2 (g:=r) (o:=1) h rfl (X7 (d:=H8) (λ_ _ _=>rfl) (apD ?_));exact ays h l G af λb h=>fin b h
   |2,_,hz,fin=>
    have R:G3 P.length f.code.length x=0:=hz 0 af;refine I2 (g:=r) (o:=2) h rfl (X7 (d:=Fe) (λ_ _ _=>rfl) (ajm ?_));refine Zu h l G af y (λhg=>⟨((afo A).2.2.1 hg).1,?_⟩) λb h=>fin b h;unfold G3 at R;grind
   |3,_,hz,fin=>
    have R:G3 P.length f.code.length x=0:=hz 0 af;refine I2 (g:=r) (o:=3) h rfl (X7 (d:=D7) (λ_ _ _=>rfl) (aho ?_));exact alF h l F G af z A R U λb h=>fin b h
  .have u:j=4:=by grind
   subst u;rw[KZ];refine hC _ _ ⟨dn++[x],rest,by rw[hl];simp,rfl,?_,h⟩ (by simp;omega)
   rw[hd];have e:(tG P f.code.length D H dn.length x !=0)=false:=by rw[ajk hz];rfl
   simp[mZ,e]
def Su(x:Int×Int×Int):List Int:=[x.1,x.2.1,x.2.2]
theorem Sv:∀{l:List (List Int)} {i:Nat},(oG i l).2=0->∀x∈l,oV x=0
 |[],_,_,x,hx=>by cases hx
 |y::l,i,h,x,hx=>by
  unfold oG at h;split at h
  .grind
  .rename_i hb;rcases BP.1 hx with rfl|hx
   .simpa using hb
   .exact Sv h x hx
def KO(h:(qf aX l).2=0):0<=aX/\aX<=255/\1<=l.length/\l.length<=128/\∀x∈l,oV x=0:=by
 unfold qf at h;split at h
 .cases h
 .rename_i a;split at h
  .cases h
  .rename_i h2;simp only[ed,decide_eq_true_eq,not_or]at a h2;exact⟨af,af,af,af,Sv h⟩
def OB:∀{l:List dB} {k:Nat},rP k l=H_->∀f∈l,(qf f.aX f.code).2=0
 |[],_,_,f,hf=>by cases hf
 |g::l,k,h,f,hf=>by
  unfold rP at h;split at h
  .cases h
  .rename_i hb;rcases BP.1 hf with rfl|hf
   .simpa using hb
   .exact OB h f hf
theorem HB{P:List dB}{n:Nat}{D H:List Int}:∀{l:List (List Int)} {i:Nat} {a e:Int},mZ P n D H i l=G_ (a,e)->e≠0
 |[],_,_,_,h=>by cases h
 |x::l,i,a,e,h=>by
  unfold mZ at h;split at h
  .grind
  .exact HB h
theorem alG(g:iA w ps P)
  (hc:∀w',St w w' []->k (eZ (Su (tj P))) w'):oQ #[S_ ps] w k:=by
 have l:=g.len;unfold oQ FF;refine aM (.nil w) λg1 Y h=>aM h λg3 F h=>?_;have h:St w F [au g3 (ints [0,0,0]),au g1 [S_ ps]]:=h;have H:L_ (((ps.n:Nat):Int)<1)=L_ (P.length<1):=by grind
 have e2:L_ (((ps.n:Nat):Int)>32)=L_ (P.length>32):=by grind
 refine bP (λb w'=>b=(L_ (P.length<1)||decide (P.length>32))/\w'=F) (λJ r=>?_) ?_
 .refine ea h rfl (ax (λhb=>?_) λhb=>?_)
  .grind
  .refine ea h rfl (r _ _ ⟨by rw[<-H,<-e2];dsimp only at hb;rw[hb];rfl,rfl⟩)
 rintro b8 I ⟨rfl,rfl⟩;unfold tj at hc;refine ax (λhb=>?_) λhb=>?_
 .rw[hb]at hc;refine m7 (vs:=eZ [-1, -1,12]) h rfl rfl (qJ _) λs h=>je h rfl<|hc _ h.all
 .rw[hb]at hc;rw[kf]at hb;have K:=of_decide_eq_false hb.1;have L:=of_decide_eq_false hb.2;refine ea h rfl<|bP (λ_ w'=>rP 0 P=H_/\St w w' [au g3 (ints [0,0,0]),au g1 [S_ ps]]) (λJ r=>?_) ?_
  .refine ot (fun(i:Int) w'=> ∃dn rest,P=dn++rest/\i=(dn.length:Int)/\rP 0 P=rP dn.length rest/\St w w' [au g3 (ints [0,0,0]),au g1 [S_ ps]]) (λi _=>((ps.n:Int) - i).toNat) ⟨[],P,rfl,rfl,rfl,h⟩ ?_;rintro _ w16 ⟨dn,rest,hl,rfl,hd,h⟩ C hC;cases rest with
   |nil=>
    refine aU (by simp only[decide_eq_false_iff_not];rw[l,hl];simp) ?_
    exact r _ _ ⟨by rw[hd];rfl,h⟩
   |cons f rest=>
    have t:P.length=dn.length+(rest.length+1):=by rw[hl];simp
    have u:aF B_ ((dn.length:Int)+1)=((dn++[f]).length:Int):=by rw[dh ⟨af,af⟩];simp
    have m:P[dn.length]?=G_ f:=by rw[hl];simp
    have x:=(g.code f (qn m)).2;refine bK (by simp only[decide_eq_true_eq];omega) ?_
    refine QN g.rws h af (by rw[l8,iZ,m];rfl) λp y=>Ho rfl (λj v=>y h) ?_
    refine aM h λZ I h=>m7 h rfl rfl (by intro v hv;simp[dB.cells]at hv;rcases hv with rfl|rfl<;>rfl) λs h=>je h rfl ?_
    refine auz (x.ext h.ext) λM h2=>?_;have h:=h.drop.on h2.ext;refine ax (λz=>?_) λz=>?_
    .refine m7 (vs:=eZ [(dn.length:Int),(qf f.aX f.code).1,(qf f.aX f.code).2]) h rfl rfl (qJ _) λN h=>je h rfl ?_;have e:rP 0 P=G_ ((dn.length:Int),(qf f.aX f.code).1,(qf f.aX f.code).2):=by rw[hd];unfold rP;rw[HK z]
     rw[e]at hc;exact hc _ h.all
    .rw[u];refine hC _ _ ⟨dn++[f],rest,by rw[hl];simp,rfl,?_,h⟩ (by simp;omega)
     have A:((qf f.aX f.code).2 !=0)=false:=z;rw[hd];simp[rP,A]
  rintro _ O ⟨hsh,h⟩;rw[hsh]at hc;have B:=OB hsh;have G:P[0]?=G_ P[0]:=iH af;refine ea h rfl<|QN (e:=dB.cells P[0]) g.rws h af (by rw[l8];simp[G]) λp y=>uZ (y h rfl) ?_
  have Q:G4 P 0=P[0].aX:=OA G;rw[<-Q];refine ax (λhb=>?_) λhb=>?_
  .refine m7 (vs:=eZ [0, -1,16]) h rfl rfl (qJ _) λR h=>je h rfl ?_;dsimp only at hc;rw[HQ bf,HK hb]at hc;exact hc _ h.all
  .dsimp only at hc;rw[HQ bf,HQ (by rw[hb];simp)]at hc
   refine ea h rfl<|ot (fun(i:Int) w'=> ∃dn rest,P=dn++rest/\i=(dn.length:Int)/\uU P 0 P=uU P dn.length rest/\St w w' [au g3 (ints [0,0,0]),au g1 [S_ ps]]) (λi _=>((ps.n:Int) - i).toNat) ⟨[],P,rfl,rfl,rfl,h⟩ ?_;rintro _ S ⟨dn,rest,hl,rfl,hd,h⟩ C hC;cases rest with
   |nil=>
    refine aU (by simp only[decide_eq_false_iff_not];rw[l,hl];simp) ?_
    refine m7 (vs:=eZ [0,0,0]) h rfl rfl (qJ _) λT h=>je h rfl ?_;have e:uU P 0 P=none:=by rw[hd];rfl
    rw[e]at hc;exact hc _ h.all
   |cons f rest=>
    have t:P.length=dn.length+(rest.length+1):=by rw[hl];simp
    have u:aF B_ ((dn.length:Int)+1)=((dn++[f]).length:Int):=by rw[dh ⟨af,af⟩];simp
    have m:P[dn.length]?=G_ f:=by rw[hl];simp
    have o:=KO (B f (qn m));refine bK (by simp only[decide_eq_true_eq];omega) ?_
    refine je h rfl<|ajn (g.ext h.ext) m o.2.2.2.2 o.2.2.2.1 (λq hq=>⟨(KO (B q hq)).1,(KO (B q hq)).2.1⟩) λU h2=>?_;have h:=h.on h2.ext;have d:(X5 dn.length (A3 P f)).length=3:=by cases A3 P f<;>rfl
    refine aM h λg4 V h=>m7 h rfl (by simp[eZ,ints,d]) (qJ _) λW h=>je h (by simp[eZ,ints,d]) ?_
    refine akD d (ys:=[0,0,0]) rfl ?_;cases hft:A3 P f with
    |none=>
     refine aU (by simp[X5]) ?_
     rw[u];refine hC _ _ ⟨dn++[f],rest,by rw[hl];simp,rfl,?_,h.drop⟩ (by simp;omega)
     rw[hd];simp[uU,hft]
    |some q=>
     obtain⟨i,e⟩:=q;have D:=HB hft;refine bK (by simp[X5,D]) ?_
     rw[hft]at h;refine je h rfl<|m7 h rfl rfl (qJ _) λX h=>je h rfl ?_;have e':uU P 0 P=G_ ((dn.length:Int),i,e):=by rw[hd];simp[uU,hft]
     rw[e']at hc;exact hc _ h.all
theorem apE(hb:pN w g (eZ D))(k:∀x∈l,x.length=5/\∀y∈x,sy y)
  (d:∀i,i<l.length->∀j,j<5->D[n+i*5+j]?=(l.getD i [])[j]?) (Zs:l.length*40<=reachBytes):tP w ⟨G_ ⟨g,n,H_⟩,l.length,h⟩ l:=by
 refine⟨⟨bf,λi e a=>?_⟩,k,Zs⟩;rw[l8]at a;cases hx:l[i]? with
 |none=>rw[hx]at a;cases a
 |some x=>
  rw[hx]at a;have f:e=ints x:=gq a.symm
  subst f;have hi:i<l.length:=(kB.1 hx).1;have b:=(k x (qn hx)).1;refine⟨by simp[ints,b],⟨g,n,H_⟩,rfl,λj v hv=>?_⟩
  have m:j<5:=by have:=(kB.1 hv).1;simp[ints,b]at this;exact this
  have:=d i hi j m;rw[dg,dg,hb.cell];grind
def ajo(m:Nat)(a:l.length<=4294967296)(b:l≠ [])(c:(Fl.steps l m ((EM l.length).meet 0 (oH B_ aX 255))).todo=[]):qx l aX=(Fl.steps l m ((EM l.length).meet 0 (oH B_ aX 255))).held:=
 (afn a ⟨c,λq=>(b q).elim,λ_=>⟨m,rfl⟩⟩).symm
def alH{r:Option (Int×Int)}(b:qx l 0=H)(a:(qf 0 l).2=0)(c:mZ [⟨0,s,l⟩] l.length (my 0 l) H 0 l=r):
  tj [⟨0,s,l⟩]=(match r with|none=>(0,0,0)|some (i,e)=>(0,i,e)):=by
 have d:A3 [⟨0,s,l⟩] ⟨0,s,l⟩=r:=by unfold A3;rw[b];exact c
 have e2:rP 0 [(⟨0,s,l⟩:dB)]=none:=by simp[rP,a]
 unfold tj;rw[e2];simp only[G4,uU,d];cases r<;>simp
def aBQ:Zr Tryz.prog 75 76 78 22 24 3:=⟨⟨_,Tryz.underlying75⟩,aZ,aZ,aZ,Tryz.underlying76,⟨_,_,Tryz.underlying78,rfl,rfl,rfl,rfl⟩,Tryz.underlying3,aZ,aZ,aZ,aZ,Tryz.underlying22,aZ,⟨_,Tryz.underlying24,rfl,rfl⟩,aZ⟩
theorem afp{A:Type}{sz:Nat}:∀{es:List (List A)},(∀e∈es,e.length=sz)->es.flatten.length=es.length*sz
 |[],_=>by simp
 |e::es,h=>by
  have:=afp (es:=es) λx a=>h x (by simp[a])
  grind
theorem Tc{A:Type}{sz:Nat}:∀{es:List (List A)},(∀e∈es,e.length=sz)->∀{i j:Nat} {e:List A},es[i]?=G_ e->j<sz->es.flatten[i*sz+j]?=e[j]?
 |[],_,i,j,e,he,_=>by simp at he
 |x::es,h,0,j,e,he,hj=>by
  grind
 |x::es,h,i+1,j,e,he,hj=>by
  have a:=h x bf;rw[List.flatten_cons,u0 (by rw[a,Nat.add_mul];omega),a,Nat.add_mul,Nat.one_mul]
  rw[show i*sz+sz+j - sz=i*sz+j by omega]
  exact Tc (λy b=>h y (by simp[b])) (gq he) hj
def auB(p:P_)(a b:Nat):(p.add a).add b=p.add (a+b):=by
 by_cases c:a=0
 .subst c;simp[aY]
 .by_cases hb:b=0
  .subst hb;simp[aY]
  .have:a+b≠0:=af;simp[aY,c,hb,this,Nat.add_assoc]
theorem auC{sz:Nat}{es:List (List M_)}(h:Hj sz w s es.flatten)(a:0<sz)(d:∀e∈es,e.length=sz):QM sz w s es:=by
 have k:es.length*sz=s.n*sz:=by rw[<-afp d];exact h.len
 refine⟨Nat.eq_of_mul_eq_mul_right a k,λi e f=>?_⟩;have b:=d e (qn f);refine⟨b,?_⟩;have l:=Tc d f a;obtain⟨p,g,_⟩:=h.cell (i*sz+0) e[0] (by rw[l];exact iH af)
 refine⟨p,g,λj v hv=>?_⟩;have m:j<sz:=by grind
 obtain⟨q,c,o⟩:=h.cell (i*sz+j) v (by rw[Tc d f m];exact hv)
 rw[g]at c;cases c;rw[auB];exact o
structure Few (P:List dB):Prop where
 n:P.length<=40
 c:∀f∈P,f.code.length<=140
variable{k:Bool->ap}
theorem aBR(g:iA w ps P)(l:∀b w',St w w' []->(b=J_->Few P)->k b w'):lm #[S_ ps] w k:=by
 have o:=g.len;unfold lm;refine aM (.nil w) λg1 x h=>ot (fun(i:Int) w'=> ∃dn rest,P=dn++rest/\i=(dn.length:Int)/\dn.length<=41/\(∀f∈dn,f.code.length<=140)/\St w w' [au g1 [S_ ps]]) (λi _=>(41 - i).toNat) ⟨[],P,rfl,rfl,bf,bf,h⟩ ?_;rintro _ y ⟨dn,rest,hl,rfl,s,hd,h⟩ C hC;refine ea h rfl (ax (λhb=>?_) λhb=>?_)
 .simp only[iY,decide_eq_true_eq]at hb;have d:dn.length<P.length:=af;obtain⟨f,rest,rfl⟩:∃f r,rest=f::r:=by
   cases rest with
   |nil=>rw[hl]at d;simp at d
   |cons f r=>exact⟨f,r,rfl⟩
  have m:P[dn.length]?=G_ f:=by rw[hl];simp
  have j:=(g.code f (qn m)).2;have z:=j.len;refine ea h rfl<|QN g.rws h af (by rw[l8,iZ,m];rfl) λp t=>IY (t h rfl) (ax (λu=>?_) λu=>?_)
  .exact l _ _ h.all λq=>by cases q
  .have e:f.code.length<=140:=by grind
   have v:aF B_ ((dn.length:Int)+1)=((dn++[f]).length:Int):=by rw[dh ⟨af,af⟩];simp
   rw[v];refine hC _ _ ⟨dn++[f],rest,by rw[hl];simp,rfl,by simp;omega,λq hq=>?_,h⟩ (by simp;omega)
   grind
 .refine ea h rfl (l _ _ h.all λq=>?_);have e:P.length<=40:=by grind
  refine⟨e,λf A=>?_⟩;grind
def adg(b:iA w ps P)(d:∀w',St w w' []->k (L_ (Su (tj P)=[0,0,0])) w'):gM #[S_ ps] w k:=by
 unfold gM FG;refine aM (.nil w) λg e h=>je h rfl (alG (b.ext h.ext) λw' h2=>?_);have h:=h.on h2.ext;exact akD (n:=3) (ys:=[0,0,0]) rfl rfl (d w' h.all)
theorem alI(x:List Int):oV x=0\/oV x=10\/oV x=13:=by
 unfold oV;grind
def Sw:∀{l:List (List Int)} {i:Nat},(oG i l).2≠16
 |[],i=>by simp[oG]
 |x::l,i=>by
  unfold oG;split
  .have:=alI x;simp only;omega
  .exact Sw
def ahp(aX:Int)(l:List (List Int)):(qf aX l).2≠16:=by
 unfold qf;split
 .simp
 .split
  .simp
  .exact Sw
def ahq:∀{l:List dB} {k:Nat} {x:Int×Int×Int},rP k l=G_ x->x.2.2≠16
 |[],_,_,h=>by cases h
 |f::l,k,x,h=>by
  unfold rP at h;split at h
  .cases h;exact ahp _ _
  .exact ahq h
theorem X8{P:List dB}:∀{l:List dB} {k:Nat} {a i e:Int},uU P k l=G_ (a,i,e)->∃m f,l[m]?=G_ f/\a=((k+m:Nat):Int)/\A3 P f=G_ (i,e)
 |[],_,_,_,_,h=>by cases h
 |f::l,k,a,i,e,h=>by
  unfold uU at h;split at h
  .grind
  .obtain⟨m,g,b,h2,c⟩:=X8 h;exact⟨m+1,g,gq b,by rw[h2];congr 1;omega,c⟩
def B9(nf n:Nat)(x:List Int):Bool:=(qd x&&L_ (x.getD 4 0>=n))||((gA x==8)&&L_ (x.getD 4 0>=nf))
def Sx(n:Nat)(i:Nat)(x:List Int):Bool:=((i:Int)==(n:Int) - 1)&&(gA x !=6)&& !EL x
variable{i:Nat}
def auD(h:B9 P.length n x=J_):tG P n D H i x=10:=by
 have e:Bc P n D H i x 0=10:=HK h;unfold tG;rw[e];rfl
def auE(h:B9 P.length n x=K_):Bc P n D H i x 0=0:=HQ (by unfold B9 at h;rw[h];simp)
def auF(h:B9 P.length n x=K_)(h2:Sx n i x=J_):tG P n D H i x=11:=by
 have e:Bc P n D H i x 1=11:=HK h2;unfold tG;rw[auE h,e];rfl
def Fw(h2:Sx n i x=K_):Bc P n D H i x 1=0:=HQ (by unfold Sx at h2;rw[h2];simp)
def auG(h:B9 P.length n x=K_)(h2:Sx n i x=K_)(a:sN D i x=K_):tG P n D H i x=15:=by
 have e:Bc P n D H i x 2=15:=HQ (by rw[a];simp)
 unfold tG;rw[auE h,Fw h2,e];rfl
def ajp(h:B9 P.length n x=K_)(h2:Sx n i x=K_)(a:sN D i x=J_):tG P n D H i x=if rU P (H.getD i 0) x then 0 else 16:=by
 have e:Bc P n D H i x 2=0:=HK a;unfold tG;rw[auE h,Fw h2,e];rfl
theorem adh(h:B9 P.length n x=K_):(qd x=J_->x.getD 4 0<n)/\(gA x=8->x.getD 4 0<P.length):=by
 unfold B9 at h;grind
def agq(x:List Int):Bool:= !((gA x==13)||((gA x==11)&&(x.getD 4 0 !=0)))
def aga(P:List dB):Bool:=P.all λf=>f.code.all agq
theorem aao:∀{l:List dB} {k:Nat} {x:Int×Int×Int},rP k l=G_ x->x.2.2≠0
 |[],_,_,h=>by cases h
 |f::l,k,x,h=>by
  unfold rP at h;split at h
  .grind
  .exact aao h
structure Acc (P:List dB) (f:dB):Prop where
 n0:0<=f.aX
 n1:f.aX<=255
 l0:1<=f.code.length
 l1:f.code.length<=128
 ok:∀x∈f.code,oV x=0
 good:∀i x,f.code[i]?=G_ x->tG P f.code.length (my 0 f.code) (qx f.code f.aX) i x=0
structure oW (P:List dB):Prop where
 n0:1<=P.length
 n1:P.length<=32
 root:G4 P 0=0
 all:∀f∈P,Acc P f
theorem HC{P:List dB}{n:Nat}{D H:List Int}:∀{l:List (List Int)} {i:Nat},mZ P n D H i l=H_↔∀j x,l[j]?=G_ x->tG P n D H (i+j) x=0
 |[],i=>by simp[mZ]
 |y::l,i=>by
  unfold mZ;split
  .rename_i hb;refine⟨λh=>(by cases h),λh=>?_⟩
   have:=h 0 y rfl;grind
  .rename_i hb;rw[HC];refine⟨λh j x a=>?_,λh j x a=>?_⟩
   .grind
   .rw[show i+1+j=i+(j+1) by omega];exact h (j+1) x (gq a)
theorem OC{P:List dB}:∀{l:List dB} {k:Nat},uU P k l=H_↔∀f∈l,A3 P f=H_
 |[],k=>by simp[uU]
 |g::l,k=>by
  unfold uU;cases h:A3 P g with
  |some q=>
   grind
  |none=>
   simp only;rw[OC];grind
def X9:∀{l:List (List Int)} {i:Nat},(∀x∈l,oV x=0)->(oG i l).2=0
 |[],_,_=>rfl
 |y::l,i,h=>by
  unfold oG;rw[HQ (by rw[h y bf];simp)]
  exact X9 λx a=>h x (by simp[a])
def adi:∀{l:List dB} {k:Nat},(∀f∈l,(qf f.aX f.code).2=0)->rP k l=H_
 |[],_,_=>rfl
 |y::l,k,h=>by
  unfold rP;rw[HQ (by rw[h y bf];simp)]
  exact adi λx a=>h x (by simp[a])
def afq:(tj P).2.2=0↔oW P:=by
 constructor
 .intro h;unfold tj at h;split at h
  .exfalso;dsimp only at h;omega
  .rename_i k;simp only[ed,decide_eq_true_eq,not_or]at k;cases hs:rP 0 P with
   |some x=>rw[hs]at h;exact(aao hs h).elim
   |none=>
    rw[hs]at h;simp only at h;split at h
    .exfalso;dsimp only at h;omega
    .rename_i l;cases g:uU P 0 P with
     |some x=>
      obtain⟨a,i,e⟩:=x;rw[g]at h;simp only at h;obtain⟨m,f,_,_,n⟩:=X8 g;exact(HB n h).elim
     |none=>
      refine⟨af,af,gq l,λf p=>?_⟩
      obtain⟨a,b,c,d,e⟩:=KO (OB hs f p);refine⟨a,b,c,d,e,λi x o=>?_⟩;have q:=OC.1 g f p;unfold A3 at q;have:=HC.1 q i x o;rwa[FM]at this
 .intro h;have hs:rP 0 P=none:=adi λf g=>by
   have:=h.all f g;have l:=this.n0;have r:=this.n1;have s:=this.l0;have t:=this.l1;unfold qf;rw[HQ (by simp only[ed,decide_eq_true_eq];omega),HQ (by simp only[ed,decide_eq_true_eq];omega)]
   exact X9 this.ok
  have g:uU P 0 P=none:=OC.2 λf g=>by
   unfold A3;exact HC.2 λj x o=>by rw[FM];exact(h.all f g).good j x o
  have l:=h.n0;have r:=h.n1;unfold tj;rw[HQ (by simp only[ed,decide_eq_true_eq];omega),hs]
  simp only;rw[HQ (by rw[h.root];simp),g]
structure Good (P:List dB) (n:Nat) (D H:List Int) (i:Nat) (x:List Int):Prop where
 places:B9 P.length n x=K_
 last:Sx n i x=K_
 scopes:sN D i x=J_
 ajq:rU P (H.getD i 0) x=J_
def apG:tG P n D H i x=0↔Good P n D H i x:=by
 constructor
 .intro h;cases a:B9 P.length n x with
  |true=>rw[auD a]at h;cases h
  |false=>
   cases h2:Sx n i x with
   |true=>rw[auF a h2]at h;cases h
   |false=>
    cases b:sN D i x with
    |false=>rw[auG a h2 b]at h;cases h
    |true=>
     cases c:rU P (H.getD i 0) x with
     |false=>rw[ajp a h2 b,c]at h;simp at h
     |true=>exact⟨a,h2,b,c⟩
 .rintro⟨a,h2,b,c⟩;rw[ajp a h2 b,c];rfl
def Ya:∀{l:List (List Int)} {n:Int} {i:Nat},i+1<l.length->(my n l).getD (i+1) 0=BS ((my n l).getD i 0) (l.getD i [])
 |[],_,_,h=>by simp at h
 |[x],_,i,h=>by simp at h
 |x::y::l,n,0,_=>by simp[my]
 |x::y::l,n,i+1,h=>by
  have:=Ya (l:=y::l) (n:=BS n x) (gq h)
  simp only[my,List.getD_cons_succ]at this ⊢;exact this
structure JE (P:List dB) (f:dB) (hv op at':Int):Prop where
 a0:0<=at'
 a1:at'<f.code.length
 inI:sy hv
 bits:∀h:Nat,h<8->tb hv h=K_->tb f.aX h=K_/\Way f.code h at'
 alJ:op=(my 0 f.code).getD at'.toNat 0
variable{at':Int}
def OD(a:Acc P f)(c:JE P f hv op at')(b:f.code[at'.toNat]?=G_ x):Good P f.code.length (my 0 f.code) (qx f.code f.aX) at'.toNat x:=apG.1 (a.good _ _ b)
def V6(a:JE P f hv op at')(b:h<8)(c:tb ((qx f.code f.aX).getD at'.toNat 0) h=J_):tb hv h=true:=by
 have d:=a.a0;have e:=a.a1;rw[ada af,aBP b,ef d]at c;cases q:tb hv h with
 |true=>rfl
 |false=>
  obtain⟨b1,b2⟩:=a.bits h b q;rcases V5.1 c with r|r
  .rw[b1]at r;cases r
  .exact(r b2).elim
def adj(n:f.code.length<=128)(b:JE P f hv op at')(g:f.code[at'.toNat]?=G_ x)(c:z∈behind f.code.length at' x)(i:sy zn)
  (hb:∀h:Nat,h<8->tb zn h=K_->tb hv h=K_/\xo x h=K_) (j:aX=(my 0 f.code).getD z.toNat 0):JE P f zn aX z:=by
 have k:=b.a0;have l:=b.a1;have a:=JC af k l z c;have d:f.code.getD at'.toNat []=x:=by simp[g]
 refine⟨a.1,a.2,i,λh e m=>?_,j⟩;obtain⟨b1,b2⟩:=hb h e m;obtain⟨c1,c2⟩:=b.bits h e b1;exact⟨c1,c2.next (by rw[d];exact b2) (by rw[d];exact c)⟩
theorem Yb(g:Acc P f)(b:JE P f hv op at')(j:f.code[at'.toNat]?=G_ x)(k:gA x≠6)(c:gA x≠15)(d:gA x≠16):at'+1∈behind f.code.length at' x/\at'+1<f.code.length:=by
 have o:=b.a0;have p:=b.a1;have q:=g.l1;have l:=OD g b j;have m:EL x=false:=by unfold EL;rw[show(gA x==16)=K_ by simpa using d,show(gA x==15)=K_ by simpa using c];rfl
 have e:(gA x !=6)=true:=gq k
 have a:at'+1<f.code.length:=by
  have:=l.last;unfold Sx at this;grind
 have i:aF B_ (at'+1)=at'+1:=dh ⟨af,af⟩;refine⟨?_,a⟩;unfold behind;have n:yB f.code.length at' x=true:=by unfold yB;rw[m,e,i,decide_eq_true a];rfl
 rw[HK n,i];simp
def ahr(b:Acc P f)(d:JE P f hv op at')(c:f.code[at'.toNat]?=G_ x)(a:qd x=J_):x.getD 4 0∈behind f.code.length at' x:=by
 have e:=OD b d c;have g:=(adh e.places).1 a;have h2:=(afo (b.ok x (qn c))).2.2.1 a;unfold behind;have i:yA f.code.length x=true:=by unfold yA;rw[a,decide_eq_true ⟨h2.1,g⟩];rfl
 rw[HK i];simp
def aap(a:JE P f hv op at')(b:f.code[at'.toNat]?=G_ x)(c:at'+1<f.code.length):(my 0 f.code).getD (at'+1).toNat 0=BS op x:=by
 have g:=a.a0;have e:(at'+1).toNat=at'.toNat+1:=af;have d:f.code.getD at'.toNat []=x:=by simp[b]
 rw[e,Ya af,d,<-a.alJ]
theorem adk(a:gA x≠8):xo x z=false:=by
 unfold xo;grind
def alK(g:Acc P f)(a:JE P f hv op at')(b:f.code[at'.toNat]?=G_ x)(i:gA x≠6)(c:gA x≠15)(d:gA x≠16)(j:gA x≠8):JE P f hv (BS op x) (at'+1):=by
 obtain⟨k,e⟩:=Yb g a b i c d;exact adj g.l1 a b k a.inI (λh m l=>⟨l,adk j⟩) (aap a b e).symm
def alL(c:Acc P f)(a:JE P f hv op at')(d:f.code[at'.toNat]?=G_ x)(b:qd x=J_):JE P f hv op (x.getD 4 0):=by
 have e:=OD c a d;have ho:gA x=6\/gA x=7:=by unfold qd at b;simpa using b
 have g:gA x≠8:=af;refine adj c.l1 a d (ahr c a d b) a.inI (λh j i=>⟨i,adk g⟩) ?_;have:=e.scopes;unfold sN at this;rw[HQ (by rcases ho with ho|ho<;>rw[ho] <;>decide),HQ (by rcases ho with ho|ho<;>rw[ho] <;>decide),HK b]at this
 rw[a.alJ];exact(gq this:_=_).symm
def ayt(x y:Int):sy (Ti B_ x y):=by rw[agi];exact abV _
def aaq(a:Acc P f)(b:sy f.aX):JE P f f.aX 0 0:=by
 have:=a.l0;refine⟨af,af,b,λh d c=>⟨c,.zero⟩,?_⟩;cases hc:f.code with
 |nil=>rw[hc]at this;simp at this
 |cons x l=>rfl
end Go.Proofs.YthidhjhkmjjckaaGreatDoor.Ck
namespace Go.Proofs.YthidhjhkmjjckaaGreatDoor
open Go Go.Ev Go.Proofs
open Ko (ni CK)
variable{i:List Int}{ps:Sl}{w:N_}
variable{x4:List dB}
def ayu{f:List Int}{k:Array M_×Int->ap}{g:dB}(e:iA w ps x4)(B:f.length=19)(u:0<=f.getD 0 0)(l:x4[(f.getD 0 0).toNat]?=G_ g)(x:0<=f.getD 1 0)
  (hi:g.code[(f.getD 1 0).toNat]?=G_ i) (y:∀w',Ext w w'->k (eZ i,0) w'):iQ (eZ f) #[S_ ps] w k:=by
 have C:=e.len;obtain⟨_,hcd⟩:=e.code g (qn l);have z:=hcd.len;have A:=(kB.1 l).1;have D:=(kB.1 hi).1;have m:=(hcd.GZ i (qn hi)).1;unfold iQ;refine aM (.nil w) λg1 w1 h=>aM h λg3 F h=>aM h λg5 q h=>?_;have h:St w q [au g5 (ints [0,0,0,0,0]),au g3 [S_ ps],au g1 (ints f)]:=h;refine bP (λb w'=>b=K_/\w'=q) (λJ r=>?_) λb v d=>?_
 .refine cr h (vU af) (aU (by rw[decide_eq_false_iff_not];show¬f.getD 0 0<0;omega) ?_)
  refine cr h (vU af) (ea h rfl (r _ _ ⟨by rw[decide_eq_false_iff_not];show¬f.getD 0 0>=((ps.n:Nat):Int);omega,rfl⟩))
 rw[d.1,d.2];refine aU rfl<|ea h rfl (cr h (vU af) ?_);refine QN e.rws h u (by rw[l8,l];rfl) λp s=>?_
 refine IY (s h rfl)<|bP (λb w'=>b=K_/\w'=q) (λJ r=>?_) λb v d=>?_
 .refine cr (o:=0+1) h (vU af) (aU (by rw[decide_eq_false_iff_not];show¬f.getD 1 0<0;omega) ?_)
  refine cr (o:=0+1) h (vU af) (r _ _ ⟨by rw[decide_eq_false_iff_not];show¬f.getD 1 0>=((g.sl.n:Nat):Int);omega,rfl⟩)
 rw[d.1,d.2];refine aU rfl<|cr (o:=0+1) h (vU af)<|QN hcd.rws h x (by rw[l8,hi];rfl) λp s=>?_
 refine Ho (by simp[ints,m]) (λj v=>s h) ?_
 refine m7 h rfl (by simp[ints,m]) (Ck.qJ _) λt h=>?_
 have h:St w t [au g5 (ints i),au g3 [S_ ps],au g1 (ints f)]:=h;refine je h (by simp[ints,m]) ?_
 exact y _ h.ext
def anP(op:Int):Bool:=L_ (6<=op/\op<=12\/op=14)
variable{zn:Int}
def auH{k:Bool->ap}(a:0<=zn)(b:zn<17)(c:k (anP zn) w):sJ zn w k:=by
 unfold sJ;rcases Fr.aD3 a b with h|h|h|h|h|h|h|h|h|h|h|h|h|h|h|h|h<;>subst h<;>exact c
variable{L:List HP}{c:Int->Prop}{cs:List M_}{f:HP->List HP}{g m n o:Nat}{k:IntKind}{w0:N_}{x:Int}
def _root_.Go.Ev.aI2(h:St w0 w L)[a:At L (au g) cs f](hv:cs[o+m+n]?=G_ (.int k x))(hc:c x):aJ k w (aY (aY ⟨g,o,H_⟩ m) n) c:=by rw[dg];exact aI h hv hc
def _root_.Go.Ev.Z7(h:St w0 w L)[a:At L (au g) cs f](hc:c x)(hv:cs[o+m+n]?=G_ (.int k x):=by with_unfolding_all exact rfl):aJ k w (aY (aY ⟨g,o,H_⟩ m) n) c:=aI2 h hv hc
variable{X:HP}
def A5{α:Type}{K:α->HP}{x:α}(h:St w0 w (X::L))[a:At L K x f]:St w0 w (f X):=by
 obtain⟨R,b,hb⟩:=a.split;have h2:St w0 w (X::K x::R):=St.under b h;exact St.arE hb h2.swap.drop
def qA{B:Bx}(h:St w0 w (au g cs::L))[a:At L fz B f]:St w0 w (f (fz (B++[(g,cs)]))):=by
 obtain⟨R,b,hb⟩:=a.split;have h2:St w0 w (au g cs::fz B::R):=St.under b h;exact St.arE hb (ayk h2)
variable{R:List HP}
def _root_.Go.Ev.St.auI{A B:List HP}(h:St w0 w (A++(B++R))):St w0 w (B++(A++R)):=h.perm (List.perm_append_comm_assoc A B R)
def _root_.Go.Ev.St.back(n:Nat)(h:St w0 w (X::L)):St w0 w (L.insertIdx n X):=by
 by_cases hn:n<=L.length
 .exact h.perm (List.perm_insertIdx X L hn).symm
 .rw[List.insertIdx_of_length_lt af];exact h.drop
def _root_.Go.Ev.St.bk{L':List HP}(h:St w0 w (X::L))(n:Nat)(e:L.insertIdx n X=L':=by simp only[aBT,aBU] <;>exact rfl):St w0 w L':=e▸St.back n h
variable{G:Gl}{W:Wk}{aa:List Nat}{gw:Nat}{l:Lc}
def dX(h:St w0 w (UW l aa G::pH l aa (gw,W)::R)):∃(sp st sw:Sl) (q:Wq),q.Ok aa gw W/\St w0 w (au l.gs (l.cs sp st sw G.steps G.err)::bH l.gm G.M::Da l.gk G.T::scp l.gc G.C::rws 4 sp (G.P.map tI)::bG 1 st (aa.map pt)::bG 1 sw (l.wa.map pt)::ni l.gt G.time::Lw l.gd G.D::LA aa G.ts::
  au gw (W.cs l q)::au q.gwt (W.wait.cells l.told)::bG 1 q.ss q.qw.reverse::bG 1 q.sb q.y6.reverse::bG 1 q.sl (ints W.left)::l6 (uh q.go) W.op::l6 (λk:Lk=>au q.gl (k.cells l.gc)) W.look::l6 (λo:jH=>au q.gp (o.cells l.sp q.gp)) W.step::fz q.B::R):=by
 obtain⟨sp,st,sw,h⟩:=rO h;obtain⟨q,hq,h⟩:=X2 (h.front 10 rfl);exact⟨sp,st,sw,q,hq,St.auI (A:=[_,_,_,_,_,_,_,_,_]) (B:=[_,_,_,_,_,_,_,_,_,_]) h⟩
variable{q:Wq}{sp st:Sl}
def bn(hq:q.Ok aa gw W)(h:St w0 w (au l.gs (l.cs sp st ps G.steps G.err)::bH l.gm G.M::Da l.gk G.T::scp l.gc G.C::rws 4 sp (G.P.map tI)::bG 1 st (aa.map pt)::bG 1 ps (l.wa.map pt)::ni l.gt G.time::Lw l.gd G.D::LA aa G.ts::
  au gw (W.cs l q)::au q.gwt (W.wait.cells l.told)::bG 1 q.ss q.qw.reverse::bG 1 q.sb q.y6.reverse::bG 1 q.sl (ints W.left)::l6 (uh q.go) W.op::l6 (λk:Lk=>au q.gl (k.cells l.gc)) W.look::l6 (λo:jH=>au q.gp (o.cells l.sp q.gp)) W.step::fz q.B::R)):St w0 w (UW l aa G::pH l aa (gw,W)::R):=by
 have h2:=ac8 hq (St.auI (A:=[_,_,_,_,_,_,_,_,_,_]) (B:=[_,_,_,_,_,_,_,_,_]) h);exact pE (St.back 10 h2)
def _root_.Go.Ev.ptI{cs:Array M_}(hv:cs[o]?=G_ (I_ x))(hc:c x):Qq cs o λv=>xS B_ v c:=by
 unfold Qq;rw[hv];exact hc
variable{err steps:Int}{k:Bool->ap}
def KP(h:St w0 w L)[a:At L (au l.gs) (l.cs sp st ps steps err) f](c:x≠0)(d:err=0)(g:∀w',St w0 w' (f (au l.gs (l.cs sp st ps steps x)))->k J_ w'):ae (G_ ⟨l.gs,0,H_⟩) x w k:=by
 unfold ae;subst d;have hb:(x !=0)=true:=by simp[c]
 rw[hb];refine bP (λb w'=>b=J_/\w'=w) (λJ i=>?_) ?_
 .refine bK rfl<|bc (aI h rfl ?_);exact i _ _ ⟨rfl,rfl⟩
 rintro _ _ ⟨rfl,rfl⟩;refine bK rfl<|pS λw h=>g w h
variable{yv:Option P_}
def AM(a:k K_ w):ae yv 0 w k:=by
 unfold ae;refine QI<|aU rfl (aU rfl a)
variable{P:Prop}
variable{x5:Prop}
def cX(q:x5)(t:x5->P:=by intro zq;(with_reducible repeat' (first|refine bc ?_|refine cH h λw h=>?_|refine Tn h ?_|refine Iy h ?_|refine u_B h ?_|refine u_S h ?_|refine u_V h ?_|refine u_T h ?_|refine WX h ?_|refine v_I h ?_|refine v_B h ?_|refine v_S h ?_|refine v_V h ?_|refine v_T h ?_|refine QT h ?_|refine Vh h ?_|refine Z7 h ?_|refine Hq h λw h=>?_|refine v_C h λw h=>?_|refine u_W h λw h=>?_|refine QU h λw h=>?_|refine aM h λgx w h=>?_|refine vW ?_|refine nP h ?_|refine sR h ?_|refine I8 ?_|refine i_T ?_|refine u_1 ?_|refine AM ?_|refine Zn h hb ?_|fail));exact zq):P:=t q
def dZ{Q:ap}(q:∀w,St w0 w L->Q w)(t:(∀w,St w0 w L->Q w)->P:=by intro zq;(with_reducible repeat' (first|refine bc ?_|refine cH h λw h=>?_|refine Tn h ?_|refine Iy h ?_|refine u_B h ?_|refine u_S h ?_|refine u_V h ?_|refine u_T h ?_|refine WX h ?_|refine v_I h ?_|refine v_B h ?_|refine v_S h ?_|refine v_V h ?_|refine v_T h ?_|refine QT h ?_|refine Vh h ?_|refine Z7 h ?_|refine Hq h λw h=>?_|refine v_C h λw h=>?_|refine u_W h λw h=>?_|refine QU h λw h=>?_|refine aM h λgx w h=>?_|refine vW ?_|refine nP h ?_|refine sR h ?_|refine I8 ?_|refine i_T ?_|refine u_1 ?_|refine AM ?_|refine Zn h hb ?_|fail));exact zq w h):P:=t q
def vO{Q:Nat->ap}{L:Nat->List HP}(q:∀g w,St w0 w (L g)->Q g w)(t:(∀g w,St w0 w (L g)->Q g w)->P:=by intro zq;(with_reducible repeat' (first|refine bc ?_|refine cH h λw h=>?_|refine Tn h ?_|refine Iy h ?_|refine u_B h ?_|refine u_S h ?_|refine u_V h ?_|refine u_T h ?_|refine WX h ?_|refine v_I h ?_|refine v_B h ?_|refine v_S h ?_|refine v_V h ?_|refine v_T h ?_|refine QT h ?_|refine Vh h ?_|refine Z7 h ?_|refine Hq h λw h=>?_|refine v_C h λw h=>?_|refine u_W h λw h=>?_|refine QU h λw h=>?_|refine aM h λgx w h=>?_|refine vW ?_|refine nP h ?_|refine sR h ?_|refine I8 ?_|refine i_T ?_|refine u_1 ?_|refine AM ?_|refine Zn h hb ?_|fail));exact zq gx w h):P:=t q
variable{a:Nat}{f2:HP->List HP}{vs:List M_}
theorem lF{k:Option P_->ap}(h:St w0 w L)[a1:At L (au gw) cs f](hs:q.qw=pt a::vs)(b:cs[0+5]?=G_ (S_ q.ss))[a2:At L (bG 1 q.ss) q.qw.reverse f2](i:∀w',St w0 w' L->k (A_ a) w'):ah (A_ gw) w k:=by
 unfold ah;have d:=qY (s:=q.ss) h;have j:=(h.own (sz:=1) (s:=q.ss)).max;have g:=(h.own (sz:=1) (s:=q.ss)).cap;rw[hs]at d;simp only[gz,x_]at d;refine cH h λw h=>bc (aS h b (bc (aS h b ?_)));show cN q.ss (aF B_ (((q.ss.n:Nat):Int) - 1)) 1 _;rw[kg ⟨af,af⟩];refine vP h af ?_ (i _ h);rw[hs,hU,u0 (by simp;omega)]
 have e:(((q.ss.n:Nat):Int) - 1).toNat - vs.reverse.length=0:=by grind
 rw[e];rfl
variable{sc:Sl}{t:Tk}
variable{zh:Int×Int}
theorem Ca{o:List (Int×Int)}{k:Array M_->ap}(h:St w0 w L)[a1:At L (au a) (t.cells ps sc) f][a2:At L (rws 2 ps) (t.cJ.map A1) f2](b:t.cJ=o++[zh])
  (i:∀w',St w0 w' L->k #[I_ zh.1,I_ zh.2] w'):aq (A_ a) w k:=by
 unfold aq;have c:=(pg (sz:=2) (s:=ps) h).2 af;obtain⟨R',j,_⟩:=a2.out;obtain⟨l,_,d,_⟩:=LN a2 h;have m:=(d.own (sz:=2) (s:=ps)).max;have g:=(d.own (sz:=2) (s:=ps)).cap;rw[b]at c;simp only[U',uv,x_,List.length_nil]at c;refine zE λgx w h=>?_;show cN ps (aF B_ (((ps.n:Nat):Int) - 1)) 2 _;rw[kg ⟨af,af⟩];refine rA h af (e:=A1 zh) ?_ af ?_
 .rw[b,List.map_append,u0 (by simp;omega)]
  have e:(((ps.n:Nat):Int) - 1).toNat - (o.map A1).length=0:=by grind
  rw[e];rfl
 refine pS λw h=>i w h.drop
theorem G5(h:St w0 w L)[a1:At L (au gw) (W.cs l q) f][a2:At L (au l.gs) (l.cs sp st ps steps err) f2](a:err=0)
  (b:steps>=l.fuel->∀w',St w0 w' (f2 (au l.gs (l.cs sp st ps steps 22)))->k J_ w') (h2:¬steps>=l.fuel->∀w',St w0 w' L->k K_ w'):aD (A_ gw) w k:=by
 unfold aD yp;refine pS λw h=>ax (λhb=>?_) λhb=>?_
 .refine n8<|KP h e7 a λw h=>b (of_decide_eq_true hb) w h
 .grind
open Fr (A0 nE dY eI di iG jo nF o5)
def Gl.tick(G:Gl)(wk:Int):Gl:={G with M:=G.M.tick wk}
def Gl.mem(G:Gl)(M:bJ):Gl:={G with M:=M}
def Gl.fail(G:Gl)(e:Int):Gl:={G with err:=e}
def Gl.set(G:Gl)(x:Nat)(t:Tk):Gl:={G with ts:=G.ts.set x t}
def Gl.lZ(G:Gl):Gl:={G with steps:=wr (G.steps+1)}
def Wk.go(W:Wk)(f:Mt):Wk:={W with cT:= .m f}
def Wk.A6(W:Wk)(O:bu)(k:Kn):Wk:={W with op:=G_ O,after:=k,cT:= .m .pF}
def Wk.HE(W:Wk)(x:Int)(k:Kn):Wk:={W with jq:=x,home:=k,cT:= .m .tE}
def Wk.JF(W:Wk)(k:Kn):Wk:={W with said:=k,cT:= .m .tell}
def Wk.search(W:Wk)(a b c:Kn):Wk:={W with fits:=a,got:=b,none_:=c,cT:= .m .others}
def Wk.stop(W:Wk)(k:Kn):Wk:={W with pG:=k,step:=H_,cT:= .m .stops}
def Wk.drain(W:Wk)(mark:Int)(k:Kn):Wk:={W with mark:=mark,dK:=k,cT:= .m .ul}
def Wk.looks(W:Wk)(s:Int)(k:Kn):Wk:={W with look:=G_ ⟨s,K_,K_⟩,seen:=k,cT:= .m .looking}
def Tk.kA(t:Tk):Int×Int:=t.cJ.getLastD (0,0)
def bz(P:List dB)(f:List Int):List Int:=match P[(f.getD 0 0).toNat]? with
 |some g=>g.code.getD (f.getD 1 0).toNat []
 |none=>[]
def anQ:Option bu->Int|some O=>O.tell|none=>0
section
variable (l:Lc) (P:List dB) (G:Gl) (W:Wk)
abbrev SW:=Gl×Wk
abbrev got(W:Wk):Int:=anQ W.op
def rest:SW:=(G.tick W.id,({W with late:=K_,wait:=⟨1,G.M.get l.told⟩}:Wk).A6 (bu.B7 W.dq l.log 0 8) (.c .F9))
def F9(st:Int):SW:=(G,if st=1 then W.HE (got W) (.m .rest)else W.search .any (.c .S8) (.m .y5))
def y5:SW:=(G,if W.late then W.go .rest else if W.id>=l.base then{W with step:=G_ (jH.B7 W.id 3),cT:= .m .xn}else W.go .So)
def OE:SW:=(G.mem (G.M.ad W.id l.told 1),{W with cT:=W.said})
def So:SW:=(G.mem (G.M.ad W.id l.idle (bit W.id 1)),{W with wait:=⟨2,W.wait.seen⟩,cT:= .m .JA})
def JA:SW:=(G.mem (G.M.ad W.id l.idle (bit W.id (-1))),{W with wait:=⟨0,W.wait.seen⟩,cT:= .m .rest})
def xn(o:jH):SW:=
 let r:=o.go l.sp G.M W.id
 (G.mem r.2,if r.1.next=0 then{W with step:=G_ r.1,cT:=if r.1.ag7=W.id then .m .rest else .m .So}else{W with step:=G_ r.1})
def tE(t:Tk):SW:=(G.mem (G.M.cs W.id (t.jI+0) 0 1).1,{W with cT:=if (G.M.cs W.id (t.jI+0) 0 1).2 then .m .start else W.home})
def shut(k:Kn)(t:Tk):Wk:=({W with target:=H_,qc:=k,again:= .sh k}:Wk).drain t.kA.2 (.c .Db)
def unwind(t:Tk):Wk:=if t.cJ.length=0 then W.go .put else shut W (.c .qI) t
def ends(x:Nat)(t:Tk)(kind v:Int):SW:=(G.set x {t with kind:=kind,v:=v},unwind W t)
def OF(x:Nat)(t:Tk):SW:=
 if W.stack.length>=l.deep then(G.fail 23,W)
 else((G.tick W.id).set x {t with cJ:=[(t.own,G.M.get (W.dq+1))]},({W with stack:=x::W.stack,back:=W.home::W.back}:Wk).looks t.l7 (.c .xp))
def xp(x:Nat)(t:Tk)(xm:Bool):SW:=if xm then ends G W x t 4 0 else(G,W.go .next)
def adl(op:Int):Mt:=([.fork,.join,.join,.cJ,.close,.cancel,.pass,.leave,.leave]:List Mt).getD (op - 8).toNat .pass
def afr(x:Nat)(t:Tk)(i:List Int):SW:=
 if G.steps>=l.fuel then(G.fail 22,W)
 else if (dY t.f i).2 then((G.set x {t with f:=(dY t.f i).1}).lZ,W.go .next)
 else(G,W.go (adl (i.getD 0 0)))
def V7(x:Nat)(t:Tk):SW:=if anP ((bz P t.f).getD 0 0)then(G,W.looks t.l7 (.nx (bz P t.f)))else afr l G W x t (bz P t.f)
def adm(x:Nat)(t:Tk)(i:List Int)(xm:Bool):SW:=if xm then ends G W x t 4 0 else afr l G W x t i
def fork(t:Tk)(nd:Nd):SW:=
 if wr (nd.nest+1)>32 then(G.fail 23,W)
 else if G.M.room 2=K_ then(G.fail 21,W)
 else({G with M:=(G.M.tick W.id).grow 2,C:=G.C++[⟨t.kA.1,wr (nd.nest+1),(G.M.cells.length:Nat)⟩],P:=G.P++[(-2,0,0,K_)]},{W with own:=(G.C.length:Nat),cT:= .m .xo})
def Gl.more(G:Gl)(wk parent l7 own:Int)(f:List Int):Gl:=
 {G with M:=(G.M.tick wk).grow 3,T:=Hz G.T parent,ts:=G.ts++[⟨(G.T.length:Nat),l7,own,(G.M.cells.length:Nat),f,Oq #[],[],[own],0,0⟩],P:=G.P.set own.toNat ((G.T.length:Nat),0,0,K_)}
def EN(P:List dB)(n:Int):Int:=match P[n.toNat]? with|some g=>g.aX|none=>0
def KQ(x:Nat)(t:Tk):SW:=
 let i:=bz P t.f
 if G.steps>=l.fuel then(G.fail 22,W)
 else if G.M.room 3=K_ then(G.fail 21,W)
 else(((G.more W.id t.id t.kA.1 W.own (jo t.f (i.getD 4 0) (EN P (i.getD 4 0)))).set x {t with f:=eI t.f i (G.ts.length:Nat)}).lZ,{W with jq:=(G.ts.length:Nat),cT:= .m .tF})
def tF(nd:Nd):SW:=(G.mem (G.M.ad W.id (nd.at_+1) 1),W.A6 (bu.B7 W.dq l.log W.jq 0) (.c .um))
def um(st:Int):SW:=(G,if st=4 then W.HE W.jq (.m .next)else W.JF (.m .next))
def cJ:SW:=(G.tick W.id,{W with mark:=G.M.get (W.dq+1),cT:= .m .opens})
def opens(x:Nat)(t:Tk)(nd:Nd)(pk:Int):SW:=
 let i:=bz P t.f
 if G.steps>=l.fuel then(G.fail 22,W)
 else if wr (nd.nest+1)>32 then(G.fail 23,W)
 else if G.M.room 2=K_ then(G.fail 21,W)
 else
  let s:Int:=(G.C.length:Nat)
  let G1:Gl:={G with M:=(G.M.tick W.id).grow 2,C:=G.C++[⟨t.kA.1,wr (nd.nest+1),(G.M.cells.length:Nat)⟩],P:=G.P++[(t.id,((t.scopes.length:Nat):Int),pk,K_)],time:=if i.getD 4 0>0 then(G.time.1,(Ko.Dt G.time s (i.getD 4 0)).2)else G.time}
  ((G1.set x {t with scopes:=t.scopes++[s],cJ:=t.cJ++[(s,W.mark)],f:=nE t.f}).lZ,W.go .next)
def close_(t:Tk):SW:=(G,shut W (.c .Co) t)
def Cq(P:List Pl)(i:Int):List Pl:=match P[i.toNat]? with|some p=>P.set i.toNat (p.1,p.2.1,p.2.2.1,J_)|none=>P
def Gl.Zv(G:Gl)(x:Nat)(t:Tk):Gl:=
 {G with time:=(G.time.1,Ko.EK G.time.2 t.kA.1),P:=Cq G.P t.kA.1,ts:=G.ts.set x {t with cJ:=t.cJ.dropLast}}
def gL(x:Nat)(t:Tk)(nd:Nd):SW:=
 let i:=bz P t.f
 let a:=G.M.get nd.at_ !=0
 if G.steps>=l.fuel then(G.fail 22,W)
 else(((G.tick W.id).Zv x {t with gL:=t.gL++(if a then Oq #[49]else Oq #[48]),f:=iG t.f i a}).lZ,W.go .next)
def cancel(x:Nat)(t:Tk)(nd:Nd):SW:=
 if G.steps>=l.fuel then(G.fail 22,W)
 else(((G.mem (G.M.cs W.id nd.at_ 0 1).1).set x {t with f:=nE t.f}).lZ,W.JF (.m .next))
def pass(x:Nat)(t:Tk):SW:=if G.steps>=l.fuel then(G.fail 22,W)else((G.set x {t with f:=nE t.f}).lZ,W.go .next)
def leave(x:Nat)(t:Tk):SW:=
 let i:=bz P t.f
 if G.steps>=l.fuel then(G.fail 22,W)
 else(((G.set x {t with f:=nE t.f,kind:=if i.getD 0 0=15 then 3 else 2,v:=t.f.getD (2+(i.getD 1 0).toNat) 0})).lZ,unwind W t)
def ajr(x:Nat)(t:Tk):SW:=ends G W x t 4 0
def qI(x:Nat)(t:Tk):SW:=(G.Zv x t,unwind W {t with cJ:=t.cJ.dropLast})
def put(t:Tk):SW:=(if t.kind=4 then G else G.mem ((G.M.tick W.id).put (t.jI+1) t.v),W.go .fin)
def fin(t:Tk):SW:=(G.mem (G.M.cs W.id (t.jI+0) 1 t.kind).1,W.go .asks)
def asks(t:Tk):SW:=(G.tick W.id,{W with bits:=G.M.get (t.jI+2),cT:= .m .gone})
def gone(nd:Nd):SW:=
 let b:=W.back.headD .no
 let W1:Wk:={W with stack:=W.stack.tail,back:=W.back.tail,cT:=b}
 (G.mem (G.M.ad W.id (nd.at_+1) (-1)),if W.bits !=0||G.M.get (nd.at_+1)==1 then W1.JF b else W1)
def Gi(t:Tk)(x:Nat):SW:=(G.tick W.id,({W with target:=G_ x,late:=K_,again:= .aw x,wait:=⟨1,G.M.get l.told⟩}:Wk).looks t.l7 (.c .th))
def join(t:Tk):SW:=
 let i:=bz P t.f
 Gi l G W t (t.f.getD (10+(if i.getD 0 0=10 then i.getD 3 0 else i.getD 2 0).toNat) 0).toNat
def th(xm:Bool):SW:=(G,if xm then W.stop (.m .cancelled)else W.go .asked)
def asked(t tt:Tk)(y:Nat):SW:=
 let kind:=G.M.get (tt.jI+0)
 (G.tick W.id,if kind=0 then W.stop (.V2 y W.again)else if kind=1 then W.drain (t.cJ.headD (0,0)).2 (.m .vQ)else({W with kind:=kind}:Wk).stop (.c .IF))
def joined(x:Nat)(t tt:Tk):SW:=
 let i:=bz P t.f
 if G.steps>=l.fuel then(G.fail 22,W)
 else
  let r:=di t.f i W.kind (if W.kind=4 then 0 else G.M.get (tt.jI+1))
  let G1:=if W.kind=4 then G else G.tick W.id
  if r.2.2 then((G1.set x {t with f:=r.1,kind:=3,v:=r.2.1}).lZ,unwind (W.go .next) t)
  else((G1.set x {t with f:=r.1}).lZ,W.go .next)
def vQ(t:Tk):SW:=(G,W.search (.hl t.id W.target) (.m .BQ) (.m .nothing))
def BQ(x:Int):SW:=(G,W.stop (.BR x W.again))
def dK(t:Tk):SW:=if W.dK= .m .vQ then vQ G W t else(G,W.go .rp)
def ul(t:Tk):SW:=
 let b:=G.M.get (W.dq+1)
 if b<=W.mark then dK (G.tick W.id) W t else(G.tick W.id,W.A6 (bu.B7 W.dq l.log 0 8) (.c .td))
def td(t:Tk)(st:Int):SW:=if st≠1 then dK G W t else BQ G W (got W)
def rp:SW:=(G.tick W.id,{W with late:=K_,wait:=⟨1,G.M.get l.told⟩,cT:= .m .sx})
def sx(t:Tk)(nd:Nd):SW:=if G.M.get (nd.at_+1)=0 then(G.tick W.id,W.stop W.qc)else vQ (G.tick W.id) W t
def nothing:SW:=(G,if W.late then{W with cT:=W.again}else if W.target.isSome&& !W.bO then W.go .register else if W.blocked then{W with wait:=⟨2,W.wait.seen⟩,cT:= .m .Io}else{W with step:=G_ (jH.B7 0 1),cT:= .m .block})
def register(tt:Tk):SW:=(G.mem (G.M.ad W.id (tt.jI+2) (bit W.id 1)),{W with bO:=J_,cT:=W.again})
def block(o:jH):SW:=
 let r:=o.go l.sp G.M W.id
 (G.mem r.2,if r.1.next=0 then{W with step:=G_ r.1,blocked:=J_,cT:=W.again}else{W with step:=G_ r.1})
def again(t:Tk):SW:=match W.again with
 | .aw y=>Gi l G W t y
 | .sh k=>(G,shut W k t)
 |_=>(G,W)
def Io(t:Tk):SW:=again l G {W with wait:=⟨0,W.wait.seen⟩} t
def pG(x:Nat)(t:Tk)(id:Nat->Int):SW:=match W.pG with
 | .m .cancelled=>ends G W x t 4 0
 | .V2 y k=>(G,W.HE (id y) k)
 | .BR y k=>(G,W.HE y k)
 | .c .IF=>(G,W.go .joined)
 | .c .Co=>(G,W.go .gL)
 | .c .qI=>qI G W x t
 |_=>(G,W)
def stops(x:Nat)(t:Tk)(id jI:Nat->Int):SW:=
 if W.blocked then
  let r:=(W.step.getD (jH.B7 0 2)).go l.sp G.M W.id
  (G.mem r.2,if r.1.next=0 then{W with blocked:=K_,step:=H_}else{W with step:=G_ r.1})
 else if W.bO then(G.mem (G.M.ad W.id (jI (W.target.getD 0)+2) (bit W.id (-1))),{W with bO:=K_})
 else pG G W x t id
def alM(t:Tk):SW:=if W.none_= .m .y5 then y5 l G W else nothing G W
def KR(t:Tk)(bw:List Int):SW:=match W.left with
 |[]=>alM l G W t
 |j::r=>(G,({W with left:=r}:Wk).A6 (bu.B7 (bw.getD j.toNat 0) l.log 0 15) (.m .Uv))
def others(t:Tk)(bw:List Int):SW:=
 KR l {G.tick W.id with D:=G.D.tail} {W with left:=VU (G.D.headD 0) (xI W.id (l.sp.bits G.M) (G.M.get l.idle) l.wa.length)} t bw
def Zw(W:Wk)(id:Nat->Int)(x:Int):Bool:=match W.fits with
 | .hl me none=>Sh G.T x me
 | .hl me (some y)=>Sh G.T x me||Sh G.T x (id y)
 |_=>J_
def Uv(t:Tk)(bw:List Int)(id:Nat->Int)(st:Int):SW:=if st≠2\/Zw G W id (got W)=K_ then KR l G W t bw else(G,{W with after:= .m .AL})
def auJ(x:Int):SW:=if W.got= .m .BQ then BQ G W x else(G,W.HE x (.m .rest))
def AL(t:Tk)(bw:List Int)(st:Int):SW:=if st=1 then auJ G W (got W)else KR l G {W with late:=J_} t bw
def zj(t:Tk)(bw:List Int)(id:Nat->Int)(st:Int):SW:=match W.after with
 | .c .F9=>F9 G W st
 | .c .um=>um G W st
 | .c .td=>td G W t st
 | .m .Uv=>Uv l G W t bw id st
 | .m .AL=>AL l G W t bw st
 |_=>(G,W)
def pF(O:bu)(t:Tk)(bw:List Int)(id:Nat->Int):SW:=
 let r:=O.step G.M W.id
 let W1:Wk:={W with op:=G_ r.1}
 if r.1.how=0 then(G.mem r.2,W1)else if r.1.how=6 then((G.mem r.2).fail r.1.err,W1)else zj l (G.mem r.2) W1 t bw id r.1.how
def Sy(x:Nat)(t:Tk)(xm:Bool):SW:=match W.seen with
 | .nx i=>adm l G W x t i xm
 | .c .th=>th G W xm
 | .c .xp=>xp G W x t xm
 |_=>(G,W)
def looking(k:Lk)(nd:Nd)(x:Nat)(t:Tk):SW:=
 let k':=k.go G.M nd
 let W1:Wk:={W with look:=G_ k'}
 if k'.done then Sy l (G.tick W.id) W1 x t k'.xm else(G.tick W.id,W1)
end
abbrev qR(w0 w:N_)(l:Lc)(aa:List Nat)(gw:Nat)(G:Gl)(W:Wk)(R:List HP):Prop:=St w0 w (UW l aa G::pH l aa (gw,W)::R)
abbrev Fin(w0:N_)(l:Lc)(aa:List Nat)(gw:Nat)(R:List HP)(k:Unit->ap)(r:Gl×Wk):Prop:=∀w',qR w0 w' l aa gw r.1 r.2 R->k () w'
abbrev xq(w0 w:N_)(l:Lc)(aa:List Nat)(gw:Nat)(G:Gl)(W:Wk)(R:List HP)(sp st sw:Sl)(q:Wq):Prop:=
 St w0 w (au l.gs (l.cs sp st sw G.steps G.err)::bH l.gm G.M::Da l.gk G.T::scp l.gc G.C::rws 4 sp (G.P.map tI)::bG 1 st (aa.map pt)::bG 1 sw (l.wa.map pt)::ni l.gt G.time::Lw l.gd G.D::LA aa G.ts::
  au gw (W.cs l q)::au q.gwt (W.wait.cells l.told)::bG 1 q.ss q.qw.reverse::bG 1 q.sb q.y6.reverse::bG 1 q.sl (ints W.left)::l6 (uh q.go) W.op::l6 (λk:Lk=>au q.gl (k.cells l.gc)) W.look::l6 (λo:jH=>au q.gp (o.cells l.sp q.gp)) W.step::fz q.B::R)
def ahs{o:Option bu}{k:Int->ap}(h:St w0 w L)[a:At L (l6 (uh g)) o f](b:o.isSome=J_)(c:k (anQ o) w):cG (o.map λ_=>⟨g,0,H_⟩) w k:=by
 cases o with
 |none=>cases b
 |some O=>
  obtain⟨R,d,_⟩:=a.out;have h2:St w0 w (uh g O::R):=d h;exact aBs h2 c
variable{k:Unit->ap}
def ayv(h:qR w0 w l aa gw G W R)(a:G.M.can W.id l.told=J_)(c:Fin w0 l aa gw R k (rest l G W)):gW (A_ gw) w k:=by
 obtain⟨sp,st,sw,q,hq,h⟩:=dX h;unfold gW Al;refine vO λgx w h=>?_;obtain⟨b,d⟩:∃n,n=gx:=⟨_,rfl⟩;subst d;refine cX ?_;have h:=h.fr 2;have h:=h.fr 12;refine acF h a λw h=>?_;have h:=h.bk 12;have h:=h.bk 2;with_reducible repeat' (first|refine bc ?_|refine cH h λw h=>?_|refine WX h ?_|refine QT h ?_|refine nP h ?_|refine sR h ?_|refine I8 ?_|refine AM ?_)
 refine ato h λgo w h=>?_;have h:=A5 (K:=l6 (uh q.go)) h;unfold bq;with_reducible repeat' (first|refine bc ?_|refine Hq h λw h=>?_|refine sR h ?_)
 have h:=qA h;exact c w (bn (q:={q with go:=go,pJ:=_,KJ:=_,B:=_}) {KL hq with cT:=rfl,after:=⟨b,bf,rfl⟩} h)
variable{DC:Int}{b:Nat}
def auK(hq:q.Ok aa gw W)(h:xq w0 w l aa gw G W R sp st ps q)(hb:(b,[pt gw])∈q.B)(c:W.op.isSome=J_)(a:Fin w0 l aa gw R k (F9 G W DC)):gF DC ⟨b,0,H_⟩ w k:=by
 unfold gF wA;unfold F9 at a;refine ax (λhs=>?_) λhs=>?_
 .rw[HK (gq hs)]at a
  refine dZ λw h=>ahs h c ?_;with_reducible repeat' (first|fail)
  unfold bi;refine dZ λw h=>a _ (bn (q:={q with pJ:=mt gw .tE,LB:=mt gw .rest}) (by exact{hq with cT:=rfl,home:=rfl}) h)
 .rw[HQ (gq hs)]at a
  refine cX ?_;unfold dx;refine dZ λw h=>a _ (bn (q:={q with pJ:=mt gw .others,Zo:=aAf,ajd:=ct b .S8,Zp:=mt gw .y5}) (by exact{hq with cT:=rfl,fits:=rfl,got:=⟨b,hb,rfl⟩,none_:=rfl}) h)
def apH(hq:q.Ok aa gw W)(h:xq w0 w l aa gw G W R sp st ps q)(hb:(b,[pt gw])∈q.B)(a:Fin w0 l aa gw R k (G,W.HE x (.m .rest))):eT x ⟨b,0,H_⟩ w k:=by
 unfold eT uC;refine cX ?_;unfold bi;refine dZ λw h=>a _ (bn (q:={q with pJ:=mt gw .tE,LB:=mt gw .rest}) (by exact{hq with cT:=rfl,home:=rfl}) h)
def auL(h:qR w0 w l aa gw G W R)(a:Fin w0 l aa gw R k (y5 l G W)):iq (A_ gw) w k:=by
 obtain⟨sp,st,sw,q,hq,h⟩:=dX h;unfold iq yl;unfold y5 at a;refine cX<|ax (λhb=>?_) λhb=>?_
 .rw[HK hb]at a;refine dZ λw h=>a _ (bn (q:={q with pJ:=mt gw .rest}) (by exact{hq with cT:=rfl}) h)
 rw[HQ (by rw[hb];simp)]at a
 refine dZ λw h=>ax (λhb=>?_) λhb=>?_
 .rw[HK (of_decide_eq_true hb)]at a;refine dZ λw h=>apj h λg w h=>?_;have h:=A5 (K:=l6 (λo:jH=>au q.gp (o.cells l.sp q.gp))) h;refine dZ λw h=>a _ (bn (q:={q with pJ:=mt gw .xn,gp:=g}) (by exact{hq with cT:=rfl}) h)
 .rw[HQ (of_decide_eq_false hb)]at a;refine dZ λw h=>a _ (bn (q:={q with pJ:=mt gw .So}) (by exact{hq with cT:=rfl}) h)
def auM(h:qR w0 w l aa gw G W R)(a:G.M.can W.id l.told=J_)(b:Fin w0 l aa gw R k (OE l G W)):gT (A_ gw) w k:=by
 obtain⟨sp,st,sw,q,hq,h⟩:=dX h;unfold gT Af;have hv:=hq.said.one;refine dZ λw h=>anl h a λw h=>?_;with_reducible repeat' (first|refine bc ?_|refine u_V h ?_|refine Hq h λw h=>?_|refine nP h ?_|refine i_T ?_|refine AM ?_)
 exact b _ (bn (q:={q with pJ:=q.Zq}) (by exact{hq with cT:=hq.said}) h)
def aBV(h:qR w0 w l aa gw G W R)(c:0<=W.id/\W.id<=16)(d:G.M.can W.id l.idle=J_)(a:W.wait.how=1)(e:Fin w0 l aa gw R k (So l G W)):iP (A_ gw) w k:=by
 obtain⟨sp,st,sw,q,hq,h⟩:=dX h;unfold iP By;refine cX<|bP (λb w=>b=K_/\xq w0 w l aa gw (G.mem (G.M.ad W.id l.idle (bit W.id 1))) {W with wait:=⟨2,W.wait.seen⟩} R sp st sw q) (λJ f=>?_) ?_
 .refine dZ λw h=>aoZ h c d λw h=>?_;with_reducible repeat' (first|refine bc ?_|refine Tn h ?_|refine nP h ?_|refine I8 ?_|refine AM ?_)
  refine anm h λw h=>?_;rw[HK a];rw[HK a]at h;with_reducible repeat' (first|refine nP h ?_|refine AM ?_)
  exact f _ _ ⟨rfl,h⟩
 clear h;rintro _ w ⟨rfl,h⟩;refine dZ λw h=>e _ (bn (q:={q with pJ:=mt gw .JA}) (by exact{hq with cT:=rfl}) h)
def ayw(h:qR w0 w l aa gw G W R)(a:0<=W.id/\W.id<=16)(b:G.M.can W.id l.idle=J_)(c:Fin w0 l aa gw R k (JA l G W)):gU (A_ gw) w k:=by
 obtain⟨sp,st,sw,q,hq,h⟩:=dX h;unfold gU Ah;refine cX ?_;refine ae7 h λw h=>dZ λw h=>ao0 h a b λw h=>?_;with_reducible repeat' (first|refine bc ?_|refine Hq h λw h=>?_|refine nP h ?_|refine i_T ?_|refine AM ?_)
 exact c _ (bn (q:={q with pJ:=mt gw .rest}) (by exact{hq with cT:=rfl}) h)
def alN(h:qR w0 w l aa gw G W R)(a:G.M.can W.id l.told=J_)(b:Fin w0 l aa gw R k (rp l G W)):eN (A_ gw) w k:=by
 obtain⟨sp,st,sw,q,hq,h⟩:=dX h;unfold eN vv;refine dZ λw h=>?_;have h:=h.fr 1;have h:=h.fr 11;refine acF h a λw h=>?_;have h:=h.bk 11;have h:=h.bk 1;with_reducible repeat' (first|refine bc ?_|refine Hq h λw h=>?_|refine nP h ?_|refine I8 ?_|refine AM ?_)
 exact b _ (bn (q:={q with pJ:=mt gw .sx}) (by exact{hq with cT:=rfl}) h)
def ayx(h:qR w0 w l aa gw G W R)(a:xH W.dq)(b:G.M.can W.id (W.dq+1)=J_)(c:Fin w0 l aa gw R k (cJ G W)):gZ (A_ gw) w k:=by
 obtain⟨sp,st,sw,q,hq,h⟩:=dX h;unfold gZ As;refine dZ λw h=>VT h a b λw h=>?_;refine dZ λw h=>c _ (bn (q:={q with pJ:=mt gw .opens}) (by exact{hq with cT:=rfl}) h)
def apI{o:jH}(h:qR w0 w l aa gw G W R)(c:TZ w0)(hs:l.sp.OK)(d:G.M.OK)(b:W.step=G_ o)(e:o.GX l.sp G.M W.id)(a:Fin w0 l aa gw R k (xn l G W o)):fm (A_ gw) w k:=by
 obtain⟨id,dq,wait,stack,back,cT,op,after,look,seen,step,left,late,fits,got,none_,jq,home,target,kind,bO,blocked,again,pG,mark,dK,own,said,bits,qc⟩:=W;dsimp only at b;subst b;obtain⟨sp,st,sw,q,hq,h⟩:=dX h;unfold fm wK;unfold xn at a;dsimp only[l6]at h;refine dZ λw h=>?_;have h:=h.fr 1;have h:=h.fr 17;refine Ze h c hs d e λw h=>?_;have h:=h.bk 17;have h:=h.bk 1;generalize o.go l.sp G.M id=r at h a ⊢;refine cX<|ax (λhb=>?_) λhb=>?_
 .have hb:¬r.1.next=0:=by simpa using hb
  simp only[HQ hb]at a;exact a _ (bn (by exact{hq with}) h)
 .have hb:r.1.next=0:=by simpa using hb
  simp only[HK hb]at a;refine dZ λw h=>atD h ?_;refine cX<|ax (λhb=>?_) λhb=>?_
  .rw[HK (gq hb)]at a
   refine dZ λw h=>a _ (bn (q:={q with pJ:=mt gw .rest}) (by exact{hq with cT:=rfl}) h)
  .rw[HQ (gq hb)]at a
   exact a _ (bn (q:={q with pJ:=mt gw .So}) (by exact{hq with cT:=rfl}) h)
abbrev TL(l:Lc)(aa:List Nat)(gw:Nat)(G:Gl)(W:Wk)(R:List HP)(sp st sw:Sl)(q:Wq)(x a:Nat)(t:Tk)(so sc:Sl):List HP:=
 au a (t.cells so sc)::rws 2 so (t.cJ.map A1)::bG 1 sc (ints t.scopes)::jO tkP ((aa.zip G.ts).eraseIdx x)::au l.gs (l.cs sp st sw G.steps G.err)::bH l.gm G.M::Da l.gk G.T::scp l.gc G.C::rws 4 sp (G.P.map tI)::bG 1 st (aa.map pt)::bG 1 sw (l.wa.map pt)::ni l.gt G.time::Lw l.gd G.D::
  au gw (W.cs l q)::au q.gwt (W.wait.cells l.told)::bG 1 q.ss q.qw.reverse::bG 1 q.sb q.y6.reverse::bG 1 q.sl (ints W.left)::l6 (uh q.go) W.op::l6 (λk:Lk=>au q.gl (k.cells l.gc)) W.look::l6 (λo:jH=>au q.gp (o.cells l.sp q.gp)) W.step::fz q.B::R
abbrev TO(w0 w:N_)(l:Lc)(aa:List Nat)(gw:Nat)(G:Gl)(W:Wk)(R:List HP)(sp st sw:Sl)(q:Wq)(x a:Nat)(t:Tk)(so sc:Sl):Prop:=St w0 w (TL l aa gw G W R sp st sw q x a t so sc)
structure Tp (aa:List Nat) (G:Gl) (x a:Nat) (t:Tk):Prop where
 len:aa.length=G.ts.length
 a:aa[x]?=G_ a
 t:G.ts[x]?=G_ t
variable{s':List Nat}{x:Nat}
def m5(hq:q.Ok aa gw W)(hs:W.stack=x::s'):∃a vs,aa[x]?=G_ a/\q.qw=pt a::vs/\KK (Pts aa) s' vs:=by
 have h:=hq.qw;rw[hs]at h;generalize q.qw=s at h ⊢;cases h with
 |cons h1 h2=>
  obtain⟨a,b,rfl⟩:=h1;exact⟨a,_,b,rfl,h2⟩
def xJ(h:xq w0 w l aa gw G W R sp st ps q):aa.length=G.ts.length:=KI (h.front 9 rfl)
variable{yk:Sl}
def n7(h:xq w0 w l aa gw G W R sp st yk q)(b:aa[x]?=G_ a)(c:G.ts[x]?=G_ t):Tp aa G x a t/\∃ps sc,TO w0 w l aa gw G W R sp st yk q x a t ps sc:=by
 refine⟨⟨xJ h,b,c⟩,?_⟩;have h:=h.fr 9;exact sv h b c
variable{t':Tk}
def vH(b:Tp aa G x a t)(h:TO w0 w l aa gw G W R sp st ps q x a t' yk sc):xq w0 w l aa gw (G.set x t') W R sp st ps q:=by
 have h:=ajc b.len b.a h;exact St.back 9 h
def afs(b:Tp aa G x a t):G.set x t=G:=by
 have e:G.ts.set x t=G.ts:=by
  apply List.ext_getElem?;intro j;by_cases c:x=j
  .subst c;rw[uO (kB.1 b.t).1,b.t]
  .rw[r0 c]
 unfold Gl.set;rw[e]
def oX(b:Tp aa G x a t)(h:TO w0 w l aa gw G W R sp st yk q x a t ps sc):xq w0 w l aa gw G W R sp st yk q:=by
 have h:=vH b h;rwa[afs b]at h
def qg(b:aa.length=G.ts.length)(c:aa[x]?=G_ a)(d:G.ts[x]?=G_ t)(h:St w0 w (au a (t.cells ps sc)::rws 2 ps (t.cJ.map A1)::bG 1 sc (ints t.scopes)::jO tkP ((aa.zip G.ts).eraseIdx x)::R)):St w0 w (LA aa G.ts::R):=by
 have h:=ajc b c h;have e:=congrArg Gl.ts (afs ⟨b,c,d⟩);unfold Gl.set at e;dsimp only at e;rwa[e]at h
variable{m:Int×Int}{o:List (Int×Int)}
def Cr(a:t.cJ=o++[m]):t.kA=m:=by
 unfold Tk.kA;rw[a];simp
variable{kk:Kn}{kv:M_}
def aht(hq:q.Ok aa gw W)(h:xq w0 w l aa gw G W R sp st ps q)(hs:W.stack=x::s')(g:G.ts[x]?=G_ t)(r:t.cJ≠ [])(hv:Rp aa gw q.B kk kv)
  (c:Fin w0 l aa gw R k (G,shut W kk t)):cF (A_ gw) kv w k:=by
 have s:=xJ h;obtain⟨a,vs,i,d,_⟩:=m5 hq hs;have u:=hv.one;obtain⟨o,m,j⟩:∃o m,t.cJ=o++[m]:=⟨_,_,(ei r).symm⟩;unfold cF z8;with_reducible repeat' (first|refine bc ?_|refine cH h λw h=>?_|refine WX h ?_|refine v_V h ?_|refine Hq h λw h=>?_|refine aM h λgx w h=>?_|refine sR h ?_|refine u_1 ?_)
 obtain⟨gc,e⟩:∃n,n=gx:=⟨_,rfl⟩;subst e;refine cX ?_;obtain⟨b,e⟩:∃n,n=gx:=⟨_,rfl⟩;subst e;refine cX ?_;refine lF h d vM λw h=>?_;with_reducible repeat' (first|refine sR h ?_|fail)
 have h:=h.fr 11;obtain⟨so,sc,h⟩:=sv h i g;refine Ca h j λw h=>?_;have h:=qg s i g h;have h:=h.bk 11;with_reducible repeat' (first|refine sR h ?_|fail)
 refine ptI (by rfl) ?_
 unfold dM;refine dZ λw h=>?_;have h:=qA h;have h:=qA h;unfold shut at c;rw[Cr j]at c;have f:∀p∈q.B,p∈q.B++[(gc,[kv])] ++[(b,[pt gw])]:=λp v=>hG _ (hG _ v);exact c _ (bn (q:={q with pJ:=mt gw .ul,O6:=H_,ahi:=kv,zi:= .func (F_ fN) #[] #[pt b,pt gc],IP:=ct b .Db,B:=q.B++[(gc,[kv])] ++[(b,[pt gw])]})
  (by exact{hq.box f with cT:=rfl,target:=rfl,qc:=hv.box f,again:=⟨b,gc,kv,bf,hv.box f,bf,rfl⟩,dK:=⟨b,bf,rfl⟩}) h)
theorem aft(h:qR w0 w l aa gw G W R)(hs:W.stack=x::s')(d:G.ts[x]?=G_ t)(b:Fin w0 l aa gw R k (G,unwind W t)):dy (A_ gw) w k:=by
 obtain⟨sp,st,sw,q,hq,h⟩:=dX h;have g:=xJ h;obtain⟨a,vs,e,f,_⟩:=m5 hq hs;unfold dy wG;unfold unwind at b;refine vO λgx w h=>?_;obtain⟨i,j⟩:∃n,n=gx:=⟨_,rfl⟩;subst j;refine cX ?_;refine lF h f vM λw h=>?_;have h:=h.fr 10;obtain⟨so,sc,h⟩:=sv h e d;have m:=(pg (sz:=2) (s:=so) h).2 af;rw[U']at m;refine cX<|ax (λhb=>?_) λhb=>?_
 .have hb:t.cJ.length=0:=by
   grind
  rw[HK hb]at b;refine dZ λw h=>?_;have h:=qg g e d h;have h:=h.bk 10;have h:=h.zm 0;exact b _ (bn (q:={q with pJ:=mt gw .put}) (by exact{hq with cT:=rfl}) h)
 .have hb:¬t.cJ.length=0:=by
   grind
  rw[HQ hb]at b;refine cX ?_;have h:=qg g e d h;have h:=h.bk 10;have h:=qA h;exact aht (kk:= .c .qI) (KL hq) h hs d (by intro q;rw[q]at hb;exact hb rfl) ⟨i,bf,rfl⟩ b
variable{kind:Int}
def abf{v:Int}(h:qR w0 w l aa gw G W R)(hs:W.stack=x::s')(c:G.ts[x]?=G_ t)(d:Fin w0 l aa gw R k (ends G W x t kind v)):cB (A_ gw) kind v w k:=by
 obtain⟨sp,st,sw,q,hq,h⟩:=dX h;have g:=xJ h;obtain⟨a,vs,e,b,_⟩:=m5 hq hs;unfold cB Aa;refine lF h b vM λw h=>?_;obtain⟨f,so,sc,h⟩:=n7 h e c;refine dZ λw h=>?_;have h:=vH (t':={t with kind:=kind,v:=v}) f h;refine aft (bn hq h) hs (t:={t with kind:=kind,v:=v}) ?_ d;unfold Gl.set;exact uO (kB.1 c).1
def Zx(c:aa.length=G.ts.length)(b:G.ts[x]?=G_ t):∃a,aa[x]?=G_ a:=⟨aa[x]'(by have:=(kB.1 b).1;omega),iH _⟩
def adn(b:aa[x]?=G_ a):(aa.map pt)[((x:Nat):Int).toNat]?=G_ (IB (A_ a)):=by rw[iZ,l8,b];rfl
def apJ(h:qR w0 w l aa gw G W R)(f:W.jq=(x:Nat))(c:G.ts[x]?=G_ t)(g:G.M.OK)(i:G.M.can W.id (t.jI+0)=J_)(b:Fin w0 l aa gw R k (tE G W t)):fo (A_ gw) w k:=by
 obtain⟨sp,st,sw,q,hq,h⟩:=dX h;have e:=xJ h;obtain⟨a,d⟩:=Zx e c;unfold fo wN;unfold tE at b;have hv:=hq.home.one;refine dZ λw h=>?_;show cN st W.jq 1 _;rw[f];refine vP h af (adn d) ?_;have h:=h.fr 9;obtain⟨so,sc,h⟩:=sv h d c;refine cX<|ao3 h g i λw h=>?_;have h:=qg e d c h;have h:=h.bk 9;refine dZ λw h=>ax (λhb=>?_) λhb=>?_
 .have hb:(G.M.cs W.id (t.jI+0) 0 1).2=true:=hb;rw[HK hb]at b;refine dZ λw h=>b _ (bn (q:={q with pJ:=mt gw .start}) (by exact{hq with cT:=rfl}) h)
 .have hb:(G.M.cs W.id (t.jI+0) 0 1).2=false:=hb;rw[HQ (by rw[hb];simp)]at b
  exact b _ (bn (q:={q with pJ:=q.LB}) (by exact{hq with cT:=hq.home}) h)
def aBW(h:qR w0 w l aa gw G W R)(hs:W.stack=x::s')(g:G.ts[x]?=G_ t)(i:G.M.OK)(j:G.M.can W.id (t.jI+1)=J_)(f:Fin w0 l aa gw R k (put G W t)):iR (A_ gw) w k:=by
 obtain⟨sp,st,sw,q,hq,h⟩:=dX h;obtain⟨a,vs,m,e,_⟩:=m5 hq hs;unfold iR BE;unfold put at f;refine lF h e vM λw h=>?_;obtain⟨c,so,sc,h⟩:=n7 h m g;refine bP (λb w=>b=J_/\xq w0 w l aa gw (if t.kind=4 then G else G.mem ((G.M.tick W.id).put (t.jI+1) t.v)) W R sp st sw q) (λJ d=>?_) ?_
 .refine dZ λw h=>ax (λhb=>?_) λhb=>?_
  .rw[HK (gq hb)]at d
   exact d _ _ ⟨rfl,oX c h⟩
  .rw[HQ (gq hb)]at d
   refine cX<|axK h i j λw h=>?_;with_reducible repeat' (first|refine nP h ?_|refine AM ?_)
   refine d _ _ ⟨rfl,?_⟩;have h:=qg c.len c.a c.t h;have h:=h.bk 9;exact h
 clear h;rintro _ w ⟨rfl,h⟩;refine dZ λw h=>f _ (bn (q:={q with pJ:=mt gw .fin}) (by exact{hq with cT:=rfl}) h)
def aBX(h:qR w0 w l aa gw G W R)(hs:W.stack=x::s')(e:G.ts[x]?=G_ t)(f:G.M.OK)(b:2<=t.kind/\t.kind<=4)(g:G.M.can W.id (t.jI+0)=J_)(i:Fin w0 l aa gw R k (fin G W t)):iS (A_ gw) w k:=by
 obtain⟨sp,st,sw,q,hq,h⟩:=dX h;obtain⟨a,vs,j,c,_⟩:=m5 hq hs;unfold iS BG;refine lF h c vM λw h=>?_;obtain⟨d,so,sc,h⟩:=n7 h j e;refine dZ λw h=>axL h f b g λw h=>?_;have h:=qg d.len d.a d.t h;have h:=h.bk 9;refine dZ λw h=>i _ (bn (q:={q with pJ:=mt gw .asks}) (by exact{hq with cT:=rfl}) h)
def ayy(h:qR w0 w l aa gw G W R)(hs:W.stack=x::s')(d:G.ts[x]?=G_ t)(e:G.M.OK)(f:G.M.can W.id (t.jI+2)=J_)(g:Fin w0 l aa gw R k (asks G W t)):ia (A_ gw) w k:=by
 obtain⟨sp,st,sw,q,hq,h⟩:=dX h;obtain⟨a,vs,i,b,_⟩:=m5 hq hs;unfold ia AB;refine dZ λw h=>?_;refine lF h b vM λw h=>?_;obtain⟨c,so,sc,h⟩:=n7 h i d;with_reducible repeat' (first|refine bc ?_|refine QT h ?_|refine nP h ?_)
 refine aiK h e f λw h=>?_;have h:=qg c.len c.a c.t h;have h:=h.bk 9;refine dZ λw h=>g _ (bn (q:={q with pJ:=mt gw .gone}) (by exact{hq with cT:=rfl}) h)
def OG(h:qR w0 w l aa gw G W R)(hs:W.stack=x::s')(a:G.ts[x]?=G_ t)(b:Fin w0 l aa gw R k (ajr G W x t)):bB (A_ gw) w k:=by
 unfold bB tN;exact abf h hs a b
def auN(h:qR w0 w l aa gw G W R)(hs:W.stack=x::s')(a:G.ts[x]?=G_ t)(b:t.cJ≠ [])(d:Fin w0 l aa gw R k (close_ G W t)):fY (A_ gw) w k:=by
 obtain⟨sp,st,sw,q,hq,h⟩:=dX h;unfold fY yJ;refine vO λgx w h=>?_;obtain⟨e,f⟩:∃n,n=gx:=⟨_,rfl⟩;subst f;refine cX ?_;have h:=qA h;exact aht (kk:= .c .Co) (KL hq) h hs a b ⟨e,bf,rfl⟩ d
def apK(hq:q.Ok aa gw W)(h:xq w0 w l aa gw G W R sp st ps q)(hb:(b,[pt gw])∈q.B)(a:Fin w0 l aa gw R k (G,W.go .gL)):fJ ⟨b,0,H_⟩ w k:=by
 unfold fJ;refine dZ λw h=>a _ (bn (q:={q with pJ:=mt gw .gL}) (by exact{hq with cT:=rfl}) h)
def apL(hq:q.Ok aa gw W)(h:xq w0 w l aa gw G W R sp st ps q)(hb:(b,[pt gw])∈q.B)(a:Fin w0 l aa gw R k (G,W.go .joined)):fH ⟨b,0,H_⟩ w k:=by
 unfold fH;refine dZ λw h=>a _ (bn (q:={q with pJ:=mt gw .joined}) (by exact{hq with cT:=rfl}) h)
def auO(hq:q.Ok aa gw W)(h:xq w0 w l aa gw G W R sp st ps q)(hb:(b,[pt gw])∈q.B)(a:Fin w0 l aa gw R k (G,W.go .rp)):cV ⟨b,0,H_⟩ w k:=by
 unfold cV;refine dZ λw h=>a _ (bn (q:={q with pJ:=mt gw .rp}) (by exact{hq with cT:=rfl}) h)
variable{xm:Bool}
def apM(hq:q.Ok aa gw W)(h:xq w0 w l aa gw G W R sp st ps q)(hb:(b,[pt gw])∈q.B)(hs:W.stack=x::s')(c:G.ts[x]?=G_ t)(a:Fin w0 l aa gw R k (xp G W x t xm)):fF xm ⟨b,0,H_⟩ w k:=by
 unfold fF vr;unfold xp at a;cases xm
 .refine aU rfl<|dZ λw h=>a _ (bn (q:={q with pJ:=mt gw .next}) (by exact{hq with cT:=rfl}) h)
 .refine bK rfl<|cX<|OG (bn hq h) hs c a
def alO(hq:q.Ok aa gw W)(h:xq w0 w l aa gw G W R sp st ps q)(hb:(b,[pt gw])∈q.B)(a:Fin w0 l aa gw R k (th G W xm)):eW xm ⟨b,0,H_⟩ w k:=by
 unfold eW uF;unfold th at a;cases xm
 .refine aU rfl<|dZ λw h=>a _ (bn (q:={q with pJ:=mt gw .asked}) (by exact{hq with cT:=rfl}) h)
 .refine bK rfl<|cX ?_;unfold bI;refine dZ λw h=>?_;have h:=A5 (K:=l6 (λo:jH=>au q.gp (o.cells l.sp q.gp))) (St.shut (A:=[]) h);exact a _ (bn (q:={q with pJ:=mt gw .stops,MG:=mt gw .cancelled}) (by exact{hq with cT:=rfl,pG:=rfl}) h)
def alP(hq:q.Ok aa gw W)(h:xq w0 w l aa gw G W R sp st ps q)(hb:(b,[pt gw])∈q.B)(a:Fin w0 l aa gw R k (um G W DC)):eU DC ⟨b,0,H_⟩ w k:=by
 unfold eU uD;unfold um at a;refine ax (λhs=>?_) λhs=>?_
 .rw[HK (gq hs)]at a
  refine dZ λw h=>?_;unfold bi;refine dZ λw h=>a _ (bn (q:={q with pJ:=mt gw .tE,LB:=mt gw .next}) (by exact{hq with cT:=rfl,home:=rfl}) h)
 .rw[HQ (gq hs)]at a
  refine cX ?_;unfold cj;refine dZ λw h=>a _ (bn (q:={q with pJ:=mt gw .tell,Zq:=mt gw .next}) (by exact{hq with cT:=rfl,said:=rfl}) h)
open Fr (A0 nE dY eI di iG jo nF o5 qH kz qt qa qb pZ)
structure In (P:List dB) (f i:List Int):Prop where
 len:f.length=19
 f0:0<=f.getD 0 0
 f1:0<=f.getD 1 0
 fn:∃g,P[(f.getD 0 0).toNat]?=G_ g/\g.code[(f.getD 1 0).toNat]?=G_ i
 GZ:i.length=5
variable{P:List dB}
theorem In.ins{f:List Int}(h:In P f i):bz P f=i:=by
 obtain⟨g,a,h2⟩:=h.fn;unfold bz;grind
def JG(h:i.length=5):∃a b c d e,i=[a,b,c,d,e]:=by
 match i,h with
 |[a,b,c,d,e],_=>exact⟨a,b,c,d,e,rfl⟩
def ahu{k:Array M_×Int->ap}(h:St w0 w L)(d:iA w0 ps P)(b:In P t.f i)(e:∀w',St w0 w' L->k (eZ i,0) w'):iQ (frV t.f).toArray #[S_ ps] w k:=by
 rw[Oz b.len];obtain⟨g,j,h2⟩:=b.fn;exact ayu (d.ext h.ext) b.len b.f0 j b.f1 h2 λw' l=>e w' (h.on l)
def ajs{k:Array M_×Bool->ap}(h:St w0 w L)(a:t.f.length=19)(b:i.length=5)(c:∀w',St w0 w' L->k (eZ (dY t.f i).1,(dY t.f i).2) w'):jc (frV t.f).toArray (eZ i) w k:=by
 rw[Oz a];exact Fr.atP a b λw' d=>c w' (h.on d)
def anR{c:M_->Prop}(h:St w0 w L)[a:At L (au g) cs f](b:0<=zn)(d:zn<n)(hv:cs[zn.toNat]?=G_ kv)(e:c kv):cN ⟨A_ g,n,x⟩ zn 1 λa=>tH w a c:=by
 refine⟨⟨b,d⟩,?_⟩;show tH w ((⟨g,0,H_⟩:P_).add (zn.toNat*1)) c;rw[dg];exact I2 h (gq hv) e
variable{c:ap}{f':List Int}
def AN(h:St w0 w L)[a1:At L (au a) (t.cells ps sc) f](b:f'.length=19)(d:∀w',St w0 w' (f (au a (({t with f:=f'}:Tk).cells ps sc)))->c w'):dQ 19 w (aY ⟨a,0,H_⟩ 4) (eZ f') c:=by
 refine aW h (by simp[eZ,b]) (by simp[Tk.cells]) (Ck.qJ _) λw h=>d w ?_
 have e:(t.cells ps sc).take (0+4)++((eZ f').toList++(t.cells ps sc).drop (0+4+19))=({t with f:=f'}:Tk).cells ps sc:=by
  have:(eZ f').toList=frV f':=by rw[anL b]
  rw[this];rfl
 rw[e]at h;exact h
def afu(h:St w0 w L)[a1:At L (au g) cs f](a:cs.length=19)(b:f'.length=19)(d:∀w',St w0 w' (f (au g (ints f')))->c w'):dQ 19 w ⟨g,0,H_⟩ (eZ f') c:=
 m7 h a (by simp[eZ,b]) (Ck.qJ _) λw h=>d w h
def anS{c:Array M_->Prop}(h:St w0 w L)[a1:At L (au g) (ints f') f](a:f'.length=19)(b:c (eZ f')):bx 19 w ⟨g,0,H_⟩ c:=
 je h (by simp[ints,a]) b
section
variable{so:Sl}
def JH{k:Array M_->ap}(j:iA w0 l.ps P)(hI:In P t.f i)(h:TO w0 w l aa gw G W R sp st yk q x a t so sc)(g:q.qw=pt a::vs)(p:∀w',TO w0 w' l aa gw G W R sp st yk q x a t so sc->k (eZ i) w'):aH (A_ gw) w k:=by
 have o:=hI.GZ;unfold aH yD;refine vO λgx w h=>?_;obtain⟨g0,r⟩:∃n,n=gx:=⟨_,rfl⟩;subst r;refine bP (fun(s:P_×Int) w=> ∃g1,s=(⟨g1,0,H_⟩,0)/\St w0 w (au g1 (ints i)::au g0 (ints [0,0,0,0,0])::TL l aa gw G W R sp st yk q x a t so sc)) (λJ m=>?_) ?_
 .have u:∃a b c d e,i=[a,b,c,d,e]:=JG o;obtain⟨i0,v,y,z,A,hi⟩:=u;with_reducible repeat' (first|refine bc ?_|refine cH h λw h=>?_|refine Tn h ?_|refine QT h ?_|refine aM h λgx w h=>?_|refine nP h ?_|refine y8 ?_ ?_)
  .refine lF h g vM λw h=>?_;with_reducible repeat' (first|refine bc ?_|refine QT h ?_|refine aM h λgx w h=>?_|refine nP h ?_|refine y8 ?_ ?_)
   .refine ahu h j hI λw h=>?_;subst hi;with_reducible repeat' (first|refine QU h λw h=>?_|refine aM h λgx w h=>?_|refine nP h ?_)
    exact m _ _ ⟨_,rfl,h⟩
   .refine ahu h j hI λw h=>?_;subst hi;with_reducible repeat' (first|refine QU h λw h=>?_|fail)
    exact m _ _ ⟨_,rfl,h⟩
  .refine lF h g vM λw h=>?_;with_reducible repeat' (first|refine bc ?_|refine QT h ?_|refine nP h ?_)
   refine ahu h j hI λw h=>?_;subst hi;refine dZ λw h=>m _ _ ⟨_,rfl,h⟩
 clear h;rintro _ w ⟨g1,rfl,h⟩;obtain⟨i0,v,y,z,A,rfl⟩:=JG o;refine dZ λw h=>p _ ((h.rm 0 rfl).rm 0 rfl)
end
def anT(K:iA w0 l.ps P)(h:qR w0 w l aa gw G W R)(C:G.err=0)(hs:W.stack=x::s')(D:G.ts[x]?=G_ t)(o:t.f.length=19)(A:i.length=5)(b:(dY t.f i).2=K_->8<=i.getD 0 0/\i.getD 0 0<=16)(c:Fin w0 l aa gw R k (afr l G W x t i)):ej (A_ gw) (eZ i) w k:=by
 obtain⟨sp,st,sw,q,hq,h⟩:=dX h;obtain⟨a,vs,F,v,_⟩:=m5 hq hs;obtain⟨d,so,sc,h⟩:=n7 h F D;unfold ej Ae;unfold afr at c;refine vO λgx w h=>?_;obtain⟨g1,y⟩:∃n,n=gx:=⟨_,rfl⟩;subst y;refine G5 h C (λhb w h=>?_) λhb w h=>?_
 .rw[HK hb]at c;refine cX ?_;have h:=h.zm 0;exact c _ (bn hq (oX ⟨d.len,d.a,d.t⟩ h))
 rw[HQ hb]at c;refine cX ?_;refine lF h v vM λw h=>bP (fun(H:P_×Bool) w=> ∃g2,H=(⟨g2,0,H_⟩,(dY t.f i).2)/\St w0 w (au g2 (ints (dY t.f i).1)::au g1 (ints i)::TL l aa gw G W R sp st sw q x a t so sc)) (λJ B=>?_) ?_
 .obtain⟨i0,p,r,s,u,hi⟩:=JG A;have j:(dY t.f i).1.length=19:=qt o;subst hi;with_reducible repeat' (first|refine bc ?_|refine cH h λw h=>?_|refine QT h ?_|refine Vh h ?_|refine aM h λgx w h=>?_|refine nP h ?_|refine sR h ?_|refine y8 ?_ ?_|fail)
  .refine ajs (t:=t) (i:=[i0,p,r,s,u]) h o rfl λw h=>?_;with_reducible repeat' (first|refine aM h λgx w h=>?_|refine nP h ?_|refine sR h ?_|fail)
   refine afu h rfl j λw h=>?_;exact B _ _ ⟨_,rfl,h⟩
  .refine ajs (t:=t) (i:=[i0,p,r,s,u]) h o rfl λw h=>afu h rfl j λw h=>?_;exact B _ _ ⟨_,rfl,h⟩
 clear h;rintro _ w ⟨g2,rfl,h⟩;have j:(dY t.f i).1.length=19:=qt o;refine ax (λhb=>?_) λhb=>?_
 .have hb:(dY t.f i).2=true:=hb;rw[HK hb]at c;refine anS h j ?_;refine cX ?_;refine AN h j λw h=>dZ λw h=>?_;have h:=(h.rm 0 rfl).rm 0 rfl;exact c _ (bn (q:={q with pJ:=mt gw .next}) (by exact{hq with cT:=rfl}) (vH (G:=G.lZ) ⟨d.len,d.a,d.t⟩ h))
 .have hb:(dY t.f i).2=false:=hb;rw[HQ (by rw[hb];simp)]at c
  obtain⟨i0,p,r,s,u,hi⟩:=JG A;have b:=b hb;subst hi;refine vO λgx w h=>?_;obtain⟨g3,y⟩:∃n,n=gx:=⟨_,rfl⟩;subst y;have b:8<=i0/\i0<=16:=b;have key:∀(m:Mt) (w:N_) (L':List HP),(G,W.go (adl i0))=(G,W.go m)->TO w0 w l aa gw G (W.go m) R sp st sw {q with pJ:=mt gw m} x a t so sc->k () w:=λm w L' e h=>by
   have e2:([i0,p,r,s,u]:List Int).getD 0 0=i0:=rfl;rw[e2,e]at c;exact c _ (bn (by exact{hq with cT:=rfl}) (oX ⟨d.len,d.a,d.t⟩ h))
  have I:aF B_ (i0 - 8)=i0 - 8:=kg ⟨af,af⟩;rw[I];have z:i0=8\/i0=9\/i0=10\/i0=11\/i0=12\/i0=13\/i0=14\/i0=15\/i0=16:=af;rcases z with rfl|rfl|rfl|rfl|rfl|rfl|rfl|rfl|rfl;all_goals
   refine anR (g:=g3) h e7 e7 rfl ?_;refine dZ λw h=>?_;have h:=((h.rm 0 rfl).rm 0 rfl).rm 0 rfl
  .exact key .fork _ [] rfl h
  iterate 2 exact key .join _ [] rfl h
  .exact key .cJ _ [] rfl h
  .exact key .close _ [] rfl h
  .exact key .cancel _ [] rfl h
  .exact key .pass _ [] rfl h
  iterate 2 exact key .leave _ [] rfl h
variable{nd:Nd}
def ado(hq:q.Ok aa gw W)(h:xq w0 w l aa gw G W R sp st ps q)(hv:Rp aa gw q.B kk kv)(hs:nZ G.C zn=G_ nd)(a:Fin w0 l aa gw R k (G,W.looks zn kk)):cv (A_ gw) zn kv w k:=by
 unfold cv yx;have b:=hv.one;refine cX<|axH h hs λgl w h=>?_;have h:=A5 (K:=l6 (λk:Lk=>au q.gl (k.cells l.gc))) h;refine dZ λw h=>a _ (bn (q:={q with pJ:=mt gw .looking,alx:=kv,gl:=gl}) (by exact{hq with cT:=rfl,seen:=hv}) h)
def ayz(u:iA w0 l.ps P)(hI:In P t.f i)(h:qR w0 w l aa gw G W R)(A:G.err=0)(hs:W.stack=x::s')(v:G.ts[x]?=G_ t)(o:nZ G.C t.l7=G_ nd)(hi:0<=i.getD 0 0/\i.getD 0 0<17)(r:(dY t.f i).2=K_->8<=i.getD 0 0/\i.getD 0 0<=16)(b:Fin w0 l aa gw R k (V7 l P G W x t)):gV (A_ gw) w k:=by
 obtain⟨sp,st,sw,q,hq,h⟩:=dX h;obtain⟨a,vs,D,c,_⟩:=m5 hq hs;obtain⟨d,so,sc,h⟩:=n7 h D v;unfold gV Aj;unfold V7 at b;rw[hI.ins]at b;have y:=hI.GZ;obtain⟨i0,e,g,j,m,rfl⟩:=JG y;have hi:0<=i0/\i0<17:=hi;refine vO λgx w h=>?_;obtain⟨z,s⟩:∃n,n=gx:=⟨_,rfl⟩;subst s;refine cX ?_;have h:=h.bk 22;refine JH u hI h c λw h=>?_;have h:=h.fr 22;refine vO λgx w h=>?_;obtain⟨gc,s⟩:∃n,n=gx:=⟨_,rfl⟩;subst s;refine auH hi.1 hi.2 ?_;have F:([i0,e,g,j,m]:List Int).getD 0 0=i0:=rfl;rw[F]at b;refine ax (λhb=>?_) λhb=>?_
 .have hb:anP i0=false:=by simpa using hb
  rw[HQ (by rw[hb];simp)]at b
  refine cX ?_;have h:TO w0 w l aa gw G W R sp st sw q x a t so sc:=(h.rm 0 rfl).rm 0 rfl;have h:=bn hq (oX d h);exact anT (i:=[i0,e,g,j,m]) u h A hs v hI.len y r b
 .have hb:anP i0=true:=by simpa using hb
  rw[HK hb]at b;refine dZ λw h=>?_;refine lF h c vM λw h=>?_;with_reducible repeat' (first|refine bc ?_|refine Iy h ?_|refine sR h ?_)
  have h:=h.swap;have h:=qA h;have h:=qA h;have h:TO w0 w l aa gw G W R sp st sw {q with B:=q.B++[(z,[pt gw])] ++[(gc,ints [i0,e,g,j,m])]} x a t so sc:=h;exact ado (kk:= .nx [i0,e,g,j,m]) (hq.box λp d=>hG _ (hG _ d)) (oX d h) ⟨z,gc,bf,bf,rfl,rfl⟩ o b
variable{zr:Nat}
def auP(j:iA w0 l.ps P)(hq:q.Ok aa gw W)(h:xq w0 w l aa gw G W R sp st sc q)(hb:(b,[pt gw])∈q.B)(m:(zr,ints i)∈q.B)(e:i.length=5)(o:G.err=0)(hs:W.stack=x::s')(g:G.ts[x]?=G_ t)(p:t.f.length=19)(a:(dY t.f i).2=K_->8<=i.getD 0 0/\i.getD 0 0<=16)
  (d:Fin w0 l aa gw R k (adm l G W x t i xm)):gH xm ⟨b,0,H_⟩ ⟨zr,0,H_⟩ w k:=by
 unfold gH wH;unfold adm at d;cases xm
 .refine aU rfl<|cX<|fzW (n:=5) h m (by simp[ints,e]) ?_
  exact anT j (bn hq h) o hs g p e a d
 .refine bK rfl<|cX<|OG (bn hq h) hs g d
def Td{k:Array M_->ap}(h:St w0 w L)(a:t.f.length=19)(b:∀w',St w0 w' L->k (eZ (nE t.f)) w'):av (frV t.f).toArray w k:=by
 rw[Oz a];exact Fr.acQ a λw' c=>b w' (h.on c)
def ayA(h:qR w0 w l aa gw G W R)(e:G.err=0)(hs:W.stack=x::s')(g:G.ts[x]?=G_ t)(d:t.f.length=19)(hk:Fin w0 l aa gw R k (pass l G W x t)):g9 (A_ gw) w k:=by
 obtain⟨sp,st,sw,q,hq,h⟩:=dX h;obtain⟨a,vs,i,c,_⟩:=m5 hq hs;obtain⟨b,so,sc,h⟩:=n7 h i g;unfold g9 Ax;unfold pass at hk;refine G5 h e (λhb w h=>?_) λhb w h=>?_
 .rw[HK hb]at hk;refine cX<|hk _ (bn hq (oX ⟨b.len,b.a,b.t⟩ h))
 rw[HQ hb]at hk;refine cX ?_;refine lF h c vM λw h=>cX ?_;refine lF h c vM λw h=>cX<|Td h d λw h=>cX ?_;refine AN h (by rw[kz,d]) λw h=>?_
 unfold aG;refine dZ λw h=>hk _ (bn (q:={q with pJ:=mt gw .next}) (by exact{hq with cT:=rfl}) (vH (G:=G.lZ) ⟨b.len,b.a,b.t⟩ h))
def auQ{f:List Int}(a:g≠1)(h2:g≠18):(nE f).getD g 0=f.getD g 0:=by
 unfold nE A0;rw[m0,r0 af,r0 af,m0]
def auR:(G.set x t).set x t'=G.set x t':=by unfold Gl.set;dsimp only;rw[List.set_set]
def ahv(a:G.ts[x]?=G_ t):(G.set x t').ts[x]?=G_ t':=uO (kB.1 a).1
variable{c:Int->Prop}{r:Int}
def ldR(h:St w0 w L)[a1:At L (au a) (t.cells ps sc) f](b:0<=r)(d:r<8)(e:c (t.f.getD (2+r.toNat) 0)):Hf (aY (aY ⟨a,0,H_⟩ 4) 2) 8 r 1 λp=>aJ B_ w p c:=by
 refine uu b d ?_;rw[dg];show aJ B_ w ⟨a,0+4+2+r.toNat*1,H_⟩ c;refine cr h ?_ e;have:r=0\/r=1\/r=2\/r=3\/r=4\/r=5\/r=6\/r=7:=af;rcases this with rfl|rfl|rfl|rfl|rfl|rfl|rfl|rfl<;>rfl
def aAi(h:St w0 w L)[a1:At L (au a) (t.cells ps sc) f](b:0<=r)(d:r<8)(e:c (t.f.getD (10+r.toNat) 0)):Hf (aY (aY ⟨a,0,H_⟩ 4) 10) 8 r 1 λp=>aJ B_ w p c:=by
 refine uu b d ?_;rw[dg];show aJ B_ w ⟨a,0+4+10+r.toNat*1,H_⟩ c;refine cr h ?_ e;have:r=0\/r=1\/r=2\/r=3\/r=4\/r=5\/r=6\/r=7:=af;rcases this with rfl|rfl|rfl|rfl|rfl|rfl|rfl|rfl<;>rfl
def auS(s:iA w0 l.ps P)(hI:In P t.f i)(h:qR w0 w l aa gw G W R)(u:G.err=0)(hs:W.stack=x::s')(j:G.ts[x]?=G_ t)(d:0<=i.getD 1 0/\i.getD 1 0<8)(hk:Fin w0 l aa gw R k (leave l P G W x t)):fZ (A_ gw) w k:=by
 obtain⟨sp,st,sw,q,hq,h⟩:=dX h;obtain⟨a,vs,y,e,_⟩:=m5 hq hs;obtain⟨b,so,sc,h⟩:=n7 h y j;unfold fZ yM;unfold leave at hk;rw[hI.ins]at hk;have m:=hI.len;obtain⟨i0,c,o,p,r,rfl⟩:=JG hI.GZ;have d:0<=c/\c<8:=d;have g:(nE t.f).getD (2+c.toNat) 0=t.f.getD (2+c.toNat) 0:=auQ af af;refine G5 h u (λhb w h=>?_) λhb w h=>?_
 .rw[HK hb]at hk;refine cX<|hk _ (bn hq (oX ⟨b.len,b.a,b.t⟩ h))
 rw[HQ hb]at hk;refine cX ?_;refine lF h e vM λw h=>JH s hI h e λw h=>vO λgx w h=>?_;obtain⟨gc,z⟩:∃n,n=gx:=⟨_,rfl⟩;subst z;refine Td h m λw h=>cX<|AN h (by rw[kz,m]) λw h=>?_
 unfold aG;refine dZ λw h=>ax (λhb=>?_) λhb=>?_
 .have hb:i0=15:=by simpa using hb
  refine dZ λw h=>ldR h d.1 d.2 ?_;have h:=h.rm 0 rfl;have h:qR w0 w l aa gw (G.lZ.set x {t with f:=nE t.f}) (W.go .next) R:=bn (q:={q with pJ:=mt gw .next}) (by exact{hq with cT:=rfl}) (vH ⟨b.len,b.a,b.t⟩ h)
  refine abf h hs (ahv j) ?_;unfold ends;rw[auR];rw[HK (show([i0,c,o,p,r]:List Int).getD 0 0=15 from hb)]at hk;show Fin w0 l aa gw R k (G.lZ.set x {t with f:=nE t.f,kind:=3,v:=(nE t.f).getD (2+c.toNat) 0},_);rw[g];exact hk
 .have hb:¬i0=15:=by simpa using hb
  refine dZ λw h=>ldR h d.1 d.2 ?_;have h:=h.rm 0 rfl;have h:qR w0 w l aa gw (G.lZ.set x {t with f:=nE t.f}) (W.go .next) R:=bn (q:={q with pJ:=mt gw .next}) (by exact{hq with cT:=rfl}) (vH ⟨b.len,b.a,b.t⟩ h)
  refine abf h hs (ahv j) ?_;unfold ends;rw[auR];rw[HQ (show¬([i0,c,o,p,r]:List Int).getD 0 0=15 from hb)]at hk;show Fin w0 l aa gw R k (G.lZ.set x {t with f:=nE t.f,kind:=2,v:=(nE t.f).getD (2+c.toNat) 0},_);rw[g];exact hk
def apN(h:qR w0 w l aa gw G W R)(i:G.err=0)(hs:W.stack=x::s')(j:G.ts[x]?=G_ t)(e:t.f.length=19)(n:t.cJ≠ [])(c:nZ G.C t.kA.1=G_ nd)(p:G.M.can W.id nd.at_=J_)(hk:Fin w0 l aa gw R k (cancel l G W x t nd)):fx (A_ gw) w k:=by
 obtain⟨sp,st,sw,q,hq,h⟩:=dX h;obtain⟨a,vs,r,d,_⟩:=m5 hq hs;obtain⟨b,so,sc,h⟩:=n7 h r j;obtain⟨o,m,g⟩:∃o m,t.cJ=o++[m]:=⟨_,_,(ei n).symm⟩;unfold fx wW;unfold cancel at hk;rw[Cr g]at c;refine G5 h i (λhb w h=>?_) λhb w h=>?_
 .rw[HK hb]at hk;refine cX<|hk _ (bn hq (oX ⟨b.len,b.a,b.t⟩ h))
 rw[HQ hb]at hk;refine cX ?_;refine lF h d vM λw h=>dZ λw h=>Ca h g λw h=>?_;with_reducible repeat' (first|refine nP h ?_|fail)
 refine ptI (by rfl) ?_
 refine as9 h c p λw h=>cX<|Td h e λw h=>cX ?_;refine AN h (by rw[kz,e]) λw h=>?_
 unfold aG cj;refine dZ λw h=>hk _ (bn (q:={q with pJ:=mt gw .tell,Zq:=mt gw .next}) (by exact{hq with cT:=rfl,said:=rfl}) (vH (G:=(G.mem (G.M.cs W.id nd.at_ 0 1).1).lZ) ⟨b.len,b.a,b.t⟩ h))
variable{p:Pl}
structure Dr (G:Gl) (s:Int):Prop where
 Zs:G.time.2.length<=100000
 ck:CK G.time
 s0:0<=s
 pl:∃p,G.P[s.toNat]?=G_ p
variable{c:Nat}
def anU(h:TO w0 w l aa gw G W R sp st ps q x a t yk sc)(b:q.qw=pt a::vs)(e:t.cJ=o++[m])(hd:Dr G m.1)
  (j:∀c w',TO w0 w' l aa gw {G with time:=(G.time.1,Ko.EK G.time.2 m.1),P:=Cq G.P m.1} W R sp st ps q x a {t with cJ:=o} c sc->k () w'):eo (A_ gw) w k:=by
 obtain⟨p,f⟩:=hd.pl;unfold eo Aw;refine lF h b vM λw h=>Ca h e λw h=>ptI (by rfl) ?_
 refine cX ?_;refine Ko.ayh hd.Zs hd.ck h λw h=>cX ?_;refine rSt h hd.s0 (by rw[l8,f];rfl) af rfl λw h=>?_
 have r:=(pg (sz:=2) (s:=yk) h).2 af;obtain⟨A,_,g,_⟩:=LN (s:=yk) (sz:=2) inferInstance h;have B:=(g.own (sz:=2) (s:=yk)).max;have i:=(g.own (sz:=2) (s:=yk)).cap;rw[U']at r;have u:t.cJ.length=o.length+1:=by rw[e];simp
 refine dZ λw h=>?_;have v:aF B_ (((yk.n:Nat):Int) - 1)=(o.length:Nat):=by rw[kg ⟨af,af⟩];omega
 show Th yk 2 0 (aF B_ (((yk.n:Nat):Int) - 1)) _;rw[v];refine aDr h af af (by rw[U'];omega) λd y h=>?_
 have z:(t.cJ.map A1).take ((o.length:Nat):Int).toNat=o.map A1:=by simp_all
 have e2:(G.P.map tI).set m.1.toNat ((tI p).set 3 (Iq J_))=(Cq G.P m.1).map tI:=by unfold Cq;rw[f];simp only[List.map_set];rfl
 rw[z,e2]at h;refine dZ λw h=>j d w h
def alQ{o:List (Int×Int)}{m:Int×Int}(hq:q.Ok aa gw W)(h:xq w0 w l aa gw G W R sp st ps q)(hb:(b,[pt gw])∈q.B)(hs:W.stack=x::s')(g:G.ts[x]?=G_ t)(n:t.cJ≠ [])(i:Dr G t.kA.1)(c:Fin w0 l aa gw R k (qI G W x t)):eX ⟨b,0,H_⟩ w k:=by
 obtain⟨o,m,d⟩:∃o m,t.cJ=o++[m]:=⟨_,_,(ei n).symm⟩;obtain⟨a,vs,p,e,_⟩:=m5 hq hs;obtain⟨f,so,sc,h⟩:=n7 h p g;unfold eX uL;unfold qI at c;rw[Cr d]at i;refine cX ?_;refine anU h e d i λr w h=>cX ?_;have j:t.cJ.dropLast=o:=by rw[d];simp
 rw[j]at c;have s:G.Zv x t=({G with time:=(G.time.1,Ko.EK G.time.2 m.1),P:=Cq G.P m.1}:Gl).set x {t with cJ:=o}:=by unfold Gl.Zv;rw[Cr d,j];rfl
 rw[s]at c;exact aft (bn hq (vH (G:={G with time:=(G.time.1,Ko.EK G.time.2 m.1),P:=Cq G.P m.1}) ⟨f.len,f.a,f.t⟩ h)) hs (ahv g) c
def apO{k:Array M_->ap}(h:St w0 w L)(a:t.f.length=19)(b:i.length=5)(c:∀w',St w0 w' L->k (eZ (iG t.f i xm)) w'):jg (frV t.f).toArray (eZ i) xm w k:=by
 rw[Oz a];exact Fr.apm a b λw' d=>c w' (h.on d)
def apP(z:iA w0 l.ps P)(hI:In P t.f i)(h:qR w0 w l aa gw G W R)(A:G.err=0)(hs:W.stack=x::s')(B:G.ts[x]?=G_ t)(D:t.cJ≠ [])(hd:Dr G t.kA.1)(d:nZ G.C t.kA.1=G_ nd)(F:G.M.can W.id nd.at_=J_)(H:t.gL.size<=1000000)(hk:Fin w0 l aa gw R k (gL l P G W x t nd)):fq (A_ gw) w k:=by
 obtain⟨o,m,e⟩:∃o m,t.cJ=o++[m]:=⟨_,_,(ei D).symm⟩;obtain⟨sp,st,sw,q,hq,h⟩:=dX h;obtain⟨a,vs,I,b,_⟩:=m5 hq hs;obtain⟨c,so,sc,h⟩:=n7 h I B;unfold fq wU;unfold gL at hk;rw[Cr e]at d hd;rw[hI.ins]at hk;have u:=hI.len;have v:=hI.GZ;obtain⟨i0,g,j,p,r,hi⟩:=JG v;refine G5 h A (λhb w h=>?_) λhb w h=>?_
 .simp only[HK hb]at hk;refine cX<|hk _ (bn hq (oX ⟨c.len,c.a,c.t⟩ h))
 simp only[HQ hb]at hk;refine cX ?_;refine lF h b vM λw h=>JH z hI h b λw h=>?_;subst hi;refine vO λgx w h=>?_;obtain⟨gc,K⟩:∃n,n=gx:=⟨_,rfl⟩;subst K;refine Ca h e λw h=>?_;with_reducible repeat' (first|refine nP h ?_|fail)
 refine ptI (by rfl) ?_
 refine aiH h d F λw h=>cX ?_;generalize (G.M.get nd.at_ !=0)=ak at hk ⊢;refine bP (fun(s:ByteArray) w'=>s=(if ak then Oq #[49]else Oq #[48])/\w'=w) (λJ y=>?_) ?_
 .cases ak
  .exact aU rfl (y _ _ ⟨rfl,rfl⟩)
  .exact bK rfl (y _ _ ⟨rfl,rfl⟩)
 rintro s _ ⟨hs1,rfl⟩;refine cX ?_;refine⟨?_,?_⟩
 .have:s.size=1:=by rw[hs1];cases ak<;>rfl
  rw[this];omega
 refine dZ λw h=>apO (i:=[i0,g,j,p,r]) h u v λw h=>cX ?_;refine AN (t:={t with gL:=t.gL++s}) h (by rw[pZ,u]) λw h=>?_
 have h:=h.zm 0;have h:TO w0 w l aa gw (G.tick W.id) W R sp st sw q x a {t with gL:=t.gL++s,f:=iG t.f [i0,g,j,p,r] ak} so sc:=h;refine anU h b e ⟨hd.Zs,hd.ck,hd.s0,hd.pl⟩ λL w h=>?_;unfold aG;refine dZ λw h=>?_;have N:t.cJ.dropLast=o:=by rw[e];simp
 have O:(((G.tick W.id).Zv x {t with gL:=t.gL++s,f:=iG t.f [i0,g,j,p,r] ak}).lZ)=({G.tick W.id with time:=(G.time.1,Ko.EK G.time.2 m.1),P:=Cq G.P m.1}:Gl).lZ.set x {t with gL:=t.gL++s,f:=iG t.f [i0,g,j,p,r] ak,cJ:=o}:=by
  unfold Gl.Zv Tk.kA;dsimp only;rw[show t.cJ.getLastD (0,0)=m from Cr e,N];rfl
 rw[<-hs1,O]at hk;exact hk _ (bn (q:={q with pJ:=mt gw .next}) (by exact{hq with cT:=rfl}) (vH ⟨c.len,c.a,c.t⟩ h))
def Yc{sz:Nat}(h:St w0 w (au g cs::L))(b:cs.length=sz)(c:∀v∈cs,v.oneCell'=J_):St w0 w (rws sz ⟨A_ g,1,1⟩ [cs]::L):=by
 have h2:=St.asS (g:=g) (n:=1) (sz:=sz) h af af c;refine St.YA (by intro e' a;simp at a;rw[a];exact b) ?_
 simpa using h2
def anV:ET Tryz.prog 97 1 8 (IB H_):=⟨aZ,aZ⟩
def auU:ET Tryz.prog 146 1 8 .nilFunc:=⟨aZ,aZ⟩
theorem auV(h:qR w0 w l aa gw G W R)(z:G.err=0)(A:W.jq=(x:Nat))(j:G.ts[x]?=G_ t)(D:xH W.dq)(F:G.M.can W.id (W.dq+1)=J_)(m:nZ G.C t.l7=G_ nd)(H:W.stack.length<=100000)(I:W.back.length<=100000)(e:Fin w0 l aa gw R k (OF l G W x t)):fV (A_ gw) w k:=by
 obtain⟨sp,st,sw,q,hq,h⟩:=dX h;have v:=xJ h;obtain⟨a,i⟩:=Zx v j;have L:=qY (s:=q.ss) h;have o:=hq.qw.len;have N:=hq.y6.len;rw[gz]at L;unfold fV yz;unfold OF at e;have hv:=hq.home.one;refine vO λgx w h=>?_;obtain⟨f,r⟩:∃n,n=gx:=⟨_,rfl⟩;subst r;refine cX ?_;refine ax (λhb=>?_) λhb=>?_
 .have hb:(W.stack.length:Int)>=l.deep:=by grind
  rw[HK hb]at e;refine cX ?_;refine KP h e7 z λw h=>?_;exact e _ (bn hq (h.rm 0 rfl))
 have hb:¬(W.stack.length:Int)>=l.deep:=by grind
 rw[HQ hb]at e;refine dZ λw h=>?_;refine VT (M:=G.M) h D F λw h=>?_;refine dZ λw h=>?_;show cN st W.jq 1 _;rw[A];refine vP (s:=st) h af (adn i) ?_;have h:=h.fr 10;obtain⟨so,sc,h⟩:=sv h i j;refine cX ?_;refine Jw rfl rfl ?_;refine vO λgx w h=>?_;obtain⟨O,r⟩:∃n,n=gx:=⟨_,rfl⟩;subst r;have h:=Yc (sz:=2) h rfl (by simp[Value.oneCell'])
 have h:=A5 (K:=rws 2 so) h;have h:=h.fr 4;have h:=h.bk 22;refine bP (fun(_:Unit) w=> ∃s1 s2,TO w0 w l aa gw (G.tick W.id) {W with stack:=x::W.stack,back:=W.home::W.back} (au f [pt gw]::R) sp st sw {q with ss:=s1,sb:=s2,qw:=pt a::q.qw,y6:=q.LB::q.y6} x a {t with cJ:=[(t.own,G.M.get (W.dq+1))]} ⟨A_ O,1,1⟩ sc) (λJ u=>?_) ?_
 .have b:q.qw.reverse.length<=1000000:=by grind
  have d:q.y6.reverse.length<=1000000:=by grind
  with_reducible repeat' (first|refine bc ?_|refine cH h λw h=>?_|refine u_S h ?_|refine u_V h ?_|refine WX h ?_|refine aM h λgx w h=>?_|refine nP h ?_|refine sR h ?_|refine y8 ?_ ?_|refine u_1 ?_|fail)
  .refine I9 (s:=q.ss) h anV aZ rfl b af λs1 w h y=>?_;with_reducible repeat' (first|refine aM h λgx w h=>?_|refine nP h ?_|refine sR h ?_|refine u_1 ?_|fail)
   refine I9 (s:=q.sb) h auU aZ hv d af λs2 w h o=>?_;with_reducible repeat' (first|refine bc ?_|refine Hq h λw h=>?_|refine sR h ?_|fail)
   have h:=(h.rm 0 rfl).rm 0 rfl;rw[<-hU,<-hU]at h;exact u _ _ ⟨s1,s2,h⟩
  .refine I9 (s:=q.ss) h anV aZ rfl b af λs1 w h y=>?_;with_reducible repeat' (first|refine nP h ?_|refine sR h ?_|fail)
   refine I9 (s:=q.sb) h auU aZ hv d af λs2 w h o=>?_;with_reducible repeat' (first|refine bc ?_|refine Hq h λw h=>?_|refine sR h ?_|fail)
   have h:=(h.rm 0 rfl).rm 0 rfl;rw[<-hU,<-hU]at h;exact u _ _ ⟨s1,s2,h⟩
  .refine I9 (s:=q.ss) h anV aZ rfl b af λs1 w h y=>?_;with_reducible repeat' (first|refine nP h ?_|refine sR h ?_|fail)
   refine I9 (s:=q.sb) h auU aZ hv d af λs2 w h o=>?_;with_reducible repeat' (first|refine bc ?_|refine Hq h λw h=>?_|refine sR h ?_|fail)
   have h:=(h.rm 0 rfl).rm 0 rfl;rw[<-hU,<-hU]at h;exact u _ _ ⟨s1,s2,h⟩
 clear h;rintro _ w ⟨s1,s2,h⟩;have h:=h.fr 22;refine dZ λw h=>?_;have h:=qA h;have P:Tp aa (G.tick W.id) x a t:=⟨v,i,j⟩;have h:=vH (q:={q with ss:=s1,sb:=s2,qw:=pt a::q.qw,y6:=q.LB::q.y6,B:=q.B++[(f,[pt gw])]}) P h;exact ado (kk:= .c .xp)
  (by exact{KL (g:=f) (cs:=[pt gw]) hq with qw:= .cons ⟨a,i,rfl⟩ hq.qw,y6:= .cons (hq.home.box λp h=>hG _ h) (KL (g:=f) (cs:=[pt gw]) hq).y6}) h ⟨f,bf,rfl⟩ m e
variable{bs:List Kn}{kb:Kn}
def auW(hq:q.Ok aa gw W)(hs:W.back=kb::bs):∃u a,Rp aa gw q.B kb u/\q.y6=u::a/\KK (Rp aa gw q.B) bs a:=by
 have h:=hq.y6;rw[hs]at h;generalize q.y6=s at h ⊢;cases h with
 |cons h1 h2=>exact⟨_,_,h1,rfl,h2⟩
theorem ayB(h:qR w0 w l aa gw G W R)(hs:W.stack=x::s')(f:W.back=kb::bs)(r:bs.length=s'.length)(v:G.ts[x]?=G_ t)(y:G.M.OK)(g:nZ G.C t.l7=G_ nd)(z:G.M.can W.id (nd.at_+1)=J_)(b:Fin w0 l aa gw R k (gone G W nd)):ie (A_ gw) w k:=by
 obtain⟨sp,st,sw,q,hq,h⟩:=dX h;obtain⟨a,vs,A,c,d⟩:=m5 hq hs;obtain⟨u,i,j,m,e⟩:=auW hq f;have B:=j.one;have D:=d.len;have F:=e.len;unfold ie AE;unfold gone at b;rw[hs,f]at b;have H:=qY (s:=q.ss) h;have L:=(h.own (sz:=1) (s:=q.ss)).max;have p:=(h.own (sz:=1) (s:=q.ss)).cap;rw[c,gz,x_]at H;refine dZ λw h=>?_;refine lF h c vM λw h=>?_;obtain⟨o,so,sc,h⟩:=n7 h A v;with_reducible repeat' (first|refine bc ?_|refine Iy h ?_|refine nP h ?_)
 refine as8 h g z y λw h=>?_;have h:=qg o.len o.a o.t h;have h:=h.bk 9;refine cX ?_;have I:aF B_ (((q.ss.n:Nat):Int) - 1)=(vs.length:Nat):=by rw[kg ⟨af,af⟩];omega
 show cN q.sb (aF B_ (((q.ss.n:Nat):Int) - 1)) 1 _;rw[I];refine vV h af (x:=u) ?_ ?_
 .grind
 refine dZ λw h=>?_;show Th q.ss 1 0 ((vs.length:Nat):Int) _;refine am1 h af (by rw[c];simp;omega) λs1 J h=>?_
 refine cX ?_;show Th q.sb 1 0 ((vs.length:Nat):Int) _;refine am1 h af (by rw[m];simp;omega) λs2 N h=>?_
 have K:q.qw.reverse.take ((vs.length:Nat):Int).toNat=vs.reverse:=by grind
 have e2:q.y6.reverse.take ((vs.length:Nat):Int).toNat=i.reverse:=by grind
 rw[K,e2]at h;refine dZ λw h=>?_;dsimp only[List.headD,List.tail]at b;refine ax (λhb=>?_) λhb=>?_
 .have hb:(W.bits !=0||G.M.get (nd.at_+1)==1)=true:=hb;rw[HK hb]at b;unfold cj;refine dZ λw h=>b _ (bn (q:={q with pJ:=mt gw .tell,Zq:=u,ss:=s1,sb:=s2,qw:=vs,y6:=i}) (by exact{hq with cT:=rfl,said:=j,qw:=d,y6:=e}) h)
 .have hb:(W.bits !=0||G.M.get (nd.at_+1)==1)=false:=hb;rw[HQ (by rw[hb];simp)]at b
  exact b _ (bn (q:={q with pJ:=u,ss:=s1,sb:=s2,qw:=vs,y6:=i}) (by exact{hq with cT:=j,qw:=d,y6:=e}) h)
def auX:ET Tryz.prog 96 4 32 (.agg #[I_ 0,I_ 0,I_ 0,Iq K_]):=⟨aZ,aZ⟩
def ayC(h:qR w0 w l aa gw G W R)(i:G.err=0)(hs:W.stack=x::s')(n:G.ts[x]?=G_ t)(p:t.cJ≠ [])(r:G.M.OK)(s:G.M.caller W.id=J_)(u:G.C.length<=1000000)(v:G.P.length<=1000000)(c:nZ G.C t.kA.1=G_ nd)(b:Fin w0 l aa gw R k (fork G W t nd)):gX (A_ gw) w k:=by
 obtain⟨o,m,j⟩:∃o m,t.cJ=o++[m]:=⟨_,_,(ei p).symm⟩;obtain⟨sp,st,sw,q,hq,h⟩:=dX h;obtain⟨a,vs,y,e,z⟩:=m5 hq hs;unfold gX An;unfold fork at b;rw[Cr j]at b c;refine dZ λw h=>?_;refine lF h e vM λw h=>?_;obtain⟨f,so,sc,h⟩:=n7 h y n;with_reducible repeat' (first|refine nP h ?_|fail)
 refine Ca h j λw h=>?_;have h:=qg f.len f.a f.t h;have h:=h.bk 9;with_reducible repeat' (first|refine nP h ?_|fail)
 refine ptI (by rfl) ?_
 refine agZ h c s r u (λd w h=>?_) (λd g w h=>?_) λd g w h=>?_
 .rw[HK d]at b;refine cX ?_;exact KP h e7 i λw h=>b _ (bn hq h)
 .rw[HQ d,HK g]at b;refine cX ?_;exact KP h e7 i λw h=>b _ (bn hq h)
 .rw[HQ d,HQ (by rw[g];simp)]at b
  refine dZ λw h=>?_;refine Jw rfl rfl<|vO λgx w h=>?_;refine Z8 h auX aZ rfl af (by simp[Value.oneCell']) (gq v) af λs1 w h B=>?_
  have h:=h.zm 0;have A:G.P.map tI++[tI (-2,0,0,K_)]=(G.P++[(-2,0,0,K_)]).map tI:=by simp
  rw[A]at h;with_reducible repeat' (first|refine bc ?_|refine Hq h λw h=>?_|refine nP h ?_)
  exact b _ (bn (q:={q with pJ:=mt gw .xo}) (by exact{hq with cT:=rfl}) h)
def apQ(h:qR w0 w l aa gw G W R)(hs:W.stack=x::s')(e:G.ts[x]?=G_ t)(j:t.cJ≠ [])(p:G.M.OK)(b:nZ G.C t.kA.1=G_ nd)(r:G.M.can W.id (nd.at_+1)=J_)(f:Fin w0 l aa gw R k (tF l G W nd)):fp (A_ gw) w k:=by
 obtain⟨o,m,g⟩:∃o m,t.cJ=o++[m]:=⟨_,_,(ei j).symm⟩;obtain⟨sp,st,sw,q,hq,h⟩:=dX h;obtain⟨a,vs,i,c,s⟩:=m5 hq hs;unfold fp wP;unfold tF at f;rw[Cr g]at b;refine vO λgx w h=>?_;obtain⟨d,u⟩:∃n,n=gx:=⟨_,rfl⟩;subst u;refine cX ?_;refine lF h c vM λw h=>?_;have h:=h.fr 10;have v:aa.length=G.ts.length:=KI h;obtain⟨so,sc,h⟩:=sv h i e;with_reducible repeat' (first|refine nP h ?_|refine sR h ?_)
 refine Ca h g λw h=>?_;have h:=qg v i e h;have h:=h.bk 10;with_reducible repeat' (first|refine nP h ?_|refine sR h ?_)
 refine ptI (by rfl) ?_
 refine aiG h b r p λw h=>?_;with_reducible repeat' (first|refine bc ?_|refine cH h λw h=>?_|refine Iy h ?_|refine WX h ?_|refine QT h ?_|refine nP h ?_|refine sR h ?_|refine I8 ?_|refine AM ?_)
 refine anp h λgo w h=>?_;have h:=A5 (K:=l6 (uh q.go)) h;refine cX ?_;unfold bq;with_reducible repeat' (first|refine bc ?_|refine Hq h λw h=>?_|refine sR h ?_)
 have h:=qA h;exact f w (bn (q:={q with go:=go,pJ:=mt gw .pF,KJ:=ct d .um,B:=q.B++[(d,[pt gw])]}) (by exact{KL hq with cT:=rfl,after:=⟨d,bf,rfl⟩}) h)
variable{a' y:Nat}
def Zy(h:qR w0 w l aa gw G W R)(hs:W.stack=x::s')(g:G.ts[x]?=G_ t)(i:aa[y]?=G_ a')(m:G.M.can W.id l.told=J_)(d:nZ G.C t.l7=G_ nd)(o:Fin w0 l aa gw R k (Gi l G W t y)):c9 (A_ gw) (A_ a') w k:=by
 obtain⟨sp,st,sw,q,hq,h⟩:=dX h;have r:=xJ h;obtain⟨a,vs,j,e,s⟩:=m5 hq hs;unfold c9 wR;with_reducible repeat' (first|refine bc ?_|refine cH h λw h=>?_|refine Tn h ?_|refine Iy h ?_|refine WX h ?_|refine Hq h λw h=>?_|refine aM h λgx w h=>?_|refine sR h ?_)
 obtain⟨gc,f⟩:∃n,n=gx:=⟨_,rfl⟩;subst f;obtain⟨b,f⟩:∃n,n=gx:=⟨_,rfl⟩;subst f;have h:=h.fr 3;have h:=h.fr 13;refine acF h m λw h=>?_;have h:=h.bk 13;have h:=h.bk 3;with_reducible repeat' (first|refine cH h λw h=>?_|refine WX h ?_|refine nP h ?_|refine sR h ?_|refine I8 ?_|refine AM ?_)
 refine lF h e vM λw h=>?_;have h:=h.fr 11;obtain⟨so,sc,h⟩:=sv h j g;with_reducible repeat' (first|refine bc ?_|refine Iy h ?_|refine sR h ?_)
 have h:=qg r j g h;have h:=h.bk 11;have h:=qA h;have h:=qA h;have u:∀p∈q.B,p∈q.B++[(gc,[pt a'])] ++[(b,[pt gw])]:=λp v=>hG _ (hG _ v);exact ado (kk:= .c .th) (G:=G.tick W.id) (q:={q with O6:=A_ a',zi:= .func (F_ eP) #[] #[pt b,pt gc],B:=q.B++[(gc,[pt a'])] ++[(b,[pt gw])]})
  (by exact{hq.box u with target:=⟨a',i,rfl⟩,again:=⟨b,gc,a',bf,i,bf,rfl⟩}) h ⟨b,bf,rfl⟩ d o
def aAj(hq:q.Ok aa gw W)(h:xq w0 w l aa gw G W R sp st ps q)(hb:(b,[pt gw])∈q.B)(a:(c,[pt a'])∈q.B)(hs:W.stack=x::s')(e:G.ts[x]?=G_ t)(f:aa[y]?=G_ a')(g:G.M.can W.id l.told=J_)(d:nZ G.C t.l7=G_ nd)(i:Fin w0 l aa gw R k (Gi l G W t y)):cw ⟨b,0,H_⟩ ⟨c,0,H_⟩ w k:=by
 unfold cw uK;refine Zn h hb (Zn h a ?_);exact Zy (bn hq h) hs e f g d i
variable{u:M_}
def aAk(hq:q.Ok aa gw W)(h:xq w0 w l aa gw G W R sp st ps q)(hb:(b,[pt gw])∈q.B)(a:(c,[u])∈q.B)(hv:Rp aa gw q.B kk u)(hs:W.stack=x::s')(d:G.ts[x]?=G_ t)(e:t.cJ≠ [])(f:Fin w0 l aa gw R k (G,shut W kk t)):cL ⟨b,0,H_⟩ ⟨c,0,H_⟩ w k:=by
 unfold cL xf;refine Zn h hb (fzV h a ?_);exact aht hq h hs d e hv f
def abg(hq:q.Ok aa gw W)(h:xq w0 w l aa gw G W R sp st ps q)(hv:Rp aa gw q.B kk u)(a:Fin w0 l aa gw R k (G,W.stop kk)):bI (A_ gw) u w k:=by
 unfold bI;have b:=hv.one;refine dZ λw h=>?_;have h:=A5 (K:=l6 (λo:jH=>au q.gp (o.cells l.sp q.gp))) (St.shut (A:=[]) h);exact a _ (bn (q:={q with pJ:=mt gw .stops,MG:=u}) (by exact{hq with cT:=rfl,pG:=hv}) h)
variable{z:Int}
def anW(hq:q.Ok aa gw W)(h:xq w0 w l aa gw G W R sp st ps q)(hv:Rp aa gw q.B kk u)(a:Fin w0 l aa gw R k (G,W.HE z kk)):bi (A_ gw) z u w k:=by
 unfold bi;have b:=hv.one;refine dZ λw h=>a _ (bn (q:={q with pJ:=mt gw .tE,LB:=u}) (by exact{hq with cT:=rfl,home:=hv}) h)
variable{d:Nat}{tt:Tk}
def aB0(hq:q.Ok aa gw W)(h:xq w0 w l aa gw G W R sp st ps q)(hb:(b,[pt gw])∈q.B)(f:aa[y]?=G_ a')(a:(c,[pt a'])∈q.B)(hv:Rp aa gw q.B kk u)(e:(d,[u])∈q.B)(g:G.ts[y]?=G_ tt)(i:Fin w0 l aa gw R k (G,W.HE tt.id kk)):fG ⟨b,0,H_⟩ ⟨c,0,H_⟩ ⟨d,0,H_⟩ w k:=by
 unfold fG vB;obtain⟨j,so,sc,h⟩:=n7 h f g;with_reducible repeat' (first|refine bc ?_|refine cH h λw h=>?_|refine Iy h ?_|refine Zn h hb ?_|refine Zn h a ?_|refine fzV h e ?_)
 exact anW hq (oX j h) hv i
def aB1(hq:q.Ok aa gw W)(h:xq w0 w l aa gw G W R sp st ps q)(hb:(b,[pt gw])∈q.B)(a:(c,[I_ z])∈q.B)(hv:Rp aa gw q.B kk u)(e:(d,[u])∈q.B)(f:Fin w0 l aa gw R k (G,W.HE z kk)):fI ⟨b,0,H_⟩ ⟨c,0,H_⟩ ⟨d,0,H_⟩ w k:=by
 unfold fI vC;refine Zn h hb (fzI h a (fzV h e ?_));exact anW hq h hv f
def ajt(h:qR w0 w l aa gw G W R)(d:Fin w0 l aa gw R k (BQ G W z)):cW (A_ gw) z w k:=by
 obtain⟨sp,st,sw,q,hq,h⟩:=dX h;unfold cW ym;have hv:=hq.again.one;with_reducible repeat' (first|refine bc ?_|refine u_V h ?_|refine WX h ?_|refine v_C h λw h=>?_|refine aM h λgx w h=>?_)
 obtain⟨gd,a⟩:∃n,n=gx:=⟨_,rfl⟩;subst a;obtain⟨gc,a⟩:∃n,n=gx:=⟨_,rfl⟩;subst a;obtain⟨b,a⟩:∃n,n=gx:=⟨_,rfl⟩;subst a;have h:=qA h;have h:=qA h;have h:=qA h;have c:∀p∈q.B,p∈q.B++[(gd,[q.zi])] ++[(gc,[I_ z])] ++[(b,[pt gw])]:=λp e=>hG _ (hG _ (hG _ e));exact abg (kk:= .BR z W.again) (hq.box c) h ⟨b,gc,gd,q.zi,bf,bf,hq.again.box c,bf,rfl⟩ d
def auY(h:qR w0 w l aa gw G W R)(hs:W.stack=x::s')(s:G.ts[x]?=G_ t)(C:G.M.OK)(i:W.target=G_ y)(u:G.ts[y]?=G_ tt)(D:G.M.can W.id (tt.jI+0)=J_)(F:t.cJ≠ [])(b:Fin w0 l aa gw R k (asked G W t tt y)):gu (A_ gw) w k:=by
 obtain⟨sp,st,sw,q,hq,h⟩:=dX h;have v:=xJ h;obtain⟨a,vs,z,j,H⟩:=m5 hq hs;obtain⟨a',r,d⟩:∃a',aa[y]?=G_ a'/\q.O6=A_ a':=by have:=hq.target;rw[i]at this;exact this
 unfold gu yO;unfold asked at b;have hv:=hq.again.one;refine vO λgx w h=>?_;obtain⟨f,e⟩:∃n,n=gx:=⟨_,rfl⟩;subst e;rw[d];have h:=h.fr 10;obtain⟨so,sc,h⟩:=sv h r u;refine cX<|ao1 h C D λw h=>?_;have h:=qg v r u h;have h:=h.bk 10;refine vO λgx w h=>?_;obtain⟨gc,e⟩:∃n,n=gx:=⟨_,rfl⟩;subst e;rw[d]at h;dsimp only at b;refine ax (λhb=>?_) λhb=>?_
 .rw[HK (gq hb)]at b
  refine vO λgx w h=>?_;obtain⟨gd,e⟩:∃n,n=gx:=⟨_,rfl⟩;subst e;have h:=qA h;have h:=qA h;have h:=qA h;have A:∀p∈q.B,p∈q.B++[(gd,[q.zi])] ++[(gc,[pt a'])] ++[(f,[pt gw])]:=λp I=>hG _ (hG _ (hG _ I));exact abg (kk:= .V2 y W.again) (hq.box A) h ⟨f,gc,gd,a',q.zi,bf,r,bf,hq.again.box A,bf,rfl⟩ b
 rw[HQ (gq hb)]at b
 refine ax (λhb=>?_) λhb=>?_
 .rw[HK (gq hb)]at b
  refine dZ λw h=>?_;refine lF h j vM λw h=>?_;have h:=h.fr 11;obtain⟨so,sc,h⟩:=sv h z s;with_reducible repeat' (first|refine bc ?_|refine u_S h ?_|refine sR h ?_)
  cases hop:t.cJ with
  |nil=>exact(F hop).elim
  |cons m o=>
   rw[hop]at b;refine rI h e7 (by rw[hop];rfl) rfl ?_
   have h:=qg v z s h;have h:=h.bk 11;unfold dM;refine dZ λw h=>?_;have h:=(h.rm 0 rfl).rm 0 rfl;exact b _ (bn (q:={q with pJ:=mt gw .ul,IP:=mt gw .vQ}) (by exact{hq with cT:=rfl,dK:=rfl}) h)
 .rw[HQ (gq hb)]at b
  refine dZ λw h=>?_;have h:=h.zm 0;have h:=qA h;exact abg (kk:= .c .IF) (by exact{KL (g:=f) (cs:=[pt gw]) hq with}) h ⟨f,bf,rfl⟩ b
def anX(h:qR w0 w l aa gw G W R)(hs:W.stack=x::s')(g:G.ts[x]?=G_ t)(f:Fin w0 l aa gw R k (vQ G W t)):cu (A_ gw) w k:=by
 obtain⟨sp,st,sw,q,hq,h⟩:=dX h;obtain⟨a,vs,i,b,j⟩:=m5 hq hs;obtain⟨e,so,sc,h⟩:=n7 h i g;unfold cu z0;unfold vQ at f;refine vO λgx w h=>?_;obtain⟨d,m⟩:∃n,n=gx:=⟨_,rfl⟩;subst m;refine bP (fun(o:P_×P_) w=> ∃g1 g2,o=(⟨g1,0,H_⟩,⟨g2,0,H_⟩)/\St w0 w (au g1 [I_ t.id]::au g2 [IB q.O6]::au d [pt gw]::TL l aa gw G W R sp st sw q x a t so sc)) (λJ c=>?_) ?_
 .with_reducible repeat' (first|refine bc ?_|refine cH h λw h=>?_|refine Tn h ?_|refine WX h ?_|refine aM h λgx w h=>?_|refine nP h ?_|refine sR h ?_|refine y8 ?_ ?_|fail)
  .refine lF h b vM λw h=>?_;with_reducible repeat' (first|refine bc ?_|refine Iy h ?_|refine v_C h λw h=>?_|refine aM h λgx w h=>?_|refine nP h ?_|refine sR h ?_|refine y8 ?_ ?_|fail)
   .exact c _ _ ⟨_,_,rfl,h.swap⟩
   .exact c _ _ ⟨_,_,rfl,h⟩
  .refine lF h b vM λw h=>?_;with_reducible repeat' (first|refine bc ?_|refine Iy h ?_|refine v_C h λw h=>?_|refine aM h λgx w h=>?_|refine nP h ?_|refine sR h ?_|fail)
   exact c _ _ ⟨_,_,rfl,h.swap⟩
  .refine lF h b vM λw h=>?_;with_reducible repeat' (first|refine bc ?_|refine Iy h ?_|refine v_C h λw h=>?_|refine nP h ?_|refine sR h ?_|fail)
   exact c _ _ ⟨_,_,rfl,h.swap⟩
  .refine lF h b vM λw h=>?_;with_reducible repeat' (first|refine bc ?_|refine Iy h ?_|refine v_C h λw h=>?_|refine aM h λgx w h=>?_|refine nP h ?_|refine sR h ?_|fail)
   exact c _ _ ⟨_,_,rfl,h⟩
  .refine lF h b vM λw h=>?_;with_reducible repeat' (first|refine bc ?_|refine Iy h ?_|refine v_C h λw h=>?_|refine nP h ?_|refine sR h ?_|fail)
   exact c _ _ ⟨_,_,rfl,h⟩
 clear h;rintro _ w ⟨g1,g2,rfl,h⟩;unfold dx;refine dZ λw h=>?_;have h:=qA h;have h:=qA h;have h:=qA h;have r:∀p∈q.B,p∈q.B++[(g1,[I_ t.id])] ++[(g2,[IB q.O6])] ++[(d,[pt gw])]:=λp e=>hG _ (hG _ (hG _ e));exact f _ (bn (q:={q with pJ:=mt gw .others,Zo:= .func (F_ lY) #[] #[pt d,pt g1,pt g2],ajd:=mt gw .BQ,Zp:=mt gw .nothing,B:=q.B++[(g1,[I_ t.id])] ++[(g2,[IB q.O6])] ++[(d,[pt gw])]})
  (by exact{hq.box r with cT:=rfl,fits:=⟨d,g1,g2,q.O6,bf,bf,bf,by have s:=hq.target;revert s;cases W.target<;>exact λh=>h,rfl⟩,got:=rfl,none_:=rfl}) (oX e h))
variable{c:M_->ap}
def auZ(h:cu yv w λ_ w=>c (J3 #[]) w):z5 [IB yv] w c:=h
variable{p:P_}
def apR(h:cV p w λ_ w=>c (J3 #[]) w):wF [IB (G_ p)] w c:=h
variable{y3:ey}
def adp(hd:W.dK= .m .vQ\/W.dK= .c .Db)(d:∀args w c,y3 (.func ku) args w c=z5 args.toList w c)(e2:∀args w c,y3 (.func kr) args w c=wF args.toList w c)
  (hq:q.Ok aa gw W) (h:xq w0 w l aa gw G W R sp st ps q) (hs:W.stack=x::s') (e:G.ts[x]?=G_ t) (a:Fin w0 l aa gw R (λ_ w=>c (J3 #[]) w) (dK G W t)):nj y3 q.IP #[] w c:=by
 unfold dK at a;have hv:=hq.dK;rcases hd with hd|hd
 .rw[hd]at a hv;obtain hv:q.IP=mt gw .vQ:=hv;rw[hv];rw[HK rfl]at a;refine bV d (auZ ?_);exact anX (bn hq h) hs e a
 .rw[hd]at a hv;obtain⟨b,hb,hv⟩:=hv;rw[hv];rw[HQ e7]at a;refine bV e2 (apR ?_);exact auO hq h hb a
def apS(h:qR w0 w l aa gw G W R)(hs:W.stack=x::s')(d:G.ts[x]?=G_ t)(e:W.dK= .m .vQ\/W.dK= .c .Db)(f:xH W.dq)(g:G.M.can W.id (W.dq+1)=J_)(a:Fin w0 l aa gw R k (ul l G W t)):fA (A_ gw) w k:=by
 obtain⟨sp,st,sw,q,hq,h⟩:=dX h;unfold fA xd;unfold ul at a;dsimp only at a;refine vO λgx w h=>?_;obtain⟨b,i⟩:∃n,n=gx:=⟨_,rfl⟩;subst i;refine VT h f g λw h=>cX<|ax (λhb=>?_) λhb=>?_
 .rw[HK (of_decide_eq_true hb)]at a;refine cX ?_;have h:=h.zm 0;exact adp (G:=G.tick W.id) e (λ_ _ _=>rfl) (λ_ _ _=>rfl) hq h hs d a
 .rw[HQ (of_decide_eq_false hb)]at a;refine dZ λw h=>ato h λgo w h=>?_;have h:=A5 (K:=l6 (uh q.go)) h;refine cX ?_;unfold bq;with_reducible repeat' (first|refine bc ?_|refine Hq h λw h=>?_|refine sR h ?_)
  have h:=qA h;exact a w (bn (q:={q with go:=go,pJ:=mt gw .pF,KJ:=ct b .td,B:=q.B++[(b,[pt gw])]}) (by exact{KL hq with cT:=rfl,after:=⟨b,bf,rfl⟩}) h)
def alR(hq:q.Ok aa gw W)(h:xq w0 w l aa gw G W R sp st ps q)(hb:(b,[pt gw])∈q.B)(e:W.op.isSome=J_)(hs:W.stack=x::s')(f:G.ts[x]?=G_ t)(g:W.dK= .m .vQ\/W.dK= .c .Db)(d:Fin w0 l aa gw R k (td G W t DC)):eV DC ⟨b,0,H_⟩ w k:=by
 unfold eV uE;unfold td at d;refine ax (λa=>?_) λa=>?_
 .rw[HK (gq a)]at d
  refine cX<|adp g (λ_ _ _=>rfl) (λ_ _ _=>rfl) hq h hs f d
 .rw[HQ (gq a)]at d
  refine dZ λw h=>ahs h e ?_;with_reducible repeat' (first|refine vW ?_|fail)
  exact ajt (bn hq h) d
def alS(h:qR w0 w l aa gw G W R)(hs:W.stack=x::s')(d:G.ts[x]?=G_ t)(i:t.cJ≠ [])(j:G.M.OK)(b:nZ G.C t.kA.1=G_ nd)(n:G.M.can W.id (nd.at_+1)=J_)(c:Fin w0 l aa gw R k (sx G W t nd)):eO (A_ gw) w k:=by
 obtain⟨o,m,f⟩:∃o m,t.cJ=o++[m]:=⟨_,_,(ei i).symm⟩;obtain⟨sp,st,sw,q,hq,h⟩:=dX h;have p:=xJ h;obtain⟨a,vs,g,e,r⟩:=m5 hq hs;unfold eO vz;unfold sx at c;rw[Cr f]at b;have hv:=hq.qc.one;refine dZ λw h=>?_;refine lF h e vM λw h=>?_;have h:=h.fr 9;obtain⟨so,sc,h⟩:=sv h g d;with_reducible repeat' (first|refine nP h ?_|fail)
 refine Ca h f λw h=>?_;have h:=qg p g d h;have h:=h.bk 9;with_reducible repeat' (first|refine nP h ?_|fail)
 refine ptI (by rfl) ?_
 refine axG h b n j λw h=>cX<|ax (λhb=>?_) λhb=>?_
 .rw[HK (gq hb)]at c
  refine cX<|abg hq h hq.qc c
 .rw[HQ (gq hb)]at c
  exact anX (bn (G:=G.tick W.id) hq h) hs d c
def Gl.vJ(G:Gl)(y:Nat):Int:=match G.ts[y]? with|some t=>t.id|none=>0
def Gl.V8(G:Gl)(y:Nat):Int:=match G.ts[y]? with|some t=>t.jI|none=>0
def Zz(hq:q.Ok aa gw W)(a:W.target=G_ y):∃a',aa[y]?=G_ a'/\q.O6=A_ a':=by have:=hq.target;rw[a]at this;exact this
theorem ayD(hq:q.Ok aa gw W):(eA q.O6)=(eA W.target):=by
 have:=hq.target;grind
theorem alT(h:qR w0 w l aa gw G W R)(c:W.wait.how=1)(a:Fin w0 l aa gw R k (nothing G W)):fE (A_ gw) w k:=by
 obtain⟨sp,st,sw,q,hq,h⟩:=dX h;unfold fE vo;unfold nothing at a;have hv:=hq.again.one;refine cX<|ax (λhb=>?_) λhb=>?_
 .rw[HK hb]at a;refine dZ λw h=>a _ (bn (q:={q with pJ:=q.zi}) (by exact{hq with cT:=hq.again}) h)
 rw[HQ (by rw[hb];simp)]at a
 refine bP (λb w'=>b=(W.target.isSome&& !W.bO)/\w'=w) (λJ d=>?_) ?_
 .refine cX ?_;rw[ayD hq];refine ax (λhb=>?_) λhb=>?_
  .refine cX<|d _ _ ⟨?_,rfl⟩;grind
  .grind
 rintro _ _ ⟨rfl,rfl⟩;refine ax (λhb=>?_) λhb=>?_
 .rw[HK hb]at a;refine dZ λw h=>a _ (bn (q:={q with pJ:=mt gw .register}) (by exact{hq with cT:=rfl}) h)
 rw[HQ (by rw[hb];simp)]at a
 refine cX<|ax (λhb=>?_) λhb=>?_
 .rw[HQ (gq hb)]at a
  refine cX<|atC h λgp w h=>?_;have h:=A5 (K:=l6 (λo:jH=>au q.gp (o.cells l.sp q.gp))) h;refine dZ λw h=>a _ (bn (q:={q with pJ:=mt gw .block,gp:=gp}) (by exact{hq with cT:=rfl}) h)
 .rw[HK (gq hb)]at a
  refine dZ λw h=>anm h λw h=>?_;rw[HK c];rw[HK c]at h;with_reducible repeat' (first|refine bc ?_|refine Hq h λw h=>?_|refine nP h ?_|refine i_T ?_|refine AM ?_)
  exact a _ (bn (q:={q with pJ:=mt gw .Io}) (by exact{hq with cT:=rfl}) h)
def ajv(h:qR w0 w l aa gw G W R)(a:W.target=G_ y)(c:G.ts[y]?=G_ tt)(e:G.M.OK)(f:0<=W.id/\W.id<=16)(g:G.M.can W.id (tt.jI+2)=J_)(i:Fin w0 l aa gw R k (register G W tt)):ez (A_ gw) w k:=by
 obtain⟨sp,st,sw,q,hq,h⟩:=dX h;have j:=xJ h;obtain⟨a',d,b⟩:=Zz hq a;unfold ez uI;have hv:=hq.again.one;refine dZ λw h=>?_;rw[b];have h:=h.fr 9;obtain⟨so,sc,h⟩:=sv h d c;refine cX<|atf h e f g λw h=>?_;have h:=qg j d c h;have h:=h.bk 9;with_reducible repeat' (first|refine bc ?_|refine u_V h ?_|refine Hq h λw h=>?_|refine nP h ?_|refine i_T ?_|refine AM ?_)
 exact i _ (bn (q:={q with pJ:=q.zi}) (by exact{hq with cT:=hq.again}) h)
def au0{o:jH}(h:qR w0 w l aa gw G W R)(c:TZ w0)(hs:l.sp.OK)(d:G.M.OK)(b:W.step=G_ o)(e:o.GX l.sp G.M W.id)(a:Fin w0 l aa gw R k (block l G W o)):gv (A_ gw) w k:=by
 obtain⟨id,dq,wait,stack,back,cT,op,after,look,seen,step,left,late,fits,got,none_,jq,home,target,kind,bO,blocked,again,pG,mark,dK,own,said,bits,qc⟩:=W;dsimp only at b;subst b;obtain⟨sp,st,sw,q,hq,h⟩:=dX h;unfold gv yT;unfold block at a;dsimp only[l6]at h;have hv:=hq.again.one;refine dZ λw h=>?_;have h:=h.fr 1;have h:=h.fr 17;refine Ze h c hs d e λw h=>?_;have h:=h.bk 17;have h:=h.bk 1;generalize o.go l.sp G.M id=r at h a ⊢;refine cX<|ax (λhb=>?_) λhb=>?_
 .have hb:r.1.next=0:=by simpa using hb
  simp only[HK hb]at a;refine dZ λw h=>a _ (bn (q:={q with pJ:=q.zi}) (by exact{hq with cT:=hq.again}) h)
 .have hb:¬r.1.next=0:=by simpa using hb
  simp only[HQ hb]at a;exact a _ (bn (by exact{hq with}) h)
variable{r:P_}
def au1(h:cw p r w λ_ w=>c (J3 #[]) w):oU [IB (G_ p),IB (G_ r)] w c:=h
def au2(h:cL p r w λ_ w=>c (J3 #[]) w):pX [IB (G_ p),IB (G_ r)] w c:=h
def afv(G:Gl)(W:Wk)(t:Tk):Prop:=match W.again with
 | .aw y=>True
 | .sh k=>t.cJ≠ []
 |_=>False
def au3(a:afv G W t)(i:∀args w c,y3 (.func eP) args w c=oU args.toList w c)(e2:∀args w c,y3 (.func fN) args w c=pX args.toList w c)
  (hq:q.Ok aa gw W) (h:xq w0 w l aa gw G W R sp st ps q) (hs:W.stack=x::s') (g:G.ts[x]?=G_ t) (j:G.M.can W.id l.told=J_) (e:nZ G.C t.l7=G_ nd) (d:Fin w0 l aa gw R (λ_ w=>c (J3 #[]) w) (again l G W t)):nj y3 q.zi #[] w c:=by
 unfold again at d;unfold afv at a;have hv:=hq.again;revert a d hv;cases hag:W.again<;>intro a d hv<;>first|exact a.elim|skip
 .rename_i y;obtain⟨b,c',a',hb,k,f,hv⟩:=hv;rw[hv];refine bV i (au1 ?_);exact aAj hq h hb f hs g k j e d
 .rename_i kk;obtain⟨b,c',u,hb,m,f,hv⟩:=hv;rw[hv];refine bV e2 (au2 ?_);exact aAk hq h hb f m hs g a d
def ayE(h:qR w0 w l aa gw G W R)(hs:W.stack=x::s')(c:G.ts[x]?=G_ t)(d:afv G W t)(e:G.M.can W.id l.told=J_)(a:nZ G.C t.l7=G_ nd)(b:Fin w0 l aa gw R k (Io l G W t)):ig (A_ gw) w k:=by
 obtain⟨sp,st,sw,q,hq,h⟩:=dX h;unfold ig AG;unfold Io at b;refine cX ?_;refine ae7 h λw h=>cX<|au3 (W:={W with wait:=⟨0,W.wait.seen⟩}) d (λ_ _ _=>rfl) (λ_ _ _=>rfl) (by exact{hq with}) h hs c e a b
def aev(h:bB yv w λ_ w=>c (J3 #[]) w):Ba [IB yv] w c:=h
variable{x3:P_}
def ayF(h:fG p r x3 w λ_ w=>c (J3 #[]) w):Dl [IB (G_ p),IB (G_ r),IB (G_ x3)] w c:=h
def ayG(h:fI p r x3 w λ_ w=>c (J3 #[]) w):Dn [IB (G_ p),IB (G_ r),IB (G_ x3)] w c:=h
def alU(h:fH p w λ_ w=>c (J3 #[]) w):Dm [IB (G_ p)] w c:=h
def alV(h:fJ p w λ_ w=>c (J3 #[]) w):Dp [IB (G_ p)] w c:=h
def ajx(h:eX p w λ_ w=>c (J3 #[]) w):B6 [IB (G_ p)] w c:=h
def anY(G:Gl)(W:Wk)(t:Tk):Prop:=match W.pG with
 | .m .cancelled=>True
 | .V2 y _=>y<G.ts.length
 | .BR _ _=>True
 | .c .IF=>True
 | .c .Co=>True
 | .c .qI=>t.cJ≠ []/\Dr G t.kA.1
 |_=>False
theorem au4(h:qR w0 w l aa gw G W R)(P:TZ w0)(hs:W.stack=x::s')(H:G.ts[x]?=G_ t)(s:l.sp.OK)(I:G.M.OK)(L:0<=W.id/\W.id<=16)
  (j:W.blocked=J_->(W.step.getD (jH.B7 0 2)).GX l.sp G.M W.id)
  (h2:W.blocked=K_->W.bO=J_->∃y tt,W.target=G_ y/\G.ts[y]?=G_ tt/\G.M.can W.id (tt.jI+2)=J_)
  (d:W.blocked=K_->W.bO=K_->anY G W t) (a:Fin w0 l aa gw R k (stops l G W x t G.vJ G.V8)):gy (A_ gw) w k:=by
 obtain⟨id,dq,wait,stack,back,cT,op,after,look,seen,step,left,late,fits,got,none_,jq,home,target,kind,bO,blocked,again,N,mark,dK,own,said,bits,qc⟩:=W;obtain⟨sp,st,sw,q,hq,h⟩:=dX h;have hl:=xJ h;unfold gy yV;unfold stops at a;dsimp only at j h2 d L hs a;refine cX ?_;cases blocked
 .refine aU rfl ?_;rw[HQ e7]at a;refine cX ?_;cases bO
  .refine aU rfl ?_;rw[HQ e7]at a;refine cX ?_;replace d:=d rfl rfl;unfold anY at d;unfold pG at a;have hv:=hq.pG;clear j h2;cases N with
   |m f=>
    have v:f= .cancelled:=by grind
    subst v;obtain hv:q.MG=mt gw .cancelled:=hv;rw[hv];refine bV (λ_ _ _=>rfl) (aev ?_);exact OG (bn hq h) hs H a
   |V2 y kk=>
    obtain⟨b,c',d',a',u,hb,p,B,C,D,hv⟩:=hv;rw[hv];refine bV (λ_ _ _=>rfl) (ayF ?_);have d:y<G.ts.length:=d;have n:G.ts[y]?=G_ (G.ts[y]'d):=iH d;refine aB0 hq h hb p B C D n ?_;have e:G.vJ y=(G.ts[y]'d).id:=by unfold Gl.vJ;rw[n]
    rw[<-e];exact a
   |BR y kk=>
    obtain⟨b,c',d',u,hb,B,C,D,hv⟩:=hv;rw[hv];refine bV (λ_ _ _=>rfl) (ayG ?_);exact aB1 hq h hb B C D a
   |c f=>
    obtain⟨b,hb,hv⟩:=hv;rw[hv];cases f<;>first|exact d.elim|skip
    .refine bV (λ_ _ _=>rfl) (alU ?_);exact apL hq h hb a
    .refine bV (λ_ _ _=>rfl) (alV ?_);exact apK hq h hb a
    .refine bV (λ_ _ _=>rfl) (ajx ?_);exact alQ (o:=[]) (m:=(0,0)) hq h hb hs H d.1 d.2 a
   |no=>exact d.elim
   |any=>exact d.elim
   |nx i=>exact d.elim
   |aw y=>exact d.elim
   |sh kk=>exact d.elim
   |hl m z=>exact d.elim
  .refine bK rfl ?_;rw[HK rfl]at a;obtain⟨y,tt,g,n,Q⟩:=h2 rfl rfl;obtain⟨a',p,F⟩:=Zz hq g;refine dZ λw h=>?_;rw[F];have h:=h.fr 9;obtain⟨so,sc,h⟩:=sv h p n;refine cX<|ao4 h I L Q λw h=>?_;have h:=qg hl p n h;have h:=h.bk 9;with_reducible repeat' (first|refine bc ?_|refine Hq h λw h=>?_|refine nP h ?_|refine i_T ?_|refine AM ?_)
   have e:G.V8 (target.getD 0)=tt.jI:=by
    have g:target=G_ y:=g;unfold Gl.V8;rw[g,jB,n]
   rw[e]at a;exact a _ (bn (by exact{hq with}) h)
 .refine bK rfl ?_;rw[HK rfl]at a;replace j:=j rfl;refine cX<|bP (fun(_:Unit) w=> ∃gp,xq w0 w l aa gw G ⟨id,dq,wait,stack,back,cT,op,after,look,seen,G_ (step.getD (jH.B7 0 2)),left,late,fits,got,none_,jq,home,target,kind,bO,J_,again,N,mark,dK,own,said,bits,qc⟩ R sp st sw {q with gp:=gp}) (λJ O=>?_) ?_
  .cases step with
   |none=>
    refine bK rfl<|cX<|api h λgp w h=>?_;have h:=A5 (K:=l6 (λo:jH=>au q.gp (o.cells l.sp q.gp))) h;refine dZ λw h=>O _ _ ⟨gp,h⟩
   |some o=>
    refine aU rfl<|O _ _ ⟨q.gp,h⟩
  clear h;rintro _ w ⟨gp,h⟩;generalize step.getD (jH.B7 0 2)=o at j a h;dsimp only[xq,l6]at h;refine dZ λw h=>?_;have h:=h.fr 1;have h:=h.fr 17;refine Ze h P s I j λw h=>?_;have h:=h.bk 17;have h:=h.bk 1;generalize o.go l.sp G.M id=r at h a ⊢;refine cX<|ax (λhb=>?_) λhb=>?_
  .have hb:r.1.next=0:=by simpa using hb
   simp only[HK hb]at a;refine dZ λw h=>?_;have h:=A5 (K:=au gp) (St.shut (A:=[]) h);exact a _ (bn (by exact{hq with}) h)
  .have hb:¬r.1.next=0:=by simpa using hb
   simp only[HQ hb]at a;exact a _ (bn (by exact{hq with}) h)
def G6(i:List Int):Int:=if i.getD 0 0=10 then i.getD 3 0 else i.getD 2 0
def ayH(z:iA w0 l.ps P)(hI:In P t.f i)(h:qR w0 w l aa gw G W R)(hs:W.stack=x::s')(m:G.ts[x]?=G_ t)(d:0<=G6 i/\G6 i<8)(g:t.f.getD (10+(G6 i).toNat) 0=(y:Nat))(A:G.ts[y]?=G_ tt)(s:G.M.can W.id l.told=J_)(j:nZ G.C t.l7=G_ nd)
  (e:Fin w0 l aa gw R k (join l P G W t)):gY (A_ gw) w k:=by
 obtain⟨sp,st,sw,q,hq,h⟩:=dX h;obtain⟨a,vs,B,c,_⟩:=m5 hq hs;obtain⟨o,so,sc,h⟩:=n7 h B m;obtain⟨a',b⟩:=Zx o.len A;unfold gY Aq;unfold join at e;rw[hI.ins]at e;have D:(if i.getD 0 0=10 then i.getD 3 0 else i.getD 2 0)=G6 i:=rfl
 dsimp only at e;rw[D,g,iZ]at e;refine JH z hI h c λw h=>?_;obtain⟨i0,u,p,r,v,rfl⟩:=JG hI.GZ;refine vO λgx w h=>?_;obtain⟨gc,F⟩:∃n,n=gx:=⟨_,rfl⟩;subst F;refine ax (λhb=>?_) λhb=>?_
 .have hb:i0=10:=by simpa using hb
  have e2:G6 [i0,u,p,r,v]=r:=HK hb;rw[e2]at d g;refine dZ λw h=>?_;refine lF h c vM λw h=>?_;with_reducible repeat' (first|refine bc ?_|refine nP h ?_)
  refine aAi h d.1 d.2 ?_;rw[g];refine vP h af (adn b) ?_;have h:=h.rm 0 rfl;exact Zy (bn hq (oX o h)) hs m b s j e
 .have hb:¬i0=10:=by simpa using hb
  have e2:G6 [i0,u,p,r,v]=p:=HQ hb;rw[e2]at d g;refine dZ λw h=>?_;refine lF h c vM λw h=>?_;with_reducible repeat' (first|refine bc ?_|refine nP h ?_)
  refine aAi h d.1 d.2 ?_;rw[g];refine vP h af (adn b) ?_;have h:=h.rm 0 rfl;exact Zy (bn hq (oX o h)) hs m b s j e
def afw{k:Array M_×Int×Bool->ap}(h:St w0 w L)(a:t.f.length=19)(b:i.length=5)(c:∀w',St w0 w' L->k (eZ (di t.f i kind z).1,(di t.f i kind z).2.1,(di t.f i kind z).2.2) w'):iu (frV t.f).toArray (eZ i) kind z w k:=by
 rw[Oz a];exact Fr.apo a b λw' d=>c w' (h.on d)
theorem apT(K:iA w0 l.ps P)(hI:In P t.f i)(h:qR w0 w l aa gw G W R)(L:G.err=0)(hs:W.stack=x::s')(D:G.ts[x]?=G_ t)(N:G.M.OK)(u:W.target=G_ y)(F:G.ts[y]?=G_ tt)(O:G.M.can W.id (tt.jI+1)=J_)
  (b:Fin w0 l aa gw R k (joined l P G W x t tt)):fy (A_ gw) w k:=by
 obtain⟨sp,st,sw,q,hq,h⟩:=dX h;obtain⟨a,vs,H,e,_⟩:=m5 hq hs;obtain⟨a',I,z⟩:=Zz hq u;obtain⟨d,so,sc,h⟩:=n7 h H D;unfold fy xa;unfold joined at b;rw[hI.ins]at b;dsimp only at b;have A:=hI.len;refine G5 h L (λhb w h=>?_) λhb w h=>?_
 .rw[HK hb]at b;refine cX ?_;exact b _ (bn hq (oX ⟨d.len,d.a,d.t⟩ h))
 rw[HQ hb]at b;refine cX ?_;refine lF h e vM λw h=>JH K hI h e λw h=>?_;have m:=hI.GZ;obtain⟨i0,o,p,r,s,rfl⟩:=JG m;refine vO λgx w h=>?_;obtain⟨gc,Q⟩:∃n,n=gx:=⟨_,rfl⟩;subst Q;refine bP (fun(v:Int) w=> ∃so sc,v=(if W.kind=4 then 0 else G.M.get (tt.jI+1))/\St w0 w (au gc (ints [i0,o,p,r,s])::TL l aa gw (if W.kind=4 then G else G.tick W.id) W R sp st sw q x a t so sc)) (λJ g=>?_) ?_
 .refine ax (λhb=>?_) λhb=>?_
  .have hb:¬W.kind=4:=by simpa using hb
   rw[HQ hb,HQ hb]at g;refine dZ λw h=>?_;rw[z];have h:=h.fr 0;have h2:=St.back 22 h;simp only[aBT,aBU]at h2;have h:=oX d h2;clear h2;dsimp only[xq]at h;have h:=h.fr 9;obtain⟨S,T,h⟩:=sv h I F;refine cX ?_;refine ao2 h N O λw h=>?_;have h:=qg d.len I F h;have h:=h.bk 9;obtain⟨_,B,C,h⟩:=n7 (G:=G.tick W.id) h H D;refine cX ?_;have h:=h.fr 22;exact g _ _ ⟨B,C,rfl,h⟩
  .grind
 clear h;have j:Tp aa (if W.kind=4 then G else G.tick W.id) x a t:=by split<;>exact⟨d.len,d.a,d.t⟩
 rintro v w ⟨so,sc,hv,h⟩;rw[<-hv]at b;clear hv;generalize (if W.kind=4 then G else G.tick W.id)=G1 at b h j
 generalize hi:[i0,o,p,r,s]=i at b h m;have c:(di t.f i W.kind v).1.length=19:=by rw[qb,A]
 refine bP (fun(U:P_×(Int×Bool)) w=> ∃g2,U=(⟨g2,0,H_⟩,(di t.f i W.kind v).2.1,(di t.f i W.kind v).2.2)/\St w0 w (au g2 (ints (di t.f i W.kind v).1)::au gc (ints i)::TL l aa gw G1 W R sp st sw q x a t so sc)) (λJ g=>?_) ?_
 .subst hi;with_reducible repeat' (first|refine bc ?_|refine cH h λw h=>?_|refine Iy h ?_|refine QT h ?_|refine Vh h ?_|refine aM h λgx w h=>?_|refine nP h ?_|refine sR h ?_|refine y8 ?_ ?_|fail)
  .refine afw (t:=t) (i:=[i0,o,p,r,s]) h A m λw h=>?_;with_reducible repeat' (first|refine aM h λgx w h=>?_|refine nP h ?_|refine sR h ?_|fail)
   refine afu h rfl c λw h=>g _ _ ⟨_,rfl,h⟩
  .refine afw (t:=t) (i:=[i0,o,p,r,s]) h A m λw h=>afu h rfl c λw h=>g _ _ ⟨_,rfl,h⟩
 clear h;rintro _ w ⟨g2,rfl,h⟩;dsimp only;refine anS h c ?_;refine cX ?_;refine AN h c λw h=>?_;have h:=(h.rm 0 rfl).rm 0 rfl;simp only[I7]at h;unfold aG;refine dZ λw h=>?_;have h:qR w0 w l aa gw (G1.lZ.set x {t with f:=(di t.f i W.kind v).1}) (W.go .next) R:=bn (q:={q with pJ:=mt gw .next}) (by exact{hq with cT:=rfl}) (vH ⟨j.len,j.a,j.t⟩ h)
 refine ax (λhb=>?_) λhb=>?_
 .have hb:(di t.f i W.kind v).2.2=true:=hb;rw[HK hb]at b;refine abf h hs (uO (kB.1 j.t).1) ?_;unfold ends;rw[auR];exact b
 .have hb:(di t.f i W.kind v).2.2=false:=hb;rw[HQ (by rw[hb];simp)]at b
  exact b _ h
end Go.Proofs.YthidhjhkmjjckaaGreatDoor
