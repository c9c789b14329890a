/-
  Parts of the proof of LOnce: printed by a program out of longer texts.
-/
import Derived.KernelRfl
import Derived.WalkKit
import Derived.WalkSpells
import Derived.WalkLawsBesides
import Derived.RangeFuncMany
import Derived.TacticsIn
import Derived.LoopNIn
import Derived.OrdersIn
import Derived.Recover
import Derived.Deep.AppendSrc
import Derived.Laws.MakeOwn
import Derived.Laws.CopyRow
import Derived.OpenShut
import Derived.JoinedOf
import Derived.SizedLaws
import Derived.LaidMore
import Derived.SevenTiedAt
import Derived.Lay
import Derived.Stop.Joined
set_option linter.unusedVariables false
set_option linter.unusedSimpArgs false
set_option maxRecDepth 100000
set_option linter.defProp false
open Go.IntKind renaming i64->B_
open Go.Value renaming nilFunc->C_
open Or renaming inl->D_,inr->E_
open Go.Fn renaming func->F_
open Option renaming some->G_,none->H_,some->G_
open Bool renaming true->J_,false->K_,false_eq_true->h_,not_eq_true'->i_,not_false->j_
open Decidable renaming decide->L_
open Go renaming Value->M_,World->N_,IntKind->O_,Addr->P_,TypeId->Q_,Program->R_
open Array renaming ext'->T_,foldl_toList->U_,getElem?_append_left->V_,getElem?_eq_none->W_,getElem?_push->X_,getElem?_setIfInBounds_ne->Y_,getElem?_setIfInBounds_self->Z_,length_toList->a_,mapM_eq_mapM_toList->b_,mem_of_getElem?->c_,replicate->d_,size_append->e_
open BitVec renaming ofInt->f_,toInt_ofInt->g_
open Iff renaming rfl->k_
open List renaming all_cons->l_,append_assoc->m_,append_nil->n_,eq_nil_of_length_eq_zero->o_,ext_getElem?->p_,foldl_cons->q_,getElem?_drop->r_,getElem?_eq_none->s_,getElem?_take->t_,getElem?_take_of_lt->u_,getElem?_toArray->v_,getElem_of_mem->w_,length_cons->x_,length_take->y_,map_cons->z_,map_nil->A',mem_cons->BP,mem_cons_of_mem->C3,mem_cons_self->C4,mem_filter->C5,mem_map->C6,mem_of_mem_take->C7,mem_range->C8,mem_replicate->C9,range->CX,take_of_length_le->CY,toArray->CZ
open Nat renaming add_assoc->Ce,add_zero->C',beq->D2,blt->DQ,le_of_ble_eq_true->DS,le_trans->EZ,mul_le_mul_right->F3,mul_one->F4,sub_mul->FL,zero_add->FM,zero_mul->Gm
open List renaming getElem?_eq_some_iff->kB,getElem?_eq_getElem->iH,getD_eq_getElem?_getD->m0,getElem?_append_left->tJ,getElem?_append_right->u0,getElem?_set_ne->r0,getElem?_set_self->uO,mem_of_getElem?->qn,getElem?_map->l8,replicate->dU,mem_append->zw,length_append->uv,all_eq_true->tL
open Go.Sem renaming run_pure->cP,run_bind->cR
open Go.Result renaming andThen_ok->cK
open Bool renaming or_eq_false_iff->kf,and_eq_true->iY
open Option renaming isNone->eA
open Int renaming toNat_natCast->iZ
open Array renaming getElem?_eq_some_iff->Bf
open Nat renaming le_refl->iw
open Go.Addr renaming add->aY
namespace Go
theorem HK{c:Prop}{_:Decidable c}(h:c){A:Sort _}{t e:A}:ite c t e=t:=if_pos h
end Go
namespace Go
theorem HQ{c:Prop}{_:Decidable c}(h:¬c){A:Sort _}{t e:A}:ite c t e=e:=if_neg h
end Go
namespace Go
abbrev ap:=N_->Prop
variable{P:Prop}
def af(h:P:=by omega):P:=h
def bf(h:P:=by simp):P:=h
def e7(h:P:=by decide):P:=h
def aZ(h:P:=by kernel_rfl):P:=h
def vM(h:P:=by with_unfolding_all exact rfl):P:=h
abbrev u_2{A B R:Type _}(f:A->B->R)(x:A×B):R:=f x.1 x.2
abbrev u_3{A B C R:Type _}(f:A->B->C->R)(x:A×B×C):R:=f x.1 x.2.1 x.2.2
abbrev u_4{A B C D R:Type _}(f:A->B->C->D->R)(x:A×B×C×D):R:=f x.1 x.2.1 x.2.2.1 x.2.2.2
abbrev u_5{A B C D E R:Type _}(f:A->B->C->D->E->R)(x:A×B×C×D×E):R:=f x.1 x.2.1 x.2.2.1 x.2.2.2.1 x.2.2.2.2
abbrev u_6{A B C D E F R:Type _}(f:A->B->C->D->E->F->R)(x:A×B×C×D×E×F):R:=f x.1 x.2.1 x.2.2.1 x.2.2.2.1 x.2.2.2.2.1 x.2.2.2.2.2
abbrev u_7{A B C D E F G R:Type _}(f:A->B->C->D->E->F->G->R)(x:A×B×C×D×E×F×G):R:=f x.1 x.2.1 x.2.2.1 x.2.2.2.1 x.2.2.2.2.1 x.2.2.2.2.2.1 x.2.2.2.2.2.2
abbrev u_8{A B C D E F G H R:Type _}(f:A->B->C->D->E->F->G->H->R)(x:A×B×C×D×E×F×G×H):R:=f x.1 x.2.1 x.2.2.1 x.2.2.2.1 x.2.2.2.2.1 x.2.2.2.2.2.1 x.2.2.2.2.2.2.1 x.2.2.2.2.2.2.2
abbrev u_9{A B C D E F G H I R:Type _}(f:A->B->C->D->E->F->G->H->I->R)(x:A×B×C×D×E×F×G×H×I):R:=f x.1 x.2.1 x.2.2.1 x.2.2.2.1 x.2.2.2.2.1 x.2.2.2.2.2.1 x.2.2.2.2.2.2.1 x.2.2.2.2.2.2.2.1 x.2.2.2.2.2.2.2.2
def gq{b:Prop}(h:P)(e:P->b:=by intro h;simpa using h):b:=e h
end Go
namespace Go.Ev
open Go
structure Sl where
 a:Option P_
 n:Nat
 c:Nat
inductive K where
 |i (k:O_)|b|p|a|s|str|m|ag|raw
def K.T:K->Type
 | .i _=>Int
 | .b=>Bool
 | .p=>Option P_
 | .a=>P_
 | .s=>Sl
 | .str=>ByteArray
 | .m=>Option Nat
 | .ag=>Array M_
 | .raw=>M_
def K.v:(k:K)->k.T->M_
 | .i k,x=> .int k x
 | .b,x=> .bool x
 | .p,x=> .pointer x
 | .a,x=> .pointer (G_ x)
 | .s,x=> .slice (Sl.a x) (Sl.n x) (Sl.c x)
 | .str,x=> .string x
 | .m,x=> .map x
 | .ag,x=> .agg x
 | .raw,x=>x
def xS(k:O_)(v:M_)(c:Int->Prop):Prop:=match v with| .int k' n=>if k'=k then c n else False|_=>False
def Ir(v:M_)(c:Bool->Prop):Prop:=match v with| .bool b=>c b|_=>False
def toP(v:M_)(c:Option P_->Prop):Prop:=match v with| .pointer b=>c b|_=>False
def amy(v:M_)(c:P_->Prop):Prop:=match v with| .pointer (some b)=>c b|_=>False
def toS(v:M_)(c:Sl->Prop):Prop:=match v with| .slice a n k=>c ⟨a,n,k⟩|_=>False
def Yo(v:M_)(c:ByteArray->Prop):Prop:=match v with| .string b=>c b|_=>False
def toM(v:M_)(c:Option Nat->Prop):Prop:=match v with| .map b=>c b|_=>False
def toA(v:M_)(c:Array M_->Prop):Prop:=match v with| .agg b=>c b|_=>False
def toT(v:M_)(c:List M_->Prop):Prop:=match v with| .tuple vs=>c vs.toList|_=>False
def unV(k:K)(v:M_)(c:k.T->Prop):Prop:=
 match k with
 | .i k=>xS k v c
 | .b=>Ir v c
 | .p=>toP v c
 | .a=>amy v c
 | .s=>toS v c
 | .str=>Yo v c
 | .m=>toM v c
 | .ag=>toA v c
 | .raw=>c v
def KT:List K->Type
 |[]=>Unit
 |[k]=>k.T
 |k::(x::r)=>k.T×KT (x::r)
def qW:(ks:List K)->List M_->(KT ks->Prop)->Prop
 |[],[],c=>c ()
 |[k],[v],c=>unV k v c
 |k::(y::r),v::vs,c=>unV k v λx=>qW (y::r) vs λxs=>c (x,xs)
 |_,_,_=>False
def dL:(ks:List K)->KT ks->List M_
 |[],_=>[]
 |[k],x=>[k.v x]
 |k::(y::r),x=>k.v x.1::dL (y::r) x.2
def Is(ks:List K)(v:M_)(c:KT ks->Prop):Prop:=toT v λl=>qW ks l c
def e9(l:List M_):Value:=match l with|[v]=>v|l=> .tuple l.toArray
def cast(k:K)(v:M_)(c:M_->Prop):Prop:=
 match k with
 | .i k=>xS k v λn=>c (.int k n)
 | .b=>Ir v λn=>c (.bool n)
 | .p=>toP v λn=>c (.pointer n)
 | .a=>amy v λn=>c (.pointer (G_ n))
 | .s=>toS v λn=>c (.slice n.a n.n n.c)
 | .str=>Yo v λn=>c (.string n)
 | .m=>toM v λn=>c (.map n)
 | .ag=>toA v λn=>c (.agg n)
 | .raw=>c v
def rd(w:N_)(a:P_)(c:M_->Prop):Prop:=match w.cell? a with|some v=>c v|none=>False
def aJ(k:O_)(w:N_)(a:P_)(c:Int->Prop):Prop:=rd w a λv=>xS k v c
def He(w:N_)(a:P_)(c:Bool->Prop):Prop:=rd w a λv=>Ir v c
def aQ(w:N_)(a:P_)(c:Option P_->Prop):Prop:=rd w a λv=>toP v c
def cy(w:N_)(a:P_)(c:Sl->Prop):Prop:=rd w a λv=>toS v c
def Qp(w:N_)(a:P_)(c:ByteArray->Prop):Prop:=rd w a λv=>Yo v c
def ldM(w:N_)(a:P_)(c:Option Nat->Prop):Prop:=rd w a λv=>toM v c
def tH(w:N_)(a:P_)(c:M_->Prop):Prop:=rd w a c
def Gd(w:N_)(a:P_)(i:Nat):Nat->Option (List M_)
 |0=>G_ []
 |n+1=>match w.cell? (a.add i)with
  |some v=>match Gd w a (i+1) n with|some l=>G_ (v::l)|none=>H_
  |none=>H_
def bx(n:Nat)(w:N_)(a:P_)(c:Array M_->Prop):Prop:=match Gd w a 0 n with|some l=>c l.toArray|none=>False
def bN(w:N_)(a:P_)(v:M_)(c:ap):Prop:=
 v.oneCell'=J_/\(w.cell? a).isSome=J_/\w.frozen? a=K_/\c (w.setCell a v)
def JU(w:N_)(a:P_)(i:Nat):List M_->(ap)->Prop
 |[],c=>c w
 |v::l,c=>bN w (a.add i) v λw=>JU w a (i+1) l c
def dQ(n:Nat)(w:N_)(a:P_)(cs:Array M_)(c:ap):Prop:=cs.size=n/\JU w a 0 cs.toList c
def nn(p:Option P_)(c:P_->Prop):Prop:=match p with|some a=>c a|none=>False
abbrev u7(a:Option P_)(w:N_)(n:Nat)(c:Option P_->Prop):Prop:=nn a λo=>aQ w (o.add n) c
abbrev v7(a:Option P_)(w:N_)(n:Nat)(v:M_)(c:N_->Prop):Prop:=nn a λo=>bN w (o.add n) v c
abbrev en(a:Option P_)(w:N_)(n:Nat)(c:Sl->Prop):Prop:=nn a λo=>cy w (o.add n) c
abbrev qJ7(a:Option P_)(k:O_)(w:N_)(n:Nat)(c:Int->Prop):Prop:=nn a λo=>aJ k w (o.add n) c
abbrev qA7(a:Option P_)(k:Nat)(w:N_)(n:Nat)(c:Array M_->Prop):Prop:=nn a λo=>bx k w (o.add n) c
abbrev qV7(a:Option P_)(w:N_)(n:Nat)(c:M_->Prop):Prop:=nn a λo=>tH w (o.add n) c
def cN(s:Sl)(i:Int)(sz:Nat)(c:P_->Prop):Prop:=match s.a with|some a=>(0<=i/\i<s.n)/\c (a.add (i.toNat*sz))|none=>False
def Hf(a:P_)(len:Nat)(i:Int)(sz:Nat)(c:P_->Prop):Prop:=(0<=i/\i<len)/\c (a.add (i.toNat*sz))
def Qq(cs:Array M_)(o:Nat)(c:M_->Prop):Prop:=match cs[o]? with|some v=>c v|none=>False
def ixA(cs:Array M_)(len:Nat)(i:Int)(c:M_->Prop):Prop:=(0<=i/\i<len)/\Qq cs i.toNat c
def aAv(s:ByteArray)(i:Int)(c:Int->Prop):Prop:=0<=i/\match s[i.toNat]? with|some b=>c b.toNat|none=>False
def Th(s:Sl)(sz:Nat)(lo hi:Int)(c:Sl->Prop):Prop:=
 (0<=hi/\hi<=s.c)/\(0<=lo/\lo<=hi)/\c ⟨if s.c=lo.toNat then s.a else s.a.map (·.add (lo.toNat*sz)),hi.toNat - lo.toNat,s.c - lo.toNat⟩
def slL(s:Sl)(sz:Nat)(lo:Int)(c:Sl->Prop):Prop:=
 (0<=lo/\lo<=s.n)/\c ⟨if s.c=lo.toNat then s.a else s.a.map (·.add (lo.toNat*sz)),s.n - lo.toNat,s.c - lo.toNat⟩
def aqT(s:Sl)(sz:Nat)(lo hi mx:Int)(c:Sl->Prop):Prop:=
 (0<=mx/\mx<=s.c)/\(0<=hi/\hi<=mx)/\(0<=lo/\lo<=hi)/\c ⟨if mx.toNat=lo.toNat then s.a else s.a.map (·.add (lo.toNat*sz)),hi.toNat - lo.toNat,mx.toNat - lo.toNat⟩
def aqU(s:ByteArray)(lo hi:Int)(c:ByteArray->Prop):Prop:=
 (0<=hi/\hi<=s.size)/\(0<=lo/\lo<=hi)/\c (s.extract lo.toNat hi.toNat)
def Wf(k:O_)(x y:Int):Int:=k.wrap (x.tdiv y)
def abl(x y:Int):Int:=x.tmod y
def sD(k:O_)(x y:Int):Int:=k.wrap (x*2 ^ min y.toNat k.bits)
def IR(k:O_)(x y:Int):Int:=x.fdiv (2 ^ min y.toNat k.bits)
def aCY(k:O_)(x y:Int)(c:Int->Prop):Prop:=y≠0/\c (Wf k x y)
def amz(x y:Int)(c:Int->Prop):Prop:=y≠0/\c (abl x y)
def HI(k:O_)(x y:Int)(c:Int->Prop):Prop:=0<=y/\c (sD k x y)
def amA(k:O_)(x y:Int)(c:Int->Prop):Prop:=0<=y/\c (IR k x y)
def oH(k:O_)(x y:Int):Int:=k.wrap (f_ k.bits x&&&f_ k.bits y).toNat
def Ti(k:O_)(x y:Int):Int:=k.wrap (f_ k.bits x|||f_ k.bits y).toNat
def JV(k:O_)(x y:Int):Int:=k.wrap (f_ k.bits x ^^^ f_ k.bits y).toNat
def tU(k:O_)(x y:Int):Int:=k.wrap (f_ k.bits x&&&~~~ f_ k.bits y).toNat
def Wg(x y:Int):Int:=if y<x then y else x
def ZR(x y:Int):Int:=if y>x then y else x
def aE(w:N_)(cs:Array M_)(t:Q_)(c:P_->ap):Prop:=c ⟨w.heap.size,0,H_⟩ (w.alloc (.cells cs t))
def drew(w:N_)(c:ap):Prop:=c w.drew
def ON(r:Result M_)(c:M_->ap):Prop:=match r with| .ok v w=>c v w| .halt _ _=>False
def aqV{A:Type}(r:Result A)(c:ap):Prop:=match r with| .ok _ w=>c w| .halt _ _=>False
def eqC(k:Nat)(x y:M_):Option Bool:=
 match k with
 |0=>match x,y with| .int k a,.int k' b=>if k=k' then G_ (a==b)else H_|_,_=>H_
 |1=>match x,y with| .bool a,.bool b=>G_ (a==b)|_,_=>H_
 |_=>match x,y with| .string a,.string b=>G_ (a.toList==b.toList)|_,_=>H_
def oZ(xs ys:Array M_):List (Nat×Nat)->Option Bool
 |[]=>G_ J_
 |(o,k)::os=>match xs[o]?,ys[o]? with
  |some a,some b=>match eqC k a b,oZ xs ys os with|some r,some rs=>G_ (r&&rs)|_,_=>H_
  |_,_=>H_
def Tj(os:List (Nat×Nat))(xs ys:Array M_)(c:Bool->Prop):Prop:=match oZ xs ys os with|some b=>c b|none=>False
def kT(acc:Array M_)(off size:Nat)(cs:Array M_)(c:Array M_->Prop):Prop:=
 cs.size=size/\c (cs.zipIdx.foldl (λcs (x,j)=>cs.setIfInBounds (off+j) x) acc)
def an(b:Bool)(x y:Prop):Prop:=match b with|true=>x|false=>y
def nnV(v:M_)(c:M_->Prop):Prop:=match v with| .pointer p=>nn p λa=>c (.pointer (G_ a))| .func (F_ f) a b=>c (.func (F_ f) a b)|_=>False
def og(P:R_)(ts:Array Q_)(t:Q_)(vs:List M_)(w:N_)(c:Sl->ap):Prop:=ON ((Builtin.append_ ts t vs.toArray).run P w) λv w=>toS v λs=>c s w
def U1(P:R_)(ts:Array Q_)(t:Q_)(vs:List M_)(w:N_)(c:Int->ap):Prop:=ON ((Builtin.copy_ ts t vs.toArray).run P w) λv w=>xS B_ v λs=>c s w
def aC0(P:R_)(ts:Array Q_)(t:Q_)(vs:List M_)(w:N_)(c:Int->ap):Prop:=ON ((Builtin.len_ ts t vs.toArray).run P w) λv w=>xS B_ v λs=>c s w
def awE(P:R_)(ts:Array Q_)(t:Q_)(vs:List M_)(w:N_)(c:M_->ap):Prop:=ON ((Builtin.clear_ ts t vs.toArray).run P w) c
def ahR(P:R_)(ts:Array Q_)(t:Q_)(vs:List M_)(w:N_)(c:M_->ap):Prop:=ON ((Builtin.delete_ ts t vs.toArray).run P w) c
def xz(P:R_)(t:Q_)(l k:M_)(w:N_)(c:Sl->ap):Prop:=ON ((Instr.makeSlice t l k).run P w) λv w=>toS v λs=>c s w
def mkMap(P:R_)(t:Q_)(r:Option M_)(w:N_)(c:Option Nat->ap):Prop:=ON ((Instr.makeMap t r).run P w) λv w=>toM v λs=>c s w
def look(P:R_)(t:Q_)(x i:M_)(ok:Bool)(w:N_)(c:M_->ap):Prop:=ON ((Instr.lookup t x i ok).run P w) c
def MP(P:R_)(t:Q_)(m k x:M_)(w:N_)(c:ap):Prop:=aqV ((Instr.mapUpdate t m k x).run P w) c
def tyA(P:R_)(x:M_)(xt as:Q_)(ok:Bool)(w:N_)(c:M_->ap):Prop:=ON ((Instr.typeAssert x xt as ok).run P w) c
def cvt(P:R_)(s d:Q_)(x:M_)(w:N_)(c:M_->ap):Prop:=ON ((convert s d x).run P w) c
def cz{S:Type}(body:(S->ap)->Prop)(rest:S->ap):Prop:=body rest
def jV{S:Type}(f:(S->ap)->S->ap):Nat->S->ap
 |0,_,_=>False
 |n+1,s,w=>f (jV f n) s w
def jD{S:Type}(f:(S->ap)->S->ap)(s:S)(w:N_):Prop:=∃n,jV f n s w
variable{w:N_}
def ot{S:Type}{f:(S->ap)->S->ap}(I:S->ap)(μ:S->N_->Nat){s:S}(d:I s w)
  (h:∀s w,I s w->∀C:S->ap,(∀s' w',I s' w'->μ s' w'<μ s w->C s' w')->f C s w):jD f s w:=by
 have key:∀n s w,μ s w<=n->I s w->jV f (n+1) s w:=by
  intro n;induction n with
  |zero=>intro s w e a;exact h s w a _ λs' w' _ b=>by omega
  |succ n ih=>intro s w e a;exact h s w a _ λs' w' c b=>ih s' w' af c
 exact⟨_,key _ s w (iw _) d⟩
inductive EV where
 |val (v:M_)
 |gd (g:Nat) (want:Bool) (v:M_)
abbrev Env:=List (Nat×EV)
def Env.find:Env->Nat->Option EV
 |[],_=>H_
 |(s,x)::e,t=>if D2 s t then G_ x else Env.find e t
def EV.on:EV->Nat->Bool
 | .val _,_=>K_
 | .gd g _ _,d=>D2 g d
def Env.del(e:Env)(d:Nat):Env:=e.filter fun(s,x)=> !(D2 s d)&& !(x.on d)
def Env.put(e:Env)(d:Nat)(v:M_):Env:=(d,.val v)::e.del d
def Env.Wh(e:Env)(d:Option Nat)(v:M_):Env:=match d with|some d=>e.put d v|none=>e
def Env.aqW(e:Env)(d g:Nat)(want:Bool)(v:M_):Env:=(d,.gd g want v)::e.del d
def Env.refine(e:Env)(g:Nat)(b:Bool):Env:=
 (g,.val (.bool b))::e.filterMap fun(s,x)=>if D2 s g then H_ else match x with
  | .val v=>G_ (s,.val v)
  | .gd h want v=>if D2 h g then G_ (s,.val (if want==b then v else undef))else G_ (s,.gd h want v)
def lP:Env->(Env->Prop)->Prop
 |[],c=>c []
 |(s,x)::e,c=>lP e λe=>c ((s,x)::e)
def kU:∀(e:Env) (c:Env->Prop),lP e c=c e
 |[],_=>rfl
 |(_,_)::e,_=>kU e _
def Env.op(e:Env):Operand->Option M_
 | .tmp t=>match e.find t with|some (.val v)=>G_ v|_=>H_
 | .const v=>G_ v
 | .global g=>G_ (.pointer (G_ ⟨g,0,H_⟩))
 | .func f=>G_ (.func (F_ f) #[] #[])
def Env.opG(e:Env)(g:Nat)(b:Bool):Operand->Option M_
 | .tmp t=>match e.find t with|some (.val v)=>G_ v|some (.gd h want v)=>if D2 h g&&want==b then G_ v else H_|_=>H_
 | .const v=>G_ v
 | .global g=>G_ (.pointer (G_ ⟨g,0,H_⟩))
 | .func f=>G_ (.func (F_ f) #[] #[])
def Env.under(e:Env)(g:Nat)(b:Bool):Operand->Option M_
 | .tmp t=>match e.find t with|some (.gd h want v)=>if D2 h g&&want==b then G_ v else H_|_=>H_
 |_=>H_
def rX(P:R_)(t:Q_):K:=
 match P.underlying t with
 |some (.int k)=> .i k
 |some .bool=> .b
 |some .string=> .str
 |some (.pointer _)=> .p
 |some (.slice _)=> .s
 |some (.map _ _)=> .m
 |some (.struct _)|some (.array _ _)=> .ag
 |_=> .raw
def iB(P:R_)(t:Q_):Nat:=match P.info? t with|some i=>i.size|none=>0
def zOf(P:R_)(t:Q_):Option Value:=match P.info? t with|some i=>i.zero|none=>H_
def Wl(P:R_)(s:Q_)(f:Nat):Option Field:=match P.underlying s with|some (.struct fs)=>fs[f]?|_=>H_
def aAw(P:R_)(t:Q_):Option (List Q_):=match P.underlying t with|some (.tuple ts)=>G_ ts.toList|_=>H_
def Yp(P:R_)(t:Q_)(v:M_)(c:M_->Prop):Prop:=
 match aAw P t with
 |none=>cast (rX P t) v c
 |some ts=>Is (ts.map (rX P)) v λx=>c (.tuple (dL (ts.map (rX P)) x).toArray)
def Qr(P:R_)(rec:Q_->Option (List (Nat×Nat))):List Field->Option (List (Nat×Nat))
 |[]=>G_ []
 |f::fs=>if f.name== "_" then H_ else
  match rec f.type,Qr P rec fs with
  |some m,some l=>if m.all (fun x=>DQ x.1 (iB P f.type))then G_ (m.map (fun x=>(x.1+f.offset,x.2))++l)else H_
  |_,_=>H_
def Qs(sz:Nat)(m:List (Nat×Nat)):Nat->Nat->List (Nat×Nat)
 |_,0=>[]
 |i,n+1=>m.map (λx=>(x.1+i*sz,x.2))++Qs sz m (i+1) n
def Gk(P:R_):Nat->Q_->Option (List (Nat×Nat))
 |0,_=>H_
 |d+1,t=>
  match P.underlying t with
  |some (.int _)=>G_ [(0,0)]
  |some .bool=>G_ [(0,1)]
  |some .string=>G_ [(0,2)]
  |some (.struct fs)=>if iB P t=0 then H_ else if P.stoodInHeld t then H_ else Qr P (Gk P d) fs.toList
  |some (.array n e)=>if iB P t=0 then H_ else if iB P e=0 then H_ else match Gk P d e with
   |some m=>if m.all (λx=>DQ x.1 (iB P e))then G_ (Qs (iB P e) m 0 n)else H_
   |none=>H_
  |_=>H_
abbrev ey:=Fn->Array M_->N_->(M_->ap)->Prop
def nj(bY:ey)(f:M_)(args:Array M_)(w:N_)(c:M_->ap):Prop:=
 match f with
 | .func (F_ id) first captured=>bY (.func id) (first++args++captured) w c
 | .func (.yield l) first _=>bY (.yield l) (first++args) w c
 |_=>False
def pR(bY:ey)(P:R_)(v:M_)(name:String)(args:Array M_)(w:N_)(c:M_->ap):Prop:=
 match v with
 | .iface t v=>match (method (P.types.size+Made.depth) t v name).run P w with
  | .ok (f,r) w=>bY (.func f) (#[r] ++args) w c
  | .halt _ _=>False
 |_=>False
def isI:K->Bool| .i _=>J_|_=>K_
def amB:Operand->Bool
 | .const (.int _ n)=>n==0
 |_=>J_
def amC:Operand->Option Nat
 | .const (.int _ (.ofNat n))=>G_ n
 |_=>H_
def aa1:Operand->Bool
 | .const (.int _ n)=>n<0
 |_=>J_
def awG:Operand->Bool
 | .const (.pointer none)=>J_
 |_=>K_
def awH:Operand->Bool
 | .const (.slice none _ _)=>J_
 |_=>K_
def afN:Operand->Bool
 | .const .nilIface=>J_
 |_=>K_
def awI:Operand->Bool
 | .const (.map none)=>J_
 |_=>K_
def afO:Operand->Bool
 | .const .nilFunc=>J_
 |_=>K_
def abm(v:M_)(c:Bool->Prop):Prop:=match v with| .nilFunc=>c J_| .func _ _ _=>c K_|_=>False
def amD(P:R_)(ts:Array Q_):K:=match ts[0]? with|some t=>rX P t|none=> .raw
def isEq:BinOp->Bool
 | .eql=>J_
 | .neq=>J_
 |_=>K_
def aAy:BinOp->Bool
 | .eql=>J_
 | .neq=>J_
 | .lss=>J_
 | .leq=>J_
 | .gtr=>J_
 | .geq=>J_
 |_=>K_
def ahT(op:BinOp)(y:Operand):Bool:=
 match op with
 | .quo=> !amB y
 | .rem=> !amB y
 | .shl=> !aa1 y
 | .shr=> !aa1 y
 |_=>J_
def ahU(k:K)(op:BinOp)(y:Operand):Bool:=
 match k with
 | .i _=>ahT op y
 | .b=>isEq op
 | .str=>aAy op
 | .p=>isEq op&&awG y
 | .s=>isEq op&&awH y
 | .m=>isEq op&&awI y
 |_=>K_
def isLen:Builtin->Bool| .len=>J_|_=>K_
def akj:Builtin->Bool| .cap=>J_|_=>K_
def aC1:Builtin->Bool| .min=>J_| .max=>J_|_=>K_
def aAz(b:Builtin)(k:K):Bool:=
 match k with
 | .s=>isLen b||akj b
 | .str=>isLen b
 | .i _=>aC1 b
 |_=>K_
def awJ(k:K):Bool:=
 match k with
 | .i _=>J_
 | .b=>J_
 |_=>K_
def Cf(P:R_)(o:Op):Bool:=
 match o with
 | .move _=>J_
 | .assign _=>J_
 | .extract _ _=>J_
 | .makeFunc _ _ _=>J_
 | .binOp op t _ y _=>ahU (rX P t) op y
 | .unOp _ t _=>awJ (rX P t)
 | .convert s d _=>isI (rX P s)&&isI (rX P d)
 | .call c=>match c.callee with
  | .builtin b=>aAz b (amD P c.argTypes)
  |_=>K_
 |_=>K_
def afP(op:BinOp)(k:O_)(x y:Int):Option Value:=
 match op with
 | .add=>G_ (.int k (k.wrap (x+y)))
 | .sub=>G_ (.int k (k.wrap (x - y)))
 | .mul=>G_ (.int k (k.wrap (x*y)))
 | .and=>G_ (.int k (oH k x y))
 | .or=>G_ (.int k (Ti k x y))
 | .xor=>G_ (.int k (JV k x y))
 | .andNot=>G_ (.int k (tU k x y))
 | .quo=>G_ (.int k (Wf k x y))
 | .rem=>G_ (.int k (abl x y))
 | .eql=>G_ (.bool (x==y))
 | .neq=>G_ (.bool (x !=y))
 | .lss=>G_ (.bool (L_ (x<y)))
 | .leq=>G_ (.bool (L_ (x<=y)))
 | .gtr=>G_ (.bool (L_ (x>y)))
 | .geq=>G_ (.bool (L_ (x>=y)))
 |_=>H_
def Wm(a b:ByteArray):Bool:=a.toList==b.toList
def amE(op:BinOp)(a b:ByteArray):Option Value:=
 match op with
 | .eql=>G_ (.bool (Wm a b))
 | .neq=>G_ (.bool (!(Wm a b)))
 | .lss=>G_ (.bool (Op.bytesLess a.toList b.toList))
 | .leq=>G_ (.bool (Op.bytesLess a.toList b.toList||Wm a b))
 | .gtr=>G_ (.bool (!(Op.bytesLess a.toList b.toList||Wm a b)))
 | .geq=>G_ (.bool (!(Op.bytesLess a.toList b.toList)))
 |_=>H_
def Qt(op:BinOp)(b:Bool):Option Value:=
 match op with
 | .eql=>G_ (.bool b)
 | .neq=>G_ (.bool (!b))
 |_=>H_
def IS{A:Type}(v:Option A)(c:A->Prop):Prop:=match v with|some v=>c v|none=>False
def opsL(ρ:Operand->Option M_):List Operand->Option (List M_)
 |[]=>G_ []
 |x::l=>match ρ x,opsL ρ l with|some v,some r=>G_ (v::r)|_,_=>H_
def afQ(P:R_)(op:BinOp)(t:Q_)(x y:M_):Option Value:=
 match rX P t with
 | .i _=>match x,y with
  | .int k a,.int k' b=>match op with
   | .shl=>G_ (.int k (sD k a b))
   | .shr=>G_ (.int k (IR k a b))
   |_=>if k=k' then afP op k a b else H_
  |_,_=>H_
 | .b=>match x,y with| .bool a,.bool b=>Qt op (a==b)|_,_=>H_
 | .str=>match x,y with| .string a,.string b=>amE op a b|_,_=>H_
 | .p=>match x,y with| .pointer a,.pointer none=>Qt op a.isNone|_,_=>H_
 | .s=>match x,y with| .slice a _ _,.slice none _ _=>Qt op a.isNone|_,_=>H_
 | .m=>match x,y with| .map a,.map none=>Qt op a.isNone|_,_=>H_
 |_=>H_
def aqX(op:UnOp)(x:M_):Option Value:=
 match x,op with
 | .bool b,.not=>G_ (.bool (!b))
 | .int k n,.neg=>G_ (.int k (k.wrap (0 - n)))
 | .int k n,.xor=>G_ (.int k (JV k (if k.signed then -1 else k.max) n))
 |_,_=>H_
def evB(b:Builtin)(k:K)(l:Option (List M_)):Option Value:=
 match k,l with
 | .s,some [.slice _ n c]=>if isLen b then G_ (.int B_ n)else if akj b then G_ (.int B_ c)else H_
 | .str,some [.string s]=>if isLen b then G_ (.int B_ s.size)else H_
 | .i _,some [.int k x,.int _ y]=>match b with| .min=>G_ (.int k (Wg x y))| .max=>G_ (.int k (ZR x y))|_=>H_
 |_,_=>H_
def aa2(P:R_)(o:Op)(ρ:Operand->Option M_):Option Value:=
 match o with
 | .move x=>ρ x
 | .assign x=>ρ x
 | .extract x i=>match ρ x with|some (.tuple vs)=>vs.toList[i]?|_=>H_
 | .makeFunc fn first captured=>
  match opsL ρ first.toList,opsL ρ captured.toList with
  |some a,some b=>G_ (.func fn a.toArray b.toArray)
  |_,_=>H_
 | .binOp op t x y _=>match ρ x,ρ y with|some a,some b=>afQ P op t a b|_,_=>H_
 | .unOp op _ x=>match ρ x with|some a=>aqX op a|_=>H_
 | .convert _ d x=>match ρ x,rX P d with|some (.int _ n),.i k=>G_ (.int k (k.wrap n))|_,_=>H_
 | .call c=>match c.callee with
  | .builtin b=>evB b (amD P c.argTypes) (opsL ρ c.args.toList)
  |_=>H_
 |_=>H_
def afR(P:R_)(op:BinOp)(t:Q_)(x:Option M_)(c:M_->Prop):Prop:=
 match x with
 |some v=>match P.underlying t with
  |some (.func _ _ _)=>abm v λb=>IS (Qt op b) c
  |_=>False
 |none=>False
def tu(P:R_)(o:Op)(ρ:Operand->Option M_)(c:M_->Prop):Prop:=
 match o with
 | .binOp op t x y _=>
  match afO y with
  |true=>afR P op t (ρ x) c
  |false=>
  match ρ x,ρ y with
  |some (.int k a),some (.int k' b)=>
   match op with
   | .shl=>HI k a b λn=>c (.int k n)
   | .shr=>amA k a b λn=>c (.int k n)
   | .quo=>if k=k' then aCY k a b λn=>c (.int k n)else False
   | .rem=>if k=k' then amz a b λn=>c (.int k n)else False
   |_=>False
  |some (.string a),some (.string b)=>match op with| .add=>((a.size+b.size:Nat):Int)<=9223372036854775807/\c (.string (a++b))|_=>False
  |some (.agg xs),some (.agg ys)=>
   if P.eqGuardType P.depth t then False else
   match rX P t with
   | .ag=>match Gk P 20 t,op with
    |some os,.eql=>Tj os xs ys λb=>c (.bool b)
    |some os,.neq=>Tj os xs ys λb=>c (.bool (!b))
    |_,_=>False
   |_=>False
  |some (.iface _ _),some .nilIface=>match P.underlying t with
   |some (.interface _)=>match op with| .eql=>c (.bool K_)| .neq=>c (.bool J_)|_=>False
   |_=>False
  |some .nilIface,some .nilIface=>match afN y with
   |true=>match P.underlying t with
    |some (.interface _)=>match op with| .eql=>c (.bool J_)| .neq=>c (.bool K_)|_=>False
    |_=>False
   |false=>False
  |_,_=>False
 | .nilCheck x=>match ρ x with|some v=>nnV v c|_=>False
 | .fieldAddr s x f=>
  match ρ x,Wl P s f with
  |some (.pointer (some a)),some fd=>if iB P fd.type=0 then False else c (.pointer (G_ (a.add fd.offset)))
  |_,_=>False
 | .field s x f=>
  match ρ x,Wl P s f with
  |some (.agg cs),some fd=>match rX P fd.type with| .ag=>if iB P fd.type=0 then False else c (.agg (cs.extract fd.offset (fd.offset+iB P fd.type)))| .raw=>False|k=>Qq cs fd.offset λv=>cast k v c
  |_,_=>False
 | .indexAddr t x i=>
  match ρ x,ρ i,P.underlying t with
  |some (.slice a n k),some (.int _ i),some (.slice e)=>if iB P e=0 then False else cN ⟨a,n,k⟩ i (iB P e) λa=>c (.pointer (G_ a))
  |some (.pointer (some a)),some (.int _ j),some (.array n e)=>if iB P e=0 then False else
   match amC i with
   |some j=>if j<n then c (.pointer (G_ (a.add (j*iB P e))))else False
   |none=>Hf a n j (iB P e) λa=>c (.pointer (G_ a))
  |_,_,_=>False
 | .index t x i=>
  match ρ x,ρ i,P.underlying t with
  |some (.agg cs),some (.int _ i),some (.array n e)=>match rX P e with| .ag=>False| .raw=>False|k=>if iB P e=1 then ixA cs n i λv=>cast k v c else False
  |some (.string s),some (.int _ i),some .string=>aAv s i λn=>c (.int .u8 n)
  |_,_,_=>False
 | .slice t x lo hi mx=>
  match ρ x,P.underlying t,(match lo with|some l=>ρ l|none=>G_ (.int B_ 0))with
  |some (.slice a n k),some (.slice e),some (.int _ lo)=>
   if iB P e=0 then False else
   match mx,hi with
   |none,none=>slL ⟨a,n,k⟩ (iB P e) lo λs=>c (.slice s.a s.n s.c)
   |none,some h=>match ρ h with|some (.int _ h)=>Th ⟨a,n,k⟩ (iB P e) lo h λs=>c (.slice s.a s.n s.c)|_=>False
   |some m,some h=>match ρ h,ρ m with|some (.int _ h),some (.int _ m)=>aqT ⟨a,n,k⟩ (iB P e) lo h m λs=>c (.slice s.a s.n s.c)|_,_=>False
   |_,_=>False
  |some (.string s),some .string,some (.int _ lo)=>
   match mx,hi with
   |none,none=>aqU s lo s.size λs=>c (.string s)
   |none,some h=>match ρ h with|some (.int _ h)=>aqU s lo h λs=>c (.string s)|_=>False
   |_,_=>False
  |some (.pointer (some a)),some (.array n e),some (.int _ lo)=>
   if iB P e=0 then False else
   match mx,hi with
   |none,none=>slL ⟨G_ a,n,n⟩ (iB P e) lo λs=>c (.slice s.a s.n s.c)
   |none,some h=>match ρ h with|some (.int _ h)=>Th ⟨G_ a,n,n⟩ (iB P e) lo h λs=>c (.slice s.a s.n s.c)|_=>False
   |_,_=>False
  |_,_,_=>False
 | .makeInterface t x=>match rX P t with| .raw=>False|_=>match ρ x with|some v=>c (.iface t v)|none=>False
 |_=>False
def afS:Op->Bool
 | .binOp _ _ _ _ _=>J_
 | .nilCheck _=>J_
 | .fieldAddr _ _ _=>J_
 | .field _ _ _=>J_
 | .indexAddr _ _ _=>J_
 | .index _ _ _=>J_
 | .slice _ _ _ _ _=>J_
 | .makeInterface _ _=>J_
 |_=>K_
def SN(P:R_)(o:Op):Bool:=afS o&& !Cf P o
def JW(P:R_)(t:Q_)(v:Option M_)(w:N_)(c:M_->Prop):Prop:=
 match v with
 |some (.pointer (some a))=>
  match rX P t with
  | .i k=>aJ k w a λn=>c (.int k n)
  | .b=>He w a λn=>c (.bool n)
  | .p=>aQ w a λn=>c (.pointer n)
  | .a=>False
  | .s=>cy w a λn=>c (.slice n.a n.n n.c)
  | .str=>Qp w a λn=>c (.string n)
  | .m=>ldM w a λn=>c (.map n)
  | .ag=>if iB P t=0 then False else bx (iB P t) w a λcs=>c (.agg cs)
  | .raw=>match P.underlying t with|some _=>tH w a c|none=>False
 |_=>False
def rZ(v:M_)(c:Prop):Prop:=v.oneCell'=J_/\c
def afT:K->Bool| .raw=>J_|_=>K_
def aqY(P:R_)(t:Q_)(i:Nat):Bool:=
 match P.underlying t with
 |some (.struct fs)=>match fs[i]? with|some f=>afT (rX P f.type)|none=>K_
 |some (.array _ e)=>afT (rX P e)
 |_=>K_
def Qu(raw:Nat->Bool)(place:Nat->Option (Nat×Nat))(n:Nat):List (Nat×M_)->Array M_->(Array M_->Prop)->Prop
 |[],acc,c=>c acc
 |(i,v)::rest,acc,c=>
  match place i with
  |none=>False
  |some (off,size)=>
   if off+size>n then False else
   match raw i with
   |true=>if size=1 then rZ v (Qu raw place n rest (acc.setIfInBounds off v) c)else False
   |false=>
    match v with
    | .agg cs=>kT acc off size cs λacc=>Qu raw place n rest acc c
    |v=>if size=1 then Qu raw place n rest (acc.setIfInBounds off v) c else False
def placesOf(P:R_)(t:Q_)(i:Nat):Option (Nat×Nat):=
 match P.underlying t with
 |some (.struct fs)=>match fs[i]? with|some f=>G_ (f.offset,iB P f.type)|none=>H_
 |some (.array _ e)=>G_ (i*iB P e,iB P e)
 |_=>H_
def abn(P:R_)(t:Q_):Bool:=
 match P.underlying t with
 |some (.struct fs)=>fs.toList.all λf=>(P.info? f.type).isSome
 |some (.array _ e)=>(P.info? e).isSome
 |_=>K_
def opsOf(ρ:Operand->Option M_):List (Nat×Operand)->Option (List (Nat×M_))
 |[]=>G_ []
 |(i,x)::l=>match ρ x,opsOf ρ l with|some v,some r=>G_ ((i,v)::r)|_,_=>H_
def afU(P:R_)(bY:ey)(o:Oper)(ρ:Operand->Option M_)(w:N_)(c:M_->ap):Prop:=
 match o.op with
 | .store t x y=>
  match ρ x,ρ y with
  |some (.pointer (some a)),some v=>
   match rX P t with
   | .ag=>if iB P t=0 then False else match v with| .agg cs=>dQ (iB P t) w a cs fun w=>c undef w|_=>False
   |_=>if iB P t=1 then bN w a v fun w=>c undef w else False
  |_,_=>False
 | .alloc t=>match zOf P t with|some z=>aE w z.cells t fun a w=>c (.pointer (G_ a)) w|none=>False
 | .box t x=>
  match ρ x with
  |some v=>
   match afT (rX P t)with
   |true=>rZ v (aE w #[v] t fun a w=>c (.pointer (G_ a)) w)
   |false=>aE w v.cells t fun a w=>c (.pointer (G_ a)) w
  |none=>False
 | .build t parts=>
  match opsOf ρ parts.toList,zOf P t with
  |some l,some z=>if z.cells.size=iB P t/\abn P t=J_ then Qu (aqY P t) (placesOf P t) (iB P t) l z.cells fun cs=>c (.agg cs) w else False
  |_,_=>False
 | .buildSlice t len parts=>
  match P.underlying t,opsOf ρ parts.toList with
  |some (.slice e),some l=>
   if len*iB P e>2 ^ 24\/(P.info? e).isSome=K_ then False else
   match (if len*iB P e=0 then G_ #[]else(zOf P e).map (·.cells))with
   |some z=>Qu (fun _=>afT (rX P e)) (fun i=>G_ (i*iB P e,iB P e)) (len*iB P e) l ((Array.range (len*iB P e)).map (z[· % z.size]!)) fun cs=>
     aE w cs e fun a w=>c (.slice (G_ a) len len) w
   |none=>False
  |_,_=>False
 | .makeSlice t l k=>
  match ρ l,ρ k with
  |some a,some b=>xz P t a b w fun s w=>c (.slice s.a s.n s.c) w
  |_,_=>False
 | .call cl=>
  match cl.callee with
  | .builtin b=>match opsL ρ cl.args.toList with
   |some vs=>match b with
    | .append=>og P cl.argTypes o.type vs w fun s w=>c (.slice s.a s.n s.c) w
    | .copy=>U1 P cl.argTypes o.type vs w fun n w=>c (.int B_ n) w
    | .len=>aC0 P cl.argTypes o.type vs w fun n w=>c (.int B_ n) w
    | .clear=>awE P cl.argTypes o.type vs w c
    | .delete=>ahR P cl.argTypes o.type vs w c
    | .panic=>bY (.method "panic") vs.toArray w c
    |_=>False
   |none=>False
  | .value f=>match ρ f,opsL ρ cl.args.toList with
   |some f,some vs=>nj bY f vs.toArray w fun v w=>Yp P o.type v fun v=>c v w
   |_,_=>False
  | .invoke r name=>match ρ r,opsL ρ cl.args.toList with
   |some v,some vs=>pR bY P v name vs.toArray w fun v w=>Yp P o.type v fun v=>c v w
   |_,_=>False
 | .makeMap t r=>
  match r with
  |none=>mkMap P t H_ w fun m w=>c (.map m) w
  |some r=>match ρ r with|some r=>mkMap P t (G_ r) w fun m w=>c (.map m) w|none=>False
 | .lookup t x i ok=>
  match ρ x,ρ i with
  |some x,some i=>look P t x i ok w fun v w=>Yp P o.type v fun v=>c v w
  |_,_=>False
 | .mapUpdate t m k x=>
  match ρ m,ρ k,ρ x with
  |some m,some k,some x=>MP P t m k x w fun w=>c undef w
  |_,_,_=>False
 | .insert t m k x=>
  match ρ m,ρ k,ρ x with
  |some m,some k,some x=>MP P t m k x w fun w=>c undef w
  |_,_,_=>False
 | .convert s d x=>
  match ρ x with
  |some x=>cvt P s d x w fun v w=>cast (rX P d) v fun v=>c v w
  |none=>False
 | .typeAssert x xt as ok=>
  match ρ x with
  |some x=>tyA P x xt as ok w fun v w=>Yp P o.type v fun v=>c v w
  |none=>False
 | .panic x=>
  match ρ x with
  |some v=>bY (.method "panic") #[v] w c
  |none=>False
 |_=>False
def aa3(e:Env)(x a b:Operand):Option Value:=
 match x,e.op x with
 | .tmp g,some (.bool cb)=>
  match (match e.op a with|some v=>G_ v|none=>e.under g J_ a),(match e.op b with|some v=>G_ v|none=>e.under g K_ b)with
  |some (.bool va),some (.bool vb)=>
   match a,b with
   | .const (.bool true),_=>G_ (.bool (cb||vb))
   |_,.const (.bool false)=>G_ (.bool (cb&&va))
   |_,_=>G_ (.bool (if cb then va else vb))
  |_,_=>H_
 |_,_=>H_
def abo(e:Env)(x a b:Operand)(c:M_->Prop):Prop:=
 match e.op x with
 |some (.bool cb)=>an cb (IS (e.op a) c) (IS (e.op b) c)
 |_=>False
def afV(ops:Array Oper)(g:Option (Nat×Bool)):Option (Nat×Bool):=
 match g with
 |some (j,want)=>match ops[j]? with|some o=>(match o.dst with|some d=>G_ (d,want)|none=>H_)|none=>H_
 |none=>H_
def SO:Op->Option (Operand×Operand×Operand)| .pick x a b=>G_ (x,a,b)|_=>H_
def JX:Op->Option (Q_×Operand)| .load t x=>G_ (t,x)|_=>H_
def aez(P:R_)(bY:ey)(o:Oper)(ρ:Operand->Option M_)(w:N_)(c:M_->ap):Prop:=
 if Cf P o.op then IS (aa2 P o.op ρ) λv=>c v w
 else if SN P o.op then tu P o.op ρ λv=>c v w
 else match JX o.op with
  |some (t,x)=>JW P t (ρ x) w λv=>c v w
  |none=>afU P bY o ρ w c
def rootOf(e:Env):Nat->Nat->Nat
 |0,g=>g
 |n+1,g=>match e.find g with|some (.gd h _ _)=>rootOf e n h|_=>g
def Yq(g:Nat)(want:Bool)(yes no:Env->Prop):Nat->Env->Prop
 |0,_=>False
 |n+1,e=>
  match e.find g with
  |some (.val (.bool b))=>
   match want with
   |true=>an b (lP (e.refine g J_) yes) (lP (e.refine g K_) no)
   |false=>an b (lP (e.refine g J_) no) (lP (e.refine g K_) yes)
  |some (.val (.tuple _))=>no e
  |some (.gd _ _ _)=>
   match e.find (rootOf e 9 g)with
   |some (.val (.bool b))=>an b (lP (e.refine (rootOf e 9 g) J_) λe=>Yq g want yes no n e) (lP (e.refine (rootOf e 9 g) K_) λe=>Yq g want yes no n e)
   |_=>False
  |_=>False
def SP(P:R_)(bY:ey)(o:Oper)(e:Env)(w:N_)(c:Env->ap):Prop:=
 match SO o.op with
 |some (x,a,b)=>
  match aa3 e x a b with
  |some v=>c (e.Wh o.dst v) w
  |none=>abo e x a b λv=>c (e.Wh o.dst v) w
 |none=>aez P bY o e.op w λv w=>c (e.Wh o.dst v) w
def abp(P:R_)(o:Op)(e:Env)(g:Nat)(want:Bool):Option Value:=
 match e.find g with
 |some (.val (.tuple _))=>H_
 |_=>
  match SO o with
  |some (x,a,b)=>aa3 (e.refine g want) x a b
  |none=>if Cf P o then aa2 P o (e.opG g want)else H_
def MQ(P:R_)(bY:ey)(ops:Array Oper)(o:Oper)(e:Env)(w:N_)(c:Env->ap):Prop:=
 match o.guard with
 |none=>SP P bY o e w c
 |some _=>
  match afV ops o.guard with
  |none=>False
  |some (g,want)=>
   match abp P o.op e g want,o.dst with
   |some v,some d=>if D2 d g then False else c (e.aqW d g want v) w
   |_,_=>Yq g want (λe=>SP P bY o e w c) (λe=>c (e.Wh o.dst undef) w) 9 e
def abq(P:R_)(bY:ey)(ops:Array Oper):List Oper->Env->N_->(Env->ap)->Prop
 |[],e,w,c=>c e w
 |o::rest,e,w,c=>MQ P bY ops o e w λe w=>lP e λe=>abq P bY ops rest e w c
def U2(P:R_)(o:Op):Bool:=(SO o).isSome||Cf P o||SN P o
def MR(P:R_)(t:Q_):Nat:=match rX P t with| .ag=>iB P t|_=>1
def ai(n:Nat)(a:P_)(w w':N_)(c:Prop):Prop:=(∀k,k<n->w'.cell? (a.add k)=w.cell? (a.add k))/\c
structure OO where
 i:Nat
 n:Nat
 a:P_
 w:N_
def Gn(o:Oper):Nat:=o.after.foldl (λs e=>if Region.binds .any e then s|||2 ^ e.on else s) 0
def Cu(P:R_)(ops:Array Oper)(m:Nat):Nat->Nat->Option Nat
 |0,_=>H_
 |n+1,i=>match ops[i]? with
  |some o=>if !m.testBit i&&(Gn o&&&m==Gn o)&&(U2 P o.op||(JX o.op).isSome)then G_ i else Cu P ops m n (i+1)
  |none=>H_
def LD(ops:Array Oper)(m:Nat):List Nat:=
 (CX ops.size).filter λi=>match ops[i]? with|some o=> !m.testBit i&&(Gn o&&&m==Gn o)|none=>K_
def Wn(sO:Nat)(hs:List OO)(w:N_)(c:Prop):Prop:=
 match hs with
 |[]=>c
 |h::hs=>if sO.testBit h.i then Wn sO hs w c else ai h.n h.a h.w w (Wn sO hs w c)
def both(x y:Prop):Prop:=x/\y
def akk(l:List Nat)(c:Nat->Prop):Prop:=
 match l with
 |[]=>True
 |[i]=>c i
 |i::l=>both (c i) (akk l c)
def afW(P:R_)(i:Nat)(t:Q_)(v:Option M_)(w:N_)(hs:List OO):List OO:=
 match v with
 |some (.pointer (some a))=>⟨i,MR P t,a,w⟩::hs
 |_=>hs
def Qv(P:R_)(ops:Array Oper)(i:Nat)(o:Oper)(t:Q_)(x:Operand)(e:Env)(w:N_)(hs:List OO)(c:Env->List OO->Prop):Prop:=
 match o.guard with
 |none=>JW P t (e.op x) w λv=>c (e.Wh o.dst v) (afW P i t (e.op x) w hs)
 |some _=>
  match afV ops o.guard with
  |none=>False
  |some (g,want)=>Yq g want (λe=>JW P t (e.op x) w λv=>c (e.Wh o.dst v) (afW P i t (e.op x) w hs)) (λe=>c (e.Wh o.dst undef) hs) 9 e
def JY(P:R_)(bY:ey)(ops:Array Oper)(sO:Array Nat):Nat->Nat->List OO->Env->N_->(Env->ap)->Prop
 |0,_,_,_,_,_=>False
 |fuel+1,m,hs,e,w,c=>
  match Cu P ops m ops.size 0 with
  |some i=>match ops[i]? with
   |some o=>match JX o.op with
    |some (t,x)=>Qv P ops i o t x e w hs λe hs=>lP e λe=>JY P bY ops sO fuel (m|||2 ^ i) hs e w c
    |none=>MQ P bY ops o e w λe w=>lP e λe=>JY P bY ops sO fuel (m|||2 ^ i) hs e w c
   |none=>False
  |none=>match LD ops m with
   |[]=>if (CX ops.size).all (λi=>m.testBit i)then c e w else False
   |l=>akk l λi=>match ops[i]? with
    |some o=>MQ P bY ops o e w λe w=>Wn (sO.getD i 0) hs w (lP e λe=>JY P bY ops sO fuel (m|||2 ^ i) hs e w c)
    |none=>False
def abr(ops:Array Oper)(sO:Array Nat):Bool:=
 (CX ops.size).all λj=>(CX j).all λi=>(sO.getD j 0).testBit i||match ops[i]?,ops[j]? with|some x,some y=>Oper.apart ops x y&&Oper.apart ops y x|_,_=>K_
def akl(acc:Array Nat)(o:Oper):Nat:=o.after.foldl (λs e=>if Region.binds .any e then s|||2 ^ e.on|||acc.getD e.on 0 else s) 0
def amF:List Oper->Array Nat->Array Nat
 |[],acc=>acc
 |o::l,acc=>amF l (acc.push (akl acc o))
def aeA(ops:Array Oper):Array Nat:=amF ops.toList #[]
def SQ(ops:Array Oper):Bool:=
 (CX ops.size).all λj=>match ops[j]? with|some o=>o.after.all λe=> !Region.binds .any e||DQ e.on j|none=>K_
def noSelect(ops:Array Oper):Bool:=ops.toList.all λo=>match o.op with| .select _ _=>K_|_=>J_
def afX(ops:Array Oper):Bool:=SQ ops&&abr ops (aeA ops)&&noSelect ops
inductive Ex where
 |normal|exit (id:Nat)|ret
inductive AC where
 |skip
 |region (id:Nat) (ops:Array Oper) (draw:Bool)
 |seq (a b:AC)
 |cond (c:Operand) (a b:AC)
 |block (id:Nat) (a:AC)
 |loop (ks:List (Nat×K)) (a:AC)
 |exit (id:Nat)
 |label (l:Nat)
 |ret
 |join (ks:List (Nat×K)) (a:AC)
 |scope (a:AC)
 |bad (c:Code)
def AC.code:AC->Code
 | .skip=> .skip
 | .region id ops d=> .region id ops d
 | .seq a b=> .seq a.code b.code
 | .cond c a b=> .cond c a.code b.code
 | .block id a=> .block id a.code
 | .loop _ a=> .loop a.code
 | .exit id=> .exit id
 | .label l=> .label l
 | .ret=> .ret
 | .join _ a=>a.code
 | .scope a=> .scope a.code
 | .bad c=>c
abbrev sP:=List (Nat×List (Nat×K))
def sP.at:sP->Nat->Option (List (Nat×K))
 |[],_=>H_
 |(m,k)::h,n=>if D2 m n then G_ k else sP.at h n
def joined(h:sP)(n:Nat)(a:AC):AC:=match h.at n with|some ks=> .join ks a|none=>a
def nk(h:sP):Code->Nat->AC×Nat
 | .skip,n=>(.skip,n)
 | .region id ops d,n=>(joined h n (.region id ops d),n+1)
 | .seq a b,n=>match nk h a n with|(x,n)=>match nk h b n with|(y,n)=>(.seq x y,n)
 | .cond c a b,n=>match nk h a (n+1)with|(x,m)=>match nk h b m with|(y,m)=>(joined h n (.cond c x y),m)
 | .block id a,n=>match nk h a (n+1)with|(x,m)=>(joined h n (.block id x),m)
 | .loop a,n=>match nk h a (n+1)with|(x,m)=>(.loop ((h.at n).getD []) x,m)
 | .exit id,n=>(.exit id,n)
 | .label l,n=>(.label l,n)
 | .ret,n=>(.ret,n)
 | .scope a,n=>match nk h a n with|(x,m)=>(.scope x,m)
 |c,n=>(.bad c,n)
def MS(h:sP)(n:Nat)(a:AC):(joined h n a).code=a.code:=by
 unfold joined;split<;>rfl
def tV(h:sP)(c:Code):∀n,(nk h c n).1.code=c:=by
 induction c with
 |skip=>intro n;rfl
 |region id ops d=>intro n;simp[nk,MS,AC.code]
 |seq a b e f=>intro n;simp[nk,AC.code,e,f]
 |cond c a b e f=>intro n;simp[nk,MS,AC.code,e,f]
 |block id a ih=>intro n;simp[nk,MS,AC.code,ih]
 |loop a ih=>intro n;simp[nk,AC.code,ih]
 |scope a ih=>intro n;simp[nk,AC.code,ih]
 |_=>intros;rfl
def AC.writes:AC->Nat->Bool
 | .region _ ops _,s=>ops.toList.any λo=>match o.dst with|some d=>D2 d s|none=>K_
 | .seq a b,s=>a.writes s||b.writes s
 | .cond _ a b,s=>a.writes s||b.writes s
 | .block _ a,s=>a.writes s
 | .loop _ a,s=>a.writes s
 | .join _ a,s=>a.writes s
 | .scope a,s=>a.writes s
 |_,_=>K_
def AC.fits(n:Nat):AC->Bool
 | .region _ ops _=>ops.toList.all λo=>match o.dst with|some d=>DQ d n|none=>J_
 | .seq a b=>a.fits n&&b.fits n
 | .cond _ a b=>a.fits n&&b.fits n
 | .block _ a=>a.fits n
 | .loop _ a=>a.fits n
 | .join _ a=>a.fits n
 | .scope a=>a.fits n
 |_=>J_
def HT:List (Nat×K)->Type
 |[]=>Unit
 |[(_,k)]=>k.T
 |(_,k)::(x::r)=>k.T×HT (x::r)
def Be:(ks:List (Nat×K))->HT ks->Env
 |[],_=>[]
 |[(s,k)],x=>[(s,.val (k.v x))]
 |(s,k)::(y::r),x=>(s,.val (k.v x.1))::Be (y::r) x.2
def uo:(ks:List (Nat×K))->Env->(HT ks->Prop)->Prop
 |[],_,c=>c ()
 |[(s,k)],e,c=>match e.find s with|some (.val v)=>unV k v c|_=>False
 |(s,k)::(y::r),e,c=>match e.find s with|some (.val v)=>unV k v λx=>uo (y::r) e λxs=>c (x,xs)|_=>False
def Env.keep(e:Env)(mask:Nat):Env:=e.filter fun(s,x)=>mask.testBit s&&(match x with| .val _=>J_|_=>K_)
def Env.unw(e:Env)(a:AC):Env:=e.filter fun(s,x)=> !(a.writes s)&&(match x with| .val _=>J_|_=>K_)
def ev(P:R_)(bY:ey)(mask:Nat):AC->Env->N_->(Ex->Env->ap)->Prop
 | .skip,e,w,k=>k .normal e w
 | .label _,e,w,k=>k .normal e w
 | .region _ ops draw,e,w,k=>
  if draw then(if afX ops then drew w λw=>JY P bY ops (aeA ops) (ops.size+1) 0 [] e w λe w=>lP (e.keep mask) λe=>k .normal e w else False)
  else abq P bY ops ops.toList e w λe w=>lP (e.keep mask) λe=>k .normal e w
 | .seq a b,e,w,k=>ev P bY mask a e w λx e w=>match x with| .normal=>ev P bY mask b e w k|x=>k x e w
 | .cond c a b,e,w,k=>match e.op c with|some (.bool t)=>an t (ev P bY mask a e w k) (ev P bY mask b e w k)|_=>False
 | .block id a,e,w,k=>ev P bY mask a e w λx e w=>match x with| .exit i=>if D2 i id then k .normal e w else k (.exit i) e w|x=>k x e w
 | .loop ks a,e,w,k=>
  uo ks e λx=>jD (λC x w=>lP (Be ks x++e.unw a) λe=>ev P bY mask a e w λy e w=>match y with| .normal=>uo ks e λx=>C x w|y=>k y e w) x w
 | .exit id,e,w,k=>k (.exit id) e w
 | .ret,e,w,k=>k .ret e w
 | .join ks a,e,w,k=>
  cz (λJ=>ev P bY mask a e w λx e w=>match x with| .normal=>uo ks e λx=>J x w|x=>k x e w) λx w=>lP (Be ks x++e.unw a) λe=>k .normal e w
 | .scope a,e,w,k=>ev P bY mask a e w k
 | .bad _,_,_,_=>False
def azT(P:R_)(r:ResultVar)(e:Env)(w:N_)(c:M_->Prop):Prop:=
 match r with
 | .tmp t=>IS (e.op (.tmp t)) c
 | .cell a t=>JW P t (e.op (.tmp a)) w c
def JZ(P:R_):List ResultVar->Env->N_->(List M_->Prop)->Prop
 |[],_,_,c=>c []
 |r::rs,e,w,c=>azT P r e w λv=>JZ P rs e w λl=>c (v::l)
def amG(P:R_)(rs:List ResultVar)(c:List M_->ap)(x:Ex)(e:Env)(w:N_):Prop:=
 match x with
 | .exit _=>False
 |_=>JZ P rs e w λl=>c l w
def DE:Nat->List M_->Env
 |_,[]=>[]
 |n,v::l=>(n,.val v)::DE (n+1) l
def OP(P:R_)(bY:ey)(mask:Nat)(h:sP)(fn:Func)(ks:List K)(args:List M_)(w:N_)(c:KT ks->ap):Prop:=
 match fn.body with
 |some b=>ev P bY mask (nk h b 0).1 (DE 0 args) w (amG P fn.results.toList λl w=>qW ks l λx=>c x w)
 |none=>False
def Wo(h:sP)(fn:Func)(n:Nat):Bool:=
 match fn.body with
 |some b=>(nk h b 0).1.fits fn.ntmps&&Nat.ble n fn.ntmps&& !(fn.name== "runtime.NumGoroutine")
 |none=>K_
def Wp(P:R_)(bY:ey)(mask:Nat):List AC->Env->N_->(Ex->Env->ap)->Prop
 |[],e,w,k=>k .normal e w
 |a::l,e,w,k=>ev P bY mask a e w λx e w=>match x with| .normal=>Wp P bY mask l e w k|x=>k x e w
def spine:List AC->Code->Code
 |[],c=>c
 |a::l,c=> .seq a.code (spine l c)
def akm(P:R_)(bY:ey)(amH:(M_->ap)->ey)(dR:List M_->N_->(ap)->Prop)(dP:List M_->M_->N_->(ap)->Prop)
  (mask:Nat) (pre:List AC) (d:Nat) (g:FuncId) (abt:List Operand) (post:AC) (fn:Func) (ks:List K) (args:List M_) (w:N_) (c:KT ks->ap):Prop:=
 Wp P bY mask pre (DE 0 args) w λx e w=>match x with
  | .normal=>match opsL e.op abt with
   |some l=>lP (e.put d (.func (F_ g) #[] l.toArray)) λe=>
    ev P (amH λv w=>dP l v w λw=>JZ P fn.results.toList (e.unw post) w λl=>qW ks l λx=>c x w) mask post e w λx e w=>match x with
     | .exit _=>False
     |_=>dR l w λw=>JZ P fn.results.toList e w λl=>qW ks l λx=>c x w
   |none=>False
  |x=>amG P fn.results.toList (λl w=>qW ks l λx=>c x w) x e w
def akn(P:R_)(bY:ey)(mask:Nat)(c:AC)(args:List M_)(w:N_)(k:ap):Prop:=
 ev P bY mask c (DE 0 args) w λx _ w=>match x with| .exit _=>False|_=>k w
def aAA:Array Oper->Bool:=λops=>match ops.toList.reverse with|o::_=>(match o.op with| .defer _=>J_|_=>K_)|[]=>K_
def afY:Code->Option (List Code×Nat×Array Oper×Code)
 | .seq (.region id ops d) c=>match aAA ops with
  |true=>G_ ([],id,ops,c)
  |false=>match afY c with|some (l,r)=>G_ (.region id ops d::l,r)|none=>H_
 | .seq x c=>match afY c with|some (l,r)=>G_ (x::l,r)|none=>H_
 |_=>H_
def aa4(fn:Func):List Code×Nat×Array Oper×Code:=match fn.body with|some b=>(match afY b with|some r=>r|none=>([],0,#[],.skip))|none=>([],0,#[],.skip)
def azU(c:Code):AC:=(nk [] c 0).1
def aC3(fn:Func):List AC:=(aa4 fn).1.map azU
def aC4(fn:Func):Nat:=(aa4 fn).2.1
def azV(fn:Func):List Oper:=(aa4 fn).2.2.1.toList
def aAB(fn:Func):AC:=azU (aa4 fn).2.2.2
def xMk(fn:Func):Oper:=(azV fn).headD default
def xDf(fn:Func):Oper:=(azV fn).getLastD default
def xD(fn:Func):Nat:=match (xMk fn).dst with|some d=>d|none=>0
def xG(fn:Func):FuncId:=match (xMk fn).op with| .makeFunc (.func g) _ _=>g|_=>0
def aAC(fn:Func):List Operand:=match (xMk fn).op with| .makeFunc _ _ c=>c.toList|_=>[]
abbrev bt:=List M_->N_->(M_->ap)->Prop
def abu:List (Nat×bt)->FuncId->bt
 |[],_,_,_,_=>False
 |(n,d)::l,f,args,w,c=>match D2 n f with|true=>d args w c|false=>abu l f args w c
def kC(l:List (Nat×bt)):ey:=λfn args w c=>match fn with| .func f=>abu l f args.toList w c|_=>False
def J0(l:List (Nat×bt))(Y:Nat->bt):ey:=λfn args w c=>match fn with| .func f=>abu l f args.toList w c| .yield n=>Y n args.toList w c|_=>False
def aC5(a:Act)(s:Nat):EV->Prop
 | .val v=>a.tmps[s]?=G_ v
 | .gd g want v=>(a.tmps[g]?=G_ (.bool want)->a.tmps[s]?=G_ v)/\(a.tmps[g]?≠G_ (.bool want)->a.tmps[s]?=G_ undef)
def Sub(e:Env)(a:Act):Prop:=∀p∈e,aC5 a p.1 p.2
variable{a b:Nat}
def beq_eq(h:D2 a b=J_):a=b:=Nat.eq_of_beq_eq_true h
def amI(h:D2 a b=K_):a≠b:=λe=>by subst e;simp at h
theorem Dc:∀{e:Env} {t:Nat} {x:EV},e.find t=G_ x->(t,x)∈e
 |[],_,_,h=>by simp[Env.find]at h
 |(s,y)::e,t,x,h=>by
  unfold Env.find at h;split at h
  .rename_i hb;have:=beq_eq hb;grind
  .exact C3 _ (Dc h)
def uV(ρ:Operand->Option M_)(a:Act):Prop:=∀x v,ρ x=G_ v->a.eval x=v
variable{a:Act}{v:M_}
def Wr(h:a.tmps[b]?=G_ v):a.eval (.tmp b)=v:=by
 simp[Act.eval,h]
variable{e:Env}
def qi(h:Sub e a):uV e.op a:=by
 intro x v b;cases x with
 |tmp t=>
  simp only[Env.op]at b;split at b
  .rename_i u c;cases b;exact Wr (h _ (Dc c))
  .cases b
 |const u=>simp[Env.op]at b;subst b;rfl
 |global g=>simp[Env.op]at b;subst b;rfl
 |func f=>simp[Env.op]at b;subst b;rfl
variable{b:Bool}{g:Nat}
def ako(h:Sub e a)(j:a.tmps[g]?=G_ (.bool b)):uV (e.opG g b) a:=by
 intro x v c;cases x with
 |tmp t=>
  simp only[Env.opG]at c;split at c
  .rename_i u d;cases c;exact Wr (h _ (Dc d))
  .rename_i l want u d;split at c
   .rename_i i;simp only[iY]at i;have k:=beq_eq i.1;have h2:want=b:=by simpa using i.2
    subst k;subst h2;cases c
    exact Wr ((h _ (Dc d)).1 j)
   .cases c
  .cases c
 |const u=>simp[Env.opG]at c;subst c;rfl
 |global g=>simp[Env.opG]at c;subst c;rfl
 |func f=>simp[Env.opG]at c;subst c;rfl
variable{x:Operand}
def Wu(h:Sub e a)(f:a.tmps[g]?=G_ (.bool b))(c:e.under g b x=G_ v):a.eval x=v:=by
 cases x with
 |tmp t=>
  simp only[Env.under]at c;split at c
  .rename_i k want u i;split at c
   .rename_i d;simp only[iY]at d;have j:=beq_eq d.1;have h2:want=b:=by simpa using d.2
    subst j;subst h2;cases c
    exact Wr ((h _ (Dc i)).1 f)
   .cases c
  .cases c
 |_=>simp[Env.under]at c
variable{d:Nat}
def Gp(h:g≠d):(a.put (G_ d) v).tmps[g]?=a.tmps[g]?:=by
 simp[Act.put,Y_ (Ne.symm h)]
def Wv(h:d<a.tmps.size):(a.put (G_ d) v).tmps[d]?=G_ v:=by
 simp[Act.put,h]
def amJ(h:Sub e a):Sub (e.del d) (a.put (G_ d) v):=by
 intro p b;unfold Env.del at b;rw[C5]at b;obtain⟨b,c⟩:=b;obtain⟨s,x⟩:=p;simp only[iY,i_]at c;have hs:=amI c.1;have f:=h _ b;cases x with
 |val u=>show _=_;rw[Gp hs];exact f
 |gd g want u=>
  have i:g≠d:=amI c.2;show(_->(a.put (G_ d) v).tmps[s]?=G_ u)/\_;rw[Gp i,Gp hs];exact f
def amK(h:Sub e a)(b:d<a.tmps.size):Sub (e.put d v) (a.put (G_ d) v):=by
 intro p hp;unfold Env.put at hp;rcases BP.1 hp with rfl|hp
 .exact Wv b
 .exact amJ h p hp
def zo{d:Option Nat}(h:Sub e a)(b:∀x,d=G_ x->x<a.tmps.size):Sub (e.Wh d v) (a.put d v):=by
 cases d with
 |none=>exact h
 |some d=>exact amK h (b d rfl)
variable{want:Bool}
variable{z3:M_}
theorem Ww(h:Sub e a)(c:d<a.tmps.size)(b:d≠g)(hv:a.tmps[g]?=G_ (.bool want)->z3=v)(Gq:a.tmps[g]?≠G_ (.bool want)->z3=undef):Sub (e.aqW d g want v) (a.put (G_ d) z3):=by
 intro p hp;unfold Env.aqW at hp;rcases BP.1 hp with rfl|hp
 .show(_->(a.put (G_ d) z3).tmps[d]?=G_ v)/\_;rw[Gp (Ne.symm b),Wv c];grind
 .exact amJ h p hp
theorem Cv(h:Sub e a)(f:a.tmps[g]?=G_ (.bool b)):Sub (e.refine g b) a:=by
 intro p hp;unfold Env.refine at hp;rcases BP.1 hp with rfl|hp
 .exact f
 .rw[List.mem_filterMap]at hp;obtain⟨⟨s,x⟩,k,c⟩:=hp;have i:=h _ k;dsimp only at c;split at c
  .cases c
  .cases x with
   |val v=>simp only[G_.injEq]at c;subst c;exact i
   |gd g' want v=>
    dsimp only at c;split at c
    .rename_i hb;have:=beq_eq hb;subst this;simp only[G_.injEq]at c;subst c;show a.tmps[s]?=G_ _;split
     .rename_i j;have d:want=b:=by simpa using j
      subst d;exact i.1 f
     .rename_i j;have d:want≠b:=by simpa using j
      exact i.2 (by rw[f];simp;exact λe=>d e.symm)
    .grind
def aeB{ρ:Operand->Option M_}{a:Act}(h:uV ρ a):∀{l:List Operand} {vs:List M_},opsL ρ l=G_ vs->l.map a.eval=vs
 |[],vs,hl=>by simp[opsL]at hl;subst hl;rfl
 |x::l,vs,hl=>by
  simp only[opsL]at hl;split at hl
  .rename_i v r hv b;cases hl
   simp[h x v hv,aeB h b]
  .cases hl
variable{vs:List M_}{ρ:Operand->Option M_}
def tR(h:uV ρ a){l:Array Operand}(b:opsL ρ l.toList=G_ vs):l.map a.eval=vs.toArray:=by
 apply T_;simp[aeB h b]
def U3{ρ:Operand->Option M_}{a:Act}(h:uV ρ a):∀{l:List (Nat×Operand)} {vs:List (Nat×M_)},opsOf ρ l=G_ vs->l.map (fun(i,x)=>(i,a.eval x))=vs
 |[],vs,hl=>by simp[opsOf]at hl;subst hl;rfl
 |(i,x)::l,vs,hl=>by
  simp only[opsOf]at hl;split at hl
  .rename_i v r hv b;cases hl
   simp[h x v hv,U3 h b]
  .cases hl
variable{zd:O_}{zh:Int->Prop}
theorem Qw(h:xS zd v zh):∃n,v= .int zd n/\zh n:=by
 unfold xS at h;grind
variable{zn:Bool->Prop}
theorem abv(h:Ir v zn):∃n,v= .bool n/\zn n:=by
 unfold Ir at h;grind
theorem abw{c:Option P_->Prop}(h:toP v c):∃n,v= .pointer n/\c n:=by
 unfold toP at h;grind
variable{zp:P_->Prop}
theorem aeC(h:amy v zp):∃n,v= .pointer (G_ n)/\zp n:=by
 unfold amy at h;grind
theorem Qx{c:Sl->Prop}(h:toS v c):∃n:Sl,v= .slice n.a n.n n.c/\c n:=by
 unfold toS at h;grind
theorem U4{c:ByteArray->Prop}(h:Yo v c):∃n,v= .string n/\c n:=by
 unfold Yo at h;grind
theorem Qy{c:Option Nat->Prop}(h:toM v c):∃n,v= .map n/\c n:=by
 unfold toM at h;grind
variable{zr:Array M_->Prop}
theorem ahX(h:toA v zr):∃n,v= .agg n/\zr n:=by
 unfold toA at h;grind
def Wx{k:K}{c:k.T->Prop}(h:unV k v c):∃x:k.T,v=k.v x/\c x:=by
 cases k with
 |i kk=>exact Qw h
 |b=>exact abv h
 |p=>exact abw h
 |a=>exact aeC h
 |s=>exact Qx h
 |str=>exact U4 h
 |m=>exact Qy h
 |ag=>exact ahX h
 |raw=>exact⟨v,rfl,h⟩
def SR{k:K}{c:M_->Prop}(h:cast k v c):c v:=by
 cases k with
 |i kk=>obtain⟨n,rfl,h'⟩:=Qw h;exact h'
 |b=>obtain⟨n,rfl,h'⟩:=abv h;exact h'
 |p=>obtain⟨n,rfl,h'⟩:=abw h;exact h'
 |a=>obtain⟨n,rfl,h'⟩:=aeC h;exact h'
 |s=>obtain⟨n,rfl,h'⟩:=Qx (c:=λn=>c (.slice n.a n.n n.c)) h;exact h'
 |str=>obtain⟨n,rfl,h'⟩:=U4 h;exact h'
 |m=>obtain⟨n,rfl,h'⟩:=Qy h;exact h'
 |ag=>obtain⟨n,rfl,h'⟩:=ahX h;exact h'
 |raw=>exact h
def zu:∀{ks:List K} {l:List M_} {c:KT ks->Prop},qW ks l c->∃x,l=dL ks x/\c x
 |[],[],c,h=>⟨(),rfl,h⟩
 |[],_::_,c,h=>h.elim
 |[k],[v],c,h=>by obtain⟨x,rfl,a⟩:=Wx h;exact⟨x,rfl,a⟩
 |[k],[],c,h=>h.elim
 |[k],_::_::_,c,h=>h.elim
 |k::(y::r),v::vs,c,h=>by
  obtain⟨x,rfl,h'⟩:=Wx h;obtain⟨xs,rfl,a⟩:=zu h';exact⟨(x,xs),rfl,a⟩
 |k::(y::r),[],c,h=>h.elim
variable{P:R_}{t:Q_}
variable{zt:M_->Prop}
def Cw(h:Yp P t v zt):zt v:=by
 unfold Yp at h;split at h
 .exact SR h
 .unfold Is toT at h;split at h
  .obtain⟨x,b,a⟩:=zu h;rw[<-b]at a;exact a
  .exact h.elim
variable{op:BinOp}{y:Operand}
def adS(d:∀c,v≠ .agg c)(h2:v≠ .nilIface):(eqGuard op t x y v z3).run P w= .ok () w:=by
 cases v with
 |agg c=>exact absurd rfl (d c)
 |nilIface=>exact absurd rfl h2
 |_=>cases op<;>rfl
variable{o:Oper}{yt:Q_}
def Qz(b:o.op= .binOp op t x y yt)
  (d:∀c,a.eval x≠ .agg c) (h2:a.eval x≠ .nilIface) (h:(binOp op t (a.eval x) (a.eval y)).run P w= .ok v w):(execOp a.eval o).run P w= .ok (.value v) w:=by
 simp only[execOp,b,cR,adS d h2,cK,h,cP]
variable{k k':O_}{m n:Int}
theorem abx(a:k=k')(hq:n≠0\/(op≠ .quo/\op≠ .rem))(h:afP op k m n=G_ v):
  (binOp op t (.int k m) (.int k' n)).run P w= .ok v w:=by
 subst a;cases op<;>simp only[afP,G_.injEq,reduceCtorEq]at h<;>subst h<;>
  first
  |(simp[binOp,Op.intArith];done)
  |(simp[binOp,Op.intBits,oH,Ti,JV,tU];done)
  |(simp[binOp,Op.intCmp];done)
  |(have b:n≠0:=by grind
    simp[binOp,Op.intDiv,b,Wf,abl])
def MU(b:0<=n):
  (op= .shl->(binOp op t (.int k m) (.int k' n)).run P w= .ok (.int k (sD k m n)) w)/\
  (op= .shr->(binOp op t (.int k m) (.int k' n)).run P w= .ok (.int k (IR k m n)) w):=by
 have a:¬n<0:=af;constructor<;>intro h<;>subst h<;>simp[binOp,Op.shift,a,sD,IR]
variable{d:TypeDesc}
def jr(h:P.underlying t=G_ d):(underlying t).run P w= .ok d w:=run_underlying h w
def vS{k:K}(h:rX P t=k)(f:k≠ .raw):∃d,P.underlying t=G_ d/\(match k with
  | .i k=>d= .int k| .a=>False| .b=>d= .bool| .str=>d= .string| .p=> ∃e,d= .pointer e| .s=> ∃e,d= .slice e| .m=> ∃x y,d= .map x y
  | .ag=>(∃fs,d= .struct fs)\/(∃n e,d= .array n e)| .raw=>False):=by
 unfold rX at h;split at h<;>subst h<;>first|exact absurd rfl f|(rename_i c;exact⟨_,c,rfl⟩)|(rename_i c;exact⟨_,c,_,rfl⟩)|(rename_i c;exact⟨_,c,_,_,rfl⟩)|(rename_i c;exact⟨_,c,D_ ⟨_,rfl⟩⟩)|(rename_i c;exact⟨_,c,E_ ⟨_,_,rfl⟩⟩)
variable{y0:Bool}
def akp(d:Nat)(h:P.underlying t=G_ .bool):(Op.equalIn (d+1) t (.bool y0) (.bool b)).run P w= .ok (y0==b) w:=by
 simp only[Op.equalIn,cR,jr h,cK,cP]
variable{a:Option P_}{e:Q_}
def aom(d:Nat)(h:P.underlying t=G_ (.pointer e)):(Op.equalIn (d+1) t (.pointer a) (.pointer H_)).run P w= .ok a.isNone w:=by
 cases a<;>simp only[Op.equalIn,cR,jr h,cK,cP,eA]
variable{y1:Nat}
def ahY{n' c':Nat}(d:Nat)(h:P.underlying t=G_ (.slice e)):(Op.equalIn (d+1) t (.slice a g y1) (.slice H_ n' c')).run P w= .ok a.isNone w:=by
 cases a<;>simp only[Op.equalIn,cR,jr h,cK,cP,eA]
variable{y2:Option Nat}
def aon(d:Nat)(h:P.underlying t=G_ (.map e yt)):(Op.equalIn (d+1) t (.map y2) (.map H_)).run P w= .ok y2.isNone w:=by
 cases y2<;>simp only[Op.equalIn,cR,jr h,cK,cP,eA]
variable{x y:M_}
def aa5
  (d:∀(op:BinOp),op= .eql->binOp op t x y=(do pure (.bool (<-Op.equal t x y)))) (a:∀(op:BinOp),op= .neq->binOp op t x y=(do pure (.bool (!(<-Op.equal t x y)))))
  (c:(Op.equal t x y).run P w= .ok b w) (h:Qt op b=G_ v):(binOp op t x y).run P w= .ok v w:=by
 cases op<;>simp only[Qt,G_.injEq,reduceCtorEq]at h<;>subst h
 .rw[d _ rfl];simp[c]
 .rw[a _ rfl];simp[c]
def akq(i:∀k m k' n,x= .int k m->y= .int k' n->(n≠0\/(op≠ .quo/\op≠ .rem))/\(0<=n\/(op≠ .shl/\op≠ .shr)))
  (h:afQ P op t x y=G_ v):(binOp op t x y).run P w= .ok v w/\(∀c,x≠ .agg c)/\x≠ .nilIface:=by
 unfold afQ at h;split at h
 .split at h
  .rename_i k m k' n;obtain⟨j,h2⟩:=i _ _ _ _ rfl rfl;refine⟨?_,λc=>by simp,bf⟩
   split at h
   .cases h;exact(MU (by rcases h2 with h|h<;>simp_all)).1 rfl
   .cases h;exact(MU (by rcases h2 with h|h<;>simp_all)).2 rfl
   .split at h
    .rename_i f;exact abx f j h
    .cases h
  .cases h
 .rename_i f;obtain⟨d,g,rfl⟩:=vS f bf;split at h
  .rename_i a b;refine⟨aa5 (λop e=>by subst e;rfl) (λop e=>by subst e;rfl) (akp 9999 g) h,λc=>by simp,bf⟩
  .cases h
 .rename_i f;split at h
  .rename_i a b;refine⟨?_,λc=>by simp,bf⟩
   cases op<;>simp only[amE,Wm,G_.injEq,reduceCtorEq]at h<;>subst h<;>simp[binOp,Op.stringOp]
  .cases h
 .rename_i f;obtain⟨d,g,e,rfl⟩:=vS f bf;split at h
  .rename_i a;refine⟨aa5 (λop e=>by subst e;rfl) (λop e=>by subst e;rfl) (aom 9999 g) h,λc=>by simp,bf⟩
  .cases h
 .rename_i f;obtain⟨d,g,e,rfl⟩:=vS f bf;split at h
  .rename_i a _ _ _ _;refine⟨aa5 (λop e=>by subst e;rfl) (λop e=>by subst e;rfl) (ahY 9999 g) h,λc=>by simp,bf⟩
  .cases h
 .rename_i f;obtain⟨d,g,e,e',rfl⟩:=vS f bf;split at h
  .rename_i a;refine⟨aa5 (λop e=>by subst e;rfl) (λop e=>by subst e;rfl) (aon 9999 g) h,λc=>by simp,bf⟩
  .cases h
 .cases h
def aoo{op:UnOp}(h:aqX op x=G_ v):(Op.unary op x).run P w= .ok v w:=by
 unfold aqX at h;split at h<;>(first|cases h|skip)<;>simp[Op.unary,Op.intArith,Op.intBits,JV]
variable{a:Act}
variable{y3:Operand}
def awL(b:a.eval y3= .int k n):(amB y3=K_->n≠0)/\(aa1 y3=K_->0<=n):=by
 constructor<;>intro h<;>(first|unfold amB at h|unfold aa1 at h)<;>split at h<;>simp_all[Act.eval]
variable{ts:Array Q_}
def Uy{b:Builtin}{args:Array Operand}(c:o.op= .call {callee:= .builtin b,args,argTypes:=ts}):
  ∃cs,(execOp a.eval o).run P w=(builtin b ts o.type cs (args.map a.eval)).run P w:=by
 simp only[execOp,c,resolve,cR,cP,cK,invoke];exact⟨_,rfl⟩
theorem aby{k:K}(h:amD P ts=k)(a:k≠ .raw):∃t,ts[0]?=G_ t/\rX P t=k:=by
 unfold amD at h;grind
def aAD(h:rX P t= .s):∃e,P.underlying t=G_ (.slice e):=by
 obtain⟨d,a,e,rfl⟩:=vS h bf;exact⟨e,a⟩
def aqZ(h:rX P t= .str):P.underlying t=G_ .string:=by
 obtain⟨d,a,rfl⟩:=vS h bf;exact a
def amL(h:rX P t= .i k):P.underlying t=G_ (.int k):=by
 obtain⟨d,a,rfl⟩:=vS h bf;exact a
def QA(hρ:uV ρ a)(l:Cf P o.op=J_)(h:aa2 P o.op ρ=G_ v)(w:N_):
  (execOp a.eval o).run P w= .ok (.value v) w:=by
 unfold aa2 at h;split at h
 iterate 2 rename_i x f;simp only[execOp,f,hρ _ _ h,cP]
 .rename_i x i f;split at h
  .rename_i vs g;have h':vs[i]?=G_ v:=by simpa using h
   simp only[execOp,f,hρ _ _ g,Instr.extract,h',cR,cP,cK]
  .cases h
 .rename_i fn first captured f
  split at h
  .rename_i xs ys g C;cases h
   simp only[execOp,f,Instr.makeFunc,tR hρ g,tR hρ C,cR,cP,cK]
  .cases h
 .rename_i op t x y yt f;split at h
  .rename_i F H g C;have p:=hρ _ _ g;have u:=hρ _ _ C;have D:∀k m k' n,F= .int k m->H= .int k' n->(n≠0\/(op≠ .quo/\op≠ .rem))/\(0<=n\/(op≠ .shl/\op≠ .shr)):=by
    intro k m k' n I e2;subst I;subst e2;have r:=awL u;unfold afQ at h;split at h
    .rename_i kk j;rw[f]at l;simp only[Cf,j,ahU]at l;cases op<;>simp_all[ahT]
    iterate 6 simp at h
   have:=akq (w:=w) D h;exact Qz f (by rw[p];exact this.2.1) (by rw[p];exact this.2.2) (by rw[p,u];exact this.1)
  .cases h
 .rename_i op t x f;split at h
  .rename_i F g;have:=aoo (P:=P) (w:=w) h;simp only[execOp,f,hρ _ _ g,this,cR,cP,cK]
  .cases h
 .rename_i s d x f;split at h
  .rename_i kk n k g j;cases h
   rw[f]at l;simp only[Cf,iY]at l;cases hs:rX P s<;>simp[hs,isI]at l
   simp only[execOp,f,hρ _ _ g,convert,cR,jr (amL hs),jr (amL j),cK,Conv.intToInt,cP]
  .cases h
 .rename_i G f;split at h
  .rename_i b z;have J:o.op= .call {callee:= .builtin b,args:=G.args,argTypes:=G.argTypes}:=by rw[f,<-z]
   obtain⟨cs,K⟩:=Uy J;rw[K];rw[f]at l;simp only[Cf,z]at l;unfold evB at h;split at h
   .rename_i base n c j r;obtain⟨t,A,q⟩:=aby j bf;obtain⟨e,B⟩:=aAD q;rw[tR hρ r];split at h
    .rename_i hb;cases b<;>simp only[isLen,h_]at hb
     cases h
     simp[builtin,Builtin.len_,A,jr B,goInt]
    .split at h
     .rename_i hb;cases b<;>simp only[akj,h_]at hb
      cases h
      simp[builtin,Builtin.cap_,A,jr B,goInt]
     .cases h
   .rename_i s j r;obtain⟨t,A,q⟩:=aby j bf;have B:=aqZ q;rw[tR hρ r];split at h
    .rename_i hb;cases b<;>simp only[isLen,h_]at hb
     cases h
     simp[builtin,Builtin.len_,A,jr B,goInt]
    .cases h
   .rename_i kk k x L y j r;rw[tR hρ r];cases b<;>simp only[G_.injEq,reduceCtorEq]at h<;>subst h
    .simp[builtin,Builtin.max_,Builtin.max2,ZR]
    .simp[builtin,Builtin.min_,Builtin.min2,Wg]
   .cases h
  .cases h
 .cases h
variable{i:TypeInfo}
def run_sizeOf(h:P.info? t=G_ i):(sizeOf t).run P w= .ok i.size w:=by
 simp[sizeOf,typeInfo,h]
theorem abz(h:iB P t≠0):∃i,P.info? t=G_ i/\i.size=iB P t:=by
 unfold iB at*
 grind
def abA(h:P.info? t=G_ i):iB P t=i.size:=by simp[iB,h]
def abB(a:rX P t= .ag):(isAgg t).run P w= .ok J_ w:=by
 obtain⟨d,b,h⟩:=vS a bf;unfold isAgg;rcases h with⟨fs,rfl⟩|⟨n,e,rfl⟩<;>simp only[cR,jr b,cK,cP]
def Yr(a:P.underlying t=G_ d)(b:rX P t≠ .ag):(isAgg t).run P w= .ok K_ w:=by
 unfold isAgg;simp only[cR,jr a,cK];cases d<;>first|rfl|(exact absurd (by simp[rX,a]) b)
def uq(hs:iB P t≠0)(w:N_):(sizeOf t).run P w= .ok (iB P t) w:=by
 obtain⟨i,hi,a⟩:=abz hs;rw[run_sizeOf hi,a]
def vT{c:BoundsCode}(h:0<=m/\m<=g):(Instr.sliceBound (.int k m) g c).run P w= .ok m.toNat w:=by
 simp[Instr.sliceBound,asIntOf,h.1,h.2]
variable{cap:Nat}{h l:Int}{hi lo:M_}{kh kl:O_}
def U5(a:lo= .int kl l)(c:hi= .int kh h)(d:0<=h/\h<=cap)(h2:0<=l/\l<=h):
  (Instr.sliceBounds b g cap (G_ lo) (G_ hi) H_).run P w= .ok (l.toNat,h.toNat,cap) w:=by
 subst a;subst c;have e:0<=l/\l<=(h.toNat:Int):=af;simp only[Instr.sliceBounds,cR,cP,cK,vT d,vT e]
def Ys(a:hi= .int kh h)(c:0<=h/\h<=cap):
  (Instr.sliceBounds b g cap H_ (G_ hi) H_).run P w= .ok (0,h.toNat,cap) w:=by
 subst a;simp only[Instr.sliceBounds,cR,cP,cK,vT c]
def Yt(a:lo= .int kl l)(h2:0<=l/\l<=g):
  (Instr.sliceBounds b g cap (G_ lo) H_ H_).run P w= .ok (l.toNat,g,cap) w:=by
 subst a;simp only[Instr.sliceBounds,cR,cP,cK,vT h2]
def MV:(Instr.sliceBounds b g cap H_ H_ H_).run P w= .ok (0,g,cap) w:=by
 simp only[Instr.sliceBounds,cR,cP,cK]
variable{km:O_}{mx:M_}
def ahZ(a:lo= .int kl l)(c:hi= .int kh h)(d:mx= .int km m)
  (e:0<=m/\m<=cap) (i:0<=h/\h<=m) (h2:0<=l/\l<=h):
  (Instr.sliceBounds b y1 cap (G_ lo) (G_ hi) (G_ mx)).run P w= .ok (l.toNat,h.toNat,m.toNat) w:=by
 subst a;subst c;subst d;have f:0<=l/\l<=(h.toNat:Int):=af;have g:0<=h/\h<=(m.toNat:Int):=af;simp only[Instr.sliceBounds,cR,cP,cK,vT e,vT g,vT f]
def akr(a:hi= .int kh h)(c:mx= .int km m)
  (d:0<=m/\m<=cap) (f:0<=h/\h<=m):
  (Instr.sliceBounds b g cap H_ (G_ hi) (G_ mx)).run P w= .ok (0,h.toNat,m.toNat) w:=by
 subst a;subst c;have e:0<=h/\h<=(m.toNat:Int):=af;simp only[Instr.sliceBounds,cR,cP,cK,vT d,vT e]
variable{h l m:Nat}{hi lo mx:Option M_}
variable{yi:Option P_}
def xM(b:P.underlying t=G_ (.slice e))(hs:iB P e≠0)
  (hb:(Instr.sliceBounds J_ g cap lo hi mx).run P w= .ok (l,h,m) w):
  (Instr.sliceAt t (.slice yi g cap) lo hi mx).run P w= .ok (.slice (if m=l then yi else yi.map (·.add (l*iB P e))) (h - l) (m - l)) w:=by
 simp only[Instr.sliceAt,Instr.slice,cR,jr b,cK,hb,uq hs,cP]
variable{n:Nat}
variable{yk:P_}
def DF(b:P.underlying t=G_ (.array n e))(hs:iB P e≠0)
  (hb:(Instr.sliceBounds K_ n n lo hi mx).run P w= .ok (l,h,m) w):
  (Instr.sliceAt t (.pointer (G_ yk)) lo hi mx).run P w= .ok (.slice (G_ (if m=l then yk else yk.add (l*iB P e))) (h - l) (m - l)) w:=by
 simp only[Instr.sliceAt,cR,jr b,cK,Instr.sureAddr,hb,uq hs,cP]
def DG{s:ByteArray}(a:P.underlying t=G_ .string)
  (hb:(Instr.sliceBounds K_ s.size s.size lo hi H_).run P w= .ok (l,h,m) w):
  (Instr.sliceAt t (.string s) lo hi H_).run P w= .ok (.string (s.extract l h)) w:=by
 simp only[Instr.sliceAt,Instr.slice,cR,jr a,cK,hb,cP,Option.isSome_none,h_,if_false]
variable{hi lo mx:Option Operand}{x:Operand}
def zv(b:o.op= .slice t x lo hi mx)
  (h:(Instr.sliceAt t (a.eval x) (lo.map a.eval) (hi.map a.eval) (mx.map a.eval)).run P w= .ok v w):(execOp a.eval o).run P w= .ok (.value v) w:=by
 simp only[execOp,b,cR,h,cK,cP]
theorem afZ(hρ:uV ρ a)(r:o.op= .slice t x lo hi mx)
  (h:tu P (.slice t x lo hi mx) ρ zt):∃v,zt v/\∀w,(execOp a.eval o).run P w= .ok (.value v) w:=by
 unfold tu at h;dsimp only at h;split at h
 .rename_i base n k e kl l z g b;have f:=hρ _ _ z;split at h
  .exact h.elim
  rename_i hs;split at h
  .obtain⟨u,i⟩:=h;refine⟨_,i,λw=>zv r ?_⟩;rw[f];cases lo with
   |none=>
    simp only[G_.injEq,Value.int.injEq]at b;obtain⟨_,rfl⟩:=b;exact xM g hs MV
   |some y=>exact xM g hs (Yt (hρ _ _ b) u)
  .rename_i B;split at h
   .rename_i kh hv d;obtain⟨j,h2,i⟩:=h;refine⟨_,i,λw=>zv r ?_⟩;rw[f];cases lo with
    |none=>
     simp only[G_.injEq,Value.int.injEq]at b;obtain⟨_,rfl⟩:=b;exact xM g hs (Ys (hρ _ _ d) j)
    |some y=>exact xM g hs (U5 (hρ _ _ b) (hρ _ _ d) j h2)
   .exact h.elim
  .rename_i D B;split at h
   .rename_i kh hv km F d A;obtain⟨C,j,h2,i⟩:=h;refine⟨_,i,λw=>zv r ?_⟩;rw[f];cases lo with
    |none=>
     simp only[G_.injEq,Value.int.injEq]at b;obtain⟨_,rfl⟩:=b;exact xM g hs (akr (hρ _ _ d) (hρ _ _ A) C j)
    |some y=>exact xM g hs (ahZ (hρ _ _ b) (hρ _ _ d) (hρ _ _ A) C j h2)
   .exact h.elim
  .exact h.elim
 .rename_i s kl l z g b;have f:=hρ _ _ z;split at h
  .obtain⟨j,h2,i⟩:=h;rw[iZ]at i;refine⟨_,i,λw=>zv r ?_⟩;rw[f];cases lo with
   |none=>
    simp only[G_.injEq,Value.int.injEq]at b;obtain⟨_,rfl⟩:=b;exact DG g MV
   |some y=>exact DG g (Yt (hρ _ _ b) h2)
  .rename_i B;split at h
   .rename_i kh hv d;obtain⟨j,h2,i⟩:=h;refine⟨_,i,λw=>zv r ?_⟩;rw[f];cases lo with
    |none=>
     simp only[G_.injEq,Value.int.injEq]at b;obtain⟨_,rfl⟩:=b;exact DG g (Ys (hρ _ _ d) j)
    |some y=>exact DG g (U5 (hρ _ _ b) (hρ _ _ d) j h2)
   .exact h.elim
  .exact h.elim
 .rename_i p n e kl l z g b;have f:=hρ _ _ z;have q:∀(m l sz:Nat),(if m=l then G_ p else(G_ p:Option P_).map (·.add (l*sz)))=G_ (if m=l then p else p.add (l*sz)):=by grind
  split at h
  .exact h.elim
  rename_i hs;split at h
  .obtain⟨u,i⟩:=h;rw[q]at i;refine⟨_,i,λw=>zv r ?_⟩;rw[f];cases lo with
   |none=>
    simp only[G_.injEq,Value.int.injEq]at b;obtain⟨_,rfl⟩:=b;exact DF g hs MV
   |some y=>exact DF g hs (Yt (hρ _ _ b) u)
  .rename_i B;split at h
   .rename_i kh hv d;obtain⟨j,h2,i⟩:=h;rw[q]at i;refine⟨_,i,λw=>zv r ?_⟩;rw[f];cases lo with
    |none=>
     simp only[G_.injEq,Value.int.injEq]at b;obtain⟨_,rfl⟩:=b;exact DF g hs (Ys (hρ _ _ d) j)
    |some y=>exact DF g hs (U5 (hρ _ _ b) (hρ _ _ d) j h2)
   .exact h.elim
  .exact h.elim
 .exact h.elim
variable{cs:Array M_}
def Dd(a:P.underlying t=G_ d)(b:rX P t≠ .ag)(h:cs[g]?=G_ v):(part t cs g).run P w= .ok v w:=by
 simp only[part,cR,Yr a b,cK,h_,if_false,h,cP]
def MW(a:rX P t= .ag)(hs:iB P t≠0):(part t cs g).run P w= .ok (.agg (cs.extract g (g+iB P t))) w:=by
 simp only[part,cR,abB a,cK,if_true,uq hs,cP]
def tW(h:rX P t≠ .raw):∃d,P.underlying t=G_ d:=by
 obtain⟨d,a,_⟩:=vS rfl h;exact⟨d,a⟩
theorem ah0(h:Qq cs g zt):∃v,cs[g]?=G_ v/\zt v:=by
 unfold Qq at h;grind
def af0{f:Nat}(hρ:uV ρ a)(i:o.op= .field t x f)
  (h:tu P (.field t x f) ρ zt):∃v,zt v/\∀w,(execOp a.eval o).run P w= .ok (.value v) w:=by
 unfold tu at h;dsimp only at h;split at h
 .rename_i cs g j b;have e:=hρ _ _ j;unfold Wl at b;split at b
  .rename_i fs l;have key:∀v,(∀w,(part g.type cs g.offset).run P w= .ok v w)->∀w,(execOp a.eval o).run P w= .ok (.value v) w:=by
    intro v hv w;simp only[execOp,i,Instr.field,cR,jr l,cK,b,e,asAgg,cP,hv]
   split at h
   .rename_i m;split at h
    .exact h.elim
    .rename_i hs;exact⟨_,h,key _ λw=>MW m hs⟩
   .exact h.elim
   .rename_i k n p;obtain⟨v,hv,q⟩:=ah0 h;obtain⟨d,r⟩:=tW p;exact⟨v,SR q,key _ λw=>Dd r n hv⟩
  .cases b
 .exact h.elim
def Yu{f:Nat}(hρ:uV ρ a)(e:o.op= .fieldAddr t x f)
  (h:tu P (.fieldAddr t x f) ρ zt):∃v,zt v/\∀w,(execOp a.eval o).run P w= .ok (.value v) w:=by
 unfold tu at h;dsimp only at h;split at h
 .rename_i p j g b;have d:=hρ _ _ g;unfold Wl at b;split at b
  .rename_i fs i;split at h
   .exact h.elim
   .rename_i hs;refine⟨_,h,λw=>?_⟩;simp only[execOp,e,Instr.fieldAt,cR,jr i,cK,b,d,Instr.sureAddr,cP,fieldPlace,uq hs,hs,if_false]
  .cases b
 .exact h.elim
variable{i:Operand}
def Yv(hρ:uV ρ a)(l:o.op= .indexAddr t x i)
  (h:tu P (.indexAddr t x i) ρ zt):∃v,zt v/\∀w,(execOp a.eval o).run P w= .ok (.value v) w:=by
 unfold tu at h;dsimp only at h;split at h
 .rename_i base n k u m e q hi f;have d:=hρ _ _ q;have b:=hρ _ _ hi;split at h
  .exact h.elim
  rename_i hs;unfold cN at h;cases base with
  |none=>exact h.elim
  |some p=>
   obtain⟨hb,r⟩:=h;refine⟨_,r,λw=>?_⟩;simp only[execOp,l,Instr.indexAt,d,b,asIntOf,cR,cP,cK,jr f,hb,and_self,if_true,uq hs]
 .rename_i p u m n e q hi f;have d:=hρ _ _ q;have b:=hρ _ _ hi;split at h
  .exact h.elim
  rename_i hs;split at h
  .rename_i j g;split at h
   .rename_i y;have s:m=(j:Int):=by
     unfold amC at g;split at g
     .cases g
      have:Value.int u m=_:=b.symm;cases this
      rfl
     .cases g
    subst s;refine⟨_,h,λw=>?_⟩;have hb:0<=(j:Int)/\(j:Int)<n:=af;simp only[execOp,l,Instr.indexAt,d,b,asIntOf,cR,cP,cK,jr f,hb,and_self,if_true,uq hs,Instr.sureAddr,iZ]
   .exact h.elim
  .obtain⟨hb,r⟩:=h;refine⟨_,r,λw=>?_⟩;simp only[execOp,l,Instr.indexAt,d,b,asIntOf,cR,cP,cK,jr f,hb,and_self,if_true,uq hs,Instr.sureAddr]
 .exact h.elim
def af1(hρ:uV ρ a)(m:o.op= .index t x i)
  (h:tu P (.index t x i) ρ zt):∃v,zt v/\∀w,(execOp a.eval o).run P w= .ok (.value v) w:=by
 unfold tu at h;dsimp only at h;split at h
 .rename_i cs p q n e j hi l;have f:=hρ _ _ j;have g:=hρ _ _ hi;split at h
  iterate 2 exact h.elim
  .rename_i k r u;split at h
   .rename_i hs;obtain⟨hb,h⟩:=h;obtain⟨v,hv,y⟩:=ah0 h;obtain⟨d,z⟩:=tW u;refine⟨v,SR y,λw=>?_⟩;simp only[execOp,m,Instr.index,f,g,asIntOf,cR,cP,cK,jr l,hb,and_self,if_true,uq (by rw[hs];simp:iB P e≠0),hs,F4,Dd z r hv]
   .exact h.elim
 .rename_i s p q j hi l;have f:=hρ _ _ j;have g:=hρ _ _ hi;obtain⟨A,h⟩:=h;split at h
  .rename_i b hb;refine⟨_,h,λw=>?_⟩;simp only[execOp,m,Instr.index,f,g,asIntOf,cR,cP,cK,jr l,A,if_true,hb]
  .exact h.elim
 .exact h.elim
def akt(hρ:uV ρ a)(d:o.op= .nilCheck x)
  (h:tu P (.nilCheck x) ρ zt):∃v,zt v/\∀w,(execOp a.eval o).run P w= .ok (.value v) w:=by
 unfold tu at h;dsimp only at h;split at h
 .rename_i v e;have b:=hρ _ _ e;unfold nnV at h;split at h
  .rename_i p;unfold nn at h;cases p with
   |none=>exact h.elim
   |some p=>exact⟨_,h,λw=>by simp only[execOp,d,b,cP]⟩
  .exact⟨_,h,λw=>by simp only[execOp,d,b,cP]⟩
  .exact h.elim
 .exact h.elim
def af2(hρ:uV ρ a)(f:o.op= .makeInterface t x)
  (h:tu P (.makeInterface t x) ρ zt):∃v,zt v/\∀w,(execOp a.eval o).run P w= .ok (.value v) w:=by
 unfold tu at h;dsimp only at h;split at h
 .exact h.elim
 .rename_i b;split at h
  .rename_i v g;obtain⟨d,e⟩:=tW b;refine⟨_,h,λw=>?_⟩;simp only[execOp,f,hρ _ _ g,Instr.makeInterface,cR,jr e,cK];cases d<;>first|rfl|(exact absurd (by simp[rX,e]) b)
  .exact h.elim
def IT{xs ys:Array M_}:∀{m l:List (Nat×Nat)} {r:Bool},oZ xs ys (m++l)=G_ r->∃c d,oZ xs ys m=G_ c/\oZ xs ys l=G_ d/\r=(c&&d)
 |[],l,r,h=>⟨J_,r,rfl,h,bf⟩
 |(o,k)::m,l,r,h=>by
  rw[List.cons_append,oZ]at h;split at h
  .rename_i a b f hb;split at h
   .rename_i q i hq e;cases h
    obtain⟨c,d,g,h2,rfl⟩:=IT e;exact⟨q&&c,d,by simp[oZ,f,hb,hq,g],h2,by simp[Bool.and_assoc]⟩
   .cases h
  .cases h
theorem OQ{xs ys:Array M_}{off sz:Nat}:∀{m:List (Nat×Nat)} {r:Bool},m.all (λx=>DQ x.1 sz)=J_->oZ xs ys (m.map λx=>(x.1+off,x.2))=G_ r->
  oZ (xs.extract off (off+sz)) (ys.extract off (off+sz)) m=G_ r
 |[],r,_,h=>h
 |(o,k)::m,r,hm,h=>by
  simp only[l_,iY]at hm;have f:o<sz:=by simp_all
  simp only[z_,oZ]at h ⊢;split at h
  .rename_i a b g hb;have c:(xs.extract off (off+sz))[o]?=G_ a:=by
    grind
   have d:(ys.extract off (off+sz))[o]?=G_ b:=by grind
   simp only[c,d];split at h
   .rename_i q i hq e;cases h
    simp[hq,OQ hm.2 e]
   .cases h
  .cases h
def Go.Op.IG(d:Nat)(e:Q_)(n:Nat)(xs ys:Array M_):Nat->Nat->Sem Bool
 |_,0=>pure J_
 |i,k+1=>do
  let a<-part e xs (i*n)
  let b<-part e ys (i*n)
  let r<-Op.equalIn d e a b
  if (!r)=J_ then pure K_ else Go.Op.IG d e n xs ys (i+1) k
def run_equalIn_array(w:N_)(d:Nat)(t e:Q_)(len:Nat)(xs ys:Array M_)(c:P.underlying t=G_ (.array len e)){i:TypeInfo}(hi:P.info? e=G_ i):
  (Op.equalIn (d+1) t (.agg xs) (.agg ys)).run P w=(Go.Op.IG d e i.size xs ys 0 len).run P w:=by
 simp only[Op.equalIn,cR,run_underlying c,cK,run_sizeOf hi];rw[Std.Legacy.Range.forIn_eq_forIn_range'];simp only[Std.Legacy.Range.size,Nat.sub_zero,Nat.add_sub_cancel,Nat.div_one];clear c;generalize 0=s;induction len generalizing s w with
 |zero=>simp[Go.Op.IG]
 |succ len ih=>
  simp only[List.range'_succ,List.forIn_cons,Go.Op.IG,cR,Sem.run_ite];generalize (part e xs (s*i.size)).run P w=r1;cases r1 with
  |ok a w1=>
   simp only[cK];generalize (part e ys (s*i.size)).run P w1=r2;cases r2 with
   |ok b w2=>
    simp only[cK];generalize (Op.equalIn d e a b).run P w2=f;cases f with
    |ok r w3=>
     cases r
     .simp only[cK,j_,if_true,cP]
     .simp only[cK,Bool.not_true,h_,if_false,cP];exact ih w3 (s+1)
    |halt x w3=>simp[Result.andThen]
   |halt x w2=>simp[Result.andThen]
  |halt x w1=>simp[Result.andThen]
def af3(P:R_)(D:Nat)(t:Q_)(m:List (Nat×Nat)):Prop:=
 ∀(w:N_) (xs ys:Array M_) (off:Nat) (r:Bool),m.all (λx=>DQ x.1 (iB P t))=J_->oZ xs ys (m.map λx=>(x.1+off,x.2))=G_ r->
  ∃vx vy,(part t xs off).run P w= .ok vx w/\(part t ys off).run P w= .ok vy w/\(Op.equalIn D t vx vy).run P w= .ok r w
def Uz{P:R_}{D:Nat}{rec:Q_->Option (List (Nat×Nat))}(Ka:∀t m,rec t=G_ m->af3 P D t m):
  ∀(fs:List Field) (os:List (Nat×Nat)) (w:N_) (xs ys:Array M_) (r:Bool),Qr P rec fs=G_ os->oZ xs ys os=G_ r->(Op.eqFields D xs ys fs).run P w= .ok r w
 |[],os,w,xs,ys,r,h,he=>by
  simp only[Qr,G_.injEq]at h;subst h;simp only[oZ,G_.injEq]at he;subst he;rfl
 |f::fs,os,w,xs,ys,r,h,he=>by
  unfold Qr at h;split at h
  .cases h
  .rename_i hn;have hn':f.name≠ "_" :=by simpa using hn
   split at h
   .rename_i m l hm hl;split at h
    .rename_i lG;cases h
     obtain⟨r1,r2,h1,h2,rfl⟩:=IT he;obtain⟨vx,vy,hx,hy,hq⟩:=Ka _ _ hm w xs ys f.offset r1 lG h1;have ih:=Uz Ka fs l w xs ys r2 hl h2;unfold Op.eqFields;rw[HK hn'];simp only[Sem.run_bind,hx,hy,hq,Result.andThen_ok,Sem.run_ite,ih,Sem.run_pure];cases r1<;>simp
    .cases h
   .cases h
def WB{P:R_}{D:Nat}{e:Q_}{m:List (Nat×Nat)}(a:af3 P D e m)(b:m.all (λx=>DQ x.1 (iB P e))=J_):
  ∀(n s:Nat) (w:N_) (xs ys:Array M_) (r:Bool),oZ xs ys (Qs (iB P e) m s n)=G_ r->(Go.Op.IG D e (iB P e) xs ys s n).run P w= .ok r w
 |0,s,w,xs,ys,r,he=>by
  simp only[Qs,oZ,G_.injEq]at he;subst he;rfl
 |n+1,s,w,xs,ys,r,he=>by
  unfold Qs at he;obtain⟨c,d,f,h2,rfl⟩:=IT he;obtain⟨k,l,g,i,hq⟩:=a w xs ys (s*iB P e) c b f;have j:=WB a b n (s+1) w xs ys d h2;unfold Go.Op.IG;simp only[cR,g,i,hq,cK,Sem.run_ite,j,cP];cases c<;>simp
def WC{fs:Array Field}(h:P.underlying t=G_ (.struct fs)):P.fieldsOf t=fs:=by simp[Program.fieldsOf,h]
theorem af4{P:R_}:∀(d:Nat) (t:Q_) (m:List (Nat×Nat)),Gk P d t=G_ m->∀D,d<=D->
  af3 P D t m/\(rX P t= .ag->∀(w:N_) (xs ys:Array M_) (r:Bool),oZ xs ys m=G_ r->(Op.equalIn D t (.agg xs) (.agg ys)).run P w= .ok r w)
 |0,t,m,h,_,_=>by simp[Gk]at h
 |d+1,t,m,h,D,hD=>by
  obtain⟨D,rfl⟩:∃u,D=u+1:=⟨D - 1,af⟩;have j:rX P t= .ag->∀(w:N_) (xs ys:Array M_) (r:Bool),oZ xs ys m=G_ r->(Op.equalIn (D+1) t (.agg xs) (.agg ys)).run P w= .ok r w:=by
   intro g w xs ys r f;unfold Gk at h;split at h
   iterate 3 rename_i c;simp[rX,c]at g
   .rename_i fs c;split at h
    .cases h
    split at h
    .cases h
    .rename_i hs;have v:P.underlying t=G_ (.struct (P.fieldsOf t)):=by rw[WC c];exact c
     rw[run_equalIn_struct w D t xs ys v (gq hs),WC c]
     exact Uz (λt m o=>(af4 d t m o D af).1) _ _ w xs ys r h f
   .rename_i n e c;split at h
    .cases h
    split at h
    .cases h
    rename_i z;split at h
    .rename_i A o;split at h
     .rename_i p;cases h
      obtain⟨i,hi,q⟩:=abz z;rw[run_equalIn_array w D t e n xs ys c hi,q];exact WB (af4 d e A o D af).1 p n 0 w xs ys r f
     .cases h
    .cases h
   .cases h
  refine⟨?_,j⟩;intro w xs ys off r p f;by_cases g:rX P t= .ag
  .have hs:iB P t≠0:=by
    unfold Gk at h;split at h
    iterate 3 rename_i c;simp[rX,c]at g
    iterate 2 grind
    .cases h
   exact⟨_,_,MW g hs,MW g hs,j g w _ _ r (OQ p f)⟩
  .unfold Gk at h;split at h
   .rename_i kk c;cases h
    simp only[z_,A',oZ,FM]at f;split at f
    .rename_i a b k hb;refine⟨a,b,Dd c g k,Dd c g hb,?_⟩;unfold eqC at f;cases a<;>cases b<;>simp at f
     rename_i s x k2 y;by_cases l:s=k2
     .subst l;simp at f;subst f;exact run_equalIn_int w D t s kk x y c
     .simp[l]at f
    .cases f
   .rename_i c;cases h
    simp only[z_,A',oZ,FM]at f;split at f
    .rename_i a b k hb;refine⟨a,b,Dd c g k,Dd c g hb,?_⟩;unfold eqC at f;cases a<;>cases b<;>simp at f
     subst f;exact run_equalIn_bool' w D t _ _ c
    .cases f
   .rename_i c;cases h
    simp only[z_,A',oZ,FM]at f;split at f
    .rename_i a b k hb;refine⟨a,b,Dd c g k,Dd c g hb,?_⟩;unfold eqC at f;cases a<;>cases b<;>simp at f
     subst f;exact run_equalIn_string w D t _ _ c
    .cases f
   iterate 2 rename_i c;exact absurd (by simp[rX,c]) g
   .cases h
variable{t1:Q_}{v1:M_}
def UA{ms}(a:P.underlying t=G_ (.interface ms)):(Op.equal t (.iface t1 v1) .nilIface).run P w= .ok K_ w:=by
 have key:∀d,(Op.equalIn (d+1) t (.iface t1 v1) .nilIface).run P w= .ok K_ w:=λd=>by simp[Op.equalIn,run_underlying a]
 exact key 9999
def UB{ms}(a:P.underlying t=G_ (.interface ms)):(Op.equal t .nilIface .nilIface).run P w= .ok J_ w:=by
 have key:∀d,(Op.equalIn (d+1) t .nilIface .nilIface).run P w= .ok J_ w:=λd=>by simp[Op.equalIn,run_underlying a]
 exact key 9999
variable{y:Operand}
def OR:(eqGuard op t x y (.iface t1 v1) .nilIface).run P w= .ok () w:=by
 unfold eqGuard;split<;>rfl
theorem OS(a:afN y=J_):(eqGuard op t x y .nilIface .nilIface).run P w= .ok () w:=by
 have:y= .const .nilIface:=by
  unfold afN at a;grind
 subst this;unfold eqGuard;split<;>simp
def adT{ps rs v}(a:P.underlying t=G_ (.func ps rs v)):(Op.equal t C_ C_).run P w= .ok J_ w:=by
 have key:∀d,(Op.equalIn (d+1) t C_ C_).run P w= .ok J_ w:=λd=>by simp[Op.equalIn,run_underlying a]
 exact key 9999
variable{yr:Array M_}
def adU{f:Fn}{ps rs v}(a:P.underlying t=G_ (.func ps rs v)):(Op.equal t (.func f cs yr) C_).run P w= .ok K_ w:=by
 have key:∀d,(Op.equalIn (d+1) t (.func f cs yr) C_).run P w= .ok K_ w:=λd=>by simp[Op.equalIn,run_underlying a]
 exact key 9999
def ah1(hρ:uV ρ a)(i:o.op= .binOp op t x y yt)(f:afO y=J_)
  (h:afR P op t (ρ x) zt):∃v,zt v/\∀w,(execOp a.eval o).run P w= .ok (.value v) w:=by
 have e:a.eval y=C_:=by
  unfold afO at f;split at f
  .rfl
  .cases f
 unfold afR at h;cases hx:ρ x with
 |none=>rw[hx]at h;exact h.elim
 |some v=>
  have d:=hρ _ _ hx;rw[hx]at h;dsimp only at h;split at h
  .rename_i j;have key:∀b,(∀w,(Op.equal t v C_).run P w= .ok b w)->IS (Qt op b) zt->v≠ .nilIface->(∀z,v≠ .agg z)->∃v,zt v/\∀w,(execOp a.eval o).run P w= .ok (.value v) w:=by
    intro b hb g k h2;cases op with
    |eql=>exact⟨_,g,λw=>Qz i (by rw[d];exact h2) (by rw[d];exact k) (by rw[d,e];simp only[binOp,cR,hb,cK,cP])⟩
    |neq=>exact⟨_,g,λw=>Qz i (by rw[d];exact h2) (by rw[d];exact k) (by rw[d,e];simp only[binOp,cR,hb,cK,cP])⟩
    |_=>exact g.elim
   unfold abm at h;split at h
   .exact key J_ (λw=>adT j) h bf bf
   .exact key K_ (λw=>adU j) h bf bf
   .exact h.elim
  .exact h.elim
def ah2(hρ:uV ρ a)(i:o.op= .binOp op t x y yt)
  (h:tu P (.binOp op t x y yt) ρ zt):∃v,zt v/\∀w,(execOp a.eval o).run P w= .ok (.value v) w:=by
 unfold tu at h;dsimp only at h;split at h
 .exact ah1 hρ i (by assumption) h
 split at h
 .rename_i k m k' n f g;have d:=hρ _ _ f;have e:=hρ _ _ g;have key:∀v,(∀w,(binOp op t (.int k m) (.int k' n)).run P w= .ok v w)->∀w,(execOp a.eval o).run P w= .ok (.value v) w:=by
   intro v hv w;exact Qz i (by rw[d];intro zt;simp) (by rw[d];simp) (by rw[d,e];exact hv w)
  split at h
  .obtain⟨j,h⟩:=h;exact⟨_,h,key _ λw=>(MU j).1 rfl⟩
  .obtain⟨j,h⟩:=h;exact⟨_,h,key _ λw=>(MU j).2 rfl⟩
  .split at h
   .rename_i l;obtain⟨j,h⟩:=h;exact⟨_,h,key _ λw=>abx l (D_ j) rfl⟩
   .exact h.elim
  .split at h
   .rename_i l;obtain⟨j,h⟩:=h;exact⟨_,h,key _ λw=>abx l (D_ j) rfl⟩
   .exact h.elim
  .exact h.elim
 .rename_i s1 s2 f g;have d:=hρ _ _ f;have e:=hρ _ _ g;split at h
  .obtain⟨s,h⟩:=h;refine⟨_,h,λw=>Qz i (by rw[d];intro zt;simp) (by rw[d];simp) ?_⟩
   rw[d,e];have u:¬((s1.size+s2.size:Nat):Int)>IntKind.i64.max:=by simp_all
   simp only[binOp,Op.stringOp,u,if_false,cP]
  .exact h.elim
 .rename_i xs ys f g;have d:=hρ _ _ f;have e:=hρ _ _ g;split at h
  .exact h.elim
  rename_i z;have A:P.eqGuardType P.depth t=false:=gq z
  have key:∀v,(∀w,(binOp op t (.agg xs) (.agg ys)).run P w= .ok v w)->∀w,(execOp a.eval o).run P w= .ok (.value v) w:=by
   intro v hv w;simp only[execOp,i,cR,d,e,run_eqGuard_agg w op t x y xs ys A,cK,hv w,cP]
  split at h
  .rename_i l;split at h
   .rename_i os q;unfold Tj at h;split at h
    .rename_i b hb;have:=λw=>(af4 20 t os q 10000 af).2 l w xs ys b hb;refine⟨_,h,key _ λw=>?_⟩;rw[run_eql_struct,this w];rfl
    .exact h.elim
   .rename_i os q;unfold Tj at h;split at h
    .rename_i b hb;have:=λw=>(af4 20 t os q 10000 af).2 l w xs ys b hb;refine⟨_,h,key _ λw=>?_⟩;rw[run_neq_struct,this w];rfl
    .exact h.elim
   .exact h.elim
  .exact h.elim
 .rename_i t1 v1 f g;have d:=hρ _ _ f;have e:=hρ _ _ g;split at h
  .rename_i B p;split at h
   .refine⟨_,h,λw=>?_⟩;simp only[execOp,i,cR,d,e,OR,cK,binOp,UA p,cP]
   .refine⟨_,h,λw=>?_⟩;simp only[execOp,i,cR,d,e,OR,cK,binOp,UA p,cP,j_]
   .exact h.elim
  .exact h.elim
 .rename_i f g;have d:=hρ _ _ f;have e:=hρ _ _ g;split at h
  .rename_i r;split at h
   .rename_i B p;split at h
    .refine⟨_,h,λw=>?_⟩;simp only[execOp,i,cR,d,e,OS r,cK,binOp,UB p,cP]
    .refine⟨_,h,λw=>?_⟩;simp only[execOp,i,cR,d,e,OS r,cK,binOp,UB p,cP,Bool.not_true]
    .exact h.elim
   .exact h.elim
  .exact h.elim
 .exact h.elim
def ZS(hρ:uV ρ a)(h:tu P o.op ρ zt):∃v,zt v/\∀w,(execOp a.eval o).run P w= .ok (.value v) w:=by
 cases ho:o.op with
 |binOp op t x y yt=>rw[ho]at h;exact ah2 hρ ho h
 |nilCheck x=>rw[ho]at h;exact akt hρ ho h
 |fieldAddr s x f=>rw[ho]at h;exact Yu hρ ho h
 |field s x f=>rw[ho]at h;exact af0 hρ ho h
 |indexAddr t x i=>rw[ho]at h;exact Yv hρ ho h
 |index t x i=>rw[ho]at h;exact af1 hρ ho h
 |slice t x lo hi mx=>rw[ho]at h;exact afZ hρ ho h
 |makeInterface t x=>rw[ho]at h;exact af2 hρ ho h
 |_=>rw[ho]at h;exact h.elim
theorem MX(h:rd w yk zt):∃v,w.cell? yk=G_ v/\zt v:=by
 unfold rd at h;grind
def MY(n:Nat)(a:P_)(w w':N_):Prop:=∀k,k<n->w'.cell? (a.add k)=w.cell? (a.add k)
def add_zero(a:P_):a.add 0=a:=rfl
def ZT{P:R_}{w:N_}{a:P_}:∀{n i:Nat} {l:List M_} (acc:Array M_),Gd w a i n=G_ l->∀w',(∀k,k<n->w'.cell? (a.add (i+k))=w.cell? (a.add (i+k)))->
  (loadCellsFrom a i n acc).run P w'= .ok (acc++l.toArray) w'
 |0,i,l,acc,h,w',_=>by simp only[Gd,G_.injEq]at h;subst h;simp[loadCellsFrom]
 |n+1,i,l,acc,h,w',hw=>by
  simp only[Gd]at h;split at h
  .rename_i v hv;split at h
   .rename_i l' c;cases h
    have b:=hw 0 af;simp only[C']at b;have d:=ZT (P:=P) (acc.push v) c w' (λk e=>by have:=hw (k+1) af;rwa[show i+(k+1)=i+1+k by omega]at this)
    simp only[loadCellsFrom,cR,run_load,b,hv,cK,d];simp
   .cases h
  .cases h
def ZU(h:JW P t (G_ v) w zt):
  ∃p u,v= .pointer (G_ p)/\zt u/\∀w',MY (MR P t) p w w'->(Instr.loadAt t v).run P w'= .ok u w':=by
 unfold JW at h;split at h
 .rename_i p hv;cases hv
  have key:rX P t≠ .ag->(∃d,P.underlying t=G_ d)->∀u,w.cell? p=G_ u->∀w',MY (MR P t) p w w'->(Instr.loadAt t (.pointer (G_ p))).run P w'= .ok u w':=by
   intro e f u b w' hs;have g:MR P t=1:=by unfold MR;split<;>first|exact absurd (by assumption) e|rfl
   have i:=hs 0 af;rw[add_zero,b]at i;obtain⟨d,f⟩:=f;simp only[Instr.loadAt,Instr.sureAddr,cR,cP,cK,loadVar,Yr f e,h_,if_false,run_load,i]
  split at h
  .rename_i kk a;obtain⟨u,b,h⟩:=MX h;obtain⟨n,rfl,h'⟩:=Qw h;exact⟨p,_,rfl,h',key (by simp[a]) (tW (by simp[a])) _ b⟩
  .rename_i a;obtain⟨u,b,h⟩:=MX h;obtain⟨n,rfl,h'⟩:=abv h;exact⟨p,_,rfl,h',key (by simp[a]) (tW (by simp[a])) _ b⟩
  .rename_i a;obtain⟨u,b,h⟩:=MX h;obtain⟨n,rfl,h'⟩:=abw h;exact⟨p,_,rfl,h',key (by simp[a]) (tW (by simp[a])) _ b⟩
  .exact h.elim
  .rename_i a;obtain⟨u,b,h⟩:=MX h;obtain⟨n,rfl,h'⟩:=Qx h;exact⟨p,_,rfl,h',key (by simp[a]) (tW (by simp[a])) _ b⟩
  .rename_i a;obtain⟨u,b,h⟩:=MX h;obtain⟨n,rfl,h'⟩:=U4 h;exact⟨p,_,rfl,h',key (by simp[a]) (tW (by simp[a])) _ b⟩
  .rename_i a;obtain⟨u,b,h⟩:=MX h;obtain⟨n,rfl,h'⟩:=Qy h;exact⟨p,_,rfl,h',key (by simp[a]) (tW (by simp[a])) _ b⟩
  .rename_i a;split at h
   .exact h.elim
   rename_i j;unfold bx at h;split at h
   .rename_i l m;refine⟨p,_,rfl,h,λw' hs=>?_⟩;have g:MR P t=iB P t:=by unfold MR;rw[a]
    rw[g]at hs;simp only[Instr.loadAt,Instr.sureAddr,cR,cP,cK,loadVar,abB a,if_true,uq j,loadCells];rw[ZT #[] m w' (λk o=>gq (hs k o))]
    simp
   .exact h.elim
  .rename_i a;split at h
   .rename_i d f;obtain⟨u,b,h⟩:=MX h;exact⟨p,u,rfl,h,key (by simp[a]) ⟨d,f⟩ _ b⟩
   .exact h.elim
 .exact h.elim
def ZV(hρ:uV ρ a)(b:o.op= .load t x)(h:JW P t (ρ x) w zt):
  ∃p u,ρ x=G_ (.pointer (G_ p))/\zt u/\∀w',MY (MR P t) p w w'->(execOp a.eval o).run P w'= .ok (.value u) w':=by
 cases hx:ρ x with
 |none=>rw[hx]at h;exact h.elim
 |some v=>
  rw[hx]at h;obtain⟨p,u,rfl,d,e⟩:=ZU h;refine⟨p,u,rfl,d,λw' hs=>?_⟩;simp only[execOp,b,hρ _ _ hx,cR,e w' hs,cK,cP]
def uW:Option Nat->Fence
 |none=>Fence.wide
 |some l=>Fence.wide.inRound l
def Kb(ro:Option Nat)(f:FuncId):(uW ro).fn f:=by cases ro<;>exact trivial
def U6(ro:Option Nat):(uW ro).depth.isSome=J_->∀{p:Prop},p:=by cases ro<;>intro h<;>cases h
variable{R:Ending->ap}{args:Array M_}{f:FuncId}{ro:Option Nat}
def MZ(h:Calls P f args w R):CallsIn (uW ro) n P f args w R:=by
 cases ro with
 |none=>exact callsIn_wide.2 h
 |some l=>exact(callsIn_wide.2 h:CallsIn Fence.wide n P f args w R)
def af5{assign body:Code}(h:RoundIn Fence.wide m P l f yr assign body w R):RoundIn (uW ro) n P l f yr assign body w R:=by
 cases ro with
 |none=>exact⟨h.1,λc cs _=>h.2 c cs (room_wide _)⟩
 |some l'=>exact⟨h.1,λc cs _=>h.2 c cs (room_wide _)⟩
abbrev U7:=List PanicEntry->ap
def QB:U7:=λ_ _=>False
def ZW(c:M_->ap)(q:U7):Ending->ap
 | .returned v,w=>c v w
 | .panicked ch,w=>q ch w
 | .outgrown,_=>False
def tK(P:R_)(bY:ey)(q:U7):Prop:=∀fn args w c,bY fn args w c->match fn with
 | .func f=>((∃fn,P.funcs[f]?=G_ fn/\fn.body.isSome=J_/\(fn.name== "runtime.NumGoroutine")=K_)/\Calls P f args w (ZW c q))\/∃v w',(callFunc f args).run P w= .ok (.value v) w'/\c v w'
 | .yield l=>YieldAt Fence.wide 0 P l args w (ZW c q)
 | .method _=> ∃t v,args=#[.iface t v]/\q [{v:= .iface t v,recovered:=K_}] w
 |_=>False
variable{r:Next}{w':N_}
def abD{ρ:Operand->M_}{c:Call}(a:o.op= .defer c)(h:(execOp ρ o).run P w= .ok r w'):∃d,r= .defer d:=by
 simp only[execOp,a,cR]at h;cases hr:(resolve ρ c o.type).run P w with
 |ok d w1=>rw[hr]at h;simp only[cK,cP]at h;cases h;exact⟨d,rfl⟩
 |halt x w1=>rw[hr]at h;cases h
variable{Q:Exit->Act->ap}
variable{yv:Act->ap}
def abE(h:(execOp a.eval o).run P w= .ok r w')(b:∀d,r≠ .defer d)(e:o.uponIn (uW ro) n P a yv Q (.ok r w')):o.wpIn (uW ro) n P a w yv Q:=by
 refine⟨λf _=>Kb ro f,?_⟩;rw[Oper.semAt_eq _ _ _ λc g=>by obtain⟨d,i⟩:=abD g h;exact b d i,h]
 exact e
def jE(h:(execOp a.eval o).run P w= .ok (.value v) w')(b:yv (a.put o.dst v) w'):o.wpIn (uW ro) n P a w yv Q:=abE h (λd c=>by cases c) b
def abF(h:(execOp a.eval o).run P w= .ok .skip w')(b:yv (a.put o.dst undef) w'):o.wpIn (uW ro) n P a w yv Q:=abE h (λd c=>by cases c) b
def aeD(b:∀c,o.op≠ .defer c)(h:(execOp a.eval o).run P w= .halt (.panic v) w')(d:Q (.panic [{v,recovered:=K_}]) a w'):o.wpIn (uW ro) n P a w yv Q:=by
 refine⟨λf _=>Kb ro f,?_⟩;rw[Oper.semAt_eq _ _ _ λc e=>absurd e (b c),h];exact d
variable{x0:M_->ap}
theorem uX{r:Result M_}(h:ON r x0):∃v w',r= .ok v w'/\x0 v w':=by
 unfold ON at h;grind
def Cy(h:v.oneCell'=J_):v.cells=#[v]:=by cases v<;>first|rfl|(simp[Value.oneCell']at h)
variable{x1:ap}
theorem ah3(h:bN w yk v x1):(store yk v).run P w= .ok () (w.setCell yk v)/\x1 (w.setCell yk v):=by
 obtain⟨a,h2,d,b⟩:=h;refine⟨?_,b⟩;rw[run_store P w yk v .plain a];grind
def ZX{p:P_}:∀{l:List M_} {i:Nat} {w:N_} {c:ap},JU w p i l c->∃w',(storeCells p l i).run P w= .ok () w'/\c w'
 |[],i,w,c,h=>⟨w,rfl,h⟩
 |v::l,i,w,c,h=>by
  obtain⟨a,h2⟩:=ah3 (P:=P) h;obtain⟨w',b,d⟩:=ZX h2;exact⟨w',by simp only[storeCells,cR,a,cK,b],d⟩
def Fx{raw:Nat->Bool}{place place':Nat->Option (Nat×Nat)}{n:Nat}(f:∀i x,place' i=G_ x->place i=G_ x):
  ∀{l:List (Nat×M_)} {acc:Array M_} {c:Array M_->Prop},Qu raw place' n l acc c->acc.size=n->∃cs,Instr.fill place acc l=G_ cs/\c cs/\cs.size=n
 |[],acc,c,h,hn=>⟨acc,rfl,h,hn⟩
 |(i,v)::l,acc,c,h,hn=>by
  unfold Qu at h;split at h
  .exact h.elim
  .rename_i off size o;have g:=f _ _ o;split at h
   .exact h.elim
   .rename_i p;unfold Instr.fill;simp only[g];split at h
    .split at h
     .rename_i d;obtain⟨q,h⟩:=h;have e:v.cells=#[v]:=by cases v<;>first|rfl|exact absurd q (by simp[Value.oneCell'])
      have a:¬((v.cells.size≠size)||L_ (off+v.cells.size>acc.size))=true:=by rw[e];simp[d];omega
      rw[HQ a,e];have:(#[v].zipIdx.foldl (λcs (x,j)=>cs.setIfInBounds (off+j) x) acc)=acc.setIfInBounds off v:=by simp
      rw[this];exact Fx f h (by simp[hn])
     .exact h.elim
    split at h
    .rename_i cs;obtain⟨k,h⟩:=h;have e:(Value.agg cs).cells=cs:=rfl;have a:¬((cs.size≠size)||L_ (off+cs.size>acc.size))=true:=by simp[k];omega
     rw[e,HQ a];have hs:(cs.zipIdx.foldl (λcs (x,j)=>cs.setIfInBounds (off+j) x) acc).size=n:=by
      have:∀(l:List (M_×Nat)) (b:Array M_),(l.foldl (λcs (x,j)=>cs.setIfInBounds (off+j) x) b).size=b.size:=by
       intro l;induction l with
       |nil=>intro b;rfl
       |cons y l ih=>intro b;simp[ih]
      rw[<-U_,this];exact hn
     exact Fx f h hs
    .rename_i m;split at h
     .rename_i d;have e:v.cells=#[v]:=by cases v<;>first|rfl|exact absurd rfl (m _)
      have a:¬((v.cells.size≠size)||L_ (off+v.cells.size>acc.size))=true:=by rw[e];simp[d];omega
      rw[HQ a,e];have:(#[v].zipIdx.foldl (λcs (x,j)=>cs.setIfInBounds (off+j) x) acc)=acc.setIfInBounds off v:=by simp
      rw[this];exact Fx f h (by simp[hn])
     .exact h.elim
def run_places{fs:List Field}(h:∀f∈fs,(P.info? f.type).isSome=J_):
  (fs.mapM λf=>(do pure (f.offset,<-sizeOf f.type):Sem (Nat×Nat))).run P w= .ok (fs.map λf=>(f.offset,iB P f.type)) w:=by
 induction fs with
 |nil=>rfl
 |cons f fs ih=>
  have a:=h f C4;cases hi:P.info? f.type with
  |none=>simp[hi]at a
  |some i=>
   simp only[List.mapM_cons,cR,run_sizeOf hi,cK,cP,ih (λg b=>h g (C3 _ b)),z_,abA hi]
def LG(h:zOf P t=G_ v):(zeroValue t).run P w= .ok v w:=by
 unfold zOf at h;cases hi:P.info? t with
 |none=>simp[hi]at h
 |some i=>
  simp only[hi]at h;simp[zeroValue,typeInfo,hi,h]
def run_build{l:List (Nat×M_)}{c:M_->Prop}(j:zOf P t=G_ z3)(hs:z3.cells.size=iB P t)(hi:abn P t=J_)
  (h:Qu (aqY P t) (placesOf P t) (iB P t) l z3.cells λcs=>c (.agg cs)) {parts:Array (Nat×M_)} (m:parts.toList=l):∃v,(Instr.build t parts).run P w= .ok v w/\c v:=by
 unfold abn at hi;split at hi
 .rename_i fs d;rw[tL]at hi;have o:(fs.mapM λf=>(do pure (f.offset,<-sizeOf f.type):Sem (Nat×Nat))).run P w= .ok ((fs.toList.map λf=>(f.offset,iB P f.type)).toArray) w:=by
   rw[b_];simp only[Sem.run_map,run_places hi,cK]
  obtain⟨cs,g,h2,p⟩:=Fx (place:=((fs.toList.map λf=>(f.offset,iB P f.type)).toArray[·]?)) (by
   intro i x a;unfold placesOf at a;rw[d]at a;simp only at a;split at a
   .rename_i f q;cases a;simp[q]
   .cases a) h hs
  refine⟨_,?_,h2⟩;simp only[Instr.build,cR,LG j,cK,jr d,o,m,g,cP]
 .rename_i n e d;cases b:P.info? e with
  |none=>simp[b]at hi
  |some i=>
   obtain⟨cs,g,h2,p⟩:=Fx (place:=λk=>G_ (k*iB P e,iB P e)) (by
    intro k x a;unfold placesOf at a;rw[d]at a;exact a) h hs
   refine⟨_,?_,h2⟩;rw[abA b]at g;simp only[Instr.build,cR,LG j,cK,jr d,run_sizeOf b,m,g,cP]
 .cases hi
def Ge(h:∃fn,P.funcs[f]?=G_ fn/\fn.body.isSome=J_/\(fn.name== "runtime.NumGoroutine")=K_):(callFunc f args).run P w= .ok (.enter f args) w:=by
 obtain⟨fn,h1,h2,h3⟩:=h;have h4:fn.body.isNone=false:=by cases hb:fn.body<;>simp_all
 simp only[callFunc,Sem.run_bind,run_program,Result.andThen_ok,h1,h3,h4,h_,if_false,Sem.run_pure]
variable{bY:ey}{q:U7}
def aor{c:M_->ap}(hρ:uV ρ a)(O:tK P bY q)(hq:∀W w,q W w->Q (.panic W) a w)(h:afU P bY o ρ w c)
  (A:∀v w',c v w'->yv (a.put o.dst v) w'):o.wpIn (uW ro) n P a w yv Q:=by
 unfold afU at h;split at h
 .rename_i t x y g;split at h
  .rename_i p v B hy;have hx':=hρ _ _ B;have hy':=hρ _ _ hy;have key:v.cells.size=iB P t->iB P t≠0->∀w',(storeCells p v.cells.toList 0).run P w= .ok () w'->c undef w'->o.wpIn (uW ro) n P a w yv Q:=by
    intro j h2 w' F h4;refine abF (w':=w') ?_ (A _ _ h4);have h5:¬v.cells.size≠iB P t:=by simp[j]
    simp only[execOp,g,hx',hy',Instr.storeAt,Instr.sureAddr,cR,cP,cK,storeVar,uq h2,h5,if_false,F]
   split at h
   .rename_i hk;split at h
    .exact h.elim
    rename_i G;split at h
    .rename_i cs;obtain⟨j,h2⟩:=h;obtain⟨w',F,h4⟩:=ZX (P:=P) h2;exact key j G w' F h4
    .exact h.elim
   .split at h
    .rename_i hs;obtain⟨j,h2⟩:=ah3 (P:=P) h;have M:=h.1;refine key (by rw[Cy M,hs];rfl) (by rw[hs];simp) _ ?_ h2
     rw[Cy M];simp only[storeCells,cR,add_zero,j,cK,cP]
    .exact h.elim
  .exact h.elim
 .rename_i t g;split at h
  .rename_i z G;refine jE ?_ (A _ _ h);simp only[execOp,g,Instr.alloc,cR,LG G,cK,newVar,newRow,run_newObj,cP,World.alloc_eq]
  .exact h.elim
 .rename_i t x g;split at h
  .rename_i v B;split at h
   .obtain⟨O,h⟩:=h;refine jE ?_ (A _ _ h);simp only[execOp,g,hρ _ _ B,Instr.box,Cy O,cR,cK,newVar,newRow,run_newObj,cP,World.alloc_eq]
   refine jE ?_ (A _ _ h);simp only[execOp,g,hρ _ _ B,Instr.box,cR,cK,newVar,newRow,run_newObj,cP,World.alloc_eq]
  .exact h.elim
 .rename_i t parts g;split at h
  .rename_i l z hl G;split at h
   .rename_i X;obtain⟨v,j,h2⟩:=run_build (P:=P) (w:=w) (c:=λv=>c v w) G X.1 X.2 h (parts:=parts.map fun(i,x)=>(i,a.eval x)) (by simpa using U3 hρ hl)
    refine jE ?_ (A _ _ h2);simp only[execOp,g,cR,j,cK,cP]
   .exact h.elim
  .exact h.elim
 .rename_i t len parts g;split at h
  .rename_i e l ht hl;split at h
   .exact h.elim
   rename_i J;have Hi:¬len*iB P e>2 ^ 24:=λh=>J (D_ h);cases L:P.info? e with
   |none=>exact absurd (E_ (by simp[L])) J
   |some i=>
    rw[abA L]at h Hi;split at h
    .rename_i z G;obtain⟨cs,j,h2,F⟩:=Fx (place:=λk=>G_ (k*i.size,i.size)) (λ_ _ B=>B) h bf;refine jE ?_ (A _ _ h2);have Y:(parts.map fun(i,x)=>(i,a.eval x)).toList=l:=by simpa using U3 hρ hl
     by_cases M:len*i.size=0
     .rw[HK M]at G;cases G
      simp only[M]at j Hi;simp only[execOp,g,Instr.buildSlice,cR,jr ht,run_sizeOf L,cK,M,Hi,if_false,if_true,cP,Y,j,newRow,run_newObj,World.alloc_eq]
     .rw[HQ M]at G;cases R:zOf P e with
      |none=>simp[R]at G
      |some zz=>
       simp[R]at G;subst G;simp only[execOp,g,Instr.buildSlice,cR,jr ht,run_sizeOf L,cK,M,Hi,if_false,LG R,cP,Y,j,newRow,run_newObj,World.alloc_eq]
    .exact h.elim
  .exact h.elim
 .rename_i t l k g;split at h
  .rename_i x y B hy;obtain⟨v,w',j,h2⟩:=uX h;obtain⟨s,rfl,F⟩:=Qx h2;refine jE ?_ (A _ _ F);simp only[execOp,g,hρ _ _ B,hρ _ _ hy,cR,j,cK,cP]
  .exact h.elim
 .rename_i N g;split at h
  .rename_i b H;have zl:o.op= .call {callee:= .builtin b,args:=N.args,argTypes:=N.argTypes}:=by rw[g,<-H]
   obtain⟨cs,J⟩:=Uy (P:=P) (a:=a) (w:=w) zl;split at h
   .rename_i vs C;rw[tR hρ C]at J;split at h
    .obtain⟨v,w',j,h2⟩:=uX h;obtain⟨s,rfl,F⟩:=Qx h2;refine jE ?_ (A _ _ F);rw[J];simp only[builtin,cR,j,cK,cP]
    iterate 2 obtain⟨v,w',j,h2⟩:=uX h;obtain⟨s,rfl,F⟩:=Qw h2;refine jE ?_ (A _ _ F);rw[J];simp only[builtin,cR,j,cK,cP]
    iterate 2 obtain⟨v,w',j,h2⟩:=uX h;refine jE ?_ (A _ _ h2);rw[J];simp only[builtin,cR,j,cK,cP]
    .obtain⟨t,v,j,h2⟩:=O _ _ _ _ h;refine aeD (v:= .iface t v) (w':=w) (λc=>by rw[g];intro h;cases h) ?_ (hq _ _ h2)
     rw[J,j];simp only[builtin];rfl
    .exact h.elim
   .exact h.elim
  .rename_i f H;split at h
   .rename_i fv vs hf C;have S:N={callee:= .value f,args:=N.args,argTypes:=N.argTypes}:=by rw[<-H]
    unfold nj at h;split at h
    .rename_i id first captured
     rcases O _ _ _ _ h with⟨j,h2⟩|⟨v,w1,j,h2⟩
     .have D:(execOp a.eval o).run P w= .ok (.enter id (first++vs.toArray++captured)) w:=by
       rw[S]at g;simp only[execOp,g,resolve,hρ _ _ hf,tR hρ C,Deferred.ofValue,cR,cP,cK,invoke,Ge j]
      refine abE D (λd Z=>by cases Z) ⟨λh=>U6 ro h,MZ (h2.mono λe w' I=>?_)⟩
      cases e with
      |returned v=>exact A _ _ (Cw I)
      |panicked W=>exact hq _ _ I
      |outgrown=>exact I.elim
     .refine jE ?_ (A _ _ (Cw h2));rw[S]at g;simp only[execOp,g,resolve,hρ _ _ hf,tR hρ C,Deferred.ofValue,cR,cP,cK,invoke,j]
    .rename_i l first _
     obtain⟨fn,tmps,assign,body,j,h2⟩:=O _ _ _ _ h;have D:(execOp a.eval o).run P w= .ok (.round l fn tmps assign body) w:=by
      rw[S]at g;simp only[execOp,g,resolve,hρ _ _ hf,tR hρ C,Deferred.ofValue,cR,cP,cK,invoke,j]
     refine abE D (λd Z=>by cases Z) ⟨λh=>U6 ro h,af5 (h2.mono λe w' I=>?_)⟩
     cases e with
     |returned v=>exact A _ _ (Cw I)
     |panicked W=>exact hq _ _ I
     |outgrown=>exact I.elim
    .exact h.elim
   .exact h.elim
  .rename_i r name H;split at h
   .rename_i rv vs T C;have S:N={callee:= .invoke r name,args:=N.args,argTypes:=N.argTypes}:=by rw[<-H]
    unfold pR at h;split at h
    .rename_i t v;split at h
     .rename_i f x w1 U;have e0:(#[Value.iface t v] ++vs.toArray)[0]?=G_ (.iface t v):=by simp
      have e1:(#[Value.iface t v] ++vs.toArray).extract 1 (#[Value.iface t v] ++vs.toArray).size=vs.toArray:=by simp
      rcases O _ _ _ _ h with⟨j,h2⟩|⟨u,w2,j,h2⟩
      .have D:(execOp a.eval o).run P w= .ok (.enter f (#[x] ++vs.toArray)) w1:=by
        rw[S]at g;simp only[execOp,g,resolve,hρ _ _ T,tR hρ C,cR,cP,cK,invoke,e0,e1,callMethod,run_program,U,Ge j]
       refine abE D (λd Z=>by cases Z) ⟨λh=>U6 ro h,MZ (h2.mono λe w' I=>?_)⟩
       cases e with
       |returned v=>exact A _ _ (Cw I)
       |panicked W=>exact hq _ _ I
       |outgrown=>exact I.elim
      .refine jE ?_ (A _ _ (Cw h2));rw[S]at g;simp only[execOp,g,resolve,hρ _ _ T,tR hρ C,cR,cP,cK,invoke,e0,e1,callMethod,run_program,U,j]
     .exact h.elim
    .exact h.elim
   .exact h.elim
 .rename_i t r g;split at h
  .obtain⟨v,w',j,h2⟩:=uX h;obtain⟨s,rfl,F⟩:=Qy h2;refine jE ?_ (A _ _ F);simp only[execOp,g,Option.map_none,cR,j,cK,cP]
  .split at h
   .rename_i r _ x B;obtain⟨v,w',j,h2⟩:=uX h;obtain⟨s,rfl,F⟩:=Qy h2;refine jE ?_ (A _ _ F);simp only[execOp,g,Option.map_some,hρ _ _ B,cR,j,cK,cP]
   .exact h.elim
 .rename_i t x i ok g;split at h
  .rename_i V vi B hi;obtain⟨v,w',j,h2⟩:=uX h;refine jE ?_ (A _ _ (Cw h2));simp only[execOp,g,hρ _ _ B,hρ _ _ hi,cR,j,cK,cP]
  .exact h.elim
 .rename_i t m k x g;split at h
  .rename_i vm vk V U hk B;unfold MP aqV at h;split at h
   .rename_i u w' T;refine abF ?_ (A _ _ h);simp only[execOp,g,hρ _ _ U,hρ _ _ hk,hρ _ _ B,cR,T,cK,cP]
   .exact h.elim
  .exact h.elim
 .rename_i t m k x g;split at h
  .rename_i vm vk V U hk B;unfold MP aqV at h;split at h
   .rename_i u w' T;refine abF ?_ (A _ _ h);simp only[execOp,g,hρ _ _ U,hρ _ _ hk,hρ _ _ B,cR,T,cK,cP]
   .exact h.elim
  .exact h.elim
 .rename_i s d x g;split at h
  .rename_i V B;obtain⟨v,w',j,h2⟩:=uX h;refine jE ?_ (A _ _ (SR h2));simp only[execOp,g,hρ _ _ B,cR,j,cK,cP]
  .exact h.elim
 .rename_i x xt as ok g;split at h
  .rename_i V B;obtain⟨v,w',j,h2⟩:=uX h;refine jE ?_ (A _ _ (Cw h2));simp only[execOp,g,hρ _ _ B,cR,j,cK,cP]
  .exact h.elim
 .rename_i x g;split at h
  .rename_i V B;obtain⟨t,v,j,h2⟩:=O _ _ _ _ h;have j:V= .iface t v:=by simpa using j
   subst j;refine aeD (v:= .iface t v) (w':=w) (λc=>by rw[g];intro h;cases h) ?_ (hq _ _ h2)
   simp only[execOp,g,hρ _ _ B];rfl
  .exact h.elim
 .exact h.elim
def PQ(q:U7):Exit->Act->ap:=λe _ w=>match e with| .panic ch=>q ch w|_=>False
def SU{ρ:Operand->M_}(h:(execOp ρ o).run P w= .ok (.value v) w'):∀c,o.op≠ .defer c:=λc a=>by
 obtain⟨d,b⟩:=abD a h;cases b
def Fy(P:R_)(ops:Array Oper)(o:Oper)(a:Act)(w:N_)(v:M_):Prop:=
 (Region.wanted o (yielded ops a.tmps)=J_/\(execOp a.eval o).run P w= .ok (.value v) w)\/(Region.wanted o (yielded ops a.tmps)=K_/\v=undef)
def Fz(P:R_)(ops:Array Oper)(q:U7)(o:Oper)(a:Act)(w:N_)(c:M_->ap):Prop:=
 (Region.wanted o (yielded ops a.tmps)=J_/\(∀c,o.op≠ .defer c)/\∀(ro:Option Nat) (n:Nat) (K:Act->ap),(∀v w',c v w'->K (a.put o.dst v) w')->o.wpIn (uW ro) n P a w K (PQ q))\/(Region.wanted o (yielded ops a.tmps)=K_/\c undef w)
variable{ops:Array Oper}
def Fy.c(h:Fy P ops o a w v):Fz P ops q o a w λu w'=>u=v/\w'=w:=by
 rcases h with⟨b,h2⟩|⟨b,h2⟩
 .exact D_ ⟨b,SU h2,λ_ _ K d=>jE h2 (d _ _ ⟨rfl,rfl⟩)⟩
 .exact E_ ⟨b,h2.symm,rfl⟩
variable{c:M_->ap}
def Fz.mono{c':M_->ap}(h:Fz P ops q o a w c)(d:∀v w',c v w'->c' v w'):Fz P ops q o a w c':=by
 rcases h with⟨b,h2⟩|⟨b,h2⟩
 .exact D_ ⟨b,h2.1,λro n K e=>h2.2 ro n K λv w' h=>e v w' (d v w' h)⟩
 .exact E_ ⟨b,d _ _ h2⟩
def aos{F:Fence}(hq:∀d w,q d w->Q (.panic d) a w)(h:o.wpIn F n P a w yv (PQ q)):o.wpIn F n P a w yv Q:=by
 refine⟨h.1,?_⟩;have h:=h.2;generalize (o.semAt F.round a.eval).run P w=r at*
 cases r with
 |ok x w'=>
  cases x<;>simp only[Oper.uponIn]at h ⊢ <;>first
   |exact h
   |(refine⟨h.1,h.2.mono λe f b=>?_⟩;cases e with
     |returned v=>exact b
     |panicked c=>exact hq _ _ b
     |outgrown=>obtain⟨_,_,g⟩:=b;exact g.elim)
 |halt x w'=>cases x<;>simp only[Oper.uponIn]at h ⊢ <;>first|exact hq _ _ h|exact h.elim
def Fz.wp(h:Fz P ops q o a w c)(hq:∀d w,q d w->Q (.panic d) a w)(e:∀v w',c v w'->yv (a.put o.dst v) w'):
  if Region.wanted o (yielded ops a.tmps)then o.wpIn (uW ro) n P a w yv Q else(∀f,o.about P w a.eval=G_ f->(uW ro).fn f)/\yv (a.put o.dst undef) w:=by
 rcases h with⟨b,h2⟩|⟨b,h2⟩
 .rw[HK b];exact aos hq (h2.2 ro n yv e)
 .rw[HQ (by simp[b])];exact⟨λf _=>Kb ro f,e _ _ h2⟩
def AP(h:o.guard=H_)(y:Nat->Option Bool):Region.wanted o y=true:=by simp[Region.wanted,h]
variable{e:Env}
def SV(hs:Sub e a)(h:e.find g=G_ (.val v)):a.tmps[g]?=G_ v:=hs _ (Dc h)
def awM(hρ:uV ρ a)(j:tK P bY q)(h:aez P bY o ρ w c)(k:Region.wanted o (yielded ops a.tmps)=J_):Fz P ops q o a w c:=by
 refine D_ ⟨k,λm d=>by
  unfold aez at h;simp[d,Cf,SN,afS,JX,afU]at h,λro n K b=>?_⟩
 unfold aez at h;split at h
 .rename_i l;unfold IS at h;split at h
  .rename_i v hv;exact jE (QA hρ l hv w) (b _ _ h)
  .exact h.elim
 .split at h
  .obtain⟨v,e,f⟩:=ZS hρ h;exact jE (f w) (b _ _ e)
  .split at h
   .rename_i t x i;have g:o.op= .load t x:=by
     unfold JX at i;split at i<;>simp_all
    obtain⟨p,u,_,e,f⟩:=ZV hρ g h;exact jE (f w λ_ _=>rfl) (b _ _ e)
   .exact aor hρ j (λ_ _ h=>h) h b
def awN(hρ:uV ρ a)(hb:Cf P o.op=J_\/SN P o.op=J_)(h:aez P bY o ρ w c)(d:Region.wanted o (yielded ops a.tmps)=J_):
  ∃v,c v w/\∀w',Fy P ops o a w' v:=by
 unfold aez at h;split at h
 .rename_i b;unfold IS at h;split at h
  .rename_i v hv;exact⟨v,h,λw'=>D_ ⟨d,QA hρ b hv w'⟩⟩
  .exact h.elim
 .rename_i b;rw[HK (hb.resolve_left b)]at h;obtain⟨v,e,f⟩:=ZS hρ h;exact⟨v,e,λw'=>D_ ⟨d,f w'⟩⟩
variable{z:Operand}
def LH(c:o.op= .pick x y z)(d:a.eval x= .bool b)(w:N_):(execOp a.eval o).run P w= .ok (.value (if b then a.eval y else a.eval z)) w:=by
 simp only[execOp,c,d,asBool,cR,cP,cK]
def U8(hs:Sub e a)(h:aa3 e x y z=G_ v):∃b,a.eval x= .bool b/\(if b then a.eval y else a.eval z)=v:=by
 unfold aa3 at h;split at h
 .rename_i g c d;have f:=qi hs _ _ d;have l:a.tmps[g]?=G_ (.bool c):=by
   simp only[Env.op]at d;split at d
   .rename_i u o;cases d;exact SV hs o
   .cases d
  refine⟨c,f,?_⟩;split at h
  .rename_i p q i h2;have m:c=J_->a.eval y= .bool p:=by
    intro j;subst j;split at i
    .rename_i u k;cases i;exact qi hs _ _ k
    .exact Wu hs l i
   have n:c=K_->a.eval z= .bool q:=by
    intro j;subst j;split at h2
    .rename_i u k;cases h2;exact qi hs _ _ k
    .exact Wu hs l h2
   split at h
   .cases h
    cases c
    .simp[n rfl]
    .simp[Act.eval]
   .cases h
    cases c
    .simp[Act.eval]
    .simp[m rfl]
   .cases h
    cases c
    .simp[n rfl]
    .simp[m rfl]
  .cases h
 .cases h
def ZY(hs:Sub e a)(h:abo e x y z zt):∃b v,a.eval x= .bool b/\(if b then a.eval y else a.eval z)=v/\zt v:=by
 unfold abo at h;split at h
 .rename_i f g;have d:=qi hs _ _ g;cases f
  .unfold an IS at h;simp only at h;split at h
   .rename_i v hv;exact⟨K_,v,d,gq (qi hs _ _ hv),h⟩
   .exact h.elim
  .unfold an IS at h;simp only at h;split at h
   .rename_i v hv;exact⟨J_,v,d,gq (qi hs _ _ hv),h⟩
   .exact h.elim
 .exact h.elim
def U9{p:Operand×Operand×Operand}(h:SO o.op=G_ p):o.op= .pick p.1 p.2.1 p.2.2:=by
 unfold SO at h;split at h
 .rename_i x y z a;cases h;exact a
 .cases h
def Fits(o:Oper)(a:Act):Prop:=∀d,o.dst=G_ d->d<a.tmps.size
variable{c:Env->ap}
def aeE(hs:Sub e a)(g:Fits o a)(m:tK P bY q)(i:Region.wanted o (yielded ops a.tmps)=J_)(h:SP P bY o e w c):
  Fz P ops q o a w λv w'=> ∃e',c e' w'/\Sub e' (a.put o.dst v):=by
 unfold SP at h;split at h
 .rename_i x y z n;have f:=U9 n;split at h
  .rename_i v hv;obtain⟨b,j,Gq⟩:=U8 hs hv;have d:=LH (P:=P) f j w;rw[Gq]at d;exact D_ ⟨i,SU d,λ_ _ K k=>jE d (k _ _ ⟨_,h,zo hs g⟩)⟩
  .obtain⟨b,v,j,Gq,l⟩:=ZY hs h;have d:=LH (P:=P) f j w;rw[Gq]at d;exact D_ ⟨i,SU d,λ_ _ K k=>jE d (k _ _ ⟨_,l,zo hs g⟩)⟩
 .exact(awM (qi hs) m h i).mono λv w' l=>⟨_,l,zo hs g⟩
def aeF(hs:Sub e a)(g:Fits o a)(hb:U2 P o.op=J_)(i:Region.wanted o (yielded ops a.tmps)=J_)(h:SP P bY o e w c):
  ∃e' v,c e' w/\Sub e' (a.put o.dst v)/\∀w',Fy P ops o a w' v:=by
 unfold SP at h;split at h
 .rename_i x y z j;have d:=U9 j;split at h
  .rename_i v hv;obtain⟨b,k,Gq⟩:=U8 hs hv;refine⟨_,v,h,zo hs g,λw'=>D_ ⟨i,?_⟩⟩;have f:=LH (P:=P) d k w';rwa[Gq]at f
  .obtain⟨b,v,k,Gq,l⟩:=ZY hs h;refine⟨_,v,l,zo hs g,λw'=>D_ ⟨i,?_⟩⟩;have f:=LH (P:=P) d k w';rwa[Gq]at f
 .rename_i j;have m:Cf P o.op=J_\/SN P o.op=true:=by simpa[U2,j]using hb
  obtain⟨v,l,f⟩:=awN (qi hs) m h i;exact⟨_,v,l,zo hs g,f⟩
def ZZ(hs:Sub e a)(f:a.tmps[g]?=G_ (.bool want))(h:abp P o.op e g want=G_ v)(w:N_):(execOp a.eval o).run P w= .ok (.value v) w:=by
 unfold abp at h;split at h
 .cases h
 split at h
 .rename_i x y z c;have d:=U9 c;obtain⟨b,i,Gq⟩:=U8 (Cv hs f) h;have j:=LH (P:=P) d i w;rwa[Gq]at j
 .split at h
  .rename_i c;exact QA (ako hs f) c h w
  .cases h
def o5(a:Act)(g:Nat)(want:Bool):Bool:=match a.tmps[g]? with|some (.bool b)=>b==want|_=>K_
def WD:o5 a g want=J_↔a.tmps[g]?=G_ (.bool want):=by
 unfold o5;split
 .rename_i b hb;rw[hb];simp
 .rename_i c;constructor
  .intro h;cases h
  .intro h;exact absurd h (c _)
def QC(h:afV ops o.guard=G_ (g,want)):Region.wanted o (yielded ops a.tmps)=o5 a g want:=by
 unfold afV at h;split at h
 .rename_i j b c;split at h
  .rename_i i e;split at h
   .rename_i d f;cases h
    simp only[Region.wanted,c,yielded,e,f,Option.bind_some,o5];split<;>simp_all
   .cases h
  .cases h
 .cases h
def IU{g:Nat}{want:Bool}{yes no:Env->Prop}:∀{n:Nat} {e:Env},Sub e a->Yq g want yes no n e->(∃e',Sub e' a/\o5 a g want=J_/\yes e')\/(∃e',Sub e' a/\o5 a g want=K_/\no e')
 |0,_,_,h=>h.elim
 |n+1,e,hs,h=>by
  unfold Yq at h;split at h
  .rename_i b hfind;have hb:=SV hs hfind;split at h
   .cases b
    .simp only[an,kU]at h;exact E_ ⟨_,Cv hs hb,by simp[o5,hb],h⟩
    .simp only[an,kU]at h;exact D_ ⟨_,Cv hs hb,by simp[o5,hb],h⟩
   .cases b
    .simp only[an,kU]at h;exact D_ ⟨_,Cv hs hb,by simp[o5,hb],h⟩
    .simp only[an,kU]at h;exact E_ ⟨_,Cv hs hb,by simp[o5,hb],h⟩
  .rename_i vs hfind;have hb:=SV hs hfind;exact E_ ⟨e,hs,by simp[o5,hb],h⟩
  .split at h
   .rename_i b hfind;have hb:=SV hs hfind;cases b
    iterate 2 simp only[an,kU]at h;exact IU (Cv hs hb) h
   .exact h.elim
  .exact h.elim
def aeG(hs:Sub e a)(i:Fits o a)(p:tK P bY q)(h:MQ P bY ops o e w c):
  Fz P ops q o a w λv w'=> ∃e',c e' w'/\Sub e' (a.put o.dst v):=by
 unfold MQ at h;split at h
 .rename_i t;exact aeE hs i p (AP t _) h
 .split at h
  .exact h.elim
  .rename_i g want k;have j:=QC (a:=a) k;split at h
   .rename_i v d hpure l;split at h
    .exact h.elim
    .rename_i m;have f:d≠g:=by simpa using m
     have r:=i d l;cases b:o5 a g want with
     |true=>
      have hb:=WD.1 b;have s:=ZZ hs hb hpure w;refine D_ ⟨by rw[j,b],SU s,λ_ _ K u=>jE s (u _ _ ⟨_,h,?_⟩)⟩
      rw[l];exact Ww hs r f (λ_=>rfl) λn=>absurd hb n
     |false=>
      refine E_ ⟨by rw[j,b],_,h,?_⟩
      rw[l];exact Ww hs r f (λn=>by rw[WD.2 n]at b;cases b) λ_=>rfl
   .rcases IU hs h with⟨e',hs',b,h⟩|⟨e',hs',b,h⟩
    .exact aeE hs' i p (by rw[j,b]) h
    .exact E_ ⟨by rw[j,b],_,h,zo hs' i⟩
def aot(hs:Sub e a)(j:Fits o a)(hb:U2 P o.op=J_)(h:MQ P bY ops o e w c):
  ∃e' v,c e' w/\Sub e' (a.put o.dst v)/\∀w',Fy P ops o a w' v:=by
 unfold MQ at h;split at h
 .rename_i r;exact aeF hs j hb (AP r _) h
 .split at h
  .exact h.elim
  .rename_i g want l;have k:=QC (a:=a) l;split at h
   .rename_i v d hpure m;split at h
    .exact h.elim
    .rename_i n;have f:d≠g:=by simpa using n
     have q:=j d m;cases b:o5 a g want with
     |true=>
      have i:=WD.1 b;refine⟨_,v,h,?_,λw'=>D_ ⟨by rw[k,b],ZZ hs i hpure w'⟩⟩
      rw[m];exact Ww hs q f (λ_=>rfl) λp=>absurd i p
     |false=>
      refine⟨_,undef,h,?_,λw'=>E_ ⟨by rw[k,b],rfl⟩⟩
      rw[m];exact Ww hs q f (λp=>by rw[WD.2 p]at b;cases b) λ_=>rfl
   .rcases IU hs h with⟨e',hs',b,h⟩|⟨e',hs',b,h⟩
    .exact aeF hs' j hb (by rw[k,b]) h
    .exact⟨_,undef,h,zo hs' j,λw'=>E_ ⟨by rw[k,b],rfl⟩⟩
def FA(a:Act)(d:Option Nat)(v:M_):(a.put d v).tmps.size=a.tmps.size:=by cases d<;>simp[Act.put]
def put_defers(a:Act)(d:Option Nat)(v:M_):(a.put d v).defers=a.defers:=by cases d<;>rfl
def o8(ws:Nat->Bool)(a a':Act):Prop:=a'.tmps.size=a.tmps.size/\a'.defers=a.defers/\∀s,ws s=K_->a'.tmps[s]?=a.tmps[s]?
def o8.refl(ws:Nat->Bool)(a:Act):o8 ws a a:=⟨rfl,rfl,λ_ _=>rfl⟩
variable{b:Act}{ws:Nat->Bool}
def o8.trans{c:Act}(h:o8 ws a b)(k:o8 ws b c):o8 ws a c:=⟨k.1.trans h.1,k.2.1.trans h.2.1,λs hs=>(k.2.2 s hs).trans (h.2.2 s hs)⟩
def o8.mono{ws':Nat->Bool}(h:o8 ws a b)(c:∀s,ws' s=K_->ws s=K_):o8 ws' a b:=⟨h.1,h.2.1,λs hs=>h.2.2 s (c s hs)⟩
variable{d:Option Nat}
def o8.put(h:∀x,d=G_ x->ws x=J_):o8 ws a (a.put d v):=by
 refine⟨FA a d v,put_defers a d v,λs hs=>?_⟩;cases d with
 |none=>rfl
 |some d=>exact Gp λe=>by subst e;rw[h _ rfl]at hs;cases hs
def WE(ops:Array Oper)(s:Nat):Bool:=ops.toList.any λo=>match o.dst with|some d=>D2 d s|none=>K_
def II(a:o∈ops)(h:o.dst=G_ g):WE ops g=true:=by
 unfold WE;rw[List.any_eq_true];exact⟨o,gq a,by simp[h]⟩
def SX(n:Nat)(ops:Array Oper):Bool:=ops.toList.all λo=>match o.dst with|some d=>DQ d n|none=>J_
def Kc(h:SX n ops=J_)(a:o∈ops):∀d,o.dst=G_ d->d<n:=by
 intro d b;unfold SX at h;rw[tL]at h;have:=h o (gq a)
 simpa[b,Nat.blt_eq]using this
def aeH{bY:ey}{ro:Option Nat}{n:Nat}{Q:Exit->Act->ap}(i:tK P bY q):∀(l:List Oper) (e:Env) (w:N_) (a:Act) (c:Env->ap),(∀f a' w',o8 (WE ops) a a'->q f w'->Q (.panic f) a' w')->(∀o∈l,o∈ops)->SX a.tmps.size ops=J_->Sub e a->abq P bY ops l e w c->
  (∀e' w' a',c e' w'->Sub e' a'->o8 (WE ops) a a'->Q .normal a' w')->wpListIn (uW ro) n P ops Q l a w
 |[],e,w,a,c,_,_,_,hs,h,hQ=>hQ e w a h hs (.refl _ _)
 |o::l,e,w,a,c,hq,hm,hf,hs,h,hQ=>by
  unfold abq at h;have d:=hm o C4;have j:=aeG hs (Kc hf d) i h;unfold wpListIn;refine j.wp (λf w h=>hq f a w (.refl _ _) h) λv w' b=>?_;obtain⟨e',b,hs'⟩:=b;rw[kU]at b;exact aeH i l e' w' _ c (λf a' w' k h=>hq f a' w' ((o8.put λx b=>II d b).trans k) h) (λo h=>hm o (C3 _ h)) (by rw[FA];exact hf) hs' b λm g a'' p h2 r=>
   hQ m g a'' p h2 ((o8.put λx b=>II d b).trans r)
def still(P:R_)(o:Oper):Bool:=U2 P o.op||(JX o.op).isSome
def Z0(h:still P o=J_):∀cs b,o.op≠ .select cs b:=by
 intro cs b hb;simp[still,U2,hb,SO,Cf,SN,afS,JX]at h
def Tl(h:Nat->ap)(i:Nat)(S:ap):Nat->ap:=λk=>if k=i then S else h k
variable{i j:Nat}
def aou(h:Nat->ap)(a:i≠j)(S T:ap):Tl (Tl h i S) j T=Tl (Tl h j T) i S:=by
 funext k;unfold Tl;by_cases b:k=i<;>by_cases h2:k=j<;>simp_all
def wpH(P:R_)(ops:Array Oper)(sO:Nat->Nat->Bool)(q:U7)(Q:Exit->Act->ap):Nat->Array Bool->(Nat->ap)->Act->ap
 |0,listed,_,a,w=>Region.ready .any ops listed=[]/\Q .normal a w
 |f+1,listed,h,a,w=>(Region.ready .any ops listed=[]->Q .normal a w)/\∀i∈Region.ready .any ops listed,∀o,ops[i]?=G_ o->
   (still P o=J_->∃v S,S w/\(∀w',S w'->Fy P ops o a w' v)/\wpH P ops sO q Q f (listed.setIfInBounds i J_) (Tl h i S) (a.put o.dst v) w)/\
   (still P o=K_->(∀cs b,o.op≠ .select cs b)/\Fz P ops q o a w λv w'=>(∀k,sO i k=K_->h k w')/\wpH P ops sO q Q f (listed.setIfInBounds i J_) h (a.put o.dst v) w')
def QE{sO:Nat->Nat->Bool}{ro:Option Nat}{n:Nat}:∀(f:Nat) (listed:Array Bool) (h:Nat->ap) (a:Act) (w:N_),(∀b a' w',o8 (WE ops) a a'->q b w'->Q (.panic b) a' w')->wpH P ops sO q Q f listed h a w->wpAnyIn (uW ro) n P .any ops Q f listed a w
 |0,_,_,_,_,_,h=>h
 |f+1,listed,hh,a,w,hq,h=>by
  refine⟨h.1,λi hi=>?_⟩;obtain⟨_,o,d,_⟩:=mem_ready.1 hi;obtain⟨k,h2⟩:=h.2 i hi o d;unfold wpOpIn;rw[d];cases hs:still P o with
  |true=>
   obtain⟨v,S,l,hv,e⟩:=k hs;exact((hv w l).c).wp (λb w h=>hq b a w (.refl _ _) h) λu w' ⟨hu,hw'⟩=>by subst hu;subst hw';exact QE f _ _ _ _ (λb a' w' g h=>hq b a' w' ((o8.put λx j=>II (c_ d) j).trans g) h) e
  |false=>exact(h2 hs).2.wp (λb w h=>hq b a w (.refl _ _) h) λu w' e=>QE f _ _ _ _ (λb a' w' g h=>hq b a' w' ((o8.put λx j=>II (c_ d) j).trans g) h) e.2
variable{o':Oper}
def abH(c:Oper.apart ops o' o=J_)(hs:∀cs b,o.op≠ .select cs b)(a:Act)(v:M_):
  execOp (a.put o'.dst v).eval o=execOp a.eval o/\Region.wanted o (yielded ops (a.put o'.dst v).tmps)=Region.wanted o (yielded ops a.tmps):=by
 have h:=Oper.apart_spec c;exact⟨execOp_put o hs a o'.dst v h.1,wanted_put o a o'.dst v h.1⟩
variable{u:M_}
def Va(c:Oper.apart ops o' o=J_)(hs:∀cs b,o.op≠ .select cs b):Fy P ops o (a.put o'.dst u) w v↔Fy P ops o a w v:=by
 obtain⟨d,h2⟩:=abH c hs a u;unfold Fy;rw[d,h2]
def aq2(g:a.tmps.size=b.tmps.size)(h:b.put d u=b.put d v):a.put d u=a.put d v:=by
 cases d with
 |none=>rfl
 |some d=>
  by_cases c:d<b.tmps.size
  .have e:(b.put (G_ d) u).tmps[d]?=(b.put (G_ d) v).tmps[d]?:=by rw[h]
   rw[Wv c,Wv c]at e;cases e
   rfl
  .have:∀x,a.put (G_ d) x=a:=by
    intro x;simp only[Act.put];have f:a.tmps.setIfInBounds d x=a.tmps:=by
     apply Array.ext_getElem?;intro i;by_cases hi:i=d
     .subst hi;simp[show a.tmps.size<=i by omega]
     .rw[Y_ (Ne.symm hi)]
    rw[f]
   rw[this,this]
def akw(y:Oper.apart ops o' o=J_)(hs:∀cs b,o.op≠ .select cs b){c:M_->ap}(h:Fz P ops q o (a.put o'.dst u) w c):Fz P ops q o a w c:=by
 obtain⟨C,h2⟩:=abH y hs a u;unfold Fz at*
 rw[h2]at h;rcases h with⟨z,m,h⟩|⟨z,h⟩
 .refine D_ ⟨z,m,λro n K D=>?_⟩;have g:=h ro n (λF w1=> ∃v',F=(a.put o'.dst u).put o.dst v'/\K (a.put o.dst v') w1) λv' w' G=>⟨v',rfl,D v' w' G⟩;refine⟨λf _=>Kb ro f,?_⟩;have g:=g.2;have A:((o.semAt (uW ro).round (a.put o'.dst u).eval).run P w)=((o.semAt (uW ro).round a.eval).run P w):=by
   rw[Oper.semAt_eq _ _ _ m,Oper.semAt_eq _ _ _ m,C]
  rw[A]at g;have p:∀v v':M_,(a.put o'.dst u).put o.dst v=(a.put o'.dst u).put o.dst v'->a.put o.dst v=a.put o.dst v':=λv v'=>aq2 (by rw[FA])
  generalize (o.semAt (uW ro).round a.eval).run P w=r at*
  cases r with
  |ok x w'=>
   cases x with
   |value v=>simp only[Oper.uponIn]at g ⊢;obtain⟨v',i,k⟩:=g;rw[p _ _ i];exact k
   |skip=>simp only[Oper.uponIn]at g ⊢;obtain⟨v',i,k⟩:=g;rw[p _ _ i];exact k
   |defer d=>
    simp only[Oper.uponIn]at g;obtain⟨v',i,k⟩:=g;have H:=congrArg (λb:Act=>b.defers.length) i;simp only[put_defers,x_]at H;omega
   |enter f args=>
    simp only[Oper.uponIn]at g ⊢;refine⟨g.1,g.2.mono λe s i=>?_⟩;cases e with
    |returned v=>obtain⟨v',j,k⟩:=i;simp only;rw[p _ _ j];exact k
    |panicked c=>exact i
    |outgrown=>obtain⟨_,_,B⟩:=i;exact B.elim
   |round l f t as b=>
    simp only[Oper.uponIn]at g ⊢;refine⟨g.1,g.2.mono λe s i=>?_⟩;cases e with
    |returned v=>obtain⟨v',j,k⟩:=i;simp only;rw[p _ _ j];exact k
    |panicked c=>exact i
    |outgrown=>obtain⟨_,_,B⟩:=i;exact B.elim
   |row r args=>
    simp only[Oper.uponIn]at g ⊢;refine⟨g.1,RowsIn.mono g.2 λv s i=>?_⟩;obtain⟨v',j,k⟩:=i;rw[p _ _ j];exact k
   |_=>simp only[Oper.uponIn]at g
  |halt x w'=>cases x<;>simp only[Oper.uponIn]at g ⊢ <;>exact g
 .exact E_ ⟨z,h⟩
def akx(ops:Array Oper)(sO:Nat->Nat->Bool):Prop:=∀i j x y,i<j->ops[i]?=G_ x->ops[j]?=G_ y->sO j i=K_->Oper.apart ops x y=J_/\Oper.apart ops y x=J_
def af6(ops:Array Oper)(sO:Nat->Nat->Bool):Prop:=∀j i,sO j i=J_->∃o,ops[j]?=G_ o/\∃e∈o.after,Region.binds .any e=J_/\e.on<j/\(e.on=i\/sO e.on i=J_)
def M0(ops:Array Oper)(listed:Array Bool):Prop:=listed.size=ops.size/\∀j o,ops[j]?=G_ o->listed.getD j K_=J_->∀e∈o.after,Region.binds .any e=J_->listed.getD e.on K_=J_
def QF{sO:Nat->Nat->Bool}(a:af6 ops sO){listed:Array Bool}(c:M0 ops listed):∀(n j i:Nat),j<=n->(∀o,ops[j]?=G_ o->∀e∈o.after,Region.binds .any e=J_->listed.getD e.on K_=J_)->sO j i=J_->listed.getD i K_=J_
 |0,j,i,hj,hd,h=>by
  obtain⟨o,d,e,f,hb,b,_⟩:=a j i h;omega
 |n+1,j,i,hj,hd,h=>by
  obtain⟨o,d,e,f,hb,b,hx⟩:=a j i h;have g:=hd o d e f hb;rcases hx with rfl|hx
  .exact g
  .exact QF a c n e.on i af (λo' k=>c.2 e.on o' k g) hx
variable{listed:Array Bool}
def M0.set(c:M0 ops listed)(hi:i∈Region.ready .any ops listed):M0 ops (listed.setIfInBounds i J_):=by
 obtain⟨_,l,b,m⟩:=mem_ready.1 hi;refine⟨by simp[c.1],λj d f g e k hb=>?_⟩
 by_cases a:i=j
 .subst a;have:d=l:=G_.inj (f.symm.trans b);subst this;exact getD_set_true (m e k hb)
 .rw[getD_set_ne K_ a]at g;exact getD_set_true (c.2 j d f g e k hb)
def IJ(hi:i∈Region.ready .any ops listed):i<ops.size:=by
 obtain⟨_,b,a,_⟩:=mem_ready.1 hi;exact(Bf.1 a).1
def abI(a:i≠j)(b:j∈Region.ready .any ops listed):j∈Region.ready .any ops (listed.setIfInBounds i J_):=by
 obtain⟨c,o,d,h2⟩:=mem_ready.1 b;exact mem_ready.2 ⟨by rw[getD_set_ne J_ a];exact c,o,d,λe f hb=>getD_set_true (h2 e f hb)⟩
def OT(b:M0 ops listed)(hi:i<ops.size)(h:listed.getD i J_=K_):listed.getD i K_=false:=by
 have a:i<listed.size:=by rw[b.1];exact hi
 simp[a]at h ⊢;exact h
def aky{sO:Nat->Nat->Bool}(l:akx ops sO)(H:af6 ops sO):∀(f:Nat) (listed:Array Bool) (h:Nat->ap) (a:Act) (w:N_) (i:Nat) (o:Oper) (v:M_) (S:ap),
  M0 ops listed->(∀k,listed.getD k K_=K_->h k=λ_=>True)->i∈Region.ready .any ops listed->ops[i]?=G_ o->still P o=J_->S w->(∀w',S w'->Fy P ops o a w' v)->
  wpH P ops sO q Q f (listed.setIfInBounds i J_) (Tl h i S) (a.put o.dst v) w->wpH P ops sO q Q (f+1) listed h a w
 |f,listed,h,a,w,i,o,v,S,hc,hh,hi,ho,hst,hS,hv,hK=>by
  refine⟨λX=>(by rw[X]at hi;cases hi),λj s p m=>?_⟩
  by_cases b:i=j
  .subst b;have:p=o:=G_.inj (m.symm.trans ho);subst this;exact⟨λ_=>⟨v,S,hS,hv,hK⟩,λh'=>by rw[hst]at h';cases h'⟩
  .have t:=abI b s;have z:=abI (Ne.symm b) hi;obtain⟨I,_,_,Y⟩:=mem_ready.1 hi;obtain⟨J,_,_,Z⟩:=mem_ready.1 s;have A:=OT hc (IJ hi) I;have B:=OT hc (IJ s) J;have K:sO i j=false:=by
    cases hx:sO i j with
    |false=>rfl
    |true=>
     have:=QF H hc i i j (iw _) (λo' L=>(mem_ready.1 hi).2.elim λM d=>by
      have:o'=M:=G_.inj (L.symm.trans d.1);subst this;exact d.2) hx
     rw[B]at this;cases this
   have C:sO j i=false:=by
    cases hx:sO j i with
    |false=>rfl
    |true=>
     have:=QF H hc j j i (iw _) (λo' L=>(mem_ready.1 s).2.elim λM d=>by
      have:o'=M:=G_.inj (L.symm.trans d.1);subst this;exact d.2) hx
     rw[A]at this;cases this
   have e:Oper.apart ops o p=J_/\Oper.apart ops p o=true:=by
    rcases Nat.lt_or_gt_of_ne b with hlt|hlt
    .exact l i j o p hlt ho m C
    .exact(l j i p o hlt m ho K).symm
   have r:=Z0 hst;cases f with
   |zero=>rw[hK.1]at t;cases t
   |succ f=>
    obtain⟨h1,h2⟩:=hK.2 j t p m;have D:∀u,(a.put o.dst v).put p.dst u=(a.put p.dst u).put o.dst v:=λu=>Act.put_comm a v u (Oper.apart_spec e.1).2.1;have W:(listed.setIfInBounds i J_).setIfInBounds j J_=(listed.setIfInBounds j J_).setIfInBounds i true:=Array.setIfInBounds_comm _ _ b;have N:∀T,∀k,(listed.setIfInBounds j J_).getD k K_=K_->Tl h j T k=λ_=>True:=by
     intro T k x;by_cases c:k=j
     .subst c;rw[show(listed.setIfInBounds k J_).getD k K_=J_ by
        have:k<listed.size:=by rw[hc.1];exact IJ s
        simp[this]]at x
      cases x
     .unfold Tl;rw[HQ c];exact hh k (by rwa[getD_set_ne K_ (Ne.symm c)]at x)
    refine⟨λhs=>?_,λhs=>?_⟩
    .obtain⟨u,T,hT,hu,g⟩:=h1 hs;have n:=Z0 hs;refine⟨u,T,hT,λw' y=>(Va e.1 n).1 (hu w' y),?_⟩;refine aky l H f _ _ _ w i o v S (hc.set s) (N T) z ho hst hS (λw' y=>(Va e.2 r).2 (hv w' y)) ?_;rw[D u,W,aou h b]at g;exact g
    .obtain⟨n,h2⟩:=h2 hs;refine⟨n,(akw e.1 n h2).mono λu w' ⟨F,g⟩=>⟨λk x=>?_,?_⟩⟩
     .by_cases G:k=i
      .subst G;rw[hh k A];trivial
      .have:=F k x;unfold Tl at this;rwa[HQ G]at this
     .have O:S w':=by
       have:=F i C;unfold Tl at this;rwa[HK rfl]at this
      have R:∀k,(listed.setIfInBounds j J_).getD k K_=K_->h k=λ_=>True:=by
       intro k x;by_cases c:k=j
       .subst c;exact hh k B
       .exact hh k (by rwa[getD_set_ne K_ (Ne.symm c)]at x)
      refine aky l H f _ _ _ w' i o v S (hc.set s) R z ho hst O (λU V=>(Va e.2 r).2 (hv U V)) ?_;rw[D u,W]at g;exact g
def It(m i k:Nat):(m|||2 ^ i).testBit k=(m.testBit k||L_ (i=k)):=by
 rw[Nat.testBit_or,Nat.testBit_two_pow]
def aq6(l:List Edge):∀(s k:Nat),(l.foldl (λs e=>if Region.binds .any e then s|||2 ^ e.on else s) s).testBit k=J_↔s.testBit k=J_\/∃e∈l,Region.binds .any e=J_/\e.on=k:=by
 induction l with
 |nil=>intro s k;simp
 |cons e l ih=>
  intro s k;rw[q_,ih];by_cases hb:Region.binds .any e=J_
  .rw[HK hb,It];simp only[Bool.or_eq_true,decide_eq_true_eq,BP];constructor
   .rintro((h|h)|⟨e',h1,h2,h3⟩)
    .exact D_ h
    .exact E_ ⟨e,D_ rfl,hb,h⟩
    .exact E_ ⟨e',E_ h1,h2,h3⟩
   .rintro(h|⟨e',h1|h1,h2,h3⟩)
    .exact D_ (D_ h)
    .subst h1;exact D_ (E_ h3)
    .exact E_ ⟨e',h1,h2,h3⟩
  .rw[HQ hb];simp only[BP];constructor
   .rintro(h|⟨e',h1,h2,h3⟩)
    .exact D_ h
    .exact E_ ⟨e',E_ h1,h2,h3⟩
   .rintro(h|⟨e',h1|h1,h2,h3⟩)
    .exact D_ h
    .subst h1;exact absurd h2 hb
    .exact E_ ⟨e',h1,h2,h3⟩
def WG(o:Oper)(k:Nat):(Gn o).testBit k=J_↔∃e∈o.after,Region.binds .any e=J_/\e.on=k:=by
 unfold Gn;rw[<-U_,aq6];simp
def aeJ:(g&&&m==g)=J_↔∀k,g.testBit k=J_->m.testBit k=true:=by
 rw[beq_iff_eq];constructor
 .intro h k a;rw[<-h,Nat.testBit_and]at a;simp only[iY]at a;exact a.2
 .intro h;apply Nat.eq_of_testBit_eq;intro k;rw[Nat.testBit_and];cases hx:g.testBit k
  .rfl
  .simp[h k hx]
def LM(ops:Array Oper)(m:Nat)(listed:Array Bool):Prop:=listed.size=ops.size/\∀i d,i<ops.size->listed.getD i d=m.testBit i
def LM.set(h:LM ops m listed)(hi:i<ops.size):LM ops (m|||2 ^ i) (listed.setIfInBounds i J_):=by
 refine⟨by simp[h.1],λk d b=>?_⟩
 rw[It];by_cases a:i=k
 .subst a;have:i<listed.size:=by rw[h.1];exact hi
  simp[this]
 .rw[getD_set_ne d a,h.2 k d b];simp[a]
def rdy(ops:Array Oper)(m i:Nat)(o:Oper):Prop:=ops[i]?=G_ o/\(!m.testBit i&&(Gn o&&&m==Gn o))=J_
def abK(hb:SQ ops=J_)(c:ops[j]?=G_ o):∀e∈o.after,Region.binds .any e=J_->e.on<j:=by
 intro e d a;have f:j<ops.size:=(Bf.1 c).1;unfold SQ at hb;rw[tL]at hb;have b:=hb j (C8.2 f);rw[c]at b;simp only[Array.all_eq_true']at b;have h2:=b e d;simpa[a,Nat.blt_eq]using h2
def aq7(hb:SQ ops=J_)(h:LM ops m listed):i∈Region.ready .any ops listed↔∃o,rdy ops m i o:=by
 rw[mem_ready];constructor
 .rintro⟨c,o,b,h2⟩;have hi:i<ops.size:=(Bf.1 b).1;refine⟨o,b,?_⟩;simp only[iY,i_];refine⟨by rw[<-h.2 i J_ hi];exact c,aeJ.2 λk f=>?_⟩
  obtain⟨e,d,a,rfl⟩:=(WG o k).1 f;have:=h2 e d a;rwa[h.2 e.on K_ (by have:=abK hb b e d a;omega)]at this
 .rintro⟨o,b,c⟩;have hi:i<ops.size:=(Bf.1 b).1;simp only[iY,i_]at c;refine⟨by rw[h.2 i J_ hi];exact c.1,o,b,λe d a=>?_⟩
  rw[h.2 e.on K_ (by have:=abK hb b e d a;omega)]
  exact aeJ.1 c.2 e.on ((WG o e.on).2 ⟨e,d,a,rfl⟩)
def OU{m:Nat}:∀{n i0 i:Nat},Cu P ops m n i0=G_ i->∃o,rdy ops m i o/\still P o=J_
 |0,_,_,h=>by simp[Cu]at h
 |n+1,i0,i,h=>by
  unfold Cu at h;split at h
  .rename_i o b;split at h
   .rename_i a;cases h
    simp only[iY]at a;exact⟨o,⟨b,by simp only[iY];exact a.1⟩,a.2⟩
   .exact OU h
  .cases h
def OV{m:Nat}:∀{n i0:Nat},Cu P ops m n i0=H_->∀i o,i0<=i->i<i0+n->rdy ops m i o->still P o=K_
 |0,i0,_,i,_,h1,h2,_=>by omega
 |n+1,i0,h,i,o,h1,h2,hr=>by
  unfold Cu at h;split at h
  .rename_i b a;split at h
   .cases h
   .rename_i c;by_cases hi:i=i0
    .subst hi;have:o=b:=G_.inj (hr.1.symm.trans a);subst this;cases hs:still P o with
     |false=>rfl
     |true=>exact absurd (by simp only[iY];exact⟨gq hr.2,hs⟩) c
    .exact OV h i o af af hr
  .rename_i d;have hi:i<ops.size:=(Bf.1 hr.1).1;have:ops.size<=i0:=by simpa using d
   omega
def KV:i∈LD ops m↔∃o,rdy ops m i o:=by
 unfold LD rdy;rw[C5,C8];constructor
 .rintro⟨_,h⟩;split at h
  .rename_i o a;exact⟨o,a,h⟩
  .cases h
 .rintro⟨o,a,h⟩;exact⟨(Bf.1 a).1,by rw[a];exact h⟩
def abL{c:Nat->Prop}:∀{l:List Nat},akk l c->∀i∈l,c i
 |[],_,i,hi=>by cases hi
 |[j],h,i,hi=>by rcases BP.1 hi with rfl|hi;exact h;cases hi
 |j::k::l,h,i,hi=>by
  rcases BP.1 hi with rfl|hi
  .exact h.1
  .exact abL h.2 i hi
def Ke(m n:Nat):Nat:=(CX n).countP λi=> !m.testBit i
def abM(m n:Nat):Ke m (n+1)=Ke m n+if m.testBit n then 0 else 1:=by
 unfold Ke;rw[List.range_succ,List.countP_append];cases h:m.testBit n<;>simp[h]
def SY{m i:Nat}(a:m.testBit i=K_):∀{n:Nat},(i<n->Ke (m|||2 ^ i) n+1=Ke m n)/\(n<=i->Ke (m|||2 ^ i) n=Ke m n)
 |0=>⟨λh=>by omega,λ_=>rfl⟩
 |n+1=>by
  obtain⟨b,h2⟩:=SY a (n:=n);rw[abM,abM,It];constructor
  .intro h;by_cases hi:i=n
   .subst hi;have:=h2 (iw _);simp[a,this]
   .have:=b af;simp only[hi,decide_false,Bool.or_false];omega
  .intro h;have:=h2 af;have hi:i≠n:=af;simp only[hi,decide_false,Bool.or_false,this]
def HR(hs:List OO)(h:Nat->ap):Prop:=∀k w',(∀x∈hs,x.i=k->MY x.n x.a x.w w')->h k w'
def QG{sO:Nat}:∀{hs:List OO} {w:N_} {c:Prop},Wn sO hs w c->c/\∀x∈hs,sO.testBit x.i=K_->MY x.n x.a x.w w
 |[],_,_,h=>⟨h,λx hx=>by cases hx⟩
 |y::hs,w,c,h=>by
  unfold Wn at h;split at h
  .rename_i hb;obtain⟨d,h2⟩:=QG h;refine⟨d,λx hx b=>?_⟩;rcases BP.1 hx with rfl|hx
   .rw[hb]at b;cases b
   .exact h2 x hx b
  .obtain⟨e,h⟩:=h;obtain⟨d,h2⟩:=QG h;refine⟨d,λx hx b=>?_⟩;rcases BP.1 hx with rfl|hx
   .exact e
   .exact h2 x hx b
variable{hs:List OO}
def adV{c:Env->List OO->Prop}(b:Sub e a)(q:Fits o a)(j:o.op= .load t x)
  (h:Qv P ops i o t x e w hs c):
  ∃e' hs' v S,c e' hs'/\Sub e' (a.put o.dst v)/\S w/\(∀w',S w'->Fy P ops o a w' v)/\(hs'=hs/\(S=λ_=>True)\/∃n p,hs'=⟨i,n,p,w⟩::hs/\(S=λw'=>MY n p w w')):=by
 have key:∀(e:Env),Sub e a->Region.wanted o (yielded ops a.tmps)=J_->(JW P t (e.op x) w λv=>c (e.Wh o.dst v) (afW P i t (e.op x) w hs))->
   ∃e' hs' v S,c e' hs'/\Sub e' (a.put o.dst v)/\S w/\(∀w',S w'->Fy P ops o a w' v)/\(hs'=hs/\(S=λ_=>True)\/∃n p,hs'=⟨i,n,p,w⟩::hs/\(S=λw'=>MY n p w w')):=by
  intro e d f h;obtain⟨p,u,s,r,y⟩:=ZV (qi d) j h;rw[s]at r;exact⟨_,_,u,λw'=>MY (MR P t) p w w',r,zo d q,λ_ _=>rfl,λw' k=>D_ ⟨f,y w' k⟩,E_ ⟨_,_,rfl,rfl⟩⟩
 unfold Qv at h;split at h
 .rename_i z;exact key e b (AP z _) h
 .split at h
  .exact h.elim
  .rename_i g want l;have f:=QC (a:=a) l;rcases IU b h with⟨e',hs',m,h⟩|⟨e',hs',m,h⟩
   .exact key _ hs' (by rw[f,m]) h
   .exact⟨_,hs,undef,λ_=>True,h,zo hs' q,trivial,λw' _=>E_ ⟨by rw[f,m],rfl⟩,D_ ⟨rfl,rfl⟩⟩
def amO{hs':List OO}{h:Nat->ap}(c:HR hs h)
  (a:hs'=hs/\(x1=λ_=>True)\/∃n p,hs'=⟨i,n,p,w⟩::hs/\(x1=λw'=>MY n p w w')):HR hs' (Tl h i x1):=by
 intro k w' b;unfold Tl;split
 .rename_i d;rcases a with⟨_,rfl⟩|⟨n,p,rfl,rfl⟩
  .trivial
  .exact b _ C4 d.symm
 .rcases a with⟨rfl,_⟩|⟨n,p,rfl,_⟩
  .exact c k w' b
  .exact c k w' λx a e=>b x (C3 _ a) e
def Yw{bY:ey}{sO:Array Nat}(U:tK P bY q)(hb:SQ ops=J_)(C:akx ops λj i=>(sO.getD j 0).testBit i)(D:af6 ops λj i=>(sO.getD j 0).testBit i)
  (A:∀o∈ops,∀cs b,o.op≠ .select cs b):
  ∀(fuel m:Nat) (hs:List OO) (e:Env) (w:N_) (a:Act) (listed:Array Bool) (h:Nat->ap) (c:Env->ap),LM ops m listed->M0 ops listed->(∀k,listed.getD k K_=K_->h k=λ_=>True)->HR hs h->
  SX a.tmps.size ops=J_->Sub e a->JY P bY ops sO fuel m hs e w c->(∀e' w' a',c e' w'->Sub e' a'->o8 (WE ops) a a'->Q .normal a' w')->
  wpH P ops (λj i=>(sO.getD j 0).testBit i) q Q (Ke m ops.size) listed h a w
 |0,_,_,_,_,_,_,_,_,_,_,_,_,_,_,h,_=>h.elim
 |fuel+1,m,hs,e,w,a,listed,hh,c,B,V,hun,hr,hf,hs0,h,hQ=>by
  unfold JY at h;have s:∀i,i∈Region.ready .any ops listed↔∃o,rdy ops m i o:=λi=>aq7 hb B;split at h
  .rename_i i F;obtain⟨o,d,g⟩:=OU F;have n:=(s i).2 ⟨o,d⟩;have hi:=IJ n;have p:o∈ops:=c_ d.1;have G:m.testBit i=false:=by have:=d.2;simp only[iY,i_]at this;exact this.1
   rw[d.1]at h;simp only at h;have M:=(SY G).1 hi;rw[<-M];have H:∀S,∀k,(listed.setIfInBounds i J_).getD k K_=K_->Tl hh i S k=λ_=>True:=by
    intro S k I;by_cases u:k=i
    .subst u;have:k<listed.size:=by rw[B.1];exact hi
     simp[this]at I
    .unfold Tl;rw[HQ u];exact hun k (by rwa[getD_set_ne K_ (Ne.symm u)]at I)
   have fin:∀e' hs' v S,(lP e' λe=>JY P bY ops sO fuel (m|||2 ^ i) hs' e w c)->Sub e' (a.put o.dst v)->S w->(∀w',S w'->Fy P ops o a w' v)->HR hs' (Tl hh i S)->
     wpH P ops (λj i=>(sO.getD j 0).testBit i) q Q (Ke (m|||2 ^ i) ops.size+1) listed hh a w:=by
    intro e' hs' v S hd r W hv J;rw[kU]at hd;refine aky C D _ listed hh a w i o v S V hun n d.1 g W hv<|Yw U hb C D A fuel _ hs' e' w _ _ _ c (B.set hi) (V.set n) (H S) J (by rw[FA];exact hf) r hd λe2 X Y Z h2 h3=>
     hQ e2 X Y Z h2 ((o8.put λx z=>II p z).trans h3)
   split at h
   .rename_i t x T;have hop:o.op= .load t x:=by unfold JX at T;split at T<;>simp_all
    obtain⟨e',hs',v,S,hc,r,W,hv,z⟩:=adV hs0 (Kc hf p) hop h;exact fin e' hs' v S hc r W hv (amO hr z)
   .rename_i T;have hbl:U2 P o.op=true:=by
     unfold still at g;rw[T]at g;simpa using g
    obtain⟨e',v,hc,r,hv⟩:=aot hs0 (Kc hf p) hbl h;exact fin e' hs v (λ_=>True) hc r trivial (λw' _=>hv w') (amO (w:=w) hr (D_ ⟨rfl,rfl⟩))
  .rename_i F;have aDa:∀i o,rdy ops m i o->still P o=false:=λi o d=>
    OV F i o (Nat.zero_le _) (by have:=(Bf.1 d.1).1;omega) d
   split at h
   .rename_i N;split at h
    .rename_i lG;rw[tL]at lG;have O:Region.ready .any ops listed=[]:=by
      cases K:Region.ready .any ops listed with
      |nil=>rfl
      |cons i l=>
       have hi:i∈Region.ready .any ops listed:=by rw[K];exact C4
       have:=KV.2 ((s i).1 hi);rw[N]at this;cases this
     have hq:=hQ e w a h hs0 (.refl _ _);cases hcn:Ke m ops.size with
     |zero=>exact⟨O,hq⟩
     |succ f=>exact⟨λ_=>hq,λi hi=>by rw[O]at hi;cases hi⟩
    .exact h.elim
   .rename_i l hne;have lG:=abL h;have hex:∃i,i∈LD ops m:=by
     cases K:LD ops m with
     |nil=>exact absurd K hne
     |cons i l=>exact⟨i,C4⟩
    obtain⟨i0,Yx⟩:=hex;obtain⟨o0,L⟩:=KV.1 Yx;have aDc:=IJ ((s i0).2 ⟨o0,L⟩);have hm0:m.testBit i0=false:=by have:=L.2;simp only[iY,i_]at this;exact this.1
    have hpos:=(SY hm0).1 aDc;cases hcn:Ke m ops.size with
    |zero=>omega
    |succ f=>
     refine⟨λJ=>?_,λi n o R=>⟨λg=>?_,λ_=>?_⟩⟩
     .have:=(s i0).2 ⟨o0,L⟩;rw[J]at this;cases this
     .obtain⟨o',d⟩:=(s i).1 n;have:o=o':=G_.inj (R.symm.trans d.1);subst this;rw[aDa i o d]at g;cases g
     .obtain⟨o',d⟩:=(s i).1 n;have:o=o':=G_.inj (R.symm.trans d.1);subst this;have hi:=IJ n;have p:o∈ops:=c_ d.1;have G:m.testBit i=false:=by have:=d.2;simp only[iY,i_]at this;exact this.1
      have M:=(SY G).1 hi;have hfe:f=Ke (m|||2 ^ i) ops.size:=af;have g:=lG i (KV.2 ⟨o,d⟩);rw[d.1]at g;simp only at g;refine⟨A o p,(aeG hs0 (Kc hf p) U g).mono λv w' z=>?_⟩;obtain⟨e',z,r⟩:=z;obtain⟨z,aAN⟩:=QG z;rw[kU]at z;refine⟨λk I=>hr k w' λy hy hyk=>aAN y hy (by rw[hyk];exact I),?_⟩
      rw[hfe];have H:∀k,(listed.setIfInBounds i J_).getD k K_=K_->hh k=λ_=>True:=by
       intro k I;by_cases u:k=i
       .subst u;have:k<listed.size:=by rw[B.1];exact hi
        simp[this]at I
       .exact hun k (by rwa[getD_set_ne K_ (Ne.symm u)]at I)
      exact Yw U hb C D A fuel _ hs e' w' _ _ _ c (B.set hi) (V.set n) H hr (by rw[FA];exact hf) r z λe2 X Y Z h2 h3=>
       hQ e2 X Y Z h2 ((o8.put λx z=>II p z).trans h3)
def adW(h:noSelect ops=J_):∀o∈ops,∀cs b,o.op≠ .select cs b:=by
 intro o a cs b hb;unfold noSelect at h;rw[tL]at h;have:=h o (gq a)
 simp[hb]at this
def agb{sO:Array Nat}(h:abr ops sO=J_):akx ops λj i=>(sO.getD j 0).testBit i:=by
 intro i j x y a d b e;have f:j<ops.size:=(Bf.1 b).1;unfold abr at h;rw[tL]at h;have c:=h j (C8.2 f);rw[tL]at c;have h2:=c i (C8.2 a);simp only[e,Bool.false_or,d,b,iY]at h2;exact h2
def ara(acc:Array Nat)(l:List Edge):∀(s k:Nat),(l.foldl (λs e=>if Region.binds .any e then s|||2 ^ e.on|||acc.getD e.on 0 else s) s).testBit k=J_->s.testBit k=J_\/∃e∈l,Region.binds .any e=J_/\(e.on=k\/(acc.getD e.on 0).testBit k=J_):=by
 induction l with
 |nil=>intro s k h;exact D_ h
 |cons e l ih=>
  intro s k h;rw[q_]at h;rcases ih _ k h with h|⟨e',h1,h2,h3⟩
  .split at h
   .rename_i hb;rw[Nat.testBit_or,It]at h;simp only[Bool.or_eq_true,decide_eq_true_eq]at h;rcases h with(h|h)|h
    .exact D_ h
    .exact E_ ⟨e,C4,hb,D_ h⟩
    .exact E_ ⟨e,C4,hb,E_ h⟩
   .exact D_ h
  .exact E_ ⟨e',C3 _ h1,h2,h3⟩
def abN(ops:Array Oper)(acc:Array Nat):Prop:=∀j i,(acc.getD j 0).testBit i=J_->∃o,ops[j]?=G_ o/\∃e∈o.after,Region.binds .any e=J_/\(e.on=i\/(acc.getD e.on 0).testBit i=J_)
def abO:∀(l:List Oper) (acc:Array Nat),(∀k,l[k]?=ops[acc.size+k]?)->abN ops acc->abN ops (amF l acc)
 |[],acc,_,h=>h
 |o::l,acc,hl,h=>by
  unfold amF;have p:ops[acc.size]?=G_ o:=by have:=hl 0;simpa using this.symm
  refine abO l _ (λk=>by have:=hl (k+1);simp at this ⊢;rw[this];congr 1;omega) ?_
  intro j i a;have c:∀x,(acc.getD x 0).testBit i=J_->((acc.push (akl acc o)).getD x 0).testBit i=true:=by
   intro x d;by_cases b:x<acc.size
   .simp[X_,b]at d ⊢;rw[HQ af];simpa[b]using d
   .simp[W_ (Nat.le_of_not_lt b)]at d
  by_cases n:j=acc.size
  .subst n;simp at a;unfold akl at a;rw[<-U_]at a;rcases ara acc _ 0 i a with hz|⟨e,f,h2,g⟩
   .simp at hz
   .exact⟨o,p,e,gq f,h2,g.imp id (c _)⟩
  .have m:(acc.getD j 0).testBit i=true:=by
    simp[X_,n]at a ⊢;exact a
   obtain⟨o',q,e,f,h2,g⟩:=h j i m;exact⟨o',q,e,f,h2,g.imp id (c _)⟩
def arc(hb:SQ ops=J_):af6 ops λj i=>((aeA ops).getD j 0).testBit i:=by
 intro j i h;have c:abN ops (aeA ops):=abO ops.toList #[] bf (by intro j i h;simp at h)
 obtain⟨o,a,e,b,h2,d⟩:=c j i h;exact⟨o,a,e,b,h2,abK hb a e b h2,d⟩
def OW(n i:Nat)(d:Bool)(h:i<n):(d_ n K_).getD i d=false:=by simp[h]
def agc(l:P.follows .mixedOrders=J_)(m:tK P bY q)(hq:∀g a' w',o8 (WE ops) a a'->q g w'->Q (.panic g) a' w')(b:afX ops=J_)
  (p:SX a.tmps.size ops=J_) (hs:Sub e a) (h:JY P bY ops (aeA ops) (ops.size+1) 0 [] e w.drew c) (r:∀e' w' a',c e' w'->Sub e' a'->o8 (WE ops) a a'->Q .normal a' w'):
  (Code.region y1 ops J_).wpIn (uW ro) n P Q a w:=by
 unfold afX at b;simp only[iY]at b;obtain⟨⟨hb,s⟩,t⟩:=b;refine wpIn_region_any l (QE (sO:=λj i=>((aeA ops).getD j 0).testBit i) _ _ (λ_ _=>True) _ _ hq ?_);have f:Ke 0 ops.size=ops.size:=by
  unfold Ke;rw[List.countP_eq_length.2 bf];simp
 have:=Yw m hb (agb s) (arc hb) (adW t) (ops.size+1) 0 [] e w.drew a (d_ ops.size K_) (λ_ _=>True) c
  ⟨bf,λi d hi=>by rw[OW _ _ _ hi];simp⟩ ⟨bf,λj o u k=>by
   rw[OW _ _ _ (Bf.1 u).1]at k;cases k⟩ (λ_ _=>rfl) (λ_ _ _=>trivial) p hs h r
 rw[f]at this;exact this
def ard:Ex->Exit
 | .normal=> .normal
 | .exit id=> .exit id
 | .ret=> .ret
def rQ{a:Act}:∀{ks:List (Nat×K)} {e:Env} {c:HT ks->Prop},Sub e a->uo ks e c->∃x,c x/\Sub (Be ks x) a
 |[],e,c,_,h=>⟨(),h,λp hp=>by cases hp⟩
 |[(s,k)],e,c,hs,h=>by
  unfold uo at h;split at h
  .rename_i v hv;obtain⟨x,rfl,b⟩:=Wx h;refine⟨x,b,λp hp=>?_⟩;rcases BP.1 hp with rfl|hp
   .exact hs _ (Dc hv)
   .cases hp
  .exact h.elim
 |(s,k)::(y::r),e,c,hs,h=>by
  unfold uo at h;split at h
  .rename_i v hv;obtain⟨x,rfl,h'⟩:=Wx h;obtain⟨xs,b,d⟩:=rQ hs h';refine⟨(x,xs),b,λp hp=>?_⟩;rcases BP.1 hp with rfl|hp
   .exact hs _ (Dc hv)
   .exact d _ hp
  .exact h.elim
def are(h:Sub e a):Sub (e.keep m) a:=λp b=>h p (C5.1 b).1
def agd{a':Act}{c:AC}(h:Sub e a)(f:o8 c.writes a a'):Sub (e.unw c) a':=by
 intro p b;unfold Env.unw at b;rw[C5]at b;obtain⟨b,d⟩:=b;obtain⟨s,x⟩:=p;simp only[iY,i_]at d;have i:=h _ b;cases x with
 |val v=>show _=_;rw[f.2.2 s d.1];exact i
 |gd g want v=>exact absurd d.2 bf
variable{x3:Env}
def Cz(h:Sub e a)(h':Sub x3 a):Sub (e++x3) a:=λp b=>(zw.1 b).elim (h p) (h' p)
def ah8{b:Bool}(hs:Sub e a)(h:e.op x=G_ (.bool b)):a.eval x= .bool b:=qi hs _ _ h
def Gr{F:Fence}{c:Code}(h:c.wpIn F n P (Exit.noGoto Q) a w):(Code.scope c).wpIn F n P Q a w:=by
 intro b k cs g hb i;have d:(lone (b.atR a (.code (.scope c)::k)) cs w).fenced P F:=fenced_calm hb i rfl;obtain⟨e,a₁,w₁,hq,f⟩:=h b (.inScope c::k) cs g hb i;have hstep:step P (lone (b.atR a (.code (.scope c)::k)) cs w)= .next (lone (b.atR a (.code c:: .inScope c::k)) cs w):=step_lone_go (by simp[stepG,stepG.exec,Frame.atR])
 cases e with
 |normal=>exact⟨.normal,a₁,w₁,hq,.head d hstep (StepsIn.trans f (.one (fenced_calm hb i rfl) (step_lone_go (by simp[stepG,stepG.exec,Frame.atR]))))⟩
 |exit id=>
  have o:exitTo id (.inScope c::k)=exitTo id k:=by simp[exitTo]
  exact⟨.exit id,a₁,w₁,hq,λk' j=> .head d hstep (f.1 k' (by rw[o];exact j)),
   λm j=>let ⟨k₁,h1,h2⟩:=f.2 m (by rw[o];exact j);⟨k₁,h1,.head d hstep h2⟩⟩
 |goto l=>exact hq.elim
 |ret=>exact⟨_,a₁,w₁,hq,.of_steps (.one d hstep) f⟩
 |panic ch=>exact⟨_,a₁,w₁,hq,.of_steps (.one d hstep) f⟩
 |outgrown=>exact⟨_,a₁,w₁,hq,.of_steps (.one d hstep) f⟩
def rE{bY:ey}{mask:Nat}{ro:Option Nat}{n0:Nat}(u:P.follows .mixedOrders=J_)(p:tK P bY q):∀(c:AC) (e:Env) (w:N_) (a:Act) (k:Ex->Env->ap) (Q:Exit->Act->ap),(∀I a' w',o8 c.writes a a'->q I w'->Q (.panic I) a' w')->
  Sub e a->c.fits a.tmps.size=J_->ev P bY mask c e w k->(∀x e' w' a',k x e' w'->Sub e' a'->o8 c.writes a a'->Q (ard x) a' w')->c.code.wpIn (uW ro) n0 P Q a w
 | .skip,e,w,a,k,Q,hq,hs,_,h,hQ=>wpIn_skip (hQ .normal e w a h hs (.refl _ _))
 | .label l,e,w,a,k,Q,hq,hs,_,h,hQ=>wpIn_label (hQ .normal e w a h hs (.refl _ _))
 | .exit id,e,w,a,k,Q,hq,hs,_,h,hQ=>wpIn_exit (hQ (.exit id) e w a h hs (.refl _ _))
 | .ret,e,w,a,k,Q,hq,hs,_,h,hQ=>wpIn_ret (hQ .ret e w a h hs (.refl _ _))
 | .bad c,e,w,a,k,Q,hq,_,_,h,_=>h.elim
 | .scope x,e,w,a,k,Q,hq,hs,hf,h,hQ=>by
  refine Gr (rE u p x e w a k _ (by exact λ_ _ _ g h=>hq _ _ _ (by first|exact g|exact f.trans g|exact g.mono λs d=>(by simp only[AC.writes,kf]at d;first|exact d.1|exact d.2)|exact m.trans (g.mono λs d=>(by simp only[AC.writes,kf]at d;first|exact d.1|exact d.2))) h) hs hf h λz e' w' a' r h2 v=>?_)
  cases z<;>exact hQ _ e' w' a' r h2 v
 | .region id ops draw,e,w,a,k,Q,hq,hs,hf,h,hQ=>by
  unfold ev at h;have A:SX a.tmps.size ops=true:=hf;have fin:∀e' w' a',(lP (e'.keep mask) λe=>k .normal e w')->Sub e' a'->o8 (WE ops) a a'->Q .normal a' w':=by
   intro e' w' a' r h2 v;rw[kU]at r;exact hQ .normal _ w' a' r (are h2) v
  cases draw with
  |true=>
   simp only[if_true]at h;split at h
   .rename_i g;exact agc u p hq g A hs h fin
   .exact h.elim
  |false=>
   simp only[h_,if_false]at h;exact wpIn_region_list (aeH p ops.toList e w a _ hq (λo h=>gq h) A hs h fin)
 | .seq x y,e,w,a,k,Q,hq,hs,hf,h,hQ=>by
  unfold ev at h;simp only[AC.fits,iY]at hf;refine wpIn_seq (rE u p x e w a _ _ (by exact λ_ _ _ g h=>hq _ _ _ (by first|exact g|exact f.trans g|exact g.mono λs d=>(by simp only[AC.writes,kf]at d;first|exact d.1|exact d.2)|exact m.trans (g.mono λs d=>(by simp only[AC.writes,kf]at d;first|exact d.1|exact d.2))) h) hs hf.1 h λz e' w' a' j hs' f=>?_)
  have m:o8 (AC.seq x y).writes a a':=f.mono λs d=>by simp only[AC.writes,kf]at d;exact d.1
  cases z with
  |normal=>
   refine rE u p y e' w' a' k Q (by exact λ_ _ _ g h=>hq _ _ _ (by first|exact g|exact f.trans g|exact g.mono λs d=>(by simp only[AC.writes,kf]at d;first|exact d.1|exact d.2)|exact m.trans (g.mono λs d=>(by simp only[AC.writes,kf]at d;first|exact d.1|exact d.2))) h) hs' (by rw[f.1];exact hf.2) j λz J F a'' r h2 v=>hQ z J F a'' r h2 (m.trans (v.mono λs d=>?_))
   simp only[AC.writes,kf]at d;exact d.2
  |exit id=>exact hQ (.exit id) e' w' a' j hs' m
  |ret=>exact hQ .ret e' w' a' j hs' m
 | .cond c x y,e,w,a,k,Q,hq,hs,hf,h,hQ=>by
  unfold ev at h;simp only[AC.fits,iY]at hf;split at h
  .rename_i t K;refine wpIn_cond (ah8 hs K) ?_;cases t
   .exact rE u p y e w a k Q (by exact λ_ _ _ g h=>hq _ _ _ (by first|exact g|exact f.trans g|exact g.mono λs d=>(by simp only[AC.writes,kf]at d;first|exact d.1|exact d.2)|exact m.trans (g.mono λs d=>(by simp only[AC.writes,kf]at d;first|exact d.1|exact d.2))) h) hs hf.2 h λz e' w' a' r h2 v=>hQ z e' w' a' r h2 (v.mono λs d=>by simp only[AC.writes,kf]at d;exact d.2)
   .exact rE u p x e w a k Q (by exact λ_ _ _ g h=>hq _ _ _ (by first|exact g|exact f.trans g|exact g.mono λs d=>(by simp only[AC.writes,kf]at d;first|exact d.1|exact d.2)|exact m.trans (g.mono λs d=>(by simp only[AC.writes,kf]at d;first|exact d.1|exact d.2))) h) hs hf.1 h λz e' w' a' r h2 v=>hQ z e' w' a' r h2 (v.mono λs d=>by simp only[AC.writes,kf]at d;exact d.1)
  .exact h.elim
 | .block id x,e,w,a,k,Q,hq,hs,hf,h,hQ=>by
  unfold ev at h;refine wpIn_block (rE u p x e w a _ _ (by exact λ_ _ _ g h=>hq _ _ _ (by first|exact g|exact f.trans g|exact g.mono λs d=>(by simp only[AC.writes,kf]at d;first|exact d.1|exact d.2)|exact m.trans (g.mono λs d=>(by simp only[AC.writes,kf]at d;first|exact d.1|exact d.2))) h) hs hf h λz e' w' a' j hs' f=>?_)
  cases z with
  |normal=>exact hQ .normal e' w' a' j hs' f
  |ret=>exact hQ .ret e' w' a' j hs' f
  |exit i=>
   simp only at j;show(if i=id then Q .normal a' w' else Q (.exit i) a' w')
   split at j
   .rename_i hb;rw[HK (beq_eq hb)];exact hQ .normal e' w' a' j hs' f
   .rename_i hb;have G:i≠id:=by simpa using hb
    rw[HQ G];exact hQ (.exit i) e' w' a' j hs' f
 | .join ks x,e,w,a,k,Q,hq,hs,hf,h,hQ=>by
  unfold ev cz at h;refine rE u p x e w a _ Q (by exact λ_ _ _ g h=>hq _ _ _ (by first|exact g|exact f.trans g|exact g.mono λs d=>(by simp only[AC.writes,kf]at d;first|exact d.1|exact d.2)|exact m.trans (g.mono λs d=>(by simp only[AC.writes,kf]at d;first|exact d.1|exact d.2))) h) hs hf h λz e' w' a' j hs' f=>?_
  cases z with
  |normal=>
   obtain⟨y,D,B⟩:=rQ hs' j;rw[kU]at D;exact hQ .normal _ w' a' D (Cz B (agd hs f)) f
  |exit id=>exact hQ (.exit id) e' w' a' j hs' f
  |ret=>exact hQ .ret e' w' a' j hs' f
 | .loop ks x,e,w,a,k,Q,hq,hs,hf,h,hQ=>by
  unfold ev at h;obtain⟨y,D,B⟩:=rQ hs h;obtain⟨n,L⟩:=D;refine wpIn_loop_rounds n ?_;have key:∀n y w b,jV (λC y w=>lP (Be ks y++e.unw x) λe=>ev P bY mask x e w λz e w=>match z with| .normal=>uo ks e λy=>C y w|z=>k z e w) n y w->
    Sub (Be ks y) b->o8 x.writes a b->Code.roundsIn (uW ro) n0 P x.code Q n b w:=by
   intro n;induction n with
   |zero=>intro y w b h;exact h.elim
   |succ n ih=>
    intro y w b h B f;unfold jV at h;rw[kU]at h;rw[roundsIn_succ];refine rE u p x _ w b _ _ (by exact λ_ _ _ g h=>hq _ _ _ (by first|exact g|exact f.trans g|exact g.mono λs d=>(by simp only[AC.writes,kf]at d;first|exact d.1|exact d.2)|exact m.trans (g.mono λs d=>(by simp only[AC.writes,kf]at d;first|exact d.1|exact d.2))) h) (Cz B (agd hs f)) (by rw[f.1];exact hf) h λz e' w' a' j hs' m=>?_
    cases z with
    |normal=>
     obtain⟨M,H,N⟩:=rQ hs' j;exact ih M w' a' H N (f.trans m)
    |exit id=>exact hQ (.exit id) e' w' a' j hs' (f.trans m)
    |ret=>exact hQ .ret e' w' a' j hs' (f.trans m)
  exact key n y w a L B (.refl _ _)
def uY(P:R_)(f:FuncId)(d:bt):Prop:=
 (∃fn,P.funcs[f]?=G_ fn/\fn.body.isSome=J_/\(fn.name== "runtime.NumGoroutine")=K_)/\
 ∀(args:Array M_) w c,d args.toList w c->Calls P f args w fun e w'=> ∃v,e= .returned v/\c v w'
def FB(P:R_):List (Nat×bt)->Prop
 |[]=>True
 |(n,d)::l=>uY P n d/\FB P l
def LI:∀{l:List (Nat×bt)} {f:FuncId} {args:Array M_} {w:N_} {c:M_->ap},FB P l->abu l f args.toList w c->
  (∃fn,P.funcs[f]?=G_ fn/\fn.body.isSome=J_/\(fn.name== "runtime.NumGoroutine")=K_)/\Calls P f args w fun e w'=> ∃v,e= .returned v/\c v w'
 |[],_,_,_,_,_,h=>h.elim
 |(n,d)::l,f,args,w,c,hl,h=>by
  unfold abu at h;split at h
  .rename_i hb;have:=beq_eq hb;subst this;exact⟨hl.1.1,hl.1.2 args w c h⟩
  .exact LI hl.2 h
variable{c:M_->ap}
def Calls.arf(h:Calls P f args w λe w'=> ∃v,e= .returned v/\c v w'):Calls P f args w (ZW c q):=
 h.mono λe w' a=>by obtain⟨v,rfl,hv⟩:=a;exact hv
variable{l:List (Nat×bt)}
def M3(a:FB P l):tK P (kC l) q:=λfn args w c h=>by
 cases fn with
 |func f=>exact D_ ⟨(LI a h).1,Calls.arf (LI a h).2⟩
 |_=>exact h.elim
def ah9(h:YieldAt Fence.wide 0 P n args w λe w'=> ∃v,e= .returned v/\c v w'):YieldAt Fence.wide 0 P n args w (ZW c q):=by
 obtain⟨fn,t,as,b,a,h2⟩:=h;exact⟨fn,t,as,b,a,h2.mono λe w' d=>by obtain⟨v,rfl,hv⟩:=d;exact hv⟩
def WI{Y:Nat->bt}(a:FB P l)(b:∀n (args:Array M_) w c,Y n args.toList w c->YieldAt Fence.wide 0 P n args w λe w'=> ∃v,e= .returned v/\c v w'):tK P (J0 l Y) q:=λfn args w c h=>by
 cases fn with
 |func f=>exact D_ ⟨(LI a h).1,Calls.arf (LI a h).2⟩
 |yield n=>exact ah9 (b n args w c h)
 |_=>exact h.elim
abbrev abP:=List M_->N_->(M_->ap)->(M_->ap)->Prop
def amR(q:M_->ap):U7:=λch w=> ∃v,ch=[{v:=v,recovered:=K_}]/\q v w
def amS(P:R_)(f:FuncId)(d:abP):Prop:=
 (∃fn,P.funcs[f]?=G_ fn/\fn.body.isSome=J_/\(fn.name== "runtime.NumGoroutine")=K_)/\
 ∀(args:Array M_) w c q,d args.toList w c q->Calls P f args w (ZW c (amR q))
def uY.p{d:bt}(h:uY P f d):amS P f λargs w c _=>d args w c:=
 ⟨h.1,λargs w c q a=>Calls.arf (h.2 args w c a)⟩
def M4(P:R_):List (Nat×abP)->Prop
 |[]=>True
 |(n,d)::l=>amS P n d/\M4 P l
def age:List (Nat×abP)->FuncId->abP
 |[],_,_,_,_,_=>False
 |(n,d)::l,f,args,w,c,q=>match D2 n f with|true=>d args w c q|false=>age l f args w c q
def arh(l:List (Nat×abP))(q:M_->ap):ey:=λfn args w c=>match fn with
 | .func f=>age l f args.toList w c q
 | .method _=>match args.toList with|[.iface t v]=>q (.iface t v) w|_=>False
 |_=>False
def aeL:∀{l:List (Nat×abP)} {f:FuncId} {args:Array M_} {w:N_} {c q:M_->ap},M4 P l->age l f args.toList w c q->
  (∃fn,P.funcs[f]?=G_ fn/\fn.body.isSome=J_/\(fn.name== "runtime.NumGoroutine")=K_)/\Calls P f args w (ZW c (amR q))
 |[],_,_,_,_,_,_,h=>h.elim
 |(n,d)::l,f,args,w,c,q,hl,h=>by
  unfold age at h;split at h
  .rename_i hb;have:=beq_eq hb;subst this;exact⟨hl.1.1,hl.1.2 args w c q h⟩
  .exact aeL hl.2 h
def ari{l:List (Nat×abP)}(a:M4 P l):tK P (arh l x0) (amR x0):=λfn args w c h=>by
 cases fn with
 |func f=>exact D_ (aeL a h)
 |method s=>
  unfold arh at h;dsimp only at h;split at h
  .rename_i t v b;exact⟨t,v,by cases args;simp_all,_,rfl,h⟩
  .exact h.elim
 |_=>exact h.elim
def IX:∀(l:List M_) (n:Nat) (a:Act),(∀i v,l[i]?=G_ v->a.tmps[n+i]?=G_ v)->Sub (DE n l) a
 |[],n,a,_=>λp hp=>by cases hp
 |v::l,n,a,h=>λp hp=>by
  rcases BP.1 hp with rfl|hp
  .exact h 0 v bf
  .exact IX l (n+1) a (λi u b=>by have:=h (i+1) u (gq b);rwa[show n+(i+1)=n+1+i by omega]at this) p hp
def QH(a:Act):ResultVar->Sem M_
 | .tmp t=>pure (a.tmps.getD t undef)
 | .cell p t=>do loadVar t (<-asAddr (a.tmps.getD p undef))
def SZ{e:Env}{w:N_}{a:Act}(hs:Sub e a):∀{rs:List ResultVar} {c:List M_->Prop},JZ P rs e w c->∃l,c l/\
  (rs.mapM (QH a)).run P w= .ok l w
 |[],c,h=>⟨[],h,rfl⟩
 |r::rs,c,h=>by
  unfold JZ azT at h;have key:∀v,(QH a r).run P w= .ok v w->(JZ P rs e w λl=>c (v::l))->∃l,c l/\
    ((r::rs).mapM (QH a)).run P w= .ok l w:=by
   intro v hv b;obtain⟨l,f,d⟩:=SZ hs b;refine⟨v::l,f,?_⟩;rw[List.mapM_cons];simp only[cR,hv,cK,d,cP]
  split at h
  .rename_i t;unfold IS at h;split at h
   .rename_i v hv;have:=qi hs _ _ hv;refine key v ?_ h;simp only[QH,cP];rw[<-this];rfl
   .exact h.elim
  .rename_i p t;cases hv:e.op (.tmp p)with
   |none=>rw[hv]at h;exact h.elim
   |some v=>
    rw[hv]at h;obtain⟨q,u,rfl,b,d⟩:=ZU h;have g:=qi hs _ _ hv;have h2:=d w λ_ _=>rfl;refine key u ?_ b;have i:a.tmps.getD p undef= .pointer (G_ q):=g;simp only[Instr.loadAt,Instr.sureAddr,cR,cP,cK]at h2;simp only[QH,i,asAddr,cR,cP,cK,h2]
def abQ(l:List M_):(if h:l.toArray.size=1 then l.toArray[0]else .tuple l.toArray)=e9 l:=by
 match l with
 |[]=>rfl
 |[v]=>rfl
 |_::_::_=>rfl
variable{fn:Func}{h:sP}{mask:Nat}
def aia(hm:P.follows .mixedOrders=J_)(hf:P.funcs[f]?=G_ fn)(ho:tK P bY q)(qm ur:List K)
  (hok:Wo h fn qm.length=J_)    {x:KT qm} (hx:args.toList=dL qm x) (hF:OP P bY mask h fn ur (dL qm x) w fun r w=>c (e9 (dL ur r)) w):
  (∃fn,P.funcs[f]?=G_ fn/\fn.body.isSome=J_/\(fn.name== "runtime.NumGoroutine")=K_)/\Calls P f args w (ZW c q):=by
 unfold Wo at hok;cases hb:fn.body with
 |none=>rw[hb]at hok;cases hok
 |some b=>
  rw[hb]at hok;simp only[Bool.and_eq_true,i_]at hok;refine⟨⟨fn,hf,by rw[hb];rfl,hok.2⟩,?_⟩
  have hlen:(dL qm x).length=qm.length:=by
   have:∀(ks:List K) (x:KT ks),(dL ks x).length=ks.length:=by
    intro ks;induction ks with
    |nil=>intro x;rfl
    |cons k r ih=>
     intro x;cases r with
     |nil=>rfl
     |cons y r=>show(dL (y::r) x.2).length+1=_;rw[ih];rfl
   exact this qm x
  unfold OP at hF;rw[hb]at hF;simp only at hF;have hle:qm.length<=fn.ntmps:=DS hok.1.2;have hsz:args.size<=fn.ntmps:=by
   have:args.toList.length=qm.length:=by rw[hx,hlen]
   rw[a_]at this;omega
  refine calls_of_wp hf hb ?_;have akA:=tV h b 0;have hw:=rE (ro:=H_) (n0:=0) hm ho (nk h b 0).1 (DE 0 (dL qm x)) w {tmps:=args++d_ (fn.ntmps - args.size) undef,defers:=[]} _ (bodyPost P fn (ZW c q)) ?_ ?_ ?_ hF ?_
  .rw[akA]at hw;exact wpIn_wide.1 hw
  .exact fun ch a' w' hd h=>⟨hd.2.1,h⟩
  .refine IX _ 0 _ fun i v hv=>?_;rw[<-hx]at hv;have Gq:args[i]?=G_ v:=by simpa using hv
   have hi:i<args.size:=(Array.getElem?_eq_some_iff.1 Gq).1;simp only[FM];rw[V_ hi];exact Gq
  .have:(args++d_ (fn.ntmps - args.size) undef).size=fn.ntmps:=by simp;omega
   rw[this];exact hok.1.1
  .intro z e' w' a' hk hs hkp;have arj:a'.defers=[]:=hkp.2.1;have fin:(JZ P fn.results.toList e' w' fun l=>qW ur l fun x=>c (e9 (dL ur x)) w')->a'.defers=[]/\∃v,(results fn a'.tmps).run P w'= .ok v w'/\c v w':=by
    intro hr;obtain⟨l,hc,hrun⟩:=SZ hs hr;obtain⟨y,rfl,ES⟩:=zu hc;refine⟨arj,e9 (dL ur y),?_,ES⟩;have he:results fn a'.tmps=(do
      let vs<-fn.results.mapM (QH a');pure (if h:vs.size=1 then vs[0]else .tuple vs)):=by
     have hfun:(fun x=>(match x with| .tmp t=>pure (a'.tmps.getD t undef)| .cell a t=>do loadVar t (<-asAddr (a'.tmps.getD a undef)):Sem M_))=QH a':=by
      funext r;cases r<;>rfl
     unfold results;rw[<-hfun];rfl
    rw[he,b_];simp only[Sem.run_bind,Sem.run_map,hrun,Result.andThen_ok,Sem.run_pure];rw[abQ]
   cases z with
   |normal=>exact fin hk
   |ret=>exact fin hk
   |exit id=>exact hk.elim
def M5(j:P.follows .mixedOrders=J_)(g:P.funcs[f]?=G_ fn)(k:tK P bY QB)(qm ur:List K)
  (a:Wo h fn qm.length=J_) (F:KT qm->N_->(KT ur->ap)->Prop) (l:∀x w c,OP P bY mask h fn ur (dL qm x) w c=F x w c):
  uY P f λargs w c=>qW qm args λx=>F x w λr w=>c (e9 (dL ur r)) w:=by
 refine⟨?_,λargs w c m=>?_⟩
 .unfold Wo at a;cases hb:fn.body with
  |none=>rw[hb]at a;cases a
  |some b=>
   rw[hb]at a;simp only[iY,i_]at a;exact⟨fn,g,by rw[hb];rfl,a.2⟩
 .obtain⟨x,n,i⟩:=zu m;rw[<-l]at i;refine(aia j g k qm ur a n i).2.mono λe w' d=>?_;cases e with
  |returned v=>exact⟨v,rfl,d⟩
  |panicked ch=>exact d.elim
  |outgrown=>exact d.elim
def aeM{ds:List (Nat×bt)}(d:P.follows .mixedOrders=J_)(e:P.funcs[f]?=G_ fn)(a:FB P ds)(qm ur:List K)
  (b:Wo h fn qm.length=J_) (F:KT qm->N_->(KT ur->ap)->Prop) (g:∀x w c,OP P (kC ds) mask h fn ur (dL qm x) w c=F x w c):
  uY P f λargs w c=>qW qm args λx=>F x w λr w=>c (e9 (dL ur r)) w:=M5 d e (M3 a) qm ur b F g
def exN:Ex->Bool| .normal=>J_|_=>K_
def QX{bY:ey}{mask:Nat}{ro:Option Nat}{n0:Nat}{q:U7}(o:P.follows .mixedOrders=J_)(p:tK P bY q){c:Code}:∀(pre:List AC) (e:Env) (w:N_) (a:Act) (k:Ex->Env->ap) (Q:Exit->Act->ap),
  (∀d a' w',a'.defers=a.defers->q d w'->Q (.panic d) a' w')->Sub e a->(pre.all λx=>x.fits a.tmps.size)=J_->Wp P bY mask pre e w k->
  (∀x e' w' a',exN x=K_->k x e' w'->Sub e' a'->a'.defers=a.defers->Q (ard x) a' w')->
  (∀e' w' a',k .normal e' w'->Sub e' a'->a'.tmps.size=a.tmps.size->a'.defers=a.defers->c.wpIn (uW ro) n0 P Q a' w')->(spine pre c).wpIn (uW ro) n0 P Q a w
 |[],e,w,a,k,Q,hq,hs,_,h,_,i=>i e w a h hs rfl rfl
 |x::pre,e,w,a,k,Q,hq,hs,hf,h,hX,i=>by
  unfold Wp at h;simp only[l_,iY]at hf;unfold spine;refine wpIn_seq (rE o p x e w a _ _ (by exact λd a' w' j h=>hq d a' w' j.2.1 h) hs hf.1 h λz e' w' a' l hs' b=>?_)
  cases z with
  |normal=>
   exact QX o p pre e' w' a' k Q (λd f g j h=>hq d f g (j.trans b.2.1) h) hs' (by rw[b.1];exact hf.2) l
    (λz e2 g f r m h2 n=>hX z e2 g f r m h2 (n.trans b.2.1)) λe2 g f m h2 n s=>i e2 g f m h2 (n.trans b.1) (s.trans b.2.1)
  |exit id=>exact hX (.exit id) e' w' a' rfl l hs' b.2.1
  |ret=>exact hX .ret e' w' a' rfl l hs' b.2.1
variable{ur:List K}
def WZ{c:KT ur->ap}(hs:Sub e a)(h:JZ P fn.results.toList e w λl=>qW ur l λx=>c x w):
  ∃x,(results fn a.tmps).run P w= .ok (e9 (dL ur x)) w/\c x w:=by
 obtain⟨l,f,b⟩:=SZ hs h;obtain⟨y,rfl,g⟩:=zu f;refine⟨y,?_,g⟩;have i:results fn a.tmps=(do
   let vs<-fn.results.mapM (QH a);pure (if h:vs.size=1 then vs[0]else .tuple vs)):=by
  have d:(λx=>(match x with| .tmp t=>pure (a.tmps.getD t undef)| .cell p t=>do loadVar t (<-asAddr (a.tmps.getD p undef)):Sem M_))=QH a:=by
   funext r;cases r<;>rfl
  unfold results;rw[<-d];rfl
 rw[i,b_];simp only[cR,Sem.run_map,b,cK,cP];rw[abQ]
structure aw7 (mk df:Oper) (d:Nat) (g:FuncId) (abt:List Operand):Prop where
 mko:mk.op= .makeFunc (.func g) #[] abt.toArray
 mkd:mk.dst=G_ d
 mkg:mk.guard=H_
 dfo:df.op= .defer {callee:= .value (.tmp d),args:=#[],argTypes:=#[]}
 dfd:df.dst=H_
 dfg:df.guard=H_
def DR(P:R_)(g:FuncId)(dR:List M_->N_->(ap)->Prop):Prop:=
 ∀l w k,dR l w k->(∃fn,P.funcs[g]?=G_ fn/\fn.body.isSome=J_/\(fn.name== "runtime.NumGoroutine")=K_)/\CallsD P g l.toArray .returning w fun e u w'=>(∃v,e= .returned v)/\u= .returning/\k w'
def DP(P:R_)(g:FuncId)(dP:List M_->M_->N_->(ap)->Prop):Prop:=
 ∀l v w k,dP l v w k->(∃fn,P.funcs[g]?=G_ fn/\fn.body.isSome=J_/\(fn.name== "runtime.NumGoroutine")=K_)/\CallsD P g l.toArray (.panicking [{v:=v,recovered:=K_}]) w fun e u w'=>(∃v,e= .returned v)/\settle u= .returning/\k w'
variable{g:FuncId}
def arF{amH:(M_->ap)->ey}{dR:List M_->N_->(ap)->Prop}{dP:List M_->M_->N_->(ap)->Prop}
  {pre:List AC} {rid d:Nat}  {abt:List Operand} {mk df:Oper} {post:AC} (hm:P.follows .mixedOrders=J_) (hf:P.funcs[f]?=G_ fn)
  (hbody:fn.body=G_ (spine pre (.seq (.region rid #[mk,df] K_) post.code))) (aeZ:aw7 mk df d g abt) (hname:(fn.name== "runtime.NumGoroutine")=K_)
  (hfit:((pre.all fun x=>x.fits fn.ntmps)&&post.fits fn.ntmps&&DQ d fn.ntmps)=J_)
  (ho:tK P bY QB) (hq:∀q,tK P (amH q) (amR q)) (hR:DR P g dR) (hP:DP P g dP) (qm ur:List K) (hle:Nat.ble qm.length fn.ntmps=J_)
  (F:KT qm->N_->(KT ur->ap)->Prop) (hl:∀x w c,akm P bY amH dR dP mask pre d g abt post fn ur (dL qm x) w c=F x w c):
  uY P f fun args w c=>qW qm args fun x=>F x w fun r w=>c (e9 (dL ur r)) w:=by
 refine⟨⟨fn,hf,by rw[hbody];rfl,hname⟩,fun args w c hd=>?_⟩
 obtain⟨x,hx,hF⟩:=zu hd;have hlen:(dL qm x).length=qm.length:=by
  have:∀(ks:List K) (x:KT ks),(dL ks x).length=ks.length:=by
   intro ks;induction ks with
   |nil=>intro x;rfl
   |cons k r ih=>
    intro x;cases r with
    |nil=>rfl
    |cons y r=>show(dL (y::r) x.2).length+1=_;rw[ih];rfl
  exact this qm x
 rw[<-hl]at hF;unfold akm at hF;have hle:=DS hle;have hsz:args.size<=fn.ntmps:=by
  have:args.toList.length=qm.length:=by rw[hx,hlen]
  rw[a_]at this;omega
 simp only[Bool.and_eq_true]at hfit;obtain⟨⟨aA1,aA2⟩,aA3⟩:=hfit;have aDt:d<fn.ntmps:=by simpa[Nat.blt_eq]using aA3
 refine calls_of_wp_defers hf hbody ?_;have amY:(args++d_ (fn.ntmps - args.size) undef).size=fn.ntmps:=by simp;omega
 have hsub:Sub (DE 0 (dL qm x)) {tmps:=args++d_ (fn.ntmps - args.size) undef,defers:=[]}:=by
  refine IX _ 0 _ fun i v hv=>?_;rw[<-hx]at hv;have Gq:args[i]?=G_ v:=gq hv
  have hi:i<args.size:=(Array.getElem?_eq_some_iff.1 Gq).1;simp only[FM];rw[V_ hi];exact Gq
 refine wpIn_wide.1 (QX (ro:=H_) (n0:=0) (mask:=mask) hm ho pre _ w _ _ _ (fun _ _ _ _ h=>h.elim) hsub (by rw[amY];exact aA1) hF (fun z e' w' a' hz hk hs' oI=>?_) fun e' w' a' hk hs' aDu oI=>?_)
 .have WL:a'.defers=[]:=oI;have fin:(JZ P fn.results.toList e' w' fun l=>qW ur l fun x=>c (e9 (dL ur x)) w')->Leaves P fn a'.tmps (fun e w'=> ∃v,e= .returned v/\c v w') a'.defers .returning w':=by
   intro hr;obtain⟨y,hrun,hc⟩:=WZ (c:=fun x w=>c (e9 (dL ur x)) w) hs' hr;rw[WL];exact⟨_,hrun,_,rfl,hc⟩
  cases z with
  |normal=>cases hz
  |ret=>exact fin hk
  |exit id=>exact hk.elim
 .have WL:a'.defers=[]:=oI;have azZ:a'.tmps.size=fn.ntmps:=by rw[aDu,amY]
  dsimp only at hk;split at hk
  .rename_i l aA4;rw[kU]at hk;have pM:=tR (qi hs') aA4;refine wpIn_seq (wpIn_region_list ?_);unfold wpListIn;rw[HK (AP aeZ.mkg _)];have ae0:abt.toArray.map a'.eval=l.toArray:=pM;have hv:(execOp a'.eval mk).run P w'= .ok (.value (.func (F_ g) #[] l.toArray)) w':=by
    have h0:(#[]:Array Operand).map a'.eval=#[]:=by simp
    simp only[execOp,aeZ.mko,Instr.makeFunc,ae0,h0,Sem.run_bind,Sem.run_pure,Result.andThen_ok]
   refine jE hv ?_;have oI:d<a'.tmps.size:=by rw[azZ];exact aDt
   have ab5:Sub (e'.put d (.func (F_ g) #[] l.toArray)) (a'.put mk.dst (.func (F_ g) #[] l.toArray)):=by
    rw[aeZ.mkd];exact zo (d:=G_ d) (v:= .func (F_ g) #[] l.toArray) hs' (fun x hx=>by cases hx;exact oI)
   have hev:(a'.put mk.dst (.func (F_ g) #[] l.toArray)).eval (.tmp d)= .func (F_ g) #[] l.toArray:=by
    refine qi ab5 (.tmp d) _ ?_;simp[Env.op,Env.put,Env.find]
   generalize ha2:a'.put mk.dst (.func (F_ g) #[] l.toArray)=a2 at*
   have hd2:a2.defers=[]:=by rw[<-ha2,put_defers];exact WL
   have aDw:a2.tmps.size=fn.ntmps:=by rw[<-ha2,FA];exact azZ
   unfold wpListIn;rw[HK (AP aeZ.dfg _)];refine⟨fun f _=>Kb H_ f,?_⟩;have hrun:(df.semAt (uW H_).round a2.eval).run P w'= .ok (.defer {target:= .fn (.func g) l.toArray,args:=#[]}) w':=by
    show(execOp a2.eval df).run P w'=_;have h0:(#[]:Array Operand).map a2.eval=#[]:=by simp
    simp only[execOp,aeZ.dfo,resolve,h0,hev,Deferred.ofValue,Sem.run_bind,Sem.run_pure,Result.andThen_ok];rfl
   rw[hrun];simp only[Oper.uponIn,aeZ.dfd,Act.put,hd2];unfold wpListIn;show post.code.wpIn _ _ _ _ _ _;have res:∀{e3 w3} {a3:Act},Sub e3 a3->(JZ P fn.results.toList e3 w3 fun l=>qW ur l fun x=>c (e9 (dL ur x)) w3)->Leaves P fn a3.tmps (fun e w'=> ∃v,e= .returned v/\c v w') [] .returning w3:=by
    intro e3 w3 a3 Vi hr;obtain⟨y,hrun,hc⟩:=WZ (c:=fun x w=>c (e9 (dL ur x)) w) Vi hr;exact⟨_,hrun,_,rfl,hc⟩
   have hinv:∀w3,(∃fn,P.funcs[g]?=G_ fn/\fn.body.isSome=J_/\(fn.name== "runtime.NumGoroutine")=K_)->(invoke (.fn (.func g) l.toArray) #[]).run P w3= .ok (.enter g l.toArray) w3:=by
    intro w3 hg;have:(#[]:Array M_)++l.toArray=l.toArray:=by simp
    simp only[invoke,this];exact Ge hg
   refine rE hm (hq _) post _ w' {tmps:=a2.tmps,defers:=[{target:= .fn (.func g) l.toArray,args:=#[]}]} _ _ (fun ch a3 w3 hk3 hp=>?_) ab5 (by rw[aDw];exact aA2) hk fun z e3 w3 a3 hk3 Vi aDx=>?_
   .obtain⟨v,rfl,hdp⟩:=hp;obtain⟨hg,YB⟩:=hP _ _ _ _ hdp;show Leaves P fn a3.tmps _ a3.defers (.panicking [{v:=v,recovered:=K_}]) w3;rw[hk3.2.1];refine⟨by simp,.func g,l.toArray,g,l.toArray,rfl,hinv _ hg,YB.mono fun e u w4 he=>?_⟩
    obtain⟨⟨v',rfl⟩,hu,hr⟩:=he;dsimp only;rw[hu];have aA5:Sub (e'.put d (.func (F_ g) #[] l.toArray)) {tmps:=a2.tmps,defers:=[{target:= .fn (.func g) l.toArray,args:=#[]}]}:=ab5;exact res (agd aA5 hk3) hr
   .have fin:(dR l w3 fun w=>JZ P fn.results.toList e3 w fun l=>qW ur l fun x=>c (e9 (dL ur x)) w)->Leaves P fn a3.tmps (fun e w'=> ∃v,e= .returned v/\c v w') a3.defers .returning w3:=by
     intro hdr;obtain⟨hg,YB⟩:=hR _ _ _ hdr;rw[aDx.2.1];refine⟨by simp,.func g,l.toArray,g,l.toArray,rfl,hinv _ hg,YB.mono fun e u w4 he=>?_⟩
     obtain⟨⟨v',rfl⟩,hu,hr⟩:=he;dsimp only;rw[hu];exact res Vi hr
    cases z with
    |normal=>exact fin hk3
    |ret=>exact fin hk3
    |exit id=>exact hk3.elim
  .exact hk.elim
def aw9{c:AC}(hm:P.follows .mixedOrders=J_)(hf:P.funcs[g]?=G_ fn)(hb:fn.body=G_ c.code)(hname:(fn.name== "runtime.NumGoroutine")=K_)
  (hres:fn.results=#[]) (hfit:c.fits fn.ntmps=J_) (hle:Nat.ble n fn.ntmps=J_) (ho:tK P bY QB):
  DR P g fun l w k=>l.length=n/\akn P bY mask c l w k:=fun l w k ⟨hl,h⟩=>by
 refine⟨⟨fn,hf,by rw[hb];rfl,hname⟩,?_⟩
 have hle:=DS hle;have hsz:l.toArray.size<=fn.ntmps:=by simp;omega
 refine(callsD_of_wp (R:=fun e w'=>(∃v,e= .returned v)/\k w') hf hb ?_).mono fun e u w' ⟨h1,h2,h3⟩=>⟨h2,h1,h3⟩;refine wpIn_wide.1 (rE (ro:=H_) (n0:=0) (mask:=mask) hm ho c (DE 0 l) w _ _ _ (fun _ _ _ _ h=>h.elim) ?_ ?_ h fun z e' w' a' hk hs hkp=>?_)
 .refine IX _ 0 _ fun i v hv=>?_;have hi:i<l.length:=(List.getElem?_eq_some_iff.1 hv).1;simp only[FM];rw[V_ (gq hi)]
  simpa using hv
 .have:(l.toArray++d_ (fn.ntmps - l.toArray.size) undef).size=fn.ntmps:=by simp;omega
  rw[this];exact hfit
 .have hr:(results fn a'.tmps).run P w'= .ok (.tuple #[]) w':=by
   unfold results;rw[hres];simp
  cases z with
  |normal=>exact⟨hkp.2.1,_,hr,⟨_,rfl⟩,hk⟩
  |ret=>exact⟨hkp.2.1,_,hr,⟨_,rfl⟩,hk⟩
  |exit id=>exact hk.elim
def axa(m:P.follows .mixedOrders=J_)(o:P.funcs[g]?=G_ fn)(p:tK P bY QB)(qm:List K)
  (a:Wo h fn qm.length=J_) (d:fn.results=#[]) (F:KT qm->N_->(Unit->ap)->Prop) (q:∀x w c,OP P bY mask h fn [] (dL qm x) w c=F x w c):
  DR P g λl w k=>qW qm l λx=>F x w λ_ w=>k w:=by
 intro l w k s;obtain⟨x,j,f⟩:=zu s;have f:OP P bY mask h fn [] (dL qm x) w (λ_ w=>k w):=by rw[q x w λ_ w=>k w];exact f
 unfold Wo at a;unfold OP at f;cases hb:fn.body with
 |none=>rw[hb]at a;cases a
 |some b=>
  rw[hb]at a f;simp only[iY,i_]at a;have i:∀(ks:List K) (x:KT ks),(dL ks x).length=ks.length:=by
   intro ks;induction ks with
   |nil=>intro x;rfl
   |cons y r ih=>cases r with
    |nil=>intro x;rfl
    |cons z r=>intro x;exact congrArg (·+1) (ih x.2)
  refine aw9 (mask:=mask) (c:=(nk h b 0).1) (n:=qm.length) m o (by rw[hb,tV]) a.2 d a.1.1 a.1.2 p l w k ⟨by rw[j,i],?_⟩
  rw[j];have e:akn P bY mask (nk h b 0).1 (dL qm x) w k=ev P bY mask (nk h b 0).1 (DE 0 (dL qm x)) w (amG P fn.results.toList λl w=>qW [] l fun(_:Unit)=>k w):=by
   unfold akn;congr 1;funext x e w;rw[d];cases x<;>rfl
  rw[e];exact f
open Go Go.RowKit
structure o7 (S:Nat->Prop) (w w':N_):Prop where
 os:w'.os=w.os
 tape:w'.tape=w.tape
 output:w'.output=w.output
 size:w.heap.size<=w'.heap.size
 block:∀k,k<w.heap.size->¬S k->w'.heap[k]?=w.heap[k]?
abbrev Ext(w w':N_):Prop:=o7 (λ_=>False) w w'
def o7.refl(S:Nat->Prop)(w:N_):o7 S w w:=⟨rfl,rfl,rfl,iw _,λ_ _ _=>rfl⟩
variable{S T:Nat->Prop}{a b c:N_}
variable{x4:Nat->Prop}
def o7.trans(h:o7 S a b)(k:o7 T b c)(f:∀k,k<a.heap.size->S k->x4 k)(g:∀k,k<a.heap.size->T k->x4 k):o7 x4 a c:=
 ⟨k.os.trans h.os,k.tape.trans h.tape,k.output.trans h.output,EZ h.size k.size,λi hi e=>
  (k.block i (Nat.lt_of_lt_of_le hi h.size) (λd=>e (g i hi d))).trans (h.block i hi (λd=>e (f i hi d)))⟩
def o7.mono(h:o7 S a b)(d:∀k,k<a.heap.size->S k->T k):o7 T a b:=⟨h.os,h.tape,h.output,h.size,λk c e=>h.block k c λf=>e (d k c f)⟩
def Ext.trans(h:Ext a b)(k:Ext b c):Ext a c:=o7.trans h k (λ_ _ h=>h) (λ_ _ h=>h)
def Ext.only(h:Ext a b):o7 S a b:=o7.mono h λ_ _ h=>h.elim
variable{B:Nat}
def o7.below(h:o7 S w w')(a:B<=w.heap.size)(b:∀k,S k->B<=k):Below B w w':=
 ⟨h.os,h.tape,h.output,h.size,λk c=>h.block k (Nat.lt_of_lt_of_le c a) λd=>by have:=b k d;omega⟩
def Ext.below(h:Ext w w'):Below w.heap.size w w':=o7.below h (iw _) λ_ h=>h.elim
def Ext.then(h:Ext a b)(k:o7 T b c)(d:∀g,T g->a.heap.size<=g):Ext a c:=o7.trans h k (λ_ _ h=>h) λg f e=>by have:=d g e;omega
def o7.cell(h:o7 S w w')(a:¬S yk.block)(hv:w.cell? yk=G_ v):w'.cell? yk=G_ v:=
 (World.cell?_of_block (h.block yk.block (World.block_lt_of_cell? w yk hv) a)).trans hv
def Ext.cell(h:Ext w w')(hv:w.cell? yk=G_ v):w'.cell? yk=G_ v:=o7.cell h (λh=>h) hv
def AQ(w:N_):Ext w w.drew:=⟨rfl,rfl,rfl,iw _,λ_ _ _=>rfl⟩
def CA(w:N_)(o:Obj):Ext w (w.alloc o):=⟨rfl,rfl,rfl,bf,λk a _=>Go.heap_alloc_old w o a⟩
def UC(w:N_)(p:P_)(v:M_):o7 (λk=>k=p.block) w (w.setCell p v):=
 ⟨rfl,rfl,rfl,by simp[World.setCell],λk _ a=>heap_setCell_other w p k v a⟩
@[simp] theorem dg (g o n:Nat):(Addr.mk g o H_).add n=⟨g,o+n,H_⟩:=by
 unfold aY;split<;>simp_all
def pN(w:N_)(g:Nat)(cs:Array M_):Prop:=∃e,w.heap[g]?=G_ (.cells cs e (0,0))
variable{g:Nat}
def pN.lt(h:pN w g cs):g<w.heap.size:=by
 obtain⟨e,h⟩:=h;exact(Bf.1 h).1
def pN.cell(h:pN w g cs)(i:Nat):w.cell? ⟨g,i,H_⟩=cs[i]?:=by
 obtain⟨e,h⟩:=h;exact cell_of_row w g i cs e _ h
def pN.frozen(h:pN w g cs)(i:Nat):w.frozen? ⟨g,i,H_⟩=false:=by
 obtain⟨e,h⟩:=h;exact frozen_of_row w g i cs e h
def pN.keep(h:pN w g cs)(a:o7 S w w')(b:¬S g):pN w' g cs:=by
 have:=a.block g h.lt b;obtain⟨e,h⟩:=h;exact⟨e,this.trans h⟩
def pN.ext(h:pN w g cs)(a:Ext w w'):pN w' g cs:=h.keep a λh=>h
def pN.new(w:N_)(cs:Array M_)(t:Q_):pN (w.alloc (.cells cs t)) w.heap.size cs:=⟨t,heap_alloc_new w _⟩
def pN.set(h:pN w g cs)(i:Nat)(v:M_):pN (w.setCell ⟨g,i,H_⟩ v) g (cs.setIfInBounds i v):=by
 obtain⟨e,h⟩:=h;exact⟨e,heap_setCell_same w g i cs e v h⟩
def jJ{c:P_->ap}(h:∀g w',g=w.heap.size->w'.heap.size=g+1->pN w' g cs->Ext w w'->c ⟨g,0,H_⟩ w'):aE w cs t c:=
 h _ _ rfl bf (pN.new w cs t) (CA w _)
def M6{c:ap}(h:∀w',w'.heap=w.heap->Ext w w'->c w'):drew w c:=h _ rfl (AQ w)
variable{b:Bool}{x y:Prop}
def ax(a:b=J_->x)(h2:b=K_->y):an b x y:=by cases b;exact h2 rfl;exact a rfl
@[simp] theorem aAP (x y:Prop):an J_ x y=x:=rfl
@[simp] theorem azW (x y:Prop):an K_ x y=y:=rfl
def bK(hb:b=J_)(h:x):an b x y:=by subst hb;exact h
def aU(hb:b=K_)(h:y):an b x y:=by subst hb;exact h
variable{S:Type}{body:(S->ap)->Prop}
def bP{rest:S->ap}(I:S->ap)(a:∀J:S->ap,(∀x w,I x w->J x w)->body J)(h2:∀x w,I x w->rest x w):cz body rest:=a rest h2
def QI{rest:S->ap}(h:body rest):cz body rest:=h
variable{a:P_}
variable{x5:Int}
def uZ{c:Int->Prop}(h:w.cell? a=G_ (.int k x5))(b:c x5):aJ k w a c:=by simp[aJ,rd,h,xS,b]
def akB{c:Bool->Prop}(h:w.cell? a=G_ (.bool y0))(b:c y0):He w a c:=by simp[He,rd,h,Ir,b]
def ark{c:Option P_->Prop}(h:w.cell? a=G_ (.pointer yi))(b:c yi):aQ w a c:=by simp[aQ,rd,h,toP,b]
variable{s:Sl}
def IY{c:Sl->Prop}(h:w.cell? a=G_ (.slice s.a s.n s.c))(b:c s):cy w a c:=by simp[cy,rd,h,toS,b]
variable{o:Nat}
def abR{c:ap}(a:v.oneCell'=J_)(hb:pN w g cs)(b:o<cs.size)
  (d:∀w',pN w' g (cs.setIfInBounds o v)->w'.heap.size=w.heap.size->o7 (λk=>k=g) w w'->c w'):bN w ⟨g,o,H_⟩ v c:=
 ⟨a,by rw[hb.cell];simp[b],hb.frozen o,d _ (hb.set o v) (by simp[World.setCell]) (UC w ⟨g,o,H_⟩ v)⟩
variable{x:Int}
def kg(h: -9223372036854775808<=x/\x<=9223372036854775807):IntKind.i64.wrap x=x:=IntWalk.i64_in x h
def bc{c:P_->Prop}(h:c a):nn (G_ a) c:=h
variable{c:Int->Prop}{y:Int}
def amT(a:y≠0)(h:c (x.tmod y)):amz x y c:=⟨a,h⟩
def amU(a:0<=y)(h:c (IR k x y)):amA k x y c:=⟨a,h⟩
def Gf(a:0<=y)(h:c (sD k x y)):HI k x y c:=⟨a,h⟩
structure Hj (sz:Nat) (w:N_) (s:Sl) (vs:List M_):Prop where
 len:vs.length=s.n*sz
 cell:∀i v,vs[i]?=G_ v->∃p,s.a=G_ p/\w.cell? (p.add i)=G_ v
variable{S:Nat->Prop}{sz:Nat}
def Hj.keep(h:Hj sz w s vs)(c:o7 S w w')(hs:∀p,s.a=G_ p->¬S p.block):Hj sz w' s vs:=
 ⟨h.len,λi v hv=>by
  obtain⟨p,b,d⟩:=h.cell i v hv;refine⟨p,b,c.cell ?_ d⟩;have:(p.add i).block=p.block:=by unfold aY;split<;>rfl
  rw[this];exact hs p b⟩
def Hj.ext(h:Hj sz w s vs)(a:Ext w w'):Hj sz w' s vs:=h.keep a λ_ _ h=>h
abbrev ints(xs:List Int):List Value:=xs.map (Value.int B_)
def Sl.au(s:Sl):Option Nat:=s.a.map (·.block)
structure Own (w:N_) (B:Nat) (s:Sl) (xs:List M_):Prop where
 len:xs.length=s.n
 cap:s.n<=s.c
 max:s.c<=9223372036854775807
 one:∀x∈xs,x.oneCell'=J_
 row:(s.a=H_/\s.c=0)\/∃g off cs,s.a=G_ ⟨g,off,H_⟩/\B<=g/\pN w g cs/\off+s.c<=cs.size/\∀i v,xs[i]?=G_ v->cs[off+i]?=G_ v
def Own.nil(w:N_)(B:Nat):Own w B ⟨H_,0,0⟩ []:=⟨rfl,iw _,bf,bf,D_ ⟨rfl,rfl⟩⟩
variable{xs:List M_}
def Own.sls(h:Own w B s xs):Hj 1 w s xs:=by
 refine⟨by rw[h.len];simp,λi v hv=>?_⟩
 rcases h.row with⟨a,h2⟩|⟨g,off,cs,a,_,b,_,c⟩
 .have d:=h.cap;have e:i<xs.length:=(kB.1 hv).1;have f:=h.len;omega
 .exact⟨_,a,by rw[dg,b.cell];exact c i v hv⟩
def Own.keep(h:Own w B s xs)(b:o7 S w w')(hs:∀g,s.au=G_ g->¬S g):Own w' B s xs:=by
 refine⟨h.len,h.cap,h.max,h.one,h.row.imp id ?_⟩;rintro⟨g,off,cs,a,h2,c,d,e⟩;exact⟨g,off,cs,a,h2,c.keep b (hs g (by simp[Sl.au,a])),d,e⟩
def Own.ext(h:Own w B s xs)(a:Ext w w'):Own w' B s xs:=h.keep a λ_ _ h=>h
def Own.below(h:Own w B s xs)(a:s.au=G_ g):B<=g/\g<w.heap.size:=by
 rcases h.row with⟨b,_⟩|⟨d,off,cs,b,h2,c,_⟩
 .simp[Sl.au,b]at a
 .simp[Sl.au,b]at a;subst a;exact⟨h2,c.lt⟩
def Own.out(h:Own w B s xs)(a:o<=B):∀g,s.au=G_ g->o<=g:=λ_ b=>EZ a (h.below b).1
variable{x6:List Int}
def IK:∀v∈ints x6,v.oneCell'=true:=by
 intro v hv;obtain⟨x,_,rfl⟩:=C6.1 hv;rfl
variable{l:List M_}
def WJ(hb:pN w g l.toArray)(a:l.length=n)(c:Nat):Hj 1 w ⟨G_ ⟨g,0,H_⟩,n,c⟩ l:=
 ⟨by simp[a],λi v hv=>⟨_,rfl,by rw[dg,hb.cell];simpa using hv⟩⟩
def Own.new(hb:pN w g l.toArray)(b:B<=g)(a:l.length=n)(c:n<=9223372036854775807)(d:∀x∈l,x.oneCell'=J_):Own w B ⟨G_ ⟨g,0,H_⟩,n,n⟩ l:=
 ⟨a,iw _,c,d,E_ ⟨g,0,l.toArray,rfl,b,hb,by simp[a],λi v hv=>gq hv⟩⟩
def ElT(P:R_)(t e:Q_)(b:Nat)(z:M_):Prop:=P.underlying t=G_ (.slice e)/\(P.info? e).map (λi=>(i.size,i.bytes,i.zero))=G_ (1,b,G_ z)
variable{b:Nat}{e:Q_}{z:M_}
def ElT.info(h:ElT P t e b z):∃i,P.info? e=G_ i/\i.size=1/\i.bytes=b/\i.zero=G_ z:=by
 have h2:=h.2;cases hi:P.info? e with
 |none=>simp[hi]at h2
 |some i=>simp[hi]at h2;exact⟨i,rfl,h2⟩
def FC(h:Hj 1 w s vs):(Builtin.firstCells 1 s.n (.slice s.a s.n s.c)).run P w= .ok vs.toArray w:=by
 cases ha:s.a with
 |none=>
  have:vs=[]:=by
   cases vs with
   |nil=>rfl
   |cons v l=>obtain⟨p,b,_⟩:=h.cell 0 v rfl;rw[ha]at b;cases b
  subst this;exact run_firstCells_none w 1 s.n s.n s.c
 |some p=>
  exact run_firstCells_some w 1 s.n p s.n s.c vs (by rw[h.len]) λj v hv=>by
   obtain⟨q,hq,d⟩:=h.cell j v hv;rw[ha]at hq;cases hq;exact d
variable{e' tx:Q_}
def awS(b:P.underlying tx=G_ (.slice e'))(h:Hj 1 w s vs)(d:∀v∈vs,v.oneCell'=J_):Src P 1 tx (.slice s.a s.n s.c) s.n vs w:=
 ⟨D_ ⟨e',b⟩,λ_=>rfl,FC h,FC (h.ext (AQ w)),by rw[h.len],d⟩
def KW{e:Q_}:∀(l:List M_) (w:N_) (g o:Nat) (cs:Array M_),w.heap[g]?=G_ (.cells cs e (0,0))->o+l.length<=cs.size->
  ∃cs',(w.setCells g o l).heap[g]?=G_ (.cells cs' e (0,0))/\cs'.size=cs.size/\(∀j,j<o\/o+l.length<=j->cs'[j]?=cs[j]?)/\(∀i v,l[i]?=G_ v->cs'[o+i]?=G_ v)/\o7 (λk=>k=g) w (w.setCells g o l)/\(w.setCells g o l).heap.size=w.heap.size
 |[],w,g,o,cs,h,_=>⟨cs,h,rfl,λ_ _=>rfl,λi v hv=>by simp at hv,.refl _ _,rfl⟩
 |v::l,w,g,o,cs,h,hl=>by
  simp only[x_]at hl;obtain⟨cs',d,h2,b,f,m,n⟩:=KW l (w.setCell ⟨g,o,H_⟩ v) g (o+1) (cs.setIfInBounds o v) (heap_setCell_same w g o cs e v h) (by simp;omega)
  refine⟨cs',d,gq h2,λj c=>?_,λi u a=>?_,o7.trans (UC w ⟨g,o,H_⟩ v) m (λ_ _ h=>h) (λ_ _ h=>h),by rw[World.setCells,n];simp[World.setCell]⟩
  .rw[b j (by simp only[x_]at c;omega)]
   rw[Y_ (by simp only[x_]at c;omega)]
  .cases i with
   |zero=>
    simp at a;subst a;rw[b (o+0) af,C',Z_];rw[HK af]
   |succ i=>
    have:=f i u (gq a)
    rwa[show o+(i+1)=o+1+i by omega]
variable{ty:Q_}{x:Sl}{ys:List M_}
def awT{c:Sl->ap}(y:ElT P t e b z)(V:z.oneCell'=J_)(A:P.underlying tx=G_ (.slice e'))
  (d:Own w B s xs) (m:Hj 1 w x ys) (S:∀v∈ys,v.oneCell'=J_) (W:B<=w.heap.size) (hbytes:(xs.length+ys.length)*b<=140737488355328) (X:xs.length+ys.length<=9223372036854775807)
  (D:∀s' w',Own w' B s' (xs++ys)->o7 (λk=>s.au=G_ k) w w'->(s'.au=s.au\/∃g,s'.au=G_ g/\w.heap.size<=g)->c s' w'):
  og P #[t,tx] ty [.slice s.a s.n s.c,.slice x.a x.n x.c] w c:=by
 obtain⟨i,hi,l,F,Y⟩:=y.info;have hs:=awS A m S;have G:x.n=ys.length:=by have:=m.len;omega
 have o:∀v∈xs++ys,v.oneCell'=true:=λv hv=>(zw.1 hv).elim (d.one v) (S v);unfold og;by_cases hroom:s.n+x.n<=s.c
 .rcases d.row with⟨h2,H⟩|⟨g,off,cs,h2,H,Z,h5,h6⟩
  .have I:x.n=0:=af;have J:s.n=0:=af;have K:ys=[]:=o_ af;have L:xs=[]:=o_ (by have:=d.len;omega)
   subst K;subst L;rw[h2,J,H];have r:(Builtin.append_ #[t,tx] ty #[.slice H_ 0 0,.slice x.a x.n x.c]).run P w= .ok (.slice H_ 0 0) w:=by
    have p:=hs.cells;simp only[CZ]at p;have f:=hs.len w;rw[I]at f p ⊢;simp[Builtin.append_,run_underlying y.1,run_underlying A,sizeOf,typeInfo,hi,l,Builtin.lenOf,Builtin.firstCells]at p ⊢;cases M:x.a<;>simp[Builtin.firstCells,M,loadCells,loadCellsFrom]
   simp only[CZ]at*
   rw[r];show c ⟨H_,0,0⟩ w;exact D _ _ (gq (Own.nil w B)) (.refl _ _) (D_ (by simp[Sl.au,h2]))
  .obtain⟨N,q⟩:=Z;have f:=d.len;have hcell:∀j,j<ys.length->(w.cell? ⟨g,off+s.n*i.size+j,H_⟩).isSome=true:=by
    intro j C;rw[l,F4,(show pN w g cs from⟨N,q⟩).cell];have:off+s.n+j<cs.size:=af;simp[this]
   have O:∀j,j<ys.length->w.frozen? ⟨g,off+s.n*i.size+j,H_⟩=false:=λj _=>(show pN w g cs from⟨N,q⟩).frozen _;rw[<-l]at hs;have r:=run_append_room_src w t tx ty e i y.1 hi g off s.n s.c _ x.n ys hs hroom hcell O;obtain⟨cs',k1,k2,k3,k4,k5,k6⟩:=KW ys w g (off+s.n) cs q af;rw[l,F4]at r;rw[h2];simp only[CZ]at*
   rw[r];show c ⟨G_ ⟨g,off,H_⟩,s.n+x.n,s.c⟩ _;refine D _ _ ⟨by simp;omega,hroom,d.max,o,E_ ⟨g,off,cs',rfl,H,⟨N,k1⟩,by rw[k2];exact h5,λj v hv=>?_⟩⟩ (k5.mono λk _ A=>by simp[Sl.au,h2,A]) (D_ (by simp[Sl.au,h2]))
   by_cases C:j<xs.length
   .rw[tJ C]at hv;rw[k3 _ af];exact h6 j v hv
   .rw[u0 af]at hv;have:=k4 _ v hv;rwa[show off+s.n+(j - xs.length)=off+j by omega]at this
 .have T:s.c<s.n+x.n:=af;have f:=d.len;have u:Builtin.nextslicecap (s.n+x.n) s.c*i.bytes<=281474976710656:=growslice_fits T (by rw[F,G,<-f];exact hbytes)
  have hold:=FC (P:=P) (d.sls.ext (AQ w));rw[<-l]at hold hs;have r:=run_append_grow_src w t tx ty e i z y.1 hi Y s.a s.n s.c xs hold _ x.n ys hs T af u;simp only[CZ]at*
  rw[r];have Q:=grownCap_ge w (s.n+x.n) s.c e;have U:=grownCap_le_maxLen w (s.n+x.n) s.c e (by unfold maxLen;omega)
  unfold maxLen at U;show c ⟨G_ ⟨w.heap.size,0,H_⟩,s.n+x.n,_⟩ _;have R:z.cells.size=1:=by rw[Cy V];rfl
  refine D _ _ ⟨by simp;omega,Q,U,o,E_ ⟨w.heap.size,0,_,rfl,W,pN.new w.drew _ e,?_,λj v hv=>?_⟩⟩ (Ext.only ((AQ w).trans (CA _ _))) (E_ ⟨w.heap.size,rfl,iw _⟩)
  .simp[size_zeroCells,R];omega
  .have C:j<(xs++ys).length:=(kB.1 hv).1;rw[FM,V_ (gq C)]
   simpa using hv
structure Part (s:Sl) (lo:Nat) (d:Sl):Prop where
 addr:d.a=s.a.map (·.add lo)\/d.n=0
 fits:lo+d.n<=s.n
def Part.all(s:Sl):Part s 0 s:=⟨D_ (by cases s.a<;>simp[add_zero]),af⟩
def Own.off{w:N_}{B:Nat}{s d:Sl}{xs ys:List M_}{lo:Nat}(h:Own w B s xs)(k:ys.length=d.n)(l:d.n<=d.c)(m:lo+d.c<=s.c)(b:d.a=s.a.map (·.add lo)\/(d.a=s.a/\d.c=0))(hv:∀i v,ys[i]?=G_ v->xs[lo+i]?=G_ v):Own w B d ys:=by
 have o:=h.max;refine⟨k,l,af,λx p=>?_,?_⟩
 .obtain⟨i,hi,rfl⟩:=w_ p;have:=hv i ys[i] (by simp[hi])
  exact h.one _ (qn this)
 .rcases h.row with⟨e,h2⟩|⟨g,off,cs,e,h2,j,r,q⟩
  .refine D_ ⟨?_,af⟩;rcases b with b|⟨b,_⟩<;>rw[b,e] <;>rfl
  .rcases b with b|⟨b,t⟩
   .exact E_ ⟨g,off+lo,cs,by rw[b,e];simp,h2,j,af,λi v hi=>by rw[Ce];exact q _ _ (hv i v hi)⟩
   .have f:ys=[]:=o_ af;subst f;exact E_ ⟨g,off,cs,by rw[b,e],h2,j,af,λi v hi=>by simp at hi⟩
def abS{lo:Int}{c:Sl->Prop}(h:Own w B s xs)(f:0<=lo)(g:lo<=s.n)
  (j:∀d,Part s lo.toNat d->d.n=s.n - lo.toNat->d.au=s.au->Own w B d (xs.drop lo.toNat)->c d):slL s 1 lo c:=by
 have b:=h.cap;have e:=h.len;refine⟨⟨f,g⟩,j _ ⟨?_,by simp;omega⟩ rfl ?_ (h.off (lo:=lo.toNat) (by simp;omega) (by simp;omega) (by simp;omega) ?_ λi v hi=>gq hi)⟩
 .by_cases hq:s.c=lo.toNat
  .right;simp;omega
  .left;simp[hq]
 .by_cases hq:s.c=lo.toNat
  .simp[Sl.au,hq]
  .simp only[Sl.au,hq,if_false];cases s.a with
   |none=>rfl
   |some p=>simp[aY];split<;>rfl
 .by_cases hq:s.c=lo.toNat
  .right;simp[hq]
  .left;simp[hq]
def agf(w:N_)(g:Nat)(cs:Array M_):o7 (λk=>k=g) w (w.setRow g cs):=
 ⟨rfl,rfl,rfl,by simp[World.setRow],λk _ a=>by simp[World.setRow,Array.getElem?_modify,Ne.symm a]⟩
variable{x7:Sl}
def abT{lo:Nat}{d:Sl}{c:Int->ap}(J:ElT P t e b z)
  (f:Own w B s xs) (K:Part s lo d) (m:Hj 1 w x ys) (L:∀v∈ys,v.oneCell'=J_)
  (M:∀w',Own w' B s (xs.take lo++(ys.take (min d.n x.n)++xs.drop (lo+min d.n x.n)))->o7 (λk=>s.au=G_ k) w w'->w'.heap.size=w.heap.size->c (min d.n x.n:Nat) w'):
  U1 P #[t,tx] ty [.slice d.a d.n d.c,.slice x.a x.n x.c] w c:=by
 obtain⟨i,hi,D,S,WK⟩:=J.info;have T:x.n=ys.length:=by have:=m.len;omega
 have N:=f.len;have U:=K.fits;unfold U1;have hread:(Builtin.firstCells i.size (min d.n x.n) (.slice x.a x.n x.c)).run P w= .ok (ys.take (min d.n x.n)).toArray w:=by
  rw[D];by_cases o:x.a=H_
  .have:ys=[]:=by
    cases ys with
    |nil=>rfl
    |cons v l=>obtain⟨p,r,_⟩:=m.cell 0 v rfl;rw[o]at r;cases r
   subst this;rw[o,List.take_nil];exact run_firstCells_none w 1 _ _ _
  .obtain⟨p,r⟩:=Option.ne_none_iff_exists'.1 o;rw[r];refine run_firstCells_some w 1 _ p _ _ _ (by simp;omega) λj v hv=>?_
   rw[t_]at hv;split at hv
   .obtain⟨q,hq,V⟩:=m.cell j v hv;rw[r]at hq;cases hq;exact V
   .cases hv
 have W:(Builtin.firstCells i.size (min x.n d.n) (.slice x.a x.n x.c)).run P w= .ok (ys.take (min d.n x.n)).toArray w:=by rw[Nat.min_comm];exact hread
 have F:(Builtin.copy_ #[t,tx] ty #[.slice d.a d.n d.c,.slice x.a x.n x.c]).run P w=match d.a with
   |some a=>((storeCells a (ys.take (min d.n x.n))).run P w).andThen λ_ w=> .ok (goInt ((min d.n x.n:Nat):Int)) w
   |none=> .ok (goInt ((min d.n x.n:Nat):Int)) w:=by
  have X:Nat.min x.n d.n=min d.n x.n:=Nat.min_comm _ _;cases u:d.a<;>simp[Builtin.copy_,run_underlying J.1,Builtin.lenOf,sizeOf,typeInfo,hi,X,hread]
 simp only[CZ]at*
 rw[F];by_cases O:min d.n x.n=0
 .have:=M w (by rw[O];simpa using f) (.refl _ _) rfl
  rw[O]at this ⊢;cases d.a<;>exact this
 .rcases f.row with⟨h2,Q⟩|⟨g,off,cs,h2,Q,Y,h5,R⟩
  .have:=f.cap;omega
  .have u:d.a=G_ ⟨g,off+lo,H_⟩:=by
    rcases K.addr with h|h
    .rw[h,h2];simp
    .omega
   obtain⟨G,y⟩:=Y;have A:=f.cap;have C:=run_storeCells_at P g (off+lo) G (ys.take (min d.n x.n)) 0 cs w y (by simp;omega) λv hv=>L v (C7 hv)
   rw[u];simp only[C']at C;simp only[C,cK];show c (min d.n x.n:Nat) _;refine M _ ⟨by simp;omega,A,f.max,λv hv=>?_,E_ ⟨g,off,_,h2,Q,⟨G,setRow_heap w g cs _ G (0,0) y⟩,by simp;omega,λi v hv=>?_⟩⟩ ((agf w g _).mono λk _ Z=>by simp[Sl.au,h2,Z]) (by simp[World.setRow])
   .rcases zw.1 hv with hv|hv
    .exact f.one v (C7 hv)
    .rcases zw.1 hv with hv|hv
     .exact L v (C7 hv)
     .exact f.one v (List.mem_of_mem_drop hv)
   .have hi:i<s.n:=by
     have:=(kB.1 hv).1;simp at this;omega
    simp only[v_];by_cases c1:i<lo
    .rw[tJ (by simp;omega),u_ c1]at hv
     rw[m_,tJ (by simp;omega),u_ af]
     simpa using R i v hv
    .rw[u0 (by simp;omega)]at hv
     rw[m_,u0 (by simp;omega)]
     have el:(List.take lo xs).length=lo:=by simp;omega
     have H:(List.take (off+lo) cs.toList).length=off+lo:=by simp;omega
     rw[el]at hv;rw[H,show off+i - (off+lo)=i - lo by omega]
     by_cases c2:i - lo<min d.n x.n
     .rw[tJ (by simp;omega)]at hv ⊢
      exact hv
     .rw[u0 (by simp;omega)]at hv ⊢
      rw[r_]at hv ⊢;have I:(List.take (min d.n x.n) ys).length=min d.n x.n:=by simp;omega
      rw[I]at hv ⊢;rw[show lo+min d.n x.n+(i - lo - min d.n x.n)=i by omega]at hv
      rw[show off+lo+min d.n x.n+(i - lo - min d.n x.n)=off+i by omega]
      simpa using R i v hv
variable{kc:O_}
def amV{c:Sl->ap}(l:ElT P t e b z)(m:z.oneCell'=J_)(o:B<=w.heap.size)
  (hbytes:b*n<=281474976710656) (d:n<=9223372036854775807)
  (p:∀s w',Own w' B s (dU n z)->Ext w w'->s.n=n->s.c=n->s.au=G_ w.heap.size->w'.heap.size=w.heap.size+1->c s w'):xz P t (.int kl (n:Int)) (.int kc (n:Int)) w c:=by
 obtain⟨i,hi,f,g,q⟩:=l.info;have k:(i.bytes:Int)*(n:Int)<=281474976710656:=by
  have h:((b*n:Nat):Int)<=281474976710656:=af;rw[Int.natCast_mul]at h;rwa[g]
 have r:=run_make w t e i z l.1 hi q kl kc n n af (Int.le_refl _) k af;unfold xz;rw[r,f,F4,Cy m];have a:madeCells #[z] n=(dU n z).toArray:=by
  apply Array.ext
  .simp[madeCells]
  .intro j v h2;simp[madeCells,Nat.mod_one]
 rw[iZ,a];show c ⟨G_ ⟨w.heap.size,0,H_⟩,n,n⟩ _;exact p _ _ (Own.new (pN.new w _ e) o bf d λx u=>by rw[(C9.1 u).2];exact m) (CA w _) rfl rfl rfl bf
def aeN{g o:Nat}:∀(l:List M_) (w:N_) (i:Nat) (cs:Array M_) (c:ap),pN w g cs->o+i+l.length<=cs.size->(∀v∈l,v.oneCell'=J_)->
  (∀w' cs',pN w' g cs'->cs'.size=cs.size->(∀j,j<o+i\/o+i+l.length<=j->cs'[j]?=cs[j]?)->(∀j v,l[j]?=G_ v->cs'[o+i+j]?=G_ v)->o7 (λk=>k=g) w w'->w'.heap.size=w.heap.size->c w')->JU w ⟨g,o,H_⟩ i l c
 |[],w,i,cs,c,hb,_,_,hc=>hc w cs hb rfl (λ_ _=>rfl) (λj v h=>by simp at h) (.refl _ _) rfl
 |v::l,w,i,cs,c,hb,hl,h1,hc=>by
  simp only[x_]at hl;unfold JU;rw[dg];refine abR (h1 v bf) hb af λw1 r a b=>aeN l w1 (i+1) _ c r (by simp;omega) (λx s=>h1 x (by simp[s])) λt d y e p f m z=>?_
  refine hc t d y (gq e) (λj q=>?_) (λj u n=>?_) (b.trans m (λ_ _ h=>h) λ_ _ h=>h) (z.trans a)
  .rw[p j (by simp only[x_]at q;omega)]
   rw[Y_ (by simp only[x_]at q;omega)]
  .cases j with
   |zero=>
    simp at n;subst n;rw[p (o+i+0) af,C',Z_];rw[HK af]
   |succ j=>
    have:=f j u (gq n)
    rwa[show o+i+(j+1)=o+(i+1)+j by omega]
def agh{c:ap}(hb:pN w g cs)(a:yr.size=n)(e:o+n<=cs.size)(d:∀v∈yr,v.oneCell'=J_)
  (f:∀w' cs',pN w' g cs'->cs'.size=cs.size->(∀j,j<o\/o+n<=j->cs'[j]?=cs[j]?)->(∀j,j<n->cs'[o+j]?=yr[j]?)->o7 (λk=>k=g) w w'->w'.heap.size=w.heap.size->c w'):dQ n w ⟨g,o,H_⟩ yr c:=by
 refine⟨a,aeN yr.toList w 0 cs c hb (by simpa[a]using e) (λv hv=>d v (gq hv)) λw' cs' d h2 i l m p=>f w' cs' d h2 (λj b=>i j (by simpa[a]using b)) (λj b=>?_) m p⟩
 have:=l j yr[j] (by simp[a,b])
 rw[C']at this;rw[this];simp[a,b]
def aeO{w:N_}{g o:Nat}{cs:Array M_}(hb:pN w g cs):∀(n i:Nat),o+i+n<=cs.size->Gd w ⟨g,o,H_⟩ i n=G_ ((cs.toList.drop (o+i)).take n)
 |0,i,_=>by simp[Gd]
 |n+1,i,h=>by
  unfold Gd;rw[dg,hb.cell,aeO hb n (i+1) af];have e:cs.toList.drop (o+i)=cs[o+i]::cs.toList.drop (o+(i+1)):=by
   rw[List.drop_eq_getElem_cons (by simp;omega)];rfl
  rw[e];simp[show o+i<cs.size by omega]
def akC{c:Array M_->Prop}(hb:pN w g cs)(b:o+n<=cs.size)(a:c ((cs.toList.drop o).take n).toArray):bx n w ⟨g,o,H_⟩ c:=by
 unfold bx;rw[aeO hb n 0 af];exact a
variable{c:P_->Prop}{i:Int}
def uu(a:0<=i)(b:i<m)(d:c ⟨g,o+i.toNat*sz,H_⟩):Hf ⟨g,o,H_⟩ m i sz c:=⟨⟨a,b⟩,by rw[dg];exact d⟩
def sy(x:Int):Prop:= -9223372036854775808<=x/\x<=9223372036854775807
instance (x:Int):Decidable (sy x):=inferInstanceAs (Decidable (_/\_))
abbrev bv(x:Int):BitVec 64:=f_ 64 x
variable{x:Int}
def aeP(h:sy x):(bv x).toInt=x:=by
 rw[g_,Int.bmod_eq_of_le (by simp[sy]at h;omega) (by simp[sy]at h;omega)]
def abU(b:BitVec 64):IntKind.i64.wrap (b.toNat:Int)=b.toInt:=by
 rw[IntKind.wrap_i64,BitVec.toInt_eq_toNat_cond];have:=b.isLt;split<;>omega
def abV(b:BitVec 64):sy b.toInt:=by
 have a:=b.toInt_lt;have h2:=b.le_toInt;simp at a h2;exact⟨af,af⟩
def arm(x:Int):IntKind.i64.wrap x=(bv x).toInt:=by
 rw[IntKind.wrap_i64,g_,Int.bmod_def];split<;>omega
def dh(h:sy x):IntKind.i64.wrap x=x:=by rw[arm,aeP h]
def QJ(x y:Int):oH B_ x y=(bv x&&&bv y).toInt:=abU _
def agi(x y:Int):Ti B_ x y=(bv x|||bv y).toInt:=abU _
def QK(x y:Int):tU B_ x y=(bv x&&&~~~ bv y).toInt:=abU _
def DH(b:BitVec 64):bv b.toInt=b:=BitVec.ofInt_toInt
def arn(h:sy x)(a:i<64):IR B_ x i=((bv x).sshiftRight i.toNat).toInt:=by
 rw[BitVec.toInt_sshiftRight,aeP h];unfold IR;have:min i.toNat IntKind.i64.bits=i.toNat:=by simp[IntKind.bits];omega
 rw[this,Int.shiftRight_eq_div_pow,Int.fdiv_eq_ediv_of_nonneg _ (by exact_mod_cast Nat.zero_le (2 ^ i.toNat))]
 simp
def tb(x:Int)(i:Nat):Bool:=(bv x).getLsbD i
def aDf(h:sy x)(b:0<=i)(a:i<64):(oH B_ (IR B_ x i) 1==1)=tb x i.toNat:=by
 rw[QJ,arn h a,DH];have e:bv 1=1#64:=e7;rw[e,BitVec.and_one_eq_setWidth_ofBool_getLsbD,BitVec.getLsbD_sshiftRight];have:(L_ (64<=0))=false:=e7;simp only[this,j_,Bool.true_and,C'];rw[HK af];unfold tb;cases (bv x).getLsbD i.toNat<;>decide
def Vc(x y:Int){i:Nat}(h:i<64):tb (tU B_ x y) i=(tb x i&& !tb y i):=by
 unfold tb;rw[QK,DH];simp[h]
def aic(x y:Int):sy (tU B_ x y):=by rw[QK];exact abV _
open Go Go.RowKit Go.ChangeShapes Go.WideShapes
def QL{H:Type}{enc:Q_×M_->H}{P:R_}(c:laidOutB P=J_){W W':N_}(hb:Below W.heap.size W W'):
  ∀{ts:List Q_} {vs:List M_} {ds:List (DataW H)} {ps:List MemPlace},ts.all (λt=>P.readableRec t&&L_ (t<P.types.size))=J_->DataW.TrodAll enc P W 0 (λ_=>J_) J_ ts vs ds ps->(∀x∈ps,x.block<W.heap.size)->
   DataW.TrodAll enc P W' 0 (λb=>L_ (b<W.heap.size)) J_ ts vs ds ps
 |[],[],[],_,_,h,_=>h
 |[],_::_,_,_,_,h,_=>h.elim
 |[],[],_::_,_,_,h,_=>h.elim
 |_::_,[],_,_,_,h,_=>h.elim
 |_::_,_::_,[],_,_,h,_=>h.elim
 |t::ts,v::vs,d::ds,ps,hr,h,hlt=>by
  obtain⟨p,q,e,h2,rfl⟩:=h;simp only[l_,iY,decide_eq_true_eq]at hr;exact⟨p,q,Below.trod c hr.1.1 hr.1.2 e hb (λx a=>hlt x (by simp[a])),QL c hb hr.2 h2 (λx a=>hlt x (by simp[a])),rfl⟩
def UD{H:Type}{enc:Q_×M_->H}{P:R_}{w:N_}{base:Nat}{spare:Nat->Bool}{held:Bool}:
  ∀{ts:List Q_} {vs:List M_} {ds:List (DataW H)} {ps:List MemPlace},DataW.TrodAll enc P w base spare held ts vs ds ps->ds.length=ts.length
 |[],[],[],_,_=>rfl
 |[],_::_,_,_,h=>h.elim
 |[],[],_::_,_,h=>h.elim
 |_::_,[],_,_,h=>h.elim
 |_::_,_::_,[],_,h=>h.elim
 |_::_,_::_,_::_,_,h=>by
  obtain⟨p,q,a,h2,rfl⟩:=h;simp[UD h2]
def zx(P:R_)(w:N_)(t:Q_)(cs:List M_):Prop:=
 ∃(H:Type) (enc:Q_×M_->H) (spare:Nat->Bool) (held:Bool) (fuel:Nat) (d:DataW H) (ps:List MemPlace),
  DataW.trod enc P w 0 spare held fuel t cs=G_ (d,ps)/\∀n∈d.weights P t,n<=reachBytes
structure Arg (P:R_) (w:N_) (t:Q_) (v:M_):Prop where
 form:∃base,Value.okWide P w .any base t v
 reads:zx P w t v.cells.toList
def WO(P:R_)(w:N_):List Q_->List M_->Prop
 |[],[]=>True
 |t::ts,v::vs=>Arg P w t v/\WO P w ts vs
 |_,_=>False
def WO.cons{P:R_}{w:N_}{t:Q_}{ts:List Q_}{vs:List M_}(h:WO P w (t::ts) vs):∃v vs',vs=v::vs'/\Arg P w t v/\WO P w ts vs':=by
 cases vs with
 |nil=>exact h.elim
 |cons v vs=>exact⟨v,vs,rfl,h.1,h.2⟩
def WO.nil{P:R_}{w:N_}{vs:List M_}(h:WO P w [] vs):vs=[]:=by
 cases vs with
 |nil=>rfl
 |cons v vs=>exact h.elim
def aid{H:Type}{enc:Q_×M_->H}{P:R_}{w:N_}:
  ∀{ts:List Q_} {vs:List M_} {ds:List (DataW H)} {ps:List MemPlace} {base:Nat},(∀(j:Nat) t v,ts[j]?=G_ t->vs[j]?=G_ v->Value.okWide P w .any base t v)->
   DataW.TrodAll enc P w 0 (λ_=>J_) J_ ts vs ds ps->(∀n∈DataW.weightsEach P ts ds,n<=reachBytes)->WO P w ts vs
 |[],[],[],_,_,_,_,_=>trivial
 |[],_::_,_,_,_,_,h,_=>h.elim
 |[],[],_::_,_,_,_,h,_=>h.elim
 |_::_,[],_,_,_,_,h,_=>h.elim
 |_::_,_::_,[],_,_,_,h,_=>h.elim
 |t::ts,v::vs,d::ds,_,base,hv,h,hw=>by
  obtain⟨p,q,⟨fuel,b⟩,h2,rfl⟩:=h;simp only[DataW.weightsEach,zw]at hw;exact⟨⟨⟨base,hv 0 t v rfl rfl⟩,⟨H,enc,_,_,fuel,d,p,b,λn a=>hw n (D_ a)⟩⟩,aid (λj t' v' c Gq=>hv (j+1) t' v' (gq c) (gq Gq)) h2 λn a=>hw n (E_ a)⟩
def awX{n:Int}(h:(Lit.int B_ n).wf=J_):sy n:=by
 simp[Lit.wf,IntKind.min,IntKind.max,IntKind.signed,IntKind.bits]at h;exact⟨af,af⟩
variable{cs:List M_}
def zx.int(a:P.underlying t=G_ (.int B_))(h:zx P w t cs):∃n,cs=[.int B_ n]/\sy n:=by
 obtain⟨H,enc,spare,held,fuel,d,ps,h,_⟩:=h;cases fuel with
 |zero=>simp[DataW.trod]at h
 |succ m=>
  unfold DataW.trod at h;rw[a]at h;split at h<;>simp_all;rename_i b;obtain⟨⟨_,h2⟩,_⟩:=h;subst b;exact awX h2
def Hl{H:Type}{e:Q_}:∀{ds:List (DataW H)} {d:DataW H} {n:Nat},d∈ds->n∈d.weights P e->n∈DataW.weightsAll P e ds
 |d0::ds,d,n,hd,hn=>by
  simp only[DataW.weightsAll,zw];rcases BP.1 hd with rfl|hd
  .exact D_ hn
  .exact E_ (Hl hd hn)
def zx.struct{fs:Array Field}(b:P.underlying t=G_ (.struct fs))(h:zx P w t cs):
  cs.length=P.cellsOf t/\∀(i:Nat) (f:Field),fs[i]?=G_ f->zx P w f.type ((cs.drop f.offset).take (P.cellsOf f.type)):=by
 obtain⟨H,enc,spare,held,fuel,d,ps,h,c⟩:=h;obtain⟨xs,n,_,e,g,k,l⟩:=DataW.trod_struct b h;cases e
 refine⟨g,λi f a=>?_⟩;have hi:i<xs.length:=by rw[k];exact(Bf.1 a).1
 have:=l i f a;rw[iH hi]at this;refine⟨H,enc,spare,held,n,xs[i].1,xs[i].2,this,λm o=>c m ?_⟩;simp only[DataW.weights,b];exact DataW.weights_mem_each (j:=i) (by simp[a]) (by simp[hi]) m o
def zx.array(a:P.underlying t=G_ (.array o e))(h:zx P w t cs):
  cs.length=P.cellsOf t/\∀i,i<o->zx P w e ((cs.drop (i*P.cellsOf e)).take (P.cellsOf e)):=by
 obtain⟨H,enc,spare,held,fuel,d,ps,h,b⟩:=h;obtain⟨xs,n,_,c,f,l,g⟩:=DataW.trod_array a h;cases c
 refine⟨f,λi hi=>?_⟩;have:=g i hi;rw[iH af]at this;refine⟨H,enc,spare,held,n,xs[i].1,xs[i].2,this,λm j=>b m ?_⟩;simp only[DataW.weights,a];exact Hl (C6.2 ⟨xs[i],List.getElem_mem _,rfl⟩) j
structure QM (sz:Nat) (w:N_) (s:Sl) (es:List (List M_)):Prop where
 len:es.length=s.n
 row:∀i e,es[i]?=G_ e->e.length=sz/\∃p,s.a=G_ p/\∀j v,e[j]?=G_ v->w.cell? ((p.add (i*sz)).add j)=G_ v
variable{es:List (List M_)}
def QM.keep(h:QM sz w s es)(c:o7 S w w')(hs:∀p,s.a=G_ p->¬S p.block):QM sz w' s es:=
 ⟨h.len,λi e d=>by
  obtain⟨f,p,b,g⟩:=h.row i e d;refine⟨f,p,b,λj v hv=>c.cell ?_ (g j v hv)⟩;have:((p.add (i*sz)).add j).block=p.block:=by rw[block_add,block_add]
  rw[this];exact hs p b⟩
def QM.ext(h:QM sz w s es)(a:Ext w w'):QM sz w' s es:=h.keep a λ_ _ h=>h
def akF(h:QM sz w s es)(b:0<=i)(d:i<s.n)
  (f:∀p e,es[i.toNat]?=G_ e->e.length=sz->(∀j v,e[j]?=G_ v->w.cell? (p.add j)=G_ v)->c p):cN s i sz c:=by
 have a:=h.len;obtain⟨h2,p,g,hcell⟩:=h.row i.toNat es[i.toNat] (iH af);unfold cN;rw[g];exact⟨⟨b,d⟩,f _ _ (iH af) h2 hcell⟩
def akG(h:w.cells? g a n=G_ vs):vs.length=n/\∀j v,vs[j]?=G_ v->w.cell? (a.add j)=G_ v:=by
 have hs:=World.cells?_some h;refine⟨gq hs.2.1,λj v hv=>?_⟩
 have b:=(kB.1 hv).1;have:=hs.2.2 j af;rw[this];exact hv
def zx.slice(r:P.underlying t=G_ (.slice e))(h:zx P w t cs):
  ∃(s:Sl) (es:List (List M_)),cs=[.slice s.a s.n s.c]/\QM (P.cellsOf e) w s es/\es.length*P.bytesOf e<=reachBytes/\s.n<=s.c/\s.c<=9223372036854775807/\∀e'∈es,zx P w e e':=by
 obtain⟨H,enc,spare,held,fuel,d,ps,h,j⟩:=h;rcases DataW.trod_slice r h with⟨rfl,_⟩|⟨a,len,cap,elems,rest,n,_,rfl,k,hb,v,g,u,l,y,z⟩
 .exact⟨⟨H_,0,0⟩,[],rfl,⟨rfl,λi e h=>by simp at h⟩,bf,iw _,bf,bf⟩
 .cases k
  simp only[DataW.weights,r]at j;have each:∀i,i<len->∃vs,w.cells? 0 (a.add (i*P.cellsOf e)) (P.cellsOf e)=G_ vs/\∃x,elems[i]?=G_ x/\DataW.trod enc P w 0 spare held n e vs=G_ x:=by
   intro i hi;have f:=l i hi;rw[iH af]at f;cases hc:w.cells? 0 (a.add (i*P.cellsOf e)) (P.cellsOf e)with
   |none=>rw[hc]at f;simp at f
   |some vs=>rw[hc]at f;exact⟨vs,rfl,elems[i],iH af,f⟩
  refine⟨⟨G_ a,len,cap⟩,(CX len).map λi=>(w.cells? 0 (a.add (i*P.cellsOf e)) (P.cellsOf e)).getD [],rfl,⟨bf,λi e' o=>?_⟩,?_,v,by unfold maxLen at g;exact g,λe' p=>?_⟩
  .have hi:i<len:=by have:=(kB.1 o).1;simpa using this
   obtain⟨vs,b,_⟩:=each i hi;simp[hi,b]at o;subst o;obtain⟨f,h2⟩:=akG b;exact⟨f,a,rfl,h2⟩
  .have:=j ((elems.length+rest.length)*P.bytesOf e) bf;simp only[List.length_map,List.length_range]at this ⊢;exact EZ (F3 _ af) this
  .obtain⟨i,hi,rfl⟩:=C6.1 p;obtain⟨vs,b,x,k,q⟩:=each i (gq hi)
   rw[b];refine⟨H,enc,spare,held,n,x.1,x.2,q,λm g=>j m ?_⟩;refine C3 _ (zw.2 (D_ (Hl (C6.2 ⟨x,qn k,rfl⟩) g)))
def zy{A B:Type}{f:A->B}{G:A->Prop}:∀{es:List B},(∀e∈es,∃x,e=f x/\G x)->∃l:List A,es=l.map f/\∀x∈l,G x
 |[],_=>⟨[],rfl,bf⟩
 |e::es,h=>by
  obtain⟨x,rfl,a⟩:=h e bf;obtain⟨l,rfl,b⟩:=zy (es:=es) λe c=>h e (by simp[c])
  exact⟨x::l,rfl,λy hy=>by rcases BP.1 hy with rfl|hy;exact a;exact b y hy⟩
def Arg.int(a:P.underlying t=G_ (.int B_))(h:Arg P w t v):∃n,v= .int B_ n/\sy n:=by
 obtain⟨b,c⟩:=h.form;obtain⟨n,rfl⟩:=okWide_int a c;obtain⟨m,d,e⟩:=h.reads.int a;have:n=m:=by simpa[Value.cells]using d
 exact⟨n,rfl,this▸e⟩
def Arg.agg(a:(∃n e,P.underlying t=G_ (.array n e))\/∃fs,P.underlying t=G_ (.struct fs))(h:Arg P w t v):∃cs,v= .agg cs/\zx P w t cs.toList:=by
 obtain⟨b,c⟩:=h.form;have hv:∃cs,v= .agg cs:=by
  rcases a with⟨n,e,a⟩|⟨fs,a⟩;all_goals
   simp only[Value.okWide,a]at c;obtain⟨cs,d,_⟩:=c;exact⟨cs,d⟩
 obtain⟨cs,rfl⟩:=hv;exact⟨cs,rfl,by simpa[Value.cells]using h.reads⟩
def Vd(P:R_):Nat->Q_->Bool
 |0,_=>K_
 |n+1,t=>match P.underlying t with
  |some (.int B_)=>J_
  |some (.struct fs)=>fs.all (λf=>Vd P n f.type)&&(CX (P.cellsOf t)).all λj=>fs.any λf=>L_ (f.offset<=j/\j<f.offset+P.cellsOf f.type)
  |some (.array k e)=>Vd P n e&&L_ (P.cellsOf t=k*P.cellsOf e)&&L_ (0<P.cellsOf e)
  |_=>K_
def aeQ(a:o<=j)(b:j<o+n)(h2:j<cs.length):cs[j] ∈(cs.drop o).take n:=by
 apply qn (i:=j - o);rw[u_ af,r_,show o+(j - o)=j by omega,iH h2]
def zx.flat:∀{n:Nat} {t:Q_} {cs:List M_},Vd P n t=J_->zx P w t cs->∀c∈cs,∃z,c= .int B_ z/\sy z
 |0,_,_,h,_=>by cases h
 |n+1,t,cs,h,hr=>by
  unfold Vd at h;split at h
  .rename_i d;obtain⟨z,rfl,p⟩:=hr.int d;intro c b;rw[List.mem_singleton]at b;exact⟨z,b,p⟩
  .rename_i fs d;obtain⟨q,g⟩:=hr.struct d;simp only[iY,tL]at h;intro c b;obtain⟨j,l,rfl⟩:=w_ b;have h2:=h.2 j (by simp;omega)
   obtain⟨i,hi,a⟩:=Array.any_eq_true.1 h2;have a:=of_decide_eq_true a;have m:=(Array.all_eq_true.1 h.1) i hi;exact zx.flat m (g i fs[i] bf) _ (aeQ a.1 a.2 l)
  .rename_i k e d;obtain⟨q,g⟩:=hr.array d;simp only[iY,decide_eq_true_eq]at h;obtain⟨⟨r,h2⟩,o⟩:=h;intro c b;obtain⟨j,l,rfl⟩:=w_ b;have f:j / P.cellsOf e<k:=by
    rw[Nat.div_lt_iff_lt_mul o];omega
   have s:=Nat.div_add_mod j (P.cellsOf e);have u:=Nat.mod_lt j o;rw[Nat.mul_comm]at s;exact zx.flat r (g (j / P.cellsOf e) f) _ (aeQ af af l)
  .cases h
def zx.len(a:(∃n e,P.underlying t=G_ (.array n e))\/∃fs,P.underlying t=G_ (.struct fs))(h:zx P w t cs):cs.length=P.cellsOf t:=by
 rcases a with⟨n,e,a⟩|⟨fs,a⟩
 .exact(h.array a).1
 .exact(h.struct a).1
def Arg.flat(a:(∃n e,P.underlying t=G_ (.array n e))\/∃fs,P.underlying t=G_ (.struct fs))(d:Vd P n t=J_)(f:P.cellsOf t=o)(h:Arg P w t v):
  ∃xs:List Int,v= .agg (Go.Ev.ints xs).toArray/\xs.length=o/\∀y∈xs,sy y:=by
 obtain⟨cs,rfl,b⟩:=h.agg a;obtain⟨xs,c,g⟩:=zy (b.flat d);refine⟨xs,?_,?_,g⟩
 .have:cs=(xs.map (Value.int B_)).toArray:=by rw[<-c]
  rw[this]
 .have:=b.len a;rw[c,f]at this;simpa using this
def art:∀(k:K) (x:k.T) (c:k.T->Prop),unV k (k.v x) c=c x
 | .i k,x,c=>by simp[unV,K.v,xS]
 | .b,x,c=>rfl
 | .p,x,c=>rfl
 | .a,x,c=>rfl
 | .s,x,c=>rfl
 | .str,x,c=>rfl
 | .m,x,c=>rfl
 | .ag,x,c=>rfl
 | .raw,x,c=>rfl
def aie:∀(ks:List K) (x:KT ks) (c:KT ks->Prop),qW ks (dL ks x) c=c x
 |[],x,c=>rfl
 |[k],x,c=>art k x c
 |k::(y::r),x,c=>by
  show unV k (k.v x.1) (λz=>qW (y::r) (dL (y::r) x.2) λxs=>c (z,xs))=c x;rw[art,aie (y::r)];rfl
variable{x8:N_}
def uY.call{qm:List K}{F:KT qm->N_->(KT ur->ap)->Prop}(h:uY P f λargs w c=>qW qm args λx=>F x w λr w=>c (e9 (dL ur r)) w){Q:Ending->ap}(x:KT qm)(a:args.toList=dL qm x)
  (b:F x x8 λr w=>Q (.returned (e9 (dL ur r))) w):Calls P f args x8 Q:=by
 refine(h.2 args x8 (λv w=>Q (.returned v) w) ?_).mono ?_
 .rw[a];show qW qm (dL qm x) _;rw[aie];exact b
 .rintro e w' ⟨v,rfl,hv⟩;exact hv
abbrev BI(w:N_)(g:Nat)(l:List Int):Prop:=pN w g (ints l).toArray
abbrev eZ(l:List Int):Array Value:=(ints l).toArray
variable{l:List Int}
def m8(h:o<l.length):(eZ l)[o]?=G_ (.int B_ (l.getD o 0)):=by
 simp[eZ,ints,m0,h]
def BI.cell(h:BI w g l)(a:o<l.length):w.cell? ⟨g,o,H_⟩=G_ (.int B_ (l.getD o 0)):=by
 rw[pN.cell h,m8 a]
def j3{c:Int->Prop}(h:BI w g l)(a:o<l.length)(b:c (l.getD o 0)):aJ B_ w ⟨g,o,H_⟩ c:=uZ (h.cell a) b
def ints_set:(eZ l).setIfInBounds o (.int B_ x)=eZ (l.set o x):=by
 simp[eZ,ints,List.map_set]
variable{c:ap}
def CB(h:BI w g l)(a:o<l.length)(b:∀w',BI w' g (l.set o x)->w'.heap.size=w.heap.size->o7 (λk=>k=g) w w'->c w'):bN w ⟨g,o,H_⟩ (.int B_ x) c:=
 abR rfl h (by simpa[eZ,ints]using a) λw' hb hs a=>b w' (by rw[ints_set]at hb;exact hb) hs a
def agj{b:Array M_}(h:pN w g yr)(e:∀j:Nat,yr[j]?=b[j]?):pN w g b:=by
 have:yr=b:=by
  obtain⟨yr⟩:=yr;obtain⟨b⟩:=b;congr 1;exact p_ λj=>gq (e j)
 rwa[<-this]
variable{cs:Array M_}
def xT(h:pN w g cs)(hs:cs.size=n)(a:l.length=n)(b:∀w',BI w' g l->w'.heap.size=w.heap.size->o7 (λk=>k=g) w w'->c w'):dQ n w ⟨g,0,H_⟩ (eZ l) c:=by
 refine agh h (by simpa[eZ,ints]using a) af (λv hv=>IK v (by simpa[eZ]using hv)) λw' cs' hb f i hv d hs'=>b w' (agj hb λj=>?_) hs' d
 by_cases e:j<n
 .have:=hv j e;rwa[FM]at this
 .rw[W_ af,W_ (by simp[eZ,ints];omega)]
def aAR(h:BI w g l)(d:x6.length=n)(e:o+n<=l.length)(f:∀w',BI w' g (l.take o++(x6++l.drop (o+n)))->w'.heap.size=w.heap.size->o7 (λk=>k=g) w w'->c w'):dQ n w ⟨g,o,H_⟩ (eZ x6) c:=by
 refine agh h (by simpa[eZ,ints]using d) (by simpa[eZ,ints]using e) (λv hv=>IK v (by simpa[eZ]using hv)) λw' cs' hb i a hv m hs'=>f w' (agj hb λj=>?_) hs' m
 have p:cs'.size=l.length:=by simpa[eZ,ints]using i
 by_cases b:j<o
 .rw[a j (D_ b)];simp only[eZ,ints,v_,l8];rw[tJ (by simp;omega),u_ b]
 .by_cases h2:j<o+n
  .have:=hv (j - o) af;rw[show o+(j - o)=j by omega]at this
   rw[this];simp only[eZ,ints,v_,l8];rw[u0 (by simp;omega),tJ (by simp;omega)]
   congr 2;simp;omega
  .rw[a j (E_ af)];simp only[eZ,ints,v_,l8];rw[u0 (by simp;omega),u0 (by simp;omega),r_]
   congr 2;simp;omega
variable{c:Array M_->Prop}
def kV(h:BI w g l)(a:l.length=n)(b:c (eZ l)):bx n w ⟨g,0,H_⟩ c:=by
 refine akC h (by simp[eZ,ints];omega) ?_
 have:((eZ l).toList.drop 0).take n=ints l:=by simp[eZ,ints,CY,a]
 rw[this];exact b
def aro(h:BI w g l)(a:o+n<=l.length)(b:c (eZ ((l.drop o).take n))):bx n w ⟨g,o,H_⟩ c:=by
 refine akC h (by simpa[eZ,ints]using a) ?_
 have:((eZ l).toList.drop o).take n=ints ((l.drop o).take n):=by simp[eZ,ints,List.map_take,List.map_drop]
 rw[this];exact b
def arp{c:M_->Prop}(a:0<=i)(b:i<n)(e:l.length=n)(d:c (.int B_ (l.getD i.toNat 0))):ixA (eZ l) n i c:=by
 refine⟨⟨a,b⟩,?_⟩;unfold Qq;rw[m8 af];exact d
def I0{c:Int->Prop}(h:c x):xS B_ (.int B_ x) c:=h
def BV{c:Prop}(h:pN w g cs)(h':pN w' g cs)(a:c):ai n ⟨g,o,H_⟩ w w' c:=
 ⟨λk _=>by rw[dg,h.cell,h'.cell],a⟩
def WM:∀(os:List Nat) (xs ys:List Int),(∀o∈os,o<xs.length/\o<ys.length)->oZ (eZ xs) (eZ ys) (os.map λo=>(o,0))=G_ (os.all λo=>xs.getD o 0==ys.getD o 0)
 |[],_,_,_=>rfl
 |o::os,xs,ys,h=>by
  have a:=h o bf;simp only[z_,oZ,m8 a.1,m8 a.2,eqC,if_true];rw[WM os xs ys λo b=>h o (by simp[b])]
  simp
variable{xs:List Int}
def akD{ys:List Int}{c:Bool->Prop}(f:xs.length=n)(g:ys.length=n)(a:c (L_ (xs=ys))):Tj ((CX n).map λo=>(o,0)) (eZ xs) (eZ ys) c:=by
 unfold Tj;rw[WM _ _ _ λo b=>by simp at b;omega]
 have e:((CX n).all λo=>xs.getD o 0==ys.getD o 0)=L_ (xs=ys):=by
  rw[Bool.eq_iff_iff,decide_eq_true_eq,tL];constructor
  .intro h;apply p_;intro j;by_cases d:j<n
   .have:=h j (gq d)
    simp only[m0,beq_iff_eq]at this;rw[iH af,iH af]at this ⊢;simpa using this
   .rw[s_ af,s_ af]
  .rintro rfl o _;simp
 rw[e];exact a
def abW(L:List M_)(n:Nat)(v:M_):(L.set n v).take n=L.take n:=by
 apply p_;intro j;rw[t_,t_];split
 .rw[r0 af]
 .rfl
def agk(L:List M_)(n m:Nat)(v:M_)(h:n<m):(L.set n v).drop m=L.drop m:=by
 apply p_;intro j;rw[r_,r_,r0 af]
def abX(off:Nat):∀(cs:List M_) (k:Nat) (L:List M_),off+k+cs.length<=L.length->
  (cs.zipIdx k).foldl (fun(a:List M_) (x:M_×Nat)=>a.set (off+x.2) x.1) L=L.take (off+k)++(cs++L.drop (off+k+cs.length))
 |[],k,L,h=>by simp
 |v::cs,k,L,h=>by
  simp only[x_]at h;rw[List.zipIdx_cons,q_,abX off cs (k+1) _ (by simp;omega)]
  simp only[x_];rw[agk _ _ _ _ af,show off+(k+1)=off+k+1 by omega,List.take_add_one,abW,uO af]
  rw[show off+k+1+cs.length=off+k+(cs.length+1) by omega]
  simp
def WN(off:Nat):∀(l:List (M_×Nat)) (acc:Array M_),(l.foldl (fun(a:Array M_) (x:M_×Nat)=>a.setIfInBounds (off+x.2) x.1) acc).toList=l.foldl (fun(a:List M_) (x:M_×Nat)=>a.set (off+x.2) x.1) acc.toList
 |[],_=>rfl
 |x::l,acc=>by rw[q_,q_,WN off l];simp
def aoA(off:Nat)(cs:List M_)(acc:Array M_)(h:off+cs.length<=acc.size):
  (cs.zipIdx 0).foldl (fun(a:Array M_) (x:M_×Nat)=>a.setIfInBounds (off+x.2) x.1) acc=(acc.toList.take off++(cs++acc.toList.drop (off+cs.length))).toArray:=by
 have b:=WN off (cs.zipIdx 0) acc;rw[abX off cs 0 _ (gq h),C']at b
 rw[<-b]
def arq{acc:List M_}(r:List M_)(h:vs.length=o)(f:g+o<=acc.length)(a:acc.take g++(vs++acc.drop (g+o))=r)(b:c r.toArray):kT acc.toArray g o vs.toArray c:=by
 refine⟨by simp[h],?_⟩
 have:=aoA g vs acc.toArray (by simp;omega)
 rw[<-U_];have e:vs.toArray.zipIdx.toList=vs.zipIdx 0:=by simp
 rw[e];have e2:(fun(vs:Array M_) (x:M_×Nat)=>vs.setIfInBounds (g+x.2) x.1)=fun(vs:Array M_) (x:M_×Nat)=>match x with|(x,j)=>vs.setIfInBounds (g+j) x:=by
  funext vs x;cases x;rfl
 rw[e2]at this;rw[this];have d:acc.toArray.toList=acc:=rfl;rw[d,h,a];exact b
def qL(r:Array M_)(h:cs.size=o)(a:cs.zipIdx.foldl (λcs (x,j)=>cs.setIfInBounds (g+j) x) yr=r)(b:c r):kT yr g o cs c:=by
 subst a;exact⟨h,b⟩
def akE{c:M_->Prop}(h:w.cell? a=G_ v)(b:c v):tH w a c:=by
 simp only[tH,rd,h];exact b
def ars{k:P_->Prop}(a:0<=i)(b:i<n)(d:k ⟨g,o+i.toNat*sz,H_⟩):cN ⟨G_ ⟨g,o,H_⟩,n,m⟩ i sz k:=⟨⟨a,b⟩,by rw[dg];exact d⟩
structure HP where
 p:(Nat->Prop)->ap
 lt:∀{F w g},p F w->F g->g<w.heap.size
 keep:∀{F w w'},p F w->(∀g,F g->w'.heap[g]?=w.heap[g]?)->p F w'
def u4:List HP->(Nat->Prop)->ap
 |[],F,_=> ∀g,¬F g
 |R::L,F,w=> ∃F1 F2,R.p F1 w/\u4 L F2 w/\(∀g,F1 g->¬F2 g)/\∀g,F g↔(F1 g\/F2 g)
def DI:∀{L:List HP} {F w g},u4 L F w->F g->g<w.heap.size
 |[],F,w,g,h,hg=>(h g hg).elim
 |R::L,F,w,g,⟨a,b,h1,h2,_,e⟩,hg=>by
  rcases (e g).1 hg with hg|hg
  .exact R.lt h1 hg
  .exact DI h2 hg
def FD:∀{L:List HP} {F w w'},u4 L F w->(∀g,F g->w'.heap[g]?=w.heap[g]?)->u4 L F w'
 |[],F,w,w',h,_=>h
 |R::L,F,w,w',⟨b,c,h1,h2,hd,e⟩,hk=>
  ⟨b,c,R.keep h1 λg a=>hk g ((e g).2 (D_ a)),FD h2 λg a=>hk g ((e g).2 (E_ a)),hd,e⟩
def aoB:∀{L:List HP} {F G w},(∀g,F g↔G g)->u4 L F w->u4 L G w
 |[],F,G,w,hfg,h=>λg a=>h g ((hfg g).2 a)
 |R::L,F,G,w,hfg,⟨b,c,h1,h2,hd,e⟩=>⟨b,c,h1,h2,hd,λg=>(hfg g).symm.trans (e g)⟩
variable{L:List HP}{R S:HP}
def I1{F w}(h:u4 (R::S::L) F w):u4 (S::R::L) F w:=by
 obtain⟨d,o,j,⟨k,f,l,m,n,e'⟩,i,e⟩:=h;refine⟨k,λg=>d g\/f g,l,⟨d,f,j,m,λg a b=>i g a ((e' g).2 (E_ b)),λg=>k_⟩,λg a c=>?_,λg=>?_⟩
 .rcases c with h|h
  .exact i g h ((e' g).2 (D_ a))
  .exact n g a h
 .rw[e,e'];constructor<;>(intro h;rcases h with h|h|h<;>simp[h])
structure St (w0 w:N_) (L:List HP):Prop where
 ext:Ext w0 w
 sep:∃F,u4 L F w/\∀g,F g->w0.heap.size<=g
def St.nil(w:N_):St w w []:=⟨.refl _ _,λ_=>False,λ_ h=>h,λ_ h=>h.elim⟩
variable{w0:N_}
def St.awZ(h:Ext w0 w):St w0 w []:=⟨h,λ_=>False,λ_ h=>h,λ_ h=>h.elim⟩
def St.on(h:St w0 w L)(a:Ext w w'):St w0 w' L:=by
 obtain⟨b,F,h2,c⟩:=h;exact⟨b.trans a,F,FD h2 λg d=>a.block g (DI h2 d) λh=>h,c⟩
def St.swap(h:St w0 w (R::S::L)):St w0 w (S::R::L):=by
 obtain⟨a,F,h2,b⟩:=h;exact⟨a,F,I1 h2,b⟩
def St.drop(h:St w0 w (R::L)):St w0 w L:=by
 obtain⟨a,F,⟨i,b,h2,c,j,e⟩,d⟩:=h;exact⟨a,b,c,λg f=>d g ((e g).2 (E_ f))⟩
def St.all(h:St w0 w L):St w0 w []:=St.awZ h.ext
variable{X:HP}
def St.new{F':Nat->Prop}(h:St w0 w L)(a:Ext w w')(d:X.p F' w')(b:∀g,F' g->w.heap.size<=g):St w0 w' (X::L):=by
 obtain⟨c,F,h2,e⟩:=h;refine⟨c.trans a,λg=>F' g\/F g,⟨F',F,d,FD h2 λg hg=>a.block g (DI h2 hg) λh=>h,λg hg f=>?_,λ_=>k_⟩,λg hg=>?_⟩
 .have:=b g hg;have:=DI h2 f;omega
 .rcases hg with hg|hg
  .have:=b g hg;have:=c.size;omega
  .exact e g hg
def St.aeR(h:St w0 w (R::L))(b:∀a,R.p a w->o7 a w w'/\∃F',X.p F' w'/\∀g,F' g->a g\/w.heap.size<=g):St w0 w' (X::L):=by
 obtain⟨i,F,⟨a,c,h2,d,j,e⟩,f⟩:=h;obtain⟨k,F',b,l⟩:=b a h2;have n:u4 L c w':=FD d λg hg=>k.block g (DI d hg) λh=>j g h hg;refine⟨i.then k λg hg=>f g ((e g).2 (D_ hg)),λg=>F' g\/c g,⟨F',c,b,n,λg hg m=>?_,λ_=>k_⟩,λg hg=>?_⟩
 .rcases l g hg with h|h
  .exact j g h m
  .have:=DI d m;omega
 .rcases hg with hg|hg
  .rcases l g hg with h|h
   .exact f g ((e g).2 (D_ h))
   .have:=i.size;omega
  .exact f g ((e g).2 (E_ hg))
def St.look(h:St w0 w (R::L)):∃F,R.p F w/\∀g,F g->w0.heap.size<=g:=by
 obtain⟨d,F,⟨a,f,h2,i,j,e⟩,b⟩:=h;exact⟨a,h2,λg c=>b g ((e g).2 (D_ c))⟩
def St.conv(h:St w0 w (R::L))(b:∀F,R.p F w->X.p F w):St w0 w (X::L):=by
 obtain⟨c,F,⟨a,d,h2,f,g,e⟩,i⟩:=h;exact⟨c,F,⟨a,d,b a h2,f,g,e⟩,i⟩
class At {α:Type} (L:List HP) (k:α->HP) (x:outParam α) (f:outParam (HP->List HP)):Prop where
 split:∃R,(∀{F w},u4 L F w->u4 (k x::R) F w)/\∀{X F w},u4 (X::R) F w->u4 (f X) F w
instance (priority:=high) At.here {α:Type} {L:List HP} {k:α->HP} {x:α}:At (k x::L) k x (λX=>X::L):=⟨⟨L,id,id⟩⟩
instance At.there {α:Type} {L:List HP} {k:α->HP} {x:α} {Y:HP} {f:HP->List HP} [a:At L k x f]:At (Y::L) k x (λX=>Y::f X):=by
 constructor
 obtain⟨R,h1,h2⟩:=a.split
 refine⟨Y::R,λh=>I1 ?_,λh=>?_⟩
 .obtain⟨F1,F2,k2,k4,k5,e⟩:=h
  exact⟨F1,F2,k2,h1 k4,k5,e⟩
 .obtain⟨F1,F2,k2,k4,k5,e⟩:=I1 h
  exact⟨F1,F2,k2,h2 k4,k5,e⟩
variable{f:HP->List HP}{α:Type}{k:α->HP}{x:α}
def At.out(a:At L k x f):∃R,(∀{w0 w},St w0 w L->St w0 w (k x::R))/\∀{X w0 w},St w0 w (X::R)->St w0 w (f X):=by
 obtain⟨R,d,h2⟩:=a.split;exact⟨R,fun⟨a,F,b,c⟩=>⟨a,F,d b,c⟩,fun⟨a,F,b,c⟩=>⟨a,F,h2 b,c⟩⟩
def St.look'(h:St w0 w L)(a:At L k x f):∃F,(k x).p F w/\∀g,F g->w0.heap.size<=g:=by
 obtain⟨R,b,h2⟩:=a.out;exact(b h).look
def St.M8(h:St w0 w L)(a:At L k x f)(c:∀b,(k x).p b w->o7 b w w'/\∃F',X.p F' w'/\∀g,F' g->b g\/w.heap.size<=g):St w0 w' (f X):=by
 obtain⟨R,d,h2⟩:=a.out;exact h2 ((d h).aeR c)
def St.agl(h:St w0 w L)(a:At L k x f)(b:∀F,(k x).p F w->X.p F w):St w0 w (f X):=by
 obtain⟨R,c,h2⟩:=a.out;exact h2 ((c h).conv b)
def Z1:∀{L:List HP} {n:Nat} {X:HP} {F w},L[n]?=G_ X->u4 L F w->u4 (X::L.eraseIdx n) F w
 |[],n,X,F,w,h,_=>by simp at h
 |R::L,0,X,F,w,h,hs=>by simp at h;subst h;exact hs
 |R::L,n+1,X,F,w,h,⟨a,b,h1,h2,h3,h4⟩=>by
  have:=Z1 (gq h) h2
  exact I1 ⟨a,b,h1,this,h3,h4⟩
def St.front(h:St w0 w L)(n:Nat)(e:L[n]?=G_ X):St w0 w (X::L.eraseIdx n):=⟨h.ext,by obtain⟨F,a,h2⟩:=h.sep;exact⟨F,Z1 e a,h2⟩⟩
def St.rm(h:St w0 w L)(n:Nat)(e:L[n]?=G_ X):St w0 w (L.eraseIdx n):=(h.front n e).drop
def aif{c:Prop}(b:c):ai n a w w c:=⟨λ_ _=>rfl,b⟩
def au(g:Nat)(cs:List M_):HP where
 p F w:=(∀k,F k↔k=g)/\pN w g cs.toArray
 lt:=fun⟨e,h⟩ hg=>by rw[(e _).1 hg];exact h.lt
 keep:=fun⟨e,h⟩ hk=>⟨e,by obtain⟨t,h⟩:=h;exact⟨t,(hk _ ((e _).2 rfl)).trans h⟩⟩
variable{cs:List M_}
def St.au(h:St w0 w L)[a:At L (au g) cs f]:pN w g cs.toArray:=by
 obtain⟨F,b,_⟩:=h.look' a;exact b.2
def aM{c:P_->ap}(h:St w0 w L)(b:∀g w',St w0 w' (Ev.au g yr.toList::L)->c ⟨g,0,H_⟩ w'):aE w yr t c:=
 jJ λg w' e hs hb d=>b g w' (h.new d ⟨λ_=>k_,hb⟩ λk f=>by omega)
def cH{c:ap}(h:St w0 w L)(a:∀w',St w0 w' L->c w'):drew w c:=M6 λw' _ b=>a w' (h.on b)
def j4{c:ap}(h:St w0 w L)[a:At L (Ev.au g) cs f](e:v.oneCell'=J_)(i:o<cs.length)(j:∀w',St w0 w' (f (Ev.au g (cs.set o v)))->c w'):bN w ⟨g,o,H_⟩ v c:=by
 refine abR e h.au (gq i) λw' hb hs l=>j w' (h.M8 a λm d=>⟨l.mono λk _ b=>(d.1 k).2 b,λk=>k=g,⟨λ_=>k_,?_⟩,λk b=>D_ ((d.1 k).2 b)⟩)
 rw[List.setIfInBounds_toArray]at hb;exact hb
def cr{k:O_}{n:Int}{c:Int->Prop}(h:St w0 w L)[a:At L (Ev.au g) cs f](hv:cs[o]?=G_ (.int k n))(b:c n):aJ k w ⟨g,o,H_⟩ c:=uZ (by rw[h.au.cell];simpa using hv) b
def akI{c:Bool->Prop}(h:St w0 w L)[a:At L (Ev.au g) cs f](hv:cs[o]?=G_ (.bool y0))(b:c y0):He w ⟨g,o,H_⟩ c:=akB (by rw[h.au.cell];simpa using hv) b
def CC{n:Option P_}{c:Option P_->Prop}(h:St w0 w L)[a:At L (Ev.au g) cs f](hv:cs[o]?=G_ (.pointer n))(b:c n):aQ w ⟨g,o,H_⟩ c:=ark (by rw[h.au.cell];simpa using hv) b
def ea{c:Sl->Prop}(h:St w0 w L)[a:At L (Ev.au g) cs f](hv:cs[o]?=G_ (.slice yi n m))(b:c ⟨yi,n,m⟩):cy w ⟨g,o,H_⟩ c:=IY (by rw[h.au.cell];simpa using hv) b
def aih{n:ByteArray}{c:ByteArray->Prop}(h:St w0 w L)[a:At L (Ev.au g) cs f](hv:cs[o]?=G_ (.string n))(b:c n):Qp w ⟨g,o,H_⟩ c:=by
 have:w.cell? ⟨g,o,H_⟩=G_ (.string n):=by rw[h.au.cell];simpa using hv
 simp[Qp,rd,this,Yo,b]
def abY{c:Option Nat->Prop}(h:St w0 w L)[a:At L (Ev.au g) cs f](hv:cs[o]?=G_ (.map d))(b:c d):ldM w ⟨g,o,H_⟩ c:=by
 have:w.cell? ⟨g,o,H_⟩=G_ (.map d):=by rw[h.au.cell];simpa using hv
 simp[ldM,rd,this,toM,b]
def I2{c:M_->Prop}(h:St w0 w L)[a:At L (Ev.au g) cs f](hv:cs[o]?=G_ v)(b:c v):tH w ⟨g,o,H_⟩ c:=akE (by rw[h.au.cell];simpa using hv) b
def qM(h:St w0 w L)[a:At L (Ev.au g) cs f](b:o+n<=cs.length)(d:c ((cs.drop o).take n).toArray):bx n w ⟨g,o,H_⟩ c:=akC h.au (gq b) d
def je(h:St w0 w L)[a:At L (Ev.au g) cs f](d:cs.length=n)(b:c cs.toArray):bx n w ⟨g,0,H_⟩ c:=by
 refine qM h af ?_;rw[List.drop_zero,CY af];exact b
variable{c:ap}{vs:Array M_}
def Yz(h:St w0 w L)[a:At L (Ev.au g) cs f](i:vs.size=n)(l:o+n<=cs.length)(d:∀v∈vs,v.oneCell'=J_)
  (m:∀w',St w0 w' (f (Ev.au g (cs.take o++(vs.toList++cs.drop (o+n)))))->c w'):dQ n w ⟨g,o,H_⟩ vs c:=by
 refine agh h.au i (gq l) d λw' cs' hb p b hv q hs=>m w' (h.M8 a λs e=>⟨q.mono λk _ b=>(e.1 k).2 b,λk=>k=g,⟨λ_=>k_,?_⟩,λk b=>D_ ((e.1 k).2 b)⟩)
 refine agj hb λj=>?_;have r:cs'.size=cs.length:=gq p
 simp only[v_];by_cases d:j<o
 .rw[b j (D_ d)];rw[tJ (by simp;omega),u_ d];simp
 .by_cases h2:j<o+n
  .have:=hv (j - o) af;rw[show o+(j - o)=j by omega]at this
   rw[this];rw[u0 (by simp;omega),tJ (by simp;omega)]
   simp only[y_,Array.getElem?_toList];congr 1;omega
  .rw[b j (E_ af)];rw[u0 (by simp;omega),u0 (by simp;omega),r_]
   simp only[y_,v_,a_];congr 1;omega
def m7(h:St w0 w L)[a:At L (Ev.au g) cs f](b:cs.length=n)(d:vs.size=n)(i:∀v∈vs,v.oneCell'=J_)(j:∀w',St w0 w' (f (Ev.au g vs.toList))->c w'):dQ n w ⟨g,0,H_⟩ vs c:=
 Yz h d af i λw' h'=>j w' (by
  have e:cs.take 0++(vs.toList++cs.drop (0+n))=vs.toList:=by simp[List.drop_eq_nil_of_le,b]
  rwa[e]at h')
variable{x9:List HP}{xc:HP->List HP}
def eD{c:Prop}(h:St w0 w L)(h':St x8 w' x9)[a:At L (Ev.au g) cs f][a':At x9 (Ev.au g) cs xc](b:c):ai n ⟨g,o,H_⟩ w w' c:=BV h.au h'.au b
structure qo (sz:Nat) (w:N_) (s:Sl) (vs:List M_):Prop where
 len:vs.length=s.n*sz
 cap:s.n<=s.c
 max:s.c<=9223372036854775807
 one:∀x∈vs,x.oneCell'=J_
 row:(s.a=H_/\s.c=0)\/∃g off cs,s.a=G_ ⟨g,off,H_⟩/\pN w g cs/\off+s.c*sz<=cs.size/\∀i v,vs[i]?=G_ v->cs[off+i]?=G_ v
variable{vs:List M_}
def qo.keep(h:qo sz w s vs)(b:∀g,s.au=G_ g->w'.heap[g]?=w.heap[g]?):qo sz w' s vs:=by
 refine⟨h.len,h.cap,h.max,h.one,h.row.imp id ?_⟩;rintro⟨g,off,cs,a,h2,c⟩;refine⟨g,off,cs,a,?_,c⟩;obtain⟨t,h2⟩:=h2;exact⟨t,(b g (by simp[Sl.au,a])).trans h2⟩
def qo.sls(h:qo sz w s vs):Hj sz w s vs:=by
 refine⟨h.len,λi v hv=>?_⟩;rcases h.row with⟨a,h2⟩|⟨g,off,cs,a,b,_,c⟩
 .have e:=h.cap;have f:i<vs.length:=(kB.1 hv).1;have d:=h.len;have:s.n=0:=af;have j:vs.length=0:=by rw[d,this];simp
  omega
 .exact⟨_,a,by rw[dg,b.cell];exact c i v hv⟩
def bG(sz:Nat)(s:Sl)(vs:List M_):HP where
 p F w:=(∀k,F k↔s.au=G_ k)/\qo sz w s vs
 lt:=fun⟨e,h⟩ hg=>by
  have hg:=(e _).1 hg
  rcases h.row with⟨h1,_⟩|⟨g',off,cs,h1,h3,_⟩
  .simp[Sl.au,h1]at hg
  .simp[Sl.au,h1]at hg;subst hg;exact h3.lt
 keep:=fun⟨e,h⟩ hk=>⟨e,h.keep λg hg=>hk g ((e g).2 hg)⟩
def St.own(h:St w0 w L)[a:At L (bG sz s) vs f]:qo sz w s vs:=by
 obtain⟨F,b,_⟩:=h.look' a;exact b.2
def St.Gs(h:St w0 w L)[a:At L (bG sz s) vs f]:vs.length=s.n*sz:=h.own.len
def qo.nil(sz:Nat)(w:N_):qo sz w ⟨H_,0,0⟩ []:=⟨bf,iw _,bf,bf,D_ ⟨rfl,rfl⟩⟩
def St.DJ(h:St w0 w L)(sz:Nat):St w0 w (bG sz ⟨H_,0,0⟩ []::L):=by
 exact h.new (.refl _ _) (F':=λ_=>False) ⟨λk=>by simp[Sl.au],qo.nil sz w⟩ λ_ h=>h.elim
def qo.new{l:List M_}(hb:pN w g l.toArray)(a:l.length=n*sz)(b:n<=9223372036854775807)(c:∀x∈l,x.oneCell'=J_):qo sz w ⟨G_ ⟨g,0,H_⟩,n,n⟩ l:=
 ⟨a,iw _,b,c,E_ ⟨g,0,l.toArray,rfl,hb,by simp[a],λi v hv=>gq hv⟩⟩
def St.asS(h:St w0 w L)[a:At L (Ev.au g) cs f](c:cs.length=n*sz)(d:n<=9223372036854775807)(e:∀x∈cs,x.oneCell'=J_):St w0 w (f (bG sz ⟨G_ ⟨g,0,H_⟩,n,n⟩ cs)):=
 h.agl a λF b=>⟨λk=>by rw[b.1];simp[Sl.au,eq_comm],qo.new b.2 c d e⟩
def KX{c:P_->Prop}(h:St w0 w L)[a:At L (bG sz s) vs f](G:0<sz)(H:0<=i)(I:i<s.n)
  (J:∀g o,s.au=G_ g->(∀{w' L' f'},St w0 w' L'->[At L' (bG sz s) vs f']->∀j v,j<sz->vs[i.toNat*sz+j]?=G_ v->w'.cell? ⟨g,o+j,H_⟩=G_ v)->
   (∀{w':N_} {L':List HP} {vs':List M_} {f':HP->List HP} (h':St w0 w' L') (a':At L' (bG sz s) vs' f') (j:Nat) (v:M_) (c':ap),j<sz->v.oneCell'=J_->
    (∀d,St w0 d (f' (bG sz s (vs'.set (i.toNat*sz+j) v)))->c' d)->bN w' ⟨g,o+j,H_⟩ v c')->c ⟨g,o,H_⟩):cN s i sz c:=by
 have A:qo sz w s vs:=h.own;have hi:i.toNat<s.n:=af;have K:i.toNat*sz+sz<=s.n*sz:=by
  rw[<-Nat.succ_mul];exact F3 _ hi
 rcases A.row with⟨h2,M⟩|⟨g,off,cs,h2,M,T,U⟩
 .have:=A.cap;omega
 .unfold cN;rw[h2];refine⟨⟨H,I⟩,?_⟩;rw[dg];refine J g _ (by simp[Sl.au,h2]) ?_ ?_
  .intro w' L' f' h' a' j v N hv;obtain⟨p,B,C⟩:=(h'.own (sz:=sz) (s:=s)).sls.cell _ v hv;rw[h2]at B;cases B;rw[dg]at C;rw[Ce];exact C
  .intro w' L' vs' f' h' a' j v c' N m O;have e:qo sz w' s vs':=h'.own;rcases e.row with⟨b,_⟩|⟨V,off',cs',b,r,t,y⟩
   .rw[h2]at b;cases b
   .rw[h2]at b;cases b;have P:=e.cap;have Q:s.n*sz<=s.c*sz:=F3 _ P;refine abR m r af λd hb hs R=>O d (h'.M8 a' λS D=>⟨R.mono λk _ l=>(D.1 k).2 (by simp[Sl.au,h2,l]),S,⟨D.1,?_⟩,λk l=>D_ l⟩)
    refine⟨by rw[List.length_set];exact e.len,e.cap,e.max,λx z=>?_,E_ ⟨g,off,_,h2,hb,gq t,λk u l=>?_⟩⟩
    .rcases List.mem_or_eq_of_mem_set z with z|rfl
     .exact e.one x z
     .exact m
    .by_cases q:i.toNat*sz+j=k
     .subst q;have F:i.toNat*sz+j<vs'.length:=by rw[e.len];omega
      rw[uO F]at l;cases l
      rw[show off+i.toNat*sz+j=off+(i.toNat*sz+j) by omega,Z_,HK (by rw[e.len]at F;omega)]
     .rw[r0 q]at l;rw[Y_ af];exact y k u l
def S0(P:R_)(t:Q_):Option (Nat×Nat×Option M_):=match P.underlying t with
 |some (.slice e)=>(P.info? e).map λi=>(i.size,i.bytes,i.zero)
 |_=>H_
structure ET (P:R_) (t:Q_) (sz b:Nat) (z:M_):Prop where
 info:S0 P t=G_ (sz,b,G_ z)
 size:z.cells.size=sz
def ET.out(h:ET P t sz b z):∃e i,P.underlying t=G_ (.slice e)/\P.info? e=G_ i/\i.size=sz/\i.bytes=b/\i.zero=G_ z:=by
 have h2:=h.info;unfold S0 at h2;split at h2
 .rename_i e a;cases hi:P.info? e with
  |none=>simp[hi]at h2
  |some i=>simp[hi]at h2;exact⟨e,i,a,hi,h2⟩
 .cases h2
def aeS(P:R_)(t:Q_):Bool:=match P.underlying t with|some (.slice _)=>J_|_=>K_
def aoD(h:aeS P t=J_):∃e,P.underlying t=G_ (.slice e):=by
 unfold aeS at h;split at h
 .exact⟨_,by assumption⟩
 .cases h
variable{x:Sl}
def Iu(h:Hj sz w x ys)(e:n<=x.n):(Builtin.firstCells sz n (.slice x.a x.n x.c)).run P w= .ok (ys.take (n*sz)).toArray w:=by
 have b:=h.len;have f:n*sz<=ys.length:=by rw[b];exact F3 _ e
 cases ha:x.a with
 |none=>
  have:ys=[]:=by
   cases ys with
   |nil=>rfl
   |cons v l=>obtain⟨p,d,_⟩:=h.cell 0 v rfl;rw[ha]at d;cases d
  subst this;rw[List.take_nil];exact run_firstCells_none w sz n x.n x.c
 |some p=>
  exact run_firstCells_some w sz n p x.n x.c (ys.take (n*sz)) (by rw[y_];omega) λj v hv=>by
   rw[t_]at hv;split at hv
   .obtain⟨q,hq,g⟩:=h.cell j v hv;rw[ha]at hq;cases hq;exact g
   .cases hv
def arv(b:P.underlying tx=G_ (.slice e'))(h:Hj sz w x ys)(d:∀v∈ys,v.oneCell'=J_):Src P sz tx (.slice x.a x.n x.c) x.n ys w:=by
 have e:ys.take (x.n*sz)=ys:=CY (by rw[h.len];exact iw _)
 refine⟨D_ ⟨e',b⟩,λ_=>rfl,?_,?_,by rw[h.len],d⟩
 .have:=Iu (P:=P) h (iw _);rwa[e]at this
 .have:=Iu (P:=P) (h.ext (AQ w)) (iw _);rwa[e]at this
def qo.qT{c:Sl->ap}(d:qo sz w s vs)(O:ET P t sz b z)(A:aeS P tx=J_)
  (m:Hj sz w x ys) (Q:∀v∈ys,v.oneCell'=J_) (hbytes:(s.n+x.n)*b<=140737488355328) (V:s.n+x.n<=9223372036854775807)
  (G:∀s' w',qo sz w' s' (vs++ys)->o7 (λk=>s.au=G_ k) w w'->(s'.au=s.au\/∃g,s'.au=G_ g/\w.heap.size<=g)->s'.n=s.n+x.n->c s' w'):
  og P #[t,tx] ty [.slice s.a s.n s.c,.slice x.a x.n x.c] w c:=by
 obtain⟨e,i,p,hi,f,H,W⟩:=O.out;obtain⟨e',A⟩:=aoD A;have hs:=arv A m Q;have X:=m.len;have l:=d.len;have o:∀v∈vs++ys,v.oneCell'=true:=λv hv=>(zw.1 hv).elim (d.one v) (Q v);have R:(s.n+x.n)*sz=s.n*sz+x.n*sz:=Nat.add_mul _ _ _;unfold og;by_cases hroom:s.n+x.n<=s.c
 .rcases d.row with⟨h2,Y⟩|⟨g,off,cs,h2,Z,h5,h6⟩
  .have q:x.n=0:=af;have r:s.n=0:=af;have I:ys=[]:=o_ (by rw[X,q,Gm])
   have J:vs=[]:=o_ (by rw[l,r,Gm])
   subst I;subst J;rw[h2,r,Y];have B:(Builtin.append_ #[t,tx] ty #[.slice H_ 0 0,.slice x.a x.n x.c]).run P w= .ok (.slice H_ 0 0) w:=by
    have u:=hs.cells;simp only[CZ]at u;have l:=hs.len w;rw[q]at l u ⊢;simp[Builtin.append_,run_underlying p,run_underlying A,sizeOf,typeInfo,hi,f,Builtin.lenOf,Builtin.firstCells]at u ⊢;cases K:x.a<;>simp[Builtin.firstCells,K,loadCells,loadCellsFrom]
   simp only[CZ]at*
   rw[B];show c ⟨H_,0,0⟩ w;exact G _ _ (gq (qo.nil sz w)) (.refl _ _) (D_ (by simp[Sl.au,h2])) (by rw[r,q])
  .obtain⟨L,y⟩:=Z;have S:(s.n+x.n)*sz<=s.c*sz:=F3 _ hroom;have hcell:∀j,j<ys.length->(w.cell? ⟨g,off+s.n*i.size+j,H_⟩).isSome=true:=by
    intro j F;rw[f,(show pN w g cs from⟨L,y⟩).cell];have:off+s.n*sz+j<cs.size:=af;simp[this]
   have M:∀j,j<ys.length->w.frozen? ⟨g,off+s.n*i.size+j,H_⟩=false:=λj _=>(show pN w g cs from⟨L,y⟩).frozen _;rw[<-f]at hs;have B:=run_append_room_src w t tx ty e i p hi g off s.n s.c _ x.n ys hs hroom hcell M;obtain⟨cs',k1,k2,k3,k4,k5,k6⟩:=KW ys w g (off+s.n*sz) cs y af;rw[f]at B;rw[h2];simp only[CZ]at*
   rw[B];show c ⟨G_ ⟨g,off,H_⟩,s.n+x.n,s.c⟩ _;refine G _ _ ⟨by simp;omega,hroom,d.max,o,E_ ⟨g,off,cs',rfl,⟨L,k1⟩,by rw[k2];exact h5,λj v hv=>?_⟩⟩ (k5.mono λk _ A=>by simp[Sl.au,h2,A]) (D_ (by simp[Sl.au,h2])) rfl
   by_cases F:j<vs.length
   .rw[tJ F]at hv;rw[k3 _ af];exact h6 j v hv
   .rw[u0 af]at hv;have:=k4 _ v hv;rwa[show off+s.n*sz+(j - vs.length)=off+j by omega]at this
 .have T:s.c<s.n+x.n:=af;have C:Builtin.nextslicecap (s.n+x.n) s.c*i.bytes<=281474976710656:=growslice_fits T (by rw[H];exact hbytes)
  have e0:vs.take (s.n*sz)=vs:=CY af;have hold:=Iu (P:=P) (d.sls.ext (AQ w)) (iw _);rw[e0]at hold;rw[<-f]at hold hs;have B:=run_append_grow_src w t tx ty e i z p hi W s.a s.n s.c vs hold _ x.n ys hs T af C;simp only[CZ]at*
  rw[B];have D:=grownCap_ge w (s.n+x.n) s.c e;have U:=grownCap_le_maxLen w (s.n+x.n) s.c e (by unfold maxLen;omega)
  unfold maxLen at U;show c ⟨G_ ⟨w.heap.size,0,H_⟩,s.n+x.n,_⟩ _;have N:z.cells.size=sz:=O.size;refine G _ _ ⟨by simp;omega,D,U,o,E_ ⟨w.heap.size,0,_,rfl,pN.new w.drew _ e,?_,λj v hv=>?_⟩⟩ (Ext.only ((AQ w).trans (CA _ _))) (E_ ⟨w.heap.size,rfl,iw _⟩) rfl
  .have h9:(s.n+x.n)*sz<=grownCap w (s.n+x.n) s.c e*sz:=F3 _ D;rw[e_,size_zeroCells,N,FL];simp only[List.size_toArray,uv];omega
  .have F:j<(vs++ys).length:=(kB.1 hv).1;rw[FM,V_ (gq F)]
   simpa using hv
def M9{c:Sl->ap}(h:St w0 w L)[a:At L (bG sz s) vs f](l:ET P t sz b z)(d:aeS P tx=J_)
  (e:Hj sz w x ys) (m:∀v∈ys,v.oneCell'=J_) (hbytes:(s.n+x.n)*b<=140737488355328) (i:s.n+x.n<=9223372036854775807)
  (o:∀s' w',St w0 w' (f (bG sz s' (vs++ys)))->s'.n=s.n+x.n->c s' w'):og P #[t,tx] ty [.slice s.a s.n s.c,.slice x.a x.n x.c] w c:=
 qo.qT h.own l d e m hbytes i λs' w' p q hb r=>o s' w' (h.M8 a λu j=>⟨q.mono λk _ d=>(j.1 k).2 d,λk=>s'.au=G_ k,⟨λ_=>k_,p⟩,λk d=>by
  rcases hb with hb|⟨g,hg,hge⟩
  .exact D_ ((j.1 k).2 (by rw[<-hb];exact d))
  .rw[hg]at d;cases d;exact E_ hge⟩) r
def Hj.amW(h:St w0 w L)[a:At L (Ev.au g) cs f](b:cs.length=n*sz):Hj sz w ⟨G_ ⟨g,0,H_⟩,n,o⟩ cs:=
 ⟨b,λi v hv=>⟨_,rfl,by rw[dg,h.au.cell];simpa using hv⟩⟩
def qo.off{d:Sl}{ys:List M_}{lo:Nat}(h:qo sz w s vs)(k:ys.length=d.n*sz)(m:d.n<=d.c)(f:lo+d.c<=s.c)(b:d.a=s.a.map (·.add (lo*sz))\/(d.a=s.a/\d.c=0))(hv:∀i v,ys[i]?=G_ v->vs[lo*sz+i]?=G_ v):qo sz w d ys:=by
 have o:=h.max;have p:(lo+d.c)*sz<=s.c*sz:=F3 _ f;rw[Nat.add_mul]at p;refine⟨k,m,af,λx q=>?_,?_⟩
 .obtain⟨i,hi,rfl⟩:=w_ q;have:=hv i ys[i] (by simp[hi])
  exact h.one _ (qn this)
 .rcases h.row with⟨e,h2⟩|⟨g,off,cs,e,l,u,r⟩
  .refine D_ ⟨?_,af⟩;rcases b with b|⟨b,_⟩<;>rw[b,e] <;>rfl
  .rcases b with b|⟨b,t⟩
   .exact E_ ⟨g,off+lo*sz,cs,by rw[b,e];simp,l,af,λi v hi=>by rw[Ce];exact r _ _ (hv i v hi)⟩
   .have j:ys=[]:=o_ (by
      rw[k];have:d.n=0:=af;rw[this,Gm])
    subst j;exact E_ ⟨g,off,cs,by rw[b,e],l,by rw[t,Gm];omega,λi v hi=>by simp at hi⟩
variable{c:Sl->Prop}{lo:Int}
def arw(h:St w0 w L)[a:At L (bG sz s) vs f](j:0<=lo)(l:lo<=s.n)
  (m:∀d:Sl,d.n=s.n - lo.toNat->St w0 w (f (bG sz d (vs.drop (lo.toNat*sz))))->c d):slL s sz lo c:=by
 have e:qo sz w s vs:=h.own;have g:=e.cap;have b:=e.len;refine⟨⟨j,l⟩,m _ rfl (h.agl a λF o=>⟨λk=>?_,e.off (lo:=lo.toNat) (by simp[b,FL]) (by simp;omega) (by simp;omega) ?_ λi v hi=>gq hi⟩)⟩
 .rw[o.1];by_cases hq:s.c=lo.toNat
  .simp[Sl.au,hq]
  .simp only[Sl.au,hq,if_false];cases s.a with
   |none=>simp
   |some p=>simp[aY];split<;>rfl
 .by_cases hq:s.c=lo.toNat
  .right;simp[hq]
  .left;simp[hq]
def akJ(h:St w0 w L)[a:At L (bG sz s) vs f](j:0<=lo)(l:lo<=y)(h2:y<=s.n)
  (m:∀d:Sl,d.n=y.toNat - lo.toNat->St w0 w (f (bG sz d ((vs.drop (lo.toNat*sz)).take ((y.toNat - lo.toNat)*sz))))->c d):Th s sz lo y c:=by
 have e:qo sz w s vs:=h.own;have g:=e.cap;have b:=e.len;have o:(y.toNat - lo.toNat)*sz<=(s.n - lo.toNat)*sz:=F3 _ af;refine⟨⟨af,af⟩,⟨j,l⟩,m _ rfl (h.agl a λF q=>⟨λk=>?_,e.off (lo:=lo.toNat) ?_ (by simp;omega) (by simp;omega) ?_ λi v y=>?_⟩)⟩
 .rw[q.1];by_cases hq:s.c=lo.toNat
  .simp[Sl.au,hq]
  .simp only[Sl.au,hq,if_false];cases s.a with
   |none=>simp
   |some p=>simp[aY];split<;>rfl
 .rw[y_,List.length_drop,b,<-FL];exact Nat.min_eq_left o
 .by_cases hq:s.c=lo.toNat
  .right;simp[hq]
  .left;simp[hq]
 .rw[t_]at y;split at y
  .simpa using y
  .cases y
variable{c:Sl->ap}
def AT(h:St w0 w L)(p:ET P t 1 b z)(q:z.oneCell'=J_)
  (hbytes:b*n<=281474976710656) (d:n<=9223372036854775807)
  (r:∀s w',St w0 w' (bG 1 s (dU n z)::L)->s.n=n->c s w'):xz P t (.int kl (n:Int)) (.int kc (n:Int)) w c:=by
 obtain⟨e,i,f,hi,j,l,u⟩:=p.out;refine amV ⟨f,by rw[hi];simp[j,l,u]⟩ q (iw _) hbytes d λs w' a v m h2 x D=>r s w' (h.new v ⟨λ_=>k_,?_⟩ λk o=>?_) m
 .refine⟨by simp[m],a.cap,a.max,a.one,a.row.imp id ?_⟩
  rintro⟨g,off,cs,y,e2,A,B,C⟩;exact⟨g,off,cs,y,A,gq B,C⟩
 .rw[x]at o;cases o;exact iw _
def qo.aDh{kk:O_}(d:qo 1 w s vs)(u:ET P t 1 b z)(C:P.underlying tx=G_ (.int B_))(x:z.oneCell'=J_)
  (hfull:s.n=s.c) (O:0<n) (hbytes:(s.n+n)*b<=140737488355328) (D:s.n+n<=9223372036854775807)
  (F:∀s' w',qo 1 w' s' (vs++dU n z)->Ext w w'->s'.au=G_ w.heap.size->s'.n=s.n+n->c s' w'):
  og P #[t,tx] ty [.slice s.a s.n s.c,.int B_ (n:Int)] w c:=by
 obtain⟨e,i,o,hi,p,f,G⟩:=u.out;have y:=d.len;unfold og;have H:s.c<s.n+n:=af;have g:¬(s.n+n<=s.c):=af;have A:Builtin.nextslicecap (s.n+n) s.c*i.bytes<=281474976710656:=growslice_fits H (by rw[f];exact hbytes)
 have I:vs.take (s.n*1)=vs:=CY af;have hold:=Iu (P:=P) (d.sls.ext (AQ w)) (iw _);rw[I]at hold;have q:=grownCap_ge w (s.n+n) s.c e;have B:=grownCap_le_maxLen w (s.n+n) s.c e (by unfold maxLen;omega)
 unfold maxLen at B;have J:IntKind.i64.wrap (n:Int)=n:=kg ⟨af,af⟩;have Q:n*b<=140737488355328:=EZ (F3 _ af) hbytes;have K:¬(281474976710656<(n:Int)*(b:Int)):=by
  have:((n*b:Nat):Int)<=140737488355328:=af;rw[Int.natCast_mul]at this;omega
 have k:¬(9223372036854775807<((s.n:Int)+(n:Int))):=af;have l:¬(281474976710656<Builtin.nextslicecap (s.n+n) s.c*b):=by rw[<-f];omega
 have m:¬((n:Int)<0):=af;have L:n≠0:=af;have r:Builtin.zeroCells #[z] n=(dU n z).toArray:=by
  apply Array.ext
  .simp[size_zeroCells]
  .intro j R h2;simp[Builtin.zeroCells,Nat.mod_one]
 have M:(Builtin.append_ #[t,tx] ty #[.slice s.a s.n s.c,.int B_ (n:Int)]).run P w=
   .ok (.slice (G_ ⟨w.heap.size,0,H_⟩) (s.n+n) (grownCap w (s.n+n) s.c e)) (w.drew.alloc (.cells ((vs++dU n z).toArray++Builtin.zeroCells z.cells (grownCap w (s.n+n) s.c e - (s.n+n))) e)):=by
  simp[Builtin.append_,run_underlying o,run_underlying C,sizeOf,typeInfo,zeroValue,hi,G,p,f,J,K,m,g,k,l,L,Question.forced,hold,newRow,grownCap,asInt,asIntOf,Cy x,r];congr 2;apply T_;simp[m_]
 simp only[CZ]at*
 rw[M];show c ⟨G_ ⟨w.heap.size,0,H_⟩,s.n+n,_⟩ _;refine F _ _ ⟨by simp;omega,q,B,λv hv=>(zw.1 hv).elim (d.one v) λhv=>by rw[(C9.1 hv).2];exact x,E_ ⟨w.heap.size,0,_,rfl,pN.new w.drew _ e,?_,λj v hv=>?_⟩⟩ ((AQ w).trans (CA _ _)) rfl rfl
 .rw[e_,size_zeroCells,u.size];simp only[List.size_toArray,uv,List.length_replicate];omega
 .have N:j<(vs++dU n z).length:=(kB.1 hv).1;rw[FM,V_ (gq N)]
  simpa using hv
def ary(h:St w0 w L)[a:At L (bG 1 s) vs f](i:ET P t 1 b z)(d:P.underlying tx=G_ (.int B_))(j:z.oneCell'=J_)
  (hfull:s.n=s.c) (l:0<n) (hbytes:(s.n+n)*b<=140737488355328) (e:s.n+n<=9223372036854775807)
  (m:∀s' w',St w0 w' (f (bG 1 s' (vs++dU n z)))->s'.n=s.n+n->c s' w'):og P #[t,tx] ty [.slice s.a s.n s.c,.int B_ (n:Int)] w c:=
 qo.aDh (kk:=B_) h.own i d j hfull l hbytes e λs' w' o p hb g=>m s' w' (h.M8 a λq r=>⟨p.only,λk=>s'.au=G_ k,⟨λ_=>k_,o⟩,λk d=>by
  rw[hb]at d;cases d;exact E_ (iw _)⟩) g
def aw0{c:Sl->Prop}(h:St w0 w L)[a:At L (bG sz s) vs f](g:0<=y)(h2:y<=s.n)(l:y<=x5)(r:x5<=s.c)
  (m:∀d:Sl,d.n=y.toNat->d.c=x5.toNat->St w0 w (f (bG sz d (vs.take (y.toNat*sz))))->c d):aqT s sz 0 y x5 c:=by
 have e:qo sz w s vs:=h.own;have j:=e.cap;have b:=e.len;have o:y.toNat*sz<=s.n*sz:=F3 _ af;refine⟨⟨af,af⟩,⟨g,l⟩,⟨Int.le_refl _,g⟩,m _ bf bf (h.agl a λF q=>⟨λk=>?_,e.off (lo:=0) ?_ (by simp;omega) (by simp;omega) ?_ λi v y=>?_⟩)⟩
 .rw[q.1];by_cases hq:x5.toNat=(0:Int).toNat
  .simp[Sl.au,hq]
  .simp only[Sl.au,hq,if_false];cases s.a with
   |none=>simp
   |some p=>simp[aY]
 .rw[y_,b];simp only[Int.toNat_zero,Nat.sub_zero];exact Nat.min_eq_left o
 .by_cases hq:x5.toNat=(0:Int).toNat
  .right;simp at hq;simp[hq]
  .left;simp only[hq,if_false];rfl
 .rw[t_]at y;split at y
  .simpa using y
  .cases y
def l9(A:List HP):HP where
 p:=u4 A
 lt:=DI
 keep:=FD
def Gt{α:Type}(X:α->HP):HP where
 p F w:=∃a,(X a).p F w
 lt:=fun⟨a,h⟩ hg=>(X a).lt h hg
 keep:=fun⟨a,h⟩ hk=>⟨a,(X a).keep h hk⟩
def Kf(p:Prop)(X:HP):HP where
 p F w:=p/\X.p F w
 lt:=fun⟨_,h⟩ hg=>X.lt h hg
 keep:=fun⟨a,h⟩ hk=>⟨a,X.keep h hk⟩
def zA:∀{A B:List HP} {F w},u4 (l9 A::B) F w↔u4 (A++B) F w
 |[],B,F,w=>by
  constructor
  .rintro⟨d,b,j,h2,_,e⟩;exact aoB (λg=>by rw[e];exact⟨E_,λh=>h.elim (λh=>(j g h).elim) id⟩) h2
  .intro h;exact⟨λ_=>False,F,λg a=>a,h,λg a=>a.elim,λg=>by simp⟩
 |R::A,B,F,w=>by
  constructor
  .rintro⟨d,b,⟨G1,G2,k,k2,kd,c⟩,h2,f,e⟩;refine⟨G1,λg=>G2 g\/b g,k,zA.1 ⟨G2,b,k2,h2,λg a=>f g ((c g).2 (E_ a)),λ_=>k_⟩,λg a l=>?_,λg=>?_⟩
   .rcases l with h|h
    .exact kd g a h
    .exact f g ((c g).2 (D_ a)) h
   .rw[e,c,or_assoc]
  .rintro⟨G1,G2,k,k2,kd,c⟩;obtain⟨d,b,j,h2,f,e⟩:=zA.2 k2;refine⟨λg=>G1 g\/d g,b,⟨G1,d,k,j,λg a i=>kd g a ((e g).2 (D_ i)),λ_=>k_⟩,h2,λg a i=>?_,λg=>?_⟩
   .rcases a with h|h
    .exact kd g h ((e g).2 (E_ i))
    .exact f g h i
   .rw[c,e,or_assoc]
variable{A B:List HP}
def St.open(h:St w0 w (l9 A::B)):St w0 w (A++B):=⟨h.ext,by obtain⟨F,a,h2⟩:=h.sep;exact⟨F,zA.1 a,h2⟩⟩
def St.shut(h:St w0 w (A++B)):St w0 w (l9 A::B):=⟨h.ext,by obtain⟨F,a,h2⟩:=h.sep;exact⟨F,zA.2 a,h2⟩⟩
def St.some(h:St w0 w (Gt k::L)):∃a,St w0 w (k a::L):=by
 obtain⟨b,F,⟨c,d,⟨a,h2⟩,e⟩,f⟩:=h;exact⟨a,b,F,⟨c,d,h2,e⟩,f⟩
def St.ex{X:α->HP}(a:α)(h:St w0 w (X a::L)):St w0 w (Gt X::L):=h.conv λF b=>⟨a,b⟩
def St.pure{p:Prop}(h:St w0 w (Kf p X::L)):p/\St w0 w (X::L):=by
 obtain⟨F,a,_⟩:=h.look;exact⟨a.1,h.conv λF a=>a.2⟩
def St.YA{p:Prop}(a:p)(h:St w0 w (X::L)):St w0 w (Kf p X::L):=h.conv λF b=>⟨a,b⟩
def vU(h:b<xs.length):(ints xs)[b]?=G_ (.int B_ (xs.getD b 0)):=by
 simp[ints,m0,h]
def zB{c:Int->Prop}(h:St w0 w L)[a:At L (bG 1 s) (ints xs) f](b:0<=i)(j:i<xs.length)(d:c (xs.getD i.toNat 0)):cN s i 1 λa=>aJ B_ w a c:=by
 have k:xs.length=s.n:=by have:=h.Gs (sz:=1) (s:=s);simpa using this
 refine KX h af b af λg o _ e _=>uZ ?_ d;have:=e h 0 _ af (vU af);simpa using this
def zC{c:ap}(h:St w0 w L)[a:At L (bG 1 s) (ints xs) f](b:0<=i)(j:i<xs.length)(d:∀w',St w0 w' (f (bG 1 s (ints (xs.set i.toNat y))))->c w'):cN s i 1 λa=>bN w a (.int B_ y) c:=by
 have k:xs.length=s.n:=by have:=h.Gs (sz:=1) (s:=s);simpa using this
 refine KX h af b af λg o _ _ hs=>?_;have:=hs h a 0 (.int B_ y) c af rfl λw' h'=>d w' (by
  have e:(ints xs).set (i.toNat*1+0) (.int B_ y)=ints (xs.set i.toNat y):=by simp[ints,List.map_set]
  rwa[e]at h')
 simpa using this
def abZ{c:Prop}(h:w.cell? a=G_ v)(h':w'.cell? a=G_ v)(b:c):ai 1 a w w' c:=
 ⟨λk d=>by
  have:k=0:=af;subst this;rw[add_zero,h,h'],b⟩
def QN{e:List M_}{c:P_->Prop}(b:QM sz w0 s es)(h:St w0 w L)(g:0<=i)(d:es[i.toNat]?=G_ e)
  (k:∀p:P_,(∀{w' L'},St w0 w' L'->∀{j v},e[j]?=G_ v->w'.cell? (p.add j)=G_ v)->c p):cN s i sz c:=by
 have f:=b.len;have l:=(kB.1 d).1;refine akF b g af λp e' a m hcell=>k p fun{w' L'} hS {j v} hv=>?_;rw[d]at a;cases a;exact hS.ext.cell (hcell j v hv)
def St.same{x:α}(h:St w0 w L)(a:At L k x f):St w0 w (f (k x)):=by
 obtain⟨R,b,h2⟩:=a.out;exact h2 (b h)
def bV{id:FuncId}{captured:Array M_}{c:M_->ap}{d:bt}(e:∀args w c,bY (.func id) args w c=d args.toList w c)(h:d (yr++args++captured).toList w c):nj bY (.func (F_ id) yr captured) args w c:=by
 show bY (.func id) (yr++args++captured) w c
 rw[e];exact h
structure dB where
 aX:Int
 sl:Sl
 code:List (List Int)
structure Zr (P:R_) (ti tc tf ts tp tn:Q_):Prop where
 i:∃fs,P.underlying ti=G_ (.struct fs)
 aBM:Vd P 4 ti=J_
 ic:P.cellsOf ti=5
 ib:P.bytesOf ti=40
 c:P.underlying tc=G_ (.slice ti)
 f:∃f0 f1:Field,P.underlying tf=G_ (.struct #[f0,f1])/\f0.type=tn/\f0.offset=0/\f1.type=tc/\f1.offset=1
 n:P.underlying tn=G_ (.int B_)
 nc:P.cellsOf tn=1
 cc:P.cellsOf tc=1
 fc:P.cellsOf tf=2
 fb:P.bytesOf tf=32
 s:P.underlying ts=G_ (.slice tf)
 sc:P.cellsOf ts=1
 p:∃f0:Field,P.underlying tp=G_ (.struct #[f0])/\f0.type=ts/\f0.offset=0
 pc:P.cellsOf tp=1
structure tP (w:N_) (s:Sl) (l:List (List Int)):Prop where
 rws:QM 5 w s (l.map Go.Ev.ints)
 GZ:∀i∈l,i.length=5/\∀y∈i,sy y
 Zs:l.length*40<=reachBytes
variable{l:List (List Int)}
def tP.len(h:tP w s l):s.n=l.length:=by have:=h.rws.len;simp at this;omega
def tP.ext(h:tP w s l)(a:Ext w w'):tP w' s l:=⟨h.rws.ext a,h.GZ,h.Zs⟩
variable{tc tf ti tn tp ts:Q_}
def zx.code(T:Zr P ti tc tf ts tp tn)(h:zx P w tc cs):∃(s:Sl) (l:List (List Int)),cs=[.slice s.a s.n s.c]/\tP w s l:=by
 obtain⟨s,es,rfl,b,hb,o,h2,d⟩:=h.slice T.c;obtain⟨fs,j⟩:=T.i;obtain⟨l,rfl,k⟩:=zy (G:=λi:List Int=>i.length=5/\∀y∈i,sy y) λe f=>by
  obtain⟨xs,g,m⟩:=zy ((d e f).flat T.aBM);refine⟨xs,g,?_,m⟩;have:=(d e f).len (E_ ⟨fs,j⟩);rw[g,T.ic]at this;simpa using this
 rw[T.ic]at b;refine⟨s,l,rfl,b,k,?_⟩;rw[T.ib]at hb;simpa using hb
def dB.cells(x:dB):List Value:=[.int B_ x.aX,.slice x.sl.a x.sl.n x.sl.c]
structure iA (w:N_) (s:Sl) (l:List dB):Prop where
 rws:QM 2 w s (l.map dB.cells)
 code:∀x∈l,sy x.aX/\tP w x.sl x.code
 Zs:l.length*32<=reachBytes
variable{l:List dB}
def iA.len(h:iA w s l):s.n=l.length:=by have:=h.rws.len;simp at this;omega
def iA.ext(h:iA w s l)(a:Ext w w'):iA w' s l:=⟨h.rws.ext a,λx b=>⟨(h.code x b).1,(h.code x b).2.ext a⟩,h.Zs⟩
def zx.func(T:Zr P ti tc tf ts tp tn)(h:zx P w tf cs):∃x:dB,cs=x.cells/\sy x.aX/\tP w x.sl x.code:=by
 obtain⟨f0,f1,j,k,e2,m,o⟩:=T.f;obtain⟨p,d⟩:=h.struct j;have e:=d 0 f0 bf;have g:=d 1 f1 bf;rw[k,e2,T.nc]at e;rw[m,o,T.cc]at g;obtain⟨n,i,q⟩:=e.int T.n;obtain⟨s,l,hs,r⟩:=g.code T;refine⟨⟨n,s,l⟩,?_,q,r⟩;have c:cs.length=2:=by rw[p,T.fc]
 match cs,c with
 |[a,b],_=>simp at i hs;simp[dB.cells,i,hs]
def zx.funcs(T:Zr P ti tc tf ts tp tn)(h:zx P w ts cs):∃(s:Sl) (l:List dB),cs=[.slice s.a s.n s.c]/\iA w s l:=by
 obtain⟨s,es,rfl,b,hb,i,h2,d⟩:=h.slice T.s;obtain⟨l,rfl,f⟩:=zy λe g=>(d e g).func T;rw[T.fc]at b;rw[T.fb]at hb;exact⟨s,l,rfl,b,f,gq hb⟩
def zx.program(T:Zr P ti tc tf ts tp tn)(h:zx P w tp cs):∃(s:Sl) (l:List dB),cs=[.slice s.a s.n s.c]/\iA w s l:=by
 obtain⟨f0,e,f,e2⟩:=T.p;obtain⟨g,i⟩:=h.struct e;have d:=i 0 f0 bf;rw[f,e2,T.sc]at d;have b:cs.length=1:=by rw[g,T.pc]
 match cs,b with
 |[a],_=>exact zx.funcs T (gq d)
def Arg.program(T:Zr P ti tc tf ts tp tn)(h:Arg P w tp v):∃(s:Sl) (l:List dB),v= .agg #[.slice s.a s.n s.c]/\iA w s l:=by
 obtain⟨f0,d,g,e2⟩:=T.p;obtain⟨cs,rfl,e⟩:=h.agg (E_ ⟨_,d⟩);obtain⟨s,l,b,f⟩:=e.program T;refine⟨s,l,?_,f⟩;congr 1;exact T_ b
def ahO{H:Type}{enc:Q_×M_->H}{C:Checked}{os:Os}{K:FuncId}{s:ChangeSpec}{X:N_->Array M_->Prop}
  (z:∀(w w':N_) (args:Array M_),w.heap=w'.heap->X w args->X w' args)
  (own:ownKnob C.prog.godebug=H_) (started:os.Started) (noInit:C.prog.inits.idxOf? K=H_) (k:C.prog.funcs[K]?=G_ fn)
  (witness:∃(w:N_) (tape:Tape) (i:Input),w.os=os/\(w.forCall tape i).Shaped C.prog/\i.vars=[]/\Input.okWide C.prog (w.forCall tape i) .any w.heap.size K i/\
   ((s.pre enc C.prog fn [] K_ (w.forCall tape i).memory i.args/\X (w.forCall tape i).memory i.args)/\sizedMet enc C.prog fn (OpenSpec.ofChange s) K_ (w.forCall tape i).memory i.args)/\({}:Assume).holds C.prog (lone (Frame.enter C.prog K i.args .normal) [] (w.forCall tape i)))
  (hvars:s.vars=[]) (A:laidOutB C.prog=J_) (hrows:fn.params.toList.all (λt=>C.prog.readableRec t&&L_ (t<C.prog.types.size))=J_)
  (b:fn.resultTypes=#[yt]) (l:C.prog.underlying yt=G_ .bool)
  (hs:∀ds:List (DataW H),ds.length=fn.params.toList.length->s.fn H ds={results:=[.lit (.bool J_)],args:=ds})
  (walk:∀(W:N_) (args:Array M_),WO C.prog W fn.params.toList args.toList->X W args->
   Calls C.prog K args W λe W'=>e= .returned (.bool J_)/\Below W.heap.size W W'):
  ReturnsInHanded {} C os K .any (λw args=>(s.pre enc C.prog fn [] K_ w args/\X w args)/\sizedMet enc C.prog fn (OpenSpec.ofChange s) K_ w args) (s.post enc C.prog fn K_ J_ K_ K_):=by
 refine returnsInHanded_of_change_and z own started noInit k witness ?_;intro W base args ds J before c u _ d m _;have f:=u;obtain⟨p,q,o,y,rfl,B,D⟩:=u;rw[hvars]at y;obtain⟨rfl,rfl⟩:=trodVars_none y;have a:=UD o;have r:s.plain.varTypes C.prog=[]:=by simp[DataSpec.varTypes,ChangeSpec.plain,hvars]
 rw[r,n_,n_]at d;have hargs:=aid (λj t v F hv=>c j t v (gq F) (gq hv)) o (λn G=>gq (tL.1 d n G))
 refine(walk W args hargs m).mono λe W' ⟨he,g⟩=>?_;subst he;refine⟨_,rfl,ds,[],p++[],[],p,[],f,?_,?_,?_,g.frame _,λh=>by cases h⟩
 .rw[n_,hs ds a,b];exact trodAll_mk1 (shut_bool l _)
 .rw[n_,hs ds a];exact QL A g hrows o λx I=>f.lt x (by simp[I])
 .rw[n_,hs ds a,hvars];exact rfl
end Go.Ev
