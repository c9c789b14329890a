/-
  Parts of the proof of LHolds: printed by a program out of longer texts.
-/
import Derived.KernelRfl
import Derived.WalkKit
import Derived.WalkSpells
import Derived.WalkLawsBesides
import Derived.RangeFuncMany
import Derived.TacticsIn
import Derived.LoopNIn
import Derived.OrdersIn
import Derived.Deep.AppendSrc
import Derived.Laws.MakeOwn
import Derived.Laws.CopyRow
import Derived.OpenShut
import Derived.JoinedOf
import Derived.SizedLaws
set_option linter.unusedVariables false
set_option linter.unusedSimpArgs false
set_option linter.defProp false
open List renaming getElem?_eq_some_iff->kB,getElem?_eq_getElem->iH,getD_eq_getElem?_getD->m0,getElem?_append_left->tJ,getElem?_append_right->u0,getElem?_set_ne->r0,getElem?_set_self->uO,mem_of_getElem?->qn,getElem?_map->l8,replicate->dU,mem_append->zw,length_append->uv,all_eq_true->tL
open Go.Sem renaming run_pure->cP,run_bind->cR
open Go.Result renaming andThen_ok->cK
open Bool renaming or_eq_false_iff->kf,and_eq_true->iY
open Option renaming isNone->eA
open Int renaming toNat_natCast->iZ
open Array renaming getElem?_eq_some_iff->Bf
open Nat renaming le_refl->iw
open Go.Addr renaming add->aY
namespace Go
abbrev ap:=World->Prop
variable{P:Prop}
def af(h:P:=by omega):P:=h
def bf(h:P:=by simp):P:=h
def e7(h:P:=by decide):P:=h
def aZ(h:P:=by kernel_rfl):P:=h
def vM(h:P:=by with_unfolding_all exact rfl):P:=h
abbrev u_2{A B R:Type _}(f:A->B->R)(x:A×B):R:=f x.1 x.2
abbrev u_3{A B C R:Type _}(f:A->B->C->R)(x:A×B×C):R:=f x.1 x.2.1 x.2.2
abbrev u_4{A B C D R:Type _}(f:A->B->C->D->R)(x:A×B×C×D):R:=f x.1 x.2.1 x.2.2.1 x.2.2.2
abbrev u_5{A B C D E R:Type _}(f:A->B->C->D->E->R)(x:A×B×C×D×E):R:=f x.1 x.2.1 x.2.2.1 x.2.2.2.1 x.2.2.2.2
abbrev u_6{A B C D E F R:Type _}(f:A->B->C->D->E->F->R)(x:A×B×C×D×E×F):R:=f x.1 x.2.1 x.2.2.1 x.2.2.2.1 x.2.2.2.2.1 x.2.2.2.2.2
abbrev u_7{A B C D E F G R:Type _}(f:A->B->C->D->E->F->G->R)(x:A×B×C×D×E×F×G):R:=f x.1 x.2.1 x.2.2.1 x.2.2.2.1 x.2.2.2.2.1 x.2.2.2.2.2.1 x.2.2.2.2.2.2
abbrev u_8{A B C D E F G H R:Type _}(f:A->B->C->D->E->F->G->H->R)(x:A×B×C×D×E×F×G×H):R:=f x.1 x.2.1 x.2.2.1 x.2.2.2.1 x.2.2.2.2.1 x.2.2.2.2.2.1 x.2.2.2.2.2.2.1 x.2.2.2.2.2.2.2
abbrev u_9{A B C D E F G H I R:Type _}(f:A->B->C->D->E->F->G->H->I->R)(x:A×B×C×D×E×F×G×H×I):R:=f x.1 x.2.1 x.2.2.1 x.2.2.2.1 x.2.2.2.2.1 x.2.2.2.2.2.1 x.2.2.2.2.2.2.1 x.2.2.2.2.2.2.2.1 x.2.2.2.2.2.2.2.2
def gq{b:Prop}(h:P)(e:P->b:=by intro h;simpa using h):b:=e h
end Go
namespace Go.Ev
open Go
structure Sl where
 a:Option Addr
 n:Nat
 c:Nat
inductive K where
 |i (k:IntKind)|b|p|a|s|str|m|ag|raw
def K.T:K->Type
 | .i _=>Int
 | .b=>Bool
 | .p=>Option Addr
 | .a=>Addr
 | .s=>Sl
 | .str=>ByteArray
 | .m=>Option Nat
 | .ag=>Array Value
 | .raw=>Value
def K.v:(k:K)->k.T->Value
 | .i k,x=> .int k x
 | .b,x=> .bool x
 | .p,x=> .pointer x
 | .a,x=> .pointer (some x)
 | .s,x=> .slice (Sl.a x) (Sl.n x) (Sl.c x)
 | .str,x=> .string x
 | .m,x=> .map x
 | .ag,x=> .agg x
 | .raw,x=>x
def xS(k:IntKind)(v:Value)(c:Int->Prop):Prop:=match v with| .int k' n=>if k'=k then c n else False|_=>False
def Ir(v:Value)(c:Bool->Prop):Prop:=match v with| .bool b=>c b|_=>False
def toP(v:Value)(c:Option Addr->Prop):Prop:=match v with| .pointer b=>c b|_=>False
def amy(v:Value)(c:Addr->Prop):Prop:=match v with| .pointer (some b)=>c b|_=>False
def toS(v:Value)(c:Sl->Prop):Prop:=match v with| .slice a n k=>c ⟨a,n,k⟩|_=>False
def Yo(v:Value)(c:ByteArray->Prop):Prop:=match v with| .string b=>c b|_=>False
def toM(v:Value)(c:Option Nat->Prop):Prop:=match v with| .map b=>c b|_=>False
def toA(v:Value)(c:Array Value->Prop):Prop:=match v with| .agg b=>c b|_=>False
def toT(v:Value)(c:List Value->Prop):Prop:=match v with| .tuple vs=>c vs.toList|_=>False
def unV(k:K)(v:Value)(c:k.T->Prop):Prop:=
 match k with
 | .i k=>xS k v c
 | .b=>Ir v c
 | .p=>toP v c
 | .a=>amy v c
 | .s=>toS v c
 | .str=>Yo v c
 | .m=>toM v c
 | .ag=>toA v c
 | .raw=>c v
def KT:List K->Type
 |[]=>Unit
 |[k]=>k.T
 |k::(x::r)=>k.T×KT (x::r)
def qW:(ks:List K)->List Value->(KT ks->Prop)->Prop
 |[],[],c=>c ()
 |[k],[v],c=>unV k v c
 |k::(y::r),v::vs,c=>unV k v λx=>qW (y::r) vs λxs=>c (x,xs)
 |_,_,_=>False
def dL:(ks:List K)->KT ks->List Value
 |[],_=>[]
 |[k],x=>[k.v x]
 |k::(y::r),x=>k.v x.1::dL (y::r) x.2
def Is(ks:List K)(v:Value)(c:KT ks->Prop):Prop:=toT v λl=>qW ks l c
def e9(l:List Value):Value:=match l with|[v]=>v|l=> .tuple l.toArray
def cast(k:K)(v:Value)(c:Value->Prop):Prop:=
 match k with
 | .i k=>xS k v λn=>c (.int k n)
 | .b=>Ir v λn=>c (.bool n)
 | .p=>toP v λn=>c (.pointer n)
 | .a=>amy v λn=>c (.pointer (some n))
 | .s=>toS v λn=>c (.slice n.a n.n n.c)
 | .str=>Yo v λn=>c (.string n)
 | .m=>toM v λn=>c (.map n)
 | .ag=>toA v λn=>c (.agg n)
 | .raw=>c v
def rd(w:World)(a:Addr)(c:Value->Prop):Prop:=match w.cell? a with|some v=>c v|none=>False
def aJ(k:IntKind)(w:World)(a:Addr)(c:Int->Prop):Prop:=rd w a λv=>xS k v c
def He(w:World)(a:Addr)(c:Bool->Prop):Prop:=rd w a λv=>Ir v c
def aQ(w:World)(a:Addr)(c:Option Addr->Prop):Prop:=rd w a λv=>toP v c
def cy(w:World)(a:Addr)(c:Sl->Prop):Prop:=rd w a λv=>toS v c
def Qp(w:World)(a:Addr)(c:ByteArray->Prop):Prop:=rd w a λv=>Yo v c
def ldM(w:World)(a:Addr)(c:Option Nat->Prop):Prop:=rd w a λv=>toM v c
def tH(w:World)(a:Addr)(c:Value->Prop):Prop:=rd w a c
def Gd(w:World)(a:Addr)(i:Nat):Nat->Option (List Value)
 |0=>some []
 |n+1=>match w.cell? (a.add i)with
  |some v=>match Gd w a (i+1) n with|some l=>some (v::l)|none=>none
  |none=>none
def bx(n:Nat)(w:World)(a:Addr)(c:Array Value->Prop):Prop:=match Gd w a 0 n with|some l=>c l.toArray|none=>False
def bN(w:World)(a:Addr)(v:Value)(c:ap):Prop:=
 v.oneCell'=true/\(w.cell? a).isSome=true/\w.frozen? a=false/\c (w.setCell a v)
def JU(w:World)(a:Addr)(i:Nat):List Value->(ap)->Prop
 |[],c=>c w
 |v::l,c=>bN w (a.add i) v λw=>JU w a (i+1) l c
def dQ(n:Nat)(w:World)(a:Addr)(cs:Array Value)(c:ap):Prop:=cs.size=n/\JU w a 0 cs.toList c
def nn(p:Option Addr)(c:Addr->Prop):Prop:=match p with|some a=>c a|none=>False
abbrev u7(a:Option Addr)(w:World)(n:Nat)(c:Option Addr->Prop):Prop:=nn a λo=>aQ w (o.add n) c
abbrev v7(a:Option Addr)(w:World)(n:Nat)(v:Value)(c:World->Prop):Prop:=nn a λo=>bN w (o.add n) v c
abbrev en(a:Option Addr)(w:World)(n:Nat)(c:Sl->Prop):Prop:=nn a λo=>cy w (o.add n) c
abbrev qJ7(a:Option Addr)(k:IntKind)(w:World)(n:Nat)(c:Int->Prop):Prop:=nn a λo=>aJ k w (o.add n) c
abbrev qA7(a:Option Addr)(k:Nat)(w:World)(n:Nat)(c:Array Value->Prop):Prop:=nn a λo=>bx k w (o.add n) c
abbrev qV7(a:Option Addr)(w:World)(n:Nat)(c:Value->Prop):Prop:=nn a λo=>tH w (o.add n) c
def cN(s:Sl)(i:Int)(sz:Nat)(c:Addr->Prop):Prop:=match s.a with|some a=>(0<=i/\i<s.n)/\c (a.add (i.toNat*sz))|none=>False
def Hf(a:Addr)(len:Nat)(i:Int)(sz:Nat)(c:Addr->Prop):Prop:=(0<=i/\i<len)/\c (a.add (i.toNat*sz))
def Qq(cs:Array Value)(o:Nat)(c:Value->Prop):Prop:=match cs[o]? with|some v=>c v|none=>False
def ixA(cs:Array Value)(len:Nat)(i:Int)(c:Value->Prop):Prop:=(0<=i/\i<len)/\Qq cs i.toNat c
def aAv(s:ByteArray)(i:Int)(c:Int->Prop):Prop:=0<=i/\match s[i.toNat]? with|some b=>c b.toNat|none=>False
def Th(s:Sl)(sz:Nat)(lo hi:Int)(c:Sl->Prop):Prop:=
 (0<=hi/\hi<=s.c)/\(0<=lo/\lo<=hi)/\c ⟨if s.c=lo.toNat then s.a else s.a.map (·.add (lo.toNat*sz)),hi.toNat - lo.toNat,s.c - lo.toNat⟩
def slL(s:Sl)(sz:Nat)(lo:Int)(c:Sl->Prop):Prop:=
 (0<=lo/\lo<=s.n)/\c ⟨if s.c=lo.toNat then s.a else s.a.map (·.add (lo.toNat*sz)),s.n - lo.toNat,s.c - lo.toNat⟩
def aqT(s:Sl)(sz:Nat)(lo hi mx:Int)(c:Sl->Prop):Prop:=
 (0<=mx/\mx<=s.c)/\(0<=hi/\hi<=mx)/\(0<=lo/\lo<=hi)/\c ⟨if mx.toNat=lo.toNat then s.a else s.a.map (·.add (lo.toNat*sz)),hi.toNat - lo.toNat,mx.toNat - lo.toNat⟩
def aqU(s:ByteArray)(lo hi:Int)(c:ByteArray->Prop):Prop:=
 (0<=hi/\hi<=s.size)/\(0<=lo/\lo<=hi)/\c (s.extract lo.toNat hi.toNat)
def Wf(k:IntKind)(x y:Int):Int:=k.wrap (x.tdiv y)
def abl(x y:Int):Int:=x.tmod y
def sD(k:IntKind)(x y:Int):Int:=k.wrap (x*2 ^ min y.toNat k.bits)
def IR(k:IntKind)(x y:Int):Int:=x.fdiv (2 ^ min y.toNat k.bits)
def aCY(k:IntKind)(x y:Int)(c:Int->Prop):Prop:=y≠0/\c (Wf k x y)
def amz(x y:Int)(c:Int->Prop):Prop:=y≠0/\c (abl x y)
def HI(k:IntKind)(x y:Int)(c:Int->Prop):Prop:=0<=y/\c (sD k x y)
def amA(k:IntKind)(x y:Int)(c:Int->Prop):Prop:=0<=y/\c (IR k x y)
def oH(k:IntKind)(x y:Int):Int:=k.wrap (BitVec.ofInt k.bits x&&&BitVec.ofInt k.bits y).toNat
def Ti(k:IntKind)(x y:Int):Int:=k.wrap (BitVec.ofInt k.bits x|||BitVec.ofInt k.bits y).toNat
def JV(k:IntKind)(x y:Int):Int:=k.wrap (BitVec.ofInt k.bits x ^^^ BitVec.ofInt k.bits y).toNat
def tU(k:IntKind)(x y:Int):Int:=k.wrap (BitVec.ofInt k.bits x&&&~~~ BitVec.ofInt k.bits y).toNat
def Wg(x y:Int):Int:=if y<x then y else x
def ZR(x y:Int):Int:=if y>x then y else x
def aE(w:World)(cs:Array Value)(t:TypeId)(c:Addr->ap):Prop:=c ⟨w.heap.size,0,none⟩ (w.alloc (.cells cs t))
def drew(w:World)(c:ap):Prop:=c w.drew
def ON(r:Result Value)(c:Value->ap):Prop:=match r with| .ok v w=>c v w| .halt _ _=>False
def aqV{A:Type}(r:Result A)(c:ap):Prop:=match r with| .ok _ w=>c w| .halt _ _=>False
def eqC(k:Nat)(x y:Value):Option Bool:=
 match k with
 |0=>match x,y with| .int k a,.int k' b=>if k=k' then some (a==b)else none|_,_=>none
 |1=>match x,y with| .bool a,.bool b=>some (a==b)|_,_=>none
 |_=>match x,y with| .string a,.string b=>some (a.toList==b.toList)|_,_=>none
def oZ(xs ys:Array Value):List (Nat×Nat)->Option Bool
 |[]=>some true
 |(o,k)::os=>match xs[o]?,ys[o]? with
  |some a,some b=>match eqC k a b,oZ xs ys os with|some r,some rs=>some (r&&rs)|_,_=>none
  |_,_=>none
def Tj(os:List (Nat×Nat))(xs ys:Array Value)(c:Bool->Prop):Prop:=match oZ xs ys os with|some b=>c b|none=>False
def kT(acc:Array Value)(off size:Nat)(cs:Array Value)(c:Array Value->Prop):Prop:=
 cs.size=size/\c (cs.zipIdx.foldl (λcs (x,j)=>cs.setIfInBounds (off+j) x) acc)
def an(b:Bool)(x y:Prop):Prop:=match b with|true=>x|false=>y
def nnV(v:Value)(c:Value->Prop):Prop:=match v with| .pointer p=>nn p λa=>c (.pointer (some a))| .func (.func f) a b=>c (.func (.func f) a b)|_=>False
def og(P:Program)(ts:Array TypeId)(t:TypeId)(vs:List Value)(w:World)(c:Sl->ap):Prop:=ON ((Builtin.append_ ts t vs.toArray).run P w) λv w=>toS v λs=>c s w
def U1(P:Program)(ts:Array TypeId)(t:TypeId)(vs:List Value)(w:World)(c:Int->ap):Prop:=ON ((Builtin.copy_ ts t vs.toArray).run P w) λv w=>xS .i64 v λs=>c s w
def aC0(P:Program)(ts:Array TypeId)(t:TypeId)(vs:List Value)(w:World)(c:Int->ap):Prop:=ON ((Builtin.len_ ts t vs.toArray).run P w) λv w=>xS .i64 v λs=>c s w
def awE(P:Program)(ts:Array TypeId)(t:TypeId)(vs:List Value)(w:World)(c:Value->ap):Prop:=ON ((Builtin.clear_ ts t vs.toArray).run P w) c
def ahR(P:Program)(ts:Array TypeId)(t:TypeId)(vs:List Value)(w:World)(c:Value->ap):Prop:=ON ((Builtin.delete_ ts t vs.toArray).run P w) c
def xz(P:Program)(t:TypeId)(l k:Value)(w:World)(c:Sl->ap):Prop:=ON ((Instr.makeSlice t l k).run P w) λv w=>toS v λs=>c s w
def mkMap(P:Program)(t:TypeId)(r:Option Value)(w:World)(c:Option Nat->ap):Prop:=ON ((Instr.makeMap t r).run P w) λv w=>toM v λs=>c s w
def look(P:Program)(t:TypeId)(x i:Value)(ok:Bool)(w:World)(c:Value->ap):Prop:=ON ((Instr.lookup t x i ok).run P w) c
def MP(P:Program)(t:TypeId)(m k x:Value)(w:World)(c:ap):Prop:=aqV ((Instr.mapUpdate t m k x).run P w) c
def tyA(P:Program)(x:Value)(xt as:TypeId)(ok:Bool)(w:World)(c:Value->ap):Prop:=ON ((Instr.typeAssert x xt as ok).run P w) c
def cvt(P:Program)(s d:TypeId)(x:Value)(w:World)(c:Value->ap):Prop:=ON ((convert s d x).run P w) c
def cz{S:Type}(body:(S->ap)->Prop)(rest:S->ap):Prop:=body rest
def jV{S:Type}(f:(S->ap)->S->ap):Nat->S->ap
 |0,_,_=>False
 |n+1,s,w=>f (jV f n) s w
def jD{S:Type}(f:(S->ap)->S->ap)(s:S)(w:World):Prop:=∃n,jV f n s w
variable{w:World}
def ot{S:Type}{f:(S->ap)->S->ap}(I:S->ap)(μ:S->World->Nat){s:S}(d:I s w)
  (h:∀s w,I s w->∀C:S->ap,(∀s' w',I s' w'->μ s' w'<μ s w->C s' w')->f C s w):jD f s w:=by
 have key:∀n s w,μ s w<=n->I s w->jV f (n+1) s w:=by
  intro n;induction n with
  |zero=>intro s w e a;exact h s w a _ λs' w' _ b=>by omega
  |succ n ih=>intro s w e a;exact h s w a _ λs' w' c b=>ih s' w' af c
 exact⟨_,key _ s w (iw _) d⟩
inductive EV where
 |val (v:Value)
 |gd (g:Nat) (want:Bool) (v:Value)
abbrev Env:=List (Nat×EV)
def Env.find:Env->Nat->Option EV
 |[],_=>none
 |(s,x)::e,t=>if Nat.beq s t then some x else Env.find e t
def EV.on:EV->Nat->Bool
 | .val _,_=>false
 | .gd g _ _,d=>Nat.beq g d
def Env.del(e:Env)(d:Nat):Env:=e.filter fun(s,x)=> !(Nat.beq s d)&& !(x.on d)
def Env.put(e:Env)(d:Nat)(v:Value):Env:=(d,.val v)::e.del d
def Env.Wh(e:Env)(d:Option Nat)(v:Value):Env:=match d with|some d=>e.put d v|none=>e
def Env.aqW(e:Env)(d g:Nat)(want:Bool)(v:Value):Env:=(d,.gd g want v)::e.del d
def Env.refine(e:Env)(g:Nat)(b:Bool):Env:=
 (g,.val (.bool b))::e.filterMap fun(s,x)=>if Nat.beq s g then none else match x with
  | .val v=>some (s,.val v)
  | .gd h want v=>if Nat.beq h g then some (s,.val (if want==b then v else undef))else some (s,.gd h want v)
def lP:Env->(Env->Prop)->Prop
 |[],c=>c []
 |(s,x)::e,c=>lP e λe=>c ((s,x)::e)
def kU:∀(e:Env) (c:Env->Prop),lP e c=c e
 |[],_=>rfl
 |(_,_)::e,_=>kU e _
def Env.op(e:Env):Operand->Option Value
 | .tmp t=>match e.find t with|some (.val v)=>some v|_=>none
 | .const v=>some v
 | .global g=>some (.pointer (some ⟨g,0,none⟩))
 | .func f=>some (.func (.func f) #[] #[])
def Env.opG(e:Env)(g:Nat)(b:Bool):Operand->Option Value
 | .tmp t=>match e.find t with|some (.val v)=>some v|some (.gd h want v)=>if Nat.beq h g&&want==b then some v else none|_=>none
 | .const v=>some v
 | .global g=>some (.pointer (some ⟨g,0,none⟩))
 | .func f=>some (.func (.func f) #[] #[])
def Env.under(e:Env)(g:Nat)(b:Bool):Operand->Option Value
 | .tmp t=>match e.find t with|some (.gd h want v)=>if Nat.beq h g&&want==b then some v else none|_=>none
 |_=>none
def rX(P:Program)(t:TypeId):K:=
 match P.underlying t with
 |some (.int k)=> .i k
 |some .bool=> .b
 |some .string=> .str
 |some (.pointer _)=> .p
 |some (.slice _)=> .s
 |some (.map _ _)=> .m
 |some (.struct _)|some (.array _ _)=> .ag
 |_=> .raw
def iB(P:Program)(t:TypeId):Nat:=match P.info? t with|some i=>i.size|none=>0
def zOf(P:Program)(t:TypeId):Option Value:=match P.info? t with|some i=>i.zero|none=>none
def Wl(P:Program)(s:TypeId)(f:Nat):Option Field:=match P.underlying s with|some (.struct fs)=>fs[f]?|_=>none
def aAw(P:Program)(t:TypeId):Option (List TypeId):=match P.underlying t with|some (.tuple ts)=>some ts.toList|_=>none
def Yp(P:Program)(t:TypeId)(v:Value)(c:Value->Prop):Prop:=
 match aAw P t with
 |none=>cast (rX P t) v c
 |some ts=>Is (ts.map (rX P)) v λx=>c (.tuple (dL (ts.map (rX P)) x).toArray)
def Qr(P:Program)(rec:TypeId->Option (List (Nat×Nat))):List Field->Option (List (Nat×Nat))
 |[]=>some []
 |f::fs=>if f.name== "_" then none else
  match rec f.type,Qr P rec fs with
  |some m,some l=>if m.all (fun x=>Nat.blt x.1 (iB P f.type))then some (m.map (fun x=>(x.1+f.offset,x.2))++l)else none
  |_,_=>none
def Qs(sz:Nat)(m:List (Nat×Nat)):Nat->Nat->List (Nat×Nat)
 |_,0=>[]
 |i,n+1=>m.map (λx=>(x.1+i*sz,x.2))++Qs sz m (i+1) n
def Gk(P:Program):Nat->TypeId->Option (List (Nat×Nat))
 |0,_=>none
 |d+1,t=>
  match P.underlying t with
  |some (.int _)=>some [(0,0)]
  |some .bool=>some [(0,1)]
  |some .string=>some [(0,2)]
  |some (.struct fs)=>if iB P t=0 then none else if P.stoodInHeld t then none else Qr P (Gk P d) fs.toList
  |some (.array n e)=>if iB P t=0 then none else if iB P e=0 then none else match Gk P d e with
   |some m=>if m.all (λx=>Nat.blt x.1 (iB P e))then some (Qs (iB P e) m 0 n)else none
   |none=>none
  |_=>none
abbrev ey:=Fn->Array Value->World->(Value->ap)->Prop
def nj(bY:ey)(f:Value)(args:Array Value)(w:World)(c:Value->ap):Prop:=
 match f with
 | .func (.func id) first captured=>bY (.func id) (first++args++captured) w c
 | .func (.yield l) first _=>bY (.yield l) (first++args) w c
 |_=>False
def pR(bY:ey)(P:Program)(v:Value)(name:String)(args:Array Value)(w:World)(c:Value->ap):Prop:=
 match v with
 | .iface t v=>match (method (P.types.size+Made.depth) t v name).run P w with
  | .ok (f,r) w=>bY (.func f) (#[r] ++args) w c
  | .halt _ _=>False
 |_=>False
def isI:K->Bool| .i _=>true|_=>false
def amB:Operand->Bool
 | .const (.int _ n)=>n==0
 |_=>true
def amC:Operand->Option Nat
 | .const (.int _ (.ofNat n))=>some n
 |_=>none
def aa1:Operand->Bool
 | .const (.int _ n)=>n<0
 |_=>true
def awG:Operand->Bool
 | .const (.pointer none)=>true
 |_=>false
def awH:Operand->Bool
 | .const (.slice none _ _)=>true
 |_=>false
def afN:Operand->Bool
 | .const .nilIface=>true
 |_=>false
def awI:Operand->Bool
 | .const (.map none)=>true
 |_=>false
def afO:Operand->Bool
 | .const .nilFunc=>true
 |_=>false
def abm(v:Value)(c:Bool->Prop):Prop:=match v with| .nilFunc=>c true| .func _ _ _=>c false|_=>False
def amD(P:Program)(ts:Array TypeId):K:=match ts[0]? with|some t=>rX P t|none=> .raw
def isEq:BinOp->Bool
 | .eql=>true
 | .neq=>true
 |_=>false
def aAy:BinOp->Bool
 | .eql=>true
 | .neq=>true
 | .lss=>true
 | .leq=>true
 | .gtr=>true
 | .geq=>true
 |_=>false
def ahT(op:BinOp)(y:Operand):Bool:=
 match op with
 | .quo=> !amB y
 | .rem=> !amB y
 | .shl=> !aa1 y
 | .shr=> !aa1 y
 |_=>true
def ahU(k:K)(op:BinOp)(y:Operand):Bool:=
 match k with
 | .i _=>ahT op y
 | .b=>isEq op
 | .str=>aAy op
 | .p=>isEq op&&awG y
 | .s=>isEq op&&awH y
 | .m=>isEq op&&awI y
 |_=>false
def isLen:Builtin->Bool| .len=>true|_=>false
def akj:Builtin->Bool| .cap=>true|_=>false
def aC1:Builtin->Bool| .min=>true| .max=>true|_=>false
def aAz(b:Builtin)(k:K):Bool:=
 match k with
 | .s=>isLen b||akj b
 | .str=>isLen b
 | .i _=>aC1 b
 |_=>false
def awJ(k:K):Bool:=
 match k with
 | .i _=>true
 | .b=>true
 |_=>false
def Cf(P:Program)(o:Op):Bool:=
 match o with
 | .move _=>true
 | .assign _=>true
 | .extract _ _=>true
 | .makeFunc _ _ _=>true
 | .binOp op t _ y _=>ahU (rX P t) op y
 | .unOp _ t _=>awJ (rX P t)
 | .convert s d _=>isI (rX P s)&&isI (rX P d)
 | .call c=>match c.callee with
  | .builtin b=>aAz b (amD P c.argTypes)
  |_=>false
 |_=>false
def afP(op:BinOp)(k:IntKind)(x y:Int):Option Value:=
 match op with
 | .add=>some (.int k (k.wrap (x+y)))
 | .sub=>some (.int k (k.wrap (x - y)))
 | .mul=>some (.int k (k.wrap (x*y)))
 | .and=>some (.int k (oH k x y))
 | .or=>some (.int k (Ti k x y))
 | .xor=>some (.int k (JV k x y))
 | .andNot=>some (.int k (tU k x y))
 | .quo=>some (.int k (Wf k x y))
 | .rem=>some (.int k (abl x y))
 | .eql=>some (.bool (x==y))
 | .neq=>some (.bool (x !=y))
 | .lss=>some (.bool (decide (x<y)))
 | .leq=>some (.bool (decide (x<=y)))
 | .gtr=>some (.bool (decide (x>y)))
 | .geq=>some (.bool (decide (x>=y)))
 |_=>none
def Wm(a b:ByteArray):Bool:=a.toList==b.toList
def amE(op:BinOp)(a b:ByteArray):Option Value:=
 match op with
 | .eql=>some (.bool (Wm a b))
 | .neq=>some (.bool (!(Wm a b)))
 | .lss=>some (.bool (Op.bytesLess a.toList b.toList))
 | .leq=>some (.bool (Op.bytesLess a.toList b.toList||Wm a b))
 | .gtr=>some (.bool (!(Op.bytesLess a.toList b.toList||Wm a b)))
 | .geq=>some (.bool (!(Op.bytesLess a.toList b.toList)))
 |_=>none
def Qt(op:BinOp)(b:Bool):Option Value:=
 match op with
 | .eql=>some (.bool b)
 | .neq=>some (.bool (!b))
 |_=>none
def IS{A:Type}(v:Option A)(c:A->Prop):Prop:=match v with|some v=>c v|none=>False
def opsL(ρ:Operand->Option Value):List Operand->Option (List Value)
 |[]=>some []
 |x::l=>match ρ x,opsL ρ l with|some v,some r=>some (v::r)|_,_=>none
def afQ(P:Program)(op:BinOp)(t:TypeId)(x y:Value):Option Value:=
 match rX P t with
 | .i _=>match x,y with
  | .int k a,.int k' b=>match op with
   | .shl=>some (.int k (sD k a b))
   | .shr=>some (.int k (IR k a b))
   |_=>if k=k' then afP op k a b else none
  |_,_=>none
 | .b=>match x,y with| .bool a,.bool b=>Qt op (a==b)|_,_=>none
 | .str=>match x,y with| .string a,.string b=>amE op a b|_,_=>none
 | .p=>match x,y with| .pointer a,.pointer none=>Qt op a.isNone|_,_=>none
 | .s=>match x,y with| .slice a _ _,.slice none _ _=>Qt op a.isNone|_,_=>none
 | .m=>match x,y with| .map a,.map none=>Qt op a.isNone|_,_=>none
 |_=>none
def aqX(op:UnOp)(x:Value):Option Value:=
 match x,op with
 | .bool b,.not=>some (.bool (!b))
 | .int k n,.neg=>some (.int k (k.wrap (0 - n)))
 | .int k n,.xor=>some (.int k (JV k (if k.signed then -1 else k.max) n))
 |_,_=>none
def evB(b:Builtin)(k:K)(l:Option (List Value)):Option Value:=
 match k,l with
 | .s,some [.slice _ n c]=>if isLen b then some (.int .i64 n)else if akj b then some (.int .i64 c)else none
 | .str,some [.string s]=>if isLen b then some (.int .i64 s.size)else none
 | .i _,some [.int k x,.int _ y]=>match b with| .min=>some (.int k (Wg x y))| .max=>some (.int k (ZR x y))|_=>none
 |_,_=>none
def aa2(P:Program)(o:Op)(ρ:Operand->Option Value):Option Value:=
 match o with
 | .move x=>ρ x
 | .assign x=>ρ x
 | .extract x i=>match ρ x with|some (.tuple vs)=>vs.toList[i]?|_=>none
 | .makeFunc fn first captured=>
  match opsL ρ first.toList,opsL ρ captured.toList with
  |some a,some b=>some (.func fn a.toArray b.toArray)
  |_,_=>none
 | .binOp op t x y _=>match ρ x,ρ y with|some a,some b=>afQ P op t a b|_,_=>none
 | .unOp op _ x=>match ρ x with|some a=>aqX op a|_=>none
 | .convert _ d x=>match ρ x,rX P d with|some (.int _ n),.i k=>some (.int k (k.wrap n))|_,_=>none
 | .call c=>match c.callee with
  | .builtin b=>evB b (amD P c.argTypes) (opsL ρ c.args.toList)
  |_=>none
 |_=>none
def afR(P:Program)(op:BinOp)(t:TypeId)(x:Option Value)(c:Value->Prop):Prop:=
 match x with
 |some v=>match P.underlying t with
  |some (.func _ _ _)=>abm v λb=>IS (Qt op b) c
  |_=>False
 |none=>False
def tu(P:Program)(o:Op)(ρ:Operand->Option Value)(c:Value->Prop):Prop:=
 match o with
 | .binOp op t x y _=>
  match afO y with
  |true=>afR P op t (ρ x) c
  |false=>
  match ρ x,ρ y with
  |some (.int k a),some (.int k' b)=>
   match op with
   | .shl=>HI k a b λn=>c (.int k n)
   | .shr=>amA k a b λn=>c (.int k n)
   | .quo=>if k=k' then aCY k a b λn=>c (.int k n)else False
   | .rem=>if k=k' then amz a b λn=>c (.int k n)else False
   |_=>False
  |some (.string a),some (.string b)=>match op with| .add=>((a.size+b.size:Nat):Int)<=9223372036854775807/\c (.string (a++b))|_=>False
  |some (.agg xs),some (.agg ys)=>
   if P.eqGuardType P.depth t then False else
   match rX P t with
   | .ag=>match Gk P 20 t,op with
    |some os,.eql=>Tj os xs ys λb=>c (.bool b)
    |some os,.neq=>Tj os xs ys λb=>c (.bool (!b))
    |_,_=>False
   |_=>False
  |some (.iface _ _),some .nilIface=>match P.underlying t with
   |some (.interface _)=>match op with| .eql=>c (.bool false)| .neq=>c (.bool true)|_=>False
   |_=>False
  |some .nilIface,some .nilIface=>match afN y with
   |true=>match P.underlying t with
    |some (.interface _)=>match op with| .eql=>c (.bool true)| .neq=>c (.bool false)|_=>False
    |_=>False
   |false=>False
  |_,_=>False
 | .nilCheck x=>match ρ x with|some v=>nnV v c|_=>False
 | .fieldAddr s x f=>
  match ρ x,Wl P s f with
  |some (.pointer (some a)),some fd=>if iB P fd.type=0 then False else c (.pointer (some (a.add fd.offset)))
  |_,_=>False
 | .field s x f=>
  match ρ x,Wl P s f with
  |some (.agg cs),some fd=>match rX P fd.type with| .ag=>if iB P fd.type=0 then False else c (.agg (cs.extract fd.offset (fd.offset+iB P fd.type)))| .raw=>False|k=>Qq cs fd.offset λv=>cast k v c
  |_,_=>False
 | .indexAddr t x i=>
  match ρ x,ρ i,P.underlying t with
  |some (.slice a n k),some (.int _ i),some (.slice e)=>if iB P e=0 then False else cN ⟨a,n,k⟩ i (iB P e) λa=>c (.pointer (some a))
  |some (.pointer (some a)),some (.int _ j),some (.array n e)=>if iB P e=0 then False else
   match amC i with
   |some j=>if j<n then c (.pointer (some (a.add (j*iB P e))))else False
   |none=>Hf a n j (iB P e) λa=>c (.pointer (some a))
  |_,_,_=>False
 | .index t x i=>
  match ρ x,ρ i,P.underlying t with
  |some (.agg cs),some (.int _ i),some (.array n e)=>match rX P e with| .ag=>False| .raw=>False|k=>if iB P e=1 then ixA cs n i λv=>cast k v c else False
  |some (.string s),some (.int _ i),some .string=>aAv s i λn=>c (.int .u8 n)
  |_,_,_=>False
 | .slice t x lo hi mx=>
  match ρ x,P.underlying t,(match lo with|some l=>ρ l|none=>some (.int .i64 0))with
  |some (.slice a n k),some (.slice e),some (.int _ lo)=>
   if iB P e=0 then False else
   match mx,hi with
   |none,none=>slL ⟨a,n,k⟩ (iB P e) lo λs=>c (.slice s.a s.n s.c)
   |none,some h=>match ρ h with|some (.int _ h)=>Th ⟨a,n,k⟩ (iB P e) lo h λs=>c (.slice s.a s.n s.c)|_=>False
   |some m,some h=>match ρ h,ρ m with|some (.int _ h),some (.int _ m)=>aqT ⟨a,n,k⟩ (iB P e) lo h m λs=>c (.slice s.a s.n s.c)|_,_=>False
   |_,_=>False
  |some (.string s),some .string,some (.int _ lo)=>
   match mx,hi with
   |none,none=>aqU s lo s.size λs=>c (.string s)
   |none,some h=>match ρ h with|some (.int _ h)=>aqU s lo h λs=>c (.string s)|_=>False
   |_,_=>False
  |some (.pointer (some a)),some (.array n e),some (.int _ lo)=>
   if iB P e=0 then False else
   match mx,hi with
   |none,none=>slL ⟨some a,n,n⟩ (iB P e) lo λs=>c (.slice s.a s.n s.c)
   |none,some h=>match ρ h with|some (.int _ h)=>Th ⟨some a,n,n⟩ (iB P e) lo h λs=>c (.slice s.a s.n s.c)|_=>False
   |_,_=>False
  |_,_,_=>False
 | .makeInterface t x=>match rX P t with| .raw=>False|_=>match ρ x with|some v=>c (.iface t v)|none=>False
 |_=>False
def afS:Op->Bool
 | .binOp _ _ _ _ _=>true
 | .nilCheck _=>true
 | .fieldAddr _ _ _=>true
 | .field _ _ _=>true
 | .indexAddr _ _ _=>true
 | .index _ _ _=>true
 | .slice _ _ _ _ _=>true
 | .makeInterface _ _=>true
 |_=>false
def SN(P:Program)(o:Op):Bool:=afS o&& !Cf P o
def JW(P:Program)(t:TypeId)(v:Option Value)(w:World)(c:Value->Prop):Prop:=
 match v with
 |some (.pointer (some a))=>
  match rX P t with
  | .i k=>aJ k w a λn=>c (.int k n)
  | .b=>He w a λn=>c (.bool n)
  | .p=>aQ w a λn=>c (.pointer n)
  | .a=>False
  | .s=>cy w a λn=>c (.slice n.a n.n n.c)
  | .str=>Qp w a λn=>c (.string n)
  | .m=>ldM w a λn=>c (.map n)
  | .ag=>if iB P t=0 then False else bx (iB P t) w a λcs=>c (.agg cs)
  | .raw=>match P.underlying t with|some _=>tH w a c|none=>False
 |_=>False
def rZ(v:Value)(c:Prop):Prop:=v.oneCell'=true/\c
def afT:K->Bool| .raw=>true|_=>false
def aqY(P:Program)(t:TypeId)(i:Nat):Bool:=
 match P.underlying t with
 |some (.struct fs)=>match fs[i]? with|some f=>afT (rX P f.type)|none=>false
 |some (.array _ e)=>afT (rX P e)
 |_=>false
def Qu(raw:Nat->Bool)(place:Nat->Option (Nat×Nat))(n:Nat):List (Nat×Value)->Array Value->(Array Value->Prop)->Prop
 |[],acc,c=>c acc
 |(i,v)::rest,acc,c=>
  match place i with
  |none=>False
  |some (off,size)=>
   if off+size>n then False else
   match raw i with
   |true=>if size=1 then rZ v (Qu raw place n rest (acc.setIfInBounds off v) c)else False
   |false=>
    match v with
    | .agg cs=>kT acc off size cs λacc=>Qu raw place n rest acc c
    |v=>if size=1 then Qu raw place n rest (acc.setIfInBounds off v) c else False
def placesOf(P:Program)(t:TypeId)(i:Nat):Option (Nat×Nat):=
 match P.underlying t with
 |some (.struct fs)=>match fs[i]? with|some f=>some (f.offset,iB P f.type)|none=>none
 |some (.array _ e)=>some (i*iB P e,iB P e)
 |_=>none
def abn(P:Program)(t:TypeId):Bool:=
 match P.underlying t with
 |some (.struct fs)=>fs.toList.all λf=>(P.info? f.type).isSome
 |some (.array _ e)=>(P.info? e).isSome
 |_=>false
def opsOf(ρ:Operand->Option Value):List (Nat×Operand)->Option (List (Nat×Value))
 |[]=>some []
 |(i,x)::l=>match ρ x,opsOf ρ l with|some v,some r=>some ((i,v)::r)|_,_=>none
def afU(P:Program)(bY:ey)(o:Oper)(ρ:Operand->Option Value)(w:World)(c:Value->ap):Prop:=
 match o.op with
 | .store t x y=>
  match ρ x,ρ y with
  |some (.pointer (some a)),some v=>
   match rX P t with
   | .ag=>if iB P t=0 then False else match v with| .agg cs=>dQ (iB P t) w a cs fun w=>c undef w|_=>False
   |_=>if iB P t=1 then bN w a v fun w=>c undef w else False
  |_,_=>False
 | .alloc t=>match zOf P t with|some z=>aE w z.cells t fun a w=>c (.pointer (some a)) w|none=>False
 | .box t x=>
  match ρ x with
  |some v=>
   match afT (rX P t)with
   |true=>rZ v (aE w #[v] t fun a w=>c (.pointer (some a)) w)
   |false=>aE w v.cells t fun a w=>c (.pointer (some a)) w
  |none=>False
 | .build t parts=>
  match opsOf ρ parts.toList,zOf P t with
  |some l,some z=>if z.cells.size=iB P t/\abn P t=true then Qu (aqY P t) (placesOf P t) (iB P t) l z.cells fun cs=>c (.agg cs) w else False
  |_,_=>False
 | .buildSlice t len parts=>
  match P.underlying t,opsOf ρ parts.toList with
  |some (.slice e),some l=>
   if len*iB P e>2 ^ 24\/(P.info? e).isSome=false then False else
   match (if len*iB P e=0 then some #[]else(zOf P e).map (·.cells))with
   |some z=>Qu (fun _=>afT (rX P e)) (fun i=>some (i*iB P e,iB P e)) (len*iB P e) l ((Array.range (len*iB P e)).map (z[· % z.size]!)) fun cs=>
     aE w cs e fun a w=>c (.slice (some a) len len) w
   |none=>False
  |_,_=>False
 | .makeSlice t l k=>
  match ρ l,ρ k with
  |some a,some b=>xz P t a b w fun s w=>c (.slice s.a s.n s.c) w
  |_,_=>False
 | .call cl=>
  match cl.callee with
  | .builtin b=>match opsL ρ cl.args.toList with
   |some vs=>match b with
    | .append=>og P cl.argTypes o.type vs w fun s w=>c (.slice s.a s.n s.c) w
    | .copy=>U1 P cl.argTypes o.type vs w fun n w=>c (.int .i64 n) w
    | .len=>aC0 P cl.argTypes o.type vs w fun n w=>c (.int .i64 n) w
    | .clear=>awE P cl.argTypes o.type vs w c
    | .delete=>ahR P cl.argTypes o.type vs w c
    | .panic=>bY (.method "panic") vs.toArray w c
    |_=>False
   |none=>False
  | .value f=>match ρ f,opsL ρ cl.args.toList with
   |some f,some vs=>nj bY f vs.toArray w fun v w=>Yp P o.type v fun v=>c v w
   |_,_=>False
  | .invoke r name=>match ρ r,opsL ρ cl.args.toList with
   |some v,some vs=>pR bY P v name vs.toArray w fun v w=>Yp P o.type v fun v=>c v w
   |_,_=>False
 | .makeMap t r=>
  match r with
  |none=>mkMap P t none w fun m w=>c (.map m) w
  |some r=>match ρ r with|some r=>mkMap P t (some r) w fun m w=>c (.map m) w|none=>False
 | .lookup t x i ok=>
  match ρ x,ρ i with
  |some x,some i=>look P t x i ok w fun v w=>Yp P o.type v fun v=>c v w
  |_,_=>False
 | .mapUpdate t m k x=>
  match ρ m,ρ k,ρ x with
  |some m,some k,some x=>MP P t m k x w fun w=>c undef w
  |_,_,_=>False
 | .insert t m k x=>
  match ρ m,ρ k,ρ x with
  |some m,some k,some x=>MP P t m k x w fun w=>c undef w
  |_,_,_=>False
 | .convert s d x=>
  match ρ x with
  |some x=>cvt P s d x w fun v w=>cast (rX P d) v fun v=>c v w
  |none=>False
 | .typeAssert x xt as ok=>
  match ρ x with
  |some x=>tyA P x xt as ok w fun v w=>Yp P o.type v fun v=>c v w
  |none=>False
 | .panic x=>
  match ρ x with
  |some v=>bY (.method "panic") #[v] w c
  |none=>False
 |_=>False
def aa3(e:Env)(x a b:Operand):Option Value:=
 match x,e.op x with
 | .tmp g,some (.bool cb)=>
  match (match e.op a with|some v=>some v|none=>e.under g true a),(match e.op b with|some v=>some v|none=>e.under g false b)with
  |some (.bool va),some (.bool vb)=>
   match a,b with
   | .const (.bool true),_=>some (.bool (cb||vb))
   |_,.const (.bool false)=>some (.bool (cb&&va))
   |_,_=>some (.bool (if cb then va else vb))
  |_,_=>none
 |_,_=>none
def abo(e:Env)(x a b:Operand)(c:Value->Prop):Prop:=
 match e.op x with
 |some (.bool cb)=>an cb (IS (e.op a) c) (IS (e.op b) c)
 |_=>False
def afV(ops:Array Oper)(g:Option (Nat×Bool)):Option (Nat×Bool):=
 match g with
 |some (j,want)=>match ops[j]? with|some o=>(match o.dst with|some d=>some (d,want)|none=>none)|none=>none
 |none=>none
def SO:Op->Option (Operand×Operand×Operand)| .pick x a b=>some (x,a,b)|_=>none
def JX:Op->Option (TypeId×Operand)| .load t x=>some (t,x)|_=>none
def aez(P:Program)(bY:ey)(o:Oper)(ρ:Operand->Option Value)(w:World)(c:Value->ap):Prop:=
 if Cf P o.op then IS (aa2 P o.op ρ) λv=>c v w
 else if SN P o.op then tu P o.op ρ λv=>c v w
 else match JX o.op with
  |some (t,x)=>JW P t (ρ x) w λv=>c v w
  |none=>afU P bY o ρ w c
def rootOf(e:Env):Nat->Nat->Nat
 |0,g=>g
 |n+1,g=>match e.find g with|some (.gd h _ _)=>rootOf e n h|_=>g
def Yq(g:Nat)(want:Bool)(yes no:Env->Prop):Nat->Env->Prop
 |0,_=>False
 |n+1,e=>
  match e.find g with
  |some (.val (.bool b))=>
   match want with
   |true=>an b (lP (e.refine g true) yes) (lP (e.refine g false) no)
   |false=>an b (lP (e.refine g true) no) (lP (e.refine g false) yes)
  |some (.val (.tuple _))=>no e
  |some (.gd _ _ _)=>
   match e.find (rootOf e 9 g)with
   |some (.val (.bool b))=>an b (lP (e.refine (rootOf e 9 g) true) λe=>Yq g want yes no n e) (lP (e.refine (rootOf e 9 g) false) λe=>Yq g want yes no n e)
   |_=>False
  |_=>False
def SP(P:Program)(bY:ey)(o:Oper)(e:Env)(w:World)(c:Env->ap):Prop:=
 match SO o.op with
 |some (x,a,b)=>
  match aa3 e x a b with
  |some v=>c (e.Wh o.dst v) w
  |none=>abo e x a b λv=>c (e.Wh o.dst v) w
 |none=>aez P bY o e.op w λv w=>c (e.Wh o.dst v) w
def abp(P:Program)(o:Op)(e:Env)(g:Nat)(want:Bool):Option Value:=
 match e.find g with
 |some (.val (.tuple _))=>none
 |_=>
  match SO o with
  |some (x,a,b)=>aa3 (e.refine g want) x a b
  |none=>if Cf P o then aa2 P o (e.opG g want)else none
def MQ(P:Program)(bY:ey)(ops:Array Oper)(o:Oper)(e:Env)(w:World)(c:Env->ap):Prop:=
 match o.guard with
 |none=>SP P bY o e w c
 |some _=>
  match afV ops o.guard with
  |none=>False
  |some (g,want)=>
   match abp P o.op e g want,o.dst with
   |some v,some d=>if Nat.beq d g then False else c (e.aqW d g want v) w
   |_,_=>Yq g want (λe=>SP P bY o e w c) (λe=>c (e.Wh o.dst undef) w) 9 e
def abq(P:Program)(bY:ey)(ops:Array Oper):List Oper->Env->World->(Env->ap)->Prop
 |[],e,w,c=>c e w
 |o::rest,e,w,c=>MQ P bY ops o e w λe w=>lP e λe=>abq P bY ops rest e w c
def U2(P:Program)(o:Op):Bool:=(SO o).isSome||Cf P o||SN P o
def MR(P:Program)(t:TypeId):Nat:=match rX P t with| .ag=>iB P t|_=>1
def ai(n:Nat)(a:Addr)(w w':World)(c:Prop):Prop:=(∀k,k<n->w'.cell? (a.add k)=w.cell? (a.add k))/\c
structure OO where
 i:Nat
 n:Nat
 a:Addr
 w:World
def Gn(o:Oper):Nat:=o.after.foldl (λs e=>if Region.binds .any e then s|||2 ^ e.on else s) 0
def Cu(P:Program)(ops:Array Oper)(m:Nat):Nat->Nat->Option Nat
 |0,_=>none
 |n+1,i=>match ops[i]? with
  |some o=>if !m.testBit i&&(Gn o&&&m==Gn o)&&(U2 P o.op||(JX o.op).isSome)then some i else Cu P ops m n (i+1)
  |none=>none
def LD(ops:Array Oper)(m:Nat):List Nat:=
 (List.range ops.size).filter λi=>match ops[i]? with|some o=> !m.testBit i&&(Gn o&&&m==Gn o)|none=>false
def Wn(sO:Nat)(hs:List OO)(w:World)(c:Prop):Prop:=
 match hs with
 |[]=>c
 |h::hs=>if sO.testBit h.i then Wn sO hs w c else ai h.n h.a h.w w (Wn sO hs w c)
def both(x y:Prop):Prop:=x/\y
def akk(l:List Nat)(c:Nat->Prop):Prop:=
 match l with
 |[]=>True
 |[i]=>c i
 |i::l=>both (c i) (akk l c)
def afW(P:Program)(i:Nat)(t:TypeId)(v:Option Value)(w:World)(hs:List OO):List OO:=
 match v with
 |some (.pointer (some a))=>⟨i,MR P t,a,w⟩::hs
 |_=>hs
def Qv(P:Program)(ops:Array Oper)(i:Nat)(o:Oper)(t:TypeId)(x:Operand)(e:Env)(w:World)(hs:List OO)(c:Env->List OO->Prop):Prop:=
 match o.guard with
 |none=>JW P t (e.op x) w λv=>c (e.Wh o.dst v) (afW P i t (e.op x) w hs)
 |some _=>
  match afV ops o.guard with
  |none=>False
  |some (g,want)=>Yq g want (λe=>JW P t (e.op x) w λv=>c (e.Wh o.dst v) (afW P i t (e.op x) w hs)) (λe=>c (e.Wh o.dst undef) hs) 9 e
def JY(P:Program)(bY:ey)(ops:Array Oper)(sO:Array Nat):Nat->Nat->List OO->Env->World->(Env->ap)->Prop
 |0,_,_,_,_,_=>False
 |fuel+1,m,hs,e,w,c=>
  match Cu P ops m ops.size 0 with
  |some i=>match ops[i]? with
   |some o=>match JX o.op with
    |some (t,x)=>Qv P ops i o t x e w hs λe hs=>lP e λe=>JY P bY ops sO fuel (m|||2 ^ i) hs e w c
    |none=>MQ P bY ops o e w λe w=>lP e λe=>JY P bY ops sO fuel (m|||2 ^ i) hs e w c
   |none=>False
  |none=>match LD ops m with
   |[]=>if (List.range ops.size).all (λi=>m.testBit i)then c e w else False
   |l=>akk l λi=>match ops[i]? with
    |some o=>MQ P bY ops o e w λe w=>Wn (sO.getD i 0) hs w (lP e λe=>JY P bY ops sO fuel (m|||2 ^ i) hs e w c)
    |none=>False
def abr(ops:Array Oper)(sO:Array Nat):Bool:=
 (List.range ops.size).all λj=>(List.range j).all λi=>(sO.getD j 0).testBit i||match ops[i]?,ops[j]? with|some x,some y=>Oper.apart ops x y&&Oper.apart ops y x|_,_=>false
def akl(acc:Array Nat)(o:Oper):Nat:=o.after.foldl (λs e=>if Region.binds .any e then s|||2 ^ e.on|||acc.getD e.on 0 else s) 0
def amF:List Oper->Array Nat->Array Nat
 |[],acc=>acc
 |o::l,acc=>amF l (acc.push (akl acc o))
def aeA(ops:Array Oper):Array Nat:=amF ops.toList #[]
def SQ(ops:Array Oper):Bool:=
 (List.range ops.size).all λj=>match ops[j]? with|some o=>o.after.all λe=> !Region.binds .any e||Nat.blt e.on j|none=>false
def noSelect(ops:Array Oper):Bool:=ops.toList.all λo=>match o.op with| .select _ _=>false|_=>true
def afX(ops:Array Oper):Bool:=SQ ops&&abr ops (aeA ops)&&noSelect ops
inductive Ex where
 |normal|exit (id:Nat)|ret
inductive AC where
 |skip
 |region (id:Nat) (ops:Array Oper) (draw:Bool)
 |seq (a b:AC)
 |cond (c:Operand) (a b:AC)
 |block (id:Nat) (a:AC)
 |loop (ks:List (Nat×K)) (a:AC)
 |exit (id:Nat)
 |label (l:Nat)
 |ret
 |join (ks:List (Nat×K)) (a:AC)
 |scope (a:AC)
 |bad (c:Code)
def AC.code:AC->Code
 | .skip=> .skip
 | .region id ops d=> .region id ops d
 | .seq a b=> .seq a.code b.code
 | .cond c a b=> .cond c a.code b.code
 | .block id a=> .block id a.code
 | .loop _ a=> .loop a.code
 | .exit id=> .exit id
 | .label l=> .label l
 | .ret=> .ret
 | .join _ a=>a.code
 | .scope a=> .scope a.code
 | .bad c=>c
abbrev sP:=List (Nat×List (Nat×K))
def sP.at:sP->Nat->Option (List (Nat×K))
 |[],_=>none
 |(m,k)::h,n=>if Nat.beq m n then some k else sP.at h n
def joined(h:sP)(n:Nat)(a:AC):AC:=match h.at n with|some ks=> .join ks a|none=>a
def nk(h:sP):Code->Nat->AC×Nat
 | .skip,n=>(.skip,n)
 | .region id ops d,n=>(joined h n (.region id ops d),n+1)
 | .seq a b,n=>match nk h a n with|(x,n)=>match nk h b n with|(y,n)=>(.seq x y,n)
 | .cond c a b,n=>match nk h a (n+1)with|(x,m)=>match nk h b m with|(y,m)=>(joined h n (.cond c x y),m)
 | .block id a,n=>match nk h a (n+1)with|(x,m)=>(joined h n (.block id x),m)
 | .loop a,n=>match nk h a (n+1)with|(x,m)=>(.loop ((h.at n).getD []) x,m)
 | .exit id,n=>(.exit id,n)
 | .label l,n=>(.label l,n)
 | .ret,n=>(.ret,n)
 | .scope a,n=>match nk h a n with|(x,m)=>(.scope x,m)
 |c,n=>(.bad c,n)
def MS(h:sP)(n:Nat)(a:AC):(joined h n a).code=a.code:=by
 unfold joined;split<;>rfl
def tV(h:sP)(c:Code):∀n,(nk h c n).1.code=c:=by
 induction c with
 |skip=>intro n;rfl
 |region id ops d=>intro n;simp[nk,MS,AC.code]
 |seq a b e f=>intro n;simp[nk,AC.code,e,f]
 |cond c a b e f=>intro n;simp[nk,MS,AC.code,e,f]
 |block id a ih=>intro n;simp[nk,MS,AC.code,ih]
 |loop a ih=>intro n;simp[nk,AC.code,ih]
 |scope a ih=>intro n;simp[nk,AC.code,ih]
 |_=>intros;rfl
def AC.writes:AC->Nat->Bool
 | .region _ ops _,s=>ops.toList.any λo=>match o.dst with|some d=>Nat.beq d s|none=>false
 | .seq a b,s=>a.writes s||b.writes s
 | .cond _ a b,s=>a.writes s||b.writes s
 | .block _ a,s=>a.writes s
 | .loop _ a,s=>a.writes s
 | .join _ a,s=>a.writes s
 | .scope a,s=>a.writes s
 |_,_=>false
def AC.fits(n:Nat):AC->Bool
 | .region _ ops _=>ops.toList.all λo=>match o.dst with|some d=>Nat.blt d n|none=>true
 | .seq a b=>a.fits n&&b.fits n
 | .cond _ a b=>a.fits n&&b.fits n
 | .block _ a=>a.fits n
 | .loop _ a=>a.fits n
 | .join _ a=>a.fits n
 | .scope a=>a.fits n
 |_=>true
def HT:List (Nat×K)->Type
 |[]=>Unit
 |[(_,k)]=>k.T
 |(_,k)::(x::r)=>k.T×HT (x::r)
def Be:(ks:List (Nat×K))->HT ks->Env
 |[],_=>[]
 |[(s,k)],x=>[(s,.val (k.v x))]
 |(s,k)::(y::r),x=>(s,.val (k.v x.1))::Be (y::r) x.2
def uo:(ks:List (Nat×K))->Env->(HT ks->Prop)->Prop
 |[],_,c=>c ()
 |[(s,k)],e,c=>match e.find s with|some (.val v)=>unV k v c|_=>False
 |(s,k)::(y::r),e,c=>match e.find s with|some (.val v)=>unV k v λx=>uo (y::r) e λxs=>c (x,xs)|_=>False
def Env.keep(e:Env)(mask:Nat):Env:=e.filter fun(s,x)=>mask.testBit s&&(match x with| .val _=>true|_=>false)
def Env.unw(e:Env)(a:AC):Env:=e.filter fun(s,x)=> !(a.writes s)&&(match x with| .val _=>true|_=>false)
def ev(P:Program)(bY:ey)(mask:Nat):AC->Env->World->(Ex->Env->ap)->Prop
 | .skip,e,w,k=>k .normal e w
 | .label _,e,w,k=>k .normal e w
 | .region _ ops draw,e,w,k=>
  if draw then(if afX ops then drew w λw=>JY P bY ops (aeA ops) (ops.size+1) 0 [] e w λe w=>lP (e.keep mask) λe=>k .normal e w else False)
  else abq P bY ops ops.toList e w λe w=>lP (e.keep mask) λe=>k .normal e w
 | .seq a b,e,w,k=>ev P bY mask a e w λx e w=>match x with| .normal=>ev P bY mask b e w k|x=>k x e w
 | .cond c a b,e,w,k=>match e.op c with|some (.bool t)=>an t (ev P bY mask a e w k) (ev P bY mask b e w k)|_=>False
 | .block id a,e,w,k=>ev P bY mask a e w λx e w=>match x with| .exit i=>if Nat.beq i id then k .normal e w else k (.exit i) e w|x=>k x e w
 | .loop ks a,e,w,k=>
  uo ks e λx=>jD (λC x w=>lP (Be ks x++e.unw a) λe=>ev P bY mask a e w λy e w=>match y with| .normal=>uo ks e λx=>C x w|y=>k y e w) x w
 | .exit id,e,w,k=>k (.exit id) e w
 | .ret,e,w,k=>k .ret e w
 | .join ks a,e,w,k=>
  cz (λJ=>ev P bY mask a e w λx e w=>match x with| .normal=>uo ks e λx=>J x w|x=>k x e w) λx w=>lP (Be ks x++e.unw a) λe=>k .normal e w
 | .scope a,e,w,k=>ev P bY mask a e w k
 | .bad _,_,_,_=>False
def azT(P:Program)(r:ResultVar)(e:Env)(w:World)(c:Value->Prop):Prop:=
 match r with
 | .tmp t=>IS (e.op (.tmp t)) c
 | .cell a t=>JW P t (e.op (.tmp a)) w c
def JZ(P:Program):List ResultVar->Env->World->(List Value->Prop)->Prop
 |[],_,_,c=>c []
 |r::rs,e,w,c=>azT P r e w λv=>JZ P rs e w λl=>c (v::l)
def amG(P:Program)(rs:List ResultVar)(c:List Value->ap)(x:Ex)(e:Env)(w:World):Prop:=
 match x with
 | .exit _=>False
 |_=>JZ P rs e w λl=>c l w
def DE:Nat->List Value->Env
 |_,[]=>[]
 |n,v::l=>(n,.val v)::DE (n+1) l
def OP(P:Program)(bY:ey)(mask:Nat)(h:sP)(fn:Func)(ks:List K)(args:List Value)(w:World)(c:KT ks->ap):Prop:=
 match fn.body with
 |some b=>ev P bY mask (nk h b 0).1 (DE 0 args) w (amG P fn.results.toList λl w=>qW ks l λx=>c x w)
 |none=>False
def Wo(h:sP)(fn:Func)(n:Nat):Bool:=
 match fn.body with
 |some b=>(nk h b 0).1.fits fn.ntmps&&Nat.ble n fn.ntmps&& !(fn.name== "runtime.NumGoroutine")
 |none=>false
def Wp(P:Program)(bY:ey)(mask:Nat):List AC->Env->World->(Ex->Env->ap)->Prop
 |[],e,w,k=>k .normal e w
 |a::l,e,w,k=>ev P bY mask a e w λx e w=>match x with| .normal=>Wp P bY mask l e w k|x=>k x e w
def spine:List AC->Code->Code
 |[],c=>c
 |a::l,c=> .seq a.code (spine l c)
def akm(P:Program)(bY:ey)(amH:(Value->ap)->ey)(dR:List Value->World->(ap)->Prop)(dP:List Value->Value->World->(ap)->Prop)
  (mask:Nat) (pre:List AC) (d:Nat) (g:FuncId) (abt:List Operand) (post:AC) (fn:Func) (ks:List K) (args:List Value) (w:World) (c:KT ks->ap):Prop:=
 Wp P bY mask pre (DE 0 args) w λx e w=>match x with
  | .normal=>match opsL e.op abt with
   |some l=>lP (e.put d (.func (.func g) #[] l.toArray)) λe=>
    ev P (amH λv w=>dP l v w λw=>JZ P fn.results.toList (e.unw post) w λl=>qW ks l λx=>c x w) mask post e w λx e w=>match x with
     | .exit _=>False
     |_=>dR l w λw=>JZ P fn.results.toList e w λl=>qW ks l λx=>c x w
   |none=>False
  |x=>amG P fn.results.toList (λl w=>qW ks l λx=>c x w) x e w
def akn(P:Program)(bY:ey)(mask:Nat)(c:AC)(args:List Value)(w:World)(k:ap):Prop:=
 ev P bY mask c (DE 0 args) w λx _ w=>match x with| .exit _=>False|_=>k w
def aAA:Array Oper->Bool:=λops=>match ops.toList.reverse with|o::_=>(match o.op with| .defer _=>true|_=>false)|[]=>false
def afY:Code->Option (List Code×Nat×Array Oper×Code)
 | .seq (.region id ops d) c=>match aAA ops with
  |true=>some ([],id,ops,c)
  |false=>match afY c with|some (l,r)=>some (.region id ops d::l,r)|none=>none
 | .seq x c=>match afY c with|some (l,r)=>some (x::l,r)|none=>none
 |_=>none
def aa4(fn:Func):List Code×Nat×Array Oper×Code:=match fn.body with|some b=>(match afY b with|some r=>r|none=>([],0,#[],.skip))|none=>([],0,#[],.skip)
def azU(c:Code):AC:=(nk [] c 0).1
def aC3(fn:Func):List AC:=(aa4 fn).1.map azU
def aC4(fn:Func):Nat:=(aa4 fn).2.1
def azV(fn:Func):List Oper:=(aa4 fn).2.2.1.toList
def aAB(fn:Func):AC:=azU (aa4 fn).2.2.2
def xMk(fn:Func):Oper:=(azV fn).headD default
def xDf(fn:Func):Oper:=(azV fn).getLastD default
def xD(fn:Func):Nat:=match (xMk fn).dst with|some d=>d|none=>0
def xG(fn:Func):FuncId:=match (xMk fn).op with| .makeFunc (.func g) _ _=>g|_=>0
def aAC(fn:Func):List Operand:=match (xMk fn).op with| .makeFunc _ _ c=>c.toList|_=>[]
abbrev bt:=List Value->World->(Value->ap)->Prop
def abu:List (Nat×bt)->FuncId->bt
 |[],_,_,_,_=>False
 |(n,d)::l,f,args,w,c=>match Nat.beq n f with|true=>d args w c|false=>abu l f args w c
def kC(l:List (Nat×bt)):ey:=λfn args w c=>match fn with| .func f=>abu l f args.toList w c|_=>False
def J0(l:List (Nat×bt))(Y:Nat->bt):ey:=λfn args w c=>match fn with| .func f=>abu l f args.toList w c| .yield n=>Y n args.toList w c|_=>False
def aC5(a:Act)(s:Nat):EV->Prop
 | .val v=>a.tmps[s]?=some v
 | .gd g want v=>(a.tmps[g]?=some (.bool want)->a.tmps[s]?=some v)/\(a.tmps[g]?≠some (.bool want)->a.tmps[s]?=some undef)
def Sub(e:Env)(a:Act):Prop:=∀p∈e,aC5 a p.1 p.2
variable{a b:Nat}
def beq_eq(h:Nat.beq a b=true):a=b:=Nat.eq_of_beq_eq_true h
def amI(h:Nat.beq a b=false):a≠b:=λe=>by subst e;simp at h
theorem Dc:∀{e:Env} {t:Nat} {x:EV},e.find t=some x->(t,x)∈e
 |[],_,_,h=>by simp[Env.find]at h
 |(s,y)::e,t,x,h=>by
  unfold Env.find at h;split at h
  .rename_i hb;have:=beq_eq hb;grind
  .exact List.mem_cons_of_mem _ (Dc h)
def uV(ρ:Operand->Option Value)(a:Act):Prop:=∀x v,ρ x=some v->a.eval x=v
variable{a:Act}{v:Value}
def Wr(h:a.tmps[b]?=some v):a.eval (.tmp b)=v:=by
 simp[Act.eval,h]
variable{e:Env}
def qi(h:Sub e a):uV e.op a:=by
 intro x v b;cases x with
 |tmp t=>
  simp only[Env.op]at b;split at b
  .rename_i u c;cases b;exact Wr (h _ (Dc c))
  .cases b
 |const u=>simp[Env.op]at b;subst b;rfl
 |global g=>simp[Env.op]at b;subst b;rfl
 |func f=>simp[Env.op]at b;subst b;rfl
variable{b:Bool}{g:Nat}
def ako(h:Sub e a)(j:a.tmps[g]?=some (.bool b)):uV (e.opG g b) a:=by
 intro x v c;cases x with
 |tmp t=>
  simp only[Env.opG]at c;split at c
  .rename_i u d;cases c;exact Wr (h _ (Dc d))
  .rename_i l want u d;split at c
   .rename_i i;simp only[iY]at i;have k:=beq_eq i.1;have h2:want=b:=by simpa using i.2
    subst k;subst h2;cases c
    exact Wr ((h _ (Dc d)).1 j)
   .cases c
  .cases c
 |const u=>simp[Env.opG]at c;subst c;rfl
 |global g=>simp[Env.opG]at c;subst c;rfl
 |func f=>simp[Env.opG]at c;subst c;rfl
variable{x:Operand}
def Wu(h:Sub e a)(f:a.tmps[g]?=some (.bool b))(c:e.under g b x=some v):a.eval x=v:=by
 cases x with
 |tmp t=>
  simp only[Env.under]at c;split at c
  .rename_i k want u i;split at c
   .rename_i d;simp only[iY]at d;have j:=beq_eq d.1;have h2:want=b:=by simpa using d.2
    subst j;subst h2;cases c
    exact Wr ((h _ (Dc i)).1 f)
   .cases c
  .cases c
 |_=>simp[Env.under]at c
variable{d:Nat}
def Gp(h:g≠d):(a.put (some d) v).tmps[g]?=a.tmps[g]?:=by
 simp[Act.put,Array.getElem?_setIfInBounds_ne (Ne.symm h)]
def Wv(h:d<a.tmps.size):(a.put (some d) v).tmps[d]?=some v:=by
 simp[Act.put,h]
def amJ(h:Sub e a):Sub (e.del d) (a.put (some d) v):=by
 intro p b;unfold Env.del at b;rw[List.mem_filter]at b;obtain⟨b,c⟩:=b;obtain⟨s,x⟩:=p;simp only[iY,Bool.not_eq_true']at c;have hs:=amI c.1;have f:=h _ b;cases x with
 |val u=>show _=_;rw[Gp hs];exact f
 |gd g want u=>
  have i:g≠d:=amI c.2;show(_->(a.put (some d) v).tmps[s]?=some u)/\_;rw[Gp i,Gp hs];exact f
def amK(h:Sub e a)(b:d<a.tmps.size):Sub (e.put d v) (a.put (some d) v):=by
 intro p hp;unfold Env.put at hp;rcases List.mem_cons.1 hp with rfl|hp
 .exact Wv b
 .exact amJ h p hp
def zo{d:Option Nat}(h:Sub e a)(b:∀x,d=some x->x<a.tmps.size):Sub (e.Wh d v) (a.put d v):=by
 cases d with
 |none=>exact h
 |some d=>exact amK h (b d rfl)
variable{want:Bool}
variable{zd:Value}
theorem Ww(h:Sub e a)(c:d<a.tmps.size)(b:d≠g)(hv:a.tmps[g]?=some (.bool want)->zd=v)(Gq:a.tmps[g]?≠some (.bool want)->zd=undef):Sub (e.aqW d g want v) (a.put (some d) zd):=by
 intro p hp;unfold Env.aqW at hp;rcases List.mem_cons.1 hp with rfl|hp
 .show(_->(a.put (some d) zd).tmps[d]?=some v)/\_;rw[Gp (Ne.symm b),Wv c];grind
 .exact amJ h p hp
theorem Cv(h:Sub e a)(f:a.tmps[g]?=some (.bool b)):Sub (e.refine g b) a:=by
 intro p hp;unfold Env.refine at hp;rcases List.mem_cons.1 hp with rfl|hp
 .exact f
 .rw[List.mem_filterMap]at hp;obtain⟨⟨s,x⟩,k,c⟩:=hp;have i:=h _ k;dsimp only at c;split at c
  .cases c
  .cases x with
   |val v=>simp only[Option.some.injEq]at c;subst c;exact i
   |gd g' want v=>
    dsimp only at c;split at c
    .rename_i hb;have:=beq_eq hb;subst this;simp only[Option.some.injEq]at c;subst c;show a.tmps[s]?=some _;split
     .rename_i j;have d:want=b:=by simpa using j
      subst d;exact i.1 f
     .rename_i j;have d:want≠b:=by simpa using j
      exact i.2 (by rw[f];simp;exact λe=>d e.symm)
    .grind
def aeB{ρ:Operand->Option Value}{a:Act}(h:uV ρ a):∀{l:List Operand} {vs:List Value},opsL ρ l=some vs->l.map a.eval=vs
 |[],vs,hl=>by simp[opsL]at hl;subst hl;rfl
 |x::l,vs,hl=>by
  simp only[opsL]at hl;split at hl
  .rename_i v r hv b;cases hl
   simp[h x v hv,aeB h b]
  .cases hl
variable{vs:List Value}{ρ:Operand->Option Value}
def tR(h:uV ρ a){l:Array Operand}(b:opsL ρ l.toList=some vs):l.map a.eval=vs.toArray:=by
 apply Array.ext';simp[aeB h b]
def U3{ρ:Operand->Option Value}{a:Act}(h:uV ρ a):∀{l:List (Nat×Operand)} {vs:List (Nat×Value)},opsOf ρ l=some vs->l.map (fun(i,x)=>(i,a.eval x))=vs
 |[],vs,hl=>by simp[opsOf]at hl;subst hl;rfl
 |(i,x)::l,vs,hl=>by
  simp only[opsOf]at hl;split at hl
  .rename_i v r hv b;cases hl
   simp[h x v hv,U3 h b]
  .cases hl
variable{zh:IntKind}{zn:Int->Prop}
theorem Qw(h:xS zh v zn):∃n,v= .int zh n/\zn n:=by
 unfold xS at h;grind
variable{zp:Bool->Prop}
theorem abv(h:Ir v zp):∃n,v= .bool n/\zp n:=by
 unfold Ir at h;grind
theorem abw{c:Option Addr->Prop}(h:toP v c):∃n,v= .pointer n/\c n:=by
 unfold toP at h;grind
variable{zr:Addr->Prop}
theorem aeC(h:amy v zr):∃n,v= .pointer (some n)/\zr n:=by
 unfold amy at h;grind
theorem Qx{c:Sl->Prop}(h:toS v c):∃n:Sl,v= .slice n.a n.n n.c/\c n:=by
 unfold toS at h;grind
theorem U4{c:ByteArray->Prop}(h:Yo v c):∃n,v= .string n/\c n:=by
 unfold Yo at h;grind
theorem Qy{c:Option Nat->Prop}(h:toM v c):∃n,v= .map n/\c n:=by
 unfold toM at h;grind
variable{zt:Array Value->Prop}
theorem ahX(h:toA v zt):∃n,v= .agg n/\zt n:=by
 unfold toA at h;grind
def Wx{k:K}{c:k.T->Prop}(h:unV k v c):∃x:k.T,v=k.v x/\c x:=by
 cases k with
 |i kk=>exact Qw h
 |b=>exact abv h
 |p=>exact abw h
 |a=>exact aeC h
 |s=>exact Qx h
 |str=>exact U4 h
 |m=>exact Qy h
 |ag=>exact ahX h
 |raw=>exact⟨v,rfl,h⟩
def SR{k:K}{c:Value->Prop}(h:cast k v c):c v:=by
 cases k with
 |i kk=>obtain⟨n,rfl,h'⟩:=Qw h;exact h'
 |b=>obtain⟨n,rfl,h'⟩:=abv h;exact h'
 |p=>obtain⟨n,rfl,h'⟩:=abw h;exact h'
 |a=>obtain⟨n,rfl,h'⟩:=aeC h;exact h'
 |s=>obtain⟨n,rfl,h'⟩:=Qx (c:=λn=>c (.slice n.a n.n n.c)) h;exact h'
 |str=>obtain⟨n,rfl,h'⟩:=U4 h;exact h'
 |m=>obtain⟨n,rfl,h'⟩:=Qy h;exact h'
 |ag=>obtain⟨n,rfl,h'⟩:=ahX h;exact h'
 |raw=>exact h
def zu:∀{ks:List K} {l:List Value} {c:KT ks->Prop},qW ks l c->∃x,l=dL ks x/\c x
 |[],[],c,h=>⟨(),rfl,h⟩
 |[],_::_,c,h=>h.elim
 |[k],[v],c,h=>by obtain⟨x,rfl,a⟩:=Wx h;exact⟨x,rfl,a⟩
 |[k],[],c,h=>h.elim
 |[k],_::_::_,c,h=>h.elim
 |k::(y::r),v::vs,c,h=>by
  obtain⟨x,rfl,h'⟩:=Wx h;obtain⟨xs,rfl,a⟩:=zu h';exact⟨(x,xs),rfl,a⟩
 |k::(y::r),[],c,h=>h.elim
variable{P:Program}{t:TypeId}
variable{y0:Value->Prop}
def Cw(h:Yp P t v y0):y0 v:=by
 unfold Yp at h;split at h
 .exact SR h
 .unfold Is toT at h;split at h
  .obtain⟨x,b,a⟩:=zu h;rw[<-b]at a;exact a
  .exact h.elim
variable{op:BinOp}{y:Operand}
def adS(d:∀c,v≠ .agg c)(h2:v≠ .nilIface):(eqGuard op t x y v zd).run P w= .ok () w:=by
 cases v with
 |agg c=>exact absurd rfl (d c)
 |nilIface=>exact absurd rfl h2
 |_=>cases op<;>rfl
variable{o:Oper}{yt:TypeId}
def Qz(b:o.op= .binOp op t x y yt)
  (d:∀c,a.eval x≠ .agg c) (h2:a.eval x≠ .nilIface) (h:(binOp op t (a.eval x) (a.eval y)).run P w= .ok v w):(execOp a.eval o).run P w= .ok (.value v) w:=by
 simp only[execOp,b,cR,adS d h2,cK,h,cP]
variable{k k':IntKind}{m n:Int}
theorem abx(a:k=k')(hq:n≠0\/(op≠ .quo/\op≠ .rem))(h:afP op k m n=some v):
  (binOp op t (.int k m) (.int k' n)).run P w= .ok v w:=by
 subst a;cases op<;>simp only[afP,Option.some.injEq,reduceCtorEq]at h<;>subst h<;>
  first
  |(simp[binOp,Op.intArith];done)
  |(simp[binOp,Op.intBits,oH,Ti,JV,tU];done)
  |(simp[binOp,Op.intCmp];done)
  |(have b:n≠0:=by grind
    simp[binOp,Op.intDiv,b,Wf,abl])
def MU(b:0<=n):
  (op= .shl->(binOp op t (.int k m) (.int k' n)).run P w= .ok (.int k (sD k m n)) w)/\
  (op= .shr->(binOp op t (.int k m) (.int k' n)).run P w= .ok (.int k (IR k m n)) w):=by
 have a:¬n<0:=af;constructor<;>intro h<;>subst h<;>simp[binOp,Op.shift,a,sD,IR]
variable{d:TypeDesc}
def jr(h:P.underlying t=some d):(underlying t).run P w= .ok d w:=run_underlying h w
def vS{k:K}(h:rX P t=k)(f:k≠ .raw):∃d,P.underlying t=some d/\(match k with
  | .i k=>d= .int k| .a=>False| .b=>d= .bool| .str=>d= .string| .p=> ∃e,d= .pointer e| .s=> ∃e,d= .slice e| .m=> ∃x y,d= .map x y
  | .ag=>(∃fs,d= .struct fs)\/(∃n e,d= .array n e)| .raw=>False):=by
 unfold rX at h;split at h<;>subst h<;>first|exact absurd rfl f|(rename_i c;exact⟨_,c,rfl⟩)|(rename_i c;exact⟨_,c,_,rfl⟩)|(rename_i c;exact⟨_,c,_,_,rfl⟩)|(rename_i c;exact⟨_,c,.inl ⟨_,rfl⟩⟩)|(rename_i c;exact⟨_,c,.inr ⟨_,_,rfl⟩⟩)
variable{y1:Bool}
def akp(d:Nat)(h:P.underlying t=some .bool):(Op.equalIn (d+1) t (.bool y1) (.bool b)).run P w= .ok (y1==b) w:=by
 simp only[Op.equalIn,cR,jr h,cK,cP]
variable{a:Option Addr}{e:TypeId}
def aom(d:Nat)(h:P.underlying t=some (.pointer e)):(Op.equalIn (d+1) t (.pointer a) (.pointer none)).run P w= .ok a.isNone w:=by
 cases a<;>simp only[Op.equalIn,cR,jr h,cK,cP,eA]
variable{y2:Nat}
def ahY{n' c':Nat}(d:Nat)(h:P.underlying t=some (.slice e)):(Op.equalIn (d+1) t (.slice a g y2) (.slice none n' c')).run P w= .ok a.isNone w:=by
 cases a<;>simp only[Op.equalIn,cR,jr h,cK,cP,eA]
variable{y3:Option Nat}
def aon(d:Nat)(h:P.underlying t=some (.map e yt)):(Op.equalIn (d+1) t (.map y3) (.map none)).run P w= .ok y3.isNone w:=by
 cases y3<;>simp only[Op.equalIn,cR,jr h,cK,cP,eA]
variable{x y:Value}
def aa5
  (d:∀(op:BinOp),op= .eql->binOp op t x y=(do pure (.bool (<-Op.equal t x y)))) (a:∀(op:BinOp),op= .neq->binOp op t x y=(do pure (.bool (!(<-Op.equal t x y)))))
  (c:(Op.equal t x y).run P w= .ok b w) (h:Qt op b=some v):(binOp op t x y).run P w= .ok v w:=by
 cases op<;>simp only[Qt,Option.some.injEq,reduceCtorEq]at h<;>subst h
 .rw[d _ rfl];simp[c]
 .rw[a _ rfl];simp[c]
def akq(i:∀k m k' n,x= .int k m->y= .int k' n->(n≠0\/(op≠ .quo/\op≠ .rem))/\(0<=n\/(op≠ .shl/\op≠ .shr)))
  (h:afQ P op t x y=some v):(binOp op t x y).run P w= .ok v w/\(∀c,x≠ .agg c)/\x≠ .nilIface:=by
 unfold afQ at h;split at h
 .split at h
  .rename_i k m k' n;obtain⟨j,h2⟩:=i _ _ _ _ rfl rfl;refine⟨?_,λc=>by simp,bf⟩
   split at h
   .cases h;exact(MU (by rcases h2 with h|h<;>simp_all)).1 rfl
   .cases h;exact(MU (by rcases h2 with h|h<;>simp_all)).2 rfl
   .split at h
    .rename_i f;exact abx f j h
    .cases h
  .cases h
 .rename_i f;obtain⟨d,g,rfl⟩:=vS f bf;split at h
  .rename_i a b;refine⟨aa5 (λop e=>by subst e;rfl) (λop e=>by subst e;rfl) (akp 9999 g) h,λc=>by simp,bf⟩
  .cases h
 .rename_i f;split at h
  .rename_i a b;refine⟨?_,λc=>by simp,bf⟩
   cases op<;>simp only[amE,Wm,Option.some.injEq,reduceCtorEq]at h<;>subst h<;>simp[binOp,Op.stringOp]
  .cases h
 .rename_i f;obtain⟨d,g,e,rfl⟩:=vS f bf;split at h
  .rename_i a;refine⟨aa5 (λop e=>by subst e;rfl) (λop e=>by subst e;rfl) (aom 9999 g) h,λc=>by simp,bf⟩
  .cases h
 .rename_i f;obtain⟨d,g,e,rfl⟩:=vS f bf;split at h
  .rename_i a _ _ _ _;refine⟨aa5 (λop e=>by subst e;rfl) (λop e=>by subst e;rfl) (ahY 9999 g) h,λc=>by simp,bf⟩
  .cases h
 .rename_i f;obtain⟨d,g,e,e',rfl⟩:=vS f bf;split at h
  .rename_i a;refine⟨aa5 (λop e=>by subst e;rfl) (λop e=>by subst e;rfl) (aon 9999 g) h,λc=>by simp,bf⟩
  .cases h
 .cases h
def aoo{op:UnOp}(h:aqX op x=some v):(Op.unary op x).run P w= .ok v w:=by
 unfold aqX at h;split at h<;>(first|cases h|skip)<;>simp[Op.unary,Op.intArith,Op.intBits,JV]
variable{a:Act}
variable{yi:Operand}
def awL(b:a.eval yi= .int k n):(amB yi=false->n≠0)/\(aa1 yi=false->0<=n):=by
 constructor<;>intro h<;>(first|unfold amB at h|unfold aa1 at h)<;>split at h<;>simp_all[Act.eval]
variable{ts:Array TypeId}
def Uy{b:Builtin}{args:Array Operand}(c:o.op= .call {callee:= .builtin b,args,argTypes:=ts}):
  ∃cs,(execOp a.eval o).run P w=(builtin b ts o.type cs (args.map a.eval)).run P w:=by
 simp only[execOp,c,resolve,cR,cP,cK,invoke];exact⟨_,rfl⟩
theorem aby{k:K}(h:amD P ts=k)(a:k≠ .raw):∃t,ts[0]?=some t/\rX P t=k:=by
 unfold amD at h;grind
def aAD(h:rX P t= .s):∃e,P.underlying t=some (.slice e):=by
 obtain⟨d,a,e,rfl⟩:=vS h bf;exact⟨e,a⟩
def aqZ(h:rX P t= .str):P.underlying t=some .string:=by
 obtain⟨d,a,rfl⟩:=vS h bf;exact a
def amL(h:rX P t= .i k):P.underlying t=some (.int k):=by
 obtain⟨d,a,rfl⟩:=vS h bf;exact a
def QA(hρ:uV ρ a)(l:Cf P o.op=true)(h:aa2 P o.op ρ=some v)(w:World):
  (execOp a.eval o).run P w= .ok (.value v) w:=by
 unfold aa2 at h;split at h
 iterate 2 rename_i x f;simp only[execOp,f,hρ _ _ h,cP]
 .rename_i x i f;split at h
  .rename_i vs g;have h':vs[i]?=some v:=by simpa using h
   simp only[execOp,f,hρ _ _ g,Instr.extract,h',cR,cP,cK]
  .cases h
 .rename_i fn first captured f
  split at h
  .rename_i xs ys g C;cases h
   simp only[execOp,f,Instr.makeFunc,tR hρ g,tR hρ C,cR,cP,cK]
  .cases h
 .rename_i op t x y yt f;split at h
  .rename_i F H g C;have p:=hρ _ _ g;have u:=hρ _ _ C;have D:∀k m k' n,F= .int k m->H= .int k' n->(n≠0\/(op≠ .quo/\op≠ .rem))/\(0<=n\/(op≠ .shl/\op≠ .shr)):=by
    intro k m k' n I e2;subst I;subst e2;have r:=awL u;unfold afQ at h;split at h
    .rename_i kk j;rw[f]at l;simp only[Cf,j,ahU]at l;cases op<;>simp_all[ahT]
    iterate 6 simp at h
   have:=akq (w:=w) D h;exact Qz f (by rw[p];exact this.2.1) (by rw[p];exact this.2.2) (by rw[p,u];exact this.1)
  .cases h
 .rename_i op t x f;split at h
  .rename_i F g;have:=aoo (P:=P) (w:=w) h;simp only[execOp,f,hρ _ _ g,this,cR,cP,cK]
  .cases h
 .rename_i s d x f;split at h
  .rename_i kk n k g j;cases h
   rw[f]at l;simp only[Cf,iY]at l;cases hs:rX P s<;>simp[hs,isI]at l
   simp only[execOp,f,hρ _ _ g,convert,cR,jr (amL hs),jr (amL j),cK,Conv.intToInt,cP]
  .cases h
 .rename_i G f;split at h
  .rename_i b z;have J:o.op= .call {callee:= .builtin b,args:=G.args,argTypes:=G.argTypes}:=by rw[f,<-z]
   obtain⟨cs,K⟩:=Uy J;rw[K];rw[f]at l;simp only[Cf,z]at l;unfold evB at h;split at h
   .rename_i base n c j r;obtain⟨t,A,q⟩:=aby j bf;obtain⟨e,B⟩:=aAD q;rw[tR hρ r];split at h
    .rename_i hb;cases b<;>simp only[isLen,Bool.false_eq_true]at hb
     cases h
     simp[builtin,Builtin.len_,A,jr B,goInt]
    .split at h
     .rename_i hb;cases b<;>simp only[akj,Bool.false_eq_true]at hb
      cases h
      simp[builtin,Builtin.cap_,A,jr B,goInt]
     .cases h
   .rename_i s j r;obtain⟨t,A,q⟩:=aby j bf;have B:=aqZ q;rw[tR hρ r];split at h
    .rename_i hb;cases b<;>simp only[isLen,Bool.false_eq_true]at hb
     cases h
     simp[builtin,Builtin.len_,A,jr B,goInt]
    .cases h
   .rename_i kk k x L y j r;rw[tR hρ r];cases b<;>simp only[Option.some.injEq,reduceCtorEq]at h<;>subst h
    .simp[builtin,Builtin.max_,Builtin.max2,ZR]
    .simp[builtin,Builtin.min_,Builtin.min2,Wg]
   .cases h
  .cases h
 .cases h
variable{i:TypeInfo}
def run_sizeOf(h:P.info? t=some i):(sizeOf t).run P w= .ok i.size w:=by
 simp[sizeOf,typeInfo,h]
theorem abz(h:iB P t≠0):∃i,P.info? t=some i/\i.size=iB P t:=by
 unfold iB at*
 grind
def abA(h:P.info? t=some i):iB P t=i.size:=by simp[iB,h]
def abB(a:rX P t= .ag):(isAgg t).run P w= .ok true w:=by
 obtain⟨d,b,h⟩:=vS a bf;unfold isAgg;rcases h with⟨fs,rfl⟩|⟨n,e,rfl⟩<;>simp only[cR,jr b,cK,cP]
def Yr(a:P.underlying t=some d)(b:rX P t≠ .ag):(isAgg t).run P w= .ok false w:=by
 unfold isAgg;simp only[cR,jr a,cK];cases d<;>first|rfl|(exact absurd (by simp[rX,a]) b)
def uq(hs:iB P t≠0)(w:World):(sizeOf t).run P w= .ok (iB P t) w:=by
 obtain⟨i,hi,a⟩:=abz hs;rw[run_sizeOf hi,a]
def vT{c:BoundsCode}(h:0<=m/\m<=g):(Instr.sliceBound (.int k m) g c).run P w= .ok m.toNat w:=by
 simp[Instr.sliceBound,asIntOf,h.1,h.2]
variable{cap:Nat}{h l:Int}{hi lo:Value}{kh kl:IntKind}
def U5(a:lo= .int kl l)(c:hi= .int kh h)(d:0<=h/\h<=cap)(h2:0<=l/\l<=h):
  (Instr.sliceBounds b g cap (some lo) (some hi) none).run P w= .ok (l.toNat,h.toNat,cap) w:=by
 subst a;subst c;have e:0<=l/\l<=(h.toNat:Int):=af;simp only[Instr.sliceBounds,cR,cP,cK,vT d,vT e]
def Ys(a:hi= .int kh h)(c:0<=h/\h<=cap):
  (Instr.sliceBounds b g cap none (some hi) none).run P w= .ok (0,h.toNat,cap) w:=by
 subst a;simp only[Instr.sliceBounds,cR,cP,cK,vT c]
def Yt(a:lo= .int kl l)(h2:0<=l/\l<=g):
  (Instr.sliceBounds b g cap (some lo) none none).run P w= .ok (l.toNat,g,cap) w:=by
 subst a;simp only[Instr.sliceBounds,cR,cP,cK,vT h2]
def MV:(Instr.sliceBounds b g cap none none none).run P w= .ok (0,g,cap) w:=by
 simp only[Instr.sliceBounds,cR,cP,cK]
variable{km:IntKind}{mx:Value}
def ahZ(a:lo= .int kl l)(c:hi= .int kh h)(d:mx= .int km m)
  (e:0<=m/\m<=cap) (i:0<=h/\h<=m) (h2:0<=l/\l<=h):
  (Instr.sliceBounds b y2 cap (some lo) (some hi) (some mx)).run P w= .ok (l.toNat,h.toNat,m.toNat) w:=by
 subst a;subst c;subst d;have f:0<=l/\l<=(h.toNat:Int):=af;have g:0<=h/\h<=(m.toNat:Int):=af;simp only[Instr.sliceBounds,cR,cP,cK,vT e,vT g,vT f]
def akr(a:hi= .int kh h)(c:mx= .int km m)
  (d:0<=m/\m<=cap) (f:0<=h/\h<=m):
  (Instr.sliceBounds b g cap none (some hi) (some mx)).run P w= .ok (0,h.toNat,m.toNat) w:=by
 subst a;subst c;have e:0<=h/\h<=(m.toNat:Int):=af;simp only[Instr.sliceBounds,cR,cP,cK,vT d,vT e]
variable{h l m:Nat}{hi lo mx:Option Value}
variable{yk:Option Addr}
def xM(b:P.underlying t=some (.slice e))(hs:iB P e≠0)
  (hb:(Instr.sliceBounds true g cap lo hi mx).run P w= .ok (l,h,m) w):
  (Instr.sliceAt t (.slice yk g cap) lo hi mx).run P w= .ok (.slice (if m=l then yk else yk.map (·.add (l*iB P e))) (h - l) (m - l)) w:=by
 simp only[Instr.sliceAt,Instr.slice,cR,jr b,cK,hb,uq hs,cP]
variable{n:Nat}
variable{yr:Addr}
def DF(b:P.underlying t=some (.array n e))(hs:iB P e≠0)
  (hb:(Instr.sliceBounds false n n lo hi mx).run P w= .ok (l,h,m) w):
  (Instr.sliceAt t (.pointer (some yr)) lo hi mx).run P w= .ok (.slice (some (if m=l then yr else yr.add (l*iB P e))) (h - l) (m - l)) w:=by
 simp only[Instr.sliceAt,cR,jr b,cK,Instr.sureAddr,hb,uq hs,cP]
def DG{s:ByteArray}(a:P.underlying t=some .string)
  (hb:(Instr.sliceBounds false s.size s.size lo hi none).run P w= .ok (l,h,m) w):
  (Instr.sliceAt t (.string s) lo hi none).run P w= .ok (.string (s.extract l h)) w:=by
 simp only[Instr.sliceAt,Instr.slice,cR,jr a,cK,hb,cP,Option.isSome_none,Bool.false_eq_true,if_false]
variable{hi lo mx:Option Operand}{x:Operand}
def zv(b:o.op= .slice t x lo hi mx)
  (h:(Instr.sliceAt t (a.eval x) (lo.map a.eval) (hi.map a.eval) (mx.map a.eval)).run P w= .ok v w):(execOp a.eval o).run P w= .ok (.value v) w:=by
 simp only[execOp,b,cR,h,cK,cP]
theorem afZ(hρ:uV ρ a)(r:o.op= .slice t x lo hi mx)
  (h:tu P (.slice t x lo hi mx) ρ y0):∃v,y0 v/\∀w,(execOp a.eval o).run P w= .ok (.value v) w:=by
 unfold tu at h;dsimp only at h;split at h
 .rename_i base n k e kl l z g b;have f:=hρ _ _ z;split at h
  .exact h.elim
  rename_i hs;split at h
  .obtain⟨u,i⟩:=h;refine⟨_,i,λw=>zv r ?_⟩;rw[f];cases lo with
   |none=>
    simp only[Option.some.injEq,Value.int.injEq]at b;obtain⟨_,rfl⟩:=b;exact xM g hs MV
   |some y=>exact xM g hs (Yt (hρ _ _ b) u)
  .rename_i B;split at h
   .rename_i kh hv d;obtain⟨j,h2,i⟩:=h;refine⟨_,i,λw=>zv r ?_⟩;rw[f];cases lo with
    |none=>
     simp only[Option.some.injEq,Value.int.injEq]at b;obtain⟨_,rfl⟩:=b;exact xM g hs (Ys (hρ _ _ d) j)
    |some y=>exact xM g hs (U5 (hρ _ _ b) (hρ _ _ d) j h2)
   .exact h.elim
  .rename_i D B;split at h
   .rename_i kh hv km F d A;obtain⟨C,j,h2,i⟩:=h;refine⟨_,i,λw=>zv r ?_⟩;rw[f];cases lo with
    |none=>
     simp only[Option.some.injEq,Value.int.injEq]at b;obtain⟨_,rfl⟩:=b;exact xM g hs (akr (hρ _ _ d) (hρ _ _ A) C j)
    |some y=>exact xM g hs (ahZ (hρ _ _ b) (hρ _ _ d) (hρ _ _ A) C j h2)
   .exact h.elim
  .exact h.elim
 .rename_i s kl l z g b;have f:=hρ _ _ z;split at h
  .obtain⟨j,h2,i⟩:=h;rw[iZ]at i;refine⟨_,i,λw=>zv r ?_⟩;rw[f];cases lo with
   |none=>
    simp only[Option.some.injEq,Value.int.injEq]at b;obtain⟨_,rfl⟩:=b;exact DG g MV
   |some y=>exact DG g (Yt (hρ _ _ b) h2)
  .rename_i B;split at h
   .rename_i kh hv d;obtain⟨j,h2,i⟩:=h;refine⟨_,i,λw=>zv r ?_⟩;rw[f];cases lo with
    |none=>
     simp only[Option.some.injEq,Value.int.injEq]at b;obtain⟨_,rfl⟩:=b;exact DG g (Ys (hρ _ _ d) j)
    |some y=>exact DG g (U5 (hρ _ _ b) (hρ _ _ d) j h2)
   .exact h.elim
  .exact h.elim
 .rename_i p n e kl l z g b;have f:=hρ _ _ z;have q:∀(m l sz:Nat),(if m=l then some p else(some p:Option Addr).map (·.add (l*sz)))=some (if m=l then p else p.add (l*sz)):=by grind
  split at h
  .exact h.elim
  rename_i hs;split at h
  .obtain⟨u,i⟩:=h;rw[q]at i;refine⟨_,i,λw=>zv r ?_⟩;rw[f];cases lo with
   |none=>
    simp only[Option.some.injEq,Value.int.injEq]at b;obtain⟨_,rfl⟩:=b;exact DF g hs MV
   |some y=>exact DF g hs (Yt (hρ _ _ b) u)
  .rename_i B;split at h
   .rename_i kh hv d;obtain⟨j,h2,i⟩:=h;rw[q]at i;refine⟨_,i,λw=>zv r ?_⟩;rw[f];cases lo with
    |none=>
     simp only[Option.some.injEq,Value.int.injEq]at b;obtain⟨_,rfl⟩:=b;exact DF g hs (Ys (hρ _ _ d) j)
    |some y=>exact DF g hs (U5 (hρ _ _ b) (hρ _ _ d) j h2)
   .exact h.elim
  .exact h.elim
 .exact h.elim
variable{cs:Array Value}
def Dd(a:P.underlying t=some d)(b:rX P t≠ .ag)(h:cs[g]?=some v):(part t cs g).run P w= .ok v w:=by
 simp only[part,cR,Yr a b,cK,Bool.false_eq_true,if_false,h,cP]
def MW(a:rX P t= .ag)(hs:iB P t≠0):(part t cs g).run P w= .ok (.agg (cs.extract g (g+iB P t))) w:=by
 simp only[part,cR,abB a,cK,if_true,uq hs,cP]
def tW(h:rX P t≠ .raw):∃d,P.underlying t=some d:=by
 obtain⟨d,a,_⟩:=vS rfl h;exact⟨d,a⟩
theorem ah0(h:Qq cs g y0):∃v,cs[g]?=some v/\y0 v:=by
 unfold Qq at h;grind
def af0{f:Nat}(hρ:uV ρ a)(i:o.op= .field t x f)
  (h:tu P (.field t x f) ρ y0):∃v,y0 v/\∀w,(execOp a.eval o).run P w= .ok (.value v) w:=by
 unfold tu at h;dsimp only at h;split at h
 .rename_i cs g j b;have e:=hρ _ _ j;unfold Wl at b;split at b
  .rename_i fs l;have key:∀v,(∀w,(part g.type cs g.offset).run P w= .ok v w)->∀w,(execOp a.eval o).run P w= .ok (.value v) w:=by
    intro v hv w;simp only[execOp,i,Instr.field,cR,jr l,cK,b,e,asAgg,cP,hv]
   split at h
   .rename_i m;split at h
    .exact h.elim
    .rename_i hs;exact⟨_,h,key _ λw=>MW m hs⟩
   .exact h.elim
   .rename_i k n p;obtain⟨v,hv,q⟩:=ah0 h;obtain⟨d,r⟩:=tW p;exact⟨v,SR q,key _ λw=>Dd r n hv⟩
  .cases b
 .exact h.elim
def Yu{f:Nat}(hρ:uV ρ a)(e:o.op= .fieldAddr t x f)
  (h:tu P (.fieldAddr t x f) ρ y0):∃v,y0 v/\∀w,(execOp a.eval o).run P w= .ok (.value v) w:=by
 unfold tu at h;dsimp only at h;split at h
 .rename_i p j g b;have d:=hρ _ _ g;unfold Wl at b;split at b
  .rename_i fs i;split at h
   .exact h.elim
   .rename_i hs;refine⟨_,h,λw=>?_⟩;simp only[execOp,e,Instr.fieldAt,cR,jr i,cK,b,d,Instr.sureAddr,cP,fieldPlace,uq hs,hs,if_false]
  .cases b
 .exact h.elim
variable{i:Operand}
def Yv(hρ:uV ρ a)(l:o.op= .indexAddr t x i)
  (h:tu P (.indexAddr t x i) ρ y0):∃v,y0 v/\∀w,(execOp a.eval o).run P w= .ok (.value v) w:=by
 unfold tu at h;dsimp only at h;split at h
 .rename_i base n k u m e q hi f;have d:=hρ _ _ q;have b:=hρ _ _ hi;split at h
  .exact h.elim
  rename_i hs;unfold cN at h;cases base with
  |none=>exact h.elim
  |some p=>
   obtain⟨hb,r⟩:=h;refine⟨_,r,λw=>?_⟩;simp only[execOp,l,Instr.indexAt,d,b,asIntOf,cR,cP,cK,jr f,hb,and_self,if_true,uq hs]
 .rename_i p u m n e q hi f;have d:=hρ _ _ q;have b:=hρ _ _ hi;split at h
  .exact h.elim
  rename_i hs;split at h
  .rename_i j g;split at h
   .rename_i y;have s:m=(j:Int):=by
     unfold amC at g;split at g
     .cases g
      have:Value.int u m=_:=b.symm;cases this
      rfl
     .cases g
    subst s;refine⟨_,h,λw=>?_⟩;have hb:0<=(j:Int)/\(j:Int)<n:=af;simp only[execOp,l,Instr.indexAt,d,b,asIntOf,cR,cP,cK,jr f,hb,and_self,if_true,uq hs,Instr.sureAddr,iZ]
   .exact h.elim
  .obtain⟨hb,r⟩:=h;refine⟨_,r,λw=>?_⟩;simp only[execOp,l,Instr.indexAt,d,b,asIntOf,cR,cP,cK,jr f,hb,and_self,if_true,uq hs,Instr.sureAddr]
 .exact h.elim
def af1(hρ:uV ρ a)(m:o.op= .index t x i)
  (h:tu P (.index t x i) ρ y0):∃v,y0 v/\∀w,(execOp a.eval o).run P w= .ok (.value v) w:=by
 unfold tu at h;dsimp only at h;split at h
 .rename_i cs p q n e j hi l;have f:=hρ _ _ j;have g:=hρ _ _ hi;split at h
  iterate 2 exact h.elim
  .rename_i k r u;split at h
   .rename_i hs;obtain⟨hb,h⟩:=h;obtain⟨v,hv,y⟩:=ah0 h;obtain⟨d,z⟩:=tW u;refine⟨v,SR y,λw=>?_⟩;simp only[execOp,m,Instr.index,f,g,asIntOf,cR,cP,cK,jr l,hb,and_self,if_true,uq (by rw[hs];simp:iB P e≠0),hs,Nat.mul_one,Dd z r hv]
   .exact h.elim
 .rename_i s p q j hi l;have f:=hρ _ _ j;have g:=hρ _ _ hi;obtain⟨A,h⟩:=h;split at h
  .rename_i b hb;refine⟨_,h,λw=>?_⟩;simp only[execOp,m,Instr.index,f,g,asIntOf,cR,cP,cK,jr l,A,if_true,hb]
  .exact h.elim
 .exact h.elim
def akt(hρ:uV ρ a)(d:o.op= .nilCheck x)
  (h:tu P (.nilCheck x) ρ y0):∃v,y0 v/\∀w,(execOp a.eval o).run P w= .ok (.value v) w:=by
 unfold tu at h;dsimp only at h;split at h
 .rename_i v e;have b:=hρ _ _ e;unfold nnV at h;split at h
  .rename_i p;unfold nn at h;cases p with
   |none=>exact h.elim
   |some p=>exact⟨_,h,λw=>by simp only[execOp,d,b,cP]⟩
  .exact⟨_,h,λw=>by simp only[execOp,d,b,cP]⟩
  .exact h.elim
 .exact h.elim
def af2(hρ:uV ρ a)(f:o.op= .makeInterface t x)
  (h:tu P (.makeInterface t x) ρ y0):∃v,y0 v/\∀w,(execOp a.eval o).run P w= .ok (.value v) w:=by
 unfold tu at h;dsimp only at h;split at h
 .exact h.elim
 .rename_i b;split at h
  .rename_i v g;obtain⟨d,e⟩:=tW b;refine⟨_,h,λw=>?_⟩;simp only[execOp,f,hρ _ _ g,Instr.makeInterface,cR,jr e,cK];cases d<;>first|rfl|(exact absurd (by simp[rX,e]) b)
  .exact h.elim
def IT{xs ys:Array Value}:∀{m l:List (Nat×Nat)} {r:Bool},oZ xs ys (m++l)=some r->∃c d,oZ xs ys m=some c/\oZ xs ys l=some d/\r=(c&&d)
 |[],l,r,h=>⟨true,r,rfl,h,bf⟩
 |(o,k)::m,l,r,h=>by
  rw[List.cons_append,oZ]at h;split at h
  .rename_i a b f hb;split at h
   .rename_i q i hq e;cases h
    obtain⟨c,d,g,h2,rfl⟩:=IT e;exact⟨q&&c,d,by simp[oZ,f,hb,hq,g],h2,by simp[Bool.and_assoc]⟩
   .cases h
  .cases h
theorem OQ{xs ys:Array Value}{off sz:Nat}:∀{m:List (Nat×Nat)} {r:Bool},m.all (λx=>Nat.blt x.1 sz)=true->oZ xs ys (m.map λx=>(x.1+off,x.2))=some r->
  oZ (xs.extract off (off+sz)) (ys.extract off (off+sz)) m=some r
 |[],r,_,h=>h
 |(o,k)::m,r,hm,h=>by
  simp only[List.all_cons,iY]at hm;have f:o<sz:=by simp_all
  simp only[List.map_cons,oZ]at h ⊢;split at h
  .rename_i a b g hb;have c:(xs.extract off (off+sz))[o]?=some a:=by
    grind
   have d:(ys.extract off (off+sz))[o]?=some b:=by grind
   simp only[c,d];split at h
   .rename_i q i hq e;cases h
    simp[hq,OQ hm.2 e]
   .cases h
  .cases h
def Go.Op.IG(d:Nat)(e:TypeId)(n:Nat)(xs ys:Array Value):Nat->Nat->Sem Bool
 |_,0=>pure true
 |i,k+1=>do
  let a<-part e xs (i*n)
  let b<-part e ys (i*n)
  let r<-Op.equalIn d e a b
  if (!r)=true then pure false else Go.Op.IG d e n xs ys (i+1) k
def run_equalIn_array(w:World)(d:Nat)(t e:TypeId)(len:Nat)(xs ys:Array Value)(c:P.underlying t=some (.array len e)){i:TypeInfo}(hi:P.info? e=some i):
  (Op.equalIn (d+1) t (.agg xs) (.agg ys)).run P w=(Go.Op.IG d e i.size xs ys 0 len).run P w:=by
 simp only[Op.equalIn,cR,run_underlying c,cK,run_sizeOf hi];rw[Std.Legacy.Range.forIn_eq_forIn_range'];simp only[Std.Legacy.Range.size,Nat.sub_zero,Nat.add_sub_cancel,Nat.div_one];clear c;generalize 0=s;induction len generalizing s w with
 |zero=>simp[Go.Op.IG]
 |succ len ih=>
  simp only[List.range'_succ,List.forIn_cons,Go.Op.IG,cR,Sem.run_ite];generalize (part e xs (s*i.size)).run P w=r1;cases r1 with
  |ok a w1=>
   simp only[cK];generalize (part e ys (s*i.size)).run P w1=r2;cases r2 with
   |ok b w2=>
    simp only[cK];generalize (Op.equalIn d e a b).run P w2=f;cases f with
    |ok r w3=>
     cases r
     .simp only[cK,Bool.not_false,if_true,cP]
     .simp only[cK,Bool.not_true,Bool.false_eq_true,if_false,cP];exact ih w3 (s+1)
    |halt x w3=>simp[Result.andThen]
   |halt x w2=>simp[Result.andThen]
  |halt x w1=>simp[Result.andThen]
def af3(P:Program)(D:Nat)(t:TypeId)(m:List (Nat×Nat)):Prop:=
 ∀(w:World) (xs ys:Array Value) (off:Nat) (r:Bool),m.all (λx=>Nat.blt x.1 (iB P t))=true->oZ xs ys (m.map λx=>(x.1+off,x.2))=some r->
  ∃vx vy,(part t xs off).run P w= .ok vx w/\(part t ys off).run P w= .ok vy w/\(Op.equalIn D t vx vy).run P w= .ok r w
def Uz{P:Program}{D:Nat}{rec:TypeId->Option (List (Nat×Nat))}(Ka:∀t m,rec t=some m->af3 P D t m):
  ∀(fs:List Field) (os:List (Nat×Nat)) (w:World) (xs ys:Array Value) (r:Bool),Qr P rec fs=some os->oZ xs ys os=some r->(Op.eqFields D xs ys fs).run P w= .ok r w
 |[],os,w,xs,ys,r,h,he=>by
  simp only[Qr,Option.some.injEq]at h;subst h;simp only[oZ,Option.some.injEq]at he;subst he;rfl
 |f::fs,os,w,xs,ys,r,h,he=>by
  unfold Qr at h;split at h
  .cases h
  .rename_i hn;have hn':f.name≠ "_" :=by simpa using hn
   split at h
   .rename_i m l hm hl;split at h
    .rename_i lG;cases h
     obtain⟨r1,r2,h1,h2,rfl⟩:=IT he;obtain⟨vx,vy,hx,hy,hq⟩:=Ka _ _ hm w xs ys f.offset r1 lG h1;have ih:=Uz Ka fs l w xs ys r2 hl h2;unfold Op.eqFields;rw[if_pos hn'];simp only[Sem.run_bind,hx,hy,hq,Result.andThen_ok,Sem.run_ite,ih,Sem.run_pure];cases r1<;>simp
    .cases h
   .cases h
def WB{P:Program}{D:Nat}{e:TypeId}{m:List (Nat×Nat)}(a:af3 P D e m)(b:m.all (λx=>Nat.blt x.1 (iB P e))=true):
  ∀(n s:Nat) (w:World) (xs ys:Array Value) (r:Bool),oZ xs ys (Qs (iB P e) m s n)=some r->(Go.Op.IG D e (iB P e) xs ys s n).run P w= .ok r w
 |0,s,w,xs,ys,r,he=>by
  simp only[Qs,oZ,Option.some.injEq]at he;subst he;rfl
 |n+1,s,w,xs,ys,r,he=>by
  unfold Qs at he;obtain⟨c,d,f,h2,rfl⟩:=IT he;obtain⟨k,l,g,i,hq⟩:=a w xs ys (s*iB P e) c b f;have j:=WB a b n (s+1) w xs ys d h2;unfold Go.Op.IG;simp only[cR,g,i,hq,cK,Sem.run_ite,j,cP];cases c<;>simp
def WC{fs:Array Field}(h:P.underlying t=some (.struct fs)):P.fieldsOf t=fs:=by simp[Program.fieldsOf,h]
theorem af4{P:Program}:∀(d:Nat) (t:TypeId) (m:List (Nat×Nat)),Gk P d t=some m->∀D,d<=D->
  af3 P D t m/\(rX P t= .ag->∀(w:World) (xs ys:Array Value) (r:Bool),oZ xs ys m=some r->(Op.equalIn D t (.agg xs) (.agg ys)).run P w= .ok r w)
 |0,t,m,h,_,_=>by simp[Gk]at h
 |d+1,t,m,h,D,hD=>by
  obtain⟨D,rfl⟩:∃u,D=u+1:=⟨D - 1,af⟩;have j:rX P t= .ag->∀(w:World) (xs ys:Array Value) (r:Bool),oZ xs ys m=some r->(Op.equalIn (D+1) t (.agg xs) (.agg ys)).run P w= .ok r w:=by
   intro g w xs ys r f;unfold Gk at h;split at h
   iterate 3 rename_i c;simp[rX,c]at g
   .rename_i fs c;split at h
    .cases h
    split at h
    .cases h
    .rename_i hs;have v:P.underlying t=some (.struct (P.fieldsOf t)):=by rw[WC c];exact c
     rw[run_equalIn_struct w D t xs ys v (gq hs),WC c]
     exact Uz (λt m o=>(af4 d t m o D af).1) _ _ w xs ys r h f
   .rename_i n e c;split at h
    .cases h
    split at h
    .cases h
    rename_i z;split at h
    .rename_i A o;split at h
     .rename_i p;cases h
      obtain⟨i,hi,q⟩:=abz z;rw[run_equalIn_array w D t e n xs ys c hi,q];exact WB (af4 d e A o D af).1 p n 0 w xs ys r f
     .cases h
    .cases h
   .cases h
  refine⟨?_,j⟩;intro w xs ys off r p f;by_cases g:rX P t= .ag
  .have hs:iB P t≠0:=by
    unfold Gk at h;split at h
    iterate 3 rename_i c;simp[rX,c]at g
    iterate 2 grind
    .cases h
   exact⟨_,_,MW g hs,MW g hs,j g w _ _ r (OQ p f)⟩
  .unfold Gk at h;split at h
   .rename_i kk c;cases h
    simp only[List.map_cons,List.map_nil,oZ,Nat.zero_add]at f;split at f
    .rename_i a b k hb;refine⟨a,b,Dd c g k,Dd c g hb,?_⟩;unfold eqC at f;cases a<;>cases b<;>simp at f
     rename_i s x B y;by_cases l:s=B
     .subst l;simp at f;subst f;exact run_equalIn_int w D t s kk x y c
     .simp[l]at f
    .cases f
   .rename_i c;cases h
    simp only[List.map_cons,List.map_nil,oZ,Nat.zero_add]at f;split at f
    .rename_i a b k hb;refine⟨a,b,Dd c g k,Dd c g hb,?_⟩;unfold eqC at f;cases a<;>cases b<;>simp at f
     subst f;exact run_equalIn_bool' w D t _ _ c
    .cases f
   .rename_i c;cases h
    simp only[List.map_cons,List.map_nil,oZ,Nat.zero_add]at f;split at f
    .rename_i a b k hb;refine⟨a,b,Dd c g k,Dd c g hb,?_⟩;unfold eqC at f;cases a<;>cases b<;>simp at f
     subst f;exact run_equalIn_string w D t _ _ c
    .cases f
   iterate 2 rename_i c;exact absurd (by simp[rX,c]) g
   .cases h
variable{t1:TypeId}{v1:Value}
def UA{ms}(a:P.underlying t=some (.interface ms)):(Op.equal t (.iface t1 v1) .nilIface).run P w= .ok false w:=by
 have key:∀d,(Op.equalIn (d+1) t (.iface t1 v1) .nilIface).run P w= .ok false w:=λd=>by simp[Op.equalIn,run_underlying a]
 exact key 9999
def UB{ms}(a:P.underlying t=some (.interface ms)):(Op.equal t .nilIface .nilIface).run P w= .ok true w:=by
 have key:∀d,(Op.equalIn (d+1) t .nilIface .nilIface).run P w= .ok true w:=λd=>by simp[Op.equalIn,run_underlying a]
 exact key 9999
variable{y:Operand}
def OR:(eqGuard op t x y (.iface t1 v1) .nilIface).run P w= .ok () w:=by
 unfold eqGuard;split<;>rfl
theorem OS(a:afN y=true):(eqGuard op t x y .nilIface .nilIface).run P w= .ok () w:=by
 have:y= .const .nilIface:=by
  unfold afN at a;grind
 subst this;unfold eqGuard;split<;>simp
def adT{ps rs v}(a:P.underlying t=some (.func ps rs v)):(Op.equal t .nilFunc .nilFunc).run P w= .ok true w:=by
 have key:∀d,(Op.equalIn (d+1) t .nilFunc .nilFunc).run P w= .ok true w:=λd=>by simp[Op.equalIn,run_underlying a]
 exact key 9999
variable{yv:Array Value}
def adU{f:Fn}{ps rs v}(a:P.underlying t=some (.func ps rs v)):(Op.equal t (.func f cs yv) .nilFunc).run P w= .ok false w:=by
 have key:∀d,(Op.equalIn (d+1) t (.func f cs yv) .nilFunc).run P w= .ok false w:=λd=>by simp[Op.equalIn,run_underlying a]
 exact key 9999
def ah1(hρ:uV ρ a)(i:o.op= .binOp op t x y yt)(f:afO y=true)
  (h:afR P op t (ρ x) y0):∃v,y0 v/\∀w,(execOp a.eval o).run P w= .ok (.value v) w:=by
 have e:a.eval y= .nilFunc:=by
  unfold afO at f;split at f
  .rfl
  .cases f
 unfold afR at h;cases hx:ρ x with
 |none=>rw[hx]at h;exact h.elim
 |some v=>
  have d:=hρ _ _ hx;rw[hx]at h;dsimp only at h;split at h
  .rename_i j;have key:∀b,(∀w,(Op.equal t v .nilFunc).run P w= .ok b w)->IS (Qt op b) y0->v≠ .nilIface->(∀z,v≠ .agg z)->∃v,y0 v/\∀w,(execOp a.eval o).run P w= .ok (.value v) w:=by
    intro b hb g k h2;cases op with
    |eql=>exact⟨_,g,λw=>Qz i (by rw[d];exact h2) (by rw[d];exact k) (by rw[d,e];simp only[binOp,cR,hb,cK,cP])⟩
    |neq=>exact⟨_,g,λw=>Qz i (by rw[d];exact h2) (by rw[d];exact k) (by rw[d,e];simp only[binOp,cR,hb,cK,cP])⟩
    |_=>exact g.elim
   unfold abm at h;split at h
   .exact key true (λw=>adT j) h bf bf
   .exact key false (λw=>adU j) h bf bf
   .exact h.elim
  .exact h.elim
def ah2(hρ:uV ρ a)(i:o.op= .binOp op t x y yt)
  (h:tu P (.binOp op t x y yt) ρ y0):∃v,y0 v/\∀w,(execOp a.eval o).run P w= .ok (.value v) w:=by
 unfold tu at h;dsimp only at h;split at h
 .exact ah1 hρ i (by assumption) h
 split at h
 .rename_i k m k' n f g;have d:=hρ _ _ f;have e:=hρ _ _ g;have key:∀v,(∀w,(binOp op t (.int k m) (.int k' n)).run P w= .ok v w)->∀w,(execOp a.eval o).run P w= .ok (.value v) w:=by
   intro v hv w;exact Qz i (by rw[d];intro y0;simp) (by rw[d];simp) (by rw[d,e];exact hv w)
  split at h
  .obtain⟨j,h⟩:=h;exact⟨_,h,key _ λw=>(MU j).1 rfl⟩
  .obtain⟨j,h⟩:=h;exact⟨_,h,key _ λw=>(MU j).2 rfl⟩
  .split at h
   .rename_i l;obtain⟨j,h⟩:=h;exact⟨_,h,key _ λw=>abx l (.inl j) rfl⟩
   .exact h.elim
  .split at h
   .rename_i l;obtain⟨j,h⟩:=h;exact⟨_,h,key _ λw=>abx l (.inl j) rfl⟩
   .exact h.elim
  .exact h.elim
 .rename_i s1 s2 f g;have d:=hρ _ _ f;have e:=hρ _ _ g;split at h
  .obtain⟨s,h⟩:=h;refine⟨_,h,λw=>Qz i (by rw[d];intro y0;simp) (by rw[d];simp) ?_⟩
   rw[d,e];have u:¬((s1.size+s2.size:Nat):Int)>IntKind.i64.max:=by simp_all
   simp only[binOp,Op.stringOp,u,if_false,cP]
  .exact h.elim
 .rename_i xs ys f g;have d:=hρ _ _ f;have e:=hρ _ _ g;split at h
  .exact h.elim
  rename_i z;have A:P.eqGuardType P.depth t=false:=gq z
  have key:∀v,(∀w,(binOp op t (.agg xs) (.agg ys)).run P w= .ok v w)->∀w,(execOp a.eval o).run P w= .ok (.value v) w:=by
   intro v hv w;simp only[execOp,i,cR,d,e,run_eqGuard_agg w op t x y xs ys A,cK,hv w,cP]
  split at h
  .rename_i l;split at h
   .rename_i os q;unfold Tj at h;split at h
    .rename_i b hb;have:=λw=>(af4 20 t os q 10000 af).2 l w xs ys b hb;refine⟨_,h,key _ λw=>?_⟩;rw[run_eql_struct,this w];rfl
    .exact h.elim
   .rename_i os q;unfold Tj at h;split at h
    .rename_i b hb;have:=λw=>(af4 20 t os q 10000 af).2 l w xs ys b hb;refine⟨_,h,key _ λw=>?_⟩;rw[run_neq_struct,this w];rfl
    .exact h.elim
   .exact h.elim
  .exact h.elim
 .rename_i t1 v1 f g;have d:=hρ _ _ f;have e:=hρ _ _ g;split at h
  .rename_i B p;split at h
   .refine⟨_,h,λw=>?_⟩;simp only[execOp,i,cR,d,e,OR,cK,binOp,UA p,cP]
   .refine⟨_,h,λw=>?_⟩;simp only[execOp,i,cR,d,e,OR,cK,binOp,UA p,cP,Bool.not_false]
   .exact h.elim
  .exact h.elim
 .rename_i f g;have d:=hρ _ _ f;have e:=hρ _ _ g;split at h
  .rename_i r;split at h
   .rename_i B p;split at h
    .refine⟨_,h,λw=>?_⟩;simp only[execOp,i,cR,d,e,OS r,cK,binOp,UB p,cP]
    .refine⟨_,h,λw=>?_⟩;simp only[execOp,i,cR,d,e,OS r,cK,binOp,UB p,cP,Bool.not_true]
    .exact h.elim
   .exact h.elim
  .exact h.elim
 .exact h.elim
def ZS(hρ:uV ρ a)(h:tu P o.op ρ y0):∃v,y0 v/\∀w,(execOp a.eval o).run P w= .ok (.value v) w:=by
 cases ho:o.op with
 |binOp op t x y yt=>rw[ho]at h;exact ah2 hρ ho h
 |nilCheck x=>rw[ho]at h;exact akt hρ ho h
 |fieldAddr s x f=>rw[ho]at h;exact Yu hρ ho h
 |field s x f=>rw[ho]at h;exact af0 hρ ho h
 |indexAddr t x i=>rw[ho]at h;exact Yv hρ ho h
 |index t x i=>rw[ho]at h;exact af1 hρ ho h
 |slice t x lo hi mx=>rw[ho]at h;exact afZ hρ ho h
 |makeInterface t x=>rw[ho]at h;exact af2 hρ ho h
 |_=>rw[ho]at h;exact h.elim
theorem MX(h:rd w yr y0):∃v,w.cell? yr=some v/\y0 v:=by
 unfold rd at h;grind
def MY(n:Nat)(a:Addr)(w w':World):Prop:=∀k,k<n->w'.cell? (a.add k)=w.cell? (a.add k)
def add_zero(a:Addr):a.add 0=a:=rfl
def ZT{P:Program}{w:World}{a:Addr}:∀{n i:Nat} {l:List Value} (acc:Array Value),Gd w a i n=some l->∀w',(∀k,k<n->w'.cell? (a.add (i+k))=w.cell? (a.add (i+k)))->
  (loadCellsFrom a i n acc).run P w'= .ok (acc++l.toArray) w'
 |0,i,l,acc,h,w',_=>by simp only[Gd,Option.some.injEq]at h;subst h;simp[loadCellsFrom]
 |n+1,i,l,acc,h,w',hw=>by
  simp only[Gd]at h;split at h
  .rename_i v hv;split at h
   .rename_i l' c;cases h
    have b:=hw 0 af;simp only[Nat.add_zero]at b;have d:=ZT (P:=P) (acc.push v) c w' (λk e=>by have:=hw (k+1) af;rwa[show i+(k+1)=i+1+k by omega]at this)
    simp only[loadCellsFrom,cR,run_load,b,hv,cK,d];simp
   .cases h
  .cases h
def ZU(h:JW P t (some v) w y0):
  ∃p u,v= .pointer (some p)/\y0 u/\∀w',MY (MR P t) p w w'->(Instr.loadAt t v).run P w'= .ok u w':=by
 unfold JW at h;split at h
 .rename_i p hv;cases hv
  have key:rX P t≠ .ag->(∃d,P.underlying t=some d)->∀u,w.cell? p=some u->∀w',MY (MR P t) p w w'->(Instr.loadAt t (.pointer (some p))).run P w'= .ok u w':=by
   intro e f u b w' hs;have g:MR P t=1:=by unfold MR;split<;>first|exact absurd (by assumption) e|rfl
   have i:=hs 0 af;rw[add_zero,b]at i;obtain⟨d,f⟩:=f;simp only[Instr.loadAt,Instr.sureAddr,cR,cP,cK,loadVar,Yr f e,Bool.false_eq_true,if_false,run_load,i]
  split at h
  .rename_i kk a;obtain⟨u,b,h⟩:=MX h;obtain⟨n,rfl,h'⟩:=Qw h;exact⟨p,_,rfl,h',key (by simp[a]) (tW (by simp[a])) _ b⟩
  .rename_i a;obtain⟨u,b,h⟩:=MX h;obtain⟨n,rfl,h'⟩:=abv h;exact⟨p,_,rfl,h',key (by simp[a]) (tW (by simp[a])) _ b⟩
  .rename_i a;obtain⟨u,b,h⟩:=MX h;obtain⟨n,rfl,h'⟩:=abw h;exact⟨p,_,rfl,h',key (by simp[a]) (tW (by simp[a])) _ b⟩
  .exact h.elim
  .rename_i a;obtain⟨u,b,h⟩:=MX h;obtain⟨n,rfl,h'⟩:=Qx h;exact⟨p,_,rfl,h',key (by simp[a]) (tW (by simp[a])) _ b⟩
  .rename_i a;obtain⟨u,b,h⟩:=MX h;obtain⟨n,rfl,h'⟩:=U4 h;exact⟨p,_,rfl,h',key (by simp[a]) (tW (by simp[a])) _ b⟩
  .rename_i a;obtain⟨u,b,h⟩:=MX h;obtain⟨n,rfl,h'⟩:=Qy h;exact⟨p,_,rfl,h',key (by simp[a]) (tW (by simp[a])) _ b⟩
  .rename_i a;split at h
   .exact h.elim
   rename_i j;unfold bx at h;split at h
   .rename_i l m;refine⟨p,_,rfl,h,λw' hs=>?_⟩;have g:MR P t=iB P t:=by unfold MR;rw[a]
    rw[g]at hs;simp only[Instr.loadAt,Instr.sureAddr,cR,cP,cK,loadVar,abB a,if_true,uq j,loadCells];rw[ZT #[] m w' (λk o=>gq (hs k o))]
    simp
   .exact h.elim
  .rename_i a;split at h
   .rename_i d f;obtain⟨u,b,h⟩:=MX h;exact⟨p,u,rfl,h,key (by simp[a]) ⟨d,f⟩ _ b⟩
   .exact h.elim
 .exact h.elim
def ZV(hρ:uV ρ a)(b:o.op= .load t x)(h:JW P t (ρ x) w y0):
  ∃p u,ρ x=some (.pointer (some p))/\y0 u/\∀w',MY (MR P t) p w w'->(execOp a.eval o).run P w'= .ok (.value u) w':=by
 cases hx:ρ x with
 |none=>rw[hx]at h;exact h.elim
 |some v=>
  rw[hx]at h;obtain⟨p,u,rfl,d,e⟩:=ZU h;refine⟨p,u,rfl,d,λw' hs=>?_⟩;simp only[execOp,b,hρ _ _ hx,cR,e w' hs,cK,cP]
def uW:Option Nat->Fence
 |none=>Fence.wide
 |some l=>Fence.wide.inRound l
def Kb(ro:Option Nat)(f:FuncId):(uW ro).fn f:=by cases ro<;>exact trivial
def U6(ro:Option Nat):(uW ro).depth.isSome=true->∀{p:Prop},p:=by cases ro<;>intro h<;>cases h
variable{R:Ending->ap}{args:Array Value}{f:FuncId}{ro:Option Nat}
def MZ(h:Calls P f args w R):CallsIn (uW ro) n P f args w R:=by
 cases ro with
 |none=>exact callsIn_wide.2 h
 |some l=>exact(callsIn_wide.2 h:CallsIn Fence.wide n P f args w R)
def af5{assign body:Code}(h:RoundIn Fence.wide m P l f yv assign body w R):RoundIn (uW ro) n P l f yv assign body w R:=by
 cases ro with
 |none=>exact⟨h.1,λc cs _=>h.2 c cs (room_wide _)⟩
 |some l'=>exact⟨h.1,λc cs _=>h.2 c cs (room_wide _)⟩
abbrev U7:=List PanicEntry->ap
def QB:U7:=λ_ _=>False
def ZW(c:Value->ap)(q:U7):Ending->ap
 | .returned v,w=>c v w
 | .panicked ch,w=>q ch w
 | .outgrown,_=>False
def tK(P:Program)(bY:ey)(q:U7):Prop:=∀fn args w c,bY fn args w c->match fn with
 | .func f=>((∃fn,P.funcs[f]?=some fn/\fn.body.isSome=true/\(fn.name== "runtime.NumGoroutine")=false)/\Calls P f args w (ZW c q))\/∃v w',(callFunc f args).run P w= .ok (.value v) w'/\c v w'
 | .yield l=>YieldAt Fence.wide 0 P l args w (ZW c q)
 | .method _=> ∃t v,args=#[.iface t v]/\q [{v:= .iface t v,recovered:=false}] w
 |_=>False
variable{r:Next}{w':World}
def abD{ρ:Operand->Value}{c:Call}(a:o.op= .defer c)(h:(execOp ρ o).run P w= .ok r w'):∃d,r= .defer d:=by
 simp only[execOp,a,cR]at h;cases hr:(resolve ρ c o.type).run P w with
 |ok d w1=>rw[hr]at h;simp only[cK,cP]at h;cases h;exact⟨d,rfl⟩
 |halt x w1=>rw[hr]at h;cases h
variable{Q:Exit->Act->ap}
variable{x0:Act->ap}
def abE(h:(execOp a.eval o).run P w= .ok r w')(b:∀d,r≠ .defer d)(e:o.uponIn (uW ro) n P a x0 Q (.ok r w')):o.wpIn (uW ro) n P a w x0 Q:=by
 refine⟨λf _=>Kb ro f,?_⟩;rw[Oper.semAt_eq _ _ _ λc g=>by obtain⟨d,i⟩:=abD g h;exact b d i,h]
 exact e
def jE(h:(execOp a.eval o).run P w= .ok (.value v) w')(b:x0 (a.put o.dst v) w'):o.wpIn (uW ro) n P a w x0 Q:=abE h (λd c=>by cases c) b
def abF(h:(execOp a.eval o).run P w= .ok .skip w')(b:x0 (a.put o.dst undef) w'):o.wpIn (uW ro) n P a w x0 Q:=abE h (λd c=>by cases c) b
def aeD(b:∀c,o.op≠ .defer c)(h:(execOp a.eval o).run P w= .halt (.panic v) w')(d:Q (.panic [{v,recovered:=false}]) a w'):o.wpIn (uW ro) n P a w x0 Q:=by
 refine⟨λf _=>Kb ro f,?_⟩;rw[Oper.semAt_eq _ _ _ λc e=>absurd e (b c),h];exact d
variable{x1:Value->ap}
theorem uX{r:Result Value}(h:ON r x1):∃v w',r= .ok v w'/\x1 v w':=by
 unfold ON at h;grind
def Cy(h:v.oneCell'=true):v.cells=#[v]:=by cases v<;>first|rfl|(simp[Value.oneCell']at h)
variable{x3:ap}
theorem ah3(h:bN w yr v x3):(store yr v).run P w= .ok () (w.setCell yr v)/\x3 (w.setCell yr v):=by
 obtain⟨a,h2,d,b⟩:=h;refine⟨?_,b⟩;rw[run_store P w yr v .plain a];grind
def ZX{p:Addr}:∀{l:List Value} {i:Nat} {w:World} {c:ap},JU w p i l c->∃w',(storeCells p l i).run P w= .ok () w'/\c w'
 |[],i,w,c,h=>⟨w,rfl,h⟩
 |v::l,i,w,c,h=>by
  obtain⟨a,h2⟩:=ah3 (P:=P) h;obtain⟨w',b,d⟩:=ZX h2;exact⟨w',by simp only[storeCells,cR,a,cK,b],d⟩
def Fx{raw:Nat->Bool}{place place':Nat->Option (Nat×Nat)}{n:Nat}(f:∀i x,place' i=some x->place i=some x):
  ∀{l:List (Nat×Value)} {acc:Array Value} {c:Array Value->Prop},Qu raw place' n l acc c->acc.size=n->∃cs,Instr.fill place acc l=some cs/\c cs/\cs.size=n
 |[],acc,c,h,hn=>⟨acc,rfl,h,hn⟩
 |(i,v)::l,acc,c,h,hn=>by
  unfold Qu at h;split at h
  .exact h.elim
  .rename_i off size o;have g:=f _ _ o;split at h
   .exact h.elim
   .rename_i p;unfold Instr.fill;simp only[g];split at h
    .split at h
     .rename_i d;obtain⟨q,h⟩:=h;have e:v.cells=#[v]:=by cases v<;>first|rfl|exact absurd q (by simp[Value.oneCell'])
      have a:¬((v.cells.size≠size)||decide (off+v.cells.size>acc.size))=true:=by rw[e];simp[d];omega
      rw[if_neg a,e];have:(#[v].zipIdx.foldl (λcs (x,j)=>cs.setIfInBounds (off+j) x) acc)=acc.setIfInBounds off v:=by simp
      rw[this];exact Fx f h (by simp[hn])
     .exact h.elim
    split at h
    .rename_i cs;obtain⟨k,h⟩:=h;have e:(Value.agg cs).cells=cs:=rfl;have a:¬((cs.size≠size)||decide (off+cs.size>acc.size))=true:=by simp[k];omega
     rw[e,if_neg a];have hs:(cs.zipIdx.foldl (λcs (x,j)=>cs.setIfInBounds (off+j) x) acc).size=n:=by
      have:∀(l:List (Value×Nat)) (b:Array Value),(l.foldl (λcs (x,j)=>cs.setIfInBounds (off+j) x) b).size=b.size:=by
       intro l;induction l with
       |nil=>intro b;rfl
       |cons y l ih=>intro b;simp[ih]
      rw[<-Array.foldl_toList,this];exact hn
     exact Fx f h hs
    .rename_i m;split at h
     .rename_i d;have e:v.cells=#[v]:=by cases v<;>first|rfl|exact absurd rfl (m _)
      have a:¬((v.cells.size≠size)||decide (off+v.cells.size>acc.size))=true:=by rw[e];simp[d];omega
      rw[if_neg a,e];have:(#[v].zipIdx.foldl (λcs (x,j)=>cs.setIfInBounds (off+j) x) acc)=acc.setIfInBounds off v:=by simp
      rw[this];exact Fx f h (by simp[hn])
     .exact h.elim
def run_places{fs:List Field}(h:∀f∈fs,(P.info? f.type).isSome=true):
  (fs.mapM λf=>(do pure (f.offset,<-sizeOf f.type):Sem (Nat×Nat))).run P w= .ok (fs.map λf=>(f.offset,iB P f.type)) w:=by
 induction fs with
 |nil=>rfl
 |cons f fs ih=>
  have a:=h f List.mem_cons_self;cases hi:P.info? f.type with
  |none=>simp[hi]at a
  |some i=>
   simp only[List.mapM_cons,cR,run_sizeOf hi,cK,cP,ih (λg b=>h g (List.mem_cons_of_mem _ b)),List.map_cons,abA hi]
def LG(h:zOf P t=some v):(zeroValue t).run P w= .ok v w:=by
 unfold zOf at h;cases hi:P.info? t with
 |none=>simp[hi]at h
 |some i=>
  simp only[hi]at h;simp[zeroValue,typeInfo,hi,h]
def run_build{l:List (Nat×Value)}{c:Value->Prop}(j:zOf P t=some zd)(hs:zd.cells.size=iB P t)(hi:abn P t=true)
  (h:Qu (aqY P t) (placesOf P t) (iB P t) l zd.cells λcs=>c (.agg cs)) {parts:Array (Nat×Value)} (m:parts.toList=l):∃v,(Instr.build t parts).run P w= .ok v w/\c v:=by
 unfold abn at hi;split at hi
 .rename_i fs d;rw[tL]at hi;have o:(fs.mapM λf=>(do pure (f.offset,<-sizeOf f.type):Sem (Nat×Nat))).run P w= .ok ((fs.toList.map λf=>(f.offset,iB P f.type)).toArray) w:=by
   rw[Array.mapM_eq_mapM_toList];simp only[Sem.run_map,run_places hi,cK]
  obtain⟨cs,g,h2,p⟩:=Fx (place:=((fs.toList.map λf=>(f.offset,iB P f.type)).toArray[·]?)) (by
   intro i x a;unfold placesOf at a;rw[d]at a;simp only at a;split at a
   .rename_i f q;cases a;simp[q]
   .cases a) h hs
  refine⟨_,?_,h2⟩;simp only[Instr.build,cR,LG j,cK,jr d,o,m,g,cP]
 .rename_i n e d;cases b:P.info? e with
  |none=>simp[b]at hi
  |some i=>
   obtain⟨cs,g,h2,p⟩:=Fx (place:=λk=>some (k*iB P e,iB P e)) (by
    intro k x a;unfold placesOf at a;rw[d]at a;exact a) h hs
   refine⟨_,?_,h2⟩;rw[abA b]at g;simp only[Instr.build,cR,LG j,cK,jr d,run_sizeOf b,m,g,cP]
 .cases hi
def Ge(h:∃fn,P.funcs[f]?=some fn/\fn.body.isSome=true/\(fn.name== "runtime.NumGoroutine")=false):(callFunc f args).run P w= .ok (.enter f args) w:=by
 obtain⟨fn,h1,h2,h3⟩:=h;have h4:fn.body.isNone=false:=by cases hb:fn.body<;>simp_all
 simp only[callFunc,Sem.run_bind,run_program,Result.andThen_ok,h1,h3,h4,Bool.false_eq_true,if_false,Sem.run_pure]
variable{bY:ey}{q:U7}
def aor{c:Value->ap}(hρ:uV ρ a)(O:tK P bY q)(hq:∀W w,q W w->Q (.panic W) a w)(h:afU P bY o ρ w c)
  (A:∀v w',c v w'->x0 (a.put o.dst v) w'):o.wpIn (uW ro) n P a w x0 Q:=by
 unfold afU at h;split at h
 .rename_i t x y g;split at h
  .rename_i p v B hy;have hx':=hρ _ _ B;have hy':=hρ _ _ hy;have key:v.cells.size=iB P t->iB P t≠0->∀w',(storeCells p v.cells.toList 0).run P w= .ok () w'->c undef w'->o.wpIn (uW ro) n P a w x0 Q:=by
    intro j h2 w' F h4;refine abF (w':=w') ?_ (A _ _ h4);have h5:¬v.cells.size≠iB P t:=by simp[j]
    simp only[execOp,g,hx',hy',Instr.storeAt,Instr.sureAddr,cR,cP,cK,storeVar,uq h2,h5,if_false,F]
   split at h
   .rename_i hk;split at h
    .exact h.elim
    rename_i G;split at h
    .rename_i cs;obtain⟨j,h2⟩:=h;obtain⟨w',F,h4⟩:=ZX (P:=P) h2;exact key j G w' F h4
    .exact h.elim
   .split at h
    .rename_i hs;obtain⟨j,h2⟩:=ah3 (P:=P) h;have M:=h.1;refine key (by rw[Cy M,hs];rfl) (by rw[hs];simp) _ ?_ h2
     rw[Cy M];simp only[storeCells,cR,add_zero,j,cK,cP]
    .exact h.elim
  .exact h.elim
 .rename_i t g;split at h
  .rename_i z G;refine jE ?_ (A _ _ h);simp only[execOp,g,Instr.alloc,cR,LG G,cK,newVar,newRow,run_newObj,cP,World.alloc_eq]
  .exact h.elim
 .rename_i t x g;split at h
  .rename_i v B;split at h
   .obtain⟨O,h⟩:=h;refine jE ?_ (A _ _ h);simp only[execOp,g,hρ _ _ B,Instr.box,Cy O,cR,cK,newVar,newRow,run_newObj,cP,World.alloc_eq]
   refine jE ?_ (A _ _ h);simp only[execOp,g,hρ _ _ B,Instr.box,cR,cK,newVar,newRow,run_newObj,cP,World.alloc_eq]
  .exact h.elim
 .rename_i t parts g;split at h
  .rename_i l z hl G;split at h
   .rename_i X;obtain⟨v,j,h2⟩:=run_build (P:=P) (w:=w) (c:=λv=>c v w) G X.1 X.2 h (parts:=parts.map fun(i,x)=>(i,a.eval x)) (by simpa using U3 hρ hl)
    refine jE ?_ (A _ _ h2);simp only[execOp,g,cR,j,cK,cP]
   .exact h.elim
  .exact h.elim
 .rename_i t len parts g;split at h
  .rename_i e l ht hl;split at h
   .exact h.elim
   rename_i J;have Hi:¬len*iB P e>2 ^ 24:=λh=>J (.inl h);cases L:P.info? e with
   |none=>exact absurd (.inr (by simp[L])) J
   |some i=>
    rw[abA L]at h Hi;split at h
    .rename_i z G;obtain⟨cs,j,h2,F⟩:=Fx (place:=λk=>some (k*i.size,i.size)) (λ_ _ B=>B) h bf;refine jE ?_ (A _ _ h2);have Y:(parts.map fun(i,x)=>(i,a.eval x)).toList=l:=by simpa using U3 hρ hl
     by_cases M:len*i.size=0
     .rw[if_pos M]at G;cases G
      simp only[M]at j Hi;simp only[execOp,g,Instr.buildSlice,cR,jr ht,run_sizeOf L,cK,M,Hi,if_false,if_true,cP,Y,j,newRow,run_newObj,World.alloc_eq]
     .rw[if_neg M]at G;cases R:zOf P e with
      |none=>simp[R]at G
      |some zz=>
       simp[R]at G;subst G;simp only[execOp,g,Instr.buildSlice,cR,jr ht,run_sizeOf L,cK,M,Hi,if_false,LG R,cP,Y,j,newRow,run_newObj,World.alloc_eq]
    .exact h.elim
  .exact h.elim
 .rename_i t l k g;split at h
  .rename_i x y B hy;obtain⟨v,w',j,h2⟩:=uX h;obtain⟨s,rfl,F⟩:=Qx h2;refine jE ?_ (A _ _ F);simp only[execOp,g,hρ _ _ B,hρ _ _ hy,cR,j,cK,cP]
  .exact h.elim
 .rename_i N g;split at h
  .rename_i b H;have zl:o.op= .call {callee:= .builtin b,args:=N.args,argTypes:=N.argTypes}:=by rw[g,<-H]
   obtain⟨cs,J⟩:=Uy (P:=P) (a:=a) (w:=w) zl;split at h
   .rename_i vs C;rw[tR hρ C]at J;split at h
    .obtain⟨v,w',j,h2⟩:=uX h;obtain⟨s,rfl,F⟩:=Qx h2;refine jE ?_ (A _ _ F);rw[J];simp only[builtin,cR,j,cK,cP]
    iterate 2 obtain⟨v,w',j,h2⟩:=uX h;obtain⟨s,rfl,F⟩:=Qw h2;refine jE ?_ (A _ _ F);rw[J];simp only[builtin,cR,j,cK,cP]
    iterate 2 obtain⟨v,w',j,h2⟩:=uX h;refine jE ?_ (A _ _ h2);rw[J];simp only[builtin,cR,j,cK,cP]
    .obtain⟨t,v,j,h2⟩:=O _ _ _ _ h;refine aeD (v:= .iface t v) (w':=w) (λc=>by rw[g];intro h;cases h) ?_ (hq _ _ h2)
     rw[J,j];simp only[builtin];rfl
    .exact h.elim
   .exact h.elim
  .rename_i f H;split at h
   .rename_i fv vs hf C;have S:N={callee:= .value f,args:=N.args,argTypes:=N.argTypes}:=by rw[<-H]
    unfold nj at h;split at h
    .rename_i id first captured
     rcases O _ _ _ _ h with⟨j,h2⟩|⟨v,w1,j,h2⟩
     .have D:(execOp a.eval o).run P w= .ok (.enter id (first++vs.toArray++captured)) w:=by
       rw[S]at g;simp only[execOp,g,resolve,hρ _ _ hf,tR hρ C,Deferred.ofValue,cR,cP,cK,invoke,Ge j]
      refine abE D (λd Z=>by cases Z) ⟨λh=>U6 ro h,MZ (h2.mono λe w' I=>?_)⟩
      cases e with
      |returned v=>exact A _ _ (Cw I)
      |panicked W=>exact hq _ _ I
      |outgrown=>exact I.elim
     .refine jE ?_ (A _ _ (Cw h2));rw[S]at g;simp only[execOp,g,resolve,hρ _ _ hf,tR hρ C,Deferred.ofValue,cR,cP,cK,invoke,j]
    .rename_i l first _
     obtain⟨fn,tmps,assign,body,j,h2⟩:=O _ _ _ _ h;have D:(execOp a.eval o).run P w= .ok (.round l fn tmps assign body) w:=by
      rw[S]at g;simp only[execOp,g,resolve,hρ _ _ hf,tR hρ C,Deferred.ofValue,cR,cP,cK,invoke,j]
     refine abE D (λd Z=>by cases Z) ⟨λh=>U6 ro h,af5 (h2.mono λe w' I=>?_)⟩
     cases e with
     |returned v=>exact A _ _ (Cw I)
     |panicked W=>exact hq _ _ I
     |outgrown=>exact I.elim
    .exact h.elim
   .exact h.elim
  .rename_i r name H;split at h
   .rename_i rv vs T C;have S:N={callee:= .invoke r name,args:=N.args,argTypes:=N.argTypes}:=by rw[<-H]
    unfold pR at h;split at h
    .rename_i t v;split at h
     .rename_i f x w1 U;have e0:(#[Value.iface t v] ++vs.toArray)[0]?=some (.iface t v):=by simp
      have e1:(#[Value.iface t v] ++vs.toArray).extract 1 (#[Value.iface t v] ++vs.toArray).size=vs.toArray:=by simp
      rcases O _ _ _ _ h with⟨j,h2⟩|⟨u,w2,j,h2⟩
      .have D:(execOp a.eval o).run P w= .ok (.enter f (#[x] ++vs.toArray)) w1:=by
        rw[S]at g;simp only[execOp,g,resolve,hρ _ _ T,tR hρ C,cR,cP,cK,invoke,e0,e1,callMethod,run_program,U,Ge j]
       refine abE D (λd Z=>by cases Z) ⟨λh=>U6 ro h,MZ (h2.mono λe w' I=>?_)⟩
       cases e with
       |returned v=>exact A _ _ (Cw I)
       |panicked W=>exact hq _ _ I
       |outgrown=>exact I.elim
      .refine jE ?_ (A _ _ (Cw h2));rw[S]at g;simp only[execOp,g,resolve,hρ _ _ T,tR hρ C,cR,cP,cK,invoke,e0,e1,callMethod,run_program,U,j]
     .exact h.elim
    .exact h.elim
   .exact h.elim
 .rename_i t r g;split at h
  .obtain⟨v,w',j,h2⟩:=uX h;obtain⟨s,rfl,F⟩:=Qy h2;refine jE ?_ (A _ _ F);simp only[execOp,g,Option.map_none,cR,j,cK,cP]
  .split at h
   .rename_i r _ x B;obtain⟨v,w',j,h2⟩:=uX h;obtain⟨s,rfl,F⟩:=Qy h2;refine jE ?_ (A _ _ F);simp only[execOp,g,Option.map_some,hρ _ _ B,cR,j,cK,cP]
   .exact h.elim
 .rename_i t x i ok g;split at h
  .rename_i V vi B hi;obtain⟨v,w',j,h2⟩:=uX h;refine jE ?_ (A _ _ (Cw h2));simp only[execOp,g,hρ _ _ B,hρ _ _ hi,cR,j,cK,cP]
  .exact h.elim
 .rename_i t m k x g;split at h
  .rename_i vm vk V U hk B;unfold MP aqV at h;split at h
   .rename_i u w' T;refine abF ?_ (A _ _ h);simp only[execOp,g,hρ _ _ U,hρ _ _ hk,hρ _ _ B,cR,T,cK,cP]
   .exact h.elim
  .exact h.elim
 .rename_i t m k x g;split at h
  .rename_i vm vk V U hk B;unfold MP aqV at h;split at h
   .rename_i u w' T;refine abF ?_ (A _ _ h);simp only[execOp,g,hρ _ _ U,hρ _ _ hk,hρ _ _ B,cR,T,cK,cP]
   .exact h.elim
  .exact h.elim
 .rename_i s d x g;split at h
  .rename_i V B;obtain⟨v,w',j,h2⟩:=uX h;refine jE ?_ (A _ _ (SR h2));simp only[execOp,g,hρ _ _ B,cR,j,cK,cP]
  .exact h.elim
 .rename_i x xt as ok g;split at h
  .rename_i V B;obtain⟨v,w',j,h2⟩:=uX h;refine jE ?_ (A _ _ (Cw h2));simp only[execOp,g,hρ _ _ B,cR,j,cK,cP]
  .exact h.elim
 .rename_i x g;split at h
  .rename_i V B;obtain⟨t,v,j,h2⟩:=O _ _ _ _ h;have j:V= .iface t v:=by simpa using j
   subst j;refine aeD (v:= .iface t v) (w':=w) (λc=>by rw[g];intro h;cases h) ?_ (hq _ _ h2)
   simp only[execOp,g,hρ _ _ B];rfl
  .exact h.elim
 .exact h.elim
def PQ(q:U7):Exit->Act->ap:=λe _ w=>match e with| .panic ch=>q ch w|_=>False
def SU{ρ:Operand->Value}(h:(execOp ρ o).run P w= .ok (.value v) w'):∀c,o.op≠ .defer c:=λc a=>by
 obtain⟨d,b⟩:=abD a h;cases b
def Fy(P:Program)(ops:Array Oper)(o:Oper)(a:Act)(w:World)(v:Value):Prop:=
 (Region.wanted o (yielded ops a.tmps)=true/\(execOp a.eval o).run P w= .ok (.value v) w)\/(Region.wanted o (yielded ops a.tmps)=false/\v=undef)
def Fz(P:Program)(ops:Array Oper)(q:U7)(o:Oper)(a:Act)(w:World)(c:Value->ap):Prop:=
 (Region.wanted o (yielded ops a.tmps)=true/\(∀c,o.op≠ .defer c)/\∀(ro:Option Nat) (n:Nat) (K:Act->ap),(∀v w',c v w'->K (a.put o.dst v) w')->o.wpIn (uW ro) n P a w K (PQ q))\/(Region.wanted o (yielded ops a.tmps)=false/\c undef w)
variable{ops:Array Oper}
def Fy.c(h:Fy P ops o a w v):Fz P ops q o a w λu w'=>u=v/\w'=w:=by
 rcases h with⟨b,h2⟩|⟨b,h2⟩
 .exact .inl ⟨b,SU h2,λ_ _ K d=>jE h2 (d _ _ ⟨rfl,rfl⟩)⟩
 .exact .inr ⟨b,h2.symm,rfl⟩
variable{c:Value->ap}
def Fz.mono{c':Value->ap}(h:Fz P ops q o a w c)(d:∀v w',c v w'->c' v w'):Fz P ops q o a w c':=by
 rcases h with⟨b,h2⟩|⟨b,h2⟩
 .exact .inl ⟨b,h2.1,λro n K e=>h2.2 ro n K λv w' h=>e v w' (d v w' h)⟩
 .exact .inr ⟨b,d _ _ h2⟩
def aos{F:Fence}(hq:∀d w,q d w->Q (.panic d) a w)(h:o.wpIn F n P a w x0 (PQ q)):o.wpIn F n P a w x0 Q:=by
 refine⟨h.1,?_⟩;have h:=h.2;generalize (o.semAt F.round a.eval).run P w=r at*
 cases r with
 |ok x w'=>
  cases x<;>simp only[Oper.uponIn]at h ⊢ <;>first
   |exact h
   |(refine⟨h.1,h.2.mono λe f b=>?_⟩;cases e with
     |returned v=>exact b
     |panicked c=>exact hq _ _ b
     |outgrown=>obtain⟨_,_,g⟩:=b;exact g.elim)
 |halt x w'=>cases x<;>simp only[Oper.uponIn]at h ⊢ <;>first|exact hq _ _ h|exact h.elim
def Fz.wp(h:Fz P ops q o a w c)(hq:∀d w,q d w->Q (.panic d) a w)(e:∀v w',c v w'->x0 (a.put o.dst v) w'):
  if Region.wanted o (yielded ops a.tmps)then o.wpIn (uW ro) n P a w x0 Q else(∀f,o.about P w a.eval=some f->(uW ro).fn f)/\x0 (a.put o.dst undef) w:=by
 rcases h with⟨b,h2⟩|⟨b,h2⟩
 .rw[if_pos b];exact aos hq (h2.2 ro n x0 e)
 .rw[if_neg (by simp[b])];exact⟨λf _=>Kb ro f,e _ _ h2⟩
def AP(h:o.guard=none)(y:Nat->Option Bool):Region.wanted o y=true:=by simp[Region.wanted,h]
variable{e:Env}
def SV(hs:Sub e a)(h:e.find g=some (.val v)):a.tmps[g]?=some v:=hs _ (Dc h)
def awM(hρ:uV ρ a)(j:tK P bY q)(h:aez P bY o ρ w c)(k:Region.wanted o (yielded ops a.tmps)=true):Fz P ops q o a w c:=by
 refine .inl ⟨k,λm d=>by
  unfold aez at h;simp[d,Cf,SN,afS,JX,afU]at h,λro n K b=>?_⟩
 unfold aez at h;split at h
 .rename_i l;unfold IS at h;split at h
  .rename_i v hv;exact jE (QA hρ l hv w) (b _ _ h)
  .exact h.elim
 .split at h
  .obtain⟨v,e,f⟩:=ZS hρ h;exact jE (f w) (b _ _ e)
  .split at h
   .rename_i t x i;have g:o.op= .load t x:=by
     unfold JX at i;split at i<;>simp_all
    obtain⟨p,u,_,e,f⟩:=ZV hρ g h;exact jE (f w λ_ _=>rfl) (b _ _ e)
   .exact aor hρ j (λ_ _ h=>h) h b
def awN(hρ:uV ρ a)(hb:Cf P o.op=true\/SN P o.op=true)(h:aez P bY o ρ w c)(d:Region.wanted o (yielded ops a.tmps)=true):
  ∃v,c v w/\∀w',Fy P ops o a w' v:=by
 unfold aez at h;split at h
 .rename_i b;unfold IS at h;split at h
  .rename_i v hv;exact⟨v,h,λw'=> .inl ⟨d,QA hρ b hv w'⟩⟩
  .exact h.elim
 .rename_i b;rw[if_pos (hb.resolve_left b)]at h;obtain⟨v,e,f⟩:=ZS hρ h;exact⟨v,e,λw'=> .inl ⟨d,f w'⟩⟩
variable{z:Operand}
def LH(c:o.op= .pick x y z)(d:a.eval x= .bool b)(w:World):(execOp a.eval o).run P w= .ok (.value (if b then a.eval y else a.eval z)) w:=by
 simp only[execOp,c,d,asBool,cR,cP,cK]
def U8(hs:Sub e a)(h:aa3 e x y z=some v):∃b,a.eval x= .bool b/\(if b then a.eval y else a.eval z)=v:=by
 unfold aa3 at h;split at h
 .rename_i g c d;have f:=qi hs _ _ d;have l:a.tmps[g]?=some (.bool c):=by
   simp only[Env.op]at d;split at d
   .rename_i u o;cases d;exact SV hs o
   .cases d
  refine⟨c,f,?_⟩;split at h
  .rename_i p q i h2;have m:c=true->a.eval y= .bool p:=by
    intro j;subst j;split at i
    .rename_i u k;cases i;exact qi hs _ _ k
    .exact Wu hs l i
   have n:c=false->a.eval z= .bool q:=by
    intro j;subst j;split at h2
    .rename_i u k;cases h2;exact qi hs _ _ k
    .exact Wu hs l h2
   split at h
   .cases h
    cases c
    .simp[n rfl]
    .simp[Act.eval]
   .cases h
    cases c
    .simp[Act.eval]
    .simp[m rfl]
   .cases h
    cases c
    .simp[n rfl]
    .simp[m rfl]
  .cases h
 .cases h
def ZY(hs:Sub e a)(h:abo e x y z y0):∃b v,a.eval x= .bool b/\(if b then a.eval y else a.eval z)=v/\y0 v:=by
 unfold abo at h;split at h
 .rename_i f g;have d:=qi hs _ _ g;cases f
  .unfold an IS at h;simp only at h;split at h
   .rename_i v hv;exact⟨false,v,d,gq (qi hs _ _ hv),h⟩
   .exact h.elim
  .unfold an IS at h;simp only at h;split at h
   .rename_i v hv;exact⟨true,v,d,gq (qi hs _ _ hv),h⟩
   .exact h.elim
 .exact h.elim
def U9{p:Operand×Operand×Operand}(h:SO o.op=some p):o.op= .pick p.1 p.2.1 p.2.2:=by
 unfold SO at h;split at h
 .rename_i x y z a;cases h;exact a
 .cases h
def Fits(o:Oper)(a:Act):Prop:=∀d,o.dst=some d->d<a.tmps.size
variable{c:Env->ap}
def aeE(hs:Sub e a)(g:Fits o a)(m:tK P bY q)(i:Region.wanted o (yielded ops a.tmps)=true)(h:SP P bY o e w c):
  Fz P ops q o a w λv w'=> ∃e',c e' w'/\Sub e' (a.put o.dst v):=by
 unfold SP at h;split at h
 .rename_i x y z n;have f:=U9 n;split at h
  .rename_i v hv;obtain⟨b,j,Gq⟩:=U8 hs hv;have d:=LH (P:=P) f j w;rw[Gq]at d;exact .inl ⟨i,SU d,λ_ _ K k=>jE d (k _ _ ⟨_,h,zo hs g⟩)⟩
  .obtain⟨b,v,j,Gq,l⟩:=ZY hs h;have d:=LH (P:=P) f j w;rw[Gq]at d;exact .inl ⟨i,SU d,λ_ _ K k=>jE d (k _ _ ⟨_,l,zo hs g⟩)⟩
 .exact(awM (qi hs) m h i).mono λv w' l=>⟨_,l,zo hs g⟩
def aeF(hs:Sub e a)(g:Fits o a)(hb:U2 P o.op=true)(i:Region.wanted o (yielded ops a.tmps)=true)(h:SP P bY o e w c):
  ∃e' v,c e' w/\Sub e' (a.put o.dst v)/\∀w',Fy P ops o a w' v:=by
 unfold SP at h;split at h
 .rename_i x y z j;have d:=U9 j;split at h
  .rename_i v hv;obtain⟨b,k,Gq⟩:=U8 hs hv;refine⟨_,v,h,zo hs g,λw'=> .inl ⟨i,?_⟩⟩;have f:=LH (P:=P) d k w';rwa[Gq]at f
  .obtain⟨b,v,k,Gq,l⟩:=ZY hs h;refine⟨_,v,l,zo hs g,λw'=> .inl ⟨i,?_⟩⟩;have f:=LH (P:=P) d k w';rwa[Gq]at f
 .rename_i j;have m:Cf P o.op=true\/SN P o.op=true:=by simpa[U2,j]using hb
  obtain⟨v,l,f⟩:=awN (qi hs) m h i;exact⟨_,v,l,zo hs g,f⟩
def ZZ(hs:Sub e a)(f:a.tmps[g]?=some (.bool want))(h:abp P o.op e g want=some v)(w:World):(execOp a.eval o).run P w= .ok (.value v) w:=by
 unfold abp at h;split at h
 .cases h
 split at h
 .rename_i x y z c;have d:=U9 c;obtain⟨b,i,Gq⟩:=U8 (Cv hs f) h;have j:=LH (P:=P) d i w;rwa[Gq]at j
 .split at h
  .rename_i c;exact QA (ako hs f) c h w
  .cases h
def o5(a:Act)(g:Nat)(want:Bool):Bool:=match a.tmps[g]? with|some (.bool b)=>b==want|_=>false
def WD:o5 a g want=true↔a.tmps[g]?=some (.bool want):=by
 unfold o5;split
 .rename_i b hb;rw[hb];simp
 .rename_i c;constructor
  .intro h;cases h
  .intro h;exact absurd h (c _)
def QC(h:afV ops o.guard=some (g,want)):Region.wanted o (yielded ops a.tmps)=o5 a g want:=by
 unfold afV at h;split at h
 .rename_i j b c;split at h
  .rename_i i e;split at h
   .rename_i d f;cases h
    simp only[Region.wanted,c,yielded,e,f,Option.bind_some,o5];split<;>simp_all
   .cases h
  .cases h
 .cases h
def IU{g:Nat}{want:Bool}{yes no:Env->Prop}:∀{n:Nat} {e:Env},Sub e a->Yq g want yes no n e->(∃e',Sub e' a/\o5 a g want=true/\yes e')\/(∃e',Sub e' a/\o5 a g want=false/\no e')
 |0,_,_,h=>h.elim
 |n+1,e,hs,h=>by
  unfold Yq at h;split at h
  .rename_i b hfind;have hb:=SV hs hfind;split at h
   .cases b
    .simp only[an,kU]at h;exact .inr ⟨_,Cv hs hb,by simp[o5,hb],h⟩
    .simp only[an,kU]at h;exact .inl ⟨_,Cv hs hb,by simp[o5,hb],h⟩
   .cases b
    .simp only[an,kU]at h;exact .inl ⟨_,Cv hs hb,by simp[o5,hb],h⟩
    .simp only[an,kU]at h;exact .inr ⟨_,Cv hs hb,by simp[o5,hb],h⟩
  .rename_i vs hfind;have hb:=SV hs hfind;exact .inr ⟨e,hs,by simp[o5,hb],h⟩
  .split at h
   .rename_i b hfind;have hb:=SV hs hfind;cases b
    iterate 2 simp only[an,kU]at h;exact IU (Cv hs hb) h
   .exact h.elim
  .exact h.elim
def aeG(hs:Sub e a)(i:Fits o a)(p:tK P bY q)(h:MQ P bY ops o e w c):
  Fz P ops q o a w λv w'=> ∃e',c e' w'/\Sub e' (a.put o.dst v):=by
 unfold MQ at h;split at h
 .rename_i t;exact aeE hs i p (AP t _) h
 .split at h
  .exact h.elim
  .rename_i g want k;have j:=QC (a:=a) k;split at h
   .rename_i v d hpure l;split at h
    .exact h.elim
    .rename_i m;have f:d≠g:=by simpa using m
     have r:=i d l;cases b:o5 a g want with
     |true=>
      have hb:=WD.1 b;have s:=ZZ hs hb hpure w;refine .inl ⟨by rw[j,b],SU s,λ_ _ K u=>jE s (u _ _ ⟨_,h,?_⟩)⟩
      rw[l];exact Ww hs r f (λ_=>rfl) λn=>absurd hb n
     |false=>
      refine .inr ⟨by rw[j,b],_,h,?_⟩
      rw[l];exact Ww hs r f (λn=>by rw[WD.2 n]at b;cases b) λ_=>rfl
   .rcases IU hs h with⟨e',hs',b,h⟩|⟨e',hs',b,h⟩
    .exact aeE hs' i p (by rw[j,b]) h
    .exact .inr ⟨by rw[j,b],_,h,zo hs' i⟩
def aot(hs:Sub e a)(j:Fits o a)(hb:U2 P o.op=true)(h:MQ P bY ops o e w c):
  ∃e' v,c e' w/\Sub e' (a.put o.dst v)/\∀w',Fy P ops o a w' v:=by
 unfold MQ at h;split at h
 .rename_i r;exact aeF hs j hb (AP r _) h
 .split at h
  .exact h.elim
  .rename_i g want l;have k:=QC (a:=a) l;split at h
   .rename_i v d hpure m;split at h
    .exact h.elim
    .rename_i n;have f:d≠g:=by simpa using n
     have q:=j d m;cases b:o5 a g want with
     |true=>
      have i:=WD.1 b;refine⟨_,v,h,?_,λw'=> .inl ⟨by rw[k,b],ZZ hs i hpure w'⟩⟩
      rw[m];exact Ww hs q f (λ_=>rfl) λp=>absurd i p
     |false=>
      refine⟨_,undef,h,?_,λw'=> .inr ⟨by rw[k,b],rfl⟩⟩
      rw[m];exact Ww hs q f (λp=>by rw[WD.2 p]at b;cases b) λ_=>rfl
   .rcases IU hs h with⟨e',hs',b,h⟩|⟨e',hs',b,h⟩
    .exact aeF hs' j hb (by rw[k,b]) h
    .exact⟨_,undef,h,zo hs' j,λw'=> .inr ⟨by rw[k,b],rfl⟩⟩
def FA(a:Act)(d:Option Nat)(v:Value):(a.put d v).tmps.size=a.tmps.size:=by cases d<;>simp[Act.put]
def put_defers(a:Act)(d:Option Nat)(v:Value):(a.put d v).defers=a.defers:=by cases d<;>rfl
def o8(ws:Nat->Bool)(a a':Act):Prop:=a'.tmps.size=a.tmps.size/\a'.defers=a.defers/\∀s,ws s=false->a'.tmps[s]?=a.tmps[s]?
def o8.refl(ws:Nat->Bool)(a:Act):o8 ws a a:=⟨rfl,rfl,λ_ _=>rfl⟩
variable{b:Act}{ws:Nat->Bool}
def o8.trans{c:Act}(h:o8 ws a b)(k:o8 ws b c):o8 ws a c:=⟨k.1.trans h.1,k.2.1.trans h.2.1,λs hs=>(k.2.2 s hs).trans (h.2.2 s hs)⟩
def o8.mono{ws':Nat->Bool}(h:o8 ws a b)(c:∀s,ws' s=false->ws s=false):o8 ws' a b:=⟨h.1,h.2.1,λs hs=>h.2.2 s (c s hs)⟩
variable{d:Option Nat}
def o8.put(h:∀x,d=some x->ws x=true):o8 ws a (a.put d v):=by
 refine⟨FA a d v,put_defers a d v,λs hs=>?_⟩;cases d with
 |none=>rfl
 |some d=>exact Gp λe=>by subst e;rw[h _ rfl]at hs;cases hs
def WE(ops:Array Oper)(s:Nat):Bool:=ops.toList.any λo=>match o.dst with|some d=>Nat.beq d s|none=>false
def II(a:o∈ops)(h:o.dst=some g):WE ops g=true:=by
 unfold WE;rw[List.any_eq_true];exact⟨o,gq a,by simp[h]⟩
def SX(n:Nat)(ops:Array Oper):Bool:=ops.toList.all λo=>match o.dst with|some d=>Nat.blt d n|none=>true
def Kc(h:SX n ops=true)(a:o∈ops):∀d,o.dst=some d->d<n:=by
 intro d b;unfold SX at h;rw[tL]at h;have:=h o (gq a)
 simpa[b,Nat.blt_eq]using this
def aeH{bY:ey}{ro:Option Nat}{n:Nat}{Q:Exit->Act->ap}(i:tK P bY q):∀(l:List Oper) (e:Env) (w:World) (a:Act) (c:Env->ap),(∀f a' w',o8 (WE ops) a a'->q f w'->Q (.panic f) a' w')->(∀o∈l,o∈ops)->SX a.tmps.size ops=true->Sub e a->abq P bY ops l e w c->
  (∀e' w' a',c e' w'->Sub e' a'->o8 (WE ops) a a'->Q .normal a' w')->wpListIn (uW ro) n P ops Q l a w
 |[],e,w,a,c,_,_,_,hs,h,hQ=>hQ e w a h hs (.refl _ _)
 |o::l,e,w,a,c,hq,hm,hf,hs,h,hQ=>by
  unfold abq at h;have d:=hm o List.mem_cons_self;have j:=aeG hs (Kc hf d) i h;unfold wpListIn;refine j.wp (λf w h=>hq f a w (.refl _ _) h) λv w' b=>?_;obtain⟨e',b,hs'⟩:=b;rw[kU]at b;exact aeH i l e' w' _ c (λf a' w' k h=>hq f a' w' ((o8.put λx b=>II d b).trans k) h) (λo h=>hm o (List.mem_cons_of_mem _ h)) (by rw[FA];exact hf) hs' b λm g a'' p h2 r=>
   hQ m g a'' p h2 ((o8.put λx b=>II d b).trans r)
def still(P:Program)(o:Oper):Bool:=U2 P o.op||(JX o.op).isSome
def Z0(h:still P o=true):∀cs b,o.op≠ .select cs b:=by
 intro cs b hb;simp[still,U2,hb,SO,Cf,SN,afS,JX]at h
def Tl(h:Nat->ap)(i:Nat)(S:ap):Nat->ap:=λk=>if k=i then S else h k
variable{i j:Nat}
def aou(h:Nat->ap)(a:i≠j)(S T:ap):Tl (Tl h i S) j T=Tl (Tl h j T) i S:=by
 funext k;unfold Tl;by_cases b:k=i<;>by_cases h2:k=j<;>simp_all
def wpH(P:Program)(ops:Array Oper)(sO:Nat->Nat->Bool)(q:U7)(Q:Exit->Act->ap):Nat->Array Bool->(Nat->ap)->Act->ap
 |0,listed,_,a,w=>Region.ready .any ops listed=[]/\Q .normal a w
 |f+1,listed,h,a,w=>(Region.ready .any ops listed=[]->Q .normal a w)/\∀i∈Region.ready .any ops listed,∀o,ops[i]?=some o->
   (still P o=true->∃v S,S w/\(∀w',S w'->Fy P ops o a w' v)/\wpH P ops sO q Q f (listed.setIfInBounds i true) (Tl h i S) (a.put o.dst v) w)/\
   (still P o=false->(∀cs b,o.op≠ .select cs b)/\Fz P ops q o a w λv w'=>(∀k,sO i k=false->h k w')/\wpH P ops sO q Q f (listed.setIfInBounds i true) h (a.put o.dst v) w')
def QE{sO:Nat->Nat->Bool}{ro:Option Nat}{n:Nat}:∀(f:Nat) (listed:Array Bool) (h:Nat->ap) (a:Act) (w:World),(∀b a' w',o8 (WE ops) a a'->q b w'->Q (.panic b) a' w')->wpH P ops sO q Q f listed h a w->wpAnyIn (uW ro) n P .any ops Q f listed a w
 |0,_,_,_,_,_,h=>h
 |f+1,listed,hh,a,w,hq,h=>by
  refine⟨h.1,λi hi=>?_⟩;obtain⟨_,o,d,_⟩:=mem_ready.1 hi;obtain⟨k,h2⟩:=h.2 i hi o d;unfold wpOpIn;rw[d];cases hs:still P o with
  |true=>
   obtain⟨v,S,l,hv,e⟩:=k hs;exact((hv w l).c).wp (λb w h=>hq b a w (.refl _ _) h) λu w' ⟨hu,hw'⟩=>by subst hu;subst hw';exact QE f _ _ _ _ (λb a' w' g h=>hq b a' w' ((o8.put λx j=>II (Array.mem_of_getElem? d) j).trans g) h) e
  |false=>exact(h2 hs).2.wp (λb w h=>hq b a w (.refl _ _) h) λu w' e=>QE f _ _ _ _ (λb a' w' g h=>hq b a' w' ((o8.put λx j=>II (Array.mem_of_getElem? d) j).trans g) h) e.2
variable{o':Oper}
def abH(c:Oper.apart ops o' o=true)(hs:∀cs b,o.op≠ .select cs b)(a:Act)(v:Value):
  execOp (a.put o'.dst v).eval o=execOp a.eval o/\Region.wanted o (yielded ops (a.put o'.dst v).tmps)=Region.wanted o (yielded ops a.tmps):=by
 have h:=Oper.apart_spec c;exact⟨execOp_put o hs a o'.dst v h.1,wanted_put o a o'.dst v h.1⟩
variable{u:Value}
def Va(c:Oper.apart ops o' o=true)(hs:∀cs b,o.op≠ .select cs b):Fy P ops o (a.put o'.dst u) w v↔Fy P ops o a w v:=by
 obtain⟨d,h2⟩:=abH c hs a u;unfold Fy;rw[d,h2]
def aq2(g:a.tmps.size=b.tmps.size)(h:b.put d u=b.put d v):a.put d u=a.put d v:=by
 cases d with
 |none=>rfl
 |some d=>
  by_cases c:d<b.tmps.size
  .have e:(b.put (some d) u).tmps[d]?=(b.put (some d) v).tmps[d]?:=by rw[h]
   rw[Wv c,Wv c]at e;cases e
   rfl
  .have:∀x,a.put (some d) x=a:=by
    intro x;simp only[Act.put];have f:a.tmps.setIfInBounds d x=a.tmps:=by
     apply Array.ext_getElem?;intro i;by_cases hi:i=d
     .subst hi;simp[show a.tmps.size<=i by omega]
     .rw[Array.getElem?_setIfInBounds_ne (Ne.symm hi)]
    rw[f]
   rw[this,this]
def akw(y:Oper.apart ops o' o=true)(hs:∀cs b,o.op≠ .select cs b){c:Value->ap}(h:Fz P ops q o (a.put o'.dst u) w c):Fz P ops q o a w c:=by
 obtain⟨C,h2⟩:=abH y hs a u;unfold Fz at*
 rw[h2]at h;rcases h with⟨z,m,h⟩|⟨z,h⟩
 .refine .inl ⟨z,m,λro n K D=>?_⟩;have g:=h ro n (λF w1=> ∃v',F=(a.put o'.dst u).put o.dst v'/\K (a.put o.dst v') w1) λv' w' G=>⟨v',rfl,D v' w' G⟩;refine⟨λf _=>Kb ro f,?_⟩;have g:=g.2;have A:((o.semAt (uW ro).round (a.put o'.dst u).eval).run P w)=((o.semAt (uW ro).round a.eval).run P w):=by
   rw[Oper.semAt_eq _ _ _ m,Oper.semAt_eq _ _ _ m,C]
  rw[A]at g;have p:∀v v':Value,(a.put o'.dst u).put o.dst v=(a.put o'.dst u).put o.dst v'->a.put o.dst v=a.put o.dst v':=λv v'=>aq2 (by rw[FA])
  generalize (o.semAt (uW ro).round a.eval).run P w=r at*
  cases r with
  |ok x w'=>
   cases x with
   |value v=>simp only[Oper.uponIn]at g ⊢;obtain⟨v',i,k⟩:=g;rw[p _ _ i];exact k
   |skip=>simp only[Oper.uponIn]at g ⊢;obtain⟨v',i,k⟩:=g;rw[p _ _ i];exact k
   |defer d=>
    simp only[Oper.uponIn]at g;obtain⟨v',i,k⟩:=g;have H:=congrArg (λb:Act=>b.defers.length) i;simp only[put_defers,List.length_cons]at H;omega
   |enter f args=>
    simp only[Oper.uponIn]at g ⊢;refine⟨g.1,g.2.mono λe s i=>?_⟩;cases e with
    |returned v=>obtain⟨v',j,k⟩:=i;simp only;rw[p _ _ j];exact k
    |panicked c=>exact i
    |outgrown=>obtain⟨_,_,B⟩:=i;exact B.elim
   |round l f t as b=>
    simp only[Oper.uponIn]at g ⊢;refine⟨g.1,g.2.mono λe s i=>?_⟩;cases e with
    |returned v=>obtain⟨v',j,k⟩:=i;simp only;rw[p _ _ j];exact k
    |panicked c=>exact i
    |outgrown=>obtain⟨_,_,B⟩:=i;exact B.elim
   |row r args=>
    simp only[Oper.uponIn]at g ⊢;refine⟨g.1,RowsIn.mono g.2 λv s i=>?_⟩;obtain⟨v',j,k⟩:=i;rw[p _ _ j];exact k
   |_=>simp only[Oper.uponIn]at g
  |halt x w'=>cases x<;>simp only[Oper.uponIn]at g ⊢ <;>exact g
 .exact .inr ⟨z,h⟩
def akx(ops:Array Oper)(sO:Nat->Nat->Bool):Prop:=∀i j x y,i<j->ops[i]?=some x->ops[j]?=some y->sO j i=false->Oper.apart ops x y=true/\Oper.apart ops y x=true
def af6(ops:Array Oper)(sO:Nat->Nat->Bool):Prop:=∀j i,sO j i=true->∃o,ops[j]?=some o/\∃e∈o.after,Region.binds .any e=true/\e.on<j/\(e.on=i\/sO e.on i=true)
def M0(ops:Array Oper)(listed:Array Bool):Prop:=listed.size=ops.size/\∀j o,ops[j]?=some o->listed.getD j false=true->∀e∈o.after,Region.binds .any e=true->listed.getD e.on false=true
def QF{sO:Nat->Nat->Bool}(a:af6 ops sO){listed:Array Bool}(c:M0 ops listed):∀(n j i:Nat),j<=n->(∀o,ops[j]?=some o->∀e∈o.after,Region.binds .any e=true->listed.getD e.on false=true)->sO j i=true->listed.getD i false=true
 |0,j,i,hj,hd,h=>by
  obtain⟨o,d,e,f,hb,b,_⟩:=a j i h;omega
 |n+1,j,i,hj,hd,h=>by
  obtain⟨o,d,e,f,hb,b,hx⟩:=a j i h;have g:=hd o d e f hb;rcases hx with rfl|hx
  .exact g
  .exact QF a c n e.on i af (λo' k=>c.2 e.on o' k g) hx
variable{listed:Array Bool}
def M0.set(c:M0 ops listed)(hi:i∈Region.ready .any ops listed):M0 ops (listed.setIfInBounds i true):=by
 obtain⟨_,l,b,m⟩:=mem_ready.1 hi;refine⟨by simp[c.1],λj d f g e k hb=>?_⟩
 by_cases a:i=j
 .subst a;have:d=l:=Option.some.inj (f.symm.trans b);subst this;exact getD_set_true (m e k hb)
 .rw[getD_set_ne false a]at g;exact getD_set_true (c.2 j d f g e k hb)
def IJ(hi:i∈Region.ready .any ops listed):i<ops.size:=by
 obtain⟨_,b,a,_⟩:=mem_ready.1 hi;exact(Bf.1 a).1
def abI(a:i≠j)(b:j∈Region.ready .any ops listed):j∈Region.ready .any ops (listed.setIfInBounds i true):=by
 obtain⟨c,o,d,h2⟩:=mem_ready.1 b;exact mem_ready.2 ⟨by rw[getD_set_ne true a];exact c,o,d,λe f hb=>getD_set_true (h2 e f hb)⟩
def OT(b:M0 ops listed)(hi:i<ops.size)(h:listed.getD i true=false):listed.getD i false=false:=by
 have a:i<listed.size:=by rw[b.1];exact hi
 simp[a]at h ⊢;exact h
def aky{sO:Nat->Nat->Bool}(l:akx ops sO)(H:af6 ops sO):∀(f:Nat) (listed:Array Bool) (h:Nat->ap) (a:Act) (w:World) (i:Nat) (o:Oper) (v:Value) (S:ap),
  M0 ops listed->(∀k,listed.getD k false=false->h k=λ_=>True)->i∈Region.ready .any ops listed->ops[i]?=some o->still P o=true->S w->(∀w',S w'->Fy P ops o a w' v)->
  wpH P ops sO q Q f (listed.setIfInBounds i true) (Tl h i S) (a.put o.dst v) w->wpH P ops sO q Q (f+1) listed h a w
 |f,listed,h,a,w,i,o,v,S,hc,hh,hi,ho,hst,hS,hv,hK=>by
  refine⟨λX=>(by rw[X]at hi;cases hi),λj s p m=>?_⟩
  by_cases b:i=j
  .subst b;have:p=o:=Option.some.inj (m.symm.trans ho);subst this;exact⟨λ_=>⟨v,S,hS,hv,hK⟩,λh'=>by rw[hst]at h';cases h'⟩
  .have t:=abI b s;have z:=abI (Ne.symm b) hi;obtain⟨I,_,_,Y⟩:=mem_ready.1 hi;obtain⟨J,_,_,Z⟩:=mem_ready.1 s;have A:=OT hc (IJ hi) I;have B:=OT hc (IJ s) J;have K:sO i j=false:=by
    cases hx:sO i j with
    |false=>rfl
    |true=>
     have:=QF H hc i i j (iw _) (λo' L=>(mem_ready.1 hi).2.elim λM d=>by
      have:o'=M:=Option.some.inj (L.symm.trans d.1);subst this;exact d.2) hx
     rw[B]at this;cases this
   have C:sO j i=false:=by
    cases hx:sO j i with
    |false=>rfl
    |true=>
     have:=QF H hc j j i (iw _) (λo' L=>(mem_ready.1 s).2.elim λM d=>by
      have:o'=M:=Option.some.inj (L.symm.trans d.1);subst this;exact d.2) hx
     rw[A]at this;cases this
   have e:Oper.apart ops o p=true/\Oper.apart ops p o=true:=by
    rcases Nat.lt_or_gt_of_ne b with hlt|hlt
    .exact l i j o p hlt ho m C
    .exact(l j i p o hlt m ho K).symm
   have r:=Z0 hst;cases f with
   |zero=>rw[hK.1]at t;cases t
   |succ f=>
    obtain⟨h1,h2⟩:=hK.2 j t p m;have D:∀u,(a.put o.dst v).put p.dst u=(a.put p.dst u).put o.dst v:=λu=>Act.put_comm a v u (Oper.apart_spec e.1).2.1;have W:(listed.setIfInBounds i true).setIfInBounds j true=(listed.setIfInBounds j true).setIfInBounds i true:=Array.setIfInBounds_comm _ _ b;have N:∀T,∀k,(listed.setIfInBounds j true).getD k false=false->Tl h j T k=λ_=>True:=by
     intro T k x;by_cases c:k=j
     .subst c;rw[show(listed.setIfInBounds k true).getD k false=true by
        have:k<listed.size:=by rw[hc.1];exact IJ s
        simp[this]]at x
      cases x
     .unfold Tl;rw[if_neg c];exact hh k (by rwa[getD_set_ne false (Ne.symm c)]at x)
    refine⟨λhs=>?_,λhs=>?_⟩
    .obtain⟨u,T,hT,hu,g⟩:=h1 hs;have n:=Z0 hs;refine⟨u,T,hT,λw' y=>(Va e.1 n).1 (hu w' y),?_⟩;refine aky l H f _ _ _ w i o v S (hc.set s) (N T) z ho hst hS (λw' y=>(Va e.2 r).2 (hv w' y)) ?_;rw[D u,W,aou h b]at g;exact g
    .obtain⟨n,h2⟩:=h2 hs;refine⟨n,(akw e.1 n h2).mono λu w' ⟨F,g⟩=>⟨λk x=>?_,?_⟩⟩
     .by_cases G:k=i
      .subst G;rw[hh k A];trivial
      .have:=F k x;unfold Tl at this;rwa[if_neg G]at this
     .have O:S w':=by
       have:=F i C;unfold Tl at this;rwa[if_pos rfl]at this
      have R:∀k,(listed.setIfInBounds j true).getD k false=false->h k=λ_=>True:=by
       intro k x;by_cases c:k=j
       .subst c;exact hh k B
       .exact hh k (by rwa[getD_set_ne false (Ne.symm c)]at x)
      refine aky l H f _ _ _ w' i o v S (hc.set s) R z ho hst O (λU V=>(Va e.2 r).2 (hv U V)) ?_;rw[D u,W]at g;exact g
def It(m i k:Nat):(m|||2 ^ i).testBit k=(m.testBit k||decide (i=k)):=by
 rw[Nat.testBit_or,Nat.testBit_two_pow]
def aq6(l:List Edge):∀(s k:Nat),(l.foldl (λs e=>if Region.binds .any e then s|||2 ^ e.on else s) s).testBit k=true↔s.testBit k=true\/∃e∈l,Region.binds .any e=true/\e.on=k:=by
 induction l with
 |nil=>intro s k;simp
 |cons e l ih=>
  intro s k;rw[List.foldl_cons,ih];by_cases hb:Region.binds .any e=true
  .rw[if_pos hb,It];simp only[Bool.or_eq_true,decide_eq_true_eq,List.mem_cons];constructor
   .rintro((h|h)|⟨e',h1,h2,h3⟩)
    .exact .inl h
    .exact .inr ⟨e,.inl rfl,hb,h⟩
    .exact .inr ⟨e',.inr h1,h2,h3⟩
   .rintro(h|⟨e',h1|h1,h2,h3⟩)
    .exact .inl (.inl h)
    .subst h1;exact .inl (.inr h3)
    .exact .inr ⟨e',h1,h2,h3⟩
  .rw[if_neg hb];simp only[List.mem_cons];constructor
   .rintro(h|⟨e',h1,h2,h3⟩)
    .exact .inl h
    .exact .inr ⟨e',.inr h1,h2,h3⟩
   .rintro(h|⟨e',h1|h1,h2,h3⟩)
    .exact .inl h
    .subst h1;exact absurd h2 hb
    .exact .inr ⟨e',h1,h2,h3⟩
def WG(o:Oper)(k:Nat):(Gn o).testBit k=true↔∃e∈o.after,Region.binds .any e=true/\e.on=k:=by
 unfold Gn;rw[<-Array.foldl_toList,aq6];simp
def aeJ:(g&&&m==g)=true↔∀k,g.testBit k=true->m.testBit k=true:=by
 rw[beq_iff_eq];constructor
 .intro h k a;rw[<-h,Nat.testBit_and]at a;simp only[iY]at a;exact a.2
 .intro h;apply Nat.eq_of_testBit_eq;intro k;rw[Nat.testBit_and];cases hx:g.testBit k
  .rfl
  .simp[h k hx]
def LM(ops:Array Oper)(m:Nat)(listed:Array Bool):Prop:=listed.size=ops.size/\∀i d,i<ops.size->listed.getD i d=m.testBit i
def LM.set(h:LM ops m listed)(hi:i<ops.size):LM ops (m|||2 ^ i) (listed.setIfInBounds i true):=by
 refine⟨by simp[h.1],λk d b=>?_⟩
 rw[It];by_cases a:i=k
 .subst a;have:i<listed.size:=by rw[h.1];exact hi
  simp[this]
 .rw[getD_set_ne d a,h.2 k d b];simp[a]
def rdy(ops:Array Oper)(m i:Nat)(o:Oper):Prop:=ops[i]?=some o/\(!m.testBit i&&(Gn o&&&m==Gn o))=true
def abK(hb:SQ ops=true)(c:ops[j]?=some o):∀e∈o.after,Region.binds .any e=true->e.on<j:=by
 intro e d a;have f:j<ops.size:=(Bf.1 c).1;unfold SQ at hb;rw[tL]at hb;have b:=hb j (List.mem_range.2 f);rw[c]at b;simp only[Array.all_eq_true']at b;have h2:=b e d;simpa[a,Nat.blt_eq]using h2
def aq7(hb:SQ ops=true)(h:LM ops m listed):i∈Region.ready .any ops listed↔∃o,rdy ops m i o:=by
 rw[mem_ready];constructor
 .rintro⟨c,o,b,h2⟩;have hi:i<ops.size:=(Bf.1 b).1;refine⟨o,b,?_⟩;simp only[iY,Bool.not_eq_true'];refine⟨by rw[<-h.2 i true hi];exact c,aeJ.2 λk f=>?_⟩
  obtain⟨e,d,a,rfl⟩:=(WG o k).1 f;have:=h2 e d a;rwa[h.2 e.on false (by have:=abK hb b e d a;omega)]at this
 .rintro⟨o,b,c⟩;have hi:i<ops.size:=(Bf.1 b).1;simp only[iY,Bool.not_eq_true']at c;refine⟨by rw[h.2 i true hi];exact c.1,o,b,λe d a=>?_⟩
  rw[h.2 e.on false (by have:=abK hb b e d a;omega)]
  exact aeJ.1 c.2 e.on ((WG o e.on).2 ⟨e,d,a,rfl⟩)
def OU{m:Nat}:∀{n i0 i:Nat},Cu P ops m n i0=some i->∃o,rdy ops m i o/\still P o=true
 |0,_,_,h=>by simp[Cu]at h
 |n+1,i0,i,h=>by
  unfold Cu at h;split at h
  .rename_i o b;split at h
   .rename_i a;cases h
    simp only[iY]at a;exact⟨o,⟨b,by simp only[iY];exact a.1⟩,a.2⟩
   .exact OU h
  .cases h
def OV{m:Nat}:∀{n i0:Nat},Cu P ops m n i0=none->∀i o,i0<=i->i<i0+n->rdy ops m i o->still P o=false
 |0,i0,_,i,_,h1,h2,_=>by omega
 |n+1,i0,h,i,o,h1,h2,hr=>by
  unfold Cu at h;split at h
  .rename_i b a;split at h
   .cases h
   .rename_i c;by_cases hi:i=i0
    .subst hi;have:o=b:=Option.some.inj (hr.1.symm.trans a);subst this;cases hs:still P o with
     |false=>rfl
     |true=>exact absurd (by simp only[iY];exact⟨gq hr.2,hs⟩) c
    .exact OV h i o af af hr
  .rename_i d;have hi:i<ops.size:=(Bf.1 hr.1).1;have:ops.size<=i0:=by simpa using d
   omega
def KV:i∈LD ops m↔∃o,rdy ops m i o:=by
 unfold LD rdy;rw[List.mem_filter,List.mem_range];constructor
 .rintro⟨_,h⟩;split at h
  .rename_i o a;exact⟨o,a,h⟩
  .cases h
 .rintro⟨o,a,h⟩;exact⟨(Bf.1 a).1,by rw[a];exact h⟩
def abL{c:Nat->Prop}:∀{l:List Nat},akk l c->∀i∈l,c i
 |[],_,i,hi=>by cases hi
 |[j],h,i,hi=>by rcases List.mem_cons.1 hi with rfl|hi;exact h;cases hi
 |j::k::l,h,i,hi=>by
  rcases List.mem_cons.1 hi with rfl|hi
  .exact h.1
  .exact abL h.2 i hi
def Ke(m n:Nat):Nat:=(List.range n).countP λi=> !m.testBit i
def abM(m n:Nat):Ke m (n+1)=Ke m n+if m.testBit n then 0 else 1:=by
 unfold Ke;rw[List.range_succ,List.countP_append];cases h:m.testBit n<;>simp[h]
def SY{m i:Nat}(a:m.testBit i=false):∀{n:Nat},(i<n->Ke (m|||2 ^ i) n+1=Ke m n)/\(n<=i->Ke (m|||2 ^ i) n=Ke m n)
 |0=>⟨λh=>by omega,λ_=>rfl⟩
 |n+1=>by
  obtain⟨b,h2⟩:=SY a (n:=n);rw[abM,abM,It];constructor
  .intro h;by_cases hi:i=n
   .subst hi;have:=h2 (iw _);simp[a,this]
   .have:=b af;simp only[hi,decide_false,Bool.or_false];omega
  .intro h;have:=h2 af;have hi:i≠n:=af;simp only[hi,decide_false,Bool.or_false,this]
def HR(hs:List OO)(h:Nat->ap):Prop:=∀k w',(∀x∈hs,x.i=k->MY x.n x.a x.w w')->h k w'
def QG{sO:Nat}:∀{hs:List OO} {w:World} {c:Prop},Wn sO hs w c->c/\∀x∈hs,sO.testBit x.i=false->MY x.n x.a x.w w
 |[],_,_,h=>⟨h,λx hx=>by cases hx⟩
 |y::hs,w,c,h=>by
  unfold Wn at h;split at h
  .rename_i hb;obtain⟨d,h2⟩:=QG h;refine⟨d,λx hx b=>?_⟩;rcases List.mem_cons.1 hx with rfl|hx
   .rw[hb]at b;cases b
   .exact h2 x hx b
  .obtain⟨e,h⟩:=h;obtain⟨d,h2⟩:=QG h;refine⟨d,λx hx b=>?_⟩;rcases List.mem_cons.1 hx with rfl|hx
   .exact e
   .exact h2 x hx b
variable{hs:List OO}
def adV{c:Env->List OO->Prop}(b:Sub e a)(q:Fits o a)(j:o.op= .load t x)
  (h:Qv P ops i o t x e w hs c):
  ∃e' hs' v S,c e' hs'/\Sub e' (a.put o.dst v)/\S w/\(∀w',S w'->Fy P ops o a w' v)/\(hs'=hs/\(S=λ_=>True)\/∃n p,hs'=⟨i,n,p,w⟩::hs/\(S=λw'=>MY n p w w')):=by
 have key:∀(e:Env),Sub e a->Region.wanted o (yielded ops a.tmps)=true->(JW P t (e.op x) w λv=>c (e.Wh o.dst v) (afW P i t (e.op x) w hs))->
   ∃e' hs' v S,c e' hs'/\Sub e' (a.put o.dst v)/\S w/\(∀w',S w'->Fy P ops o a w' v)/\(hs'=hs/\(S=λ_=>True)\/∃n p,hs'=⟨i,n,p,w⟩::hs/\(S=λw'=>MY n p w w')):=by
  intro e d f h;obtain⟨p,u,s,r,y⟩:=ZV (qi d) j h;rw[s]at r;exact⟨_,_,u,λw'=>MY (MR P t) p w w',r,zo d q,λ_ _=>rfl,λw' k=> .inl ⟨f,y w' k⟩,.inr ⟨_,_,rfl,rfl⟩⟩
 unfold Qv at h;split at h
 .rename_i z;exact key e b (AP z _) h
 .split at h
  .exact h.elim
  .rename_i g want l;have f:=QC (a:=a) l;rcases IU b h with⟨e',hs',m,h⟩|⟨e',hs',m,h⟩
   .exact key _ hs' (by rw[f,m]) h
   .exact⟨_,hs,undef,λ_=>True,h,zo hs' q,trivial,λw' _=> .inr ⟨by rw[f,m],rfl⟩,.inl ⟨rfl,rfl⟩⟩
def amO{hs':List OO}{h:Nat->ap}(c:HR hs h)
  (a:hs'=hs/\(x3=λ_=>True)\/∃n p,hs'=⟨i,n,p,w⟩::hs/\(x3=λw'=>MY n p w w')):HR hs' (Tl h i x3):=by
 intro k w' b;unfold Tl;split
 .rename_i d;rcases a with⟨_,rfl⟩|⟨n,p,rfl,rfl⟩
  .trivial
  .exact b _ List.mem_cons_self d.symm
 .rcases a with⟨rfl,_⟩|⟨n,p,rfl,_⟩
  .exact c k w' b
  .exact c k w' λx a e=>b x (List.mem_cons_of_mem _ a) e
def Yw{bY:ey}{sO:Array Nat}(U:tK P bY q)(hb:SQ ops=true)(C:akx ops λj i=>(sO.getD j 0).testBit i)(D:af6 ops λj i=>(sO.getD j 0).testBit i)
  (A:∀o∈ops,∀cs b,o.op≠ .select cs b):
  ∀(fuel m:Nat) (hs:List OO) (e:Env) (w:World) (a:Act) (listed:Array Bool) (h:Nat->ap) (c:Env->ap),LM ops m listed->M0 ops listed->(∀k,listed.getD k false=false->h k=λ_=>True)->HR hs h->
  SX a.tmps.size ops=true->Sub e a->JY P bY ops sO fuel m hs e w c->(∀e' w' a',c e' w'->Sub e' a'->o8 (WE ops) a a'->Q .normal a' w')->
  wpH P ops (λj i=>(sO.getD j 0).testBit i) q Q (Ke m ops.size) listed h a w
 |0,_,_,_,_,_,_,_,_,_,_,_,_,_,_,h,_=>h.elim
 |fuel+1,m,hs,e,w,a,listed,hh,c,B,V,hun,hr,hf,hs0,h,hQ=>by
  unfold JY at h;have s:∀i,i∈Region.ready .any ops listed↔∃o,rdy ops m i o:=λi=>aq7 hb B;split at h
  .rename_i i F;obtain⟨o,d,g⟩:=OU F;have n:=(s i).2 ⟨o,d⟩;have hi:=IJ n;have p:o∈ops:=Array.mem_of_getElem? d.1;have G:m.testBit i=false:=by have:=d.2;simp only[iY,Bool.not_eq_true']at this;exact this.1
   rw[d.1]at h;simp only at h;have M:=(SY G).1 hi;rw[<-M];have H:∀S,∀k,(listed.setIfInBounds i true).getD k false=false->Tl hh i S k=λ_=>True:=by
    intro S k I;by_cases u:k=i
    .subst u;have:k<listed.size:=by rw[B.1];exact hi
     simp[this]at I
    .unfold Tl;rw[if_neg u];exact hun k (by rwa[getD_set_ne false (Ne.symm u)]at I)
   have fin:∀e' hs' v S,(lP e' λe=>JY P bY ops sO fuel (m|||2 ^ i) hs' e w c)->Sub e' (a.put o.dst v)->S w->(∀w',S w'->Fy P ops o a w' v)->HR hs' (Tl hh i S)->
     wpH P ops (λj i=>(sO.getD j 0).testBit i) q Q (Ke (m|||2 ^ i) ops.size+1) listed hh a w:=by
    intro e' hs' v S hd r W hv J;rw[kU]at hd;refine aky C D _ listed hh a w i o v S V hun n d.1 g W hv<|Yw U hb C D A fuel _ hs' e' w _ _ _ c (B.set hi) (V.set n) (H S) J (by rw[FA];exact hf) r hd λe2 X Y Z h2 h3=>
     hQ e2 X Y Z h2 ((o8.put λx z=>II p z).trans h3)
   split at h
   .rename_i t x T;have hop:o.op= .load t x:=by unfold JX at T;split at T<;>simp_all
    obtain⟨e',hs',v,S,hc,r,W,hv,z⟩:=adV hs0 (Kc hf p) hop h;exact fin e' hs' v S hc r W hv (amO hr z)
   .rename_i T;have hbl:U2 P o.op=true:=by
     unfold still at g;rw[T]at g;simpa using g
    obtain⟨e',v,hc,r,hv⟩:=aot hs0 (Kc hf p) hbl h;exact fin e' hs v (λ_=>True) hc r trivial (λw' _=>hv w') (amO (w:=w) hr (.inl ⟨rfl,rfl⟩))
  .rename_i F;have aDa:∀i o,rdy ops m i o->still P o=false:=λi o d=>
    OV F i o (Nat.zero_le _) (by have:=(Bf.1 d.1).1;omega) d
   split at h
   .rename_i N;split at h
    .rename_i lG;rw[tL]at lG;have O:Region.ready .any ops listed=[]:=by
      cases K:Region.ready .any ops listed with
      |nil=>rfl
      |cons i l=>
       have hi:i∈Region.ready .any ops listed:=by rw[K];exact List.mem_cons_self
       have:=KV.2 ((s i).1 hi);rw[N]at this;cases this
     have hq:=hQ e w a h hs0 (.refl _ _);cases hcn:Ke m ops.size with
     |zero=>exact⟨O,hq⟩
     |succ f=>exact⟨λ_=>hq,λi hi=>by rw[O]at hi;cases hi⟩
    .exact h.elim
   .rename_i l hne;have lG:=abL h;have hex:∃i,i∈LD ops m:=by
     cases K:LD ops m with
     |nil=>exact absurd K hne
     |cons i l=>exact⟨i,List.mem_cons_self⟩
    obtain⟨i0,Yx⟩:=hex;obtain⟨o0,L⟩:=KV.1 Yx;have aDc:=IJ ((s i0).2 ⟨o0,L⟩);have hm0:m.testBit i0=false:=by have:=L.2;simp only[iY,Bool.not_eq_true']at this;exact this.1
    have hpos:=(SY hm0).1 aDc;cases hcn:Ke m ops.size with
    |zero=>omega
    |succ f=>
     refine⟨λJ=>?_,λi n o R=>⟨λg=>?_,λ_=>?_⟩⟩
     .have:=(s i0).2 ⟨o0,L⟩;rw[J]at this;cases this
     .obtain⟨o',d⟩:=(s i).1 n;have:o=o':=Option.some.inj (R.symm.trans d.1);subst this;rw[aDa i o d]at g;cases g
     .obtain⟨o',d⟩:=(s i).1 n;have:o=o':=Option.some.inj (R.symm.trans d.1);subst this;have hi:=IJ n;have p:o∈ops:=Array.mem_of_getElem? d.1;have G:m.testBit i=false:=by have:=d.2;simp only[iY,Bool.not_eq_true']at this;exact this.1
      have M:=(SY G).1 hi;have hfe:f=Ke (m|||2 ^ i) ops.size:=af;have g:=lG i (KV.2 ⟨o,d⟩);rw[d.1]at g;simp only at g;refine⟨A o p,(aeG hs0 (Kc hf p) U g).mono λv w' z=>?_⟩;obtain⟨e',z,r⟩:=z;obtain⟨z,aAN⟩:=QG z;rw[kU]at z;refine⟨λk I=>hr k w' λy hy hyk=>aAN y hy (by rw[hyk];exact I),?_⟩
      rw[hfe];have H:∀k,(listed.setIfInBounds i true).getD k false=false->hh k=λ_=>True:=by
       intro k I;by_cases u:k=i
       .subst u;have:k<listed.size:=by rw[B.1];exact hi
        simp[this]at I
       .exact hun k (by rwa[getD_set_ne false (Ne.symm u)]at I)
      exact Yw U hb C D A fuel _ hs e' w' _ _ _ c (B.set hi) (V.set n) H hr (by rw[FA];exact hf) r z λe2 X Y Z h2 h3=>
       hQ e2 X Y Z h2 ((o8.put λx z=>II p z).trans h3)
def adW(h:noSelect ops=true):∀o∈ops,∀cs b,o.op≠ .select cs b:=by
 intro o a cs b hb;unfold noSelect at h;rw[tL]at h;have:=h o (gq a)
 simp[hb]at this
def agb{sO:Array Nat}(h:abr ops sO=true):akx ops λj i=>(sO.getD j 0).testBit i:=by
 intro i j x y a d b e;have f:j<ops.size:=(Bf.1 b).1;unfold abr at h;rw[tL]at h;have c:=h j (List.mem_range.2 f);rw[tL]at c;have h2:=c i (List.mem_range.2 a);simp only[e,Bool.false_or,d,b,iY]at h2;exact h2
def ara(acc:Array Nat)(l:List Edge):∀(s k:Nat),(l.foldl (λs e=>if Region.binds .any e then s|||2 ^ e.on|||acc.getD e.on 0 else s) s).testBit k=true->s.testBit k=true\/∃e∈l,Region.binds .any e=true/\(e.on=k\/(acc.getD e.on 0).testBit k=true):=by
 induction l with
 |nil=>intro s k h;exact .inl h
 |cons e l ih=>
  intro s k h;rw[List.foldl_cons]at h;rcases ih _ k h with h|⟨e',h1,h2,h3⟩
  .split at h
   .rename_i hb;rw[Nat.testBit_or,It]at h;simp only[Bool.or_eq_true,decide_eq_true_eq]at h;rcases h with(h|h)|h
    .exact .inl h
    .exact .inr ⟨e,List.mem_cons_self,hb,.inl h⟩
    .exact .inr ⟨e,List.mem_cons_self,hb,.inr h⟩
   .exact .inl h
  .exact .inr ⟨e',List.mem_cons_of_mem _ h1,h2,h3⟩
def abN(ops:Array Oper)(acc:Array Nat):Prop:=∀j i,(acc.getD j 0).testBit i=true->∃o,ops[j]?=some o/\∃e∈o.after,Region.binds .any e=true/\(e.on=i\/(acc.getD e.on 0).testBit i=true)
def abO:∀(l:List Oper) (acc:Array Nat),(∀k,l[k]?=ops[acc.size+k]?)->abN ops acc->abN ops (amF l acc)
 |[],acc,_,h=>h
 |o::l,acc,hl,h=>by
  unfold amF;have p:ops[acc.size]?=some o:=by have:=hl 0;simpa using this.symm
  refine abO l _ (λk=>by have:=hl (k+1);simp at this ⊢;rw[this];congr 1;omega) ?_
  intro j i a;have c:∀x,(acc.getD x 0).testBit i=true->((acc.push (akl acc o)).getD x 0).testBit i=true:=by
   intro x d;by_cases b:x<acc.size
   .simp[Array.getElem?_push,b]at d ⊢;rw[if_neg af];simpa[b]using d
   .simp[Array.getElem?_eq_none (Nat.le_of_not_lt b)]at d
  by_cases n:j=acc.size
  .subst n;simp at a;unfold akl at a;rw[<-Array.foldl_toList]at a;rcases ara acc _ 0 i a with hz|⟨e,f,h2,g⟩
   .simp at hz
   .exact⟨o,p,e,gq f,h2,g.imp id (c _)⟩
  .have m:(acc.getD j 0).testBit i=true:=by
    simp[Array.getElem?_push,n]at a ⊢;exact a
   obtain⟨o',q,e,f,h2,g⟩:=h j i m;exact⟨o',q,e,f,h2,g.imp id (c _)⟩
def arc(hb:SQ ops=true):af6 ops λj i=>((aeA ops).getD j 0).testBit i:=by
 intro j i h;have c:abN ops (aeA ops):=abO ops.toList #[] bf (by intro j i h;simp at h)
 obtain⟨o,a,e,b,h2,d⟩:=c j i h;exact⟨o,a,e,b,h2,abK hb a e b h2,d⟩
def OW(n i:Nat)(d:Bool)(h:i<n):(Array.replicate n false).getD i d=false:=by simp[h]
def agc(l:P.follows .mixedOrders=true)(m:tK P bY q)(hq:∀g a' w',o8 (WE ops) a a'->q g w'->Q (.panic g) a' w')(b:afX ops=true)
  (p:SX a.tmps.size ops=true) (hs:Sub e a) (h:JY P bY ops (aeA ops) (ops.size+1) 0 [] e w.drew c) (r:∀e' w' a',c e' w'->Sub e' a'->o8 (WE ops) a a'->Q .normal a' w'):
  (Code.region y2 ops true).wpIn (uW ro) n P Q a w:=by
 unfold afX at b;simp only[iY]at b;obtain⟨⟨hb,s⟩,t⟩:=b;refine wpIn_region_any l (QE (sO:=λj i=>((aeA ops).getD j 0).testBit i) _ _ (λ_ _=>True) _ _ hq ?_);have f:Ke 0 ops.size=ops.size:=by
  unfold Ke;rw[List.countP_eq_length.2 bf];simp
 have:=Yw m hb (agb s) (arc hb) (adW t) (ops.size+1) 0 [] e w.drew a (Array.replicate ops.size false) (λ_ _=>True) c
  ⟨bf,λi d hi=>by rw[OW _ _ _ hi];simp⟩ ⟨bf,λj o u k=>by
   rw[OW _ _ _ (Bf.1 u).1]at k;cases k⟩ (λ_ _=>rfl) (λ_ _ _=>trivial) p hs h r
 rw[f]at this;exact this
def ard:Ex->Exit
 | .normal=> .normal
 | .exit id=> .exit id
 | .ret=> .ret
def rQ{a:Act}:∀{ks:List (Nat×K)} {e:Env} {c:HT ks->Prop},Sub e a->uo ks e c->∃x,c x/\Sub (Be ks x) a
 |[],e,c,_,h=>⟨(),h,λp hp=>by cases hp⟩
 |[(s,k)],e,c,hs,h=>by
  unfold uo at h;split at h
  .rename_i v hv;obtain⟨x,rfl,b⟩:=Wx h;refine⟨x,b,λp hp=>?_⟩;rcases List.mem_cons.1 hp with rfl|hp
   .exact hs _ (Dc hv)
   .cases hp
  .exact h.elim
 |(s,k)::(y::r),e,c,hs,h=>by
  unfold uo at h;split at h
  .rename_i v hv;obtain⟨x,rfl,h'⟩:=Wx h;obtain⟨xs,b,d⟩:=rQ hs h';refine⟨(x,xs),b,λp hp=>?_⟩;rcases List.mem_cons.1 hp with rfl|hp
   .exact hs _ (Dc hv)
   .exact d _ hp
  .exact h.elim
def are(h:Sub e a):Sub (e.keep m) a:=λp b=>h p (List.mem_filter.1 b).1
def agd{a':Act}{c:AC}(h:Sub e a)(f:o8 c.writes a a'):Sub (e.unw c) a':=by
 intro p b;unfold Env.unw at b;rw[List.mem_filter]at b;obtain⟨b,d⟩:=b;obtain⟨s,x⟩:=p;simp only[iY,Bool.not_eq_true']at d;have i:=h _ b;cases x with
 |val v=>show _=_;rw[f.2.2 s d.1];exact i
 |gd g want v=>exact absurd d.2 bf
def Cz{e':Env}(h:Sub e a)(h':Sub e' a):Sub (e++e') a:=λp b=>(zw.1 b).elim (h p) (h' p)
def ah8{b:Bool}(hs:Sub e a)(h:e.op x=some (.bool b)):a.eval x= .bool b:=qi hs _ _ h
def Gr{F:Fence}{c:Code}(h:c.wpIn F n P (Exit.noGoto Q) a w):(Code.scope c).wpIn F n P Q a w:=by
 intro b k cs g hb i;have d:(lone (b.atR a (.code (.scope c)::k)) cs w).fenced P F:=fenced_calm hb i rfl;obtain⟨e,a₁,w₁,hq,f⟩:=h b (.inScope c::k) cs g hb i;have hstep:step P (lone (b.atR a (.code (.scope c)::k)) cs w)= .next (lone (b.atR a (.code c:: .inScope c::k)) cs w):=step_lone_go (by simp[stepG,stepG.exec,Frame.atR])
 cases e with
 |normal=>exact⟨.normal,a₁,w₁,hq,.head d hstep (StepsIn.trans f (.one (fenced_calm hb i rfl) (step_lone_go (by simp[stepG,stepG.exec,Frame.atR]))))⟩
 |exit id=>
  have o:exitTo id (.inScope c::k)=exitTo id k:=by simp[exitTo]
  exact⟨.exit id,a₁,w₁,hq,λk' j=> .head d hstep (f.1 k' (by rw[o];exact j)),
   λm j=>let ⟨k₁,h1,h2⟩:=f.2 m (by rw[o];exact j);⟨k₁,h1,.head d hstep h2⟩⟩
 |goto l=>exact hq.elim
 |ret=>exact⟨_,a₁,w₁,hq,.of_steps (.one d hstep) f⟩
 |panic ch=>exact⟨_,a₁,w₁,hq,.of_steps (.one d hstep) f⟩
 |outgrown=>exact⟨_,a₁,w₁,hq,.of_steps (.one d hstep) f⟩
def rE{bY:ey}{mask:Nat}{ro:Option Nat}{n0:Nat}(u:P.follows .mixedOrders=true)(p:tK P bY q):∀(c:AC) (e:Env) (w:World) (a:Act) (k:Ex->Env->ap) (Q:Exit->Act->ap),(∀I a' w',o8 c.writes a a'->q I w'->Q (.panic I) a' w')->
  Sub e a->c.fits a.tmps.size=true->ev P bY mask c e w k->(∀x e' w' a',k x e' w'->Sub e' a'->o8 c.writes a a'->Q (ard x) a' w')->c.code.wpIn (uW ro) n0 P Q a w
 | .skip,e,w,a,k,Q,hq,hs,_,h,hQ=>wpIn_skip (hQ .normal e w a h hs (.refl _ _))
 | .label l,e,w,a,k,Q,hq,hs,_,h,hQ=>wpIn_label (hQ .normal e w a h hs (.refl _ _))
 | .exit id,e,w,a,k,Q,hq,hs,_,h,hQ=>wpIn_exit (hQ (.exit id) e w a h hs (.refl _ _))
 | .ret,e,w,a,k,Q,hq,hs,_,h,hQ=>wpIn_ret (hQ .ret e w a h hs (.refl _ _))
 | .bad c,e,w,a,k,Q,hq,_,_,h,_=>h.elim
 | .scope x,e,w,a,k,Q,hq,hs,hf,h,hQ=>by
  refine Gr (rE u p x e w a k _ (by exact λ_ _ _ g h=>hq _ _ _ (by first|exact g|exact f.trans g|exact g.mono λs d=>(by simp only[AC.writes,kf]at d;first|exact d.1|exact d.2)|exact m.trans (g.mono λs d=>(by simp only[AC.writes,kf]at d;first|exact d.1|exact d.2))) h) hs hf h λz e' w' a' r h2 v=>?_)
  cases z<;>exact hQ _ e' w' a' r h2 v
 | .region id ops draw,e,w,a,k,Q,hq,hs,hf,h,hQ=>by
  unfold ev at h;have A:SX a.tmps.size ops=true:=hf;have fin:∀e' w' a',(lP (e'.keep mask) λe=>k .normal e w')->Sub e' a'->o8 (WE ops) a a'->Q .normal a' w':=by
   intro e' w' a' r h2 v;rw[kU]at r;exact hQ .normal _ w' a' r (are h2) v
  cases draw with
  |true=>
   simp only[if_true]at h;split at h
   .rename_i g;exact agc u p hq g A hs h fin
   .exact h.elim
  |false=>
   simp only[Bool.false_eq_true,if_false]at h;exact wpIn_region_list (aeH p ops.toList e w a _ hq (λo h=>gq h) A hs h fin)
 | .seq x y,e,w,a,k,Q,hq,hs,hf,h,hQ=>by
  unfold ev at h;simp only[AC.fits,iY]at hf;refine wpIn_seq (rE u p x e w a _ _ (by exact λ_ _ _ g h=>hq _ _ _ (by first|exact g|exact f.trans g|exact g.mono λs d=>(by simp only[AC.writes,kf]at d;first|exact d.1|exact d.2)|exact m.trans (g.mono λs d=>(by simp only[AC.writes,kf]at d;first|exact d.1|exact d.2))) h) hs hf.1 h λz e' w' a' j hs' f=>?_)
  have m:o8 (AC.seq x y).writes a a':=f.mono λs d=>by simp only[AC.writes,kf]at d;exact d.1
  cases z with
  |normal=>
   refine rE u p y e' w' a' k Q (by exact λ_ _ _ g h=>hq _ _ _ (by first|exact g|exact f.trans g|exact g.mono λs d=>(by simp only[AC.writes,kf]at d;first|exact d.1|exact d.2)|exact m.trans (g.mono λs d=>(by simp only[AC.writes,kf]at d;first|exact d.1|exact d.2))) h) hs' (by rw[f.1];exact hf.2) j λz J F a'' r h2 v=>hQ z J F a'' r h2 (m.trans (v.mono λs d=>?_))
   simp only[AC.writes,kf]at d;exact d.2
  |exit id=>exact hQ (.exit id) e' w' a' j hs' m
  |ret=>exact hQ .ret e' w' a' j hs' m
 | .cond c x y,e,w,a,k,Q,hq,hs,hf,h,hQ=>by
  unfold ev at h;simp only[AC.fits,iY]at hf;split at h
  .rename_i t K;refine wpIn_cond (ah8 hs K) ?_;cases t
   .exact rE u p y e w a k Q (by exact λ_ _ _ g h=>hq _ _ _ (by first|exact g|exact f.trans g|exact g.mono λs d=>(by simp only[AC.writes,kf]at d;first|exact d.1|exact d.2)|exact m.trans (g.mono λs d=>(by simp only[AC.writes,kf]at d;first|exact d.1|exact d.2))) h) hs hf.2 h λz e' w' a' r h2 v=>hQ z e' w' a' r h2 (v.mono λs d=>by simp only[AC.writes,kf]at d;exact d.2)
   .exact rE u p x e w a k Q (by exact λ_ _ _ g h=>hq _ _ _ (by first|exact g|exact f.trans g|exact g.mono λs d=>(by simp only[AC.writes,kf]at d;first|exact d.1|exact d.2)|exact m.trans (g.mono λs d=>(by simp only[AC.writes,kf]at d;first|exact d.1|exact d.2))) h) hs hf.1 h λz e' w' a' r h2 v=>hQ z e' w' a' r h2 (v.mono λs d=>by simp only[AC.writes,kf]at d;exact d.1)
  .exact h.elim
 | .block id x,e,w,a,k,Q,hq,hs,hf,h,hQ=>by
  unfold ev at h;refine wpIn_block (rE u p x e w a _ _ (by exact λ_ _ _ g h=>hq _ _ _ (by first|exact g|exact f.trans g|exact g.mono λs d=>(by simp only[AC.writes,kf]at d;first|exact d.1|exact d.2)|exact m.trans (g.mono λs d=>(by simp only[AC.writes,kf]at d;first|exact d.1|exact d.2))) h) hs hf h λz e' w' a' j hs' f=>?_)
  cases z with
  |normal=>exact hQ .normal e' w' a' j hs' f
  |ret=>exact hQ .ret e' w' a' j hs' f
  |exit i=>
   simp only at j;show(if i=id then Q .normal a' w' else Q (.exit i) a' w')
   split at j
   .rename_i hb;rw[if_pos (beq_eq hb)];exact hQ .normal e' w' a' j hs' f
   .rename_i hb;have G:i≠id:=by simpa using hb
    rw[if_neg G];exact hQ (.exit i) e' w' a' j hs' f
 | .join ks x,e,w,a,k,Q,hq,hs,hf,h,hQ=>by
  unfold ev cz at h;refine rE u p x e w a _ Q (by exact λ_ _ _ g h=>hq _ _ _ (by first|exact g|exact f.trans g|exact g.mono λs d=>(by simp only[AC.writes,kf]at d;first|exact d.1|exact d.2)|exact m.trans (g.mono λs d=>(by simp only[AC.writes,kf]at d;first|exact d.1|exact d.2))) h) hs hf h λz e' w' a' j hs' f=>?_
  cases z with
  |normal=>
   obtain⟨y,D,B⟩:=rQ hs' j;rw[kU]at D;exact hQ .normal _ w' a' D (Cz B (agd hs f)) f
  |exit id=>exact hQ (.exit id) e' w' a' j hs' f
  |ret=>exact hQ .ret e' w' a' j hs' f
 | .loop ks x,e,w,a,k,Q,hq,hs,hf,h,hQ=>by
  unfold ev at h;obtain⟨y,D,B⟩:=rQ hs h;obtain⟨n,L⟩:=D;refine wpIn_loop_rounds n ?_;have key:∀n y w b,jV (λC y w=>lP (Be ks y++e.unw x) λe=>ev P bY mask x e w λz e w=>match z with| .normal=>uo ks e λy=>C y w|z=>k z e w) n y w->
    Sub (Be ks y) b->o8 x.writes a b->Code.roundsIn (uW ro) n0 P x.code Q n b w:=by
   intro n;induction n with
   |zero=>intro y w b h;exact h.elim
   |succ n ih=>
    intro y w b h B f;unfold jV at h;rw[kU]at h;rw[roundsIn_succ];refine rE u p x _ w b _ _ (by exact λ_ _ _ g h=>hq _ _ _ (by first|exact g|exact f.trans g|exact g.mono λs d=>(by simp only[AC.writes,kf]at d;first|exact d.1|exact d.2)|exact m.trans (g.mono λs d=>(by simp only[AC.writes,kf]at d;first|exact d.1|exact d.2))) h) (Cz B (agd hs f)) (by rw[f.1];exact hf) h λz e' w' a' j hs' m=>?_
    cases z with
    |normal=>
     obtain⟨M,H,N⟩:=rQ hs' j;exact ih M w' a' H N (f.trans m)
    |exit id=>exact hQ (.exit id) e' w' a' j hs' (f.trans m)
    |ret=>exact hQ .ret e' w' a' j hs' (f.trans m)
  exact key n y w a L B (.refl _ _)
def uY(P:Program)(f:FuncId)(d:bt):Prop:=
 (∃fn,P.funcs[f]?=some fn/\fn.body.isSome=true/\(fn.name== "runtime.NumGoroutine")=false)/\
 ∀(args:Array Value) w c,d args.toList w c->Calls P f args w fun e w'=> ∃v,e= .returned v/\c v w'
def FB(P:Program):List (Nat×bt)->Prop
 |[]=>True
 |(n,d)::l=>uY P n d/\FB P l
def LI:∀{l:List (Nat×bt)} {f:FuncId} {args:Array Value} {w:World} {c:Value->ap},FB P l->abu l f args.toList w c->
  (∃fn,P.funcs[f]?=some fn/\fn.body.isSome=true/\(fn.name== "runtime.NumGoroutine")=false)/\Calls P f args w fun e w'=> ∃v,e= .returned v/\c v w'
 |[],_,_,_,_,_,h=>h.elim
 |(n,d)::l,f,args,w,c,hl,h=>by
  unfold abu at h;split at h
  .rename_i hb;have:=beq_eq hb;subst this;exact⟨hl.1.1,hl.1.2 args w c h⟩
  .exact LI hl.2 h
variable{c:Value->ap}
def Calls.arf(h:Calls P f args w λe w'=> ∃v,e= .returned v/\c v w'):Calls P f args w (ZW c q):=
 h.mono λe w' a=>by obtain⟨v,rfl,hv⟩:=a;exact hv
variable{l:List (Nat×bt)}
def M3(a:FB P l):tK P (kC l) q:=λfn args w c h=>by
 cases fn with
 |func f=>exact .inl ⟨(LI a h).1,Calls.arf (LI a h).2⟩
 |_=>exact h.elim
def ah9(h:YieldAt Fence.wide 0 P n args w λe w'=> ∃v,e= .returned v/\c v w'):YieldAt Fence.wide 0 P n args w (ZW c q):=by
 obtain⟨fn,t,as,b,a,h2⟩:=h;exact⟨fn,t,as,b,a,h2.mono λe w' d=>by obtain⟨v,rfl,hv⟩:=d;exact hv⟩
def WI{Y:Nat->bt}(a:FB P l)(b:∀n (args:Array Value) w c,Y n args.toList w c->YieldAt Fence.wide 0 P n args w λe w'=> ∃v,e= .returned v/\c v w'):tK P (J0 l Y) q:=λfn args w c h=>by
 cases fn with
 |func f=>exact .inl ⟨(LI a h).1,Calls.arf (LI a h).2⟩
 |yield n=>exact ah9 (b n args w c h)
 |_=>exact h.elim
abbrev abP:=List Value->World->(Value->ap)->(Value->ap)->Prop
def amR(q:Value->ap):U7:=λch w=> ∃v,ch=[{v:=v,recovered:=false}]/\q v w
def amS(P:Program)(f:FuncId)(d:abP):Prop:=
 (∃fn,P.funcs[f]?=some fn/\fn.body.isSome=true/\(fn.name== "runtime.NumGoroutine")=false)/\
 ∀(args:Array Value) w c q,d args.toList w c q->Calls P f args w (ZW c (amR q))
def uY.p{d:bt}(h:uY P f d):amS P f λargs w c _=>d args w c:=
 ⟨h.1,λargs w c q a=>Calls.arf (h.2 args w c a)⟩
def M4(P:Program):List (Nat×abP)->Prop
 |[]=>True
 |(n,d)::l=>amS P n d/\M4 P l
def age:List (Nat×abP)->FuncId->abP
 |[],_,_,_,_,_=>False
 |(n,d)::l,f,args,w,c,q=>match Nat.beq n f with|true=>d args w c q|false=>age l f args w c q
def arh(l:List (Nat×abP))(q:Value->ap):ey:=λfn args w c=>match fn with
 | .func f=>age l f args.toList w c q
 | .method _=>match args.toList with|[.iface t v]=>q (.iface t v) w|_=>False
 |_=>False
def aeL:∀{l:List (Nat×abP)} {f:FuncId} {args:Array Value} {w:World} {c q:Value->ap},M4 P l->age l f args.toList w c q->
  (∃fn,P.funcs[f]?=some fn/\fn.body.isSome=true/\(fn.name== "runtime.NumGoroutine")=false)/\Calls P f args w (ZW c (amR q))
 |[],_,_,_,_,_,_,h=>h.elim
 |(n,d)::l,f,args,w,c,q,hl,h=>by
  unfold age at h;split at h
  .rename_i hb;have:=beq_eq hb;subst this;exact⟨hl.1.1,hl.1.2 args w c q h⟩
  .exact aeL hl.2 h
def ari{l:List (Nat×abP)}(a:M4 P l):tK P (arh l x1) (amR x1):=λfn args w c h=>by
 cases fn with
 |func f=>exact .inl (aeL a h)
 |method s=>
  unfold arh at h;dsimp only at h;split at h
  .rename_i t v b;exact⟨t,v,by cases args;simp_all,_,rfl,h⟩
  .exact h.elim
 |_=>exact h.elim
def IX:∀(l:List Value) (n:Nat) (a:Act),(∀i v,l[i]?=some v->a.tmps[n+i]?=some v)->Sub (DE n l) a
 |[],n,a,_=>λp hp=>by cases hp
 |v::l,n,a,h=>λp hp=>by
  rcases List.mem_cons.1 hp with rfl|hp
  .exact h 0 v bf
  .exact IX l (n+1) a (λi u b=>by have:=h (i+1) u (gq b);rwa[show n+(i+1)=n+1+i by omega]at this) p hp
def QH(a:Act):ResultVar->Sem Value
 | .tmp t=>pure (a.tmps.getD t undef)
 | .cell p t=>do loadVar t (<-asAddr (a.tmps.getD p undef))
def SZ{e:Env}{w:World}{a:Act}(hs:Sub e a):∀{rs:List ResultVar} {c:List Value->Prop},JZ P rs e w c->∃l,c l/\
  (rs.mapM (QH a)).run P w= .ok l w
 |[],c,h=>⟨[],h,rfl⟩
 |r::rs,c,h=>by
  unfold JZ azT at h;have key:∀v,(QH a r).run P w= .ok v w->(JZ P rs e w λl=>c (v::l))->∃l,c l/\
    ((r::rs).mapM (QH a)).run P w= .ok l w:=by
   intro v hv b;obtain⟨l,f,d⟩:=SZ hs b;refine⟨v::l,f,?_⟩;rw[List.mapM_cons];simp only[cR,hv,cK,d,cP]
  split at h
  .rename_i t;unfold IS at h;split at h
   .rename_i v hv;have:=qi hs _ _ hv;refine key v ?_ h;simp only[QH,cP];rw[<-this];rfl
   .exact h.elim
  .rename_i p t;cases hv:e.op (.tmp p)with
   |none=>rw[hv]at h;exact h.elim
   |some v=>
    rw[hv]at h;obtain⟨q,u,rfl,b,d⟩:=ZU h;have g:=qi hs _ _ hv;have h2:=d w λ_ _=>rfl;refine key u ?_ b;have i:a.tmps.getD p undef= .pointer (some q):=g;simp only[Instr.loadAt,Instr.sureAddr,cR,cP,cK]at h2;simp only[QH,i,asAddr,cR,cP,cK,h2]
def abQ(l:List Value):(if h:l.toArray.size=1 then l.toArray[0]else .tuple l.toArray)=e9 l:=by
 match l with
 |[]=>rfl
 |[v]=>rfl
 |_::_::_=>rfl
variable{fn:Func}{h:sP}{mask:Nat}
def aia(hm:P.follows .mixedOrders=true)(hf:P.funcs[f]?=some fn)(ho:tK P bY q)(qm ur:List K)
  (hok:Wo h fn qm.length=true)    {x:KT qm} (hx:args.toList=dL qm x) (hF:OP P bY mask h fn ur (dL qm x) w fun r w=>c (e9 (dL ur r)) w):
  (∃fn,P.funcs[f]?=some fn/\fn.body.isSome=true/\(fn.name== "runtime.NumGoroutine")=false)/\Calls P f args w (ZW c q):=by
 unfold Wo at hok;cases hb:fn.body with
 |none=>rw[hb]at hok;cases hok
 |some b=>
  rw[hb]at hok;simp only[Bool.and_eq_true,Bool.not_eq_true']at hok;refine⟨⟨fn,hf,by rw[hb];rfl,hok.2⟩,?_⟩
  have hlen:(dL qm x).length=qm.length:=by
   have:∀(ks:List K) (x:KT ks),(dL ks x).length=ks.length:=by
    intro ks;induction ks with
    |nil=>intro x;rfl
    |cons k r ih=>
     intro x;cases r with
     |nil=>rfl
     |cons y r=>show(dL (y::r) x.2).length+1=_;rw[ih];rfl
   exact this qm x
  unfold OP at hF;rw[hb]at hF;simp only at hF;have hle:qm.length<=fn.ntmps:=Nat.le_of_ble_eq_true hok.1.2;have hsz:args.size<=fn.ntmps:=by
   have:args.toList.length=qm.length:=by rw[hx,hlen]
   rw[Array.length_toList]at this;omega
  refine calls_of_wp hf hb ?_;have akA:=tV h b 0;have hw:=rE (ro:=none) (n0:=0) hm ho (nk h b 0).1 (DE 0 (dL qm x)) w {tmps:=args++Array.replicate (fn.ntmps - args.size) undef,defers:=[]} _ (bodyPost P fn (ZW c q)) ?_ ?_ ?_ hF ?_
  .rw[akA]at hw;exact wpIn_wide.1 hw
  .exact fun ch a' w' hd h=>⟨hd.2.1,h⟩
  .refine IX _ 0 _ fun i v hv=>?_;rw[<-hx]at hv;have Gq:args[i]?=some v:=by simpa using hv
   have hi:i<args.size:=(Array.getElem?_eq_some_iff.1 Gq).1;simp only[Nat.zero_add];rw[Array.getElem?_append_left hi];exact Gq
  .have:(args++Array.replicate (fn.ntmps - args.size) undef).size=fn.ntmps:=by simp;omega
   rw[this];exact hok.1.1
  .intro z e' w' a' hk hs hkp;have arj:a'.defers=[]:=hkp.2.1;have fin:(JZ P fn.results.toList e' w' fun l=>qW ur l fun x=>c (e9 (dL ur x)) w')->a'.defers=[]/\∃v,(results fn a'.tmps).run P w'= .ok v w'/\c v w':=by
    intro hr;obtain⟨l,hc,hrun⟩:=SZ hs hr;obtain⟨y,rfl,ES⟩:=zu hc;refine⟨arj,e9 (dL ur y),?_,ES⟩;have he:results fn a'.tmps=(do
      let vs<-fn.results.mapM (QH a');pure (if h:vs.size=1 then vs[0]else .tuple vs)):=by
     have hfun:(fun x=>(match x with| .tmp t=>pure (a'.tmps.getD t undef)| .cell a t=>do loadVar t (<-asAddr (a'.tmps.getD a undef)):Sem Value))=QH a':=by
      funext r;cases r<;>rfl
     unfold results;rw[<-hfun];rfl
    rw[he,Array.mapM_eq_mapM_toList];simp only[Sem.run_bind,Sem.run_map,hrun,Result.andThen_ok,Sem.run_pure];rw[abQ]
   cases z with
   |normal=>exact fin hk
   |ret=>exact fin hk
   |exit id=>exact hk.elim
def M5(j:P.follows .mixedOrders=true)(g:P.funcs[f]?=some fn)(k:tK P bY QB)(qm ur:List K)
  (a:Wo h fn qm.length=true) (F:KT qm->World->(KT ur->ap)->Prop) (l:∀x w c,OP P bY mask h fn ur (dL qm x) w c=F x w c):
  uY P f λargs w c=>qW qm args λx=>F x w λr w=>c (e9 (dL ur r)) w:=by
 refine⟨?_,λargs w c m=>?_⟩
 .unfold Wo at a;cases hb:fn.body with
  |none=>rw[hb]at a;cases a
  |some b=>
   rw[hb]at a;simp only[iY,Bool.not_eq_true']at a;exact⟨fn,g,by rw[hb];rfl,a.2⟩
 .obtain⟨x,n,i⟩:=zu m;rw[<-l]at i;refine(aia j g k qm ur a n i).2.mono λe w' d=>?_;cases e with
  |returned v=>exact⟨v,rfl,d⟩
  |panicked ch=>exact d.elim
  |outgrown=>exact d.elim
def aeM{ds:List (Nat×bt)}(d:P.follows .mixedOrders=true)(e:P.funcs[f]?=some fn)(a:FB P ds)(qm ur:List K)
  (b:Wo h fn qm.length=true) (F:KT qm->World->(KT ur->ap)->Prop) (g:∀x w c,OP P (kC ds) mask h fn ur (dL qm x) w c=F x w c):
  uY P f λargs w c=>qW qm args λx=>F x w λr w=>c (e9 (dL ur r)) w:=M5 d e (M3 a) qm ur b F g
open Go Go.RowKit
structure o7 (S:Nat->Prop) (w w':World):Prop where
 os:w'.os=w.os
 tape:w'.tape=w.tape
 output:w'.output=w.output
 size:w.heap.size<=w'.heap.size
 block:∀k,k<w.heap.size->¬S k->w'.heap[k]?=w.heap[k]?
abbrev Ext(w w':World):Prop:=o7 (λ_=>False) w w'
def o7.refl(S:Nat->Prop)(w:World):o7 S w w:=⟨rfl,rfl,rfl,iw _,λ_ _ _=>rfl⟩
variable{S T:Nat->Prop}{a b c:World}
variable{x4:Nat->Prop}
def o7.trans(h:o7 S a b)(k:o7 T b c)(f:∀k,k<a.heap.size->S k->x4 k)(g:∀k,k<a.heap.size->T k->x4 k):o7 x4 a c:=
 ⟨k.os.trans h.os,k.tape.trans h.tape,k.output.trans h.output,Nat.le_trans h.size k.size,λi hi e=>
  (k.block i (Nat.lt_of_lt_of_le hi h.size) (λd=>e (g i hi d))).trans (h.block i hi (λd=>e (f i hi d)))⟩
def o7.mono(h:o7 S a b)(d:∀k,k<a.heap.size->S k->T k):o7 T a b:=⟨h.os,h.tape,h.output,h.size,λk c e=>h.block k c λf=>e (d k c f)⟩
def Ext.trans(h:Ext a b)(k:Ext b c):Ext a c:=o7.trans h k (λ_ _ h=>h) (λ_ _ h=>h)
def Ext.only(h:Ext a b):o7 S a b:=o7.mono h λ_ _ h=>h.elim
variable{B:Nat}
def o7.below(h:o7 S w w')(a:B<=w.heap.size)(b:∀k,S k->B<=k):Below B w w':=
 ⟨h.os,h.tape,h.output,h.size,λk c=>h.block k (Nat.lt_of_lt_of_le c a) λd=>by have:=b k d;omega⟩
def Ext.below(h:Ext w w'):Below w.heap.size w w':=o7.below h (iw _) λ_ h=>h.elim
def Ext.then(h:Ext a b)(k:o7 T b c)(d:∀g,T g->a.heap.size<=g):Ext a c:=o7.trans h k (λ_ _ h=>h) λg f e=>by have:=d g e;omega
def o7.cell(h:o7 S w w')(a:¬S yr.block)(hv:w.cell? yr=some v):w'.cell? yr=some v:=
 (World.cell?_of_block (h.block yr.block (World.block_lt_of_cell? w yr hv) a)).trans hv
def Ext.cell(h:Ext w w')(hv:w.cell? yr=some v):w'.cell? yr=some v:=o7.cell h (λh=>h) hv
def AQ(w:World):Ext w w.drew:=⟨rfl,rfl,rfl,iw _,λ_ _ _=>rfl⟩
def CA(w:World)(o:Obj):Ext w (w.alloc o):=⟨rfl,rfl,rfl,bf,λk a _=>Go.heap_alloc_old w o a⟩
def UC(w:World)(p:Addr)(v:Value):o7 (λk=>k=p.block) w (w.setCell p v):=
 ⟨rfl,rfl,rfl,by simp[World.setCell],λk _ a=>heap_setCell_other w p k v a⟩
@[simp] theorem dg (g o n:Nat):(Addr.mk g o none).add n=⟨g,o+n,none⟩:=by
 unfold aY;split<;>simp_all
def pN(w:World)(g:Nat)(cs:Array Value):Prop:=∃e,w.heap[g]?=some (.cells cs e (0,0))
def pN.lt(h:pN w g cs):g<w.heap.size:=by
 obtain⟨e,h⟩:=h;exact(Bf.1 h).1
def pN.cell(h:pN w g cs)(i:Nat):w.cell? ⟨g,i,none⟩=cs[i]?:=by
 obtain⟨e,h⟩:=h;exact cell_of_row w g i cs e _ h
def pN.frozen(h:pN w g cs)(i:Nat):w.frozen? ⟨g,i,none⟩=false:=by
 obtain⟨e,h⟩:=h;exact frozen_of_row w g i cs e h
def pN.keep(h:pN w g cs)(a:o7 S w w')(b:¬S g):pN w' g cs:=by
 have:=a.block g h.lt b;obtain⟨e,h⟩:=h;exact⟨e,this.trans h⟩
def pN.ext(h:pN w g cs)(a:Ext w w'):pN w' g cs:=h.keep a λh=>h
def pN.new(w:World)(cs:Array Value)(t:TypeId):pN (w.alloc (.cells cs t)) w.heap.size cs:=⟨t,heap_alloc_new w _⟩
def pN.set(h:pN w g cs)(i:Nat)(v:Value):pN (w.setCell ⟨g,i,none⟩ v) g (cs.setIfInBounds i v):=by
 obtain⟨e,h⟩:=h;exact⟨e,heap_setCell_same w g i cs e v h⟩
def jJ{c:Addr->ap}(h:∀g w',g=w.heap.size->w'.heap.size=g+1->pN w' g cs->Ext w w'->c ⟨g,0,none⟩ w'):aE w cs t c:=
 h _ _ rfl bf (pN.new w cs t) (CA w _)
def M6{c:ap}(h:∀w',w'.heap=w.heap->Ext w w'->c w'):drew w c:=h _ rfl (AQ w)
variable{b:Bool}{x y:Prop}
def ax(a:b=true->x)(h2:b=false->y):an b x y:=by cases b;exact h2 rfl;exact a rfl
@[simp] theorem aAP (x y:Prop):an true x y=x:=rfl
@[simp] theorem azW (x y:Prop):an false x y=y:=rfl
def bK(hb:b=true)(h:x):an b x y:=by subst hb;exact h
def aU(hb:b=false)(h:y):an b x y:=by subst hb;exact h
variable{S:Type}{body:(S->ap)->Prop}
def bP{rest:S->ap}(I:S->ap)(a:∀J:S->ap,(∀x w,I x w->J x w)->body J)(h2:∀x w,I x w->rest x w):cz body rest:=a rest h2
def QI{rest:S->ap}(h:body rest):cz body rest:=h
variable{a:Addr}
variable{x5:Int}
def uZ{c:Int->Prop}(h:w.cell? a=some (.int k x5))(b:c x5):aJ k w a c:=by simp[aJ,rd,h,xS,b]
def akB{c:Bool->Prop}(h:w.cell? a=some (.bool y1))(b:c y1):He w a c:=by simp[He,rd,h,Ir,b]
def ark{c:Option Addr->Prop}(h:w.cell? a=some (.pointer yk))(b:c yk):aQ w a c:=by simp[aQ,rd,h,toP,b]
variable{s:Sl}
def IY{c:Sl->Prop}(h:w.cell? a=some (.slice s.a s.n s.c))(b:c s):cy w a c:=by simp[cy,rd,h,toS,b]
variable{o:Nat}
def abR{c:ap}(a:v.oneCell'=true)(hb:pN w g cs)(b:o<cs.size)
  (d:∀w',pN w' g (cs.setIfInBounds o v)->w'.heap.size=w.heap.size->o7 (λk=>k=g) w w'->c w'):bN w ⟨g,o,none⟩ v c:=
 ⟨a,by rw[hb.cell];simp[b],hb.frozen o,d _ (hb.set o v) (by simp[World.setCell]) (UC w ⟨g,o,none⟩ v)⟩
variable{x:Int}
def kg(h: -9223372036854775808<=x/\x<=9223372036854775807):IntKind.i64.wrap x=x:=IntWalk.i64_in x h
def bc{c:Addr->Prop}(h:c a):nn (some a) c:=h
variable{c:Int->Prop}{y:Int}
def amT(a:y≠0)(h:c (x.tmod y)):amz x y c:=⟨a,h⟩
def amU(a:0<=y)(h:c (IR k x y)):amA k x y c:=⟨a,h⟩
def Gf(a:0<=y)(h:c (sD k x y)):HI k x y c:=⟨a,h⟩
structure Hj (sz:Nat) (w:World) (s:Sl) (vs:List Value):Prop where
 len:vs.length=s.n*sz
 cell:∀i v,vs[i]?=some v->∃p,s.a=some p/\w.cell? (p.add i)=some v
variable{S:Nat->Prop}{sz:Nat}
def Hj.keep(h:Hj sz w s vs)(c:o7 S w w')(hs:∀p,s.a=some p->¬S p.block):Hj sz w' s vs:=
 ⟨h.len,λi v hv=>by
  obtain⟨p,b,d⟩:=h.cell i v hv;refine⟨p,b,c.cell ?_ d⟩;have:(p.add i).block=p.block:=by unfold aY;split<;>rfl
  rw[this];exact hs p b⟩
def Hj.ext(h:Hj sz w s vs)(a:Ext w w'):Hj sz w' s vs:=h.keep a λ_ _ h=>h
abbrev ints(xs:List Int):List Value:=xs.map (Value.int .i64)
def Sl.au(s:Sl):Option Nat:=s.a.map (·.block)
structure Own (w:World) (B:Nat) (s:Sl) (xs:List Value):Prop where
 len:xs.length=s.n
 cap:s.n<=s.c
 max:s.c<=9223372036854775807
 one:∀x∈xs,x.oneCell'=true
 row:(s.a=none/\s.c=0)\/∃g off cs,s.a=some ⟨g,off,none⟩/\B<=g/\pN w g cs/\off+s.c<=cs.size/\∀i v,xs[i]?=some v->cs[off+i]?=some v
def Own.nil(w:World)(B:Nat):Own w B ⟨none,0,0⟩ []:=⟨rfl,iw _,bf,bf,.inl ⟨rfl,rfl⟩⟩
variable{xs:List Value}
def Own.sls(h:Own w B s xs):Hj 1 w s xs:=by
 refine⟨by rw[h.len];simp,λi v hv=>?_⟩
 rcases h.row with⟨a,h2⟩|⟨g,off,cs,a,_,b,_,c⟩
 .have d:=h.cap;have e:i<xs.length:=(kB.1 hv).1;have f:=h.len;omega
 .exact⟨_,a,by rw[dg,b.cell];exact c i v hv⟩
def Own.keep(h:Own w B s xs)(b:o7 S w w')(hs:∀g,s.au=some g->¬S g):Own w' B s xs:=by
 refine⟨h.len,h.cap,h.max,h.one,h.row.imp id ?_⟩;rintro⟨g,off,cs,a,h2,c,d,e⟩;exact⟨g,off,cs,a,h2,c.keep b (hs g (by simp[Sl.au,a])),d,e⟩
def Own.ext(h:Own w B s xs)(a:Ext w w'):Own w' B s xs:=h.keep a λ_ _ h=>h
def Own.below(h:Own w B s xs)(a:s.au=some g):B<=g/\g<w.heap.size:=by
 rcases h.row with⟨b,_⟩|⟨d,off,cs,b,h2,c,_⟩
 .simp[Sl.au,b]at a
 .simp[Sl.au,b]at a;subst a;exact⟨h2,c.lt⟩
def Own.out(h:Own w B s xs)(a:o<=B):∀g,s.au=some g->o<=g:=λ_ b=>Nat.le_trans a (h.below b).1
variable{x6:List Int}
def IK:∀v∈ints x6,v.oneCell'=true:=by
 intro v hv;obtain⟨x,_,rfl⟩:=List.mem_map.1 hv;rfl
variable{l:List Value}
def WJ(hb:pN w g l.toArray)(a:l.length=n)(c:Nat):Hj 1 w ⟨some ⟨g,0,none⟩,n,c⟩ l:=
 ⟨by simp[a],λi v hv=>⟨_,rfl,by rw[dg,hb.cell];simpa using hv⟩⟩
def Own.new(hb:pN w g l.toArray)(b:B<=g)(a:l.length=n)(c:n<=9223372036854775807)(d:∀x∈l,x.oneCell'=true):Own w B ⟨some ⟨g,0,none⟩,n,n⟩ l:=
 ⟨a,iw _,c,d,.inr ⟨g,0,l.toArray,rfl,b,hb,by simp[a],λi v hv=>gq hv⟩⟩
def ElT(P:Program)(t e:TypeId)(b:Nat)(z:Value):Prop:=P.underlying t=some (.slice e)/\(P.info? e).map (λi=>(i.size,i.bytes,i.zero))=some (1,b,some z)
variable{b:Nat}{e:TypeId}{z:Value}
def ElT.info(h:ElT P t e b z):∃i,P.info? e=some i/\i.size=1/\i.bytes=b/\i.zero=some z:=by
 have h2:=h.2;cases hi:P.info? e with
 |none=>simp[hi]at h2
 |some i=>simp[hi]at h2;exact⟨i,rfl,h2⟩
def FC(h:Hj 1 w s vs):(Builtin.firstCells 1 s.n (.slice s.a s.n s.c)).run P w= .ok vs.toArray w:=by
 cases ha:s.a with
 |none=>
  have:vs=[]:=by
   cases vs with
   |nil=>rfl
   |cons v l=>obtain⟨p,b,_⟩:=h.cell 0 v rfl;rw[ha]at b;cases b
  subst this;exact run_firstCells_none w 1 s.n s.n s.c
 |some p=>
  exact run_firstCells_some w 1 s.n p s.n s.c vs (by rw[h.len]) λj v hv=>by
   obtain⟨q,hq,d⟩:=h.cell j v hv;rw[ha]at hq;cases hq;exact d
variable{e' tx:TypeId}
def awS(b:P.underlying tx=some (.slice e'))(h:Hj 1 w s vs)(d:∀v∈vs,v.oneCell'=true):Src P 1 tx (.slice s.a s.n s.c) s.n vs w:=
 ⟨.inl ⟨e',b⟩,λ_=>rfl,FC h,FC (h.ext (AQ w)),by rw[h.len],d⟩
def KW{e:TypeId}:∀(l:List Value) (w:World) (g o:Nat) (cs:Array Value),w.heap[g]?=some (.cells cs e (0,0))->o+l.length<=cs.size->
  ∃cs',(w.setCells g o l).heap[g]?=some (.cells cs' e (0,0))/\cs'.size=cs.size/\(∀j,j<o\/o+l.length<=j->cs'[j]?=cs[j]?)/\(∀i v,l[i]?=some v->cs'[o+i]?=some v)/\o7 (λk=>k=g) w (w.setCells g o l)/\(w.setCells g o l).heap.size=w.heap.size
 |[],w,g,o,cs,h,_=>⟨cs,h,rfl,λ_ _=>rfl,λi v hv=>by simp at hv,.refl _ _,rfl⟩
 |v::l,w,g,o,cs,h,hl=>by
  simp only[List.length_cons]at hl;obtain⟨cs',d,h2,b,f,m,n⟩:=KW l (w.setCell ⟨g,o,none⟩ v) g (o+1) (cs.setIfInBounds o v) (heap_setCell_same w g o cs e v h) (by simp;omega)
  refine⟨cs',d,gq h2,λj c=>?_,λi u a=>?_,o7.trans (UC w ⟨g,o,none⟩ v) m (λ_ _ h=>h) (λ_ _ h=>h),by rw[World.setCells,n];simp[World.setCell]⟩
  .rw[b j (by simp only[List.length_cons]at c;omega)]
   rw[Array.getElem?_setIfInBounds_ne (by simp only[List.length_cons]at c;omega)]
  .cases i with
   |zero=>
    simp at a;subst a;rw[b (o+0) af,Nat.add_zero,Array.getElem?_setIfInBounds_self];rw[if_pos af]
   |succ i=>
    have:=f i u (gq a)
    rwa[show o+(i+1)=o+1+i by omega]
variable{ty:TypeId}{x:Sl}{ys:List Value}
def awT{c:Sl->ap}(y:ElT P t e b z)(V:z.oneCell'=true)(A:P.underlying tx=some (.slice e'))
  (d:Own w B s xs) (m:Hj 1 w x ys) (S:∀v∈ys,v.oneCell'=true) (W:B<=w.heap.size) (hbytes:(xs.length+ys.length)*b<=140737488355328) (X:xs.length+ys.length<=9223372036854775807)
  (D:∀s' w',Own w' B s' (xs++ys)->o7 (λk=>s.au=some k) w w'->(s'.au=s.au\/∃g,s'.au=some g/\w.heap.size<=g)->c s' w'):
  og P #[t,tx] ty [.slice s.a s.n s.c,.slice x.a x.n x.c] w c:=by
 obtain⟨i,hi,l,F,Y⟩:=y.info;have hs:=awS A m S;have G:x.n=ys.length:=by have:=m.len;omega
 have o:∀v∈xs++ys,v.oneCell'=true:=λv hv=>(zw.1 hv).elim (d.one v) (S v);unfold og;by_cases hroom:s.n+x.n<=s.c
 .rcases d.row with⟨h2,H⟩|⟨g,off,cs,h2,H,Z,h5,h6⟩
  .have I:x.n=0:=af;have J:s.n=0:=af;have K:ys=[]:=List.eq_nil_of_length_eq_zero af;have L:xs=[]:=List.eq_nil_of_length_eq_zero (by have:=d.len;omega)
   subst K;subst L;rw[h2,J,H];have r:(Builtin.append_ #[t,tx] ty #[.slice none 0 0,.slice x.a x.n x.c]).run P w= .ok (.slice none 0 0) w:=by
    have p:=hs.cells;simp only[List.toArray]at p;have f:=hs.len w;rw[I]at f p ⊢;simp[Builtin.append_,run_underlying y.1,run_underlying A,sizeOf,typeInfo,hi,l,Builtin.lenOf,Builtin.firstCells]at p ⊢;cases M:x.a<;>simp[Builtin.firstCells,M,loadCells,loadCellsFrom]
   simp only[List.toArray]at*
   rw[r];show c ⟨none,0,0⟩ w;exact D _ _ (gq (Own.nil w B)) (.refl _ _) (.inl (by simp[Sl.au,h2]))
  .obtain⟨N,q⟩:=Z;have f:=d.len;have hcell:∀j,j<ys.length->(w.cell? ⟨g,off+s.n*i.size+j,none⟩).isSome=true:=by
    intro j C;rw[l,Nat.mul_one,(show pN w g cs from⟨N,q⟩).cell];have:off+s.n+j<cs.size:=af;simp[this]
   have O:∀j,j<ys.length->w.frozen? ⟨g,off+s.n*i.size+j,none⟩=false:=λj _=>(show pN w g cs from⟨N,q⟩).frozen _;rw[<-l]at hs;have r:=run_append_room_src w t tx ty e i y.1 hi g off s.n s.c _ x.n ys hs hroom hcell O;obtain⟨cs',k1,k2,k3,k4,k5,k6⟩:=KW ys w g (off+s.n) cs q af;rw[l,Nat.mul_one]at r;rw[h2];simp only[List.toArray]at*
   rw[r];show c ⟨some ⟨g,off,none⟩,s.n+x.n,s.c⟩ _;refine D _ _ ⟨by simp;omega,hroom,d.max,o,.inr ⟨g,off,cs',rfl,H,⟨N,k1⟩,by rw[k2];exact h5,λj v hv=>?_⟩⟩ (k5.mono λk _ A=>by simp[Sl.au,h2,A]) (.inl (by simp[Sl.au,h2]))
   by_cases C:j<xs.length
   .rw[tJ C]at hv;rw[k3 _ af];exact h6 j v hv
   .rw[u0 af]at hv;have:=k4 _ v hv;rwa[show off+s.n+(j - xs.length)=off+j by omega]at this
 .have T:s.c<s.n+x.n:=af;have f:=d.len;have u:Builtin.nextslicecap (s.n+x.n) s.c*i.bytes<=281474976710656:=growslice_fits T (by rw[F,G,<-f];exact hbytes)
  have hold:=FC (P:=P) (d.sls.ext (AQ w));rw[<-l]at hold hs;have r:=run_append_grow_src w t tx ty e i z y.1 hi Y s.a s.n s.c xs hold _ x.n ys hs T af u;simp only[List.toArray]at*
  rw[r];have Q:=grownCap_ge w (s.n+x.n) s.c e;have U:=grownCap_le_maxLen w (s.n+x.n) s.c e (by unfold maxLen;omega)
  unfold maxLen at U;show c ⟨some ⟨w.heap.size,0,none⟩,s.n+x.n,_⟩ _;have R:z.cells.size=1:=by rw[Cy V];rfl
  refine D _ _ ⟨by simp;omega,Q,U,o,.inr ⟨w.heap.size,0,_,rfl,W,pN.new w.drew _ e,?_,λj v hv=>?_⟩⟩ (Ext.only ((AQ w).trans (CA _ _))) (.inr ⟨w.heap.size,rfl,iw _⟩)
  .simp[size_zeroCells,R];omega
  .have C:j<(xs++ys).length:=(kB.1 hv).1;rw[Nat.zero_add,Array.getElem?_append_left (gq C)]
   simpa using hv
structure Part (s:Sl) (lo:Nat) (d:Sl):Prop where
 addr:d.a=s.a.map (·.add lo)\/d.n=0
 fits:lo+d.n<=s.n
def Part.all(s:Sl):Part s 0 s:=⟨.inl (by cases s.a<;>simp[add_zero]),af⟩
def Own.off{w:World}{B:Nat}{s d:Sl}{xs ys:List Value}{lo:Nat}(h:Own w B s xs)(k:ys.length=d.n)(l:d.n<=d.c)(m:lo+d.c<=s.c)(b:d.a=s.a.map (·.add lo)\/(d.a=s.a/\d.c=0))(hv:∀i v,ys[i]?=some v->xs[lo+i]?=some v):Own w B d ys:=by
 have o:=h.max;refine⟨k,l,af,λx p=>?_,?_⟩
 .obtain⟨i,hi,rfl⟩:=List.getElem_of_mem p;have:=hv i ys[i] (by simp[hi])
  exact h.one _ (qn this)
 .rcases h.row with⟨e,h2⟩|⟨g,off,cs,e,h2,j,r,q⟩
  .refine .inl ⟨?_,af⟩;rcases b with b|⟨b,_⟩<;>rw[b,e] <;>rfl
  .rcases b with b|⟨b,t⟩
   .exact .inr ⟨g,off+lo,cs,by rw[b,e];simp,h2,j,af,λi v hi=>by rw[Nat.add_assoc];exact q _ _ (hv i v hi)⟩
   .have f:ys=[]:=List.eq_nil_of_length_eq_zero af;subst f;exact .inr ⟨g,off,cs,by rw[b,e],h2,j,af,λi v hi=>by simp at hi⟩
def abS{lo:Int}{c:Sl->Prop}(h:Own w B s xs)(f:0<=lo)(g:lo<=s.n)
  (j:∀d,Part s lo.toNat d->d.n=s.n - lo.toNat->d.au=s.au->Own w B d (xs.drop lo.toNat)->c d):slL s 1 lo c:=by
 have b:=h.cap;have e:=h.len;refine⟨⟨f,g⟩,j _ ⟨?_,by simp;omega⟩ rfl ?_ (h.off (lo:=lo.toNat) (by simp;omega) (by simp;omega) (by simp;omega) ?_ λi v hi=>gq hi)⟩
 .by_cases hq:s.c=lo.toNat
  .right;simp;omega
  .left;simp[hq]
 .by_cases hq:s.c=lo.toNat
  .simp[Sl.au,hq]
  .simp only[Sl.au,hq,if_false];cases s.a with
   |none=>rfl
   |some p=>simp[aY];split<;>rfl
 .by_cases hq:s.c=lo.toNat
  .right;simp[hq]
  .left;simp[hq]
def agf(w:World)(g:Nat)(cs:Array Value):o7 (λk=>k=g) w (w.setRow g cs):=
 ⟨rfl,rfl,rfl,by simp[World.setRow],λk _ a=>by simp[World.setRow,Array.getElem?_modify,Ne.symm a]⟩
variable{x7:Sl}
def abT{lo:Nat}{d:Sl}{c:Int->ap}(J:ElT P t e b z)
  (f:Own w B s xs) (K:Part s lo d) (m:Hj 1 w x ys) (L:∀v∈ys,v.oneCell'=true)
  (M:∀w',Own w' B s (xs.take lo++(ys.take (min d.n x.n)++xs.drop (lo+min d.n x.n)))->o7 (λk=>s.au=some k) w w'->w'.heap.size=w.heap.size->c (min d.n x.n:Nat) w'):
  U1 P #[t,tx] ty [.slice d.a d.n d.c,.slice x.a x.n x.c] w c:=by
 obtain⟨i,hi,D,S,WK⟩:=J.info;have T:x.n=ys.length:=by have:=m.len;omega
 have N:=f.len;have U:=K.fits;unfold U1;have hread:(Builtin.firstCells i.size (min d.n x.n) (.slice x.a x.n x.c)).run P w= .ok (ys.take (min d.n x.n)).toArray w:=by
  rw[D];by_cases o:x.a=none
  .have:ys=[]:=by
    cases ys with
    |nil=>rfl
    |cons v l=>obtain⟨p,r,_⟩:=m.cell 0 v rfl;rw[o]at r;cases r
   subst this;rw[o,List.take_nil];exact run_firstCells_none w 1 _ _ _
  .obtain⟨p,r⟩:=Option.ne_none_iff_exists'.1 o;rw[r];refine run_firstCells_some w 1 _ p _ _ _ (by simp;omega) λj v hv=>?_
   rw[List.getElem?_take]at hv;split at hv
   .obtain⟨q,hq,V⟩:=m.cell j v hv;rw[r]at hq;cases hq;exact V
   .cases hv
 have W:(Builtin.firstCells i.size (min x.n d.n) (.slice x.a x.n x.c)).run P w= .ok (ys.take (min d.n x.n)).toArray w:=by rw[Nat.min_comm];exact hread
 have F:(Builtin.copy_ #[t,tx] ty #[.slice d.a d.n d.c,.slice x.a x.n x.c]).run P w=match d.a with
   |some a=>((storeCells a (ys.take (min d.n x.n))).run P w).andThen λ_ w=> .ok (goInt ((min d.n x.n:Nat):Int)) w
   |none=> .ok (goInt ((min d.n x.n:Nat):Int)) w:=by
  have X:Nat.min x.n d.n=min d.n x.n:=Nat.min_comm _ _;cases u:d.a<;>simp[Builtin.copy_,run_underlying J.1,Builtin.lenOf,sizeOf,typeInfo,hi,X,hread]
 simp only[List.toArray]at*
 rw[F];by_cases O:min d.n x.n=0
 .have:=M w (by rw[O];simpa using f) (.refl _ _) rfl
  rw[O]at this ⊢;cases d.a<;>exact this
 .rcases f.row with⟨h2,Q⟩|⟨g,off,cs,h2,Q,Y,h5,R⟩
  .have:=f.cap;omega
  .have u:d.a=some ⟨g,off+lo,none⟩:=by
    rcases K.addr with h|h
    .rw[h,h2];simp
    .omega
   obtain⟨G,y⟩:=Y;have A:=f.cap;have C:=run_storeCells_at P g (off+lo) G (ys.take (min d.n x.n)) 0 cs w y (by simp;omega) λv hv=>L v (List.mem_of_mem_take hv)
   rw[u];simp only[Nat.add_zero]at C;simp only[C,cK];show c (min d.n x.n:Nat) _;refine M _ ⟨by simp;omega,A,f.max,λv hv=>?_,.inr ⟨g,off,_,h2,Q,⟨G,setRow_heap w g cs _ G (0,0) y⟩,by simp;omega,λi v hv=>?_⟩⟩ ((agf w g _).mono λk _ Z=>by simp[Sl.au,h2,Z]) (by simp[World.setRow])
   .rcases zw.1 hv with hv|hv
    .exact f.one v (List.mem_of_mem_take hv)
    .rcases zw.1 hv with hv|hv
     .exact L v (List.mem_of_mem_take hv)
     .exact f.one v (List.mem_of_mem_drop hv)
   .have hi:i<s.n:=by
     have:=(kB.1 hv).1;simp at this;omega
    simp only[List.getElem?_toArray];by_cases c1:i<lo
    .rw[tJ (by simp;omega),List.getElem?_take_of_lt c1]at hv
     rw[List.append_assoc,tJ (by simp;omega),List.getElem?_take_of_lt af]
     simpa using R i v hv
    .rw[u0 (by simp;omega)]at hv
     rw[List.append_assoc,u0 (by simp;omega)]
     have el:(List.take lo xs).length=lo:=by simp;omega
     have H:(List.take (off+lo) cs.toList).length=off+lo:=by simp;omega
     rw[el]at hv;rw[H,show off+i - (off+lo)=i - lo by omega]
     by_cases c2:i - lo<min d.n x.n
     .rw[tJ (by simp;omega)]at hv ⊢
      exact hv
     .rw[u0 (by simp;omega)]at hv ⊢
      rw[List.getElem?_drop]at hv ⊢;have I:(List.take (min d.n x.n) ys).length=min d.n x.n:=by simp;omega
      rw[I]at hv ⊢;rw[show lo+min d.n x.n+(i - lo - min d.n x.n)=i by omega]at hv
      rw[show off+lo+min d.n x.n+(i - lo - min d.n x.n)=off+i by omega]
      simpa using R i v hv
variable{kc:IntKind}
def amV{c:Sl->ap}(l:ElT P t e b z)(m:z.oneCell'=true)(o:B<=w.heap.size)
  (hbytes:b*n<=281474976710656) (d:n<=9223372036854775807)
  (p:∀s w',Own w' B s (dU n z)->Ext w w'->s.n=n->s.c=n->s.au=some w.heap.size->w'.heap.size=w.heap.size+1->c s w'):xz P t (.int kl (n:Int)) (.int kc (n:Int)) w c:=by
 obtain⟨i,hi,f,g,q⟩:=l.info;have k:(i.bytes:Int)*(n:Int)<=281474976710656:=by
  have h:((b*n:Nat):Int)<=281474976710656:=af;rw[Int.natCast_mul]at h;rwa[g]
 have r:=run_make w t e i z l.1 hi q kl kc n n af (Int.le_refl _) k af;unfold xz;rw[r,f,Nat.mul_one,Cy m];have a:madeCells #[z] n=(dU n z).toArray:=by
  apply Array.ext
  .simp[madeCells]
  .intro j v h2;simp[madeCells,Nat.mod_one]
 rw[iZ,a];show c ⟨some ⟨w.heap.size,0,none⟩,n,n⟩ _;exact p _ _ (Own.new (pN.new w _ e) o bf d λx u=>by rw[(List.mem_replicate.1 u).2];exact m) (CA w _) rfl rfl rfl bf
def aeN{g o:Nat}:∀(l:List Value) (w:World) (i:Nat) (cs:Array Value) (c:ap),pN w g cs->o+i+l.length<=cs.size->(∀v∈l,v.oneCell'=true)->
  (∀w' cs',pN w' g cs'->cs'.size=cs.size->(∀j,j<o+i\/o+i+l.length<=j->cs'[j]?=cs[j]?)->(∀j v,l[j]?=some v->cs'[o+i+j]?=some v)->o7 (λk=>k=g) w w'->w'.heap.size=w.heap.size->c w')->JU w ⟨g,o,none⟩ i l c
 |[],w,i,cs,c,hb,_,_,hc=>hc w cs hb rfl (λ_ _=>rfl) (λj v h=>by simp at h) (.refl _ _) rfl
 |v::l,w,i,cs,c,hb,hl,h1,hc=>by
  simp only[List.length_cons]at hl;unfold JU;rw[dg];refine abR (h1 v bf) hb af λw1 r a b=>aeN l w1 (i+1) _ c r (by simp;omega) (λx s=>h1 x (by simp[s])) λt d y e p f m z=>?_
  refine hc t d y (gq e) (λj q=>?_) (λj u n=>?_) (b.trans m (λ_ _ h=>h) λ_ _ h=>h) (z.trans a)
  .rw[p j (by simp only[List.length_cons]at q;omega)]
   rw[Array.getElem?_setIfInBounds_ne (by simp only[List.length_cons]at q;omega)]
  .cases j with
   |zero=>
    simp at n;subst n;rw[p (o+i+0) af,Nat.add_zero,Array.getElem?_setIfInBounds_self];rw[if_pos af]
   |succ j=>
    have:=f j u (gq n)
    rwa[show o+i+(j+1)=o+(i+1)+j by omega]
def agh{c:ap}(hb:pN w g cs)(a:yv.size=n)(e:o+n<=cs.size)(d:∀v∈yv,v.oneCell'=true)
  (f:∀w' cs',pN w' g cs'->cs'.size=cs.size->(∀j,j<o\/o+n<=j->cs'[j]?=cs[j]?)->(∀j,j<n->cs'[o+j]?=yv[j]?)->o7 (λk=>k=g) w w'->w'.heap.size=w.heap.size->c w'):dQ n w ⟨g,o,none⟩ yv c:=by
 refine⟨a,aeN yv.toList w 0 cs c hb (by simpa[a]using e) (λv hv=>d v (gq hv)) λw' cs' d h2 i l m p=>f w' cs' d h2 (λj b=>i j (by simpa[a]using b)) (λj b=>?_) m p⟩
 have:=l j yv[j] (by simp[a,b])
 rw[Nat.add_zero]at this;rw[this];simp[a,b]
def aeO{w:World}{g o:Nat}{cs:Array Value}(hb:pN w g cs):∀(n i:Nat),o+i+n<=cs.size->Gd w ⟨g,o,none⟩ i n=some ((cs.toList.drop (o+i)).take n)
 |0,i,_=>by simp[Gd]
 |n+1,i,h=>by
  unfold Gd;rw[dg,hb.cell,aeO hb n (i+1) af];have e:cs.toList.drop (o+i)=cs[o+i]::cs.toList.drop (o+(i+1)):=by
   rw[List.drop_eq_getElem_cons (by simp;omega)];rfl
  rw[e];simp[show o+i<cs.size by omega]
def akC{c:Array Value->Prop}(hb:pN w g cs)(b:o+n<=cs.size)(a:c ((cs.toList.drop o).take n).toArray):bx n w ⟨g,o,none⟩ c:=by
 unfold bx;rw[aeO hb n 0 af];exact a
variable{i:Int}
def uu{c:Addr->Prop}(a:0<=i)(b:i<m)(d:c ⟨g,o+i.toNat*sz,none⟩):Hf ⟨g,o,none⟩ m i sz c:=⟨⟨a,b⟩,by rw[dg];exact d⟩
def sy(x:Int):Prop:= -9223372036854775808<=x/\x<=9223372036854775807
instance (x:Int):Decidable (sy x):=inferInstanceAs (Decidable (_/\_))
abbrev bv(x:Int):BitVec 64:=BitVec.ofInt 64 x
variable{x:Int}
def aeP(h:sy x):(bv x).toInt=x:=by
 rw[BitVec.toInt_ofInt,Int.bmod_eq_of_le (by simp[sy]at h;omega) (by simp[sy]at h;omega)]
def abU(b:BitVec 64):IntKind.i64.wrap (b.toNat:Int)=b.toInt:=by
 rw[IntKind.wrap_i64,BitVec.toInt_eq_toNat_cond];have:=b.isLt;split<;>omega
def abV(b:BitVec 64):sy b.toInt:=by
 have a:=b.toInt_lt;have h2:=b.le_toInt;simp at a h2;exact⟨af,af⟩
def arm(x:Int):IntKind.i64.wrap x=(bv x).toInt:=by
 rw[IntKind.wrap_i64,BitVec.toInt_ofInt,Int.bmod_def];split<;>omega
def dh(h:sy x):IntKind.i64.wrap x=x:=by rw[arm,aeP h]
def QJ(x y:Int):oH .i64 x y=(bv x&&&bv y).toInt:=abU _
def agi(x y:Int):Ti .i64 x y=(bv x|||bv y).toInt:=abU _
def QK(x y:Int):tU .i64 x y=(bv x&&&~~~ bv y).toInt:=abU _
def DH(b:BitVec 64):bv b.toInt=b:=BitVec.ofInt_toInt
def arn(h:sy x)(a:i<64):IR .i64 x i=((bv x).sshiftRight i.toNat).toInt:=by
 rw[BitVec.toInt_sshiftRight,aeP h];unfold IR;have:min i.toNat IntKind.i64.bits=i.toNat:=by simp[IntKind.bits];omega
 rw[this,Int.shiftRight_eq_div_pow,Int.fdiv_eq_ediv_of_nonneg _ (by exact_mod_cast Nat.zero_le (2 ^ i.toNat))]
 simp
def tb(x:Int)(i:Nat):Bool:=(bv x).getLsbD i
def aDf(h:sy x)(b:0<=i)(a:i<64):(oH .i64 (IR .i64 x i) 1==1)=tb x i.toNat:=by
 rw[QJ,arn h a,DH];have e:bv 1=1#64:=e7;rw[e,BitVec.and_one_eq_setWidth_ofBool_getLsbD,BitVec.getLsbD_sshiftRight];have:(decide (64<=0))=false:=e7;simp only[this,Bool.not_false,Bool.true_and,Nat.add_zero];rw[if_pos af];unfold tb;cases (bv x).getLsbD i.toNat<;>decide
def Vc(x y:Int){i:Nat}(h:i<64):tb (tU .i64 x y) i=(tb x i&& !tb y i):=by
 unfold tb;rw[QK,DH];simp[h]
def aic(x y:Int):sy (tU .i64 x y):=by rw[QK];exact abV _
abbrev BI(w:World)(g:Nat)(l:List Int):Prop:=pN w g (ints l).toArray
abbrev eZ(l:List Int):Array Value:=(ints l).toArray
variable{l:List Int}
def m8(h:o<l.length):(eZ l)[o]?=some (.int .i64 (l.getD o 0)):=by
 simp[eZ,ints,m0,h]
def BI.cell(h:BI w g l)(a:o<l.length):w.cell? ⟨g,o,none⟩=some (.int .i64 (l.getD o 0)):=by
 rw[pN.cell h,m8 a]
def j3(h:BI w g l)(a:o<l.length)(b:c (l.getD o 0)):aJ .i64 w ⟨g,o,none⟩ c:=uZ (h.cell a) b
def ints_set:(eZ l).setIfInBounds o (.int .i64 x)=eZ (l.set o x):=by
 simp[eZ,ints,List.map_set]
variable{c:ap}
def CB(h:BI w g l)(a:o<l.length)(b:∀w',BI w' g (l.set o x)->w'.heap.size=w.heap.size->o7 (λk=>k=g) w w'->c w'):bN w ⟨g,o,none⟩ (.int .i64 x) c:=
 abR rfl h (by simpa[eZ,ints]using a) λw' hb hs a=>b w' (by rw[ints_set]at hb;exact hb) hs a
def agj{b:Array Value}(h:pN w g cs)(e:∀j:Nat,cs[j]?=b[j]?):pN w g b:=by
 have:cs=b:=by
  obtain⟨cs⟩:=cs;obtain⟨b⟩:=b;congr 1;exact List.ext_getElem? λj=>gq (e j)
 rwa[<-this]
def xT(h:pN w g cs)(hs:cs.size=n)(a:l.length=n)(b:∀w',BI w' g l->w'.heap.size=w.heap.size->o7 (λk=>k=g) w w'->c w'):dQ n w ⟨g,0,none⟩ (eZ l) c:=by
 refine agh h (by simpa[eZ,ints]using a) af (λv hv=>IK v (by simpa[eZ]using hv)) λw' cs' hb f i hv d hs'=>b w' (agj hb λj=>?_) hs' d
 by_cases e:j<n
 .have:=hv j e;rwa[Nat.zero_add]at this
 .rw[Array.getElem?_eq_none af,Array.getElem?_eq_none (by simp[eZ,ints];omega)]
def aAR(h:BI w g l)(d:x6.length=n)(e:o+n<=l.length)(f:∀w',BI w' g (l.take o++(x6++l.drop (o+n)))->w'.heap.size=w.heap.size->o7 (λk=>k=g) w w'->c w'):dQ n w ⟨g,o,none⟩ (eZ x6) c:=by
 refine agh h (by simpa[eZ,ints]using d) (by simpa[eZ,ints]using e) (λv hv=>IK v (by simpa[eZ]using hv)) λw' cs' hb i a hv m hs'=>f w' (agj hb λj=>?_) hs' m
 have p:cs'.size=l.length:=by simpa[eZ,ints]using i
 by_cases b:j<o
 .rw[a j (.inl b)];simp only[eZ,ints,List.getElem?_toArray,l8];rw[tJ (by simp;omega),List.getElem?_take_of_lt b]
 .by_cases h2:j<o+n
  .have:=hv (j - o) af;rw[show o+(j - o)=j by omega]at this
   rw[this];simp only[eZ,ints,List.getElem?_toArray,l8];rw[u0 (by simp;omega),tJ (by simp;omega)]
   congr 2;simp;omega
  .rw[a j (.inr af)];simp only[eZ,ints,List.getElem?_toArray,l8];rw[u0 (by simp;omega),u0 (by simp;omega),List.getElem?_drop]
   congr 2;simp;omega
variable{c:Array Value->Prop}
def kV(h:BI w g l)(a:l.length=n)(b:c (eZ l)):bx n w ⟨g,0,none⟩ c:=by
 refine akC h (by simp[eZ,ints];omega) ?_
 have:((eZ l).toList.drop 0).take n=ints l:=by simp[eZ,ints,List.take_of_length_le,a]
 rw[this];exact b
def aro(h:BI w g l)(a:o+n<=l.length)(b:c (eZ ((l.drop o).take n))):bx n w ⟨g,o,none⟩ c:=by
 refine akC h (by simpa[eZ,ints]using a) ?_
 have:((eZ l).toList.drop o).take n=ints ((l.drop o).take n):=by simp[eZ,ints,List.map_take,List.map_drop]
 rw[this];exact b
def arp{c:Value->Prop}(a:0<=i)(b:i<n)(e:l.length=n)(d:c (.int .i64 (l.getD i.toNat 0))):ixA (eZ l) n i c:=by
 refine⟨⟨a,b⟩,?_⟩;unfold Qq;rw[m8 af];exact d
def I0{c:Int->Prop}(h:c x):xS .i64 (.int .i64 x) c:=h
def BV{c:Prop}(h:pN w g cs)(h':pN w' g cs)(a:c):ai n ⟨g,o,none⟩ w w' c:=
 ⟨λk _=>by rw[dg,h.cell,h'.cell],a⟩
def WM:∀(os:List Nat) (xs ys:List Int),(∀o∈os,o<xs.length/\o<ys.length)->oZ (eZ xs) (eZ ys) (os.map λo=>(o,0))=some (os.all λo=>xs.getD o 0==ys.getD o 0)
 |[],_,_,_=>rfl
 |o::os,xs,ys,h=>by
  have a:=h o bf;simp only[List.map_cons,oZ,m8 a.1,m8 a.2,eqC,if_true];rw[WM os xs ys λo b=>h o (by simp[b])]
  simp
variable{xs:List Int}
def akD{ys:List Int}{c:Bool->Prop}(f:xs.length=n)(g:ys.length=n)(a:c (decide (xs=ys))):Tj ((List.range n).map λo=>(o,0)) (eZ xs) (eZ ys) c:=by
 unfold Tj;rw[WM _ _ _ λo b=>by simp at b;omega]
 have e:((List.range n).all λo=>xs.getD o 0==ys.getD o 0)=decide (xs=ys):=by
  rw[Bool.eq_iff_iff,decide_eq_true_eq,tL];constructor
  .intro h;apply List.ext_getElem?;intro j;by_cases d:j<n
   .have:=h j (gq d)
    simp only[m0,beq_iff_eq]at this;rw[iH af,iH af]at this ⊢;simpa using this
   .rw[List.getElem?_eq_none af,List.getElem?_eq_none af]
  .rintro rfl o _;simp
 rw[e];exact a
def abW(L:List Value)(n:Nat)(v:Value):(L.set n v).take n=L.take n:=by
 apply List.ext_getElem?;intro j;rw[List.getElem?_take,List.getElem?_take];split
 .rw[r0 af]
 .rfl
def agk(L:List Value)(n m:Nat)(v:Value)(h:n<m):(L.set n v).drop m=L.drop m:=by
 apply List.ext_getElem?;intro j;rw[List.getElem?_drop,List.getElem?_drop,r0 af]
def abX(off:Nat):∀(cs:List Value) (k:Nat) (L:List Value),off+k+cs.length<=L.length->
  (cs.zipIdx k).foldl (fun(a:List Value) (x:Value×Nat)=>a.set (off+x.2) x.1) L=L.take (off+k)++(cs++L.drop (off+k+cs.length))
 |[],k,L,h=>by simp
 |v::cs,k,L,h=>by
  simp only[List.length_cons]at h;rw[List.zipIdx_cons,List.foldl_cons,abX off cs (k+1) _ (by simp;omega)]
  simp only[List.length_cons];rw[agk _ _ _ _ af,show off+(k+1)=off+k+1 by omega,List.take_add_one,abW,uO af]
  rw[show off+k+1+cs.length=off+k+(cs.length+1) by omega]
  simp
def WN(off:Nat):∀(l:List (Value×Nat)) (acc:Array Value),(l.foldl (fun(a:Array Value) (x:Value×Nat)=>a.setIfInBounds (off+x.2) x.1) acc).toList=l.foldl (fun(a:List Value) (x:Value×Nat)=>a.set (off+x.2) x.1) acc.toList
 |[],_=>rfl
 |x::l,acc=>by rw[List.foldl_cons,List.foldl_cons,WN off l];simp
def aoA(off:Nat)(cs:List Value)(acc:Array Value)(h:off+cs.length<=acc.size):
  (cs.zipIdx 0).foldl (fun(a:Array Value) (x:Value×Nat)=>a.setIfInBounds (off+x.2) x.1) acc=(acc.toList.take off++(cs++acc.toList.drop (off+cs.length))).toArray:=by
 have b:=WN off (cs.zipIdx 0) acc;rw[abX off cs 0 _ (gq h),Nat.add_zero]at b
 rw[<-b]
def arq{acc:List Value}(r:List Value)(h:vs.length=o)(f:g+o<=acc.length)(a:acc.take g++(vs++acc.drop (g+o))=r)(b:c r.toArray):kT acc.toArray g o vs.toArray c:=by
 refine⟨by simp[h],?_⟩
 have:=aoA g vs acc.toArray (by simp;omega)
 rw[<-Array.foldl_toList];have e:vs.toArray.zipIdx.toList=vs.zipIdx 0:=by simp
 rw[e];have e2:(fun(vs:Array Value) (x:Value×Nat)=>vs.setIfInBounds (g+x.2) x.1)=fun(vs:Array Value) (x:Value×Nat)=>match x with|(x,j)=>vs.setIfInBounds (g+j) x:=by
  funext vs x;cases x;rfl
 rw[e2]at this;rw[this];have d:acc.toArray.toList=acc:=rfl;rw[d,h,a];exact b
def qL(r:Array Value)(h:cs.size=o)(a:cs.zipIdx.foldl (λcs (x,j)=>cs.setIfInBounds (g+j) x) yv=r)(b:c r):kT yv g o cs c:=by
 subst a;exact⟨h,b⟩
def akE{c:Value->Prop}(h:w.cell? a=some v)(b:c v):tH w a c:=by
 simp only[tH,rd,h];exact b
def ars{k:Addr->Prop}(a:0<=i)(b:i<n)(d:k ⟨g,o+i.toNat*sz,none⟩):cN ⟨some ⟨g,o,none⟩,n,m⟩ i sz k:=⟨⟨a,b⟩,by rw[dg];exact d⟩
open Go Go.RowKit Go.ChangeShapes Go.WideShapes
def QL{H:Type}{enc:TypeId×Value->H}{P:Program}(c:laidOutB P=true){W W':World}(hb:Below W.heap.size W W'):
  ∀{ts:List TypeId} {vs:List Value} {ds:List (DataW H)} {ps:List MemPlace},ts.all (λt=>P.readableRec t&&decide (t<P.types.size))=true->DataW.TrodAll enc P W 0 (λ_=>true) true ts vs ds ps->(∀x∈ps,x.block<W.heap.size)->
   DataW.TrodAll enc P W' 0 (λb=>decide (b<W.heap.size)) true ts vs ds ps
 |[],[],[],_,_,h,_=>h
 |[],_::_,_,_,_,h,_=>h.elim
 |[],[],_::_,_,_,h,_=>h.elim
 |_::_,[],_,_,_,h,_=>h.elim
 |_::_,_::_,[],_,_,h,_=>h.elim
 |t::ts,v::vs,d::ds,ps,hr,h,hlt=>by
  obtain⟨p,q,e,h2,rfl⟩:=h;simp only[List.all_cons,iY,decide_eq_true_eq]at hr;exact⟨p,q,Below.trod c hr.1.1 hr.1.2 e hb (λx a=>hlt x (by simp[a])),QL c hb hr.2 h2 (λx a=>hlt x (by simp[a])),rfl⟩
def UD{H:Type}{enc:TypeId×Value->H}{P:Program}{w:World}{base:Nat}{spare:Nat->Bool}{held:Bool}:
  ∀{ts:List TypeId} {vs:List Value} {ds:List (DataW H)} {ps:List MemPlace},DataW.TrodAll enc P w base spare held ts vs ds ps->ds.length=ts.length
 |[],[],[],_,_=>rfl
 |[],_::_,_,_,h=>h.elim
 |[],[],_::_,_,h=>h.elim
 |_::_,[],_,_,h=>h.elim
 |_::_,_::_,[],_,h=>h.elim
 |_::_,_::_,_::_,_,h=>by
  obtain⟨p,q,a,h2,rfl⟩:=h;simp[UD h2]
def zx(P:Program)(w:World)(t:TypeId)(cs:List Value):Prop:=
 ∃(H:Type) (enc:TypeId×Value->H) (spare:Nat->Bool) (held:Bool) (fuel:Nat) (d:DataW H) (ps:List MemPlace),
  DataW.trod enc P w 0 spare held fuel t cs=some (d,ps)/\∀n∈d.weights P t,n<=reachBytes
structure Arg (P:Program) (w:World) (t:TypeId) (v:Value):Prop where
 form:∃base,Value.okWide P w .any base t v
 reads:zx P w t v.cells.toList
def WO(P:Program)(w:World):List TypeId->List Value->Prop
 |[],[]=>True
 |t::ts,v::vs=>Arg P w t v/\WO P w ts vs
 |_,_=>False
def WO.cons{P:Program}{w:World}{t:TypeId}{ts:List TypeId}{vs:List Value}(h:WO P w (t::ts) vs):∃v vs',vs=v::vs'/\Arg P w t v/\WO P w ts vs':=by
 cases vs with
 |nil=>exact h.elim
 |cons v vs=>exact⟨v,vs,rfl,h.1,h.2⟩
def WO.nil{P:Program}{w:World}{vs:List Value}(h:WO P w [] vs):vs=[]:=by
 cases vs with
 |nil=>rfl
 |cons v vs=>exact h.elim
def aid{H:Type}{enc:TypeId×Value->H}{P:Program}{w:World}:
  ∀{ts:List TypeId} {vs:List Value} {ds:List (DataW H)} {ps:List MemPlace} {base:Nat},(∀(j:Nat) t v,ts[j]?=some t->vs[j]?=some v->Value.okWide P w .any base t v)->
   DataW.TrodAll enc P w 0 (λ_=>true) true ts vs ds ps->(∀n∈DataW.weightsEach P ts ds,n<=reachBytes)->WO P w ts vs
 |[],[],[],_,_,_,_,_=>trivial
 |[],_::_,_,_,_,_,h,_=>h.elim
 |[],[],_::_,_,_,_,h,_=>h.elim
 |_::_,[],_,_,_,_,h,_=>h.elim
 |_::_,_::_,[],_,_,_,h,_=>h.elim
 |t::ts,v::vs,d::ds,_,base,hv,h,hw=>by
  obtain⟨p,q,⟨fuel,b⟩,h2,rfl⟩:=h;simp only[DataW.weightsEach,zw]at hw;exact⟨⟨⟨base,hv 0 t v rfl rfl⟩,⟨H,enc,_,_,fuel,d,p,b,λn a=>hw n (.inl a)⟩⟩,aid (λj t' v' c Gq=>hv (j+1) t' v' (gq c) (gq Gq)) h2 λn a=>hw n (.inr a)⟩
def awX{n:Int}(h:(Lit.int .i64 n).wf=true):sy n:=by
 simp[Lit.wf,IntKind.min,IntKind.max,IntKind.signed,IntKind.bits]at h;exact⟨af,af⟩
variable{cs:List Value}
def zx.int(a:P.underlying t=some (.int .i64))(h:zx P w t cs):∃n,cs=[.int .i64 n]/\sy n:=by
 obtain⟨H,enc,spare,held,fuel,d,ps,h,_⟩:=h;cases fuel with
 |zero=>simp[DataW.trod]at h
 |succ m=>
  unfold DataW.trod at h;rw[a]at h;split at h<;>simp_all;rename_i b;obtain⟨⟨_,h2⟩,_⟩:=h;subst b;exact awX h2
def Hl{H:Type}{e:TypeId}:∀{ds:List (DataW H)} {d:DataW H} {n:Nat},d∈ds->n∈d.weights P e->n∈DataW.weightsAll P e ds
 |d0::ds,d,n,hd,hn=>by
  simp only[DataW.weightsAll,zw];rcases List.mem_cons.1 hd with rfl|hd
  .exact .inl hn
  .exact .inr (Hl hd hn)
def zx.struct{fs:Array Field}(b:P.underlying t=some (.struct fs))(h:zx P w t cs):
  cs.length=P.cellsOf t/\∀(i:Nat) (f:Field),fs[i]?=some f->zx P w f.type ((cs.drop f.offset).take (P.cellsOf f.type)):=by
 obtain⟨H,enc,spare,held,fuel,d,ps,h,c⟩:=h;obtain⟨xs,n,_,e,g,k,l⟩:=DataW.trod_struct b h;cases e
 refine⟨g,λi f a=>?_⟩;have hi:i<xs.length:=by rw[k];exact(Bf.1 a).1
 have:=l i f a;rw[iH hi]at this;refine⟨H,enc,spare,held,n,xs[i].1,xs[i].2,this,λm o=>c m ?_⟩;simp only[DataW.weights,b];exact DataW.weights_mem_each (j:=i) (by simp[a]) (by simp[hi]) m o
def zx.array(a:P.underlying t=some (.array o e))(h:zx P w t cs):
  cs.length=P.cellsOf t/\∀i,i<o->zx P w e ((cs.drop (i*P.cellsOf e)).take (P.cellsOf e)):=by
 obtain⟨H,enc,spare,held,fuel,d,ps,h,b⟩:=h;obtain⟨xs,n,_,c,f,l,g⟩:=DataW.trod_array a h;cases c
 refine⟨f,λi hi=>?_⟩;have:=g i hi;rw[iH af]at this;refine⟨H,enc,spare,held,n,xs[i].1,xs[i].2,this,λm j=>b m ?_⟩;simp only[DataW.weights,a];exact Hl (List.mem_map.2 ⟨xs[i],List.getElem_mem _,rfl⟩) j
structure QM (sz:Nat) (w:World) (s:Sl) (es:List (List Value)):Prop where
 len:es.length=s.n
 row:∀i e,es[i]?=some e->e.length=sz/\∃p,s.a=some p/\∀j v,e[j]?=some v->w.cell? ((p.add (i*sz)).add j)=some v
variable{es:List (List Value)}
def QM.keep(h:QM sz w s es)(c:o7 S w w')(hs:∀p,s.a=some p->¬S p.block):QM sz w' s es:=
 ⟨h.len,λi e d=>by
  obtain⟨f,p,b,g⟩:=h.row i e d;refine⟨f,p,b,λj v hv=>c.cell ?_ (g j v hv)⟩;have:((p.add (i*sz)).add j).block=p.block:=by rw[block_add,block_add]
  rw[this];exact hs p b⟩
def QM.ext(h:QM sz w s es)(a:Ext w w'):QM sz w' s es:=h.keep a λ_ _ h=>h
def akF{c:Addr->Prop}(h:QM sz w s es)(b:0<=i)(d:i<s.n)
  (f:∀p e,es[i.toNat]?=some e->e.length=sz->(∀j v,e[j]?=some v->w.cell? (p.add j)=some v)->c p):cN s i sz c:=by
 have a:=h.len;obtain⟨h2,p,g,hcell⟩:=h.row i.toNat es[i.toNat] (iH af);unfold cN;rw[g];exact⟨⟨b,d⟩,f _ _ (iH af) h2 hcell⟩
def akG(h:w.cells? g a n=some vs):vs.length=n/\∀j v,vs[j]?=some v->w.cell? (a.add j)=some v:=by
 have hs:=World.cells?_some h;refine⟨gq hs.2.1,λj v hv=>?_⟩
 have b:=(kB.1 hv).1;have:=hs.2.2 j af;rw[this];exact hv
def zx.slice(r:P.underlying t=some (.slice e))(h:zx P w t cs):
  ∃(s:Sl) (es:List (List Value)),cs=[.slice s.a s.n s.c]/\QM (P.cellsOf e) w s es/\es.length*P.bytesOf e<=reachBytes/\s.n<=s.c/\s.c<=9223372036854775807/\∀e'∈es,zx P w e e':=by
 obtain⟨H,enc,spare,held,fuel,d,ps,h,j⟩:=h;rcases DataW.trod_slice r h with⟨rfl,_⟩|⟨a,len,cap,elems,rest,n,_,rfl,k,hb,v,g,u,l,y,z⟩
 .exact⟨⟨none,0,0⟩,[],rfl,⟨rfl,λi e h=>by simp at h⟩,bf,iw _,bf,bf⟩
 .cases k
  simp only[DataW.weights,r]at j;have each:∀i,i<len->∃vs,w.cells? 0 (a.add (i*P.cellsOf e)) (P.cellsOf e)=some vs/\∃x,elems[i]?=some x/\DataW.trod enc P w 0 spare held n e vs=some x:=by
   intro i hi;have f:=l i hi;rw[iH af]at f;cases hc:w.cells? 0 (a.add (i*P.cellsOf e)) (P.cellsOf e)with
   |none=>rw[hc]at f;simp at f
   |some vs=>rw[hc]at f;exact⟨vs,rfl,elems[i],iH af,f⟩
  refine⟨⟨some a,len,cap⟩,(List.range len).map λi=>(w.cells? 0 (a.add (i*P.cellsOf e)) (P.cellsOf e)).getD [],rfl,⟨bf,λi e' o=>?_⟩,?_,v,by unfold maxLen at g;exact g,λe' p=>?_⟩
  .have hi:i<len:=by have:=(kB.1 o).1;simpa using this
   obtain⟨vs,b,_⟩:=each i hi;simp[hi,b]at o;subst o;obtain⟨f,h2⟩:=akG b;exact⟨f,a,rfl,h2⟩
  .have:=j ((elems.length+rest.length)*P.bytesOf e) bf;simp only[List.length_map,List.length_range]at this ⊢;exact Nat.le_trans (Nat.mul_le_mul_right _ af) this
  .obtain⟨i,hi,rfl⟩:=List.mem_map.1 p;obtain⟨vs,b,x,k,q⟩:=each i (gq hi)
   rw[b];refine⟨H,enc,spare,held,n,x.1,x.2,q,λm g=>j m ?_⟩;refine List.mem_cons_of_mem _ (zw.2 (.inl (Hl (List.mem_map.2 ⟨x,qn k,rfl⟩) g)))
def zy{A B:Type}{f:A->B}{G:A->Prop}:∀{es:List B},(∀e∈es,∃x,e=f x/\G x)->∃l:List A,es=l.map f/\∀x∈l,G x
 |[],_=>⟨[],rfl,bf⟩
 |e::es,h=>by
  obtain⟨x,rfl,a⟩:=h e bf;obtain⟨l,rfl,b⟩:=zy (es:=es) λe c=>h e (by simp[c])
  exact⟨x::l,rfl,λy hy=>by rcases List.mem_cons.1 hy with rfl|hy;exact a;exact b y hy⟩
def Arg.int(a:P.underlying t=some (.int .i64))(h:Arg P w t v):∃n,v= .int .i64 n/\sy n:=by
 obtain⟨b,c⟩:=h.form;obtain⟨n,rfl⟩:=okWide_int a c;obtain⟨m,d,e⟩:=h.reads.int a;have:n=m:=by simpa[Value.cells]using d
 exact⟨n,rfl,this▸e⟩
def Arg.agg(a:(∃n e,P.underlying t=some (.array n e))\/∃fs,P.underlying t=some (.struct fs))(h:Arg P w t v):∃cs,v= .agg cs/\zx P w t cs.toList:=by
 obtain⟨b,c⟩:=h.form;have hv:∃cs,v= .agg cs:=by
  rcases a with⟨n,e,a⟩|⟨fs,a⟩;all_goals
   simp only[Value.okWide,a]at c;obtain⟨cs,d,_⟩:=c;exact⟨cs,d⟩
 obtain⟨cs,rfl⟩:=hv;exact⟨cs,rfl,by simpa[Value.cells]using h.reads⟩
def Vd(P:Program):Nat->TypeId->Bool
 |0,_=>false
 |n+1,t=>match P.underlying t with
  |some (.int .i64)=>true
  |some (.struct fs)=>fs.all (λf=>Vd P n f.type)&&(List.range (P.cellsOf t)).all λj=>fs.any λf=>decide (f.offset<=j/\j<f.offset+P.cellsOf f.type)
  |some (.array k e)=>Vd P n e&&decide (P.cellsOf t=k*P.cellsOf e)&&decide (0<P.cellsOf e)
  |_=>false
def aeQ(a:o<=j)(b:j<o+n)(h2:j<cs.length):cs[j] ∈(cs.drop o).take n:=by
 apply qn (i:=j - o);rw[List.getElem?_take_of_lt af,List.getElem?_drop,show o+(j - o)=j by omega,iH h2]
def zx.flat:∀{n:Nat} {t:TypeId} {cs:List Value},Vd P n t=true->zx P w t cs->∀c∈cs,∃z,c= .int .i64 z/\sy z
 |0,_,_,h,_=>by cases h
 |n+1,t,cs,h,hr=>by
  unfold Vd at h;split at h
  .rename_i d;obtain⟨z,rfl,p⟩:=hr.int d;intro c b;rw[List.mem_singleton]at b;exact⟨z,b,p⟩
  .rename_i fs d;obtain⟨q,g⟩:=hr.struct d;simp only[iY,tL]at h;intro c b;obtain⟨j,l,rfl⟩:=List.getElem_of_mem b;have h2:=h.2 j (by simp;omega)
   obtain⟨i,hi,a⟩:=Array.any_eq_true.1 h2;have a:=of_decide_eq_true a;have m:=(Array.all_eq_true.1 h.1) i hi;exact zx.flat m (g i fs[i] bf) _ (aeQ a.1 a.2 l)
  .rename_i k e d;obtain⟨q,g⟩:=hr.array d;simp only[iY,decide_eq_true_eq]at h;obtain⟨⟨r,h2⟩,o⟩:=h;intro c b;obtain⟨j,l,rfl⟩:=List.getElem_of_mem b;have f:j / P.cellsOf e<k:=by
    rw[Nat.div_lt_iff_lt_mul o];omega
   have s:=Nat.div_add_mod j (P.cellsOf e);have u:=Nat.mod_lt j o;rw[Nat.mul_comm]at s;exact zx.flat r (g (j / P.cellsOf e) f) _ (aeQ af af l)
  .cases h
def zx.len(a:(∃n e,P.underlying t=some (.array n e))\/∃fs,P.underlying t=some (.struct fs))(h:zx P w t cs):cs.length=P.cellsOf t:=by
 rcases a with⟨n,e,a⟩|⟨fs,a⟩
 .exact(h.array a).1
 .exact(h.struct a).1
def Arg.flat(a:(∃n e,P.underlying t=some (.array n e))\/∃fs,P.underlying t=some (.struct fs))(d:Vd P n t=true)(f:P.cellsOf t=o)(h:Arg P w t v):
  ∃xs:List Int,v= .agg (Go.Ev.ints xs).toArray/\xs.length=o/\∀y∈xs,sy y:=by
 obtain⟨cs,rfl,b⟩:=h.agg a;obtain⟨xs,c,g⟩:=zy (b.flat d);refine⟨xs,?_,?_,g⟩
 .have:cs=(xs.map (Value.int .i64)).toArray:=by rw[<-c]
  rw[this]
 .have:=b.len a;rw[c,f]at this;simpa using this
def art:∀(k:K) (x:k.T) (c:k.T->Prop),unV k (k.v x) c=c x
 | .i k,x,c=>by simp[unV,K.v,xS]
 | .b,x,c=>rfl
 | .p,x,c=>rfl
 | .a,x,c=>rfl
 | .s,x,c=>rfl
 | .str,x,c=>rfl
 | .m,x,c=>rfl
 | .ag,x,c=>rfl
 | .raw,x,c=>rfl
def aie:∀(ks:List K) (x:KT ks) (c:KT ks->Prop),qW ks (dL ks x) c=c x
 |[],x,c=>rfl
 |[k],x,c=>art k x c
 |k::(y::r),x,c=>by
  show unV k (k.v x.1) (λz=>qW (y::r) (dL (y::r) x.2) λxs=>c (z,xs))=c x;rw[art,aie (y::r)];rfl
variable{x8:World}
def uY.call{qm ur:List K}{F:KT qm->World->(KT ur->ap)->Prop}(h:uY P f λargs w c=>qW qm args λx=>F x w λr w=>c (e9 (dL ur r)) w){Q:Ending->ap}(x:KT qm)(a:args.toList=dL qm x)
  (b:F x x8 λr w=>Q (.returned (e9 (dL ur r))) w):Calls P f args x8 Q:=by
 refine(h.2 args x8 (λv w=>Q (.returned v) w) ?_).mono ?_
 .rw[a];show qW qm (dL qm x) _;rw[aie];exact b
 .rintro e w' ⟨v,rfl,hv⟩;exact hv
structure HP where
 p:(Nat->Prop)->ap
 lt:∀{F w g},p F w->F g->g<w.heap.size
 keep:∀{F w w'},p F w->(∀g,F g->w'.heap[g]?=w.heap[g]?)->p F w'
def u4:List HP->(Nat->Prop)->ap
 |[],F,_=> ∀g,¬F g
 |R::L,F,w=> ∃F1 F2,R.p F1 w/\u4 L F2 w/\(∀g,F1 g->¬F2 g)/\∀g,F g↔(F1 g\/F2 g)
def DI:∀{L:List HP} {F w g},u4 L F w->F g->g<w.heap.size
 |[],F,w,g,h,hg=>(h g hg).elim
 |R::L,F,w,g,⟨a,b,h1,h2,_,e⟩,hg=>by
  rcases (e g).1 hg with hg|hg
  .exact R.lt h1 hg
  .exact DI h2 hg
def FD:∀{L:List HP} {F w w'},u4 L F w->(∀g,F g->w'.heap[g]?=w.heap[g]?)->u4 L F w'
 |[],F,w,w',h,_=>h
 |R::L,F,w,w',⟨b,c,h1,h2,hd,e⟩,hk=>
  ⟨b,c,R.keep h1 λg a=>hk g ((e g).2 (.inl a)),FD h2 λg a=>hk g ((e g).2 (.inr a)),hd,e⟩
def aoB:∀{L:List HP} {F G w},(∀g,F g↔G g)->u4 L F w->u4 L G w
 |[],F,G,w,hfg,h=>λg a=>h g ((hfg g).2 a)
 |R::L,F,G,w,hfg,⟨b,c,h1,h2,hd,e⟩=>⟨b,c,h1,h2,hd,λg=>(hfg g).symm.trans (e g)⟩
variable{L:List HP}{R S:HP}
def I1{F w}(h:u4 (R::S::L) F w):u4 (S::R::L) F w:=by
 obtain⟨d,o,j,⟨k,f,l,m,n,e'⟩,i,e⟩:=h;refine⟨k,λg=>d g\/f g,l,⟨d,f,j,m,λg a b=>i g a ((e' g).2 (.inr b)),λg=>Iff.rfl⟩,λg a c=>?_,λg=>?_⟩
 .rcases c with h|h
  .exact i g h ((e' g).2 (.inl a))
  .exact n g a h
 .rw[e,e'];constructor<;>(intro h;rcases h with h|h|h<;>simp[h])
structure St (w0 w:World) (L:List HP):Prop where
 ext:Ext w0 w
 sep:∃F,u4 L F w/\∀g,F g->w0.heap.size<=g
def St.nil(w:World):St w w []:=⟨.refl _ _,λ_=>False,λ_ h=>h,λ_ h=>h.elim⟩
variable{w0:World}
def St.awZ(h:Ext w0 w):St w0 w []:=⟨h,λ_=>False,λ_ h=>h,λ_ h=>h.elim⟩
def St.on(h:St w0 w L)(a:Ext w w'):St w0 w' L:=by
 obtain⟨b,F,h2,c⟩:=h;exact⟨b.trans a,F,FD h2 λg d=>a.block g (DI h2 d) λh=>h,c⟩
def St.swap(h:St w0 w (R::S::L)):St w0 w (S::R::L):=by
 obtain⟨a,F,h2,b⟩:=h;exact⟨a,F,I1 h2,b⟩
def St.drop(h:St w0 w (R::L)):St w0 w L:=by
 obtain⟨a,F,⟨i,b,h2,c,j,e⟩,d⟩:=h;exact⟨a,b,c,λg f=>d g ((e g).2 (.inr f))⟩
def St.all(h:St w0 w L):St w0 w []:=St.awZ h.ext
variable{X:HP}
def St.new{F':Nat->Prop}(h:St w0 w L)(a:Ext w w')(d:X.p F' w')(b:∀g,F' g->w.heap.size<=g):St w0 w' (X::L):=by
 obtain⟨c,F,h2,e⟩:=h;refine⟨c.trans a,λg=>F' g\/F g,⟨F',F,d,FD h2 λg hg=>a.block g (DI h2 hg) λh=>h,λg hg f=>?_,λ_=>Iff.rfl⟩,λg hg=>?_⟩
 .have:=b g hg;have:=DI h2 f;omega
 .rcases hg with hg|hg
  .have:=b g hg;have:=c.size;omega
  .exact e g hg
def St.aeR(h:St w0 w (R::L))(b:∀a,R.p a w->o7 a w w'/\∃F',X.p F' w'/\∀g,F' g->a g\/w.heap.size<=g):St w0 w' (X::L):=by
 obtain⟨i,F,⟨a,c,h2,d,j,e⟩,f⟩:=h;obtain⟨k,F',b,l⟩:=b a h2;have n:u4 L c w':=FD d λg hg=>k.block g (DI d hg) λh=>j g h hg;refine⟨i.then k λg hg=>f g ((e g).2 (.inl hg)),λg=>F' g\/c g,⟨F',c,b,n,λg hg m=>?_,λ_=>Iff.rfl⟩,λg hg=>?_⟩
 .rcases l g hg with h|h
  .exact j g h m
  .have:=DI d m;omega
 .rcases hg with hg|hg
  .rcases l g hg with h|h
   .exact f g ((e g).2 (.inl h))
   .have:=i.size;omega
  .exact f g ((e g).2 (.inr hg))
def St.look(h:St w0 w (R::L)):∃F,R.p F w/\∀g,F g->w0.heap.size<=g:=by
 obtain⟨d,F,⟨a,f,h2,i,j,e⟩,b⟩:=h;exact⟨a,h2,λg c=>b g ((e g).2 (.inl c))⟩
def St.conv(h:St w0 w (R::L))(b:∀F,R.p F w->X.p F w):St w0 w (X::L):=by
 obtain⟨c,F,⟨a,d,h2,f,g,e⟩,i⟩:=h;exact⟨c,F,⟨a,d,b a h2,f,g,e⟩,i⟩
class At {α:Type} (L:List HP) (k:α->HP) (x:outParam α) (f:outParam (HP->List HP)):Prop where
 split:∃R,(∀{F w},u4 L F w->u4 (k x::R) F w)/\∀{X F w},u4 (X::R) F w->u4 (f X) F w
instance (priority:=high) At.here {α:Type} {L:List HP} {k:α->HP} {x:α}:At (k x::L) k x (λX=>X::L):=⟨⟨L,id,id⟩⟩
instance At.there {α:Type} {L:List HP} {k:α->HP} {x:α} {Y:HP} {f:HP->List HP} [a:At L k x f]:At (Y::L) k x (λX=>Y::f X):=by
 constructor
 obtain⟨R,h1,h2⟩:=a.split
 refine⟨Y::R,λh=>I1 ?_,λh=>?_⟩
 .obtain⟨F1,F2,k2,k4,k5,e⟩:=h
  exact⟨F1,F2,k2,h1 k4,k5,e⟩
 .obtain⟨F1,F2,k2,k4,k5,e⟩:=I1 h
  exact⟨F1,F2,k2,h2 k4,k5,e⟩
variable{f:HP->List HP}{α:Type}{k:α->HP}{x:α}
def At.out(a:At L k x f):∃R,(∀{w0 w},St w0 w L->St w0 w (k x::R))/\∀{X w0 w},St w0 w (X::R)->St w0 w (f X):=by
 obtain⟨R,d,h2⟩:=a.split;exact⟨R,fun⟨a,F,b,c⟩=>⟨a,F,d b,c⟩,fun⟨a,F,b,c⟩=>⟨a,F,h2 b,c⟩⟩
def St.look'(h:St w0 w L)(a:At L k x f):∃F,(k x).p F w/\∀g,F g->w0.heap.size<=g:=by
 obtain⟨R,b,h2⟩:=a.out;exact(b h).look
def St.M8(h:St w0 w L)(a:At L k x f)(c:∀b,(k x).p b w->o7 b w w'/\∃F',X.p F' w'/\∀g,F' g->b g\/w.heap.size<=g):St w0 w' (f X):=by
 obtain⟨R,d,h2⟩:=a.out;exact h2 ((d h).aeR c)
def St.agl(h:St w0 w L)(a:At L k x f)(b:∀F,(k x).p F w->X.p F w):St w0 w (f X):=by
 obtain⟨R,c,h2⟩:=a.out;exact h2 ((c h).conv b)
def Z1:∀{L:List HP} {n:Nat} {X:HP} {F w},L[n]?=some X->u4 L F w->u4 (X::L.eraseIdx n) F w
 |[],n,X,F,w,h,_=>by simp at h
 |R::L,0,X,F,w,h,hs=>by simp at h;subst h;exact hs
 |R::L,n+1,X,F,w,h,⟨a,b,h1,h2,h3,h4⟩=>by
  have:=Z1 (gq h) h2
  exact I1 ⟨a,b,h1,this,h3,h4⟩
def St.front(h:St w0 w L)(n:Nat)(e:L[n]?=some X):St w0 w (X::L.eraseIdx n):=⟨h.ext,by obtain⟨F,a,h2⟩:=h.sep;exact⟨F,Z1 e a,h2⟩⟩
def St.rm(h:St w0 w L)(n:Nat)(e:L[n]?=some X):St w0 w (L.eraseIdx n):=(h.front n e).drop
def aif{c:Prop}(b:c):ai n a w w c:=⟨λ_ _=>rfl,b⟩
def au(g:Nat)(cs:List Value):HP where
 p F w:=(∀k,F k↔k=g)/\pN w g cs.toArray
 lt:=fun⟨e,h⟩ hg=>by rw[(e _).1 hg];exact h.lt
 keep:=fun⟨e,h⟩ hk=>⟨e,by obtain⟨t,h⟩:=h;exact⟨t,(hk _ ((e _).2 rfl)).trans h⟩⟩
def St.au(h:St w0 w L)[a:At L (au g) cs f]:pN w g cs.toArray:=by
 obtain⟨F,b,_⟩:=h.look' a;exact b.2
def aM{c:Addr->ap}(h:St w0 w L)(b:∀g w',St w0 w' (Ev.au g yv.toList::L)->c ⟨g,0,none⟩ w'):aE w yv t c:=
 jJ λg w' e hs hb d=>b g w' (h.new d ⟨λ_=>Iff.rfl,hb⟩ λk f=>by omega)
def cH{c:ap}(h:St w0 w L)(a:∀w',St w0 w' L->c w'):drew w c:=M6 λw' _ b=>a w' (h.on b)
def j4{c:ap}(h:St w0 w L)[a:At L (Ev.au g) cs f](e:v.oneCell'=true)(i:o<cs.length)(j:∀w',St w0 w' (f (Ev.au g (cs.set o v)))->c w'):bN w ⟨g,o,none⟩ v c:=by
 refine abR e h.au (gq i) λw' hb hs l=>j w' (h.M8 a λm d=>⟨l.mono λk _ b=>(d.1 k).2 b,λk=>k=g,⟨λ_=>Iff.rfl,?_⟩,λk b=> .inl ((d.1 k).2 b)⟩)
 rw[List.setIfInBounds_toArray]at hb;exact hb
def cr{k:IntKind}{n:Int}{c:Int->Prop}(h:St w0 w L)[a:At L (Ev.au g) cs f](hv:cs[o]?=some (.int k n))(b:c n):aJ k w ⟨g,o,none⟩ c:=uZ (by rw[h.au.cell];simpa using hv) b
def akI{c:Bool->Prop}(h:St w0 w L)[a:At L (Ev.au g) cs f](hv:cs[o]?=some (.bool y1))(b:c y1):He w ⟨g,o,none⟩ c:=akB (by rw[h.au.cell];simpa using hv) b
def CC{n:Option Addr}{c:Option Addr->Prop}(h:St w0 w L)[a:At L (Ev.au g) cs f](hv:cs[o]?=some (.pointer n))(b:c n):aQ w ⟨g,o,none⟩ c:=ark (by rw[h.au.cell];simpa using hv) b
def ea{c:Sl->Prop}(h:St w0 w L)[a:At L (Ev.au g) cs f](hv:cs[o]?=some (.slice yk n m))(b:c ⟨yk,n,m⟩):cy w ⟨g,o,none⟩ c:=IY (by rw[h.au.cell];simpa using hv) b
def aih{n:ByteArray}{c:ByteArray->Prop}(h:St w0 w L)[a:At L (Ev.au g) cs f](hv:cs[o]?=some (.string n))(b:c n):Qp w ⟨g,o,none⟩ c:=by
 have:w.cell? ⟨g,o,none⟩=some (.string n):=by rw[h.au.cell];simpa using hv
 simp[Qp,rd,this,Yo,b]
def abY{c:Option Nat->Prop}(h:St w0 w L)[a:At L (Ev.au g) cs f](hv:cs[o]?=some (.map d))(b:c d):ldM w ⟨g,o,none⟩ c:=by
 have:w.cell? ⟨g,o,none⟩=some (.map d):=by rw[h.au.cell];simpa using hv
 simp[ldM,rd,this,toM,b]
def I2{c:Value->Prop}(h:St w0 w L)[a:At L (Ev.au g) cs f](hv:cs[o]?=some v)(b:c v):tH w ⟨g,o,none⟩ c:=akE (by rw[h.au.cell];simpa using hv) b
def qM(h:St w0 w L)[a:At L (Ev.au g) cs f](b:o+n<=cs.length)(d:c ((cs.drop o).take n).toArray):bx n w ⟨g,o,none⟩ c:=akC h.au (gq b) d
def je(h:St w0 w L)[a:At L (Ev.au g) cs f](d:cs.length=n)(b:c cs.toArray):bx n w ⟨g,0,none⟩ c:=by
 refine qM h af ?_;rw[List.drop_zero,List.take_of_length_le af];exact b
variable{c:ap}{vs:Array Value}
def Yz(h:St w0 w L)[a:At L (Ev.au g) cs f](i:vs.size=n)(l:o+n<=cs.length)(d:∀v∈vs,v.oneCell'=true)
  (m:∀w',St w0 w' (f (Ev.au g (cs.take o++(vs.toList++cs.drop (o+n)))))->c w'):dQ n w ⟨g,o,none⟩ vs c:=by
 refine agh h.au i (gq l) d λw' cs' hb p b hv q hs=>m w' (h.M8 a λs e=>⟨q.mono λk _ b=>(e.1 k).2 b,λk=>k=g,⟨λ_=>Iff.rfl,?_⟩,λk b=> .inl ((e.1 k).2 b)⟩)
 refine agj hb λj=>?_;have r:cs'.size=cs.length:=gq p
 simp only[List.getElem?_toArray];by_cases d:j<o
 .rw[b j (.inl d)];rw[tJ (by simp;omega),List.getElem?_take_of_lt d];simp
 .by_cases h2:j<o+n
  .have:=hv (j - o) af;rw[show o+(j - o)=j by omega]at this
   rw[this];rw[u0 (by simp;omega),tJ (by simp;omega)]
   simp only[List.length_take,Array.getElem?_toList];congr 1;omega
  .rw[b j (.inr af)];rw[u0 (by simp;omega),u0 (by simp;omega),List.getElem?_drop]
   simp only[List.length_take,List.getElem?_toArray,Array.length_toList];congr 1;omega
def m7(h:St w0 w L)[a:At L (Ev.au g) cs f](b:cs.length=n)(d:vs.size=n)(i:∀v∈vs,v.oneCell'=true)(j:∀w',St w0 w' (f (Ev.au g vs.toList))->c w'):dQ n w ⟨g,0,none⟩ vs c:=
 Yz h d af i λw' h'=>j w' (by
  have e:cs.take 0++(vs.toList++cs.drop (0+n))=vs.toList:=by simp[List.drop_eq_nil_of_le,b]
  rwa[e]at h')
variable{x9:List HP}{xc:HP->List HP}
def eD{c:Prop}(h:St w0 w L)(h':St x8 w' x9)[a:At L (Ev.au g) cs f][a':At x9 (Ev.au g) cs xc](b:c):ai n ⟨g,o,none⟩ w w' c:=BV h.au h'.au b
structure qo (sz:Nat) (w:World) (s:Sl) (vs:List Value):Prop where
 len:vs.length=s.n*sz
 cap:s.n<=s.c
 max:s.c<=9223372036854775807
 one:∀x∈vs,x.oneCell'=true
 row:(s.a=none/\s.c=0)\/∃g off cs,s.a=some ⟨g,off,none⟩/\pN w g cs/\off+s.c*sz<=cs.size/\∀i v,vs[i]?=some v->cs[off+i]?=some v
variable{vs:List Value}
def qo.keep(h:qo sz w s vs)(b:∀g,s.au=some g->w'.heap[g]?=w.heap[g]?):qo sz w' s vs:=by
 refine⟨h.len,h.cap,h.max,h.one,h.row.imp id ?_⟩;rintro⟨g,off,cs,a,h2,c⟩;refine⟨g,off,cs,a,?_,c⟩;obtain⟨t,h2⟩:=h2;exact⟨t,(b g (by simp[Sl.au,a])).trans h2⟩
def qo.sls(h:qo sz w s vs):Hj sz w s vs:=by
 refine⟨h.len,λi v hv=>?_⟩;rcases h.row with⟨a,h2⟩|⟨g,off,cs,a,b,_,c⟩
 .have e:=h.cap;have f:i<vs.length:=(kB.1 hv).1;have d:=h.len;have:s.n=0:=af;have j:vs.length=0:=by rw[d,this];simp
  omega
 .exact⟨_,a,by rw[dg,b.cell];exact c i v hv⟩
def bG(sz:Nat)(s:Sl)(vs:List Value):HP where
 p F w:=(∀k,F k↔s.au=some k)/\qo sz w s vs
 lt:=fun⟨e,h⟩ hg=>by
  have hg:=(e _).1 hg
  rcases h.row with⟨h1,_⟩|⟨g',off,cs,h1,h3,_⟩
  .simp[Sl.au,h1]at hg
  .simp[Sl.au,h1]at hg;subst hg;exact h3.lt
 keep:=fun⟨e,h⟩ hk=>⟨e,h.keep λg hg=>hk g ((e g).2 hg)⟩
def St.own(h:St w0 w L)[a:At L (bG sz s) vs f]:qo sz w s vs:=by
 obtain⟨F,b,_⟩:=h.look' a;exact b.2
def St.Gs(h:St w0 w L)[a:At L (bG sz s) vs f]:vs.length=s.n*sz:=h.own.len
def qo.nil(sz:Nat)(w:World):qo sz w ⟨none,0,0⟩ []:=⟨bf,iw _,bf,bf,.inl ⟨rfl,rfl⟩⟩
def St.DJ(h:St w0 w L)(sz:Nat):St w0 w (bG sz ⟨none,0,0⟩ []::L):=by
 exact h.new (.refl _ _) (F':=λ_=>False) ⟨λk=>by simp[Sl.au],qo.nil sz w⟩ λ_ h=>h.elim
def qo.new{l:List Value}(hb:pN w g l.toArray)(a:l.length=n*sz)(b:n<=9223372036854775807)(c:∀x∈l,x.oneCell'=true):qo sz w ⟨some ⟨g,0,none⟩,n,n⟩ l:=
 ⟨a,iw _,b,c,.inr ⟨g,0,l.toArray,rfl,hb,by simp[a],λi v hv=>gq hv⟩⟩
def St.asS(h:St w0 w L)[a:At L (Ev.au g) cs f](c:cs.length=n*sz)(d:n<=9223372036854775807)(e:∀x∈cs,x.oneCell'=true):St w0 w (f (bG sz ⟨some ⟨g,0,none⟩,n,n⟩ cs)):=
 h.agl a λF b=>⟨λk=>by rw[b.1];simp[Sl.au,eq_comm],qo.new b.2 c d e⟩
def KX{c:Addr->Prop}(h:St w0 w L)[a:At L (bG sz s) vs f](G:0<sz)(H:0<=i)(I:i<s.n)
  (J:∀g o,s.au=some g->(∀{w' L' f'},St w0 w' L'->[At L' (bG sz s) vs f']->∀j v,j<sz->vs[i.toNat*sz+j]?=some v->w'.cell? ⟨g,o+j,none⟩=some v)->
   (∀{w':World} {L':List HP} {vs':List Value} {f':HP->List HP} (h':St w0 w' L') (a':At L' (bG sz s) vs' f') (j:Nat) (v:Value) (c':ap),j<sz->v.oneCell'=true->
    (∀d,St w0 d (f' (bG sz s (vs'.set (i.toNat*sz+j) v)))->c' d)->bN w' ⟨g,o+j,none⟩ v c')->c ⟨g,o,none⟩):cN s i sz c:=by
 have A:qo sz w s vs:=h.own;have hi:i.toNat<s.n:=af;have K:i.toNat*sz+sz<=s.n*sz:=by
  rw[<-Nat.succ_mul];exact Nat.mul_le_mul_right _ hi
 rcases A.row with⟨h2,M⟩|⟨g,off,cs,h2,M,T,U⟩
 .have:=A.cap;omega
 .unfold cN;rw[h2];refine⟨⟨H,I⟩,?_⟩;rw[dg];refine J g _ (by simp[Sl.au,h2]) ?_ ?_
  .intro w' L' f' h' a' j v N hv;obtain⟨p,B,C⟩:=(h'.own (sz:=sz) (s:=s)).sls.cell _ v hv;rw[h2]at B;cases B;rw[dg]at C;rw[Nat.add_assoc];exact C
  .intro w' L' vs' f' h' a' j v c' N m O;have e:qo sz w' s vs':=h'.own;rcases e.row with⟨b,_⟩|⟨V,off',cs',b,r,t,y⟩
   .rw[h2]at b;cases b
   .rw[h2]at b;cases b;have P:=e.cap;have Q:s.n*sz<=s.c*sz:=Nat.mul_le_mul_right _ P;refine abR m r af λd hb hs R=>O d (h'.M8 a' λS D=>⟨R.mono λk _ l=>(D.1 k).2 (by simp[Sl.au,h2,l]),S,⟨D.1,?_⟩,λk l=> .inl l⟩)
    refine⟨by rw[List.length_set];exact e.len,e.cap,e.max,λx z=>?_,.inr ⟨g,off,_,h2,hb,gq t,λk u l=>?_⟩⟩
    .rcases List.mem_or_eq_of_mem_set z with z|rfl
     .exact e.one x z
     .exact m
    .by_cases q:i.toNat*sz+j=k
     .subst q;have F:i.toNat*sz+j<vs'.length:=by rw[e.len];omega
      rw[uO F]at l;cases l
      rw[show off+i.toNat*sz+j=off+(i.toNat*sz+j) by omega,Array.getElem?_setIfInBounds_self,if_pos (by rw[e.len]at F;omega)]
     .rw[r0 q]at l;rw[Array.getElem?_setIfInBounds_ne af];exact y k u l
def S0(P:Program)(t:TypeId):Option (Nat×Nat×Option Value):=match P.underlying t with
 |some (.slice e)=>(P.info? e).map λi=>(i.size,i.bytes,i.zero)
 |_=>none
structure ET (P:Program) (t:TypeId) (sz b:Nat) (z:Value):Prop where
 info:S0 P t=some (sz,b,some z)
 size:z.cells.size=sz
def ET.out(h:ET P t sz b z):∃e i,P.underlying t=some (.slice e)/\P.info? e=some i/\i.size=sz/\i.bytes=b/\i.zero=some z:=by
 have h2:=h.info;unfold S0 at h2;split at h2
 .rename_i e a;cases hi:P.info? e with
  |none=>simp[hi]at h2
  |some i=>simp[hi]at h2;exact⟨e,i,a,hi,h2⟩
 .cases h2
def aeS(P:Program)(t:TypeId):Bool:=match P.underlying t with|some (.slice _)=>true|_=>false
def aoD(h:aeS P t=true):∃e,P.underlying t=some (.slice e):=by
 unfold aeS at h;split at h
 .exact⟨_,by assumption⟩
 .cases h
variable{x:Sl}
def Iu(h:Hj sz w x ys)(e:n<=x.n):(Builtin.firstCells sz n (.slice x.a x.n x.c)).run P w= .ok (ys.take (n*sz)).toArray w:=by
 have b:=h.len;have f:n*sz<=ys.length:=by rw[b];exact Nat.mul_le_mul_right _ e
 cases ha:x.a with
 |none=>
  have:ys=[]:=by
   cases ys with
   |nil=>rfl
   |cons v l=>obtain⟨p,d,_⟩:=h.cell 0 v rfl;rw[ha]at d;cases d
  subst this;rw[List.take_nil];exact run_firstCells_none w sz n x.n x.c
 |some p=>
  exact run_firstCells_some w sz n p x.n x.c (ys.take (n*sz)) (by rw[List.length_take];omega) λj v hv=>by
   rw[List.getElem?_take]at hv;split at hv
   .obtain⟨q,hq,g⟩:=h.cell j v hv;rw[ha]at hq;cases hq;exact g
   .cases hv
def arv(b:P.underlying tx=some (.slice e'))(h:Hj sz w x ys)(d:∀v∈ys,v.oneCell'=true):Src P sz tx (.slice x.a x.n x.c) x.n ys w:=by
 have e:ys.take (x.n*sz)=ys:=List.take_of_length_le (by rw[h.len];exact iw _)
 refine⟨.inl ⟨e',b⟩,λ_=>rfl,?_,?_,by rw[h.len],d⟩
 .have:=Iu (P:=P) h (iw _);rwa[e]at this
 .have:=Iu (P:=P) (h.ext (AQ w)) (iw _);rwa[e]at this
def qo.qT{c:Sl->ap}(d:qo sz w s vs)(O:ET P t sz b z)(A:aeS P tx=true)
  (m:Hj sz w x ys) (Q:∀v∈ys,v.oneCell'=true) (hbytes:(s.n+x.n)*b<=140737488355328) (V:s.n+x.n<=9223372036854775807)
  (G:∀s' w',qo sz w' s' (vs++ys)->o7 (λk=>s.au=some k) w w'->(s'.au=s.au\/∃g,s'.au=some g/\w.heap.size<=g)->s'.n=s.n+x.n->c s' w'):
  og P #[t,tx] ty [.slice s.a s.n s.c,.slice x.a x.n x.c] w c:=by
 obtain⟨e,i,p,hi,f,H,W⟩:=O.out;obtain⟨e',A⟩:=aoD A;have hs:=arv A m Q;have X:=m.len;have l:=d.len;have o:∀v∈vs++ys,v.oneCell'=true:=λv hv=>(zw.1 hv).elim (d.one v) (Q v);have R:(s.n+x.n)*sz=s.n*sz+x.n*sz:=Nat.add_mul _ _ _;unfold og;by_cases hroom:s.n+x.n<=s.c
 .rcases d.row with⟨h2,Y⟩|⟨g,off,cs,h2,Z,h5,h6⟩
  .have q:x.n=0:=af;have r:s.n=0:=af;have I:ys=[]:=List.eq_nil_of_length_eq_zero (by rw[X,q,Nat.zero_mul])
   have J:vs=[]:=List.eq_nil_of_length_eq_zero (by rw[l,r,Nat.zero_mul])
   subst I;subst J;rw[h2,r,Y];have B:(Builtin.append_ #[t,tx] ty #[.slice none 0 0,.slice x.a x.n x.c]).run P w= .ok (.slice none 0 0) w:=by
    have u:=hs.cells;simp only[List.toArray]at u;have l:=hs.len w;rw[q]at l u ⊢;simp[Builtin.append_,run_underlying p,run_underlying A,sizeOf,typeInfo,hi,f,Builtin.lenOf,Builtin.firstCells]at u ⊢;cases K:x.a<;>simp[Builtin.firstCells,K,loadCells,loadCellsFrom]
   simp only[List.toArray]at*
   rw[B];show c ⟨none,0,0⟩ w;exact G _ _ (gq (qo.nil sz w)) (.refl _ _) (.inl (by simp[Sl.au,h2])) (by rw[r,q])
  .obtain⟨L,y⟩:=Z;have S:(s.n+x.n)*sz<=s.c*sz:=Nat.mul_le_mul_right _ hroom;have hcell:∀j,j<ys.length->(w.cell? ⟨g,off+s.n*i.size+j,none⟩).isSome=true:=by
    intro j F;rw[f,(show pN w g cs from⟨L,y⟩).cell];have:off+s.n*sz+j<cs.size:=af;simp[this]
   have M:∀j,j<ys.length->w.frozen? ⟨g,off+s.n*i.size+j,none⟩=false:=λj _=>(show pN w g cs from⟨L,y⟩).frozen _;rw[<-f]at hs;have B:=run_append_room_src w t tx ty e i p hi g off s.n s.c _ x.n ys hs hroom hcell M;obtain⟨cs',k1,k2,k3,k4,k5,k6⟩:=KW ys w g (off+s.n*sz) cs y af;rw[f]at B;rw[h2];simp only[List.toArray]at*
   rw[B];show c ⟨some ⟨g,off,none⟩,s.n+x.n,s.c⟩ _;refine G _ _ ⟨by simp;omega,hroom,d.max,o,.inr ⟨g,off,cs',rfl,⟨L,k1⟩,by rw[k2];exact h5,λj v hv=>?_⟩⟩ (k5.mono λk _ A=>by simp[Sl.au,h2,A]) (.inl (by simp[Sl.au,h2])) rfl
   by_cases F:j<vs.length
   .rw[tJ F]at hv;rw[k3 _ af];exact h6 j v hv
   .rw[u0 af]at hv;have:=k4 _ v hv;rwa[show off+s.n*sz+(j - vs.length)=off+j by omega]at this
 .have T:s.c<s.n+x.n:=af;have C:Builtin.nextslicecap (s.n+x.n) s.c*i.bytes<=281474976710656:=growslice_fits T (by rw[H];exact hbytes)
  have e0:vs.take (s.n*sz)=vs:=List.take_of_length_le af;have hold:=Iu (P:=P) (d.sls.ext (AQ w)) (iw _);rw[e0]at hold;rw[<-f]at hold hs;have B:=run_append_grow_src w t tx ty e i z p hi W s.a s.n s.c vs hold _ x.n ys hs T af C;simp only[List.toArray]at*
  rw[B];have D:=grownCap_ge w (s.n+x.n) s.c e;have U:=grownCap_le_maxLen w (s.n+x.n) s.c e (by unfold maxLen;omega)
  unfold maxLen at U;show c ⟨some ⟨w.heap.size,0,none⟩,s.n+x.n,_⟩ _;have N:z.cells.size=sz:=O.size;refine G _ _ ⟨by simp;omega,D,U,o,.inr ⟨w.heap.size,0,_,rfl,pN.new w.drew _ e,?_,λj v hv=>?_⟩⟩ (Ext.only ((AQ w).trans (CA _ _))) (.inr ⟨w.heap.size,rfl,iw _⟩) rfl
  .have h9:(s.n+x.n)*sz<=grownCap w (s.n+x.n) s.c e*sz:=Nat.mul_le_mul_right _ D;rw[Array.size_append,size_zeroCells,N,Nat.sub_mul];simp only[List.size_toArray,uv];omega
  .have F:j<(vs++ys).length:=(kB.1 hv).1;rw[Nat.zero_add,Array.getElem?_append_left (gq F)]
   simpa using hv
def M9{c:Sl->ap}(h:St w0 w L)[a:At L (bG sz s) vs f](l:ET P t sz b z)(d:aeS P tx=true)
  (e:Hj sz w x ys) (m:∀v∈ys,v.oneCell'=true) (hbytes:(s.n+x.n)*b<=140737488355328) (i:s.n+x.n<=9223372036854775807)
  (o:∀s' w',St w0 w' (f (bG sz s' (vs++ys)))->s'.n=s.n+x.n->c s' w'):og P #[t,tx] ty [.slice s.a s.n s.c,.slice x.a x.n x.c] w c:=
 qo.qT h.own l d e m hbytes i λs' w' p q hb r=>o s' w' (h.M8 a λu j=>⟨q.mono λk _ d=>(j.1 k).2 d,λk=>s'.au=some k,⟨λ_=>Iff.rfl,p⟩,λk d=>by
  rcases hb with hb|⟨g,hg,hge⟩
  .exact .inl ((j.1 k).2 (by rw[<-hb];exact d))
  .rw[hg]at d;cases d;exact .inr hge⟩) r
def Hj.amW(h:St w0 w L)[a:At L (Ev.au g) cs f](b:cs.length=n*sz):Hj sz w ⟨some ⟨g,0,none⟩,n,o⟩ cs:=
 ⟨b,λi v hv=>⟨_,rfl,by rw[dg,h.au.cell];simpa using hv⟩⟩
def qo.off{d:Sl}{ys:List Value}{lo:Nat}(h:qo sz w s vs)(k:ys.length=d.n*sz)(m:d.n<=d.c)(f:lo+d.c<=s.c)(b:d.a=s.a.map (·.add (lo*sz))\/(d.a=s.a/\d.c=0))(hv:∀i v,ys[i]?=some v->vs[lo*sz+i]?=some v):qo sz w d ys:=by
 have o:=h.max;have p:(lo+d.c)*sz<=s.c*sz:=Nat.mul_le_mul_right _ f;rw[Nat.add_mul]at p;refine⟨k,m,af,λx q=>?_,?_⟩
 .obtain⟨i,hi,rfl⟩:=List.getElem_of_mem q;have:=hv i ys[i] (by simp[hi])
  exact h.one _ (qn this)
 .rcases h.row with⟨e,h2⟩|⟨g,off,cs,e,l,u,r⟩
  .refine .inl ⟨?_,af⟩;rcases b with b|⟨b,_⟩<;>rw[b,e] <;>rfl
  .rcases b with b|⟨b,t⟩
   .exact .inr ⟨g,off+lo*sz,cs,by rw[b,e];simp,l,af,λi v hi=>by rw[Nat.add_assoc];exact r _ _ (hv i v hi)⟩
   .have j:ys=[]:=List.eq_nil_of_length_eq_zero (by
      rw[k];have:d.n=0:=af;rw[this,Nat.zero_mul])
    subst j;exact .inr ⟨g,off,cs,by rw[b,e],l,by rw[t,Nat.zero_mul];omega,λi v hi=>by simp at hi⟩
variable{c:Sl->Prop}{lo:Int}
def arw(h:St w0 w L)[a:At L (bG sz s) vs f](j:0<=lo)(l:lo<=s.n)
  (m:∀d:Sl,d.n=s.n - lo.toNat->St w0 w (f (bG sz d (vs.drop (lo.toNat*sz))))->c d):slL s sz lo c:=by
 have e:qo sz w s vs:=h.own;have g:=e.cap;have b:=e.len;refine⟨⟨j,l⟩,m _ rfl (h.agl a λF o=>⟨λk=>?_,e.off (lo:=lo.toNat) (by simp[b,Nat.sub_mul]) (by simp;omega) (by simp;omega) ?_ λi v hi=>gq hi⟩)⟩
 .rw[o.1];by_cases hq:s.c=lo.toNat
  .simp[Sl.au,hq]
  .simp only[Sl.au,hq,if_false];cases s.a with
   |none=>simp
   |some p=>simp[aY];split<;>rfl
 .by_cases hq:s.c=lo.toNat
  .right;simp[hq]
  .left;simp[hq]
def akJ(h:St w0 w L)[a:At L (bG sz s) vs f](j:0<=lo)(l:lo<=y)(h2:y<=s.n)
  (m:∀d:Sl,d.n=y.toNat - lo.toNat->St w0 w (f (bG sz d ((vs.drop (lo.toNat*sz)).take ((y.toNat - lo.toNat)*sz))))->c d):Th s sz lo y c:=by
 have e:qo sz w s vs:=h.own;have g:=e.cap;have b:=e.len;have o:(y.toNat - lo.toNat)*sz<=(s.n - lo.toNat)*sz:=Nat.mul_le_mul_right _ af;refine⟨⟨af,af⟩,⟨j,l⟩,m _ rfl (h.agl a λF q=>⟨λk=>?_,e.off (lo:=lo.toNat) ?_ (by simp;omega) (by simp;omega) ?_ λi v y=>?_⟩)⟩
 .rw[q.1];by_cases hq:s.c=lo.toNat
  .simp[Sl.au,hq]
  .simp only[Sl.au,hq,if_false];cases s.a with
   |none=>simp
   |some p=>simp[aY];split<;>rfl
 .rw[List.length_take,List.length_drop,b,<-Nat.sub_mul];exact Nat.min_eq_left o
 .by_cases hq:s.c=lo.toNat
  .right;simp[hq]
  .left;simp[hq]
 .rw[List.getElem?_take]at y;split at y
  .simpa using y
  .cases y
variable{c:Sl->ap}
def AT(h:St w0 w L)(p:ET P t 1 b z)(q:z.oneCell'=true)
  (hbytes:b*n<=281474976710656) (d:n<=9223372036854775807)
  (r:∀s w',St w0 w' (bG 1 s (dU n z)::L)->s.n=n->c s w'):xz P t (.int kl (n:Int)) (.int kc (n:Int)) w c:=by
 obtain⟨e,i,f,hi,j,l,u⟩:=p.out;refine amV ⟨f,by rw[hi];simp[j,l,u]⟩ q (iw _) hbytes d λs w' a v m h2 x D=>r s w' (h.new v ⟨λ_=>Iff.rfl,?_⟩ λk o=>?_) m
 .refine⟨by simp[m],a.cap,a.max,a.one,a.row.imp id ?_⟩
  rintro⟨g,off,cs,y,e2,A,B,C⟩;exact⟨g,off,cs,y,A,gq B,C⟩
 .rw[x]at o;cases o;exact iw _
def qo.aDh{kk:IntKind}(d:qo 1 w s vs)(u:ET P t 1 b z)(C:P.underlying tx=some (.int .i64))(x:z.oneCell'=true)
  (hfull:s.n=s.c) (O:0<n) (hbytes:(s.n+n)*b<=140737488355328) (D:s.n+n<=9223372036854775807)
  (F:∀s' w',qo 1 w' s' (vs++dU n z)->Ext w w'->s'.au=some w.heap.size->s'.n=s.n+n->c s' w'):
  og P #[t,tx] ty [.slice s.a s.n s.c,.int .i64 (n:Int)] w c:=by
 obtain⟨e,i,o,hi,p,f,G⟩:=u.out;have y:=d.len;unfold og;have H:s.c<s.n+n:=af;have g:¬(s.n+n<=s.c):=af;have A:Builtin.nextslicecap (s.n+n) s.c*i.bytes<=281474976710656:=growslice_fits H (by rw[f];exact hbytes)
 have I:vs.take (s.n*1)=vs:=List.take_of_length_le af;have hold:=Iu (P:=P) (d.sls.ext (AQ w)) (iw _);rw[I]at hold;have q:=grownCap_ge w (s.n+n) s.c e;have B:=grownCap_le_maxLen w (s.n+n) s.c e (by unfold maxLen;omega)
 unfold maxLen at B;have J:IntKind.i64.wrap (n:Int)=n:=kg ⟨af,af⟩;have Q:n*b<=140737488355328:=Nat.le_trans (Nat.mul_le_mul_right _ af) hbytes;have K:¬(281474976710656<(n:Int)*(b:Int)):=by
  have:((n*b:Nat):Int)<=140737488355328:=af;rw[Int.natCast_mul]at this;omega
 have k:¬(9223372036854775807<((s.n:Int)+(n:Int))):=af;have l:¬(281474976710656<Builtin.nextslicecap (s.n+n) s.c*b):=by rw[<-f];omega
 have m:¬((n:Int)<0):=af;have L:n≠0:=af;have r:Builtin.zeroCells #[z] n=(dU n z).toArray:=by
  apply Array.ext
  .simp[size_zeroCells]
  .intro j R h2;simp[Builtin.zeroCells,Nat.mod_one]
 have M:(Builtin.append_ #[t,tx] ty #[.slice s.a s.n s.c,.int .i64 (n:Int)]).run P w=
   .ok (.slice (some ⟨w.heap.size,0,none⟩) (s.n+n) (grownCap w (s.n+n) s.c e)) (w.drew.alloc (.cells ((vs++dU n z).toArray++Builtin.zeroCells z.cells (grownCap w (s.n+n) s.c e - (s.n+n))) e)):=by
  simp[Builtin.append_,run_underlying o,run_underlying C,sizeOf,typeInfo,zeroValue,hi,G,p,f,J,K,m,g,k,l,L,Question.forced,hold,newRow,grownCap,asInt,asIntOf,Cy x,r];congr 2;apply Array.ext';simp[List.append_assoc]
 simp only[List.toArray]at*
 rw[M];show c ⟨some ⟨w.heap.size,0,none⟩,s.n+n,_⟩ _;refine F _ _ ⟨by simp;omega,q,B,λv hv=>(zw.1 hv).elim (d.one v) λhv=>by rw[(List.mem_replicate.1 hv).2];exact x,.inr ⟨w.heap.size,0,_,rfl,pN.new w.drew _ e,?_,λj v hv=>?_⟩⟩ ((AQ w).trans (CA _ _)) rfl rfl
 .rw[Array.size_append,size_zeroCells,u.size];simp only[List.size_toArray,uv,List.length_replicate];omega
 .have N:j<(vs++dU n z).length:=(kB.1 hv).1;rw[Nat.zero_add,Array.getElem?_append_left (gq N)]
  simpa using hv
def ary(h:St w0 w L)[a:At L (bG 1 s) vs f](i:ET P t 1 b z)(d:P.underlying tx=some (.int .i64))(j:z.oneCell'=true)
  (hfull:s.n=s.c) (l:0<n) (hbytes:(s.n+n)*b<=140737488355328) (e:s.n+n<=9223372036854775807)
  (m:∀s' w',St w0 w' (f (bG 1 s' (vs++dU n z)))->s'.n=s.n+n->c s' w'):og P #[t,tx] ty [.slice s.a s.n s.c,.int .i64 (n:Int)] w c:=
 qo.aDh (kk:= .i64) h.own i d j hfull l hbytes e λs' w' o p hb g=>m s' w' (h.M8 a λq r=>⟨p.only,λk=>s'.au=some k,⟨λ_=>Iff.rfl,o⟩,λk d=>by
  rw[hb]at d;cases d;exact .inr (iw _)⟩) g
def aw0{c:Sl->Prop}(h:St w0 w L)[a:At L (bG sz s) vs f](g:0<=y)(h2:y<=s.n)(l:y<=x5)(r:x5<=s.c)
  (m:∀d:Sl,d.n=y.toNat->d.c=x5.toNat->St w0 w (f (bG sz d (vs.take (y.toNat*sz))))->c d):aqT s sz 0 y x5 c:=by
 have e:qo sz w s vs:=h.own;have j:=e.cap;have b:=e.len;have o:y.toNat*sz<=s.n*sz:=Nat.mul_le_mul_right _ af;refine⟨⟨af,af⟩,⟨g,l⟩,⟨Int.le_refl _,g⟩,m _ bf bf (h.agl a λF q=>⟨λk=>?_,e.off (lo:=0) ?_ (by simp;omega) (by simp;omega) ?_ λi v y=>?_⟩)⟩
 .rw[q.1];by_cases hq:x5.toNat=(0:Int).toNat
  .simp[Sl.au,hq]
  .simp only[Sl.au,hq,if_false];cases s.a with
   |none=>simp
   |some p=>simp[aY]
 .rw[List.length_take,b];simp only[Int.toNat_zero,Nat.sub_zero];exact Nat.min_eq_left o
 .by_cases hq:x5.toNat=(0:Int).toNat
  .right;simp at hq;simp[hq]
  .left;simp only[hq,if_false];rfl
 .rw[List.getElem?_take]at y;split at y
  .simpa using y
  .cases y
def l9(A:List HP):HP where
 p:=u4 A
 lt:=DI
 keep:=FD
def Gt{α:Type}(X:α->HP):HP where
 p F w:=∃a,(X a).p F w
 lt:=fun⟨a,h⟩ hg=>(X a).lt h hg
 keep:=fun⟨a,h⟩ hk=>⟨a,(X a).keep h hk⟩
def Kf(p:Prop)(X:HP):HP where
 p F w:=p/\X.p F w
 lt:=fun⟨_,h⟩ hg=>X.lt h hg
 keep:=fun⟨a,h⟩ hk=>⟨a,X.keep h hk⟩
def zA:∀{A B:List HP} {F w},u4 (l9 A::B) F w↔u4 (A++B) F w
 |[],B,F,w=>by
  constructor
  .rintro⟨d,b,j,h2,_,e⟩;exact aoB (λg=>by rw[e];exact⟨.inr,λh=>h.elim (λh=>(j g h).elim) id⟩) h2
  .intro h;exact⟨λ_=>False,F,λg a=>a,h,λg a=>a.elim,λg=>by simp⟩
 |R::A,B,F,w=>by
  constructor
  .rintro⟨d,b,⟨G1,G2,k,l,kd,c⟩,h2,f,e⟩;refine⟨G1,λg=>G2 g\/b g,k,zA.1 ⟨G2,b,l,h2,λg a=>f g ((c g).2 (.inr a)),λ_=>Iff.rfl⟩,λg a m=>?_,λg=>?_⟩
   .rcases m with h|h
    .exact kd g a h
    .exact f g ((c g).2 (.inl a)) h
   .rw[e,c,or_assoc]
  .rintro⟨G1,G2,k,l,kd,c⟩;obtain⟨d,b,j,h2,f,e⟩:=zA.2 l;refine⟨λg=>G1 g\/d g,b,⟨G1,d,k,j,λg a i=>kd g a ((e g).2 (.inl i)),λ_=>Iff.rfl⟩,h2,λg a i=>?_,λg=>?_⟩
   .rcases a with h|h
    .exact kd g h ((e g).2 (.inr i))
    .exact f g h i
   .rw[c,e,or_assoc]
variable{A B:List HP}
def St.open(h:St w0 w (l9 A::B)):St w0 w (A++B):=⟨h.ext,by obtain⟨F,a,h2⟩:=h.sep;exact⟨F,zA.1 a,h2⟩⟩
def St.shut(h:St w0 w (A++B)):St w0 w (l9 A::B):=⟨h.ext,by obtain⟨F,a,h2⟩:=h.sep;exact⟨F,zA.2 a,h2⟩⟩
def St.some(h:St w0 w (Gt k::L)):∃a,St w0 w (k a::L):=by
 obtain⟨b,F,⟨c,d,⟨a,h2⟩,e⟩,f⟩:=h;exact⟨a,b,F,⟨c,d,h2,e⟩,f⟩
def St.ex{X:α->HP}(a:α)(h:St w0 w (X a::L)):St w0 w (Gt X::L):=h.conv λF b=>⟨a,b⟩
def St.pure{p:Prop}(h:St w0 w (Kf p X::L)):p/\St w0 w (X::L):=by
 obtain⟨F,a,_⟩:=h.look;exact⟨a.1,h.conv λF a=>a.2⟩
def St.YA{p:Prop}(a:p)(h:St w0 w (X::L)):St w0 w (Kf p X::L):=h.conv λF b=>⟨a,b⟩
def vU(h:b<xs.length):(ints xs)[b]?=some (.int .i64 (xs.getD b 0)):=by
 simp[ints,m0,h]
def zB{c:Int->Prop}(h:St w0 w L)[a:At L (bG 1 s) (ints xs) f](b:0<=i)(j:i<xs.length)(d:c (xs.getD i.toNat 0)):cN s i 1 λa=>aJ .i64 w a c:=by
 have k:xs.length=s.n:=by have:=h.Gs (sz:=1) (s:=s);simpa using this
 refine KX h af b af λg o _ e _=>uZ ?_ d;have:=e h 0 _ af (vU af);simpa using this
def zC{c:ap}(h:St w0 w L)[a:At L (bG 1 s) (ints xs) f](b:0<=i)(j:i<xs.length)(d:∀w',St w0 w' (f (bG 1 s (ints (xs.set i.toNat y))))->c w'):cN s i 1 λa=>bN w a (.int .i64 y) c:=by
 have k:xs.length=s.n:=by have:=h.Gs (sz:=1) (s:=s);simpa using this
 refine KX h af b af λg o _ _ hs=>?_;have:=hs h a 0 (.int .i64 y) c af rfl λw' h'=>d w' (by
  have e:(ints xs).set (i.toNat*1+0) (.int .i64 y)=ints (xs.set i.toNat y):=by simp[ints,List.map_set]
  rwa[e]at h')
 simpa using this
def abZ{c:Prop}(h:w.cell? a=some v)(h':w'.cell? a=some v)(b:c):ai 1 a w w' c:=
 ⟨λk d=>by
  have:k=0:=af;subst this;rw[add_zero,h,h'],b⟩
def QN{e:List Value}{c:Addr->Prop}(b:QM sz w0 s es)(h:St w0 w L)(g:0<=i)(d:es[i.toNat]?=some e)
  (k:∀p:Addr,(∀{w' L'},St w0 w' L'->∀{j v},e[j]?=some v->w'.cell? (p.add j)=some v)->c p):cN s i sz c:=by
 have f:=b.len;have l:=(kB.1 d).1;refine akF b g af λp e' a m hcell=>k p fun{w' L'} hS {j v} hv=>?_;rw[d]at a;cases a;exact hS.ext.cell (hcell j v hv)
def St.same{x:α}(h:St w0 w L)(a:At L k x f):St w0 w (f (k x)):=by
 obtain⟨R,b,h2⟩:=a.out;exact h2 (b h)
def bV{id:FuncId}{captured:Array Value}{c:Value->ap}{d:bt}(e:∀args w c,bY (.func id) args w c=d args.toList w c)(h:d (yv++args++captured).toList w c):nj bY (.func (.func id) yv captured) args w c:=by
 show bY (.func id) (yv++args++captured) w c
 rw[e];exact h
end Go.Ev
