/-
  Parts of the proof of LSteals: printed by a program out of longer texts.
-/
import Derived.KernelRfl
import Derived.WalkKit
import Derived.WalkSpells
import Derived.WalkLawsBesides
import Derived.RangeFuncMany
import Derived.TacticsIn
import Derived.LoopNIn
import Derived.OrdersIn
import Derived.Deep.AppendSrc
import Derived.Laws.MakeOwn
import Derived.Laws.CopyRow
import Derived.OpenShut
import Derived.JoinedOf
import Derived.SizedLaws
set_option linter.unusedVariables false
set_option linter.unusedSimpArgs false
set_option linter.defProp false
open List renaming getElem?_eq_some_iff→kB,getElem?_eq_getElem→iH,getD_eq_getElem?_getD→m0,getElem?_append_left→tJ,getElem?_append_right→u0,getElem?_set_ne→r0,getElem?_set_self→uO,mem_of_getElem?→qn,getElem?_map→l8,eraseIdx→I7,insertIdx_succ_cons→aBT,insertIdx_zero→aBU,replicate→dU,mem_append→zw,length_append→uv,all_eq_true→tL
open Go.Sem renaming run_pure→cP,run_bind→cR
open Go.Result renaming andThen_ok→cK
open Bool renaming or_eq_false_iff→kf,and_eq_true→iY
open Option renaming isNone→eA
open Go.IntKind renaming wrap→aF
open Int renaming toNat_natCast→iZ
open Array renaming setIfInBounds→eS,getElem?_eq_some_iff→Bf
open Nat renaming le_refl→iw
open Go.Addr renaming add→aY
namespace Go
abbrev ap:=World→Prop
variable{P:Prop}
def af(h:P:=by omega):P:=h
def bf(h:P:=by simp):P:=h
def e7(h:P:=by decide):P:=h
def aZ(h:P:=by kernel_rfl):P:=h
def vM(h:P:=by with_unfolding_all exact rfl):P:=h
variable{A B R:Type _}
abbrev u_2(f:A→B→R)(x:A×B):R:=f x.1 x.2
variable{C:Type _}
abbrev u_3(f:A→B→C→R)(x:A×B×C):R:=f x.1 x.2.1 x.2.2
variable{D:Type _}
abbrev u_4(f:A→B→C→D→R)(x:A×B×C×D):R:=f x.1 x.2.1 x.2.2.1 x.2.2.2
variable{E:Type _}
abbrev u_5(f:A→B→C→D→E→R)(x:A×B×C×D×E):R:=f x.1 x.2.1 x.2.2.1 x.2.2.2.1 x.2.2.2.2
variable{F:Type _}
abbrev u_6(f:A→B→C→D→E→F→R)(x:A×B×C×D×E×F):R:=f x.1 x.2.1 x.2.2.1 x.2.2.2.1 x.2.2.2.2.1 x.2.2.2.2.2
variable{G:Type _}
abbrev u_7(f:A→B→C→D→E→F→G→R)(x:A×B×C×D×E×F×G):R:=f x.1 x.2.1 x.2.2.1 x.2.2.2.1 x.2.2.2.2.1 x.2.2.2.2.2.1 x.2.2.2.2.2.2
abbrev u_8{H:Type _}(f:A→B→C→D→E→F→G→H→R)(x:A×B×C×D×E×F×G×H):R:=f x.1 x.2.1 x.2.2.1 x.2.2.2.1 x.2.2.2.2.1 x.2.2.2.2.2.1 x.2.2.2.2.2.2.1 x.2.2.2.2.2.2.2
abbrev u_9{H I:Type _}(f:A→B→C→D→E→F→G→H→I→R)(x:A×B×C×D×E×F×G×H×I):R:=f x.1 x.2.1 x.2.2.1 x.2.2.2.1 x.2.2.2.2.1 x.2.2.2.2.2.1 x.2.2.2.2.2.2.1 x.2.2.2.2.2.2.2.1 x.2.2.2.2.2.2.2.2
def gq{a b:Prop}(h:a)(e:a→b:=by intro h;simpa using h):b:=e h
end Go
namespace Go.Ev
open Go
structure Sl where
 a:Option Addr
 n:Nat
 c:Nat
inductive K where
 |i (k:IntKind)|b|p|a|s|str|m|ag|raw
def K.T:K→Type
 | .i _=>Int
 | .b=>Bool
 | .p=>Option Addr
 | .a=>Addr
 | .s=>Sl
 | .str=>ByteArray
 | .m=>Option Nat
 | .ag=>Array Value
 | .raw=>Value
def K.v:(k:K)→k.T→Value
 | .i k,x=> .int k x
 | .b,x=> .bool x
 | .p,x=> .pointer x
 | .a,x=> .pointer (some x)
 | .s,x=> .slice (Sl.a x) (Sl.n x) (Sl.c x)
 | .str,x=> .string x
 | .m,x=> .map x
 | .ag,x=> .agg x
 | .raw,x=>x
def xS(k:IntKind)(v:Value)(c:Int→Prop):Prop:=match v with| .int k' n=>if k'=k then c n else False|_=>False
def Ir(v:Value)(c:Bool→Prop):Prop:=match v with| .bool b=>c b|_=>False
def toP(v:Value)(c:Option Addr→Prop):Prop:=match v with| .pointer b=>c b|_=>False
def amy(v:Value)(c:Addr→Prop):Prop:=match v with| .pointer (some b)=>c b|_=>False
def toS(v:Value)(c:Sl→Prop):Prop:=match v with| .slice a n k=>c ⟨a,n,k⟩|_=>False
def Yo(v:Value)(c:ByteArray→Prop):Prop:=match v with| .string b=>c b|_=>False
def toM(v:Value)(c:Option Nat→Prop):Prop:=match v with| .map b=>c b|_=>False
def toA(v:Value)(c:Array Value→Prop):Prop:=match v with| .agg b=>c b|_=>False
def toT(v:Value)(c:List Value→Prop):Prop:=match v with| .tuple vs=>c vs.toList|_=>False
def unV(k:K)(v:Value)(c:k.T→Prop):Prop:=
 match k with
 | .i k=>xS k v c
 | .b=>Ir v c
 | .p=>toP v c
 | .a=>amy v c
 | .s=>toS v c
 | .str=>Yo v c
 | .m=>toM v c
 | .ag=>toA v c
 | .raw=>c v
def KT:List K→Type
 |[]=>Unit
 |[k]=>k.T
 |k::(x::r)=>k.T×KT (x::r)
def qW:(ks:List K)→List Value→(KT ks→Prop)→Prop
 |[],[],c=>c ()
 |[k],[v],c=>unV k v c
 |k::(y::r),v::vs,c=>unV k v λx=>qW (y::r) vs λxs=>c (x,xs)
 |_,_,_=>False
def dL:(ks:List K)→KT ks→List Value
 |[],_=>[]
 |[k],x=>[k.v x]
 |k::(y::r),x=>k.v x.1::dL (y::r) x.2
def Is(ks:List K)(v:Value)(c:KT ks→Prop):Prop:=toT v λl=>qW ks l c
def e9(l:List Value):Value:=match l with|[v]=>v|l=> .tuple l.toArray
def cast(k:K)(v:Value)(c:Value→Prop):Prop:=
 match k with
 | .i k=>xS k v λn=>c (.int k n)
 | .b=>Ir v λn=>c (.bool n)
 | .p=>toP v λn=>c (.pointer n)
 | .a=>amy v λn=>c (.pointer (some n))
 | .s=>toS v λn=>c (.slice n.a n.n n.c)
 | .str=>Yo v λn=>c (.string n)
 | .m=>toM v λn=>c (.map n)
 | .ag=>toA v λn=>c (.agg n)
 | .raw=>c v
def rd(w:World)(a:Addr)(c:Value→Prop):Prop:=match w.cell? a with|some v=>c v|none=>False
def aJ(k:IntKind)(w:World)(a:Addr)(c:Int→Prop):Prop:=rd w a λv=>xS k v c
def He(w:World)(a:Addr)(c:Bool→Prop):Prop:=rd w a λv=>Ir v c
def aQ(w:World)(a:Addr)(c:Option Addr→Prop):Prop:=rd w a λv=>toP v c
def cy(w:World)(a:Addr)(c:Sl→Prop):Prop:=rd w a λv=>toS v c
def Qp(w:World)(a:Addr)(c:ByteArray→Prop):Prop:=rd w a λv=>Yo v c
def ldM(w:World)(a:Addr)(c:Option Nat→Prop):Prop:=rd w a λv=>toM v c
def tH(w:World)(a:Addr)(c:Value→Prop):Prop:=rd w a c
def Gd(w:World)(a:Addr)(i:Nat):Nat→Option (List Value)
 |0=>some []
 |n+1=>match w.cell? (a.add i)with
  |some v=>match Gd w a (i+1) n with|some l=>some (v::l)|none=>none
  |none=>none
def bx(n:Nat)(w:World)(a:Addr)(c:Array Value→Prop):Prop:=match Gd w a 0 n with|some l=>c l.toArray|none=>False
def bN(w:World)(a:Addr)(v:Value)(c:ap):Prop:=
 v.oneCell'=true∧(w.cell? a).isSome=true∧w.frozen? a=false∧c (w.setCell a v)
def JU(w:World)(a:Addr)(i:Nat):List Value→(ap)→Prop
 |[],c=>c w
 |v::l,c=>bN w (a.add i) v λw=>JU w a (i+1) l c
def dQ(n:Nat)(w:World)(a:Addr)(cs:Array Value)(c:ap):Prop:=cs.size=n∧JU w a 0 cs.toList c
def nn(p:Option Addr)(c:Addr→Prop):Prop:=match p with|some a=>c a|none=>False
abbrev u7(a:Option Addr)(w:World)(n:Nat)(c:Option Addr→Prop):Prop:=nn a λo=>aQ w (o.add n) c
abbrev v7(a:Option Addr)(w:World)(n:Nat)(v:Value)(c:World→Prop):Prop:=nn a λo=>bN w (o.add n) v c
abbrev en(a:Option Addr)(w:World)(n:Nat)(c:Sl→Prop):Prop:=nn a λo=>cy w (o.add n) c
abbrev qJ7(a:Option Addr)(k:IntKind)(w:World)(n:Nat)(c:Int→Prop):Prop:=nn a λo=>aJ k w (o.add n) c
abbrev qA7(a:Option Addr)(k:Nat)(w:World)(n:Nat)(c:Array Value→Prop):Prop:=nn a λo=>bx k w (o.add n) c
abbrev qV7(a:Option Addr)(w:World)(n:Nat)(c:Value→Prop):Prop:=nn a λo=>tH w (o.add n) c
def cN(s:Sl)(i:Int)(sz:Nat)(c:Addr→Prop):Prop:=match s.a with|some a=>(0≤i∧i<s.n)∧c (a.add (i.toNat*sz))|none=>False
def Hf(a:Addr)(len:Nat)(i:Int)(sz:Nat)(c:Addr→Prop):Prop:=(0≤i∧i<len)∧c (a.add (i.toNat*sz))
def Qq(cs:Array Value)(o:Nat)(c:Value→Prop):Prop:=match cs[o]? with|some v=>c v|none=>False
def ixA(cs:Array Value)(len:Nat)(i:Int)(c:Value→Prop):Prop:=(0≤i∧i<len)∧Qq cs i.toNat c
def aAv(s:ByteArray)(i:Int)(c:Int→Prop):Prop:=0≤i∧match s[i.toNat]? with|some b=>c b.toNat|none=>False
def Th(s:Sl)(sz:Nat)(lo hi:Int)(c:Sl→Prop):Prop:=
 (0≤hi∧hi≤s.c)∧(0≤lo∧lo≤hi)∧c ⟨if s.c=lo.toNat then s.a else s.a.map (·.add (lo.toNat*sz)),hi.toNat - lo.toNat,s.c - lo.toNat⟩
def slL(s:Sl)(sz:Nat)(lo:Int)(c:Sl→Prop):Prop:=
 (0≤lo∧lo≤s.n)∧c ⟨if s.c=lo.toNat then s.a else s.a.map (·.add (lo.toNat*sz)),s.n - lo.toNat,s.c - lo.toNat⟩
def aqT(s:Sl)(sz:Nat)(lo hi mx:Int)(c:Sl→Prop):Prop:=
 (0≤mx∧mx≤s.c)∧(0≤hi∧hi≤mx)∧(0≤lo∧lo≤hi)∧c ⟨if mx.toNat=lo.toNat then s.a else s.a.map (·.add (lo.toNat*sz)),hi.toNat - lo.toNat,mx.toNat - lo.toNat⟩
def aqU(s:ByteArray)(lo hi:Int)(c:ByteArray→Prop):Prop:=
 (0≤hi∧hi≤s.size)∧(0≤lo∧lo≤hi)∧c (s.extract lo.toNat hi.toNat)
def Wf(k:IntKind)(x y:Int):Int:=k.wrap (x.tdiv y)
def abl(x y:Int):Int:=x.tmod y
def sD(k:IntKind)(x y:Int):Int:=k.wrap (x*2 ^ min y.toNat k.bits)
def IR(k:IntKind)(x y:Int):Int:=x.fdiv (2 ^ min y.toNat k.bits)
def aCY(k:IntKind)(x y:Int)(c:Int→Prop):Prop:=y≠0∧c (Wf k x y)
def amz(x y:Int)(c:Int→Prop):Prop:=y≠0∧c (abl x y)
def HI(k:IntKind)(x y:Int)(c:Int→Prop):Prop:=0≤y∧c (sD k x y)
def amA(k:IntKind)(x y:Int)(c:Int→Prop):Prop:=0≤y∧c (IR k x y)
def oH(k:IntKind)(x y:Int):Int:=k.wrap (BitVec.ofInt k.bits x&&&BitVec.ofInt k.bits y).toNat
def Ti(k:IntKind)(x y:Int):Int:=k.wrap (BitVec.ofInt k.bits x|||BitVec.ofInt k.bits y).toNat
def JV(k:IntKind)(x y:Int):Int:=k.wrap (BitVec.ofInt k.bits x ^^^ BitVec.ofInt k.bits y).toNat
def tU(k:IntKind)(x y:Int):Int:=k.wrap (BitVec.ofInt k.bits x&&&~~~ BitVec.ofInt k.bits y).toNat
def Wg(x y:Int):Int:=if y<x then y else x
def ZR(x y:Int):Int:=if y>x then y else x
def aE(w:World)(cs:Array Value)(t:TypeId)(c:Addr→ap):Prop:=c ⟨w.heap.size,0,none⟩ (w.alloc (.cells cs t))
def drew(w:World)(c:ap):Prop:=c w.drew
def ON(r:Result Value)(c:Value→ap):Prop:=match r with| .ok v w=>c v w| .halt _ _=>False
def aqV{A:Type}(r:Result A)(c:ap):Prop:=match r with| .ok _ w=>c w| .halt _ _=>False
def eqC(k:Nat)(x y:Value):Option Bool:=
 match k with
 |0=>match x,y with| .int k a,.int k' b=>if k=k' then some (a==b)else none|_,_=>none
 |1=>match x,y with| .bool a,.bool b=>some (a==b)|_,_=>none
 |_=>match x,y with| .string a,.string b=>some (a.toList==b.toList)|_,_=>none
def oZ(xs ys:Array Value):List (Nat×Nat)→Option Bool
 |[]=>some true
 |(o,k)::os=>match xs[o]?,ys[o]? with
  |some a,some b=>match eqC k a b,oZ xs ys os with|some r,some rs=>some (r&&rs)|_,_=>none
  |_,_=>none
def Tj(os:List (Nat×Nat))(xs ys:Array Value)(c:Bool→Prop):Prop:=match oZ xs ys os with|some b=>c b|none=>False
def kT(acc:Array Value)(off size:Nat)(cs:Array Value)(c:Array Value→Prop):Prop:=
 cs.size=size∧c (cs.zipIdx.foldl (λcs (x,j)=>cs.setIfInBounds (off+j) x) acc)
def an(b:Bool)(x y:Prop):Prop:=match b with|true=>x|false=>y
def nnV(v:Value)(c:Value→Prop):Prop:=match v with| .pointer p=>nn p λa=>c (.pointer (some a))| .func (.func f) a b=>c (.func (.func f) a b)|_=>False
def og(P:Program)(ts:Array TypeId)(t:TypeId)(vs:List Value)(w:World)(c:Sl→ap):Prop:=ON ((Builtin.append_ ts t vs.toArray).run P w) λv w=>toS v λs=>c s w
def U1(P:Program)(ts:Array TypeId)(t:TypeId)(vs:List Value)(w:World)(c:Int→ap):Prop:=ON ((Builtin.copy_ ts t vs.toArray).run P w) λv w=>xS .i64 v λs=>c s w
def aC0(P:Program)(ts:Array TypeId)(t:TypeId)(vs:List Value)(w:World)(c:Int→ap):Prop:=ON ((Builtin.len_ ts t vs.toArray).run P w) λv w=>xS .i64 v λs=>c s w
def awE(P:Program)(ts:Array TypeId)(t:TypeId)(vs:List Value)(w:World)(c:Value→ap):Prop:=ON ((Builtin.clear_ ts t vs.toArray).run P w) c
def ahR(P:Program)(ts:Array TypeId)(t:TypeId)(vs:List Value)(w:World)(c:Value→ap):Prop:=ON ((Builtin.delete_ ts t vs.toArray).run P w) c
def xz(P:Program)(t:TypeId)(l k:Value)(w:World)(c:Sl→ap):Prop:=ON ((Instr.makeSlice t l k).run P w) λv w=>toS v λs=>c s w
def mkMap(P:Program)(t:TypeId)(r:Option Value)(w:World)(c:Option Nat→ap):Prop:=ON ((Instr.makeMap t r).run P w) λv w=>toM v λs=>c s w
def look(P:Program)(t:TypeId)(x i:Value)(ok:Bool)(w:World)(c:Value→ap):Prop:=ON ((Instr.lookup t x i ok).run P w) c
def MP(P:Program)(t:TypeId)(m k x:Value)(w:World)(c:ap):Prop:=aqV ((Instr.mapUpdate t m k x).run P w) c
def tyA(P:Program)(x:Value)(xt as:TypeId)(ok:Bool)(w:World)(c:Value→ap):Prop:=ON ((Instr.typeAssert x xt as ok).run P w) c
def cvt(P:Program)(s d:TypeId)(x:Value)(w:World)(c:Value→ap):Prop:=ON ((convert s d x).run P w) c
def cz{S:Type}(body:(S→ap)→Prop)(rest:S→ap):Prop:=body rest
def jV{S:Type}(f:(S→ap)→S→ap):Nat→S→ap
 |0,_,_=>False
 |n+1,s,w=>f (jV f n) s w
def jD{S:Type}(f:(S→ap)→S→ap)(s:S)(w:World):Prop:=∃n,jV f n s w
variable{w:World}
def ot{S:Type}{f:(S→ap)→S→ap}(I:S→ap)(μ:S→World→Nat){s:S}(h0:I s w)
  (h:∀s w,I s w→∀C:S→ap,(∀s' w',I s' w'→μ s' w'<μ s w→C s' w')→f C s w):jD f s w:=by
 have key:∀n s w,μ s w≤n→I s w→jV f (n+1) s w:=by
  intro n;induction n with
  |zero=>intro s w hn hI;exact h s w hI _ λs' w' _ hlt=>by omega
  |succ n ih=>intro s w hn hI;exact h s w hI _ λs' w' a hlt=>ih s' w' af a
 exact⟨_,key _ s w (iw _) h0⟩
inductive EV where
 |val (v:Value)
 |gd (g:Nat) (want:Bool) (v:Value)
abbrev Env:=List (Nat×EV)
def Env.find:Env→Nat→Option EV
 |[],_=>none
 |(s,x)::e,t=>if Nat.beq s t then some x else Env.find e t
def EV.on:EV→Nat→Bool
 | .val _,_=>false
 | .gd g _ _,d=>Nat.beq g d
def Env.del(e:Env)(d:Nat):Env:=e.filter fun(s,x)=> !(Nat.beq s d)&& !(x.on d)
def Env.put(e:Env)(d:Nat)(v:Value):Env:=(d,.val v)::e.del d
def Env.Wh(e:Env)(d:Option Nat)(v:Value):Env:=match d with|some d=>e.put d v|none=>e
def Env.aqW(e:Env)(d g:Nat)(want:Bool)(v:Value):Env:=(d,.gd g want v)::e.del d
def Env.refine(e:Env)(g:Nat)(b:Bool):Env:=
 (g,.val (.bool b))::e.filterMap fun(s,x)=>if Nat.beq s g then none else match x with
  | .val v=>some (s,.val v)
  | .gd h want v=>if Nat.beq h g then some (s,.val (if want==b then v else undef))else some (s,.gd h want v)
def lP:Env→(Env→Prop)→Prop
 |[],c=>c []
 |(s,x)::e,c=>lP e λe=>c ((s,x)::e)
def kU:∀(e:Env) (c:Env→Prop),lP e c=c e
 |[],_=>rfl
 |(_,_)::e,_=>kU e _
def Env.op(e:Env):Operand→Option Value
 | .tmp t=>match e.find t with|some (.val v)=>some v|_=>none
 | .const v=>some v
 | .global g=>some (.pointer (some ⟨g,0,none⟩))
 | .func f=>some (.func (.func f) #[] #[])
def Env.opG(e:Env)(g:Nat)(b:Bool):Operand→Option Value
 | .tmp t=>match e.find t with|some (.val v)=>some v|some (.gd h want v)=>if Nat.beq h g&&want==b then some v else none|_=>none
 | .const v=>some v
 | .global g=>some (.pointer (some ⟨g,0,none⟩))
 | .func f=>some (.func (.func f) #[] #[])
def Env.under(e:Env)(g:Nat)(b:Bool):Operand→Option Value
 | .tmp t=>match e.find t with|some (.gd h want v)=>if Nat.beq h g&&want==b then some v else none|_=>none
 |_=>none
def rX(P:Program)(t:TypeId):K:=
 match P.underlying t with
 |some (.int k)=> .i k
 |some .bool=> .b
 |some .string=> .str
 |some (.pointer _)=> .p
 |some (.slice _)=> .s
 |some (.map _ _)=> .m
 |some (.struct _)|some (.array _ _)=> .ag
 |_=> .raw
def iB(P:Program)(t:TypeId):Nat:=match P.info? t with|some i=>i.size|none=>0
def zOf(P:Program)(t:TypeId):Option Value:=match P.info? t with|some i=>i.zero|none=>none
def Wl(P:Program)(s:TypeId)(f:Nat):Option Field:=match P.underlying s with|some (.struct fs)=>fs[f]?|_=>none
def aAw(P:Program)(t:TypeId):Option (List TypeId):=match P.underlying t with|some (.tuple ts)=>some ts.toList|_=>none
section
def Yp(P:Program)(t:TypeId)(v:Value)(c:Value→Prop):Prop:=
 match aAw P t with
 |none=>cast (rX P t) v c
 |some ts=>Is (ts.map (rX P)) v λx=>c (.tuple (dL (ts.map (rX P)) x).toArray)
def Qr(P:Program)(rec:TypeId→Option (List (Nat×Nat))):List Field→Option (List (Nat×Nat))
 |[]=>some []
 |f::fs=>if f.name== "_" then none else
  match rec f.type,Qr P rec fs with
  |some m,some l=>if m.all (fun x=>Nat.blt x.1 (iB P f.type))then some (m.map (fun x=>(x.1+f.offset,x.2))++l)else none
  |_,_=>none
def Qs(sz:Nat)(m:List (Nat×Nat)):Nat→Nat→List (Nat×Nat)
 |_,0=>[]
 |i,n+1=>m.map (λx=>(x.1+i*sz,x.2))++Qs sz m (i+1) n
def Gk(P:Program):Nat→TypeId→Option (List (Nat×Nat))
 |0,_=>none
 |d+1,t=>
  match P.underlying t with
  |some (.int _)=>some [(0,0)]
  |some .bool=>some [(0,1)]
  |some .string=>some [(0,2)]
  |some (.struct fs)=>if iB P t=0 then none else if P.stoodInHeld t then none else Qr P (Gk P d) fs.toList
  |some (.array n e)=>if iB P t=0 then none else if iB P e=0 then none else match Gk P d e with
   |some m=>if m.all (λx=>Nat.blt x.1 (iB P e))then some (Qs (iB P e) m 0 n)else none
   |none=>none
  |_=>none
abbrev ey:=Fn→Array Value→World→(Value→ap)→Prop
def nj(bY:ey)(f:Value)(args:Array Value)(w:World)(c:Value→ap):Prop:=
 match f with
 | .func (.func id) first captured=>bY (.func id) (first++args++captured) w c
 | .func (.yield l) first _=>bY (.yield l) (first++args) w c
 |_=>False
def pR(bY:ey)(P:Program)(v:Value)(name:String)(args:Array Value)(w:World)(c:Value→ap):Prop:=
 match v with
 | .iface t v=>match (method (P.types.size+Made.depth) t v name).run P w with
  | .ok (f,r) w=>bY (.func f) (#[r] ++args) w c
  | .halt _ _=>False
 |_=>False
def isI:K→Bool| .i _=>true|_=>false
def amB:Operand→Bool
 | .const (.int _ n)=>n==0
 |_=>true
def amC:Operand→Option Nat
 | .const (.int _ (.ofNat n))=>some n
 |_=>none
def aa1:Operand→Bool
 | .const (.int _ n)=>n<0
 |_=>true
def awG:Operand→Bool
 | .const (.pointer none)=>true
 |_=>false
def awH:Operand→Bool
 | .const (.slice none _ _)=>true
 |_=>false
def afN:Operand→Bool
 | .const .nilIface=>true
 |_=>false
def awI:Operand→Bool
 | .const (.map none)=>true
 |_=>false
def afO:Operand→Bool
 | .const .nilFunc=>true
 |_=>false
def abm(v:Value)(c:Bool→Prop):Prop:=match v with| .nilFunc=>c true| .func _ _ _=>c false|_=>False
def amD(P:Program)(ts:Array TypeId):K:=match ts[0]? with|some t=>rX P t|none=> .raw
def isEq:BinOp→Bool
 | .eql=>true
 | .neq=>true
 |_=>false
def aAy:BinOp→Bool
 | .eql=>true
 | .neq=>true
 | .lss=>true
 | .leq=>true
 | .gtr=>true
 | .geq=>true
 |_=>false
def ahT(op:BinOp)(y:Operand):Bool:=
 match op with
 | .quo=> !amB y
 | .rem=> !amB y
 | .shl=> !aa1 y
 | .shr=> !aa1 y
 |_=>true
def ahU(k:K)(op:BinOp)(y:Operand):Bool:=
 match k with
 | .i _=>ahT op y
 | .b=>isEq op
 | .str=>aAy op
 | .p=>isEq op&&awG y
 | .s=>isEq op&&awH y
 | .m=>isEq op&&awI y
 |_=>false
def isLen:Builtin→Bool| .len=>true|_=>false
def akj:Builtin→Bool| .cap=>true|_=>false
def aC1:Builtin→Bool| .min=>true| .max=>true|_=>false
def aAz(b:Builtin)(k:K):Bool:=
 match k with
 | .s=>isLen b||akj b
 | .str=>isLen b
 | .i _=>aC1 b
 |_=>false
def awJ(k:K):Bool:=
 match k with
 | .i _=>true
 | .b=>true
 |_=>false
def Cf(P:Program)(o:Op):Bool:=
 match o with
 | .move _=>true
 | .assign _=>true
 | .extract _ _=>true
 | .makeFunc _ _ _=>true
 | .binOp op t _ y _=>ahU (rX P t) op y
 | .unOp _ t _=>awJ (rX P t)
 | .convert s d _=>isI (rX P s)&&isI (rX P d)
 | .call c=>match c.callee with
  | .builtin b=>aAz b (amD P c.argTypes)
  |_=>false
 |_=>false
def afP(op:BinOp)(k:IntKind)(x y:Int):Option Value:=
 match op with
 | .add=>some (.int k (k.wrap (x+y)))
 | .sub=>some (.int k (k.wrap (x - y)))
 | .mul=>some (.int k (k.wrap (x*y)))
 | .and=>some (.int k (oH k x y))
 | .or=>some (.int k (Ti k x y))
 | .xor=>some (.int k (JV k x y))
 | .andNot=>some (.int k (tU k x y))
 | .quo=>some (.int k (Wf k x y))
 | .rem=>some (.int k (abl x y))
 | .eql=>some (.bool (x==y))
 | .neq=>some (.bool (x !=y))
 | .lss=>some (.bool (decide (x<y)))
 | .leq=>some (.bool (decide (x≤y)))
 | .gtr=>some (.bool (decide (x>y)))
 | .geq=>some (.bool (decide (x≥y)))
 |_=>none
def Wm(a b:ByteArray):Bool:=a.toList==b.toList
def amE(op:BinOp)(a b:ByteArray):Option Value:=
 match op with
 | .eql=>some (.bool (Wm a b))
 | .neq=>some (.bool (!(Wm a b)))
 | .lss=>some (.bool (Op.bytesLess a.toList b.toList))
 | .leq=>some (.bool (Op.bytesLess a.toList b.toList||Wm a b))
 | .gtr=>some (.bool (!(Op.bytesLess a.toList b.toList||Wm a b)))
 | .geq=>some (.bool (!(Op.bytesLess a.toList b.toList)))
 |_=>none
def Qt(op:BinOp)(b:Bool):Option Value:=
 match op with
 | .eql=>some (.bool b)
 | .neq=>some (.bool (!b))
 |_=>none
def IS{A:Type}(v:Option A)(c:A→Prop):Prop:=match v with|some v=>c v|none=>False
def opsL(ρ:Operand→Option Value):List Operand→Option (List Value)
 |[]=>some []
 |x::l=>match ρ x,opsL ρ l with|some v,some r=>some (v::r)|_,_=>none
def afQ(P:Program)(op:BinOp)(t:TypeId)(x y:Value):Option Value:=
 match rX P t with
 | .i _=>match x,y with
  | .int k a,.int k' b=>match op with
   | .shl=>some (.int k (sD k a b))
   | .shr=>some (.int k (IR k a b))
   |_=>if k=k' then afP op k a b else none
  |_,_=>none
 | .b=>match x,y with| .bool a,.bool b=>Qt op (a==b)|_,_=>none
 | .str=>match x,y with| .string a,.string b=>amE op a b|_,_=>none
 | .p=>match x,y with| .pointer a,.pointer none=>Qt op a.isNone|_,_=>none
 | .s=>match x,y with| .slice a _ _,.slice none _ _=>Qt op a.isNone|_,_=>none
 | .m=>match x,y with| .map a,.map none=>Qt op a.isNone|_,_=>none
 |_=>none
def aqX(op:UnOp)(x:Value):Option Value:=
 match x,op with
 | .bool b,.not=>some (.bool (!b))
 | .int k n,.neg=>some (.int k (k.wrap (0 - n)))
 | .int k n,.xor=>some (.int k (JV k (if k.signed then -1 else k.max) n))
 |_,_=>none
def evB(b:Builtin)(k:K)(l:Option (List Value)):Option Value:=
 match k,l with
 | .s,some [.slice _ n c]=>if isLen b then some (.int .i64 n)else if akj b then some (.int .i64 c)else none
 | .str,some [.string s]=>if isLen b then some (.int .i64 s.size)else none
 | .i _,some [.int k x,.int _ y]=>match b with| .min=>some (.int k (Wg x y))| .max=>some (.int k (ZR x y))|_=>none
 |_,_=>none
def aa2(P:Program)(o:Op)(ρ:Operand→Option Value):Option Value:=
 match o with
 | .move x=>ρ x
 | .assign x=>ρ x
 | .extract x i=>match ρ x with|some (.tuple vs)=>vs.toList[i]?|_=>none
 | .makeFunc fn first captured=>
  match opsL ρ first.toList,opsL ρ captured.toList with
  |some a,some b=>some (.func fn a.toArray b.toArray)
  |_,_=>none
 | .binOp op t x y _=>match ρ x,ρ y with|some a,some b=>afQ P op t a b|_,_=>none
 | .unOp op _ x=>match ρ x with|some a=>aqX op a|_=>none
 | .convert _ d x=>match ρ x,rX P d with|some (.int _ n),.i k=>some (.int k (k.wrap n))|_,_=>none
 | .call c=>match c.callee with
  | .builtin b=>evB b (amD P c.argTypes) (opsL ρ c.args.toList)
  |_=>none
 |_=>none
def afR(P:Program)(op:BinOp)(t:TypeId)(x:Option Value)(c:Value→Prop):Prop:=
 match x with
 |some v=>match P.underlying t with
  |some (.func _ _ _)=>abm v λb=>IS (Qt op b) c
  |_=>False
 |none=>False
def tu(P:Program)(o:Op)(ρ:Operand→Option Value)(c:Value→Prop):Prop:=
 match o with
 | .binOp op t x y _=>
  match afO y with
  |true=>afR P op t (ρ x) c
  |false=>
  match ρ x,ρ y with
  |some (.int k a),some (.int k' b)=>
   match op with
   | .shl=>HI k a b λn=>c (.int k n)
   | .shr=>amA k a b λn=>c (.int k n)
   | .quo=>if k=k' then aCY k a b λn=>c (.int k n)else False
   | .rem=>if k=k' then amz a b λn=>c (.int k n)else False
   |_=>False
  |some (.string a),some (.string b)=>match op with| .add=>((a.size+b.size:Nat):Int)≤9223372036854775807∧c (.string (a++b))|_=>False
  |some (.agg xs),some (.agg ys)=>
   if P.eqGuardType P.depth t then False else
   match rX P t with
   | .ag=>match Gk P 20 t,op with
    |some os,.eql=>Tj os xs ys λb=>c (.bool b)
    |some os,.neq=>Tj os xs ys λb=>c (.bool (!b))
    |_,_=>False
   |_=>False
  |some (.iface _ _),some .nilIface=>match P.underlying t with
   |some (.interface _)=>match op with| .eql=>c (.bool false)| .neq=>c (.bool true)|_=>False
   |_=>False
  |some .nilIface,some .nilIface=>match afN y with
   |true=>match P.underlying t with
    |some (.interface _)=>match op with| .eql=>c (.bool true)| .neq=>c (.bool false)|_=>False
    |_=>False
   |false=>False
  |_,_=>False
 | .nilCheck x=>match ρ x with|some v=>nnV v c|_=>False
 | .fieldAddr s x f=>
  match ρ x,Wl P s f with
  |some (.pointer (some a)),some fd=>if iB P fd.type=0 then False else c (.pointer (some (a.add fd.offset)))
  |_,_=>False
 | .field s x f=>
  match ρ x,Wl P s f with
  |some (.agg cs),some fd=>match rX P fd.type with| .ag=>if iB P fd.type=0 then False else c (.agg (cs.extract fd.offset (fd.offset+iB P fd.type)))| .raw=>False|k=>Qq cs fd.offset λv=>cast k v c
  |_,_=>False
 | .indexAddr t x i=>
  match ρ x,ρ i,P.underlying t with
  |some (.slice a n k),some (.int _ i),some (.slice e)=>if iB P e=0 then False else cN ⟨a,n,k⟩ i (iB P e) λa=>c (.pointer (some a))
  |some (.pointer (some a)),some (.int _ j),some (.array n e)=>if iB P e=0 then False else
   match amC i with
   |some j=>if j<n then c (.pointer (some (a.add (j*iB P e))))else False
   |none=>Hf a n j (iB P e) λa=>c (.pointer (some a))
  |_,_,_=>False
 | .index t x i=>
  match ρ x,ρ i,P.underlying t with
  |some (.agg cs),some (.int _ i),some (.array n e)=>match rX P e with| .ag=>False| .raw=>False|k=>if iB P e=1 then ixA cs n i λv=>cast k v c else False
  |some (.string s),some (.int _ i),some .string=>aAv s i λn=>c (.int .u8 n)
  |_,_,_=>False
 | .slice t x lo hi mx=>
  match ρ x,P.underlying t,(match lo with|some l=>ρ l|none=>some (.int .i64 0))with
  |some (.slice a n k),some (.slice e),some (.int _ lo)=>
   if iB P e=0 then False else
   match mx,hi with
   |none,none=>slL ⟨a,n,k⟩ (iB P e) lo λs=>c (.slice s.a s.n s.c)
   |none,some h=>match ρ h with|some (.int _ h)=>Th ⟨a,n,k⟩ (iB P e) lo h λs=>c (.slice s.a s.n s.c)|_=>False
   |some m,some h=>match ρ h,ρ m with|some (.int _ h),some (.int _ m)=>aqT ⟨a,n,k⟩ (iB P e) lo h m λs=>c (.slice s.a s.n s.c)|_,_=>False
   |_,_=>False
  |some (.string s),some .string,some (.int _ lo)=>
   match mx,hi with
   |none,none=>aqU s lo s.size λs=>c (.string s)
   |none,some h=>match ρ h with|some (.int _ h)=>aqU s lo h λs=>c (.string s)|_=>False
   |_,_=>False
  |some (.pointer (some a)),some (.array n e),some (.int _ lo)=>
   if iB P e=0 then False else
   match mx,hi with
   |none,none=>slL ⟨some a,n,n⟩ (iB P e) lo λs=>c (.slice s.a s.n s.c)
   |none,some h=>match ρ h with|some (.int _ h)=>Th ⟨some a,n,n⟩ (iB P e) lo h λs=>c (.slice s.a s.n s.c)|_=>False
   |_,_=>False
  |_,_,_=>False
 | .makeInterface t x=>match rX P t with| .raw=>False|_=>match ρ x with|some v=>c (.iface t v)|none=>False
 |_=>False
def afS:Op→Bool
 | .binOp _ _ _ _ _=>true
 | .nilCheck _=>true
 | .fieldAddr _ _ _=>true
 | .field _ _ _=>true
 | .indexAddr _ _ _=>true
 | .index _ _ _=>true
 | .slice _ _ _ _ _=>true
 | .makeInterface _ _=>true
 |_=>false
def SN(P:Program)(o:Op):Bool:=afS o&& !Cf P o
def JW(P:Program)(t:TypeId)(v:Option Value)(w:World)(c:Value→Prop):Prop:=
 match v with
 |some (.pointer (some a))=>
  match rX P t with
  | .i k=>aJ k w a λn=>c (.int k n)
  | .b=>He w a λn=>c (.bool n)
  | .p=>aQ w a λn=>c (.pointer n)
  | .a=>False
  | .s=>cy w a λn=>c (.slice n.a n.n n.c)
  | .str=>Qp w a λn=>c (.string n)
  | .m=>ldM w a λn=>c (.map n)
  | .ag=>if iB P t=0 then False else bx (iB P t) w a λcs=>c (.agg cs)
  | .raw=>match P.underlying t with|some _=>tH w a c|none=>False
 |_=>False
def rZ(v:Value)(c:Prop):Prop:=v.oneCell'=true∧c
def afT:K→Bool| .raw=>true|_=>false
def aqY(P:Program)(t:TypeId)(i:Nat):Bool:=
 match P.underlying t with
 |some (.struct fs)=>match fs[i]? with|some f=>afT (rX P f.type)|none=>false
 |some (.array _ e)=>afT (rX P e)
 |_=>false
def Qu(raw:Nat→Bool)(place:Nat→Option (Nat×Nat))(n:Nat):List (Nat×Value)→Array Value→(Array Value→Prop)→Prop
 |[],acc,c=>c acc
 |(i,v)::rest,acc,c=>
  match place i with
  |none=>False
  |some (off,size)=>
   if off+size>n then False else
   match raw i with
   |true=>if size=1 then rZ v (Qu raw place n rest (acc.setIfInBounds off v) c)else False
   |false=>
    match v with
    | .agg cs=>kT acc off size cs λacc=>Qu raw place n rest acc c
    |v=>if size=1 then Qu raw place n rest (acc.setIfInBounds off v) c else False
def placesOf(P:Program)(t:TypeId)(i:Nat):Option (Nat×Nat):=
 match P.underlying t with
 |some (.struct fs)=>match fs[i]? with|some f=>some (f.offset,iB P f.type)|none=>none
 |some (.array _ e)=>some (i*iB P e,iB P e)
 |_=>none
def abn(P:Program)(t:TypeId):Bool:=
 match P.underlying t with
 |some (.struct fs)=>fs.toList.all λf=>(P.info? f.type).isSome
 |some (.array _ e)=>(P.info? e).isSome
 |_=>false
def opsOf(ρ:Operand→Option Value):List (Nat×Operand)→Option (List (Nat×Value))
 |[]=>some []
 |(i,x)::l=>match ρ x,opsOf ρ l with|some v,some r=>some ((i,v)::r)|_,_=>none
def afU(P:Program)(bY:ey)(o:Oper)(ρ:Operand→Option Value)(w:World)(c:Value→ap):Prop:=
 match o.op with
 | .store t x y=>
  match ρ x,ρ y with
  |some (.pointer (some a)),some v=>
   match rX P t with
   | .ag=>if iB P t=0 then False else match v with| .agg cs=>dQ (iB P t) w a cs fun w=>c undef w|_=>False
   |_=>if iB P t=1 then bN w a v fun w=>c undef w else False
  |_,_=>False
 | .alloc t=>match zOf P t with|some z=>aE w z.cells t fun a w=>c (.pointer (some a)) w|none=>False
 | .box t x=>
  match ρ x with
  |some v=>
   match afT (rX P t)with
   |true=>rZ v (aE w #[v] t fun a w=>c (.pointer (some a)) w)
   |false=>aE w v.cells t fun a w=>c (.pointer (some a)) w
  |none=>False
 | .build t parts=>
  match opsOf ρ parts.toList,zOf P t with
  |some l,some z=>if z.cells.size=iB P t∧abn P t=true then Qu (aqY P t) (placesOf P t) (iB P t) l z.cells fun cs=>c (.agg cs) w else False
  |_,_=>False
 | .buildSlice t len parts=>
  match P.underlying t,opsOf ρ parts.toList with
  |some (.slice e),some l=>
   if len*iB P e>2 ^ 24∨(P.info? e).isSome=false then False else
   match (if len*iB P e=0 then some #[]else(zOf P e).map (·.cells))with
   |some z=>Qu (fun _=>afT (rX P e)) (fun i=>some (i*iB P e,iB P e)) (len*iB P e) l ((Array.range (len*iB P e)).map (z[· % z.size]!)) fun cs=>
     aE w cs e fun a w=>c (.slice (some a) len len) w
   |none=>False
  |_,_=>False
 | .makeSlice t l k=>
  match ρ l,ρ k with
  |some a,some b=>xz P t a b w fun s w=>c (.slice s.a s.n s.c) w
  |_,_=>False
 | .call cl=>
  match cl.callee with
  | .builtin b=>match opsL ρ cl.args.toList with
   |some vs=>match b with
    | .append=>og P cl.argTypes o.type vs w fun s w=>c (.slice s.a s.n s.c) w
    | .copy=>U1 P cl.argTypes o.type vs w fun n w=>c (.int .i64 n) w
    | .len=>aC0 P cl.argTypes o.type vs w fun n w=>c (.int .i64 n) w
    | .clear=>awE P cl.argTypes o.type vs w c
    | .delete=>ahR P cl.argTypes o.type vs w c
    | .panic=>bY (.method "panic") vs.toArray w c
    |_=>False
   |none=>False
  | .value f=>match ρ f,opsL ρ cl.args.toList with
   |some f,some vs=>nj bY f vs.toArray w fun v w=>Yp P o.type v fun v=>c v w
   |_,_=>False
  | .invoke r name=>match ρ r,opsL ρ cl.args.toList with
   |some v,some vs=>pR bY P v name vs.toArray w fun v w=>Yp P o.type v fun v=>c v w
   |_,_=>False
 | .makeMap t r=>
  match r with
  |none=>mkMap P t none w fun m w=>c (.map m) w
  |some r=>match ρ r with|some r=>mkMap P t (some r) w fun m w=>c (.map m) w|none=>False
 | .lookup t x i ok=>
  match ρ x,ρ i with
  |some x,some i=>look P t x i ok w fun v w=>Yp P o.type v fun v=>c v w
  |_,_=>False
 | .mapUpdate t m k x=>
  match ρ m,ρ k,ρ x with
  |some m,some k,some x=>MP P t m k x w fun w=>c undef w
  |_,_,_=>False
 | .insert t m k x=>
  match ρ m,ρ k,ρ x with
  |some m,some k,some x=>MP P t m k x w fun w=>c undef w
  |_,_,_=>False
 | .convert s d x=>
  match ρ x with
  |some x=>cvt P s d x w fun v w=>cast (rX P d) v fun v=>c v w
  |none=>False
 | .typeAssert x xt as ok=>
  match ρ x with
  |some x=>tyA P x xt as ok w fun v w=>Yp P o.type v fun v=>c v w
  |none=>False
 | .panic x=>
  match ρ x with
  |some v=>bY (.method "panic") #[v] w c
  |none=>False
 |_=>False
def aa3(e:Env)(x a b:Operand):Option Value:=
 match x,e.op x with
 | .tmp g,some (.bool cb)=>
  match (match e.op a with|some v=>some v|none=>e.under g true a),(match e.op b with|some v=>some v|none=>e.under g false b)with
  |some (.bool va),some (.bool vb)=>
   match a,b with
   | .const (.bool true),_=>some (.bool (cb||vb))
   |_,.const (.bool false)=>some (.bool (cb&&va))
   |_,_=>some (.bool (if cb then va else vb))
  |_,_=>none
 |_,_=>none
def abo(e:Env)(x a b:Operand)(c:Value→Prop):Prop:=
 match e.op x with
 |some (.bool cb)=>an cb (IS (e.op a) c) (IS (e.op b) c)
 |_=>False
def afV(ops:Array Oper)(g:Option (Nat×Bool)):Option (Nat×Bool):=
 match g with
 |some (j,want)=>match ops[j]? with|some o=>(match o.dst with|some d=>some (d,want)|none=>none)|none=>none
 |none=>none
def SO:Op→Option (Operand×Operand×Operand)| .pick x a b=>some (x,a,b)|_=>none
def JX:Op→Option (TypeId×Operand)| .load t x=>some (t,x)|_=>none
def aez(P:Program)(bY:ey)(o:Oper)(ρ:Operand→Option Value)(w:World)(c:Value→ap):Prop:=
 if Cf P o.op then IS (aa2 P o.op ρ) λv=>c v w
 else if SN P o.op then tu P o.op ρ λv=>c v w
 else match JX o.op with
  |some (t,x)=>JW P t (ρ x) w λv=>c v w
  |none=>afU P bY o ρ w c
def rootOf(e:Env):Nat→Nat→Nat
 |0,g=>g
 |n+1,g=>match e.find g with|some (.gd h _ _)=>rootOf e n h|_=>g
def Yq(g:Nat)(want:Bool)(yes no:Env→Prop):Nat→Env→Prop
 |0,_=>False
 |n+1,e=>
  match e.find g with
  |some (.val (.bool b))=>
   match want with
   |true=>an b (lP (e.refine g true) yes) (lP (e.refine g false) no)
   |false=>an b (lP (e.refine g true) no) (lP (e.refine g false) yes)
  |some (.val (.tuple _))=>no e
  |some (.gd _ _ _)=>
   match e.find (rootOf e 9 g)with
   |some (.val (.bool b))=>an b (lP (e.refine (rootOf e 9 g) true) λe=>Yq g want yes no n e) (lP (e.refine (rootOf e 9 g) false) λe=>Yq g want yes no n e)
   |_=>False
  |_=>False
def SP(P:Program)(bY:ey)(o:Oper)(e:Env)(w:World)(c:Env→ap):Prop:=
 match SO o.op with
 |some (x,a,b)=>
  match aa3 e x a b with
  |some v=>c (e.Wh o.dst v) w
  |none=>abo e x a b λv=>c (e.Wh o.dst v) w
 |none=>aez P bY o e.op w λv w=>c (e.Wh o.dst v) w
def abp(P:Program)(o:Op)(e:Env)(g:Nat)(want:Bool):Option Value:=
 match e.find g with
 |some (.val (.tuple _))=>none
 |_=>
  match SO o with
  |some (x,a,b)=>aa3 (e.refine g want) x a b
  |none=>if Cf P o then aa2 P o (e.opG g want)else none
def MQ(P:Program)(bY:ey)(ops:Array Oper)(o:Oper)(e:Env)(w:World)(c:Env→ap):Prop:=
 match o.guard with
 |none=>SP P bY o e w c
 |some _=>
  match afV ops o.guard with
  |none=>False
  |some (g,want)=>
   match abp P o.op e g want,o.dst with
   |some v,some d=>if Nat.beq d g then False else c (e.aqW d g want v) w
   |_,_=>Yq g want (λe=>SP P bY o e w c) (λe=>c (e.Wh o.dst undef) w) 9 e
def abq(P:Program)(bY:ey)(ops:Array Oper):List Oper→Env→World→(Env→ap)→Prop
 |[],e,w,c=>c e w
 |o::rest,e,w,c=>MQ P bY ops o e w λe w=>lP e λe=>abq P bY ops rest e w c
def U2(P:Program)(o:Op):Bool:=(SO o).isSome||Cf P o||SN P o
def MR(P:Program)(t:TypeId):Nat:=match rX P t with| .ag=>iB P t|_=>1
def ai(n:Nat)(a:Addr)(w w':World)(c:Prop):Prop:=(∀k,k<n→w'.cell? (a.add k)=w.cell? (a.add k))∧c
structure OO where
 i:Nat
 n:Nat
 a:Addr
 w:World
def Gn(o:Oper):Nat:=o.after.foldl (λs e=>if Region.binds .any e then s|||2 ^ e.on else s) 0
def Cu(P:Program)(ops:Array Oper)(m:Nat):Nat→Nat→Option Nat
 |0,_=>none
 |n+1,i=>match ops[i]? with
  |some o=>if !m.testBit i&&(Gn o&&&m==Gn o)&&(U2 P o.op||(JX o.op).isSome)then some i else Cu P ops m n (i+1)
  |none=>none
def LD(ops:Array Oper)(m:Nat):List Nat:=
 (List.range ops.size).filter λi=>match ops[i]? with|some o=> !m.testBit i&&(Gn o&&&m==Gn o)|none=>false
def Wn(sO:Nat)(hs:List OO)(w:World)(c:Prop):Prop:=
 match hs with
 |[]=>c
 |h::hs=>if sO.testBit h.i then Wn sO hs w c else ai h.n h.a h.w w (Wn sO hs w c)
def both(x y:Prop):Prop:=x∧y
def akk(l:List Nat)(c:Nat→Prop):Prop:=
 match l with
 |[]=>True
 |[i]=>c i
 |i::l=>both (c i) (akk l c)
def afW(P:Program)(i:Nat)(t:TypeId)(v:Option Value)(w:World)(hs:List OO):List OO:=
 match v with
 |some (.pointer (some a))=>⟨i,MR P t,a,w⟩::hs
 |_=>hs
def Qv(P:Program)(ops:Array Oper)(i:Nat)(o:Oper)(t:TypeId)(x:Operand)(e:Env)(w:World)(hs:List OO)(c:Env→List OO→Prop):Prop:=
 match o.guard with
 |none=>JW P t (e.op x) w λv=>c (e.Wh o.dst v) (afW P i t (e.op x) w hs)
 |some _=>
  match afV ops o.guard with
  |none=>False
  |some (g,want)=>Yq g want (λe=>JW P t (e.op x) w λv=>c (e.Wh o.dst v) (afW P i t (e.op x) w hs)) (λe=>c (e.Wh o.dst undef) hs) 9 e
def JY(P:Program)(bY:ey)(ops:Array Oper)(sO:Array Nat):Nat→Nat→List OO→Env→World→(Env→ap)→Prop
 |0,_,_,_,_,_=>False
 |fuel+1,m,hs,e,w,c=>
  match Cu P ops m ops.size 0 with
  |some i=>match ops[i]? with
   |some o=>match JX o.op with
    |some (t,x)=>Qv P ops i o t x e w hs λe hs=>lP e λe=>JY P bY ops sO fuel (m|||2 ^ i) hs e w c
    |none=>MQ P bY ops o e w λe w=>lP e λe=>JY P bY ops sO fuel (m|||2 ^ i) hs e w c
   |none=>False
  |none=>match LD ops m with
   |[]=>if (List.range ops.size).all (λi=>m.testBit i)then c e w else False
   |l=>akk l λi=>match ops[i]? with
    |some o=>MQ P bY ops o e w λe w=>Wn (sO.getD i 0) hs w (lP e λe=>JY P bY ops sO fuel (m|||2 ^ i) hs e w c)
    |none=>False
def abr(ops:Array Oper)(sO:Array Nat):Bool:=
 (List.range ops.size).all λj=>(List.range j).all λi=>(sO.getD j 0).testBit i||match ops[i]?,ops[j]? with|some x,some y=>Oper.apart ops x y&&Oper.apart ops y x|_,_=>false
def akl(acc:Array Nat)(o:Oper):Nat:=o.after.foldl (λs e=>if Region.binds .any e then s|||2 ^ e.on|||acc.getD e.on 0 else s) 0
def amF:List Oper→Array Nat→Array Nat
 |[],acc=>acc
 |o::l,acc=>amF l (acc.push (akl acc o))
def aeA(ops:Array Oper):Array Nat:=amF ops.toList #[]
def SQ(ops:Array Oper):Bool:=
 (List.range ops.size).all λj=>match ops[j]? with|some o=>o.after.all λe=> !Region.binds .any e||Nat.blt e.on j|none=>false
def noSelect(ops:Array Oper):Bool:=ops.toList.all λo=>match o.op with| .select _ _=>false|_=>true
def afX(ops:Array Oper):Bool:=SQ ops&&abr ops (aeA ops)&&noSelect ops
end
inductive Ex where
 |normal|exit (id:Nat)|ret
inductive AC where
 |skip
 |region (id:Nat) (ops:Array Oper) (draw:Bool)
 |seq (a b:AC)
 |cond (c:Operand) (a b:AC)
 |block (id:Nat) (a:AC)
 |loop (ks:List (Nat×K)) (a:AC)
 |exit (id:Nat)
 |label (l:Nat)
 |ret
 |join (ks:List (Nat×K)) (a:AC)
 |scope (a:AC)
 |bad (c:Code)
def AC.code:AC→Code
 | .skip=> .skip
 | .region id ops d=> .region id ops d
 | .seq a b=> .seq a.code b.code
 | .cond c a b=> .cond c a.code b.code
 | .block id a=> .block id a.code
 | .loop _ a=> .loop a.code
 | .exit id=> .exit id
 | .label l=> .label l
 | .ret=> .ret
 | .join _ a=>a.code
 | .scope a=> .scope a.code
 | .bad c=>c
abbrev sP:=List (Nat×List (Nat×K))
def sP.at:sP→Nat→Option (List (Nat×K))
 |[],_=>none
 |(m,k)::h,n=>if Nat.beq m n then some k else sP.at h n
def joined(h:sP)(n:Nat)(a:AC):AC:=match h.at n with|some ks=> .join ks a|none=>a
def nk(h:sP):Code→Nat→AC×Nat
 | .skip,n=>(.skip,n)
 | .region id ops d,n=>(joined h n (.region id ops d),n+1)
 | .seq a b,n=>match nk h a n with|(x,n)=>match nk h b n with|(y,n)=>(.seq x y,n)
 | .cond c a b,n=>match nk h a (n+1)with|(x,m)=>match nk h b m with|(y,m)=>(joined h n (.cond c x y),m)
 | .block id a,n=>match nk h a (n+1)with|(x,m)=>(joined h n (.block id x),m)
 | .loop a,n=>match nk h a (n+1)with|(x,m)=>(.loop ((h.at n).getD []) x,m)
 | .exit id,n=>(.exit id,n)
 | .label l,n=>(.label l,n)
 | .ret,n=>(.ret,n)
 | .scope a,n=>match nk h a n with|(x,m)=>(.scope x,m)
 |c,n=>(.bad c,n)
def MS(h:sP)(n:Nat)(a:AC):(joined h n a).code=a.code:=by
 unfold joined;split<;>rfl
def tV(h:sP)(c:Code):∀n,(nk h c n).1.code=c:=by
 induction c with
 |skip=>intro n;rfl
 |region id ops d=>intro n;simp[nk,MS,AC.code]
 |seq a b e f=>intro n;simp[nk,AC.code,e,f]
 |cond c a b e f=>intro n;simp[nk,MS,AC.code,e,f]
 |block id a ih=>intro n;simp[nk,MS,AC.code,ih]
 |loop a ih=>intro n;simp[nk,AC.code,ih]
 |scope a ih=>intro n;simp[nk,AC.code,ih]
 |_=>intros;rfl
def AC.writes:AC→Nat→Bool
 | .region _ ops _,s=>ops.toList.any λo=>match o.dst with|some d=>Nat.beq d s|none=>false
 | .seq a b,s=>a.writes s||b.writes s
 | .cond _ a b,s=>a.writes s||b.writes s
 | .block _ a,s=>a.writes s
 | .loop _ a,s=>a.writes s
 | .join _ a,s=>a.writes s
 | .scope a,s=>a.writes s
 |_,_=>false
def AC.fits(n:Nat):AC→Bool
 | .region _ ops _=>ops.toList.all λo=>match o.dst with|some d=>Nat.blt d n|none=>true
 | .seq a b=>a.fits n&&b.fits n
 | .cond _ a b=>a.fits n&&b.fits n
 | .block _ a=>a.fits n
 | .loop _ a=>a.fits n
 | .join _ a=>a.fits n
 | .scope a=>a.fits n
 |_=>true
def HT:List (Nat×K)→Type
 |[]=>Unit
 |[(_,k)]=>k.T
 |(_,k)::(x::r)=>k.T×HT (x::r)
def Be:(ks:List (Nat×K))→HT ks→Env
 |[],_=>[]
 |[(s,k)],x=>[(s,.val (k.v x))]
 |(s,k)::(y::r),x=>(s,.val (k.v x.1))::Be (y::r) x.2
def uo:(ks:List (Nat×K))→Env→(HT ks→Prop)→Prop
 |[],_,c=>c ()
 |[(s,k)],e,c=>match e.find s with|some (.val v)=>unV k v c|_=>False
 |(s,k)::(y::r),e,c=>match e.find s with|some (.val v)=>unV k v λx=>uo (y::r) e λxs=>c (x,xs)|_=>False
def Env.keep(e:Env)(mask:Nat):Env:=e.filter fun(s,x)=>mask.testBit s&&(match x with| .val _=>true|_=>false)
def Env.unw(e:Env)(a:AC):Env:=e.filter fun(s,x)=> !(a.writes s)&&(match x with| .val _=>true|_=>false)
def ev(P:Program)(bY:ey)(mask:Nat):AC→Env→World→(Ex→Env→ap)→Prop
 | .skip,e,w,k=>k .normal e w
 | .label _,e,w,k=>k .normal e w
 | .region _ ops draw,e,w,k=>
  if draw then(if afX ops then drew w λw=>JY P bY ops (aeA ops) (ops.size+1) 0 [] e w λe w=>lP (e.keep mask) λe=>k .normal e w else False)
  else abq P bY ops ops.toList e w λe w=>lP (e.keep mask) λe=>k .normal e w
 | .seq a b,e,w,k=>ev P bY mask a e w λx e w=>match x with| .normal=>ev P bY mask b e w k|x=>k x e w
 | .cond c a b,e,w,k=>match e.op c with|some (.bool t)=>an t (ev P bY mask a e w k) (ev P bY mask b e w k)|_=>False
 | .block id a,e,w,k=>ev P bY mask a e w λx e w=>match x with| .exit i=>if Nat.beq i id then k .normal e w else k (.exit i) e w|x=>k x e w
 | .loop ks a,e,w,k=>
  uo ks e λx=>jD (λC x w=>lP (Be ks x++e.unw a) λe=>ev P bY mask a e w λy e w=>match y with| .normal=>uo ks e λx=>C x w|y=>k y e w) x w
 | .exit id,e,w,k=>k (.exit id) e w
 | .ret,e,w,k=>k .ret e w
 | .join ks a,e,w,k=>
  cz (λJ=>ev P bY mask a e w λx e w=>match x with| .normal=>uo ks e λx=>J x w|x=>k x e w) λx w=>lP (Be ks x++e.unw a) λe=>k .normal e w
 | .scope a,e,w,k=>ev P bY mask a e w k
 | .bad _,_,_,_=>False
def azT(P:Program)(r:ResultVar)(e:Env)(w:World)(c:Value→Prop):Prop:=
 match r with
 | .tmp t=>IS (e.op (.tmp t)) c
 | .cell a t=>JW P t (e.op (.tmp a)) w c
def JZ(P:Program):List ResultVar→Env→World→(List Value→Prop)→Prop
 |[],_,_,c=>c []
 |r::rs,e,w,c=>azT P r e w λv=>JZ P rs e w λl=>c (v::l)
def amG(P:Program)(rs:List ResultVar)(c:List Value→ap)(x:Ex)(e:Env)(w:World):Prop:=
 match x with
 | .exit _=>False
 |_=>JZ P rs e w λl=>c l w
def DE:Nat→List Value→Env
 |_,[]=>[]
 |n,v::l=>(n,.val v)::DE (n+1) l
def OP(P:Program)(bY:ey)(mask:Nat)(h:sP)(fn:Func)(ks:List K)(args:List Value)(w:World)(c:KT ks→ap):Prop:=
 match fn.body with
 |some b=>ev P bY mask (nk h b 0).1 (DE 0 args) w (amG P fn.results.toList λl w=>qW ks l λx=>c x w)
 |none=>False
def Wo(h:sP)(fn:Func)(n:Nat):Bool:=
 match fn.body with
 |some b=>(nk h b 0).1.fits fn.ntmps&&Nat.ble n fn.ntmps&& !(fn.name== "runtime.NumGoroutine")
 |none=>false
def Wp(P:Program)(bY:ey)(mask:Nat):List AC→Env→World→(Ex→Env→ap)→Prop
 |[],e,w,k=>k .normal e w
 |a::l,e,w,k=>ev P bY mask a e w λx e w=>match x with| .normal=>Wp P bY mask l e w k|x=>k x e w
def spine:List AC→Code→Code
 |[],c=>c
 |a::l,c=> .seq a.code (spine l c)
def akm(P:Program)(bY:ey)(amH:(Value→ap)→ey)(dR:List Value→World→(ap)→Prop)(dP:List Value→Value→World→(ap)→Prop)
  (mask:Nat) (pre:List AC) (d:Nat) (g:FuncId) (abt:List Operand) (post:AC) (fn:Func) (ks:List K) (args:List Value) (w:World) (c:KT ks→ap):Prop:=
 Wp P bY mask pre (DE 0 args) w λx e w=>match x with
  | .normal=>match opsL e.op abt with
   |some l=>lP (e.put d (.func (.func g) #[] l.toArray)) λe=>
    ev P (amH λv w=>dP l v w λw=>JZ P fn.results.toList (e.unw post) w λl=>qW ks l λx=>c x w) mask post e w λx e w=>match x with
     | .exit _=>False
     |_=>dR l w λw=>JZ P fn.results.toList e w λl=>qW ks l λx=>c x w
   |none=>False
  |x=>amG P fn.results.toList (λl w=>qW ks l λx=>c x w) x e w
def akn(P:Program)(bY:ey)(mask:Nat)(c:AC)(args:List Value)(w:World)(k:ap):Prop:=
 ev P bY mask c (DE 0 args) w λx _ w=>match x with| .exit _=>False|_=>k w
def aAA:Array Oper→Bool:=λops=>match ops.toList.reverse with|o::_=>(match o.op with| .defer _=>true|_=>false)|[]=>false
def afY:Code→Option (List Code×Nat×Array Oper×Code)
 | .seq (.region id ops d) c=>match aAA ops with
  |true=>some ([],id,ops,c)
  |false=>match afY c with|some (l,r)=>some (.region id ops d::l,r)|none=>none
 | .seq x c=>match afY c with|some (l,r)=>some (x::l,r)|none=>none
 |_=>none
def aa4(fn:Func):List Code×Nat×Array Oper×Code:=match fn.body with|some b=>(match afY b with|some r=>r|none=>([],0,#[],.skip))|none=>([],0,#[],.skip)
def azU(c:Code):AC:=(nk [] c 0).1
def aC3(fn:Func):List AC:=(aa4 fn).1.map azU
def aC4(fn:Func):Nat:=(aa4 fn).2.1
def azV(fn:Func):List Oper:=(aa4 fn).2.2.1.toList
def aAB(fn:Func):AC:=azU (aa4 fn).2.2.2
def xMk(fn:Func):Oper:=(azV fn).headD default
def xDf(fn:Func):Oper:=(azV fn).getLastD default
def xD(fn:Func):Nat:=match (xMk fn).dst with|some d=>d|none=>0
def xG(fn:Func):FuncId:=match (xMk fn).op with| .makeFunc (.func g) _ _=>g|_=>0
def aAC(fn:Func):List Operand:=match (xMk fn).op with| .makeFunc _ _ c=>c.toList|_=>[]
abbrev bt:=List Value→World→(Value→ap)→Prop
def abu:List (Nat×bt)→FuncId→bt
 |[],_,_,_,_=>False
 |(n,d)::l,f,args,w,c=>match Nat.beq n f with|true=>d args w c|false=>abu l f args w c
def kC(l:List (Nat×bt)):ey:=λfn args w c=>match fn with| .func f=>abu l f args.toList w c|_=>False
def J0(l:List (Nat×bt))(Y:Nat→bt):ey:=λfn args w c=>match fn with| .func f=>abu l f args.toList w c| .yield n=>Y n args.toList w c|_=>False
def aC5(a:Act)(s:Nat):EV→Prop
 | .val v=>a.tmps[s]?=some v
 | .gd g want v=>(a.tmps[g]?=some (.bool want)→a.tmps[s]?=some v)∧(a.tmps[g]?≠some (.bool want)→a.tmps[s]?=some undef)
def Sub(e:Env)(a:Act):Prop:=∀p∈e,aC5 a p.1 p.2
def beq_eq{a b:Nat}(h:Nat.beq a b=true):a=b:=Nat.eq_of_beq_eq_true h
def amI{a b:Nat}(h:Nat.beq a b=false):a≠b:=λe=>by subst e;simp at h
def Dc:∀{e:Env} {t:Nat} {x:EV},e.find t=some x→(t,x)∈e
 |[],_,_,h=>by simp[Env.find]at h
 |(s,y)::e,t,x,h=>by
  unfold Env.find at h;split at h
  ·rename_i hb;have:=beq_eq hb;subst this;cases h;exact List.mem_cons_self
  ·exact List.mem_cons_of_mem _ (Dc h)
def uV(ρ:Operand→Option Value)(a:Act):Prop:=∀x v,ρ x=some v→a.eval x=v
variable{a:Act}
def Wr{t:Nat}{v:Value}(h:a.tmps[t]?=some v):a.eval (.tmp t)=v:=by
 simp[Act.eval,h]
variable{e:Env}
def qi(h:Sub e a):uV e.op a:=by
 intro x v hx;cases x with
 |tmp t=>
  simp only[Env.op]at hx;split at hx
  ·rename_i u hf;cases hx;exact Wr (h _ (Dc hf))
  ·cases hx
 |const u=>simp[Env.op]at hx;subst hx;rfl
 |global g=>simp[Env.op]at hx;subst hx;rfl
 |func f=>simp[Env.op]at hx;subst hx;rfl
variable{b:Bool}{g:Nat}
def ako(h:Sub e a)(hg:a.tmps[g]?=some (.bool b)):uV (e.opG g b) a:=by
 intro x v hx;cases x with
 |tmp t=>
  simp only[Env.opG]at hx;split at hx
  ·rename_i u hf;cases hx;exact Wr (h _ (Dc hf))
  ·rename_i g' want u hf;split at hx
   ·rename_i hc;simp only[iY]at hc;have h1:=beq_eq hc.1;have h2:want=b:=by simpa using hc.2
    subst h1;subst h2;cases hx
    exact Wr ((h _ (Dc hf)).1 hg)
   ·cases hx
  ·cases hx
 |const u=>simp[Env.opG]at hx;subst hx;rfl
 |global g=>simp[Env.opG]at hx;subst hx;rfl
 |func f=>simp[Env.opG]at hx;subst hx;rfl
variable{x:Operand}
def Wu(h:Sub e a)(hg:a.tmps[g]?=some (.bool b)){v:Value}(hx:e.under g b x=some v):a.eval x=v:=by
 cases x with
 |tmp t=>
  simp only[Env.under]at hx;split at hx
  ·rename_i g' want u hf;split at hx
   ·rename_i hc;simp only[iY]at hc;have h1:=beq_eq hc.1;have h2:want=b:=by simpa using hc.2
    subst h1;subst h2;cases hx
    exact Wr ((h _ (Dc hf)).1 hg)
   ·cases hx
  ·cases hx
 |_=>simp[Env.under]at hx
def Gp{d s:Nat}{v:Value}(h:s≠d):(a.put (some d) v).tmps[s]?=a.tmps[s]?:=by
 simp[Act.put,Array.getElem?_setIfInBounds_ne (Ne.symm h)]
def Wv{d:Nat}{v:Value}(h:d<a.tmps.size):(a.put (some d) v).tmps[d]?=some v:=by
 simp[Act.put,h]
def amJ{d:Nat}{v:Value}(h:Sub e a):Sub (e.del d) (a.put (some d) v):=by
 intro p hp;unfold Env.del at hp;rw[List.mem_filter]at hp;obtain⟨hp,hc⟩:=hp;obtain⟨s,x⟩:=p;simp only[iY,Bool.not_eq_true']at hc;have hs:=amI hc.1;have h0:=h _ hp;cases x with
 |val u=>show _=_;rw[Gp hs];exact h0
 |gd g want u=>
  have hg:g≠d:=amI hc.2;show(_→(a.put (some d) v).tmps[s]?=some u)∧_;rw[Gp hg,Gp hs];exact h0
def amK{d:Nat}{v:Value}(h:Sub e a)(hd:d<a.tmps.size):Sub (e.put d v) (a.put (some d) v):=by
 intro p hp;unfold Env.put at hp;rcases List.mem_cons.1 hp with rfl|hp
 ·exact Wv hd
 ·exact amJ h p hp
def zo{d:Option Nat}{v:Value}(h:Sub e a)(hd:∀x,d=some x→x<a.tmps.size):Sub (e.Wh d v) (a.put d v):=by
 cases d with
 |none=>exact h
 |some d=>exact amK h (hd d rfl)
variable{want:Bool}
def Ww{d:Nat}{v v':Value}(h:Sub e a)(hd:d<a.tmps.size)(hne:d≠g)(hv:a.tmps[g]?=some (.bool want)→v'=v)(Gq:a.tmps[g]?≠some (.bool want)→v'=undef):Sub (e.aqW d g want v) (a.put (some d) v'):=by
 intro p hp;unfold Env.aqW at hp;rcases List.mem_cons.1 hp with rfl|hp
 ·show(_→(a.put (some d) v').tmps[d]?=some v)∧_;rw[Gp (Ne.symm hne),Wv hd];exact⟨λhw=>by rw[hv hw],λhw=>by rw[Gq hw]⟩
 ·exact amJ h p hp
def Cv(h:Sub e a)(hg:a.tmps[g]?=some (.bool b)):Sub (e.refine g b) a:=by
 intro p hp;unfold Env.refine at hp;rcases List.mem_cons.1 hp with rfl|hp
 ·exact hg
 ·rw[List.mem_filterMap]at hp;obtain⟨⟨s,x⟩,hm,hx⟩:=hp;have h0:=h _ hm;dsimp only at hx;split at hx
  ·cases hx
  ·cases x with
   |val v=>simp only[Option.some.injEq]at hx;subst hx;exact h0
   |gd g' want v=>
    dsimp only at hx;split at hx
    ·rename_i hb;have:=beq_eq hb;subst this;simp only[Option.some.injEq]at hx;subst hx;show a.tmps[s]?=some _;split
     ·rename_i hw;have hw':want=b:=by simpa using hw
      subst hw';exact h0.1 hg
     ·rename_i hw;have hw':want≠b:=by simpa using hw
      exact h0.2 (by rw[hg];simp;exact λe=>hw' e.symm)
    ·simp only[Option.some.injEq]at hx;subst hx;exact h0
def aeB{ρ:Operand→Option Value}{a:Act}(h:uV ρ a):∀{l:List Operand} {vs:List Value},opsL ρ l=some vs→l.map a.eval=vs
 |[],vs,hl=>by simp[opsL]at hl;subst hl;rfl
 |x::l,vs,hl=>by
  simp only[opsL]at hl;split at hl
  ·rename_i v r hv hr;cases hl
   simp[h x v hv,aeB h hr]
  ·cases hl
variable{ρ:Operand→Option Value}{vs:List Value}
def tR(h:uV ρ a){l:Array Operand}(hl:opsL ρ l.toList=some vs):l.map a.eval=vs.toArray:=by
 apply Array.ext';simp[aeB h hl]
def U3{ρ:Operand→Option Value}{a:Act}(h:uV ρ a):∀{l:List (Nat×Operand)} {vs:List (Nat×Value)},opsOf ρ l=some vs→l.map (fun(i,x)=>(i,a.eval x))=vs
 |[],vs,hl=>by simp[opsOf]at hl;subst hl;rfl
 |(i,x)::l,vs,hl=>by
  simp only[opsOf]at hl;split at hl
  ·rename_i v r hv hr;cases hl
   simp[h x v hv,U3 h hr]
  ·cases hl
variable{k:IntKind}
def Qw{v:Value}{c:Int→Prop}(h:xS k v c):∃n,v= .int k n∧c n:=by
 unfold xS at h;split at h
 ·split at h
  ·rename_i hk;subst hk;exact⟨_,rfl,h⟩
  ·exact h.elim
 ·exact h.elim
def abv{v:Value}{c:Bool→Prop}(h:Ir v c):∃n,v= .bool n∧c n:=by
 unfold Ir at h;split at h<;>first|exact⟨_,rfl,h⟩|exact h.elim
def abw{v:Value}{c:Option Addr→Prop}(h:toP v c):∃n,v= .pointer n∧c n:=by
 unfold toP at h;split at h<;>first|exact⟨_,rfl,h⟩|exact h.elim
def aeC{v:Value}{c:Addr→Prop}(h:amy v c):∃n,v= .pointer (some n)∧c n:=by
 unfold amy at h;split at h<;>first|exact⟨_,rfl,h⟩|exact h.elim
def Qx{v:Value}{c:Sl→Prop}(h:toS v c):∃n:Sl,v= .slice n.a n.n n.c∧c n:=by
 unfold toS at h;split at h
 ·rename_i a n k;exact⟨⟨a,n,k⟩,rfl,h⟩
 ·exact h.elim
def U4{v:Value}{c:ByteArray→Prop}(h:Yo v c):∃n,v= .string n∧c n:=by
 unfold Yo at h;split at h<;>first|exact⟨_,rfl,h⟩|exact h.elim
def Qy{v:Value}{c:Option Nat→Prop}(h:toM v c):∃n,v= .map n∧c n:=by
 unfold toM at h;split at h<;>first|exact⟨_,rfl,h⟩|exact h.elim
def ahX{v:Value}{c:Array Value→Prop}(h:toA v c):∃n,v= .agg n∧c n:=by
 unfold toA at h;split at h<;>first|exact⟨_,rfl,h⟩|exact h.elim
def Wx{k:K}{v:Value}{c:k.T→Prop}(h:unV k v c):∃x:k.T,v=k.v x∧c x:=by
 cases k with
 |i kk=>exact Qw h
 |b=>exact abv h
 |p=>exact abw h
 |a=>exact aeC h
 |s=>exact Qx h
 |str=>exact U4 h
 |m=>exact Qy h
 |ag=>exact ahX h
 |raw=>exact⟨v,rfl,h⟩
def SR{k:K}{v:Value}{c:Value→Prop}(h:cast k v c):c v:=by
 cases k with
 |i kk=>obtain⟨n,rfl,h'⟩:=Qw h;exact h'
 |b=>obtain⟨n,rfl,h'⟩:=abv h;exact h'
 |p=>obtain⟨n,rfl,h'⟩:=abw h;exact h'
 |a=>obtain⟨n,rfl,h'⟩:=aeC h;exact h'
 |s=>obtain⟨n,rfl,h'⟩:=Qx (c:=λn=>c (.slice n.a n.n n.c)) h;exact h'
 |str=>obtain⟨n,rfl,h'⟩:=U4 h;exact h'
 |m=>obtain⟨n,rfl,h'⟩:=Qy h;exact h'
 |ag=>obtain⟨n,rfl,h'⟩:=ahX h;exact h'
 |raw=>exact h
def zu:∀{ks:List K} {l:List Value} {c:KT ks→Prop},qW ks l c→∃x,l=dL ks x∧c x
 |[],[],c,h=>⟨(),rfl,h⟩
 |[],_::_,c,h=>h.elim
 |[k],[v],c,h=>by obtain⟨x,rfl,hc⟩:=Wx h;exact⟨x,rfl,hc⟩
 |[k],[],c,h=>h.elim
 |[k],_::_::_,c,h=>h.elim
 |k::(y::r),v::vs,c,h=>by
  obtain⟨x,rfl,h'⟩:=Wx h;obtain⟨xs,rfl,hc⟩:=zu h';exact⟨(x,xs),rfl,hc⟩
 |k::(y::r),[],c,h=>h.elim
variable{P:Program}{t:TypeId}
def Cw{v:Value}{c:Value→Prop}(h:Yp P t v c):c v:=by
 unfold Yp at h;split at h
 ·exact SR h
 ·unfold Is toT at h;split at h
  ·obtain⟨x,hx,hc⟩:=zu h;rw[←hx]at hc;exact hc
  ·exact h.elim
variable{y:Operand}
def adS{op:BinOp}{a b:Value}(h1:∀c,a≠ .agg c)(h2:a≠ .nilIface):(eqGuard op t x y a b).run P w= .ok () w:=by
 cases a with
 |agg c=>exact absurd rfl (h1 c)
 |nilIface=>exact absurd rfl h2
 |_=>cases op<;>rfl
variable{o:Oper}{yt:TypeId}
def Qz{op:BinOp}{v:Value}(ho:o.op= .binOp op t x y yt)
  (h1:∀c,a.eval x≠ .agg c) (h2:a.eval x≠ .nilIface) (h:(binOp op t (a.eval x) (a.eval y)).run P w= .ok v w):(execOp a.eval o).run P w= .ok (.value v) w:=by
 simp only[execOp,ho,cR,adS h1 h2,cK,h,cP]
def abx{op:BinOp}{k':IntKind}{m n:Int}{v:Value}(hk:k=k')(hq:n≠0∨(op≠ .quo∧op≠ .rem))(h:afP op k m n=some v):
  (binOp op t (.int k m) (.int k' n)).run P w= .ok v w:=by
 subst hk;cases op<;>simp only[afP,Option.some.injEq,reduceCtorEq]at h<;>subst h<;>
  first
  |(simp[binOp,Op.intArith];done)
  |(simp[binOp,Op.intBits,oH,Ti,JV,tU];done)
  |(simp[binOp,Op.intCmp];done)
  |(have hn:n≠0:=by rcases hq with h|h<;>simp_all
    simp[binOp,Op.intDiv,hn,Wf,abl])
def MU{op:BinOp}{k':IntKind}{m n:Int}(hn:0≤n):
  (op= .shl→(binOp op t (.int k m) (.int k' n)).run P w= .ok (.int k (sD k m n)) w)∧
  (op= .shr→(binOp op t (.int k m) (.int k' n)).run P w= .ok (.int k (IR k m n)) w):=by
 have hn':¬n<0:=af;constructor<;>intro h<;>subst h<;>simp[binOp,Op.shift,hn',sD,IR]
variable{d:TypeDesc}
def jr(h:P.underlying t=some d):(underlying t).run P w= .ok d w:=run_underlying h w
def vS{k:K}(h:rX P t=k)(hk:k≠ .raw):∃d,P.underlying t=some d∧(match k with
  | .i k=>d= .int k| .a=>False| .b=>d= .bool| .str=>d= .string| .p=> ∃e,d= .pointer e| .s=> ∃e,d= .slice e| .m=> ∃x y,d= .map x y
  | .ag=>(∃fs,d= .struct fs)∨(∃n e,d= .array n e)| .raw=>False):=by
 unfold rX at h;split at h<;>subst h<;>first|exact absurd rfl hk|(rename_i hd;exact⟨_,hd,rfl⟩)|(rename_i hd;exact⟨_,hd,_,rfl⟩)|(rename_i hd;exact⟨_,hd,_,_,rfl⟩)|(rename_i hd;exact⟨_,hd,.inl ⟨_,rfl⟩⟩)|(rename_i hd;exact⟨_,hd,.inr ⟨_,_,rfl⟩⟩)
def akp{a:Bool}(d:Nat)(h:P.underlying t=some .bool):(Op.equalIn (d+1) t (.bool a) (.bool b)).run P w= .ok (a==b) w:=by
 simp only[Op.equalIn,cR,jr h,cK,cP]
def aom{e:TypeId}{a:Option Addr}(d:Nat)(h:P.underlying t=some (.pointer e)):(Op.equalIn (d+1) t (.pointer a) (.pointer none)).run P w= .ok a.isNone w:=by
 cases a<;>simp only[Op.equalIn,cR,jr h,cK,cP,eA]
variable{n:Nat}
def ahY{e:TypeId}{a:Option Addr}{c n' c':Nat}(d:Nat)(h:P.underlying t=some (.slice e)):(Op.equalIn (d+1) t (.slice a n c) (.slice none n' c')).run P w= .ok a.isNone w:=by
 cases a<;>simp only[Op.equalIn,cR,jr h,cK,cP,eA]
variable{e':TypeId}
def aon{e:TypeId}{a:Option Nat}(d:Nat)(h:P.underlying t=some (.map e e')):(Op.equalIn (d+1) t (.map a) (.map none)).run P w= .ok a.isNone w:=by
 cases a<;>simp only[Op.equalIn,cR,jr h,cK,cP,eA]
def aa5{op:BinOp}{x y:Value}{v:Value}
  (hx:∀(op:BinOp),op= .eql→binOp op t x y=(do pure (.bool (←Op.equal t x y)))) (hx':∀(op:BinOp),op= .neq→binOp op t x y=(do pure (.bool (!(←Op.equal t x y)))))
  (he:(Op.equal t x y).run P w= .ok b w) (h:Qt op b=some v):(binOp op t x y).run P w= .ok v w:=by
 cases op<;>simp only[Qt,Option.some.injEq,reduceCtorEq]at h<;>subst h
 ·rw[hx _ rfl];simp[he]
 ·rw[hx' _ rfl];simp[he]
def akq{op:BinOp}{x y v:Value}(hok:∀k m k' n,x= .int k m→y= .int k' n→(n≠0∨(op≠ .quo∧op≠ .rem))∧(0≤n∨(op≠ .shl∧op≠ .shr)))
  (h:afQ P op t x y=some v):(binOp op t x y).run P w= .ok v w∧(∀c,x≠ .agg c)∧x≠ .nilIface:=by
 unfold afQ at h;split at h
 ·split at h
  ·rename_i k m k' n;obtain⟨h1,h2⟩:=hok _ _ _ _ rfl rfl;refine⟨?_,λc=>by simp,bf⟩
   split at h
   ·cases h;exact(MU (by rcases h2 with h|h<;>simp_all)).1 rfl
   ·cases h;exact(MU (by rcases h2 with h|h<;>simp_all)).2 rfl
   ·split at h
    ·rename_i hk;exact abx hk h1 h
    ·cases h
  ·cases h
 ·rename_i hk;obtain⟨d,hd,rfl⟩:=vS hk bf;split at h
  ·rename_i a b;refine⟨aa5 (λop e=>by subst e;rfl) (λop e=>by subst e;rfl) (akp 9999 hd) h,λc=>by simp,bf⟩
  ·cases h
 ·rename_i hk;split at h
  ·rename_i a b;refine⟨?_,λc=>by simp,bf⟩
   cases op<;>simp only[amE,Wm,Option.some.injEq,reduceCtorEq]at h<;>subst h<;>simp[binOp,Op.stringOp]
  ·cases h
 ·rename_i hk;obtain⟨d,hd,e,rfl⟩:=vS hk bf;split at h
  ·rename_i a;refine⟨aa5 (λop e=>by subst e;rfl) (λop e=>by subst e;rfl) (aom 9999 hd) h,λc=>by simp,bf⟩
  ·cases h
 ·rename_i hk;obtain⟨d,hd,e,rfl⟩:=vS hk bf;split at h
  ·rename_i a _ _ _ _;refine⟨aa5 (λop e=>by subst e;rfl) (λop e=>by subst e;rfl) (ahY 9999 hd) h,λc=>by simp,bf⟩
  ·cases h
 ·rename_i hk;obtain⟨d,hd,e,e',rfl⟩:=vS hk bf;split at h
  ·rename_i a;refine⟨aa5 (λop e=>by subst e;rfl) (λop e=>by subst e;rfl) (aon 9999 hd) h,λc=>by simp,bf⟩
  ·cases h
 ·cases h
def aoo{op:UnOp}{x v:Value}(h:aqX op x=some v):(Op.unary op x).run P w= .ok v w:=by
 unfold aqX at h;split at h<;>(first|cases h|skip)<;>simp[Op.unary,Op.intArith,Op.intBits,JV]
def awL{n:Int}(hy:a.eval y= .int k n):(amB y=false→n≠0)∧(aa1 y=false→0≤n):=by
 constructor<;>intro h<;>(first|unfold amB at h|unfold aa1 at h)<;>split at h<;>simp_all[Act.eval]
def Uy{b:Builtin}{args:Array Operand}{ts:Array TypeId}(ho:o.op= .call {callee:= .builtin b,args,argTypes:=ts}):
  ∃cs,(execOp a.eval o).run P w=(builtin b ts o.type cs (args.map a.eval)).run P w:=by
 simp only[execOp,ho,resolve,cR,cP,cK,invoke];exact⟨_,rfl⟩
def aby{ts:Array TypeId}{k:K}(h:amD P ts=k)(hk:k≠ .raw):∃t,ts[0]?=some t∧rX P t=k:=by
 unfold amD at h;split at h
 ·rename_i t ht;exact⟨t,ht,h⟩
 ·subst h;exact absurd rfl hk
def aAD(h:rX P t= .s):∃e,P.underlying t=some (.slice e):=by
 obtain⟨d,hd,e,rfl⟩:=vS h bf;exact⟨e,hd⟩
def aqZ(h:rX P t= .str):P.underlying t=some .string:=by
 obtain⟨d,hd,rfl⟩:=vS h bf;exact hd
def amL(h:rX P t= .i k):P.underlying t=some (.int k):=by
 obtain⟨d,hd,rfl⟩:=vS h bf;exact hd
def QA{v:Value}(hρ:uV ρ a)(hp:Cf P o.op=true)(h:aa2 P o.op ρ=some v)(w:World):
  (execOp a.eval o).run P w= .ok (.value v) w:=by
 unfold aa2 at h;split at h
 ·rename_i x ho;simp only[execOp,ho,hρ _ _ h,cP]
 ·rename_i x ho;simp only[execOp,ho,hρ _ _ h,cP]
 ·rename_i x i ho;split at h
  ·rename_i vs hx;have h':vs[i]?=some v:=by simpa using h
   simp only[execOp,ho,hρ _ _ hx,Instr.extract,h',cR,cP,cK]
  ·cases h
 ·rename_i fn first captured ho
  split at h
  ·rename_i xs ys hx hy;cases h
   simp only[execOp,ho,Instr.makeFunc,tR hρ hx,tR hρ hy,cR,cP,cK]
  ·cases h
 ·rename_i op t x y yt ho;split at h
  ·rename_i g j hx hy;have hx':=hρ _ _ hx;have hy':=hρ _ _ hy;have hok:∀k m k' n,g= .int k m→j= .int k' n→(n≠0∨(op≠ .quo∧op≠ .rem))∧(0≤n∨(op≠ .shl∧op≠ .shr)):=by
    intro k m k' n e1 e2;subst e1;subst e2;have hl:=awL hy';unfold afQ at h;split at h
    ·rename_i kk hk;rw[ho]at hp;simp only[Cf,hk,ahU]at hp;cases op<;>simp_all[ahT]
    ·simp at h
    ·simp at h
    ·simp at h
    ·simp at h
    ·simp at h
    ·simp at h
   have:=akq (w:=w) hok h;exact Qz ho (by rw[hx'];exact this.2.1) (by rw[hx'];exact this.2.2) (by rw[hx',hy'];exact this.1)
  ·cases h
 ·rename_i op t x ho;split at h
  ·rename_i g hx;have:=aoo (P:=P) (w:=w) h;simp only[execOp,ho,hρ _ _ hx,this,cR,cP,cK]
  ·cases h
 ·rename_i s d x ho;split at h
  ·rename_i kk n k hx hk;cases h
   rw[ho]at hp;simp only[Cf,iY]at hp;cases hs:rX P s<;>simp[hs,isI]at hp
   simp only[execOp,ho,hρ _ _ hx,convert,cR,jr (amL hs),jr (amL hk),cK,Conv.intToInt,cP]
  ·cases h
 ·rename_i cl ho;split at h
  ·rename_i b hcb;have l:o.op= .call {callee:= .builtin b,args:=cl.args,argTypes:=cl.argTypes}:=by rw[ho,←hcb]
   obtain⟨cs,hc⟩:=Uy l;rw[hc];rw[ho]at hp;simp only[Cf,hcb]at hp;unfold evB at h;split at h
   ·rename_i base n c hk hl;obtain⟨t,ht,f⟩:=aby hk bf;obtain⟨e,he⟩:=aAD f;rw[tR hρ hl];split at h
    ·rename_i hb;cases b<;>simp only[isLen,Bool.false_eq_true]at hb
     cases h
     simp[builtin,Builtin.len_,ht,jr he,goInt]
    ·split at h
     ·rename_i hb;cases b<;>simp only[akj,Bool.false_eq_true]at hb
      cases h
      simp[builtin,Builtin.cap_,ht,jr he,goInt]
     ·cases h
   ·rename_i s hk hl;obtain⟨t,ht,f⟩:=aby hk bf;have he:=aqZ f;rw[tR hρ hl];split at h
    ·rename_i hb;cases b<;>simp only[isLen,Bool.false_eq_true]at hb
     cases h
     simp[builtin,Builtin.len_,ht,jr he,goInt]
    ·cases h
   ·rename_i kk k x ky y hk hl;rw[tR hρ hl];cases b<;>simp only[Option.some.injEq,reduceCtorEq]at h<;>subst h
    ·simp[builtin,Builtin.max_,Builtin.max2,ZR]
    ·simp[builtin,Builtin.min_,Builtin.min2,Wg]
   ·cases h
  ·cases h
 ·cases h
def run_sizeOf{i:TypeInfo}(h:P.info? t=some i):(sizeOf t).run P w= .ok i.size w:=by
 simp[sizeOf,typeInfo,h]
def abz(h:iB P t≠0):∃i,P.info? t=some i∧i.size=iB P t:=by
 unfold iB at*
 split at h
 ·rename_i i hi;exact⟨i,hi,bf⟩
 ·exact absurd rfl h
def abA{i:TypeInfo}(h:P.info? t=some i):iB P t=i.size:=by simp[iB,h]
def abB(hk:rX P t= .ag):(isAgg t).run P w= .ok true w:=by
 obtain⟨d,hd,h⟩:=vS hk bf;unfold isAgg;rcases h with⟨fs,rfl⟩|⟨n,e,rfl⟩<;>simp only[cR,jr hd,cK,cP]
def Yr(hd:P.underlying t=some d)(hk:rX P t≠ .ag):(isAgg t).run P w= .ok false w:=by
 unfold isAgg;simp only[cR,jr hd,cK];cases d<;>first|rfl|(exact absurd (by simp[rX,hd]) hk)
def uq(hs:iB P t≠0)(w:World):(sizeOf t).run P w= .ok (iB P t) w:=by
 obtain⟨i,hi,he⟩:=abz hs;rw[run_sizeOf hi,he]
def vT{i:Int}{y:Nat}{c:BoundsCode}(h:0≤i∧i≤y):(Instr.sliceBound (.int k i) y c).run P w= .ok i.toNat w:=by
 simp[Instr.sliceBound,asIntOf,h.1,h.2]
variable{cap:Nat}{h:Int}{kl kh:IntKind}
def U5{len:Nat}{lo hi:Value}{l:Int}(hlo:lo= .int kl l)(hhi:hi= .int kh h)(h1:0≤h∧h≤cap)(h2:0≤l∧l≤h):
  (Instr.sliceBounds b len cap (some lo) (some hi) none).run P w= .ok (l.toNat,h.toNat,cap) w:=by
 subst hlo;subst hhi;have h3:0≤l∧l≤(h.toNat:Int):=af;simp only[Instr.sliceBounds,cR,cP,cK,vT h1,vT h3]
def Ys{len:Nat}{hi:Value}(hhi:hi= .int kh h)(h1:0≤h∧h≤cap):
  (Instr.sliceBounds b len cap none (some hi) none).run P w= .ok (0,h.toNat,cap) w:=by
 subst hhi;simp only[Instr.sliceBounds,cR,cP,cK,vT h1]
def Yt{len:Nat}{lo:Value}{l:Int}(hlo:lo= .int kl l)(h2:0≤l∧l≤len):
  (Instr.sliceBounds b len cap (some lo) none none).run P w= .ok (l.toNat,len,cap) w:=by
 subst hlo;simp only[Instr.sliceBounds,cR,cP,cK,vT h2]
def MV{len:Nat}:(Instr.sliceBounds b len cap none none none).run P w= .ok (0,len,cap) w:=by
 simp only[Instr.sliceBounds,cR,cP,cK]
def ahZ{len:Nat}{lo hi mx:Value}{l m:Int}{km:IntKind}(hlo:lo= .int kl l)(hhi:hi= .int kh h)(a:mx= .int km m)
  (h0:0≤m∧m≤cap) (h1:0≤h∧h≤m) (h2:0≤l∧l≤h):
  (Instr.sliceBounds b len cap (some lo) (some hi) (some mx)).run P w= .ok (l.toNat,h.toNat,m.toNat) w:=by
 subst hlo;subst hhi;subst a;have h3:0≤l∧l≤(h.toNat:Int):=af;have h4:0≤h∧h≤(m.toNat:Int):=af;simp only[Instr.sliceBounds,cR,cP,cK,vT h0,vT h4,vT h3]
def akr{len:Nat}{hi mx:Value}{m:Int}{km:IntKind}(hhi:hi= .int kh h)(a:mx= .int km m)
  (h0:0≤m∧m≤cap) (h1:0≤h∧h≤m):
  (Instr.sliceBounds b len cap none (some hi) (some mx)).run P w= .ok (0,h.toNat,m.toNat) w:=by
 subst hhi;subst a;have h4:0≤h∧h≤(m.toNat:Int):=af;simp only[Instr.sliceBounds,cR,cP,cK,vT h0,vT h4]
variable{m:Nat}{lo hi:Option Value}
def xM{e:TypeId}{a:Option Addr}{len l h:Nat}{mx:Option Value}(ht:P.underlying t=some (.slice e))(hs:iB P e≠0)
  (hb:(Instr.sliceBounds true len cap lo hi mx).run P w= .ok (l,h,m) w):
  (Instr.sliceAt t (.slice a len cap) lo hi mx).run P w= .ok (.slice (if m=l then a else a.map (·.add (l*iB P e))) (h - l) (m - l)) w:=by
 simp only[Instr.sliceAt,Instr.slice,cR,jr ht,cK,hb,uq hs,cP]
def DF{e:TypeId}{a:Addr}{l h:Nat}{mx:Option Value}(ht:P.underlying t=some (.array n e))(hs:iB P e≠0)
  (hb:(Instr.sliceBounds false n n lo hi mx).run P w= .ok (l,h,m) w):
  (Instr.sliceAt t (.pointer (some a)) lo hi mx).run P w= .ok (.slice (some (if m=l then a else a.add (l*iB P e))) (h - l) (m - l)) w:=by
 simp only[Instr.sliceAt,cR,jr ht,cK,Instr.sureAddr,hb,uq hs,cP]
def DG{s:ByteArray}{l h:Nat}(ht:P.underlying t=some .string)
  (hb:(Instr.sliceBounds false s.size s.size lo hi none).run P w= .ok (l,h,m) w):
  (Instr.sliceAt t (.string s) lo hi none).run P w= .ok (.string (s.extract l h)) w:=by
 simp only[Instr.sliceAt,Instr.slice,cR,jr ht,cK,hb,cP,Option.isSome_none,Bool.false_eq_true,if_false]
def zv{lo hi mx:Option Operand}{v:Value}(ho:o.op= .slice t x lo hi mx)
  (h:(Instr.sliceAt t (a.eval x) (lo.map a.eval) (hi.map a.eval) (mx.map a.eval)).run P w= .ok v w):(execOp a.eval o).run P w= .ok (.value v) w:=by
 simp only[execOp,ho,cR,h,cK,cP]
def afZ{lo hi mx:Option Operand}{c:Value→Prop}(hρ:uV ρ a)(ho:o.op= .slice t x lo hi mx)
  (h:tu P (.slice t x lo hi mx) ρ c):∃v,c v∧∀w,(execOp a.eval o).run P w= .ok (.value v) w:=by
 unfold tu at h;dsimp only at h;split at h
 ·rename_i base n k e kl l hx ht hl;have hx':=hρ _ _ hx;split at h
  ·exact h.elim
  rename_i hs;split at h
  ·obtain⟨hlo,hc⟩:=h;refine⟨_,hc,λw=>zv ho ?_⟩;rw[hx'];cases lo with
   |none=>
    simp only[Option.some.injEq,Value.int.injEq]at hl;obtain⟨_,rfl⟩:=hl;exact xM ht hs MV
   |some y=>exact xM ht hs (Yt (hρ _ _ hl) hlo)
  ·rename_i hh;split at h
   ·rename_i kh hv b;obtain⟨h1,h2,hc⟩:=h;refine⟨_,hc,λw=>zv ho ?_⟩;rw[hx'];cases lo with
    |none=>
     simp only[Option.some.injEq,Value.int.injEq]at hl;obtain⟨_,rfl⟩:=hl;exact xM ht hs (Ys (hρ _ _ b) h1)
    |some y=>exact xM ht hs (U5 (hρ _ _ hl) (hρ _ _ b) h1 h2)
   ·exact h.elim
  ·rename_i f hh;split at h
   ·rename_i kh hv km g b d;obtain⟨h0,h1,h2,hc⟩:=h;refine⟨_,hc,λw=>zv ho ?_⟩;rw[hx'];cases lo with
    |none=>
     simp only[Option.some.injEq,Value.int.injEq]at hl;obtain⟨_,rfl⟩:=hl;exact xM ht hs (akr (hρ _ _ b) (hρ _ _ d) h0 h1)
    |some y=>exact xM ht hs (ahZ (hρ _ _ hl) (hρ _ _ b) (hρ _ _ d) h0 h1 h2)
   ·exact h.elim
  ·exact h.elim
 ·rename_i s kl l hx ht hl;have hx':=hρ _ _ hx;split at h
  ·obtain⟨h1,h2,hc⟩:=h;rw[iZ]at hc;refine⟨_,hc,λw=>zv ho ?_⟩;rw[hx'];cases lo with
   |none=>
    simp only[Option.some.injEq,Value.int.injEq]at hl;obtain⟨_,rfl⟩:=hl;exact DG ht MV
   |some y=>exact DG ht (Yt (hρ _ _ hl) h2)
  ·rename_i hh;split at h
   ·rename_i kh hv b;obtain⟨h1,h2,hc⟩:=h;refine⟨_,hc,λw=>zv ho ?_⟩;rw[hx'];cases lo with
    |none=>
     simp only[Option.some.injEq,Value.int.injEq]at hl;obtain⟨_,rfl⟩:=hl;exact DG ht (Ys (hρ _ _ b) h1)
    |some y=>exact DG ht (U5 (hρ _ _ hl) (hρ _ _ b) h1 h2)
   ·exact h.elim
  ·exact h.elim
 ·rename_i p n e kl l hx ht hl;have hx':=hρ _ _ hx;have hmap:∀(m l sz:Nat),(if m=l then some p else(some p:Option Addr).map (·.add (l*sz)))=some (if m=l then p else p.add (l*sz)):=by intro m l sz;split<;>rfl
  split at h
  ·exact h.elim
  rename_i hs;split at h
  ·obtain⟨hlo,hc⟩:=h;rw[hmap]at hc;refine⟨_,hc,λw=>zv ho ?_⟩;rw[hx'];cases lo with
   |none=>
    simp only[Option.some.injEq,Value.int.injEq]at hl;obtain⟨_,rfl⟩:=hl;exact DF ht hs MV
   |some y=>exact DF ht hs (Yt (hρ _ _ hl) hlo)
  ·rename_i hh;split at h
   ·rename_i kh hv b;obtain⟨h1,h2,hc⟩:=h;rw[hmap]at hc;refine⟨_,hc,λw=>zv ho ?_⟩;rw[hx'];cases lo with
    |none=>
     simp only[Option.some.injEq,Value.int.injEq]at hl;obtain⟨_,rfl⟩:=hl;exact DF ht hs (Ys (hρ _ _ b) h1)
    |some y=>exact DF ht hs (U5 (hρ _ _ hl) (hρ _ _ b) h1 h2)
   ·exact h.elim
  ·exact h.elim
 ·exact h.elim
variable{cs:Array Value}
def Dd{off:Nat}{v:Value}(hd:P.underlying t=some d)(hk:rX P t≠ .ag)(h:cs[off]?=some v):(part t cs off).run P w= .ok v w:=by
 simp only[part,cR,Yr hd hk,cK,Bool.false_eq_true,if_false,h,cP]
def MW{off:Nat}(hk:rX P t= .ag)(hs:iB P t≠0):(part t cs off).run P w= .ok (.agg (cs.extract off (off+iB P t))) w:=by
 simp only[part,cR,abB hk,cK,if_true,uq hs,cP]
def tW(h:rX P t≠ .raw):∃d,P.underlying t=some d:=by
 obtain⟨d,hd,_⟩:=vS rfl h;exact⟨d,hd⟩
def ah0{o:Nat}{c:Value→Prop}(h:Qq cs o c):∃v,cs[o]?=some v∧c v:=by
 unfold Qq at h;split at h
 ·rename_i v hv;exact⟨v,hv,h⟩
 ·exact h.elim
def af0{f:Nat}{c:Value→Prop}(hρ:uV ρ a)(ho:o.op= .field t x f)
  (h:tu P (.field t x f) ρ c):∃v,c v∧∀w,(execOp a.eval o).run P w= .ok (.value v) w:=by
 unfold tu at h;dsimp only at h;split at h
 ·rename_i cs fd hx hf;have hx':=hρ _ _ hx;unfold Wl at hf;split at hf
  ·rename_i fs ht;have key:∀v,(∀w,(part fd.type cs fd.offset).run P w= .ok v w)→∀w,(execOp a.eval o).run P w= .ok (.value v) w:=by
    intro v hv w;simp only[execOp,ho,Instr.field,cR,jr ht,cK,hf,hx',asAgg,cP,hv]
   split at h
   ·rename_i hk;split at h
    ·exact h.elim
    ·rename_i hs;exact⟨_,h,key _ λw=>MW hk hs⟩
   ·exact h.elim
   ·rename_i k b e;obtain⟨v,hv,hc⟩:=ah0 h;obtain⟨d,hd⟩:=tW e;exact⟨v,SR hc,key _ λw=>Dd hd b hv⟩
  ·cases hf
 ·exact h.elim
def Yu{f:Nat}{c:Value→Prop}(hρ:uV ρ a)(ho:o.op= .fieldAddr t x f)
  (h:tu P (.fieldAddr t x f) ρ c):∃v,c v∧∀w,(execOp a.eval o).run P w= .ok (.value v) w:=by
 unfold tu at h;dsimp only at h;split at h
 ·rename_i p fd hx hf;have hx':=hρ _ _ hx;unfold Wl at hf;split at hf
  ·rename_i fs ht;split at h
   ·exact h.elim
   ·rename_i hs;refine⟨_,h,λw=> ?_⟩;simp only[execOp,ho,Instr.fieldAt,cR,jr ht,cK,hf,hx',Instr.sureAddr,cP,fieldPlace,uq hs,hs,if_false]
  ·cases hf
 ·exact h.elim
def Yv{i:Operand}{c:Value→Prop}(hρ:uV ρ a)(ho:o.op= .indexAddr t x i)
  (h:tu P (.indexAddr t x i) ρ c):∃v,c v∧∀w,(execOp a.eval o).run P w= .ok (.value v) w:=by
 unfold tu at h;dsimp only at h;split at h
 ·rename_i base n k b i' e hx hi ht;have hx':=hρ _ _ hx;have hi':=hρ _ _ hi;split at h
  ·exact h.elim
  rename_i hs;unfold cN at h;cases base with
  |none=>exact h.elim
  |some p=>
   obtain⟨hb,hc⟩:=h;refine⟨_,hc,λw=> ?_⟩;simp only[execOp,ho,Instr.indexAt,hx',hi',asIntOf,cR,cP,cK,jr ht,hb,and_self,if_true,uq hs]
 ·rename_i p b i' n e hx hi ht;have hx':=hρ _ _ hx;have hi':=hρ _ _ hi;split at h
  ·exact h.elim
  rename_i hs;split at h
  ·rename_i j hj;split at h
   ·rename_i hlt;have hij:i'=(j:Int):=by
     unfold amC at hj;split at hj
     ·cases hj
      have:Value.int b i'=_:=hi'.symm;cases this
      rfl
     ·cases hj
    subst hij;refine⟨_,h,λw=> ?_⟩;have hb:0≤(j:Int)∧(j:Int)<n:=af;simp only[execOp,ho,Instr.indexAt,hx',hi',asIntOf,cR,cP,cK,jr ht,hb,and_self,if_true,uq hs,Instr.sureAddr,iZ]
   ·exact h.elim
  ·obtain⟨hb,hc⟩:=h;refine⟨_,hc,λw=> ?_⟩;simp only[execOp,ho,Instr.indexAt,hx',hi',asIntOf,cR,cP,cK,jr ht,hb,and_self,if_true,uq hs,Instr.sureAddr]
 ·exact h.elim
def af1{i:Operand}{c:Value→Prop}(hρ:uV ρ a)(ho:o.op= .index t x i)
  (h:tu P (.index t x i) ρ c):∃v,c v∧∀w,(execOp a.eval o).run P w= .ok (.value v) w:=by
 unfold tu at h;dsimp only at h;split at h
 ·rename_i cs f i' n e hx hi ht;have hx':=hρ _ _ hx;have hi':=hρ _ _ hi;split at h
  ·exact h.elim
  ·exact h.elim
  ·rename_i k g j;split at h
   ·rename_i hs;obtain⟨hb,h⟩:=h;obtain⟨v,hv,hc⟩:=ah0 h;obtain⟨d,hd⟩:=tW j;refine⟨v,SR hc,λw=> ?_⟩;simp only[execOp,ho,Instr.index,hx',hi',asIntOf,cR,cP,cK,jr ht,hb,and_self,if_true,uq (by rw[hs];simp:iB P e≠0),hs,Nat.mul_one,Dd hd g hv]
   ·exact h.elim
 ·rename_i s f i' hx hi ht;have hx':=hρ _ _ hx;have hi':=hρ _ _ hi;obtain⟨h0,h⟩:=h;split at h
  ·rename_i b hb;refine⟨_,h,λw=> ?_⟩;simp only[execOp,ho,Instr.index,hx',hi',asIntOf,cR,cP,cK,jr ht,h0,if_true,hb]
  ·exact h.elim
 ·exact h.elim
def akt{c:Value→Prop}(hρ:uV ρ a)(ho:o.op= .nilCheck x)
  (h:tu P (.nilCheck x) ρ c):∃v,c v∧∀w,(execOp a.eval o).run P w= .ok (.value v) w:=by
 unfold tu at h;dsimp only at h;split at h
 ·rename_i v hx;have hx':=hρ _ _ hx;unfold nnV at h;split at h
  ·rename_i p;unfold nn at h;cases p with
   |none=>exact h.elim
   |some p=>exact⟨_,h,λw=>by simp only[execOp,ho,hx',cP]⟩
  ·exact⟨_,h,λw=>by simp only[execOp,ho,hx',cP]⟩
  ·exact h.elim
 ·exact h.elim
def af2{c:Value→Prop}(hρ:uV ρ a)(ho:o.op= .makeInterface t x)
  (h:tu P (.makeInterface t x) ρ c):∃v,c v∧∀w,(execOp a.eval o).run P w= .ok (.value v) w:=by
 unfold tu at h;dsimp only at h;split at h
 ·exact h.elim
 ·rename_i hk;split at h
  ·rename_i v hx;obtain⟨d,hd⟩:=tW hk;refine⟨_,h,λw=> ?_⟩;simp only[execOp,ho,hρ _ _ hx,Instr.makeInterface,cR,jr hd,cK];cases d<;>first|rfl|(exact absurd (by simp[rX,hd]) hk)
  ·exact h.elim
def IT{xs ys:Array Value}:∀{m l:List (Nat×Nat)} {r:Bool},oZ xs ys (m++l)=some r→∃r1 r2,oZ xs ys m=some r1∧oZ xs ys l=some r2∧r=(r1&&r2)
 |[],l,r,h=>⟨true,r,rfl,h,bf⟩
 |(o,k)::m,l,r,h=>by
  rw[List.cons_append,oZ]at h;split at h
  ·rename_i a b ha hb;split at h
   ·rename_i q d hq c;cases h
    obtain⟨r1,r2,h1,h2,rfl⟩:=IT c;exact⟨q&&r1,r2,by simp[oZ,ha,hb,hq,h1],h2,by simp[Bool.and_assoc]⟩
   ·cases h
  ·cases h
def OQ{xs ys:Array Value}{off sz:Nat}:∀{m:List (Nat×Nat)} {r:Bool},m.all (λx=>Nat.blt x.1 sz)=true→oZ xs ys (m.map λx=>(x.1+off,x.2))=some r→
  oZ (xs.extract off (off+sz)) (ys.extract off (off+sz)) m=some r
 |[],r,_,h=>h
 |(o,k)::m,r,hm,h=>by
  simp only[List.all_cons,iY]at hm;have ho:o<sz:=by have:=hm.1;simpa[Nat.blt_eq]using this
  simp only[List.map_cons,oZ]at h ⊢;split at h
  ·rename_i a b ha hb;have c:(xs.extract off (off+sz))[o]?=some a:=by
    rw[Array.getElem?_extract];have hlt:o+off<xs.size:=(Bf.1 ha).1;rw[if_pos af,Nat.add_comm off o];exact ha
   have hb':(ys.extract off (off+sz))[o]?=some b:=by
    rw[Array.getElem?_extract];have hlt:o+off<ys.size:=(Bf.1 hb).1;rw[if_pos af,Nat.add_comm off o];exact hb
   simp only[c,hb'];split at h
   ·rename_i q e hq d;cases h
    simp[hq,OQ hm.2 d]
   ·cases h
  ·cases h
def Go.Op.IG(d:Nat)(e:TypeId)(n:Nat)(xs ys:Array Value):Nat→Nat→Sem Bool
 |_,0=>pure true
 |i,k+1=>do
  let a←part e xs (i*n)
  let b←part e ys (i*n)
  let r←Op.equalIn d e a b
  if (!r)=true then pure false else Go.Op.IG d e n xs ys (i+1) k
def run_equalIn_array(w:World)(d:Nat)(t e:TypeId)(len:Nat)(xs ys:Array Value)(ht:P.underlying t=some (.array len e)){i:TypeInfo}(hi:P.info? e=some i):
  (Op.equalIn (d+1) t (.agg xs) (.agg ys)).run P w=(Go.Op.IG d e i.size xs ys 0 len).run P w:=by
 simp only[Op.equalIn,cR,run_underlying ht,cK,run_sizeOf hi];rw[Std.Legacy.Range.forIn_eq_forIn_range'];simp only[Std.Legacy.Range.size,Nat.sub_zero,Nat.add_sub_cancel,Nat.div_one];clear ht;generalize 0=s;induction len generalizing s w with
 |zero=>simp[Go.Op.IG]
 |succ len ih=>
  simp only[List.range'_succ,List.forIn_cons,Go.Op.IG,cR,Sem.run_ite];generalize (part e xs (s*i.size)).run P w=r1;cases r1 with
  |ok a w1=>
   simp only[cK];generalize (part e ys (s*i.size)).run P w1=r2;cases r2 with
   |ok b w2=>
    simp only[cK];generalize (Op.equalIn d e a b).run P w2=c;cases c with
    |ok r w3=>
     cases r
     ·simp only[cK,Bool.not_false,if_true,cP]
     ·simp only[cK,Bool.not_true,Bool.false_eq_true,if_false,cP];exact ih w3 (s+1)
    |halt x w3=>simp[Result.andThen]
   |halt x w2=>simp[Result.andThen]
  |halt x w1=>simp[Result.andThen]
def af3(P:Program)(D:Nat)(t:TypeId)(m:List (Nat×Nat)):Prop:=
 ∀(w:World) (xs ys:Array Value) (off:Nat) (r:Bool),m.all (λx=>Nat.blt x.1 (iB P t))=true→oZ xs ys (m.map λx=>(x.1+off,x.2))=some r→
  ∃vx vy,(part t xs off).run P w= .ok vx w∧(part t ys off).run P w= .ok vy w∧(Op.equalIn D t vx vy).run P w= .ok r w
def Uz{P:Program}{D:Nat}{rec:TypeId→Option (List (Nat×Nat))}(Ka:∀t m,rec t=some m→af3 P D t m):
  ∀(fs:List Field) (os:List (Nat×Nat)) (w:World) (xs ys:Array Value) (r:Bool),Qr P rec fs=some os→oZ xs ys os=some r→(Op.eqFields D xs ys fs).run P w= .ok r w
 |[],os,w,xs,ys,r,h,he=>by
  simp only[Qr,Option.some.injEq]at h;subst h;simp only[oZ,Option.some.injEq]at he;subst he;rfl
 |f::fs,os,w,xs,ys,r,h,he=>by
  unfold Qr at h;split at h
  ·cases h
  ·rename_i hn;have hn':f.name≠ "_" :=by simpa using hn
   split at h
   ·rename_i m l hm hl;split at h
    ·rename_i lG;cases h
     obtain⟨r1,r2,h1,h2,rfl⟩:=IT he;obtain⟨vx,vy,hx,hy,hq⟩:=Ka _ _ hm w xs ys f.offset r1 lG h1;have ih:=Uz Ka fs l w xs ys r2 hl h2;unfold Op.eqFields;rw[if_pos hn'];simp only[Sem.run_bind,hx,hy,hq,Result.andThen_ok,Sem.run_ite,ih,Sem.run_pure];cases r1<;>simp
    ·cases h
   ·cases h
def WB{P:Program}{D:Nat}{e:TypeId}{m:List (Nat×Nat)}(a:af3 P D e m)(b:m.all (λx=>Nat.blt x.1 (iB P e))=true):
  ∀(n s:Nat) (w:World) (xs ys:Array Value) (r:Bool),oZ xs ys (Qs (iB P e) m s n)=some r→(Go.Op.IG D e (iB P e) xs ys s n).run P w= .ok r w
 |0,s,w,xs,ys,r,he=>by
  simp only[Qs,oZ,Option.some.injEq]at he;subst he;rfl
 |n+1,s,w,xs,ys,r,he=>by
  unfold Qs at he;obtain⟨r1,r2,h1,h2,rfl⟩:=IT he;obtain⟨c,d,hx,hy,hq⟩:=a w xs ys (s*iB P e) r1 b h1;have ih:=WB a b n (s+1) w xs ys r2 h2;unfold Go.Op.IG;simp only[cR,hx,hy,hq,cK,Sem.run_ite,ih,cP];cases r1<;>simp
def WC{fs:Array Field}(h:P.underlying t=some (.struct fs)):P.fieldsOf t=fs:=by simp[Program.fieldsOf,h]
def af4{P:Program}:∀(d:Nat) (t:TypeId) (m:List (Nat×Nat)),Gk P d t=some m→∀D,d≤D→
  af3 P D t m∧(rX P t= .ag→∀(w:World) (xs ys:Array Value) (r:Bool),oZ xs ys m=some r→(Op.equalIn D t (.agg xs) (.agg ys)).run P w= .ok r w)
 |0,t,m,h,_,_=>by simp[Gk]at h
 |d+1,t,m,h,D,hD=>by
  obtain⟨D,rfl⟩:∃D',D=D'+1:=⟨D - 1,af⟩;have hag:rX P t= .ag→∀(w:World) (xs ys:Array Value) (r:Bool),oZ xs ys m=some r→(Op.equalIn (D+1) t (.agg xs) (.agg ys)).run P w= .ok r w:=by
   intro hk w xs ys r he;unfold Gk at h;split at h
   ·rename_i hd;simp[rX,hd]at hk
   ·rename_i hd;simp[rX,hd]at hk
   ·rename_i hd;simp[rX,hd]at hk
   ·rename_i fs hd;split at h
    ·cases h
    split at h
    ·cases h
    ·rename_i hs;have g:P.underlying t=some (.struct (P.fieldsOf t)):=by rw[WC hd];exact hd
     rw[run_equalIn_struct w D t xs ys g (gq hs),WC hd]
     exact Uz (λt m hm=>(af4 d t m hm D af).1) _ _ w xs ys r h he
   ·rename_i n e hd;split at h
    ·cases h
    split at h
    ·cases h
    rename_i hz;split at h
    ·rename_i j hm;split at h
     ·rename_i c;cases h
      obtain⟨i,hi,hsz⟩:=abz hz;rw[run_equalIn_array w D t e n xs ys hd hi,hsz];exact WB (af4 d e j hm D af).1 c n 0 w xs ys r he
     ·cases h
    ·cases h
   ·cases h
  refine⟨?_,hag⟩;intro w xs ys off r c he;by_cases hk:rX P t= .ag
  ·have hs:iB P t≠0:=by
    unfold Gk at h;split at h
    ·rename_i hd;simp[rX,hd]at hk
    ·rename_i hd;simp[rX,hd]at hk
    ·rename_i hd;simp[rX,hd]at hk
    ·split at h
     ·cases h
     ·assumption
    ·split at h
     ·cases h
     ·assumption
    ·cases h
   exact⟨_,_,MW hk hs,MW hk hs,hag hk w _ _ r (OQ c he)⟩
  ·unfold Gk at h;split at h
   ·rename_i kk hd;cases h
    simp only[List.map_cons,List.map_nil,oZ,Nat.zero_add]at he;split at he
    ·rename_i a b ha hb;refine⟨a,b,Dd hd hk ha,Dd hd hk hb,?_⟩;unfold eqC at he;cases a<;>cases b<;>simp at he
     rename_i f x k2 y;by_cases hkk:f=k2
     ·subst hkk;simp at he;subst he;exact run_equalIn_int w D t f kk x y hd
     ·simp[hkk]at he
    ·cases he
   ·rename_i hd;cases h
    simp only[List.map_cons,List.map_nil,oZ,Nat.zero_add]at he;split at he
    ·rename_i a b ha hb;refine⟨a,b,Dd hd hk ha,Dd hd hk hb,?_⟩;unfold eqC at he;cases a<;>cases b<;>simp at he
     subst he;exact run_equalIn_bool' w D t _ _ hd
    ·cases he
   ·rename_i hd;cases h
    simp only[List.map_cons,List.map_nil,oZ,Nat.zero_add]at he;split at he
    ·rename_i a b ha hb;refine⟨a,b,Dd hd hk ha,Dd hd hk hb,?_⟩;unfold eqC at he;cases a<;>cases b<;>simp at he
     subst he;exact run_equalIn_string w D t _ _ hd
    ·cases he
   ·rename_i hd;exact absurd (by simp[rX,hd]) hk
   ·rename_i hd;exact absurd (by simp[rX,hd]) hk
   ·cases h
def UA{t1:TypeId}{v1:Value}{ms}(hu:P.underlying t=some (.interface ms)):(Op.equal t (.iface t1 v1) .nilIface).run P w= .ok false w:=by
 have key:∀d,(Op.equalIn (d+1) t (.iface t1 v1) .nilIface).run P w= .ok false w:=λd=>by simp[Op.equalIn,run_underlying hu]
 exact key 9999
def UB{ms}(hu:P.underlying t=some (.interface ms)):(Op.equal t .nilIface .nilIface).run P w= .ok true w:=by
 have key:∀d,(Op.equalIn (d+1) t .nilIface .nilIface).run P w= .ok true w:=λd=>by simp[Op.equalIn,run_underlying hu]
 exact key 9999
def OR{op:BinOp}{t1:TypeId}{v1:Value}:(eqGuard op t x y (.iface t1 v1) .nilIface).run P w= .ok () w:=by
 unfold eqGuard;split<;>rfl
def OS{op:BinOp}(hy:afN y=true):(eqGuard op t x y .nilIface .nilIface).run P w= .ok () w:=by
 have:y= .const .nilIface:=by
  unfold afN at hy;split at hy
  ·rfl
  ·cases hy
 subst this;unfold eqGuard;split<;>simp
def adT{ps rs v}(hu:P.underlying t=some (.func ps rs v)):(Op.equal t .nilFunc .nilFunc).run P w= .ok true w:=by
 have key:∀d,(Op.equalIn (d+1) t .nilFunc .nilFunc).run P w= .ok true w:=λd=>by simp[Op.equalIn,run_underlying hu]
 exact key 9999
def adU{f:Fn}{l m:Array Value}{ps rs v}(hu:P.underlying t=some (.func ps rs v)):(Op.equal t (.func f l m) .nilFunc).run P w= .ok false w:=by
 have key:∀d,(Op.equalIn (d+1) t (.func f l m) .nilFunc).run P w= .ok false w:=λd=>by simp[Op.equalIn,run_underlying hu]
 exact key 9999
def ah1{op:BinOp}{c:Value→Prop}(hρ:uV ρ a)(ho:o.op= .binOp op t x y yt)(hy:afO y=true)
  (h:afR P op t (ρ x) c):∃v,c v∧∀w,(execOp a.eval o).run P w= .ok (.value v) w:=by
 have hy':a.eval y= .nilFunc:=by
  unfold afO at hy;split at hy
  ·rfl
  ·cases hy
 unfold afR at h;cases hx:ρ x with
 |none=>rw[hx]at h;exact h.elim
 |some v=>
  have hx':=hρ _ _ hx;rw[hx]at h;dsimp only at h;split at h
  ·rename_i hu;have key:∀b,(∀w,(Op.equal t v .nilFunc).run P w= .ok b w)→IS (Qt op b) c→v≠ .nilIface→(∀z,v≠ .agg z)→∃v,c v∧∀w,(execOp a.eval o).run P w= .ok (.value v) w:=by
    intro b hb hc h1 h2;cases op with
    |eql=>exact⟨_,hc,λw=>Qz ho (by rw[hx'];exact h2) (by rw[hx'];exact h1) (by rw[hx',hy'];simp only[binOp,cR,hb,cK,cP])⟩
    |neq=>exact⟨_,hc,λw=>Qz ho (by rw[hx'];exact h2) (by rw[hx'];exact h1) (by rw[hx',hy'];simp only[binOp,cR,hb,cK,cP])⟩
    |_=>exact hc.elim
   unfold abm at h;split at h
   ·exact key true (λw=>adT hu) h bf bf
   ·exact key false (λw=>adU hu) h bf bf
   ·exact h.elim
  ·exact h.elim
def ah2{op:BinOp}{c:Value→Prop}(hρ:uV ρ a)(ho:o.op= .binOp op t x y yt)
  (h:tu P (.binOp op t x y yt) ρ c):∃v,c v∧∀w,(execOp a.eval o).run P w= .ok (.value v) w:=by
 unfold tu at h;dsimp only at h;split at h
 ·exact ah1 hρ ho (by assumption) h
 split at h
 ·rename_i k m k' n hx hy;have hx':=hρ _ _ hx;have hy':=hρ _ _ hy;have key:∀v,(∀w,(binOp op t (.int k m) (.int k' n)).run P w= .ok v w)→∀w,(execOp a.eval o).run P w= .ok (.value v) w:=by
   intro v hv w;exact Qz ho (by rw[hx'];intro c;simp) (by rw[hx'];simp) (by rw[hx',hy'];exact hv w)
  split at h
  ·obtain⟨h0,h⟩:=h;exact⟨_,h,key _ λw=>(MU h0).1 rfl⟩
  ·obtain⟨h0,h⟩:=h;exact⟨_,h,key _ λw=>(MU h0).2 rfl⟩
  ·split at h
   ·rename_i hk;obtain⟨h0,h⟩:=h;exact⟨_,h,key _ λw=>abx hk (.inl h0) rfl⟩
   ·exact h.elim
  ·split at h
   ·rename_i hk;obtain⟨h0,h⟩:=h;exact⟨_,h,key _ λw=>abx hk (.inl h0) rfl⟩
   ·exact h.elim
  ·exact h.elim
 ·rename_i s1 s2 hx hy;have hx':=hρ _ _ hx;have hy':=hρ _ _ hy;split at h
  ·obtain⟨hle,h⟩:=h;refine⟨_,h,λw=>Qz ho (by rw[hx'];intro c;simp) (by rw[hx'];simp) ?_⟩
   rw[hx',hy'];have hm:¬((s1.size+s2.size:Nat):Int)>IntKind.i64.max:=by
    have:IntKind.i64.max=9223372036854775807:=e7;omega
   simp only[binOp,Op.stringOp,hm,if_false,cP]
  ·exact h.elim
 ·rename_i xs ys hx hy;have hx':=hρ _ _ hx;have hy':=hρ _ _ hy;split at h
  ·exact h.elim
  rename_i hg;have d:P.eqGuardType P.depth t=false:=gq hg
  have key:∀v,(∀w,(binOp op t (.agg xs) (.agg ys)).run P w= .ok v w)→∀w,(execOp a.eval o).run P w= .ok (.value v) w:=by
   intro v hv w;simp only[execOp,ho,cR,hx',hy',run_eqGuard_agg w op t x y xs ys d,cK,hv w,cP]
  split at h
  ·rename_i hk;split at h
   ·rename_i os hl;unfold Tj at h;split at h
    ·rename_i b hb;have:=λw=>(af4 20 t os hl 10000 af).2 hk w xs ys b hb;refine⟨_,h,key _ λw=> ?_⟩;rw[run_eql_struct,this w];rfl
    ·exact h.elim
   ·rename_i os hl;unfold Tj at h;split at h
    ·rename_i b hb;have:=λw=>(af4 20 t os hl 10000 af).2 hk w xs ys b hb;refine⟨_,h,key _ λw=> ?_⟩;rw[run_neq_struct,this w];rfl
    ·exact h.elim
   ·exact h.elim
  ·exact h.elim
 ·rename_i t1 v1 hx hy;have hx':=hρ _ _ hx;have hy':=hρ _ _ hy;split at h
  ·rename_i ms hu;split at h
   ·refine⟨_,h,λw=> ?_⟩;simp only[execOp,ho,cR,hx',hy',OR,cK,binOp,UA hu,cP]
   ·refine⟨_,h,λw=> ?_⟩;simp only[execOp,ho,cR,hx',hy',OR,cK,binOp,UA hu,cP,Bool.not_false]
   ·exact h.elim
  ·exact h.elim
 ·rename_i hx hy;have hx':=hρ _ _ hx;have hy':=hρ _ _ hy;split at h
  ·rename_i hn;split at h
   ·rename_i ms hu;split at h
    ·refine⟨_,h,λw=> ?_⟩;simp only[execOp,ho,cR,hx',hy',OS hn,cK,binOp,UB hu,cP]
    ·refine⟨_,h,λw=> ?_⟩;simp only[execOp,ho,cR,hx',hy',OS hn,cK,binOp,UB hu,cP,Bool.not_true]
    ·exact h.elim
   ·exact h.elim
  ·exact h.elim
 ·exact h.elim
def ZS{c:Value→Prop}(hρ:uV ρ a)(h:tu P o.op ρ c):∃v,c v∧∀w,(execOp a.eval o).run P w= .ok (.value v) w:=by
 cases ho:o.op with
 |binOp op t x y yt=>rw[ho]at h;exact ah2 hρ ho h
 |nilCheck x=>rw[ho]at h;exact akt hρ ho h
 |fieldAddr s x f=>rw[ho]at h;exact Yu hρ ho h
 |field s x f=>rw[ho]at h;exact af0 hρ ho h
 |indexAddr t x i=>rw[ho]at h;exact Yv hρ ho h
 |index t x i=>rw[ho]at h;exact af1 hρ ho h
 |slice t x lo hi mx=>rw[ho]at h;exact afZ hρ ho h
 |makeInterface t x=>rw[ho]at h;exact af2 hρ ho h
 |_=>rw[ho]at h;exact h.elim
def MX{a:Addr}{c:Value→Prop}(h:rd w a c):∃v,w.cell? a=some v∧c v:=by
 unfold rd at h;split at h
 ·rename_i v hv;exact⟨v,hv,h⟩
 ·exact h.elim
def MY(n:Nat)(a:Addr)(w w':World):Prop:=∀k,k<n→w'.cell? (a.add k)=w.cell? (a.add k)
def add_zero(a:Addr):a.add 0=a:=rfl
def ZT{P:Program}{w:World}{a:Addr}:∀{n i:Nat} {l:List Value} (acc:Array Value),Gd w a i n=some l→∀w',(∀k,k<n→w'.cell? (a.add (i+k))=w.cell? (a.add (i+k)))→
  (loadCellsFrom a i n acc).run P w'= .ok (acc++l.toArray) w'
 |0,i,l,acc,h,w',_=>by simp only[Gd,Option.some.injEq]at h;subst h;simp[loadCellsFrom]
 |n+1,i,l,acc,h,w',hw=>by
  simp only[Gd]at h;split at h
  ·rename_i v hv;split at h
   ·rename_i l' hl;cases h
    have h0:=hw 0 af;simp only[Nat.add_zero]at h0;have ih:=ZT (P:=P) (acc.push v) hl w' (λk hk=>by have:=hw (k+1) af;rwa[show i+(k+1)=i+1+k by omega]at this)
    simp only[loadCellsFrom,cR,run_load,h0,hv,cK,ih];simp
   ·cases h
  ·cases h
def ZU{v:Value}{c:Value→Prop}(h:JW P t (some v) w c):
  ∃p u,v= .pointer (some p)∧c u∧∀w',MY (MR P t) p w w'→(Instr.loadAt t v).run P w'= .ok u w':=by
 unfold JW at h;split at h
 ·rename_i p hv;cases hv
  have key:rX P t≠ .ag→(∃d,P.underlying t=some d)→∀u,w.cell? p=some u→∀w',MY (MR P t) p w w'→(Instr.loadAt t (.pointer (some p))).run P w'= .ok u w':=by
   intro a hd u hu w' hs;have b:MR P t=1:=by unfold MR;split<;>first|exact absurd (by assumption) a|rfl
   have h0:=hs 0 af;rw[add_zero,hu]at h0;obtain⟨d,hd⟩:=hd;simp only[Instr.loadAt,Instr.sureAddr,cR,cP,cK,loadVar,Yr hd a,Bool.false_eq_true,if_false,run_load,h0]
  split at h
  ·rename_i kk hkk;obtain⟨u,hu,h⟩:=MX h;obtain⟨n,rfl,h'⟩:=Qw h;exact⟨p,_,rfl,h',key (by simp[hkk]) (tW (by simp[hkk])) _ hu⟩
  ·rename_i hkk;obtain⟨u,hu,h⟩:=MX h;obtain⟨n,rfl,h'⟩:=abv h;exact⟨p,_,rfl,h',key (by simp[hkk]) (tW (by simp[hkk])) _ hu⟩
  ·rename_i hkk;obtain⟨u,hu,h⟩:=MX h;obtain⟨n,rfl,h'⟩:=abw h;exact⟨p,_,rfl,h',key (by simp[hkk]) (tW (by simp[hkk])) _ hu⟩
  ·exact h.elim
  ·rename_i hkk;obtain⟨u,hu,h⟩:=MX h;obtain⟨n,rfl,h'⟩:=Qx h;exact⟨p,_,rfl,h',key (by simp[hkk]) (tW (by simp[hkk])) _ hu⟩
  ·rename_i hkk;obtain⟨u,hu,h⟩:=MX h;obtain⟨n,rfl,h'⟩:=U4 h;exact⟨p,_,rfl,h',key (by simp[hkk]) (tW (by simp[hkk])) _ hu⟩
  ·rename_i hkk;obtain⟨u,hu,h⟩:=MX h;obtain⟨n,rfl,h'⟩:=Qy h;exact⟨p,_,rfl,h',key (by simp[hkk]) (tW (by simp[hkk])) _ hu⟩
  ·rename_i hkk;split at h
   ·exact h.elim
   rename_i hz;unfold bx at h;split at h
   ·rename_i l hl;refine⟨p,_,rfl,h,λw' hs=> ?_⟩;have b:MR P t=iB P t:=by unfold MR;rw[hkk]
    rw[b]at hs;simp only[Instr.loadAt,Instr.sureAddr,cR,cP,cK,loadVar,abB hkk,if_true,uq hz,loadCells];rw[ZT #[] hl w' (λk hk=>gq (hs k hk))]
    simp
   ·exact h.elim
  ·rename_i hkk;split at h
   ·rename_i d hd;obtain⟨u,hu,h⟩:=MX h;exact⟨p,u,rfl,h,key (by simp[hkk]) ⟨d,hd⟩ _ hu⟩
   ·exact h.elim
 ·exact h.elim
def ZV{c:Value→Prop}(hρ:uV ρ a)(ho:o.op= .load t x)(h:JW P t (ρ x) w c):
  ∃p u,ρ x=some (.pointer (some p))∧c u∧∀w',MY (MR P t) p w w'→(execOp a.eval o).run P w'= .ok (.value u) w':=by
 cases hx:ρ x with
 |none=>rw[hx]at h;exact h.elim
 |some v=>
  rw[hx]at h;obtain⟨p,u,rfl,hc,hr⟩:=ZU h;refine⟨p,u,rfl,hc,λw' hs=> ?_⟩;simp only[execOp,ho,hρ _ _ hx,cR,hr w' hs,cK,cP]
def uW:Option Nat→Fence
 |none=>Fence.wide
 |some l=>Fence.wide.inRound l
def Kb(ro:Option Nat)(f:FuncId):(uW ro).fn f:=by cases ro<;>exact trivial
def U6(ro:Option Nat):(uW ro).depth.isSome=true→∀{p:Prop},p:=by cases ro<;>intro h<;>cases h
variable{ro:Option Nat}{f:FuncId}{args:Array Value}
def MZ{R:Ending→ap}(h:Calls P f args w R):CallsIn (uW ro) n P f args w R:=by
 cases ro with
 |none=>exact callsIn_wide.2 h
 |some l=>exact(callsIn_wide.2 h:CallsIn Fence.wide n P f args w R)
def af5{l:Nat}{tmps:Array Value}{assign body:Code}{R:Ending→ap}(h:RoundIn Fence.wide m P l f tmps assign body w R):RoundIn (uW ro) n P l f tmps assign body w R:=by
 cases ro with
 |none=>exact⟨h.1,λc cs _=>h.2 c cs (room_wide _)⟩
 |some l'=>exact⟨h.1,λc cs _=>h.2 c cs (room_wide _)⟩
abbrev U7:=List PanicEntry→ap
def QB:U7:=λ_ _=>False
def ZW(c:Value→ap)(q:U7):Ending→ap
 | .returned v,w=>c v w
 | .panicked ch,w=>q ch w
 | .outgrown,_=>False
def tK(P:Program)(bY:ey)(q:U7):Prop:=∀fn args w c,bY fn args w c→match fn with
 | .func f=>((∃fn,P.funcs[f]?=some fn∧fn.body.isSome=true∧(fn.name== "runtime.NumGoroutine")=false)∧Calls P f args w (ZW c q))∨∃v w',(callFunc f args).run P w= .ok (.value v) w'∧c v w'
 | .yield l=>YieldAt Fence.wide 0 P l args w (ZW c q)
 | .method _=> ∃t v,args=#[.iface t v]∧q [{v:= .iface t v,recovered:=false}] w
 |_=>False
variable{w':World}{z:Value}{bY:ey}{q:U7}
section
variable{K:Act→ap}{Q:Exit→Act→ap}
def abD{ρ:Operand→Value}{c:Call}(hc:o.op= .defer c){r:Next}(h:(execOp ρ o).run P w= .ok r w'):∃d,r= .defer d:=by
 simp only[execOp,hc,cR]at h;cases hr:(resolve ρ c o.type).run P w with
 |ok d w1=>rw[hr]at h;simp only[cK,cP]at h;cases h;exact⟨d,rfl⟩
 |halt x w1=>rw[hr]at h;cases h
def abE{r:Next}(h:(execOp a.eval o).run P w= .ok r w')(hr:∀d,r≠ .defer d)(hK:o.uponIn (uW ro) n P a K Q (.ok r w')):o.wpIn (uW ro) n P a w K Q:=by
 refine⟨λf _=>Kb ro f,?_⟩;rw[Oper.semAt_eq _ _ _ λc hc=>by obtain⟨d,hd⟩:=abD hc h;exact hr d hd,h]
 exact hK
def jE{v:Value}(h:(execOp a.eval o).run P w= .ok (.value v) w')(hK:K (a.put o.dst v) w'):o.wpIn (uW ro) n P a w K Q:=abE h (λd hd=>by cases hd) hK
def abF(h:(execOp a.eval o).run P w= .ok .skip w')(hK:K (a.put o.dst undef) w'):o.wpIn (uW ro) n P a w K Q:=abE h (λd hd=>by cases hd) hK
def aeD{v:Value}(hnd:∀c,o.op≠ .defer c)(h:(execOp a.eval o).run P w= .halt (.panic v) w')(hQ:Q (.panic [{v,recovered:=false}]) a w'):o.wpIn (uW ro) n P a w K Q:=by
 refine⟨λf _=>Kb ro f,?_⟩;rw[Oper.semAt_eq _ _ _ λc hc=>absurd hc (hnd c),h];exact hQ
def uX{r:Result Value}{c:Value→ap}(h:ON r c):∃v w',r= .ok v w'∧c v w':=by
 unfold ON at h;split at h
 ·exact⟨_,_,rfl,h⟩
 ·exact h.elim
def Cy{v:Value}(h:v.oneCell'=true):v.cells=#[v]:=by cases v<;>first|rfl|(simp[Value.oneCell']at h)
def ah3{p:Addr}{v:Value}{c:ap}(h:bN w p v c):(store p v).run P w= .ok () (w.setCell p v)∧c (w.setCell p v):=by
 obtain⟨h1,h2,h3,h4⟩:=h;refine⟨?_,h4⟩;rw[run_store P w p v .plain h1];cases hc:w.cell? p with
 |none=>simp[hc]at h2
 |some u=>simp[h3]
def ZX{p:Addr}:∀{l:List Value} {i:Nat} {w:World} {c:ap},JU w p i l c→∃w',(storeCells p l i).run P w= .ok () w'∧c w'
 |[],i,w,c,h=>⟨w,rfl,h⟩
 |v::l,i,w,c,h=>by
  obtain⟨h1,h2⟩:=ah3 (P:=P) h;obtain⟨w',h3,h4⟩:=ZX h2;exact⟨w',by simp only[storeCells,cR,h1,cK,h3],h4⟩
def Fx{raw:Nat→Bool}{place place':Nat→Option (Nat×Nat)}{n:Nat}(hp:∀i x,place' i=some x→place i=some x):
  ∀{l:List (Nat×Value)} {acc:Array Value} {c:Array Value→Prop},Qu raw place' n l acc c→acc.size=n→∃cs,Instr.fill place acc l=some cs∧c cs∧cs.size=n
 |[],acc,c,h,hn=>⟨acc,rfl,h,hn⟩
 |(i,v)::l,acc,c,h,hn=>by
  unfold Qu at h;split at h
  ·exact h.elim
  ·rename_i off size e;have a:=hp _ _ e;split at h
   ·exact h.elim
   ·rename_i hle;unfold Instr.fill;simp only[a];split at h
    ·split at h
     ·rename_i hs1;obtain⟨ho,h⟩:=h;have hc:v.cells=#[v]:=by cases v<;>first|rfl|exact absurd ho (by simp[Value.oneCell'])
      have hcond:¬((v.cells.size≠size)||decide (off+v.cells.size>acc.size))=true:=by rw[hc];simp[hs1];omega
      rw[if_neg hcond,hc];have:(#[v].zipIdx.foldl (λcs (x,j)=>cs.setIfInBounds (off+j) x) acc)=acc.setIfInBounds off v:=by simp
      rw[this];exact Fx hp h (by simp[hn])
     ·exact h.elim
    split at h
    ·rename_i cs;obtain⟨hsz,h⟩:=h;have hc:(Value.agg cs).cells=cs:=rfl;have hcond:¬((cs.size≠size)||decide (off+cs.size>acc.size))=true:=by simp[hsz];omega
     rw[hc,if_neg hcond];have hs:(cs.zipIdx.foldl (λcs (x,j)=>cs.setIfInBounds (off+j) x) acc).size=n:=by
      have:∀(l:List (Value×Nat)) (b:Array Value),(l.foldl (λcs (x,j)=>cs.setIfInBounds (off+j) x) b).size=b.size:=by
       intro l;induction l with
       |nil=>intro b;rfl
       |cons y l ih=>intro b;simp[ih]
      rw[←Array.foldl_toList,this];exact hn
     exact Fx hp h hs
    ·rename_i d;split at h
     ·rename_i hs1;have hc:v.cells=#[v]:=by cases v<;>first|rfl|exact absurd rfl (d _)
      have hcond:¬((v.cells.size≠size)||decide (off+v.cells.size>acc.size))=true:=by rw[hc];simp[hs1];omega
      rw[if_neg hcond,hc];have:(#[v].zipIdx.foldl (λcs (x,j)=>cs.setIfInBounds (off+j) x) acc)=acc.setIfInBounds off v:=by simp
      rw[this];exact Fx hp h (by simp[hn])
     ·exact h.elim
def run_places{fs:List Field}(h:∀f∈fs,(P.info? f.type).isSome=true):
  (fs.mapM λf=>(do pure (f.offset,←sizeOf f.type):Sem (Nat×Nat))).run P w= .ok (fs.map λf=>(f.offset,iB P f.type)) w:=by
 induction fs with
 |nil=>rfl
 |cons f fs ih=>
  have h0:=h f List.mem_cons_self;cases hi:P.info? f.type with
  |none=>simp[hi]at h0
  |some i=>
   simp only[List.mapM_cons,cR,run_sizeOf hi,cK,cP,ih (λg hg=>h g (List.mem_cons_of_mem _ hg)),List.map_cons,abA hi]
def LG(h:zOf P t=some z):(zeroValue t).run P w= .ok z w:=by
 unfold zOf at h;cases hi:P.info? t with
 |none=>simp[hi]at h
 |some i=>
  simp only[hi]at h;simp[zeroValue,typeInfo,hi,h]
def run_build{l:List (Nat×Value)}{c:Value→Prop}(hz:zOf P t=some z)(hs:z.cells.size=iB P t)(hi:abn P t=true)
  (h:Qu (aqY P t) (placesOf P t) (iB P t) l z.cells λcs=>c (.agg cs)) {parts:Array (Nat×Value)} (hl:parts.toList=l):∃v,(Instr.build t parts).run P w= .ok v w∧c v:=by
 unfold abn at hi;split at hi
 ·rename_i fs ht;rw[tL]at hi;have b:(fs.mapM λf=>(do pure (f.offset,←sizeOf f.type):Sem (Nat×Nat))).run P w= .ok ((fs.toList.map λf=>(f.offset,iB P f.type)).toArray) w:=by
   rw[Array.mapM_eq_mapM_toList];simp only[Sem.run_map,run_places hi,cK]
  obtain⟨cs,h1,h2,h3⟩:=Fx (place:=((fs.toList.map λf=>(f.offset,iB P f.type)).toArray[·]?)) (by
   intro i x hx;unfold placesOf at hx;rw[ht]at hx;simp only at hx;split at hx
   ·rename_i f hf;cases hx;simp[hf]
   ·cases hx) h hs
  refine⟨_,?_,h2⟩;simp only[Instr.build,cR,LG hz,cK,jr ht,b,hl,h1,cP]
 ·rename_i n e ht;cases a:P.info? e with
  |none=>simp[a]at hi
  |some i=>
   obtain⟨cs,h1,h2,h3⟩:=Fx (place:=λk=>some (k*iB P e,iB P e)) (by
    intro k x hx;unfold placesOf at hx;rw[ht]at hx;exact hx) h hs
   refine⟨_,?_,h2⟩;rw[abA a]at h1;simp only[Instr.build,cR,LG hz,cK,jr ht,run_sizeOf a,hl,h1,cP]
 ·cases hi
def Ge(h:∃fn,P.funcs[f]?=some fn∧fn.body.isSome=true∧(fn.name== "runtime.NumGoroutine")=false):(callFunc f args).run P w= .ok (.enter f args) w:=by
 obtain⟨fn,h1,h2,h3⟩:=h;have h4:fn.body.isNone=false:=by cases hb:fn.body<;>simp_all
 simp only[callFunc,Sem.run_bind,run_program,Result.andThen_ok,h1,h3,h4,Bool.false_eq_true,if_false,Sem.run_pure]
def aor{c:Value→ap}(hρ:uV ρ a)(ho:tK P bY q)(hq:∀ch w,q ch w→Q (.panic ch) a w)(h:afU P bY o ρ w c)
  (hK:∀v w',c v w'→K (a.put o.dst v) w'):o.wpIn (uW ro) n P a w K Q:=by
 unfold afU at h;split at h
 ·rename_i t x y hop;split at h
  ·rename_i p v hx hy;have hx':=hρ _ _ hx;have hy':=hρ _ _ hy;have key:v.cells.size=iB P t→iB P t≠0→∀w',(storeCells p v.cells.toList 0).run P w= .ok () w'→c undef w'→o.wpIn (uW ro) n P a w K Q:=by
    intro h1 h2 w' h3 h4;refine abF ?_ (hK _ _ h4);have h5:¬v.cells.size≠iB P t:=by simp[h1]
    simp only[execOp,hop,hx',hy',Instr.storeAt,Instr.sureAddr,cR,cP,cK,storeVar,uq h2,h5,if_false,h3]
   split at h
   ·rename_i hk;split at h
    ·exact h.elim
    rename_i hz;split at h
    ·rename_i cs;obtain⟨h1,h2⟩:=h;obtain⟨w',h3,h4⟩:=ZX h2;exact key h1 hz w' h3 h4
    ·exact h.elim
   ·split at h
    ·rename_i hs;obtain⟨h1,h2⟩:=ah3 (P:=P) h;have h0:=h.1;refine key (by rw[Cy h0,hs];rfl) (by rw[hs];simp) _ ?_ h2
     rw[Cy h0];simp only[storeCells,cR,add_zero,h1,cK,cP]
    ·exact h.elim
  ·exact h.elim
 ·rename_i t hop;split at h
  ·rename_i z hz;refine jE ?_ (hK _ _ h);simp only[execOp,hop,Instr.alloc,cR,LG hz,cK,newVar,newRow,run_newObj,cP,World.alloc_eq]
  ·exact h.elim
 ·rename_i t x hop;split at h
  ·rename_i v hx;split at h
   ·obtain⟨ho,h⟩:=h;refine jE ?_ (hK _ _ h);simp only[execOp,hop,hρ _ _ hx,Instr.box,Cy ho,cR,cK,newVar,newRow,run_newObj,cP,World.alloc_eq]
   refine jE ?_ (hK _ _ h);simp only[execOp,hop,hρ _ _ hx,Instr.box,cR,cK,newVar,newRow,run_newObj,cP,World.alloc_eq]
  ·exact h.elim
 ·rename_i t parts hop;split at h
  ·rename_i l z hl hz;split at h
   ·rename_i hcond;obtain⟨v,h1,h2⟩:=run_build (w:=w) (c:=λv=>c v w) hz hcond.1 hcond.2 h (parts:=parts.map fun(i,x)=>(i,a.eval x)) (gq (U3 hρ hl))
    refine jE ?_ (hK _ _ h2);simp only[execOp,hop,cR,h1,cK,cP]
   ·exact h.elim
  ·exact h.elim
 ·rename_i t len parts hop;split at h
  ·rename_i e l ht hl;split at h
   ·exact h.elim
   rename_i hc;have D:¬len*iB P e>2 ^ 24:=λh=>hc (.inl h);cases g:P.info? e with
   |none=>exact absurd (.inr (by simp[g])) hc
   |some i=>
    rw[abA g]at h D;split at h
    ·rename_i z hz;obtain⟨cs,h1,h2,h3⟩:=Fx (λ_ _ hx=>hx) h bf;refine jE ?_ (hK _ _ h2);have C:(parts.map fun(i,x)=>(i,a.eval x)).toList=l:=by simpa using U3 hρ hl
     by_cases h0:len*i.size=0
     ·rw[if_pos h0]at hz;cases hz
      simp only[h0]at h1 D;simp only[execOp,hop,Instr.buildSlice,cR,jr ht,run_sizeOf g,cK,h0,D,if_false,if_true,cP,C,h1,newRow,run_newObj,World.alloc_eq]
     ·rw[if_neg h0]at hz;cases j:zOf P e with
      |none=>simp[j]at hz
      |some I=>
       simp[j]at hz;subst hz;simp only[execOp,hop,Instr.buildSlice,cR,jr ht,run_sizeOf g,cK,h0,D,if_false,LG j,cP,C,h1,newRow,run_newObj,World.alloc_eq]
    ·exact h.elim
  ·exact h.elim
 ·rename_i t l k hop;split at h
  ·rename_i x y hx hy;obtain⟨v,w',h1,h2⟩:=uX h;obtain⟨s,rfl,h3⟩:=Qx h2;refine jE ?_ (hK _ _ h3);simp only[execOp,hop,hρ _ _ hx,hρ _ _ hy,cR,h1,cK,cP]
  ·exact h.elim
 ·rename_i cl hop;split at h
  ·rename_i b hcb;have F:o.op= .call {callee:= .builtin b,args:=cl.args,argTypes:=cl.argTypes}:=by rw[hop,←hcb]
   obtain⟨cs,hc⟩:=Uy F;split at h
   ·rename_i vs hvs;rw[tR hρ hvs]at hc;split at h
    ·obtain⟨v,w',h1,h2⟩:=uX h;obtain⟨s,rfl,h3⟩:=Qx h2;refine jE ?_ (hK _ _ h3);rw[hc];simp only[builtin,cR,h1,cK,cP]
    ·obtain⟨v,w',h1,h2⟩:=uX h;obtain⟨s,rfl,h3⟩:=Qw h2;refine jE ?_ (hK _ _ h3);rw[hc];simp only[builtin,cR,h1,cK,cP]
    ·obtain⟨v,w',h1,h2⟩:=uX h;obtain⟨s,rfl,h3⟩:=Qw h2;refine jE ?_ (hK _ _ h3);rw[hc];simp only[builtin,cR,h1,cK,cP]
    ·obtain⟨v,w',h1,h2⟩:=uX h;refine jE ?_ (hK _ _ h2);rw[hc];simp only[builtin,cR,h1,cK,cP]
    ·obtain⟨v,w',h1,h2⟩:=uX h;refine jE ?_ (hK _ _ h2);rw[hc];simp only[builtin,cR,h1,cK,cP]
    ·obtain⟨t,v,h1,h2⟩:=ho _ _ _ _ h;refine aeD (λc=>by rw[hop];intro h;cases h) ?_ (hq _ _ h2)
     rw[hc,h1];simp only[builtin];rfl
    ·exact h.elim
   ·exact h.elim
  ·rename_i f hcb;split at h
   ·rename_i fv vs hf hvs;have A:cl={callee:= .value f,args:=cl.args,argTypes:=cl.argTypes}:=by rw[←hcb]
    unfold nj at h;split at h
    ·rename_i id first captured
     rcases ho _ _ _ _ h with⟨h1,h2⟩|⟨v,w1,h1,h2⟩
     ·have hrun:(execOp a.eval o).run P w= .ok (.enter id (first++vs.toArray++captured)) w:=by
       rw[A]at hop;simp only[execOp,hop,resolve,hρ _ _ hf,tR hρ hvs,Deferred.ofValue,cR,cP,cK,invoke,Ge h1]
      refine abE hrun (λd hd=>by cases hd) ⟨λh=>U6 ro h,MZ (h2.mono λe w' he=> ?_)⟩
      cases e with
      |returned v=>exact hK _ _ (Cw he)
      |panicked ch=>exact hq _ _ he
      |outgrown=>exact he.elim
     ·refine jE ?_ (hK _ _ (Cw h2));rw[A]at hop;simp only[execOp,hop,resolve,hρ _ _ hf,tR hρ hvs,Deferred.ofValue,cR,cP,cK,invoke,h1]
    ·rename_i l first _
     obtain⟨fn,tmps,assign,body,h1,h2⟩:=ho _ _ _ _ h;have hrun:(execOp a.eval o).run P w= .ok (.round l fn tmps assign body) w:=by
      rw[A]at hop;simp only[execOp,hop,resolve,hρ _ _ hf,tR hρ hvs,Deferred.ofValue,cR,cP,cK,invoke,h1]
     refine abE hrun (λd hd=>by cases hd) ⟨λh=>U6 ro h,af5 (h2.mono λe w' he=> ?_)⟩
     cases e with
     |returned v=>exact hK _ _ (Cw he)
     |panicked ch=>exact hq _ _ he
     |outgrown=>exact he.elim
    ·exact h.elim
   ·exact h.elim
  ·rename_i r name hcb;split at h
   ·rename_i rv vs hr hvs;have A:cl={callee:= .invoke r name,args:=cl.args,argTypes:=cl.argTypes}:=by rw[←hcb]
    unfold pR at h;split at h
    ·rename_i t v;split at h
     ·rename_i f x w1 hm;have e0:(#[Value.iface t v] ++vs.toArray)[0]?=some (.iface t v):=by simp
      have e1:(#[Value.iface t v] ++vs.toArray).extract 1 (#[Value.iface t v] ++vs.toArray).size=vs.toArray:=by simp
      rcases ho _ _ _ _ h with⟨h1,h2⟩|⟨u,w2,h1,h2⟩
      ·have hrun:(execOp a.eval o).run P w= .ok (.enter f (#[x] ++vs.toArray)) w1:=by
        rw[A]at hop;simp only[execOp,hop,resolve,hρ _ _ hr,tR hρ hvs,cR,cP,cK,invoke,e0,e1,callMethod,run_program,hm,Ge h1]
       refine abE hrun (λd hd=>by cases hd) ⟨λh=>U6 ro h,MZ (h2.mono λe w' he=> ?_)⟩
       cases e with
       |returned v=>exact hK _ _ (Cw he)
       |panicked ch=>exact hq _ _ he
       |outgrown=>exact he.elim
      ·refine jE ?_ (hK _ _ (Cw h2));rw[A]at hop;simp only[execOp,hop,resolve,hρ _ _ hr,tR hρ hvs,cR,cP,cK,invoke,e0,e1,callMethod,run_program,hm,h1]
     ·exact h.elim
    ·exact h.elim
   ·exact h.elim
 ·rename_i t r hop;split at h
  ·obtain⟨v,w',h1,h2⟩:=uX h;obtain⟨s,rfl,h3⟩:=Qy h2;refine jE ?_ (hK _ _ h3);simp only[execOp,hop,Option.map_none,cR,h1,cK,cP]
  ·split at h
   ·rename_i r _ x hx;obtain⟨v,w',h1,h2⟩:=uX h;obtain⟨s,rfl,h3⟩:=Qy h2;refine jE ?_ (hK _ _ h3);simp only[execOp,hop,Option.map_some,hρ _ _ hx,cR,h1,cK,cP]
   ·exact h.elim
 ·rename_i t x i ok hop;split at h
  ·rename_i B vi hx hi;obtain⟨v,w',h1,h2⟩:=uX h;refine jE ?_ (hK _ _ (Cw h2));simp only[execOp,hop,hρ _ _ hx,hρ _ _ hi,cR,h1,cK,cP]
  ·exact h.elim
 ·rename_i t m k x hop;split at h
  ·rename_i G H B hm hk hx;unfold MP aqV at h;split at h
   ·rename_i u w' hr;refine abF ?_ (hK _ _ h);simp only[execOp,hop,hρ _ _ hm,hρ _ _ hk,hρ _ _ hx,cR,hr,cK,cP]
   ·exact h.elim
  ·exact h.elim
 ·rename_i t m k x hop;split at h
  ·rename_i G H B hm hk hx;unfold MP aqV at h;split at h
   ·rename_i u w' hr;refine abF ?_ (hK _ _ h);simp only[execOp,hop,hρ _ _ hm,hρ _ _ hk,hρ _ _ hx,cR,hr,cK,cP]
   ·exact h.elim
  ·exact h.elim
 ·rename_i s d x hop;split at h
  ·rename_i B hx;obtain⟨v,w',h1,h2⟩:=uX h;refine jE ?_ (hK _ _ (SR h2));simp only[execOp,hop,hρ _ _ hx,cR,h1,cK,cP]
  ·exact h.elim
 ·rename_i x xt as ok hop;split at h
  ·rename_i B hx;obtain⟨v,w',h1,h2⟩:=uX h;refine jE ?_ (hK _ _ (Cw h2));simp only[execOp,hop,hρ _ _ hx,cR,h1,cK,cP]
  ·exact h.elim
 ·rename_i x hop;split at h
  ·rename_i B hx;obtain⟨t,v,h1,h2⟩:=ho _ _ _ _ h;have h1:B= .iface t v:=by simpa using h1
   subst h1;refine aeD (λc=>by rw[hop];intro h;cases h) ?_ (hq _ _ h2)
   simp only[execOp,hop,hρ _ _ hx];rfl
  ·exact h.elim
 ·exact h.elim
end
variable{Q:Exit→Act→ap}
section
variable{ops:Array Oper}
def PQ(q:U7):Exit→Act→ap:=λe _ w=>match e with| .panic ch=>q ch w|_=>False
def SU{ρ:Operand→Value}{v:Value}(h:(execOp ρ o).run P w= .ok (.value v) w'):∀c,o.op≠ .defer c:=λc hc=>by
 obtain⟨d,hd⟩:=abD hc h;cases hd
def Fy(P:Program)(ops:Array Oper)(o:Oper)(a:Act)(w:World)(v:Value):Prop:=
 (Region.wanted o (yielded ops a.tmps)=true∧(execOp a.eval o).run P w= .ok (.value v) w)∨(Region.wanted o (yielded ops a.tmps)=false∧v=undef)
def Fz(P:Program)(ops:Array Oper)(q:U7)(o:Oper)(a:Act)(w:World)(c:Value→ap):Prop:=
 (Region.wanted o (yielded ops a.tmps)=true∧(∀c,o.op≠ .defer c)∧∀(ro:Option Nat) (n:Nat) (K:Act→ap),(∀v w',c v w'→K (a.put o.dst v) w')→o.wpIn (uW ro) n P a w K (PQ q))∨(Region.wanted o (yielded ops a.tmps)=false∧c undef w)
def Fy.c{v:Value}(h:Fy P ops o a w v):Fz P ops q o a w λu w'=>u=v∧w'=w:=by
 rcases h with⟨h1,h2⟩|⟨h1,h2⟩
 ·exact .inl ⟨h1,SU h2,λ_ _ K hK=>jE h2 (hK _ _ ⟨rfl,rfl⟩)⟩
 ·exact .inr ⟨h1,h2.symm,rfl⟩
def Fz.mono{c c':Value→ap}(h:Fz P ops q o a w c)(hc:∀v w',c v w'→c' v w'):Fz P ops q o a w c':=by
 rcases h with⟨h1,h2⟩|⟨h1,h2⟩
 ·exact .inl ⟨h1,h2.1,λro n K hK=>h2.2 ro n K λv w' h=>hK v w' (hc v w' h)⟩
 ·exact .inr ⟨h1,hc _ _ h2⟩
def aos{F:Fence}{K:Act→ap}(hq:∀ch w,q ch w→Q (.panic ch) a w)(h:o.wpIn F n P a w K (PQ q)):o.wpIn F n P a w K Q:=by
 refine⟨h.1,?_⟩;have h:=h.2;generalize (o.semAt F.round a.eval).run P w=r at*
 cases r with
 |ok x w'=>
  cases x<;>simp only[Oper.uponIn]at h ⊢ <;>first
   |exact h
   |(refine⟨h.1,h.2.mono λe w'' he=> ?_⟩;cases e with
     |returned v=>exact he
     |panicked c=>exact hq _ _ he
     |outgrown=>obtain⟨_,_,hx⟩:=he;exact hx.elim)
 |halt x w'=>cases x<;>simp only[Oper.uponIn]at h ⊢ <;>first|exact hq _ _ h|exact h.elim
def Fz.wp{c:Value→ap}(h:Fz P ops q o a w c){K:Act→ap}(hq:∀ch w,q ch w→Q (.panic ch) a w)(hK:∀v w',c v w'→K (a.put o.dst v) w'):
  if Region.wanted o (yielded ops a.tmps)then o.wpIn (uW ro) n P a w K Q else(∀f,o.about P w a.eval=some f→(uW ro).fn f)∧K (a.put o.dst undef) w:=by
 rcases h with⟨h1,h2⟩|⟨h1,h2⟩
 ·rw[if_pos h1];exact aos hq (h2.2 ro n K hK)
 ·rw[if_neg (by simp[h1])];exact⟨λf _=>Kb ro f,hK _ _ h2⟩
def AP(h:o.guard=none)(y:Nat→Option Bool):Region.wanted o y=true:=by simp[Region.wanted,h]
def SV{v:Value}(hs:Sub e a)(h:e.find g=some (.val v)):a.tmps[g]?=some v:=hs _ (Dc h)
def awM{c:Value→ap}(hρ:uV ρ a)(ho:tK P bY q)(h:aez P bY o ρ w c)(hw:Region.wanted o (yielded ops a.tmps)=true):Fz P ops q o a w c:=by
 refine .inl ⟨hw,λcc b=>by
  unfold aez at h;simp[b,Cf,SN,afS,JX,afU]at h,λro n K hK=> ?_⟩
 unfold aez at h;split at h
 ·rename_i hp;unfold IS at h;split at h
  ·rename_i v hv;exact jE (QA hρ hp hv w) (hK _ _ h)
  ·exact h.elim
 ·split at h
  ·obtain⟨v,hc,hr⟩:=ZS hρ h;exact jE (hr w) (hK _ _ hc)
  ·split at h
   ·rename_i t x hl;have hop:o.op= .load t x:=by
     unfold JX at hl;split at hl<;>simp_all
    obtain⟨p,u,_,hc,hr⟩:=ZV hρ hop h;exact jE (hr w λ_ _=>rfl) (hK _ _ hc)
   ·exact aor hρ ho (λ_ _ h=>h) h hK
def awN{c:Value→ap}(hρ:uV ρ a)(hb:Cf P o.op=true∨SN P o.op=true)(h:aez P bY o ρ w c)(hw:Region.wanted o (yielded ops a.tmps)=true):
  ∃v,c v w∧∀w',Fy P ops o a w' v:=by
 unfold aez at h;split at h
 ·rename_i hp;unfold IS at h;split at h
  ·rename_i v hv;exact⟨v,h,λw'=> .inl ⟨hw,QA hρ hp hv w'⟩⟩
  ·exact h.elim
 ·rename_i hp;rw[if_pos (hb.resolve_left hp)]at h;obtain⟨v,hc,hr⟩:=ZS hρ h;exact⟨v,hc,λw'=> .inl ⟨hw,hr w'⟩⟩
def LH{z:Operand}(ho:o.op= .pick x y z)(hx:a.eval x= .bool b)(w:World):(execOp a.eval o).run P w= .ok (.value (if b then a.eval y else a.eval z)) w:=by
 simp only[execOp,ho,hx,asBool,cR,cP,cK]
def U8{z:Operand}{v:Value}(hs:Sub e a)(h:aa3 e x y z=some v):∃b,a.eval x= .bool b∧(if b then a.eval y else a.eval z)=v:=by
 unfold aa3 at h;split at h
 ·rename_i g cb hx;have hx':=qi hs _ _ hx;have hg:a.tmps[g]?=some (.bool cb):=by
   simp only[Env.op]at hx;split at hx
   ·rename_i u hf;cases hx;exact SV hs hf
   ·cases hx
  refine⟨cb,hx',?_⟩;split at h
  ·rename_i va c h1 h2;have hy:cb=true→a.eval y= .bool va:=by
    intro hc;subst hc;split at h1
    ·rename_i u hu;cases h1;exact qi hs _ _ hu
    ·exact Wu hs hg h1
   have hz:cb=false→a.eval z= .bool c:=by
    intro hc;subst hc;split at h2
    ·rename_i u hu;cases h2;exact qi hs _ _ hu
    ·exact Wu hs hg h2
   split at h
   ·cases h
    cases cb
    ·simp[hz rfl]
    ·simp[Act.eval]
   ·cases h
    cases cb
    ·simp[Act.eval]
    ·simp[hy rfl]
   ·cases h
    cases cb
    ·simp[hz rfl]
    ·simp[hy rfl]
  ·cases h
 ·cases h
def ZY{z:Operand}{c:Value→Prop}(hs:Sub e a)(h:abo e x y z c):∃b v,a.eval x= .bool b∧(if b then a.eval y else a.eval z)=v∧c v:=by
 unfold abo at h;split at h
 ·rename_i cb hx;have hx':=qi hs _ _ hx;cases cb
  ·unfold an IS at h;simp only at h;split at h
   ·rename_i v hv;exact⟨false,v,hx',gq (qi hs _ _ hv),h⟩
   ·exact h.elim
  ·unfold an IS at h;simp only at h;split at h
   ·rename_i v hv;exact⟨true,v,hx',gq (qi hs _ _ hv),h⟩
   ·exact h.elim
 ·exact h.elim
def U9{p:Operand×Operand×Operand}(h:SO o.op=some p):o.op= .pick p.1 p.2.1 p.2.2:=by
 unfold SO at h;split at h
 ·rename_i x y z hop;cases h;exact hop
 ·cases h
def Fits(o:Oper)(a:Act):Prop:=∀d,o.dst=some d→d<a.tmps.size
def aeE{c:Env→ap}(hs:Sub e a)(hf:Fits o a)(ho:tK P bY q)(hw:Region.wanted o (yielded ops a.tmps)=true)(h:SP P bY o e w c):
  Fz P ops q o a w λv w'=> ∃e',c e' w'∧Sub e' (a.put o.dst v):=by
 unfold SP at h;split at h
 ·rename_i x y z hp;have hop:=U9 hp;split at h
  ·rename_i v hv;obtain⟨b,hx,Gq⟩:=U8 hs hv;have hr:=LH (P:=P) hop hx w;rw[Gq]at hr;exact .inl ⟨hw,SU hr,λ_ _ K hK=>jE hr (hK _ _ ⟨_,h,zo hs hf⟩)⟩
  ·obtain⟨b,v,hx,Gq,hc⟩:=ZY hs h;have hr:=LH (P:=P) hop hx w;rw[Gq]at hr;exact .inl ⟨hw,SU hr,λ_ _ K hK=>jE hr (hK _ _ ⟨_,hc,zo hs hf⟩)⟩
 ·exact(awM (qi hs) ho h hw).mono λv w' hc=>⟨_,hc,zo hs hf⟩
def aeF{c:Env→ap}(hs:Sub e a)(hf:Fits o a)(hb:U2 P o.op=true)(hw:Region.wanted o (yielded ops a.tmps)=true)(h:SP P bY o e w c):
  ∃e' v,c e' w∧Sub e' (a.put o.dst v)∧∀w',Fy P ops o a w' v:=by
 unfold SP at h;split at h
 ·rename_i x y z hp;have hop:=U9 hp;split at h
  ·rename_i v hv;obtain⟨b,hx,Gq⟩:=U8 hs hv;refine⟨_,v,h,zo hs hf,λw'=> .inl ⟨hw,?_⟩⟩;have hr:=LH (P:=P) hop hx w';rwa[Gq]at hr
  ·obtain⟨b,v,hx,Gq,hc⟩:=ZY hs h;refine⟨_,v,hc,zo hs hf,λw'=> .inl ⟨hw,?_⟩⟩;have hr:=LH (P:=P) hop hx w';rwa[Gq]at hr
 ·rename_i hp;have hb':Cf P o.op=true∨SN P o.op=true:=by simpa[U2,hp]using hb
  obtain⟨v,hc,hr⟩:=awN (qi hs) hb' h hw;exact⟨_,v,hc,zo hs hf,hr⟩
def ZZ{v:Value}(hs:Sub e a)(hg:a.tmps[g]?=some (.bool want))(h:abp P o.op e g want=some v)(w:World):(execOp a.eval o).run P w= .ok (.value v) w:=by
 unfold abp at h;split at h
 ·cases h
 split at h
 ·rename_i x y z hp;have hop:=U9 hp;obtain⟨b,hx,Gq⟩:=U8 (Cv hs hg) h;have hr:=LH (P:=P) hop hx w;rwa[Gq]at hr
 ·split at h
  ·rename_i hp;exact QA (ako hs hg) hp h w
  ·cases h
def o5(a:Act)(g:Nat)(want:Bool):Bool:=match a.tmps[g]? with|some (.bool b)=>b==want|_=>false
def WD:o5 a g want=true↔a.tmps[g]?=some (.bool want):=by
 unfold o5;split
 ·rename_i b hb;rw[hb];simp
 ·rename_i hn;constructor
  ·intro h;cases h
  ·intro h;exact absurd h (hn _)
def QC(h:afV ops o.guard=some (g,want)):Region.wanted o (yielded ops a.tmps)=o5 a g want:=by
 unfold afV at h;split at h
 ·rename_i j b hg;split at h
  ·rename_i oj hj;split at h
   ·rename_i d hd;cases h
    simp only[Region.wanted,hg,yielded,hj,hd,Option.bind_some,o5];split<;>simp_all
   ·cases h
  ·cases h
 ·cases h
def IU{g:Nat}{want:Bool}{yes no:Env→Prop}:∀{n:Nat} {e:Env},Sub e a→Yq g want yes no n e→(∃e',Sub e' a∧o5 a g want=true∧yes e')∨(∃e',Sub e' a∧o5 a g want=false∧no e')
 |0,_,_,h=>h.elim
 |n+1,e,hs,h=>by
  unfold Yq at h;split at h
  ·rename_i b hfind;have hb:=SV hs hfind;split at h
   ·cases b
    ·simp only[an,kU]at h;exact .inr ⟨_,Cv hs hb,by simp[o5,hb],h⟩
    ·simp only[an,kU]at h;exact .inl ⟨_,Cv hs hb,by simp[o5,hb],h⟩
   ·cases b
    ·simp only[an,kU]at h;exact .inl ⟨_,Cv hs hb,by simp[o5,hb],h⟩
    ·simp only[an,kU]at h;exact .inr ⟨_,Cv hs hb,by simp[o5,hb],h⟩
  ·rename_i vs hfind;have hb:=SV hs hfind;exact .inr ⟨e,hs,by simp[o5,hb],h⟩
  ·split at h
   ·rename_i b hfind;have hb:=SV hs hfind;cases b
    ·simp only[an,kU]at h;exact IU (Cv hs hb) h
    ·simp only[an,kU]at h;exact IU (Cv hs hb) h
   ·exact h.elim
  ·exact h.elim
def aeG{c:Env→ap}(hs:Sub e a)(hf:Fits o a)(ho:tK P bY q)(h:MQ P bY ops o e w c):
  Fz P ops q o a w λv w'=> ∃e',c e' w'∧Sub e' (a.put o.dst v):=by
 unfold MQ at h;split at h
 ·rename_i hg;exact aeE hs hf ho (AP hg _) h
 ·split at h
  ·exact h.elim
  ·rename_i g want i;have hw:=QC (a:=a) i;split at h
   ·rename_i v d hpure hd;split at h
    ·exact h.elim
    ·rename_i hne;have f:d≠g:=by simpa using hne
     have j:=hf d hd;cases b:o5 a g want with
     |true=>
      have hb:=WD.1 b;have hr:=ZZ hs hb hpure w;refine .inl ⟨by rw[hw,b],SU hr,λ_ _ K hK=>jE hr (hK _ _ ⟨_,h,?_⟩)⟩
      rw[hd];exact Ww hs j f (λ_=>rfl) λhx=>absurd hb hx
     |false=>
      refine .inr ⟨by rw[hw,b],_,h,?_⟩
      rw[hd];exact Ww hs j f (λhx=>by rw[WD.2 hx]at b;cases b) λ_=>rfl
   ·rcases IU hs h with⟨e',hs',b,h⟩|⟨e',hs',b,h⟩
    ·exact aeE hs' hf ho (by rw[hw,b]) h
    ·exact .inr ⟨by rw[hw,b],_,h,zo hs' hf⟩
def aot{c:Env→ap}(hs:Sub e a)(hf:Fits o a)(hb:U2 P o.op=true)(h:MQ P bY ops o e w c):
  ∃e' v,c e' w∧Sub e' (a.put o.dst v)∧∀w',Fy P ops o a w' v:=by
 unfold MQ at h;split at h
 ·rename_i hg;exact aeF hs hf hb (AP hg _) h
 ·split at h
  ·exact h.elim
  ·rename_i g want j;have hw:=QC (a:=a) j;split at h
   ·rename_i v d hpure hd;split at h
    ·exact h.elim
    ·rename_i hne;have f:d≠g:=by simpa using hne
     have k:=hf d hd;cases b:o5 a g want with
     |true=>
      have i:=WD.1 b;refine⟨_,v,h,?_,λw'=> .inl ⟨by rw[hw,b],ZZ hs i hpure w'⟩⟩
      rw[hd];exact Ww hs k f (λ_=>rfl) λhx=>absurd i hx
     |false=>
      refine⟨_,undef,h,?_,λw'=> .inr ⟨by rw[hw,b],rfl⟩⟩
      rw[hd];exact Ww hs k f (λhx=>by rw[WD.2 hx]at b;cases b) λ_=>rfl
   ·rcases IU hs h with⟨e',hs',b,h⟩|⟨e',hs',b,h⟩
    ·exact aeF hs' hf hb (by rw[hw,b]) h
    ·exact⟨_,undef,h,zo hs' hf,λw'=> .inr ⟨by rw[hw,b],rfl⟩⟩
def FA(a:Act)(d:Option Nat)(v:Value):(a.put d v).tmps.size=a.tmps.size:=by cases d<;>simp[Act.put]
def put_defers(a:Act)(d:Option Nat)(v:Value):(a.put d v).defers=a.defers:=by cases d<;>rfl
def o8(ws:Nat→Bool)(a a':Act):Prop:=a'.tmps.size=a.tmps.size∧a'.defers=a.defers∧∀s,ws s=false→a'.tmps[s]?=a.tmps[s]?
def o8.refl(ws:Nat→Bool)(a:Act):o8 ws a a:=⟨rfl,rfl,λ_ _=>rfl⟩
def o8.trans{ws:Nat→Bool}{a b c:Act}(h:o8 ws a b)(k:o8 ws b c):o8 ws a c:=⟨k.1.trans h.1,k.2.1.trans h.2.1,λs hs=>(k.2.2 s hs).trans (h.2.2 s hs)⟩
def o8.mono{ws ws':Nat→Bool}{b:Act}(h:o8 ws a b)(hw:∀s,ws' s=false→ws s=false):o8 ws' a b:=⟨h.1,h.2.1,λs hs=>h.2.2 s (hw s hs)⟩
def o8.put{ws:Nat→Bool}{a:Act}{d:Option Nat}{v:Value}(h:∀x,d=some x→ws x=true):o8 ws a (a.put d v):=by
 refine⟨FA a d v,put_defers a d v,λs hs=> ?_⟩;cases d with
 |none=>rfl
 |some d=>exact Gp λe=>by subst e;rw[h _ rfl]at hs;cases hs
def WE(ops:Array Oper)(s:Nat):Bool:=ops.toList.any λo=>match o.dst with|some d=>Nat.beq d s|none=>false
def II{x:Nat}(hm:o∈ops)(h:o.dst=some x):WE ops x=true:=by
 unfold WE;rw[List.any_eq_true];exact⟨o,gq hm,by simp[h]⟩
def SX(n:Nat)(ops:Array Oper):Bool:=ops.toList.all λo=>match o.dst with|some d=>Nat.blt d n|none=>true
def Kc(h:SX n ops=true)(hm:o∈ops):∀d,o.dst=some d→d<n:=by
 intro d hd;unfold SX at h;rw[tL]at h;have:=h o (gq hm)
 simpa[hd,Nat.blt_eq]using this
def aeH{bY:ey}{ro:Option Nat}{n:Nat}{Q:Exit→Act→ap}(ho:tK P bY q):∀(l:List Oper) (e:Env) (w:World) (a:Act) (c:Env→ap),(∀ch a' w',o8 (WE ops) a a'→q ch w'→Q (.panic ch) a' w')→(∀o∈l,o∈ops)→SX a.tmps.size ops=true→Sub e a→abq P bY ops l e w c→
  (∀e' w' a',c e' w'→Sub e' a'→o8 (WE ops) a a'→Q .normal a' w')→wpListIn (uW ro) n P ops Q l a w
 |[],e,w,a,c,_,_,_,hs,h,hQ=>hQ e w a h hs (.refl _ _)
 |o::l,e,w,a,c,hq,hm,hf,hs,h,hQ=>by
  unfold abq at h;have hmo:=hm o List.mem_cons_self;have hc:=aeG hs (Kc hf hmo) ho h;unfold wpListIn;refine hc.wp (λch w h=>hq ch a w (.refl _ _) h) λv w' hx=> ?_;obtain⟨e',hx,hs'⟩:=hx;rw[kU]at hx;exact aeH ho l e' w' _ c (λch a' w' hd h=>hq ch a' w' ((o8.put λx hx=>II hmo hx).trans hd) h) (λo h=>hm o (List.mem_cons_of_mem _ h)) (by rw[FA];exact hf) hs' hx λb w'' a'' h1 h2 h3=>
   hQ b w'' a'' h1 h2 ((o8.put λx hx=>II hmo hx).trans h3)
end
variable{i j:Nat}{o':Oper}{u:Value}{listed:Array Bool}
section
variable{ops:Array Oper}
def still(P:Program)(o:Oper):Bool:=U2 P o.op||(JX o.op).isSome
def Z0(h:still P o=true):∀cs b,o.op≠ .select cs b:=by
 intro cs b hb;simp[still,U2,hb,SO,Cf,SN,afS,JX]at h
def Tl(h:Nat→ap)(i:Nat)(S:ap):Nat→ap:=λk=>if k=i then S else h k
def aou(h:Nat→ap)(hij:i≠j)(S T:ap):Tl (Tl h i S) j T=Tl (Tl h j T) i S:=by
 funext k;unfold Tl;by_cases h1:k=i<;>by_cases h2:k=j<;>simp_all
def wpH(P:Program)(ops:Array Oper)(sO:Nat→Nat→Bool)(q:U7)(Q:Exit→Act→ap):Nat→Array Bool→(Nat→ap)→Act→ap
 |0,listed,_,a,w=>Region.ready .any ops listed=[]∧Q .normal a w
 |f+1,listed,h,a,w=>(Region.ready .any ops listed=[]→Q .normal a w)∧∀i∈Region.ready .any ops listed,∀o,ops[i]?=some o→
   (still P o=true→∃v S,S w∧(∀w',S w'→Fy P ops o a w' v)∧wpH P ops sO q Q f (listed.setIfInBounds i true) (Tl h i S) (a.put o.dst v) w)∧
   (still P o=false→(∀cs b,o.op≠ .select cs b)∧Fz P ops q o a w λv w'=>(∀k,sO i k=false→h k w')∧wpH P ops sO q Q f (listed.setIfInBounds i true) h (a.put o.dst v) w')
def QE{sO:Nat→Nat→Bool}{ro:Option Nat}{n:Nat}:∀(f:Nat) (listed:Array Bool) (h:Nat→ap) (a:Act) (w:World),(∀ch a' w',o8 (WE ops) a a'→q ch w'→Q (.panic ch) a' w')→wpH P ops sO q Q f listed h a w→wpAnyIn (uW ro) n P .any ops Q f listed a w
 |0,_,_,_,_,_,h=>h
 |f+1,listed,hh,a,w,hq,h=>by
  refine⟨h.1,λi hi=> ?_⟩;obtain⟨_,o,ho,_⟩:=mem_ready.1 hi;obtain⟨h1,h2⟩:=h.2 i hi o ho;unfold wpOpIn;rw[ho];cases hs:still P o with
  |true=>
   obtain⟨v,S,hS,hv,hK⟩:=h1 hs;exact((hv w hS).c).wp (λch w h=>hq ch a w (.refl _ _) h) λu w' ⟨hu,hw'⟩=>by subst hu;subst hw';exact QE f _ _ _ _ (λch a' w' hd h=>hq ch a' w' ((o8.put λx hx=>II (Array.mem_of_getElem? ho) hx).trans hd) h) hK
  |false=>exact(h2 hs).2.wp (λch w h=>hq ch a w (.refl _ _) h) λu w' hK=>QE f _ _ _ _ (λch a' w' hd h=>hq ch a' w' ((o8.put λx hx=>II (Array.mem_of_getElem? ho) hx).trans hd) h) hK.2
def abH(hap:Oper.apart ops o' o=true)(hs:∀cs b,o.op≠ .select cs b)(a:Act)(v:Value):
  execOp (a.put o'.dst v).eval o=execOp a.eval o∧Region.wanted o (yielded ops (a.put o'.dst v).tmps)=Region.wanted o (yielded ops a.tmps):=by
 have h:=Oper.apart_spec hap;exact⟨execOp_put o hs a o'.dst v h.1,wanted_put o a o'.dst v h.1⟩
def Va(hap:Oper.apart ops o' o=true)(hs:∀cs b,o.op≠ .select cs b){v:Value}:Fy P ops o (a.put o'.dst u) w v↔Fy P ops o a w v:=by
 obtain⟨h1,h2⟩:=abH hap hs a u;unfold Fy;rw[h1,h2]
def aq2{b:Act}{d:Option Nat}{v:Value}(hz:a.tmps.size=b.tmps.size)(h:b.put d u=b.put d v):a.put d u=a.put d v:=by
 cases d with
 |none=>rfl
 |some d=>
  by_cases hd:d<b.tmps.size
  ·have h1:(b.put (some d) u).tmps[d]?=(b.put (some d) v).tmps[d]?:=by rw[h]
   rw[Wv hd,Wv hd]at h1;cases h1
   rfl
  ·have:∀x,a.put (some d) x=a:=by
    intro x;simp only[Act.put];have hx:a.tmps.setIfInBounds d x=a.tmps:=by
     apply Array.ext_getElem?;intro i;by_cases hi:i=d
     ·subst hi;simp[show a.tmps.size≤i by omega]
     ·rw[Array.getElem?_setIfInBounds_ne (Ne.symm hi)]
    rw[hx]
   rw[this,this]
def akw(hap:Oper.apart ops o' o=true)(hs:∀cs b,o.op≠ .select cs b){c:Value→ap}(h:Fz P ops q o (a.put o'.dst u) w c):Fz P ops q o a w c:=by
 obtain⟨h1,h2⟩:=abH hap hs a u;unfold Fz at*
 rw[h2]at h;rcases h with⟨hw,hnd,h⟩|⟨hw,h⟩
 ·refine .inl ⟨hw,hnd,λro n K hK=> ?_⟩;have h3:=h ro n (λa1 w1=> ∃v',a1=(a.put o'.dst u).put o.dst v'∧K (a.put o.dst v') w1) λv' w' hc=>⟨v',rfl,hK v' w' hc⟩;refine⟨λf _=>Kb ro f,?_⟩;have h3:=h3.2;have g:((o.semAt (uW ro).round (a.put o'.dst u).eval).run P w)=((o.semAt (uW ro).round a.eval).run P w):=by
   rw[Oper.semAt_eq _ _ _ hnd,Oper.semAt_eq _ _ _ hnd,h1]
  rw[g]at h3;have hz:∀v v':Value,(a.put o'.dst u).put o.dst v=(a.put o'.dst u).put o.dst v'→a.put o.dst v=a.put o.dst v':=λv v'=>aq2 (by rw[FA])
  generalize (o.semAt (uW ro).round a.eval).run P w=r at*
  cases r with
  |ok x w'=>
   cases x with
   |value v=>simp only[Oper.uponIn]at h3 ⊢;obtain⟨v',he,hk⟩:=h3;rw[hz _ _ he];exact hk
   |skip=>simp only[Oper.uponIn]at h3 ⊢;obtain⟨v',he,hk⟩:=h3;rw[hz _ _ he];exact hk
   |defer d=>
    simp only[Oper.uponIn]at h3;obtain⟨v',he,hk⟩:=h3;have h4:=congrArg (λb:Act=>b.defers.length) he;simp only[put_defers,List.length_cons]at h4;omega
   |enter f args=>
    simp only[Oper.uponIn]at h3 ⊢;refine⟨h3.1,h3.2.mono λe w'' he=> ?_⟩;cases e with
    |returned v=>obtain⟨v',he',hk⟩:=he;simp only;rw[hz _ _ he'];exact hk
    |panicked c=>exact he
    |outgrown=>obtain⟨_,_,hx⟩:=he;exact hx.elim
   |round l f t as b=>
    simp only[Oper.uponIn]at h3 ⊢;refine⟨h3.1,h3.2.mono λe w'' he=> ?_⟩;cases e with
    |returned v=>obtain⟨v',he',hk⟩:=he;simp only;rw[hz _ _ he'];exact hk
    |panicked c=>exact he
    |outgrown=>obtain⟨_,_,hx⟩:=he;exact hx.elim
   |row r args=>
    simp only[Oper.uponIn]at h3 ⊢;refine⟨h3.1,RowsIn.mono h3.2 λv w'' he=> ?_⟩;obtain⟨v',he',hk⟩:=he;rw[hz _ _ he'];exact hk
   |_=>simp only[Oper.uponIn]at h3
  |halt x w'=>cases x<;>simp only[Oper.uponIn]at h3 ⊢ <;>exact h3
 ·exact .inr ⟨hw,h⟩
def akx(ops:Array Oper)(sO:Nat→Nat→Bool):Prop:=∀i j x y,i<j→ops[i]?=some x→ops[j]?=some y→sO j i=false→Oper.apart ops x y=true∧Oper.apart ops y x=true
def af6(ops:Array Oper)(sO:Nat→Nat→Bool):Prop:=∀j i,sO j i=true→∃o,ops[j]?=some o∧∃e∈o.after,Region.binds .any e=true∧e.on<j∧(e.on=i∨sO e.on i=true)
def M0(ops:Array Oper)(listed:Array Bool):Prop:=listed.size=ops.size∧∀j o,ops[j]?=some o→listed.getD j false=true→∀e∈o.after,Region.binds .any e=true→listed.getD e.on false=true
def QF{sO:Nat→Nat→Bool}(ha:af6 ops sO){listed:Array Bool}(hc:M0 ops listed):∀(n j i:Nat),j≤n→(∀o,ops[j]?=some o→∀e∈o.after,Region.binds .any e=true→listed.getD e.on false=true)→sO j i=true→listed.getD i false=true
 |0,j,i,hj,hd,h=>by
  obtain⟨o,ho,e,he,hb,hlt,_⟩:=ha j i h;omega
 |n+1,j,i,hj,hd,h=>by
  obtain⟨o,ho,e,he,hb,hlt,hx⟩:=ha j i h;have hl:=hd o ho e he hb;rcases hx with rfl|hx
  ·exact hl
  ·exact QF ha hc n e.on i af (λo' a=>hc.2 e.on o' a hl) hx
def M0.set(hc:M0 ops listed)(hi:i∈Region.ready .any ops listed):M0 ops (listed.setIfInBounds i true):=by
 obtain⟨_,oi,a,b⟩:=mem_ready.1 hi;refine⟨by simp[hc.1],λj oj hj hl e he hb=> ?_⟩
 by_cases hij:i=j
 ·subst hij;have:oj=oi:=Option.some.inj (hj.symm.trans a);subst this;exact getD_set_true (b e he hb)
 ·rw[getD_set_ne false hij]at hl;exact getD_set_true (hc.2 j oj hj hl e he hb)
def IJ(hi:i∈Region.ready .any ops listed):i<ops.size:=by
 obtain⟨_,oi,a,_⟩:=mem_ready.1 hi;exact(Bf.1 a).1
def abI(hij:i≠j)(hj:j∈Region.ready .any ops listed):j∈Region.ready .any ops (listed.setIfInBounds i true):=by
 obtain⟨h1,o,ho,h2⟩:=mem_ready.1 hj;exact mem_ready.2 ⟨by rw[getD_set_ne true hij];exact h1,o,ho,λe he hb=>getD_set_true (h2 e he hb)⟩
def OT(hc:M0 ops listed)(hi:i<ops.size)(h:listed.getD i true=false):listed.getD i false=false:=by
 have hlt:i<listed.size:=by rw[hc.1];exact hi
 simp[hlt]at h ⊢;exact h
def aky{sO:Nat→Nat→Bool}(hap:akx ops sO)(ha:af6 ops sO):∀(f:Nat) (listed:Array Bool) (h:Nat→ap) (a:Act) (w:World) (i:Nat) (o:Oper) (v:Value) (S:ap),
  M0 ops listed→(∀k,listed.getD k false=false→h k=λ_=>True)→i∈Region.ready .any ops listed→ops[i]?=some o→still P o=true→S w→(∀w',S w'→Fy P ops o a w' v)→
  wpH P ops sO q Q f (listed.setIfInBounds i true) (Tl h i S) (a.put o.dst v) w→wpH P ops sO q Q (f+1) listed h a w
 |f,listed,h,a,w,i,o,v,S,hc,hh,hi,ho,hst,hS,hv,hK=>by
  refine⟨λhr=>(by rw[hr]at hi;cases hi),λj hj oj e=> ?_⟩
  by_cases hij:i=j
  ·subst hij;have:oj=o:=Option.some.inj (e.symm.trans ho);subst this;exact⟨λ_=>⟨v,S,hS,hv,hK⟩,λh'=>by rw[hst]at h';cases h'⟩
  ·have l:=abI hij hj;have m:=abI (Ne.symm hij) hi;obtain⟨x,_,_,I⟩:=mem_ready.1 hi;obtain⟨y,_,_,J⟩:=mem_ready.1 hj;have hin:=OT hc (IJ hi) x;have n:=OT hc (IJ hj) y;have z:sO i j=false:=by
    cases hx:sO i j with
    |false=>rfl
    |true=>
     have:=QF ha hc i i j (iw _) (λo' A=>(mem_ready.1 hi).2.elim λB c=>by
      have:o'=B:=Option.some.inj (A.symm.trans c.1);subst this;exact c.2) hx
     rw[n]at this;cases this
   have p:sO j i=false:=by
    cases hx:sO j i with
    |false=>rfl
    |true=>
     have:=QF ha hc j j i (iw _) (λo' A=>(mem_ready.1 hj).2.elim λB c=>by
      have:o'=B:=Option.some.inj (A.symm.trans c.1);subst this;exact c.2) hx
     rw[hin]at this;cases this
   have hapart:Oper.apart ops o oj=true∧Oper.apart ops oj o=true:=by
    rcases Nat.lt_or_gt_of_ne hij with hlt|hlt
    ·exact hap i j o oj hlt ho e p
    ·exact(hap j i oj o hlt e ho z).symm
   have hsel:=Z0 hst;cases f with
   |zero=>rw[hK.1]at l;cases l
   |succ f=>
    obtain⟨h1,h2⟩:=hK.2 j l oj e;have r:∀u,(a.put o.dst v).put oj.dst u=(a.put oj.dst u).put o.dst v:=λu=>Act.put_comm a v u (Oper.apart_spec hapart.1).2.1;have H:(listed.setIfInBounds i true).setIfInBounds j true=(listed.setIfInBounds j true).setIfInBounds i true:=Array.setIfInBounds_comm _ _ hij;have C:∀T,∀k,(listed.setIfInBounds j true).getD k false=false→Tl h j T k=λ_=>True:=by
     intro T k hk;by_cases b:k=j
     ·subst b;rw[show(listed.setIfInBounds k true).getD k false=true by
        have:k<listed.size:=by rw[hc.1];exact IJ hj
        simp[this]]at hk
      cases hk
     ·unfold Tl;rw[if_neg b];exact hh k (by rwa[getD_set_ne false (Ne.symm b)]at hk)
    refine⟨λhs=> ?_,λhs=> ?_⟩
    ·obtain⟨u,T,hT,hu,d⟩:=h1 hs;have g:=Z0 hs;refine⟨u,T,hT,λw' hw'=>(Va hapart.1 g).1 (hu w' hw'),?_⟩;refine aky hap ha f _ _ _ w i o v S (hc.set hj) (C T) m ho hst hS (λw' hw'=>(Va hapart.2 hsel).2 (hv w' hw')) ?_;rw[r u,H,aou h hij]at d;exact d
    ·obtain⟨g,h2⟩:=h2 hs;refine⟨g,(akw hapart.1 g h2).mono λu w' ⟨s,d⟩=>⟨λk hk=> ?_,?_⟩⟩
     ·by_cases t:k=i
      ·subst t;rw[hh k hin];trivial
      ·have:=s k hk;unfold Tl at this;rwa[if_neg t]at this
     ·have D:S w':=by
       have:=s i p;unfold Tl at this;rwa[if_pos rfl]at this
      have F:∀k,(listed.setIfInBounds j true).getD k false=false→h k=λ_=>True:=by
       intro k hk;by_cases b:k=j
       ·subst b;exact hh k n
       ·exact hh k (by rwa[getD_set_ne false (Ne.symm b)]at hk)
      refine aky hap ha f _ _ _ w' i o v S (hc.set hj) F m ho hst D (λw'' G=>(Va hapart.2 hsel).2 (hv w'' G)) ?_;rw[r u,H]at d;exact d
end
def It(m i k:Nat):(m|||2 ^ i).testBit k=(m.testBit k||decide (i=k)):=by
 rw[Nat.testBit_or,Nat.testBit_two_pow]
def aq6(l:List Edge):∀(s k:Nat),(l.foldl (λs e=>if Region.binds .any e then s|||2 ^ e.on else s) s).testBit k=true↔s.testBit k=true∨∃e∈l,Region.binds .any e=true∧e.on=k:=by
 induction l with
 |nil=>intro s k;simp
 |cons e l ih=>
  intro s k;rw[List.foldl_cons,ih];by_cases hb:Region.binds .any e=true
  ·rw[if_pos hb,It];simp only[Bool.or_eq_true,decide_eq_true_eq,List.mem_cons];constructor
   ·rintro((h|h)|⟨e',h1,h2,h3⟩)
    ·exact .inl h
    ·exact .inr ⟨e,.inl rfl,hb,h⟩
    ·exact .inr ⟨e',.inr h1,h2,h3⟩
   ·rintro(h|⟨e',h1|h1,h2,h3⟩)
    ·exact .inl (.inl h)
    ·subst h1;exact .inl (.inr h3)
    ·exact .inr ⟨e',h1,h2,h3⟩
  ·rw[if_neg hb];simp only[List.mem_cons];constructor
   ·rintro(h|⟨e',h1,h2,h3⟩)
    ·exact .inl h
    ·exact .inr ⟨e',.inr h1,h2,h3⟩
   ·rintro(h|⟨e',h1|h1,h2,h3⟩)
    ·exact .inl h
    ·subst h1;exact absurd h2 hb
    ·exact .inr ⟨e',h1,h2,h3⟩
def WG(o:Oper)(k:Nat):(Gn o).testBit k=true↔∃e∈o.after,Region.binds .any e=true∧e.on=k:=by
 unfold Gn;rw[←Array.foldl_toList,aq6];simp
def aeJ{x:Nat}:(x&&&m==x)=true↔∀k,x.testBit k=true→m.testBit k=true:=by
 rw[beq_iff_eq];constructor
 ·intro h k hk;rw[←h,Nat.testBit_and]at hk;simp only[iY]at hk;exact hk.2
 ·intro h;apply Nat.eq_of_testBit_eq;intro k;rw[Nat.testBit_and];cases hx:x.testBit k
  ·rfl
  ·simp[h k hx]
section
variable{ops:Array Oper}
def LM(ops:Array Oper)(m:Nat)(listed:Array Bool):Prop:=listed.size=ops.size∧∀i d,i<ops.size→listed.getD i d=m.testBit i
def LM.set(h:LM ops m listed)(hi:i<ops.size):LM ops (m|||2 ^ i) (listed.setIfInBounds i true):=by
 refine⟨by simp[h.1],λk d hk=> ?_⟩
 rw[It];by_cases a:i=k
 ·subst a;have:i<listed.size:=by rw[h.1];exact hi
  simp[this]
 ·rw[getD_set_ne d a,h.2 k d hk];simp[a]
def rdy(ops:Array Oper)(m i:Nat)(o:Oper):Prop:=ops[i]?=some o∧(!m.testBit i&&(Gn o&&&m==Gn o))=true
def abK(hb:SQ ops=true)(ho:ops[j]?=some o):∀e∈o.after,Region.binds .any e=true→e.on<j:=by
 intro e he a;have hj:j<ops.size:=(Bf.1 ho).1;unfold SQ at hb;rw[tL]at hb;have h1:=hb j (List.mem_range.2 hj);rw[ho]at h1;simp only[Array.all_eq_true']at h1;have h2:=h1 e he;simpa[a,Nat.blt_eq]using h2
def aq7(hb:SQ ops=true)(h:LM ops m listed):i∈Region.ready .any ops listed↔∃o,rdy ops m i o:=by
 rw[mem_ready];constructor
 ·rintro⟨h1,o,ho,h2⟩;have hi:i<ops.size:=(Bf.1 ho).1;refine⟨o,ho,?_⟩;simp only[iY,Bool.not_eq_true'];refine⟨by rw[←h.2 i true hi];exact h1,aeJ.2 λk hk=> ?_⟩
  obtain⟨e,he,a,rfl⟩:=(WG o k).1 hk;have:=h2 e he a;rwa[h.2 e.on false (by have:=abK hb ho e he a;omega)]at this
 ·rintro⟨o,ho,h1⟩;have hi:i<ops.size:=(Bf.1 ho).1;simp only[iY,Bool.not_eq_true']at h1;refine⟨by rw[h.2 i true hi];exact h1.1,o,ho,λe he a=> ?_⟩
  rw[h.2 e.on false (by have:=abK hb ho e he a;omega)]
  exact aeJ.1 h1.2 e.on ((WG o e.on).2 ⟨e,he,a,rfl⟩)
def OU{m:Nat}:∀{n i0 i:Nat},Cu P ops m n i0=some i→∃o,rdy ops m i o∧still P o=true
 |0,_,_,h=>by simp[Cu]at h
 |n+1,i0,i,h=>by
  unfold Cu at h;split at h
  ·rename_i o ho;split at h
   ·rename_i hc;cases h
    simp only[iY]at hc;exact⟨o,⟨ho,by simp only[iY];exact hc.1⟩,hc.2⟩
   ·exact OU h
  ·cases h
def OV{m:Nat}:∀{n i0:Nat},Cu P ops m n i0=none→∀i o,i0≤i→i<i0+n→rdy ops m i o→still P o=false
 |0,i0,_,i,_,h1,h2,_=>by omega
 |n+1,i0,h,i,o,h1,h2,hr=>by
  unfold Cu at h;split at h
  ·rename_i o0 a;split at h
   ·cases h
   ·rename_i hc;by_cases hi:i=i0
    ·subst hi;have:o=o0:=Option.some.inj (hr.1.symm.trans a);subst this;cases hs:still P o with
     |false=>rfl
     |true=>exact absurd (by simp only[iY];exact⟨gq hr.2,hs⟩) hc
    ·exact OV h i o af af hr
  ·rename_i hn;have hi:i<ops.size:=(Bf.1 hr.1).1;have:ops.size≤i0:=by simpa using hn
   omega
def KV:i∈LD ops m↔∃o,rdy ops m i o:=by
 unfold LD rdy;rw[List.mem_filter,List.mem_range];constructor
 ·rintro⟨_,h⟩;split at h
  ·rename_i o ho;exact⟨o,ho,h⟩
  ·cases h
 ·rintro⟨o,ho,h⟩;exact⟨(Bf.1 ho).1,by rw[ho];exact h⟩
def abL{c:Nat→Prop}:∀{l:List Nat},akk l c→∀i∈l,c i
 |[],_,i,hi=>by cases hi
 |[j],h,i,hi=>by rcases List.mem_cons.1 hi with rfl|hi;exact h;cases hi
 |j::k::l,h,i,hi=>by
  rcases List.mem_cons.1 hi with rfl|hi
  ·exact h.1
  ·exact abL h.2 i hi
def Ke(m n:Nat):Nat:=(List.range n).countP λi=> !m.testBit i
def abM(m n:Nat):Ke m (n+1)=Ke m n+if m.testBit n then 0 else 1:=by
 unfold Ke;rw[List.range_succ,List.countP_append];cases h:m.testBit n<;>simp[h]
def SY{m i:Nat}(hm:m.testBit i=false):∀{n:Nat},(i<n→Ke (m|||2 ^ i) n+1=Ke m n)∧(n≤i→Ke (m|||2 ^ i) n=Ke m n)
 |0=>⟨λh=>by omega,λ_=>rfl⟩
 |n+1=>by
  obtain⟨h1,h2⟩:=SY hm (n:=n);rw[abM,abM,It];constructor
  ·intro h;by_cases hi:i=n
   ·subst hi;have:=h2 (iw _);simp[hm,this]
   ·have:=h1 af;simp only[hi,decide_false,Bool.or_false];omega
  ·intro h;have:=h2 af;have hi:i≠n:=af;simp only[hi,decide_false,Bool.or_false,this]
def HR(hs:List OO)(h:Nat→ap):Prop:=∀k w',(∀x∈hs,x.i=k→MY x.n x.a x.w w')→h k w'
def QG{sO:Nat}:∀{hs:List OO} {w:World} {c:Prop},Wn sO hs w c→c∧∀x∈hs,sO.testBit x.i=false→MY x.n x.a x.w w
 |[],_,_,h=>⟨h,λx hx=>by cases hx⟩
 |y::hs,w,c,h=>by
  unfold Wn at h;split at h
  ·rename_i hb;obtain⟨h1,h2⟩:=QG h;refine⟨h1,λx hx hn=> ?_⟩;rcases List.mem_cons.1 hx with rfl|hx
   ·rw[hb]at hn;cases hn
   ·exact h2 x hx hn
  ·obtain⟨h0,h⟩:=h;obtain⟨h1,h2⟩:=QG h;refine⟨h1,λx hx hn=> ?_⟩;rcases List.mem_cons.1 hx with rfl|hx
   ·exact h0
   ·exact h2 x hx hn
def adV{hs:List OO}{c:Env→List OO→Prop}(hs0:Sub e a)(hf:Fits o a)(hop:o.op= .load t x)
  (h:Qv P ops i o t x e w hs c):
  ∃e' hs' v S,c e' hs'∧Sub e' (a.put o.dst v)∧S w∧(∀w',S w'→Fy P ops o a w' v)∧(hs'=hs∧(S=λ_=>True)∨∃n p,hs'=⟨i,n,p,w⟩::hs∧(S=λw'=>MY n p w w')):=by
 have key:∀(e:Env),Sub e a→Region.wanted o (yielded ops a.tmps)=true→(JW P t (e.op x) w λv=>c (e.Wh o.dst v) (afW P i t (e.op x) w hs))→
   ∃e' hs' v S,c e' hs'∧Sub e' (a.put o.dst v)∧S w∧(∀w',S w'→Fy P ops o a w' v)∧(hs'=hs∧(S=λ_=>True)∨∃n p,hs'=⟨i,n,p,w⟩::hs∧(S=λw'=>MY n p w w')):=by
  intro e hs1 hw h;obtain⟨p,u,hp,hc,hr⟩:=ZV (qi hs1) hop h;rw[hp]at hc;exact⟨_,_,u,λw'=>MY (MR P t) p w w',hc,zo hs1 hf,λ_ _=>rfl,λw' hw'=> .inl ⟨hw,hr w' hw'⟩,.inr ⟨_,_,rfl,rfl⟩⟩
 unfold Qv at h;split at h
 ·rename_i hg;exact key e hs0 (AP hg _) h
 ·split at h
  ·exact h.elim
  ·rename_i g want b;have hw:=QC (a:=a) b;rcases IU hs0 h with⟨e',hs',d,h⟩|⟨e',hs',d,h⟩
   ·exact key _ hs' (by rw[hw,d]) h
   ·exact⟨_,hs,undef,λ_=>True,h,zo hs' hf,trivial,λw' _=> .inr ⟨by rw[hw,d],rfl⟩,.inl ⟨rfl,rfl⟩⟩
def amO{hs hs':List OO}{h:Nat→ap}{S:ap}(hr:HR hs h)
  (hx:hs'=hs∧(S=λ_=>True)∨∃n p,hs'=⟨i,n,p,w⟩::hs∧(S=λw'=>MY n p w w')):HR hs' (Tl h i S):=by
 intro k w' a;unfold Tl;split
 ·rename_i hk;rcases hx with⟨_,rfl⟩|⟨n,p,rfl,rfl⟩
  ·trivial
  ·exact a _ List.mem_cons_self hk.symm
 ·rcases hx with⟨rfl,_⟩|⟨n,p,rfl,_⟩
  ·exact hr k w' a
  ·exact hr k w' λx hx he=>a x (List.mem_cons_of_mem _ hx) he
def Yw{bY:ey}{sO:Array Nat}(ho:tK P bY q)(hb:SQ ops=true)(hap:akx ops λj i=>(sO.getD j 0).testBit i)(r:af6 ops λj i=>(sO.getD j 0).testBit i)
  (hsel:∀o∈ops,∀cs b,o.op≠ .select cs b):
  ∀(fuel m:Nat) (hs:List OO) (e:Env) (w:World) (a:Act) (listed:Array Bool) (h:Nat→ap) (c:Env→ap),LM ops m listed→M0 ops listed→(∀k,listed.getD k false=false→h k=λ_=>True)→HR hs h→
  SX a.tmps.size ops=true→Sub e a→JY P bY ops sO fuel m hs e w c→(∀e' w' a',c e' w'→Sub e' a'→o8 (WE ops) a a'→Q .normal a' w')→
  wpH P ops (λj i=>(sO.getD j 0).testBit i) q Q (Ke m ops.size) listed h a w
 |0,_,_,_,_,_,_,_,_,_,_,_,_,_,_,h,_=>h.elim
 |fuel+1,m,hs,e,w,a,listed,hh,c,p,G,hun,hr,hf,hs0,h,hQ=>by
  unfold JY at h;have g:∀i,i∈Region.ready .any ops listed↔∃o,rdy ops m i o:=λi=>aq7 hb p;split at h
  ·rename_i i s;obtain⟨o,hrd,hst⟩:=OU s;have d:=(g i).2 ⟨o,hrd⟩;have hi:=IJ d;have hmo:o∈ops:=Array.mem_of_getElem? hrd.1;have u:m.testBit i=false:=by have:=hrd.2;simp only[iY,Bool.not_eq_true']at this;exact this.1
   rw[hrd.1]at h;simp only at h;have C:=(SY u).1 hi;rw[←C];have z:∀S,∀k,(listed.setIfInBounds i true).getD k false=false→Tl hh i S k=λ_=>True:=by
    intro S k hk;by_cases n:k=i
    ·subst n;have:k<listed.size:=by rw[p.1];exact hi
     simp[this]at hk
    ·unfold Tl;rw[if_neg n];exact hun k (by rwa[getD_set_ne false (Ne.symm n)]at hk)
   have fin:∀e' hs' v S,(lP e' λe=>JY P bY ops sO fuel (m|||2 ^ i) hs' e w c)→Sub e' (a.put o.dst v)→S w→(∀w',S w'→Fy P ops o a w' v)→HR hs' (Tl hh i S)→
     wpH P ops (λj i=>(sO.getD j 0).testBit i) q Q (Ke (m|||2 ^ i) ops.size+1) listed hh a w:=by
    intro e' hs' v S hd hs1 hS hv hr';rw[kU]at hd;refine aky hap r _ listed hh a w i o v S G hun d hrd.1 hst hS hv<|Yw ho hb hap r hsel fuel _ hs' e' w _ _ _ c (p.set hi) (G.set d) (z S) hr' (by rw[FA];exact hf) hs1 hd λe2 w2 a2 h1 h2 h3=>
     hQ e2 w2 a2 h1 h2 ((o8.put λx hx=>II hmo hx).trans h3)
   split at h
   ·rename_i t x hl;have hop:o.op= .load t x:=by unfold JX at hl;split at hl<;>simp_all
    obtain⟨e',hs',v,S,hc,hs1,hS,hv,hx⟩:=adV hs0 (Kc hf hmo) hop h;exact fin e' hs' v S hc hs1 hS hv (amO hr hx)
   ·rename_i hl;have H:U2 P o.op=true:=by
     unfold still at hst;rw[hl]at hst;simpa using hst
    obtain⟨e',v,hc,hs1,hv⟩:=aot hs0 (Kc hf hmo) H h;exact fin e' hs v (λ_=>True) hc hs1 trivial (λw' _=>hv w') (amO (w:=w) hr (.inl ⟨rfl,rfl⟩))
  ·rename_i s;have I:∀i o,rdy ops m i o→still P o=false:=λi o hrd=>
    OV s i o (Nat.zero_le _) (by have:=(Bf.1 hrd.1).1;omega) hrd
   split at h
   ·rename_i hnil;split at h
    ·rename_i J;rw[tL]at J;have D:Region.ready .any ops listed=[]:=by
      cases A:Region.ready .any ops listed with
      |nil=>rfl
      |cons i l=>
       have hi:i∈Region.ready .any ops listed:=by rw[A];exact List.mem_cons_self
       have:=KV.2 ((g i).1 hi);rw[hnil]at this;cases this
     have hq:=hQ e w a h hs0 (.refl _ _);cases K:Ke m ops.size with
     |zero=>exact⟨D,hq⟩
     |succ f=>exact⟨λ_=>hq,λi hi=>by rw[D]at hi;cases hi⟩
    ·exact h.elim
   ·rename_i l hne;have J:=abL h;have hex:∃i,i∈LD ops m:=by
     cases A:LD ops m with
     |nil=>exact absurd A hne
     |cons i l=>exact⟨i,List.mem_cons_self⟩
    obtain⟨i0,R⟩:=hex;obtain⟨o0,B⟩:=KV.1 R;have L:=IJ ((g i0).2 ⟨o0,B⟩);have hm0:m.testBit i0=false:=by have:=B.2;simp only[iY,Bool.not_eq_true']at this;exact this.1
    have hpos:=(SY hm0).1 L;cases K:Ke m ops.size with
    |zero=>omega
    |succ f=>
     refine⟨λhr'=> ?_,λi d o F=>⟨λhst=> ?_,λ_=> ?_⟩⟩
     ·have:=(g i0).2 ⟨o0,B⟩;rw[hr']at this;cases this
     ·obtain⟨o',hrd⟩:=(g i).1 d;have:o=o':=Option.some.inj (F.symm.trans hrd.1);subst this;rw[I i o hrd]at hst;cases hst
     ·obtain⟨o',hrd⟩:=(g i).1 d;have:o=o':=Option.some.inj (F.symm.trans hrd.1);subst this;have hi:=IJ d;have hmo:o∈ops:=Array.mem_of_getElem? hrd.1;have u:m.testBit i=false:=by have:=hrd.2;simp only[iY,Bool.not_eq_true']at this;exact this.1
      have C:=(SY u).1 hi;have M:f=Ke (m|||2 ^ i) ops.size:=af;have hst:=J i (KV.2 ⟨o,hrd⟩);rw[hrd.1]at hst;simp only at hst;refine⟨hsel o hmo,(aeG hs0 (Kc hf hmo) ho hst).mono λv w' hx=> ?_⟩;obtain⟨e',hx,hs1⟩:=hx;obtain⟨hx,N⟩:=QG hx;rw[kU]at hx;refine⟨λk hk=>hr k w' λy hy O=>N y hy (by rw[O];exact hk),?_⟩
      rw[M];have z:∀k,(listed.setIfInBounds i true).getD k false=false→hh k=λ_=>True:=by
       intro k hk;by_cases n:k=i
       ·subst n;have:k<listed.size:=by rw[p.1];exact hi
        simp[this]at hk
       ·exact hun k (by rwa[getD_set_ne false (Ne.symm n)]at hk)
      exact Yw ho hb hap r hsel fuel _ hs e' w' _ _ _ c (p.set hi) (G.set d) z hr (by rw[FA];exact hf) hs1 hx λe2 w2 a2 h1 h2 h3=>
       hQ e2 w2 a2 h1 h2 ((o8.put λx hx=>II hmo hx).trans h3)
end
variable{fn:Func}{mask:Nat}
section
variable{ops:Array Oper}
def adW(h:noSelect ops=true):∀o∈ops,∀cs b,o.op≠ .select cs b:=by
 intro o ho cs b hb;unfold noSelect at h;rw[tL]at h;have:=h o (gq ho)
 simp[hb]at this
def agb{sO:Array Nat}(h:abr ops sO=true):akx ops λj i=>(sO.getD j 0).testBit i:=by
 intro i j x y hij hx hy ha;have hj:j<ops.size:=(Bf.1 hy).1;unfold abr at h;rw[tL]at h;have h1:=h j (List.mem_range.2 hj);rw[tL]at h1;have h2:=h1 i (List.mem_range.2 hij);simp only[ha,Bool.false_or,hx,hy,iY]at h2;exact h2
def ara(acc:Array Nat)(l:List Edge):∀(s k:Nat),(l.foldl (λs e=>if Region.binds .any e then s|||2 ^ e.on|||acc.getD e.on 0 else s) s).testBit k=true→s.testBit k=true∨∃e∈l,Region.binds .any e=true∧(e.on=k∨(acc.getD e.on 0).testBit k=true):=by
 induction l with
 |nil=>intro s k h;exact .inl h
 |cons e l ih=>
  intro s k h;rw[List.foldl_cons]at h;rcases ih _ k h with h|⟨e',h1,h2,h3⟩
  ·split at h
   ·rename_i hb;rw[Nat.testBit_or,It]at h;simp only[Bool.or_eq_true,decide_eq_true_eq]at h;rcases h with(h|h)|h
    ·exact .inl h
    ·exact .inr ⟨e,List.mem_cons_self,hb,.inl h⟩
    ·exact .inr ⟨e,List.mem_cons_self,hb,.inr h⟩
   ·exact .inl h
  ·exact .inr ⟨e',List.mem_cons_of_mem _ h1,h2,h3⟩
def abN(ops:Array Oper)(acc:Array Nat):Prop:=∀j i,(acc.getD j 0).testBit i=true→∃o,ops[j]?=some o∧∃e∈o.after,Region.binds .any e=true∧(e.on=i∨(acc.getD e.on 0).testBit i=true)
def abO:∀(l:List Oper) (acc:Array Nat),(∀k,l[k]?=ops[acc.size+k]?)→abN ops acc→abN ops (amF l acc)
 |[],acc,_,h=>h
 |o::l,acc,hl,h=>by
  unfold amF;have h0:ops[acc.size]?=some o:=by have:=hl 0;simpa using this.symm
  refine abO l _ (λk=>by have:=hl (k+1);simp at this ⊢;rw[this];congr 1;omega) ?_
  intro j i a;have b:∀x,(acc.getD x 0).testBit i=true→((acc.push (akl acc o)).getD x 0).testBit i=true:=by
   intro x hx;by_cases hlt:x<acc.size
   ·simp[Array.getElem?_push,hlt]at hx ⊢;rw[if_neg af];simpa[hlt]using hx
   ·simp[Array.getElem?_eq_none (Nat.le_of_not_lt hlt)]at hx
  by_cases hj:j=acc.size
  ·subst hj;simp at a;unfold akl at a;rw[←Array.foldl_toList]at a;rcases ara acc _ 0 i a with hz|⟨e,h1,h2,h3⟩
   ·simp at hz
   ·exact⟨o,h0,e,gq h1,h2,h3.imp id (b _)⟩
  ·have c:(acc.getD j 0).testBit i=true:=by
    simp[Array.getElem?_push,hj]at a ⊢;exact a
   obtain⟨o',d,e,h1,h2,h3⟩:=h j i c;exact⟨o',d,e,h1,h2,h3.imp id (b _)⟩
def arc(hb:SQ ops=true):af6 ops λj i=>((aeA ops).getD j 0).testBit i:=by
 intro j i h;have hg:abN ops (aeA ops):=abO ops.toList #[] bf (by intro j i h;simp at h)
 obtain⟨o,ho,e,h1,h2,h3⟩:=hg j i h;exact⟨o,ho,e,h1,h2,abK hb ho e h1 h2,h3⟩
def OW(n i:Nat)(d:Bool)(h:i<n):(Array.replicate n false).getD i d=false:=by simp[h]
def agc{id:Nat}{c:Env→ap}(hm:P.follows .mixedOrders=true)(ho:tK P bY q)(hq:∀ch a' w',o8 (WE ops) a a'→q ch w'→Q (.panic ch) a' w')(hd:afX ops=true)
  (hf:SX a.tmps.size ops=true) (hs:Sub e a) (h:JY P bY ops (aeA ops) (ops.size+1) 0 [] e w.drew c) (hQ:∀e' w' a',c e' w'→Sub e' a'→o8 (WE ops) a a'→Q .normal a' w'):
  (Code.region id ops true).wpIn (uW ro) n P Q a w:=by
 unfold afX at hd;simp only[iY]at hd;obtain⟨⟨hb,hp⟩,hn⟩:=hd;refine wpIn_region_any hm (QE (sO:=λj i=>((aeA ops).getD j 0).testBit i) _ _ (λ_ _=>True) _ _ hq ?_);have b:Ke 0 ops.size=ops.size:=by
  unfold Ke;rw[List.countP_eq_length.2 bf];simp
 have:=Yw ho hb (agb hp) (arc hb) (adW hn) (ops.size+1) 0 [] e w.drew a (Array.replicate ops.size false) (λ_ _=>True) c
  ⟨bf,λi d hi=>by rw[OW _ _ _ hi];simp⟩ ⟨bf,λj o hj hl=>by
   rw[OW _ _ _ (Bf.1 hj).1]at hl;cases hl⟩ (λ_ _=>rfl) (λ_ _ _=>trivial) hf hs h hQ
 rw[b]at this;exact this
def ard:Ex→Exit
 | .normal=> .normal
 | .exit id=> .exit id
 | .ret=> .ret
def rQ{a:Act}:∀{ks:List (Nat×K)} {e:Env} {c:HT ks→Prop},Sub e a→uo ks e c→∃x,c x∧Sub (Be ks x) a
 |[],e,c,_,h=>⟨(),h,λp hp=>by cases hp⟩
 |[(s,k)],e,c,hs,h=>by
  unfold uo at h;split at h
  ·rename_i v hv;obtain⟨x,rfl,hc⟩:=Wx h;refine⟨x,hc,λp hp=> ?_⟩;rcases List.mem_cons.1 hp with rfl|hp
   ·exact hs _ (Dc hv)
   ·cases hp
  ·exact h.elim
 |(s,k)::(y::r),e,c,hs,h=>by
  unfold uo at h;split at h
  ·rename_i v hv;obtain⟨x,rfl,h'⟩:=Wx h;obtain⟨xs,hc,hxs⟩:=rQ hs h';refine⟨(x,xs),hc,λp hp=> ?_⟩;rcases List.mem_cons.1 hp with rfl|hp
   ·exact hs _ (Dc hv)
   ·exact hxs _ hp
  ·exact h.elim
def are(h:Sub e a):Sub (e.keep m) a:=λp hp=>h p (List.mem_filter.1 hp).1
def agd{a':Act}{c:AC}(h:Sub e a)(hk:o8 c.writes a a'):Sub (e.unw c) a':=by
 intro p hp;unfold Env.unw at hp;rw[List.mem_filter]at hp;obtain⟨hp,hc⟩:=hp;obtain⟨s,x⟩:=p;simp only[iY,Bool.not_eq_true']at hc;have h0:=h _ hp;cases x with
 |val v=>show _=_;rw[hk.2.2 s hc.1];exact h0
 |gd g want v=>exact absurd hc.2 bf
def Cz{e':Env}(h:Sub e a)(h':Sub e' a):Sub (e++e') a:=λp hp=>(zw.1 hp).elim (h p) (h' p)
def ah8(hs:Sub e a)(h:e.op x=some (.bool b)):a.eval x= .bool b:=qi hs _ _ h
def Gr{F:Fence}{c:Code}(h:c.wpIn F n P (Exit.noGoto Q) a w):(Code.scope c).wpIn F n P Q a w:=by
 intro b k cs hro hb hr;have h0:(lone (b.atR a (.code (.scope c)::k)) cs w).fenced P F:=fenced_calm hb hr rfl;obtain⟨e,a₁,w₁,hq,d⟩:=h b (.inScope c::k) cs hro hb hr;have hstep:step P (lone (b.atR a (.code (.scope c)::k)) cs w)= .next (lone (b.atR a (.code c:: .inScope c::k)) cs w):=step_lone_go (by simp[stepG,stepG.exec,Frame.atR])
 cases e with
 |normal=>exact⟨.normal,a₁,w₁,hq,.head h0 hstep (StepsIn.trans d (.one (fenced_calm hb hr rfl) (step_lone_go (by simp[stepG,stepG.exec,Frame.atR]))))⟩
 |exit id=>
  have hx:exitTo id (.inScope c::k)=exitTo id k:=by simp[exitTo]
  exact⟨.exit id,a₁,w₁,hq,λk' hk=> .head h0 hstep (d.1 k' (by rw[hx];exact hk)),
   λhr' hk=>let ⟨k₁,h1,h2⟩:=d.2 hr' (by rw[hx];exact hk);⟨k₁,h1,.head h0 hstep h2⟩⟩
 |goto l=>exact hq.elim
 |ret=>exact⟨_,a₁,w₁,hq,.of_steps (.one h0 hstep) d⟩
 |panic ch=>exact⟨_,a₁,w₁,hq,.of_steps (.one h0 hstep) d⟩
 |outgrown=>exact⟨_,a₁,w₁,hq,.of_steps (.one h0 hstep) d⟩
def rE{bY:ey}{mask:Nat}{ro:Option Nat}{n0:Nat}(hm:P.follows .mixedOrders=true)(ho:tK P bY q):∀(c:AC) (e:Env) (w:World) (a:Act) (k:Ex→Env→ap) (Q:Exit→Act→ap),(∀ch a' w',o8 c.writes a a'→q ch w'→Q (.panic ch) a' w')→
  Sub e a→c.fits a.tmps.size=true→ev P bY mask c e w k→(∀x e' w' a',k x e' w'→Sub e' a'→o8 c.writes a a'→Q (ard x) a' w')→c.code.wpIn (uW ro) n0 P Q a w
 | .skip,e,w,a,k,Q,hq,hs,_,h,hQ=>wpIn_skip (hQ .normal e w a h hs (.refl _ _))
 | .label l,e,w,a,k,Q,hq,hs,_,h,hQ=>wpIn_label (hQ .normal e w a h hs (.refl _ _))
 | .exit id,e,w,a,k,Q,hq,hs,_,h,hQ=>wpIn_exit (hQ (.exit id) e w a h hs (.refl _ _))
 | .ret,e,w,a,k,Q,hq,hs,_,h,hQ=>wpIn_ret (hQ .ret e w a h hs (.refl _ _))
 | .bad c,e,w,a,k,Q,hq,_,_,h,_=>h.elim
 | .scope x,e,w,a,k,Q,hq,hs,hf,h,hQ=>by
  refine Gr (rE hm ho x e w a k _ (by exact λ_ _ _ hd h=>hq _ _ _ (by first|exact hd|exact hkp.trans hd|exact hd.mono λs d=>(by simp only[AC.writes,kf]at d;first|exact d.1|exact d.2)|exact f.trans (hd.mono λs d=>(by simp only[AC.writes,kf]at d;first|exact d.1|exact d.2))) h) hs hf h λz e' w' a' h1 h2 h3=> ?_)
  cases z<;>exact hQ _ e' w' a' h1 h2 h3
 | .region id ops draw,e,w,a,k,Q,hq,hs,hf,h,hQ=>by
  unfold ev at h;have g:SX a.tmps.size ops=true:=hf;have fin:∀e' w' a',(lP (e'.keep mask) λe=>k .normal e w')→Sub e' a'→o8 (WE ops) a a'→Q .normal a' w':=by
   intro e' w' a' h1 h2 h3;rw[kU]at h1;exact hQ .normal _ w' a' h1 (are h2) h3
  cases draw with
  |true=>
   simp only[if_true]at h;split at h
   ·rename_i hd;exact agc hm ho hq hd g hs h fin
   ·exact h.elim
  |false=>
   simp only[Bool.false_eq_true,if_false]at h;exact wpIn_region_list (aeH ho ops.toList e w a _ hq (λo h=>gq h) g hs h fin)
 | .seq x y,e,w,a,k,Q,hq,hs,hf,h,hQ=>by
  unfold ev at h;simp only[AC.fits,iY]at hf;refine wpIn_seq (rE hm ho x e w a _ _ (by exact λ_ _ _ hd h=>hq _ _ _ (by first|exact hd|exact hkp.trans hd|exact hd.mono λs d=>(by simp only[AC.writes,kf]at d;first|exact d.1|exact d.2)|exact f.trans (hd.mono λs d=>(by simp only[AC.writes,kf]at d;first|exact d.1|exact d.2))) h) hs hf.1 h λz e' w' a' hk hs' hkp=> ?_)
  have f:o8 (AC.seq x y).writes a a':=hkp.mono λs d=>by simp only[AC.writes,kf]at d;exact d.1
  cases z with
  |normal=>
   refine rE hm ho y e' w' a' k Q (by exact λ_ _ _ hd h=>hq _ _ _ (by first|exact hd|exact hkp.trans hd|exact hd.mono λs d=>(by simp only[AC.writes,kf]at d;first|exact d.1|exact d.2)|exact f.trans (hd.mono λs d=>(by simp only[AC.writes,kf]at d;first|exact d.1|exact d.2))) h) hs' (by rw[hkp.1];exact hf.2) hk λz m w'' a'' h1 h2 h3=>hQ z m w'' a'' h1 h2 (f.trans (h3.mono λs d=> ?_))
   simp only[AC.writes,kf]at d;exact d.2
  |exit id=>exact hQ (.exit id) e' w' a' hk hs' f
  |ret=>exact hQ .ret e' w' a' hk hs' f
 | .cond c x y,e,w,a,k,Q,hq,hs,hf,h,hQ=>by
  unfold ev at h;simp only[AC.fits,iY]at hf;split at h
  ·rename_i t ht;refine wpIn_cond (ah8 hs ht) ?_;cases t
   ·exact rE hm ho y e w a k Q (by exact λ_ _ _ hd h=>hq _ _ _ (by first|exact hd|exact hkp.trans hd|exact hd.mono λs d=>(by simp only[AC.writes,kf]at d;first|exact d.1|exact d.2)|exact f.trans (hd.mono λs d=>(by simp only[AC.writes,kf]at d;first|exact d.1|exact d.2))) h) hs hf.2 h λz e' w' a' h1 h2 h3=>hQ z e' w' a' h1 h2 (h3.mono λs d=>by simp only[AC.writes,kf]at d;exact d.2)
   ·exact rE hm ho x e w a k Q (by exact λ_ _ _ hd h=>hq _ _ _ (by first|exact hd|exact hkp.trans hd|exact hd.mono λs d=>(by simp only[AC.writes,kf]at d;first|exact d.1|exact d.2)|exact f.trans (hd.mono λs d=>(by simp only[AC.writes,kf]at d;first|exact d.1|exact d.2))) h) hs hf.1 h λz e' w' a' h1 h2 h3=>hQ z e' w' a' h1 h2 (h3.mono λs d=>by simp only[AC.writes,kf]at d;exact d.1)
  ·exact h.elim
 | .block id x,e,w,a,k,Q,hq,hs,hf,h,hQ=>by
  unfold ev at h;refine wpIn_block (rE hm ho x e w a _ _ (by exact λ_ _ _ hd h=>hq _ _ _ (by first|exact hd|exact hkp.trans hd|exact hd.mono λs d=>(by simp only[AC.writes,kf]at d;first|exact d.1|exact d.2)|exact f.trans (hd.mono λs d=>(by simp only[AC.writes,kf]at d;first|exact d.1|exact d.2))) h) hs hf h λz e' w' a' hk hs' hkp=> ?_)
  cases z with
  |normal=>exact hQ .normal e' w' a' hk hs' hkp
  |ret=>exact hQ .ret e' w' a' hk hs' hkp
  |exit i=>
   simp only at hk;show(if i=id then Q .normal a' w' else Q (.exit i) a' w')
   split at hk
   ·rename_i hb;rw[if_pos (beq_eq hb)];exact hQ .normal e' w' a' hk hs' hkp
   ·rename_i hb;have hb':i≠id:=by simpa using hb
    rw[if_neg hb'];exact hQ (.exit i) e' w' a' hk hs' hkp
 | .join ks x,e,w,a,k,Q,hq,hs,hf,h,hQ=>by
  unfold ev cz at h;refine rE hm ho x e w a _ Q (by exact λ_ _ _ hd h=>hq _ _ _ (by first|exact hd|exact hkp.trans hd|exact hd.mono λs d=>(by simp only[AC.writes,kf]at d;first|exact d.1|exact d.2)|exact f.trans (hd.mono λs d=>(by simp only[AC.writes,kf]at d;first|exact d.1|exact d.2))) h) hs hf h λz e' w' a' hk hs' hkp=> ?_
  cases z with
  |normal=>
   obtain⟨y,hy,j⟩:=rQ hs' hk;rw[kU]at hy;exact hQ .normal _ w' a' hy (Cz j (agd hs hkp)) hkp
  |exit id=>exact hQ (.exit id) e' w' a' hk hs' hkp
  |ret=>exact hQ .ret e' w' a' hk hs' hkp
 | .loop ks x,e,w,a,k,Q,hq,hs,hf,h,hQ=>by
  unfold ev at h;obtain⟨y,hy,j⟩:=rQ hs h;obtain⟨n,hn⟩:=hy;refine wpIn_loop_rounds n ?_;have key:∀n y w b,jV (λC y w=>lP (Be ks y++e.unw x) λe=>ev P bY mask x e w λz e w=>match z with| .normal=>uo ks e λy=>C y w|z=>k z e w) n y w→
    Sub (Be ks y) b→o8 x.writes a b→Code.roundsIn (uW ro) n0 P x.code Q n b w:=by
   intro n;induction n with
   |zero=>intro y w b h;exact h.elim
   |succ n ih=>
    intro y w b h j hkp;unfold jV at h;rw[kU]at h;rw[roundsIn_succ];refine rE hm ho x _ w b _ _ (by exact λ_ _ _ hd h=>hq _ _ _ (by first|exact hd|exact hkp.trans hd|exact hd.mono λs d=>(by simp only[AC.writes,kf]at d;first|exact d.1|exact d.2)|exact f.trans (hd.mono λs d=>(by simp only[AC.writes,kf]at d;first|exact d.1|exact d.2))) h) (Cz j (agd hs hkp)) (by rw[hkp.1];exact hf) h λz e' w' a' hk hs' f=> ?_
    cases z with
    |normal=>
     obtain⟨y',hy',p⟩:=rQ hs' hk;exact ih y' w' a' hy' p (hkp.trans f)
    |exit id=>exact hQ (.exit id) e' w' a' hk hs' (hkp.trans f)
    |ret=>exact hQ .ret e' w' a' hk hs' (hkp.trans f)
  exact key n y w a hn j (.refl _ _)
def uY(P:Program)(f:FuncId)(d:bt):Prop:=
 (∃fn,P.funcs[f]?=some fn∧fn.body.isSome=true∧(fn.name== "runtime.NumGoroutine")=false)∧
 ∀(args:Array Value) w c,d args.toList w c→Calls P f args w fun e w'=> ∃v,e= .returned v∧c v w'
def FB(P:Program):List (Nat×bt)→Prop
 |[]=>True
 |(n,d)::l=>uY P n d∧FB P l
def LI:∀{l:List (Nat×bt)} {f:FuncId} {args:Array Value} {w:World} {c:Value→ap},FB P l→abu l f args.toList w c→
  (∃fn,P.funcs[f]?=some fn∧fn.body.isSome=true∧(fn.name== "runtime.NumGoroutine")=false)∧Calls P f args w fun e w'=> ∃v,e= .returned v∧c v w'
 |[],_,_,_,_,_,h=>h.elim
 |(n,d)::l,f,args,w,c,hl,h=>by
  unfold abu at h;split at h
  ·rename_i hb;have:=beq_eq hb;subst this;exact⟨hl.1.1,hl.1.2 args w c h⟩
  ·exact LI hl.2 h
def Calls.arf{c:Value→ap}(h:Calls P f args w λe w'=> ∃v,e= .returned v∧c v w'):Calls P f args w (ZW c q):=
 h.mono λe w' he=>by obtain⟨v,rfl,hv⟩:=he;exact hv
def M3{l:List (Nat×bt)}(hl:FB P l):tK P (kC l) q:=λfn args w c h=>by
 cases fn with
 |func f=>exact .inl ⟨(LI hl h).1,Calls.arf (LI hl h).2⟩
 |_=>exact h.elim
def ah9{c:Value→ap}(h:YieldAt Fence.wide 0 P n args w λe w'=> ∃v,e= .returned v∧c v w'):YieldAt Fence.wide 0 P n args w (ZW c q):=by
 obtain⟨fn,t,as,b,h1,h2⟩:=h;exact⟨fn,t,as,b,h1,h2.mono λe w' he=>by obtain⟨v,rfl,hv⟩:=he;exact hv⟩
def WI{l:List (Nat×bt)}{Y:Nat→bt}(hl:FB P l)(a:∀n (args:Array Value) w c,Y n args.toList w c→YieldAt Fence.wide 0 P n args w λe w'=> ∃v,e= .returned v∧c v w'):tK P (J0 l Y) q:=λfn args w c h=>by
 cases fn with
 |func f=>exact .inl ⟨(LI hl h).1,Calls.arf (LI hl h).2⟩
 |yield n=>exact ah9 (a n args w c h)
 |_=>exact h.elim
abbrev abP:=List Value→World→(Value→ap)→(Value→ap)→Prop
def amR(q:Value→ap):U7:=λch w=> ∃v,ch=[{v:=v,recovered:=false}]∧q v w
def amS(P:Program)(f:FuncId)(d:abP):Prop:=
 (∃fn,P.funcs[f]?=some fn∧fn.body.isSome=true∧(fn.name== "runtime.NumGoroutine")=false)∧
 ∀(args:Array Value) w c q,d args.toList w c q→Calls P f args w (ZW c (amR q))
def uY.p{d:bt}(h:uY P f d):amS P f λargs w c _=>d args w c:=
 ⟨h.1,λargs w c q hd=>Calls.arf (h.2 args w c hd)⟩
def M4(P:Program):List (Nat×abP)→Prop
 |[]=>True
 |(n,d)::l=>amS P n d∧M4 P l
def age:List (Nat×abP)→FuncId→abP
 |[],_,_,_,_,_=>False
 |(n,d)::l,f,args,w,c,q=>match Nat.beq n f with|true=>d args w c q|false=>age l f args w c q
def arh(l:List (Nat×abP))(q:Value→ap):ey:=λfn args w c=>match fn with
 | .func f=>age l f args.toList w c q
 | .method _=>match args.toList with|[.iface t v]=>q (.iface t v) w|_=>False
 |_=>False
def aeL:∀{l:List (Nat×abP)} {f:FuncId} {args:Array Value} {w:World} {c q:Value→ap},M4 P l→age l f args.toList w c q→
  (∃fn,P.funcs[f]?=some fn∧fn.body.isSome=true∧(fn.name== "runtime.NumGoroutine")=false)∧Calls P f args w (ZW c (amR q))
 |[],_,_,_,_,_,_,h=>h.elim
 |(n,d)::l,f,args,w,c,q,hl,h=>by
  unfold age at h;split at h
  ·rename_i hb;have:=beq_eq hb;subst this;exact⟨hl.1.1,hl.1.2 args w c q h⟩
  ·exact aeL hl.2 h
def ari{l:List (Nat×abP)}{q:Value→ap}(hl:M4 P l):tK P (arh l q) (amR q):=λfn args w c h=>by
 cases fn with
 |func f=>exact .inl (aeL hl h)
 |method s=>
  unfold arh at h;dsimp only at h;split at h
  ·rename_i t v ha;exact⟨t,v,by cases args;simp_all,_,rfl,h⟩
  ·exact h.elim
 |_=>exact h.elim
def IX:∀(l:List Value) (n:Nat) (a:Act),(∀i v,l[i]?=some v→a.tmps[n+i]?=some v)→Sub (DE n l) a
 |[],n,a,_=>λp hp=>by cases hp
 |v::l,n,a,h=>λp hp=>by
  rcases List.mem_cons.1 hp with rfl|hp
  ·exact h 0 v bf
  ·exact IX l (n+1) a (λi u hu=>by have:=h (i+1) u (gq hu);rwa[show n+(i+1)=n+1+i by omega]at this) p hp
def QH(a:Act):ResultVar→Sem Value
 | .tmp t=>pure (a.tmps.getD t undef)
 | .cell p t=>do loadVar t (←asAddr (a.tmps.getD p undef))
def SZ{e:Env}{w:World}{a:Act}(hs:Sub e a):∀{rs:List ResultVar} {c:List Value→Prop},JZ P rs e w c→∃l,c l∧
  (rs.mapM (QH a)).run P w= .ok l w
 |[],c,h=>⟨[],h,rfl⟩
 |r::rs,c,h=>by
  unfold JZ azT at h;have key:∀v,(QH a r).run P w= .ok v w→(JZ P rs e w λl=>c (v::l))→∃l,c l∧
    ((r::rs).mapM (QH a)).run P w= .ok l w:=by
   intro v hv hc;obtain⟨l,hl,hr⟩:=SZ hs hc;refine⟨v::l,hl,?_⟩;rw[List.mapM_cons];simp only[cR,hv,cK,hr,cP]
  split at h
  ·rename_i t;unfold IS at h;split at h
   ·rename_i v hv;have:=qi hs _ _ hv;refine key v ?_ h;simp only[QH,cP];rw[←this];rfl
   ·exact h.elim
  ·rename_i p t;cases hv:e.op (.tmp p)with
   |none=>rw[hv]at h;exact h.elim
   |some v=>
    rw[hv]at h;obtain⟨q,u,rfl,hc,hr⟩:=ZU h;have h1:=qi hs _ _ hv;have h2:=hr w λ_ _=>rfl;refine key u ?_ hc;have h3:a.tmps.getD p undef= .pointer (some q):=h1;simp only[Instr.loadAt,Instr.sureAddr,cR,cP,cK]at h2;simp only[QH,h3,asAddr,cR,cP,cK,h2]
def abQ(l:List Value):(if h:l.toArray.size=1 then l.toArray[0]else .tuple l.toArray)=e9 l:=by
 match l with
 |[]=>rfl
 |[v]=>rfl
 |_::_::_=>rfl
def aia{h:sP}(hm:P.follows .mixedOrders=true)(hf:P.funcs[f]?=some fn)(ho:tK P bY q)(qm ur:List K)
  (hok:Wo h fn qm.length=true)   {c:Value→ap} {x:KT qm} (hx:args.toList=dL qm x) (hF:OP P bY mask h fn ur (dL qm x) w fun r w=>c (e9 (dL ur r)) w):
  (∃fn,P.funcs[f]?=some fn∧fn.body.isSome=true∧(fn.name== "runtime.NumGoroutine")=false)∧Calls P f args w (ZW c q):=by
 unfold Wo at hok;cases hb:fn.body with
 |none=>rw[hb]at hok;cases hok
 |some b=>
  rw[hb]at hok;simp only[Bool.and_eq_true,Bool.not_eq_true']at hok;refine⟨⟨fn,hf,by rw[hb];rfl,hok.2⟩,?_⟩
  have hlen:(dL qm x).length=qm.length:=by
   have:∀(ks:List K) (x:KT ks),(dL ks x).length=ks.length:=by
    intro ks;induction ks with
    |nil=>intro x;rfl
    |cons k r ih=>
     intro x;cases r with
     |nil=>rfl
     |cons y r=>show(dL (y::r) x.2).length+1=_;rw[ih];rfl
   exact this qm x
  unfold OP at hF;rw[hb]at hF;simp only at hF;have hle:qm.length≤fn.ntmps:=Nat.le_of_ble_eq_true hok.1.2;have hsz:args.size≤fn.ntmps:=by
   have:args.toList.length=qm.length:=by rw[hx,hlen]
   rw[Array.length_toList]at this;omega
  refine calls_of_wp hf hb ?_;have akA:=tV h b 0;have hw:=rE (ro:=none) (n0:=0) hm ho (nk h b 0).1 (DE 0 (dL qm x)) w {tmps:=args++Array.replicate (fn.ntmps - args.size) undef,defers:=[]} _ (bodyPost P fn (ZW c q)) ?_ ?_ ?_ hF ?_
  ·rw[akA]at hw;exact wpIn_wide.1 hw
  ·exact fun ch a' w' hd h=>⟨hd.2.1,h⟩
  ·refine IX _ 0 _ fun i v hv=> ?_;rw[←hx]at hv;have Gq:args[i]?=some v:=by simpa using hv
   have hi:i<args.size:=(Array.getElem?_eq_some_iff.1 Gq).1;simp only[Nat.zero_add];rw[Array.getElem?_append_left hi];exact Gq
  ·have:(args++Array.replicate (fn.ntmps - args.size) undef).size=fn.ntmps:=by simp;omega
   rw[this];exact hok.1.1
  ·intro z e' w' a' hk hs hkp;have arj:a'.defers=[]:=hkp.2.1;have fin:(JZ P fn.results.toList e' w' fun l=>qW ur l fun x=>c (e9 (dL ur x)) w')→a'.defers=[]∧∃v,(results fn a'.tmps).run P w'= .ok v w'∧c v w':=by
    intro hr;obtain⟨l,hc,hrun⟩:=SZ hs hr;obtain⟨y,rfl,ES⟩:=zu hc;refine⟨arj,e9 (dL ur y),?_,ES⟩;have he:results fn a'.tmps=(do
      let vs←fn.results.mapM (QH a');pure (if h:vs.size=1 then vs[0]else .tuple vs)):=by
     have hfun:(fun x=>(match x with| .tmp t=>pure (a'.tmps.getD t undef)| .cell a t=>do loadVar t (←asAddr (a'.tmps.getD a undef)):Sem Value))=QH a':=by
      funext r;cases r<;>rfl
     unfold results;rw[←hfun];rfl
    rw[he,Array.mapM_eq_mapM_toList];simp only[Sem.run_bind,Sem.run_map,hrun,Result.andThen_ok,Sem.run_pure];rw[abQ]
   cases z with
   |normal=>exact fin hk
   |ret=>exact fin hk
   |exit id=>exact hk.elim
def M5{h:sP}(hm:P.follows .mixedOrders=true)(hf:P.funcs[f]?=some fn)(ho:tK P bY QB)(qm ur:List K)
  (hok:Wo h fn qm.length=true) (F:KT qm→World→(KT ur→ap)→Prop) (hl:∀x w c,OP P bY mask h fn ur (dL qm x) w c=F x w c):
  uY P f λargs w c=>qW qm args λx=>F x w λr w=>c (e9 (dL ur r)) w:=by
 refine⟨?_,λargs w c hd=> ?_⟩
 ·unfold Wo at hok;cases hb:fn.body with
  |none=>rw[hb]at hok;cases hok
  |some b=>
   rw[hb]at hok;simp only[iY,Bool.not_eq_true']at hok;exact⟨fn,hf,by rw[hb];rfl,hok.2⟩
 ·obtain⟨x,hx,hF⟩:=zu hd;rw[←hl]at hF;refine(aia hm hf ho qm ur hok hx hF).2.mono λe w' he=> ?_;cases e with
  |returned v=>exact⟨v,rfl,he⟩
  |panicked ch=>exact he.elim
  |outgrown=>exact he.elim
def aeM{h:sP}{ds:List (Nat×bt)}(hm:P.follows .mixedOrders=true)(hf:P.funcs[f]?=some fn)(hds:FB P ds)(qm ur:List K)
  (hok:Wo h fn qm.length=true) (F:KT qm→World→(KT ur→ap)→Prop) (hl:∀x w c,OP P (kC ds) mask h fn ur (dL qm x) w c=F x w c):
  uY P f λargs w c=>qW qm args λx=>F x w λr w=>c (e9 (dL ur r)) w:=M5 hm hf (M3 hds) qm ur hok F hl
end
open Go Go.RowKit
structure o7 (S:Nat→Prop) (w w':World):Prop where
 os:w'.os=w.os
 tape:w'.tape=w.tape
 output:w'.output=w.output
 size:w.heap.size≤w'.heap.size
 block:∀k,k<w.heap.size→¬S k→w'.heap[k]?=w.heap[k]?
abbrev Ext(w w':World):Prop:=o7 (λ_=>False) w w'
def o7.refl(S:Nat→Prop)(w:World):o7 S w w:=⟨rfl,rfl,rfl,iw _,λ_ _ _=>rfl⟩
def o7.trans{S T U:Nat→Prop}{a b c:World}(h:o7 S a b)(k:o7 T b c)(hS:∀k,k<a.heap.size→S k→U k)(hT:∀k,k<a.heap.size→T k→U k):o7 U a c:=
 ⟨k.os.trans h.os,k.tape.trans h.tape,k.output.trans h.output,Nat.le_trans h.size k.size,λi hi d=>
  (k.block i (Nat.lt_of_lt_of_le hi h.size) (λhx=>d (hT i hi hx))).trans (h.block i hi (λhx=>d (hS i hi hx)))⟩
variable{S:Nat→Prop}
def o7.mono{T:Nat→Prop}{a b:World}(h:o7 S a b)(hS:∀k,k<a.heap.size→S k→T k):o7 T a b:=⟨h.os,h.tape,h.output,h.size,λk hk hT=>h.block k hk λhx=>hT (hS k hk hx)⟩
def Ext.trans{a b c:World}(h:Ext a b)(k:Ext b c):Ext a c:=o7.trans h k (λ_ _ h=>h) (λ_ _ h=>h)
def Ext.only{a b:World}(h:Ext a b):o7 S a b:=o7.mono h λ_ _ h=>h.elim
variable{B:Nat}
def o7.below(h:o7 S w w')(hB:B≤w.heap.size)(hS:∀k,S k→B≤k):Below B w w':=
 ⟨h.os,h.tape,h.output,h.size,λk hk=>h.block k (Nat.lt_of_lt_of_le hk hB) λhx=>by have:=hS k hx;omega⟩
def Ext.below{w w':World}(h:Ext w w'):Below w.heap.size w w':=o7.below h (iw _) λ_ h=>h.elim
def Ext.then{T:Nat→Prop}{a b c:World}(h:Ext a b)(k:o7 T b c)(hT:∀g,T g→a.heap.size≤g):Ext a c:=o7.trans h k (λ_ _ h=>h) λg hg ht=>by have:=hT g ht;omega
def o7.cell{S:Nat→Prop}{w w':World}(h:o7 S w w'){p:Addr}(hS:¬S p.block){v:Value}(hv:w.cell? p=some v):w'.cell? p=some v:=
 (World.cell?_of_block (h.block p.block (World.block_lt_of_cell? w p hv) hS)).trans hv
def Ext.cell{w w':World}(h:Ext w w'){p:Addr}{v:Value}(hv:w.cell? p=some v):w'.cell? p=some v:=o7.cell h (λh=>h) hv
def AQ(w:World):Ext w w.drew:=⟨rfl,rfl,rfl,iw _,λ_ _ _=>rfl⟩
def CA(w:World)(o:Obj):Ext w (w.alloc o):=⟨rfl,rfl,rfl,bf,λk hk _=>Go.heap_alloc_old w o hk⟩
def UC(w:World)(p:Addr)(v:Value):o7 (λk=>k=p.block) w (w.setCell p v):=
 ⟨rfl,rfl,rfl,by simp[World.setCell],λk _ hk=>heap_setCell_other w p k v hk⟩
@[simp] theorem dg (g o n:Nat):(Addr.mk g o none).add n=⟨g,o+n,none⟩:=by
 unfold aY;split<;>simp_all
def pN(w:World)(g:Nat)(cs:Array Value):Prop:=∃e,w.heap[g]?=some (.cells cs e (0,0))
def pN.lt(h:pN w g cs):g<w.heap.size:=by
 obtain⟨e,h⟩:=h;exact(Bf.1 h).1
def pN.cell{w:World}{g:Nat}{cs:Array Value}(h:pN w g cs)(i:Nat):w.cell? ⟨g,i,none⟩=cs[i]?:=by
 obtain⟨e,h⟩:=h;exact cell_of_row w g i cs e _ h
def pN.frozen{w:World}{g:Nat}{cs:Array Value}(h:pN w g cs)(i:Nat):w.frozen? ⟨g,i,none⟩=false:=by
 obtain⟨e,h⟩:=h;exact frozen_of_row w g i cs e h
def pN.keep(h:pN w g cs)(ho:o7 S w w')(hg:¬S g):pN w' g cs:=by
 have:=ho.block g h.lt hg;obtain⟨e,h⟩:=h;exact⟨e,this.trans h⟩
def pN.ext(h:pN w g cs)(ho:Ext w w'):pN w' g cs:=h.keep ho λh=>h
def pN.new(w:World)(cs:Array Value)(t:TypeId):pN (w.alloc (.cells cs t)) w.heap.size cs:=⟨t,heap_alloc_new w _⟩
def pN.set(h:pN w g cs)(i:Nat)(v:Value):pN (w.setCell ⟨g,i,none⟩ v) g (cs.setIfInBounds i v):=by
 obtain⟨e,h⟩:=h;exact⟨e,heap_setCell_same w g i cs e v h⟩
def jJ{c:Addr→ap}(h:∀g w',g=w.heap.size→w'.heap.size=g+1→pN w' g cs→Ext w w'→c ⟨g,0,none⟩ w'):aE w cs t c:=
 h _ _ rfl bf (pN.new w cs t) (CA w _)
def M6{c:ap}(h:∀w',w'.heap=w.heap→Ext w w'→c w'):drew w c:=h _ rfl (AQ w)
def ax{x y:Prop}(h1:b=true→x)(h2:b=false→y):an b x y:=by cases b;exact h2 rfl;exact h1 rfl
@[simp] theorem aAP (x y:Prop):an true x y=x:=rfl
@[simp] theorem azW (x y:Prop):an false x y=y:=rfl
def bK{x y:Prop}(hb:b=true)(h:x):an b x y:=by subst hb;exact h
def aU{x y:Prop}(hb:b=false)(h:y):an b x y:=by subst hb;exact h
def bP{S:Type}{body:(S→ap)→Prop}{rest:S→ap}(I:S→ap)(h1:∀J:S→ap,(∀x w,I x w→J x w)→body J)(h2:∀x w,I x w→rest x w):cz body rest:=h1 rest h2
def QI{S:Type}{body:(S→ap)→Prop}{rest:S→ap}(h:body rest):cz body rest:=h
def uZ{a:Addr}{c:Int→Prop}{n:Int}(h:w.cell? a=some (.int k n))(hc:c n):aJ k w a c:=by simp[aJ,rd,h,xS,hc]
def akB{a:Addr}{c:Bool→Prop}{n:Bool}(h:w.cell? a=some (.bool n))(hc:c n):He w a c:=by simp[He,rd,h,Ir,hc]
def ark{a:Addr}{c:Option Addr→Prop}{n:Option Addr}(h:w.cell? a=some (.pointer n))(hc:c n):aQ w a c:=by simp[aQ,rd,h,toP,hc]
variable{s:Sl}
def IY{a:Addr}{c:Sl→Prop}(h:w.cell? a=some (.slice s.a s.n s.c))(hc:c s):cy w a c:=by simp[cy,rd,h,toS,hc]
def abR{o:Nat}{v:Value}{c:ap}(h1:v.oneCell'=true)(hb:pN w g cs)(ho:o<cs.size)
  (hc:∀w',pN w' g (cs.setIfInBounds o v)→w'.heap.size=w.heap.size→o7 (λk=>k=g) w w'→c w'):bN w ⟨g,o,none⟩ v c:=
 ⟨h1,by rw[hb.cell];simp[ho],hb.frozen o,hc _ (hb.set o v) (by simp[World.setCell]) (UC w ⟨g,o,none⟩ v)⟩
def kg{x:Int}(h: -9223372036854775808≤x∧x≤9223372036854775807):IntKind.i64.wrap x=x:=IntWalk.i64_in x h
def bc{a:Addr}{c:Addr→Prop}(h:c a):nn (some a) c:=h
def amT{x y:Int}{c:Int→Prop}(hy:y≠0)(h:c (x.tmod y)):amz x y c:=⟨hy,h⟩
def amU{x y:Int}{c:Int→Prop}(hy:0≤y)(h:c (IR k x y)):amA k x y c:=⟨hy,h⟩
def Gf{x y:Int}{c:Int→Prop}(hy:0≤y)(h:c (sD k x y)):HI k x y c:=⟨hy,h⟩
structure Hj (sz:Nat) (w:World) (s:Sl) (vs:List Value):Prop where
 len:vs.length=s.n*sz
 cell:∀i v,vs[i]?=some v→∃p,s.a=some p∧w.cell? (p.add i)=some v
variable{sz:Nat}
def Hj.keep(h:Hj sz w s vs)(ho:o7 S w w')(hs:∀p,s.a=some p→¬S p.block):Hj sz w' s vs:=
 ⟨h.len,λi v hv=>by
  obtain⟨p,hp,hc⟩:=h.cell i v hv;refine⟨p,hp,ho.cell ?_ hc⟩;have:(p.add i).block=p.block:=by unfold aY;split<;>rfl
  rw[this];exact hs p hp⟩
def Hj.ext(h:Hj sz w s vs)(ho:Ext w w'):Hj sz w' s vs:=h.keep ho λ_ _ h=>h
abbrev ints(xs:List Int):List Value:=xs.map (Value.int .i64)
def Sl.au(s:Sl):Option Nat:=s.a.map (·.block)
structure Own (w:World) (B:Nat) (s:Sl) (xs:List Value):Prop where
 len:xs.length=s.n
 cap:s.n≤s.c
 max:s.c≤9223372036854775807
 one:∀x∈xs,x.oneCell'=true
 row:(s.a=none∧s.c=0)∨∃g off cs,s.a=some ⟨g,off,none⟩∧B≤g∧pN w g cs∧off+s.c≤cs.size∧∀i v,xs[i]?=some v→cs[off+i]?=some v
def Own.nil(w:World)(B:Nat):Own w B ⟨none,0,0⟩ []:=⟨rfl,iw _,bf,bf,.inl ⟨rfl,rfl⟩⟩
variable{xs:List Value}
def Own.sls(h:Own w B s xs):Hj 1 w s xs:=by
 refine⟨by rw[h.len];simp,λi v hv=> ?_⟩
 rcases h.row with⟨h1,h2⟩|⟨g,off,cs,h1,_,h3,_,h5⟩
 ·have h0:=h.cap;have h6:i<xs.length:=(kB.1 hv).1;have h7:=h.len;omega
 ·exact⟨_,h1,by rw[dg,h3.cell];exact h5 i v hv⟩
def Own.keep{S:Nat→Prop}{w w':World}{B:Nat}{s:Sl}{xs:List Value}(h:Own w B s xs)(ho:o7 S w w')(hs:∀g,s.au=some g→¬S g):Own w' B s xs:=by
 refine⟨h.len,h.cap,h.max,h.one,h.row.imp id ?_⟩;rintro⟨g,off,cs,h1,h2,h3,h4,h5⟩;exact⟨g,off,cs,h1,h2,h3.keep ho (hs g (by simp[Sl.au,h1])),h4,h5⟩
def Own.ext(h:Own w B s xs)(ho:Ext w w'):Own w' B s xs:=h.keep ho λ_ _ h=>h
def Own.below(h:Own w B s xs)(hg:s.au=some g):B≤g∧g<w.heap.size:=by
 rcases h.row with⟨h1,_⟩|⟨g',off,cs,h1,h2,h3,_⟩
 ·simp[Sl.au,h1]at hg
 ·simp[Sl.au,h1]at hg;subst hg;exact⟨h2,h3.lt⟩
def Own.out{B':Nat}(h:Own w B s xs)(hB:B'≤B):∀g,s.au=some g→B'≤g:=λ_ hg=>Nat.le_trans hB (h.below hg).1
def IK{xs:List Int}:∀v∈ints xs,v.oneCell'=true:=by
 intro v hv;obtain⟨x,_,rfl⟩:=List.mem_map.1 hv;rfl
def WJ{l:List Value}(hb:pN w g l.toArray)(hn:l.length=n)(c:Nat):Hj 1 w ⟨some ⟨g,0,none⟩,n,c⟩ l:=
 ⟨by simp[hn],λi v hv=>⟨_,rfl,by rw[dg,hb.cell];simpa using hv⟩⟩
def Own.new{l:List Value}(hb:pN w g l.toArray)(hB:B≤g)(hn:l.length=n)(hm:n≤9223372036854775807)(h1:∀x∈l,x.oneCell'=true):Own w B ⟨some ⟨g,0,none⟩,n,n⟩ l:=
 ⟨hn,iw _,hm,h1,.inr ⟨g,0,l.toArray,rfl,hB,hb,by simp[hn],λi v hv=>gq hv⟩⟩
def ElT(P:Program)(t e:TypeId)(b:Nat)(z:Value):Prop:=P.underlying t=some (.slice e)∧(P.info? e).map (λi=>(i.size,i.bytes,i.zero))=some (1,b,some z)
def ElT.info{P:Program}{t e:TypeId}{b:Nat}{z:Value}(h:ElT P t e b z):∃i,P.info? e=some i∧i.size=1∧i.bytes=b∧i.zero=some z:=by
 have h2:=h.2;cases hi:P.info? e with
 |none=>simp[hi]at h2
 |some i=>simp[hi]at h2;exact⟨i,rfl,h2⟩
def FC(h:Hj 1 w s vs):(Builtin.firstCells 1 s.n (.slice s.a s.n s.c)).run P w= .ok vs.toArray w:=by
 cases ha:s.a with
 |none=>
  have:vs=[]:=by
   cases vs with
   |nil=>rfl
   |cons v l=>obtain⟨p,hp,_⟩:=h.cell 0 v rfl;rw[ha]at hp;cases hp
  subst this;exact run_firstCells_none w 1 s.n s.n s.c
 |some p=>
  exact run_firstCells_some w 1 s.n p s.n s.c vs (by rw[h.len]) λj v hv=>by
   obtain⟨q,hq,hc⟩:=h.cell j v hv;rw[ha]at hq;cases hq;exact hc
variable{tx:TypeId}
def awS(hk:P.underlying tx=some (.slice e'))(h:Hj 1 w s vs)(h1:∀v∈vs,v.oneCell'=true):Src P 1 tx (.slice s.a s.n s.c) s.n vs w:=
 ⟨.inl ⟨e',hk⟩,λ_=>rfl,FC h,FC (h.ext (AQ w)),by rw[h.len],h1⟩
def KW{e:TypeId}:∀(l:List Value) (w:World) (g o:Nat) (cs:Array Value),w.heap[g]?=some (.cells cs e (0,0))→o+l.length≤cs.size→
  ∃cs',(w.setCells g o l).heap[g]?=some (.cells cs' e (0,0))∧cs'.size=cs.size∧(∀j,j<o∨o+l.length≤j→cs'[j]?=cs[j]?)∧(∀i v,l[i]?=some v→cs'[o+i]?=some v)∧o7 (λk=>k=g) w (w.setCells g o l)∧(w.setCells g o l).heap.size=w.heap.size
 |[],w,g,o,cs,h,_=>⟨cs,h,rfl,λ_ _=>rfl,λi v hv=>by simp at hv,.refl _ _,rfl⟩
 |v::l,w,g,o,cs,h,hl=>by
  simp only[List.length_cons]at hl;obtain⟨cs',h1,h2,h3,h4,h5,h6⟩:=KW l (w.setCell ⟨g,o,none⟩ v) g (o+1) (cs.setIfInBounds o v) (heap_setCell_same w g o cs e v h) (by simp;omega)
  refine⟨cs',h1,gq h2,λj hj=> ?_,λi u hu=> ?_,o7.trans (UC w ⟨g,o,none⟩ v) h5 (λ_ _ h=>h) (λ_ _ h=>h),by rw[World.setCells,h6];simp[World.setCell]⟩
  ·rw[h3 j (by simp only[List.length_cons]at hj;omega)]
   rw[Array.getElem?_setIfInBounds_ne (by simp only[List.length_cons]at hj;omega)]
  ·cases i with
   |zero=>
    simp at hu;subst hu;rw[h3 (o+0) af,Nat.add_zero,Array.getElem?_setIfInBounds_self];rw[if_pos af]
   |succ i=>
    have:=h4 i u (gq hu)
    rwa[show o+(i+1)=o+1+i by omega]
variable{ty:TypeId}{ys:List Value}
def awT{e:TypeId}{b:Nat}{x:Sl}{c:Sl→ap}(ht:ElT P t e b z)(q:z.oneCell'=true)(hk:P.underlying tx=some (.slice e'))
  (hown:Own w B s xs) (hsrc:Hj 1 w x ys) (h1:∀v∈ys,v.oneCell'=true) (hB:B≤w.heap.size) (hbytes:(xs.length+ys.length)*b≤140737488355328) (h63:xs.length+ys.length≤9223372036854775807)
  (hc:∀s' w',Own w' B s' (xs++ys)→o7 (λk=>s.au=some k) w w'→(s'.au=s.au∨∃g,s'.au=some g∧w.heap.size≤g)→c s' w'):
  og P #[t,tx] ty [.slice s.a s.n s.c,.slice x.a x.n x.c] w c:=by
 obtain⟨i,hi,hsz,hby,r⟩:=ht.info;have hs:=awS hk hsrc h1;have f:x.n=ys.length:=by have:=hsrc.len;omega
 have hone:∀v∈xs++ys,v.oneCell'=true:=λv hv=>(zw.1 hv).elim (hown.one v) (h1 v);unfold og;by_cases hroom:s.n+x.n≤s.c
 ·rcases hown.row with⟨h2,h3⟩|⟨g,off,cs,h2,h3,h4,h5,h6⟩
  ·have hx0:x.n=0:=af;have hs0:s.n=0:=af;have hys:ys=[]:=List.eq_nil_of_length_eq_zero af;have hxs:xs=[]:=List.eq_nil_of_length_eq_zero (by have:=hown.len;omega)
   subst hys;subst hxs;rw[h2,hs0,h3];have hr:(Builtin.append_ #[t,tx] ty #[.slice none 0 0,.slice x.a x.n x.c]).run P w= .ok (.slice none 0 0) w:=by
    have hk':=hs.cells;simp only[List.toArray]at hk';have hlen:=hs.len w;rw[hx0]at hlen hk' ⊢;simp[Builtin.append_,run_underlying ht.1,run_underlying hk,sizeOf,typeInfo,hi,hsz,Builtin.lenOf,Builtin.firstCells]at hk' ⊢;cases l:x.a<;>simp[Builtin.firstCells,l,loadCells,loadCellsFrom]
   simp only[List.toArray]at*
   rw[hr];show c ⟨none,0,0⟩ w;exact hc _ _ (gq (Own.nil w B)) (.refl _ _) (.inl (by simp[Sl.au,h2]))
  ·obtain⟨m,d⟩:=h4;have hlen:=hown.len;have hcell:∀j,j<ys.length→(w.cell? ⟨g,off+s.n*i.size+j,none⟩).isSome=true:=by
    intro j hj;rw[hsz,Nat.mul_one,(show pN w g cs from⟨m,d⟩).cell];have:off+s.n+j<cs.size:=af;simp[this]
   have o:∀j,j<ys.length→w.frozen? ⟨g,off+s.n*i.size+j,none⟩=false:=λj _=>(show pN w g cs from⟨m,d⟩).frozen _;rw[←hsz]at hs;have hr:=run_append_room_src w t tx ty e i ht.1 hi g off s.n s.c _ x.n ys hs hroom hcell o;obtain⟨cs',u,k2,y,k4,A,C⟩:=KW ys w g (off+s.n) cs d af;rw[hsz,Nat.mul_one]at hr;rw[h2];simp only[List.toArray]at*
   rw[hr];show c ⟨some ⟨g,off,none⟩,s.n+x.n,s.c⟩ _;refine hc _ _ ⟨by simp;omega,hroom,hown.max,hone,.inr ⟨g,off,cs',rfl,h3,⟨m,u⟩,by rw[k2];exact h5,λj v hv=> ?_⟩⟩ (A.mono λk _ hk=>by simp[Sl.au,h2,hk]) (.inl (by simp[Sl.au,h2]))
   by_cases hj:j<xs.length
   ·rw[tJ hj]at hv;rw[y _ af];exact h6 j v hv
   ·rw[u0 af]at hv;have:=k4 _ v hv;rwa[show off+s.n+(j - xs.length)=off+j by omega]at this
 ·have hg:s.c<s.n+x.n:=af;have hlen:=hown.len;have hfit:Builtin.nextslicecap (s.n+x.n) s.c*i.bytes≤281474976710656:=growslice_fits hg (by rw[hby,f,←hlen];exact hbytes)
  have hold:=FC (P:=P) (hown.sls.ext (AQ w));rw[←hsz]at hold hs;have hr:=run_append_grow_src w t tx ty e i z ht.1 hi r s.a s.n s.c xs hold _ x.n ys hs hg af hfit;simp only[List.toArray]at*
  rw[hr];have hge:=grownCap_ge w (s.n+x.n) s.c e;have p:=grownCap_le_maxLen w (s.n+x.n) s.c e (by unfold maxLen;omega)
  unfold maxLen at p;show c ⟨some ⟨w.heap.size,0,none⟩,s.n+x.n,_⟩ _;have hzs:z.cells.size=1:=by rw[Cy q];rfl
  refine hc _ _ ⟨by simp;omega,hge,p,hone,.inr ⟨w.heap.size,0,_,rfl,hB,pN.new w.drew _ e,?_,λj v hv=> ?_⟩⟩ (Ext.only ((AQ w).trans (CA _ _))) (.inr ⟨w.heap.size,rfl,iw _⟩)
  ·simp[size_zeroCells,hzs];omega
  ·have hj:j<(xs++ys).length:=(kB.1 hv).1;rw[Nat.zero_add,Array.getElem?_append_left (gq hj)]
   simpa using hv
structure Part (s:Sl) (lo:Nat) (d:Sl):Prop where
 addr:d.a=s.a.map (·.add lo)∨d.n=0
 fits:lo+d.n≤s.n
def Part.all(s:Sl):Part s 0 s:=⟨.inl (by cases s.a<;>simp[add_zero]),af⟩
def Own.off{w:World}{B:Nat}{s d:Sl}{xs ys:List Value}{lo:Nat}(h:Own w B s xs)(hy:ys.length=d.n)(hc:d.n≤d.c)(b:lo+d.c≤s.c)(ha:d.a=s.a.map (·.add lo)∨(d.a=s.a∧d.c=0))(hv:∀i v,ys[i]?=some v→xs[lo+i]?=some v):Own w B d ys:=by
 have e:=h.max;refine⟨hy,hc,af,λx hx=> ?_,?_⟩
 ·obtain⟨i,hi,rfl⟩:=List.getElem_of_mem hx;have:=hv i ys[i] (by simp[hi])
  exact h.one _ (qn this)
 ·rcases h.row with⟨h1,h2⟩|⟨g,off,cs,h1,h2,h3,h4,h5⟩
  ·refine .inl ⟨?_,af⟩;rcases ha with ha|⟨ha,_⟩<;>rw[ha,h1] <;>rfl
  ·rcases ha with ha|⟨ha,f⟩
   ·exact .inr ⟨g,off+lo,cs,by rw[ha,h1];simp,h2,h3,af,λi v hi=>by rw[Nat.add_assoc];exact h5 _ _ (hv i v hi)⟩
   ·have hy0:ys=[]:=List.eq_nil_of_length_eq_zero af;subst hy0;exact .inr ⟨g,off,cs,by rw[ha,h1],h2,h3,af,λi v hi=>by simp at hi⟩
def abS{lo:Int}{c:Sl→Prop}(h:Own w B s xs)(h0:0≤lo)(h1:lo≤s.n)
  (hc:∀d,Part s lo.toNat d→d.n=s.n - lo.toNat→d.au=s.au→Own w B d (xs.drop lo.toNat)→c d):slL s 1 lo c:=by
 have hcap:=h.cap;have hlen:=h.len;refine⟨⟨h0,h1⟩,hc _ ⟨?_,by simp;omega⟩ rfl ?_ (h.off (lo:=lo.toNat) (by simp;omega) (by simp;omega) (by simp;omega) ?_ λi v hi=>gq hi)⟩
 ·by_cases hq:s.c=lo.toNat
  ·right;simp;omega
  ·left;simp[hq]
 ·by_cases hq:s.c=lo.toNat
  ·simp[Sl.au,hq]
  ·simp only[Sl.au,hq,if_false];cases s.a with
   |none=>rfl
   |some p=>simp[aY];split<;>rfl
 ·by_cases hq:s.c=lo.toNat
  ·right;simp[hq]
  ·left;simp[hq]
def agf(w:World)(g:Nat)(cs:Array Value):o7 (λk=>k=g) w (w.setRow g cs):=
 ⟨rfl,rfl,rfl,by simp[World.setRow],λk _ hk=>by simp[World.setRow,Array.getElem?_modify,Ne.symm hk]⟩
def abT{e:TypeId}{b:Nat}{lo:Nat}{d x:Sl}{c:Int→ap}(ht:ElT P t e b z)
  (hown:Own w B s xs) (hd:Part s lo d) (hsrc:Hj 1 w x ys) (h1:∀v∈ys,v.oneCell'=true)
  (hc:∀w',Own w' B s (xs.take lo++(ys.take (min d.n x.n)++xs.drop (lo+min d.n x.n)))→o7 (λk=>s.au=some k) w w'→w'.heap.size=w.heap.size→c (min d.n x.n:Nat) w'):
  U1 P #[t,tx] ty [.slice d.a d.n d.c,.slice x.a x.n x.c] w c:=by
 obtain⟨i,hi,hsz,hby,G⟩:=ht.info;have A:x.n=ys.length:=by have:=hsrc.len;omega
 have hlen:=hown.len;have C:=hd.fits;unfold U1;have hread:(Builtin.firstCells i.size (min d.n x.n) (.slice x.a x.n x.c)).run P w= .ok (ys.take (min d.n x.n)).toArray w:=by
  rw[hsz];by_cases f:x.a=none
  ·have:ys=[]:=by
    cases ys with
    |nil=>rfl
    |cons v l=>obtain⟨p,hp,_⟩:=hsrc.cell 0 v rfl;rw[f]at hp;cases hp
   subst this;rw[f,List.take_nil];exact run_firstCells_none w 1 _ _ _
  ·obtain⟨p,hp⟩:=Option.ne_none_iff_exists'.1 f;rw[hp];refine run_firstCells_some w 1 _ p _ _ _ (by simp;omega) λj v hv=> ?_
   rw[List.getElem?_take]at hv;split at hv
   ·obtain⟨q,hq,D⟩:=hsrc.cell j v hv;rw[hp]at hq;cases hq;exact D
   ·cases hv
 have F:(Builtin.firstCells i.size (min x.n d.n) (.slice x.a x.n x.c)).run P w= .ok (ys.take (min d.n x.n)).toArray w:=by rw[Nat.min_comm];exact hread
 have o:(Builtin.copy_ #[t,tx] ty #[.slice d.a d.n d.c,.slice x.a x.n x.c]).run P w=match d.a with
   |some a=>((storeCells a (ys.take (min d.n x.n))).run P w).andThen λ_ w=> .ok (goInt ((min d.n x.n:Nat):Int)) w
   |none=> .ok (goInt ((min d.n x.n:Nat):Int)) w:=by
  have e1:Nat.min x.n d.n=min d.n x.n:=Nat.min_comm _ _;cases hda:d.a<;>simp[Builtin.copy_,run_underlying ht.1,Builtin.lenOf,sizeOf,typeInfo,hi,e1,hread]
 simp only[List.toArray]at*
 rw[o];by_cases hm:min d.n x.n=0
 ·have:=hc w (by rw[hm];simpa using hown) (.refl _ _) rfl
  rw[hm]at this ⊢;cases d.a<;>exact this
 ·rcases hown.row with⟨h2,h3⟩|⟨g,off,cs,h2,h3,h4,h5,h6⟩
  ·have:=hown.cap;omega
  ·have hda:d.a=some ⟨g,off+lo,none⟩:=by
    rcases hd.addr with h|h
    ·rw[h,h2];simp
    ·omega
   obtain⟨r,m⟩:=h4;have hcap:=hown.cap;have hst:=run_storeCells_at P g (off+lo) r (ys.take (min d.n x.n)) 0 cs w m (by simp;omega) λv hv=>h1 v (List.mem_of_mem_take hv)
   rw[hda];simp only[Nat.add_zero]at hst;simp only[hst,cK];show c (min d.n x.n:Nat) _;refine hc _ ⟨by simp;omega,hcap,hown.max,λv hv=> ?_,.inr ⟨g,off,_,h2,h3,⟨r,setRow_heap w g cs _ r (0,0) m⟩,by simp;omega,λi v hv=> ?_⟩⟩ ((agf w g _).mono λk _ hk=>by simp[Sl.au,h2,hk]) (by simp[World.setRow])
   ·rcases zw.1 hv with hv|hv
    ·exact hown.one v (List.mem_of_mem_take hv)
    ·rcases zw.1 hv with hv|hv
     ·exact h1 v (List.mem_of_mem_take hv)
     ·exact hown.one v (List.mem_of_mem_drop hv)
   ·have hi:i<s.n:=by
     have:=(kB.1 hv).1;simp at this;omega
    simp only[List.getElem?_toArray];by_cases c1:i<lo
    ·rw[tJ (by simp;omega),List.getElem?_take_of_lt c1]at hv
     rw[List.append_assoc,tJ (by simp;omega),List.getElem?_take_of_lt af]
     simpa using h6 i v hv
    ·rw[u0 (by simp;omega)]at hv
     rw[List.append_assoc,u0 (by simp;omega)]
     have el:(List.take lo xs).length=lo:=by simp;omega
     have u:(List.take (off+lo) cs.toList).length=off+lo:=by simp;omega
     rw[el]at hv;rw[u,show off+i - (off+lo)=i - lo by omega]
     by_cases c2:i - lo<min d.n x.n
     ·rw[tJ (by simp;omega)]at hv ⊢
      exact hv
     ·rw[u0 (by simp;omega)]at hv ⊢
      rw[List.getElem?_drop]at hv ⊢;have y:(List.take (min d.n x.n) ys).length=min d.n x.n:=by simp;omega
      rw[y]at hv ⊢;rw[show lo+min d.n x.n+(i - lo - min d.n x.n)=i by omega]at hv
      rw[show off+lo+min d.n x.n+(i - lo - min d.n x.n)=off+i by omega]
      simpa using h6 i v hv
def amV{e:TypeId}{b:Nat}{kc:IntKind}{c:Sl→ap}(ht:ElT P t e b z)(a:z.oneCell'=true)(hB:B≤w.heap.size)
  (hbytes:b*n≤281474976710656) (h63:n≤9223372036854775807)
  (hc:∀s w',Own w' B s (dU n z)→Ext w w'→s.n=n→s.c=n→s.au=some w.heap.size→w'.heap.size=w.heap.size+1→c s w'):xz P t (.int kl (n:Int)) (.int kc (n:Int)) w c:=by
 obtain⟨i,hi,hsz,hby,d⟩:=ht.info;have hb':(i.bytes:Int)*(n:Int)≤281474976710656:=by
  have h:((b*n:Nat):Int)≤281474976710656:=af;rw[Int.natCast_mul]at h;rwa[hby]
 have hr:=run_make w t e i z ht.1 hi d kl kc n n af (Int.le_refl _) hb' af;unfold xz;rw[hr,hsz,Nat.mul_one,Cy a];have hrow:madeCells #[z] n=(dU n z).toArray:=by
  apply Array.ext
  ·simp[madeCells]
  ·intro j h1 h2;simp[madeCells,Nat.mod_one]
 rw[iZ,hrow];show c ⟨some ⟨w.heap.size,0,none⟩,n,n⟩ _;exact hc _ _ (Own.new (pN.new w _ e) hB bf h63 λx hx=>by rw[(List.mem_replicate.1 hx).2];exact a) (CA w _) rfl rfl rfl bf
def aeN{g o:Nat}:∀(l:List Value) (w:World) (i:Nat) (cs:Array Value) (c:ap),pN w g cs→o+i+l.length≤cs.size→(∀v∈l,v.oneCell'=true)→
  (∀w' cs',pN w' g cs'→cs'.size=cs.size→(∀j,j<o+i∨o+i+l.length≤j→cs'[j]?=cs[j]?)→(∀j v,l[j]?=some v→cs'[o+i+j]?=some v)→o7 (λk=>k=g) w w'→w'.heap.size=w.heap.size→c w')→JU w ⟨g,o,none⟩ i l c
 |[],w,i,cs,c,hb,_,_,hc=>hc w cs hb rfl (λ_ _=>rfl) (λj v h=>by simp at h) (.refl _ _) rfl
 |v::l,w,i,cs,c,hb,hl,h1,hc=>by
  simp only[List.length_cons]at hl;unfold JU;rw[dg];refine abR (h1 v bf) hb af λw1 n hs1 a=>aeN l w1 (i+1) _ c n (by simp;omega) (λx hx=>h1 x (by simp[hx])) λw2 b p d m e f q=> ?_
  refine hc w2 b p (gq d) (λj hj=> ?_) (λj u hu=> ?_) (a.trans f (λ_ _ h=>h) λ_ _ h=>h) (q.trans hs1)
  ·rw[m j (by simp only[List.length_cons]at hj;omega)]
   rw[Array.getElem?_setIfInBounds_ne (by simp only[List.length_cons]at hj;omega)]
  ·cases j with
   |zero=>
    simp at hu;subst hu;rw[m (o+i+0) af,Nat.add_zero,Array.getElem?_setIfInBounds_self];rw[if_pos af]
   |succ j=>
    have:=e j u (gq hu)
    rwa[show o+i+(j+1)=o+(i+1)+j by omega]
def agh{o:Nat}{vs:Array Value}{c:ap}(hb:pN w g cs)(hn:vs.size=n)(hl:o+n≤cs.size)(h1:∀v∈vs,v.oneCell'=true)
  (hc:∀w' cs',pN w' g cs'→cs'.size=cs.size→(∀j,j<o∨o+n≤j→cs'[j]?=cs[j]?)→(∀j,j<n→cs'[o+j]?=vs[j]?)→o7 (λk=>k=g) w w'→w'.heap.size=w.heap.size→c w'):dQ n w ⟨g,o,none⟩ vs c:=by
 refine⟨hn,aeN vs.toList w 0 cs c hb (by simpa[hn]using hl) (λv hv=>h1 v (gq hv)) λw' cs' h1 h2 h3 h4 h5 h6=>hc w' cs' h1 h2 (λj hj=>h3 j (by simpa[hn]using hj)) (λj hj=> ?_) h5 h6⟩
 have:=h4 j vs[j] (by simp[hn,hj])
 rw[Nat.add_zero]at this;rw[this];simp[hn,hj]
def aeO{w:World}{g o:Nat}{cs:Array Value}(hb:pN w g cs):∀(n i:Nat),o+i+n≤cs.size→Gd w ⟨g,o,none⟩ i n=some ((cs.toList.drop (o+i)).take n)
 |0,i,_=>by simp[Gd]
 |n+1,i,h=>by
  unfold Gd;rw[dg,hb.cell,aeO hb n (i+1) af];have e:cs.toList.drop (o+i)=cs[o+i]::cs.toList.drop (o+(i+1)):=by
   rw[List.drop_eq_getElem_cons (by simp;omega)];rfl
  rw[e];simp[show o+i<cs.size by omega]
def akC{o:Nat}{c:Array Value→Prop}(hb:pN w g cs)(hl:o+n≤cs.size)(hc:c ((cs.toList.drop o).take n).toArray):bx n w ⟨g,o,none⟩ c:=by
 unfold bx;rw[aeO hb n 0 af];exact hc
def uu{o len:Nat}{i:Int}{c:Addr→Prop}(h0:0≤i)(h1:i<len)(hc:c ⟨g,o+i.toNat*sz,none⟩):Hf ⟨g,o,none⟩ len i sz c:=⟨⟨h0,h1⟩,by rw[dg];exact hc⟩
def sy(x:Int):Prop:= -9223372036854775808≤x∧x≤9223372036854775807
instance (x:Int):Decidable (sy x):=inferInstanceAs (Decidable (_∧_))
abbrev bv(x:Int):BitVec 64:=BitVec.ofInt 64 x
def aeP{x:Int}(h:sy x):(bv x).toInt=x:=by
 rw[BitVec.toInt_ofInt,Int.bmod_eq_of_le (by simp[sy]at h;omega) (by simp[sy]at h;omega)]
def abU(b:BitVec 64):IntKind.i64.wrap (b.toNat:Int)=b.toInt:=by
 rw[IntKind.wrap_i64,BitVec.toInt_eq_toNat_cond];have:=b.isLt;split<;>omega
def abV(b:BitVec 64):sy b.toInt:=by
 have h1:=b.toInt_lt;have h2:=b.le_toInt;simp at h1 h2;exact⟨af,af⟩
def arm(x:Int):IntKind.i64.wrap x=(bv x).toInt:=by
 rw[IntKind.wrap_i64,BitVec.toInt_ofInt,Int.bmod_def];split<;>omega
def dh{x:Int}(h:sy x):IntKind.i64.wrap x=x:=by rw[arm,aeP h]
def QJ(x y:Int):oH .i64 x y=(bv x&&&bv y).toInt:=abU _
def agi(x y:Int):Ti .i64 x y=(bv x|||bv y).toInt:=abU _
def QK(x y:Int):tU .i64 x y=(bv x&&&~~~ bv y).toInt:=abU _
def DH(b:BitVec 64):bv b.toInt=b:=BitVec.ofInt_toInt
def arn{x i:Int}(h:sy x)(h1:i<64):IR .i64 x i=((bv x).sshiftRight i.toNat).toInt:=by
 rw[BitVec.toInt_sshiftRight,aeP h];unfold IR;have:min i.toNat IntKind.i64.bits=i.toNat:=by simp[IntKind.bits];omega
 rw[this,Int.shiftRight_eq_div_pow,Int.fdiv_eq_ediv_of_nonneg _ (by exact_mod_cast Nat.zero_le (2 ^ i.toNat))]
 simp
def tb(x:Int)(i:Nat):Bool:=(bv x).getLsbD i
def aDf{x i:Int}(h:sy x)(h0:0≤i)(h1:i<64):(oH .i64 (IR .i64 x i) 1==1)=tb x i.toNat:=by
 rw[QJ,arn h h1,DH];have e:bv 1=1#64:=e7;rw[e,BitVec.and_one_eq_setWidth_ofBool_getLsbD,BitVec.getLsbD_sshiftRight];have:(decide (64≤0))=false:=e7;simp only[this,Bool.not_false,Bool.true_and,Nat.add_zero];rw[if_pos af];unfold tb;cases (bv x).getLsbD i.toNat<;>decide
def Vc(x y:Int)(h:i<64):tb (tU .i64 x y) i=(tb x i&& !tb y i):=by
 unfold tb;rw[QK,DH];simp[h]
def aic(x y:Int):sy (tU .i64 x y):=by rw[QK];exact abV _
abbrev BI(w:World)(g:Nat)(l:List Int):Prop:=pN w g (ints l).toArray
abbrev eZ(l:List Int):Array Value:=(ints l).toArray
variable{l:List Int}
def m8{o:Nat}(h:o<l.length):(eZ l)[o]?=some (.int .i64 (l.getD o 0)):=by
 simp[eZ,ints,m0,h]
def BI.cell{w:World}{g:Nat}{l:List Int}(h:BI w g l){o:Nat}(ho:o<l.length):w.cell? ⟨g,o,none⟩=some (.int .i64 (l.getD o 0)):=by
 rw[pN.cell h,m8 ho]
def j3{o:Nat}{c:Int→Prop}(h:BI w g l)(ho:o<l.length)(hc:c (l.getD o 0)):aJ .i64 w ⟨g,o,none⟩ c:=uZ (h.cell ho) hc
def ints_set{o:Nat}{x:Int}:(eZ l).setIfInBounds o (.int .i64 x)=eZ (l.set o x):=by
 simp[eZ,ints,List.map_set]
def CB{o:Nat}{x:Int}{c:ap}(h:BI w g l)(ho:o<l.length)(hc:∀w',BI w' g (l.set o x)→w'.heap.size=w.heap.size→o7 (λk=>k=g) w w'→c w'):bN w ⟨g,o,none⟩ (.int .i64 x) c:=
 abR rfl h (by simpa[eZ,ints]using ho) λw' hb hs ho=>hc w' (by rw[ints_set]at hb;exact hb) hs ho
def agj{a b:Array Value}(h:pN w g a)(e:∀j:Nat,a[j]?=b[j]?):pN w g b:=by
 have:a=b:=by
  obtain⟨a⟩:=a;obtain⟨b⟩:=b;congr 1;exact List.ext_getElem? λj=>gq (e j)
 rwa[←this]
def xT{c:ap}(h:pN w g cs)(hs:cs.size=n)(hl:l.length=n)(hc:∀w',BI w' g l→w'.heap.size=w.heap.size→o7 (λk=>k=g) w w'→c w'):dQ n w ⟨g,0,none⟩ (eZ l) c:=by
 refine agh h (by simpa[eZ,ints]using hl) af (λv hv=>IK v (by simpa[eZ]using hv)) λw' cs' hb hz hk hv ho hs'=>hc w' (agj hb λj=> ?_) hs' ho
 by_cases hj:j<n
 ·have:=hv j hj;rwa[Nat.zero_add]at this
 ·rw[Array.getElem?_eq_none af,Array.getElem?_eq_none (by simp[eZ,ints];omega)]
def aAR{o:Nat}{l':List Int}{c:ap}(h:BI w g l)(hl:l'.length=n)(ho:o+n≤l.length)(hc:∀w',BI w' g (l.take o++(l'++l.drop (o+n)))→w'.heap.size=w.heap.size→o7 (λk=>k=g) w w'→c w'):dQ n w ⟨g,o,none⟩ (eZ l') c:=by
 refine agh h (by simpa[eZ,ints]using hl) (by simpa[eZ,ints]using ho) (λv hv=>IK v (by simpa[eZ]using hv)) λw' cs' hb hz hk hv a hs'=>hc w' (agj hb λj=> ?_) hs' a
 have b:cs'.size=l.length:=by simpa[eZ,ints]using hz
 by_cases h1:j<o
 ·rw[hk j (.inl h1)];simp only[eZ,ints,List.getElem?_toArray,l8];rw[tJ (by simp;omega),List.getElem?_take_of_lt h1]
 ·by_cases h2:j<o+n
  ·have:=hv (j - o) af;rw[show o+(j - o)=j by omega]at this
   rw[this];simp only[eZ,ints,List.getElem?_toArray,l8];rw[u0 (by simp;omega),tJ (by simp;omega)]
   congr 2;simp;omega
  ·rw[hk j (.inr af)];simp only[eZ,ints,List.getElem?_toArray,l8];rw[u0 (by simp;omega),u0 (by simp;omega),List.getElem?_drop]
   congr 2;simp;omega
def kV{c:Array Value→Prop}(h:BI w g l)(hl:l.length=n)(hc:c (eZ l)):bx n w ⟨g,0,none⟩ c:=by
 refine akC h (by simp[eZ,ints];omega) ?_
 have:((eZ l).toList.drop 0).take n=ints l:=by simp[eZ,ints,List.take_of_length_le,hl]
 rw[this];exact hc
def aro{o:Nat}{c:Array Value→Prop}(h:BI w g l)(hl:o+n≤l.length)(hc:c (eZ ((l.drop o).take n))):bx n w ⟨g,o,none⟩ c:=by
 refine akC h (by simpa[eZ,ints]using hl) ?_
 have:((eZ l).toList.drop o).take n=ints ((l.drop o).take n):=by simp[eZ,ints,List.map_take,List.map_drop]
 rw[this];exact hc
def arp{i:Int}{c:Value→Prop}(h0:0≤i)(h1:i<n)(hl:l.length=n)(hc:c (.int .i64 (l.getD i.toNat 0))):ixA (eZ l) n i c:=by
 refine⟨⟨h0,h1⟩,?_⟩;unfold Qq;rw[m8 af];exact hc
def I0{n:Int}{c:Int→Prop}(h:c n):xS .i64 (.int .i64 n) c:=h
def BV{o:Nat}{c:Prop}(h:pN w g cs)(h':pN w' g cs)(hc:c):ai n ⟨g,o,none⟩ w w' c:=
 ⟨λk _=>by rw[dg,h.cell,h'.cell],hc⟩
def WM:∀(os:List Nat) (xs ys:List Int),(∀o∈os,o<xs.length∧o<ys.length)→oZ (eZ xs) (eZ ys) (os.map λo=>(o,0))=some (os.all λo=>xs.getD o 0==ys.getD o 0)
 |[],_,_,_=>rfl
 |o::os,xs,ys,h=>by
  have h1:=h o bf;simp only[List.map_cons,oZ,m8 h1.1,m8 h1.2,eqC,if_true];rw[WM os xs ys λo ho=>h o (by simp[ho])]
  simp
def akD{xs ys:List Int}{c:Bool→Prop}(hx:xs.length=n)(hy:ys.length=n)(hc:c (decide (xs=ys))):Tj ((List.range n).map λo=>(o,0)) (eZ xs) (eZ ys) c:=by
 unfold Tj;rw[WM _ _ _ λo ho=>by simp at ho;omega]
 have e:((List.range n).all λo=>xs.getD o 0==ys.getD o 0)=decide (xs=ys):=by
  rw[Bool.eq_iff_iff,decide_eq_true_eq,tL];constructor
  ·intro h;apply List.ext_getElem?;intro j;by_cases hj:j<n
   ·have:=h j (gq hj)
    simp only[m0,beq_iff_eq]at this;rw[iH af,iH af]at this ⊢;simpa using this
   ·rw[List.getElem?_eq_none af,List.getElem?_eq_none af]
  ·rintro rfl o _;simp
 rw[e];exact hc
def abW(L:List Value)(n:Nat)(v:Value):(L.set n v).take n=L.take n:=by
 apply List.ext_getElem?;intro j;rw[List.getElem?_take,List.getElem?_take];split
 ·rw[r0 af]
 ·rfl
def agk(L:List Value)(n m:Nat)(v:Value)(h:n<m):(L.set n v).drop m=L.drop m:=by
 apply List.ext_getElem?;intro j;rw[List.getElem?_drop,List.getElem?_drop,r0 af]
def abX(off:Nat):∀(cs:List Value) (k:Nat) (L:List Value),off+k+cs.length≤L.length→
  (cs.zipIdx k).foldl (fun(a:List Value) (x:Value×Nat)=>a.set (off+x.2) x.1) L=L.take (off+k)++(cs++L.drop (off+k+cs.length))
 |[],k,L,h=>by simp
 |v::cs,k,L,h=>by
  simp only[List.length_cons]at h;rw[List.zipIdx_cons,List.foldl_cons,abX off cs (k+1) _ (by simp;omega)]
  simp only[List.length_cons];rw[agk _ _ _ _ af,show off+(k+1)=off+k+1 by omega,List.take_add_one,abW,uO af]
  rw[show off+k+1+cs.length=off+k+(cs.length+1) by omega]
  simp
def WN(off:Nat):∀(l:List (Value×Nat)) (acc:Array Value),(l.foldl (fun(a:Array Value) (x:Value×Nat)=>a.setIfInBounds (off+x.2) x.1) acc).toList=l.foldl (fun(a:List Value) (x:Value×Nat)=>a.set (off+x.2) x.1) acc.toList
 |[],_=>rfl
 |x::l,acc=>by rw[List.foldl_cons,List.foldl_cons,WN off l];simp
def aoA(off:Nat)(cs:List Value)(acc:Array Value)(h:off+cs.length≤acc.size):
  (cs.zipIdx 0).foldl (fun(a:Array Value) (x:Value×Nat)=>a.setIfInBounds (off+x.2) x.1) acc=(acc.toList.take off++(cs++acc.toList.drop (off+cs.length))).toArray:=by
 have h1:=WN off (cs.zipIdx 0) acc;rw[abX off cs 0 _ (gq h),Nat.add_zero]at h1
 rw[←h1]
def arq{acc cs:List Value}{off size:Nat}{c:Array Value→Prop}(r:List Value)(h:cs.length=size)(ho:off+size≤acc.length)(hr:acc.take off++(cs++acc.drop (off+size))=r)(hc:c r.toArray):kT acc.toArray off size cs.toArray c:=by
 refine⟨by simp[h],?_⟩
 have:=aoA off cs acc.toArray (by simp;omega)
 rw[←Array.foldl_toList];have e:cs.toArray.zipIdx.toList=cs.zipIdx 0:=by simp
 rw[e];have e2:(fun(cs:Array Value) (x:Value×Nat)=>cs.setIfInBounds (off+x.2) x.1)=fun(cs:Array Value) (x:Value×Nat)=>match x with|(x,j)=>cs.setIfInBounds (off+j) x:=by
  funext cs x;cases x;rfl
 rw[e2]at this;rw[this];have a:acc.toArray.toList=acc:=rfl;rw[a,h,hr];exact hc
def qL{acc:Array Value}{off size:Nat}{c:Array Value→Prop}(r:Array Value)(h:cs.size=size)(hr:cs.zipIdx.foldl (λcs (x,j)=>cs.setIfInBounds (off+j) x) acc=r)(hc:c r):kT acc off size cs c:=by
 subst hr;exact⟨h,hc⟩
def akE{a:Addr}{v:Value}{c:Value→Prop}(h:w.cell? a=some v)(hc:c v):tH w a c:=by
 simp only[tH,rd,h];exact hc
def ars{o c:Nat}{i:Int}{k:Addr→Prop}(h0:0≤i)(h1:i<n)(hk:k ⟨g,o+i.toNat*sz,none⟩):cN ⟨some ⟨g,o,none⟩,n,c⟩ i sz k:=⟨⟨h0,h1⟩,by rw[dg];exact hk⟩
open Go Go.RowKit Go.ChangeShapes Go.WideShapes
def QL{H:Type}{enc:TypeId×Value→H}{P:Program}(hl:laidOutB P=true){W W':World}(hb:Below W.heap.size W W'):
  ∀{ts:List TypeId} {vs:List Value} {ds:List (DataW H)} {ps:List MemPlace},ts.all (λt=>P.readableRec t&&decide (t<P.types.size))=true→DataW.TrodAll enc P W 0 (λ_=>true) true ts vs ds ps→(∀x∈ps,x.block<W.heap.size)→
   DataW.TrodAll enc P W' 0 (λb=>decide (b<W.heap.size)) true ts vs ds ps
 |[],[],[],_,_,h,_=>h
 |[],_::_,_,_,_,h,_=>h.elim
 |[],[],_::_,_,_,h,_=>h.elim
 |_::_,[],_,_,_,h,_=>h.elim
 |_::_,_::_,[],_,_,h,_=>h.elim
 |t::ts,v::vs,d::ds,ps,hr,h,hlt=>by
  obtain⟨p,q,h1,h2,rfl⟩:=h;simp only[List.all_cons,iY,decide_eq_true_eq]at hr;exact⟨p,q,Below.trod hl hr.1.1 hr.1.2 h1 hb (λx hx=>hlt x (by simp[hx])),QL hl hb hr.2 h2 (λx hx=>hlt x (by simp[hx])),rfl⟩
def UD{H:Type}{enc:TypeId×Value→H}{P:Program}{w:World}{base:Nat}{spare:Nat→Bool}{held:Bool}:
  ∀{ts:List TypeId} {vs:List Value} {ds:List (DataW H)} {ps:List MemPlace},DataW.TrodAll enc P w base spare held ts vs ds ps→ds.length=ts.length
 |[],[],[],_,_=>rfl
 |[],_::_,_,_,h=>h.elim
 |[],[],_::_,_,h=>h.elim
 |_::_,[],_,_,h=>h.elim
 |_::_,_::_,[],_,h=>h.elim
 |_::_,_::_,_::_,_,h=>by
  obtain⟨p,q,h1,h2,rfl⟩:=h;simp[UD h2]
def zx(P:Program)(w:World)(t:TypeId)(cs:List Value):Prop:=
 ∃(H:Type) (enc:TypeId×Value→H) (spare:Nat→Bool) (held:Bool) (fuel:Nat) (d:DataW H) (ps:List MemPlace),
  DataW.trod enc P w 0 spare held fuel t cs=some (d,ps)∧∀n∈d.weights P t,n≤reachBytes
structure Arg (P:Program) (w:World) (t:TypeId) (v:Value):Prop where
 form:∃base,Value.okWide P w .any base t v
 reads:zx P w t v.cells.toList
def WO(P:Program)(w:World):List TypeId→List Value→Prop
 |[],[]=>True
 |t::ts,v::vs=>Arg P w t v∧WO P w ts vs
 |_,_=>False
def WO.cons{P:Program}{w:World}{t:TypeId}{ts:List TypeId}{vs:List Value}(h:WO P w (t::ts) vs):∃v vs',vs=v::vs'∧Arg P w t v∧WO P w ts vs':=by
 cases vs with
 |nil=>exact h.elim
 |cons v vs=>exact⟨v,vs,rfl,h.1,h.2⟩
def WO.nil{P:Program}{w:World}{vs:List Value}(h:WO P w [] vs):vs=[]:=by
 cases vs with
 |nil=>rfl
 |cons v vs=>exact h.elim
def aid{H:Type}{enc:TypeId×Value→H}{P:Program}{w:World}:
  ∀{ts:List TypeId} {vs:List Value} {ds:List (DataW H)} {ps:List MemPlace} {base:Nat},(∀(j:Nat) t v,ts[j]?=some t→vs[j]?=some v→Value.okWide P w .any base t v)→
   DataW.TrodAll enc P w 0 (λ_=>true) true ts vs ds ps→(∀n∈DataW.weightsEach P ts ds,n≤reachBytes)→WO P w ts vs
 |[],[],[],_,_,_,_,_=>trivial
 |[],_::_,_,_,_,_,h,_=>h.elim
 |[],[],_::_,_,_,_,h,_=>h.elim
 |_::_,[],_,_,_,_,h,_=>h.elim
 |_::_,_::_,[],_,_,_,h,_=>h.elim
 |t::ts,v::vs,d::ds,_,base,hv,h,hw=>by
  obtain⟨p,q,⟨fuel,h1⟩,h2,rfl⟩:=h;simp only[DataW.weightsEach,zw]at hw;exact⟨⟨⟨base,hv 0 t v rfl rfl⟩,⟨H,enc,_,_,fuel,d,p,h1,λn hn=>hw n (.inl hn)⟩⟩,aid (λj t' v' ht Gq=>hv (j+1) t' v' (gq ht) (gq Gq)) h2 λn hn=>hw n (.inr hn)⟩
variable{es:List (List Value)}
section
def awX{n:Int}(h:(Lit.int .i64 n).wf=true):sy n:=by
 simp[Lit.wf,IntKind.min,IntKind.max,IntKind.signed,IntKind.bits]at h;exact⟨af,af⟩
def zx.int{t:TypeId}{cs:List Value}(ht:P.underlying t=some (.int .i64))(h:zx P w t cs):∃n,cs=[.int .i64 n]∧sy n:=by
 obtain⟨H,enc,spare,held,fuel,d,ps,h,_⟩:=h;cases fuel with
 |zero=>simp[DataW.trod]at h
 |succ m=>
  unfold DataW.trod at h;rw[ht]at h;split at h<;>simp_all;rename_i hk;obtain⟨⟨_,h2⟩,_⟩:=h;subst hk;exact awX h2
def Hl{H:Type}{e:TypeId}:∀{ds:List (DataW H)} {d:DataW H} {n:Nat},d∈ds→n∈d.weights P e→n∈DataW.weightsAll P e ds
 |d0::ds,d,n,hd,hn=>by
  simp only[DataW.weightsAll,zw];rcases List.mem_cons.1 hd with rfl|hd
  ·exact .inl hn
  ·exact .inr (Hl hd hn)
def zx.struct{t:TypeId}{fs:Array Field}{cs:List Value}(ht:P.underlying t=some (.struct fs))(h:zx P w t cs):
  cs.length=P.cellsOf t∧∀(i:Nat) (f:Field),fs[i]?=some f→zx P w f.type ((cs.drop f.offset).take (P.cellsOf f.type)):=by
 obtain⟨H,enc,spare,held,fuel,d,ps,h,hw⟩:=h;obtain⟨xs,n,_,hx,hl,a,b⟩:=DataW.trod_struct ht h;cases hx
 refine⟨hl,λi f hf=> ?_⟩;have hi:i<xs.length:=by rw[a];exact(Bf.1 hf).1
 have:=b i f hf;rw[iH hi]at this;refine⟨H,enc,spare,held,n,xs[i].1,xs[i].2,this,λm hm=>hw m ?_⟩;simp only[DataW.weights,ht];exact DataW.weights_mem_each (j:=i) (by simp[hf]) (by simp[hi]) m hm
def zx.array{t e:TypeId}{k:Nat}{cs:List Value}(ht:P.underlying t=some (.array k e))(h:zx P w t cs):
  cs.length=P.cellsOf t∧∀i,i<k→zx P w e ((cs.drop (i*P.cellsOf e)).take (P.cellsOf e)):=by
 obtain⟨H,enc,spare,held,fuel,d,ps,h,hw⟩:=h;obtain⟨xs,n,_,hx,hl,b,a⟩:=DataW.trod_array ht h;cases hx
 refine⟨hl,λi hi=> ?_⟩;have:=a i hi;rw[iH af]at this;refine⟨H,enc,spare,held,n,xs[i].1,xs[i].2,this,λm hm=>hw m ?_⟩;simp only[DataW.weights,ht];exact Hl (List.mem_map.2 ⟨xs[i],List.getElem_mem _,rfl⟩) hm
structure QM (sz:Nat) (w:World) (s:Sl) (es:List (List Value)):Prop where
 len:es.length=s.n
 row:∀i e,es[i]?=some e→e.length=sz∧∃p,s.a=some p∧∀j v,e[j]?=some v→w.cell? ((p.add (i*sz)).add j)=some v
def QM.keep(h:QM sz w s es)(ho:o7 S w w')(hs:∀p,s.a=some p→¬S p.block):QM sz w' s es:=
 ⟨h.len,λi e he=>by
  obtain⟨h1,p,hp,hc⟩:=h.row i e he;refine⟨h1,p,hp,λj v hv=>ho.cell ?_ (hc j v hv)⟩;have:((p.add (i*sz)).add j).block=p.block:=by rw[block_add,block_add]
  rw[this];exact hs p hp⟩
def QM.ext(h:QM sz w s es)(ho:Ext w w'):QM sz w' s es:=h.keep ho λ_ _ h=>h
def akF{i:Int}{c:Addr→Prop}(h:QM sz w s es)(h0:0≤i)(h1:i<s.n)
  (hc:∀p e,es[i.toNat]?=some e→e.length=sz→(∀j v,e[j]?=some v→w.cell? (p.add j)=some v)→c p):cN s i sz c:=by
 have hlen:=h.len;obtain⟨h2,p,hp,hcell⟩:=h.row i.toNat es[i.toNat] (iH af);unfold cN;rw[hp];exact⟨⟨h0,h1⟩,hc _ _ (iH af) h2 hcell⟩
def akG{base:Nat}{a:Addr}(h:w.cells? base a n=some vs):vs.length=n∧∀j v,vs[j]?=some v→w.cell? (a.add j)=some v:=by
 have hs:=World.cells?_some h;refine⟨gq hs.2.1,λj v hv=> ?_⟩
 have hj:=(kB.1 hv).1;have:=hs.2.2 j af;rw[this];exact hv
def zx.slice{t e:TypeId}{cs:List Value}(ht:P.underlying t=some (.slice e))(h:zx P w t cs):
  ∃(s:Sl) (es:List (List Value)),cs=[.slice s.a s.n s.c]∧QM (P.cellsOf e) w s es∧es.length*P.bytesOf e≤reachBytes∧s.n≤s.c∧s.c≤9223372036854775807∧∀e'∈es,zx P w e e':=by
 obtain⟨H,enc,spare,held,fuel,d,ps,h,hw⟩:=h;rcases DataW.trod_slice ht h with⟨rfl,_⟩|⟨a,len,cap,elems,rest,n,_,rfl,hx,hb,hl,hm,hlen,hel,hsp,b⟩
 ·exact⟨⟨none,0,0⟩,[],rfl,⟨rfl,λi e h=>by simp at h⟩,bf,iw _,bf,bf⟩
 ·cases hx
  simp only[DataW.weights,ht]at hw;have each:∀i,i<len→∃vs,w.cells? 0 (a.add (i*P.cellsOf e)) (P.cellsOf e)=some vs∧∃x,elems[i]?=some x∧DataW.trod enc P w 0 spare held n e vs=some x:=by
   intro i hi;have h1:=hel i hi;rw[iH af]at h1;cases hc:w.cells? 0 (a.add (i*P.cellsOf e)) (P.cellsOf e)with
   |none=>rw[hc]at h1;simp at h1
   |some vs=>rw[hc]at h1;exact⟨vs,rfl,elems[i],iH af,h1⟩
  refine⟨⟨some a,len,cap⟩,(List.range len).map λi=>(w.cells? 0 (a.add (i*P.cellsOf e)) (P.cellsOf e)).getD [],rfl,⟨bf,λi e' he=> ?_⟩,?_,hl,by unfold maxLen at hm;exact hm,λe' he'=> ?_⟩
  ·have hi:i<len:=by have:=(kB.1 he).1;simpa using this
   obtain⟨vs,hvs,_⟩:=each i hi;simp[hi,hvs]at he;subst he;obtain⟨h1,h2⟩:=akG hvs;exact⟨h1,a,rfl,h2⟩
  ·have:=hw ((elems.length+rest.length)*P.bytesOf e) bf;simp only[List.length_map,List.length_range]at this ⊢;exact Nat.le_trans (Nat.mul_le_mul_right _ af) this
  ·obtain⟨i,hi,rfl⟩:=List.mem_map.1 he';obtain⟨vs,hvs,x,hx,ht'⟩:=each i (gq hi)
   rw[hvs];refine⟨H,enc,spare,held,n,x.1,x.2,ht',λm hm=>hw m ?_⟩;refine List.mem_cons_of_mem _ (zw.2 (.inl (Hl (List.mem_map.2 ⟨x,qn hx,rfl⟩) hm)))
def zy{A B:Type}{f:A→B}{G:A→Prop}:∀{es:List B},(∀e∈es,∃x,e=f x∧G x)→∃l:List A,es=l.map f∧∀x∈l,G x
 |[],_=>⟨[],rfl,bf⟩
 |e::es,h=>by
  obtain⟨x,rfl,hx⟩:=h e bf;obtain⟨l,rfl,hl⟩:=zy (es:=es) λe he=>h e (by simp[he])
  exact⟨x::l,rfl,λy hy=>by rcases List.mem_cons.1 hy with rfl|hy;exact hx;exact hl y hy⟩
def Arg.int{t:TypeId}{v:Value}(ht:P.underlying t=some (.int .i64))(h:Arg P w t v):∃n,v= .int .i64 n∧sy n:=by
 obtain⟨b,hf⟩:=h.form;obtain⟨n,rfl⟩:=okWide_int ht hf;obtain⟨m,hm,hI⟩:=h.reads.int ht;have:n=m:=by simpa[Value.cells]using hm
 exact⟨n,rfl,this▸hI⟩
def Arg.agg{t:TypeId}{v:Value}(ht:(∃n e,P.underlying t=some (.array n e))∨∃fs,P.underlying t=some (.struct fs))(h:Arg P w t v):∃cs,v= .agg cs∧zx P w t cs.toList:=by
 obtain⟨b,hf⟩:=h.form;have hv:∃cs,v= .agg cs:=by
  rcases ht with⟨n,e,ht⟩|⟨fs,ht⟩;all_goals
   simp only[Value.okWide,ht]at hf;obtain⟨cs,h1,_⟩:=hf;exact⟨cs,h1⟩
 obtain⟨cs,rfl⟩:=hv;exact⟨cs,rfl,by simpa[Value.cells]using h.reads⟩
end
def Vd(P:Program):Nat→TypeId→Bool
 |0,_=>false
 |n+1,t=>match P.underlying t with
  |some (.int .i64)=>true
  |some (.struct fs)=>fs.all (λf=>Vd P n f.type)&&(List.range (P.cellsOf t)).all λj=>fs.any λf=>decide (f.offset≤j∧j<f.offset+P.cellsOf f.type)
  |some (.array k e)=>Vd P n e&&decide (P.cellsOf t=k*P.cellsOf e)&&decide (0<P.cellsOf e)
  |_=>false
def aeQ{cs:List Value}{o:Nat}(h0:o≤j)(h1:j<o+n)(h2:j<cs.length):cs[j] ∈(cs.drop o).take n:=by
 apply qn (i:=j - o);rw[List.getElem?_take_of_lt af,List.getElem?_drop,show o+(j - o)=j by omega,iH h2]
def zx.flat{P:Program}{w:World}:∀{n:Nat} {t:TypeId} {cs:List Value},Vd P n t=true→zx P w t cs→∀c∈cs,∃z,c= .int .i64 z∧sy z
 |0,_,_,h,_=>by cases h
 |n+1,t,cs,h,hr=>by
  unfold Vd at h;split at h
  ·rename_i ht;obtain⟨z,rfl,hz⟩:=hr.int ht;intro c hc;rw[List.mem_singleton]at hc;exact⟨z,hc,hz⟩
  ·rename_i fs ht;obtain⟨hl,hf⟩:=hr.struct ht;simp only[iY,tL]at h;intro c hc;obtain⟨j,hj,rfl⟩:=List.getElem_of_mem hc;have h2:=h.2 j (by simp;omega)
   obtain⟨i,hi,a⟩:=Array.any_eq_true.1 h2;have a:=of_decide_eq_true a;have b:=(Array.all_eq_true.1 h.1) i hi;exact zx.flat b (hf i fs[i] bf) _ (aeQ a.1 a.2 hj)
  ·rename_i k e ht;obtain⟨hl,hf⟩:=hr.array ht;simp only[iY,decide_eq_true_eq]at h;obtain⟨⟨h1,h2⟩,h3⟩:=h;intro c hc;obtain⟨j,hj,rfl⟩:=List.getElem_of_mem hc;have hdiv:j / P.cellsOf e<k:=by
    rw[Nat.div_lt_iff_lt_mul h3];omega
   have hm:=Nat.div_add_mod j (P.cellsOf e);have hlt:=Nat.mod_lt j h3;rw[Nat.mul_comm]at hm;exact zx.flat h1 (hf (j / P.cellsOf e) hdiv) _ (aeQ af af hj)
  ·cases h
def zx.len{cs:List Value}(ht:(∃n e,P.underlying t=some (.array n e))∨∃fs,P.underlying t=some (.struct fs))(h:zx P w t cs):cs.length=P.cellsOf t:=by
 rcases ht with⟨n,e,ht⟩|⟨fs,ht⟩
 ·exact(h.array ht).1
 ·exact(h.struct ht).1
def Arg.flat{P:Program}{w:World}{t:TypeId}{v:Value}{n k:Nat}(ht:(∃n e,P.underlying t=some (.array n e))∨∃fs,P.underlying t=some (.struct fs))(hf:Vd P n t=true)(hc:P.cellsOf t=k)(h:Arg P w t v):
  ∃xs:List Int,v= .agg (Go.Ev.ints xs).toArray∧xs.length=k∧∀y∈xs,sy y:=by
 obtain⟨cs,rfl,hr⟩:=h.agg ht;obtain⟨xs,hx,hI⟩:=zy (hr.flat hf);refine⟨xs,?_,?_,hI⟩
 ·have:cs=(xs.map (Value.int .i64)).toArray:=by rw[←hx]
  rw[this]
 ·have:=hr.len ht;rw[hx,hc]at this;simpa using this
def art:∀(k:K) (x:k.T) (c:k.T→Prop),unV k (k.v x) c=c x
 | .i k,x,c=>by simp[unV,K.v,xS]
 | .b,x,c=>rfl
 | .p,x,c=>rfl
 | .a,x,c=>rfl
 | .s,x,c=>rfl
 | .str,x,c=>rfl
 | .m,x,c=>rfl
 | .ag,x,c=>rfl
 | .raw,x,c=>rfl
def aie:∀(ks:List K) (x:KT ks) (c:KT ks→Prop),qW ks (dL ks x) c=c x
 |[],x,c=>rfl
 |[k],x,c=>art k x c
 |k::(y::r),x,c=>by
  show unV k (k.v x.1) (λz=>qW (y::r) (dL (y::r) x.2) λxs=>c (z,xs))=c x;rw[art,aie (y::r)];rfl
def uY.call{qm ur:List K}{F:KT qm→World→(KT ur→ap)→Prop}(h:uY P f λargs w c=>qW qm args λx=>F x w λr w=>c (e9 (dL ur r)) w){W:World}{Q:Ending→ap}(x:KT qm)(ha:args.toList=dL qm x)
  (hF:F x W λr w=>Q (.returned (e9 (dL ur r))) w):Calls P f args W Q:=by
 refine(h.2 args W (λv w=>Q (.returned v) w) ?_).mono ?_
 ·rw[ha];show qW qm (dL qm x) _;rw[aie];exact hF
 ·rintro e w' ⟨v,rfl,hv⟩;exact hv
structure HP where
 p:(Nat→Prop)→ap
 lt:∀{F w g},p F w→F g→g<w.heap.size
 keep:∀{F w w'},p F w→(∀g,F g→w'.heap[g]?=w.heap[g]?)→p F w'
def u4:List HP→(Nat→Prop)→ap
 |[],F,_=> ∀g,¬F g
 |R::L,F,w=> ∃F1 F2,R.p F1 w∧u4 L F2 w∧(∀g,F1 g→¬F2 g)∧∀g,F g↔(F1 g∨F2 g)
def DI:∀{L:List HP} {F w g},u4 L F w→F g→g<w.heap.size
 |[],F,w,g,h,hg=>(h g hg).elim
 |R::L,F,w,g,⟨a,b,h1,h2,_,e⟩,hg=>by
  rcases (e g).1 hg with hg|hg
  ·exact R.lt h1 hg
  ·exact DI h2 hg
def FD:∀{L:List HP} {F w w'},u4 L F w→(∀g,F g→w'.heap[g]?=w.heap[g]?)→u4 L F w'
 |[],F,w,w',h,_=>h
 |R::L,F,w,w',⟨a,b,h1,h2,hd,e⟩,hk=>
  ⟨a,b,R.keep h1 λg hg=>hk g ((e g).2 (.inl hg)),FD h2 λg hg=>hk g ((e g).2 (.inr hg)),hd,e⟩
def aoB:∀{L:List HP} {F G w},(∀g,F g↔G g)→u4 L F w→u4 L G w
 |[],F,G,w,hfg,h=>λg hg=>h g ((hfg g).2 hg)
 |R::L,F,G,w,hfg,⟨a,b,h1,h2,hd,e⟩=>⟨a,b,h1,h2,hd,λg=>(hfg g).symm.trans (e g)⟩
variable{R:HP}{L:List HP}
def I1{S:HP}{F w}(h:u4 (R::S::L) F w):u4 (S::R::L) F w:=by
 obtain⟨c,j,h1,⟨f,d,h3,h4,i,e'⟩,hd,e⟩:=h;refine⟨f,λg=>c g∨d g,h3,⟨c,d,h1,h4,λg hg a=>hd g hg ((e' g).2 (.inr a)),λg=>Iff.rfl⟩,λg hg b=> ?_,λg=> ?_⟩
 ·rcases b with h|h
  ·exact hd g h ((e' g).2 (.inl hg))
  ·exact i g hg h
 ·rw[e,e'];constructor<;>(intro h;rcases h with h|h|h<;>simp[h])
structure St (w0 w:World) (L:List HP):Prop where
 ext:Ext w0 w
 sep:∃F,u4 L F w∧∀g,F g→w0.heap.size≤g
def St.nil(w:World):St w w []:=⟨.refl _ _,λ_=>False,λ_ h=>h,λ_ h=>h.elim⟩
variable{w0:World}
def St.awZ(h:Ext w0 w):St w0 w []:=⟨h,λ_=>False,λ_ h=>h,λ_ h=>h.elim⟩
def St.on(h:St w0 w L)(he:Ext w w'):St w0 w' L:=by
 obtain⟨h1,F,h2,h3⟩:=h;exact⟨h1.trans he,F,FD h2 λg hg=>he.block g (DI h2 hg) λh=>h,h3⟩
def St.swap{S:HP}(h:St w0 w (R::S::L)):St w0 w (S::R::L):=by
 obtain⟨h1,F,h2,h3⟩:=h;exact⟨h1,F,I1 h2,h3⟩
def St.drop(h:St w0 w (R::L)):St w0 w L:=by
 obtain⟨h1,F,⟨b,a,h2,h4,h5,e⟩,h3⟩:=h;exact⟨h1,a,h4,λg hg=>h3 g ((e g).2 (.inr hg))⟩
def St.all(h:St w0 w L):St w0 w []:=St.awZ h.ext
variable{X:HP}
def St.new{F':Nat→Prop}(h:St w0 w L)(he:Ext w w')(hx:X.p F' w')(hf:∀g,F' g→w.heap.size≤g):St w0 w' (X::L):=by
 obtain⟨h1,F,h2,h3⟩:=h;refine⟨h1.trans he,λg=>F' g∨F g,⟨F',F,hx,FD h2 λg hg=>he.block g (DI h2 hg) λh=>h,λg hg a=> ?_,λ_=>Iff.rfl⟩,λg hg=> ?_⟩
 ·have:=hf g hg;have:=DI h2 a;omega
 ·rcases hg with hg|hg
  ·have:=hf g hg;have:=h1.size;omega
  ·exact h3 g hg
def St.aeR(h:St w0 w (R::L))(hx:∀a,R.p a w→o7 a w w'∧∃F',X.p F' w'∧∀g,F' g→a g∨w.heap.size≤g):St w0 w' (X::L):=by
 obtain⟨h1,F,⟨a,b,h2,h4,h5,e⟩,h3⟩:=h;obtain⟨ho,F',hx,hf⟩:=hx a h2;have d:u4 L b w':=FD h4 λg hg=>ho.block g (DI h4 hg) λh=>h5 g h hg;refine⟨h1.then ho λg hg=>h3 g ((e g).2 (.inl hg)),λg=>F' g∨b g,⟨F',b,hx,d,λg hg c=> ?_,λ_=>Iff.rfl⟩,λg hg=> ?_⟩
 ·rcases hf g hg with h|h
  ·exact h5 g h c
  ·have:=DI h4 c;omega
 ·rcases hg with hg|hg
  ·rcases hf g hg with h|h
   ·exact h3 g ((e g).2 (.inl h))
   ·have:=h1.size;omega
  ·exact h3 g ((e g).2 (.inr hg))
def St.look(h:St w0 w (R::L)):∃F,R.p F w∧∀g,F g→w0.heap.size≤g:=by
 obtain⟨h1,F,⟨a,b,h2,h4,h5,e⟩,h3⟩:=h;exact⟨a,h2,λg hg=>h3 g ((e g).2 (.inl hg))⟩
def St.conv(h:St w0 w (R::L))(hx:∀F,R.p F w→X.p F w):St w0 w (X::L):=by
 obtain⟨h1,F,⟨a,b,h2,h4,h5,e⟩,h3⟩:=h;exact⟨h1,F,⟨a,b,hx a h2,h4,h5,e⟩,h3⟩
class At {α:Type} (L:List HP) (k:α→HP) (x:outParam α) (f:outParam (HP→List HP)):Prop where
 split:∃R,(∀{F w},u4 L F w→u4 (k x::R) F w)∧∀{X F w},u4 (X::R) F w→u4 (f X) F w
instance (priority:=high) At.here {α:Type} {L:List HP} {k:α→HP} {x:α}:At (k x::L) k x (λX=>X::L):=⟨⟨L,id,id⟩⟩
instance At.there {α:Type} {L:List HP} {k:α→HP} {x:α} {Y:HP} {f:HP→List HP} [a:At L k x f]:At (Y::L) k x (λX=>Y::f X):=by
 constructor
 obtain⟨R,h1,h2⟩:=a.split
 refine⟨Y::R,λh=>I1 ?_,λh=> ?_⟩
 ·obtain⟨F1,F2,k2,k4,k5,e⟩:=h
  exact⟨F1,F2,k2,h1 k4,k5,e⟩
 ·obtain⟨F1,F2,k2,k4,k5,e⟩:=I1 h
  exact⟨F1,F2,k2,h2 k4,k5,e⟩
variable{α:Type}
def At.out{k:α→HP}{x:α}{f:HP→List HP}(a:At L k x f):∃R,(∀{w0 w},St w0 w L→St w0 w (k x::R))∧∀{X w0 w},St w0 w (X::R)→St w0 w (f X):=by
 obtain⟨R,h1,h2⟩:=a.split;exact⟨R,fun⟨a,F,b,c⟩=>⟨a,F,h1 b,c⟩,fun⟨a,F,b,c⟩=>⟨a,F,h2 b,c⟩⟩
def St.look'{k:α→HP}{x:α}{f:HP→List HP}(h:St w0 w L)(a:At L k x f):∃F,(k x).p F w∧∀g,F g→w0.heap.size≤g:=by
 obtain⟨R,h1,h2⟩:=a.out;exact(h1 h).look
def St.M8{k:α→HP}{x:α}{f:HP→List HP}(h:St w0 w L)(a:At L k x f)(hx:∀b,(k x).p b w→o7 b w w'∧∃F',X.p F' w'∧∀g,F' g→b g∨w.heap.size≤g):St w0 w' (f X):=by
 obtain⟨R,h1,h2⟩:=a.out;exact h2 ((h1 h).aeR hx)
def St.agl{k:α→HP}{x:α}{f:HP→List HP}(h:St w0 w L)(a:At L k x f)(hx:∀F,(k x).p F w→X.p F w):St w0 w (f X):=by
 obtain⟨R,h1,h2⟩:=a.out;exact h2 ((h1 h).conv hx)
def Z1:∀{L:List HP} {n:Nat} {X:HP} {F w},L[n]?=some X→u4 L F w→u4 (X::L.eraseIdx n) F w
 |[],n,X,F,w,h,_=>by simp at h
 |R::L,0,X,F,w,h,hs=>by simp at h;subst h;exact hs
 |R::L,n+1,X,F,w,h,⟨a,b,h1,h2,h3,h4⟩=>by
  have:=Z1 (gq h) h2
  exact I1 ⟨a,b,h1,this,h3,h4⟩
def St.front(h:St w0 w L)(n:Nat)(e:L[n]?=some X):St w0 w (X::L.eraseIdx n):=⟨h.ext,by obtain⟨F,h1,h2⟩:=h.sep;exact⟨F,Z1 e h1,h2⟩⟩
def St.rm(h:St w0 w L)(n:Nat)(e:L[n]?=some X):St w0 w (L.eraseIdx n):=(h.front n e).drop
def aif{a:Addr}{c:Prop}(hc:c):ai n a w w c:=⟨λ_ _=>rfl,hc⟩
def au(g:Nat)(cs:List Value):HP where
 p F w:=(∀k,F k↔k=g)∧pN w g cs.toArray
 lt:=fun⟨e,h⟩ hg=>by rw[(e _).1 hg];exact h.lt
 keep:=fun⟨e,h⟩ hk=>⟨e,by obtain⟨t,h⟩:=h;exact⟨t,(hk _ ((e _).2 rfl)).trans h⟩⟩
section
variable{cs:List Value}{f:HP→List HP}
def St.au(h:St w0 w L)[a:At L (au g) cs f]:pN w g cs.toArray:=by
 obtain⟨F,h1,_⟩:=h.look' a;exact h1.2
def aM{a:Array Value}{c:Addr→ap}(h:St w0 w L)(hc:∀g w',St w0 w' (Ev.au g a.toList::L)→c ⟨g,0,none⟩ w'):aE w a t c:=
 jJ λg w' hg hs hb he=>hc g w' (h.new he ⟨λ_=>Iff.rfl,hb⟩ λk hk=>by omega)
def cH{c:ap}(h:St w0 w L)(hc:∀w',St w0 w' L→c w'):drew w c:=M6 λw' _ he=>hc w' (h.on he)
def j4{o:Nat}{v:Value}{c:ap}(h:St w0 w L)[a:At L (Ev.au g) cs f](h1:v.oneCell'=true)(ho:o<cs.length)(hc:∀w',St w0 w' (f (Ev.au g (cs.set o v)))→c w'):bN w ⟨g,o,none⟩ v c:=by
 refine abR h1 h.au (gq ho) λw' hb hs b=>hc w' (h.M8 a λd hF=>⟨b.mono λk _ hk=>(hF.1 k).2 hk,λk=>k=g,⟨λ_=>Iff.rfl,?_⟩,λk hk=> .inl ((hF.1 k).2 hk)⟩)
 rw[List.setIfInBounds_toArray]at hb;exact hb
def cr{o:Nat}{n:Int}{c:Int→Prop}(h:St w0 w L)[a:At L (Ev.au g) cs f](hv:cs[o]?=some (.int k n))(hc:c n):aJ k w ⟨g,o,none⟩ c:=uZ (by rw[h.au.cell];simpa using hv) hc
def akI{o:Nat}{n:Bool}{c:Bool→Prop}(h:St w0 w L)[a:At L (Ev.au g) cs f](hv:cs[o]?=some (.bool n))(hc:c n):He w ⟨g,o,none⟩ c:=akB (by rw[h.au.cell];simpa using hv) hc
def CC{o:Nat}{n:Option Addr}{c:Option Addr→Prop}(h:St w0 w L)[a:At L (Ev.au g) cs f](hv:cs[o]?=some (.pointer n))(hc:c n):aQ w ⟨g,o,none⟩ c:=ark (by rw[h.au.cell];simpa using hv) hc
def ea{o:Nat}{p:Option Addr}{c:Sl→Prop}(h:St w0 w L)[a:At L (Ev.au g) cs f](hv:cs[o]?=some (.slice p n m))(hc:c ⟨p,n,m⟩):cy w ⟨g,o,none⟩ c:=IY (by rw[h.au.cell];simpa using hv) hc
def aih{o:Nat}{n:ByteArray}{c:ByteArray→Prop}(h:St w0 w L)[a:At L (Ev.au g) cs f](hv:cs[o]?=some (.string n))(hc:c n):Qp w ⟨g,o,none⟩ c:=by
 have:w.cell? ⟨g,o,none⟩=some (.string n):=by rw[h.au.cell];simpa using hv
 simp[Qp,rd,this,Yo,hc]
def abY{o:Nat}{n:Option Nat}{c:Option Nat→Prop}(h:St w0 w L)[a:At L (Ev.au g) cs f](hv:cs[o]?=some (.map n))(hc:c n):ldM w ⟨g,o,none⟩ c:=by
 have:w.cell? ⟨g,o,none⟩=some (.map n):=by rw[h.au.cell];simpa using hv
 simp[ldM,rd,this,toM,hc]
def I2{o:Nat}{v:Value}{c:Value→Prop}(h:St w0 w L)[a:At L (Ev.au g) cs f](hv:cs[o]?=some v)(hc:c v):tH w ⟨g,o,none⟩ c:=akE (by rw[h.au.cell];simpa using hv) hc
def qM{o:Nat}{c:Array Value→Prop}(h:St w0 w L)[a:At L (Ev.au g) cs f](hl:o+n≤cs.length)(hc:c ((cs.drop o).take n).toArray):bx n w ⟨g,o,none⟩ c:=akC h.au (gq hl) hc
def je{c:Array Value→Prop}(h:St w0 w L)[a:At L (Ev.au g) cs f](hl:cs.length=n)(hc:c cs.toArray):bx n w ⟨g,0,none⟩ c:=by
 refine qM h af ?_;rw[List.drop_zero,List.take_of_length_le af];exact hc
def Yz{o:Nat}{vs:Array Value}{c:ap}(h:St w0 w L)[a:At L (Ev.au g) cs f](hn:vs.size=n)(hl:o+n≤cs.length)(h1:∀v∈vs,v.oneCell'=true)
  (hc:∀w',St w0 w' (f (Ev.au g (cs.take o++(vs.toList++cs.drop (o+n)))))→c w'):dQ n w ⟨g,o,none⟩ vs c:=by
 refine agh h.au hn (gq hl) h1 λw' cs' hb hz hk hv b hs=>hc w' (h.M8 a λe hF=>⟨b.mono λk _ hk=>(hF.1 k).2 hk,λk=>k=g,⟨λ_=>Iff.rfl,?_⟩,λk hk=> .inl ((hF.1 k).2 hk)⟩)
 refine agj hb λj=> ?_;have d:cs'.size=cs.length:=gq hz
 simp only[List.getElem?_toArray];by_cases h1:j<o
 ·rw[hk j (.inl h1)];rw[tJ (by simp;omega),List.getElem?_take_of_lt h1];simp
 ·by_cases h2:j<o+n
  ·have:=hv (j - o) af;rw[show o+(j - o)=j by omega]at this
   rw[this];rw[u0 (by simp;omega),tJ (by simp;omega)]
   simp only[List.length_take,Array.getElem?_toList];congr 1;omega
  ·rw[hk j (.inr af)];rw[u0 (by simp;omega),u0 (by simp;omega),List.getElem?_drop]
   simp only[List.length_take,List.getElem?_toArray,Array.length_toList];congr 1;omega
def m7{vs:Array Value}{c:ap}(h:St w0 w L)[a:At L (Ev.au g) cs f](hl:cs.length=n)(hn:vs.size=n)(h1:∀v∈vs,v.oneCell'=true)(hc:∀w',St w0 w' (f (Ev.au g vs.toList))→c w'):dQ n w ⟨g,0,none⟩ vs c:=
 Yz h hn af h1 λw' h'=>hc w' (by
  have e:cs.take 0++(vs.toList++cs.drop (0+n))=vs.toList:=by simp[List.drop_eq_nil_of_le,hl]
  rwa[e]at h')
def eD{w0':World}{L':List HP}{f':HP→List HP}{o:Nat}{c:Prop}(h:St w0 w L)(h':St w0' w' L')[a:At L (Ev.au g) cs f][a':At L' (Ev.au g) cs f'](hc:c):ai n ⟨g,o,none⟩ w w' c:=BV h.au h'.au hc
end
structure qo (sz:Nat) (w:World) (s:Sl) (vs:List Value):Prop where
 len:vs.length=s.n*sz
 cap:s.n≤s.c
 max:s.c≤9223372036854775807
 one:∀x∈vs,x.oneCell'=true
 row:(s.a=none∧s.c=0)∨∃g off cs,s.a=some ⟨g,off,none⟩∧pN w g cs∧off+s.c*sz≤cs.size∧∀i v,vs[i]?=some v→cs[off+i]?=some v
def qo.keep(h:qo sz w s vs)(hk:∀g,s.au=some g→w'.heap[g]?=w.heap[g]?):qo sz w' s vs:=by
 refine⟨h.len,h.cap,h.max,h.one,h.row.imp id ?_⟩;rintro⟨g,off,cs,h1,h2,h3⟩;refine⟨g,off,cs,h1,?_,h3⟩;obtain⟨t,h2⟩:=h2;exact⟨t,(hk g (by simp[Sl.au,h1])).trans h2⟩
def qo.sls(h:qo sz w s vs):Hj sz w s vs:=by
 refine⟨h.len,λi v hv=> ?_⟩;rcases h.row with⟨h1,h2⟩|⟨g,off,cs,h1,h3,_,h5⟩
 ·have h0:=h.cap;have h6:i<vs.length:=(kB.1 hv).1;have h7:=h.len;have:s.n=0:=af;have h8:vs.length=0:=by rw[h7,this];simp
  omega
 ·exact⟨_,h1,by rw[dg,h3.cell];exact h5 i v hv⟩
def bG(sz:Nat)(s:Sl)(vs:List Value):HP where
 p F w:=(∀k,F k↔s.au=some k)∧qo sz w s vs
 lt:=fun⟨e,h⟩ hg=>by
  have hg:=(e _).1 hg
  rcases h.row with⟨h1,_⟩|⟨g',off,cs,h1,h3,_⟩
  ·simp[Sl.au,h1]at hg
  ·simp[Sl.au,h1]at hg;subst hg;exact h3.lt
 keep:=fun⟨e,h⟩ hk=>⟨e,h.keep λg hg=>hk g ((e g).2 hg)⟩
section
variable{f:HP→List HP}
def St.own(h:St w0 w L)[a:At L (bG sz s) vs f]:qo sz w s vs:=by
 obtain⟨F,h1,_⟩:=h.look' a;exact h1.2
def St.Gs(h:St w0 w L)[a:At L (bG sz s) vs f]:vs.length=s.n*sz:=h.own.len
def qo.nil(sz:Nat)(w:World):qo sz w ⟨none,0,0⟩ []:=⟨bf,iw _,bf,bf,.inl ⟨rfl,rfl⟩⟩
def St.DJ(h:St w0 w L)(sz:Nat):St w0 w (bG sz ⟨none,0,0⟩ []::L):=by
 exact h.new (.refl _ _) (F':=λ_=>False) ⟨λk=>by simp[Sl.au],qo.nil sz w⟩ λ_ h=>h.elim
def qo.new{l:List Value}(hb:pN w g l.toArray)(hn:l.length=n*sz)(hm:n≤9223372036854775807)(h1:∀x∈l,x.oneCell'=true):qo sz w ⟨some ⟨g,0,none⟩,n,n⟩ l:=
 ⟨hn,iw _,hm,h1,.inr ⟨g,0,l.toArray,rfl,hb,by simp[hn],λi v hv=>gq hv⟩⟩
def St.asS{cs:List Value}(h:St w0 w L)[a:At L (Ev.au g) cs f](hn:cs.length=n*sz)(hm:n≤9223372036854775807)(h1:∀x∈cs,x.oneCell'=true):St w0 w (f (bG sz ⟨some ⟨g,0,none⟩,n,n⟩ cs)):=
 h.agl a λF hF=>⟨λk=>by rw[hF.1];simp[Sl.au,eq_comm],qo.new hF.2 hn hm h1⟩
def KX{i:Int}{c:Addr→Prop}(h:St w0 w L)[a:At L (bG sz s) vs f](hsz:0<sz)(h0:0≤i)(h1:i<s.n)
  (hc:∀g o,s.au=some g→(∀{w' L' f'},St w0 w' L'→[At L' (bG sz s) vs f']→∀j v,j<sz→vs[i.toNat*sz+j]?=some v→w'.cell? ⟨g,o+j,none⟩=some v)→
   (∀{w':World} {L':List HP} {vs':List Value} {f':HP→List HP} (h':St w0 w' L') (a':At L' (bG sz s) vs' f') (j:Nat) (v:Value) (c':ap),j<sz→v.oneCell'=true→
    (∀w'',St w0 w'' (f' (bG sz s (vs'.set (i.toNat*sz+j) v)))→c' w'')→bN w' ⟨g,o+j,none⟩ v c')→c ⟨g,o,none⟩):cN s i sz c:=by
 have ho:qo sz w s vs:=h.own;have hi:i.toNat<s.n:=af;have hlt:i.toNat*sz+sz≤s.n*sz:=by
  rw[←Nat.succ_mul];exact Nat.mul_le_mul_right _ hi
 rcases ho.row with⟨h2,h3⟩|⟨g,off,cs,h2,h3,h4,h5⟩
 ·have:=ho.cap;omega
 ·unfold cN;rw[h2];refine⟨⟨h0,h1⟩,?_⟩;rw[dg];refine hc g _ (by simp[Sl.au,h2]) ?_ ?_
  ·intro w' L' f' h' a' j v hj hv;obtain⟨p,hp,t⟩:=(h'.own (sz:=sz) (s:=s)).sls.cell _ v hv;rw[h2]at hp;cases hp;rw[dg]at t;rw[Nat.add_assoc];exact t
  ·intro w' L' vs' f' h' a' j v c' hj e z;have d:qo sz w' s vs':=h'.own;rcases d.row with⟨b,_⟩|⟨g',off',cs',b,m,q,r⟩
   ·rw[h2]at b;cases b
   ·rw[h2]at b;cases b;have A:=d.cap;have B:s.n*sz≤s.c*sz:=Nat.mul_le_mul_right _ A;refine abR e m af λw'' hb hs C=>z w'' (h'.M8 a' λD hF=>⟨C.mono λk _ hk=>(hF.1 k).2 (by simp[Sl.au,h2,hk]),D,⟨hF.1,?_⟩,λk hk=> .inl hk⟩)
    refine⟨by rw[List.length_set];exact d.len,d.cap,d.max,λx hx=> ?_,.inr ⟨g,off,_,h2,hb,gq q,λk u hk=> ?_⟩⟩
    ·rcases List.mem_or_eq_of_mem_set hx with hx|rfl
     ·exact d.one x hx
     ·exact e
    ·by_cases l:i.toNat*sz+j=k
     ·subst l;have y:i.toNat*sz+j<vs'.length:=by rw[d.len];omega
      rw[uO y]at hk;cases hk
      rw[show off+i.toNat*sz+j=off+(i.toNat*sz+j) by omega,Array.getElem?_setIfInBounds_self,if_pos (by rw[d.len]at y;omega)]
     ·rw[r0 l]at hk;rw[Array.getElem?_setIfInBounds_ne af];exact r k u hk
def S0(P:Program)(t:TypeId):Option (Nat×Nat×Option Value):=match P.underlying t with
 |some (.slice e)=>(P.info? e).map λi=>(i.size,i.bytes,i.zero)
 |_=>none
structure ET (P:Program) (t:TypeId) (sz b:Nat) (z:Value):Prop where
 info:S0 P t=some (sz,b,some z)
 size:z.cells.size=sz
def ET.out{b:Nat}(h:ET P t sz b z):∃e i,P.underlying t=some (.slice e)∧P.info? e=some i∧i.size=sz∧i.bytes=b∧i.zero=some z:=by
 have h2:=h.info;unfold S0 at h2;split at h2
 ·rename_i e he;cases hi:P.info? e with
  |none=>simp[hi]at h2
  |some i=>simp[hi]at h2;exact⟨e,i,he,hi,h2⟩
 ·cases h2
def aeS(P:Program)(t:TypeId):Bool:=match P.underlying t with|some (.slice _)=>true|_=>false
def aoD(h:aeS P t=true):∃e,P.underlying t=some (.slice e):=by
 unfold aeS at h;split at h
 ·exact⟨_,by assumption⟩
 ·cases h
def Iu{x:Sl}(h:Hj sz w x ys)(hn:n≤x.n):(Builtin.firstCells sz n (.slice x.a x.n x.c)).run P w= .ok (ys.take (n*sz)).toArray w:=by
 have hlen:=h.len;have hle:n*sz≤ys.length:=by rw[hlen];exact Nat.mul_le_mul_right _ hn
 cases ha:x.a with
 |none=>
  have:ys=[]:=by
   cases ys with
   |nil=>rfl
   |cons v l=>obtain⟨p,hp,_⟩:=h.cell 0 v rfl;rw[ha]at hp;cases hp
  subst this;rw[List.take_nil];exact run_firstCells_none w sz n x.n x.c
 |some p=>
  exact run_firstCells_some w sz n p x.n x.c (ys.take (n*sz)) (by rw[List.length_take];omega) λj v hv=>by
   rw[List.getElem?_take]at hv;split at hv
   ·obtain⟨q,hq,hc⟩:=h.cell j v hv;rw[ha]at hq;cases hq;exact hc
   ·cases hv
def arv(hk:P.underlying tx=some (.slice e')){x:Sl}(h:Hj sz w x ys)(h1:∀v∈ys,v.oneCell'=true):Src P sz tx (.slice x.a x.n x.c) x.n ys w:=by
 have e:ys.take (x.n*sz)=ys:=List.take_of_length_le (by rw[h.len];exact iw _)
 refine⟨.inl ⟨e',hk⟩,λ_=>rfl,?_,?_,by rw[h.len],h1⟩
 ·have:=Iu (P:=P) h (iw _);rwa[e]at this
 ·have:=Iu (P:=P) (h.ext (AQ w)) (iw _);rwa[e]at this
def qo.qT{b:Nat}{x:Sl}{c:Sl→ap}(hown:qo sz w s vs)(ht:ET P t sz b z)(hk:aeS P tx=true)
  (hsrc:Hj sz w x ys) (h1:∀v∈ys,v.oneCell'=true) (hbytes:(s.n+x.n)*b≤140737488355328) (h63:s.n+x.n≤9223372036854775807)
  (hc:∀s' w',qo sz w' s' (vs++ys)→o7 (λk=>s.au=some k) w w'→(s'.au=s.au∨∃g,s'.au=some g∧w.heap.size≤g)→s'.n=s.n+x.n→c s' w'):
  og P #[t,tx] ty [.slice s.a s.n s.c,.slice x.a x.n x.c] w c:=by
 obtain⟨e,i,hte,hi,hsz,hby,p⟩:=ht.out;obtain⟨e',hk⟩:=aoD hk;have hs:=arv hk hsrc h1;have q:=hsrc.len;have hlen:=hown.len;have hone:∀v∈vs++ys,v.oneCell'=true:=λv hv=>(zw.1 hv).elim (hown.one v) (h1 v);have hmul:(s.n+x.n)*sz=s.n*sz+x.n*sz:=Nat.add_mul _ _ _;unfold og;by_cases hroom:s.n+x.n≤s.c
 ·rcases hown.row with⟨h2,h3⟩|⟨g,off,cs,h2,h4,h5,h6⟩
  ·have hx0:x.n=0:=af;have hs0:s.n=0:=af;have hys:ys=[]:=List.eq_nil_of_length_eq_zero (by rw[q,hx0,Nat.zero_mul])
   have hxs:vs=[]:=List.eq_nil_of_length_eq_zero (by rw[hlen,hs0,Nat.zero_mul])
   subst hys;subst hxs;rw[h2,hs0,h3];have hr:(Builtin.append_ #[t,tx] ty #[.slice none 0 0,.slice x.a x.n x.c]).run P w= .ok (.slice none 0 0) w:=by
    have hk':=hs.cells;simp only[List.toArray]at hk';have hlen:=hs.len w;rw[hx0]at hlen hk' ⊢;simp[Builtin.append_,run_underlying hte,run_underlying hk,sizeOf,typeInfo,hi,hsz,Builtin.lenOf,Builtin.firstCells]at hk' ⊢;cases f:x.a<;>simp[Builtin.firstCells,f,loadCells,loadCellsFrom]
   simp only[List.toArray]at*
   rw[hr];show c ⟨none,0,0⟩ w;exact hc _ _ (gq (qo.nil sz w)) (.refl _ _) (.inl (by simp[Sl.au,h2])) (by rw[hs0,hx0])
  ·obtain⟨l,d⟩:=h4;have hcap:(s.n+x.n)*sz≤s.c*sz:=Nat.mul_le_mul_right _ hroom;have hcell:∀j,j<ys.length→(w.cell? ⟨g,off+s.n*i.size+j,none⟩).isSome=true:=by
    intro j hj;rw[hsz,(show pN w g cs from⟨l,d⟩).cell];have:off+s.n*sz+j<cs.size:=af;simp[this]
   have m:∀j,j<ys.length→w.frozen? ⟨g,off+s.n*i.size+j,none⟩=false:=λj _=>(show pN w g cs from⟨l,d⟩).frozen _;rw[←hsz]at hs;have hr:=run_append_room_src w t tx ty e i hte hi g off s.n s.c _ x.n ys hs hroom hcell m;obtain⟨cs',r,k2,u,k4,y,A⟩:=KW ys w g (off+s.n*sz) cs d af;rw[hsz]at hr;rw[h2];simp only[List.toArray]at*
   rw[hr];show c ⟨some ⟨g,off,none⟩,s.n+x.n,s.c⟩ _;refine hc _ _ ⟨by simp;omega,hroom,hown.max,hone,.inr ⟨g,off,cs',rfl,⟨l,r⟩,by rw[k2];exact h5,λj v hv=> ?_⟩⟩ (y.mono λk _ hk=>by simp[Sl.au,h2,hk]) (.inl (by simp[Sl.au,h2])) rfl
   by_cases hj:j<vs.length
   ·rw[tJ hj]at hv;rw[u _ af];exact h6 j v hv
   ·rw[u0 af]at hv;have:=k4 _ v hv;rwa[show off+s.n*sz+(j - vs.length)=off+j by omega]at this
 ·have hg:s.c<s.n+x.n:=af;have hfit:Builtin.nextslicecap (s.n+x.n) s.c*i.bytes≤281474976710656:=growslice_fits hg (by rw[hby];exact hbytes)
  have e0:vs.take (s.n*sz)=vs:=List.take_of_length_le af;have hold:=Iu (P:=P) (hown.sls.ext (AQ w)) (iw _);rw[e0]at hold;rw[←hsz]at hold hs;have hr:=run_append_grow_src w t tx ty e i z hte hi p s.a s.n s.c vs hold _ x.n ys hs hg af hfit;simp only[List.toArray]at*
  rw[hr];have hge:=grownCap_ge w (s.n+x.n) s.c e;have o:=grownCap_le_maxLen w (s.n+x.n) s.c e (by unfold maxLen;omega)
  unfold maxLen at o;show c ⟨some ⟨w.heap.size,0,none⟩,s.n+x.n,_⟩ _;have hzs:z.cells.size=sz:=ht.size;refine hc _ _ ⟨by simp;omega,hge,o,hone,.inr ⟨w.heap.size,0,_,rfl,pN.new w.drew _ e,?_,λj v hv=> ?_⟩⟩ (Ext.only ((AQ w).trans (CA _ _))) (.inr ⟨w.heap.size,rfl,iw _⟩) rfl
  ·have h9:(s.n+x.n)*sz≤grownCap w (s.n+x.n) s.c e*sz:=Nat.mul_le_mul_right _ hge;rw[Array.size_append,size_zeroCells,hzs,Nat.sub_mul];simp only[List.size_toArray,uv];omega
  ·have hj:j<(vs++ys).length:=(kB.1 hv).1;rw[Nat.zero_add,Array.getElem?_append_left (gq hj)]
   simpa using hv
def M9{b:Nat}{x:Sl}{c:Sl→ap}(h:St w0 w L)[a:At L (bG sz s) vs f](ht:ET P t sz b z)(hk:aeS P tx=true)
  (hsrc:Hj sz w x ys) (h1:∀v∈ys,v.oneCell'=true) (hbytes:(s.n+x.n)*b≤140737488355328) (h63:s.n+x.n≤9223372036854775807)
  (hc:∀s' w',St w0 w' (f (bG sz s' (vs++ys)))→s'.n=s.n+x.n→c s' w'):og P #[t,tx] ty [.slice s.a s.n s.c,.slice x.a x.n x.c] w c:=
 qo.qT h.own ht hk hsrc h1 hbytes h63 λs' w' ho d hb hn=>hc s' w' (h.M8 a λe hF=>⟨d.mono λk _ hk=>(hF.1 k).2 hk,λk=>s'.au=some k,⟨λ_=>Iff.rfl,ho⟩,λk hk=>by
  rcases hb with hb|⟨g,hg,hge⟩
  ·exact .inl ((hF.1 k).2 (by rw[←hb];exact hk))
  ·rw[hg]at hk;cases hk;exact .inr hge⟩) hn
def Hj.amW{c:Nat}{cs:List Value}{fr:HP→List HP}(h:St w0 w L)[a:At L (Ev.au g) cs fr](hn:cs.length=n*sz):Hj sz w ⟨some ⟨g,0,none⟩,n,c⟩ cs:=
 ⟨hn,λi v hv=>⟨_,rfl,by rw[dg,h.au.cell];simpa using hv⟩⟩
def qo.off{d:Sl}{ys:List Value}{lo:Nat}(h:qo sz w s vs)(hy:ys.length=d.n*sz)(hc:d.n≤d.c)(b:lo+d.c≤s.c)(ha:d.a=s.a.map (·.add (lo*sz))∨(d.a=s.a∧d.c=0))(hv:∀i v,ys[i]?=some v→vs[lo*sz+i]?=some v):qo sz w d ys:=by
 have e:=h.max;have hm:(lo+d.c)*sz≤s.c*sz:=Nat.mul_le_mul_right _ b;rw[Nat.add_mul]at hm;refine⟨hy,hc,af,λx hx=> ?_,?_⟩
 ·obtain⟨i,hi,rfl⟩:=List.getElem_of_mem hx;have:=hv i ys[i] (by simp[hi])
  exact h.one _ (qn this)
 ·rcases h.row with⟨h1,h2⟩|⟨g,off,cs,h1,h3,h4,h5⟩
  ·refine .inl ⟨?_,af⟩;rcases ha with ha|⟨ha,_⟩<;>rw[ha,h1] <;>rfl
  ·rcases ha with ha|⟨ha,f⟩
   ·exact .inr ⟨g,off+lo*sz,cs,by rw[ha,h1];simp,h3,af,λi v hi=>by rw[Nat.add_assoc];exact h5 _ _ (hv i v hi)⟩
   ·have hy0:ys=[]:=List.eq_nil_of_length_eq_zero (by
      rw[hy];have:d.n=0:=af;rw[this,Nat.zero_mul])
    subst hy0;exact .inr ⟨g,off,cs,by rw[ha,h1],h3,by rw[f,Nat.zero_mul];omega,λi v hi=>by simp at hi⟩
def arw{lo:Int}{c:Sl→Prop}(h:St w0 w L)[a:At L (bG sz s) vs f](h0:0≤lo)(h1:lo≤s.n)
  (hc:∀d:Sl,d.n=s.n - lo.toNat→St w0 w (f (bG sz d (vs.drop (lo.toNat*sz))))→c d):slL s sz lo c:=by
 have ho:qo sz w s vs:=h.own;have hcap:=ho.cap;have hlen:=ho.len;refine⟨⟨h0,h1⟩,hc _ rfl (h.agl a λF hF=>⟨λk=> ?_,ho.off (lo:=lo.toNat) (by simp[hlen,Nat.sub_mul]) (by simp;omega) (by simp;omega) ?_ λi v hi=>gq hi⟩)⟩
 ·rw[hF.1];by_cases hq:s.c=lo.toNat
  ·simp[Sl.au,hq]
  ·simp only[Sl.au,hq,if_false];cases s.a with
   |none=>simp
   |some p=>simp[aY];split<;>rfl
 ·by_cases hq:s.c=lo.toNat
  ·right;simp[hq]
  ·left;simp[hq]
def akJ{lo hi:Int}{c:Sl→Prop}(h:St w0 w L)[a:At L (bG sz s) vs f](h0:0≤lo)(h1:lo≤hi)(h2:hi≤s.n)
  (hc:∀d:Sl,d.n=hi.toNat - lo.toNat→St w0 w (f (bG sz d ((vs.drop (lo.toNat*sz)).take ((hi.toNat - lo.toNat)*sz))))→c d):Th s sz lo hi c:=by
 have ho:qo sz w s vs:=h.own;have hcap:=ho.cap;have hlen:=ho.len;have hm:(hi.toNat - lo.toNat)*sz≤(s.n - lo.toNat)*sz:=Nat.mul_le_mul_right _ af;refine⟨⟨af,af⟩,⟨h0,h1⟩,hc _ rfl (h.agl a λF hF=>⟨λk=> ?_,ho.off (lo:=lo.toNat) ?_ (by simp;omega) (by simp;omega) ?_ λi v hi=> ?_⟩)⟩
 ·rw[hF.1];by_cases hq:s.c=lo.toNat
  ·simp[Sl.au,hq]
  ·simp only[Sl.au,hq,if_false];cases s.a with
   |none=>simp
   |some p=>simp[aY];split<;>rfl
 ·rw[List.length_take,List.length_drop,hlen,←Nat.sub_mul];exact Nat.min_eq_left hm
 ·by_cases hq:s.c=lo.toNat
  ·right;simp[hq]
  ·left;simp[hq]
 ·rw[List.getElem?_take]at hi;split at hi
  ·simpa using hi
  ·cases hi
def AT{b:Nat}{kc:IntKind}{c:Sl→ap}(h:St w0 w L)(ht:ET P t 1 b z)(a:z.oneCell'=true)
  (hbytes:b*n≤281474976710656) (h63:n≤9223372036854775807)
  (hc:∀s w',St w0 w' (bG 1 s (dU n z)::L)→s.n=n→c s w'):xz P t (.int kl (n:Int)) (.int kc (n:Int)) w c:=by
 obtain⟨e,i,hte,hi,hsz,hby,d⟩:=ht.out;refine amV ⟨hte,by rw[hi];simp[hsz,hby,d]⟩ a (iw _) hbytes h63 λs w' ho he h1 h2 h3 h4=>hc s w' (h.new he ⟨λ_=>Iff.rfl,?_⟩ λk hk=> ?_) h1
 ·refine⟨by simp[h1],ho.cap,ho.max,ho.one,ho.row.imp id ?_⟩
  rintro⟨g,off,cs,e1,e2,f,j,l⟩;exact⟨g,off,cs,e1,f,gq j,l⟩
 ·rw[h3]at hk;cases hk;exact iw _
def qo.aDh{b:Nat}{kk:IntKind}{c:Sl→ap}(hown:qo 1 w s vs)(ht:ET P t 1 b z)(hk:P.underlying tx=some (.int .i64))(k:z.oneCell'=true)
  (hfull:s.n=s.c) (hn:0<n) (hbytes:(s.n+n)*b≤140737488355328) (h63:s.n+n≤9223372036854775807)
  (hc:∀s' w',qo 1 w' s' (vs++dU n z)→Ext w w'→s'.au=some w.heap.size→s'.n=s.n+n→c s' w'):
  og P #[t,tx] ty [.slice s.a s.n s.c,.int .i64 (n:Int)] w c:=by
 obtain⟨e,i,hte,hi,hsz,hby,m⟩:=ht.out;have hlen:=hown.len;unfold og;have hg:s.c<s.n+n:=af;have hnot:¬(s.n+n≤s.c):=af;have hfit:Builtin.nextslicecap (s.n+n) s.c*i.bytes≤281474976710656:=growslice_fits hg (by rw[hby];exact hbytes)
 have e0:vs.take (s.n*1)=vs:=List.take_of_length_le af;have hold:=Iu (P:=P) (hown.sls.ext (AQ w)) (iw _);rw[e0]at hold;have hge:=grownCap_ge w (s.n+n) s.c e;have l:=grownCap_le_maxLen w (s.n+n) s.c e (by unfold maxLen;omega)
 unfold maxLen at l;have hw:IntKind.i64.wrap (n:Int)=n:=kg ⟨af,af⟩;have q:n*b≤140737488355328:=Nat.le_trans (Nat.mul_le_mul_right _ af) hbytes;have o:¬(281474976710656<(n:Int)*(b:Int)):=by
  have:((n*b:Nat):Int)≤140737488355328:=af;rw[Int.natCast_mul]at this;omega
 have d:¬(9223372036854775807<((s.n:Int)+(n:Int))):=af;have f:¬(281474976710656<Builtin.nextslicecap (s.n+n) s.c*b):=by rw[←hby];omega
 have hneg:¬((n:Int)<0):=af;have p:n≠0:=af;have g:Builtin.zeroCells #[z] n=(dU n z).toArray:=by
  apply Array.ext
  ·simp[size_zeroCells]
  ·intro j h1 h2;simp[Builtin.zeroCells,Nat.mod_one]
 have hr:(Builtin.append_ #[t,tx] ty #[.slice s.a s.n s.c,.int .i64 (n:Int)]).run P w=
   .ok (.slice (some ⟨w.heap.size,0,none⟩) (s.n+n) (grownCap w (s.n+n) s.c e)) (w.drew.alloc (.cells ((vs++dU n z).toArray++Builtin.zeroCells z.cells (grownCap w (s.n+n) s.c e - (s.n+n))) e)):=by
  simp[Builtin.append_,run_underlying hte,run_underlying hk,sizeOf,typeInfo,zeroValue,hi,m,hsz,hby,hw,o,hneg,hnot,d,f,p,Question.forced,hold,newRow,grownCap,asInt,asIntOf,Cy k,g];congr 2;apply Array.ext';simp[List.append_assoc]
 simp only[List.toArray]at*
 rw[hr];show c ⟨some ⟨w.heap.size,0,none⟩,s.n+n,_⟩ _;refine hc _ _ ⟨by simp;omega,hge,l,λv hv=>(zw.1 hv).elim (hown.one v) λhv=>by rw[(List.mem_replicate.1 hv).2];exact k,.inr ⟨w.heap.size,0,_,rfl,pN.new w.drew _ e,?_,λj v hv=> ?_⟩⟩ ((AQ w).trans (CA _ _)) rfl rfl
 ·rw[Array.size_append,size_zeroCells,ht.size];simp only[List.size_toArray,uv,List.length_replicate];omega
 ·have hj:j<(vs++dU n z).length:=(kB.1 hv).1;rw[Nat.zero_add,Array.getElem?_append_left (gq hj)]
  simpa using hv
def ary{b:Nat}{c:Sl→ap}(h:St w0 w L)[a:At L (bG 1 s) vs f](ht:ET P t 1 b z)(hk:P.underlying tx=some (.int .i64))(d:z.oneCell'=true)
  (hfull:s.n=s.c) (hn:0<n) (hbytes:(s.n+n)*b≤140737488355328) (h63:s.n+n≤9223372036854775807)
  (hc:∀s' w',St w0 w' (f (bG 1 s' (vs++dU n z)))→s'.n=s.n+n→c s' w'):og P #[t,tx] ty [.slice s.a s.n s.c,.int .i64 (n:Int)] w c:=
 qo.aDh (kk:= .i64) h.own ht hk d hfull hn hbytes h63 λs' w' ho he hb hn'=>hc s' w' (h.M8 a λe hF=>⟨he.only,λk=>s'.au=some k,⟨λ_=>Iff.rfl,ho⟩,λk hk=>by
  rw[hb]at hk;cases hk;exact .inr (iw _)⟩) hn'
def aw0{hi mx:Int}{c:Sl→Prop}(h:St w0 w L)[a:At L (bG sz s) vs f](h1:0≤hi)(h2:hi≤s.n)(h3:hi≤mx)(h4:mx≤s.c)
  (hc:∀d:Sl,d.n=hi.toNat→d.c=mx.toNat→St w0 w (f (bG sz d (vs.take (hi.toNat*sz))))→c d):aqT s sz 0 hi mx c:=by
 have ho:qo sz w s vs:=h.own;have hcap:=ho.cap;have hlen:=ho.len;have hm:hi.toNat*sz≤s.n*sz:=Nat.mul_le_mul_right _ af;refine⟨⟨af,af⟩,⟨h1,h3⟩,⟨Int.le_refl _,h1⟩,hc _ bf bf (h.agl a λF hF=>⟨λk=> ?_,ho.off (lo:=0) ?_ (by simp;omega) (by simp;omega) ?_ λi v hi=> ?_⟩)⟩
 ·rw[hF.1];by_cases hq:mx.toNat=(0:Int).toNat
  ·simp[Sl.au,hq]
  ·simp only[Sl.au,hq,if_false];cases s.a with
   |none=>simp
   |some p=>simp[aY]
 ·rw[List.length_take,hlen];simp only[Int.toNat_zero,Nat.sub_zero];exact Nat.min_eq_left hm
 ·by_cases hq:mx.toNat=(0:Int).toNat
  ·right;simp at hq;simp[hq]
  ·left;simp only[hq,if_false];rfl
 ·rw[List.getElem?_take]at hi;split at hi
  ·simpa using hi
  ·cases hi
def l9(A:List HP):HP where
 p:=u4 A
 lt:=DI
 keep:=FD
def Gt(X:α→HP):HP where
 p F w:=∃a,(X a).p F w
 lt:=fun⟨a,h⟩ hg=>(X a).lt h hg
 keep:=fun⟨a,h⟩ hk=>⟨a,(X a).keep h hk⟩
def Kf(p:Prop)(X:HP):HP where
 p F w:=p∧X.p F w
 lt:=fun⟨_,h⟩ hg=>X.lt h hg
 keep:=fun⟨a,h⟩ hk=>⟨a,X.keep h hk⟩
def zA:∀{A B:List HP} {F w},u4 (l9 A::B) F w↔u4 (A++B) F w
 |[],B,F,w=>by
  constructor
  ·rintro⟨c,a,h1,h2,_,e⟩;exact aoB (λg=>by rw[e];exact⟨.inr,λh=>h.elim (λh=>(h1 g h).elim) id⟩) h2
  ·intro h;exact⟨λ_=>False,F,λg hg=>hg,h,λg hg=>hg.elim,λg=>by simp⟩
 |R::A,B,F,w=>by
  constructor
  ·rintro⟨c,a,⟨G1,G2,d,k2,kd,b⟩,h2,hd,e⟩;refine⟨G1,λg=>G2 g∨a g,d,zA.1 ⟨G2,a,k2,h2,λg hg=>hd g ((b g).2 (.inr hg)),λ_=>Iff.rfl⟩,λg hg f=> ?_,λg=> ?_⟩
   ·rcases f with h|h
    ·exact kd g hg h
    ·exact hd g ((b g).2 (.inl hg)) h
   ·rw[e,b,or_assoc]
  ·rintro⟨G1,G2,d,k2,kd,b⟩;obtain⟨c,a,h1,h2,hd,e⟩:=zA.2 k2;refine⟨λg=>G1 g∨c g,a,⟨G1,c,d,h1,λg hg hf=>kd g hg ((e g).2 (.inl hf)),λ_=>Iff.rfl⟩,h2,λg hg hf=> ?_,λg=> ?_⟩
   ·rcases hg with h|h
    ·exact kd g h ((e g).2 (.inr hf))
    ·exact hd g h hf
   ·rw[b,e,or_assoc]
def St.open{A B:List HP}(h:St w0 w (l9 A::B)):St w0 w (A++B):=⟨h.ext,by obtain⟨F,h1,h2⟩:=h.sep;exact⟨F,zA.1 h1,h2⟩⟩
def St.shut{A B:List HP}(h:St w0 w (A++B)):St w0 w (l9 A::B):=⟨h.ext,by obtain⟨F,h1,h2⟩:=h.sep;exact⟨F,zA.2 h1,h2⟩⟩
def St.some{X:α→HP}(h:St w0 w (Gt X::L)):∃a,St w0 w (X a::L):=by
 obtain⟨h1,F,⟨b,c,⟨a,h2⟩,h4⟩,h3⟩:=h;exact⟨a,h1,F,⟨b,c,h2,h4⟩,h3⟩
def St.ex{X:α→HP}(a:α)(h:St w0 w (X a::L)):St w0 w (Gt X::L):=h.conv λF hF=>⟨a,hF⟩
def St.pure{p:Prop}(h:St w0 w (Kf p X::L)):p∧St w0 w (X::L):=by
 obtain⟨F,hF,_⟩:=h.look;exact⟨hF.1,h.conv λF hF=>hF.2⟩
def St.YA{p:Prop}(hp:p)(h:St w0 w (X::L)):St w0 w (Kf p X::L):=h.conv λF hF=>⟨hp,hF⟩
def vU{xs:List Int}(h:i<xs.length):(ints xs)[i]?=some (.int .i64 (xs.getD i 0)):=by
 simp[ints,m0,h]
def zB{xs:List Int}{i:Int}{c:Int→Prop}(h:St w0 w L)[a:At L (bG 1 s) (ints xs) f](h0:0≤i)(h1:i<xs.length)(hc:c (xs.getD i.toNat 0)):cN s i 1 λa=>aJ .i64 w a c:=by
 have hn:xs.length=s.n:=by have:=h.Gs (sz:=1) (s:=s);simpa using this
 refine KX h af h0 af λg o _ hr _=>uZ ?_ hc;have:=hr h 0 _ af (vU af);simpa using this
def zC{xs:List Int}{i:Int}{x:Int}{c:ap}(h:St w0 w L)[a:At L (bG 1 s) (ints xs) f](h0:0≤i)(h1:i<xs.length)(hc:∀w',St w0 w' (f (bG 1 s (ints (xs.set i.toNat x))))→c w'):cN s i 1 λa=>bN w a (.int .i64 x) c:=by
 have hn:xs.length=s.n:=by have:=h.Gs (sz:=1) (s:=s);simpa using this
 refine KX h af h0 af λg o _ _ hs=> ?_;have:=hs h a 0 (.int .i64 x) c af rfl λw' h'=>hc w' (by
  have e:(ints xs).set (i.toNat*1+0) (.int .i64 x)=ints (xs.set i.toNat x):=by simp[ints,List.map_set]
  rwa[e]at h')
 simpa using this
def abZ{a:Addr}{v:Value}{c:Prop}(h:w.cell? a=some v)(h':w'.cell? a=some v)(hc:c):ai 1 a w w' c:=
 ⟨λk hk=>by
  have:k=0:=af;subst this;rw[add_zero,h,h'],hc⟩
end
def QN{e:List Value}{i:Int}{c:Addr→Prop}(hR:QM sz w0 s es)(h:St w0 w L)(h0:0≤i)(he:es[i.toNat]?=some e)
  (hc:∀p:Addr,(∀{w' L'},St w0 w' L'→∀{j v},e[j]?=some v→w'.cell? (p.add j)=some v)→c p):cN s i sz c:=by
 have hlen:=hR.len;have hlt:=(kB.1 he).1;refine akF hR h0 af λp e' he' hl hcell=>hc p fun{w' L'} hS {j v} hv=> ?_;rw[he]at he';cases he';exact hS.ext.cell (hcell j v hv)
def St.same{k:α→HP}{x:α}{f:HP→List HP}(h:St w0 w L)(a:At L k x f):St w0 w (f (k x)):=by
 obtain⟨R,h1,h2⟩:=a.out;exact h2 (h1 h)
def bV{id:FuncId}{first captured:Array Value}{c:Value→ap}{d:bt}(e:∀args w c,bY (.func id) args w c=d args.toList w c)(h:d (first++args++captured).toList w c):nj bY (.func (.func id) first captured) args w c:=by
 show bY (.func id) (first++args++captured) w c
 rw[e];exact h
end Go.Ev
